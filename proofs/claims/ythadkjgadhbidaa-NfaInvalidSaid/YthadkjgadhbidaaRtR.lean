/-
  The walk of the reference's Run (automata).
-/
import Derived.Test.YthadkjgadhbidaaRtV
import Derived.Test.YthadkjgadhbidaaRnL
namespace Go.Proofs.Ythadkjgadhbidaa
open Go.RowKit
set_option linter.unusedVariables false

theorem clo_up {g : Gr} (hm : GMono g) {bol eol : Bool} {S A B : Nat → Prop} (hA : ∀ s, A s ↔ Clo g bol false S s) (hB : ∀ s, B s ↔ Clo g bol eol S s) (s : Nat) : B s ↔ Clo g bol eol A s := by
  rw [hB]
  constructor
  · exact Clo.congr fun s hs => (hA s).2 (.here s hs)
  · intro h
    induction h with
    | here s hs =>
      have h1 := (hA s).1 hs
      clear hs
      induction h1 with
      | here s hs => exact .here s hs
      | step s s' _ he ih =>
        refine .step s s' ih ?_
        cases eol
        · exact he
        · exact hm _ _ _ he
    | step s s' _ he ih => exact .step s s' ih he
theorem upd_zero (V : Nat → Bool) (s : Nat) : updV V 0 s = true ↔ (V s = true ∨ s = 0) := by
  unfold updV
  by_cases h : s = 0
  · rw [if_pos h]; exact ⟨fun _ => Or.inr h, fun _ => rfl⟩
  · rw [if_neg h]; exact ⟨Or.inl, fun q => q.resolve_right h⟩
theorem out_nd {st : List Nd} {s : Nat} (h : ¬ s < st.length) : (nd st s).kind = 0 := by
  unfold nd; rw [List.getD_eq_getElem?_getD, List.getElem?_eq_none (by omega)]; rfl
theorem acc_fin {st : List Nd} {V : Nat → Bool} (h : acceptedM st V = true) : ∃ s, V s = true ∧ (nfaG st).fin s := by
  obtain ⟨s, _, h2, h3⟩ := (acceptedM_iff st V).1 h
  exact ⟨s, h2, h3⟩
theorem acc_not {st : List Nd} {V : Nat → Bool} (h : acceptedM st V = false) (s : Nat) (hs : V s = true) : ¬ (nfaG st).fin s := by
  intro hf
  have h5 : (nd st s).kind = 5 := hf
  by_cases hl : s < st.length
  · rw [(acceptedM_iff st V).2 ⟨s, hl, hs, h5⟩] at h; cases h
  · rw [out_nd hl] at h5; simp at h5
theorem acc_congr {st : List Nd} {V V' : Nat → Bool} (h : ∀ s, V s = true ↔ V' s = true) : acceptedM st V = acceptedM st V' := by
  rw [Bool.eq_iff_iff, acceptedM_iff, acceptedM_iff]
  exact ⟨fun ⟨s, a, b, c⟩ => ⟨s, a, (h s).1 b, c⟩, fun ⟨s, a, b, c⟩ => ⟨s, a, (h s).2 b, c⟩⟩
def NxV (st : List Nd) (ch : Nat) (VB : Nat → Bool) (k : Nat) (V : Nat → Bool) : Prop := ∀ s, V s = true ↔ ∃ s1, s1 < k ∧ VB s1 = true ∧ (nfaG st).byt ch s1 s
theorem NxV.skip {st : List Nd} {ch k : Nat} {VB V : Nat → Bool} (h : NxV st ch VB k V) (hn : ∀ s, ¬ (VB k = true ∧ (nfaG st).byt ch k s)) : NxV st ch VB (k + 1) V := by
  intro s
  rw [h s]
  constructor
  · rintro ⟨s1, a, b⟩; exact ⟨s1, by omega, b⟩
  · rintro ⟨s1, a, b, c⟩
    by_cases e : s1 = k
    · subst e; exact absurd ⟨b, c⟩ (hn s)
    · exact ⟨s1, by omega, b, c⟩
theorem NxV.put {st : List Nd} {ch k a : Nat} {VB V : Nat → Bool} (h : NxV st ch VB k V) (hk : VB k = true) (hb : ∀ s, (nfaG st).byt ch k s ↔ s = a) : NxV st ch VB (k + 1) (updV V a) := by
  intro s
  unfold updV
  by_cases e : s = a
  · rw [if_pos e]; exact ⟨fun _ => ⟨k, by omega, hk, (hb s).2 e⟩, fun _ => rfl⟩
  · rw [if_neg e, h s]
    constructor
    · rintro ⟨s1, a, b⟩; exact ⟨s1, by omega, b⟩
    · rintro ⟨s1, a, b, c⟩
      by_cases e1 : s1 = k
      · subst e1; exact absurd ((hb s).1 c) e
      · exact ⟨s1, by omega, b, c⟩
theorem NxV.all {st : List Nd} {ch : Nat} {VB V : Nat → Bool} (h : NxV st ch VB st.length V) (s : Nat) : V s = true ↔ ∃ s1, VB s1 = true ∧ (nfaG st).byt ch s1 s := by
  rw [h s]
  constructor
  · rintro ⟨s1, _, b⟩; exact ⟨s1, b⟩
  · rintro ⟨s1, b, c⟩
    by_cases hl : s1 < st.length
    · exact ⟨s1, hl, b, c⟩
    · have := c.1
      rw [out_nd hl] at this
      simp at this
def RunRel (w : World) (st : List Nd) (t : List Nat) (v vi : Value) (wr : World) : Prop :=
  ∃ (i : Nat) (V : Nat → Bool), vi = .int .i64 i ∧ i ≤ t.length + 1 ∧ Hid (Own wr w.heap.size 4 1 v st.length (rowV st.length V)) ∧ Hid (Old w wr) ∧
    Hid (i ≤ t.length → ∀ r, Runs (nfaG st) t i (fun s => V s = true) r → Runs (nfaG st) t 0 (fun _ => False) r) ∧ Hid (i = t.length + 1 → Runs (nfaG st) t 0 (fun _ => False) (-1))
def NxRel (w5 : World) (st : List Nd) (gN ch : Nat) (VB : Nat → Bool) (vk : Value) (wr : World) : Prop :=
  ∃ (k : Nat) (V : Nat → Bool), vk = .int .i64 k ∧ k ≤ st.length ∧ Hid (Own wr w5.heap.size 4 1 (.slice (some ⟨gN, 0, none⟩) st.length st.length) st.length (rowV st.length V)) ∧ Hid (Old w5 wr) ∧ Hid (NxV st ch VB k V)
set_option maxHeartbeats 16000000 in
set_option maxRecDepth 100000 in
theorem rrunC (A At : Option Addr) (c ct : Nat) (st : List Nd) (t : List Nat) (w : World) (hs : Rs w A (ndsV st)) (ht : Rs w At (txt t)) (hm : st.length ≤ maxLen) (hmt : t.length ≤ 1000000000) (h8 : ∀ x ∈ t, x < 256) (hso : ∀ x ∈ st, setOk x.set) :
    Calls Try.prog 19 #[.slice A st.length c, .slice At t.length ct] w (ValOld (.int .i64 (nrunM st t)) w) := by
  have HVC := Lib.hid (rsvalidC A c st w hs hm)
  cases hv : svalid st with
  | false =>
    have HE : Hid (nrunM st t = -1) := Lib.hid (by unfold nrunM; rw [hv]; rfl)
    rw [hv] at HVC
    go_enter Try.func19, Try.ntmps19
    go_wp2_with fail
    refine (HVC.out).mono ?_; rintro e w1 ⟨rfl, hd1⟩
    go_wp2_with fail
    go_ret
    rw [HE.out]
    exact ⟨rfl, hd1⟩
  | true =>
    rw [hv] at HVC
    obtain ⟨hl1, hl2, hok⟩ := svalid_ok hv
    have HS := Lib.hid hs
    have HT := Lib.hid ht
    have H8 := Lib.hid h8
    have HOK := Lib.hid hok
    have HV := Lib.hid hv
    have HFIN : Hid (∀ r, Runs (nfaG st) t 0 (fun _ => False) r → r = nrunM st t) := Lib.hid (fun r h => (Runs.law0 (nfaG_mono st) h).one (nrun_least hv t))
    clear hs ht hm h8 hok hv hso
    go_enter Try.func19, Try.ntmps19
    go_wp2_with fail
    refine (HVC.out).mono ?_; rintro e w1 ⟨rfl, hd1⟩
    have HD1 := Lib.hid hd1
    clear hd1 HVC
    go_wp2_with (at_make; refine wpList_makeN rfl _ _ 68 rfl 4 (.bool false) 1 1 Try.underlying68 info_bo (by decide) .i64 .i64 _ _ st.length rfl rfl ?pl1 ?pc1 ?pn1 ?_)
    case pl1 => omega
    case pc1 => omega
    case pn1 => omega
    intro w1' ho1 hd1
    rw [made_row] at ho1
    have HST : Hid (RunRel w st t (.slice (some ⟨w1.heap.size, 0, none⟩) st.length st.length) (.int .i64 0) w1') := Lib.hid ⟨0, fun _ => false, rfl, by omega, Lib.hid (ho1.base HD1.out.size), Lib.hid (HD1.out.up hd1), Lib.hid (fun _ r h => by
      have e : (fun s => (fun (_ : Nat) => false) s = true) = (fun _ : Nat => False) := by funext s; simp
      rwa [e] at h), Lib.hid (fun h => by omega)⟩
    clear ho1 hd1 HD1
    go_wp2_with fail
    go_loopw [5, 6] (fun s5 s6 wr => RunRel w st t s5 s6 wr) (fun _ s6 _ => t.length + 1 - (intOf s6).toNat)
    case atStart => exact HST.out
    case round =>
      clear HST
      obtain ⟨i, V, rfl, hi, HOW, HD, HR1, HR2⟩ := hrel
      by_cases hle : i ≤ t.length
      · have j1 : (i : Int) ≤ (t.length : Int) := by omega
        obtain ⟨g, cs, rfl, _, _, _, _⟩ := HOW.out.form (by omega)
        obtain ⟨c0, f0⟩ := HOW.out.cellAt (rowV_get V (show 0 < st.length by omega))
        have hset := HOW.out.set_ 0 (.bool true)
        rw [rowV_set] at hset
        have HO2 := Lib.hid (show Own (wr.setCell ⟨g, 0, none⟩ (.bool true)) w.heap.size 4 1 (.slice (some ⟨g, 0, none⟩) st.length cs) st.length (rowV st.length (updV V 0)) from hset.1)
        have HD2 := Lib.hid (Own.grown_old HD.out HOW.out (Nat.le_refl _) hset.2)
        clear hset HOW HD
        have HTX2 := Lib.hid (HT.out.up HD2.out)
        by_cases hil : i < t.length
        · have HIL := Lib.hid hil
          obtain ⟨bT, oT, rfl, _, hcT⟩ := HTX2.out.at_ (by rw [txt_length]; omega)
          have cE := hcT _ _ (txt_get t i hil)
          have HEV : Hid (eolT t i = (((t.getD i 0 : Nat) : Int) == 10)) := Lib.hid (by
            unfold eolT
            have e2 : ((((t.getD i 0 : Nat) : Int) == 10)) = (t.getD i 0 == 10) := by rw [Bool.eq_iff_iff, beq_iff_eq, beq_iff_eq]; omega
            rw [e2, decide_eq_true hil]; rfl)
          obtain ⟨ch1, hch1⟩ : ∃ x, t.getD i 0 = x := ⟨_, rfl⟩
          rw [hch1] at cE HEV
          clear hch1 HTX2
          by_cases hi0 : i = 0
          · have b0 : ((i : Int) == 0) = true := by simp; omega
            have HBV : Hid (bolT t i = true) := Lib.hid (by rw [hi0]; rfl)
            have iL : (i : Int) < (t.length : Int) := by omega
            have i0 : (0 : Int) ≤ (i : Int) := by omega
            clear hcT hi0
            go_upto_region 10 with fail
            generalize (((ch1 : Nat) : Int) == 10) = ev at *
            clear cE b0
            generalize hw2 : wr.setCell ⟨g, 0, none⟩ (.bool true) = w2 at *
            obtain ⟨_, _, he2, ht2, _, _⟩ := HO2.out.shape
            injection he2 with he2 _ he3
            subst he2
            subst he3
            have HC1 := Lib.hid (reachC A _ c cs st (updV V 0) true false w2 (HS.out.up HD2.out) ht2.rs HV.out)
            have HC3 := Lib.hid (fun w' (h : Old w2 w') => reachC A _ c cs st (updV V 0) true ev w' (HS.out.up (HD2.out.up h)) (ht2.rs.up h) HV.out)
            clear ht2 c0 f0
            go_wp2_with fail
            refine (HC1.out).mono ?_; rintro e w3 ⟨vA, VA, rfl, hoA, hA, hd3⟩
            obtain ⟨AA, cA, rfl, htA, _, _⟩ := hoA.shape
            have HC2 := Lib.hid (acceptedC A AA c cA st VA w3 (HS.out.up (HD2.out.up hd3)) htA.rs (by omega))
            have HA := Lib.hid hA
            have HD3 := Lib.hid hd3
            clear hoA hA hd3 htA HC1
            cases haA : acceptedM st VA with
            | true =>
              rw [haA] at HC2
              have HE : Hid ((i : Int) = nrunM st t) := Lib.hid (HFIN.out _ (HR1.out (by omega) _ (.done i _ (fun s => VA s = true) (fun s => by rw [HA.out s, HBV.out]; exact Clo.iff_ (fun s => upd_zero V s) s) (acc_fin haA))))
              clear HC3 HA haA HR1 HR2 HBV HEV
              go_wp2_with fail
              refine (HC2.out).mono ?_; rintro e w4 ⟨rfl, hd4⟩
              have HX := Lib.hid (HD2.out.up (HD3.out.up hd4))
              clear hd4 HC2
              go_wp2_with fail
              go_ret
              rw [← HE.out]
              exact ⟨rfl, HX.out⟩
            | false =>
              rw [haA] at HC2
              have HAN := Lib.hid haA
              clear haA
              go_wp2_with fail
              refine (HC2.out).mono ?_; rintro e w4 ⟨rfl, hd4⟩
              have HD4 := Lib.hid (HD3.out.up hd4)
              have HC4 := Lib.hid (HC3.out w4 HD4.out)
              clear hd4 HC2 HC3 HD3
              go_wp2_with fail
              refine (HC4.out).mono ?_; rintro e w5 ⟨vB, VB, rfl, hoB, hB, hd5⟩
              obtain ⟨AB, cB, rfl, htB, _, _⟩ := hoB.shape
              have HC5 := Lib.hid (acceptedC A AB c cB st VB w5 (HS.out.up (HD2.out.up (HD4.out.up hd5))) htB.rs (by omega))
              have HB := Lib.hid hB
              have HD5 := Lib.hid (HD4.out.up hd5)
              have HRB := Lib.hid htB.rs
              clear hoB hB hd5 htB HC4 HD4
              have HCB := Lib.hid (clo_up (nfaG_mono st) (S := fun s => updV V 0 s = true) (A := fun s => VA s = true) (B := fun s => VB s = true) HA.out HB.out)
              cases haB : acceptedM st VB with
              | true =>
                rw [haB] at HC5
                have HE : Hid ((i : Int) + 1 = nrunM st t) := Lib.hid (HFIN.out _ (HR1.out (by omega) _ (.late i _ (fun s => VA s = true) (fun s => VB s = true) (fun s => by rw [HA.out s, HBV.out]; exact Clo.iff_ (fun s => upd_zero V s) s) (acc_not HAN.out) HIL.out (fun s => by rw [HCB.out s, HBV.out, HEV.out]) (acc_fin haB))))
                clear HA HB haB HR1 HR2 HBV HEV HCB HAN
                go_wp2_with fail
                refine (HC5.out).mono ?_; rintro e w6 ⟨rfl, hd6⟩
                have HX := Lib.hid (HD2.out.up (HD5.out.up hd6))
                clear hd6 HC5
                go_wp2_with fail
                go_ret
                rw [← HE.out]
                exact ⟨rfl, HX.out⟩
              | false =>
                rw [haB] at HC5
                have HRN : Hid (∀ V', NxV st (t.getD i 0) VB st.length V' → ∀ r, Runs (nfaG st) t (i + 1) (fun s => V' s = true) r → Runs (nfaG st) t 0 (fun _ => False) r) := Lib.hid (fun V' hV r hr => HR1.out (by omega) _ (.step i _ (fun s => VA s = true) (fun s => VB s = true) (fun s => V' s = true) r (fun s => by rw [HA.out s, HBV.out]; exact Clo.iff_ (fun s => upd_zero V s) s) (acc_not HAN.out) HIL.out (fun s => by rw [HCB.out s, HBV.out, HEV.out]) (acc_not haB) (fun s => hV.all s) hr))
                clear HA HB haB HR1 HR2 HBV HEV HCB HAN
                go_wp2_with fail
                refine (HC5.out).mono ?_; rintro e w6 ⟨rfl, hd6⟩
                have HD6 := Lib.hid (HD5.out.up hd6)
                have HRB6 := Lib.hid (HRB.out.up hd6)
                clear hd6 HC5 HRB HD5
                go_wp2_with (at_make; refine wpList_makeN rfl _ _ 68 rfl 4 (.bool false) 1 1 Try.underlying68 info_bo (by decide) .i64 .i64 _ _ st.length rfl rfl ?pl2 ?pc2 ?pn2 ?_)
                case pl2 => omega
                case pc2 => omega
                case pn2 => omega
                intro w7 ho7 hd7
                rw [made_row] at ho7
                have HST : Hid (NxRel w6 st w6.heap.size (t.getD i 0) VB (.int .i64 0) w7) := Lib.hid ⟨0, fun _ => false, rfl, Nat.zero_le _, Lib.hid ho7, Lib.hid hd7, Lib.hid (fun s => ⟨fun h => by simp at h, fun ⟨s1, h, _⟩ => by omega⟩)⟩
                clear ho7 hd7
                have HH8 : Hid (t.getD i 0 < 256) := Lib.hid (H8.out _ (by rw [List.getD_eq_getElem?_getD, List.getElem?_eq_getElem HIL.out]; exact List.getElem_mem HIL.out))
                have HTX := Lib.hid (txt_get t i HIL.out)
                go_wp2_with fail
                go_loopw [10] (fun s10 wr => NxRel w6 st w6.heap.size (t.getD i 0) VB s10 wr) (fun s10 _ => st.length - (intOf s10).toNat)
                case atStart => exact HST.out
                case round =>
                  clear HST
                  obtain ⟨k, V', rfl, hk, HOW, HD, HN⟩ := hrel
                  by_cases hltk : k < st.length
                  · have k1 : (k : Int) < (st.length : Int) := by omega
                    have k0 : (0 : Int) ≤ (k : Int) := by omega
                    have HOK1 := Lib.hid (HOK.out k hltk)
                    obtain ⟨b, off, rfl, _, hcl⟩ := (HS.out.up (HD2.out.up (HD6.out.up HD.out))).at_ (by rw [ndsV_length]; omega)
                    obtain ⟨bB, oB, rfl, _, hcB⟩ := (HRB6.out.up HD.out).at_ (by rw [rowV_length]; omega)
                    have cB := hcB _ _ (rowV_get VB hltk)
                    have cT := (HT.out.up (HD2.out.up (HD6.out.up HD.out))).cellAt HTX.out
                    have hx : st[k]? = some (nd st k) := by unfold nd; rw [List.getD_eq_getElem?_getD, List.getElem?_eq_getElem hltk]; rfl
                    have c0 := hcl _ _ (ndsV_get st k _ hx 0 (by omega))
                    have c3 := hcl _ _ (ndsV_get st k _ hx 3 (by omega))
                    have c4 := hcl _ _ (ndsV_get st k _ hx 4 (by omega))
                    have c5 := hcl _ _ (ndsV_get st k _ hx 5 (by omega))
                    have c6 := hcl _ _ (ndsV_get st k _ hx 6 (by omega))
                    rw [← Nat.add_assoc] at c0 c3 c4 c5 c6
                    rw [Nat.add_zero] at c0
                    have HK1 : Hid (∀ w', Old w w' → w'.cell? ⟨b, off + k * 7 + 1, none⟩ = some (.int .i64 (nd st k).left)) := Lib.hid (fun w' h => by
                      have := (HS.out.up h).cellAt (ndsV_get st k _ hx 1 (by omega))
                      rwa [← Nat.add_assoc] at this)
                    have HBY : Hid (∀ s, (nfaG st).byt (t.getD i 0) k s ↔ ((nd st k).kind = 1 ∧ hasB (nd st k).set (t.getD i 0) = true ∧ (s : Int) = (nd st k).left)) := Lib.hid (fun s => Iff.rfl)
                    clear hcl hcB hx
                    generalize nd st k = y at *
                    generalize t.getD i 0 = ch at *
                    obtain ⟨kd, lf, rt, se⟩ := y
                    replace c0 : wr.cell? ⟨b, off + k * 7, none⟩ = some (.int .i64 kd) := c0
                    replace c3 : wr.cell? ⟨b, off + k * 7 + 3, none⟩ = some (.int .u64 (setW se 0)) := c3
                    replace c4 : wr.cell? ⟨b, off + k * 7 + 4, none⟩ = some (.int .u64 (setW se 1)) := c4
                    replace c5 : wr.cell? ⟨b, off + k * 7 + 5, none⟩ = some (.int .u64 (setW se 2)) := c5
                    replace c6 : wr.cell? ⟨b, off + k * 7 + 6, none⟩ = some (.int .u64 (setW se 3)) := c6
                    simp only at HBY HK1
                    have HDR := Lib.hid ((Old.refl wr).drew)
                    have hli := HIL.out
                    have t1 : (i : Int) < (t.length : Int) := by omega
                    have t0 : (0 : Int) ≤ (i : Int) := by omega
                    cases hvb : VB k with
                    | false =>
                      rw [hvb] at cB
                      have HW : Hid (NxRel w6 st w6.heap.size ch VB (.int .i64 ((k + 1 : Nat) : Int)) wr.drew) := Lib.hid ⟨k + 1, V', rfl, hltk, Lib.hid (HOW.out.up HDR.out), Lib.hid (HD.out.up HDR.out), Lib.hid (HN.out.skip (fun s h => by rw [hvb] at h; cases h.1))⟩
                      clear HBY HK1 HOW HD HN hvb
                      go_upto_region 19 with fail
                      refine wp_region_still_tail 22 (by kernel_rfl) (by kernel_rfl) ?_
                      simp only [List.take_succ_cons, List.take_zero, List.drop_succ_cons, List.drop_zero]
                      refine still_open (fun S HSW HSS HSN => ?_)
                      iterate 5 (refine HSW.out _ _ _ (by kernel_rfl) (fun K hK => ?_); go_simp; refine hK _ ?_; clear hK K)
                      iterate 6 (refine HSS.out _ _ _ (by kernel_rfl) (fun K hK => ?_); go_simp; refine hK _ ?_; clear hK K)
                      iterate 2 (refine HSW.out _ _ _ (by kernel_rfl) (fun K hK => ?_); go_simp; refine hK _ ?_; clear hK K)
                      iterate 9 (refine HSS.out _ _ _ (by kernel_rfl) (fun K hK => ?_); go_simp; refine hK _ ?_; clear hK K)
                      refine HSN.out _ ?_
                      clear HSW HSS HSN
                      go_wp2_with fail
                      go_roundw
                      case rel => exact HW.out
                      case measure => simp [intOf]; omega
                    | true =>
                      rw [hvb] at cB
                      by_cases h1 : kd = 1
                      · subst h1
                        have e1 : (((1 : Int)) == 1) = true := rfl
                        obtain ⟨o1, o2, o3, o4⟩ := HOK1.out
                        simp only at o3
                        obtain ⟨a, rfl⟩ := Int.eq_ofNat_of_zero_le (o3 (by decide)).1
                        have ha : a < st.length := by have := (o3 (by decide)).2; omega
                        have l1 : (a : Int) < (st.length : Int) := by omega
                        have HHC := Lib.hid (fun w' => hasC se ch HH8.out w')
                        clear o1 o2 o3 o4
                        go_upto_region 19 with fail
                        refine wp_region_still_tail 22 (by kernel_rfl) (by kernel_rfl) ?_
                        simp only [List.take_succ_cons, List.take_zero, List.drop_succ_cons, List.drop_zero]
                        refine still_open (fun S HSW HSS HSN => ?_)
                        iterate 22 (refine HSW.out _ _ _ (by kernel_rfl) (fun K hK => ?_); go_simp; refine hK _ ?_; clear hK K)
                        refine HSN.out _ ?_
                        clear HSW HSS HSN c0 c3 c4 c5 c6 cB cT
                        go_wp2_with fail
                        refine (HHC.out _).mono ?_; rintro e w8 ⟨rfl, hd8⟩
                        have HD8 := Lib.hid (HDR.out.up hd8)
                        clear hd8 HHC
                        cases hhb : hasB se ch with
                        | false =>
                          have HW : Hid (NxRel w6 st w6.heap.size ch VB (.int .i64 ((k + 1 : Nat) : Int)) w8) := Lib.hid ⟨k + 1, V', rfl, hltk, Lib.hid (HOW.out.up HD8.out), Lib.hid (HD.out.up HD8.out), Lib.hid (HN.out.skip (fun s h => by have := ((HBY.out s).1 h.2).2.1; rw [hhb] at this; cases this))⟩
                          clear HBY HK1 HOW HD HN hvb
                          go_wp2_with fail
                          go_roundw
                          case rel => exact HW.out
                          case measure => simp [intOf]; omega
                        | true =>
                          have HO8 := Lib.hid (HOW.out.up HD8.out)
                          obtain ⟨cV, fV⟩ := HO8.out.cellAt (rowV_get V' ha)
                          have c1 := HK1.out w8 (HD2.out.up (HD6.out.up (HD.out.up HD8.out)))
                          have hset := HO8.out.set_ a (.bool true)
                          rw [rowV_set] at hset
                          have HW : Hid (NxRel w6 st w6.heap.size ch VB (.int .i64 ((k + 1 : Nat) : Int)) (w8.setCell ⟨w6.heap.size, a, none⟩ (.bool true))) := Lib.hid ⟨k + 1, updV V' a, rfl, hltk, Lib.hid hset.1, Lib.hid (Own.grown_old (HD.out.up HD8.out) HO8.out (Nat.le_refl _) hset.2), Lib.hid (HN.out.put hvb (fun s => by rw [HBY.out s]; exact ⟨fun h => by have := h.2.2; omega, fun h => ⟨by trivial, hhb, by rw [h]⟩⟩))⟩
                          clear HBY HK1 HOW HD HN hvb hset
                          go_wp2_with fail
                          go_roundw
                          case rel => exact HW.out
                          case measure => simp [intOf]; omega
                      · have e1 : (kd == 1) = false := by simpa using h1
                        have HW : Hid (NxRel w6 st w6.heap.size ch VB (.int .i64 ((k + 1 : Nat) : Int)) wr.drew) := Lib.hid ⟨k + 1, V', rfl, hltk, Lib.hid (HOW.out.up HDR.out), Lib.hid (HD.out.up HDR.out), Lib.hid (HN.out.skip (fun s h => h1 ((HBY.out s).1 h.2).1))⟩
                        clear HBY HK1 HOW HD HN hvb h1
                        go_upto_region 19 with fail
                        refine wp_region_still_tail 22 (by kernel_rfl) (by kernel_rfl) ?_
                        simp only [List.take_succ_cons, List.take_zero, List.drop_succ_cons, List.drop_zero]
                        refine still_open (fun S HSW HSS HSN => ?_)
                        iterate 13 (refine HSW.out _ _ _ (by kernel_rfl) (fun K hK => ?_); go_simp; refine hK _ ?_; clear hK K)
                        iterate 9 (refine HSS.out _ _ _ (by kernel_rfl) (fun K hK => ?_); go_simp; refine hK _ ?_; clear hK K)
                        refine HSN.out _ ?_
                        clear HSW HSS HSN
                        go_wp2_with fail
                        go_roundw
                        case rel => exact HW.out
                        case measure => simp [intOf]; omega
                  · obtain rfl : k = st.length := by omega
                    have HW : Hid (RunRel w st t (.slice (some ⟨w6.heap.size, 0, none⟩) st.length st.length) (.int .i64 ((i + 1 : Nat) : Int)) wr) := Lib.hid ⟨i + 1, V', rfl, by omega, Lib.hid (HOW.out.base (HD2.out.up HD6.out).size), Lib.hid ((HD2.out.up HD6.out).up HD.out), Lib.hid (fun _ => HRN.out V' HN.out), Lib.hid (fun h => by omega)⟩
                    clear HOW HD HN HRN
                    go_wp2_with fail
                    go_roundw
                    case rel => exact HW.out
                    case measure => simp [intOf]; omega
          · obtain ⟨j, rfl⟩ : ∃ j, i = j + 1 := ⟨i - 1, by omega⟩
            have cF := hcT _ _ (txt_get t j (by omega))
            have HBV : Hid (bolT t (j + 1) = (((t.getD j 0 : Nat) : Int) == 10)) := Lib.hid (by
              unfold bolT
              have e2 : ((((t.getD j 0 : Nat) : Int) == 10)) = (t.getD j 0 == 10) := by rw [Bool.eq_iff_iff, beq_iff_eq, beq_iff_eq]; omega
              rw [e2]; simp)
            obtain ⟨ch0, hch0⟩ : ∃ x, t.getD j 0 = x := ⟨_, rfl⟩
            rw [hch0] at cF HBV
            clear hch0
            have b0 : ((j : Int) + 1 == 0) = false := by simp; omega
            have i4 : (0 : Int) ≤ (j : Int) := by omega
            have i6 : (0 : Int) ≤ (j : Int) + 1 := by omega
            have i5 : (j : Int) < (t.length : Int) := by omega
            have i7 : (j : Int) + 1 < (t.length : Int) := by omega
            clear hcT
            go_upto_region 10 with fail
            generalize (((ch1 : Nat) : Int) == 10) = ev at *
            generalize (((ch0 : Nat) : Int) == 10) = bv at *
            clear cE cF b0 i4 i6 i5 i7 j1 hi0
            rw [show (j : Int) + 1 = ((j + 1 : Nat) : Int) by simp]
            generalize hij : j + 1 = i at *
            have iL : (i : Int) < (t.length : Int) := by omega
            have i0 : (0 : Int) ≤ (i : Int) := by omega
            generalize hw2 : wr.setCell ⟨g, 0, none⟩ (.bool true) = w2 at *
            obtain ⟨_, _, he2, ht2, _, _⟩ := HO2.out.shape
            injection he2 with he2 _ he3
            subst he2
            subst he3
            have HC1 := Lib.hid (reachC A _ c cs st (updV V 0) bv false w2 (HS.out.up HD2.out) ht2.rs HV.out)
            have HC3 := Lib.hid (fun w' (h : Old w2 w') => reachC A _ c cs st (updV V 0) bv ev w' (HS.out.up (HD2.out.up h)) (ht2.rs.up h) HV.out)
            clear ht2 c0 f0
            go_wp2_with fail
            refine (HC1.out).mono ?_; rintro e w3 ⟨vA, VA, rfl, hoA, hA, hd3⟩
            obtain ⟨AA, cA, rfl, htA, _, _⟩ := hoA.shape
            have HC2 := Lib.hid (acceptedC A AA c cA st VA w3 (HS.out.up (HD2.out.up hd3)) htA.rs (by omega))
            have HA := Lib.hid hA
            have HD3 := Lib.hid hd3
            clear hoA hA hd3 htA HC1
            cases haA : acceptedM st VA with
            | true =>
              rw [haA] at HC2
              have HE : Hid ((i : Int) = nrunM st t) := Lib.hid (HFIN.out _ (HR1.out (by omega) _ (.done i _ (fun s => VA s = true) (fun s => by rw [HA.out s, HBV.out]; exact Clo.iff_ (fun s => upd_zero V s) s) (acc_fin haA))))
              clear HC3 HA haA HR1 HR2 HBV HEV
              go_wp2_with fail
              refine (HC2.out).mono ?_; rintro e w4 ⟨rfl, hd4⟩
              have HX := Lib.hid (HD2.out.up (HD3.out.up hd4))
              clear hd4 HC2
              go_wp2_with fail
              go_ret
              rw [← HE.out]
              exact ⟨rfl, HX.out⟩
            | false =>
              rw [haA] at HC2
              have HAN := Lib.hid haA
              clear haA
              go_wp2_with fail
              refine (HC2.out).mono ?_; rintro e w4 ⟨rfl, hd4⟩
              have HD4 := Lib.hid (HD3.out.up hd4)
              have HC4 := Lib.hid (HC3.out w4 HD4.out)
              clear hd4 HC2 HC3 HD3
              go_wp2_with fail
              refine (HC4.out).mono ?_; rintro e w5 ⟨vB, VB, rfl, hoB, hB, hd5⟩
              obtain ⟨AB, cB, rfl, htB, _, _⟩ := hoB.shape
              have HC5 := Lib.hid (acceptedC A AB c cB st VB w5 (HS.out.up (HD2.out.up (HD4.out.up hd5))) htB.rs (by omega))
              have HB := Lib.hid hB
              have HD5 := Lib.hid (HD4.out.up hd5)
              have HRB := Lib.hid htB.rs
              clear hoB hB hd5 htB HC4 HD4
              have HCB := Lib.hid (clo_up (nfaG_mono st) (S := fun s => updV V 0 s = true) (A := fun s => VA s = true) (B := fun s => VB s = true) HA.out HB.out)
              cases haB : acceptedM st VB with
              | true =>
                rw [haB] at HC5
                have HE : Hid ((i : Int) + 1 = nrunM st t) := Lib.hid (HFIN.out _ (HR1.out (by omega) _ (.late i _ (fun s => VA s = true) (fun s => VB s = true) (fun s => by rw [HA.out s, HBV.out]; exact Clo.iff_ (fun s => upd_zero V s) s) (acc_not HAN.out) HIL.out (fun s => by rw [HCB.out s, HBV.out, HEV.out]) (acc_fin haB))))
                clear HA HB haB HR1 HR2 HBV HEV HCB HAN
                go_wp2_with fail
                refine (HC5.out).mono ?_; rintro e w6 ⟨rfl, hd6⟩
                have HX := Lib.hid (HD2.out.up (HD5.out.up hd6))
                clear hd6 HC5
                go_wp2_with fail
                go_ret
                rw [← HE.out]
                exact ⟨rfl, HX.out⟩
              | false =>
                rw [haB] at HC5
                have HRN : Hid (∀ V', NxV st (t.getD i 0) VB st.length V' → ∀ r, Runs (nfaG st) t (i + 1) (fun s => V' s = true) r → Runs (nfaG st) t 0 (fun _ => False) r) := Lib.hid (fun V' hV r hr => HR1.out (by omega) _ (.step i _ (fun s => VA s = true) (fun s => VB s = true) (fun s => V' s = true) r (fun s => by rw [HA.out s, HBV.out]; exact Clo.iff_ (fun s => upd_zero V s) s) (acc_not HAN.out) HIL.out (fun s => by rw [HCB.out s, HBV.out, HEV.out]) (acc_not haB) (fun s => hV.all s) hr))
                clear HA HB haB HR1 HR2 HBV HEV HCB HAN
                go_wp2_with fail
                refine (HC5.out).mono ?_; rintro e w6 ⟨rfl, hd6⟩
                have HD6 := Lib.hid (HD5.out.up hd6)
                have HRB6 := Lib.hid (HRB.out.up hd6)
                clear hd6 HC5 HRB HD5
                go_wp2_with (at_make; refine wpList_makeN rfl _ _ 68 rfl 4 (.bool false) 1 1 Try.underlying68 info_bo (by decide) .i64 .i64 _ _ st.length rfl rfl ?pl3 ?pc3 ?pn3 ?_)
                case pl3 => omega
                case pc3 => omega
                case pn3 => omega
                intro w7 ho7 hd7
                rw [made_row] at ho7
                have HST : Hid (NxRel w6 st w6.heap.size (t.getD i 0) VB (.int .i64 0) w7) := Lib.hid ⟨0, fun _ => false, rfl, Nat.zero_le _, Lib.hid ho7, Lib.hid hd7, Lib.hid (fun s => ⟨fun h => by simp at h, fun ⟨s1, h, _⟩ => by omega⟩)⟩
                clear ho7 hd7
                have HH8 : Hid (t.getD i 0 < 256) := Lib.hid (H8.out _ (by rw [List.getD_eq_getElem?_getD, List.getElem?_eq_getElem HIL.out]; exact List.getElem_mem HIL.out))
                have HTX := Lib.hid (txt_get t i HIL.out)
                go_wp2_with fail
                go_loopw [10] (fun s10 wr => NxRel w6 st w6.heap.size (t.getD i 0) VB s10 wr) (fun s10 _ => st.length - (intOf s10).toNat)
                case atStart => exact HST.out
                case round =>
                  clear HST
                  obtain ⟨k, V', rfl, hk, HOW, HD, HN⟩ := hrel
                  by_cases hltk : k < st.length
                  · have k1 : (k : Int) < (st.length : Int) := by omega
                    have k0 : (0 : Int) ≤ (k : Int) := by omega
                    have HOK1 := Lib.hid (HOK.out k hltk)
                    obtain ⟨b, off, rfl, _, hcl⟩ := (HS.out.up (HD2.out.up (HD6.out.up HD.out))).at_ (by rw [ndsV_length]; omega)
                    obtain ⟨bB, oB, rfl, _, hcB⟩ := (HRB6.out.up HD.out).at_ (by rw [rowV_length]; omega)
                    have cB := hcB _ _ (rowV_get VB hltk)
                    have cT := (HT.out.up (HD2.out.up (HD6.out.up HD.out))).cellAt HTX.out
                    have hx : st[k]? = some (nd st k) := by unfold nd; rw [List.getD_eq_getElem?_getD, List.getElem?_eq_getElem hltk]; rfl
                    have c0 := hcl _ _ (ndsV_get st k _ hx 0 (by omega))
                    have c3 := hcl _ _ (ndsV_get st k _ hx 3 (by omega))
                    have c4 := hcl _ _ (ndsV_get st k _ hx 4 (by omega))
                    have c5 := hcl _ _ (ndsV_get st k _ hx 5 (by omega))
                    have c6 := hcl _ _ (ndsV_get st k _ hx 6 (by omega))
                    rw [← Nat.add_assoc] at c0 c3 c4 c5 c6
                    rw [Nat.add_zero] at c0
                    have HK1 : Hid (∀ w', Old w w' → w'.cell? ⟨b, off + k * 7 + 1, none⟩ = some (.int .i64 (nd st k).left)) := Lib.hid (fun w' h => by
                      have := (HS.out.up h).cellAt (ndsV_get st k _ hx 1 (by omega))
                      rwa [← Nat.add_assoc] at this)
                    have HBY : Hid (∀ s, (nfaG st).byt (t.getD i 0) k s ↔ ((nd st k).kind = 1 ∧ hasB (nd st k).set (t.getD i 0) = true ∧ (s : Int) = (nd st k).left)) := Lib.hid (fun s => Iff.rfl)
                    clear hcl hcB hx
                    generalize nd st k = y at *
                    generalize t.getD i 0 = ch at *
                    obtain ⟨kd, lf, rt, se⟩ := y
                    replace c0 : wr.cell? ⟨b, off + k * 7, none⟩ = some (.int .i64 kd) := c0
                    replace c3 : wr.cell? ⟨b, off + k * 7 + 3, none⟩ = some (.int .u64 (setW se 0)) := c3
                    replace c4 : wr.cell? ⟨b, off + k * 7 + 4, none⟩ = some (.int .u64 (setW se 1)) := c4
                    replace c5 : wr.cell? ⟨b, off + k * 7 + 5, none⟩ = some (.int .u64 (setW se 2)) := c5
                    replace c6 : wr.cell? ⟨b, off + k * 7 + 6, none⟩ = some (.int .u64 (setW se 3)) := c6
                    simp only at HBY HK1
                    have HDR := Lib.hid ((Old.refl wr).drew)
                    have hli := HIL.out
                    have t1 : (i : Int) < (t.length : Int) := by omega
                    have t0 : (0 : Int) ≤ (i : Int) := by omega
                    cases hvb : VB k with
                    | false =>
                      rw [hvb] at cB
                      have HW : Hid (NxRel w6 st w6.heap.size ch VB (.int .i64 ((k + 1 : Nat) : Int)) wr.drew) := Lib.hid ⟨k + 1, V', rfl, hltk, Lib.hid (HOW.out.up HDR.out), Lib.hid (HD.out.up HDR.out), Lib.hid (HN.out.skip (fun s h => by rw [hvb] at h; cases h.1))⟩
                      clear HBY HK1 HOW HD HN hvb
                      go_upto_region 19 with fail
                      refine wp_region_still_tail 22 (by kernel_rfl) (by kernel_rfl) ?_
                      simp only [List.take_succ_cons, List.take_zero, List.drop_succ_cons, List.drop_zero]
                      refine still_open (fun S HSW HSS HSN => ?_)
                      iterate 5 (refine HSW.out _ _ _ (by kernel_rfl) (fun K hK => ?_); go_simp; refine hK _ ?_; clear hK K)
                      iterate 6 (refine HSS.out _ _ _ (by kernel_rfl) (fun K hK => ?_); go_simp; refine hK _ ?_; clear hK K)
                      iterate 2 (refine HSW.out _ _ _ (by kernel_rfl) (fun K hK => ?_); go_simp; refine hK _ ?_; clear hK K)
                      iterate 9 (refine HSS.out _ _ _ (by kernel_rfl) (fun K hK => ?_); go_simp; refine hK _ ?_; clear hK K)
                      refine HSN.out _ ?_
                      clear HSW HSS HSN
                      go_wp2_with fail
                      go_roundw
                      case rel => exact HW.out
                      case measure => simp [intOf]; omega
                    | true =>
                      rw [hvb] at cB
                      by_cases h1 : kd = 1
                      · subst h1
                        have e1 : (((1 : Int)) == 1) = true := rfl
                        obtain ⟨o1, o2, o3, o4⟩ := HOK1.out
                        simp only at o3
                        obtain ⟨a, rfl⟩ := Int.eq_ofNat_of_zero_le (o3 (by decide)).1
                        have ha : a < st.length := by have := (o3 (by decide)).2; omega
                        have l1 : (a : Int) < (st.length : Int) := by omega
                        have HHC := Lib.hid (fun w' => hasC se ch HH8.out w')
                        clear o1 o2 o3 o4
                        go_upto_region 19 with fail
                        refine wp_region_still_tail 22 (by kernel_rfl) (by kernel_rfl) ?_
                        simp only [List.take_succ_cons, List.take_zero, List.drop_succ_cons, List.drop_zero]
                        refine still_open (fun S HSW HSS HSN => ?_)
                        iterate 22 (refine HSW.out _ _ _ (by kernel_rfl) (fun K hK => ?_); go_simp; refine hK _ ?_; clear hK K)
                        refine HSN.out _ ?_
                        clear HSW HSS HSN c0 c3 c4 c5 c6 cB cT
                        go_wp2_with fail
                        refine (HHC.out _).mono ?_; rintro e w8 ⟨rfl, hd8⟩
                        have HD8 := Lib.hid (HDR.out.up hd8)
                        clear hd8 HHC
                        cases hhb : hasB se ch with
                        | false =>
                          have HW : Hid (NxRel w6 st w6.heap.size ch VB (.int .i64 ((k + 1 : Nat) : Int)) w8) := Lib.hid ⟨k + 1, V', rfl, hltk, Lib.hid (HOW.out.up HD8.out), Lib.hid (HD.out.up HD8.out), Lib.hid (HN.out.skip (fun s h => by have := ((HBY.out s).1 h.2).2.1; rw [hhb] at this; cases this))⟩
                          clear HBY HK1 HOW HD HN hvb
                          go_wp2_with fail
                          go_roundw
                          case rel => exact HW.out
                          case measure => simp [intOf]; omega
                        | true =>
                          have HO8 := Lib.hid (HOW.out.up HD8.out)
                          obtain ⟨cV, fV⟩ := HO8.out.cellAt (rowV_get V' ha)
                          have c1 := HK1.out w8 (HD2.out.up (HD6.out.up (HD.out.up HD8.out)))
                          have hset := HO8.out.set_ a (.bool true)
                          rw [rowV_set] at hset
                          have HW : Hid (NxRel w6 st w6.heap.size ch VB (.int .i64 ((k + 1 : Nat) : Int)) (w8.setCell ⟨w6.heap.size, a, none⟩ (.bool true))) := Lib.hid ⟨k + 1, updV V' a, rfl, hltk, Lib.hid hset.1, Lib.hid (Own.grown_old (HD.out.up HD8.out) HO8.out (Nat.le_refl _) hset.2), Lib.hid (HN.out.put hvb (fun s => by rw [HBY.out s]; exact ⟨fun h => by have := h.2.2; omega, fun h => ⟨by trivial, hhb, by rw [h]⟩⟩))⟩
                          clear HBY HK1 HOW HD HN hvb hset
                          go_wp2_with fail
                          go_roundw
                          case rel => exact HW.out
                          case measure => simp [intOf]; omega
                      · have e1 : (kd == 1) = false := by simpa using h1
                        have HW : Hid (NxRel w6 st w6.heap.size ch VB (.int .i64 ((k + 1 : Nat) : Int)) wr.drew) := Lib.hid ⟨k + 1, V', rfl, hltk, Lib.hid (HOW.out.up HDR.out), Lib.hid (HD.out.up HDR.out), Lib.hid (HN.out.skip (fun s h => h1 ((HBY.out s).1 h.2).1))⟩
                        clear HBY HK1 HOW HD HN hvb h1
                        go_upto_region 19 with fail
                        refine wp_region_still_tail 22 (by kernel_rfl) (by kernel_rfl) ?_
                        simp only [List.take_succ_cons, List.take_zero, List.drop_succ_cons, List.drop_zero]
                        refine still_open (fun S HSW HSS HSN => ?_)
                        iterate 13 (refine HSW.out _ _ _ (by kernel_rfl) (fun K hK => ?_); go_simp; refine hK _ ?_; clear hK K)
                        iterate 9 (refine HSS.out _ _ _ (by kernel_rfl) (fun K hK => ?_); go_simp; refine hK _ ?_; clear hK K)
                        refine HSN.out _ ?_
                        clear HSW HSS HSN
                        go_wp2_with fail
                        go_roundw
                        case rel => exact HW.out
                        case measure => simp [intOf]; omega
                  · obtain rfl : k = st.length := by omega
                    have HW : Hid (RunRel w st t (.slice (some ⟨w6.heap.size, 0, none⟩) st.length st.length) (.int .i64 ((i + 1 : Nat) : Int)) wr) := Lib.hid ⟨i + 1, V', rfl, by omega, Lib.hid (HOW.out.base (HD2.out.up HD6.out).size), Lib.hid ((HD2.out.up HD6.out).up HD.out), Lib.hid (fun _ => HRN.out V' HN.out), Lib.hid (fun h => by omega)⟩
                    clear HOW HD HN HRN
                    go_wp2_with fail
                    go_roundw
                    case rel => exact HW.out
                    case measure => simp [intOf]; omega
        · have HIE : Hid (i = t.length) := Lib.hid (by omega)
          have HEV : Hid (eolT t i = false) := Lib.hid (by unfold eolT; rw [decide_eq_false hil]; rfl)
          by_cases hi0 : i = 0
          · have b0 : ((i : Int) == 0) = true := by simp; omega
            have HBV : Hid (bolT t i = true) := Lib.hid (by rw [hi0]; rfl)
            have iL : ¬ (i : Int) < (t.length : Int) := by omega
            have iN : decide (i < t.length) = false := decide_eq_false hil
            have i0 : (0 : Int) ≤ (i : Int) := by omega
            clear hi0
            go_upto_region 10 with fail
            clear b0
            generalize hw2 : wr.setCell ⟨g, 0, none⟩ (.bool true) = w2 at *
            obtain ⟨_, _, he2, ht2, _, _⟩ := HO2.out.shape
            injection he2 with he2 _ he3
            subst he2
            subst he3
            have HC1 := Lib.hid (reachC A _ c cs st (updV V 0) true false w2 (HS.out.up HD2.out) ht2.rs HV.out)
            have HC3 := Lib.hid (fun w' (h : Old w2 w') => reachC A _ c cs st (updV V 0) true false w' (HS.out.up (HD2.out.up h)) (ht2.rs.up h) HV.out)
            clear ht2 c0 f0
            go_wp2_with fail
            refine (HC1.out).mono ?_; rintro e w3 ⟨vA, VA, rfl, hoA, hA, hd3⟩
            obtain ⟨AA, cA, rfl, htA, _, _⟩ := hoA.shape
            have HC2 := Lib.hid (acceptedC A AA c cA st VA w3 (HS.out.up (HD2.out.up hd3)) htA.rs (by omega))
            have HA := Lib.hid hA
            have HD3 := Lib.hid hd3
            clear hoA hA hd3 htA HC1
            cases haA : acceptedM st VA with
            | true =>
              rw [haA] at HC2
              have HE : Hid ((i : Int) = nrunM st t) := Lib.hid (HFIN.out _ (HR1.out (by omega) _ (.done i _ (fun s => VA s = true) (fun s => by rw [HA.out s, HBV.out]; exact Clo.iff_ (fun s => upd_zero V s) s) (acc_fin haA))))
              clear HC3 HA haA HR1 HR2 HBV HEV
              go_wp2_with fail
              refine (HC2.out).mono ?_; rintro e w4 ⟨rfl, hd4⟩
              have HX := Lib.hid (HD2.out.up (HD3.out.up hd4))
              clear hd4 HC2
              go_wp2_with fail
              go_ret
              rw [← HE.out]
              exact ⟨rfl, HX.out⟩
            | false =>
              rw [haA] at HC2
              have HAN := Lib.hid haA
              clear haA
              go_wp2_with fail
              refine (HC2.out).mono ?_; rintro e w4 ⟨rfl, hd4⟩
              have HD4 := Lib.hid (HD3.out.up hd4)
              have HC4 := Lib.hid (HC3.out w4 HD4.out)
              clear hd4 HC2 HC3 HD3
              go_wp2_with fail
              refine (HC4.out).mono ?_; rintro e w5 ⟨vB, VB, rfl, hoB, hB, hd5⟩
              obtain ⟨AB, cB, rfl, htB, _, _⟩ := hoB.shape
              have HC5 := Lib.hid (acceptedC A AB c cB st VB w5 (HS.out.up (HD2.out.up (HD4.out.up hd5))) htB.rs (by omega))
              have HB := Lib.hid hB
              have HD5 := Lib.hid (HD4.out.up hd5)
              have HRB := Lib.hid htB.rs
              clear hoB hB hd5 htB HC4 HD4
              have HBA : Hid (acceptedM st VB = false) := Lib.hid (by rw [← HAN.out]; exact acc_congr (fun s => by rw [HA.out s, HB.out s]))
              have HE : Hid (Runs (nfaG st) t 0 (fun _ => False) (-1)) := Lib.hid (HR1.out (by omega) _ (.stop i _ (fun s => VA s = true) (fun s => by rw [HA.out s, HBV.out]; exact Clo.iff_ (fun s => upd_zero V s) s) (acc_not HAN.out) HIE.out))
              rw [HBA.out] at HC5
              clear HA HB HAN HR1 HR2 HBV HEV HBA
              go_wp2_with fail
              refine (HC5.out).mono ?_; rintro e w6 ⟨rfl, hd6⟩
              have HD6 := Lib.hid (HD2.out.up (HD5.out.up hd6))
              clear hd6 HC5 HRB
              go_wp2_with (at_make; refine wpList_makeN rfl _ _ 68 rfl 4 (.bool false) 1 1 Try.underlying68 info_bo (by decide) .i64 .i64 _ _ st.length rfl rfl ?pl4 ?pc4 ?pn4 ?_)
              case pl4 => omega
              case pc4 => omega
              case pn4 => omega
              intro w7 ho7 hd7
              rw [made_row] at ho7
              have HO7 := Lib.hid (ho7.base HD6.out.size)
              have HD7 := Lib.hid (HD6.out.up hd7)
              clear ho7 hd7
              have HW : Hid (RunRel w st t (.slice (some ⟨w6.heap.size, 0, none⟩) st.length st.length) (.int .i64 ((i + 1 : Nat) : Int)) w7) := Lib.hid ⟨i + 1, fun _ => false, rfl, by omega, HO7, HD7, Lib.hid (fun h => by omega), Lib.hid (fun _ => HE.out)⟩
              go_wp2_with fail
              go_loopw [10] (fun s10 wr => s10 = .int .i64 0 ∧ wr = w7) (fun _ _ => 0)
              case atStart => exact ⟨rfl, rfl⟩
              case round =>
                obtain ⟨rfl, rfl⟩ := hrel
                go_wp2_with fail
                go_roundw
                case rel => exact HW.out
                case measure => simp [intOf]; omega
          · obtain ⟨j, rfl⟩ : ∃ j, i = j + 1 := ⟨i - 1, by omega⟩
            obtain ⟨bT, oT, rfl, _, hcT⟩ := HTX2.out.at_ (by rw [txt_length]; omega)
            have cF := hcT _ _ (txt_get t j (by omega))
            have HBV : Hid (bolT t (j + 1) = (((t.getD j 0 : Nat) : Int) == 10)) := Lib.hid (by
              unfold bolT
              have e2 : ((((t.getD j 0 : Nat) : Int) == 10)) = (t.getD j 0 == 10) := by rw [Bool.eq_iff_iff, beq_iff_eq, beq_iff_eq]; omega
              rw [e2]; simp)
            obtain ⟨ch0, hch0⟩ : ∃ x, t.getD j 0 = x := ⟨_, rfl⟩
            rw [hch0] at cF HBV
            clear hch0
            have b0 : ((j : Int) + 1 == 0) = false := by simp; omega
            have i4 : (0 : Int) ≤ (j : Int) := by omega
            have i6 : (0 : Int) ≤ (j : Int) + 1 := by omega
            have i5 : (j : Int) < (t.length : Int) := by omega
            have i7 : ¬ (j : Int) + 1 < (t.length : Int) := by omega
            have i8 : decide (j + 1 < t.length) = false := decide_eq_false hil
            clear hcT
            go_upto_region 10 with fail
            generalize (((ch0 : Nat) : Int) == 10) = bv at *
            clear cF b0 i4 i6 i5 i7 i8 j1 hi0
            rw [show (j : Int) + 1 = ((j + 1 : Nat) : Int) by simp]
            generalize hij : j + 1 = i at *
            have iL : ¬ (i : Int) < (t.length : Int) := by omega
            have iN : decide (i < t.length) = false := decide_eq_false hil
            have i0 : (0 : Int) ≤ (i : Int) := by omega
            generalize hw2 : wr.setCell ⟨g, 0, none⟩ (.bool true) = w2 at *
            obtain ⟨_, _, he2, ht2, _, _⟩ := HO2.out.shape
            injection he2 with he2 _ he3
            subst he2
            subst he3
            have HC1 := Lib.hid (reachC A _ c cs st (updV V 0) bv false w2 (HS.out.up HD2.out) ht2.rs HV.out)
            have HC3 := Lib.hid (fun w' (h : Old w2 w') => reachC A _ c cs st (updV V 0) bv false w' (HS.out.up (HD2.out.up h)) (ht2.rs.up h) HV.out)
            clear ht2 c0 f0
            go_wp2_with fail
            refine (HC1.out).mono ?_; rintro e w3 ⟨vA, VA, rfl, hoA, hA, hd3⟩
            obtain ⟨AA, cA, rfl, htA, _, _⟩ := hoA.shape
            have HC2 := Lib.hid (acceptedC A AA c cA st VA w3 (HS.out.up (HD2.out.up hd3)) htA.rs (by omega))
            have HA := Lib.hid hA
            have HD3 := Lib.hid hd3
            clear hoA hA hd3 htA HC1
            cases haA : acceptedM st VA with
            | true =>
              rw [haA] at HC2
              have HE : Hid ((i : Int) = nrunM st t) := Lib.hid (HFIN.out _ (HR1.out (by omega) _ (.done i _ (fun s => VA s = true) (fun s => by rw [HA.out s, HBV.out]; exact Clo.iff_ (fun s => upd_zero V s) s) (acc_fin haA))))
              clear HC3 HA haA HR1 HR2 HBV HEV
              go_wp2_with fail
              refine (HC2.out).mono ?_; rintro e w4 ⟨rfl, hd4⟩
              have HX := Lib.hid (HD2.out.up (HD3.out.up hd4))
              clear hd4 HC2
              go_wp2_with fail
              go_ret
              rw [← HE.out]
              exact ⟨rfl, HX.out⟩
            | false =>
              rw [haA] at HC2
              have HAN := Lib.hid haA
              clear haA
              go_wp2_with fail
              refine (HC2.out).mono ?_; rintro e w4 ⟨rfl, hd4⟩
              have HD4 := Lib.hid (HD3.out.up hd4)
              have HC4 := Lib.hid (HC3.out w4 HD4.out)
              clear hd4 HC2 HC3 HD3
              go_wp2_with fail
              refine (HC4.out).mono ?_; rintro e w5 ⟨vB, VB, rfl, hoB, hB, hd5⟩
              obtain ⟨AB, cB, rfl, htB, _, _⟩ := hoB.shape
              have HC5 := Lib.hid (acceptedC A AB c cB st VB w5 (HS.out.up (HD2.out.up (HD4.out.up hd5))) htB.rs (by omega))
              have HB := Lib.hid hB
              have HD5 := Lib.hid (HD4.out.up hd5)
              have HRB := Lib.hid htB.rs
              clear hoB hB hd5 htB HC4 HD4
              have HBA : Hid (acceptedM st VB = false) := Lib.hid (by rw [← HAN.out]; exact acc_congr (fun s => by rw [HA.out s, HB.out s]))
              have HE : Hid (Runs (nfaG st) t 0 (fun _ => False) (-1)) := Lib.hid (HR1.out (by omega) _ (.stop i _ (fun s => VA s = true) (fun s => by rw [HA.out s, HBV.out]; exact Clo.iff_ (fun s => upd_zero V s) s) (acc_not HAN.out) HIE.out))
              rw [HBA.out] at HC5
              clear HA HB HAN HR1 HR2 HBV HEV HBA
              go_wp2_with fail
              refine (HC5.out).mono ?_; rintro e w6 ⟨rfl, hd6⟩
              have HD6 := Lib.hid (HD2.out.up (HD5.out.up hd6))
              clear hd6 HC5 HRB
              go_wp2_with (at_make; refine wpList_makeN rfl _ _ 68 rfl 4 (.bool false) 1 1 Try.underlying68 info_bo (by decide) .i64 .i64 _ _ st.length rfl rfl ?pl5 ?pc5 ?pn5 ?_)
              case pl5 => omega
              case pc5 => omega
              case pn5 => omega
              intro w7 ho7 hd7
              rw [made_row] at ho7
              have HO7 := Lib.hid (ho7.base HD6.out.size)
              have HD7 := Lib.hid (HD6.out.up hd7)
              clear ho7 hd7
              have HW : Hid (RunRel w st t (.slice (some ⟨w6.heap.size, 0, none⟩) st.length st.length) (.int .i64 ((i + 1 : Nat) : Int)) w7) := Lib.hid ⟨i + 1, fun _ => false, rfl, by omega, HO7, HD7, Lib.hid (fun h => by omega), Lib.hid (fun _ => HE.out)⟩
              go_wp2_with fail
              go_loopw [10] (fun s10 wr => s10 = .int .i64 0 ∧ wr = w7) (fun _ _ => 0)
              case atStart => exact ⟨rfl, rfl⟩
              case round =>
                obtain ⟨rfl, rfl⟩ := hrel
                go_wp2_with fail
                go_roundw
                case rel => exact HW.out
                case measure => simp [intOf]; omega
      · obtain rfl : i = t.length + 1 := by omega
        have HE : Hid ((-1 : Int) = nrunM st t) := Lib.hid (HFIN.out _ (HR2.out rfl))
        have j1 : ¬ (((t.length + 1 : Nat) : Int)) ≤ (t.length : Int) := by omega
        have j2 : decide (t.length + 1 ≤ t.length) = false := decide_eq_false (by omega)
        clear HR1 HR2
        go_wp2_with fail
        go_ret
        rw [← HE.out]
        exact ⟨rfl, HD.out⟩
end Go.Proofs.Ythadkjgadhbidaa
