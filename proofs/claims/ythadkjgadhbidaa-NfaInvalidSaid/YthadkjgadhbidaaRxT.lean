/-
  The walks of the reference's part, cat, alt.
-/
import Derived.Test.YthadkjgadhbidaaRxO
namespace Go.Proofs.Ythadkjgadhbidaa
open Go.RowKit
set_option linter.unusedVariables false

def AtomOK (f : Nat) : Prop := ∀ (g : Nat) (s : ByteArray) (p : Ps) (R : List Nd × Ps) (w : World), w.heap[g]? = some (PzC s p) → s.size ≤ 100000 → Start s.size p → p.at_ < s.size → atomP (bs s) f p = some R → Calls Try.prog 89 #[.pointer (some ⟨g, 0, none⟩)] w (NPost w g s R)
def PartOK (f : Nat) : Prop := ∀ (g : Nat) (s : ByteArray) (p : Ps) (R : List Nd × Ps) (w : World), w.heap[g]? = some (PzC s p) → s.size ≤ 100000 → Start s.size p → p.at_ < s.size → partP (bs s) f p = some R → Calls Try.prog 84 #[.pointer (some ⟨g, 0, none⟩)] w (NPost w g s R)
def CatOK (f : Nat) : Prop := ∀ (g : Nat) (s : ByteArray) (p : Ps) (R : List Nd × Ps) (w : World), w.heap[g]? = some (PzC s p) → s.size ≤ 100000 → Start s.size p → catP (bs s) f p = some R → Calls Try.prog 75 #[.pointer (some ⟨g, 0, none⟩)] w (NPost w g s R)
theorem Nb.ndB {l : List Nd} (h : Nb l) (hl : l.length ≤ 1000000) : NdB l := ⟨hl, fun x hx => by obtain ⟨h1, h2⟩ := h x hx; omega⟩
theorem Good.len {n : Nat} {p q : Ps} {l : List Nd} {k : Nat} (h : Good n p l q k) : l.length ≤ 2 * n + 1 := by
  by_cases he : q.e = 0
  · obtain ⟨_, _, h3, _, h5⟩ := h.ok he; omega
  · exact (h.er he).2.2
theorem Good.atb {n : Nat} {p q : Ps} {l : List Nd} {k : Nat} (h : Good n p l q k) : q.at_ ≤ n + 26 := by
  by_cases he : q.e = 0
  · obtain ⟨_, _, h3, _, h5⟩ := h.ok he; omega
  · have := (h.er he).1; omega
/-- The byte that is next. -/
theorem more_at {s : ByteArray} {q : Ps} (h : moreP (bs s) q = true) : q.e = 0 ∧ q.at_ < s.size := by
  have := (moreP_iff _ _).1 h
  rw [bs_length] at this
  exact this
def PartRel (w : World) (s : ByteArray) (g : Nat) (p0 : Ps) (R : List Nd × Ps) (v : Value) (wr : World) : Prop :=
  ∃ (f : Nat) (l : List Nd) (q : Ps), Good s.size p0 l q 2 ∧ LB w s g q v l wr ∧ Hid (partLoop (bs s) f l q = some R)
set_option maxHeartbeats 4000000 in
set_option maxRecDepth 100000 in
theorem partC (f : Nat) (ih : AtomOK f) : PartOK (f + 1) := by
  intro g s p R w h hs hst hlt hR
  have hgl := lt_of_block h
  rw [partP] at hR
  cases hq : atomP (bs s) f p with
  | none => rw [hq] at hR; cases hR
  | some lq =>
    rw [hq] at hR
    obtain ⟨l0, q0⟩ := lq
    have hA := ih g s p (l0, q0) w h hs hst hlt hq
    have hG0 : Good (bs s).length p l0 q0 2 := (parse_good (bs s) f).2.2.2.2.2.2 p (l0, q0) (by rw [bs_length]; exact hst) (by rw [bs_length]; exact hlt) hq
    rw [bs_length] at hG0
    have HR : Hid (partLoop (bs s) f l0 q0 = some R) := Lib.hid hR
    have HA := Lib.hid hA
    have HG0 := Lib.hid hG0
    clear hA hG0 hR hq ih h hst hlt
    generalize p = p0 at *
    go_enter Try.func84, Try.ntmps84
    go_wp2_with fail
    refine (HA.out).mono ?_; rintro e V ⟨v, rfl, hLB⟩
    go_wp2_with fail
    go_loopw [3] (fun s3 wr => PartRel w s g p0 R s3 wr) (fun _ wr => s.size + 100 - atOf g wr)
    case atStart => exact ⟨f, l0, q0, HG0.out, hLB, HR⟩
    case round =>
      clear HG0 hLB HR HA
      obtain ⟨f1, l, q, hGD, hL, HP⟩ := hrel
      have HMEAS := Lib.hid (atOf_eq hL.pz)
      have hatb := hGD.atb
      have hlen := hGD.len
      obtain ⟨a, d, e⟩ := q
      simp only at hatb
      cases f1 with
      | zero => exact absurd HP.out (by intro h; simp [partLoop] at h)
      | succ f =>
      have hP := HP.out
      rw [partLoop] at hP
      have hM := moreC g s ⟨a, d, e⟩ wr hL.pz (by omega) (by simp only; omega)
      by_cases hm : moreP (bs s) ⟨a, d, e⟩ = true
      · rw [if_pos hm] at hP
        rw [hm] at hM
        have HM := Lib.hid hM
        obtain ⟨he0, hlt⟩ := more_at hm
        simp only at he0 hlt
        subst he0
        have hl0 : 0 < l.length := (hGD.ok rfl).2.2.2.1
        have hbb : bAt (bs s) ⟨a, d, 0⟩ = s[a].toNat := bs_get s a hlt
        rw [hbb] at hP
        have HGD := Lib.hid hGD
        have hPP := Lib.hid hP
        have i1 : (0 : Int) ≤ (a : Int) := by omega
        have i2 : (a : Int) < (s.size : Int) := by omega
        obtain ⟨Al, cl, rfl, hts, _⟩ := hL.ow.shape
        clear hM hm hP HP hGD hbb hatb
        go_wp2_with fail
        refine (HM.out).mono ?_; rintro e w' ⟨rfl, n, rfl⟩
        have hL1 := hL.drewN n
        go_upto_region 3 with fail
        generalize wr.drewN n = V at *
        clear hL hts
        obtain ⟨c0, c1, c2, c3, f1, f2, f3⟩ := PzC_cells hL1.pz
        simp only at c0 c1 c2 c3
        clear c2 c3 f1 f2 f3
        by_cases h42 : s[a].toNat = 42
        · have HN := hPP.out
          rw [if_pos h42] at HN
          have HN : Hid (partLoop (bs s) f (joinN 5 l []) ⟨a + 1, d, 0⟩ = some R) := Lib.hid HN
          have b1 : ((s[a].toNat : Int) == 42) = true := by simp; omega
          clear h42 hPP
          go_quiet (fail)
          have hLz := hL1.drewN nq
          clear c0 c1 hL1
          generalize V.drewN nq = Z at *
          obtain ⟨_, _, hsv, hts, _⟩ := hLz.ow.shape
          injection hsv with hs1 _ hs2
          subst hs1 hs2
          have hJ := joinC 5 Al none cl 0 l [] Z hts.rs Rs.nil_ hl0 (by omega) ⟨by simp, by simp⟩
          have HJ : Hid (Calls Try.prog 77 #[.int .i64 5, .slice Al l.length cl, .slice none 0 0] Z (NodesOld (joinN 5 l []) Z)) := Lib.hid hJ
          clear hJ
          go_wp2_with fail
          refine (HJ.out).mono ?_; rintro e Y ⟨v, rfl, hoj, oj⟩
          have hL2 : LB w s g ⟨a, d, 0⟩ v (joinN 5 l []) Y := ⟨oj.block hLz.pz, hoj.base hLz.gr.size, grown_old_ hLz.gr oj⟩
          clear hoj oj HJ hts
          obtain ⟨c0, c1, c2, c3, f1, f2, f3⟩ := PzC_cells hL2.pz
          simp only at c0 c1 c2 c3
          clear c0 c2 c3 f2 f3
          have hL3 := hL2.up
          simp only [upP] at hL3
          have hG2 : Good s.size p0 (joinN 5 l []) ⟨a + 1, d, 0⟩ 2 := by
            obtain ⟨y1, y2, y3, y4, y5⟩ := HGD.out.ok rfl
            simp only at y1 y2 y3 y5
            exact ⟨HGD.out.dp, HGD.out.nb.join Nb.nil_ hl0, fun _ => ⟨y1, by simp only; omega, by simp only; omega, by rw [join_len]; omega, by rw [join_len]; simp only [List.length_nil]; omega⟩, fun h => absurd rfl h⟩
          have HG2 := Lib.hid hG2
          have HME := Lib.hid (atOf_eq hL3.pz)
          clear hL2 hG2 hLz
          go_wp2_with fail
          go_roundw
          case rel => exact ⟨f, joinN 5 l [], ⟨a + 1, d, 0⟩, HG2.out, hL3, HN⟩
          case measure => rw [HME.out, HMEAS.out]; omega
        have n42 : ((s[a].toNat : Int) == 42) = false := by simp; omega
        by_cases h43 : s[a].toNat = 43
        · have HN := hPP.out
          rw [if_neg h42, if_pos h43] at HN
          have HN : Hid (partLoop (bs s) f (joinN 6 l []) ⟨a + 1, d, 0⟩ = some R) := Lib.hid HN
          have b1 : ((s[a].toNat : Int) == 43) = true := by simp; omega
          clear h42 h43 hPP
          go_quiet (fail)
          have hLz := hL1.drewN nq
          clear c0 c1 hL1
          generalize V.drewN nq = Z at *
          obtain ⟨_, _, hsv, hts, _⟩ := hLz.ow.shape
          injection hsv with hs1 _ hs2
          subst hs1 hs2
          have hJ := joinC 6 Al none cl 0 l [] Z hts.rs Rs.nil_ hl0 (by omega) ⟨by simp, by simp⟩
          have HJ : Hid (Calls Try.prog 77 #[.int .i64 6, .slice Al l.length cl, .slice none 0 0] Z (NodesOld (joinN 6 l []) Z)) := Lib.hid hJ
          clear hJ
          go_wp2_with fail
          refine (HJ.out).mono ?_; rintro e Y ⟨v, rfl, hoj, oj⟩
          have hL2 : LB w s g ⟨a, d, 0⟩ v (joinN 6 l []) Y := ⟨oj.block hLz.pz, hoj.base hLz.gr.size, grown_old_ hLz.gr oj⟩
          clear hoj oj HJ hts
          obtain ⟨c0, c1, c2, c3, f1, f2, f3⟩ := PzC_cells hL2.pz
          simp only at c0 c1 c2 c3
          clear c0 c2 c3 f2 f3
          have hL3 := hL2.up
          simp only [upP] at hL3
          have hG2 : Good s.size p0 (joinN 6 l []) ⟨a + 1, d, 0⟩ 2 := by
            obtain ⟨y1, y2, y3, y4, y5⟩ := HGD.out.ok rfl
            simp only at y1 y2 y3 y5
            exact ⟨HGD.out.dp, HGD.out.nb.join Nb.nil_ hl0, fun _ => ⟨y1, by simp only; omega, by simp only; omega, by rw [join_len]; omega, by rw [join_len]; simp only [List.length_nil]; omega⟩, fun h => absurd rfl h⟩
          have HG2 := Lib.hid hG2
          have HME := Lib.hid (atOf_eq hL3.pz)
          clear hL2 hG2 hLz
          go_wp2_with fail
          go_roundw
          case rel => exact ⟨f, joinN 6 l [], ⟨a + 1, d, 0⟩, HG2.out, hL3, HN⟩
          case measure => rw [HME.out, HMEAS.out]; omega
        have n43 : ((s[a].toNat : Int) == 43) = false := by simp; omega
        by_cases h63 : s[a].toNat = 63
        · have HN := hPP.out
          rw [if_neg h42, if_neg h43, if_pos h63] at HN
          have HN : Hid (partLoop (bs s) f (joinN 7 l []) ⟨a + 1, d, 0⟩ = some R) := Lib.hid HN
          have b1 : ((s[a].toNat : Int) == 63) = true := by simp; omega
          clear h42 h43 h63 hPP
          go_quiet (fail)
          have hLz := hL1.drewN nq
          clear c0 c1 hL1
          generalize V.drewN nq = Z at *
          obtain ⟨_, _, hsv, hts, _⟩ := hLz.ow.shape
          injection hsv with hs1 _ hs2
          subst hs1 hs2
          have hJ := joinC 7 Al none cl 0 l [] Z hts.rs Rs.nil_ hl0 (by omega) ⟨by simp, by simp⟩
          have HJ : Hid (Calls Try.prog 77 #[.int .i64 7, .slice Al l.length cl, .slice none 0 0] Z (NodesOld (joinN 7 l []) Z)) := Lib.hid hJ
          clear hJ
          go_wp2_with fail
          refine (HJ.out).mono ?_; rintro e Y ⟨v, rfl, hoj, oj⟩
          have hL2 : LB w s g ⟨a, d, 0⟩ v (joinN 7 l []) Y := ⟨oj.block hLz.pz, hoj.base hLz.gr.size, grown_old_ hLz.gr oj⟩
          clear hoj oj HJ hts
          obtain ⟨c0, c1, c2, c3, f1, f2, f3⟩ := PzC_cells hL2.pz
          simp only at c0 c1 c2 c3
          clear c0 c2 c3 f2 f3
          have hL3 := hL2.up
          simp only [upP] at hL3
          have hG2 : Good s.size p0 (joinN 7 l []) ⟨a + 1, d, 0⟩ 2 := by
            obtain ⟨y1, y2, y3, y4, y5⟩ := HGD.out.ok rfl
            simp only at y1 y2 y3 y5
            exact ⟨HGD.out.dp, HGD.out.nb.join Nb.nil_ hl0, fun _ => ⟨y1, by simp only; omega, by simp only; omega, by rw [join_len]; omega, by rw [join_len]; simp only [List.length_nil]; omega⟩, fun h => absurd rfl h⟩
          have HG2 := Lib.hid hG2
          have HME := Lib.hid (atOf_eq hL3.pz)
          clear hL2 hG2 hLz
          go_wp2_with fail
          go_roundw
          case rel => exact ⟨f, joinN 7 l [], ⟨a + 1, d, 0⟩, HG2.out, hL3, HN⟩
          case measure => rw [HME.out, HMEAS.out]; omega
        have n63 : ((s[a].toNat : Int) == 63) = false := by simp; omega
        have HN := hPP.out
        rw [if_neg h42, if_neg h43, if_neg h63] at HN
        have HE := Lib.hid (Option.some.inj HN).symm
        clear h42 h43 h63 hPP HN
        go_quiet (fail)
        have hLz := hL1.drewN nq
        clear c0 c1 hL1
        generalize V.drewN nq = Z at *
        go_wp2_with fail
        go_ret
        rw [HE.out]
        exact ⟨_, rfl, hLz⟩
      · rw [if_neg hm] at hP
        have hm2 : moreP (bs s) ⟨a, d, e⟩ = false := by simpa using hm
        rw [hm2] at hM
        have HM := Lib.hid hM
        have HE := Lib.hid (Option.some.inj hP).symm
        clear hM hP hm hm2 HP hGD
        go_wp2_with fail
        refine (HM.out).mono ?_; rintro e w' ⟨rfl, n, rfl⟩
        have hL1 := hL.drewN n
        clear hL
        go_wp2_with fail
        go_ret
        rw [HE.out]
        exact ⟨_, rfl, hL1⟩
end Go.Proofs.Ythadkjgadhbidaa
