/-
  The walks of the reference's escape, single.
-/
import Derived.Test.YthadkjgadhbidaaRxM
import Derived.Test.YthadkjgadhbidaaRegInvB
namespace Go.Proofs.Ythadkjgadhbidaa
open Go.RowKit
set_option linter.unusedVariables false

/-- A box of a set that a region makes and fills. -/
structure SetBox (W1 : World) (ka : Nat) (made stored : Bool) (z : BSet) (ww : World) : Prop where
  old : Old W1 ww
  ge : made = true → W1.heap.size ≤ ka
  new_ : made = true → stored = false → ww.heap[ka]? = some (setC 0)
  st : stored = true → ww.heap[ka]? = some (setC z)
theorem SetBox.start (W1 : World) (z : BSet) : SetBox W1 0 false false z W1.drew := ⟨(Old.refl _).drew, (fun h => by cases h), (fun h => by cases h), (fun h => by cases h)⟩
theorem SetBox.alloc {W1 : World} {ka : Nat} {z : BSet} {ww : World} (h : SetBox W1 ka false false z ww) : SetBox W1 ww.heap.size true false z (ww.alloc (.cells #[.int .u64 0, .int .u64 0, .int .u64 0, .int .u64 0] 40)) :=
  ⟨h.old.alloc _, fun _ => h.old.size, fun _ _ => heap_alloc_new ww _, (fun h => by cases h)⟩
theorem SetBox.call {W1 : World} {ka : Nat} {m b : Bool} {z : BSet} {ww w2 : World} (h : SetBox W1 ka m b z ww) (o : Old ww w2) : SetBox W1 ka m b z w2 :=
  ⟨h.old.up o, h.ge, fun a c => o.block (h.new_ a c), fun a => o.block (h.st a)⟩
theorem SetBox.store {W1 : World} {ka : Nat} {z : BSet} {ww : World} (h : SetBox W1 ka true false z ww) :
    SetBox W1 ka true true z ((((ww.setCell ⟨ka, 0, none⟩ (.int .u64 (setW z 0))).setCell ⟨ka, 1, none⟩ (.int .u64 (setW z 1))).setCell ⟨ka, 2, none⟩ (.int .u64 (setW z 2))).setCell ⟨ka, 3, none⟩ (.int .u64 (setW z 3))) :=
  ⟨(((h.old.setCell (p := ⟨ka, 0, none⟩) (h.ge rfl) _).setCell (p := ⟨ka, 1, none⟩) (h.ge rfl) _).setCell (p := ⟨ka, 2, none⟩) (h.ge rfl) _).setCell (p := ⟨ka, 3, none⟩) (h.ge rfl) _, h.ge, (fun _ h => by cases h), fun _ => setC_store (h.new_ rfl rfl) z⟩
/-- Four words stored in a block that is new to w. -/
theorem grown_new4 {w X : World} {g : Nat} (h1 : w.grownBy X (some g)) (z : BSet) :
    w.grownBy ((((X.setCell ⟨w.heap.size, 0, none⟩ (.int .u64 (setW z 0))).setCell ⟨w.heap.size, 1, none⟩ (.int .u64 (setW z 1))).setCell ⟨w.heap.size, 2, none⟩ (.int .u64 (setW z 2))).setCell ⟨w.heap.size, 3, none⟩ (.int .u64 (setW z 3))) (some g) := by
  refine ⟨h1.os, h1.tape, h1.output, by simpa using h1.size, fun k hk hne => ?_⟩
  rw [set4_other _ w.heap.size k _ _ _ _ (by omega)]
  exact h1.block k hk hne
def EI (g a : Nat) (s : ByteArray) (ha : a < s.size) (z : BSet) (one ok : Bool) (W1 : World) (s2 s7 s8 s9 s10 s11 s12 s13 s14 s15 s16 : Value) (listed : Array Bool) (aa : Act) (ww : World) : Prop :=
  ∃ (b0 b1 b2 b3 b4 b5 b6 b7 b8 b9 b10 b11 b12 b13 b14 b15 b16 b17 : Bool) (ka : Nat) (nov : Value), listed = #[b0, b1, b2, b3, b4, b5, b6, b7, b8, b9, b10, b11, b12, b13, b14, b15, b16, b17] ∧
    aa = { tmps := #[.pointer (some ⟨g, 0, none⟩), undef, s2, .bool false, cond b14 (.pointer (some ⟨ka, 0, none⟩)) (undef), cond b16 (.bool one) (undef), cond b17 (.bool ok) (undef), s7, s8, s9, s10, s11, s12, s13, s14, s15, s16, undef, undef, undef, cond b10 (.tuple #[.agg #[.int .u64 (setW z 0), .int .u64 (setW z 1), .int .u64 (setW z 2), .int .u64 (setW z 3)], .bool one, .bool ok]) (undef), cond b0 (.pointer (some ⟨g, 0, none⟩)) (undef), cond b1 (.pointer (some ⟨g, 0, none⟩)) (undef), cond b2 (.pointer (some ⟨g, 0, none⟩)) (undef), cond b3 (.string s) (undef), cond b4 (.pointer (some ⟨g, 0, none⟩)) (undef), cond b5 (.pointer (some ⟨g, 0, none⟩)) (undef), cond b6 (.pointer (some ⟨g, 1, none⟩)) (undef), cond b7 (.int .i64 a) (undef), cond b8 (.int .u8 s[a].toNat) (undef), cond b9 (.tuple #[.agg #[.int .u64 (setW z 0), .int .u64 (setW z 1), .int .u64 (setW z 2), .int .u64 (setW z 3)], .bool one, .bool ok]) (undef), cond b11 (.agg #[.int .u64 (setW z 0), .int .u64 (setW z 1), .int .u64 (setW z 2), .int .u64 (setW z 3)]) (undef), cond b12 (.bool one) (undef), cond b13 (.bool ok) (undef), undef, undef, undef, undef, undef, undef, undef, undef, undef, undef, undef, undef, undef], defers := [] } ∧ SetBox W1 ka b14 b15 z ww

def EPost (w : World) (g : Nat) (s : ByteArray) (r : (BSet × Bool) × Ps) (e : Ending) (w' : World) : Prop := e = .returned (.tuple #[setA r.1.1, .bool r.1.2]) ∧ w'.heap[g]? = some (PzC s r.2) ∧ w.grownBy w' (some g)
set_option maxHeartbeats 1000000 in
set_option maxRecDepth 100000 in
theorem escC (g : Nat) (s : ByteArray) (p : Ps) (w : World) (h : w.heap[g]? = some (PzC s p)) (hs : s.size ≤ 1000000) (ha : p.at_ ≤ 1000000) : Calls Try.prog 93 #[.pointer (some ⟨g, 0, none⟩)] w (EPost w g s (escP (bs s) p)) := by
  obtain ⟨a, d, e⟩ := p
  simp only at ha
  have hgl := lt_of_block h
  have oW := (Old.refl w).alloc (.cells #[.int .u64 0, .int .u64 0, .int .u64 0, .int .u64 0] 40)
  have hz : (w.alloc (.cells #[.int .u64 0, .int .u64 0, .int .u64 0, .int .u64 0] 40)).heap[w.heap.size]? = some (setC 0) := heap_alloc_new w _
  have hP := oW.block h
  have OW := Lib.hid oW
  have HZ := Lib.hid hz
  have HP := Lib.hid hP
  obtain ⟨c0, c1, c2, c3, f1, f2, f3⟩ := PzC_cells hP
  simp only at c0 c1 c2 c3
  clear h hz oW hP
  by_cases hlt : a < s.size
  · have hb := bs_get s a hlt
    have hb2 := bs_lt s a
    rw [hb] at hb2
    have hE : escP (bs s) ⟨a, d, e⟩ = (((namedB s[a].toNat).1, (namedB s[a].toNat).2.1), upP (if (namedB s[a].toNat).2.2 = true then ⟨a, d, e⟩ else failP ⟨a, d, e⟩ 82)) := by
      unfold escP bAt
      rw [if_pos (by rw [bs_length]; exact hlt)]
      simp only [hb]
    have HE := Lib.hid hE
    have hN0 := fun W => namedC s[a].toNat hb2 W
    have HB := Lib.hid hb2
    have hd : decide (s.size ≤ a) = false := by simpa using hlt
    have hN := Lib.hid hN0
    clear hN0
    clear hE hb hb2
    go_enter Try.func93, Try.ntmps93
    go_wp2_with fail
    go_quiet (fail)
    go_upto_region 4 with fail
    have O1 := Lib.hid (OW.out.drewN nq)
    have Z1 : Hid (((w.alloc (.cells #[.int .u64 0, .int .u64 0, .int .u64 0, .int .u64 0] 40)).drewN nq).heap[w.heap.size]? = some (setC 0)) := HZ
    have P1 : Hid (((w.alloc (.cells #[.int .u64 0, .int .u64 0, .int .u64 0, .int .u64 0] 40)).drewN nq).heap[g]? = some (PzC s ⟨a, d, e⟩)) := HP
    generalize (w.alloc (.cells #[.int .u64 0, .int .u64 0, .int .u64 0, .int .u64 0] 40)).drewN nq = W1 at *
    clear OW HZ HP c0 c1 c2 c3 f1 f2 f3
    obtain ⟨c0, c1, c2, c3, f1, f2, f3⟩ := PzC_cells P1.out
    simp only at c0 c1 c2 c3
    have i1 : (0 : Int) ≤ (a : Int) := by omega
    have i2 : (a : Int) < (s.size : Int) := by omega
    have hM := hN.out
    clear hN
    generalize hr : namedB s[a].toNat = r at *
    have HR := Lib.hid hr
    clear hr
    obtain ⟨z, one, ok⟩ := r
    unfold NamedPost setA at hM
    simp only at hM
    have HNN := Lib.hid hM
    clear hM
    clear c2 c3 f1 f2 f3
    refine wp_region_steps2 (by kernel_rfl) (by kernel_rfl) (EI g a s hlt z one ok W1 (.pointer (some ⟨w.heap.size, 0, none⟩)) (.pointer (some ⟨g, 0, none⟩)) (.pointer (some ⟨g, 0, none⟩)) (.pointer (some ⟨g, 1, none⟩)) (.int .i64 a) (.pointer (some ⟨g, 0, none⟩)) (.pointer (some ⟨g, 0, none⟩)) (.pointer (some ⟨g, 0, none⟩)) (.string s) (.int .i64 s.size) (.bool false)) ?_ ?_ ⟨?_, ?_, ?_, ?_, ?_, ?_, ?_, ?_, ?_, ?_, ?_, ?_, ?_, ?_, ?_, ?_, ?_, ?_, trivial⟩
    · exact ⟨false, false, false, false, false, false, false, false, false, false, false, false, false, false, false, false, false, false, 0, undef, rfl, rfl, SetBox.start W1 z⟩
    · rintro a w1 ⟨b0, b1, b2, b3, b4, b5, b6, b7, b8, b9, b10, b11, b12, b13, b14, b15, b16, b17, ka, nov, hl, rfl, hF⟩
      have hl' := congrArg Array.toList hl
      simp at hl'
      obtain ⟨rfl, rfl, rfl, rfl, rfl, rfl, rfl, rfl, rfl, rfl, rfl, rfl, rfl, rfl, rfl, rfl, rfl, rfl⟩ := hl'
      clear hl
      have hb := hF.st rfl
      have hold := hF.old
      have hge := hF.ge rfl
      clear hF c0 c1
      have hp := hold.block P1.out
      have hz := hold.block Z1.out
      have hgl2 := lt_of_block P1.out
      have hgr : w.grownBy w1 (some g) := old_grown_ (O1.out.up hold) (grown_refl w1 (some g))
      clear hold
      cases ok with
      | true =>
        generalize w1 = X at *
        obtain ⟨p0, p1, p2, p3, g1, g2, g3⟩ := PzC_cells hp
        simp only at p0 p1 p2 p3
        have hP2 := PzC_at hp (a + 1)
        have hZ2 := (c4_far X g w.heap.size 1 (.int .i64 ((a + 1 : Nat) : Int)) (by omega)).trans hz
        have hB2 := (c4_far X g ka 1 (.int .i64 ((a + 1 : Nat) : Int)) (by omega)).trans hb
        have hG2 := grown_store hgr 1 (.int .i64 ((a + 1 : Nat) : Int))
        rw [show ((a + 1 : Nat) : Int) = (a : Int) + 1 by omega] at hP2 hZ2 hB2 hG2
        have HP2 := Lib.hid hP2
        have HZ2 := Lib.hid hZ2
        have HB2 := Lib.hid hB2
        have HG2 := Lib.hid hG2
        clear hP2 hZ2 hB2 hG2 hp hb hz hgr p0 p2 p3 g2 g3
        go_upto_region 8 with fail
        generalize X.setCell ⟨g, 1, none⟩ (.int .i64 ((a : Int) + 1)) = Y at *
        obtain ⟨d0, d1, d2, d3, _, _, _, _⟩ := setC_cells HB2.out
        obtain ⟨r0, r1, r2, r3, y0, y1, y2, y3⟩ := setC_cells HZ2.out
        have q2 := setC_store HZ2.out z
        obtain ⟨v0, v1, v2, v3, _, _, _, _⟩ := setC_cells q2
        have HP3 := Lib.hid ((set4_other Y w.heap.size g (.int .u64 (setW z 0)) (.int .u64 (setW z 1)) (.int .u64 (setW z 2)) (.int .u64 (setW z 3)) (by omega)).trans HP2.out)
        have HG3 := Lib.hid (grown_new4 HG2.out z)
        clear q2 p1 g1
        go_wp2_with fail
        refine bodyPost_ret (v := .tuple #[setA z, .bool one]) (by simp [results, Try.results93, go_sem, v0, v1, v2, v3, setA]) rfl ?_
        rw [HE.out]
        rw [if_pos trivial]
        exact ⟨rfl, HP3.out, HG3.out⟩
      | false =>
        have HFL := Lib.hid (failC g s ⟨a, d, e⟩ 82 w1 hp)
        have HB1 := Lib.hid hb
        have HZ1 := Lib.hid hz
        have HGR := Lib.hid hgr
        clear hb hz hgr hp
        go_wp2_with fail
        refine (HFL.out).mono ?_; rintro e X ⟨rfl, hp, hg2⟩
        have hb := (hg2.block ka (lt_of_block HB1.out) (by intro h; injection h with h; omega)).trans HB1.out
        have hz := (hg2.block w.heap.size (lt_of_block HZ1.out) (by intro h; injection h with h; omega)).trans HZ1.out
        have hgr := World.grownBy.trans HGR.out hg2
        clear hg2
        obtain ⟨d2, e2, hfe⟩ : ∃ d2 e2, failP ⟨a, d, e⟩ 82 = ⟨a, d2, e2⟩ := by unfold failP; split <;> exact ⟨_, _, rfl⟩
        rw [hfe] at hp
        have HFE := Lib.hid hfe
        clear hfe HGR
        obtain ⟨p0, p1, p2, p3, g1, g2, g3⟩ := PzC_cells hp
        simp only at p0 p1 p2 p3
        have hP2 := PzC_at hp (a + 1)
        have hZ2 := (c4_far X g w.heap.size 1 (.int .i64 ((a + 1 : Nat) : Int)) (by omega)).trans hz
        have hB2 := (c4_far X g ka 1 (.int .i64 ((a + 1 : Nat) : Int)) (by omega)).trans hb
        have hG2 := grown_store hgr 1 (.int .i64 ((a + 1 : Nat) : Int))
        rw [show ((a + 1 : Nat) : Int) = (a : Int) + 1 by omega] at hP2 hZ2 hB2 hG2
        have HP2 := Lib.hid hP2
        have HZ2 := Lib.hid hZ2
        have HB2 := Lib.hid hB2
        have HG2 := Lib.hid hG2
        clear hP2 hZ2 hB2 hG2 hp hb hz hgr p0 p2 p3 g2 g3
        go_upto_region 8 with fail
        generalize X.setCell ⟨g, 1, none⟩ (.int .i64 ((a : Int) + 1)) = Y at *
        obtain ⟨d0, d1, d2, d3, _, _, _, _⟩ := setC_cells HB2.out
        obtain ⟨r0, r1, r2, r3, y0, y1, y2, y3⟩ := setC_cells HZ2.out
        have q2 := setC_store HZ2.out z
        obtain ⟨v0, v1, v2, v3, _, _, _, _⟩ := setC_cells q2
        have HP3 := Lib.hid ((set4_other Y w.heap.size g (.int .u64 (setW z 0)) (.int .u64 (setW z 1)) (.int .u64 (setW z 2)) (.int .u64 (setW z 3)) (by omega)).trans HP2.out)
        have HG3 := Lib.hid (grown_new4 HG2.out z)
        clear q2 p1 g1
        go_wp2_with fail
        refine bodyPost_ret (v := .tuple #[setA z, .bool one]) (by simp [results, Try.results93, go_sem, v0, v1, v2, v3, setA]) rfl ?_
        rw [HE.out]
        rw [if_neg (by decide), HFE.out]
        exact ⟨rfl, HP3.out, HG3.out⟩
    · intro listed a w1 K hs hcl hf hall hI hK
      obtain ⟨b0, b1, b2, b3, b4, b5, b6, b7, b8, b9, b10, b11, b12, b13, b14, b15, b16, b17, ka, nov, rfl, rfl, hF⟩ := hI
      have hf' : b0 = false := hf
      subst hf'
      clear hall hcl hs hf
      go_simp
      exact hK _ _ ⟨true, b1, b2, b3, b4, b5, b6, b7, b8, b9, b10, b11, b12, b13, b14, b15, b16, b17, ka, nov, rfl, rfl, hF⟩
    · intro listed a w1 K hs hcl hf hall hI hK
      obtain ⟨b0, b1, b2, b3, b4, b5, b6, b7, b8, b9, b10, b11, b12, b13, b14, b15, b16, b17, ka, nov, rfl, rfl, hF⟩ := hI
      have hf' : b1 = false := hf
      subst hf'
      have hq0 : b0 = true := hall ⟨0, .data⟩ (by first | exact .head _ | simp) rfl
      subst hq0
      clear hall hcl hs hf
      go_simp
      exact hK _ _ ⟨true, true, b2, b3, b4, b5, b6, b7, b8, b9, b10, b11, b12, b13, b14, b15, b16, b17, ka, nov, rfl, rfl, hF⟩
    · intro listed a w1 K hs hcl hf hall hI hK
      obtain ⟨b0, b1, b2, b3, b4, b5, b6, b7, b8, b9, b10, b11, b12, b13, b14, b15, b16, b17, ka, nov, rfl, rfl, hF⟩ := hI
      have hf' : b2 = false := hf
      subst hf'
      have hq1 : b1 = true := hall ⟨1, .data⟩ (by first | exact .head _ | simp) rfl
      subst hq1
      clear hall hcl hs hf
      go_simp
      exact hK _ _ ⟨b0, true, true, b3, b4, b5, b6, b7, b8, b9, b10, b11, b12, b13, b14, b15, b16, b17, ka, nov, rfl, rfl, hF⟩
    · intro listed a w1 K hs hcl hf hall hI hK
      obtain ⟨b0, b1, b2, b3, b4, b5, b6, b7, b8, b9, b10, b11, b12, b13, b14, b15, b16, b17, ka, nov, rfl, rfl, hF⟩ := hI
      have hf' : b3 = false := hf
      subst hf'
      have hq2 : b2 = true := hall ⟨2, .data⟩ (by first | exact .head _ | simp) rfl
      subst hq2
      have hq1 : b1 = true := hcl 2 _ rfl rfl ⟨1, .data⟩ (by first | exact .head _ | simp) rfl
      subst hq1
      have hq0 : b0 = true := hcl 1 _ rfl rfl ⟨0, .data⟩ (by first | exact .head _ | simp) rfl
      subst hq0
      have hb8 : b8 = false := by
        cases b8
        · rfl
        · exact absurd (show false = true from hcl 8 _ rfl rfl ⟨3, .data⟩ (by first | exact .head _ | simp) rfl) (by decide)
      subst hb8
      have hb15 : b15 = false := by
        cases b15
        · rfl
        · exact absurd (show false = true from hcl 15 _ rfl rfl ⟨3, .phase⟩ (by first | exact .head _ | simp) rfl) (by decide)
      subst hb15
      have hb16 : b16 = false := by
        cases b16
        · rfl
        · exact absurd (show false = true from hcl 16 _ rfl rfl ⟨3, .phase⟩ (by first | exact .head _ | simp) rfl) (by decide)
      subst hb16
      have hb17 : b17 = false := by
        cases b17
        · rfl
        · exact absurd (show false = true from hcl 17 _ rfl rfl ⟨3, .phase⟩ (by first | exact .head _ | simp) rfl) (by decide)
      subst hb17
      have hb9 : b9 = false := by
        cases b9
        · rfl
        · exact absurd (show false = true from hcl 9 _ rfl rfl ⟨8, .data⟩ (by first | exact .head _ | simp) rfl) (by decide)
      subst hb9
      have hb10 : b10 = false := by
        cases b10
        · rfl
        · exact absurd (show false = true from hcl 10 _ rfl rfl ⟨9, .data⟩ (by first | exact .head _ | simp) rfl) (by decide)
      subst hb10
      have hb11 : b11 = false := by
        cases b11
        · rfl
        · exact absurd (show false = true from hcl 11 _ rfl rfl ⟨10, .data⟩ (by first | exact .head _ | simp) rfl) (by decide)
      subst hb11
      have hb12 : b12 = false := by
        cases b12
        · rfl
        · exact absurd (show false = true from hcl 12 _ rfl rfl ⟨10, .data⟩ (by first | exact .head _ | simp) rfl) (by decide)
      subst hb12
      have hb13 : b13 = false := by
        cases b13
        · rfl
        · exact absurd (show false = true from hcl 13 _ rfl rfl ⟨10, .data⟩ (by first | exact .head _ | simp) rfl) (by decide)
      subst hb13
      clear hall hcl hs hf
      have q0 : w1.cell? ⟨g, 0, none⟩ = some (.string s) := hF.old.cell c0
      have q1 : w1.cell? ⟨g, 1, none⟩ = some (.int .i64 a) := hF.old.cell c1
      go_simp
      exact hK _ _ ⟨true, true, true, true, b4, b5, b6, b7, false, false, false, false, false, false, b14, false, false, false, ka, nov, rfl, rfl, hF⟩
    · intro listed a w1 K hs hcl hf hall hI hK
      obtain ⟨b0, b1, b2, b3, b4, b5, b6, b7, b8, b9, b10, b11, b12, b13, b14, b15, b16, b17, ka, nov, rfl, rfl, hF⟩ := hI
      have hf' : b4 = false := hf
      subst hf'
      clear hall hcl hs hf
      go_simp
      exact hK _ _ ⟨b0, b1, b2, b3, true, b5, b6, b7, b8, b9, b10, b11, b12, b13, b14, b15, b16, b17, ka, nov, rfl, rfl, hF⟩
    · intro listed a w1 K hs hcl hf hall hI hK
      obtain ⟨b0, b1, b2, b3, b4, b5, b6, b7, b8, b9, b10, b11, b12, b13, b14, b15, b16, b17, ka, nov, rfl, rfl, hF⟩ := hI
      have hf' : b5 = false := hf
      subst hf'
      have hq4 : b4 = true := hall ⟨4, .data⟩ (by first | exact .head _ | simp) rfl
      subst hq4
      clear hall hcl hs hf
      go_simp
      exact hK _ _ ⟨b0, b1, b2, b3, true, true, b6, b7, b8, b9, b10, b11, b12, b13, b14, b15, b16, b17, ka, nov, rfl, rfl, hF⟩
    · intro listed a w1 K hs hcl hf hall hI hK
      obtain ⟨b0, b1, b2, b3, b4, b5, b6, b7, b8, b9, b10, b11, b12, b13, b14, b15, b16, b17, ka, nov, rfl, rfl, hF⟩ := hI
      have hf' : b6 = false := hf
      subst hf'
      have hq5 : b5 = true := hall ⟨5, .data⟩ (by first | exact .head _ | simp) rfl
      subst hq5
      clear hall hcl hs hf
      go_simp
      exact hK _ _ ⟨b0, b1, b2, b3, b4, true, true, b7, b8, b9, b10, b11, b12, b13, b14, b15, b16, b17, ka, nov, rfl, rfl, hF⟩
    · intro listed a w1 K hs hcl hf hall hI hK
      obtain ⟨b0, b1, b2, b3, b4, b5, b6, b7, b8, b9, b10, b11, b12, b13, b14, b15, b16, b17, ka, nov, rfl, rfl, hF⟩ := hI
      have hf' : b7 = false := hf
      subst hf'
      have hq6 : b6 = true := hall ⟨6, .data⟩ (by first | exact .head _ | simp) rfl
      subst hq6
      have hq5 : b5 = true := hcl 6 _ rfl rfl ⟨5, .data⟩ (by first | exact .head _ | simp) rfl
      subst hq5
      have hq4 : b4 = true := hcl 5 _ rfl rfl ⟨4, .data⟩ (by first | exact .head _ | simp) rfl
      subst hq4
      have hb8 : b8 = false := by
        cases b8
        · rfl
        · exact absurd (show false = true from hcl 8 _ rfl rfl ⟨7, .data⟩ (by first | exact .head _ | simp) rfl) (by decide)
      subst hb8
      have hb15 : b15 = false := by
        cases b15
        · rfl
        · exact absurd (show false = true from hcl 15 _ rfl rfl ⟨7, .phase⟩ (by first | exact .head _ | simp) rfl) (by decide)
      subst hb15
      have hb16 : b16 = false := by
        cases b16
        · rfl
        · exact absurd (show false = true from hcl 16 _ rfl rfl ⟨7, .phase⟩ (by first | exact .head _ | simp) rfl) (by decide)
      subst hb16
      have hb17 : b17 = false := by
        cases b17
        · rfl
        · exact absurd (show false = true from hcl 17 _ rfl rfl ⟨7, .phase⟩ (by first | exact .head _ | simp) rfl) (by decide)
      subst hb17
      have hb9 : b9 = false := by
        cases b9
        · rfl
        · exact absurd (show false = true from hcl 9 _ rfl rfl ⟨8, .data⟩ (by first | exact .head _ | simp) rfl) (by decide)
      subst hb9
      have hb10 : b10 = false := by
        cases b10
        · rfl
        · exact absurd (show false = true from hcl 10 _ rfl rfl ⟨9, .data⟩ (by first | exact .head _ | simp) rfl) (by decide)
      subst hb10
      have hb11 : b11 = false := by
        cases b11
        · rfl
        · exact absurd (show false = true from hcl 11 _ rfl rfl ⟨10, .data⟩ (by first | exact .head _ | simp) rfl) (by decide)
      subst hb11
      have hb12 : b12 = false := by
        cases b12
        · rfl
        · exact absurd (show false = true from hcl 12 _ rfl rfl ⟨10, .data⟩ (by first | exact .head _ | simp) rfl) (by decide)
      subst hb12
      have hb13 : b13 = false := by
        cases b13
        · rfl
        · exact absurd (show false = true from hcl 13 _ rfl rfl ⟨10, .data⟩ (by first | exact .head _ | simp) rfl) (by decide)
      subst hb13
      clear hall hcl hs hf
      have q0 : w1.cell? ⟨g, 0, none⟩ = some (.string s) := hF.old.cell c0
      have q1 : w1.cell? ⟨g, 1, none⟩ = some (.int .i64 a) := hF.old.cell c1
      go_simp
      exact hK _ _ ⟨b0, b1, b2, b3, true, true, true, true, false, false, false, false, false, false, b14, false, false, false, ka, nov, rfl, rfl, hF⟩
    · intro listed a w1 K hs hcl hf hall hI hK
      obtain ⟨b0, b1, b2, b3, b4, b5, b6, b7, b8, b9, b10, b11, b12, b13, b14, b15, b16, b17, ka, nov, rfl, rfl, hF⟩ := hI
      have hf' : b8 = false := hf
      subst hf'
      have hq3 : b3 = true := hall ⟨3, .data⟩ (by first | exact .head _ | simp) rfl
      subst hq3
      have hq7 : b7 = true := hall ⟨7, .data⟩ (by first | exact .head _ | simp) rfl
      subst hq7
      have hq2 : b2 = true := hcl 3 _ rfl rfl ⟨2, .data⟩ (by first | exact .head _ | simp) rfl
      subst hq2
      have hq6 : b6 = true := hcl 7 _ rfl rfl ⟨6, .data⟩ (by first | exact .head _ | simp) rfl
      subst hq6
      have hq1 : b1 = true := hcl 2 _ rfl rfl ⟨1, .data⟩ (by first | exact .head _ | simp) rfl
      subst hq1
      have hq5 : b5 = true := hcl 6 _ rfl rfl ⟨5, .data⟩ (by first | exact .head _ | simp) rfl
      subst hq5
      have hq0 : b0 = true := hcl 1 _ rfl rfl ⟨0, .data⟩ (by first | exact .head _ | simp) rfl
      subst hq0
      have hq4 : b4 = true := hcl 5 _ rfl rfl ⟨4, .data⟩ (by first | exact .head _ | simp) rfl
      subst hq4
      have hb9 : b9 = false := by
        cases b9
        · rfl
        · exact absurd (show false = true from hcl 9 _ rfl rfl ⟨8, .data⟩ (by first | exact .head _ | simp) rfl) (by decide)
      subst hb9
      have hb15 : b15 = false := by
        cases b15
        · rfl
        · exact absurd (show false = true from hcl 15 _ rfl rfl ⟨8, .phase⟩ (by first | exact .head _ | simp) rfl) (by decide)
      subst hb15
      have hb16 : b16 = false := by
        cases b16
        · rfl
        · exact absurd (show false = true from hcl 16 _ rfl rfl ⟨8, .phase⟩ (by first | exact .head _ | simp) rfl) (by decide)
      subst hb16
      have hb17 : b17 = false := by
        cases b17
        · rfl
        · exact absurd (show false = true from hcl 17 _ rfl rfl ⟨8, .phase⟩ (by first | exact .head _ | simp) rfl) (by decide)
      subst hb17
      have hb10 : b10 = false := by
        cases b10
        · rfl
        · exact absurd (show false = true from hcl 10 _ rfl rfl ⟨9, .data⟩ (by first | exact .head _ | simp) rfl) (by decide)
      subst hb10
      have hb11 : b11 = false := by
        cases b11
        · rfl
        · exact absurd (show false = true from hcl 11 _ rfl rfl ⟨10, .data⟩ (by first | exact .head _ | simp) rfl) (by decide)
      subst hb11
      have hb12 : b12 = false := by
        cases b12
        · rfl
        · exact absurd (show false = true from hcl 12 _ rfl rfl ⟨10, .data⟩ (by first | exact .head _ | simp) rfl) (by decide)
      subst hb12
      have hb13 : b13 = false := by
        cases b13
        · rfl
        · exact absurd (show false = true from hcl 13 _ rfl rfl ⟨10, .data⟩ (by first | exact .head _ | simp) rfl) (by decide)
      subst hb13
      clear hall hcl hs hf
      go_simp
      exact hK _ _ ⟨true, true, true, true, true, true, true, true, true, false, false, false, false, false, b14, false, false, false, ka, nov, rfl, rfl, hF⟩
    · intro listed a w1 K hs hcl hf hall hI hK
      obtain ⟨b0, b1, b2, b3, b4, b5, b6, b7, b8, b9, b10, b11, b12, b13, b14, b15, b16, b17, ka, nov, rfl, rfl, hF⟩ := hI
      have hf' : b9 = false := hf
      subst hf'
      have hq8 : b8 = true := hall ⟨8, .data⟩ (by first | exact .head _ | simp) rfl
      subst hq8
      have hq3 : b3 = true := hcl 8 _ rfl rfl ⟨3, .data⟩ (by first | exact .head _ | simp) rfl
      subst hq3
      have hq7 : b7 = true := hcl 8 _ rfl rfl ⟨7, .data⟩ (by first | exact .head _ | simp) rfl
      subst hq7
      have hq2 : b2 = true := hcl 3 _ rfl rfl ⟨2, .data⟩ (by first | exact .head _ | simp) rfl
      subst hq2
      have hq6 : b6 = true := hcl 7 _ rfl rfl ⟨6, .data⟩ (by first | exact .head _ | simp) rfl
      subst hq6
      have hq1 : b1 = true := hcl 2 _ rfl rfl ⟨1, .data⟩ (by first | exact .head _ | simp) rfl
      subst hq1
      have hq5 : b5 = true := hcl 6 _ rfl rfl ⟨5, .data⟩ (by first | exact .head _ | simp) rfl
      subst hq5
      have hq0 : b0 = true := hcl 1 _ rfl rfl ⟨0, .data⟩ (by first | exact .head _ | simp) rfl
      subst hq0
      have hq4 : b4 = true := hcl 5 _ rfl rfl ⟨4, .data⟩ (by first | exact .head _ | simp) rfl
      subst hq4
      have hb10 : b10 = false := by
        cases b10
        · rfl
        · exact absurd (show false = true from hcl 10 _ rfl rfl ⟨9, .data⟩ (by first | exact .head _ | simp) rfl) (by decide)
      subst hb10
      have hb15 : b15 = false := by
        cases b15
        · rfl
        · exact absurd (show false = true from hcl 15 _ rfl rfl ⟨9, .chain⟩ (by first | exact .head _ | simp) rfl) (by decide)
      subst hb15
      have hb16 : b16 = false := by
        cases b16
        · rfl
        · exact absurd (show false = true from hcl 16 _ rfl rfl ⟨9, .phase⟩ (by first | exact .head _ | simp) rfl) (by decide)
      subst hb16
      have hb17 : b17 = false := by
        cases b17
        · rfl
        · exact absurd (show false = true from hcl 17 _ rfl rfl ⟨9, .phase⟩ (by first | exact .head _ | simp) rfl) (by decide)
      subst hb17
      have hb11 : b11 = false := by
        cases b11
        · rfl
        · exact absurd (show false = true from hcl 11 _ rfl rfl ⟨10, .data⟩ (by first | exact .head _ | simp) rfl) (by decide)
      subst hb11
      have hb12 : b12 = false := by
        cases b12
        · rfl
        · exact absurd (show false = true from hcl 12 _ rfl rfl ⟨10, .data⟩ (by first | exact .head _ | simp) rfl) (by decide)
      subst hb12
      have hb13 : b13 = false := by
        cases b13
        · rfl
        · exact absurd (show false = true from hcl 13 _ rfl rfl ⟨10, .data⟩ (by first | exact .head _ | simp) rfl) (by decide)
      subst hb13
      clear hall hcl hs hf
      have hc := HNN.out w1
      go_simp
      refine hc.mono ?_
      rintro e w2 ⟨rfl, o2⟩
      exact hK _ _ ⟨true, true, true, true, true, true, true, true, true, true, false, false, false, false, b14, false, false, false, ka, nov, rfl, rfl, hF.call o2⟩
    · intro listed a w1 K hs hcl hf hall hI hK
      obtain ⟨b0, b1, b2, b3, b4, b5, b6, b7, b8, b9, b10, b11, b12, b13, b14, b15, b16, b17, ka, nov, rfl, rfl, hF⟩ := hI
      have hf' : b10 = false := hf
      subst hf'
      have hq9 : b9 = true := hall ⟨9, .data⟩ (by first | exact .head _ | simp) rfl
      subst hq9
      clear hall hcl hs hf
      go_simp
      exact hK _ _ ⟨b0, b1, b2, b3, b4, b5, b6, b7, b8, true, true, b11, b12, b13, b14, b15, b16, b17, ka, nov, rfl, rfl, hF⟩
    · intro listed a w1 K hs hcl hf hall hI hK
      obtain ⟨b0, b1, b2, b3, b4, b5, b6, b7, b8, b9, b10, b11, b12, b13, b14, b15, b16, b17, ka, nov, rfl, rfl, hF⟩ := hI
      have hf' : b11 = false := hf
      subst hf'
      have hq10 : b10 = true := hall ⟨10, .data⟩ (by first | exact .head _ | simp) rfl
      subst hq10
      have hq9 : b9 = true := hcl 10 _ rfl rfl ⟨9, .data⟩ (by first | exact .head _ | simp) rfl
      subst hq9
      have hq8 : b8 = true := hcl 9 _ rfl rfl ⟨8, .data⟩ (by first | exact .head _ | simp) rfl
      subst hq8
      have hq3 : b3 = true := hcl 8 _ rfl rfl ⟨3, .data⟩ (by first | exact .head _ | simp) rfl
      subst hq3
      have hq7 : b7 = true := hcl 8 _ rfl rfl ⟨7, .data⟩ (by first | exact .head _ | simp) rfl
      subst hq7
      have hq2 : b2 = true := hcl 3 _ rfl rfl ⟨2, .data⟩ (by first | exact .head _ | simp) rfl
      subst hq2
      have hq6 : b6 = true := hcl 7 _ rfl rfl ⟨6, .data⟩ (by first | exact .head _ | simp) rfl
      subst hq6
      have hq1 : b1 = true := hcl 2 _ rfl rfl ⟨1, .data⟩ (by first | exact .head _ | simp) rfl
      subst hq1
      have hq5 : b5 = true := hcl 6 _ rfl rfl ⟨5, .data⟩ (by first | exact .head _ | simp) rfl
      subst hq5
      have hq0 : b0 = true := hcl 1 _ rfl rfl ⟨0, .data⟩ (by first | exact .head _ | simp) rfl
      subst hq0
      have hq4 : b4 = true := hcl 5 _ rfl rfl ⟨4, .data⟩ (by first | exact .head _ | simp) rfl
      subst hq4
      have hb15 : b15 = false := by
        cases b15
        · rfl
        · exact absurd (show false = true from hcl 15 _ rfl rfl ⟨11, .data⟩ (by first | exact .head _ | simp) rfl) (by decide)
      subst hb15
      have hb16 : b16 = false := by
        cases b16
        · rfl
        · exact absurd (show false = true from hcl 16 _ rfl rfl ⟨11, .phase⟩ (by first | exact .head _ | simp) rfl) (by decide)
      subst hb16
      have hb17 : b17 = false := by
        cases b17
        · rfl
        · exact absurd (show false = true from hcl 17 _ rfl rfl ⟨11, .phase⟩ (by first | exact .head _ | simp) rfl) (by decide)
      subst hb17
      clear hall hcl hs hf
      go_simp
      exact hK _ _ ⟨true, true, true, true, true, true, true, true, true, true, true, true, b12, b13, b14, false, false, false, ka, nov, rfl, rfl, hF⟩
    · intro listed a w1 K hs hcl hf hall hI hK
      obtain ⟨b0, b1, b2, b3, b4, b5, b6, b7, b8, b9, b10, b11, b12, b13, b14, b15, b16, b17, ka, nov, rfl, rfl, hF⟩ := hI
      have hf' : b12 = false := hf
      subst hf'
      have hq10 : b10 = true := hall ⟨10, .data⟩ (by first | exact .head _ | simp) rfl
      subst hq10
      have hq9 : b9 = true := hcl 10 _ rfl rfl ⟨9, .data⟩ (by first | exact .head _ | simp) rfl
      subst hq9
      have hq8 : b8 = true := hcl 9 _ rfl rfl ⟨8, .data⟩ (by first | exact .head _ | simp) rfl
      subst hq8
      have hq3 : b3 = true := hcl 8 _ rfl rfl ⟨3, .data⟩ (by first | exact .head _ | simp) rfl
      subst hq3
      have hq7 : b7 = true := hcl 8 _ rfl rfl ⟨7, .data⟩ (by first | exact .head _ | simp) rfl
      subst hq7
      have hq2 : b2 = true := hcl 3 _ rfl rfl ⟨2, .data⟩ (by first | exact .head _ | simp) rfl
      subst hq2
      have hq6 : b6 = true := hcl 7 _ rfl rfl ⟨6, .data⟩ (by first | exact .head _ | simp) rfl
      subst hq6
      have hq1 : b1 = true := hcl 2 _ rfl rfl ⟨1, .data⟩ (by first | exact .head _ | simp) rfl
      subst hq1
      have hq5 : b5 = true := hcl 6 _ rfl rfl ⟨5, .data⟩ (by first | exact .head _ | simp) rfl
      subst hq5
      have hq0 : b0 = true := hcl 1 _ rfl rfl ⟨0, .data⟩ (by first | exact .head _ | simp) rfl
      subst hq0
      have hq4 : b4 = true := hcl 5 _ rfl rfl ⟨4, .data⟩ (by first | exact .head _ | simp) rfl
      subst hq4
      have hb16 : b16 = false := by
        cases b16
        · rfl
        · exact absurd (show false = true from hcl 16 _ rfl rfl ⟨12, .data⟩ (by first | exact .head _ | simp) rfl) (by decide)
      subst hb16
      have hb17 : b17 = false := by
        cases b17
        · rfl
        · exact absurd (show false = true from hcl 17 _ rfl rfl ⟨12, .phase⟩ (by first | exact .head _ | simp) rfl) (by decide)
      subst hb17
      clear hall hcl hs hf
      go_simp
      exact hK _ _ ⟨true, true, true, true, true, true, true, true, true, true, true, b11, true, b13, b14, b15, false, false, ka, nov, rfl, rfl, hF⟩
    · intro listed a w1 K hs hcl hf hall hI hK
      obtain ⟨b0, b1, b2, b3, b4, b5, b6, b7, b8, b9, b10, b11, b12, b13, b14, b15, b16, b17, ka, nov, rfl, rfl, hF⟩ := hI
      have hf' : b13 = false := hf
      subst hf'
      have hq10 : b10 = true := hall ⟨10, .data⟩ (by first | exact .head _ | simp) rfl
      subst hq10
      have hq9 : b9 = true := hcl 10 _ rfl rfl ⟨9, .data⟩ (by first | exact .head _ | simp) rfl
      subst hq9
      have hq8 : b8 = true := hcl 9 _ rfl rfl ⟨8, .data⟩ (by first | exact .head _ | simp) rfl
      subst hq8
      have hq3 : b3 = true := hcl 8 _ rfl rfl ⟨3, .data⟩ (by first | exact .head _ | simp) rfl
      subst hq3
      have hq7 : b7 = true := hcl 8 _ rfl rfl ⟨7, .data⟩ (by first | exact .head _ | simp) rfl
      subst hq7
      have hq2 : b2 = true := hcl 3 _ rfl rfl ⟨2, .data⟩ (by first | exact .head _ | simp) rfl
      subst hq2
      have hq6 : b6 = true := hcl 7 _ rfl rfl ⟨6, .data⟩ (by first | exact .head _ | simp) rfl
      subst hq6
      have hq1 : b1 = true := hcl 2 _ rfl rfl ⟨1, .data⟩ (by first | exact .head _ | simp) rfl
      subst hq1
      have hq5 : b5 = true := hcl 6 _ rfl rfl ⟨5, .data⟩ (by first | exact .head _ | simp) rfl
      subst hq5
      have hq0 : b0 = true := hcl 1 _ rfl rfl ⟨0, .data⟩ (by first | exact .head _ | simp) rfl
      subst hq0
      have hq4 : b4 = true := hcl 5 _ rfl rfl ⟨4, .data⟩ (by first | exact .head _ | simp) rfl
      subst hq4
      have hb17 : b17 = false := by
        cases b17
        · rfl
        · exact absurd (show false = true from hcl 17 _ rfl rfl ⟨13, .data⟩ (by first | exact .head _ | simp) rfl) (by decide)
      subst hb17
      clear hall hcl hs hf
      go_simp
      exact hK _ _ ⟨true, true, true, true, true, true, true, true, true, true, true, b11, b12, true, b14, b15, b16, false, ka, nov, rfl, rfl, hF⟩
    · intro listed a w1 K hs hcl hf hall hI hK
      obtain ⟨b0, b1, b2, b3, b4, b5, b6, b7, b8, b9, b10, b11, b12, b13, b14, b15, b16, b17, ka, nov, rfl, rfl, hF⟩ := hI
      have hf' : b14 = false := hf
      subst hf'
      have hb15 : b15 = false := by
        cases b15
        · rfl
        · exact absurd (show false = true from hcl 15 _ rfl rfl ⟨14, .data⟩ (by first | exact .head _ | simp) rfl) (by decide)
      subst hb15
      have hb16 : b16 = false := by
        cases b16
        · rfl
        · exact absurd (show false = true from hcl 16 _ rfl rfl ⟨14, .phase⟩ (by first | exact .head _ | simp) rfl) (by decide)
      subst hb16
      have hb17 : b17 = false := by
        cases b17
        · rfl
        · exact absurd (show false = true from hcl 17 _ rfl rfl ⟨14, .phase⟩ (by first | exact .head _ | simp) rfl) (by decide)
      subst hb17
      clear hall hcl hs hf
      go_simp
      exact hK _ _ ⟨b0, b1, b2, b3, b4, b5, b6, b7, b8, b9, b10, b11, b12, b13, true, false, false, false, w1.heap.size, nov, rfl, rfl, hF.alloc⟩
    · intro listed a w1 K hs hcl hf hall hI hK
      obtain ⟨b0, b1, b2, b3, b4, b5, b6, b7, b8, b9, b10, b11, b12, b13, b14, b15, b16, b17, ka, nov, rfl, rfl, hF⟩ := hI
      have hf' : b15 = false := hf
      subst hf'
      have hq14 : b14 = true := hall ⟨14, .data⟩ (by first | exact .head _ | simp) rfl
      subst hq14
      have hq11 : b11 = true := hall ⟨11, .data⟩ (by first | exact .head _ | simp) rfl
      subst hq11
      have hq9 : b9 = true := hall ⟨9, .chain⟩ (by first | exact .head _ | simp) rfl
      subst hq9
      have hq0 : b0 = true := hall ⟨0, .phase⟩ (by first | exact .head _ | simp) rfl
      subst hq0
      have hq1 : b1 = true := hall ⟨1, .phase⟩ (by first | exact .head _ | simp) rfl
      subst hq1
      have hq2 : b2 = true := hall ⟨2, .phase⟩ (by first | exact .head _ | simp) rfl
      subst hq2
      have hq3 : b3 = true := hall ⟨3, .phase⟩ (by first | exact .head _ | simp) rfl
      subst hq3
      have hq4 : b4 = true := hall ⟨4, .phase⟩ (by first | exact .head _ | simp) rfl
      subst hq4
      have hq5 : b5 = true := hall ⟨5, .phase⟩ (by first | exact .head _ | simp) rfl
      subst hq5
      have hq6 : b6 = true := hall ⟨6, .phase⟩ (by first | exact .head _ | simp) rfl
      subst hq6
      have hq7 : b7 = true := hall ⟨7, .phase⟩ (by first | exact .head _ | simp) rfl
      subst hq7
      have hq8 : b8 = true := hall ⟨8, .phase⟩ (by first | exact .head _ | simp) rfl
      subst hq8
      have hq10 : b10 = true := hall ⟨10, .phase⟩ (by first | exact .head _ | simp) rfl
      subst hq10
      have hb16 : b16 = false := by
        cases b16
        · rfl
        · exact absurd (show false = true from hcl 16 _ rfl rfl ⟨15, .chain⟩ (by first | exact .head _ | simp) rfl) (by decide)
      subst hb16
      have hb17 : b17 = false := by
        cases b17
        · rfl
        · exact absurd (show false = true from hcl 17 _ rfl rfl ⟨15, .phase⟩ (by first | exact .head _ | simp) rfl) (by decide)
      subst hb17
      clear hall hcl hs hf
      have hb := hF.new_ rfl rfl
      obtain ⟨z0, z1, z2, z3, y0, y1, y2, y3⟩ := setC_cells hb
      go_simp
      exact hK _ _ ⟨true, true, true, true, true, true, true, true, true, true, true, true, b12, b13, true, true, false, false, ka, nov, rfl, rfl, hF.store⟩
    · intro listed a w1 K hs hcl hf hall hI hK
      obtain ⟨b0, b1, b2, b3, b4, b5, b6, b7, b8, b9, b10, b11, b12, b13, b14, b15, b16, b17, ka, nov, rfl, rfl, hF⟩ := hI
      have hf' : b16 = false := hf
      subst hf'
      have hq12 : b12 = true := hall ⟨12, .data⟩ (by first | exact .head _ | simp) rfl
      subst hq12
      have hq15 : b15 = true := hall ⟨15, .chain⟩ (by first | exact .head _ | simp) rfl
      subst hq15
      have hq0 : b0 = true := hall ⟨0, .phase⟩ (by first | exact .head _ | simp) rfl
      subst hq0
      have hq1 : b1 = true := hall ⟨1, .phase⟩ (by first | exact .head _ | simp) rfl
      subst hq1
      have hq2 : b2 = true := hall ⟨2, .phase⟩ (by first | exact .head _ | simp) rfl
      subst hq2
      have hq3 : b3 = true := hall ⟨3, .phase⟩ (by first | exact .head _ | simp) rfl
      subst hq3
      have hq4 : b4 = true := hall ⟨4, .phase⟩ (by first | exact .head _ | simp) rfl
      subst hq4
      have hq5 : b5 = true := hall ⟨5, .phase⟩ (by first | exact .head _ | simp) rfl
      subst hq5
      have hq6 : b6 = true := hall ⟨6, .phase⟩ (by first | exact .head _ | simp) rfl
      subst hq6
      have hq7 : b7 = true := hall ⟨7, .phase⟩ (by first | exact .head _ | simp) rfl
      subst hq7
      have hq8 : b8 = true := hall ⟨8, .phase⟩ (by first | exact .head _ | simp) rfl
      subst hq8
      have hq9 : b9 = true := hall ⟨9, .phase⟩ (by first | exact .head _ | simp) rfl
      subst hq9
      have hq10 : b10 = true := hall ⟨10, .phase⟩ (by first | exact .head _ | simp) rfl
      subst hq10
      have hq11 : b11 = true := hall ⟨11, .phase⟩ (by first | exact .head _ | simp) rfl
      subst hq11
      have hq14 : b14 = true := hall ⟨14, .phase⟩ (by first | exact .head _ | simp) rfl
      subst hq14
      have hb17 : b17 = false := by
        cases b17
        · rfl
        · exact absurd (show false = true from hcl 17 _ rfl rfl ⟨16, .chain⟩ (by first | exact .head _ | simp) rfl) (by decide)
      subst hb17
      clear hall hcl hs hf
      go_simp
      exact hK _ _ ⟨true, true, true, true, true, true, true, true, true, true, true, true, true, b13, true, true, true, false, ka, nov, rfl, rfl, hF⟩
    · intro listed a w1 K hs hcl hf hall hI hK
      obtain ⟨b0, b1, b2, b3, b4, b5, b6, b7, b8, b9, b10, b11, b12, b13, b14, b15, b16, b17, ka, nov, rfl, rfl, hF⟩ := hI
      have hf' : b17 = false := hf
      subst hf'
      have hq13 : b13 = true := hall ⟨13, .data⟩ (by first | exact .head _ | simp) rfl
      subst hq13
      have hq16 : b16 = true := hall ⟨16, .chain⟩ (by first | exact .head _ | simp) rfl
      subst hq16
      have hq0 : b0 = true := hall ⟨0, .phase⟩ (by first | exact .head _ | simp) rfl
      subst hq0
      have hq1 : b1 = true := hall ⟨1, .phase⟩ (by first | exact .head _ | simp) rfl
      subst hq1
      have hq2 : b2 = true := hall ⟨2, .phase⟩ (by first | exact .head _ | simp) rfl
      subst hq2
      have hq3 : b3 = true := hall ⟨3, .phase⟩ (by first | exact .head _ | simp) rfl
      subst hq3
      have hq4 : b4 = true := hall ⟨4, .phase⟩ (by first | exact .head _ | simp) rfl
      subst hq4
      have hq5 : b5 = true := hall ⟨5, .phase⟩ (by first | exact .head _ | simp) rfl
      subst hq5
      have hq6 : b6 = true := hall ⟨6, .phase⟩ (by first | exact .head _ | simp) rfl
      subst hq6
      have hq7 : b7 = true := hall ⟨7, .phase⟩ (by first | exact .head _ | simp) rfl
      subst hq7
      have hq8 : b8 = true := hall ⟨8, .phase⟩ (by first | exact .head _ | simp) rfl
      subst hq8
      have hq9 : b9 = true := hall ⟨9, .phase⟩ (by first | exact .head _ | simp) rfl
      subst hq9
      have hq10 : b10 = true := hall ⟨10, .phase⟩ (by first | exact .head _ | simp) rfl
      subst hq10
      have hq11 : b11 = true := hall ⟨11, .phase⟩ (by first | exact .head _ | simp) rfl
      subst hq11
      have hq12 : b12 = true := hall ⟨12, .phase⟩ (by first | exact .head _ | simp) rfl
      subst hq12
      have hq14 : b14 = true := hall ⟨14, .phase⟩ (by first | exact .head _ | simp) rfl
      subst hq14
      have hq15 : b15 = true := hall ⟨15, .phase⟩ (by first | exact .head _ | simp) rfl
      subst hq15
      clear hall hcl hs hf
      go_simp
      exact hK _ _ ⟨true, true, true, true, true, true, true, true, true, true, true, true, true, true, true, true, true, true, ka, nov, rfl, rfl, hF⟩
  · have hE : escP (bs s) ⟨a, d, e⟩ = ((0, false), failP ⟨a, d, e⟩ 82) := by
      unfold escP
      rw [if_neg (by rw [bs_length]; exact hlt)]
    have HE := Lib.hid hE
    clear hE
    go_enter Try.func93, Try.ntmps93
    go_wp2_with fail
    go_quiet (fail)
    have O1 := Lib.hid (OW.out.drewN nq)
    have Z1 : Hid (((w.alloc (.cells #[.int .u64 0, .int .u64 0, .int .u64 0, .int .u64 0] 40)).drewN nq).heap[w.heap.size]? = some (setC 0)) := HZ
    have P1 : Hid (((w.alloc (.cells #[.int .u64 0, .int .u64 0, .int .u64 0, .int .u64 0] 40)).drewN nq).heap[g]? = some (PzC s ⟨a, d, e⟩)) := HP
    generalize (w.alloc (.cells #[.int .u64 0, .int .u64 0, .int .u64 0, .int .u64 0] 40)).drewN nq = W1 at *
    clear OW HZ HP c0 c1 c2 c3 f1 f2 f3
    have HFL := Lib.hid (failC g s ⟨a, d, e⟩ 82 W1 P1.out)
    go_wp2_with fail
    refine (HFL.out).mono ?_; rintro e X ⟨rfl, hp, hg2⟩
    have hz := (hg2.block w.heap.size (lt_of_block Z1.out) (by intro h; injection h with h; omega)).trans Z1.out
    have hgr := old_grown_ O1.out hg2
    have HP2 := Lib.hid hp
    have HG2 := Lib.hid hgr
    obtain ⟨r0, r1, r2, r3, y0, y1, y2, y3⟩ := setC_cells hz
    have HP3 := Lib.hid ((set4_other X w.heap.size g (.int .u64 0) (.int .u64 0) (.int .u64 0) (.int .u64 0) (by omega)).trans hp)
    have hg3 := grown_new4 hgr 0
    rw [setW_zero, setW_zero, setW_zero, setW_zero] at hg3
    have HG3 := Lib.hid hg3
    clear hg2 hz hgr hp hg3
    go_wp2_with fail
    refine bodyPost_ret (v := .tuple #[setA 0, .bool false]) (by simp [results, Try.results93, go_sem, r0, r1, r2, r3, setA, setW_zero]) rfl ?_
    rw [HE.out]
    exact ⟨rfl, HP3.out, HG3.out⟩
end Go.Proofs.Ythadkjgadhbidaa
