/-
  The walks of sane and made.
-/
import Derived.Test.YtlpaemlgmmmbmaaTqA
import Derived.Test.YtlpaemlgmmmbmaaMill
import Derived.Test.YtlpaemlgmmmbmaaRegInv
import Derived.Deep.AppendLies
namespace Go.Proofs.Ytlpaemlgmmmbmaa
open Go.RowKit Go.Maps
set_option linter.unusedVariables false

theorem info_to : (Try.prog.info? 66).map (fun i => (i.zero, i.size, i.bytes)) = some (some (.agg #[.int .i64 0, .int .i64 0, .int .u64 0]), 3, 24) := by kernel_rfl
def kinds : List Int := [1, 1, 1, 2, 3, 4]
def kindOf (x : Int) : Int := kinds.getD x.toNat 0
theorem ints_intv (l : List Int) : ints l = intv l := rfl
theorem World.grownBy.trans_ {a b c : World} {row : Option Nat} (h : a.grownBy b row) (k : b.grownBy c row) : a.grownBy c row :=
  ⟨k.os.trans h.os, k.tape.trans h.tape, k.output.trans h.output, Nat.le_trans h.size k.size, fun i hi hr => (k.block i (Nat.lt_of_lt_of_le hi h.size) hr).trans (h.block i hi hr)⟩

/-- What holds of the world while an operation is made. -/
def MF (w0 : World) (B g : Nat) (bB bO : Bool) (dl : List Int) (kb ko : Nat) (x1 x2 x3 : Int) (w : World) : Prop :=
  w0.grownBy w (some g) ∧ Dk w B g dl ∧ g < w0.heap.size ∧ (bB = true → w0.heap.size ≤ kb ∧ w.heap[kb]? = some (.cells (intv kinds).toArray 3 (0, 0))) ∧
    (bO = true → w0.heap.size ≤ ko ∧ w.heap[ko]? = some (.cells #[.int .i64 (kindOf x1), .int .i64 x2, .int .u64 x3] 66 (0, 0)))
section
variable {w0 w w2 : World} {B g : Nat} {bB bO : Bool} {dl dl' : List Int} {kb ko : Nat} {x1 x2 x3 : Int}
theorem MF.turn (h : MF w0 B g bB bO dl kb ko x1 x2 x3 w) (hd : Dk w2 B g dl') (hg : w.grownBy w2 (some g)) : MF w0 B g bB bO dl' kb ko x1 x2 x3 w2 := by
  obtain ⟨h1, h2, h3, h4, h5⟩ := h
  refine ⟨World.grownBy.trans_ h1 hg, hd, h3, fun hb => ⟨(h4 hb).1, ?_⟩, fun hb => ⟨(h5 hb).1, ?_⟩⟩
  · rw [hg.block kb (lt_of_block (h4 hb).2) (by intro e; injection e with e; have := (h4 hb).1; omega)]; exact (h4 hb).2
  · rw [hg.block ko (lt_of_block (h5 hb).2) (by intro e; injection e with e; have := (h5 hb).1; omega)]; exact (h5 hb).2
theorem MF.up (h : MF w0 B g bB bO dl kb ko x1 x2 x3 w) (hg : Old w w2) : MF w0 B g bB bO dl kb ko x1 x2 x3 w2 := by
  obtain ⟨h1, h2, h3, h4, h5⟩ := h
  exact ⟨grown_old_ h1 hg, h2.up hg, h3, fun hb => ⟨(h4 hb).1, hg.block (h4 hb).2⟩, fun hb => ⟨(h5 hb).1, hg.block (h5 hb).2⟩⟩
theorem MF.bs (h : MF w0 B g bB bO dl kb ko x1 x2 x3 w) : MF w0 B g true bO dl w.heap.size ko x1 x2 x3 (w.alloc (.cells (intv kinds).toArray 3)) := by
  have hs := h.1.size
  obtain ⟨h1, h2, h3, h4, h5⟩ := h.up ((Old.refl w).alloc (.cells (intv kinds).toArray 3))
  exact ⟨h1, h2, h3, fun _ => ⟨hs, heap_alloc_new w _⟩, h5⟩
theorem MF.bo (h : MF w0 B g bB bO dl kb ko x1 x2 x3 w) : MF w0 B g bB true dl kb w.heap.size x1 x2 x3 (w.alloc (.cells #[.int .i64 (kindOf x1), .int .i64 x2, .int .u64 x3] 66)) := by
  have hs := h.1.size
  obtain ⟨h1, h2, h3, h4, h5⟩ := h.up ((Old.refl w).alloc (.cells #[.int .i64 (kindOf x1), .int .i64 x2, .int .u64 x3] 66))
  exact ⟨h1, h2, h3, h4, fun _ => ⟨hs, heap_alloc_new w _⟩⟩
theorem MF.run (h : MF w0 B g true bO dl kb ko x1 x2 x3 w) (h0 : 0 ≤ x1) (h1 : x1 < 6) : w.cell? ⟨kb, x1.toNat, none⟩ = some (.int .i64 (kindOf x1)) := by
  rw [cell_of_row w kb x1.toNat _ _ _ (h.2.2.2.1 rfl).2]
  have hl : x1.toNat < kinds.length := by show x1.toNat < 6; omega
  have := intv_get kinds x1.toNat hl
  simpa [kindOf] using this
theorem MF.news (h : MF w0 B g bB true dl kb ko x1 x2 x3 w) : ∀ j u, ([.int .i64 (kindOf x1), .int .i64 x2, .int .u64 x3] : List Value)[j]? = some u → w.cell? ((⟨ko, 0, none⟩ : Addr).add j) = some u :=
  World.news_of_block (h.2.2.2.2 rfl).2
theorem MF.base (h : MF w0 B g bB bO dl kb ko x1 x2 x3 w) {n : Nat} (hn : n ≤ w0.heap.size) : n ≤ w.heap.size := Nat.le_trans hn h.1.size
end
/-- The operations so far, and the deck. -/
def MFin (w : World) (B g : Nat) (acc : List TOp) (l : List Int) (v : Value) (wr : World) : Prop :=
  Own wr w.heap.size 66 3 v acc.length (opv acc) ∧ Dk wr B g l ∧ Old w wr
def MI (w w0 : World) (B g : Nat) (s0 rv : Value) (x1 x2 x3 : Int) (l0 l1 l2 l3 : List Int) (acc : List TOp) (listed : Array Bool) (a : Act) (ww : World) : Prop :=
  ∃ (b0 b1 b2 b3 b4 b5 b6 b7 b8 b9 b10 b11 b12 b13 b14 : Bool) (kb ko : Nat) (v27 u7 u8 u9 u10 u11 u12 u13 u14 u15 u16 u17 u18 u19 u20 u21 u22 u23 u24 u25 u26 u27 : Value), listed = #[b0, b1, b2, b3, b4, b5, b6, b7, b8, b9, b10, b11, b12, b13, b14] ∧
    a = { tmps := #[s0, undef, .slice none 0 0, .pointer (some ⟨g, 0, none⟩), cond b14 (v27) (rv), s0, .pointer (some ⟨g, 0, none⟩), u7, u8, u9, u10, u11, u12, u13, cond b0 (rv) (u14), cond b1 (.slice (some ⟨kb, 0, none⟩) 6 6) (u15), cond b2 (.pointer (some ⟨g, 0, none⟩)) (u16), cond b3 (.int .i64 x1) (u17), cond b4 (.pointer (some ⟨kb, x1.toNat, none⟩)) (u18), cond b5 (.int .i64 (kindOf x1)) (u19), cond b6 (.pointer (some ⟨g, 0, none⟩)) (u20), cond b7 (.int .i64 x2) (u21), cond b8 (.pointer (some ⟨g, 0, none⟩)) (u22), cond b9 (.int .i64 x3) (u23), cond b10 (.int .u64 x3) (u24), cond b11 (.agg #[.int .i64 (kindOf x1), .int .i64 x2, .int .u64 x3]) (u25), cond b12 (.slice (some ⟨ko, 0, none⟩) 1 1) (u26), cond b13 (v27) (u27), undef], defers := [] } ∧ (cond b13 (MFin w B g (acc ++ [⟨kindOf x1, x2, x3⟩]) l3 v27 ww) (MF w0 B g b1 b12 (cond b9 l3 (cond b7 l2 (cond b3 l1 l0))) kb ko x1 x2 x3 ww))

def madeM : Nat → List Int → List TOp
  | 0, _ => []
  | f + 1, l => if l = [] then [] else ⟨kindOf (nx l 6).1, (nx (nx l 6).2 9).1, (nx (nx (nx l 6).2 9).2 40).1⟩ :: madeM f (nx (nx (nx l 6).2 9).2 40).2
set_option maxRecDepth 100000 in
set_option maxHeartbeats 3200000 in
theorem madeQ (A : Option Addr) (c : Nat) (l : List Int) (w : World) (hr : Rs w A (ints l)) (hm : l.length ≤ maxLen) :
    Calls Try.prog 31 #[.slice A l.length c] w (Made w 66 3 (madeM 120 l).length (opv (madeM 120 l))) := by
  have hN := Lib.hid (newDeck A c l w hr hm)
  clear hr
  go_enter Try.func31, Try.ntmps31
  go_wp2_with fail
  refine (hN.out).mono ?_; rintro e w1 ⟨rfl, hd1, ho1⟩
  obtain ⟨g, hg⟩ : ∃ g, w.heap.size = g := ⟨_, rfl⟩
  rw [hg]
  have HG := Lib.hid hg
  rw [hg] at hd1
  have HD1 := Lib.hid hd1
  have HO1 := Lib.hid ho1
  clear hd1 ho1 hg hN
  go_wp2_with fail
  go_loopw [4] (fun rv wr => ∃ (f : Nat) (lc : List Int) (acc : List TOp), acc.length + f = 120 ∧ lenV rv = acc.length ∧ Hid (MFin w g g acc lc rv wr) ∧ Hid (madeM 120 l = acc ++ madeM f lc)) (fun rv _ => 1000 - lenV rv)
  case atStart => exact ⟨120, l, [], rfl, rfl, ⟨Own.nil_ _ _ _ _, HD1.out, HO1.out⟩, by simp [Hid]⟩
  case round =>
    obtain ⟨f, l0, acc, hf, hlv, HM, HE⟩ := hrel
    obtain ⟨ho, hdk, hold⟩ := HM.out
    obtain ⟨A4, c4, rfl, _, hc4, _⟩ := ho.shape
    have hL := leftDeck g g l0 wr hdk
    have HO := Lib.hid ho
    have HDK := Lib.hid hdk
    have HOLD := Lib.hid hold
    clear ho hold hdk
    cases l0 with
    | nil =>
      have HL := Lib.hid hL
      clear hL
      go_wp2_with fail
      refine HL.out.mono ?_
      rintro e w2 ⟨rfl, n2, rfl⟩
      go_wp2_with fail
      go_ret
      have hh := HE.out
      rw [show madeM f [] = [] by cases f <;> rfl, List.append_nil] at hh
      rw [hh]
      exact ⟨_, rfl, HO.out, HOLD.out.drewN n2⟩
    | cons z0 zs =>
      have hne : (!(z0 :: zs).isEmpty) = true := rfl
      rw [hne] at hL
      have HL := Lib.hid hL
      clear hL hne
      generalize hl0 : z0 :: zs = l0 at *
      have hl0' : l0 ≠ [] := by rw [← hl0]; simp
      have Hl0 := Lib.hid hl0'
      clear hl0 hl0'
      cases f with
      | zero =>
        have hn : ¬ (acc.length : Int) < 120 := by omega
        have hn0 : acc.length = 120 := by omega
        have Hn0 := Lib.hid hn0
        clear hn0
        have hh := HE.out
        rw [show madeM 0 l0 = [] from rfl, List.append_nil] at hh
        have HH := Lib.hid hh
        clear hh
        go_wp2_with fail
        refine HL.out.mono ?_
        rintro e w2 ⟨rfl, n2, rfl⟩
        go_wp2_with fail
        go_ret
        rw [HH.out]
        exact ⟨_, rfl, HO.out, HOLD.out.drewN n2⟩
      | succ f =>
        have hn : (acc.length : Int) < 120 := by omega
        go_wp2_with fail
        refine HL.out.mono ?_
        rintro e wd ⟨rfl, n2, hwd⟩
        have HDd := Lib.hid (show Dk wd g g l0 by rw [hwd]; exact HDK.out.up ((Old.refl wr).drewN n2))
        have HOd := Lib.hid (show Own wd w.heap.size 66 3 (.slice A4 acc.length c4) acc.length (opv acc) by rw [hwd]; exact HO.out)
        have HOl := Lib.hid (show Old w wd by rw [hwd]; exact HOLD.out.drewN n2)
        clear hwd
        obtain ⟨x1, l1, e1⟩ : ∃ x r, nx l0 6 = (x, r) := ⟨_, _, rfl⟩
        obtain ⟨x2, l2, e2⟩ : ∃ x r, nx l1 9 = (x, r) := ⟨_, _, rfl⟩
        obtain ⟨x3, l3, e3⟩ : ∃ x r, nx l2 40 = (x, r) := ⟨_, _, rfl⟩
        have d1 := nx_bd l0 (show (1 : Int) ≤ 6 by decide)
        have d3 := nx_bd l2 (show (1 : Int) ≤ 40 by decide)
        rw [e1] at d1
        rw [e3] at d3
        simp only at d1 d3
        have HE2 : Hid (madeM (f + 1) l0 = ⟨kindOf x1, x2, x3⟩ :: madeM f l3) := by
          show madeM (f + 1) l0 = _
          rw [madeM, if_neg Hl0.out, e1]; simp only; rw [e2]; simp only; rw [e3]
        have u3 := IntWalk.u64_in x3 (by omega)
        have hgg0 := HG.out
        have hgg : g ≤ w.heap.size := by omega
        have hgg' : w.heap.size ≤ g := by omega
        clear hgg0
        have hF0 : MF wd g g false false l0 0 0 x1 x2 x3 wd.drew := ⟨⟨rfl, rfl, rfl, Nat.le_refl _, fun _ _ _ => rfl⟩, HDd.out.up (Old.refl wd).drew, HDd.out.lt, (fun h => by cases h), (fun h => by cases h)⟩
        have hbw : w.heap.size ≤ wd.heap.size := HOl.out.size
        have hac : acc.length < 120 := by omega
        go_wp2_with fail
        refine wp_region_steps (by kernel_rfl) (by kernel_rfl) (MI w wd g g (.slice A l.length c) (.slice A4 acc.length c4) x1 x2 x3 l0 l1 l2 l3 acc) ?_ ?_ ⟨?_, ?_, ?_, ?_, ?_, ?_, ?_, ?_, ?_, ?_, ?_, ?_, ?_, ?_, ?_, trivial⟩
        · exact ⟨false, false, false, false, false, false, false, false, false, false, false, false, false, false, false, 0, 0, undef, _, _, _, _, _, _, _, _, _, _, _, _, _, _, _, _, _, _, _, _, _, rfl, rfl, hF0⟩
        · rintro a w1 ⟨b0, b1, b2, b3, b4, b5, b6, b7, b8, b9, b10, b11, b12, b13, b14, kb, ko, v27, u7, u8, u9, u10, u11, u12, u13, u14, u15, u16, u17, u18, u19, u20, u21, u22, u23, u24, u25, u26, u27, hl, rfl, hF⟩
          have hl' := congrArg Array.toList hl
          simp at hl'
          obtain ⟨rfl, rfl, rfl, rfl, rfl, rfl, rfl, rfl, rfl, rfl, rfl, rfl, rfl, rfl, rfl⟩ := hl'
          have hF1 : MFin w g g (acc ++ [⟨kindOf x1, x2, x3⟩]) l3 v27 w1 := hF
          obtain ⟨A5, c5, rfl, _⟩ := hF1.1.shape
          have HF1 := Lib.hid hF1
          clear hF hF1
          go_wp2_with fail
          go_roundw
          case rel => exact ⟨f, l3, acc ++ [(⟨kindOf x1, x2, x3⟩ : TOp)], by simp; omega, by simp [lenV], HF1, by have := HE.out; rw [HE2.out] at this; simpa [Hid] using this⟩
          case measure => simp [lenV]; omega
        · intro listed a w1 K hs hcl hf hall hI hK
          obtain ⟨b0, b1, b2, b3, b4, b5, b6, b7, b8, b9, b10, b11, b12, b13, b14, kb, ko, v27, u7, u8, u9, u10, u11, u12, u13, u14, u15, u16, u17, u18, u19, u20, u21, u22, u23, u24, u25, u26, u27, rfl, rfl, hF⟩ := hI
          have hf' : b0 = false := hf
          subst hf'
          have hb13 : b13 = false := by
            cases b13
            · rfl
            · exact absurd (show false = true from hcl 13 _ rfl rfl ⟨0, .data⟩ (by first | exact .head _ | simp) rfl) (by decide)
          subst hb13
          have hb14 : b14 = false := by
            cases b14
            · rfl
            · exact absurd (show false = true from hcl 14 _ rfl rfl ⟨0, .phase⟩ (by first | exact .head _ | simp) rfl) (by decide)
          subst hb14
          clear hall hcl hs hf
          go_simp
          exact hK _ _ ⟨true, b1, b2, b3, b4, b5, b6, b7, b8, b9, b10, b11, b12, false, false, kb, ko, v27, u7, u8, u9, u10, u11, u12, u13, u14, u15, u16, u17, u18, u19, u20, u21, u22, u23, u24, u25, u26, u27, rfl, rfl, hF⟩
        · intro listed a w1 K hs hcl hf hall hI hK
          obtain ⟨b0, b1, b2, b3, b4, b5, b6, b7, b8, b9, b10, b11, b12, b13, b14, kb, ko, v27, u7, u8, u9, u10, u11, u12, u13, u14, u15, u16, u17, u18, u19, u20, u21, u22, u23, u24, u25, u26, u27, rfl, rfl, hF⟩ := hI
          have hf' : b1 = false := hf
          subst hf'
          have hb4 : b4 = false := by
            cases b4
            · rfl
            · exact absurd (show false = true from hcl 4 _ rfl rfl ⟨1, .data⟩ (by first | exact .head _ | simp) rfl) (by decide)
          subst hb4
          have hb14 : b14 = false := by
            cases b14
            · rfl
            · exact absurd (show false = true from hcl 14 _ rfl rfl ⟨1, .phase⟩ (by first | exact .head _ | simp) rfl) (by decide)
          subst hb14
          have hb5 : b5 = false := by
            cases b5
            · rfl
            · exact absurd (show false = true from hcl 5 _ rfl rfl ⟨4, .data⟩ (by first | exact .head _ | simp) rfl) (by decide)
          subst hb5
          have hb11 : b11 = false := by
            cases b11
            · rfl
            · exact absurd (show false = true from hcl 11 _ rfl rfl ⟨5, .data⟩ (by first | exact .head _ | simp) rfl) (by decide)
          subst hb11
          have hb12 : b12 = false := by
            cases b12
            · rfl
            · exact absurd (show false = true from hcl 12 _ rfl rfl ⟨11, .data⟩ (by first | exact .head _ | simp) rfl) (by decide)
          subst hb12
          have hb13 : b13 = false := by
            cases b13
            · rfl
            · exact absurd (show false = true from hcl 13 _ rfl rfl ⟨12, .data⟩ (by first | exact .head _ | simp) rfl) (by decide)
          subst hb13
          clear hall hcl hs hf
          go_simp
          exact hK _ _ ⟨b0, true, b2, b3, false, false, b6, b7, b8, b9, b10, false, false, false, false, w1.heap.size, ko, v27, u7, u8, u9, u10, u11, u12, u13, u14, u15, u16, u17, u18, u19, u20, u21, u22, u23, u24, u25, u26, u27, rfl, rfl, hF.bs⟩
        · intro listed a w1 K hs hcl hf hall hI hK
          obtain ⟨b0, b1, b2, b3, b4, b5, b6, b7, b8, b9, b10, b11, b12, b13, b14, kb, ko, v27, u7, u8, u9, u10, u11, u12, u13, u14, u15, u16, u17, u18, u19, u20, u21, u22, u23, u24, u25, u26, u27, rfl, rfl, hF⟩ := hI
          have hf' : b2 = false := hf
          subst hf'
          clear hall hcl hs hf
          go_simp
          exact hK _ _ ⟨b0, b1, true, b3, b4, b5, b6, b7, b8, b9, b10, b11, b12, b13, b14, kb, ko, v27, u7, u8, u9, u10, u11, u12, u13, u14, u15, u16, u17, u18, u19, u20, u21, u22, u23, u24, u25, u26, u27, rfl, rfl, hF⟩
        · intro listed a w1 K hs hcl hf hall hI hK
          obtain ⟨b0, b1, b2, b3, b4, b5, b6, b7, b8, b9, b10, b11, b12, b13, b14, kb, ko, v27, u7, u8, u9, u10, u11, u12, u13, u14, u15, u16, u17, u18, u19, u20, u21, u22, u23, u24, u25, u26, u27, rfl, rfl, hF⟩ := hI
          have hf' : b3 = false := hf
          subst hf'
          have hq2 : b2 = true := hall ⟨2, .data⟩ (by first | exact .head _ | simp) rfl
          subst hq2
          have hb4 : b4 = false := by
            cases b4
            · rfl
            · exact absurd (show false = true from hcl 4 _ rfl rfl ⟨3, .data⟩ (by first | exact .head _ | simp) rfl) (by decide)
          subst hb4
          have hb7 : b7 = false := by
            cases b7
            · rfl
            · exact absurd (show false = true from hcl 7 _ rfl rfl ⟨3, .chain⟩ (by first | exact .head _ | simp) rfl) (by decide)
          subst hb7
          have hb14 : b14 = false := by
            cases b14
            · rfl
            · exact absurd (show false = true from hcl 14 _ rfl rfl ⟨3, .phase⟩ (by first | exact .head _ | simp) rfl) (by decide)
          subst hb14
          have hb5 : b5 = false := by
            cases b5
            · rfl
            · exact absurd (show false = true from hcl 5 _ rfl rfl ⟨4, .data⟩ (by first | exact .head _ | simp) rfl) (by decide)
          subst hb5
          have hb9 : b9 = false := by
            cases b9
            · rfl
            · exact absurd (show false = true from hcl 9 _ rfl rfl ⟨7, .chain⟩ (by first | exact .head _ | simp) rfl) (by decide)
          subst hb9
          have hb11 : b11 = false := by
            cases b11
            · rfl
            · exact absurd (show false = true from hcl 11 _ rfl rfl ⟨7, .data⟩ (by first | exact .head _ | simp) rfl) (by decide)
          subst hb11
          have hb10 : b10 = false := by
            cases b10
            · rfl
            · exact absurd (show false = true from hcl 10 _ rfl rfl ⟨9, .data⟩ (by first | exact .head _ | simp) rfl) (by decide)
          subst hb10
          have hb13 : b13 = false := by
            cases b13
            · rfl
            · exact absurd (show false = true from hcl 13 _ rfl rfl ⟨9, .chain⟩ (by first | exact .head _ | simp) rfl) (by decide)
          subst hb13
          have hb12 : b12 = false := by
            cases b12
            · rfl
            · exact absurd (show false = true from hcl 12 _ rfl rfl ⟨11, .data⟩ (by first | exact .head _ | simp) rfl) (by decide)
          subst hb12
          clear hall hcl hs hf
          have hn := nextDeck g g l0 6 w1 hF.2.1 (by decide) (by decide)
          rw [e1] at hn
          go_simp
          refine hn.mono ?_
          rintro e w2 ⟨rfl, hd, hg⟩
          exact hK _ _ ⟨b0, b1, true, true, false, false, b6, false, b8, false, false, false, false, false, false, kb, ko, v27, u7, u8, u9, u10, u11, u12, u13, u14, u15, u16, u17, u18, u19, u20, u21, u22, u23, u24, u25, u26, u27, rfl, rfl, hF.turn hd hg⟩
        · intro listed a w1 K hs hcl hf hall hI hK
          obtain ⟨b0, b1, b2, b3, b4, b5, b6, b7, b8, b9, b10, b11, b12, b13, b14, kb, ko, v27, u7, u8, u9, u10, u11, u12, u13, u14, u15, u16, u17, u18, u19, u20, u21, u22, u23, u24, u25, u26, u27, rfl, rfl, hF⟩ := hI
          have hf' : b4 = false := hf
          subst hf'
          have hq1 : b1 = true := hall ⟨1, .data⟩ (by first | exact .head _ | simp) rfl
          subst hq1
          have hq3 : b3 = true := hall ⟨3, .data⟩ (by first | exact .head _ | simp) rfl
          subst hq3
          have hq2 : b2 = true := hcl 3 _ rfl rfl ⟨2, .data⟩ (by first | exact .head _ | simp) rfl
          subst hq2
          have hb5 : b5 = false := by
            cases b5
            · rfl
            · exact absurd (show false = true from hcl 5 _ rfl rfl ⟨4, .data⟩ (by first | exact .head _ | simp) rfl) (by decide)
          subst hb5
          have hb14 : b14 = false := by
            cases b14
            · rfl
            · exact absurd (show false = true from hcl 14 _ rfl rfl ⟨4, .phase⟩ (by first | exact .head _ | simp) rfl) (by decide)
          subst hb14
          have hb11 : b11 = false := by
            cases b11
            · rfl
            · exact absurd (show false = true from hcl 11 _ rfl rfl ⟨5, .data⟩ (by first | exact .head _ | simp) rfl) (by decide)
          subst hb11
          have hb12 : b12 = false := by
            cases b12
            · rfl
            · exact absurd (show false = true from hcl 12 _ rfl rfl ⟨11, .data⟩ (by first | exact .head _ | simp) rfl) (by decide)
          subst hb12
          have hb13 : b13 = false := by
            cases b13
            · rfl
            · exact absurd (show false = true from hcl 13 _ rfl rfl ⟨12, .data⟩ (by first | exact .head _ | simp) rfl) (by decide)
          subst hb13
          clear hall hcl hs hf
          go_simp
          exact hK _ _ ⟨b0, true, true, true, true, false, b6, b7, b8, b9, b10, false, false, false, false, kb, ko, v27, u7, u8, u9, u10, u11, u12, u13, u14, u15, u16, u17, u18, u19, u20, u21, u22, u23, u24, u25, u26, u27, rfl, rfl, hF⟩
        · intro listed a w1 K hs hcl hf hall hI hK
          obtain ⟨b0, b1, b2, b3, b4, b5, b6, b7, b8, b9, b10, b11, b12, b13, b14, kb, ko, v27, u7, u8, u9, u10, u11, u12, u13, u14, u15, u16, u17, u18, u19, u20, u21, u22, u23, u24, u25, u26, u27, rfl, rfl, hF⟩ := hI
          have hf' : b5 = false := hf
          subst hf'
          have hq4 : b4 = true := hall ⟨4, .data⟩ (by first | exact .head _ | simp) rfl
          subst hq4
          have hq1 : b1 = true := hcl 4 _ rfl rfl ⟨1, .data⟩ (by first | exact .head _ | simp) rfl
          subst hq1
          have hq3 : b3 = true := hcl 4 _ rfl rfl ⟨3, .data⟩ (by first | exact .head _ | simp) rfl
          subst hq3
          have hq2 : b2 = true := hcl 3 _ rfl rfl ⟨2, .data⟩ (by first | exact .head _ | simp) rfl
          subst hq2
          have hb11 : b11 = false := by
            cases b11
            · rfl
            · exact absurd (show false = true from hcl 11 _ rfl rfl ⟨5, .data⟩ (by first | exact .head _ | simp) rfl) (by decide)
          subst hb11
          have hb14 : b14 = false := by
            cases b14
            · rfl
            · exact absurd (show false = true from hcl 14 _ rfl rfl ⟨5, .phase⟩ (by first | exact .head _ | simp) rfl) (by decide)
          subst hb14
          have hb12 : b12 = false := by
            cases b12
            · rfl
            · exact absurd (show false = true from hcl 12 _ rfl rfl ⟨11, .data⟩ (by first | exact .head _ | simp) rfl) (by decide)
          subst hb12
          have hb13 : b13 = false := by
            cases b13
            · rfl
            · exact absurd (show false = true from hcl 13 _ rfl rfl ⟨12, .data⟩ (by first | exact .head _ | simp) rfl) (by decide)
          subst hb13
          clear hall hcl hs hf
          have hr := hF.run d1.1 d1.2
          go_simp
          exact hK _ _ ⟨b0, true, true, true, true, true, b6, b7, b8, b9, b10, false, false, false, false, kb, ko, v27, u7, u8, u9, u10, u11, u12, u13, u14, u15, u16, u17, u18, u19, u20, u21, u22, u23, u24, u25, u26, u27, rfl, rfl, hF⟩
        · intro listed a w1 K hs hcl hf hall hI hK
          obtain ⟨b0, b1, b2, b3, b4, b5, b6, b7, b8, b9, b10, b11, b12, b13, b14, kb, ko, v27, u7, u8, u9, u10, u11, u12, u13, u14, u15, u16, u17, u18, u19, u20, u21, u22, u23, u24, u25, u26, u27, rfl, rfl, hF⟩ := hI
          have hf' : b6 = false := hf
          subst hf'
          clear hall hcl hs hf
          go_simp
          exact hK _ _ ⟨b0, b1, b2, b3, b4, b5, true, b7, b8, b9, b10, b11, b12, b13, b14, kb, ko, v27, u7, u8, u9, u10, u11, u12, u13, u14, u15, u16, u17, u18, u19, u20, u21, u22, u23, u24, u25, u26, u27, rfl, rfl, hF⟩
        · intro listed a w1 K hs hcl hf hall hI hK
          obtain ⟨b0, b1, b2, b3, b4, b5, b6, b7, b8, b9, b10, b11, b12, b13, b14, kb, ko, v27, u7, u8, u9, u10, u11, u12, u13, u14, u15, u16, u17, u18, u19, u20, u21, u22, u23, u24, u25, u26, u27, rfl, rfl, hF⟩ := hI
          have hf' : b7 = false := hf
          subst hf'
          have hq6 : b6 = true := hall ⟨6, .data⟩ (by first | exact .head _ | simp) rfl
          subst hq6
          have hq3 : b3 = true := hall ⟨3, .chain⟩ (by first | exact .head _ | simp) rfl
          subst hq3
          have hq2 : b2 = true := hcl 3 _ rfl rfl ⟨2, .data⟩ (by first | exact .head _ | simp) rfl
          subst hq2
          have hb9 : b9 = false := by
            cases b9
            · rfl
            · exact absurd (show false = true from hcl 9 _ rfl rfl ⟨7, .chain⟩ (by first | exact .head _ | simp) rfl) (by decide)
          subst hb9
          have hb11 : b11 = false := by
            cases b11
            · rfl
            · exact absurd (show false = true from hcl 11 _ rfl rfl ⟨7, .data⟩ (by first | exact .head _ | simp) rfl) (by decide)
          subst hb11
          have hb14 : b14 = false := by
            cases b14
            · rfl
            · exact absurd (show false = true from hcl 14 _ rfl rfl ⟨7, .phase⟩ (by first | exact .head _ | simp) rfl) (by decide)
          subst hb14
          have hb10 : b10 = false := by
            cases b10
            · rfl
            · exact absurd (show false = true from hcl 10 _ rfl rfl ⟨9, .data⟩ (by first | exact .head _ | simp) rfl) (by decide)
          subst hb10
          have hb13 : b13 = false := by
            cases b13
            · rfl
            · exact absurd (show false = true from hcl 13 _ rfl rfl ⟨9, .chain⟩ (by first | exact .head _ | simp) rfl) (by decide)
          subst hb13
          have hb12 : b12 = false := by
            cases b12
            · rfl
            · exact absurd (show false = true from hcl 12 _ rfl rfl ⟨11, .data⟩ (by first | exact .head _ | simp) rfl) (by decide)
          subst hb12
          clear hall hcl hs hf
          have hn := nextDeck g g l1 9 w1 hF.2.1 (by decide) (by decide)
          rw [e2] at hn
          go_simp
          refine hn.mono ?_
          rintro e w2 ⟨rfl, hd, hg⟩
          exact hK _ _ ⟨b0, b1, true, true, b4, b5, true, true, b8, false, false, false, false, false, false, kb, ko, v27, u7, u8, u9, u10, u11, u12, u13, u14, u15, u16, u17, u18, u19, u20, u21, u22, u23, u24, u25, u26, u27, rfl, rfl, hF.turn hd hg⟩
        · intro listed a w1 K hs hcl hf hall hI hK
          obtain ⟨b0, b1, b2, b3, b4, b5, b6, b7, b8, b9, b10, b11, b12, b13, b14, kb, ko, v27, u7, u8, u9, u10, u11, u12, u13, u14, u15, u16, u17, u18, u19, u20, u21, u22, u23, u24, u25, u26, u27, rfl, rfl, hF⟩ := hI
          have hf' : b8 = false := hf
          subst hf'
          clear hall hcl hs hf
          go_simp
          exact hK _ _ ⟨b0, b1, b2, b3, b4, b5, b6, b7, true, b9, b10, b11, b12, b13, b14, kb, ko, v27, u7, u8, u9, u10, u11, u12, u13, u14, u15, u16, u17, u18, u19, u20, u21, u22, u23, u24, u25, u26, u27, rfl, rfl, hF⟩
        · intro listed a w1 K hs hcl hf hall hI hK
          obtain ⟨b0, b1, b2, b3, b4, b5, b6, b7, b8, b9, b10, b11, b12, b13, b14, kb, ko, v27, u7, u8, u9, u10, u11, u12, u13, u14, u15, u16, u17, u18, u19, u20, u21, u22, u23, u24, u25, u26, u27, rfl, rfl, hF⟩ := hI
          have hf' : b9 = false := hf
          subst hf'
          have hq8 : b8 = true := hall ⟨8, .data⟩ (by first | exact .head _ | simp) rfl
          subst hq8
          have hq7 : b7 = true := hall ⟨7, .chain⟩ (by first | exact .head _ | simp) rfl
          subst hq7
          have hq6 : b6 = true := hcl 7 _ rfl rfl ⟨6, .data⟩ (by first | exact .head _ | simp) rfl
          subst hq6
          have hq3 : b3 = true := hcl 7 _ rfl rfl ⟨3, .chain⟩ (by first | exact .head _ | simp) rfl
          subst hq3
          have hq2 : b2 = true := hcl 3 _ rfl rfl ⟨2, .data⟩ (by first | exact .head _ | simp) rfl
          subst hq2
          have hb10 : b10 = false := by
            cases b10
            · rfl
            · exact absurd (show false = true from hcl 10 _ rfl rfl ⟨9, .data⟩ (by first | exact .head _ | simp) rfl) (by decide)
          subst hb10
          have hb13 : b13 = false := by
            cases b13
            · rfl
            · exact absurd (show false = true from hcl 13 _ rfl rfl ⟨9, .chain⟩ (by first | exact .head _ | simp) rfl) (by decide)
          subst hb13
          have hb14 : b14 = false := by
            cases b14
            · rfl
            · exact absurd (show false = true from hcl 14 _ rfl rfl ⟨9, .phase⟩ (by first | exact .head _ | simp) rfl) (by decide)
          subst hb14
          have hb11 : b11 = false := by
            cases b11
            · rfl
            · exact absurd (show false = true from hcl 11 _ rfl rfl ⟨10, .data⟩ (by first | exact .head _ | simp) rfl) (by decide)
          subst hb11
          have hb12 : b12 = false := by
            cases b12
            · rfl
            · exact absurd (show false = true from hcl 12 _ rfl rfl ⟨11, .data⟩ (by first | exact .head _ | simp) rfl) (by decide)
          subst hb12
          clear hall hcl hs hf
          have hn := nextDeck g g l2 40 w1 hF.2.1 (by decide) (by decide)
          rw [e3] at hn
          go_simp
          refine hn.mono ?_
          rintro e w2 ⟨rfl, hd, hg⟩
          exact hK _ _ ⟨b0, b1, true, true, b4, b5, true, true, true, true, false, false, false, false, false, kb, ko, v27, u7, u8, u9, u10, u11, u12, u13, u14, u15, u16, u17, u18, u19, u20, u21, u22, u23, u24, u25, u26, u27, rfl, rfl, hF.turn hd hg⟩
        · intro listed a w1 K hs hcl hf hall hI hK
          obtain ⟨b0, b1, b2, b3, b4, b5, b6, b7, b8, b9, b10, b11, b12, b13, b14, kb, ko, v27, u7, u8, u9, u10, u11, u12, u13, u14, u15, u16, u17, u18, u19, u20, u21, u22, u23, u24, u25, u26, u27, rfl, rfl, hF⟩ := hI
          have hf' : b10 = false := hf
          subst hf'
          have hq9 : b9 = true := hall ⟨9, .data⟩ (by first | exact .head _ | simp) rfl
          subst hq9
          clear hall hcl hs hf
          go_simp
          exact hK _ _ ⟨b0, b1, b2, b3, b4, b5, b6, b7, b8, true, true, b11, b12, b13, b14, kb, ko, v27, u7, u8, u9, u10, u11, u12, u13, u14, u15, u16, u17, u18, u19, u20, u21, u22, u23, u24, u25, u26, u27, rfl, rfl, hF⟩
        · intro listed a w1 K hs hcl hf hall hI hK
          obtain ⟨b0, b1, b2, b3, b4, b5, b6, b7, b8, b9, b10, b11, b12, b13, b14, kb, ko, v27, u7, u8, u9, u10, u11, u12, u13, u14, u15, u16, u17, u18, u19, u20, u21, u22, u23, u24, u25, u26, u27, rfl, rfl, hF⟩ := hI
          have hf' : b11 = false := hf
          subst hf'
          have hq5 : b5 = true := hall ⟨5, .data⟩ (by first | exact .head _ | simp) rfl
          subst hq5
          have hq7 : b7 = true := hall ⟨7, .data⟩ (by first | exact .head _ | simp) rfl
          subst hq7
          have hq10 : b10 = true := hall ⟨10, .data⟩ (by first | exact .head _ | simp) rfl
          subst hq10
          clear hall hcl hs hf
          go_simp
          exact hK _ _ ⟨b0, b1, b2, b3, b4, true, b6, true, b8, b9, true, true, b12, b13, b14, kb, ko, v27, u7, u8, u9, u10, u11, u12, u13, u14, u15, u16, u17, u18, u19, u20, u21, u22, u23, u24, u25, u26, u27, rfl, rfl, hF⟩
        · intro listed a w1 K hs hcl hf hall hI hK
          obtain ⟨b0, b1, b2, b3, b4, b5, b6, b7, b8, b9, b10, b11, b12, b13, b14, kb, ko, v27, u7, u8, u9, u10, u11, u12, u13, u14, u15, u16, u17, u18, u19, u20, u21, u22, u23, u24, u25, u26, u27, rfl, rfl, hF⟩ := hI
          have hf' : b12 = false := hf
          subst hf'
          have hq11 : b11 = true := hall ⟨11, .data⟩ (by first | exact .head _ | simp) rfl
          subst hq11
          have hq5 : b5 = true := hcl 11 _ rfl rfl ⟨5, .data⟩ (by first | exact .head _ | simp) rfl
          subst hq5
          have hq7 : b7 = true := hcl 11 _ rfl rfl ⟨7, .data⟩ (by first | exact .head _ | simp) rfl
          subst hq7
          have hq10 : b10 = true := hcl 11 _ rfl rfl ⟨10, .data⟩ (by first | exact .head _ | simp) rfl
          subst hq10
          have hq4 : b4 = true := hcl 5 _ rfl rfl ⟨4, .data⟩ (by first | exact .head _ | simp) rfl
          subst hq4
          have hq6 : b6 = true := hcl 7 _ rfl rfl ⟨6, .data⟩ (by first | exact .head _ | simp) rfl
          subst hq6
          have hq3 : b3 = true := hcl 7 _ rfl rfl ⟨3, .chain⟩ (by first | exact .head _ | simp) rfl
          subst hq3
          have hq9 : b9 = true := hcl 10 _ rfl rfl ⟨9, .data⟩ (by first | exact .head _ | simp) rfl
          subst hq9
          have hq1 : b1 = true := hcl 4 _ rfl rfl ⟨1, .data⟩ (by first | exact .head _ | simp) rfl
          subst hq1
          have hq2 : b2 = true := hcl 3 _ rfl rfl ⟨2, .data⟩ (by first | exact .head _ | simp) rfl
          subst hq2
          have hq8 : b8 = true := hcl 9 _ rfl rfl ⟨8, .data⟩ (by first | exact .head _ | simp) rfl
          subst hq8
          have hb13 : b13 = false := by
            cases b13
            · rfl
            · exact absurd (show false = true from hcl 13 _ rfl rfl ⟨12, .data⟩ (by first | exact .head _ | simp) rfl) (by decide)
          subst hb13
          have hb14 : b14 = false := by
            cases b14
            · rfl
            · exact absurd (show false = true from hcl 14 _ rfl rfl ⟨12, .phase⟩ (by first | exact .head _ | simp) rfl) (by decide)
          subst hb14
          clear hall hcl hs hf
          go_simp
          exact hK _ _ ⟨b0, true, true, true, true, true, true, true, true, true, true, true, true, false, false, kb, w1.heap.size, v27, u7, u8, u9, u10, u11, u12, u13, u14, u15, u16, u17, u18, u19, u20, u21, u22, u23, u24, u25, u26, u27, rfl, rfl, hF.bo⟩
        · intro listed a w1 K hs hcl hf hall hI hK
          obtain ⟨b0, b1, b2, b3, b4, b5, b6, b7, b8, b9, b10, b11, b12, b13, b14, kb, ko, v27, u7, u8, u9, u10, u11, u12, u13, u14, u15, u16, u17, u18, u19, u20, u21, u22, u23, u24, u25, u26, u27, rfl, rfl, hF⟩ := hI
          have hf' : b13 = false := hf
          subst hf'
          have hq0 : b0 = true := hall ⟨0, .data⟩ (by first | exact .head _ | simp) rfl
          subst hq0
          have hq12 : b12 = true := hall ⟨12, .data⟩ (by first | exact .head _ | simp) rfl
          subst hq12
          have hq9 : b9 = true := hall ⟨9, .chain⟩ (by first | exact .head _ | simp) rfl
          subst hq9
          have hq11 : b11 = true := hcl 12 _ rfl rfl ⟨11, .data⟩ (by first | exact .head _ | simp) rfl
          subst hq11
          have hq8 : b8 = true := hcl 9 _ rfl rfl ⟨8, .data⟩ (by first | exact .head _ | simp) rfl
          subst hq8
          have hq7 : b7 = true := hcl 9 _ rfl rfl ⟨7, .chain⟩ (by first | exact .head _ | simp) rfl
          subst hq7
          have hq5 : b5 = true := hcl 11 _ rfl rfl ⟨5, .data⟩ (by first | exact .head _ | simp) rfl
          subst hq5
          have hq10 : b10 = true := hcl 11 _ rfl rfl ⟨10, .data⟩ (by first | exact .head _ | simp) rfl
          subst hq10
          have hq6 : b6 = true := hcl 7 _ rfl rfl ⟨6, .data⟩ (by first | exact .head _ | simp) rfl
          subst hq6
          have hq3 : b3 = true := hcl 7 _ rfl rfl ⟨3, .chain⟩ (by first | exact .head _ | simp) rfl
          subst hq3
          have hq4 : b4 = true := hcl 5 _ rfl rfl ⟨4, .data⟩ (by first | exact .head _ | simp) rfl
          subst hq4
          have hq2 : b2 = true := hcl 3 _ rfl rfl ⟨2, .data⟩ (by first | exact .head _ | simp) rfl
          subst hq2
          have hq1 : b1 = true := hcl 4 _ rfl rfl ⟨1, .data⟩ (by first | exact .head _ | simp) rfl
          subst hq1
          have hb14 : b14 = false := by
            cases b14
            · rfl
            · exact absurd (show false = true from hcl 14 _ rfl rfl ⟨13, .data⟩ (by first | exact .head _ | simp) rfl) (by decide)
          subst hb14
          clear hall hcl hs hf
          obtain ⟨i0, hi, hz0, hz1, hz2⟩ := info_parts info_to
          refine step_append_lies _ (by rfl) _ _ 59 (by rfl) w.heap.size 66 i0 _ 3 24 Try.underlying59 hi hz0 hz1 hz2 rfl (by decide) _ _ _ (by rfl) (HDd.out.own hF.1 HOd.out (by decide)) ⟨ko, 0, none⟩ 1 1 [.int .i64 (kindOf x1), .int .i64 x2, .int .u64 x3] (by rfl) rfl hF.news (by simp [Value.oneCell']) (by decide) (by unfold maxLen; omega) (by omega) (hF.base hbw) _ rfl ?_
          intro gg cap w2 ho2 hg2 _ _
          exact hK _ _ ⟨true, true, true, true, true, true, true, true, true, true, true, true, true, true, false, kb, ko, .slice (some ⟨gg, 0, none⟩) (acc.length + 1) cap, u7, u8, u9, u10, u11, u12, u13, u14, u15, u16, u17, u18, u19, u20, u21, u22, u23, u24, u25, u26, u27, rfl, rfl, ⟨by rw [List.length_append, show opv (acc ++ [⟨kindOf x1, x2, x3⟩]) = opv acc ++ [.int .i64 (kindOf x1), .int .i64 x2, .int .u64 x3] by simp [opv]]; exact ho2, hF.2.1.push (HDd.out.own hF.1 HOd.out (by decide)) (by decide) hgg hg2, (HDd.out.own hF.1 HOd.out (by decide)).grown_old (Dk.old HOl.out hF.1 hgg') (Nat.le_refl _) hg2⟩⟩
        · intro listed a w1 K hs hcl hf hall hI hK
          obtain ⟨b0, b1, b2, b3, b4, b5, b6, b7, b8, b9, b10, b11, b12, b13, b14, kb, ko, v27, u7, u8, u9, u10, u11, u12, u13, u14, u15, u16, u17, u18, u19, u20, u21, u22, u23, u24, u25, u26, u27, rfl, rfl, hF⟩ := hI
          have hf' : b14 = false := hf
          subst hf'
          have hq13 : b13 = true := hall ⟨13, .data⟩ (by first | exact .head _ | simp) rfl
          subst hq13
          clear hall hcl hs hf
          go_simp
          exact hK _ _ ⟨b0, b1, b2, b3, b4, b5, b6, b7, b8, b9, b10, b11, b12, true, true, kb, ko, v27, u7, u8, u9, u10, u11, u12, u13, u14, u15, u16, u17, u18, u19, u20, u21, u22, u23, u24, u25, u26, u27, rfl, rfl, hF⟩
end Go.Proofs.Ytlpaemlgmmmbmaa
