/-
  TimerqLooks: the walk.
-/
import Derived.Test.YtlpaemlgmmmbmaaTqK
namespace Go.Proofs.Ytlpaemlgmmmbmaa
open Go.RowKit Go.Maps
set_option linter.unusedVariables false

theorem act_step {x : List TOp} {k : Nat} {o : TOp} (h : x[k]? = some o) : (x.take (k + 1)).filter isAct = (x.take k).filter isAct ++ (if o.kind = 4 then [] else [o]) := by
  have hl := (List.getElem?_eq_some_iff.1 h).1
  rw [List.take_succ_eq_append_getElem hl, (List.getElem?_eq_some_iff.1 h).2, List.filter_append]
  by_cases hk : o.kind = 4 <;> simp [isAct, hk]
theorem act_len (x : List TOp) (k : Nat) : ((x.take k).filter isAct).length ≤ x.length := Nat.le_trans (List.length_filter_le _ _) (by rw [List.length_take]; omega)
def LookRel (w2 : World) (x : List TOp) (s3 s4 ix : Value) (wr : World) : Prop :=
  ∃ (k : Nat) (S : List TOp), ix = .int .i64 k ∧ k ≤ x.length ∧ Hid ((x.take k).filter isAct = S) ∧ Hid (Own wr w2.heap.size 66 3 s3 S.length (opv S)) ∧ Hid (Own wr w2.heap.size 66 3 s4 (looksOf S).length (opv (looksOf S))) ∧ Hid (ApartV s3 s4) ∧ Hid (Old w2 wr)
def LI (w2 : World) (kb : Nat) (s0 s14 s15 s16 vP vL : Value) (S : List TOp) (kd id at_ : Int) (listed : Array Bool) (a : Act) (ww : World) : Prop :=
  ∃ (b0 b1 b2 b3 b4 b5 b6 b7 b8 b9 b10 : Bool) (kp kl : Nat) (v26 v31 u17 u18 u19 u20 u21 u22 u23 u24 u25 u26 u27 u28 u29 u30 u31 u32 : Value), listed = #[b0, b1, b2, b3, b4, b5, b6, b7, b8, b9, b10] ∧
    a = { tmps := #[s0, undef, .bool false, cond b9 (v26) (vP), cond b10 (v31) (vL), undef, .pointer (some ⟨kb, 0, none⟩), undef, undef, undef, undef, .bool true, .bool false, s0, s14, s15, s16, u17, u18, u19, u20, u21, u22, cond b0 (vP) (u23), cond b1 (.agg #[.int .i64 kd, .int .i64 id, .int .u64 at_]) (u24), cond b2 (.slice (some ⟨kp, 0, none⟩) 1 1) (u25), cond b3 (v26) (u26), cond b4 (vL) (u27), cond b5 (.agg #[.int .i64 4, .int .i64 0, .int .u64 0]) (u28), cond b6 (.agg #[.int .i64 kd, .int .i64 id, .int .u64 at_]) (u29), cond b7 (.slice (some ⟨kl, 0, none⟩) 2 2) (u30), cond b8 (v31) (u31), u32, undef, undef, undef, undef, undef, undef, undef, undef, undef, undef, undef, undef, undef, undef, undef, undef, undef, undef, undef, undef, undef, undef, undef, undef, undef, undef, undef, undef, undef, undef, undef, undef, undef, undef, undef, undef, undef, undef, undef, undef, undef, undef, undef, undef, undef, undef, undef, undef, undef, undef, undef, undef, undef, undef, undef, undef, undef, undef, undef, undef, undef, undef, undef, undef, undef, undef, undef, undef, undef, undef, undef, undef, undef, undef, undef, undef, undef, undef, undef, undef, undef, undef, undef, undef], defers := [] } ∧ LF w2 kb kp kl b2 b7 ⟨kd, id, at_⟩ (cond b3 v26 vP) (cond b3 (S ++ [⟨kd, id, at_⟩]) S) (cond b8 v31 vL) (cond b8 (looksOf (S ++ [⟨kd, id, at_⟩])) (looksOf S)) ww

set_option maxHeartbeats 3200000 in
set_option maxRecDepth 100000 in
theorem looks_ (A : Option Addr) (c : Nat) (l : List Int) (w : World) (hr : Rs w A (ints l)) (hm : l.length ≤ maxLen) :
    Calls Try.prog 12 #[.slice A l.length c] w (BoolOld true w) := by
  have hS := Lib.hid (saneQ w)
  have HR := Lib.hid hr
  clear hr
  go_enter Try.func12, Try.ntmps12
  go_wp2_with fail
  refine hS.out.mono ?_
  rintro e w1 ⟨rfl, o1⟩
  have hM := madeQ A c l w1 (HR.out.up o1) hm
  have hX := madeM_ok 120 l
  have hXl := madeM_len 120 l
  generalize madeM 120 l = x at *
  have HM := Lib.hid hM
  have HX := Lib.hid hX
  clear hM hX
  have O1 := Lib.hid o1
  clear o1
  go_wp2_with fail
  refine HM.out.mono ?_
  rintro e w2 ⟨vx, rfl, hox, o2⟩
  obtain ⟨Ax, cx, rfl, htx, hcx, _⟩ := hox.shape
  have HTX := Lib.hid htx
  have O2 := Lib.hid (O1.out.up o2)
  clear hox o2 htx
  go_wp2_with fail
  go_loopw [3, 4, 16] (fun s3 s4 ix wr => LookRel w2 x s3 s4 ix wr) (fun _ _ ix _ => x.length - (intOf ix).toNat)
  case atStart => exact ⟨0, [], rfl, Nat.zero_le _, rfl, Own.nil_ _ _ _ _, Own.nil_ _ _ _ _, (fun j k hj => by cases hj), Old.refl _⟩
  case round =>
    obtain ⟨k, S, rfl, hk, HSE, H3, H4, HAP, HO⟩ := hrel
    by_cases hlt : k < x.length
    · obtain ⟨o, hG⟩ : ∃ o, x[k]? = some o := ⟨_, List.getElem?_eq_getElem hlt⟩
      have hfs := act_step hG
      have hpl := act_len x k
      rw [HSE.out] at hfs hpl
      obtain ⟨b, off, rfl, hbl, hcl⟩ := (HTX.out.up HO.out).rs.at_ (by rw [opv_length]; omega)
      obtain ⟨g0, g1, g2⟩ := opv_get x k o hG
      have c0 := hcl _ _ g0
      have c1 := hcl _ _ g1
      have c2' := hcl _ _ g2
      rw [← Nat.add_assoc] at c1 c2'
      have i1 : (0 : Int) ≤ (k : Int) := by omega
      have i2 : (k : Int) < (x.length : Int) := by omega
      clear hcl g0 g1 g2 hG hbl
      obtain ⟨kd, id, at_⟩ := o
      simp only at c0 c1 c2' hfs
      go_upto_region 7 with fail
      have oW : Old wr (wr.alloc (.cells #[.int .i64 kd, .int .i64 id, .int .u64 at_] 66)) := (Old.refl wr).alloc _
      have hb9 : (wr.alloc (.cells #[.int .i64 kd, .int .i64 id, .int .u64 at_] 66)).heap[wr.heap.size]? = some (.cells (opCells ⟨kd, id, at_⟩) 66 (0, 0)) := heap_alloc_new wr _
      have hbox : Free (wr.alloc (.cells #[.int .i64 kd, .int .i64 id, .int .u64 at_] 66)) wr.heap.size (opCells ⟨kd, id, at_⟩) u3 u4 := ⟨hb9, fresh_ne H3.out, fresh_ne H4.out⟩
      generalize wr.alloc (.cells #[.int .i64 kd, .int .i64 id, .int .u64 at_] 66) = W at *
      generalize hkb : wr.heap.size = kb at *
      have n0 : W.cell? ⟨kb, 0, none⟩ = some (.int .i64 kd) := by rw [cell_of_row W _ 0 _ _ _ hb9]; rfl
      have H3' := Lib.hid (H3.out.up oW)
      have H4' := Lib.hid (H4.out.up oW)
      have HO' := Lib.hid (HO.out.up oW)
      have HBOX := Lib.hid hbox
      clear oW hb9 c0 c1 c2' hbox hkb
      by_cases h4 : kd = 4
      · subst h4
        rw [if_pos rfl, List.append_nil] at hfs
        have HFS := Lib.hid hfs
        clear hfs
        go_wp2_with fail
        go_roundw
        case rel => exact ⟨k + 1, S, by go_num, by omega, HFS.out, H3'.out, H4'.out, HAP.out, HO'.out⟩
        case measure => simp [intOf]; omega
      · rw [if_neg h4] at hfs
        have HFS := Lib.hid hfs
        clear hfs
        obtain ⟨A3, d3, rfl, _⟩ := H3'.out.shape
        obtain ⟨A4, d4, rfl, _⟩ := H4'.out.shape
        have hS120 : S.length ≤ 120 := by omega
        have hlk : (looksOf S).length ≤ 240 := by have := looksOf_len S; omega
        have hF0 : LF w2 kb 0 0 false false ⟨kd, id, at_⟩ (.slice A3 S.length d3) S (.slice A4 (looksOf S).length d4) (looksOf S) W.drew := (LF.mk HO'.out H3'.out H4'.out HAP.out HBOX.out (fun h => by cases h) (fun h => by cases h)).up (Old.refl W).drew
        go_wp2_with fail
        refine wp_region_steps (by kernel_rfl) (by kernel_rfl) (LI w2 kb (.slice A l.length c) (.slice (some ⟨b, off, none⟩) x.length cx) (.int .i64 x.length) (.int .i64 k) (.slice A3 S.length d3) (.slice A4 (looksOf S).length d4) S kd id at_) ?_ ?_ ⟨?_, ?_, ?_, ?_, ?_, ?_, ?_, ?_, ?_, ?_, ?_, trivial⟩
        · exact ⟨false, false, false, false, false, false, false, false, false, false, false, 0, 0, undef, undef, _, _, _, _, _, _, _, _, _, _, _, _, _, _, _, _, rfl, rfl, hF0⟩
        · rintro a w1 ⟨b0, b1, b2, b3, b4, b5, b6, b7, b8, b9, b10, kp, kl, v26, v31, u17, u18, u19, u20, u21, u22, u23, u24, u25, u26, u27, u28, u29, u30, u31, u32, hl, rfl, hF⟩
          have hl' := congrArg Array.toList hl
          simp at hl'
          obtain ⟨rfl, rfl, rfl, rfl, rfl, rfl, rfl, rfl, rfl, rfl, rfl⟩ := hl'
          have hF1 : LF w2 kb kp kl true true ⟨kd, id, at_⟩ v26 (S ++ [⟨kd, id, at_⟩]) v31 (looksOf (S ++ [⟨kd, id, at_⟩])) w1 := hF
          have HF1 := Lib.hid hF1
          clear hF hF1
          go_wp2_with fail
          go_roundw
          case rel => exact ⟨k + 1, S ++ [(⟨kd, id, at_⟩ : TOp)], by go_num, by omega, HFS.out, HF1.out.P, HF1.out.L, HF1.out.ap, HF1.out.old⟩
          case measure => simp [intOf]; omega
        · intro listed a w1 K hs hcl hf hall hI hK
          obtain ⟨b0, b1, b2, b3, b4, b5, b6, b7, b8, b9, b10, kp, kl, v26, v31, u17, u18, u19, u20, u21, u22, u23, u24, u25, u26, u27, u28, u29, u30, u31, u32, rfl, rfl, hF⟩ := hI
          have hf' : b0 = false := hf
          subst hf'
          have hb3 : b3 = false := by
            cases b3
            · rfl
            · exact absurd (show false = true from hcl 3 _ rfl rfl ⟨0, .data⟩ (by first | exact .head _ | simp) rfl) (by decide)
          subst hb3
          have hb9 : b9 = false := by
            cases b9
            · rfl
            · exact absurd (show false = true from hcl 9 _ rfl rfl ⟨0, .phase⟩ (by first | exact .head _ | simp) rfl) (by decide)
          subst hb9
          have hb10 : b10 = false := by
            cases b10
            · rfl
            · exact absurd (show false = true from hcl 10 _ rfl rfl ⟨0, .phase⟩ (by first | exact .head _ | simp) rfl) (by decide)
          subst hb10
          have hb8 : b8 = false := by
            cases b8
            · rfl
            · exact absurd (show false = true from hcl 8 _ rfl rfl ⟨3, .chain⟩ (by first | exact .head _ | simp) rfl) (by decide)
          subst hb8
          clear hall hcl hs hf
          go_simp
          exact hK _ _ ⟨true, b1, b2, false, b4, b5, b6, b7, false, false, false, kp, kl, v26, v31, u17, u18, u19, u20, u21, u22, u23, u24, u25, u26, u27, u28, u29, u30, u31, u32, rfl, rfl, hF⟩
        · intro listed a w1 K hs hcl hf hall hI hK
          obtain ⟨b0, b1, b2, b3, b4, b5, b6, b7, b8, b9, b10, kp, kl, v26, v31, u17, u18, u19, u20, u21, u22, u23, u24, u25, u26, u27, u28, u29, u30, u31, u32, rfl, rfl, hF⟩ := hI
          have hf' : b1 = false := hf
          subst hf'
          have hb2 : b2 = false := by
            cases b2
            · rfl
            · exact absurd (show false = true from hcl 2 _ rfl rfl ⟨1, .data⟩ (by first | exact .head _ | simp) rfl) (by decide)
          subst hb2
          have hb9 : b9 = false := by
            cases b9
            · rfl
            · exact absurd (show false = true from hcl 9 _ rfl rfl ⟨1, .phase⟩ (by first | exact .head _ | simp) rfl) (by decide)
          subst hb9
          have hb10 : b10 = false := by
            cases b10
            · rfl
            · exact absurd (show false = true from hcl 10 _ rfl rfl ⟨1, .phase⟩ (by first | exact .head _ | simp) rfl) (by decide)
          subst hb10
          have hb3 : b3 = false := by
            cases b3
            · rfl
            · exact absurd (show false = true from hcl 3 _ rfl rfl ⟨2, .data⟩ (by first | exact .head _ | simp) rfl) (by decide)
          subst hb3
          have hb8 : b8 = false := by
            cases b8
            · rfl
            · exact absurd (show false = true from hcl 8 _ rfl rfl ⟨3, .chain⟩ (by first | exact .head _ | simp) rfl) (by decide)
          subst hb8
          clear hall hcl hs hf
          have q0 : w1.cell? ⟨kb, 0, none⟩ = some (.int .i64 kd) := by rw [cell_of_row w1 _ 0 _ _ _ hF.box.1]; rfl
          have q1 : w1.cell? ⟨kb, 1, none⟩ = some (.int .i64 id) := by rw [cell_of_row w1 _ 1 _ _ _ hF.box.1]; rfl
          have q2 : w1.cell? ⟨kb, 2, none⟩ = some (.int .u64 at_) := by rw [cell_of_row w1 _ 2 _ _ _ hF.box.1]; rfl
          go_simp
          exact hK _ _ ⟨b0, true, false, false, b4, b5, b6, b7, false, false, false, kp, kl, v26, v31, u17, u18, u19, u20, u21, u22, u23, u24, u25, u26, u27, u28, u29, u30, u31, u32, rfl, rfl, hF⟩
        · intro listed a w1 K hs hcl hf hall hI hK
          obtain ⟨b0, b1, b2, b3, b4, b5, b6, b7, b8, b9, b10, kp, kl, v26, v31, u17, u18, u19, u20, u21, u22, u23, u24, u25, u26, u27, u28, u29, u30, u31, u32, rfl, rfl, hF⟩ := hI
          have hf' : b2 = false := hf
          subst hf'
          have hq1 : b1 = true := hall ⟨1, .data⟩ (by first | exact .head _ | simp) rfl
          subst hq1
          have hb3 : b3 = false := by
            cases b3
            · rfl
            · exact absurd (show false = true from hcl 3 _ rfl rfl ⟨2, .data⟩ (by first | exact .head _ | simp) rfl) (by decide)
          subst hb3
          have hb9 : b9 = false := by
            cases b9
            · rfl
            · exact absurd (show false = true from hcl 9 _ rfl rfl ⟨2, .phase⟩ (by first | exact .head _ | simp) rfl) (by decide)
          subst hb9
          have hb10 : b10 = false := by
            cases b10
            · rfl
            · exact absurd (show false = true from hcl 10 _ rfl rfl ⟨2, .phase⟩ (by first | exact .head _ | simp) rfl) (by decide)
          subst hb10
          have hb8 : b8 = false := by
            cases b8
            · rfl
            · exact absurd (show false = true from hcl 8 _ rfl rfl ⟨3, .chain⟩ (by first | exact .head _ | simp) rfl) (by decide)
          subst hb8
          clear hall hcl hs hf
          go_simp
          exact hK _ _ ⟨b0, true, true, false, b4, b5, b6, b7, false, false, false, w1.heap.size, kl, v26, v31, u17, u18, u19, u20, u21, u22, u23, u24, u25, u26, u27, u28, u29, u30, u31, u32, rfl, rfl, hF.allocP⟩
        · intro listed a w1 K hs hcl hf hall hI hK
          obtain ⟨b0, b1, b2, b3, b4, b5, b6, b7, b8, b9, b10, kp, kl, v26, v31, u17, u18, u19, u20, u21, u22, u23, u24, u25, u26, u27, u28, u29, u30, u31, u32, rfl, rfl, hF⟩ := hI
          have hf' : b3 = false := hf
          subst hf'
          have hq0 : b0 = true := hall ⟨0, .data⟩ (by first | exact .head _ | simp) rfl
          subst hq0
          have hq2 : b2 = true := hall ⟨2, .data⟩ (by first | exact .head _ | simp) rfl
          subst hq2
          have hq1 : b1 = true := hcl 2 _ rfl rfl ⟨1, .data⟩ (by first | exact .head _ | simp) rfl
          subst hq1
          have hb8 : b8 = false := by
            cases b8
            · rfl
            · exact absurd (show false = true from hcl 8 _ rfl rfl ⟨3, .chain⟩ (by first | exact .head _ | simp) rfl) (by decide)
          subst hb8
          have hb9 : b9 = false := by
            cases b9
            · rfl
            · exact absurd (show false = true from hcl 9 _ rfl rfl ⟨3, .data⟩ (by first | exact .head _ | simp) rfl) (by decide)
          subst hb9
          have hb10 : b10 = false := by
            cases b10
            · rfl
            · exact absurd (show false = true from hcl 10 _ rfl rfl ⟨3, .phase⟩ (by first | exact .head _ | simp) rfl) (by decide)
          subst hb10
          clear hall hcl hs hf
          refine step_pushW w1 (by rfl) _ _ 59 (by rfl) w2.heap.size 66 (.agg #[.int .i64 0, .int .i64 0, .int .u64 0]) 3 24 Try.underlying59 info_to rfl (by decide) (by decide) (.slice A3 S.length d3) S.length (opv S) (by rfl) hF.P kp 1 1 _ _ (by rfl) (hF.p rfl).1 (by rfl) (by first | rfl | simp [opCells, lookOp, Value.oneCell']) (by omega) hF.old.size ?_
          intro v' w' ho hg hw
          exact hK _ _ ⟨true, true, true, true, b4, b5, b6, b7, false, false, false, kp, kl, v', v31, u17, u18, u19, u20, u21, u22, u23, u24, u25, u26, u27, u28, u29, u30, u31, u32, rfl, rfl, hF.pushP (X' := S ++ [(⟨kd, id, at_⟩ : TOp)]) (by rw [opv_app, List.length_append]; exact ho) hg hw⟩
        · intro listed a w1 K hs hcl hf hall hI hK
          obtain ⟨b0, b1, b2, b3, b4, b5, b6, b7, b8, b9, b10, kp, kl, v26, v31, u17, u18, u19, u20, u21, u22, u23, u24, u25, u26, u27, u28, u29, u30, u31, u32, rfl, rfl, hF⟩ := hI
          have hf' : b4 = false := hf
          subst hf'
          have hb8 : b8 = false := by
            cases b8
            · rfl
            · exact absurd (show false = true from hcl 8 _ rfl rfl ⟨4, .data⟩ (by first | exact .head _ | simp) rfl) (by decide)
          subst hb8
          have hb10 : b10 = false := by
            cases b10
            · rfl
            · exact absurd (show false = true from hcl 10 _ rfl rfl ⟨4, .phase⟩ (by first | exact .head _ | simp) rfl) (by decide)
          subst hb10
          have hb9 : b9 = false := by
            cases b9
            · rfl
            · exact absurd (show false = true from hcl 9 _ rfl rfl ⟨8, .chain⟩ (by first | exact .head _ | simp) rfl) (by decide)
          subst hb9
          clear hall hcl hs hf
          go_simp
          exact hK _ _ ⟨b0, b1, b2, b3, true, b5, b6, b7, false, false, false, kp, kl, v26, v31, u17, u18, u19, u20, u21, u22, u23, u24, u25, u26, u27, u28, u29, u30, u31, u32, rfl, rfl, hF⟩
        · intro listed a w1 K hs hcl hf hall hI hK
          obtain ⟨b0, b1, b2, b3, b4, b5, b6, b7, b8, b9, b10, kp, kl, v26, v31, u17, u18, u19, u20, u21, u22, u23, u24, u25, u26, u27, u28, u29, u30, u31, u32, rfl, rfl, hF⟩ := hI
          have hf' : b5 = false := hf
          subst hf'
          have hb7 : b7 = false := by
            cases b7
            · rfl
            · exact absurd (show false = true from hcl 7 _ rfl rfl ⟨5, .data⟩ (by first | exact .head _ | simp) rfl) (by decide)
          subst hb7
          have hb10 : b10 = false := by
            cases b10
            · rfl
            · exact absurd (show false = true from hcl 10 _ rfl rfl ⟨5, .phase⟩ (by first | exact .head _ | simp) rfl) (by decide)
          subst hb10
          have hb8 : b8 = false := by
            cases b8
            · rfl
            · exact absurd (show false = true from hcl 8 _ rfl rfl ⟨7, .data⟩ (by first | exact .head _ | simp) rfl) (by decide)
          subst hb8
          have hb9 : b9 = false := by
            cases b9
            · rfl
            · exact absurd (show false = true from hcl 9 _ rfl rfl ⟨8, .chain⟩ (by first | exact .head _ | simp) rfl) (by decide)
          subst hb9
          clear hall hcl hs hf
          go_simp
          exact hK _ _ ⟨b0, b1, b2, b3, b4, true, b6, false, false, false, false, kp, kl, v26, v31, u17, u18, u19, u20, u21, u22, u23, u24, u25, u26, u27, u28, u29, u30, u31, u32, rfl, rfl, hF⟩
        · intro listed a w1 K hs hcl hf hall hI hK
          obtain ⟨b0, b1, b2, b3, b4, b5, b6, b7, b8, b9, b10, kp, kl, v26, v31, u17, u18, u19, u20, u21, u22, u23, u24, u25, u26, u27, u28, u29, u30, u31, u32, rfl, rfl, hF⟩ := hI
          have hf' : b6 = false := hf
          subst hf'
          have hb7 : b7 = false := by
            cases b7
            · rfl
            · exact absurd (show false = true from hcl 7 _ rfl rfl ⟨6, .data⟩ (by first | exact .head _ | simp) rfl) (by decide)
          subst hb7
          have hb10 : b10 = false := by
            cases b10
            · rfl
            · exact absurd (show false = true from hcl 10 _ rfl rfl ⟨6, .phase⟩ (by first | exact .head _ | simp) rfl) (by decide)
          subst hb10
          have hb8 : b8 = false := by
            cases b8
            · rfl
            · exact absurd (show false = true from hcl 8 _ rfl rfl ⟨7, .data⟩ (by first | exact .head _ | simp) rfl) (by decide)
          subst hb8
          have hb9 : b9 = false := by
            cases b9
            · rfl
            · exact absurd (show false = true from hcl 9 _ rfl rfl ⟨8, .chain⟩ (by first | exact .head _ | simp) rfl) (by decide)
          subst hb9
          clear hall hcl hs hf
          have q0 : w1.cell? ⟨kb, 0, none⟩ = some (.int .i64 kd) := by rw [cell_of_row w1 _ 0 _ _ _ hF.box.1]; rfl
          have q1 : w1.cell? ⟨kb, 1, none⟩ = some (.int .i64 id) := by rw [cell_of_row w1 _ 1 _ _ _ hF.box.1]; rfl
          have q2 : w1.cell? ⟨kb, 2, none⟩ = some (.int .u64 at_) := by rw [cell_of_row w1 _ 2 _ _ _ hF.box.1]; rfl
          go_simp
          exact hK _ _ ⟨b0, b1, b2, b3, b4, b5, true, false, false, false, false, kp, kl, v26, v31, u17, u18, u19, u20, u21, u22, u23, u24, u25, u26, u27, u28, u29, u30, u31, u32, rfl, rfl, hF⟩
        · intro listed a w1 K hs hcl hf hall hI hK
          obtain ⟨b0, b1, b2, b3, b4, b5, b6, b7, b8, b9, b10, kp, kl, v26, v31, u17, u18, u19, u20, u21, u22, u23, u24, u25, u26, u27, u28, u29, u30, u31, u32, rfl, rfl, hF⟩ := hI
          have hf' : b7 = false := hf
          subst hf'
          have hq5 : b5 = true := hall ⟨5, .data⟩ (by first | exact .head _ | simp) rfl
          subst hq5
          have hq6 : b6 = true := hall ⟨6, .data⟩ (by first | exact .head _ | simp) rfl
          subst hq6
          have hb8 : b8 = false := by
            cases b8
            · rfl
            · exact absurd (show false = true from hcl 8 _ rfl rfl ⟨7, .data⟩ (by first | exact .head _ | simp) rfl) (by decide)
          subst hb8
          have hb10 : b10 = false := by
            cases b10
            · rfl
            · exact absurd (show false = true from hcl 10 _ rfl rfl ⟨7, .phase⟩ (by first | exact .head _ | simp) rfl) (by decide)
          subst hb10
          have hb9 : b9 = false := by
            cases b9
            · rfl
            · exact absurd (show false = true from hcl 9 _ rfl rfl ⟨8, .chain⟩ (by first | exact .head _ | simp) rfl) (by decide)
          subst hb9
          clear hall hcl hs hf
          go_simp
          exact hK _ _ ⟨b0, b1, b2, b3, b4, true, true, true, false, false, false, kp, w1.heap.size, v26, v31, u17, u18, u19, u20, u21, u22, u23, u24, u25, u26, u27, u28, u29, u30, u31, u32, rfl, rfl, hF.allocL⟩
        · intro listed a w1 K hs hcl hf hall hI hK
          obtain ⟨b0, b1, b2, b3, b4, b5, b6, b7, b8, b9, b10, kp, kl, v26, v31, u17, u18, u19, u20, u21, u22, u23, u24, u25, u26, u27, u28, u29, u30, u31, u32, rfl, rfl, hF⟩ := hI
          have hf' : b8 = false := hf
          subst hf'
          have hq4 : b4 = true := hall ⟨4, .data⟩ (by first | exact .head _ | simp) rfl
          subst hq4
          have hq7 : b7 = true := hall ⟨7, .data⟩ (by first | exact .head _ | simp) rfl
          subst hq7
          have hq3 : b3 = true := hall ⟨3, .chain⟩ (by first | exact .head _ | simp) rfl
          subst hq3
          have hq5 : b5 = true := hcl 7 _ rfl rfl ⟨5, .data⟩ (by first | exact .head _ | simp) rfl
          subst hq5
          have hq6 : b6 = true := hcl 7 _ rfl rfl ⟨6, .data⟩ (by first | exact .head _ | simp) rfl
          subst hq6
          have hq0 : b0 = true := hcl 3 _ rfl rfl ⟨0, .data⟩ (by first | exact .head _ | simp) rfl
          subst hq0
          have hq2 : b2 = true := hcl 3 _ rfl rfl ⟨2, .data⟩ (by first | exact .head _ | simp) rfl
          subst hq2
          have hq1 : b1 = true := hcl 2 _ rfl rfl ⟨1, .data⟩ (by first | exact .head _ | simp) rfl
          subst hq1
          have hb9 : b9 = false := by
            cases b9
            · rfl
            · exact absurd (show false = true from hcl 9 _ rfl rfl ⟨8, .chain⟩ (by first | exact .head _ | simp) rfl) (by decide)
          subst hb9
          have hb10 : b10 = false := by
            cases b10
            · rfl
            · exact absurd (show false = true from hcl 10 _ rfl rfl ⟨8, .data⟩ (by first | exact .head _ | simp) rfl) (by decide)
          subst hb10
          clear hall hcl hs hf
          refine step_pushW w1 (by rfl) _ _ 59 (by rfl) w2.heap.size 66 (.agg #[.int .i64 0, .int .i64 0, .int .u64 0]) 3 24 Try.underlying59 info_to rfl (by decide) (by decide) (.slice A4 (looksOf S).length d4) (looksOf S).length (opv (looksOf S)) (by rfl) hF.L kl 2 2 _ _ (by rfl) (hF.l rfl).1 (by rfl) (by first | rfl | simp [opCells, lookOp, Value.oneCell']) (by omega) hF.old.size ?_
          intro v' w' ho hg hw
          exact hK _ _ ⟨true, true, true, true, true, true, true, true, true, false, false, kp, kl, v26, v', u17, u18, u19, u20, u21, u22, u23, u24, u25, u26, u27, u28, u29, u30, u31, u32, rfl, rfl, hF.pushL (Y' := looksOf (S ++ [(⟨kd, id, at_⟩ : TOp)])) (by rw [looksOf_app, opv_app, List.length_append]; exact ho) hg hw⟩
        · intro listed a w1 K hs hcl hf hall hI hK
          obtain ⟨b0, b1, b2, b3, b4, b5, b6, b7, b8, b9, b10, kp, kl, v26, v31, u17, u18, u19, u20, u21, u22, u23, u24, u25, u26, u27, u28, u29, u30, u31, u32, rfl, rfl, hF⟩ := hI
          have hf' : b9 = false := hf
          subst hf'
          have hq3 : b3 = true := hall ⟨3, .data⟩ (by first | exact .head _ | simp) rfl
          subst hq3
          have hq8 : b8 = true := hall ⟨8, .chain⟩ (by first | exact .head _ | simp) rfl
          subst hq8
          have hq0 : b0 = true := hall ⟨0, .phase⟩ (by first | exact .head _ | simp) rfl
          subst hq0
          have hq1 : b1 = true := hall ⟨1, .phase⟩ (by first | exact .head _ | simp) rfl
          subst hq1
          have hq2 : b2 = true := hall ⟨2, .phase⟩ (by first | exact .head _ | simp) rfl
          subst hq2
          have hq4 : b4 = true := hcl 8 _ rfl rfl ⟨4, .data⟩ (by first | exact .head _ | simp) rfl
          subst hq4
          have hq7 : b7 = true := hcl 8 _ rfl rfl ⟨7, .data⟩ (by first | exact .head _ | simp) rfl
          subst hq7
          have hq5 : b5 = true := hcl 7 _ rfl rfl ⟨5, .data⟩ (by first | exact .head _ | simp) rfl
          subst hq5
          have hq6 : b6 = true := hcl 7 _ rfl rfl ⟨6, .data⟩ (by first | exact .head _ | simp) rfl
          subst hq6
          have hb10 : b10 = false := by
            cases b10
            · rfl
            · exact absurd (show false = true from hcl 10 _ rfl rfl ⟨9, .chain⟩ (by first | exact .head _ | simp) rfl) (by decide)
          subst hb10
          clear hall hcl hs hf
          go_simp
          exact hK _ _ ⟨true, true, true, true, true, true, true, true, true, true, false, kp, kl, v26, v31, u17, u18, u19, u20, u21, u22, u23, u24, u25, u26, u27, u28, u29, u30, u31, u32, rfl, rfl, hF⟩
        · intro listed a w1 K hs hcl hf hall hI hK
          obtain ⟨b0, b1, b2, b3, b4, b5, b6, b7, b8, b9, b10, kp, kl, v26, v31, u17, u18, u19, u20, u21, u22, u23, u24, u25, u26, u27, u28, u29, u30, u31, u32, rfl, rfl, hF⟩ := hI
          have hf' : b10 = false := hf
          subst hf'
          have hq8 : b8 = true := hall ⟨8, .data⟩ (by first | exact .head _ | simp) rfl
          subst hq8
          have hq9 : b9 = true := hall ⟨9, .chain⟩ (by first | exact .head _ | simp) rfl
          subst hq9
          have hq0 : b0 = true := hall ⟨0, .phase⟩ (by first | exact .head _ | simp) rfl
          subst hq0
          have hq1 : b1 = true := hall ⟨1, .phase⟩ (by first | exact .head _ | simp) rfl
          subst hq1
          have hq2 : b2 = true := hall ⟨2, .phase⟩ (by first | exact .head _ | simp) rfl
          subst hq2
          have hq3 : b3 = true := hall ⟨3, .phase⟩ (by first | exact .head _ | simp) rfl
          subst hq3
          have hq4 : b4 = true := hall ⟨4, .phase⟩ (by first | exact .head _ | simp) rfl
          subst hq4
          have hq5 : b5 = true := hall ⟨5, .phase⟩ (by first | exact .head _ | simp) rfl
          subst hq5
          have hq6 : b6 = true := hall ⟨6, .phase⟩ (by first | exact .head _ | simp) rfl
          subst hq6
          have hq7 : b7 = true := hall ⟨7, .phase⟩ (by first | exact .head _ | simp) rfl
          subst hq7
          clear hall hcl hs hf
          go_simp
          exact hK _ _ ⟨true, true, true, true, true, true, true, true, true, true, true, kp, kl, v26, v31, u17, u18, u19, u20, u21, u22, u23, u24, u25, u26, u27, u28, u29, u30, u31, u32, rfl, rfl, hF⟩
    · obtain rfl : k = x.length := by omega
      have hSE := HSE.out
      rw [List.take_length] at hSE
      have hSok : ∀ o ∈ S, o.ok ∧ o.kind ≠ 4 := fun o ho => by
        rw [← hSE] at ho
        obtain ⟨h1, h2⟩ := List.mem_filter.1 ho
        exact ⟨(HX.out o h1).ok, by simpa [isAct] using h2⟩
      have hSl : S.length ≤ 120 := by
        have := List.length_filter_le isAct x
        rw [hSE] at this
        omega
      have hll := looksOf_len S
      have hlok : ∀ o ∈ looksOf S, o.ok := fun o ho => by
        obtain ⟨o', ho', hm'⟩ := List.mem_flatMap.1 ho
        rcases List.mem_cons.1 hm' with rfl | hm'
        · exact ⟨by decide, by decide, by decide, by decide⟩
        · rcases List.mem_cons.1 hm' with rfl | hm'
          · exact (hSok _ ho').1
          · cases hm'
      obtain ⟨A3, d3, rfl, t3, hd3, _⟩ := H3.out.shape
      obtain ⟨A4, d4, rfl, t4, hd4, _⟩ := H4.out.shape
      have hP := Lib.hid (playQ A3 d3 S wr t3 (fun o ho => (hSok o ho).1) (by omega))
      have T4 := Lib.hid t4
      have HSok := Lib.hid hSok
      have Hlok := Lib.hid hlok
      have Hll := Lib.hid hll
      have hlb : (looksOf S).length ≤ 240 := by omega
      clear hSE hSok hll hlok t3 t4
      generalize wr = w3 at *
      go_wp2_with fail
      refine hP.out.mono ?_
      rintro e w4 ⟨va, ca, rfl, hoa, hra, hda⟩
      have hla := runM_len S
      rw [hla] at hoa
      obtain ⟨Aa, da, rfl, ta, hca, hma⟩ := hoa.shape
      have hP2 := Lib.hid (playQ A4 d4 (looksOf S) w4 (T4.out.up hda) Hlok.out (by omega))
      have HTA := Lib.hid ta
      have HRA := Lib.hid hra.repS
      have HDA := Lib.hid hda
      clear hoa hra hda ta hla
      go_wp2_with fail
      refine hP2.out.mono ?_
      rintro e w5 ⟨vb, cb, rfl, hob, hrb, hdb⟩
      have hlb2 := runM_len (looksOf S)
      rw [hlb2] at hob
      obtain ⟨Ab, db, rfl, tb, hcb, hmb⟩ := hob.shape
      have HTB := Lib.hid tb
      have HRB := Lib.hid hrb.repS
      have HTA5 := Lib.hid (HTA.out.up hdb)
      have HRA5 := Lib.hid (HRA.out.up fun _ _ hp => hdb.cell hp)
      have HD5 := Lib.hid ((O2.out.up HO.out).up (HDA.out.up hdb))
      have hne1 : ((S.length : Int) != (S.length : Int)) = false := by simp
      have hne2 : (((looksOf S).length : Int) != ((looksOf S).length : Int)) = false := by simp
      clear hob hrb hdb tb hlb2
      go_wp2_with fail
      go_loopw [51] (fun ix wr => ∃ k : Nat, ix = .int .i64 k ∧ k ≤ S.length ∧ Hid (Old w5 wr)) (fun ix _ => S.length - (intOf ix).toNat)
      case atStart => exact ⟨0, rfl, Nat.zero_le _, Old.refl _⟩
      case round =>
        obtain ⟨i, rfl, hi, HOi⟩ := hrel
        by_cases hit : i < S.length
        · obtain ⟨o, hG⟩ : ∃ o, S[i]? = some o := ⟨_, List.getElem?_eq_getElem hit⟩
          obtain ⟨l0, l1, l2⟩ := looks_at hG
          obtain ⟨ba, oa, rfl, _, hcla⟩ := (HTA5.out.up HOi.out).rs.at_ (by rw [HRA5.out.1, runM_len]; omega)
          obtain ⟨bb, ob, rfl, _, hclb⟩ := (HTB.out.up HOi.out).rs.at_ (by rw [HRB.out.1, runM_len, Hll.out]; omega)
          have hbl : 2 * S.length ≤ db := by have := Hll.out; omega
          have i1 : (0 : Int) ≤ (i : Int) := by omega
          have i2 : (i : Int) < (S.length : Int) := by omega
          unfold maxLen at hma hmb
          have hi120 : i ≤ 120 := by omega
          have i8 : 2 * (i : Int) < ((looksOf S).length : Int) := by have := Hll.out; omega
          have i9 : (0 : Int) ≤ 2 * (i : Int) := by omega
          have sl1 := fun W => run_slice_midS (P := Try.prog) (t := 62) (sz := 3) (by kernel_rfl) (fun _ => rfl) ba oa S.length da i 1 (i : Int) ((i : Int) + 1) rfl (by omega) (by omega) (by omega) W
          have sl2 := fun W => run_slice_midS (P := Try.prog) (t := 62) (sz := 3) (by kernel_rfl) (fun _ => rfl) bb ob (looksOf S).length db (2 * i + 1) 1 (2 * (i : Int) + 1) (2 * (i : Int) + 2) (by omega) (by omega) (by omega) (by omega) W
          obtain ⟨Fa, fa, x0, x1, x2, x3, x4, x5⟩ := HRA5.out.2 i _ l0
          obtain ⟨Fb, fb, y0, y1, y2, y3, y4, y5⟩ := HRB.out.2 (2 * i + 1) _ l2
          obtain ⟨Fn, fn, z0, z1, z2, z3, z4, z5⟩ := HRB.out.2 (2 * i) _ l1
          have x3' := x3.up HOi.out
          have y3' := y3.up HOi.out
          have z3' := z3.up HOi.out
          obtain ⟨ra1, ra2⟩ := rep_one hcla x0 x1 x2 x3' x4 x5
          obtain ⟨rb1, rb2⟩ := rep_one hclb y0 y1 y2 y3' y4 y5
          obtain ⟨hq, _⟩ := runQI _ (S.take i) rfl (fun o ho => (HSok.out o (List.mem_of_mem_take ho)).1)
          have hfirst := fun h => looks_first (now := (runM (S.take i)).1.2) hq (HSok.out o (List.mem_of_getElem? hG)).2 h
          generalize (stepM (runM (S.take i)).1.1 (runM (S.take i)).1.2 o).2.2 = r at *
          generalize nextM (runM (S.take i)).1.1 = nr at *
          have hsm := fun n => sameReps _ _ (da - i) (db - (2 * i + 1)) [r] [r] _ _ (wr.drewN n) (ra1.drewN n) (rb1.drewN n) ra2 rb2 (show 1 ≤ maxLen by decide) (show 1 ≤ maxLen by decide)
          rw [decide_eq_true (show [r] = [r] from rfl)] at hsm
          have HSM := Lib.hid hsm
          have n0 : wr.cell? ⟨bb, ob + 2 * i * 3, none⟩ = some (.int .i64 nr.code) := hclb _ _ z0
          have n1 : wr.cell? ⟨bb, ob + 2 * i * 3 + 1, none⟩ = some (.slice Fn nr.fired.length fn) := by rw [Nat.add_assoc]; exact hclb _ _ z1
          have n2 : wr.cell? ⟨bb, ob + 2 * i * 3 + 2, none⟩ = some (.int .u64 nr.at_) := by rw [Nat.add_assoc]; exact hclb _ _ z2
          have m1 : wr.cell? ⟨ba, oa + i * 3 + 1, none⟩ = some (.slice Fa r.fired.length fa) := by rw [Nat.add_assoc]; exact hcla _ _ x1
          have m2 : wr.cell? ⟨ba, oa + i * 3 + 2, none⟩ = some (.int .u64 r.at_) := by rw [Nat.add_assoc]; exact hcla _ _ x2
          have w1' : IntKind.i64.wrap ((i : Int) + 1) = (i : Int) + 1 := IntWalk.i64_in _ (by omega)
          have w2' : IntKind.i64.wrap (2 * (i : Int)) = 2 * (i : Int) := IntWalk.i64_in _ (by omega)
          have w3' : IntKind.i64.wrap (2 * (i : Int) + 1) = 2 * (i : Int) + 1 := IntWalk.i64_in _ (by omega)
          have w4' : IntKind.i64.wrap (2 * (i : Int) + 2) = 2 * (i : Int) + 2 := IntWalk.i64_in _ (by omega)
          have HFI := Lib.hid hfirst
          have HX3 := Lib.hid x3'
          have HZ3 := Lib.hid z3'
          have HOx := Lib.hid (show S.length ≤ 120 from hSl)
          clear hcla hclb x0 x1 x2 x3 x4 x5 y0 y1 y2 y3 y4 y5 z0 z1 z2 z3 z4 z5 x3' y3' z3' ra1 ra2 rb1 rb2 hsm hfirst l0 l1 l2 hq hG
          go_wp2_with fail
          go_quiet ((go_at_call 32; exact quiet_draws (HSM.out _)))
          clear sl1 sl2 w1' w3' w4'
          replace n0 : (wr.drewN nq).cell? ⟨bb, ob + 2 * i * 3, none⟩ = some (.int .i64 nr.code) := n0
          replace n1 : (wr.drewN nq).cell? ⟨bb, ob + 2 * i * 3 + 1, none⟩ = some (.slice Fn nr.fired.length fn) := n1
          replace n2 : (wr.drewN nq).cell? ⟨bb, ob + 2 * i * 3 + 2, none⟩ = some (.int .u64 nr.at_) := n2
          have HM1 : Hid ((wr.drewN nq).cell? ⟨ba, oa + i * 3 + 1, none⟩ = some (.slice Fa r.fired.length fa)) := m1
          have HM2 : Hid ((wr.drewN nq).cell? ⟨ba, oa + i * 3 + 2, none⟩ = some (.int .u64 r.at_)) := m2
          have HX3' := Lib.hid (HX3.out.drewN nq)
          have HZ3' := Lib.hid (HZ3.out.drewN nq)
          have HOi' := Lib.hid (HOi.out.drewN nq)
          clear m1 m2
          generalize wr.drewN nq = W1 at *
          go_upto_region 19 with fail
          have oW : Old W1 (W1.alloc (.cells #[.int .i64 nr.code, .slice Fn nr.fired.length fn, .int .u64 nr.at_] 71)) := (Old.refl W1).alloc _
          have hb9 : (W1.alloc (.cells #[.int .i64 nr.code, .slice Fn nr.fired.length fn, .int .u64 nr.at_] 71)).heap[W1.heap.size]? = some (.cells #[.int .i64 nr.code, .slice Fn nr.fired.length fn, .int .u64 nr.at_] 71 (0, 0)) := heap_alloc_new W1 _
          generalize W1.alloc (.cells #[.int .i64 nr.code, .slice Fn nr.fired.length fn, .int .u64 nr.at_] 71) = W at *
          have b0 : W.cell? ⟨W1.heap.size, 0, none⟩ = some (.int .i64 nr.code) := by rw [cell_of_row W _ 0 _ _ _ hb9]; rfl
          have b1 : W.cell? ⟨W1.heap.size, 1, none⟩ = some (.slice Fn nr.fired.length fn) := by rw [cell_of_row W _ 1 _ _ _ hb9]; rfl
          have b2 : W.cell? ⟨W1.heap.size, 2, none⟩ = some (.int .u64 nr.at_) := by rw [cell_of_row W _ 2 _ _ _ hb9]; rfl
          have m1 := oW.cell HM1.out
          have m2 := oW.cell HM2.out
          have x3 := HX3'.out.up oW
          have z3 := HZ3'.out.up oW
          have HOW := Lib.hid (HOi'.out.up oW)
          clear oW hb9 n0 n1 n2 i8 i9
          obtain ⟨rc, rf, rt⟩ := r
          simp only at m1 m2 x3
          cases rf with
          | nil =>
            clear x3 z3 b0 b1 b2 m2
            go_quiet (fail)
            go_wp2_with fail
            go_roundw
            case rel => exact ⟨i + 1, by go_num, by omega, HOW.out.drewN _⟩
            case measure => simp [intOf]; omega
          | cons id0 rest =>
            obtain ⟨id, t, rfl, hid, htt⟩ := HFI.out (by simp)
            simp only at b0 b1 b2 z3 hid htt
            obtain rfl : id0 = id := by simpa using hid
            obtain ⟨xb, xo, rfl, _, hxc⟩ := x3.at_ (by simp [intv])
            obtain ⟨zb, zo, rfl, _, hzc⟩ := z3.at_ (by simp [intv])
            have e1 : W.cell? ⟨xb, xo, none⟩ = some (.int .i64 id0) := hxc 0 _ rfl
            have e2 : W.cell? ⟨zb, zo, none⟩ = some (.int .i64 id0) := hzc 0 _ rfl
            have hnt : ¬ rt < t := by omega
            have b1' : W.cell? ⟨W1.heap.size, 1, none⟩ = some (.slice (some ⟨zb, zo, none⟩) 1 fn) := b1
            have hlp : 0 < (id0 :: rest).length := by simp
            have hlpi : (0 : Int) < ((id0 :: rest).length : Int) := by omega
            clear x3 z3 hxc hzc hid b1 htt
            generalize (id0 :: rest).length = rl at *
            go_quiet (fail)
            go_wp2_with fail
            go_roundw
            case rel => exact ⟨i + 1, by go_num, by omega, HOW.out.drewN _⟩
            case measure => simp [intOf]; omega
        · obtain rfl : i = S.length := by omega
          have HF := Lib.hid (HD5.out.up HOi.out)
          go_wp2_with fail
          go_ret
          exact ⟨rfl, HF.out⟩
end Go.Proofs.Ytlpaemlgmmmbmaa
