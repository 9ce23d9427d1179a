/-
  The walk of the statement LangAlgebra.
-/
import Derived.Test.YtaajgdhoffhdcaaLwH
import Derived.Test.YtaajgdhoffhdcaaRegInvB
namespace Go.Proofs.Ytaajgdhoffhdcaa
open Go.RowKit
set_option linter.unusedVariables false

theorem strOf_add (a b : List Nat) (W : World) (ha : a.length ≤ 1000) (hb : b.length ≤ 1000) : (Op.stringOp .add (strOf a) (strOf b)).run Try.prog W = .ok (.string (strOf (a ++ b))) W := by
  have := run_string_add_lists (P := Try.prog) (w := W) (a.map UInt8.ofNat) (b.map UInt8.ofNat) (by rw [List.length_map]; omega) (by rw [List.length_map]; omega)
  unfold strOf
  rw [List.map_append]
  exact this
theorem parse_any (s : List Nat) (hs : ∀ x ∈ s, x < 256) (hl : s.length ≤ 1000) (w : World) : Calls Try.prog 21 #[.string (strOf s)] w (ParsePost w (parseR s)) :=
  parseC (6 * s.length + 6) (strOf s) (parseR s) w (by rw [← bs_length, bs_strOf _ hs]; omega) (by rw [bs_strOf _ hs]; exact parseR_eq s)
def PPost (s : List Nat) (w : World) (e : Ending) (w' : World) : Prop := ∃ A c ec, e = .returned (.tuple #[.slice A (rp s).length c, .int .i64 ec]) ∧ Rs w' A (ndsV (rp s)) ∧ Old w w'
def OkS (s : List Nat) (n : Nat) : Prop := (∀ x ∈ s, x < 256) ∧ s.length ≤ n
theorem OkS.app {a b : List Nat} {n m : Nat} (ha : OkS a n) (hb : OkS b m) : OkS (a ++ b) (n + m) := ⟨fun x hx => (List.mem_append.mp hx).elim (ha.1 x) (hb.1 x), by have := ha.2; have := hb.2; rw [List.length_append]; omega⟩
theorem parse_p {s : List Nat} {n : Nat} (h : OkS s n) (hn : n ≤ 1000) (w : World) : Calls Try.prog 21 #[.string (strOf s)] w (PPost s w) := by
  refine (parse_any s h.1 (Nat.le_trans h.2 hn) w).mono ?_
  rintro e w' ⟨v, rfl, ho, hd⟩
  obtain ⟨A, c, rfl, ht, _, _⟩ := ho.shape
  exact ⟨A, c, _, rfl, ht.rs, hd⟩
def EndsAll (n : List Nd) (A : Option Addr) (c : Nat) (At : Option Addr) (ct : Nat) (t : List Nat) (w0 : World) : Prop :=
  ∀ (ww : World), Old w0 ww → ∀ a : Nat, Calls Try.prog 22 #[.slice A n.length c, .slice At t.length ct, .int .i64 (a : Int)] ww (Made ww 3 1 (endsM n t a).length (spz (endsM n t a)))
theorem endsAll {s : List Nat} {m : Nat} (h : OkS s m) {A : Option Addr} {c : Nat} {At : Option Addr} {ct : Nat} {t : List Nat} {w0 : World} (hr : Rs w0 A (ndsV (rp s))) (hrt : Rs w0 At (txt t)) (ht : t.length ≤ 12) (hb : ∀ x ∈ t, x < 256) : EndsAll (rp s) A c At ct t w0 :=
  fun ww ho a => endsC A c (rp s) At ct t a ww (hr.up ho) (hrt.up ho) (by have := parseR_len s; unfold rp maxLen; omega) (by omega) hb (parseR_sets h.1)
theorem pt_ok : ∀ i, i < 7 → (∀ x ∈ pt i, x < 256) ∧ (pt i).length ≤ 10 := by decide
structure RA (w : World) (kb1 kb2 : Nat) (b0 b5 : Bool) (ww : World) : Prop where
  old : Old w ww
  p1 : b0 = true → ww.heap[kb1]? = some patObj
  p2 : b5 = true → ww.heap[kb2]? = some patObj
theorem RA.one {w ww : World} {kb1 kb2 : Nat} {b5 : Bool} (h : RA w kb1 kb2 false b5 ww) : RA w ww.heap.size kb2 true b5 (ww.alloc patObj) :=
  ⟨h.old.alloc _, fun _ => heap_alloc_new _ _, fun e => ((Old.refl ww).alloc _).block (h.p2 e)⟩
theorem RA.two {w ww : World} {kb1 kb2 : Nat} {b0 : Bool} (h : RA w kb1 kb2 b0 false ww) : RA w kb1 ww.heap.size b0 true (ww.alloc patObj) :=
  ⟨h.old.alloc _, fun e => ((Old.refl ww).alloc _).block (h.p1 e), fun _ => heap_alloc_new _ _⟩
theorem patObj_cell {w : World} {kb i : Nat} (hi : i < 7) (h : w.heap[kb]? = some patObj) : w.cell? ⟨kb, i, none⟩ = some (.string (strOf (pt i))) := by
  have hzl : i < pats.length := hi
  rw [cell_of_row w kb i _ _ _ h, List.getElem?_toArray, List.getElem?_map]
  unfold pt
  rw [List.getD_eq_getElem?_getD, List.getElem?_eq_getElem hzl]
  rfl
def ZRel (w8 : World) (x y : List Nat) (N : Nat) (v ix : Value) (wr : World) : Prop := ∃ n : Nat, ix = .int .i64 n ∧ n ≤ N + 1 ∧ Hid (Own wr w8.heap.size 3 1 v (zM x y n).length (spz (zM x y n))) ∧ Hid (Old w8 wr)
def WRel (w9 : World) (b : List Nd) (t x : List Nat) (N : Nat) (v ix : Value) (wr : World) : Prop := ∃ n : Nat, ix = .int .i64 n ∧ n ≤ N + 1 ∧ Hid (Own wr w9.heap.size 3 1 v (wM b t x n).length (spz (wM b t x n))) ∧ Hid (Old w9 wr)
def wJ (b : List Nd) (t x : List Nat) (n j : Nat) : List Nat := if anyM b t (x.take j) n = true then wM b t x n ++ [n] else wM b t x n
def VRel (w9 : World) (b : List Nd) (t x : List Nat) (n : Nat) (v ix : Value) (wr : World) : Prop := ∃ j : Nat, ix = .int .i64 j ∧ j ≤ x.length ∧ Hid (Own wr w9.heap.size 3 1 v (wJ b t x n j).length (spz (wJ b t x n j))) ∧ Hid (Old w9 wr)
theorem wJ_len (b : List Nd) (t x : List Nat) (n j : Nat) : (wJ b t x n j).length ≤ n + 1 := by
  unfold wJ
  have := wM_len b t x n
  split
  · simp; omega
  · omega
theorem wJ_zero (b : List Nd) (t x : List Nat) (n : Nat) : wJ b t x n 0 = wM b t x n := by unfold wJ anyM; simp
theorem wJ_end (b : List Nd) (t x : List Nat) (n : Nat) : wJ b t x n x.length = wM b t x (n + 1) := by unfold wJ; rw [List.take_length, wM_succ]
theorem wJ_no {b : List Nd} {t x : List Nat} {n j : Nat} (hj : j < x.length) (hd : decide (n ∈ endsM b t (x.getD j 0)) = false) : wJ b t x n (j + 1) = wJ b t x n j := by
  unfold wJ; rw [anyM_take b t x n j hj, hd, Bool.or_false]
theorem wJ_yes {b : List Nd} {t x : List Nat} {n j : Nat} (hj : j < x.length) (hd : decide (n ∈ endsM b t (x.getD j 0)) = true) : wJ b t x n (j + 1) = if decide (n ∈ wJ b t x n j) = true then wJ b t x n j else wJ b t x n j ++ [n] := by
  unfold wJ
  rw [anyM_take b t x n j hj, hd, Bool.or_true, if_pos rfl]
  by_cases h : anyM b t (x.take j) n = true
  · rw [if_pos h, if_pos (by simp)]
  · rw [if_neg h, if_neg (by rw [decide_eq_true_iff]; exact wM_lt b t x n)]
def AI (w : World) (i k n : Nat) (v1 v2 : Int) (s0 : Value) (listed : Array Bool) (a : Act) (ww : World) : Prop :=
  ∃ (b0 b1 b2 b3 b4 b5 b6 b7 b8 b9 b10 b11 : Bool) (kb1 kb2 : Nat) (nov : Value), listed = #[b0, b1, b2, b3, b4, b5, b6, b7, b8, b9, b10, b11] ∧
    a = { tmps := #[.int .i64 v1, .int .i64 v2, s0, undef, undef, undef, .bool false, cond b10 (.string (strOf (pt i))) (undef), cond b11 (.string (strOf (pt k))) (undef), undef, undef, undef, undef, undef, undef, undef, undef, undef, undef, undef, undef, undef, undef, undef, undef, undef, undef, undef, undef, undef, .bool true, .bool false, s0, .int .i64 (n : Int), .bool false, cond b0 (.slice (some ⟨kb1, 0, none⟩) 7 7) (undef), cond b1 (.int .i64 v1) (undef), cond b2 (.int .i64 (i : Int)) (undef), cond b3 (.pointer (some ⟨kb1, i, none⟩)) (undef), cond b4 (.string (strOf (pt i))) (undef), cond b5 (.slice (some ⟨kb2, 0, none⟩) 7 7) (undef), cond b6 (.int .i64 v2) (undef), cond b7 (.int .i64 (k : Int)) (undef), cond b8 (.pointer (some ⟨kb2, k, none⟩)) (undef), cond b9 (.string (strOf (pt k))) (undef), undef, undef, undef, undef, undef, undef, undef, undef, undef, undef, undef, undef, undef, undef, undef, undef, undef, undef, undef, undef, undef, undef, undef, undef, undef, undef, undef, undef, undef, undef, undef, undef, undef, undef, undef, undef, undef, undef, undef, undef, undef, undef, undef, undef, undef, undef, undef, undef, undef, undef, undef, undef, undef, undef, undef, undef, undef, undef, undef, undef, undef, undef, undef, undef, undef, undef, undef, undef, undef, undef, undef, undef, undef, undef, undef, undef, undef, undef, undef, undef, undef, undef, undef, undef, undef, undef, undef, undef, undef, undef, undef, undef, undef, undef, undef, undef, undef, undef, undef, undef, undef, undef, undef, undef, undef, undef, undef, undef, undef, undef, undef, undef, undef, undef, undef, undef, undef, undef, undef, undef, undef, undef, undef, undef, undef, undef, undef, undef, undef, undef, undef, undef, undef, undef], defers := [] } ∧ RA w kb1 kb2 b0 b5 ww
set_option maxHeartbeats 16000000 in
set_option maxRecDepth 100000 in
theorem algebra_any (v1 v2 : Int) (At : Option Addr) (ct : Nat) (b : List UInt8) (w : World) (hrt : Rs w At (bytes b)) (hmt : b.length ≤ maxLen) :
    Calls Try.prog 5 #[.int .i64 v1, .int .i64 v2, .slice At b.length ct] w (ValOld (.bool true) w) := by
  have HRT := Lib.hid (show Rs w At (txt (txtOf b)) by rw [txtOf_txt]; exact hrt)
  have hlb : b.length = (txtOf b).length := by simp [txtOf]
  have HLT := Lib.hid (txtOf_lt b)
  rw [hlb] at hmt ⊢
  unfold maxLen at hmt
  generalize txtOf b = t at *
  clear hrt hlb
  have HS := Lib.hid (saneC w)
  by_cases h12 : 12 < t.length
  · have i1 : (12 : Int) < (t.length : Int) := by omega
    clear h12
    go_enter Try.func5, Try.ntmps5
    go_wp2_with fail
    refine (HS.out).mono ?_; rintro e w1 ⟨rfl, hd1⟩
    go_wp2_with fail
    go_ret
    exact ⟨rfl, hd1⟩
  have i0 : decide ((12 : Int) < (t.length : Int)) = false := decide_eq_false (by omega)
  obtain ⟨i, hi⟩ : ∃ i : Nat, v1 % 7 = (i : Int) := ⟨(v1 % 7).toNat, by omega⟩
  obtain ⟨k, hk⟩ : ∃ k : Nat, v2 % 7 = (k : Int) := ⟨(v2 % 7).toNat, by omega⟩
  have hi7 : i < 7 := by omega
  have hk7 : k < 7 := by omega
  have HM1 := Lib.hid (fun w' : World => mod_any v1 7 (by decide) (by decide) w')
  have HM2 := Lib.hid (fun w' : World => mod_any v2 7 (by decide) (by decide) w')
  rw [hi] at HM1
  rw [hk] at HM2
  have i1 : (0 : Int) ≤ (i : Int) := by omega
  have i2 : (i : Int) < 7 := by omega
  have k1 : (0 : Int) ≤ (k : Int) := by omega
  have k2 : (k : Int) < 7 := by omega
  clear hi hk
  go_enter Try.func5, Try.ntmps5
  go_wp2_with fail
  refine (HS.out).mono ?_; rintro e w1 ⟨rfl, hd1⟩
  go_upto_region 5 with fail
  have HD1 := Lib.hid hd1
  clear hd1 HS
  have hF0 : RA w1 0 0 false false w1.drew := ⟨(Old.refl w1).drew, (fun e => by cases e), (fun e => by cases e)⟩
  refine wp_region_steps2 (by kernel_rfl) (by kernel_rfl) (AI w1 i k t.length v1 v2 (.slice At t.length ct)) ?_ ?_ ⟨?_, ?_, ?_, ?_, ?_, ?_, ?_, ?_, ?_, ?_, ?_, ?_, trivial⟩
  · exact ⟨false, false, false, false, false, false, false, false, false, false, false, false, 0, 0, undef, rfl, rfl, hF0⟩
  · rintro a w1 ⟨b0, b1, b2, b3, b4, b5, b6, b7, b8, b9, b10, b11, kb1, kb2, nov, hl, rfl, hF⟩
    have hl' := congrArg Array.toList hl
    simp at hl'
    obtain ⟨rfl, rfl, rfl, rfl, rfl, rfl, rfl, rfl, rfl, rfl, rfl, rfl⟩ := hl'
    clear hl
    have HF := Lib.hid (HD1.out.up hF.old)
    have HRT1 := Lib.hid (HRT.out.up HF.out)
    clear hF hF0 HM1 HM2 HD1 HRT
    have oi : OkS (pt i) 10 := pt_ok i hi7
    have ok : OkS (pt k) 10 := pt_ok k hk7
    have o3 : OkS (sAlt i k) 21 := (oi.app (b := [124]) (m := 1) (by unfold OkS; decide)).app ok
    have o4 : OkS (sCat i k) 24 := (((OkS.app (a := [40]) (n := 1) (by unfold OkS; decide) oi).app (b := [41, 40]) (m := 2) (by unfold OkS; decide)).app ok).app (b := [41]) (m := 1) (by unfold OkS; decide)
    have o5 : OkS (sPlus i) 13 := (OkS.app (a := [40]) (n := 1) (by unfold OkS; decide) oi).app (b := [41, 43]) (m := 2) (by unfold OkS; decide)
    have o6 : OkS (sTwice i) 25 := (((OkS.app (a := [40]) (n := 1) (by unfold OkS; decide) oi).app (b := [41, 40]) (m := 2) (by unfold OkS; decide)).app oi).app (b := [41, 42]) (m := 2) (by unfold OkS; decide)
    have l1 := oi.2
    have l2 := ok.2
    have A1 := fun W => strOf_add (pt i) [124] W (by omega) (by decide)
    have A2 : ∀ W, (Op.stringOp .add (strOf (pt i ++ [124])) (strOf (pt k))).run Try.prog W = .ok (.string (strOf (sAlt i k))) W := fun W => strOf_add (pt i ++ [124]) (pt k) W (by simp; omega) (by omega)
    have B1 := fun W => strOf_add [40] (pt i) W (by decide) (by omega)
    have B2 := fun W => strOf_add ([40] ++ pt i) [41, 40] W (by simp; omega) (by decide)
    have B3 := fun W => strOf_add ([40] ++ pt i ++ [41, 40]) (pt k) W (by simp; omega) (by omega)
    have B4 : ∀ W, (Op.stringOp .add (strOf ([40] ++ pt i ++ [41, 40] ++ pt k)) (strOf [41])).run Try.prog W = .ok (.string (strOf (sCat i k))) W := fun W => strOf_add ([40] ++ pt i ++ [41, 40] ++ pt k) [41] W (by simp; omega) (by decide)
    have C2 : ∀ W, (Op.stringOp .add (strOf ([40] ++ pt i)) (strOf [41, 43])).run Try.prog W = .ok (.string (strOf (sPlus i))) W := fun W => strOf_add ([40] ++ pt i) [41, 43] W (by simp; omega) (by decide)
    have D3 := fun W => strOf_add ([40] ++ pt i ++ [41, 40]) (pt i) W (by simp; omega) (by omega)
    have D4 : ∀ W, (Op.stringOp .add (strOf ([40] ++ pt i ++ [41, 40] ++ pt i)) (strOf [41, 42])).run Try.prog W = .ok (.string (strOf (sTwice i))) W := fun W => strOf_add ([40] ++ pt i ++ [41, 40] ++ pt i) [41, 42] W (by simp; omega) (by decide)
    rw [show strOf [124] = ⟨#[124]⟩ from rfl] at A1
    rw [show strOf [40] = ⟨#[40]⟩ from rfl] at B1
    rw [show strOf [41, 40] = ⟨#[41, 40]⟩ from rfl] at B2
    rw [show strOf [41] = ⟨#[41]⟩ from rfl] at B4
    rw [show strOf [41, 43] = ⟨#[41, 43]⟩ from rfl] at C2
    rw [show strOf [41, 42] = ⟨#[41, 42]⟩ from rfl] at D4
    have P1 := Lib.hid (fun w' => parse_p oi (by decide) w')
    have P2 := Lib.hid (fun w' => parse_p ok (by decide) w')
    have P3 := Lib.hid (fun w' => parse_p o3 (by decide) w')
    have P4 := Lib.hid (fun w' => parse_p o4 (by decide) w')
    have P5 := Lib.hid (fun w' => parse_p o5 (by decide) w')
    have P6 := Lib.hid (fun w' => parse_p o6 (by decide) w')
    generalize strOf (sAlt i k) = s3 at *
    generalize strOf (sCat i k) = s4 at *
    generalize strOf (sPlus i) = s5 at *
    generalize strOf (sTwice i) = s6 at *
    generalize strOf ([40] ++ pt i ++ [41, 40] ++ pt i) = s7 at *
    generalize strOf ([40] ++ pt i ++ [41, 40] ++ pt k) = s8 at *
    generalize strOf ([40] ++ pt i ++ [41, 40]) = s9 at *
    generalize strOf ([40] ++ pt i) = s10 at *
    generalize strOf (pt i ++ [124]) = s11 at *
    generalize strOf (pt i) = s1 at *
    generalize strOf (pt k) = s2 at *
    clear l1 l2
    go_wp2_with fail
    refine (P1.out _).mono ?_; rintro e W1 ⟨X1, c1, _, rfl, ht, hd⟩
    have R1 := Lib.hid ht
    have G1 := Lib.hid hd
    clear hd ht P1
    go_wp2_with fail
    refine (P2.out _).mono ?_; rintro e W2 ⟨X2, c2, _, rfl, ht, hd⟩
    have R2 := Lib.hid ht
    have G2 := Lib.hid hd
    clear hd ht P2
    go_wp2_with fail
    refine (P3.out _).mono ?_; rintro e W3 ⟨X3, c3, _, rfl, ht, hd⟩
    have R3 := Lib.hid ht
    have G3 := Lib.hid hd
    clear hd ht P3
    clear A1 A2
    go_wp2_with fail
    refine (P4.out _).mono ?_; rintro e W4 ⟨X4, c4, _, rfl, ht, hd⟩
    have R4 := Lib.hid ht
    have G4 := Lib.hid hd
    clear hd ht P4
    clear B3 B4
    go_wp2_with fail
    refine (P5.out _).mono ?_; rintro e W5 ⟨X5, c5, _, rfl, ht, hd⟩
    have R5 := Lib.hid ht
    have G5 := Lib.hid hd
    clear hd ht P5
    clear C2
    go_wp2_with fail
    refine (P6.out _).mono ?_; rintro e W6 ⟨X6, c6, _, rfl, ht, hd⟩
    have R6 := Lib.hid ht
    have G6 := Lib.hid hd
    clear hd ht P6
    clear B1 B2 D3 D4
    have ht12 : t.length ≤ 12 := by omega
    have T6 := Lib.hid (((((HRT1.out.up G1.out).up G2.out).up G3.out).up G4.out).up (G5.out.up G6.out))
    have Q1 := Lib.hid (endsAll (c := c1) (ct := ct) oi (((((R1.out.up G2.out).up G3.out).up G4.out).up G5.out).up G6.out) T6.out ht12 HLT.out)
    have Q2 := Lib.hid (endsAll (c := c2) (ct := ct) ok ((((R2.out.up G3.out).up G4.out).up G5.out).up G6.out) T6.out ht12 HLT.out)
    have Q3 := Lib.hid (endsAll (c := c3) (ct := ct) o3 (((R3.out.up G4.out).up G5.out).up G6.out) T6.out ht12 HLT.out)
    have Q4 := Lib.hid (endsAll (c := c4) (ct := ct) o4 ((R4.out.up G5.out).up G6.out) T6.out ht12 HLT.out)
    have Q5 := Lib.hid (endsAll (c := c5) (ct := ct) o5 (R5.out.up G6.out) T6.out ht12 HLT.out)
    have Q6 := Lib.hid (endsAll (c := c6) (ct := ct) o6 R6.out T6.out ht12 HLT.out)
    have HB := Lib.hid (((((HF.out.up G1.out).up G2.out).up G3.out).up G4.out).up (G5.out.up G6.out))
    have LA := Lib.hid (fun a ha => alg_alt hi7 hk7 t a ha)
    have LC := Lib.hid (fun a ha => alg_cat hi7 hk7 t a ha)
    have LP := Lib.hid (fun a ha => alg_plus hi7 t a ha)
    unfold EndsAll at Q1 Q2 Q3 Q4 Q5 Q6
    generalize rp (pt i) = n1 at *
    generalize rp (pt k) = n2 at *
    generalize rp (sAlt i k) = n3 at *
    generalize rp (sCat i k) = n4 at *
    generalize rp (sPlus i) = n5 at *
    generalize rp (sTwice i) = n6 at *
    clear R1 R2 R3 R4 R5 R6 G1 G2 G3 G4 G5 G6 HF HRT1 oi ok o3 o4 o5 o6 T6 HLT
    go_wp2_with fail
    go_loopw [21] (fun s21 wr => ∃ a : Nat, s21 = .int .i64 a ∧ a ≤ t.length + 1 ∧ Hid (Old W6 wr)) (fun s21 _ => t.length + 1 - (intOf s21).toNat)
    case atStart => exact ⟨0, rfl, Nat.zero_le _, Lib.hid (Old.refl _)⟩
    case round =>
      obtain ⟨a, rfl, ha, HO⟩ := hrel
      by_cases hal : a ≤ t.length
      · have ia : (a : Int) ≤ (t.length : Int) := by omega
        have la := Lib.hid (LA.out a hal)
        have lc := Lib.hid (LC.out a hal)
        have lp := Lib.hid (LP.out a hal)
        have E1 := Lib.hid (fun ww h => Q1.out ww h a)
        have E2 := Lib.hid (fun ww h => Q2.out ww h a)
        have E3 := Lib.hid (fun ww h => Q3.out ww h a)
        have E4 := Lib.hid (fun ww h => Q4.out ww h a)
        have E5 := Lib.hid (fun ww h => Q5.out ww h a)
        have E6 := Lib.hid (fun ww h => Q6.out ww h a)
        have len1 := endsM_len n1 t a
        have len2 := endsM_len n2 t a
        have E5L := Lib.hid (endsM_len n6 t a)
        generalize endsM n1 t a = x at *
        generalize endsM n2 t a = y at *
        generalize endsM n3 t a = z3 at *
        generalize endsM n4 t a = z4 at *
        generalize endsM n5 t a = z5 at *
        generalize endsM n6 t a = z6 at *
        go_wp2_with fail
        refine (E1.out _ HO.out).mono ?_; rintro e w7 ⟨v7, rfl, ho7, hd7⟩
        obtain ⟨A7, c7, rfl, ht7, _, _⟩ := ho7.shape
        have RX := Lib.hid ht7.rs
        have HO7 := Lib.hid (HO.out.up hd7)
        clear ho7 ht7 hd7
        go_wp2_with fail
        refine (E2.out _ HO7.out).mono ?_; rintro e w8 ⟨v8, rfl, ho8, hd8⟩
        obtain ⟨A8, c8, rfl, ht8, _, _⟩ := ho8.shape
        have RY := Lib.hid ht8.rs
        have RX8 := Lib.hid (RX.out.up hd8)
        have HO8 := Lib.hid (HO7.out.up hd8)
        clear ho8 ht8 hd8 RX HO7
        go_wp2_with fail
        go_loopw [24, 25] (fun s24 s25 wr => ZRel w8 x y t.length s24 s25 wr) (fun _ s25 _ => t.length + 1 - (intOf s25).toNat)
        case atStart => exact ⟨0, rfl, Nat.zero_le _, Own.nil_ _ _ _ _, Old.refl _⟩
        case round =>
          obtain ⟨n, rfl, hn, HZ, HD⟩ := hrel
          have zl := zM_len x y n
          by_cases hnl : n ≤ t.length
          · have inn : (n : Int) ≤ (t.length : Int) := by omega
            have HX := Lib.hid (hasIn A7 c7 x n wr (RX8.out.up HD.out) (by omega))
            have HY := Lib.hid (hasIn A8 c8 y n wr (RY.out.up HD.out) (by omega))
            have hs := Lib.hid (zM_succ x y n)
            have HB8 : Hid (w8.heap.size ≤ wr.heap.size) := Lib.hid HD.out.size
            generalize decide (n ∈ x) = bx at *
            generalize decide (n ∈ y) = by_ at *
            generalize zM x y n = zs at *
            cases bx with
            | true =>
              have hs2 : Hid (zM x y (n + 1) = zs ++ [n]) := Lib.hid (by rw [hs.out]; rfl)
              clear hs HY
              go_wp2_with fail
              refine (HX.out).mono ?_; rintro e wr ⟨rfl, rfl⟩
              go_wp2_with (at_builtin; refine wpList_push (wr := wr) rfl _ _ 22 rfl _ 3 (.int .i64 0) 1 8 Try.underlying22 info_i64v rfl (by decide) (by decide) _ _ _ rfl HZ.out 1 1 [.int .i64 (n : Int)] rfl rfl rfl rfl ?pn1 HB8.out ?_)
              case pn1 => omega
              intro v' w9 ho hg hd
              have HZ' : Hid (Own w9 w8.heap.size 3 1 v' (zM x y (n + 1)).length (spz (zM x y (n + 1)))) := Lib.hid (by rw [hs2.out, spz_snoc, List.length_append]; exact ho)
              have HD' := Lib.hid (hd w8 HD.out (Nat.le_refl _))
              clear ho hg hd HZ HD
              go_wp2_with fail
              go_roundw
              case rel => exact ⟨n + 1, by go_num, by omega, HZ', HD'⟩
              case measure => simp [intOf]; omega
            | false =>
              cases by_ with
              | true =>
                have hs2 : Hid (zM x y (n + 1) = zs ++ [n]) := Lib.hid (by rw [hs.out]; rfl)
                clear hs
                go_wp2_with fail
                refine (HX.out).mono ?_; rintro e wr ⟨rfl, rfl⟩
                go_wp2_with fail
                refine (HY.out).mono ?_; rintro e wr ⟨rfl, rfl⟩
                go_wp2_with (at_builtin; refine wpList_push (wr := wr) rfl _ _ 22 rfl _ 3 (.int .i64 0) 1 8 Try.underlying22 info_i64v rfl (by decide) (by decide) _ _ _ rfl HZ.out 1 1 [.int .i64 (n : Int)] rfl rfl rfl rfl ?pn2 HB8.out ?_)
                case pn2 => omega
                intro v' w9 ho hg hd
                have HZ' : Hid (Own w9 w8.heap.size 3 1 v' (zM x y (n + 1)).length (spz (zM x y (n + 1)))) := Lib.hid (by rw [hs2.out, spz_snoc, List.length_append]; exact ho)
                have HD' := Lib.hid (hd w8 HD.out (Nat.le_refl _))
                clear ho hg hd HZ HD
                go_wp2_with fail
                go_roundw
                case rel => exact ⟨n + 1, by go_num, by omega, HZ', HD'⟩
                case measure => simp [intOf]; omega
              | false =>
                have hs2 : Hid (zM x y (n + 1) = zs) := Lib.hid (by rw [hs.out]; rfl)
                clear hs
                go_wp2_with fail
                refine (HX.out).mono ?_; rintro e wr ⟨rfl, rfl⟩
                go_wp2_with fail
                refine (HY.out).mono ?_; rintro e wr ⟨rfl, rfl⟩
                go_wp2_with fail
                go_roundw
                case rel => exact ⟨n + 1, by go_num, by omega, Lib.hid (by rw [hs2.out]; exact HZ.out), HD⟩
                case measure => simp [intOf]; omega
          · obtain rfl : n = t.length + 1 := by omega
            have inn : ¬ ((t.length + 1 : Nat) : Int) ≤ (t.length : Int) := by omega
            have hz3 := la.out
            obtain ⟨A9, c9, rfl, ht9, _, _⟩ := HZ.out.shape
            have HZ9 : Hid (Rs wr A9 (spz z3)) := Lib.hid (by rw [hz3]; exact ht9.rs)
            have zl3 : z3.length ≤ t.length + 1 := by rw [hz3]; exact zl
            rw [← hz3]
            have RX9 := Lib.hid (RX8.out.up HD.out)
            have HO9 := Lib.hid (HO8.out.up HD.out)
            clear HZ ht9 hz3 la zl hn RX8 RY HO8 HD
            obtain ⟨w9, rfl⟩ : ∃ w9, w9 = wr := ⟨_, rfl⟩
            go_wp2_with fail
            go_loopw [26, 27] (fun s26 s27 wr => WRel w9 n2 t x t.length s26 s27 wr) (fun _ s27 _ => t.length + 1 - (intOf s27).toNat)
            case atStart => exact ⟨0, rfl, Nat.zero_le _, Own.nil_ _ _ _ _, Old.refl _⟩
            case round =>
              obtain ⟨n, rfl, hn, HW, HD⟩ := hrel
              have wl := wM_len n2 t x n
              by_cases hnl : n ≤ t.length
              · have inn' : (n : Int) ≤ (t.length : Int) := by omega
                have HJ0 : Hid (Own wr w9.heap.size 3 1 u26 (wJ n2 t x n 0).length (spz (wJ n2 t x n 0))) := Lib.hid (by rw [wJ_zero]; exact HW.out)
                clear HW
                go_wp2_with fail
                go_loopw [26, 130] (fun s26 s130 wr => VRel w9 n2 t x n s26 s130 wr) (fun _ s130 _ => x.length - (intOf s130).toNat)
                case atStart => exact ⟨0, rfl, Nat.zero_le _, HJ0, HD⟩
                case round =>
                  clear HJ0 HD
                  obtain ⟨j, rfl, hj, HV, HD⟩ := hrel
                  have jl := wJ_len n2 t x n j
                  by_cases hjx : j < x.length
                  · obtain ⟨b9, o9, rfl, _, hcl⟩ := (RX9.out.up HD.out).at_ (by rw [spz_length]; omega)
                    have q1 := hcl _ _ (spz_get x j hjx)
                    have hno : Hid (decide (n ∈ endsM n2 t (x.getD j 0)) = false → wJ n2 t x n (j + 1) = wJ n2 t x n j) := Lib.hid (fun h => wJ_no hjx h)
                    have hyes : Hid (decide (n ∈ endsM n2 t (x.getD j 0)) = true → wJ n2 t x n (j + 1) = if decide (n ∈ wJ n2 t x n j) = true then wJ n2 t x n j else wJ n2 t x n j ++ [n]) := Lib.hid (fun h => wJ_yes hjx h)
                    have ij : (0 : Int) ≤ (j : Int) := by omega
                    have ij2 : (j : Int) < (x.length : Int) := by omega
                    clear hcl
                    generalize x.getD j 0 = mm at *
                    have el := endsM_len n2 t mm
                    have QE := Lib.hid (Q2.out wr (HO9.out.up HD.out) mm)
                    generalize endsM n2 t mm = em at *
                    go_wp2_with fail
                    refine (QE.out).mono ?_; rintro e w10 ⟨v10, rfl, ho10, hd10⟩
                    obtain ⟨A10, c10, rfl, ht10, _, _⟩ := ho10.shape
                    have HI := Lib.hid (hasIn A10 c10 em n w10 ht10.rs (by omega))
                    have HV10 := Lib.hid (HV.out.up hd10)
                    have HD10 := Lib.hid (HD.out.up hd10)
                    clear ho10 ht10 hd10 HV HD QE
                    generalize decide (n ∈ em) = dd at *
                    cases dd with
                    | false =>
                      have hs2 := Lib.hid (hno.out rfl)
                      clear hno hyes
                      go_wp2_with fail
                      refine (HI.out).mono ?_; rintro e w10 ⟨rfl, rfl⟩
                      go_wp2_with fail
                      go_roundw
                      case rel => exact ⟨j + 1, by go_num, by omega, Lib.hid (by rw [hs2.out]; exact HV10.out), HD10⟩
                      case measure => simp [intOf]; omega
                    | true =>
                      have hs1 := Lib.hid (hyes.out rfl)
                      clear hno hyes
                      obtain ⟨A26, c26, rfl, ht26, _, _⟩ := HV10.out.shape
                      have HI2 := Lib.hid (hasIn A26 c26 (wJ n2 t x n j) n w10 ht26.rs (by omega))
                      have HB10 : Hid (w9.heap.size ≤ w10.heap.size) := Lib.hid HD10.out.size
                      clear ht26
                      generalize decide (n ∈ wJ n2 t x n j) = d2 at *
                      generalize wJ n2 t x n j = L at *
                      cases d2 with
                      | true =>
                        have hs2 : Hid (wJ n2 t x n (j + 1) = L) := Lib.hid (by rw [hs1.out]; rfl)
                        clear hs1
                        go_wp2_with fail
                        refine (HI.out).mono ?_; rintro e w10 ⟨rfl, rfl⟩
                        go_wp2_with fail
                        refine (HI2.out).mono ?_; rintro e w10 ⟨rfl, rfl⟩
                        go_wp2_with fail
                        go_roundw
                        case rel => exact ⟨j + 1, by go_num, by omega, Lib.hid (by rw [hs2.out]; exact HV10.out), HD10⟩
                        case measure => simp [intOf]; omega
                      | false =>
                        have hs2 : Hid (wJ n2 t x n (j + 1) = L ++ [n]) := Lib.hid (by rw [hs1.out]; rfl)
                        clear hs1
                        go_wp2_with fail
                        refine (HI.out).mono ?_; rintro e w10 ⟨rfl, rfl⟩
                        go_wp2_with fail
                        refine (HI2.out).mono ?_; rintro e w10 ⟨rfl, rfl⟩
                        go_wp2_with (at_builtin; refine wpList_push (wr := w10) rfl _ _ 22 rfl _ 3 (.int .i64 0) 1 8 Try.underlying22 info_i64v rfl (by decide) (by decide) _ _ _ rfl HV10.out 1 1 [.int .i64 (n : Int)] rfl rfl rfl rfl ?pn3 HB10.out ?_)
                        case pn3 => omega
                        intro v' w11 ho hg hd
                        have HZ' : Hid (Own w11 w9.heap.size 3 1 v' (wJ n2 t x n (j + 1)).length (spz (wJ n2 t x n (j + 1)))) := Lib.hid (by rw [hs2.out, spz_snoc, List.length_append]; exact ho)
                        have HD' := Lib.hid (hd w9 HD10.out (Nat.le_refl _))
                        clear ho hg hd HV10 HD10
                        go_wp2_with fail
                        go_roundw
                        case rel => exact ⟨j + 1, by go_num, by omega, HZ', HD'⟩
                        case measure => simp [intOf]; omega
                  · obtain rfl : j = x.length := by omega
                    have HW' : Hid (Own wr w9.heap.size 3 1 u26 (wM n2 t x (n + 1)).length (spz (wM n2 t x (n + 1)))) := Lib.hid (by rw [← wJ_end]; exact HV.out)
                    clear HV
                    go_wp2_with fail
                    go_roundw
                    case rel => exact ⟨n + 1, by go_num, by omega, HW', HD⟩
                    case measure => simp [intOf]; omega
              · obtain rfl : n = t.length + 1 := by omega
                have inn' : ¬ ((t.length + 1 : Nat) : Int) ≤ (t.length : Int) := by omega
                have hz4 := lc.out
                obtain ⟨A26, c26, rfl, ht26, _, _⟩ := HW.out.shape
                have HZ4 : Hid (Rs wr A26 (spz z4)) := Lib.hid (by rw [hz4]; exact ht26.rs)
                have zl4 : z4.length ≤ t.length + 1 := by rw [hz4]; exact wl
                rw [← hz4]
                have HZ3 := Lib.hid (HZ9.out.up HD.out)
                have HOf := Lib.hid (HO9.out.up HD.out)
                have hzl := lp.out
                subst hzl
                clear HW ht26 hz4 lc wl hn RX9 HD HZ9 HO9 lp
                go_wp2_with fail
                refine (E3.out _ HOf.out).mono ?_; rintro e w5 ⟨v5, rfl, ho, hd⟩
                obtain ⟨A5', c5', rfl, hts, _, _⟩ := ho.shape
                have hsm := sameC A5' c5' z3 A9 c9 z3 w5 hts.rs (HZ3.out.up hd) (by unfold maxLen; omega) (by unfold maxLen; omega)
                rw [decide_eq_true (rfl : z3 = z3)] at hsm
                have HSM := Lib.hid hsm
                have HOX := Lib.hid (HOf.out.up hd)
                have HKX := Lib.hid (HZ4.out.up hd)
                clear ho hd hts hsm
                go_wp2_with fail
                refine (HSM.out).mono ?_; rintro e w6 ⟨rfl, q6, rfl⟩
                have HO3 := Lib.hid (HOX.out.drewN q6)
                have HZ4b := Lib.hid (HKX.out.drewN q6)
                generalize w5.drewN q6 = w31 at *
                clear HSM HOX HKX
                go_wp2_with fail
                refine (E4.out _ HO3.out).mono ?_; rintro e w5 ⟨v5, rfl, ho, hd⟩
                obtain ⟨A5', c5', rfl, hts, _, _⟩ := ho.shape
                have hsm := sameC A5' c5' z4 A26 c26 z4 w5 hts.rs (HZ4b.out.up hd) (by unfold maxLen; omega) (by unfold maxLen; omega)
                rw [decide_eq_true (rfl : z4 = z4)] at hsm
                have HSM := Lib.hid hsm
                have HOX := Lib.hid (HO3.out.up hd)
                have HKX := Lib.hid (HZ4b.out.up hd)
                clear ho hd hts hsm
                go_wp2_with fail
                refine (HSM.out).mono ?_; rintro e w6 ⟨rfl, q6, rfl⟩
                have HO4 := Lib.hid (HOX.out.drewN q6)
                have HZ4c := Lib.hid (HKX.out.drewN q6)
                generalize w5.drewN q6 = w41 at *
                clear HSM HOX HKX
                go_wp2_with fail
                refine (E5.out _ HO4.out).mono ?_; rintro e w5 ⟨v5, rfl, ho, hd⟩
                obtain ⟨A51, c51, rfl, hts, _, _⟩ := ho.shape
                have R51 := Lib.hid hts.rs
                have HO5 := Lib.hid (HO4.out.up hd)
                clear ho hd hts
                go_wp2_with fail
                refine (E6.out _ HO5.out).mono ?_; rintro e w6 ⟨v6, rfl, ho, hd⟩
                obtain ⟨A61, c61, rfl, hts, _, _⟩ := ho.shape
                have hsm := sameC A51 c51 _ A61 c61 _ w6 (R51.out.up hd) hts.rs (by have := E5L.out; unfold maxLen; omega) (by have := E5L.out; unfold maxLen; omega)
                rw [decide_eq_true (rfl : z5 = z5)] at hsm
                have HSM := Lib.hid hsm
                have HO6 := Lib.hid (HO5.out.up hd)
                clear ho hd hts hsm
                go_wp2_with fail
                refine (HSM.out).mono ?_; rintro e w7 ⟨rfl, q7, rfl⟩
                have HO7 := Lib.hid (HO6.out.drewN q7)
                generalize w6.drewN q7 = w71 at *
                clear HSM HO6
                go_wp2_with fail
                go_roundw
                case rel => exact ⟨a + 1, by go_num, by omega, HO7⟩
                case measure => simp [intOf]; omega
      · have ia : ¬ (a : Int) ≤ (t.length : Int) := by omega
        go_wp2_with fail
        go_ret
        exact ⟨rfl, HB.out.up HO.out⟩
  · intro listed a w1 K hs hcl hf hall hI hK
    obtain ⟨b0, b1, b2, b3, b4, b5, b6, b7, b8, b9, b10, b11, kb1, kb2, nov, rfl, rfl, hF⟩ := hI
    have hf' : b0 = false := hf
    subst hf'
    have hb2 : b2 = false := by
      cases b2
      · rfl
      · exact absurd (show false = true from hcl 2 _ rfl rfl ⟨0, .chain⟩ (by first | exact .head _ | simp) rfl) (by decide)
    subst hb2
    have hb3 : b3 = false := by
      cases b3
      · rfl
      · exact absurd (show false = true from hcl 3 _ rfl rfl ⟨0, .data⟩ (by first | exact .head _ | simp) rfl) (by decide)
    subst hb3
    have hb10 : b10 = false := by
      cases b10
      · rfl
      · exact absurd (show false = true from hcl 10 _ rfl rfl ⟨0, .phase⟩ (by first | exact .head _ | simp) rfl) (by decide)
    subst hb10
    have hb11 : b11 = false := by
      cases b11
      · rfl
      · exact absurd (show false = true from hcl 11 _ rfl rfl ⟨0, .phase⟩ (by first | exact .head _ | simp) rfl) (by decide)
    subst hb11
    have hb5 : b5 = false := by
      cases b5
      · rfl
      · exact absurd (show false = true from hcl 5 _ rfl rfl ⟨2, .chain⟩ (by first | exact .head _ | simp) rfl) (by decide)
    subst hb5
    have hb4 : b4 = false := by
      cases b4
      · rfl
      · exact absurd (show false = true from hcl 4 _ rfl rfl ⟨3, .data⟩ (by first | exact .head _ | simp) rfl) (by decide)
    subst hb4
    have hb7 : b7 = false := by
      cases b7
      · rfl
      · exact absurd (show false = true from hcl 7 _ rfl rfl ⟨5, .chain⟩ (by first | exact .head _ | simp) rfl) (by decide)
    subst hb7
    have hb8 : b8 = false := by
      cases b8
      · rfl
      · exact absurd (show false = true from hcl 8 _ rfl rfl ⟨5, .data⟩ (by first | exact .head _ | simp) rfl) (by decide)
    subst hb8
    have hb9 : b9 = false := by
      cases b9
      · rfl
      · exact absurd (show false = true from hcl 9 _ rfl rfl ⟨8, .data⟩ (by first | exact .head _ | simp) rfl) (by decide)
    subst hb9
    clear hall hcl hs hf
    go_simp
    refine (patternsC _).mono ?_
    rintro e w2 ⟨rfl, rfl⟩
    exact hK _ _ ⟨true, b1, false, false, false, false, b6, false, false, false, false, false, w1.heap.size, kb2, nov, rfl, rfl, hF.one⟩
  · intro listed a w1 K hs hcl hf hall hI hK
    obtain ⟨b0, b1, b2, b3, b4, b5, b6, b7, b8, b9, b10, b11, kb1, kb2, nov, rfl, rfl, hF⟩ := hI
    have hf' : b1 = false := hf
    subst hf'
    have hb2 : b2 = false := by
      cases b2
      · rfl
      · exact absurd (show false = true from hcl 2 _ rfl rfl ⟨1, .data⟩ (by first | exact .head _ | simp) rfl) (by decide)
    subst hb2
    have hb10 : b10 = false := by
      cases b10
      · rfl
      · exact absurd (show false = true from hcl 10 _ rfl rfl ⟨1, .phase⟩ (by first | exact .head _ | simp) rfl) (by decide)
    subst hb10
    have hb11 : b11 = false := by
      cases b11
      · rfl
      · exact absurd (show false = true from hcl 11 _ rfl rfl ⟨1, .phase⟩ (by first | exact .head _ | simp) rfl) (by decide)
    subst hb11
    have hb3 : b3 = false := by
      cases b3
      · rfl
      · exact absurd (show false = true from hcl 3 _ rfl rfl ⟨2, .data⟩ (by first | exact .head _ | simp) rfl) (by decide)
    subst hb3
    have hb5 : b5 = false := by
      cases b5
      · rfl
      · exact absurd (show false = true from hcl 5 _ rfl rfl ⟨2, .chain⟩ (by first | exact .head _ | simp) rfl) (by decide)
    subst hb5
    have hb4 : b4 = false := by
      cases b4
      · rfl
      · exact absurd (show false = true from hcl 4 _ rfl rfl ⟨3, .data⟩ (by first | exact .head _ | simp) rfl) (by decide)
    subst hb4
    have hb7 : b7 = false := by
      cases b7
      · rfl
      · exact absurd (show false = true from hcl 7 _ rfl rfl ⟨5, .chain⟩ (by first | exact .head _ | simp) rfl) (by decide)
    subst hb7
    have hb8 : b8 = false := by
      cases b8
      · rfl
      · exact absurd (show false = true from hcl 8 _ rfl rfl ⟨5, .data⟩ (by first | exact .head _ | simp) rfl) (by decide)
    subst hb8
    have hb9 : b9 = false := by
      cases b9
      · rfl
      · exact absurd (show false = true from hcl 9 _ rfl rfl ⟨8, .data⟩ (by first | exact .head _ | simp) rfl) (by decide)
    subst hb9
    clear hall hcl hs hf
    go_simp
    exact hK _ _ ⟨b0, true, false, false, false, false, b6, false, false, false, false, false, kb1, kb2, nov, rfl, rfl, hF⟩
  · intro listed a w1 K hs hcl hf hall hI hK
    obtain ⟨b0, b1, b2, b3, b4, b5, b6, b7, b8, b9, b10, b11, kb1, kb2, nov, rfl, rfl, hF⟩ := hI
    have hf' : b2 = false := hf
    subst hf'
    have hq1 : b1 = true := hall ⟨1, .data⟩ (by first | exact .head _ | simp) rfl
    subst hq1
    have hq0 : b0 = true := hall ⟨0, .chain⟩ (by first | exact .head _ | simp) rfl
    subst hq0
    have hb3 : b3 = false := by
      cases b3
      · rfl
      · exact absurd (show false = true from hcl 3 _ rfl rfl ⟨2, .data⟩ (by first | exact .head _ | simp) rfl) (by decide)
    subst hb3
    have hb5 : b5 = false := by
      cases b5
      · rfl
      · exact absurd (show false = true from hcl 5 _ rfl rfl ⟨2, .chain⟩ (by first | exact .head _ | simp) rfl) (by decide)
    subst hb5
    have hb10 : b10 = false := by
      cases b10
      · rfl
      · exact absurd (show false = true from hcl 10 _ rfl rfl ⟨2, .phase⟩ (by first | exact .head _ | simp) rfl) (by decide)
    subst hb10
    have hb11 : b11 = false := by
      cases b11
      · rfl
      · exact absurd (show false = true from hcl 11 _ rfl rfl ⟨2, .phase⟩ (by first | exact .head _ | simp) rfl) (by decide)
    subst hb11
    have hb4 : b4 = false := by
      cases b4
      · rfl
      · exact absurd (show false = true from hcl 4 _ rfl rfl ⟨3, .data⟩ (by first | exact .head _ | simp) rfl) (by decide)
    subst hb4
    have hb7 : b7 = false := by
      cases b7
      · rfl
      · exact absurd (show false = true from hcl 7 _ rfl rfl ⟨5, .chain⟩ (by first | exact .head _ | simp) rfl) (by decide)
    subst hb7
    have hb8 : b8 = false := by
      cases b8
      · rfl
      · exact absurd (show false = true from hcl 8 _ rfl rfl ⟨5, .data⟩ (by first | exact .head _ | simp) rfl) (by decide)
    subst hb8
    have hb9 : b9 = false := by
      cases b9
      · rfl
      · exact absurd (show false = true from hcl 9 _ rfl rfl ⟨8, .data⟩ (by first | exact .head _ | simp) rfl) (by decide)
    subst hb9
    clear hall hcl hs hf
    go_simp
    refine (HM1.out _).mono ?_
    rintro e w2 ⟨rfl, rfl⟩
    exact hK _ _ ⟨true, true, true, false, false, false, b6, false, false, false, false, false, kb1, kb2, nov, rfl, rfl, hF⟩
  · intro listed a w1 K hs hcl hf hall hI hK
    obtain ⟨b0, b1, b2, b3, b4, b5, b6, b7, b8, b9, b10, b11, kb1, kb2, nov, rfl, rfl, hF⟩ := hI
    have hf' : b3 = false := hf
    subst hf'
    have hq0 : b0 = true := hall ⟨0, .data⟩ (by first | exact .head _ | simp) rfl
    subst hq0
    have hq2 : b2 = true := hall ⟨2, .data⟩ (by first | exact .head _ | simp) rfl
    subst hq2
    have hq1 : b1 = true := hcl 2 _ rfl rfl ⟨1, .data⟩ (by first | exact .head _ | simp) rfl
    subst hq1
    have hb4 : b4 = false := by
      cases b4
      · rfl
      · exact absurd (show false = true from hcl 4 _ rfl rfl ⟨3, .data⟩ (by first | exact .head _ | simp) rfl) (by decide)
    subst hb4
    have hb10 : b10 = false := by
      cases b10
      · rfl
      · exact absurd (show false = true from hcl 10 _ rfl rfl ⟨3, .phase⟩ (by first | exact .head _ | simp) rfl) (by decide)
    subst hb10
    have hb11 : b11 = false := by
      cases b11
      · rfl
      · exact absurd (show false = true from hcl 11 _ rfl rfl ⟨3, .phase⟩ (by first | exact .head _ | simp) rfl) (by decide)
    subst hb11
    clear hall hcl hs hf
    go_simp
    exact hK _ _ ⟨true, true, true, true, false, b5, b6, b7, b8, b9, false, false, kb1, kb2, nov, rfl, rfl, hF⟩
  · intro listed a w1 K hs hcl hf hall hI hK
    obtain ⟨b0, b1, b2, b3, b4, b5, b6, b7, b8, b9, b10, b11, kb1, kb2, nov, rfl, rfl, hF⟩ := hI
    have hf' : b4 = false := hf
    subst hf'
    have hq3 : b3 = true := hall ⟨3, .data⟩ (by first | exact .head _ | simp) rfl
    subst hq3
    have hq0 : b0 = true := hcl 3 _ rfl rfl ⟨0, .data⟩ (by first | exact .head _ | simp) rfl
    subst hq0
    have hq2 : b2 = true := hcl 3 _ rfl rfl ⟨2, .data⟩ (by first | exact .head _ | simp) rfl
    subst hq2
    have hq1 : b1 = true := hcl 2 _ rfl rfl ⟨1, .data⟩ (by first | exact .head _ | simp) rfl
    subst hq1
    have hb10 : b10 = false := by
      cases b10
      · rfl
      · exact absurd (show false = true from hcl 10 _ rfl rfl ⟨4, .data⟩ (by first | exact .head _ | simp) rfl) (by decide)
    subst hb10
    have hb11 : b11 = false := by
      cases b11
      · rfl
      · exact absurd (show false = true from hcl 11 _ rfl rfl ⟨4, .phase⟩ (by first | exact .head _ | simp) rfl) (by decide)
    subst hb11
    clear hall hcl hs hf
    have q1 := patObj_cell hi7 (hF.p1 rfl)
    go_simp
    exact hK _ _ ⟨true, true, true, true, true, b5, b6, b7, b8, b9, false, false, kb1, kb2, nov, rfl, rfl, hF⟩
  · intro listed a w1 K hs hcl hf hall hI hK
    obtain ⟨b0, b1, b2, b3, b4, b5, b6, b7, b8, b9, b10, b11, kb1, kb2, nov, rfl, rfl, hF⟩ := hI
    have hf' : b5 = false := hf
    subst hf'
    have hq2 : b2 = true := hall ⟨2, .chain⟩ (by first | exact .head _ | simp) rfl
    subst hq2
    have hq1 : b1 = true := hcl 2 _ rfl rfl ⟨1, .data⟩ (by first | exact .head _ | simp) rfl
    subst hq1
    have hq0 : b0 = true := hcl 2 _ rfl rfl ⟨0, .chain⟩ (by first | exact .head _ | simp) rfl
    subst hq0
    have hb7 : b7 = false := by
      cases b7
      · rfl
      · exact absurd (show false = true from hcl 7 _ rfl rfl ⟨5, .chain⟩ (by first | exact .head _ | simp) rfl) (by decide)
    subst hb7
    have hb8 : b8 = false := by
      cases b8
      · rfl
      · exact absurd (show false = true from hcl 8 _ rfl rfl ⟨5, .data⟩ (by first | exact .head _ | simp) rfl) (by decide)
    subst hb8
    have hb11 : b11 = false := by
      cases b11
      · rfl
      · exact absurd (show false = true from hcl 11 _ rfl rfl ⟨5, .phase⟩ (by first | exact .head _ | simp) rfl) (by decide)
    subst hb11
    have hb10 : b10 = false := by
      cases b10
      · rfl
      · exact absurd (show false = true from hcl 10 _ rfl rfl ⟨7, .chain⟩ (by first | exact .head _ | simp) rfl) (by decide)
    subst hb10
    have hb9 : b9 = false := by
      cases b9
      · rfl
      · exact absurd (show false = true from hcl 9 _ rfl rfl ⟨8, .data⟩ (by first | exact .head _ | simp) rfl) (by decide)
    subst hb9
    clear hall hcl hs hf
    go_simp
    refine (patternsC _).mono ?_
    rintro e w2 ⟨rfl, rfl⟩
    exact hK _ _ ⟨true, true, true, b3, b4, true, b6, false, false, false, false, false, kb1, w1.heap.size, nov, rfl, rfl, hF.two⟩
  · intro listed a w1 K hs hcl hf hall hI hK
    obtain ⟨b0, b1, b2, b3, b4, b5, b6, b7, b8, b9, b10, b11, kb1, kb2, nov, rfl, rfl, hF⟩ := hI
    have hf' : b6 = false := hf
    subst hf'
    have hb7 : b7 = false := by
      cases b7
      · rfl
      · exact absurd (show false = true from hcl 7 _ rfl rfl ⟨6, .data⟩ (by first | exact .head _ | simp) rfl) (by decide)
    subst hb7
    have hb11 : b11 = false := by
      cases b11
      · rfl
      · exact absurd (show false = true from hcl 11 _ rfl rfl ⟨6, .phase⟩ (by first | exact .head _ | simp) rfl) (by decide)
    subst hb11
    have hb8 : b8 = false := by
      cases b8
      · rfl
      · exact absurd (show false = true from hcl 8 _ rfl rfl ⟨7, .data⟩ (by first | exact .head _ | simp) rfl) (by decide)
    subst hb8
    have hb10 : b10 = false := by
      cases b10
      · rfl
      · exact absurd (show false = true from hcl 10 _ rfl rfl ⟨7, .chain⟩ (by first | exact .head _ | simp) rfl) (by decide)
    subst hb10
    have hb9 : b9 = false := by
      cases b9
      · rfl
      · exact absurd (show false = true from hcl 9 _ rfl rfl ⟨8, .data⟩ (by first | exact .head _ | simp) rfl) (by decide)
    subst hb9
    clear hall hcl hs hf
    go_simp
    exact hK _ _ ⟨b0, b1, b2, b3, b4, b5, true, false, false, false, false, false, kb1, kb2, nov, rfl, rfl, hF⟩
  · intro listed a w1 K hs hcl hf hall hI hK
    obtain ⟨b0, b1, b2, b3, b4, b5, b6, b7, b8, b9, b10, b11, kb1, kb2, nov, rfl, rfl, hF⟩ := hI
    have hf' : b7 = false := hf
    subst hf'
    have hq6 : b6 = true := hall ⟨6, .data⟩ (by first | exact .head _ | simp) rfl
    subst hq6
    have hq5 : b5 = true := hall ⟨5, .chain⟩ (by first | exact .head _ | simp) rfl
    subst hq5
    have hq2 : b2 = true := hcl 5 _ rfl rfl ⟨2, .chain⟩ (by first | exact .head _ | simp) rfl
    subst hq2
    have hq1 : b1 = true := hcl 2 _ rfl rfl ⟨1, .data⟩ (by first | exact .head _ | simp) rfl
    subst hq1
    have hq0 : b0 = true := hcl 2 _ rfl rfl ⟨0, .chain⟩ (by first | exact .head _ | simp) rfl
    subst hq0
    have hb8 : b8 = false := by
      cases b8
      · rfl
      · exact absurd (show false = true from hcl 8 _ rfl rfl ⟨7, .data⟩ (by first | exact .head _ | simp) rfl) (by decide)
    subst hb8
    have hb10 : b10 = false := by
      cases b10
      · rfl
      · exact absurd (show false = true from hcl 10 _ rfl rfl ⟨7, .chain⟩ (by first | exact .head _ | simp) rfl) (by decide)
    subst hb10
    have hb11 : b11 = false := by
      cases b11
      · rfl
      · exact absurd (show false = true from hcl 11 _ rfl rfl ⟨7, .phase⟩ (by first | exact .head _ | simp) rfl) (by decide)
    subst hb11
    have hb9 : b9 = false := by
      cases b9
      · rfl
      · exact absurd (show false = true from hcl 9 _ rfl rfl ⟨8, .data⟩ (by first | exact .head _ | simp) rfl) (by decide)
    subst hb9
    clear hall hcl hs hf
    go_simp
    refine (HM2.out _).mono ?_
    rintro e w2 ⟨rfl, rfl⟩
    exact hK _ _ ⟨true, true, true, b3, b4, true, true, true, false, false, false, false, kb1, kb2, nov, rfl, rfl, hF⟩
  · intro listed a w1 K hs hcl hf hall hI hK
    obtain ⟨b0, b1, b2, b3, b4, b5, b6, b7, b8, b9, b10, b11, kb1, kb2, nov, rfl, rfl, hF⟩ := hI
    have hf' : b8 = false := hf
    subst hf'
    have hq5 : b5 = true := hall ⟨5, .data⟩ (by first | exact .head _ | simp) rfl
    subst hq5
    have hq7 : b7 = true := hall ⟨7, .data⟩ (by first | exact .head _ | simp) rfl
    subst hq7
    have hq2 : b2 = true := hcl 5 _ rfl rfl ⟨2, .chain⟩ (by first | exact .head _ | simp) rfl
    subst hq2
    have hq6 : b6 = true := hcl 7 _ rfl rfl ⟨6, .data⟩ (by first | exact .head _ | simp) rfl
    subst hq6
    have hq1 : b1 = true := hcl 2 _ rfl rfl ⟨1, .data⟩ (by first | exact .head _ | simp) rfl
    subst hq1
    have hq0 : b0 = true := hcl 2 _ rfl rfl ⟨0, .chain⟩ (by first | exact .head _ | simp) rfl
    subst hq0
    have hb9 : b9 = false := by
      cases b9
      · rfl
      · exact absurd (show false = true from hcl 9 _ rfl rfl ⟨8, .data⟩ (by first | exact .head _ | simp) rfl) (by decide)
    subst hb9
    have hb11 : b11 = false := by
      cases b11
      · rfl
      · exact absurd (show false = true from hcl 11 _ rfl rfl ⟨8, .phase⟩ (by first | exact .head _ | simp) rfl) (by decide)
    subst hb11
    clear hall hcl hs hf
    go_simp
    exact hK _ _ ⟨true, true, true, b3, b4, true, true, true, true, false, b10, false, kb1, kb2, nov, rfl, rfl, hF⟩
  · intro listed a w1 K hs hcl hf hall hI hK
    obtain ⟨b0, b1, b2, b3, b4, b5, b6, b7, b8, b9, b10, b11, kb1, kb2, nov, rfl, rfl, hF⟩ := hI
    have hf' : b9 = false := hf
    subst hf'
    have hq8 : b8 = true := hall ⟨8, .data⟩ (by first | exact .head _ | simp) rfl
    subst hq8
    have hq5 : b5 = true := hcl 8 _ rfl rfl ⟨5, .data⟩ (by first | exact .head _ | simp) rfl
    subst hq5
    have hq7 : b7 = true := hcl 8 _ rfl rfl ⟨7, .data⟩ (by first | exact .head _ | simp) rfl
    subst hq7
    have hq2 : b2 = true := hcl 5 _ rfl rfl ⟨2, .chain⟩ (by first | exact .head _ | simp) rfl
    subst hq2
    have hq6 : b6 = true := hcl 7 _ rfl rfl ⟨6, .data⟩ (by first | exact .head _ | simp) rfl
    subst hq6
    have hq1 : b1 = true := hcl 2 _ rfl rfl ⟨1, .data⟩ (by first | exact .head _ | simp) rfl
    subst hq1
    have hq0 : b0 = true := hcl 2 _ rfl rfl ⟨0, .chain⟩ (by first | exact .head _ | simp) rfl
    subst hq0
    have hb11 : b11 = false := by
      cases b11
      · rfl
      · exact absurd (show false = true from hcl 11 _ rfl rfl ⟨9, .data⟩ (by first | exact .head _ | simp) rfl) (by decide)
    subst hb11
    clear hall hcl hs hf
    have q1 := patObj_cell hk7 (hF.p2 rfl)
    go_simp
    exact hK _ _ ⟨true, true, true, b3, b4, true, true, true, true, true, b10, false, kb1, kb2, nov, rfl, rfl, hF⟩
  · intro listed a w1 K hs hcl hf hall hI hK
    obtain ⟨b0, b1, b2, b3, b4, b5, b6, b7, b8, b9, b10, b11, kb1, kb2, nov, rfl, rfl, hF⟩ := hI
    have hf' : b10 = false := hf
    subst hf'
    have hq4 : b4 = true := hall ⟨4, .data⟩ (by first | exact .head _ | simp) rfl
    subst hq4
    have hq7 : b7 = true := hall ⟨7, .chain⟩ (by first | exact .head _ | simp) rfl
    subst hq7
    have hq0 : b0 = true := hall ⟨0, .phase⟩ (by first | exact .head _ | simp) rfl
    subst hq0
    have hq1 : b1 = true := hall ⟨1, .phase⟩ (by first | exact .head _ | simp) rfl
    subst hq1
    have hq2 : b2 = true := hall ⟨2, .phase⟩ (by first | exact .head _ | simp) rfl
    subst hq2
    have hq3 : b3 = true := hall ⟨3, .phase⟩ (by first | exact .head _ | simp) rfl
    subst hq3
    have hq6 : b6 = true := hcl 7 _ rfl rfl ⟨6, .data⟩ (by first | exact .head _ | simp) rfl
    subst hq6
    have hq5 : b5 = true := hcl 7 _ rfl rfl ⟨5, .chain⟩ (by first | exact .head _ | simp) rfl
    subst hq5
    have hb11 : b11 = false := by
      cases b11
      · rfl
      · exact absurd (show false = true from hcl 11 _ rfl rfl ⟨10, .chain⟩ (by first | exact .head _ | simp) rfl) (by decide)
    subst hb11
    clear hall hcl hs hf
    go_simp
    exact hK _ _ ⟨true, true, true, true, true, true, true, true, b8, b9, true, false, kb1, kb2, nov, rfl, rfl, hF⟩
  · intro listed a w1 K hs hcl hf hall hI hK
    obtain ⟨b0, b1, b2, b3, b4, b5, b6, b7, b8, b9, b10, b11, kb1, kb2, nov, rfl, rfl, hF⟩ := hI
    have hf' : b11 = false := hf
    subst hf'
    have hq9 : b9 = true := hall ⟨9, .data⟩ (by first | exact .head _ | simp) rfl
    subst hq9
    have hq10 : b10 = true := hall ⟨10, .chain⟩ (by first | exact .head _ | simp) rfl
    subst hq10
    have hq0 : b0 = true := hall ⟨0, .phase⟩ (by first | exact .head _ | simp) rfl
    subst hq0
    have hq1 : b1 = true := hall ⟨1, .phase⟩ (by first | exact .head _ | simp) rfl
    subst hq1
    have hq2 : b2 = true := hall ⟨2, .phase⟩ (by first | exact .head _ | simp) rfl
    subst hq2
    have hq3 : b3 = true := hall ⟨3, .phase⟩ (by first | exact .head _ | simp) rfl
    subst hq3
    have hq4 : b4 = true := hall ⟨4, .phase⟩ (by first | exact .head _ | simp) rfl
    subst hq4
    have hq5 : b5 = true := hall ⟨5, .phase⟩ (by first | exact .head _ | simp) rfl
    subst hq5
    have hq6 : b6 = true := hall ⟨6, .phase⟩ (by first | exact .head _ | simp) rfl
    subst hq6
    have hq7 : b7 = true := hall ⟨7, .phase⟩ (by first | exact .head _ | simp) rfl
    subst hq7
    have hq8 : b8 = true := hall ⟨8, .phase⟩ (by first | exact .head _ | simp) rfl
    subst hq8
    clear hall hcl hs hf
    go_simp
    exact hK _ _ ⟨true, true, true, true, true, true, true, true, true, true, true, true, kb1, kb2, nov, rfl, rfl, hF⟩
end Go.Proofs.Ytaajgdhoffhdcaa
