/-
  The walk of the law FrameStreams, and its statement: it returns true for all arguments; no condition.
-/
import Derived.Test.YtlpaemlgmmmbmaaOpenB
import Derived.Test.YtlpaemlgmmmbmaaFrameQ
import Derived.Test.YtlpaemlgmmmbmaaWordsG
namespace Go.Proofs.Ytlpaemlgmmmbmaa
open Go.ChangeShapes Go.WideShapes Go.ChangeAt Go.RowKit Rw
set_option linter.unusedVariables false

theorem sameN (A A' : Option Addr) (c c' n n' : Nat) (P : List (List UInt8)) (cells cells' : List Value) (w : World) (hr : Rs w A cells) (hr' : Rs w A' cells') (hs : RsL w cells (P.map bytes)) (hs' : RsL w cells' (P.map bytes)) (hm : P.length ≤ 1000000) (hn : P.length = n) (hn' : P.length = n') :
    Calls Try.prog 18 #[.slice A n c, .slice A' n' c'] w fun e w' => e = .returned (.bool true) ∧ ∃ k, w' = w.drewN k := by
  subst hn; subst hn'
  exact sameB A A' c c' P cells cells' w hr hr' hs hs' hm

set_option maxRecDepth 100000 in
set_option maxHeartbeats 4000000 in
theorem fstreams_any (Al : Option Addr) (cl : Nat) (l : List Int) (cut : Int) (w : World) (hrl : Rs w Al (ints l)) (hml : l.length ≤ maxLen) :
    Calls Try.prog 5 #[.slice Al l.length cl, .int .i64 cut] w fun e w' => e = .returned (.bool true) ∧ Old w w' := by
  go_enter Try.func5, Try.ntmps5
  go_wp2_with fail
  refine (fsane _).mono ?_; rintro e w1 ⟨rfl, hb⟩
  replace hrl := hrl.up hb
  go_wp2_with fail
  refine (streamW Al cl l w1 hrl hml).mono ?_; rintro e w2 ⟨vp, cellsP, vb, rfl, hownP, hfsP, hownb, hb2⟩
  replace hb := hb.up hb2
  have hfl := flat_len (outs_small (nx l 6).2 (nx l 6).1.toNat)
  have hol := outs_len (nx l 6).2 (nx l 6).1.toNat
  rw [hol] at hfl
  have hk := nx_bd l (show (1 : Int) ≤ 6 by decide)
  have hP8 : ∀ p ∈ streamL l, p.length ≤ 4096 := fun p hp => by have := outs_small (nx l 6).2 (nx l 6).1.toNat p hp; omega
  have hPl : (streamL l).length ≤ 5 := by
    have : (streamL l).length = (nx l 6).1.toNat := hol
    omega
  have hbl : (flat (streamL l)).length ≤ 60 := by
    have : (flat (streamL l)).length ≤ 12 * (nx l 6).1.toNat := hfl
    omega
  have hpc := Fr.pieces (streamL l) hP8
  clear hb2 hrl hfl hol hk hP8
  generalize streamL l = P at *
  generalize flat P = b at *
  obtain ⟨Ab, cb, rfl, hrb, hcb1, hcb2⟩ := hownb.shape
  obtain ⟨Aw, cw, rfl, hrw, _, _⟩ := hownP.shape
  replace hrb := hrb.rs
  replace hrw := hrw.rs
  replace hfsP := hfsP.rs
  have hcb2' := hcb2
  unfold maxLen at hcb2'
  have hmo0 := Int.emod_nonneg cut (show (b.length : Int) + 1 ≠ 0 by omega)
  have hmo1 := Int.emod_lt_of_pos cut (show 0 < (b.length : Int) + 1 by omega)
  have hMod := fun W => mod_any cut ((b.length : Int) + 1) (by omega) (by omega) W
  obtain ⟨k, hM⟩ := Int.eq_ofNat_of_zero_le hmo0
  rw [hM] at hMod hmo0 hmo1
  have HMOD := Lib.hid hMod
  obtain ⟨p1, p2, p3, p4, p5, p6, p7⟩ := hpc k (by omega)
  have hS1 := fun W h => fSplit Ab cb (b.take k) W h
  have hS3 := fun W h => fSplit Ab cb b W h
  rw [List.length_take, Nat.min_eq_left (by omega)] at hS1
  have HS1 := Lib.hid hS1
  have HS3 := Lib.hid hS3
  have hfin1 : (Fr.fin (b.take k)).1.length ≤ 100 := by
    have := congrArg List.length p5
    rw [List.length_append] at this
    omega
  obtain ⟨n, hn⟩ : ∃ n, n = (Fr.fin (b.take k)).2 := ⟨_, rfl⟩
  rw [← hn] at p2 p3 p4 p5
  have hS2 := fun A W h => fSplit A (cb - n) (b.drop n) W h
  rw [List.length_drop] at hS2
  have HS2 := Lib.hid hS2
  have hslt := fun W => run_slice_to (P := Try.prog) (t := 23) (by kernel_rfl) (fun _ => rfl) Ab b.length cb k (k : Int) rfl (by omega) W
  have hslf := fun W => run_slice_from (P := Try.prog) (t := 23) (by kernel_rfl) (fun _ => rfl) Ab b.length cb n (n : Int) rfl (by omega) W
  obtain ⟨A2, hA2⟩ : ∃ A2, A2 = if cb = n then Ab else Ab.map (·.add n) := ⟨_, rfl⟩
  rw [← hA2] at hslf
  have hrb2 : ∀ W, Old w2 W → Rs W A2 (bytes (b.drop n)) := fun W hW => by
    have h := (hrb.up hW).cut (n := b.length) (c := cb) (k := n) (size := 1) (by rw [bytes_length, Nat.mul_one]) hcb1 (by omega)
    rw [Nat.mul_one] at h
    rw [hA2, bytes_drop]; exact h
  have HN := Lib.hid hn
  have HP1 := Lib.hid p1
  have HP3 := Lib.hid p3
  have HP4 := Lib.hid p4
  have HP5 := Lib.hid p5
  have HP6 := Lib.hid p6
  have HP7 := Lib.hid p7
  have HRB2 := Lib.hid hrb2
  clear hM hMod hpc hS1 hS2 hS3 hownb hownP hn hA2 p1 p3 p4 p5 p6 p7 hrb2
  go_wp2_with fail
  refine (HMOD.out _).mono ?_; rintro e w2' ⟨rfl, rfl⟩
  go_wp2_with fail
  refine (HS1.out w2 (by rw [bytes_take]; exact hrb.take k) (by omega) hcb2 (by omega)).mono ?_; rintro e w3 ⟨v3, cells3, rfl, hown3, hts3, hb3⟩
  rw [HP1.out, ← HN.out]
  obtain ⟨A3, c3, rfl, hr3, _, _⟩ := hown3.shape
  have hc3 := hts3.1
  rw [List.length_map] at hc3
  have HC3 := Lib.hid hc3
  have hO3 : Old w2 w3 := hb3
  clear hown3 hc3
  go_wp2_with fail
  refine (HS2.out A2 w3 (HRB2.out w3 hO3) (by omega) (by omega) (by omega)).mono ?_; rintro e w4 ⟨v4, cells4, rfl, hown4, hts4, hb4⟩
  rw [HP3.out]
  obtain ⟨A4, c4, rfl, hr4, _, _⟩ := hown4.shape
  have hc4 := hts4.1
  rw [List.length_map] at hc4
  have HC4 := Lib.hid hc4
  have hO4 := hO3.up hb4
  replace hr3 := hr3.up hb4
  replace hts3 := hts3.up hb4
  clear hown4 hb3 hb4 hc4 hO3
  go_wp2_with fail
  refine (HS3.out w4 (hrb.up hO4) hcb1 hcb2 (by omega)).mono ?_; rintro e w5 ⟨v5, cells5, rfl, hown5, hts5, hb5⟩
  rw [HP7.out]
  rw [HP6.out] at hown5 hts5
  rw [HP6.out]
  obtain ⟨A5, c5, rfl, hr5, _, _⟩ := hown5.shape
  have hO5 := hO4.up hb5
  replace hr3 := (hr3.up hb5).rs
  replace hts3 := (hts3.up hb5).rs
  replace hr4 := (hr4.up hb5).rs
  replace hts4 := (hts4.up hb5).rs
  replace hr5 := hr5.rs
  replace hts5 := hts5.rs
  replace hrw := hrw.up hO5
  replace hfsP := hfsP.up hO5
  replace hb := hb.up hO5
  clear hown5 hb5 hO4 hO5 hslt hslf
  generalize Fr.fin (b.take k) = F1 at *
  generalize Fr.fin (b.drop n) = F2 at *
  obtain ⟨P1, n1⟩ := F1
  obtain ⟨P2, m⟩ := F2
  simp only at *
  have hm : (n : Int) + m = b.length := by have := HP4.out; omega
  have hl12 : P1.length + P2.length = P.length := by rw [← HP5.out, List.length_append]
  have HL12 := Lib.hid hl12
  have hl2 : P2.length ≤ 5 := by omega
  have hm0 : (n : Int) + m ≤ 60 := by omega
  clear hl12
  go_wp2_with fail
  refine (sameB A5 Aw c5 cw P cells5 cellsP w5 hr5 hrw hts5 hfsP (by omega)).mono ?_; rintro e w6 ⟨rfl, q, rfl⟩
  replace hr3 := hr3.drewN q
  replace hr4 := hr4.drewN q
  replace hts3 := hts3.up ((Old.refl w5).drewN q)
  replace hts4 := hts4.up ((Old.refl w5).drewN q)
  replace hrw := hrw.drewN q
  replace hfsP := hfsP.up ((Old.refl w5).drewN q)
  replace hb := hb.drewN q
  generalize w5.drewN q = w7 at *
  have hown0 : Own (w7.alloc (.cells #[] 23)) w7.heap.size 23 1 (.slice (some ⟨w7.heap.size, 0, none⟩) 0 0) 0 [] := own_new w7 #[] 0 1 _ (by decide) rfl
  clear hr5 hts5
  go_wp2_with (at_builtin; refine wpList_pushAllG (by rfl) _ _ 25 rfl _ 23 (.slice none 0 0) 1 24 Try.underlying25 info_rows8 rfl (by decide) (by decide) _ _ _ (by rfl) hown0 _ _ _ _ (by rfl) (hr3.alloc _) (by rw [HC3.out, Nat.mul_one]) hts3.one ?pn1 (by simp) ?_)
  case pn1 => omega
  intro v8 w8 hown8 hg8 hd8
  have hb8 := hd8 w7 ((Old.refl w7).alloc _) (Nat.le_refl _)
  clear hown0 hg8 hd8
  go_wp2_with (at_builtin; refine wpList_pushAllG (by rfl) _ _ 25 rfl _ 23 (.slice none 0 0) 1 24 Try.underlying25 info_rows8 rfl (by decide) (by decide) _ _ _ (by rfl) hown8 _ _ _ _ (by rfl) (hr4.up hb8) (by rw [HC4.out, Nat.mul_one]) hts4.one ?pn2 hb8.size ?_)
  case pn2 => omega
  intro v9 w9 hown9 hg9 hd9
  have hb9 := hd9 w7 hb8 (Nat.le_refl _)
  obtain ⟨A9, c9, rfl, hr9, _, _⟩ := hown9.shape
  have hall := (hts3.up hb9).append (hts4.up hb9)
  rw [← List.map_append, HP5.out] at hall
  replace hrw := hrw.up hb9
  replace hfsP := hfsP.up hb9
  replace hb := hb.up hb9
  clear hown8 hown9 hg9 hd9 hb8 hb9 hts3 hts4 hr3 hr4
  go_wp2_with fail
  refine (sameN A9 Aw c9 cw _ _ P _ cellsP w9 hr9.rs hrw hall hfsP (by omega) HL12.out.symm rfl).mono ?_; rintro e w10 ⟨rfl, q2, rfl⟩
  go_wp2_with fail
  go_ret
  exact ⟨rfl, hb.drewN q2⟩

theorem fstreams_row {Al : Option Addr} {len1 c1 : Nat} {cut : Int} {W : World} (h : ∃ l : List Int, l.length = len1 ∧ len1 ≤ maxLen ∧ Rs W Al (ints l)) :
    Calls Try.prog 5 #[.slice Al len1 c1, .int .i64 cut] W fun e w' => e = .returned (.bool true) ∧ Below W.heap.size W w' := by
  obtain ⟨l, rfl, hm, hr⟩ := h
  exact fstreams_any Al c1 l cut W hr hm
set_option maxRecDepth 100000 in
theorem frameStreams_lifted (os : Os) (started : os.Started) (H : Type) (enc : TypeId × Value → H) :
    ReturnsInHanded {} Try.checked os 5 .any (Rows.frameStreamsSpec.pre6 enc Try.prog Try.f5 Rows.frameStreamsRow.domain false) (Rows.frameStreamsSpec.post enc Try.prog Try.f5 false true false false) := by
  refine returnsInHanded_of_change (C := Try.checked) own started (by kernel_rfl) Try.func5
    (ChangeSpec.witness6 (enc := enc) (C := Try.checked) false ⟨#[], #[.slice none 0 0, .int .i64 0], []⟩ 8 (by kernel_rfl) (by kernel_rfl) (by kernel_rfl) (by kernel_rfl)) ?_
  intro W base args ds gs before hval0 hW hcnd _
  have hval : ∀ (j : Nat) t v, Try.f5.params[j]? = some t → args[j]? = some v → Value.okWide Try.prog W .any base t v := hval0
  have hW' := hW
  obtain ⟨p, q, hA0, hV, rfl, hfz, hnd⟩ := hW
  have hA : DataW.TrodAll enc Try.prog W 0 (fun _ => true) true Try.f5.params.toList args.toList ds p := hA0
  rw [Try.params5] at hA hval
  obtain ⟨v0, vs0, d0, ds0, p0, q0, hargs, rfl, rfl, h0, r0⟩ := trodAll_cons hA
  obtain ⟨v1, vs1, d1, ds1, p1, q1, rfl, rfl, rfl, h1, r1⟩ := trodAll_cons r0
  obtain ⟨rfl, rfl, rfl⟩ := trodAll_nil r1
  obtain rfl : args = #[v0, v1] := by cases args; simp_all
  obtain ⟨rfl, rfl⟩ := trodVars_none hV
  obtain ⟨a0, len0, cap0, rfl⟩ := okWide_slice Try.underlying22 (hval 0 22 v0 rfl rfl)
  have lt0 : ∀ x ∈ p0, x.block < W.heap.size := by obtain ⟨m, hm⟩ := h0; exact DataW.trod_lt m _ _ _ hm
  have w0 := open_intl h0
  obtain ⟨a1, rfl, rfl, rfl, w1⟩ := open_int Try.underlying3 (hval 1 3 v1 rfl rfl) h1
  clear hA0 hval0
  refine (fstreams_row w0).mono fun e W' ⟨he, bel⟩ => ?_
  subst he
  exact ⟨_, rfl, _, _, _, [], _, [], hW', trodAll_mk1 (shut_bool Try.underlying4 _), (trodAll_cons_mk (Below.trod laidOut (by kernel_rfl) (of_decide_eq_true (by kernel_rfl)) h0 bel lt0) (trodAll_cons_mk (shut_int Try.underlying3 w1) trodAll_mk0)), rfl, bel.frame _, fun h => by cases h⟩

theorem frameStreams_holds : Rows.FrameStreamsSaid :=
  OpenClaim.holds_of_wide 5 Try.f5 rfl rfl rfl rfl rfl rfl rfl ⟨rfl, rfl, rfl, rfl, rfl⟩ rfl rfl rfl rfl rfl (by kernel_rfl) Try.func5 (by kernel_rfl)
    (of_decide_eq_true (by kernel_rfl)) (by unfold Func.isWrapper; first | (rw [if_pos (by decide +kernel)]; kernel_rfl) | (rw [if_neg (by decide +kernel)]; exact ⟨rfl, rfl⟩))
    (fun os started H enc _ => frameStreams_lifted os started H enc)

end Go.Proofs.Ytlpaemlgmmmbmaa
