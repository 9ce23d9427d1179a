/-
  The walks of the queue's set, cancel.
-/
import Derived.Test.YtlpaemlgmmmbmaaTqT
namespace Go.Proofs.Ytlpaemlgmmmbmaa
open Go.RowKit Go.Maps
set_option linter.unusedVariables false

def idx : List Tm → Int → Option Nat
  | [], _ => none
  | p :: L, id => if p.2 = id then some 0 else (idx L id).map (· + 1)
theorem idx_none : ∀ (L : List Tm) (id : Int), idx L id = none → id ∉ L.map (·.2)
  | [], _, _ => by simp
  | p :: L, id, h => by
    rw [idx] at h
    split at h
    · cases h
    · rename_i hp
      simp only [Option.map_eq_none_iff] at h
      have := idx_none L id h
      simp only [List.map_cons, List.mem_cons, not_or]
      exact ⟨fun e => hp e.symm, this⟩
theorem idx_some : ∀ (L : List Tm) (id : Int) (i : Nat), idx L id = some i → ∃ a, L[i]? = some (a, id)
  | [], _, _, h => by cases h
  | p :: L, id, i, h => by
    rw [idx] at h
    split at h
    · rename_i hp
      injection h with h; subst h hp
      exact ⟨p.1, rfl⟩
    · simp only [Option.map_eq_some_iff] at h
      obtain ⟨j, hj, rfl⟩ := h
      obtain ⟨a, ha⟩ := idx_some L id j hj
      exact ⟨a, by simpa using ha⟩
def setM (L : List Tm) (id a : Int) : Int × List Tm :=
  if id < 0 then (2, L) else match idx L id with
    | some i => (0, fixM (L.set i (a, id)) i L.length)
    | none => if 256 ≤ L.length then (1, L) else (0, pushM L (a, id))
def cancelM (L : List Tm) (id : Int) : Int × List Tm :=
  match idx L id with
    | some i => (0, removeM L i)
    | none => (4, L)

/-- A timer's time is stored. -/
theorem PQ.setAt {w : World} {B g mb gb c k : Nat} {L : List Tm} {D : MD} {i : Nat} {p : Tm} (h1 : B ≤ g) (h2 : B ≤ mb) (h3 : w.heap[g]? = some (.cells #[.slice (some ⟨gb, 0, none⟩) L.length c, .map (some mb)] 98 (0, 0))) (h4 : Own w B 109 2 (.slice (some ⟨gb, 0, none⟩) L.length c) L.length (tcells L))
    (h5 : w.ownsMap Try.prog 3 (plainElem Try.prog 3) mb k D) (h6 : MapOf D L) (hgb : B ≤ gb) (hi : L[i]? = some p) (a : Int) : PQ (w.setCell ⟨gb, i * 2, none⟩ (.int .u64 a)) B g mb (L.set i (a, p.2)) ∧ QK B w (w.setCell ⟨gb, i * 2, none⟩ (.int .u64 a)) := by
  obtain ⟨ne1, ne2, ne3⟩ := q_apart h3 h4 h5
  obtain ⟨o1, r1⟩ := h4.set_ (i * 2) (.int .u64 a)
  obtain ⟨cur, hc⟩ := h4.heap_
  refine ⟨⟨h1, h2, _, D, k, (r1.block g (lt_of_block h3) (by intro e; injection e with e; exact ne1 e.symm)).trans h3, ?_, h5.kept r1 (by intro e; injection e with e; exact ne2 e), h6.setAt hi a⟩, QK.of_grown r1 hgb (Or.inr ⟨_, _, _, hc, Or.inl rfl⟩)⟩
  rw [tcells_set1 L i (a, p.2) p hi rfl]
  simpa using o1

set_option maxHeartbeats 1000000 in
set_option maxRecDepth 100000 in
theorem setQ (B g mb : Nat) (L : List Tm) (id a : Int) (w : World) (h : PQ w B g mb L) (hl : TL L) (ha : 0 ≤ a ∧ a < 18446744073709551616) (hid : -9223372036854775808 ≤ id ∧ id ≤ 9223372036854775807) :
    Calls Try.prog 52 #[.pointer (some ⟨g, 0, none⟩), .int .i64 id, .int .u64 a] w (QPost (.int .i64 (setM L id a).1) w B g mb (setM L id a).2) := by
  by_cases h0 : id < 0
  · have hE : setM L id a = (2, L) := by unfold setM; rw [if_pos h0]
    rw [hE]
    clear hE
    have HP := Lib.hid h
    clear h
    go_enter Try.func52, Try.ntmps52
    go_wp2_with fail
    go_ret
    exact ⟨rfl, HP.out, QK.refl _ _⟩
  · have hkey := keyOf_int_mk Try.underlying3 (a := id) (q := .i64) (WalkArith.wf_i64 (by omega))
    have hlen := hl.1
    cases hx : idx L id with
    | some i =>
      have hE : setM L id a = (0, fixM (L.set i (a, id)) i L.length) := by unfold setM; rw [if_neg h0, hx]
      rw [hE]
      clear hE
      obtain ⟨b, hb⟩ := idx_some L id i hx
      have HP := Lib.hid h
      obtain ⟨h1, h2, v, D, k, h3, h4, h5, h6⟩ := h
      have il := (List.getElem?_eq_some_iff.1 hb).1
      obtain ⟨gb, c, rfl, hgb, hgl, hc, hcm⟩ := h4.form (by omega)
      have hm : id ∈ L.map (·.2) := List.mem_map.2 ⟨_, List.mem_of_getElem? hb, rfl⟩
      have hhas : Maps.has D (.int .i64 id) = true := (h6.has_ id).trans (decide_eq_true hm)
      have hat0 := h6.at_ i _ hb (.lit (.int .i64 0))
      obtain ⟨ca, fa⟩ := h4.cellAt (tcells_get L i _ hb).1
      have c0 : w.cell? ⟨g, 0, none⟩ = some (.slice (some ⟨gb, 0, none⟩) L.length c) := by rw [cell_of_row w g 0 _ _ _ h3]; rfl
      have c1 : w.cell? ⟨g, 1, none⟩ = some (.map (some mb)) := by rw [cell_of_row w g 1 _ _ _ h3]; rfl
      obtain ⟨hpS, hqS⟩ := PQ.setAt h1 h2 h3 h4 h5 h6 hgb hb a
      have hlS : TL (L.set i (a, id)) := by
        refine ⟨by rw [List.length_set]; exact hlen, by rw [ids_set hb]; exact hl.2.1, fun p hp => ?_⟩
        rcases List.mem_or_eq_of_mem_set hp with hp | rfl
        · exact hl.2.2 p hp
        · exact ⟨ha.1, ha.2, by simp only; omega, hid.2⟩
      have hFx := Lib.hid (fixH B g mb (L.set i (a, id)) i (w.setCell ⟨gb, i * 2, none⟩ (.int .u64 a)) hpS hlS (by rw [List.length_set]; exact il))
      have hLs : (L.set i (a, id)).length = L.length := List.length_set
      have HLs := Lib.hid hLs
      have HQ := Lib.hid hqS
      have i1 : (0 : Int) ≤ (i : Int) := by omega
      have i2 : (i : Int) < (L.length : Int) := by omega
      have hown := h5
      have Hat := Lib.hid hat0
      have Hc := Lib.hid hc
      clear hLs hqS hpS hlS h3 h4 h5 h6 hl hm hx hb hat0 hc hcm hgl hgb h1 h2
      generalize L.length = n at *
      unfold qI at *
      go_enter Try.func52, Try.ntmps52
      go_wp2_with (at_lookup; refine wpList_lookup_own_ok_int _ rfl _ _ 95 rfl 3 3 .i64 lawInt Try.underlying95 Try.underlying3 (zeroInt _) mb k D rfl hown _ _ rfl hkey ?_; intro cc hat hwc; (obtain rfl : cc = (i : Int) := (by have := hat.symm.trans Hat.out; simpa [numD] using this)); clear hat hwc)
      refine hFx.out.mono ?_
      rintro e w4 ⟨rfl, hp4, hq4⟩
      have HF := Lib.hid (And.intro hp4 (HQ.out.trans hq4))
      rw [HLs.out] at HF
      clear hp4 hq4
      go_wp2_with fail
      go_ret
      exact ⟨rfl, HF.out.1, HF.out.2⟩
    | none =>
      have hm := idx_none L id hx
      have HP := Lib.hid h
      obtain ⟨h1, h2, v, D, k, h3, h4, h5, h6⟩ := h
      obtain ⟨A, c, rfl, _, _, _⟩ := h4.shape
      have hhas : Maps.has D (.int .i64 id) = false := (h6.has_ id).trans (decide_eq_false hm)
      have c0 : w.cell? ⟨g, 0, none⟩ = some (.slice A L.length c) := by rw [cell_of_row w g 0 _ _ _ h3]; rfl
      have c1 : w.cell? ⟨g, 1, none⟩ = some (.map (some mb)) := by rw [cell_of_row w g 1 _ _ _ h3]; rfl
      have hown := h5
      have HL := Lib.hid hl
      have Hm := Lib.hid hm
      by_cases hf : 256 ≤ L.length
      · have hE : setM L id a = (1, L) := by unfold setM; rw [if_neg h0, hx]; simp only; rw [if_pos hf]
        rw [hE]
        clear hE h3 h4 h5 h6 hm hx hl
        go_enter Try.func52, Try.ntmps52
        go_wp2_with (at_lookup; refine wpList_lookup_own_ok_int _ rfl _ _ 95 rfl 3 3 .i64 lawInt Try.underlying95 Try.underlying3 (zeroInt _) mb k D rfl hown _ _ rfl hkey ?_; intro cc hat hwc; clear hat hwc)
        go_ret
        exact ⟨rfl, HP.out, QK.refl _ _⟩
      · have hE : setM L id a = (0, pushM L (a, id)) := by unfold setM; rw [if_neg h0, hx]; simp only; rw [if_neg hf]
        rw [hE]
        have hPu := Lib.hid (pushH B g mb L a id w HP.out hl (by omega) ⟨ha.1, ha.2, by simp only; omega, hid.2⟩ hm)
        clear hE h3 h4 h5 h6 hm hx hl
        unfold qI tmV at hPu
        go_enter Try.func52, Try.ntmps52
        go_wp2_with (at_lookup; refine wpList_lookup_own_ok_int _ rfl _ _ 95 rfl 3 3 .i64 lawInt Try.underlying95 Try.underlying3 (zeroInt _) mb k D rfl hown _ _ rfl hkey ?_; intro cc hat hwc; clear hat hwc)
        refine hPu.out.mono ?_
        rintro e w4 ⟨rfl, hp4, hq4⟩
        have HF := Lib.hid (And.intro hp4 hq4)
        clear hp4 hq4
        go_wp2_with fail
        go_ret
        exact ⟨rfl, HF.out.1, HF.out.2⟩

set_option maxHeartbeats 1000000 in
set_option maxRecDepth 100000 in
theorem cancelQ (B g mb : Nat) (L : List Tm) (id : Int) (w : World) (h : PQ w B g mb L) (hl : TL L) (hh : Heap L L.length) (hid : -9223372036854775808 ≤ id ∧ id ≤ 9223372036854775807) :
    Calls Try.prog 53 #[.pointer (some ⟨g, 0, none⟩), .int .i64 id] w (QPost (.int .i64 (cancelM L id).1) w B g mb (cancelM L id).2) := by
  have hkey := keyOf_int_mk Try.underlying3 (a := id) (q := .i64) (WalkArith.wf_i64 (by omega))
  have hlen := hl.1
  cases hx : idx L id with
  | some i =>
    have hE : cancelM L id = (0, removeM L i) := by unfold cancelM; rw [hx]
    rw [hE]
    clear hE
    obtain ⟨b, hb⟩ := idx_some L id i hx
    have il := (List.getElem?_eq_some_iff.1 hb).1
    have hRm := Lib.hid (removeH B g mb L i w h hl il hh)
    obtain ⟨h1, h2, v, D, k, h3, h4, h5, h6⟩ := h
    have hm : id ∈ L.map (·.2) := List.mem_map.2 ⟨_, List.mem_of_getElem? hb, rfl⟩
    have hhas : Maps.has D (.int .i64 id) = true := (h6.has_ id).trans (decide_eq_true hm)
    have hat0 := h6.at_ i _ hb (.lit (.int .i64 0))
    have c1 : w.cell? ⟨g, 1, none⟩ = some (.map (some mb)) := by rw [cell_of_row w g 1 _ _ _ h3]; rfl
    have i1 : (0 : Int) ≤ (i : Int) := by omega
    have hown := h5
    have Hat := Lib.hid hat0
    clear h3 h4 h5 h6 hl hm hx hb hat0 hh
    unfold qI at *
    go_enter Try.func53, Try.ntmps53
    go_wp2_with (at_lookup; refine wpList_lookup_own_ok_int _ rfl _ _ 95 rfl 3 3 .i64 lawInt Try.underlying95 Try.underlying3 (zeroInt _) mb k D rfl hown _ _ rfl hkey ?_; intro cc hat hwc; (obtain rfl : cc = (i : Int) := (by have := hat.symm.trans Hat.out; simpa [numD] using this)); clear hat hwc)
    refine hRm.out.mono ?_
    rintro e w4 ⟨rfl, hp4, hq4⟩
    have HF := Lib.hid (And.intro hp4 hq4)
    clear hp4 hq4
    go_wp2_with fail
    go_ret
    exact ⟨rfl, HF.out.1, HF.out.2⟩
  | none =>
    have hE : cancelM L id = (4, L) := by unfold cancelM; rw [hx]
    rw [hE]
    have hm := idx_none L id hx
    have HP := Lib.hid h
    obtain ⟨h1, h2, v, D, k, h3, h4, h5, h6⟩ := h
    have hhas : Maps.has D (.int .i64 id) = false := (h6.has_ id).trans (decide_eq_false hm)
    have c1 : w.cell? ⟨g, 1, none⟩ = some (.map (some mb)) := by rw [cell_of_row w g 1 _ _ _ h3]; rfl
    have hown := h5
    clear hE h3 h4 h5 h6 hm hx hl hh
    go_enter Try.func53, Try.ntmps53
    go_wp2_with (at_lookup; refine wpList_lookup_own_ok_int _ rfl _ _ 95 rfl 3 3 .i64 lawInt Try.underlying95 Try.underlying3 (zeroInt _) mb k D rfl hown _ _ rfl hkey ?_; intro cc hat hwc; clear hat hwc)
    go_ret
    exact ⟨rfl, HP.out, QK.refl _ _⟩
end Go.Proofs.Ytlpaemlgmmmbmaa
