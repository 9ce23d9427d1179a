/-
  The reference's places in memory; known.
-/
import Derived.Test.YthadkjgadhbidaaSqL
import Derived.Test.YthadkjgadhbidaaPushA
namespace Go.Proofs.Ythadkjgadhbidaa
open Go.RowKit
set_option linter.unusedVariables false

/-- A place: its spot, and where its text lies. -/
structure Pr where
  p : Sp
  A : Option Addr
  n : Nat
  c : Nat
def pr0 : Pr := ⟨sp0, none, 0, 0⟩
def prCells (x : Pr) : List Value := [.int .i64 (x.p.s : Int), .bool x.p.b, .bool x.p.e, .slice x.A x.n x.c]
def prA (x : Pr) : Value := .agg #[.int .i64 (x.p.s : Int), .bool x.p.b, .bool x.p.e, .slice x.A x.n x.c]
def prsV (L : List Pr) : List Value := L.flatMap prCells
theorem prsV_length (L : List Pr) : (prsV L).length = L.length * 4 := by
  induction L with
  | nil => rfl
  | cons p L ih => unfold prsV at *; rw [List.flatMap_cons, List.length_append, ih, List.length_cons]; simp [prCells]; omega
theorem prsV_one (L : List Pr) : (prsV L).all Value.oneCell' = true := by
  rw [List.all_eq_true]
  intro v hv
  obtain ⟨p, _, hp⟩ := List.mem_flatMap.mp hv
  simp [prCells] at hp
  rcases hp with rfl | rfl | rfl | rfl <;> rfl
theorem prsV_app (L M : List Pr) : prsV (L ++ M) = prsV L ++ prsV M := by unfold prsV; rw [List.flatMap_append]
theorem prsV_snoc (L : List Pr) (p : Pr) : prsV (L ++ [p]) = prsV L ++ prCells p := by rw [prsV_app]; unfold prsV; simp
theorem prsV_get (L : List Pr) (i : Nat) (h : i < L.length) (j : Nat) (hj : j < 4) : (prsV L)[i * 4 + j]? = (prCells (L.getD i pr0))[j]? := by
  induction L generalizing i with
  | nil => simp at h
  | cons p L ih =>
    have e : prsV (p :: L) = prCells p ++ prsV L := by unfold prsV; rw [List.flatMap_cons]
    rw [e]
    cases i with
    | zero =>
      rw [Nat.zero_mul, Nat.zero_add, List.getElem?_append_left (by simp [prCells]; omega)]
      rfl
    | succ i =>
      have hl : (prCells p).length = 4 := rfl
      rw [List.getElem?_append_right (by rw [hl]; omega), hl, show (i + 1) * 4 + j - 4 = i * 4 + j by omega, ih i (by simpa using h)]
      simp
theorem info_pl : (Try.prog.info? 98).map (fun i => (i.zero, i.size, i.bytes)) = some (some (.agg #[.int .i64 0, .bool false, .bool false, .slice none 0 0]), 4, 40) := by kernel_rfl
def KnRel (L : List Pr) (p : Sp) (w1 : World) (v : Value) (wr : World) : Prop := ∃ k : Nat, v = .int .i64 k ∧ k ≤ L.length ∧ Hid (∀ j, j < k → (L.getD j pr0).p ≠ p) ∧ Hid (Old w1 wr)
theorem mem_keys {L : List Pr} {p : Sp} : p ∈ L.map Pr.p ↔ ∃ j, j < L.length ∧ (L.getD j pr0).p = p := by
  rw [List.mem_map]
  constructor
  · rintro ⟨x, hx, rfl⟩
    obtain ⟨j, hj, rfl⟩ := List.mem_iff_getElem.mp hx
    exact ⟨j, hj, by rw [List.getD_eq_getElem?_getD, List.getElem?_eq_getElem hj]; rfl⟩
  · rintro ⟨j, hj, rfl⟩
    refine ⟨L.getD j pr0, ?_, rfl⟩
    rw [List.getD_eq_getElem?_getD, List.getElem?_eq_getElem hj]
    exact List.getElem_mem hj
set_option maxHeartbeats 4000000 in
set_option maxRecDepth 100000 in
theorem knownC (A : Option Addr) (c : Nat) (L : List Pr) (x : Pr) (w : World) (hr : Rs w A (prsV L)) (hm : L.length ≤ maxLen) :
    Calls Try.prog 50 #[.slice A L.length c, prA x] w (ValOld (.bool (decide (x.p ∈ L.map Pr.p))) w) := by
  obtain ⟨⟨ps, pb, pe⟩, xA, xn, xc⟩ := x
  unfold maxLen at hm
  have hb := heap_alloc_new w (.cells #[.int .i64 (ps : Int), .bool pb, .bool pe, .slice xA xn xc] 98)
  have ho := (Old.refl w).alloc (.cells #[.int .i64 (ps : Int), .bool pb, .bool pe, .slice xA xn xc] 98)
  have HR := Lib.hid hr
  have HPO : Hid (∀ b w', (b = true ↔ (⟨ps, pb, pe⟩ : Sp) ∈ L.map Pr.p) → Old w w' → ValOld (.bool (decide ((⟨ps, pb, pe⟩ : Sp) ∈ L.map Pr.p))) w (.returned (.bool b)) w') := Lib.hid (fun b w' h1 h2 => by
    refine ⟨?_, h2⟩
    have : b = decide ((⟨ps, pb, pe⟩ : Sp) ∈ L.map Pr.p) := by rw [Bool.eq_iff_iff, decide_eq_true_iff]; exact h1
    rw [this])
  have HTR : Hid (∀ k, k < L.length → (L.getD k pr0).p = ⟨ps, pb, pe⟩ → (true = true ↔ (⟨ps, pb, pe⟩ : Sp) ∈ L.map Pr.p)) := Lib.hid (fun k hk e => ⟨fun _ => mem_keys.2 ⟨k, hk, e⟩, fun _ => rfl⟩)
  clear hr
  unfold prA
  simp only
  generalize decide ((⟨ps, pb, pe⟩ : Sp) ∈ L.map Pr.p) = ans at *
  go_enter Try.func50, Try.ntmps50
  go_upto_region 1 with fail
  generalize w.alloc (.cells #[.int .i64 (ps : Int), .bool pb, .bool pe, .slice xA xn xc] 98) = w1 at *
  generalize w.heap.size = kb at *
  have HB := Lib.hid hb
  have HO := Lib.hid ho
  clear hb ho
  go_wp2_with fail
  go_loopw [5] (fun s4 wr => KnRel L ⟨ps, pb, pe⟩ w1 s4 wr) (fun s4 _ => L.length - (intOf s4).toNat)
  case atStart => exact ⟨0, rfl, by omega, Lib.hid (fun c hc => by omega), Lib.hid (Old.refl _)⟩
  case round =>
    obtain ⟨k, rfl, hk, HN, HD⟩ := hrel
    have hbb := HD.out.block HB.out
    have d0 : wr.cell? ⟨kb, 0, none⟩ = some (.int .i64 (ps : Int)) := by rw [cell_of_row wr kb 0 _ _ _ hbb]; rfl
    have d1 : wr.cell? ⟨kb, 1, none⟩ = some (.bool pb) := by rw [cell_of_row wr kb 1 _ _ _ hbb]; rfl
    have d2 : wr.cell? ⟨kb, 2, none⟩ = some (.bool pe) := by rw [cell_of_row wr kb 2 _ _ _ hbb]; rfl
    clear hbb
    by_cases hlt : k < L.length
    · have i1 : (k : Int) < (L.length : Int) := by omega
      have i0 : (0 : Int) ≤ (k : Int) := by omega
      obtain ⟨bs, off, rfl, hbl, hcl⟩ := (HR.out.up (HO.out.up HD.out)).at_ (by rw [prsV_length]; omega)
      have hg := prsV_get L k hlt
      have c0 := hcl _ _ ((hg 0 (by omega)).trans rfl)
      have c1 := hcl _ _ ((hg 1 (by omega)).trans rfl)
      have c2 := hcl _ _ ((hg 2 (by omega)).trans rfl)
      rw [← Nat.add_assoc] at c0 c1 c2
      rw [Nat.add_zero] at c0
      have HT := Lib.hid (HTR.out k hlt)
      have HNX : Hid ((L.getD k pr0).p ≠ ⟨ps, pb, pe⟩ → ∀ w', Old wr w' → KnRel L ⟨ps, pb, pe⟩ w1 (.int .i64 ((k + 1 : Nat) : Int)) w') := Lib.hid (fun hne w' hw => ⟨k + 1, rfl, by omega, Lib.hid (fun j hj => by
        by_cases e : j = k
        · subst e; exact hne
        · exact HN.out j (by omega)), Lib.hid (HD.out.up hw)⟩)
      clear hg hcl hbl HN HTR
      generalize L.getD k pr0 = y at *
      obtain ⟨⟨qs, qb, qe⟩, yA, yn, yc⟩ := y
      simp only at c0 c1 c2 HT HNX
      replace c0 : wr.cell? ⟨bs, off + k * 4, none⟩ = some (.int .i64 (qs : Int)) := c0
      replace c1 : wr.cell? ⟨bs, off + k * 4 + 1, none⟩ = some (.bool qb) := c1
      replace c2 : wr.cell? ⟨bs, off + k * 4 + 2, none⟩ = some (.bool qe) := c2
      by_cases e0 : qs = ps
      · subst e0
        by_cases e1 : qb = pb
        · subst e1
          by_cases e2 : qe = pe
          · subst e2
            have HX := Lib.hid (fun w' h => HPO.out true w' (by simpa using HT.out rfl) (HO.out.up (HD.out.up h)))
            clear HPO HNX HT
            have f1 : (qb == qb) = true := by simp
            have f2 : (qe == qe) = true := by simp
            go_upto_region 4 with fail
            go_quiet (fail)
            go_wp2_with fail
            go_ret
            exact HX.out _ ((Old.refl wr).drewN _)
          · have HX := Lib.hid (HNX.out (fun h => by injection h with _ _ h; exact e2 h))
            have f1 : (qb == qb) = true := by simp
            have f2 : (qe == pe) = false := by simpa using e2
            clear HPO HNX HT
            go_upto_region 4 with fail
            go_quiet (fail)
            go_wp2_with fail
            go_roundw
            case rel => exact HX.out _ ((Old.refl wr).drewN _)
            case measure => simp [intOf]; omega
        · have HX := Lib.hid (HNX.out (fun h => by injection h with _ h _; exact e1 h))
          have f1 : (qb == pb) = false := by simpa using e1
          clear HPO HNX HT
          go_upto_region 4 with fail
          go_quiet (fail)
          go_wp2_with fail
          go_roundw
          case rel => exact HX.out _ ((Old.refl wr).drewN _)
          case measure => simp [intOf]; omega
      · have HX := Lib.hid (HNX.out (fun h => by injection h with h _ _; exact e0 h))
        have f1 : ((qs : Int) == (ps : Int)) = false := by simp; omega
        clear HPO HNX HT
        go_upto_region 4 with fail
        go_quiet (fail)
        go_wp2_with fail
        go_roundw
        case rel => exact HX.out _ ((Old.refl wr).drewN _)
        case measure => simp [intOf]; omega
    · have HX := Lib.hid (HPO.out false wr ⟨fun h => absurd h (by decide), fun h => absurd (mem_keys.1 h) (fun ⟨j, hj, e⟩ => absurd e (HN.out j (by omega)))⟩ (HO.out.up HD.out))
      have i1 : ¬ (k : Int) < (L.length : Int) := by omega
      clear HPO HN HTR
      go_wp2_with fail
      go_ret
      exact HX.out
end Go.Proofs.Ythadkjgadhbidaa
