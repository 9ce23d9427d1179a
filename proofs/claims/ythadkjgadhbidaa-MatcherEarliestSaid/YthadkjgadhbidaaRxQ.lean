/-
  The walk of the reference's Parse.
-/
import Derived.Test.YthadkjgadhbidaaRxU
namespace Go.Proofs.Ythadkjgadhbidaa
open Go.RowKit
set_option linter.unusedVariables false

theorem all_ok : ∀ f : Nat, AltOK f ∧ CatOK f ∧ PartOK f ∧ AtomOK f := by
  intro f
  induction f using Nat.strongRecOn with
  | _ f ih =>
    cases f with
    | zero =>
      refine ⟨?_, ?_, ?_, ?_⟩
      · intro g s p R w _ _ _ h; simp [altP] at h
      · intro g s p R w _ _ _ h; simp [catP] at h
      · intro g s p R w _ _ _ _ h; simp [partP] at h
      · intro g s p R w _ _ _ _ h; simp [atomP] at h
    | succ f =>
      refine ⟨altC f (fun k hk => (ih k (by omega)).2.1), catC f (fun k hk => (ih k (by omega)).2.2.1), partC f (ih f (by omega)).2.2.2, ?_⟩
      intro g s p R w h1 h2 h3 h4 h5
      exact atomC f (ih f (by omega)).1 g s p R w h1 h2 h3 h4 h5
def ParsePost (w : World) (r : List Nd × Int) (e : Ending) (w' : World) : Prop := ∃ v, e = .returned (.tuple #[v, .int .i64 r.2]) ∧ Own w' w.heap.size 114 7 v r.1.length (ndsV r.1) ∧ Old w w'
theorem LB.start {w w' : World} {s : ByteArray} {q : Ps} {v : Value} {l : List Nd} {o : Obj} (h : LB (w.alloc o) s w.heap.size q v l w') : Own w' w.heap.size 114 7 v l.length (ndsV l) ∧ Old w w' := by
  refine ⟨h.ow.base (by simp), ?_⟩
  exact Below.grown ((Old.refl w).alloc o) h.gr (by simp) (by intro k hk; injection hk with hk; omega)
set_option maxHeartbeats 4000000 in
set_option maxRecDepth 100000 in
theorem parseC (f : Nat) (s : ByteArray) (r : List Nd × Int) (w : World) (hs : s.size ≤ 9223372036854775807) (hR : parseF f (bs s) = some r) : Calls Try.prog 22 #[.string s] w (ParsePost w r) := by
  unfold parseF at hR
  rw [bs_length] at hR
  by_cases hl : 128 < s.size
  · rw [if_pos hl] at hR
    have HE := Lib.hid (Option.some.inj hR).symm
    have hl2 : (128 : Int) < (s.size : Int) := by omega
    clear hR hl
    go_enter Try.func22, Try.ntmps22
    go_wp2_with fail
    refine bodyPost_ret (v := .tuple #[.slice none 0 0, .int .i64 1]) (by simp [results, Try.results22, go_sem]) rfl ?_
    rw [HE.out]
    exact ⟨_, rfl, Own.nil_ _ _ _ _, Old.refl _⟩
  rw [if_neg hl] at hR
  cases hq : altP (bs s) f ⟨0, 0, 0⟩ with
  | none => rw [hq] at hR; cases hR
  | some lp =>
  rw [hq] at hR
  obtain ⟨l, q⟩ := lp
  have hst : Start s.size ⟨0, 0, 0⟩ := ⟨rfl, Nat.zero_le _, Nat.zero_le _⟩
  have hP : (w.alloc (PzC s ⟨0, 0, 0⟩)).heap[w.heap.size]? = some (PzC s ⟨0, 0, 0⟩) := heap_alloc_new w _
  have hA := (all_ok f).1 w.heap.size s ⟨0, 0, 0⟩ (l, q) (w.alloc (PzC s ⟨0, 0, 0⟩)) hP (by omega) hst hq
  have hG : Good (bs s).length ⟨0, 0, 0⟩ l q 0 := (parse_good (bs s) f).1 ⟨0, 0, 0⟩ (l, q) (by rw [bs_length]; exact hst) hq
  rw [bs_length] at hG
  obtain ⟨a, d, e⟩ := q
  have hatb := hG.atb
  have hlen := hG.len
  simp only at hatb
  have hl2 : ¬ (128 : Int) < (s.size : Int) := by omega
  have hR2 : r = (if (if (if e = 0 ∧ a < s.size then failP ⟨a, d, e⟩ 83 else ⟨a, d, e⟩ : Ps).e = 0 ∧ 256 < l.length then failP (if e = 0 ∧ a < s.size then failP ⟨a, d, e⟩ 83 else ⟨a, d, e⟩) 1 else (if e = 0 ∧ a < s.size then failP ⟨a, d, e⟩ 83 else ⟨a, d, e⟩) : Ps).e = 0 then (l, 0) else ([], (if (if e = 0 ∧ a < s.size then failP ⟨a, d, e⟩ 83 else ⟨a, d, e⟩ : Ps).e = 0 ∧ 256 < l.length then failP (if e = 0 ∧ a < s.size then failP ⟨a, d, e⟩ 83 else ⟨a, d, e⟩) 1 else (if e = 0 ∧ a < s.size then failP ⟨a, d, e⟩ 83 else ⟨a, d, e⟩) : Ps).e)) := (Option.some.inj hR).symm
  have HR2 := Lib.hid hR2
  have HA := Lib.hid hA
  clear hA hR hR2 hG hq hst hP hl
  go_enter Try.func22, Try.ntmps22
  go_wp2_with fail
  refine (HA.out).mono ?_; rintro e V ⟨v, rfl, hL⟩
  go_upto_region 5 with fail
  obtain ⟨c0, c1, c2, c3, f1', f2', f3'⟩ := PzC_cells hL.pz
  simp only at c0 c1 c2 c3
  clear c0 c2 f1' f2' f3'
  obtain ⟨Al, cl, rfl, htl, _⟩ := hL.ow.shape
  clear htl
  by_cases he : e = 0
  · subst he
    by_cases hal : a < s.size
    · have HE : Hid (r = ([], 83)) := Lib.hid (by rw [HR2.out]; simp [hal, failP])
      have hd1 : decide (a < s.size) = true := decide_eq_true hal
      clear HR2 hal
      have HFL := Lib.hid (failC w.heap.size s ⟨a, d, 0⟩ 83 V hL.pz)
      go_wp2_with fail
      refine (HFL.out).mono ?_; rintro e X ⟨rfl, hp, hg2⟩
      have hL2 := hL.keep hp hg2
      have hfe : failP ⟨a, d, 0⟩ 83 = ⟨a, d, 83⟩ := rfl
      rw [hfe] at hL2
      clear hp hg2 HFL hL hfe
      clear c1 c3 hd1
      go_upto_region 7 with fail
      obtain ⟨c0, c1, c2, c3, f1', f2', f3'⟩ := PzC_cells hL2.pz
      simp only at c0 c1 c2 c3
      clear c0 c1 c2 f1' f2' f3'
      go_wp2_with fail
      go_quiet (fail)
      have hL3 := hL2.drewN nq
      clear c3
      go_wp2_with fail
      refine bodyPost_ret (v := .tuple #[.slice none 0 0, .int .i64 83]) (by simp [results, Try.results22, go_sem]) rfl ?_
      rw [HE.out]
      exact ⟨_, rfl, Own.nil_ _ _ _ _, hL3.start.2⟩
    · have hd1 : decide (a < s.size) = false := decide_eq_false hal
      by_cases hll : 256 < l.length
      · have HE : Hid (r = ([], 1)) := Lib.hid (by rw [HR2.out]; simp [hal, hll, failP])
        have hd2 : (256 : Int) < (l.length : Int) := by omega
        clear HR2 hal hll
        have HFL := Lib.hid (failC w.heap.size s ⟨a, d, 0⟩ 1 V hL.pz)
        go_wp2_with fail
        refine (HFL.out).mono ?_; rintro e X ⟨rfl, hp, hg2⟩
        have hL2 := hL.keep hp hg2
        have hfe : failP ⟨a, d, 0⟩ 1 = ⟨a, d, 1⟩ := rfl
        rw [hfe] at hL2
        clear hp hg2 HFL hL hfe
        clear c1 c3 hd1 hd2
        go_upto_region 9 with fail
        obtain ⟨c0, c1, c2, c3, f1', f2', f3'⟩ := PzC_cells hL2.pz
        simp only at c0 c1 c2 c3
        clear c0 c1 c2 f1' f2' f3'
        go_wp2_with fail
        go_quiet (fail)
        have hL3 := hL2.drewN nq
        clear c3
        go_wp2_with fail
        refine bodyPost_ret (v := .tuple #[.slice none 0 0, .int .i64 1]) (by simp [results, Try.results22, go_sem]) rfl ?_
        rw [HE.out]
        exact ⟨_, rfl, Own.nil_ _ _ _ _, hL3.start.2⟩
      · have HE : Hid (r = (l, 0)) := Lib.hid (by rw [HR2.out]; simp [hal, hll])
        have hd2 : ¬ (256 : Int) < (l.length : Int) := by omega
        clear HR2 hal hll
        go_wp2_with fail
        refine bodyPost_ret (v := .tuple #[.slice Al l.length cl, .int .i64 0]) (by simp [results, Try.results22, go_sem]) rfl ?_
        rw [HE.out]
        exact ⟨_, rfl, hL.start⟩
  · have HE : Hid (r = ([], e)) := Lib.hid (by rw [HR2.out]; simp [he])
    have hd1 : (e == 0) = false := by simpa using he
    have hd2 : (e != 0) = true := by simpa using he
    clear HR2 he
    have hL2 := hL
    clear hL c1 c3
    obtain ⟨c0, c1, c2, c3, f1', f2', f3'⟩ := PzC_cells hL2.pz
    simp only at c0 c1 c2 c3
    clear c0 c1 c2 f1' f2' f3'
    go_wp2_with fail
    go_quiet (fail)
    have hL3 := hL2.drewN nq
    clear c3
    go_wp2_with fail
    refine bodyPost_ret (v := .tuple #[.slice none 0 0, .int .i64 e]) (by simp [results, Try.results22, go_sem]) rfl ?_
    rw [HE.out]
    exact ⟨_, rfl, Own.nil_ _ _ _ _, hL3.start.2⟩
end Go.Proofs.Ythadkjgadhbidaa
