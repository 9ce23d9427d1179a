/-
  The program's automaton of a pattern, on plain lists: it is valid, small, and wired as the nodes say. No program in sight.
-/
import Derived.Test.YthadkjgadhbidaaNfR
import Derived.Test.YthadkjgadhbidaaRgN
namespace Go.Proofs.Ythadkjgadhbidaa
open Go.RowKit
set_option linter.unusedVariables false

def pbF (l : List Nd) : Nat → Nat → Nat → List Nd → List Nd × Nat
  | 0, _, x, S => (S, x)
  | f + 1, n, x, S =>
    if (nd l n).kind = 2 then (S ++ [⟨1, x, 0, (nd l n).set⟩], S.length)
    else if (nd l n).kind = 8 then (S ++ [⟨3, x, 0, 0⟩], S.length)
    else if (nd l n).kind = 9 then (S ++ [⟨4, x, 0, 0⟩], S.length)
    else if (nd l n).kind = 3 then pbF l f (nd l n).left.toNat (pbF l f (nd l n).right.toNat x S).2 (pbF l f (nd l n).right.toNat x S).1
    else if (nd l n).kind = 4 then
      ((pbF l f (nd l n).right.toNat x (pbF l f (nd l n).left.toNat x S).1).1 ++ [⟨2, (pbF l f (nd l n).left.toNat x S).2, (pbF l f (nd l n).right.toNat x (pbF l f (nd l n).left.toNat x S).1).2, 0⟩],
        (pbF l f (nd l n).right.toNat x (pbF l f (nd l n).left.toNat x S).1).1.length)
    else if (nd l n).kind = 7 then ((pbF l f (nd l n).left.toNat x S).1 ++ [⟨2, (pbF l f (nd l n).left.toNat x S).2, x, 0⟩], (pbF l f (nd l n).left.toNat x S).1.length)
    else if (nd l n).kind = 5 ∨ (nd l n).kind = 6 then
      ((pbF l f (nd l n).left.toNat S.length (S ++ [⟨2, 0, x, 0⟩])).1.set S.length ⟨2, (pbF l f (nd l n).left.toNat S.length (S ++ [⟨2, 0, x, 0⟩])).2, x, 0⟩,
        if (nd l n).kind = 6 then (pbF l f (nd l n).left.toNat S.length (S ++ [⟨2, 0, x, 0⟩])).2 else S.length)
    else (S, x)
theorem nd_set_self {l : List Nd} {i : Nat} (h : i < l.length) (x : Nd) : nd (l.set i x) i = x := by
  unfold nd; rw [List.getD_eq_getElem?_getD, List.getElem?_set_self h]; rfl
theorem nd_set_ne {l : List Nd} {i j : Nat} (h : i ≠ j) (x : Nd) : nd (l.set i x) j = nd l j := by
  unfold nd; rw [List.getD_eq_getElem?_getD, List.getD_eq_getElem?_getD, List.getElem?_set_ne h]
theorem okSt_mk {B : Nat} {k b : Int} {a : Nat} {z : BSet} (h1 : 1 ≤ k) (h2 : k ≤ 5) (ha : a < B) (hb : k = 2 → 0 ≤ b ∧ b < B) : okSt B ⟨k, (a : Int), b, z⟩ :=
  ⟨h1, h2, fun _ => ⟨by simp only; omega, by simp only; omega⟩, hb⟩
theorem okSt_match {B : Nat} : okSt B ⟨5, 0, 0, 0⟩ := ⟨by simp, by simp, fun h => absurd rfl h, fun h => by simp at h⟩
/-- What a step of the making gives. -/
structure Made_ (l S : List Nd) (n x : Nat) (w : Nat) (r : List Nd × Nat) : Prop where
  len : S.length ≤ r.1.length
  few : r.1.length ≤ S.length + w
  old : ∀ i, i < S.length → nd r.1 i = nd S i
  frag : Frag l (nd r.1) (fun i => S.length ≤ i ∧ i < r.1.length) n r.2 x
  out : r.2 = x ∨ r.2 < r.1.length
  ok : ∀ B : Nat, r.1.length ≤ B → x < B → ∀ i, S.length ≤ i → i < r.1.length → okSt B (nd r.1 i)
  sets : (∀ y ∈ l, setOk y.set) → (∀ y ∈ S, setOk y.set) → ∀ y ∈ r.1, setOk y.set
theorem nd_mem {l : List Nd} {n : Nat} (h : n < l.length) : nd l n ∈ l := by
  unfold nd
  rw [List.getD_eq_getElem?_getD, List.getElem?_eq_getElem h]
  exact List.getElem_mem h
theorem made_one {l S : List Nd} {n x : Nat} {y : Nd} (h1 : Frag l (nd (S ++ [y])) (fun i => S.length ≤ i ∧ i < (S ++ [y]).length) n S.length x) (h2 : ∀ B : Nat, S.length + 1 ≤ B → x < B → okSt B y) (h3 : (∀ z ∈ l, setOk z.set) → setOk y.set) : Made_ l S n x 1 (S ++ [y], S.length) := by
  refine ⟨by simp, by simp, fun i hi => nd_append_left hi, h1, Or.inr (by simp), fun B hB hx i hi1 hi2 => ?_, fun hl hS z hz => ?_⟩
  · have : i = S.length := by simp at hi2; omega
    subst this
    rw [nd_last]
    exact h2 B (by simpa using hB) hx
  · rcases List.mem_append.mp hz with hz | hz
    · exact hS z hz
    · simp at hz; subst hz; exact h3 hl
theorem Sub.len_pos {l : List Nd} {a n : Nat} (h : Sub l a n) : a ≤ n ∧ n < l.length := h.le
theorem pbF_made {l : List Nd} {a n : Nat} (h : Sub l a n) : ∀ (f x : Nat) (S : List Nd), n < f → Made_ l S n x (n + 1 - a) (pbF l f n x S) := by
  induction h with
  | leaf n h hk h1 h2 h3 =>
    intro f x S hf
    obtain ⟨f, rfl⟩ : ∃ g, f = g + 1 := ⟨f - 1, by omega⟩
    rw [show n + 1 - n = 1 by omega, pbF]
    have hP : S.length ≤ S.length ∧ S.length < (S ++ [(⟨1, x, 0, (nd l n).set⟩ : Nd)]).length := ⟨Nat.le_refl _, by simp⟩
    by_cases k2 : (nd l n).kind = 2
    · rw [if_pos k2]
      refine made_one (.set n _ x k2 ⟨Nat.le_refl _, by simp⟩ (by rw [nd_last]) (by rw [nd_last]) (by rw [nd_last])) (fun B hB hx => okSt_mk (by decide) (by decide) (by omega) (fun e => absurd e (by decide))) (fun hl => hl (nd l n) (nd_mem h))
    rw [if_neg k2]
    by_cases k8 : (nd l n).kind = 8
    · rw [if_pos k8]
      refine made_one (.bol n _ x k8 ⟨Nat.le_refl _, by simp⟩ (by rw [nd_last]) (by rw [nd_last])) (fun B hB hx => okSt_mk (by decide) (by decide) (by omega) (fun e => absurd e (by decide))) (fun _ => setOk_zero)
    rw [if_neg k8]
    by_cases k9 : (nd l n).kind = 9
    · rw [if_pos k9]
      refine made_one (.eol n _ x k9 ⟨Nat.le_refl _, by simp⟩ (by rw [nd_last]) (by rw [nd_last])) (fun B hB hx => okSt_mk (by decide) (by decide) (by omega) (fun e => absurd e (by decide))) (fun _ => setOk_zero)
    rw [if_neg k9, if_neg (by omega), if_neg (by omega), if_neg (by omega), if_neg (by omega)]
    exact ⟨Nat.le_refl _, by simp, fun _ _ => rfl, .empty n x x (by omega) (Or.inl rfl), Or.inl rfl, fun B _ _ i hi1 hi2 => by simp only at hi2; omega, fun _ hS => hS⟩
  | one a n h hk h1 h2 h3 hs ih =>
    intro f x S hf
    obtain ⟨f, rfl⟩ : ∃ g, f = g + 1 := ⟨f - 1, by omega⟩
    have hle := hs.le
    have hL : (nd l (n + 1)).left.toNat = n := by omega
    rw [pbF, if_neg (by omega), if_neg (by omega), if_neg (by omega), if_neg (by omega), if_neg (by omega), hL]
    by_cases k7 : (nd l (n + 1)).kind = 7
    · rw [if_pos k7]
      have m := ih f x S (by omega)
      generalize pbF l f n x S = r at *
      obtain ⟨R, v⟩ := r
      obtain ⟨m1, m2, m3, m4, m5, m6, m7⟩ := m
      simp only at *
      refine ⟨by simp; omega, by simp; omega, fun i hi => by rw [nd_append_left (by omega)]; exact m3 i hi, ?_, Or.inr (by simp), fun B hB hx i hi1 hi2 => ?_, fun hl hS z hz => ?_⟩
      · refine .opt (n + 1) n R.length v x k7 h1 ⟨m1, by simp⟩ (by rw [nd_last]) (by rw [nd_last]) (by rw [nd_last]) (m4.congr (fun i hi => ⟨(nd_append_left hi.2).symm, hi.1, by simp; omega⟩))
      · simp at hB hi2
        by_cases e : i = R.length
        · subst e
          rw [nd_last]
          exact okSt_mk (by decide) (by decide) (by rcases m5 with m5 | m5 <;> omega) (fun _ => ⟨by omega, by omega⟩)
        · rw [nd_append_left (by omega)]
          exact m6 B (by omega) hx i hi1 (by omega)
      · rcases List.mem_append.mp hz with hz | hz
        · exact m7 hl hS z hz
        · simp at hz; subst hz; exact setOk_zero
    rw [if_neg k7, if_pos (by omega)]
    have m := ih f S.length (S ++ [⟨2, 0, x, 0⟩]) (by omega)
    generalize pbF l f n S.length (S ++ [⟨2, 0, x, 0⟩]) = r at *
    obtain ⟨R, v⟩ := r
    obtain ⟨m1, m2, m3, m4, m5, m6, m7⟩ := m
    simp only [List.length_append, List.length_singleton] at *
    have hself : nd (R.set S.length ⟨2, v, x, 0⟩) S.length = ⟨2, v, x, 0⟩ := nd_set_self (by omega) _
    have hbody : Frag l (nd (R.set S.length ⟨2, v, x, 0⟩)) (fun i => S.length ≤ i ∧ i < (R.set S.length ⟨2, v, x, 0⟩).length) n v S.length :=
      m4.congr (fun i hi => ⟨(nd_set_ne (by omega) _).symm, by omega, by rw [List.length_set]; exact hi.2⟩)
    have hvl : v < R.length := by rcases m5 with m5 | m5 <;> omega
    refine ⟨by rw [List.length_set]; omega, by rw [List.length_set]; omega, fun i hi => ?_, ?_, Or.inr ?_, fun B hB hx i hi1 hi2 => ?_, fun hl hS z hz => ?_⟩
    · rw [nd_set_ne (by omega), m3 i (by omega), nd_append_left hi]
    · by_cases k6 : (nd l (n + 1)).kind = 6
      · rw [if_pos k6]
        exact .plus (n + 1) n v S.length x k6 h1 hbody ⟨Nat.le_refl _, by rw [List.length_set]; omega⟩ (by rw [hself]) (by rw [hself]) (by rw [hself])
      · rw [if_neg k6]
        exact .star (n + 1) n S.length v S.length x (by omega) h1 ⟨Nat.le_refl _, by rw [List.length_set]; omega⟩ (by rw [hself]) (by rw [hself]) (by rw [hself]) hbody (Or.inl rfl)
    · rw [List.length_set]
      split <;> omega
    · rw [List.length_set] at hB hi2
      by_cases e : i = S.length
      · subst e
        rw [hself]
        exact okSt_mk (by decide) (by decide) (by omega) (fun _ => ⟨by omega, by omega⟩)
      · rw [nd_set_ne (by omega)]
        exact m6 B hB (by omega) i (by omega) hi2
    · rcases List.mem_or_eq_of_mem_set hz with hz | hz
      · refine m7 hl (fun y hy => ?_) z hz
        rcases List.mem_append.mp hy with hy | hy
        · exact hS y hy
        · simp at hy; subst hy; exact setOk_zero
      · subst hz; exact setOk_zero
  | two a m n h hk h1 h2 h3 hs1 hs2 i1 i2 =>
    intro f x S hf
    obtain ⟨f, rfl⟩ : ∃ g, f = g + 1 := ⟨f - 1, by omega⟩
    have hle1 := hs1.le
    have hle2 := hs2.le
    have hL : (nd l (n + 1)).left.toNat = m := by omega
    have hR : (nd l (n + 1)).right.toNat = n := by omega
    rw [pbF, if_neg (by omega), if_neg (by omega), if_neg (by omega), hL, hR]
    by_cases k3 : (nd l (n + 1)).kind = 3
    · rw [if_pos k3]
      have p := i2 f x S (by omega)
      generalize pbF l f n x S = r at *
      obtain ⟨R, v⟩ := r
      have q := i1 f v R (by omega)
      simp only at *
      generalize pbF l f m v R = r2 at *
      obtain ⟨R2, v2⟩ := r2
      obtain ⟨p1, p2, p3, p4, p5, p6, p7⟩ := p
      obtain ⟨q1, q2, q3, q4, q5, q6, q7⟩ := q
      simp only at *
      refine ⟨by simp only; omega, by simp only; omega, fun i hi => by rw [q3 i (by omega)]; exact p3 i hi, ?_, ?_, fun B hB hx i hi1 hi2 => ?_, fun hl hS => q7 hl (p7 hl hS)⟩
      · exact .cat (n + 1) m n v2 v x k3 h1 h2 (q4.congr (fun i hi => ⟨rfl, by omega, hi.2⟩)) (p4.congr (fun i hi => ⟨(q3 i hi.2).symm, hi.1, by show i < R2.length; have := hi.2; omega⟩))
      · simp only
        rcases q5 with q5 | q5
        · rcases p5 with p5 | p5
          · exact Or.inl (by omega)
          · exact Or.inr (by omega)
        · exact Or.inr q5
      · simp only at hB hi2
        by_cases e : i < R.length
        · rw [q3 i e]
          exact p6 B (by omega) hx i hi1 e
        · refine q6 B hB ?_ i (by omega) hi2
          rcases p5 with p5 | p5 <;> omega
    · rw [if_neg k3, if_pos (by omega)]
      have p := i1 f x S (by omega)
      generalize pbF l f m x S = r at *
      obtain ⟨R, v⟩ := r
      have q := i2 f x R (by omega)
      simp only at *
      generalize pbF l f n x R = r2 at *
      obtain ⟨R2, v2⟩ := r2
      obtain ⟨p1, p2, p3, p4, p5, p6, p7⟩ := p
      obtain ⟨q1, q2, q3, q4, q5, q6, q7⟩ := q
      simp only at *
      refine ⟨by simp; omega, by simp; omega, fun i hi => by rw [nd_append_left (by omega), q3 i (by omega)]; exact p3 i hi, ?_, Or.inr (by simp), fun B hB hx i hi1 hi2 => ?_, fun hl hS z hz => ?_⟩
      · refine .alt (n + 1) m n R2.length v v2 x x x (by omega) h1 h2 ⟨by omega, by simp⟩ (by rw [nd_last]) (by rw [nd_last]) (by rw [nd_last]) (p4.congr (fun i hi => ⟨?_, hi.1, by simp; omega⟩)) (Or.inl rfl) (q4.congr (fun i hi => ⟨(nd_append_left hi.2).symm, by omega, by simp; omega⟩)) (Or.inl rfl)
        rw [nd_append_left (by omega), q3 i hi.2]
      · simp at hB hi2
        by_cases e : i = R2.length
        · subst e
          rw [nd_last]
          exact okSt_mk (by decide) (by decide) (by rcases p5 with p5 | p5 <;> omega) (fun _ => ⟨by omega, by rcases q5 with q5 | q5 <;> omega⟩)
        · rw [nd_append_left (by omega)]
          by_cases e2 : i < R.length
          · rw [q3 i e2]
            exact p6 B (by omega) hx i hi1 e2
          · exact q6 B (by omega) hx i (by omega) (by omega)
      · rcases List.mem_append.mp hz with hz | hz
        · exact q7 hl (p7 hl hS) z hz
        · simp at hz; subst hz; exact setOk_zero
/-- The program's automaton. -/
def pcompM (l : List Nd) : List Nd := (pbF l l.length (l.length - 1) 1 [⟨2, 0, 0, 0⟩, ⟨5, 0, 0, 0⟩]).1.set 0 ⟨2, (pbF l l.length (l.length - 1) 1 [⟨2, 0, 0, 0⟩, ⟨5, 0, 0, 0⟩]).2, (pbF l l.length (l.length - 1) 1 [⟨2, 0, 0, 0⟩, ⟨5, 0, 0, 0⟩]).2, 0⟩
theorem pcomp_ok {l : List Nd} (hv : validM l = true) : Wired l (pcompM l) ∧ svalid (pcompM l) = true ∧ (pcompM l).length ≤ l.length + 2 ∧ 2 ≤ (pcompM l).length ∧ ((∀ y ∈ l, setOk y.set) → ∀ y ∈ pcompM l, setOk y.set) := by
  have hlen := validM_len hv
  have m := pbF_made (validM_sub hv) l.length 1 [⟨2, 0, 0, 0⟩, ⟨5, 0, 0, 0⟩] (by omega)
  unfold pcompM
  generalize pbF l l.length (l.length - 1) 1 [⟨2, 0, 0, 0⟩, ⟨5, 0, 0, 0⟩] = r at *
  obtain ⟨R, v⟩ := r
  obtain ⟨m1, m2, m3, m4, m5, m6, m7⟩ := m
  simp only [List.length_cons, List.length_nil] at *
  have h0 : nd (R.set 0 ⟨2, v, v, 0⟩) 0 = ⟨2, v, v, 0⟩ := nd_set_self (by omega) _
  have h1 : nd (R.set 0 ⟨2, v, v, 0⟩) 1 = ⟨5, 0, 0, 0⟩ := by rw [nd_set_ne (by omega), m3 1 (by omega)]; rfl
  have hvl : v < R.length := by rcases m5 with m5 | m5 <;> omega
  refine ⟨⟨fun _ => True, v, 1, Or.inr ⟨trivial, by rw [h0], by rw [h0], by rw [h0]⟩, m4.congr (fun i hi => ⟨(nd_set_ne (by omega) _).symm, trivial⟩), by rw [h1]⟩, ?_, by rw [List.length_set]; omega, by rw [List.length_set]; omega, fun hl z hz => ?_⟩
  · refine decide_eq_true ⟨by rw [List.length_set]; omega, by rw [List.length_set]; omega, fun x hx => ?_⟩
    rw [List.length_set]
    obtain ⟨i, hi, rfl⟩ := List.mem_iff_getElem.mp hx
    rw [List.length_set] at hi
    have e : (R.set 0 ⟨2, v, v, 0⟩)[i]'(by rw [List.length_set]; exact hi) = nd (R.set 0 ⟨2, v, v, 0⟩) i := by
      unfold nd
      rw [List.getD_eq_getElem?_getD, List.getElem?_eq_getElem (by rw [List.length_set]; exact hi)]
      rfl
    rw [e]
    by_cases e0 : i = 0
    · subst e0
      rw [h0]
      exact okSt_mk (by decide) (by decide) (by omega) (fun _ => ⟨by omega, by omega⟩)
    · by_cases e1 : i = 1
      · subst e1
        rw [h1]
        exact okSt_match
      · rw [nd_set_ne (by omega)]
        exact m6 R.length (Nat.le_refl _) (by omega) i (by omega) hi
  · rcases List.mem_or_eq_of_mem_set hz with hz | hz
    · refine m7 hl (fun y hy => ?_) z hz
      simp at hy
      rcases hy with rfl | rfl <;> exact setOk_zero
    · subst hz; exact setOk_zero
/-- The automaton's run finds the least number of bytes within which the pattern matches. -/
theorem pcomp_run {l : List Nd} (hv : validM l = true) (t : List Nat) : nrunM (pcompM l) t = rfirstM l t := by
  obtain ⟨hw, hs, _⟩ := pcomp_ok hv
  refine LeastHit.one (l := l) (t := t) ?_ (rfirst_least hv t)
  rw [← least_hit (g := nfaG (pcompM l)) (fun n hn => hw.hit t n hn)]
  exact nrun_least hs t
end Go.Proofs.Ythadkjgadhbidaa
