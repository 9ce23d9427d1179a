/-
  Running an automaton: the program's list of marked states, the reference's marks. No program in sight.
-/
import Derived.Test.YthadkjgadhbidaaNfP
import Derived.Test.YthadkjgadhbidaaLnP
namespace Go.Proofs.Ythadkjgadhbidaa
open Go.RowKit
set_option linter.unusedVariables false

/-- A state of an automaton with n states. -/
def okSt (n : Nat) (x : Nd) : Prop := 1 ≤ x.kind ∧ x.kind ≤ 5 ∧ (x.kind ≠ 5 → 0 ≤ x.left ∧ x.left < n) ∧ (x.kind = 2 → 0 ≤ x.right ∧ x.right < n)
instance (n : Nat) (x : Nd) : Decidable (okSt n x) := by unfold okSt; infer_instance
def svalid (st : List Nd) : Bool := decide (1 ≤ st.length ∧ st.length ≤ 513 ∧ ∀ x ∈ st, okSt st.length x)
theorem svalid_ok {st : List Nd} (h : svalid st = true) : 1 ≤ st.length ∧ st.length ≤ 513 ∧ ∀ s, s < st.length → okSt st.length (nd st s) := by
  obtain ⟨h1, h2, h3⟩ := of_decide_eq_true h
  refine ⟨h1, h2, fun s hs => h3 _ ?_⟩
  unfold nd
  rw [List.getD_eq_getElem?_getD, List.getElem?_eq_getElem hs]
  exact List.getElem_mem hs
def nvisit (st : List Nd) (bol eol : Bool) (s : Nat) (L : List Nat) : List Nat :=
  if (nd st s).kind = 2 then enterM (enterM L (nd st s).left.toNat) (nd st s).right.toNat
  else if ((nd st s).kind = 3 ∧ bol = true) ∨ ((nd st s).kind = 4 ∧ eol = true) then enterM L (nd st s).left.toNat else L
def nspreadF (st : List Nd) (bol eol : Bool) : Nat → Nat → List Nat → List Nat
  | 0, _, L => L
  | f + 1, i, L => if i < L.length then nspreadF st bol eol f (i + 1) (nvisit st bol eol (L.getD i 0) L) else L
def nspread (st : List Nd) (bol eol : Bool) (L : List Nat) : List Nat := nspreadF st bol eol st.length 0 L
def nover (st : List Nd) (c s : Nat) (L : List Nat) : List Nat := if (nd st s).kind = 1 ∧ hasB (nd st s).set c = true then enterM L (nd st s).left.toNat else L
def nstep (st : List Nd) (c : Nat) (L : List Nat) : List Nat := L.foldl (fun acc s => nover st c s acc) []
def ndone (st : List Nd) (L : List Nat) : Bool := L.any fun s => decide ((nd st s).kind = 5)
def nrunF (st : List Nd) (t : List Nat) : Nat → Nat → List Nat → Int
  | 0, _, _ => -1
  | f + 1, i, L =>
    let L1 := nspread st (bolT t i) false (enterM L 0)
    if ndone st L1 = true then i
    else if i = t.length then -1
    else if t.getD i 0 = 10 then
      let L2 := nspread st (bolT t i) true L1
      if ndone st L2 = true then (i : Int) + 1 else nrunF st t f (i + 1) (nstep st (t.getD i 0) L2)
    else nrunF st t f (i + 1) (nstep st (t.getD i 0) L1)
def nrunM (st : List Nd) (t : List Nat) : Int := if svalid st = true then nrunF st t (t.length + 1) 0 [] else -1

theorem enterM_mem (L : List Nat) (s x : Nat) : x ∈ enterM L s ↔ x ∈ L ∨ x = s := by
  unfold enterM
  split
  · rename_i h
    exact ⟨Or.inl, fun h' => h'.elim id (fun e => e ▸ h)⟩
  · rw [List.mem_append, List.mem_singleton]
theorem enterM_ext (L : List Nat) (s : Nat) : ∃ e, enterM L s = L ++ e := by
  unfold enterM
  split
  · exact ⟨[], by simp⟩
  · exact ⟨[s], rfl⟩
section
variable {st : List Nd} (hv : svalid st = true)
include hv
theorem mem_nvisit (bol eol : Bool) {s : Nat} (hs : s < st.length) (L : List Nat) (s' : Nat) : s' ∈ nvisit st bol eol s L ↔ s' ∈ L ∨ (nfaG st).eps bol eol s s' := by
  obtain ⟨_, _, hok⟩ := svalid_ok hv
  obtain ⟨k1, k2, k3, k4⟩ := hok s hs
  unfold nvisit
  show _ ↔ _ ∨ (((nd st s).kind = 2 ∧ (((s' : Int) = (nd st s).left) ∨ ((s' : Int) = (nd st s).right))) ∨ ((nd st s).kind = 3 ∧ bol = true ∧ (s' : Int) = (nd st s).left) ∨ ((nd st s).kind = 4 ∧ eol = true ∧ (s' : Int) = (nd st s).left))
  by_cases h2 : (nd st s).kind = 2
  · rw [if_pos h2, enterM_mem, enterM_mem]
    have := k3 (by omega)
    have := k4 h2
    constructor
    · rintro ((h | h) | h)
      · exact Or.inl h
      · exact Or.inr (Or.inl ⟨h2, Or.inl (by omega)⟩)
      · exact Or.inr (Or.inl ⟨h2, Or.inr (by omega)⟩)
    · rintro (h | ⟨_, h | h⟩ | ⟨h, _⟩ | ⟨h, _⟩)
      · exact Or.inl (Or.inl h)
      · exact Or.inl (Or.inr (by omega))
      · exact Or.inr (by omega)
      · omega
      · omega
  · rw [if_neg h2]
    by_cases h3 : ((nd st s).kind = 3 ∧ bol = true) ∨ ((nd st s).kind = 4 ∧ eol = true)
    · rw [if_pos h3, enterM_mem]
      have := k3 (by omega)
      constructor
      · rintro (h | h)
        · exact Or.inl h
        · rcases h3 with ⟨a, b⟩ | ⟨a, b⟩
          · exact Or.inr (Or.inr (Or.inl ⟨a, b, by omega⟩))
          · exact Or.inr (Or.inr (Or.inr ⟨a, b, by omega⟩))
      · rintro (h | ⟨h, _⟩ | ⟨_, _, h⟩ | ⟨_, _, h⟩)
        · exact Or.inl h
        · omega
        · exact Or.inr (by omega)
        · exact Or.inr (by omega)
    · rw [if_neg h3]
      constructor
      · exact Or.inl
      · rintro (h | ⟨h, _⟩ | ⟨h, h', _⟩ | ⟨h, h', _⟩)
        · exact h
        · omega
        · exact absurd (Or.inl ⟨h, h'⟩) h3
        · exact absurd (Or.inr ⟨h, h'⟩) h3
omit hv in
theorem nvisit_ext (bol eol : Bool) (s : Nat) (L : List Nat) : ∃ e, nvisit st bol eol s L = L ++ e := by
  unfold nvisit
  split
  · obtain ⟨e1, h1⟩ := enterM_ext L (nd st s).left.toNat
    obtain ⟨e2, h2⟩ := enterM_ext (enterM L (nd st s).left.toNat) (nd st s).right.toNat
    exact ⟨e1 ++ e2, by rw [h2, h1, List.append_assoc]⟩
  split
  · exact enterM_ext _ _
  · exact ⟨[], by simp⟩
theorem Spots.nvisit {bol eol : Bool} {s : Nat} (hs : s < st.length) {L : List Nat} (h : Spots st.length L) : Spots st.length (nvisit st bol eol s L) := by
  obtain ⟨_, _, hok⟩ := svalid_ok hv
  obtain ⟨k1, k2, k3, k4⟩ := hok s hs
  unfold Go.Proofs.Ythadkjgadhbidaa.nvisit
  split
  · rename_i h2
    have := k3 (by omega)
    have := k4 h2
    exact (h.enter (by omega)).enter (by omega)
  split
  · have := k3 (by omega)
    exact h.enter (by omega)
  · exact h
theorem Spots.nspreadF {bol eol : Bool} : ∀ (f i : Nat) (L : List Nat), Spots st.length L → Spots st.length (nspreadF st bol eol f i L)
  | 0, _, _, h => h
  | f + 1, i, L, h => by
    rw [Go.Proofs.Ythadkjgadhbidaa.nspreadF]
    split
    · rename_i hi
      refine Spots.nspreadF f _ _ (Spots.nvisit hv ?_ h)
      rw [List.getD_eq_getElem?_getD, List.getElem?_eq_getElem hi]
      exact h.2 _ (List.getElem_mem hi)
    · exact h
theorem nspreadF_spec (bol eol : Bool) : ∀ (f i : Nat) (L : List Nat), Spots st.length L → st.length ≤ f + i →
    (∀ j, j < i → ∀ h : j < L.length, ∀ s', (nfaG st).eps bol eol L[j] s' → s' ∈ L) →
    (∀ s ∈ L, s ∈ nspreadF st bol eol f i L) ∧
    (∀ s ∈ nspreadF st bol eol f i L, ∀ s', (nfaG st).eps bol eol s s' → s' ∈ nspreadF st bol eol f i L) ∧
    (∀ P : Nat → Prop, (∀ s s', P s → (nfaG st).eps bol eol s s' → P s') → (∀ s ∈ L, P s) → ∀ s ∈ nspreadF st bol eol f i L, P s)
  | 0, i, L, hS, hf, hc => by
    have hlen := hS.len
    refine ⟨fun s h => h, fun s hs s' he => ?_, fun P _ hP => hP⟩
    rw [Go.Proofs.Ythadkjgadhbidaa.nspreadF] at hs ⊢
    obtain ⟨j, hj, rfl⟩ := List.mem_iff_getElem.mp hs
    exact hc j (by omega) hj s' he
  | f + 1, i, L, hS, hf, hc => by
    have hlen := hS.len
    rw [nspreadF]
    by_cases hi : i < L.length
    · rw [if_pos hi]
      have hg : L.getD i 0 = L[i] := by rw [List.getD_eq_getElem?_getD, List.getElem?_eq_getElem hi]; rfl
      have hsl : L[i] < st.length := hS.2 _ (List.getElem_mem hi)
      rw [hg]
      obtain ⟨e, he⟩ := nvisit_ext (st := st) bol eol L[i] L
      have hm := fun s' => mem_nvisit hv bol eol hsl L s'
      have hS' := Spots.nvisit hv (bol := bol) (eol := eol) hsl hS
      obtain ⟨q1, q2, q3⟩ := nspreadF_spec bol eol f (i + 1) (nvisit st bol eol L[i] L) hS' (by omega) (by
        intro j hj h s' hs'
        by_cases hjL : j < L.length
        · have hjj : (nvisit st bol eol L[i] L)[j] = L[j] := by
            simp only [he]
            exact List.getElem_append_left hjL
          rw [hjj] at hs'
          rw [hm]
          by_cases hji : j = i
          · subst hji
            exact Or.inr hs'
          · exact Or.inl (hc j (by omega) hjL s' hs')
        · omega)
      refine ⟨fun s h => q1 s ((hm s).2 (Or.inl h)), q2, fun P hP hL => q3 P hP (fun s hs => ?_)⟩
      rcases (hm s).1 hs with h | h
      · exact hL s h
      · exact hP _ _ (hL _ (List.getElem_mem hi)) h
    · rw [if_neg hi]
      refine ⟨fun s h => h, fun s hs s' he => ?_, fun P _ hP => hP⟩
      obtain ⟨j, hj, rfl⟩ := List.mem_iff_getElem.mp hs
      exact hc j (by omega) hj s' he
theorem nspread_clo (bol eol : Bool) {L : List Nat} (hS : Spots st.length L) (s : Nat) : s ∈ nspread st bol eol L ↔ Clo (nfaG st) bol eol (fun s => s ∈ L) s := by
  obtain ⟨q1, q2, q3⟩ := nspreadF_spec hv bol eol st.length 0 L hS (by omega) (fun j hj => by omega)
  constructor
  · exact q3 _ (fun s s' h he => .step s s' h he) (fun s h => .here s h) s
  · intro h
    induction h with
    | here s h => exact q1 s h
    | step s s' _ he ih => exact q2 s ih s' he
end
theorem nstepF_ok {st : List Nd} (hv : svalid st = true) (c : Nat) : ∀ (S acc : List Nat), (∀ s ∈ S, s < st.length) → Spots st.length acc →
    Spots st.length (S.foldl (fun acc s => nover st c s acc) acc) ∧ ∀ s', s' ∈ S.foldl (fun acc s => nover st c s acc) acc ↔ s' ∈ acc ∨ ∃ s ∈ S, (nfaG st).byt c s s'
  | [], acc, _, h => ⟨h, fun s' => by simp⟩
  | s :: S, acc, hS, h => by
    have hs : s < st.length := hS s (by simp)
    obtain ⟨_, _, hok⟩ := svalid_ok hv
    obtain ⟨k1, k2, k3, k4⟩ := hok s hs
    have h1 : Spots st.length (nover st c s acc) ∧ ∀ s', s' ∈ nover st c s acc ↔ s' ∈ acc ∨ (nfaG st).byt c s s' := by
      unfold nover
      show _ ∧ ∀ s' : Nat, _ ↔ _ ∨ ((nd st s).kind = 1 ∧ hasB (nd st s).set c = true ∧ (s' : Int) = (nd st s).left)
      split
      · rename_i hc
        have := k3 (by omega)
        refine ⟨h.enter (by omega), fun s' => ?_⟩
        rw [enterM_mem]
        exact ⟨fun h => h.imp id (fun e => ⟨hc.1, hc.2, by omega⟩), fun h => h.imp id (fun e => by have := e.2.2; omega)⟩
      · rename_i hc
        exact ⟨h, fun s' => ⟨Or.inl, fun h => h.elim id (fun e => absurd ⟨e.1, e.2.1⟩ hc)⟩⟩
    obtain ⟨q1, q2⟩ := nstepF_ok hv c S (nover st c s acc) (fun x hx => hS x (by simp [hx])) h1.1
    refine ⟨q1, fun s' => ?_⟩
    rw [List.foldl_cons, q2, h1.2]
    constructor
    · rintro ((h | h) | ⟨x, hx, h⟩)
      · exact Or.inl h
      · exact Or.inr ⟨s, by simp, h⟩
      · exact Or.inr ⟨x, by simp [hx], h⟩
    · rintro (h | ⟨x, hx, h⟩)
      · exact Or.inl (Or.inl h)
      · rcases List.mem_cons.mp hx with rfl | hx
        · exact Or.inl (Or.inr h)
        · exact Or.inr ⟨x, hx, h⟩
theorem Spots.nstep {st : List Nd} (hv : svalid st = true) (c : Nat) {L : List Nat} (h : Spots st.length L) : Spots st.length (nstep st c L) := (nstepF_ok hv c L [] h.2 (Spots.nil _)).1
theorem mem_nstep {st : List Nd} (hv : svalid st = true) (c : Nat) {L : List Nat} (h : Spots st.length L) (s' : Nat) : s' ∈ nstep st c L ↔ ∃ s, s ∈ L ∧ (nfaG st).byt c s s' := by
  unfold nstep
  rw [(nstepF_ok hv c L [] h.2 (Spots.nil _)).2]
  simp
theorem ndone_iff (st : List Nd) (L : List Nat) : ndone st L = true ↔ ∃ s, s ∈ L ∧ (nfaG st).fin s := by
  unfold ndone
  rw [List.any_eq_true]
  show _ ↔ ∃ s, s ∈ L ∧ (nd st s).kind = 5
  simp only [decide_eq_true_eq]
theorem eolT_ten {t : List Nat} {i : Nat} (hi : i < t.length) (h : t.getD i 0 = 10) : eolT t i = true := by
  unfold eolT
  rw [h, decide_eq_true hi]
  rfl
theorem eolT_not {t : List Nat} {i : Nat} (h : t.getD i 0 ≠ 10) : eolT t i = false := by
  unfold eolT
  rw [Bool.and_eq_false_iff]
  right
  simpa using h
theorem nrunF_runs {st : List Nd} (hv : svalid st = true) (t : List Nat) : ∀ (f i : Nat) (L : List Nat), Spots st.length L → i ≤ t.length → t.length < f + i → Runs (nfaG st) t i (fun s => s ∈ L) (nrunF st t f i L)
  | 0, i, L, hS, hi, hf => by omega
  | f + 1, i, L, hS, hi, hf => by
    have h1 := (svalid_ok hv).1
    have hS1 : Spots st.length (enterM L 0) := hS.enter (by omega)
    have hS2 : Spots st.length (nspread st (bolT t i) false (enterM L 0)) := Spots.nspreadF hv _ _ _ hS1
    have hA : ∀ s, s ∈ nspread st (bolT t i) false (enterM L 0) ↔ Clo (nfaG st) (bolT t i) false (fun s => s ∈ L ∨ s = (nfaG st).s0) s := by
      intro s
      rw [nspread_clo hv _ _ hS1]
      exact Clo.iff_ (fun s => enterM_mem L 0 s) s
    rw [nrunF]
    generalize nspread st (bolT t i) false (enterM L 0) = L1 at *
    simp only
    split
    · rename_i hd
      exact .done i _ (fun s => s ∈ L1) hA ((ndone_iff st L1).1 hd)
    rename_i hd
    have hd' : ∀ s, s ∈ L1 → ¬ (nfaG st).fin s := fun s h1 h2 => hd ((ndone_iff st L1).2 ⟨s, h1, h2⟩)
    split
    · rename_i he
      exact .stop i _ (fun s => s ∈ L1) hA hd' he
    rename_i hne
    have hil : i < t.length := by omega
    split
    · rename_i hc
      have hS3 : Spots st.length (nspread st (bolT t i) true L1) := Spots.nspreadF hv _ _ _ hS2
      have hB : ∀ s, s ∈ nspread st (bolT t i) true L1 ↔ Clo (nfaG st) (bolT t i) (eolT t i) (fun s => s ∈ L1) s := by
        intro s
        rw [eolT_ten hil hc]
        exact nspread_clo hv _ _ hS2 s
      generalize nspread st (bolT t i) true L1 = L2 at *
      split
      · rename_i hd2
        exact .late i _ (fun s => s ∈ L1) (fun s => s ∈ L2) hA hd' hil hB ((ndone_iff st L2).1 hd2)
      · rename_i hd2
        have hd2' : ∀ s, s ∈ L2 → ¬ (nfaG st).fin s := fun s h1 h2 => hd2 ((ndone_iff st L2).2 ⟨s, h1, h2⟩)
        exact .step i _ (fun s => s ∈ L1) (fun s => s ∈ L2) (fun s => s ∈ nstep st (t.getD i 0) L2) _ hA hd' hil hB hd2' (mem_nstep hv _ hS3) (nrunF_runs hv t f (i + 1) _ (Spots.nstep hv _ hS3) (by omega) (by omega))
    · rename_i hc
      have hB : ∀ s, s ∈ L1 ↔ Clo (nfaG st) (bolT t i) (eolT t i) (fun s => s ∈ L1) s := by
        rw [eolT_not hc]
        refine Clo.closed (fun s s' hs he => ?_)
        rw [hA] at hs ⊢
        exact .step s s' hs he
      exact .step i _ (fun s => s ∈ L1) (fun s => s ∈ L1) (fun s => s ∈ nstep st (t.getD i 0) L1) _ hA hd' hil hB hd' (mem_nstep hv _ hS2) (nrunF_runs hv t f (i + 1) _ (Spots.nstep hv _ hS2) (by omega) (by omega))
theorem nrun_least {st : List Nd} (hv : svalid st = true) (t : List Nat) : GLeast (nfaG st) t (nrunM st t) := by
  unfold nrunM
  rw [if_pos hv]
  refine Runs.law0 (nfaG_mono st) ?_
  have := nrunF_runs hv t (t.length + 1) 0 [] (Spots.nil _) (Nat.zero_le _) (by omega)
  simpa using this
end Go.Proofs.Ythadkjgadhbidaa
