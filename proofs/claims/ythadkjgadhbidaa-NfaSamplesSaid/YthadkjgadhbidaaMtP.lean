/-
  What Play returns, on plain lists: the chunk and the number of bytes. No program in sight.
-/
import Derived.Test.YthadkjgadhbidaaNfC
namespace Go.Proofs.Ythadkjgadhbidaa
open Go.RowKit
set_option linter.unusedVariables false

/-- The chunk that holds byte p. -/
def chunkIdx : List (List Nat) → Nat → Nat
  | [], _ => 0
  | c :: cs, p => if p < c.length then 0 else 1 + chunkIdx cs (p - c.length)
/-- The bytes ahead of chunk j. -/
def baseC (cs : List (List Nat)) (j : Nat) : Nat := (cs.take j).flatten.length
theorem baseC_succ (cs : List (List Nat)) (j : Nat) (hj : j < cs.length) : baseC cs (j + 1) = baseC cs j + (cs.getD j []).length := by
  unfold baseC
  rw [List.take_add_one, List.getElem?_eq_getElem hj, List.flatten_append, List.length_append, List.getD_eq_getElem?_getD, List.getElem?_eq_getElem hj]
  simp
theorem baseC_all (cs : List (List Nat)) : baseC cs cs.length = cs.flatten.length := by unfold baseC; rw [List.take_length]
theorem flat_get : ∀ (cs : List (List Nat)) (j k : Nat), j < cs.length → k < (cs.getD j []).length → cs.flatten.getD (baseC cs j + k) 0 = (cs.getD j []).getD k 0 ∧ chunkIdx cs (baseC cs j + k) = j ∧ baseC cs j + k < cs.flatten.length
  | [], j, k, h, _ => by simp at h
  | c :: cs, 0, k, _, hk => by
    have hk' : k < c.length := hk
    have e : baseC (c :: cs) 0 = 0 := rfl
    rw [e, Nat.zero_add, chunkIdx, if_pos hk', List.flatten_cons]
    refine ⟨?_, rfl, by simp; omega⟩
    rw [List.getD_eq_getElem?_getD, List.getElem?_append_left hk', List.getD_eq_getElem?_getD]
    rfl
  | c :: cs, j + 1, k, hj, hk => by
    have hj' : j < cs.length := by simpa using hj
    have hk' : k < (cs.getD j []).length := by simpa using hk
    obtain ⟨h1, h2, h3⟩ := flat_get cs j k hj' hk'
    have e : baseC (c :: cs) (j + 1) = c.length + baseC cs j := by simp [baseC]
    rw [e, List.flatten_cons]
    refine ⟨?_, ?_, by rw [List.length_append]; omega⟩
    · rw [List.getD_eq_getElem?_getD, List.getElem?_append_right (by omega), show c.length + baseC cs j + k - c.length = baseC cs j + k by omega, ← List.getD_eq_getElem?_getD, h1]
      simp
    · rw [chunkIdx, if_neg (by omega), show c.length + baseC cs j + k - c.length = baseC cs j + k by omega, h2]
      omega
/-- Play's chunk and number, out of the least number of bytes. -/
def playM (R : Int) (cs : List (List Nat)) : Int × Int := if R = 0 then (-1, 0) else if R < 0 then ((cs.length : Int), -1) else ((chunkIdx cs (R - 1).toNat : Int), R)
def mA1 (st : List Nd) (bol : Bool) (ch : Nat) (L : List Nat) : List Nat := if ch = 10 then nspread st bol true L else L
def mA2 (st : List Nd) (bol : Bool) (ch : Nat) (L : List Nat) : List Nat := nspread st (ch == 10) false (enterM (nstep st ch (mA1 st bol ch L)) 0)
/-- The run, on from the marks at a place. -/
def nrunA (st : List Nd) (t : List Nat) (f i : Nat) (L1 : List Nat) : Int :=
  if ndone st L1 = true then i
  else if i = t.length then -1
  else if t.getD i 0 = 10 then
    if ndone st (nspread st (bolT t i) true L1) = true then (i : Int) + 1 else nrunF st t f (i + 1) (nstep st (t.getD i 0) (nspread st (bolT t i) true L1))
  else nrunF st t f (i + 1) (nstep st (t.getD i 0) L1)
theorem nrunF_A (st : List Nd) (t : List Nat) (f i : Nat) (L : List Nat) : nrunF st t (f + 1) i L = nrunA st t f i (nspread st (bolT t i) false (enterM L 0)) := rfl
theorem bolT_next (t : List Nat) (i : Nat) : bolT t (i + 1) = (t.getD i 0 == 10) := by unfold bolT; simp
/-- One byte more. -/
theorem feed_step {st : List Nd} {t : List Nat} {f i : Nat} {L : List Nat} {R : Int} (hd : ndone st L = false) (hi : i < t.length) (hU : nrunA st t (f + 1) i L = R) :
    (ndone st (mA1 st (bolT t i) (t.getD i 0) L) = true → R = (i : Int) + 1) ∧
    (ndone st (mA1 st (bolT t i) (t.getD i 0) L) = false → nrunA st t f (i + 1) (mA2 st (bolT t i) (t.getD i 0) L) = R ∧ (ndone st (mA2 st (bolT t i) (t.getD i 0) L) = true → R = (i : Int) + 1)) := by
  unfold nrunA at hU
  rw [if_neg (by rw [hd]; simp), if_neg (by omega)] at hU
  have key : ndone st (mA1 st (bolT t i) (t.getD i 0) L) = false → nrunF st t (f + 1) (i + 1) (nstep st (t.getD i 0) (mA1 st (bolT t i) (t.getD i 0) L)) = R := by
    intro h1
    unfold mA1 at h1 ⊢
    by_cases hc : t.getD i 0 = 10
    · rw [if_pos hc] at h1 hU ⊢
      rw [if_neg (by rw [h1]; simp)] at hU
      exact hU
    · rw [if_neg hc] at hU ⊢
      exact hU
  refine ⟨fun h1 => ?_, fun h1 => ?_⟩
  · unfold mA1 at h1
    by_cases hc : t.getD i 0 = 10
    · rw [if_pos hc] at h1 hU
      rw [if_pos h1] at hU
      exact hU.symm
    · rw [if_neg hc] at h1
      rw [h1] at hd
      cases hd
  · have k := key h1
    rw [nrunF_A, bolT_next] at k
    have k2 : nrunA st t f (i + 1) (mA2 st (bolT t i) (t.getD i 0) L) = R := k
    refine ⟨k2, fun h2 => ?_⟩
    unfold nrunA at k2
    rw [if_pos h2] at k2
    omega
theorem end_step {st : List Nd} {t : List Nat} {f : Nat} {L : List Nat} {R : Int} (hd : ndone st L = false) (hU : nrunA st t f t.length L = R) : R = -1 := by
  unfold nrunA at hU
  rw [if_neg (by rw [hd]; simp), if_pos rfl] at hU
  exact hU.symm
end Go.Proofs.Ythadkjgadhbidaa
