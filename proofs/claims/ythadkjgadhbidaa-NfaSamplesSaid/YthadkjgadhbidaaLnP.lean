/-
  Going through a text in all ways at once: the program's walker on plain lists. No program in sight.
-/
import Derived.Test.YthadkjgadhbidaaVlP
namespace Go.Proofs.Ythadkjgadhbidaa
open Go.RowKit
set_option linter.unusedVariables false

def enterM (L : List Nat) (s : Nat) : List Nat := if s ∈ L then L else L ++ [s]
def lfN (l : List Nd) (x : Nat) : Nat := (nd l x).left.toNat
def rtN (l : List Nd) (x : Nat) : Nat := (nd l x).right.toNat
def intoM (l : List Nd) (x : Nat) (bol eol : Bool) (L : List Nat) : List Nat :=
  if (nd l x).kind = 1 then enterM L (2 * x + 1)
  else if (nd l x).kind = 8 then (if bol = true then enterM L (2 * x + 1) else L)
  else if (nd l x).kind = 9 then (if eol = true then enterM L (2 * x + 1) else L)
  else if (nd l x).kind = 5 ∨ (nd l x).kind = 7 then enterM (enterM L (2 * x + 1)) (2 * lfN l x)
  else if (nd l x).kind = 3 ∨ (nd l x).kind = 6 then enterM L (2 * lfN l x)
  else if (nd l x).kind = 4 then enterM (enterM L (2 * lfN l x)) (2 * rtN l x)
  else L
/-- From the spot behind x, a kid of up. -/
def outOfM (l : List Nd) (up x : Nat) (L : List Nat) : List Nat :=
  if (nd l up).kind = 3 then (if (x : Int) = (nd l up).left then enterM L (2 * rtN l up) else enterM L (2 * up + 1))
  else if (nd l up).kind = 5 then enterM L (2 * up)
  else if (nd l up).kind = 6 then enterM (enterM L (2 * up + 1)) (2 * x)
  else enterM L (2 * up + 1)
/-- The parents, behind k nodes. -/
def parM (l : List Nd) : Nat → List Nat
  | 0 => List.replicate l.length 0
  | k + 1 =>
    if (nd l k).kind = 3 ∨ (nd l k).kind = 4 then ((parM l k).set (rtN l k) k).set (lfN l k) k
    else if (nd l k).kind = 5 ∨ (nd l k).kind = 6 ∨ (nd l k).kind = 7 then (parM l k).set (lfN l k) k
    else parM l k
theorem parM_length (l : List Nd) (k : Nat) : (parM l k).length = l.length := by
  induction k with
  | zero => simp [parM]
  | succ k ih =>
    rw [parM]
    split
    · simp [ih]
    · split
      · simp [ih]
      · exact ih
def visitM (l : List Nd) (ps : List Nat) (bol eol : Bool) (s : Nat) (L : List Nat) : List Nat :=
  if s % 2 = 0 then intoM l (s / 2) bol eol L
  else if s / 2 ≠ l.length - 1 then outOfM l (ps.getD (s / 2) 0) (s / 2) L else L
def spreadF (l : List Nd) (ps : List Nat) (bol eol : Bool) : Nat → Nat → List Nat → List Nat
  | 0, _, L => L
  | f + 1, i, L => if i < L.length then spreadF l ps bol eol f (i + 1) (visitM l ps bol eol (L.getD i 0) L) else L
def spreadM (l : List Nd) (bol eol : Bool) (L : List Nat) : List Nat := spreadF l (parM l l.length) bol eol (2 * l.length) 0 L
def overM (l : List Nd) (c : Nat) (s : Nat) (L : List Nat) : List Nat :=
  if s % 2 = 0 ∧ (nd l (s / 2)).kind = 2 ∧ hasB (nd l (s / 2)).set c = true then enterM L (2 * (s / 2) + 1) else L
def stepM (l : List Nd) (c : Nat) (L : List Nat) : List Nat := L.foldl (fun acc s => overM l c s acc) []
def doneM (l : List Nd) (L : List Nat) : Bool := decide (2 * (l.length - 1) + 1 ∈ L)
def endsF (l : List Nd) (t : List Nat) : Nat → Nat → List Nat → List Nat → List Nat
  | 0, _, _, E => E
  | f + 1, i, L, E =>
    if L.length = 0 then E
    else
      let L' := spreadM l (bolT t i) (eolT t i) L
      let E' := if doneM l L' = true then E ++ [i] else E
      if i = t.length then E' else endsF l t f (i + 1) (stepM l (t.getD i 0) L') E'
def endsM (l : List Nd) (t : List Nat) (at_ : Int) : List Nat :=
  if validM l = true ∧ 0 ≤ at_ ∧ at_ ≤ t.length then endsF l t (t.length + 1) at_.toNat [2 * (l.length - 1)] [] else []
def firstF (l : List Nd) (t : List Nat) : Nat → Nat → List Nat → Int
  | 0, _, _ => -1
  | f + 1, i, L =>
    let L1 := spreadM l (bolT t i) false (enterM L (2 * (l.length - 1)))
    if doneM l L1 = true then i
    else if i = t.length then -1
    else if t.getD i 0 = 10 then
      let L2 := spreadM l (bolT t i) true L1
      if doneM l L2 = true then (i : Int) + 1 else firstF l t f (i + 1) (stepM l (t.getD i 0) L2)
    else firstF l t f (i + 1) (stepM l (t.getD i 0) L1)
def firstM (l : List Nd) (t : List Nat) : Int := if validM l = true then firstF l t (t.length + 1) 0 [] else -1

/-- A list of marked spots. -/
def Spots (n : Nat) (L : List Nat) : Prop := L.Nodup ∧ ∀ s ∈ L, s < n
theorem nodup_len : ∀ (n : Nat) (L : List Nat), L.Nodup → (∀ s ∈ L, s < n) → L.length ≤ n
  | 0, L, _, h => by
    cases L with
    | nil => exact Nat.le_refl _
    | cons a L => exact absurd (h a (by simp)) (by omega)
  | n + 1, L, hn, h => by
    by_cases hm : n ∈ L
    · have := nodup_len n (L.erase n) (hn.erase n) (fun s hs => by
        have h1 := (List.Nodup.mem_erase_iff hn).mp hs
        have := h s h1.2
        have := h1.1
        omega)
      rw [List.length_erase_of_mem hm] at this
      omega
    · have := nodup_len n L hn (fun s hs => by
        have := h s hs
        have : s ≠ n := fun e => hm (e ▸ hs)
        omega)
      omega
theorem Spots.len {n : Nat} {L : List Nat} (h : Spots n L) : L.length ≤ n := nodup_len n L h.1 h.2
theorem Spots.nil (n : Nat) : Spots n [] := ⟨List.nodup_nil, fun s h => by cases h⟩
theorem Spots.enter {n : Nat} {L : List Nat} (h : Spots n L) {s : Nat} (hs : s < n) : Spots n (enterM L s) := by
  unfold enterM
  split
  · exact h
  · rename_i hn
    refine ⟨?_, fun x hx => ?_⟩
    · rw [List.nodup_append]
      exact ⟨h.1, by simp, fun a ha b hb => by simp at hb; subst hb; intro e; subst e; exact hn ha⟩
    · rcases List.mem_append.mp hx with hx | hx
      · exact h.2 x hx
      · simp at hx; omega
end Go.Proofs.Ythadkjgadhbidaa
