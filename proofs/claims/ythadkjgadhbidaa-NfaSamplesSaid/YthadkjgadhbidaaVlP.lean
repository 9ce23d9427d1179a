/-
  Which lists of nodes are a pattern: the program's test on plain lists. No program in sight.
-/
import Derived.Test.YthadkjgadhbidaaLgP
namespace Go.Proofs.Ythadkjgadhbidaa
open Go.RowKit
set_option linter.unusedVariables false

def kidsI (k : Int) : Int := if k = 1 ∨ k = 2 ∨ k = 8 ∨ k = 9 then 0 else if k = 5 ∨ k = 6 ∨ k = 7 then 1 else if k = 3 ∨ k = 4 then 2 else -1
def vstep (rs : List Int) (i : Nat) (x : Nd) : Option (List Int) :=
  if x.kind ≠ 2 ∧ x.set ≠ 0 then none
  else if kidsI x.kind < 0 ∨ (rs.length : Int) < kidsI x.kind then none
  else if x.left ≠ (rs.drop (rs.length - (kidsI x.kind).toNat)).getD 0 0 ∨ x.right ≠ (rs.drop (rs.length - (kidsI x.kind).toNat)).getD 1 0 then none
  else some (rs.take (rs.length - (kidsI x.kind).toNat) ++ [(i : Int)])
def vrun (l : List Nd) : Nat → Option (List Int)
  | 0 => some []
  | k + 1 => match vrun l k with
    | none => none
    | some rs => vstep rs k (nd l k)
def validM (l : List Nd) : Bool := decide (l.length ≤ 256) && (match vrun l l.length with
  | none => false
  | some rs => rs.length == 1)
theorem vrun_none {l : List Nd} {k m : Nat} (h : vrun l k = none) (hm : k ≤ m) : vrun l m = none := by
  induction m with
  | zero => obtain rfl : k = 0 := by omega
            exact h
  | succ m ih =>
    by_cases e : k = m + 1
    · subst e; exact h
    · rw [vrun, ih (by omega)]
theorem vstep_len {rs rs' : List Int} {i : Nat} {x : Nd} (h : vstep rs i x = some rs') : rs'.length ≤ rs.length + 1 := by
  unfold vstep at h
  split at h
  · cases h
  split at h
  · cases h
  split at h
  · cases h
  injection h with h
  subst h
  simp
theorem vrun_len {l : List Nd} : ∀ {k : Nat} {rs : List Int}, vrun l k = some rs → rs.length ≤ k
  | 0, rs, h => by injection h with h; subst h; simp
  | k + 1, rs, h => by
    rw [vrun] at h
    cases hr : vrun l k with
    | none => rw [hr] at h; cases h
    | some r0 =>
      rw [hr] at h
      have := vstep_len h
      have := vrun_len hr
      omega
end Go.Proofs.Ythadkjgadhbidaa
