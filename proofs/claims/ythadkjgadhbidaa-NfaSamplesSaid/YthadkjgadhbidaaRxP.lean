/-
  The reference's reader of patterns on plain lists (fuel; none: the fuel was spent). No program in sight.
-/
import Derived.Test.YthadkjgadhbidaaWords
namespace Go.Proofs.Ythadkjgadhbidaa
open Go.RowKit
set_option linter.unusedVariables false

/-- A set of bytes: bit b for byte b. -/
abbrev BSet := Nat
def w64 : Nat := 18446744073709551616
def setW (s : BSet) (i : Nat) : Nat := s / w64 ^ i % w64
def hasB (s : BSet) (b : Nat) : Bool := s.testBit b
def withB (s : BSet) (b : Nat) : BSet := s ||| 2 ^ b
def rangeB (lo hi : Nat) : BSet := (List.range (hi + 1 - lo)).foldl (fun s k => withB s (lo + k)) 0
def notB (s : BSet) : BSet := s ^^^ (2 ^ 256 - 1)
def onlyFrom (s : BSet) : Nat → Nat → Nat
  | 0, _ => 0
  | f + 1, b => if hasB s b then b else onlyFrom s f (b + 1)
def onlyB (s : BSet) : Nat := onlyFrom s 256 0
def markB (b : Nat) : Bool := (33 ≤ b && b ≤ 47) || (58 ≤ b && b ≤ 64) || (91 ≤ b && b ≤ 96) || (123 ≤ b && b ≤ 126)
def namedB (b : Nat) : BSet × Bool × Bool :=
  if b = 110 then (withB 0 10, true, true)
  else if b = 116 then (withB 0 9, true, true)
  else if b = 114 then (withB 0 13, true, true)
  else if b = 100 then (rangeB 48 57, false, true)
  else if b = 119 then ((rangeB 97 122 ||| rangeB 65 90) ||| (rangeB 48 57 ||| withB 0 95), false, true)
  else if b = 115 then ((withB 0 32 ||| rangeB 9 10) ||| withB 0 13, false, true)
  else if markB b = true then (withB 0 b, true, true)
  else (0, false, false)

structure Nd where
  kind : Int
  left : Int
  right : Int
  set : BSet
deriving DecidableEq
def kidsN (k : Int) : Int := if k = 3 ∨ k = 4 then 2 else if k = 5 ∨ k = 6 ∨ k = 7 then 1 else 0
def shiftN (k kid place n : Int) : Int := if kid < kidsN k then place + n else 0
def shiftNd (n : Int) (x : Nd) : Nd := ⟨x.kind, shiftN x.kind 0 x.left n, shiftN x.kind 1 x.right n, x.set⟩
def joinN (k : Int) (l r : List Nd) : List Nd :=
  l ++ r.map (shiftNd l.length) ++ [⟨k, (l.length : Int) - 1, if 0 < r.length then (l.length : Int) + r.length - 1 else 0, 0⟩]

structure Ps where
  at_ : Nat
  deep : Nat
  e : Int
deriving DecidableEq
def failP (p : Ps) (c : Int) : Ps := if p.e = 0 then { p with e := c } else p
def moreP (B : List Nat) (p : Ps) : Bool := p.e == 0 && decide (p.at_ < B.length)
def upP (p : Ps) : Ps := { p with at_ := p.at_ + 1 }
def bAt (B : List Nat) (p : Ps) : Nat := B.getD p.at_ 0
def escP (B : List Nat) (p : Ps) : (BSet × Bool) × Ps :=
  if p.at_ < B.length then
    let r := namedB (bAt B p)
    ((r.1, r.2.1), upP (if r.2.2 = true then p else failP p 82))
  else ((0, false), failP p 82)
def singleP (B : List Nat) (p : Ps) : (BSet × Bool) × Ps :=
  if bAt B p = 92 then escP B (upP p)
  else if bAt B p = 94 ∨ bAt B p = 45 ∨ bAt B p = 93 then ((0, false), failP (upP p) 80)
  else ((withB 0 (bAt B p), true), upP p)
def elemP (B : List Nat) (p : Ps) : BSet × Ps :=
  let a := singleP B p
  if moreP B a.2 = true ∧ bAt B a.2 = 45 then
    let q := upP a.2
    if a.1.2 = false ∨ B.length ≤ q.at_ then (a.1.1, failP q 80)
    else
      let b := singleP B q
      (rangeB (onlyB a.1.1) (onlyB b.1.1), if b.2.e = 0 ∧ (b.1.2 = false ∨ onlyB b.1.1 < onlyB a.1.1) then failP b.2 80 else b.2)
  else (a.1.1, a.2)
def classLoop (B : List Nat) (neg : Bool) : Nat → Bool → BSet → Ps → Option (BSet × Ps)
  | 0, _, _, _ => none
  | f + 1, first, s, p =>
    if moreP B p = true then
      if bAt B p = 93 then some (if neg = true then notB s else s, upP (if first = true then failP p 80 else p))
      else classLoop B neg f false (s ||| (elemP B p).1) (elemP B p).2
    else some (s, failP p 80)
def classP (B : List Nat) (f : Nat) (p : Ps) : Option (BSet × Ps) :=
  if moreP B p = true ∧ bAt B p = 94 then classLoop B true f true 0 (upP p) else classLoop B false f true 0 p
def leafN (k : Int) (s : BSet) : List Nd := [⟨k, 0, 0, s⟩]
mutual
def altP (B : List Nat) : Nat → Ps → Option (List Nd × Ps)
  | 0, _ => none
  | f + 1, p => match catP B f p with
    | none => none
    | some (l, q) => altLoop B f l q
def altLoop (B : List Nat) : Nat → List Nd → Ps → Option (List Nd × Ps)
  | 0, _, _ => none
  | f + 1, l, p =>
    if moreP B p = true ∧ bAt B p = 124 then match catP B f (upP p) with
      | none => none
      | some (x, q) => if q.e = 0 then altLoop B f (joinN 4 l x) q else some ([], q)
    else some (l, p)
def catP (B : List Nat) : Nat → Ps → Option (List Nd × Ps)
  | 0, _ => none
  | f + 1, p => catLoop B f [] p
def catLoop (B : List Nat) : Nat → List Nd → Ps → Option (List Nd × Ps)
  | 0, _, _ => none
  | f + 1, l, p =>
    if moreP B p = true ∧ bAt B p ≠ 124 ∧ bAt B p ≠ 41 then match partP B f p with
      | none => none
      | some (x, q) => if q.e = 0 then catLoop B f (if l.length = 0 then x else joinN 3 l x) q else some ([], q)
    else some (if l.length = 0 then leafN 1 0 else l, p)
def partP (B : List Nat) : Nat → Ps → Option (List Nd × Ps)
  | 0, _ => none
  | f + 1, p => match atomP B f p with
    | none => none
    | some (l, q) => partLoop B f l q
def partLoop (B : List Nat) : Nat → List Nd → Ps → Option (List Nd × Ps)
  | 0, _, _ => none
  | f + 1, l, p =>
    if moreP B p = true then
      if bAt B p = 42 then partLoop B f (joinN 5 l []) (upP p)
      else if bAt B p = 43 then partLoop B f (joinN 6 l []) (upP p)
      else if bAt B p = 63 then partLoop B f (joinN 7 l []) (upP p)
      else some (l, p)
    else some (l, p)
def atomP (B : List Nat) : Nat → Ps → Option (List Nd × Ps)
  | 0, _ => none
  | f + 1, p =>
    let b := bAt B p
    let q := upP p
    if b = 46 then some (leafN 2 (notB (withB 0 10)), q)
    else if b = 94 then some (leafN 8 0, q)
    else if b = 36 then some (leafN 9 0, q)
    else if b = 92 then some (leafN 2 (escP B q).1.1, (escP B q).2)
    else if b = 91 then match classP B f q with
      | none => none
      | some (s, r) => some (leafN 2 s, r)
    else if b = 93 then some (leafN 2 (withB 0 b), failP q 80)
    else if b = 42 ∨ b = 43 ∨ b = 63 then some (leafN 2 (withB 0 b), failP q 81)
    else if b = 40 then
      let q' : Ps := { q with deep := q.deep + 1 }
      if 24 < q'.deep then some ([], failP q' 84)
      else match altP B f q' with
        | none => none
        | some (l, r) =>
          let r' := if r.e = 0 ∧ B.length ≤ r.at_ then failP r 83 else r
          some (l, { r' with at_ := r'.at_ + 1, deep := r'.deep - 1 })
    else some (leafN 2 (withB 0 b), q)
end
/-- The nodes of a pattern, or the error. -/
def parseF (f : Nat) (B : List Nat) : Option (List Nd × Int) :=
  if 128 < B.length then some ([], 1)
  else match altP B f ⟨0, 0, 0⟩ with
    | none => none
    | some (l, p) =>
      let q := if p.e = 0 ∧ p.at_ < B.length then failP p 83 else p
      let r := if q.e = 0 ∧ 256 < l.length then failP q 1 else q
      some (if r.e = 0 then (l, 0) else ([], r.e))
example : parseF 100 [97, 42, 98] = some ([⟨2, 0, 0, 2 ^ 97⟩, ⟨5, 0, 0, 0⟩, ⟨2, 0, 0, 2 ^ 98⟩, ⟨3, 1, 2, 0⟩], 0) := by decide +kernel
end Go.Proofs.Ythadkjgadhbidaa
