/-
  The reference's reach: one sweep over the states; what it comes to. No program in sight.
-/
import Derived.Test.YthadkjgadhbidaaNfR
import Derived.Test.YthadkjgadhbidaaRnW
namespace Go.Proofs.Ythadkjgadhbidaa
open Go.RowKit
set_option linter.unusedVariables false

def updV (V : Nat → Bool) (a : Nat) : Nat → Bool := fun k => if k = a then true else V k
def falses (n : Nat) (V : Nat → Bool) : Nat := ((List.range n).filter fun k => !V k).length
theorem updV_self (V : Nat → Bool) (a : Nat) : updV V a a = true := if_pos rfl
theorem updV_sup (V : Nat → Bool) (a s : Nat) (h : V s = true) : updV V a s = true := by unfold updV; split; rfl; exact h
theorem falses_succ (n : Nat) (V : Nat → Bool) : falses (n + 1) V = falses n V + (if V n = true then 0 else 1) := by
  unfold falses
  rw [List.range_succ, List.filter_append, List.length_append]
  cases h : V n <;> simp [h]
theorem falses_upd (V : Nat → Bool) (a : Nat) (h : V a = false) : ∀ n, a < n → falses n (updV V a) + 1 = falses n V
  | 0, hn => by omega
  | n + 1, hn => by
    rw [falses_succ, falses_succ]
    by_cases e : a = n
    · subst e
      rw [updV_self, if_pos rfl, h]
      have : ∀ m, m ≤ a → falses m (updV V a) = falses m V := by
        intro m
        induction m with
        | zero => intro _; rfl
        | succ m ih =>
          intro hm
          rw [falses_succ, falses_succ, ih (by omega)]
          have e3 : updV V a m = V m := by unfold updV; rw [if_neg (show m ≠ a by omega)]
          rw [e3]
      rw [this a (Nat.le_refl _)]
      simp
    · have ih := falses_upd V a h n (by omega)
      have e2 : updV V a n = V n := by unfold updV; rw [if_neg (Ne.symm e)]
      rw [e2]
      omega
/-- A sweep over the states, i of them done, from V0 on; VS: where reach began. -/
structure Swp (st : List Nd) (bol eol : Bool) (VS V0 : Nat → Bool) (i : Nat) (ag : Bool) (V : Nat → Bool) : Prop where
  sup : ∀ s, V0 s = true → V s = true
  snd : ∀ s, V s = true → Clo (nfaG st) bol eol (fun s => VS s = true) s
  cls : ag = false → V = V0 ∧ ∀ j, j < i → V0 j = true → ∀ s', (nfaG st).eps bol eol j s' → V0 s' = true
  cnt : ag = true → falses st.length V < falses st.length V0
section
variable {st : List Nd} {bol eol : Bool} {VS V0 V : Nat → Bool} {i : Nat} {ag : Bool}
theorem Swp.start (h : ∀ s, V0 s = true → Clo (nfaG st) bol eol (fun s => VS s = true) s) : Swp st bol eol VS V0 0 false V0 :=
  ⟨fun _ h => h, h, fun _ => ⟨rfl, fun j hj => by omega⟩, fun h => (by cases h)⟩
theorem Swp.skip (h : Swp st bol eol VS V0 i ag V) (hi : V i = false) : Swp st bol eol VS V0 (i + 1) ag V := by
  refine ⟨h.sup, h.snd, fun ha => ?_, h.cnt⟩
  obtain ⟨e, hc⟩ := h.cls ha
  refine ⟨e, fun j hj hv => ?_⟩
  by_cases ej : j = i
  · subst ej; rw [← e, hi] at hv; cases hv
  · exact hc j (by omega) hv
theorem Swp.keep (h : Swp st bol eol VS V0 i ag V) (hi : ∀ s', (nfaG st).eps bol eol i s' → V s' = true) : Swp st bol eol VS V0 (i + 1) ag V := by
  refine ⟨h.sup, h.snd, fun ha => ?_, h.cnt⟩
  obtain ⟨e, hc⟩ := h.cls ha
  refine ⟨e, fun j hj hv => ?_⟩
  by_cases ej : j = i
  · subst ej; rw [← e]; exact hi
  · exact hc j (by omega) hv
theorem Swp.put {a : Nat} (h : Swp st bol eol VS V0 i ag V) (he : (nfaG st).eps bol eol i a) (hi : V i = true) (ha : V a = false) (hl : a < st.length) : Swp st bol eol VS V0 i true (updV V a) := by
  refine ⟨fun s hs => updV_sup V a s (h.sup s hs), fun s hs => ?_, fun h => (by cases h), fun _ => ?_⟩
  · unfold updV at hs
    split at hs
    · rename_i e
      subst e
      exact .step i s (h.snd i hi) he
    · exact h.snd s hs
  · have hf := falses_upd V a ha st.length hl
    cases ag with
    | true => have := h.cnt rfl; omega
    | false => rw [← (h.cls rfl).1]; omega
theorem Swp.next (h : Swp st bol eol VS V0 i true V) : Swp st bol eol VS V0 (i + 1) true V := ⟨h.sup, h.snd, fun h => (by cases h), h.cnt⟩
theorem Swp.closed (h : Swp st bol eol VS V0 st.length false V) (h0 : ∀ s, VS s = true → V0 s = true) (s : Nat) : V s = true ↔ Clo (nfaG st) bol eol (fun s => VS s = true) s := by
  refine ⟨h.snd s, fun hc => ?_⟩
  obtain ⟨e, hcl⟩ := h.cls rfl
  induction hc with
  | here s hs => exact h.sup s (h0 s hs)
  | step s s' _ he ih =>
    rw [e] at ih ⊢
    by_cases hs : s < st.length
    · exact hcl s hs ih s' he
    · exfalso
      have hd : nd st s = ⟨0, 0, 0, 0⟩ := by unfold nd; rw [List.getD_eq_getElem?_getD, List.getElem?_eq_none (by omega)]; rfl
      rcases he with ⟨h1, _⟩ | ⟨h1, _⟩ | ⟨h1, _⟩ <;> (rw [hd] at h1; simp at h1)
end
def acceptedM (st : List Nd) (V : Nat → Bool) : Bool := (List.range st.length).any fun i => V i && decide ((nd st i).kind = 5)
theorem acceptedM_iff (st : List Nd) (V : Nat → Bool) : acceptedM st V = true ↔ ∃ s, s < st.length ∧ V s = true ∧ (nd st s).kind = 5 := by
  unfold acceptedM
  rw [List.any_eq_true]
  constructor
  · rintro ⟨s, h1, h2⟩
    rw [Bool.and_eq_true, decide_eq_true_iff] at h2
    exact ⟨s, List.mem_range.mp h1, h2⟩
  · rintro ⟨s, h1, h2⟩
    exact ⟨s, List.mem_range.mpr h1, by rw [Bool.and_eq_true, decide_eq_true_iff]; exact h2⟩
end Go.Proofs.Ythadkjgadhbidaa
