/-
  The law of XRegInv once more; only the edges that bind are asked to go back.
-/
import Derived.Test.YtpknglclcdgfbaaWords
import Derived.Orders
namespace Go.Proofs.Ytpknglclcdgfbaa
open Go.RowKit
set_option linter.unusedVariables false

section
variable {P : Program} {ops : Array Oper} {Q : Exit → Act → World → Prop}

def TextOrder2 (ops : Array Oper) : Bool := (List.range ops.size).all fun i => ((ops[i]?).map (·.after.all fun e => !Region.binds .any e || decide (e.on < i))).getD true

def Closed2 (ops : Array Oper) (listed : Array Bool) : Prop :=
  ∀ (i : Nat) (o : Oper), ops[i]? = some o → listed.getD i false = true → ∀ e ∈ o.after, Region.binds .any e = true → listed.getD e.on false = true

theorem wpAny_inv2 (hto : TextOrder2 ops = true) (I : Array Bool → Act → World → Prop)
    (hdone : ∀ a w, I (Array.replicate ops.size true) a w → Q .normal a w)
    (hstep : ∀ (i : Nat) (o : Oper) (listed : Array Bool) (a : Act) (w : World), ops[i]? = some o → listed.size = ops.size → Closed2 ops listed → listed.getD i false = false →
      (∀ e ∈ o.after, Region.binds .any e = true → listed.getD e.on false = true) → I listed a w →
      if Region.wanted o (yielded ops a.tmps) = true then o.wp P a w (I (listed.setIfInBounds i true)) Q else I (listed.setIfInBounds i true) (a.put o.dst undef) w) :
    ∀ (fuel : Nat) (listed : Array Bool) (a : Act) (w : World), listed.size = ops.size → listed.toList.count false ≤ fuel → Closed2 ops listed → I listed a w → wpAny P .any ops Q fuel listed a w := by
  have hempty : ∀ (listed : Array Bool), listed.size = ops.size → Region.ready .any ops listed = [] → listed = Array.replicate ops.size true := by
    intro listed hs hr
    have key : ∀ i, i < ops.size → listed.getD i false = true := by
      intro i
      induction i using Nat.strongRecOn with
      | _ i ih =>
        intro hi
        rcases hb : listed.getD i false with _ | _
        · exfalso
          have : i ∈ Region.ready .any ops listed := by
            rw [mem_ready]
            refine ⟨?_, ops[i], by simp [hi], ?_⟩
            · simp [Array.getD, hs, hi] at hb ⊢; exact hb
            · intro e he hbd
              have h1 := (List.all_eq_true.1 hto) i (List.mem_range.2 hi)
              simp only [Array.getElem?_eq_getElem hi, Option.map_some, Option.getD_some] at h1
              rw [Array.all_eq_true_iff_forall_mem] at h1
              have h2 := h1 e he
              rw [hbd] at h2
              have h2 := of_decide_eq_true (by simpa using h2 : decide (e.on < i) = true)
              exact ih e.on h2 (by omega)
          rw [hr] at this
          exact absurd this (by simp)
        · rfl
    apply Array.ext
    · simp [hs]
    · intro i h1 h2
      have := key i (by omega)
      simp [Array.getD, h1] at this
      simp [this]
  intro fuel
  induction fuel with
  | zero =>
    intro listed a w hs hc hcl hI
    have h0 : Region.ready .any ops listed = [] := by
      apply List.eq_nil_iff_forall_not_mem.2
      intro i hi
      have hi0 := (mem_ready.1 hi).1
      have : listed.toList.count false = 0 := by omega
      rw [List.count_eq_zero] at this
      apply this
      have hlt : i < listed.size := by
        by_cases h : i < listed.size
        · exact h
        · simp [Array.getD, h] at hi0
      simp [Array.getD, hlt] at hi0
      rw [← hi0]; simp
    refine ⟨h0, hdone a w ?_⟩
    rw [← hempty listed hs h0]; exact hI
  | succ fuel ih =>
    intro listed a w hs hc hcl hI
    refine ⟨fun h0 => hdone a w (by rw [← hempty listed hs h0]; exact hI), ?_⟩
    intro i hi
    obtain ⟨hi0, o, ho, hall⟩ := mem_ready.1 hi
    have hlt : i < listed.size := by
      by_cases h : i < listed.size
      · exact h
      · simp [Array.getD, h] at hi0
    have hf : listed.getD i false = false := by
      simp [Array.getD, hlt] at hi0 ⊢; exact hi0
    have hcl' : Closed2 ops (listed.setIfInBounds i true) := by
      intro j oj hj hlj e he hbe
      have hup : ∀ k, listed.getD k false = true → (listed.setIfInBounds i true).getD k false = true := by
        intro k hk
        by_cases hki : k = i
        · subst hki; simp [Array.getD, hlt]
        · have hklt : k < listed.size := by
            by_cases h : k < listed.size
            · exact h
            · simp [Array.getD, h] at hk
          simp [Array.getD, hklt] at hk ⊢
          rw [Array.getElem_setIfInBounds_ne]
          · exact hk
          · exact fun e => hki e.symm
      by_cases hji : j = i
      · subst hji
        rw [ho] at hj
        injection hj with hj
        subst hj
        exact hup _ (hall e he hbe)
      · refine hup _ (hcl j oj hj ?_ e he hbe)
        have hjlt : j < listed.size := by
          by_cases h : j < listed.size
          · exact h
          · simp [Array.getD, h] at hlj
        simp [Array.getD, hjlt] at hlj ⊢
        rw [Array.getElem_setIfInBounds_ne] at hlj
        · exact hlj
        · exact fun e => hji e.symm
    have hcount : (listed.setIfInBounds i true).toList.count false ≤ fuel := by
      rw [Array.toList_setIfInBounds, List.count_set (by simpa using hlt)]
      simp only [Array.getD, hlt, dite_true] at hf
      have hf' : listed.toList[i]'(by simpa using hlt) = false := by simpa using hf
      have : 0 < listed.toList.count false := List.count_pos_iff.2 (by rw [← hf']; exact List.getElem_mem _)
      rw [hf']
      simp only [beq_self_eq_true, if_true, show ((true : Bool) == false) = false from rfl, Bool.false_eq_true, if_false]
      omega
    have hk : ∀ a' w', I (listed.setIfInBounds i true) a' w' → wpAny P .any ops Q fuel (listed.setIfInBounds i true) a' w' :=
      fun a' w' h' => ih _ a' w' (by simp [hs]) hcount hcl' h'
    have hst := hstep i o listed a w ho hs hcl hf hall hI
    unfold wpOp
    rw [ho]
    simp only
    split at hst
    · rename_i hw
      rw [if_pos hw]
      exact Or.inl (Oper.wp_mono hk hst)
    · rename_i hw
      rw [if_neg hw]
      exact hk _ _ hst

theorem wp_region_inv2 {id : Nat} {a : Act} {w : World} (hm : P.follows .mixedOrders = true) (hto : TextOrder2 ops = true) (I : Array Bool → Act → World → Prop)
    (h0 : I (Array.replicate ops.size false) a { w with drawn := w.drawn + 1 })
    (hstep : ∀ (i : Nat) (o : Oper) (listed : Array Bool) (a : Act) (w : World), ops[i]? = some o → listed.size = ops.size → Closed2 ops listed → listed.getD i false = false →
      (∀ e ∈ o.after, Region.binds .any e = true → listed.getD e.on false = true) → I listed a w →
      if Region.wanted o (yielded ops a.tmps) = true then o.wp P a w (I (listed.setIfInBounds i true)) Q else I (listed.setIfInBounds i true) (a.put o.dst undef) w)
    (hdone : ∀ a w, I (Array.replicate ops.size true) a w → Q .normal a w) :
    (Code.region id ops true).wp P Q a w := by
  refine wp_region_any hm (wpAny_inv2 hto I hdone hstep _ _ _ _ (by simp) ?_ ?_ h0)
  · simp
  · intro i o hi hl
    simp [Array.getD] at hl

def Steps2 (p : Nat → Oper → Prop) : Nat → List Oper → Prop
  | _, [] => True
  | i, o :: os => p i o ∧ Steps2 p (i + 1) os
theorem Steps2.at_ {p : Nat → Oper → Prop} : ∀ (os : List Oper) (k : Nat), Steps2 p k os → ∀ i o, os[i]? = some o → p (k + i) o
  | [], _, _, i, o, h => by simp at h
  | x :: os, k, hs, 0, o, h => by simp at h; subst h; exact hs.1
  | x :: os, k, hs, i + 1, o, h => by
    have := Steps2.at_ os (k + 1) hs.2 i o (by simpa using h)
    rw [show k + (i + 1) = k + 1 + i by omega]
    exact this

/-- What is asked at one operation. -/
def StepInv2 (P : Program) (ops : Array Oper) (Q : Exit → Act → World → Prop) (I : Array Bool → Act → World → Prop) (i : Nat) (o : Oper) : Prop :=
  ∀ (listed : Array Bool) (a : Act) (w : World) (K : Act → World → Prop), listed.size = ops.size → Closed2 ops listed → listed.getD i false = false →
      (∀ e ∈ o.after, Region.binds .any e = true → listed.getD e.on false = true) → I listed a w → (∀ a' w', I (listed.setIfInBounds i true) a' w' → K a' w') →
      if Region.wanted o (yielded ops a.tmps) = true then o.wp P a w K Q else K (a.put o.dst undef) w

theorem wp_region_steps2 {id : Nat} {a : Act} {w : World} (hm : P.follows .mixedOrders = true) (hto : TextOrder2 ops = true) (I : Array Bool → Act → World → Prop)
    (h0 : I (Array.replicate ops.size false) a { w with drawn := w.drawn + 1 })
    (hdone : ∀ a w, I (Array.replicate ops.size true) a w → Q .normal a w)
    (hstep : Steps2 (StepInv2 P ops Q I) 0 ops.toList) :
    (Code.region id ops true).wp P Q a w := by
  refine wp_region_inv2 hm hto I h0 ?_ hdone
  intro i o listed a w ho hs hcl hf hall hI
  have := Steps2.at_ ops.toList 0 hstep i o (by simpa using ho)
  rw [Nat.zero_add] at this
  exact this listed a w _ hs hcl hf hall hI (fun _ _ h => h)
end
end Go.Proofs.Ytpknglclcdgfbaa
