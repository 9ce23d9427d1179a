/-
  TimerqDivides: the plain part. No program in sight.
-/
import Derived.Test.YtlpaemlgmmmbmaaTqN
namespace Go.Proofs.Ytlpaemlgmmmbmaa
open Go.RowKit
set_option linter.unusedVariables false

theorem fireM_fuel : ∀ (f g : Nat) (L : List Tm) (c : Int), QI L → L.length ≤ f → L.length ≤ g → fireM f L c = fireM g L c
  | 0, 0, L, c, _, _, _ => rfl
  | 0, g + 1, L, c, _, h, _ => by rw [fireM, fireM, if_neg (fun e => by omega)]
  | f + 1, 0, L, c, _, _, h => by rw [fireM, fireM, if_neg (fun e => by omega)]
  | f + 1, g + 1, L, c, hq, h1, h2 => by
    rw [fireM, fireM]
    split
    · rename_i hh
      have s4 := (popM_spec L hq.2 hh.1).2.2.2
      rw [fireM_fuel f g (popM L) c (hq.pop hh.1) (by omega) (by omega)]
    · rfl
theorem fireM_le : ∀ (f : Nat) (L : List Tm) (c : Int), QI L → (fireM f L c).2.length ≤ L.length
  | 0, L, c, _ => Nat.le_refl _
  | f + 1, L, c, h => by
    rw [fireM]
    split
    · rename_i hh
      have s4 := (popM_spec L h.2 hh.1).2.2.2
      have := fireM_le f (popM L) c (h.pop hh.1)
      simp only
      omega
    · exact Nat.le_refl _
theorem fire_split : ∀ (f : Nat) (L : List Tm) (c d : Int), QI L → L.length ≤ f → c ≤ d →
    (fireM f L d).1 = (fireM f L c).1 ++ (fireM f (fireM f L c).2 d).1 ∧ (fireM f L d).2 = (fireM f (fireM f L c).2 d).2
  | 0, L, c, d, _, _, _ => ⟨rfl, rfl⟩
  | f + 1, L, c, d, h, hf, hcd => by
    by_cases hh : 0 < L.length ∧ (gt L 0).1 ≤ c
    · have hd : 0 < L.length ∧ (gt L 0).1 ≤ d := ⟨hh.1, by omega⟩
      have s4 := (popM_spec L h.2 hh.1).2.2.2
      have hp := h.pop hh.1
      obtain ⟨e1, e2⟩ := fire_split f (popM L) c d hp (by omega) hcd
      have e3 : fireM (f + 1) L c = ((gt L 0).2 :: (fireM f (popM L) c).1, (fireM f (popM L) c).2) := by rw [fireM, if_pos hh]
      have e4 : fireM (f + 1) L d = ((gt L 0).2 :: (fireM f (popM L) d).1, (fireM f (popM L) d).2) := by rw [fireM, if_pos hd]
      have hl := fireM_le f (popM L) c hp
      rw [e3, e4]
      simp only
      rw [fireM_fuel (f + 1) f (fireM f (popM L) c).2 d (hp.fire f c) (by omega) (by omega)]
      exact ⟨by rw [e1]; rfl, e2⟩
    · have e3 : fireM (f + 1) L c = ([], L) := by rw [fireM, if_neg hh]
      rw [e3]
      exact ⟨by simp, rfl⟩
def advs (T : List Int) : List TOp := T.map fun t => ⟨3, 0, t % 50⟩
def lastOf (T : List Int) : Int := T.foldl (fun a t => max a (t % 50)) 0
def firedOf (l : List Rep) : List Int := l.flatMap (·.fired)
theorem firedOf_app (a b : List Rep) : firedOf (a ++ b) = firedOf a ++ firedOf b := by simp [firedOf]
theorem fold_ge : ∀ (T : List Int) (c : Int), c ≤ T.foldl (fun a t => max a (t % 50)) c
  | [], c => Int.le_refl _
  | t :: T, c => by
    have := fold_ge T (max c (t % 50))
    simp only [List.foldl_cons]
    omega
theorem advs_fired : ∀ (T : List Int) (M : List Tm) (c : Int), QI M → T ≠ [] →
    firedOf ((advs T).foldl nextS ((M, c), [])).2 = (fireM M.length M (T.foldl (fun a t => max a (t % 50)) c)).1
  | [], M, c, _, h => absurd rfl h
  | t :: T, M, c, hq, _ => by
    have hst : stepM M c ⟨3, 0, t % 50⟩ = ((fireM M.length M (max c (t % 50))).2, max c (t % 50), ⟨0, (fireM M.length M (max c (t % 50))).1, max c (t % 50)⟩) := rfl
    have hns : nextS ((M, c), []) ⟨3, 0, t % 50⟩ = (((fireM M.length M (max c (t % 50))).2, max c (t % 50)), [⟨0, (fireM M.length M (max c (t % 50))).1, max c (t % 50)⟩]) := by
      unfold nextS
      rw [hst]; rfl
    show firedOf ((advs T).foldl nextS (nextS ((M, c), []) ⟨3, 0, t % 50⟩)).2 = _
    rw [hns]
    have hf : ∀ (b : List TOp) (s : (List Tm × Int) × List Rep), (b.foldl nextS s).2 = s.2 ++ (b.foldl nextS (s.1, [])).2 := by
      intro b
      induction b with
      | nil => intro s; simp
      | cons o b ih =>
        intro s
        simp only [List.foldl_cons]
        rw [ih (nextS s o), ih (nextS (s.1, []) o)]
        simp [nextS]
    rw [hf, firedOf_app]
    simp only [List.foldl_cons]
    generalize hd : max c (t % 50) = d
    by_cases hT : T = []
    · subst hT
      simp [advs, firedOf]
    · have hq2 := hq.fire M.length d
      have ih := advs_fired T (fireM M.length M d).2 d hq2 hT
      have hge := fold_ge T d
      obtain ⟨e1, _⟩ := fire_split M.length M d (T.foldl (fun a t => max a (t % 50)) d) hq (Nat.le_refl _) hge
      have hl := fireM_le M.length M d hq
      rw [ih, e1, ← fireM_fuel M.length (fireM M.length M d).2.length _ _ hq2 hl (Nat.le_refl _)]
      simp [firedOf]
theorem sets_quiet : ∀ (S : List TOp), (∀ o ∈ S, o.kind = 1 ∧ o.ok) → ∀ (M : List Tm), QI M → ∃ M', QI M' ∧ (S.foldl nextS ((M, 0), [])).1 = (M', 0) ∧ firedOf (S.foldl nextS ((M, 0), [])).2 = []
  | [], _, M, h => ⟨M, h, rfl, rfl⟩
  | o :: S, hS, M, h => by
    obtain ⟨hk, hok⟩ := hS o (by simp)
    have hst : stepM M 0 o = ((setM M o.id o.at_).2, 0, ⟨(setM M o.id o.at_).1, [], 0⟩) := by unfold stepM; rw [if_pos hk]
    have hq := h.set_ (id := o.id) (a := o.at_) hok.2.2 hok.2.1.2
    obtain ⟨M', h1, h2, h3⟩ := sets_quiet S (fun x hx => hS x (by simp [hx])) _ hq
    have hf : ∀ (b : List TOp) (s : (List Tm × Int) × List Rep), (b.foldl nextS s).2 = s.2 ++ (b.foldl nextS (s.1, [])).2 ∧ (b.foldl nextS s).1 = (b.foldl nextS (s.1, [])).1 := by
      intro b
      induction b with
      | nil => intro s; simp
      | cons o b ih =>
        intro s
        simp only [List.foldl_cons]
        rw [(ih (nextS s o)).1, (ih (nextS (s.1, []) o)).1, (ih (nextS s o)).2, (ih (nextS (s.1, []) o)).2]
        simp [nextS]
    have hns : nextS ((M, 0), []) o = (((setM M o.id o.at_).2, 0), [⟨(setM M o.id o.at_).1, [], 0⟩]) := by unfold nextS; rw [hst]; rfl
    refine ⟨M', h1, ?_, ?_⟩
    · rw [List.foldl_cons, hns, (hf _ _).2]; exact h2
    · rw [List.foldl_cons, hns, (hf _ _).1, firedOf_app, h3]; rfl
theorem divides {S : List TOp} (hS : ∀ o ∈ S, o.kind = 1 ∧ o.ok) {T : List Int} (hT : T ≠ []) (hT0 : 0 ≤ lastOf T) :
    firedOf (runM (S ++ advs T)).2 = firedOf (runM (S ++ [⟨3, 0, lastOf T⟩])).2 := by
  obtain ⟨M, h1, h2, h3⟩ := sets_quiet S hS [] ⟨⟨by simp, by simp, by simp⟩, fun c h0 hc => by simp at hc⟩
  have hf : ∀ (b : List TOp) (s : (List Tm × Int) × List Rep), (b.foldl nextS s).2 = s.2 ++ (b.foldl nextS (s.1, [])).2 := by
    intro b
    induction b with
    | nil => intro s; simp
    | cons o b ih =>
      intro s
      simp only [List.foldl_cons]
      rw [ih (nextS s o), ih (nextS (s.1, []) o)]
      simp [nextS]
  unfold runM
  rw [List.foldl_append, List.foldl_append, hf, hf (([⟨3, 0, lastOf T⟩] : List TOp)), firedOf_app, firedOf_app, h2, h3, advs_fired T M 0 h1 hT]
  have hst : stepM M 0 ⟨3, 0, lastOf T⟩ = ((fireM M.length M (max 0 (lastOf T))).2, max 0 (lastOf T), ⟨0, (fireM M.length M (max 0 (lastOf T))).1, max 0 (lastOf T)⟩) := rfl
  have hm : max 0 (lastOf T) = lastOf T := by omega
  rw [hm] at hst
  show [] ++ (fireM M.length M (lastOf T)).1 = [] ++ firedOf (nextS ((M, 0), []) ⟨3, 0, lastOf T⟩).2
  unfold nextS
  rw [hst]
  simp [firedOf]
theorem fired_len256 {S : List TOp} (hS : ∀ o ∈ S, o.kind = 1 ∧ o.ok) (T : List Int) : (firedOf (runM (S ++ advs T)).2).length ≤ 256 := by
  obtain ⟨M, h1, h2, h3⟩ := sets_quiet S hS [] ⟨⟨by simp, by simp, by simp⟩, fun c h0 hc => by simp at hc⟩
  have hf : ∀ (b : List TOp) (s : (List Tm × Int) × List Rep), (b.foldl nextS s).2 = s.2 ++ (b.foldl nextS (s.1, [])).2 := by
    intro b
    induction b with
    | nil => intro s; simp
    | cons o b ih =>
      intro s
      simp only [List.foldl_cons]
      rw [ih (nextS s o), ih (nextS (s.1, []) o)]
      simp [nextS]
  unfold runM
  rw [List.foldl_append, hf, firedOf_app, h2, h3, List.nil_append]
  by_cases hT : T = []
  · subst hT; simp [advs, firedOf]
  · rw [advs_fired T M 0 h1 hT]
    have : ∀ (f : Nat) (L : List Tm) (c : Int), QI L → (fireM f L c).1.length ≤ L.length := by
      intro f
      induction f with
      | zero => intro L c _; simp [fireM]
      | succ f ih =>
        intro L c h
        rw [fireM]
        split
        · rename_i hh
          have := ih (popM L) c (h.pop hh.1)
          have s4 := (popM_spec L h.2 hh.1).2.2.2
          simp; omega
        · simp
    exact Nat.le_trans (this _ _ _ h1) h1.1.1
theorem lastOf_snoc (T : List Int) (t : Int) : lastOf (T ++ [t]) = max (lastOf T) (t % 50) := by simp [lastOf, List.foldl_append]
theorem lastOf_bd (T : List Int) : 0 ≤ lastOf T ∧ lastOf T < 50 := by
  have : ∀ (T : List Int) (c : Int), 0 ≤ c ∧ c < 50 → 0 ≤ T.foldl (fun a t => max a (t % 50)) c ∧ T.foldl (fun a t => max a (t % 50)) c < 50 := by
    intro T
    induction T with
    | nil => intro c h; exact h
    | cons t T ih =>
      intro c h
      simp only [List.foldl_cons]
      refine ih _ ?_
      have := Int.emod_nonneg t (show (50 : Int) ≠ 0 by decide)
      have := Int.emod_lt_of_pos t (show (0 : Int) < 50 by decide)
      omega
  exact this T 0 ⟨by decide, by decide⟩
end Go.Proofs.Ytlpaemlgmmmbmaa
