/-
  A valid list of nodes is one tree; its parents; a walker's visit goes where the graph of spots goes. No program in sight.
-/
import Derived.Test.YtaajgdhoffhdcaaLnV
namespace Go.Proofs.Ytaajgdhoffhdcaa
open Go.RowKit
set_option linter.unusedVariables false

/-- The stack of roots (the last one first): trees that lie one after the other from 0 to n. -/
inductive Stk (l : List Nd) : List Int → Nat → Prop
  | nil : Stk l [] 0
  | cons (R : List Int) (a n : Nat) : Stk l R a → Sub l a n → Stk l ((n : Int) :: R) (n + 1)
theorem vstep_leaf {rs rs' : List Int} {i : Nat} {x : Nd} (h : vstep rs i x = some rs') : (x.kind ≠ 2 → x.set = 0) ∧ 0 ≤ kidsI x.kind ∧ kidsI x.kind ≤ rs.length ∧
    x.left = (rs.drop (rs.length - (kidsI x.kind).toNat)).getD 0 0 ∧ x.right = (rs.drop (rs.length - (kidsI x.kind).toNat)).getD 1 0 ∧ rs' = rs.take (rs.length - (kidsI x.kind).toNat) ++ [(i : Int)] := by
  unfold vstep at h
  split at h
  · cases h
  rename_i h1
  split at h
  · cases h
  rename_i h2
  split at h
  · cases h
  rename_i h3
  injection h with h
  refine ⟨fun e => ?_, by omega, by omega, Classical.not_not.mp (fun e => h3 (Or.inl e)), Classical.not_not.mp (fun e => h3 (Or.inr e)), h.symm⟩
  exact Classical.not_not.mp (fun e2 => h1 ⟨e, e2⟩)
theorem kidsI_cases (k : Int) (h : 0 ≤ kidsI k) : (kidsI k = 0 ∧ (k = 1 ∨ k = 2 ∨ k = 8 ∨ k = 9)) ∨ (kidsI k = 1 ∧ (k = 5 ∨ k = 6 ∨ k = 7)) ∨ (kidsI k = 2 ∧ (k = 3 ∨ k = 4)) := by
  unfold kidsI at h ⊢
  split
  · exact Or.inl ⟨rfl, by assumption⟩
  · split
    · exact Or.inr (Or.inl ⟨rfl, by assumption⟩)
    · split
      · exact Or.inr (Or.inr ⟨rfl, by assumption⟩)
      · rename_i a b c
        rw [if_neg a, if_neg b, if_neg c] at h
        omega
theorem vstep_stk {l : List Nd} {rs rs' : List Int} {k : Nat} (hk : k < l.length) (h : vstep rs k (nd l k) = some rs') (hs : Stk l rs.reverse k) : Stk l rs'.reverse (k + 1) := by
  obtain ⟨h1, h2, h3, h4, h5, rfl⟩ := vstep_leaf h
  rcases kidsI_cases _ h2 with ⟨e, hk'⟩ | ⟨e, hk'⟩ | ⟨e, hk'⟩
  · rw [e] at h4 h5 ⊢
    simp at h4 h5 ⊢
    rw [show l = l from rfl]
    exact .cons _ k k hs (.leaf k hk hk' h4 h5 h1)
  · rw [e] at h3 h4 h5 ⊢
    have hne : rs ≠ [] := by intro e; rw [e] at h3; simp at h3
    obtain ⟨q, r, rfl⟩ : ∃ q r, rs = q ++ [r] := ⟨rs.dropLast, rs.getLast hne, (List.dropLast_concat_getLast hne).symm⟩
    simp at h4 h5 ⊢
    rw [List.reverse_append] at hs
    simp at hs
    generalize hR : q.reverse = R at *
    cases hs with
    | cons _ a n hs hsub =>
      exact .cons _ a (n + 1) hs (.one a n hk hk' h4 h5 (h1 (by omega)) hsub)
  · rw [e] at h3 h4 h5 ⊢
    have hne : rs ≠ [] := by intro e; rw [e] at h3; simp at h3
    obtain ⟨q, r, rfl⟩ : ∃ q r, rs = q ++ [r] := ⟨rs.dropLast, rs.getLast hne, (List.dropLast_concat_getLast hne).symm⟩
    have hne2 : q ≠ [] := by intro e; rw [e] at h3; simp at h3
    obtain ⟨q2, r2, rfl⟩ : ∃ q2 r2, q = q2 ++ [r2] := ⟨q.dropLast, q.getLast hne2, (List.dropLast_concat_getLast hne2).symm⟩
    have hd : ((q2 ++ [r2] ++ [r]).length - (2 : Int).toNat) = q2.length := by simp
    rw [hd] at h4 h5 ⊢
    rw [List.append_assoc, List.drop_left] at h4 h5
    rw [List.append_assoc, List.take_left]
    simp at h4 h5 ⊢
    simp at hs
    generalize hR : q2.reverse = R at *
    cases hs with
    | cons _ a n hs hsub =>
      cases hs with
      | cons _ a2 m hs hsub2 =>
        exact .cons _ a2 (n + 1) hs (.two a2 m n hk hk' h4 h5 (h1 (by omega)) hsub2 hsub)
theorem vrun_stk {l : List Nd} : ∀ (k : Nat) (rs : List Int), k ≤ l.length → vrun l k = some rs → Stk l rs.reverse k
  | 0, rs, _, h => by injection h with h; subst h; exact .nil
  | k + 1, rs, hk, h => by
    rw [vrun] at h
    cases hr : vrun l k with
    | none => rw [hr] at h; cases h
    | some r0 =>
      rw [hr] at h
      exact vstep_stk (by omega) h (vrun_stk k r0 (by omega) hr)
theorem validM_sub {l : List Nd} (h : validM l = true) : Sub l 0 (l.length - 1) := by
  obtain ⟨h1, r, h2⟩ := validM_run h
  have := vrun_stk _ _ (Nat.le_refl _) h2
  simp at this
  generalize hn : l.length = n at this
  cases this with
  | cons _ a m hs hsub =>
    cases hs with
    | nil => exact hsub
theorem validM_neat {l : List Nd} (h : validM l = true) : Neat l (l.length - 1) := (validM_sub h).neat (by have := (validM_len h).1; omega)
theorem Kid.nat {l : List Nd} {p x : Nat} (h : Kid l p x) : ((nd l p).kind = 3 ∨ (nd l p).kind = 4 ∨ (nd l p).kind = 5 ∨ (nd l p).kind = 6 ∨ (nd l p).kind = 7) ∧ (x = lfN l p ∨ (((nd l p).kind = 3 ∨ (nd l p).kind = 4) ∧ x = rtN l p)) := by
  rcases h with ⟨h, e⟩ | ⟨h, e⟩
  · exact ⟨h, Or.inl (by unfold lfN; omega)⟩
  · exact ⟨by omega, Or.inr ⟨h, by unfold rtN; omega⟩⟩
theorem Kid.of_lf {l : List Nd} {p : Nat} (h : Kin l) (hp : p < l.length) (hk : (nd l p).kind = 3 ∨ (nd l p).kind = 4 ∨ (nd l p).kind = 5 ∨ (nd l p).kind = 6 ∨ (nd l p).kind = 7) : Kid l p (lfN l p) ∧ lfN l p < l.length ∧ (nd l p).left = lfN l p := by
  obtain ⟨a, e, ha⟩ := h.lf p hp hk
  have : lfN l p = a := by unfold lfN; omega
  exact ⟨Or.inl ⟨hk, by omega⟩, by omega, by omega⟩
theorem Kid.of_rt {l : List Nd} {p : Nat} (h : Kin l) (hp : p < l.length) (hk : (nd l p).kind = 3 ∨ (nd l p).kind = 4) : Kid l p (rtN l p) ∧ rtN l p < l.length ∧ (nd l p).right = rtN l p := by
  obtain ⟨a, e, ha⟩ := h.rt p hp hk
  have : rtN l p = a := by unfold rtN; omega
  exact ⟨Or.inr ⟨hk, by omega⟩, by omega, by omega⟩
theorem getD_set_self (ps : List Nat) (i v : Nat) (h : i < ps.length) : (ps.set i v).getD i 0 = v := by
  rw [List.getD_eq_getElem?_getD, List.getElem?_set_self h]; rfl
theorem getD_set_ne (ps : List Nat) (i v x : Nat) (h : i ≠ x) : (ps.set i v).getD x 0 = ps.getD x 0 := by
  rw [List.getD_eq_getElem?_getD, List.getD_eq_getElem?_getD, List.getElem?_set_ne h]
/-- The parents that the program notes down are the parents. -/
theorem parM_parent {l : List Nd} {root : Nat} (hK : Kin l) (hN : Neat l root) {p x : Nat} (hp : p < l.length) (hx : x < l.length) (hkd : Kid l p x) : ∀ k, p < k → k ≤ l.length → (parM l k).getD x 0 = p
  | 0, h, _ => by omega
  | k + 1, h, hk => by
    have len := parM_length l k
    have other : ∀ y, k ≠ p → Kid l k y → y ≠ x := fun y hne hy e => hne (hN.one k p x (by omega) hp (e ▸ hy) hkd)
    rw [parM]
    by_cases e : k = p
    · subst e
      obtain ⟨h1, h2⟩ := Kid.nat hkd
      by_cases h34 : (nd l k).kind = 3 ∨ (nd l k).kind = 4
      · rw [if_pos h34]
        by_cases e1 : lfN l k = x
        · rw [e1]; exact getD_set_self _ _ _ (by rw [List.length_set, len]; exact hx)
        · rw [getD_set_ne _ _ _ _ e1]
          have e2 : x = rtN l k := by
            rcases h2 with h2 | ⟨_, h2⟩
            · exact absurd h2.symm e1
            · exact h2
          rw [← e2]; exact getD_set_self _ _ _ (by rw [len]; exact hx)
      · rw [if_neg h34, if_pos (by omega)]
        have e1 : x = lfN l k := by
          rcases h2 with h2 | ⟨h3, _⟩
          · exact h2
          · exact absurd h3 h34
        rw [← e1]; exact getD_set_self _ _ _ (by rw [len]; exact hx)
    · have ih := parM_parent hK hN hp hx hkd k (by omega) (by omega)
      by_cases h34 : (nd l k).kind = 3 ∨ (nd l k).kind = 4
      · rw [if_pos h34, getD_set_ne _ _ _ _ (other _ e (Kid.of_lf hK (by omega) (by omega)).1), getD_set_ne _ _ _ _ (other _ e (Kid.of_rt hK (by omega) h34).1)]
        exact ih
      · rw [if_neg h34]
        by_cases h567 : (nd l k).kind = 5 ∨ (nd l k).kind = 6 ∨ (nd l k).kind = 7
        · rw [if_pos h567, getD_set_ne _ _ _ _ (other _ e (Kid.of_lf hK (by omega) (by omega)).1)]
          exact ih
        · rw [if_neg h567]; exact ih
theorem mem_enter (L : List Nat) (s x : Nat) : x ∈ enterM L s ↔ x ∈ L ∨ x = s := by
  unfold enterM
  split
  · constructor
    · exact Or.inl
    · rintro (h | rfl)
      · exact h
      · assumption
  · rw [List.mem_append]; simp
theorem enter_ext (L : List Nat) (s : Nat) : ∃ e, enterM L s = L ++ e := by
  unfold enterM
  split
  · exact ⟨[], (List.append_nil _).symm⟩
  · exact ⟨[s], rfl⟩
theorem enter2_ext (L : List Nat) (s t : Nat) : ∃ e, enterM (enterM L s) t = L ++ e := by
  obtain ⟨e, h⟩ := enter_ext L s
  obtain ⟨e2, h2⟩ := enter_ext (enterM L s) t
  exact ⟨e ++ e2, by rw [h2, h, List.append_assoc]⟩
theorem intoM_ext (l : List Nd) (x : Nat) (bol eol : Bool) (L : List Nat) : ∃ e, intoM l x bol eol L = L ++ e := by
  unfold intoM
  repeat' split
  all_goals first | exact enter_ext _ _ | exact enter2_ext _ _ _ | exact ⟨[], (List.append_nil _).symm⟩
theorem outOfM_ext (l : List Nd) (up x : Nat) (L : List Nat) : ∃ e, outOfM l up x L = L ++ e := by
  unfold outOfM
  repeat' split
  all_goals first | exact enter_ext _ _ | exact enter2_ext _ _ _ | exact ⟨[], (List.append_nil _).symm⟩
theorem visitM_ext (l : List Nd) (ps : List Nat) (bol eol : Bool) (s : Nat) (L : List Nat) : ∃ e, visitM l ps bol eol s L = L ++ e := by
  unfold visitM
  split
  · exact intoM_ext _ _ _ _ _
  · split
    · exact outOfM_ext _ _ _ _
    · exact ⟨[], (List.append_nil _).symm⟩
theorem mem_into {l : List Nd} (hK : Kin l) {x : Nat} (hx : x < l.length) (bol eol : Bool) (L : List Nat) (s' : Nat) : s' ∈ intoM l x bol eol L ↔ s' ∈ L ∨ Eps l bol eol (2 * x) s' := by
  have inv : Eps l bol eol (2 * x) s' → ((nd l x).kind = 1 ∧ s' = 2 * x + 1) ∨ ((nd l x).kind = 8 ∧ bol = true ∧ s' = 2 * x + 1) ∨ ((nd l x).kind = 9 ∧ eol = true ∧ s' = 2 * x + 1) ∨ (((nd l x).kind = 5 ∨ (nd l x).kind = 7) ∧ s' = 2 * x + 1) ∨
      (((nd l x).kind = 3 ∨ (nd l x).kind = 4 ∨ (nd l x).kind = 5 ∨ (nd l x).kind = 6 ∨ (nd l x).kind = 7) ∧ s' = 2 * lfN l x) ∨ ((nd l x).kind = 4 ∧ s' = 2 * rtN l x) := by
    intro h
    generalize hs : 2 * x = s at h
    cases h with
    | empty y hk => obtain rfl : x = y := by omega
                    exact Or.inl ⟨hk, rfl⟩
    | bol y hk hb => obtain rfl : x = y := by omega
                     exact Or.inr (Or.inl ⟨hk, hb, rfl⟩)
    | eol y hk hb => obtain rfl : x = y := by omega
                     exact Or.inr (Or.inr (Or.inl ⟨hk, hb, rfl⟩))
    | skip y hk => obtain rfl : x = y := by omega
                   exact Or.inr (Or.inr (Or.inr (Or.inl ⟨hk, rfl⟩)))
    | left y a hk ha => obtain rfl : x = y := by omega
                        exact Or.inr (Or.inr (Or.inr (Or.inr (Or.inl ⟨hk, by unfold lfN; omega⟩))))
    | right y b hk hb => obtain rfl : x = y := by omega
                         exact Or.inr (Or.inr (Or.inr (Or.inr (Or.inr ⟨hk, by unfold rtN; omega⟩))))
    | over => omega
    | up => omega
    | upR => omega
    | star => omega
    | again => omega
  unfold intoM
  by_cases h1 : (nd l x).kind = 1
  · rw [if_pos h1, mem_enter]
    constructor
    · rintro (h | rfl)
      · exact Or.inl h
      · exact Or.inr (.empty x h1)
    · rintro (h | h)
      · exact Or.inl h
      · have := inv h; omega
  rw [if_neg h1]
  by_cases h8 : (nd l x).kind = 8
  · rw [if_pos h8]
    cases bol with
    | false =>
      rw [if_neg (by decide)]
      constructor
      · exact Or.inl
      · rintro (h | h)
        · exact h
        · rcases inv h with h | h | h | h | h | h
          · omega
          · exact absurd h.2.1 (by decide)
          · omega
          · omega
          · omega
          · omega
    | true =>
      rw [if_pos rfl, mem_enter]
      constructor
      · rintro (h | rfl)
        · exact Or.inl h
        · exact Or.inr (.bol x h8 rfl)
      · rintro (h | h)
        · exact Or.inl h
        · have := inv h; omega
  rw [if_neg h8]
  by_cases h9 : (nd l x).kind = 9
  · rw [if_pos h9]
    cases eol with
    | false =>
      rw [if_neg (by decide)]
      constructor
      · exact Or.inl
      · rintro (h | h)
        · exact h
        · rcases inv h with h | h | h | h | h | h
          · omega
          · omega
          · exact absurd h.2.1 (by decide)
          · omega
          · omega
          · omega
    | true =>
      rw [if_pos rfl, mem_enter]
      constructor
      · rintro (h | rfl)
        · exact Or.inl h
        · exact Or.inr (.eol x h9 rfl)
      · rintro (h | h)
        · exact Or.inl h
        · have := inv h; omega
  rw [if_neg h9]
  by_cases h57 : (nd l x).kind = 5 ∨ (nd l x).kind = 7
  · rw [if_pos h57, mem_enter, mem_enter]
    have hl := (Kid.of_lf hK hx (by omega)).2.2
    constructor
    · rintro ((h | rfl) | rfl)
      · exact Or.inl h
      · exact Or.inr (.skip x h57)
      · exact Or.inr (.left x _ (by omega) hl)
    · rintro (h | h)
      · exact Or.inl (Or.inl h)
      · have := inv h; omega
  rw [if_neg h57]
  by_cases h36 : (nd l x).kind = 3 ∨ (nd l x).kind = 6
  · rw [if_pos h36, mem_enter]
    have hl := (Kid.of_lf hK hx (by omega)).2.2
    constructor
    · rintro (h | rfl)
      · exact Or.inl h
      · exact Or.inr (.left x _ (by omega) hl)
    · rintro (h | h)
      · exact Or.inl h
      · have := inv h; omega
  rw [if_neg h36]
  by_cases h4 : (nd l x).kind = 4
  · rw [if_pos h4, mem_enter, mem_enter]
    have hl := (Kid.of_lf hK hx (by omega)).2.2
    have hr := (Kid.of_rt hK hx (by omega)).2.2
    constructor
    · rintro ((h | rfl) | rfl)
      · exact Or.inl h
      · exact Or.inr (.left x _ (by omega) hl)
      · exact Or.inr (.right x _ h4 hr)
    · rintro (h | h)
      · exact Or.inl (Or.inl h)
      · have := inv h; omega
  rw [if_neg h4]
  constructor
  · exact Or.inl
  · rintro (h | h)
    · exact h
    · have := inv h; omega
theorem eps_odd {l : List Nd} {bol eol : Bool} {x s' : Nat} (h : Eps l bol eol (2 * x + 1) s') :
    ∃ p, p < l.length ∧ Kid l p x ∧ (((nd l p).kind = 3 ∧ (nd l p).left = x ∧ ∃ b : Nat, (nd l p).right = b ∧ s' = 2 * b) ∨ (((nd l p).kind = 4 ∨ (nd l p).kind = 6 ∨ (nd l p).kind = 7) ∧ s' = 2 * p + 1) ∨ ((nd l p).kind = 3 ∧ (nd l p).right = x ∧ s' = 2 * p + 1) ∨ ((nd l p).kind = 5 ∧ s' = 2 * p) ∨ ((nd l p).kind = 6 ∧ s' = 2 * x)) := by
  generalize hs : 2 * x + 1 = s at h
  cases h with
  | empty => omega
  | bol => omega
  | eol => omega
  | skip => omega
  | left => omega
  | right => omega
  | over y a b hy hk ha hb =>
    obtain rfl : x = a := by omega
    exact ⟨y, hy, Or.inl ⟨Or.inl hk, ha⟩, Or.inl ⟨hk, ha, b, hb, rfl⟩⟩
  | up p y hp hk hkd =>
    obtain rfl : x = y := by omega
    exact ⟨p, hp, hkd, Or.inr (Or.inl ⟨hk, rfl⟩)⟩
  | upR p y hp hk hr =>
    obtain rfl : x = y := by omega
    exact ⟨p, hp, Or.inr ⟨Or.inl hk, hr⟩, Or.inr (Or.inr (Or.inl ⟨hk, hr, rfl⟩))⟩
  | star p y hp hk ha =>
    obtain rfl : x = y := by omega
    exact ⟨p, hp, Or.inl ⟨Or.inr (Or.inr (Or.inl hk)), ha⟩, Or.inr (Or.inr (Or.inr (Or.inl ⟨hk, rfl⟩)))⟩
  | again p y hp hk ha =>
    obtain rfl : x = y := by omega
    exact ⟨p, hp, Or.inl ⟨Or.inr (Or.inr (Or.inr (Or.inl hk))), ha⟩, Or.inr (Or.inr (Or.inr (Or.inr ⟨hk, rfl⟩)))⟩
theorem mem_outOf {l : List Nd} {root : Nat} (hK : Kin l) (hN : Neat l root) {x p : Nat} (hp : p < l.length) (hkd : Kid l p x) (bol eol : Bool) (L : List Nat) (s' : Nat) : s' ∈ outOfM l p x L ↔ s' ∈ L ∨ Eps l bol eol (2 * x + 1) s' := by
  have inv : Eps l bol eol (2 * x + 1) s' → ((nd l p).kind = 3 ∧ (nd l p).left = x ∧ s' = 2 * rtN l p) ∨ (((nd l p).kind = 4 ∨ (nd l p).kind = 6 ∨ (nd l p).kind = 7) ∧ s' = 2 * p + 1) ∨ ((nd l p).kind = 3 ∧ (nd l p).right = x ∧ s' = 2 * p + 1) ∨ ((nd l p).kind = 5 ∧ s' = 2 * p) ∨ ((nd l p).kind = 6 ∧ s' = 2 * x) := by
    intro h
    obtain ⟨q, hq, hkq, hc⟩ := eps_odd h
    obtain rfl := hN.one q p x hq hp hkq hkd
    rcases hc with ⟨h1, h2, b, h3, h4⟩ | hc
    · exact Or.inl ⟨h1, h2, by unfold rtN; omega⟩
    · exact Or.inr hc
  unfold outOfM
  by_cases h3 : (nd l p).kind = 3
  · rw [if_pos h3]
    have h2 := hN.two p hp h3
    have hr := (Kid.of_rt hK hp (Or.inl h3)).2.2
    by_cases hxl : (x : Int) = (nd l p).left
    · rw [if_pos hxl, mem_enter]
      constructor
      · rintro (h | rfl)
        · exact Or.inl h
        · exact Or.inr (.over p x _ hp h3 hxl.symm hr)
      · rintro (h | h)
        · exact Or.inl h
        · have := inv h; omega
    · rw [if_neg hxl, mem_enter]
      have hxr : (nd l p).right = x := by
        rcases hkd with ⟨_, e⟩ | ⟨_, e⟩
        · exact absurd e.symm hxl
        · exact e
      constructor
      · rintro (h | rfl)
        · exact Or.inl h
        · exact Or.inr (.upR p x hp h3 hxr)
      · rintro (h | h)
        · exact Or.inl h
        · have := inv h; omega
  rw [if_neg h3]
  have hcase := (Kid.nat hkd).1
  by_cases h5 : (nd l p).kind = 5
  · rw [if_pos h5, mem_enter]
    have hl : (nd l p).left = x := by
      rcases hkd with ⟨_, e⟩ | ⟨h, _⟩
      · exact e
      · omega
    constructor
    · rintro (h | rfl)
      · exact Or.inl h
      · exact Or.inr (.star p x hp h5 hl)
    · rintro (h | h)
      · exact Or.inl h
      · have := inv h; omega
  rw [if_neg h5]
  by_cases h6 : (nd l p).kind = 6
  · rw [if_pos h6, mem_enter, mem_enter]
    have hl : (nd l p).left = x := by
      rcases hkd with ⟨_, e⟩ | ⟨h, _⟩
      · exact e
      · omega
    constructor
    · rintro ((h | rfl) | rfl)
      · exact Or.inl h
      · exact Or.inr (.up p x hp (Or.inr (Or.inl h6)) hkd)
      · exact Or.inr (.again p x hp h6 hl)
    · rintro (h | h)
      · exact Or.inl (Or.inl h)
      · have := inv h; omega
  rw [if_neg h6, mem_enter]
  constructor
  · rintro (h | rfl)
    · exact Or.inl h
    · exact Or.inr (.up p x hp (by omega) hkd)
  · rintro (h | h)
    · exact Or.inl h
    · have := inv h; omega
end Go.Proofs.Ytaajgdhoffhdcaa
