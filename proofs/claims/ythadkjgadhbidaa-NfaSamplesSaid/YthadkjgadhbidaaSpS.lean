/-
  A search by layers, its spots kept with how they were reached; no program in sight.
-/
import Derived.Test.YthadkjgadhbidaaSpP
namespace Go.Proofs.Ythadkjgadhbidaa
open Go.RowKit
set_option linter.unusedVariables false

def lk : List (Sp × Og) → Sp → Option Og
  | [], _ => none
  | (q, o) :: r, p => if q = p then some o else lk r p
theorem lk_snoc (al : List (Sp × Og)) (q : Sp) (o : Og) (p : Sp) : lk (al ++ [(q, o)]) p = (lk al p).or (if q = p then some o else none) := by
  induction al with
  | nil => simp [lk]
  | cons x r ih =>
    obtain ⟨q', o'⟩ := x
    rw [List.cons_append, lk, lk, ih]
    split <;> rfl
theorem lk_keys {al : List (Sp × Og)} {p : Sp} : (lk al p).isSome = true ↔ p ∈ al.map Prod.fst := by
  induction al with
  | nil => simp [lk]
  | cons x r ih =>
    obtain ⟨q, o⟩ := x
    rw [lk, List.map_cons, List.mem_cons]
    split
    · rename_i e; exact ⟨fun _ => Or.inl e.symm, fun _ => rfl⟩
    · rename_i e; rw [ih]; exact ⟨Or.inr, fun h => h.resolve_left (fun h => e h.symm)⟩
def code (p : Sp) : Nat := 4 * p.s + (if p.b then 2 else 0) + (if p.e then 1 else 0)
theorem code_inj {p q : Sp} (h : code p = code q) : p = q := by
  obtain ⟨s, b, e⟩ := p
  obtain ⟨s', b', e'⟩ := q
  unfold code at h
  cases b <;> cases e <;> cases b' <;> cases e' <;> simp at h ⊢ <;> omega
theorem code_lt {p : Sp} {n : Nat} (h : p.s < n) : code p < 4 * n := by
  obtain ⟨s, b, e⟩ := p
  unfold code
  simp only at h ⊢
  cases b <;> cases e <;> simp <;> omega
/-- The text on the way back to the root. -/
inductive Bk (al : List (Sp × Og)) : Sp → List Nat → Nat → Prop
  | root (p : Sp) (o : Og) : lk al p = some o → o.root = true → Bk al p [] 0
  | eps (p : Sp) (o : Og) (t : List Nat) (n : Nat) : lk al p = some o → o.root = false → o.over = false → Bk al o.from_ t n → Bk al p t (n + 1)
  | over (p : Sp) (o : Og) (t : List Nat) (n : Nat) : lk al p = some o → o.root = false → o.over = true → Bk al o.from_ t n → Bk al p (t ++ [o.c]) (n + 1)
def Ext (al al' : List (Sp × Og)) : Prop := ∀ p o, lk al p = some o → lk al' p = some o
theorem Ext.refl (al : List (Sp × Og)) : Ext al al := fun _ _ h => h
theorem Ext.trans {a b c : List (Sp × Og)} (h : Ext a b) (k : Ext b c) : Ext a c := fun p o e => k p o (h p o e)
theorem Ext.some {a b : List (Sp × Og)} (h : Ext a b) {p : Sp} (k : (lk a p).isSome = true) : (lk b p).isSome = true := by
  obtain ⟨o, ho⟩ := Option.isSome_iff_exists.mp k
  rw [h p o ho]; rfl
theorem Bk.mono {a b : List (Sp × Og)} (h : Ext a b) {p : Sp} {t : List Nat} {n : Nat} (k : Bk a p t n) : Bk b p t n := by
  induction k with
  | root p o h1 h2 => exact .root p o (h p o h1) h2
  | eps p o t n h1 h2 h3 _ ih => exact .eps p o t n (h p o h1) h2 h3 ih
  | over p o t n h1 h2 h3 _ ih => exact .over p o t n (h p o h1) h2 h3 ih
def reachP (al : List (Sp × Og)) (L : List Sp) (q : Sp) (o : Og) : List (Sp × Og) × List Sp := if (lk al q).isSome = true then (al, L) else (al ++ [(q, o)], L ++ [q])
structure Srch (st : List Nd) (P : Sp → Prop) (D : Nat) (al : List (Sp × Og)) (L : List Sp) : Prop where
  k1 : ∀ p, (lk al p).isSome = true ↔ (P p ∨ p ∈ L)
  k2 : ∀ p ∈ L, ¬ P p
  k3 : ∀ p, (lk al p).isSome = true → ∃ t n, Bk al p t n ∧ SR st t p ∧ t.length ≤ D
  k4 : Spots (4 * st.length) (al.map fun x => code x.1)
  k5 : L.length ≤ al.length
theorem Srch.few {st : List Nd} {P : Sp → Prop} {D : Nat} {al : List (Sp × Og)} {L : List Sp} (h : Srch st P D al L) : al.length ≤ 4 * st.length := by
  have := h.k4.len
  rwa [List.length_map] at this
theorem Srch.reach {st : List Nd} {P : Sp → Prop} {D : Nat} {al : List (Sp × Og)} {L : List Sp} (h : Srch st P D al L) {q : Sp} (hq : q.s < st.length) (o : Og)
    (ho : lk al q = none → ∃ t n, Bk al o.from_ t n ∧ o.root = false ∧ ((o.over = false ∧ SR st t q ∧ t.length ≤ D) ∨ (o.over = true ∧ SR st (t ++ [o.c]) q ∧ t.length + 1 ≤ D))) :
    Srch st P D (reachP al L q o).1 (reachP al L q o).2 ∧ (lk (reachP al L q o).1 q).isSome = true ∧ Ext al (reachP al L q o).1 ∧ ∃ e, (reachP al L q o).2 = L ++ e := by
  unfold reachP
  by_cases hs : (lk al q).isSome = true
  · rw [if_pos hs]
    exact ⟨h, hs, Ext.refl _, [], by simp⟩
  · rw [if_neg hs]
    have hn : lk al q = none := by cases hh : lk al q with
      | none => rfl
      | some x => rw [hh] at hs; exact absurd rfl hs
    have hx : Ext al (al ++ [(q, o)]) := fun p x hp => by rw [lk_snoc, hp]; rfl
    have hqs : lk (al ++ [(q, o)]) q = some o := by rw [lk_snoc, hn, if_pos rfl]; rfl
    have hiff : ∀ p, (lk (al ++ [(q, o)]) p).isSome = true ↔ ((lk al p).isSome = true ∨ p = q) := by
      intro p
      rw [lk_keys, lk_keys, List.map_append, List.mem_append]
      simp
    have hnP : ¬ P q := fun hp => hs ((h.k1 q).2 (Or.inl hp))
    refine ⟨⟨fun p => ?_, fun p hp => ?_, fun p hp => ?_, ?_, ?_⟩, by rw [hqs]; rfl, hx, [q], rfl⟩
    · rw [hiff, h.k1, List.mem_append, List.mem_singleton, or_assoc]
    · rcases List.mem_append.mp hp with hp | hp
      · exact h.k2 p hp
      · simp at hp; subst hp; exact hnP
    · rcases (hiff p).1 hp with hp | rfl
      · obtain ⟨t, n, h1, h2, h3⟩ := h.k3 p hp
        exact ⟨t, n, h1.mono hx, h2, h3⟩
      · obtain ⟨t, n, h1, h2, h3⟩ := ho hn
        rcases h3 with ⟨g1, g2, g3⟩ | ⟨g1, g2, g3⟩
        · exact ⟨t, n + 1, .eps p o t n hqs h2 g1 (h1.mono hx), g2, g3⟩
        · exact ⟨t ++ [o.c], n + 1, .over p o t n hqs h2 g1 (h1.mono hx), g2, by rw [List.length_append, List.length_singleton]; exact g3⟩
    · rw [List.map_append]
      refine ⟨List.nodup_append.mpr ⟨h.k4.1, by simp, ?_⟩, fun s hs' => ?_⟩
      · intro a ha b hb e
        simp at hb
        subst hb
        subst e
        obtain ⟨x, hx1, hx2⟩ := List.mem_map.mp ha
        have := code_inj hx2
        exact hs (lk_keys.2 (List.mem_map.mpr ⟨x, hx1, this⟩))
      · rcases List.mem_append.mp hs' with hs' | hs'
        · exact h.k4.2 s hs'
        · simp at hs'; subst hs'; exact code_lt hq
    · rw [List.length_append, List.length_append, List.length_singleton, List.length_singleton]
      have := h.k5
      omega
def RBlt (st : List Nd) (d : Nat) (p : Sp) : Prop := ∃ t, SR st t p ∧ t.length < d
/-- Ahead of, and in, the steps without a byte of a layer. -/
structure Head (st : List Nd) (d : Nat) (al : List (Sp × Og)) (L : List Sp) : Prop where
  srch : Srch st (RBlt st d) d al L
  seed : (lk al sp0).isSome = true
  byt : ∀ p q c, RBlt st d p → SB st p c q → (lk al q).isSome = true
  nofin : ∀ p, RBlt st d p → (nd st p.s).kind ≠ 5
theorem Head.start {st : List Nd} (h1 : 1 ≤ st.length) (o : Og) (ho : o.root = true) : Head st 0 [(sp0, o)] [sp0] := by
  have hno : ∀ p, ¬ RBlt st 0 p := by rintro p ⟨t, _, h⟩; omega
  have hl : lk [(sp0, o)] sp0 = some o := by rw [lk, if_pos rfl]
  have hk : ∀ p, (lk [(sp0, o)] p).isSome = true ↔ p = sp0 := by intro p; rw [lk_keys]; simp
  refine ⟨⟨fun p => ?_, fun p _ => hno p, fun p hp => ?_, ?_, Nat.le_refl _⟩, by rw [hl]; rfl, fun p q c h => absurd h (hno p), fun p h => absurd h (hno p)⟩
  · rw [hk]; simp [hno p]
  · obtain rfl := (hk p).1 hp
    exact ⟨[], 0, .root _ _ hl ho, .start, Nat.le_refl _⟩
  · refine ⟨by simp, fun s hs => ?_⟩
    simp at hs
    subst hs
    exact code_lt h1
/-- A step without a byte. -/
theorem Head.fwd {st : List Nd} (hv : svalid st = true) {d : Nat} {al : List (Sp × Og)} {L : List Sp} (h : Head st d al L) {p q : Sp} (hp : p ∈ L) (he : SE st p q) :
    q.s < st.length ∧ Head st d (reachP al L q ⟨p, false, false, 0⟩).1 (reachP al L q ⟨p, false, false, 0⟩).2 ∧ (lk (reachP al L q ⟨p, false, false, 0⟩).1 q).isSome = true ∧ Ext al (reachP al L q ⟨p, false, false, 0⟩).1 ∧ ∃ e, (reachP al L q ⟨p, false, false, 0⟩).2 = L ++ e := by
  obtain ⟨t, n, h1, h2, h3⟩ := h.srch.k3 p ((h.srch.k1 p).2 (Or.inr hp))
  have hsr := SR.eps t p q h2 he
  have hq := SR.lt hv hsr
  obtain ⟨g1, g2, g3, g4⟩ := h.srch.reach hq ⟨p, false, false, 0⟩ (fun _ => ⟨t, n, h1, rfl, Or.inl ⟨rfl, hsr, h3⟩⟩)
  exact ⟨hq, ⟨g1, g3.some h.seed, fun p q c a b => g3.some (h.byt p q c a b), h.nofin⟩, g2, g3, g4⟩
/-- The layer is whole. -/
theorem Head.full {st : List Nd} {d : Nat} {al : List (Sp × Og)} {L : List Sp} (h : Head st d al L) (hc : ∀ p ∈ L, ∀ q, SE st p q → (lk al q).isSome = true) (p : Sp) : (lk al p).isSome = true ↔ RBlt st (d + 1) p := by
  constructor
  · intro hp
    obtain ⟨t, n, _, h2, h3⟩ := h.srch.k3 p hp
    exact ⟨t, h2, by omega⟩
  · rintro ⟨t, ht, hl⟩
    suffices hs : ∀ {t p}, SR st t p → t.length < d + 1 → (lk al p).isSome = true from hs ht hl
    intro t p ht
    induction ht with
    | start => intro _; exact h.seed
    | eps t p q hp he ih =>
      intro hl
      rcases (h.srch.k1 p).1 (ih hl) with hr | hr
      · obtain ⟨u, hu, hul⟩ := hr
        exact (h.srch.k1 q).2 (Or.inl ⟨u, .eps u p q hu he, hul⟩)
      · exact hc p hr q he
    | byt t p q c hp hb ih =>
      intro hl
      rw [List.length_append, List.length_singleton] at hl
      exact h.byt p q c ⟨t, hp, by omega⟩ hb
/-- In the steps over a byte: k spots of the layer are done. -/
structure Nxt (st : List Nd) (d : Nat) (L : List Sp) (k : Nat) (al : List (Sp × Og)) (N : List Sp) : Prop where
  srch : Srch st (RBlt st (d + 1)) (d + 1) al N
  seed : (lk al sp0).isSome = true
  byt : ∀ p q c, RBlt st d p → SB st p c q → (lk al q).isSome = true
  done : ∀ j, j < k → ∀ c q, SB st (L.getD j sp0) c q → (lk al q).isSome = true
  old : ∀ p, RBlt st (d + 1) p → ∃ t n, Bk al p t n ∧ SR st t p ∧ t.length ≤ d
theorem Head.nxt {st : List Nd} {d : Nat} {al : List (Sp × Og)} {L : List Sp} (h : Head st d al L) (hc : ∀ p ∈ L, ∀ q, SE st p q → (lk al q).isSome = true) : Nxt st d L 0 al [] := by
  refine ⟨⟨fun p => ?_, fun p hp => by simp at hp, fun p hp => ?_, h.srch.k4, Nat.zero_le _⟩, h.seed, h.byt, fun j hj => by omega, fun p hp => h.srch.k3 p ((h.full hc p).2 hp)⟩
  · rw [h.full hc]; simp
  · obtain ⟨t, n, h1, h2, h3⟩ := h.srch.k3 p hp
    exact ⟨t, n, h1, h2, by omega⟩
theorem Nxt.put {st : List Nd} (hv : svalid st = true) {d : Nat} {L : List Sp} {k : Nat} {al : List (Sp × Og)} {N : List Sp} (h : Nxt st d L k al N) {p q : Sp} {c : Nat} (hp : RBlt st (d + 1) p) (hb : SB st p c q) :
    q.s < st.length ∧ Nxt st d L k (reachP al N q ⟨p, false, true, c⟩).1 (reachP al N q ⟨p, false, true, c⟩).2 ∧ (lk (reachP al N q ⟨p, false, true, c⟩).1 q).isSome = true ∧ Ext al (reachP al N q ⟨p, false, true, c⟩).1 := by
  obtain ⟨t, n, h1, h2, h3⟩ := h.old p hp
  have hsr := SR.byt t p q c h2 hb
  have hq := SR.lt hv hsr
  obtain ⟨g1, g2, g3, _⟩ := h.srch.reach hq ⟨p, false, true, c⟩ (fun _ => ⟨t, n, h1, rfl, Or.inr ⟨rfl, hsr, by omega⟩⟩)
  refine ⟨hq, ⟨g1, g3.some h.seed, fun p q c a b => g3.some (h.byt p q c a b), fun j hj c q hs => g3.some (h.done j hj c q hs), fun p hp => ?_⟩, g2, g3⟩
  obtain ⟨t, n, a1, a2, a3⟩ := h.old p hp
  exact ⟨t, n, a1.mono g3, a2, a3⟩
theorem Nxt.next {st : List Nd} {d : Nat} {L : List Sp} {k : Nat} {al : List (Sp × Og)} {N : List Sp} (h : Nxt st d L k al N) (hk : ∀ c q, SB st (L.getD k sp0) c q → (lk al q).isSome = true) : Nxt st d L (k + 1) al N :=
  ⟨h.srch, h.seed, h.byt, fun j hj c q hs => by
    by_cases e : j = k
    · subst e; exact hk c q hs
    · exact h.done j (by omega) c q hs, h.old⟩
/-- The next layer begins. -/
theorem Nxt.head {st : List Nd} {d : Nat} {L : List Sp} {al : List (Sp × Og)} {N : List Sp} (h : Nxt st d L L.length al N) (h0 : ∀ p, RBlt st (d + 1) p → RBlt st d p ∨ p ∈ L) (hf : ∀ p, RBlt st d p → (nd st p.s).kind ≠ 5) (hL : ∀ p ∈ L, (nd st p.s).kind ≠ 5) : Head st (d + 1) al N := by
  refine ⟨h.srch, h.seed, fun p q c hp hb => ?_, fun p hp => ?_⟩
  · rcases h0 p hp with hp | hp
    · exact h.byt p q c hp hb
    · obtain ⟨j, hj, rfl⟩ := List.mem_iff_getElem.mp hp
      refine h.done j hj c q ?_
      rw [List.getD_eq_getElem?_getD, List.getElem?_eq_getElem hj]
      exact hb
  · rcases h0 p hp with hp | hp
    · exact hf p hp
    · exact hL p hp
/-- A spot of the layer accepts: it is a least text. -/
theorem Head.found {st : List Nd} {d : Nat} {al : List (Sp × Og)} {L : List Sp} (h : Head st d al L) {p : Sp} (hp : p ∈ L) (hk : (nd st p.s).kind = 5) (he : p.e = false) {t : List Nat} (ht : SR st t p) (hl : t.length ≤ d) : SMin st (some t) := by
  refine ⟨Or.inl ⟨p, ht, hk, he⟩, fun u hu => ?_⟩
  rcases hu with ⟨q, h1, h2, _⟩ | ⟨u', q, rfl, h1, h2, _⟩
  · by_cases hd : u.length < d
    · exact absurd h2 (h.nofin q ⟨u, h1, hd⟩)
    · omega
  · by_cases hd : u'.length < d
    · exact absurd h2 (h.nofin q ⟨u', h1, hd⟩)
    · rw [List.length_append, List.length_singleton]; omega
theorem Head.late {st : List Nd} {d : Nat} {al : List (Sp × Og)} {L : List Sp} (h : Head st d al L) (hc : ∀ p, RBlt st (d + 1) p → RBlt st d p ∨ p ∈ L) (hno : ∀ p ∈ L, (nd st p.s).kind = 5 → p.e = true) {p : Sp} (hp : p ∈ L) (hk : (nd st p.s).kind = 5) (he : p.e = true) {t : List Nat} (ht : SR st t p) (hl : t.length ≤ d) : SMin st (some (t ++ [10])) := by
  refine ⟨Or.inr ⟨t, p, rfl, ht, hk, he⟩, fun u hu => ?_⟩
  rw [List.length_append, List.length_singleton]
  rcases hu with ⟨q, h1, h2, h3⟩ | ⟨u', q, rfl, h1, h2, _⟩
  · by_cases hd : u.length < d + 1
    · rcases hc q ⟨u, h1, hd⟩ with hq | hq
      · exact absurd h2 (h.nofin q hq)
      · have := hno q hq h2; rw [h3] at this; cases this
    · omega
  · by_cases hd : u'.length < d
    · exact absurd h2 (h.nofin q ⟨u', h1, hd⟩)
    · rw [List.length_append, List.length_singleton]; omega
theorem Head.part {st : List Nd} {d : Nat} {al : List (Sp × Og)} {L : List Sp} (h : Head st d al L) (hc : ∀ p ∈ L, ∀ q, SE st p q → (lk al q).isSome = true) (p : Sp) (hp : RBlt st (d + 1) p) : RBlt st d p ∨ p ∈ L :=
  (h.srch.k1 p).1 ((h.full hc p).2 hp)
/-- No more spots: nothing is accepted. -/
theorem Head.none_ {st : List Nd} {d : Nat} {al : List (Sp × Og)} (h : Head st d al []) : SMin st none := by
  have key : ∀ {t p}, SR st t p → RBlt st d p := by
    intro t p ht
    have hs : ∀ {t p}, SR st t p → (lk al p).isSome = true := by
      intro t p ht
      induction ht with
      | start => exact h.seed
      | eps t p q hp he ih =>
        obtain ⟨u, hu, hul⟩ := ((h.srch.k1 p).1 ih).resolve_right (by simp)
        exact (h.srch.k1 q).2 (Or.inl ⟨u, .eps u p q hu he, hul⟩)
      | byt t p q c hp hb ih =>
        exact h.byt p q c (((h.srch.k1 p).1 ih).resolve_right (by simp)) hb
    exact ((h.srch.k1 p).1 (hs ht)).resolve_right (by simp)
  rintro t (⟨p, h1, h2, _⟩ | ⟨t', p, _, h1, h2, _⟩)
  · exact h.nofin p (key h1) h2
  · exact h.nofin p (key h1) h2
end Go.Proofs.Ythadkjgadhbidaa
