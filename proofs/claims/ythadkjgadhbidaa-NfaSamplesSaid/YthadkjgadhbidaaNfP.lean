/-
  Automata: their graph; what it means that states are wired as a pattern's nodes say; then they accept what the pattern matches. No program in sight.
-/
import Derived.Test.YthadkjgadhbidaaRnP
namespace Go.Proofs.Ythadkjgadhbidaa
open Go.RowKit
set_option linter.unusedVariables false

/-- The graph of an automaton; a state is written as a node: kind, out, other, set. -/
def nfaG (st : List Nd) : Gr where
  eps := fun bol eol s s' => ((nd st s).kind = 2 ∧ (((s' : Int) = (nd st s).left) ∨ ((s' : Int) = (nd st s).right))) ∨ ((nd st s).kind = 3 ∧ bol = true ∧ (s' : Int) = (nd st s).left) ∨ ((nd st s).kind = 4 ∧ eol = true ∧ (s' : Int) = (nd st s).left)
  byt := fun c s s' => (nd st s).kind = 1 ∧ hasB (nd st s).set c = true ∧ (s' : Int) = (nd st s).left
  s0 := 0
  fin := fun s => (nd st s).kind = 5
theorem nfaG_mono (st : List Nd) : GMono (nfaG st) := by
  intro bol s s' h
  rcases h with h | h | ⟨_, h, _⟩
  · exact Or.inl h
  · exact Or.inr (Or.inl h)
  · cases h
/-- From a spot on, to one that accepts, in m steps. -/
inductive AccN (g : Gr) (t : List Nat) : Nat → Nat → Nat → Prop
  | fin (s i : Nat) : g.fin s → AccN g t 0 s i
  | eps (m s s' i : Nat) : g.eps (bolT t i) (eolT t i) s s' → AccN g t m s' i → AccN g t (m + 1) s i
  | byte (m s s' i : Nat) : i < t.length → g.byt (t.getD i 0) s s' → AccN g t m s' (i + 1) → AccN g t (m + 1) s i
theorem GWay.to_acc {g : Gr} {t : List Nat} {s k : Nat} (h : GWay g t s k) : ∀ m, AccN g t m s k → ∃ i m', i ≤ t.length ∧ AccN g t m' g.s0 i := by
  induction h with
  | start i h => intro m hm; exact ⟨i, m, h, hm⟩
  | eps s s' i _ he ih => intro m hm; exact ih (m + 1) (.eps m s s' i he hm)
  | byte s s' i _ hi hb ih => intro m hm; exact ih (m + 1) (.byte m s s' i hi hb hm)
theorem AccN.to_way {g : Gr} {t : List Nat} {m s i : Nat} (h : AccN g t m s i) : GWay g t s i → ∃ s' k, GWay g t s' k ∧ g.fin s' := by
  induction h with
  | fin s i h => intro hw; exact ⟨s, i, hw, h⟩
  | eps m s s' i he _ ih => intro hw; exact ih (.eps s s' i hw he)
  | byte m s s' i hi hb _ ih => intro hw; exact ih (.byte s s' i hw hi hb)
theorem acc_iff {g : Gr} {t : List Nat} {n : Nat} (hn : n ≤ t.length) : GAcc g t n ↔ ∃ i m, i ≤ n ∧ AccN g (t.take n) m g.s0 i := by
  have hl : (t.take n).length = n := by rw [List.length_take]; omega
  constructor
  · rintro ⟨s, k, hw, hf⟩
    obtain ⟨i, m, hi, ha⟩ := hw.to_acc 0 (.fin s k hf)
    exact ⟨i, m, by omega, ha⟩
  · rintro ⟨i, m, hi, ha⟩
    obtain ⟨s, k, hw, hf⟩ := ha.to_way (.start i (by omega))
    exact ⟨s, k, hw, hf⟩
/-- From a to b without more: the same state, or a split of which both ways lead there. -/
def Goes (S : Nat → Nd) (P : Nat → Prop) (a b : Nat) : Prop := a = b ∨ (P a ∧ (S a).kind = 2 ∧ (S a).left = b ∧ (S a).right = b)
/-- The states at P are wired as node n says: first f, behind it next. -/
inductive Frag (l : List Nd) (S : Nat → Nd) (P : Nat → Prop) : Nat → Nat → Nat → Prop
  | empty (n f x : Nat) : (nd l n).kind = 1 → Goes S P f x → Frag l S P n f x
  | set (n f x : Nat) : (nd l n).kind = 2 → P f → (S f).kind = 1 → (S f).left = x → (S f).set = (nd l n).set → Frag l S P n f x
  | bol (n f x : Nat) : (nd l n).kind = 8 → P f → (S f).kind = 3 → (S f).left = x → Frag l S P n f x
  | eol (n f x : Nat) : (nd l n).kind = 9 → P f → (S f).kind = 4 → (S f).left = x → Frag l S P n f x
  | cat (n a b f y x : Nat) : (nd l n).kind = 3 → (nd l n).left = a → (nd l n).right = b → Frag l S P a f y → Frag l S P b y x → Frag l S P n f x
  | alt (n a b f f1 f2 n1 n2 x : Nat) : (nd l n).kind = 4 → (nd l n).left = a → (nd l n).right = b → P f → (S f).kind = 2 → (S f).left = f1 → (S f).right = f2 → Frag l S P a f1 n1 → Goes S P n1 x → Frag l S P b f2 n2 → Goes S P n2 x → Frag l S P n f x
  | star (n a f f1 n1 x : Nat) : (nd l n).kind = 5 → (nd l n).left = a → P f → (S f).kind = 2 → (S f).left = f1 → (S f).right = x → Frag l S P a f1 n1 → Goes S P n1 f → Frag l S P n f x
  | plus (n a f n1 x : Nat) : (nd l n).kind = 6 → (nd l n).left = a → Frag l S P a f n1 → P n1 → (S n1).kind = 2 → (S n1).left = f → (S n1).right = x → Frag l S P n f x
  | opt (n a f f1 x : Nat) : (nd l n).kind = 7 → (nd l n).left = a → P f → (S f).kind = 2 → (S f).left = f1 → (S f).right = x → Frag l S P a f1 x → Frag l S P n f x
theorem Goes.congr {S S' : Nat → Nd} {P P' : Nat → Prop} {a b : Nat} (h : Goes S P a b) (hc : ∀ i, P i → S i = S' i ∧ P' i) : Goes S' P' a b := by
  rcases h with h | ⟨h1, h2, h3, h4⟩
  · exact Or.inl h
  · obtain ⟨e, p⟩ := hc _ h1
    exact Or.inr ⟨p, e ▸ h2, e ▸ h3, e ▸ h4⟩
theorem Frag.congr {l : List Nd} {S S' : Nat → Nd} {P P' : Nat → Prop} {n f x : Nat} (h : Frag l S P n f x) (hc : ∀ i, P i → S i = S' i ∧ P' i) : Frag l S' P' n f x := by
  induction h with
  | empty n f x hk hg => exact .empty n f x hk (hg.congr hc)
  | set n f x hk hp h1 h2 h3 => obtain ⟨e, p⟩ := hc _ hp; exact .set n f x hk p (e ▸ h1) (e ▸ h2) (e ▸ h3)
  | bol n f x hk hp h1 h2 => obtain ⟨e, p⟩ := hc _ hp; exact .bol n f x hk p (e ▸ h1) (e ▸ h2)
  | eol n f x hk hp h1 h2 => obtain ⟨e, p⟩ := hc _ hp; exact .eol n f x hk p (e ▸ h1) (e ▸ h2)
  | cat n a b f y x hk ha hb _ _ i1 i2 => exact .cat n a b f y x hk ha hb i1 i2
  | alt n a b f f1 f2 n1 n2 x hk ha hb hp h1 h2 h3 _ g1 _ g2 i1 i2 => obtain ⟨e, p⟩ := hc _ hp; exact .alt n a b f f1 f2 n1 n2 x hk ha hb p (e ▸ h1) (e ▸ h2) (e ▸ h3) i1 (g1.congr hc) i2 (g2.congr hc)
  | star n a f f1 n1 x hk ha hp h1 h2 h3 _ g1 i1 => obtain ⟨e, p⟩ := hc _ hp; exact .star n a f f1 n1 x hk ha p (e ▸ h1) (e ▸ h2) (e ▸ h3) i1 (g1.congr hc)
  | plus n a f n1 x hk ha _ hp h1 h2 h3 i1 => obtain ⟨e, p⟩ := hc _ hp; exact .plus n a f n1 x hk ha i1 p (e ▸ h1) (e ▸ h2) (e ▸ h3)
  | opt n a f f1 x hk ha hp h1 h2 h3 _ i1 => obtain ⟨e, p⟩ := hc _ hp; exact .opt n a f f1 x hk ha p (e ▸ h1) (e ▸ h2) (e ▸ h3) i1
section
variable {l st : List Nd} {P : Nat → Prop} {t : List Nat}
def AccE (st : List Nd) (t : List Nat) (s i : Nat) : Prop := ∃ m, AccN (nfaG st) t m s i
theorem Goes.acc {a b i : Nat} (h : Goes (nd st) P a b) (k : AccE st t b i) : AccE st t a i := by
  rcases h with rfl | ⟨_, h1, h2, _⟩
  · exact k
  · obtain ⟨m, k⟩ := k
    exact ⟨m + 1, .eps m a b i (Or.inl ⟨h1, Or.inl h2.symm⟩) k⟩
theorem split_acc {f x i : Nat} (h : (nd st f).kind = 2) (hx : (nd st f).left = x ∨ (nd st f).right = x) (k : AccE st t x i) : AccE st t f i := by
  obtain ⟨m, k⟩ := k
  exact ⟨m + 1, .eps m f x i (Or.inl ⟨h, hx.imp Eq.symm Eq.symm⟩) k⟩
theorem Leads.acc {n i k : Nat} (h : Leads l t n i k) : ∀ f x, Frag l (nd st) P n f x → AccE st t x k → AccE st t f i := by
  induction h with
  | empty n i hk =>
    intro f x hf ka
    cases hf with
    | empty _ _ _ _ hg => exact hg.acc ka
    | _ => omega
  | set n i hk hi hs =>
    intro f x hf ka
    cases hf with
    | set _ _ _ _ _ h1 h2 h3 =>
      obtain ⟨m, ka⟩ := ka
      exact ⟨m + 1, .byte m f x i hi ⟨h1, by rw [h3]; exact hs, h2.symm⟩ ka⟩
    | _ => omega
  | bol n i hk hb =>
    intro f x hf ka
    cases hf with
    | bol _ _ _ _ _ h1 h2 =>
      obtain ⟨m, ka⟩ := ka
      exact ⟨m + 1, .eps m f x i (Or.inr (Or.inl ⟨h1, hb, h2.symm⟩)) ka⟩
    | _ => omega
  | eol n i hk hb =>
    intro f x hf ka
    cases hf with
    | eol _ _ _ _ _ h1 h2 =>
      obtain ⟨m, ka⟩ := ka
      exact ⟨m + 1, .eps m f x i (Or.inr (Or.inr ⟨h1, hb, h2.symm⟩)) ka⟩
    | _ => omega
  | cat n a b i j k hk ha hb _ _ i1 i2 =>
    intro f x hf ka
    cases hf with
    | cat _ a' b' _ y _ _ ha' hb' f1 f2 =>
      obtain rfl : a' = a := by omega
      obtain rfl : b' = b := by omega
      exact i1 f y f1 (i2 y x f2 ka)
    | _ => omega
  | altL n a i k hk ha _ i1 =>
    intro f x hf ka
    cases hf with
    | alt _ a' b' _ f1 f2 n1 n2 _ _ ha' hb' hp h1 h2 h3 r1 g1 r2 g2 =>
      obtain rfl : a' = a := by omega
      exact split_acc h1 (Or.inl h2) (i1 f1 n1 r1 (g1.acc ka))
    | _ => omega
  | altR n b i k hk hb _ i1 =>
    intro f x hf ka
    cases hf with
    | alt _ a' b' _ f1 f2 n1 n2 _ _ ha' hb' hp h1 h2 h3 r1 g1 r2 g2 =>
      obtain rfl : b' = b := by omega
      exact split_acc h1 (Or.inr h3) (i1 f2 n2 r2 (g2.acc ka))
    | _ => omega
  | star0 n i hk =>
    intro f x hf ka
    cases hf with
    | star _ a' _ f1 n1 _ _ ha' hp h1 h2 h3 r1 g1 => exact split_acc h1 (Or.inr h3) ka
    | _ => omega
  | star1 n a i j k hk ha _ _ i1 i2 =>
    intro f x hf ka
    have hf0 := hf
    cases hf with
    | star _ a' _ f1 n1 _ _ ha' hp h1 h2 h3 r1 g1 =>
      obtain rfl : a' = a := by omega
      exact split_acc h1 (Or.inl h2) (i1 f1 n1 r1 (g1.acc (i2 f x hf0 ka)))
    | _ => omega
  | plus0 n a i k hk ha _ i1 =>
    intro f x hf ka
    cases hf with
    | plus _ a' _ n1 _ _ ha' r1 hp h1 h2 h3 =>
      obtain rfl : a' = a := by omega
      exact i1 f n1 r1 (split_acc h1 (Or.inr h3) ka)
    | _ => omega
  | plus1 n a i j k hk ha _ _ i1 i2 =>
    intro f x hf ka
    have hf0 := hf
    cases hf with
    | plus _ a' _ n1 _ _ ha' r1 hp h1 h2 h3 =>
      obtain rfl : a' = a := by omega
      exact i1 f n1 r1 (split_acc h1 (Or.inl h2) (i2 f x hf0 ka))
    | _ => omega
  | opt0 n i hk =>
    intro f x hf ka
    cases hf with
    | opt _ a' _ f1 _ _ ha' hp h1 h2 h3 r1 => exact split_acc h1 (Or.inr h3) ka
    | _ => omega
  | opt1 n a i k hk ha _ i1 =>
    intro f x hf ka
    cases hf with
    | opt _ a' _ f1 _ _ ha' hp h1 h2 h3 r1 =>
      obtain rfl : a' = a := by omega
      exact split_acc h1 (Or.inl h2) (i1 f1 x r1 ka)
    | _ => omega
theorem split_inv {m f f1 f2 i : Nat} (h : AccN (nfaG st) t m f i) (hk : (nd st f).kind = 2) (h1 : (nd st f).left = f1) (h2 : (nd st f).right = f2) : ∃ m', m = m' + 1 ∧ (AccN (nfaG st) t m' f1 i ∨ AccN (nfaG st) t m' f2 i) := by
  cases h with
  | fin _ _ hf => have hf' : (nd st f).kind = 5 := hf
                  omega
  | eps m _ s' _ he ha =>
    refine ⟨m, rfl, ?_⟩
    rcases he with ⟨_, he⟩ | ⟨he, _⟩ | ⟨he, _⟩
    · rcases he with he | he
      · obtain rfl : s' = f1 := by omega
        exact Or.inl ha
      · obtain rfl : s' = f2 := by omega
        exact Or.inr ha
    · omega
    · omega
  | byte m _ s' _ _ hb _ => have := hb.1; omega
theorem Goes.inv {m a b i : Nat} (h : AccN (nfaG st) t m a i) (hg : Goes (nd st) P a b) : ∃ m', m' ≤ m ∧ AccN (nfaG st) t m' b i := by
  rcases hg with rfl | ⟨_, h1, h2, h3⟩
  · exact ⟨m, Nat.le_refl _, h⟩
  · obtain ⟨m', rfl, h | h⟩ := split_inv h h1 h2 h3
    · exact ⟨m', by omega, h⟩
    · exact ⟨m', by omega, h⟩
theorem Frag.leads {n f x : Nat} (h : Frag l (nd st) P n f x) : ∀ m i, AccN (nfaG st) t m f i → ∃ k m', m' ≤ m ∧ Leads l t n i k ∧ AccN (nfaG st) t m' x k := by
  induction h with
  | empty n f x hk hg =>
    intro m i ha
    obtain ⟨m', h1, h2⟩ := Goes.inv ha hg
    exact ⟨i, m', h1, .empty n i hk, h2⟩
  | set n f x hk hp h1 h2 h3 =>
    intro m i ha
    cases ha with
    | fin _ _ hf => have hf' : (nd st f).kind = 5 := hf
                    omega
    | eps m _ s' _ he ha => rcases he with ⟨he, _⟩ | ⟨he, _⟩ | ⟨he, _⟩ <;> omega
    | byte m _ s' _ hi hb ha =>
      obtain ⟨_, hb2, hb3⟩ := hb
      obtain rfl : s' = x := by omega
      exact ⟨i + 1, m, by omega, .set n i hk hi (by rw [← h3]; exact hb2), ha⟩
  | bol n f x hk hp h1 h2 =>
    intro m i ha
    cases ha with
    | fin _ _ hf => have hf' : (nd st f).kind = 5 := hf
                    omega
    | eps m _ s' _ he ha =>
      rcases he with ⟨he, _⟩ | ⟨_, he, hs⟩ | ⟨he, _⟩
      · omega
      · obtain rfl : s' = x := by omega
        exact ⟨i, m, by omega, .bol n i hk he, ha⟩
      · omega
    | byte m _ s' _ hi hb ha => have := hb.1; omega
  | eol n f x hk hp h1 h2 =>
    intro m i ha
    cases ha with
    | fin _ _ hf => have hf' : (nd st f).kind = 5 := hf
                    omega
    | eps m _ s' _ he ha =>
      rcases he with ⟨he, _⟩ | ⟨he, _⟩ | ⟨_, he, hs⟩
      · omega
      · omega
      · obtain rfl : s' = x := by omega
        exact ⟨i, m, by omega, .eol n i hk he, ha⟩
    | byte m _ s' _ hi hb ha => have := hb.1; omega
  | cat n a b f y x hk ha hb _ _ i1 i2 =>
    intro m i hh
    obtain ⟨j, m1, l1, q1, q2⟩ := i1 m i hh
    obtain ⟨k, m2, l2, q3, q4⟩ := i2 m1 j q2
    exact ⟨k, m2, by omega, .cat n a b i j k hk ha hb q1 q3, q4⟩
  | alt n a b f f1 f2 n1 n2 x hk ha hb hp h1 h2 h3 _ g1 _ g2 i1 i2 =>
    intro m i hh
    obtain ⟨m', rfl, hh | hh⟩ := split_inv hh h1 h2 h3
    · obtain ⟨k, m1, l1, q1, q2⟩ := i1 m' i hh
      obtain ⟨m2, l2, q3⟩ := Goes.inv q2 g1
      exact ⟨k, m2, by omega, .altL n a i k hk ha q1, q3⟩
    · obtain ⟨k, m1, l1, q1, q2⟩ := i2 m' i hh
      obtain ⟨m2, l2, q3⟩ := Goes.inv q2 g2
      exact ⟨k, m2, by omega, .altR n b i k hk hb q1, q3⟩
  | star n a f f1 n1 x hk ha hp h1 h2 h3 _ g1 i1 =>
    intro m
    induction m using Nat.strongRecOn with
    | _ m ih =>
      intro i hh
      obtain ⟨m', rfl, hh | hh⟩ := split_inv hh h1 h2 h3
      · obtain ⟨j, m1, l1, q1, q2⟩ := i1 m' i hh
        obtain ⟨m2, l2, q3⟩ := Goes.inv q2 g1
        obtain ⟨k, m3, l3, q4, q5⟩ := ih m2 (by omega) j q3
        exact ⟨k, m3, by omega, .star1 n a i j k hk ha q1 q4, q5⟩
      · exact ⟨i, m', by omega, .star0 n i hk, hh⟩
  | plus n a f n1 x hk ha _ hp h1 h2 h3 i1 =>
    intro m
    induction m using Nat.strongRecOn with
    | _ m ih =>
      intro i hh
      obtain ⟨j, m1, l1, q1, q2⟩ := i1 m i hh
      obtain ⟨m', rfl, hh | hh⟩ := split_inv q2 h1 h2 h3
      · obtain ⟨k, m3, l3, q4, q5⟩ := ih m' (by omega) j hh
        exact ⟨k, m3, by omega, .plus1 n a i j k hk ha q1 q4, q5⟩
      · exact ⟨j, m', by omega, .plus0 n a i j hk ha q1, hh⟩
  | opt n a f f1 x hk ha hp h1 h2 h3 _ i1 =>
    intro m i hh
    obtain ⟨m', rfl, hh | hh⟩ := split_inv hh h1 h2 h3
    · obtain ⟨k, m1, l1, q1, q2⟩ := i1 m' i hh
      exact ⟨k, m1, by omega, .opt1 n a i k hk ha q1, q2⟩
    · exact ⟨i, m', by omega, .opt0 n i hk, hh⟩
end
/-- An automaton that is wired as a pattern's root says, and then accepts, accepts what the pattern matches. -/
structure Wired (l st : List Nd) : Prop where
  wired : ∃ P f x, Goes (nd st) P 0 f ∧ Frag l (nd st) P (l.length - 1) f x ∧ (nd st x).kind = 5
theorem Wired.hit {l st : List Nd} (h : Wired l st) (t : List Nat) (n : Nat) (hn : n ≤ t.length) : GAcc (nfaG st) t n ↔ Hit l t n := by
  obtain ⟨P, f, x, hg, hf, hx⟩ := h.wired
  rw [acc_iff hn]
  constructor
  · rintro ⟨i, m, hi, ha⟩
    obtain ⟨m1, _, h1⟩ := Goes.inv ha hg
    obtain ⟨k, m2, _, h2, _⟩ := hf.leads m1 i h1
    exact ⟨i, k, hi, h2⟩
  · rintro ⟨i, k, hi, hl⟩
    obtain ⟨m, hm⟩ := hg.acc (hl.acc f x hf ⟨0, .fin x k hx⟩)
    exact ⟨i, m, hi, hm⟩
end Go.Proofs.Ythadkjgadhbidaa
