/-
  The reference's search for a least text, level by level; no program in sight.
-/
import Derived.Test.YthadkjgadhbidaaSpS
namespace Go.Proofs.Ythadkjgadhbidaa
open Go.RowKit
set_option linter.unusedVariables false

/-- A level's start: what was seen, and where the level begins. -/
structure Lev (st : List Nd) (d : Nat) (S K : List Sp) : Prop where
  seen : ∀ p, p ∈ S ↔ RBlt st d p
  nodup : S.Nodup
  no5 : ∀ p ∈ S, (nd st p.s).kind ≠ 5
  cmp : ∀ q c p, RBlt st d q → SB st q c p → RBlt st d p ∨ p ∈ K
  start : d = 0 → sp0 ∈ K
/-- Within a level. -/
structure Lin (st : List Nd) (d : Nat) (S0 K0 S K : List Sp) (i : Nat) (N : List Sp) (b : Bool) : Prop where
  lev : Lev st d S0 K0
  sub : ∀ p ∈ S0, p ∈ S
  nodup : S.Nodup
  kx : ∀ p ∈ K0, p ∈ K
  rd : ∀ p ∈ S, RBlt st (d + 1) p
  eps : ∀ p ∈ S, p ∉ S0 → ∀ q, SE st p q → q ∈ K
  byt : ∀ p ∈ S, p ∉ S0 → ∀ c q, SB st p c q → q ∈ N
  pre : ∀ p ∈ K.take i, p ∈ S
  noe : ∀ p ∈ S, (nd st p.s).kind = 5 → p.e = true ∧ b = true
theorem RBlt.mono {st : List Nd} {d e : Nat} {p : Sp} (h : RBlt st d p) (hd : d ≤ e) : RBlt st e p := by
  obtain ⟨t, h1, h2⟩ := h
  exact ⟨t, h1, by omega⟩
theorem RBlt.eps_ {st : List Nd} {d : Nat} {p q : Sp} (h : RBlt st d p) (he : SE st p q) : RBlt st d q := by
  obtain ⟨t, h1, h2⟩ := h
  exact ⟨t, .eps _ _ _ h1 he, h2⟩
theorem Lev.zero (st : List Nd) : Lev st 0 [] [sp0] where
  seen p := ⟨fun h => absurd h List.not_mem_nil, fun h => by obtain ⟨t, _, h⟩ := h; omega⟩
  nodup := List.nodup_nil
  no5 p h := by cases h
  cmp q c p h _ := by obtain ⟨t, _, h⟩ := h; omega
  start _ := by simp
theorem Lev.enter {st : List Nd} {d : Nat} {S K : List Sp} (h : Lev st d S K) : Lin st d S K S K 0 [] false where
  lev := h
  sub p hp := hp
  nodup := h.nodup
  kx p hp := hp
  rd p hp := ((h.seen p).1 hp).mono (by omega)
  eps p hp hn := absurd hp hn
  byt p hp hn := absurd hp hn
  pre p hp := by simp at hp
  noe p hp hk := absurd hk (h.no5 p hp)
section
variable {st : List Nd} {d : Nat} {S0 K0 S K : List Sp} {i : Nat} {N : List Sp} {b : Bool}
theorem take_snoc_mem {K : List Sp} {i : Nat} {p q : Sp} (hK : K[i]? = some p) (h : q ∈ K.take (i + 1)) : q ∈ K.take i ∨ q = p := by
  rw [List.take_add_one, hK] at h
  rcases List.mem_append.mp h with h | h
  · exact Or.inl h
  · simp at h; exact Or.inr h
theorem Lin.known (h : Lin st d S0 K0 S K i N b) {p : Sp} (hK : K[i]? = some p) (hp : p ∈ S) : Lin st d S0 K0 S K (i + 1) N b :=
  { h with pre := fun q hq => (take_snoc_mem hK hq).elim (h.pre q) (fun e => e ▸ hp) }
theorem Lin.new (h : Lin st d S0 K0 S K i N b) {p : Sp} (hK : K[i]? = some p) (hp : p ∉ S) {t : List Nat} (ht : SR st t p) (hl : t.length = d) {M R : List Sp} (hM : ∀ q, SE st p q → q ∈ M) (hR : ∀ c q, SB st p c q → q ∈ R) {b' : Bool} (hb : b = true → b' = true) (h5 : (nd st p.s).kind = 5 → p.e = true ∧ b' = true) :
    Lin st d S0 K0 (S ++ [p]) (K ++ M) (i + 1) (N ++ R) b' where
  lev := h.lev
  sub q hq := List.mem_append_left _ (h.sub q hq)
  nodup := by
    rw [List.nodup_append]
    exact ⟨h.nodup, by simp, fun a ha c hc e => by simp at hc; subst hc; subst e; exact hp ha⟩
  kx q hq := List.mem_append_left _ (h.kx q hq)
  rd q hq := by
    rcases List.mem_append.mp hq with hq | hq
    · exact h.rd q hq
    · simp at hq; subst hq; exact ⟨t, ht, by omega⟩
  eps q hq hn r hr := by
    rcases List.mem_append.mp hq with hq | hq
    · exact List.mem_append_left _ (h.eps q hq hn r hr)
    · simp at hq; subst hq; exact List.mem_append_right _ (hM r hr)
  byt q hq hn c r hr := by
    rcases List.mem_append.mp hq with hq | hq
    · exact List.mem_append_left _ (h.byt q hq hn c r hr)
    · simp at hq; subst hq; exact List.mem_append_right _ (hR c r hr)
  pre q hq := by
    have hil : i < K.length := (List.getElem?_eq_some_iff.mp hK).1
    rw [List.take_append_of_le_length (by omega)] at hq
    rcases take_snoc_mem hK hq with hq | rfl
    · exact List.mem_append_left _ (h.pre q hq)
    · simp
  noe q hq hk := by
    rcases List.mem_append.mp hq with hq | hq
    · obtain ⟨h1, h2⟩ := h.noe q hq hk; exact ⟨h1, hb h2⟩
    · simp at hq; subst hq; exact h5 hk
theorem Lin.full (h : Lin st d S0 K0 S K K.length N b) (p : Sp) : p ∈ S ↔ RBlt st (d + 1) p := by
  refine ⟨h.rd p, ?_⟩
  have hpre : ∀ q ∈ K, q ∈ S := fun q hq => h.pre q (by rw [List.take_length]; exact hq)
  have key : ∀ {t p}, SR st t p → t.length < d + 1 → p ∈ S := by
    intro t p hs
    induction hs with
    | start =>
      intro _
      by_cases hd : d = 0
      · exact hpre _ (h.kx _ (h.lev.start hd))
      · exact h.sub _ ((h.lev.seen _).2 ⟨[], .start, by simp; omega⟩)
    | eps t p q hp he ih =>
      intro hl
      have h1 := ih hl
      by_cases h0 : p ∈ S0
      · exact h.sub _ ((h.lev.seen _).2 (((h.lev.seen _).1 h0).eps_ he))
      · exact hpre _ (h.eps p h1 h0 q he)
    | byt t p q c hp hb ih =>
      intro hl
      rw [List.length_append, List.length_singleton] at hl
      rcases h.lev.cmp p c q ⟨t, hp, by omega⟩ hb with h1 | h1
      · exact h.sub _ ((h.lev.seen _).2 h1)
      · exact hpre _ (h.kx _ h1)
  rintro ⟨t, h1, h2⟩
  exact key h1 h2
theorem Lev.found (h : Lev st d S K) {t : List Nat} {p : Sp} (ht : SR st t p) (hl : t.length = d) (hk : (nd st p.s).kind = 5) (he : p.e = false) : SMin st (some t) := by
  refine ⟨Or.inl ⟨p, ht, hk, he⟩, fun u hu => ?_⟩
  rcases hu with ⟨q, hq, hk5, _⟩ | ⟨u', q, rfl, hq, hk5, _⟩
  · by_cases hlt : u.length < d
    · exact absurd hk5 (h.no5 q ((h.seen q).2 ⟨u, hq, hlt⟩))
    · omega
  · rw [List.length_append, List.length_singleton]
    by_cases hlt : u'.length < d
    · exact absurd hk5 (h.no5 q ((h.seen q).2 ⟨u', hq, hlt⟩))
    · omega
theorem Lin.late (h : Lin st d S0 K0 S K K.length N b) {t : List Nat} {p : Sp} (ht : SR st t p) (hl : t.length = d) (hk : (nd st p.s).kind = 5) (he : p.e = true) : SMin st (some (t ++ [10])) := by
  refine ⟨Or.inr ⟨t, p, rfl, ht, hk, he⟩, fun u hu => ?_⟩
  rw [List.length_append, List.length_singleton]
  rcases hu with ⟨q, hq, hk5, he5⟩ | ⟨u', q, rfl, hq, hk5, _⟩
  · by_cases hlt : u.length < d + 1
    · have := (h.noe q ((h.full q).2 ⟨u, hq, hlt⟩) hk5).1
      rw [he5] at this; cases this
    · omega
  · rw [List.length_append, List.length_singleton]
    by_cases hlt : u'.length < d
    · exact absurd hk5 (h.lev.no5 q ((h.lev.seen q).2 ⟨u', hq, hlt⟩))
    · omega
theorem Lin.next (h : Lin st d S0 K0 S K K.length N false) : Lev st (d + 1) S N where
  seen := h.full
  nodup := h.nodup
  no5 p hp hk := by have := (h.noe p hp hk).2; cases this
  cmp q c p hq hb := by
    have hS := (h.full q).2 hq
    by_cases h0 : q ∈ S0
    · obtain ⟨t, h1, h2⟩ := (h.lev.seen q).1 h0
      exact Or.inl ⟨t ++ [c], .byt _ _ _ _ h1 hb, by rw [List.length_append, List.length_singleton]; omega⟩
    · exact Or.inr (h.byt q hS h0 c p hb)
  start h0 := by omega
theorem Lev.none_ (h : Lev st d S []) : SMin st none := by
  have hd : d ≠ 0 := fun e => by have := h.start e; cases this
  have key : ∀ {t p}, SR st t p → p ∈ S := by
    intro t p hs
    induction hs with
    | start => exact (h.seen _).2 ⟨[], .start, by simp; omega⟩
    | eps t p q hp he ih => exact (h.seen _).2 (((h.seen _).1 ih).eps_ he)
    | byt t p q c hp hb ih =>
      rcases h.cmp p c q ((h.seen _).1 ih) hb with h1 | h1
      · exact (h.seen _).2 h1
      · cases h1
  intro u hu
  rcases hu with ⟨q, hq, hk5, _⟩ | ⟨u', q, _, hq, hk5, _⟩
  · exact h.no5 q (key hq) hk5
  · exact h.no5 q (key hq) hk5
end
/-- The spots that lie a step without a byte on. -/
def movM (st : List Nd) (p : Sp) : List Sp :=
  if (nd st p.s).kind = 2 then [⟨outS st p.s, p.b, p.e⟩, ⟨othS st p.s, p.b, p.e⟩] else if (nd st p.s).kind = 3 ∧ p.b = true then [⟨outS st p.s, p.b, p.e⟩] else if (nd st p.s).kind = 4 then [⟨outS st p.s, p.b, true⟩] else []
theorem movM_iff {st : List Nd} {p q : Sp} : q ∈ movM st p ↔ SE st p q := by
  unfold movM SE
  by_cases h2 : (nd st p.s).kind = 2
  · simp [h2]
  · by_cases h3 : (nd st p.s).kind = 3
    · by_cases hb : p.b = true
      · simp [h3, hb]
      · simp [h3, hb]
    · by_cases h4 : (nd st p.s).kind = 4
      · simp [h4]
      · simp [h2, h3, h4]
theorem movM_len (st : List Nd) (p : Sp) : (movM st p).length ≤ 2 := by
  unfold movM
  split
  · simp
  · split
    · simp
    · split <;> simp
/-- The least byte of a set that ends no line, from k on, n bytes looked at. -/
def leastF (s : Nat) : Nat → Nat → Option Nat
  | 0, _ => none
  | n + 1, k => if k ≠ 10 ∧ hasB s k = true then some k else leastF s n (k + 1)
theorem leastF_some {s : Nat} : ∀ {n k c : Nat}, leastF s n k = some c → c < k + n ∧ c ≠ 10 ∧ hasB s c = true
  | 0, k, c, h => by cases h
  | n + 1, k, c, h => by
    unfold leastF at h
    split at h
    · rename_i hk
      injection h with h
      subst h
      exact ⟨by omega, hk.1, hk.2⟩
    · obtain ⟨h1, h2⟩ := leastF_some h
      exact ⟨by omega, h2⟩
theorem leastF_none {s : Nat} : ∀ {n k c : Nat}, leastF s n k = none → k ≤ c → c < k + n → c ≠ 10 → hasB s c = false
  | 0, k, c, h, h1, h2, h3 => by omega
  | n + 1, k, c, h, h1, h2, h3 => by
    unfold leastF at h
    split at h
    · cases h
    · rename_i hk
      by_cases e : c = k
      · subst e
        cases hh : hasB s c with
        | false => rfl
        | true => exact absurd ⟨h3, hh⟩ hk
      · exact leastF_none h (by omega) (by omega) h3
/-- The least byte of a set that ends no line. -/
def leastM (s : Nat) : Option Nat := leastF s 256 0
theorem leastM_some {s c : Nat} (h : leastM s = some c) : c < 256 ∧ c ≠ 10 ∧ hasB s c = true := by
  have := leastF_some h
  exact ⟨by omega, this.2⟩
theorem leastM_none {s : Nat} (h : leastM s = none) {c : Nat} (hc : c < 256) (h10 : c ≠ 10) : hasB s c = false := leastF_none h (Nat.zero_le _) (by omega) h10
def rdA (st : List Nd) (p : Sp) : List (Sp × Nat) := if p.e = true then [] else match leastM (nd st p.s).set with | some c => [(⟨outS st p.s, false, false⟩, c)] | none => []
def rdB (st : List Nd) (p : Sp) : List (Sp × Nat) := if hasB (nd st p.s).set 10 = true then [(⟨outS st p.s, true, false⟩, 10)] else []
/-- The spots that lie a byte on, and the byte. -/
def readM (st : List Nd) (p : Sp) : List (Sp × Nat) := if (nd st p.s).kind = 1 then rdA st p ++ rdB st p else []
theorem rdA_len (st : List Nd) (p : Sp) : (rdA st p).length ≤ 1 := by
  unfold rdA
  split
  · simp
  · cases leastM (nd st p.s).set <;> simp
theorem rdB_len (st : List Nd) (p : Sp) : (rdB st p).length ≤ 1 := by
  unfold rdB
  split <;> simp
theorem readM_len (st : List Nd) (p : Sp) : (readM st p).length ≤ 2 := by
  unfold readM
  split
  · rw [List.length_append]
    have := rdA_len st p
    have := rdB_len st p
    omega
  · simp
theorem readM_sb {st : List Nd} {p q : Sp} {c : Nat} (h : (q, c) ∈ readM st p) : SB st p c q := by
  unfold readM at h
  split at h
  · rename_i hk
    rcases List.mem_append.mp h with h | h
    · unfold rdA at h
      split at h
      · cases h
      · rename_i he
        cases hl : leastM (nd st p.s).set with
        | none => rw [hl] at h; cases h
        | some x =>
          rw [hl] at h
          simp at h
          obtain ⟨rfl, rfl⟩ := h
          obtain ⟨h1, h2, h3⟩ := leastM_some hl
          exact ⟨hk, h3, h1, Or.inr ⟨h2, by simpa using he, rfl⟩⟩
    · unfold rdB at h
      split at h
      · rename_i h10
        simp at h
        obtain ⟨rfl, rfl⟩ := h
        exact ⟨hk, h10, by decide, Or.inl ⟨rfl, rfl⟩⟩
      · cases h
  · cases h
theorem readM_all {st : List Nd} {p q : Sp} {c : Nat} (h : SB st p c q) : q ∈ (readM st p).map Prod.fst := by
  obtain ⟨hk, hc, hlt, h⟩ := h
  unfold readM
  rw [if_pos hk, List.map_append, List.mem_append]
  rcases h with ⟨rfl, rfl⟩ | ⟨hne, he, rfl⟩
  · right
    unfold rdB
    rw [if_pos hc]
    simp
  · left
    unfold rdA
    rw [if_neg (by simp [he])]
    cases hl : leastM (nd st p.s).set with
    | none => rw [leastM_none hl hlt hne] at hc; cases hc
    | some x => simp
end Go.Proofs.Ythadkjgadhbidaa
