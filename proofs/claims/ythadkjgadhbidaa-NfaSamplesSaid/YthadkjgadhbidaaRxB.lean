/-
  Bounds of what the reference's reader of patterns returns. No program in sight.
-/
import Derived.Test.YthadkjgadhbidaaRxP
namespace Go.Proofs.Ythadkjgadhbidaa
open Go.RowKit
set_option linter.unusedVariables false

theorem failP_at' (q : Ps) (c : Int) : (failP q c).at_ = q.at_ := by unfold failP; split <;> rfl
theorem failP_deep (q : Ps) (c : Int) : (failP q c).deep = q.deep := by unfold failP; split <;> rfl
theorem failP_e (q : Ps) (c : Int) (hc : c ≠ 0) : (failP q c).e ≠ 0 := by
  unfold failP
  split
  · exact hc
  · assumption
theorem upP_at (q : Ps) : (upP q).at_ = q.at_ + 1 := rfl
theorem upP_deep (q : Ps) : (upP q).deep = q.deep := rfl
theorem upP_e (q : Ps) : (upP q).e = q.e := rfl
theorem moreP_iff (B : List Nat) (p : Ps) : moreP B p = true ↔ p.e = 0 ∧ p.at_ < B.length := by
  unfold moreP; simp
theorem escP_bd (B : List Nat) (p : Ps) (h : p.at_ ≤ B.length) : (escP B p).2.at_ ≤ B.length ∧ p.at_ ≤ (escP B p).2.at_ ∧ (escP B p).2.deep = p.deep := by
  unfold escP
  split
  · have key : ∀ c : Bool, (upP (if c = true then p else failP p 82)).at_ = p.at_ + 1 ∧ (upP (if c = true then p else failP p 82)).deep = p.deep := by
      intro c
      cases c
      · exact ⟨by show (failP p 82).at_ + 1 = _; rw [failP_at'], by show (failP p 82).deep = _; rw [failP_deep]⟩
      · exact ⟨rfl, rfl⟩
    obtain ⟨k1, k2⟩ := key (namedB (bAt B p)).2.2
    show (upP (if (namedB (bAt B p)).2.2 = true then p else failP p 82)).at_ ≤ _ ∧ _ ≤ (upP (if (namedB (bAt B p)).2.2 = true then p else failP p 82)).at_ ∧ (upP (if (namedB (bAt B p)).2.2 = true then p else failP p 82)).deep = _
    rw [k1, k2]
    omega
  · show (failP p 82).at_ ≤ _ ∧ _ ≤ (failP p 82).at_ ∧ (failP p 82).deep = _
    rw [failP_at', failP_deep]; omega
theorem singleP_bd (B : List Nat) (p : Ps) (h : p.at_ < B.length) : (singleP B p).2.at_ ≤ B.length ∧ p.at_ < (singleP B p).2.at_ ∧ (singleP B p).2.deep = p.deep := by
  unfold singleP
  split
  · have := escP_bd B (upP p) (by rw [upP_at]; omega)
    rw [upP_at, upP_deep] at this
    omega
  · split
    · show (failP (upP p) 80).at_ ≤ _ ∧ _ < (failP (upP p) 80).at_ ∧ (failP (upP p) 80).deep = _
      rw [failP_at', failP_deep, upP_at, upP_deep]; omega
    · show (upP p).at_ ≤ _ ∧ _ < (upP p).at_ ∧ (upP p).deep = _
      rw [upP_at, upP_deep]; omega
theorem elemP_bd (B : List Nat) (p : Ps) (h : p.at_ < B.length) : (elemP B p).2.at_ ≤ B.length ∧ p.at_ < (elemP B p).2.at_ ∧ (elemP B p).2.deep = p.deep := by
  obtain ⟨h1, h2, h3⟩ := singleP_bd B p h
  unfold elemP
  simp only
  by_cases hm : moreP B (singleP B p).2 = true ∧ bAt B (singleP B p).2 = 45
  · rw [if_pos hm]
    have hm' := ((moreP_iff _ _).1 hm.1).2
    by_cases hc : (singleP B p).1.2 = false ∨ B.length ≤ (upP (singleP B p).2).at_
    · rw [if_pos hc]
      simp only [failP_at', failP_deep, upP_at, upP_deep]; omega
    · rw [if_neg hc]
      rw [upP_at] at hc
      have h4 := singleP_bd B (upP (singleP B p).2) (by rw [upP_at]; omega)
      rw [upP_at, upP_deep] at h4
      simp only
      split
      · rw [failP_at', failP_deep]; omega
      · omega
  · rw [if_neg hm]; exact ⟨h1, h2, h3⟩
theorem classLoop_bd (B : List Nat) (neg : Bool) : ∀ (f : Nat) (b : Bool) (z : BSet) (p : Ps) (R : BSet × Ps), p.at_ ≤ B.length → classLoop B neg f b z p = some R → R.2.at_ ≤ B.length ∧ p.at_ ≤ R.2.at_ ∧ R.2.deep = p.deep
  | 0, b, z, p, R, h, hR => by cases hR
  | f + 1, b, z, p, R, h, hR => by
    rw [classLoop] at hR
    split at hR
    · rename_i hm
      have hlt := ((moreP_iff _ _).1 hm).2
      split at hR
      · injection hR with hR
        subst hR
        have key : ∀ c : Bool, (upP (if c = true then failP p 80 else p)).at_ = p.at_ + 1 ∧ (upP (if c = true then failP p 80 else p)).deep = p.deep := by
          intro c
          cases c
          · exact ⟨rfl, rfl⟩
          · exact ⟨by show (failP p 80).at_ + 1 = _; rw [failP_at'], by show (failP p 80).deep = _; rw [failP_deep]⟩
        obtain ⟨k1, k2⟩ := key b
        show (upP (if b = true then failP p 80 else p)).at_ ≤ _ ∧ _ ≤ (upP (if b = true then failP p 80 else p)).at_ ∧ (upP (if b = true then failP p 80 else p)).deep = _
        rw [k1, k2]
        omega
      · have he := elemP_bd B p hlt
        have := classLoop_bd B neg f false _ _ R he.1 hR
        omega
    · injection hR with hR
      subst hR
      show (failP p 80).at_ ≤ _ ∧ _ ≤ (failP p 80).at_ ∧ (failP p 80).deep = _
      rw [failP_at', failP_deep]; omega
theorem classP_bd (B : List Nat) (f : Nat) (p : Ps) (R : BSet × Ps) (h : p.at_ ≤ B.length) (hR : classP B f p = some R) : R.2.at_ ≤ B.length ∧ p.at_ ≤ R.2.at_ ∧ R.2.deep = p.deep := by
  unfold classP at hR
  split at hR
  · rename_i hm
    have hlt := ((moreP_iff _ _).1 hm.1).2
    have := classLoop_bd B true f true 0 (upP p) R (by rw [upP_at]; omega) hR
    rw [upP_at, upP_deep] at this
    omega
  · exact classLoop_bd B false f true 0 p R h hR

/-- The kids lie within the list. -/
def Nb (l : List Nd) : Prop := ∀ x ∈ l, (0 ≤ x.left ∧ (x.left : Int) < l.length) ∧ 0 ≤ x.right ∧ (x.right : Int) < l.length
theorem Nb.nil_ : Nb [] := fun x h => by cases h
theorem Nb.leaf (k : Int) (s : BSet) : Nb (leafN k s) := by
  intro x hx
  simp [leafN] at hx
  subst hx
  simp [leafN]
theorem Nb.join {k : Int} {l r : List Nd} (hl : Nb l) (hr : Nb r) (h0 : 0 < l.length) : Nb (joinN k l r) := by
  have hlen : (joinN k l r).length = l.length + r.length + 1 := by simp [joinN]; omega
  intro x hx
  rw [hlen]
  unfold joinN at hx
  simp only [List.mem_append, List.mem_map, List.mem_singleton] at hx
  rcases hx with (hx | ⟨y, hy, rfl⟩) | rfl
  · obtain ⟨h1, h2⟩ := hl x hx; omega
  · obtain ⟨h1, h2⟩ := hr y hy
    unfold shiftNd shiftN
    simp only
    constructor
    · split <;> omega
    · split <;> omega
  · simp only
    constructor
    · omega
    · split <;> omega
theorem join_len (k : Int) (l r : List Nd) : (joinN k l r).length = l.length + r.length + 1 := by simp [joinN]; omega

structure Good (n : Nat) (p : Ps) (l : List Nd) (q : Ps) (k : Nat) : Prop where
  dp : p.deep ≤ q.deep
  nb : Nb l
  ok : q.e = 0 → q.deep = p.deep ∧ p.at_ ≤ q.at_ ∧ q.at_ ≤ n ∧ 0 < l.length ∧ l.length + k ≤ 2 * (q.at_ - p.at_) + 1
  er : q.e ≠ 0 → q.at_ + q.deep ≤ n + 26 ∧ q.deep ≤ 25 ∧ l.length ≤ 2 * n + 1
def Start (n : Nat) (p : Ps) : Prop := p.e = 0 ∧ p.at_ ≤ n ∧ p.deep ≤ 24
theorem parse_good (B : List Nat) : ∀ f : Nat,
    (∀ p R, Start B.length p → altP B f p = some R → Good B.length p R.1 R.2 0) ∧
    (∀ p0 l p R, Start B.length p0 → Good B.length p0 l p 0 → altLoop B f l p = some R → Good B.length p0 R.1 R.2 0) ∧
    (∀ p R, Start B.length p → catP B f p = some R → Good B.length p R.1 R.2 0) ∧
    (∀ p0 l p R, Start B.length p0 → (l = [] ∧ p = p0 ∨ Good B.length p0 l p 2 ∧ p.e = 0) → catLoop B f l p = some R → Good B.length p0 R.1 R.2 0) ∧
    (∀ p R, Start B.length p → p.at_ < B.length → partP B f p = some R → Good B.length p R.1 R.2 2) ∧
    (∀ p0 l p R, Start B.length p0 → Good B.length p0 l p 2 → partLoop B f l p = some R → Good B.length p0 R.1 R.2 2) ∧
    (∀ p R, Start B.length p → p.at_ < B.length → atomP B f p = some R → Good B.length p R.1 R.2 2) := by
  intro f
  induction f with
  | zero =>
    refine ⟨?_, ?_, ?_, ?_, ?_, ?_, ?_⟩
    · intro p R _ h; simp [altP] at h
    · intro p0 l p R _ _ h; simp [altLoop] at h
    · intro p R _ h; simp [catP] at h
    · intro p0 l p R _ _ h; simp [catLoop] at h
    · intro p R _ _ h; simp [partP] at h
    · intro p0 l p R _ _ h; simp [partLoop] at h
    · intro p R _ _ h; simp [atomP] at h
  | succ f ih =>
    obtain ⟨iAlt, iAltL, iCat, iCatL, iPart, iPartL, iAtom⟩ := ih
    refine ⟨?_, ?_, ?_, ?_, ?_, ?_, ?_⟩
    · intro p R hs h
      rw [altP] at h
      split at h
      · cases h
      · rename_i l q hq
        exact iAltL p l q R hs (iCat p (l, q) hs hq) h
    · intro p0 l p R hs hg h
      rw [altLoop] at h
      split at h
      · rename_i hm
        obtain ⟨he, hlt⟩ := (moreP_iff _ _).1 hm.1
        obtain ⟨g1, g2, g3, g4, g5⟩ := hg.ok he
        have hs2 : Start B.length (upP p) := ⟨he, by rw [upP_at]; omega, by rw [upP_deep, g1]; exact hs.2.2⟩
        split at h
        · cases h
        · rename_i x q hq
          have hx : Good B.length (upP p) x q 0 := iCat (upP p) (x, q) hs2 hq
          split at h
          · rename_i he2
            obtain ⟨x1, x2, x3, x4, x5⟩ := hx.ok he2
            rw [upP_at] at x2 x5
            rw [upP_deep] at x1
            refine iAltL p0 _ q R hs ⟨by omega, hg.nb.join hx.nb g4, fun _ => ⟨by omega, by omega, x3, by rw [join_len]; omega, by rw [join_len]; omega⟩, fun he => absurd he2 he⟩ h
          · rename_i he2
            injection h with h
            subst h
            have := hx.er he2
            exact ⟨by have := hx.dp; rw [upP_deep] at this; simp only at this ⊢; omega, Nb.nil_, fun he => absurd he he2, fun _ => ⟨this.1, this.2.1, by simp⟩⟩
      · injection h with h
        subst h
        exact hg
    · intro p R hs h
      rw [catP] at h
      exact iCatL p [] p R hs (Or.inl ⟨rfl, rfl⟩) h
    · intro p0 l p R hs hg h
      have hpe : p.e = 0 := by
        rcases hg with ⟨_, rfl⟩ | ⟨_, he⟩
        · exact hs.1
        · exact he
      have hst : p.deep = p0.deep ∧ p0.at_ ≤ p.at_ ∧ p.at_ ≤ B.length ∧ Nb l ∧ (l.length = 0 ∧ p.at_ = p0.at_ ∨ 0 < l.length ∧ l.length + 2 ≤ 2 * (p.at_ - p0.at_) + 1) := by
        rcases hg with ⟨rfl, rfl⟩ | ⟨hg, he⟩
        · exact ⟨rfl, Nat.le_refl _, hs.2.1, Nb.nil_, Or.inl ⟨rfl, rfl⟩⟩
        · obtain ⟨g1, g2, g3, g4, g5⟩ := hg.ok he
          exact ⟨g1, g2, g3, hg.nb, Or.inr ⟨g4, g5⟩⟩
      obtain ⟨s1, s2, s3, s4, s5⟩ := hst
      rw [catLoop] at h
      split at h
      · rename_i hm
        obtain ⟨he, hlt⟩ := (moreP_iff _ _).1 hm.1
        split at h
        · cases h
        · rename_i x q hq
          have hx : Good B.length p x q 2 := iPart p (x, q) ⟨he, s3, by rw [s1]; exact hs.2.2⟩ hlt hq
          split at h
          · rename_i he2
            obtain ⟨x1, x2, x3, x4, x5⟩ := hx.ok he2
            refine iCatL p0 _ q R hs (Or.inr ⟨⟨by omega, ?_, fun _ => ⟨by omega, by omega, x3, ?_, ?_⟩, fun he => absurd he2 he⟩, he2⟩) h
            · split
              · exact hx.nb
              · exact s4.join hx.nb (by omega)
            · split
              · exact x4
              · rw [join_len]; omega
            · split
              · omega
              · rw [join_len]; omega
          · rename_i he2
            injection h with h
            subst h
            have h3 := hx.er he2
            exact ⟨by have := hx.dp; simp only at this ⊢; omega, Nb.nil_, fun he => absurd he he2, fun _ => ⟨h3.1, h3.2.1, by simp⟩⟩
      · injection h with h
        subst h
        refine ⟨by simp only; omega, ?_, fun _ => ⟨s1, s2, s3, ?_, ?_⟩, fun he => absurd hpe he⟩
        · simp only
          split
          · exact Nb.leaf _ _
          · exact s4
        · simp only
          split
          · simp [leafN]
          · omega
        · simp only
          split
          · simp [leafN]
          · omega
    · intro p R hs hlt h
      rw [partP] at h
      split at h
      · cases h
      · rename_i l q hq
        exact iPartL p l q R hs (iAtom p (l, q) hs hlt hq) h
    · intro p0 l p R hs hg h
      rw [partLoop] at h
      split at h
      · rename_i hm
        obtain ⟨he, hlt⟩ := (moreP_iff _ _).1 hm
        obtain ⟨g1, g2, g3, g4, g5⟩ := hg.ok he
        have key : ∀ k, Good B.length p0 (joinN k l []) (upP p) 2 := fun k =>
          ⟨by rw [upP_deep]; omega, hg.nb.join Nb.nil_ g4, fun _ => ⟨by rw [upP_deep]; exact g1, by rw [upP_at]; omega, by rw [upP_at]; omega, by rw [join_len]; omega, by rw [join_len, upP_at]; simp; omega⟩, fun h => absurd he h⟩
        split at h
        · exact iPartL p0 _ _ R hs (key 5) h
        · split at h
          · exact iPartL p0 _ _ R hs (key 6) h
          · split at h
            · exact iPartL p0 _ _ R hs (key 7) h
            · injection h with h
              subst h
              exact hg
      · injection h with h
        subst h
        exact hg
    · intro p R hs hlt h
      obtain ⟨hs1, hs2, hs3⟩ := hs
      have leafG : ∀ (k : Int) (z : BSet) (q : Ps), q.at_ ≤ B.length → p.at_ + 1 ≤ q.at_ → q.deep = p.deep → Good B.length p (leafN k z) q 2 := fun k z q h1 h2 h3 =>
        ⟨by omega, Nb.leaf _ _, fun _ => ⟨h3, by omega, h1, by simp [leafN], by simp [leafN]; omega⟩, fun _ => ⟨by omega, by omega, by simp [leafN]⟩⟩
      rw [atomP] at h
      simp only at h
      split at h
      · injection h with h; subst h; exact leafG _ _ _ (by rw [upP_at]; omega) (by rw [upP_at]; omega) rfl
      split at h
      · injection h with h; subst h; exact leafG _ _ _ (by rw [upP_at]; omega) (by rw [upP_at]; omega) rfl
      split at h
      · injection h with h; subst h; exact leafG _ _ _ (by rw [upP_at]; omega) (by rw [upP_at]; omega) rfl
      split at h
      · injection h with h; subst h
        have := escP_bd B (upP p) (by rw [upP_at]; omega)
        rw [upP_at, upP_deep] at this
        exact leafG _ _ _ this.1 this.2.1 this.2.2
      split at h
      · split at h
        · cases h
        · rename_i z r hz
          injection h with h; subst h
          have := classP_bd B f (upP p) (z, r) (by rw [upP_at]; omega) hz
          rw [upP_at, upP_deep] at this
          exact leafG _ _ _ this.1 this.2.1 this.2.2
      split at h
      · injection h with h; subst h; exact leafG _ _ _ (by rw [failP_at', upP_at]; omega) (by rw [failP_at', upP_at]; omega) (by rw [failP_deep]; rfl)
      split at h
      · injection h with h; subst h; exact leafG _ _ _ (by rw [failP_at', upP_at]; omega) (by rw [failP_at', upP_at]; omega) (by rw [failP_deep]; rfl)
      split at h
      · split at h
        · rename_i hd
          injection h with h; subst h
          simp only [upP_deep] at hd
          refine ⟨by simp only [failP_deep, upP_deep]; omega, Nb.nil_, fun he => absurd he (failP_e _ _ (by decide)), fun _ => ⟨?_, ?_, by simp⟩⟩
          · simp only [failP_deep, failP_at', upP_deep, upP_at]; omega
          · simp only [failP_deep, upP_deep]; omega
        · rename_i hd
          simp only [upP_deep] at hd
          split at h
          · cases h
          · rename_i l r hr
            injection h with h; subst h
            have hx : Good B.length { upP p with deep := (upP p).deep + 1 } l r 0 := iAlt _ (l, r) ⟨hs1, by simp only [upP_at]; omega, by simp only [upP_deep]; omega⟩ hr
            have hdp := hx.dp
            simp only [upP_deep] at hdp
            by_cases he : r.e = 0
            · obtain ⟨x1, x2, x3, x4, x5⟩ := hx.ok he
              simp only [upP_at, upP_deep] at x1 x2 x5
              by_cases hl : B.length ≤ r.at_
              · rw [if_pos ⟨he, hl⟩]
                refine ⟨by simp only [failP_deep]; omega, hx.nb, fun h => absurd h (failP_e _ _ (by decide)), fun _ => ⟨by simp only [failP_deep, failP_at']; omega, by simp only [failP_deep]; omega, by simp only; omega⟩⟩
              · rw [if_neg (fun h => hl h.2)]
                exact ⟨by simp only; omega, hx.nb, fun _ => ⟨by simp only; omega, by simp only; omega, by simp only; omega, x4, by simp only; omega⟩, fun h => absurd he h⟩
            · rw [if_neg (fun h => he h.1)]
              obtain ⟨y1, y2, y3⟩ := hx.er he
              exact ⟨by simp only; omega, hx.nb, fun h => absurd h he, fun _ => ⟨by simp only; omega, by simp only; omega, y3⟩⟩
      · injection h with h; subst h; exact leafG _ _ _ (by rw [upP_at]; omega) (by rw [upP_at]; omega) rfl
end Go.Proofs.Ythadkjgadhbidaa
