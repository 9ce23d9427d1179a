/-
  The reference's reader ends on every pattern, and its sets are sets of bytes. No program in sight.
-/
import Derived.Test.YthadkjgadhbidaaRxB
import Derived.Test.YthadkjgadhbidaaRxS
namespace Go.Proofs.Ythadkjgadhbidaa
open Go.RowKit
set_option linter.unusedVariables false

theorem foldWith_ok (lo : Nat) : ∀ (L : List Nat) (s : BSet), setOk s → (∀ k ∈ L, lo + k < 256) → setOk (L.foldl (fun s k => withB s (lo + k)) s)
  | [], s, h, _ => h
  | k :: L, s, h, hL => foldWith_ok lo L _ (setOk_with h (hL k (by simp))) (fun x hx => hL x (by simp [hx]))
theorem rangeB_ok (lo hi : Nat) (h : hi < 256) : setOk (rangeB lo hi) := by
  unfold rangeB
  refine foldWith_ok lo _ _ setOk_zero (fun k hk => ?_)
  have := List.mem_range.mp hk
  omega
theorem onlyFrom_lt (s : BSet) : ∀ (f b : Nat), b + f ≤ 256 → onlyFrom s f b < 256
  | 0, b, _ => by unfold onlyFrom; decide
  | f + 1, b, h => by
    unfold onlyFrom
    split
    · omega
    · exact onlyFrom_lt s f (b + 1) (by omega)
theorem onlyB_lt_ (s : BSet) : onlyB s < 256 := onlyFrom_lt s 256 0 (by decide)
theorem namedB_ok (b : Nat) (hb : b < 256) : setOk (namedB b).1 := by
  unfold namedB
  repeat' split
  · exact setOk_with setOk_zero (by decide)
  · exact setOk_with setOk_zero (by decide)
  · exact setOk_with setOk_zero (by decide)
  · exact rangeB_ok _ _ (by decide)
  · exact setOk_or (setOk_or (rangeB_ok _ _ (by decide)) (rangeB_ok _ _ (by decide))) (setOk_or (rangeB_ok _ _ (by decide)) (setOk_with setOk_zero (by decide)))
  · exact setOk_or (setOk_or (setOk_with setOk_zero (by decide)) (rangeB_ok _ _ (by decide))) (setOk_with setOk_zero (by decide))
  · exact setOk_with setOk_zero hb
  · exact setOk_zero
section
variable {B : List Nat} (hB : ∀ x ∈ B, x < 256)
include hB
theorem bAt_lt (p : Ps) : bAt B p < 256 := by
  unfold bAt
  rw [List.getD_eq_getElem?_getD]
  by_cases h : p.at_ < B.length
  · rw [List.getElem?_eq_getElem h]; exact hB _ (List.getElem_mem h)
  · rw [List.getElem?_eq_none (by omega)]; decide
theorem escP_ok (p : Ps) : setOk (escP B p).1.1 := by
  unfold escP
  split
  · exact namedB_ok _ (bAt_lt hB p)
  · exact setOk_zero
theorem singleP_ok (p : Ps) : setOk (singleP B p).1.1 := by
  unfold singleP
  split
  · exact escP_ok hB _
  · split
    · exact setOk_zero
    · exact setOk_with setOk_zero (bAt_lt hB p)
theorem elemP_ok (p : Ps) : setOk (elemP B p).1 := by
  unfold elemP
  simp only
  split
  · split
    · exact singleP_ok hB p
    · exact rangeB_ok _ _ (onlyB_lt_ _)
  · exact singleP_ok hB p
theorem classLoop_ok (neg : Bool) : ∀ (f : Nat) (b : Bool) (s : BSet) (p : Ps) (R : BSet × Ps), setOk s → classLoop B neg f b s p = some R → setOk R.1
  | 0, b, s, p, R, hs, h => by simp [classLoop] at h
  | f + 1, b, s, p, R, hs, h => by
    rw [classLoop] at h
    split at h
    · split at h
      · injection h with h
        subst h
        show setOk (if neg = true then notB s else s)
        split
        · exact setOk_not hs
        · exact hs
      · exact classLoop_ok neg f false _ _ R (setOk_or hs (elemP_ok hB p)) h
    · injection h with h
      subst h
      exact hs
theorem classP_ok (f : Nat) (p : Ps) (R : BSet × Ps) (h : classP B f p = some R) : setOk R.1 := by
  unfold classP at h
  split at h
  · exact classLoop_ok hB true f true 0 _ R setOk_zero h
  · exact classLoop_ok hB false f true 0 _ R setOk_zero h
end
def SOk (l : List Nd) : Prop := ∀ x ∈ l, setOk x.set
theorem SOk.nil_ : SOk [] := fun x h => by cases h
theorem SOk.leaf (k : Int) {s : BSet} (h : setOk s) : SOk (leafN k s) := by
  intro x hx
  simp [leafN] at hx
  subst hx
  exact h
theorem SOk.join (k : Int) {l r : List Nd} (hl : SOk l) (hr : SOk r) : SOk (joinN k l r) := by
  intro x hx
  unfold joinN at hx
  rcases List.mem_append.mp hx with hx | hx
  · rcases List.mem_append.mp hx with hx | hx
    · exact hl x hx
    · obtain ⟨y, hy, rfl⟩ := List.mem_map.mp hx
      exact hr y hy
  · simp at hx
    subst hx
    exact setOk_zero
theorem parse_sets {B : List Nat} (hB : ∀ x ∈ B, x < 256) : ∀ f : Nat,
    (∀ p R, altP B f p = some R → SOk R.1) ∧ (∀ l p R, SOk l → altLoop B f l p = some R → SOk R.1) ∧ (∀ p R, catP B f p = some R → SOk R.1) ∧
    (∀ l p R, SOk l → catLoop B f l p = some R → SOk R.1) ∧ (∀ p R, partP B f p = some R → SOk R.1) ∧ (∀ l p R, SOk l → partLoop B f l p = some R → SOk R.1) ∧
    (∀ p R, atomP B f p = some R → SOk R.1) := by
  intro f
  induction f with
  | zero =>
    refine ⟨?_, ?_, ?_, ?_, ?_, ?_, ?_⟩
    · intro p R h; simp [altP] at h
    · intro l p R _ h; simp [altLoop] at h
    · intro p R h; simp [catP] at h
    · intro l p R _ h; simp [catLoop] at h
    · intro p R h; simp [partP] at h
    · intro l p R _ h; simp [partLoop] at h
    · intro p R h; simp [atomP] at h
  | succ f ih =>
    obtain ⟨iAlt, iAltL, iCat, iCatL, iPart, iPartL, iAtom⟩ := ih
    refine ⟨?_, ?_, ?_, ?_, ?_, ?_, ?_⟩
    · intro p R h
      rw [altP] at h
      split at h
      · cases h
      · rename_i l q hq
        exact iAltL l q R (iCat p (l, q) hq) h
    · intro l p R hl h
      rw [altLoop] at h
      split at h
      · split at h
        · cases h
        · rename_i x q hq
          split at h
          · exact iAltL _ q R (SOk.join 4 hl (iCat _ (x, q) hq)) h
          · injection h with h; subst h; exact SOk.nil_
      · injection h with h; subst h; exact hl
    · intro p R h
      rw [catP] at h
      exact iCatL [] p R SOk.nil_ h
    · intro l p R hl h
      rw [catLoop] at h
      split at h
      · split at h
        · cases h
        · rename_i x q hq
          split at h
          · refine iCatL _ q R ?_ h
            split
            · exact iPart _ (x, q) hq
            · exact SOk.join 3 hl (iPart _ (x, q) hq)
          · injection h with h; subst h; exact SOk.nil_
      · injection h with h; subst h
        show SOk (if l.length = 0 then leafN 1 0 else l)
        split
        · exact SOk.leaf _ setOk_zero
        · exact hl
    · intro p R h
      rw [partP] at h
      split at h
      · cases h
      · rename_i l q hq
        exact iPartL l q R (iAtom p (l, q) hq) h
    · intro l p R hl h
      rw [partLoop] at h
      split at h
      · split at h
        · exact iPartL _ _ R (SOk.join 5 hl SOk.nil_) h
        · split at h
          · exact iPartL _ _ R (SOk.join 6 hl SOk.nil_) h
          · split at h
            · exact iPartL _ _ R (SOk.join 7 hl SOk.nil_) h
            · injection h with h; subst h; exact hl
      · injection h with h; subst h; exact hl
    · intro p R h
      rw [atomP] at h
      simp only at h
      split at h
      · injection h with h; subst h; exact SOk.leaf _ (setOk_not (setOk_with setOk_zero (by decide)))
      split at h
      · injection h with h; subst h; exact SOk.leaf _ setOk_zero
      split at h
      · injection h with h; subst h; exact SOk.leaf _ setOk_zero
      split at h
      · injection h with h; subst h; exact SOk.leaf _ (escP_ok hB _)
      split at h
      · split at h
        · cases h
        · rename_i s r hq
          injection h with h; subst h; exact SOk.leaf _ (classP_ok hB _ _ _ hq)
      split at h
      · injection h with h; subst h; exact SOk.leaf _ (setOk_with setOk_zero (bAt_lt hB p))
      split at h
      · injection h with h; subst h; exact SOk.leaf _ (setOk_with setOk_zero (bAt_lt hB p))
      split at h
      · split at h
        · injection h with h; subst h; exact SOk.nil_
        · split at h
          · cases h
          · rename_i l r hq
            injection h with h; subst h; exact iAlt _ (l, r) hq
      · injection h with h; subst h; exact SOk.leaf _ (setOk_with setOk_zero (bAt_lt hB p))
theorem parseF_sets {B : List Nat} (hB : ∀ x ∈ B, x < 256) {f : Nat} {R : List Nd × Int} (h : parseF f B = some R) : ∀ x ∈ R.1, setOk x.set := by
  unfold parseF at h
  split at h
  · injection h with h; subst h; exact SOk.nil_
  · split at h
    · cases h
    · rename_i l p hq
      simp only at h
      injection h with h
      subst h
      have key : ∀ (c : Prop) [Decidable c] (e : Int), SOk (if c then (l, (0 : Int)) else ([], e)).1 := by
        intro c _ e
        by_cases hc : c
        · rw [if_pos hc]; exact (parse_sets hB f).1 _ _ hq
        · rw [if_neg hc]; exact SOk.nil_
      exact key _ _
theorem classLoop_some (B : List Nat) (neg : Bool) : ∀ (f : Nat) (b : Bool) (s : BSet) (p : Ps), p.at_ ≤ B.length → B.length - p.at_ + 1 ≤ f → ∃ R, classLoop B neg f b s p = some R
  | 0, b, s, p, _, h => by omega
  | f + 1, b, s, p, ha, h => by
    rw [classLoop]
    split
    · rename_i hm
      have hlt := ((moreP_iff _ _).1 hm).2
      have := elemP_bd B p hlt
      split
      · exact ⟨_, rfl⟩
      · exact classLoop_some B neg f false _ _ this.1 (by omega)
    · exact ⟨_, rfl⟩
theorem classP_some (B : List Nat) (f : Nat) (p : Ps) (ha : p.at_ ≤ B.length) (h : B.length - p.at_ + 1 ≤ f) : ∃ R, classP B f p = some R := by
  unfold classP
  split
  · rename_i hm
    have hlt := ((moreP_iff _ _).1 hm.1).2
    exact classLoop_some B true f true 0 _ (by rw [upP_at]; omega) (by rw [upP_at]; omega)
  · exact classLoop_some B false f true 0 _ ha h
/-- With fuel for each byte that is left, the reader ends. -/
theorem parse_total (B : List Nat) : ∀ (r : Nat),
    (∀ f p, Start B.length p → B.length - p.at_ ≤ r → 6 * r + 6 ≤ f → ∃ R, altP B f p = some R) ∧
    (∀ f l p, (p.e = 0 → Start B.length p ∧ B.length - p.at_ ≤ r) → 6 * r + 1 ≤ f → ∃ R, altLoop B f l p = some R) ∧
    (∀ f p, Start B.length p → B.length - p.at_ ≤ r → 6 * r + 5 ≤ f → ∃ R, catP B f p = some R) ∧
    (∀ f l p, (p.e = 0 → Start B.length p ∧ B.length - p.at_ ≤ r) → 6 * r + 4 ≤ f → ∃ R, catLoop B f l p = some R) ∧
    (∀ f p, Start B.length p → p.at_ < B.length → B.length - p.at_ ≤ r → 6 * r + 3 ≤ f → ∃ R, partP B f p = some R) ∧
    (∀ f p, Start B.length p → p.at_ < B.length → B.length - p.at_ ≤ r → 6 * r + 2 ≤ f → ∃ R, atomP B f p = some R) := by
  have pl : ∀ (f : Nat) (l : List Nd) (p : Ps), B.length - p.at_ + 1 ≤ f → ∃ R, partLoop B f l p = some R := by
    intro f
    induction f with
    | zero => intro l p h; omega
    | succ f ih =>
      intro l p h
      rw [partLoop]
      split
      · rename_i hm
        have hlt := ((moreP_iff _ _).1 hm).2
        split
        · exact ih _ _ (by rw [upP_at]; omega)
        · split
          · exact ih _ _ (by rw [upP_at]; omega)
          · split
            · exact ih _ _ (by rw [upP_at]; omega)
            · exact ⟨_, rfl⟩
      · exact ⟨_, rfl⟩
  intro r
  induction r using Nat.strongRecOn with
  | _ r ih =>
    have hAtom : ∀ f p, Start B.length p → p.at_ < B.length → B.length - p.at_ ≤ r → 6 * r + 2 ≤ f → ∃ R, atomP B f p = some R := by
      intro f p hs hlt hr hf
      obtain ⟨f, rfl⟩ : ∃ g, f = g + 1 := ⟨f - 1, by omega⟩
      rw [atomP]
      simp only
      split
      · exact ⟨_, rfl⟩
      split
      · exact ⟨_, rfl⟩
      split
      · exact ⟨_, rfl⟩
      split
      · exact ⟨_, rfl⟩
      split
      · obtain ⟨R, hR⟩ := classP_some B f (upP p) (by rw [upP_at]; omega) (by rw [upP_at]; omega)
        rw [hR]
        exact ⟨_, rfl⟩
      split
      · exact ⟨_, rfl⟩
      split
      · exact ⟨_, rfl⟩
      split
      · split
        · exact ⟨_, rfl⟩
        · rename_i hd
          have hst : Start B.length { upP p with deep := (upP p).deep + 1 } := ⟨hs.1, by show p.at_ + 1 ≤ _; omega, by simp only [upP_deep] at hd ⊢; omega⟩
          obtain ⟨R, hR⟩ := (ih (r - 1) (by omega)).1 f _ hst (by show B.length - (p.at_ + 1) ≤ _; omega) (by omega)
          rw [hR]
          exact ⟨_, rfl⟩
      · exact ⟨_, rfl⟩
    have hPart : ∀ f p, Start B.length p → p.at_ < B.length → B.length - p.at_ ≤ r → 6 * r + 3 ≤ f → ∃ R, partP B f p = some R := by
      intro f p hs hlt hr hf
      obtain ⟨f, rfl⟩ : ∃ g, f = g + 1 := ⟨f - 1, by omega⟩
      obtain ⟨R, hR⟩ := hAtom f p hs hlt hr (by omega)
      rw [partP, hR]
      have hG := (parse_good B f).2.2.2.2.2.2 p R hs hlt hR
      by_cases he : R.2.e = 0
      · have := hG.ok he
        exact pl f R.1 R.2 (by omega)
      · obtain ⟨g, rfl⟩ : ∃ g, f = g + 1 := ⟨f - 1, by omega⟩
        show ∃ R', partLoop B (g + 1) R.1 R.2 = some R'
        rw [partLoop, if_neg (by intro h; exact he ((moreP_iff _ _).1 h).1)]
        exact ⟨_, rfl⟩
    have next : ∀ {p : Ps} {l : List Nd} {q : Ps} {k : Nat}, Start B.length p → Good B.length p l q k → q.e = 0 → Start B.length q ∧ p.at_ + k / 2 ≤ q.at_ := by
      intro p l q k hs hG he
      obtain ⟨g1, g2, g3, g4, g5⟩ := hG.ok he
      exact ⟨⟨he, g3, by rw [g1]; exact hs.2.2⟩, by omega⟩
    have hCatL : ∀ f l p, (p.e = 0 → Start B.length p ∧ B.length - p.at_ ≤ r) → 6 * r + 4 ≤ f → ∃ R, catLoop B f l p = some R := by
      intro f l p hs hf
      obtain ⟨f, rfl⟩ : ∃ g, f = g + 1 := ⟨f - 1, by omega⟩
      rw [catLoop]
      split
      · rename_i hm
        obtain ⟨he, hlt⟩ := (moreP_iff _ _).1 hm.1
        obtain ⟨hst, hr⟩ := hs he
        obtain ⟨R, hR⟩ := hPart f p hst hlt hr (by omega)
        have hG := (parse_good B f).2.2.2.2.1 p R hst hlt hR
        rw [hR]
        show ∃ R', (if R.2.e = 0 then catLoop B f (if l.length = 0 then R.1 else joinN 3 l R.1) R.2 else some ([], R.2)) = some R'
        split
        · rename_i he2
          have hn := next hst hG he2
          exact (ih (r - 1) (by omega)).2.2.2.1 f _ R.2 (fun _ => ⟨hn.1, by omega⟩) (by omega)
        · exact ⟨_, rfl⟩
      · exact ⟨_, rfl⟩
    have hCat : ∀ f p, Start B.length p → B.length - p.at_ ≤ r → 6 * r + 5 ≤ f → ∃ R, catP B f p = some R := by
      intro f p hs hr hf
      obtain ⟨f, rfl⟩ : ∃ g, f = g + 1 := ⟨f - 1, by omega⟩
      rw [catP]
      exact hCatL f [] p (fun _ => ⟨hs, hr⟩) (by omega)
    have hAltL : ∀ f l p, (p.e = 0 → Start B.length p ∧ B.length - p.at_ ≤ r) → 6 * r + 1 ≤ f → ∃ R, altLoop B f l p = some R := by
      intro f l p hs hf
      obtain ⟨f, rfl⟩ : ∃ g, f = g + 1 := ⟨f - 1, by omega⟩
      rw [altLoop]
      split
      · rename_i hm
        obtain ⟨he, hlt⟩ := (moreP_iff _ _).1 hm.1
        obtain ⟨hst, hr⟩ := hs he
        have hst2 : Start B.length (upP p) := ⟨he, by rw [upP_at]; omega, by rw [upP_deep]; exact hst.2.2⟩
        obtain ⟨R, hR⟩ := (ih (r - 1) (by omega)).2.2.1 f (upP p) hst2 (by rw [upP_at]; omega) (by omega)
        have hG := (parse_good B f).2.2.1 (upP p) R hst2 hR
        rw [hR]
        show ∃ R', (if R.2.e = 0 then altLoop B f (joinN 4 l R.1) R.2 else some ([], R.2)) = some R'
        split
        · rename_i he2
          have hn := next hst2 hG he2
          have h5 := (hG.ok he2).2.1
          rw [upP_at] at h5
          exact (ih (r - 1) (by omega)).2.1 f _ R.2 (fun _ => ⟨hn.1, by omega⟩) (by omega)
        · exact ⟨_, rfl⟩
      · exact ⟨_, rfl⟩
    refine ⟨?_, hAltL, hCat, hCatL, hPart, hAtom⟩
    intro f p hs hr hf
    obtain ⟨f, rfl⟩ : ∃ g, f = g + 1 := ⟨f - 1, by omega⟩
    obtain ⟨R, hR⟩ := hCat f p hs hr (by omega)
    have hG := (parse_good B f).2.2.1 p R hs hR
    rw [altP, hR]
    refine hAltL f R.1 R.2 (fun he => ?_) (by omega)
    have h5 := (hG.ok he).2.1
    exact ⟨(next hs hG he).1, by omega⟩
/-- The reader's nodes of a pattern, or its error. -/
theorem parseF_some (B : List Nat) : ∃ R, parseF (6 * B.length + 6) B = some R := by
  unfold parseF
  split
  · exact ⟨_, rfl⟩
  · obtain ⟨R, hR⟩ := (parse_total B B.length).1 (6 * B.length + 6) ⟨0, 0, 0⟩ ⟨rfl, Nat.zero_le _, Nat.zero_le _⟩ (by show B.length - 0 ≤ _; omega) (by omega)
    rw [hR]
    exact ⟨_, rfl⟩
def parseR (B : List Nat) : List Nd × Int := (parseF (6 * B.length + 6) B).getD ([], 0)
theorem parseR_eq (B : List Nat) : parseF (6 * B.length + 6) B = some (parseR B) := by
  obtain ⟨R, hR⟩ := parseF_some B
  unfold parseR
  rw [hR]
  rfl
theorem parseR_sets {B : List Nat} (hB : ∀ x ∈ B, x < 256) : ∀ x ∈ (parseR B).1, setOk x.set := parseF_sets hB (parseR_eq B)
theorem parseR_len (B : List Nat) : (parseR B).1.length ≤ 256 := by
  have h := parseR_eq B
  generalize parseR B = R at *
  unfold parseF at h
  split at h
  · injection h with h; subst h; exact Nat.zero_le _
  · split at h
    · cases h
    · rename_i l p hq
      simp only at h
      injection h with h
      subst h
      have key : ∀ (q : Ps), (if (if q.e = 0 ∧ 256 < l.length then failP q 1 else q : Ps).e = 0 then (l, (0 : Int)) else ([], (if q.e = 0 ∧ 256 < l.length then failP q 1 else q : Ps).e)).1.length ≤ 256 := by
        intro q
        by_cases he : q.e = 0 ∧ 256 < l.length
        · rw [if_pos he, if_neg (failP_e q 1 (by decide))]; exact Nat.zero_le _
        · rw [if_neg he]
          by_cases h0 : q.e = 0
          · rw [if_pos h0]; simp only; omega
          · rw [if_neg h0]; exact Nat.zero_le _
      exact key _
end Go.Proofs.Ythadkjgadhbidaa
