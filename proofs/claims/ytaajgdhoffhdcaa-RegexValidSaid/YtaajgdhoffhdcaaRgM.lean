/-
  The program's Parse gives what the reference's reader gives.
-/
import Derived.Test.YtaajgdhoffhdcaaRgL
import Derived.Test.YtaajgdhoffhdcaaRxQ
namespace Go.Proofs.Ytaajgdhoffhdcaa
open Go.RowKit
set_option linter.unusedVariables false

def ClN (l : List Nd) : Prop := ∀ x ∈ l, shiftNd 0 x = x
theorem ClN.nil_ : ClN [] := fun x h => by cases h
theorem ClN.leaf (k : Int) (z : BSet) (hk : kidsN k = 0) : ClN (leafN k z) := by
  intro x hx
  simp [leafN] at hx
  subst hx
  simp [shiftNd, shiftN, hk]
theorem ClN.join1 {k : Int} {l : List Nd} (hk : kidsN k = 1) (hl : ClN l) : ClN (joinN k l []) := by
  intro x hx
  unfold joinN at hx
  rcases List.mem_append.mp hx with hx | hx
  · rcases List.mem_append.mp hx with hx | hx
    · exact hl x hx
    · simp at hx
  · simp at hx
    subst hx
    simp [shiftNd, shiftN, hk]
theorem ClN.join2 {k : Int} {l r : List Nd} (hk : kidsN k = 2) (hl : ClN l) : ClN (joinN k l r) := by
  intro x hx
  unfold joinN at hx
  rcases List.mem_append.mp hx with hx | hx
  · rcases List.mem_append.mp hx with hx | hx
    · exact hl x hx
    · obtain ⟨y, hy, rfl⟩ := List.mem_map.mp hx
      rw [shiftNd_shiftNd]
      congr 1
      omega
  · simp at hx
    subst hx
    simp [shiftNd, shiftN, hk]
theorem parse_clean (B : List Nat) : ∀ f : Nat,
    (∀ p R, altP B f p = some R → ClN R.1) ∧ (∀ l p R, ClN l → altLoop B f l p = some R → ClN R.1) ∧ (∀ p R, catP B f p = some R → ClN R.1) ∧
    (∀ l p R, ClN l → catLoop B f l p = some R → ClN R.1) ∧ (∀ p R, partP B f p = some R → ClN R.1) ∧ (∀ l p R, ClN l → partLoop B f l p = some R → ClN R.1) ∧
    (∀ p R, atomP B f p = some R → ClN R.1) := by
  intro f
  induction f with
  | zero =>
    refine ⟨?_, ?_, ?_, ?_, ?_, ?_, ?_⟩
    · intro p R h; simp [altP] at h
    · intro l p R _ h; simp [altLoop] at h
    · intro p R h; simp [catP] at h
    · intro l p R _ h; simp [catLoop] at h
    · intro p R h; simp [partP] at h
    · intro l p R _ h; simp [partLoop] at h
    · intro p R h; simp [atomP] at h
  | succ f ih =>
    obtain ⟨iAlt, iAltL, iCat, iCatL, iPart, iPartL, iAtom⟩ := ih
    refine ⟨?_, ?_, ?_, ?_, ?_, ?_, ?_⟩
    · intro p R h
      rw [altP] at h
      split at h
      · cases h
      · rename_i l q hq
        exact iAltL l q R (iCat p (l, q) hq) h
    · intro l p R hl h
      rw [altLoop] at h
      split at h
      · split at h
        · cases h
        · rename_i x q hq
          split at h
          · exact iAltL _ q R (ClN.join2 (by decide) hl) h
          · injection h with h; subst h; exact ClN.nil_
      · injection h with h; subst h; exact hl
    · intro p R h
      rw [catP] at h
      exact iCatL [] p R ClN.nil_ h
    · intro l p R hl h
      rw [catLoop] at h
      split at h
      · split at h
        · cases h
        · rename_i x q hq
          split at h
          · refine iCatL _ q R ?_ h
            split
            · exact iPart _ (x, q) hq
            · exact ClN.join2 (by decide) hl
          · injection h with h; subst h; exact ClN.nil_
      · injection h with h; subst h
        show ClN (if l.length = 0 then leafN 1 0 else l)
        split
        · exact ClN.leaf _ _ (by decide)
        · exact hl
    · intro p R h
      rw [partP] at h
      split at h
      · cases h
      · rename_i l q hq
        exact iPartL l q R (iAtom p (l, q) hq) h
    · intro l p R hl h
      rw [partLoop] at h
      split at h
      · split at h
        · exact iPartL _ _ R (ClN.join1 (by decide) hl) h
        · split at h
          · exact iPartL _ _ R (ClN.join1 (by decide) hl) h
          · split at h
            · exact iPartL _ _ R (ClN.join1 (by decide) hl) h
            · injection h with h; subst h; exact hl
      · injection h with h; subst h; exact hl
    · intro p R h
      rw [atomP] at h
      simp only at h
      split at h
      · injection h with h; subst h; exact ClN.leaf _ _ (by decide)
      split at h
      · injection h with h; subst h; exact ClN.leaf _ _ (by decide)
      split at h
      · injection h with h; subst h; exact ClN.leaf _ _ (by decide)
      split at h
      · injection h with h; subst h; exact ClN.leaf _ _ (by decide)
      split at h
      · split at h
        · cases h
        · rename_i s r hq
          injection h with h; subst h; exact ClN.leaf _ _ (by decide)
      split at h
      · injection h with h; subst h; exact ClN.leaf _ _ (by decide)
      split at h
      · injection h with h; subst h; exact ClN.leaf _ _ (by decide)
      split at h
      · split at h
        · injection h with h; subst h; exact ClN.nil_
        · split at h
          · cases h
          · rename_i l r hq
            injection h with h; subst h; exact iAlt _ (l, r) hq
      · injection h with h; subst h; exact ClN.leaf _ _ (by decide)
theorem ClN.map_ {l : List Nd} (h : ClN l) : l.map (shiftNd 0) = l := by
  rw [List.map_congr_left (g := id) (fun x hx => h x hx), List.map_id]
theorem all_g : ∀ f : Nat, PatG f ∧ AltG f ∧ PartG f ∧ AtomG f := by
  intro f
  induction f using Nat.strongRecOn with
  | _ f ih =>
    cases f with
    | zero =>
      refine ⟨?_, ?_, ?_, ?_⟩
      · intro w0 B g s a d lv N w R _ _ _ _ _ h; simp [altP] at h
      · intro w0 B g s a d lv N w R _ _ _ _ _ h; simp [catP] at h
      · intro w0 B g s a d lv N w R _ _ _ _ _ h; simp [partP] at h
      · intro w0 B g s a d lv N w R _ _ _ _ _ h; simp [atomP] at h
    | succ f =>
      exact ⟨patG f (fun k hk => (ih k (by omega)).2.1), altG f (fun k hk => (ih k (by omega)).2.2.1), partG f (ih f (by omega)).2.2.2, atomG f (ih f (by omega)).1⟩
theorem RP.begin (s : ByteArray) (w : World) : RP w (w.alloc (pzO s 0 0 (.slice none 0 0))) (w.heap.size + 1) w.heap.size s 0 0 (.slice none 0 0) [] :=
  ⟨(Old.refl w).alloc _, heap_alloc_new w _, Own.nil_ _ _ _ _, Nat.le_refl _, by omega, by simp⟩
set_option maxHeartbeats 8000000 in
set_option maxRecDepth 100000 in
theorem parseG (f : Nat) (s : ByteArray) (r : List Nd × Int) (w : World) (hR : parseF f (bs s) = some r) : Calls Try.prog 26 #[.string s] w (ParsePost w r) := by
  unfold parseF at hR
  rw [bs_length] at hR
  by_cases hl : 128 < s.size
  · rw [if_pos hl] at hR
    have HE := Lib.hid (Option.some.inj hR).symm
    have HO := Lib.hid (Old.refl w)
    have hl2 : (128 : Int) < (s.size : Int) := by omega
    clear hR hl
    go_enter Try.func26, Try.ntmps26
    go_wp2_with fail
    go_ret2
    rw [HE.out]
    exact ⟨_, rfl, Own.nil_ _ _ _ _, HO.out⟩
  rw [if_neg hl] at hR
  cases hq : altP (bs s) f ⟨0, 0, 0⟩ with
  | none => rw [hq] at hR; cases hR
  | some lp =>
  rw [hq] at hR
  obtain ⟨l, ⟨a, d, e⟩⟩ := lp
  have hA := (all_g f).1 w (w.heap.size + 1) w.heap.size s 0 0 (.slice none 0 0) [] (w.alloc (pzO s 0 0 (.slice none 0 0))) (l, ⟨a, d, e⟩) (RP.begin s w) (by omega) (Nat.zero_le _) (Nat.zero_le _) (by unfold Room; simp; omega) hq
  have hG : Good (bs s).length ⟨0, 0, 0⟩ l ⟨a, d, e⟩ 0 := (parse_good (bs s) f).1 ⟨0, 0, 0⟩ (l, ⟨a, d, e⟩) ⟨rfl, Nat.zero_le _, Nat.zero_le _⟩ hq
  rw [bs_length] at hG
  have hcl := ((parse_clean (bs s) f).1 ⟨0, 0, 0⟩ (l, ⟨a, d, e⟩) hq).map_
  have hl2 : ¬ (128 : Int) < (s.size : Int) := by omega
  have hR2 : r = (if (if (if e = 0 ∧ a < s.size then failP ⟨a, d, e⟩ 83 else ⟨a, d, e⟩ : Ps).e = 0 ∧ 256 < l.length then failP (if e = 0 ∧ a < s.size then failP ⟨a, d, e⟩ 83 else ⟨a, d, e⟩) 1 else (if e = 0 ∧ a < s.size then failP ⟨a, d, e⟩ 83 else ⟨a, d, e⟩) : Ps).e = 0 then (l, 0) else ([], (if (if e = 0 ∧ a < s.size then failP ⟨a, d, e⟩ 83 else ⟨a, d, e⟩ : Ps).e = 0 ∧ 256 < l.length then failP (if e = 0 ∧ a < s.size then failP ⟨a, d, e⟩ 83 else ⟨a, d, e⟩) 1 else (if e = 0 ∧ a < s.size then failP ⟨a, d, e⟩ 83 else ⟨a, d, e⟩) : Ps).e)) := (Option.some.inj hR).symm
  have HR2 := Lib.hid hR2
  have HA := Lib.hid hA
  have HG := Lib.hid hG
  have HCL := Lib.hid hcl
  have hsz : s.size ≤ 128 := by omega
  clear hA hR hR2 hG hq hl hcl
  unfold pzO at HA
  go_enter Try.func26, Try.ntmps26
  by_cases he : e = 0
  · subst he
    obtain ⟨g1, g2, g3, g4, g5⟩ := HG.out.ok rfl
    replace g1 : d = 0 := g1
    replace g3 : a ≤ s.size := g3
    subst g1
    have HA2 := Lib.hid (HA.out.mono fun e w' h => h.ok rfl)
    clear HA
    go_wp2_with fail
    refine (HA2.out).mono ?_; rintro e V ⟨rfl, lv, hr⟩
    have HP : Hid (RP w V (w.heap.size + 1) w.heap.size s a 0 lv l) := Lib.hid (by
      have h2 : l.map (shiftNd 0) = l := HCL.out
      have := hr
      simp only [List.nil_append, List.length_nil] at this
      rw [show (((0 : Nat) : Int)) = 0 from rfl, h2] at this
      exact this)
    have hen := endedC w (w.heap.size + 1) w.heap.size s a 0 lv l V HP.out (by omega)
    clear hr HA2 HCL HG
    by_cases hend : a = s.size
    · rw [decide_eq_true hend] at hen
      have HEN := Lib.hid hen
      clear hen
      obtain ⟨Al, cl, rfl, _, _, _⟩ := HP.out.own.shape
      by_cases hll : 256 < l.length
      · have HE : Hid (r = ([], 1)) := Lib.hid (by rw [HR2.out]; simp [hll, hend, failP])
        have hl3 : (256 : Int) < (l.length : Int) := by omega
        clear HR2 hend hll
        go_wp2_with fail
        refine (HEN.out).mono ?_; rintro e W2 ⟨rfl, n2, rfl⟩
        have HP2 := Lib.hid (HP.out.drewN n2)
        generalize V.drewN n2 = W3 at *
        have HO := Lib.hid HP2.out.old
        obtain ⟨_, _, _, c3, _, _, _⟩ := HP2.out.cells
        clear HP HEN
        go_wp2_with fail
        go_ret2
        rw [HE.out]
        exact ⟨_, rfl, Own.nil_ _ _ _ _, HO.out⟩
      · have HE : Hid (r = (l, 0)) := Lib.hid (by rw [HR2.out]; simp [hll, hend])
        have hl3 : ¬ (256 : Int) < (l.length : Int) := by omega
        clear HR2 hend hll
        go_wp2_with fail
        refine (HEN.out).mono ?_; rintro e W2 ⟨rfl, n2, rfl⟩
        have HP2 := Lib.hid (HP.out.drewN n2)
        generalize V.drewN n2 = W3 at *
        have HO := Lib.hid HP2.out.old
        obtain ⟨_, _, _, c3, _, _, _⟩ := HP2.out.cells
        clear HP HEN
        go_wp2_with fail
        go_ret2
        rw [HE.out]
        exact ⟨_, rfl, HP2.out.own.base (by omega), HO.out⟩
    · have HE : Hid (r = ([], 83)) := Lib.hid (by
        have : a < s.size := by omega
        rw [HR2.out]; simp [this, failP])
      rw [decide_eq_false hend] at hen
      have HEN := Lib.hid hen
      clear hen hend HR2
      go_wp2_with fail
      refine (HEN.out).mono ?_; rintro e W2 ⟨rfl, n2, rfl⟩
      have HO := Lib.hid (HP.out.drewN n2).old
      generalize V.drewN n2 = W3 at *
      clear HP HEN
      go_wp2_with fail
      go_ret2
      rw [HE.out]
      exact ⟨_, rfl, Own.nil_ _ _ _ _, HO.out⟩
  · have HE : Hid (r = ([], e)) := Lib.hid (by rw [HR2.out]; simp [he])
    have HA2 := Lib.hid (HA.out.mono fun e w' h => h.no he)
    have hne : (e != 0) = true := by simpa using he
    clear HA HR2
    go_wp2_with fail
    refine (HA2.out).mono ?_; rintro e V ⟨v9, rfl, ho⟩
    have HO := Lib.hid ho
    clear ho HA2
    go_wp2_with fail
    go_ret2
    rw [HE.out]
    exact ⟨_, rfl, Own.nil_ _ _ _ _, HO.out⟩
end Go.Proofs.Ytaajgdhoffhdcaa
