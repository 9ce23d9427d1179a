/-
  What plans between lists of jobs with different names say. No program in sight.
-/
import Derived.Test.YtpknglclcdgfbaaMlJ
namespace Go.Proofs.Ytpknglclcdgfbaa
open Go.RowKit Go.Shelf
set_option linter.unusedVariables false

theorem sameJ_refl (a : Jd) : sameJ a a = true := sameJ_yes ⟨rfl, rfl, rfl, rfl, rfl, rfl, rfl, rfl, rfl, rfl, rfl, rfl, rfl⟩
theorem sameJ_symm (a b : Jd) : sameJ a b = sameJ b a := by
  unfold sameJ
  apply decide_eq_decide.mpr
  unfold Jd.eqv
  constructor
  · rintro ⟨h1, h2, h3, h4, h5, h6, h7, h8, h9, h10, h11, h12, h13⟩
    exact ⟨h1.symm, h2.symm, h3.symm, h4.symm, h5.symm, h6.symm, h7.symm, h8.symm, h9.symm, h10.symm, h11.symm, h12.symm, h13.symm⟩
  · rintro ⟨h1, h2, h3, h4, h5, h6, h7, h8, h9, h10, h11, h12, h13⟩
    exact ⟨h1.symm, h2.symm, h3.symm, h4.symm, h5.symm, h6.symm, h7.symm, h8.symm, h9.symm, h10.symm, h11.symm, h12.symm, h13.symm⟩
def inB (l : List ByteArray) (n : ByteArray) : Bool := l.any fun m => decide (m = n)
theorem inB_iff {l : List ByteArray} {n : ByteArray} : inB l n = true ↔ n ∈ l := by
  unfold inB
  rw [List.any_eq_true]
  constructor
  · rintro ⟨m, hm, h⟩
    rw [decide_eq_true_eq] at h
    exact h ▸ hm
  · intro h
    exact ⟨n, h, by simp⟩
theorem lacks_eq (old : List Jd) (nm : ByteArray) : lacksJ old nm = !inB (old.map Jd.nm) nm := by
  unfold lacksJ
  induction old with
  | nil => rfl
  | cons a l ih =>
    rw [List.find?_cons]
    unfold inB at *
    rw [List.map_cons, List.any_cons]
    by_cases h : a.nm = nm
    · rw [decide_eq_true h]
      rfl
    · rw [decide_eq_false h]
      simp only [Bool.false_or]
      exact ih
theorem find_nodup : ∀ {l : List Jd} {b : Jd}, (l.map Jd.nm).Nodup → b ∈ l → l.find? (fun j => decide (j.nm = b.nm)) = some b := by
  intro l
  induction l with
  | nil => intro b _ h; cases h
  | cons a l ih =>
    intro b hn hb
    rw [List.map_cons, List.nodup_cons] at hn
    rw [List.find?_cons]
    rcases List.mem_cons.mp hb with rfl | hb'
    · rw [decide_eq_true rfl]
    · have hne : a.nm ≠ b.nm := fun e => hn.1 (e ▸ List.mem_map_of_mem hb')
      rw [decide_eq_false hne]
      exact ih hn.2 hb'
theorem kind_at {y : List Jd} {a b : Jd} (hn : (y.map Jd.nm).Nodup) (hb : b ∈ y) (he : b.nm = a.nm) : kindJ y a = if sameJ a b then 1 else 2 := by
  unfold kindJ
  rw [← he, find_nodup hn hb]
theorem kind_lacks {y : List Jd} {a : Jd} (h : lacksJ y a.nm = true) : kindJ y a = 3 := by
  unfold kindJ
  unfold lacksJ at h
  rw [Option.isNone_iff_eq_none] at h
  rw [h]
theorem mem_plan {x y : List Jd} {q : ByteArray × Int} (h : q ∈ planM x y) : (∃ a ∈ x, q = (a.nm, kindJ y a)) ∨ ∃ b ∈ y, lacksJ x b.nm = true ∧ q = (b.nm, 4) := by
  unfold planM at h
  rcases List.mem_append.mp h with h | h
  · obtain ⟨a, ha, rfl⟩ := List.mem_map.mp h
    exact Or.inl ⟨a, ha, rfl⟩
  · obtain ⟨b, hb, rfl⟩ := List.mem_map.mp h
    rw [List.mem_filter] at hb
    exact Or.inr ⟨b, hb.1, hb.2, rfl⟩
def flipK (k : Int) : Int := if k = 3 then 4 else if k = 4 then 3 else k
theorem flip_12 (c : Bool) : flipK (if c then 1 else 2) = if c then 1 else 2 := by cases c <;> rfl
/-- A plan to, and the plan back. -/
theorem plan_back {x y : List Jd} (hx : (x.map Jd.nm).Nodup) (hy : (y.map Jd.nm).Nodup) {p q : ByteArray × Int} (hp : p ∈ planM x y) (hq : q ∈ planM y x) (he : q.1 = p.1) : q.2 = flipK p.2 := by
  rcases mem_plan hp with ⟨a, ha, rfl⟩ | ⟨b, hb, hl, rfl⟩
  · rcases mem_plan hq with ⟨b, hb, rfl⟩ | ⟨a', ha', hl', rfl⟩
    · simp only at he ⊢
      rw [kind_at hx ha he.symm, kind_at hy hb he, flip_12, sameJ_symm]
    · simp only at he ⊢
      rw [he] at hl'
      rw [kind_lacks hl']
      rfl
  · rcases mem_plan hq with ⟨b', hb', rfl⟩ | ⟨a, ha, hl', rfl⟩
    · simp only at he ⊢
      rw [← he] at hl
      rw [kind_lacks hl]
      rfl
    · exfalso
      simp only at he
      have hin : inB (x.map Jd.nm) b.nm = true := inB_iff.mpr (he ▸ List.mem_map_of_mem ha)
      rw [lacks_eq, hin] at hl
      cases hl
theorem plan_self {x : List Jd} (hx : (x.map Jd.nm).Nodup) : planM x x = x.map fun a => (a.nm, 1) := by
  unfold planM
  have h1 : x.map (fun a => (a.nm, kindJ x a)) = x.map fun a => (a.nm, (1 : Int)) := by
    apply List.map_congr_left
    intro a ha
    rw [kind_at hx ha rfl, sameJ_refl]
    rfl
  have h2 : (x.filter fun j => lacksJ x j.nm) = [] := by
    rw [List.filter_eq_nil_iff]
    intro a ha
    rw [lacks_eq, inB_iff.mpr (List.mem_map_of_mem ha)]
    exact Bool.false_ne_true
  rw [h1, h2]
  simp
/-- The names of a plan. -/
def nmsP (nx ny : List ByteArray) : List ByteArray := nx ++ ny.filter fun n => !inB nx n
theorem plan_names (x y : List Jd) : (planM x y).map Prod.fst = nmsP (x.map Jd.nm) (y.map Jd.nm) := by
  unfold planM nmsP
  rw [List.map_append, List.map_map, List.map_map, List.filter_map]
  congr 1
  show List.map Jd.nm _ = _
  congr 1
  apply List.filter_congr
  intro j _
  rw [lacks_eq]
  rfl
/-- The names that mill.Jobs gives. -/
def NmS (l : List ByteArray) : Prop := ∃ k : Nat, 1 ≤ k ∧ k ≤ 4 ∧ (l = jtab.take k ∨ l = (jtab.take k).reverse)
theorem nms_nodup {l : List ByteArray} (h : NmS l) : l.Nodup := by
  obtain ⟨k, h1, h4, h⟩ := h
  have : k = 1 ∨ k = 2 ∨ k = 3 ∨ k = 4 := by omega
  rcases this with rfl | rfl | rfl | rfl <;> rcases h with rfl | rfl <;> decide +kernel
theorem nmsP_ok {a b : List ByteArray} (ha : NmS a) (hb : NmS b) : (nmsP a b).length = (nmsP b a).length ∧ (nmsP b a).Nodup := by
  obtain ⟨k, h1, h4, h⟩ := ha
  obtain ⟨m, m1, m4, hm⟩ := hb
  have : k = 1 ∨ k = 2 ∨ k = 3 ∨ k = 4 := by omega
  have : m = 1 ∨ m = 2 ∨ m = 3 ∨ m = 4 := by omega
  rcases ‹k = 1 ∨ _› with rfl | rfl | rfl | rfl <;> rcases ‹m = 1 ∨ _› with rfl | rfl | rfl | rfl <;> rcases h with rfl | rfl <;> rcases hm with rfl | rfl <;> decide +kernel
theorem mem_nmsP {a b : List ByteArray} {n : ByteArray} : n ∈ nmsP a b ↔ n ∈ a ∨ n ∈ b := by
  unfold nmsP
  rw [List.mem_append, List.mem_filter]
  constructor
  · rintro (h | h)
    · exact Or.inl h
    · exact Or.inr h.1
  · rintro (h | h)
    · exact Or.inl h
    · by_cases h2 : n ∈ a
      · exact Or.inl h2
      · exact Or.inr ⟨h, by cases e : inB a n; rfl; exact absurd (inB_iff.mp e) h2⟩
theorem count_one {l : List ByteArray} {n : ByteArray} (hn : l.Nodup) (h : n ∈ l) : l.countP (fun m => decide (m = n)) = 1 := by
  induction l with
  | nil => cases h
  | cons a l ih =>
    rw [List.nodup_cons] at hn
    rw [List.countP_cons]
    by_cases e : a = n
    · subst e
      have h0 : l.countP (fun m => decide (m = a)) = 0 := by
        rw [List.countP_eq_zero]
        intro m hm
        simp only [decide_eq_true_eq]
        exact fun e => hn.1 (e ▸ hm)
      rw [h0, if_pos (by simp)]
    · rcases List.mem_cons.mp h with h | h
      · exact absurd h.symm e
      · rw [ih hn.2 h, if_neg (by simpa using e)]
theorem plan_count {x y : List Jd} (hx : NmS (x.map Jd.nm)) (hy : NmS (y.map Jd.nm)) {p : ByteArray × Int} (hp : p ∈ planM x y) : (planM y x).countP (fun q => decide (q.1 = p.1)) = 1 := by
  have h1 : p.1 ∈ nmsP (y.map Jd.nm) (x.map Jd.nm) := by
    have : p.1 ∈ (planM x y).map Prod.fst := List.mem_map_of_mem hp
    rw [plan_names, mem_nmsP] at this
    rw [mem_nmsP]
    exact this.symm
  have h2 := count_one (nmsP_ok hx hy).2 h1
  rw [← plan_names, List.countP_map] at h2
  exact h2
theorem plan_len {x y : List Jd} (hx : NmS (x.map Jd.nm)) (hy : NmS (y.map Jd.nm)) : (planM y x).length = (planM x y).length := by
  have h := (nmsP_ok hx hy).1
  rw [← plan_names, ← plan_names, List.length_map, List.length_map] at h
  exact h.symm
end Go.Proofs.Ytpknglclcdgfbaa
