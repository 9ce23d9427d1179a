/-
  The queue of timers in memory: its list, its map of places. Plain words; no walk yet.
-/
import Derived.Test.YtlpaemlgmmmbmaaWords
import Derived.Maps.OwnSet
namespace Go.Proofs.Ytlpaemlgmmmbmaa
open Go.RowKit Go.Maps
set_option linter.unusedVariables false

abbrev Tm := Int × Int
def tcells (L : List Tm) : List Value := L.flatMap fun p => [.int .u64 p.1, .int .i64 p.2]
theorem tcells_length (L : List Tm) : (tcells L).length = L.length * 2 := by
  induction L with
  | nil => rfl
  | cons a L ih => simp [tcells] at ih ⊢; omega
theorem tcells_append (L M : List Tm) : tcells (L ++ M) = tcells L ++ tcells M := by simp [tcells]
theorem tcells_get : ∀ (L : List Tm) (i : Nat) (p : Tm), L[i]? = some p → (tcells L)[i * 2]? = some (.int .u64 p.1) ∧ (tcells L)[i * 2 + 1]? = some (.int .i64 p.2)
  | [], i, p, h => by simp at h
  | a :: L, 0, p, h => by
    simp at h; subst h
    exact ⟨rfl, rfl⟩
  | a :: L, i + 1, p, h => by
    have := tcells_get L i p (by simpa using h)
    have e : tcells (a :: L) = .int .u64 a.1 :: .int .i64 a.2 :: tcells L := rfl
    rw [e, show (i + 1) * 2 = i * 2 + 1 + 1 by omega, show i * 2 + 1 + 1 + 1 = (i * 2 + 1) + 1 + 1 by omega]
    simpa using this
theorem tcells_set : ∀ (L : List Tm) (i : Nat) (p : Tm), i < L.length → tcells (L.set i p) = ((tcells L).set (i * 2) (.int .u64 p.1)).set (i * 2 + 1) (.int .i64 p.2)
  | [], i, p, h => by simp at h
  | a :: L, 0, p, h => rfl
  | a :: L, i + 1, p, h => by
    have := tcells_set L i p (by simpa using h)
    have e : ∀ (b : Tm) M, tcells (b :: M) = .int .u64 b.1 :: .int .i64 b.2 :: tcells M := fun _ _ => rfl
    rw [List.set_cons_succ, e, e, this, show (i + 1) * 2 = i * 2 + 1 + 1 by omega, show i * 2 + 1 + 1 + 1 = (i * 2 + 1) + 1 + 1 by omega]
    simp
theorem tcells_set1 (L : List Tm) (i : Nat) (p q : Tm) (h : L[i]? = some q) (hp : p.2 = q.2) : tcells (L.set i p) = (tcells L).set (i * 2) (.int .u64 p.1) := by
  have hi : i < L.length := (List.getElem?_eq_some_iff.1 h).1
  rw [tcells_set L i p hi, hp]
  apply List.ext_getElem?
  intro j
  rw [List.getElem?_set]
  split
  · rename_i hj
    subst hj
    have := (tcells_get L i q h).2
    rw [if_pos (by rw [List.length_set, tcells_length]; omega), List.getElem?_set_ne (by omega), this]
  · rfl
theorem tcells_take (L : List Tm) (i : Nat) : (tcells L).take (i * 2) = tcells (L.take i) := by
  induction L generalizing i with
  | nil => simp [tcells]
  | cons a L ih =>
    cases i with
    | zero => simp [tcells]
    | succ i =>
      have e : ∀ (b : Tm) M, tcells (b :: M) = .int .u64 b.1 :: .int .i64 b.2 :: tcells M := fun _ _ => rfl
      rw [e, List.take_succ_cons, e, show (i + 1) * 2 = i * 2 + 1 + 1 by omega, List.take_succ_cons, List.take_succ_cons, ih]

/-- The IDs are apart, and small; the times are times. -/
def tOk (p : Tm) : Prop := 0 ≤ p.1 ∧ p.1 < 18446744073709551616 ∧ 0 ≤ p.2 ∧ p.2 ≤ 9223372036854775807
def TL (L : List Tm) : Prop := L.length ≤ 256 ∧ (L.map (·.2)).Nodup ∧ ∀ p ∈ L, tOk p
def swapL (L : List Tm) (i k : Nat) : List Tm := (L.set i (L.getD k (0, 0))).set k (L.getD i (0, 0))
def lessB (p q : Tm) : Bool := decide (p.1 < q.1) || (p.1 == q.1 && decide (p.2 < q.2))
theorem swapL_length (L : List Tm) (i k : Nat) : (swapL L i k).length = L.length := by simp [swapL]
theorem getD_of {L : List Tm} {i : Nat} (h : i < L.length) : L[i]? = some (L.getD i (0, 0)) := by
  rw [List.getD_eq_getElem?_getD, List.getElem?_eq_getElem h]; rfl

abbrev MD := DataW Unit
def keyL (id : Int) : Lit := .int .i64 id
def numD (i : Nat) : MD := .lit (.int .i64 i)
theorem keyL_is (id : Int) : WideAt.IsKeyLit (keyL id) := by first | trivial | simp [WideAt.IsKeyLit, keyL]
theorem keyL_inj {a b : Int} (h : keyL a = keyL b) : a = b := by simpa [keyL] using h
/-- The map D says where each timer of L lies. -/
structure MapOf (D : MD) (L : List Tm) : Prop where
  tidy : Tidy D
  size : Maps.size D = L.length
  has_ : ∀ id, has D (keyL id) = decide (id ∈ L.map (·.2))
  at_ : ∀ i p, L[i]? = some p → ∀ z, D.atKey (keyL p.2) z = numD i
theorem MapOf.nil_ : MapOf (.map []) [] := ⟨tidy_empty, rfl, fun id => by simp [has_eq], fun i p h => by simp at h⟩

theorem swapL_get (L : List Tm) (i k j : Nat) (hi : i < L.length) (hk : k < L.length) : (swapL L i k)[j]? = if j = k then some (L.getD i (0, 0)) else if j = i then some (L.getD k (0, 0)) else L[j]? := by
  unfold swapL
  rw [List.getElem?_set]
  split
  · rename_i h; subst h; rw [if_pos (by simpa using hk), if_pos rfl]
  · rename_i h
    rw [if_neg (fun e => h e.symm), List.getElem?_set]
    split
    · rename_i h2; subst h2; first | rw [if_pos hi, if_pos rfl] | rw [if_pos rfl]
    · rename_i h2; rw [if_neg (fun e => h2 e.symm)]
theorem swapL_mem (L : List Tm) (i k : Nat) (hi : i < L.length) (hk : k < L.length) (p : Tm) : p ∈ swapL L i k ↔ p ∈ L := by
  constructor
  · intro h
    obtain ⟨j, hj⟩ := List.getElem?_of_mem h
    rw [swapL_get L i k j hi hk] at hj
    split at hj
    · exact List.mem_of_getElem? (by rw [getD_of hi]; exact hj)
    · split at hj
      · exact List.mem_of_getElem? (by rw [getD_of hk]; exact hj)
      · exact List.mem_of_getElem? hj
  · intro h
    obtain ⟨j, hj⟩ := List.getElem?_of_mem h
    by_cases h1 : j = i
    · subst h1
      refine List.mem_of_getElem? (i := k) ?_
      rw [swapL_get L j k k hi hk, if_pos rfl, ← getD_of hi]; exact hj
    · by_cases h2 : j = k
      · subst h2
        refine List.mem_of_getElem? (i := i) ?_
        rw [swapL_get L i j i hi hk, if_neg (fun e => h1 e.symm), if_pos rfl, ← getD_of hk]; exact hj
      · refine List.mem_of_getElem? (i := j) ?_
        rw [swapL_get L i k j hi hk, if_neg h2, if_neg h1]; exact hj
theorem nodup_get {L : List Tm} (h : (L.map (·.2)).Nodup) {i j : Nat} {p q : Tm} (hi : L[i]? = some p) (hj : L[j]? = some q) (he : p.2 = q.2) : i = j := by
  have h1 : i < (L.map (·.2)).length := by simpa using (List.getElem?_eq_some_iff.1 hi).1
  have h2 : j < (L.map (·.2)).length := by simpa using (List.getElem?_eq_some_iff.1 hj).1
  refine (List.getElem_inj (h₀ := h1) (h₁ := h2) h).1 ?_
  simp [(List.getElem?_eq_some_iff.1 hi).2, (List.getElem?_eq_some_iff.1 hj).2, he]
theorem swapL_perm (L : List Tm) (i k : Nat) (hi : i < L.length) (hk : k < L.length) : (swapL L i k).Perm L := by
  by_cases h : i = k
  · subst h
    have : swapL L i i = L := by
      apply List.ext_getElem?
      intro j
      rw [swapL_get L i i j hi hi]
      split
      · rename_i h; subst h; exact (getD_of hi).symm
      · rfl
    rw [this]
  · have key : ∀ (a b : Nat), a < b → b < L.length → ∀ x y, L[a]? = some x → L[b]? = some y → ((L.set a y).set b x).Perm L := by
      intro a b hab hb x y hx hy
      have e1 : L = L.take a ++ x :: ((L.drop (a + 1)).take (b - a - 1) ++ y :: L.drop (b + 1)) := by
        apply List.ext_getElem?
        intro j
        have ha : a < L.length := by omega
        rw [List.getElem?_append]
        split
        · rename_i hj
          rw [List.getElem?_take, if_pos (by rw [List.length_take] at hj; omega)]
        · rename_i hj
          rw [List.length_take] at hj ⊢
          rw [Nat.min_eq_left (by omega)] at hj ⊢
          obtain ⟨d, rfl⟩ : ∃ d, j = a + d := ⟨j - a, by omega⟩
          rw [Nat.add_sub_cancel_left]
          cases d with
          | zero => simpa using hx
          | succ d =>
            rw [List.getElem?_cons_succ, List.getElem?_append]
            split
            · rename_i hd
              rw [List.getElem?_take, if_pos (by rw [List.length_take] at hd; omega), List.getElem?_drop]
              congr 1; omega
            · rename_i hd
              rw [List.length_take, List.length_drop] at hd ⊢
              rw [Nat.min_eq_left (by omega)] at hd ⊢
              obtain ⟨c, rfl⟩ : ∃ c, d = b - a - 1 + c := ⟨d - (b - a - 1), by omega⟩
              rw [Nat.add_sub_cancel_left]
              cases c with
              | zero => rw [show a + (b - a - 1 + 0 + 1) = b by omega]; simpa using hy
              | succ c =>
                rw [List.getElem?_cons_succ, List.getElem?_drop]
                congr 1; omega
      have hlt : (L.take a).length = a := by rw [List.length_take]; omega
      have hlm : ((L.drop (a + 1)).take (b - a - 1)).length = b - a - 1 := by rw [List.length_take, List.length_drop]; omega
      have e2 : (L.set a y).set b x = L.take a ++ y :: ((L.drop (a + 1)).take (b - a - 1) ++ x :: L.drop (b + 1)) := by
        conv => lhs; rw [e1]
        rw [List.set_append_right _ _ (by omega), hlt, Nat.sub_self, List.set_cons_zero, List.set_append_right _ _ (by omega), hlt]
        congr 1
        have e3 : b - a = (b - a - 1) + 1 := by omega
        clear e1
        generalize b - a - 1 = q at *
        rw [e3, List.set_cons_succ, List.set_append_right _ _ (by omega), hlm, Nat.sub_self, List.set_cons_zero]
      rw [e2]
      conv => rhs; rw [e1]
      refine List.Perm.append_left _ ?_
      generalize (L.drop (a + 1)).take (b - a - 1) = M
      generalize L.drop (b + 1) = N
      refine (List.Perm.cons y List.perm_middle).trans ?_
      refine (List.Perm.swap x y _).trans ?_
      exact List.Perm.cons x List.perm_middle.symm
    unfold swapL
    rcases Nat.lt_or_gt_of_ne h with h1 | h1
    · exact key i k h1 hk _ _ (getD_of hi) (getD_of hk)
    · rw [List.set_comm _ _ h]
      exact key k i h1 hi _ _ (getD_of hk) (getD_of hi)
theorem TL.perm {L M : List Tm} (h : TL L) (hp : M.Perm L) : TL M :=
  ⟨by rw [hp.length_eq]; exact h.1, (hp.map _).nodup_iff.2 h.2.1, fun p hm => h.2.2 p (hp.mem_iff.1 hm)⟩
theorem TL.swap {L : List Tm} (h : TL L) {i k : Nat} (hi : i < L.length) (hk : k < L.length) : TL (swapL L i k) := h.perm (swapL_perm L i k hi hk)

theorem MapOf.swap {D : MD} {L : List Tm} (h : MapOf D L) (hn : (L.map (·.2)).Nodup) {i k : Nat} (hi : i < L.length) (hk : k < L.length) :
    MapOf ((D.put (keyL (L.getD k (0, 0)).2) (numD i)).put (keyL (L.getD i (0, 0)).2) (numD k)) (swapL L i k) := by
  have hgi := getD_of hi
  have hgk := getD_of hk
  have m1 : (L.getD k (0, 0)).2 ∈ L.map (·.2) := List.mem_map.2 ⟨_, List.mem_of_getElem? hgk, rfl⟩
  have m2 : (L.getD i (0, 0)).2 ∈ L.map (·.2) := List.mem_map.2 ⟨_, List.mem_of_getElem? hgi, rfl⟩
  have t1 := h.tidy.put (keyL_is (L.getD k (0, 0)).2) (numD i)
  have s1 : Maps.size (D.put (keyL (L.getD k (0, 0)).2) (numD i)) = L.length := by
    rw [size_put h.tidy, h.has_, decide_eq_true m1, if_pos rfl, h.size]
  have h1 : ∀ id, has (D.put (keyL (L.getD k (0, 0)).2) (numD i)) (keyL id) = decide (id ∈ L.map (·.2)) := by
    intro id
    by_cases e : id = (L.getD k (0, 0)).2
    · subst e; rw [has_put_same h.tidy.isMap (keyL_is _), decide_eq_true m1]
    · rw [has_put_other (fun e' => e (keyL_inj e')), h.has_]
  refine ⟨t1.put (keyL_is _) _, ?_, ?_, ?_⟩
  · rw [size_put t1, h1, decide_eq_true m2, if_pos rfl, s1, swapL_length]
  · intro id
    have hm : (id ∈ (swapL L i k).map (·.2)) ↔ id ∈ L.map (·.2) := ((swapL_perm L i k hi hk).map _).mem_iff
    rw [show decide (id ∈ (swapL L i k).map (·.2)) = decide (id ∈ L.map (·.2)) from by simp only [hm]]
    by_cases e : id = (L.getD i (0, 0)).2
    · subst e; rw [has_put_same t1.isMap (keyL_is _), decide_eq_true m2]
    · rw [has_put_other (fun e' => e (keyL_inj e')), h1]
  · intro j p hj z
    rw [swapL_get L i k j hi hk] at hj
    split at hj
    · rename_i hjk
      injection hj with hj; subst hj hjk
      exact atKey_put_same t1.isMap (keyL_is _) _ _
    · rename_i hjk
      split at hj
      · rename_i hji
        injection hj with hj; subst hj hji
        rw [atKey_put_other, atKey_put_same h.tidy.isMap (keyL_is _)]
        intro e
        exact hjk (nodup_get hn hgi hgk (keyL_inj e).symm)
      · rename_i hji
        rw [atKey_put_other, atKey_put_other]
        · exact h.at_ j p hj z
        · intro e; exact hjk (nodup_get hn hj hgk (keyL_inj e))
        · intro e; exact hji (nodup_get hn hj hgi (keyL_inj e))
theorem MapOf.push {D : MD} {L : List Tm} (h : MapOf D L) {p : Tm} (hp : p.2 ∉ L.map (·.2)) : MapOf (D.put (keyL p.2) (numD L.length)) (L ++ [p]) := by
  refine ⟨h.tidy.put (keyL_is _) _, ?_, ?_, ?_⟩
  · rw [size_put h.tidy, h.has_, decide_eq_false hp, h.size]; simp
  · intro id
    by_cases e : id = p.2
    · subst e; rw [has_put_same h.tidy.isMap (keyL_is _)]; simp
    · rw [has_put_other (fun e' => e (keyL_inj e')), h.has_]; simp [e]
  · intro j q hj z
    rw [List.getElem?_append] at hj
    split at hj
    · rw [atKey_put_other, h.at_ j q hj z]
      intro e
      exact hp (by rw [← keyL_inj e]; exact List.mem_map.2 ⟨q, List.mem_of_getElem? hj, rfl⟩)
    · rename_i hl
      obtain rfl : j = L.length := by
        have := (List.getElem?_eq_some_iff.1 hj).1; simp at this; omega
      simp at hj
      subst hj
      exact atKey_put_same h.tidy.isMap (keyL_is _) _ _
theorem MapOf.pop {D : MD} {L : List Tm} {p : Tm} (h : MapOf D (L ++ [p])) (hn : ((L ++ [p]).map (·.2)).Nodup) : MapOf (D.del (keyL p.2)) L := by
  have hp : p.2 ∉ L.map (·.2) := by
    rw [List.map_append] at hn
    have := (List.nodup_append.1 hn).2.2
    intro hm
    exact this _ hm p.2 (by simp) rfl
  refine ⟨h.tidy.del _, ?_, ?_, ?_⟩
  · have := size_del (k := keyL p.2) h.tidy
    rw [h.has_, decide_eq_true (by simp), if_pos rfl, h.size] at this
    simp at this
    omega
  · intro id
    by_cases e : id = p.2
    · subst e; rw [has_del_same, decide_eq_false hp]
    · rw [has_del_other (fun e' => e (keyL_inj e')), h.has_]
      simp [e]
  · intro j q hj z
    rw [atKey_del_other, h.at_ j q (by rw [List.getElem?_append_left (List.getElem?_eq_some_iff.1 hj).1]; exact hj) z]
    intro e
    exact hp (by rw [← keyL_inj e]; exact List.mem_map.2 ⟨q, List.mem_of_getElem? hj, rfl⟩)
theorem MapOf.setAt {D : MD} {L : List Tm} (h : MapOf D L) {i : Nat} {q : Tm} (hi : L[i]? = some q) (a : Int) : MapOf D (L.set i (a, q.2)) := by
  have hm : (L.set i (a, q.2)).map (·.2) = L.map (·.2) := by
    rw [List.map_set]
    apply List.ext_getElem?
    intro j
    rw [List.getElem?_set]
    split
    · rename_i hj
      subst hj
      have hl := (List.getElem?_eq_some_iff.1 hi).1
      rw [if_pos (by simpa using hl), List.getElem?_map, hi]; rfl
    · rfl
  refine ⟨h.tidy, by rw [h.size]; simp, fun id => by rw [hm]; exact h.has_ id, ?_⟩
  intro j p hj z
  rw [List.getElem?_set] at hj
  split at hj
  · rename_i e
    subst e
    split at hj
    · injection hj with hj; subst hj
      exact h.at_ i q hi z
    · cases hj
  · exact h.at_ j p hj z
theorem ids_set {L : List Tm} {i : Nat} {q : Tm} (hi : L[i]? = some q) (a : Int) : (L.set i (a, q.2)).map (·.2) = L.map (·.2) := by
  rw [List.map_set]
  apply List.ext_getElem?
  intro j
  rw [List.getElem?_set]
  split
  · rename_i hj
    subst hj
    have hl := (List.getElem?_eq_some_iff.1 hi).1
    rw [if_pos (by simpa using hl), List.getElem?_map, hi]; rfl
  · rfl

/-- The map's block holds no more entries than D. -/
theorem ownsMap_tight {P : Program} {k : TypeId} {R : Value → Option (MD × List MemPlace)} {w : World} {b n : Nat} {D : MD} (h : w.ownsMap P k R b n D) : w.ownsMap P k R b (Maps.size D) D := by
  obtain ⟨es, clock, hb, F, hs, rfl⟩ := h
  exact ⟨es, clock, hb, F, by rw [size_eq, length_read]; exact Nat.le_refl _, rfl⟩
end Go.Proofs.Ytlpaemlgmmmbmaa
