/-
  What Play answers, on plain lists; the replies in memory.
-/
import Derived.Test.YtlpaemlgmmmbmaaTqF
namespace Go.Proofs.Ytlpaemlgmmmbmaa
open Go.RowKit Go.Maps
set_option linter.unusedVariables false

structure TOp where
  kind : Int
  id : Int
  at_ : Int
def TOp.ok (o : TOp) : Prop := (-9223372036854775808 ≤ o.kind ∧ o.kind ≤ 9223372036854775807) ∧ (-9223372036854775808 ≤ o.id ∧ o.id ≤ 9223372036854775807) ∧ 0 ≤ o.at_ ∧ o.at_ < 18446744073709551616
def opv (l : List TOp) : List Value := l.flatMap fun o => [.int .i64 o.kind, .int .i64 o.id, .int .u64 o.at_]
theorem opv_length (l : List TOp) : (opv l).length = l.length * 3 := by
  induction l with
  | nil => rfl
  | cons a l ih => simp [opv] at ih ⊢; omega
theorem opv_get : ∀ (l : List TOp) (i : Nat) (o : TOp), l[i]? = some o → (opv l)[i * 3]? = some (.int .i64 o.kind) ∧ (opv l)[i * 3 + 1]? = some (.int .i64 o.id) ∧ (opv l)[i * 3 + 2]? = some (.int .u64 o.at_)
  | [], i, p, h => by simp at h
  | a :: l, 0, p, h => by
    simp at h; subst h
    exact ⟨rfl, rfl, rfl⟩
  | a :: l, i + 1, p, h => by
    have := opv_get l i p (by simpa using h)
    have e : opv (a :: l) = .int .i64 a.kind :: .int .i64 a.id :: .int .u64 a.at_ :: opv l := rfl
    rw [e, show (i + 1) * 3 = i * 3 + 1 + 1 + 1 by omega, show i * 3 + 1 + 1 + 1 + 1 = (i * 3 + 1) + 1 + 1 + 1 by omega, show i * 3 + 1 + 1 + 1 + 2 = (i * 3 + 2) + 1 + 1 + 1 by omega]
    simpa using this

def stepM (L : List Tm) (now : Int) (o : TOp) : List Tm × Int × Rep :=
  if o.kind = 1 then ((setM L o.id o.at_).2, now, ⟨(setM L o.id o.at_).1, [], 0⟩)
  else if o.kind = 2 then ((cancelM L o.id).2, now, ⟨(cancelM L o.id).1, [], 0⟩)
  else if o.kind = 3 then ((fireM L.length L (max now o.at_)).2, max now o.at_, ⟨0, (fireM L.length L (max now o.at_)).1, max now o.at_⟩)
  else if o.kind = 4 then (L, now, nextM L)
  else (L, now, ⟨3, [], 0⟩)
def nextS (s : (List Tm × Int) × List Rep) (o : TOp) : (List Tm × Int) × List Rep := (((stepM s.1.1 s.1.2 o).1, (stepM s.1.1 s.1.2 o).2.1), s.2 ++ [(stepM s.1.1 s.1.2 o).2.2])
def runM (ops : List TOp) : (List Tm × Int) × List Rep := ops.foldl nextS (([], 0), [])
theorem runM_snoc (l : List TOp) (o : TOp) : runM (l ++ [o]) = nextS (runM l) o := by simp [runM, List.foldl_append]

/-! the queue's invariant -/
theorem Heap.nil_ : Heap [] 0 := fun c h0 hc => by omega
theorem TL.nil_ : TL [] := ⟨by simp, by simp, by simp⟩
def QI (L : List Tm) : Prop := TL L ∧ Heap L L.length
theorem QI.sub {L M : List Tm} {p : Tm} (h : TL L) (hp : (M ++ [p]).Perm L) : TL M := by
  have := h.perm hp
  refine ⟨by have := this.1; simp at this; omega, ?_, fun p hp => this.2.2 p (by simp [hp])⟩
  have h2 := this.2.1
  rw [List.map_append, List.nodup_append] at h2
  exact h2.1
theorem QI.pop {L : List Tm} (h : QI L) (h0 : 0 < L.length) : QI (popM L) := by
  obtain ⟨s1, s2, s3, s4⟩ := popM_spec L h.2 h0
  exact ⟨QI.sub h.1 s2, by rw [s4]; exact s3⟩
theorem QI.remove {L : List Tm} (h : QI L) {i : Nat} (hi : i < L.length) : QI (removeM L i) := by
  obtain ⟨s1, s2, s3, s4, _⟩ := removeM_spec L i h.2 hi
  exact ⟨QI.sub h.1 s2, by rw [s4]; exact s3⟩
theorem TL.push {L : List Tm} {p : Tm} (h : TL L) (hn : L.length < 256) (hp : tOk p) (hnew : p.2 ∉ L.map (·.2)) : TL (L ++ [p]) := by
  refine ⟨by simp; omega, ?_, ?_⟩
  · rw [List.map_append, List.nodup_append]
    refine ⟨h.2.1, by simp, ?_⟩
    intro x hx y hy e
    simp at hy
    subst hy e
    exact hnew hx
  · intro q hq
    rcases List.mem_append.1 hq with hq | hq
    · exact h.2.2 q hq
    · simp at hq; subst hq; exact hp
theorem TL.setAt {L : List Tm} {i : Nat} {q : Tm} (h : TL L) (hi : L[i]? = some q) {a : Int} (ha : 0 ≤ a ∧ a < 18446744073709551616) : TL (L.set i (a, q.2)) := by
  refine ⟨by rw [List.length_set]; exact h.1, by rw [ids_set hi]; exact h.2.1, fun p hp => ?_⟩
  rcases List.mem_or_eq_of_mem_set hp with hp | rfl
  · exact h.2.2 p hp
  · have := h.2.2 q (List.mem_of_getElem? hi)
    exact ⟨ha.1, ha.2, this.2.2⟩
theorem gt_set (L : List Tm) (i j : Nat) (p : Tm) (h : j ≠ i) : gt (L.set i p) j = gt L j := by
  unfold gt
  rw [List.getD_eq_getElem?_getD, List.getD_eq_getElem?_getD, List.getElem?_set_ne (fun e => h e.symm)]
theorem QI.fix {L : List Tm} (h : QI L) {i : Nat} {q : Tm} (hi : L[i]? = some q) {a : Int} (ha : 0 ≤ a ∧ a < 18446744073709551616) : QI (fixM (L.set i (a, q.2)) i L.length) ∧ (fixM (L.set i (a, q.2)) i L.length).Perm (L.set i (a, q.2)) := by
  have il := (List.getElem?_eq_some_iff.1 hi).1
  have hp := fixM_perm (L.set i (a, q.2)) i L.length (by simp) (by simpa using il)
  refine ⟨⟨(h.1.setAt hi ha).perm hp, ?_⟩, hp⟩
  rw [hp.length_eq, List.length_set]
  exact fixM_heap _ _ _ (by simp) il (H2_set h.2 _ (fun j hj _ => gt_set L i j _ hj) il)
theorem QI.push {L : List Tm} {p : Tm} (h : QI L) (hn : L.length < 256) (hp : tOk p) (hnew : p.2 ∉ L.map (·.2)) : QI (pushM L p) := by
  obtain ⟨s1, s2⟩ := pushM_spec L p h.2
  exact ⟨(h.1.push hn hp hnew).perm s1, by rw [s1.length_eq]; simpa using s2⟩
theorem QI.set_ {L : List Tm} (h : QI L) {id a : Int} (ha : 0 ≤ a ∧ a < 18446744073709551616) (hid : id ≤ 9223372036854775807) : QI (setM L id a).2 := by
  unfold setM
  split
  · exact h
  · rename_i h0
    cases hx : idx L id with
    | some i =>
      obtain ⟨b, hb⟩ := idx_some L id i hx
      exact (h.fix hb ha).1
    | none =>
      simp only
      split
      · exact h
      · exact h.push (by omega) ⟨ha.1, ha.2, by simp only; omega, hid⟩ (idx_none L id hx)
theorem QI.cancel {L : List Tm} (h : QI L) (id : Int) : QI (cancelM L id).2 := by
  unfold cancelM
  cases hx : idx L id with
  | some i =>
    obtain ⟨b, hb⟩ := idx_some L id i hx
    exact h.remove (List.getElem?_eq_some_iff.1 hb).1
  | none => exact h
theorem QI.fire : ∀ (f : Nat) {L : List Tm} (h : QI L) (c : Int), QI (fireM f L c).2
  | 0, L, h, c => h
  | f + 1, L, h, c => by
    rw [fireM]
    split
    · rename_i hh; exact QI.fire f (h.pop hh.1) c
    · exact h
theorem QI.step {L : List Tm} (h : QI L) (now : Int) {o : TOp} (ho : o.ok) : QI (stepM L now o).1 := by
  unfold stepM
  split
  · exact h.set_ ho.2.2 ho.2.1.2
  · split
    · exact h.cancel _
    · split
      · exact QI.fire _ h _
      · split <;> exact h
theorem now_step {L : List Tm} {now : Int} (h : 0 ≤ now ∧ now < 18446744073709551616) {o : TOp} (ho : o.ok) : 0 ≤ (stepM L now o).2.1 ∧ (stepM L now o).2.1 < 18446744073709551616 := by
  have := ho.2.2
  unfold stepM
  repeat' split
  all_goals (simp only; omega)

/-! replies in memory -/
def RepL (w : World) (base : Nat) : List Rep → List Value → Prop
  | [], cs => cs = []
  | r :: rs, cs => ∃ fv cs', cs = .int .i64 r.code :: fv :: .int .u64 r.at_ :: cs' ∧ Own w base 3 1 fv r.fired.length (intv r.fired) ∧ RepL w base rs cs'
theorem RepL.keep {w w' : World} {base base' : Nat} (hk : ∀ v n xs, Own w base 3 1 v n xs → Own w' base' 3 1 v n xs) : ∀ {rs : List Rep} {cs : List Value}, RepL w base rs cs → RepL w' base' rs cs
  | [], cs, h => h
  | r :: rs, cs, ⟨fv, cs', h1, h2, h3⟩ => ⟨fv, cs', h1, hk _ _ _ h2, RepL.keep hk h3⟩
theorem RepL.snoc {w : World} {base : Nat} {r : Rep} {fv : Value} (hf : Own w base 3 1 fv r.fired.length (intv r.fired)) : ∀ {rs : List Rep} {cs : List Value}, RepL w base rs cs → RepL w base (rs ++ [r]) (cs ++ [.int .i64 r.code, fv, .int .u64 r.at_])
  | [], cs, h => by
    have h' : cs = [] := h
    subst h'
    exact ⟨fv, [], rfl, hf, rfl⟩
  | r' :: rs, cs, ⟨fv', cs', h1, h2, h3⟩ => ⟨fv', cs' ++ [.int .i64 r.code, fv, .int .u64 r.at_], by rw [h1]; rfl, h2, RepL.snoc hf h3⟩
theorem RepL.length {w : World} {base : Nat} : ∀ {rs : List Rep} {cs : List Value}, RepL w base rs cs → cs.length = rs.length * 3
  | [], cs, h => by
    have h' : cs = [] := h
    subst h'; rfl
  | r :: rs, cs, ⟨fv, cs', h1, h2, h3⟩ => by
    have := RepL.length h3
    rw [h1]; simp; omega

theorem QK.newStore {B k i : Nat} {w w' : World} (h : QK B w w') (hk : w.heap.size ≤ k) (hB : B ≤ w.heap.size) (u : Value) : QK B w (w'.setCell ⟨k, i, none⟩ u) := by
  refine ⟨⟨h.1.os, h.1.tape, h.1.output, by simpa using h.1.size, fun j hj => ?_⟩, fun j c e fz hj h1 h2 => ?_⟩
  · rw [heap_setCell_other w' ⟨k, i, none⟩ j _ (by simp; omega)]; exact h.1.block j hj
  · have := lt_of_block hj
    rw [heap_setCell_other w' ⟨k, i, none⟩ j _ (by simp; omega)]; exact h.2 j c e fz hj h1 h2
theorem PQ.far {w w' : World} {B g mb k : Nat} {L : List Tm} {c : Array Value} {e : TypeId} {fz : Nat × Nat} (h : PQ w B g mb L) (hk : w.heap[k]? = some (.cells c e fz)) (h1 : e ≠ 109) (h2 : e ≠ 98) (hg : w.grownBy w' (some k)) : PQ w' B g mb L := by
  obtain ⟨k1, k2, u, D, kk, h3, h4, h5, h6⟩ := h
  obtain ⟨es, cl, hmb⟩ := map_block h5
  refine ⟨k1, k2, u, D, kk, (hg.block g (lt_of_block h3) ?_).trans h3, h4.keptBut hg hk ?_, h5.kept hg ?_, h6⟩
  · intro e'; injection e' with e'; subst e'; rw [hk] at h3; injection h3 with h3; injection h3 with _ h3; exact h2 h3
  · intro c' fz' e'; injection e' with _ e'; exact h1 e'
  · intro e'; injection e' with e'; subst e'; rw [hk] at hmb; cases hmb
theorem PQ.store {w : World} {B g mb k : Nat} {L : List Tm} {c : Array Value} {e : TypeId} {fz : Nat × Nat} (h : PQ w B g mb L) (hk : w.heap[k]? = some (.cells c e fz)) (h1 : e ≠ 109) (h2 : e ≠ 98) (i : Nat) (u : Value) : PQ (w.setCell ⟨k, i, none⟩ u) B g mb L :=
  h.far hk h1 h2 ⟨rfl, rfl, rfl, by simp, fun j _ hj => heap_setCell_other w ⟨k, i, none⟩ j _ (fun e => hj (by simp [e]))⟩
end Go.Proofs.Ytlpaemlgmmmbmaa
