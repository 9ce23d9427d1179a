/-
  append of one element: the row stays where it is, or is new.
-/
import Derived.Test.YthadkjgadhbidaaWords
namespace Go.Proofs.Ythadkjgadhbidaa
open Go.RowKit
set_option linter.unusedVariables false

section
variable {P : Program} {w : World} {ops : Array Oper} {rest : List Oper} {o : Oper} {a : Act} {Q : Exit → Act → World → Prop}
theorem run_append_where (base : Nat) (t ty e : TypeId) (i : TypeInfo) (z : Value) (size bytes : Nat) (ht : P.underlying t = some (.slice e)) (hi : P.info? e = some i) (hz : i.zero = some z)
    (hsize : i.size = size) (hby : i.bytes = bytes) (hzs : z.cells.size = size) (hsz : 0 < size)
    (v : Value) (n : Nat) (xs : List Value) (hown : w.ownsRow base e size v n xs)
    (ad : Addr) (m c : Nat) (news : List Value) (hl : news.length = m * size) (hnews : ∀ j u, news[j]? = some u → w.cell? (ad.add j) = some u) (h1 : ∀ u ∈ news, u.oneCell' = true)
    (h63 : n + m ≤ maxLen) (hbytes : (n + m) * bytes ≤ 140737488355328) (hm : 0 < m) (v' : Value) (w' : World) (hrun : (Builtin.append_ #[t, t] ty #[v, .slice (some ad) m c]).run P w = .ok v' w') :
    v'.ownBlock = v.ownBlock ∨ v'.ownBlock = some w.heap.size := by
  subst hsize
  subst hby
  have hsmall : n + m ≤ 9223372036854775807 := by simp only [maxLen] at h63; omega
  rcases hown.2 with ⟨rfl, rfl⟩ | ⟨g, cap, cur, rfl, hbg, hg, hnc, hcm, hcs, htake⟩
  · have hr := run_append_nil (P := P) w t ty e i z ht hi hz ad m c news hl hnews hm (by omega) (by have hb := hbytes; simp only [Nat.zero_add] at hb; omega)
    rw [hr] at hrun
    injection hrun with e1 e2
    subst e1
    exact Or.inr rfl
  · by_cases hroom : n + m ≤ cap
    · have hfit : n * i.size + news.length ≤ cur.size := by rw [hl, hcs, ← Nat.add_mul]; exact Nat.mul_le_mul_right _ hroom
      have hr := run_append_room (P := P) w t ty e i ht hi g n cap cur hg ad m c news hl hnews h1 hroom hfit
      rw [hr] at hrun
      injection hrun with e1 e2
      subst e1
      exact Or.inl rfl
    · have holds : ∀ j u, xs[j]? = some u → w.cell? ((⟨g, 0, none⟩ : Addr).add j) = some u := hown.cells (g := g) rfl
      have hr := run_append_grow (P := P) w t ty e i z ht hi hz ⟨g, 0, none⟩ n cap xs hown.1 holds ad m c news hl hnews (by omega) (by omega) (growslice_fits (by omega) hbytes)
      rw [hr] at hrun
      injection hrun with e1 e2
      subst e1
      exact Or.inr rfl
/-- The row stays, or is new. -/
def Stay (w : World) (v v' : Value) : Prop := v'.ownBlock = v.ownBlock ∨ ∃ k, v'.ownBlock = some k ∧ w.heap.size ≤ k
theorem wpList_pushS {wr : World} (hgd : o.guard = none) (s x : Operand) (t : TypeId)
    (ho : o.op = .call { callee := .builtin .append, args := #[s, x], argTypes := #[t, t] })
    (base : Nat) (e : TypeId) (z : Value) (size bytes : Nat) (ht : P.underlying t = some (.slice e))
    (hi : (P.info? e).map (fun i => (i.zero, i.size, i.bytes)) = some (some z, size, bytes)) (hzs : z.cells.size = size) (hsz : 0 < size) (hby : bytes ≤ 1024)
    (v : Value) (n : Nat) (xs : List Value) (hs : a.eval s = v) (hown : Own wr base e size v n xs)
    (m c : Nat) (news : List Value) (hx : a.eval x = .slice (some ⟨wr.heap.size, 0, none⟩) m c) (hw : w = wr.alloc (.cells news.toArray e)) (hl : news.length = m * size) (h1 : news.all Value.oneCell' = true)
    (hn : n + m ≤ 68719476736) (hbase : base ≤ wr.heap.size) (hm : 0 < m)
    (h : ∀ v' w', Own w' base e size v' (n + m) (xs ++ news) → wr.grownBy w' v.ownBlock → Stay wr v v' → wpList P ops Q rest (a.put o.dst v') w') : wpList P ops Q (o :: rest) a w := by
  subst hw
  obtain ⟨i, hii, hz, hsize, hbb⟩ := info_parts hi
  have hb2 : (n + m) * bytes ≤ 68719476736 * 1024 := Nat.mul_le_mul hn hby
  refine wpList_plain hgd fun K hK => ?_
  obtain ⟨v', w', hr, h2, h3, h4⟩ := run_append_own (P := P) (wr.alloc (.cells news.toArray e)) base t o.type e i z size bytes ht hii hz hsize hbb hzs hsz v n xs (Own.alloc hown _) ⟨wr.heap.size, 0, none⟩ m c news hl (cells_new wr news e) (by simpa using h1)
    (by unfold maxLen; omega) (by omega) (by simp; omega)
  have hwh := run_append_where (P := P) (w := wr.alloc (.cells news.toArray e)) base t o.type e i z size bytes ht hii hz hsize hbb hzs hsz v n xs (Own.alloc hown _) ⟨wr.heap.size, 0, none⟩ m c news hl (cells_new wr news e) (by simpa using h1)
    (by unfold maxLen; omega) (by omega) hm v' w' hr
  have hst : Stay wr v v' := by
    rcases hwh with e1 | e1
    · exact Or.inl e1
    · exact Or.inr ⟨_, e1, by simp⟩
  have hg : wr.grownBy w' v.ownBlock := World.grownBy.trans (World.grownBy_alloc wr _ _) h3
  unfold Oper.wp execOp
  simp only [ho, resolve, invoke, builtin, Sem.run_bind, Sem.run_pure, Result.andThen_ok, List.map_toArray, List.map_cons, List.map_nil, hs, hx, hr]
  exact hK _ _ (h v' w' h2 hg hst)
end
end Go.Proofs.Ythadkjgadhbidaa
