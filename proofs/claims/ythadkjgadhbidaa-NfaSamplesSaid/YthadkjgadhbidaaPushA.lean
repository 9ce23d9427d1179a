/-
  append of all of a slice: the row stays where it is, or is new.
-/
import Derived.Test.YthadkjgadhbidaaPush
namespace Go.Proofs.Ythadkjgadhbidaa
open Go.RowKit
set_option linter.unusedVariables false

section
variable {P : Program} {w : World} {ops : Array Oper} {rest : List Oper} {o : Oper} {a : Act} {Q : Exit → Act → World → Prop}
theorem wpList_pushAllS (hgd : o.guard = none) (s x : Operand) (t : TypeId)
    (ho : o.op = .call { callee := .builtin .append, args := #[s, x], argTypes := #[t, t] })
    (base : Nat) (e : TypeId) (z : Value) (size bytes : Nat) (ht : P.underlying t = some (.slice e))
    (hi : (P.info? e).map (fun i => (i.zero, i.size, i.bytes)) = some (some z, size, bytes)) (hzs : z.cells.size = size) (hsz : 0 < size) (hby : bytes ≤ 1024)
    (v : Value) (n : Nat) (xs : List Value) (hs : a.eval s = v) (hown : Own w base e size v n xs)
    (A : Option Addr) (m c : Nat) (news : List Value) (hx : a.eval x = .slice A m c) (hr : Rs w A news) (hl : news.length = m * size) (h1 : news.all Value.oneCell' = true)
    (hn : n + m ≤ 68719476736) (hbase : base ≤ w.heap.size) (hm : A = none ∨ 0 < m)
    (h : ∀ v' w', Own w' base e size v' (n + m) (xs ++ news) → w.grownBy w' v.ownBlock → Stay w v v' → wpList P ops Q rest (a.put o.dst v') w') : wpList P ops Q (o :: rest) a w := by
  obtain ⟨i, hii, hz, hsize, hbb⟩ := info_parts hi
  have hb2 : (n + m) * bytes ≤ 68719476736 * 1024 := Nat.mul_le_mul hn hby
  cases A with
  | none =>
    obtain rfl := hr.nil_iff
    obtain rfl : m = 0 := by
      rcases Nat.eq_zero_or_pos m with h0 | h0
      · exact h0
      · have := Nat.mul_pos h0 hsz; simp at hl; omega
    refine wpList_plain hgd fun K hK => ?_
    have hrun := run_append_nil_src (P := P) (w := w) base t o.type e i size ht hii v n xs hown c
    unfold Oper.wp
    simp [execOp, ho, resolve, invoke, builtin, hs, hx, hrun, Result.andThen]
    exact hK _ _ (h v w (by simpa using hown) (World.grownBy.refl _ _) (Or.inl rfl))
  | some ad =>
    have hm' : 0 < m := by rcases hm with h0 | h0; cases h0; exact h0
    have hcell : ∀ j u, news[j]? = some u → w.cell? (ad.add j) = some u := by
      intro j u hu
      rcases hr with rfl | ⟨b, off, hA, hc⟩
      · simp at hu
      · injection hA with hA
        subst hA
        rw [Addr.add_lit]
        exact hc j u hu
    refine wpList_plain hgd fun K hK => ?_
    obtain ⟨v', w', hr', h2, h3, h4⟩ := run_append_own (P := P) w base t o.type e i z size bytes ht hii hz hsize hbb hzs hsz v n xs hown ad m c news hl hcell (by simpa using h1)
      (by unfold maxLen; omega) (by omega) hbase
    have hwh := run_append_where (P := P) (w := w) base t o.type e i z size bytes ht hii hz hsize hbb hzs hsz v n xs hown ad m c news hl hcell (by simpa using h1)
      (by unfold maxLen; omega) (by omega) hm' v' w' hr'
    have hst : Stay w v v' := by
      rcases hwh with e1 | e1
      · exact Or.inl e1
      · exact Or.inr ⟨_, e1, Nat.le_refl _⟩
    unfold Oper.wp execOp
    simp only [ho, resolve, invoke, builtin, Sem.run_bind, Sem.run_pure, Result.andThen_ok, List.map_toArray, List.map_cons, List.map_nil, hs, hx, hr']
    exact hK _ _ (h v' w' h2 h3 hst)
end
end Go.Proofs.Ythadkjgadhbidaa
