/-
  append where the operation bears a guard that says yes. No program in sight.
-/
import Derived.Test.YtaajgdhoffhdcaaWords
namespace Go.Proofs.Ytaajgdhoffhdcaa
open Go.RowKit
section
variable {P : Program} {w : World} {ops : Array Oper} {rest : List Oper} {o : Oper} {a : Act} {Q : Exit → Act → World → Prop}
theorem wpList_pushAllG (hgd : Region.wanted o (yielded ops a.tmps) = true) (s x : Operand) (t : TypeId)
    (ho : o.op = .call { callee := .builtin .append, args := #[s, x], argTypes := #[t, t] })
    (base : Nat) (e : TypeId) (z : Value) (size bytes : Nat) (ht : P.underlying t = some (.slice e))
    (hi : (P.info? e).map (fun i => (i.zero, i.size, i.bytes)) = some (some z, size, bytes)) (hzs : z.cells.size = size) (hsz : 0 < size) (hby : bytes ≤ 1024)
    (v : Value) (n : Nat) (xs : List Value) (hs : a.eval s = v) (hown : Own w base e size v n xs)
    (A : Option Addr) (m c : Nat) (news : List Value) (hx : a.eval x = .slice A m c) (hr : Rs w A news) (hl : news.length = m * size) (h1 : news.all Value.oneCell' = true)
    (hn : n + m ≤ 68719476736) (hbase : base ≤ w.heap.size)
    (h : ∀ v' w', Own w' base e size v' (n + m) (xs ++ news) → w.grownBy w' v.ownBlock → (∀ w0, Old w0 w → w0.heap.size ≤ base → Old w0 w') → wpList P ops Q rest (a.put o.dst v') w') : wpList P ops Q (o :: rest) a w := by
  obtain ⟨i, hii, hz, hsize, hbb⟩ := info_parts hi
  have hb2 : (n + m) * bytes ≤ 68719476736 * 1024 := Nat.mul_le_mul hn hby
  cases A with
  | none =>
    obtain rfl := hr.nil_iff
    obtain rfl : m = 0 := by
      rcases Nat.eq_zero_or_pos m with h0 | h0
      · exact h0
      · have := Nat.mul_pos h0 hsz; simp at hl; omega
    refine BigFrame.wpList_want hgd fun K hK => ?_
    have hrun := run_append_nil_src (P := P) (w := w) base t o.type e i size ht hii v n xs hown c
    unfold Oper.wp
    simp [execOp, ho, resolve, invoke, builtin, hs, hx, hrun, Result.andThen]
    exact hK _ _ (h v w (by simpa using hown) (World.grownBy.refl _ _) (fun w0 h0 _ => h0))
  | some ad =>
    refine BigFrame.wpList_want hgd fun K hK => ?_
    refine wp_append_own _ s x t ho base e i z size bytes ht hii hz hsize hbb hzs hsz v n xs hs hown ad m c news hx hl ?_ (by simpa using h1) (by unfold maxLen; omega) (by omega) hbase ?_
    · intro j u hu
      rcases hr with rfl | ⟨b, off, hA, hc⟩
      · simp at hu
      · obtain rfl := Option.some.inj hA
        rw [Addr.add_lit]
        exact hc j u hu
    · intro v' w' h2 h3 _
      exact hK _ _ (h v' w' h2 h3 (fun w0 h0 hb => Own.grown_old h0 hown hb h3))
end
end Go.Proofs.Ytaajgdhoffhdcaa
