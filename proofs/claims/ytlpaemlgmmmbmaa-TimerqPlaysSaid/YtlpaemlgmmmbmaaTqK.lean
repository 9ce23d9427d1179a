/-
  TimerqLooks: the plain part, and what lies in memory while the two scripts are made.
-/
import Derived.Test.YtlpaemlgmmmbmaaTqD
namespace Go.Proofs.Ytlpaemlgmmmbmaa
open Go.RowKit Go.Maps
set_option linter.unusedVariables false

def isAct (o : TOp) : Bool := !(o.kind == 4)
def lookOp : TOp := ⟨4, 0, 0⟩
def looksOf (x : List TOp) : List TOp := x.flatMap fun o => [lookOp, o]
theorem looksOf_app (a b : List TOp) : looksOf (a ++ b) = looksOf a ++ looksOf b := by simp [looksOf]
theorem looksOf_len (x : List TOp) : (looksOf x).length = 2 * x.length := by
  induction x with
  | nil => rfl
  | cons a x ih => simp [looksOf] at ih ⊢; omega
theorem looksOf_take (x : List TOp) (i : Nat) : (looksOf x).take (2 * i) = looksOf (x.take i) := by
  induction x generalizing i with
  | nil => simp [looksOf]
  | cons a x ih =>
    cases i with
    | zero => simp [looksOf]
    | succ i =>
      have e : looksOf (a :: x) = lookOp :: a :: looksOf x := rfl
      rw [e, show 2 * (i + 1) = 2 * i + 1 + 1 by omega, List.take_succ_cons, List.take_succ_cons, ih]
      rfl
theorem looksOf_take1 {x : List TOp} {i : Nat} (h : i < x.length) : (looksOf x).take (2 * i + 1) = looksOf (x.take i) ++ [lookOp] := by
  induction x generalizing i with
  | nil => simp at h
  | cons a x ih =>
    have e : looksOf (a :: x) = lookOp :: a :: looksOf x := rfl
    cases i with
    | zero => rw [e]; rfl
    | succ i =>
      rw [e, show 2 * (i + 1) + 1 = (2 * i + 1) + 1 + 1 by omega, List.take_succ_cons, List.take_succ_cons, ih (by simpa using h)]
      rfl
theorem looksOf_get {x : List TOp} {i : Nat} {o : TOp} (h : x[i]? = some o) : (looksOf x)[2 * i]? = some lookOp ∧ (looksOf x)[2 * i + 1]? = some o := by
  induction x generalizing i with
  | nil => simp at h
  | cons a x ih =>
    have e : looksOf (a :: x) = lookOp :: a :: looksOf x := rfl
    cases i with
    | zero => simp at h; subst h; exact ⟨rfl, rfl⟩
    | succ i =>
      have := ih (i := i) (by simpa using h)
      rw [e, show 2 * (i + 1) = 2 * i + 1 + 1 by omega, show 2 * i + 1 + 1 + 1 = (2 * i + 1) + 1 + 1 by omega]
      simpa using this
theorem look_state (M : List Tm) (now : Int) : stepM M now lookOp = (M, now, nextM M) := rfl
theorem runM_looks : ∀ (n : Nat) (x : List TOp), x.length = n → (runM (looksOf x)).1 = (runM x).1
  | 0, x, h => by
    have : x = [] := List.eq_nil_of_length_eq_zero h
    subst this; rfl
  | n + 1, x, h => by
    have hne : x ≠ [] := by intro e; subst e; simp at h
    have e := List.dropLast_concat_getLast hne
    rw [← e]
    have hl : x.dropLast.length = n := by simp [h]
    rw [looksOf_app, show looksOf [x.getLast hne] = [lookOp] ++ [x.getLast hne] from rfl, ← List.append_assoc, runM_snoc, runM_snoc, runM_snoc]
    have ih := runM_looks n _ hl
    simp only [nextS, look_state, ih]
/-- What the two runs answer at the i-th operation. -/
theorem looks_at {x : List TOp} {i : Nat} {o : TOp} (h : x[i]? = some o) :
    (runM x).2[i]? = some (stepM (runM (x.take i)).1.1 (runM (x.take i)).1.2 o).2.2 ∧ (runM (looksOf x)).2[2 * i]? = some (nextM (runM (x.take i)).1.1) ∧ (runM (looksOf x)).2[2 * i + 1]? = some (stepM (runM (x.take i)).1.1 (runM (x.take i)).1.2 o).2.2 := by
  have hl := (List.getElem?_eq_some_iff.1 h).1
  obtain ⟨h0, h1⟩ := looksOf_get h
  have a0 := runM_get h0
  have a1 := runM_get h1
  rw [looksOf_take, runM_looks _ _ rfl, look_state] at a0
  rw [looksOf_take1 hl, runM_snoc] at a1
  have e := runM_looks _ (x.take i) rfl
  simp only [nextS, e, look_state] at a1
  exact ⟨runM_get h, a0, a1⟩
theorem runQI : ∀ (n : Nat) (x : List TOp), x.length = n → (∀ o ∈ x, o.ok) → QI (runM x).1.1 ∧ (0 ≤ (runM x).1.2 ∧ (runM x).1.2 < 18446744073709551616)
  | 0, x, h, _ => by
    have : x = [] := List.eq_nil_of_length_eq_zero h
    subst this
    exact ⟨⟨TL.nil_, Heap.nil_⟩, Int.le_refl _, by show (0 : Int) < _; decide⟩
  | n + 1, x, h, hok => by
    have hne : x ≠ [] := by intro e; subst e; simp at h
    have e := List.dropLast_concat_getLast hne
    rw [← e] at hok ⊢
    have hl : x.dropLast.length = n := by simp [h]
    obtain ⟨i1, i2⟩ := runQI n _ hl (fun o ho => hok o (List.mem_append_left _ ho))
    have ho := hok (x.getLast hne) (by simp)
    rw [runM_snoc]
    exact ⟨i1.step _ ho, now_step i2 ho⟩
/-- What fires first is what was named as the first one. -/
theorem looks_first {M : List Tm} {now : Int} {o : TOp} (hq : QI M) (ho : o.kind ≠ 4) (hf : 0 < (stepM M now o).2.2.fired.length) :
    ∃ id t, nextM M = ⟨0, [id], t⟩ ∧ (stepM M now o).2.2.fired[0]? = some id ∧ t ≤ (stepM M now o).2.2.at_ := by
  unfold stepM at hf ⊢
  by_cases h1 : o.kind = 1
  · rw [if_pos h1] at hf; simp at hf
  · rw [if_neg h1] at hf ⊢
    by_cases h2 : o.kind = 2
    · rw [if_pos h2] at hf; simp at hf
    · rw [if_neg h2] at hf ⊢
      by_cases h3 : o.kind = 3
      · rw [if_pos h3] at hf ⊢
        obtain ⟨a1, _, _⟩ := fireM_get M.length M (max now o.at_) hq (Nat.le_refl _)
        obtain ⟨_, k2, k3, k4⟩ := a1 0 hf
        refine ⟨(gt M 0).2, (gt M 0).1, ?_, k4, k3⟩
        unfold nextM
        have k2' : 0 < M.length := k2
        rw [if_neg (by omega)]
      · rw [if_neg h3, if_neg ho] at hf
        simp at hf

theorem run_slice_midS {P : Program} {t : TypeId} {sz : Nat} (ht : P.underlying t = some (.slice (P.elem t))) (hs : ∀ w : World, (sizeOf (P.elem t)).run P w = .ok sz w) (b off len c lo m : Nat) (L H : Int) (hL : L = (lo : Int)) (hH : H = ((lo + m : Nat) : Int)) (h : lo + m ≤ c) (hm : 0 < m) (w : World) :
    (Instr.slice t (.slice (some ⟨b, off, none⟩) len c) (some (.int .i64 L)) (some (.int .i64 H)) none).run P w = .ok (.slice (some ⟨b, off + lo * sz, none⟩) m (c - lo)) w := by
  subst hL; subst hH
  rw [run_slice_lh (P := P) w t (some ⟨b, off, none⟩) len c ht .i64 .i64 (lo : Int) ((lo + m : Nat) : Int) (by omega) (by omega) (by omega), hs]
  simp only [Result.andThen, sliced, Int.toNat_natCast, Option.map_some, Addr.add_lit]
  rw [show lo + m - lo = m by omega, if_neg (by omega)]
/-- One reply out of a list, read where it lies. -/
theorem rep_one {w : World} {b off i fc : Nat} {cs : List Value} {r : Rep} {F : Option Addr} (hcl : ∀ j u, cs[j]? = some u → w.cell? ⟨b, off + j, none⟩ = some u) (x0 : cs[i * 3]? = some (.int .i64 r.code)) (x1 : cs[i * 3 + 1]? = some (.slice F r.fired.length fc)) (x2 : cs[i * 3 + 2]? = some (.int .u64 r.at_)) (x3 : Rs w F (intv r.fired)) (x4 : r.fired.length ≤ fc) (x5 : fc ≤ maxLen) :
    Rs w (some ⟨b, off + i * 3, none⟩) [.int .i64 r.code, .slice F r.fired.length fc, .int .u64 r.at_] ∧ RepS w [r] [.int .i64 r.code, .slice F r.fired.length fc, .int .u64 r.at_] := by
  refine ⟨Or.inr ⟨_, _, rfl, fun j u hj => ?_⟩, rfl, fun k r' hr => ?_⟩
  · rcases j with _ | _ | _ | j
    · simp at hj; subst hj; exact hcl _ _ x0
    · simp at hj; subst hj; have := hcl _ _ x1; rwa [← Nat.add_assoc] at this
    · simp at hj; subst hj; have := hcl _ _ x2; rwa [← Nat.add_assoc] at this
    · simp at hj
  · rcases k with _ | k
    · simp at hr; subst hr
      exact ⟨F, fc, rfl, rfl, rfl, x3, x4, x5⟩
    · simp at hr
/-! while the scripts are made -/
def opCells (o : TOp) : Array Value := #[.int .i64 o.kind, .int .i64 o.id, .int .u64 o.at_]
/-- A block that neither row lies in. -/
def Free (w : World) (k : Nat) (cs : Array Value) (u v : Value) : Prop := w.heap[k]? = some (.cells cs 66 (0, 0)) ∧ u.ownBlock ≠ some k ∧ v.ownBlock ≠ some k
structure LF (w2 : World) (kb kp kl : Nat) (bp bl : Bool) (o : TOp) (vP : Value) (X : List TOp) (vL : Value) (Y : List TOp) (w : World) : Prop where
  old : Old w2 w
  P : Own w w2.heap.size 66 3 vP X.length (opv X)
  L : Own w w2.heap.size 66 3 vL Y.length (opv Y)
  ap : ApartV vP vL
  box : Free w kb (opCells o) vP vL
  p : bp = true → Free w kp (opCells o) vP vL
  l : bl = true → Free w kl (opCells lookOp ++ opCells o) vP vL
section
variable {w2 w w' : World} {kb kp kl : Nat} {bp bl : Bool} {o : TOp} {vP vL : Value} {X Y : List TOp}
theorem Free.up {k : Nat} {cs : Array Value} {u v : Value} (h : Free w k cs u v) (ho : Old w w') : Free w' k cs u v := ⟨ho.block h.1, h.2⟩
theorem LF.up (h : LF w2 kb kp kl bp bl o vP X vL Y w) (ho : Old w w') : LF w2 kb kp kl bp bl o vP X vL Y w' :=
  ⟨h.old.up ho, h.P.up ho, h.L.up ho, h.ap, h.box.up ho, fun hb => (h.p hb).up ho, fun hb => (h.l hb).up ho⟩
theorem fresh_ne {base size n : Nat} {e : TypeId} {v : Value} {xs : List Value} (h : Own w base e size v n xs) : v.ownBlock ≠ some w.heap.size := by
  intro e
  have := (World.ownsRow.lt h _ e).2
  omega
theorem LF.allocP (h : LF w2 kb kp kl bp bl o vP X vL Y w) : LF w2 kb w.heap.size kl true bl o vP X vL Y (w.alloc (.cells (opCells o) 66)) := by
  have hu := h.up ((Old.refl w).alloc (.cells (opCells o) 66))
  exact ⟨hu.old, hu.P, hu.L, hu.ap, hu.box, fun _ => ⟨heap_alloc_new w _, fresh_ne h.P, fresh_ne h.L⟩, hu.l⟩
theorem LF.allocL (h : LF w2 kb kp kl bp bl o vP X vL Y w) : LF w2 kb kp w.heap.size bp true o vP X vL Y (w.alloc (.cells (opCells lookOp ++ opCells o) 66)) := by
  have hu := h.up ((Old.refl w).alloc (.cells (opCells lookOp ++ opCells o) 66))
  exact ⟨hu.old, hu.P, hu.L, hu.ap, hu.box, hu.p, fun _ => ⟨heap_alloc_new w _, fresh_ne h.P, fresh_ne h.L⟩⟩
theorem Free.grown {k : Nat} {cs : Array Value} {u v u' : Value} (h : Free w k cs u v) (hg : w.grownBy w' u.ownBlock) (hw : u'.ownBlock = u.ownBlock ∨ ∃ j, u'.ownBlock = some j ∧ w.heap.size ≤ j) : Free w' k cs u' v := by
  have hl := lt_of_block h.1
  refine ⟨(hg.block k hl (fun e => h.2.1 e.symm)).trans h.1, ?_, h.2.2⟩
  rcases hw with hw | ⟨j, hj, hs⟩
  · rw [hw]; exact h.2.1
  · rw [hj]; intro e; injection e with e; omega
theorem Free.swap {k : Nat} {cs : Array Value} {u v : Value} (h : Free w k cs u v) : Free w k cs v u := ⟨h.1, h.2.2, h.2.1⟩
theorem ApartV.swap {u v : Value} (h : ApartV u v) : ApartV v u := fun j k hj hk e => h k j hk hj e.symm
theorem LF.pushP (h : LF w2 kb kp kl bp bl o vP X vL Y w) {v' : Value} {X' : List TOp} (ho : Own w' w2.heap.size 66 3 v' X'.length (opv X')) (hg : w.grownBy w' vP.ownBlock) (hw : v'.ownBlock = vP.ownBlock ∨ ∃ j, v'.ownBlock = some j ∧ w.heap.size ≤ j) :
    LF w2 kb kp kl bp bl o v' X' vL Y w' :=
  ⟨Own.grown_old h.old h.P (Nat.le_refl _) hg, ho, h.L.other h.P h.ap hg, h.ap.push h.L hw, h.box.grown hg hw, fun hb => (h.p hb).grown hg hw, fun hb => (h.l hb).grown hg hw⟩
theorem LF.pushL (h : LF w2 kb kp kl bp bl o vP X vL Y w) {v' : Value} {Y' : List TOp} (ho : Own w' w2.heap.size 66 3 v' Y'.length (opv Y')) (hg : w.grownBy w' vL.ownBlock) (hw : v'.ownBlock = vL.ownBlock ∨ ∃ j, v'.ownBlock = some j ∧ w.heap.size ≤ j) :
    LF w2 kb kp kl bp bl o vP X v' Y' w' :=
  ⟨Own.grown_old h.old h.L (Nat.le_refl _) hg, h.P.other h.L h.ap.swap hg, ho, (h.ap.swap.push h.P hw).swap, (h.box.swap.grown hg hw).swap, fun hb => ((h.p hb).swap.grown hg hw).swap, fun hb => ((h.l hb).swap.grown hg hw).swap⟩
end

section
variable {P : Program} {ops : Array Oper} {o : Oper} {a : Act} {K : Act → World → Prop} {Q : Exit → Act → World → Prop} {E : Prop}
/-- append at a step of a region that draws; and where the new row lies. -/
theorem step_pushW (w : World) (hgd : o.guard = none) (s x : Operand) (t : TypeId)
    (ho : o.op = .call { callee := .builtin .append, args := #[s, x], argTypes := #[t, t] })
    (base : Nat) (e : TypeId) (z : Value) (size bytes : Nat) (ht : P.underlying t = some (.slice e))
    (hi : (P.info? e).map (fun i => (i.zero, i.size, i.bytes)) = some (some z, size, bytes)) (hzs : z.cells.size = size) (hsz : 0 < size) (hby : bytes ≤ 1024)
    (v : Value) (n : Nat) (xs : List Value) (hs : a.eval s = v) (hown : Own w base e size v n xs)
    (k m c : Nat) (cs : Array Value) (fz : Nat × Nat) (hx : a.eval x = .slice (some ⟨k, 0, none⟩) m c) (hk : w.heap[k]? = some (.cells cs e fz)) (hl : cs.toList.length = m * size) (h1 : cs.toList.all Value.oneCell' = true)
    (hn : n + m ≤ 68719476736) (hbase : base ≤ w.heap.size)
    (h : ∀ v' w', Own w' base e size v' (n + m) (xs ++ cs.toList) → w.grownBy w' v.ownBlock → (v'.ownBlock = v.ownBlock ∨ ∃ j, v'.ownBlock = some j ∧ w.heap.size ≤ j) → K (a.put o.dst v') w') :
    if Region.wanted o (yielded ops a.tmps) = true then Oper.wp P o a w K Q else E := by
  have hw : Region.wanted o (yielded ops a.tmps) = true := by simp [Region.wanted, hgd]
  rw [if_pos hw]
  obtain ⟨i, hii, hz, hsize, hbb⟩ := info_parts hi
  have hb2 : (n + m) * bytes ≤ 68719476736 * 1024 := Nat.mul_le_mul hn hby
  obtain ⟨v', w', hr, h2, h3, _, h5⟩ := run_append_own_at (P := P) w base t o.type e i z size bytes ht hii hz hsize hbb hzs hsz v n xs hown ⟨k, 0, none⟩ m c cs.toList hl (World.news_of_block hk) (fun u hu => List.all_eq_true.1 h1 u hu)
    (by unfold maxLen; omega) (by omega) hbase
  unfold Oper.wp
  simp only [execOp, ho, resolve, invoke, builtin, Sem.run_bind, Sem.run_pure, Result.andThen_ok, List.map_toArray, List.map_cons, List.map_nil, hs, hx, hr]
  refine h v' w' h2 h3 ?_
  rcases h5 with h5 | h5
  · exact Or.inl h5
  · exact Or.inr ⟨_, h5, Nat.le_refl _⟩
end
end Go.Proofs.Ytlpaemlgmmmbmaa
