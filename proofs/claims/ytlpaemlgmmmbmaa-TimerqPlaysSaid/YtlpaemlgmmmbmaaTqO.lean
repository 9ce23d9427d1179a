/-
  TimerqOnce: the plain part, and its walk.
-/
import Derived.Test.YtlpaemlgmmmbmaaTqC
import Derived.Test.YtlpaemlgmmmbmaaTqN
import Derived.BigRegion
namespace Go.Proofs.Ytlpaemlgmmmbmaa
open Go.RowKit Go.Maps
set_option linter.unusedVariables false

theorem kindOf_bd {x : Int} (h0 : 0 ≤ x) (h1 : x < 6) : 1 ≤ kindOf x ∧ kindOf x ≤ 4 := by
  have : x = 0 ∨ x = 1 ∨ x = 2 ∨ x = 3 ∨ x = 4 ∨ x = 5 := by omega
  rcases this with rfl | rfl | rfl | rfl | rfl | rfl <;> decide
def MOp (o : TOp) : Prop := (1 ≤ o.kind ∧ o.kind ≤ 4) ∧ (0 ≤ o.id ∧ o.id ≤ 8) ∧ 0 ≤ o.at_ ∧ o.at_ < 40
theorem madeM_ok : ∀ (f : Nat) (l : List Int), ∀ o ∈ madeM f l, MOp o
  | 0, l, o, h => by simp [madeM] at h
  | f + 1, l, o, h => by
    rw [madeM] at h
    split at h
    · simp at h
    · rcases List.mem_cons.1 h with rfl | h
      · have a := nx_bd l (show (1 : Int) ≤ 6 by decide)
        have b := nx_bd (nx l 6).2 (show (1 : Int) ≤ 9 by decide)
        have c := nx_bd (nx (nx l 6).2 9).2 (show (1 : Int) ≤ 40 by decide)
        exact ⟨kindOf_bd a.1 a.2, ⟨b.1, by show (nx (nx l 6).2 9).1 ≤ 8; omega⟩, c⟩
      · exact madeM_ok f _ o h
theorem madeM_len : ∀ (f : Nat) (l : List Int), (madeM f l).length ≤ f
  | 0, l => by simp [madeM]
  | f + 1, l => by
    rw [madeM]
    split
    · simp
    · have := madeM_len f (nx (nx (nx l 6).2 9).2 40).2
      simp; omega
theorem MOp.ok {o : TOp} (h : MOp o) : o.ok := by
  obtain ⟨h1, h2, h3⟩ := h
  exact ⟨⟨by omega, by omega⟩, ⟨by omega, by omega⟩, by omega, by omega⟩

structure InvA (M : List Tm) (at_ : List Int) (st : List Bool) : Prop where
  la : at_.length = 9
  ls : st.length = 9
  qi : QI M
  val : ∀ p ∈ M, 0 ≤ p.2 ∧ p.2 ≤ 8 ∧ at_.getD p.2.toNat 0 = p.1
  mem : ∀ i, i < 9 → st.getD i false = decide ((i : Int) ∈ M.map (·.2))
theorem InvA.len {M : List Tm} {a : List Int} {s : List Bool} (h : InvA M a s) : M.length ≤ 9 := by
  have := nodup_length 9 (M.map (·.2)) h.qi.1.2.1 (fun x hx => by
    obtain ⟨p, hp, rfl⟩ := List.mem_map.1 hx
    have := h.val p hp
    omega)
  simpa using this
theorem InvA.set_ {M : List Tm} {a : List Int} {s : List Bool} (h : InvA M a s) {id t : Int} (hid : 0 ≤ id ∧ id ≤ 8) (ht : 0 ≤ t ∧ t < 18446744073709551616) :
    InvA (setM M id t).2 (a.set id.toNat t) (s.set id.toNat true) := by
  obtain ⟨h1, h2⟩ := setM_mem h.qi hid.1 ht (by omega) (fun _ => by have := h.len; omega)
  refine ⟨by rw [List.length_set]; exact h.la, by rw [List.length_set]; exact h.ls, h.qi.set_ ht (by omega), fun p hp => ?_, fun i hi => ?_⟩
  · rcases (h2 p).1 hp with rfl | ⟨hp, hne⟩
    · refine ⟨hid.1, hid.2, ?_⟩
      rw [List.getD_eq_getElem?_getD, List.getElem?_set, if_pos rfl, if_pos (by rw [h.la]; omega)]; rfl
    · obtain ⟨k1, k2, k3⟩ := h.val p hp
      refine ⟨k1, k2, ?_⟩
      rw [List.getD_eq_getElem?_getD, List.getElem?_set_ne (by omega), ← List.getD_eq_getElem?_getD]; exact k3
  · rw [List.getD_eq_getElem?_getD, List.getElem?_set]
    split
    · rename_i e
      rw [if_pos (by rw [h.ls]; omega)]
      symm
      show decide _ = true
      exact decide_eq_true (List.mem_map.2 ⟨(t, id), (h2 _).2 (Or.inl rfl), by simp only; omega⟩)
    · rename_i e
      rw [← List.getD_eq_getElem?_getD, h.mem i hi]
      refine decide_eq_decide.2 ⟨?_, ?_⟩
      · intro hm
        obtain ⟨p, hp, hpi⟩ := List.mem_map.1 hm
        exact List.mem_map.2 ⟨p, (h2 p).2 (Or.inr ⟨hp, by omega⟩), hpi⟩
      · intro hm
        obtain ⟨p, hp, hpi⟩ := List.mem_map.1 hm
        rcases (h2 p).1 hp with rfl | ⟨hp, _⟩
        · simp only at hpi; omega
        · exact List.mem_map.2 ⟨p, hp, hpi⟩
theorem InvA.drop {M M' : List Tm} {a : List Int} {s : List Bool} (h : InvA M a s) {id : Int} (hid : 0 ≤ id ∧ id ≤ 8) (hq : QI M') (hm : ∀ p, p ∈ M' ↔ p ∈ M ∧ p.2 ≠ id) : InvA M' a (s.set id.toNat false) := by
  refine ⟨h.la, by rw [List.length_set]; exact h.ls, hq, fun p hp => h.val p ((hm p).1 hp).1, fun i hi => ?_⟩
  rw [List.getD_eq_getElem?_getD, List.getElem?_set]
  split
  · rename_i e
    rw [if_pos (by rw [h.ls]; omega)]
    symm
    show decide _ = false
    refine decide_eq_false (fun hmm => ?_)
    obtain ⟨p, hp, hpi⟩ := List.mem_map.1 hmm
    have := ((hm p).1 hp).2
    omega
  · rename_i e
    rw [← List.getD_eq_getElem?_getD, h.mem i hi]
    refine decide_eq_decide.2 ⟨?_, ?_⟩
    · intro hmm
      obtain ⟨p, hp, hpi⟩ := List.mem_map.1 hmm
      exact List.mem_map.2 ⟨p, (hm p).2 ⟨hp, by omega⟩, hpi⟩
    · intro hmm
      obtain ⟨p, hp, hpi⟩ := List.mem_map.1 hmm
      exact List.mem_map.2 ⟨p, ((hm p).1 hp).1, hpi⟩
theorem InvA.cancel {M : List Tm} {a : List Int} {s : List Bool} (h : InvA M a s) {id : Int} (hid : 0 ≤ id ∧ id ≤ 8) :
    decide ((cancelM M id).1 = 0) = s.getD id.toNat false ∧ InvA (cancelM M id).2 a (s.set id.toNat false) := by
  obtain ⟨h1, h2⟩ := cancelM_mem h.qi id
  refine ⟨?_, h.drop hid (h.qi.cancel id) h2⟩
  rw [h.mem id.toNat (by omega), h1, show ((id.toNat : Nat) : Int) = id by omega]
  split
  · rename_i hm; rw [decide_eq_true hm]; rfl
  · rename_i hm; rw [decide_eq_false hm]; rfl
theorem InvA.pop {M : List Tm} {a : List Int} {s : List Bool} (h : InvA M a s) (h0 : 0 < M.length) :
    (0 ≤ (gt M 0).2 ∧ (gt M 0).2 ≤ 8) ∧ a.getD (gt M 0).2.toNat 0 = (gt M 0).1 ∧ s.getD (gt M 0).2.toNat false = true ∧ InvA (popM M) a (s.set (gt M 0).2.toNat false) := by
  have hm := gt_mem h0
  obtain ⟨k1, k2, k3⟩ := h.val _ hm
  refine ⟨⟨k1, k2⟩, k3, ?_, h.drop ⟨k1, k2⟩ (h.qi.pop h0) (popM_mem h.qi h0)⟩
  rw [h.mem _ (by omega), show (((gt M 0).2.toNat : Nat) : Int) = (gt M 0).2 by omega]
  exact decide_eq_true (List.mem_map.2 ⟨_, hm, rfl⟩)
theorem InvA.nil_ : InvA [] (List.replicate 9 0) (List.replicate 9 false) :=
  ⟨rfl, rfl, ⟨TL.nil_, Heap.nil_⟩, fun p hp => by simp at hp, fun i hi => by
    rw [List.getD_eq_getElem?_getD, List.getElem?_replicate, if_pos hi]; rfl⟩

def u64v (l : List Int) : List Value := l.map (Value.int .u64)
def boov (l : List Bool) : List Value := l.map Value.bool
theorem u64v_get (l : List Int) (i : Nat) (h : i < l.length) : (u64v l)[i]? = some (.int .u64 (l.getD i 0)) := by
  simp [u64v, List.getElem?_map, List.getElem?_eq_getElem h, List.getD_eq_getElem?_getD]
theorem boov_get (l : List Bool) (i : Nat) (h : i < l.length) : (boov l)[i]? = some (.bool (l.getD i false)) := by
  simp [boov, List.getElem?_map, List.getElem?_eq_getElem h, List.getD_eq_getElem?_getD]
theorem u64v_set (l : List Int) (i : Nat) (x : Int) : u64v (l.set i x) = (u64v l).set i (.int .u64 x) := by simp [u64v, List.map_set]
theorem boov_set (l : List Bool) (i : Nat) (x : Bool) : boov (l.set i x) = (boov l).set i (.bool x) := by simp [boov, List.map_set]

theorem foldS : ∀ (b : List TOp) (s : (List Tm × Int) × List Rep), b.foldl nextS s = ((b.foldl nextS (s.1, [])).1, s.2 ++ (b.foldl nextS (s.1, [])).2)
  | [], s => by simp
  | o :: b, s => by
    simp only [List.foldl_cons]
    rw [foldS b (nextS s o), foldS b (nextS (s.1, []) o)]
    simp [nextS]
theorem runM_len (x : List TOp) : (runM x).2.length = x.length := by
  have : ∀ (b : List TOp) (s : (List Tm × Int) × List Rep), (b.foldl nextS s).2.length = s.2.length + b.length := by
    intro b
    induction b with
    | nil => intro s; rfl
    | cons o b ih =>
      intro s
      simp only [List.foldl_cons, List.length_cons]
      rw [ih]
      simp [nextS]; omega
  have := this x (([], 0), [])
  simpa [runM] using this
theorem runM_app (a b : List TOp) : runM (a ++ b) = ((b.foldl nextS ((runM a).1, [])).1, (runM a).2 ++ (b.foldl nextS ((runM a).1, [])).2) := by
  have := foldS b (runM a)
  rw [← this]
  simp [runM, List.foldl_append]
theorem runM_get {x : List TOp} {k : Nat} {o : TOp} (h : x[k]? = some o) : (runM x).2[k]? = some (stepM (runM (x.take k)).1.1 (runM (x.take k)).1.2 o).2.2 := by
  have hl := (List.getElem?_eq_some_iff.1 h).1
  have h1 : runM x = runM (x.take k ++ x.drop k) := by rw [List.take_append_drop]
  rw [h1, runM_app, List.getElem?_append_right (by rw [runM_len, List.length_take]; omega), runM_len, List.length_take, Nat.min_eq_left (by omega), Nat.sub_self]
  rw [List.drop_eq_getElem_cons hl, (List.getElem?_eq_some_iff.1 h).2, List.foldl_cons, foldS]
  simp [nextS]

/-- What lies in memory. -/
structure OM (w wr : World) (B ga gs : Nat) (a : List Int) (s : List Bool) (Ax : Option Addr) (x : List TOp) (vo : Value) (n : Nat) (cells : List Value) (reps : List Rep) : Prop where
  A : Own wr B 45 1 (.slice (some ⟨ga, 0, none⟩) 9 9) 9 (u64v a)
  S : Own wr B 4 1 (.slice (some ⟨gs, 0, none⟩) 9 9) 9 (boov s)
  O : Own wr B 71 3 vo n cells
  R : RepL wr B reps cells
  X : Ts wr 66 Ax (opv x)
  old : Old w wr
section
variable {w wr w' : World} {B ga gs n : Nat} {a : List Int} {s : List Bool} {Ax : Option Addr} {x : List TOp} {vo : Value} {cells : List Value} {reps : List Rep}
theorem OM.up (h : OM w wr B ga gs a s Ax x vo n cells reps) (ho : Old wr w') : OM w w' B ga gs a s Ax x vo n cells reps :=
  ⟨h.A.up ho, h.S.up ho, h.O.up ho, h.R.keep (fun _ _ _ k => k.up ho), h.X.up ho, h.old.up ho⟩
theorem Ts.keptBut {e : TypeId} {A : Option Addr} {xs : List Value} (h : Ts w e A xs) {k : Nat} (hg : w.grownBy w' (some k)) {o : Obj} (hk : w.heap[k]? = some o) (hne : ∀ c fz, o ≠ .cells c e fz) : Ts w' e A xs := by
  rcases h with rfl | ⟨b, off, cur, fz, hA, hh, hc⟩
  · exact Ts.nil_
  · refine Or.inr ⟨b, off, cur, fz, hA, (hg.block b (lt_of_block hh) ?_).trans hh, hc⟩
    intro e
    injection e with e
    subst e
    rw [hk] at hh
    injection hh with hh
    exact hne _ _ hh
theorem OM.setA (h : OM w wr B ga gs a s Ax x vo n cells reps) (hB : w.heap.size ≤ B) (i : Nat) (v : Int) : OM w (wr.setCell ⟨ga, i, none⟩ (.int .u64 v)) B ga gs (a.set i v) s Ax x vo n cells reps := by
  obtain ⟨o1, g1⟩ := h.A.set_ i (.int .u64 v)
  obtain ⟨cur, hc⟩ := h.A.heap_
  have hlt := h.A.form (by decide)
  obtain ⟨g', c', e1, hg', _⟩ := hlt
  injection e1 with e1; injection e1 with e1; injection e1 with e1; subst e1
  refine ⟨by rw [u64v_set]; exact o1, h.S.keptBut g1 hc ?_, h.O.keptBut g1 hc ?_, h.R.keep (fun _ _ _ k => k.keptBut g1 hc ?_), h.X.keptBut g1 hc ?_, Below.grown h.old g1 h.old.size (by intro k hk; injection hk with hk; omega)⟩ <;> (intro c fz e; injection e with _ e; exact absurd e (by decide))
theorem OM.setS (h : OM w wr B ga gs a s Ax x vo n cells reps) (hB : w.heap.size ≤ B) (i : Nat) (v : Bool) : OM w (wr.setCell ⟨gs, i, none⟩ (.bool v)) B ga gs a (s.set i v) Ax x vo n cells reps := by
  obtain ⟨o1, g1⟩ := h.S.set_ i (.bool v)
  obtain ⟨cur, hc⟩ := h.S.heap_
  obtain ⟨g', c', e1, hg', _⟩ := h.S.form (by decide)
  injection e1 with e1; injection e1 with e1; injection e1 with e1; subst e1
  refine ⟨h.A.keptBut g1 hc ?_, by rw [boov_set]; exact o1, h.O.keptBut g1 hc ?_, h.R.keep (fun _ _ _ k => k.keptBut g1 hc ?_), h.X.keptBut g1 hc ?_, Below.grown h.old g1 h.old.size (by intro k hk; injection hk with hk; omega)⟩ <;> (intro c fz e; injection e with _ e; exact absurd e (by decide))
theorem OM.ne (h : OM w wr B ga gs a s Ax x vo n cells reps) : ga ≠ gs := by
  obtain ⟨c1, h1⟩ := h.A.heap_
  obtain ⟨c2, h2⟩ := h.S.heap_
  intro e
  subst e
  rw [h1] at h2
  injection h2 with h2
  injection h2 with _ h2
  exact absurd h2 (by decide)
theorem OM.at_A (h : OM w wr B ga gs a s Ax x vo n cells reps) (hl : a.length = 9) {i : Nat} (hi : i < 9) : wr.cell? ⟨ga, i, none⟩ = some (.int .u64 (a.getD i 0)) ∧ wr.frozen? ⟨ga, i, none⟩ = false := h.A.cellAt (u64v_get a i (by omega))
theorem OM.at_S (h : OM w wr B ga gs a s Ax x vo n cells reps) (hl : s.length = 9) {i : Nat} (hi : i < 9) : wr.cell? ⟨gs, i, none⟩ = some (.bool (s.getD i false)) ∧ wr.frozen? ⟨gs, i, none⟩ = false := h.S.cellAt (boov_get s i (by omega))
end

def OnceRel (w : World) (l : List Int) (ga gs : Nat) (Ax : Option Addr) (x : List TOp) (vo : Value) (cells : List Value) (now ix : Value) (wr : World) : Prop :=
  ∃ (k : Nat) (a : List Int) (s : List Bool), ix = .int .i64 k ∧ k ≤ x.length ∧ now = .int .u64 (runM (x.take k)).1.2 ∧ Hid (InvA (runM (x.take k)).1.1 a s) ∧ Hid (OM w wr w.heap.size ga gs a s Ax x vo x.length cells (runM x).2)

theorem RepL.rsAt {w : World} {base : Nat} {rs : List Rep} {cs : List Value} (h : RepL w base rs cs) {k n c : Nat} {r : Rep} {F : Option Addr} (hr : rs[k]? = some r) (hc : cs[k * 3 + 1]? = some (.slice F n c)) : Rs w F (intv r.fired) := by
  obtain ⟨A, d, _, h1, _, h3, _⟩ := h.repS.2 k r hr
  rw [h1] at hc
  injection hc with hc
  injection hc with hc
  subst hc
  exact h3
theorem popN_sub : ∀ (k : Nat) {M : List Tm}, QI M → k ≤ M.length → ∀ p, p ∈ popN k M → p ∈ M
  | 0, M, _, _, p, h => h
  | k + 1, M, h, hk, p, hp => by
    have s4 := (popM_spec M h.2 (by omega)).2.2.2
    exact ((popM_mem h (by omega) p).1 (popN_sub k (h.pop (by omega)) (by omega) p hp)).1
theorem popN_len : ∀ (k : Nat) {M : List Tm}, QI M → k ≤ M.length → (popN k M).length = M.length - k
  | 0, M, _, _ => rfl
  | k + 1, M, h, hk => by
    have s4 := (popM_spec M h.2 (by omega)).2.2.2
    rw [popN, popN_len k (h.pop (by omega)) (by omega), s4]; omega
theorem fireM_len : ∀ (f : Nat) (L : List Tm) (c : Int), QI L → (fireM f L c).1.length ≤ L.length
  | 0, L, c, _ => by simp [fireM]
  | f + 1, L, c, h => by
    rw [fireM]
    split
    · rename_i hh
      have := fireM_len f (popM L) c (h.pop hh.1)
      have s4 := (popM_spec L h.2 hh.1).2.2.2
      simp; omega
    · simp
/-- The timers that fire one after the other. -/
theorem two_fired {M : List Tm} {a : List Int} {s : List Bool} (h : InvA M a s) {q : Nat} (hq : q + 1 < M.length) (h1 : QI (popN q M)) :
    (0 ≤ (gt (popN q M) 0).2 ∧ (gt (popN q M) 0).2 ≤ 8 ∧ a.getD (gt (popN q M) 0).2.toNat 0 = (gt (popN q M) 0).1) ∧
      ((gt (popN q M) 0).1 < (gt (popN (q + 1) M) 0).1 ∨ ((gt (popN q M) 0).1 = (gt (popN (q + 1) M) 0).1 ∧ (gt (popN q M) 0).2 < (gt (popN (q + 1) M) 0).2)) := by
  have l0 := popN_len q h.qi (by omega)
  have l1 := popN_len (q + 1) h.qi (by omega)
  refine ⟨h.val _ (popN_sub q h.qi (by omega) _ (gt_mem (by omega))), ?_⟩
  have m1 : gt (popN (q + 1) M) 0 ∈ popM (popN q M) := by rw [← popN_succ]; exact gt_mem (by omega)
  obtain ⟨m2, m3⟩ := (popM_mem h1 (by omega) _).1 m1
  have := root_le h1 m2
  rw [le_iff] at this
  omega
theorem left_late {M : List Tm} {a : List Int} {s : List Bool} (h : InvA M a s) {c : Int} (hc : 0 < M.length → c < (gt M 0).1) : ∀ r, r < 9 → s.getD r false = true → c < a.getD r 0 := by
  intro r hr hs
  rw [h.mem r hr] at hs
  obtain ⟨p, hp, hpr⟩ := List.mem_map.1 (of_decide_eq_true hs)
  obtain ⟨_, _, hv⟩ := h.val p hp
  have hl : 0 < M.length := List.length_pos_of_mem hp
  have := root_le h.qi hp
  rw [le_iff] at this
  have := hc hl
  rw [show p.2.toNat = r by omega] at hv
  omega
theorem of_decide_eq {b : Bool} {p : Prop} [Decidable p] (h : decide p = b) : decide p = b := h
set_option maxHeartbeats 2000000 in
set_option maxRecDepth 100000 in
theorem once_ (A : Option Addr) (c : Nat) (l : List Int) (w : World) (hr : Rs w A (ints l)) (hm : l.length ≤ maxLen) :
    Calls Try.prog 10 #[.slice A l.length c] w (BoolOld true w) := by
  have hS := Lib.hid (saneQ w)
  have HR := Lib.hid hr
  clear hr
  go_enter Try.func10, Try.ntmps10
  go_wp2_with fail
  refine hS.out.mono ?_
  rintro e w1 ⟨rfl, o1⟩
  have hM := madeQ A c l w1 (HR.out.up o1) hm
  have hX := madeM_ok 120 l
  have hXl := madeM_len 120 l
  generalize madeM 120 l = x at *
  have HM := Lib.hid hM
  have HX := Lib.hid hX
  clear hM hX
  have O1 := Lib.hid o1
  clear o1
  go_wp2_with fail
  refine HM.out.mono ?_
  rintro e w2 ⟨vx, rfl, hox, o2⟩
  obtain ⟨Ax, cx, rfl, htx, hcx, _⟩ := hox.shape
  have HP := Lib.hid (playQ Ax cx x w2 htx (fun o ho => (HX.out o ho).ok) (by omega))
  have HTX := Lib.hid htx
  have O2 := Lib.hid (O1.out.up o2)
  clear hox o2 htx
  go_wp2_with fail
  refine HP.out.mono ?_
  rintro e w3 ⟨vo, cells, rfl, hoo, hrl, o3⟩
  have hrn := runM_len x
  rw [hrn] at hoo
  obtain ⟨Ao, co, rfl, hto, hco, _⟩ := hoo.shape
  have hne : ((x.length : Int) != (x.length : Int)) = false := by simp
  have hb2 := (O2.out).size
  have HOO := Lib.hid (hoo.base hb2)
  have HRL := Lib.hid (hrl.keep (fun _ _ _ k => k.base hb2))
  have HTX3 := Lib.hid (HTX.out.up o3)
  have O3 := Lib.hid (O2.out.up o3)
  have hb3 := (O2.out.up o3).size
  clear hoo hrl o3 hto hrn
  have mk1 : ∀ W : World, (Instr.makeSlice 68 (.int .i64 9) (.int .i64 9)).run Try.prog W = .ok (.slice (some ⟨W.heap.size, 0, none⟩) 9 9) (W.alloc (.cells #[.int .u64 0, .int .u64 0, .int .u64 0, .int .u64 0, .int .u64 0, .int .u64 0, .int .u64 0, .int .u64 0, .int .u64 0] 45)) := fun W => by kernel_rfl
  have mk2 : ∀ W : World, (Instr.makeSlice 69 (.int .i64 9) (.int .i64 9)).run Try.prog W = .ok (.slice (some ⟨W.heap.size, 0, none⟩) 9 9) (W.alloc (.cells #[.bool false, .bool false, .bool false, .bool false, .bool false, .bool false, .bool false, .bool false, .bool false] 4)) := fun W => by kernel_rfl
  have hx9 : x.length ≤ 120 := hXl
  go_upto_region 7 with fail
  go_cut [5, 6] (fun s5 s6 wx => ∃ ga gs : Nat, s5 = .slice (some ⟨ga, 0, none⟩) 9 9 ∧ s6 = .slice (some ⟨gs, 0, none⟩) 9 9 ∧ Hid (OM w wx w.heap.size ga gs (List.replicate 9 0) (List.replicate 9 false) Ax x (.slice Ao x.length co) x.length cells (runM x).2))
  case first =>
    have oA : ∀ (W : World), Own (W.alloc (.cells #[.int .u64 0, .int .u64 0, .int .u64 0, .int .u64 0, .int .u64 0, .int .u64 0, .int .u64 0, .int .u64 0, .int .u64 0] 45)) W.heap.size 45 1 (.slice (some ⟨W.heap.size, 0, none⟩) 9 9) 9 (u64v (List.replicate 9 0)) := fun W => own_new W _ 9 1 45 (by decide) rfl
    have oS : ∀ (W : World), Own (W.alloc (.cells #[.bool false, .bool false, .bool false, .bool false, .bool false, .bool false, .bool false, .bool false, .bool false] 4)) W.heap.size 4 1 (.slice (some ⟨W.heap.size, 0, none⟩) 9 9) 9 (boov (List.replicate 9 false)) := fun W => own_new W _ 9 1 4 (by decide) rfl
    have OA := Lib.hid oA
    have OS := Lib.hid oS
    clear oA oS
    have hs1 : ∀ o : Obj, (w3.alloc o).heap.size = w3.heap.size + 1 := fun o => by simp
    have HS1 := Lib.hid hs1
    clear hs1
    go_region
    · go_wp2_with fail
      go_meet
      case rel =>
        refine ⟨_, _, rfl, rfl, ?_⟩
        have h1 := OS.out (w3.alloc (.cells #[.int .u64 0, .int .u64 0, .int .u64 0, .int .u64 0, .int .u64 0, .int .u64 0, .int .u64 0, .int .u64 0, .int .u64 0] 45))
        rw [HS1.out] at h1
        have ho := ((Old.refl w3).alloc (.cells #[.int .u64 0, .int .u64 0, .int .u64 0, .int .u64 0, .int .u64 0, .int .u64 0, .int .u64 0, .int .u64 0, .int .u64 0] 45)).alloc (.cells #[.bool false, .bool false, .bool false, .bool false, .bool false, .bool false, .bool false, .bool false, .bool false] 4)
        have ho := ho.drew
        exact ⟨((OA.out w3).up ((Old.refl _).alloc _)).base hb3, h1.base (by omega), HOO.out.up ho, HRL.out.keep (fun _ _ _ k => k.up ho), HTX3.out.up ho, O3.out.up ho⟩
    · go_wp2_with fail
      go_meet
      case rel =>
        refine ⟨_, _, rfl, rfl, ?_⟩
        have h1 := OA.out (w3.alloc (.cells #[.bool false, .bool false, .bool false, .bool false, .bool false, .bool false, .bool false, .bool false, .bool false] 4))
        rw [HS1.out] at h1
        have ho := ((Old.refl w3).alloc (.cells #[.bool false, .bool false, .bool false, .bool false, .bool false, .bool false, .bool false, .bool false, .bool false] 4)).alloc (.cells #[.int .u64 0, .int .u64 0, .int .u64 0, .int .u64 0, .int .u64 0, .int .u64 0, .int .u64 0, .int .u64 0, .int .u64 0] 45)
        have ho := ho.drew
        exact ⟨h1.base (by omega), ((OS.out w3).up ((Old.refl _).alloc _)).base hb3, HOO.out.up ho, HRL.out.keep (fun _ _ _ k => k.up ho), HTX3.out.up ho, O3.out.up ho⟩
  case rest =>
    obtain ⟨ga, gs, rfl, rfl, HOM0⟩ := hcut
    clear mk1 mk2 HOO HRL HTX3 HTX HP HM hS
    go_wp2_with fail
    go_loopw [7, 29] (fun now ix wr => OnceRel w l ga gs Ax x (.slice Ao x.length co) cells now ix wr) (fun _ ix _ => x.length - (intOf ix).toNat)
    case atStart => exact ⟨0, _, _, rfl, Nat.zero_le _, rfl, InvA.nil_, HOM0.out⟩
    case round =>
      obtain ⟨k, a, s, rfl, hk, rfl, HI, HOM⟩ := hrel
      by_cases hlt : k < x.length
      · obtain ⟨o, hG⟩ : ∃ o, x[k]? = some o := ⟨_, List.getElem?_eq_getElem hlt⟩
        have hoo := HX.out o (List.mem_of_getElem? hG)
        have hget := runM_get hG
        obtain ⟨⟨⟨M, now⟩, reps⟩, hSt⟩ : ∃ S, runM (x.take k) = S := ⟨_, rfl⟩
        have hnx : ∀ M' now' r, stepM M now o = (M', now', r) → runM (x.take (k + 1)) = ((M', now'), reps ++ [r]) := fun M' now' r h => runM_at hG hSt h
        rw [hSt] at HI hget
        rw [hSt]
        simp only at HI hget
        have HNX := Lib.hid hnx
        clear hSt hnx
        obtain ⟨b, off, rfl, hbl, hcl⟩ := HOM.out.X.rs.at_ (by rw [opv_length]; omega)
        obtain ⟨g0, g1, g2⟩ := opv_get x k o hG
        have c0 := hcl _ _ g0
        have c1 := hcl _ _ g1
        have c2 := hcl _ _ g2
        rw [← Nat.add_assoc] at c1 c2
        obtain ⟨go_, cco, e1, hgo, _⟩ := HOM.out.O.form (by omega)
        injection e1 with e1 _ e2
        subst e1 e2
        obtain ⟨Fa, fc, y0, y1, y2, y3, y4, y5⟩ := HOM.out.R.repS.2 k _ hget
        have i1 : (0 : Int) ≤ (k : Int) := by omega
        have i2 : (k : Int) < (x.length : Int) := by omega
        clear hcl g0 g1 g2 hG hbl
        have HGET := Lib.hid hget
        obtain ⟨kd, id, at_⟩ := o
        obtain ⟨⟨q1, q2⟩, ⟨q3, q4⟩, q5, q6⟩ := hoo
        simp only at c0 c1 c2 q1 q2 q3 q4 q5 q6 hget
        obtain ⟨j, rfl⟩ : ∃ j : Nat, id = (j : Int) := ⟨id.toNat, by omega⟩
        have j9 : j < 9 := by omega
        go_upto_region 12 with fail
        have oW : Old wr (wr.alloc (.cells #[.int .i64 kd, .int .i64 j, .int .u64 at_] 66)) := (Old.refl wr).alloc _
        have hb9 : (wr.alloc (.cells #[.int .i64 kd, .int .i64 j, .int .u64 at_] 66)).heap[wr.heap.size]? = some (.cells #[.int .i64 kd, .int .i64 j, .int .u64 at_] 66 (0, 0)) := heap_alloc_new wr _
        generalize wr.alloc (.cells #[.int .i64 kd, .int .i64 j, .int .u64 at_] 66) = W at *
        have HOW := Lib.hid (HOM.out.up oW)
        have n0 : W.cell? ⟨wr.heap.size, 0, none⟩ = some (.int .i64 kd) := by rw [cell_of_row W _ 0 _ _ _ hb9]; rfl
        have n1 : W.cell? ⟨wr.heap.size, 1, none⟩ = some (.int .i64 j) := by rw [cell_of_row W _ 1 _ _ _ hb9]; rfl
        have n2 : W.cell? ⟨wr.heap.size, 2, none⟩ = some (.int .u64 at_) := by rw [cell_of_row W _ 2 _ _ _ hb9]; rfl
        obtain ⟨A1, A2⟩ := HOW.out.at_A HI.out.la j9
        obtain ⟨S1, S2⟩ := HOW.out.at_S HI.out.ls j9
        have hne2 := HOW.out.ne
        have hx1 : wr.heap.size ≠ ga := by obtain ⟨_, hh⟩ := HOM.out.A.heap_; have := lt_of_block hh; omega
        have hx2 : wr.heap.size ≠ gs := by obtain ⟨_, hh⟩ := HOM.out.S.heap_; have := lt_of_block hh; omega
        have j0 : (0 : Int) ≤ (j : Int) := by omega
        have j1 : (j : Int) < 9 := by omega
        have z0 : W.cell? ⟨go_, k * 3, none⟩ = some (.int .i64 (stepM M now ⟨kd, j, at_⟩).2.2.code) := oW.cell (HOM.out.O.cellAt y0).1
        have z1 : W.cell? ⟨go_, k * 3 + 1, none⟩ = some (.slice Fa (stepM M now ⟨kd, j, at_⟩).2.2.fired.length fc) := oW.cell (HOM.out.O.cellAt y1).1
        have HF := Lib.hid (y3.up oW)
        have hB : w.heap.size ≤ w.heap.size := Nat.le_refl _
        have HY1 := Lib.hid y1
        clear y0 y1 y2 y3 y4 c0 c1 c2 oW hb9 hget
        by_cases h1 : kd = 1
        · subst h1
          have HE := Lib.hid (HNX.out _ _ _ (show stepM M now ⟨1, j, at_⟩ = ((setM M j at_).2, now, ⟨(setM M j at_).1, [], 0⟩) from rfl))
          have hI := HI.out.set_ (id := j) (t := at_) ⟨by omega, by omega⟩ ⟨q5, by omega⟩
          rw [show ((j : Int)).toNat = j by omega] at hI
          have HI := Lib.hid hI
          have HOM := Lib.hid ((HOW.out.setA hB j at_).setS hB j true)
          clear hI z0 z1
          go_wp2_with fail
          go_region
          go_wp2_with fail
          go_roundw
          case rel => exact ⟨k + 1, _, _, by go_num, by omega, by rw [HE.out], by rw [HE.out]; exact HI.out, by first | exact HOM.out | exact HOM.out.up (Old.refl _).drew | exact (HOW.out.up ((Old.refl _).drewN _)).setS hB j false⟩
          case measure => simp [intOf]; omega
        · by_cases h2 : kd = 2
          · subst h2
            have HE := Lib.hid (HNX.out _ _ _ (show stepM M now ⟨2, j, at_⟩ = ((cancelM M j).2, now, ⟨(cancelM M j).1, [], 0⟩) from rfl))
            obtain ⟨hc, hI⟩ := HI.out.cancel (id := j) ⟨by omega, by omega⟩
            rw [show ((j : Int)).toNat = j by omega] at hI hc
            have HI := Lib.hid hI
            have HOM := Lib.hid (HOW.out.setS hB j false)
            have z0' : W.cell? ⟨go_, k * 3, none⟩ = some (.int .i64 (cancelM M j).1) := z0
            generalize (cancelM M j).1 = code at *
            have hbb : (code == 0) = s.getD j false := by rw [← hc]; exact Bool.beq_eq_decide_eq _ _
            clear hI hc z0 z1
            generalize s.getD j false = sb at *
            go_wp2_with fail
            go_quiet (fail)
            go_wp2_with fail
            go_roundw
            case rel => exact ⟨k + 1, _, _, by go_num, by omega, by rw [HE.out], by rw [HE.out]; exact HI.out, by first | exact HOM.out | exact HOM.out.up (Old.refl _).drew | exact (HOW.out.up ((Old.refl _).drewN _)).setS hB j false⟩
            case measure => simp [intOf]; omega
          · by_cases h3 : kd = 3
            · subst h3
              have HE := Lib.hid (HNX.out _ _ _ (show stepM M now ⟨3, j, at_⟩ = ((fireM M.length M (max now at_)).2, max now at_, ⟨0, (fireM M.length M (max now at_)).1, max now at_⟩) from rfl))
              have HI3 : Hid (QI (fireM M.length M (max now at_)).2) := HI.out.qi.fire _ _
              have HFG := Lib.hid (fireM_get M.length M (max now at_) HI.out.qi (Nat.le_refl _))
              have HNF := Lib.hid (fireM_len M.length M (max now at_) HI.out.qi)
              have z1' : W.cell? ⟨go_, k * 3 + 1, none⟩ = some (.slice Fa (fireM M.length M (max now at_)).1.length fc) := z1
              have HY3 : Hid (cells[k * 3 + 1]? = some (.slice Fa (fireM M.length M (max now at_)).1.length fc)) := HY1.out
              have HRA : Hid (∀ wr2, RepL wr2 w.heap.size (runM x).2 cells → Rs wr2 Fa (intv (fireM M.length M (max now at_)).1)) := fun wr2 hR => hR.rsAt HGET.out HY1.out
              clear z0 z1
              go_wp2_with fail
              · have hmm : max now at_ = at_ := by omega
                rw [hmm] at HE HI3 HFG z1' HNF HRA HY3 ⊢
                clear hmm
                generalize hFq : fireM M.length M at_ = F at *
                clear hFq
                generalize hnf : F.1.length = nf at *
                have Hnf := Lib.hid hnf
                clear hnf
                have hnf9 : nf ≤ 9 := Nat.le_trans HNF.out HI.out.len
                go_loopw [78] (fun ix wr2 => ∃ (q : Nat) (s' : List Bool), ix = .int .i64 q ∧ q ≤ nf ∧ Hid (InvA (popN q M) a s') ∧ Hid (OM w wr2 w.heap.size ga gs a s' (some ⟨b, off, none⟩) x (.slice (some ⟨go_, 0, none⟩) x.length co) x.length cells (runM x).2)) (fun ix _ => nf - (intOf ix).toNat)
                case atStart => exact ⟨0, s, rfl, Nat.zero_le _, HI.out, HOW.out⟩
                case round =>
                  obtain ⟨q, s', rfl, hq, HI2, HOM2⟩ := hrel
                  by_cases hqt : q < nf
                  · obtain ⟨f1, f2, f3, f4⟩ := HFG.out.1 q hqt
                    obtain ⟨p1, p2, p3, hIP⟩ := HI2.out.pop f2
                    rw [← popN_succ] at hIP
                    have HRS := HRA.out wr HOM2.out.R
                    obtain ⟨fb, fo, rfl, _, hfc⟩ := HRS.at_ (by rw [intv_length, Hnf.out]; omega)
                    have cf : wr.cell? ⟨fb, fo + q, none⟩ = some (.int .i64 (gt (popN q M) 0).2) := hfc _ _ (by rw [intv, List.getElem?_map, f4]; rfl)
                    have HTW := Lib.hid (fun (q' : Nat) (e : q = q' + 1) => two_fired HI.out (q := q') (by have := HNF.out; omega) (HFG.out.1 q' (by omega)).1)
                    generalize hgt : gt (popN q M) 0 = pq at *
                    obtain ⟨tq, iq⟩ := pq
                    simp only at f3 p1 p2 p3 cf hIP
                    obtain ⟨jq, rfl⟩ : ∃ jq : Nat, iq = (jq : Int) := ⟨iq.toNat, by omega⟩
                    rw [show ((jq : Int)).toNat = jq by omega] at p2 p3 hIP
                    have jq9 : jq < 9 := by omega
                    obtain ⟨B1, B2⟩ := HOM2.out.at_A HI2.out.la jq9
                    obtain ⟨T1, T2⟩ := HOM2.out.at_S HI2.out.ls jq9
                    rw [p2] at B1
                    rw [p3] at T1
                    have jq0 : (0 : Int) ≤ (jq : Int) := by omega
                    have jq1 : (jq : Int) < 9 := by omega
                    have jq8 : (jq : Int) ≤ 8 := by omega
                    have q0 : (0 : Int) ≤ (q : Int) := by omega
                    have q1' : (q : Int) < (nf : Int) := by omega
                    have HIP := Lib.hid hIP
                    have z2 : wr.cell? ⟨go_, k * 3 + 1, none⟩ = some (.slice (some ⟨fb, fo, none⟩) nf fc) := (HOM2.out.O.cellAt HY3.out).1
                    have HGT := Lib.hid hgt
                    clear hIP f1 f2 f4 p2 p3 HRS hgt
                    cases q with
                    | zero =>
                      have cf0 : wr.cell? ⟨fb, fo, none⟩ = some (.int .i64 jq) := cf
                      clear hfc cf
                      go_wp2_with fail
                      have HOM5 := Lib.hid (HOM2.out.setS hB jq false)
                      go_roundw
                      case rel => exact ⟨1, _, rfl, by omega, HIP.out, HOM5.out⟩
                      case measure => simp [intOf]; omega
                    | succ q =>
                      obtain ⟨⟨r1, r2, r3⟩, r4⟩ := HTW.out q rfl
                      obtain ⟨_, _, _, f4'⟩ := HFG.out.1 q (by omega)
                      have cb : wr.cell? ⟨fb, fo + q, none⟩ = some (.int .i64 (gt (popN q M) 0).2) := hfc _ _ (by rw [intv, List.getElem?_map, f4']; rfl)
                      rw [HGT.out] at r4
                      simp only at r4
                      generalize gt (popN q M) 0 = pb at *
                      obtain ⟨tb, ib⟩ := pb
                      simp only at r1 r2 r3 r4 cb
                      obtain ⟨jb, rfl⟩ : ∃ jb : Nat, ib = (jb : Int) := ⟨ib.toNat, by omega⟩
                      rw [show ((jb : Int)).toNat = jb by omega] at r3
                      have jb9 : jb < 9 := by omega
                      obtain ⟨D1, D2⟩ := HOM2.out.at_A HI2.out.la jb9
                      rw [r3] at D1
                      have jb0 : (0 : Int) ≤ (jb : Int) := by omega
                      have jb1 : (jb : Int) < 9 := by omega
                      have qa : (0 : Int) ≤ (q : Int) := by omega
                      have qb : (q : Int) < (nf : Int) := by omega
                      clear hfc f4' r3 HTW
                      by_cases ht : tb = tq
                      · subst ht
                        have hjj : (jb : Int) < (jq : Int) := by omega
                        have hjn : ¬ (jq : Int) ≤ (jb : Int) := by omega
                        clear r4
                        go_wp2_with fail
                        go_quiet (fail)
                        go_wp2_with fail
                        have HOM5 := Lib.hid ((HOM2.out.up ((Old.refl _).drewN nq)).setS hB jq false)
                        go_roundw
                        case rel => exact ⟨q + 1 + 1, _, by go_num, by omega, HIP.out, HOM5.out⟩
                        case measure => simp [intOf]; omega
                      · have htt : tb < tq := by omega
                        have htn : ¬ tq < tb := by omega
                        have hte : (tb == tq) = false := by simpa using ht
                        clear r4
                        go_wp2_with fail
                        go_quiet (fail)
                        go_wp2_with fail
                        have HOM5 := Lib.hid ((HOM2.out.up ((Old.refl _).drewN nq)).setS hB jq false)
                        go_roundw
                        case rel => exact ⟨q + 1 + 1, _, by go_num, by omega, HIP.out, HOM5.out⟩
                        case measure => simp [intOf]; omega
                  · obtain rfl : q = nf := by omega
                    have hl := left_late HI2.out (c := at_) (by rw [← HFG.out.2.1]; exact HFG.out.2.2)
                    have hI5 := HI2.out
                    rw [← HFG.out.2.1] at hI5
                    have HI5 := Lib.hid hI5
                    have HL := Lib.hid hl
                    clear hl hI5
                    go_wp2_with fail
                    go_loop [146] (fun ix => ∃ r : Nat, r ≤ 9 ∧ ix = .int .i64 r) (fun ix => 9 - (intOf ix).toNat)
                    case atStart => exact ⟨0, by omega, rfl⟩
                    case round =>
                      obtain ⟨r, hr9, rfl⟩ := hrel
                      by_cases hrt : r < 9
                      · obtain ⟨B1, _⟩ := HOM2.out.at_A HI2.out.la hrt
                        obtain ⟨T1, _⟩ := HOM2.out.at_S HI2.out.ls hrt
                        have hlr := HL.out r hrt
                        generalize a.getD r 0 = tr at *
                        have r0 : (0 : Int) ≤ (r : Int) := by omega
                        have r1 : (r : Int) < 9 := by omega
                        cases hsr : s'.getD r false with
                        | true =>
                          rw [hsr] at hlr T1
                          have hlt2 := hlr rfl
                          have hln : ¬ tr ≤ at_ := by omega
                          clear hlr hsr
                          go_wp2_with fail
                          go_round
                          case rel => exact ⟨r + 1, by omega, by go_num⟩
                          case measure => simp [intOf]; omega
                        | false =>
                          rw [hsr] at T1
                          clear hlr hsr
                          go_wp2_with fail
                          go_round
                          case rel => exact ⟨r + 1, by omega, by go_num⟩
                          case measure => simp [intOf]; omega
                      · obtain rfl : r = 9 := by omega
                        have HI := HI5
                        have HOM := HOM2
                        go_wp2_with fail
                        go_roundw
                        case rel => exact ⟨k + 1, _, _, by go_num, by omega, by rw [HE.out], by rw [HE.out]; exact HI.out, by first | exact HOM.out | exact HOM.out.up (Old.refl _).drew | exact (HOW.out.up ((Old.refl _).drewN _)).setS hB j false⟩
                        case measure => simp [intOf]; omega
              · have hmm : max now at_ = now := by omega
                rw [hmm] at HE HI3 HFG z1' HNF HRA HY3 ⊢
                clear hmm
                generalize hFq : fireM M.length M now = F at *
                clear hFq
                generalize hnf : F.1.length = nf at *
                have Hnf := Lib.hid hnf
                clear hnf
                have hnf9 : nf ≤ 9 := Nat.le_trans HNF.out HI.out.len
                go_loopw [78] (fun ix wr2 => ∃ (q : Nat) (s' : List Bool), ix = .int .i64 q ∧ q ≤ nf ∧ Hid (InvA (popN q M) a s') ∧ Hid (OM w wr2 w.heap.size ga gs a s' (some ⟨b, off, none⟩) x (.slice (some ⟨go_, 0, none⟩) x.length co) x.length cells (runM x).2)) (fun ix _ => nf - (intOf ix).toNat)
                case atStart => exact ⟨0, s, rfl, Nat.zero_le _, HI.out, HOW.out⟩
                case round =>
                  obtain ⟨q, s', rfl, hq, HI2, HOM2⟩ := hrel
                  by_cases hqt : q < nf
                  · obtain ⟨f1, f2, f3, f4⟩ := HFG.out.1 q hqt
                    obtain ⟨p1, p2, p3, hIP⟩ := HI2.out.pop f2
                    rw [← popN_succ] at hIP
                    have HRS := HRA.out wr HOM2.out.R
                    obtain ⟨fb, fo, rfl, _, hfc⟩ := HRS.at_ (by rw [intv_length, Hnf.out]; omega)
                    have cf : wr.cell? ⟨fb, fo + q, none⟩ = some (.int .i64 (gt (popN q M) 0).2) := hfc _ _ (by rw [intv, List.getElem?_map, f4]; rfl)
                    have HTW := Lib.hid (fun (q' : Nat) (e : q = q' + 1) => two_fired HI.out (q := q') (by have := HNF.out; omega) (HFG.out.1 q' (by omega)).1)
                    generalize hgt : gt (popN q M) 0 = pq at *
                    obtain ⟨tq, iq⟩ := pq
                    simp only at f3 p1 p2 p3 cf hIP
                    obtain ⟨jq, rfl⟩ : ∃ jq : Nat, iq = (jq : Int) := ⟨iq.toNat, by omega⟩
                    rw [show ((jq : Int)).toNat = jq by omega] at p2 p3 hIP
                    have jq9 : jq < 9 := by omega
                    obtain ⟨B1, B2⟩ := HOM2.out.at_A HI2.out.la jq9
                    obtain ⟨T1, T2⟩ := HOM2.out.at_S HI2.out.ls jq9
                    rw [p2] at B1
                    rw [p3] at T1
                    have jq0 : (0 : Int) ≤ (jq : Int) := by omega
                    have jq1 : (jq : Int) < 9 := by omega
                    have jq8 : (jq : Int) ≤ 8 := by omega
                    have q0 : (0 : Int) ≤ (q : Int) := by omega
                    have q1' : (q : Int) < (nf : Int) := by omega
                    have HIP := Lib.hid hIP
                    have z2 : wr.cell? ⟨go_, k * 3 + 1, none⟩ = some (.slice (some ⟨fb, fo, none⟩) nf fc) := (HOM2.out.O.cellAt HY3.out).1
                    have HGT := Lib.hid hgt
                    clear hIP f1 f2 f4 p2 p3 HRS hgt
                    cases q with
                    | zero =>
                      have cf0 : wr.cell? ⟨fb, fo, none⟩ = some (.int .i64 jq) := cf
                      clear hfc cf
                      go_wp2_with fail
                      have HOM5 := Lib.hid (HOM2.out.setS hB jq false)
                      go_roundw
                      case rel => exact ⟨1, _, rfl, by omega, HIP.out, HOM5.out⟩
                      case measure => simp [intOf]; omega
                    | succ q =>
                      obtain ⟨⟨r1, r2, r3⟩, r4⟩ := HTW.out q rfl
                      obtain ⟨_, _, _, f4'⟩ := HFG.out.1 q (by omega)
                      have cb : wr.cell? ⟨fb, fo + q, none⟩ = some (.int .i64 (gt (popN q M) 0).2) := hfc _ _ (by rw [intv, List.getElem?_map, f4']; rfl)
                      rw [HGT.out] at r4
                      simp only at r4
                      generalize gt (popN q M) 0 = pb at *
                      obtain ⟨tb, ib⟩ := pb
                      simp only at r1 r2 r3 r4 cb
                      obtain ⟨jb, rfl⟩ : ∃ jb : Nat, ib = (jb : Int) := ⟨ib.toNat, by omega⟩
                      rw [show ((jb : Int)).toNat = jb by omega] at r3
                      have jb9 : jb < 9 := by omega
                      obtain ⟨D1, D2⟩ := HOM2.out.at_A HI2.out.la jb9
                      rw [r3] at D1
                      have jb0 : (0 : Int) ≤ (jb : Int) := by omega
                      have jb1 : (jb : Int) < 9 := by omega
                      have qa : (0 : Int) ≤ (q : Int) := by omega
                      have qb : (q : Int) < (nf : Int) := by omega
                      clear hfc f4' r3 HTW
                      by_cases ht : tb = tq
                      · subst ht
                        have hjj : (jb : Int) < (jq : Int) := by omega
                        have hjn : ¬ (jq : Int) ≤ (jb : Int) := by omega
                        clear r4
                        go_wp2_with fail
                        go_quiet (fail)
                        go_wp2_with fail
                        have HOM5 := Lib.hid ((HOM2.out.up ((Old.refl _).drewN nq)).setS hB jq false)
                        go_roundw
                        case rel => exact ⟨q + 1 + 1, _, by go_num, by omega, HIP.out, HOM5.out⟩
                        case measure => simp [intOf]; omega
                      · have htt : tb < tq := by omega
                        have htn : ¬ tq < tb := by omega
                        have hte : (tb == tq) = false := by simpa using ht
                        clear r4
                        go_wp2_with fail
                        go_quiet (fail)
                        go_wp2_with fail
                        have HOM5 := Lib.hid ((HOM2.out.up ((Old.refl _).drewN nq)).setS hB jq false)
                        go_roundw
                        case rel => exact ⟨q + 1 + 1, _, by go_num, by omega, HIP.out, HOM5.out⟩
                        case measure => simp [intOf]; omega
                  · obtain rfl : q = nf := by omega
                    have hl := left_late HI2.out (c := now) (by rw [← HFG.out.2.1]; exact HFG.out.2.2)
                    have hI5 := HI2.out
                    rw [← HFG.out.2.1] at hI5
                    have HI5 := Lib.hid hI5
                    have HL := Lib.hid hl
                    clear hl hI5
                    go_wp2_with fail
                    go_loop [146] (fun ix => ∃ r : Nat, r ≤ 9 ∧ ix = .int .i64 r) (fun ix => 9 - (intOf ix).toNat)
                    case atStart => exact ⟨0, by omega, rfl⟩
                    case round =>
                      obtain ⟨r, hr9, rfl⟩ := hrel
                      by_cases hrt : r < 9
                      · obtain ⟨B1, _⟩ := HOM2.out.at_A HI2.out.la hrt
                        obtain ⟨T1, _⟩ := HOM2.out.at_S HI2.out.ls hrt
                        have hlr := HL.out r hrt
                        generalize a.getD r 0 = tr at *
                        have r0 : (0 : Int) ≤ (r : Int) := by omega
                        have r1 : (r : Int) < 9 := by omega
                        cases hsr : s'.getD r false with
                        | true =>
                          rw [hsr] at hlr T1
                          have hlt2 := hlr rfl
                          have hln : ¬ tr ≤ now := by omega
                          clear hlr hsr
                          go_wp2_with fail
                          go_round
                          case rel => exact ⟨r + 1, by omega, by go_num⟩
                          case measure => simp [intOf]; omega
                        | false =>
                          rw [hsr] at T1
                          clear hlr hsr
                          go_wp2_with fail
                          go_round
                          case rel => exact ⟨r + 1, by omega, by go_num⟩
                          case measure => simp [intOf]; omega
                      · obtain rfl : r = 9 := by omega
                        have HI := HI5
                        have HOM := HOM2
                        go_wp2_with fail
                        go_roundw
                        case rel => exact ⟨k + 1, _, _, by go_num, by omega, by rw [HE.out], by rw [HE.out]; exact HI.out, by first | exact HOM.out | exact HOM.out.up (Old.refl _).drew | exact (HOW.out.up ((Old.refl _).drewN _)).setS hB j false⟩
                        case measure => simp [intOf]; omega
            · have h4 : kd = 4 := by omega
              subst h4
              have HE := Lib.hid (HNX.out _ _ _ (show stepM M now ⟨4, j, at_⟩ = (M, now, nextM M) from rfl))
              have HOM := HOW
              clear z0 z1
              go_wp2_with fail
              go_roundw
              case rel => exact ⟨k + 1, _, _, by go_num, by omega, by rw [HE.out], by rw [HE.out]; exact HI.out, by first | exact HOM.out | exact HOM.out.up (Old.refl _).drew | exact (HOW.out.up ((Old.refl _).drewN _)).setS hB j false⟩
              case measure => simp [intOf]; omega
      · obtain rfl : k = x.length := by omega
        have HO := Lib.hid HOM.out.old
        go_wp2_with fail
        go_ret
        exact ⟨rfl, HO.out⟩
end Go.Proofs.Ytlpaemlgmmmbmaa
