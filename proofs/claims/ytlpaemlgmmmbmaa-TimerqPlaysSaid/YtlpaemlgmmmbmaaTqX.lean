/-
  The walk of the reference's step at kind 3: the timers that are due.
-/
import Derived.Test.YtlpaemlgmmmbmaaTqJ
namespace Go.Proofs.Ytlpaemlgmmmbmaa
open Go.RowKit Go.Maps
set_option linter.unusedVariables false

section
variable {P : Program} {ops : Array Oper} {o : Oper} {a : Act} {K : Act → World → Prop} {Q : Exit → Act → World → Prop} {E : Prop}
theorem step_appO (w : World) (hgd : o.guard = none) (s x : Operand) (t : TypeId)
    (ho : o.op = .call { callee := .builtin .append, args := #[s, x], argTypes := #[t, t] })
    (base : Nat) (e : TypeId) (z : Value) (size bytes : Nat) (ht : P.underlying t = some (.slice e))
    (hi : (P.info? e).map (fun i => (i.zero, i.size, i.bytes)) = some (some z, size, bytes)) (hzs : z.cells.size = size) (hsz : 0 < size) (hby : bytes ≤ 1024)
    (v : Value) (n : Nat) (xs : List Value) (hs : a.eval s = v) (hown : Own w base e size v n xs)
    (A : Option Addr) (m c : Nat) (news : List Value) (hx : a.eval x = .slice A m c) (hr : Rs w A news) (hl : news.length = m * size) (h1 : news.all Value.oneCell' = true)
    (hn : n + m ≤ 68719476736) (hbase : base ≤ w.heap.size)
    (h : ∀ v' w', Own w' base e size v' (n + m) (xs ++ news) → w.grownBy w' v.ownBlock → (v'.ownBlock = v.ownBlock ∨ ∃ j, v'.ownBlock = some j ∧ w.heap.size ≤ j) → K (a.put o.dst v') w') :
    if Region.wanted o (yielded ops a.tmps) = true then Oper.wp P o a w K Q else E := by
  cases A with
  | some ad =>
    obtain ⟨b, off, p⟩ := ad
    rcases hr with rfl | ⟨b', off', hA, hc⟩
    · obtain rfl : m = 0 := by
        rcases Nat.eq_zero_or_pos m with h0 | h0
        · exact h0
        · have := Nat.mul_pos h0 hsz; simp at hl; omega
      obtain ⟨i, hii, hz, hsize, hbb⟩ := info_parts hi
      have hb2 : (n + 0) * bytes ≤ 68719476736 * 1024 := Nat.mul_le_mul hn hby
      have hw : Region.wanted o (yielded ops a.tmps) = true := by simp [Region.wanted, hgd]
      rw [if_pos hw]
      obtain ⟨v', w', hr, h2, h3, _, h5⟩ := run_append_own_at (P := P) w base t o.type e i z size bytes ht hii hz hsize hbb hzs hsz v n xs hown ⟨b, off, p⟩ 0 c [] hl (fun j u hu => by simp at hu) (fun u hu => by simp at hu)
        (by unfold maxLen; omega) (by omega) hbase
      unfold Oper.wp
      simp only [execOp, ho, resolve, invoke, builtin, Sem.run_bind, Sem.run_pure, Result.andThen_ok, List.map_toArray, List.map_cons, List.map_nil, hs, hx, hr]
      refine h v' w' h2 h3 ?_
      rcases h5 with h5 | h5
      · exact Or.inl h5
      · exact Or.inr ⟨_, h5, Nat.le_refl _⟩
    · simp only [Option.some.injEq, Addr.mk.injEq] at hA
      obtain ⟨rfl, rfl, rfl⟩ := hA
      exact step_appW w hgd s x t ho base e z size bytes ht hi hzs hsz hby v n xs hs hown b off m c news hx (Or.inr ⟨b, off, rfl, hc⟩) hl h1 hn hbase h
  | none =>
    obtain rfl := hr.nil_iff
    obtain rfl : m = 0 := by
      rcases Nat.eq_zero_or_pos m with h0 | h0
      · exact h0
      · have := Nat.mul_pos h0 hsz; simp at hl; omega
    obtain ⟨i, hii, hz, hsize, hbb⟩ := info_parts hi
    have hw : Region.wanted o (yielded ops a.tmps) = true := by simp [Region.wanted, hgd]
    rw [if_pos hw]
    have hrun := run_append_nil_src (P := P) (w := w) base t o.type e i size ht hii v n xs hown c
    unfold Oper.wp
    simp only [execOp, ho, resolve, invoke, builtin, Sem.run_bind, Sem.run_pure, Result.andThen_ok, List.map_toArray, List.map_cons, List.map_nil, hs, hx, hrun]
    exact h v w (by simpa using hown) (World.grownBy.refl _ _) (Or.inl rfl)
end
def StepPost (w : World) (r : List Tm × Int × Rep) (e : Ending) (w' : World) : Prop :=
  ∃ A c rv, e = .returned (.tuple #[.slice A r.1.length c, .int .u64 r.2.1, rv]) ∧ Ts w' 117 A (rcells r.1) ∧ r.1.length ≤ c ∧ c ≤ maxLen ∧ RepV w' w.heap.size r.2.2 rv ∧ Old w w'
/-- While one timer fires. -/
structure SG (w : World) (k8 k10 ko : Nat) (b7 b8 b10 : Bool) (A : Option Addr) (X : List Tm) (F : List Int) (id mx : Int) (fv v93 : Value) (ww : World) : Prop where
  old : Old w ww
  ts : Ts ww 117 A (rcells X)
  c8 : ww.heap[k8]? = some (.cells #[.int .i64 0, .slice none 0 0, .int .u64 0] 71 (0, 0))
  c10 : b10 = false → ww.heap[k10]? = some (.cells #[.int .i64 0, fv, .int .u64 mx] 71 (0, 0))
  n8 : k8 ≠ k10
  h10 : w.heap.size ≤ k10
  d10 : b10 = true → ww.heap[k10]? = some (.cells #[.int .i64 0, v93, .int .u64 mx] 71 (0, 0))
  e : b8 = false → Own ww w.heap.size 3 1 fv F.length (intv F)
  o : b7 = true → b8 = false → ww.heap[ko]? = some (.cells #[.int .i64 id] 3 (0, 0))
  eo : b7 = true → b8 = false → fv.ownBlock ≠ some ko
  f : b8 = true → Own ww w.heap.size 3 1 v93 (F ++ [id]).length (intv (F ++ [id]))
section
variable {w ww w' : World} {k8 k10 ko : Nat} {b7 b8 b10 : Bool} {A : Option Addr} {X : List Tm} {F : List Int} {id mx : Int} {fv v93 v' : Value}
theorem SG.mkO (h : SG w k8 k10 ko false false false A X F id mx fv v93 ww) : SG w k8 k10 ww.heap.size true false false A X F id mx fv v93 (ww.alloc (.cells #[.int .i64 id] 3)) := by
  have hu : Old ww (ww.alloc (.cells #[.int .i64 id] 3)) := (Old.refl ww).alloc _
  exact ⟨h.old.up hu, h.ts.up hu, hu.block h.c8, fun _ => hu.block (h.c10 rfl), h.n8, h.h10, (fun hb => by cases hb), fun _ => (h.e rfl).up hu, fun _ _ => heap_alloc_new ww _, fun _ _ => fresh_ne (h.e rfl), (fun hb => by cases hb)⟩
theorem SG.app (h : SG w k8 k10 ko true false false A X F id mx fv v93 ww) (ho : Own w' w.heap.size 3 1 v' (F ++ [id]).length (intv (F ++ [id]))) (hg : ww.grownBy w' fv.ownBlock) : SG w k8 k10 ko true true false A X F id mx fv v' w' := by
  have hown := h.e rfl
  refine ⟨Own.grown_old h.old hown (Nat.le_refl _) hg, h.ts.grown hown (by decide) hg, ?_, fun _ => ?_, h.n8, h.h10, (fun hb => by cases hb), (fun hb => by cases hb), (fun _ hb => by cases hb), (fun _ hb => by cases hb), fun _ => ho⟩
  · exact (hg.block k8 (lt_of_block h.c8) (fun e => ownBlock_ne hown h.c8 (by intro c fz e; injection e with _ e; exact absurd e (by decide)) e.symm)).trans h.c8
  · exact (hg.block k10 (lt_of_block (h.c10 rfl)) (fun e => ownBlock_ne hown (h.c10 rfl) (by intro c fz e; injection e with _ e; exact absurd e (by decide)) e.symm)).trans (h.c10 rfl)
theorem SG.store (h : SG w k8 k10 ko true true false A X F id mx fv v93 ww) : SG w k8 k10 ko true true true A X F id mx fv v93 (ww.setCell ⟨k10, 1, none⟩ v93) := by
  have hg : ww.grownBy (ww.setCell ⟨k10, 1, none⟩ v93) (some k10) := ⟨rfl, rfl, rfl, by simp, fun j _ hj => heap_setCell_other ww ⟨k10, 1, none⟩ j _ (fun e => hj (by simp [e]))⟩
  have h1 := heap_setCell_same ww k10 1 _ _ v93 (h.c10 rfl)
  refine ⟨h.old.setCell h.h10 _, h.ts.keptBut hg (h.c10 rfl) (by intro c fz e; injection e with _ e; exact absurd e (by decide)), (hg.block k8 (lt_of_block h.c8) (by intro e; injection e with e; exact h.n8 e)).trans h.c8, (fun hb => by cases hb), h.n8, h.h10, fun _ => h1, (fun hb => by cases hb), (fun _ hb => by cases hb), (fun _ hb => by cases hb), fun _ => (h.f rfl).keptBut hg (h.c10 rfl) (by intro c fz e; injection e with _ e; exact absurd e (by decide))⟩
end
/-- Between two rounds. -/
def FireRel (w : World) (k8 k10 : Nat) (mx : Int) (r : List Int × List Tm) (s0 s11 : Value) (ww : World) : Prop :=
  ∃ (A : Option Addr) (c : Nat) (X : List Tm) (F : List Int) (fv : Value), s0 = .slice A X.length c ∧ s11 = .int .i64 (oI (firstR X)) ∧ X.length ≤ c ∧ c ≤ maxLen ∧ X.length ≤ 256 ∧ F.length + X.length ≤ 256 ∧
    r = (F ++ (fireR X.length X mx).1, (fireR X.length X mx).2) ∧ Hid (Old w ww) ∧ Hid (Ts ww 117 A (rcells X)) ∧
    Hid (ww.heap[k8]? = some (.cells #[.int .i64 0, .slice none 0 0, .int .u64 0] 71 (0, 0))) ∧
    Hid (ww.heap[k10]? = some (.cells #[.int .i64 0, fv, .int .u64 mx] 71 (0, 0))) ∧
    Hid (Own ww w.heap.size 3 1 fv F.length (intv F))
theorem fire_none {X : List Tm} {c : Int} (h : firstR X = none) : fireR X.length X c = ([], X) := by
  cases hn : X.length with
  | zero => rfl
  | succ n => rw [fireR, h]
theorem fire_stop {X : List Tm} {c : Int} {k : Nat} (h : firstR X = some k) (hle : ¬ (gt X k).1 ≤ c) : fireR X.length X c = ([], X) := by
  cases hn : X.length with
  | zero => rfl
  | succ n => rw [fireR, h]; simp only; rw [if_neg hle]
theorem fire_go {X : List Tm} {c : Int} {k : Nat} (h : firstR X = some k) (hk : k < X.length) (hle : (gt X k).1 ≤ c) : fireR X.length X c = ((gt X k).2 :: (fireR (X.eraseIdx k).length (X.eraseIdx k) c).1, (fireR (X.eraseIdx k).length (X.eraseIdx k) c).2) := by
  rw [show (X.eraseIdx k).length = X.length - 1 by rw [List.length_eraseIdx, if_pos hk]]
  cases hn : X.length with
  | zero => omega
  | succ n => rw [fireR, h]; simp only; rw [if_pos hle]; rfl
def lenOf : Value → Nat
  | .slice _ n _ => n
  | _ => 0
def SJ (w : World) (k8 k10 b off n c1 k : Nat) (X : List Tm) (F : List Int) (id mx : Int) (fv : Value) (s2 s5 s6 s7 s9 s13 s14 s15 s16 s17 s18 s19 s20 s50 s51 s62 s63 s64 s65 s66 s67 s68 s69 s70 s71 s72 s73 s74 s75 s76 s77 s78 s79 s80 s81 s82 s83 s84 s85 s86 s87 s88 s89 s90 s91 s92 s93 s94 s95 s96 s97 : Value) (listed : Array Bool) (a : Act) (ww : World) : Prop :=
  ∃ (b0 b1 b2 b3 b4 b5 b6 b7 b8 b9 b10 : Bool) (ko : Nat) (v93 : Value), listed = #[b0, b1, b2, b3, b4, b5, b6, b7, b8, b9, b10] ∧
    a = { tmps := #[.slice (some ⟨b, off, none⟩) n c1, .int .u64 mx, s2, undef, undef, s5, s6, s7, .pointer (some ⟨k8, 0, none⟩), s9, .pointer (some ⟨k10, 0, none⟩), .int .i64 (oI (some k)), undef, s13, s14, s15, s16, s17, s18, s19, s20, undef, undef, undef, undef, undef, undef, undef, undef, undef, undef, undef, undef, undef, undef, undef, undef, undef, undef, undef, undef, undef, undef, undef, undef, undef, undef, undef, undef, undef, s50, s51, undef, undef, undef, undef, undef, undef, undef, undef, undef, undef, s62, s63, s64, s65, s66, s67, s68, s69, s70, s71, s72, s73, s74, s75, s76, s77, s78, s79, s80, s81, s82, s83, s84, cond b0 (.pointer (some ⟨k10, 1, none⟩)) (s85), cond b1 (fv) (s86), cond b2 (.slice (some ⟨b, off, none⟩) n c1) (s87), cond b3 (.int .i64 (oI (some k))) (s88), cond b4 (.pointer (some ⟨b, off + k * 2, none⟩)) (s89), cond b5 (.pointer (some ⟨b, off + k * 2, none⟩)) (s90), cond b6 (.int .i64 id) (s91), cond b7 (.slice (some ⟨ko, 0, none⟩) 1 1) (s92), cond b8 (v93) (s93), cond b9 (.pointer (some ⟨k10, 1, none⟩)) (s94), s95, s96, s97, undef, undef, undef, undef, undef, undef, undef, undef, undef, undef, undef, undef, undef, undef, undef, undef, undef, undef, undef, undef, undef, undef, undef, undef, undef, undef, undef, undef, undef], defers := [] } ∧ SG w k8 k10 ko b7 b8 b10 (some ⟨b, off, none⟩) X F id mx fv v93 ww
set_option maxHeartbeats 2000000 in
set_option maxRecDepth 100000 in
theorem stepFireQ (A : Option Addr) (c : Nat) (R : List Tm) (now id at_ : Int) (w : World) (hr : Ts w 117 A (rcells R)) (hc : R.length ≤ c) (hcm : c ≤ maxLen) (hm : R.length ≤ 256) (ho : 0 ≤ at_ ∧ at_ < 18446744073709551616) (hnow : 0 ≤ now ∧ now < 18446744073709551616) :
    Calls Try.prog 56 #[.slice A R.length c, .int .u64 now, .agg #[.int .i64 3, .int .i64 id, .int .u64 at_]] w (StepPost w (stepR R now ⟨3, id, at_⟩)) := by
  have oW : Old w ((w.alloc (.cells #[.int .i64 3, .int .i64 id, .int .u64 at_] 66)).alloc (.cells #[.int .i64 0, .slice none 0 0, .int .u64 0] 71)) := ((Old.refl w).alloc _).alloc _
  have hk5 : ((w.alloc (.cells #[.int .i64 3, .int .i64 id, .int .u64 at_] 66)).alloc (.cells #[.int .i64 0, .slice none 0 0, .int .u64 0] 71)).heap[w.heap.size]? = some (.cells #[.int .i64 3, .int .i64 id, .int .u64 at_] 66 (0, 0)) :=
    ((Old.refl _).alloc _).block (heap_alloc_new w _)
  have hk8 : ((w.alloc (.cells #[.int .i64 3, .int .i64 id, .int .u64 at_] 66)).alloc (.cells #[.int .i64 0, .slice none 0 0, .int .u64 0] 71)).heap[w.heap.size + 1]? = some (.cells #[.int .i64 0, .slice none 0 0, .int .u64 0] 71 (0, 0)) := by
    rw [show w.heap.size + 1 = (w.alloc (.cells #[.int .i64 3, .int .i64 id, .int .u64 at_] 66)).heap.size by simp]
    exact heap_alloc_new _ _
  have HR := Lib.hid hr
  clear hr
  have hst : stepR R now ⟨3, id, at_⟩ = ((fireR R.length R (max now at_)).2, max now at_, ⟨0, (fireR R.length R (max now at_)).1, max now at_⟩) := rfl
  have HST := Lib.hid hst
  clear hst
  go_enter Try.func56, Try.ntmps56
  go_upto_region 1 with fail
  generalize (w.alloc (.cells #[.int .i64 3, .int .i64 id, .int .u64 at_] 66)).alloc (.cells #[.int .i64 0, .slice none 0 0, .int .u64 0] 71) = W at *
  have a0 : W.cell? ⟨w.heap.size, 0, none⟩ = some (.int .i64 3) := by rw [cell_of_row W _ 0 _ _ _ hk5]; rfl
  have a1 : W.cell? ⟨w.heap.size, 1, none⟩ = some (.int .i64 id) := by rw [cell_of_row W _ 1 _ _ _ hk5]; rfl
  have a2 : W.cell? ⟨w.heap.size, 2, none⟩ = some (.int .u64 at_) := by rw [cell_of_row W _ 2 _ _ _ hk5]; rfl
  have hP := Lib.hid (placeQ A c R id W (HR.out.up oW) (by omega))
  have OW := Lib.hid oW
  have HK8 := Lib.hid hk8
  clear oW hk5 hk8
  go_wp2_with fail
  refine hP.out.mono ?_
  rintro e w2 ⟨rfl, o2⟩
  have b0 := o2.cell a0
  have b1 := o2.cell a1
  have b2 := o2.cell a2
  have hk8 := o2.block HK8.out
  have HO2 := Lib.hid (OW.out.up o2)
  have HR2 := Lib.hid ((HR.out.up OW.out).up o2)
  have HKK8 := Lib.hid hk8
  have HC := Lib.hid (And.intro hc hcm)
  clear o2 a0 a1 a2 hk8 hP hcm
  go_wp2_with fail
  · have hmm : max now at_ = at_ := by omega
    have hmm' : max now at_ = at_ := hmm
    rw [hmm'] at HST
    clear hmm hmm' b0 b1 b2
    go_upto_region 18 with fail
    have hz : Old w2 (w2.alloc (.cells #[.int .i64 0, .slice none 0 0, .int .u64 at_] 71)) := (Old.refl w2).alloc _
    have hbx := heap_alloc_new w2 (.cells #[.int .i64 0, .slice none 0 0, .int .u64 at_] 71)
    have hF := Lib.hid (firstQ A c R _ (HR2.out.up hz) (by omega))
    have HB8 := Lib.hid (hz.block HKK8.out)
    have HO3 := Lib.hid (HO2.out.up hz)
    have HR3 := Lib.hid (HR2.out.up hz)
    have h10 := HO2.out.size
    have n10 : w.heap.size + 1 ≠ w2.heap.size := by have := lt_of_block HKK8.out; omega
    have HBX := Lib.hid hbx
    clear hz hbx
    generalize w2.alloc (.cells #[.int .i64 0, .slice none 0 0, .int .u64 at_] 71) = W3 at *
    generalize w2.heap.size = k10 at *
    go_wp2_with fail
    refine hF.out.mono ?_
    rintro e w3 ⟨rfl, o3⟩
    have HI : Hid (FireRel w (w.heap.size + 1) k10 at_ (fireR R.length R at_) (.slice A R.length c) (.int .i64 (oI (firstR R))) w3) :=
      ⟨A, c, R, [], .slice none 0 0, rfl, rfl, HC.out.1, HC.out.2, hm, by simpa using hm, by simp, HO3.out.up o3, HR3.out.up o3, o3.block HB8.out, o3.block HBX.out, Own.nil_ _ _ _ _⟩
    clear o3
    go_wp2_with fail
    go_loopw [0, 11] (fun s0 s11 wr => FireRel w (w.heap.size + 1) k10 at_ (fireR R.length R at_) s0 s11 wr) (fun s0 _ _ => lenOf s0)
    case atStart => exact HI.out
    case round =>
      clear HI
      obtain ⟨A1, c1, X, F, fv, rfl, rfl, hc1, hcm1, hx1, hfx, hres, HO, HT, HB8, HB10, HOW⟩ := hrel
      cases hf : firstR X with
      | none =>
        have hoi : ¬ 0 ≤ oI none := by decide
        have HSTF : Hid (stepR R now ⟨3, id, at_⟩ = (X, at_, ⟨0, F, at_⟩)) := Lib.hid (by rw [HST.out, hres, fire_none hf]; simp)
        clear hf
        obtain ⟨fa, fc, rfl, _⟩ := HOW.out.shape
        have hb10 := HB10.out
        have hb8 := HB8.out
        have e0 : wr.cell? ⟨k10, 0, none⟩ = some (.int .i64 0) := by rw [cell_of_row wr _ 0 _ _ _ hb10]; rfl
        have e1 : wr.cell? ⟨k10, 1, none⟩ = some (.slice fa F.length fc) := by rw [cell_of_row wr _ 1 _ _ _ hb10]; rfl
        have e2 : wr.cell? ⟨k10, 2, none⟩ = some (.int .u64 at_) := by rw [cell_of_row wr _ 2 _ _ _ hb10]; rfl
        have g0 : wr.cell? ⟨w.heap.size + 1, 0, none⟩ = some (.int .i64 0) := by rw [cell_of_row wr _ 0 _ _ _ hb8]; rfl
        have g1 : wr.cell? ⟨w.heap.size + 1, 1, none⟩ = some (.slice none 0 0) := by rw [cell_of_row wr _ 1 _ _ _ hb8]; rfl
        have g2 : wr.cell? ⟨w.heap.size + 1, 2, none⟩ = some (.int .u64 0) := by rw [cell_of_row wr _ 2 _ _ _ hb8]; rfl
        have f0 : wr.frozen? ⟨w.heap.size + 1, 0, none⟩ = false := frozen_of_row wr _ 0 _ _ hb8
        have f1 : wr.frozen? ⟨w.heap.size + 1, 1, none⟩ = false := frozen_of_row wr _ 1 _ _ hb8
        have f2 : wr.frozen? ⟨w.heap.size + 1, 2, none⟩ = false := frozen_of_row wr _ 2 _ _ hb8
        have hg := fun (W : World) (i : Nat) (u : Value) => (⟨rfl, rfl, rfl, by simp, fun j _ hj => heap_setCell_other W ⟨w.heap.size + 1, i, none⟩ j _ (fun e => hj (by simp [e]))⟩ : W.grownBy (W.setCell ⟨w.heap.size + 1, i, none⟩ u) (some (w.heap.size + 1)))
        have q0 := heap_setCell_same wr (w.heap.size + 1) 0 _ _ (.int .i64 0) hb8
        have q1 := heap_setCell_same _ (w.heap.size + 1) 1 _ _ (.slice fa F.length fc) q0
        have HTF := Lib.hid (((HT.out.keptBut (hg _ 0 (.int .i64 0)) hb8 (by intro c fz e; injection e with _ e; exact absurd e (by decide))).keptBut (hg _ 1 (.slice fa F.length fc)) q0 (by intro c fz e; injection e with _ e; exact absurd e (by decide))).keptBut (hg _ 2 (.int .u64 at_)) q1 (by intro c fz e; injection e with _ e; exact absurd e (by decide)))
        have HFF := Lib.hid (((HOW.out.keptBut (hg _ 0 (.int .i64 0)) hb8 (by intro c fz e; injection e with _ e; exact absurd e (by decide))).keptBut (hg _ 1 (.slice fa F.length fc)) q0 (by intro c fz e; injection e with _ e; exact absurd e (by decide))).keptBut (hg _ 2 (.int .u64 at_)) q1 (by intro c fz e; injection e with _ e; exact absurd e (by decide)))
        have HOF := Lib.hid (((HO.out.setCell (p := ⟨w.heap.size + 1, 0, none⟩) (by simp) (.int .i64 0)).setCell (p := ⟨w.heap.size + 1, 1, none⟩) (by simp) (.slice fa F.length fc)).setCell (p := ⟨w.heap.size + 1, 2, none⟩) (by simp) (.int .u64 at_))
        have hl8 := lt_of_block hb8
        clear hb10 hb8 hg q0 q1 hres
        go_wp2_with fail
        go_region
        go_wp2_with fail
        rw [HSTF.out]
        exact bodyPost_ret (v := .tuple #[.slice A1 X.length c1, .int .u64 at_, .agg #[.int .i64 0, .slice fa F.length fc, .int .u64 at_]]) (by simp [results, Try.results56, go_sem, g0, g1, g2]) rfl ⟨A1, c1, _, rfl, HTF.out.up (Old.refl _).drew, hc1, hcm1, ⟨_, rfl, HFF.out.up (Old.refl _).drew⟩, HOF.out.up (Old.refl _).drew⟩
      | some k =>
        obtain ⟨j1, j2⟩ := firstN_spec X X.length (Nat.le_refl _)
        obtain ⟨kl, _⟩ := j2 k hf
        have hoi : oI (some k) = (k : Int) := rfl
        obtain ⟨b, off, rfl, hbl, _⟩ := HT.out.rs.at_ (by rw [rcells_length]; omega)
        obtain ⟨g0, g1⟩ := rcells_get X k _ (getD_of kl)
        have c0 : wr.cell? ⟨b, off + k * 2, none⟩ = some (.int .i64 (gt X k).2) := HT.out.rs.cellAt g0
        have c1' : wr.cell? ⟨b, off + k * 2 + 1, none⟩ = some (.int .u64 (gt X k).1) := by rw [Nat.add_assoc]; exact HT.out.rs.cellAt g1
        have k1 : (0 : Int) ≤ (k : Int) := by omega
        have k2 : (k : Int) < (X.length : Int) := by omega
        by_cases hle : (gt X k).1 ≤ at_
        · have HNX : Hid (fireR R.length R at_ = ((F ++ [(gt X k).2]) ++ (fireR (X.eraseIdx k).length (X.eraseIdx k) at_).1, (fireR (X.eraseIdx k).length (X.eraseIdx k) at_).2)) := Lib.hid (by rw [hres, fire_go hf kl hle]; simp)
          have HLE : Hid ((X.eraseIdx k).length + 1 = X.length) := Lib.hid (by rw [List.length_eraseIdx, if_pos kl]; omega)
          have hF0 : SG w (w.heap.size + 1) k10 0 false false false (some ⟨b, off, none⟩) X F (gt X k).2 at_ fv undef wr.drew := ⟨HO.out.up (Old.refl wr).drew, HT.out, HB8.out, fun _ => HB10.out, n10, h10, (fun hb => by cases hb), fun _ => HOW.out.up (Old.refl wr).drew, (fun hb => by cases hb), (fun hb => by cases hb), (fun hb => by cases hb)⟩
          have HG0 : Hid (∀ ww, Ts ww 117 (some ⟨b, off, none⟩) (rcells X) → ww.cell? ⟨b, off + k * 2, none⟩ = some (.int .i64 (gt X k).2)) := Lib.hid (fun ww h => h.rs.cellAt g0)
          clear hf j1 j2 g0 g1 hres
          generalize gt X k = p at *
          obtain ⟨p1, p2⟩ := p
          replace c0 : wr.cell? ⟨b, off + k * 2, none⟩ = some (.int .i64 p2) := c0
          replace c1' : wr.cell? ⟨b, off + k * 2 + 1, none⟩ = some (.int .u64 p1) := c1'
          replace hle : p1 ≤ at_ := hle
          go_upto_region 21 with fail
          obtain ⟨fa0, fc0, rfl, _⟩ := HOW.out.shape
          refine wp_region_steps2 (by kernel_rfl) (by kernel_rfl) (SJ w (w.heap.size + 1) k10 b off X.length c1 k X F p2 at_ (.slice fa0 F.length fc0) (.agg #[.int .i64 3, .int .i64 id, .int .u64 at_]) (.pointer (some ⟨w.heap.size, 0, none⟩)) (.slice none 0 0) (.int .u64 0) (.int .i64 (oI (idx R id))) (.slice A R.length c) (.pointer (some ⟨w.heap.size, 1, none⟩)) (.int .i64 id) (.int .i64 (oI (idx R id))) (.pointer (some ⟨w.heap.size, 0, none⟩)) (.int .i64 3) (.bool false) (.bool false) (.bool false) (.bool false) (.bool true) (.bool true) (.int .u64 now) (.pointer (some ⟨w.heap.size, 2, none⟩)) (.int .u64 at_) (.int .u64 at_) (.int .u64 at_) (.agg #[.int .i64 0, .slice none 0 0, .int .u64 at_]) (.slice A R.length c) (.int .i64 (oI (firstR R))) (.int .i64 (oI (some k))) (.bool true) (.bool true) (.slice (some ⟨b, off, none⟩) X.length c1) (.int .i64 (oI (some k))) (.pointer (some ⟨b, off + k * 2, none⟩)) (.pointer (some ⟨b, off + k * 2 + 1, none⟩)) (.int .u64 p1) (.int .u64 at_) (.bool true) (.bool true) (u83) (u84) (u85) (u86) (u87) (u88) (u89) (u90) (u91) (u92) (u93) (u94) (u95) (u96) (u97)) ?_ ?_ ⟨?_, ?_, ?_, ?_, ?_, ?_, ?_, ?_, ?_, ?_, ?_, trivial⟩
          · exact ⟨false, false, false, false, false, false, false, false, false, false, false, 0, undef, rfl, rfl, hF0⟩
          · rintro a w1 ⟨b0, b1, b2, b3, b4, b5, b6, b7, b8, b9, b10, ko, v93, hl, rfl, hF⟩
            have hl' := congrArg Array.toList hl
            simp at hl'
            obtain ⟨rfl, rfl, rfl, rfl, rfl, rfl, rfl, rfl, rfl, rfl, rfl⟩ := hl'
            have HO93 := Lib.hid (hF.f rfl)
            have HOLD := Lib.hid hF.old
            have H8 := Lib.hid hF.c8
            have H10 := Lib.hid (hF.d10 rfl)
            have hW := Lib.hid (withoutQ b off c1 X k w1 hF.ts kl hc1 hcm1 (by omega))
            clear hF
            go_wp2_with fail
            refine hW.out.mono ?_
            rintro e w4 ⟨v4, rfl, ho4, hd4⟩
            obtain ⟨A4, c4, rfl, ht4, hc4, hcm4⟩ := ho4.shape
            have hFq := Lib.hid (firstQ A4 c4 (X.eraseIdx k) w4 ht4 (by have := HLE.out; omega))
            have HD4 := Lib.hid hd4
            have HT4 := Lib.hid ht4
            clear hd4 ht4 ho4 hW
            go_wp2_with fail
            refine hFq.out.mono ?_
            rintro e w5 ⟨rfl, o5⟩
            have hd5 := HD4.out.up o5
            have HREL : Hid (FireRel w (w.heap.size + 1) k10 at_ (fireR R.length R at_) (.slice A4 (X.eraseIdx k).length c4) (.int .i64 (oI (firstR (X.eraseIdx k)))) w5) := Lib.hid ⟨A4, c4, X.eraseIdx k, F ++ [p2], v93, rfl, rfl, hc4, hcm4, by have := HLE.out; omega, by have := HLE.out; rw [List.length_append]; simp only [List.length_cons, List.length_nil]; omega, HNX.out, HOLD.out.up hd5, HT4.out.up o5, hd5.block H8.out, hd5.block H10.out, HO93.out.up hd5⟩
            have HLT : Hid ((X.eraseIdx k).length < X.length) := Lib.hid (by have := HLE.out; omega)
            clear hd5 o5 hFq
            go_wp2_with fail
            go_roundw
            case rel => exact HREL.out
            case measure => exact HLT.out
          · intro listed a w1 K hs hcl hf hall hI hK
            obtain ⟨b0, b1, b2, b3, b4, b5, b6, b7, b8, b9, b10, ko, v93, rfl, rfl, hF⟩ := hI
            have hf' : b0 = false := hf
            subst hf'
            have hb1 : b1 = false := by
              cases b1
              · rfl
              · exact absurd (show false = true from hcl 1 _ rfl rfl ⟨0, .data⟩ (by first | exact .head _ | simp) rfl) (by decide)
            subst hb1
            have hb9 : b9 = false := by
              cases b9
              · rfl
              · exact absurd (show false = true from hcl 9 _ rfl rfl ⟨0, .phase⟩ (by first | exact .head _ | simp) rfl) (by decide)
            subst hb9
            have hb10 : b10 = false := by
              cases b10
              · rfl
              · exact absurd (show false = true from hcl 10 _ rfl rfl ⟨0, .phase⟩ (by first | exact .head _ | simp) rfl) (by decide)
            subst hb10
            have hb8 : b8 = false := by
              cases b8
              · rfl
              · exact absurd (show false = true from hcl 8 _ rfl rfl ⟨1, .data⟩ (by first | exact .head _ | simp) rfl) (by decide)
            subst hb8
            clear hall hcl hs hf
            go_simp
            exact hK _ _ ⟨true, false, b2, b3, b4, b5, b6, b7, false, false, false, ko, v93, rfl, rfl, hF⟩
          · intro listed a w1 K hs hcl hf hall hI hK
            obtain ⟨b0, b1, b2, b3, b4, b5, b6, b7, b8, b9, b10, ko, v93, rfl, rfl, hF⟩ := hI
            have hf' : b1 = false := hf
            subst hf'
            have hq0 : b0 = true := hall ⟨0, .data⟩ (by first | exact .head _ | simp) rfl
            subst hq0
            have hb8 : b8 = false := by
              cases b8
              · rfl
              · exact absurd (show false = true from hcl 8 _ rfl rfl ⟨1, .data⟩ (by first | exact .head _ | simp) rfl) (by decide)
            subst hb8
            have hb9 : b9 = false := by
              cases b9
              · rfl
              · exact absurd (show false = true from hcl 9 _ rfl rfl ⟨1, .phase⟩ (by first | exact .head _ | simp) rfl) (by decide)
            subst hb9
            have hb10 : b10 = false := by
              cases b10
              · rfl
              · exact absurd (show false = true from hcl 10 _ rfl rfl ⟨1, .phase⟩ (by first | exact .head _ | simp) rfl) (by decide)
            subst hb10
            clear hall hcl hs hf
            have q1 : w1.cell? ⟨k10, 1, none⟩ = some (.slice fa0 F.length fc0) := by rw [cell_of_row w1 _ 1 _ _ _ (hF.c10 rfl)]; rfl
            go_simp
            exact hK _ _ ⟨true, true, b2, b3, b4, b5, b6, b7, false, false, false, ko, v93, rfl, rfl, hF⟩
          · intro listed a w1 K hs hcl hf hall hI hK
            obtain ⟨b0, b1, b2, b3, b4, b5, b6, b7, b8, b9, b10, ko, v93, rfl, rfl, hF⟩ := hI
            have hf' : b2 = false := hf
            subst hf'
            have hb4 : b4 = false := by
              cases b4
              · rfl
              · exact absurd (show false = true from hcl 4 _ rfl rfl ⟨2, .data⟩ (by first | exact .head _ | simp) rfl) (by decide)
            subst hb4
            have hb9 : b9 = false := by
              cases b9
              · rfl
              · exact absurd (show false = true from hcl 9 _ rfl rfl ⟨2, .phase⟩ (by first | exact .head _ | simp) rfl) (by decide)
            subst hb9
            have hb10 : b10 = false := by
              cases b10
              · rfl
              · exact absurd (show false = true from hcl 10 _ rfl rfl ⟨2, .phase⟩ (by first | exact .head _ | simp) rfl) (by decide)
            subst hb10
            have hb5 : b5 = false := by
              cases b5
              · rfl
              · exact absurd (show false = true from hcl 5 _ rfl rfl ⟨4, .data⟩ (by first | exact .head _ | simp) rfl) (by decide)
            subst hb5
            have hb6 : b6 = false := by
              cases b6
              · rfl
              · exact absurd (show false = true from hcl 6 _ rfl rfl ⟨5, .data⟩ (by first | exact .head _ | simp) rfl) (by decide)
            subst hb6
            have hb7 : b7 = false := by
              cases b7
              · rfl
              · exact absurd (show false = true from hcl 7 _ rfl rfl ⟨6, .data⟩ (by first | exact .head _ | simp) rfl) (by decide)
            subst hb7
            have hb8 : b8 = false := by
              cases b8
              · rfl
              · exact absurd (show false = true from hcl 8 _ rfl rfl ⟨7, .data⟩ (by first | exact .head _ | simp) rfl) (by decide)
            subst hb8
            clear hall hcl hs hf
            go_simp
            exact hK _ _ ⟨b0, b1, true, b3, false, false, false, false, false, false, false, ko, v93, rfl, rfl, hF⟩
          · intro listed a w1 K hs hcl hf hall hI hK
            obtain ⟨b0, b1, b2, b3, b4, b5, b6, b7, b8, b9, b10, ko, v93, rfl, rfl, hF⟩ := hI
            have hf' : b3 = false := hf
            subst hf'
            have hb4 : b4 = false := by
              cases b4
              · rfl
              · exact absurd (show false = true from hcl 4 _ rfl rfl ⟨3, .data⟩ (by first | exact .head _ | simp) rfl) (by decide)
            subst hb4
            have hb9 : b9 = false := by
              cases b9
              · rfl
              · exact absurd (show false = true from hcl 9 _ rfl rfl ⟨3, .phase⟩ (by first | exact .head _ | simp) rfl) (by decide)
            subst hb9
            have hb10 : b10 = false := by
              cases b10
              · rfl
              · exact absurd (show false = true from hcl 10 _ rfl rfl ⟨3, .phase⟩ (by first | exact .head _ | simp) rfl) (by decide)
            subst hb10
            have hb5 : b5 = false := by
              cases b5
              · rfl
              · exact absurd (show false = true from hcl 5 _ rfl rfl ⟨4, .data⟩ (by first | exact .head _ | simp) rfl) (by decide)
            subst hb5
            have hb6 : b6 = false := by
              cases b6
              · rfl
              · exact absurd (show false = true from hcl 6 _ rfl rfl ⟨5, .data⟩ (by first | exact .head _ | simp) rfl) (by decide)
            subst hb6
            have hb7 : b7 = false := by
              cases b7
              · rfl
              · exact absurd (show false = true from hcl 7 _ rfl rfl ⟨6, .data⟩ (by first | exact .head _ | simp) rfl) (by decide)
            subst hb7
            have hb8 : b8 = false := by
              cases b8
              · rfl
              · exact absurd (show false = true from hcl 8 _ rfl rfl ⟨7, .data⟩ (by first | exact .head _ | simp) rfl) (by decide)
            subst hb8
            clear hall hcl hs hf
            go_simp
            exact hK _ _ ⟨b0, b1, b2, true, false, false, false, false, false, false, false, ko, v93, rfl, rfl, hF⟩
          · intro listed a w1 K hs hcl hf hall hI hK
            obtain ⟨b0, b1, b2, b3, b4, b5, b6, b7, b8, b9, b10, ko, v93, rfl, rfl, hF⟩ := hI
            have hf' : b4 = false := hf
            subst hf'
            have hq2 : b2 = true := hall ⟨2, .data⟩ (by first | exact .head _ | simp) rfl
            subst hq2
            have hq3 : b3 = true := hall ⟨3, .data⟩ (by first | exact .head _ | simp) rfl
            subst hq3
            have hb5 : b5 = false := by
              cases b5
              · rfl
              · exact absurd (show false = true from hcl 5 _ rfl rfl ⟨4, .data⟩ (by first | exact .head _ | simp) rfl) (by decide)
            subst hb5
            have hb9 : b9 = false := by
              cases b9
              · rfl
              · exact absurd (show false = true from hcl 9 _ rfl rfl ⟨4, .phase⟩ (by first | exact .head _ | simp) rfl) (by decide)
            subst hb9
            have hb10 : b10 = false := by
              cases b10
              · rfl
              · exact absurd (show false = true from hcl 10 _ rfl rfl ⟨4, .phase⟩ (by first | exact .head _ | simp) rfl) (by decide)
            subst hb10
            have hb6 : b6 = false := by
              cases b6
              · rfl
              · exact absurd (show false = true from hcl 6 _ rfl rfl ⟨5, .data⟩ (by first | exact .head _ | simp) rfl) (by decide)
            subst hb6
            have hb7 : b7 = false := by
              cases b7
              · rfl
              · exact absurd (show false = true from hcl 7 _ rfl rfl ⟨6, .data⟩ (by first | exact .head _ | simp) rfl) (by decide)
            subst hb7
            have hb8 : b8 = false := by
              cases b8
              · rfl
              · exact absurd (show false = true from hcl 8 _ rfl rfl ⟨7, .data⟩ (by first | exact .head _ | simp) rfl) (by decide)
            subst hb8
            clear hall hcl hs hf
            go_simp
            exact hK _ _ ⟨b0, b1, true, true, true, false, false, false, false, false, false, ko, v93, rfl, rfl, hF⟩
          · intro listed a w1 K hs hcl hf hall hI hK
            obtain ⟨b0, b1, b2, b3, b4, b5, b6, b7, b8, b9, b10, ko, v93, rfl, rfl, hF⟩ := hI
            have hf' : b5 = false := hf
            subst hf'
            have hq4 : b4 = true := hall ⟨4, .data⟩ (by first | exact .head _ | simp) rfl
            subst hq4
            have hq2 : b2 = true := hcl 4 _ rfl rfl ⟨2, .data⟩ (by first | exact .head _ | simp) rfl
            subst hq2
            have hq3 : b3 = true := hcl 4 _ rfl rfl ⟨3, .data⟩ (by first | exact .head _ | simp) rfl
            subst hq3
            have hb6 : b6 = false := by
              cases b6
              · rfl
              · exact absurd (show false = true from hcl 6 _ rfl rfl ⟨5, .data⟩ (by first | exact .head _ | simp) rfl) (by decide)
            subst hb6
            have hb9 : b9 = false := by
              cases b9
              · rfl
              · exact absurd (show false = true from hcl 9 _ rfl rfl ⟨5, .phase⟩ (by first | exact .head _ | simp) rfl) (by decide)
            subst hb9
            have hb10 : b10 = false := by
              cases b10
              · rfl
              · exact absurd (show false = true from hcl 10 _ rfl rfl ⟨5, .phase⟩ (by first | exact .head _ | simp) rfl) (by decide)
            subst hb10
            have hb7 : b7 = false := by
              cases b7
              · rfl
              · exact absurd (show false = true from hcl 7 _ rfl rfl ⟨6, .data⟩ (by first | exact .head _ | simp) rfl) (by decide)
            subst hb7
            have hb8 : b8 = false := by
              cases b8
              · rfl
              · exact absurd (show false = true from hcl 8 _ rfl rfl ⟨7, .data⟩ (by first | exact .head _ | simp) rfl) (by decide)
            subst hb8
            clear hall hcl hs hf
            go_simp
            exact hK _ _ ⟨b0, b1, true, true, true, true, false, false, false, false, false, ko, v93, rfl, rfl, hF⟩
          · intro listed a w1 K hs hcl hf hall hI hK
            obtain ⟨b0, b1, b2, b3, b4, b5, b6, b7, b8, b9, b10, ko, v93, rfl, rfl, hF⟩ := hI
            have hf' : b6 = false := hf
            subst hf'
            have hq5 : b5 = true := hall ⟨5, .data⟩ (by first | exact .head _ | simp) rfl
            subst hq5
            have hq4 : b4 = true := hcl 5 _ rfl rfl ⟨4, .data⟩ (by first | exact .head _ | simp) rfl
            subst hq4
            have hq2 : b2 = true := hcl 4 _ rfl rfl ⟨2, .data⟩ (by first | exact .head _ | simp) rfl
            subst hq2
            have hq3 : b3 = true := hcl 4 _ rfl rfl ⟨3, .data⟩ (by first | exact .head _ | simp) rfl
            subst hq3
            have hb7 : b7 = false := by
              cases b7
              · rfl
              · exact absurd (show false = true from hcl 7 _ rfl rfl ⟨6, .data⟩ (by first | exact .head _ | simp) rfl) (by decide)
            subst hb7
            have hb9 : b9 = false := by
              cases b9
              · rfl
              · exact absurd (show false = true from hcl 9 _ rfl rfl ⟨6, .phase⟩ (by first | exact .head _ | simp) rfl) (by decide)
            subst hb9
            have hb10 : b10 = false := by
              cases b10
              · rfl
              · exact absurd (show false = true from hcl 10 _ rfl rfl ⟨6, .phase⟩ (by first | exact .head _ | simp) rfl) (by decide)
            subst hb10
            have hb8 : b8 = false := by
              cases b8
              · rfl
              · exact absurd (show false = true from hcl 8 _ rfl rfl ⟨7, .data⟩ (by first | exact .head _ | simp) rfl) (by decide)
            subst hb8
            clear hall hcl hs hf
            have q1 := HG0.out w1 hF.ts
            go_simp
            exact hK _ _ ⟨b0, b1, true, true, true, true, true, false, false, false, false, ko, v93, rfl, rfl, hF⟩
          · intro listed a w1 K hs hcl hf hall hI hK
            obtain ⟨b0, b1, b2, b3, b4, b5, b6, b7, b8, b9, b10, ko, v93, rfl, rfl, hF⟩ := hI
            have hf' : b7 = false := hf
            subst hf'
            have hq6 : b6 = true := hall ⟨6, .data⟩ (by first | exact .head _ | simp) rfl
            subst hq6
            have hq5 : b5 = true := hcl 6 _ rfl rfl ⟨5, .data⟩ (by first | exact .head _ | simp) rfl
            subst hq5
            have hq4 : b4 = true := hcl 5 _ rfl rfl ⟨4, .data⟩ (by first | exact .head _ | simp) rfl
            subst hq4
            have hq2 : b2 = true := hcl 4 _ rfl rfl ⟨2, .data⟩ (by first | exact .head _ | simp) rfl
            subst hq2
            have hq3 : b3 = true := hcl 4 _ rfl rfl ⟨3, .data⟩ (by first | exact .head _ | simp) rfl
            subst hq3
            have hb8 : b8 = false := by
              cases b8
              · rfl
              · exact absurd (show false = true from hcl 8 _ rfl rfl ⟨7, .data⟩ (by first | exact .head _ | simp) rfl) (by decide)
            subst hb8
            have hb9 : b9 = false := by
              cases b9
              · rfl
              · exact absurd (show false = true from hcl 9 _ rfl rfl ⟨7, .phase⟩ (by first | exact .head _ | simp) rfl) (by decide)
            subst hb9
            have hb10 : b10 = false := by
              cases b10
              · rfl
              · exact absurd (show false = true from hcl 10 _ rfl rfl ⟨7, .phase⟩ (by first | exact .head _ | simp) rfl) (by decide)
            subst hb10
            clear hall hcl hs hf
            go_simp
            exact hK _ _ ⟨b0, b1, true, true, true, true, true, true, false, false, false, w1.heap.size, v93, rfl, rfl, hF.mkO⟩
          · intro listed a w1 K hs hcl hf hall hI hK
            obtain ⟨b0, b1, b2, b3, b4, b5, b6, b7, b8, b9, b10, ko, v93, rfl, rfl, hF⟩ := hI
            have hf' : b8 = false := hf
            subst hf'
            have hq1 : b1 = true := hall ⟨1, .data⟩ (by first | exact .head _ | simp) rfl
            subst hq1
            have hq7 : b7 = true := hall ⟨7, .data⟩ (by first | exact .head _ | simp) rfl
            subst hq7
            have hq0 : b0 = true := hcl 1 _ rfl rfl ⟨0, .data⟩ (by first | exact .head _ | simp) rfl
            subst hq0
            have hq6 : b6 = true := hcl 7 _ rfl rfl ⟨6, .data⟩ (by first | exact .head _ | simp) rfl
            subst hq6
            have hq5 : b5 = true := hcl 6 _ rfl rfl ⟨5, .data⟩ (by first | exact .head _ | simp) rfl
            subst hq5
            have hq4 : b4 = true := hcl 5 _ rfl rfl ⟨4, .data⟩ (by first | exact .head _ | simp) rfl
            subst hq4
            have hq2 : b2 = true := hcl 4 _ rfl rfl ⟨2, .data⟩ (by first | exact .head _ | simp) rfl
            subst hq2
            have hq3 : b3 = true := hcl 4 _ rfl rfl ⟨3, .data⟩ (by first | exact .head _ | simp) rfl
            subst hq3
            have hb9 : b9 = false := by
              cases b9
              · rfl
              · exact absurd (show false = true from hcl 9 _ rfl rfl ⟨8, .phase⟩ (by first | exact .head _ | simp) rfl) (by decide)
            subst hb9
            have hb10 : b10 = false := by
              cases b10
              · rfl
              · exact absurd (show false = true from hcl 10 _ rfl rfl ⟨8, .data⟩ (by first | exact .head _ | simp) rfl) (by decide)
            subst hb10
            clear hall hcl hs hf
            have hown := hF.e rfl
            refine step_appO w1 (by rfl) _ _ 22 (by rfl) w.heap.size 3 (.int .i64 0) 1 8 Try.underlying22 (by kernel_rfl) rfl (by decide) (by decide) (.slice fa0 F.length fc0) F.length (intv F) (by rfl) hown (some ⟨ko, 0, none⟩) 1 1 [.int .i64 p2] (by rfl) (Or.inr ⟨ko, 0, rfl, fun j u hu => by have := World.news_of_block (hF.o rfl rfl) j u hu; rwa [Addr.add_lit] at this⟩) rfl rfl (by omega) hF.old.size ?_
            intro v' w' ho hg hw
            exact hK _ _ ⟨true, true, true, true, true, true, true, true, true, false, false, ko, v', rfl, rfl, hF.app (by rw [List.length_append]; rw [show intv (F ++ [p2]) = intv F ++ [.int .i64 p2] by simp [intv]]; exact ho) hg⟩
          · intro listed a w1 K hs hcl hf hall hI hK
            obtain ⟨b0, b1, b2, b3, b4, b5, b6, b7, b8, b9, b10, ko, v93, rfl, rfl, hF⟩ := hI
            have hf' : b9 = false := hf
            subst hf'
            have hq0 : b0 = true := hall ⟨0, .phase⟩ (by first | exact .head _ | simp) rfl
            subst hq0
            have hq1 : b1 = true := hall ⟨1, .phase⟩ (by first | exact .head _ | simp) rfl
            subst hq1
            have hq2 : b2 = true := hall ⟨2, .phase⟩ (by first | exact .head _ | simp) rfl
            subst hq2
            have hq3 : b3 = true := hall ⟨3, .phase⟩ (by first | exact .head _ | simp) rfl
            subst hq3
            have hq4 : b4 = true := hall ⟨4, .phase⟩ (by first | exact .head _ | simp) rfl
            subst hq4
            have hq5 : b5 = true := hall ⟨5, .phase⟩ (by first | exact .head _ | simp) rfl
            subst hq5
            have hq6 : b6 = true := hall ⟨6, .phase⟩ (by first | exact .head _ | simp) rfl
            subst hq6
            have hq7 : b7 = true := hall ⟨7, .phase⟩ (by first | exact .head _ | simp) rfl
            subst hq7
            have hq8 : b8 = true := hall ⟨8, .phase⟩ (by first | exact .head _ | simp) rfl
            subst hq8
            have hb10 : b10 = false := by
              cases b10
              · rfl
              · exact absurd (show false = true from hcl 10 _ rfl rfl ⟨9, .data⟩ (by first | exact .head _ | simp) rfl) (by decide)
            subst hb10
            clear hall hcl hs hf
            go_simp
            exact hK _ _ ⟨true, true, true, true, true, true, true, true, true, true, false, ko, v93, rfl, rfl, hF⟩
          · intro listed a w1 K hs hcl hf hall hI hK
            obtain ⟨b0, b1, b2, b3, b4, b5, b6, b7, b8, b9, b10, ko, v93, rfl, rfl, hF⟩ := hI
            have hf' : b10 = false := hf
            subst hf'
            have hq9 : b9 = true := hall ⟨9, .data⟩ (by first | exact .head _ | simp) rfl
            subst hq9
            have hq8 : b8 = true := hall ⟨8, .data⟩ (by first | exact .head _ | simp) rfl
            subst hq8
            have hq0 : b0 = true := hall ⟨0, .phase⟩ (by first | exact .head _ | simp) rfl
            subst hq0
            have hq1 : b1 = true := hall ⟨1, .phase⟩ (by first | exact .head _ | simp) rfl
            subst hq1
            have hq2 : b2 = true := hall ⟨2, .phase⟩ (by first | exact .head _ | simp) rfl
            subst hq2
            have hq3 : b3 = true := hall ⟨3, .phase⟩ (by first | exact .head _ | simp) rfl
            subst hq3
            have hq4 : b4 = true := hall ⟨4, .phase⟩ (by first | exact .head _ | simp) rfl
            subst hq4
            have hq5 : b5 = true := hall ⟨5, .phase⟩ (by first | exact .head _ | simp) rfl
            subst hq5
            have hq6 : b6 = true := hall ⟨6, .phase⟩ (by first | exact .head _ | simp) rfl
            subst hq6
            have hq7 : b7 = true := hall ⟨7, .phase⟩ (by first | exact .head _ | simp) rfl
            subst hq7
            clear hall hcl hs hf
            have q1 : w1.cell? ⟨k10, 1, none⟩ = some (.slice fa0 F.length fc0) := by rw [cell_of_row w1 _ 1 _ _ _ (hF.c10 rfl)]; rfl
            have q2 : w1.frozen? ⟨k10, 1, none⟩ = false := frozen_of_row w1 _ 1 _ _ (hF.c10 rfl)
            have hO93 := hF.f rfl
            have hcells : v93.oneCell' = true := by obtain ⟨x1, x2, rfl, _⟩ := hO93.shape; rfl
            obtain ⟨x1, x2, rfl, _⟩ := hO93.shape
            rw [show (F ++ [p2]).length = F.length + 1 by simp] at hF
            go_simp
            exact hK _ _ ⟨true, true, true, true, true, true, true, true, true, true, true, ko, .slice x1 (F.length + 1) x2, rfl, rfl, hF.store⟩
        · have HSTF : Hid (stepR R now ⟨3, id, at_⟩ = (X, at_, ⟨0, F, at_⟩)) := Lib.hid (by rw [HST.out, hres, fire_stop hf hle]; simp)
          clear hf j1 j2 g0 g1
          generalize gt X k = p at *
          obtain ⟨p1, p2⟩ := p
          replace c0 : wr.cell? ⟨b, off + k * 2, none⟩ = some (.int .i64 p2) := c0
          replace c1' : wr.cell? ⟨b, off + k * 2 + 1, none⟩ = some (.int .u64 p1) := c1'
          replace hle : ¬ p1 ≤ at_ := hle
          obtain ⟨fa, fc, rfl, _⟩ := HOW.out.shape
          have hb10 := HB10.out
          have hb8 := HB8.out
          have e0 : wr.cell? ⟨k10, 0, none⟩ = some (.int .i64 0) := by rw [cell_of_row wr _ 0 _ _ _ hb10]; rfl
          have e1 : wr.cell? ⟨k10, 1, none⟩ = some (.slice fa F.length fc) := by rw [cell_of_row wr _ 1 _ _ _ hb10]; rfl
          have e2 : wr.cell? ⟨k10, 2, none⟩ = some (.int .u64 at_) := by rw [cell_of_row wr _ 2 _ _ _ hb10]; rfl
          have g0 : wr.cell? ⟨w.heap.size + 1, 0, none⟩ = some (.int .i64 0) := by rw [cell_of_row wr _ 0 _ _ _ hb8]; rfl
          have g1 : wr.cell? ⟨w.heap.size + 1, 1, none⟩ = some (.slice none 0 0) := by rw [cell_of_row wr _ 1 _ _ _ hb8]; rfl
          have g2 : wr.cell? ⟨w.heap.size + 1, 2, none⟩ = some (.int .u64 0) := by rw [cell_of_row wr _ 2 _ _ _ hb8]; rfl
          have f0 : wr.frozen? ⟨w.heap.size + 1, 0, none⟩ = false := frozen_of_row wr _ 0 _ _ hb8
          have f1 : wr.frozen? ⟨w.heap.size + 1, 1, none⟩ = false := frozen_of_row wr _ 1 _ _ hb8
          have f2 : wr.frozen? ⟨w.heap.size + 1, 2, none⟩ = false := frozen_of_row wr _ 2 _ _ hb8
          have hg := fun (W : World) (i : Nat) (u : Value) => (⟨rfl, rfl, rfl, by simp, fun j _ hj => heap_setCell_other W ⟨w.heap.size + 1, i, none⟩ j _ (fun e => hj (by simp [e]))⟩ : W.grownBy (W.setCell ⟨w.heap.size + 1, i, none⟩ u) (some (w.heap.size + 1)))
          have q0 := heap_setCell_same wr (w.heap.size + 1) 0 _ _ (.int .i64 0) hb8
          have q1 := heap_setCell_same _ (w.heap.size + 1) 1 _ _ (.slice fa F.length fc) q0
          have HTF := Lib.hid (((HT.out.keptBut (hg _ 0 (.int .i64 0)) hb8 (by intro c fz e; injection e with _ e; exact absurd e (by decide))).keptBut (hg _ 1 (.slice fa F.length fc)) q0 (by intro c fz e; injection e with _ e; exact absurd e (by decide))).keptBut (hg _ 2 (.int .u64 at_)) q1 (by intro c fz e; injection e with _ e; exact absurd e (by decide)))
          have HFF := Lib.hid (((HOW.out.keptBut (hg _ 0 (.int .i64 0)) hb8 (by intro c fz e; injection e with _ e; exact absurd e (by decide))).keptBut (hg _ 1 (.slice fa F.length fc)) q0 (by intro c fz e; injection e with _ e; exact absurd e (by decide))).keptBut (hg _ 2 (.int .u64 at_)) q1 (by intro c fz e; injection e with _ e; exact absurd e (by decide)))
          have HOF := Lib.hid (((HO.out.setCell (p := ⟨w.heap.size + 1, 0, none⟩) (by simp) (.int .i64 0)).setCell (p := ⟨w.heap.size + 1, 1, none⟩) (by simp) (.slice fa F.length fc)).setCell (p := ⟨w.heap.size + 1, 2, none⟩) (by simp) (.int .u64 at_))
          have hl8 := lt_of_block hb8
          clear hb10 hb8 hg q0 q1 hres
          go_wp2_with fail
          go_region
          go_wp2_with fail
          rw [HSTF.out]
          exact bodyPost_ret (v := .tuple #[.slice (some ⟨b, off, none⟩) X.length c1, .int .u64 at_, .agg #[.int .i64 0, .slice fa F.length fc, .int .u64 at_]]) (by simp [results, Try.results56, go_sem, g0, g1, g2]) rfl ⟨(some ⟨b, off, none⟩), c1, _, rfl, HTF.out.up (Old.refl _).drew, hc1, hcm1, ⟨_, rfl, HFF.out.up (Old.refl _).drew⟩, HOF.out.up (Old.refl _).drew⟩
  · have hmm : max now at_ = now := by omega
    have hmm' : max now at_ = now := hmm
    rw [hmm'] at HST
    clear hmm hmm' b0 b1 b2
    go_upto_region 18 with fail
    have hz : Old w2 (w2.alloc (.cells #[.int .i64 0, .slice none 0 0, .int .u64 now] 71)) := (Old.refl w2).alloc _
    have hbx := heap_alloc_new w2 (.cells #[.int .i64 0, .slice none 0 0, .int .u64 now] 71)
    have hF := Lib.hid (firstQ A c R _ (HR2.out.up hz) (by omega))
    have HB8 := Lib.hid (hz.block HKK8.out)
    have HO3 := Lib.hid (HO2.out.up hz)
    have HR3 := Lib.hid (HR2.out.up hz)
    have h10 := HO2.out.size
    have n10 : w.heap.size + 1 ≠ w2.heap.size := by have := lt_of_block HKK8.out; omega
    have HBX := Lib.hid hbx
    clear hz hbx
    generalize w2.alloc (.cells #[.int .i64 0, .slice none 0 0, .int .u64 now] 71) = W3 at *
    generalize w2.heap.size = k10 at *
    go_wp2_with fail
    refine hF.out.mono ?_
    rintro e w3 ⟨rfl, o3⟩
    have HI : Hid (FireRel w (w.heap.size + 1) k10 now (fireR R.length R now) (.slice A R.length c) (.int .i64 (oI (firstR R))) w3) :=
      ⟨A, c, R, [], .slice none 0 0, rfl, rfl, HC.out.1, HC.out.2, hm, by simpa using hm, by simp, HO3.out.up o3, HR3.out.up o3, o3.block HB8.out, o3.block HBX.out, Own.nil_ _ _ _ _⟩
    clear o3
    go_wp2_with fail
    go_loopw [0, 11] (fun s0 s11 wr => FireRel w (w.heap.size + 1) k10 now (fireR R.length R now) s0 s11 wr) (fun s0 _ _ => lenOf s0)
    case atStart => exact HI.out
    case round =>
      clear HI
      obtain ⟨A1, c1, X, F, fv, rfl, rfl, hc1, hcm1, hx1, hfx, hres, HO, HT, HB8, HB10, HOW⟩ := hrel
      cases hf : firstR X with
      | none =>
        have hoi : ¬ 0 ≤ oI none := by decide
        have HSTF : Hid (stepR R now ⟨3, id, at_⟩ = (X, now, ⟨0, F, now⟩)) := Lib.hid (by rw [HST.out, hres, fire_none hf]; simp)
        clear hf
        obtain ⟨fa, fc, rfl, _⟩ := HOW.out.shape
        have hb10 := HB10.out
        have hb8 := HB8.out
        have e0 : wr.cell? ⟨k10, 0, none⟩ = some (.int .i64 0) := by rw [cell_of_row wr _ 0 _ _ _ hb10]; rfl
        have e1 : wr.cell? ⟨k10, 1, none⟩ = some (.slice fa F.length fc) := by rw [cell_of_row wr _ 1 _ _ _ hb10]; rfl
        have e2 : wr.cell? ⟨k10, 2, none⟩ = some (.int .u64 now) := by rw [cell_of_row wr _ 2 _ _ _ hb10]; rfl
        have g0 : wr.cell? ⟨w.heap.size + 1, 0, none⟩ = some (.int .i64 0) := by rw [cell_of_row wr _ 0 _ _ _ hb8]; rfl
        have g1 : wr.cell? ⟨w.heap.size + 1, 1, none⟩ = some (.slice none 0 0) := by rw [cell_of_row wr _ 1 _ _ _ hb8]; rfl
        have g2 : wr.cell? ⟨w.heap.size + 1, 2, none⟩ = some (.int .u64 0) := by rw [cell_of_row wr _ 2 _ _ _ hb8]; rfl
        have f0 : wr.frozen? ⟨w.heap.size + 1, 0, none⟩ = false := frozen_of_row wr _ 0 _ _ hb8
        have f1 : wr.frozen? ⟨w.heap.size + 1, 1, none⟩ = false := frozen_of_row wr _ 1 _ _ hb8
        have f2 : wr.frozen? ⟨w.heap.size + 1, 2, none⟩ = false := frozen_of_row wr _ 2 _ _ hb8
        have hg := fun (W : World) (i : Nat) (u : Value) => (⟨rfl, rfl, rfl, by simp, fun j _ hj => heap_setCell_other W ⟨w.heap.size + 1, i, none⟩ j _ (fun e => hj (by simp [e]))⟩ : W.grownBy (W.setCell ⟨w.heap.size + 1, i, none⟩ u) (some (w.heap.size + 1)))
        have q0 := heap_setCell_same wr (w.heap.size + 1) 0 _ _ (.int .i64 0) hb8
        have q1 := heap_setCell_same _ (w.heap.size + 1) 1 _ _ (.slice fa F.length fc) q0
        have HTF := Lib.hid (((HT.out.keptBut (hg _ 0 (.int .i64 0)) hb8 (by intro c fz e; injection e with _ e; exact absurd e (by decide))).keptBut (hg _ 1 (.slice fa F.length fc)) q0 (by intro c fz e; injection e with _ e; exact absurd e (by decide))).keptBut (hg _ 2 (.int .u64 now)) q1 (by intro c fz e; injection e with _ e; exact absurd e (by decide)))
        have HFF := Lib.hid (((HOW.out.keptBut (hg _ 0 (.int .i64 0)) hb8 (by intro c fz e; injection e with _ e; exact absurd e (by decide))).keptBut (hg _ 1 (.slice fa F.length fc)) q0 (by intro c fz e; injection e with _ e; exact absurd e (by decide))).keptBut (hg _ 2 (.int .u64 now)) q1 (by intro c fz e; injection e with _ e; exact absurd e (by decide)))
        have HOF := Lib.hid (((HO.out.setCell (p := ⟨w.heap.size + 1, 0, none⟩) (by simp) (.int .i64 0)).setCell (p := ⟨w.heap.size + 1, 1, none⟩) (by simp) (.slice fa F.length fc)).setCell (p := ⟨w.heap.size + 1, 2, none⟩) (by simp) (.int .u64 now))
        have hl8 := lt_of_block hb8
        clear hb10 hb8 hg q0 q1 hres
        go_wp2_with fail
        go_region
        go_wp2_with fail
        rw [HSTF.out]
        exact bodyPost_ret (v := .tuple #[.slice A1 X.length c1, .int .u64 now, .agg #[.int .i64 0, .slice fa F.length fc, .int .u64 now]]) (by simp [results, Try.results56, go_sem, g0, g1, g2]) rfl ⟨A1, c1, _, rfl, HTF.out.up (Old.refl _).drew, hc1, hcm1, ⟨_, rfl, HFF.out.up (Old.refl _).drew⟩, HOF.out.up (Old.refl _).drew⟩
      | some k =>
        obtain ⟨j1, j2⟩ := firstN_spec X X.length (Nat.le_refl _)
        obtain ⟨kl, _⟩ := j2 k hf
        have hoi : oI (some k) = (k : Int) := rfl
        obtain ⟨b, off, rfl, hbl, _⟩ := HT.out.rs.at_ (by rw [rcells_length]; omega)
        obtain ⟨g0, g1⟩ := rcells_get X k _ (getD_of kl)
        have c0 : wr.cell? ⟨b, off + k * 2, none⟩ = some (.int .i64 (gt X k).2) := HT.out.rs.cellAt g0
        have c1' : wr.cell? ⟨b, off + k * 2 + 1, none⟩ = some (.int .u64 (gt X k).1) := by rw [Nat.add_assoc]; exact HT.out.rs.cellAt g1
        have k1 : (0 : Int) ≤ (k : Int) := by omega
        have k2 : (k : Int) < (X.length : Int) := by omega
        by_cases hle : (gt X k).1 ≤ now
        · have HNX : Hid (fireR R.length R now = ((F ++ [(gt X k).2]) ++ (fireR (X.eraseIdx k).length (X.eraseIdx k) now).1, (fireR (X.eraseIdx k).length (X.eraseIdx k) now).2)) := Lib.hid (by rw [hres, fire_go hf kl hle]; simp)
          have HLE : Hid ((X.eraseIdx k).length + 1 = X.length) := Lib.hid (by rw [List.length_eraseIdx, if_pos kl]; omega)
          have hF0 : SG w (w.heap.size + 1) k10 0 false false false (some ⟨b, off, none⟩) X F (gt X k).2 now fv undef wr.drew := ⟨HO.out.up (Old.refl wr).drew, HT.out, HB8.out, fun _ => HB10.out, n10, h10, (fun hb => by cases hb), fun _ => HOW.out.up (Old.refl wr).drew, (fun hb => by cases hb), (fun hb => by cases hb), (fun hb => by cases hb)⟩
          have HG0 : Hid (∀ ww, Ts ww 117 (some ⟨b, off, none⟩) (rcells X) → ww.cell? ⟨b, off + k * 2, none⟩ = some (.int .i64 (gt X k).2)) := Lib.hid (fun ww h => h.rs.cellAt g0)
          clear hf j1 j2 g0 g1 hres
          generalize gt X k = p at *
          obtain ⟨p1, p2⟩ := p
          replace c0 : wr.cell? ⟨b, off + k * 2, none⟩ = some (.int .i64 p2) := c0
          replace c1' : wr.cell? ⟨b, off + k * 2 + 1, none⟩ = some (.int .u64 p1) := c1'
          replace hle : p1 ≤ now := hle
          go_upto_region 21 with fail
          obtain ⟨fa0, fc0, rfl, _⟩ := HOW.out.shape
          refine wp_region_steps2 (by kernel_rfl) (by kernel_rfl) (SJ w (w.heap.size + 1) k10 b off X.length c1 k X F p2 now (.slice fa0 F.length fc0) (.agg #[.int .i64 3, .int .i64 id, .int .u64 at_]) (.pointer (some ⟨w.heap.size, 0, none⟩)) (.slice none 0 0) (.int .u64 0) (.int .i64 (oI (idx R id))) (.slice A R.length c) (.pointer (some ⟨w.heap.size, 1, none⟩)) (.int .i64 id) (.int .i64 (oI (idx R id))) (.pointer (some ⟨w.heap.size, 0, none⟩)) (.int .i64 3) (.bool false) (.bool false) (.bool false) (.bool false) (.bool true) (.bool true) (.int .u64 now) (.pointer (some ⟨w.heap.size, 2, none⟩)) (.int .u64 at_) (.int .u64 now) (.int .u64 now) (.agg #[.int .i64 0, .slice none 0 0, .int .u64 now]) (.slice A R.length c) (.int .i64 (oI (firstR R))) (.int .i64 (oI (some k))) (.bool true) (.bool true) (.slice (some ⟨b, off, none⟩) X.length c1) (.int .i64 (oI (some k))) (.pointer (some ⟨b, off + k * 2, none⟩)) (.pointer (some ⟨b, off + k * 2 + 1, none⟩)) (.int .u64 p1) (.int .u64 now) (.bool true) (.bool true) (u83) (u84) (u85) (u86) (u87) (u88) (u89) (u90) (u91) (u92) (u93) (u94) (u95) (u96) (u97)) ?_ ?_ ⟨?_, ?_, ?_, ?_, ?_, ?_, ?_, ?_, ?_, ?_, ?_, trivial⟩
          · exact ⟨false, false, false, false, false, false, false, false, false, false, false, 0, undef, rfl, rfl, hF0⟩
          · rintro a w1 ⟨b0, b1, b2, b3, b4, b5, b6, b7, b8, b9, b10, ko, v93, hl, rfl, hF⟩
            have hl' := congrArg Array.toList hl
            simp at hl'
            obtain ⟨rfl, rfl, rfl, rfl, rfl, rfl, rfl, rfl, rfl, rfl, rfl⟩ := hl'
            have HO93 := Lib.hid (hF.f rfl)
            have HOLD := Lib.hid hF.old
            have H8 := Lib.hid hF.c8
            have H10 := Lib.hid (hF.d10 rfl)
            have hW := Lib.hid (withoutQ b off c1 X k w1 hF.ts kl hc1 hcm1 (by omega))
            clear hF
            go_wp2_with fail
            refine hW.out.mono ?_
            rintro e w4 ⟨v4, rfl, ho4, hd4⟩
            obtain ⟨A4, c4, rfl, ht4, hc4, hcm4⟩ := ho4.shape
            have hFq := Lib.hid (firstQ A4 c4 (X.eraseIdx k) w4 ht4 (by have := HLE.out; omega))
            have HD4 := Lib.hid hd4
            have HT4 := Lib.hid ht4
            clear hd4 ht4 ho4 hW
            go_wp2_with fail
            refine hFq.out.mono ?_
            rintro e w5 ⟨rfl, o5⟩
            have hd5 := HD4.out.up o5
            have HREL : Hid (FireRel w (w.heap.size + 1) k10 now (fireR R.length R now) (.slice A4 (X.eraseIdx k).length c4) (.int .i64 (oI (firstR (X.eraseIdx k)))) w5) := Lib.hid ⟨A4, c4, X.eraseIdx k, F ++ [p2], v93, rfl, rfl, hc4, hcm4, by have := HLE.out; omega, by have := HLE.out; rw [List.length_append]; simp only [List.length_cons, List.length_nil]; omega, HNX.out, HOLD.out.up hd5, HT4.out.up o5, hd5.block H8.out, hd5.block H10.out, HO93.out.up hd5⟩
            have HLT : Hid ((X.eraseIdx k).length < X.length) := Lib.hid (by have := HLE.out; omega)
            clear hd5 o5 hFq
            go_wp2_with fail
            go_roundw
            case rel => exact HREL.out
            case measure => exact HLT.out
          · intro listed a w1 K hs hcl hf hall hI hK
            obtain ⟨b0, b1, b2, b3, b4, b5, b6, b7, b8, b9, b10, ko, v93, rfl, rfl, hF⟩ := hI
            have hf' : b0 = false := hf
            subst hf'
            have hb1 : b1 = false := by
              cases b1
              · rfl
              · exact absurd (show false = true from hcl 1 _ rfl rfl ⟨0, .data⟩ (by first | exact .head _ | simp) rfl) (by decide)
            subst hb1
            have hb9 : b9 = false := by
              cases b9
              · rfl
              · exact absurd (show false = true from hcl 9 _ rfl rfl ⟨0, .phase⟩ (by first | exact .head _ | simp) rfl) (by decide)
            subst hb9
            have hb10 : b10 = false := by
              cases b10
              · rfl
              · exact absurd (show false = true from hcl 10 _ rfl rfl ⟨0, .phase⟩ (by first | exact .head _ | simp) rfl) (by decide)
            subst hb10
            have hb8 : b8 = false := by
              cases b8
              · rfl
              · exact absurd (show false = true from hcl 8 _ rfl rfl ⟨1, .data⟩ (by first | exact .head _ | simp) rfl) (by decide)
            subst hb8
            clear hall hcl hs hf
            go_simp
            exact hK _ _ ⟨true, false, b2, b3, b4, b5, b6, b7, false, false, false, ko, v93, rfl, rfl, hF⟩
          · intro listed a w1 K hs hcl hf hall hI hK
            obtain ⟨b0, b1, b2, b3, b4, b5, b6, b7, b8, b9, b10, ko, v93, rfl, rfl, hF⟩ := hI
            have hf' : b1 = false := hf
            subst hf'
            have hq0 : b0 = true := hall ⟨0, .data⟩ (by first | exact .head _ | simp) rfl
            subst hq0
            have hb8 : b8 = false := by
              cases b8
              · rfl
              · exact absurd (show false = true from hcl 8 _ rfl rfl ⟨1, .data⟩ (by first | exact .head _ | simp) rfl) (by decide)
            subst hb8
            have hb9 : b9 = false := by
              cases b9
              · rfl
              · exact absurd (show false = true from hcl 9 _ rfl rfl ⟨1, .phase⟩ (by first | exact .head _ | simp) rfl) (by decide)
            subst hb9
            have hb10 : b10 = false := by
              cases b10
              · rfl
              · exact absurd (show false = true from hcl 10 _ rfl rfl ⟨1, .phase⟩ (by first | exact .head _ | simp) rfl) (by decide)
            subst hb10
            clear hall hcl hs hf
            have q1 : w1.cell? ⟨k10, 1, none⟩ = some (.slice fa0 F.length fc0) := by rw [cell_of_row w1 _ 1 _ _ _ (hF.c10 rfl)]; rfl
            go_simp
            exact hK _ _ ⟨true, true, b2, b3, b4, b5, b6, b7, false, false, false, ko, v93, rfl, rfl, hF⟩
          · intro listed a w1 K hs hcl hf hall hI hK
            obtain ⟨b0, b1, b2, b3, b4, b5, b6, b7, b8, b9, b10, ko, v93, rfl, rfl, hF⟩ := hI
            have hf' : b2 = false := hf
            subst hf'
            have hb4 : b4 = false := by
              cases b4
              · rfl
              · exact absurd (show false = true from hcl 4 _ rfl rfl ⟨2, .data⟩ (by first | exact .head _ | simp) rfl) (by decide)
            subst hb4
            have hb9 : b9 = false := by
              cases b9
              · rfl
              · exact absurd (show false = true from hcl 9 _ rfl rfl ⟨2, .phase⟩ (by first | exact .head _ | simp) rfl) (by decide)
            subst hb9
            have hb10 : b10 = false := by
              cases b10
              · rfl
              · exact absurd (show false = true from hcl 10 _ rfl rfl ⟨2, .phase⟩ (by first | exact .head _ | simp) rfl) (by decide)
            subst hb10
            have hb5 : b5 = false := by
              cases b5
              · rfl
              · exact absurd (show false = true from hcl 5 _ rfl rfl ⟨4, .data⟩ (by first | exact .head _ | simp) rfl) (by decide)
            subst hb5
            have hb6 : b6 = false := by
              cases b6
              · rfl
              · exact absurd (show false = true from hcl 6 _ rfl rfl ⟨5, .data⟩ (by first | exact .head _ | simp) rfl) (by decide)
            subst hb6
            have hb7 : b7 = false := by
              cases b7
              · rfl
              · exact absurd (show false = true from hcl 7 _ rfl rfl ⟨6, .data⟩ (by first | exact .head _ | simp) rfl) (by decide)
            subst hb7
            have hb8 : b8 = false := by
              cases b8
              · rfl
              · exact absurd (show false = true from hcl 8 _ rfl rfl ⟨7, .data⟩ (by first | exact .head _ | simp) rfl) (by decide)
            subst hb8
            clear hall hcl hs hf
            go_simp
            exact hK _ _ ⟨b0, b1, true, b3, false, false, false, false, false, false, false, ko, v93, rfl, rfl, hF⟩
          · intro listed a w1 K hs hcl hf hall hI hK
            obtain ⟨b0, b1, b2, b3, b4, b5, b6, b7, b8, b9, b10, ko, v93, rfl, rfl, hF⟩ := hI
            have hf' : b3 = false := hf
            subst hf'
            have hb4 : b4 = false := by
              cases b4
              · rfl
              · exact absurd (show false = true from hcl 4 _ rfl rfl ⟨3, .data⟩ (by first | exact .head _ | simp) rfl) (by decide)
            subst hb4
            have hb9 : b9 = false := by
              cases b9
              · rfl
              · exact absurd (show false = true from hcl 9 _ rfl rfl ⟨3, .phase⟩ (by first | exact .head _ | simp) rfl) (by decide)
            subst hb9
            have hb10 : b10 = false := by
              cases b10
              · rfl
              · exact absurd (show false = true from hcl 10 _ rfl rfl ⟨3, .phase⟩ (by first | exact .head _ | simp) rfl) (by decide)
            subst hb10
            have hb5 : b5 = false := by
              cases b5
              · rfl
              · exact absurd (show false = true from hcl 5 _ rfl rfl ⟨4, .data⟩ (by first | exact .head _ | simp) rfl) (by decide)
            subst hb5
            have hb6 : b6 = false := by
              cases b6
              · rfl
              · exact absurd (show false = true from hcl 6 _ rfl rfl ⟨5, .data⟩ (by first | exact .head _ | simp) rfl) (by decide)
            subst hb6
            have hb7 : b7 = false := by
              cases b7
              · rfl
              · exact absurd (show false = true from hcl 7 _ rfl rfl ⟨6, .data⟩ (by first | exact .head _ | simp) rfl) (by decide)
            subst hb7
            have hb8 : b8 = false := by
              cases b8
              · rfl
              · exact absurd (show false = true from hcl 8 _ rfl rfl ⟨7, .data⟩ (by first | exact .head _ | simp) rfl) (by decide)
            subst hb8
            clear hall hcl hs hf
            go_simp
            exact hK _ _ ⟨b0, b1, b2, true, false, false, false, false, false, false, false, ko, v93, rfl, rfl, hF⟩
          · intro listed a w1 K hs hcl hf hall hI hK
            obtain ⟨b0, b1, b2, b3, b4, b5, b6, b7, b8, b9, b10, ko, v93, rfl, rfl, hF⟩ := hI
            have hf' : b4 = false := hf
            subst hf'
            have hq2 : b2 = true := hall ⟨2, .data⟩ (by first | exact .head _ | simp) rfl
            subst hq2
            have hq3 : b3 = true := hall ⟨3, .data⟩ (by first | exact .head _ | simp) rfl
            subst hq3
            have hb5 : b5 = false := by
              cases b5
              · rfl
              · exact absurd (show false = true from hcl 5 _ rfl rfl ⟨4, .data⟩ (by first | exact .head _ | simp) rfl) (by decide)
            subst hb5
            have hb9 : b9 = false := by
              cases b9
              · rfl
              · exact absurd (show false = true from hcl 9 _ rfl rfl ⟨4, .phase⟩ (by first | exact .head _ | simp) rfl) (by decide)
            subst hb9
            have hb10 : b10 = false := by
              cases b10
              · rfl
              · exact absurd (show false = true from hcl 10 _ rfl rfl ⟨4, .phase⟩ (by first | exact .head _ | simp) rfl) (by decide)
            subst hb10
            have hb6 : b6 = false := by
              cases b6
              · rfl
              · exact absurd (show false = true from hcl 6 _ rfl rfl ⟨5, .data⟩ (by first | exact .head _ | simp) rfl) (by decide)
            subst hb6
            have hb7 : b7 = false := by
              cases b7
              · rfl
              · exact absurd (show false = true from hcl 7 _ rfl rfl ⟨6, .data⟩ (by first | exact .head _ | simp) rfl) (by decide)
            subst hb7
            have hb8 : b8 = false := by
              cases b8
              · rfl
              · exact absurd (show false = true from hcl 8 _ rfl rfl ⟨7, .data⟩ (by first | exact .head _ | simp) rfl) (by decide)
            subst hb8
            clear hall hcl hs hf
            go_simp
            exact hK _ _ ⟨b0, b1, true, true, true, false, false, false, false, false, false, ko, v93, rfl, rfl, hF⟩
          · intro listed a w1 K hs hcl hf hall hI hK
            obtain ⟨b0, b1, b2, b3, b4, b5, b6, b7, b8, b9, b10, ko, v93, rfl, rfl, hF⟩ := hI
            have hf' : b5 = false := hf
            subst hf'
            have hq4 : b4 = true := hall ⟨4, .data⟩ (by first | exact .head _ | simp) rfl
            subst hq4
            have hq2 : b2 = true := hcl 4 _ rfl rfl ⟨2, .data⟩ (by first | exact .head _ | simp) rfl
            subst hq2
            have hq3 : b3 = true := hcl 4 _ rfl rfl ⟨3, .data⟩ (by first | exact .head _ | simp) rfl
            subst hq3
            have hb6 : b6 = false := by
              cases b6
              · rfl
              · exact absurd (show false = true from hcl 6 _ rfl rfl ⟨5, .data⟩ (by first | exact .head _ | simp) rfl) (by decide)
            subst hb6
            have hb9 : b9 = false := by
              cases b9
              · rfl
              · exact absurd (show false = true from hcl 9 _ rfl rfl ⟨5, .phase⟩ (by first | exact .head _ | simp) rfl) (by decide)
            subst hb9
            have hb10 : b10 = false := by
              cases b10
              · rfl
              · exact absurd (show false = true from hcl 10 _ rfl rfl ⟨5, .phase⟩ (by first | exact .head _ | simp) rfl) (by decide)
            subst hb10
            have hb7 : b7 = false := by
              cases b7
              · rfl
              · exact absurd (show false = true from hcl 7 _ rfl rfl ⟨6, .data⟩ (by first | exact .head _ | simp) rfl) (by decide)
            subst hb7
            have hb8 : b8 = false := by
              cases b8
              · rfl
              · exact absurd (show false = true from hcl 8 _ rfl rfl ⟨7, .data⟩ (by first | exact .head _ | simp) rfl) (by decide)
            subst hb8
            clear hall hcl hs hf
            go_simp
            exact hK _ _ ⟨b0, b1, true, true, true, true, false, false, false, false, false, ko, v93, rfl, rfl, hF⟩
          · intro listed a w1 K hs hcl hf hall hI hK
            obtain ⟨b0, b1, b2, b3, b4, b5, b6, b7, b8, b9, b10, ko, v93, rfl, rfl, hF⟩ := hI
            have hf' : b6 = false := hf
            subst hf'
            have hq5 : b5 = true := hall ⟨5, .data⟩ (by first | exact .head _ | simp) rfl
            subst hq5
            have hq4 : b4 = true := hcl 5 _ rfl rfl ⟨4, .data⟩ (by first | exact .head _ | simp) rfl
            subst hq4
            have hq2 : b2 = true := hcl 4 _ rfl rfl ⟨2, .data⟩ (by first | exact .head _ | simp) rfl
            subst hq2
            have hq3 : b3 = true := hcl 4 _ rfl rfl ⟨3, .data⟩ (by first | exact .head _ | simp) rfl
            subst hq3
            have hb7 : b7 = false := by
              cases b7
              · rfl
              · exact absurd (show false = true from hcl 7 _ rfl rfl ⟨6, .data⟩ (by first | exact .head _ | simp) rfl) (by decide)
            subst hb7
            have hb9 : b9 = false := by
              cases b9
              · rfl
              · exact absurd (show false = true from hcl 9 _ rfl rfl ⟨6, .phase⟩ (by first | exact .head _ | simp) rfl) (by decide)
            subst hb9
            have hb10 : b10 = false := by
              cases b10
              · rfl
              · exact absurd (show false = true from hcl 10 _ rfl rfl ⟨6, .phase⟩ (by first | exact .head _ | simp) rfl) (by decide)
            subst hb10
            have hb8 : b8 = false := by
              cases b8
              · rfl
              · exact absurd (show false = true from hcl 8 _ rfl rfl ⟨7, .data⟩ (by first | exact .head _ | simp) rfl) (by decide)
            subst hb8
            clear hall hcl hs hf
            have q1 := HG0.out w1 hF.ts
            go_simp
            exact hK _ _ ⟨b0, b1, true, true, true, true, true, false, false, false, false, ko, v93, rfl, rfl, hF⟩
          · intro listed a w1 K hs hcl hf hall hI hK
            obtain ⟨b0, b1, b2, b3, b4, b5, b6, b7, b8, b9, b10, ko, v93, rfl, rfl, hF⟩ := hI
            have hf' : b7 = false := hf
            subst hf'
            have hq6 : b6 = true := hall ⟨6, .data⟩ (by first | exact .head _ | simp) rfl
            subst hq6
            have hq5 : b5 = true := hcl 6 _ rfl rfl ⟨5, .data⟩ (by first | exact .head _ | simp) rfl
            subst hq5
            have hq4 : b4 = true := hcl 5 _ rfl rfl ⟨4, .data⟩ (by first | exact .head _ | simp) rfl
            subst hq4
            have hq2 : b2 = true := hcl 4 _ rfl rfl ⟨2, .data⟩ (by first | exact .head _ | simp) rfl
            subst hq2
            have hq3 : b3 = true := hcl 4 _ rfl rfl ⟨3, .data⟩ (by first | exact .head _ | simp) rfl
            subst hq3
            have hb8 : b8 = false := by
              cases b8
              · rfl
              · exact absurd (show false = true from hcl 8 _ rfl rfl ⟨7, .data⟩ (by first | exact .head _ | simp) rfl) (by decide)
            subst hb8
            have hb9 : b9 = false := by
              cases b9
              · rfl
              · exact absurd (show false = true from hcl 9 _ rfl rfl ⟨7, .phase⟩ (by first | exact .head _ | simp) rfl) (by decide)
            subst hb9
            have hb10 : b10 = false := by
              cases b10
              · rfl
              · exact absurd (show false = true from hcl 10 _ rfl rfl ⟨7, .phase⟩ (by first | exact .head _ | simp) rfl) (by decide)
            subst hb10
            clear hall hcl hs hf
            go_simp
            exact hK _ _ ⟨b0, b1, true, true, true, true, true, true, false, false, false, w1.heap.size, v93, rfl, rfl, hF.mkO⟩
          · intro listed a w1 K hs hcl hf hall hI hK
            obtain ⟨b0, b1, b2, b3, b4, b5, b6, b7, b8, b9, b10, ko, v93, rfl, rfl, hF⟩ := hI
            have hf' : b8 = false := hf
            subst hf'
            have hq1 : b1 = true := hall ⟨1, .data⟩ (by first | exact .head _ | simp) rfl
            subst hq1
            have hq7 : b7 = true := hall ⟨7, .data⟩ (by first | exact .head _ | simp) rfl
            subst hq7
            have hq0 : b0 = true := hcl 1 _ rfl rfl ⟨0, .data⟩ (by first | exact .head _ | simp) rfl
            subst hq0
            have hq6 : b6 = true := hcl 7 _ rfl rfl ⟨6, .data⟩ (by first | exact .head _ | simp) rfl
            subst hq6
            have hq5 : b5 = true := hcl 6 _ rfl rfl ⟨5, .data⟩ (by first | exact .head _ | simp) rfl
            subst hq5
            have hq4 : b4 = true := hcl 5 _ rfl rfl ⟨4, .data⟩ (by first | exact .head _ | simp) rfl
            subst hq4
            have hq2 : b2 = true := hcl 4 _ rfl rfl ⟨2, .data⟩ (by first | exact .head _ | simp) rfl
            subst hq2
            have hq3 : b3 = true := hcl 4 _ rfl rfl ⟨3, .data⟩ (by first | exact .head _ | simp) rfl
            subst hq3
            have hb9 : b9 = false := by
              cases b9
              · rfl
              · exact absurd (show false = true from hcl 9 _ rfl rfl ⟨8, .phase⟩ (by first | exact .head _ | simp) rfl) (by decide)
            subst hb9
            have hb10 : b10 = false := by
              cases b10
              · rfl
              · exact absurd (show false = true from hcl 10 _ rfl rfl ⟨8, .data⟩ (by first | exact .head _ | simp) rfl) (by decide)
            subst hb10
            clear hall hcl hs hf
            have hown := hF.e rfl
            refine step_appO w1 (by rfl) _ _ 22 (by rfl) w.heap.size 3 (.int .i64 0) 1 8 Try.underlying22 (by kernel_rfl) rfl (by decide) (by decide) (.slice fa0 F.length fc0) F.length (intv F) (by rfl) hown (some ⟨ko, 0, none⟩) 1 1 [.int .i64 p2] (by rfl) (Or.inr ⟨ko, 0, rfl, fun j u hu => by have := World.news_of_block (hF.o rfl rfl) j u hu; rwa [Addr.add_lit] at this⟩) rfl rfl (by omega) hF.old.size ?_
            intro v' w' ho hg hw
            exact hK _ _ ⟨true, true, true, true, true, true, true, true, true, false, false, ko, v', rfl, rfl, hF.app (by rw [List.length_append]; rw [show intv (F ++ [p2]) = intv F ++ [.int .i64 p2] by simp [intv]]; exact ho) hg⟩
          · intro listed a w1 K hs hcl hf hall hI hK
            obtain ⟨b0, b1, b2, b3, b4, b5, b6, b7, b8, b9, b10, ko, v93, rfl, rfl, hF⟩ := hI
            have hf' : b9 = false := hf
            subst hf'
            have hq0 : b0 = true := hall ⟨0, .phase⟩ (by first | exact .head _ | simp) rfl
            subst hq0
            have hq1 : b1 = true := hall ⟨1, .phase⟩ (by first | exact .head _ | simp) rfl
            subst hq1
            have hq2 : b2 = true := hall ⟨2, .phase⟩ (by first | exact .head _ | simp) rfl
            subst hq2
            have hq3 : b3 = true := hall ⟨3, .phase⟩ (by first | exact .head _ | simp) rfl
            subst hq3
            have hq4 : b4 = true := hall ⟨4, .phase⟩ (by first | exact .head _ | simp) rfl
            subst hq4
            have hq5 : b5 = true := hall ⟨5, .phase⟩ (by first | exact .head _ | simp) rfl
            subst hq5
            have hq6 : b6 = true := hall ⟨6, .phase⟩ (by first | exact .head _ | simp) rfl
            subst hq6
            have hq7 : b7 = true := hall ⟨7, .phase⟩ (by first | exact .head _ | simp) rfl
            subst hq7
            have hq8 : b8 = true := hall ⟨8, .phase⟩ (by first | exact .head _ | simp) rfl
            subst hq8
            have hb10 : b10 = false := by
              cases b10
              · rfl
              · exact absurd (show false = true from hcl 10 _ rfl rfl ⟨9, .data⟩ (by first | exact .head _ | simp) rfl) (by decide)
            subst hb10
            clear hall hcl hs hf
            go_simp
            exact hK _ _ ⟨true, true, true, true, true, true, true, true, true, true, false, ko, v93, rfl, rfl, hF⟩
          · intro listed a w1 K hs hcl hf hall hI hK
            obtain ⟨b0, b1, b2, b3, b4, b5, b6, b7, b8, b9, b10, ko, v93, rfl, rfl, hF⟩ := hI
            have hf' : b10 = false := hf
            subst hf'
            have hq9 : b9 = true := hall ⟨9, .data⟩ (by first | exact .head _ | simp) rfl
            subst hq9
            have hq8 : b8 = true := hall ⟨8, .data⟩ (by first | exact .head _ | simp) rfl
            subst hq8
            have hq0 : b0 = true := hall ⟨0, .phase⟩ (by first | exact .head _ | simp) rfl
            subst hq0
            have hq1 : b1 = true := hall ⟨1, .phase⟩ (by first | exact .head _ | simp) rfl
            subst hq1
            have hq2 : b2 = true := hall ⟨2, .phase⟩ (by first | exact .head _ | simp) rfl
            subst hq2
            have hq3 : b3 = true := hall ⟨3, .phase⟩ (by first | exact .head _ | simp) rfl
            subst hq3
            have hq4 : b4 = true := hall ⟨4, .phase⟩ (by first | exact .head _ | simp) rfl
            subst hq4
            have hq5 : b5 = true := hall ⟨5, .phase⟩ (by first | exact .head _ | simp) rfl
            subst hq5
            have hq6 : b6 = true := hall ⟨6, .phase⟩ (by first | exact .head _ | simp) rfl
            subst hq6
            have hq7 : b7 = true := hall ⟨7, .phase⟩ (by first | exact .head _ | simp) rfl
            subst hq7
            clear hall hcl hs hf
            have q1 : w1.cell? ⟨k10, 1, none⟩ = some (.slice fa0 F.length fc0) := by rw [cell_of_row w1 _ 1 _ _ _ (hF.c10 rfl)]; rfl
            have q2 : w1.frozen? ⟨k10, 1, none⟩ = false := frozen_of_row w1 _ 1 _ _ (hF.c10 rfl)
            have hO93 := hF.f rfl
            have hcells : v93.oneCell' = true := by obtain ⟨x1, x2, rfl, _⟩ := hO93.shape; rfl
            obtain ⟨x1, x2, rfl, _⟩ := hO93.shape
            rw [show (F ++ [p2]).length = F.length + 1 by simp] at hF
            go_simp
            exact hK _ _ ⟨true, true, true, true, true, true, true, true, true, true, true, ko, .slice x1 (F.length + 1) x2, rfl, rfl, hF.store⟩
        · have HSTF : Hid (stepR R now ⟨3, id, at_⟩ = (X, now, ⟨0, F, now⟩)) := Lib.hid (by rw [HST.out, hres, fire_stop hf hle]; simp)
          clear hf j1 j2 g0 g1
          generalize gt X k = p at *
          obtain ⟨p1, p2⟩ := p
          replace c0 : wr.cell? ⟨b, off + k * 2, none⟩ = some (.int .i64 p2) := c0
          replace c1' : wr.cell? ⟨b, off + k * 2 + 1, none⟩ = some (.int .u64 p1) := c1'
          replace hle : ¬ p1 ≤ now := hle
          obtain ⟨fa, fc, rfl, _⟩ := HOW.out.shape
          have hb10 := HB10.out
          have hb8 := HB8.out
          have e0 : wr.cell? ⟨k10, 0, none⟩ = some (.int .i64 0) := by rw [cell_of_row wr _ 0 _ _ _ hb10]; rfl
          have e1 : wr.cell? ⟨k10, 1, none⟩ = some (.slice fa F.length fc) := by rw [cell_of_row wr _ 1 _ _ _ hb10]; rfl
          have e2 : wr.cell? ⟨k10, 2, none⟩ = some (.int .u64 now) := by rw [cell_of_row wr _ 2 _ _ _ hb10]; rfl
          have g0 : wr.cell? ⟨w.heap.size + 1, 0, none⟩ = some (.int .i64 0) := by rw [cell_of_row wr _ 0 _ _ _ hb8]; rfl
          have g1 : wr.cell? ⟨w.heap.size + 1, 1, none⟩ = some (.slice none 0 0) := by rw [cell_of_row wr _ 1 _ _ _ hb8]; rfl
          have g2 : wr.cell? ⟨w.heap.size + 1, 2, none⟩ = some (.int .u64 0) := by rw [cell_of_row wr _ 2 _ _ _ hb8]; rfl
          have f0 : wr.frozen? ⟨w.heap.size + 1, 0, none⟩ = false := frozen_of_row wr _ 0 _ _ hb8
          have f1 : wr.frozen? ⟨w.heap.size + 1, 1, none⟩ = false := frozen_of_row wr _ 1 _ _ hb8
          have f2 : wr.frozen? ⟨w.heap.size + 1, 2, none⟩ = false := frozen_of_row wr _ 2 _ _ hb8
          have hg := fun (W : World) (i : Nat) (u : Value) => (⟨rfl, rfl, rfl, by simp, fun j _ hj => heap_setCell_other W ⟨w.heap.size + 1, i, none⟩ j _ (fun e => hj (by simp [e]))⟩ : W.grownBy (W.setCell ⟨w.heap.size + 1, i, none⟩ u) (some (w.heap.size + 1)))
          have q0 := heap_setCell_same wr (w.heap.size + 1) 0 _ _ (.int .i64 0) hb8
          have q1 := heap_setCell_same _ (w.heap.size + 1) 1 _ _ (.slice fa F.length fc) q0
          have HTF := Lib.hid (((HT.out.keptBut (hg _ 0 (.int .i64 0)) hb8 (by intro c fz e; injection e with _ e; exact absurd e (by decide))).keptBut (hg _ 1 (.slice fa F.length fc)) q0 (by intro c fz e; injection e with _ e; exact absurd e (by decide))).keptBut (hg _ 2 (.int .u64 now)) q1 (by intro c fz e; injection e with _ e; exact absurd e (by decide)))
          have HFF := Lib.hid (((HOW.out.keptBut (hg _ 0 (.int .i64 0)) hb8 (by intro c fz e; injection e with _ e; exact absurd e (by decide))).keptBut (hg _ 1 (.slice fa F.length fc)) q0 (by intro c fz e; injection e with _ e; exact absurd e (by decide))).keptBut (hg _ 2 (.int .u64 now)) q1 (by intro c fz e; injection e with _ e; exact absurd e (by decide)))
          have HOF := Lib.hid (((HO.out.setCell (p := ⟨w.heap.size + 1, 0, none⟩) (by simp) (.int .i64 0)).setCell (p := ⟨w.heap.size + 1, 1, none⟩) (by simp) (.slice fa F.length fc)).setCell (p := ⟨w.heap.size + 1, 2, none⟩) (by simp) (.int .u64 now))
          have hl8 := lt_of_block hb8
          clear hb10 hb8 hg q0 q1 hres
          go_wp2_with fail
          go_region
          go_wp2_with fail
          rw [HSTF.out]
          exact bodyPost_ret (v := .tuple #[.slice (some ⟨b, off, none⟩) X.length c1, .int .u64 now, .agg #[.int .i64 0, .slice fa F.length fc, .int .u64 now]]) (by simp [results, Try.results56, go_sem, g0, g1, g2]) rfl ⟨(some ⟨b, off, none⟩), c1, _, rfl, HTF.out.up (Old.refl _).drew, hc1, hcm1, ⟨_, rfl, HFF.out.up (Old.refl _).drew⟩, HOF.out.up (Old.refl _).drew⟩
end Go.Proofs.Ytlpaemlgmmmbmaa
