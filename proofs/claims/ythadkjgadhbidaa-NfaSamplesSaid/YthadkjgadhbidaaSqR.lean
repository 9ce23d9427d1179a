/-
  The reference's reads: the places that lie a byte on.
-/
import Derived.Test.YthadkjgadhbidaaSqM
import Derived.Test.YthadkjgadhbidaaStep
import Derived.Test.YthadkjgadhbidaaTxt
namespace Go.Proofs.Ythadkjgadhbidaa
open Go.RowKit
set_option linter.unusedVariables false

theorem wp_region_steps2U {P : Program} {ops : Array Oper} {Q : Exit → Act → World → Prop} {U : Type} {id : Nat} {a : Act} {w : World} (hm : P.follows .mixedOrders = true) (hto : TextOrder2 ops = true) (I : U → Array Bool → Act → World → Prop)
    (h0 : ∃ u, I u (Array.replicate ops.size false) a { w with drawn := w.drawn + 1 })
    (hdone : ∀ u a w, I u (Array.replicate ops.size true) a w → Q .normal a w)
    (hstep : ∀ u, Steps2 (StepInv2 P ops Q (I u)) 0 ops.toList) : (Code.region id ops true).wp P Q a w := by
  obtain ⟨u, h⟩ := h0
  exact wp_region_steps2 hm hto (I u) h (hdone u) (hstep u)
theorem info_q8 : (Try.prog.info? 5).map (fun i => (i.zero, i.size, i.bytes)) = some (some (.int .u8 0), 1, 1) := by kernel_rfl
theorem qtxt_one (t : List Nat) : (txt t).all Value.oneCell' = true := by simp [txt, Value.oneCell']
theorem qtxt_len (t : List Nat) : (txt t).length = t.length := by simp [txt]
theorem qtxt_snoc (t : List Nat) (c : Nat) : txt (t ++ [c]) = txt t ++ [.int .u8 (c : Int)] := by simp [txt]
/-- The places made: their spots, and their texts. -/
def RdL (w : World) (t : List Nat) : List Pr → List (Sp × Nat) → Prop
  | [], [] => True
  | y :: L, m :: M => (y.p = m.1 ∧ y.n = t.length + 1 ∧ Ts w 5 y.A (txt (t ++ [m.2]))) ∧ RdL w t L M
  | _, _ => False
theorem RdL.keep {w w' : World} {t : List Nat} (hk : ∀ A xs, Ts w 5 A xs → Ts w' 5 A xs) : ∀ {L : List Pr} {M : List (Sp × Nat)}, RdL w t L M → RdL w' t L M
  | [], [], h => h
  | y :: L, m :: M, h => ⟨⟨h.1.1, h.1.2.1, hk _ _ h.1.2.2⟩, RdL.keep hk h.2⟩
  | [], m :: M, h => h.elim
  | y :: L, [], h => h.elim
theorem RdL.snoc {w : World} {t : List Nat} {y : Pr} {q : Sp} {c : Nat} (hy : y.p = q ∧ y.n = t.length + 1 ∧ Ts w 5 y.A (txt (t ++ [c]))) : ∀ {L : List Pr} {M : List (Sp × Nat)}, RdL w t L M → RdL w t (L ++ [y]) (M ++ [(q, c)])
  | [], [], h => ⟨hy, trivial⟩
  | x :: L, m :: M, h => ⟨h.1, RdL.snoc hy h.2⟩
  | [], m :: M, h => h.elim
  | x :: L, [], h => h.elim
theorem RdL.len {w : World} {t : List Nat} : ∀ {L : List Pr} {M : List (Sp × Nat)}, RdL w t L M → L.length = M.length
  | [], [], h => rfl
  | y :: L, m :: M, h => by simp [RdL.len h.2]
  | [], m :: M, h => h.elim
  | y :: L, [], h => h.elim
/-- In the region that makes a place with a longer text, and appends it. -/
structure RF (W1 W : World) (B : Nat) (lz : Value) (L : List Pr) (t : List Nat) (cb lf : Nat) (bb : Bool) (ka kc kp : Nat) (va vb vc : Value) (b3 b6 b8 b9 b11 b12 : Bool) (ww : World) : Prop where
  o1 : Old W1 ww
  hb : W1.heap.size ≤ B
  wB : B ≤ W.heap.size
  ow : b12 = false → Old W ww ∧ Own ww B 98 4 lz L.length (prsV L)
  a3 : b3 = true → b6 = false → Own ww W.heap.size 5 1 (.slice (some ⟨ka, 0, none⟩) 0 0) 0 []
  a6 : b6 = true → b9 = false → Own ww W.heap.size 5 1 va t.length (txt t)
  a8 : b8 = true → b9 = false → Own ww W.heap.size 5 1 (.slice (some ⟨kc, 0, none⟩) 1 1) 1 [.int .u8 (cb : Int)] ∧ (b3 = true → b6 = false → ka ≠ kc) ∧ (b6 = true → va.ownBlock ≠ some kc)
  a9 : b9 = true → b12 = false → Own ww W.heap.size 5 1 vb (t.length + 1) (txt (t ++ [cb]))
  a11 : b11 = true → b12 = false → ww.heap[kp]? = some (plO [.int .i64 (lf : Int), .bool bb, .bool false, vb])
  fin : b12 = true → ∃ y : Pr, (y.p = ⟨lf, bb, false⟩ ∧ y.n = t.length + 1 ∧ Ts ww 5 y.A (txt (t ++ [cb]))) ∧ Own ww B 98 4 vc (L ++ [y]).length (prsV (L ++ [y])) ∧ ∀ A xs, Ts W 5 A xs → Ts ww 5 A xs
section
variable {W1 W : World} {B : Nat} {lz : Value} {L : List Pr} {t : List Nat} {cb lf : Nat} {bb : Bool} {ka kc kp : Nat} {va vb vc : Value} {b3 b6 b8 b9 b11 b12 : Bool} {ww w' : World}
theorem RF.start (h1 : Old W1 W) (hb : W1.heap.size ≤ B) (wB : B ≤ W.heap.size) (ho : Own W B 98 4 lz L.length (prsV L)) : RF W1 W B lz L t cb lf bb ka kc kp va vb vc false false false false false false W.drew :=
  ⟨h1.drew, hb, wB, fun _ => ⟨(Old.refl W).drew, ho.up (Old.refl W).drew⟩, fun e => (by cases e), fun e => (by cases e), fun e => (by cases e), fun e => (by cases e), fun e => (by cases e), fun e => (by cases e)⟩
theorem RF.mk3 (h : RF W1 W B lz L t cb lf bb ka kc kp va vb vc false false b8 false false false ww) : RF W1 W B lz L t cb lf bb ww.heap.size kc kp va vb vc true false b8 false false false (ww.alloc (.cells #[] 5)) := by
  have ho := (Old.refl ww).alloc (.cells #[] 5)
  refine ⟨h.o1.up ho, h.hb, h.wB, fun e => ⟨(h.ow rfl).1.up ho, (h.ow rfl).2.up ho⟩, fun _ _ => (own_new ww #[] 0 1 5 (Nat.zero_le _) rfl).base (h.ow rfl).1.size, fun e => (by cases e), fun e _ => ⟨(h.a8 e rfl).1.up ho, fun _ _ => ?_, fun e => (by cases e)⟩, fun e => (by cases e), fun e => (by cases e), fun e => (by cases e)⟩
  have := (World.ownsRow.lt (h.a8 e rfl).1 kc rfl).2
  omega
theorem RF.mk8 (h : RF W1 W B lz L t cb lf bb ka kc kp va vb vc b3 b6 false false false false ww) : RF W1 W B lz L t cb lf bb ka ww.heap.size kp va vb vc b3 b6 true false false false (ww.alloc (.cells #[.int .u8 (cb : Int)] 5)) := by
  have ho := (Old.refl ww).alloc (.cells #[.int .u8 (cb : Int)] 5)
  refine ⟨h.o1.up ho, h.hb, h.wB, fun e => ⟨(h.ow rfl).1.up ho, (h.ow rfl).2.up ho⟩, fun e e2 => (h.a3 e e2).up ho, fun e e2 => (h.a6 e e2).up ho, fun _ _ => ⟨(own_new ww #[.int .u8 (cb : Int)] 1 1 5 (by unfold maxLen; omega) rfl).base (h.ow rfl).1.size, fun e e2 => ?_, fun e e2 => ?_⟩, fun e => (by cases e), fun e => (by cases e), fun e => (by cases e)⟩
  · have := (World.ownsRow.lt (h.a3 e e2) ka rfl).2
    omega
  · have := (World.ownsRow.lt (h.a6 e rfl) _ e2).2
    omega
theorem RF.mk6 (h : RF W1 W B lz L t cb lf bb ka kc kp va vb vc true false b8 false false false ww) {v' : Value} (ho : Own w' W.heap.size 5 1 v' (0 + t.length) ([] ++ txt t)) (hg : ww.grownBy w' (Value.slice (some ⟨ka, 0, none⟩) 0 0).ownBlock)
    (hst : v'.ownBlock = (Value.slice (some ⟨ka, 0, none⟩) 0 0).ownBlock ∨ ∃ j, v'.ownBlock = some j ∧ ww.heap.size ≤ j) : RF W1 W B lz L t cb lf bb ka kc kp v' vb vc true true b8 false false false w' := by
  have h3 := h.a3 rfl rfl
  refine ⟨Own.grown_old h.o1 h3 (Nat.le_trans h.hb h.wB) hg, h.hb, h.wB, fun _ => ⟨Own.grown_old (h.ow rfl).1 h3 (Nat.le_refl _) hg, (h.ow rfl).2.grown h3 (by decide) hg⟩, fun _ e => (by cases e), fun _ _ => by rw [Nat.zero_add] at ho; exact ho, fun e _ => ⟨?_, fun _ e => (by cases e), fun _ e2 => ?_⟩, fun e => (by cases e), fun e => (by cases e), fun e => (by cases e)⟩
  · refine World.ownsRow.kept (h.a8 e rfl).1 hg (Or.inr (fun e2 => ?_))
    have := (h.a8 e rfl).2.1 rfl rfl
    simp [Value.ownBlock] at e2
    exact this e2.symm
  · have hne := (h.a8 e rfl).2.1 rfl rfl
    have hlt := (World.ownsRow.lt (h.a8 e rfl).1 kc rfl).2
    rcases hst with hs | ⟨j, hj, hl⟩
    · rw [hs] at e2
      simp [Value.ownBlock] at e2
      exact hne e2
    · rw [hj] at e2
      injection e2 with e2
      omega
theorem RF.mk9 (h : RF W1 W B lz L t cb lf bb ka kc kp va vb vc true true true false false false ww) {v' : Value} (ho : Own w' W.heap.size 5 1 v' (t.length + 1) (txt t ++ [.int .u8 (cb : Int)])) (hg : ww.grownBy w' va.ownBlock) : RF W1 W B lz L t cb lf bb ka kc kp va v' vc true true true true false false w' := by
  have h3 := h.a6 rfl rfl
  refine ⟨Own.grown_old h.o1 h3 (Nat.le_trans h.hb h.wB) hg, h.hb, h.wB, fun _ => ⟨Own.grown_old (h.ow rfl).1 h3 (Nat.le_refl _) hg, (h.ow rfl).2.grown h3 (by decide) hg⟩, fun _ e => (by cases e), fun _ e => (by cases e), fun _ e => (by cases e), fun _ _ => by rw [qtxt_snoc]; exact ho, fun e => (by cases e), fun e => (by cases e)⟩
theorem RF.mk11 (h : RF W1 W B lz L t cb lf bb ka kc kp va vb vc true true true true false false ww) : RF W1 W B lz L t cb lf bb ka kc ww.heap.size va vb vc true true true true true false (ww.alloc (plO [.int .i64 (lf : Int), .bool bb, .bool false, vb])) := by
  have ho := (Old.refl ww).alloc (plO [.int .i64 (lf : Int), .bool bb, .bool false, vb])
  exact ⟨h.o1.up ho, h.hb, h.wB, fun e => ⟨(h.ow rfl).1.up ho, (h.ow rfl).2.up ho⟩, fun _ e => (by cases e), fun _ e => (by cases e), fun _ e => (by cases e), fun _ _ => (h.a9 rfl rfl).up ho, fun _ _ => heap_alloc_new _ _, fun e => (by cases e)⟩
theorem RF.mk12 (h : RF W1 W B lz L t cb lf bb ka kc kp va vb vc true true true true true false ww) {v' : Value} (ho : Own w' B 98 4 v' (L.length + 1) (prsV L ++ [.int .i64 (lf : Int), .bool bb, .bool false, vb])) (hg : ww.grownBy w' lz.ownBlock) : RF W1 W B lz L t cb lf bb ka kc kp va vb v' true true true true true true w' := by
  obtain ⟨hO, hl⟩ := h.ow rfl
  obtain ⟨A, c, rfl, ht, _, _⟩ := (h.a9 rfl rfl).shape
  refine ⟨Own.grown_old h.o1 hl h.hb hg, h.hb, h.wB, fun e => (by cases e), fun _ e => (by cases e), fun _ e => (by cases e), fun _ e => (by cases e), fun _ e => (by cases e), fun _ e => (by cases e), fun _ => ⟨⟨⟨lf, bb, false⟩, A, t.length + 1, c⟩, ⟨rfl, rfl, ht.grown hl (by decide) hg⟩, ?_, fun A xs hx => (hx.up hO).grown hl (by decide) hg⟩⟩
  rw [prsV_snoc, List.length_append, List.length_singleton]
  exact ho
end
def RdI (W1 W : World) (B : Nat) (lz : Value) (L : List Pr) (t : List Nat) (cb lf : Nat) (xA : Option Addr) (xc k3 k5 : Nat) (u0 u1 u4 u8 u9 u10 u11 u12 u13 u14 u15 u16 u17 u18 u19 u20 u21 u22 u23 u24 u25 u26 u27 u28 u29 u30 : Value) (listed : Array Bool) (a : Act) (w : World) : Prop :=
  ∃ (b0 b1 b2 b3 b4 b5 b6 b7 b8 b9 b10 b11 b12 b13 : Bool) (ka kc kp : Nat) (va vb lv : Value), listed = #[b0, b1, b2, b3, b4, b5, b6, b7, b8, b9, b10, b11, b12, b13] ∧
    a = { tmps := #[u0, u1, undef, .pointer (some ⟨k3, 0, none⟩), u4, .pointer (some ⟨k5, 0, none⟩), cond b13 (lv) (lz), .int .u8 (cb : Int), u8, u9, u10, u11, u12, u13, u14, u15, u16, u17, u18, u19, u20, u21, u22, u23, u24, u25, u26, u27, u28, u29, u30, cond b0 (lz) (undef), cond b1 (.pointer (some ⟨k5, 1, none⟩)) (undef), cond b2 (.int .i64 (lf : Int)) (undef), cond b3 (.slice (some ⟨ka, 0, none⟩) 0 0) (undef), cond b4 (.pointer (some ⟨k3, 3, none⟩)) (undef), cond b5 (.slice xA t.length xc) (undef), cond b6 (va) (undef), cond b7 (.int .u8 (cb : Int)) (undef), cond b8 (.slice (some ⟨kc, 0, none⟩) 1 1) (undef), cond b9 (vb) (undef), cond b10 (.agg #[.int .i64 (lf : Int), .bool false, .bool false, vb]) (undef), cond b11 (.slice (some ⟨kp, 0, none⟩) 1 1) (undef), cond b12 (lv) (undef), undef, undef, undef, undef, undef, undef, undef, undef, undef, undef, undef, undef, undef, undef, undef, undef, undef, undef, undef, undef, undef], defers := [] } ∧ RF W1 W B lz L t cb lf false ka kc kp va vb lv b3 b6 b8 b9 b11 b12 w
def RdJ (W1 W : World) (B : Nat) (lz : Value) (L : List Pr) (t : List Nat) (cb lf : Nat) (xA : Option Addr) (xc k3 k5 : Nat) (u0 u1 u4 u7 u8 u10 u11 u12 u13 u14 u15 u16 u17 u18 u19 u20 u21 u22 u23 u24 u25 u26 u27 u28 u29 u30 u31 u32 u33 u34 u35 u36 u37 u38 u39 u40 u41 u42 u43 u44 u45 u46 u47 u48 u49 u50 : Value) (listed : Array Bool) (a : Act) (w : World) : Prop :=
  ∃ (b0 b1 b2 b3 b4 b5 b6 b7 b8 b9 b10 b11 b12 b13 : Bool) (ka kc kp : Nat) (vd ve vz : Value), listed = #[b0, b1, b2, b3, b4, b5, b6, b7, b8, b9, b10, b11, b12, b13] ∧
    a = { tmps := #[u0, u1, undef, .pointer (some ⟨k3, 0, none⟩), u4, .pointer (some ⟨k5, 0, none⟩), cond b13 (vz) (lz), u7, u8, .int .u8 (cb : Int), u10, u11, u12, u13, u14, u15, u16, u17, u18, u19, u20, u21, u22, u23, u24, u25, u26, u27, u28, u29, u30, u31, u32, u33, u34, u35, u36, u37, u38, u39, u40, u41, u42, u43, u44, u45, u46, u47, u48, u49, u50, cond b0 (lz) (undef), cond b1 (.pointer (some ⟨k5, 1, none⟩)) (undef), cond b2 (.int .i64 (lf : Int)) (undef), cond b3 (.slice (some ⟨ka, 0, none⟩) 0 0) (undef), cond b4 (.pointer (some ⟨k3, 3, none⟩)) (undef), cond b5 (.slice xA t.length xc) (undef), cond b6 (vd) (undef), cond b7 (.int .u8 (cb : Int)) (undef), cond b8 (.slice (some ⟨kc, 0, none⟩) 1 1) (undef), cond b9 (ve) (undef), cond b10 (.agg #[.int .i64 (lf : Int), .bool true, .bool false, ve]) (undef), cond b11 (.slice (some ⟨kp, 0, none⟩) 1 1) (undef), cond b12 (vz) (undef), undef], defers := [] } ∧ RF W1 W B lz L t cb lf true ka kc kp vd ve vz b3 b6 b8 b9 b11 b12 w

/-- What reads returns. -/
def ReadPost (w : World) (st : List Nd) (x : Pr) (t : List Nat) (e : Ending) (w' : World) : Prop :=
  ∃ (v : Value) (L : List Pr), e = .returned v ∧ Own w' w.heap.size 98 4 v L.length (prsV L) ∧ RdL w' t L (readM st x.p) ∧ Old w w'
set_option maxHeartbeats 4000000 in
set_option maxRecDepth 100000 in
theorem readsC (A : Option Addr) (c : Nat) (st : List Nd) (x : Pr) (t : List Nat) (w : World) (hr : Rs w A (ndsV st)) (hv : svalid st = true) (hlt : x.p.s < st.length) (hxn : x.n = t.length) (hxt : Ts w 5 x.A (txt t)) (htl : t.length ≤ 100000) :
    Calls Try.prog 52 #[.slice A st.length c, prA x] w (ReadPost w st x t) := by
  obtain ⟨⟨ps, pb, pe⟩, xA, xn, xc⟩ := x
  obtain ⟨_, _, hok⟩ := svalid_ok hv
  obtain ⟨_, _, o3, _⟩ := hok ps hlt
  simp only at hlt hxn hxt
  subst hxn
  have hb3 := heap_alloc_new w (.cells #[.int .i64 (ps : Int), .bool pb, .bool pe, .slice xA t.length xc] 98)
  have ho3 := (Old.refl w).alloc (.cells #[.int .i64 (ps : Int), .bool pb, .bool pe, .slice xA t.length xc] 98)
  have hx : st[ps]? = some (nd st ps) := by unfold nd; rw [List.getD_eq_getElem?_getD, List.getElem?_eq_getElem hlt]; rfl
  obtain ⟨bs, off, rfl, hbl, hcl⟩ := (hr.up ho3).at_ (by rw [ndsV_length]; omega)
  have hg := ndsV_get st ps _ hx
  have c0 := hcl _ _ (hg 0 (by omega))
  have c1 := hcl _ _ (hg 1 (by omega))
  have c2 := hcl _ _ (hg 2 (by omega))
  have c3 := hcl _ _ (hg 3 (by omega))
  have c4 := hcl _ _ (hg 4 (by omega))
  have c5 := hcl _ _ (hg 5 (by omega))
  have c6 := hcl _ _ (hg 6 (by omega))
  rw [← Nat.add_assoc] at c0 c1 c2 c3 c4 c5 c6
  rw [Nat.add_zero] at c0
  have s1 : (0 : Int) ≤ (ps : Int) := by omega
  have s2 : (ps : Int) < (st.length : Int) := by omega
  have HM : Hid (readM st ⟨ps, pb, pe⟩ = if (nd st ps).kind = 1 then (if pe = true then [] else match leastM (nd st ps).set with | some c => [(⟨(nd st ps).left.toNat, false, false⟩, c)] | none => []) ++ (if hasB (nd st ps).set 10 = true then [(⟨(nd st ps).left.toNat, true, false⟩, 10)] else []) else []) := Lib.hid rfl
  have HPX : Hid (∀ v L M w', readM st ⟨ps, pb, pe⟩ = M → Own w' w.heap.size 98 4 v L.length (prsV L) → RdL w' t L M → Old w w' → ReadPost w st ⟨⟨ps, pb, pe⟩, xA, t.length, xc⟩ t (.returned v) w') := Lib.hid (fun v L M w' h1 h2 h3 h4 => by subst h1; exact ⟨v, L, rfl, h2, h3, h4⟩)
  clear hr hbl hcl hg hx hv hok
  generalize nd st ps = y at *
  obtain ⟨kd, lfi, rt, se⟩ := y
  simp only at o3 HM
  replace c0 : (w.alloc (.cells #[.int .i64 (ps : Int), .bool pb, .bool pe, .slice xA t.length xc] 98)).cell? ⟨bs, off + ps * 7, none⟩ = some (.int .i64 kd) := c0
  replace c1 : (w.alloc (.cells #[.int .i64 (ps : Int), .bool pb, .bool pe, .slice xA t.length xc] 98)).cell? ⟨bs, off + ps * 7 + 1, none⟩ = some (.int .i64 lfi) := c1
  replace c2 : (w.alloc (.cells #[.int .i64 (ps : Int), .bool pb, .bool pe, .slice xA t.length xc] 98)).cell? ⟨bs, off + ps * 7 + 2, none⟩ = some (.int .i64 rt) := c2
  replace c3 : (w.alloc (.cells #[.int .i64 (ps : Int), .bool pb, .bool pe, .slice xA t.length xc] 98)).cell? ⟨bs, off + ps * 7 + 3, none⟩ = some (.int .u64 (setW se 0)) := c3
  replace c4 : (w.alloc (.cells #[.int .i64 (ps : Int), .bool pb, .bool pe, .slice xA t.length xc] 98)).cell? ⟨bs, off + ps * 7 + 4, none⟩ = some (.int .u64 (setW se 1)) := c4
  replace c5 : (w.alloc (.cells #[.int .i64 (ps : Int), .bool pb, .bool pe, .slice xA t.length xc] 98)).cell? ⟨bs, off + ps * 7 + 5, none⟩ = some (.int .u64 (setW se 2)) := c5
  replace c6 : (w.alloc (.cells #[.int .i64 (ps : Int), .bool pb, .bool pe, .slice xA t.length xc] 98)).cell? ⟨bs, off + ps * 7 + 6, none⟩ = some (.int .u64 (setW se 3)) := c6
  unfold prA
  simp only
  go_enter Try.func52, Try.ntmps52
  go_upto_region 1 with fail
  generalize w.alloc (.cells #[.int .i64 (ps : Int), .bool pb, .bool pe, .slice xA t.length xc] 98) = w1 at *
  generalize w.heap.size = k3 at *
  obtain ⟨⟨d0, d1, d2, d3⟩, _⟩ := pl_cells hb3
  go_upto_region 2 with fail
  have hk5 : NdAtS (w1.alloc (.cells (ndCells ⟨kd, lfi, rt, se⟩).toArray 42)) w1.heap.size ⟨kd, lfi, rt, se⟩ := heap_alloc_new w1 _
  have ho5 := (Old.refl w1).alloc (.cells (ndCells ⟨kd, lfi, rt, se⟩).toArray 42)
  have hb3' := ho5.block hb3
  have hWW : w1.alloc (.cells #[.int .i64 kd, .int .i64 lfi, .int .i64 rt, .int .u64 (setW se 0), .int .u64 (setW se 1), .int .u64 (setW se 2), .int .u64 (setW se 3)] 42) = w1.alloc (.cells (ndCells ⟨kd, lfi, rt, se⟩).toArray 42) := rfl
  rw [hWW]
  generalize w1.alloc (.cells (ndCells ⟨kd, lfi, rt, se⟩).toArray 42) = W1 at *
  have HB3 : Hid (W1.heap[k3]? = some (plO [.int .i64 (ps : Int), .bool pb, .bool pe, .slice xA t.length xc])) := Lib.hid hb3'
  generalize w1.heap.size = k5 at *
  have HB5 := Lib.hid hk5
  have HOW := Lib.hid (ho3.up ho5)
  have HXT1 := Lib.hid (hxt.up HOW.out)
  clear hk5 hWW hb3' hb3 ho3 ho5 c0 c1 c2 c3 c4 c5 c6 d0 d1 d2 d3 hxt
  obtain ⟨B, hB⟩ : ∃ B, B = W1.heap.size := ⟨_, rfl⟩
  have HBE := Lib.hid hB.symm
  have HBB : Hid (W1.heap.size ≤ B) := Lib.hid (Nat.le_of_eq hB.symm)
  have HB0 : Hid (k3 ≤ B) := Lib.hid (by rw [hB]; exact Nat.le_of_lt (lt_of_block HB3.out))
  clear hB
  have HPO : Hid (∀ v L M w', readM st ⟨ps, pb, pe⟩ = M → Own w' B 98 4 v L.length (prsV L) → RdL w' t L M → Old w w' → ReadPost w st ⟨⟨ps, pb, pe⟩, xA, t.length, xc⟩ t (.returned v) w') := Lib.hid (fun v L M w' h1 h2 h3 h4 => HPX.out v L M w' h1 (h2.base HB0.out) h3 h4)
  clear HPX
  have hb5 := HB5.out
  obtain ⟨⟨_, _, g2, _⟩, _⟩ := pl_cells HB3.out
  have x0 : W1.cell? ⟨k5, 0, none⟩ = some (.int .i64 kd) := by rw [cell_of_row W1 k5 0 _ _ _ hb5]; rfl
  have x3 : W1.cell? ⟨k5, 3, none⟩ = some (.int .u64 (setW se 0)) := by rw [cell_of_row W1 k5 3 _ _ _ hb5]; rfl
  have x4 : W1.cell? ⟨k5, 4, none⟩ = some (.int .u64 (setW se 1)) := by rw [cell_of_row W1 k5 4 _ _ _ hb5]; rfl
  have x5 : W1.cell? ⟨k5, 5, none⟩ = some (.int .u64 (setW se 2)) := by rw [cell_of_row W1 k5 5 _ _ _ hb5]; rfl
  have x6 : W1.cell? ⟨k5, 6, none⟩ = some (.int .u64 (setW se 3)) := by rw [cell_of_row W1 k5 6 _ _ _ hb5]; rfl
  clear hb5
  by_cases hk : kd = 1
  case neg =>
    have b1 : (kd != 1) = true := by simpa using hk
    have HEND := Lib.hid (HPO.out (.slice none 0 0) [] [] W1 (HM.out.trans (if_neg hk)) (Own.nil_ _ _ _ _) trivial HOW.out)
    clear HPO HM
    go_wp2_with fail
    go_ret
    exact HEND.out
  subst hk
  obtain ⟨lf, rfl⟩ := Int.eq_ofNat_of_zero_le (o3 (by decide)).1
  have hls := rleastC se W1
  have hln := rleastN se
  unfold setA at hls hln
  have HLS := Lib.hid hls
  have HMA : Hid (readM st ⟨ps, pb, pe⟩ = (if pe = true then [] else match leastM se with | some c => [((⟨lf, false, false⟩ : Sp), c)] | none => []) ++ (if hasB se 10 = true then [((⟨lf, true, false⟩ : Sp), 10)] else [])) := Lib.hid (HM.out.trans (if_pos rfl))
  clear hls HM
  go_wp2_with fail
  refine (HLS.out).mono ?_; rintro e WQ ⟨rfl, hdq⟩
  have HO1R := Lib.hid hdq
  have HXT := Lib.hid (HXT1.out.up hdq)
  have HWB : Hid (B ≤ WQ.heap.size) := Lib.hid (HBE.out ▸ hdq.size)
  have HB5Q := Lib.hid (hdq.block HB5.out)
  obtain ⟨⟨_, _, g2, _⟩, _⟩ := pl_cells (hdq.block HB3.out)
  have y3 : ∀ W', Old W1 W' → W'.cell? ⟨k5, 3, none⟩ = some (.int .u64 (setW se 0)) ∧ W'.cell? ⟨k5, 4, none⟩ = some (.int .u64 (setW se 1)) ∧ W'.cell? ⟨k5, 5, none⟩ = some (.int .u64 (setW se 2)) ∧ W'.cell? ⟨k5, 6, none⟩ = some (.int .u64 (setW se 3)) := fun W' ho => ⟨ho.cell x3, ho.cell x4, ho.cell x5, ho.cell x6⟩
  have HY := Lib.hid y3
  have HLN := Lib.hid hln
  have HLL : Hid (([] : List Pr).length ≤ 1) := Lib.hid (Nat.zero_le _)
  clear hdq hln y3 x0 x3 x4 x5 x6 HLS HXT1
  cases hl : leastM se with
  | none =>
    have HMM : Hid (readM st ⟨ps, pb, pe⟩ = [] ++ (if hasB se 10 = true then [((⟨lf, true, false⟩ : Sp), 10)] else [])) := Lib.hid (by rw [HMA.out, hl]; cases pe <;> rfl)
    have HOWNQ : Hid (Own WQ B 98 4 (.slice none 0 0) ([] : List Pr).length (prsV [])) := Lib.hid (Own.nil_ _ _ _ _)
    have HRDQ : Hid (RdL WQ t [] []) := Lib.hid trivial
    have HO1Q := HO1R
    have HXTQ := HXT
    clear HMA HO1R HXT HWB
    obtain ⟨y3, y4, y5, y6⟩ := HY.out _ HO1Q.out
    go_wp2_with fail
    refine (HLN.out _).mono ?_; rintro e WR ⟨rfl, hdr⟩
    have HO1R := Lib.hid (HO1Q.out.up hdr)
    have HOWN := Lib.hid (HOWNQ.out.up hdr)
    have HRD := Lib.hid (HRDQ.out.keep (fun A xs h => h.up hdr))
    have HXT := Lib.hid (HXTQ.out.up hdr)
    have HWB : Hid (B ≤ WR.heap.size) := Lib.hid (HBE.out ▸ HO1R.out.size)
    clear hdr HO1Q HOWNQ HRDQ HXTQ HLN
    cases h10 : hasB se 10 with
    | true =>
      have HM10 : Hid (readM st ⟨ps, pb, pe⟩ = ([] : List (Sp × Nat)) ++ [((⟨lf, true, false⟩ : Sp), 10)]) := Lib.hid (by rw [HMM.out, if_pos h10])
      go_upto_region 10 with fail
      refine wp_region_steps2U (by kernel_rfl) (by kernel_rfl) (fun (u_ : Value × Value × Value × Value × Value × Value × Value × Value × Value × Value × Value × Value × Value × Value × Value × Value × Value × Value × Value × Value × Value × Value × Value × Value × Value × Value × Value × Value × Value × Value × Value × Value × Value × Value × Value × Value × Value × Value × Value × Value × Value × Value × Value × Value × Value × Value) => RdJ W1 WR B ((.slice none 0 0)) ([] : List Pr) t 10 lf xA xc k3 k5 u_.1 u_.2.1 u_.2.2.1 u_.2.2.2.1 u_.2.2.2.2.1 u_.2.2.2.2.2.1 u_.2.2.2.2.2.2.1 u_.2.2.2.2.2.2.2.1 u_.2.2.2.2.2.2.2.2.1 u_.2.2.2.2.2.2.2.2.2.1 u_.2.2.2.2.2.2.2.2.2.2.1 u_.2.2.2.2.2.2.2.2.2.2.2.1 u_.2.2.2.2.2.2.2.2.2.2.2.2.1 u_.2.2.2.2.2.2.2.2.2.2.2.2.2.1 u_.2.2.2.2.2.2.2.2.2.2.2.2.2.2.1 u_.2.2.2.2.2.2.2.2.2.2.2.2.2.2.2.1 u_.2.2.2.2.2.2.2.2.2.2.2.2.2.2.2.2.1 u_.2.2.2.2.2.2.2.2.2.2.2.2.2.2.2.2.2.1 u_.2.2.2.2.2.2.2.2.2.2.2.2.2.2.2.2.2.2.1 u_.2.2.2.2.2.2.2.2.2.2.2.2.2.2.2.2.2.2.2.1 u_.2.2.2.2.2.2.2.2.2.2.2.2.2.2.2.2.2.2.2.2.1 u_.2.2.2.2.2.2.2.2.2.2.2.2.2.2.2.2.2.2.2.2.2.1 u_.2.2.2.2.2.2.2.2.2.2.2.2.2.2.2.2.2.2.2.2.2.2.1 u_.2.2.2.2.2.2.2.2.2.2.2.2.2.2.2.2.2.2.2.2.2.2.2.1 u_.2.2.2.2.2.2.2.2.2.2.2.2.2.2.2.2.2.2.2.2.2.2.2.2.1 u_.2.2.2.2.2.2.2.2.2.2.2.2.2.2.2.2.2.2.2.2.2.2.2.2.2.1 u_.2.2.2.2.2.2.2.2.2.2.2.2.2.2.2.2.2.2.2.2.2.2.2.2.2.2.1 u_.2.2.2.2.2.2.2.2.2.2.2.2.2.2.2.2.2.2.2.2.2.2.2.2.2.2.2.1 u_.2.2.2.2.2.2.2.2.2.2.2.2.2.2.2.2.2.2.2.2.2.2.2.2.2.2.2.2.1 u_.2.2.2.2.2.2.2.2.2.2.2.2.2.2.2.2.2.2.2.2.2.2.2.2.2.2.2.2.2.1 u_.2.2.2.2.2.2.2.2.2.2.2.2.2.2.2.2.2.2.2.2.2.2.2.2.2.2.2.2.2.2.1 u_.2.2.2.2.2.2.2.2.2.2.2.2.2.2.2.2.2.2.2.2.2.2.2.2.2.2.2.2.2.2.2.1 u_.2.2.2.2.2.2.2.2.2.2.2.2.2.2.2.2.2.2.2.2.2.2.2.2.2.2.2.2.2.2.2.2.1 u_.2.2.2.2.2.2.2.2.2.2.2.2.2.2.2.2.2.2.2.2.2.2.2.2.2.2.2.2.2.2.2.2.2.1 u_.2.2.2.2.2.2.2.2.2.2.2.2.2.2.2.2.2.2.2.2.2.2.2.2.2.2.2.2.2.2.2.2.2.2.1 u_.2.2.2.2.2.2.2.2.2.2.2.2.2.2.2.2.2.2.2.2.2.2.2.2.2.2.2.2.2.2.2.2.2.2.2.1 u_.2.2.2.2.2.2.2.2.2.2.2.2.2.2.2.2.2.2.2.2.2.2.2.2.2.2.2.2.2.2.2.2.2.2.2.2.1 u_.2.2.2.2.2.2.2.2.2.2.2.2.2.2.2.2.2.2.2.2.2.2.2.2.2.2.2.2.2.2.2.2.2.2.2.2.2.1 u_.2.2.2.2.2.2.2.2.2.2.2.2.2.2.2.2.2.2.2.2.2.2.2.2.2.2.2.2.2.2.2.2.2.2.2.2.2.2.1 u_.2.2.2.2.2.2.2.2.2.2.2.2.2.2.2.2.2.2.2.2.2.2.2.2.2.2.2.2.2.2.2.2.2.2.2.2.2.2.2.1 u_.2.2.2.2.2.2.2.2.2.2.2.2.2.2.2.2.2.2.2.2.2.2.2.2.2.2.2.2.2.2.2.2.2.2.2.2.2.2.2.2.1 u_.2.2.2.2.2.2.2.2.2.2.2.2.2.2.2.2.2.2.2.2.2.2.2.2.2.2.2.2.2.2.2.2.2.2.2.2.2.2.2.2.2.1 u_.2.2.2.2.2.2.2.2.2.2.2.2.2.2.2.2.2.2.2.2.2.2.2.2.2.2.2.2.2.2.2.2.2.2.2.2.2.2.2.2.2.2.1 u_.2.2.2.2.2.2.2.2.2.2.2.2.2.2.2.2.2.2.2.2.2.2.2.2.2.2.2.2.2.2.2.2.2.2.2.2.2.2.2.2.2.2.2.1 u_.2.2.2.2.2.2.2.2.2.2.2.2.2.2.2.2.2.2.2.2.2.2.2.2.2.2.2.2.2.2.2.2.2.2.2.2.2.2.2.2.2.2.2.2.1 u_.2.2.2.2.2.2.2.2.2.2.2.2.2.2.2.2.2.2.2.2.2.2.2.2.2.2.2.2.2.2.2.2.2.2.2.2.2.2.2.2.2.2.2.2.2) ?_ ?_ ?_
      · exact ⟨(_, _, _, _, _, _, _, _, _, _, _, _, _, _, _, _, _, _, _, _, _, _, _, _, _, _, _, _, _, _, _, _, _, _, _, _, _, _, _, _, _, _, _, _, _, _), false, false, false, false, false, false, false, false, false, false, false, false, false, false, 0, 0, 0, undef, undef, undef, rfl, rfl, (RF.start HO1R.out HBB.out HWB.out HOWN.out)⟩
      · rintro ⟨u0, u1, u4, u7, u8, u10, u11, u12, u13, u14, u15, u16, u17, u18, u19, u20, u21, u22, u23, u24, u25, u26, u27, u28, u29, u30, u31, u32, u33, u34, u35, u36, u37, u38, u39, u40, u41, u42, u43, u44, u45, u46, u47, u48, u49, u50⟩ a w1 ⟨b0, b1, b2, b3, b4, b5, b6, b7, b8, b9, b10, b11, b12, b13, ka, kc, kp, vd, ve, vz, hl, rfl, hF⟩
        have hl' := congrArg Array.toList hl
        simp at hl'
        obtain ⟨rfl, rfl, rfl, rfl, rfl, rfl, rfl, rfl, rfl, rfl, rfl, rfl, rfl, rfl⟩ := hl'
        clear hl
        obtain ⟨y9, hy, hoz, hkp⟩ := hF.fin rfl
        have hrd := (HRD.out.keep hkp).snoc hy
        have HEND := Lib.hid (HPO.out vz (([] : List Pr) ++ [y9]) _ w1 HM10.out hoz hrd (HOW.out.up hF.o1))
        clear hF hoz hrd hkp hy HPO
        go_wp2_with fail
        go_ret
        exact HEND.out
      · rintro ⟨u0, u1, u4, u7, u8, u10, u11, u12, u13, u14, u15, u16, u17, u18, u19, u20, u21, u22, u23, u24, u25, u26, u27, u28, u29, u30, u31, u32, u33, u34, u35, u36, u37, u38, u39, u40, u41, u42, u43, u44, u45, u46, u47, u48, u49, u50⟩
        refine ⟨?_, ?_, ?_, ?_, ?_, ?_, ?_, ?_, ?_, ?_, ?_, ?_, ?_, ?_, trivial⟩
        · intro listed a w1 K hs hcl hf hall hI hK
          obtain ⟨b0, b1, b2, b3, b4, b5, b6, b7, b8, b9, b10, b11, b12, b13, ka, kc, kp, vd, ve, vz, rfl, rfl, hF⟩ := hI
          have hf' : b0 = false := hf
          subst hf'
          have hb12 : b12 = false := by
            cases b12
            · rfl
            · exact absurd (show false = true from hcl 12 _ rfl rfl ⟨0, .data⟩ (by first | exact .head _ | simp) rfl) (by decide)
          subst hb12
          have hb13 : b13 = false := by
            cases b13
            · rfl
            · exact absurd (show false = true from hcl 13 _ rfl rfl ⟨0, .phase⟩ (by first | exact .head _ | simp) rfl) (by decide)
          subst hb13
          clear hall hcl hs hf
          go_simp
          exact hK _ _ ⟨true, b1, b2, b3, b4, b5, b6, b7, b8, b9, b10, b11, false, false, ka, kc, kp, vd, ve, vz, rfl, rfl, hF⟩
        · intro listed a w1 K hs hcl hf hall hI hK
          obtain ⟨b0, b1, b2, b3, b4, b5, b6, b7, b8, b9, b10, b11, b12, b13, ka, kc, kp, vd, ve, vz, rfl, rfl, hF⟩ := hI
          have hf' : b1 = false := hf
          subst hf'
          clear hall hcl hs hf
          go_simp
          exact hK _ _ ⟨b0, true, b2, b3, b4, b5, b6, b7, b8, b9, b10, b11, b12, b13, ka, kc, kp, vd, ve, vz, rfl, rfl, hF⟩
        · intro listed a w1 K hs hcl hf hall hI hK
          obtain ⟨b0, b1, b2, b3, b4, b5, b6, b7, b8, b9, b10, b11, b12, b13, ka, kc, kp, vd, ve, vz, rfl, rfl, hF⟩ := hI
          have hf' : b2 = false := hf
          subst hf'
          have hq1 : b1 = true := hall ⟨1, .data⟩ (by first | exact .head _ | simp) rfl
          subst hq1
          have hb10 : b10 = false := by
            cases b10
            · rfl
            · exact absurd (show false = true from hcl 10 _ rfl rfl ⟨2, .data⟩ (by first | exact .head _ | simp) rfl) (by decide)
          subst hb10
          have hb13 : b13 = false := by
            cases b13
            · rfl
            · exact absurd (show false = true from hcl 13 _ rfl rfl ⟨2, .phase⟩ (by first | exact .head _ | simp) rfl) (by decide)
          subst hb13
          have hb11 : b11 = false := by
            cases b11
            · rfl
            · exact absurd (show false = true from hcl 11 _ rfl rfl ⟨10, .data⟩ (by first | exact .head _ | simp) rfl) (by decide)
          subst hb11
          have hb12 : b12 = false := by
            cases b12
            · rfl
            · exact absurd (show false = true from hcl 12 _ rfl rfl ⟨11, .data⟩ (by first | exact .head _ | simp) rfl) (by decide)
          subst hb12
          clear hall hcl hs hf
          have hb5 := hF.o1.block HB5.out
          have q1 : w1.cell? ⟨k5, 1, none⟩ = some (.int .i64 (lf : Int)) := by rw [cell_of_row w1 k5 1 _ _ _ hb5]; rfl
          clear hb5
          go_simp
          exact hK _ _ ⟨b0, true, true, b3, b4, b5, b6, b7, b8, b9, false, false, false, false, ka, kc, kp, vd, ve, vz, rfl, rfl, hF⟩
        · intro listed a w1 K hs hcl hf hall hI hK
          obtain ⟨b0, b1, b2, b3, b4, b5, b6, b7, b8, b9, b10, b11, b12, b13, ka, kc, kp, vd, ve, vz, rfl, rfl, hF⟩ := hI
          have hf' : b3 = false := hf
          subst hf'
          have hb6 : b6 = false := by
            cases b6
            · rfl
            · exact absurd (show false = true from hcl 6 _ rfl rfl ⟨3, .data⟩ (by first | exact .head _ | simp) rfl) (by decide)
          subst hb6
          have hb13 : b13 = false := by
            cases b13
            · rfl
            · exact absurd (show false = true from hcl 13 _ rfl rfl ⟨3, .phase⟩ (by first | exact .head _ | simp) rfl) (by decide)
          subst hb13
          have hb9 : b9 = false := by
            cases b9
            · rfl
            · exact absurd (show false = true from hcl 9 _ rfl rfl ⟨6, .data⟩ (by first | exact .head _ | simp) rfl) (by decide)
          subst hb9
          have hb10 : b10 = false := by
            cases b10
            · rfl
            · exact absurd (show false = true from hcl 10 _ rfl rfl ⟨9, .data⟩ (by first | exact .head _ | simp) rfl) (by decide)
          subst hb10
          have hb12 : b12 = false := by
            cases b12
            · rfl
            · exact absurd (show false = true from hcl 12 _ rfl rfl ⟨9, .chain⟩ (by first | exact .head _ | simp) rfl) (by decide)
          subst hb12
          have hb11 : b11 = false := by
            cases b11
            · rfl
            · exact absurd (show false = true from hcl 11 _ rfl rfl ⟨10, .data⟩ (by first | exact .head _ | simp) rfl) (by decide)
          subst hb11
          clear hall hcl hs hf
          go_simp
          exact hK _ _ ⟨b0, b1, b2, true, b4, b5, false, b7, b8, false, false, false, false, false, w1.heap.size, kc, kp, vd, ve, vz, rfl, rfl, hF.mk3⟩
        · intro listed a w1 K hs hcl hf hall hI hK
          obtain ⟨b0, b1, b2, b3, b4, b5, b6, b7, b8, b9, b10, b11, b12, b13, ka, kc, kp, vd, ve, vz, rfl, rfl, hF⟩ := hI
          have hf' : b4 = false := hf
          subst hf'
          clear hall hcl hs hf
          go_simp
          exact hK _ _ ⟨b0, b1, b2, b3, true, b5, b6, b7, b8, b9, b10, b11, b12, b13, ka, kc, kp, vd, ve, vz, rfl, rfl, hF⟩
        · intro listed a w1 K hs hcl hf hall hI hK
          obtain ⟨b0, b1, b2, b3, b4, b5, b6, b7, b8, b9, b10, b11, b12, b13, ka, kc, kp, vd, ve, vz, rfl, rfl, hF⟩ := hI
          have hf' : b5 = false := hf
          subst hf'
          have hq4 : b4 = true := hall ⟨4, .data⟩ (by first | exact .head _ | simp) rfl
          subst hq4
          have hb6 : b6 = false := by
            cases b6
            · rfl
            · exact absurd (show false = true from hcl 6 _ rfl rfl ⟨5, .data⟩ (by first | exact .head _ | simp) rfl) (by decide)
          subst hb6
          have hb13 : b13 = false := by
            cases b13
            · rfl
            · exact absurd (show false = true from hcl 13 _ rfl rfl ⟨5, .phase⟩ (by first | exact .head _ | simp) rfl) (by decide)
          subst hb13
          have hb9 : b9 = false := by
            cases b9
            · rfl
            · exact absurd (show false = true from hcl 9 _ rfl rfl ⟨6, .data⟩ (by first | exact .head _ | simp) rfl) (by decide)
          subst hb9
          have hb10 : b10 = false := by
            cases b10
            · rfl
            · exact absurd (show false = true from hcl 10 _ rfl rfl ⟨9, .data⟩ (by first | exact .head _ | simp) rfl) (by decide)
          subst hb10
          have hb12 : b12 = false := by
            cases b12
            · rfl
            · exact absurd (show false = true from hcl 12 _ rfl rfl ⟨9, .chain⟩ (by first | exact .head _ | simp) rfl) (by decide)
          subst hb12
          have hb11 : b11 = false := by
            cases b11
            · rfl
            · exact absurd (show false = true from hcl 11 _ rfl rfl ⟨10, .data⟩ (by first | exact .head _ | simp) rfl) (by decide)
          subst hb11
          clear hall hcl hs hf
          obtain ⟨⟨q0, q1, q2, q3⟩, _⟩ := pl_cells (hF.o1.block HB3.out)
          go_simp
          exact hK _ _ ⟨b0, b1, b2, b3, true, true, false, b7, b8, false, false, false, false, false, ka, kc, kp, vd, ve, vz, rfl, rfl, hF⟩
        · intro listed a w1 K hs hcl hf hall hI hK
          obtain ⟨b0, b1, b2, b3, b4, b5, b6, b7, b8, b9, b10, b11, b12, b13, ka, kc, kp, vd, ve, vz, rfl, rfl, hF⟩ := hI
          have hf' : b6 = false := hf
          subst hf'
          have hq3 : b3 = true := hall ⟨3, .data⟩ (by first | exact .head _ | simp) rfl
          subst hq3
          have hq5 : b5 = true := hall ⟨5, .data⟩ (by first | exact .head _ | simp) rfl
          subst hq5
          have hq4 : b4 = true := hcl 5 _ rfl rfl ⟨4, .data⟩ (by first | exact .head _ | simp) rfl
          subst hq4
          have hb9 : b9 = false := by
            cases b9
            · rfl
            · exact absurd (show false = true from hcl 9 _ rfl rfl ⟨6, .data⟩ (by first | exact .head _ | simp) rfl) (by decide)
          subst hb9
          have hb13 : b13 = false := by
            cases b13
            · rfl
            · exact absurd (show false = true from hcl 13 _ rfl rfl ⟨6, .phase⟩ (by first | exact .head _ | simp) rfl) (by decide)
          subst hb13
          have hb10 : b10 = false := by
            cases b10
            · rfl
            · exact absurd (show false = true from hcl 10 _ rfl rfl ⟨9, .data⟩ (by first | exact .head _ | simp) rfl) (by decide)
          subst hb10
          have hb12 : b12 = false := by
            cases b12
            · rfl
            · exact absurd (show false = true from hcl 12 _ rfl rfl ⟨9, .chain⟩ (by first | exact .head _ | simp) rfl) (by decide)
          subst hb12
          have hb11 : b11 = false := by
            cases b11
            · rfl
            · exact absurd (show false = true from hcl 11 _ rfl rfl ⟨10, .data⟩ (by first | exact .head _ | simp) rfl) (by decide)
          subst hb11
          clear hall hcl hs hf
          have h3 := hF.a3 rfl rfl
          refine step_appO w1 (by rfl) _ _ 23 (by rfl) WR.heap.size 5 (.int .u8 0) 1 1 Try.underlying23 info_q8 rfl (by decide) (by decide) (.slice (some ⟨ka, 0, none⟩) 0 0) 0 [] (by rfl) h3 xA t.length xc (txt t) (by rfl) (HXT.out.up (hF.ow rfl).1).rs (by rw [qtxt_len]; omega) (qtxt_one t) (by omega) (hF.ow rfl).1.size ?_
          intro v' w' ho hg hst
          exact hK _ _ ⟨b0, b1, b2, true, true, true, true, b7, b8, false, false, false, false, false, ka, kc, kp, v', ve, vz, rfl, rfl, hF.mk6 ho hg hst⟩
        · intro listed a w1 K hs hcl hf hall hI hK
          obtain ⟨b0, b1, b2, b3, b4, b5, b6, b7, b8, b9, b10, b11, b12, b13, ka, kc, kp, vd, ve, vz, rfl, rfl, hF⟩ := hI
          have hf' : b7 = false := hf
          subst hf'
          clear hall hcl hs hf
          go_simp
          exact hK _ _ ⟨b0, b1, b2, b3, b4, b5, b6, true, b8, b9, b10, b11, b12, b13, ka, kc, kp, vd, ve, vz, rfl, rfl, hF⟩
        · intro listed a w1 K hs hcl hf hall hI hK
          obtain ⟨b0, b1, b2, b3, b4, b5, b6, b7, b8, b9, b10, b11, b12, b13, ka, kc, kp, vd, ve, vz, rfl, rfl, hF⟩ := hI
          have hf' : b8 = false := hf
          subst hf'
          have hq7 : b7 = true := hall ⟨7, .data⟩ (by first | exact .head _ | simp) rfl
          subst hq7
          have hb9 : b9 = false := by
            cases b9
            · rfl
            · exact absurd (show false = true from hcl 9 _ rfl rfl ⟨8, .data⟩ (by first | exact .head _ | simp) rfl) (by decide)
          subst hb9
          have hb13 : b13 = false := by
            cases b13
            · rfl
            · exact absurd (show false = true from hcl 13 _ rfl rfl ⟨8, .phase⟩ (by first | exact .head _ | simp) rfl) (by decide)
          subst hb13
          have hb10 : b10 = false := by
            cases b10
            · rfl
            · exact absurd (show false = true from hcl 10 _ rfl rfl ⟨9, .data⟩ (by first | exact .head _ | simp) rfl) (by decide)
          subst hb10
          have hb12 : b12 = false := by
            cases b12
            · rfl
            · exact absurd (show false = true from hcl 12 _ rfl rfl ⟨9, .chain⟩ (by first | exact .head _ | simp) rfl) (by decide)
          subst hb12
          have hb11 : b11 = false := by
            cases b11
            · rfl
            · exact absurd (show false = true from hcl 11 _ rfl rfl ⟨10, .data⟩ (by first | exact .head _ | simp) rfl) (by decide)
          subst hb11
          clear hall hcl hs hf
          go_simp
          exact hK _ _ ⟨b0, b1, b2, b3, b4, b5, b6, true, true, false, false, false, false, false, ka, w1.heap.size, kp, vd, ve, vz, rfl, rfl, hF.mk8⟩
        · intro listed a w1 K hs hcl hf hall hI hK
          obtain ⟨b0, b1, b2, b3, b4, b5, b6, b7, b8, b9, b10, b11, b12, b13, ka, kc, kp, vd, ve, vz, rfl, rfl, hF⟩ := hI
          have hf' : b9 = false := hf
          subst hf'
          have hq6 : b6 = true := hall ⟨6, .data⟩ (by first | exact .head _ | simp) rfl
          subst hq6
          have hq8 : b8 = true := hall ⟨8, .data⟩ (by first | exact .head _ | simp) rfl
          subst hq8
          have hq3 : b3 = true := hcl 6 _ rfl rfl ⟨3, .data⟩ (by first | exact .head _ | simp) rfl
          subst hq3
          have hq5 : b5 = true := hcl 6 _ rfl rfl ⟨5, .data⟩ (by first | exact .head _ | simp) rfl
          subst hq5
          have hq7 : b7 = true := hcl 8 _ rfl rfl ⟨7, .data⟩ (by first | exact .head _ | simp) rfl
          subst hq7
          have hq4 : b4 = true := hcl 5 _ rfl rfl ⟨4, .data⟩ (by first | exact .head _ | simp) rfl
          subst hq4
          have hb10 : b10 = false := by
            cases b10
            · rfl
            · exact absurd (show false = true from hcl 10 _ rfl rfl ⟨9, .data⟩ (by first | exact .head _ | simp) rfl) (by decide)
          subst hb10
          have hb12 : b12 = false := by
            cases b12
            · rfl
            · exact absurd (show false = true from hcl 12 _ rfl rfl ⟨9, .chain⟩ (by first | exact .head _ | simp) rfl) (by decide)
          subst hb12
          have hb13 : b13 = false := by
            cases b13
            · rfl
            · exact absurd (show false = true from hcl 13 _ rfl rfl ⟨9, .phase⟩ (by first | exact .head _ | simp) rfl) (by decide)
          subst hb13
          have hb11 : b11 = false := by
            cases b11
            · rfl
            · exact absurd (show false = true from hcl 11 _ rfl rfl ⟨10, .data⟩ (by first | exact .head _ | simp) rfl) (by decide)
          subst hb11
          clear hall hcl hs hf
          have h6 := hF.a6 rfl rfl
          obtain ⟨h8, _, _⟩ := hF.a8 rfl rfl
          obtain ⟨A9, c9, e9, ht9, _, _⟩ := h8.shape
          injection e9 with e9 _ _
          subst e9
          refine step_appO w1 (by rfl) _ _ 23 (by rfl) WR.heap.size 5 (.int .u8 0) 1 1 Try.underlying23 info_q8 rfl (by decide) (by decide) vd t.length (txt t) (by rfl) h6 (some ⟨kc, 0, none⟩) 1 1 [.int .u8 ((10 : Nat) : Int)] (by rfl) ht9.rs rfl rfl (by omega) (hF.ow rfl).1.size ?_
          intro v' w' ho hg hst
          exact hK _ _ ⟨b0, b1, b2, true, true, true, true, true, true, true, false, false, false, false, ka, kc, kp, vd, v', vz, rfl, rfl, hF.mk9 ho hg⟩
        · intro listed a w1 K hs hcl hf hall hI hK
          obtain ⟨b0, b1, b2, b3, b4, b5, b6, b7, b8, b9, b10, b11, b12, b13, ka, kc, kp, vd, ve, vz, rfl, rfl, hF⟩ := hI
          have hf' : b10 = false := hf
          subst hf'
          have hq2 : b2 = true := hall ⟨2, .data⟩ (by first | exact .head _ | simp) rfl
          subst hq2
          have hq9 : b9 = true := hall ⟨9, .data⟩ (by first | exact .head _ | simp) rfl
          subst hq9
          have hq1 : b1 = true := hcl 2 _ rfl rfl ⟨1, .data⟩ (by first | exact .head _ | simp) rfl
          subst hq1
          have hq6 : b6 = true := hcl 9 _ rfl rfl ⟨6, .data⟩ (by first | exact .head _ | simp) rfl
          subst hq6
          have hq8 : b8 = true := hcl 9 _ rfl rfl ⟨8, .data⟩ (by first | exact .head _ | simp) rfl
          subst hq8
          have hq3 : b3 = true := hcl 6 _ rfl rfl ⟨3, .data⟩ (by first | exact .head _ | simp) rfl
          subst hq3
          have hq5 : b5 = true := hcl 6 _ rfl rfl ⟨5, .data⟩ (by first | exact .head _ | simp) rfl
          subst hq5
          have hq7 : b7 = true := hcl 8 _ rfl rfl ⟨7, .data⟩ (by first | exact .head _ | simp) rfl
          subst hq7
          have hq4 : b4 = true := hcl 5 _ rfl rfl ⟨4, .data⟩ (by first | exact .head _ | simp) rfl
          subst hq4
          have hb11 : b11 = false := by
            cases b11
            · rfl
            · exact absurd (show false = true from hcl 11 _ rfl rfl ⟨10, .data⟩ (by first | exact .head _ | simp) rfl) (by decide)
          subst hb11
          have hb13 : b13 = false := by
            cases b13
            · rfl
            · exact absurd (show false = true from hcl 13 _ rfl rfl ⟨10, .phase⟩ (by first | exact .head _ | simp) rfl) (by decide)
          subst hb13
          have hb12 : b12 = false := by
            cases b12
            · rfl
            · exact absurd (show false = true from hcl 12 _ rfl rfl ⟨11, .data⟩ (by first | exact .head _ | simp) rfl) (by decide)
          subst hb12
          clear hall hcl hs hf
          obtain ⟨A9, c9, hv9, _, _, _⟩ := (hF.a9 rfl rfl).shape
          subst hv9
          go_simp
          exact hK _ _ ⟨b0, true, true, true, true, true, true, true, true, true, true, false, false, false, ka, kc, kp, vd, .slice A9 (t.length + 1) c9, vz, rfl, rfl, hF⟩
        · intro listed a w1 K hs hcl hf hall hI hK
          obtain ⟨b0, b1, b2, b3, b4, b5, b6, b7, b8, b9, b10, b11, b12, b13, ka, kc, kp, vd, ve, vz, rfl, rfl, hF⟩ := hI
          have hf' : b11 = false := hf
          subst hf'
          have hq10 : b10 = true := hall ⟨10, .data⟩ (by first | exact .head _ | simp) rfl
          subst hq10
          have hq2 : b2 = true := hcl 10 _ rfl rfl ⟨2, .data⟩ (by first | exact .head _ | simp) rfl
          subst hq2
          have hq9 : b9 = true := hcl 10 _ rfl rfl ⟨9, .data⟩ (by first | exact .head _ | simp) rfl
          subst hq9
          have hq1 : b1 = true := hcl 2 _ rfl rfl ⟨1, .data⟩ (by first | exact .head _ | simp) rfl
          subst hq1
          have hq6 : b6 = true := hcl 9 _ rfl rfl ⟨6, .data⟩ (by first | exact .head _ | simp) rfl
          subst hq6
          have hq8 : b8 = true := hcl 9 _ rfl rfl ⟨8, .data⟩ (by first | exact .head _ | simp) rfl
          subst hq8
          have hq3 : b3 = true := hcl 6 _ rfl rfl ⟨3, .data⟩ (by first | exact .head _ | simp) rfl
          subst hq3
          have hq5 : b5 = true := hcl 6 _ rfl rfl ⟨5, .data⟩ (by first | exact .head _ | simp) rfl
          subst hq5
          have hq7 : b7 = true := hcl 8 _ rfl rfl ⟨7, .data⟩ (by first | exact .head _ | simp) rfl
          subst hq7
          have hq4 : b4 = true := hcl 5 _ rfl rfl ⟨4, .data⟩ (by first | exact .head _ | simp) rfl
          subst hq4
          have hb12 : b12 = false := by
            cases b12
            · rfl
            · exact absurd (show false = true from hcl 12 _ rfl rfl ⟨11, .data⟩ (by first | exact .head _ | simp) rfl) (by decide)
          subst hb12
          have hb13 : b13 = false := by
            cases b13
            · rfl
            · exact absurd (show false = true from hcl 13 _ rfl rfl ⟨11, .phase⟩ (by first | exact .head _ | simp) rfl) (by decide)
          subst hb13
          clear hall hcl hs hf
          obtain ⟨A9, c9, hv9, _, _, _⟩ := (hF.a9 rfl rfl).shape
          subst hv9
          go_simp
          exact hK _ _ ⟨b0, true, true, true, true, true, true, true, true, true, true, true, false, false, ka, kc, w1.heap.size, vd, .slice A9 (t.length + 1) c9, vz, rfl, rfl, hF.mk11⟩
        · intro listed a w1 K hs hcl hf hall hI hK
          obtain ⟨b0, b1, b2, b3, b4, b5, b6, b7, b8, b9, b10, b11, b12, b13, ka, kc, kp, vd, ve, vz, rfl, rfl, hF⟩ := hI
          have hf' : b12 = false := hf
          subst hf'
          have hq0 : b0 = true := hall ⟨0, .data⟩ (by first | exact .head _ | simp) rfl
          subst hq0
          have hq11 : b11 = true := hall ⟨11, .data⟩ (by first | exact .head _ | simp) rfl
          subst hq11
          have hq9 : b9 = true := hall ⟨9, .chain⟩ (by first | exact .head _ | simp) rfl
          subst hq9
          have hq10 : b10 = true := hcl 11 _ rfl rfl ⟨10, .data⟩ (by first | exact .head _ | simp) rfl
          subst hq10
          have hq6 : b6 = true := hcl 9 _ rfl rfl ⟨6, .data⟩ (by first | exact .head _ | simp) rfl
          subst hq6
          have hq8 : b8 = true := hcl 9 _ rfl rfl ⟨8, .data⟩ (by first | exact .head _ | simp) rfl
          subst hq8
          have hq2 : b2 = true := hcl 10 _ rfl rfl ⟨2, .data⟩ (by first | exact .head _ | simp) rfl
          subst hq2
          have hq3 : b3 = true := hcl 6 _ rfl rfl ⟨3, .data⟩ (by first | exact .head _ | simp) rfl
          subst hq3
          have hq5 : b5 = true := hcl 6 _ rfl rfl ⟨5, .data⟩ (by first | exact .head _ | simp) rfl
          subst hq5
          have hq7 : b7 = true := hcl 8 _ rfl rfl ⟨7, .data⟩ (by first | exact .head _ | simp) rfl
          subst hq7
          have hq1 : b1 = true := hcl 2 _ rfl rfl ⟨1, .data⟩ (by first | exact .head _ | simp) rfl
          subst hq1
          have hq4 : b4 = true := hcl 5 _ rfl rfl ⟨4, .data⟩ (by first | exact .head _ | simp) rfl
          subst hq4
          have hb13 : b13 = false := by
            cases b13
            · rfl
            · exact absurd (show false = true from hcl 13 _ rfl rfl ⟨12, .data⟩ (by first | exact .head _ | simp) rfl) (by decide)
          subst hb13
          clear hall hcl hs hf
          have h12 := (hF.ow rfl).2
          have hrow := hF.a11 rfl rfl
          obtain ⟨A9, c9, hv9, _, _, _⟩ := (hF.a9 rfl rfl).shape
          subst hv9
          refine step_appO w1 (by rfl) _ _ 96 (by rfl) B 98 (.agg #[.int .i64 0, .bool false, .bool false, .slice none 0 0]) 4 40 Try.underlying96 info_pl rfl (by decide) (by decide) (.slice none 0 0) ([] : List Pr).length (prsV ([] : List Pr)) (by rfl) h12 (some ⟨kp, 0, none⟩) 1 1 [.int .i64 (lf : Int), .bool true, .bool false, .slice A9 (t.length + 1) c9] (by rfl) (Or.inr ⟨kp, 0, rfl, fun j u hu => by rw [Nat.zero_add, cell_of_row w1 kp j _ _ _ hrow, List.getElem?_toArray]; exact hu⟩) rfl rfl (by have := HLL.out; omega) (Nat.le_trans hF.wB (hF.ow rfl).1.size) ?_
          intro v' w' ho hg hst
          exact hK _ _ ⟨true, true, true, true, true, true, true, true, true, true, true, true, true, false, ka, kc, kp, vd, .slice A9 (t.length + 1) c9, v', rfl, rfl, hF.mk12 ho hg⟩
        · intro listed a w1 K hs hcl hf hall hI hK
          obtain ⟨b0, b1, b2, b3, b4, b5, b6, b7, b8, b9, b10, b11, b12, b13, ka, kc, kp, vd, ve, vz, rfl, rfl, hF⟩ := hI
          have hf' : b13 = false := hf
          subst hf'
          have hq12 : b12 = true := hall ⟨12, .data⟩ (by first | exact .head _ | simp) rfl
          subst hq12
          have hq0 : b0 = true := hall ⟨0, .phase⟩ (by first | exact .head _ | simp) rfl
          subst hq0
          have hq1 : b1 = true := hall ⟨1, .phase⟩ (by first | exact .head _ | simp) rfl
          subst hq1
          have hq2 : b2 = true := hall ⟨2, .phase⟩ (by first | exact .head _ | simp) rfl
          subst hq2
          have hq3 : b3 = true := hall ⟨3, .phase⟩ (by first | exact .head _ | simp) rfl
          subst hq3
          have hq4 : b4 = true := hall ⟨4, .phase⟩ (by first | exact .head _ | simp) rfl
          subst hq4
          have hq5 : b5 = true := hall ⟨5, .phase⟩ (by first | exact .head _ | simp) rfl
          subst hq5
          have hq6 : b6 = true := hall ⟨6, .phase⟩ (by first | exact .head _ | simp) rfl
          subst hq6
          have hq7 : b7 = true := hall ⟨7, .phase⟩ (by first | exact .head _ | simp) rfl
          subst hq7
          have hq8 : b8 = true := hall ⟨8, .phase⟩ (by first | exact .head _ | simp) rfl
          subst hq8
          have hq9 : b9 = true := hall ⟨9, .phase⟩ (by first | exact .head _ | simp) rfl
          subst hq9
          have hq10 : b10 = true := hall ⟨10, .phase⟩ (by first | exact .head _ | simp) rfl
          subst hq10
          have hq11 : b11 = true := hall ⟨11, .phase⟩ (by first | exact .head _ | simp) rfl
          subst hq11
          clear hall hcl hs hf
          go_simp
          exact hK _ _ ⟨true, true, true, true, true, true, true, true, true, true, true, true, true, true, ka, kc, kp, vd, ve, vz, rfl, rfl, hF⟩
    | false =>
      have HEND := Lib.hid (HPO.out (.slice none 0 0) ([] : List Pr) _ WR (by rw [HMM.out, if_neg (by rw [h10]; decide), List.append_nil]) HOWN.out HRD.out (HOW.out.up HO1R.out))
      clear HPO HMM h10
      go_wp2_with fail
      go_ret
      exact HEND.out
  | some cb =>
    cases pe with
    | true =>
      have HMM : Hid (readM st ⟨ps, pb, true⟩ = [] ++ (if hasB se 10 = true then [((⟨lf, true, false⟩ : Sp), 10)] else [])) := Lib.hid (by rw [HMA.out]; rfl)
      have HOWNQ : Hid (Own WQ B 98 4 (.slice none 0 0) ([] : List Pr).length (prsV [])) := Lib.hid (Own.nil_ _ _ _ _)
      have HRDQ : Hid (RdL WQ t [] []) := Lib.hid trivial
      have HO1Q := HO1R
      have HXTQ := HXT
      clear HMA HO1R HXT HWB
      obtain ⟨y3, y4, y5, y6⟩ := HY.out _ HO1Q.out
      go_wp2_with fail
      refine (HLN.out _).mono ?_; rintro e WR ⟨rfl, hdr⟩
      have HO1R := Lib.hid (HO1Q.out.up hdr)
      have HOWN := Lib.hid (HOWNQ.out.up hdr)
      have HRD := Lib.hid (HRDQ.out.keep (fun A xs h => h.up hdr))
      have HXT := Lib.hid (HXTQ.out.up hdr)
      have HWB : Hid (B ≤ WR.heap.size) := Lib.hid (HBE.out ▸ HO1R.out.size)
      clear hdr HO1Q HOWNQ HRDQ HXTQ HLN
      cases h10 : hasB se 10 with
      | true =>
        have HM10 : Hid (readM st ⟨ps, pb, true⟩ = ([] : List (Sp × Nat)) ++ [((⟨lf, true, false⟩ : Sp), 10)]) := Lib.hid (by rw [HMM.out, if_pos h10])
        go_upto_region 10 with fail
        refine wp_region_steps2U (by kernel_rfl) (by kernel_rfl) (fun (u_ : Value × Value × Value × Value × Value × Value × Value × Value × Value × Value × Value × Value × Value × Value × Value × Value × Value × Value × Value × Value × Value × Value × Value × Value × Value × Value × Value × Value × Value × Value × Value × Value × Value × Value × Value × Value × Value × Value × Value × Value × Value × Value × Value × Value × Value × Value) => RdJ W1 WR B ((.slice none 0 0)) ([] : List Pr) t 10 lf xA xc k3 k5 u_.1 u_.2.1 u_.2.2.1 u_.2.2.2.1 u_.2.2.2.2.1 u_.2.2.2.2.2.1 u_.2.2.2.2.2.2.1 u_.2.2.2.2.2.2.2.1 u_.2.2.2.2.2.2.2.2.1 u_.2.2.2.2.2.2.2.2.2.1 u_.2.2.2.2.2.2.2.2.2.2.1 u_.2.2.2.2.2.2.2.2.2.2.2.1 u_.2.2.2.2.2.2.2.2.2.2.2.2.1 u_.2.2.2.2.2.2.2.2.2.2.2.2.2.1 u_.2.2.2.2.2.2.2.2.2.2.2.2.2.2.1 u_.2.2.2.2.2.2.2.2.2.2.2.2.2.2.2.1 u_.2.2.2.2.2.2.2.2.2.2.2.2.2.2.2.2.1 u_.2.2.2.2.2.2.2.2.2.2.2.2.2.2.2.2.2.1 u_.2.2.2.2.2.2.2.2.2.2.2.2.2.2.2.2.2.2.1 u_.2.2.2.2.2.2.2.2.2.2.2.2.2.2.2.2.2.2.2.1 u_.2.2.2.2.2.2.2.2.2.2.2.2.2.2.2.2.2.2.2.2.1 u_.2.2.2.2.2.2.2.2.2.2.2.2.2.2.2.2.2.2.2.2.2.1 u_.2.2.2.2.2.2.2.2.2.2.2.2.2.2.2.2.2.2.2.2.2.2.1 u_.2.2.2.2.2.2.2.2.2.2.2.2.2.2.2.2.2.2.2.2.2.2.2.1 u_.2.2.2.2.2.2.2.2.2.2.2.2.2.2.2.2.2.2.2.2.2.2.2.2.1 u_.2.2.2.2.2.2.2.2.2.2.2.2.2.2.2.2.2.2.2.2.2.2.2.2.2.1 u_.2.2.2.2.2.2.2.2.2.2.2.2.2.2.2.2.2.2.2.2.2.2.2.2.2.2.1 u_.2.2.2.2.2.2.2.2.2.2.2.2.2.2.2.2.2.2.2.2.2.2.2.2.2.2.2.1 u_.2.2.2.2.2.2.2.2.2.2.2.2.2.2.2.2.2.2.2.2.2.2.2.2.2.2.2.2.1 u_.2.2.2.2.2.2.2.2.2.2.2.2.2.2.2.2.2.2.2.2.2.2.2.2.2.2.2.2.2.1 u_.2.2.2.2.2.2.2.2.2.2.2.2.2.2.2.2.2.2.2.2.2.2.2.2.2.2.2.2.2.2.1 u_.2.2.2.2.2.2.2.2.2.2.2.2.2.2.2.2.2.2.2.2.2.2.2.2.2.2.2.2.2.2.2.1 u_.2.2.2.2.2.2.2.2.2.2.2.2.2.2.2.2.2.2.2.2.2.2.2.2.2.2.2.2.2.2.2.2.1 u_.2.2.2.2.2.2.2.2.2.2.2.2.2.2.2.2.2.2.2.2.2.2.2.2.2.2.2.2.2.2.2.2.2.1 u_.2.2.2.2.2.2.2.2.2.2.2.2.2.2.2.2.2.2.2.2.2.2.2.2.2.2.2.2.2.2.2.2.2.2.1 u_.2.2.2.2.2.2.2.2.2.2.2.2.2.2.2.2.2.2.2.2.2.2.2.2.2.2.2.2.2.2.2.2.2.2.2.1 u_.2.2.2.2.2.2.2.2.2.2.2.2.2.2.2.2.2.2.2.2.2.2.2.2.2.2.2.2.2.2.2.2.2.2.2.2.1 u_.2.2.2.2.2.2.2.2.2.2.2.2.2.2.2.2.2.2.2.2.2.2.2.2.2.2.2.2.2.2.2.2.2.2.2.2.2.1 u_.2.2.2.2.2.2.2.2.2.2.2.2.2.2.2.2.2.2.2.2.2.2.2.2.2.2.2.2.2.2.2.2.2.2.2.2.2.2.1 u_.2.2.2.2.2.2.2.2.2.2.2.2.2.2.2.2.2.2.2.2.2.2.2.2.2.2.2.2.2.2.2.2.2.2.2.2.2.2.2.1 u_.2.2.2.2.2.2.2.2.2.2.2.2.2.2.2.2.2.2.2.2.2.2.2.2.2.2.2.2.2.2.2.2.2.2.2.2.2.2.2.2.1 u_.2.2.2.2.2.2.2.2.2.2.2.2.2.2.2.2.2.2.2.2.2.2.2.2.2.2.2.2.2.2.2.2.2.2.2.2.2.2.2.2.2.1 u_.2.2.2.2.2.2.2.2.2.2.2.2.2.2.2.2.2.2.2.2.2.2.2.2.2.2.2.2.2.2.2.2.2.2.2.2.2.2.2.2.2.2.1 u_.2.2.2.2.2.2.2.2.2.2.2.2.2.2.2.2.2.2.2.2.2.2.2.2.2.2.2.2.2.2.2.2.2.2.2.2.2.2.2.2.2.2.2.1 u_.2.2.2.2.2.2.2.2.2.2.2.2.2.2.2.2.2.2.2.2.2.2.2.2.2.2.2.2.2.2.2.2.2.2.2.2.2.2.2.2.2.2.2.2.1 u_.2.2.2.2.2.2.2.2.2.2.2.2.2.2.2.2.2.2.2.2.2.2.2.2.2.2.2.2.2.2.2.2.2.2.2.2.2.2.2.2.2.2.2.2.2) ?_ ?_ ?_
        · exact ⟨(_, _, _, _, _, _, _, _, _, _, _, _, _, _, _, _, _, _, _, _, _, _, _, _, _, _, _, _, _, _, _, _, _, _, _, _, _, _, _, _, _, _, _, _, _, _), false, false, false, false, false, false, false, false, false, false, false, false, false, false, 0, 0, 0, undef, undef, undef, rfl, rfl, (RF.start HO1R.out HBB.out HWB.out HOWN.out)⟩
        · rintro ⟨u0, u1, u4, u7, u8, u10, u11, u12, u13, u14, u15, u16, u17, u18, u19, u20, u21, u22, u23, u24, u25, u26, u27, u28, u29, u30, u31, u32, u33, u34, u35, u36, u37, u38, u39, u40, u41, u42, u43, u44, u45, u46, u47, u48, u49, u50⟩ a w1 ⟨b0, b1, b2, b3, b4, b5, b6, b7, b8, b9, b10, b11, b12, b13, ka, kc, kp, vd, ve, vz, hl, rfl, hF⟩
          have hl' := congrArg Array.toList hl
          simp at hl'
          obtain ⟨rfl, rfl, rfl, rfl, rfl, rfl, rfl, rfl, rfl, rfl, rfl, rfl, rfl, rfl⟩ := hl'
          clear hl
          obtain ⟨y9, hy, hoz, hkp⟩ := hF.fin rfl
          have hrd := (HRD.out.keep hkp).snoc hy
          have HEND := Lib.hid (HPO.out vz (([] : List Pr) ++ [y9]) _ w1 HM10.out hoz hrd (HOW.out.up hF.o1))
          clear hF hoz hrd hkp hy HPO
          go_wp2_with fail
          go_ret
          exact HEND.out
        · rintro ⟨u0, u1, u4, u7, u8, u10, u11, u12, u13, u14, u15, u16, u17, u18, u19, u20, u21, u22, u23, u24, u25, u26, u27, u28, u29, u30, u31, u32, u33, u34, u35, u36, u37, u38, u39, u40, u41, u42, u43, u44, u45, u46, u47, u48, u49, u50⟩
          refine ⟨?_, ?_, ?_, ?_, ?_, ?_, ?_, ?_, ?_, ?_, ?_, ?_, ?_, ?_, trivial⟩
          · intro listed a w1 K hs hcl hf hall hI hK
            obtain ⟨b0, b1, b2, b3, b4, b5, b6, b7, b8, b9, b10, b11, b12, b13, ka, kc, kp, vd, ve, vz, rfl, rfl, hF⟩ := hI
            have hf' : b0 = false := hf
            subst hf'
            have hb12 : b12 = false := by
              cases b12
              · rfl
              · exact absurd (show false = true from hcl 12 _ rfl rfl ⟨0, .data⟩ (by first | exact .head _ | simp) rfl) (by decide)
            subst hb12
            have hb13 : b13 = false := by
              cases b13
              · rfl
              · exact absurd (show false = true from hcl 13 _ rfl rfl ⟨0, .phase⟩ (by first | exact .head _ | simp) rfl) (by decide)
            subst hb13
            clear hall hcl hs hf
            go_simp
            exact hK _ _ ⟨true, b1, b2, b3, b4, b5, b6, b7, b8, b9, b10, b11, false, false, ka, kc, kp, vd, ve, vz, rfl, rfl, hF⟩
          · intro listed a w1 K hs hcl hf hall hI hK
            obtain ⟨b0, b1, b2, b3, b4, b5, b6, b7, b8, b9, b10, b11, b12, b13, ka, kc, kp, vd, ve, vz, rfl, rfl, hF⟩ := hI
            have hf' : b1 = false := hf
            subst hf'
            clear hall hcl hs hf
            go_simp
            exact hK _ _ ⟨b0, true, b2, b3, b4, b5, b6, b7, b8, b9, b10, b11, b12, b13, ka, kc, kp, vd, ve, vz, rfl, rfl, hF⟩
          · intro listed a w1 K hs hcl hf hall hI hK
            obtain ⟨b0, b1, b2, b3, b4, b5, b6, b7, b8, b9, b10, b11, b12, b13, ka, kc, kp, vd, ve, vz, rfl, rfl, hF⟩ := hI
            have hf' : b2 = false := hf
            subst hf'
            have hq1 : b1 = true := hall ⟨1, .data⟩ (by first | exact .head _ | simp) rfl
            subst hq1
            have hb10 : b10 = false := by
              cases b10
              · rfl
              · exact absurd (show false = true from hcl 10 _ rfl rfl ⟨2, .data⟩ (by first | exact .head _ | simp) rfl) (by decide)
            subst hb10
            have hb13 : b13 = false := by
              cases b13
              · rfl
              · exact absurd (show false = true from hcl 13 _ rfl rfl ⟨2, .phase⟩ (by first | exact .head _ | simp) rfl) (by decide)
            subst hb13
            have hb11 : b11 = false := by
              cases b11
              · rfl
              · exact absurd (show false = true from hcl 11 _ rfl rfl ⟨10, .data⟩ (by first | exact .head _ | simp) rfl) (by decide)
            subst hb11
            have hb12 : b12 = false := by
              cases b12
              · rfl
              · exact absurd (show false = true from hcl 12 _ rfl rfl ⟨11, .data⟩ (by first | exact .head _ | simp) rfl) (by decide)
            subst hb12
            clear hall hcl hs hf
            have hb5 := hF.o1.block HB5.out
            have q1 : w1.cell? ⟨k5, 1, none⟩ = some (.int .i64 (lf : Int)) := by rw [cell_of_row w1 k5 1 _ _ _ hb5]; rfl
            clear hb5
            go_simp
            exact hK _ _ ⟨b0, true, true, b3, b4, b5, b6, b7, b8, b9, false, false, false, false, ka, kc, kp, vd, ve, vz, rfl, rfl, hF⟩
          · intro listed a w1 K hs hcl hf hall hI hK
            obtain ⟨b0, b1, b2, b3, b4, b5, b6, b7, b8, b9, b10, b11, b12, b13, ka, kc, kp, vd, ve, vz, rfl, rfl, hF⟩ := hI
            have hf' : b3 = false := hf
            subst hf'
            have hb6 : b6 = false := by
              cases b6
              · rfl
              · exact absurd (show false = true from hcl 6 _ rfl rfl ⟨3, .data⟩ (by first | exact .head _ | simp) rfl) (by decide)
            subst hb6
            have hb13 : b13 = false := by
              cases b13
              · rfl
              · exact absurd (show false = true from hcl 13 _ rfl rfl ⟨3, .phase⟩ (by first | exact .head _ | simp) rfl) (by decide)
            subst hb13
            have hb9 : b9 = false := by
              cases b9
              · rfl
              · exact absurd (show false = true from hcl 9 _ rfl rfl ⟨6, .data⟩ (by first | exact .head _ | simp) rfl) (by decide)
            subst hb9
            have hb10 : b10 = false := by
              cases b10
              · rfl
              · exact absurd (show false = true from hcl 10 _ rfl rfl ⟨9, .data⟩ (by first | exact .head _ | simp) rfl) (by decide)
            subst hb10
            have hb12 : b12 = false := by
              cases b12
              · rfl
              · exact absurd (show false = true from hcl 12 _ rfl rfl ⟨9, .chain⟩ (by first | exact .head _ | simp) rfl) (by decide)
            subst hb12
            have hb11 : b11 = false := by
              cases b11
              · rfl
              · exact absurd (show false = true from hcl 11 _ rfl rfl ⟨10, .data⟩ (by first | exact .head _ | simp) rfl) (by decide)
            subst hb11
            clear hall hcl hs hf
            go_simp
            exact hK _ _ ⟨b0, b1, b2, true, b4, b5, false, b7, b8, false, false, false, false, false, w1.heap.size, kc, kp, vd, ve, vz, rfl, rfl, hF.mk3⟩
          · intro listed a w1 K hs hcl hf hall hI hK
            obtain ⟨b0, b1, b2, b3, b4, b5, b6, b7, b8, b9, b10, b11, b12, b13, ka, kc, kp, vd, ve, vz, rfl, rfl, hF⟩ := hI
            have hf' : b4 = false := hf
            subst hf'
            clear hall hcl hs hf
            go_simp
            exact hK _ _ ⟨b0, b1, b2, b3, true, b5, b6, b7, b8, b9, b10, b11, b12, b13, ka, kc, kp, vd, ve, vz, rfl, rfl, hF⟩
          · intro listed a w1 K hs hcl hf hall hI hK
            obtain ⟨b0, b1, b2, b3, b4, b5, b6, b7, b8, b9, b10, b11, b12, b13, ka, kc, kp, vd, ve, vz, rfl, rfl, hF⟩ := hI
            have hf' : b5 = false := hf
            subst hf'
            have hq4 : b4 = true := hall ⟨4, .data⟩ (by first | exact .head _ | simp) rfl
            subst hq4
            have hb6 : b6 = false := by
              cases b6
              · rfl
              · exact absurd (show false = true from hcl 6 _ rfl rfl ⟨5, .data⟩ (by first | exact .head _ | simp) rfl) (by decide)
            subst hb6
            have hb13 : b13 = false := by
              cases b13
              · rfl
              · exact absurd (show false = true from hcl 13 _ rfl rfl ⟨5, .phase⟩ (by first | exact .head _ | simp) rfl) (by decide)
            subst hb13
            have hb9 : b9 = false := by
              cases b9
              · rfl
              · exact absurd (show false = true from hcl 9 _ rfl rfl ⟨6, .data⟩ (by first | exact .head _ | simp) rfl) (by decide)
            subst hb9
            have hb10 : b10 = false := by
              cases b10
              · rfl
              · exact absurd (show false = true from hcl 10 _ rfl rfl ⟨9, .data⟩ (by first | exact .head _ | simp) rfl) (by decide)
            subst hb10
            have hb12 : b12 = false := by
              cases b12
              · rfl
              · exact absurd (show false = true from hcl 12 _ rfl rfl ⟨9, .chain⟩ (by first | exact .head _ | simp) rfl) (by decide)
            subst hb12
            have hb11 : b11 = false := by
              cases b11
              · rfl
              · exact absurd (show false = true from hcl 11 _ rfl rfl ⟨10, .data⟩ (by first | exact .head _ | simp) rfl) (by decide)
            subst hb11
            clear hall hcl hs hf
            obtain ⟨⟨q0, q1, q2, q3⟩, _⟩ := pl_cells (hF.o1.block HB3.out)
            go_simp
            exact hK _ _ ⟨b0, b1, b2, b3, true, true, false, b7, b8, false, false, false, false, false, ka, kc, kp, vd, ve, vz, rfl, rfl, hF⟩
          · intro listed a w1 K hs hcl hf hall hI hK
            obtain ⟨b0, b1, b2, b3, b4, b5, b6, b7, b8, b9, b10, b11, b12, b13, ka, kc, kp, vd, ve, vz, rfl, rfl, hF⟩ := hI
            have hf' : b6 = false := hf
            subst hf'
            have hq3 : b3 = true := hall ⟨3, .data⟩ (by first | exact .head _ | simp) rfl
            subst hq3
            have hq5 : b5 = true := hall ⟨5, .data⟩ (by first | exact .head _ | simp) rfl
            subst hq5
            have hq4 : b4 = true := hcl 5 _ rfl rfl ⟨4, .data⟩ (by first | exact .head _ | simp) rfl
            subst hq4
            have hb9 : b9 = false := by
              cases b9
              · rfl
              · exact absurd (show false = true from hcl 9 _ rfl rfl ⟨6, .data⟩ (by first | exact .head _ | simp) rfl) (by decide)
            subst hb9
            have hb13 : b13 = false := by
              cases b13
              · rfl
              · exact absurd (show false = true from hcl 13 _ rfl rfl ⟨6, .phase⟩ (by first | exact .head _ | simp) rfl) (by decide)
            subst hb13
            have hb10 : b10 = false := by
              cases b10
              · rfl
              · exact absurd (show false = true from hcl 10 _ rfl rfl ⟨9, .data⟩ (by first | exact .head _ | simp) rfl) (by decide)
            subst hb10
            have hb12 : b12 = false := by
              cases b12
              · rfl
              · exact absurd (show false = true from hcl 12 _ rfl rfl ⟨9, .chain⟩ (by first | exact .head _ | simp) rfl) (by decide)
            subst hb12
            have hb11 : b11 = false := by
              cases b11
              · rfl
              · exact absurd (show false = true from hcl 11 _ rfl rfl ⟨10, .data⟩ (by first | exact .head _ | simp) rfl) (by decide)
            subst hb11
            clear hall hcl hs hf
            have h3 := hF.a3 rfl rfl
            refine step_appO w1 (by rfl) _ _ 23 (by rfl) WR.heap.size 5 (.int .u8 0) 1 1 Try.underlying23 info_q8 rfl (by decide) (by decide) (.slice (some ⟨ka, 0, none⟩) 0 0) 0 [] (by rfl) h3 xA t.length xc (txt t) (by rfl) (HXT.out.up (hF.ow rfl).1).rs (by rw [qtxt_len]; omega) (qtxt_one t) (by omega) (hF.ow rfl).1.size ?_
            intro v' w' ho hg hst
            exact hK _ _ ⟨b0, b1, b2, true, true, true, true, b7, b8, false, false, false, false, false, ka, kc, kp, v', ve, vz, rfl, rfl, hF.mk6 ho hg hst⟩
          · intro listed a w1 K hs hcl hf hall hI hK
            obtain ⟨b0, b1, b2, b3, b4, b5, b6, b7, b8, b9, b10, b11, b12, b13, ka, kc, kp, vd, ve, vz, rfl, rfl, hF⟩ := hI
            have hf' : b7 = false := hf
            subst hf'
            clear hall hcl hs hf
            go_simp
            exact hK _ _ ⟨b0, b1, b2, b3, b4, b5, b6, true, b8, b9, b10, b11, b12, b13, ka, kc, kp, vd, ve, vz, rfl, rfl, hF⟩
          · intro listed a w1 K hs hcl hf hall hI hK
            obtain ⟨b0, b1, b2, b3, b4, b5, b6, b7, b8, b9, b10, b11, b12, b13, ka, kc, kp, vd, ve, vz, rfl, rfl, hF⟩ := hI
            have hf' : b8 = false := hf
            subst hf'
            have hq7 : b7 = true := hall ⟨7, .data⟩ (by first | exact .head _ | simp) rfl
            subst hq7
            have hb9 : b9 = false := by
              cases b9
              · rfl
              · exact absurd (show false = true from hcl 9 _ rfl rfl ⟨8, .data⟩ (by first | exact .head _ | simp) rfl) (by decide)
            subst hb9
            have hb13 : b13 = false := by
              cases b13
              · rfl
              · exact absurd (show false = true from hcl 13 _ rfl rfl ⟨8, .phase⟩ (by first | exact .head _ | simp) rfl) (by decide)
            subst hb13
            have hb10 : b10 = false := by
              cases b10
              · rfl
              · exact absurd (show false = true from hcl 10 _ rfl rfl ⟨9, .data⟩ (by first | exact .head _ | simp) rfl) (by decide)
            subst hb10
            have hb12 : b12 = false := by
              cases b12
              · rfl
              · exact absurd (show false = true from hcl 12 _ rfl rfl ⟨9, .chain⟩ (by first | exact .head _ | simp) rfl) (by decide)
            subst hb12
            have hb11 : b11 = false := by
              cases b11
              · rfl
              · exact absurd (show false = true from hcl 11 _ rfl rfl ⟨10, .data⟩ (by first | exact .head _ | simp) rfl) (by decide)
            subst hb11
            clear hall hcl hs hf
            go_simp
            exact hK _ _ ⟨b0, b1, b2, b3, b4, b5, b6, true, true, false, false, false, false, false, ka, w1.heap.size, kp, vd, ve, vz, rfl, rfl, hF.mk8⟩
          · intro listed a w1 K hs hcl hf hall hI hK
            obtain ⟨b0, b1, b2, b3, b4, b5, b6, b7, b8, b9, b10, b11, b12, b13, ka, kc, kp, vd, ve, vz, rfl, rfl, hF⟩ := hI
            have hf' : b9 = false := hf
            subst hf'
            have hq6 : b6 = true := hall ⟨6, .data⟩ (by first | exact .head _ | simp) rfl
            subst hq6
            have hq8 : b8 = true := hall ⟨8, .data⟩ (by first | exact .head _ | simp) rfl
            subst hq8
            have hq3 : b3 = true := hcl 6 _ rfl rfl ⟨3, .data⟩ (by first | exact .head _ | simp) rfl
            subst hq3
            have hq5 : b5 = true := hcl 6 _ rfl rfl ⟨5, .data⟩ (by first | exact .head _ | simp) rfl
            subst hq5
            have hq7 : b7 = true := hcl 8 _ rfl rfl ⟨7, .data⟩ (by first | exact .head _ | simp) rfl
            subst hq7
            have hq4 : b4 = true := hcl 5 _ rfl rfl ⟨4, .data⟩ (by first | exact .head _ | simp) rfl
            subst hq4
            have hb10 : b10 = false := by
              cases b10
              · rfl
              · exact absurd (show false = true from hcl 10 _ rfl rfl ⟨9, .data⟩ (by first | exact .head _ | simp) rfl) (by decide)
            subst hb10
            have hb12 : b12 = false := by
              cases b12
              · rfl
              · exact absurd (show false = true from hcl 12 _ rfl rfl ⟨9, .chain⟩ (by first | exact .head _ | simp) rfl) (by decide)
            subst hb12
            have hb13 : b13 = false := by
              cases b13
              · rfl
              · exact absurd (show false = true from hcl 13 _ rfl rfl ⟨9, .phase⟩ (by first | exact .head _ | simp) rfl) (by decide)
            subst hb13
            have hb11 : b11 = false := by
              cases b11
              · rfl
              · exact absurd (show false = true from hcl 11 _ rfl rfl ⟨10, .data⟩ (by first | exact .head _ | simp) rfl) (by decide)
            subst hb11
            clear hall hcl hs hf
            have h6 := hF.a6 rfl rfl
            obtain ⟨h8, _, _⟩ := hF.a8 rfl rfl
            obtain ⟨A9, c9, e9, ht9, _, _⟩ := h8.shape
            injection e9 with e9 _ _
            subst e9
            refine step_appO w1 (by rfl) _ _ 23 (by rfl) WR.heap.size 5 (.int .u8 0) 1 1 Try.underlying23 info_q8 rfl (by decide) (by decide) vd t.length (txt t) (by rfl) h6 (some ⟨kc, 0, none⟩) 1 1 [.int .u8 ((10 : Nat) : Int)] (by rfl) ht9.rs rfl rfl (by omega) (hF.ow rfl).1.size ?_
            intro v' w' ho hg hst
            exact hK _ _ ⟨b0, b1, b2, true, true, true, true, true, true, true, false, false, false, false, ka, kc, kp, vd, v', vz, rfl, rfl, hF.mk9 ho hg⟩
          · intro listed a w1 K hs hcl hf hall hI hK
            obtain ⟨b0, b1, b2, b3, b4, b5, b6, b7, b8, b9, b10, b11, b12, b13, ka, kc, kp, vd, ve, vz, rfl, rfl, hF⟩ := hI
            have hf' : b10 = false := hf
            subst hf'
            have hq2 : b2 = true := hall ⟨2, .data⟩ (by first | exact .head _ | simp) rfl
            subst hq2
            have hq9 : b9 = true := hall ⟨9, .data⟩ (by first | exact .head _ | simp) rfl
            subst hq9
            have hq1 : b1 = true := hcl 2 _ rfl rfl ⟨1, .data⟩ (by first | exact .head _ | simp) rfl
            subst hq1
            have hq6 : b6 = true := hcl 9 _ rfl rfl ⟨6, .data⟩ (by first | exact .head _ | simp) rfl
            subst hq6
            have hq8 : b8 = true := hcl 9 _ rfl rfl ⟨8, .data⟩ (by first | exact .head _ | simp) rfl
            subst hq8
            have hq3 : b3 = true := hcl 6 _ rfl rfl ⟨3, .data⟩ (by first | exact .head _ | simp) rfl
            subst hq3
            have hq5 : b5 = true := hcl 6 _ rfl rfl ⟨5, .data⟩ (by first | exact .head _ | simp) rfl
            subst hq5
            have hq7 : b7 = true := hcl 8 _ rfl rfl ⟨7, .data⟩ (by first | exact .head _ | simp) rfl
            subst hq7
            have hq4 : b4 = true := hcl 5 _ rfl rfl ⟨4, .data⟩ (by first | exact .head _ | simp) rfl
            subst hq4
            have hb11 : b11 = false := by
              cases b11
              · rfl
              · exact absurd (show false = true from hcl 11 _ rfl rfl ⟨10, .data⟩ (by first | exact .head _ | simp) rfl) (by decide)
            subst hb11
            have hb13 : b13 = false := by
              cases b13
              · rfl
              · exact absurd (show false = true from hcl 13 _ rfl rfl ⟨10, .phase⟩ (by first | exact .head _ | simp) rfl) (by decide)
            subst hb13
            have hb12 : b12 = false := by
              cases b12
              · rfl
              · exact absurd (show false = true from hcl 12 _ rfl rfl ⟨11, .data⟩ (by first | exact .head _ | simp) rfl) (by decide)
            subst hb12
            clear hall hcl hs hf
            obtain ⟨A9, c9, hv9, _, _, _⟩ := (hF.a9 rfl rfl).shape
            subst hv9
            go_simp
            exact hK _ _ ⟨b0, true, true, true, true, true, true, true, true, true, true, false, false, false, ka, kc, kp, vd, .slice A9 (t.length + 1) c9, vz, rfl, rfl, hF⟩
          · intro listed a w1 K hs hcl hf hall hI hK
            obtain ⟨b0, b1, b2, b3, b4, b5, b6, b7, b8, b9, b10, b11, b12, b13, ka, kc, kp, vd, ve, vz, rfl, rfl, hF⟩ := hI
            have hf' : b11 = false := hf
            subst hf'
            have hq10 : b10 = true := hall ⟨10, .data⟩ (by first | exact .head _ | simp) rfl
            subst hq10
            have hq2 : b2 = true := hcl 10 _ rfl rfl ⟨2, .data⟩ (by first | exact .head _ | simp) rfl
            subst hq2
            have hq9 : b9 = true := hcl 10 _ rfl rfl ⟨9, .data⟩ (by first | exact .head _ | simp) rfl
            subst hq9
            have hq1 : b1 = true := hcl 2 _ rfl rfl ⟨1, .data⟩ (by first | exact .head _ | simp) rfl
            subst hq1
            have hq6 : b6 = true := hcl 9 _ rfl rfl ⟨6, .data⟩ (by first | exact .head _ | simp) rfl
            subst hq6
            have hq8 : b8 = true := hcl 9 _ rfl rfl ⟨8, .data⟩ (by first | exact .head _ | simp) rfl
            subst hq8
            have hq3 : b3 = true := hcl 6 _ rfl rfl ⟨3, .data⟩ (by first | exact .head _ | simp) rfl
            subst hq3
            have hq5 : b5 = true := hcl 6 _ rfl rfl ⟨5, .data⟩ (by first | exact .head _ | simp) rfl
            subst hq5
            have hq7 : b7 = true := hcl 8 _ rfl rfl ⟨7, .data⟩ (by first | exact .head _ | simp) rfl
            subst hq7
            have hq4 : b4 = true := hcl 5 _ rfl rfl ⟨4, .data⟩ (by first | exact .head _ | simp) rfl
            subst hq4
            have hb12 : b12 = false := by
              cases b12
              · rfl
              · exact absurd (show false = true from hcl 12 _ rfl rfl ⟨11, .data⟩ (by first | exact .head _ | simp) rfl) (by decide)
            subst hb12
            have hb13 : b13 = false := by
              cases b13
              · rfl
              · exact absurd (show false = true from hcl 13 _ rfl rfl ⟨11, .phase⟩ (by first | exact .head _ | simp) rfl) (by decide)
            subst hb13
            clear hall hcl hs hf
            obtain ⟨A9, c9, hv9, _, _, _⟩ := (hF.a9 rfl rfl).shape
            subst hv9
            go_simp
            exact hK _ _ ⟨b0, true, true, true, true, true, true, true, true, true, true, true, false, false, ka, kc, w1.heap.size, vd, .slice A9 (t.length + 1) c9, vz, rfl, rfl, hF.mk11⟩
          · intro listed a w1 K hs hcl hf hall hI hK
            obtain ⟨b0, b1, b2, b3, b4, b5, b6, b7, b8, b9, b10, b11, b12, b13, ka, kc, kp, vd, ve, vz, rfl, rfl, hF⟩ := hI
            have hf' : b12 = false := hf
            subst hf'
            have hq0 : b0 = true := hall ⟨0, .data⟩ (by first | exact .head _ | simp) rfl
            subst hq0
            have hq11 : b11 = true := hall ⟨11, .data⟩ (by first | exact .head _ | simp) rfl
            subst hq11
            have hq9 : b9 = true := hall ⟨9, .chain⟩ (by first | exact .head _ | simp) rfl
            subst hq9
            have hq10 : b10 = true := hcl 11 _ rfl rfl ⟨10, .data⟩ (by first | exact .head _ | simp) rfl
            subst hq10
            have hq6 : b6 = true := hcl 9 _ rfl rfl ⟨6, .data⟩ (by first | exact .head _ | simp) rfl
            subst hq6
            have hq8 : b8 = true := hcl 9 _ rfl rfl ⟨8, .data⟩ (by first | exact .head _ | simp) rfl
            subst hq8
            have hq2 : b2 = true := hcl 10 _ rfl rfl ⟨2, .data⟩ (by first | exact .head _ | simp) rfl
            subst hq2
            have hq3 : b3 = true := hcl 6 _ rfl rfl ⟨3, .data⟩ (by first | exact .head _ | simp) rfl
            subst hq3
            have hq5 : b5 = true := hcl 6 _ rfl rfl ⟨5, .data⟩ (by first | exact .head _ | simp) rfl
            subst hq5
            have hq7 : b7 = true := hcl 8 _ rfl rfl ⟨7, .data⟩ (by first | exact .head _ | simp) rfl
            subst hq7
            have hq1 : b1 = true := hcl 2 _ rfl rfl ⟨1, .data⟩ (by first | exact .head _ | simp) rfl
            subst hq1
            have hq4 : b4 = true := hcl 5 _ rfl rfl ⟨4, .data⟩ (by first | exact .head _ | simp) rfl
            subst hq4
            have hb13 : b13 = false := by
              cases b13
              · rfl
              · exact absurd (show false = true from hcl 13 _ rfl rfl ⟨12, .data⟩ (by first | exact .head _ | simp) rfl) (by decide)
            subst hb13
            clear hall hcl hs hf
            have h12 := (hF.ow rfl).2
            have hrow := hF.a11 rfl rfl
            obtain ⟨A9, c9, hv9, _, _, _⟩ := (hF.a9 rfl rfl).shape
            subst hv9
            refine step_appO w1 (by rfl) _ _ 96 (by rfl) B 98 (.agg #[.int .i64 0, .bool false, .bool false, .slice none 0 0]) 4 40 Try.underlying96 info_pl rfl (by decide) (by decide) (.slice none 0 0) ([] : List Pr).length (prsV ([] : List Pr)) (by rfl) h12 (some ⟨kp, 0, none⟩) 1 1 [.int .i64 (lf : Int), .bool true, .bool false, .slice A9 (t.length + 1) c9] (by rfl) (Or.inr ⟨kp, 0, rfl, fun j u hu => by rw [Nat.zero_add, cell_of_row w1 kp j _ _ _ hrow, List.getElem?_toArray]; exact hu⟩) rfl rfl (by have := HLL.out; omega) (Nat.le_trans hF.wB (hF.ow rfl).1.size) ?_
            intro v' w' ho hg hst
            exact hK _ _ ⟨true, true, true, true, true, true, true, true, true, true, true, true, true, false, ka, kc, kp, vd, .slice A9 (t.length + 1) c9, v', rfl, rfl, hF.mk12 ho hg⟩
          · intro listed a w1 K hs hcl hf hall hI hK
            obtain ⟨b0, b1, b2, b3, b4, b5, b6, b7, b8, b9, b10, b11, b12, b13, ka, kc, kp, vd, ve, vz, rfl, rfl, hF⟩ := hI
            have hf' : b13 = false := hf
            subst hf'
            have hq12 : b12 = true := hall ⟨12, .data⟩ (by first | exact .head _ | simp) rfl
            subst hq12
            have hq0 : b0 = true := hall ⟨0, .phase⟩ (by first | exact .head _ | simp) rfl
            subst hq0
            have hq1 : b1 = true := hall ⟨1, .phase⟩ (by first | exact .head _ | simp) rfl
            subst hq1
            have hq2 : b2 = true := hall ⟨2, .phase⟩ (by first | exact .head _ | simp) rfl
            subst hq2
            have hq3 : b3 = true := hall ⟨3, .phase⟩ (by first | exact .head _ | simp) rfl
            subst hq3
            have hq4 : b4 = true := hall ⟨4, .phase⟩ (by first | exact .head _ | simp) rfl
            subst hq4
            have hq5 : b5 = true := hall ⟨5, .phase⟩ (by first | exact .head _ | simp) rfl
            subst hq5
            have hq6 : b6 = true := hall ⟨6, .phase⟩ (by first | exact .head _ | simp) rfl
            subst hq6
            have hq7 : b7 = true := hall ⟨7, .phase⟩ (by first | exact .head _ | simp) rfl
            subst hq7
            have hq8 : b8 = true := hall ⟨8, .phase⟩ (by first | exact .head _ | simp) rfl
            subst hq8
            have hq9 : b9 = true := hall ⟨9, .phase⟩ (by first | exact .head _ | simp) rfl
            subst hq9
            have hq10 : b10 = true := hall ⟨10, .phase⟩ (by first | exact .head _ | simp) rfl
            subst hq10
            have hq11 : b11 = true := hall ⟨11, .phase⟩ (by first | exact .head _ | simp) rfl
            subst hq11
            clear hall hcl hs hf
            go_simp
            exact hK _ _ ⟨true, true, true, true, true, true, true, true, true, true, true, true, true, true, ka, kc, kp, vd, ve, vz, rfl, rfl, hF⟩
      | false =>
        have HEND := Lib.hid (HPO.out (.slice none 0 0) ([] : List Pr) _ WR (by rw [HMM.out, if_neg (by rw [h10]; decide), List.append_nil]) HOWN.out HRD.out (HOW.out.up HO1R.out))
        clear HPO HMM h10
        go_wp2_with fail
        go_ret
        exact HEND.out
    | false =>
      have HMM : Hid (readM st ⟨ps, pb, false⟩ = [((⟨lf, false, false⟩ : Sp), cb)] ++ (if hasB se 10 = true then [((⟨lf, true, false⟩ : Sp), 10)] else [])) := Lib.hid (by rw [HMA.out, hl]; rfl)
      have HOWN : Hid (Own WQ B 98 4 (.slice none 0 0) ([] : List Pr).length (prsV [])) := Lib.hid (Own.nil_ _ _ _ _)
      clear HMA
      go_upto_region 7 with fail
      refine wp_region_steps2U (by kernel_rfl) (by kernel_rfl) (fun (u_ : Value × Value × Value × Value × Value × Value × Value × Value × Value × Value × Value × Value × Value × Value × Value × Value × Value × Value × Value × Value × Value × Value × Value × Value × Value × Value) => RdI W1 WQ B ((.slice none 0 0)) ([] : List Pr) t cb lf xA xc k3 k5 u_.1 u_.2.1 u_.2.2.1 u_.2.2.2.1 u_.2.2.2.2.1 u_.2.2.2.2.2.1 u_.2.2.2.2.2.2.1 u_.2.2.2.2.2.2.2.1 u_.2.2.2.2.2.2.2.2.1 u_.2.2.2.2.2.2.2.2.2.1 u_.2.2.2.2.2.2.2.2.2.2.1 u_.2.2.2.2.2.2.2.2.2.2.2.1 u_.2.2.2.2.2.2.2.2.2.2.2.2.1 u_.2.2.2.2.2.2.2.2.2.2.2.2.2.1 u_.2.2.2.2.2.2.2.2.2.2.2.2.2.2.1 u_.2.2.2.2.2.2.2.2.2.2.2.2.2.2.2.1 u_.2.2.2.2.2.2.2.2.2.2.2.2.2.2.2.2.1 u_.2.2.2.2.2.2.2.2.2.2.2.2.2.2.2.2.2.1 u_.2.2.2.2.2.2.2.2.2.2.2.2.2.2.2.2.2.2.1 u_.2.2.2.2.2.2.2.2.2.2.2.2.2.2.2.2.2.2.2.1 u_.2.2.2.2.2.2.2.2.2.2.2.2.2.2.2.2.2.2.2.2.1 u_.2.2.2.2.2.2.2.2.2.2.2.2.2.2.2.2.2.2.2.2.2.1 u_.2.2.2.2.2.2.2.2.2.2.2.2.2.2.2.2.2.2.2.2.2.2.1 u_.2.2.2.2.2.2.2.2.2.2.2.2.2.2.2.2.2.2.2.2.2.2.2.1 u_.2.2.2.2.2.2.2.2.2.2.2.2.2.2.2.2.2.2.2.2.2.2.2.2.1 u_.2.2.2.2.2.2.2.2.2.2.2.2.2.2.2.2.2.2.2.2.2.2.2.2.2) ?_ ?_ ?_
      · exact ⟨(_, _, _, _, _, _, _, _, _, _, _, _, _, _, _, _, _, _, _, _, _, _, _, _, _, _), false, false, false, false, false, false, false, false, false, false, false, false, false, false, 0, 0, 0, undef, undef, undef, rfl, rfl, (RF.start HO1R.out HBB.out HWB.out HOWN.out)⟩
      · rintro ⟨u0, u1, u4, u8, u9, u10, u11, u12, u13, u14, u15, u16, u17, u18, u19, u20, u21, u22, u23, u24, u25, u26, u27, u28, u29, u30⟩ a w1 ⟨b0, b1, b2, b3, b4, b5, b6, b7, b8, b9, b10, b11, b12, b13, ka, kc, kp, va, vb, lv, hl, rfl, hF⟩
        have hl' := congrArg Array.toList hl
        simp at hl'
        obtain ⟨rfl, rfl, rfl, rfl, rfl, rfl, rfl, rfl, rfl, rfl, rfl, rfl, rfl, rfl⟩ := hl'
        clear hl
        obtain ⟨y, hy, hoz, hkp⟩ := hF.fin rfl
        have HOWNQ : Hid (Own w1 B 98 4 lv [y].length (prsV [y])) := Lib.hid hoz
        have HRDQ : Hid (RdL w1 t [y] [(⟨lf, false, false⟩, cb)]) := Lib.hid ⟨hy, trivial⟩
        have HO1Q := Lib.hid hF.o1
        have HXTQ := Lib.hid (hkp _ _ HXT.out)
        obtain ⟨y3, y4, y5, y6⟩ := HY.out _ hF.o1
        clear hF hy hoz hkp HO1R HOWN HXT HWB HLL
        have HLL : Hid ([y].length ≤ 1) := Lib.hid (Nat.le_refl _)
        go_wp2_with fail
        refine (HLN.out _).mono ?_; rintro e WR ⟨rfl, hdr⟩
        have HO1R := Lib.hid (HO1Q.out.up hdr)
        have HOWN := Lib.hid (HOWNQ.out.up hdr)
        have HRD := Lib.hid (HRDQ.out.keep (fun A xs h => h.up hdr))
        have HXT := Lib.hid (HXTQ.out.up hdr)
        have HWB : Hid (B ≤ WR.heap.size) := Lib.hid (HBE.out ▸ HO1R.out.size)
        clear hdr HO1Q HOWNQ HRDQ HXTQ HLN
        cases h10 : hasB se 10 with
        | true =>
          have HM10 : Hid (readM st ⟨ps, pb, false⟩ = [((⟨lf, false, false⟩ : Sp), cb)] ++ [((⟨lf, true, false⟩ : Sp), 10)]) := Lib.hid (by rw [HMM.out, if_pos h10])
          go_upto_region 10 with fail
          refine wp_region_steps2U (by kernel_rfl) (by kernel_rfl) (fun (u_ : Value × Value × Value × Value × Value × Value × Value × Value × Value × Value × Value × Value × Value × Value × Value × Value × Value × Value × Value × Value × Value × Value × Value × Value × Value × Value × Value × Value × Value × Value × Value × Value × Value × Value × Value × Value × Value × Value × Value × Value × Value × Value × Value × Value × Value × Value) => RdJ W1 WR B (lv) [y] t 10 lf xA xc k3 k5 u_.1 u_.2.1 u_.2.2.1 u_.2.2.2.1 u_.2.2.2.2.1 u_.2.2.2.2.2.1 u_.2.2.2.2.2.2.1 u_.2.2.2.2.2.2.2.1 u_.2.2.2.2.2.2.2.2.1 u_.2.2.2.2.2.2.2.2.2.1 u_.2.2.2.2.2.2.2.2.2.2.1 u_.2.2.2.2.2.2.2.2.2.2.2.1 u_.2.2.2.2.2.2.2.2.2.2.2.2.1 u_.2.2.2.2.2.2.2.2.2.2.2.2.2.1 u_.2.2.2.2.2.2.2.2.2.2.2.2.2.2.1 u_.2.2.2.2.2.2.2.2.2.2.2.2.2.2.2.1 u_.2.2.2.2.2.2.2.2.2.2.2.2.2.2.2.2.1 u_.2.2.2.2.2.2.2.2.2.2.2.2.2.2.2.2.2.1 u_.2.2.2.2.2.2.2.2.2.2.2.2.2.2.2.2.2.2.1 u_.2.2.2.2.2.2.2.2.2.2.2.2.2.2.2.2.2.2.2.1 u_.2.2.2.2.2.2.2.2.2.2.2.2.2.2.2.2.2.2.2.2.1 u_.2.2.2.2.2.2.2.2.2.2.2.2.2.2.2.2.2.2.2.2.2.1 u_.2.2.2.2.2.2.2.2.2.2.2.2.2.2.2.2.2.2.2.2.2.2.1 u_.2.2.2.2.2.2.2.2.2.2.2.2.2.2.2.2.2.2.2.2.2.2.2.1 u_.2.2.2.2.2.2.2.2.2.2.2.2.2.2.2.2.2.2.2.2.2.2.2.2.1 u_.2.2.2.2.2.2.2.2.2.2.2.2.2.2.2.2.2.2.2.2.2.2.2.2.2.1 u_.2.2.2.2.2.2.2.2.2.2.2.2.2.2.2.2.2.2.2.2.2.2.2.2.2.2.1 u_.2.2.2.2.2.2.2.2.2.2.2.2.2.2.2.2.2.2.2.2.2.2.2.2.2.2.2.1 u_.2.2.2.2.2.2.2.2.2.2.2.2.2.2.2.2.2.2.2.2.2.2.2.2.2.2.2.2.1 u_.2.2.2.2.2.2.2.2.2.2.2.2.2.2.2.2.2.2.2.2.2.2.2.2.2.2.2.2.2.1 u_.2.2.2.2.2.2.2.2.2.2.2.2.2.2.2.2.2.2.2.2.2.2.2.2.2.2.2.2.2.2.1 u_.2.2.2.2.2.2.2.2.2.2.2.2.2.2.2.2.2.2.2.2.2.2.2.2.2.2.2.2.2.2.2.1 u_.2.2.2.2.2.2.2.2.2.2.2.2.2.2.2.2.2.2.2.2.2.2.2.2.2.2.2.2.2.2.2.2.1 u_.2.2.2.2.2.2.2.2.2.2.2.2.2.2.2.2.2.2.2.2.2.2.2.2.2.2.2.2.2.2.2.2.2.1 u_.2.2.2.2.2.2.2.2.2.2.2.2.2.2.2.2.2.2.2.2.2.2.2.2.2.2.2.2.2.2.2.2.2.2.1 u_.2.2.2.2.2.2.2.2.2.2.2.2.2.2.2.2.2.2.2.2.2.2.2.2.2.2.2.2.2.2.2.2.2.2.2.1 u_.2.2.2.2.2.2.2.2.2.2.2.2.2.2.2.2.2.2.2.2.2.2.2.2.2.2.2.2.2.2.2.2.2.2.2.2.1 u_.2.2.2.2.2.2.2.2.2.2.2.2.2.2.2.2.2.2.2.2.2.2.2.2.2.2.2.2.2.2.2.2.2.2.2.2.2.1 u_.2.2.2.2.2.2.2.2.2.2.2.2.2.2.2.2.2.2.2.2.2.2.2.2.2.2.2.2.2.2.2.2.2.2.2.2.2.2.1 u_.2.2.2.2.2.2.2.2.2.2.2.2.2.2.2.2.2.2.2.2.2.2.2.2.2.2.2.2.2.2.2.2.2.2.2.2.2.2.2.1 u_.2.2.2.2.2.2.2.2.2.2.2.2.2.2.2.2.2.2.2.2.2.2.2.2.2.2.2.2.2.2.2.2.2.2.2.2.2.2.2.2.1 u_.2.2.2.2.2.2.2.2.2.2.2.2.2.2.2.2.2.2.2.2.2.2.2.2.2.2.2.2.2.2.2.2.2.2.2.2.2.2.2.2.2.1 u_.2.2.2.2.2.2.2.2.2.2.2.2.2.2.2.2.2.2.2.2.2.2.2.2.2.2.2.2.2.2.2.2.2.2.2.2.2.2.2.2.2.2.1 u_.2.2.2.2.2.2.2.2.2.2.2.2.2.2.2.2.2.2.2.2.2.2.2.2.2.2.2.2.2.2.2.2.2.2.2.2.2.2.2.2.2.2.2.1 u_.2.2.2.2.2.2.2.2.2.2.2.2.2.2.2.2.2.2.2.2.2.2.2.2.2.2.2.2.2.2.2.2.2.2.2.2.2.2.2.2.2.2.2.2.1 u_.2.2.2.2.2.2.2.2.2.2.2.2.2.2.2.2.2.2.2.2.2.2.2.2.2.2.2.2.2.2.2.2.2.2.2.2.2.2.2.2.2.2.2.2.2) ?_ ?_ ?_
          · exact ⟨(_, _, _, _, _, _, _, _, _, _, _, _, _, _, _, _, _, _, _, _, _, _, _, _, _, _, _, _, _, _, _, _, _, _, _, _, _, _, _, _, _, _, _, _, _, _), false, false, false, false, false, false, false, false, false, false, false, false, false, false, 0, 0, 0, undef, undef, undef, rfl, rfl, (RF.start HO1R.out HBB.out HWB.out HOWN.out)⟩
          · rintro ⟨u0, u1, u4, u7, u8, u10, u11, u12, u13, u14, u15, u16, u17, u18, u19, u20, u21, u22, u23, u24, u25, u26, u27, u28, u29, u30, u31, u32, u33, u34, u35, u36, u37, u38, u39, u40, u41, u42, u43, u44, u45, u46, u47, u48, u49, u50⟩ a w1 ⟨b0, b1, b2, b3, b4, b5, b6, b7, b8, b9, b10, b11, b12, b13, ka, kc, kp, vd, ve, vz, hl, rfl, hF⟩
            have hl' := congrArg Array.toList hl
            simp at hl'
            obtain ⟨rfl, rfl, rfl, rfl, rfl, rfl, rfl, rfl, rfl, rfl, rfl, rfl, rfl, rfl⟩ := hl'
            clear hl
            obtain ⟨y9, hy, hoz, hkp⟩ := hF.fin rfl
            have hrd := (HRD.out.keep hkp).snoc hy
            have HEND := Lib.hid (HPO.out vz ([y] ++ [y9]) _ w1 HM10.out hoz hrd (HOW.out.up hF.o1))
            clear hF hoz hrd hkp hy HPO
            go_wp2_with fail
            go_ret
            exact HEND.out
          · rintro ⟨u0, u1, u4, u7, u8, u10, u11, u12, u13, u14, u15, u16, u17, u18, u19, u20, u21, u22, u23, u24, u25, u26, u27, u28, u29, u30, u31, u32, u33, u34, u35, u36, u37, u38, u39, u40, u41, u42, u43, u44, u45, u46, u47, u48, u49, u50⟩
            refine ⟨?_, ?_, ?_, ?_, ?_, ?_, ?_, ?_, ?_, ?_, ?_, ?_, ?_, ?_, trivial⟩
            · intro listed a w1 K hs hcl hf hall hI hK
              obtain ⟨b0, b1, b2, b3, b4, b5, b6, b7, b8, b9, b10, b11, b12, b13, ka, kc, kp, vd, ve, vz, rfl, rfl, hF⟩ := hI
              have hf' : b0 = false := hf
              subst hf'
              have hb12 : b12 = false := by
                cases b12
                · rfl
                · exact absurd (show false = true from hcl 12 _ rfl rfl ⟨0, .data⟩ (by first | exact .head _ | simp) rfl) (by decide)
              subst hb12
              have hb13 : b13 = false := by
                cases b13
                · rfl
                · exact absurd (show false = true from hcl 13 _ rfl rfl ⟨0, .phase⟩ (by first | exact .head _ | simp) rfl) (by decide)
              subst hb13
              clear hall hcl hs hf
              go_simp
              exact hK _ _ ⟨true, b1, b2, b3, b4, b5, b6, b7, b8, b9, b10, b11, false, false, ka, kc, kp, vd, ve, vz, rfl, rfl, hF⟩
            · intro listed a w1 K hs hcl hf hall hI hK
              obtain ⟨b0, b1, b2, b3, b4, b5, b6, b7, b8, b9, b10, b11, b12, b13, ka, kc, kp, vd, ve, vz, rfl, rfl, hF⟩ := hI
              have hf' : b1 = false := hf
              subst hf'
              clear hall hcl hs hf
              go_simp
              exact hK _ _ ⟨b0, true, b2, b3, b4, b5, b6, b7, b8, b9, b10, b11, b12, b13, ka, kc, kp, vd, ve, vz, rfl, rfl, hF⟩
            · intro listed a w1 K hs hcl hf hall hI hK
              obtain ⟨b0, b1, b2, b3, b4, b5, b6, b7, b8, b9, b10, b11, b12, b13, ka, kc, kp, vd, ve, vz, rfl, rfl, hF⟩ := hI
              have hf' : b2 = false := hf
              subst hf'
              have hq1 : b1 = true := hall ⟨1, .data⟩ (by first | exact .head _ | simp) rfl
              subst hq1
              have hb10 : b10 = false := by
                cases b10
                · rfl
                · exact absurd (show false = true from hcl 10 _ rfl rfl ⟨2, .data⟩ (by first | exact .head _ | simp) rfl) (by decide)
              subst hb10
              have hb13 : b13 = false := by
                cases b13
                · rfl
                · exact absurd (show false = true from hcl 13 _ rfl rfl ⟨2, .phase⟩ (by first | exact .head _ | simp) rfl) (by decide)
              subst hb13
              have hb11 : b11 = false := by
                cases b11
                · rfl
                · exact absurd (show false = true from hcl 11 _ rfl rfl ⟨10, .data⟩ (by first | exact .head _ | simp) rfl) (by decide)
              subst hb11
              have hb12 : b12 = false := by
                cases b12
                · rfl
                · exact absurd (show false = true from hcl 12 _ rfl rfl ⟨11, .data⟩ (by first | exact .head _ | simp) rfl) (by decide)
              subst hb12
              clear hall hcl hs hf
              have hb5 := hF.o1.block HB5.out
              have q1 : w1.cell? ⟨k5, 1, none⟩ = some (.int .i64 (lf : Int)) := by rw [cell_of_row w1 k5 1 _ _ _ hb5]; rfl
              clear hb5
              go_simp
              exact hK _ _ ⟨b0, true, true, b3, b4, b5, b6, b7, b8, b9, false, false, false, false, ka, kc, kp, vd, ve, vz, rfl, rfl, hF⟩
            · intro listed a w1 K hs hcl hf hall hI hK
              obtain ⟨b0, b1, b2, b3, b4, b5, b6, b7, b8, b9, b10, b11, b12, b13, ka, kc, kp, vd, ve, vz, rfl, rfl, hF⟩ := hI
              have hf' : b3 = false := hf
              subst hf'
              have hb6 : b6 = false := by
                cases b6
                · rfl
                · exact absurd (show false = true from hcl 6 _ rfl rfl ⟨3, .data⟩ (by first | exact .head _ | simp) rfl) (by decide)
              subst hb6
              have hb13 : b13 = false := by
                cases b13
                · rfl
                · exact absurd (show false = true from hcl 13 _ rfl rfl ⟨3, .phase⟩ (by first | exact .head _ | simp) rfl) (by decide)
              subst hb13
              have hb9 : b9 = false := by
                cases b9
                · rfl
                · exact absurd (show false = true from hcl 9 _ rfl rfl ⟨6, .data⟩ (by first | exact .head _ | simp) rfl) (by decide)
              subst hb9
              have hb10 : b10 = false := by
                cases b10
                · rfl
                · exact absurd (show false = true from hcl 10 _ rfl rfl ⟨9, .data⟩ (by first | exact .head _ | simp) rfl) (by decide)
              subst hb10
              have hb12 : b12 = false := by
                cases b12
                · rfl
                · exact absurd (show false = true from hcl 12 _ rfl rfl ⟨9, .chain⟩ (by first | exact .head _ | simp) rfl) (by decide)
              subst hb12
              have hb11 : b11 = false := by
                cases b11
                · rfl
                · exact absurd (show false = true from hcl 11 _ rfl rfl ⟨10, .data⟩ (by first | exact .head _ | simp) rfl) (by decide)
              subst hb11
              clear hall hcl hs hf
              go_simp
              exact hK _ _ ⟨b0, b1, b2, true, b4, b5, false, b7, b8, false, false, false, false, false, w1.heap.size, kc, kp, vd, ve, vz, rfl, rfl, hF.mk3⟩
            · intro listed a w1 K hs hcl hf hall hI hK
              obtain ⟨b0, b1, b2, b3, b4, b5, b6, b7, b8, b9, b10, b11, b12, b13, ka, kc, kp, vd, ve, vz, rfl, rfl, hF⟩ := hI
              have hf' : b4 = false := hf
              subst hf'
              clear hall hcl hs hf
              go_simp
              exact hK _ _ ⟨b0, b1, b2, b3, true, b5, b6, b7, b8, b9, b10, b11, b12, b13, ka, kc, kp, vd, ve, vz, rfl, rfl, hF⟩
            · intro listed a w1 K hs hcl hf hall hI hK
              obtain ⟨b0, b1, b2, b3, b4, b5, b6, b7, b8, b9, b10, b11, b12, b13, ka, kc, kp, vd, ve, vz, rfl, rfl, hF⟩ := hI
              have hf' : b5 = false := hf
              subst hf'
              have hq4 : b4 = true := hall ⟨4, .data⟩ (by first | exact .head _ | simp) rfl
              subst hq4
              have hb6 : b6 = false := by
                cases b6
                · rfl
                · exact absurd (show false = true from hcl 6 _ rfl rfl ⟨5, .data⟩ (by first | exact .head _ | simp) rfl) (by decide)
              subst hb6
              have hb13 : b13 = false := by
                cases b13
                · rfl
                · exact absurd (show false = true from hcl 13 _ rfl rfl ⟨5, .phase⟩ (by first | exact .head _ | simp) rfl) (by decide)
              subst hb13
              have hb9 : b9 = false := by
                cases b9
                · rfl
                · exact absurd (show false = true from hcl 9 _ rfl rfl ⟨6, .data⟩ (by first | exact .head _ | simp) rfl) (by decide)
              subst hb9
              have hb10 : b10 = false := by
                cases b10
                · rfl
                · exact absurd (show false = true from hcl 10 _ rfl rfl ⟨9, .data⟩ (by first | exact .head _ | simp) rfl) (by decide)
              subst hb10
              have hb12 : b12 = false := by
                cases b12
                · rfl
                · exact absurd (show false = true from hcl 12 _ rfl rfl ⟨9, .chain⟩ (by first | exact .head _ | simp) rfl) (by decide)
              subst hb12
              have hb11 : b11 = false := by
                cases b11
                · rfl
                · exact absurd (show false = true from hcl 11 _ rfl rfl ⟨10, .data⟩ (by first | exact .head _ | simp) rfl) (by decide)
              subst hb11
              clear hall hcl hs hf
              obtain ⟨⟨q0, q1, q2, q3⟩, _⟩ := pl_cells (hF.o1.block HB3.out)
              go_simp
              exact hK _ _ ⟨b0, b1, b2, b3, true, true, false, b7, b8, false, false, false, false, false, ka, kc, kp, vd, ve, vz, rfl, rfl, hF⟩
            · intro listed a w1 K hs hcl hf hall hI hK
              obtain ⟨b0, b1, b2, b3, b4, b5, b6, b7, b8, b9, b10, b11, b12, b13, ka, kc, kp, vd, ve, vz, rfl, rfl, hF⟩ := hI
              have hf' : b6 = false := hf
              subst hf'
              have hq3 : b3 = true := hall ⟨3, .data⟩ (by first | exact .head _ | simp) rfl
              subst hq3
              have hq5 : b5 = true := hall ⟨5, .data⟩ (by first | exact .head _ | simp) rfl
              subst hq5
              have hq4 : b4 = true := hcl 5 _ rfl rfl ⟨4, .data⟩ (by first | exact .head _ | simp) rfl
              subst hq4
              have hb9 : b9 = false := by
                cases b9
                · rfl
                · exact absurd (show false = true from hcl 9 _ rfl rfl ⟨6, .data⟩ (by first | exact .head _ | simp) rfl) (by decide)
              subst hb9
              have hb13 : b13 = false := by
                cases b13
                · rfl
                · exact absurd (show false = true from hcl 13 _ rfl rfl ⟨6, .phase⟩ (by first | exact .head _ | simp) rfl) (by decide)
              subst hb13
              have hb10 : b10 = false := by
                cases b10
                · rfl
                · exact absurd (show false = true from hcl 10 _ rfl rfl ⟨9, .data⟩ (by first | exact .head _ | simp) rfl) (by decide)
              subst hb10
              have hb12 : b12 = false := by
                cases b12
                · rfl
                · exact absurd (show false = true from hcl 12 _ rfl rfl ⟨9, .chain⟩ (by first | exact .head _ | simp) rfl) (by decide)
              subst hb12
              have hb11 : b11 = false := by
                cases b11
                · rfl
                · exact absurd (show false = true from hcl 11 _ rfl rfl ⟨10, .data⟩ (by first | exact .head _ | simp) rfl) (by decide)
              subst hb11
              clear hall hcl hs hf
              have h3 := hF.a3 rfl rfl
              refine step_appO w1 (by rfl) _ _ 23 (by rfl) WR.heap.size 5 (.int .u8 0) 1 1 Try.underlying23 info_q8 rfl (by decide) (by decide) (.slice (some ⟨ka, 0, none⟩) 0 0) 0 [] (by rfl) h3 xA t.length xc (txt t) (by rfl) (HXT.out.up (hF.ow rfl).1).rs (by rw [qtxt_len]; omega) (qtxt_one t) (by omega) (hF.ow rfl).1.size ?_
              intro v' w' ho hg hst
              exact hK _ _ ⟨b0, b1, b2, true, true, true, true, b7, b8, false, false, false, false, false, ka, kc, kp, v', ve, vz, rfl, rfl, hF.mk6 ho hg hst⟩
            · intro listed a w1 K hs hcl hf hall hI hK
              obtain ⟨b0, b1, b2, b3, b4, b5, b6, b7, b8, b9, b10, b11, b12, b13, ka, kc, kp, vd, ve, vz, rfl, rfl, hF⟩ := hI
              have hf' : b7 = false := hf
              subst hf'
              clear hall hcl hs hf
              go_simp
              exact hK _ _ ⟨b0, b1, b2, b3, b4, b5, b6, true, b8, b9, b10, b11, b12, b13, ka, kc, kp, vd, ve, vz, rfl, rfl, hF⟩
            · intro listed a w1 K hs hcl hf hall hI hK
              obtain ⟨b0, b1, b2, b3, b4, b5, b6, b7, b8, b9, b10, b11, b12, b13, ka, kc, kp, vd, ve, vz, rfl, rfl, hF⟩ := hI
              have hf' : b8 = false := hf
              subst hf'
              have hq7 : b7 = true := hall ⟨7, .data⟩ (by first | exact .head _ | simp) rfl
              subst hq7
              have hb9 : b9 = false := by
                cases b9
                · rfl
                · exact absurd (show false = true from hcl 9 _ rfl rfl ⟨8, .data⟩ (by first | exact .head _ | simp) rfl) (by decide)
              subst hb9
              have hb13 : b13 = false := by
                cases b13
                · rfl
                · exact absurd (show false = true from hcl 13 _ rfl rfl ⟨8, .phase⟩ (by first | exact .head _ | simp) rfl) (by decide)
              subst hb13
              have hb10 : b10 = false := by
                cases b10
                · rfl
                · exact absurd (show false = true from hcl 10 _ rfl rfl ⟨9, .data⟩ (by first | exact .head _ | simp) rfl) (by decide)
              subst hb10
              have hb12 : b12 = false := by
                cases b12
                · rfl
                · exact absurd (show false = true from hcl 12 _ rfl rfl ⟨9, .chain⟩ (by first | exact .head _ | simp) rfl) (by decide)
              subst hb12
              have hb11 : b11 = false := by
                cases b11
                · rfl
                · exact absurd (show false = true from hcl 11 _ rfl rfl ⟨10, .data⟩ (by first | exact .head _ | simp) rfl) (by decide)
              subst hb11
              clear hall hcl hs hf
              go_simp
              exact hK _ _ ⟨b0, b1, b2, b3, b4, b5, b6, true, true, false, false, false, false, false, ka, w1.heap.size, kp, vd, ve, vz, rfl, rfl, hF.mk8⟩
            · intro listed a w1 K hs hcl hf hall hI hK
              obtain ⟨b0, b1, b2, b3, b4, b5, b6, b7, b8, b9, b10, b11, b12, b13, ka, kc, kp, vd, ve, vz, rfl, rfl, hF⟩ := hI
              have hf' : b9 = false := hf
              subst hf'
              have hq6 : b6 = true := hall ⟨6, .data⟩ (by first | exact .head _ | simp) rfl
              subst hq6
              have hq8 : b8 = true := hall ⟨8, .data⟩ (by first | exact .head _ | simp) rfl
              subst hq8
              have hq3 : b3 = true := hcl 6 _ rfl rfl ⟨3, .data⟩ (by first | exact .head _ | simp) rfl
              subst hq3
              have hq5 : b5 = true := hcl 6 _ rfl rfl ⟨5, .data⟩ (by first | exact .head _ | simp) rfl
              subst hq5
              have hq7 : b7 = true := hcl 8 _ rfl rfl ⟨7, .data⟩ (by first | exact .head _ | simp) rfl
              subst hq7
              have hq4 : b4 = true := hcl 5 _ rfl rfl ⟨4, .data⟩ (by first | exact .head _ | simp) rfl
              subst hq4
              have hb10 : b10 = false := by
                cases b10
                · rfl
                · exact absurd (show false = true from hcl 10 _ rfl rfl ⟨9, .data⟩ (by first | exact .head _ | simp) rfl) (by decide)
              subst hb10
              have hb12 : b12 = false := by
                cases b12
                · rfl
                · exact absurd (show false = true from hcl 12 _ rfl rfl ⟨9, .chain⟩ (by first | exact .head _ | simp) rfl) (by decide)
              subst hb12
              have hb13 : b13 = false := by
                cases b13
                · rfl
                · exact absurd (show false = true from hcl 13 _ rfl rfl ⟨9, .phase⟩ (by first | exact .head _ | simp) rfl) (by decide)
              subst hb13
              have hb11 : b11 = false := by
                cases b11
                · rfl
                · exact absurd (show false = true from hcl 11 _ rfl rfl ⟨10, .data⟩ (by first | exact .head _ | simp) rfl) (by decide)
              subst hb11
              clear hall hcl hs hf
              have h6 := hF.a6 rfl rfl
              obtain ⟨h8, _, _⟩ := hF.a8 rfl rfl
              obtain ⟨A9, c9, e9, ht9, _, _⟩ := h8.shape
              injection e9 with e9 _ _
              subst e9
              refine step_appO w1 (by rfl) _ _ 23 (by rfl) WR.heap.size 5 (.int .u8 0) 1 1 Try.underlying23 info_q8 rfl (by decide) (by decide) vd t.length (txt t) (by rfl) h6 (some ⟨kc, 0, none⟩) 1 1 [.int .u8 ((10 : Nat) : Int)] (by rfl) ht9.rs rfl rfl (by omega) (hF.ow rfl).1.size ?_
              intro v' w' ho hg hst
              exact hK _ _ ⟨b0, b1, b2, true, true, true, true, true, true, true, false, false, false, false, ka, kc, kp, vd, v', vz, rfl, rfl, hF.mk9 ho hg⟩
            · intro listed a w1 K hs hcl hf hall hI hK
              obtain ⟨b0, b1, b2, b3, b4, b5, b6, b7, b8, b9, b10, b11, b12, b13, ka, kc, kp, vd, ve, vz, rfl, rfl, hF⟩ := hI
              have hf' : b10 = false := hf
              subst hf'
              have hq2 : b2 = true := hall ⟨2, .data⟩ (by first | exact .head _ | simp) rfl
              subst hq2
              have hq9 : b9 = true := hall ⟨9, .data⟩ (by first | exact .head _ | simp) rfl
              subst hq9
              have hq1 : b1 = true := hcl 2 _ rfl rfl ⟨1, .data⟩ (by first | exact .head _ | simp) rfl
              subst hq1
              have hq6 : b6 = true := hcl 9 _ rfl rfl ⟨6, .data⟩ (by first | exact .head _ | simp) rfl
              subst hq6
              have hq8 : b8 = true := hcl 9 _ rfl rfl ⟨8, .data⟩ (by first | exact .head _ | simp) rfl
              subst hq8
              have hq3 : b3 = true := hcl 6 _ rfl rfl ⟨3, .data⟩ (by first | exact .head _ | simp) rfl
              subst hq3
              have hq5 : b5 = true := hcl 6 _ rfl rfl ⟨5, .data⟩ (by first | exact .head _ | simp) rfl
              subst hq5
              have hq7 : b7 = true := hcl 8 _ rfl rfl ⟨7, .data⟩ (by first | exact .head _ | simp) rfl
              subst hq7
              have hq4 : b4 = true := hcl 5 _ rfl rfl ⟨4, .data⟩ (by first | exact .head _ | simp) rfl
              subst hq4
              have hb11 : b11 = false := by
                cases b11
                · rfl
                · exact absurd (show false = true from hcl 11 _ rfl rfl ⟨10, .data⟩ (by first | exact .head _ | simp) rfl) (by decide)
              subst hb11
              have hb13 : b13 = false := by
                cases b13
                · rfl
                · exact absurd (show false = true from hcl 13 _ rfl rfl ⟨10, .phase⟩ (by first | exact .head _ | simp) rfl) (by decide)
              subst hb13
              have hb12 : b12 = false := by
                cases b12
                · rfl
                · exact absurd (show false = true from hcl 12 _ rfl rfl ⟨11, .data⟩ (by first | exact .head _ | simp) rfl) (by decide)
              subst hb12
              clear hall hcl hs hf
              obtain ⟨A9, c9, hv9, _, _, _⟩ := (hF.a9 rfl rfl).shape
              subst hv9
              go_simp
              exact hK _ _ ⟨b0, true, true, true, true, true, true, true, true, true, true, false, false, false, ka, kc, kp, vd, .slice A9 (t.length + 1) c9, vz, rfl, rfl, hF⟩
            · intro listed a w1 K hs hcl hf hall hI hK
              obtain ⟨b0, b1, b2, b3, b4, b5, b6, b7, b8, b9, b10, b11, b12, b13, ka, kc, kp, vd, ve, vz, rfl, rfl, hF⟩ := hI
              have hf' : b11 = false := hf
              subst hf'
              have hq10 : b10 = true := hall ⟨10, .data⟩ (by first | exact .head _ | simp) rfl
              subst hq10
              have hq2 : b2 = true := hcl 10 _ rfl rfl ⟨2, .data⟩ (by first | exact .head _ | simp) rfl
              subst hq2
              have hq9 : b9 = true := hcl 10 _ rfl rfl ⟨9, .data⟩ (by first | exact .head _ | simp) rfl
              subst hq9
              have hq1 : b1 = true := hcl 2 _ rfl rfl ⟨1, .data⟩ (by first | exact .head _ | simp) rfl
              subst hq1
              have hq6 : b6 = true := hcl 9 _ rfl rfl ⟨6, .data⟩ (by first | exact .head _ | simp) rfl
              subst hq6
              have hq8 : b8 = true := hcl 9 _ rfl rfl ⟨8, .data⟩ (by first | exact .head _ | simp) rfl
              subst hq8
              have hq3 : b3 = true := hcl 6 _ rfl rfl ⟨3, .data⟩ (by first | exact .head _ | simp) rfl
              subst hq3
              have hq5 : b5 = true := hcl 6 _ rfl rfl ⟨5, .data⟩ (by first | exact .head _ | simp) rfl
              subst hq5
              have hq7 : b7 = true := hcl 8 _ rfl rfl ⟨7, .data⟩ (by first | exact .head _ | simp) rfl
              subst hq7
              have hq4 : b4 = true := hcl 5 _ rfl rfl ⟨4, .data⟩ (by first | exact .head _ | simp) rfl
              subst hq4
              have hb12 : b12 = false := by
                cases b12
                · rfl
                · exact absurd (show false = true from hcl 12 _ rfl rfl ⟨11, .data⟩ (by first | exact .head _ | simp) rfl) (by decide)
              subst hb12
              have hb13 : b13 = false := by
                cases b13
                · rfl
                · exact absurd (show false = true from hcl 13 _ rfl rfl ⟨11, .phase⟩ (by first | exact .head _ | simp) rfl) (by decide)
              subst hb13
              clear hall hcl hs hf
              obtain ⟨A9, c9, hv9, _, _, _⟩ := (hF.a9 rfl rfl).shape
              subst hv9
              go_simp
              exact hK _ _ ⟨b0, true, true, true, true, true, true, true, true, true, true, true, false, false, ka, kc, w1.heap.size, vd, .slice A9 (t.length + 1) c9, vz, rfl, rfl, hF.mk11⟩
            · intro listed a w1 K hs hcl hf hall hI hK
              obtain ⟨b0, b1, b2, b3, b4, b5, b6, b7, b8, b9, b10, b11, b12, b13, ka, kc, kp, vd, ve, vz, rfl, rfl, hF⟩ := hI
              have hf' : b12 = false := hf
              subst hf'
              have hq0 : b0 = true := hall ⟨0, .data⟩ (by first | exact .head _ | simp) rfl
              subst hq0
              have hq11 : b11 = true := hall ⟨11, .data⟩ (by first | exact .head _ | simp) rfl
              subst hq11
              have hq9 : b9 = true := hall ⟨9, .chain⟩ (by first | exact .head _ | simp) rfl
              subst hq9
              have hq10 : b10 = true := hcl 11 _ rfl rfl ⟨10, .data⟩ (by first | exact .head _ | simp) rfl
              subst hq10
              have hq6 : b6 = true := hcl 9 _ rfl rfl ⟨6, .data⟩ (by first | exact .head _ | simp) rfl
              subst hq6
              have hq8 : b8 = true := hcl 9 _ rfl rfl ⟨8, .data⟩ (by first | exact .head _ | simp) rfl
              subst hq8
              have hq2 : b2 = true := hcl 10 _ rfl rfl ⟨2, .data⟩ (by first | exact .head _ | simp) rfl
              subst hq2
              have hq3 : b3 = true := hcl 6 _ rfl rfl ⟨3, .data⟩ (by first | exact .head _ | simp) rfl
              subst hq3
              have hq5 : b5 = true := hcl 6 _ rfl rfl ⟨5, .data⟩ (by first | exact .head _ | simp) rfl
              subst hq5
              have hq7 : b7 = true := hcl 8 _ rfl rfl ⟨7, .data⟩ (by first | exact .head _ | simp) rfl
              subst hq7
              have hq1 : b1 = true := hcl 2 _ rfl rfl ⟨1, .data⟩ (by first | exact .head _ | simp) rfl
              subst hq1
              have hq4 : b4 = true := hcl 5 _ rfl rfl ⟨4, .data⟩ (by first | exact .head _ | simp) rfl
              subst hq4
              have hb13 : b13 = false := by
                cases b13
                · rfl
                · exact absurd (show false = true from hcl 13 _ rfl rfl ⟨12, .data⟩ (by first | exact .head _ | simp) rfl) (by decide)
              subst hb13
              clear hall hcl hs hf
              have h12 := (hF.ow rfl).2
              have hrow := hF.a11 rfl rfl
              obtain ⟨A9, c9, hv9, _, _, _⟩ := (hF.a9 rfl rfl).shape
              subst hv9
              refine step_appO w1 (by rfl) _ _ 96 (by rfl) B 98 (.agg #[.int .i64 0, .bool false, .bool false, .slice none 0 0]) 4 40 Try.underlying96 info_pl rfl (by decide) (by decide) lv [y].length (prsV [y]) (by rfl) h12 (some ⟨kp, 0, none⟩) 1 1 [.int .i64 (lf : Int), .bool true, .bool false, .slice A9 (t.length + 1) c9] (by rfl) (Or.inr ⟨kp, 0, rfl, fun j u hu => by rw [Nat.zero_add, cell_of_row w1 kp j _ _ _ hrow, List.getElem?_toArray]; exact hu⟩) rfl rfl (by have := HLL.out; omega) (Nat.le_trans hF.wB (hF.ow rfl).1.size) ?_
              intro v' w' ho hg hst
              exact hK _ _ ⟨true, true, true, true, true, true, true, true, true, true, true, true, true, false, ka, kc, kp, vd, .slice A9 (t.length + 1) c9, v', rfl, rfl, hF.mk12 ho hg⟩
            · intro listed a w1 K hs hcl hf hall hI hK
              obtain ⟨b0, b1, b2, b3, b4, b5, b6, b7, b8, b9, b10, b11, b12, b13, ka, kc, kp, vd, ve, vz, rfl, rfl, hF⟩ := hI
              have hf' : b13 = false := hf
              subst hf'
              have hq12 : b12 = true := hall ⟨12, .data⟩ (by first | exact .head _ | simp) rfl
              subst hq12
              have hq0 : b0 = true := hall ⟨0, .phase⟩ (by first | exact .head _ | simp) rfl
              subst hq0
              have hq1 : b1 = true := hall ⟨1, .phase⟩ (by first | exact .head _ | simp) rfl
              subst hq1
              have hq2 : b2 = true := hall ⟨2, .phase⟩ (by first | exact .head _ | simp) rfl
              subst hq2
              have hq3 : b3 = true := hall ⟨3, .phase⟩ (by first | exact .head _ | simp) rfl
              subst hq3
              have hq4 : b4 = true := hall ⟨4, .phase⟩ (by first | exact .head _ | simp) rfl
              subst hq4
              have hq5 : b5 = true := hall ⟨5, .phase⟩ (by first | exact .head _ | simp) rfl
              subst hq5
              have hq6 : b6 = true := hall ⟨6, .phase⟩ (by first | exact .head _ | simp) rfl
              subst hq6
              have hq7 : b7 = true := hall ⟨7, .phase⟩ (by first | exact .head _ | simp) rfl
              subst hq7
              have hq8 : b8 = true := hall ⟨8, .phase⟩ (by first | exact .head _ | simp) rfl
              subst hq8
              have hq9 : b9 = true := hall ⟨9, .phase⟩ (by first | exact .head _ | simp) rfl
              subst hq9
              have hq10 : b10 = true := hall ⟨10, .phase⟩ (by first | exact .head _ | simp) rfl
              subst hq10
              have hq11 : b11 = true := hall ⟨11, .phase⟩ (by first | exact .head _ | simp) rfl
              subst hq11
              clear hall hcl hs hf
              go_simp
              exact hK _ _ ⟨true, true, true, true, true, true, true, true, true, true, true, true, true, true, ka, kc, kp, vd, ve, vz, rfl, rfl, hF⟩
        | false =>
          have HEND := Lib.hid (HPO.out lv [y] _ WR (by rw [HMM.out, if_neg (by rw [h10]; decide), List.append_nil]) HOWN.out HRD.out (HOW.out.up HO1R.out))
          clear HPO HMM h10
          go_wp2_with fail
          go_ret
          exact HEND.out
      · rintro ⟨u0, u1, u4, u8, u9, u10, u11, u12, u13, u14, u15, u16, u17, u18, u19, u20, u21, u22, u23, u24, u25, u26, u27, u28, u29, u30⟩
        refine ⟨?_, ?_, ?_, ?_, ?_, ?_, ?_, ?_, ?_, ?_, ?_, ?_, ?_, ?_, trivial⟩
        · intro listed a w1 K hs hcl hf hall hI hK
          obtain ⟨b0, b1, b2, b3, b4, b5, b6, b7, b8, b9, b10, b11, b12, b13, ka, kc, kp, va, vb, lv, rfl, rfl, hF⟩ := hI
          have hf' : b0 = false := hf
          subst hf'
          have hb12 : b12 = false := by
            cases b12
            · rfl
            · exact absurd (show false = true from hcl 12 _ rfl rfl ⟨0, .data⟩ (by first | exact .head _ | simp) rfl) (by decide)
          subst hb12
          have hb13 : b13 = false := by
            cases b13
            · rfl
            · exact absurd (show false = true from hcl 13 _ rfl rfl ⟨0, .phase⟩ (by first | exact .head _ | simp) rfl) (by decide)
          subst hb13
          clear hall hcl hs hf
          go_simp
          exact hK _ _ ⟨true, b1, b2, b3, b4, b5, b6, b7, b8, b9, b10, b11, false, false, ka, kc, kp, va, vb, lv, rfl, rfl, hF⟩
        · intro listed a w1 K hs hcl hf hall hI hK
          obtain ⟨b0, b1, b2, b3, b4, b5, b6, b7, b8, b9, b10, b11, b12, b13, ka, kc, kp, va, vb, lv, rfl, rfl, hF⟩ := hI
          have hf' : b1 = false := hf
          subst hf'
          clear hall hcl hs hf
          go_simp
          exact hK _ _ ⟨b0, true, b2, b3, b4, b5, b6, b7, b8, b9, b10, b11, b12, b13, ka, kc, kp, va, vb, lv, rfl, rfl, hF⟩
        · intro listed a w1 K hs hcl hf hall hI hK
          obtain ⟨b0, b1, b2, b3, b4, b5, b6, b7, b8, b9, b10, b11, b12, b13, ka, kc, kp, va, vb, lv, rfl, rfl, hF⟩ := hI
          have hf' : b2 = false := hf
          subst hf'
          have hq1 : b1 = true := hall ⟨1, .data⟩ (by first | exact .head _ | simp) rfl
          subst hq1
          have hb10 : b10 = false := by
            cases b10
            · rfl
            · exact absurd (show false = true from hcl 10 _ rfl rfl ⟨2, .data⟩ (by first | exact .head _ | simp) rfl) (by decide)
          subst hb10
          have hb13 : b13 = false := by
            cases b13
            · rfl
            · exact absurd (show false = true from hcl 13 _ rfl rfl ⟨2, .phase⟩ (by first | exact .head _ | simp) rfl) (by decide)
          subst hb13
          have hb11 : b11 = false := by
            cases b11
            · rfl
            · exact absurd (show false = true from hcl 11 _ rfl rfl ⟨10, .data⟩ (by first | exact .head _ | simp) rfl) (by decide)
          subst hb11
          have hb12 : b12 = false := by
            cases b12
            · rfl
            · exact absurd (show false = true from hcl 12 _ rfl rfl ⟨11, .data⟩ (by first | exact .head _ | simp) rfl) (by decide)
          subst hb12
          clear hall hcl hs hf
          have hb5 := hF.o1.block HB5.out
          have q1 : w1.cell? ⟨k5, 1, none⟩ = some (.int .i64 (lf : Int)) := by rw [cell_of_row w1 k5 1 _ _ _ hb5]; rfl
          clear hb5
          go_simp
          exact hK _ _ ⟨b0, true, true, b3, b4, b5, b6, b7, b8, b9, false, false, false, false, ka, kc, kp, va, vb, lv, rfl, rfl, hF⟩
        · intro listed a w1 K hs hcl hf hall hI hK
          obtain ⟨b0, b1, b2, b3, b4, b5, b6, b7, b8, b9, b10, b11, b12, b13, ka, kc, kp, va, vb, lv, rfl, rfl, hF⟩ := hI
          have hf' : b3 = false := hf
          subst hf'
          have hb6 : b6 = false := by
            cases b6
            · rfl
            · exact absurd (show false = true from hcl 6 _ rfl rfl ⟨3, .data⟩ (by first | exact .head _ | simp) rfl) (by decide)
          subst hb6
          have hb13 : b13 = false := by
            cases b13
            · rfl
            · exact absurd (show false = true from hcl 13 _ rfl rfl ⟨3, .phase⟩ (by first | exact .head _ | simp) rfl) (by decide)
          subst hb13
          have hb9 : b9 = false := by
            cases b9
            · rfl
            · exact absurd (show false = true from hcl 9 _ rfl rfl ⟨6, .data⟩ (by first | exact .head _ | simp) rfl) (by decide)
          subst hb9
          have hb10 : b10 = false := by
            cases b10
            · rfl
            · exact absurd (show false = true from hcl 10 _ rfl rfl ⟨9, .data⟩ (by first | exact .head _ | simp) rfl) (by decide)
          subst hb10
          have hb12 : b12 = false := by
            cases b12
            · rfl
            · exact absurd (show false = true from hcl 12 _ rfl rfl ⟨9, .chain⟩ (by first | exact .head _ | simp) rfl) (by decide)
          subst hb12
          have hb11 : b11 = false := by
            cases b11
            · rfl
            · exact absurd (show false = true from hcl 11 _ rfl rfl ⟨10, .data⟩ (by first | exact .head _ | simp) rfl) (by decide)
          subst hb11
          clear hall hcl hs hf
          go_simp
          exact hK _ _ ⟨b0, b1, b2, true, b4, b5, false, b7, b8, false, false, false, false, false, w1.heap.size, kc, kp, va, vb, lv, rfl, rfl, hF.mk3⟩
        · intro listed a w1 K hs hcl hf hall hI hK
          obtain ⟨b0, b1, b2, b3, b4, b5, b6, b7, b8, b9, b10, b11, b12, b13, ka, kc, kp, va, vb, lv, rfl, rfl, hF⟩ := hI
          have hf' : b4 = false := hf
          subst hf'
          clear hall hcl hs hf
          go_simp
          exact hK _ _ ⟨b0, b1, b2, b3, true, b5, b6, b7, b8, b9, b10, b11, b12, b13, ka, kc, kp, va, vb, lv, rfl, rfl, hF⟩
        · intro listed a w1 K hs hcl hf hall hI hK
          obtain ⟨b0, b1, b2, b3, b4, b5, b6, b7, b8, b9, b10, b11, b12, b13, ka, kc, kp, va, vb, lv, rfl, rfl, hF⟩ := hI
          have hf' : b5 = false := hf
          subst hf'
          have hq4 : b4 = true := hall ⟨4, .data⟩ (by first | exact .head _ | simp) rfl
          subst hq4
          have hb6 : b6 = false := by
            cases b6
            · rfl
            · exact absurd (show false = true from hcl 6 _ rfl rfl ⟨5, .data⟩ (by first | exact .head _ | simp) rfl) (by decide)
          subst hb6
          have hb13 : b13 = false := by
            cases b13
            · rfl
            · exact absurd (show false = true from hcl 13 _ rfl rfl ⟨5, .phase⟩ (by first | exact .head _ | simp) rfl) (by decide)
          subst hb13
          have hb9 : b9 = false := by
            cases b9
            · rfl
            · exact absurd (show false = true from hcl 9 _ rfl rfl ⟨6, .data⟩ (by first | exact .head _ | simp) rfl) (by decide)
          subst hb9
          have hb10 : b10 = false := by
            cases b10
            · rfl
            · exact absurd (show false = true from hcl 10 _ rfl rfl ⟨9, .data⟩ (by first | exact .head _ | simp) rfl) (by decide)
          subst hb10
          have hb12 : b12 = false := by
            cases b12
            · rfl
            · exact absurd (show false = true from hcl 12 _ rfl rfl ⟨9, .chain⟩ (by first | exact .head _ | simp) rfl) (by decide)
          subst hb12
          have hb11 : b11 = false := by
            cases b11
            · rfl
            · exact absurd (show false = true from hcl 11 _ rfl rfl ⟨10, .data⟩ (by first | exact .head _ | simp) rfl) (by decide)
          subst hb11
          clear hall hcl hs hf
          obtain ⟨⟨q0, q1, q2, q3⟩, _⟩ := pl_cells (hF.o1.block HB3.out)
          go_simp
          exact hK _ _ ⟨b0, b1, b2, b3, true, true, false, b7, b8, false, false, false, false, false, ka, kc, kp, va, vb, lv, rfl, rfl, hF⟩
        · intro listed a w1 K hs hcl hf hall hI hK
          obtain ⟨b0, b1, b2, b3, b4, b5, b6, b7, b8, b9, b10, b11, b12, b13, ka, kc, kp, va, vb, lv, rfl, rfl, hF⟩ := hI
          have hf' : b6 = false := hf
          subst hf'
          have hq3 : b3 = true := hall ⟨3, .data⟩ (by first | exact .head _ | simp) rfl
          subst hq3
          have hq5 : b5 = true := hall ⟨5, .data⟩ (by first | exact .head _ | simp) rfl
          subst hq5
          have hq4 : b4 = true := hcl 5 _ rfl rfl ⟨4, .data⟩ (by first | exact .head _ | simp) rfl
          subst hq4
          have hb9 : b9 = false := by
            cases b9
            · rfl
            · exact absurd (show false = true from hcl 9 _ rfl rfl ⟨6, .data⟩ (by first | exact .head _ | simp) rfl) (by decide)
          subst hb9
          have hb13 : b13 = false := by
            cases b13
            · rfl
            · exact absurd (show false = true from hcl 13 _ rfl rfl ⟨6, .phase⟩ (by first | exact .head _ | simp) rfl) (by decide)
          subst hb13
          have hb10 : b10 = false := by
            cases b10
            · rfl
            · exact absurd (show false = true from hcl 10 _ rfl rfl ⟨9, .data⟩ (by first | exact .head _ | simp) rfl) (by decide)
          subst hb10
          have hb12 : b12 = false := by
            cases b12
            · rfl
            · exact absurd (show false = true from hcl 12 _ rfl rfl ⟨9, .chain⟩ (by first | exact .head _ | simp) rfl) (by decide)
          subst hb12
          have hb11 : b11 = false := by
            cases b11
            · rfl
            · exact absurd (show false = true from hcl 11 _ rfl rfl ⟨10, .data⟩ (by first | exact .head _ | simp) rfl) (by decide)
          subst hb11
          clear hall hcl hs hf
          have h3 := hF.a3 rfl rfl
          refine step_appO w1 (by rfl) _ _ 23 (by rfl) WQ.heap.size 5 (.int .u8 0) 1 1 Try.underlying23 info_q8 rfl (by decide) (by decide) (.slice (some ⟨ka, 0, none⟩) 0 0) 0 [] (by rfl) h3 xA t.length xc (txt t) (by rfl) (HXT.out.up (hF.ow rfl).1).rs (by rw [qtxt_len]; omega) (qtxt_one t) (by omega) (hF.ow rfl).1.size ?_
          intro v' w' ho hg hst
          exact hK _ _ ⟨b0, b1, b2, true, true, true, true, b7, b8, false, false, false, false, false, ka, kc, kp, v', vb, lv, rfl, rfl, hF.mk6 ho hg hst⟩
        · intro listed a w1 K hs hcl hf hall hI hK
          obtain ⟨b0, b1, b2, b3, b4, b5, b6, b7, b8, b9, b10, b11, b12, b13, ka, kc, kp, va, vb, lv, rfl, rfl, hF⟩ := hI
          have hf' : b7 = false := hf
          subst hf'
          clear hall hcl hs hf
          go_simp
          exact hK _ _ ⟨b0, b1, b2, b3, b4, b5, b6, true, b8, b9, b10, b11, b12, b13, ka, kc, kp, va, vb, lv, rfl, rfl, hF⟩
        · intro listed a w1 K hs hcl hf hall hI hK
          obtain ⟨b0, b1, b2, b3, b4, b5, b6, b7, b8, b9, b10, b11, b12, b13, ka, kc, kp, va, vb, lv, rfl, rfl, hF⟩ := hI
          have hf' : b8 = false := hf
          subst hf'
          have hq7 : b7 = true := hall ⟨7, .data⟩ (by first | exact .head _ | simp) rfl
          subst hq7
          have hb9 : b9 = false := by
            cases b9
            · rfl
            · exact absurd (show false = true from hcl 9 _ rfl rfl ⟨8, .data⟩ (by first | exact .head _ | simp) rfl) (by decide)
          subst hb9
          have hb13 : b13 = false := by
            cases b13
            · rfl
            · exact absurd (show false = true from hcl 13 _ rfl rfl ⟨8, .phase⟩ (by first | exact .head _ | simp) rfl) (by decide)
          subst hb13
          have hb10 : b10 = false := by
            cases b10
            · rfl
            · exact absurd (show false = true from hcl 10 _ rfl rfl ⟨9, .data⟩ (by first | exact .head _ | simp) rfl) (by decide)
          subst hb10
          have hb12 : b12 = false := by
            cases b12
            · rfl
            · exact absurd (show false = true from hcl 12 _ rfl rfl ⟨9, .chain⟩ (by first | exact .head _ | simp) rfl) (by decide)
          subst hb12
          have hb11 : b11 = false := by
            cases b11
            · rfl
            · exact absurd (show false = true from hcl 11 _ rfl rfl ⟨10, .data⟩ (by first | exact .head _ | simp) rfl) (by decide)
          subst hb11
          clear hall hcl hs hf
          go_simp
          exact hK _ _ ⟨b0, b1, b2, b3, b4, b5, b6, true, true, false, false, false, false, false, ka, w1.heap.size, kp, va, vb, lv, rfl, rfl, hF.mk8⟩
        · intro listed a w1 K hs hcl hf hall hI hK
          obtain ⟨b0, b1, b2, b3, b4, b5, b6, b7, b8, b9, b10, b11, b12, b13, ka, kc, kp, va, vb, lv, rfl, rfl, hF⟩ := hI
          have hf' : b9 = false := hf
          subst hf'
          have hq6 : b6 = true := hall ⟨6, .data⟩ (by first | exact .head _ | simp) rfl
          subst hq6
          have hq8 : b8 = true := hall ⟨8, .data⟩ (by first | exact .head _ | simp) rfl
          subst hq8
          have hq3 : b3 = true := hcl 6 _ rfl rfl ⟨3, .data⟩ (by first | exact .head _ | simp) rfl
          subst hq3
          have hq5 : b5 = true := hcl 6 _ rfl rfl ⟨5, .data⟩ (by first | exact .head _ | simp) rfl
          subst hq5
          have hq7 : b7 = true := hcl 8 _ rfl rfl ⟨7, .data⟩ (by first | exact .head _ | simp) rfl
          subst hq7
          have hq4 : b4 = true := hcl 5 _ rfl rfl ⟨4, .data⟩ (by first | exact .head _ | simp) rfl
          subst hq4
          have hb10 : b10 = false := by
            cases b10
            · rfl
            · exact absurd (show false = true from hcl 10 _ rfl rfl ⟨9, .data⟩ (by first | exact .head _ | simp) rfl) (by decide)
          subst hb10
          have hb12 : b12 = false := by
            cases b12
            · rfl
            · exact absurd (show false = true from hcl 12 _ rfl rfl ⟨9, .chain⟩ (by first | exact .head _ | simp) rfl) (by decide)
          subst hb12
          have hb13 : b13 = false := by
            cases b13
            · rfl
            · exact absurd (show false = true from hcl 13 _ rfl rfl ⟨9, .phase⟩ (by first | exact .head _ | simp) rfl) (by decide)
          subst hb13
          have hb11 : b11 = false := by
            cases b11
            · rfl
            · exact absurd (show false = true from hcl 11 _ rfl rfl ⟨10, .data⟩ (by first | exact .head _ | simp) rfl) (by decide)
          subst hb11
          clear hall hcl hs hf
          have h6 := hF.a6 rfl rfl
          obtain ⟨h8, _, _⟩ := hF.a8 rfl rfl
          obtain ⟨A9, c9, e9, ht9, _, _⟩ := h8.shape
          injection e9 with e9 _ _
          subst e9
          refine step_appO w1 (by rfl) _ _ 23 (by rfl) WQ.heap.size 5 (.int .u8 0) 1 1 Try.underlying23 info_q8 rfl (by decide) (by decide) va t.length (txt t) (by rfl) h6 (some ⟨kc, 0, none⟩) 1 1 [.int .u8 ((cb : Nat) : Int)] (by rfl) ht9.rs rfl rfl (by omega) (hF.ow rfl).1.size ?_
          intro v' w' ho hg hst
          exact hK _ _ ⟨b0, b1, b2, true, true, true, true, true, true, true, false, false, false, false, ka, kc, kp, va, v', lv, rfl, rfl, hF.mk9 ho hg⟩
        · intro listed a w1 K hs hcl hf hall hI hK
          obtain ⟨b0, b1, b2, b3, b4, b5, b6, b7, b8, b9, b10, b11, b12, b13, ka, kc, kp, va, vb, lv, rfl, rfl, hF⟩ := hI
          have hf' : b10 = false := hf
          subst hf'
          have hq2 : b2 = true := hall ⟨2, .data⟩ (by first | exact .head _ | simp) rfl
          subst hq2
          have hq9 : b9 = true := hall ⟨9, .data⟩ (by first | exact .head _ | simp) rfl
          subst hq9
          have hq1 : b1 = true := hcl 2 _ rfl rfl ⟨1, .data⟩ (by first | exact .head _ | simp) rfl
          subst hq1
          have hq6 : b6 = true := hcl 9 _ rfl rfl ⟨6, .data⟩ (by first | exact .head _ | simp) rfl
          subst hq6
          have hq8 : b8 = true := hcl 9 _ rfl rfl ⟨8, .data⟩ (by first | exact .head _ | simp) rfl
          subst hq8
          have hq3 : b3 = true := hcl 6 _ rfl rfl ⟨3, .data⟩ (by first | exact .head _ | simp) rfl
          subst hq3
          have hq5 : b5 = true := hcl 6 _ rfl rfl ⟨5, .data⟩ (by first | exact .head _ | simp) rfl
          subst hq5
          have hq7 : b7 = true := hcl 8 _ rfl rfl ⟨7, .data⟩ (by first | exact .head _ | simp) rfl
          subst hq7
          have hq4 : b4 = true := hcl 5 _ rfl rfl ⟨4, .data⟩ (by first | exact .head _ | simp) rfl
          subst hq4
          have hb11 : b11 = false := by
            cases b11
            · rfl
            · exact absurd (show false = true from hcl 11 _ rfl rfl ⟨10, .data⟩ (by first | exact .head _ | simp) rfl) (by decide)
          subst hb11
          have hb13 : b13 = false := by
            cases b13
            · rfl
            · exact absurd (show false = true from hcl 13 _ rfl rfl ⟨10, .phase⟩ (by first | exact .head _ | simp) rfl) (by decide)
          subst hb13
          have hb12 : b12 = false := by
            cases b12
            · rfl
            · exact absurd (show false = true from hcl 12 _ rfl rfl ⟨11, .data⟩ (by first | exact .head _ | simp) rfl) (by decide)
          subst hb12
          clear hall hcl hs hf
          obtain ⟨A9, c9, hv9, _, _, _⟩ := (hF.a9 rfl rfl).shape
          subst hv9
          go_simp
          exact hK _ _ ⟨b0, true, true, true, true, true, true, true, true, true, true, false, false, false, ka, kc, kp, va, .slice A9 (t.length + 1) c9, lv, rfl, rfl, hF⟩
        · intro listed a w1 K hs hcl hf hall hI hK
          obtain ⟨b0, b1, b2, b3, b4, b5, b6, b7, b8, b9, b10, b11, b12, b13, ka, kc, kp, va, vb, lv, rfl, rfl, hF⟩ := hI
          have hf' : b11 = false := hf
          subst hf'
          have hq10 : b10 = true := hall ⟨10, .data⟩ (by first | exact .head _ | simp) rfl
          subst hq10
          have hq2 : b2 = true := hcl 10 _ rfl rfl ⟨2, .data⟩ (by first | exact .head _ | simp) rfl
          subst hq2
          have hq9 : b9 = true := hcl 10 _ rfl rfl ⟨9, .data⟩ (by first | exact .head _ | simp) rfl
          subst hq9
          have hq1 : b1 = true := hcl 2 _ rfl rfl ⟨1, .data⟩ (by first | exact .head _ | simp) rfl
          subst hq1
          have hq6 : b6 = true := hcl 9 _ rfl rfl ⟨6, .data⟩ (by first | exact .head _ | simp) rfl
          subst hq6
          have hq8 : b8 = true := hcl 9 _ rfl rfl ⟨8, .data⟩ (by first | exact .head _ | simp) rfl
          subst hq8
          have hq3 : b3 = true := hcl 6 _ rfl rfl ⟨3, .data⟩ (by first | exact .head _ | simp) rfl
          subst hq3
          have hq5 : b5 = true := hcl 6 _ rfl rfl ⟨5, .data⟩ (by first | exact .head _ | simp) rfl
          subst hq5
          have hq7 : b7 = true := hcl 8 _ rfl rfl ⟨7, .data⟩ (by first | exact .head _ | simp) rfl
          subst hq7
          have hq4 : b4 = true := hcl 5 _ rfl rfl ⟨4, .data⟩ (by first | exact .head _ | simp) rfl
          subst hq4
          have hb12 : b12 = false := by
            cases b12
            · rfl
            · exact absurd (show false = true from hcl 12 _ rfl rfl ⟨11, .data⟩ (by first | exact .head _ | simp) rfl) (by decide)
          subst hb12
          have hb13 : b13 = false := by
            cases b13
            · rfl
            · exact absurd (show false = true from hcl 13 _ rfl rfl ⟨11, .phase⟩ (by first | exact .head _ | simp) rfl) (by decide)
          subst hb13
          clear hall hcl hs hf
          obtain ⟨A9, c9, hv9, _, _, _⟩ := (hF.a9 rfl rfl).shape
          subst hv9
          go_simp
          exact hK _ _ ⟨b0, true, true, true, true, true, true, true, true, true, true, true, false, false, ka, kc, w1.heap.size, va, .slice A9 (t.length + 1) c9, lv, rfl, rfl, hF.mk11⟩
        · intro listed a w1 K hs hcl hf hall hI hK
          obtain ⟨b0, b1, b2, b3, b4, b5, b6, b7, b8, b9, b10, b11, b12, b13, ka, kc, kp, va, vb, lv, rfl, rfl, hF⟩ := hI
          have hf' : b12 = false := hf
          subst hf'
          have hq0 : b0 = true := hall ⟨0, .data⟩ (by first | exact .head _ | simp) rfl
          subst hq0
          have hq11 : b11 = true := hall ⟨11, .data⟩ (by first | exact .head _ | simp) rfl
          subst hq11
          have hq9 : b9 = true := hall ⟨9, .chain⟩ (by first | exact .head _ | simp) rfl
          subst hq9
          have hq10 : b10 = true := hcl 11 _ rfl rfl ⟨10, .data⟩ (by first | exact .head _ | simp) rfl
          subst hq10
          have hq6 : b6 = true := hcl 9 _ rfl rfl ⟨6, .data⟩ (by first | exact .head _ | simp) rfl
          subst hq6
          have hq8 : b8 = true := hcl 9 _ rfl rfl ⟨8, .data⟩ (by first | exact .head _ | simp) rfl
          subst hq8
          have hq2 : b2 = true := hcl 10 _ rfl rfl ⟨2, .data⟩ (by first | exact .head _ | simp) rfl
          subst hq2
          have hq3 : b3 = true := hcl 6 _ rfl rfl ⟨3, .data⟩ (by first | exact .head _ | simp) rfl
          subst hq3
          have hq5 : b5 = true := hcl 6 _ rfl rfl ⟨5, .data⟩ (by first | exact .head _ | simp) rfl
          subst hq5
          have hq7 : b7 = true := hcl 8 _ rfl rfl ⟨7, .data⟩ (by first | exact .head _ | simp) rfl
          subst hq7
          have hq1 : b1 = true := hcl 2 _ rfl rfl ⟨1, .data⟩ (by first | exact .head _ | simp) rfl
          subst hq1
          have hq4 : b4 = true := hcl 5 _ rfl rfl ⟨4, .data⟩ (by first | exact .head _ | simp) rfl
          subst hq4
          have hb13 : b13 = false := by
            cases b13
            · rfl
            · exact absurd (show false = true from hcl 13 _ rfl rfl ⟨12, .data⟩ (by first | exact .head _ | simp) rfl) (by decide)
          subst hb13
          clear hall hcl hs hf
          have h12 := (hF.ow rfl).2
          have hrow := hF.a11 rfl rfl
          obtain ⟨A9, c9, hv9, _, _, _⟩ := (hF.a9 rfl rfl).shape
          subst hv9
          refine step_appO w1 (by rfl) _ _ 96 (by rfl) B 98 (.agg #[.int .i64 0, .bool false, .bool false, .slice none 0 0]) 4 40 Try.underlying96 info_pl rfl (by decide) (by decide) (.slice none 0 0) ([] : List Pr).length (prsV ([] : List Pr)) (by rfl) h12 (some ⟨kp, 0, none⟩) 1 1 [.int .i64 (lf : Int), .bool false, .bool false, .slice A9 (t.length + 1) c9] (by rfl) (Or.inr ⟨kp, 0, rfl, fun j u hu => by rw [Nat.zero_add, cell_of_row w1 kp j _ _ _ hrow, List.getElem?_toArray]; exact hu⟩) rfl rfl (by have := HLL.out; omega) (Nat.le_trans hF.wB (hF.ow rfl).1.size) ?_
          intro v' w' ho hg hst
          exact hK _ _ ⟨true, true, true, true, true, true, true, true, true, true, true, true, true, false, ka, kc, kp, va, .slice A9 (t.length + 1) c9, v', rfl, rfl, hF.mk12 ho hg⟩
        · intro listed a w1 K hs hcl hf hall hI hK
          obtain ⟨b0, b1, b2, b3, b4, b5, b6, b7, b8, b9, b10, b11, b12, b13, ka, kc, kp, va, vb, lv, rfl, rfl, hF⟩ := hI
          have hf' : b13 = false := hf
          subst hf'
          have hq12 : b12 = true := hall ⟨12, .data⟩ (by first | exact .head _ | simp) rfl
          subst hq12
          have hq0 : b0 = true := hall ⟨0, .phase⟩ (by first | exact .head _ | simp) rfl
          subst hq0
          have hq1 : b1 = true := hall ⟨1, .phase⟩ (by first | exact .head _ | simp) rfl
          subst hq1
          have hq2 : b2 = true := hall ⟨2, .phase⟩ (by first | exact .head _ | simp) rfl
          subst hq2
          have hq3 : b3 = true := hall ⟨3, .phase⟩ (by first | exact .head _ | simp) rfl
          subst hq3
          have hq4 : b4 = true := hall ⟨4, .phase⟩ (by first | exact .head _ | simp) rfl
          subst hq4
          have hq5 : b5 = true := hall ⟨5, .phase⟩ (by first | exact .head _ | simp) rfl
          subst hq5
          have hq6 : b6 = true := hall ⟨6, .phase⟩ (by first | exact .head _ | simp) rfl
          subst hq6
          have hq7 : b7 = true := hall ⟨7, .phase⟩ (by first | exact .head _ | simp) rfl
          subst hq7
          have hq8 : b8 = true := hall ⟨8, .phase⟩ (by first | exact .head _ | simp) rfl
          subst hq8
          have hq9 : b9 = true := hall ⟨9, .phase⟩ (by first | exact .head _ | simp) rfl
          subst hq9
          have hq10 : b10 = true := hall ⟨10, .phase⟩ (by first | exact .head _ | simp) rfl
          subst hq10
          have hq11 : b11 = true := hall ⟨11, .phase⟩ (by first | exact .head _ | simp) rfl
          subst hq11
          clear hall hcl hs hf
          go_simp
          exact hK _ _ ⟨true, true, true, true, true, true, true, true, true, true, true, true, true, true, ka, kc, kp, va, vb, lv, rfl, rfl, hF⟩

end Go.Proofs.Ythadkjgadhbidaa
