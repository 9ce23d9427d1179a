/-
  The search's reach (nfa).
-/
import Derived.Test.YthadkjgadhbidaaSpM
import Derived.Test.YthadkjgadhbidaaStill
import Derived.Deep.RegionHeld3
import Derived.Deep.CutBlock
import Derived.Deep.DeepCutAuto
namespace Go.Proofs.Ythadkjgadhbidaa
open Go.RowKit
set_option linter.unusedVariables false

def spCells (p : Sp) : List Value := [.int .i64 (p.s : Int), .bool p.b, .bool p.e]
def spsV (L : List Sp) : List Value := L.flatMap spCells
theorem asz (w : World) (o : Obj) : (w.alloc o).heap.size = w.heap.size + 1 := by simp
theorem spsV_length (L : List Sp) : (spsV L).length = L.length * 3 := by
  induction L with
  | nil => rfl
  | cons p L ih => unfold spsV at *; rw [List.flatMap_cons, List.length_append, ih, List.length_cons]; simp [spCells]; omega
theorem spsV_one (L : List Sp) : (spsV L).all Value.oneCell' = true := by
  rw [List.all_eq_true]
  intro v hv
  obtain ⟨p, _, hp⟩ := List.mem_flatMap.mp hv
  simp [spCells] at hp
  rcases hp with rfl | rfl | rfl <;> rfl
theorem spsV_snoc (L : List Sp) (p : Sp) : spsV (L ++ [p]) = spsV L ++ spCells p := by unfold spsV; rw [List.flatMap_append]; simp
theorem spsV_get (L : List Sp) (i : Nat) (h : i < L.length) (j : Nat) (hj : j < 3) : (spsV L)[i * 3 + j]? = (spCells (L.getD i sp0))[j]? := by
  induction L generalizing i with
  | nil => simp at h
  | cons p L ih =>
    have e : spsV (p :: L) = spCells p ++ spsV L := by unfold spsV; rw [List.flatMap_cons]
    rw [e]
    cases i with
    | zero =>
      rw [Nat.zero_mul, Nat.zero_add, List.getElem?_append_left (by simp [spCells]; omega)]
      rfl
    | succ i =>
      have hl : (spCells p).length = 3 := rfl
      rw [List.getElem?_append_right (by rw [hl]; omega), hl, show (i + 1) * 3 + j - 3 = i * 3 + j by omega, ih i (by simpa using h)]
      simp
/-- The search in memory: block g; its map: block b. -/
structure SK (w0 w : World) (B g b : Nat) (st : List Nd) (A : Option Addr) (c : Nat) (al : List (Sp × Og)) : Prop where
  old : Old w0 w
  nodes : Rs w0 A (ndsV st)
  blk : w.heap[g]? = some (.cells #[.slice A st.length c, .map (some b)] 86 (0, 0))
  map : SMap w b al
  bg : w0.heap.size ≤ g
  bb : w0.heap.size ≤ b
  lg : g < B
  lb : b < B
  ne : g ≠ b
  lB : B ≤ w.heap.size
section
variable {w0 w w' : World} {B g b c : Nat} {st : List Nd} {A : Option Addr} {al : List (Sp × Og)}
theorem SK.up (h : SK w0 w B g b st A c al) (ho : Old w w') : SK w0 w' B g b st A c al :=
  ⟨h.old.up ho, h.nodes, ho.block h.blk, h.map.up ho, h.bg, h.bb, h.lg, h.lb, h.ne, Nat.le_trans h.lB ho.size⟩
theorem SK.cells (h : SK w0 w B g b st A c al) : w.cell? ⟨g, 0, none⟩ = some (.slice A st.length c) ∧ w.cell? ⟨g, 1, none⟩ = some (.map (some b)) :=
  ⟨by rw [cell_of_row w g 0 _ _ _ h.blk]; rfl, by rw [cell_of_row w g 1 _ _ _ h.blk]; rfl⟩
theorem SMap.kept {row : Option Nat} (h : SMap w b al) (hg : w.grownBy w' row) (hne : some b ≠ row) : SMap w' b al := by
  obtain ⟨D, h1, h2⟩ := h
  exact ⟨D, h1.kept hg hne, h2⟩
theorem SK.put {al' : List (Sp × Og)} (h : SK w0 w B g b st A c al) (hm : SMap w' b al') (hg : w.grownBy w' (some b)) : SK w0 w' B g b st A c al' :=
  ⟨Below.grown h.old hg h.old.size (by intro k hk; injection hk with hk; subst hk; exact h.bb), h.nodes, (hg.block g (lt_of_block h.blk) (by intro e; injection e with e; exact h.ne e)).trans h.blk, hm, h.bg, h.bb, h.lg, h.lb, h.ne, Nat.le_trans h.lB hg.size⟩
theorem SK.row {lv : Value} {n : Nat} {xs : List Value} (h : SK w0 w B g b st A c al) (hl : Own w B 90 3 lv n xs) (hg : w.grownBy w' lv.ownBlock) : SK w0 w' B g b st A c al :=
  ⟨Own.grown_old h.old hl (Nat.le_trans h.bg (Nat.le_of_lt h.lg)) hg, h.nodes, (hg.block g (lt_of_block h.blk) (mown_far hl h.lg)).trans h.blk, h.map.kept hg (mown_far hl h.lb), h.bg, h.bb, h.lg, h.lb, h.ne, Nat.le_trans h.lB hg.size⟩
end
theorem MKept.map_ {w w' : World} {b : Nat} (hg : w.grownBy w' (some b)) (lv : Value) : MKept w w' b b lv lv :=
  ⟨hg.size, fun k hk h1 _ _ => hg.block k hk (by intro e; injection e with e; exact h1 e), fun _ h => Or.inl h⟩
theorem MKept.row_ {w w' : World} {lv v' : Value} (hg : w.grownBy w' lv.ownBlock) (hs : Stay w lv v') (b : Nat) : MKept w w' b b lv v' := by
  refine ⟨hg.size, fun k hk _ _ h3 => hg.block k hk h3, fun k hk => ?_⟩
  rcases hs with e | ⟨j, e, hj⟩
  · rw [← e]; exact Or.inl hk
  · rw [e] at hk; injection hk with hk; subst hk; exact Or.inr hj
def SReach (w : World) (lv : Value) (w0 : World) (B g b : Nat) (st : List Nd) (A : Option Addr) (c : Nat) (r : List (Sp × Og) × List Sp) (e : Ending) (w' : World) : Prop :=
  ∃ lv', e = .returned lv' ∧ SK w0 w' B g b st A c r.1 ∧ Own w' B 90 3 lv' r.2.length (spsV r.2) ∧ MKept w w' b b lv lv'
theorem info_spt : (Try.prog.info? 90).map (fun i => (i.zero, i.size, i.bytes)) = some (some (.agg #[.int .i64 0, .bool false, .bool false]), 3, 16) := by kernel_rfl
/-- 'v, ok := m[p]', told by the list. -/
def ogAt (al : List (Sp × Og)) (p : Sp) : Og := (lk al p).getD ⟨⟨0, false, false⟩, false, false, 0⟩
theorem SMap.look2 {w : World} {b : Nat} {al : List (Sp × Og)} (h : SMap w b al) {p : Sp} (hp : p.s < 1000000) :
    (Instr.lookup 84 (.map (some b)) (spv p) true).run Try.prog w = .ok (.tuple #[orv (ogAt al p), .bool (lk al p).isSome]) w := by
  obtain ⟨D, h1, h2⟩ := h
  obtain ⟨v, ps, hrun, hv⟩ := h1.look_ok spot_law Try.underlying84 (zero_origin w) (orR_mk _) (keyOf_spot p hp)
  obtain ⟨s, bb, e, r, o', c, rfl, hz⟩ := orR_inv hv
  obtain ⟨q1, q2⟩ := h2 p hp
  have hD : D.atKey (klS p) (orD ⟨⟨0, false, false⟩, false, false, 0⟩) = orD (ogAt al p) := by
    unfold ogAt
    cases hl : lk al p with
    | none => rw [hl] at q1; exact Maps.atKey_of_not_has q1 _
    | some o => exact q2 o hl
  rw [hD] at hz
  rw [q1] at hrun
  unfold orD at hz
  simp at hz
  obtain ⟨⟨q1, q2, q3, q4, q5, q6⟩, _⟩ := hz
  rw [hrun]
  unfold orv
  rw [q1, q2, q3, q4, q5, q6]
set_option maxHeartbeats 4000000 in
set_option maxRecDepth 100000 in
theorem sreachC (w0 : World) (B g b : Nat) (st : List Nd) (A : Option Addr) (c : Nat) (lv : Value) (al : List (Sp × Og)) (L : List Sp) (w : World) (h : SK w0 w B g b st A c al) (hl : Own w B 90 3 lv L.length (spsV L)) (hn : al.length ≤ 100000) (hL : L.length ≤ 100000) (q : Sp) (hq : q.s < 1000000) (o : Og) (hc : o.c < 256) :
    Calls Try.prog 45 #[.pointer (some ⟨g, 0, none⟩), lv, spv q, orv o] w (SReach w lv w0 B g b st A c (reachP al L q o)) := by
  have HH := Lib.hid h
  have HLL := Lib.hid hl
  obtain ⟨Al, cl, rfl, htl, _, _⟩ := hl.shape
  have HP : Hid (reachP al L q o = if (lk al q).isSome = true then (al, L) else (al ++ [(q, o)], L ++ [q])) := Lib.hid rfl
  have HQS := Lib.hid hq
  have hb6 := heap_alloc_new w (.cells (spCells q).toArray 90)
  have ho6 := (Old.refl w).alloc (.cells (spCells q).toArray 90)
  have hb7 := heap_alloc_new (w.alloc (.cells (spCells q).toArray 90)) (.cells #[.int .i64 (o.from_.s : Int), .bool o.from_.b, .bool o.from_.e, .bool o.root, .bool o.over, .int .u8 (o.c : Int)] 92)
  have ho7 := ho6.alloc (.cells #[.int .i64 (o.from_.s : Int), .bool o.from_.b, .bool o.from_.e, .bool o.root, .bool o.over, .int .u8 (o.c : Int)] 92)
  have hb6' := ((Old.refl (w.alloc (.cells (spCells q).toArray 90))).alloc (.cells #[.int .i64 (o.from_.s : Int), .bool o.from_.b, .bool o.from_.e, .bool o.root, .bool o.over, .int .u8 (o.c : Int)] 92)).block hb6
  have hlk := fun W (h : SMap W b al) => h.look2 hq
  have HORV := Lib.hid (rfl : ogAt al q = ogAt al q)
  generalize hoa : ogAt al q = oa at hlk
  clear HORV hoa htl h hl hb6 ho6
  obtain ⟨qs, qb, qe⟩ := q
  obtain ⟨⟨fs, fb, fe⟩, rt, ov, ch⟩ := o
  obtain ⟨⟨zs, zb, ze⟩, zr, zo, zc⟩ := oa
  unfold spv orv spCells at *
  simp only at *
  go_enter Try.func45, Try.ntmps45
  go_upto_region 1 with fail
  rw [asz] at hb7
  have HOB : Hid (Own ((w.alloc (.cells #[.int .i64 (qs : Int), .bool qb, .bool qe] 90)).alloc (.cells #[.int .i64 (fs : Int), .bool fb, .bool fe, .bool rt, .bool ov, .int .u8 (ch : Int)] 92)) B 90 3 (.slice Al L.length cl) L.length (spsV L)) := Lib.hid (HLL.out.up ho7)
  have HKW : Hid (MKept w ((w.alloc (.cells #[.int .i64 (qs : Int), .bool qb, .bool qe] 90)).alloc (.cells #[.int .i64 (fs : Int), .bool fb, .bool fe, .bool rt, .bool ov, .int .u8 (ch : Int)] 92)) b b (.slice Al L.length cl) (.slice Al L.length cl)) := Lib.hid (MKept.of_old ho7 b b _)
  have HHW := Lib.hid (HH.out.up ho7)
  generalize (w.alloc (.cells #[.int .i64 (qs : Int), .bool qb, .bool qe] 90)).alloc (.cells #[.int .i64 (fs : Int), .bool fb, .bool fe, .bool rt, .bool ov, .int .u8 (ch : Int)] 92) = W at *
  have HB6 := Lib.hid hb6'
  have HB7 := Lib.hid hb7
  have HLK := Lib.hid hlk
  have HKB : Hid (b < w.heap.size) := Lib.hid (by have := HH.out.lb; have := HH.out.lB; omega)
  generalize w.heap.size = k6 at *
  clear hb6' hb7 ho7 hlk HH HLL
  have HALL : Hid (∀ w', Old W w' → Old W w' ∧ w'.cell? ⟨g, 1, none⟩ = some (.map (some b)) ∧ w'.cell? ⟨k6, 0, none⟩ = some (.int .i64 (qs : Int)) ∧ w'.cell? ⟨k6, 1, none⟩ = some (.bool qb) ∧ w'.cell? ⟨k6, 2, none⟩ = some (.bool qe) ∧
      (Instr.lookup 84 (.map (some b)) (.agg #[.int .i64 (qs : Int), .bool qb, .bool qe]) true).run Try.prog w' = .ok (.tuple #[.agg #[.int .i64 (zs : Int), .bool zb, .bool ze, .bool zr, .bool zo, .int .u8 (zc : Int)], .bool (lk al ⟨qs, qb, qe⟩).isSome]) w') := Lib.hid (fun w' ho =>
    ⟨ho, (HHW.out.up ho).cells.2, by rw [cell_of_row w' k6 0 _ _ _ (ho.block HB6.out)]; rfl, by rw [cell_of_row w' k6 1 _ _ _ (ho.block HB6.out)]; rfl, by rw [cell_of_row w' k6 2 _ _ _ (ho.block HB6.out)]; rfl, HLK.out w' (HHW.out.up ho).map⟩)
  generalize hsome : (lk al ⟨qs, qb, qe⟩).isSome = sm at *
  go_cut [10] (fun v wx => v = .bool sm ∧ Hid (Old W wx))
  case first =>
    clear HP HOB HKW HHW HB6 HB7 HLK hsome HKB
    go_region_held3 (fun w' => Old W w' ∧ w'.cell? ⟨g, 1, none⟩ = some (.map (some b)) ∧ w'.cell? ⟨k6, 0, none⟩ = some (.int .i64 (qs : Int)) ∧ w'.cell? ⟨k6, 1, none⟩ = some (.bool qb) ∧ w'.cell? ⟨k6, 2, none⟩ = some (.bool qe) ∧
      (Instr.lookup 84 (.map (some b)) (.agg #[.int .i64 (qs : Int), .bool qb, .bool qe]) true).run Try.prog w' = .ok (.tuple #[.agg #[.int .i64 (zs : Int), .bool zb, .bool ze, .bool zr, .bool zo, .int .u8 (zc : Int)], .bool sm]) w') ((refine HALL.out _ ?_; first | exact (Old.refl _).drew | exact ((Old.refl _).alloc _).drew)) (fail)
    all_goals (go_wp2_with fail; go_meet; exact ⟨rfl, Lib.hid (((Old.refl _).alloc _).drew)⟩)
  case rest =>
    clear HALL HLK
    obtain ⟨rfl, HO⟩ := hcut
    have HHC := Lib.hid (HHW.out.up HO.out)
    have HOC := Lib.hid (HOB.out.up HO.out)
    have HKC := Lib.hid (HKW.out.trans (MKept.of_old HO.out b b _))
    have HC6 := Lib.hid (HO.out.block HB6.out)
    have HC7 := Lib.hid (HO.out.block HB7.out)
    clear HHW HOB HKW HB6 HB7 HO
    cases sm with
    | true =>
      have HE : Hid (reachP al L ⟨qs, qb, qe⟩ ⟨⟨fs, fb, fe⟩, rt, ov, ch⟩ = (al, L)) := Lib.hid (by rw [HP.out]; rfl)
      clear HP hsome
      go_wp2_with fail
      go_ret
      rw [HE.out]
      exact ⟨_, rfl, HHC.out, HOC.out, HKC.out⟩
    | false =>
      have HE : Hid (reachP al L ⟨qs, qb, qe⟩ ⟨⟨fs, fb, fe⟩, rt, ov, ch⟩ = (al ++ [(⟨qs, qb, qe⟩, ⟨⟨fs, fb, fe⟩, rt, ov, ch⟩)], L ++ [⟨qs, qb, qe⟩])) := Lib.hid (by rw [HP.out]; rfl)
      have hno : lk al ⟨qs, qb, qe⟩ = none := by
        cases hh : lk al ⟨qs, qb, qe⟩ with
        | none => rfl
        | some x => rw [hh] at hsome; cases hsome
      obtain ⟨w5, hrun, hm5, hg5⟩ := (HHC.out.up (Old.refl _).drew).map.put (by omega) HQS.out ⟨⟨fs, fb, fe⟩, rt, ov, ch⟩ hno
      unfold spv orv at hrun
      simp only at hrun
      obtain ⟨_, c1⟩ := HHC.out.cells
      have c60 : wc.cell? ⟨k6, 0, none⟩ = some (.int .i64 (qs : Int)) := by rw [cell_of_row wc k6 0 _ _ _ HC6.out]; rfl
      have c61 : wc.cell? ⟨k6, 1, none⟩ = some (.bool qb) := by rw [cell_of_row wc k6 1 _ _ _ HC6.out]; rfl
      have c62 : wc.cell? ⟨k6, 2, none⟩ = some (.bool qe) := by rw [cell_of_row wc k6 2 _ _ _ HC6.out]; rfl
      have c70 : wc.cell? ⟨k6 + 1, 0, none⟩ = some (.int .i64 (fs : Int)) := by rw [cell_of_row wc (k6 + 1) 0 _ _ _ HC7.out]; rfl
      have c71 : wc.cell? ⟨k6 + 1, 1, none⟩ = some (.bool fb) := by rw [cell_of_row wc (k6 + 1) 1 _ _ _ HC7.out]; rfl
      have c72 : wc.cell? ⟨k6 + 1, 2, none⟩ = some (.bool fe) := by rw [cell_of_row wc (k6 + 1) 2 _ _ _ HC7.out]; rfl
      have c73 : wc.cell? ⟨k6 + 1, 3, none⟩ = some (.bool rt) := by rw [cell_of_row wc (k6 + 1) 3 _ _ _ HC7.out]; rfl
      have c74 : wc.cell? ⟨k6 + 1, 4, none⟩ = some (.bool ov) := by rw [cell_of_row wc (k6 + 1) 4 _ _ _ HC7.out]; rfl
      have c75 : wc.cell? ⟨k6 + 1, 5, none⟩ = some (.int .u8 (ch : Int)) := by rw [cell_of_row wc (k6 + 1) 5 _ _ _ HC7.out]; rfl
      have HH5 := Lib.hid (SK.put (HHC.out.up (Old.refl _).drew) hm5 hg5)
      have HO5 : Hid (Own w5 B 90 3 (.slice Al L.length cl) L.length (spsV L)) := Lib.hid (World.ownsRow.kept (HOC.out.up (Old.refl _).drew) hg5 (Or.inr (fun e => mown_far HOC.out HHC.out.lb e.symm)))
      have HK5 := Lib.hid (HKC.out.trans ((MKept.of_old (Old.refl _).drew b b _).trans (MKept.map_ hg5 (.slice Al L.length cl))))
      have hc6 : w5.heap[k6]? = some (.cells #[.int .i64 (qs : Int), .bool qb, .bool qe] 90 (0, 0)) := (hg5.block k6 (lt_of_block HC6.out) (by intro e; injection e with e; have := HKB.out; omega)).trans HC6.out
      have d0 : w5.cell? ⟨k6, 0, none⟩ = some (.int .i64 (qs : Int)) := by rw [cell_of_row w5 k6 0 _ _ _ hc6]; rfl
      have d1 : w5.cell? ⟨k6, 1, none⟩ = some (.bool qb) := by rw [cell_of_row w5 k6 1 _ _ _ hc6]; rfl
      have d2 : w5.cell? ⟨k6, 2, none⟩ = some (.bool qe) := by rw [cell_of_row w5 k6 2 _ _ _ hc6]; rfl
      have HB5 := Lib.hid HH5.out.lB
      clear HP hsome hno hm5 hg5 hc6 HHC HOC HKC HC6 HC7
      go_upto_region 4 with fail
      refine wp_region_still_tail 6 (by kernel_rfl) (by kernel_rfl) ?_
      simp only [List.take_succ_cons, List.take_zero, List.drop_succ_cons, List.drop_zero]
      refine still_open (fun S HSW HSS HSN => ?_)
      iterate 6 (refine HSW.out _ _ _ (by kernel_rfl) (fun K hK => ?_); go_simp; refine hK _ ?_; clear hK K)
      refine HSN.out _ ?_
      clear HSW HSS HSN
      go_upto_region 5 with fail
      clear hrun c1 c60 c61 c62 c70 c71 c72 c73 c74 c75
      go_wp2_with (at_builtin; refine wpList_pushS (wr := w5) rfl _ _ 87 rfl _ 90 (.agg #[.int .i64 0, .bool false, .bool false]) 3 16 Try.underlying87 info_spt rfl (by decide) (by decide) _ _ _ rfl HO5.out 1 1 [.int .i64 (qs : Int), .bool qb, .bool qe] rfl rfl rfl rfl ?pn1 HB5.out (by decide) ?_)
      case pn1 => omega
      intro v' w6 ho hg hst
      have ho' : Own w6 B 90 3 v' (L.length + 1) (spsV (L ++ [⟨qs, qb, qe⟩])) := by rw [spsV_snoc]; exact ho
      have HO6 := Lib.hid ho'
      have HH6 := Lib.hid (HH5.out.row HO5.out hg)
      have HK6 := Lib.hid (HK5.out.trans (MKept.row_ hg hst b))
      clear ho ho' hg hst HO5 HH5 HK5 d0 d1 d2
      go_wp2_with fail
      go_ret
      rw [HE.out]
      exact ⟨_, rfl, HH6.out, by rw [List.length_append, List.length_singleton]; exact HO6.out, HK6.out⟩
end Go.Proofs.Ythadkjgadhbidaa
