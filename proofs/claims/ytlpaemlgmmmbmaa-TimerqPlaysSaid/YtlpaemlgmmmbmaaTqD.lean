/-
  TimerqDivides: the walk.
-/
import Derived.Test.YtlpaemlgmmmbmaaTqC
import Derived.Test.YtlpaemlgmmmbmaaTqE
import Derived.Test.YtlpaemlgmmmbmaaTqO
namespace Go.Proofs.Ytlpaemlgmmmbmaa
open Go.RowKit Go.Maps
set_option linter.unusedVariables false

section
variable {P : Program} {w : World} {ops : Array Oper} {rest : List Oper} {o : Oper} {a : Act} {Q : Exit → Act → World → Prop}
/-- 'append(out, x, ..)', and where the new row lies. -/
theorem wpList_pushW {wr : World} (hgd : o.guard = none) (s x : Operand) (t : TypeId)
    (ho : o.op = .call { callee := .builtin .append, args := #[s, x], argTypes := #[t, t] })
    (base : Nat) (e : TypeId) (z : Value) (size bytes : Nat) (ht : P.underlying t = some (.slice e))
    (hi : (P.info? e).map (fun i => (i.zero, i.size, i.bytes)) = some (some z, size, bytes)) (hzs : z.cells.size = size) (hsz : 0 < size) (hby : bytes ≤ 1024)
    (v : Value) (n : Nat) (xs : List Value) (hs : a.eval s = v) (hown : Own wr base e size v n xs)
    (m c : Nat) (news : List Value) (hx : a.eval x = .slice (some ⟨wr.heap.size, 0, none⟩) m c) (hw : w = wr.alloc (.cells news.toArray e)) (hl : news.length = m * size) (h1 : news.all Value.oneCell' = true)
    (hn : n + m ≤ 68719476736) (hbase : base ≤ wr.heap.size)
    (h : ∀ v' w', Own w' base e size v' (n + m) (xs ++ news) → wr.grownBy w' v.ownBlock → (v'.ownBlock = v.ownBlock ∨ ∃ j, v'.ownBlock = some j ∧ wr.heap.size ≤ j) → wpList P ops Q rest (a.put o.dst v') w') : wpList P ops Q (o :: rest) a w := by
  subst hw
  obtain ⟨i, hii, hz, hsize, hbb⟩ := info_parts hi
  have hb2 : (n + m) * bytes ≤ 68719476736 * 1024 := Nat.mul_le_mul hn hby
  obtain ⟨v', w', hr, h2, h3, _, h5⟩ := run_append_own_at (P := P) (wr.alloc (.cells news.toArray e)) base t o.type e i z size bytes ht hii hz hsize hbb hzs hsz v n xs (Own.alloc hown _) ⟨wr.heap.size, 0, none⟩ m c news hl (cells_new wr news e) (by simpa using h1)
    (by unfold maxLen; omega) (by omega) (by simp; omega)
  refine wpList_plain hgd fun K hK => ?_
  unfold Oper.wp
  simp [execOp, ho, resolve, invoke, builtin, hs, hx, hr, Result.andThen]
  refine hK _ _ (h v' w' h2 (World.grownBy.trans (World.grownBy_alloc wr _ _) h3) ?_)
  rcases h5 with h5 | h5
  · exact Or.inl h5
  · exact Or.inr ⟨_, h5, by simp⟩
end
theorem Own.rsV {w : World} {base : Nat} {e : TypeId} {size : Nat} {A : Option Addr} {n c : Nat} {xs : List Value} (h : Own w base e size (.slice A n c) n xs) : Rs w A xs := by
  obtain ⟨A', c', e', ht, _⟩ := h.shape
  injection e' with e1
  subst e1
  exact ht.rs
def ApartV (u v : Value) : Prop := ∀ j k, u.ownBlock = some j → v.ownBlock = some k → j ≠ k
theorem Own.other {w w' : World} {base base' : Nat} {e e' : TypeId} {size size' : Nat} {u v : Value} {n n' : Nat} {xs ys : List Value} (h : Own w base e size v n xs) (hu : Own w base' e' size' u n' ys) (ha : ApartV u v) (hg : w.grownBy w' u.ownBlock) : Own w' base e size v n xs := by
  refine World.ownsRow.kept h hg ?_
  cases hv : v.ownBlock with
  | none => exact Or.inl rfl
  | some k =>
    right
    intro e
    exact ha k k e.symm hv rfl
theorem ApartV.push {w : World} {base e size n : Nat} {u v u' : Value} {xs : List Value} (ha : ApartV u v) (hv : Own w base e size v n xs) (h : u'.ownBlock = u.ownBlock ∨ ∃ j, u'.ownBlock = some j ∧ w.heap.size ≤ j) : ApartV u' v := by
  intro j k hj hk
  rcases h with h | ⟨i, hi, hw⟩
  · exact ha j k (h ▸ hj) hk
  · have := (World.ownsRow.lt hv k hk).2
    rw [hi] at hj
    injection hj with hj
    omega

def isSet (o : TOp) : Bool := o.kind == 1
theorem filter_step {x : List TOp} {k : Nat} {o : TOp} (h : x[k]? = some o) : (x.take (k + 1)).filter isSet = (x.take k).filter isSet ++ (if o.kind = 1 then [o] else []) := by
  have hl := (List.getElem?_eq_some_iff.1 h).1
  rw [List.take_succ_eq_append_getElem hl, (List.getElem?_eq_some_iff.1 h).2, List.filter_append]
  by_cases hk : o.kind = 1 <;> simp [isSet, hk]
theorem opv_app (a b : List TOp) : opv (a ++ b) = opv a ++ opv b := by simp [opv]

theorem opv_one (l : List TOp) : (opv l).all Value.oneCell' = true := by
  simp [opv, Value.oneCell']
theorem firedOf_len (reps : List Rep) (k : Nat) : (firedOf (reps.take k)).length ≤ (firedOf reps).length := by
  conv => rhs; rw [← List.take_append_drop k reps, firedOf_app, List.length_append]
  omega
theorem fired_step {reps : List Rep} {k : Nat} {r : Rep} (h : reps[k]? = some r) : firedOf (reps.take (k + 1)) = firedOf (reps.take k) ++ r.fired := by
  have hl := (List.getElem?_eq_some_iff.1 h).1
  rw [List.take_succ_eq_append_getElem hl, (List.getElem?_eq_some_iff.1 h).2, firedOf_app]
  simp [firedOf]
theorem intv_one (l : List Int) : (intv l).all Value.oneCell' = true := by simp [intv, Value.oneCell']
theorem intv_app (a b : List Int) : intv (a ++ b) = intv a ++ intv b := by simp [intv]
def ManyRel (w3 w4 : World) (S : List TOp) (T : List Int) (v9 s8 s10 ix : Value) (wr : World) : Prop :=
  ∃ (k : Nat), ix = .int .i64 k ∧ k ≤ T.length ∧ s10 = .int .u64 (lastOf (T.take k)) ∧ Hid (Own wr w3.heap.size 66 3 s8 (S.length + k) (opv (S ++ advs (T.take k)))) ∧ Hid (Own wr w4.heap.size 66 3 v9 S.length (opv S)) ∧ Hid (ApartV s8 v9) ∧ Hid (Old w3 wr) ∧ w4.heap.size ≤ wr.heap.size
theorem advs_snoc (T : List Int) (t : Int) : advs (T ++ [t]) = advs T ++ [⟨3, 0, t % 50⟩] := by simp [advs]
theorem take_snoc' {T : List Int} {k : Nat} (h : k < T.length) : T.take (k + 1) = T.take k ++ [T.getD k 0] := by
  rw [List.take_succ_eq_append_getElem h, getD_at T k 0 h]
def SumRel (w6 : World) (reps : List Rep) (s13 ix : Value) (wr : World) : Prop :=
  ∃ (k : Nat), ix = .int .i64 k ∧ k ≤ reps.length ∧ Hid (Own wr w6.heap.size 3 1 s13 (firedOf (reps.take k)).length (intv (firedOf (reps.take k)))) ∧ Hid (Old w6 wr)
def PickRel (w2 : World) (A : Option Addr) (x : List TOp) (s5 ix : Value) (wr : World) : Prop :=
  ∃ (k : Nat), ix = .int .i64 k ∧ k ≤ x.length ∧ Hid (Own wr w2.heap.size 66 3 s5 ((x.take k).filter isSet).length (opv ((x.take k).filter isSet))) ∧ Hid (Old w2 wr)
theorem picked_len (x : List TOp) (k : Nat) : ((x.take k).filter isSet).length ≤ x.length := Nat.le_trans (List.length_filter_le _ _) (by rw [List.length_take]; omega)

theorem advs_ok (T : List Int) : ∀ o ∈ advs T, o.ok := by
  intro o ho
  obtain ⟨t, _, rfl⟩ := List.mem_map.1 ho
  have := Int.emod_nonneg t (show (50 : Int) ≠ 0 by decide)
  have := Int.emod_lt_of_pos t (show (0 : Int) < 50 by decide)
  exact ⟨⟨by simp only; omega, by simp only; omega⟩, ⟨by simp only; omega, by simp only; omega⟩, by simp only; omega, by simp only; omega⟩
theorem advs_last (T : List Int) : advs [lastOf T] = [⟨3, 0, lastOf T⟩] := by
  have := lastOf_bd T
  show [(⟨3, 0, lastOf T % 50⟩ : TOp)] = _
  rw [Int.emod_eq_of_lt this.1 this.2]

set_option maxHeartbeats 2000000 in
set_option maxRecDepth 100000 in
theorem divides_ (A A2 : Option Addr) (c c2 : Nat) (l T : List Int) (w : World) (hr : Rs w A (ints l)) (hm : l.length ≤ maxLen) (hr2 : Rs w A2 (u64v T)) (hm2 : T.length ≤ maxLen) (hT : ∀ t ∈ T, 0 ≤ t ∧ t < 18446744073709551616) :
    Calls Try.prog 11 #[.slice A l.length c, .slice A2 T.length c2] w (BoolOld true w) := by
  have hS := Lib.hid (saneQ w)
  have HR := Lib.hid hr
  have HR2 := Lib.hid hr2
  have HT := Lib.hid hT
  clear hr hr2 hT
  unfold maxLen at hm2
  by_cases hbig : 20 < T.length
  · go_enter Try.func11, Try.ntmps11
    go_wp2_with fail
    refine hS.out.mono ?_
    rintro e w1 ⟨rfl, o1⟩
    have O1 := Lib.hid o1
    clear o1
    go_wp2_with fail
    go_ret
    exact ⟨rfl, O1.out⟩
  · go_enter Try.func11, Try.ntmps11
    go_wp2_with fail
    refine hS.out.mono ?_
    rintro e w1 ⟨rfl, o1⟩
    have hM := madeQ A c l w1 (HR.out.up o1) hm
    have hX := madeM_ok 120 l
    have hXl := madeM_len 120 l
    generalize madeM 120 l = x at *
    have HM := Lib.hid hM
    have HX := Lib.hid hX
    clear hM hX
    have O1 := Lib.hid o1
    clear o1
    go_wp2_with fail
    refine HM.out.mono ?_
    rintro e w2 ⟨vx, rfl, hox, o2⟩
    obtain ⟨Ax, cx, rfl, htx, hcx, _⟩ := hox.shape
    have HTX := Lib.hid htx
    have O2 := Lib.hid (O1.out.up o2)
    clear hox o2 htx
    go_wp2_with fail
    go_loopw [5, 27] (fun s5 ix wr => PickRel w2 Ax x s5 ix wr) (fun _ ix _ => x.length - (intOf ix).toNat)
    case atStart => exact ⟨0, rfl, Nat.zero_le _, Own.nil_ _ _ _ _, Old.refl _⟩
    case round =>
      obtain ⟨k, rfl, hk, HS5, HO5⟩ := hrel
      by_cases hlt : k < x.length
      · obtain ⟨o, hG⟩ : ∃ o, x[k]? = some o := ⟨_, List.getElem?_eq_getElem hlt⟩
        have hfs := filter_step hG
        have hpl := picked_len x k
        obtain ⟨b, off, rfl, hbl, hcl⟩ := (HTX.out.up HO5.out).rs.at_ (by rw [opv_length]; omega)
        obtain ⟨g0, g1, g2⟩ := opv_get x k o hG
        have c0 := hcl _ _ g0
        have c1 := hcl _ _ g1
        have c2' := hcl _ _ g2
        rw [← Nat.add_assoc] at c1 c2'
        have i1 : (0 : Int) ≤ (k : Int) := by omega
        have i2 : (k : Int) < (x.length : Int) := by omega
        clear hcl g0 g1 g2 hG hbl
        generalize (x.take k).filter isSet = S at *
        obtain ⟨kd, id, at_⟩ := o
        simp only at c0 c1 c2' hfs
        go_upto_region 9 with fail
        have oW : Old wr (wr.alloc (.cells #[.int .i64 kd, .int .i64 id, .int .u64 at_] 66)) := (Old.refl wr).alloc _
        have hb9 : (wr.alloc (.cells #[.int .i64 kd, .int .i64 id, .int .u64 at_] 66)).heap[wr.heap.size]? = some (.cells #[.int .i64 kd, .int .i64 id, .int .u64 at_] 66 (0, 0)) := heap_alloc_new wr _
        generalize wr.alloc (.cells #[.int .i64 kd, .int .i64 id, .int .u64 at_] 66) = W at *
        have n0 : W.cell? ⟨wr.heap.size, 0, none⟩ = some (.int .i64 kd) := by rw [cell_of_row W _ 0 _ _ _ hb9]; rfl
        have n1 : W.cell? ⟨wr.heap.size, 1, none⟩ = some (.int .i64 id) := by rw [cell_of_row W _ 1 _ _ _ hb9]; rfl
        have n2 : W.cell? ⟨wr.heap.size, 2, none⟩ = some (.int .u64 at_) := by rw [cell_of_row W _ 2 _ _ _ hb9]; rfl
        have HS6 := Lib.hid (HS5.out.up oW)
        have HO6 := Lib.hid (HO5.out.up oW)
        have hb6 := HO6.out.size
        clear oW hb9 c0 c1 c2'
        by_cases h1 : kd = 1
        · subst h1
          rw [if_pos rfl] at hfs
          have HFS := Lib.hid hfs
          clear hfs
          go_wp2_with (at_builtin; refine wpList_push (wr := W) rfl _ _ 59 rfl _ 66 (.agg #[.int .i64 0, .int .i64 0, .int .u64 0]) 3 24 Try.underlying59 info_to rfl (by decide) (by decide) _ _ _ rfl HS6.out 1 1 [.int .i64 1, .int .i64 id, .int .u64 at_] rfl rfl rfl rfl ?pn1 hb6 ?_)
          case pn1 => omega
          intro v' w5 ho5 hg5 hd5
          have HN := Lib.hid (show Own w5 w2.heap.size 66 3 v' (S ++ [(⟨1, id, at_⟩ : TOp)]).length (opv (S ++ [⟨1, id, at_⟩])) by rw [opv_app, List.length_append]; exact ho5)
          have HO7 := Lib.hid (hd5 w2 HO6.out (Nat.le_refl _))
          clear ho5 hg5 hd5
          go_wp2_with fail
          go_roundw
          case rel => exact ⟨k + 1, by go_num, by omega, by rw [HFS.out]; exact HN.out, HO7.out⟩
          case measure => simp [intOf]; omega
        · rw [if_neg h1, List.append_nil] at hfs
          have HFS := Lib.hid hfs
          clear hfs
          go_wp2_with fail
          go_roundw
          case rel => exact ⟨k + 1, by go_num, by omega, by rw [HFS.out]; exact HS6.out, HO6.out⟩
          case measure => simp [intOf]; omega
      · obtain rfl : k = x.length := by omega
        rw [List.take_length] at HS5
        have hpl := picked_len x x.length
        rw [List.take_length] at hpl
        have hSok : ∀ o ∈ x.filter isSet, o.kind = 1 ∧ o.ok := fun o ho => by
          obtain ⟨h1, h2⟩ := List.mem_filter.1 ho
          exact ⟨by simpa [isSet] using h2, (HX.out o h1).ok⟩
        have HSK := Lib.hid hSok
        clear hSok
        generalize x.filter isSet = S at *
        obtain ⟨As, cs, rfl, hts, hcs, _⟩ := HS5.out.shape
        have HTS := Lib.hid hts
        clear hts
        go_upto_region 12 with fail
        generalize wr = w3 at *
        go_wp2_with (at_builtin; refine wpList_pushAll rfl _ _ 59 rfl _ 66 (.agg #[.int .i64 0, .int .i64 0, .int .u64 0]) 3 24 Try.underlying59 info_to rfl (by decide) (by decide) _ _ _ (by rfl) (own_new w3 #[] 0 3 66 (by decide) rfl) _ _ _ _ (by rfl) (HTS.out.rs.alloc _) (opv_length _) (opv_one _) ?pn2 (by simp) ?_)
        case pn2 => omega
        intro v8 w4 ho4 hg4 hd4
        have HO8 := Lib.hid (show Own w4 w3.heap.size 66 3 v8 S.length (opv S) by simpa using ho4)
        have HD4 := Lib.hid (hd4 w3 ((Old.refl w3).alloc _) (Nat.le_refl _))
        have HTS4 := Lib.hid (HTS.out.up HD4.out)
        clear ho4 hg4 hd4
        go_wp2_with (at_builtin; refine wpList_pushAll rfl _ _ 59 rfl _ 66 (.agg #[.int .i64 0, .int .i64 0, .int .u64 0]) 3 24 Try.underlying59 info_to rfl (by decide) (by decide) _ _ _ (by rfl) (own_new w4 #[] 0 3 66 (by decide) rfl) _ _ _ _ (by rfl) (HTS4.out.rs.alloc _) (opv_length _) (opv_one _) ?pn3 (by simp) ?_)
        case pn3 => omega
        intro v9 w5 ho5 hg5 hd5
        have HO9 := Lib.hid (show Own w5 w4.heap.size 66 3 v9 S.length (opv S) by simpa using ho5)
        have HD5 := Lib.hid (hd5 w4 ((Old.refl w4).alloc _) (Nat.le_refl _))
        have HAP : Hid (ApartV v8 v9) := fun j k hj hk => by
          have h1 := (World.ownsRow.lt HO8.out j hj).2
          have h2 := (World.ownsRow.lt HO9.out k hk).1
          omega
        have HO85 := Lib.hid (HO8.out.up HD5.out)
        have HD35 := Lib.hid (HD4.out.up HD5.out)
        have HR5 := Lib.hid (HR2.out.up ((O2.out.up HO5.out).up HD35.out))
        clear ho5 hg5 hd5
        go_wp2_with fail
        go_loopw [8, 10, 47] (fun s8 s10 ix wr => ManyRel w3 w4 S T v9 s8 s10 ix wr) (fun _ _ ix _ => T.length - (intOf ix).toNat)
        case atStart => exact ⟨0, rfl, Nat.zero_le _, rfl, by simpa [advs, Hid] using HO85.out, HO9.out, HAP.out, HD35.out, HD5.out.size⟩
        case round =>
          obtain ⟨k, rfl, hk, rfl, H8, H9, HA, HO, hb4⟩ := hrel
          obtain ⟨A8, d8, rfl, ht8, _, _⟩ := H8.out.shape
          have hL := lastOf_bd (T.take k)
          by_cases hlt : k < T.length
          · have hts := take_snoc' hlt
            have hls := lastOf_snoc (T.take k) (T.getD k 0)
            have has := advs_snoc (T.take k) (T.getD k 0)
            rw [← hts] at hls has
            have hpos := HT.out (T.getD k 0) (by rw [getD_at T k 0 hlt]; exact List.getElem_mem hlt)
            obtain ⟨tb, tof, rfl, _, hcl⟩ := (HR2.out.up ((O2.out.up HO5.out).up HO.out)).at_ (by simp [u64v]; omega)
            have ct := hcl _ _ (u64v_get T k hlt)
            have HLS := Lib.hid hls
            have HAS := Lib.hid has
            clear hcl hts hls has ht8
            generalize T.getD k 0 = t at *
            generalize lastOf (T.take k) = la at *
            generalize advs (T.take k) = ad at *
            have i1 : (0 : Int) ≤ (k : Int) := by omega
            have i2 : (k : Int) < (T.length : Int) := by omega
            have hb3 := HO.out.size
            have hsk : S.length + k ≤ 1000 := by omega
            generalize hSl : S.length = sl at *
            have HSl := Lib.hid hSl
            clear hSl
            have hm0 := Int.emod_nonneg t (show (50 : Int) ≠ 0 by decide)
            have hm1 := Int.emod_lt_of_pos t (show (0 : Int) < 50 by decide)
            go_wp2_with (at_builtin; refine wpList_pushW (wr := wr) rfl _ _ 59 rfl _ 66 (.agg #[.int .i64 0, .int .i64 0, .int .u64 0]) 3 24 Try.underlying59 info_to rfl (by decide) (by decide) _ _ _ rfl H8.out 1 1 [.int .i64 3, .int .i64 0, .int .u64 (t % 50)] rfl rfl rfl rfl ?pnx hb3 ?_)
            case pnx => omega
            intro v' w6 ho6 hg6 hw6
            have H86 := Lib.hid ho6
            have H96 := Lib.hid (H9.out.other H8.out HA.out hg6)
            have HA6 := Lib.hid (ApartV.push HA.out H9.out hw6)
            have HO6 := Lib.hid (Own.grown_old HO.out H8.out (Nat.le_refl _) hg6)
            have hb46 : w4.heap.size ≤ w6.heap.size := Nat.le_trans hb4 hg6.size
            clear ho6 hg6 hw6
            go_wp2_with fail
            all_goals
              go_roundw
              case rel =>
                refine ⟨k + 1, by go_num, by omega, ?_, ?_, by rw [HSl.out]; exact H96.out, HA6.out, HO6.out, hb46⟩
                · rw [HLS.out]
                  congr 1
                  omega
                · have := H86.out
                  rw [HAS.out, ← List.append_assoc, opv_app (S ++ ad), HSl.out, ← Nat.add_assoc]
                  exact this
              case measure => simp [intOf]; omega
          · obtain rfl : k = T.length := by omega
            rw [List.take_length] at H8 hL
            rw [List.take_length]
            obtain ⟨A9, d9, rfl, ht9, _, _⟩ := H9.out.shape
            have hSl9 : S.length ≤ 1000 := by omega
            have HA' : Hid (ApartV (.slice A9 S.length d9) (.slice A8 (S.length + T.length) d8)) := fun j k hj hk e => HA.out k j hk hj e.symm
            have hw34 := HD4.out.size
            generalize hla : lastOf T = la at *
            have Hla := Lib.hid hla
            clear hla ht8 ht9
            go_wp2_with (at_builtin; refine wpList_pushW (wr := wr) rfl _ _ 59 rfl _ 66 (.agg #[.int .i64 0, .int .i64 0, .int .u64 0]) 3 24 Try.underlying59 info_to rfl (by decide) (by decide) _ _ _ rfl H9.out 1 1 [.int .i64 3, .int .i64 0, .int .u64 la] rfl rfl rfl rfl ?pnz hb4 ?_)
            case pnz => omega
            intro v9' w6 ho6 hg6 hw6
            have H86 := Lib.hid (H8.out.other H9.out HA'.out hg6)
            have HO6 := Lib.hid (Own.grown_old HO.out H9.out hw34 hg6)
            have H96 := Lib.hid ho6
            obtain ⟨A9', d9', rfl, ht9, _, _⟩ := ho6.shape
            have hopm : ∀ o ∈ S ++ advs T, o.ok := fun o ho => by
              rcases List.mem_append.1 ho with ho | ho
              · exact (HSK.out o ho).2
              · exact advs_ok T o ho
            have hopo : ∀ o ∈ S ++ advs [lastOf T], o.ok := fun o ho => by
              rcases List.mem_append.1 ho with ho | ho
              · exact (HSK.out o ho).2
              · exact advs_ok _ o ho
            have hlm : (S ++ advs T).length = S.length + T.length := by simp [advs]
            have hlo : (S ++ advs [lastOf T]).length = S.length + 1 := by simp [advs]
            have hts8 : Ts w6 66 A8 (opv (S ++ advs T)) := by
              obtain ⟨A', c', e', ht', _⟩ := H86.out.shape
              injection e' with e1 e2 e3
              subst e1
              exact ht'
            have hts9 : Ts w6 66 A9' (opv (S ++ advs [lastOf T])) := by
              rw [advs_last, opv_app, Hla.out]
              exact ht9
            have hP := playQ A8 d8 (S ++ advs T) w6 hts8 hopm (by omega)
            rw [hlm] at hP
            have HP := Lib.hid hP
            have HTS9 := Lib.hid hts9
            have HOPO := Lib.hid hopo
            have Hlo := Lib.hid hlo
            clear ho6 hg6 hw6 ht9 hopm hopo hlm hlo hts8 hts9 hP
            go_wp2_with fail
            refine HP.out.mono ?_
            rintro e w7 ⟨v7, cells7, rfl, ho7, hr7, hd7⟩
            have HLEN := Lib.hid (fired_len256 HSK.out T)
            have hrl := runM_len (S ++ advs T)
            generalize hRp : (runM (S ++ advs T)).2 = reps at *
            have HRp := Lib.hid hRp
            obtain ⟨A7, d7, rfl, ht7, _, _⟩ := ho7.shape
            have HRS := Lib.hid hr7.repS
            have HR7 := Lib.hid ht7
            have HD67 := Lib.hid hd7
            have hrl' : reps.length ≤ 2000 := by rw [hrl]; simp [advs]; omega
            clear ho7 hr7 hd7 ht7 hRp hrl
            go_wp2_with fail
            go_loopw [13, 70] (fun s13 ix wr => SumRel w7 reps s13 ix wr) (fun _ ix _ => reps.length - (intOf ix).toNat)
            case atStart => exact ⟨0, rfl, Nat.zero_le _, Own.nil_ _ _ _ _, Old.refl _⟩
            case round =>
              obtain ⟨k, rfl, hk, H13, HO⟩ := hrel
              obtain ⟨A13, d13, rfl, ht13, _, _⟩ := H13.out.shape
              by_cases hlt : k < reps.length
              · obtain ⟨r, hG⟩ : ∃ r, reps[k]? = some r := ⟨_, List.getElem?_eq_getElem hlt⟩
                have hfs := fired_step hG
                have hl2 := firedOf_len reps (k + 1)
                rw [hfs, List.length_append] at hl2
                have hl3 := Nat.le_trans hl2 HLEN.out
                obtain ⟨Fa, fc, y0, y1, y2, y3, y4, y5⟩ := HRS.out.2 k r hG
                have hO7 := HR7.out.up HO.out
                obtain ⟨ob, oof, rfl, _, hcl⟩ := hO7.rs.at_ (by rw [HRS.out.1]; omega)
                have c0 := hcl _ _ y0
                have c1 := hcl _ _ y1
                have c2' := hcl _ _ y2
                rw [← Nat.add_assoc] at c1 c2'
                have i1 : (0 : Int) ≤ (k : Int) := by omega
                have i2 : (k : Int) < (reps.length : Int) := by omega
                have HFS := Lib.hid hfs
                have hrf := y3.up HO.out
                clear hcl hO7 hfs hl2 y0 y1 y2 y3 hG ht13
                generalize firedOf (reps.take k) = fs at *
                obtain ⟨rc, rf, rt⟩ := r
                simp only at c0 c1 c2' hl3 hrf y4
                go_upto_region 25 with fail
                have oW : Old wr (wr.alloc (.cells #[.int .i64 rc, .slice Fa rf.length fc, .int .u64 rt] 71)) := (Old.refl wr).alloc _
                have hb9 : (wr.alloc (.cells #[.int .i64 rc, .slice Fa rf.length fc, .int .u64 rt] 71)).heap[wr.heap.size]? = some (.cells #[.int .i64 rc, .slice Fa rf.length fc, .int .u64 rt] 71 (0, 0)) := heap_alloc_new wr _
                generalize wr.alloc (.cells #[.int .i64 rc, .slice Fa rf.length fc, .int .u64 rt] 71) = W at *
                have n1 : W.cell? ⟨wr.heap.size, 1, none⟩ = some (.slice Fa rf.length fc) := by rw [cell_of_row W _ 1 _ _ _ hb9]; rfl
                have H13' := Lib.hid (H13.out.up oW)
                have HO' := Lib.hid (HO.out.up oW)
                have hbW := HO'.out.size
                have HRF := Lib.hid (hrf.up oW)
                clear oW hb9 c0 c1 c2' hrf
                go_wp2_with (at_builtin; refine wpList_pushAll rfl _ _ 22 rfl _ 3 (.int .i64 0) 1 8 Try.underlying22 info_i64 rfl (by decide) (by decide) _ _ _ (by rfl) H13'.out _ _ _ _ (by rfl) HRF.out (by rw [intv_length, Nat.mul_one]) (intv_one _) ?pn4 hbW ?_)
                case pn4 => omega
                intro v' w8 ho8 hg8 hd8
                have H138 := Lib.hid ho8
                have HO8' := Lib.hid (hd8 w7 HO'.out (Nat.le_refl _))
                clear ho8 hg8 hd8
                go_wp2_with fail
                go_roundw
                case rel => exact ⟨k + 1, by go_num, by omega, by rw [HFS.out, List.length_append, intv_app]; exact H138.out, HO8'.out⟩
                case measure => simp [intOf]; omega
              · obtain rfl : k = reps.length := by omega
                rw [List.take_length] at H13 ⊢
                have HL13 := Lib.hid (show (firedOf reps).length ≤ 256 from HLEN.out)
                clear ht13
                generalize wr = w9 at *
                have hP2 := playQ A9' d9' (S ++ advs [lastOf T]) w9 (HTS9.out.up (HD67.out.up HO.out)) HOPO.out (by rw [Hlo.out]; omega)
                rw [Hlo.out] at hP2
                have HP2 := Lib.hid hP2
                have H13a := Lib.hid H13.out
                have HO69 := Lib.hid (HO6.out.up (HD67.out.up HO.out))
                clear hP2 HLEN HRS HR7
                go_wp2_with fail
                refine HP2.out.mono ?_
                rintro e w10 ⟨v10, cells10, rfl, ho7, hr7, hd7⟩
                have HLEN := Lib.hid (fired_len256 HSK.out [lastOf T])
                have hrl := runM_len (S ++ advs [lastOf T])
                have HEQ := Lib.hid (fun (h : T ≠ []) => divides HSK.out h (lastOf_bd T).1)
                rw [HRp.out, ← advs_last] at HEQ
                have HB1 := HL13
                generalize firedOf reps = fa at *
                clear H13 HL13 HRp
                generalize reps.length = nr at *
                clear hk hlt HO
                generalize hRp2 : (runM (S ++ advs [lastOf T])).2 = reps at *
                obtain ⟨A7, d7, rfl, ht7, _, _⟩ := ho7.shape
                have HRS := Lib.hid hr7.repS
                have HR7 := Lib.hid ht7
                have HD910 := Lib.hid hd7
                have H13b := Lib.hid (H13a.out.up hd7)
                have hrl' : reps.length ≤ 2000 := by rw [hrl]; simp [advs]; omega
                clear ho7 hr7 hd7 ht7 hrl H13a hRp2
                go_wp2_with fail
                go_loopw [14, 82] (fun s13 ix wr => SumRel w10 reps s13 ix wr) (fun _ ix _ => reps.length - (intOf ix).toNat)
                case atStart => exact ⟨0, rfl, Nat.zero_le _, Own.nil_ _ _ _ _, Old.refl _⟩
                case round =>
                  obtain ⟨k, rfl, hk, H13, HO⟩ := hrel
                  obtain ⟨A13, d13, rfl, ht13, _, _⟩ := H13.out.shape
                  by_cases hlt : k < reps.length
                  · obtain ⟨r, hG⟩ : ∃ r, reps[k]? = some r := ⟨_, List.getElem?_eq_getElem hlt⟩
                    have hfs := fired_step hG
                    have hl2 := firedOf_len reps (k + 1)
                    rw [hfs, List.length_append] at hl2
                    have hl3 := Nat.le_trans hl2 HLEN.out
                    obtain ⟨Fa, fc, y0, y1, y2, y3, y4, y5⟩ := HRS.out.2 k r hG
                    have hO7 := HR7.out.up HO.out
                    obtain ⟨ob, oof, rfl, _, hcl⟩ := hO7.rs.at_ (by rw [HRS.out.1]; omega)
                    have c0 := hcl _ _ y0
                    have c1 := hcl _ _ y1
                    have c2' := hcl _ _ y2
                    rw [← Nat.add_assoc] at c1 c2'
                    have i1 : (0 : Int) ≤ (k : Int) := by omega
                    have i2 : (k : Int) < (reps.length : Int) := by omega
                    have HFS := Lib.hid hfs
                    have hrf := y3.up HO.out
                    clear hcl hO7 hfs hl2 y0 y1 y2 y3 hG ht13
                    generalize firedOf (reps.take k) = fs at *
                    obtain ⟨rc, rf, rt⟩ := r
                    simp only at c0 c1 c2' hl3 hrf y4
                    go_upto_region 30 with fail
                    have oW : Old wr (wr.alloc (.cells #[.int .i64 rc, .slice Fa rf.length fc, .int .u64 rt] 71)) := (Old.refl wr).alloc _
                    have hb9 : (wr.alloc (.cells #[.int .i64 rc, .slice Fa rf.length fc, .int .u64 rt] 71)).heap[wr.heap.size]? = some (.cells #[.int .i64 rc, .slice Fa rf.length fc, .int .u64 rt] 71 (0, 0)) := heap_alloc_new wr _
                    generalize wr.alloc (.cells #[.int .i64 rc, .slice Fa rf.length fc, .int .u64 rt] 71) = W at *
                    have n1 : W.cell? ⟨wr.heap.size, 1, none⟩ = some (.slice Fa rf.length fc) := by rw [cell_of_row W _ 1 _ _ _ hb9]; rfl
                    have H13' := Lib.hid (H13.out.up oW)
                    have HO' := Lib.hid (HO.out.up oW)
                    have hbW := HO'.out.size
                    have HRF := Lib.hid (hrf.up oW)
                    clear oW hb9 c0 c1 c2' hrf
                    go_wp2_with (at_builtin; refine wpList_pushAll rfl _ _ 22 rfl _ 3 (.int .i64 0) 1 8 Try.underlying22 info_i64 rfl (by decide) (by decide) _ _ _ (by rfl) H13'.out _ _ _ _ (by rfl) HRF.out (by rw [intv_length, Nat.mul_one]) (intv_one _) ?pn5 hbW ?_)
                    case pn5 => omega
                    intro v' w8 ho8 hg8 hd8
                    have H138 := Lib.hid ho8
                    have HO8' := Lib.hid (hd8 w10 HO'.out (Nat.le_refl _))
                    clear ho8 hg8 hd8
                    go_wp2_with fail
                    go_roundw
                    case rel => exact ⟨k + 1, by go_num, by omega, by rw [HFS.out, List.length_append, intv_app]; exact H138.out, HO8'.out⟩
                    case measure => simp [intOf]; omega
                  · obtain rfl : k = reps.length := by omega
                    rw [List.take_length] at H13 ⊢
                    have HL13 := Lib.hid (show (firedOf reps).length ≤ 256 from HLEN.out)
                    clear ht13
                    have hsi := fun d d' => sameInts _ _ d d' fa (firedOf reps) wr (H13b.out.up HO.out).rsV H13.out.rsV (by unfold maxLen; have := HB1.out; omega) (by unfold maxLen; have := HL13.out; omega)
                    have HOF := Lib.hid ((O2.out.up HO5.out).up (HO69.out.up (HD910.out.up HO.out)))
                    cases T with
                    | nil =>
                      clear hsi
                      go_wp2_with fail
                      go_ret
                      exact ⟨rfl, HOF.out⟩
                    | cons t0 T0 =>
                      have he := HEQ.out (by simp)
                      rw [decide_eq_true he] at hsi
                      have HSI := Lib.hid hsi
                      have hn0 : (((t0 :: T0).length : Int) == 0) = false := by
                        have : ((t0 :: T0).length : Int) ≠ 0 := by simp; omega
                        simpa using this
                      clear hsi he
                      generalize t0 :: T0 = T at *
                      go_wp2_with fail
                      refine (HSI.out _ _).mono ?_
                      rintro e w11 ⟨rfl, n11, rfl⟩
                      go_wp2_with fail
                      go_ret
                      exact ⟨rfl, HOF.out.drewN n11⟩
end Go.Proofs.Ytlpaemlgmmmbmaa
