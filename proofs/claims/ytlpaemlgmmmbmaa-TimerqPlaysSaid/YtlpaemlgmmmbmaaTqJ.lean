/-
  The walk of the reference's without.
-/
import Derived.Test.YtlpaemlgmmmbmaaTqI
import Derived.Test.YtlpaemlgmmmbmaaRegInvB
namespace Go.Proofs.Ytlpaemlgmmmbmaa
open Go.RowKit Go.Maps
set_option linter.unusedVariables false

theorem run_slice_toS {P : Program} {t : TypeId} {sz : Nat} (ht : P.underlying t = some (.slice (P.elem t))) (hs : ∀ w : World, (sizeOf (P.elem t)).run P w = .ok sz w) (A : Option Addr) (len c hi : Nat) (H : Int) (hH : H = (hi : Int)) (h : hi ≤ c) (w : World) :
    (Instr.slice t (.slice A len c) none (some (.int .i64 H)) none).run P w = .ok (.slice A hi c) w := by
  subst hH
  rw [run_slice_h (P := P) w t A len c ht .i64 (hi : Int) (by omega) (by omega), hs]
  simp only [Result.andThen, sliced, Int.toNat_natCast, Nat.zero_mul, Nat.sub_zero]
  by_cases h0 : c = 0
  · rw [if_pos h0]
  · rw [if_neg h0]
    cases A with
    | none => rfl
    | some a => obtain ⟨b, off, p⟩ := a; simp [Addr.add]
theorem run_slice_fromS {P : Program} {t : TypeId} {sz : Nat} (ht : P.underlying t = some (.slice (P.elem t))) (hs : ∀ w : World, (sizeOf (P.elem t)).run P w = .ok sz w) (A : Option Addr) (len c lo : Nat) (L : Int) (hL : L = (lo : Int)) (h : lo ≤ len) (w : World) :
    (Instr.slice t (.slice A len c) (some (.int .i64 L)) none none).run P w = .ok (.slice (if c = lo then A else A.map (·.add (lo * sz))) (len - lo) (c - lo)) w := by
  subst hL
  rw [run_slice_l (P := P) w t A len c ht .i64 (lo : Int) (by omega) (by omega), hs]
  simp only [Result.andThen, sliced, Int.toNat_natCast]

section
variable {P : Program} {ops : Array Oper} {o : Oper} {a : Act} {K : Act → World → Prop} {Q : Exit → Act → World → Prop} {E : Prop}
/-- append of all of a slice that reads, at a step of a region that draws. -/
theorem step_appW (w : World) (hgd : o.guard = none) (s x : Operand) (t : TypeId)
    (ho : o.op = .call { callee := .builtin .append, args := #[s, x], argTypes := #[t, t] })
    (base : Nat) (e : TypeId) (z : Value) (size bytes : Nat) (ht : P.underlying t = some (.slice e))
    (hi : (P.info? e).map (fun i => (i.zero, i.size, i.bytes)) = some (some z, size, bytes)) (hzs : z.cells.size = size) (hsz : 0 < size) (hby : bytes ≤ 1024)
    (v : Value) (n : Nat) (xs : List Value) (hs : a.eval s = v) (hown : Own w base e size v n xs)
    (b off m c : Nat) (news : List Value) (hx : a.eval x = .slice (some ⟨b, off, none⟩) m c) (hr : Rs w (some ⟨b, off, none⟩) news) (hl : news.length = m * size) (h1 : news.all Value.oneCell' = true)
    (hn : n + m ≤ 68719476736) (hbase : base ≤ w.heap.size)
    (h : ∀ v' w', Own w' base e size v' (n + m) (xs ++ news) → w.grownBy w' v.ownBlock → (v'.ownBlock = v.ownBlock ∨ ∃ j, v'.ownBlock = some j ∧ w.heap.size ≤ j) → K (a.put o.dst v') w') :
    if Region.wanted o (yielded ops a.tmps) = true then Oper.wp P o a w K Q else E := by
  have hw : Region.wanted o (yielded ops a.tmps) = true := by simp [Region.wanted, hgd]
  rw [if_pos hw]
  obtain ⟨i, hii, hz, hsize, hbb⟩ := info_parts hi
  have hb2 : (n + m) * bytes ≤ 68719476736 * 1024 := Nat.mul_le_mul hn hby
  obtain ⟨v', w', hr, h2, h3, _, h5⟩ := run_append_own_at (P := P) w base t o.type e i z size bytes ht hii hz hsize hbb hzs hsz v n xs hown ⟨b, off, none⟩ m c news hl (fun j u hu => by rw [Addr.add_lit]; exact hr.cellAt hu) (fun u hu => List.all_eq_true.1 h1 u hu)
    (by unfold maxLen; omega) (by omega) hbase
  unfold Oper.wp
  simp only [execOp, ho, resolve, invoke, builtin, Sem.run_bind, Sem.run_pure, Result.andThen_ok, List.map_toArray, List.map_cons, List.map_nil, hs, hx, hr]
  refine h v' w' h2 h3 ?_
  rcases h5 with h5 | h5
  · exact Or.inl h5
  · exact Or.inr ⟨_, h5, Nat.le_refl _⟩
end
theorem take_drop_erase (R : List Tm) (i : Nat) : R.take i ++ R.drop (i + 1) = R.eraseIdx i := (List.eraseIdx_eq_take_drop_succ R i).symm
def WI (w : World) (b off o2 c i : Nat) (R : List Tm) (listed : Array Bool) (a : Act) (ww : World) : Prop :=
  ∃ (b0 b1 b2 b3 b4 b5 b6 b7 b8 b9 b10 : Bool) (kb : Nat) (v9 v14 : Value), listed = #[b0, b1, b2, b3, b4, b5, b6, b7, b8, b9, b10] ∧
    a = { tmps := #[.slice (some ⟨b, off, none⟩) R.length c, .int .i64 i, undef, undef, cond b10 (v14) (.slice none 0 0), cond b0 (.slice (some ⟨kb, 0, none⟩) 0 0) (undef), cond b1 (.slice (some ⟨b, off, none⟩) R.length c) (undef), cond b2 (.int .i64 i) (undef), cond b3 (.slice (some ⟨b, off, none⟩) i c) (undef), cond b4 (v9) (undef), cond b5 (.slice (some ⟨b, off, none⟩) R.length c) (undef), cond b6 (.int .i64 i) (undef), cond b7 (.int .i64 ((i : Int) + 1)) (undef), cond b8 (.slice (some ⟨b, o2, none⟩) (R.length - (i + 1)) (c - (i + 1))) (undef), cond b9 (v14) (undef)], defers := [] } ∧ (cond b9 (Own ww w.heap.size 117 2 v14 (R.eraseIdx i).length (rcells (R.eraseIdx i))) (((b0 && !b4) = true → Own ww w.heap.size 117 2 (.slice (some ⟨kb, 0, none⟩) 0 0) 0 []) ∧ (b4 = true → Own ww w.heap.size 117 2 v9 i (rcells (R.take i))))) ∧ Old w ww

def MadeR (w : World) (R : List Tm) (e : Ending) (w' : World) : Prop := ∃ v, e = .returned v ∧ Own w' w.heap.size 117 2 v R.length (rcells R) ∧ Old w w'
set_option maxHeartbeats 2000000 in
set_option maxRecDepth 100000 in
theorem withoutQ (b off c : Nat) (R : List Tm) (i : Nat) (w : World) (hr : Ts w 117 (some ⟨b, off, none⟩) (rcells R)) (hi : i < R.length) (hc : R.length ≤ c) (hcm : c ≤ maxLen) (hm : R.length ≤ 1000) :
    Calls Try.prog 64 #[.slice (some ⟨b, off, none⟩) R.length c, .int .i64 i] w (MadeR w (R.eraseIdx i)) := by
  unfold maxLen at hcm
  have sl1 := fun W => run_slice_toS (P := Try.prog) (t := 103) (sz := 2) (by kernel_rfl) (fun _ => rfl) (some ⟨b, off, none⟩) R.length c i (i : Int) rfl (by omega) W
  have sl2 := fun W => run_slice_fromS (P := Try.prog) (t := 103) (sz := 2) (by kernel_rfl) (fun _ => rfl) (some ⟨b, off, none⟩) R.length c (i + 1) ((i : Int) + 1) (by omega) (by omega) W
  have hcut := hr.rs.cut (n := R.length) (c := c) (k := i + 1) (size := 2) (rcells_length R) hc (by omega)
  rw [rcells_drop] at hcut
  have htk := hr.rs.take (i * 2)
  rw [rcells_take] at htk
  obtain ⟨o2, ho2⟩ : ∃ o2, (if c = i + 1 then (some ⟨b, off, none⟩ : Option Addr) else (some (⟨b, off, none⟩ : Addr)).map (·.add ((i + 1) * 2))) = some ⟨b, o2, none⟩ := by
    by_cases h : c = i + 1
    · exact ⟨off, by rw [if_pos h]⟩
    · exact ⟨off + (i + 1) * 2, by rw [if_neg h]; simp [Addr.add_lit]⟩
  rw [ho2] at sl2 hcut
  have HT := Lib.hid htk
  have HC := Lib.hid hcut
  have hlt : (R.take i).length = i := by rw [List.length_take]; omega
  have hld : (R.drop (i + 1)).length = R.length - (i + 1) := by rw [List.length_drop]
  have hle : (R.eraseIdx i).length = i + (R.length - (i + 1)) := by rw [List.length_eraseIdx, if_pos hi]; omega
  have Hlt := Lib.hid hlt
  have Hld := Lib.hid hld
  have Hle := Lib.hid hle
  have wi : IntKind.i64.wrap ((i : Int) + 1) = (i : Int) + 1 := IntWalk.i64_in _ (by omega)
  clear ho2 hcut htk hlt hld hle hr

  go_enter Try.func64, Try.ntmps64
  go_wp2_with fail
  refine wp_region_steps2 (by kernel_rfl) (by kernel_rfl) (WI w b off o2 c i R) ?_ ?_ ⟨?_, ?_, ?_, ?_, ?_, ?_, ?_, ?_, ?_, ?_, ?_, trivial⟩
  · exact ⟨false, false, false, false, false, false, false, false, false, false, false, 0, undef, undef, rfl, rfl, ⟨⟨(fun h => by cases h), (fun h => by cases h)⟩, (Old.refl w).drew⟩⟩
  · rintro a w1 ⟨b0, b1, b2, b3, b4, b5, b6, b7, b8, b9, b10, kb, v9, v14, hl, rfl, hF⟩
    have hl' := congrArg Array.toList hl
    simp at hl'
    obtain ⟨rfl, rfl, rfl, rfl, rfl, rfl, rfl, rfl, rfl, rfl, rfl⟩ := hl'
    have hF1 : Own w1 w.heap.size 117 2 v14 (R.eraseIdx i).length (rcells (R.eraseIdx i)) := hF.1
    have HF1 := Lib.hid (And.intro hF1 hF.2)
    clear hF hF1
    go_wp2_with fail
    go_ret
    exact ⟨_, rfl, HF1.out.1, HF1.out.2⟩
  · intro listed a w1 K hs hcl hf hall hI hK
    obtain ⟨b0, b1, b2, b3, b4, b5, b6, b7, b8, b9, b10, kb, v9, v14, rfl, rfl, hF⟩ := hI
    have hf' : b0 = false := hf
    subst hf'
    have hb4 : b4 = false := by
      cases b4
      · rfl
      · exact absurd (show false = true from hcl 4 _ rfl rfl ⟨0, .data⟩ (by first | exact .head _ | simp) rfl) (by decide)
    subst hb4
    have hb10 : b10 = false := by
      cases b10
      · rfl
      · exact absurd (show false = true from hcl 10 _ rfl rfl ⟨0, .phase⟩ (by first | exact .head _ | simp) rfl) (by decide)
    subst hb10
    have hb9 : b9 = false := by
      cases b9
      · rfl
      · exact absurd (show false = true from hcl 9 _ rfl rfl ⟨4, .data⟩ (by first | exact .head _ | simp) rfl) (by decide)
    subst hb9
    clear hall hcl hs hf
    go_simp
    exact hK _ _ ⟨true, b1, b2, b3, false, b5, b6, b7, b8, false, false, w1.heap.size, v9, v14, rfl, rfl, ⟨⟨fun _ => (own_new w1 #[] 0 2 117 (by decide) rfl).base hF.2.size, (fun h => by cases h)⟩, hF.2.alloc _⟩⟩
  · intro listed a w1 K hs hcl hf hall hI hK
    obtain ⟨b0, b1, b2, b3, b4, b5, b6, b7, b8, b9, b10, kb, v9, v14, rfl, rfl, hF⟩ := hI
    have hf' : b1 = false := hf
    subst hf'
    have hb3 : b3 = false := by
      cases b3
      · rfl
      · exact absurd (show false = true from hcl 3 _ rfl rfl ⟨1, .data⟩ (by first | exact .head _ | simp) rfl) (by decide)
    subst hb3
    have hb10 : b10 = false := by
      cases b10
      · rfl
      · exact absurd (show false = true from hcl 10 _ rfl rfl ⟨1, .phase⟩ (by first | exact .head _ | simp) rfl) (by decide)
    subst hb10
    have hb4 : b4 = false := by
      cases b4
      · rfl
      · exact absurd (show false = true from hcl 4 _ rfl rfl ⟨3, .data⟩ (by first | exact .head _ | simp) rfl) (by decide)
    subst hb4
    have hb9 : b9 = false := by
      cases b9
      · rfl
      · exact absurd (show false = true from hcl 9 _ rfl rfl ⟨4, .data⟩ (by first | exact .head _ | simp) rfl) (by decide)
    subst hb9
    clear hall hcl hs hf
    go_simp
    exact hK _ _ ⟨b0, true, b2, false, false, b5, b6, b7, b8, false, false, kb, v9, v14, rfl, rfl, hF⟩
  · intro listed a w1 K hs hcl hf hall hI hK
    obtain ⟨b0, b1, b2, b3, b4, b5, b6, b7, b8, b9, b10, kb, v9, v14, rfl, rfl, hF⟩ := hI
    have hf' : b2 = false := hf
    subst hf'
    have hb3 : b3 = false := by
      cases b3
      · rfl
      · exact absurd (show false = true from hcl 3 _ rfl rfl ⟨2, .data⟩ (by first | exact .head _ | simp) rfl) (by decide)
    subst hb3
    have hb10 : b10 = false := by
      cases b10
      · rfl
      · exact absurd (show false = true from hcl 10 _ rfl rfl ⟨2, .phase⟩ (by first | exact .head _ | simp) rfl) (by decide)
    subst hb10
    have hb4 : b4 = false := by
      cases b4
      · rfl
      · exact absurd (show false = true from hcl 4 _ rfl rfl ⟨3, .data⟩ (by first | exact .head _ | simp) rfl) (by decide)
    subst hb4
    have hb9 : b9 = false := by
      cases b9
      · rfl
      · exact absurd (show false = true from hcl 9 _ rfl rfl ⟨4, .data⟩ (by first | exact .head _ | simp) rfl) (by decide)
    subst hb9
    clear hall hcl hs hf
    go_simp
    exact hK _ _ ⟨b0, b1, true, false, false, b5, b6, b7, b8, false, false, kb, v9, v14, rfl, rfl, hF⟩
  · intro listed a w1 K hs hcl hf hall hI hK
    obtain ⟨b0, b1, b2, b3, b4, b5, b6, b7, b8, b9, b10, kb, v9, v14, rfl, rfl, hF⟩ := hI
    have hf' : b3 = false := hf
    subst hf'
    have hq1 : b1 = true := hall ⟨1, .data⟩ (by first | exact .head _ | simp) rfl
    subst hq1
    have hq2 : b2 = true := hall ⟨2, .data⟩ (by first | exact .head _ | simp) rfl
    subst hq2
    have hb4 : b4 = false := by
      cases b4
      · rfl
      · exact absurd (show false = true from hcl 4 _ rfl rfl ⟨3, .data⟩ (by first | exact .head _ | simp) rfl) (by decide)
    subst hb4
    have hb10 : b10 = false := by
      cases b10
      · rfl
      · exact absurd (show false = true from hcl 10 _ rfl rfl ⟨3, .phase⟩ (by first | exact .head _ | simp) rfl) (by decide)
    subst hb10
    have hb9 : b9 = false := by
      cases b9
      · rfl
      · exact absurd (show false = true from hcl 9 _ rfl rfl ⟨4, .data⟩ (by first | exact .head _ | simp) rfl) (by decide)
    subst hb9
    clear hall hcl hs hf
    go_simp
    exact hK _ _ ⟨b0, true, true, true, false, b5, b6, b7, b8, false, false, kb, v9, v14, rfl, rfl, hF⟩
  · intro listed a w1 K hs hcl hf hall hI hK
    obtain ⟨b0, b1, b2, b3, b4, b5, b6, b7, b8, b9, b10, kb, v9, v14, rfl, rfl, hF⟩ := hI
    have hf' : b4 = false := hf
    subst hf'
    have hq0 : b0 = true := hall ⟨0, .data⟩ (by first | exact .head _ | simp) rfl
    subst hq0
    have hq3 : b3 = true := hall ⟨3, .data⟩ (by first | exact .head _ | simp) rfl
    subst hq3
    have hq1 : b1 = true := hcl 3 _ rfl rfl ⟨1, .data⟩ (by first | exact .head _ | simp) rfl
    subst hq1
    have hq2 : b2 = true := hcl 3 _ rfl rfl ⟨2, .data⟩ (by first | exact .head _ | simp) rfl
    subst hq2
    have hb9 : b9 = false := by
      cases b9
      · rfl
      · exact absurd (show false = true from hcl 9 _ rfl rfl ⟨4, .data⟩ (by first | exact .head _ | simp) rfl) (by decide)
    subst hb9
    have hb10 : b10 = false := by
      cases b10
      · rfl
      · exact absurd (show false = true from hcl 10 _ rfl rfl ⟨4, .phase⟩ (by first | exact .head _ | simp) rfl) (by decide)
    subst hb10
    clear hall hcl hs hf
    have hown := hF.1.1 rfl
    refine step_appW w1 (by rfl) _ _ 103 (by rfl) w.heap.size 117 (.agg #[.int .i64 0, .int .u64 0]) 2 16 Try.underlying103 info_rt rfl (by decide) (by decide) (.slice (some ⟨kb, 0, none⟩) 0 0) 0 [] (by rfl) hown b off i c (rcells (R.take i)) (by rfl) (HT.out.up hF.2) (by rw [rcells_length, Hlt.out]) (rcells_one _) (by omega) hF.2.size ?_
    intro v' w' ho hg hw
    exact hK _ _ ⟨true, true, true, true, true, b5, b6, b7, b8, false, false, kb, v', v14, rfl, rfl, ⟨(fun h => by cases h), fun _ => (by rw [Nat.zero_add, List.nil_append] at ho; exact ho)⟩, Own.grown_old hF.2 hown (Nat.le_refl _) hg⟩
  · intro listed a w1 K hs hcl hf hall hI hK
    obtain ⟨b0, b1, b2, b3, b4, b5, b6, b7, b8, b9, b10, kb, v9, v14, rfl, rfl, hF⟩ := hI
    have hf' : b5 = false := hf
    subst hf'
    have hb8 : b8 = false := by
      cases b8
      · rfl
      · exact absurd (show false = true from hcl 8 _ rfl rfl ⟨5, .data⟩ (by first | exact .head _ | simp) rfl) (by decide)
    subst hb8
    have hb10 : b10 = false := by
      cases b10
      · rfl
      · exact absurd (show false = true from hcl 10 _ rfl rfl ⟨5, .phase⟩ (by first | exact .head _ | simp) rfl) (by decide)
    subst hb10
    have hb9 : b9 = false := by
      cases b9
      · rfl
      · exact absurd (show false = true from hcl 9 _ rfl rfl ⟨8, .data⟩ (by first | exact .head _ | simp) rfl) (by decide)
    subst hb9
    clear hall hcl hs hf
    go_simp
    exact hK _ _ ⟨b0, b1, b2, b3, b4, true, b6, b7, false, false, false, kb, v9, v14, rfl, rfl, hF⟩
  · intro listed a w1 K hs hcl hf hall hI hK
    obtain ⟨b0, b1, b2, b3, b4, b5, b6, b7, b8, b9, b10, kb, v9, v14, rfl, rfl, hF⟩ := hI
    have hf' : b6 = false := hf
    subst hf'
    have hb7 : b7 = false := by
      cases b7
      · rfl
      · exact absurd (show false = true from hcl 7 _ rfl rfl ⟨6, .data⟩ (by first | exact .head _ | simp) rfl) (by decide)
    subst hb7
    have hb10 : b10 = false := by
      cases b10
      · rfl
      · exact absurd (show false = true from hcl 10 _ rfl rfl ⟨6, .phase⟩ (by first | exact .head _ | simp) rfl) (by decide)
    subst hb10
    have hb8 : b8 = false := by
      cases b8
      · rfl
      · exact absurd (show false = true from hcl 8 _ rfl rfl ⟨7, .data⟩ (by first | exact .head _ | simp) rfl) (by decide)
    subst hb8
    have hb9 : b9 = false := by
      cases b9
      · rfl
      · exact absurd (show false = true from hcl 9 _ rfl rfl ⟨8, .data⟩ (by first | exact .head _ | simp) rfl) (by decide)
    subst hb9
    clear hall hcl hs hf
    go_simp
    exact hK _ _ ⟨b0, b1, b2, b3, b4, b5, true, false, false, false, false, kb, v9, v14, rfl, rfl, hF⟩
  · intro listed a w1 K hs hcl hf hall hI hK
    obtain ⟨b0, b1, b2, b3, b4, b5, b6, b7, b8, b9, b10, kb, v9, v14, rfl, rfl, hF⟩ := hI
    have hf' : b7 = false := hf
    subst hf'
    have hq6 : b6 = true := hall ⟨6, .data⟩ (by first | exact .head _ | simp) rfl
    subst hq6
    have hb8 : b8 = false := by
      cases b8
      · rfl
      · exact absurd (show false = true from hcl 8 _ rfl rfl ⟨7, .data⟩ (by first | exact .head _ | simp) rfl) (by decide)
    subst hb8
    have hb10 : b10 = false := by
      cases b10
      · rfl
      · exact absurd (show false = true from hcl 10 _ rfl rfl ⟨7, .phase⟩ (by first | exact .head _ | simp) rfl) (by decide)
    subst hb10
    have hb9 : b9 = false := by
      cases b9
      · rfl
      · exact absurd (show false = true from hcl 9 _ rfl rfl ⟨8, .data⟩ (by first | exact .head _ | simp) rfl) (by decide)
    subst hb9
    clear hall hcl hs hf
    go_simp
    exact hK _ _ ⟨b0, b1, b2, b3, b4, b5, true, true, false, false, false, kb, v9, v14, rfl, rfl, hF⟩
  · intro listed a w1 K hs hcl hf hall hI hK
    obtain ⟨b0, b1, b2, b3, b4, b5, b6, b7, b8, b9, b10, kb, v9, v14, rfl, rfl, hF⟩ := hI
    have hf' : b8 = false := hf
    subst hf'
    have hq5 : b5 = true := hall ⟨5, .data⟩ (by first | exact .head _ | simp) rfl
    subst hq5
    have hq7 : b7 = true := hall ⟨7, .data⟩ (by first | exact .head _ | simp) rfl
    subst hq7
    have hq6 : b6 = true := hcl 7 _ rfl rfl ⟨6, .data⟩ (by first | exact .head _ | simp) rfl
    subst hq6
    have hb9 : b9 = false := by
      cases b9
      · rfl
      · exact absurd (show false = true from hcl 9 _ rfl rfl ⟨8, .data⟩ (by first | exact .head _ | simp) rfl) (by decide)
    subst hb9
    have hb10 : b10 = false := by
      cases b10
      · rfl
      · exact absurd (show false = true from hcl 10 _ rfl rfl ⟨8, .phase⟩ (by first | exact .head _ | simp) rfl) (by decide)
    subst hb10
    clear hall hcl hs hf
    go_simp
    exact hK _ _ ⟨b0, b1, b2, b3, b4, true, true, true, true, false, false, kb, v9, v14, rfl, rfl, hF⟩
  · intro listed a w1 K hs hcl hf hall hI hK
    obtain ⟨b0, b1, b2, b3, b4, b5, b6, b7, b8, b9, b10, kb, v9, v14, rfl, rfl, hF⟩ := hI
    have hf' : b9 = false := hf
    subst hf'
    have hq4 : b4 = true := hall ⟨4, .data⟩ (by first | exact .head _ | simp) rfl
    subst hq4
    have hq8 : b8 = true := hall ⟨8, .data⟩ (by first | exact .head _ | simp) rfl
    subst hq8
    have hq0 : b0 = true := hcl 4 _ rfl rfl ⟨0, .data⟩ (by first | exact .head _ | simp) rfl
    subst hq0
    have hq3 : b3 = true := hcl 4 _ rfl rfl ⟨3, .data⟩ (by first | exact .head _ | simp) rfl
    subst hq3
    have hq5 : b5 = true := hcl 8 _ rfl rfl ⟨5, .data⟩ (by first | exact .head _ | simp) rfl
    subst hq5
    have hq7 : b7 = true := hcl 8 _ rfl rfl ⟨7, .data⟩ (by first | exact .head _ | simp) rfl
    subst hq7
    have hq1 : b1 = true := hcl 3 _ rfl rfl ⟨1, .data⟩ (by first | exact .head _ | simp) rfl
    subst hq1
    have hq2 : b2 = true := hcl 3 _ rfl rfl ⟨2, .data⟩ (by first | exact .head _ | simp) rfl
    subst hq2
    have hq6 : b6 = true := hcl 7 _ rfl rfl ⟨6, .data⟩ (by first | exact .head _ | simp) rfl
    subst hq6
    have hb10 : b10 = false := by
      cases b10
      · rfl
      · exact absurd (show false = true from hcl 10 _ rfl rfl ⟨9, .data⟩ (by first | exact .head _ | simp) rfl) (by decide)
    subst hb10
    clear hall hcl hs hf
    have hown := hF.1.2 rfl
    refine step_appW w1 (by rfl) _ _ 103 (by rfl) w.heap.size 117 (.agg #[.int .i64 0, .int .u64 0]) 2 16 Try.underlying103 info_rt rfl (by decide) (by decide) v9 i (rcells (R.take i)) (by rfl) hown b o2 (R.length - (i + 1)) (c - (i + 1)) (rcells (R.drop (i + 1))) (by rfl) (HC.out.up hF.2) (by rw [rcells_length, Hld.out]) (rcells_one _) (by omega) hF.2.size ?_
    intro v' w' ho hg hw
    exact hK _ _ ⟨true, true, true, true, true, true, true, true, true, true, false, kb, v9, v', rfl, rfl, (by rw [Hle.out, ← take_drop_erase, rcells_app]; exact ho), Own.grown_old hF.2 hown (Nat.le_refl _) hg⟩
  · intro listed a w1 K hs hcl hf hall hI hK
    obtain ⟨b0, b1, b2, b3, b4, b5, b6, b7, b8, b9, b10, kb, v9, v14, rfl, rfl, hF⟩ := hI
    have hf' : b10 = false := hf
    subst hf'
    have hq9 : b9 = true := hall ⟨9, .data⟩ (by first | exact .head _ | simp) rfl
    subst hq9
    have hq0 : b0 = true := hall ⟨0, .phase⟩ (by first | exact .head _ | simp) rfl
    subst hq0
    have hq1 : b1 = true := hall ⟨1, .phase⟩ (by first | exact .head _ | simp) rfl
    subst hq1
    have hq2 : b2 = true := hall ⟨2, .phase⟩ (by first | exact .head _ | simp) rfl
    subst hq2
    have hq3 : b3 = true := hall ⟨3, .phase⟩ (by first | exact .head _ | simp) rfl
    subst hq3
    have hq4 : b4 = true := hall ⟨4, .phase⟩ (by first | exact .head _ | simp) rfl
    subst hq4
    have hq5 : b5 = true := hall ⟨5, .phase⟩ (by first | exact .head _ | simp) rfl
    subst hq5
    have hq6 : b6 = true := hall ⟨6, .phase⟩ (by first | exact .head _ | simp) rfl
    subst hq6
    have hq7 : b7 = true := hall ⟨7, .phase⟩ (by first | exact .head _ | simp) rfl
    subst hq7
    have hq8 : b8 = true := hall ⟨8, .phase⟩ (by first | exact .head _ | simp) rfl
    subst hq8
    clear hall hcl hs hf
    go_simp
    exact hK _ _ ⟨true, true, true, true, true, true, true, true, true, true, true, kb, v9, v14, rfl, rfl, hF⟩
end Go.Proofs.Ytlpaemlgmmmbmaa
