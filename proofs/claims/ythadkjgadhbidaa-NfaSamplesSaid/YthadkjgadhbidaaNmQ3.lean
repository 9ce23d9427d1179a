/-
  The walks of the program's reader of patterns: class.
-/
import Derived.WalkKit
import Derived.StillTailTactics
import Derived.Lib.Hide
import Derived.Test.YthadkjgadhbidaaRnP
import Derived.Test.YthadkjgadhbidaaWords
import Derived.Test.YthadkjgadhbidaaRxM
import Derived.Test.YthadkjgadhbidaaNfR
import Derived.Test.YthadkjgadhbidaaMtW
import Derived.Test.YthadkjgadhbidaaRxL
import Derived.Test.YthadkjgadhbidaaRxB
import Derived.Test.YthadkjgadhbidaaRgA
import Derived.Test.YthadkjgadhbidaaRxF
import Derived.Test.YthadkjgadhbidaaStep
import Derived.Test.YthadkjgadhbidaaRegInvB
/-
  A region that reads and ends with one store: its operations one by one, those that are guarded by their own words. No program in sight.
-/
namespace Go.Proofs.Ythadkjgadhbidaa
open Go.RowKit
set_option linter.unusedVariables false

section
variable {P : Program} {ops : Array Oper} {w : World} {Q : Act → Prop} {a : Act} {o : Oper} {rest : List Oper}
theorem still_want (hw : Region.wanted o (yielded ops a.tmps) = true) (h : ∀ K : Act → Prop, (∀ a, wpStill P ops w Q rest a → K a) → o.still P a w K) : wpStill P ops w Q (o :: rest) a :=
  wpStill_step fun K hK => by rw [if_pos hw]; exact h K hK
theorem still_skip (hw : Region.wanted o (yielded ops a.tmps) = false) (h : ∀ K : Act → Prop, (∀ a, wpStill P ops w Q rest a → K a) → K (a.put o.dst undef)) : wpStill P ops w Q (o :: rest) a :=
  wpStill_step fun K hK => by rw [if_neg (by rw [hw]; exact Bool.false_ne_true)]; exact h K hK
/-- The walk with the rest as a letter: nothing unfolds it. -/
theorem still_open {l : List Oper} (h : ∀ S : List Oper → Act → Prop,
    Hid (∀ o rest a, Region.wanted o (yielded ops a.tmps) = true → (∀ K : Act → Prop, (∀ a, S rest a → K a) → o.still P a w K) → S (o :: rest) a) →
    Hid (∀ o rest a, Region.wanted o (yielded ops a.tmps) = false → (∀ K : Act → Prop, (∀ a, S rest a → K a) → K (a.put o.dst undef)) → S (o :: rest) a) →
    Hid (∀ a, Q a → S [] a) → S l a) : wpStill P ops w Q l a :=
  h (wpStill P ops w Q) (Lib.hid fun _ _ _ hw k => still_want hw k) (Lib.hid fun _ _ _ hw k => still_skip hw k) (Lib.hid fun _ k => wpStill_nil k)
end
end Go.Proofs.Ythadkjgadhbidaa
/-
  The reference's relations in memory: a matrix of bools; empty, both.
-/
namespace Go.Proofs.Ythadkjgadhbidaa
open Go.RowKit
set_option linter.unusedVariables false

theorem info_bo : (Try.prog.info? 4).map (fun i => (i.zero, i.size, i.bytes)) = some (some (.bool false), 1, 1) := by kernel_rfl
def rowV (m : Nat) (r : Nat → Bool) : List Value := (List.range m).map fun k => .bool (r k)
theorem rowV_length (m : Nat) (r : Nat → Bool) : (rowV m r).length = m := by simp [rowV]
theorem rowV_get {m k : Nat} (r : Nat → Bool) (hk : k < m) : (rowV m r)[k]? = some (.bool (r k)) := by simp [rowV, hk]
theorem rowV_set {m k : Nat} (r : Nat → Bool) (b : Bool) : (rowV m r).set k (.bool b) = rowV m (fun k' => if k' = k then b else r k') := by
  apply List.ext_getElem?
  intro j
  by_cases hj : j < m
  · rw [rowV_get _ hj]
    by_cases e : j = k
    · subst e; rw [List.getElem?_set_self (by rw [rowV_length]; exact hj), if_pos rfl]
    · rw [List.getElem?_set_ne (fun h => e h.symm), rowV_get r hj, if_neg e]
  · rw [List.getElem?_eq_none (by rw [List.length_set, rowV_length]; omega), List.getElem?_eq_none (by rw [rowV_length]; omega)]
theorem rowV_congr {m : Nat} {r r' : Nat → Bool} (h : ∀ k, k < m → r k = r' k) : rowV m r = rowV m r' := by
  unfold rowV
  apply List.map_congr_left
  intro k hk
  rw [h k (List.mem_range.mp hk)]
def outV (m : Nat) (f : Nat → Nat) : List Value := (List.range m).map fun i => .slice (some ⟨f i, 0, none⟩) m m
theorem outV_get {m i : Nat} (f : Nat → Nat) (hi : i < m) : (outV m f)[i]? = some (.slice (some ⟨f i, 0, none⟩) m m) := by simp [outV, hi]
/-- A matrix of the call's own: block g holds the rows' slices, block f i the row i. -/
structure MatB (w : World) (base g cc : Nat) (f : Nat → Nat) (m : Nat) (R : Nat → Nat → Bool) : Prop where
  outer : Own w base 68 1 (.slice (some ⟨g, 0, none⟩) m cc) m (outV m f)
  rows : ∀ i, i < m → Own w base 4 1 (.slice (some ⟨f i, 0, none⟩) m m) m (rowV m (R i))
  inj : ∀ i j, i < m → j < m → f i = f j → i = j
  baseF : ∀ i, i < m → base ≤ f i
def MatV (w : World) (base : Nat) (v : Value) (m : Nat) (R : Nat → Nat → Bool) : Prop := ∃ g cc f, v = .slice (some ⟨g, 0, none⟩) m cc ∧ MatB w base g cc f m R
theorem MatB.up {w w' : World} {base g cc m : Nat} {f : Nat → Nat} {R : Nat → Nat → Bool} (h : MatB w base g cc f m R) (ho : Old w w') : MatB w' base g cc f m R :=
  ⟨h.outer.up ho, fun i hi => (h.rows i hi).up ho, h.inj, h.baseF⟩
theorem MatV.up {w w' : World} {base m : Nat} {v : Value} {R : Nat → Nat → Bool} (h : MatV w base v m R) (ho : Old w w') : MatV w' base v m R := by
  obtain ⟨g, cc, f, hv, hb⟩ := h; exact ⟨g, cc, f, hv, hb.up ho⟩
theorem MatB.row {w : World} {base g cc m i : Nat} {f : Nat → Nat} {R : Nat → Nat → Bool} (h : MatB w base g cc f m R) (hi : i < m) : w.cell? ⟨g, i, none⟩ = some (.slice (some ⟨f i, 0, none⟩) m m) :=
  (h.outer.cellAt (outV_get f hi)).1
theorem MatB.cell {w : World} {base g cc m i k : Nat} {f : Nat → Nat} {R : Nat → Nat → Bool} (h : MatB w base g cc f m R) (hi : i < m) (hk : k < m) : w.cell? ⟨f i, k, none⟩ = some (.bool (R i k)) ∧ w.frozen? ⟨f i, k, none⟩ = false :=
  (h.rows i hi).cellAt (rowV_get _ hk)
theorem MatB.congr {w : World} {base g cc m : Nat} {f : Nat → Nat} {R R' : Nat → Nat → Bool} (h : MatB w base g cc f m R) (he : ∀ i k, i < m → k < m → R i k = R' i k) : MatB w base g cc f m R' :=
  ⟨h.outer, fun i hi => by rw [rowV_congr (r' := R i) (fun k hk => (he i k hi hk).symm)]; exact h.rows i hi, h.inj, h.baseF⟩
theorem MatV.congr {w : World} {base m : Nat} {v : Value} {R R' : Nat → Nat → Bool} (h : MatV w base v m R) (he : ∀ i k, i < m → k < m → R i k = R' i k) : MatV w base v m R' := by
  obtain ⟨g, cc, f, hv, h⟩ := h; exact ⟨g, cc, f, hv, h.congr he⟩
theorem MatB.set {w : World} {base g cc m i k : Nat} {f : Nat → Nat} {R : Nat → Nat → Bool} (h : MatB w base g cc f m R) (hi : i < m) (b : Bool) :
    MatB (w.setCell ⟨f i, k, none⟩ (.bool b)) base g cc f m (fun i' k' => if i' = i ∧ k' = k then b else R i' k') := by
  obtain ⟨h1, hg⟩ := (h.rows i hi).set_ k (.bool b)
  refine ⟨Own.grown h.outer (h.rows i hi) (by decide) hg, fun i' hi' => ?_, h.inj, h.baseF⟩
  by_cases e : i' = i
  · subst e
    rw [rowV_set] at h1
    rw [rowV_congr (r' := fun k' => if k' = k then b else R i' k') (fun k' _ => by simp)]
    exact h1
  · rw [rowV_congr (r' := R i') (fun k' _ => by simp [e])]
    exact World.ownsRow.kept (h.rows i' hi') hg (Or.inr (fun e2 => e (h.inj i' i hi' hi (by injection e2))))
theorem MatB.old {w0 w : World} {base g cc m i k : Nat} {f : Nat → Nat} {R : Nat → Nat → Bool} (h : MatB w base g cc f m R) (ho : Old w0 w) (hb : w0.heap.size ≤ base) (hi : i < m) (b : Bool) : Old w0 (w.setCell ⟨f i, k, none⟩ (.bool b)) :=
  ho.setCell (Nat.le_trans hb (h.baseF i hi)) _
theorem made_row (m : Nat) : (madeCells #[Value.bool false] m).toList = rowV m (fun _ => false) := by
  unfold madeCells rowV
  rw [Array.toList_map, Array.toList_range]
  apply List.map_congr_left
  intro k _
  have e : k % #[Value.bool false].size = 0 := Nat.mod_one k
  rw [e]
  rfl
end Go.Proofs.Ythadkjgadhbidaa
/-
  The reference's reach: one sweep over the states; what it comes to. No program in sight.
-/
namespace Go.Proofs.Ythadkjgadhbidaa
open Go.RowKit
set_option linter.unusedVariables false

def updV (V : Nat → Bool) (a : Nat) : Nat → Bool := fun k => if k = a then true else V k
def falses (n : Nat) (V : Nat → Bool) : Nat := ((List.range n).filter fun k => !V k).length
theorem updV_self (V : Nat → Bool) (a : Nat) : updV V a a = true := if_pos rfl
theorem updV_sup (V : Nat → Bool) (a s : Nat) (h : V s = true) : updV V a s = true := by unfold updV; split; rfl; exact h
theorem falses_succ (n : Nat) (V : Nat → Bool) : falses (n + 1) V = falses n V + (if V n = true then 0 else 1) := by
  unfold falses
  rw [List.range_succ, List.filter_append, List.length_append]
  cases h : V n <;> simp [h]
theorem falses_upd (V : Nat → Bool) (a : Nat) (h : V a = false) : ∀ n, a < n → falses n (updV V a) + 1 = falses n V
  | 0, hn => by omega
  | n + 1, hn => by
    rw [falses_succ, falses_succ]
    by_cases e : a = n
    · subst e
      rw [updV_self, if_pos rfl, h]
      have : ∀ m, m ≤ a → falses m (updV V a) = falses m V := by
        intro m
        induction m with
        | zero => intro _; rfl
        | succ m ih =>
          intro hm
          rw [falses_succ, falses_succ, ih (by omega)]
          have e3 : updV V a m = V m := by unfold updV; rw [if_neg (show m ≠ a by omega)]
          rw [e3]
      rw [this a (Nat.le_refl _)]
      simp
    · have ih := falses_upd V a h n (by omega)
      have e2 : updV V a n = V n := by unfold updV; rw [if_neg (Ne.symm e)]
      rw [e2]
      omega
/-- A sweep over the states, i of them done, from V0 on; VS: where reach began. -/
structure Swp (st : List Nd) (bol eol : Bool) (VS V0 : Nat → Bool) (i : Nat) (ag : Bool) (V : Nat → Bool) : Prop where
  sup : ∀ s, V0 s = true → V s = true
  snd : ∀ s, V s = true → Clo (nfaG st) bol eol (fun s => VS s = true) s
  cls : ag = false → V = V0 ∧ ∀ j, j < i → V0 j = true → ∀ s', (nfaG st).eps bol eol j s' → V0 s' = true
  cnt : ag = true → falses st.length V < falses st.length V0
section
variable {st : List Nd} {bol eol : Bool} {VS V0 V : Nat → Bool} {i : Nat} {ag : Bool}
theorem Swp.start (h : ∀ s, V0 s = true → Clo (nfaG st) bol eol (fun s => VS s = true) s) : Swp st bol eol VS V0 0 false V0 :=
  ⟨fun _ h => h, h, fun _ => ⟨rfl, fun j hj => by omega⟩, fun h => (by cases h)⟩
theorem Swp.skip (h : Swp st bol eol VS V0 i ag V) (hi : V i = false) : Swp st bol eol VS V0 (i + 1) ag V := by
  refine ⟨h.sup, h.snd, fun ha => ?_, h.cnt⟩
  obtain ⟨e, hc⟩ := h.cls ha
  refine ⟨e, fun j hj hv => ?_⟩
  by_cases ej : j = i
  · subst ej; rw [← e, hi] at hv; cases hv
  · exact hc j (by omega) hv
theorem Swp.keep (h : Swp st bol eol VS V0 i ag V) (hi : ∀ s', (nfaG st).eps bol eol i s' → V s' = true) : Swp st bol eol VS V0 (i + 1) ag V := by
  refine ⟨h.sup, h.snd, fun ha => ?_, h.cnt⟩
  obtain ⟨e, hc⟩ := h.cls ha
  refine ⟨e, fun j hj hv => ?_⟩
  by_cases ej : j = i
  · subst ej; rw [← e]; exact hi
  · exact hc j (by omega) hv
theorem Swp.put {a : Nat} (h : Swp st bol eol VS V0 i ag V) (he : (nfaG st).eps bol eol i a) (hi : V i = true) (ha : V a = false) (hl : a < st.length) : Swp st bol eol VS V0 i true (updV V a) := by
  refine ⟨fun s hs => updV_sup V a s (h.sup s hs), fun s hs => ?_, fun h => (by cases h), fun _ => ?_⟩
  · unfold updV at hs
    split at hs
    · rename_i e
      subst e
      exact .step i s (h.snd i hi) he
    · exact h.snd s hs
  · have hf := falses_upd V a ha st.length hl
    cases ag with
    | true => have := h.cnt rfl; omega
    | false => rw [← (h.cls rfl).1]; omega
theorem Swp.next (h : Swp st bol eol VS V0 i true V) : Swp st bol eol VS V0 (i + 1) true V := ⟨h.sup, h.snd, fun h => (by cases h), h.cnt⟩
theorem Swp.closed (h : Swp st bol eol VS V0 st.length false V) (h0 : ∀ s, VS s = true → V0 s = true) (s : Nat) : V s = true ↔ Clo (nfaG st) bol eol (fun s => VS s = true) s := by
  refine ⟨h.snd s, fun hc => ?_⟩
  obtain ⟨e, hcl⟩ := h.cls rfl
  induction hc with
  | here s hs => exact h.sup s (h0 s hs)
  | step s s' _ he ih =>
    rw [e] at ih ⊢
    by_cases hs : s < st.length
    · exact hcl s hs ih s' he
    · exfalso
      have hd : nd st s = ⟨0, 0, 0, 0⟩ := by unfold nd; rw [List.getD_eq_getElem?_getD, List.getElem?_eq_none (by omega)]; rfl
      rcases he with ⟨h1, _⟩ | ⟨h1, _⟩ | ⟨h1, _⟩ <;> (rw [hd] at h1; simp at h1)
end
def acceptedM (st : List Nd) (V : Nat → Bool) : Bool := (List.range st.length).any fun i => V i && decide ((nd st i).kind = 5)
theorem acceptedM_iff (st : List Nd) (V : Nat → Bool) : acceptedM st V = true ↔ ∃ s, s < st.length ∧ V s = true ∧ (nd st s).kind = 5 := by
  unfold acceptedM
  rw [List.any_eq_true]
  constructor
  · rintro ⟨s, h1, h2⟩
    rw [Bool.and_eq_true, decide_eq_true_iff] at h2
    exact ⟨s, List.mem_range.mp h1, h2⟩
  · rintro ⟨s, h1, h2⟩
    exact ⟨s, List.mem_range.mpr h1, by rw [Bool.and_eq_true, decide_eq_true_iff]; exact h2⟩
end Go.Proofs.Ythadkjgadhbidaa
/-
  The walks of the reference's accepted and reach (automata).
-/
namespace Go.Proofs.Ythadkjgadhbidaa
open Go.RowKit
set_option linter.unusedVariables false

def AcRel (w : World) (st : List Nd) (V : Nat → Bool) (v : Value) (wr : World) : Prop :=
  ∃ i : Nat, v = .int .i64 i ∧ i ≤ st.length ∧ Hid (∀ s, s < i → ¬ (V s = true ∧ (nd st s).kind = 5)) ∧ Hid (Old w wr)
set_option maxHeartbeats 2000000 in
set_option maxRecDepth 100000 in
theorem acceptedC (A B : Option Addr) (c c2 : Nat) (st : List Nd) (V : Nat → Bool) (w : World) (hs : Rs w A (ndsV st)) (hb : Rs w B (rowV st.length V)) (hl : st.length ≤ 1000) :
    Calls Try.prog 42 #[.slice A st.length c, .slice B st.length c2] w (ValOld (.bool (acceptedM st V)) w) := by
  have HS := Lib.hid hs
  have HB := Lib.hid hb
  clear hs hb
  go_enter Try.func42, Try.ntmps42
  go_wp2_with fail
  go_loopw [5] (fun s5 wr => AcRel w st V s5 wr) (fun s5 _ => st.length - (intOf s5).toNat)
  case atStart => exact ⟨0, rfl, Nat.zero_le _, Lib.hid (fun s hs => by omega), Lib.hid (Old.refl _)⟩
  case round =>
    obtain ⟨i, rfl, hi, HN, HO⟩ := hrel
    by_cases hlt : i < st.length
    · have i1 : (i : Int) < (st.length : Int) := by omega
      have i0 : (0 : Int) ≤ (i : Int) := by omega
      obtain ⟨bB, oB, rfl, _, hcB⟩ := (HB.out.up HO.out).at_ (by rw [rowV_length]; omega)
      obtain ⟨b, off, rfl, _, hcl⟩ := (HS.out.up HO.out).at_ (by rw [ndsV_length]; omega)
      have cB := hcB _ _ (rowV_get V hlt)
      have hx : st[i]? = some (nd st i) := by unfold nd; rw [List.getD_eq_getElem?_getD, List.getElem?_eq_getElem hlt]; rfl
      have c0 := hcl _ _ (ndsV_get st i _ hx 0 (by omega))
      rw [Nat.add_zero] at c0
      replace c0 : wr.cell? ⟨b, off + i * 7, none⟩ = some (.int .i64 (nd st i).kind) := c0
      have HNX : Hid (¬ (V i = true ∧ (nd st i).kind = 5) → ∀ s, s < i + 1 → ¬ (V s = true ∧ (nd st s).kind = 5)) := Lib.hid (fun h s hs => by
        by_cases e : s = i
        · subst e; exact h
        · exact HN.out s (by omega))
      have HY : Hid (V i = true ∧ (nd st i).kind = 5 → acceptedM st V = true) := Lib.hid (fun h => (acceptedM_iff st V).2 ⟨i, hlt, h⟩)
      clear hcB hcl hx HN
      generalize (nd st i).kind = kd at *
      generalize V i = b1 at *
      cases b1 with
      | false =>
        have HW : Hid (AcRel w st V (.int .i64 ((i + 1 : Nat) : Int)) wr) := Lib.hid ⟨i + 1, rfl, hlt, Lib.hid (HNX.out (by simp)), HO⟩
        go_wp2_with fail
        go_roundw
        case rel => exact HW.out
        case measure => simp [intOf]; omega
      | true =>
        by_cases h5 : kd = 5
        · subst h5
          have HE := Lib.hid (HY.out ⟨rfl, rfl⟩)
          go_wp2_with fail
          go_ret
          rw [HE.out]
          exact ⟨rfl, HO.out⟩
        · have HW : Hid (AcRel w st V (.int .i64 ((i + 1 : Nat) : Int)) wr) := Lib.hid ⟨i + 1, rfl, hlt, Lib.hid (HNX.out (fun h => h5 h.2)), HO⟩
          have b5 : (kd == 5) = false := by simpa using h5
          clear h5
          go_wp2_with fail
          go_roundw
          case rel => exact HW.out
          case measure => simp [intOf]; omega
    · obtain rfl : i = st.length := by omega
      have HE : Hid (acceptedM st V = false) := Lib.hid (by
        cases h : acceptedM st V with
        | false => rfl
        | true =>
          obtain ⟨s, h1, h2⟩ := (acceptedM_iff st V).1 h
          exact absurd h2 (HN.out s h1))
      go_wp2_with fail
      go_ret
      rw [HE.out]
      exact ⟨rfl, HO.out⟩

/-- How many of the first n cells of a block are false. -/
def wcount (w : World) (g n : Nat) : Nat := ((List.range n).filter fun k => match w.cell? ⟨g, k, none⟩ with | some (.bool b) => !b | _ => false).length
theorem wcount_own {w : World} {B g n c : Nat} {V : Nat → Bool} (h : Own w B 4 1 (.slice (some ⟨g, 0, none⟩) n c) n (rowV n V)) : wcount w g n = falses n V := by
  unfold wcount falses
  congr 1
  apply List.filter_congr
  intro k hk
  rw [(h.cellAt (rowV_get V (List.mem_range.mp hk))).1]
def boolOf : Value → Bool
  | .bool b => b
  | _ => false
def ReRel (w : World) (g c : Nat) (st : List Nd) (bol eol : Bool) (VS : Nat → Bool) (v : Value) (wr : World) : Prop :=
  ∃ (ag : Bool) (V : Nat → Bool), v = .bool ag ∧ Hid (Own wr w.heap.size 4 1 (.slice (some ⟨g, 0, none⟩) st.length c) st.length (rowV st.length V)) ∧ Hid (Old w wr) ∧
    Hid (∀ s, VS s = true → V s = true) ∧ Hid (∀ s, V s = true → Clo (nfaG st) bol eol (fun s => VS s = true) s) ∧ Hid (ag = false → ∀ s, V s = true ↔ Clo (nfaG st) bol eol (fun s => VS s = true) s)
def RiRel (w : World) (g c : Nat) (st : List Nd) (bol eol : Bool) (VS V0 : Nat → Bool) (v v2 : Value) (wr : World) : Prop :=
  ∃ (ag : Bool) (i : Nat) (V : Nat → Bool), v = .bool ag ∧ v2 = .int .i64 i ∧ i ≤ st.length ∧ Hid (Own wr w.heap.size 4 1 (.slice (some ⟨g, 0, none⟩) st.length c) st.length (rowV st.length V)) ∧ Hid (Old w wr) ∧ Hid (Swp st bol eol VS V0 i ag V)
def ReachPost (w : World) (st : List Nd) (bol eol : Bool) (VS : Nat → Bool) (e : Ending) (w' : World) : Prop :=
  ∃ v V, e = .returned v ∧ Own w' w.heap.size 4 1 v st.length (rowV st.length V) ∧ (∀ s, V s = true ↔ Clo (nfaG st) bol eol (fun s => VS s = true) s) ∧ Old w w'
set_option maxHeartbeats 8000000 in
set_option maxRecDepth 100000 in
theorem reachC (A B : Option Addr) (c c2 : Nat) (st : List Nd) (VS : Nat → Bool) (bol eol : Bool) (w : World) (hs : Rs w A (ndsV st)) (hb : Rs w B (rowV st.length VS)) (hv : svalid st = true) :
    Calls Try.prog 43 #[.slice A st.length c, .slice B st.length c2, .bool bol, .bool eol] w (ReachPost w st bol eol VS) := by
  obtain ⟨hl1, hl2, hok⟩ := svalid_ok hv
  have HS := Lib.hid hs
  have HB := Lib.hid hb
  have HOK := Lib.hid hok
  clear hs hb hok hv
  go_enter Try.func43, Try.ntmps43
  go_wp2_with (at_builtin; refine wpList_pushAll rfl _ _ 68 rfl _ 4 (.bool false) 1 1 Try.underlying68 info_bo rfl (by decide) (by decide) _ _ _ (by rfl) (own_new w #[] 0 1 4 (by decide) rfl) _ _ _ _ (by rfl) (HB.out.alloc _) (by rw [rowV_length, Nat.mul_one]) (by simp [rowV, Value.oneCell']) ?pn1 (by simp) ?_)
  case pn1 => omega
  intro v1 w1 ho1 hg1 hd1
  have hb1 := hd1 w ((Old.refl w).alloc _) (Nat.le_refl _)
  have ho1' : Own w1 w.heap.size 4 1 v1 st.length (rowV st.length VS) := by simpa using ho1
  obtain ⟨g, c9, rfl, _, _, _, _⟩ := ho1'.form (by omega)
  have HX : Hid (ReRel w g c9 st bol eol VS (.bool true) w1) := Lib.hid ⟨true, VS, rfl, Lib.hid ho1', Lib.hid hb1, Lib.hid (fun _ h => h), Lib.hid (fun s h => .here s h), Lib.hid (fun h => by cases h)⟩
  clear ho1 ho1' hg1 hd1 hb1
  go_wp2_with fail
  go_loopw [10] (fun s10 wr => ReRel w g c9 st bol eol VS s10 wr) (fun s10 wr => 2 * wcount wr g st.length + (if boolOf s10 = true then 1 else 0))
  case atStart => exact HX.out
  case round =>
    clear HX
    obtain ⟨ag, V0, rfl, HOW, HD, HSU, HSN, HCL⟩ := hrel
    cases ag with
    | false =>
      have HR := Lib.hid (HCL.out rfl)
      go_wp2_with fail
      go_ret
      exact ⟨_, V0, rfl, HOW.out, HR.out, HD.out⟩
    | true =>
      have HM := Lib.hid (wcount_own HOW.out)
      have HX : Hid (RiRel w g c9 st bol eol VS V0 (.bool false) (.int .i64 0) wr) := Lib.hid ⟨false, 0, V0, rfl, rfl, Nat.zero_le _, HOW, HD, Lib.hid (Swp.start HSN.out)⟩
      go_wp2_with fail
      go_loopw [10, 11] (fun s10 s11 wr => RiRel w g c9 st bol eol VS V0 s10 s11 wr) (fun _ s11 _ => st.length - (intOf s11).toNat)
      case atStart => exact HX.out
      case round =>
        clear HX HOW HD HCL
        obtain ⟨ag, i, V, rfl, rfl, hi, HOW, HD, HP⟩ := hrel
        by_cases hlt : i < st.length
        · have i1 : (i : Int) < (st.length : Int) := by omega
          have i0 : (0 : Int) ≤ (i : Int) := by omega
          obtain ⟨b, off, rfl, _, hcl⟩ := (HS.out.up HD.out).at_ (by rw [ndsV_length]; omega)
          have hx : st[i]? = some (nd st i) := by unfold nd; rw [List.getD_eq_getElem?_getD, List.getElem?_eq_getElem hlt]; rfl
          have c0 := hcl _ _ (ndsV_get st i _ hx 0 (by omega))
          have c1 := hcl _ _ (ndsV_get st i _ hx 1 (by omega))
          have c2 := hcl _ _ (ndsV_get st i _ hx 2 (by omega))
          rw [← Nat.add_assoc] at c0 c1 c2
          rw [Nat.add_zero] at c0
          obtain ⟨o1, o2, o3, o4⟩ := HOK.out i hlt
          have HEP : Hid (∀ s', (nfaG st).eps bol eol i s' ↔ ((nd st i).kind = 2 ∧ (((s' : Int) = (nd st i).left) ∨ ((s' : Int) = (nd st i).right))) ∨ ((nd st i).kind = 3 ∧ bol = true ∧ (s' : Int) = (nd st i).left) ∨ ((nd st i).kind = 4 ∧ eol = true ∧ (s' : Int) = (nd st i).left)) := Lib.hid (fun s' => Iff.rfl)
          have HK2 : Hid (∀ w', Old w w' → w'.cell? ⟨b, off + i * 7 + 2, none⟩ = some (.int .i64 (nd st i).right)) := Lib.hid (fun w' h => by
            have := (HS.out.up h).cellAt (ndsV_get st i _ hx 2 (by omega))
            rwa [← Nat.add_assoc] at this)
          have HX2 := Lib.hid hlt
          clear hcl hx
          generalize nd st i = y at *
          obtain ⟨kd, lf, rt, se⟩ := y
          replace c0 : wr.cell? ⟨b, off + i * 7, none⟩ = some (.int .i64 kd) := c0
          replace c1 : wr.cell? ⟨b, off + i * 7 + 1, none⟩ = some (.int .i64 lf) := c1
          replace c2 : wr.cell? ⟨b, off + i * 7 + 2, none⟩ = some (.int .i64 rt) := c2
          simp only at o1 o2 o3 o4 HEP
          have hcV := fun k (hk : k < st.length) => HOW.out.cellAt (rowV_get V hk)
          have cV := (hcV i hlt).1
          cases hvi : V i with
          | false =>
            rw [hvi] at cV
            have HW : Hid (RiRel w g c9 st bol eol VS V0 (.bool ag) (.int .i64 ((i + 1 : Nat) : Int)) wr) := Lib.hid ⟨ag, i + 1, V, rfl, rfl, hlt, HOW, HD, Lib.hid (HP.out.skip hvi)⟩
            go_wp2_with fail
            go_roundw
            case rel => exact HW.out
            case measure => simp [intOf]; omega
          | true =>
            rw [hvi] at cV
            have hkc : kd = 1 ∨ kd = 2 ∨ kd = 3 ∨ kd = 4 ∨ kd = 5 := by omega
            rcases hkc with rfl | rfl | rfl | rfl | rfl
            · clear hcV
              have HW : Hid (RiRel w g c9 st _ _ VS V0 (.bool ag) (.int .i64 ((i + 1 : Nat) : Int)) wr) := Lib.hid ⟨ag, i + 1, V, rfl, rfl, hlt, HOW, HD, Lib.hid (HP.out.keep (fun s' he => by have := (HEP.out s').1 he; omega))⟩
              clear HEP HK2 HX2
              go_wp2_with fail
              go_roundw
              case rel => exact HW.out
              case measure => simp [intOf]; omega
            · obtain ⟨a, rfl⟩ := Int.eq_ofNat_of_zero_le (o3 (by decide)).1
              obtain ⟨e, rfl⟩ := Int.eq_ofNat_of_zero_le (o4 rfl).1
              have ha : a < st.length := by have := (o3 (by decide)).2; omega
              have he : e < st.length := by have := (o4 rfl).2; omega
              have l1 : (a : Int) < (st.length : Int) := by omega
              have l2 : (e : Int) < (st.length : Int) := by omega
              obtain ⟨cA, fA⟩ := hcV a ha
              obtain ⟨cE, fE⟩ := hcV e he
              clear hcV o3 o4
              cases hva : V a with
              | true =>
                rw [hva] at cA
                cases hve : V e with
                | true =>
                  rw [hve] at cE
                  have HW : Hid (RiRel w g c9 st _ _ VS V0 (.bool ag) (.int .i64 ((i + 1 : Nat) : Int)) wr) := Lib.hid ⟨ag, i + 1, V, rfl, rfl, hlt, HOW, HD, Lib.hid (HP.out.keep (fun s' he => by have := (HEP.out s').1 he; rcases this with ⟨_, h | h⟩ | ⟨h, _⟩ | ⟨h, _⟩; (rw [show s' = a by omega]; exact hva); (rw [show s' = e by omega]; exact hve); (cases h); (cases h)))⟩
                  clear HEP HK2 HX2
                  go_wp2_with fail
                  go_roundw
                  case rel => exact HW.out
                  case measure => simp [intOf]; omega
                | false =>
                  rw [hve] at cE
                  have hva' := hva
                  clear hva ha
                  rename V e = false => hva
                  have ha := he
                  have hset := HOW.out.set_ e (.bool true)
                  rw [rowV_set] at hset
                  have HO2 := Lib.hid (show Own (wr.setCell ⟨g, e, none⟩ (.bool true)) w.heap.size 4 1 (.slice (some ⟨g, 0, none⟩) st.length c9) st.length (rowV st.length (updV V e)) from hset.1)
                  have HD2 := Lib.hid (Own.grown_old HD.out HOW.out (Nat.le_refl _) hset.2)
                  have HP2 := Lib.hid (HP.out.put ((HEP.out e).2 (Or.inl ⟨rfl, Or.inr rfl⟩)) hvi hva ha)
                  clear hset HP HOW HD
                  have HW : Hid (RiRel w g c9 st _ _ VS V0 (.bool true) (.int .i64 ((i + 1 : Nat) : Int)) (wr.setCell ⟨g, e, none⟩ (.bool true))) := Lib.hid ⟨true, i + 1, _, rfl, rfl, hlt, HO2, HD2, Lib.hid HP2.out.next⟩
                  clear HP2 HO2 HD2 HEP HK2 HX2
                  go_wp2_with fail
                  go_roundw
                  case rel => exact HW.out
                  case measure => simp [intOf]; omega
              | false =>
                rw [hva] at cA
                have hset := HOW.out.set_ a (.bool true)
                rw [rowV_set] at hset
                have HO2 := Lib.hid (show Own (wr.setCell ⟨g, a, none⟩ (.bool true)) w.heap.size 4 1 (.slice (some ⟨g, 0, none⟩) st.length c9) st.length (rowV st.length (updV V a)) from hset.1)
                have HD2 := Lib.hid (Own.grown_old HD.out HOW.out (Nat.le_refl _) hset.2)
                have HP2 := Lib.hid (HP.out.put ((HEP.out a).2 (Or.inl ⟨rfl, Or.inl rfl⟩)) hvi hva ha)
                clear hset HP HOW HD
                have hvi2 : updV V a i = true := updV_sup V a i hvi
                have d2 := HK2.out _ HD2.out
                obtain ⟨dE, gE⟩ := HO2.out.cellAt (rowV_get (updV V a) he)
                have HVI := Lib.hid hvi2
                clear hvi2 hvi hva cE fE
                generalize hw2 : wr.setCell ⟨g, a, none⟩ (.bool true) = w2 at *
                generalize updV V a = V1 at *
                cases hve : V1 e with
                | true =>
                  rw [hve] at dE
                  have HW : Hid (RiRel w g c9 st bol eol VS V0 (.bool true) (.int .i64 ((i + 1 : Nat) : Int)) w2) := Lib.hid ⟨true, i + 1, _, rfl, rfl, hlt, HO2, HD2, Lib.hid HP2.out.next⟩
                  clear HP2 HO2 HD2 HEP HK2 HX2
                  go_wp2_with fail
                  go_roundw
                  case rel => exact HW.out
                  case measure => simp [intOf]; omega
                | false =>
                  rw [hve] at dE
                  have hset := HO2.out.set_ e (.bool true)
                  rw [rowV_set] at hset
                  have HW : Hid (RiRel w g c9 st bol eol VS V0 (.bool true) (.int .i64 ((i + 1 : Nat) : Int)) (w2.setCell ⟨g, e, none⟩ (.bool true))) := Lib.hid ⟨true, i + 1, updV V1 e, rfl, rfl, hlt, Lib.hid hset.1, Lib.hid (Own.grown_old HD2.out HO2.out (Nat.le_refl _) hset.2), Lib.hid (HP2.out.put ((HEP.out e).2 (Or.inl ⟨rfl, Or.inr rfl⟩)) HVI.out hve he).next⟩
                  clear HP2 HO2 HD2 HEP HK2 HX2 hset
                  go_wp2_with fail
                  go_roundw
                  case rel => exact HW.out
                  case measure => simp [intOf]; omega
            · obtain ⟨a, rfl⟩ := Int.eq_ofNat_of_zero_le (o3 (by decide)).1
              have ha : a < st.length := by have := (o3 (by decide)).2; omega
              have l1 : (a : Int) < (st.length : Int) := by omega
              obtain ⟨cA, fA⟩ := hcV a ha
              clear hcV o3 o4
              cases bol with
              | false =>
                have HW : Hid (RiRel w g c9 st _ _ VS V0 (.bool ag) (.int .i64 ((i + 1 : Nat) : Int)) wr) := Lib.hid ⟨ag, i + 1, V, rfl, rfl, hlt, HOW, HD, Lib.hid (HP.out.keep (fun s' he => by have := (HEP.out s').1 he; rcases this with ⟨h, _⟩ | ⟨_, h, _⟩ | ⟨h, _⟩; (cases h); (cases h); (cases h)))⟩
                clear HEP HK2 HX2
                go_wp2_with fail
                go_roundw
                case rel => exact HW.out
                case measure => simp [intOf]; omega
              | true =>
                cases hva : V a with
                | true =>
                  rw [hva] at cA
                  have HW : Hid (RiRel w g c9 st _ _ VS V0 (.bool ag) (.int .i64 ((i + 1 : Nat) : Int)) wr) := Lib.hid ⟨ag, i + 1, V, rfl, rfl, hlt, HOW, HD, Lib.hid (HP.out.keep (fun s' he => by have := (HEP.out s').1 he; rcases this with ⟨h, _⟩ | ⟨_, _, h⟩ | ⟨h, _⟩; (cases h); (rw [show s' = a by omega]; exact hva); (cases h)))⟩
                  clear HEP HK2 HX2
                  go_wp2_with fail
                  go_roundw
                  case rel => exact HW.out
                  case measure => simp [intOf]; omega
                | false =>
                  rw [hva] at cA
                  have hset := HOW.out.set_ a (.bool true)
                  rw [rowV_set] at hset
                  have HO2 := Lib.hid (show Own (wr.setCell ⟨g, a, none⟩ (.bool true)) w.heap.size 4 1 (.slice (some ⟨g, 0, none⟩) st.length c9) st.length (rowV st.length (updV V a)) from hset.1)
                  have HD2 := Lib.hid (Own.grown_old HD.out HOW.out (Nat.le_refl _) hset.2)
                  have HP2 := Lib.hid (HP.out.put ((HEP.out a).2 (Or.inr (Or.inl ⟨rfl, rfl, rfl⟩))) hvi hva ha)
                  clear hset HP HOW HD
                  have HW : Hid (RiRel w g c9 st _ _ VS V0 (.bool true) (.int .i64 ((i + 1 : Nat) : Int)) (wr.setCell ⟨g, a, none⟩ (.bool true))) := Lib.hid ⟨true, i + 1, _, rfl, rfl, hlt, HO2, HD2, Lib.hid HP2.out.next⟩
                  clear HP2 HO2 HD2 HEP HK2 HX2
                  go_wp2_with fail
                  go_roundw
                  case rel => exact HW.out
                  case measure => simp [intOf]; omega
            · obtain ⟨a, rfl⟩ := Int.eq_ofNat_of_zero_le (o3 (by decide)).1
              have ha : a < st.length := by have := (o3 (by decide)).2; omega
              have l1 : (a : Int) < (st.length : Int) := by omega
              obtain ⟨cA, fA⟩ := hcV a ha
              clear hcV o3 o4
              cases eol with
              | false =>
                have HW : Hid (RiRel w g c9 st _ _ VS V0 (.bool ag) (.int .i64 ((i + 1 : Nat) : Int)) wr) := Lib.hid ⟨ag, i + 1, V, rfl, rfl, hlt, HOW, HD, Lib.hid (HP.out.keep (fun s' he => by have := (HEP.out s').1 he; rcases this with ⟨h, _⟩ | ⟨h, _⟩ | ⟨_, h, _⟩; (cases h); (cases h); (cases h)))⟩
                clear HEP HK2 HX2
                go_wp2_with fail
                go_roundw
                case rel => exact HW.out
                case measure => simp [intOf]; omega
              | true =>
                cases hva : V a with
                | true =>
                  rw [hva] at cA
                  have HW : Hid (RiRel w g c9 st _ _ VS V0 (.bool ag) (.int .i64 ((i + 1 : Nat) : Int)) wr) := Lib.hid ⟨ag, i + 1, V, rfl, rfl, hlt, HOW, HD, Lib.hid (HP.out.keep (fun s' he => by have := (HEP.out s').1 he; rcases this with ⟨h, _⟩ | ⟨h, _⟩ | ⟨_, _, h⟩; (cases h); (cases h); (rw [show s' = a by omega]; exact hva)))⟩
                  clear HEP HK2 HX2
                  go_wp2_with fail
                  go_roundw
                  case rel => exact HW.out
                  case measure => simp [intOf]; omega
                | false =>
                  rw [hva] at cA
                  have hset := HOW.out.set_ a (.bool true)
                  rw [rowV_set] at hset
                  have HO2 := Lib.hid (show Own (wr.setCell ⟨g, a, none⟩ (.bool true)) w.heap.size 4 1 (.slice (some ⟨g, 0, none⟩) st.length c9) st.length (rowV st.length (updV V a)) from hset.1)
                  have HD2 := Lib.hid (Own.grown_old HD.out HOW.out (Nat.le_refl _) hset.2)
                  have HP2 := Lib.hid (HP.out.put ((HEP.out a).2 (Or.inr (Or.inr ⟨rfl, rfl, rfl⟩))) hvi hva ha)
                  clear hset HP HOW HD
                  have HW : Hid (RiRel w g c9 st _ _ VS V0 (.bool true) (.int .i64 ((i + 1 : Nat) : Int)) (wr.setCell ⟨g, a, none⟩ (.bool true))) := Lib.hid ⟨true, i + 1, _, rfl, rfl, hlt, HO2, HD2, Lib.hid HP2.out.next⟩
                  clear HP2 HO2 HD2 HEP HK2 HX2
                  go_wp2_with fail
                  go_roundw
                  case rel => exact HW.out
                  case measure => simp [intOf]; omega
            · clear hcV
              have HW : Hid (RiRel w g c9 st _ _ VS V0 (.bool ag) (.int .i64 ((i + 1 : Nat) : Int)) wr) := Lib.hid ⟨ag, i + 1, V, rfl, rfl, hlt, HOW, HD, Lib.hid (HP.out.keep (fun s' he => by have := (HEP.out s').1 he; omega))⟩
              clear HEP HK2 HX2
              go_wp2_with fail
              go_roundw
              case rel => exact HW.out
              case measure => simp [intOf]; omega
        · obtain rfl : i = st.length := by omega
          have hm := HM.out
          have HW : Hid (ReRel w g c9 st bol eol VS (.bool ag) wr) := Lib.hid ⟨ag, V, rfl, HOW, HD, Lib.hid (fun s h => HP.out.sup s (HSU.out s h)), Lib.hid HP.out.snd, Lib.hid (fun e s => by subst e; exact HP.out.closed HSU.out s)⟩
          have HMM : Hid (2 * wcount wr g st.length + (if boolOf (.bool ag) = true then 1 else 0) < 2 * falses st.length V0 + 1) := Lib.hid (by
            rw [wcount_own HOW.out]
            cases ag with
            | true => have := HP.out.cnt rfl; show 2 * _ + 1 < _; omega
            | false => rw [(HP.out.cls rfl).1]; show 2 * _ + 0 < _; omega)
          clear HP HOW HD HSU HSN
          go_wp2_with fail
          go_roundw
          case rel => exact HW.out
          case measure => have := HMM.out; rw [hm]; exact this
end Go.Proofs.Ythadkjgadhbidaa
/-
  The reference's relations: both, stay.
-/
namespace Go.Proofs.Ythadkjgadhbidaa
open Go.RowKit
set_option linter.unusedVariables false

end Go.Proofs.Ythadkjgadhbidaa
/-
  The walk of the reference's atom, given alt.
-/
namespace Go.Proofs.Ythadkjgadhbidaa
open Go.RowKit
set_option linter.unusedVariables false

theorem Own.kept_ {w w' : World} {base size n : Nat} {e : TypeId} {v : Value} {xs : List Value} (hown : Own w base e size v n xs) {g : Nat} (hg : w.grownBy w' (some g)) {cs : Array Value} {t : TypeId} {fz : Nat × Nat} (h1 : w.heap[g]? = some (.cells cs t fz)) (hne : e ≠ t) : Own w' base e size v n xs := by
  refine World.ownsRow.kept hown hg ?_
  rcases hown with ⟨_, ⟨rfl, _⟩ | ⟨g', cap, cu, rfl, _, hgg, _⟩⟩
  · exact Or.inl rfl
  · refine Or.inr ?_
    intro hk
    simp [Value.ownBlock] at hk
    subst hk
    rw [hgg] at h1
    simp at h1
    exact hne h1.2.1
/-- The parser, and a list of nodes of the call's own. -/
structure LB (w : World) (s : ByteArray) (g : Nat) (q : Ps) (v : Value) (l : List Nd) (ww : World) : Prop where
  pz : ww.heap[g]? = some (PzC s q)
  ow : Own ww w.heap.size 114 7 v l.length (ndsV l)
  gr : w.grownBy ww (some g)
theorem LB.old {w : World} {s : ByteArray} {g : Nat} {q : Ps} {v : Value} {l : List Nd} {ww w2 : World} (h : LB w s g q v l ww) (o : Old ww w2) : LB w s g q v l w2 := ⟨o.block h.pz, h.ow.up o, grown_old_ h.gr o⟩
theorem LB.drewN {w : World} {s : ByteArray} {g : Nat} {q : Ps} {v : Value} {l : List Nd} {ww : World} (h : LB w s g q v l ww) (n : Nat) : LB w s g q v l (ww.drewN n) := h.old ((Old.refl _).drewN n)
theorem LB.keep {w : World} {s : ByteArray} {g : Nat} {q q' : Ps} {v : Value} {l : List Nd} {ww w2 : World} (h : LB w s g q v l ww) (hp : w2.heap[g]? = some (PzC s q')) (hg : ww.grownBy w2 (some g)) : LB w s g q' v l w2 :=
  ⟨hp, h.ow.kept_ hg h.pz (by decide), World.grownBy.trans h.gr hg⟩
theorem LB.up {w : World} {s : ByteArray} {g : Nat} {q : Ps} {v : Value} {l : List Nd} {ww : World} (h : LB w s g q v l ww) : LB w s g (upP q) v l (ww.setCell ⟨g, 1, none⟩ (.int .i64 ((q.at_ : Int) + 1))) := by
  have := PzC_at h.pz (q.at_ + 1)
  rw [show ((q.at_ + 1 : Nat) : Int) = (q.at_ : Int) + 1 by omega] at this
  exact h.keep this (grown_store (grown_refl ww _) 1 _)
def NPost (w : World) (g : Nat) (s : ByteArray) (R : List Nd × Ps) (e : Ending) (w' : World) : Prop := ∃ v, e = .returned v ∧ LB w s g R.2 v R.1 w'
def AltOK (f : Nat) : Prop := ∀ (g : Nat) (s : ByteArray) (p : Ps) (R : List Nd × Ps) (w : World), w.heap[g]? = some (PzC s p) → s.size ≤ 100000 → Start s.size p → altP (bs s) f p = some R → Calls Try.prog 53 #[.pointer (some ⟨g, 0, none⟩)] w (NPost w g s R)
theorem leaf0C (k : Int) (w : World) : Calls Try.prog 85 #[.int .i64 k, .agg #[.int .u64 0, .int .u64 0, .int .u64 0, .int .u64 0]] w (NodesOld (leafN k 0) w) := by
  have := leafC k 0 w
  rw [setA_zero] at this
  exact this
set_option maxHeartbeats 4000000 in
set_option maxRecDepth 100000 in
theorem atomC (f : Nat) (ih : AltOK f) (g : Nat) (s : ByteArray) (p : Ps) (R : List Nd × Ps) (w : World) (h : w.heap[g]? = some (PzC s p)) (hs : s.size ≤ 100000) (hst : Start s.size p) (hlt : p.at_ < s.size) (hR : atomP (bs s) (f + 1) p = some R) :
    Calls Try.prog 89 #[.pointer (some ⟨g, 0, none⟩)] w (NPost w g s R) := by
  obtain ⟨he, ha, hd⟩ := hst
  obtain ⟨a, d, e⟩ := p
  simp only at he ha hd hlt
  subst he
  have hgl := lt_of_block h
  obtain ⟨c0, c1, c2, c3, f1, f2, f3⟩ := PzC_cells h
  simp only at c0 c1 c2 c3
  clear c2 c3 f2 f3
  have HP := Lib.hid h
  have i1 : (0 : Int) ≤ (a : Int) := by omega
  have i2 : (a : Int) < (s.size : Int) := by omega
  have hb2 := bs_lt s a
  have hbg := bs_get s a hlt
  rw [hbg] at hb2
  have hbb : bAt (bs s) ⟨a, d, 0⟩ = s[a].toNat := hbg
  have HB2 := Lib.hid hb2
  have IH := Lib.hid ih
  have z0 : (0 : Int) ≤ (s[a].toNat : Int) := by omega
  have z1 : (s[a].toNat : Int) ≤ 255 := by omega
  rw [atomP] at hR
  simp only [hbb] at hR
  clear h ih hb2 hbg hbb
  by_cases h46 : s[a].toNat = 46
  · rw [if_pos h46] at hR
    have HE := Lib.hid (Option.some.inj hR).symm
    have b1 : ((s[a].toNat : Int) == 46) = true := by simp; omega
    clear hR h46
    go_enter Try.func89, Try.ntmps89
    go_wp2_with fail
    go_quiet (fail)
    have P1 : (w.drewN nq).heap[g]? = some (PzC s ⟨a, d, 0⟩) := HP.out
    have hP2 := PzC_at P1 (a + 1)
    have hG2 := grown_store (grown_drewN (grown_refl w (some g)) nq) 1 (.int .i64 ((a + 1 : Nat) : Int))
    rw [show ((a + 1 : Nat) : Int) = (a : Int) + 1 by omega] at hP2 hG2
    have HP2 := Lib.hid hP2
    have HG2 := Lib.hid hG2
    clear hP2 hG2 P1 c0
    go_upto_region 3 with fail
    generalize (w.drewN nq).setCell ⟨g, 1, none⟩ (.int .i64 ((a : Int) + 1)) = W2 at *
    clear c1 f1
    have hC := with0C 10 (by decide) W2
    unfold ValOld setA at hC
    have HC := Lib.hid hC
    clear hC
    go_wp2_with fail
    refine (HC.out).mono ?_; rintro e X2 ⟨rfl, o2⟩
    have hN := notC (withB 0 10) X2
    generalize withB 0 10 = z at *
    unfold ValOld setA at hN
    have HN := Lib.hid hN
    clear hN
    go_wp2_with fail
    refine (HN.out).mono ?_; rintro e X3 ⟨rfl, o3⟩
    have HPX := Lib.hid ((o2.up o3).block HP2.out)
    have HGX := Lib.hid (grown_old_ HG2.out (o2.up o3))
    have hl := leafC 2 (notB z) X3
    generalize notB z = zn at *
    unfold setA at hl
    have HLF := Lib.hid hl
    clear hl o2 o3
    go_wp2_with fail
    refine HLF.out.mono ?_
    rintro e wl ⟨v, rfl, hol, ol⟩
    have HLB : Hid (LB w s g ⟨a + 1, d, 0⟩ v (leafN 2 zn) wl) := ⟨ol.block HPX.out, hol.base HGX.out.size, grown_old_ HGX.out ol⟩
    clear hol ol
    go_wp2_with fail
    go_ret
    rw [HE.out]
    exact ⟨v, rfl, HLB.out⟩
  have n46 : ((s[a].toNat : Int) == 46) = false := by simp; omega
  rw [if_neg h46] at hR
  clear h46
  by_cases h94 : s[a].toNat = 94
  · rw [if_pos h94] at hR
    have HE := Lib.hid (Option.some.inj hR).symm
    have b1 : ((s[a].toNat : Int) == 94) = true := by simp; omega
    clear hR h94
    go_enter Try.func89, Try.ntmps89
    go_wp2_with fail
    go_quiet (fail)
    have P1 : (w.drewN nq).heap[g]? = some (PzC s ⟨a, d, 0⟩) := HP.out
    have hP2 := PzC_at P1 (a + 1)
    have hG2 := grown_store (grown_drewN (grown_refl w (some g)) nq) 1 (.int .i64 ((a + 1 : Nat) : Int))
    rw [show ((a + 1 : Nat) : Int) = (a : Int) + 1 by omega] at hP2 hG2
    have HP2 := Lib.hid hP2
    have HG2 := Lib.hid hG2
    clear hP2 hG2 P1 c0
    go_upto_region 3 with fail
    generalize (w.drewN nq).setCell ⟨g, 1, none⟩ (.int .i64 ((a : Int) + 1)) = W2 at *
    clear c1 f1
    have HPX := HP2
    have HGX := HG2
    have HLF := Lib.hid (leaf0C 8 W2)
    go_wp2_with fail
    refine HLF.out.mono ?_
    rintro e wl ⟨v, rfl, hol, ol⟩
    have HLB : Hid (LB w s g ⟨a + 1, d, 0⟩ v (leafN 8 0) wl) := ⟨ol.block HPX.out, hol.base HGX.out.size, grown_old_ HGX.out ol⟩
    clear hol ol
    go_wp2_with fail
    go_ret
    rw [HE.out]
    exact ⟨v, rfl, HLB.out⟩
  have n94 : ((s[a].toNat : Int) == 94) = false := by simp; omega
  rw [if_neg h94] at hR
  clear h94
  by_cases h36 : s[a].toNat = 36
  · rw [if_pos h36] at hR
    have HE := Lib.hid (Option.some.inj hR).symm
    have b1 : ((s[a].toNat : Int) == 36) = true := by simp; omega
    clear hR h36
    go_enter Try.func89, Try.ntmps89
    go_wp2_with fail
    go_quiet (fail)
    have P1 : (w.drewN nq).heap[g]? = some (PzC s ⟨a, d, 0⟩) := HP.out
    have hP2 := PzC_at P1 (a + 1)
    have hG2 := grown_store (grown_drewN (grown_refl w (some g)) nq) 1 (.int .i64 ((a + 1 : Nat) : Int))
    rw [show ((a + 1 : Nat) : Int) = (a : Int) + 1 by omega] at hP2 hG2
    have HP2 := Lib.hid hP2
    have HG2 := Lib.hid hG2
    clear hP2 hG2 P1 c0
    go_upto_region 3 with fail
    generalize (w.drewN nq).setCell ⟨g, 1, none⟩ (.int .i64 ((a : Int) + 1)) = W2 at *
    clear c1 f1
    have HPX := HP2
    have HGX := HG2
    have HLF := Lib.hid (leaf0C 9 W2)
    go_wp2_with fail
    refine HLF.out.mono ?_
    rintro e wl ⟨v, rfl, hol, ol⟩
    have HLB : Hid (LB w s g ⟨a + 1, d, 0⟩ v (leafN 9 0) wl) := ⟨ol.block HPX.out, hol.base HGX.out.size, grown_old_ HGX.out ol⟩
    clear hol ol
    go_wp2_with fail
    go_ret
    rw [HE.out]
    exact ⟨v, rfl, HLB.out⟩
  have n36 : ((s[a].toNat : Int) == 36) = false := by simp; omega
  rw [if_neg h36] at hR
  clear h36
  by_cases h92 : s[a].toNat = 92
  · rw [if_pos h92] at hR
    have b1 : ((s[a].toNat : Int) == 92) = true := by simp; omega
    go_enter Try.func89, Try.ntmps89
    go_wp2_with fail
    go_quiet (fail)
    have P1 : (w.drewN nq).heap[g]? = some (PzC s ⟨a, d, 0⟩) := HP.out
    have hP2 := PzC_at P1 (a + 1)
    have hG2 := grown_store (grown_drewN (grown_refl w (some g)) nq) 1 (.int .i64 ((a + 1 : Nat) : Int))
    rw [show ((a + 1 : Nat) : Int) = (a : Int) + 1 by omega] at hP2 hG2
    have HP2 := Lib.hid hP2
    have HG2 := Lib.hid hG2
    clear hP2 hG2 P1 c0
    go_upto_region 3 with fail
    generalize (w.drewN nq).setCell ⟨g, 1, none⟩ (.int .i64 ((a : Int) + 1)) = W2 at *
    clear c1 f1
    have hC := escC g s ⟨a + 1, d, 0⟩ W2 HP2.out (by omega) (by simp only; omega)
    have hu : upP ⟨a, d, 0⟩ = ⟨a + 1, d, 0⟩ := rfl
    rw [hu] at hR
    obtain ⟨⟨⟨z, one⟩, q⟩, hQ⟩ : ∃ r, escP (bs s) ⟨a + 1, d, 0⟩ = r := ⟨_, rfl⟩
    rw [hQ] at hC hR
    have HE := Lib.hid (Option.some.inj hR).symm
    unfold EPost setA at hC
    simp only at hC
    have HC := Lib.hid hC
    clear hC hR h92 hQ hu
    go_wp2_with fail
    refine (HC.out).mono ?_; rintro e X ⟨rfl, hp, hg2⟩
    have hgr := World.grownBy.trans HG2.out hg2
    have oX := (Old.refl X).alloc (.cells #[.int .u64 (setW z 0), .int .u64 (setW z 1), .int .u64 (setW z 2), .int .u64 (setW z 3)] 40)
    have HPX := Lib.hid (oX.block hp)
    have HGX := Lib.hid (grown_old_ hgr oX)
    clear oX hp hgr hg2
    go_upto_region 12 with fail
    have HKX := Lib.hid (heap_alloc_new X (.cells #[.int .u64 (setW z 0), .int .u64 (setW z 1), .int .u64 (setW z 2), .int .u64 (setW z 3)] 40))
    generalize X.alloc (.cells #[.int .u64 (setW z 0), .int .u64 (setW z 1), .int .u64 (setW z 2), .int .u64 (setW z 3)] 40) = X2 at *
    obtain ⟨m0, m1, m2, m3, _, _, _, _⟩ := setC_cells (s := z) HKX.out
    have hl := leafC 2 z X2
    unfold setA at hl
    have HLF := Lib.hid hl
    clear hl
    go_wp2_with fail
    refine HLF.out.mono ?_
    rintro e wl ⟨v, rfl, hol, ol⟩
    have HLB : Hid (LB w s g q v (leafN 2 z) wl) := ⟨ol.block HPX.out, hol.base HGX.out.size, grown_old_ HGX.out ol⟩
    clear hol ol
    go_wp2_with fail
    go_ret
    rw [HE.out]
    exact ⟨v, rfl, HLB.out⟩
  have n92 : ((s[a].toNat : Int) == 92) = false := by simp; omega
  rw [if_neg h92] at hR
  clear h92
  have hu : upP ⟨a, d, 0⟩ = ⟨a + 1, d, 0⟩ := rfl
  by_cases h91 : s[a].toNat = 91
  · rw [if_pos h91, hu] at hR
    have b1 : ((s[a].toNat : Int) == 91) = true := by simp; omega
    clear h91 hu
    cases hq : classP (bs s) f ⟨a + 1, d, 0⟩ with
    | none => rw [hq] at hR; cases hR
    | some r =>
      rw [hq] at hR
      obtain ⟨z, q⟩ := r
      have HE : Hid (R = (leafN 2 z, q)) := Lib.hid (Option.some.inj hR).symm
      have HQ := Lib.hid hq
      clear hR hq
      go_enter Try.func89, Try.ntmps89
      go_wp2_with fail
      go_quiet (fail)
      have P1 : (w.drewN nq).heap[g]? = some (PzC s ⟨a, d, 0⟩) := HP.out
      have hP2 := PzC_at P1 (a + 1)
      have hG2 := grown_store (grown_drewN (grown_refl w (some g)) nq) 1 (.int .i64 ((a + 1 : Nat) : Int))
      rw [show ((a + 1 : Nat) : Int) = (a : Int) + 1 by omega] at hP2 hG2
      have HP2 := Lib.hid hP2
      have HG2 := Lib.hid hG2
      clear hP2 hG2 P1 c0
      go_upto_region 3 with fail
      generalize (w.drewN nq).setCell ⟨g, 1, none⟩ (.int .i64 ((a : Int) + 1)) = W2 at *
      clear c1 f1
      have hC := classC g s f ⟨a + 1, d, 0⟩ (z, q) W2 HP2.out (by omega) (by simp only; omega) HQ.out
      unfold VPost setA at hC
      simp only at hC
      have HC := Lib.hid hC
      clear hC
      go_wp2_with fail
      refine (HC.out).mono ?_; rintro e X ⟨rfl, hp, hg2⟩
      have HGX := Lib.hid (World.grownBy.trans HG2.out hg2)
      have HPX := Lib.hid hp
      have hl := leafC 2 z X
      unfold setA at hl
      have HLF := Lib.hid hl
      clear hl hp hg2
      go_wp2_with fail
      refine HLF.out.mono ?_
      rintro e wl ⟨v, rfl, hol, ol⟩
      have HLB : Hid (LB w s g q v (leafN 2 z) wl) := ⟨ol.block HPX.out, hol.base HGX.out.size, grown_old_ HGX.out ol⟩
      clear hol ol
      go_wp2_with fail
      go_ret
      rw [HE.out]
      exact ⟨v, rfl, HLB.out⟩
  have n91 : ((s[a].toNat : Int) == 91) = false := by simp; omega
  rw [if_neg h91] at hR
  clear h91
  by_cases h93 : s[a].toNat = 93
  · rw [if_pos h93, hu] at hR
    have b1 : ((s[a].toNat : Int) == 93) = true := by simp; omega
    have HE := Lib.hid (Option.some.inj hR).symm
    clear hR h93 hu
    go_enter Try.func89, Try.ntmps89
    go_wp2_with fail
    go_quiet (fail)
    have P1 : (w.drewN nq).heap[g]? = some (PzC s ⟨a, d, 0⟩) := HP.out
    have hP2 := PzC_at P1 (a + 1)
    have hG2 := grown_store (grown_drewN (grown_refl w (some g)) nq) 1 (.int .i64 ((a + 1 : Nat) : Int))
    rw [show ((a + 1 : Nat) : Int) = (a : Int) + 1 by omega] at hP2 hG2
    have HP2 := Lib.hid hP2
    have HG2 := Lib.hid hG2
    clear hP2 hG2 P1 c0
    go_upto_region 3 with fail
    generalize (w.drewN nq).setCell ⟨g, 1, none⟩ (.int .i64 ((a : Int) + 1)) = W2 at *
    clear c1 f1
    have HFL := Lib.hid (failC g s ⟨a + 1, d, 0⟩ 80 W2 HP2.out)
    go_wp2_with fail
    refine (HFL.out).mono ?_; rintro e X ⟨rfl, hp, hg2⟩
    have hgr := World.grownBy.trans HG2.out hg2
    clear hg2
    have hC := with0C s[a].toNat HB2.out X
    generalize withB 0 s[a].toNat = z at *
    unfold ValOld setA at hC
    have HC := Lib.hid hC
    clear hC
    go_wp2_with fail
    refine (HC.out).mono ?_; rintro e X2 ⟨rfl, o2⟩
    have HPX := Lib.hid (o2.block hp)
    have HGX := Lib.hid (grown_old_ hgr o2)
    have hl := leafC 2 z X2
    unfold setA at hl
    have HLF := Lib.hid hl
    clear hl o2 hp hgr
    go_wp2_with fail
    refine HLF.out.mono ?_
    rintro e wl ⟨v, rfl, hol, ol⟩
    have HLB : Hid (LB w s g (failP ⟨a + 1, d, 0⟩ 80) v (leafN 2 z) wl) := ⟨ol.block HPX.out, hol.base HGX.out.size, grown_old_ HGX.out ol⟩
    clear hol ol
    go_wp2_with fail
    go_ret
    rw [HE.out]
    exact ⟨v, rfl, HLB.out⟩
  have n93 : ((s[a].toNat : Int) == 93) = false := by simp; omega
  rw [if_neg h93] at hR
  clear h93
  by_cases hrep : s[a].toNat = 42 ∨ s[a].toNat = 43 ∨ s[a].toNat = 63
  · rw [if_pos hrep, hu] at hR
    have HE := Lib.hid (Option.some.inj hR).symm
    clear hR hu
    rcases hrep with h | h | h
    · have b1 : ((s[a].toNat : Int) == 42) = true := by simp; omega
      clear h
      go_enter Try.func89, Try.ntmps89
      go_wp2_with fail
      go_quiet (fail)
      have P1 : (w.drewN nq).heap[g]? = some (PzC s ⟨a, d, 0⟩) := HP.out
      have hP2 := PzC_at P1 (a + 1)
      have hG2 := grown_store (grown_drewN (grown_refl w (some g)) nq) 1 (.int .i64 ((a + 1 : Nat) : Int))
      rw [show ((a + 1 : Nat) : Int) = (a : Int) + 1 by omega] at hP2 hG2
      have HP2 := Lib.hid hP2
      have HG2 := Lib.hid hG2
      clear hP2 hG2 P1 c0
      go_upto_region 3 with fail
      generalize (w.drewN nq).setCell ⟨g, 1, none⟩ (.int .i64 ((a : Int) + 1)) = W2 at *
      clear c1 f1
      have HFL := Lib.hid (failC g s ⟨a + 1, d, 0⟩ 81 W2 HP2.out)
      go_wp2_with fail
      refine (HFL.out).mono ?_; rintro e X ⟨rfl, hp, hg2⟩
      have hgr := World.grownBy.trans HG2.out hg2
      clear hg2
      have hC := with0C s[a].toNat HB2.out X
      generalize withB 0 s[a].toNat = z at *
      unfold ValOld setA at hC
      have HC := Lib.hid hC
      clear hC
      go_wp2_with fail
      refine (HC.out).mono ?_; rintro e X2 ⟨rfl, o2⟩
      have HPX := Lib.hid (o2.block hp)
      have HGX := Lib.hid (grown_old_ hgr o2)
      have hl := leafC 2 z X2
      unfold setA at hl
      have HLF := Lib.hid hl
      clear hl o2 hp hgr
      go_wp2_with fail
      refine HLF.out.mono ?_
      rintro e wl ⟨v, rfl, hol, ol⟩
      have HLB : Hid (LB w s g (failP ⟨a + 1, d, 0⟩ 81) v (leafN 2 z) wl) := ⟨ol.block HPX.out, hol.base HGX.out.size, grown_old_ HGX.out ol⟩
      clear hol ol
      go_wp2_with fail
      go_ret
      rw [HE.out]
      exact ⟨v, rfl, HLB.out⟩
    · have b1 : ((s[a].toNat : Int) == 42) = false := by simp; omega
      have b2 : ((s[a].toNat : Int) == 43) = true := by simp; omega
      clear h
      go_enter Try.func89, Try.ntmps89
      go_wp2_with fail
      go_quiet (fail)
      have P1 : (w.drewN nq).heap[g]? = some (PzC s ⟨a, d, 0⟩) := HP.out
      have hP2 := PzC_at P1 (a + 1)
      have hG2 := grown_store (grown_drewN (grown_refl w (some g)) nq) 1 (.int .i64 ((a + 1 : Nat) : Int))
      rw [show ((a + 1 : Nat) : Int) = (a : Int) + 1 by omega] at hP2 hG2
      have HP2 := Lib.hid hP2
      have HG2 := Lib.hid hG2
      clear hP2 hG2 P1 c0
      go_upto_region 3 with fail
      generalize (w.drewN nq).setCell ⟨g, 1, none⟩ (.int .i64 ((a : Int) + 1)) = W2 at *
      clear c1 f1
      have HFL := Lib.hid (failC g s ⟨a + 1, d, 0⟩ 81 W2 HP2.out)
      go_wp2_with fail
      refine (HFL.out).mono ?_; rintro e X ⟨rfl, hp, hg2⟩
      have hgr := World.grownBy.trans HG2.out hg2
      clear hg2
      have hC := with0C s[a].toNat HB2.out X
      generalize withB 0 s[a].toNat = z at *
      unfold ValOld setA at hC
      have HC := Lib.hid hC
      clear hC
      go_wp2_with fail
      refine (HC.out).mono ?_; rintro e X2 ⟨rfl, o2⟩
      have HPX := Lib.hid (o2.block hp)
      have HGX := Lib.hid (grown_old_ hgr o2)
      have hl := leafC 2 z X2
      unfold setA at hl
      have HLF := Lib.hid hl
      clear hl o2 hp hgr
      go_wp2_with fail
      refine HLF.out.mono ?_
      rintro e wl ⟨v, rfl, hol, ol⟩
      have HLB : Hid (LB w s g (failP ⟨a + 1, d, 0⟩ 81) v (leafN 2 z) wl) := ⟨ol.block HPX.out, hol.base HGX.out.size, grown_old_ HGX.out ol⟩
      clear hol ol
      go_wp2_with fail
      go_ret
      rw [HE.out]
      exact ⟨v, rfl, HLB.out⟩
    · have b1 : ((s[a].toNat : Int) == 42) = false := by simp; omega
      have b2 : ((s[a].toNat : Int) == 43) = false := by simp; omega
      have b3 : ((s[a].toNat : Int) == 63) = true := by simp; omega
      clear h
      go_enter Try.func89, Try.ntmps89
      go_wp2_with fail
      go_quiet (fail)
      have P1 : (w.drewN nq).heap[g]? = some (PzC s ⟨a, d, 0⟩) := HP.out
      have hP2 := PzC_at P1 (a + 1)
      have hG2 := grown_store (grown_drewN (grown_refl w (some g)) nq) 1 (.int .i64 ((a + 1 : Nat) : Int))
      rw [show ((a + 1 : Nat) : Int) = (a : Int) + 1 by omega] at hP2 hG2
      have HP2 := Lib.hid hP2
      have HG2 := Lib.hid hG2
      clear hP2 hG2 P1 c0
      go_upto_region 3 with fail
      generalize (w.drewN nq).setCell ⟨g, 1, none⟩ (.int .i64 ((a : Int) + 1)) = W2 at *
      clear c1 f1
      have HFL := Lib.hid (failC g s ⟨a + 1, d, 0⟩ 81 W2 HP2.out)
      go_wp2_with fail
      refine (HFL.out).mono ?_; rintro e X ⟨rfl, hp, hg2⟩
      have hgr := World.grownBy.trans HG2.out hg2
      clear hg2
      have hC := with0C s[a].toNat HB2.out X
      generalize withB 0 s[a].toNat = z at *
      unfold ValOld setA at hC
      have HC := Lib.hid hC
      clear hC
      go_wp2_with fail
      refine (HC.out).mono ?_; rintro e X2 ⟨rfl, o2⟩
      have HPX := Lib.hid (o2.block hp)
      have HGX := Lib.hid (grown_old_ hgr o2)
      have hl := leafC 2 z X2
      unfold setA at hl
      have HLF := Lib.hid hl
      clear hl o2 hp hgr
      go_wp2_with fail
      refine HLF.out.mono ?_
      rintro e wl ⟨v, rfl, hol, ol⟩
      have HLB : Hid (LB w s g (failP ⟨a + 1, d, 0⟩ 81) v (leafN 2 z) wl) := ⟨ol.block HPX.out, hol.base HGX.out.size, grown_old_ HGX.out ol⟩
      clear hol ol
      go_wp2_with fail
      go_ret
      rw [HE.out]
      exact ⟨v, rfl, HLB.out⟩
  rw [if_neg hrep] at hR
  have n42 : ((s[a].toNat : Int) == 42) = false := by simp; omega
  have n43 : ((s[a].toNat : Int) == 43) = false := by simp; omega
  have n63 : ((s[a].toNat : Int) == 63) = false := by simp; omega
  clear hrep
  by_cases h40 : s[a].toNat = 40
  · rw [if_pos h40, hu] at hR
    have b1 : ((s[a].toNat : Int) == 40) = true := by simp; omega
    clear h40 hu
    go_enter Try.func89, Try.ntmps89
    go_wp2_with fail
    go_quiet (fail)
    have P1 : (w.drewN nq).heap[g]? = some (PzC s ⟨a, d, 0⟩) := HP.out
    have hP2 := PzC_at P1 (a + 1)
    have hG2 := grown_store (grown_drewN (grown_refl w (some g)) nq) 1 (.int .i64 ((a + 1 : Nat) : Int))
    rw [show ((a + 1 : Nat) : Int) = (a : Int) + 1 by omega] at hP2 hG2
    have HP2 := Lib.hid hP2
    have HG2 := Lib.hid hG2
    clear hP2 hG2 P1 c0
    go_upto_region 3 with fail
    generalize (w.drewN nq).setCell ⟨g, 1, none⟩ (.int .i64 ((a : Int) + 1)) = W2 at *
    clear c1 f1
    obtain ⟨c0, c1, c2, c3, f1, f2, f3⟩ := PzC_cells HP2.out
    simp only at c0 c1 c2 c3
    clear c0 c1 c3 f1 f3
    have hP3 := PzC_deep HP2.out (d + 1)
    have hG3 := grown_store HG2.out 2 (.int .i64 ((d + 1 : Nat) : Int))
    rw [show ((d + 1 : Nat) : Int) = (d : Int) + 1 by omega] at hP3 hG3
    simp only at hP3
    have HP3 := Lib.hid hP3
    have HG3 := Lib.hid hG3
    clear hP3 hG3 HP2 HG2
    go_upto_region 23 with fail
    generalize W2.setCell ⟨g, 2, none⟩ (.int .i64 ((d : Int) + 1)) = W3 at *
    clear c2 f2
    obtain ⟨c0, c1, c2, c3, f1, f2, f3⟩ := PzC_cells HP3.out
    simp only at c0 c1 c2 c3
    rw [show ((d + 1 : Nat) : Int) = (d : Int) + 1 by omega] at c2
    clear c0 c1 c3 f1 f2 f3
    by_cases hd24 : 24 < d + 1
    · have hE : R = ([], failP ⟨a + 1, d + 1, 0⟩ 84) := by rw [if_pos hd24] at hR; exact (Option.some.inj hR).symm
      have HE := Lib.hid hE
      have hdd : (24 : Int) < (d : Int) + 1 := by omega
      have HFL := Lib.hid (failC g s ⟨a + 1, d + 1, 0⟩ 84 W3 HP3.out)
      clear hE hR hd24
      go_wp2_with fail
      refine (HFL.out).mono ?_; rintro e X ⟨rfl, hp, hg2⟩
      have HLB : Hid (LB w s g (failP ⟨a + 1, d + 1, 0⟩ 84) (.slice none 0 0) [] X) := ⟨hp, Own.nil_ _ _ _ _, World.grownBy.trans HG3.out hg2⟩
      clear hp hg2 c2
      go_wp2_with fail
      go_ret
      rw [HE.out]
      exact ⟨_, rfl, HLB.out⟩
    · have hdd : ¬ (24 : Int) < (d : Int) + 1 := by omega
      rw [if_neg hd24] at hR
      have hq' : ({ at_ := ({ at_ := a + 1, deep := d, e := 0 } : Ps).at_, deep := ({ at_ := a + 1, deep := d, e := 0 } : Ps).deep + 1, e := ({ at_ := a + 1, deep := d, e := 0 } : Ps).e } : Ps) = ⟨a + 1, d + 1, 0⟩ := rfl
      rw [hq'] at hR
      cases hq : altP (bs s) f ⟨a + 1, d + 1, 0⟩ with
      | none => rw [hq] at hR; cases hR
      | some lr =>
        rw [hq] at hR
        obtain ⟨l, r⟩ := lr
        have hst2 : Start s.size ⟨a + 1, d + 1, 0⟩ := ⟨rfl, hlt, by simp only; omega⟩
        have hGood := (parse_good (bs s) f).1 ⟨a + 1, d + 1, 0⟩ (l, r) (by rw [bs_length]; exact hst2) hq
        rw [bs_length] at hGood
        have hA := IH.out g s ⟨a + 1, d + 1, 0⟩ (l, r) W3 HP3.out hs hst2 hq
        obtain ⟨ra, rd, re⟩ := r
        have hdp : d + 1 ≤ rd := hGood.dp
        have hab : ra ≤ s.size + 26 ∧ rd ≤ 25 := by
          by_cases h0 : re = 0
          · obtain ⟨y1, y2, y3, _⟩ := hGood.ok h0
            simp only at y1 y3
            omega
          · obtain ⟨y1, y2, _⟩ := hGood.er h0
            simp only at y1 y2
            omega
        obtain ⟨hab1, hab2⟩ := hab
        have hRE : R = (l, { at_ := (if re = 0 ∧ s.size ≤ ra then failP ⟨ra, rd, re⟩ 83 else ⟨ra, rd, re⟩ : Ps).at_ + 1, deep := (if re = 0 ∧ s.size ≤ ra then failP ⟨ra, rd, re⟩ 83 else ⟨ra, rd, re⟩ : Ps).deep - 1, e := (if re = 0 ∧ s.size ≤ ra then failP ⟨ra, rd, re⟩ 83 else ⟨ra, rd, re⟩ : Ps).e }) := by
          have := (Option.some.inj hR).symm
          rw [bs_length] at this
          exact this
        have HRE := Lib.hid hRE
        have HA := Lib.hid hA
        clear hA hRE hR hGood hst2 hq hq'
        go_wp2_with fail
        refine (HA.out).mono ?_; rintro e V ⟨v, rfl, hLB⟩
        have hL : LB w s g ⟨ra, rd, re⟩ v l V := ⟨hLB.pz, hLB.ow.base HG3.out.size, World.grownBy.trans HG3.out hLB.gr⟩
        clear hLB c2
        go_upto_region 27 with fail
        obtain ⟨c0, c1, c2, c3, f1, f2, f3⟩ := PzC_cells hL.pz
        simp only at c0 c1 c2 c3
        clear c2 f1 f2 f3
        by_cases h0 : re = 0
        · subst h0
          by_cases hl : s.size ≤ ra
          · have hd1 : decide (s.size ≤ ra) = true := decide_eq_true hl
            have hRE := HRE.out
            rw [if_pos ⟨rfl, hl⟩] at hRE
            obtain ⟨d2, e2, hfe⟩ : ∃ d2 e2, failP ⟨ra, rd, 0⟩ 83 = ⟨ra, d2, e2⟩ ∧ d2 = rd := by unfold failP; split <;> exact ⟨_, _, rfl, rfl⟩
            obtain ⟨hfe, rfl⟩ := hfe
            rw [hfe] at hRE
            have HE := Lib.hid hRE
            have HFE := Lib.hid hfe
            clear hRE HRE hl hfe
            go_quiet (fail)
            have hL2 := hL.drewN nq
            clear c0 c1 c3 hL
            have HFL := Lib.hid (failC g s ⟨ra, d2, 0⟩ 83 _ hL2.pz)
            go_wp2_with fail
            refine (HFL.out).mono ?_; rintro e X ⟨rfl, hp, hg2⟩
            rw [HFE.out] at hp
            have hL3 := hL2.keep hp hg2
            clear hL2 hp hg2 HFL hd1
            obtain ⟨c0, c1, c2, c3, f1, f2, f3⟩ := PzC_cells hL3.pz
            simp only at c0 c1 c2 c3
            clear c0 c2 c3 f2 f3
            have hL4 := hL3.up
            simp only [upP] at hL4
            clear hL3
            go_upto_region 30 with fail
            generalize X.setCell ⟨g, 1, none⟩ (.int .i64 ((ra : Int) + 1)) = X4 at *
            clear c1 f1
            obtain ⟨c0, c1, c2, c3, f1, f2, f3⟩ := PzC_cells hL4.pz
            simp only at c0 c1 c2 c3
            clear c0 c1 c3 f1 f3
            have hP5 := PzC_deep hL4.pz (d2 - 1)
            rw [show ((d2 - 1 : Nat) : Int) = (d2 : Int) - 1 by omega] at hP5
            simp only at hP5
            have HL5 := Lib.hid (hL4.keep hP5 (grown_store (grown_refl X4 _) 2 (.int .i64 ((d2 : Int) - 1))))
            clear hP5 hL4
            go_wp2_with fail
            go_ret
            rw [HE.out]
            exact ⟨v, rfl, HL5.out⟩
          · have hd1 : decide (s.size ≤ ra) = false := decide_eq_false hl
            have hRE := HRE.out
            rw [if_neg (fun h => hl h.2)] at hRE
            have HE := Lib.hid hRE
            clear hRE HRE hl
            go_quiet (fail)
            have hL3 := hL.drewN nq
            clear c0 c1 c3 hL
            generalize V.drewN nq = X at *
            clear hd1
            obtain ⟨c0, c1, c2, c3, f1, f2, f3⟩ := PzC_cells hL3.pz
            simp only at c0 c1 c2 c3
            clear c0 c2 c3 f2 f3
            have hL4 := hL3.up
            simp only [upP] at hL4
            clear hL3
            go_upto_region 30 with fail
            generalize X.setCell ⟨g, 1, none⟩ (.int .i64 ((ra : Int) + 1)) = X4 at *
            clear c1 f1
            obtain ⟨c0, c1, c2, c3, f1, f2, f3⟩ := PzC_cells hL4.pz
            simp only at c0 c1 c2 c3
            clear c0 c1 c3 f1 f3
            have hP5 := PzC_deep hL4.pz (rd - 1)
            rw [show ((rd - 1 : Nat) : Int) = (rd : Int) - 1 by omega] at hP5
            simp only at hP5
            have HL5 := Lib.hid (hL4.keep hP5 (grown_store (grown_refl X4 _) 2 (.int .i64 ((rd : Int) - 1))))
            clear hP5 hL4
            go_wp2_with fail
            go_ret
            rw [HE.out]
            exact ⟨v, rfl, HL5.out⟩
        · have hd1 : (re == 0) = false := by simpa using h0
          have hRE := HRE.out
          rw [if_neg (fun h => h0 h.1)] at hRE
          have HE := Lib.hid hRE
          clear hRE HRE h0
          go_quiet (fail)
          have hL3 := hL.drewN nq
          clear c0 c1 c3 hL
          generalize V.drewN nq = X at *
          clear hd1
          obtain ⟨c0, c1, c2, c3, f1, f2, f3⟩ := PzC_cells hL3.pz
          simp only at c0 c1 c2 c3
          clear c0 c2 c3 f2 f3
          have hL4 := hL3.up
          simp only [upP] at hL4
          clear hL3
          go_upto_region 30 with fail
          generalize X.setCell ⟨g, 1, none⟩ (.int .i64 ((ra : Int) + 1)) = X4 at *
          clear c1 f1
          obtain ⟨c0, c1, c2, c3, f1, f2, f3⟩ := PzC_cells hL4.pz
          simp only at c0 c1 c2 c3
          clear c0 c1 c3 f1 f3
          have hP5 := PzC_deep hL4.pz (rd - 1)
          rw [show ((rd - 1 : Nat) : Int) = (rd : Int) - 1 by omega] at hP5
          simp only at hP5
          have HL5 := Lib.hid (hL4.keep hP5 (grown_store (grown_refl X4 _) 2 (.int .i64 ((rd : Int) - 1))))
          clear hP5 hL4
          go_wp2_with fail
          go_ret
          rw [HE.out]
          exact ⟨v, rfl, HL5.out⟩
  have n40 : ((s[a].toNat : Int) == 40) = false := by simp; omega
  rw [if_neg h40, hu] at hR
  have HE := Lib.hid (Option.some.inj hR).symm
  clear hR h40 hu
  go_enter Try.func89, Try.ntmps89
  go_wp2_with fail
  go_quiet (fail)
  have P1 : (w.drewN nq).heap[g]? = some (PzC s ⟨a, d, 0⟩) := HP.out
  have hP2 := PzC_at P1 (a + 1)
  have hG2 := grown_store (grown_drewN (grown_refl w (some g)) nq) 1 (.int .i64 ((a + 1 : Nat) : Int))
  rw [show ((a + 1 : Nat) : Int) = (a : Int) + 1 by omega] at hP2 hG2
  have HP2 := Lib.hid hP2
  have HG2 := Lib.hid hG2
  clear hP2 hG2 P1 c0
  go_upto_region 3 with fail
  generalize (w.drewN nq).setCell ⟨g, 1, none⟩ (.int .i64 ((a : Int) + 1)) = W2 at *
  clear c1 f1
  have hp := HP2.out
  have hgr := HG2.out
  generalize W2 = X at *
  have hC := with0C s[a].toNat HB2.out X
  generalize withB 0 s[a].toNat = z at *
  unfold ValOld setA at hC
  have HC := Lib.hid hC
  clear hC
  go_wp2_with fail
  refine (HC.out).mono ?_; rintro e X2 ⟨rfl, o2⟩
  have HPX := Lib.hid (o2.block hp)
  have HGX := Lib.hid (grown_old_ hgr o2)
  have hl := leafC 2 z X2
  unfold setA at hl
  have HLF := Lib.hid hl
  clear hl o2 hp hgr
  go_wp2_with fail
  refine HLF.out.mono ?_
  rintro e wl ⟨v, rfl, hol, ol⟩
  have HLB : Hid (LB w s g ⟨a + 1, d, 0⟩ v (leafN 2 z) wl) := ⟨ol.block HPX.out, hol.base HGX.out.size, grown_old_ HGX.out ol⟩
  clear hol ol
  go_wp2_with fail
  go_ret
  rw [HE.out]
  exact ⟨v, rfl, HLB.out⟩
end Go.Proofs.Ythadkjgadhbidaa
/-
  The walks of the reference's part, cat, alt.
-/
namespace Go.Proofs.Ythadkjgadhbidaa
open Go.RowKit
set_option linter.unusedVariables false

def AtomOK (f : Nat) : Prop := ∀ (g : Nat) (s : ByteArray) (p : Ps) (R : List Nd × Ps) (w : World), w.heap[g]? = some (PzC s p) → s.size ≤ 100000 → Start s.size p → p.at_ < s.size → atomP (bs s) f p = some R → Calls Try.prog 89 #[.pointer (some ⟨g, 0, none⟩)] w (NPost w g s R)
def PartOK (f : Nat) : Prop := ∀ (g : Nat) (s : ByteArray) (p : Ps) (R : List Nd × Ps) (w : World), w.heap[g]? = some (PzC s p) → s.size ≤ 100000 → Start s.size p → p.at_ < s.size → partP (bs s) f p = some R → Calls Try.prog 84 #[.pointer (some ⟨g, 0, none⟩)] w (NPost w g s R)
def CatOK (f : Nat) : Prop := ∀ (g : Nat) (s : ByteArray) (p : Ps) (R : List Nd × Ps) (w : World), w.heap[g]? = some (PzC s p) → s.size ≤ 100000 → Start s.size p → catP (bs s) f p = some R → Calls Try.prog 75 #[.pointer (some ⟨g, 0, none⟩)] w (NPost w g s R)
theorem Nb.ndB {l : List Nd} (h : Nb l) (hl : l.length ≤ 1000000) : NdB l := ⟨hl, fun x hx => by obtain ⟨h1, h2⟩ := h x hx; omega⟩
theorem Good.len {n : Nat} {p q : Ps} {l : List Nd} {k : Nat} (h : Good n p l q k) : l.length ≤ 2 * n + 1 := by
  by_cases he : q.e = 0
  · obtain ⟨_, _, h3, _, h5⟩ := h.ok he; omega
  · exact (h.er he).2.2
theorem Good.atb {n : Nat} {p q : Ps} {l : List Nd} {k : Nat} (h : Good n p l q k) : q.at_ ≤ n + 26 := by
  by_cases he : q.e = 0
  · obtain ⟨_, _, h3, _, h5⟩ := h.ok he; omega
  · have := (h.er he).1; omega
/-- The byte that is next. -/
theorem more_at {s : ByteArray} {q : Ps} (h : moreP (bs s) q = true) : q.e = 0 ∧ q.at_ < s.size := by
  have := (moreP_iff _ _).1 h
  rw [bs_length] at this
  exact this
def PartRel (w : World) (s : ByteArray) (g : Nat) (p0 : Ps) (R : List Nd × Ps) (v : Value) (wr : World) : Prop :=
  ∃ (f : Nat) (l : List Nd) (q : Ps), Good s.size p0 l q 2 ∧ LB w s g q v l wr ∧ Hid (partLoop (bs s) f l q = some R)
set_option maxHeartbeats 4000000 in
set_option maxRecDepth 100000 in
theorem partC (f : Nat) (ih : AtomOK f) : PartOK (f + 1) := by
  intro g s p R w h hs hst hlt hR
  have hgl := lt_of_block h
  rw [partP] at hR
  cases hq : atomP (bs s) f p with
  | none => rw [hq] at hR; cases hR
  | some lq =>
    rw [hq] at hR
    obtain ⟨l0, q0⟩ := lq
    have hA := ih g s p (l0, q0) w h hs hst hlt hq
    have hG0 : Good (bs s).length p l0 q0 2 := (parse_good (bs s) f).2.2.2.2.2.2 p (l0, q0) (by rw [bs_length]; exact hst) (by rw [bs_length]; exact hlt) hq
    rw [bs_length] at hG0
    have HR : Hid (partLoop (bs s) f l0 q0 = some R) := Lib.hid hR
    have HA := Lib.hid hA
    have HG0 := Lib.hid hG0
    clear hA hG0 hR hq ih h hst hlt
    generalize p = p0 at *
    go_enter Try.func84, Try.ntmps84
    go_wp2_with fail
    refine (HA.out).mono ?_; rintro e V ⟨v, rfl, hLB⟩
    go_wp2_with fail
    go_loopw [3] (fun s3 wr => PartRel w s g p0 R s3 wr) (fun _ wr => s.size + 100 - atOf g wr)
    case atStart => exact ⟨f, l0, q0, HG0.out, hLB, HR⟩
    case round =>
      clear HG0 hLB HR HA
      obtain ⟨f1, l, q, hGD, hL, HP⟩ := hrel
      have HMEAS := Lib.hid (atOf_eq hL.pz)
      have hatb := hGD.atb
      have hlen := hGD.len
      obtain ⟨a, d, e⟩ := q
      simp only at hatb
      cases f1 with
      | zero => exact absurd HP.out (by intro h; simp [partLoop] at h)
      | succ f =>
      have hP := HP.out
      rw [partLoop] at hP
      have hM := moreC g s ⟨a, d, e⟩ wr hL.pz (by omega) (by simp only; omega)
      by_cases hm : moreP (bs s) ⟨a, d, e⟩ = true
      · rw [if_pos hm] at hP
        rw [hm] at hM
        have HM := Lib.hid hM
        obtain ⟨he0, hlt⟩ := more_at hm
        simp only at he0 hlt
        subst he0
        have hl0 : 0 < l.length := (hGD.ok rfl).2.2.2.1
        have hbb : bAt (bs s) ⟨a, d, 0⟩ = s[a].toNat := bs_get s a hlt
        rw [hbb] at hP
        have HGD := Lib.hid hGD
        have hPP := Lib.hid hP
        have i1 : (0 : Int) ≤ (a : Int) := by omega
        have i2 : (a : Int) < (s.size : Int) := by omega
        obtain ⟨Al, cl, rfl, hts, _⟩ := hL.ow.shape
        clear hM hm hP HP hGD hbb hatb
        go_wp2_with fail
        refine (HM.out).mono ?_; rintro e w' ⟨rfl, n, rfl⟩
        have hL1 := hL.drewN n
        go_upto_region 3 with fail
        generalize wr.drewN n = V at *
        clear hL hts
        obtain ⟨c0, c1, c2, c3, f1, f2, f3⟩ := PzC_cells hL1.pz
        simp only at c0 c1 c2 c3
        clear c2 c3 f1 f2 f3
        by_cases h42 : s[a].toNat = 42
        · have HN := hPP.out
          rw [if_pos h42] at HN
          have HN : Hid (partLoop (bs s) f (joinN 5 l []) ⟨a + 1, d, 0⟩ = some R) := Lib.hid HN
          have b1 : ((s[a].toNat : Int) == 42) = true := by simp; omega
          clear h42 hPP
          go_quiet (fail)
          have hLz := hL1.drewN nq
          clear c0 c1 hL1
          generalize V.drewN nq = Z at *
          obtain ⟨_, _, hsv, hts, _⟩ := hLz.ow.shape
          injection hsv with hs1 _ hs2
          subst hs1 hs2
          have hJ := joinC 5 Al none cl 0 l [] Z hts.rs Rs.nil_ hl0 (by omega) ⟨by simp, by simp⟩
          have HJ : Hid (Calls Try.prog 77 #[.int .i64 5, .slice Al l.length cl, .slice none 0 0] Z (NodesOld (joinN 5 l []) Z)) := Lib.hid hJ
          clear hJ
          go_wp2_with fail
          refine (HJ.out).mono ?_; rintro e Y ⟨v, rfl, hoj, oj⟩
          have hL2 : LB w s g ⟨a, d, 0⟩ v (joinN 5 l []) Y := ⟨oj.block hLz.pz, hoj.base hLz.gr.size, grown_old_ hLz.gr oj⟩
          clear hoj oj HJ hts
          obtain ⟨c0, c1, c2, c3, f1, f2, f3⟩ := PzC_cells hL2.pz
          simp only at c0 c1 c2 c3
          clear c0 c2 c3 f2 f3
          have hL3 := hL2.up
          simp only [upP] at hL3
          have hG2 : Good s.size p0 (joinN 5 l []) ⟨a + 1, d, 0⟩ 2 := by
            obtain ⟨y1, y2, y3, y4, y5⟩ := HGD.out.ok rfl
            simp only at y1 y2 y3 y5
            exact ⟨HGD.out.dp, HGD.out.nb.join Nb.nil_ hl0, fun _ => ⟨y1, by simp only; omega, by simp only; omega, by rw [join_len]; omega, by rw [join_len]; simp only [List.length_nil]; omega⟩, fun h => absurd rfl h⟩
          have HG2 := Lib.hid hG2
          have HME := Lib.hid (atOf_eq hL3.pz)
          clear hL2 hG2 hLz
          go_wp2_with fail
          go_roundw
          case rel => exact ⟨f, joinN 5 l [], ⟨a + 1, d, 0⟩, HG2.out, hL3, HN⟩
          case measure => rw [HME.out, HMEAS.out]; omega
        have n42 : ((s[a].toNat : Int) == 42) = false := by simp; omega
        by_cases h43 : s[a].toNat = 43
        · have HN := hPP.out
          rw [if_neg h42, if_pos h43] at HN
          have HN : Hid (partLoop (bs s) f (joinN 6 l []) ⟨a + 1, d, 0⟩ = some R) := Lib.hid HN
          have b1 : ((s[a].toNat : Int) == 43) = true := by simp; omega
          clear h42 h43 hPP
          go_quiet (fail)
          have hLz := hL1.drewN nq
          clear c0 c1 hL1
          generalize V.drewN nq = Z at *
          obtain ⟨_, _, hsv, hts, _⟩ := hLz.ow.shape
          injection hsv with hs1 _ hs2
          subst hs1 hs2
          have hJ := joinC 6 Al none cl 0 l [] Z hts.rs Rs.nil_ hl0 (by omega) ⟨by simp, by simp⟩
          have HJ : Hid (Calls Try.prog 77 #[.int .i64 6, .slice Al l.length cl, .slice none 0 0] Z (NodesOld (joinN 6 l []) Z)) := Lib.hid hJ
          clear hJ
          go_wp2_with fail
          refine (HJ.out).mono ?_; rintro e Y ⟨v, rfl, hoj, oj⟩
          have hL2 : LB w s g ⟨a, d, 0⟩ v (joinN 6 l []) Y := ⟨oj.block hLz.pz, hoj.base hLz.gr.size, grown_old_ hLz.gr oj⟩
          clear hoj oj HJ hts
          obtain ⟨c0, c1, c2, c3, f1, f2, f3⟩ := PzC_cells hL2.pz
          simp only at c0 c1 c2 c3
          clear c0 c2 c3 f2 f3
          have hL3 := hL2.up
          simp only [upP] at hL3
          have hG2 : Good s.size p0 (joinN 6 l []) ⟨a + 1, d, 0⟩ 2 := by
            obtain ⟨y1, y2, y3, y4, y5⟩ := HGD.out.ok rfl
            simp only at y1 y2 y3 y5
            exact ⟨HGD.out.dp, HGD.out.nb.join Nb.nil_ hl0, fun _ => ⟨y1, by simp only; omega, by simp only; omega, by rw [join_len]; omega, by rw [join_len]; simp only [List.length_nil]; omega⟩, fun h => absurd rfl h⟩
          have HG2 := Lib.hid hG2
          have HME := Lib.hid (atOf_eq hL3.pz)
          clear hL2 hG2 hLz
          go_wp2_with fail
          go_roundw
          case rel => exact ⟨f, joinN 6 l [], ⟨a + 1, d, 0⟩, HG2.out, hL3, HN⟩
          case measure => rw [HME.out, HMEAS.out]; omega
        have n43 : ((s[a].toNat : Int) == 43) = false := by simp; omega
        by_cases h63 : s[a].toNat = 63
        · have HN := hPP.out
          rw [if_neg h42, if_neg h43, if_pos h63] at HN
          have HN : Hid (partLoop (bs s) f (joinN 7 l []) ⟨a + 1, d, 0⟩ = some R) := Lib.hid HN
          have b1 : ((s[a].toNat : Int) == 63) = true := by simp; omega
          clear h42 h43 h63 hPP
          go_quiet (fail)
          have hLz := hL1.drewN nq
          clear c0 c1 hL1
          generalize V.drewN nq = Z at *
          obtain ⟨_, _, hsv, hts, _⟩ := hLz.ow.shape
          injection hsv with hs1 _ hs2
          subst hs1 hs2
          have hJ := joinC 7 Al none cl 0 l [] Z hts.rs Rs.nil_ hl0 (by omega) ⟨by simp, by simp⟩
          have HJ : Hid (Calls Try.prog 77 #[.int .i64 7, .slice Al l.length cl, .slice none 0 0] Z (NodesOld (joinN 7 l []) Z)) := Lib.hid hJ
          clear hJ
          go_wp2_with fail
          refine (HJ.out).mono ?_; rintro e Y ⟨v, rfl, hoj, oj⟩
          have hL2 : LB w s g ⟨a, d, 0⟩ v (joinN 7 l []) Y := ⟨oj.block hLz.pz, hoj.base hLz.gr.size, grown_old_ hLz.gr oj⟩
          clear hoj oj HJ hts
          obtain ⟨c0, c1, c2, c3, f1, f2, f3⟩ := PzC_cells hL2.pz
          simp only at c0 c1 c2 c3
          clear c0 c2 c3 f2 f3
          have hL3 := hL2.up
          simp only [upP] at hL3
          have hG2 : Good s.size p0 (joinN 7 l []) ⟨a + 1, d, 0⟩ 2 := by
            obtain ⟨y1, y2, y3, y4, y5⟩ := HGD.out.ok rfl
            simp only at y1 y2 y3 y5
            exact ⟨HGD.out.dp, HGD.out.nb.join Nb.nil_ hl0, fun _ => ⟨y1, by simp only; omega, by simp only; omega, by rw [join_len]; omega, by rw [join_len]; simp only [List.length_nil]; omega⟩, fun h => absurd rfl h⟩
          have HG2 := Lib.hid hG2
          have HME := Lib.hid (atOf_eq hL3.pz)
          clear hL2 hG2 hLz
          go_wp2_with fail
          go_roundw
          case rel => exact ⟨f, joinN 7 l [], ⟨a + 1, d, 0⟩, HG2.out, hL3, HN⟩
          case measure => rw [HME.out, HMEAS.out]; omega
        have n63 : ((s[a].toNat : Int) == 63) = false := by simp; omega
        have HN := hPP.out
        rw [if_neg h42, if_neg h43, if_neg h63] at HN
        have HE := Lib.hid (Option.some.inj HN).symm
        clear h42 h43 h63 hPP HN
        go_quiet (fail)
        have hLz := hL1.drewN nq
        clear c0 c1 hL1
        generalize V.drewN nq = Z at *
        go_wp2_with fail
        go_ret
        rw [HE.out]
        exact ⟨_, rfl, hLz⟩
      · rw [if_neg hm] at hP
        have hm2 : moreP (bs s) ⟨a, d, e⟩ = false := by simpa using hm
        rw [hm2] at hM
        have HM := Lib.hid hM
        have HE := Lib.hid (Option.some.inj hP).symm
        clear hM hP hm hm2 HP hGD
        go_wp2_with fail
        refine (HM.out).mono ?_; rintro e w' ⟨rfl, n, rfl⟩
        have hL1 := hL.drewN n
        clear hL
        go_wp2_with fail
        go_ret
        rw [HE.out]
        exact ⟨_, rfl, hL1⟩
end Go.Proofs.Ythadkjgadhbidaa
/-
  The walks of the reference's cat, alt.
-/
namespace Go.Proofs.Ythadkjgadhbidaa
open Go.RowKit
set_option linter.unusedVariables false

theorem Good.cat_ {n : Nat} {p0 q q2 : Ps} {l x : List Nd} (hs : Start n p0) (hg : l = [] ∧ q = p0 ∨ Good n p0 l q 2 ∧ q.e = 0) (hx : Good n q x q2 2) (he2 : q2.e = 0) :
    Good n p0 (if l.length = 0 then x else joinN 3 l x) q2 2 := by
  obtain ⟨x1, x2, x3, x4, x5⟩ := hx.ok he2
  have hst : q.deep = p0.deep ∧ p0.at_ ≤ q.at_ ∧ Nb l ∧ (l.length = 0 ∧ q.at_ = p0.at_ ∨ 0 < l.length ∧ l.length + 2 ≤ 2 * (q.at_ - p0.at_) + 1) := by
    rcases hg with ⟨rfl, rfl⟩ | ⟨hg, he⟩
    · exact ⟨rfl, Nat.le_refl _, Nb.nil_, Or.inl ⟨rfl, rfl⟩⟩
    · obtain ⟨g1, g2, g3, g4, g5⟩ := hg.ok he
      exact ⟨g1, g2, hg.nb, Or.inr ⟨g4, g5⟩⟩
  obtain ⟨s1, s2, s4, s5⟩ := hst
  refine ⟨by omega, ?_, fun _ => ⟨by omega, by omega, x3, ?_, ?_⟩, fun he => absurd he2 he⟩
  · split
    · exact hx.nb
    · exact s4.join hx.nb (by omega)
  · split
    · exact x4
    · rw [join_len]; omega
  · split
    · omega
    · rw [join_len]; omega
theorem Good.alt_ {n : Nat} {p0 q q2 : Ps} {l x : List Nd} (hg : Good n p0 l q 0) (he : q.e = 0) (hx : Good n (upP q) x q2 0) (he2 : q2.e = 0) : Good n p0 (joinN 4 l x) q2 0 := by
  obtain ⟨g1, g2, g3, g4, g5⟩ := hg.ok he
  obtain ⟨x1, x2, x3, x4, x5⟩ := hx.ok he2
  rw [upP_at] at x2 x5
  rw [upP_deep] at x1
  exact ⟨by omega, hg.nb.join hx.nb g4, fun _ => ⟨by omega, by omega, x3, by rw [join_len]; omega, by rw [join_len]; omega⟩, fun he => absurd he2 he⟩
def CatRel2 (w : World) (s : ByteArray) (g : Nat) (p0 : Ps) (R : List Nd × Ps) (F : Nat) (v : Value) (wr : World) : Prop :=
  ∃ (f : Nat) (l : List Nd) (q : Ps), f ≤ F ∧ (l = [] ∧ q = p0 ∨ Good s.size p0 l q 2 ∧ q.e = 0) ∧ LB w s g q v l wr ∧ Hid (catLoop (bs s) f l q = some R)
set_option maxHeartbeats 4000000 in
set_option maxRecDepth 100000 in
theorem catC (f : Nat) (ih : ∀ k, k ≤ f → PartOK k) : CatOK (f + 1) := by
  intro g s p R w h hs hst hR
  have hgl := lt_of_block h
  rw [catP] at hR
  have HR := Lib.hid hR
  have HLB : LB w s g p (.slice none 0 0) [] w := ⟨h, Own.nil_ _ _ _ _, grown_refl _ _⟩
  have HS := Lib.hid hst
  have IH := Lib.hid ih
  clear hR h hst ih
  generalize p = p0 at *
  go_enter Try.func75, Try.ntmps75
  go_wp2_with fail
  go_loopw [3] (fun s3 wr => CatRel2 w s g p0 R f s3 wr) (fun _ wr => s.size + 100 - atOf g wr)
  case atStart => exact ⟨f, [], p0, Nat.le_refl _, Or.inl ⟨rfl, rfl⟩, HLB, HR⟩
  case round =>
    clear HLB HR
    obtain ⟨f1, l, q, hf1, hgd, hL, HP⟩ := hrel
    have hq0 : q.e = 0 ∧ q.at_ ≤ s.size ∧ q.deep ≤ 24 ∧ l.length ≤ 2 * s.size + 1 := by
      rcases hgd with ⟨rfl, rfl⟩ | ⟨hg, he⟩
      · exact ⟨HS.out.1, HS.out.2.1, HS.out.2.2, by simp⟩
      · obtain ⟨g1, g2, g3, g4, g5⟩ := hg.ok he
        exact ⟨he, g3, by rw [g1]; exact HS.out.2.2, by omega⟩
    obtain ⟨a, d, e⟩ := q
    have HMEAS : Hid (atOf g wr = a) := Lib.hid (atOf_eq hL.pz)
    simp only at hq0
    obtain ⟨rfl, ha, hd24, hlen⟩ := hq0
    cases f1 with
    | zero => exact absurd HP.out (by intro h; simp [catLoop] at h)
    | succ f1 =>
    have hP := HP.out
    rw [catLoop] at hP
    have hM := fun n => moreC g s ⟨a, d, 0⟩ (wr.drewN n) hL.pz (by omega) (by simp only; omega)
    unfold BDraw at hM
    have HGD := Lib.hid hgd
    clear HP hgd
    by_cases hm : moreP (bs s) ⟨a, d, 0⟩ = true
    · rw [hm] at hM
      have HM := Lib.hid hM
      obtain ⟨_, hlt⟩ := more_at hm
      simp only at hlt
      have hbb : bAt (bs s) ⟨a, d, 0⟩ = s[a].toNat := bs_get s a hlt
      rw [hbb] at hP
      have i1 : (0 : Int) ≤ (a : Int) := by omega
      have i2 : (a : Int) < (s.size : Int) := by omega
      obtain ⟨c0, c1, c2, c3, f1', f2', f3'⟩ := PzC_cells hL.pz
      simp only at c0 c1 c2 c3
      clear c2 c3 f1' f2' f3' hM hbb
      by_cases h124 : s[a].toNat = 124
      · have b1 : ((s[a].toNat : Int) != 124) = false := by simp; omega
        have HST := Lib.hid hP
        rw [if_neg (fun h => h.2.1 h124)] at HST
        clear hP hm h124
        go_upto_region 2 with fail
        go_quiet ((go_at_call 76; exact Calls.quiet_of (HM.out _)))
        have hLz := hL.drewN nq
        clear c0 c1 hL
        generalize wr.drewN nq = Z at *
        have HE : Hid (R = (if l.length = 0 then leafN 1 0 else l, ⟨a, d, 0⟩)) := Lib.hid (Option.some.inj HST.out).symm
        obtain ⟨Al, cl, rfl, hts, _⟩ := hLz.ow.shape
        clear hts HST
        by_cases hl0 : l.length = 0
        · have HE2 : Hid (R = (leafN 1 0, ⟨a, d, 0⟩)) := Lib.hid (by rw [HE.out, if_pos hl0])
          have HLF := Lib.hid (leaf0C 1 Z)
          have hlb : ((l.length : Int) == 0) = true := by rw [beq_iff_eq]; omega
          clear hl0 HE
          go_wp2_with fail
          refine HLF.out.mono ?_
          rintro e wl ⟨v, rfl, hol, ol⟩
          have HLB : Hid (LB w s g ⟨a, d, 0⟩ v (leafN 1 0) wl) := ⟨ol.block hLz.pz, hol.base hLz.gr.size, grown_old_ hLz.gr ol⟩
          clear hol ol
          go_wp2_with fail
          go_ret
          rw [HE2.out]
          exact ⟨v, rfl, HLB.out⟩
        · have HE2 : Hid (R = (l, ⟨a, d, 0⟩)) := Lib.hid (by rw [HE.out, if_neg hl0])
          have hlb : ((l.length : Int) == 0) = false := by rw [beq_eq_false_iff_ne]; omega
          clear hl0 HE
          go_wp2_with fail
          go_ret
          rw [HE2.out]
          exact ⟨_, rfl, hLz⟩
      have n124 : ((s[a].toNat : Int) != 124) = true := by simp; omega
      by_cases h41 : s[a].toNat = 41
      · have b1 : ((s[a].toNat : Int) != 41) = false := by simp; omega
        have HST := Lib.hid hP
        rw [if_neg (fun h => h.2.2 h41)] at HST
        clear hP hm h41 h124
        go_upto_region 2 with fail
        go_quiet ((go_at_call 76; exact Calls.quiet_of (HM.out _)))
        have hLz := hL.drewN nq
        clear c0 c1 hL
        generalize wr.drewN nq = Z at *
        have HE : Hid (R = (if l.length = 0 then leafN 1 0 else l, ⟨a, d, 0⟩)) := Lib.hid (Option.some.inj HST.out).symm
        obtain ⟨Al, cl, rfl, hts, _⟩ := hLz.ow.shape
        clear hts HST
        by_cases hl0 : l.length = 0
        · have HE2 : Hid (R = (leafN 1 0, ⟨a, d, 0⟩)) := Lib.hid (by rw [HE.out, if_pos hl0])
          have HLF := Lib.hid (leaf0C 1 Z)
          have hlb : ((l.length : Int) == 0) = true := by rw [beq_iff_eq]; omega
          clear hl0 HE
          go_wp2_with fail
          refine HLF.out.mono ?_
          rintro e wl ⟨v, rfl, hol, ol⟩
          have HLB : Hid (LB w s g ⟨a, d, 0⟩ v (leafN 1 0) wl) := ⟨ol.block hLz.pz, hol.base hLz.gr.size, grown_old_ hLz.gr ol⟩
          clear hol ol
          go_wp2_with fail
          go_ret
          rw [HE2.out]
          exact ⟨v, rfl, HLB.out⟩
        · have HE2 : Hid (R = (l, ⟨a, d, 0⟩)) := Lib.hid (by rw [HE.out, if_neg hl0])
          have hlb : ((l.length : Int) == 0) = false := by rw [beq_eq_false_iff_ne]; omega
          clear hl0 HE
          go_wp2_with fail
          go_ret
          rw [HE2.out]
          exact ⟨_, rfl, hLz⟩
      have n41 : ((s[a].toNat : Int) != 41) = true := by simp; omega
      rw [if_pos ⟨hm, h124, h41⟩] at hP
      cases hq : partP (bs s) f1 ⟨a, d, 0⟩ with
      | none => rw [hq] at hP; cases hP
      | some xq =>
        rw [hq] at hP
        obtain ⟨x, q2⟩ := xq
        have hst2 : Start s.size ⟨a, d, 0⟩ := ⟨rfl, ha, hd24⟩
        have hA := fun W (hp : W.heap[g]? = some (PzC s ⟨a, d, 0⟩)) => IH.out f1 (by omega) g s ⟨a, d, 0⟩ (x, q2) W hp hs hst2 hlt hq
        have hGx : Good (bs s).length ⟨a, d, 0⟩ x q2 2 := (parse_good (bs s) f1).2.2.2.2.1 ⟨a, d, 0⟩ (x, q2) (by rw [bs_length]; exact hst2) (by rw [bs_length]; exact hlt) hq
        rw [bs_length] at hGx
        have HA := Lib.hid hA
        have HGX := Lib.hid hGx
        have HNX := Lib.hid hP
        clear hA hGx hP hm h124 h41 hst2 hq
        go_upto_region 2 with fail
        go_quiet ((go_at_call 76; exact Calls.quiet_of (HM.out _)))
        have hLz := hL.drewN nq
        clear c0 c1 hL HM
        generalize wr.drewN nq = Z at *
        have HAZ := Lib.hid (HA.out Z hLz.pz)
        clear HA n124 n41
        go_wp2_with fail
        refine (HAZ.out).mono ?_; rintro e V ⟨vx, rfl, hLx⟩
        have hLk := hLz.keep hLx.pz hLx.gr
        have hLx2 : LB w s g q2 vx x V := ⟨hLx.pz, hLx.ow.base hLz.gr.size, World.grownBy.trans hLz.gr hLx.gr⟩
        clear hLx hLz HAZ
        go_upto_region 4 with fail
        obtain ⟨a2, d2, e2⟩ := q2
        obtain ⟨c0, c1, c2, c3, f1', f2', f3'⟩ := PzC_cells hLk.pz
        simp only at c0 c1 c2 c3
        clear c0 c1 c2 f1' f2' f3'
        by_cases he2 : e2 = 0
        · subst he2
          have HNX2 := HNX.out
          rw [if_pos rfl] at HNX2
          have HNX3 := Lib.hid HNX2
          have hGN := Good.cat_ (l := l) (q := ⟨a, d, 0⟩) HS.out (HGD.out.imp id (fun h => ⟨h.1, rfl⟩)) HGX.out rfl
          have HGN := Lib.hid hGN
          have hat : a < a2 ∧ a2 ≤ s.size ∧ x.length ≤ 2 * s.size + 1 := by
            obtain ⟨x1, x2, x3, x4, x5⟩ := HGX.out.ok rfl
            simp only at x2 x3 x5
            omega
          obtain ⟨hat1, hat2, hxl⟩ := hat
          have HNBX := Lib.hid HGX.out.nb
          obtain ⟨Al, cl, rfl, htl, _⟩ := hLk.ow.shape
          obtain ⟨Ax, cx, rfl, htx, _⟩ := hLx2.ow.shape
          clear HNX2 HNX hGN
          by_cases hl0 : l.length = 0
          · have hlb : ((l.length : Int) == 0) = true := by rw [beq_iff_eq]; omega
            have HNX4 := HNX3.out
            have HGN4 := HGN.out
            rw [if_pos hl0] at HNX4 HGN4
            have HNX5 := Lib.hid HNX4
            have HGN5 := Lib.hid HGN4
            have HME : Hid (atOf g V = a2) := Lib.hid (atOf_eq hLx2.pz)
            clear hl0 HNX4 HGN4 HNX3 HGN htl htx hLk
            go_wp2_with fail
            go_roundw
            case rel => exact ⟨f1, x, ⟨a2, d2, 0⟩, by omega, Or.inr ⟨HGN5.out, rfl⟩, hLx2, HNX5⟩
            case measure => rw [HME.out, HMEAS.out]; omega
          · have hlb : ((l.length : Int) == 0) = false := by rw [beq_eq_false_iff_ne]; omega
            have HNX4 := HNX3.out
            have HGN4 := HGN.out
            rw [if_neg hl0] at HNX4 HGN4
            have HNX5 := Lib.hid HNX4
            have HGN5 := Lib.hid HGN4
            have HJ := Lib.hid (joinC 3 Al Ax cl cx l x V htl.rs htx.rs (by omega) (by omega) (HNBX.out.ndB (by omega)))
            clear hl0 HNX4 HGN4 HNX3 HGN htl htx hLx2
            go_wp2_with fail
            refine (HJ.out).mono ?_; rintro e Y ⟨v, rfl, hoj, oj⟩
            have hL2 : LB w s g ⟨a2, d2, 0⟩ v (joinN 3 l x) Y := ⟨oj.block hLk.pz, hoj.base hLk.gr.size, grown_old_ hLk.gr oj⟩
            have HME : Hid (atOf g Y = a2) := Lib.hid (atOf_eq hL2.pz)
            clear hoj oj HJ hLk c3
            go_wp2_with fail
            go_roundw
            case rel => exact ⟨f1, joinN 3 l x, ⟨a2, d2, 0⟩, by omega, Or.inr ⟨HGN5.out, rfl⟩, hL2, HNX5⟩
            case measure => rw [HME.out, HMEAS.out]; omega
        · have hd1 : (e2 != 0) = true := by simpa using he2
          have HNX2 := HNX.out
          rw [if_neg he2] at HNX2
          have HE := Lib.hid (Option.some.inj HNX2).symm
          have HF : Hid (LB w s g ⟨a2, d2, e2⟩ (.slice none 0 0) [] V) := ⟨hLk.pz, Own.nil_ _ _ _ _, hLk.gr⟩
          clear HNX2 HNX he2 hLk hLx2
          go_wp2_with fail
          go_ret
          rw [HE.out]
          exact ⟨_, rfl, HF.out⟩
    · have hm2 : moreP (bs s) ⟨a, d, 0⟩ = false := by simpa using hm
      rw [hm2] at hM
      have HM := Lib.hid hM
      have HST := Lib.hid hP
      rw [if_neg (fun h => hm h.1)] at HST
      clear hM hP hm hm2
      go_upto_region 2 with fail
      go_quiet ((go_at_call 76; exact Calls.quiet_of (HM.out _)))
      have hLz := hL.drewN nq
      clear hL
      generalize wr.drewN nq = Z at *
      have HE : Hid (R = (if l.length = 0 then leafN 1 0 else l, ⟨a, d, 0⟩)) := Lib.hid (Option.some.inj HST.out).symm
      obtain ⟨Al, cl, rfl, hts, _⟩ := hLz.ow.shape
      clear hts HST
      by_cases hl0 : l.length = 0
      · have HE2 : Hid (R = (leafN 1 0, ⟨a, d, 0⟩)) := Lib.hid (by rw [HE.out, if_pos hl0])
        have HLF := Lib.hid (leaf0C 1 Z)
        have hlb : ((l.length : Int) == 0) = true := by rw [beq_iff_eq]; omega
        clear hl0 HE
        go_wp2_with fail
        refine HLF.out.mono ?_
        rintro e wl ⟨v, rfl, hol, ol⟩
        have HLB : Hid (LB w s g ⟨a, d, 0⟩ v (leafN 1 0) wl) := ⟨ol.block hLz.pz, hol.base hLz.gr.size, grown_old_ hLz.gr ol⟩
        clear hol ol
        go_wp2_with fail
        go_ret
        rw [HE2.out]
        exact ⟨v, rfl, HLB.out⟩
      · have HE2 : Hid (R = (l, ⟨a, d, 0⟩)) := Lib.hid (by rw [HE.out, if_neg hl0])
        have hlb : ((l.length : Int) == 0) = false := by rw [beq_eq_false_iff_ne]; omega
        clear hl0 HE
        go_wp2_with fail
        go_ret
        rw [HE2.out]
        exact ⟨_, rfl, hLz⟩
def AltRel (w : World) (s : ByteArray) (g : Nat) (p0 : Ps) (R : List Nd × Ps) (F : Nat) (v : Value) (wr : World) : Prop :=
  ∃ (f : Nat) (l : List Nd) (q : Ps), f ≤ F ∧ Good s.size p0 l q 0 ∧ LB w s g q v l wr ∧ Hid (altLoop (bs s) f l q = some R)
set_option maxHeartbeats 4000000 in
set_option maxRecDepth 100000 in
theorem altC (f : Nat) (ih : ∀ k, k ≤ f → CatOK k) : AltOK (f + 1) := by
  intro g s p R w h hs hst hR
  have hgl := lt_of_block h
  rw [altP] at hR
  cases hq0 : catP (bs s) f p with
  | none => rw [hq0] at hR; cases hR
  | some lq =>
  rw [hq0] at hR
  obtain ⟨l0, q0⟩ := lq
  have hA := ih f (Nat.le_refl _) g s p (l0, q0) w h hs hst hq0
  have hG0 : Good (bs s).length p l0 q0 0 := (parse_good (bs s) f).2.2.1 p (l0, q0) (by rw [bs_length]; exact hst) hq0
  rw [bs_length] at hG0
  have HR : Hid (altLoop (bs s) f l0 q0 = some R) := Lib.hid hR
  have HA := Lib.hid hA
  have HG0 := Lib.hid hG0
  have HS := Lib.hid hst
  have IH := Lib.hid ih
  clear hR h hst ih hA hG0 hq0
  generalize p = p0 at *
  go_enter Try.func53, Try.ntmps53
  go_wp2_with fail
  refine (HA.out).mono ?_; rintro e V0 ⟨v0, rfl, hLB⟩
  go_wp2_with fail
  go_loopw [3] (fun s3 wr => AltRel w s g p0 R f s3 wr) (fun _ wr => s.size + 100 - atOf g wr)
  case atStart => exact ⟨f, l0, q0, Nat.le_refl _, HG0.out, hLB, HR⟩
  case round =>
    clear hLB HR HA HG0
    obtain ⟨f1, l, q, hf1, hgd, hL, HP⟩ := hrel
    have hatb := hgd.atb
    have hlen := hgd.len
    obtain ⟨a, d, e⟩ := q
    have HMEAS : Hid (atOf g wr = a) := Lib.hid (atOf_eq hL.pz)
    simp only at hatb
    cases f1 with
    | zero => exact absurd HP.out (by intro h; simp [altLoop] at h)
    | succ f1 =>
    have hP := HP.out
    rw [altLoop] at hP
    have hM := fun n => moreC g s ⟨a, d, e⟩ (wr.drewN n) hL.pz (by omega) (by simp only; omega)
    unfold BDraw at hM
    have HGD := Lib.hid hgd
    clear HP hgd
    by_cases hm : moreP (bs s) ⟨a, d, e⟩ = true
    · rw [hm] at hM
      have HM := Lib.hid hM
      obtain ⟨he0, hlt⟩ := more_at hm
      simp only at hlt he0
      subst he0
      have hbb : bAt (bs s) ⟨a, d, 0⟩ = s[a].toNat := bs_get s a hlt
      rw [hbb] at hP
      have i1 : (0 : Int) ≤ (a : Int) := by omega
      have i2 : (a : Int) < (s.size : Int) := by omega
      obtain ⟨c0, c1, c2, c3, f1', f2', f3'⟩ := PzC_cells hL.pz
      simp only at c0 c1 c2 c3
      clear c2 c3 f1' f2' f3' hM hbb
      by_cases h124 : s[a].toNat = 124
      · have b1 : ((s[a].toNat : Int) == 124) = true := by simp; omega
        rw [if_pos ⟨hm, h124⟩] at hP
        have hu : upP ⟨a, d, 0⟩ = ⟨a + 1, d, 0⟩ := rfl
        rw [hu] at hP
        cases hq : catP (bs s) f1 ⟨a + 1, d, 0⟩ with
        | none => rw [hq] at hP; cases hP
        | some xq =>
        rw [hq] at hP
        obtain ⟨x, q2⟩ := xq
        obtain ⟨g1, g2, g3, g4, g5⟩ := HGD.out.ok rfl
        simp only at g1 g2 g3 g5
        have hl0 : 0 < l.length := g4
        have hst2 : Start s.size ⟨a + 1, d, 0⟩ := ⟨rfl, hlt, by simp only; rw [g1]; exact HS.out.2.2⟩
        have hA := fun W (hp : W.heap[g]? = some (PzC s ⟨a + 1, d, 0⟩)) => IH.out f1 (by omega) g s ⟨a + 1, d, 0⟩ (x, q2) W hp hs hst2 hq
        have hGx : Good (bs s).length ⟨a + 1, d, 0⟩ x q2 0 := (parse_good (bs s) f1).2.2.1 ⟨a + 1, d, 0⟩ (x, q2) (by rw [bs_length]; exact hst2) hq
        rw [bs_length] at hGx
        have HA := Lib.hid hA
        have HGX := Lib.hid hGx
        have HNX := Lib.hid hP
        clear hA hGx hP hm h124 hst2 hq g1 g2 g3 g4 g5
        go_upto_region 2 with fail
        go_quiet ((go_at_call 76; exact Calls.quiet_of (HM.out _)))
        have hLy := hL.drewN nq
        clear c0 c1 hL HM
        generalize wr.drewN nq = Z0 at *
        obtain ⟨c0, c1, c2, c3, f1', f2', f3'⟩ := PzC_cells hLy.pz
        simp only at c0 c1 c2 c3
        clear c0 c2 c3 f2' f3'
        have hLz := hLy.up
        simp only [upP] at hLz
        clear hLy
        go_upto_region 4 with fail
        generalize Z0.setCell ⟨g, 1, none⟩ (.int .i64 ((a : Int) + 1)) = Z at *
        clear c1 f1'
        have HAZ := Lib.hid (HA.out Z hLz.pz)
        clear HA
        go_wp2_with fail
        refine (HAZ.out).mono ?_; rintro e V ⟨vx, rfl, hLx⟩
        have hLk := hLz.keep hLx.pz hLx.gr
        have hLx2 : LB w s g q2 vx x V := ⟨hLx.pz, hLx.ow.base hLz.gr.size, World.grownBy.trans hLz.gr hLx.gr⟩
        clear hLx hLz HAZ
        go_upto_region 5 with fail
        obtain ⟨a2, d2, e2⟩ := q2
        obtain ⟨c0, c1, c2, c3, f1', f2', f3'⟩ := PzC_cells hLk.pz
        simp only at c0 c1 c2 c3
        clear c0 c1 c2 f1' f2' f3'
        by_cases he2 : e2 = 0
        · subst he2
          have HNX2 := HNX.out
          rw [if_pos rfl] at HNX2
          have HNX3 := Lib.hid HNX2
          have HGN := Lib.hid (Good.alt_ (l := l) (q := ⟨a, d, 0⟩) HGD.out rfl HGX.out rfl)
          have hat : a + 1 ≤ a2 ∧ a2 ≤ s.size ∧ x.length ≤ 2 * s.size + 1 := by
            obtain ⟨x1, x2, x3, x4, x5⟩ := HGX.out.ok rfl
            simp only at x2 x3 x5
            omega
          obtain ⟨hat1, hat2, hxl⟩ := hat
          have HNBX := Lib.hid HGX.out.nb
          obtain ⟨Al, cl, rfl, htl, _⟩ := hLk.ow.shape
          obtain ⟨Ax, cx, rfl, htx, _⟩ := hLx2.ow.shape
          have HJ := Lib.hid (joinC 4 Al Ax cl cx l x V htl.rs htx.rs hl0 (by omega) (HNBX.out.ndB (by omega)))
          clear HNX2 HNX htl htx hLx2
          go_wp2_with fail
          refine (HJ.out).mono ?_; rintro e Y ⟨v, rfl, hoj, oj⟩
          have hL2 : LB w s g ⟨a2, d2, 0⟩ v (joinN 4 l x) Y := ⟨oj.block hLk.pz, hoj.base hLk.gr.size, grown_old_ hLk.gr oj⟩
          have HME : Hid (atOf g Y = a2) := Lib.hid (atOf_eq hL2.pz)
          clear hoj oj HJ hLk c3
          go_wp2_with fail
          go_roundw
          case rel => exact ⟨f1, joinN 4 l x, ⟨a2, d2, 0⟩, by omega, HGN.out, hL2, HNX3⟩
          case measure => rw [HME.out, HMEAS.out]; omega
        · have hd1 : (e2 != 0) = true := by simpa using he2
          have HNX2 := HNX.out
          rw [if_neg he2] at HNX2
          have HE := Lib.hid (Option.some.inj HNX2).symm
          have HF : Hid (LB w s g ⟨a2, d2, e2⟩ (.slice none 0 0) [] V) := ⟨hLk.pz, Own.nil_ _ _ _ _, hLk.gr⟩
          clear HNX2 HNX he2 hLk hLx2
          go_wp2_with fail
          go_ret
          rw [HE.out]
          exact ⟨_, rfl, HF.out⟩
      · have b1 : ((s[a].toNat : Int) == 124) = false := by simp; omega
        have HST := Lib.hid hP
        rw [if_neg (fun h => h124 h.2)] at HST
        clear hP hm h124
        go_upto_region 2 with fail
        go_quiet ((go_at_call 76; exact Calls.quiet_of (HM.out _)))
        have hLz := hL.drewN nq
        clear c0 c1 hL
        generalize wr.drewN nq = Z at *
        have HE : Hid (R = (l, ⟨a, d, 0⟩)) := Lib.hid (Option.some.inj HST.out).symm
        clear HST
        go_wp2_with fail
        go_ret
        rw [HE.out]
        exact ⟨_, rfl, hLz⟩
    · have hm2 : moreP (bs s) ⟨a, d, e⟩ = false := by simpa using hm
      rw [hm2] at hM
      have HM := Lib.hid hM
      have HST := Lib.hid hP
      rw [if_neg (fun h => hm h.1)] at HST
      clear hM hP hm hm2
      go_upto_region 2 with fail
      go_quiet ((go_at_call 76; exact Calls.quiet_of (HM.out _)))
      have hLz := hL.drewN nq
      clear hL
      generalize wr.drewN nq = Z at *
      have HE : Hid (R = (l, ⟨a, d, e⟩)) := Lib.hid (Option.some.inj HST.out).symm
      clear HST
      go_wp2_with fail
      go_ret
      rw [HE.out]
      exact ⟨_, rfl, hLz⟩
end Go.Proofs.Ythadkjgadhbidaa
/-
  The walks of the program's reader of patterns: isMark, span, ended, add.
-/
namespace Go.Proofs.Ythadkjgadhbidaa
open Go.RowKit
set_option linter.unusedVariables false


end Go.Proofs.Ythadkjgadhbidaa
/-
  The walks of the program's reader of patterns: its state; ended, add.
-/
namespace Go.Proofs.Ythadkjgadhbidaa
open Go.RowKit
set_option linter.unusedVariables false

theorem own_apart {w : World} {B : Nat} {e : TypeId} {s : Nat} {v : Value} {n : Nat} {xs : List Value} (h : Own w B e s v n xs) {k : Nat} (hk : k < B) : some k ≠ v.ownBlock := by
  intro e
  have := (World.ownsRow.lt h k e.symm).1
  omega
def pzO (s : ByteArray) (a d : Nat) (lv : Value) : Obj := .cells #[.string s, .int .i64 a, .int .i64 d, lv] 133 (0, 0)
/-- The program's reader in memory: block g; the nodes that it has made. -/
structure RP (w0 w : World) (B g : Nat) (s : ByteArray) (a d : Nat) (lv : Value) (N : List Nd) : Prop where
  old : Old w0 w
  blk : w.heap[g]? = some (pzO s a d lv)
  own : Own w B 114 7 lv N.length (ndsV N)
  bg : w0.heap.size ≤ g
  lg : g < B
  lB : B ≤ w.heap.size
theorem RP.up {w0 w w' : World} {B g : Nat} {s : ByteArray} {a d : Nat} {lv : Value} {N : List Nd} (h : RP w0 w B g s a d lv N) (ho : Old w w') : RP w0 w' B g s a d lv N :=
  ⟨h.old.up ho, ho.block h.blk, h.own.up ho, h.bg, h.lg, Nat.le_trans h.lB ho.size⟩
theorem RP.drewN {w0 w : World} {B g : Nat} {s : ByteArray} {a d : Nat} {lv : Value} {N : List Nd} (h : RP w0 w B g s a d lv N) (n : Nat) : RP w0 (w.drewN n) B g s a d lv N := h.up ((Old.refl w).drewN n)
theorem set_gr (w : World) (g i : Nat) (v : Value) : w.grownBy (w.setCell ⟨g, i, none⟩ v) (some g) := ⟨rfl, rfl, rfl, by simp, fun k _ hk => heap_setCell_other w ⟨g, i, none⟩ k _ (fun e => hk (by simp [e]))⟩
theorem RP.at_ {w0 w : World} {B g : Nat} {s : ByteArray} {a d : Nat} {lv : Value} {N : List Nd} (h : RP w0 w B g s a d lv N) (a' : Nat) : RP w0 (w.setCell ⟨g, 1, none⟩ (.int .i64 (a' : Int))) B g s a' d lv N :=
  ⟨h.old.setCell h.bg _, heap_setCell_same w g 1 _ _ _ h.blk, World.ownsRow.kept h.own (set_gr w g 1 _) (Or.inr (fun e => own_apart h.own h.lg e.symm)), h.bg, h.lg, by simpa using h.lB⟩
theorem RP.cells {w0 w : World} {B g : Nat} {s : ByteArray} {a d : Nat} {lv : Value} {N : List Nd} (h : RP w0 w B g s a d lv N) :
    w.cell? ⟨g, 0, none⟩ = some (.string s) ∧ w.cell? ⟨g, 1, none⟩ = some (.int .i64 a) ∧ w.cell? ⟨g, 2, none⟩ = some (.int .i64 d) ∧ w.cell? ⟨g, 3, none⟩ = some lv ∧ w.frozen? ⟨g, 1, none⟩ = false ∧ w.frozen? ⟨g, 2, none⟩ = false ∧ w.frozen? ⟨g, 3, none⟩ = false :=
  ⟨by rw [cell_of_row w g 0 _ _ _ h.blk]; rfl, by rw [cell_of_row w g 1 _ _ _ h.blk]; rfl, by rw [cell_of_row w g 2 _ _ _ h.blk]; rfl, by rw [cell_of_row w g 3 _ _ _ h.blk]; rfl, frozen_of_row w g 1 _ _ h.blk, frozen_of_row w g 2 _ _ h.blk, frozen_of_row w g 3 _ _ h.blk⟩
/-- Before and behind the append. -/
structure AF (w0 : World) (B g ko : Nat) (s : ByteArray) (a d : Nat) (lv v12 : Value) (N : List Nd) (x : Nd) (b6 b7 b10 : Bool) (W ww : World) : Prop where
  base : b7 = false → RP w0 ww B g s a d lv N ∧ Old W ww
  row : b6 = true → b7 = false → ww.heap[ko]? = some (.cells (ndCells x).toArray 114 (0, 0))
  app : b7 = true → b10 = false → w0.heap.size ≤ g ∧ g < B ∧ B ≤ ww.heap.size ∧ Old w0 ww ∧ ww.heap[g]? = some (pzO s a d lv) ∧ Own ww B 114 7 v12 (N.length + 1) (ndsV (N ++ [x]))
  fin : b10 = true → RP w0 ww B g s a d v12 (N ++ [x])
theorem AF.mk6 {w0 : World} {B g ko : Nat} {s : ByteArray} {a d : Nat} {lv v12 : Value} {N : List Nd} {x : Nd} {W ww : World} (h : AF w0 B g ko s a d lv v12 N x false false false W ww) :
    AF w0 B g ww.heap.size s a d lv v12 N x true false false W (ww.alloc (.cells (ndCells x).toArray 114)) :=
  ⟨fun _ => ⟨(h.base rfl).1.up ((Old.refl ww).alloc _), (h.base rfl).2.alloc _⟩, fun _ _ => heap_alloc_new _ _, fun e => (by cases e), fun e => (by cases e)⟩
theorem AF.mk7 {w0 : World} {B g ko : Nat} {s : ByteArray} {a d : Nat} {lv v12 : Value} {N : List Nd} {x : Nd} {W ww w' : World} {v' : Value} (h : AF w0 B g ko s a d lv v12 N x true false false W ww)
    (ho : Own w' B 114 7 v' (N.length + 1) (ndsV N ++ ndCells x)) (hg : ww.grownBy w' lv.ownBlock) : AF w0 B g ko s a d lv v' N x true true false W w' := by
  have hR := (h.base rfl).1
  refine ⟨fun e => (by cases e), fun _ e => (by cases e), fun _ _ => ⟨hR.bg, hR.lg, Nat.le_trans hR.lB hg.size, Own.grown_old hR.old hR.own (Nat.le_trans hR.bg (Nat.le_of_lt hR.lg)) hg, (hg.block g (lt_of_block hR.blk) (own_apart hR.own hR.lg)).trans hR.blk, ?_⟩, fun e => (by cases e)⟩
  rw [ndsV_app]
  have : ndsV [x] = ndCells x := by simp [ndsV]
  rw [this]
  exact ho
theorem AF.mk10 {w0 : World} {B g ko : Nat} {s : ByteArray} {a d : Nat} {lv v12 : Value} {N : List Nd} {x : Nd} {b6 : Bool} {W ww : World} (h : AF w0 B g ko s a d lv v12 N x b6 true false W ww) : AF w0 B g ko s a d lv v12 N x b6 true true W (ww.setCell ⟨g, 3, none⟩ v12) := by
  obtain ⟨h1, h2, h3, h4, h5, h6⟩ := h.app rfl rfl
  have hl : (N ++ [x]).length = N.length + 1 := by simp
  refine ⟨fun e => (by cases e), fun _ e => (by cases e), fun _ e => (by cases e), fun _ => ⟨h4.setCell h1 _, heap_setCell_same ww g 3 _ _ _ h5, ?_, h1, h2, by simpa using h3⟩⟩
  rw [hl]
  exact World.ownsRow.kept h6 (set_gr ww g 3 _) (Or.inr (fun e => own_apart h6 h2 e.symm))
end Go.Proofs.Ythadkjgadhbidaa
/-
  The walks of the program's reader of patterns: escape.
-/
namespace Go.Proofs.Ythadkjgadhbidaa
open Go.RowKit
set_option linter.unusedVariables false

/-- The reader, and a block of the call's own for the result; what was there ahead of the call is as it was. -/
structure RK (w0 wb w : World) (B g : Nat) (s : ByteArray) (a d : Nat) (lv : Value) (N : List Nd) (k : Nat) (z : BSet) : Prop where
  rp : RP w0 w B g s a d lv N
  ng : k ≠ g
  nl : some k ≠ lv.ownBlock
  k0 : w0.heap.size ≤ k
  blk : w.heap[k]? = some (setC z)
  kb : wb.heap.size ≤ k
  kp : ∀ j, j < wb.heap.size → j ≠ g → w.heap[j]? = wb.heap[j]?
  sz : wb.heap.size ≤ w.heap.size
theorem RK.start {w0 w : World} {B g : Nat} {s : ByteArray} {a d : Nat} {lv : Value} {N : List Nd} (h : RP w0 w B g s a d lv N) : RK w0 w (w.alloc (.cells #[.int .u64 0, .int .u64 0, .int .u64 0, .int .u64 0] 40)) B g s a d lv N w.heap.size 0 :=
  ⟨h.up ((Old.refl w).alloc _), fun e => absurd (lt_of_block h.blk) (by omega), fun e => absurd (World.ownsRow.lt h.own _ e.symm).2 (by omega), h.old.size, heap_alloc_new w _, Nat.le_refl _, fun j hj _ => ((Old.refl w).alloc _).out.block j hj, by simp⟩
theorem RK.up {w0 wb w w' : World} {B g : Nat} {s : ByteArray} {a d : Nat} {lv : Value} {N : List Nd} {k : Nat} {z : BSet} (h : RK w0 wb w B g s a d lv N k z) (ho : Old w w') : RK w0 wb w' B g s a d lv N k z :=
  ⟨h.rp.up ho, h.ng, h.nl, h.k0, ho.block h.blk, h.kb, fun j hj hg => (ho.out.block j (Nat.lt_of_lt_of_le hj h.sz)).trans (h.kp j hj hg), Nat.le_trans h.sz ho.size⟩
theorem RK.at_ {w0 wb w : World} {B g : Nat} {s : ByteArray} {a d : Nat} {lv : Value} {N : List Nd} {k : Nat} {z : BSet} (h : RK w0 wb w B g s a d lv N k z) (a' : Nat) : RK w0 wb (w.setCell ⟨g, 1, none⟩ (.int .i64 (a' : Int))) B g s a' d lv N k z :=
  ⟨h.rp.at_ a', h.ng, h.nl, h.k0, (heap_setCell_other w ⟨g, 1, none⟩ k _ h.ng).trans h.blk, h.kb, fun j hj hg => (heap_setCell_other w ⟨g, 1, none⟩ j _ hg).trans (h.kp j hj hg), by simpa using h.sz⟩
theorem RK.plus {w0 wb w : World} {B g : Nat} {s : ByteArray} {a d : Nat} {lv : Value} {N : List Nd} {k : Nat} {z : BSet} (h : RK w0 wb w B g s a d lv N k z) (m : Nat) : RK w0 wb (w.setCell ⟨g, 1, none⟩ (.int .i64 ((a : Int) + (m : Int)))) B g s (a + m) d lv N k z := by
  have := h.at_ (a + m)
  rw [show ((a + m : Nat) : Int) = (a : Int) + (m : Int) by omega] at this
  exact this
theorem RP.far {w0 w : World} {B g : Nat} {s : ByteArray} {a d : Nat} {lv : Value} {N : List Nd} (h : RP w0 w B g s a d lv N) {k : Nat} (ng : k ≠ g) (nl : some k ≠ lv.ownBlock) (k0 : w0.heap.size ≤ k) (i : Nat) (v : Value) : RP w0 (w.setCell ⟨k, i, none⟩ v) B g s a d lv N :=
  ⟨h.old.setCell k0 _, (heap_setCell_other w ⟨k, i, none⟩ g _ (Ne.symm ng)).trans h.blk, World.ownsRow.kept h.own (set_gr w k i v) (Or.inr (fun e => nl e.symm)), h.bg, h.lg, by simpa using h.lB⟩
theorem RK.put {w0 wb w : World} {B g : Nat} {s : ByteArray} {a d : Nat} {lv : Value} {N : List Nd} {k : Nat} {z : BSet} (h : RK w0 wb w B g s a d lv N k z) (t : BSet) :
    RK w0 wb ((((w.setCell ⟨k, 0, none⟩ (.int .u64 (setW t 0))).setCell ⟨k, 1, none⟩ (.int .u64 (setW t 1))).setCell ⟨k, 2, none⟩ (.int .u64 (setW t 2))).setCell ⟨k, 3, none⟩ (.int .u64 (setW t 3))) B g s a d lv N k t :=
  ⟨(((h.rp.far h.ng h.nl h.k0 0 _).far h.ng h.nl h.k0 1 _).far h.ng h.nl h.k0 2 _).far h.ng h.nl h.k0 3 _, h.ng, h.nl, h.k0, setC_store h.blk t, h.kb,
    fun j hj hg => (set4_other w k j _ _ _ _ (fun e => by have := h.kb; omega)).trans (h.kp j hj hg), by simpa using h.sz⟩
theorem RK.fin {w0 wb w : World} {B g : Nat} {s : ByteArray} {a d : Nat} {lv : Value} {N : List Nd} {k : Nat} {z : BSet} (h : RK w0 wb w B g s a d lv N k z) : RP w0 w B g s a d lv N ∧ wb.heap.size ≤ w.heap.size ∧ ∀ j, j < wb.heap.size → j ≠ g → w.heap[j]? = wb.heap[j]? := ⟨h.rp, h.sz, h.kp⟩
/-- Behind a call that went well. -/
theorem RK.call {w0 wb w w' : World} {B g : Nat} {s : ByteArray} {a a' d : Nat} {lv : Value} {N : List Nd} {k : Nat} {z : BSet} (h : RK w0 wb w B g s a d lv N k z) (hr : RP w0 w' B g s a' d lv N ∧ w.heap.size ≤ w'.heap.size ∧ ∀ j, j < w.heap.size → j ≠ g → w'.heap[j]? = w.heap[j]?) : RK w0 wb w' B g s a' d lv N k z :=
  ⟨hr.1, h.ng, h.nl, h.k0, (hr.2.2 k (lt_of_block h.blk) h.ng).trans h.blk, h.kb, fun j hj hg => (hr.2.2 j (Nat.lt_of_lt_of_le hj h.sz) hg).trans (h.kp j hj hg), Nat.le_trans h.sz hr.2.1⟩
/-- The block for the result alone, behind an error. -/
structure EK (w0 wb w : World) (g k : Nat) (z : BSet) : Prop where
  old : Old w0 w
  ng : k ≠ g
  k0 : w0.heap.size ≤ k
  blk : w.heap[k]? = some (setC z)
  kb : wb.heap.size ≤ k
  kp : ∀ j, j < wb.heap.size → j ≠ g → w.heap[j]? = wb.heap[j]?
  sz : wb.heap.size ≤ w.heap.size
theorem EK.put {w0 wb w : World} {g k : Nat} {z : BSet} (h : EK w0 wb w g k z) (t : BSet) :
    EK w0 wb ((((w.setCell ⟨k, 0, none⟩ (.int .u64 (setW t 0))).setCell ⟨k, 1, none⟩ (.int .u64 (setW t 1))).setCell ⟨k, 2, none⟩ (.int .u64 (setW t 2))).setCell ⟨k, 3, none⟩ (.int .u64 (setW t 3))) g k t :=
  ⟨(((h.old.setCell h.k0 _).setCell h.k0 _).setCell h.k0 _).setCell h.k0 _, h.ng, h.k0, setC_store h.blk t, h.kb, fun j hj hg => (set4_other w k j _ _ _ _ (fun e => by have := h.kb; omega)).trans (h.kp j hj hg), by simpa using h.sz⟩
theorem EK.up {w0 wb w w' : World} {g k : Nat} {z : BSet} (h : EK w0 wb w g k z) (ho : Old w w') : EK w0 wb w' g k z :=
  ⟨h.old.up ho, h.ng, h.k0, ho.block h.blk, h.kb, fun j hj hg => (ho.out.block j (Nat.lt_of_lt_of_le hj h.sz)).trans (h.kp j hj hg), Nat.le_trans h.sz ho.size⟩
end Go.Proofs.Ythadkjgadhbidaa
/-
  The walks of the program's reader of patterns: single.
-/
namespace Go.Proofs.Ythadkjgadhbidaa
open Go.RowKit
set_option linter.unusedVariables false

end Go.Proofs.Ythadkjgadhbidaa
/-
  The walks of the program's reader of patterns: element.
-/
namespace Go.Proofs.Ythadkjgadhbidaa
open Go.RowKit
set_option linter.unusedVariables false

end Go.Proofs.Ythadkjgadhbidaa
namespace Go.Proofs.Ythadkjgadhbidaa
open Go.RowKit
set_option linter.unusedVariables false

/-- The reader, the block for the result, and another block of the call's own. -/
structure R2 (w0 wb w : World) (B g : Nat) (s : ByteArray) (a d : Nat) (lv : Value) (N : List Nd) (k k4 : Nat) (z : BSet) : Prop where
  rk : RK w0 wb w B g s a d lv N k 0
  n4 : k4 ≠ g
  nk : k4 ≠ k
  l4 : some k4 ≠ lv.ownBlock
  w4 : w0.heap.size ≤ k4
  b4 : wb.heap.size ≤ k4
  blk4 : w.heap[k4]? = some (setC z)
theorem R2.start {w0 w : World} {B g : Nat} {s : ByteArray} {a d : Nat} {lv : Value} {N : List Nd} (h : RP w0 w B g s a d lv N) : R2 w0 w ((w.alloc (.cells #[.int .u64 0, .int .u64 0, .int .u64 0, .int .u64 0] 40)).alloc (.cells #[.int .u64 0, .int .u64 0, .int .u64 0, .int .u64 0] 40)) B g s a d lv N w.heap.size (w.heap.size + 1) 0 := by
  have h1 := RK.start h
  have e : (w.alloc (.cells #[.int .u64 0, .int .u64 0, .int .u64 0, .int .u64 0] 40)).heap.size = w.heap.size + 1 := by simp
  refine ⟨h1.up ((Old.refl _).alloc _), fun e' => absurd (lt_of_block h.blk) (by omega), by omega, fun e' => absurd (World.ownsRow.lt h.own _ e'.symm).2 (by omega), by have := h.old.size; omega, by omega, ?_⟩
  rw [← e]
  exact heap_alloc_new _ _
theorem R2.up {w0 wb w w' : World} {B g : Nat} {s : ByteArray} {a d : Nat} {lv : Value} {N : List Nd} {k k4 : Nat} {z : BSet} (h : R2 w0 wb w B g s a d lv N k k4 z) (ho : Old w w') : R2 w0 wb w' B g s a d lv N k k4 z := ⟨h.rk.up ho, h.n4, h.nk, h.l4, h.w4, h.b4, ho.block h.blk4⟩
theorem R2.plus {w0 wb w : World} {B g : Nat} {s : ByteArray} {a d : Nat} {lv : Value} {N : List Nd} {k k4 : Nat} {z : BSet} (h : R2 w0 wb w B g s a d lv N k k4 z) (m : Nat) : R2 w0 wb (w.setCell ⟨g, 1, none⟩ (.int .i64 ((a : Int) + (m : Int)))) B g s (a + m) d lv N k k4 z :=
  ⟨h.rk.plus m, h.n4, h.nk, h.l4, h.w4, h.b4, (heap_setCell_other w ⟨g, 1, none⟩ k4 _ h.n4).trans h.blk4⟩
theorem R2.call {w0 wb w w' : World} {B g : Nat} {s : ByteArray} {a a' d : Nat} {lv : Value} {N : List Nd} {k k4 : Nat} {z : BSet} (h : R2 w0 wb w B g s a d lv N k k4 z) (hr : RP w0 w' B g s a' d lv N ∧ w.heap.size ≤ w'.heap.size ∧ ∀ j, j < w.heap.size → j ≠ g → w'.heap[j]? = w.heap[j]?) : R2 w0 wb w' B g s a' d lv N k k4 z :=
  ⟨h.rk.call hr, h.n4, h.nk, h.l4, h.w4, h.b4, (hr.2.2 k4 (lt_of_block h.blk4) h.n4).trans h.blk4⟩
theorem R2.put {w0 wb w : World} {B g : Nat} {s : ByteArray} {a d : Nat} {lv : Value} {N : List Nd} {k k4 : Nat} {z : BSet} (h : R2 w0 wb w B g s a d lv N k k4 z) (t : BSet) :
    R2 w0 wb ((((w.setCell ⟨k4, 0, none⟩ (.int .u64 (setW t 0))).setCell ⟨k4, 1, none⟩ (.int .u64 (setW t 1))).setCell ⟨k4, 2, none⟩ (.int .u64 (setW t 2))).setCell ⟨k4, 3, none⟩ (.int .u64 (setW t 3))) B g s a d lv N k k4 t :=
  ⟨⟨(((h.rk.rp.far h.n4 h.l4 h.w4 0 _).far h.n4 h.l4 h.w4 1 _).far h.n4 h.l4 h.w4 2 _).far h.n4 h.l4 h.w4 3 _, h.rk.ng, h.rk.nl, h.rk.k0, (set4_other w k4 k _ _ _ _ (Ne.symm h.nk)).trans h.rk.blk, h.rk.kb,
    fun j hj hg => (set4_other w k4 j _ _ _ _ (fun e => by have := h.b4; omega)).trans (h.rk.kp j hj hg), by simpa using h.rk.sz⟩, h.n4, h.nk, h.l4, h.w4, h.b4, setC_store h.blk4 t⟩
end Go.Proofs.Ythadkjgadhbidaa
