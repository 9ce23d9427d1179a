/-
  Lists of jobs: as data, in memory; where a name stands in a list.
-/
import Derived.Test.YtpknglclcdgfbaaRlP
import Derived.Deep.DeepCutAuto
import Derived.Deep.CutBlock
import Derived.Handy
namespace Go.Proofs.Ytpknglclcdgfbaa
open Go.RowKit Go.Shelf
set_option linter.unusedVariables false

/-! ### data -/
def PlR (l : List Jd) (nm : ByteArray) (r : Int) : Prop :=
  (r = -1 ∧ ∀ j, j < l.length → (l.getD j jd0).nm ≠ nm) ∨ ∃ k : Nat, k < l.length ∧ r = (k : Int) ∧ (l.getD k jd0).nm = nm ∧ ∀ j, j < k → (l.getD j jd0).nm ≠ nm
/-- What becomes of a job: 1 it stays, 2 it is edited, 3 it is removed. -/
def kindJ (next : List Jd) (a : Jd) : Int :=
  match next.find? (fun j => decide (j.nm = a.nm)) with
  | none => 3
  | some b => if sameJ a b then 1 else 2
def lacksJ (old : List Jd) (nm : ByteArray) : Bool := (old.find? (fun j => decide (j.nm = nm))).isNone
def planM (old next : List Jd) : List (ByteArray × Int) := old.map (fun a => (a.nm, kindJ next a)) ++ (next.filter fun j => lacksJ old j.nm).map fun j => (j.nm, 4)
theorem find_none {l : List Jd} {nm : ByteArray} (h : ∀ j, j < l.length → (l.getD j jd0).nm ≠ nm) : l.find? (fun j => decide (j.nm = nm)) = none := by
  rw [List.find?_eq_none]
  intro x hx
  obtain ⟨j, hj, rfl⟩ := List.getElem_of_mem hx
  have := h j hj
  rw [List.getD_eq_getElem?_getD, List.getElem?_eq_getElem hj] at this
  simpa using this
theorem find_some_ {nm : ByteArray} : ∀ (l : List Jd) (k : Nat), k < l.length → (l.getD k jd0).nm = nm → (∀ j, j < k → (l.getD j jd0).nm ≠ nm) → l.find? (fun j => decide (j.nm = nm)) = some (l.getD k jd0) := by
  intro l
  induction l with
  | nil => intro k h; simp at h
  | cons a l ih =>
    intro k hk h1 h2
    cases k with
    | zero =>
      have h1' : a.nm = nm := h1
      rw [List.find?_cons, show decide (a.nm = nm) = true by simpa using h1']
      rfl
    | succ k =>
      have h0 : a.nm ≠ nm := h2 0 (Nat.succ_pos _)
      rw [List.find?_cons, show decide (a.nm = nm) = false by simpa using h0]
      exact ih k (by simpa using hk) h1 (fun j hj => h2 (j + 1) (by omega))
theorem kind_none {next : List Jd} {a : Jd} (h : ∀ j, j < next.length → (next.getD j jd0).nm ≠ a.nm) : kindJ next a = 3 := by
  unfold kindJ
  rw [find_none h]
theorem kind_some {next : List Jd} {a : Jd} {k : Nat} (hk : k < next.length) (h1 : (next.getD k jd0).nm = a.nm) (h2 : ∀ j, j < k → (next.getD j jd0).nm ≠ a.nm) : kindJ next a = if sameJ a (next.getD k jd0) then 1 else 2 := by
  unfold kindJ
  rw [find_some_ next k hk h1 h2]
theorem lacks_none {l : List Jd} {nm : ByteArray} (h : ∀ j, j < l.length → (l.getD j jd0).nm ≠ nm) : lacksJ l nm = true := by
  unfold lacksJ
  rw [find_none h]
  rfl
theorem lacks_some {l : List Jd} {nm : ByteArray} {k : Nat} (hk : k < l.length) (h1 : (l.getD k jd0).nm = nm) (h2 : ∀ j, j < k → (l.getD j jd0).nm ≠ nm) : lacksJ l nm = false := by
  unfold lacksJ
  rw [find_some_ l k hk h1 h2]
  rfl
theorem ba_eq (p q : ByteArray) : (p.toList == q.toList) = decide (p = q) := by
  by_cases h : p = q
  · subst h; simp
  · rw [ba_ne h, decide_eq_false h]
/-! ### memory -/
def jdsV (l : List Jd) : List Value := l.flatMap jdCells
theorem jdCells_length (j : Jd) : (jdCells j).length = 15 := rfl
theorem jdsV_length (l : List Jd) : (jdsV l).length = 15 * l.length := by
  unfold jdsV
  induction l with
  | nil => rfl
  | cons a l ih => simp only [List.flatMap_cons, List.length_append, List.length_cons, ih, jdCells_length]; omega
theorem jdsV_get : ∀ (l : List Jd) (i n : Nat) (v : Value), i < l.length → (jdCells (l.getD i jd0))[n]? = some v → (jdsV l)[i * 15 + n]? = some v := by
  intro l
  induction l with
  | nil => intro i n v h; simp at h
  | cons a l ih =>
    intro i n v h hv
    unfold jdsV at *
    cases i with
    | zero =>
      have hn : n < 15 := (List.getElem?_eq_some_iff.mp hv).1
      rw [List.flatMap_cons, Nat.zero_mul, Nat.zero_add, List.getElem?_append_left (by rw [jdCells_length]; exact hn)]
      exact hv
    | succ i =>
      rw [List.flatMap_cons, List.getElem?_append_right (by rw [jdCells_length]; omega), jdCells_length, show (i + 1) * 15 + n - 15 = i * 15 + n by omega]
      exact ih i n v (by simpa using h) hv
structure JL (w : World) (A : Option Addr) (l : List Jd) : Prop where
  cells : Rs w A (jdsV l)
  mem : ∀ j ∈ l, JM w j
  few : l.length ≤ 68719476736
theorem JL.up {w w' : World} {A : Option Addr} {l : List Jd} (h : JL w A l) (ho : Old w w') : JL w' A l := ⟨h.cells.up ho, fun j hj => (h.mem j hj).up ho, h.few⟩
theorem JL.at_ {w : World} {A : Option Addr} {l : List Jd} (h : JL w A l) {i : Nat} (hi : i < l.length) : JM w (l.getD i jd0) :=
  h.mem _ (by rw [List.getD_eq_getElem?_getD, List.getElem?_eq_getElem hi]; exact List.getElem_mem hi)
def JCells (w : World) (b o : Nat) (j : Jd) : Prop := w.cell? ⟨b, o, none⟩ = some (.string j.nm) ∧ w.cell? ⟨b, o + 1, none⟩ = some (.string j.run) ∧ w.cell? ⟨b, o + 2, none⟩ = some (.slice j.eA j.env.length j.ec) ∧ w.cell? ⟨b, o + 3, none⟩ = some (.slice j.nA j.needs.length j.nc) ∧ w.cell? ⟨b, o + 4, none⟩ = some (.bool j.hasR) ∧ w.cell? ⟨b, o + 5, none⟩ = some (.string j.ready) ∧ w.cell? ⟨b, o + 6, none⟩ = some (.int .i64 j.restart) ∧ w.cell? ⟨b, o + 7, none⟩ = some (.int .u64 j.base) ∧ w.cell? ⟨b, o + 8, none⟩ = some (.int .u64 j.cap) ∧ w.cell? ⟨b, o + 9, none⟩ = some (.int .u64 j.stable) ∧ w.cell? ⟨b, o + 10, none⟩ = some (.int .i64 j.burst) ∧ w.cell? ⟨b, o + 11, none⟩ = some (.int .u64 j.win) ∧ w.cell? ⟨b, o + 12, none⟩ = some (.slice j.lA j.lad.length j.lc) ∧ w.cell? ⟨b, o + 13, none⟩ = some (.int .i64 j.line) ∧ w.cell? ⟨b, o + 14, none⟩ = some (.int .i64 j.col)
theorem JL.row {w : World} {A : Option Addr} {l : List Jd} (h : JL w A l) (h0 : 0 < l.length) :
    ∃ b off, A = some ⟨b, off, none⟩ ∧ b < w.heap.size ∧ ∀ i, i < l.length → JCells w b (off + i * 15) (l.getD i jd0) := by
  obtain ⟨b, off, rfl, hb, hc⟩ := h.cells.at_ (by rw [jdsV_length]; omega)
  have hb' : b < w.heap.size := hb
  refine ⟨b, off, rfl, hb', fun i hi => ?_⟩
  have k := fun n v (hv : (jdCells (l.getD i jd0))[n]? = some v) => hc _ _ (jdsV_get l i n v hi hv)
  exact ⟨k 0 _ rfl, k 1 _ rfl, k 2 _ rfl, k 3 _ rfl, k 4 _ rfl, k 5 _ rfl, k 6 _ rfl, k 7 _ rfl, k 8 _ rfl, k 9 _ rfl, k 10 _ rfl, k 11 _ rfl, k 12 _ rfl, k 13 _ rfl, k 14 _ rfl⟩
/-! ### where a name stands -/
def PlPost (l : List Jd) (nm : ByteArray) (w : World) (e : Ending) (w' : World) : Prop := ∃ r : Int, e = .returned (.int .i64 r) ∧ PlR l nm r ∧ Old w w'
set_option maxHeartbeats 2000000 in
theorem plan11C (j : Jd) (nm : ByteArray) (b : Nat) (w : World) (h1 : w.cell? ⟨b, 0, none⟩ = some (.string nm)) :
    Calls Try.prog 42 #[jdA j, .pointer (some ⟨b, 0, none⟩)] w fun e w' => e = .returned (.bool (decide (j.nm = nm))) ∧ Old w w' := by
  have HE := Lib.hid (ba_eq j.nm nm)
  have hb : b < w.heap.size := World.block_lt_of_cell? _ _ h1
  unfold jdA
  go_enter Try.func42, Try.ntmps42
  go_wp2_with fail
  go_ret
  exact ⟨ret_bool HE.out, (Old.refl w).alloc _⟩
set_option maxHeartbeats 4000000 in
theorem indexJ (A : Option Addr) (c : Nat) (l : List Jd) (nm : ByteArray) (b1 : Nat) (w : World) (hl : JL w A l) (h1 : w.cell? ⟨b1, 0, none⟩ = some (.string nm)) :
    Calls Try.prog 41 #[.slice A l.length c, .func (.func 42) #[] #[.pointer (some ⟨b1, 0, none⟩)]] w (PlPost l nm w) := by
  have HL := Lib.hid hl
  have H1 := Lib.hid h1
  have hfew := hl.few
  have HPO : Hid (∀ r w', PlR l nm r → Old w w' → PlPost l nm w (.returned (.int .i64 r)) w') := Lib.hid (fun r w' a b => ⟨r, rfl, a, b⟩)
  clear hl h1
  go_enter Try.func41, Try.ntmps41
  go_wp2_with fail
  go_loopw [8] (fun i wr => ∃ k : Nat, k ≤ l.length ∧ i = .int .i64 k ∧ Hid (Old w wr) ∧ Hid (∀ j, j < k → (l.getD j jd0).nm ≠ nm)) (fun i _ => l.length - (intOf i).toNat)
  case atStart => exact ⟨0, Nat.zero_le _, rfl, Lib.hid (Old.refl _), Lib.hid (fun j hj => by omega)⟩
  case round =>
    obtain ⟨k, hk, rfl, HO, HP⟩ := hrel
    by_cases hlt : k < l.length
    · obtain ⟨b, off, rfl, _, hrow⟩ := (HL.out.up HO.out).row (by omega)
      obtain ⟨c0, c1, c2, c3, c4, c5, c6, c7, c8, c9, c10, c11, c12, c13, c14⟩ := hrow k hlt
      have hT := plan11C (l.getD k jd0) nm b1 wr (HO.out.cell H1.out)
      have HNm : Hid (∀ j, j = k → (l.getD j jd0).nm = (l.getD k jd0).nm) := Lib.hid (fun j h => by rw [h])
      clear hrow
      generalize l.getD k jd0 = x at *
      unfold jdA at hT
      by_cases hp : x.nm = nm
      · rw [decide_eq_true hp] at hT
        have HT := Lib.hid hT
        have HN := Lib.hid hp
        clear hT hp
        go_wp2_with fail
        refine (HT.out).mono ?_; rintro e w' ⟨rfl, hd⟩
        have hdd := HO.out.up hd
        clear c0 c1 c2 c3 c4 c5 c6 c7 c8 c9 c10 c11 c12 c13 c14 hd
        go_wp2_with fail
        go_ret
        exact HPO.out _ _ (Or.inr ⟨k, hlt, rfl, (HNm.out k rfl).trans HN.out, HP.out⟩) hdd
      · rw [decide_eq_false hp] at hT
        have HT := Lib.hid hT
        have HN := Lib.hid hp
        clear hT hp
        go_wp2_with fail
        refine (HT.out).mono ?_; rintro e w' ⟨rfl, hd⟩
        have hdd := Lib.hid (HO.out.up hd)
        clear c0 c1 c2 c3 c4 c5 c6 c7 c8 c9 c10 c11 c12 c13 c14 hd
        go_wp2_with fail
        go_roundw
        case rel =>
          refine ⟨k + 1, by omega, by go_num, hdd, Lib.hid ?_⟩
          intro j hj
          by_cases hjk : j < k
          · exact HP.out j hjk
          · rw [HNm.out j (by omega)]
            exact HN.out
        case measure => simp [intOf]; omega
    · obtain rfl : k = l.length := by omega
      go_wp2_with fail
      go_ret
      exact HPO.out _ _ (Or.inl ⟨rfl, HP.out⟩) HO.out
set_option maxHeartbeats 2000000 in
theorem findC (A : Option Addr) (c : Nat) (l : List Jd) (nm : ByteArray) (w : World) (hl : JL w A l) :
    Calls Try.prog 40 #[.slice A l.length c, .string nm] w (PlPost l nm w) := by
  have ho := (Old.refl w).alloc (.cells #[.string nm] 9)
  have hI := indexJ A c l nm w.heap.size (w.alloc (.cells #[.string nm] 9)) (hl.up ho) (cell_of_row _ _ 0 _ _ _ (heap_alloc_new w _))
  have HI := Lib.hid hI
  have HO := Lib.hid ho
  have HPO : Hid (∀ r w', PlR l nm r → Old w w' → PlPost l nm w (.returned (.int .i64 r)) w') := Lib.hid (fun r w' a b => ⟨r, rfl, a, b⟩)
  clear hI hl ho
  go_enter Try.func40, Try.ntmps40
  go_wp2_with fail
  refine (HI.out).mono ?_; rintro e w2 ⟨r, rfl, hp, hd⟩
  have HP := Lib.hid hp
  clear hp
  go_wp2_with fail
  go_ret
  exact HPO.out r _ HP.out (HO.out.up hd)
set_option maxHeartbeats 4000000 in
theorem placeC (A : Option Addr) (c : Nat) (l : List Jd) (nm : ByteArray) (w : World) (hl : JL w A l) :
    Calls Try.prog 43 #[.slice A l.length c, .string nm] w (PlPost l nm w) := by
  have HL := Lib.hid hl
  have hfew := hl.few
  have HPO : Hid (∀ r w', PlR l nm r → Old w w' → PlPost l nm w (.returned (.int .i64 r)) w') := Lib.hid (fun r w' a b => ⟨r, rfl, a, b⟩)
  clear hl
  go_enter Try.func43, Try.ntmps43
  go_wp2_with fail
  go_loopw [5] (fun i wr => ∃ k : Nat, k ≤ l.length ∧ i = .int .i64 k ∧ w = wr ∧ Hid (∀ j, j < k → (l.getD j jd0).nm ≠ nm)) (fun i _ => l.length - (intOf i).toNat)
  case atStart => exact ⟨0, Nat.zero_le _, rfl, rfl, Lib.hid (fun j hj => by omega)⟩
  case round =>
    obtain ⟨k, hk, rfl, rfl, HP⟩ := hrel
    by_cases hlt : k < l.length
    · obtain ⟨b, off, rfl, _, hrow⟩ := HL.out.row (by omega)
      obtain ⟨c0, _⟩ := hrow k hlt
      have HNm : Hid (∀ j, j = k → (l.getD j jd0).nm = (l.getD k jd0).nm) := Lib.hid (fun j h => by rw [h])
      clear hrow
      generalize l.getD k jd0 = x at *
      by_cases hp : x.nm = nm
      · have n1 : (x.nm.toList == nm.toList) = true := by rw [hp]; simp
        have HN := Lib.hid hp
        clear hp
        go_wp2_with fail
        go_ret
        exact HPO.out _ _ (Or.inr ⟨k, hlt, rfl, (HNm.out k rfl).trans HN.out, HP.out⟩) (Old.refl _)
      · have n1 : (x.nm.toList == nm.toList) = false := ba_ne hp
        have HN := Lib.hid hp
        clear hp
        go_wp2_with fail
        go_roundw
        case rel =>
          refine ⟨k + 1, by omega, by go_num, by first | rfl | trivial, Lib.hid ?_⟩
          intro j hj
          by_cases hjk : j < k
          · exact HP.out j hjk
          · rw [HNm.out j (by omega)]
            exact HN.out
        case measure => simp [intOf]; omega
    · obtain rfl : k = l.length := by omega
      go_wp2_with fail
      go_ret
      exact HPO.out _ _ (Or.inl ⟨rfl, HP.out⟩) (Old.refl _)
end Go.Proofs.Ytpknglclcdgfbaa
