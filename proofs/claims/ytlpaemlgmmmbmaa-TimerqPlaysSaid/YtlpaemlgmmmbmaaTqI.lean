/-
  The walks of the reference's before, first, place, without.
-/
import Derived.Test.YtlpaemlgmmmbmaaTqK
import Derived.Test.YtlpaemlgmmmbmaaTqQ
namespace Go.Proofs.Ytlpaemlgmmmbmaa
open Go.RowKit Go.Maps
set_option linter.unusedVariables false

theorem info_rt : (Try.prog.info? 117).map (fun i => (i.zero, i.size, i.bytes)) = some (some (.agg #[.int .i64 0, .int .u64 0]), 2, 16) := by kernel_rfl
def rcells (R : List Tm) : List Value := R.flatMap fun p => [.int .i64 p.2, .int .u64 p.1]
def rtV (p : Tm) : Value := .agg #[.int .i64 p.2, .int .u64 p.1]
theorem rcells_length (L : List Tm) : (rcells L).length = L.length * 2 := by
  induction L with
  | nil => rfl
  | cons a L ih => simp [rcells] at ih ⊢; omega
theorem rcells_app (L M : List Tm) : rcells (L ++ M) = rcells L ++ rcells M := by simp [rcells]
theorem rcells_one (L : List Tm) : (rcells L).all Value.oneCell' = true := by simp [rcells, Value.oneCell']
theorem rcells_get : ∀ (L : List Tm) (i : Nat) (p : Tm), L[i]? = some p → (rcells L)[i * 2]? = some (.int .i64 p.2) ∧ (rcells L)[i * 2 + 1]? = some (.int .u64 p.1)
  | [], i, p, h => by simp at h
  | a :: L, 0, p, h => by
    simp at h; subst h
    exact ⟨rfl, rfl⟩
  | a :: L, i + 1, p, h => by
    have := rcells_get L i p (by simpa using h)
    have e : rcells (a :: L) = .int .i64 a.2 :: .int .u64 a.1 :: rcells L := rfl
    rw [e, show (i + 1) * 2 = i * 2 + 1 + 1 by omega, show i * 2 + 1 + 1 + 1 = (i * 2 + 1) + 1 + 1 by omega]
    simpa using this
theorem rcells_take (L : List Tm) (i : Nat) : (rcells L).take (i * 2) = rcells (L.take i) := by
  induction L generalizing i with
  | nil => simp [rcells]
  | cons a L ih =>
    cases i with
    | zero => simp [rcells]
    | succ i =>
      have e : ∀ (b : Tm) M, rcells (b :: M) = .int .i64 b.2 :: .int .u64 b.1 :: rcells M := fun _ _ => rfl
      rw [e, List.take_succ_cons, e, show (i + 1) * 2 = i * 2 + 1 + 1 by omega, List.take_succ_cons, List.take_succ_cons, ih]
theorem rcells_drop (L : List Tm) (i : Nat) : (rcells L).drop (i * 2) = rcells (L.drop i) := by
  induction L generalizing i with
  | nil => simp [rcells]
  | cons a L ih =>
    cases i with
    | zero => simp
    | succ i =>
      have e : ∀ (b : Tm) M, rcells (b :: M) = .int .i64 b.2 :: .int .u64 b.1 :: rcells M := fun _ _ => rfl
      rw [e, List.drop_succ_cons, show (i + 1) * 2 = i * 2 + 1 + 1 by omega, List.drop_succ_cons, List.drop_succ_cons, ih]

set_option maxRecDepth 100000 in
theorem beforeR (p q : Tm) (w : World) : Calls Try.prog 68 #[rtV p, rtV q] w (BoolOld (lessB p q) w) := by
  obtain ⟨p1, p2⟩ := p
  obtain ⟨q1, q2⟩ := q
  unfold rtV
  simp only
  by_cases h1 : p1 < q1
  · go_enter Try.func68, Try.ntmps68
    go_wp2_with fail
    go_ret
    exact ⟨ret_bool (by simp [lessB, h1]), ((Old.refl w).alloc _).alloc _⟩
  · by_cases h2 : p1 = q1
    · subst h2
      go_enter Try.func68, Try.ntmps68
      go_wp2_with fail
      go_ret
      exact ⟨ret_bool (by simp [lessB]), ((Old.refl w).alloc _).alloc _⟩
    · have hne : (p1 == q1) = false := by simpa using h2
      go_enter Try.func68, Try.ntmps68
      go_wp2_with fail
      go_ret
      exact ⟨ret_bool (by simp [lessB, h1, h2]), ((Old.refl w).alloc _).alloc _⟩

def oI : Option Nat → Int
  | none => -1
  | some k => k
theorem oI_lt (o : Option Nat) : (oI o < 0 ↔ o = none) := by cases o <;> simp [oI]
def IntOld (x : Int) (w : World) (e : Ending) (w' : World) : Prop := e = .returned (.int .i64 x) ∧ Old w w'
set_option maxHeartbeats 1000000 in
set_option maxRecDepth 100000 in
theorem firstQ (A : Option Addr) (c : Nat) (R : List Tm) (w : World) (hr : Ts w 117 A (rcells R)) (hm : R.length ≤ 68719476736) :
    Calls Try.prog 65 #[.slice A R.length c] w (IntOld (oI (firstR R)) w) := by
  have HR := Lib.hid hr
  clear hr
  go_enter Try.func65, Try.ntmps65
  go_wp2_with fail
  go_loopw [3, 4] (fun s3 s4 wr => ∃ k : Nat, s4 = .int .i64 k ∧ k ≤ R.length ∧ s3 = .int .i64 (oI (firstN R k)) ∧ Hid (Old w wr)) (fun _ s4 _ => R.length - (intOf s4).toNat)
  case atStart => exact ⟨0, rfl, Nat.zero_le _, rfl, Old.refl _⟩
  case round =>
    obtain ⟨k, rfl, hk, rfl, HO⟩ := hrel
    by_cases hlt : k < R.length
    · obtain ⟨b, off, rfl, hbl, hcl⟩ := (HR.out.up HO.out).rs.at_ (by rw [rcells_length]; omega)
      obtain ⟨g0, g1⟩ := rcells_get R k _ (getD_of hlt)
      have c0 : wr.cell? ⟨b, off + k * 2, none⟩ = some (.int .i64 (gt R k).2) := hcl _ _ g0
      have c1 : wr.cell? ⟨b, off + k * 2 + 1, none⟩ = some (.int .u64 (gt R k).1) := by rw [Nat.add_assoc]; exact hcl _ _ g1
      have i1 : (0 : Int) ≤ (k : Int) := by omega
      have i2 : (k : Int) < (R.length : Int) := by omega
      obtain ⟨j1, j2⟩ := firstN_spec R k (by omega)
      have hs : firstN R (k + 1) = match firstN R k with | none => some k | some m => if lessB (gt R k) (gt R m) = true then some k else some m := rfl
      cases hf : firstN R k with
      | none =>
        rw [hf] at hs
        have HS := Lib.hid hs
        clear hs j1 j2 hf g0 g1 hcl c0 c1
        have hneg : oI none < 0 := by decide
        go_wp2_with fail
        go_quiet (fail)
        go_wp2_with fail
        go_roundw
        case rel => exact ⟨k + 1, by go_num, by omega, by rw [HS.out]; rfl, HO.out.drewN _⟩
        case measure => simp [intOf]; omega
      | some m =>
        obtain ⟨mk, _⟩ := j2 m hf
        obtain ⟨g2, g3⟩ := rcells_get R m _ (getD_of (show m < R.length by omega))
        have d0 : wr.cell? ⟨b, off + m * 2, none⟩ = some (.int .i64 (gt R m).2) := hcl _ _ g2
        have d1 : wr.cell? ⟨b, off + m * 2 + 1, none⟩ = some (.int .u64 (gt R m).1) := by rw [Nat.add_assoc]; exact hcl _ _ g3
        rw [hf] at hs
        simp only at hs
        have hoi : oI (some m) = (m : Int) := rfl
        have m1 : (0 : Int) ≤ (m : Int) := by omega
        have m2 : (m : Int) < (R.length : Int) := by omega
        have m3 : ¬ (m : Int) < 0 := by omega
        have hB := fun W => beforeR (gt R k) (gt R m) W
        generalize gt R k = p at *
        generalize gt R m = q at *
        have HB := Lib.hid hB
        obtain ⟨p1, p2⟩ := p
        obtain ⟨q1, q2⟩ := q
        replace c0 : wr.cell? ⟨b, off + k * 2, none⟩ = some (.int .i64 p2) := c0
        replace c1 : wr.cell? ⟨b, off + k * 2 + 1, none⟩ = some (.int .u64 p1) := c1
        replace d0 : wr.cell? ⟨b, off + m * 2, none⟩ = some (.int .i64 q2) := d0
        replace d1 : wr.cell? ⟨b, off + m * 2 + 1, none⟩ = some (.int .u64 q1) := d1
        clear hB j1 j2 hf g0 g1 g2 g3 hcl
        cases hb : lessB (p1, p2) (q1, q2) with
        | true =>
          rw [hb] at hs
          simp only [if_true] at hs
          have HS := Lib.hid hs
          have HBB := Lib.hid hb
          clear hs hb
          go_wp2_with fail
          go_region_held3 (fun w' => w'.cell? ⟨b, off + k * 2, none⟩ = some (.int .i64 p2) ∧ w'.cell? ⟨b, off + k * 2 + 1, none⟩ = some (.int .u64 p1) ∧ w'.cell? ⟨b, off + m * 2, none⟩ = some (.int .i64 q2) ∧ w'.cell? ⟨b, off + m * 2 + 1, none⟩ = some (.int .u64 q1))
            (first | exact ⟨c0, c1, d0, d1⟩ | exact ⟨hO2.cell c0, hO2.cell c1, hO2.cell d0, hO2.cell d1⟩ | go_keep) ((go_at_call 68; refine (HB.out _).mono ?_; rw [HBB.out]; rintro e w2 ⟨rfl, hO2⟩))
          all_goals
            have HO3 := Lib.hid (HO.out.up ((Old.refl wr).drew.up hO2))
            go_wp2_with fail
            go_roundw
            case rel => exact ⟨k + 1, by go_num, by omega, by rw [HS.out]; rfl, HO3.out⟩
            case measure => simp [intOf]; omega
        | false =>
          rw [hb] at hs
          simp only [Bool.false_eq_true, if_false] at hs
          have HS := Lib.hid hs
          have HBB := Lib.hid hb
          clear hs hb
          go_wp2_with fail
          go_region_held3 (fun w' => w'.cell? ⟨b, off + k * 2, none⟩ = some (.int .i64 p2) ∧ w'.cell? ⟨b, off + k * 2 + 1, none⟩ = some (.int .u64 p1) ∧ w'.cell? ⟨b, off + m * 2, none⟩ = some (.int .i64 q2) ∧ w'.cell? ⟨b, off + m * 2 + 1, none⟩ = some (.int .u64 q1))
            (first | exact ⟨c0, c1, d0, d1⟩ | exact ⟨hO2.cell c0, hO2.cell c1, hO2.cell d0, hO2.cell d1⟩ | go_keep) ((go_at_call 68; refine (HB.out _).mono ?_; rw [HBB.out]; rintro e w2 ⟨rfl, hO2⟩))
          all_goals
            have HO3 := Lib.hid (HO.out.up ((Old.refl wr).drew.up hO2))
            go_wp2_with fail
            go_roundw
            case rel => exact ⟨k + 1, by go_num, by omega, by rw [HS.out]; rfl, HO3.out⟩
            case measure => simp [intOf]; omega
    · obtain rfl : k = R.length := by omega
      go_wp2_with fail
      go_ret
      exact ⟨rfl, HO.out⟩

theorem idx_step {R : List Tm} {id : Int} : ∀ (k : Nat), (∀ j, j < k → (gt R j).2 ≠ id) → k < R.length → (gt R k).2 = id → idx R id = some k := by
  induction R with
  | nil => intro k _ hk; simp at hk
  | cons a R ih =>
    intro k hlt hk he
    rw [idx]
    cases k with
    | zero =>
      have he' : a.2 = id := he
      rw [if_pos he']
    | succ k =>
      have h0 : ¬ a.2 = id := hlt 0 (by omega)
      rw [if_neg h0, ih k (fun j hj => hlt (j + 1) (by omega)) (by simpa using hk) he]
      rfl
theorem idx_end {R : List Tm} {id : Int} (h : ∀ j, j < R.length → (gt R j).2 ≠ id) : idx R id = none := by
  apply idx_mem.1.2
  intro hm
  obtain ⟨p, hp, hpi⟩ := List.mem_map.1 hm
  obtain ⟨j, hj⟩ := List.getElem?_of_mem hp
  have jl := (List.getElem?_eq_some_iff.1 hj).1
  have e := getD_of jl
  rw [hj] at e
  exact h j jl (by rw [show gt R j = p from (Option.some.inj e).symm]; exact hpi)
set_option maxRecDepth 100000 in
theorem placeQ (A : Option Addr) (c : Nat) (R : List Tm) (id : Int) (w : World) (hr : Ts w 117 A (rcells R)) (hm : R.length ≤ 68719476736) :
    Calls Try.prog 63 #[.slice A R.length c, .int .i64 id] w (IntOld (oI (idx R id)) w) := by
  have HR := Lib.hid hr
  clear hr
  go_enter Try.func63, Try.ntmps63
  go_wp2_with fail
  go_loop [5] (fun s5 => ∃ k : Nat, s5 = .int .i64 k ∧ k ≤ R.length ∧ Hid (∀ j, j < k → (gt R j).2 ≠ id)) (fun s5 => R.length - (intOf s5).toNat)
  case atStart => exact ⟨0, rfl, Nat.zero_le _, fun j hj => by omega⟩
  case round =>
    obtain ⟨k, rfl, hk, HN⟩ := hrel
    by_cases hlt : k < R.length
    · obtain ⟨b, off, rfl, hbl, hcl⟩ := HR.out.rs.at_ (by rw [rcells_length]; omega)
      obtain ⟨g0, g1⟩ := rcells_get R k _ (getD_of hlt)
      have c0 : w.cell? ⟨b, off + k * 2, none⟩ = some (.int .i64 (gt R k).2) := hcl _ _ g0
      have i1 : (0 : Int) ≤ (k : Int) := by omega
      have i2 : (k : Int) < (R.length : Int) := by omega
      clear hcl g0 g1
      by_cases he : (gt R k).2 = id
      · have hx := idx_step k HN.out hlt he
        have HX := Lib.hid hx
        rw [he] at c0
        clear hx he
        go_wp2_with fail
        go_ret
        rw [HX.out]
        exact ⟨rfl, Old.refl _⟩
      · have HE := Lib.hid he
        have hne : ((gt R k).2 == id) = false := by simpa using he
        generalize hy : (gt R k).2 = y at *
        have HY := Lib.hid hy
        clear he hy
        go_wp2_with fail
        go_round
        case rel =>
          refine ⟨k + 1, by go_num, by omega, fun j hj => ?_⟩
          by_cases e : j = k
          · subst e; rw [HY.out]; exact HE.out
          · exact HN.out j (by omega)
        case measure => simp [intOf]; omega
    · obtain rfl : k = R.length := by omega
      have HX := Lib.hid (idx_end HN.out)
      go_wp2_with fail
      go_ret
      rw [HX.out]
      exact ⟨rfl, Old.refl _⟩
end Go.Proofs.Ytlpaemlgmmmbmaa
