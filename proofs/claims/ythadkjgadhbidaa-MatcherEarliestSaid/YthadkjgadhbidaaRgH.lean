/-
  The program's reader of patterns: what its functions leave, and the walk of group.
-/
import Derived.Test.YthadkjgadhbidaaRgG
namespace Go.Proofs.Ythadkjgadhbidaa
open Go.RowKit
set_option linter.unusedVariables false

theorem shiftNd_shiftNd (n m : Int) (x : Nd) : shiftNd n (shiftNd m x) = shiftNd (n + m) x := by
  unfold shiftNd shiftN
  simp only
  congr 1
  · split <;> omega
  · split <;> omega
theorem shift_leaf (k : Int) (z : BSet) (n : Int) (hk : kidsN k = 0) : (leafN k z).map (shiftNd n) = [⟨k, 0, 0, z⟩] := by
  unfold leafN shiftNd shiftN
  simp [hk]
theorem shift_join1 (k : Int) (l : List Nd) (n : Nat) (hk : kidsN k = 1) : (joinN k l []).map (shiftNd n) = l.map (shiftNd n) ++ [⟨k, (n : Int) + l.length - 1, 0, 0⟩] := by
  unfold joinN
  simp [shiftNd, shiftN, hk]
  omega
theorem shift_join2 (k : Int) (l r : List Nd) (n : Nat) (hk : kidsN k = 2) (hr : 0 < r.length) : (joinN k l r).map (shiftNd n) = l.map (shiftNd n) ++ r.map (shiftNd ((n + l.length : Nat) : Int)) ++ [⟨k, (n : Int) + l.length - 1, (n : Int) + l.length + r.length - 1, 0⟩] := by
  unfold joinN
  rw [List.map_append, List.map_append, List.map_map]
  have e : (shiftNd (n : Int) ∘ shiftNd (l.length : Int)) = shiftNd ((n + l.length : Nat) : Int) := by
    funext x
    simp only [Function.comp]
    rw [shiftNd_shiftNd]
    congr 1
  rw [e]
  congr 1
  simp only [List.map_cons, List.map_nil, shiftNd, shiftN, hk]
  rw [if_pos (by decide), if_pos (by decide), if_pos hr]
  congr 2 <;> omega
/-- Where the last of the nodes lies. -/
def plc (N l : List Nd) : Int := (N.length : Int) + l.length - 1
structure GPost (w0 : World) (B g : Nat) (s : ByteArray) (d : Nat) (N : List Nd) (R : List Nd × Ps) (e : Ending) (w' : World) : Prop where
  ok : R.2.e = 0 → e = .returned (.tuple #[.int .i64 (plc N R.1), .int .i64 0]) ∧ ∃ lv', RP w0 w' B g s R.2.at_ d lv' (N ++ R.1.map (shiftNd (N.length : Int)))
  no : R.2.e ≠ 0 → ∃ v, e = .returned (.tuple #[.int .i64 v, .int .i64 R.2.e]) ∧ Old w0 w'
/-- Room for what is still to come. -/
def Room (s : ByteArray) (a : Nat) (N : List Nd) : Prop := N.length + 4 * (s.size + 1 - a) ≤ 100000
theorem Room.len {s : ByteArray} {a : Nat} {N : List Nd} (h : Room s a N) : N.length ≤ 100000 := by unfold Room at h; omega
def PatG (f : Nat) : Prop := ∀ (w0 : World) (B g : Nat) (s : ByteArray) (a d : Nat) (lv : Value) (N : List Nd) (w : World) (R : List Nd × Ps), RP w0 w B g s a d lv N → s.size ≤ 10000 → a ≤ s.size → d ≤ 24 → Room s a N → altP (bs s) f ⟨a, d, 0⟩ = some R →
  Calls Try.prog 78 #[.pointer (some ⟨g, 0, none⟩)] w (GPost w0 B g s d N R)
def AltG (f : Nat) : Prop := ∀ (w0 : World) (B g : Nat) (s : ByteArray) (a d : Nat) (lv : Value) (N : List Nd) (w : World) (R : List Nd × Ps), RP w0 w B g s a d lv N → s.size ≤ 10000 → a ≤ s.size → d ≤ 24 → Room s a N → catP (bs s) f ⟨a, d, 0⟩ = some R →
  Calls Try.prog 87 #[.pointer (some ⟨g, 0, none⟩)] w (GPost w0 B g s d N R)
def PartG (f : Nat) : Prop := ∀ (w0 : World) (B g : Nat) (s : ByteArray) (a d : Nat) (lv : Value) (N : List Nd) (w : World) (R : List Nd × Ps), RP w0 w B g s a d lv N → s.size ≤ 10000 → a < s.size → d ≤ 24 → Room s a N → partP (bs s) f ⟨a, d, 0⟩ = some R →
  Calls Try.prog 90 #[.pointer (some ⟨g, 0, none⟩)] w (GPost w0 B g s d N R)
def AtomG (f : Nat) : Prop := ∀ (w0 : World) (B g : Nat) (s : ByteArray) (a d : Nat) (lv : Value) (N : List Nd) (w : World) (R : List Nd × Ps), RP w0 w B g s a d lv N → s.size ≤ 10000 → a < s.size → d ≤ 24 → Room s a N → atomP (bs s) f ⟨a, d, 0⟩ = some R →
  Calls Try.prog 95 #[.pointer (some ⟨g, 0, none⟩)] w (GPost w0 B g s d N R)
/-- What the reference does in parentheses. -/
def grpR (B : List Nat) (f : Nat) (a d : Nat) : Option (List Nd × Ps) :=
  if 24 < d + 1 then some ([], ⟨a + 1, d + 1, 84⟩)
  else match altP B f ⟨a + 1, d + 1, 0⟩ with
    | none => none
    | some (l, r) => some (l, { (if r.e = 0 ∧ B.length ≤ r.at_ then failP r 83 else r) with at_ := (if r.e = 0 ∧ B.length ≤ r.at_ then failP r 83 else r).at_ + 1, deep := (if r.e = 0 ∧ B.length ≤ r.at_ then failP r 83 else r).deep - 1 })
set_option maxHeartbeats 8000000 in
set_option maxRecDepth 100000 in
theorem groupG (f : Nat) (hP : PatG f) (w0 : World) (B g : Nat) (s : ByteArray) (a d : Nat) (lv : Value) (N : List Nd) (w : World) (R : List Nd × Ps) (h : RP w0 w B g s a d lv N) (hs : s.size ≤ 10000) (ha : a < s.size) (hd : d ≤ 24) (hN : Room s a N) (hR : grpR (bs s) f a d = some R) :
    Calls Try.prog 99 #[.pointer (some ⟨g, 0, none⟩)] w (GPost w0 B g s d N R) := by
  have HP := Lib.hid h
  unfold grpR at hR
  by_cases h24 : d = 24
  · have HE : Hid (R = ([], ⟨a + 1, d + 1, 84⟩)) := Lib.hid (by rw [if_pos (by omega)] at hR; exact (Option.some.inj hR).symm)
    subst h24
    have HO := Lib.hid h.old
    clear h hR
    obtain ⟨c0, c1, c2, c3, f1, f2, f3⟩ := HP.out.cells
    clear c3 f3
    go_enter Try.func99, Try.ntmps99
    go_wp2_with fail
    go_ret2
    rw [HE.out]
    exact ⟨fun e => absurd e (by simp), fun _ => ⟨_, rfl, HO.out⟩⟩
  rw [if_neg (by omega)] at hR
  cases hq : altP (bs s) f ⟨a + 1, d + 1, 0⟩ with
  | none => rw [hq] at hR; cases hR
  | some lr =>
  rw [hq] at hR
  obtain ⟨l, r⟩ := lr
  obtain ⟨a1, d1, e1⟩ := r
  have HR : Hid (R = (l, { (if e1 = 0 ∧ (bs s).length ≤ a1 then failP ⟨a1, d1, e1⟩ 83 else ⟨a1, d1, e1⟩ : Ps) with at_ := (if e1 = 0 ∧ (bs s).length ≤ a1 then failP ⟨a1, d1, e1⟩ 83 else ⟨a1, d1, e1⟩ : Ps).at_ + 1, deep := (if e1 = 0 ∧ (bs s).length ≤ a1 then failP ⟨a1, d1, e1⟩ 83 else ⟨a1, d1, e1⟩ : Ps).deep - 1 })) := Lib.hid (Option.some.inj hR).symm
  have hG : Good (bs s).length ⟨a + 1, d + 1, 0⟩ l ⟨a1, d1, e1⟩ 0 := (parse_good (bs s) f).1 ⟨a + 1, d + 1, 0⟩ (l, ⟨a1, d1, e1⟩) ⟨rfl, by rw [bs_length]; show a + 1 ≤ _; omega, by show d + 1 ≤ 24; omega⟩ hq
  rw [bs_length] at hG HR
  have HG := Lib.hid hG
  have n24 : ((d : Int) == 24) = false := by simp; omega
  have i0 : (0 : Int) ≤ (d : Int) := by omega
  have i1 : (d : Int) < 24 := by omega
  have i2 : (0 : Int) ≤ (a : Int) := by omega
  have i3 : (a : Int) < 10000 := by omega
  have HP2 : Hid (RP w0 ((w.setCell ⟨g, 2, none⟩ (.int .i64 ((d : Int) + 1))).setCell ⟨g, 1, none⟩ (.int .i64 ((a : Int) + 1))) B g s (a + 1) (d + 1) lv N) := Lib.hid (by
    have := (h.open_ (d + 1)).at_ (a + 1)
    rw [show ((d + 1 : Nat) : Int) = (d : Int) + 1 by omega, show ((a + 1 : Nat) : Int) = (a : Int) + 1 by omega] at this
    exact this)
  have HP1 : Hid (RP w0 (w.setCell ⟨g, 2, none⟩ (.int .i64 ((d : Int) + 1))) B g s a (d + 1) lv N) := Lib.hid (by
    have := h.open_ (d + 1)
    rw [show ((d + 1 : Nat) : Int) = (d : Int) + 1 by omega] at this
    exact this)
  have hN2 : Room s (a + 1) N := by unfold Room at hN ⊢; omega
  clear h hR hG h24 hN
  obtain ⟨c0, c1, c2, c3, f1, f2, f3⟩ := HP.out.cells
  clear c3 f3
  go_enter Try.func99, Try.ntmps99
  go_upto_region 4 with fail
  clear c0 c1 c2 f1 f2 n24
  generalize w.setCell ⟨g, 2, none⟩ (.int .i64 ((d : Int) + 1)) = W1 at *
  clear HP
  have HP := Lib.hid HP1.out
  clear HP1
  obtain ⟨c0, c1, c2, c3, f1, f2, f3⟩ := HP.out.cells
  clear c3 f3
  go_upto_region 5 with fail
  clear c0 c1 c2 f1 f2
  generalize W1.setCell ⟨g, 1, none⟩ (.int .i64 ((a : Int) + 1)) = W2 at *
  clear HP
  have HC := Lib.hid (hP w0 B g s (a + 1) (d + 1) lv N W2 (l, ⟨a1, d1, e1⟩) HP2.out hs (by omega) (by omega) hN2 hq)
  clear hq HP2
  by_cases he : e1 = 0
  · subst he
    have HC2 := Lib.hid (HC.out.mono fun e w' h => h.ok rfl)
    obtain ⟨g1, g2, g3, g4, g5⟩ := HG.out.ok rfl
    simp only at g1 g2 g3
    subst g1
    clear HC
    go_wp2_with fail
    refine (HC2.out).mono ?_; rintro e W3 ⟨rfl, lv3, hr⟩
    have HP3 := Lib.hid hr
    have hen := endedC w0 B g s a1 (d + 1) lv3 _ W3 hr (by omega)
    clear hr HC2
    by_cases hend : a1 = s.size
    · have HE : Hid (R.2.e = 83) := Lib.hid (by rw [HR.out]; simp [show s.size ≤ a1 by omega, failP])
      rw [decide_eq_true hend] at hen
      have HEN := Lib.hid hen
      clear hen hend HR
      go_wp2_with fail
      refine (HEN.out).mono ?_; rintro e W4 ⟨rfl, n4, rfl⟩
      go_wp2_with fail
      go_ret2
      exact ⟨fun e => absurd (HE.out.symm.trans e) (by decide), fun _ => ⟨0, by rw [HE.out]; rfl, HP3.out.old.drewN n4⟩⟩
    · have HE : Hid (R = (l, ⟨a1 + 1, d, 0⟩)) := Lib.hid (by rw [HR.out]; simp [show ¬ s.size ≤ a1 by omega])
      rw [decide_eq_false hend] at hen
      have HEN := Lib.hid hen
      have i4 : (0 : Int) ≤ (a1 : Int) := by omega
      have i5 : (a1 : Int) < 10000 := by omega
      clear hen hend HR
      go_wp2_with fail
      refine (HEN.out).mono ?_; rintro e W4 ⟨rfl, n4, rfl⟩
      have HP4 := Lib.hid (HP3.out.drewN n4)
      generalize W3.drewN n4 = W4 at *
      clear HP3 HEN
      have HP5 : Hid (RP w0 (W4.setCell ⟨g, 1, none⟩ (.int .i64 ((a1 : Int) + 1))) B g s (a1 + 1) (d + 1) lv3 (N ++ l.map (shiftNd (N.length : Int)))) := Lib.hid (by
        have := HP4.out.at_ (a1 + 1)
        rw [show ((a1 + 1 : Nat) : Int) = (a1 : Int) + 1 by omega] at this
        exact this)
      have HP := Lib.hid HP4.out
      obtain ⟨c0, c1, c2, c3, f1, f2, f3⟩ := HP.out.cells
      clear c3 f3
      go_upto_region 11 with fail
      clear c0 c1 c2 f1 f2 HP HP4
      generalize W4.setCell ⟨g, 1, none⟩ (.int .i64 ((a1 : Int) + 1)) = W5 at *
      have HP := Lib.hid HP5.out
      have HP6 := Lib.hid (HP5.out.open_ d)
      obtain ⟨c0, c1, c2, c3, f1, f2, f3⟩ := HP.out.cells
      clear c3 f3
      have c2' : W5.cell? ⟨g, 2, none⟩ = some (.int .i64 ((d : Int) + 1)) := by rw [c2]; congr 2
      clear c2 HP HP5
      have dd : (d : Int) + 1 - 1 = (d : Int) := by omega
      go_wp2_with fail
      go_ret2
      rw [HE.out]
      exact ⟨fun _ => ⟨rfl, lv3, HP6.out⟩, fun e => absurd rfl e⟩
  · have HC2 := Lib.hid (HC.out.mono fun e w' h => h.no he)
    have hne : (e1 != 0) = true := by simpa using he
    have HE : Hid (R.2.e = e1) := Lib.hid (by rw [HR.out]; simp [he])
    clear HC HR
    go_wp2_with fail
    refine (HC2.out).mono ?_; rintro e W3 ⟨v, rfl, ho⟩
    go_wp2_with fail
    go_ret2
    exact ⟨fun e => absurd (HE.out.symm.trans e) he, fun _ => ⟨0, by rw [HE.out]; rfl, ho⟩⟩
end Go.Proofs.Ythadkjgadhbidaa
