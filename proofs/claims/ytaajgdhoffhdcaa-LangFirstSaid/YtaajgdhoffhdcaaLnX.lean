/-
  The walker: begin, done, lineStart.
-/
import Derived.Test.YtaajgdhoffhdcaaLnW
import Derived.Test.YtaajgdhoffhdcaaRxU
namespace Go.Proofs.Ytaajgdhoffhdcaa
open Go.RowKit
set_option linter.unusedVariables false

theorem WK.drewN {w0 w : World} {B g gp gm : Nat} {l : List Nd} {A : Option Addr} {c : Nat} {ps : List Nat} {lv : Value} {M L : List Nat} (h : WK w0 w B g gp gm l A c ps lv M L) (n : Nat) : WK w0 (w.drewN n) B g gp gm l A c ps lv M L := h.up ((Old.refl w).drewN n)
set_option maxHeartbeats 2000000 in
set_option maxRecDepth 100000 in
theorem beginC (w0 : World) (B g gp gm : Nat) (l : List Nd) (A : Option Addr) (c : Nat) (ps : List Nat) (lv : Value) (L : List Nat) (w : World) (h : WK w0 w B g gp gm l A c ps lv L L) (hl : l.length ≤ 256) (h1 : 1 ≤ l.length) (hL : Spots (2 * l.length) L) :
    Calls Try.prog 45 #[.pointer (some ⟨g, 0, none⟩)] w (WPost w lv w0 B g gp gm l A c ps (enterM L (2 * (l.length - 1)))) := by
  have c0 : w.cell? ⟨g, 0, none⟩ = some (.slice A l.length c) := by rw [cell_of_row w g 0 _ _ _ h.blk]; rfl
  have HB : Hid (∀ w', Calls Try.prog 78 #[.int .i64 ((l.length : Int) - 1)] w' (ValSame (.int .i64 ((2 * (l.length - 1) : Nat) : Int)) w')) := Lib.hid (fun w' => by
    have := beforeC ((l.length : Int) - 1) w' (by omega) (by omega)
    have e : (2 * ((l.length : Int) - 1)) = ((2 * (l.length - 1) : Nat) : Int) := by omega
    rw [e] at this
    exact this)
  have hs : 2 * (l.length - 1) < 2 * l.length := by omega
  have HS := Lib.hid hs
  clear hs
  generalize hs0 : 2 * (l.length - 1) = s at *
  have HH := Lib.hid h
  clear h hs0
  go_enter Try.func45, Try.ntmps45
  go_wp2_with fail
  refine (HB.out _).mono ?_; rintro e V ⟨rfl, rfl⟩
  go_wp2_with fail
  refine (enterC w0 B g gp gm l A c ps lv L _ HH.out hl hL s HS.out).mono ?_; rintro e V ⟨rfl, lv', hw, hk⟩
  have HW := Lib.hid hw
  have HK := Lib.hid hk
  clear hw hk
  go_wp2_with fail
  go_end0
  exact ⟨rfl, _, HW.out, HK.out⟩
set_option maxHeartbeats 2000000 in
set_option maxRecDepth 100000 in
theorem doneC (w0 : World) (B g gp gm : Nat) (l : List Nd) (A : Option Addr) (c : Nat) (ps : List Nat) (lv : Value) (L : List Nat) (w : World) (h : WK w0 w B g gp gm l A c ps lv L L) (hl : l.length ≤ 256) (h1 : 1 ≤ l.length) :
    Calls Try.prog 48 #[.pointer (some ⟨g, 0, none⟩)] w (BDraw (doneM l L) w) := by
  have c0 : w.cell? ⟨g, 0, none⟩ = some (.slice A l.length c) := by rw [cell_of_row w g 0 _ _ _ h.blk]; rfl
  have c2 : w.cell? ⟨g, 2, none⟩ = some (.slice (some ⟨gm, 0, none⟩) (2 * l.length) (2 * l.length)) := by rw [cell_of_row w g 2 _ _ _ h.blk]; rfl
  have HA : Hid (∀ n, Calls Try.prog 81 #[.int .i64 ((l.length : Int) - 1)] (w.drewN n) (fun e w' => e = .returned (.int .i64 ((2 * (l.length - 1) + 1 : Nat) : Int)) ∧ w' = w.drewN n)) := Lib.hid (fun n => by
    have := afterC ((l.length : Int) - 1) (w.drewN n) (by omega) (by omega)
    have e : (2 * ((l.length : Int) - 1) + 1) = ((2 * (l.length - 1) + 1 : Nat) : Int) := by omega
    rw [e] at this
    exact this.mono fun e w2 h => ⟨h.1, h.2.symm⟩)
  have hs : 2 * (l.length - 1) + 1 < 2 * l.length := by omega
  have HD : Hid (doneM l L = decide (2 * (l.length - 1) + 1 ∈ L)) := Lib.hid rfl
  generalize hs0 : 2 * (l.length - 1) + 1 = s at *
  have cm : w.cell? ⟨gm, s, none⟩ = some (.bool (decide (s ∈ L))) := by
    rw [cell_of_row w gm s _ _ _ h.mks, List.getElem?_toArray, mkz_get _ _ _ hs]
  have i1 : (0 : Int) ≤ (s : Int) := by omega
  have i2 : (s : Int) < 2 * (l.length : Int) := by omega
  rw [HD.out]
  generalize decide (s ∈ L) = bb at *
  clear hs0 HD h
  go_enter Try.func48, Try.ntmps48
  go_upto_region 1 with fail
  go_quiet ((go_at_call 81; exact Calls.quiet_of_same (HA.out _)))
  go_wp2_with fail
  go_ret
  exact ⟨rfl, _, rfl⟩
end Go.Proofs.Ytaajgdhoffhdcaa
