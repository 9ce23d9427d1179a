/-
  The statements on regex: equal lists of nodes are the same.
-/
import Derived.Test.YtaajgdhoffhdcaaRgO
import Derived.Test.YtaajgdhoffhdcaaVlE
namespace Go.Proofs.Ytaajgdhoffhdcaa
open Go.RowKit
set_option linter.unusedVariables false

set_option maxRecDepth 100000 in
theorem set_self (n : Nat) (a b c d : Int) (W : World) : (Op.equalIn (n + 2) 46 (.agg #[.int .u64 a, .int .u64 b, .int .u64 c, .int .u64 d]) (.agg #[.int .u64 a, .int .u64 b, .int .u64 c, .int .u64 d])).run Try.prog W = .ok true W :=
  (run_equalIn_arr4 (n + 1) _ _ Try.underlying45 (fun _ => by kernel_rfl) (fun _ => by kernel_rfl) (fun x y W => run_equalIn_int W n _ .u64 .u64 x y Try.underlying44) a b c d a b c d W).trans (by simp)
set_option maxRecDepth 100000 in
theorem node_self (x : Nd) (W : World) : (Op.equalIn 10000 48 (ndA x) (ndA x)).run Try.prog W = .ok true W := by
  unfold ndA
  have hs := set_self 9997 (setW x.set 0) (setW x.set 1) (setW x.set 2) (setW x.set 3)
  rw [run_equalIn_struct W 9999 _ _ _ (by kernel_rfl) (by kernel_rfl)]
  simp [Op.eqFields, go_sem]
  simp [hs]
def NSameRel (w : World) (l : List Nd) (ix : Value) (wr : World) : Prop := ∃ k n : Nat, ix = .int .i64 k ∧ k ≤ l.length ∧ wr = w.drewN n
set_option maxHeartbeats 8000000 in
set_option maxRecDepth 100000 in
theorem nsameC (A : Option Addr) (ca : Nat) (B : Option Addr) (cb : Nat) (l : List Nd) (w : World) (hA : Rs w A (ndsV l)) (hB : Rs w B (ndsV l)) (hm : l.length ≤ maxLen) :
    Calls Try.prog 27 #[.slice A l.length ca, .slice B l.length cb] w (BDraw true w) := by
  unfold maxLen at hm
  have hn : ((l.length : Int) != (l.length : Int)) = false := by simp
  have HA := Lib.hid hA
  have HB := Lib.hid hB
  clear hA hB
  go_enter Try.func27, Try.ntmps27
  go_wp2_with fail
  go_loopw [5] (fun s5 wr => NSameRel w l s5 wr) (fun s5 _ => l.length - (intOf s5).toNat)
  case atStart => exact ⟨0, 0, rfl, Nat.zero_le _, rfl⟩
  case round =>
    obtain ⟨k, n, rfl, hk, rfl⟩ := hrel
    by_cases hlt : k < l.length
    · have hx : l[k]? = some (nd l k) := by unfold nd; rw [List.getD_eq_getElem?_getD, List.getElem?_eq_getElem hlt]; rfl
      have hg := ndsV_get l k _ hx
      obtain ⟨xb, xoff, rfl, xbl, xcl⟩ := (HA.out).at_ (by rw [ndsV_length]; omega)
      have xc0 := xcl _ _ (hg 0 (by omega))
      have xc1 := xcl _ _ (hg 1 (by omega))
      have xc2 := xcl _ _ (hg 2 (by omega))
      have xc3 := xcl _ _ (hg 3 (by omega))
      have xc4 := xcl _ _ (hg 4 (by omega))
      have xc5 := xcl _ _ (hg 5 (by omega))
      have xc6 := xcl _ _ (hg 6 (by omega))
      rw [← Nat.add_assoc] at xc0 xc1 xc2 xc3 xc4 xc5 xc6
      rw [Nat.add_zero] at xc0
      clear xcl xbl
      obtain ⟨yb, yoff, rfl, ybl, ycl⟩ := (HB.out).at_ (by rw [ndsV_length]; omega)
      have yc0 := ycl _ _ (hg 0 (by omega))
      have yc1 := ycl _ _ (hg 1 (by omega))
      have yc2 := ycl _ _ (hg 2 (by omega))
      have yc3 := ycl _ _ (hg 3 (by omega))
      have yc4 := ycl _ _ (hg 4 (by omega))
      have yc5 := ycl _ _ (hg 5 (by omega))
      have yc6 := ycl _ _ (hg 6 (by omega))
      rw [← Nat.add_assoc] at yc0 yc1 yc2 yc3 yc4 yc5 yc6
      rw [Nat.add_zero] at yc0
      clear ycl ybl
      clear hx hg
      have hz := node_self (nd l k)
      unfold ndA at hz
      generalize nd l k = nx at *
      obtain ⟨kd, lf, rt, st⟩ := nx
      replace xc0 : w.cell? ⟨xb, xoff + k * 7, none⟩ = some (.int .i64 kd) := xc0
      replace xc1 : w.cell? ⟨xb, xoff + k * 7 + 1, none⟩ = some (.int .i64 lf) := xc1
      replace xc2 : w.cell? ⟨xb, xoff + k * 7 + 2, none⟩ = some (.int .i64 rt) := xc2
      replace xc3 : w.cell? ⟨xb, xoff + k * 7 + 3, none⟩ = some (.int .u64 (setW st 0)) := xc3
      replace xc4 : w.cell? ⟨xb, xoff + k * 7 + 4, none⟩ = some (.int .u64 (setW st 1)) := xc4
      replace xc5 : w.cell? ⟨xb, xoff + k * 7 + 5, none⟩ = some (.int .u64 (setW st 2)) := xc5
      replace xc6 : w.cell? ⟨xb, xoff + k * 7 + 6, none⟩ = some (.int .u64 (setW st 3)) := xc6
      replace yc0 : w.cell? ⟨yb, yoff + k * 7, none⟩ = some (.int .i64 kd) := yc0
      replace yc1 : w.cell? ⟨yb, yoff + k * 7 + 1, none⟩ = some (.int .i64 lf) := yc1
      replace yc2 : w.cell? ⟨yb, yoff + k * 7 + 2, none⟩ = some (.int .i64 rt) := yc2
      replace yc3 : w.cell? ⟨yb, yoff + k * 7 + 3, none⟩ = some (.int .u64 (setW st 0)) := yc3
      replace yc4 : w.cell? ⟨yb, yoff + k * 7 + 4, none⟩ = some (.int .u64 (setW st 1)) := yc4
      replace yc5 : w.cell? ⟨yb, yoff + k * 7 + 5, none⟩ = some (.int .u64 (setW st 2)) := yc5
      replace yc6 : w.cell? ⟨yb, yoff + k * 7 + 6, none⟩ = some (.int .u64 (setW st 3)) := yc6
      have i1 : (0 : Int) ≤ (k : Int) := by omega
      have i2 : (k : Int) < (l.length : Int) := by omega
      go_wp2_with fail
      go_quiet (fail)
      go_wp2_with fail
      go_roundw
      case rel => exact ⟨k + 1, _, by go_num, by omega, rfl⟩
      case measure => simp [intOf]; omega
    · have i2 : ¬ (k : Int) < (l.length : Int) := by omega
      go_wp2_with fail
      go_ret
      exact ⟨rfl, _, rfl⟩
end Go.Proofs.Ytaajgdhoffhdcaa
