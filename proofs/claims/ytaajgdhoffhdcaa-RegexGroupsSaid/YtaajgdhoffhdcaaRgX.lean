/-
  Two lists of one node each that differ are not the same.
-/
import Derived.Test.YtaajgdhoffhdcaaRgQ
namespace Go.Proofs.Ytaajgdhoffhdcaa
open Go.RowKit
set_option linter.unusedVariables false

set_option maxRecDepth 100000 in
theorem set_ne (n : Nat) (a b c d e f g h : Int) (hne : a ≠ e) (W : World) : (Op.equalIn (n + 2) 46 (.agg #[.int .u64 a, .int .u64 b, .int .u64 c, .int .u64 d]) (.agg #[.int .u64 e, .int .u64 f, .int .u64 g, .int .u64 h])).run Try.prog W = .ok false W :=
  (run_equalIn_arr4 (n + 1) _ _ Try.underlying45 (fun _ => by kernel_rfl) (fun _ => by kernel_rfl) (fun x y W => run_equalIn_int W n _ .u64 .u64 x y Try.underlying44) a b c d e f g h W).trans (by simp [hne])
def nd2A (s : BSet) : Value := .agg #[.int .i64 2, .int .i64 0, .int .i64 0, .int .u64 (setW s 0), .int .u64 (setW s 1), .int .u64 (setW s 2), .int .u64 (setW s 3)]
set_option maxRecDepth 100000 in
theorem node_ne (s t : BSet) (h : setW s 0 ≠ setW t 0) (W : World) : (Op.equalIn 10000 48 (nd2A s) (nd2A t)).run Try.prog W = .ok false W := by
  unfold nd2A
  have hs := set_ne 9997 (setW s 0) (setW s 1) (setW s 2) (setW s 3) (setW t 0) (setW t 1) (setW t 2) (setW t 3) (by omega)
  rw [run_equalIn_struct W 9999 _ _ _ (by kernel_rfl) (by kernel_rfl)]
  simp [Op.eqFields, go_sem]
  simp [hs]
set_option maxHeartbeats 8000000 in
set_option maxRecDepth 100000 in
theorem nsameD (A : Option Addr) (ca : Nat) (B : Option Addr) (cb : Nat) (s t : BSet) (h : setW s 0 ≠ setW t 0) (w : World) (hA : Rs w A (ndsV [⟨2, 0, 0, s⟩])) (hB : Rs w B (ndsV [⟨2, 0, 0, t⟩])) :
    Calls Try.prog 27 #[.slice A 1 ca, .slice B 1 cb] w (BDraw false w) := by
  have hz := node_ne s t h
  unfold nd2A at hz
  clear h
  obtain ⟨xb, xoff, rfl, xbl, xcl⟩ := (hA).at_ (by rw [ndsV_length]; exact Nat.lt_of_sub_eq_succ rfl)
  have xc0 : w.cell? ⟨xb, xoff, none⟩ = some (.int .i64 2) := xcl 0 _ rfl
  have xc1 : w.cell? ⟨xb, xoff + 1, none⟩ = some (.int .i64 0) := xcl 1 _ rfl
  have xc2 : w.cell? ⟨xb, xoff + 2, none⟩ = some (.int .i64 0) := xcl 2 _ rfl
  have xc3 : w.cell? ⟨xb, xoff + 3, none⟩ = some (.int .u64 (setW s 0)) := xcl 3 _ rfl
  have xc4 : w.cell? ⟨xb, xoff + 4, none⟩ = some (.int .u64 (setW s 1)) := xcl 4 _ rfl
  have xc5 : w.cell? ⟨xb, xoff + 5, none⟩ = some (.int .u64 (setW s 2)) := xcl 5 _ rfl
  have xc6 : w.cell? ⟨xb, xoff + 6, none⟩ = some (.int .u64 (setW s 3)) := xcl 6 _ rfl
  clear xcl xbl
  obtain ⟨yb, yoff, rfl, ybl, ycl⟩ := (hB).at_ (by rw [ndsV_length]; exact Nat.lt_of_sub_eq_succ rfl)
  have yc0 : w.cell? ⟨yb, yoff, none⟩ = some (.int .i64 2) := ycl 0 _ rfl
  have yc1 : w.cell? ⟨yb, yoff + 1, none⟩ = some (.int .i64 0) := ycl 1 _ rfl
  have yc2 : w.cell? ⟨yb, yoff + 2, none⟩ = some (.int .i64 0) := ycl 2 _ rfl
  have yc3 : w.cell? ⟨yb, yoff + 3, none⟩ = some (.int .u64 (setW t 0)) := ycl 3 _ rfl
  have yc4 : w.cell? ⟨yb, yoff + 4, none⟩ = some (.int .u64 (setW t 1)) := ycl 4 _ rfl
  have yc5 : w.cell? ⟨yb, yoff + 5, none⟩ = some (.int .u64 (setW t 2)) := ycl 5 _ rfl
  have yc6 : w.cell? ⟨yb, yoff + 6, none⟩ = some (.int .u64 (setW t 3)) := ycl 6 _ rfl
  clear ycl ybl
  clear hA hB
  go_enter Try.func27, Try.ntmps27
  go_wp2_with fail
  go_loopw [5] (fun s5 wr => s5 = .int .i64 0 ∧ wr = w) (fun _ _ => 0)
  case atStart => exact ⟨rfl, rfl⟩
  case round =>
    obtain ⟨rfl, rfl⟩ := hrel
    go_wp2_with fail
    go_quiet (fail)
    go_wp2_with fail
    go_ret
    exact ⟨rfl, _, rfl⟩
end Go.Proofs.Ytaajgdhoffhdcaa
