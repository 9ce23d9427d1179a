/-
  The sanity check of the statements on lang.
-/
import Derived.Test.YtaajgdhoffhdcaaLwB
import Derived.Lib.SlBytesConst
namespace Go.Proofs.Ytaajgdhoffhdcaa
open Go.RowKit
set_option linter.unusedVariables false

def sanL : List Nd := [⟨2, 0, 0, 2 ^ 97⟩, ⟨5, 0, 0, 0⟩, ⟨2, 0, 0, 2 ^ 98⟩, ⟨3, 1, 2, 0⟩]
def sanM : List Nd := [⟨9, 0, 0, 0⟩]
theorem san1 : parseF 24 [97, 42, 98] = some (sanL, 0) := by decide +kernel
theorem san2 : parseF 24 [36] = some (sanM, 0) := by decide +kernel
theorem san3 : endsM sanL [97, 97, 98] 0 = [3] := by decide +kernel
theorem san4 : firstM sanL [97, 97, 98] = 3 := by decide +kernel
theorem san5 : firstM sanM [120, 10] = 2 := by decide +kernel
theorem sanL_ok : ∀ x ∈ sanL, setOk x.set := parseF_sets (B := [97, 42, 98]) (by decide) san1
theorem sanM_ok : ∀ x ∈ sanM, setOk x.set := parseF_sets (B := [36]) (by decide) san2
theorem rs_of_new (w w' : World) (cs : List Value) (e : TypeId) (h : Old (w.alloc (.cells cs.toArray e)) w') : Rs w' (some ⟨w.heap.size, 0, none⟩) cs := (rs_new w cs e).up h
theorem rs_of_newF (w w' : World) (cs : List Value) (e : TypeId) (fz : Nat × Nat) (h : Old (w.alloc (.cells cs.toArray e fz)) w') : Rs w' (some ⟨w.heap.size, 0, none⟩) cs := by
  refine Rs.up ?_ h
  refine Or.inr ⟨_, _, rfl, fun j u hu => ?_⟩
  rw [Nat.zero_add, cell_of_row _ w.heap.size j cs.toArray e fz (heap_alloc_new w _)]
  simpa using hu
set_option maxHeartbeats 8000000 in
set_option maxRecDepth 100000 in
theorem saneC (w : World) : Calls Try.prog 15 #[] w (ValOld (.bool true) w) := by
  have HP1 : Hid (Calls Try.prog 21 #[.string ⟨#[97, 42, 98]⟩] w (ParsePost w (sanL, 0))) := Lib.hid (parseC 24 ⟨#[97, 42, 98]⟩ (sanL, 0) w (by decide) san1)
  have HP2 : Hid (∀ w', Calls Try.prog 21 #[.string ⟨#[36]⟩] w' (ParsePost w' (sanM, 0))) := Lib.hid (fun w' => parseC 24 ⟨#[36]⟩ (sanM, 0) w' (by decide) san2)
  have hcv := fun (W : World) (C : Array Value) (n c : Nat) => Lib.run_convert_bytes_const (P := Try.prog) W 24 5 C n c Try.underlying24 Try.underlying5
  go_enter Try.func15, Try.ntmps15
  go_wp2_with fail
  refine (HP1.out).mono ?_; rintro e w1 ⟨v1, rfl, ho1, hd1⟩
  obtain ⟨A1, c1, rfl, ht1, hc1, _⟩ := ho1.shape
  have HR1 := Lib.hid ht1.rs
  have HD1 := Lib.hid hd1
  clear ho1 hd1 ht1 HP1 hc1
  go_wp2_with fail
  refine (HP2.out _).mono ?_; rintro e w2 ⟨v2, rfl, ho2, hd2⟩
  obtain ⟨A2, c2, rfl, ht2, hc2, _⟩ := ho2.shape
  have HR2 := Lib.hid ht2.rs
  have HD2 := Lib.hid (HD1.out.up hd2)
  have HR1' := Lib.hid (HR1.out.up hd2)
  clear ho2 hd2 ht2 HP2 hc2 HR1
  have hE := fun (w' : World) (h : Old (w2.alloc (.cells #[.int .u8 97, .int .u8 97, .int .u8 98] 5 (3, 4))) w') => endsC A1 c1 sanL (some ⟨w2.heap.size, 0, none⟩) 3 [97, 97, 98] 0 w' ((HR1'.out.up ((Old.refl w2).alloc _)).up h) (rs_of_newF w2 w' (txt [97, 97, 98]) _ _ h) (by decide) (by decide) (by decide) sanL_ok
  rw [san3] at hE
  have HE := Lib.hid hE
  clear hE
  go_wp2_with fail
  refine (HE.out _ (Old.refl _)).mono ?_; rintro e w3 ⟨v3, rfl, ho3, hd3⟩
  obtain ⟨A3, c3, rfl, ht3, _, _⟩ := ho3.shape
  have HR3 := Lib.hid ht3.rs
  have HD3 := Lib.hid (((Old.refl w2).alloc (.cells #[.int .u8 97, .int .u8 97, .int .u8 98] 5 (3, 4))).up hd3)
  clear ho3 hd3 ht3 HE
  have hS := sameC A3 c3 [3] (some ⟨w3.heap.size, 0, none⟩) 1 [3] (w3.alloc (.cells #[.int .i64 3] 3)) (HR3.out.up ((Old.refl w3).alloc _)) (rs_of_new w3 _ (spz [3]) _ (Old.refl _)) (by decide) (by decide)
  rw [show decide ([3] = [3]) = true from rfl] at hS
  have HS := Lib.hid hS
  have HD4 := Lib.hid ((HD3.out.up ((Old.refl w3).alloc (.cells #[.int .i64 3] 3))))
  clear hS
  go_wp2_with fail
  refine (HS.out).mono ?_; rintro e w4 ⟨rfl, n4, rfl⟩
  have HD5 := Lib.hid (HD4.out.drewN n4)
  generalize (w3.alloc (.cells #[.int .i64 3] 3)).drewN n4 = w5 at *
  clear HS HD4 HD3 HR3
  have HR5 := Lib.hid (HR1'.out.up (show Old w2 w5 from HD5.out))
  have HR6 := Lib.hid (HR2.out.up (show Old w2 w5 from HD5.out))
  have HD6 := Lib.hid (HD2.out.up HD5.out)
  clear HD5 HR1' HR2 HD2
  have hF := fun (w' : World) (h : Old (w5.alloc (.cells #[.int .u8 97, .int .u8 97, .int .u8 98] 5 (3, 4))) w') => firstC A1 c1 sanL (some ⟨w5.heap.size, 0, none⟩) 3 [97, 97, 98] w' ((HR5.out.up ((Old.refl w5).alloc _)).up h) (rs_of_newF w5 w' (txt [97, 97, 98]) _ _ h) (by decide) (by decide) (by decide) sanL_ok
  rw [san4] at hF
  have HF := Lib.hid hF
  clear hF
  go_wp2_with fail
  refine (HF.out _ (Old.refl _)).mono ?_; rintro e w7 ⟨rfl, hd7⟩
  have HD7 := Lib.hid (((HD6.out.alloc (.cells #[.int .u8 97, .int .u8 97, .int .u8 98] 5 (3, 4)))).up hd7)
  have HR7 := Lib.hid ((HR6.out.up ((Old.refl w5).alloc (.cells #[.int .u8 97, .int .u8 97, .int .u8 98] 5 (3, 4)))).up hd7)
  clear hd7 HF HD6 HR5 HR6
  have hF := fun (w' : World) (h : Old (w7.alloc (.cells #[.int .u8 120, .int .u8 10] 5 (2, 3))) w') => firstC A2 c2 sanM (some ⟨w7.heap.size, 0, none⟩) 2 [120, 10] w' ((HR7.out.up ((Old.refl w7).alloc _)).up h) (rs_of_newF w7 w' (txt [120, 10]) _ _ h) (by decide) (by decide) (by decide) sanM_ok
  rw [san5] at hF
  have HF := Lib.hid hF
  clear hF
  go_wp2_with fail
  refine (HF.out _ (Old.refl _)).mono ?_; rintro e w9 ⟨rfl, hd9⟩
  have HD9 := Lib.hid (((HD7.out.alloc (.cells #[.int .u8 120, .int .u8 10] 5 (2, 3)))).up hd9)
  clear hd9 HF HD7 HR7
  go_wp2_with fail
  go_ret
  exact ⟨rfl, HD9.out⟩
end Go.Proofs.Ytaajgdhoffhdcaa
