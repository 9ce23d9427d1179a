/-
  The sanity check of law 23.
-/
import Derived.Test.YtpknglclcdgfbaaRlV
namespace Go.Proofs.Ytpknglclcdgfbaa
open Go.RowKit Go.Shelf
set_option linter.unusedVariables false

def jdN (nm run : ByteArray) : Jd := ⟨nm, run, none, [], 0, none, [], 0, false, ⟨#[]⟩, 0, 0, 0, 0, 0, 0, none, [], 0, 0, 0⟩
theorem jdN_mem (nm run : ByteArray) (w : World) : JM w (jdN nm run) := ⟨Or.inl rfl, Or.inl rfl, Or.inl rfl, Nat.zero_le _, Nat.zero_le _, Nat.zero_le _⟩
def rlOld : List Jd := [jdN ⟨#[97]⟩ ⟨#[]⟩, jdN ⟨#[98]⟩ ⟨#[]⟩]
def rlNew : List Jd := [jdN ⟨#[98]⟩ ⟨#[121]⟩, jdN ⟨#[99]⟩ ⟨#[]⟩]
def rlChg : List (ByteArray × Int) := [(⟨#[97]⟩, 3), (⟨#[98]⟩, 2), (⟨#[99]⟩, 4)]
theorem rl_plan : planM rlOld rlNew = rlChg := by decide +kernel
theorem rl_jl (w : World) (A : Option Addr) (l : List Jd) (hl : ∀ j ∈ l, ∃ nm run, j = jdN nm run) (hn : l.length ≤ 10) (h : Rs w A (jdsV l)) : JL w A l :=
  ⟨h, fun j hj => (by obtain ⟨nm, run, rfl⟩ := hl j hj; exact jdN_mem nm run w), by omega⟩
theorem rl_two (a b c d : ByteArray) : ∀ j ∈ [jdN a b, jdN c d], ∃ nm run, j = jdN nm run := by
  intro j hj
  rcases List.mem_cons.mp hj with rfl | hj
  · exact ⟨_, _, rfl⟩
  · rw [List.mem_singleton.mp hj]
    exact ⟨_, _, rfl⟩
set_option maxHeartbeats 4000000 in
set_option maxRecDepth 100000 in
theorem rlsaneC (w : World) : Calls Try.prog 9 #[] w fun e w' => e = .returned (.bool true) ∧ Old w w' := by
  have ho1 := (Old.refl w).alloc (.cells #[.string ⟨#[97]⟩, .string ⟨#[]⟩, .slice none 0 0, .slice none 0 0, .bool false, .string ⟨#[]⟩, .int .i64 0, .int .u64 0, .int .u64 0, .int .u64 0, .int .i64 0, .int .u64 0, .slice none 0 0, .int .i64 0, .int .i64 0, .string ⟨#[98]⟩, .string ⟨#[]⟩, .slice none 0 0, .slice none 0 0, .bool false, .string ⟨#[]⟩, .int .i64 0, .int .u64 0, .int .u64 0, .int .u64 0, .int .i64 0, .int .u64 0, .slice none 0 0, .int .i64 0, .int .i64 0] 33)
  have hr1 : Rs (w.alloc (.cells #[.string ⟨#[97]⟩, .string ⟨#[]⟩, .slice none 0 0, .slice none 0 0, .bool false, .string ⟨#[]⟩, .int .i64 0, .int .u64 0, .int .u64 0, .int .u64 0, .int .i64 0, .int .u64 0, .slice none 0 0, .int .i64 0, .int .i64 0, .string ⟨#[98]⟩, .string ⟨#[]⟩, .slice none 0 0, .slice none 0 0, .bool false, .string ⟨#[]⟩, .int .i64 0, .int .u64 0, .int .u64 0, .int .u64 0, .int .i64 0, .int .u64 0, .slice none 0 0, .int .i64 0, .int .i64 0] 33)) (some ⟨w.heap.size, 0, none⟩) (jdsV rlOld) := rs_new w (jdsV rlOld) 33
  have hs1 : (w.alloc (.cells #[.string ⟨#[97]⟩, .string ⟨#[]⟩, .slice none 0 0, .slice none 0 0, .bool false, .string ⟨#[]⟩, .int .i64 0, .int .u64 0, .int .u64 0, .int .u64 0, .int .i64 0, .int .u64 0, .slice none 0 0, .int .i64 0, .int .i64 0, .string ⟨#[98]⟩, .string ⟨#[]⟩, .slice none 0 0, .slice none 0 0, .bool false, .string ⟨#[]⟩, .int .i64 0, .int .u64 0, .int .u64 0, .int .u64 0, .int .i64 0, .int .u64 0, .slice none 0 0, .int .i64 0, .int .i64 0] 33)).heap.size = w.heap.size + 1 := by simp
  generalize hw1 : w.alloc (.cells #[.string ⟨#[97]⟩, .string ⟨#[]⟩, .slice none 0 0, .slice none 0 0, .bool false, .string ⟨#[]⟩, .int .i64 0, .int .u64 0, .int .u64 0, .int .u64 0, .int .i64 0, .int .u64 0, .slice none 0 0, .int .i64 0, .int .i64 0, .string ⟨#[98]⟩, .string ⟨#[]⟩, .slice none 0 0, .slice none 0 0, .bool false, .string ⟨#[]⟩, .int .i64 0, .int .u64 0, .int .u64 0, .int .u64 0, .int .i64 0, .int .u64 0, .slice none 0 0, .int .i64 0, .int .i64 0] 33) = w1 at *
  have hr2 : Rs (w1.alloc (.cells #[.string ⟨#[98]⟩, .string ⟨#[121]⟩, .slice none 0 0, .slice none 0 0, .bool false, .string ⟨#[]⟩, .int .i64 0, .int .u64 0, .int .u64 0, .int .u64 0, .int .i64 0, .int .u64 0, .slice none 0 0, .int .i64 0, .int .i64 0, .string ⟨#[99]⟩, .string ⟨#[]⟩, .slice none 0 0, .slice none 0 0, .bool false, .string ⟨#[]⟩, .int .i64 0, .int .u64 0, .int .u64 0, .int .u64 0, .int .i64 0, .int .u64 0, .slice none 0 0, .int .i64 0, .int .i64 0] 33)) (some ⟨w1.heap.size, 0, none⟩) (jdsV rlNew) := rs_new w1 (jdsV rlNew) 33
  rw [hs1] at hr2
  have ho2 := (Old.refl w1).alloc (.cells #[.string ⟨#[98]⟩, .string ⟨#[121]⟩, .slice none 0 0, .slice none 0 0, .bool false, .string ⟨#[]⟩, .int .i64 0, .int .u64 0, .int .u64 0, .int .u64 0, .int .i64 0, .int .u64 0, .slice none 0 0, .int .i64 0, .int .i64 0, .string ⟨#[99]⟩, .string ⟨#[]⟩, .slice none 0 0, .slice none 0 0, .bool false, .string ⟨#[]⟩, .int .i64 0, .int .u64 0, .int .u64 0, .int .u64 0, .int .i64 0, .int .u64 0, .slice none 0 0, .int .i64 0, .int .i64 0] 33)
  have hp := planC (some ⟨w.heap.size, 0, none⟩) (some ⟨w.heap.size + 1, 0, none⟩) 2 2 rlOld rlNew (w1.alloc (.cells #[.string ⟨#[98]⟩, .string ⟨#[121]⟩, .slice none 0 0, .slice none 0 0, .bool false, .string ⟨#[]⟩, .int .i64 0, .int .u64 0, .int .u64 0, .int .u64 0, .int .i64 0, .int .u64 0, .slice none 0 0, .int .i64 0, .int .i64 0, .string ⟨#[99]⟩, .string ⟨#[]⟩, .slice none 0 0, .slice none 0 0, .bool false, .string ⟨#[]⟩, .int .i64 0, .int .u64 0, .int .u64 0, .int .u64 0, .int .i64 0, .int .u64 0, .slice none 0 0, .int .i64 0, .int .i64 0] 33)) (rl_jl _ _ _ (rl_two _ _ _ _) (by decide) (hr1.up ho2)) (rl_jl _ _ _ (rl_two _ _ _ _) (by decide) hr2) (by decide) (by decide)
  rw [rl_plan] at hp
  have HP := Lib.hid hp
  have HO := Lib.hid (ho1.up ho2)
  subst hw1
  clear hp hr1 hr2 ho1 ho2 hs1
  go_enter Try.func9, Try.ntmps9
  go_wp2_with fail
  refine (HP.out).mono ?_; rintro e w3 ⟨v, rfl, hown, hd⟩
  obtain ⟨A, c, rfl, ht, _, _⟩ := hown.shape
  have hs := samePlanC A (some ⟨w3.heap.size, 0, none⟩) c 3 rlChg (w3.alloc (.cells #[.string ⟨#[97]⟩, .int .i64 3, .string ⟨#[98]⟩, .int .i64 2, .string ⟨#[99]⟩, .int .i64 4] 43)) (ht.rs.up ((Old.refl w3).alloc _)) (rs_new w3 (chgV rlChg) 43) (by decide)
  have HS := Lib.hid hs
  have HD := Lib.hid ((HO.out.up hd).alloc (.cells #[.string ⟨#[97]⟩, .int .i64 3, .string ⟨#[98]⟩, .int .i64 2, .string ⟨#[99]⟩, .int .i64 4] 43))
  clear hs hd ht hown HP HO
  go_wp2_with fail
  refine (HS.out).mono ?_; rintro e w4 ⟨rfl, hd⟩
  go_wp2_with fail
  go_ret
  exact ⟨rfl, HD.out.up hd⟩
end Go.Proofs.Ytpknglclcdgfbaa
