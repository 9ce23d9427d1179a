/-
  The reference's SameTimes on equal lists.
-/
import Derived.Test.YtpknglclcdgfbaaBurstX
namespace Go.Proofs.Ytpknglclcdgfbaa
open Go.RowKit Go.Shelf
set_option linter.unusedVariables false

theorem sameT (A A' : Option Addr) (c c' : Nat) (l : List Int) (w : World) (hr : Rs w A (u64s l)) (hr' : Rs w A' (u64s l)) (hm : l.length ≤ 68719476736) :
    Calls Try.prog 66 #[.slice A l.length c, .slice A' l.length c'] w fun e w' => e = .returned (.bool true) ∧ ∃ k, w' = w.drewN k := by
  go_enter Try.func66, Try.ntmps66
  go_wp2_with fail
  go_loopw [5] (fun i wr => ∃ k m : Nat, k ≤ l.length ∧ i = .int .i64 k ∧ wr = w.drewN m) (fun i _ => l.length - (intOf i).toNat)
  case atStart => exact ⟨0, 0, Nat.zero_le _, rfl, rfl⟩
  case round =>
    obtain ⟨k, m, hk, rfl, rfl⟩ := hrel
    by_cases hlt : k < l.length
    · obtain ⟨b, off, rfl, _, hc⟩ := hr.at_ (by rw [u64s_length]; omega)
      obtain ⟨b', off', rfl, _, hc'⟩ := hr'.at_ (by rw [u64s_length]; omega)
      have c1 := hc _ _ (u64s_get l k hlt)
      have d1 := hc' _ _ (u64s_get l k hlt)
      clear hc hc' hr hr'
      generalize l.getD k 0 = p at *
      go_wp2_with fail
      go_quiet (fail)
      go_wp2_with fail
      go_roundw
      case rel => exact ⟨k + 1, _, by omega, by go_num, rfl⟩
      case measure => simp [intOf]; omega
    · go_wp2_with fail
      go_ret
      exact ⟨rfl, _, rfl⟩

end Go.Proofs.Ytpknglclcdgfbaa
