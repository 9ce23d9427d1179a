/-
  What a mark is, alone and behind a backslash. No program in sight.
-/
import Derived.Test.YtaajgdhoffhdcaaRgU
namespace Go.Proofs.Ytaajgdhoffhdcaa
open Go.RowKit
set_option linter.unusedVariables false

def markOk (b : Nat) : Bool := !markB b || (decide (parseF 18 [92, b] = some ([⟨2, 0, 0, 2 ^ b⟩], 0)) && (b == 46 || (match parseF 12 [b] with
  | none => false
  | some r => r.2 != 0 || (r.1.length != 1 || ((nd r.1 0).kind != 2 || r.1 == [⟨2, 0, 0, 2 ^ b⟩])))))
theorem marks_all : (List.range 256).all markOk = true := by decide +kernel
theorem mark_law {b : Nat} (hb : b < 256) (hm : markB b = true) : parseR [92, b] = ([⟨2, 0, 0, 2 ^ b⟩], 0) ∧ (b = 46 ∨ (parseR [b]).2 ≠ 0 ∨ (parseR [b]).1.length ≠ 1 ∨ (nd (parseR [b]).1 0).kind ≠ 2 ∨ (parseR [b]).1 = [⟨2, 0, 0, 2 ^ b⟩]) := by
  have h := List.all_eq_true.mp marks_all b (List.mem_range.mpr hb)
  have h1 := parseR_eq [b]
  have h2 := parseR_eq [92, b]
  replace h1 : parseF 12 [b] = some (parseR [b]) := h1
  replace h2 : parseF 18 [92, b] = some (parseR [92, b]) := h2
  unfold markOk at h
  rw [h1, h2, hm] at h
  simp at h
  exact h
theorem dot_law : parseR [46] = ([⟨2, 0, 0, notB (withB 0 10)⟩], 0) := by decide +kernel
end Go.Proofs.Ytaajgdhoffhdcaa
