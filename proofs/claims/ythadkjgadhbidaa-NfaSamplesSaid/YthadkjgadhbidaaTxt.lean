/-
  Texts: their cells, strings out of them.
-/
import Derived.Test.YthadkjgadhbidaaRxM
import Derived.Test.YthadkjgadhbidaaBytes
namespace Go.Proofs.Ythadkjgadhbidaa
open Go.RowKit
set_option linter.unusedVariables false

theorem info_c8 : (Try.prog.info? 5).map (fun i => (i.zero, i.size, i.bytes)) = some (some (.int .u8 0), 1, 1) := by kernel_rfl
/-- A text's cells. -/
def txt (t : List Nat) : List Value := t.map (fun x : Nat => Value.int .u8 (x : Int))
theorem txt_length (t : List Nat) : (txt t).length = t.length := by simp [txt]
theorem txt_get (t : List Nat) (i : Nat) (h : i < t.length) : (txt t)[i]? = some (.int .u8 (t.getD i 0 : Nat)) := by
  simp [txt, h, List.getD_eq_getElem?_getD]
theorem getD_bd {t : List Nat} (ht : ∀ x ∈ t, x < 256) (i : Nat) : t.getD i 0 < 256 := by
  rw [List.getD_eq_getElem?_getD]
  by_cases h : i < t.length
  · rw [List.getElem?_eq_getElem h]; exact ht _ (List.getElem_mem h)
  · rw [List.getElem?_eq_none (by omega)]; decide
def strOf (l : List Nat) : ByteArray := ⟨(l.map UInt8.ofNat).toArray⟩
theorem txt_bytes (s : List Nat) (h : ∀ x ∈ s, x < 256) : txt s = bytes (s.map UInt8.ofNat) := by
  unfold txt bytes
  rw [List.map_map]
  refine List.map_congr_left (fun x hx => ?_)
  have := h x hx
  simp
  omega
theorem bs_strOf (s : List Nat) (h : ∀ x ∈ s, x < 256) : bs (strOf s) = s := by
  unfold bs strOf
  simp only [List.map_map]
  have : ∀ x ∈ s, (UInt8.toNat ∘ UInt8.ofNat) x = id x := fun x hx => by
    have := h x hx
    simp
    omega
  rw [List.map_congr_left this, List.map_id]
theorem txt_snoc (L : List Nat) (s : Nat) : txt (L ++ [s]) = txt L ++ [.int .u8 (s : Int)] := by unfold txt; rw [List.map_append]; rfl
end Go.Proofs.Ythadkjgadhbidaa
