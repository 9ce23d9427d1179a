/-
  The walk of the statement RegexLimits.
-/
import Derived.Test.YtaajgdhoffhdcaaRgQ
import Derived.Test.YtaajgdhoffhdcaaRgP
import Derived.Test.YtaajgdhoffhdcaaMod
import Derived.Laws.Concat
import Derived.Lib.OthersKept
namespace Go.Proofs.Ytaajgdhoffhdcaa
open Go.RowKit
set_option linter.unusedVariables false

theorem width_pos (s : ByteArray) (pos : Nat) (h : pos < s.size) : 1 ≤ (Utf8.decode s pos).2 := by
  by_cases ha : (s[pos]'h).toNat < 128
  · rw [decode_ascii s pos h ha]
    exact Nat.le_refl _
  · exact (decode_high s pos h (by omega)).2
theorem cat_ex (a b : ByteArray) (h : a.size + b.size ≤ 9223372036854775807) : ∃ r : ByteArray, (∀ W : World, (Op.stringOp .add a b).run Try.prog W = .ok (.string r) W) ∧ r.size = a.size + b.size :=
  ⟨a ++ b, fun W => run_string_add_sum W a b h, by simp⟩
def LiRel (W : World) (m : Int) (v4 v5 v6 v7 : Value) (wr : World) : Prop := ∃ (i : Nat) (a b c : ByteArray), v7 = .int .i64 i ∧ v4 = .string a ∧ v5 = .string b ∧ v6 = .string c ∧ (i : Int) ≤ 127 + m ∧ a.size ≤ i ∧ b.size ≤ i ∧ c.size ≤ 2 * i ∧ W = wr
def LdRel (W : World) (b : ByteArray) (v : Value) (wr : World) : Prop := ∃ (pos : Nat) (d : ByteArray), v = .string d ∧ d.size ≤ pos ∧ d.size ≤ b.size ∧ wr.heap[W.heap.size]? = some (.stringIter b pos) ∧ Hid (Old W wr)
def LsRel (W : World) (v : Value) (wr : World) : Prop := ∃ k : Nat, v = .int .i64 k ∧ k ≤ 5 ∧ Hid (Old W wr)
set_option maxHeartbeats 8000000 in
set_option maxRecDepth 100000 in
theorem limits_any (n : Int) (w : World) : Calls Try.prog 7 #[.int .i64 n] w (ValOld (.bool true) w) := by
  have HS := Lib.hid (sane8C w)
  have HM := Lib.hid (fun W => mod_any n 3 (by decide) (by decide) W)
  have m0 : 0 ≤ n % 3 := Int.emod_nonneg _ (by decide)
  have m1 : n % 3 ≤ 2 := by omega
  generalize n % 3 = m at *
  go_enter Try.func7, Try.ntmps7
  go_wp2_with fail
  refine (HS.out).mono ?_; rintro e w1 ⟨rfl, hd1⟩
  have HD1 := Lib.hid hd1
  clear hd1 HS
  go_wp2_with fail
  refine (HM.out w1).mono ?_; rintro e w2 ⟨rfl, rfl⟩
  clear HM
  go_wp2_with fail
  go_loopw [4, 5, 6, 7] (fun s4 s5 s6 s7 wr => LiRel w1 m s4 s5 s6 s7 wr) (fun _ _ _ s7 _ => 200 - (intOf s7).toNat)
  case atStart => exact ⟨0, ⟨#[]⟩, ⟨#[]⟩, ⟨#[]⟩, rfl, rfl, rfl, rfl, by omega, Nat.le_refl _, Nat.le_refl _, Nat.le_refl _, rfl⟩
  case round =>
    obtain ⟨i, a, b, c, rfl, rfl, rfl, rfl, hi, ha, hb, hc, rfl⟩ := hrel
    by_cases h1 : (i : Int) < 127 + m
    · obtain ⟨a2, ra, sa⟩ := cat_ex a ⟨#[97]⟩ (by have e1 : (ByteArray.mk #[97]).size = 1 := rfl; omega)
      obtain ⟨b2, rb, sb⟩ := cat_ex b ⟨#[40]⟩ (by have e1 : (ByteArray.mk #[40]).size = 1 := rfl; omega)
      obtain ⟨c2, rc, sc⟩ := cat_ex c ⟨#[124, 97]⟩ (by have e1 : (ByteArray.mk #[124, 97]).size = 2 := rfl; omega)
      replace sa : a2.size = a.size + 1 := sa
      replace sb : b2.size = b.size + 1 := sb
      replace sc : c2.size = c.size + 2 := sc
      by_cases h2 : (i : Int) < 23 + m <;> by_cases h3 : (c.size : Int) < 2 * (60 + m)
      all_goals
        go_wp2_with fail
        go_roundw
        case rel => exact ⟨i + 1, _, _, _, by go_num, rfl, rfl, rfl, by omega, by omega, by omega, by omega, rfl⟩
        case measure => simp [intOf]; omega
    · have ha2 : a.size ≤ 129 := by omega
      have hb2 : b.size ≤ 129 := by omega
      have hc2 : c.size ≤ 258 := by omega
      have HAs := Lib.hid ha2
      have HBs := Lib.hid hb2
      have HCs := Lib.hid hc2
      clear hi ha hb hc ha2 hb2 hc2
      go_wp2_with fail
      clear m0 m1 h1 
      go_loopw [8] (fun s8 wr => LdRel w1 b s8 wr) (fun _ wr => b.size - wr.iterPos w1.heap.size)
      case atStart =>
        exact ⟨0, ⟨#[]⟩, rfl, Nat.le_refl _, Nat.zero_le _, heap_alloc_new w1 (.stringIter b 0), Lib.hid ((Old.refl _).alloc (.stringIter b 0))⟩
      case round =>
        obtain ⟨pos, d, rfl, hd, hdb, hit, HO⟩ := hrel
        by_cases hp : pos < b.size
        · have hnx : ∀ ty, (Instr.next (.pointer (some ⟨w1.heap.size, 0, none⟩)) true ty).run Try.prog wr = _ := fun ty => Lib.run_next_any_at wr w1.heap.size b pos ty hit hp
          have hwd := width_pos b pos hp
          obtain ⟨d2, rd, sd⟩ := cat_ex d ⟨#[41]⟩ (by have e1 : (ByteArray.mk #[41]).size = 1 := rfl; have := HBs.out; omega)
          replace sd : d2.size = d.size + 1 := sd
          go_wp2_with fail
          go_roundw
          case rel => exact ⟨_, d2, rfl, by omega, by omega, Lib.iterAt_heap _ _ _ _ _ hit, Lib.hid (Lib.below_iterAt HO.out (Nat.le_refl _) _ _)⟩
          case measure =>
            have e1 := Lib.iterAt_heap wr _ b pos (pos + (Utf8.decode b pos).2) hit
            simp [World.iterPos, e1, hit]
            omega
        · have hnx : ∀ ty, (Instr.next (.pointer (some ⟨w1.heap.size, 0, none⟩)) true ty).run Try.prog wr = _ := fun ty => Lib.run_next_end_at wr w1.heap.size b pos ty hit hp
          have hb1 := HBs.out
          have hc1 := HCs.out
          obtain ⟨r1, q1, z1⟩ := cat_ex b ⟨#[97]⟩ (by have e1 : (ByteArray.mk #[97]).size = 1 := rfl; omega)
          replace z1 : r1.size = b.size + 1 := z1
          obtain ⟨r2, q2, z2⟩ := cat_ex r1 d (by omega)
          by_cases hm : (c.size : Int) ≤ 10
          · obtain ⟨r3, q3, z3⟩ := cat_ex c c (by omega)
            have j1 : (0 : Int) ≤ (c.size : Int) := by omega
            have j2 : ¬ (10 : Int) < (c.size : Int) := by omega
            have HR2 : Hid (r2.size ≤ 600) := Lib.hid (by omega)
            have HR3 : Hid (r3.size ≤ 600) := Lib.hid (by omega)
            clear z1 z2 z3 hb1 hc1 hd hdb
            have HD2 := Lib.hid (HD1.out.up HO.out)
            clear HO HD1 hit
            go_wp2_with fail
            clear q1 q2 q3 hnx j1 j2 hm
            have hbl := heap_alloc_new wr (.cells #[.string a, .string r2, .string b, .string c, .string r3] 9)
            have HD3 := Lib.hid (HD2.out.alloc (.cells #[.string a, .string r2, .string b, .string c, .string r3] 9))
            generalize wr.alloc (.cells #[.string a, .string r2, .string b, .string c, .string r3] 9) = W3 at *
            have HB := Lib.hid hbl
            clear hbl HD2
            generalize wr.heap.size = kb at *
            go_loopw [63] (fun s63 wr => LsRel W3 s63 wr) (fun s63 _ => 5 - (intOf s63).toNat)
            case atStart => exact ⟨0, rfl, by omega, Lib.hid (Old.refl _)⟩
            case round =>
              obtain ⟨k, rfl, hk, HO⟩ := hrel
              by_cases hk5 : k < 5
              · obtain ⟨x, hx, hxl⟩ : ∃ x : ByteArray, wr.cell? ⟨kb, k, none⟩ = some (.string x) ∧ Hid (x.size ≤ 600) := by
                  have hb := HO.out.block HB.out
                  have h2 : k = 0 ∨ k = 1 ∨ k = 2 ∨ k = 3 ∨ k = 4 := by omega
                  rcases h2 with rfl | rfl | rfl | rfl | rfl
                  · exact ⟨a, by rw [cell_of_row _ kb 0 _ _ _ hb]; rfl, Lib.hid (by have := HAs.out; omega)⟩
                  · exact ⟨r2, by rw [cell_of_row _ kb 1 _ _ _ hb]; rfl, HR2⟩
                  · exact ⟨b, by rw [cell_of_row _ kb 2 _ _ _ hb]; rfl, Lib.hid (by have := HBs.out; omega)⟩
                  · exact ⟨c, by rw [cell_of_row _ kb 3 _ _ _ hb]; rfl, Lib.hid (by have := HCs.out; omega)⟩
                  · exact ⟨r3, by rw [cell_of_row _ kb 4 _ _ _ hb]; rfl, HR3⟩
                have i3 : (0 : Int) ≤ (k : Int) := by omega
                have i4 : (k : Int) < 5 := by omega
                have HP := Lib.hid (parse_rs x wr)
                have hxm := hxl.out
                have HC := Lib.hid (fun w' => parseC (6 * (bs x).length + 6) x (parseR (bs x)) w' (by omega) (parseR_eq _))
                have hrl := parseR_len (bs x)
                generalize parseR (bs x) = r at *
                obtain ⟨n2, e⟩ := r
                replace hrl : n2.length ≤ 256 := hrl
                have hne : (e != e) = false := by simp
                have HN := Lib.hid hrl
                clear hrl hxm
                go_wp2_with fail
                refine (HP.out).mono ?_; rintro e w5 ⟨v5, rfl, ho5, hd5⟩
                obtain ⟨An, cn, rfl, ht5, _, _⟩ := ho5.shape
                have HRN := Lib.hid ht5.rs
                have HO5 := Lib.hid (HO.out.up hd5)
                clear ho5 ht5 hd5 HP HO hx
                go_wp2_with fail
                refine (HC.out w5).mono ?_; rintro e w6 ⟨v6, rfl, ho6, hd6⟩
                obtain ⟨An2, cn2, rfl, ht6, _, _⟩ := ho6.shape
                have HRN2 := Lib.hid ht6.rs
                have HRN1 := Lib.hid (HRN.out.up hd6)
                have HO6 := Lib.hid (HO5.out.up hd6)
                clear ho6 ht6 hd6 HC HO5 HRN
                have HSA := Lib.hid (nsameC An cn An2 cn2 n2 w6 HRN1.out HRN2.out (by have := HN.out; unfold maxLen; omega))
                clear HRN1 HRN2
                go_wp2_with fail
                refine (HSA.out).mono ?_; rintro e w7 ⟨rfl, nq, rfl⟩
                go_wp2_with fail
                go_roundw
                case rel => exact ⟨k + 1, by go_num, by omega, Lib.hid (HO6.out.drewN nq)⟩
                case measure => simp [intOf]; omega
              · have i4 : ¬ (k : Int) < 5 := by omega
                go_wp2_with fail
                go_ret
                exact ⟨rfl, HD3.out.up HO.out⟩
          · have hex : (c.extract 0 10).size ≤ c.size := by rw [ByteArray.size_extract]; omega
            obtain ⟨r3, q3, z3⟩ := cat_ex c (c.extract 0 10) (by omega)
            replace z3 : r3.size ≤ 600 := by omega
            have j1 : (10 : Int) ≤ (c.size : Int) := by omega
            have j2 : (10 : Int) < (c.size : Int) := by omega
            clear hex
            have HR2 : Hid (r2.size ≤ 600) := Lib.hid (by omega)
            have HR3 : Hid (r3.size ≤ 600) := Lib.hid (by omega)
            clear z1 z2 z3 hb1 hc1 hd hdb
            have HD2 := Lib.hid (HD1.out.up HO.out)
            clear HO HD1 hit
            go_wp2_with fail
            clear q1 q2 q3 hnx j1 j2 hm
            have hbl := heap_alloc_new wr (.cells #[.string a, .string r2, .string b, .string c, .string r3] 9)
            have HD3 := Lib.hid (HD2.out.alloc (.cells #[.string a, .string r2, .string b, .string c, .string r3] 9))
            generalize wr.alloc (.cells #[.string a, .string r2, .string b, .string c, .string r3] 9) = W3 at *
            have HB := Lib.hid hbl
            clear hbl HD2
            generalize wr.heap.size = kb at *
            go_loopw [63] (fun s63 wr => LsRel W3 s63 wr) (fun s63 _ => 5 - (intOf s63).toNat)
            case atStart => exact ⟨0, rfl, by omega, Lib.hid (Old.refl _)⟩
            case round =>
              obtain ⟨k, rfl, hk, HO⟩ := hrel
              by_cases hk5 : k < 5
              · obtain ⟨x, hx, hxl⟩ : ∃ x : ByteArray, wr.cell? ⟨kb, k, none⟩ = some (.string x) ∧ Hid (x.size ≤ 600) := by
                  have hb := HO.out.block HB.out
                  have h2 : k = 0 ∨ k = 1 ∨ k = 2 ∨ k = 3 ∨ k = 4 := by omega
                  rcases h2 with rfl | rfl | rfl | rfl | rfl
                  · exact ⟨a, by rw [cell_of_row _ kb 0 _ _ _ hb]; rfl, Lib.hid (by have := HAs.out; omega)⟩
                  · exact ⟨r2, by rw [cell_of_row _ kb 1 _ _ _ hb]; rfl, HR2⟩
                  · exact ⟨b, by rw [cell_of_row _ kb 2 _ _ _ hb]; rfl, Lib.hid (by have := HBs.out; omega)⟩
                  · exact ⟨c, by rw [cell_of_row _ kb 3 _ _ _ hb]; rfl, Lib.hid (by have := HCs.out; omega)⟩
                  · exact ⟨r3, by rw [cell_of_row _ kb 4 _ _ _ hb]; rfl, HR3⟩
                have i3 : (0 : Int) ≤ (k : Int) := by omega
                have i4 : (k : Int) < 5 := by omega
                have HP := Lib.hid (parse_rs x wr)
                have hxm := hxl.out
                have HC := Lib.hid (fun w' => parseC (6 * (bs x).length + 6) x (parseR (bs x)) w' (by omega) (parseR_eq _))
                have hrl := parseR_len (bs x)
                generalize parseR (bs x) = r at *
                obtain ⟨n2, e⟩ := r
                replace hrl : n2.length ≤ 256 := hrl
                have hne : (e != e) = false := by simp
                have HN := Lib.hid hrl
                clear hrl hxm
                go_wp2_with fail
                refine (HP.out).mono ?_; rintro e w5 ⟨v5, rfl, ho5, hd5⟩
                obtain ⟨An, cn, rfl, ht5, _, _⟩ := ho5.shape
                have HRN := Lib.hid ht5.rs
                have HO5 := Lib.hid (HO.out.up hd5)
                clear ho5 ht5 hd5 HP HO hx
                go_wp2_with fail
                refine (HC.out w5).mono ?_; rintro e w6 ⟨v6, rfl, ho6, hd6⟩
                obtain ⟨An2, cn2, rfl, ht6, _, _⟩ := ho6.shape
                have HRN2 := Lib.hid ht6.rs
                have HRN1 := Lib.hid (HRN.out.up hd6)
                have HO6 := Lib.hid (HO5.out.up hd6)
                clear ho6 ht6 hd6 HC HO5 HRN
                have HSA := Lib.hid (nsameC An cn An2 cn2 n2 w6 HRN1.out HRN2.out (by have := HN.out; unfold maxLen; omega))
                clear HRN1 HRN2
                go_wp2_with fail
                refine (HSA.out).mono ?_; rintro e w7 ⟨rfl, nq, rfl⟩
                go_wp2_with fail
                go_roundw
                case rel => exact ⟨k + 1, by go_num, by omega, Lib.hid (HO6.out.drewN nq)⟩
                case measure => simp [intOf]; omega
              · have i4 : ¬ (k : Int) < 5 := by omega
                go_wp2_with fail
                go_ret
                exact ⟨rfl, HD3.out.up HO.out⟩
end Go.Proofs.Ytaajgdhoffhdcaa
