/-
  The walk of the law's stream; the sanity check.
-/
import Derived.Test.YtlpaemlgmmmbmaaFrameE
import Derived.Lib.SlBytesConst
namespace Go.Proofs.Ytlpaemlgmmmbmaa
open Go.RowKit
set_option linter.unusedVariables false

/-- Payloads behind j rounds, and the numbers that are left. -/
def outs (l : List Int) : Nat → List (List UInt8) × List Int
  | 0 => ([], l)
  | j + 1 => ((outs l j).1 ++ [outOf (nx (outs l j).2 12).1], (nx (outs l j).2 12).2)
def streamL (l : List Int) : List (List UInt8) := (outs (nx l 6).2 (nx l 6).1.toNat).1
def flat (P : List (List UInt8)) : List UInt8 := P.flatMap Fr.enc
theorem outs_succ (l : List Int) (j : Nat) : outs l (j + 1) = ((outs l j).1 ++ [outOf (nx (outs l j).2 12).1], (nx (outs l j).2 12).2) := rfl
theorem outs_len (l : List Int) (j : Nat) : (outs l j).1.length = j := by
  induction j with
  | zero => rfl
  | succ j ih => rw [outs_succ]; simp [ih]
theorem outs_small (l : List Int) (j : Nat) : ∀ p ∈ (outs l j).1, p.length ≤ 8 := by
  induction j with
  | zero => intro p hp; simp [outs] at hp
  | succ j ih =>
    intro p hp
    rw [outs_succ, List.mem_append] at hp
    rcases hp with hp | hp
    · exact ih p hp
    · simp at hp; subst hp; exact (outOf_len _).2
theorem flat_snoc (P : List (List UInt8)) (p : List UInt8) : flat (P ++ [p]) = flat P ++ Fr.enc p := by simp [flat]
theorem flat_len {P : List (List UInt8)} (h : ∀ p ∈ P, p.length ≤ 8) : (flat P).length ≤ 12 * P.length := by
  induction P with
  | nil => simp [flat]
  | cons a P ih =>
    have h1 := ih (fun p hp => h p (by simp [hp]))
    have h2 := h a (by simp)
    simp only [flat, List.flatMap_cons, List.length_append, enc_len, List.length_cons] at h1 ⊢
    omega

def StreamPost (w : World) (P : List (List UInt8)) (e : Ending) (w' : World) : Prop :=
  ∃ v cells vb, e = .returned (.tuple #[v, vb]) ∧ Own w' w.heap.size 23 1 v P.length cells ∧ FsL w' cells (P.map bytes) ∧ Own w' w.heap.size 5 1 vb (flat P).length (bytes (flat P)) ∧ Old w w'

set_option maxRecDepth 100000 in
set_option maxHeartbeats 2000000 in
theorem streamW (A : Option Addr) (c : Nat) (l : List Int) (w : World) (hr : Rs w A (ints l)) (hm : l.length ≤ maxLen) :
    Calls Try.prog 14 #[.slice A l.length c] w (StreamPost w (streamL l)) := by
  go_enter Try.func14, Try.ntmps14
  go_wp2_with fail
  refine (newDeck A c l w hr hm).mono ?_; rintro e w1 ⟨rfl, hd, hb⟩
  go_wp2_with fail
  refine (nextDeck w.heap.size w.heap.size l 6 w1 hd (by decide) (by decide)).mono ?_; rintro e w2 ⟨rfl, hd2, hg⟩
  have hb2 := Dk.old hb hg (Nat.le_refl _)
  have hbd := nx_bd l (show (1 : Int) ≤ 6 by decide)
  have hres : streamL l = (outs (nx l 6).2 (nx l 6).1.toNat).1 := rfl
  have HRES := Lib.hid hres
  clear hres hg hd hb hr
  generalize nx l 6 = r at *
  obtain ⟨K, l1⟩ := r
  obtain ⟨b0, b1⟩ := hbd
  simp only at b0 b1 hd2 HRES
  obtain ⟨K, rfl⟩ := Int.eq_ofNat_of_zero_le b0
  rw [Int.toNat_natCast] at HRES
  go_wp2_with fail
  go_loopw [5, 6, 7] (fun v vb k wr => ∃ (j : Nat) (cells : List Value), j ≤ K ∧ k = .int .i64 ((K : Int) - j) ∧ Own wr w.heap.size 23 1 v j cells ∧ FsL wr cells ((outs l1 j).1.map bytes) ∧ Own wr w.heap.size 5 1 vb (flat (outs l1 j).1).length (bytes (flat (outs l1 j).1)) ∧ Dk wr w.heap.size w.heap.size (outs l1 j).2 ∧ Old w wr) (fun _ _ k _ => (intOf k).toNat)
  case atStart => exact ⟨0, [], Nat.zero_le _, by go_num, Own.nil_ _ _ _ _, FsL.nil_, Own.nil_ _ _ _ _, hd2, hb2⟩
  case round =>
    obtain ⟨j, cells, hj, rfl, hown, hfl, hvb, hdk, hb⟩ := hrel
    clear hd2 hb2
    have hs := Lib.hid (outs_succ l1 j)
    have hol := outs_len l1 j
    have hsm := flat_len (outs_small l1 j)
    by_cases hlt : j < K
    · have hO := outputDeck w.heap.size w.heap.size (outs l1 j).2 wr hdk
      have hlen := outOf_len (nx (outs l1 j).2 12).1
      have HO := Lib.hid hO
      rw [hol] at hsm
      have HOL := Lib.hid hol
      clear hO hol
      generalize nx (outs l1 j).2 12 = r at *
      generalize outOf r.1 = p at *
      generalize outs l1 j = o at *
      obtain ⟨P, rest⟩ := o
      obtain ⟨p1, p2⟩ := hlen
      simp only at *
      have hEB : encB p = Fr.enc p := if_pos (by omega)
      have hEl := enc_len p
      have HEB := Lib.hid hEB
      have HEL := Lib.hid hEl
      clear hEB hEl
      go_wp2_with fail
      refine (HO.out).mono ?_; rintro e w2 ⟨Ap, cp, rfl, hcp1, hcp2, hfs, hdk2, hg⟩
      replace hown := hdk.own hg hown (by decide)
      replace hvb := hdk.own hg hvb (by decide)
      replace hfl := hdk.fsL hg hfl
      replace hb := Dk.old hb hg (Nat.le_refl _)
      clear hg hdk HO
      go_wp2_with fail
      refine (rEncode Ap cp p w2 hfs.rs (by omega)).mono ?_; rintro e w3 ⟨ve, rfl, howne, hb3⟩
      rw [HEB.out] at howne
      obtain ⟨Ae, ce, rfl, hte, hce, _⟩ := howne.shape
      replace hown := hown.up hb3
      replace hvb := hvb.up hb3
      replace hfl := hfl.up hb3
      replace hfs := hfs.up hb3
      replace hdk2 := hdk2.up hb3
      replace hb := hb.up hb3
      have hsz := hb.size
      clear howne hb3
      go_wp2_with (at_builtin; refine wpList_push (wr := w3) rfl _ _ 25 rfl _ 23 (.slice none 0 0) 1 24 Try.underlying25 info_rows8 rfl (by decide) (by decide) _ _ _ rfl hown 1 1 [.slice Ap p.length cp] rfl rfl rfl rfl ?pn1 hsz ?_)
      case pn1 => omega
      intro v4 w4 hown4 hg4 hd4
      have hb4 := hd4 w hb (Nat.le_refl _)
      have hvb4 := Own.grown hvb hown (by decide) hg4
      have hfl4 := hfl.grown hown hg4
      have hfs4 := hfs.grown hown hg4
      have hte4 := (hte.grown hown (by decide) hg4).rs
      have hdk4 := hdk2.push hown (by decide) (Nat.le_refl _) hg4
      clear hg4 hd4 hown hvb hfl hfs hte hdk2
      have hlenE := HEL.out
      go_wp2_with (at_builtin; refine wpList_pushAll rfl _ _ 23 rfl _ 5 (.int .u8 0) 1 1 Try.underlying23 info_u8 rfl (by decide) (by decide) _ _ _ (by rfl) hvb4 _ _ _ _ (by rfl) hte4 (by rw [bytes_length, Nat.mul_one]) (bytes_one _) ?pn2 hb4.size ?_)
      case pn2 => omega
      intro v5 w5 hvb5 hg5 hd5
      have hb5 := hd5 w hb4 (Nat.le_refl _)
      have hown5 := Own.grown hown4 hvb4 (by decide) hg5
      have hfl5 := hfl4.grown hvb4 hg5
      have hfs5 := hfs4.grown hvb4 hg5
      have hdk5 := hdk4.push hvb4 (by decide) (Nat.le_refl _) hg5
      clear hg5 hd5 hown4 hvb4 hfl4 hfs4 hdk4 hlenE hte4
      go_wp2_with fail
      go_roundw
      case rel =>
        have hsn := hfl5.snoc (A := Ap) (c := cp) (xs := bytes p) (by rw [bytes_length]; exact hcp1) hcp2 hfs5
        rw [bytes_length] at hsn
        refine ⟨j + 1, cells ++ [.slice Ap p.length cp], by omega, by go_num, hown5, ?_, ?_, ?_, hb5⟩
        · rw [hs.out]; simp only [List.map_append, List.map_cons, List.map_nil]; exact hsn
        · rw [hs.out]; simp only [flat_snoc, bytes_append, List.length_append, HEL.out]; exact hvb5
        · rw [hs.out]; exact hdk5
      case measure => simp [intOf]; omega
    · obtain rfl : j = K := by omega
      have hlen : (streamL l).length = j := by rw [HRES.out]; exact hol
      have HLEN := Lib.hid hlen
      clear hlen
      go_wp2_with fail
      go_ret2
      rw [StreamPost, HLEN.out]
      exact ⟨_, cells, _, rfl, hown, by rw [HRES.out]; exact hfl, by rw [HRES.out]; exact hvb, hb⟩

theorem rs_marked (w : World) (cs : List Value) (e : TypeId) (fz : Nat × Nat) : Rs (w.alloc (.cells cs.toArray e fz)) (some ⟨w.heap.size, 0, none⟩) cs :=
  Or.inr ⟨_, _, rfl, fun j u h => by
    rw [Nat.zero_add, cell_of_row _ w.heap.size j cs.toArray e fz (heap_alloc_new w _)]
    simpa using h⟩
set_option maxRecDepth 100000 in
theorem fsane (w : World) : Calls Try.prog 13 #[] w fun e w' => e = .returned (.bool true) ∧ Old w w' := by
  have kc := fun (w : World) (C : Array Value) (n c : Nat) => Lib.run_convert_bytes_const (P := Try.prog) w 23 5 C n c Try.underlying23 Try.underlying5
  have hp := fEncode (some ⟨w.heap.size, 0, none⟩) 1 [97] _ (rs_marked w (bytes [97]) 5 (1, 2)) (by decide)
  have HP := Lib.hid hp
  clear hp
  go_enter Try.func13, Try.ntmps13
  go_wp2_with fail
  refine (HP.out).mono ?_; rintro e w1 ⟨v, rfl, hown, hb⟩
  have hb' := ((Old.refl w).alloc _).up hb
  rw [show encB [97] = [0, 0, 0, 1, 97] by decide +kernel] at hown
  rw [show ecode [97] = 0 by decide +kernel]
  obtain ⟨A, c, rfl, hr, _⟩ := hown.shape
  have k1 : (convert 23 9 (.slice A 5 c)).run Try.prog w1 = .ok (.string ⟨#[0, 0, 0, 1, 97]⟩) w1 := run_str (P := Try.prog) w1 (src := 23) (dst := 9) A c [0, 0, 0, 1, 97] Try.underlying23 Try.underlying5 Try.underlying9 hr.rs
  clear hown hr HP hb kc
  go_wp2_with fail
  go_ret
  exact ⟨rfl, hb'⟩
end Go.Proofs.Ytlpaemlgmmmbmaa
