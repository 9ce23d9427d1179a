/-
  The walks of Encode, of the reference's Encode and Same, and of the law's stream.
-/
import Derived.Test.YtlpaemlgmmmbmaaFrameV
namespace Go.Proofs.Ytlpaemlgmmmbmaa
open Go.RowKit
set_option linter.unusedVariables false

def encB (b : List UInt8) : List UInt8 := if b.length ≤ 4096 then Fr.enc b else []
def ecode (b : List UInt8) : Int := if b.length ≤ 4096 then 0 else 1
def EncPost (w : World) (b : List UInt8) (e : Ending) (w' : World) : Prop :=
  ∃ v, e = .returned (.tuple #[v, .int .i64 (ecode b)]) ∧ Own w' w.heap.size 5 1 v (encB b).length (bytes (encB b)) ∧ Old w w'
theorem enc_len (b : List UInt8) : (Fr.enc b).length = 4 + b.length := by simp [Fr.enc]; omega
theorem enc_cells (b : List UInt8) (h : b.length ≤ 65535) : bytes (Fr.enc b) = [.int .u8 0, .int .u8 0, .int .u8 ((b.length : Int) / 256), .int .u8 ((b.length : Int) % 256)] ++ bytes b := by
  have h1 : (UInt8.ofNat (b.length / 256)).toNat = b.length / 256 := by simp; omega
  have h2 : (UInt8.ofNat b.length).toNat = b.length % 256 := by simp
  simp only [Fr.enc, bytes_append]
  simp only [bytes, List.map_cons, List.map_nil, h1, h2, Int.natCast_ediv, Int.natCast_emod]
  rfl
theorem fEncode (A : Option Addr) (c : Nat) (b : List UInt8) (w : World) (hr : Rs w A (bytes b)) (hm : b.length ≤ 1000000) :
    Calls Try.prog 19 #[.slice A b.length c] w (EncPost w b) := by
  by_cases hbig : b.length ≤ 4096
  · have HE := Lib.hid (enc_cells b (by omega))
    have HL := Lib.hid (enc_len b)
    have hE : encB b = Fr.enc b := if_pos hbig
    have hC : ecode b = 0 := if_pos hbig
    unfold EncPost
    rw [hE, hC]
    clear hE hC
    go_enter Try.func19, Try.ntmps19
    go_wp2_with (at_make; refine wpList_make0 rfl _ _ 23 rfl 5 (.int .u8 0) 1 1 Try.underlying23 info_u8 (by decide) .i64 .i64 _ (4 + b.length) rfl rfl ?pc3 ?pn3 ?_)
    case pc3 => omega
    case pn3 => omega
    intro w1 hown hb1
    have e1 : (b.length : Int) / 16777216 = 0 := by omega
    have e2 : (b.length : Int) / 65536 = 0 := by omega
    go_wp2_with (at_builtin; refine wpList_push (wr := w1) rfl _ _ 23 rfl _ 5 (.int .u8 0) 1 1 Try.underlying23 info_u8 rfl (by decide) (by decide) _ _ _ (by rfl) hown 4 4 [.int .u8 0, .int .u8 0, .int .u8 ((b.length : Int) / 256), .int .u8 ((b.length : Int) % 256)] (by rfl) rfl rfl rfl ?pn1 hb1.size ?_)
    case pn1 => omega
    intro v2 w2 hown2 hg2 hd2
    clear e1 e2
    have hb2 := hd2 w hb1 (Nat.le_refl _)
    have hr2 := hr.up hb2
    clear hg2 hd2 hown hb1 hr
    go_wp2_with (at_builtin; refine wpList_pushAll rfl _ _ 23 rfl _ 5 (.int .u8 0) 1 1 Try.underlying23 info_u8 rfl (by decide) (by decide) _ _ _ (by rfl) hown2 _ _ _ _ (by rfl) hr2 (by rw [bytes_length, Nat.mul_one]) (bytes_one _) ?pn1 hb2.size ?_)
    case pn1 => omega
    intro v3 w3 hown3 hg3 hd3
    go_wp2_with fail
    go_ret2
    refine ⟨_, rfl, ?_, hd3 w hb2 (Nat.le_refl _)⟩
    rw [HL.out, HE.out]
    simpa using hown3
  · have hE : encB b = [] := if_neg hbig
    have hC : ecode b = 1 := if_neg hbig
    unfold EncPost
    rw [hE, hC]
    clear hE hC
    go_enter Try.func19, Try.ntmps19
    go_wp2_with fail
    go_ret2
    exact ⟨_, rfl, Own.nil_ _ _ _ _, Old.refl _⟩

theorem rEncode (A : Option Addr) (c : Nat) (b : List UInt8) (w : World) (hr : Rs w A (bytes b)) (hm : b.length ≤ 1000000) :
    Calls Try.prog 20 #[.slice A b.length c] w (EncPost w b) := by
  by_cases hbig : b.length ≤ 4096
  · have HE := Lib.hid (enc_cells b (by omega))
    have HL := Lib.hid (enc_len b)
    have hE : encB b = Fr.enc b := if_pos hbig
    have hC : ecode b = 0 := if_pos hbig
    unfold EncPost
    rw [hE, hC]
    clear hE hC
    have hown : Own (w.alloc (.cells #[.int .u8 0, .int .u8 0, .int .u8 ((b.length : Int) / 256), .int .u8 ((b.length : Int) % 256)] 5)) w.heap.size 5 1 (.slice (some ⟨w.heap.size, 0, none⟩) 4 4) 4 [.int .u8 0, .int .u8 0, .int .u8 ((b.length : Int) / 256), .int .u8 ((b.length : Int) % 256)] := own_new w #[.int .u8 0, .int .u8 0, .int .u8 ((b.length : Int) / 256), .int .u8 ((b.length : Int) % 256)] 4 1 _ (by decide) rfl
    go_enter Try.func20, Try.ntmps20
    go_wp2_with (at_builtin; refine wpList_pushAll rfl _ _ 23 rfl _ 5 (.int .u8 0) 1 1 Try.underlying23 info_u8 rfl (by decide) (by decide) _ _ _ (by rfl) hown _ _ _ _ (by rfl) (hr.alloc _) (by rw [bytes_length, Nat.mul_one]) (bytes_one _) ?pn2 (by simp) ?_)
    case pn2 => omega
    intro v3 w3 hown3 hg3 hd3
    go_wp2_with fail
    go_ret2
    refine ⟨_, rfl, ?_, hd3 w ((Old.refl w).alloc _) (Nat.le_refl _)⟩
    rw [HL.out, HE.out]
    simpa using hown3
  · have hE : encB b = [] := if_neg hbig
    have hC : ecode b = 1 := if_neg hbig
    unfold EncPost
    rw [hE, hC]
    clear hE hC
    go_enter Try.func20, Try.ntmps20
    go_wp2_with fail
    go_ret2
    exact ⟨_, rfl, Own.nil_ _ _ _ _, Old.refl _⟩

/-- The reference's Same at equal lists. -/
theorem sameB (A A' : Option Addr) (c c' : Nat) (P : List (List UInt8)) (cells cells' : List Value) (w : World) (hr : Rs w A cells) (hr' : Rs w A' cells') (hs : RsL w cells (P.map bytes)) (hs' : RsL w cells' (P.map bytes)) (hm : P.length ≤ 1000000) :
    Calls Try.prog 18 #[.slice A P.length c, .slice A' P.length c'] w fun e w' => e = .returned (.bool true) ∧ ∃ k, w' = w.drewN k := by
  have hn := hs.1
  have hn' := hs'.1
  rw [List.length_map] at hn hn'
  have HS := Lib.hid hs.2
  have HS' := Lib.hid hs'.2
  have HN := Lib.hid hn
  have HN' := Lib.hid hn'
  clear hn hn' hs hs'
  go_enter Try.func18, Try.ntmps18
  go_wp2_with fail
  go_loopw [5] (fun i wr => ∃ k m : Nat, k ≤ P.length ∧ i = .int .i64 k ∧ wr = w.drewN m) (fun i _ => P.length - (intOf i).toNat)
  case atStart => exact ⟨0, 0, Nat.zero_le _, rfl, rfl⟩
  case round =>
    obtain ⟨k, m, hk, rfl, rfl⟩ := hrel
    by_cases hlt : k < P.length
    · obtain ⟨b, off, rfl, _, hc⟩ := hr.at_ (by rw [HN.out]; omega)
      obtain ⟨b', off', rfl, _, hc'⟩ := hr'.at_ (by rw [HN'.out]; omega)
      obtain ⟨x, hx⟩ : ∃ x, P[k]? = some x := ⟨_, List.getElem?_eq_getElem hlt⟩
      obtain ⟨A1, c1, e1, _, _, r1⟩ := HS.out k (bytes x) (by rw [List.getElem?_map, hx]; rfl)
      obtain ⟨A2, c2, e2, _, _, r2⟩ := HS'.out k (bytes x) (by rw [List.getElem?_map, hx]; rfl)
      rw [bytes_length] at e1 e2
      have c1' := hc _ _ e1
      have c2' := hc' _ _ e2
      have k1 := fun n => run_str (P := Try.prog) (w.drewN n) (src := 23) (dst := 9) A1 c1 x Try.underlying23 Try.underlying5 Try.underlying9 (r1.drewN n)
      have k2 := fun n => run_str (P := Try.prog) (w.drewN n) (src := 23) (dst := 9) A2 c2 x Try.underlying23 Try.underlying5 Try.underlying9 (r2.drewN n)
      have i1 : (0 : Int) ≤ (k : Int) := by omega
      have i2 : (k : Int) < (P.length : Int) := by omega
      clear hc hc' hr hr' hx e1 e2 r1 r2
      go_wp2_with fail
      go_quiet (fail)
      go_wp2_with fail
      go_roundw
      case rel => exact ⟨k + 1, _, by omega, by go_num, rfl⟩
      case measure => simp [intOf]; omega
    · go_wp2_with fail
      go_ret
      exact ⟨rfl, _, rfl⟩
end Go.Proofs.Ytlpaemlgmmmbmaa
