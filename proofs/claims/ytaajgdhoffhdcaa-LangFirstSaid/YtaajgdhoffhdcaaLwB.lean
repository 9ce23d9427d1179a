/-
  The statements' small pattern and text, made of numbers.
-/
import Derived.Test.YtaajgdhoffhdcaaLwA
namespace Go.Proofs.Ytaajgdhoffhdcaa
open Go.RowKit
set_option linter.unusedVariables false

/-- k bytes of a table. -/
def drawM (tbl : List Nat) : Nat → List Int → List Nat × List Int
  | 0, l => ([], l)
  | k + 1, l => (tbl.getD (nx l tbl.length).1.toNat 0 :: (drawM tbl k (nx l tbl.length).2).1, (drawM tbl k (nx l tbl.length).2).2)
theorem drawM_len (tbl : List Nat) : ∀ (k : Nat) (l : List Int), (drawM tbl k l).1.length = k
  | 0, l => rfl
  | k + 1, l => by rw [drawM]; simp [drawM_len tbl k]
theorem drawM_lt (tbl : List Nat) (h : ∀ x ∈ tbl, x < 256) : ∀ (k : Nat) (l : List Int), ∀ x ∈ (drawM tbl k l).1, x < 256
  | 0, l, x, hx => by cases hx
  | k + 1, l, x, hx => by
    rw [drawM] at hx
    rcases List.mem_cons.mp hx with rfl | hx
    · exact getD_bd h _
    · exact drawM_lt tbl h k _ x hx
def patTbl : List Nat := [97, 98, 46, 40, 42, 124, 41, 43, 63, 94, 36, 91, 98, 93]
def txtTbl : List Nat := [97, 98, 97, 98, 10, 120]
def pstrM (l : List Int) : List Nat × List Int := drawM patTbl ((nx l 14).1 + 1).toNat (nx l 14).2
def ptxtM (l : List Int) : List Nat × List Int := drawM txtTbl (nx (pstrM l).2 10).1.toNat (nx (pstrM l).2 10).2
def pnodesM (l : List Int) : List Nd :=
  if (parseR (pstrM l).1).2 = 0 then (parseR (pstrM l).1).1 else (parseR (pats.getD (nx (ptxtM l).2 7).1.toNat [])).1
theorem pats_lt : ∀ p ∈ pats, ∀ x ∈ p, x < 256 := by decide
theorem getD_pats (i : Nat) : ∀ x ∈ pats.getD i [], x < 256 := by
  rw [List.getD_eq_getElem?_getD]
  by_cases h : i < pats.length
  · rw [List.getElem?_eq_getElem h]; exact pats_lt _ (List.getElem_mem h)
  · rw [List.getElem?_eq_none (by omega)]; intro x hx; cases hx
theorem pnodesM_ok (l : List Int) : (∀ x ∈ pnodesM l, setOk x.set) ∧ (pnodesM l).length ≤ 256 := by
  unfold pnodesM
  split
  · exact ⟨parseR_sets (drawM_lt _ (by decide) _ _), parseR_len _⟩
  · exact ⟨parseR_sets (getD_pats _), parseR_len _⟩
theorem ptxtM_ok (l : List Int) : (∀ x ∈ (ptxtM l).1, x < 256) ∧ (ptxtM l).1.length ≤ 9 := by
  refine ⟨drawM_lt _ (by decide) _ _, ?_⟩
  unfold ptxtM
  rw [drawM_len]
  have := nx_bd (pstrM l).2 (show (1 : Int) ≤ 10 by decide)
  omega
def DrawRel (w : World) (g B : Nat) (tbl : List Nat) (R : List Nat × List Int) (vs : Value) (s : List Nat) (v kx : Value) (wr : World) : Prop :=
  ∃ (k : Nat) (acc : List Nat) (l : List Int), kx = .int .i64 k ∧ k + acc.length ≤ 20 ∧ Hid (Dk wr w.heap.size g l) ∧ Hid (Own wr B 5 1 v acc.length (txt acc)) ∧ Hid (Own wr w.heap.size 5 1 vs s.length (txt s) ∧ ∀ k, vs.ownBlock = some k → k < B) ∧ Hid (Old w wr) ∧ Hid (B ≤ wr.heap.size) ∧ Hid ((acc ++ (drawM tbl k l).1, (drawM tbl k l).2) = R)
theorem Own.away {w w' : World} {base B : Nat} {e e' : TypeId} {size size' : Nat} {v v' : Value} {n n' : Nat} {xs xs' : List Value} (h : Own w base e size v n xs) (hl : ∀ k, v.ownBlock = some k → k < B) (ho : Own w B e' size' v' n' xs') (hg : w.grownBy w' v'.ownBlock) : Own w' base e size v n xs := by
  refine World.ownsRow.kept h hg ?_
  cases hv : v.ownBlock with
  | none => exact Or.inl rfl
  | some k =>
    refine Or.inr (fun e => ?_)
    have := hl k hv
    have := (World.ownsRow.lt ho k e.symm).1
    omega
def PatPost (w : World) (l : List Int) (e : Ending) (w' : World) : Prop :=
  ∃ A c At ct, e = .returned (.tuple #[.slice A (pnodesM l).length c, .slice At (ptxtM l).1.length ct]) ∧ Rs w' A (ndsV (pnodesM l)) ∧ Rs w' At (txt (ptxtM l).1) ∧ (ptxtM l).1.length ≤ ct ∧ ct ≤ maxLen ∧ Old w w'
set_option maxHeartbeats 8000000 in
set_option maxRecDepth 100000 in
theorem patternC (A : Option Addr) (c : Nat) (l : List Int) (w : World) (hr : Rs w A (ints l)) (hm : l.length ≤ maxLen) :
    Calls Try.prog 16 #[.slice A l.length c] w (PatPost w l) := by
  have hR := rangeDeck w.heap.size w.heap.size l 1 14
  go_enter Try.func16, Try.ntmps16
  go_wp2_with fail
  refine (newDeck A c l w hr hm).mono ?_; rintro e w1 ⟨rfl, hd, hb⟩
  go_wp2_with fail
  refine (rangeDeck w.heap.size w.heap.size l 1 14 w1 hd (by decide) (by decide) (by decide)).mono ?_; rintro e w2 ⟨rfl, hd2, hg⟩
  have hb2 := Dk.old hb hg (Nat.le_refl _)
  clear hR hd hb hg hr
  have hbd := nx_bd l (show (1 : Int) ≤ 14 by decide)
  have HP : Hid (pstrM l = drawM patTbl ((nx l 14).1 + 1).toNat (nx l 14).2) := Lib.hid rfl
  rw [show (14 - 1 + 1 : Int) = 14 by decide] at hd2 ⊢
  generalize nx l 14 = r at *
  obtain ⟨x, l1⟩ := r
  obtain ⟨b0, b1⟩ := hbd
  simp only at b0 b1 hd2 HP
  obtain ⟨x, rfl⟩ := Int.eq_ofNat_of_zero_le b0
  have HP2 : Hid (drawM patTbl (x + 1) l1 = pstrM l) := Lib.hid (by rw [HP.out, show (((x : Nat) : Int) + 1).toNat = x + 1 by omega])
  obtain ⟨⟨s0, l0⟩, hRR⟩ : ∃ R, pstrM l = R := ⟨_, rfl⟩
  rw [hRR] at HP2
  have HRR := Lib.hid hRR
  clear HP hRR
  go_wp2_with fail
  have HBB : Hid (w.heap.size ≤ w.heap.size) := Lib.hid (Nat.le_refl _)
  go_loopw [5, 7] (fun s5 s7 wr => DrawRel w w.heap.size w.heap.size patTbl (s0, l0) (.slice none 0 0) [] s5 s7 wr) (fun _ s7 _ => (intOf s7).toNat)
  case atStart => exact ⟨x + 1, [], l1, by go_num, by simp; omega, hd2, Own.nil_ _ _ _ _, Lib.hid ⟨Own.nil_ _ _ _ _, (fun k h => by cases h)⟩, hb2, hb2.size, HP2⟩
  case round =>
    have HB2 := Lib.hid hb2
    clear hd2 hb2 HP2
    obtain ⟨k, accS, lS, rfl, hk, HDK, HO, HV, HD, HB, HE⟩ := hrel
    by_cases hk0 : k = 0
    · subst hk0
      obtain ⟨hq1, hq2⟩ : accS = s0 ∧ lS = l0 := by
        have h := HE.out
        injection h with h1 h2
        exact ⟨by rw [← h1]; exact (List.append_nil _).symm, h2⟩
      subst hq1
      subst hq2
      have hk2 : ¬ (0 : Int) < ((0 : Nat) : Int) := by omega
      clear HE
      go_wp2_with fail
      refine (nextDeck w.heap.size w.heap.size lS 10 wr HDK.out (by decide) (by decide)).mono ?_; rintro e w3 ⟨rfl, hd3, hg3⟩
      have HT : Hid (drawM txtTbl (nx lS 10).1.toNat (nx lS 10).2 = ptxtM l) := Lib.hid (by unfold ptxtM; rw [HRR.out])
      have hbt := nx_bd lS (show (1 : Int) ≤ 10 by decide)
      have HO3 := Lib.hid (HDK.out.own hg3 HO.out (by decide))
      have HD3 := Lib.hid (Dk.old HD.out hg3 (Nat.le_refl _))
      have hd3' := Lib.hid hd3
      generalize nx lS 10 = r at *
      obtain ⟨y, l3⟩ := r
      obtain ⟨b0', b1'⟩ := hbt
      simp only at b0' b1' HT hd3'
      obtain ⟨y, rfl⟩ := Int.eq_ofNat_of_zero_le b0'
      rw [Int.toNat_natCast] at HT
      have HPT := Lib.hid (show ptxtM l = ptxtM l from rfl)
      obtain ⟨⟨t0, l4⟩, hRT⟩ : ∃ R, ptxtM l = R := ⟨_, rfl⟩
      rw [hRT] at HT
      have HRT := Lib.hid hRT
      clear HPT hRT hd3 HDK HO HV HD HB HBB
      have HBB : Hid (w.heap.size ≤ w3.heap.size) := Lib.hid HD3.out.size
      have HV3 : Hid (Own w3 w.heap.size 5 1 u5 accS.length (txt accS) ∧ ∀ k, u5.ownBlock = some k → k < w3.heap.size) := Lib.hid ⟨HO3.out, fun k hk => (World.ownsRow.lt HO3.out k hk).2⟩
      clear hg3
      go_wp2_with fail
      go_loopw [6, 8] (fun s6 s8 wr => DrawRel w w.heap.size w3.heap.size txtTbl (t0, l4) u5 accS s6 s8 wr) (fun _ s8 _ => (intOf s8).toNat)
      case atStart => exact ⟨y, [], l3, rfl, by simp; omega, hd3', Own.nil_ _ _ _ _, HV3, HD3, Nat.le_refl _, HT⟩
      case round =>
        clear hd3' HO3 HD3 HV3 HT hk
        obtain ⟨k, acc, l1, rfl, hk, HDK, HO, HV, HD, HB, HE⟩ := hrel
        by_cases hk0 : k = 0
        · subst hk0
          obtain ⟨hq1, hq2⟩ : acc = t0 ∧ l1 = l4 := by
            have h := HE.out
            injection h with h1 h2
            exact ⟨by rw [← h1]; exact (List.append_nil _).symm, h2⟩
          subst hq1
          subst hq2
          have hk2' : ¬ (0 : Int) < ((0 : Nat) : Int) := by omega
          have HS8 : Hid ((∀ z ∈ accS, z < 256) ∧ accS.length ≤ 14) := Lib.hid (by
            have h1 := drawM_lt patTbl (by decide) ((nx l 14).1 + 1).toNat (nx l 14).2
            have h2 := drawM_len patTbl ((nx l 14).1 + 1).toNat (nx l 14).2
            rw [show drawM patTbl ((nx l 14).1 + 1).toNat (nx l 14).2 = (accS, lS) from HRR.out] at h1 h2
            have h3 := nx_bd l (show (1 : Int) ≤ 14 by decide)
            exact ⟨h1, by simp only at h2; omega⟩)
          have HPN : Hid (pnodesM l = if (parseR accS).2 = 0 then (parseR accS).1 else (parseR (pats.getD (nx l1 7).1.toNat [])).1) := Lib.hid (by unfold pnodesM; rw [HRR.out, HRT.out])
          clear HE
          obtain ⟨A5, c5, rfl, ht5, _, _⟩ := HV.out.1.shape
          have hcv : (convert 24 9 (.slice A5 accS.length c5)).run Try.prog wr = .ok (.string (strOf accS)) wr := by
            have hr5 := ht5.rs
            rw [txt_bytes accS HS8.out.1] at hr5
            have := run_str (P := Try.prog) wr (src := 24) (dst := 9) (e := 5) A5 c5 (accS.map UInt8.ofNat) Try.underlying24 Try.underlying5 Try.underlying9 hr5
            rw [List.length_map] at this
            exact this
          have HPA := Lib.hid (parseC (6 * accS.length + 6) (strOf accS) (parseR accS) wr (by have := HS8.out.2; rw [← bs_length, bs_strOf _ HS8.out.1]; omega) (by rw [bs_strOf _ HS8.out.1]; exact parseR_eq accS))
          generalize strOf accS = str at *
          obtain ⟨A6, c6, rfl, ht6, hc6, hm6⟩ := HO.out.shape
          have HTX := Lib.hid ht6
          have HC6 := Lib.hid (And.intro hc6 hm6)
          clear ht5 ht6 hc6 hm6
          have HEE := Lib.hid (parseR_len accS)
          generalize parseR accS = R1 at *
          obtain ⟨n1, e1⟩ := R1
          go_wp2_with fail
          refine (HPA.out).mono ?_; rintro e w4 ⟨v4, rfl, ho4, hd4⟩
          obtain ⟨A7, c7, rfl, ht7, hc7, _⟩ := ho4.shape
          have HR7 := Lib.hid ht7.rs
          have HDK4 := Lib.hid (HDK.out.up hd4)
          have HTX4 := Lib.hid (HTX.out.up hd4)
          have HD4 := Lib.hid (HD.out.up hd4)
          clear ho4 hd4 ht7 hc7 HPA hcv HDK HO HV HD HB HTX
          by_cases he : e1 = 0
          · have hb1 : (e1 != 0) = false := by simpa using he
            have HPN2 : Hid (pnodesM l = n1) := Lib.hid (by rw [HPN.out]; exact if_pos he)
            clear HPN he
            go_wp2_with fail
            go_ret2
            unfold PatPost
            rw [HPN2.out, HRT.out]
            exact ⟨_, _, _, _, rfl, HR7.out, HTX4.out.rs, HC6.out.1, HC6.out.2, HD4.out⟩
          · have hb1 : (e1 != 0) = true := by simpa using he
            have HPN2 : Hid (pnodesM l = (parseR (pats.getD (nx l1 7).1.toNat [])).1) := Lib.hid (by rw [HPN.out]; exact if_neg he)
            clear HPN he
            go_wp2_with fail
            refine (patternsC _).mono ?_; rintro e w7 ⟨rfl, hw7⟩
            have hb7 := heap_alloc_new w4 patObj
            have ho7 := (Old.refl w4).alloc patObj
            rw [← hw7] at hb7 ho7
            have HDK7 := Lib.hid (HDK4.out.up ho7)
            have HTX7 := Lib.hid (HTX4.out.up ho7)
            have HD7 := Lib.hid (HD4.out.up ho7)
            have HB7 := Lib.hid hb7
            have HG4 := Lib.hid HDK4.out.lt
            have HL7 := Lib.hid (lt_of_block hb7)
            clear hb7 ho7 hw7 HR7 HDK4 HTX4 HD4
            go_wp2_with fail
            refine (nextDeck w.heap.size w.heap.size l1 7 w7 HDK7.out (by decide) (by decide)).mono ?_; rintro e w8 ⟨rfl, hd8, hg8⟩
            have hnb : w4.heap.size ≠ w.heap.size := by have := HG4.out; omega
            have hb8 := (hg8.block w4.heap.size HL7.out (fun e => hnb (Option.some.inj e))).trans HB7.out
            have HTX8 := Lib.hid (HDK7.out.ts hg8 HTX7.out (by decide)).rs
            have HD8 := Lib.hid (Dk.old HD7.out hg8 (Nat.le_refl _))
            have hbd7 := nx_bd l1 (show (1 : Int) ≤ 7 by decide)
            generalize nx l1 7 = r at *
            obtain ⟨z, l9⟩ := r
            obtain ⟨z0, z1⟩ := hbd7
            simp only at z0 z1 HPN2
            obtain ⟨z, rfl⟩ := Int.eq_ofNat_of_zero_le z0
            rw [Int.toNat_natCast] at HPN2
            have hzl : z < pats.length := by show z < 7; omega
            have c8 : w8.cell? ⟨w4.heap.size, z, none⟩ = some (.string (strOf (pats.getD z []))) := by
              rw [cell_of_row w8 w4.heap.size z _ _ _ hb8, List.getElem?_toArray, List.getElem?_map, List.getD_eq_getElem?_getD, List.getElem?_eq_getElem hzl]
              rfl
            have HQ := Lib.hid (getD_pats z)
            have HQL : Hid ((pats.getD z []).length ≤ 10) := Lib.hid (by
              have : ∀ y, y < 7 → (pats.getD y []).length ≤ 10 := by decide
              exact this z (by omega))
            have HPB := Lib.hid (parseC (6 * (pats.getD z []).length + 6) (strOf (pats.getD z [])) (parseR (pats.getD z [])) w8 (by rw [← bs_length, bs_strOf _ HQ.out]; have := HQL.out; omega) (by rw [bs_strOf _ HQ.out]; exact parseR_eq _))
            generalize strOf (pats.getD z []) = str2 at *
            generalize parseR (pats.getD z []) = R2 at *
            obtain ⟨n2, e2⟩ := R2
            clear hd8 hg8 hb8 hzl HDK7 HTX7 HD7 HB7
            generalize w4.heap.size = k4 at *
            go_wp2_with fail
            refine (HPB.out).mono ?_; rintro e w9 ⟨v9, rfl, ho9, hd9⟩
            obtain ⟨A9, c9, rfl, ht9, _, _⟩ := ho9.shape
            have HR9 := Lib.hid ht9.rs
            have HTX9 := Lib.hid (HTX8.out.up hd9)
            have HD9 := Lib.hid (HD8.out.up hd9)
            clear ho9 hd9 ht9
            go_wp2_with fail
            go_ret2
            unfold PatPost
            rw [HPN2.out, HRT.out]
            exact ⟨_, _, _, _, rfl, HR9.out, HTX9.out, HC6.out.1, HC6.out.2, HD9.out⟩
        · obtain ⟨j, rfl⟩ : ∃ j, k = j + 1 := ⟨k - 1, by omega⟩
          have hkp : (0 : Int) < ((j + 1 : Nat) : Int) := by omega
          have hN := nextDeck w.heap.size w.heap.size l1 6 wr HDK.out (by decide) (by decide)
          have hbd := nx_bd l1 (show (1 : Int) ≤ 6 by decide)
          have he := HE.out
          rw [show drawM txtTbl (j + 1) l1 = (txtTbl.getD (nx l1 6).1.toNat 0 :: (drawM txtTbl j (nx l1 6).2).1, (drawM txtTbl j (nx l1 6).2).2) from rfl] at he
          have HE2 := Lib.hid he
          have HN := Lib.hid hN
          clear he hN HE
          generalize nx l1 6 = r at *
          obtain ⟨x, l2⟩ := r
          obtain ⟨b0, b1⟩ := hbd
          simp only at b0 b1 HE2
          obtain ⟨x, rfl⟩ := Int.eq_ofNat_of_zero_le b0
          have hxn : x < 6 := by omega
          have HX : Hid (∀ h : x < (⟨#[97, 98, 97, 98, 10, 120]⟩ : ByteArray).size, ((⟨#[97, 98, 97, 98, 10, 120]⟩ : ByteArray)[x]'h).toNat = txtTbl.getD x 0) := Lib.hid (by
            have : ∀ y, y < 6 → ∀ h : y < (⟨#[97, 98, 97, 98, 10, 120]⟩ : ByteArray).size, ((⟨#[97, 98, 97, 98, 10, 120]⟩ : ByteArray)[y]'h).toNat = txtTbl.getD y 0 := by decide
            exact this x hxn)
          rw [Int.toNat_natCast] at HE2
          go_wp2_with fail
          refine (HN.out).mono ?_; rintro e w5 ⟨rfl, hd5, hg5⟩
          have HO5 := Lib.hid (HDK.out.own hg5 HO.out (by decide))
          have HD5 := Lib.hid (Dk.old HD.out hg5 (Nat.le_refl _))
          have HB5 : Hid (w3.heap.size ≤ w5.heap.size) := Lib.hid (Nat.le_trans HB.out hg5.size)
          have HV5 := Lib.hid (And.intro (HDK.out.own hg5 HV.out.1 (by decide)) HV.out.2)
          have HDK5 := Lib.hid hd5
          have ha20 : acc.length ≤ 20 := by omega
          clear hd5 hg5 HDK HO HD HN HV HB
          go_wp2_with (at_builtin; refine wpList_push (wr := w5) rfl _ _ 24 rfl _ 5 (.int .u8 0) 1 1 Try.underlying24 info_c8 rfl (by decide) (by decide) _ _ _ rfl HO5.out 1 1 [_] rfl rfl rfl rfl ?pn1 HB5.out ?_)
          case pn1 => omega
          intro v' w6 ho6 hg6 hd6
          rw [HX.out] at ho6
          have HO6 : Hid (Own w6 w3.heap.size 5 1 v' (acc ++ [txtTbl.getD x 0]).length (txt (acc ++ [txtTbl.getD x 0]))) := Lib.hid (by rw [txt_snoc, List.length_append]; exact ho6)
          have HDK6 := Lib.hid (HDK5.out.push HO5.out (by decide) HBB.out hg6)
          have HD6 := Lib.hid (hd6 w HD5.out HBB.out)
          have HV6 := Lib.hid (And.intro (HV5.out.1.away HV5.out.2 HO5.out hg6) HV5.out.2)
          have HB6 : Hid (w3.heap.size ≤ w6.heap.size) := Lib.hid (Nat.le_trans HB5.out hg6.size)
          clear ho6 hg6 hd6 HO5 HD5 HB5 HDK5 HV5
          go_wp2_with fail
          go_roundw
          case rel => exact ⟨j, acc ++ [txtTbl.getD x 0], l2, by go_num, by rw [List.length_append, List.length_singleton]; omega, HDK6, HO6, HV6, HD6, HB6, Lib.hid (by rw [List.append_assoc]; exact HE2.out)⟩
          case measure => simp [intOf]
    · obtain ⟨j, rfl⟩ : ∃ j, k = j + 1 := ⟨k - 1, by omega⟩
      have hkp : (0 : Int) < ((j + 1 : Nat) : Int) := by omega
      have hN := nextDeck w.heap.size w.heap.size lS 14 wr HDK.out (by decide) (by decide)
      have hbd := nx_bd lS (show (1 : Int) ≤ 14 by decide)
      have he := HE.out
      rw [show drawM patTbl (j + 1) lS = (patTbl.getD (nx lS 14).1.toNat 0 :: (drawM patTbl j (nx lS 14).2).1, (drawM patTbl j (nx lS 14).2).2) from rfl] at he
      have HE2 := Lib.hid he
      have HN := Lib.hid hN
      clear he hN HE
      generalize nx lS 14 = r at *
      obtain ⟨x, l2⟩ := r
      obtain ⟨b0, b1⟩ := hbd
      simp only at b0 b1 HE2
      obtain ⟨x, rfl⟩ := Int.eq_ofNat_of_zero_le b0
      have hxn : x < 14 := by omega
      have HX : Hid (∀ h : x < (⟨#[97, 98, 46, 40, 42, 124, 41, 43, 63, 94, 36, 91, 98, 93]⟩ : ByteArray).size, ((⟨#[97, 98, 46, 40, 42, 124, 41, 43, 63, 94, 36, 91, 98, 93]⟩ : ByteArray)[x]'h).toNat = patTbl.getD x 0) := Lib.hid (by
        have : ∀ y, y < 14 → ∀ h : y < (⟨#[97, 98, 46, 40, 42, 124, 41, 43, 63, 94, 36, 91, 98, 93]⟩ : ByteArray).size, ((⟨#[97, 98, 46, 40, 42, 124, 41, 43, 63, 94, 36, 91, 98, 93]⟩ : ByteArray)[y]'h).toNat = patTbl.getD y 0 := by decide
        exact this x hxn)
      rw [Int.toNat_natCast] at HE2
      go_wp2_with fail
      refine (HN.out).mono ?_; rintro e w5 ⟨rfl, hd5, hg5⟩
      have HO5 := Lib.hid (HDK.out.own hg5 HO.out (by decide))
      have HD5 := Lib.hid (Dk.old HD.out hg5 (Nat.le_refl _))
      have HB5 : Hid (w.heap.size ≤ w5.heap.size) := Lib.hid (Nat.le_trans HB.out hg5.size)
      have HV5 := Lib.hid (And.intro (HDK.out.own hg5 HV.out.1 (by decide)) HV.out.2)
      have HDK5 := Lib.hid hd5
      have ha20 : accS.length ≤ 20 := by omega
      clear hd5 hg5 HDK HO HD HN HV HB
      go_wp2_with (at_builtin; refine wpList_push (wr := w5) rfl _ _ 24 rfl _ 5 (.int .u8 0) 1 1 Try.underlying24 info_c8 rfl (by decide) (by decide) _ _ _ rfl HO5.out 1 1 [_] rfl rfl rfl rfl ?pn2 HB5.out ?_)
      case pn2 => omega
      intro v' w6 ho6 hg6 hd6
      rw [HX.out] at ho6
      have HO6 : Hid (Own w6 w.heap.size 5 1 v' (accS ++ [patTbl.getD x 0]).length (txt (accS ++ [patTbl.getD x 0]))) := Lib.hid (by rw [txt_snoc, List.length_append]; exact ho6)
      have HDK6 := Lib.hid (HDK5.out.push HO5.out (by decide) HBB.out hg6)
      have HD6 := Lib.hid (hd6 w HD5.out HBB.out)
      have HV6 := Lib.hid (And.intro (HV5.out.1.away HV5.out.2 HO5.out hg6) HV5.out.2)
      have HB6 : Hid (w.heap.size ≤ w6.heap.size) := Lib.hid (Nat.le_trans HB5.out hg6.size)
      clear ho6 hg6 hd6 HO5 HD5 HB5 HDK5 HV5
      go_wp2_with fail
      go_roundw
      case rel => exact ⟨j, accS ++ [patTbl.getD x 0], l2, by go_num, by rw [List.length_append, List.length_singleton]; omega, HDK6, HO6, HV6, HD6, HB6, Lib.hid (by rw [List.append_assoc]; exact HE2.out)⟩
      case measure => simp [intOf]
end Go.Proofs.Ytaajgdhoffhdcaa
