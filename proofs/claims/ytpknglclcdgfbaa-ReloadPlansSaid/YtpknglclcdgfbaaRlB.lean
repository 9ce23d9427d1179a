/-
  The walk of the statement ReloadKeeps.
-/
import Derived.Test.YtpknglclcdgfbaaRlA
import Derived.Test.YtpknglclcdgfbaaRlK
namespace Go.Proofs.Ytpknglclcdgfbaa
open Go.RowKit Go.Shelf
set_option linter.unusedVariables false

/-- mill.Jobs over a new deck: jobs that can be read, with the names a, b, .. -/
def JOld (w1 : World) (e : Ending) (w' : World) : Prop := ∃ (A : Option Addr) (c : Nat) (js : List Jd), e = .returned (.slice A js.length c) ∧ JL w' A js ∧ NmS (js.map Jd.nm) ∧ 1 ≤ js.length ∧ js.length ≤ 4 ∧ Old w1 w'
theorem JdMem.jm {B : Nat} {w : World} {j : Jd} (h : JdMem B w j) (g : JdG j) : JM w j :=
  ⟨h.env.rs, h.needs.rs, h.lad.rs, by have := g.bd.en; omega, by have := g.nb; omega, by have := g.l3; omega⟩
theorem JobsPost.old {w1 w2 w' : World} {B g : Nat} {e : Ending} (h : JobsPost w2 B g e w') (h0 : Old w1 w2) (hle : w1.heap.size ≤ g) : JOld w1 e w' := by
  obtain ⟨v, js, dl, x1, rfl, hown, hmem, hgood, h1, h4, hnm, _, hg⟩ := h
  obtain ⟨A, c, rfl, ht, _, _⟩ := hown.shape
  refine ⟨A, c, js, rfl, ⟨ht.rs, fun j hj => (hmem j hj).jm (hgood j hj), by omega⟩, ⟨js.length, h1, h4, ?_⟩, h1, h4, Dk.old h0 hg hle⟩
  unfold NmP at hnm
  split at hnm
  · exact Or.inl hnm
  · exact Or.inr hnm
theorem jobsO (l : List Int) (w1 w2 : World) (hdk : Dk w2 w1.heap.size w1.heap.size l) (hd : Old w1 w2) :
    Calls Try.prog 18 #[.pointer (some ⟨w1.heap.size, 0, none⟩)] w2 (JOld w1) :=
  (jobsC _ _ l w2 hdk).mono fun e w' h => h.old hd (Nat.le_refl _)
/-- How many of the first j entries bear a name. -/
def cntP (l : List (ByteArray × Int)) (nm : ByteArray) (j : Nat) : Nat := (l.take j).countP fun q => decide (q.1 = nm)
theorem take_snocP (l : List (ByteArray × Int)) (k : Nat) (h : k < l.length) : l.take (k + 1) = l.take k ++ [l.getD k (⟨#[]⟩, 0)] := by
  rw [List.take_succ_eq_append_getElem h, List.getD_eq_getElem?_getD, List.getElem?_eq_getElem h]
  rfl
theorem cnt_yes {l : List (ByteArray × Int)} {nm : ByteArray} {j : Nat} (h : j < l.length) (he : (l.getD j (⟨#[]⟩, 0)).1 = nm) : cntP l nm (j + 1) = cntP l nm j + 1 := by
  unfold cntP
  rw [take_snocP l j h, List.countP_append, List.countP_cons, if_pos (by simpa using he)]
  rfl
theorem cnt_no {l : List (ByteArray × Int)} {nm : ByteArray} {j : Nat} (h : j < l.length) (he : (l.getD j (⟨#[]⟩, 0)).1 ≠ nm) : cntP l nm (j + 1) = cntP l nm j := by
  unfold cntP
  rw [take_snocP l j h, List.countP_append, List.countP_cons, if_neg (by simpa using he)]
  rfl
theorem getD_mem {l : List (ByteArray × Int)} {i : Nat} (h : i < l.length) : l.getD i (⟨#[]⟩, 0) ∈ l := by
  rw [List.getD_eq_getElem?_getD, List.getElem?_eq_getElem h]
  exact List.getElem_mem h
theorem cnt_le (l : List (ByteArray × Int)) (nm : ByteArray) (j : Nat) : cntP l nm j ≤ j := by
  unfold cntP
  have := List.countP_le_length (p := fun q : ByteArray × Int => decide (q.1 = nm)) (l := l.take j)
  have := List.length_take_le j l
  omega
set_option maxHeartbeats 8000000 in
set_option maxRecDepth 100000 in
theorem rkeeps_any (A A' : Option Addr) (c c' : Nat) (l m : List Int) (w : World) (hr : Rs w A (ints l)) (hm : l.length ≤ maxLen) (hr' : Rs w A' (ints m)) (hm' : m.length ≤ maxLen) :
    Calls Try.prog 4 #[.slice A l.length c, .slice A' m.length c'] w fun e w' => e = .returned (.bool true) ∧ Old w w' := by
  have HS := Lib.hid (rlsaneC w)
  have HR := Lib.hid hr
  have HR' := Lib.hid hr'
  have HM := Lib.hid hm
  have HM' := Lib.hid hm'
  clear hr hr' hm hm'
  go_enter Try.func4, Try.ntmps4
  go_wp2_with fail
  refine (HS.out).mono ?_; rintro e w1 ⟨rfl, hd1⟩
  have HD1 := Lib.hid hd1
  have HN := Lib.hid (newDeck A c l w1 (HR.out.up hd1) HM.out)
  clear hd1 HS
  go_wp2_with fail
  refine (HN.out).mono ?_; rintro e w2 ⟨rfl, hdk, hd2⟩
  have HJ := Lib.hid (jobsO l w1 w2 hdk hd2)
  clear hdk hd2 HN
  go_wp2_with fail
  refine (HJ.out).mono ?_; rintro e w3 ⟨Ax, cx, x, rfl, hjx, hnx, hx1, hx4, hd3⟩
  have HX := Lib.hid hjx
  have HNX := Lib.hid hnx
  have HD3 := Lib.hid (HD1.out.up hd3)
  have HN := Lib.hid (newDeck A' c' m w3 (HR'.out.up HD3.out) HM'.out)
  clear hjx hnx hd3 HD1 HJ
  go_wp2_with fail
  refine (HN.out).mono ?_; rintro e w4 ⟨rfl, hdk, hd4⟩
  have HJ := Lib.hid (jobsO m w3 w4 hdk hd4)
  clear hdk hd4 HN
  go_wp2_with fail
  refine (HJ.out).mono ?_; rintro e w5 ⟨Ay, cy, y, rfl, hjy, hny, hy1, hy4, hd5⟩
  have HY := Lib.hid hjy
  have HX5 := Lib.hid (HX.out.up hd5)
  have HNY := Lib.hid hny
  have HD5 := Lib.hid (HD3.out.up hd5)
  clear hjy hny hd5 HD3 HX HJ HR HR' HM HM'
  have hlx : x.length ≤ 1000000 := by omega
  have hly : y.length ≤ 1000000 := by omega
  have hp1 := fun W (h : Old w5 W) => planC Ax Ax cx cx x x W (HX5.out.up h) (HX5.out.up h) hlx hlx
  rw [plan_self (nms_nodup HNX.out), List.length_map] at hp1
  have HP1 := Lib.hid hp1
  clear hp1
  go_wp2_with fail
  refine (HP1.out _ (Old.refl _)).mono ?_; rintro e w6 ⟨v, rfl, hown, hd6⟩
  obtain ⟨Ap, cp, rfl, htp, _, _⟩ := hown.shape
  have HD6 := Lib.hid hd6
  have HTP := Lib.hid htp.rs
  clear hown htp hd6
  go_wp2_with fail
  go_loopw [29] (fun i wr => ∃ k : Nat, k ≤ x.length ∧ i = .int .i64 (k : Int) ∧ Old w6 wr) (fun i _ => x.length - (intOf i).toNat)
  case atStart => exact ⟨0, Nat.zero_le _, rfl, Old.refl _⟩
  case round =>
    obtain ⟨k, hk, rfl, hor⟩ := hrel
    by_cases hlt : k < x.length
    · have hg := chgV_get (x.map fun a => (a.nm, (1 : Int))) k (by rw [List.length_map]; exact hlt)
      have h2 : ((x.map fun a => (a.nm, (1 : Int))).getD k (⟨#[]⟩, 0)).2 = 1 := by
        have := getD_mem (l := x.map fun a => (a.nm, (1 : Int))) (i := k) (by rw [List.length_map]; exact hlt)
        obtain ⟨a, _, e⟩ := List.mem_map.mp this
        rw [← e]
      rw [h2] at hg
      obtain ⟨b, off, rfl, _, hc⟩ := (HTP.out.up hor).at_ (by rw [chgV_length, List.length_map]; omega)
      have c1 := hc _ _ hg.1
      have c2 : wr.cell? ⟨b, off + k * 2 + 1, none⟩ = _ := hc _ _ hg.2
      generalize ((x.map fun a => (a.nm, (1 : Int))).getD k (⟨#[]⟩, 0)).1 = p1 at *
      have HO := Lib.hid (hor.alloc (.cells #[.string p1, .int .i64 1] 43))
      clear hc hg h2 hor
      go_wp2_with fail
      go_roundw
      case rel => exact ⟨k + 1, by omega, by go_num, HO.out⟩
      case measure => simp [intOf]; omega
    · obtain rfl : k = x.length := by omega
      have HD7 := Lib.hid (HD6.out.up hor)
      clear hor hlt hk HTP HD6
      have hp2 := fun W (h : Old w5 W) => planC Ax Ay cx cy x y W (HX5.out.up h) (HY.out.up h) hlx hly
      have hp3 := fun W (h : Old w5 W) => planC Ay Ax cy cx y x W (HY.out.up h) (HX5.out.up h) hly hlx
      rw [plan_len HNX.out HNY.out] at hp3
      have HL3 := Lib.hid (plan_len HNX.out HNY.out)
      have HBK : Hid (∀ p q, p ∈ planM x y → q ∈ planM y x → q.1 = p.1 → q.2 = flipK p.2) := Lib.hid (fun p q h1 h2 h3 => plan_back (nms_nodup HNX.out) (nms_nodup HNY.out) h1 h2 h3)
      have HCN : Hid (∀ p, p ∈ planM x y → (planM y x).countP (fun q => decide (q.1 = p.1)) = 1) := Lib.hid (fun p h => plan_count HNX.out HNY.out h)
      have hb2 : (planM x y).length ≤ 8 := by
        unfold planM
        rw [List.length_append, List.length_map, List.length_map]
        have := List.length_filter_le (fun j : Jd => lacksJ x j.nm) y
        omega
      generalize planM x y = P2 at *
      generalize planM y x = P3 at *
      have HP2 := Lib.hid hp2
      have HP3 := Lib.hid hp3
      clear hp2 hp3
      go_wp2_with fail
      refine (HP2.out _ HD7.out).mono ?_; rintro e w8 ⟨v8, rfl, hown8, hd8⟩
      obtain ⟨A8, c8, rfl, ht8, _, _⟩ := hown8.shape
      have HT8 := Lib.hid ht8.rs
      have HD8 := Lib.hid (HD7.out.up hd8)
      clear hown8 ht8 hd8 HD7 HP2
      go_wp2_with fail
      refine (HP3.out _ HD8.out).mono ?_; rintro e w9 ⟨v9, rfl, hown9, hd9⟩
      obtain ⟨A9, c9, rfl, ht9, _, _⟩ := hown9.shape
      have HT9 := Lib.hid ht9.rs
      have HT89 := Lib.hid (HT8.out.up hd9)
      have HD9 := Lib.hid (HD8.out.up hd9)
      clear hown9 ht9 hd9 HD8 HT8 HP3
      go_wp2_with fail
      refine (HP1.out _ HD9.out).mono ?_; rintro e w10 ⟨v10, rfl, hown10, hd10⟩
      obtain ⟨A10, c10, rfl, _, _, _⟩ := hown10.shape
      have H2 := Lib.hid (HT89.out.up hd10)
      have H3 := Lib.hid (HT9.out.up hd10)
      have HD10 := Lib.hid (HD5.out.up (HD9.out.up hd10))
      clear hown10 hd10 HT89 HT9 HD9 HP1 HX5 HY HNX HNY HD5
      go_wp2_with fail
      go_loopw [59] (fun i wr => ∃ k : Nat, k ≤ P2.length ∧ i = .int .i64 (k : Int) ∧ Old w10 wr) (fun i _ => P2.length - (intOf i).toNat)
      case atStart => exact ⟨0, Nat.zero_le _, rfl, Old.refl _⟩
      case round =>
        obtain ⟨k, hk, rfl, hor⟩ := hrel
        by_cases hlt : k < P2.length
        · obtain ⟨b, off, rfl, _, hc⟩ := (H2.out.up hor).at_ (by rw [chgV_length]; omega)
          have c1 := hc _ _ (chgV_get P2 k hlt).1
          have c2 : wr.cell? ⟨b, off + k * 2 + 1, none⟩ = _ := hc _ _ (chgV_get P2 k hlt).2
          have hBK := fun q h => HBK.out (P2.getD k (⟨#[]⟩, 0)) q (getD_mem hlt) h
          have hCN := HCN.out (P2.getD k (⟨#[]⟩, 0)) (getD_mem hlt)
          clear hc
          generalize P2.getD k (⟨#[]⟩, 0) = p at *
          obtain ⟨p1, p2⟩ := p
          simp only at c1 c2 hBK hCN
          have HB := Lib.hid hBK
          have HC := Lib.hid hCN
          clear hBK hCN
          go_upto_region 16 with fail
          have b12 := heap_alloc_new wr (.cells #[.string p1, .int .i64 p2] 43)
          have ho12 := hor.alloc (.cells #[.string p1, .int .i64 p2] 43)
          generalize wr.alloc (.cells #[.string p1, .int .i64 p2] 43) = w12 at *
          generalize wr.heap.size = k12 at *
          have B12 := Lib.hid b12
          have HO12 := Lib.hid ho12
          clear b12 ho12 hor c1 c2
          go_wp2_with fail
          go_loopw [13, 65] (fun s13 s65 wr => ∃ j : Nat, j ≤ P2.length ∧ s65 = .int .i64 (j : Int) ∧ s13 = .int .i64 (cntP P3 p1 j : Int) ∧ Old w12 wr) (fun _ s65 _ => P2.length - (intOf s65).toNat)
          case atStart => exact ⟨0, Nat.zero_le _, rfl, rfl, Old.refl _⟩
          case round =>
            obtain ⟨j, hj, rfl, rfl, hor⟩ := hrel
            have hcl := cnt_le P3 p1 j
            by_cases hlt3 : j < P2.length
            · have hlt3' : j < P3.length := by rw [HL3.out]; exact hlt3
              obtain ⟨b3, off3, rfl, _, hc⟩ := (H3.out.up (HO12.out.up hor)).at_ (by rw [chgV_length]; omega)
              have d1 := hc _ _ (chgV_get P3 j hlt3').1
              have d2 : wr.cell? ⟨b3, off3 + j * 2 + 1, none⟩ = _ := hc _ _ (chgV_get P3 j hlt3').2
              have hq := HB.out (P3.getD j (⟨#[]⟩, 0)) (getD_mem hlt3')
              have HYS : Hid ((P3.getD j (⟨#[]⟩, 0)).1 = p1 → cntP P3 p1 (j + 1) = cntP P3 p1 j + 1) := Lib.hid (fun h => cnt_yes hlt3' h)
              have HNS : Hid ((P3.getD j (⟨#[]⟩, 0)).1 ≠ p1 → cntP P3 p1 (j + 1) = cntP P3 p1 j) := Lib.hid (fun h => cnt_no hlt3' h)
              clear hc
              generalize P3.getD j (⟨#[]⟩, 0) = q at *
              obtain ⟨q1, q2⟩ := q
              simp only at d1 d2 hq
              have bb := hor.block B12.out
              have e1 : wr.cell? ⟨k12, 0, none⟩ = some (.string p1) := (cell_of_row wr k12 0 _ _ _ bb).trans rfl
              have e2 : wr.cell? ⟨k12, 1, none⟩ = some (.int .i64 p2) := (cell_of_row wr k12 1 _ _ _ bb).trans rfl
              have hkl : k12 < wr.heap.size := lt_of_block bb
              have HO := Lib.hid (hor.alloc (.cells #[.string q1, .int .i64 q2] 43))
              clear bb hor
              by_cases he : q1 = p1
              · subst he
                have HQ := Lib.hid (hq rfl)
                have HE := Lib.hid (HYS.out rfl)
                clear hq HYS HNS
                by_cases h3 : p2 = 3
                · subst h3
                  have hq2 : q2 = 4 := HQ.out
                  subst hq2
                  clear HQ
                  go_wp2_with fail
                  go_roundw
                  case rel => exact ⟨j + 1, by omega, by go_num, by rw [HE.out]; go_num, HO.out⟩
                  case measure => simp [intOf]; omega
                · have n3 : (p2 == 3) = false := by rw [beq_eq_false_iff_ne]; exact h3
                  by_cases h4 : p2 = 4
                  · subst h4
                    have hq2 : q2 = 3 := HQ.out
                    subst hq2
                    clear HQ n3 h3
                    go_wp2_with fail
                    go_roundw
                    case rel => exact ⟨j + 1, by omega, by go_num, by rw [HE.out]; go_num, HO.out⟩
                    case measure => simp [intOf]; omega
                  · have n4 : (p2 == 4) = false := by rw [beq_eq_false_iff_ne]; exact h4
                    have hq2 : q2 = p2 := by have := HQ.out; unfold flipK at this; rw [if_neg h3, if_neg h4] at this; exact this
                    subst hq2
                    clear HQ h3 h4
                    go_wp2_with fail
                    go_roundw
                    case rel => exact ⟨j + 1, by omega, by go_num, by rw [HE.out]; go_num, HO.out⟩
                    case measure => simp [intOf]; omega
              · have n1 : (q1.toList == p1.toList) = false := ba_ne he
                have HE := Lib.hid (HNS.out he)
                clear he hq HYS HNS
                go_wp2_with fail
                go_roundw
                case rel => exact ⟨j + 1, by omega, by go_num, by rw [HE.out], HO.out⟩
                case measure => simp [intOf]; omega
            · obtain rfl : j = P2.length := by omega
              have hone : cntP P3 p1 P2.length = 1 := by
                unfold cntP
                rw [List.take_of_length_le (by rw [HL3.out]; exact Nat.le_refl _)]
                exact HC.out
              rw [hone]
              have HO := Lib.hid (HO12.out.up hor)
              clear hone hcl hor hlt3 hj
              go_wp2_with fail
              go_roundw
              case rel => exact ⟨k + 1, by omega, by go_num, HO.out⟩
              case measure => simp [intOf]; omega
        · obtain rfl : k = P2.length := by omega
          have HO := Lib.hid (HD10.out.up hor)
          clear hor
          go_wp2_with fail
          go_ret
          exact ⟨rfl, HO.out⟩
end Go.Proofs.Ytpknglclcdgfbaa
