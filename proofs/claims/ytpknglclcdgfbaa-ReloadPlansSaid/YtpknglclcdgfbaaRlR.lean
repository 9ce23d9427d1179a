/-
  The walk of reload.Plan.
-/
import Derived.Test.YtpknglclcdgfbaaRlQ
import Derived.Test.YtpknglclcdgfbaaRlS
import Derived.Test.YtpknglclcdgfbaaStill
namespace Go.Proofs.Ytpknglclcdgfbaa
open Go.RowKit Go.Shelf
set_option linter.unusedVariables false

theorem info_chg : (Try.prog.info? 43).map (fun i => (i.zero, i.size, i.bytes)) = some (some (.agg #[.string ⟨#[]⟩, .int .i64 0]), 2, 24) := by kernel_rfl

def chgV (l : List (ByteArray × Int)) : List Value := l.flatMap fun p => [.string p.1, .int .i64 p.2]
theorem chgV_length (l : List (ByteArray × Int)) : (chgV l).length = 2 * l.length := by
  unfold chgV
  induction l with
  | nil => rfl
  | cons a l ih => simp only [List.flatMap_cons, List.length_append, List.length_cons, ih]; simp; omega
theorem chgV_get (l : List (ByteArray × Int)) : ∀ i, i < l.length → (chgV l)[i * 2]? = some (.string (l.getD i (⟨#[]⟩, 0)).1) ∧ (chgV l)[i * 2 + 1]? = some (.int .i64 (l.getD i (⟨#[]⟩, 0)).2) := by
  induction l with
  | nil => intro i h; simp at h
  | cons a l ih =>
    intro i h
    cases i with
    | zero => exact ⟨rfl, rfl⟩
    | succ i =>
      have e1 : (i + 1) * 2 = i * 2 + 1 + 1 := by omega
      rw [e1]
      exact ih i (by simpa using h)
theorem chgV_snoc (l : List (ByteArray × Int)) (n : ByteArray) (k : Int) : chgV l ++ [.string n, .int .i64 k] = chgV (l ++ [(n, k)]) := by simp [chgV]
/-- What becomes of the first k jobs; which of the first k new ones are added. -/
def pOld (old next : List Jd) (k : Nat) : List (ByteArray × Int) := (old.take k).map fun a => (a.nm, kindJ next a)
def pNew (old next : List Jd) (k : Nat) : List (ByteArray × Int) := old.map (fun a => (a.nm, kindJ next a)) ++ ((next.take k).filter fun j => lacksJ old j.nm).map fun j => (j.nm, 4)
theorem pOld_len (old next : List Jd) (k : Nat) (h : k ≤ old.length) : (pOld old next k).length = k := by simp [pOld]; omega
theorem take_snocJ (l : List Jd) (k : Nat) (h : k < l.length) : l.take (k + 1) = l.take k ++ [l.getD k jd0] := by
  rw [List.take_succ_eq_append_getElem h, List.getD_eq_getElem?_getD, List.getElem?_eq_getElem h]
  rfl
theorem pOld_succ (old next : List Jd) (k : Nat) (h : k < old.length) : pOld old next (k + 1) = pOld old next k ++ [((old.getD k jd0).nm, kindJ next (old.getD k jd0))] := by
  unfold pOld
  rw [take_snocJ old k h, List.map_append]
  rfl
theorem pOld_all (old next : List Jd) : pOld old next old.length = pNew old next 0 := by
  unfold pOld pNew
  rw [List.take_length]
  simp
theorem pNew_add (old next : List Jd) (k : Nat) (h : k < next.length) (hl : lacksJ old (next.getD k jd0).nm = true) : pNew old next (k + 1) = pNew old next k ++ [((next.getD k jd0).nm, 4)] := by
  unfold pNew
  rw [take_snocJ next k h, List.filter_append, List.map_append, ← List.append_assoc]
  congr 1
  rw [List.filter_cons, if_pos hl]
  rfl
theorem pNew_same (old next : List Jd) (k : Nat) (h : k < next.length) (hl : lacksJ old (next.getD k jd0).nm = false) : pNew old next (k + 1) = pNew old next k := by
  unfold pNew
  rw [take_snocJ next k h, List.filter_append, List.filter_cons, if_neg (by rw [hl]; exact Bool.false_ne_true)]
  simp
theorem pNew_all (old next : List Jd) : pNew old next next.length = planM old next := by
  unfold pNew planM
  rw [List.take_length]
theorem pNew_len (old next : List Jd) (k : Nat) (h : k ≤ next.length) : (pNew old next k).length ≤ old.length + k := by
  unfold pNew
  rw [List.length_append, List.length_map, List.length_map]
  have h1 := List.length_filter_le (fun j : Jd => lacksJ old j.nm) (next.take k)
  have h2 := List.length_take_le k next
  omega
def PoRel (w : World) (old next : List Jd) (v i : Value) (wr : World) : Prop :=
  ∃ (k : Nat) (v1 : Value), v1 = v ∧ k ≤ old.length ∧ i = .int .i64 (k : Int) ∧ Hid (Own wr w.heap.size 43 2 v1 (pOld old next k).length (chgV (pOld old next k))) ∧ Hid (Old w wr)
def PnRel (w : World) (old next : List Jd) (v i : Value) (wr : World) : Prop :=
  ∃ (k : Nat) (v1 : Value), v1 = v ∧ k ≤ next.length ∧ i = .int .i64 (k : Int) ∧ Hid (Own wr w.heap.size 43 2 v1 (pNew old next k).length (chgV (pNew old next k))) ∧ Hid (Old w wr)
/-- Which of the two lists is asked, and how the answer tells the kind. -/
theorem kind_of {next : List Jd} {a : Jd} {r : Int} (h : PlR next a.nm r) : (r = -1 ∧ kindJ next a = 3) ∨ ∃ k : Nat, k < next.length ∧ r = (k : Int) ∧ kindJ next a = if sameJ a (next.getD k jd0) then 1 else 2 := by
  rcases h with ⟨h1, h2⟩ | ⟨k, h1, h2, h3, h4⟩
  · exact Or.inl ⟨h1, kind_none h2⟩
  · exact Or.inr ⟨k, h1, h2, kind_some h1 h3 h4⟩
theorem lacks_of {old : List Jd} {nm : ByteArray} {r : Int} (h : PlR old nm r) : (r = -1 ∧ lacksJ old nm = true) ∨ ∃ k : Nat, k < old.length ∧ r = (k : Int) ∧ lacksJ old nm = false := by
  rcases h with ⟨h1, h2⟩ | ⟨k, h1, h2, h3, h4⟩
  · exact Or.inl ⟨h1, lacks_none h2⟩
  · exact Or.inr ⟨k, h1, h2, lacks_some h1 h3 h4⟩
set_option maxHeartbeats 8000000 in
set_option maxRecDepth 100000 in
theorem planC (A A' : Option Addr) (c c' : Nat) (old next : List Jd) (w : World) (ho : JL w A old) (hn : JL w A' next) (hs : old.length ≤ 1000000) (hs' : next.length ≤ 1000000) :
    Calls Try.prog 14 #[.slice A old.length c, .slice A' next.length c'] w (Made w 43 2 (planM old next).length (chgV (planM old next))) := by
  have HO := Lib.hid ho
  have HN := Lib.hid hn
  have HFN := Lib.hid (fun W nm (h : Old w W) => findC A' c' next nm W (hn.up h))
  have HFO := Lib.hid (fun W nm (h : Old w W) => findC A c old nm W (ho.up h))
  clear ho hn
  go_enter Try.func14, Try.ntmps14
  go_wp2_with fail
  go_loopw [6, 15] (fun v i wr => PoRel w old next v i wr) (fun _ i _ => old.length - (intOf i).toNat)
  case atStart => exact ⟨0, _, rfl, Nat.zero_le _, rfl, Lib.hid (Own.nil_ w _ _ _), Lib.hid (Old.refl _)⟩
  case round =>
    obtain ⟨k, v1, rfl, hk, rfl, HW, HD⟩ := hrel
    by_cases hlt : k < old.length
    · obtain ⟨b, off, rfl, hbl, hrow⟩ := (HO.out.up HD.out).row (by omega)
      have hrk := hrow k hlt
      have hjm := (HO.out.up HD.out).at_ hlt
      have HP := Lib.hid (pOld_succ old next k hlt)
      have HPL := Lib.hid (pOld_len old next k hk)
      clear hrow
      generalize old.getD k jd0 = x at *
      have HJM := Lib.hid hjm
      have HRK := Lib.hid hrk
      clear hjm hrk
      obtain ⟨c0, c1, c2, c3, c4, c5, c6, c7, c8, c9, c10, c11, c12, c13, c14⟩ := HRK.out
      go_upto_region 6 with fail
      clear c0 c1 c2 c3 c4 c5 c6 c7 c8 c9 c10 c11 c12 c13 c14
      have b8 := heap_alloc_new wr (.cells #[.string x.nm, .string x.run, .slice x.eA x.env.length x.ec, .slice x.nA x.needs.length x.nc, .bool x.hasR, .string x.ready, .int .i64 x.restart, .int .u64 x.base, .int .u64 x.cap, .int .u64 x.stable, .int .i64 x.burst, .int .u64 x.win, .slice x.lA x.lad.length x.lc, .int .i64 x.line, .int .i64 x.col] 33)
      have ho8 := (Old.refl wr).alloc (.cells #[.string x.nm, .string x.run, .slice x.eA x.env.length x.ec, .slice x.nA x.needs.length x.nc, .bool x.hasR, .string x.ready, .int .i64 x.restart, .int .u64 x.base, .int .u64 x.cap, .int .u64 x.stable, .int .i64 x.burst, .int .u64 x.win, .slice x.lA x.lad.length x.lc, .int .i64 x.line, .int .i64 x.col] 33)
      generalize wr.alloc (.cells #[.string x.nm, .string x.run, .slice x.eA x.env.length x.ec, .slice x.nA x.needs.length x.nc, .bool x.hasR, .string x.ready, .int .i64 x.restart, .int .u64 x.base, .int .u64 x.cap, .int .u64 x.stable, .int .i64 x.burst, .int .u64 x.win, .slice x.lA x.lad.length x.lc, .int .i64 x.line, .int .i64 x.col] 33) = w8 at *
      generalize wr.heap.size = k8 at *
      have B8 := Lib.hid b8
      have HD8 := Lib.hid (HD.out.up ho8)
      have HW8 := Lib.hid (HW.out.up ho8)
      have HJM8 := Lib.hid (HJM.out.up ho8)
      obtain ⟨⟨c0, c1, c2, c3, c4, c5, c6, c7, c8, c9, c10, c11, c12, c13, c14⟩, _⟩ := row15 b8
      clear b8 ho8 HRK HD HW HJM
      go_wp2_with fail
      refine (HFN.out _ x.nm HD8.out).mono ?_; rintro e w1 ⟨r, rfl, hp, hd⟩
      have HKO := Lib.hid (kind_of hp)
      have HD1 := Lib.hid (HD8.out.up hd)
      have HW1 := Lib.hid (HW8.out.up hd)
      have HJM1 := Lib.hid (HJM8.out.up hd)
      have B1 := Lib.hid (hd.block B8.out)
      clear c0 c1 c2 c3 c4 c5 c6 c7 c8 c9 c10 c11 c12 c13 c14 hp hd B8 HD8 HW8 HJM8
      go_upto_if 25 with fail
      go_cut [9] (fun s wx => s = .int .i64 (kindJ next x) ∧ Old w1 wx)
      case first =>
        rcases HKO.out with ⟨rfl, hkk⟩ | ⟨k2, hk2, rfl, hkk⟩
        · have HK := Lib.hid hkk
          clear hkk
          go_wp2_with fail
          go_meet
          case rel => exact ⟨by rw [HK.out], Old.refl _⟩
        · have hd2 : decide ((k2 : Int) < 0) = false := by rw [decide_eq_false_iff_not]; omega
          obtain ⟨b2, off2, rfl, hbl2, hrow2⟩ := (HN.out.up HD1.out).row (by omega)
          have hrk2 := hrow2 k2 hk2
          have hs := fun W (h : Old w1 W) => lsameJ x (next.getD k2 jd0) W (HJM1.out.up h) (((HN.out.up HD1.out).at_ hk2).up h)
          clear hrow2
          generalize next.getD k2 jd0 = y at *
          unfold jdA at hs
          have HS := Lib.hid hs
          clear hs
          obtain ⟨d0, d1, d2, d3, d4, d5, d6, d7, d8, d9, d10, d11, d12, d13, d14⟩ := hrk2
          obtain ⟨⟨c0, c1, c2, c3, c4, c5, c6, c7, c8, c9, c10, c11, c12, c13, c14⟩, _⟩ := row15 B1.out
          cases hs2 : sameJ x y
          · have HS' := Lib.hid (fun W (h : Old w1 W) => (HS.out W h).mono fun e w' q => (⟨by rw [q.1, hs2], h.up q.2⟩ : e = .returned (.bool false) ∧ Old w1 w'))
            rw [hs2] at hkk
            have HK := Lib.hid hkk
            clear hs2 hkk HS
            go_upto_region 10 with fail
            refine wp_region_still_tail 5 (by kernel_rfl) (by kernel_rfl) ?_
            simp only [List.take_succ_cons, List.take_zero, List.drop_succ_cons, List.drop_zero]
            refine still_open (fun S HSW HSS HSN => ?_)
            iterate 5 (refine HSW.out _ _ _ (by kernel_rfl) (fun K hK => ?_); go_simp; refine hK _ ?_; clear hK K)
            refine HSN.out _ ?_
            clear HSW HSS HSN
            go_wp2_with fail
            refine (HS'.out _ (by first | exact (Old.refl w1).drew | exact (Old.refl w1).drewN _ | exact Old.refl w1)).mono ?_; rintro e w2 ⟨rfl, hd⟩
            clear c0 c1 c2 c3 c4 c5 c6 c7 c8 c9 c10 c11 c12 c13 c14 d0 d1 d2 d3 d4 d5 d6 d7 d8 d9 d10 d11 d12 d13 d14
            go_wp2_with fail
            go_meet
            case rel => exact ⟨by rw [HK.out]; rfl, hd⟩
          · have HS' := Lib.hid (fun W (h : Old w1 W) => (HS.out W h).mono fun e w' q => (⟨by rw [q.1, hs2], h.up q.2⟩ : e = .returned (.bool true) ∧ Old w1 w'))
            rw [hs2] at hkk
            have HK := Lib.hid hkk
            clear hs2 hkk HS
            go_upto_region 10 with fail
            refine wp_region_still_tail 5 (by kernel_rfl) (by kernel_rfl) ?_
            simp only [List.take_succ_cons, List.take_zero, List.drop_succ_cons, List.drop_zero]
            refine still_open (fun S HSW HSS HSN => ?_)
            iterate 5 (refine HSW.out _ _ _ (by kernel_rfl) (fun K hK => ?_); go_simp; refine hK _ ?_; clear hK K)
            refine HSN.out _ ?_
            clear HSW HSS HSN
            go_wp2_with fail
            refine (HS'.out _ (by first | exact (Old.refl w1).drew | exact (Old.refl w1).drewN _ | exact Old.refl w1)).mono ?_; rintro e w2 ⟨rfl, hd⟩
            clear c0 c1 c2 c3 c4 c5 c6 c7 c8 c9 c10 c11 c12 c13 c14 d0 d1 d2 d3 d4 d5 d6 d7 d8 d9 d10 d11 d12 d13 d14
            go_wp2_with fail
            go_meet
            case rel => exact ⟨by rw [HK.out]; rfl, hd⟩
      case rest =>
        obtain ⟨rfl, hoc⟩ := hcut
        have HWc := Lib.hid (HW1.out.up hoc)
        have HDc := Lib.hid (HD1.out.up hoc)
        have hsz := HDc.out.size
        have hnn : (pOld old next k).length ≤ 1000000 := by rw [HPL.out]; omega
        have hbx := hoc.block B1.out
        obtain ⟨⟨c0, c1, c2, c3, c4, c5, c6, c7, c8, c9, c10, c11, c12, c13, c14⟩, _⟩ := row15 hbx
        clear hoc hbx B1 HW1 HD1 HJM1 HKO
        generalize kindJ next x = kd at *
        go_wp2_with (at_builtin; refine wpList_push (wr := wc) rfl _ _ 38 rfl _ 43 (.agg #[.string ⟨#[]⟩, .int .i64 0]) 2 24 Try.underlying38 info_chg rfl (by decide) (by decide) _ _ _ rfl HWc.out 1 1 [.string x.nm, .int .i64 kd] rfl rfl rfl rfl ?pn1 hsz ?_)
        case pn1 => omega
        intro v2 w2 ho2 hg2 hd2
        rw [chgV_snoc, ← HP.out] at ho2
        have HX : Hid (PoRel w old next v2 (.int .i64 ((k + 1 : Nat) : Int)) w2) := Lib.hid ⟨k + 1, _, rfl, by omega, rfl, Lib.hid (by rw [pOld_len old next (k + 1) (by omega)]; rw [HPL.out] at ho2; exact ho2), Lib.hid (hd2 _ HDc.out (Nat.le_refl _))⟩
        clear ho2 hg2 hd2 HWc HDc HP HPL c0 c1 c2 c3 c4 c5 c6 c7 c8 c9 c10 c11 c12 c13 c14
        go_wp2_with fail
        go_roundw
        case rel => exact HX.out
        case measure => simp [intOf]; omega
    · obtain rfl : k = old.length := by omega
      have HW0 : Hid (PnRel w old next v1 (.int .i64 ((0 : Nat) : Int)) wr) := Lib.hid ⟨0, _, rfl, Nat.zero_le _, rfl, Lib.hid (by rw [← pOld_all]; exact HW.out), HD⟩
      clear HW HD hlt hk
      go_wp2_with fail
      go_loopw [6, 42] (fun v i wr => PnRel w old next v i wr) (fun _ i _ => next.length - (intOf i).toNat)
      case atStart => exact HW0.out
      case round =>
        clear HW0
        obtain ⟨k, v1, rfl, hk, rfl, HW, HD⟩ := hrel
        by_cases hlt : k < next.length
        · obtain ⟨b, off, rfl, hbl, hrow⟩ := (HN.out.up HD.out).row (by omega)
          have hrk := hrow k hlt
          have HPA := Lib.hid (pNew_add old next k hlt)
          have HPS := Lib.hid (pNew_same old next k hlt)
          have HPL := Lib.hid (pNew_len old next k hk)
          clear hrow
          generalize next.getD k jd0 = x at *
          have HRK := Lib.hid hrk
          clear hrk
          obtain ⟨c0, c1, c2, c3, c4, c5, c6, c7, c8, c9, c10, c11, c12, c13, c14⟩ := HRK.out
          go_upto_region 17 with fail
          clear c0 c1 c2 c3 c4 c5 c6 c7 c8 c9 c10 c11 c12 c13 c14
          have b8 := heap_alloc_new wr (.cells #[.string x.nm, .string x.run, .slice x.eA x.env.length x.ec, .slice x.nA x.needs.length x.nc, .bool x.hasR, .string x.ready, .int .i64 x.restart, .int .u64 x.base, .int .u64 x.cap, .int .u64 x.stable, .int .i64 x.burst, .int .u64 x.win, .slice x.lA x.lad.length x.lc, .int .i64 x.line, .int .i64 x.col] 33)
          have ho8 := (Old.refl wr).alloc (.cells #[.string x.nm, .string x.run, .slice x.eA x.env.length x.ec, .slice x.nA x.needs.length x.nc, .bool x.hasR, .string x.ready, .int .i64 x.restart, .int .u64 x.base, .int .u64 x.cap, .int .u64 x.stable, .int .i64 x.burst, .int .u64 x.win, .slice x.lA x.lad.length x.lc, .int .i64 x.line, .int .i64 x.col] 33)
          generalize wr.alloc (.cells #[.string x.nm, .string x.run, .slice x.eA x.env.length x.ec, .slice x.nA x.needs.length x.nc, .bool x.hasR, .string x.ready, .int .i64 x.restart, .int .u64 x.base, .int .u64 x.cap, .int .u64 x.stable, .int .i64 x.burst, .int .u64 x.win, .slice x.lA x.lad.length x.lc, .int .i64 x.line, .int .i64 x.col] 33) = w8 at *
          generalize wr.heap.size = k8 at *
          have B8 := Lib.hid b8
          have HD8 := Lib.hid (HD.out.up ho8)
          have HW8 := Lib.hid (HW.out.up ho8)
          obtain ⟨⟨c0, c1, c2, c3, c4, c5, c6, c7, c8, c9, c10, c11, c12, c13, c14⟩, _⟩ := row15 b8
          clear b8 ho8 HRK HD HW
          go_wp2_with fail
          refine (HFO.out _ x.nm HD8.out).mono ?_; rintro e w1 ⟨r, rfl, hp, hd⟩
          have HKO := Lib.hid (lacks_of hp)
          have HD1 := Lib.hid (HD8.out.up hd)
          have HW1 := Lib.hid (HW8.out.up hd)
          have hbx := hd.block B8.out
          clear c0 c1 c2 c3 c4 c5 c6 c7 c8 c9 c10 c11 c12 c13 c14 hp hd B8 HD8 HW8
          obtain ⟨⟨c0, c1, c2, c3, c4, c5, c6, c7, c8, c9, c10, c11, c12, c13, c14⟩, _⟩ := row15 hbx
          clear hbx
          have hsz := HD1.out.size
          have hnn : (pNew old next k).length ≤ 2000000 := by have := HPL.out; omega
          rcases HKO.out with ⟨rfl, hlk⟩ | ⟨k2, hk2, rfl, hlk⟩
          · have hpa := HPA.out hlk
            have HPB := Lib.hid hpa
            clear hpa hlk HPA HPS HPL HKO
            go_wp2_with (at_builtin; refine wpList_push (wr := w1) rfl _ _ 38 rfl _ 43 (.agg #[.string ⟨#[]⟩, .int .i64 0]) 2 24 Try.underlying38 info_chg rfl (by decide) (by decide) _ _ _ rfl HW1.out 1 1 [.string x.nm, .int .i64 4] rfl rfl rfl rfl ?pn2 hsz ?_)
            case pn2 => omega
            intro v2 w2 ho2 hg2 hd2
            rw [chgV_snoc, ← HPB.out] at ho2
            have HX : Hid (PnRel w old next v2 (.int .i64 ((k + 1 : Nat) : Int)) w2) := Lib.hid ⟨k + 1, _, rfl, by omega, rfl, Lib.hid (by rw [show (pNew old next (k + 1)).length = (pNew old next k).length + 1 by rw [HPB.out, List.length_append]; rfl]; exact ho2), Lib.hid (hd2 _ HD1.out (Nat.le_refl _))⟩
            clear ho2 hg2 hd2 HW1 HD1 HPB c0 c1 c2 c3 c4 c5 c6 c7 c8 c9 c10 c11 c12 c13 c14
            go_wp2_with fail
            go_roundw
            case rel => exact HX.out
            case measure => simp [intOf]; omega
          · have hd2 : decide ((k2 : Int) < 0) = false := by rw [decide_eq_false_iff_not]; omega
            have hps := HPS.out hlk
            have HX : Hid (PnRel w old next v1 (.int .i64 ((k + 1 : Nat) : Int)) w1) := Lib.hid ⟨k + 1, _, rfl, by omega, rfl, Lib.hid (by rw [hps]; exact HW1.out), HD1⟩
            clear hps hlk HPA HPS HPL HKO c0 c1 c2 c3 c4 c5 c6 c7 c8 c9 c10 c11 c12 c13 c14
            go_wp2_with fail
            go_roundw
            case rel => exact HX.out
            case measure => simp [intOf]; omega
        · obtain rfl : k = next.length := by omega
          have HX : Hid (Made w 43 2 (planM old next).length (chgV (planM old next)) (.returned v1) wr) := Lib.hid ⟨_, rfl, by rw [← pNew_all]; exact HW.out, HD.out⟩
          clear HW HD
          go_wp2_with fail
          go_ret
          exact HX.out
end Go.Proofs.Ytpknglclcdgfbaa
