/-
  The walks of the reference's accepted and reach (automata).
-/
import Derived.Test.YthadkjgadhbidaaRtP
import Derived.Test.YthadkjgadhbidaaMtW
namespace Go.Proofs.Ythadkjgadhbidaa
open Go.RowKit
set_option linter.unusedVariables false

def AcRel (w : World) (st : List Nd) (V : Nat → Bool) (v : Value) (wr : World) : Prop :=
  ∃ i : Nat, v = .int .i64 i ∧ i ≤ st.length ∧ Hid (∀ s, s < i → ¬ (V s = true ∧ (nd st s).kind = 5)) ∧ Hid (Old w wr)
set_option maxHeartbeats 2000000 in
set_option maxRecDepth 100000 in
theorem acceptedC (A B : Option Addr) (c c2 : Nat) (st : List Nd) (V : Nat → Bool) (w : World) (hs : Rs w A (ndsV st)) (hb : Rs w B (rowV st.length V)) (hl : st.length ≤ 1000) :
    Calls Try.prog 42 #[.slice A st.length c, .slice B st.length c2] w (ValOld (.bool (acceptedM st V)) w) := by
  have HS := Lib.hid hs
  have HB := Lib.hid hb
  clear hs hb
  go_enter Try.func42, Try.ntmps42
  go_wp2_with fail
  go_loopw [5] (fun s5 wr => AcRel w st V s5 wr) (fun s5 _ => st.length - (intOf s5).toNat)
  case atStart => exact ⟨0, rfl, Nat.zero_le _, Lib.hid (fun s hs => by omega), Lib.hid (Old.refl _)⟩
  case round =>
    obtain ⟨i, rfl, hi, HN, HO⟩ := hrel
    by_cases hlt : i < st.length
    · have i1 : (i : Int) < (st.length : Int) := by omega
      have i0 : (0 : Int) ≤ (i : Int) := by omega
      obtain ⟨bB, oB, rfl, _, hcB⟩ := (HB.out.up HO.out).at_ (by rw [rowV_length]; omega)
      obtain ⟨b, off, rfl, _, hcl⟩ := (HS.out.up HO.out).at_ (by rw [ndsV_length]; omega)
      have cB := hcB _ _ (rowV_get V hlt)
      have hx : st[i]? = some (nd st i) := by unfold nd; rw [List.getD_eq_getElem?_getD, List.getElem?_eq_getElem hlt]; rfl
      have c0 := hcl _ _ (ndsV_get st i _ hx 0 (by omega))
      rw [Nat.add_zero] at c0
      replace c0 : wr.cell? ⟨b, off + i * 7, none⟩ = some (.int .i64 (nd st i).kind) := c0
      have HNX : Hid (¬ (V i = true ∧ (nd st i).kind = 5) → ∀ s, s < i + 1 → ¬ (V s = true ∧ (nd st s).kind = 5)) := Lib.hid (fun h s hs => by
        by_cases e : s = i
        · subst e; exact h
        · exact HN.out s (by omega))
      have HY : Hid (V i = true ∧ (nd st i).kind = 5 → acceptedM st V = true) := Lib.hid (fun h => (acceptedM_iff st V).2 ⟨i, hlt, h⟩)
      clear hcB hcl hx HN
      generalize (nd st i).kind = kd at *
      generalize V i = b1 at *
      cases b1 with
      | false =>
        have HW : Hid (AcRel w st V (.int .i64 ((i + 1 : Nat) : Int)) wr) := Lib.hid ⟨i + 1, rfl, hlt, Lib.hid (HNX.out (by simp)), HO⟩
        go_wp2_with fail
        go_roundw
        case rel => exact HW.out
        case measure => simp [intOf]; omega
      | true =>
        by_cases h5 : kd = 5
        · subst h5
          have HE := Lib.hid (HY.out ⟨rfl, rfl⟩)
          go_wp2_with fail
          go_ret
          rw [HE.out]
          exact ⟨rfl, HO.out⟩
        · have HW : Hid (AcRel w st V (.int .i64 ((i + 1 : Nat) : Int)) wr) := Lib.hid ⟨i + 1, rfl, hlt, Lib.hid (HNX.out (fun h => h5 h.2)), HO⟩
          have b5 : (kd == 5) = false := by simpa using h5
          clear h5
          go_wp2_with fail
          go_roundw
          case rel => exact HW.out
          case measure => simp [intOf]; omega
    · obtain rfl : i = st.length := by omega
      have HE : Hid (acceptedM st V = false) := Lib.hid (by
        cases h : acceptedM st V with
        | false => rfl
        | true =>
          obtain ⟨s, h1, h2⟩ := (acceptedM_iff st V).1 h
          exact absurd h2 (HN.out s h1))
      go_wp2_with fail
      go_ret
      rw [HE.out]
      exact ⟨rfl, HO.out⟩

/-- How many of the first n cells of a block are false. -/
def wcount (w : World) (g n : Nat) : Nat := ((List.range n).filter fun k => match w.cell? ⟨g, k, none⟩ with | some (.bool b) => !b | _ => false).length
theorem wcount_own {w : World} {B g n c : Nat} {V : Nat → Bool} (h : Own w B 4 1 (.slice (some ⟨g, 0, none⟩) n c) n (rowV n V)) : wcount w g n = falses n V := by
  unfold wcount falses
  congr 1
  apply List.filter_congr
  intro k hk
  rw [(h.cellAt (rowV_get V (List.mem_range.mp hk))).1]
def boolOf : Value → Bool
  | .bool b => b
  | _ => false
def ReRel (w : World) (g c : Nat) (st : List Nd) (bol eol : Bool) (VS : Nat → Bool) (v : Value) (wr : World) : Prop :=
  ∃ (ag : Bool) (V : Nat → Bool), v = .bool ag ∧ Hid (Own wr w.heap.size 4 1 (.slice (some ⟨g, 0, none⟩) st.length c) st.length (rowV st.length V)) ∧ Hid (Old w wr) ∧
    Hid (∀ s, VS s = true → V s = true) ∧ Hid (∀ s, V s = true → Clo (nfaG st) bol eol (fun s => VS s = true) s) ∧ Hid (ag = false → ∀ s, V s = true ↔ Clo (nfaG st) bol eol (fun s => VS s = true) s)
def RiRel (w : World) (g c : Nat) (st : List Nd) (bol eol : Bool) (VS V0 : Nat → Bool) (v v2 : Value) (wr : World) : Prop :=
  ∃ (ag : Bool) (i : Nat) (V : Nat → Bool), v = .bool ag ∧ v2 = .int .i64 i ∧ i ≤ st.length ∧ Hid (Own wr w.heap.size 4 1 (.slice (some ⟨g, 0, none⟩) st.length c) st.length (rowV st.length V)) ∧ Hid (Old w wr) ∧ Hid (Swp st bol eol VS V0 i ag V)
def ReachPost (w : World) (st : List Nd) (bol eol : Bool) (VS : Nat → Bool) (e : Ending) (w' : World) : Prop :=
  ∃ v V, e = .returned v ∧ Own w' w.heap.size 4 1 v st.length (rowV st.length V) ∧ (∀ s, V s = true ↔ Clo (nfaG st) bol eol (fun s => VS s = true) s) ∧ Old w w'
set_option maxHeartbeats 8000000 in
set_option maxRecDepth 100000 in
theorem reachC (A B : Option Addr) (c c2 : Nat) (st : List Nd) (VS : Nat → Bool) (bol eol : Bool) (w : World) (hs : Rs w A (ndsV st)) (hb : Rs w B (rowV st.length VS)) (hv : svalid st = true) :
    Calls Try.prog 43 #[.slice A st.length c, .slice B st.length c2, .bool bol, .bool eol] w (ReachPost w st bol eol VS) := by
  obtain ⟨hl1, hl2, hok⟩ := svalid_ok hv
  have HS := Lib.hid hs
  have HB := Lib.hid hb
  have HOK := Lib.hid hok
  clear hs hb hok hv
  go_enter Try.func43, Try.ntmps43
  go_wp2_with (at_builtin; refine wpList_pushAll rfl _ _ 68 rfl _ 4 (.bool false) 1 1 Try.underlying68 info_bo rfl (by decide) (by decide) _ _ _ (by rfl) (own_new w #[] 0 1 4 (by decide) rfl) _ _ _ _ (by rfl) (HB.out.alloc _) (by rw [rowV_length, Nat.mul_one]) (by simp [rowV, Value.oneCell']) ?pn1 (by simp) ?_)
  case pn1 => omega
  intro v1 w1 ho1 hg1 hd1
  have hb1 := hd1 w ((Old.refl w).alloc _) (Nat.le_refl _)
  have ho1' : Own w1 w.heap.size 4 1 v1 st.length (rowV st.length VS) := by simpa using ho1
  obtain ⟨g, c9, rfl, _, _, _, _⟩ := ho1'.form (by omega)
  have HX : Hid (ReRel w g c9 st bol eol VS (.bool true) w1) := Lib.hid ⟨true, VS, rfl, Lib.hid ho1', Lib.hid hb1, Lib.hid (fun _ h => h), Lib.hid (fun s h => .here s h), Lib.hid (fun h => by cases h)⟩
  clear ho1 ho1' hg1 hd1 hb1
  go_wp2_with fail
  go_loopw [10] (fun s10 wr => ReRel w g c9 st bol eol VS s10 wr) (fun s10 wr => 2 * wcount wr g st.length + (if boolOf s10 = true then 1 else 0))
  case atStart => exact HX.out
  case round =>
    clear HX
    obtain ⟨ag, V0, rfl, HOW, HD, HSU, HSN, HCL⟩ := hrel
    cases ag with
    | false =>
      have HR := Lib.hid (HCL.out rfl)
      go_wp2_with fail
      go_ret
      exact ⟨_, V0, rfl, HOW.out, HR.out, HD.out⟩
    | true =>
      have HM := Lib.hid (wcount_own HOW.out)
      have HX : Hid (RiRel w g c9 st bol eol VS V0 (.bool false) (.int .i64 0) wr) := Lib.hid ⟨false, 0, V0, rfl, rfl, Nat.zero_le _, HOW, HD, Lib.hid (Swp.start HSN.out)⟩
      go_wp2_with fail
      go_loopw [10, 11] (fun s10 s11 wr => RiRel w g c9 st bol eol VS V0 s10 s11 wr) (fun _ s11 _ => st.length - (intOf s11).toNat)
      case atStart => exact HX.out
      case round =>
        clear HX HOW HD HCL
        obtain ⟨ag, i, V, rfl, rfl, hi, HOW, HD, HP⟩ := hrel
        by_cases hlt : i < st.length
        · have i1 : (i : Int) < (st.length : Int) := by omega
          have i0 : (0 : Int) ≤ (i : Int) := by omega
          obtain ⟨b, off, rfl, _, hcl⟩ := (HS.out.up HD.out).at_ (by rw [ndsV_length]; omega)
          have hx : st[i]? = some (nd st i) := by unfold nd; rw [List.getD_eq_getElem?_getD, List.getElem?_eq_getElem hlt]; rfl
          have c0 := hcl _ _ (ndsV_get st i _ hx 0 (by omega))
          have c1 := hcl _ _ (ndsV_get st i _ hx 1 (by omega))
          have c2 := hcl _ _ (ndsV_get st i _ hx 2 (by omega))
          rw [← Nat.add_assoc] at c0 c1 c2
          rw [Nat.add_zero] at c0
          obtain ⟨o1, o2, o3, o4⟩ := HOK.out i hlt
          have HEP : Hid (∀ s', (nfaG st).eps bol eol i s' ↔ ((nd st i).kind = 2 ∧ (((s' : Int) = (nd st i).left) ∨ ((s' : Int) = (nd st i).right))) ∨ ((nd st i).kind = 3 ∧ bol = true ∧ (s' : Int) = (nd st i).left) ∨ ((nd st i).kind = 4 ∧ eol = true ∧ (s' : Int) = (nd st i).left)) := Lib.hid (fun s' => Iff.rfl)
          have HK2 : Hid (∀ w', Old w w' → w'.cell? ⟨b, off + i * 7 + 2, none⟩ = some (.int .i64 (nd st i).right)) := Lib.hid (fun w' h => by
            have := (HS.out.up h).cellAt (ndsV_get st i _ hx 2 (by omega))
            rwa [← Nat.add_assoc] at this)
          have HX2 := Lib.hid hlt
          clear hcl hx
          generalize nd st i = y at *
          obtain ⟨kd, lf, rt, se⟩ := y
          replace c0 : wr.cell? ⟨b, off + i * 7, none⟩ = some (.int .i64 kd) := c0
          replace c1 : wr.cell? ⟨b, off + i * 7 + 1, none⟩ = some (.int .i64 lf) := c1
          replace c2 : wr.cell? ⟨b, off + i * 7 + 2, none⟩ = some (.int .i64 rt) := c2
          simp only at o1 o2 o3 o4 HEP
          have hcV := fun k (hk : k < st.length) => HOW.out.cellAt (rowV_get V hk)
          have cV := (hcV i hlt).1
          cases hvi : V i with
          | false =>
            rw [hvi] at cV
            have HW : Hid (RiRel w g c9 st bol eol VS V0 (.bool ag) (.int .i64 ((i + 1 : Nat) : Int)) wr) := Lib.hid ⟨ag, i + 1, V, rfl, rfl, hlt, HOW, HD, Lib.hid (HP.out.skip hvi)⟩
            go_wp2_with fail
            go_roundw
            case rel => exact HW.out
            case measure => simp [intOf]; omega
          | true =>
            rw [hvi] at cV
            have hkc : kd = 1 ∨ kd = 2 ∨ kd = 3 ∨ kd = 4 ∨ kd = 5 := by omega
            rcases hkc with rfl | rfl | rfl | rfl | rfl
            · clear hcV
              have HW : Hid (RiRel w g c9 st _ _ VS V0 (.bool ag) (.int .i64 ((i + 1 : Nat) : Int)) wr) := Lib.hid ⟨ag, i + 1, V, rfl, rfl, hlt, HOW, HD, Lib.hid (HP.out.keep (fun s' he => by have := (HEP.out s').1 he; omega))⟩
              clear HEP HK2 HX2
              go_wp2_with fail
              go_roundw
              case rel => exact HW.out
              case measure => simp [intOf]; omega
            · obtain ⟨a, rfl⟩ := Int.eq_ofNat_of_zero_le (o3 (by decide)).1
              obtain ⟨e, rfl⟩ := Int.eq_ofNat_of_zero_le (o4 rfl).1
              have ha : a < st.length := by have := (o3 (by decide)).2; omega
              have he : e < st.length := by have := (o4 rfl).2; omega
              have l1 : (a : Int) < (st.length : Int) := by omega
              have l2 : (e : Int) < (st.length : Int) := by omega
              obtain ⟨cA, fA⟩ := hcV a ha
              obtain ⟨cE, fE⟩ := hcV e he
              clear hcV o3 o4
              cases hva : V a with
              | true =>
                rw [hva] at cA
                cases hve : V e with
                | true =>
                  rw [hve] at cE
                  have HW : Hid (RiRel w g c9 st _ _ VS V0 (.bool ag) (.int .i64 ((i + 1 : Nat) : Int)) wr) := Lib.hid ⟨ag, i + 1, V, rfl, rfl, hlt, HOW, HD, Lib.hid (HP.out.keep (fun s' he => by have := (HEP.out s').1 he; rcases this with ⟨_, h | h⟩ | ⟨h, _⟩ | ⟨h, _⟩; (rw [show s' = a by omega]; exact hva); (rw [show s' = e by omega]; exact hve); (cases h); (cases h)))⟩
                  clear HEP HK2 HX2
                  go_wp2_with fail
                  go_roundw
                  case rel => exact HW.out
                  case measure => simp [intOf]; omega
                | false =>
                  rw [hve] at cE
                  have hva' := hva
                  clear hva ha
                  rename V e = false => hva
                  have ha := he
                  have hset := HOW.out.set_ e (.bool true)
                  rw [rowV_set] at hset
                  have HO2 := Lib.hid (show Own (wr.setCell ⟨g, e, none⟩ (.bool true)) w.heap.size 4 1 (.slice (some ⟨g, 0, none⟩) st.length c9) st.length (rowV st.length (updV V e)) from hset.1)
                  have HD2 := Lib.hid (Own.grown_old HD.out HOW.out (Nat.le_refl _) hset.2)
                  have HP2 := Lib.hid (HP.out.put ((HEP.out e).2 (Or.inl ⟨rfl, Or.inr rfl⟩)) hvi hva ha)
                  clear hset HP HOW HD
                  have HW : Hid (RiRel w g c9 st _ _ VS V0 (.bool true) (.int .i64 ((i + 1 : Nat) : Int)) (wr.setCell ⟨g, e, none⟩ (.bool true))) := Lib.hid ⟨true, i + 1, _, rfl, rfl, hlt, HO2, HD2, Lib.hid HP2.out.next⟩
                  clear HP2 HO2 HD2 HEP HK2 HX2
                  go_wp2_with fail
                  go_roundw
                  case rel => exact HW.out
                  case measure => simp [intOf]; omega
              | false =>
                rw [hva] at cA
                have hset := HOW.out.set_ a (.bool true)
                rw [rowV_set] at hset
                have HO2 := Lib.hid (show Own (wr.setCell ⟨g, a, none⟩ (.bool true)) w.heap.size 4 1 (.slice (some ⟨g, 0, none⟩) st.length c9) st.length (rowV st.length (updV V a)) from hset.1)
                have HD2 := Lib.hid (Own.grown_old HD.out HOW.out (Nat.le_refl _) hset.2)
                have HP2 := Lib.hid (HP.out.put ((HEP.out a).2 (Or.inl ⟨rfl, Or.inl rfl⟩)) hvi hva ha)
                clear hset HP HOW HD
                have hvi2 : updV V a i = true := updV_sup V a i hvi
                have d2 := HK2.out _ HD2.out
                obtain ⟨dE, gE⟩ := HO2.out.cellAt (rowV_get (updV V a) he)
                have HVI := Lib.hid hvi2
                clear hvi2 hvi hva cE fE
                generalize hw2 : wr.setCell ⟨g, a, none⟩ (.bool true) = w2 at *
                generalize updV V a = V1 at *
                cases hve : V1 e with
                | true =>
                  rw [hve] at dE
                  have HW : Hid (RiRel w g c9 st bol eol VS V0 (.bool true) (.int .i64 ((i + 1 : Nat) : Int)) w2) := Lib.hid ⟨true, i + 1, _, rfl, rfl, hlt, HO2, HD2, Lib.hid HP2.out.next⟩
                  clear HP2 HO2 HD2 HEP HK2 HX2
                  go_wp2_with fail
                  go_roundw
                  case rel => exact HW.out
                  case measure => simp [intOf]; omega
                | false =>
                  rw [hve] at dE
                  have hset := HO2.out.set_ e (.bool true)
                  rw [rowV_set] at hset
                  have HW : Hid (RiRel w g c9 st bol eol VS V0 (.bool true) (.int .i64 ((i + 1 : Nat) : Int)) (w2.setCell ⟨g, e, none⟩ (.bool true))) := Lib.hid ⟨true, i + 1, updV V1 e, rfl, rfl, hlt, Lib.hid hset.1, Lib.hid (Own.grown_old HD2.out HO2.out (Nat.le_refl _) hset.2), Lib.hid (HP2.out.put ((HEP.out e).2 (Or.inl ⟨rfl, Or.inr rfl⟩)) HVI.out hve he).next⟩
                  clear HP2 HO2 HD2 HEP HK2 HX2 hset
                  go_wp2_with fail
                  go_roundw
                  case rel => exact HW.out
                  case measure => simp [intOf]; omega
            · obtain ⟨a, rfl⟩ := Int.eq_ofNat_of_zero_le (o3 (by decide)).1
              have ha : a < st.length := by have := (o3 (by decide)).2; omega
              have l1 : (a : Int) < (st.length : Int) := by omega
              obtain ⟨cA, fA⟩ := hcV a ha
              clear hcV o3 o4
              cases bol with
              | false =>
                have HW : Hid (RiRel w g c9 st _ _ VS V0 (.bool ag) (.int .i64 ((i + 1 : Nat) : Int)) wr) := Lib.hid ⟨ag, i + 1, V, rfl, rfl, hlt, HOW, HD, Lib.hid (HP.out.keep (fun s' he => by have := (HEP.out s').1 he; rcases this with ⟨h, _⟩ | ⟨_, h, _⟩ | ⟨h, _⟩; (cases h); (cases h); (cases h)))⟩
                clear HEP HK2 HX2
                go_wp2_with fail
                go_roundw
                case rel => exact HW.out
                case measure => simp [intOf]; omega
              | true =>
                cases hva : V a with
                | true =>
                  rw [hva] at cA
                  have HW : Hid (RiRel w g c9 st _ _ VS V0 (.bool ag) (.int .i64 ((i + 1 : Nat) : Int)) wr) := Lib.hid ⟨ag, i + 1, V, rfl, rfl, hlt, HOW, HD, Lib.hid (HP.out.keep (fun s' he => by have := (HEP.out s').1 he; rcases this with ⟨h, _⟩ | ⟨_, _, h⟩ | ⟨h, _⟩; (cases h); (rw [show s' = a by omega]; exact hva); (cases h)))⟩
                  clear HEP HK2 HX2
                  go_wp2_with fail
                  go_roundw
                  case rel => exact HW.out
                  case measure => simp [intOf]; omega
                | false =>
                  rw [hva] at cA
                  have hset := HOW.out.set_ a (.bool true)
                  rw [rowV_set] at hset
                  have HO2 := Lib.hid (show Own (wr.setCell ⟨g, a, none⟩ (.bool true)) w.heap.size 4 1 (.slice (some ⟨g, 0, none⟩) st.length c9) st.length (rowV st.length (updV V a)) from hset.1)
                  have HD2 := Lib.hid (Own.grown_old HD.out HOW.out (Nat.le_refl _) hset.2)
                  have HP2 := Lib.hid (HP.out.put ((HEP.out a).2 (Or.inr (Or.inl ⟨rfl, rfl, rfl⟩))) hvi hva ha)
                  clear hset HP HOW HD
                  have HW : Hid (RiRel w g c9 st _ _ VS V0 (.bool true) (.int .i64 ((i + 1 : Nat) : Int)) (wr.setCell ⟨g, a, none⟩ (.bool true))) := Lib.hid ⟨true, i + 1, _, rfl, rfl, hlt, HO2, HD2, Lib.hid HP2.out.next⟩
                  clear HP2 HO2 HD2 HEP HK2 HX2
                  go_wp2_with fail
                  go_roundw
                  case rel => exact HW.out
                  case measure => simp [intOf]; omega
            · obtain ⟨a, rfl⟩ := Int.eq_ofNat_of_zero_le (o3 (by decide)).1
              have ha : a < st.length := by have := (o3 (by decide)).2; omega
              have l1 : (a : Int) < (st.length : Int) := by omega
              obtain ⟨cA, fA⟩ := hcV a ha
              clear hcV o3 o4
              cases eol with
              | false =>
                have HW : Hid (RiRel w g c9 st _ _ VS V0 (.bool ag) (.int .i64 ((i + 1 : Nat) : Int)) wr) := Lib.hid ⟨ag, i + 1, V, rfl, rfl, hlt, HOW, HD, Lib.hid (HP.out.keep (fun s' he => by have := (HEP.out s').1 he; rcases this with ⟨h, _⟩ | ⟨h, _⟩ | ⟨_, h, _⟩; (cases h); (cases h); (cases h)))⟩
                clear HEP HK2 HX2
                go_wp2_with fail
                go_roundw
                case rel => exact HW.out
                case measure => simp [intOf]; omega
              | true =>
                cases hva : V a with
                | true =>
                  rw [hva] at cA
                  have HW : Hid (RiRel w g c9 st _ _ VS V0 (.bool ag) (.int .i64 ((i + 1 : Nat) : Int)) wr) := Lib.hid ⟨ag, i + 1, V, rfl, rfl, hlt, HOW, HD, Lib.hid (HP.out.keep (fun s' he => by have := (HEP.out s').1 he; rcases this with ⟨h, _⟩ | ⟨h, _⟩ | ⟨_, _, h⟩; (cases h); (cases h); (rw [show s' = a by omega]; exact hva)))⟩
                  clear HEP HK2 HX2
                  go_wp2_with fail
                  go_roundw
                  case rel => exact HW.out
                  case measure => simp [intOf]; omega
                | false =>
                  rw [hva] at cA
                  have hset := HOW.out.set_ a (.bool true)
                  rw [rowV_set] at hset
                  have HO2 := Lib.hid (show Own (wr.setCell ⟨g, a, none⟩ (.bool true)) w.heap.size 4 1 (.slice (some ⟨g, 0, none⟩) st.length c9) st.length (rowV st.length (updV V a)) from hset.1)
                  have HD2 := Lib.hid (Own.grown_old HD.out HOW.out (Nat.le_refl _) hset.2)
                  have HP2 := Lib.hid (HP.out.put ((HEP.out a).2 (Or.inr (Or.inr ⟨rfl, rfl, rfl⟩))) hvi hva ha)
                  clear hset HP HOW HD
                  have HW : Hid (RiRel w g c9 st _ _ VS V0 (.bool true) (.int .i64 ((i + 1 : Nat) : Int)) (wr.setCell ⟨g, a, none⟩ (.bool true))) := Lib.hid ⟨true, i + 1, _, rfl, rfl, hlt, HO2, HD2, Lib.hid HP2.out.next⟩
                  clear HP2 HO2 HD2 HEP HK2 HX2
                  go_wp2_with fail
                  go_roundw
                  case rel => exact HW.out
                  case measure => simp [intOf]; omega
            · clear hcV
              have HW : Hid (RiRel w g c9 st _ _ VS V0 (.bool ag) (.int .i64 ((i + 1 : Nat) : Int)) wr) := Lib.hid ⟨ag, i + 1, V, rfl, rfl, hlt, HOW, HD, Lib.hid (HP.out.keep (fun s' he => by have := (HEP.out s').1 he; omega))⟩
              clear HEP HK2 HX2
              go_wp2_with fail
              go_roundw
              case rel => exact HW.out
              case measure => simp [intOf]; omega
        · obtain rfl : i = st.length := by omega
          have hm := HM.out
          have HW : Hid (ReRel w g c9 st bol eol VS (.bool ag) wr) := Lib.hid ⟨ag, V, rfl, HOW, HD, Lib.hid (fun s h => HP.out.sup s (HSU.out s h)), Lib.hid HP.out.snd, Lib.hid (fun e s => by subst e; exact HP.out.closed HSU.out s)⟩
          have HMM : Hid (2 * wcount wr g st.length + (if boolOf (.bool ag) = true then 1 else 0) < 2 * falses st.length V0 + 1) := Lib.hid (by
            rw [wcount_own HOW.out]
            cases ag with
            | true => have := HP.out.cnt rfl; show 2 * _ + 1 < _; omega
            | false => rw [(HP.out.cls rfl).1]; show 2 * _ + 0 < _; omega)
          clear HP HOW HD HSU HSN
          go_wp2_with fail
          go_roundw
          case rel => exact HW.out
          case measure => have := HMM.out; rw [hm]; exact this
end Go.Proofs.Ythadkjgadhbidaa
