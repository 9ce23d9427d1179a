/-
  The walks of container/heap's Push, Pop, Fix, Remove, over the queue.
-/
import Derived.Test.YtlpaemlgmmmbmaaTqU
namespace Go.Proofs.Ytlpaemlgmmmbmaa
open Go.RowKit Go.Maps
set_option linter.unusedVariables false

set_option maxRecDepth 100000 in
theorem pushH (B g mb : Nat) (L : List Tm) (a id : Int) (w : World) (h : PQ w B g mb L) (hl : TL L) (hn : L.length < 256) (hp : tOk (a, id)) (hnew : id ∉ L.map (·.2)) :
    Calls Try.prog 60 #[qI g, .iface 109 (tmV (a, id))] w (QPost (.tuple #[]) w B g mb (pushM L (a, id))) := by
  have hP := Lib.hid (pushQ B g mb L a id w h hl hn hp hnew)
  have hl2 : TL (L ++ [(a, id)]) := by
    refine ⟨by simp; omega, ?_, ?_⟩
    · rw [List.map_append, List.nodup_append]
      refine ⟨hl.2.1, by simp, ?_⟩
      intro x hx y hy e
      simp at hy
      subst hy e
      exact hnew hx
    · intro p hpm
      rcases List.mem_append.1 hpm with hpm | hpm
      · exact hl.2.2 p hpm
      · simp at hpm; subst hpm; exact hp
  have hlen : (L ++ [(a, id)]).length = L.length + 1 := by simp
  have HL := Lib.hid hl2
  have hn1 : L.length + 1 ≤ 256 := by omega
  have hE : pushM L (a, id) = upL (L.length + 1) (L ++ [(a, id)]) L.length := rfl
  have HE := Lib.hid hE
  have Hlen := Lib.hid hlen
  clear hE hlen hl2 h hl hp hnew hn
  unfold qI at *
  go_enter Try.func60, Try.ntmps60
  go_wp2_with fail
  refine hP.out.mono ?_
  rintro e w2 ⟨rfl, hp2, hq2⟩
  have hLen := lenQ B g mb _ w2 hp2
  rw [Hlen.out] at hLen
  have HLen := Lib.hid hLen
  have HP2 := Lib.hid hp2
  have HQ2 := Lib.hid hq2
  clear hp2 hq2 hLen
  go_wp2_with fail
  refine HLen.out.mono ?_
  rintro e w3 ⟨rfl, rfl⟩
  have hUp := Lib.hid (upH B g mb _ L.length w2 HP2.out HL.out (by rw [Hlen.out]; omega))
  go_wp2_with fail
  refine hUp.out.mono ?_
  rintro e w3 ⟨rfl, hp3, hq3⟩
  have HF := Lib.hid (And.intro hp3 (HQ2.out.trans hq3))
  clear hp3 hq3
  go_wp2_with fail
  go_end0
  exact ⟨rfl, by rw [HE.out]; exact HF.out.1, HF.out.2⟩

set_option maxRecDepth 100000 in
theorem popH (B g mb : Nat) (L : List Tm) (w : World) (h : PQ w B g mb L) (hl : TL L) (h0 : 0 < L.length) (hh : Heap L L.length) :
    Calls Try.prog 62 #[qI g] w (QPost (.iface 109 (tmV (gt L 0))) w B g mb (popM L)) := by
  obtain ⟨n, hn⟩ : ∃ n, L.length = n + 1 := ⟨L.length - 1, by omega⟩
  obtain ⟨s1, s2, s3, s4⟩ := popM_spec L hh h0
  have hM : popM L = (downL (n + 1) (swapL L 0 n) 0 n).1.take n := by unfold popM; rw [hn, Nat.add_sub_cancel]
  rw [hn, Nat.add_sub_cancel] at s1
  have dp := downL_perm (n + 1) (swapL L 0 n) 0 n (by rw [swapL_length]; omega)
  have hT := take_snoc (downL (n + 1) (swapL L 0 n) 0 n).1 n (by rw [dp.length_eq, swapL_length]; omega)
  rw [s1, ← hM] at hT
  have hl2 : TL (swapL L 0 n) := hl.swap h0 (by omega)
  have hl3 : TL (downL (n + 1) (swapL L 0 n) 0 n).1 := hl2.perm dp
  have hLen := Lib.hid (lenQ B g mb L w h)
  have hSw := Lib.hid (swapQ B g mb L 0 n _ _ w h hl (getD_of h0) (getD_of (by omega)))
  have hn2 : n ≤ 256 := by have := hl.1; omega
  have Hn := Lib.hid hn
  have HT := Lib.hid hT
  have HL2 := Lib.hid hl2
  have HL3 := Lib.hid hl3
  clear hn hT hl2 hl3 dp hM s1 s2 s3 s4 h hl h0 hh
  generalize gt L 0 = p at *
  unfold qI
  go_enter Try.func62, Try.ntmps62
  go_wp2_with fail
  refine hLen.out.mono ?_
  rintro e w2 ⟨rfl, rfl⟩
  rw [Hn.out]
  go_wp2_with fail
  refine hSw.out.mono ?_
  rintro e w2 ⟨rfl, hp2, hq2⟩
  have hDn := Lib.hid (downH B g mb _ 0 n w2 hp2 HL2.out (by rw [swapL_length, Hn.out]; omega) (by omega))
  have HQ2 := Lib.hid hq2
  clear hp2 hq2
  go_wp2_with fail
  refine hDn.out.mono ?_
  rintro e w3 ⟨rfl, hp3, hq3⟩
  have hl3 := HL3.out
  rw [HT.out] at hp3 hl3
  have hPop := Lib.hid (popQ B g mb (popM L) p.1 p.2 w3 hp3 hl3)
  have HQ3 := Lib.hid (HQ2.out.trans hq3)
  clear hp3 hq3 hl3
  go_wp2_with fail
  refine hPop.out.mono ?_
  rintro e w4 ⟨rfl, hp4, hq4⟩
  have HF := Lib.hid (And.intro hp4 (HQ3.out.trans hq4))
  clear hp4 hq4
  go_wp2_with fail
  go_ret
  exact ⟨rfl, HF.out.1, HF.out.2⟩

set_option maxRecDepth 100000 in
theorem fixH (B g mb : Nat) (L : List Tm) (i : Nat) (w : World) (h : PQ w B g mb L) (hl : TL L) (hi : i < L.length) :
    Calls Try.prog 59 #[qI g, .int .i64 i] w (QPost (.tuple #[]) w B g mb (fixM L i L.length)) := by
  have hLen := Lib.hid (lenQ B g mb L w h)
  have hDn := Lib.hid (downH B g mb L i L.length w h hl (Nat.le_refl _) (by have := hl.1; omega))
  have dp := downL_perm (L.length + 1) L i L.length (Nat.le_refl _)
  have HL3 := Lib.hid (hl.perm dp)
  have hi3 : i < (downL (L.length + 1) L i L.length).1.length := by rw [dp.length_eq]; exact hi
  have Hi := Lib.hid hi3
  have HE : Hid (fixM L i L.length = if i < (downL (L.length + 1) L i L.length).2 then (downL (L.length + 1) L i L.length).1 else upL (i + 1) (downL (L.length + 1) L i L.length).1 i) := rfl
  clear dp hi3 h hl
  generalize downL (L.length + 1) L i L.length = r at *
  unfold qI
  by_cases hr : i < r.2
  · have hd : decide (i < r.2) = true := by simpa using hr
    have hE2 := HE.out
    rw [if_pos hr] at hE2
    have HE2 := Lib.hid hE2
    have HD := Lib.hid hd
    clear hE2 hd hr
    go_enter Try.func59, Try.ntmps59
    go_wp2_with fail
    refine hLen.out.mono ?_
    rintro e w2 ⟨rfl, rfl⟩
    go_wp2_with fail
    refine hDn.out.mono ?_
    rintro e w3 ⟨rfl, hp3, hq3⟩
    rw [HD.out]
    have HF := Lib.hid (And.intro hp3 hq3)
    clear hp3 hq3
    go_wp2_with fail
    go_end0
    exact ⟨rfl, by rw [HE2.out]; exact HF.out.1, HF.out.2⟩
  · have hd : decide (i < r.2) = false := by simpa using hr
    have hE2 := HE.out
    rw [if_neg hr] at hE2
    have HE2 := Lib.hid hE2
    have HD := Lib.hid hd
    clear hE2 hd hr
    go_enter Try.func59, Try.ntmps59
    go_wp2_with fail
    refine hLen.out.mono ?_
    rintro e w2 ⟨rfl, rfl⟩
    go_wp2_with fail
    refine hDn.out.mono ?_
    rintro e w3 ⟨rfl, hp3, hq3⟩
    rw [HD.out]
    have hUp := Lib.hid (upH B g mb r.1 i w3 hp3 HL3.out Hi.out)
    have HQ3 := Lib.hid hq3
    clear hp3 hq3
    go_wp2_with fail
    refine hUp.out.mono ?_
    rintro e w4 ⟨rfl, hp4, hq4⟩
    have HF := Lib.hid (And.intro hp4 (HQ3.out.trans hq4))
    clear hp4 hq4
    go_wp2_with fail
    go_end0
    exact ⟨rfl, by rw [HE2.out]; exact HF.out.1, HF.out.2⟩

set_option maxHeartbeats 1000000 in
set_option maxRecDepth 100000 in
theorem removeH (B g mb : Nat) (L : List Tm) (i : Nat) (w : World) (h : PQ w B g mb L) (hl : TL L) (hi : i < L.length) (hh : Heap L L.length) :
    Calls Try.prog 61 #[qI g, .int .i64 i] w (QPost (.iface 109 (tmV (gt L i))) w B g mb (removeM L i)) := by
  obtain ⟨n, hn⟩ : ∃ n, L.length = n + 1 := ⟨L.length - 1, by omega⟩
  obtain ⟨s1, s2, s3, s4, s5⟩ := removeM_spec L i hh hi
  have hM : removeM L i = (if n = i then L else fixM (swapL L i n) i n).take n := by unfold removeM; rw [hn, Nat.add_sub_cancel]
  rw [hn, Nat.add_sub_cancel] at s1 s5
  have hT := take_snoc _ n (by rw [s5.length_eq]; exact hn)
  rw [s1, ← hM] at hT
  have hl3 := hl.perm s5
  have hLen := Lib.hid (lenQ B g mb L w h)
  have hn2 : n ≤ 256 := by have := hl.1; omega
  have hin : i ≤ n := by omega
  have Hn := Lib.hid hn
  have Hi := Lib.hid hi
  generalize hp : gt L i = p at *
  clear s1 s2 s3 s4 s5 hM hp
  unfold qI
  by_cases hni : n = i
  · subst hni
    rw [if_pos rfl] at hT hl3
    have HT := Lib.hid hT
    have HLT := Lib.hid hl3
    have HP := Lib.hid h
    clear hT hl3 h hl hh hn hi
    go_enter Try.func61, Try.ntmps61
    go_wp2_with fail
    refine hLen.out.mono ?_
    rintro e w2 ⟨rfl, rfl⟩
    rw [Hn.out]
    have hp5 := HP.out
    have hq5 := QK.refl B w
    have hh := HT.out
    have hll := HLT.out
    rw [hh] at hp5 hll
    have hPop := Lib.hid (popQ B g mb (removeM L n) p.1 p.2 _ hp5 hll)
    have HQ5 := Lib.hid hq5
    clear hp5 hq5 hll hh
    go_wp2_with fail
    refine hPop.out.mono ?_
    rintro e w6 ⟨rfl, hp6, hq6⟩
    have HF := Lib.hid (And.intro hp6 (HQ5.out.trans hq6))
    clear hp6 hq6
    go_wp2_with fail
    go_ret
    exact ⟨rfl, HF.out.1, HF.out.2⟩
  · rw [if_neg hni] at hT hl3
    have hneq : ((n : Int) == (i : Int)) = false := by simp; omega
    have hneq2 : ((n : Int) != (i : Int)) = true := by simp; omega
    have hneq3 : ¬ (n : Int) = (i : Int) := by omega
    have hSw := Lib.hid (swapQ B g mb L i n _ _ w h hl (getD_of hi) (getD_of (by omega)))
    have HL2 := Lib.hid (hl.swap hi (show n < L.length by omega))
    have dp := downL_perm (n + 1) (swapL L i n) i n (by rw [swapL_length]; omega)
    have HL3 := Lib.hid (HL2.out.perm dp)
    have hi3 : i < (downL (n + 1) (swapL L i n) i n).1.length := by rw [dp.length_eq, swapL_length]; exact hi
    have Hi3 := Lib.hid hi3
    have HE : Hid (fixM (swapL L i n) i n = if i < (downL (n + 1) (swapL L i n) i n).2 then (downL (n + 1) (swapL L i n) i n).1 else upL (i + 1) (downL (n + 1) (swapL L i n) i n).1 i) := rfl
    have hDn : Hid (∀ w, PQ w B g mb (swapL L i n) → Calls Try.prog 66 #[qI g, .int .i64 i, .int .i64 n] w (DownPost w B g mb i (downL (n + 1) (swapL L i n) i n))) := fun w hw => downH B g mb _ i n w hw HL2.out (by rw [swapL_length]; omega) (by omega)
    clear dp hi3 h hl hni
    unfold qI at hDn
    generalize downL (n + 1) (swapL L i n) i n = r at *
    by_cases hr : i < r.2
    · have hd : decide (i < r.2) = true := by simpa using hr
      have hE2 := HE.out
      rw [if_pos hr] at hE2
      rw [hE2] at hT hl3
      have HT := Lib.hid hT
      have HLT := Lib.hid hl3
      have HD := Lib.hid hd
      clear hE2 hd hr hT hl3 hh hn hi HE HL2 HL3
      go_enter Try.func61, Try.ntmps61
      go_wp2_with fail
      refine hLen.out.mono ?_
      rintro e w2 ⟨rfl, rfl⟩
      rw [Hn.out]
      go_wp2_with fail
      refine hSw.out.mono ?_
      rintro e w2 ⟨rfl, hp2, hq2⟩
      have hDn2 := Lib.hid (hDn.out w2 hp2)
      have HQ2 := Lib.hid hq2
      clear hp2 hq2
      go_wp2_with fail
      refine hDn2.out.mono ?_
      rintro e w3 ⟨rfl, hp5, hq3⟩
      rw [HD.out]
      have hq5 := HQ2.out.trans hq3
      clear hq3
      have hh := HT.out
      have hll := HLT.out
      rw [hh] at hp5 hll
      have hPop := Lib.hid (popQ B g mb (removeM L i) p.1 p.2 _ hp5 hll)
      have HQ5 := Lib.hid hq5
      clear hp5 hq5 hll hh
      go_wp2_with fail
      refine hPop.out.mono ?_
      rintro e w6 ⟨rfl, hp6, hq6⟩
      have HF := Lib.hid (And.intro hp6 (HQ5.out.trans hq6))
      clear hp6 hq6
      go_wp2_with fail
      go_ret
      exact ⟨rfl, HF.out.1, HF.out.2⟩
    · have hd : decide (i < r.2) = false := by simpa using hr
      have hE2 := HE.out
      rw [if_neg hr] at hE2
      rw [hE2] at hT hl3
      have HT := Lib.hid hT
      have HLT := Lib.hid hl3
      have HD := Lib.hid hd
      clear hE2 hd hr hT hl3 hh hn hi HE HL2
      go_enter Try.func61, Try.ntmps61
      go_wp2_with fail
      refine hLen.out.mono ?_
      rintro e w2 ⟨rfl, rfl⟩
      rw [Hn.out]
      go_wp2_with fail
      refine hSw.out.mono ?_
      rintro e w2 ⟨rfl, hp2, hq2⟩
      have hDn2 := Lib.hid (hDn.out w2 hp2)
      have HQ2 := Lib.hid hq2
      clear hp2 hq2
      go_wp2_with fail
      refine hDn2.out.mono ?_
      rintro e w3 ⟨rfl, hp3, hq3⟩
      rw [HD.out]
      have hUp := Lib.hid (upH B g mb r.1 i w3 hp3 HL3.out Hi3.out)
      have HQ3 := Lib.hid (HQ2.out.trans hq3)
      clear hp3 hq3
      go_wp2_with fail
      refine hUp.out.mono ?_
      rintro e w4 ⟨rfl, hp5, hq4⟩
      have hq5 := HQ3.out.trans hq4
      clear hq4
      have hh := HT.out
      have hll := HLT.out
      rw [hh] at hp5 hll
      have hPop := Lib.hid (popQ B g mb (removeM L i) p.1 p.2 _ hp5 hll)
      have HQ5 := Lib.hid hq5
      clear hp5 hq5 hll hh
      go_wp2_with fail
      refine hPop.out.mono ?_
      rintro e w6 ⟨rfl, hp6, hq6⟩
      have HF := Lib.hid (And.intro hp6 (HQ5.out.trans hq6))
      clear hp6 hq6
      go_wp2_with fail
      go_ret
      exact ⟨rfl, HF.out.1, HF.out.2⟩
end Go.Proofs.Ytlpaemlgmmmbmaa
