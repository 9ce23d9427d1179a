/-
  The walks of package burst and of its reference.
-/
import Derived.Test.YtpknglclcdgfbaaTicksW
import Derived.Test.YtpknglclcdgfbaaBurstP
import Derived.Test.YtpknglclcdgfbaaWords
import Derived.WalkSpells
namespace Go.Proofs.Ytpknglclcdgfbaa
open Go.RowKit Go.Shelf
set_option linter.unusedVariables false

theorem info_u64 : (Try.prog.info? 30).map (fun i => (i.zero, i.size, i.bytes)) = some (some (.int .u64 0), 1, 8) := by kernel_rfl
theorem info_bool : (Try.prog.info? 4).map (fun i => (i.zero, i.size, i.bytes)) = some (some (.bool false), 1, 1) := by kernel_rfl
def u64s (l : List Int) : List Value := l.map (Value.int .u64)
theorem u64s_length (l : List Int) : (u64s l).length = l.length := by simp [u64s]
theorem u64s_get (l : List Int) (i : Nat) (h : i < l.length) : (u64s l)[i]? = some (.int .u64 (l.getD i 0)) := by
  simp [u64s, List.getElem?_map, List.getElem?_eq_getElem h, List.getD_eq_getElem?_getD]
theorem u64s_one (l : List Int) : (u64s l).all Value.oneCell' = true := by simp [u64s, Value.oneCell']

theorem cloneU (A : Option Addr) (c : Nat) (l : List Int) (w : World) (hr : Rs w A (u64s l)) (hl : l.length ≤ 68719476736) :
    Calls Try.prog 69 #[.slice A l.length c] w (Made w 30 1 l.length (u64s l)) := by
  have hq := fun W a n c => Lib.run_eql_slice_nil (P := Try.prog) W 46 30 a n c 0 0 Try.underlying46
  cases A with
  | none =>
    have h0 := hr.nil_iff
    have h1 : l = [] := by simpa [u64s] using h0
    subst h1
    go_enter Try.func69, Try.ntmps69
    go_wp2_with fail
    go_ret
    exact ⟨_, rfl, Own.nil_ _ _ _ _, Old.refl _⟩
  | some ad =>
    go_enter Try.func69, Try.ntmps69
    have hown : Own (w.alloc (.cells #[] 30)) w.heap.size 30 1 (.slice (some ⟨w.heap.size, 0, none⟩) 0 0) 0 [] := own_new w #[] 0 1 _ (by decide) rfl
    go_wp2_with (at_builtin; refine wpList_pushAll rfl _ _ 46 rfl _ 30 (.int .u64 0) 1 8 Try.underlying46 info_u64 rfl (by decide) (by decide) _ _ _ (by rfl) hown _ _ _ _ (by rfl) (hr.alloc _) (by rw [u64s_length, Nat.mul_one]) (u64s_one _) ?pn1 (by simp) ?_)
    case pn1 => omega
    intro v' w' ho hg hd
    go_wp2_with fail
    go_ret
    refine ⟨_, rfl, ?_, hd w ((Old.refl w).alloc _) (Nat.le_refl _)⟩
    simpa using ho

/-- The closure of Trim: captured are the cells of now and window. -/
def cap2 (b1 b2 : Nat) : Array Value := #[.pointer (some ⟨b1, 0, none⟩), .pointer (some ⟨b2, 0, none⟩)]
theorem trim1 (b1 b2 : Nat) (now win t : Int) (w : World) (hn : Tk.U now) (hw : Tk.U win) (ht : Tk.U t) (h1 : w.cell? ⟨b1, 0, none⟩ = some (.int .u64 now)) (h2 : w.cell? ⟨b2, 0, none⟩ = some (.int .u64 win)) :
    Calls Try.prog 86 #[.int .u64 t, .pointer (some ⟨b1, 0, none⟩), .pointer (some ⟨b2, 0, none⟩)] w fun e w' => e = .returned (.bool (decide (win ≤ Tk.sub now t))) ∧ ∃ k, w' = w.drewN k := by
  have hs := fun n => tSub now t hn ht (w.drewN n)
  have HS := Lib.hid hs
  clear hs
  go_enter Try.func86, Try.ntmps86
  go_wp2_with fail
  go_quiet ((go_at_call 54; exact quiet_same (HS.out _)))
  go_wp2_with fail
  go_ret
  exact ⟨rfl, _, rfl⟩

def IdxPost (p : Int → Bool) (l : List Int) (w : World) (e : Ending) (w' : World) : Prop :=
  ((e = .returned (.int .i64 (-1)) ∧ ∀ j, j < l.length → p (l.getD j 0) = false) ∨
    ∃ k, k < l.length ∧ e = .returned (.int .i64 k) ∧ p (l.getD k 0) = true ∧ ∀ j, j < k → p (l.getD j 0) = false) ∧ ∃ n, w' = w.drewN n
theorem indexU (b1 b2 : Nat) (now win : Int) (A : Option Addr) (c : Nat) (l : List Int) (w : World) (hn : Tk.U now) (hw : Tk.U win) (hl : ∀ t ∈ l, Tk.U t) (hm : l.length ≤ 68719476736)
    (h1 : w.cell? ⟨b1, 0, none⟩ = some (.int .u64 now)) (h2 : w.cell? ⟨b2, 0, none⟩ = some (.int .u64 win)) (hr : Rs w A (u64s l)) :
    Calls Try.prog 89 #[.slice A l.length c, .func (.func 86) #[] #[.pointer (some ⟨b1, 0, none⟩), .pointer (some ⟨b2, 0, none⟩)]] w
      (IdxPost (fun t => decide (win ≤ Tk.sub now t)) l w) := by
  have HL := Lib.hid hl
  clear hl
  go_enter Try.func89, Try.ntmps89
  go_wp2_with fail
  go_loopw [8] (fun i wr => ∃ k m : Nat, k ≤ l.length ∧ i = .int .i64 k ∧ wr = w.drewN m ∧ Hid (∀ j, j < k → decide (win ≤ Tk.sub now (l.getD j 0)) = false)) (fun i _ => l.length - (intOf i).toNat)
  case atStart => exact ⟨0, 0, Nat.zero_le _, rfl, rfl, fun j hj => by omega⟩
  case round =>
    obtain ⟨k, m, hk, rfl, rfl, HP⟩ := hrel
    by_cases hlt : k < l.length
    · obtain ⟨b, off, rfl, _, hc⟩ := hr.at_ (by rw [u64s_length]; omega)
      have c1 := hc _ _ (u64s_get l k hlt)
      have hU := HL.out (l.getD k 0) (by rw [List.getD_eq_getElem?_getD, List.getElem?_eq_getElem hlt]; exact List.getElem_mem hlt)
      have hg : l.getD k 0 = l.getD k 0 := rfl
      generalize hx : l.getD k 0 = x at c1 hU hg
      have HX := Lib.hid hx
      clear hc hx hg
      have hT := trim1 b1 b2 now win x (w.drewN m) hn hw hU h1 h2
      by_cases hp : win ≤ Tk.sub now x
      · have hd : decide (win ≤ Tk.sub now x) = true := by simpa using hp
        rw [hd] at hT
        have HT := Lib.hid hT
        have HD := Lib.hid hd
        clear hT hd hp
        go_wp2_with fail
        refine (HT.out).mono ?_; rintro e w' ⟨rfl, n, rfl⟩
        go_wp2_with fail
        go_ret
        exact ⟨Or.inr ⟨k, hlt, rfl, by simp only [HX.out]; exact HD.out, HP.out⟩, _, rfl⟩
      · have hd : decide (win ≤ Tk.sub now x) = false := by simpa using hp
        rw [hd] at hT
        have HT := Lib.hid hT
        have HD := Lib.hid hd
        clear hT hd hp
        go_wp2_with fail
        refine (HT.out).mono ?_; rintro e w' ⟨rfl, n, rfl⟩
        go_wp2_with fail
        go_roundw
        case rel =>
          refine ⟨k + 1, m + n, by omega, by go_num, rfl, ?_⟩
          intro j hj
          by_cases hjk : j < k
          · exact HP.out j hjk
          · obtain rfl : j = k := by omega
            rw [HX.out]; exact HD.out
        case measure => simp [intOf]; omega
    · obtain rfl : k = l.length := by omega
      go_wp2_with fail
      go_ret
      exact ⟨Or.inl ⟨rfl, HP.out⟩, _, rfl⟩

set_option maxHeartbeats 1000000 in
theorem deleteU (b1 b2 : Nat) (now win : Int) (v : Value) (l : List Int) (w : World) (hn : Tk.U now) (hw : Tk.U win) (hl : ∀ t ∈ l, Tk.U t) (hm : l.length ≤ 68719476736)
    (B : Nat) (h1 : w.cell? ⟨b1, 0, none⟩ = some (.int .u64 now)) (h2 : w.cell? ⟨b2, 0, none⟩ = some (.int .u64 win)) (hB1 : b1 < B) (hB2 : b2 < B)
    (hown : Own w B 30 1 v l.length (u64s l)) :
    Calls Try.prog 85 #[v, .func (.func 86) #[] #[.pointer (some ⟨b1, 0, none⟩), .pointer (some ⟨b2, 0, none⟩)]] w fun e w' =>
      ∃ v, e = .returned v ∧ Own w' B 30 1 v (Bu.trim l now win).length (u64s (Bu.trim l now win)) ∧ Below B w w' := by
  obtain ⟨A, c, rfl, hr, hnc, hcm⟩ := hown.shape
  have hI := indexU b1 b2 now win _ c l w hn hw hl hm h1 h2 hr.rs
  have HI := Lib.hid hI
  have HL := Lib.hid hl
  clear hI hl hr
  go_enter Try.func85, Try.ntmps85
  go_wp2_with fail
  refine (HI.out).mono ?_; rintro e w' ⟨⟨rfl, hall⟩ | ⟨k, hk, rfl, hp, hall⟩, n, rfl⟩
  · go_wp2_with fail
    go_ret
    have he : Bu.trim l now win = l := Bu.filter_all fun j hj => by
      have := hall j hj
      simp only [decide_eq_false_iff_not, decide_eq_true_eq] at this ⊢; omega
    exact ⟨_, rfl, by rw [he]; exact hown, below_drewN (Below.refl _ _) n⟩
  · have hq1 : decide (Tk.sub now (l.getD k 0) < win) = false := by simp only [decide_eq_true_eq, decide_eq_false_iff_not] at hp ⊢; omega
    have hq2 : ∀ j, j < k → decide (Tk.sub now (l.getD j 0) < win) = true := fun j hj => by
      have := hall j hj
      simp only [decide_eq_true_eq, decide_eq_false_iff_not] at this ⊢; omega
    have hs1 := Bu.now_start (q := fun t => decide (Tk.sub now t < win)) hk hq1 hq2
    have hs2 := congrArg List.length (Bu.keepTo_start (q := fun t => decide (Tk.sub now t < win)) hk hq1 hq2)
    rw [List.length_take, Nat.min_eq_left (by omega)] at hs2
    have HQ : ∀ t, (decide (Tk.sub now t < win)) = !(decide (win ≤ Tk.sub now t)) := fun t => by
      by_cases h : Tk.sub now t < win
      · simp [h]
      · simp [h]; omega
    have HS1 := Lib.hid hs1
    have HS2 := Lib.hid hs2
    have HQ := Lib.hid HQ
    have hkb : ((k : Int) == -1) = false := by simp
    have HQ1 := Lib.hid hq1
    clear hp hall hq1 hq2 hs1 hs2
    obtain ⟨q, hq⟩ : ∃ q : Int → Bool, q = fun t => decide (Tk.sub now t < win) := ⟨_, rfl⟩
    rw [← hq] at HS1 HS2
    have hlt0 := Bu.keepTo_lt (q := q) (l := l) (k := k) (j := l.length) hk (Nat.le_refl _) (by rw [hq]; exact HQ1.out)
    have HQQ := Lib.hid hq
    clear hq HQ1
    obtain ⟨g, c', hgc, hgB, _, _, _⟩ := hown.form (by omega)
    simp only [Value.slice.injEq, true_and] at hgc
    obtain ⟨rfl, rfl⟩ := hgc
    go_wp2_with fail
    go_loopw [5, 6] (fun i j wr => ∃ m : Nat, k + 1 ≤ m ∧ m ≤ l.length ∧ j = .int .i64 m ∧ i = .int .i64 (Bu.keepTo q l m).length ∧ Own wr B 30 1 (.slice (some ⟨g, 0, none⟩) l.length c) l.length (u64s (Bu.now_ q l m)) ∧ Below B w wr) (fun _ j _ => l.length - (intOf j).toNat)
    case atStart => exact ⟨k + 1, by omega, by omega, by go_num, by rw [HS2.out], by rw [HS1.out]; exact hown, below_drewN (Below.refl _ _) n⟩
    case round =>
      obtain ⟨m, hkm, hml, rfl, rfl, hown1, hb⟩ := hrel
      have hle := Bu.keepTo_le q l m
      have hle' := Bu.keepTo_le' q l m
      have hnl := Bu.now_length q l m
      have h1' : wr.cell? ⟨b1, 0, none⟩ = some (.int .u64 now) := (hb.cell (p := ⟨b1, 0, none⟩) hB1).trans h1
      have h2' : wr.cell? ⟨b2, 0, none⟩ = some (.int .u64 win) := (hb.cell (p := ⟨b2, 0, none⟩) hB2).trans h2
      by_cases hlt : m < l.length
      · have hx := Bu.now_get q l m hlt
        have hget := u64s_get (Bu.now_ q l m) m (by omega)
        rw [hx] at hget
        have c1 := (hown1.cellAt hget).1
        obtain ⟨c2, c3⟩ := hown1.cellAt (u64s_get (Bu.now_ q l m) (Bu.keepTo q l m).length (by omega))
        have hU := HL.out (l.getD m 0) (by rw [List.getD_eq_getElem?_getD, List.getElem?_eq_getElem hlt]; exact List.getElem_mem hlt)
        have hset := fun x => hown1.set_ (Bu.keepTo q l m).length (.int .u64 x)
        have HSET := Lib.hid hset
        have hyes := Bu.now_yes (q := q) hlt
        have hno := Bu.now_no (q := q) hlt
        have kyes := Bu.keepTo_yes (q := q) hlt
        have kno := Bu.keepTo_no (q := q) hlt
        have HY := Lib.hid hyes
        have HN := Lib.hid hno
        have KY := Lib.hid kyes
        have KN := Lib.hid kno
        have HNL := Lib.hid hnl
        have hq1 : q (l.getD m 0) = !(decide (win ≤ Tk.sub now (l.getD m 0))) := by rw [HQQ.out]; exact HQ.out _
        have HQ1 := Lib.hid hq1
        clear hx hget hset hyes hno kyes kno hq1 hnl
        generalize (Bu.now_ q l m).getD (Bu.keepTo q l m).length 0 = y at *
        generalize l.getD m 0 = x at *
        have hT := trim1 b1 b2 now win x wr hn hw hU h1' h2'
        by_cases hp : win ≤ Tk.sub now x
        · have hd : decide (win ≤ Tk.sub now x) = true := by simpa using hp
          rw [hd] at hT HQ1
          have HT := Lib.hid hT
          clear hT hd hp
          go_wp2_with fail
          refine (HT.out).mono ?_; rintro e w' ⟨rfl, n', rfl⟩
          go_wp2_with fail
          go_roundw
          case rel => exact ⟨m + 1, by omega, by omega, by go_num, by rw [KN.out HQ1.out], by rw [← HN.out HQ1.out]; exact hown1, below_drewN hb n'⟩
          case measure => simp [intOf]; omega
        · have hd : decide (win ≤ Tk.sub now x) = false := by simpa using hp
          rw [hd] at hT HQ1
          have HT := Lib.hid hT
          clear hT hd hp
          go_wp2_with fail
          refine (HT.out).mono ?_; rintro e w' ⟨rfl, n', rfl⟩
          go_wp2_with fail
          go_roundw
          case rel =>
            refine ⟨m + 1, by omega, by omega, by go_num, by rw [KY.out HQ1.out]; simp, ?_, ?_⟩
            · have h := (HSET.out x).1
              rw [← HY.out HQ1.out]
              unfold u64s at h ⊢
              rw [List.map_set]
              exact h
            · exact (below_drewN hb n').setCell hgB _
          case measure => simp [intOf]; omega
      · obtain rfl : m = l.length := by omega
        have hres : Bu.keepTo q l l.length = Bu.trim l now win := by rw [Bu.keepTo_all, HQQ.out]; rfl
        have hcl : ∀ ty, (Builtin.clear_ #[46] ty #[.slice (some ⟨g, 0 + (Bu.keepTo q l l.length).length, none⟩) (l.length - (Bu.keepTo q l l.length).length) (c - (Bu.keepTo q l l.length).length)]).run Try.prog wr = .ok (.tuple #[]) _ :=
          fun ty => Lib.run_clear_slice wr _ _ ty _ Try.underlying46 Try.zeroValue30 rfl rfl g _ _ _ (by omega)
            (fun t ht => by rw [Nat.zero_add, (hown1.cellAt (u64s_get _ _ (by omega))).1]; rfl) (fun t ht => by rw [Nat.zero_add]; exact (hown1.cellAt (u64s_get _ _ (by omega))).2)
        rw [Nat.zero_add] at hcl
        obtain ⟨ys, hys, hgy, hty⟩ := hown1.setCells (List.replicate (l.length - (Bu.keepTo q l l.length).length) (.int .u64 0)) (Bu.keepTo q l l.length).length wr
        have hb2 := hb.grown hgy (by have := (hown1.form (by omega)).choose_spec; have := hb.size; omega) (by intro k hk; injection hk with hk; omega)
        have hys2 := hys.shrink (i := (Bu.keepTo q l l.length).length) (by omega)
        rw [Nat.mul_one, hty] at hys2
        have hxx : (u64s (Bu.now_ q l l.length)).take (Bu.keepTo q l l.length).length = u64s (Bu.keepTo q l l.length) := by
          unfold u64s; rw [← List.map_take, Bu.now_take]
        rw [hxx, hres] at hys2
        rw [hres] at hcl hb2 hlt0
        have HYS := Lib.hid hys2
        have HCL := hcl
        rw [hres]
        have hne : ¬ c = (Bu.trim l now win).length := by omega
        clear hys2 hxx hty hys hgy hown1 hcl hle hle' hnl
        generalize hR : Bu.trim l now win = R at *
        have HR := Lib.hid hR
        clear hR
        go_wp2_with fail
        go_ret
        exact ⟨_, rfl, by rw [HR.out]; exact HYS.out, hb2⟩

theorem bTrim (A : Option Addr) (c : Nat) (l : List Int) (now win : Int) (w : World) (hr : Rs w A (u64s l)) (hm : l.length ≤ 68719476736) (hl : ∀ t ∈ l, Tk.U t) (hn : Tk.U now) (hw : Tk.U win) :
    Calls Try.prog 80 #[.slice A l.length c, .int .u64 now, .int .u64 win] w (Made w 30 1 (Bu.trim l now win).length (u64s (Bu.trim l now win))) := by
  have HL := Lib.hid hl
  clear hl
  go_enter Try.func80, Try.ntmps80
  go_wp2_with fail
  refine (cloneU A c l _ ((hr.alloc _).alloc _) hm).mono ?_; rintro e w1 ⟨v, rfl, hown, hb⟩
  have k1 : w1.cell? ⟨w.heap.size, 0, none⟩ = some (.int .u64 now) := hb.cell (by simp)
  have k2 : w1.cell? ⟨w.heap.size + 1, 0, none⟩ = some (.int .u64 win) := hb.cell (by simp)
  have hsz : (((w.alloc (.cells #[.int .u64 now] 30)).alloc (.cells #[.int .u64 win] 30)).heap.size) = w.heap.size + 2 := by simp
  rw [hsz] at hown
  have hold : Old w w1 := (((Old.refl w).alloc _).alloc _).up hb
  clear hsz hb
  go_wp2_with fail
  refine (deleteU w.heap.size (w.heap.size + 1) now win v l w1 hn hw HL.out hm (w.heap.size + 2) k1 k2 (by omega) (by omega) hown).mono ?_; rintro e w2 ⟨v', rfl, hown', hb'⟩
  go_wp2_with fail
  go_ret
  exact ⟨_, rfl, hown'.base (by omega), Below.trans hold (hb'.mono (by omega))⟩
end Go.Proofs.Ytpknglclcdgfbaa
