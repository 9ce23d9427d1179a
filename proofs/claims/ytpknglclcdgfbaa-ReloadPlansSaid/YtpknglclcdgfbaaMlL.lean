/-
  The walks of mill.Name and mill.Loose.
-/
import Derived.Test.YtpknglclcdgfbaaMlJ
import Derived.Test.YtpknglclcdgfbaaStep
namespace Go.Proofs.Ytpknglclcdgfbaa
open Go.RowKit Go.Shelf
set_option linter.unusedVariables false

def tab5 : List ByteArray := [⟨#[97]⟩, ⟨#[98]⟩, ⟨#[99]⟩, ⟨#[100]⟩, ⟨#[120]⟩]
def nmOf (x : Int) : ByteArray := tab5.getD x.toNat ⟨#[]⟩
theorem strsV_one (l : List ByteArray) : (strsV l).all Value.oneCell' = true := by simp [strsV, Value.oneCell']
theorem rungs_one (l : List (Int × Int)) : (rungs l).all Value.oneCell' = true := by
  unfold rungs
  rw [List.all_flatMap]
  simp [Value.oneCell']
def NamePost (w : World) (B g : Nat) (r : Int × List Int) (e : Ending) (w' : World) : Prop := e = .returned (.string (nmOf r.1)) ∧ Dk w' B g r.2 ∧ w.grownBy w' (some g)
theorem tab5_at {w : World} {k : Nat} {x : Int} (h : w.heap[k]? = some (.cells #[.string ⟨#[97]⟩, .string ⟨#[98]⟩, .string ⟨#[99]⟩, .string ⟨#[100]⟩, .string ⟨#[120]⟩] 9 (0, 0))) (h0 : 0 ≤ x) (h1 : x < 5) : w.cell? ⟨k, x.toNat, none⟩ = some (.string (nmOf x)) := by
  rw [cell_of_row w k _ _ _ _ h]
  have : x = 0 ∨ x = 1 ∨ x = 2 ∨ x = 3 ∨ x = 4 := by omega
  rcases this with rfl | rfl | rfl | rfl | rfl <;> rfl
set_option maxHeartbeats 2000000 in
theorem nameC (B g : Nat) (dl : List Int) (w : World) (hd : Dk w B g dl) : Calls Try.prog 39 #[.pointer (some ⟨g, 0, none⟩)] w (NamePost w B g (nx dl 5)) := by
  have ho := (Old.refl w).alloc (.cells #[.string ⟨#[97]⟩, .string ⟨#[98]⟩, .string ⟨#[99]⟩, .string ⟨#[100]⟩, .string ⟨#[120]⟩] 9)
  have hb := heap_alloc_new w (.cells #[.string ⟨#[97]⟩, .string ⟨#[98]⟩, .string ⟨#[99]⟩, .string ⟨#[100]⟩, .string ⟨#[120]⟩] 9)
  have hgl := hd.lt
  have hn := nextDeck B g dl 5 _ (hd.up ho) (by decide) (by decide)
  have hx := nx_bd dl (show (1 : Int) ≤ 5 by decide)
  unfold NextPost at hn
  have HPO : Hid (∀ w', Dk w' B g (nx dl 5).2 → w.grownBy w' (some g) → NamePost w B g (nx dl 5) (.returned (.string (nmOf (nx dl 5).1))) w') := Lib.hid (fun w' a b => ⟨rfl, a, b⟩)
  have HRT : Hid (∀ w', (w.alloc (.cells #[.string ⟨#[97]⟩, .string ⟨#[98]⟩, .string ⟨#[99]⟩, .string ⟨#[100]⟩, .string ⟨#[120]⟩] 9)).grownBy w' (some g) → w'.cell? ⟨w.heap.size, (nx dl 5).1.toNat, none⟩ = some (.string (nmOf (nx dl 5).1))) := Lib.hid (fun w' hg => tab5_at (row_turnJ (hd.up ho) hg hb (by decide)) hx.1 hx.2)
  have HN := Lib.hid hn
  have HO := Lib.hid ho
  clear hn hb ho hd
  generalize nx dl 5 = r at *
  go_enter Try.func39, Try.ntmps39
  go_wp2_with fail
  refine (HN.out).mono ?_; rintro e w2 ⟨rfl, hd, hg⟩
  have hc := HRT.out w2 hg
  have HX := Lib.hid (HPO.out w2 hd (old_grown_ HO.out hg))
  clear hd hg HRT HN HO
  have h5 : r.1 < 5 := hx.2
  go_wp2_with fail
  go_ret
  exact HX.out

/-! ### jobs that may be changed -/
def JdL (b : Nat) (j : Jd) : Prop := j.env.length ≤ b ∧ j.needs.length ≤ b ∧ j.lad.length ≤ b
theorem JdL.mono {b b' : Nat} {j : Jd} (h : JdL b j) (hb : b ≤ b') : JdL b' j := ⟨Nat.le_trans h.1 hb, Nat.le_trans h.2.1 hb, Nat.le_trans h.2.2 hb⟩
structure LSt (w0 wr : World) (B g gb n c : Nat) (js : List Jd) (b : Nat) : Prop where
  own : Own wr w0.heap.size 33 15 (.slice (some ⟨gb, 0, none⟩) n c) n (jdsV js)
  len : js.length = n
  mem : ∀ j ∈ js, JdMem B wr j
  bd : ∀ j ∈ js, JdL b j
  dk : ∃ dl, Dk wr B g dl
  gr : w0.grownBy wr (some g)
  gl : g < w0.heap.size
theorem jdsV_set : ∀ (l : List Jd) (i f : Nat) (u : Value) (j' : Jd), i < l.length → f < 15 → (jdCells (l.getD i jd0)).set f u = jdCells j' → (jdsV l).set (i * 15 + f) u = jdsV (l.set i j') := by
  intro l
  induction l with
  | nil => intro i f u j' h; simp at h
  | cons a l ih =>
    intro i f u j' h hf hv
    unfold jdsV at *
    cases i with
    | zero =>
      have hv' : (jdCells a).set f u = jdCells j' := hv
      rw [List.flatMap_cons, Nat.zero_mul, Nat.zero_add, List.set_append_left _ _ (by rw [jdCells_length]; exact hf), hv', List.set_cons_zero, List.flatMap_cons]
    | succ i =>
      rw [List.flatMap_cons, List.set_append_right _ _ (by rw [jdCells_length]; omega), jdCells_length, show (i + 1) * 15 + f - 15 = i * 15 + f by omega, List.set_cons_succ, List.flatMap_cons]
      rw [ih i f u j' (by simpa using h) hf hv]
section
variable {w0 wr w' : World} {B g gb n c b i f : Nat} {js : List Jd} {dl : List Int}
theorem LSt.up (h : LSt w0 wr B g gb n c js b) (ho : Old wr w') : LSt w0 w' B g gb n c js b :=
  ⟨h.own.up ho, h.len, fun j hj => (h.mem j hj).up ho, h.bd, (by obtain ⟨dl, k⟩ := h.dk; exact ⟨dl, k.up ho⟩), grown_far h.gr (old_grown ho) (fun q e => by cases e), h.gl⟩
theorem LSt.turn (h : LSt w0 wr B g gb n c js b) (hd : Dk w' B g dl) (hg : wr.grownBy w' (some g)) : LSt w0 w' B g gb n c js b := by
  obtain ⟨dl0, k⟩ := h.dk
  exact ⟨k.own hg h.own (by decide), h.len, fun j hj => (h.mem j hj).turn k hg, h.bd, ⟨dl, hd⟩, grown_trans h.gr hg, h.gl⟩
theorem LSt.at_ (h : LSt w0 wr B g gb n c js b) (hi : i < n) : js.getD i jd0 ∈ js := by
  rw [List.getD_eq_getElem?_getD, List.getElem?_eq_getElem (by rw [h.len]; exact hi)]
  exact List.getElem_mem _
theorem LSt.cell {u : Value} (h : LSt w0 wr B g gb n c js b) (hi : i < n) (hu : (jdCells (js.getD i jd0))[f]? = some u) : wr.cell? ⟨gb, i * 15 + f, none⟩ = some u ∧ wr.frozen? ⟨gb, i * 15 + f, none⟩ = false :=
  h.own.cellAt (jdsV_get js i f u (by rw [h.len]; exact hi) hu)
theorem LSt.blk (h : LSt w0 wr B g gb n c js b) : w0.heap.size ≤ gb ∧ gb < wr.heap.size ∧ ∃ cs, wr.heap[gb]? = some (.cells cs 33 (0, 0)) := by
  rcases h.own with ⟨_, ⟨e, _⟩ | ⟨q, cap, cu, e, hq, hgg, _⟩⟩
  · cases e
  · injection e with e1 e2 e3
    injection e1 with e1
    injection e1 with e1
    subst e1
    exact ⟨hq, lt_of_block hgg, cu, hgg⟩
theorem LSt.put {u : Value} {j' : Jd} {b' : Nat} (h : LSt w0 wr B g gb n c js b) (hi : i < n) (hf : f < 15) (hv : (jdCells (js.getD i jd0)).set f u = jdCells j') (hm : JdMem B wr j') (hb : JdL b' j') (hbb : b ≤ b') :
    LSt w0 (wr.setCell ⟨gb, i * 15 + f, none⟩ u) B g gb n c (js.set i j') b' := by
  obtain ⟨k1, k2, cs, k3⟩ := h.blk
  obtain ⟨o1, o2⟩ := h.own.set_ (i * 15 + f) u
  rw [jdsV_set js i f u j' (by rw [h.len]; exact hi) hf hv] at o1
  have hgl := h.gl
  have mm : ∀ x, JdMem B wr x → JdMem B (wr.setCell ⟨gb, i * 15 + f, none⟩ u) x := fun x hx => ⟨hx.env.setOther k3 (by decide) u, hx.needs.setOther k3 (by decide) u, hx.lad.setOther k3 (by decide) u⟩
  obtain ⟨dl, hd⟩ := h.dk
  have hB := hd.1
  refine ⟨o1, by rw [List.length_set]; exact h.len, fun x hx => ?_, fun x hx => ?_, ⟨dl, hd.far o2 (fun e => by injection e with e; omega) (fun q e => by injection e with e; omega)⟩, grown_far h.gr o2 (fun q e => by injection e with e; omega), h.gl⟩
  · rcases List.mem_or_eq_of_mem_set hx with hx | rfl
    · exact mm x (h.mem x hx)
    · exact mm _ hm
  · rcases List.mem_or_eq_of_mem_set hx with hx | rfl
    · exact (h.bd x hx).mono hbb
    · exact hb
end
/-- What a round leaves. -/
def CutL (w0 : World) (B g gb n c b : Nat) (wx : World) : Prop := ∃ js, LSt w0 wx B g gb n c js b
section
variable {w0 wr w' : World} {B g gb n c b i : Nat} {js : List Jd}
/-- A field other than the lists. -/
theorem LSt.fld {f : Nat} {u : Value} (j' : Jd) (h : LSt w0 wr B g gb n c js b) (hi : i < n) (hf : f < 15) (hv : (jdCells (js.getD i jd0)).set f u = jdCells j') (he : j'.eA = (js.getD i jd0).eA ∧ j'.env = (js.getD i jd0).env) (hn : j'.nA = (js.getD i jd0).nA ∧ j'.needs = (js.getD i jd0).needs) (hl : j'.lA = (js.getD i jd0).lA ∧ j'.lad = (js.getD i jd0).lad) :
    LSt w0 (wr.setCell ⟨gb, i * 15 + f, none⟩ u) B g gb n c (js.set i j') b := by
  have hm := h.mem _ (h.at_ hi)
  have hb := h.bd _ (h.at_ hi)
  refine h.put hi hf hv ⟨?_, ?_, ?_⟩ ⟨?_, ?_, ?_⟩ (Nat.le_refl _)
  · rw [he.1, he.2]; exact hm.env
  · rw [hn.1, hn.2]; exact hm.needs
  · rw [hl.1, hl.2]; exact hm.lad
  · rw [he.2]; exact hb.1
  · rw [hn.2]; exact hb.2.1
  · rw [hl.2]; exact hb.2.2
theorem LSt.putN {s : ByteArray} {A : Option Addr} {k : Nat} (h : LSt w0 wr B g gb n c js b) (hi : i < n) (ht : Ts wr 9 A ([.string s] ++ strsV (js.getD i jd0).needs)) :
    CutL w0 B g gb n c (b + 1) (wr.setCell ⟨gb, i * 15 + 3, none⟩ (.slice A (1 + (js.getD i jd0).needs.length) k)) := by
  have hm := h.mem _ (h.at_ hi)
  have hb := h.bd _ (h.at_ hi)
  have e : ([.string s] ++ strsV (js.getD i jd0).needs : List Value) = strsV (s :: (js.getD i jd0).needs) := by simp [strsV]
  rw [e] at ht
  refine ⟨_, h.put (j' := { js.getD i jd0 with nA := A, needs := s :: (js.getD i jd0).needs, nc := k }) hi (by decide) ?_ ⟨hm.env, ht, hm.lad⟩ ⟨Nat.le_succ_of_le hb.1, ?_, Nat.le_succ_of_le hb.2.2⟩ (Nat.le_succ _)⟩
  · simp [jdCells, Nat.add_comm]
  · have := hb.2.1
    simp only [List.length_cons]
    omega
theorem LSt.putL {s z : Int} {A : Option Addr} {k : Nat} (h : LSt w0 wr B g gb n c js b) (hi : i < n) (ht : Ts wr 74 A ([.int .i64 s, .int .u64 z] ++ rungs (js.getD i jd0).lad)) :
    CutL w0 B g gb n c (b + 1) (wr.setCell ⟨gb, i * 15 + 12, none⟩ (.slice A (1 + (js.getD i jd0).lad.length) k)) := by
  have hm := h.mem _ (h.at_ hi)
  have hb := h.bd _ (h.at_ hi)
  have e : ([.int .i64 s, .int .u64 z] ++ rungs (js.getD i jd0).lad : List Value) = rungs ((s, z) :: (js.getD i jd0).lad) := by simp [rungs]
  rw [e] at ht
  refine ⟨_, h.put (j' := { js.getD i jd0 with lA := A, lad := (s, z) :: (js.getD i jd0).lad, lc := k }) hi (by decide) ?_ ⟨hm.env, hm.needs, ht⟩ ⟨Nat.le_succ_of_le hb.1, Nat.le_succ_of_le hb.2.1, ?_⟩ (Nat.le_succ _)⟩
  · simp [jdCells, Nat.add_comm]
  · have := hb.2.2
    simp only [List.length_cons]
    omega
end
/-- One more in front of a list of a job: a new row, the append, the store. -/
structure N10 (w0 wr : World) (B g gb n c b : Nat) (dl : List Int) (bk ba bs : Bool) (kb : Nat) (E : TypeId) (size : Nat) (news : List Value) (va : Value) (old : List Value) (m : Nat) (ww : World) : Prop where
  dk : bs = false → Dk ww B g dl
  gr : bs = false → wr.grownBy ww (some g)
  own : bs = false → bk = true → ba = false → Own ww wr.heap.size E size (.slice (some ⟨kb, 0, none⟩) 1 1) 1 news
  va : bs = false → ba = true → ∃ A k, va = .slice A (1 + m) k ∧ Ts ww E A (news ++ old)
  fin : bs = true → CutL w0 B g gb n c (b + 1) ww
  gl : g < wr.heap.size
  bB : B ≤ wr.heap.size
  sz : wr.heap.size ≤ ww.heap.size
section
variable {w0 wr ww w' : World} {B g gb n c b kb size m i : Nat} {js : List Jd} {dl dl' : List Int} {bk ba bs : Bool} {E : TypeId} {news old : List Value} {va : Value}
theorem N10.start {va : Value} (h : LSt w0 wr B g gb n c js b) (hd : Dk wr B g dl) : N10 w0 wr B g gb n c b dl false false false kb E size news va old m { wr with drawn := wr.drawn + 1 } :=
  ⟨fun _ => hd.up (Old.refl wr).drew, fun _ => grown_far (World.grownBy.refl _ _) (old_grown (Old.refl wr).drew) (fun q e => by cases e), (fun _ e => by cases e), (fun _ e => by cases e), (fun e => by cases e), hd.lt, Nat.le_of_lt (Nat.lt_of_le_of_lt hd.1 hd.lt), Nat.le_refl _⟩
theorem N10.up (h : N10 w0 wr B g gb n c b dl false false false kb E size news va old m ww) (ho : Old ww w') : N10 w0 wr B g gb n c b dl false false false kb E size news va old m w' :=
  ⟨fun e => (h.dk e).up ho, fun e => grown_far (h.gr e) (old_grown ho) (fun q e => by cases e), (fun _ e => by cases e), (fun _ e => by cases e), (fun e => by cases e), h.gl, h.bB, Nat.le_trans h.sz ho.size⟩
theorem N10.call (h : N10 w0 wr B g gb n c b dl false false false kb E size news va old m ww) (hd : Dk w' B g dl') (hg : ww.grownBy w' (some g)) : N10 w0 wr B g gb n c b dl' false false false kb E size news va old m w' :=
  ⟨fun _ => hd, fun e => grown_trans (h.gr e) hg, (fun _ e => by cases e), (fun _ e => by cases e), (fun e => by cases e), h.gl, h.bB, Nat.le_trans h.sz hg.size⟩
theorem N10.bld (h : N10 w0 wr B g gb n c b dl false false false kb E size news va old m ww) (hs : news.length = size) : N10 w0 wr B g gb n c b dl true false false ww.heap.size E size news va old m (ww.alloc (.cells news.toArray E)) := by
  have ho := (Old.refl ww).alloc (.cells news.toArray E)
  have hown := (own_new ww news.toArray 1 size E (by decide) (by simp [hs])).base h.sz
  exact ⟨fun e => (h.dk e).up ho, fun e => grown_far (h.gr e) (old_grown ho) (fun q e => by cases e), fun _ _ _ => hown, (fun _ e => by cases e), (fun e => by cases e), h.gl, h.bB, Nat.le_trans h.sz ho.size⟩
theorem N10.app {A : Option Addr} {k : Nat} (h : N10 w0 wr B g gb n c b dl true false false kb E size news va old m ww) (hg : ww.grownBy w' (Value.slice (some ⟨kb, 0, none⟩) 1 1).ownBlock) (ht : Ts w' E A (news ++ old)) : N10 w0 wr B g gb n c b dl true true false kb E size news (.slice A (1 + m) k) old m w' := by
  have hown := h.own rfl rfl rfl
  have hl : ∀ q, (Value.slice (some ⟨kb, 0, none⟩) 1 1).ownBlock = some q → wr.heap.size ≤ q ∧ q < ww.heap.size := fun q e => World.ownsRow.lt hown q e
  refine ⟨fun e => (h.dk e).far hg (fun e2 => ?_) (fun q e2 => Nat.le_trans h.bB (hl q e2).1), fun e => grown_far (h.gr e) hg (fun q e2 => (hl q e2).1), (fun _ _ e => by cases e), fun _ _ => ⟨A, k, rfl, ht⟩, (fun e => by cases e), h.gl, h.bB, Nat.le_trans h.sz hg.size⟩
  have := (hl g e2).1
  have := h.gl
  omega
theorem N10.done (h : N10 w0 wr B g gb n c b dl bk ba bs kb E size news va old m ww) (hf : CutL w0 B g gb n c (b + 1) w') (hsz : wr.heap.size ≤ w'.heap.size) : N10 w0 wr B g gb n c b dl bk ba true kb E size news va old m w' :=
  ⟨(fun e => by cases e), (fun e => by cases e), (fun e => by cases e), (fun e => by cases e), fun _ => hf, h.gl, h.bB, hsz⟩
theorem N10.lst (h : N10 w0 wr B g gb n c b dl bk ba false kb E size news va old m ww) (hl : LSt w0 wr B g gb n c js b) : LSt w0 ww B g gb n c js b := hl.turn (h.dk rfl) (h.gr rfl)
theorem N10.nds (h : N10 w0 wr B g gb n c b dl bk ba false kb E size news va old m ww) (hl : LSt w0 wr B g gb n c js b) (hi : i < n) : Rs ww (js.getD i jd0).nA (strsV (js.getD i jd0).needs) := ((h.lst hl).mem _ (hl.at_ hi)).needs.rs
theorem N10.ladr (h : N10 w0 wr B g gb n c b dl bk ba false kb E size news va old m ww) (hl : LSt w0 wr B g gb n c js b) (hi : i < n) : Rs ww (js.getD i jd0).lA (rungs (js.getD i jd0).lad) := ((h.lst hl).mem _ (hl.at_ hi)).lad.rs
theorem N10.tne {kt : Nat} {cs : Array Value} (h : N10 w0 wr B g gb n c b dl bk ba false kb E size news va old m ww) (hl : LSt w0 wr B g gb n c js b) (ht : ww.heap[kt]? = some (.cells cs 3 (0, 0))) : kt ≠ gb := by
  intro e
  obtain ⟨_, _, q, hq⟩ := (h.lst hl).blk
  rw [e, hq] at ht
  simp at ht
end
def sg3 (x : Int) : Int := [0, 9, 7].getD x.toNat 0
theorem sig3 {w : World} {k : Nat} {x : Int} (h : w.heap[k]? = some (.cells #[.int .i64 0, .int .i64 9, .int .i64 7] 3 (0, 0))) (h0 : 0 ≤ x) (h1 : x < 3) : w.cell? ⟨k, x.toNat, none⟩ = some (.int .i64 (sg3 x)) := by
  rw [cell_of_row w k _ _ _ _ h]
  have : x = 0 ∨ x = 1 ∨ x = 2 := by omega
  rcases this with rfl | rfl | rfl <;> rfl
def N20 (w0 wr : World) (B g gb n c b : Nat) (dl : List Int) (bk ba bs : Bool) (kb : Nat) (news : List Value) (va : Value) (old : List Value) (m : Nat) (bt : Bool) (kt : Nat) (ww : World) : Prop :=
  N10 w0 wr B g gb n c b dl bk ba bs kb 74 2 news va old m ww ∧ (bt = true → ww.heap[kt]? = some (.cells #[.int .i64 0, .int .i64 9, .int .i64 7] 3 (0, 0)))
def L10 (w0 wr : World) (B g gb n c : Nat) (js : List Jd) (i b : Nat) (x : Int) (l0 l1 : List Int) (p1 p2 p3 p4 p6 p7 p8 p9 p10 p11 p12 p13 p14 p15 p16 p17 p18 p19 p20 p21 p22 p23 p24 p25 p26 p27 p28 p29 p30 p31 p32 p33 p34 p35 p36 p37 p38 p39 p40 p41 p42 p43 p44 p45 p46 p47 p48 p49 p50 p51 p52 p53 p54 p55 p56 p57 p58 p59 p60 p61 p62 p63 p64 p65 p66 p67 p68 p69 p70 p71 p72 p73 p74 p75 p76 p77 p78 p79 p80 p81 p82 p83 p84 p85 p86 p87 p88 p89 p90 p91 p92 p93 p94 p95 p96 p97 p98 p99 p100 p101 p102 p103 p104 p105 p106 p107 p108 p109 p110 p111 p112 p113 : Value) (listed : Array Bool) (a : Act) (ww : World) : Prop :=
  ∃ (b0 b1 b2 b3 b4 b5 b6 b7 b8 b9 b10 b11 : Bool) (kb : Nat) (va : Value), listed = #[b0, b1, b2, b3, b4, b5, b6, b7, b8, b9, b10, b11] ∧
    a = { tmps := #[.pointer (some ⟨g, 0, none⟩), p1, p2, p3, p4, .pointer (some ⟨gb, i * 15, none⟩), p6, p7, p8, p9, p10, p11, p12, p13, p14, p15, p16, p17, p18, p19, p20, p21, p22, p23, p24, p25, p26, p27, p28, p29, p30, cond b0 (.pointer (some ⟨gb, i * 15, none⟩)) (p31), cond b1 (.pointer (some ⟨g, 0, none⟩)) (p32), cond b2 (.string (nmOf x)) (p33), cond b3 (.slice (some ⟨kb, 0, none⟩) 1 1) (p34), cond b4 (.pointer (some ⟨gb, i * 15, none⟩)) (p35), cond b5 (.pointer (some ⟨gb, i * 15, none⟩)) (p36), cond b6 (.pointer (some ⟨gb, i * 15 + 3, none⟩)) (p37), cond b7 (.slice (js.getD i jd0).nA (js.getD i jd0).needs.length (js.getD i jd0).nc) (p38), cond b8 (va) (p39), cond b9 (.pointer (some ⟨gb, i * 15, none⟩)) (p40), cond b10 (.pointer (some ⟨gb, i * 15 + 3, none⟩)) (p41), p42, p43, p44, p45, p46, p47, p48, p49, p50, p51, p52, p53, p54, p55, p56, p57, p58, p59, p60, p61, p62, p63, p64, p65, p66, p67, p68, p69, p70, p71, p72, p73, p74, p75, p76, p77, p78, p79, p80, p81, p82, p83, p84, p85, p86, p87, p88, p89, p90, p91, p92, p93, p94, p95, p96, p97, p98, p99, p100, p101, p102, p103, p104, p105, p106, p107, p108, p109, p110, p111, p112, p113], defers := [] } ∧ N10 w0 wr B g gb n c b (cond b2 l1 l0) b3 b8 b11 kb 9 1 [.string (nmOf x)] va (strsV (js.getD i jd0).needs) (js.getD i jd0).needs.length ww
def L20 (w0 wr : World) (B g gb n c : Nat) (js : List Jd) (i b : Nat) (x : Int) (l0 l1 : List Int) (p1 p2 p3 p4 p6 p7 p8 p9 p10 p11 p12 p13 p14 p15 p16 p17 p18 p19 p20 p21 p22 p23 p24 p25 p26 p27 p28 p29 p30 p31 p32 p33 p34 p35 p36 p37 p38 p39 p40 p41 p42 p43 p44 p45 p46 p47 p48 p49 p50 p51 p52 p53 p54 p55 p56 p57 p58 p59 p60 p61 p62 p63 p64 p65 p66 p67 p68 p69 p70 p71 p72 p73 p74 p75 p76 p77 p78 p79 p80 p81 p82 p83 p84 p85 p86 p87 p88 p89 p90 p91 p92 p93 p94 p95 p96 p97 p98 p99 p100 p101 p102 p103 p104 p105 p106 p107 p108 p109 p110 p111 p112 p113 : Value) (listed : Array Bool) (a : Act) (ww : World) : Prop :=
  ∃ (b0 b1 b2 b3 b4 b5 b6 b7 b8 b9 b10 b11 b12 b13 b14 b15 : Bool) (kt kb : Nat) (va : Value), listed = #[b0, b1, b2, b3, b4, b5, b6, b7, b8, b9, b10, b11, b12, b13, b14, b15] ∧
    a = { tmps := #[.pointer (some ⟨g, 0, none⟩), p1, p2, p3, p4, .pointer (some ⟨gb, i * 15, none⟩), p6, p7, p8, p9, p10, p11, p12, p13, p14, p15, p16, p17, p18, p19, p20, p21, p22, p23, p24, p25, p26, p27, p28, p29, p30, p31, p32, p33, p34, p35, p36, p37, p38, p39, p40, p41, p42, p43, p44, p45, p46, p47, p48, p49, p50, p51, p52, p53, p54, p55, p56, p57, p58, p59, p60, p61, p62, p63, p64, p65, p66, p67, p68, p69, p70, p71, p72, p73, p74, p75, p76, p77, p78, p79, p80, cond b0 (.pointer (some ⟨gb, i * 15, none⟩)) (p81), cond b1 (.slice (some ⟨kt, 0, none⟩) 3 3) (p82), cond b2 (.pointer (some ⟨g, 0, none⟩)) (p83), cond b3 (.int .i64 x) (p84), cond b4 (.pointer (some ⟨kt, x.toNat, none⟩)) (p85), cond b5 (.int .i64 (sg3 x)) (p86), cond b6 (.agg #[.int .i64 (sg3 x), .int .u64 0]) (p87), cond b7 (.slice (some ⟨kb, 0, none⟩) 1 1) (p88), cond b8 (.pointer (some ⟨gb, i * 15, none⟩)) (p89), cond b9 (.pointer (some ⟨gb, i * 15, none⟩)) (p90), cond b10 (.pointer (some ⟨gb, i * 15 + 12, none⟩)) (p91), cond b11 (.slice (js.getD i jd0).lA (js.getD i jd0).lad.length (js.getD i jd0).lc) (p92), cond b12 (va) (p93), cond b13 (.pointer (some ⟨gb, i * 15, none⟩)) (p94), cond b14 (.pointer (some ⟨gb, i * 15 + 12, none⟩)) (p95), p96, p97, p98, p99, p100, p101, p102, p103, p104, p105, p106, p107, p108, p109, p110, p111, p112, p113], defers := [] } ∧ N20 w0 wr B g gb n c b (cond b3 l1 l0) b7 b12 b15 kb [.int .i64 (sg3 x), .int .u64 0] va (rungs (js.getD i jd0).lad) (js.getD i jd0).lad.length b1 kt ww

def LoosePost (w : World) (B g : Nat) (e : Ending) (w' : World) : Prop := ∃ (gb n c : Nat) (js : List Jd), e = .returned (.slice (some ⟨gb, 0, none⟩) n c) ∧ 1 ≤ n ∧ n ≤ 4 ∧ LSt w w' B g gb n c js 20
def LoRel (w : World) (B g gb n c : Nat) (s4 : Value) (wr : World) : Prop := ∃ (k b : Nat) (js : List Jd), s4 = .int .i64 (k : Int) ∧ k ≤ 2 ∧ b + k ≤ 10 ∧ Hid (LSt w wr B g gb n c js b)
theorem tab7 {w : World} {k : Nat} {x : Int} (h : w.heap[k]? = some (.cells #[.string ⟨#[40]⟩, .string ⟨#[42]⟩, .string ⟨#[91, 97]⟩, .string ⟨#[97, 94, 98]⟩, .string ⟨#[91, 94, 120, 45, 120, 93]⟩, .string ⟨#[92, 113]⟩, .string ⟨#[36, 97]⟩] 9 (0, 0))) (h0 : 0 ≤ x) (h1 : x < 7) : ∃ s, w.cell? ⟨k, x.toNat, none⟩ = some (.string s) := by
  rw [cell_of_row w k _ _ _ _ h]
  have : x = 0 ∨ x = 1 ∨ x = 2 ∨ x = 3 ∨ x = 4 ∨ x = 5 ∨ x = 6 := by omega
  rcases this with rfl | rfl | rfl | rfl | rfl | rfl | rfl <;> exact ⟨_, rfl⟩
theorem LSt.two {w0 wr : World} {B g gb n c b i f f2 : Nat} {js : List Jd} {u u2 v2 : Value} (j1 j2 : Jd) (h : LSt w0 wr B g gb n c js b) (hi : i < n) (hf : f < 15) (hf2 : f2 < 15) (hv : (jdCells (js.getD i jd0)).set f u = jdCells j1) (hv2 : (jdCells j1).set f2 u2 = jdCells j2) (hc : (jdCells j1)[f2]? = some v2)
    (e1 : j1.eA = (js.getD i jd0).eA ∧ j1.env = (js.getD i jd0).env) (n1 : j1.nA = (js.getD i jd0).nA ∧ j1.needs = (js.getD i jd0).needs) (l1 : j1.lA = (js.getD i jd0).lA ∧ j1.lad = (js.getD i jd0).lad)
    (e2 : j2.eA = j1.eA ∧ j2.env = j1.env) (n2 : j2.nA = j1.nA ∧ j2.needs = j1.needs) (l2 : j2.lA = j1.lA ∧ j2.lad = j1.lad) :
    ((wr.setCell ⟨gb, i * 15 + f, none⟩ u).cell? ⟨gb, i * 15 + f2, none⟩ = some v2 ∧ (wr.setCell ⟨gb, i * 15 + f, none⟩ u).frozen? ⟨gb, i * 15 + f2, none⟩ = false) ∧ CutL w0 B g gb n c b ((wr.setCell ⟨gb, i * 15 + f, none⟩ u).setCell ⟨gb, i * 15 + f2, none⟩ u2) := by
  have h1 := h.fld (f := f) (u := u) j1 hi hf hv e1 n1 l1
  have e : (js.set i j1).getD i jd0 = j1 := by
    rw [List.getD_eq_getElem?_getD, List.getElem?_set_self (by rw [h.len]; exact hi)]
    rfl
  exact ⟨h1.cell hi (by rw [e]; exact hc), ⟨_, h1.fld j2 hi hf2 (by rw [e]; exact hv2) (by rw [e]; exact e2) (by rw [e]; exact n2) (by rw [e]; exact l2)⟩⟩
theorem CutL.mono {w0 wr : World} {B g gb n c b b' : Nat} (h : CutL w0 B g gb n c b wr) (hb : b ≤ b') : CutL w0 B g gb n c b' wr := by
  obtain ⟨js, h⟩ := h
  exact ⟨js, ⟨h.own, h.len, h.mem, fun j hj => (h.bd j hj).mono hb, h.dk, h.gr, h.gl⟩⟩
theorem LSt.mono_ {w0 wr : World} {B g gb n c b b' : Nat} {js : List Jd} (h : LSt w0 wr B g gb n c js b) (hb : b ≤ b') : LSt w0 wr B g gb n c js b' := ⟨h.own, h.len, h.mem, fun j hj => (h.bd j hj).mono hb, h.dk, h.gr, h.gl⟩
set_option maxHeartbeats 8000000 in
set_option maxRecDepth 100000 in
theorem looseC (B g : Nat) (dl : List Int) (w : World) (hd : Dk w B g dl) :
    Calls Try.prog 10 #[.pointer (some ⟨g, 0, none⟩)] w (LoosePost w B g) := by
  have HPO : Hid (∀ gb n c js w', 1 ≤ n → n ≤ 4 → LSt w w' B g gb n c js 20 → LoosePost w B g (.returned (.slice (some ⟨gb, 0, none⟩) n c)) w') := Lib.hid (fun gb n c js w' h1 h2 h3 => ⟨gb, n, c, js, rfl, h1, h2, h3⟩)
  have hgl := hd.lt
  have HJ := Lib.hid (jobsC B g dl w hd)
  clear hd
  go_enter Try.func10, Try.ntmps10
  go_wp2_with fail
  refine (HJ.out).mono ?_; rintro e w1 ⟨v, js, dl1, x1, rfl, hown, hmem, hgood, hl1, hl4, _, hdk, hg⟩
  obtain ⟨gb, c, rfl, _, _, _, _⟩ := hown.form (by omega)
  obtain ⟨n, hn⟩ : ∃ n, n = js.length := ⟨_, rfl⟩
  rw [← hn] at hown hl1 hl4 ⊢
  have HL := Lib.hid (⟨hown, hn.symm, hmem, fun j hj => (by have h1 := (hgood j hj).bd.en; have h2 := (hgood j hj).nb; have h3 := (hgood j hj).l3; exact ⟨by omega, by omega, by omega⟩), ⟨dl1, hdk⟩, hg, hgl⟩ : LSt w w1 B g gb n c js 4)
  clear hown hmem hgood hdk hg HJ hn
  obtain ⟨dl0_, hdk_⟩ := HL.out.dk
  obtain ⟨x2, l1_, ex_⟩ : ∃ x r, nx dl0_ 3 = (x, r) := ⟨_, _, rfl⟩
  have hx2 := nx_bd dl0_ (show (1 : Int) ≤ 3 by decide)
  have hn_ := nextDeck B g dl0_ 3 _ hdk_ (by decide) (by decide)
  unfold NextPost at hn_
  rw [ex_] at hx2 hn_
  simp only at hx2 hn_
  have HN_ := Lib.hid hn_
  clear hn_ ex_
  go_wp2_with fail
  refine (HN_.out).mono ?_; rintro e w2 ⟨rfl, hd_, hg_⟩
  have HLN_ := Lib.hid (HL.out.turn hd_ hg_)
  clear HN_ hd_ hg_ HL hdk_
  obtain ⟨k, rfl⟩ := Int.eq_ofNat_of_zero_le hx2.1
  have HREL : Hid (LoRel w B g gb n c (.int .i64 (k : Int)) w2) := Lib.hid ⟨k, 4, js, rfl, by omega, by omega, HLN_⟩
  clear HLN_ hx2
  go_wp2_with fail
  go_loopw [4] (fun s4 wr => LoRel w B g gb n c s4 wr) (fun s4 _ => (intOf s4).toNat)
  case atStart => exact HREL.out
  case round =>
    clear HREL
    obtain ⟨k, b, js, rfl, hk, hbk, HL⟩ := hrel
    by_cases h0 : 0 < k
    · have h0' : (0 : Int) < (k : Int) := by omega
      have hnn : (1 : Int) ≤ (n : Int) := by omega
      obtain ⟨dl0_, hdk_⟩ := HL.out.dk
      obtain ⟨xi, l1_, ex_⟩ : ∃ x r, nx dl0_ (n : Int) = (x, r) := ⟨_, _, rfl⟩
      have hxi := nx_bd dl0_ hnn
      have hn_ := nextDeck B g dl0_ (n : Int) _ hdk_ hnn (by omega)
      unfold NextPost at hn_
      rw [ex_] at hxi hn_
      simp only at hxi hn_
      have HN_ := Lib.hid hn_
      clear hn_ ex_
      go_wp2_with fail
      refine (HN_.out).mono ?_; rintro e w3 ⟨rfl, hd_, hg_⟩
      have HLa := Lib.hid (HL.out.turn hd_ hg_)
      clear HN_ hd_ hg_ HL hdk_
      obtain ⟨i, rfl⟩ := Int.eq_ofNat_of_zero_le hxi.1
      have hi : i < n := by omega
      clear hxi
      obtain ⟨dl0_, hdk_⟩ := HLa.out.dk
      obtain ⟨y, l1_, ex_⟩ : ∃ x r, nx dl0_ 8 = (x, r) := ⟨_, _, rfl⟩
      have hy := nx_bd dl0_ (show (1 : Int) ≤ 8 by decide)
      have hn_ := nextDeck B g dl0_ 8 _ hdk_ (by decide) (by decide)
      unfold NextPost at hn_
      rw [ex_] at hy hn_
      simp only at hy hn_
      have HN_ := Lib.hid hn_
      clear hn_ ex_
      go_wp2_with fail
      refine (HN_.out).mono ?_; rintro e w4 ⟨rfl, hd_, hg_⟩
      have HLN_ := Lib.hid (HLa.out.turn hd_ hg_)
      clear HN_ hd_ hg_ HLa hdk_
      have HLb := HLN_
      clear HLN_
      go_upto_block 2 with fail
      go_cut [] (fun wx => CutL w B g gb n c (b + 1) wx)
      case first =>
        have HL := HLb
        clear HLb
        have HBD := Lib.hid (HL.out.bd _ (HL.out.at_ hi))
        have hy8 : y = 0 ∨ y = 1 ∨ y = 2 ∨ y = 3 ∨ y = 4 ∨ y = 5 ∨ y = 6 ∨ y = 7 := by omega
        clear hy
        rcases hy8 with rfl | rfl | rfl | rfl | rfl | rfl | rfl | rfl
        · obtain ⟨dl0, hdk⟩ := HL.out.dk
          have hn_ := nameC B g dl0 w4 hdk
          unfold NamePost at hn_
          have HN_ := Lib.hid hn_
          clear hn_
          go_wp2_with fail
          refine (HN_.out).mono ?_; rintro e w5 ⟨rfl, hd_, hg_⟩
          have HL5 := Lib.hid (HL.out.turn hd_ hg_)
          clear HN_ hd_ hg_ HL hdk
          obtain ⟨cl, fz⟩ : w5.cell? ⟨gb, i * 15, none⟩ = _ ∧ w5.frozen? ⟨gb, i * 15, none⟩ = false := HL5.out.cell (f := 0) hi rfl
          have HX : Hid (CutL w B g gb n c (b + 1) (w5.setCell ⟨gb, i * 15, none⟩ (.string (nmOf (nx dl0 5).1)))) := Lib.hid ⟨_, (HL5.out.fld (f := 0) (u := .string (nmOf (nx dl0 5).1)) { js.getD i jd0 with nm := nmOf (nx dl0 5).1 } hi (by decide) rfl ⟨rfl, rfl⟩ ⟨rfl, rfl⟩ ⟨rfl, rfl⟩).mono_ (Nat.le_succ b)⟩
          clear HL5
          go_wp2_with fail
          go_meet
          case rel => exact HX.out
        · obtain ⟨l0, hdk⟩ := HL.out.dk
          have HDK := Lib.hid hdk
          clear hdk
          obtain ⟨x, l1, ex⟩ : ∃ x r, nx l0 5 = (x, r) := ⟨_, _, rfl⟩
          go_upto_region 10 with fail
          generalize w4 = wr at *
          refine wp_region_steps2 (by kernel_rfl) (by kernel_rfl) (L10 w wr B g gb n c js i b x l0 l1 _ _ _ _ _ _ _ _ _ _ _ _ _ _ _ _ _ _ _ _ _ _ _ _ _ _ _ _ _ _ _ _ _ _ _ _ _ _ _ _ _ _ _ _ _ _ _ _ _ _ _ _ _ _ _ _ _ _ _ _ _ _ _ _ _ _ _ _ _ _ _ _ _ _ _ _ _ _ _ _ _ _ _ _ _ _ _ _ _ _ _ _ _ _ _ _ _ _ _ _ _ _ _ _ _ _ _ _ _ _ _ _) (⟨false, false, false, false, false, false, false, false, false, false, false, false, 0, undef, rfl, rfl, N10.start HL.out HDK.out⟩) ?_ ⟨?_, ?_, ?_, ?_, ?_, ?_, ?_, ?_, ?_, ?_, ?_, ?_, trivial⟩
          · rintro a w1 ⟨b0, b1, b2, b3, b4, b5, b6, b7, b8, b9, b10, b11, kb, va, hl, rfl, hF⟩
            have hl' := congrArg Array.toList hl
            simp at hl'
            obtain ⟨rfl, rfl, rfl, rfl, rfl, rfl, rfl, rfl, rfl, rfl, rfl, rfl⟩ := hl'
            clear hl
            have HX := Lib.hid (hF.fin rfl)
            clear hF
            go_wp2_with fail
            go_meet
            case rel => exact HX.out
          · intro listed a w1 K hs hcl hf hall hI hK
            obtain ⟨b0, b1, b2, b3, b4, b5, b6, b7, b8, b9, b10, b11, kb, va, rfl, rfl, hF⟩ := hI
            have hf' : b0 = false := hf
            subst hf'
            clear hall hcl hs hf
            go_simp
            exact hK _ _ ⟨true, b1, b2, b3, b4, b5, b6, b7, b8, b9, b10, b11, kb, va, rfl, rfl, hF⟩
          · intro listed a w1 K hs hcl hf hall hI hK
            obtain ⟨b0, b1, b2, b3, b4, b5, b6, b7, b8, b9, b10, b11, kb, va, rfl, rfl, hF⟩ := hI
            have hf' : b1 = false := hf
            subst hf'
            clear hall hcl hs hf
            go_simp
            exact hK _ _ ⟨b0, true, b2, b3, b4, b5, b6, b7, b8, b9, b10, b11, kb, va, rfl, rfl, hF⟩
          · intro listed a w1 K hs hcl hf hall hI hK
            obtain ⟨b0, b1, b2, b3, b4, b5, b6, b7, b8, b9, b10, b11, kb, va, rfl, rfl, hF⟩ := hI
            have hf' : b2 = false := hf
            subst hf'
            have hq1 : b1 = true := hall ⟨1, .data⟩ (by first | exact .head _ | simp) rfl
            subst hq1
            have hb3 : b3 = false := by
              cases b3
              · rfl
              · exact absurd (show false = true from hcl 3 _ rfl rfl ⟨2, .data⟩ (by first | exact .head _ | simp) rfl) (by decide)
            subst hb3
            have hb8 : b8 = false := by
              cases b8
              · rfl
              · exact absurd (show false = true from hcl 8 _ rfl rfl ⟨2, .chain⟩ (by first | exact .head _ | simp) rfl) (by decide)
            subst hb8
            have hb9 : b9 = false := by
              cases b9
              · rfl
              · exact absurd (show false = true from hcl 9 _ rfl rfl ⟨2, .phase⟩ (by first | exact .head _ | simp) rfl) (by decide)
            subst hb9
            have hb10 : b10 = false := by
              cases b10
              · rfl
              · exact absurd (show false = true from hcl 10 _ rfl rfl ⟨2, .phase⟩ (by first | exact .head _ | simp) rfl) (by decide)
            subst hb10
            have hb11 : b11 = false := by
              cases b11
              · rfl
              · exact absurd (show false = true from hcl 11 _ rfl rfl ⟨2, .phase⟩ (by first | exact .head _ | simp) rfl) (by decide)
            subst hb11
            clear hall hcl hs hf
            have hn := nameC B g l0 w1 (hF.dk rfl)
            rw [ex] at hn
            have HN := Lib.hid hn
            clear hn
            go_simp
            refine HN.out.mono ?_
            rintro e w2 ⟨rfl, hd, hg⟩
            exact hK _ _ ⟨b0, true, true, false, b4, b5, b6, b7, false, false, false, false, kb, va, rfl, rfl, hF.call hd hg⟩
          · intro listed a w1 K hs hcl hf hall hI hK
            obtain ⟨b0, b1, b2, b3, b4, b5, b6, b7, b8, b9, b10, b11, kb, va, rfl, rfl, hF⟩ := hI
            have hf' : b3 = false := hf
            subst hf'
            have hq2 : b2 = true := hall ⟨2, .data⟩ (by first | exact .head _ | simp) rfl
            subst hq2
            have hq1 : b1 = true := hcl 2 _ rfl rfl ⟨1, .data⟩ (by first | exact .head _ | simp) rfl
            subst hq1
            have hb8 : b8 = false := by
              cases b8
              · rfl
              · exact absurd (show false = true from hcl 8 _ rfl rfl ⟨3, .data⟩ (by first | exact .head _ | simp) rfl) (by decide)
            subst hb8
            have hb9 : b9 = false := by
              cases b9
              · rfl
              · exact absurd (show false = true from hcl 9 _ rfl rfl ⟨3, .phase⟩ (by first | exact .head _ | simp) rfl) (by decide)
            subst hb9
            have hb10 : b10 = false := by
              cases b10
              · rfl
              · exact absurd (show false = true from hcl 10 _ rfl rfl ⟨3, .phase⟩ (by first | exact .head _ | simp) rfl) (by decide)
            subst hb10
            have hb11 : b11 = false := by
              cases b11
              · rfl
              · exact absurd (show false = true from hcl 11 _ rfl rfl ⟨3, .phase⟩ (by first | exact .head _ | simp) rfl) (by decide)
            subst hb11
            clear hall hcl hs hf
            go_simp
            exact hK _ _ ⟨b0, true, true, true, b4, b5, b6, b7, false, false, false, false, w1.heap.size, va, rfl, rfl, hF.bld rfl⟩
          · intro listed a w1 K hs hcl hf hall hI hK
            obtain ⟨b0, b1, b2, b3, b4, b5, b6, b7, b8, b9, b10, b11, kb, va, rfl, rfl, hF⟩ := hI
            have hf' : b4 = false := hf
            subst hf'
            clear hall hcl hs hf
            go_simp
            exact hK _ _ ⟨b0, b1, b2, b3, true, b5, b6, b7, b8, b9, b10, b11, kb, va, rfl, rfl, hF⟩
          · intro listed a w1 K hs hcl hf hall hI hK
            obtain ⟨b0, b1, b2, b3, b4, b5, b6, b7, b8, b9, b10, b11, kb, va, rfl, rfl, hF⟩ := hI
            have hf' : b5 = false := hf
            subst hf'
            have hq4 : b4 = true := hall ⟨4, .data⟩ (by first | exact .head _ | simp) rfl
            subst hq4
            clear hall hcl hs hf
            go_simp
            exact hK _ _ ⟨b0, b1, b2, b3, true, true, b6, b7, b8, b9, b10, b11, kb, va, rfl, rfl, hF⟩
          · intro listed a w1 K hs hcl hf hall hI hK
            obtain ⟨b0, b1, b2, b3, b4, b5, b6, b7, b8, b9, b10, b11, kb, va, rfl, rfl, hF⟩ := hI
            have hf' : b6 = false := hf
            subst hf'
            have hq5 : b5 = true := hall ⟨5, .data⟩ (by first | exact .head _ | simp) rfl
            subst hq5
            clear hall hcl hs hf
            go_simp
            exact hK _ _ ⟨b0, b1, b2, b3, b4, true, true, b7, b8, b9, b10, b11, kb, va, rfl, rfl, hF⟩
          · intro listed a w1 K hs hcl hf hall hI hK
            obtain ⟨b0, b1, b2, b3, b4, b5, b6, b7, b8, b9, b10, b11, kb, va, rfl, rfl, hF⟩ := hI
            have hf' : b7 = false := hf
            subst hf'
            have hq6 : b6 = true := hall ⟨6, .data⟩ (by first | exact .head _ | simp) rfl
            subst hq6
            have hq5 : b5 = true := hcl 6 _ rfl rfl ⟨5, .data⟩ (by first | exact .head _ | simp) rfl
            subst hq5
            have hq4 : b4 = true := hcl 5 _ rfl rfl ⟨4, .data⟩ (by first | exact .head _ | simp) rfl
            subst hq4
            have hb8 : b8 = false := by
              cases b8
              · rfl
              · exact absurd (show false = true from hcl 8 _ rfl rfl ⟨7, .data⟩ (by first | exact .head _ | simp) rfl) (by decide)
            subst hb8
            have hb9 : b9 = false := by
              cases b9
              · rfl
              · exact absurd (show false = true from hcl 9 _ rfl rfl ⟨7, .phase⟩ (by first | exact .head _ | simp) rfl) (by decide)
            subst hb9
            have hb10 : b10 = false := by
              cases b10
              · rfl
              · exact absurd (show false = true from hcl 10 _ rfl rfl ⟨7, .phase⟩ (by first | exact .head _ | simp) rfl) (by decide)
            subst hb10
            have hb11 : b11 = false := by
              cases b11
              · rfl
              · exact absurd (show false = true from hcl 11 _ rfl rfl ⟨7, .phase⟩ (by first | exact .head _ | simp) rfl) (by decide)
            subst hb11
            clear hall hcl hs hf
            obtain ⟨cl, _⟩ := (hF.lst HL.out).cell (f := 3) hi rfl
            go_simp
            exact hK _ _ ⟨b0, b1, b2, b3, true, true, true, true, false, false, false, false, kb, va, rfl, rfl, hF⟩
          · intro listed a w1 K hs hcl hf hall hI hK
            obtain ⟨b0, b1, b2, b3, b4, b5, b6, b7, b8, b9, b10, b11, kb, va, rfl, rfl, hF⟩ := hI
            have hf' : b8 = false := hf
            subst hf'
            have hq3 : b3 = true := hall ⟨3, .data⟩ (by first | exact .head _ | simp) rfl
            subst hq3
            have hq7 : b7 = true := hall ⟨7, .data⟩ (by first | exact .head _ | simp) rfl
            subst hq7
            have hq2 : b2 = true := hall ⟨2, .chain⟩ (by first | exact .head _ | simp) rfl
            subst hq2
            have hq6 : b6 = true := hcl 7 _ rfl rfl ⟨6, .data⟩ (by first | exact .head _ | simp) rfl
            subst hq6
            have hq1 : b1 = true := hcl 2 _ rfl rfl ⟨1, .data⟩ (by first | exact .head _ | simp) rfl
            subst hq1
            have hq5 : b5 = true := hcl 6 _ rfl rfl ⟨5, .data⟩ (by first | exact .head _ | simp) rfl
            subst hq5
            have hq4 : b4 = true := hcl 5 _ rfl rfl ⟨4, .data⟩ (by first | exact .head _ | simp) rfl
            subst hq4
            have hb9 : b9 = false := by
              cases b9
              · rfl
              · exact absurd (show false = true from hcl 9 _ rfl rfl ⟨8, .phase⟩ (by first | exact .head _ | simp) rfl) (by decide)
            subst hb9
            have hb10 : b10 = false := by
              cases b10
              · rfl
              · exact absurd (show false = true from hcl 10 _ rfl rfl ⟨8, .phase⟩ (by first | exact .head _ | simp) rfl) (by decide)
            subst hb10
            have hb11 : b11 = false := by
              cases b11
              · rfl
              · exact absurd (show false = true from hcl 11 _ rfl rfl ⟨8, .data⟩ (by first | exact .head _ | simp) rfl) (by decide)
            subst hb11
            clear hall hcl hs hf
            have hown := hF.own rfl rfl rfl
            have hsz := hF.sz
            obtain ⟨hb1, hb2, hb3⟩ := HBD.out
            refine step_appO w1 (by rfl) _ _ 29 (by rfl) wr.heap.size 9 (.string ⟨#[]⟩) 1 16 Try.underlying29 info_jstr rfl (by decide) (by decide) (.slice (some ⟨kb, 0, none⟩) 1 1) 1 [.string (nmOf x)] (by rfl) hown (js.getD i jd0).nA (js.getD i jd0).needs.length (js.getD i jd0).nc (strsV (js.getD i jd0).needs) (by rfl) (hF.nds HL.out hi) (by rw [strsV_length, Nat.mul_one]) (strsV_one _) (by omega) hsz ?_
            intro v' w' ho hg hst
            obtain ⟨A9, c9, hv9, ht9, _, _⟩ := ho.shape
            subst hv9
            exact hK _ _ ⟨b0, true, true, true, true, true, true, true, true, false, false, false, kb, .slice A9 (1 + (js.getD i jd0).needs.length) c9, rfl, rfl, hF.app hg ht9⟩
          · intro listed a w1 K hs hcl hf hall hI hK
            obtain ⟨b0, b1, b2, b3, b4, b5, b6, b7, b8, b9, b10, b11, kb, va, rfl, rfl, hF⟩ := hI
            have hf' : b9 = false := hf
            subst hf'
            have hq0 : b0 = true := hall ⟨0, .data⟩ (by first | exact .head _ | simp) rfl
            subst hq0
            have hq1 : b1 = true := hall ⟨1, .phase⟩ (by first | exact .head _ | simp) rfl
            subst hq1
            have hq2 : b2 = true := hall ⟨2, .phase⟩ (by first | exact .head _ | simp) rfl
            subst hq2
            have hq3 : b3 = true := hall ⟨3, .phase⟩ (by first | exact .head _ | simp) rfl
            subst hq3
            have hq4 : b4 = true := hall ⟨4, .phase⟩ (by first | exact .head _ | simp) rfl
            subst hq4
            have hq5 : b5 = true := hall ⟨5, .phase⟩ (by first | exact .head _ | simp) rfl
            subst hq5
            have hq6 : b6 = true := hall ⟨6, .phase⟩ (by first | exact .head _ | simp) rfl
            subst hq6
            have hq7 : b7 = true := hall ⟨7, .phase⟩ (by first | exact .head _ | simp) rfl
            subst hq7
            have hq8 : b8 = true := hall ⟨8, .phase⟩ (by first | exact .head _ | simp) rfl
            subst hq8
            clear hall hcl hs hf
            go_simp
            exact hK _ _ ⟨true, true, true, true, true, true, true, true, true, true, b10, b11, kb, va, rfl, rfl, hF⟩
          · intro listed a w1 K hs hcl hf hall hI hK
            obtain ⟨b0, b1, b2, b3, b4, b5, b6, b7, b8, b9, b10, b11, kb, va, rfl, rfl, hF⟩ := hI
            have hf' : b10 = false := hf
            subst hf'
            have hq9 : b9 = true := hall ⟨9, .data⟩ (by first | exact .head _ | simp) rfl
            subst hq9
            have hq0 : b0 = true := hall ⟨0, .phase⟩ (by first | exact .head _ | simp) rfl
            subst hq0
            have hq1 : b1 = true := hall ⟨1, .phase⟩ (by first | exact .head _ | simp) rfl
            subst hq1
            have hq2 : b2 = true := hall ⟨2, .phase⟩ (by first | exact .head _ | simp) rfl
            subst hq2
            have hq3 : b3 = true := hall ⟨3, .phase⟩ (by first | exact .head _ | simp) rfl
            subst hq3
            have hq4 : b4 = true := hall ⟨4, .phase⟩ (by first | exact .head _ | simp) rfl
            subst hq4
            have hq5 : b5 = true := hall ⟨5, .phase⟩ (by first | exact .head _ | simp) rfl
            subst hq5
            have hq6 : b6 = true := hall ⟨6, .phase⟩ (by first | exact .head _ | simp) rfl
            subst hq6
            have hq7 : b7 = true := hall ⟨7, .phase⟩ (by first | exact .head _ | simp) rfl
            subst hq7
            have hq8 : b8 = true := hall ⟨8, .phase⟩ (by first | exact .head _ | simp) rfl
            subst hq8
            clear hall hcl hs hf
            go_simp
            exact hK _ _ ⟨true, true, true, true, true, true, true, true, true, true, true, b11, kb, va, rfl, rfl, hF⟩
          · intro listed a w1 K hs hcl hf hall hI hK
            obtain ⟨b0, b1, b2, b3, b4, b5, b6, b7, b8, b9, b10, b11, kb, va, rfl, rfl, hF⟩ := hI
            have hf' : b11 = false := hf
            subst hf'
            have hq10 : b10 = true := hall ⟨10, .data⟩ (by first | exact .head _ | simp) rfl
            subst hq10
            have hq8 : b8 = true := hall ⟨8, .data⟩ (by first | exact .head _ | simp) rfl
            subst hq8
            have hq0 : b0 = true := hall ⟨0, .phase⟩ (by first | exact .head _ | simp) rfl
            subst hq0
            have hq1 : b1 = true := hall ⟨1, .phase⟩ (by first | exact .head _ | simp) rfl
            subst hq1
            have hq2 : b2 = true := hall ⟨2, .phase⟩ (by first | exact .head _ | simp) rfl
            subst hq2
            have hq3 : b3 = true := hall ⟨3, .phase⟩ (by first | exact .head _ | simp) rfl
            subst hq3
            have hq4 : b4 = true := hall ⟨4, .phase⟩ (by first | exact .head _ | simp) rfl
            subst hq4
            have hq5 : b5 = true := hall ⟨5, .phase⟩ (by first | exact .head _ | simp) rfl
            subst hq5
            have hq6 : b6 = true := hall ⟨6, .phase⟩ (by first | exact .head _ | simp) rfl
            subst hq6
            have hq7 : b7 = true := hall ⟨7, .phase⟩ (by first | exact .head _ | simp) rfl
            subst hq7
            have hq9 : b9 = true := hcl 10 _ rfl rfl ⟨9, .data⟩ (by first | exact .head _ | simp) rfl
            subst hq9
            clear hall hcl hs hf
            have hst := hF.lst HL.out
            obtain ⟨cl, fz⟩ := hst.cell (f := 3) hi rfl
            obtain ⟨A9, c9, hv9, ht9⟩ := hF.va rfl rfl
            subst hv9
            go_simp
            exact hK _ _ ⟨true, true, true, true, true, true, true, true, true, true, true, true, kb, .slice A9 (1 + (js.getD i jd0).needs.length) c9, rfl, rfl, hF.done (hst.putN hi ht9) (by simpa using hF.sz)⟩
        · have ho := (Old.refl w4).alloc (.cells #[.string ⟨#[40]⟩, .string ⟨#[42]⟩, .string ⟨#[91, 97]⟩, .string ⟨#[97, 94, 98]⟩, .string ⟨#[91, 94, 120, 45, 120, 93]⟩, .string ⟨#[92, 113]⟩, .string ⟨#[36, 97]⟩] 9)
          have hb7 := heap_alloc_new w4 (.cells #[.string ⟨#[40]⟩, .string ⟨#[42]⟩, .string ⟨#[91, 97]⟩, .string ⟨#[97, 94, 98]⟩, .string ⟨#[91, 94, 120, 45, 120, 93]⟩, .string ⟨#[92, 113]⟩, .string ⟨#[36, 97]⟩] 9)
          have HL4 := Lib.hid (HL.out.up ho)
          obtain ⟨dl0, hdk⟩ := HL4.out.dk
          obtain ⟨x, l1_, ex⟩ : ∃ x r, nx dl0 7 = (x, r) := ⟨_, _, rfl⟩
          have hx := nx_bd dl0 (show (1 : Int) ≤ 7 by decide)
          have hn := nextDeck B g dl0 7 _ hdk (by decide) (by decide)
          unfold NextPost at hn
          rw [ex] at hx hn
          simp only at hx hn
          have HN := Lib.hid hn
          have HRT : Hid (∀ w', (w4.alloc (.cells #[.string ⟨#[40]⟩, .string ⟨#[42]⟩, .string ⟨#[91, 97]⟩, .string ⟨#[97, 94, 98]⟩, .string ⟨#[91, 94, 120, 45, 120, 93]⟩, .string ⟨#[92, 113]⟩, .string ⟨#[36, 97]⟩] 9)).grownBy w' (some g) → ∃ s, w'.cell? ⟨w4.heap.size, x.toNat, none⟩ = some (.string s)) := Lib.hid (fun w' hg => tab7 (row_turnJ hdk hg hb7 (by decide)) hx.1 hx.2)
          clear hn ex ho hb7 hdk HL
          go_wp2_with fail
          refine (HN.out).mono ?_; rintro e w5 ⟨rfl, hd_, hg_⟩
          obtain ⟨s, hs⟩ := HRT.out w5 hg_
          have HL5 := Lib.hid (HL4.out.turn hd_ hg_)
          clear hd_ hg_ HL4 HN HRT
          obtain ⟨cl, fz⟩ := HL5.out.cell (f := 4) hi rfl
          obtain ⟨⟨cl2, fz2⟩, hcut⟩ := HL5.out.two (f := 4) (f2 := 5) (u := .bool true) (u2 := .string s) { js.getD i jd0 with hasR := true } { js.getD i jd0 with hasR := true, ready := s } hi (by decide) (by decide) rfl rfl rfl ⟨rfl, rfl⟩ ⟨rfl, rfl⟩ ⟨rfl, rfl⟩ ⟨rfl, rfl⟩ ⟨rfl, rfl⟩ ⟨rfl, rfl⟩
          have HX := Lib.hid (hcut.mono (Nat.le_succ b))
          clear hcut HL5
          go_wp2_with fail
          go_meet
          case rel => exact HX.out
        · obtain ⟨dl0_, hdk_⟩ := HL.out.dk
          obtain ⟨x, l1_, ex_⟩ : ∃ x r, nx dl0_ 4 = (x, r) := ⟨_, _, rfl⟩
          have hx := nx_bd dl0_ (show (1 : Int) ≤ 4 by decide)
          have hn_ := nextDeck B g dl0_ 4 _ hdk_ (by decide) (by decide)
          unfold NextPost at hn_
          rw [ex_] at hx hn_
          simp only at hx hn_
          have HN_ := Lib.hid hn_
          clear hn_ ex_
          go_wp2_with fail
          refine (HN_.out).mono ?_; rintro e w3 ⟨rfl, hd_, hg_⟩
          have HLN_ := Lib.hid (HL.out.turn hd_ hg_)
          clear HN_ hd_ hg_ HL hdk_
          obtain ⟨cl, fz⟩ := HLN_.out.cell (f := 8) hi rfl
          have HX : Hid (CutL w B g gb n c (b + 1) (w3.setCell ⟨gb, i * 15 + 8, none⟩ (.int .u64 x))) := Lib.hid ⟨_, (HLN_.out.fld { js.getD i jd0 with cap := x } hi (by decide) rfl ⟨rfl, rfl⟩ ⟨rfl, rfl⟩ ⟨rfl, rfl⟩).mono_ (Nat.le_succ b)⟩
          clear HLN_
          go_wp2_with fail
          go_meet
          case rel => exact HX.out
        · obtain ⟨dl0_, hdk_⟩ := HL.out.dk
          obtain ⟨x, l1_, ex_⟩ : ∃ x r, nx dl0_ 30 = (x, r) := ⟨_, _, rfl⟩
          have hx := nx_bd dl0_ (show (1 : Int) ≤ 30 by decide)
          have hn_ := nextDeck B g dl0_ 30 _ hdk_ (by decide) (by decide)
          unfold NextPost at hn_
          rw [ex_] at hx hn_
          simp only at hx hn_
          have HN_ := Lib.hid hn_
          clear hn_ ex_
          go_wp2_with fail
          refine (HN_.out).mono ?_; rintro e w3 ⟨rfl, hd_, hg_⟩
          have HLN_ := Lib.hid (HL.out.turn hd_ hg_)
          clear HN_ hd_ hg_ HL hdk_
          obtain ⟨cl, fz⟩ := HLN_.out.cell (f := 10) hi rfl
          have HX : Hid (CutL w B g gb n c (b + 1) (w3.setCell ⟨gb, i * 15 + 10, none⟩ (.int .i64 (x - 3)))) := Lib.hid ⟨_, (HLN_.out.fld { js.getD i jd0 with burst := x - 3 } hi (by decide) rfl ⟨rfl, rfl⟩ ⟨rfl, rfl⟩ ⟨rfl, rfl⟩).mono_ (Nat.le_succ b)⟩
          clear HLN_
          go_wp2_with fail
          go_meet
          case rel => exact HX.out
        · obtain ⟨dl0_, hdk_⟩ := HL.out.dk
          obtain ⟨x, l1_, ex_⟩ : ∃ x r, nx dl0_ 2 = (x, r) := ⟨_, _, rfl⟩
          have hx := nx_bd dl0_ (show (1 : Int) ≤ 2 by decide)
          have hn_ := nextDeck B g dl0_ 2 _ hdk_ (by decide) (by decide)
          unfold NextPost at hn_
          rw [ex_] at hx hn_
          simp only at hx hn_
          have HN_ := Lib.hid hn_
          clear hn_ ex_
          go_wp2_with fail
          refine (HN_.out).mono ?_; rintro e w3 ⟨rfl, hd_, hg_⟩
          have HLN_ := Lib.hid (HL.out.turn hd_ hg_)
          clear HN_ hd_ hg_ HL hdk_
          obtain ⟨cl, fz⟩ := HLN_.out.cell (f := 11) hi rfl
          have HX : Hid (CutL w B g gb n c (b + 1) (w3.setCell ⟨gb, i * 15 + 11, none⟩ (.int .u64 x))) := Lib.hid ⟨_, (HLN_.out.fld { js.getD i jd0 with win := x } hi (by decide) rfl ⟨rfl, rfl⟩ ⟨rfl, rfl⟩ ⟨rfl, rfl⟩).mono_ (Nat.le_succ b)⟩
          clear HLN_
          go_wp2_with fail
          go_meet
          case rel => exact HX.out
        · obtain ⟨l0, hdk⟩ := HL.out.dk
          have HDK := Lib.hid hdk
          clear hdk
          obtain ⟨x, l1, ex⟩ : ∃ x r, nx l0 3 = (x, r) := ⟨_, _, rfl⟩
          have hx0 := nx_bd l0 (show (1 : Int) ≤ 3 by decide)
          rw [ex] at hx0
          simp only at hx0
          go_upto_region 20 with fail
          generalize w4 = wr at *
          refine wp_region_steps2 (by kernel_rfl) (by kernel_rfl) (L20 w wr B g gb n c js i b x l0 l1 _ _ _ _ _ _ _ _ _ _ _ _ _ _ _ _ _ _ _ _ _ _ _ _ _ _ _ _ _ _ _ _ _ _ _ _ _ _ _ _ _ _ _ _ _ _ _ _ _ _ _ _ _ _ _ _ _ _ _ _ _ _ _ _ _ _ _ _ _ _ _ _ _ _ _ _ _ _ _ _ _ _ _ _ _ _ _ _ _ _ _ _ _ _ _ _ _ _ _ _ _ _ _ _ _ _ _ _ _ _ _ _) (⟨false, false, false, false, false, false, false, false, false, false, false, false, false, false, false, false, 0, 0, undef, rfl, rfl, ⟨N10.start HL.out HDK.out, fun e => by cases e⟩⟩) ?_ ⟨?_, ?_, ?_, ?_, ?_, ?_, ?_, ?_, ?_, ?_, ?_, ?_, ?_, ?_, ?_, ?_, trivial⟩
          · rintro a w1 ⟨b0, b1, b2, b3, b4, b5, b6, b7, b8, b9, b10, b11, b12, b13, b14, b15, kt, kb, va, hl, rfl, hF⟩
            have hl' := congrArg Array.toList hl
            simp at hl'
            obtain ⟨rfl, rfl, rfl, rfl, rfl, rfl, rfl, rfl, rfl, rfl, rfl, rfl, rfl, rfl, rfl, rfl⟩ := hl'
            clear hl
            have HX := Lib.hid (hF.1.fin rfl)
            clear hF
            go_wp2_with fail
            go_meet
            case rel => exact HX.out
          · intro listed a w1 K hs hcl hf hall hI hK
            obtain ⟨b0, b1, b2, b3, b4, b5, b6, b7, b8, b9, b10, b11, b12, b13, b14, b15, kt, kb, va, rfl, rfl, hF⟩ := hI
            have hf' : b0 = false := hf
            subst hf'
            clear hall hcl hs hf
            go_simp
            exact hK _ _ ⟨true, b1, b2, b3, b4, b5, b6, b7, b8, b9, b10, b11, b12, b13, b14, b15, kt, kb, va, rfl, rfl, hF⟩
          · intro listed a w1 K hs hcl hf hall hI hK
            obtain ⟨b0, b1, b2, b3, b4, b5, b6, b7, b8, b9, b10, b11, b12, b13, b14, b15, kt, kb, va, rfl, rfl, hF⟩ := hI
            have hf' : b1 = false := hf
            subst hf'
            have hb4 : b4 = false := by
              cases b4
              · rfl
              · exact absurd (show false = true from hcl 4 _ rfl rfl ⟨1, .data⟩ (by first | exact .head _ | simp) rfl) (by decide)
            subst hb4
            have hb13 : b13 = false := by
              cases b13
              · rfl
              · exact absurd (show false = true from hcl 13 _ rfl rfl ⟨1, .phase⟩ (by first | exact .head _ | simp) rfl) (by decide)
            subst hb13
            have hb14 : b14 = false := by
              cases b14
              · rfl
              · exact absurd (show false = true from hcl 14 _ rfl rfl ⟨1, .phase⟩ (by first | exact .head _ | simp) rfl) (by decide)
            subst hb14
            have hb15 : b15 = false := by
              cases b15
              · rfl
              · exact absurd (show false = true from hcl 15 _ rfl rfl ⟨1, .phase⟩ (by first | exact .head _ | simp) rfl) (by decide)
            subst hb15
            have hb5 : b5 = false := by
              cases b5
              · rfl
              · exact absurd (show false = true from hcl 5 _ rfl rfl ⟨4, .data⟩ (by first | exact .head _ | simp) rfl) (by decide)
            subst hb5
            have hb6 : b6 = false := by
              cases b6
              · rfl
              · exact absurd (show false = true from hcl 6 _ rfl rfl ⟨5, .data⟩ (by first | exact .head _ | simp) rfl) (by decide)
            subst hb6
            have hb7 : b7 = false := by
              cases b7
              · rfl
              · exact absurd (show false = true from hcl 7 _ rfl rfl ⟨6, .data⟩ (by first | exact .head _ | simp) rfl) (by decide)
            subst hb7
            have hb12 : b12 = false := by
              cases b12
              · rfl
              · exact absurd (show false = true from hcl 12 _ rfl rfl ⟨7, .data⟩ (by first | exact .head _ | simp) rfl) (by decide)
            subst hb12
            clear hall hcl hs hf
            have ho := (Old.refl w1).alloc (.cells #[.int .i64 0, .int .i64 9, .int .i64 7] 3)
            go_simp
            exact hK _ _ ⟨b0, true, b2, b3, false, false, false, false, b8, b9, b10, b11, false, false, false, false, w1.heap.size, kb, va, rfl, rfl, hF.1.up ho, fun _ => heap_alloc_new w1 _⟩
          · intro listed a w1 K hs hcl hf hall hI hK
            obtain ⟨b0, b1, b2, b3, b4, b5, b6, b7, b8, b9, b10, b11, b12, b13, b14, b15, kt, kb, va, rfl, rfl, hF⟩ := hI
            have hf' : b2 = false := hf
            subst hf'
            clear hall hcl hs hf
            go_simp
            exact hK _ _ ⟨b0, b1, true, b3, b4, b5, b6, b7, b8, b9, b10, b11, b12, b13, b14, b15, kt, kb, va, rfl, rfl, hF⟩
          · intro listed a w1 K hs hcl hf hall hI hK
            obtain ⟨b0, b1, b2, b3, b4, b5, b6, b7, b8, b9, b10, b11, b12, b13, b14, b15, kt, kb, va, rfl, rfl, hF⟩ := hI
            have hf' : b3 = false := hf
            subst hf'
            have hq2 : b2 = true := hall ⟨2, .data⟩ (by first | exact .head _ | simp) rfl
            subst hq2
            have hb4 : b4 = false := by
              cases b4
              · rfl
              · exact absurd (show false = true from hcl 4 _ rfl rfl ⟨3, .data⟩ (by first | exact .head _ | simp) rfl) (by decide)
            subst hb4
            have hb12 : b12 = false := by
              cases b12
              · rfl
              · exact absurd (show false = true from hcl 12 _ rfl rfl ⟨3, .chain⟩ (by first | exact .head _ | simp) rfl) (by decide)
            subst hb12
            have hb13 : b13 = false := by
              cases b13
              · rfl
              · exact absurd (show false = true from hcl 13 _ rfl rfl ⟨3, .phase⟩ (by first | exact .head _ | simp) rfl) (by decide)
            subst hb13
            have hb14 : b14 = false := by
              cases b14
              · rfl
              · exact absurd (show false = true from hcl 14 _ rfl rfl ⟨3, .phase⟩ (by first | exact .head _ | simp) rfl) (by decide)
            subst hb14
            have hb15 : b15 = false := by
              cases b15
              · rfl
              · exact absurd (show false = true from hcl 15 _ rfl rfl ⟨3, .phase⟩ (by first | exact .head _ | simp) rfl) (by decide)
            subst hb15
            have hb5 : b5 = false := by
              cases b5
              · rfl
              · exact absurd (show false = true from hcl 5 _ rfl rfl ⟨4, .data⟩ (by first | exact .head _ | simp) rfl) (by decide)
            subst hb5
            have hb6 : b6 = false := by
              cases b6
              · rfl
              · exact absurd (show false = true from hcl 6 _ rfl rfl ⟨5, .data⟩ (by first | exact .head _ | simp) rfl) (by decide)
            subst hb6
            have hb7 : b7 = false := by
              cases b7
              · rfl
              · exact absurd (show false = true from hcl 7 _ rfl rfl ⟨6, .data⟩ (by first | exact .head _ | simp) rfl) (by decide)
            subst hb7
            clear hall hcl hs hf
            have hn := nextDeck B g l0 3 w1 (hF.1.dk rfl) (by decide) (by decide)
            unfold NextPost at hn
            rw [ex] at hn
            have HN := Lib.hid hn
            clear hn
            go_simp
            refine HN.out.mono ?_
            rintro e w2 ⟨rfl, hd, hg⟩
            exact hK _ _ ⟨b0, b1, true, true, false, false, false, false, b8, b9, b10, b11, false, false, false, false, kt, kb, va, rfl, rfl, hF.1.call hd hg, fun e => row_turnJ (hF.1.dk rfl) hg (hF.2 e) (by decide)⟩
          · intro listed a w1 K hs hcl hf hall hI hK
            obtain ⟨b0, b1, b2, b3, b4, b5, b6, b7, b8, b9, b10, b11, b12, b13, b14, b15, kt, kb, va, rfl, rfl, hF⟩ := hI
            have hf' : b4 = false := hf
            subst hf'
            have hq1 : b1 = true := hall ⟨1, .data⟩ (by first | exact .head _ | simp) rfl
            subst hq1
            have hq3 : b3 = true := hall ⟨3, .data⟩ (by first | exact .head _ | simp) rfl
            subst hq3
            clear hall hcl hs hf
            go_simp
            exact hK _ _ ⟨b0, true, b2, true, true, b5, b6, b7, b8, b9, b10, b11, b12, b13, b14, b15, kt, kb, va, rfl, rfl, hF⟩
          · intro listed a w1 K hs hcl hf hall hI hK
            obtain ⟨b0, b1, b2, b3, b4, b5, b6, b7, b8, b9, b10, b11, b12, b13, b14, b15, kt, kb, va, rfl, rfl, hF⟩ := hI
            have hf' : b5 = false := hf
            subst hf'
            have hq4 : b4 = true := hall ⟨4, .data⟩ (by first | exact .head _ | simp) rfl
            subst hq4
            have hq1 : b1 = true := hcl 4 _ rfl rfl ⟨1, .data⟩ (by first | exact .head _ | simp) rfl
            subst hq1
            have hq3 : b3 = true := hcl 4 _ rfl rfl ⟨3, .data⟩ (by first | exact .head _ | simp) rfl
            subst hq3
            have hq2 : b2 = true := hcl 3 _ rfl rfl ⟨2, .data⟩ (by first | exact .head _ | simp) rfl
            subst hq2
            have hb6 : b6 = false := by
              cases b6
              · rfl
              · exact absurd (show false = true from hcl 6 _ rfl rfl ⟨5, .data⟩ (by first | exact .head _ | simp) rfl) (by decide)
            subst hb6
            have hb13 : b13 = false := by
              cases b13
              · rfl
              · exact absurd (show false = true from hcl 13 _ rfl rfl ⟨5, .phase⟩ (by first | exact .head _ | simp) rfl) (by decide)
            subst hb13
            have hb14 : b14 = false := by
              cases b14
              · rfl
              · exact absurd (show false = true from hcl 14 _ rfl rfl ⟨5, .phase⟩ (by first | exact .head _ | simp) rfl) (by decide)
            subst hb14
            have hb15 : b15 = false := by
              cases b15
              · rfl
              · exact absurd (show false = true from hcl 15 _ rfl rfl ⟨5, .phase⟩ (by first | exact .head _ | simp) rfl) (by decide)
            subst hb15
            have hb7 : b7 = false := by
              cases b7
              · rfl
              · exact absurd (show false = true from hcl 7 _ rfl rfl ⟨6, .data⟩ (by first | exact .head _ | simp) rfl) (by decide)
            subst hb7
            have hb12 : b12 = false := by
              cases b12
              · rfl
              · exact absurd (show false = true from hcl 12 _ rfl rfl ⟨7, .data⟩ (by first | exact .head _ | simp) rfl) (by decide)
            subst hb12
            clear hall hcl hs hf
            have q := sig3 (hF.2 rfl) hx0.1 hx0.2
            go_simp
            exact hK _ _ ⟨b0, true, true, true, true, true, false, false, b8, b9, b10, b11, false, false, false, false, kt, kb, va, rfl, rfl, hF⟩
          · intro listed a w1 K hs hcl hf hall hI hK
            obtain ⟨b0, b1, b2, b3, b4, b5, b6, b7, b8, b9, b10, b11, b12, b13, b14, b15, kt, kb, va, rfl, rfl, hF⟩ := hI
            have hf' : b6 = false := hf
            subst hf'
            have hq5 : b5 = true := hall ⟨5, .data⟩ (by first | exact .head _ | simp) rfl
            subst hq5
            clear hall hcl hs hf
            go_simp
            exact hK _ _ ⟨b0, b1, b2, b3, b4, true, true, b7, b8, b9, b10, b11, b12, b13, b14, b15, kt, kb, va, rfl, rfl, hF⟩
          · intro listed a w1 K hs hcl hf hall hI hK
            obtain ⟨b0, b1, b2, b3, b4, b5, b6, b7, b8, b9, b10, b11, b12, b13, b14, b15, kt, kb, va, rfl, rfl, hF⟩ := hI
            have hf' : b7 = false := hf
            subst hf'
            have hq6 : b6 = true := hall ⟨6, .data⟩ (by first | exact .head _ | simp) rfl
            subst hq6
            have hq5 : b5 = true := hcl 6 _ rfl rfl ⟨5, .data⟩ (by first | exact .head _ | simp) rfl
            subst hq5
            have hq4 : b4 = true := hcl 5 _ rfl rfl ⟨4, .data⟩ (by first | exact .head _ | simp) rfl
            subst hq4
            have hq1 : b1 = true := hcl 4 _ rfl rfl ⟨1, .data⟩ (by first | exact .head _ | simp) rfl
            subst hq1
            have hq3 : b3 = true := hcl 4 _ rfl rfl ⟨3, .data⟩ (by first | exact .head _ | simp) rfl
            subst hq3
            have hq2 : b2 = true := hcl 3 _ rfl rfl ⟨2, .data⟩ (by first | exact .head _ | simp) rfl
            subst hq2
            have hb12 : b12 = false := by
              cases b12
              · rfl
              · exact absurd (show false = true from hcl 12 _ rfl rfl ⟨7, .data⟩ (by first | exact .head _ | simp) rfl) (by decide)
            subst hb12
            have hb13 : b13 = false := by
              cases b13
              · rfl
              · exact absurd (show false = true from hcl 13 _ rfl rfl ⟨7, .phase⟩ (by first | exact .head _ | simp) rfl) (by decide)
            subst hb13
            have hb14 : b14 = false := by
              cases b14
              · rfl
              · exact absurd (show false = true from hcl 14 _ rfl rfl ⟨7, .phase⟩ (by first | exact .head _ | simp) rfl) (by decide)
            subst hb14
            have hb15 : b15 = false := by
              cases b15
              · rfl
              · exact absurd (show false = true from hcl 15 _ rfl rfl ⟨7, .phase⟩ (by first | exact .head _ | simp) rfl) (by decide)
            subst hb15
            clear hall hcl hs hf
            have ho := (Old.refl w1).alloc (.cells #[.int .i64 (sg3 x), .int .u64 0] 74)
            go_simp
            exact hK _ _ ⟨b0, true, true, true, true, true, true, true, b8, b9, b10, b11, false, false, false, false, kt, w1.heap.size, va, rfl, rfl, hF.1.bld rfl, fun e => ho.block (hF.2 e)⟩
          · intro listed a w1 K hs hcl hf hall hI hK
            obtain ⟨b0, b1, b2, b3, b4, b5, b6, b7, b8, b9, b10, b11, b12, b13, b14, b15, kt, kb, va, rfl, rfl, hF⟩ := hI
            have hf' : b8 = false := hf
            subst hf'
            clear hall hcl hs hf
            go_simp
            exact hK _ _ ⟨b0, b1, b2, b3, b4, b5, b6, b7, true, b9, b10, b11, b12, b13, b14, b15, kt, kb, va, rfl, rfl, hF⟩
          · intro listed a w1 K hs hcl hf hall hI hK
            obtain ⟨b0, b1, b2, b3, b4, b5, b6, b7, b8, b9, b10, b11, b12, b13, b14, b15, kt, kb, va, rfl, rfl, hF⟩ := hI
            have hf' : b9 = false := hf
            subst hf'
            have hq8 : b8 = true := hall ⟨8, .data⟩ (by first | exact .head _ | simp) rfl
            subst hq8
            clear hall hcl hs hf
            go_simp
            exact hK _ _ ⟨b0, b1, b2, b3, b4, b5, b6, b7, true, true, b10, b11, b12, b13, b14, b15, kt, kb, va, rfl, rfl, hF⟩
          · intro listed a w1 K hs hcl hf hall hI hK
            obtain ⟨b0, b1, b2, b3, b4, b5, b6, b7, b8, b9, b10, b11, b12, b13, b14, b15, kt, kb, va, rfl, rfl, hF⟩ := hI
            have hf' : b10 = false := hf
            subst hf'
            have hq9 : b9 = true := hall ⟨9, .data⟩ (by first | exact .head _ | simp) rfl
            subst hq9
            clear hall hcl hs hf
            go_simp
            exact hK _ _ ⟨b0, b1, b2, b3, b4, b5, b6, b7, b8, true, true, b11, b12, b13, b14, b15, kt, kb, va, rfl, rfl, hF⟩
          · intro listed a w1 K hs hcl hf hall hI hK
            obtain ⟨b0, b1, b2, b3, b4, b5, b6, b7, b8, b9, b10, b11, b12, b13, b14, b15, kt, kb, va, rfl, rfl, hF⟩ := hI
            have hf' : b11 = false := hf
            subst hf'
            have hq10 : b10 = true := hall ⟨10, .data⟩ (by first | exact .head _ | simp) rfl
            subst hq10
            have hq9 : b9 = true := hcl 10 _ rfl rfl ⟨9, .data⟩ (by first | exact .head _ | simp) rfl
            subst hq9
            have hq8 : b8 = true := hcl 9 _ rfl rfl ⟨8, .data⟩ (by first | exact .head _ | simp) rfl
            subst hq8
            have hb12 : b12 = false := by
              cases b12
              · rfl
              · exact absurd (show false = true from hcl 12 _ rfl rfl ⟨11, .data⟩ (by first | exact .head _ | simp) rfl) (by decide)
            subst hb12
            have hb13 : b13 = false := by
              cases b13
              · rfl
              · exact absurd (show false = true from hcl 13 _ rfl rfl ⟨11, .phase⟩ (by first | exact .head _ | simp) rfl) (by decide)
            subst hb13
            have hb14 : b14 = false := by
              cases b14
              · rfl
              · exact absurd (show false = true from hcl 14 _ rfl rfl ⟨11, .phase⟩ (by first | exact .head _ | simp) rfl) (by decide)
            subst hb14
            have hb15 : b15 = false := by
              cases b15
              · rfl
              · exact absurd (show false = true from hcl 15 _ rfl rfl ⟨11, .phase⟩ (by first | exact .head _ | simp) rfl) (by decide)
            subst hb15
            clear hall hcl hs hf
            obtain ⟨cl, _⟩ := (hF.1.lst HL.out).cell (f := 12) hi rfl
            go_simp
            exact hK _ _ ⟨b0, b1, b2, b3, b4, b5, b6, b7, true, true, true, true, false, false, false, false, kt, kb, va, rfl, rfl, hF⟩
          · intro listed a w1 K hs hcl hf hall hI hK
            obtain ⟨b0, b1, b2, b3, b4, b5, b6, b7, b8, b9, b10, b11, b12, b13, b14, b15, kt, kb, va, rfl, rfl, hF⟩ := hI
            have hf' : b12 = false := hf
            subst hf'
            have hq7 : b7 = true := hall ⟨7, .data⟩ (by first | exact .head _ | simp) rfl
            subst hq7
            have hq11 : b11 = true := hall ⟨11, .data⟩ (by first | exact .head _ | simp) rfl
            subst hq11
            have hq3 : b3 = true := hall ⟨3, .chain⟩ (by first | exact .head _ | simp) rfl
            subst hq3
            have hq6 : b6 = true := hcl 7 _ rfl rfl ⟨6, .data⟩ (by first | exact .head _ | simp) rfl
            subst hq6
            have hq10 : b10 = true := hcl 11 _ rfl rfl ⟨10, .data⟩ (by first | exact .head _ | simp) rfl
            subst hq10
            have hq2 : b2 = true := hcl 3 _ rfl rfl ⟨2, .data⟩ (by first | exact .head _ | simp) rfl
            subst hq2
            have hq5 : b5 = true := hcl 6 _ rfl rfl ⟨5, .data⟩ (by first | exact .head _ | simp) rfl
            subst hq5
            have hq9 : b9 = true := hcl 10 _ rfl rfl ⟨9, .data⟩ (by first | exact .head _ | simp) rfl
            subst hq9
            have hq4 : b4 = true := hcl 5 _ rfl rfl ⟨4, .data⟩ (by first | exact .head _ | simp) rfl
            subst hq4
            have hq8 : b8 = true := hcl 9 _ rfl rfl ⟨8, .data⟩ (by first | exact .head _ | simp) rfl
            subst hq8
            have hq1 : b1 = true := hcl 4 _ rfl rfl ⟨1, .data⟩ (by first | exact .head _ | simp) rfl
            subst hq1
            have hb13 : b13 = false := by
              cases b13
              · rfl
              · exact absurd (show false = true from hcl 13 _ rfl rfl ⟨12, .phase⟩ (by first | exact .head _ | simp) rfl) (by decide)
            subst hb13
            have hb14 : b14 = false := by
              cases b14
              · rfl
              · exact absurd (show false = true from hcl 14 _ rfl rfl ⟨12, .phase⟩ (by first | exact .head _ | simp) rfl) (by decide)
            subst hb14
            have hb15 : b15 = false := by
              cases b15
              · rfl
              · exact absurd (show false = true from hcl 15 _ rfl rfl ⟨12, .data⟩ (by first | exact .head _ | simp) rfl) (by decide)
            subst hb15
            clear hall hcl hs hf
            have hown := hF.1.own rfl rfl rfl
            have hsz := hF.1.sz
            obtain ⟨hb1, hb2, hb3⟩ := HBD.out
            refine step_appO w1 (by rfl) _ _ 31 (by rfl) wr.heap.size 74 (.agg #[.int .i64 0, .int .u64 0]) 2 16 Try.underlying31 info_jrung rfl (by decide) (by decide) (.slice (some ⟨kb, 0, none⟩) 1 1) 1 [.int .i64 (sg3 x), .int .u64 0] (by rfl) hown (js.getD i jd0).lA (js.getD i jd0).lad.length (js.getD i jd0).lc (rungs (js.getD i jd0).lad) (by rfl) (hF.1.ladr HL.out hi) (by rw [rungs_length, Nat.mul_comm]) (rungs_one _) (by omega) hsz ?_
            intro v' w' ho hg hst
            obtain ⟨A9, c9, hv9, ht9, _, _⟩ := ho.shape
            subst hv9
            exact hK _ _ ⟨b0, true, true, true, true, true, true, true, true, true, true, true, true, false, false, false, kt, kb, .slice A9 (1 + (js.getD i jd0).lad.length) c9, rfl, rfl, hF.1.app hg ht9, fun e => hown.keeps hg (hF.2 e) (by decide)⟩
          · intro listed a w1 K hs hcl hf hall hI hK
            obtain ⟨b0, b1, b2, b3, b4, b5, b6, b7, b8, b9, b10, b11, b12, b13, b14, b15, kt, kb, va, rfl, rfl, hF⟩ := hI
            have hf' : b13 = false := hf
            subst hf'
            have hq0 : b0 = true := hall ⟨0, .data⟩ (by first | exact .head _ | simp) rfl
            subst hq0
            have hq1 : b1 = true := hall ⟨1, .phase⟩ (by first | exact .head _ | simp) rfl
            subst hq1
            have hq2 : b2 = true := hall ⟨2, .phase⟩ (by first | exact .head _ | simp) rfl
            subst hq2
            have hq3 : b3 = true := hall ⟨3, .phase⟩ (by first | exact .head _ | simp) rfl
            subst hq3
            have hq4 : b4 = true := hall ⟨4, .phase⟩ (by first | exact .head _ | simp) rfl
            subst hq4
            have hq5 : b5 = true := hall ⟨5, .phase⟩ (by first | exact .head _ | simp) rfl
            subst hq5
            have hq6 : b6 = true := hall ⟨6, .phase⟩ (by first | exact .head _ | simp) rfl
            subst hq6
            have hq7 : b7 = true := hall ⟨7, .phase⟩ (by first | exact .head _ | simp) rfl
            subst hq7
            have hq8 : b8 = true := hall ⟨8, .phase⟩ (by first | exact .head _ | simp) rfl
            subst hq8
            have hq9 : b9 = true := hall ⟨9, .phase⟩ (by first | exact .head _ | simp) rfl
            subst hq9
            have hq10 : b10 = true := hall ⟨10, .phase⟩ (by first | exact .head _ | simp) rfl
            subst hq10
            have hq11 : b11 = true := hall ⟨11, .phase⟩ (by first | exact .head _ | simp) rfl
            subst hq11
            have hq12 : b12 = true := hall ⟨12, .phase⟩ (by first | exact .head _ | simp) rfl
            subst hq12
            clear hall hcl hs hf
            go_simp
            exact hK _ _ ⟨true, true, true, true, true, true, true, true, true, true, true, true, true, true, b14, b15, kt, kb, va, rfl, rfl, hF⟩
          · intro listed a w1 K hs hcl hf hall hI hK
            obtain ⟨b0, b1, b2, b3, b4, b5, b6, b7, b8, b9, b10, b11, b12, b13, b14, b15, kt, kb, va, rfl, rfl, hF⟩ := hI
            have hf' : b14 = false := hf
            subst hf'
            have hq13 : b13 = true := hall ⟨13, .data⟩ (by first | exact .head _ | simp) rfl
            subst hq13
            have hq0 : b0 = true := hall ⟨0, .phase⟩ (by first | exact .head _ | simp) rfl
            subst hq0
            have hq1 : b1 = true := hall ⟨1, .phase⟩ (by first | exact .head _ | simp) rfl
            subst hq1
            have hq2 : b2 = true := hall ⟨2, .phase⟩ (by first | exact .head _ | simp) rfl
            subst hq2
            have hq3 : b3 = true := hall ⟨3, .phase⟩ (by first | exact .head _ | simp) rfl
            subst hq3
            have hq4 : b4 = true := hall ⟨4, .phase⟩ (by first | exact .head _ | simp) rfl
            subst hq4
            have hq5 : b5 = true := hall ⟨5, .phase⟩ (by first | exact .head _ | simp) rfl
            subst hq5
            have hq6 : b6 = true := hall ⟨6, .phase⟩ (by first | exact .head _ | simp) rfl
            subst hq6
            have hq7 : b7 = true := hall ⟨7, .phase⟩ (by first | exact .head _ | simp) rfl
            subst hq7
            have hq8 : b8 = true := hall ⟨8, .phase⟩ (by first | exact .head _ | simp) rfl
            subst hq8
            have hq9 : b9 = true := hall ⟨9, .phase⟩ (by first | exact .head _ | simp) rfl
            subst hq9
            have hq10 : b10 = true := hall ⟨10, .phase⟩ (by first | exact .head _ | simp) rfl
            subst hq10
            have hq11 : b11 = true := hall ⟨11, .phase⟩ (by first | exact .head _ | simp) rfl
            subst hq11
            have hq12 : b12 = true := hall ⟨12, .phase⟩ (by first | exact .head _ | simp) rfl
            subst hq12
            clear hall hcl hs hf
            go_simp
            exact hK _ _ ⟨true, true, true, true, true, true, true, true, true, true, true, true, true, true, true, b15, kt, kb, va, rfl, rfl, hF⟩
          · intro listed a w1 K hs hcl hf hall hI hK
            obtain ⟨b0, b1, b2, b3, b4, b5, b6, b7, b8, b9, b10, b11, b12, b13, b14, b15, kt, kb, va, rfl, rfl, hF⟩ := hI
            have hf' : b15 = false := hf
            subst hf'
            have hq14 : b14 = true := hall ⟨14, .data⟩ (by first | exact .head _ | simp) rfl
            subst hq14
            have hq12 : b12 = true := hall ⟨12, .data⟩ (by first | exact .head _ | simp) rfl
            subst hq12
            have hq0 : b0 = true := hall ⟨0, .phase⟩ (by first | exact .head _ | simp) rfl
            subst hq0
            have hq1 : b1 = true := hall ⟨1, .phase⟩ (by first | exact .head _ | simp) rfl
            subst hq1
            have hq2 : b2 = true := hall ⟨2, .phase⟩ (by first | exact .head _ | simp) rfl
            subst hq2
            have hq3 : b3 = true := hall ⟨3, .phase⟩ (by first | exact .head _ | simp) rfl
            subst hq3
            have hq4 : b4 = true := hall ⟨4, .phase⟩ (by first | exact .head _ | simp) rfl
            subst hq4
            have hq5 : b5 = true := hall ⟨5, .phase⟩ (by first | exact .head _ | simp) rfl
            subst hq5
            have hq6 : b6 = true := hall ⟨6, .phase⟩ (by first | exact .head _ | simp) rfl
            subst hq6
            have hq7 : b7 = true := hall ⟨7, .phase⟩ (by first | exact .head _ | simp) rfl
            subst hq7
            have hq8 : b8 = true := hall ⟨8, .phase⟩ (by first | exact .head _ | simp) rfl
            subst hq8
            have hq9 : b9 = true := hall ⟨9, .phase⟩ (by first | exact .head _ | simp) rfl
            subst hq9
            have hq10 : b10 = true := hall ⟨10, .phase⟩ (by first | exact .head _ | simp) rfl
            subst hq10
            have hq11 : b11 = true := hall ⟨11, .phase⟩ (by first | exact .head _ | simp) rfl
            subst hq11
            have hq13 : b13 = true := hcl 14 _ rfl rfl ⟨13, .data⟩ (by first | exact .head _ | simp) rfl
            subst hq13
            clear hall hcl hs hf
            have hst := hF.1.lst HL.out
            obtain ⟨cl, fz⟩ := hst.cell (f := 12) hi rfl
            obtain ⟨A9, c9, hv9, ht9⟩ := hF.1.va rfl rfl
            subst hv9
            go_simp
            exact hK _ _ ⟨true, true, true, true, true, true, true, true, true, true, true, true, true, true, true, true, kt, kb, .slice A9 (1 + (js.getD i jd0).lad.length) c9, rfl, rfl, hF.1.done (hst.putL hi ht9) (by simpa using hF.1.sz), fun e => by rw [heap_setCell_other _ _ _ _ (hF.1.tne HL.out (hF.2 e))]; exact hF.2 e⟩
        · obtain ⟨dl0_, hdk_⟩ := HL.out.dk
          obtain ⟨x, l1_, ex_⟩ : ∃ x r, nx dl0_ 5 = (x, r) := ⟨_, _, rfl⟩
          have hx := nx_bd dl0_ (show (1 : Int) ≤ 5 by decide)
          have hn_ := nextDeck B g dl0_ 5 _ hdk_ (by decide) (by decide)
          unfold NextPost at hn_
          rw [ex_] at hx hn_
          simp only at hx hn_
          have HN_ := Lib.hid hn_
          clear hn_ ex_
          go_wp2_with fail
          refine (HN_.out).mono ?_; rintro e w3 ⟨rfl, hd_, hg_⟩
          have HLN_ := Lib.hid (HL.out.turn hd_ hg_)
          clear HN_ hd_ hg_ HL hdk_
          obtain ⟨cl, fz⟩ := HLN_.out.cell (f := 6) hi rfl
          have HX : Hid (CutL w B g gb n c (b + 1) (w3.setCell ⟨gb, i * 15 + 6, none⟩ (.int .i64 x))) := Lib.hid ⟨_, (HLN_.out.fld { js.getD i jd0 with restart := x } hi (by decide) rfl ⟨rfl, rfl⟩ ⟨rfl, rfl⟩ ⟨rfl, rfl⟩).mono_ (Nat.le_succ b)⟩
          clear HLN_
          go_wp2_with fail
          go_meet
          case rel => exact HX.out
      case rest =>
        obtain ⟨js2, hl2⟩ := hcut
        have HL := Lib.hid hl2
        clear hl2 HLb
        obtain ⟨dl0_, hdk_⟩ := HL.out.dk
        obtain ⟨x, l1_, ex_⟩ : ∃ x r, nx dl0_ 5 = (x, r) := ⟨_, _, rfl⟩
        have hx := nx_bd dl0_ (show (1 : Int) ≤ 5 by decide)
        have hn_ := nextDeck B g dl0_ 5 _ hdk_ (by decide) (by decide)
        unfold NextPost at hn_
        rw [ex_] at hx hn_
        simp only at hx hn_
        have HN_ := Lib.hid hn_
        clear hn_ ex_
        go_wp2_with fail
        refine (HN_.out).mono ?_; rintro e w6 ⟨rfl, hd_, hg_⟩
        have HLN_ := Lib.hid (HL.out.turn hd_ hg_)
        clear HN_ hd_ hg_ HL hdk_
        have HLc := HLN_
        clear HLN_
        obtain ⟨dl0_, hdk_⟩ := HLc.out.dk
        obtain ⟨z, l1_, ex_⟩ : ∃ x r, nx dl0_ 5 = (x, r) := ⟨_, _, rfl⟩
        have hz := nx_bd dl0_ (show (1 : Int) ≤ 5 by decide)
        have hn_ := nextDeck B g dl0_ 5 _ hdk_ (by decide) (by decide)
        unfold NextPost at hn_
        rw [ex_] at hz hn_
        simp only at hz hn_
        have HN_ := Lib.hid hn_
        clear hn_ ex_
        go_wp2_with fail
        refine (HN_.out).mono ?_; rintro e w7 ⟨rfl, hd_, hg_⟩
        have HLN_ := Lib.hid (HLc.out.turn hd_ hg_)
        clear HN_ hd_ hg_ HLc hdk_
        obtain ⟨cl, fz⟩ := HLN_.out.cell (f := 13) hi rfl
        obtain ⟨⟨cl2, fz2⟩, hcut⟩ := HLN_.out.two (f := 13) (f2 := 14) (u := .int .i64 x) (u2 := .int .i64 z) { js2.getD i jd0 with line := x } { js2.getD i jd0 with line := x, col := z } hi (by decide) (by decide) rfl rfl rfl ⟨rfl, rfl⟩ ⟨rfl, rfl⟩ ⟨rfl, rfl⟩ ⟨rfl, rfl⟩ ⟨rfl, rfl⟩ ⟨rfl, rfl⟩
        obtain ⟨js3, hl3⟩ := hcut
        have HX : Hid (LoRel w B g gb n c (.int .i64 ((k : Int) - 1)) ((w7.setCell ⟨gb, i * 15 + 13, none⟩ (.int .i64 x)).setCell ⟨gb, i * 15 + 14, none⟩ (.int .i64 z))) := Lib.hid ⟨k - 1, b + 1, js3, (by congr 1; omega), by omega, by omega, Lib.hid hl3⟩
        clear hl3 HLN_
        go_wp2_with fail
        go_roundw
        case rel => exact HX.out
        case measure => simp [intOf]; omega
    · obtain rfl : k = 0 := by omega
      have HX := Lib.hid (HPO.out gb n c js wr hl1 hl4 (HL.out.mono_ (by omega)))
      clear HL HPO
      go_wp2_with fail
      go_ret
      exact HX.out
end Go.Proofs.Ytpknglclcdgfbaa
