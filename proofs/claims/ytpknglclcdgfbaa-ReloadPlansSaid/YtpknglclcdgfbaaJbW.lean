/-
  The walk of mill.Job.
-/
import Derived.Test.YtpknglclcdgfbaaJbT
import Derived.Test.YtpknglclcdgfbaaStep
namespace Go.Proofs.Ytpknglclcdgfbaa
open Go.RowKit Go.Shelf
set_option linter.unusedVariables false

def JR1 (w0 : World) (B g k6 : Nat) (nm : ByteArray) (A : Option Addr) (n c : Nat) (x1 x2 x3 x4 x5 x6 : Int) (l0 l1 l2 l3 l4 l5 l6 : List Int) (listed : Array Bool) (a : Act) (w : World) : Prop :=
  ∃ (b0 b1 b2 b3 b4 b5 b6 b7 b8 b9 b10 b11 b12 b13 b14 b15 b16 b17 b18 b19 b20 b21 : Bool) (ka kb : Nat) (nov : Value), listed = #[b0, b1, b2, b3, b4, b5, b6, b7, b8, b9, b10, b11, b12, b13, b14, b15, b16, b17, b18, b19, b20, b21] ∧
    a = { tmps := #[.pointer (some ⟨g, 0, none⟩), .string nm, .slice A n c, undef, undef, undef, .pointer (some ⟨k6, 0, none⟩), cond b20 (.pointer (some ⟨ka, 0, none⟩)) (undef), undef, undef, undef, cond b0 (.string nm) (undef), cond b1 (.slice (some ⟨kb, 0, none⟩) 4 4) (undef), cond b2 (.pointer (some ⟨g, 0, none⟩)) (undef), cond b3 (.int .i64 x1) (undef), cond b4 (.pointer (some ⟨kb, x1.toNat, none⟩)) (undef), cond b5 (.string (runOf x1)) (undef), cond b6 (.pointer (some ⟨g, 0, none⟩)) (undef), cond b7 (.int .i64 x2) (undef), cond b8 (.pointer (some ⟨g, 0, none⟩)) (undef), cond b9 (.int .i64 x3) (undef), cond b10 (.int .u64 x3) (undef), cond b11 (.pointer (some ⟨g, 0, none⟩)) (undef), cond b12 (.int .i64 x4) (undef), cond b13 (.int .u64 x4) (undef), cond b14 (.pointer (some ⟨g, 0, none⟩)) (undef), cond b15 (.int .i64 x5) (undef), cond b16 (.pointer (some ⟨g, 0, none⟩)) (undef), cond b17 (.int .i64 x6) (undef), cond b18 (.int .u64 x6) (undef), cond b19 (.agg (jobV0 nm x1 x2 x3 x4 x5 x6)) (undef), undef, undef, undef, undef, undef, undef, undef, undef, undef, undef, undef, undef, undef, undef, undef, undef, undef, undef, undef, undef, undef, undef, undef, undef, undef, undef, undef, undef, undef, undef, undef, undef, undef, undef, undef, undef, undef, undef, undef, undef, undef, undef, undef, undef, undef, undef, undef, undef, undef, undef, undef, undef, undef, undef, undef, undef, undef, undef, undef, undef, undef, undef, undef, undef], defers := [] } ∧ J1 w0 B g k6 b1 b20 b21 (cond b17 l6 (cond b15 l5 (cond b12 l4 (cond b9 l3 (cond b7 l2 (cond b3 l1 l0)))))) ka kb (jobV0 nm x1 x2 x3 x4 x5 x6) w
def JR2 (w0 : World) (B g k k6 : Nat) (nm : ByteArray) (A : Option Addr) (n c : Nat) (x bs : Int) (l l' : List Int) (j j2 : Jd) (u11 u12 u13 u14 u15 u16 u17 u18 u19 u20 u21 u22 u23 u24 u25 u26 u27 u28 u29 u30 u31 u32 u33 u34 u35 u36 u37 u38 u39 u40 u41 u42 u43 u44 u45 u46 u47 u51 u52 u53 u54 u55 u56 u57 u58 u59 u60 u61 u62 u63 u64 u65 u66 u67 u68 u69 u70 u71 u72 u73 u74 u75 u76 u77 u78 u79 u80 u81 u82 u83 u84 u85 u86 u87 u88 u89 u90 u91 u92 u93 u94 : Value) (listed : Array Bool) (a : Act) (w : World) : Prop :=
  ∃ (b0 b1 b2 b3 b4 b5 b6 b7 : Bool) (dummy : Nat) (nov : Value), listed = #[b0, b1, b2, b3, b4, b5, b6, b7] ∧
    a = { tmps := #[.pointer (some ⟨g, 0, none⟩), .string nm, .slice A n c, undef, undef, undef, .pointer (some ⟨k6, 0, none⟩), .pointer (some ⟨k, 0, none⟩), undef, undef, undef, u11, u12, u13, u14, u15, u16, u17, u18, u19, u20, u21, u22, u23, u24, u25, u26, u27, u28, u29, u30, cond b0 (.pointer (some ⟨k, 7, none⟩)) (u31), cond b1 (.int .u64 bs) (u32), cond b2 (.pointer (some ⟨g, 0, none⟩)) (u33), cond b3 (.int .i64 x) (u34), cond b4 (.int .u64 x) (u35), cond b5 (.int .u64 (bs + x)) (u36), cond b6 (.pointer (some ⟨k, 8, none⟩)) (u37), u38, u39, u40, u41, u42, u43, u44, u45, u46, u47, undef, undef, undef, u51, u52, u53, u54, u55, u56, u57, u58, u59, u60, u61, u62, u63, u64, u65, u66, u67, u68, u69, u70, u71, u72, u73, u74, u75, u76, u77, u78, u79, u80, u81, u82, u83, u84, u85, u86, u87, u88, u89, u90, u91, u92, u93, u94], defers := [] } ∧ JC w0 w B g k k6 (cond b3 l' l) (cond b7 j2 j)
def JR12 (w0 : World) (B g k k6 : Nat) (nm : ByteArray) (A : Option Addr) (n c : Nat) (x : Int) (v9 : Value) (l l' : List Int) (j : Jd) (u11 u12 u13 u14 u15 u16 u17 u18 u19 u20 u21 u22 u23 u24 u25 u26 u27 u28 u29 u30 u31 u32 u33 u34 u35 u36 u37 u38 u39 u40 u41 u42 u43 u44 u45 u46 u47 u51 u52 u53 u54 u55 u56 u57 u58 u59 u60 u61 u62 u63 u64 u65 u66 u67 u68 u69 u70 u71 u72 u73 u74 u75 u76 u77 u78 u79 u80 u81 u82 u83 u84 u85 u86 u87 u88 u89 u90 u91 u92 u93 u94 : Value) (listed : Array Bool) (a : Act) (w : World) : Prop :=
  ∃ (b0 b1 b2 b3 b4 b5 b6 b7 b8 : Bool) (kp : Nat) (nov : Value), listed = #[b0, b1, b2, b3, b4, b5, b6, b7, b8] ∧
    a = { tmps := #[.pointer (some ⟨g, 0, none⟩), .string nm, .slice A n c, undef, undef, undef, .pointer (some ⟨k6, 0, none⟩), .pointer (some ⟨k, 0, none⟩), undef, v9, undef, u11, u12, u13, u14, u15, u16, u17, u18, u19, u20, u21, u22, u23, u24, u25, u26, u27, u28, u29, u30, u31, u32, u33, u34, u35, u36, u37, u38, u39, u40, u41, u42, u43, u44, u45, u46, u47, .slice A n c, .int .i64 (n : Int), .int .i64 (n : Int), u51, u52, u53, u54, u55, u56, u57, u58, u59, u60, u61, u62, u63, u64, u65, u66, cond b0 (.slice (some ⟨kp, 0, none⟩) 7 7) (u67), cond b1 (.pointer (some ⟨g, 0, none⟩)) (u68), cond b2 (.int .i64 x) (u69), cond b3 (.pointer (some ⟨kp, x.toNat, none⟩)) (u70), cond b4 (.string (patOf x)) (u71), cond b5 (.pointer (some ⟨k, 4, none⟩)) (u72), cond b7 (.pointer (some ⟨k, 5, none⟩)) (u73), u74, u75, u76, u77, u78, u79, u80, u81, u82, u83, u84, u85, u86, u87, u88, u89, u90, u91, u92, u93, u94], defers := [] } ∧ J12 w0 w B g k k6 b0 kp (cond b2 l' l) (cond b8 { j with hasR := true, ready := patOf x } (cond b6 { j with hasR := true } j))
def JR16 (w0 : World) (B g k k6 : Nat) (nm : ByteArray) (A : Option Addr) (n c kk q13 : Nat) (x y : Int) (v9 : Value) (l l1 l2 : List Int) (j : Jd) (u11 u12 u13 u14 u15 u16 u17 u18 u19 u20 u21 u22 u23 u24 u25 u26 u27 u28 u29 u30 u31 u32 u33 u34 u35 u36 u37 u38 u39 u40 u41 u42 u43 u44 u45 u46 u47 u51 u52 u53 u54 u55 u56 u57 u58 u59 u60 u61 u62 u63 u64 u65 u66 u67 u68 u69 u70 u71 u72 u73 u78 u79 u80 u81 u82 u83 u84 u85 u86 u87 u88 u89 u90 u91 u92 u93 u94 : Value) (listed : Array Bool) (a : Act) (w : World) : Prop :=
  ∃ (b0 b1 b2 b3 b4 b5 b6 b7 b8 b9 b10 b11 b12 b13 b14 : Bool) (kb kc : Nat) (va : Value), listed = #[b0, b1, b2, b3, b4, b5, b6, b7, b8, b9, b10, b11, b12, b13, b14] ∧
    a = { tmps := #[.pointer (some ⟨g, 0, none⟩), .string nm, .slice A n c, undef, undef, undef, .pointer (some ⟨k6, 0, none⟩), .pointer (some ⟨k, 0, none⟩), undef, v9, .int .i64 (kk : Int), u11, u12, u13, u14, u15, u16, u17, u18, u19, u20, u21, u22, u23, u24, u25, u26, u27, u28, u29, u30, u31, u32, u33, u34, u35, u36, u37, u38, u39, u40, u41, u42, u43, u44, u45, u46, u47, .slice A n c, .int .i64 (n : Int), .int .i64 (n : Int), u51, u52, u53, u54, u55, u56, u57, u58, u59, u60, u61, u62, u63, u64, u65, u66, u67, u68, u69, u70, u71, u72, u73, .pointer (some ⟨g, 0, none⟩), .int .i64 (q13 : Int), .int .i64 (kk : Int), .bool true, u78, u79, cond b0 (.pointer (some ⟨k, 12, none⟩)) (u80), cond b1 (.slice j.lA j.lad.length j.lc) (u81), cond b2 (.slice (some ⟨kb, 0, none⟩) 3 3) (u82), cond b3 (.pointer (some ⟨g, 0, none⟩)) (u83), cond b4 (.int .i64 x) (u84), cond b5 (.pointer (some ⟨kb, x.toNat, none⟩)) (u85), cond b6 (.int .i64 (sigOf x)) (u86), cond b7 (.pointer (some ⟨g, 0, none⟩)) (u87), cond b8 (.int .i64 y) (u88), cond b9 (.int .u64 y) (u89), cond b10 (.agg #[.int .i64 (sigOf x), .int .u64 y]) (u90), cond b11 (.slice (some ⟨kc, 0, none⟩) 1 1) (u91), cond b12 (va) (u92), cond b13 (.pointer (some ⟨k, 12, none⟩)) (u93), u94], defers := [] } ∧ J16 w0 B g k k6 j (sigOf x) y (cond b8 l2 (cond b4 l1 l)) b2 b11 b12 b14 kb kc va w
def L1Rel (w : World) (B g k : Nat) (nm : ByteArray) (os : List ByteArray) (s9 s50 : Value) (wr : World) : Prop :=
  ∃ (v9 : Value) (i : Nat) (l' : List Int) (j : Jd), v9 = s9 ∧ s50 = .int .i64 (i : Int) ∧ i ≤ os.length ∧ JdBd nm j ∧ j.needs.length ≤ i ∧ LadNil j ∧ JC w wr B g k w.heap.size l' j
def L2Rel (w : World) (B g k : Nat) (nm : ByteArray) (os : List ByteArray) (s10 : Value) (wr : World) : Prop :=
  ∃ (kk : Nat) (l' : List Int) (j : Jd), s10 = .int .i64 (kk : Int) ∧ kk ≤ 3 ∧ JdBd nm j ∧ j.needs.length ≤ os.length ∧ 1 ≤ j.lad.length + kk ∧ j.lad.length + kk ≤ 3 ∧ (∀ r ∈ j.lad, 0 ≤ r.2 ∧ r.2 < 9) ∧ JC w wr B g k w.heap.size l' j ∧ LO w wr (.slice j.lA j.lad.length j.lc) j.lad
set_option maxHeartbeats 8000000 in
set_option maxRecDepth 100000 in
theorem jobC (B g : Nat) (l0 : List Int) (nm : ByteArray) (A : Option Addr) (c : Nat) (os : List ByteArray) (w : World) (h : Dk w B g l0) (hts : Ts w 9 A (strsV os)) (hm : os.length ≤ 1000) :
    Calls Try.prog 20 #[.pointer (some ⟨g, 0, none⟩), .string nm, .slice A os.length c] w (JobPost w B g nm os.length) := by
  have hgl := h.lt
  obtain ⟨x1, l1, e1⟩ : ∃ x r, nx l0 4 = (x, r) := ⟨_, _, rfl⟩
  obtain ⟨x2, l2, e2⟩ : ∃ x r, (1 + (nx l1 (3 - 1 + 1)).1, (nx l1 (3 - 1 + 1)).2) = (x, r) := ⟨_, _, rfl⟩
  obtain ⟨x3, l3, e3⟩ : ∃ x r, nx l2 6 = (x, r) := ⟨_, _, rfl⟩
  obtain ⟨x4, l4, e4⟩ : ∃ x r, nx l3 20 = (x, r) := ⟨_, _, rfl⟩
  obtain ⟨x5, l5, e5⟩ : ∃ x r, (1 + (nx l4 (4 - 1 + 1)).1, (nx l4 (4 - 1 + 1)).2) = (x, r) := ⟨_, _, rfl⟩
  obtain ⟨x6, l6, e6⟩ : ∃ x r, (1 + (nx l5 (30 - 1 + 1)).1, (nx l5 (30 - 1 + 1)).2) = (x, r) := ⟨_, _, rfl⟩
  have d1 := nx_bd l0 (show (1 : Int) ≤ 4 by decide)
  have d2 := nx_bd l1 (show (1 : Int) ≤ 3 - 1 + 1 by decide)
  have d3 := nx_bd l2 (show (1 : Int) ≤ 6 by decide)
  have d4 := nx_bd l3 (show (1 : Int) ≤ 20 by decide)
  have d5 := nx_bd l4 (show (1 : Int) ≤ 4 - 1 + 1 by decide)
  have d6 := nx_bd l5 (show (1 : Int) ≤ 30 - 1 + 1 by decide)
  rw [e1] at d1
  rw [e3] at d3
  rw [e4] at d4
  have f2 := congrArg Prod.fst e2
  have f5 := congrArg Prod.fst e5
  have f6 := congrArg Prod.fst e6
  simp only at d1 d3 d4 f2 f5 f6
  have b2 : 1 ≤ x2 ∧ x2 ≤ 3 := by omega
  have b5 : 1 ≤ x5 ∧ x5 ≤ 4 := by omega
  have b6 : 1 ≤ x6 ∧ x6 ≤ 30 := by omega
  have u3 := IntWalk.u64_in x3 (by omega)
  have u4 := IntWalk.u64_in x4 (by omega)
  have u6 := IntWalk.u64_in x6 (by omega)
  clear d2 d5 d6 f2 f5 f6
  go_enter Try.func20, Try.ntmps20
  go_upto_region 1 with fail
  go_cut [7] (fun s7 wx => ∃ k, s7 = .pointer (some ⟨k, 0, none⟩) ∧ JC w wx B g k w.heap.size l6 (jd1 nm x1 x2 x3 x4 x5 x6))
  case first =>
    refine wp_region_steps2 (by kernel_rfl) (by kernel_rfl) (JR1 w B g w.heap.size nm A os.length c x1 x2 x3 x4 x5 x6 l0 l1 l2 l3 l4 l5 l6) ?_ ?_ ⟨?_, ?_, ?_, ?_, ?_, ?_, ?_, ?_, ?_, ?_, ?_, ?_, ?_, ?_, ?_, ?_, ?_, ?_, ?_, ?_, ?_, ?_, trivial⟩
    · exact ⟨false, false, false, false, false, false, false, false, false, false, false, false, false, false, false, false, false, false, false, false, false, false, 0, 0, undef, rfl, rfl, J1.start h _ _ _⟩
    · rintro a w1 ⟨b0, b1, b2, b3, b4, b5, b6, b7, b8, b9, b10, b11, b12, b13, b14, b15, b16, b17, b18, b19, b20, b21, ka, kb, nov, hl, rfl, hF⟩
      have hl' := congrArg Array.toList hl
      simp at hl'
      obtain ⟨rfl, rfl, rfl, rfl, rfl, rfl, rfl, rfl, rfl, rfl, rfl, rfl, rfl, rfl, rfl, rfl, rfl, rfl, rfl, rfl, rfl, rfl⟩ := hl'
      clear hl
      obtain ⟨q1, q2, q3, q4, q5, q6, q7⟩ := hF
      obtain ⟨r1, r2, r3⟩ := q7 rfl
      have HX : Hid (JC w w1 B g ka w.heap.size l6 (jd1 nm x1 x2 x3 x4 x5 x6)) := Lib.hid ⟨q1, q2, r1, r3, q3, q4, r2, q5, Or.inl rfl, Own.nil_ _ _ _ _⟩
      clear q1 q2 q3 q4 q5 q6 q7 r1 r2 r3
      go_wp2_with fail
      go_meet
      case rel => exact ⟨ka, rfl, HX.out⟩
    · intro listed a w1 K hs hcl hf hall hI hK
      obtain ⟨b0, b1, b2, b3, b4, b5, b6, b7, b8, b9, b10, b11, b12, b13, b14, b15, b16, b17, b18, b19, b20, b21, ka, kb, nov, rfl, rfl, hF⟩ := hI
      have hf' : b0 = false := hf
      subst hf'
      clear hall hcl hs hf
      go_simp
      exact hK _ _ ⟨true, b1, b2, b3, b4, b5, b6, b7, b8, b9, b10, b11, b12, b13, b14, b15, b16, b17, b18, b19, b20, b21, ka, kb, nov, rfl, rfl, hF⟩
    · intro listed a w1 K hs hcl hf hall hI hK
      obtain ⟨b0, b1, b2, b3, b4, b5, b6, b7, b8, b9, b10, b11, b12, b13, b14, b15, b16, b17, b18, b19, b20, b21, ka, kb, nov, rfl, rfl, hF⟩ := hI
      have hf' : b1 = false := hf
      subst hf'
      have hb4 : b4 = false := by
        cases b4
        · rfl
        · exact absurd (show false = true from hcl 4 _ rfl rfl ⟨1, .data⟩ (by first | exact .head _ | simp) rfl) (by decide)
      subst hb4
      have hb21 : b21 = false := by
        cases b21
        · rfl
        · exact absurd (show false = true from hcl 21 _ rfl rfl ⟨1, .phase⟩ (by first | exact .head _ | simp) rfl) (by decide)
      subst hb21
      have hb5 : b5 = false := by
        cases b5
        · rfl
        · exact absurd (show false = true from hcl 5 _ rfl rfl ⟨4, .data⟩ (by first | exact .head _ | simp) rfl) (by decide)
      subst hb5
      have hb19 : b19 = false := by
        cases b19
        · rfl
        · exact absurd (show false = true from hcl 19 _ rfl rfl ⟨5, .data⟩ (by first | exact .head _ | simp) rfl) (by decide)
      subst hb19
      clear hall hcl hs hf
      go_simp
      exact hK _ _ ⟨b0, true, b2, b3, false, false, b6, b7, b8, b9, b10, b11, b12, b13, b14, b15, b16, b17, b18, false, b20, false, ka, w1.heap.size, nov, rfl, rfl, hF.bs⟩
    · intro listed a w1 K hs hcl hf hall hI hK
      obtain ⟨b0, b1, b2, b3, b4, b5, b6, b7, b8, b9, b10, b11, b12, b13, b14, b15, b16, b17, b18, b19, b20, b21, ka, kb, nov, rfl, rfl, hF⟩ := hI
      have hf' : b2 = false := hf
      subst hf'
      clear hall hcl hs hf
      go_simp
      exact hK _ _ ⟨b0, b1, true, b3, b4, b5, b6, b7, b8, b9, b10, b11, b12, b13, b14, b15, b16, b17, b18, b19, b20, b21, ka, kb, nov, rfl, rfl, hF⟩
    · intro listed a w1 K hs hcl hf hall hI hK
      obtain ⟨b0, b1, b2, b3, b4, b5, b6, b7, b8, b9, b10, b11, b12, b13, b14, b15, b16, b17, b18, b19, b20, b21, ka, kb, nov, rfl, rfl, hF⟩ := hI
      have hf' : b3 = false := hf
      subst hf'
      have hq2 : b2 = true := hall ⟨2, .data⟩ (by first | exact .head _ | simp) rfl
      subst hq2
      have hb4 : b4 = false := by
        cases b4
        · rfl
        · exact absurd (show false = true from hcl 4 _ rfl rfl ⟨3, .data⟩ (by first | exact .head _ | simp) rfl) (by decide)
      subst hb4
      have hb7 : b7 = false := by
        cases b7
        · rfl
        · exact absurd (show false = true from hcl 7 _ rfl rfl ⟨3, .chain⟩ (by first | exact .head _ | simp) rfl) (by decide)
      subst hb7
      have hb21 : b21 = false := by
        cases b21
        · rfl
        · exact absurd (show false = true from hcl 21 _ rfl rfl ⟨3, .phase⟩ (by first | exact .head _ | simp) rfl) (by decide)
      subst hb21
      have hb5 : b5 = false := by
        cases b5
        · rfl
        · exact absurd (show false = true from hcl 5 _ rfl rfl ⟨4, .data⟩ (by first | exact .head _ | simp) rfl) (by decide)
      subst hb5
      have hb9 : b9 = false := by
        cases b9
        · rfl
        · exact absurd (show false = true from hcl 9 _ rfl rfl ⟨7, .chain⟩ (by first | exact .head _ | simp) rfl) (by decide)
      subst hb9
      have hb19 : b19 = false := by
        cases b19
        · rfl
        · exact absurd (show false = true from hcl 19 _ rfl rfl ⟨7, .data⟩ (by first | exact .head _ | simp) rfl) (by decide)
      subst hb19
      have hb10 : b10 = false := by
        cases b10
        · rfl
        · exact absurd (show false = true from hcl 10 _ rfl rfl ⟨9, .data⟩ (by first | exact .head _ | simp) rfl) (by decide)
      subst hb10
      have hb12 : b12 = false := by
        cases b12
        · rfl
        · exact absurd (show false = true from hcl 12 _ rfl rfl ⟨9, .chain⟩ (by first | exact .head _ | simp) rfl) (by decide)
      subst hb12
      have hb13 : b13 = false := by
        cases b13
        · rfl
        · exact absurd (show false = true from hcl 13 _ rfl rfl ⟨12, .data⟩ (by first | exact .head _ | simp) rfl) (by decide)
      subst hb13
      have hb15 : b15 = false := by
        cases b15
        · rfl
        · exact absurd (show false = true from hcl 15 _ rfl rfl ⟨12, .chain⟩ (by first | exact .head _ | simp) rfl) (by decide)
      subst hb15
      have hb17 : b17 = false := by
        cases b17
        · rfl
        · exact absurd (show false = true from hcl 17 _ rfl rfl ⟨15, .chain⟩ (by first | exact .head _ | simp) rfl) (by decide)
      subst hb17
      have hb18 : b18 = false := by
        cases b18
        · rfl
        · exact absurd (show false = true from hcl 18 _ rfl rfl ⟨17, .data⟩ (by first | exact .head _ | simp) rfl) (by decide)
      subst hb18
      clear hall hcl hs hf
      have hn := nextDeck B g l0 4 w1 hF.dk (by decide) (by decide)
      rw [e1] at hn
      go_simp
      refine hn.mono ?_
      rintro e w2 ⟨rfl, hd, hg⟩
      exact hK _ _ ⟨b0, b1, true, true, false, false, b6, false, b8, false, false, b11, false, false, b14, false, b16, false, false, false, b20, false, ka, kb, nov, rfl, rfl, hF.turn hd hg⟩
    · intro listed a w1 K hs hcl hf hall hI hK
      obtain ⟨b0, b1, b2, b3, b4, b5, b6, b7, b8, b9, b10, b11, b12, b13, b14, b15, b16, b17, b18, b19, b20, b21, ka, kb, nov, rfl, rfl, hF⟩ := hI
      have hf' : b4 = false := hf
      subst hf'
      have hq1 : b1 = true := hall ⟨1, .data⟩ (by first | exact .head _ | simp) rfl
      subst hq1
      have hq3 : b3 = true := hall ⟨3, .data⟩ (by first | exact .head _ | simp) rfl
      subst hq3
      clear hall hcl hs hf
      go_simp
      exact hK _ _ ⟨b0, true, b2, true, true, b5, b6, b7, b8, b9, b10, b11, b12, b13, b14, b15, b16, b17, b18, b19, b20, b21, ka, kb, nov, rfl, rfl, hF⟩
    · intro listed a w1 K hs hcl hf hall hI hK
      obtain ⟨b0, b1, b2, b3, b4, b5, b6, b7, b8, b9, b10, b11, b12, b13, b14, b15, b16, b17, b18, b19, b20, b21, ka, kb, nov, rfl, rfl, hF⟩ := hI
      have hf' : b5 = false := hf
      subst hf'
      have hq4 : b4 = true := hall ⟨4, .data⟩ (by first | exact .head _ | simp) rfl
      subst hq4
      have hq1 : b1 = true := hcl 4 _ rfl rfl ⟨1, .data⟩ (by first | exact .head _ | simp) rfl
      subst hq1
      have hq3 : b3 = true := hcl 4 _ rfl rfl ⟨3, .data⟩ (by first | exact .head _ | simp) rfl
      subst hq3
      have hq2 : b2 = true := hcl 3 _ rfl rfl ⟨2, .data⟩ (by first | exact .head _ | simp) rfl
      subst hq2
      have hb19 : b19 = false := by
        cases b19
        · rfl
        · exact absurd (show false = true from hcl 19 _ rfl rfl ⟨5, .data⟩ (by first | exact .head _ | simp) rfl) (by decide)
      subst hb19
      have hb21 : b21 = false := by
        cases b21
        · rfl
        · exact absurd (show false = true from hcl 21 _ rfl rfl ⟨5, .phase⟩ (by first | exact .head _ | simp) rfl) (by decide)
      subst hb21
      clear hall hcl hs hf
      have hr := hF.run d1.1 d1.2
      go_simp
      exact hK _ _ ⟨b0, true, true, true, true, true, b6, b7, b8, b9, b10, b11, b12, b13, b14, b15, b16, b17, b18, false, b20, false, ka, kb, nov, rfl, rfl, hF⟩
    · intro listed a w1 K hs hcl hf hall hI hK
      obtain ⟨b0, b1, b2, b3, b4, b5, b6, b7, b8, b9, b10, b11, b12, b13, b14, b15, b16, b17, b18, b19, b20, b21, ka, kb, nov, rfl, rfl, hF⟩ := hI
      have hf' : b6 = false := hf
      subst hf'
      clear hall hcl hs hf
      go_simp
      exact hK _ _ ⟨b0, b1, b2, b3, b4, b5, true, b7, b8, b9, b10, b11, b12, b13, b14, b15, b16, b17, b18, b19, b20, b21, ka, kb, nov, rfl, rfl, hF⟩
    · intro listed a w1 K hs hcl hf hall hI hK
      obtain ⟨b0, b1, b2, b3, b4, b5, b6, b7, b8, b9, b10, b11, b12, b13, b14, b15, b16, b17, b18, b19, b20, b21, ka, kb, nov, rfl, rfl, hF⟩ := hI
      have hf' : b7 = false := hf
      subst hf'
      have hq6 : b6 = true := hall ⟨6, .data⟩ (by first | exact .head _ | simp) rfl
      subst hq6
      have hq3 : b3 = true := hall ⟨3, .chain⟩ (by first | exact .head _ | simp) rfl
      subst hq3
      have hq2 : b2 = true := hcl 3 _ rfl rfl ⟨2, .data⟩ (by first | exact .head _ | simp) rfl
      subst hq2
      have hb9 : b9 = false := by
        cases b9
        · rfl
        · exact absurd (show false = true from hcl 9 _ rfl rfl ⟨7, .chain⟩ (by first | exact .head _ | simp) rfl) (by decide)
      subst hb9
      have hb19 : b19 = false := by
        cases b19
        · rfl
        · exact absurd (show false = true from hcl 19 _ rfl rfl ⟨7, .data⟩ (by first | exact .head _ | simp) rfl) (by decide)
      subst hb19
      have hb21 : b21 = false := by
        cases b21
        · rfl
        · exact absurd (show false = true from hcl 21 _ rfl rfl ⟨7, .phase⟩ (by first | exact .head _ | simp) rfl) (by decide)
      subst hb21
      have hb10 : b10 = false := by
        cases b10
        · rfl
        · exact absurd (show false = true from hcl 10 _ rfl rfl ⟨9, .data⟩ (by first | exact .head _ | simp) rfl) (by decide)
      subst hb10
      have hb12 : b12 = false := by
        cases b12
        · rfl
        · exact absurd (show false = true from hcl 12 _ rfl rfl ⟨9, .chain⟩ (by first | exact .head _ | simp) rfl) (by decide)
      subst hb12
      have hb13 : b13 = false := by
        cases b13
        · rfl
        · exact absurd (show false = true from hcl 13 _ rfl rfl ⟨12, .data⟩ (by first | exact .head _ | simp) rfl) (by decide)
      subst hb13
      have hb15 : b15 = false := by
        cases b15
        · rfl
        · exact absurd (show false = true from hcl 15 _ rfl rfl ⟨12, .chain⟩ (by first | exact .head _ | simp) rfl) (by decide)
      subst hb15
      have hb17 : b17 = false := by
        cases b17
        · rfl
        · exact absurd (show false = true from hcl 17 _ rfl rfl ⟨15, .chain⟩ (by first | exact .head _ | simp) rfl) (by decide)
      subst hb17
      have hb18 : b18 = false := by
        cases b18
        · rfl
        · exact absurd (show false = true from hcl 18 _ rfl rfl ⟨17, .data⟩ (by first | exact .head _ | simp) rfl) (by decide)
      subst hb18
      clear hall hcl hs hf
      have hn := rangeDeck B g l1 1 3 w1 hF.dk (by decide) (by decide) (by decide)
      rw [e2] at hn
      go_simp
      refine hn.mono ?_
      rintro e w2 ⟨rfl, hd, hg⟩
      exact hK _ _ ⟨b0, b1, true, true, b4, b5, true, true, b8, false, false, b11, false, false, b14, false, b16, false, false, false, b20, false, ka, kb, nov, rfl, rfl, hF.turn hd hg⟩
    · intro listed a w1 K hs hcl hf hall hI hK
      obtain ⟨b0, b1, b2, b3, b4, b5, b6, b7, b8, b9, b10, b11, b12, b13, b14, b15, b16, b17, b18, b19, b20, b21, ka, kb, nov, rfl, rfl, hF⟩ := hI
      have hf' : b8 = false := hf
      subst hf'
      clear hall hcl hs hf
      go_simp
      exact hK _ _ ⟨b0, b1, b2, b3, b4, b5, b6, b7, true, b9, b10, b11, b12, b13, b14, b15, b16, b17, b18, b19, b20, b21, ka, kb, nov, rfl, rfl, hF⟩
    · intro listed a w1 K hs hcl hf hall hI hK
      obtain ⟨b0, b1, b2, b3, b4, b5, b6, b7, b8, b9, b10, b11, b12, b13, b14, b15, b16, b17, b18, b19, b20, b21, ka, kb, nov, rfl, rfl, hF⟩ := hI
      have hf' : b9 = false := hf
      subst hf'
      have hq8 : b8 = true := hall ⟨8, .data⟩ (by first | exact .head _ | simp) rfl
      subst hq8
      have hq7 : b7 = true := hall ⟨7, .chain⟩ (by first | exact .head _ | simp) rfl
      subst hq7
      have hq6 : b6 = true := hcl 7 _ rfl rfl ⟨6, .data⟩ (by first | exact .head _ | simp) rfl
      subst hq6
      have hq3 : b3 = true := hcl 7 _ rfl rfl ⟨3, .chain⟩ (by first | exact .head _ | simp) rfl
      subst hq3
      have hq2 : b2 = true := hcl 3 _ rfl rfl ⟨2, .data⟩ (by first | exact .head _ | simp) rfl
      subst hq2
      have hb10 : b10 = false := by
        cases b10
        · rfl
        · exact absurd (show false = true from hcl 10 _ rfl rfl ⟨9, .data⟩ (by first | exact .head _ | simp) rfl) (by decide)
      subst hb10
      have hb12 : b12 = false := by
        cases b12
        · rfl
        · exact absurd (show false = true from hcl 12 _ rfl rfl ⟨9, .chain⟩ (by first | exact .head _ | simp) rfl) (by decide)
      subst hb12
      have hb21 : b21 = false := by
        cases b21
        · rfl
        · exact absurd (show false = true from hcl 21 _ rfl rfl ⟨9, .phase⟩ (by first | exact .head _ | simp) rfl) (by decide)
      subst hb21
      have hb19 : b19 = false := by
        cases b19
        · rfl
        · exact absurd (show false = true from hcl 19 _ rfl rfl ⟨10, .data⟩ (by first | exact .head _ | simp) rfl) (by decide)
      subst hb19
      have hb13 : b13 = false := by
        cases b13
        · rfl
        · exact absurd (show false = true from hcl 13 _ rfl rfl ⟨12, .data⟩ (by first | exact .head _ | simp) rfl) (by decide)
      subst hb13
      have hb15 : b15 = false := by
        cases b15
        · rfl
        · exact absurd (show false = true from hcl 15 _ rfl rfl ⟨12, .chain⟩ (by first | exact .head _ | simp) rfl) (by decide)
      subst hb15
      have hb17 : b17 = false := by
        cases b17
        · rfl
        · exact absurd (show false = true from hcl 17 _ rfl rfl ⟨15, .chain⟩ (by first | exact .head _ | simp) rfl) (by decide)
      subst hb17
      have hb18 : b18 = false := by
        cases b18
        · rfl
        · exact absurd (show false = true from hcl 18 _ rfl rfl ⟨17, .data⟩ (by first | exact .head _ | simp) rfl) (by decide)
      subst hb18
      clear hall hcl hs hf
      have hn := nextDeck B g l2 6 w1 hF.dk (by decide) (by decide)
      rw [e3] at hn
      go_simp
      refine hn.mono ?_
      rintro e w2 ⟨rfl, hd, hg⟩
      exact hK _ _ ⟨b0, b1, true, true, b4, b5, true, true, true, true, false, b11, false, false, b14, false, b16, false, false, false, b20, false, ka, kb, nov, rfl, rfl, hF.turn hd hg⟩
    · intro listed a w1 K hs hcl hf hall hI hK
      obtain ⟨b0, b1, b2, b3, b4, b5, b6, b7, b8, b9, b10, b11, b12, b13, b14, b15, b16, b17, b18, b19, b20, b21, ka, kb, nov, rfl, rfl, hF⟩ := hI
      have hf' : b10 = false := hf
      subst hf'
      have hq9 : b9 = true := hall ⟨9, .data⟩ (by first | exact .head _ | simp) rfl
      subst hq9
      clear hall hcl hs hf
      go_simp
      exact hK _ _ ⟨b0, b1, b2, b3, b4, b5, b6, b7, b8, true, true, b11, b12, b13, b14, b15, b16, b17, b18, b19, b20, b21, ka, kb, nov, rfl, rfl, hF⟩
    · intro listed a w1 K hs hcl hf hall hI hK
      obtain ⟨b0, b1, b2, b3, b4, b5, b6, b7, b8, b9, b10, b11, b12, b13, b14, b15, b16, b17, b18, b19, b20, b21, ka, kb, nov, rfl, rfl, hF⟩ := hI
      have hf' : b11 = false := hf
      subst hf'
      clear hall hcl hs hf
      go_simp
      exact hK _ _ ⟨b0, b1, b2, b3, b4, b5, b6, b7, b8, b9, b10, true, b12, b13, b14, b15, b16, b17, b18, b19, b20, b21, ka, kb, nov, rfl, rfl, hF⟩
    · intro listed a w1 K hs hcl hf hall hI hK
      obtain ⟨b0, b1, b2, b3, b4, b5, b6, b7, b8, b9, b10, b11, b12, b13, b14, b15, b16, b17, b18, b19, b20, b21, ka, kb, nov, rfl, rfl, hF⟩ := hI
      have hf' : b12 = false := hf
      subst hf'
      have hq11 : b11 = true := hall ⟨11, .data⟩ (by first | exact .head _ | simp) rfl
      subst hq11
      have hq9 : b9 = true := hall ⟨9, .chain⟩ (by first | exact .head _ | simp) rfl
      subst hq9
      have hq8 : b8 = true := hcl 9 _ rfl rfl ⟨8, .data⟩ (by first | exact .head _ | simp) rfl
      subst hq8
      have hq7 : b7 = true := hcl 9 _ rfl rfl ⟨7, .chain⟩ (by first | exact .head _ | simp) rfl
      subst hq7
      have hq6 : b6 = true := hcl 7 _ rfl rfl ⟨6, .data⟩ (by first | exact .head _ | simp) rfl
      subst hq6
      have hq3 : b3 = true := hcl 7 _ rfl rfl ⟨3, .chain⟩ (by first | exact .head _ | simp) rfl
      subst hq3
      have hq2 : b2 = true := hcl 3 _ rfl rfl ⟨2, .data⟩ (by first | exact .head _ | simp) rfl
      subst hq2
      have hb13 : b13 = false := by
        cases b13
        · rfl
        · exact absurd (show false = true from hcl 13 _ rfl rfl ⟨12, .data⟩ (by first | exact .head _ | simp) rfl) (by decide)
      subst hb13
      have hb15 : b15 = false := by
        cases b15
        · rfl
        · exact absurd (show false = true from hcl 15 _ rfl rfl ⟨12, .chain⟩ (by first | exact .head _ | simp) rfl) (by decide)
      subst hb15
      have hb21 : b21 = false := by
        cases b21
        · rfl
        · exact absurd (show false = true from hcl 21 _ rfl rfl ⟨12, .phase⟩ (by first | exact .head _ | simp) rfl) (by decide)
      subst hb21
      have hb19 : b19 = false := by
        cases b19
        · rfl
        · exact absurd (show false = true from hcl 19 _ rfl rfl ⟨13, .data⟩ (by first | exact .head _ | simp) rfl) (by decide)
      subst hb19
      have hb17 : b17 = false := by
        cases b17
        · rfl
        · exact absurd (show false = true from hcl 17 _ rfl rfl ⟨15, .chain⟩ (by first | exact .head _ | simp) rfl) (by decide)
      subst hb17
      have hb18 : b18 = false := by
        cases b18
        · rfl
        · exact absurd (show false = true from hcl 18 _ rfl rfl ⟨17, .data⟩ (by first | exact .head _ | simp) rfl) (by decide)
      subst hb18
      clear hall hcl hs hf
      have hn := nextDeck B g l3 20 w1 hF.dk (by decide) (by decide)
      rw [e4] at hn
      go_simp
      refine hn.mono ?_
      rintro e w2 ⟨rfl, hd, hg⟩
      exact hK _ _ ⟨b0, b1, true, true, b4, b5, true, true, true, true, b10, true, true, false, b14, false, b16, false, false, false, b20, false, ka, kb, nov, rfl, rfl, hF.turn hd hg⟩
    · intro listed a w1 K hs hcl hf hall hI hK
      obtain ⟨b0, b1, b2, b3, b4, b5, b6, b7, b8, b9, b10, b11, b12, b13, b14, b15, b16, b17, b18, b19, b20, b21, ka, kb, nov, rfl, rfl, hF⟩ := hI
      have hf' : b13 = false := hf
      subst hf'
      have hq12 : b12 = true := hall ⟨12, .data⟩ (by first | exact .head _ | simp) rfl
      subst hq12
      clear hall hcl hs hf
      go_simp
      exact hK _ _ ⟨b0, b1, b2, b3, b4, b5, b6, b7, b8, b9, b10, b11, true, true, b14, b15, b16, b17, b18, b19, b20, b21, ka, kb, nov, rfl, rfl, hF⟩
    · intro listed a w1 K hs hcl hf hall hI hK
      obtain ⟨b0, b1, b2, b3, b4, b5, b6, b7, b8, b9, b10, b11, b12, b13, b14, b15, b16, b17, b18, b19, b20, b21, ka, kb, nov, rfl, rfl, hF⟩ := hI
      have hf' : b14 = false := hf
      subst hf'
      clear hall hcl hs hf
      go_simp
      exact hK _ _ ⟨b0, b1, b2, b3, b4, b5, b6, b7, b8, b9, b10, b11, b12, b13, true, b15, b16, b17, b18, b19, b20, b21, ka, kb, nov, rfl, rfl, hF⟩
    · intro listed a w1 K hs hcl hf hall hI hK
      obtain ⟨b0, b1, b2, b3, b4, b5, b6, b7, b8, b9, b10, b11, b12, b13, b14, b15, b16, b17, b18, b19, b20, b21, ka, kb, nov, rfl, rfl, hF⟩ := hI
      have hf' : b15 = false := hf
      subst hf'
      have hq14 : b14 = true := hall ⟨14, .data⟩ (by first | exact .head _ | simp) rfl
      subst hq14
      have hq12 : b12 = true := hall ⟨12, .chain⟩ (by first | exact .head _ | simp) rfl
      subst hq12
      have hq11 : b11 = true := hcl 12 _ rfl rfl ⟨11, .data⟩ (by first | exact .head _ | simp) rfl
      subst hq11
      have hq9 : b9 = true := hcl 12 _ rfl rfl ⟨9, .chain⟩ (by first | exact .head _ | simp) rfl
      subst hq9
      have hq8 : b8 = true := hcl 9 _ rfl rfl ⟨8, .data⟩ (by first | exact .head _ | simp) rfl
      subst hq8
      have hq7 : b7 = true := hcl 9 _ rfl rfl ⟨7, .chain⟩ (by first | exact .head _ | simp) rfl
      subst hq7
      have hq6 : b6 = true := hcl 7 _ rfl rfl ⟨6, .data⟩ (by first | exact .head _ | simp) rfl
      subst hq6
      have hq3 : b3 = true := hcl 7 _ rfl rfl ⟨3, .chain⟩ (by first | exact .head _ | simp) rfl
      subst hq3
      have hq2 : b2 = true := hcl 3 _ rfl rfl ⟨2, .data⟩ (by first | exact .head _ | simp) rfl
      subst hq2
      have hb17 : b17 = false := by
        cases b17
        · rfl
        · exact absurd (show false = true from hcl 17 _ rfl rfl ⟨15, .chain⟩ (by first | exact .head _ | simp) rfl) (by decide)
      subst hb17
      have hb19 : b19 = false := by
        cases b19
        · rfl
        · exact absurd (show false = true from hcl 19 _ rfl rfl ⟨15, .data⟩ (by first | exact .head _ | simp) rfl) (by decide)
      subst hb19
      have hb21 : b21 = false := by
        cases b21
        · rfl
        · exact absurd (show false = true from hcl 21 _ rfl rfl ⟨15, .phase⟩ (by first | exact .head _ | simp) rfl) (by decide)
      subst hb21
      have hb18 : b18 = false := by
        cases b18
        · rfl
        · exact absurd (show false = true from hcl 18 _ rfl rfl ⟨17, .data⟩ (by first | exact .head _ | simp) rfl) (by decide)
      subst hb18
      clear hall hcl hs hf
      have hn := rangeDeck B g l4 1 4 w1 hF.dk (by decide) (by decide) (by decide)
      rw [e5] at hn
      go_simp
      refine hn.mono ?_
      rintro e w2 ⟨rfl, hd, hg⟩
      exact hK _ _ ⟨b0, b1, true, true, b4, b5, true, true, true, true, b10, true, true, b13, true, true, b16, false, false, false, b20, false, ka, kb, nov, rfl, rfl, hF.turn hd hg⟩
    · intro listed a w1 K hs hcl hf hall hI hK
      obtain ⟨b0, b1, b2, b3, b4, b5, b6, b7, b8, b9, b10, b11, b12, b13, b14, b15, b16, b17, b18, b19, b20, b21, ka, kb, nov, rfl, rfl, hF⟩ := hI
      have hf' : b16 = false := hf
      subst hf'
      clear hall hcl hs hf
      go_simp
      exact hK _ _ ⟨b0, b1, b2, b3, b4, b5, b6, b7, b8, b9, b10, b11, b12, b13, b14, b15, true, b17, b18, b19, b20, b21, ka, kb, nov, rfl, rfl, hF⟩
    · intro listed a w1 K hs hcl hf hall hI hK
      obtain ⟨b0, b1, b2, b3, b4, b5, b6, b7, b8, b9, b10, b11, b12, b13, b14, b15, b16, b17, b18, b19, b20, b21, ka, kb, nov, rfl, rfl, hF⟩ := hI
      have hf' : b17 = false := hf
      subst hf'
      have hq16 : b16 = true := hall ⟨16, .data⟩ (by first | exact .head _ | simp) rfl
      subst hq16
      have hq15 : b15 = true := hall ⟨15, .chain⟩ (by first | exact .head _ | simp) rfl
      subst hq15
      have hq14 : b14 = true := hcl 15 _ rfl rfl ⟨14, .data⟩ (by first | exact .head _ | simp) rfl
      subst hq14
      have hq12 : b12 = true := hcl 15 _ rfl rfl ⟨12, .chain⟩ (by first | exact .head _ | simp) rfl
      subst hq12
      have hq11 : b11 = true := hcl 12 _ rfl rfl ⟨11, .data⟩ (by first | exact .head _ | simp) rfl
      subst hq11
      have hq9 : b9 = true := hcl 12 _ rfl rfl ⟨9, .chain⟩ (by first | exact .head _ | simp) rfl
      subst hq9
      have hq8 : b8 = true := hcl 9 _ rfl rfl ⟨8, .data⟩ (by first | exact .head _ | simp) rfl
      subst hq8
      have hq7 : b7 = true := hcl 9 _ rfl rfl ⟨7, .chain⟩ (by first | exact .head _ | simp) rfl
      subst hq7
      have hq6 : b6 = true := hcl 7 _ rfl rfl ⟨6, .data⟩ (by first | exact .head _ | simp) rfl
      subst hq6
      have hq3 : b3 = true := hcl 7 _ rfl rfl ⟨3, .chain⟩ (by first | exact .head _ | simp) rfl
      subst hq3
      have hq2 : b2 = true := hcl 3 _ rfl rfl ⟨2, .data⟩ (by first | exact .head _ | simp) rfl
      subst hq2
      have hb18 : b18 = false := by
        cases b18
        · rfl
        · exact absurd (show false = true from hcl 18 _ rfl rfl ⟨17, .data⟩ (by first | exact .head _ | simp) rfl) (by decide)
      subst hb18
      have hb21 : b21 = false := by
        cases b21
        · rfl
        · exact absurd (show false = true from hcl 21 _ rfl rfl ⟨17, .chain⟩ (by first | exact .head _ | simp) rfl) (by decide)
      subst hb21
      have hb19 : b19 = false := by
        cases b19
        · rfl
        · exact absurd (show false = true from hcl 19 _ rfl rfl ⟨18, .data⟩ (by first | exact .head _ | simp) rfl) (by decide)
      subst hb19
      clear hall hcl hs hf
      have hn := rangeDeck B g l5 1 30 w1 hF.dk (by decide) (by decide) (by decide)
      rw [e6] at hn
      go_simp
      refine hn.mono ?_
      rintro e w2 ⟨rfl, hd, hg⟩
      exact hK _ _ ⟨b0, b1, true, true, b4, b5, true, true, true, true, b10, true, true, b13, true, true, true, true, false, false, b20, false, ka, kb, nov, rfl, rfl, hF.turn hd hg⟩
    · intro listed a w1 K hs hcl hf hall hI hK
      obtain ⟨b0, b1, b2, b3, b4, b5, b6, b7, b8, b9, b10, b11, b12, b13, b14, b15, b16, b17, b18, b19, b20, b21, ka, kb, nov, rfl, rfl, hF⟩ := hI
      have hf' : b18 = false := hf
      subst hf'
      have hq17 : b17 = true := hall ⟨17, .data⟩ (by first | exact .head _ | simp) rfl
      subst hq17
      clear hall hcl hs hf
      go_simp
      exact hK _ _ ⟨b0, b1, b2, b3, b4, b5, b6, b7, b8, b9, b10, b11, b12, b13, b14, b15, b16, true, true, b19, b20, b21, ka, kb, nov, rfl, rfl, hF⟩
    · intro listed a w1 K hs hcl hf hall hI hK
      obtain ⟨b0, b1, b2, b3, b4, b5, b6, b7, b8, b9, b10, b11, b12, b13, b14, b15, b16, b17, b18, b19, b20, b21, ka, kb, nov, rfl, rfl, hF⟩ := hI
      have hf' : b19 = false := hf
      subst hf'
      have hq0 : b0 = true := hall ⟨0, .data⟩ (by first | exact .head _ | simp) rfl
      subst hq0
      have hq5 : b5 = true := hall ⟨5, .data⟩ (by first | exact .head _ | simp) rfl
      subst hq5
      have hq7 : b7 = true := hall ⟨7, .data⟩ (by first | exact .head _ | simp) rfl
      subst hq7
      have hq10 : b10 = true := hall ⟨10, .data⟩ (by first | exact .head _ | simp) rfl
      subst hq10
      have hq13 : b13 = true := hall ⟨13, .data⟩ (by first | exact .head _ | simp) rfl
      subst hq13
      have hq15 : b15 = true := hall ⟨15, .data⟩ (by first | exact .head _ | simp) rfl
      subst hq15
      have hq18 : b18 = true := hall ⟨18, .data⟩ (by first | exact .head _ | simp) rfl
      subst hq18
      clear hall hcl hs hf
      go_simp
      exact hK _ _ ⟨true, b1, b2, b3, b4, true, b6, true, b8, b9, true, b11, b12, true, b14, true, b16, b17, true, true, b20, b21, ka, kb, nov, rfl, rfl, hF⟩
    · intro listed a w1 K hs hcl hf hall hI hK
      obtain ⟨b0, b1, b2, b3, b4, b5, b6, b7, b8, b9, b10, b11, b12, b13, b14, b15, b16, b17, b18, b19, b20, b21, ka, kb, nov, rfl, rfl, hF⟩ := hI
      have hf' : b20 = false := hf
      subst hf'
      have hb21 : b21 = false := by
        cases b21
        · rfl
        · exact absurd (show false = true from hcl 21 _ rfl rfl ⟨20, .data⟩ (by first | exact .head _ | simp) rfl) (by decide)
      subst hb21
      clear hall hcl hs hf
      go_simp
      exact hK _ _ ⟨b0, b1, b2, b3, b4, b5, b6, b7, b8, b9, b10, b11, b12, b13, b14, b15, b16, b17, b18, b19, true, false, w1.heap.size, kb, nov, rfl, rfl, hF.al⟩
    · intro listed a w1 K hs hcl hf hall hI hK
      obtain ⟨b0, b1, b2, b3, b4, b5, b6, b7, b8, b9, b10, b11, b12, b13, b14, b15, b16, b17, b18, b19, b20, b21, ka, kb, nov, rfl, rfl, hF⟩ := hI
      have hf' : b21 = false := hf
      subst hf'
      have hq20 : b20 = true := hall ⟨20, .data⟩ (by first | exact .head _ | simp) rfl
      subst hq20
      have hq19 : b19 = true := hall ⟨19, .data⟩ (by first | exact .head _ | simp) rfl
      subst hq19
      have hq17 : b17 = true := hall ⟨17, .chain⟩ (by first | exact .head _ | simp) rfl
      subst hq17
      have hq0 : b0 = true := hall ⟨0, .phase⟩ (by first | exact .head _ | simp) rfl
      subst hq0
      have hq1 : b1 = true := hall ⟨1, .phase⟩ (by first | exact .head _ | simp) rfl
      subst hq1
      have hq2 : b2 = true := hall ⟨2, .phase⟩ (by first | exact .head _ | simp) rfl
      subst hq2
      have hq3 : b3 = true := hall ⟨3, .phase⟩ (by first | exact .head _ | simp) rfl
      subst hq3
      have hq4 : b4 = true := hall ⟨4, .phase⟩ (by first | exact .head _ | simp) rfl
      subst hq4
      have hq5 : b5 = true := hall ⟨5, .phase⟩ (by first | exact .head _ | simp) rfl
      subst hq5
      have hq6 : b6 = true := hall ⟨6, .phase⟩ (by first | exact .head _ | simp) rfl
      subst hq6
      have hq7 : b7 = true := hall ⟨7, .phase⟩ (by first | exact .head _ | simp) rfl
      subst hq7
      have hq8 : b8 = true := hall ⟨8, .phase⟩ (by first | exact .head _ | simp) rfl
      subst hq8
      have hq9 : b9 = true := hall ⟨9, .phase⟩ (by first | exact .head _ | simp) rfl
      subst hq9
      have hq10 : b10 = true := hall ⟨10, .phase⟩ (by first | exact .head _ | simp) rfl
      subst hq10
      have hq11 : b11 = true := hall ⟨11, .phase⟩ (by first | exact .head _ | simp) rfl
      subst hq11
      have hq12 : b12 = true := hall ⟨12, .phase⟩ (by first | exact .head _ | simp) rfl
      subst hq12
      have hq13 : b13 = true := hall ⟨13, .phase⟩ (by first | exact .head _ | simp) rfl
      subst hq13
      have hq14 : b14 = true := hall ⟨14, .phase⟩ (by first | exact .head _ | simp) rfl
      subst hq14
      have hq15 : b15 = true := hall ⟨15, .phase⟩ (by first | exact .head _ | simp) rfl
      subst hq15
      have hq16 : b16 = true := hall ⟨16, .phase⟩ (by first | exact .head _ | simp) rfl
      subst hq16
      have hq18 : b18 = true := hall ⟨18, .phase⟩ (by first | exact .head _ | simp) rfl
      subst hq18
      clear hall hcl hs hf
      have hrow := (hF.bx rfl).2.2
      have hst := run_storeCells_from (P := Try.prog) ka 33 (jobV0 nm x1 x2 x3 x4 x5 x6).toList 0 jobZ w1 hrow rfl (fun v hv => (Array.all_eq_true_iff_forall_mem.1 (show (jobV0 nm x1 x2 x3 x4 x5 x6).all (·.oneCell') = true by simp [jobV0, Value.oneCell'])) v (by simpa using hv))
      go_simp
      rw [if_pos (show (jobV0 nm x1 x2 x3 x4 x5 x6).size = 15 from rfl)]
      exact hK _ _ ⟨true, true, true, true, true, true, true, true, true, true, true, true, true, true, true, true, true, true, true, true, true, true, ka, kb, nov, rfl, rfl, hF.st⟩
  case rest =>
    obtain ⟨k, rfl, hc1⟩ := hcut
    have HC1 := Lib.hid hc1
    clear hc1
    obtain ⟨x7, l7, e7⟩ : ∃ x r, nx l6 20 = (x, r) := ⟨_, _, rfl⟩
    have d7 := nx_bd l6 (show (1 : Int) ≤ 20 by decide)
    rw [e7] at d7
    simp only at d7
    have u7 := IntWalk.u64_in x7 (by omega)
    have u37 := IntWalk.u64_in (x3 + x7) (by omega)
    go_upto_region 2 with fail
    go_cut [] (fun wx => JC w wx B g k w.heap.size l7 { jd1 nm x1 x2 x3 x4 x5 x6 with cap := x3 + x7 })
    case first =>
      refine wp_region_steps2V (by kernel_rfl) (by kernel_rfl) (fun (u_ : Value × Value × Value × Value × Value × Value × Value × Value × Value × Value × Value × Value × Value × Value × Value × Value × Value × Value × Value × Value × Value × Value × Value × Value × Value × Value × Value × Value × Value × Value × Value × Value × Value × Value × Value × Value × Value × Value × Value × Value × Value × Value × Value × Value × Value × Value × Value × Value × Value × Value × Value × Value × Value × Value × Value × Value × Value × Value × Value × Value × Value × Value × Value × Value × Value × Value × Value × Value × Value × Value × Value × Value × Value × Value × Value × Value × Value × Value × Value × Value × Value) => JR2 w B g k w.heap.size nm A os.length c x7 x3 l6 l7 (jd1 nm x1 x2 x3 x4 x5 x6) { jd1 nm x1 x2 x3 x4 x5 x6 with cap := x3 + x7 } u_.1 u_.2.1 u_.2.2.1 u_.2.2.2.1 u_.2.2.2.2.1 u_.2.2.2.2.2.1 u_.2.2.2.2.2.2.1 u_.2.2.2.2.2.2.2.1 u_.2.2.2.2.2.2.2.2.1 u_.2.2.2.2.2.2.2.2.2.1 u_.2.2.2.2.2.2.2.2.2.2.1 u_.2.2.2.2.2.2.2.2.2.2.2.1 u_.2.2.2.2.2.2.2.2.2.2.2.2.1 u_.2.2.2.2.2.2.2.2.2.2.2.2.2.1 u_.2.2.2.2.2.2.2.2.2.2.2.2.2.2.1 u_.2.2.2.2.2.2.2.2.2.2.2.2.2.2.2.1 u_.2.2.2.2.2.2.2.2.2.2.2.2.2.2.2.2.1 u_.2.2.2.2.2.2.2.2.2.2.2.2.2.2.2.2.2.1 u_.2.2.2.2.2.2.2.2.2.2.2.2.2.2.2.2.2.2.1 u_.2.2.2.2.2.2.2.2.2.2.2.2.2.2.2.2.2.2.2.1 u_.2.2.2.2.2.2.2.2.2.2.2.2.2.2.2.2.2.2.2.2.1 u_.2.2.2.2.2.2.2.2.2.2.2.2.2.2.2.2.2.2.2.2.2.1 u_.2.2.2.2.2.2.2.2.2.2.2.2.2.2.2.2.2.2.2.2.2.2.1 u_.2.2.2.2.2.2.2.2.2.2.2.2.2.2.2.2.2.2.2.2.2.2.2.1 u_.2.2.2.2.2.2.2.2.2.2.2.2.2.2.2.2.2.2.2.2.2.2.2.2.1 u_.2.2.2.2.2.2.2.2.2.2.2.2.2.2.2.2.2.2.2.2.2.2.2.2.2.1 u_.2.2.2.2.2.2.2.2.2.2.2.2.2.2.2.2.2.2.2.2.2.2.2.2.2.2.1 u_.2.2.2.2.2.2.2.2.2.2.2.2.2.2.2.2.2.2.2.2.2.2.2.2.2.2.2.1 u_.2.2.2.2.2.2.2.2.2.2.2.2.2.2.2.2.2.2.2.2.2.2.2.2.2.2.2.2.1 u_.2.2.2.2.2.2.2.2.2.2.2.2.2.2.2.2.2.2.2.2.2.2.2.2.2.2.2.2.2.1 u_.2.2.2.2.2.2.2.2.2.2.2.2.2.2.2.2.2.2.2.2.2.2.2.2.2.2.2.2.2.2.1 u_.2.2.2.2.2.2.2.2.2.2.2.2.2.2.2.2.2.2.2.2.2.2.2.2.2.2.2.2.2.2.2.1 u_.2.2.2.2.2.2.2.2.2.2.2.2.2.2.2.2.2.2.2.2.2.2.2.2.2.2.2.2.2.2.2.2.1 u_.2.2.2.2.2.2.2.2.2.2.2.2.2.2.2.2.2.2.2.2.2.2.2.2.2.2.2.2.2.2.2.2.2.1 u_.2.2.2.2.2.2.2.2.2.2.2.2.2.2.2.2.2.2.2.2.2.2.2.2.2.2.2.2.2.2.2.2.2.2.1 u_.2.2.2.2.2.2.2.2.2.2.2.2.2.2.2.2.2.2.2.2.2.2.2.2.2.2.2.2.2.2.2.2.2.2.2.1 u_.2.2.2.2.2.2.2.2.2.2.2.2.2.2.2.2.2.2.2.2.2.2.2.2.2.2.2.2.2.2.2.2.2.2.2.2.1 u_.2.2.2.2.2.2.2.2.2.2.2.2.2.2.2.2.2.2.2.2.2.2.2.2.2.2.2.2.2.2.2.2.2.2.2.2.2.1 u_.2.2.2.2.2.2.2.2.2.2.2.2.2.2.2.2.2.2.2.2.2.2.2.2.2.2.2.2.2.2.2.2.2.2.2.2.2.2.1 u_.2.2.2.2.2.2.2.2.2.2.2.2.2.2.2.2.2.2.2.2.2.2.2.2.2.2.2.2.2.2.2.2.2.2.2.2.2.2.2.1 u_.2.2.2.2.2.2.2.2.2.2.2.2.2.2.2.2.2.2.2.2.2.2.2.2.2.2.2.2.2.2.2.2.2.2.2.2.2.2.2.2.1 u_.2.2.2.2.2.2.2.2.2.2.2.2.2.2.2.2.2.2.2.2.2.2.2.2.2.2.2.2.2.2.2.2.2.2.2.2.2.2.2.2.2.1 u_.2.2.2.2.2.2.2.2.2.2.2.2.2.2.2.2.2.2.2.2.2.2.2.2.2.2.2.2.2.2.2.2.2.2.2.2.2.2.2.2.2.2.1 u_.2.2.2.2.2.2.2.2.2.2.2.2.2.2.2.2.2.2.2.2.2.2.2.2.2.2.2.2.2.2.2.2.2.2.2.2.2.2.2.2.2.2.2.1 u_.2.2.2.2.2.2.2.2.2.2.2.2.2.2.2.2.2.2.2.2.2.2.2.2.2.2.2.2.2.2.2.2.2.2.2.2.2.2.2.2.2.2.2.2.1 u_.2.2.2.2.2.2.2.2.2.2.2.2.2.2.2.2.2.2.2.2.2.2.2.2.2.2.2.2.2.2.2.2.2.2.2.2.2.2.2.2.2.2.2.2.2.1 u_.2.2.2.2.2.2.2.2.2.2.2.2.2.2.2.2.2.2.2.2.2.2.2.2.2.2.2.2.2.2.2.2.2.2.2.2.2.2.2.2.2.2.2.2.2.2.1 u_.2.2.2.2.2.2.2.2.2.2.2.2.2.2.2.2.2.2.2.2.2.2.2.2.2.2.2.2.2.2.2.2.2.2.2.2.2.2.2.2.2.2.2.2.2.2.2.1 u_.2.2.2.2.2.2.2.2.2.2.2.2.2.2.2.2.2.2.2.2.2.2.2.2.2.2.2.2.2.2.2.2.2.2.2.2.2.2.2.2.2.2.2.2.2.2.2.2.1 u_.2.2.2.2.2.2.2.2.2.2.2.2.2.2.2.2.2.2.2.2.2.2.2.2.2.2.2.2.2.2.2.2.2.2.2.2.2.2.2.2.2.2.2.2.2.2.2.2.2.1 u_.2.2.2.2.2.2.2.2.2.2.2.2.2.2.2.2.2.2.2.2.2.2.2.2.2.2.2.2.2.2.2.2.2.2.2.2.2.2.2.2.2.2.2.2.2.2.2.2.2.2.1 u_.2.2.2.2.2.2.2.2.2.2.2.2.2.2.2.2.2.2.2.2.2.2.2.2.2.2.2.2.2.2.2.2.2.2.2.2.2.2.2.2.2.2.2.2.2.2.2.2.2.2.2.1 u_.2.2.2.2.2.2.2.2.2.2.2.2.2.2.2.2.2.2.2.2.2.2.2.2.2.2.2.2.2.2.2.2.2.2.2.2.2.2.2.2.2.2.2.2.2.2.2.2.2.2.2.2.1 u_.2.2.2.2.2.2.2.2.2.2.2.2.2.2.2.2.2.2.2.2.2.2.2.2.2.2.2.2.2.2.2.2.2.2.2.2.2.2.2.2.2.2.2.2.2.2.2.2.2.2.2.2.2.1 u_.2.2.2.2.2.2.2.2.2.2.2.2.2.2.2.2.2.2.2.2.2.2.2.2.2.2.2.2.2.2.2.2.2.2.2.2.2.2.2.2.2.2.2.2.2.2.2.2.2.2.2.2.2.2.1 u_.2.2.2.2.2.2.2.2.2.2.2.2.2.2.2.2.2.2.2.2.2.2.2.2.2.2.2.2.2.2.2.2.2.2.2.2.2.2.2.2.2.2.2.2.2.2.2.2.2.2.2.2.2.2.2.1 u_.2.2.2.2.2.2.2.2.2.2.2.2.2.2.2.2.2.2.2.2.2.2.2.2.2.2.2.2.2.2.2.2.2.2.2.2.2.2.2.2.2.2.2.2.2.2.2.2.2.2.2.2.2.2.2.2.1 u_.2.2.2.2.2.2.2.2.2.2.2.2.2.2.2.2.2.2.2.2.2.2.2.2.2.2.2.2.2.2.2.2.2.2.2.2.2.2.2.2.2.2.2.2.2.2.2.2.2.2.2.2.2.2.2.2.2.1 u_.2.2.2.2.2.2.2.2.2.2.2.2.2.2.2.2.2.2.2.2.2.2.2.2.2.2.2.2.2.2.2.2.2.2.2.2.2.2.2.2.2.2.2.2.2.2.2.2.2.2.2.2.2.2.2.2.2.2.1 u_.2.2.2.2.2.2.2.2.2.2.2.2.2.2.2.2.2.2.2.2.2.2.2.2.2.2.2.2.2.2.2.2.2.2.2.2.2.2.2.2.2.2.2.2.2.2.2.2.2.2.2.2.2.2.2.2.2.2.2.1 u_.2.2.2.2.2.2.2.2.2.2.2.2.2.2.2.2.2.2.2.2.2.2.2.2.2.2.2.2.2.2.2.2.2.2.2.2.2.2.2.2.2.2.2.2.2.2.2.2.2.2.2.2.2.2.2.2.2.2.2.2.1 u_.2.2.2.2.2.2.2.2.2.2.2.2.2.2.2.2.2.2.2.2.2.2.2.2.2.2.2.2.2.2.2.2.2.2.2.2.2.2.2.2.2.2.2.2.2.2.2.2.2.2.2.2.2.2.2.2.2.2.2.2.2.1 u_.2.2.2.2.2.2.2.2.2.2.2.2.2.2.2.2.2.2.2.2.2.2.2.2.2.2.2.2.2.2.2.2.2.2.2.2.2.2.2.2.2.2.2.2.2.2.2.2.2.2.2.2.2.2.2.2.2.2.2.2.2.2.1 u_.2.2.2.2.2.2.2.2.2.2.2.2.2.2.2.2.2.2.2.2.2.2.2.2.2.2.2.2.2.2.2.2.2.2.2.2.2.2.2.2.2.2.2.2.2.2.2.2.2.2.2.2.2.2.2.2.2.2.2.2.2.2.2.1 u_.2.2.2.2.2.2.2.2.2.2.2.2.2.2.2.2.2.2.2.2.2.2.2.2.2.2.2.2.2.2.2.2.2.2.2.2.2.2.2.2.2.2.2.2.2.2.2.2.2.2.2.2.2.2.2.2.2.2.2.2.2.2.2.2.1 u_.2.2.2.2.2.2.2.2.2.2.2.2.2.2.2.2.2.2.2.2.2.2.2.2.2.2.2.2.2.2.2.2.2.2.2.2.2.2.2.2.2.2.2.2.2.2.2.2.2.2.2.2.2.2.2.2.2.2.2.2.2.2.2.2.2.1 u_.2.2.2.2.2.2.2.2.2.2.2.2.2.2.2.2.2.2.2.2.2.2.2.2.2.2.2.2.2.2.2.2.2.2.2.2.2.2.2.2.2.2.2.2.2.2.2.2.2.2.2.2.2.2.2.2.2.2.2.2.2.2.2.2.2.2.1 u_.2.2.2.2.2.2.2.2.2.2.2.2.2.2.2.2.2.2.2.2.2.2.2.2.2.2.2.2.2.2.2.2.2.2.2.2.2.2.2.2.2.2.2.2.2.2.2.2.2.2.2.2.2.2.2.2.2.2.2.2.2.2.2.2.2.2.2.1 u_.2.2.2.2.2.2.2.2.2.2.2.2.2.2.2.2.2.2.2.2.2.2.2.2.2.2.2.2.2.2.2.2.2.2.2.2.2.2.2.2.2.2.2.2.2.2.2.2.2.2.2.2.2.2.2.2.2.2.2.2.2.2.2.2.2.2.2.2.1 u_.2.2.2.2.2.2.2.2.2.2.2.2.2.2.2.2.2.2.2.2.2.2.2.2.2.2.2.2.2.2.2.2.2.2.2.2.2.2.2.2.2.2.2.2.2.2.2.2.2.2.2.2.2.2.2.2.2.2.2.2.2.2.2.2.2.2.2.2.2.1 u_.2.2.2.2.2.2.2.2.2.2.2.2.2.2.2.2.2.2.2.2.2.2.2.2.2.2.2.2.2.2.2.2.2.2.2.2.2.2.2.2.2.2.2.2.2.2.2.2.2.2.2.2.2.2.2.2.2.2.2.2.2.2.2.2.2.2.2.2.2.2.1 u_.2.2.2.2.2.2.2.2.2.2.2.2.2.2.2.2.2.2.2.2.2.2.2.2.2.2.2.2.2.2.2.2.2.2.2.2.2.2.2.2.2.2.2.2.2.2.2.2.2.2.2.2.2.2.2.2.2.2.2.2.2.2.2.2.2.2.2.2.2.2.2.1 u_.2.2.2.2.2.2.2.2.2.2.2.2.2.2.2.2.2.2.2.2.2.2.2.2.2.2.2.2.2.2.2.2.2.2.2.2.2.2.2.2.2.2.2.2.2.2.2.2.2.2.2.2.2.2.2.2.2.2.2.2.2.2.2.2.2.2.2.2.2.2.2.2.1 u_.2.2.2.2.2.2.2.2.2.2.2.2.2.2.2.2.2.2.2.2.2.2.2.2.2.2.2.2.2.2.2.2.2.2.2.2.2.2.2.2.2.2.2.2.2.2.2.2.2.2.2.2.2.2.2.2.2.2.2.2.2.2.2.2.2.2.2.2.2.2.2.2.2.1 u_.2.2.2.2.2.2.2.2.2.2.2.2.2.2.2.2.2.2.2.2.2.2.2.2.2.2.2.2.2.2.2.2.2.2.2.2.2.2.2.2.2.2.2.2.2.2.2.2.2.2.2.2.2.2.2.2.2.2.2.2.2.2.2.2.2.2.2.2.2.2.2.2.2.2.1 u_.2.2.2.2.2.2.2.2.2.2.2.2.2.2.2.2.2.2.2.2.2.2.2.2.2.2.2.2.2.2.2.2.2.2.2.2.2.2.2.2.2.2.2.2.2.2.2.2.2.2.2.2.2.2.2.2.2.2.2.2.2.2.2.2.2.2.2.2.2.2.2.2.2.2.2.1 u_.2.2.2.2.2.2.2.2.2.2.2.2.2.2.2.2.2.2.2.2.2.2.2.2.2.2.2.2.2.2.2.2.2.2.2.2.2.2.2.2.2.2.2.2.2.2.2.2.2.2.2.2.2.2.2.2.2.2.2.2.2.2.2.2.2.2.2.2.2.2.2.2.2.2.2.2.1 u_.2.2.2.2.2.2.2.2.2.2.2.2.2.2.2.2.2.2.2.2.2.2.2.2.2.2.2.2.2.2.2.2.2.2.2.2.2.2.2.2.2.2.2.2.2.2.2.2.2.2.2.2.2.2.2.2.2.2.2.2.2.2.2.2.2.2.2.2.2.2.2.2.2.2.2.2.2.1 u_.2.2.2.2.2.2.2.2.2.2.2.2.2.2.2.2.2.2.2.2.2.2.2.2.2.2.2.2.2.2.2.2.2.2.2.2.2.2.2.2.2.2.2.2.2.2.2.2.2.2.2.2.2.2.2.2.2.2.2.2.2.2.2.2.2.2.2.2.2.2.2.2.2.2.2.2.2.2.1 u_.2.2.2.2.2.2.2.2.2.2.2.2.2.2.2.2.2.2.2.2.2.2.2.2.2.2.2.2.2.2.2.2.2.2.2.2.2.2.2.2.2.2.2.2.2.2.2.2.2.2.2.2.2.2.2.2.2.2.2.2.2.2.2.2.2.2.2.2.2.2.2.2.2.2.2.2.2.2.2.1 u_.2.2.2.2.2.2.2.2.2.2.2.2.2.2.2.2.2.2.2.2.2.2.2.2.2.2.2.2.2.2.2.2.2.2.2.2.2.2.2.2.2.2.2.2.2.2.2.2.2.2.2.2.2.2.2.2.2.2.2.2.2.2.2.2.2.2.2.2.2.2.2.2.2.2.2.2.2.2.2.2) ?_ ?_ ?_
      · exact ⟨(_, _, _, _, _, _, _, _, _, _, _, _, _, _, _, _, _, _, _, _, _, _, _, _, _, _, _, _, _, _, _, _, _, _, _, _, _, _, _, _, _, _, _, _, _, _, _, _, _, _, _, _, _, _, _, _, _, _, _, _, _, _, _, _, _, _, _, _, _, _, _, _, _, _, _, _, _, _, _, _, _), false, false, false, false, false, false, false, false, 0, undef, rfl, rfl, HC1.out.up (Old.refl wc).drew⟩
      · rintro ⟨u11, u12, u13, u14, u15, u16, u17, u18, u19, u20, u21, u22, u23, u24, u25, u26, u27, u28, u29, u30, u31, u32, u33, u34, u35, u36, u37, u38, u39, u40, u41, u42, u43, u44, u45, u46, u47, u51, u52, u53, u54, u55, u56, u57, u58, u59, u60, u61, u62, u63, u64, u65, u66, u67, u68, u69, u70, u71, u72, u73, u74, u75, u76, u77, u78, u79, u80, u81, u82, u83, u84, u85, u86, u87, u88, u89, u90, u91, u92, u93, u94⟩ a w1 ⟨b0, b1, b2, b3, b4, b5, b6, b7, dummy, nov, hl, rfl, hF⟩
        have hl' := congrArg Array.toList hl
        simp at hl'
        obtain ⟨rfl, rfl, rfl, rfl, rfl, rfl, rfl, rfl⟩ := hl'
        clear hl
        have HX := Lib.hid hF
        clear hF
        go_wp2_with fail
        go_meet
        case rel => exact HX.out
      · rintro ⟨u11, u12, u13, u14, u15, u16, u17, u18, u19, u20, u21, u22, u23, u24, u25, u26, u27, u28, u29, u30, u31, u32, u33, u34, u35, u36, u37, u38, u39, u40, u41, u42, u43, u44, u45, u46, u47, u51, u52, u53, u54, u55, u56, u57, u58, u59, u60, u61, u62, u63, u64, u65, u66, u67, u68, u69, u70, u71, u72, u73, u74, u75, u76, u77, u78, u79, u80, u81, u82, u83, u84, u85, u86, u87, u88, u89, u90, u91, u92, u93, u94⟩
        refine ⟨?_, ?_, ?_, ?_, ?_, ?_, ?_, ?_, trivial⟩
        · intro listed a w1 K hs hcl hf hall hI hK
          obtain ⟨b0, b1, b2, b3, b4, b5, b6, b7, dummy, nov, rfl, rfl, hF⟩ := hI
          have hf' : b0 = false := hf
          subst hf'
          clear hall hcl hs hf
          go_simp
          exact hK _ _ ⟨true, b1, b2, b3, b4, b5, b6, b7, dummy, nov, rfl, rfl, hF⟩
        · intro listed a w1 K hs hcl hf hall hI hK
          obtain ⟨b0, b1, b2, b3, b4, b5, b6, b7, dummy, nov, rfl, rfl, hF⟩ := hI
          have hf' : b1 = false := hf
          subst hf'
          have hq0 : b0 = true := hall ⟨0, .data⟩ (by first | exact .head _ | simp) rfl
          subst hq0
          have hb5 : b5 = false := by
            cases b5
            · rfl
            · exact absurd (show false = true from hcl 5 _ rfl rfl ⟨1, .data⟩ (by first | exact .head _ | simp) rfl) (by decide)
          subst hb5
          have hb6 : b6 = false := by
            cases b6
            · rfl
            · exact absurd (show false = true from hcl 6 _ rfl rfl ⟨1, .phase⟩ (by first | exact .head _ | simp) rfl) (by decide)
          subst hb6
          have hb7 : b7 = false := by
            cases b7
            · rfl
            · exact absurd (show false = true from hcl 7 _ rfl rfl ⟨1, .phase⟩ (by first | exact .head _ | simp) rfl) (by decide)
          subst hb7
          clear hall hcl hs hf
          have cl : w1.cell? ⟨k, 7, none⟩ = some (.int .u64 x3) := (cell_of_row w1 k 7 _ _ _ hF.row).trans rfl
          go_simp
          exact hK _ _ ⟨true, true, b2, b3, b4, false, false, false, dummy, nov, rfl, rfl, hF⟩
        · intro listed a w1 K hs hcl hf hall hI hK
          obtain ⟨b0, b1, b2, b3, b4, b5, b6, b7, dummy, nov, rfl, rfl, hF⟩ := hI
          have hf' : b2 = false := hf
          subst hf'
          clear hall hcl hs hf
          go_simp
          exact hK _ _ ⟨b0, b1, true, b3, b4, b5, b6, b7, dummy, nov, rfl, rfl, hF⟩
        · intro listed a w1 K hs hcl hf hall hI hK
          obtain ⟨b0, b1, b2, b3, b4, b5, b6, b7, dummy, nov, rfl, rfl, hF⟩ := hI
          have hf' : b3 = false := hf
          subst hf'
          have hq2 : b2 = true := hall ⟨2, .data⟩ (by first | exact .head _ | simp) rfl
          subst hq2
          have hb4 : b4 = false := by
            cases b4
            · rfl
            · exact absurd (show false = true from hcl 4 _ rfl rfl ⟨3, .data⟩ (by first | exact .head _ | simp) rfl) (by decide)
          subst hb4
          have hb6 : b6 = false := by
            cases b6
            · rfl
            · exact absurd (show false = true from hcl 6 _ rfl rfl ⟨3, .phase⟩ (by first | exact .head _ | simp) rfl) (by decide)
          subst hb6
          have hb7 : b7 = false := by
            cases b7
            · rfl
            · exact absurd (show false = true from hcl 7 _ rfl rfl ⟨3, .chain⟩ (by first | exact .head _ | simp) rfl) (by decide)
          subst hb7
          have hb5 : b5 = false := by
            cases b5
            · rfl
            · exact absurd (show false = true from hcl 5 _ rfl rfl ⟨4, .data⟩ (by first | exact .head _ | simp) rfl) (by decide)
          subst hb5
          clear hall hcl hs hf
          have hn := nextDeck B g l6 20 w1 hF.dk (by decide) (by decide)
          rw [e7] at hn
          go_simp
          refine hn.mono ?_
          rintro e w2 ⟨rfl, hd, hg⟩
          exact hK _ _ ⟨b0, b1, true, true, false, false, false, false, dummy, nov, rfl, rfl, hF.turn hd hg⟩
        · intro listed a w1 K hs hcl hf hall hI hK
          obtain ⟨b0, b1, b2, b3, b4, b5, b6, b7, dummy, nov, rfl, rfl, hF⟩ := hI
          have hf' : b4 = false := hf
          subst hf'
          have hq3 : b3 = true := hall ⟨3, .data⟩ (by first | exact .head _ | simp) rfl
          subst hq3
          clear hall hcl hs hf
          go_simp
          exact hK _ _ ⟨b0, b1, b2, true, true, b5, b6, b7, dummy, nov, rfl, rfl, hF⟩
        · intro listed a w1 K hs hcl hf hall hI hK
          obtain ⟨b0, b1, b2, b3, b4, b5, b6, b7, dummy, nov, rfl, rfl, hF⟩ := hI
          have hf' : b5 = false := hf
          subst hf'
          have hq1 : b1 = true := hall ⟨1, .data⟩ (by first | exact .head _ | simp) rfl
          subst hq1
          have hq4 : b4 = true := hall ⟨4, .data⟩ (by first | exact .head _ | simp) rfl
          subst hq4
          clear hall hcl hs hf
          go_simp
          exact hK _ _ ⟨b0, true, b2, b3, true, true, b6, b7, dummy, nov, rfl, rfl, hF⟩
        · intro listed a w1 K hs hcl hf hall hI hK
          obtain ⟨b0, b1, b2, b3, b4, b5, b6, b7, dummy, nov, rfl, rfl, hF⟩ := hI
          have hf' : b6 = false := hf
          subst hf'
          have hq0 : b0 = true := hall ⟨0, .phase⟩ (by first | exact .head _ | simp) rfl
          subst hq0
          have hq1 : b1 = true := hall ⟨1, .phase⟩ (by first | exact .head _ | simp) rfl
          subst hq1
          have hq2 : b2 = true := hall ⟨2, .phase⟩ (by first | exact .head _ | simp) rfl
          subst hq2
          have hq3 : b3 = true := hall ⟨3, .phase⟩ (by first | exact .head _ | simp) rfl
          subst hq3
          have hq4 : b4 = true := hall ⟨4, .phase⟩ (by first | exact .head _ | simp) rfl
          subst hq4
          have hq5 : b5 = true := hall ⟨5, .phase⟩ (by first | exact .head _ | simp) rfl
          subst hq5
          clear hall hcl hs hf
          go_simp
          exact hK _ _ ⟨true, true, true, true, true, true, true, b7, dummy, nov, rfl, rfl, hF⟩
        · intro listed a w1 K hs hcl hf hall hI hK
          obtain ⟨b0, b1, b2, b3, b4, b5, b6, b7, dummy, nov, rfl, rfl, hF⟩ := hI
          have hf' : b7 = false := hf
          subst hf'
          have hq6 : b6 = true := hall ⟨6, .data⟩ (by first | exact .head _ | simp) rfl
          subst hq6
          have hq5 : b5 = true := hall ⟨5, .data⟩ (by first | exact .head _ | simp) rfl
          subst hq5
          have hq3 : b3 = true := hall ⟨3, .chain⟩ (by first | exact .head _ | simp) rfl
          subst hq3
          have hq0 : b0 = true := hall ⟨0, .phase⟩ (by first | exact .head _ | simp) rfl
          subst hq0
          have hq1 : b1 = true := hall ⟨1, .phase⟩ (by first | exact .head _ | simp) rfl
          subst hq1
          have hq2 : b2 = true := hall ⟨2, .phase⟩ (by first | exact .head _ | simp) rfl
          subst hq2
          have hq4 : b4 = true := hall ⟨4, .phase⟩ (by first | exact .head _ | simp) rfl
          subst hq4
          clear hall hcl hs hf
          have fz := frozen_of_row w1 k 8 _ _ hF.row
          have cl : w1.cell? ⟨k, 8, none⟩ = some (.int .u64 0) := (cell_of_row w1 k 8 _ _ _ hF.row).trans rfl
          go_simp
          exact hK _ _ ⟨true, true, true, true, true, true, true, true, dummy, nov, rfl, rfl, hF.put 8 (.int .u64 (x3 + x7)) rfl ⟨rfl, rfl⟩ ⟨rfl, rfl, rfl⟩⟩
    case rest =>
      have HC2 := Lib.hid hcut
      clear hcut HC1
      have HP2 : Hid (JdBd nm { jd1 nm x1 x2 x3 x4 x5 x6 with cap := x3 + x7 } ∧ NeedNil { jd1 nm x1 x2 x3 x4 x5 x6 with cap := x3 + x7 } ∧ LadNil { jd1 nm x1 x2 x3 x4 x5 x6 with cap := x3 + x7 }) :=
        Lib.hid ⟨⟨rfl, b2, (by show 0 ≤ x3 ∧ x3 ≤ 5; omega), (by show x3 ≤ x3 + x7 ∧ x3 + x7 ≤ x3 + 19; omega), (by show 0 ≤ x4 ∧ x4 ≤ 19; omega), b5, b6, Nat.zero_le _⟩, ⟨rfl, rfl, rfl⟩, ⟨rfl, rfl, rfl⟩⟩
      have HDK := Lib.hid h
      have HTS := Lib.hid hts
      generalize ({ jd1 nm x1 x2 x3 x4 x5 x6 with cap := x3 + x7 } : Jd) = j2 at *
      obtain ⟨hb2, hn2, hl2⟩ := HP2.out
      have HB2 := Lib.hid hb2
      have HN2 := Lib.hid hn2
      have HL2 := Lib.hid hl2
      clear HP2 hb2 hn2 hl2 h hts e1 e2 e3 e4 e5 e6 e7 d1 d3 d4 b2 b5 b6 d7
      obtain ⟨x8, l8, e8⟩ : ∃ x r, nx l7 4 = (x, r) := ⟨_, _, rfl⟩
      have hn8 := nextDeck B g l7 4 wc HC2.out.dk (by decide) (by decide)
      rw [e8] at hn8
      have HN8 := Lib.hid hn8
      clear hn8 e8
      go_wp2_with fail
      refine (HN8.out).mono ?_; rintro e w3 ⟨rfl, hd3, hg3⟩
      have HC3 := Lib.hid (HC2.out.turn hd3 hg3)
      clear hd3 hg3 HC2 HN8
      go_upto_if 40 with fail
      go_cut [] (fun wx => ∃ (l' : List Int) (j : Jd), JdBd nm j ∧ NeedNil j ∧ LadNil j ∧ JC w wx B g k w.heap.size l' j)
      case first =>
        by_cases hx : x8 = 0
        · subst hx
          obtain ⟨x9, l9, e9⟩ : ∃ x r, (1 + (nx l8 (2 - 1 + 1)).1, (nx l8 (2 - 1 + 1)).2) = (x, r) := ⟨_, _, rfl⟩
          have d9 := nx_bd l8 (show (1 : Int) ≤ 2 - 1 + 1 by decide)
          have f9 := congrArg Prod.fst e9
          simp only at f9
          have b9 : x9 = 1 ∨ x9 = 2 := by omega
          have HC3a := Lib.hid (HC3.out.up ((Old.refl w3).alloc (.cells #[.string ⟨#[80]⟩, .string ⟨#[49]⟩, .string ⟨#[81]⟩, .string ⟨#[0, 32, 113]⟩] 85)))
          have hr9 := rangeDeck B g l8 1 2 _ HC3a.out.dk (by decide) (by decide) (by decide)
          rw [e9] at hr9
          have HR9 := Lib.hid hr9
          clear hr9 e9 d9 f9
          go_wp2_with fail
          refine (HR9.out).mono ?_; rintro e w4 ⟨rfl, hd4, hg4⟩
          have hgl := HC3.out.gl
          have hsz := HC3.out.gw.size
          have hbk : w4.heap[w3.heap.size]? = some (.cells #[.string ⟨#[80]⟩, .string ⟨#[49]⟩, .string ⟨#[81]⟩, .string ⟨#[0, 32, 113]⟩] 85 (0, 0)) := (hg4.block _ (by simp) (fun e => by injection e with e; omega)).trans (heap_alloc_new w3 _)
          have HC4 := Lib.hid (HC3a.out.turn hd4 hg4)
          have cl : w4.cell? ⟨k, 2, none⟩ = some (.slice j2.eA j2.env.length j2.ec) := (cell_of_row w4 k 2 _ _ _ HC4.out.row).trans rfl
          have fz := frozen_of_row w4 k 2 _ _ HC4.out.row
          rcases b9 with rfl | rfl
          · have HT : Hid (Ts w4 85 (some ⟨w3.heap.size, 0, none⟩) (varsV [(⟨#[80]⟩, ⟨#[49]⟩)])) := Lib.hid (Or.inr ⟨_, 0, _, _, rfl, hbk, pre_get [.string ⟨#[80]⟩, .string ⟨#[49]⟩] [.string ⟨#[81]⟩, .string ⟨#[0, 32, 113]⟩]⟩)
            have HX : Hid (∃ (l' : List Int) (j : Jd), JdBd nm j ∧ NeedNil j ∧ LadNil j ∧ JC w (w4.setCell ⟨k, 2, none⟩ (.slice (some ⟨w3.heap.size, 0, none⟩) 1 2)) B g k w.heap.size l' j) := Lib.hid ⟨l9, { j2 with eA := some ⟨w3.heap.size, 0, none⟩, env := [(⟨#[80]⟩, ⟨#[49]⟩)], ec := 2 }, HB2.out.env_ _ _ _ (by decide), HN2.out, HL2.out, HC4.out.putE (c := 2) HT.out⟩
            clear HC3 HC3a HC4 HR9 hd4 hg4 hbk HT hgl hsz
            go_wp2_with fail
            go_meet
            case rel => exact HX.out
          · have HT : Hid (Ts w4 85 (some ⟨w3.heap.size, 0, none⟩) (varsV [(⟨#[80]⟩, ⟨#[49]⟩), (⟨#[81]⟩, ⟨#[0, 32, 113]⟩)])) := Lib.hid (Or.inr ⟨_, 0, _, _, rfl, hbk, pre_get [.string ⟨#[80]⟩, .string ⟨#[49]⟩, .string ⟨#[81]⟩, .string ⟨#[0, 32, 113]⟩] []⟩)
            have HX : Hid (∃ (l' : List Int) (j : Jd), JdBd nm j ∧ NeedNil j ∧ LadNil j ∧ JC w (w4.setCell ⟨k, 2, none⟩ (.slice (some ⟨w3.heap.size, 0, none⟩) 2 2)) B g k w.heap.size l' j) := Lib.hid ⟨l9, { j2 with eA := some ⟨w3.heap.size, 0, none⟩, env := [(⟨#[80]⟩, ⟨#[49]⟩), (⟨#[81]⟩, ⟨#[0, 32, 113]⟩)], ec := 2 }, HB2.out.env_ _ _ _ (by decide), HN2.out, HL2.out, HC4.out.putE (c := 2) HT.out⟩
            clear HC3 HC3a HC4 HR9 hd4 hg4 hbk HT hgl hsz
            go_wp2_with fail
            go_meet
            case rel => exact HX.out
        · have n8 : (x8 == 0) = false := by simpa using hx
          have HX : Hid (∃ (l' : List Int) (j : Jd), JdBd nm j ∧ NeedNil j ∧ LadNil j ∧ JC w w3 B g k w.heap.size l' j) := Lib.hid ⟨l8, j2, HB2.out, HN2.out, HL2.out, HC3.out⟩
          clear HC3
          go_wp2_with fail
          go_meet
          case rel => exact HX.out
      case rest =>
        obtain ⟨l9, j3, hb3, hn3, hl3, hc3⟩ := hcut
        have HI : Hid (∀ v, L1Rel w B g k nm os v (.int .i64 0) wc) := Lib.hid (fun v => ⟨v, 0, l9, j3, rfl, rfl, Nat.zero_le _, hb3, (by rw [hn3.2.1]; exact Nat.zero_le _), hl3, hc3⟩)
        clear hb3 hn3 hl3 hc3 HB2 HN2 HL2
        have hos : (os.length : Int) ≤ 1000 := by omega
        go_wp2_with fail
        go_loopw [9, 50] (fun s9 s50 wr => L1Rel w B g k nm os s9 s50 wr) (fun _ s50 _ => os.length - (intOf s50).toNat)
        case atStart => exact HI.out _
        case round =>
          clear HI
          obtain ⟨v9, i, l', j, rfl, rfl, hi, hb, hnl, hl, hc⟩ := hrel
          have HC := Lib.hid hc
          have HB := Lib.hid hb
          have HL := Lib.hid hl
          clear hc hb hl
          by_cases hin : i < os.length
          · have i1 : (i : Int) < (os.length : Int) := by omega
            have i0 : (0 : Int) ≤ (i : Int) := by omega
            have hs : (strsV os)[i]? = some (.string (os.getD i ⟨#[]⟩)) := by simp [strsV, List.getD_eq_getElem?_getD, List.getElem?_eq_getElem hin]
            obtain ⟨bs, off, rfl, _, hcl⟩ := (HDK.out.ts HC.out.gw HTS.out (by decide)).rs.at_ (by simp [strsV]; omega)
            have c0 := hcl _ _ hs
            clear hs hcl
            generalize os.getD i ⟨#[]⟩ = s at *
            obtain ⟨x, lx, ex⟩ : ∃ x r, nx l' 3 = (x, r) := ⟨_, _, rfl⟩
            have hn := nextDeck B g l' 3 wr HC.out.dk (by decide) (by decide)
            rw [ex] at hn
            have HN := Lib.hid hn
            clear hn ex
            go_wp2_with fail
            refine (HN.out).mono ?_; rintro e w2 ⟨rfl, hd2, hg2⟩
            have HC2 := Lib.hid (HC.out.turn hd2 hg2)
            clear hd2 hg2 HN HC
            by_cases hx : x = 0
            · subst hx
              have cl : w2.cell? ⟨k, 3, none⟩ = some (.slice j.nA j.needs.length j.nc) := (cell_of_row w2 k 3 _ _ _ HC2.out.row).trans rfl
              have hsz := HC2.out.gw.size
              have hbd : j.needs.length + 1 ≤ 68719476736 := by omega
              go_wp2_with (at_builtin; refine wpList_push (wr := w2) rfl _ _ 29 rfl _ 9 (.string ⟨#[]⟩) 1 16 Try.underlying29 info_jstr rfl (by decide) (by decide) _ _ _ rfl HC2.out.needs 1 1 [.string s] rfl rfl rfl rfl ?pn1 hsz ?_)
              case pn1 => omega
              intro v3 w4 ho3 hg3 hd3
              obtain ⟨A3, c3, rfl, hc3⟩ := HC2.out.putN ho3 hg3
              have hrow3 := HC2.out.needs.keeps hg3 (show w2.heap[k]? = some (.cells (jdCells j).toArray 33 (0, 0)) from HC2.out.row) (by decide)
              have cl3 : w4.cell? ⟨k, 3, none⟩ = some (.slice j.nA j.needs.length j.nc) := (cell_of_row w4 k 3 _ _ _ hrow3).trans rfl
              have fz3 := frozen_of_row w4 k 3 _ _ hrow3
              have HX : Hid (∀ v, L1Rel w B g k nm os v (.int .i64 ((i + 1 : Nat) : Int)) (w4.setCell ⟨k, 3, none⟩ (.slice A3 (j.needs.length + 1) c3))) := Lib.hid (fun v => ⟨v, i + 1, lx, { j with nA := A3, needs := j.needs ++ [s], nc := c3 }, rfl, rfl, hin, HB.out.needs_ _ _ _, (by show (j.needs ++ [s]).length ≤ i + 1; rw [List.length_append, List.length_singleton]; omega), HL.out, hc3⟩)
              clear hc3 hrow3 ho3 hg3 hd3 HC2 HB HL
              go_wp2_with fail
              go_roundw
              case rel => exact HX.out _
              case measure => simp [intOf]; omega
            · have nx0 : (x == 0) = false := by simpa using hx
              have HX : Hid (∀ v, L1Rel w B g k nm os v (.int .i64 ((i + 1 : Nat) : Int)) w2) := Lib.hid (fun v => ⟨v, i + 1, lx, j, rfl, rfl, hin, HB.out, by omega, HL.out, HC2.out⟩)
              clear HC2 HB HL
              go_wp2_with fail
              go_roundw
              case rel => exact HX.out _
              case measure => simp [intOf]; omega
          · obtain rfl : i = os.length := by omega
            have hng : ¬ (os.length : Int) < (os.length : Int) := by omega
            obtain ⟨x10, l10, e10⟩ : ∃ x r, nx l' 2 = (x, r) := ⟨_, _, rfl⟩
            have hn := nextDeck B g l' 2 wr HC.out.dk (by decide) (by decide)
            rw [e10] at hn
            have HN := Lib.hid hn
            clear hn e10
            go_wp2_with fail
            refine (HN.out).mono ?_; rintro e w2 ⟨rfl, hd2, hg2⟩
            have HC2 := Lib.hid (HC.out.turn hd2 hg2)
            clear hd2 hg2 HN HC
            go_upto_if 66 with fail
            go_cut [] (fun wx => ∃ (l' : List Int) (j : Jd), JdBd nm j ∧ j.needs.length ≤ os.length ∧ LadNil j ∧ JC w wx B g k w.heap.size l' j)
            case first =>
              by_cases hx : x10 = 0
              · subst hx
                obtain ⟨x11, l11, e11⟩ : ∃ x r, nx l10 7 = (x, r) := ⟨_, _, rfl⟩
                have d11 := nx_bd l10 (show (1 : Int) ≤ 7 by decide)
                rw [e11] at d11
                simp only at d11
                go_upto_region 12 with fail
                refine wp_region_steps2V (by kernel_rfl) (by kernel_rfl) (fun (u_ : Value × Value × Value × Value × Value × Value × Value × Value × Value × Value × Value × Value × Value × Value × Value × Value × Value × Value × Value × Value × Value × Value × Value × Value × Value × Value × Value × Value × Value × Value × Value × Value × Value × Value × Value × Value × Value × Value × Value × Value × Value × Value × Value × Value × Value × Value × Value × Value × Value × Value × Value × Value × Value × Value × Value × Value × Value × Value × Value × Value × Value × Value × Value × Value × Value × Value × Value × Value × Value × Value × Value × Value × Value × Value × Value × Value × Value × Value × Value × Value × Value) => JR12 w B g k w.heap.size nm A os.length c x11 v9 l10 l11 j u_.1 u_.2.1 u_.2.2.1 u_.2.2.2.1 u_.2.2.2.2.1 u_.2.2.2.2.2.1 u_.2.2.2.2.2.2.1 u_.2.2.2.2.2.2.2.1 u_.2.2.2.2.2.2.2.2.1 u_.2.2.2.2.2.2.2.2.2.1 u_.2.2.2.2.2.2.2.2.2.2.1 u_.2.2.2.2.2.2.2.2.2.2.2.1 u_.2.2.2.2.2.2.2.2.2.2.2.2.1 u_.2.2.2.2.2.2.2.2.2.2.2.2.2.1 u_.2.2.2.2.2.2.2.2.2.2.2.2.2.2.1 u_.2.2.2.2.2.2.2.2.2.2.2.2.2.2.2.1 u_.2.2.2.2.2.2.2.2.2.2.2.2.2.2.2.2.1 u_.2.2.2.2.2.2.2.2.2.2.2.2.2.2.2.2.2.1 u_.2.2.2.2.2.2.2.2.2.2.2.2.2.2.2.2.2.2.1 u_.2.2.2.2.2.2.2.2.2.2.2.2.2.2.2.2.2.2.2.1 u_.2.2.2.2.2.2.2.2.2.2.2.2.2.2.2.2.2.2.2.2.1 u_.2.2.2.2.2.2.2.2.2.2.2.2.2.2.2.2.2.2.2.2.2.1 u_.2.2.2.2.2.2.2.2.2.2.2.2.2.2.2.2.2.2.2.2.2.2.1 u_.2.2.2.2.2.2.2.2.2.2.2.2.2.2.2.2.2.2.2.2.2.2.2.1 u_.2.2.2.2.2.2.2.2.2.2.2.2.2.2.2.2.2.2.2.2.2.2.2.2.1 u_.2.2.2.2.2.2.2.2.2.2.2.2.2.2.2.2.2.2.2.2.2.2.2.2.2.1 u_.2.2.2.2.2.2.2.2.2.2.2.2.2.2.2.2.2.2.2.2.2.2.2.2.2.2.1 u_.2.2.2.2.2.2.2.2.2.2.2.2.2.2.2.2.2.2.2.2.2.2.2.2.2.2.2.1 u_.2.2.2.2.2.2.2.2.2.2.2.2.2.2.2.2.2.2.2.2.2.2.2.2.2.2.2.2.1 u_.2.2.2.2.2.2.2.2.2.2.2.2.2.2.2.2.2.2.2.2.2.2.2.2.2.2.2.2.2.1 u_.2.2.2.2.2.2.2.2.2.2.2.2.2.2.2.2.2.2.2.2.2.2.2.2.2.2.2.2.2.2.1 u_.2.2.2.2.2.2.2.2.2.2.2.2.2.2.2.2.2.2.2.2.2.2.2.2.2.2.2.2.2.2.2.1 u_.2.2.2.2.2.2.2.2.2.2.2.2.2.2.2.2.2.2.2.2.2.2.2.2.2.2.2.2.2.2.2.2.1 u_.2.2.2.2.2.2.2.2.2.2.2.2.2.2.2.2.2.2.2.2.2.2.2.2.2.2.2.2.2.2.2.2.2.1 u_.2.2.2.2.2.2.2.2.2.2.2.2.2.2.2.2.2.2.2.2.2.2.2.2.2.2.2.2.2.2.2.2.2.2.1 u_.2.2.2.2.2.2.2.2.2.2.2.2.2.2.2.2.2.2.2.2.2.2.2.2.2.2.2.2.2.2.2.2.2.2.2.1 u_.2.2.2.2.2.2.2.2.2.2.2.2.2.2.2.2.2.2.2.2.2.2.2.2.2.2.2.2.2.2.2.2.2.2.2.2.1 u_.2.2.2.2.2.2.2.2.2.2.2.2.2.2.2.2.2.2.2.2.2.2.2.2.2.2.2.2.2.2.2.2.2.2.2.2.2.1 u_.2.2.2.2.2.2.2.2.2.2.2.2.2.2.2.2.2.2.2.2.2.2.2.2.2.2.2.2.2.2.2.2.2.2.2.2.2.2.1 u_.2.2.2.2.2.2.2.2.2.2.2.2.2.2.2.2.2.2.2.2.2.2.2.2.2.2.2.2.2.2.2.2.2.2.2.2.2.2.2.1 u_.2.2.2.2.2.2.2.2.2.2.2.2.2.2.2.2.2.2.2.2.2.2.2.2.2.2.2.2.2.2.2.2.2.2.2.2.2.2.2.2.1 u_.2.2.2.2.2.2.2.2.2.2.2.2.2.2.2.2.2.2.2.2.2.2.2.2.2.2.2.2.2.2.2.2.2.2.2.2.2.2.2.2.2.1 u_.2.2.2.2.2.2.2.2.2.2.2.2.2.2.2.2.2.2.2.2.2.2.2.2.2.2.2.2.2.2.2.2.2.2.2.2.2.2.2.2.2.2.1 u_.2.2.2.2.2.2.2.2.2.2.2.2.2.2.2.2.2.2.2.2.2.2.2.2.2.2.2.2.2.2.2.2.2.2.2.2.2.2.2.2.2.2.2.1 u_.2.2.2.2.2.2.2.2.2.2.2.2.2.2.2.2.2.2.2.2.2.2.2.2.2.2.2.2.2.2.2.2.2.2.2.2.2.2.2.2.2.2.2.2.1 u_.2.2.2.2.2.2.2.2.2.2.2.2.2.2.2.2.2.2.2.2.2.2.2.2.2.2.2.2.2.2.2.2.2.2.2.2.2.2.2.2.2.2.2.2.2.1 u_.2.2.2.2.2.2.2.2.2.2.2.2.2.2.2.2.2.2.2.2.2.2.2.2.2.2.2.2.2.2.2.2.2.2.2.2.2.2.2.2.2.2.2.2.2.2.1 u_.2.2.2.2.2.2.2.2.2.2.2.2.2.2.2.2.2.2.2.2.2.2.2.2.2.2.2.2.2.2.2.2.2.2.2.2.2.2.2.2.2.2.2.2.2.2.2.1 u_.2.2.2.2.2.2.2.2.2.2.2.2.2.2.2.2.2.2.2.2.2.2.2.2.2.2.2.2.2.2.2.2.2.2.2.2.2.2.2.2.2.2.2.2.2.2.2.2.1 u_.2.2.2.2.2.2.2.2.2.2.2.2.2.2.2.2.2.2.2.2.2.2.2.2.2.2.2.2.2.2.2.2.2.2.2.2.2.2.2.2.2.2.2.2.2.2.2.2.2.1 u_.2.2.2.2.2.2.2.2.2.2.2.2.2.2.2.2.2.2.2.2.2.2.2.2.2.2.2.2.2.2.2.2.2.2.2.2.2.2.2.2.2.2.2.2.2.2.2.2.2.2.1 u_.2.2.2.2.2.2.2.2.2.2.2.2.2.2.2.2.2.2.2.2.2.2.2.2.2.2.2.2.2.2.2.2.2.2.2.2.2.2.2.2.2.2.2.2.2.2.2.2.2.2.2.1 u_.2.2.2.2.2.2.2.2.2.2.2.2.2.2.2.2.2.2.2.2.2.2.2.2.2.2.2.2.2.2.2.2.2.2.2.2.2.2.2.2.2.2.2.2.2.2.2.2.2.2.2.2.1 u_.2.2.2.2.2.2.2.2.2.2.2.2.2.2.2.2.2.2.2.2.2.2.2.2.2.2.2.2.2.2.2.2.2.2.2.2.2.2.2.2.2.2.2.2.2.2.2.2.2.2.2.2.2.1 u_.2.2.2.2.2.2.2.2.2.2.2.2.2.2.2.2.2.2.2.2.2.2.2.2.2.2.2.2.2.2.2.2.2.2.2.2.2.2.2.2.2.2.2.2.2.2.2.2.2.2.2.2.2.2.1 u_.2.2.2.2.2.2.2.2.2.2.2.2.2.2.2.2.2.2.2.2.2.2.2.2.2.2.2.2.2.2.2.2.2.2.2.2.2.2.2.2.2.2.2.2.2.2.2.2.2.2.2.2.2.2.2.1 u_.2.2.2.2.2.2.2.2.2.2.2.2.2.2.2.2.2.2.2.2.2.2.2.2.2.2.2.2.2.2.2.2.2.2.2.2.2.2.2.2.2.2.2.2.2.2.2.2.2.2.2.2.2.2.2.2.1 u_.2.2.2.2.2.2.2.2.2.2.2.2.2.2.2.2.2.2.2.2.2.2.2.2.2.2.2.2.2.2.2.2.2.2.2.2.2.2.2.2.2.2.2.2.2.2.2.2.2.2.2.2.2.2.2.2.2.1 u_.2.2.2.2.2.2.2.2.2.2.2.2.2.2.2.2.2.2.2.2.2.2.2.2.2.2.2.2.2.2.2.2.2.2.2.2.2.2.2.2.2.2.2.2.2.2.2.2.2.2.2.2.2.2.2.2.2.2.1 u_.2.2.2.2.2.2.2.2.2.2.2.2.2.2.2.2.2.2.2.2.2.2.2.2.2.2.2.2.2.2.2.2.2.2.2.2.2.2.2.2.2.2.2.2.2.2.2.2.2.2.2.2.2.2.2.2.2.2.2.1 u_.2.2.2.2.2.2.2.2.2.2.2.2.2.2.2.2.2.2.2.2.2.2.2.2.2.2.2.2.2.2.2.2.2.2.2.2.2.2.2.2.2.2.2.2.2.2.2.2.2.2.2.2.2.2.2.2.2.2.2.2.1 u_.2.2.2.2.2.2.2.2.2.2.2.2.2.2.2.2.2.2.2.2.2.2.2.2.2.2.2.2.2.2.2.2.2.2.2.2.2.2.2.2.2.2.2.2.2.2.2.2.2.2.2.2.2.2.2.2.2.2.2.2.2.1 u_.2.2.2.2.2.2.2.2.2.2.2.2.2.2.2.2.2.2.2.2.2.2.2.2.2.2.2.2.2.2.2.2.2.2.2.2.2.2.2.2.2.2.2.2.2.2.2.2.2.2.2.2.2.2.2.2.2.2.2.2.2.2.1 u_.2.2.2.2.2.2.2.2.2.2.2.2.2.2.2.2.2.2.2.2.2.2.2.2.2.2.2.2.2.2.2.2.2.2.2.2.2.2.2.2.2.2.2.2.2.2.2.2.2.2.2.2.2.2.2.2.2.2.2.2.2.2.2.1 u_.2.2.2.2.2.2.2.2.2.2.2.2.2.2.2.2.2.2.2.2.2.2.2.2.2.2.2.2.2.2.2.2.2.2.2.2.2.2.2.2.2.2.2.2.2.2.2.2.2.2.2.2.2.2.2.2.2.2.2.2.2.2.2.2.1 u_.2.2.2.2.2.2.2.2.2.2.2.2.2.2.2.2.2.2.2.2.2.2.2.2.2.2.2.2.2.2.2.2.2.2.2.2.2.2.2.2.2.2.2.2.2.2.2.2.2.2.2.2.2.2.2.2.2.2.2.2.2.2.2.2.2.1 u_.2.2.2.2.2.2.2.2.2.2.2.2.2.2.2.2.2.2.2.2.2.2.2.2.2.2.2.2.2.2.2.2.2.2.2.2.2.2.2.2.2.2.2.2.2.2.2.2.2.2.2.2.2.2.2.2.2.2.2.2.2.2.2.2.2.2.1 u_.2.2.2.2.2.2.2.2.2.2.2.2.2.2.2.2.2.2.2.2.2.2.2.2.2.2.2.2.2.2.2.2.2.2.2.2.2.2.2.2.2.2.2.2.2.2.2.2.2.2.2.2.2.2.2.2.2.2.2.2.2.2.2.2.2.2.2.1 u_.2.2.2.2.2.2.2.2.2.2.2.2.2.2.2.2.2.2.2.2.2.2.2.2.2.2.2.2.2.2.2.2.2.2.2.2.2.2.2.2.2.2.2.2.2.2.2.2.2.2.2.2.2.2.2.2.2.2.2.2.2.2.2.2.2.2.2.2.1 u_.2.2.2.2.2.2.2.2.2.2.2.2.2.2.2.2.2.2.2.2.2.2.2.2.2.2.2.2.2.2.2.2.2.2.2.2.2.2.2.2.2.2.2.2.2.2.2.2.2.2.2.2.2.2.2.2.2.2.2.2.2.2.2.2.2.2.2.2.2.1 u_.2.2.2.2.2.2.2.2.2.2.2.2.2.2.2.2.2.2.2.2.2.2.2.2.2.2.2.2.2.2.2.2.2.2.2.2.2.2.2.2.2.2.2.2.2.2.2.2.2.2.2.2.2.2.2.2.2.2.2.2.2.2.2.2.2.2.2.2.2.2.1 u_.2.2.2.2.2.2.2.2.2.2.2.2.2.2.2.2.2.2.2.2.2.2.2.2.2.2.2.2.2.2.2.2.2.2.2.2.2.2.2.2.2.2.2.2.2.2.2.2.2.2.2.2.2.2.2.2.2.2.2.2.2.2.2.2.2.2.2.2.2.2.2.1 u_.2.2.2.2.2.2.2.2.2.2.2.2.2.2.2.2.2.2.2.2.2.2.2.2.2.2.2.2.2.2.2.2.2.2.2.2.2.2.2.2.2.2.2.2.2.2.2.2.2.2.2.2.2.2.2.2.2.2.2.2.2.2.2.2.2.2.2.2.2.2.2.2.1 u_.2.2.2.2.2.2.2.2.2.2.2.2.2.2.2.2.2.2.2.2.2.2.2.2.2.2.2.2.2.2.2.2.2.2.2.2.2.2.2.2.2.2.2.2.2.2.2.2.2.2.2.2.2.2.2.2.2.2.2.2.2.2.2.2.2.2.2.2.2.2.2.2.2.1 u_.2.2.2.2.2.2.2.2.2.2.2.2.2.2.2.2.2.2.2.2.2.2.2.2.2.2.2.2.2.2.2.2.2.2.2.2.2.2.2.2.2.2.2.2.2.2.2.2.2.2.2.2.2.2.2.2.2.2.2.2.2.2.2.2.2.2.2.2.2.2.2.2.2.2.1 u_.2.2.2.2.2.2.2.2.2.2.2.2.2.2.2.2.2.2.2.2.2.2.2.2.2.2.2.2.2.2.2.2.2.2.2.2.2.2.2.2.2.2.2.2.2.2.2.2.2.2.2.2.2.2.2.2.2.2.2.2.2.2.2.2.2.2.2.2.2.2.2.2.2.2.2.1 u_.2.2.2.2.2.2.2.2.2.2.2.2.2.2.2.2.2.2.2.2.2.2.2.2.2.2.2.2.2.2.2.2.2.2.2.2.2.2.2.2.2.2.2.2.2.2.2.2.2.2.2.2.2.2.2.2.2.2.2.2.2.2.2.2.2.2.2.2.2.2.2.2.2.2.2.2.1 u_.2.2.2.2.2.2.2.2.2.2.2.2.2.2.2.2.2.2.2.2.2.2.2.2.2.2.2.2.2.2.2.2.2.2.2.2.2.2.2.2.2.2.2.2.2.2.2.2.2.2.2.2.2.2.2.2.2.2.2.2.2.2.2.2.2.2.2.2.2.2.2.2.2.2.2.2.2.1 u_.2.2.2.2.2.2.2.2.2.2.2.2.2.2.2.2.2.2.2.2.2.2.2.2.2.2.2.2.2.2.2.2.2.2.2.2.2.2.2.2.2.2.2.2.2.2.2.2.2.2.2.2.2.2.2.2.2.2.2.2.2.2.2.2.2.2.2.2.2.2.2.2.2.2.2.2.2.2.1 u_.2.2.2.2.2.2.2.2.2.2.2.2.2.2.2.2.2.2.2.2.2.2.2.2.2.2.2.2.2.2.2.2.2.2.2.2.2.2.2.2.2.2.2.2.2.2.2.2.2.2.2.2.2.2.2.2.2.2.2.2.2.2.2.2.2.2.2.2.2.2.2.2.2.2.2.2.2.2.2.1 u_.2.2.2.2.2.2.2.2.2.2.2.2.2.2.2.2.2.2.2.2.2.2.2.2.2.2.2.2.2.2.2.2.2.2.2.2.2.2.2.2.2.2.2.2.2.2.2.2.2.2.2.2.2.2.2.2.2.2.2.2.2.2.2.2.2.2.2.2.2.2.2.2.2.2.2.2.2.2.2.2) ?_ ?_ ?_
                · exact ⟨(_, _, _, _, _, _, _, _, _, _, _, _, _, _, _, _, _, _, _, _, _, _, _, _, _, _, _, _, _, _, _, _, _, _, _, _, _, _, _, _, _, _, _, _, _, _, _, _, _, _, _, _, _, _, _, _, _, _, _, _, _, _, _, _, _, _, _, _, _, _, _, _, _, _, _, _, _, _, _, _, _), false, false, false, false, false, false, false, false, false, 0, undef, rfl, rfl, ⟨HC2.out.up (Old.refl w2).drew, fun e => (by cases e)⟩⟩
                · rintro ⟨u11, u12, u13, u14, u15, u16, u17, u18, u19, u20, u21, u22, u23, u24, u25, u26, u27, u28, u29, u30, u31, u32, u33, u34, u35, u36, u37, u38, u39, u40, u41, u42, u43, u44, u45, u46, u47, u51, u52, u53, u54, u55, u56, u57, u58, u59, u60, u61, u62, u63, u64, u65, u66, u67, u68, u69, u70, u71, u72, u73, u74, u75, u76, u77, u78, u79, u80, u81, u82, u83, u84, u85, u86, u87, u88, u89, u90, u91, u92, u93, u94⟩ a w1 ⟨b0, b1, b2, b3, b4, b5, b6, b7, b8, kp, nov, hl, rfl, hF⟩
                  have hl' := congrArg Array.toList hl
                  simp at hl'
                  obtain ⟨rfl, rfl, rfl, rfl, rfl, rfl, rfl, rfl, rfl⟩ := hl'
                  clear hl
                  have HX : Hid (∃ (l' : List Int) (j : Jd), JdBd nm j ∧ j.needs.length ≤ os.length ∧ LadNil j ∧ JC w w1 B g k w.heap.size l' j) := Lib.hid ⟨l11, { j with hasR := true, ready := patOf x11 }, HB.out.ready_ _ _, hnl, HL.out, hF.jc⟩
                  clear hF
                  go_wp2_with fail
                  go_meet
                  case rel => exact HX.out
                · rintro ⟨u11, u12, u13, u14, u15, u16, u17, u18, u19, u20, u21, u22, u23, u24, u25, u26, u27, u28, u29, u30, u31, u32, u33, u34, u35, u36, u37, u38, u39, u40, u41, u42, u43, u44, u45, u46, u47, u51, u52, u53, u54, u55, u56, u57, u58, u59, u60, u61, u62, u63, u64, u65, u66, u67, u68, u69, u70, u71, u72, u73, u74, u75, u76, u77, u78, u79, u80, u81, u82, u83, u84, u85, u86, u87, u88, u89, u90, u91, u92, u93, u94⟩
                  refine ⟨?_, ?_, ?_, ?_, ?_, ?_, ?_, ?_, ?_, trivial⟩
                  · intro listed a w1 K hs hcl hf hall hI hK
                    obtain ⟨b0, b1, b2, b3, b4, b5, b6, b7, b8, kp, nov, rfl, rfl, hF⟩ := hI
                    have hf' : b0 = false := hf
                    subst hf'
                    have hb2 : b2 = false := by
                      cases b2
                      · rfl
                      · exact absurd (show false = true from hcl 2 _ rfl rfl ⟨0, .chain⟩ (by first | exact .head _ | simp) rfl) (by decide)
                    subst hb2
                    have hb3 : b3 = false := by
                      cases b3
                      · rfl
                      · exact absurd (show false = true from hcl 3 _ rfl rfl ⟨0, .data⟩ (by first | exact .head _ | simp) rfl) (by decide)
                    subst hb3
                    have hb7 : b7 = false := by
                      cases b7
                      · rfl
                      · exact absurd (show false = true from hcl 7 _ rfl rfl ⟨0, .phase⟩ (by first | exact .head _ | simp) rfl) (by decide)
                    subst hb7
                    have hb8 : b8 = false := by
                      cases b8
                      · rfl
                      · exact absurd (show false = true from hcl 8 _ rfl rfl ⟨0, .phase⟩ (by first | exact .head _ | simp) rfl) (by decide)
                    subst hb8
                    have hb6 : b6 = false := by
                      cases b6
                      · rfl
                      · exact absurd (show false = true from hcl 6 _ rfl rfl ⟨2, .chain⟩ (by first | exact .head _ | simp) rfl) (by decide)
                    subst hb6
                    have hb4 : b4 = false := by
                      cases b4
                      · rfl
                      · exact absurd (show false = true from hcl 4 _ rfl rfl ⟨3, .data⟩ (by first | exact .head _ | simp) rfl) (by decide)
                    subst hb4
                    clear hall hcl hs hf
                    go_simp
                    refine (patternsC w1).mono ?_
                    rintro e w2 ⟨rfl, rfl⟩
                    exact hK _ _ ⟨true, b1, false, false, false, b5, false, false, false, w1.heap.size, nov, rfl, rfl, hF.pat⟩
                  · intro listed a w1 K hs hcl hf hall hI hK
                    obtain ⟨b0, b1, b2, b3, b4, b5, b6, b7, b8, kp, nov, rfl, rfl, hF⟩ := hI
                    have hf' : b1 = false := hf
                    subst hf'
                    clear hall hcl hs hf
                    go_simp
                    exact hK _ _ ⟨b0, true, b2, b3, b4, b5, b6, b7, b8, kp, nov, rfl, rfl, hF⟩
                  · intro listed a w1 K hs hcl hf hall hI hK
                    obtain ⟨b0, b1, b2, b3, b4, b5, b6, b7, b8, kp, nov, rfl, rfl, hF⟩ := hI
                    have hf' : b2 = false := hf
                    subst hf'
                    have hq1 : b1 = true := hall ⟨1, .data⟩ (by first | exact .head _ | simp) rfl
                    subst hq1
                    have hq0 : b0 = true := hall ⟨0, .chain⟩ (by first | exact .head _ | simp) rfl
                    subst hq0
                    have hb3 : b3 = false := by
                      cases b3
                      · rfl
                      · exact absurd (show false = true from hcl 3 _ rfl rfl ⟨2, .data⟩ (by first | exact .head _ | simp) rfl) (by decide)
                    subst hb3
                    have hb6 : b6 = false := by
                      cases b6
                      · rfl
                      · exact absurd (show false = true from hcl 6 _ rfl rfl ⟨2, .chain⟩ (by first | exact .head _ | simp) rfl) (by decide)
                    subst hb6
                    have hb7 : b7 = false := by
                      cases b7
                      · rfl
                      · exact absurd (show false = true from hcl 7 _ rfl rfl ⟨2, .phase⟩ (by first | exact .head _ | simp) rfl) (by decide)
                    subst hb7
                    have hb8 : b8 = false := by
                      cases b8
                      · rfl
                      · exact absurd (show false = true from hcl 8 _ rfl rfl ⟨2, .phase⟩ (by first | exact .head _ | simp) rfl) (by decide)
                    subst hb8
                    have hb4 : b4 = false := by
                      cases b4
                      · rfl
                      · exact absurd (show false = true from hcl 4 _ rfl rfl ⟨3, .data⟩ (by first | exact .head _ | simp) rfl) (by decide)
                    subst hb4
                    clear hall hcl hs hf
                    have hn := nextDeck B g l10 7 w1 hF.dk (by decide) (by decide)
                    rw [e11] at hn
                    go_simp
                    refine hn.mono ?_
                    rintro e w2 ⟨rfl, hd, hg⟩
                    exact hK _ _ ⟨true, true, true, false, false, b5, false, false, false, kp, nov, rfl, rfl, hF.turn hd hg⟩
                  · intro listed a w1 K hs hcl hf hall hI hK
                    obtain ⟨b0, b1, b2, b3, b4, b5, b6, b7, b8, kp, nov, rfl, rfl, hF⟩ := hI
                    have hf' : b3 = false := hf
                    subst hf'
                    have hq0 : b0 = true := hall ⟨0, .data⟩ (by first | exact .head _ | simp) rfl
                    subst hq0
                    have hq2 : b2 = true := hall ⟨2, .data⟩ (by first | exact .head _ | simp) rfl
                    subst hq2
                    clear hall hcl hs hf
                    go_simp
                    exact hK _ _ ⟨true, b1, true, true, b4, b5, b6, b7, b8, kp, nov, rfl, rfl, hF⟩
                  · intro listed a w1 K hs hcl hf hall hI hK
                    obtain ⟨b0, b1, b2, b3, b4, b5, b6, b7, b8, kp, nov, rfl, rfl, hF⟩ := hI
                    have hf' : b4 = false := hf
                    subst hf'
                    have hq3 : b3 = true := hall ⟨3, .data⟩ (by first | exact .head _ | simp) rfl
                    subst hq3
                    have hq0 : b0 = true := hcl 3 _ rfl rfl ⟨0, .data⟩ (by first | exact .head _ | simp) rfl
                    subst hq0
                    have hq2 : b2 = true := hcl 3 _ rfl rfl ⟨2, .data⟩ (by first | exact .head _ | simp) rfl
                    subst hq2
                    have hq1 : b1 = true := hcl 2 _ rfl rfl ⟨1, .data⟩ (by first | exact .head _ | simp) rfl
                    subst hq1
                    have hb7 : b7 = false := by
                      cases b7
                      · rfl
                      · exact absurd (show false = true from hcl 7 _ rfl rfl ⟨4, .phase⟩ (by first | exact .head _ | simp) rfl) (by decide)
                    subst hb7
                    have hb8 : b8 = false := by
                      cases b8
                      · rfl
                      · exact absurd (show false = true from hcl 8 _ rfl rfl ⟨4, .data⟩ (by first | exact .head _ | simp) rfl) (by decide)
                    subst hb8
                    clear hall hcl hs hf
                    have hr := hF.run d11.1 d11.2
                    go_simp
                    exact hK _ _ ⟨true, true, true, true, true, b5, b6, false, false, kp, nov, rfl, rfl, hF⟩
                  · intro listed a w1 K hs hcl hf hall hI hK
                    obtain ⟨b0, b1, b2, b3, b4, b5, b6, b7, b8, kp, nov, rfl, rfl, hF⟩ := hI
                    have hf' : b5 = false := hf
                    subst hf'
                    clear hall hcl hs hf
                    go_simp
                    exact hK _ _ ⟨b0, b1, b2, b3, b4, true, b6, b7, b8, kp, nov, rfl, rfl, hF⟩
                  · intro listed a w1 K hs hcl hf hall hI hK
                    obtain ⟨b0, b1, b2, b3, b4, b5, b6, b7, b8, kp, nov, rfl, rfl, hF⟩ := hI
                    have hf' : b6 = false := hf
                    subst hf'
                    have hq5 : b5 = true := hall ⟨5, .data⟩ (by first | exact .head _ | simp) rfl
                    subst hq5
                    have hq2 : b2 = true := hall ⟨2, .chain⟩ (by first | exact .head _ | simp) rfl
                    subst hq2
                    have hq1 : b1 = true := hcl 2 _ rfl rfl ⟨1, .data⟩ (by first | exact .head _ | simp) rfl
                    subst hq1
                    have hq0 : b0 = true := hcl 2 _ rfl rfl ⟨0, .chain⟩ (by first | exact .head _ | simp) rfl
                    subst hq0
                    have hb7 : b7 = false := by
                      cases b7
                      · rfl
                      · exact absurd (show false = true from hcl 7 _ rfl rfl ⟨6, .phase⟩ (by first | exact .head _ | simp) rfl) (by decide)
                    subst hb7
                    have hb8 : b8 = false := by
                      cases b8
                      · rfl
                      · exact absurd (show false = true from hcl 8 _ rfl rfl ⟨6, .chain⟩ (by first | exact .head _ | simp) rfl) (by decide)
                    subst hb8
                    clear hall hcl hs hf
                    have fz := frozen_of_row w1 k 4 _ _ hF.row
                    have cl : w1.cell? ⟨k, 4, none⟩ = some (.bool j.hasR) := (cell_of_row w1 k 4 _ _ _ hF.row).trans rfl
                    go_simp
                    exact hK _ _ ⟨true, true, true, b3, b4, true, true, false, false, kp, nov, rfl, rfl, hF.put (j' := { j with hasR := true }) 4 (.bool true) rfl ⟨rfl, rfl⟩ ⟨rfl, rfl, rfl⟩⟩
                  · intro listed a w1 K hs hcl hf hall hI hK
                    obtain ⟨b0, b1, b2, b3, b4, b5, b6, b7, b8, kp, nov, rfl, rfl, hF⟩ := hI
                    have hf' : b7 = false := hf
                    subst hf'
                    have hq0 : b0 = true := hall ⟨0, .phase⟩ (by first | exact .head _ | simp) rfl
                    subst hq0
                    have hq1 : b1 = true := hall ⟨1, .phase⟩ (by first | exact .head _ | simp) rfl
                    subst hq1
                    have hq2 : b2 = true := hall ⟨2, .phase⟩ (by first | exact .head _ | simp) rfl
                    subst hq2
                    have hq3 : b3 = true := hall ⟨3, .phase⟩ (by first | exact .head _ | simp) rfl
                    subst hq3
                    have hq4 : b4 = true := hall ⟨4, .phase⟩ (by first | exact .head _ | simp) rfl
                    subst hq4
                    have hq5 : b5 = true := hall ⟨5, .phase⟩ (by first | exact .head _ | simp) rfl
                    subst hq5
                    have hq6 : b6 = true := hall ⟨6, .phase⟩ (by first | exact .head _ | simp) rfl
                    subst hq6
                    clear hall hcl hs hf
                    go_simp
                    exact hK _ _ ⟨true, true, true, true, true, true, true, true, b8, kp, nov, rfl, rfl, hF⟩
                  · intro listed a w1 K hs hcl hf hall hI hK
                    obtain ⟨b0, b1, b2, b3, b4, b5, b6, b7, b8, kp, nov, rfl, rfl, hF⟩ := hI
                    have hf' : b8 = false := hf
                    subst hf'
                    have hq7 : b7 = true := hall ⟨7, .data⟩ (by first | exact .head _ | simp) rfl
                    subst hq7
                    have hq4 : b4 = true := hall ⟨4, .data⟩ (by first | exact .head _ | simp) rfl
                    subst hq4
                    have hq6 : b6 = true := hall ⟨6, .chain⟩ (by first | exact .head _ | simp) rfl
                    subst hq6
                    have hq0 : b0 = true := hall ⟨0, .phase⟩ (by first | exact .head _ | simp) rfl
                    subst hq0
                    have hq1 : b1 = true := hall ⟨1, .phase⟩ (by first | exact .head _ | simp) rfl
                    subst hq1
                    have hq2 : b2 = true := hall ⟨2, .phase⟩ (by first | exact .head _ | simp) rfl
                    subst hq2
                    have hq3 : b3 = true := hall ⟨3, .phase⟩ (by first | exact .head _ | simp) rfl
                    subst hq3
                    have hq5 : b5 = true := hall ⟨5, .phase⟩ (by first | exact .head _ | simp) rfl
                    subst hq5
                    clear hall hcl hs hf
                    have fz := frozen_of_row w1 k 5 _ _ hF.row
                    have cl : w1.cell? ⟨k, 5, none⟩ = some (.string j.ready) := (cell_of_row w1 k 5 _ _ _ hF.row).trans rfl
                    go_simp
                    exact hK _ _ ⟨true, true, true, true, true, true, true, true, true, kp, nov, rfl, rfl, hF.put (j' := { j with hasR := true, ready := patOf x11 }) 5 (.string (patOf x11)) rfl ⟨rfl, rfl⟩ ⟨rfl, rfl, rfl⟩⟩
              · have nx0 : (x10 == 0) = false := by simpa using hx
                have HX : Hid (∃ (l' : List Int) (j : Jd), JdBd nm j ∧ j.needs.length ≤ os.length ∧ LadNil j ∧ JC w w2 B g k w.heap.size l' j) := Lib.hid ⟨l10, j, HB.out, hnl, HL.out, HC2.out⟩
                clear HC2
                go_wp2_with fail
                go_meet
                case rel => exact HX.out
            case rest =>
              obtain ⟨l12, j12, hb, hnl2, hl, hc⟩ := hcut
              have HC12 := Lib.hid hc
              have HB12 := Lib.hid hb
              have HL12 := Lib.hid hl
              obtain ⟨x13, l13, e13⟩ : ∃ x r, (1 + (nx l12 (3 - 1 + 1)).1, (nx l12 (3 - 1 + 1)).2) = (x, r) := ⟨_, _, rfl⟩
              have d13 := nx_bd l12 (show (1 : Int) ≤ 3 - 1 + 1 by decide)
              have f13 := congrArg Prod.fst e13
              simp only at f13
              have b13 : 1 ≤ x13 ∧ x13 ≤ 3 := by omega
              have hn := rangeDeck B g l12 1 3 wc hc.dk (by decide) (by decide) (by decide)
              rw [e13] at hn
              have HN := Lib.hid hn
              clear hn e13 d13 f13 hb hl hc HB HL HC2 hnl
              go_wp2_with fail
              refine (HN.out).mono ?_; rintro e w5 ⟨rfl, hd5, hg5⟩
              obtain ⟨q13, rfl⟩ := Int.eq_ofNat_of_zero_le (show 0 ≤ x13 by omega)
              have HI2 : Hid (L2Rel w B g k nm os (.int .i64 (q13 : Int)) w5) := Lib.hid ⟨q13, l13, j12, rfl, by omega, HB12.out, hnl2, (by rw [HL12.out.2.1]; show 1 ≤ 0 + q13; omega), (by rw [HL12.out.2.1]; show 0 + q13 ≤ 3; omega), (fun r hr => by rw [HL12.out.2.1] at hr; cases hr), HC12.out.turn hd5 hg5, (by rw [HL12.out.1, HL12.out.2.1, HL12.out.2.2]; exact Own.nil_ _ _ _ _)⟩
              clear hd5 hg5 HN HC12 HB12 HL12
              go_wp2_with fail
              go_loopw [10] (fun s10 wr => L2Rel w B g k nm os s10 wr) (fun s10 _ => (intOf s10).toNat)
              case atStart => exact HI2.out
              case round =>
                clear HI2
                obtain ⟨kk, l', j, rfl, hkk, hb, hnl, h1, h3, hw, hc, hlo⟩ := hrel
                have HC := Lib.hid hc
                have HB := Lib.hid hb
                have HLO := Lib.hid hlo
                clear hc hb hlo
                by_cases hk0 : 0 < kk
                · have i0 : (0 : Int) < (kk : Int) := by omega
                  obtain ⟨x, lx, ex⟩ : ∃ x r, nx l' 3 = (x, r) := ⟨_, _, rfl⟩
                  have dx := nx_bd l' (show (1 : Int) ≤ 3 by decide)
                  rw [ex] at dx
                  obtain ⟨y, ly, ey⟩ : ∃ x r, nx lx 9 = (x, r) := ⟨_, _, rfl⟩
                  have dy := nx_bd lx (show (1 : Int) ≤ 9 by decide)
                  rw [ey] at dy
                  simp only at dx dy
                  have uy := IntWalk.u64_in y (by omega)
                  go_upto_region 16 with fail
                  refine wp_region_steps2 (by kernel_rfl) (by kernel_rfl) (JR16 w B g k w.heap.size nm A os.length c kk q13 x y v9 l' lx ly j u11 u12 u13 u14 u15 u16 u17 u18 u19 u20 u21 u22 u23 u24 u25 u26 u27 u28 u29 u30 u31 u32 u33 u34 u35 u36 u37 u38 u39 u40 u41 u42 u43 u44 u45 u46 u47 u51 u52 u53 u54 u55 u56 u57 u58 u59 u60 u61 u62 u63 u64 u65 u66 u67 u68 u69 u70 u71 u72 u73 u78 u79 u80 u81 u82 u83 u84 u85 u86 u87 u88 u89 u90 u91 u92 u93 u94) ?_ ?_ ⟨?_, ?_, ?_, ?_, ?_, ?_, ?_, ?_, ?_, ?_, ?_, ?_, ?_, ?_, ?_, trivial⟩
                  · exact ⟨false, false, false, false, false, false, false, false, false, false, false, false, false, false, false, 0, 0, undef, rfl, rfl, J16.start HC.out HLO.out⟩
                  · rintro a w1 ⟨b0, b1, b2, b3, b4, b5, b6, b7, b8, b9, b10, b11, b12, b13, b14, kb, kc, va, hl, rfl, hF⟩
                    have hl' := congrArg Array.toList hl
                    simp at hl'
                    obtain ⟨rfl, rfl, rfl, rfl, rfl, rfl, rfl, rfl, rfl, rfl, rfl, rfl, rfl, rfl, rfl⟩ := hl'
                    clear hl
                    obtain ⟨A9, c9, hjc, hlo⟩ := hF.fin rfl
                    have HX : Hid (L2Rel w B g k nm os (.int .i64 ((kk : Int) - 1)) w1) := Lib.hid ⟨kk - 1, ly, { j with lA := A9, lad := j.lad ++ [(sigOf x, y)], lc := c9 }, (by congr 1; omega), by omega, HB.out.lad_ _ _ _, hnl, (by show 1 ≤ (j.lad ++ [(sigOf x, y)]).length + (kk - 1); rw [List.length_append, List.length_singleton]; omega), (by show (j.lad ++ [(sigOf x, y)]).length + (kk - 1) ≤ 3; rw [List.length_append, List.length_singleton]; omega), (fun r hr => (List.mem_append.mp hr).elim (hw r) (fun hr => by rw [List.mem_singleton] at hr; subst hr; exact dy)), hjc, hlo⟩
                    clear hF hjc hlo
                    go_wp2_with fail
                    go_roundw
                    case rel => exact HX.out
                    case measure => simp [intOf]; omega
                  · intro listed a w1 K hs hcl hf hall hI hK
                    obtain ⟨b0, b1, b2, b3, b4, b5, b6, b7, b8, b9, b10, b11, b12, b13, b14, kb, kc, va, rfl, rfl, hF⟩ := hI
                    have hf' : b0 = false := hf
                    subst hf'
                    clear hall hcl hs hf
                    go_simp
                    exact hK _ _ ⟨true, b1, b2, b3, b4, b5, b6, b7, b8, b9, b10, b11, b12, b13, b14, kb, kc, va, rfl, rfl, hF⟩
                  · intro listed a w1 K hs hcl hf hall hI hK
                    obtain ⟨b0, b1, b2, b3, b4, b5, b6, b7, b8, b9, b10, b11, b12, b13, b14, kb, kc, va, rfl, rfl, hF⟩ := hI
                    have hf' : b1 = false := hf
                    subst hf'
                    have hq0 : b0 = true := hall ⟨0, .data⟩ (by first | exact .head _ | simp) rfl
                    subst hq0
                    have hb12 : b12 = false := by
                      cases b12
                      · rfl
                      · exact absurd (show false = true from hcl 12 _ rfl rfl ⟨1, .data⟩ (by first | exact .head _ | simp) rfl) (by decide)
                    subst hb12
                    have hb13 : b13 = false := by
                      cases b13
                      · rfl
                      · exact absurd (show false = true from hcl 13 _ rfl rfl ⟨1, .phase⟩ (by first | exact .head _ | simp) rfl) (by decide)
                    subst hb13
                    have hb14 : b14 = false := by
                      cases b14
                      · rfl
                      · exact absurd (show false = true from hcl 14 _ rfl rfl ⟨1, .phase⟩ (by first | exact .head _ | simp) rfl) (by decide)
                    subst hb14
                    clear hall hcl hs hf
                    have cl : w1.cell? ⟨k, 12, none⟩ = some (.slice j.lA j.lad.length j.lc) := (cell_of_row w1 k 12 _ _ _ (hF.jc rfl).row).trans rfl
                    go_simp
                    exact hK _ _ ⟨true, true, b2, b3, b4, b5, b6, b7, b8, b9, b10, b11, false, false, false, kb, kc, va, rfl, rfl, hF⟩
                  · intro listed a w1 K hs hcl hf hall hI hK
                    obtain ⟨b0, b1, b2, b3, b4, b5, b6, b7, b8, b9, b10, b11, b12, b13, b14, kb, kc, va, rfl, rfl, hF⟩ := hI
                    have hf' : b2 = false := hf
                    subst hf'
                    have hb5 : b5 = false := by
                      cases b5
                      · rfl
                      · exact absurd (show false = true from hcl 5 _ rfl rfl ⟨2, .data⟩ (by first | exact .head _ | simp) rfl) (by decide)
                    subst hb5
                    have hb13 : b13 = false := by
                      cases b13
                      · rfl
                      · exact absurd (show false = true from hcl 13 _ rfl rfl ⟨2, .phase⟩ (by first | exact .head _ | simp) rfl) (by decide)
                    subst hb13
                    have hb14 : b14 = false := by
                      cases b14
                      · rfl
                      · exact absurd (show false = true from hcl 14 _ rfl rfl ⟨2, .phase⟩ (by first | exact .head _ | simp) rfl) (by decide)
                    subst hb14
                    have hb6 : b6 = false := by
                      cases b6
                      · rfl
                      · exact absurd (show false = true from hcl 6 _ rfl rfl ⟨5, .data⟩ (by first | exact .head _ | simp) rfl) (by decide)
                    subst hb6
                    have hb10 : b10 = false := by
                      cases b10
                      · rfl
                      · exact absurd (show false = true from hcl 10 _ rfl rfl ⟨6, .data⟩ (by first | exact .head _ | simp) rfl) (by decide)
                    subst hb10
                    have hb11 : b11 = false := by
                      cases b11
                      · rfl
                      · exact absurd (show false = true from hcl 11 _ rfl rfl ⟨10, .data⟩ (by first | exact .head _ | simp) rfl) (by decide)
                    subst hb11
                    have hb12 : b12 = false := by
                      cases b12
                      · rfl
                      · exact absurd (show false = true from hcl 12 _ rfl rfl ⟨11, .data⟩ (by first | exact .head _ | simp) rfl) (by decide)
                    subst hb12
                    clear hall hcl hs hf
                    go_simp
                    exact hK _ _ ⟨b0, b1, true, b3, b4, false, false, b7, b8, b9, false, false, false, false, false, w1.heap.size, kc, va, rfl, rfl, hF.mkb⟩
                  · intro listed a w1 K hs hcl hf hall hI hK
                    obtain ⟨b0, b1, b2, b3, b4, b5, b6, b7, b8, b9, b10, b11, b12, b13, b14, kb, kc, va, rfl, rfl, hF⟩ := hI
                    have hf' : b3 = false := hf
                    subst hf'
                    clear hall hcl hs hf
                    go_simp
                    exact hK _ _ ⟨b0, b1, b2, true, b4, b5, b6, b7, b8, b9, b10, b11, b12, b13, b14, kb, kc, va, rfl, rfl, hF⟩
                  · intro listed a w1 K hs hcl hf hall hI hK
                    obtain ⟨b0, b1, b2, b3, b4, b5, b6, b7, b8, b9, b10, b11, b12, b13, b14, kb, kc, va, rfl, rfl, hF⟩ := hI
                    have hf' : b4 = false := hf
                    subst hf'
                    have hq3 : b3 = true := hall ⟨3, .data⟩ (by first | exact .head _ | simp) rfl
                    subst hq3
                    have hb5 : b5 = false := by
                      cases b5
                      · rfl
                      · exact absurd (show false = true from hcl 5 _ rfl rfl ⟨4, .data⟩ (by first | exact .head _ | simp) rfl) (by decide)
                    subst hb5
                    have hb8 : b8 = false := by
                      cases b8
                      · rfl
                      · exact absurd (show false = true from hcl 8 _ rfl rfl ⟨4, .chain⟩ (by first | exact .head _ | simp) rfl) (by decide)
                    subst hb8
                    have hb13 : b13 = false := by
                      cases b13
                      · rfl
                      · exact absurd (show false = true from hcl 13 _ rfl rfl ⟨4, .phase⟩ (by first | exact .head _ | simp) rfl) (by decide)
                    subst hb13
                    have hb14 : b14 = false := by
                      cases b14
                      · rfl
                      · exact absurd (show false = true from hcl 14 _ rfl rfl ⟨4, .phase⟩ (by first | exact .head _ | simp) rfl) (by decide)
                    subst hb14
                    have hb6 : b6 = false := by
                      cases b6
                      · rfl
                      · exact absurd (show false = true from hcl 6 _ rfl rfl ⟨5, .data⟩ (by first | exact .head _ | simp) rfl) (by decide)
                    subst hb6
                    have hb9 : b9 = false := by
                      cases b9
                      · rfl
                      · exact absurd (show false = true from hcl 9 _ rfl rfl ⟨8, .data⟩ (by first | exact .head _ | simp) rfl) (by decide)
                    subst hb9
                    have hb12 : b12 = false := by
                      cases b12
                      · rfl
                      · exact absurd (show false = true from hcl 12 _ rfl rfl ⟨8, .chain⟩ (by first | exact .head _ | simp) rfl) (by decide)
                    subst hb12
                    have hb10 : b10 = false := by
                      cases b10
                      · rfl
                      · exact absurd (show false = true from hcl 10 _ rfl rfl ⟨6, .data⟩ (by first | exact .head _ | simp) rfl) (by decide)
                    subst hb10
                    have hb11 : b11 = false := by
                      cases b11
                      · rfl
                      · exact absurd (show false = true from hcl 11 _ rfl rfl ⟨10, .data⟩ (by first | exact .head _ | simp) rfl) (by decide)
                    subst hb11
                    clear hall hcl hs hf
                    have hn := nextDeck B g l' 3 w1 hF.dk (by decide) (by decide)
                    rw [ex] at hn
                    go_simp
                    refine hn.mono ?_
                    rintro e w2 ⟨rfl, hd, hg⟩
                    exact hK _ _ ⟨b0, b1, b2, true, true, false, false, b7, false, false, false, false, false, false, false, kb, kc, va, rfl, rfl, hF.turn hd hg⟩
                  · intro listed a w1 K hs hcl hf hall hI hK
                    obtain ⟨b0, b1, b2, b3, b4, b5, b6, b7, b8, b9, b10, b11, b12, b13, b14, kb, kc, va, rfl, rfl, hF⟩ := hI
                    have hf' : b5 = false := hf
                    subst hf'
                    have hq2 : b2 = true := hall ⟨2, .data⟩ (by first | exact .head _ | simp) rfl
                    subst hq2
                    have hq4 : b4 = true := hall ⟨4, .data⟩ (by first | exact .head _ | simp) rfl
                    subst hq4
                    clear hall hcl hs hf
                    go_simp
                    exact hK _ _ ⟨b0, b1, true, b3, true, true, b6, b7, b8, b9, b10, b11, b12, b13, b14, kb, kc, va, rfl, rfl, hF⟩
                  · intro listed a w1 K hs hcl hf hall hI hK
                    obtain ⟨b0, b1, b2, b3, b4, b5, b6, b7, b8, b9, b10, b11, b12, b13, b14, kb, kc, va, rfl, rfl, hF⟩ := hI
                    have hf' : b6 = false := hf
                    subst hf'
                    have hq5 : b5 = true := hall ⟨5, .data⟩ (by first | exact .head _ | simp) rfl
                    subst hq5
                    have hq2 : b2 = true := hcl 5 _ rfl rfl ⟨2, .data⟩ (by first | exact .head _ | simp) rfl
                    subst hq2
                    have hq4 : b4 = true := hcl 5 _ rfl rfl ⟨4, .data⟩ (by first | exact .head _ | simp) rfl
                    subst hq4
                    have hq3 : b3 = true := hcl 4 _ rfl rfl ⟨3, .data⟩ (by first | exact .head _ | simp) rfl
                    subst hq3
                    have hb10 : b10 = false := by
                      cases b10
                      · rfl
                      · exact absurd (show false = true from hcl 10 _ rfl rfl ⟨6, .data⟩ (by first | exact .head _ | simp) rfl) (by decide)
                    subst hb10
                    have hb13 : b13 = false := by
                      cases b13
                      · rfl
                      · exact absurd (show false = true from hcl 13 _ rfl rfl ⟨6, .phase⟩ (by first | exact .head _ | simp) rfl) (by decide)
                    subst hb13
                    have hb14 : b14 = false := by
                      cases b14
                      · rfl
                      · exact absurd (show false = true from hcl 14 _ rfl rfl ⟨6, .phase⟩ (by first | exact .head _ | simp) rfl) (by decide)
                    subst hb14
                    have hb11 : b11 = false := by
                      cases b11
                      · rfl
                      · exact absurd (show false = true from hcl 11 _ rfl rfl ⟨10, .data⟩ (by first | exact .head _ | simp) rfl) (by decide)
                    subst hb11
                    have hb12 : b12 = false := by
                      cases b12
                      · rfl
                      · exact absurd (show false = true from hcl 12 _ rfl rfl ⟨11, .data⟩ (by first | exact .head _ | simp) rfl) (by decide)
                    subst hb12
                    clear hall hcl hs hf
                    have hr := J16.sig (hF.tb rfl rfl).2 dx.1 dx.2
                    go_simp
                    exact hK _ _ ⟨b0, b1, true, true, true, true, true, b7, b8, b9, false, false, false, false, false, kb, kc, va, rfl, rfl, hF⟩
                  · intro listed a w1 K hs hcl hf hall hI hK
                    obtain ⟨b0, b1, b2, b3, b4, b5, b6, b7, b8, b9, b10, b11, b12, b13, b14, kb, kc, va, rfl, rfl, hF⟩ := hI
                    have hf' : b7 = false := hf
                    subst hf'
                    clear hall hcl hs hf
                    go_simp
                    exact hK _ _ ⟨b0, b1, b2, b3, b4, b5, b6, true, b8, b9, b10, b11, b12, b13, b14, kb, kc, va, rfl, rfl, hF⟩
                  · intro listed a w1 K hs hcl hf hall hI hK
                    obtain ⟨b0, b1, b2, b3, b4, b5, b6, b7, b8, b9, b10, b11, b12, b13, b14, kb, kc, va, rfl, rfl, hF⟩ := hI
                    have hf' : b8 = false := hf
                    subst hf'
                    have hq7 : b7 = true := hall ⟨7, .data⟩ (by first | exact .head _ | simp) rfl
                    subst hq7
                    have hq4 : b4 = true := hall ⟨4, .chain⟩ (by first | exact .head _ | simp) rfl
                    subst hq4
                    have hq3 : b3 = true := hcl 4 _ rfl rfl ⟨3, .data⟩ (by first | exact .head _ | simp) rfl
                    subst hq3
                    have hb9 : b9 = false := by
                      cases b9
                      · rfl
                      · exact absurd (show false = true from hcl 9 _ rfl rfl ⟨8, .data⟩ (by first | exact .head _ | simp) rfl) (by decide)
                    subst hb9
                    have hb12 : b12 = false := by
                      cases b12
                      · rfl
                      · exact absurd (show false = true from hcl 12 _ rfl rfl ⟨8, .chain⟩ (by first | exact .head _ | simp) rfl) (by decide)
                    subst hb12
                    have hb13 : b13 = false := by
                      cases b13
                      · rfl
                      · exact absurd (show false = true from hcl 13 _ rfl rfl ⟨8, .phase⟩ (by first | exact .head _ | simp) rfl) (by decide)
                    subst hb13
                    have hb14 : b14 = false := by
                      cases b14
                      · rfl
                      · exact absurd (show false = true from hcl 14 _ rfl rfl ⟨8, .phase⟩ (by first | exact .head _ | simp) rfl) (by decide)
                    subst hb14
                    have hb10 : b10 = false := by
                      cases b10
                      · rfl
                      · exact absurd (show false = true from hcl 10 _ rfl rfl ⟨9, .data⟩ (by first | exact .head _ | simp) rfl) (by decide)
                    subst hb10
                    have hb11 : b11 = false := by
                      cases b11
                      · rfl
                      · exact absurd (show false = true from hcl 11 _ rfl rfl ⟨10, .data⟩ (by first | exact .head _ | simp) rfl) (by decide)
                    subst hb11
                    clear hall hcl hs hf
                    have hn := nextDeck B g lx 9 w1 hF.dk (by decide) (by decide)
                    rw [ey] at hn
                    go_simp
                    refine hn.mono ?_
                    rintro e w2 ⟨rfl, hd, hg⟩
                    exact hK _ _ ⟨b0, b1, b2, true, true, b5, b6, true, true, false, false, false, false, false, false, kb, kc, va, rfl, rfl, hF.turn hd hg⟩
                  · intro listed a w1 K hs hcl hf hall hI hK
                    obtain ⟨b0, b1, b2, b3, b4, b5, b6, b7, b8, b9, b10, b11, b12, b13, b14, kb, kc, va, rfl, rfl, hF⟩ := hI
                    have hf' : b9 = false := hf
                    subst hf'
                    have hq8 : b8 = true := hall ⟨8, .data⟩ (by first | exact .head _ | simp) rfl
                    subst hq8
                    clear hall hcl hs hf
                    go_simp
                    exact hK _ _ ⟨b0, b1, b2, b3, b4, b5, b6, b7, true, true, b10, b11, b12, b13, b14, kb, kc, va, rfl, rfl, hF⟩
                  · intro listed a w1 K hs hcl hf hall hI hK
                    obtain ⟨b0, b1, b2, b3, b4, b5, b6, b7, b8, b9, b10, b11, b12, b13, b14, kb, kc, va, rfl, rfl, hF⟩ := hI
                    have hf' : b10 = false := hf
                    subst hf'
                    have hq6 : b6 = true := hall ⟨6, .data⟩ (by first | exact .head _ | simp) rfl
                    subst hq6
                    have hq9 : b9 = true := hall ⟨9, .data⟩ (by first | exact .head _ | simp) rfl
                    subst hq9
                    clear hall hcl hs hf
                    go_simp
                    exact hK _ _ ⟨b0, b1, b2, b3, b4, b5, true, b7, b8, true, true, b11, b12, b13, b14, kb, kc, va, rfl, rfl, hF⟩
                  · intro listed a w1 K hs hcl hf hall hI hK
                    obtain ⟨b0, b1, b2, b3, b4, b5, b6, b7, b8, b9, b10, b11, b12, b13, b14, kb, kc, va, rfl, rfl, hF⟩ := hI
                    have hf' : b11 = false := hf
                    subst hf'
                    have hq10 : b10 = true := hall ⟨10, .data⟩ (by first | exact .head _ | simp) rfl
                    subst hq10
                    have hq6 : b6 = true := hcl 10 _ rfl rfl ⟨6, .data⟩ (by first | exact .head _ | simp) rfl
                    subst hq6
                    have hq9 : b9 = true := hcl 10 _ rfl rfl ⟨9, .data⟩ (by first | exact .head _ | simp) rfl
                    subst hq9
                    have hq5 : b5 = true := hcl 6 _ rfl rfl ⟨5, .data⟩ (by first | exact .head _ | simp) rfl
                    subst hq5
                    have hq8 : b8 = true := hcl 9 _ rfl rfl ⟨8, .data⟩ (by first | exact .head _ | simp) rfl
                    subst hq8
                    have hq2 : b2 = true := hcl 5 _ rfl rfl ⟨2, .data⟩ (by first | exact .head _ | simp) rfl
                    subst hq2
                    have hq4 : b4 = true := hcl 5 _ rfl rfl ⟨4, .data⟩ (by first | exact .head _ | simp) rfl
                    subst hq4
                    have hq7 : b7 = true := hcl 8 _ rfl rfl ⟨7, .data⟩ (by first | exact .head _ | simp) rfl
                    subst hq7
                    have hq3 : b3 = true := hcl 4 _ rfl rfl ⟨3, .data⟩ (by first | exact .head _ | simp) rfl
                    subst hq3
                    have hb12 : b12 = false := by
                      cases b12
                      · rfl
                      · exact absurd (show false = true from hcl 12 _ rfl rfl ⟨11, .data⟩ (by first | exact .head _ | simp) rfl) (by decide)
                    subst hb12
                    have hb13 : b13 = false := by
                      cases b13
                      · rfl
                      · exact absurd (show false = true from hcl 13 _ rfl rfl ⟨11, .phase⟩ (by first | exact .head _ | simp) rfl) (by decide)
                    subst hb13
                    have hb14 : b14 = false := by
                      cases b14
                      · rfl
                      · exact absurd (show false = true from hcl 14 _ rfl rfl ⟨11, .phase⟩ (by first | exact .head _ | simp) rfl) (by decide)
                    subst hb14
                    clear hall hcl hs hf
                    go_simp
                    exact hK _ _ ⟨b0, b1, true, true, true, true, true, true, true, true, true, true, false, false, false, kb, w1.heap.size, va, rfl, rfl, hF.mkc⟩
                  · intro listed a w1 K hs hcl hf hall hI hK
                    obtain ⟨b0, b1, b2, b3, b4, b5, b6, b7, b8, b9, b10, b11, b12, b13, b14, kb, kc, va, rfl, rfl, hF⟩ := hI
                    have hf' : b12 = false := hf
                    subst hf'
                    have hq1 : b1 = true := hall ⟨1, .data⟩ (by first | exact .head _ | simp) rfl
                    subst hq1
                    have hq11 : b11 = true := hall ⟨11, .data⟩ (by first | exact .head _ | simp) rfl
                    subst hq11
                    have hq8 : b8 = true := hall ⟨8, .chain⟩ (by first | exact .head _ | simp) rfl
                    subst hq8
                    have hq0 : b0 = true := hcl 1 _ rfl rfl ⟨0, .data⟩ (by first | exact .head _ | simp) rfl
                    subst hq0
                    have hq10 : b10 = true := hcl 11 _ rfl rfl ⟨10, .data⟩ (by first | exact .head _ | simp) rfl
                    subst hq10
                    have hq7 : b7 = true := hcl 8 _ rfl rfl ⟨7, .data⟩ (by first | exact .head _ | simp) rfl
                    subst hq7
                    have hq4 : b4 = true := hcl 8 _ rfl rfl ⟨4, .chain⟩ (by first | exact .head _ | simp) rfl
                    subst hq4
                    have hq6 : b6 = true := hcl 10 _ rfl rfl ⟨6, .data⟩ (by first | exact .head _ | simp) rfl
                    subst hq6
                    have hq9 : b9 = true := hcl 10 _ rfl rfl ⟨9, .data⟩ (by first | exact .head _ | simp) rfl
                    subst hq9
                    have hq3 : b3 = true := hcl 4 _ rfl rfl ⟨3, .data⟩ (by first | exact .head _ | simp) rfl
                    subst hq3
                    have hq5 : b5 = true := hcl 6 _ rfl rfl ⟨5, .data⟩ (by first | exact .head _ | simp) rfl
                    subst hq5
                    have hq2 : b2 = true := hcl 5 _ rfl rfl ⟨2, .data⟩ (by first | exact .head _ | simp) rfl
                    subst hq2
                    have hb13 : b13 = false := by
                      cases b13
                      · rfl
                      · exact absurd (show false = true from hcl 13 _ rfl rfl ⟨12, .phase⟩ (by first | exact .head _ | simp) rfl) (by decide)
                    subst hb13
                    have hb14 : b14 = false := by
                      cases b14
                      · rfl
                      · exact absurd (show false = true from hcl 14 _ rfl rfl ⟨12, .data⟩ (by first | exact .head _ | simp) rfl) (by decide)
                    subst hb14
                    clear hall hcl hs hf
                    have hrow := (hF.rc rfl rfl).2
                    refine step_appO w1 (by rfl) _ _ 31 (by rfl) w.heap.size 74 (.agg #[.int .i64 0, .int .u64 0]) 2 16 Try.underlying31 info_jrung rfl (by decide) (by decide) (.slice j.lA j.lad.length j.lc) j.lad.length (rungs j.lad) (by rfl) (hF.lo rfl) (some ⟨kc, 0, none⟩) 1 1 [.int .i64 (sigOf x), .int .u64 y] (by rfl) (Or.inr ⟨kc, 0, rfl, fun i u hu => by rw [Nat.zero_add, cell_of_row w1 kc i _ _ _ hrow, List.getElem?_toArray]; exact hu⟩) rfl rfl (by omega) (hF.jc rfl).gw.size ?_
                    intro v' w' ho hg hst
                    exact hK _ _ ⟨true, true, true, true, true, true, true, true, true, true, true, true, true, false, false, kb, kc, v', rfl, rfl, hF.app ho hg⟩
                  · intro listed a w1 K hs hcl hf hall hI hK
                    obtain ⟨b0, b1, b2, b3, b4, b5, b6, b7, b8, b9, b10, b11, b12, b13, b14, kb, kc, va, rfl, rfl, hF⟩ := hI
                    have hf' : b13 = false := hf
                    subst hf'
                    have hq0 : b0 = true := hall ⟨0, .phase⟩ (by first | exact .head _ | simp) rfl
                    subst hq0
                    have hq1 : b1 = true := hall ⟨1, .phase⟩ (by first | exact .head _ | simp) rfl
                    subst hq1
                    have hq2 : b2 = true := hall ⟨2, .phase⟩ (by first | exact .head _ | simp) rfl
                    subst hq2
                    have hq3 : b3 = true := hall ⟨3, .phase⟩ (by first | exact .head _ | simp) rfl
                    subst hq3
                    have hq4 : b4 = true := hall ⟨4, .phase⟩ (by first | exact .head _ | simp) rfl
                    subst hq4
                    have hq5 : b5 = true := hall ⟨5, .phase⟩ (by first | exact .head _ | simp) rfl
                    subst hq5
                    have hq6 : b6 = true := hall ⟨6, .phase⟩ (by first | exact .head _ | simp) rfl
                    subst hq6
                    have hq7 : b7 = true := hall ⟨7, .phase⟩ (by first | exact .head _ | simp) rfl
                    subst hq7
                    have hq8 : b8 = true := hall ⟨8, .phase⟩ (by first | exact .head _ | simp) rfl
                    subst hq8
                    have hq9 : b9 = true := hall ⟨9, .phase⟩ (by first | exact .head _ | simp) rfl
                    subst hq9
                    have hq10 : b10 = true := hall ⟨10, .phase⟩ (by first | exact .head _ | simp) rfl
                    subst hq10
                    have hq11 : b11 = true := hall ⟨11, .phase⟩ (by first | exact .head _ | simp) rfl
                    subst hq11
                    have hq12 : b12 = true := hall ⟨12, .phase⟩ (by first | exact .head _ | simp) rfl
                    subst hq12
                    clear hall hcl hs hf
                    go_simp
                    exact hK _ _ ⟨true, true, true, true, true, true, true, true, true, true, true, true, true, true, b14, kb, kc, va, rfl, rfl, hF⟩
                  · intro listed a w1 K hs hcl hf hall hI hK
                    obtain ⟨b0, b1, b2, b3, b4, b5, b6, b7, b8, b9, b10, b11, b12, b13, b14, kb, kc, va, rfl, rfl, hF⟩ := hI
                    have hf' : b14 = false := hf
                    subst hf'
                    have hq13 : b13 = true := hall ⟨13, .data⟩ (by first | exact .head _ | simp) rfl
                    subst hq13
                    have hq12 : b12 = true := hall ⟨12, .data⟩ (by first | exact .head _ | simp) rfl
                    subst hq12
                    have hq0 : b0 = true := hall ⟨0, .phase⟩ (by first | exact .head _ | simp) rfl
                    subst hq0
                    have hq1 : b1 = true := hall ⟨1, .phase⟩ (by first | exact .head _ | simp) rfl
                    subst hq1
                    have hq2 : b2 = true := hall ⟨2, .phase⟩ (by first | exact .head _ | simp) rfl
                    subst hq2
                    have hq3 : b3 = true := hall ⟨3, .phase⟩ (by first | exact .head _ | simp) rfl
                    subst hq3
                    have hq4 : b4 = true := hall ⟨4, .phase⟩ (by first | exact .head _ | simp) rfl
                    subst hq4
                    have hq5 : b5 = true := hall ⟨5, .phase⟩ (by first | exact .head _ | simp) rfl
                    subst hq5
                    have hq6 : b6 = true := hall ⟨6, .phase⟩ (by first | exact .head _ | simp) rfl
                    subst hq6
                    have hq7 : b7 = true := hall ⟨7, .phase⟩ (by first | exact .head _ | simp) rfl
                    subst hq7
                    have hq8 : b8 = true := hall ⟨8, .phase⟩ (by first | exact .head _ | simp) rfl
                    subst hq8
                    have hq9 : b9 = true := hall ⟨9, .phase⟩ (by first | exact .head _ | simp) rfl
                    subst hq9
                    have hq10 : b10 = true := hall ⟨10, .phase⟩ (by first | exact .head _ | simp) rfl
                    subst hq10
                    have hq11 : b11 = true := hall ⟨11, .phase⟩ (by first | exact .head _ | simp) rfl
                    subst hq11
                    clear hall hcl hs hf
                    obtain ⟨A9, c9, hv9, _, _, _⟩ := (hF.la rfl rfl).shape
                    subst hv9
                    have fz := frozen_of_row w1 k 12 _ _ (hF.jc rfl).row
                    have cl : w1.cell? ⟨k, 12, none⟩ = some (.slice j.lA j.lad.length j.lc) := (cell_of_row w1 k 12 _ _ _ (hF.jc rfl).row).trans rfl
                    go_simp
                    exact hK _ _ ⟨true, true, true, true, true, true, true, true, true, true, true, true, true, true, true, kb, kc, .slice A9 (j.lad.length + 1) c9, rfl, rfl, hF.st⟩
                · obtain rfl : kk = 0 := by omega
                  have i0 : ¬ (0 : Int) < ((0 : Nat) : Int) := by omega
                  have HJE := Lib.hid (HC.out.je HLO.out)
                  have HPO : Hid (∀ w', JE w w' B g w.heap.size l' j → JobPost w B g nm os.length (.returned (jdA j)) w') := Lib.hid (fun w' q => ⟨j, l', rfl, HB.out, hnl, h1, h3, hw, q.mem, q.dk, q.gw⟩)
                  obtain ⟨⟨e0, e1, e2, e3, e4, e5, e6, e7, e8, e9, e10, e11, e12, e13, e14⟩, _⟩ := row15 HC.out.row
                  obtain ⟨⟨d0, d1, d2, d3, d4, d5, d6, d7, d8, d9, d10, d11, d12, d13, d14⟩, g0, g1, g2, g3, g4, g5, g6, g7, g8, g9, g10, g11, g12, g13, g14⟩ := row15 HC.out.res
                  clear HC HLO HB h1 h3 hw hnl
                  go_wp2_with fail
                  refine bodyPost_ret (by first | (simp [results, Try.results20, go_sem, jdA, d0, d1, d2, d3, d4, d5, d6, d7, d8, d9, d10, d11, d12, d13, d14]; done) | (simp [results, Try.results20, go_sem, jdA, d0, d1, d2, d3, d4, d5, d6, d7, d8, d9, d10, d11, d12, d13, d14]; rfl)) rfl (HPO.out _ ?_)
                  repeat with_reducible refine JE.set ?_ _ _
                  exact HJE.out
end Go.Proofs.Ytpknglclcdgfbaa
