/- Part 1: walks and plain laws. -/
import Derived.WalkKit
import Derived.Lib.Hide
import Derived.Deep.QuietTactic
import Derived.Maps.AppendAt
import Derived.Deep.AppendLies
import Derived.Deep.Slices
import Derived.Deep.Fields
import Derived.ProofKit
import Derived.ChangeSame
import Derived.Test.YtflccikncbhpdaaGreatDoorRows
import Derived.OpenShut
import Derived.ShutString
import Derived.ChangeOld
import Derived.Below
import Derived.Test.YtflccikncbhpdaaGreatDoorProg
import Derived.WalkSpells
import Derived.WalkLawsBesides
import Derived.Laws.IdiomStrings
import Derived.Laws.BytesArg
import Derived.BigQuiet
import Derived.IntWalk
import Derived.Laws.BitsAllLaws
import Derived.RegionTactic
import Derived.Deep.RegionHeld3
import Derived.Orders
import Derived.Deep.DeepCutAuto
import Derived.Lib.IndexBytes
import Derived.Shelf.Strings.Builder1
import Derived.Deep.RegionLaw
import Derived.Lib.BitFns
import Derived.RowKit
import Derived.Shelf.Small.Bits
import Derived.Shelf.Strconv.Itoa0
import Derived.Shelf.Spec.BitsCarry
import Derived.MapKept
import Derived.Shelf.Small.Strs
import Derived.Shelf.Slices.Turned
import Derived.Shelf.Pu.ParseUintPublic10
import Derived.Lib.SlicesCompact
import Derived.Sort.Row
import Derived.Sort.Grow
import Derived.Shelf.Sort.Plain
import Derived.Shelf.Slices.CompactI
import Derived.Shelf.Slices.In.SortNone
import Derived.Deep.CutBlock
import Derived.Handy
set_option maxHeartbeats 16000000
set_option maxRecDepth 100000
open Go.Lib renaming hid → aJ, indexByte → j_, compact → z_, IsBuilder → IT, compact → K1, compactUpTo → Q1
open Go renaming cell_of_row → aK, heap_setCell_other → aL, heap_alloc_new → aM, frozen_of_row → aN, heap_setCell_same → aO, bodyPost_ret → aP, lt_of_block → aQ, undef → aR, World → Q4, Value → Q5, Calls → Q6, TypeId → Q7, Addr → Q8, Ending → Q9, Oper → Q_, Program → Ra, info_parts → Rb, Operand → Rc, MemPlace → Re, block_lt_of_cell → Rf, wpList_append_own → Rg, run_underlying → Rh, run_append_own_at → Ri
open List renaming getD_eq_getElem?_getD → bD, getElem?_eq_getElem → bE, length_append → bF, length_singleton → bG, getElem_mem → bH, getElem?_eq_none → bI, getElem?_append_left → bJ, length_set → bK, length_map → bL, length_cons → fb, drop_eq_nil_of_le → gf, cons_append → h_, length_drop → ja, eq_nil_of_length_eq_zero → jb, mem_cons → jx, range → jy, take_of_length_le → k9, append_assoc → m_, map_cons → o0, drop_zero → p_, mem_singleton → r_, drop_succ_cons → se, getElem?_take → s8, mem_map → u5, mem_append → wN, drop_drop → w_, map_toArray → x4, map_nil → x6, not_mem_nil → x_, flatMap_cons → yr, takeWhile_sublist → y8, mem_cons_self → y9, replicate → y_, takeWhile_cons_of_pos → H_, length → I_, getElem?_eq_some_iff → L6, mem_range → M_, getElem?_map → No, all_eq_true → QA, getElem?_append_right → QD, map_map → QE, map_congr_left → QF, takeWhile_cons → QI, append_nil → QL, take_succ_eq_append_getElem → QM, map_append → QR, prefix_iff_eq_take → QT, takeWhile_prefix → QU, getElem_toArray → QV, getElem_of_mem → QW, findIdx?_eq_some_iff_getElem → QX, filterMap_append → QZ, filterMap_cons → Q0, mem_iff_getElem → Q3
open Nat renaming le_refl → bM, le_trans → bN, zero_le → bO, eq_zero_or_pos → jd, mul_le_mul → n_, lt_of_lt_of_le → qn, zero_add → te, mod_lt → u_, sub_zero → v_, eq_of_testBit_eq → wj, mul_pos → A_, le_succ → J_, add_assoc → K_, mul_le_mul_right → La, zero_mul → OW, testBit_or → O_, testBit_two_pow → P_, testBit_lt_two_pow → Qv, pow_le_pow_right → Qx, testBit_xor → Qy, testBit_two_pow_sub_one → Qz, lt_or_ge → QK, mul_one → QN, pow_succ → QQ
open Option.some renaming inj → bQ, injEq → s_
open Go.World.ownsRow renaming kept → bT, lt → bU
open Go.IntWalk renaming i64_in → bV, u8_in → fe, u64_in → D_
open Exists renaming intro → bW
open Or renaming inl → bX, inr → bY
variable {w w' w0 wr w2:Go.World} {xs:List Go.Value} {g a i B off base' id:Nat} {A:Option Go.Addr} {v u v0 v1 v2 v3 v4 v5 v6 v7 v8 v9:Go.Value} {s:ByteArray} {l:List Int} {α:Type} {cs:Array Go.Value} {r ks:List Nat} {z:Nat×Nat} {ns:List ByteArray}
open Go.Value renaming int → Z, slice → U, string → Q, pointer → M, bool → K, tuple → b_, int → fm, ownBlock → f_, oneCell' → k_, cells → L_, slice → QO
open Go.IntKind renaming i64 → Y, u64 → E, u8 → c_, i64 → d_, u8 → e_, u64 → hC, min → B0, max → B1, signed → B3, bits → B_
open Option renaming none → V, some → X, map_some → F_
open Bool renaming false → O, true → G, true_and → qe, false_eq_true → G_, false_and → Qu, true_or → QJ, and_eq_true → QP, not_eq_true → Q2
open Go.Obj renaming cells → H
open Go.Ending renaming returned → a_, returned → hD
open Array renaming getD → g_, replicate → ov, length_toList → Hx, getElem?_eq_getElem → QB, getElem_setIfInBounds_ne → QC, toList_inj → QH, getElem?_modify → QY
open Go.Region renaming wanted → hE, binds → wv, ready → E_
open Go.Sort renaming ahead → im
open Int renaming tmod_eq_emod_of_nonneg → i_, neg_neg → C0, emod_nonneg → C_, neg_tmod → N_, emod_lt_of_pos → OF, natCast_add → QS
open Go.Oper renaming wp → l_
open Go.Addr renaming add_lit → nv
open UInt8 renaming ofNat → oR, toNat → q_, toNat_lt → IS, toNat_inj → QG
open Go.Shelf renaming Ren → o_
open Go.RowKit.Below renaming grown → qb, trans → Ab, refl → K2
open Go.Builtin renaming append_ → t_, lenOf → L7, firstCells → L8
open Go.World.grownBy renaming refl → u0, trans → Av
open Go.Sem renaming run_bind → xi, run_pure → xj
open Go.Result renaming andThen_ok → xr, andThen → L9
open Go.ByteArray renaming toList_eq → IN
open Go.Proofs.Tryz renaming prog → Rj
open Go.Proofs.Tryz
namespace Go.Proofs.YtflccikncbhpdaaGreatDoor
open Go.RowKit Go.Shelf
set_option linter.unusedVariables false
def ID(w w':Q4):Prop:=Below w.heap.size w w'
theorem ID.out(h:ID w w'):Below w.heap.size w w':=h
theorem ID.refl(w:Q4):ID w w:=K2 _ _
theorem ID.size(h:ID w w'):w.heap.size<=w'.heap.size:=Below.size h
theorem ID.up{a b c:Q4}(h:ID a b)(k:ID b c):ID a c:=Ab h (Below.mono k h.size)
theorem ID.drewN{a b:Q4}(h:ID a b)(n:Nat):ID a (b.drewN n):=⟨h.out.os,h.out.tape,h.out.output,h.out.size,h.out.block⟩
theorem ID.drew{a b:Q4}(h:ID a b):ID a b.drew:=Below.drew h
theorem ID.alloc{a b:Q4}(h:ID a b)(o:Obj):ID a (b.alloc o):=Below.alloc h h.size o
theorem ID.setCell{a b:Q4}(h:ID a b){p:Q8}(c:a.heap.size<=p.block)(u:Q5):ID a (b.setCell p u):=Below.setCell h c u
theorem ID.cell(h:ID w w'){p:Q8}(hc:w.cell? p=X u):w'.cell? p=X u:=
 (Below.cell h (Rf hc)).trans hc
theorem ID.block(h:ID w w'){b:Nat}{o:Obj}(hc:w.heap[b]? =X o):w'.heap[b]? =X o:=
 (Below.block h b (aQ hc)).trans hc
def Rs(w:Q4)(A:Option Q8)(xs:List Q5):Prop:=
 xs=[]\/∃b off,A=X ⟨b,off,V⟩/\∀j u,xs[j]? =X u->w.cell? ⟨b,off+j,V⟩=X u
theorem Rs.Jk:Rs w A []:=bX rfl
theorem Rs.at_(h:Rs w A xs)(hne:0<xs.length):
  ∃b off,A=X ⟨b,off,V⟩/\b<w.heap.size/\∀j u,xs[j]? =X u->w.cell? ⟨b,off+j,V⟩=X u:=by
 rcases h with rfl|⟨b,off,a,hc⟩
 ·simp at hne
 refine⟨b,off,a,?_,hc⟩;have:=hc 0 _ (bE hne);exact Rf this
theorem Rs.keep(h:Rs w A xs)(hk:∀p:Q8,∀u,w.cell? p=X u->w'.cell? p=X u):Rs w' A xs:=by
 rcases h with rfl|⟨b,off,a,hc⟩
 ·exact Rs.Jk
 exact bY ⟨b,off,a,fun j u c=>hk _ _ (hc j u c)⟩
theorem Rs.up(h:Rs w A xs)(a:ID w w'):Rs w' A xs:=h.keep fun _ _ b=>a.cell b
theorem Rs.alloc(h:Rs w A xs)(o:Obj):Rs (w.alloc o) A xs:=h.up ((ID.refl w).alloc o)
theorem Rs.take(h:Rs w A xs)(k:Nat):Rs w A (xs.take k):=by
 rcases h with rfl|⟨b,off,c,hc⟩
 ·simp;exact Rs.Jk
 refine bY ⟨_,_,c,fun j u a=>?_⟩
 rw[s8] at a;split at a
 ·grind
 cases a
theorem Rs.drop{b:Nat}(h:Rs w (X ⟨b,off,V⟩) xs)(k:Nat):Rs w (X ⟨b,off+k,V⟩) (xs.drop k):=by
 rcases h with rfl|⟨b,off,a,hc⟩
 ·simp;exact Rs.Jk
 simp only[s_,Addr.mk.injEq,and_true] at a;obtain⟨rfl,rfl⟩:=a;refine bY ⟨_,_,rfl,fun j u c=>?_⟩
 rw[List.getElem?_drop] at c;rw[K_];exact hc _ _ c
theorem Rs.LD(h:Rs w V xs):xs=[]:=by
 rcases h with h|⟨b,off,a,_⟩
 ·exact h
 cases a
theorem Rs.cellAt{b:Nat}(h:Rs w (X ⟨b,off,V⟩) xs){j:Nat}(a:xs[j]? =X u):w.cell? ⟨b,off+j,V⟩=X u:=by
 rcases h with rfl|⟨b,off,c,hc⟩
 ·simp at a
 grind
def Ts(w:Q4)(e:Q7)(A:Option Q8)(xs:List Q5):Prop:=
 xs=[]\/∃b off cur fz,A=X ⟨b,off,V⟩/\w.heap[b]? =X (H cur e fz)/\∀j u,xs[j]? =X u->cur[off+j]? =X u
theorem Ts.Jk{e:Q7}:Ts w e A []:=bX rfl
theorem Ts.rs{e:Q7}(h:Ts w e A xs):Rs w A xs:=by
 rcases h with rfl|⟨b,off,cur,fz,a,c,hc⟩
 ·exact Rs.Jk
 refine bY ⟨b,off,a,fun j u d=>?_⟩
 rw[aK w b (off+j) cur e fz c];exact hc j u d
theorem Ts.up{e:Q7}(h:Ts w e A xs)(c:ID w w'):Ts w' e A xs:=by
 rcases h with rfl|⟨b,off,cur,fz,a,d,hc⟩
 ·exact Ts.Jk
 exact bY ⟨b,off,cur,fz,a,c.block d,hc⟩
theorem Ts.take{e:Q7}(h:Ts w e A xs)(k:Nat):Ts w e A (xs.take k):=by
 rcases h with rfl|⟨b,off,cur,fz,c,d,hc⟩
 ·simp;exact Ts.Jk
 refine bY ⟨b,off,cur,fz,c,d,fun j u a=>?_⟩
 rw[s8] at a;split at a
 ·grind
 cases a
def IL(w:Q4)(base:Nat)(e:Q7)(size:Nat)(v:Q5)(n:Nat)(xs:List Q5):Prop:=w.ownsRow base e size v n xs
theorem IL.out{base:Nat}{e:Q7}{size:Nat}{n:Nat}(h:IL w base e size v n xs):w.ownsRow base e size v n xs:=h
theorem IL.Jk(w:Q4)(base:Nat)(e:Q7)(size:Nat):IL w base e size (U V 0 0) 0 []:=World.ownsRow_nil w base e size
theorem IL.len{base:Nat}{e:Q7}{size:Nat}{n:Nat}(h:IL w base e size v n xs):xs.length=n*size:=h.out.1
theorem IL.base{base:Nat}{e:Q7}{size:Nat}{n:Nat}(h:IL w base e size v n xs)(c:base'<=base):
  IL w base' e size v n xs:=by
 rcases h with⟨h1,⟨h2,a⟩|⟨g,cap,cur,h2,d,b⟩⟩
 ·exact⟨h1,bX ⟨h2,a⟩⟩
 exact⟨h1,bY ⟨g,cap,cur,h2,by omega,b⟩⟩
theorem IL.up{base:Nat}{e:Q7}{size:Nat}{n:Nat}(h:IL w base e size v n xs)(a:ID w w'):IL w' base e size v n xs:=by
 refine bT (row:=V) h ⟨a.out.os,a.out.tape,a.out.output,a.out.size,fun k hk _=>a.out.block k hk⟩ ?_
 grind
theorem IL.alloc{base:Nat}{e:Q7}{size:Nat}{n:Nat}(h:IL w base e size v n xs)(o:Obj):IL (w.alloc o) base e size v n xs:=h.up ((ID.refl w).alloc o)
theorem IL.shape{base:Nat}{e:Q7}{size:Nat}{n:Nat}(h:IL w base e size v n xs):
  ∃A c,v=U A n c/\Ts w e A xs/\n<=c/\c<=maxLen:=by
 rcases h with⟨h1,⟨rfl,rfl⟩|⟨g,cap,cur,rfl,f,b,d,hm,hs,hx⟩⟩
 ·refine⟨V,0,rfl,bX (jb (by simpa using h1)),bM _,bO _⟩
 refine⟨_,cap,rfl,bY ⟨g,0,cur,(0,0),rfl,b,fun j u a=>?_⟩,d,hm⟩
 rw[<-hx,s8] at a;split at a
 ·grind
 cases a
theorem IL.form{base:Nat}{e:Q7}{size:Nat}{n:Nat}(h:IL w base e size v n xs)(f:0<n):
  ∃g c,v=U (X ⟨g,0,V⟩) n c/\base<=g/\g<w.heap.size/\n<=c/\c<=maxLen:=by
 rcases h with⟨h1,⟨rfl,rfl⟩|⟨g,cap,cur,rfl,b,d,a,hm,hs,hx⟩⟩
 ·omega
 grind
theorem IU{row:Option Nat}(h:ID w0 w)(a:w.grownBy w' row)(b:∀g,row=X g->w0.heap.size<=g):ID w0 w':=
 qb h a h.size b
theorem IL.IU{base:Nat}{e:Q7}{size:Nat}{n:Nat}(h:ID w0 w)(hown:IL w base e size v n xs)(a:w0.heap.size<=base)
  (b:w.grownBy w' v.ownBlock):ID w0 w':=
 qb h b h.size (fun k hk=>bN a (bU hown k hk).1)
theorem Ts.grown{e d:Q7}{base size n:Nat}{i:List Q5}(h:Ts w e A xs)(hown:IL w base d size v n i)(hne:e≠d)(f:w.grownBy w' v.ownBlock):Ts w' e A xs:=by
 rcases h with rfl|⟨b,off,cur,fz,rfl,c,hc⟩
 ·exact Ts.Jk
 refine bY ⟨b,off,cur,fz,rfl,?_,hc⟩;rw[f.block b (aQ c) ?_]
 ·exact c
 intro hk;rcases hown with⟨_,⟨rfl,_⟩|⟨g,cap,j,rfl,_,a,_⟩⟩
 ·simp[f_] at hk
 simp[f_] at hk;subst hk;rw[c] at a;simp at a;exact hne a.2.1
theorem IL.grown{base:Nat}{e f:Q7}{size b:Nat}{v':Q5}{n k:Nat}{l:List Q5}(h:IL w base e size v n xs)(hown:IL w base' f b v' k l)(hne:e≠f)
  (j:w.grownBy w' v'.ownBlock):IL w' base e size v n xs:=by
 refine bT h j ?_;rcases h with⟨_,⟨rfl,_⟩|⟨g,cap,m,rfl,_,c,_⟩⟩
 ·exact bX rfl
 rcases hown with⟨_,⟨rfl,_⟩|⟨o,d,i,rfl,_,a,_⟩⟩
 ·exact bY (by simp[f_])
 refine bY ?_;intro hk;simp[f_] at hk;subst hk;rw[c] at a;simp at a;exact hne a.2
theorem gz(w:Q4)(cs:List Q5)(e:Q7):∀j u,cs[j]? =X u->(w.alloc (H cs.toArray e)).cell? ((⟨w.heap.size,0,V⟩:Q8).add j)=X u:=by
 intro j u h;rw[nv,te,aK _ w.heap.size j cs.toArray e (0,0) (aM w _)];simpa using h
theorem dQ(w:Q4)(cs:List Q5)(e:Q7):Rs (w.alloc (H cs.toArray e)) (X ⟨w.heap.size,0,V⟩) cs:=
 bY ⟨_,_,rfl,fun j u h=>by have:=gz w cs e j u h;rwa [nv] at this⟩
theorem jJ(w:Q4)(cs:Array Q5)(n size:Nat)(e:Q7)(hm:n<=maxLen)(hs:cs.size=n*size):
  IL (w.alloc (H cs e)) w.heap.size e size (U (X ⟨w.heap.size,0,V⟩) n n) n cs.toList:=by
 refine⟨by simpa using hs,bY ⟨_,n,cs,rfl,bM _,aM w _,bM _,hm,hs,?_⟩⟩
 exact k9 (by simp;omega)
theorem IL.shrink{base:Nat}{e:Q7}{size:Nat}{n c:Nat}(h:IL w base e size (U A n c) n xs)(f:i<=n):
  IL w base e size (U A i c) i (xs.take (i*size)):=by
 have hm:i*size<=n*size:=La _ f
 rcases h with⟨h1,⟨h2,rfl⟩|⟨g,cap,cur,h2,b,d,j,a,hs,hx⟩⟩
 ·obtain rfl:i=0:=by omega
  have:xs=[]:=jb (by simpa using h1)
  subst this;exact⟨by simp,bX ⟨h2,rfl⟩⟩
 simp only[Value.slice.injEq] at h2;obtain⟨rfl,_,rfl⟩:=h2;refine⟨by rw[List.length_take,h1];omega,bY ⟨g,c,cur,rfl,b,d,by omega,a,hs,?_⟩⟩
 rw[<-hx,List.take_take,Nat.min_eq_left hm]
theorem IL.Nh{base:Nat}{e:Q7}{size n c:Nat}(h:IL w base e size (U (X ⟨g,0,V⟩) n c) n xs)(j:Nat)(u:Q5):
  IL (w.setCell ⟨g,j,V⟩ u) base e size (U (X ⟨g,0,V⟩) n c) n (xs.set j u)/\w.grownBy (w.setCell ⟨g,j,V⟩ u) (X g):=World.ownsRow.stored h j u
theorem IL.cellAt{base:Nat}{e:Q7}{size n c:Nat}(h:IL w base e size (U (X ⟨g,0,V⟩) n c) n xs){j:Nat}(a:xs[j]? =X u):
  w.cell? ⟨g,j,V⟩=X u/\w.frozen? ⟨g,j,V⟩=O:=by
 have hj:j<n*size:=by rw[<-h.len];exact(L6.mp a).1
 exact⟨(World.ownsRow.cellAt h j hj).trans a,World.ownsRow.frozenAt h j⟩
section
variable {P : Ra} {w : Q4} {ops : Array Q_} {rest : List Q_} {o : Q_} {a : Act} {Q : Exit -> Act -> Q4 -> Prop}
theorem aw(k:o.guard=V)(s x:Rc)(t:Q7)
  (F:o.op= .call {callee:= .builtin .append,args:=#[s,x],argTypes:=#[t,t]})
  (base:Nat) (e:Q7) (z:Q5) (size bytes:Nat) (I:P.underlying t=X (.slice e))
  (B:(P.info? e).map (fun i=>(i.zero,i.size,i.bytes))=X (X z,size,bytes)) (p:z.cells.size=size) (hsz:0<size) (j:bytes<=1024)
  (v:Q5) (n:Nat) (xs:List Q5) (hs:a.eval s=v) (hown:IL wr base e size v n xs)
  (m c:Nat) (b:List Q5) (hx:a.eval x=U (X ⟨wr.heap.size,0,V⟩) m c) (J:w=wr.alloc (H b.toArray e)) (C:b.length=m*size) (h1:b.all k_=G)
  (D:n+m<=68719476736) (f:base<=wr.heap.size)
  (h:∀v' w',IL w' base e size v' (n+m) (xs++b)->wr.grownBy w' v.ownBlock->(∀w0,ID w0 wr->w0.heap.size<=base->ID w0 w')->wpList P ops Q rest (a.put o.dst v') w'):wpList P ops Q (o::rest) a w:=by
 subst J;obtain⟨i,l,hz,d,g⟩:=Rb B;have A:(n+m)*bytes<=68719476736*1024:=n_ D j;refine Rg _ k s x t F base e i z size bytes I l hz d g p hsz v n xs hs (IL.alloc hown _) ⟨wr.heap.size,0,V⟩ m c b hx C (gz wr b e) (by simpa using h1)
  (by unfold maxLen;omega) (by omega) (by simp;omega) ?_
 intro v' w' h2 u _;have q:wr.grownBy w' v.ownBlock:=Av (World.grownBy_alloc wr _ _) u;exact h v' w' h2 q (fun w0 r y=>IL.IU r hown y q)
theorem dP(base:Nat)(t f e:Q7)(i:TypeInfo)(size:Nat)(d:P.underlying t=X (.slice e))(b:P.info? e=X i)
  (v:Q5) (n:Nat) (xs:List Q5) (hown:w.ownsRow base e size v n xs) (c:Nat):(t_ #[t,t] f #[v,U V 0 c]).run P w= .ok v w:=by
 rcases hown.2 with⟨rfl,rfl⟩|⟨g,cap,cur,rfl,_,_,a,_⟩
 ·simp[t_,Rh d,sizeOf,typeInfo,b,L7,L8]
 simp[t_,Rh d,sizeOf,typeInfo,b,L7,L8,a,storeCells]
theorem iY(l:o.guard=V)(s x:Rc)(t:Q7)
  (F:o.op= .call {callee:= .builtin .append,args:=#[s,x],argTypes:=#[t,t]})
  (base:Nat) (e:Q7) (z:Q5) (size bytes:Nat) (J:P.underlying t=X (.slice e))
  (W:(P.info? e).map (fun i=>(i.zero,i.size,i.bytes))=X (X z,size,bytes)) (B:z.cells.size=size) (hsz:0<size) (y:bytes<=1024)
  (v:Q5) (n:Nat) (xs:List Q5) (hs:a.eval s=v) (hown:IL w base e size v n xs)
  (A:Option Q8) (m c:Nat) (d:List Q5) (hx:a.eval x=U A m c) (I:Rs w A d) (D:d.length=m*size) (h1:d.all k_=G)
  (hn:n+m<=68719476736) (g:base<=w.heap.size)
  (h:∀v' w',IL w' base e size v' (n+m) (xs++d)->w.grownBy w' v.ownBlock->(∀w0,ID w0 w->w0.heap.size<=base->ID w0 w')->wpList P ops Q rest (a.put o.dst v') w'):wpList P ops Q (o::rest) a w:=by
 obtain⟨i,p,hz,k,r⟩:=Rb W;have T:(n+m)*bytes<=68719476736*1024:=n_ hn y;cases A with
 |none=>
  obtain rfl:=I.LD;obtain rfl:m=0:=by
   rcases jd m with f|f
   ·exact f
   have:=A_ f hsz;simp at D;omega
  refine wpList_plain l fun K R=>?_
  have q:=dP (P:=P) (w:=w) base t o.type e i size J p v n xs hown c
  unfold l_;simp[execOp,F,resolve,invoke,builtin,hs,hx,q,L9];exact R _ _ (h v w (by simpa using hown) (u0 _ _) (fun w0 f _=>f))
 |some ad=>
  refine Rg _ l s x t F base e i z size bytes J p hz k r B hsz v n xs hs hown ad m c d hx D ?_ (by simpa using h1) (by unfold maxLen;omega) (by omega) g ?_
  ·intro j u L;rcases I with rfl|⟨b,off,N,hc⟩
   ·simp at L
   obtain rfl:=bQ N;rw[nv];exact hc j u L
  intro v' w' h2 C _;exact h v' w' h2 C (fun w0 f S=>IL.IU f hown S C)
theorem dN(g:o.guard=V)(l c:Rc)(t:Q7)(A:o.op=Op.makeSlice t l c)
  (e:Q7) (z:Q5) (size bytes:Nat) (B:P.underlying t=X (.slice e)) (u:(P.info? e).map (fun i=>(i.zero,i.size,i.bytes))=X (X z,size,bytes)) (f:bytes<=1024)
  (m kc:IntKind) (L C:Int) (n:Nat) (x:a.eval l=Z m L) (hc:a.eval c=Z kc C) (r:L=(n:Int)) (q:C=(n:Int)) (y:n<=68719476736)
  (h:∀w',IL w' w.heap.size e size (U (X ⟨w.heap.size,0,V⟩) n n) n (madeCells z.cells (n*size)).toList->ID w w'->wpList P ops Q rest (a.put o.dst (U (X ⟨w.heap.size,0,V⟩) n n)) w'):wpList P ops Q (o::rest) a w:=by
 obtain⟨i,j,hz,b,d⟩:=Rb u;have s:bytes*n<=1024*68719476736:=n_ f y;refine wpList_make_full _ g l c t A w.heap.size e i z size B j hz b m kc L C n x hc r q (by rw[d];omega) (by unfold maxLen;omega) (bM _) ?_
 intro w' h2 p;exact h w' h2 (qb (K2 _ _) p (bM _) (by intro k hk;cases hk))
end
theorem mY{P:Ra}{f:FuncId}{args:Array Q5}{n:Nat}
  (h:Q6 P f args (w.drewN n) fun e w'=>e=a_ v/\w.drewN n=w'):Q6 P f args (w.drewN n) fun e a=>e=a_ v/\∃m,a=w.drewN m:=
 h.mono fun _ _ ⟨b,hm⟩=>⟨b,n,hm.symm⟩
def nQ(w:Q4)(e:Q7)(size n:Nat)(xs:List Q5)(d:Q9)(w':Q4):Prop:=
 ∃v,d=a_ v/\IL w' w.heap.size e size v n xs/\ID w w'
theorem fl{a b:Bool}(h:a=b):hD (K a)=a_ (K b):=by rw[h]
theorem Cn{k:IntKind}{a b:Int}(h:a=b):hD (Z k a)=a_ (Z k b):=by rw[h]
theorem aS(h : ID w w' := by (repeat (first | exact ID.refl _ | refine ID.drew ?_ | refine ID.drewN ?_ _ | refine ID.alloc ?_ _))) : ID w w' := h
theorem cr_{k:Nat}{t:Q7}(h:w.heap[k]? =X (H cs t z))(i:Nat)(v:Q5)(e:cs[i]? =X v:=by rfl):w.cell? ⟨k,i,V⟩=X v:=(cell_of_row w k i _ _ _ h).trans e
abbrev RO_(v:Q5)(w:Q4)(e:Q9)(w':Q4):Prop:=e=a_ v/\ID w w'
theorem gm_{l:List α}{d:α}(h:i<l.length):l.getD i d∈l:=by rw[List.getD_eq_getElem?_getD,List.getElem?_eq_getElem h];exact List.getElem_mem h
theorem ng_{c:Prop}{i:Decidable c}(h:¬c){α:Sort _}{t e:α}:ite c t e=e:=if_neg h
theorem ps_{c:Prop}{i:Decidable c}(h:c){α:Sort _}{t e:α}:ite c t e=t:=if_pos h
end Go.Proofs.YtflccikncbhpdaaGreatDoor
namespace Go.Proofs.YtflccikncbhpdaaGreatDoor
open Go.RowKit Go.ChangeShapes Go.WideShapes Go.Deep
theorem tr{C:Nat}(d:0<C):∀(cells:List (List α)),(∀cs∈cells,cs.length=C)->∀j u,cells.flatten[j]? =X u->∃cs,cells[j/C]? =X cs/\cs[j%C]? =X u:=by
 intro cells
 induction cells with
 |nil=>simp
 |cons a cells ih=>
  intro c j u h;have ha:a.length=C:=c a (by simp)
  rw[List.flatten_cons,List.getElem?_append] at h
  by_cases hj:j<C
  ·rw[ha,ps_ hj] at h;rw[Nat.div_eq_of_lt hj,Nat.mod_eq_of_lt hj];exact⟨a,rfl,h⟩
  rw[ha,ng_ hj] at h;obtain⟨cs,h1,h2⟩:=ih (fun cs b=>c cs (by simp[b])) _ _ h
  obtain⟨i,rfl⟩:∃i,j=i+C:=⟨j-C,by omega⟩
  rw[Nat.add_sub_cancel] at h1 h2;rw[Nat.add_div_right _ d,Nat.add_mod_right];exact⟨cs,by simpa using h1,h2⟩
theorem rv{β:Type}(f:β->α)(p:β->Prop):∀(l:List α),(∀a∈l,∃b,a=f b/\p b)->∃m:List β,l=m.map f/\∀b∈m,p b:=by
 intro l
 induction l with
 |nil=>simp
 |cons a l ih=>
  intro h;obtain⟨b,c,d⟩:=h a (by simp)
  obtain⟨m,hm,e⟩:=ih (fun x hx=>h x (by simp[hx]))
  refine⟨b::m,by rw[c,hm];rfl,fun x hx=>?_⟩
  rcases jx.mp hx with rfl|hx
  ·exact d
  exact e x hx
section
variable {H : Type} {enc : Q7 × Q5 -> H} {P : Ra} {w : Q4} {base : Nat} {spare : Nat -> Bool} {held : Bool}
theorem sG{t e:Q7}{a:Option Q8}{len cap:Nat}{d:DataW H}{p:List Re}(S:P.underlying t=X (.slice e))(I:0<P.cellsOf e)
  (h:DataW.Trod enc P w base spare held t (U a len cap) d p):
  ∃cells:List (List Q5),cells.length=len/\len<=cap/\cap<=maxLen/\Rs w a cells.flatten/\∀cs∈cells,cs.length=P.cellsOf e/\∃n y,DataW.trod enc P w base spare held n e cs=X y:=by
 obtain⟨fuel,J⟩:=h;rcases open_slice S J with⟨g,_⟩|⟨x,l,c,m,n,D,Pl,g,_,N,hm,B,_,L⟩
 ·simp[L_] at g;obtain⟨rfl,rfl,rfl⟩:=g;exact⟨[],rfl,bO _,bO _,Rs.Jk,by simp⟩
 simp[L_] at g;obtain⟨rfl,rfl,rfl⟩:=g;have R:len<=m:=by rw[B];split<;>omega
 obtain⟨f,r⟩:=choose_lt (n:=len) (p:=fun i q=>w.cells? base (x.add (i*P.cellsOf e)) (P.cellsOf e)=X q/\DataW.trod enc P w base spare held n e q=X (D i,Pl i)) (fun i s=>L i (by omega))
 have o:∀cs∈(jy len).map f,cs.length=P.cellsOf e:=by
  intro cs g;simp only[u5,M_] at g;obtain⟨i,s,rfl⟩:=g;exact(World.cells?_some (r i s).1).2.1
 refine⟨(jy len).map f,by simp,N,hm,?_,fun cs g=>⟨o cs g,?_⟩⟩
 ·have k:∀j u,((jy len).map f).flatten[j]? =X u->w.cell? (x.add j)=X u:=by
   intro j u C;obtain⟨cs,h1,h2⟩:=tr I _ o j u C;have hj:j/P.cellsOf e<len:=by
    have:=(L6.mp h1).1
    simpa using this
   rw[No,List.getElem?_range hj] at h1;simp at h1;subst h1;have F:=(World.cells?_some (r _ hj).1).2.2 (j%P.cellsOf e) (u_ _ I);rw[add_add,h2,show j/P.cellsOf e*P.cellsOf e+j%P.cellsOf e=j from by rw[Nat.mul_comm];exact Nat.div_add_mod _ _] at F
   exact F
  rcases jd ((jy len).map f).flatten.length with A|A
  ·exact bX (jb A)
  have h1:=k 0 _ (bE A)
  have z:x.spot=V:=by
   have:=World.cell?_spot h1
   simpa [Addr.add] using this
  obtain⟨b,off,sp⟩:=x;simp at z;subst z;refine bY ⟨b,off,rfl,fun j u C=>?_⟩
  have:=k j u C
  rwa [nv] at this
 grind
theorem yR{t:Q7}{k:IntKind}{cs:List Q5}{n:Nat}{y:DataW H×List Re}(b:P.underlying t=X (.int k))(h:DataW.trod enc P w base spare held n t cs=X y):
  ∃x:Int,cs=[Z k x]/\(Lit.int k x).wf=G:=by
 obtain⟨a,ha,_,_⟩:=DataW.trod_int b h
 grind
end
end Go.Proofs.YtflccikncbhpdaaGreatDoor
namespace Go.Proofs.YtflccikncbhpdaaGreatDoor
open Go.ChangeShapes Go.WideShapes Go.ChangeAt Go.RowKit
set_option linter.unusedVariables false
namespace Rw
theorem own:ownKnob Rj.godebug=V:=by kernel_rfl
theorem CP:laidOutB Rj=G:=by kernel_rfl
theorem u64{x:Int}(h:(Lit.int E x).wf=G):0<=x/\x<=18446744073709551615:=by
 simp[Lit.wf,B0,B1,B3,B_] at h;exact⟨by omega,by omega⟩
theorem i64{x:Int}(h:(Lit.int Y x).wf=G): -9223372036854775808<=x/\x<=9223372036854775807:=by
 simp[Lit.wf,B0,B1,B3,B_] at h;exact⟨by omega,by omega⟩
theorem u8{x:Int}(h:(Lit.int c_ x).wf=G):0<=x/\x<=255:=by
 simp[Lit.wf,B0,B1,B3,B_] at h;exact⟨by omega,by omega⟩
end Rw
end Go.Proofs.YtflccikncbhpdaaGreatDoor
namespace Go.Proofs.YtflccikncbhpdaaGreatDoor
open Go.RowKit Go.Shelf
set_option linter.unusedVariables false
theorem yd{v n:Int}(h:0<=v.tmod n)(d:1<=n):v.tmod n=v%n:=by
 by_cases a:0<=v
 ·exact i_ a
 have e:=N_ (-v) n
 rw[C0,i_ (show 0<= -v by omega)] at e
 have h1:=C_ (-v) (show n≠0 by omega)
 have h2:(-v)%n=0:=by omega
 rw[e,h2];have b:n ∣ -v:=Int.dvd_of_emod_eq_zero h2;have c:n ∣ v:=by
  have:=Int.dvd_neg.mpr b
  rwa [C0] at this
 rw[Int.emod_eq_zero_of_dvd c];rfl
theorem ye{v n:Int}(h:v.tmod n<0)(g:1<=n):v.tmod n+n=v%n/\ -n<v.tmod n:=by
 have a:¬0<=v:=by
  intro a;rw[i_ a] at h;have:=C_ v (show n≠0 by omega)
  omega
 have e:=N_ (-v) n
 rw[C0,i_ (show 0<= -v by omega)] at e
 have h2:=OF (-v) (show 0<n by omega)
 rw[e] at h ⊢;refine⟨?_,by omega⟩
 have b:v=(n-(-v)%n)+n*(-((-v)/n)-1):=by
  have f:=Int.emod_add_mul_ediv (-v) n
  have d:n*(-((-v)/n)-1)= -(n*((-v)/n))-n:=by rw[Int.mul_sub,Int.mul_neg,Int.mul_one]
  rw[d];generalize n*((-v)/n)=X at *;generalize (-v)%n=Y at *;omega
 have c:v%n=(n-(-v)%n)%n:=by
  conv=>lhs;rw[b]
  rw[Int.add_mul_emod_self_left]
 rw[c];generalize (-v)%n=Y at *;rw[Int.emod_eq_of_lt (by omega) (by omega)]
 omega
theorem CH(v n:Int)(a:1<=n)(c:n<=9223372036854775807)(w:Q4):
  Q6 Rj 63 #[Z Y v,Z Y n] w fun e w'=>e=a_ (Z Y (v%n))/\w=w':=by
 by_cases h:v.tmod n<0
 ·obtain⟨e,_⟩:=ye h a;have d:(n==0)=O:=by simp;omega
  rw[<-e];clear e;go_enter func63,ntmps63;go_wp2;go_ret;exact⟨rfl,rfl⟩
 have b:0<=v.tmod n:=by omega
 have e:=yd b a
 rw[<-e];clear e h;go_enter func63,ntmps63;go_wp2;go_ret;exact⟨rfl,rfl⟩
theorem rJ{a:Q4}{row:Option Nat}(h:a.grownBy w row)(n:Nat):a.grownBy (w.drewN n) row:=⟨h.os,h.tape,h.output,h.size,h.block⟩
theorem dR{a:Q4}{row:Option Nat}(h:a.grownBy w row)(k:ID w w'):a.grownBy w' row:=
 h.trans ⟨k.out.os,k.out.tape,k.out.output,k.out.size,fun i b _=>k.out.block i b⟩
theorem sH{a:Q4}{row:Option Nat}(k:ID a w)(h:w.grownBy w' row):a.grownBy w' row:=
 Av ⟨k.out.os,k.out.tape,k.out.output,k.out.size,fun i b _=>k.out.block i b⟩ h
def bytes(l:List UInt8):List Q5:=l.map fun b=> Z c_ (b.toNat:Int)
theorem xF(l:List UInt8)(i:Nat)(h:i<l.length):(bytes l)[i]? =X (Z c_ ((l.getD i 0).toNat:Int)):=by grind [bytes]
theorem ug{P:Ra}(w:Q4){src dst e:Q7}(A:Option Q8)(c:Nat)(l:List UInt8)(hs:P.underlying src=X (.slice e))(a:P.underlying e=X (.int c_))(hd:P.underlying dst=X .string)
  (d:Rs w A (bytes l)):(convert src dst (U A l.length c)).run P w= .ok (Q ⟨l.toArray⟩) w:=by
 cases A with
 |none=>
  have f:=d.LD
  have h1:l=[]:=by simpa [bytes] using f
  subst h1;exact run_convert_bytes_nil w src e hs a 0 c dst hd
 |some ad=>
  refine run_convert_bytes_back w src dst e ad c l hs a hd ?_;intro j hj;rcases d with h|⟨b,off,g,hc⟩
  ·have:l=[]:=by simpa [bytes] using h
   subst this;simp at hj
  obtain rfl:=bQ g;rw[nv];have:=hc j _ (xF l j hj);rw[bD,bE hj] at this;exact this
theorem pG{P:Ra}{t:Q7}(d:P.underlying t=X (.slice (P.elem t)))(hs:∀w:Q4,(sizeOf (P.elem t)).run P w= .ok 1 w)(A:Option Q8)(len c a:Nat)(H:Int)(hH:H=(a:Int))(h:a<=c)(w:Q4):
  (Instr.slice t (U A len c) V (X (Z Y H)) V).run P w= .ok (U A a c) w:=by
 subst hH;rw[run_slice_h (P:=P) w t A len c d Y (a:Int) (by omega) (by omega),hs]
 simp only[L9,sliced,Int.toNat_natCast,OW,v_]
 by_cases b:c=0
 ·grind
 rw[ng_ b];cases A<;>simp[Addr.add_zero']
def aW(l:List Int):List Q5:=l.map (fm Y)
theorem eC(l:List Int):(aW l).length=l.length:=by simp[aW]
theorem kV(l:List Int)(i:Nat)(h:i<l.length):(aW l)[i]? =X (Z Y (l.getD i 0)):=by grind [aW]
def nx(l:List Int)(n:Int):Int×List Int:=match l with|[]=>(0,[])|v::r=>(v%n,r)
theorem fO(l:List Int){n:Int}(a:1<=n):0<=(nx l n).1/\(nx l n).1<n:=by
 cases l with
 |nil=>exact⟨Int.le_refl _,by show(0:Int)<n;omega⟩
 |cons v r=>exact⟨C_ _ (by omega),OF _ (by omega)⟩
def Dk(w:Q4)(B g:Nat)(l:List Int):Prop:=
 B<=g/\∃(A:Option Q8) (c:Nat) (at_:Nat) (full:List Int),w.heap[g]? =X (H #[U A full.length c,Z Y at_] 94 (0,0))/\at_<=full.length/\full.length<=maxLen/\l=full.drop at_/\
  (full=[]\/∃b off,A=X ⟨b,off,V⟩/\b<B/\∀j u,(aW full)[j]? =X u->w.cell? ⟨b,off+j,V⟩=X u)
theorem Dk.lt(h:Dk w B g l):g<w.heap.size:=by
 obtain⟨_,A,c,at_,full,h1,_⟩:=h
 grind
theorem Dk.up(h:Dk w B g l)(e:ID w w'):Dk w' B g l:=by
 obtain⟨f,A,c,at_,full,h1,h2,i,k,d⟩:=h;refine⟨f,A,c,at_,full,e.block h1,h2,i,k,?_⟩;rcases d with d|⟨b,off,m,a,hc⟩
 ·grind
 exact bY ⟨b,off,m,a,fun j u n=>e.cell (hc j u n)⟩
theorem Dk.Kr(h:Dk w B g l){row:Option Nat}(f:w.grownBy w' row)(hne:row≠X g)(hB:∀k,row=X k->B<=k):Dk w' B g l:=by
 obtain⟨i,A,c,at_,full,h1,h2,m,n,d⟩:=h;refine⟨i,A,c,at_,full,(f.block g (aQ h1) (fun e=>hne e.symm)).trans h1,h2,m,n,?_⟩
 rcases d with d|⟨b,off,o,a,hc⟩
 ·grind
 exact bY ⟨b,off,o,a,fun j u p=>f.cell (hc j u p) (fun e=>by have:=hB b e.symm;omega)⟩
theorem Dk.push(h:Dk w B g l){base size n:Nat}{e:Q7}(hown:IL w base e size v n xs)(hne:e≠94)(hB:B<=base)(b:w.grownBy w' v.ownBlock):Dk w' B g l:=by
 refine h.Kr b ?_ (fun k hk=>bN hB (bU hown k hk).1)
 intro hk;obtain⟨_,A,c,at_,full,h1,_⟩:=h;rcases hown with⟨_,⟨rfl,_⟩|⟨f,cap,d,rfl,_,a,_⟩⟩
 ·simp[f_] at hk
 simp[f_] at hk;subst hk;rw[a] at h1;simp at h1;exact hne h1.2
theorem Dk.own(h:Dk w B g l)(b:w.grownBy w' (X g)){base size n:Nat}{e:Q7}(hown:IL w base e size v n xs)(hne:e≠94):IL w' base e size v n xs:=by
 obtain⟨_,A,c,at_,full,h1,_⟩:=h;refine bT hown b ?_;rcases hown with⟨_,⟨rfl,_⟩|⟨f,cap,d,rfl,_,a,_⟩⟩
 ·exact bX rfl
 refine bY ?_;intro hk;simp[f_] at hk;subst hk;rw[a] at h1;simp at h1;exact hne h1.2
theorem Dk.ts(h:Dk w B g l)(d:w.grownBy w' (X g)){e:Q7}(f:Ts w e A xs)(hne:e≠94):Ts w' e A xs:=by
 obtain⟨_,A',c,at_,full,h1,_⟩:=h;rcases f with rfl|⟨b,off,cur,fz,rfl,a,hc⟩
 ·exact Ts.Jk
 refine bY ⟨b,off,cur,fz,rfl,?_,hc⟩;rw[d.block b (aQ a) ?_]
 ·exact a
 grind
theorem Dk.I5(a:ID w0 w)(b:w.grownBy w' (X g))(c:w0.heap.size<=g):ID w0 w':=
 qb a b a.size (by intro k hk;injection hk with hk;omega)
theorem CF(A:Option Q8)(c:Nat)(l:List Int)(w:Q4)(i:Rs w A (aW l))(hm:l.length<=maxLen):
  Q6 Rj 13 #[U A l.length c] w fun e w'=>e=a_ (M (X ⟨w.heap.size,0,V⟩))/\Dk w' w.heap.size w.heap.size l/\ID w w':=by
 go_enter func13,ntmps13
 go_wp2
 go_ret;refine⟨rfl,⟨bM _,A,c,0,l,aM w _,bO _,hm,rfl,?_⟩,(ID.refl w).alloc _⟩;rcases (i.alloc (H #[U A l.length c,Z Y 0] 94)) with h|⟨b,off,g,hc⟩
 ·left;simpa [aW] using h
 rcases jd l.length with d|d
 ·left;exact jb d
 obtain⟨_,_,a,f,_⟩:=i.at_ (by rw[eC];exact d)
 rw[g] at a;simp only[s_,Addr.mk.injEq,and_true] at a;obtain⟨rfl,rfl⟩:=a;exact bY ⟨b,off,g,f,hc⟩
theorem zx(B g:Nat)(l:List Int)(w:Q4)(h:Dk w B g l):
  Q6 Rj 62 #[M (X ⟨g,0,V⟩)] w fun e w'=>e=a_ (K (!l.isEmpty))/\∃k,w'=w.drewN k:=by
 obtain⟨_,A,c,at_,full,h1,h2,d,rfl,_⟩:=h;unfold maxLen at d;have f:=cr_ h1 0 (U A full.length c);have c1:=cr_ h1 1 (Z Y at_);have a:(!(full.drop at_).isEmpty)=decide (at_<full.length):=by
  by_cases b:at_<full.length
  ·have:full.drop at_≠[]:=by simp;omega
   simp[b]
  simp[b];omega
 rw[a];clear a h1;go_enter func62,ntmps62;go_wp2;go_quiet (fail);go_wp2;go_ret;exact⟨rfl,_,rfl⟩
def iv(w:Q4)(B g:Nat)(r:Int×List Int)(e:Q9)(w':Q4):Prop:=e=a_ (Z Y r.1)/\Dk w' B g r.2/\w.grownBy w' (X g)
theorem dB(B g:Nat)(l:List Int)(n:Int)(w:Q4)(h:Dk w B g l)(T:1<=n)(F:n<=9223372036854775807):
  Q6 Rj 31 #[M (X ⟨g,0,V⟩),Z Y n] w (iv w B g (nx l n)):=by
 have m:=zx B g l w h
 obtain⟨J,A,c,at_,full,h1,h2,L,rfl,y⟩:=h;have o:=L;unfold maxLen at L
 by_cases q:at_<full.length
 ·have i:(!(full.drop at_).isEmpty)=G:=by
   have:full.drop at_≠[]:=by simp;omega
   simp;omega
  rw[i] at m;have s:=aJ m;have r:nx (full.drop at_) n=((full.getD at_ 0)%n,full.drop (at_+1)):=by
   rw[List.drop_eq_getElem_cons q,bD,bE q];rfl
  rw[r];have N:full≠[]:=by intro h;rw[h] at q;simp at q
  obtain⟨b,off,rfl,D,hc⟩:=y.resolve_left N;have p:b≠g:=by omega
  have hx:=hc _ _ (kV full at_ q)
  have S:=aQ h1
  have R:=cr_ h1 0 (U (X ⟨b,off,V⟩) full.length c)
  have c1:=cr_ h1 1 (Z Y at_)
  have f1:w.frozen? ⟨g,1,V⟩=O:=aN w g 1 _ _ h1
  have f:=aO w g 1 _ _ (Z Y ((at_:Int)+1)) h1
  have a:w.grownBy (w.setCell ⟨g,1,V⟩ (Z Y ((at_:Int)+1))) (X g):=
   ⟨rfl,rfl,rfl,by simp,fun k _ hk=>aL w ⟨g,1,V⟩ k _ (fun e=>hk (by simp[e]))⟩
  have I:=aJ hc
  have t:=aJ f
  have P:=aJ i
  clear i m r N hc f y;generalize full.getD at_ 0=x at *;go_enter func31,ntmps31;go_wp2_with fail;refine(s).mono ?_;rintro e w' ⟨rfl,d,rfl⟩;go_wp2;have d0:((w.drewN d).setCell ⟨g,1,V⟩ (Z Y ((at_:Int)+1))).cell? ⟨g,0,V⟩=X (U (X ⟨b,off,V⟩) full.length c):=by
   rw[aK _ g 0 _ _ _ (show((w.drewN d).setCell ⟨g,1,V⟩ (Z Y ((at_:Int)+1))).heap[g]? =_ from t.out)];rfl
  have d1:((w.drewN d).setCell ⟨g,1,V⟩ (Z Y ((at_:Int)+1))).cell? ⟨g,1,V⟩=X (Z Y ((at_:Int)+1)):=by
   rw[aK _ g 1 _ _ _ (show((w.drewN d).setCell ⟨g,1,V⟩ (Z Y ((at_:Int)+1))).heap[g]? =_ from t.out)];rfl
  have d2:((w.drewN d).setCell ⟨g,1,V⟩ (Z Y ((at_:Int)+1))).cell? ⟨b,off+at_,V⟩=X (Z Y x):=by
   rw[World.cell?_setCell_other _ _ _ _ (by intro h;injection h with h;exact p h.symm)];exact hx
  have z:Dk ((w.drewN d).setCell ⟨g,1,V⟩ (Z Y ((at_:Int)+1))) B g (full.drop (at_+1)):=by
   refine⟨J,X ⟨b,off,V⟩,c,at_+1,full,t,by omega,o,rfl,bY ⟨b,off,rfl,D,fun j u hu=>?_⟩⟩
   rw[World.cell?_setCell_other _ _ _ _ (by intro h;injection h with h;exact p h.symm)];exact I j u hu
  have C:w.grownBy ((w.drewN d).setCell ⟨g,1,V⟩ (Z Y ((at_:Int)+1))) (X g):=⟨a.os,a.tape,a.output,a.size,a.block⟩
  have i5:d_.wrap ((at_:Int)+1-1)=(at_:Int):=by rw[bV _ (by omega)];omega
  have i1:(0:Int)<=(at_:Int):=by omega
  have i2:(at_:Int)<(full.length:Int):=by omega
  clear h1 R c1 hx f1 a I t P s;generalize (w.drewN d).setCell ⟨g,1,V⟩ (Z Y ((at_:Int)+1))=W at *;go_quiet ((go_at_call 63;exact mY (CH x n T F _)));clear i5;go_wp2;go_ret;exact⟨rfl,z,rJ C _⟩
 have i:full.drop at_=[]:=gf (by omega)
 rw[i] at m;rw[i];have s:=aJ m;clear m;go_enter func31,ntmps31;go_wp2_with fail;refine(s).mono ?_;rintro e w' ⟨rfl,d,rfl⟩;go_wp2;go_ret;exact⟨rfl,⟨J,A,c,at_,full,h1,h2,o,i.symm,y⟩,⟨rfl,rfl,rfl,bM _,fun _ _ _=>rfl⟩⟩
theorem gv(B g:Nat)(l:List Int)(lo a:Int)(w:Q4)(h:Dk w B g l)(i:0<=lo)(h1:lo<=a)(h2:a<=1000000):
  Q6 Rj 60 #[M (X ⟨g,0,V⟩),Z Y lo,Z Y a] w (iv w B g (lo+(nx l (a-lo+1)).1,(nx l (a-lo+1)).2)):=by
 have c:=dB B g l (a-lo+1) w h (by omega) (by omega)
 have b:=fO l (show 1<=a-lo+1 by omega)
 have d:=aJ c
 clear c;generalize nx l (a-lo+1)=r at *;obtain⟨b0,b1⟩:=b;go_enter func60,ntmps60;go_wp2_with fail;refine(d).mono ?_;rintro e w' ⟨rfl,hd,f⟩;go_wp2;go_ret;exact⟨rfl,hd,f⟩
end Go.Proofs.YtflccikncbhpdaaGreatDoor
namespace Go.Proofs.YtflccikncbhpdaaGreatDoor
open Go.ChangeShapes Go.WideShapes Go.ChangeAt Go.RowKit Rw
set_option linter.unusedVariables false
theorem pV(f:α->Q5)(l:List α):(l.map fun x=>[f x]).flatten=l.map f:=by
 induction l<;>grind
theorem wA{H:Type}{enc:Q7×Q5->H}{base:Nat}{spare:Nat->Bool}{held:Bool}{a:Option Q8}{len cap:Nat}{d:DataW H}{p:List Re}
  (h:DataW.Trod enc Rj w base spare held 22 (U a len cap) d p):
  ∃l:List Int,l.length=len/\len<=maxLen/\Rs w a (aW l):=by
 obtain⟨cells,e,_,_,c,hc⟩:=sG underlying22 (show 0<Rj.cellsOf 3 by decide+kernel) h
 obtain⟨l,rfl,_⟩:=rv (fun x:Int=>[fm Y x]) (fun _=>True) cells (fun cs b=>by
  obtain⟨_,n,y,hy⟩:=hc cs b;obtain⟨x,h1,h2⟩:=yR underlying3 hy;exact⟨x,h1,trivial⟩)
 refine⟨l,by simpa using e,by omega,?_⟩
 rw[pV] at c;exact c
end Go.Proofs.YtflccikncbhpdaaGreatDoor
namespace Go.Proofs.YtflccikncbhpdaaGreatDoor
open Go.RowKit Go.Shelf
set_option linter.unusedVariables false
abbrev Je:=Nat
def F9:Nat:=18446744073709551616
def ae(s:Je)(i:Nat):Nat:=s/F9^i%F9
def hasB(s:Je)(b:Nat):Bool:=s.testBit b
def dj(s:Je)(b:Nat):Je:=s|||2^b
def eL(lo a:Nat):Je:=(jy (a+1-lo)).foldl (fun s k=>dj s (lo+k)) 0
def fQ(s:Je):Je:=s^^^(2^256-1)
def jp(s:Je):Nat->Nat->Nat
 |0,_=>0
 |f+1,b=>if hasB s b then b else jp s f (b+1)
def gc(s:Je):Nat:=jp s 256 0
def Gt(b:Nat):Bool:=(33<=b&&b<=47)||(58<=b&&b<=64)||(91<=b&&b<=96)||(123<=b&&b<=126)
def ni(b:Nat):Je×Bool×Bool:=
 if b=110 then(dj 0 10,G,G)
 else if b=116 then(dj 0 9,G,G)
 else if b=114 then(dj 0 13,G,G)
 else if b=100 then(eL 48 57,O,G)
 else if b=119 then((eL 97 122|||eL 65 90)|||(eL 48 57|||dj 0 95),O,G)
 else if b=115 then((dj 0 32|||eL 9 10)|||dj 0 13,O,G)
 else if Gt b=G then(dj 0 b,G,G)
 else(0,O,O)
structure Nd where
 IF:Int
 left:Int
 right:Int
 set:Je
deriving DecidableEq
def mr(k:Int):Int:=if k=3\/k=4 then 2 else if k=5\/k=6\/k=7 then 1 else 0
def ib(k b a n:Int):Int:=if b<mr k then a+n else 0
def ao(n:Int)(x:Nd):Nd:=⟨x.IF,ib x.IF 0 x.left n,ib x.IF 1 x.right n,x.set⟩
def aT(k:Int)(l r:List Nd):List Nd:=
 l++r.map (ao l.length)++[⟨k,(l.length:Int)-1,if 0<r.length then(l.length:Int)+r.length-1 else 0,0⟩]
structure Ps where
 at_:Nat
 deep:Nat
 e:Int
deriving DecidableEq
def aB(p:Ps)(c:Int):Ps:=if p.e=0 then {p with e:=c} else p
def fu(B:List Nat)(p:Ps):Bool:=p.e==0&&decide (p.at_<B.length)
def iw(p:Ps):Ps:={p with at_:=p.at_+1}
def j7(B:List Nat)(p:Ps):Nat:=B.getD p.at_ 0
def rQ(B:List Nat)(p:Ps):(Je×Bool)×Ps:=
 if p.at_<B.length then
  let r:=ni (j7 B p)
  ((r.1,r.2.1),iw (if r.2.2=G then p else aB p 82))
 else((0,O),aB p 82)
def aG(B:List Nat)(p:Ps):(Je×Bool)×Ps:=
 if j7 B p=92 then rQ B (iw p)
 else if j7 B p=94\/j7 B p=45\/j7 B p=93 then((0,O),aB (iw p) 80)
 else((dj 0 (j7 B p),G),iw p)
def fS(B:List Nat)(p:Ps):Je×Ps:=
 let a:=aG B p
 if fu B a.2=G/\j7 B a.2=45 then
  let q:=iw a.2
  if a.1.2=O\/B.length<=q.at_ then(a.1.1,aB q 80)
  else
   let b:=aG B q
   (eL (gc a.1.1) (gc b.1.1),if b.2.e=0/\(b.1.2=O\/gc b.1.1<gc a.1.1) then aB b.2 80 else b.2)
 else(a.1.1,a.2)
def cj(B:List Nat)(a:Bool):Nat->Bool->Je->Ps->Option (Je×Ps)
 |0,_,_,_=>V
 |f+1,first,s,p=>
  if fu B p=G then
   if j7 B p=93 then X (if a=G then fQ s else s,iw (if first=G then aB p 80 else p))
   else cj B a f O (s|||(fS B p).1) (fS B p).2
  else X (s,aB p 80)
def kD(B:List Nat)(f:Nat)(p:Ps):Option (Je×Ps):=
 if fu B p=G/\j7 B p=94 then cj B G f G 0 (iw p) else cj B O f G 0 p
def cB(k:Int)(s:Je):List Nd:=[⟨k,0,0,s⟩]
mutual
def lj(B:List Nat):Nat->Ps->Option (List Nd×Ps)
 |0,_=>V
 |f+1,p=>match kY B f p with
  |none=>V
  |some (l,q)=>dJ B f l q
def dJ(B:List Nat):Nat->List Nd->Ps->Option (List Nd×Ps)
 |0,_,_=>V
 |f+1,l,p=>
  if fu B p=G/\j7 B p=124 then match kY B f (iw p) with
   |none=>V
   |some (x,q)=>if q.e=0 then dJ B f (aT 4 l x) q else X ([],q)
  else X (l,p)
def kY(B:List Nat):Nat->Ps->Option (List Nd×Ps)
 |0,_=>V
 |f+1,p=>cI B f [] p
def cI(B:List Nat):Nat->List Nd->Ps->Option (List Nd×Ps)
 |0,_,_=>V
 |f+1,l,p=>
  if fu B p=G/\j7 B p≠124/\j7 B p≠41 then match iU B f p with
   |none=>V
   |some (x,q)=>if q.e=0 then cI B f (if l.length=0 then x else aT 3 l x) q else X ([],q)
  else X (if l.length=0 then cB 1 0 else l,p)
def iU(B:List Nat):Nat->Ps->Option (List Nd×Ps)
 |0,_=>V
 |f+1,p=>match jB B f p with
  |none=>V
  |some (l,q)=>aI B f l q
def aI(B:List Nat):Nat->List Nd->Ps->Option (List Nd×Ps)
 |0,_,_=>V
 |f+1,l,p=>
  if fu B p=G then
   if j7 B p=42 then aI B f (aT 5 l []) (iw p)
   else if j7 B p=43 then aI B f (aT 6 l []) (iw p)
   else if j7 B p=63 then aI B f (aT 7 l []) (iw p)
   else X (l,p)
  else X (l,p)
def jB(B:List Nat):Nat->Ps->Option (List Nd×Ps)
 |0,_=>V
 |f+1,p=>
  let b:=j7 B p
  let q:=iw p
  if b=46 then X (cB 2 (fQ (dj 0 10)),q)
  else if b=94 then X (cB 8 0,q)
  else if b=36 then X (cB 9 0,q)
  else if b=92 then X (cB 2 (rQ B q).1.1,(rQ B q).2)
  else if b=91 then match kD B f q with
   |none=>V
   |some (s,r)=>X (cB 2 s,r)
  else if b=93 then X (cB 2 (dj 0 b),aB q 80)
  else if b=42\/b=43\/b=63 then X (cB 2 (dj 0 b),aB q 81)
  else if b=40 then
   let q':Ps:={q with deep:=q.deep+1}
   if 24<q'.deep then X ([],aB q' 84)
   else match lj B f q' with
    |none=>V
    |some (l,r)=>
     let a:=if r.e=0/\B.length<=r.at_ then aB r 83 else r
     X (l,{a with at_:=a.at_+1,deep:=a.deep-1})
  else X (cB 2 (dj 0 b),q)
end
def jn(f:Nat)(B:List Nat):Option (List Nd×Int):=
 if 128<B.length then X ([],1)
 else match lj B f ⟨0,0,0⟩ with
  |none=>V
  |some (l,p)=>
   let q:=if p.e=0/\p.at_<B.length then aB p 83 else p
   let r:=if q.e=0/\256<l.length then aB q 1 else q
   X (if r.e=0 then(l,0) else([],r.e))
example:jn 100 [97,42,98]=some ([⟨2,0,0,2^97⟩,⟨5,0,0,0⟩,⟨2,0,0,2^98⟩,⟨3,1,2,0⟩],0):=by decide+kernel
theorem iF(s:Je)(i:Nat):ae s i<18446744073709551616:=u_ _ (by decide)
theorem BO(i:Nat):F9^i=2^(64*i):=by simp[F9,Nat.pow_mul]
theorem fL(s:Je)(i k:Nat):(ae s i).testBit k=(decide (k<64)&&s.testBit (64*i+k)):=by
 unfold ae;rw[BO,show F9=2^64 by decide,Nat.testBit_mod_two_pow,Nat.testBit_div_two_pow,Nat.add_comm]
theorem uf(s t:Je)(i:Nat):ae (s|||t) i=ae s i|||ae t i:=by
 apply wj;intro k;rw[O_,fL,fL,fL,O_];cases decide (k<64)<;>simp
theorem jG(s:Je)(b i:Nat):ae (dj s b) i=if i=b/64 then ae s i|||2^(b%64) else ae s i:=by
 have a:ae (2^b) i=if i=b/64 then 2^(b%64) else 0:=by
  apply wj;intro k;rw[fL,P_]
  by_cases h:i=b/64
  ·rw[ps_ h,P_]
   by_cases hk:k<64
   ·rw[decide_eq_true hk,qe];apply decide_eq_decide.2;omega
   rw[decide_eq_false hk,Qu]
   symm
   apply decide_eq_false;omega
  rw[ng_ h,Nat.zero_testBit]
  by_cases hk:k<64
  ·rw[decide_eq_true hk,qe];apply decide_eq_false;omega
  rw[decide_eq_false hk,Qu]
 unfold dj;rw[uf,a];split
 ·rfl
 rw[Nat.or_zero]
theorem cF(i:Nat):ae 0 i=0:=by unfold ae;simp
theorem Ch{s t:Je}(hs:s<2^256)(a:t<2^256)(h:∀i,i<4->ae s i=ae t i):s=t:=by
 apply wj;intro k
 by_cases hk:k<256
 ·have:=congrArg (fun x=>x.testBit (k%64)) (h (k/64) (by omega))
  simp only[fL] at this;rw[decide_eq_true (show k%64<64 by omega),qe,qe,show 64*(k/64)+k%64=k by omega] at this
  exact this
 rw[Qv (qn hs (Qx (by decide) (by omega))),Qv (qn a (Qx (by decide) (by omega)))]
theorem xg(s:Je)(b:Nat)(a:b<256):hasB s b=decide (ae s (b/64)/2^(b%64)%2=1):=by
 have h:=fL s (b/64) (b%64)
 rw[decide_eq_true (show b%64<64 by omega),qe,show 64*(b/64)+b%64=b by omega] at h
 unfold hasB;rw[<-h,Nat.testBit_eq_decide_div_mod_eq]
def fM(s:Je):Prop:=s<2^256
theorem et:fM 0:=by unfold fM;decide
def cN(s:Je):Q5:= .agg #[Z E (ae s 0),Z E (ae s 1),Z E (ae s 2),Z E (ae s 3)]
def jE(v:Q5)(w:Q4)(e:Q9)(w':Q4):Prop:=e=a_ v/\ID w w'
theorem oC{a b:Bool}(h:a=b):hD (K a)=a_ (K b):=by rw[h]
theorem yI(b:Nat):2^(b%64)<18446744073709551616:=by
 rw[show 18446744073709551616=2^64 by decide]
 exact Nat.pow_lt_pow_right (by decide) (u_ _ (by decide))
theorem BK(s:Je)(i b:Nat):bits .or E ((ae s i:Nat):Int) (hC.wrap (2^(b%64)))=((ae s i|||2^(b%64):Nat):Int):=by
 have a:=yI b
 have e:hC.wrap (2^(b%64))=((2^(b%64):Nat):Int):=by
  rw[D_]
  ·push_cast;rfl
  have:((2^(b%64):Nat):Int)<18446744073709551616:=by omega
  push_cast at this
  have c:(0:Int)<=2^(b%64):=Int.pow_nonneg (by decide)
  omega
 rw[e,u64_or_nat _ _ (iF s i) a]
theorem qC(s:Je)(i b:Nat)(a:b<256)(c:b/64=i):(bits BinOp.and hC (((ae s i:Nat):Int)/2^(b%64)) 1==1)=hasB s b:=by
 rw[xg s b a,c];have e:((ae s i:Nat):Int)/2^(b%64)=((ae s i/2^(b%64):Nat):Int):=by push_cast;rfl
 have d:=iF s i
 have hd:ae s i/2^(b%64)<18446744073709551616:=Nat.lt_of_le_of_lt (Nat.div_le_self _ _) d
 have h1:=u64_and_nat (ae s i/2^(b%64)) 1 hd (by decide)
 rw[nat_mask1] at h1;rw[e];have h2:((1:Nat):Int)=1:=rfl;rw[h2] at h1;rw[h1];generalize ae s i/2^(b%64)%2=q;rw[Bool.eq_iff_iff];simp;omega
def fj(s:Je):Obj:=H #[Z E (ae s 0),Z E (ae s 1),Z E (ae s 2),Z E (ae s 3)] 177 (0,0)
theorem ai{s:Je}(h:w.heap[g]? =X (fj s)):
  w.cell? ⟨g,0,V⟩=X (Z E (ae s 0))/\w.cell? ⟨g,1,V⟩=X (Z E (ae s 1))/\w.cell? ⟨g,2,V⟩=X (Z E (ae s 2))/\w.cell? ⟨g,3,V⟩=X (Z E (ae s 3))/\
  w.frozen? ⟨g,0,V⟩=O/\w.frozen? ⟨g,1,V⟩=O/\w.frozen? ⟨g,2,V⟩=O/\w.frozen? ⟨g,3,V⟩=O:=
 ⟨by rw[aK w g 0 _ _ _ h];rfl,by rw[aK w g 1 _ _ _ h];rfl,by rw[aK w g 2 _ _ _ h];rfl,by rw[aK w g 3 _ _ _ h];rfl,
  aN w g 0 _ _ h,aN w g 1 _ _ h,aN w g 2 _ _ h,aN w g 3 _ _ h⟩
theorem mW{s:Je}(h:w.heap[g]? =X (fj s))(t:Je):
  ((((w.setCell ⟨g,0,V⟩ (Z E (ae t 0))).setCell ⟨g,1,V⟩ (Z E (ae t 1))).setCell ⟨g,2,V⟩ (Z E (ae t 2))).setCell ⟨g,3,V⟩ (Z E (ae t 3))).heap[g]? =X (fj t):=by
 have a:=aO w g 0 _ _ (Z E (ae t 0)) h
 have q1:=aO _ g 1 _ _ (Z E (ae t 1)) a
 have b:=aO _ g 2 _ _ (Z E (ae t 2)) q1
 have c:=aO _ g 3 _ _ (Z E (ae t 3)) b
 exact c
theorem kh(w:Q4)(g k:Nat)(a b c d:Q5)(hk:k≠g):
  ((((w.setCell ⟨g,0,V⟩ a).setCell ⟨g,1,V⟩ b).setCell ⟨g,2,V⟩ c).setCell ⟨g,3,V⟩ d).heap[k]? =w.heap[k]?:=by
 rw[aL _ ⟨g,3,V⟩ k _ hk,aL _ ⟨g,2,V⟩ k _ hk,aL _ ⟨g,1,V⟩ k _ hk,aL _ ⟨g,0,V⟩ k _ hk]
def ic(lo k:Nat):Je:=(jy k).foldl (fun s j=>dj s (lo+j)) 0
theorem qY(lo k:Nat):ic lo (k+1)=dj (ic lo k) (lo+k):=by simp[ic,List.range_succ,List.foldl_append]
def c4(a b c d:Nat):Obj:=H #[Z E a,Z E b,Z E c,Z E d] 177 (0,0)
theorem eS{b c d:Nat}(h:w.heap[g]? =X (c4 a b c d)):
  w.cell? ⟨g,0,V⟩=X (Z E a)/\w.cell? ⟨g,1,V⟩=X (Z E b)/\w.cell? ⟨g,2,V⟩=X (Z E c)/\w.cell? ⟨g,3,V⟩=X (Z E d)/\
  w.frozen? ⟨g,0,V⟩=O/\w.frozen? ⟨g,1,V⟩=O/\w.frozen? ⟨g,2,V⟩=O/\w.frozen? ⟨g,3,V⟩=O:=
 ⟨by rw[aK w g 0 _ _ _ h];rfl,by rw[aK w g 1 _ _ _ h];rfl,by rw[aK w g 2 _ _ _ h];rfl,by rw[aK w g 3 _ _ _ h];rfl,
  aN w g 0 _ _ h,aN w g 1 _ _ h,aN w g 2 _ _ h,aN w g 3 _ _ h⟩
def DX(w:Q4)(s:Je)(f:Nat->Nat)(g a:Nat)(ix:Q5)(wr:Q4):Prop:=
 ID w wr/\wr.heap[a]? =X (fj 0)/\((ix=Z Y 0/\wr.heap[g]? =X (c4 (ae s 0) (ae s 1) (ae s 2) (ae s 3)))\/
  (ix=Z Y 1/\wr.heap[g]? =X (c4 (f 0) (ae s 1) (ae s 2) (ae s 3)))\/
  (ix=Z Y 2/\wr.heap[g]? =X (c4 (f 0) (f 1) (ae s 2) (ae s 3)))\/
  (ix=Z Y 3/\wr.heap[g]? =X (c4 (f 0) (f 1) (f 2) (ae s 3)))\/
  (ix=Z Y 4/\wr.heap[g]? =X (c4 (f 0) (f 1) (f 2) (f 3))))
theorem vU(s:Je)(i:Nat)(a:i<4):ae (fQ s) i=18446744073709551615^^^ae s i:=by
 apply wj;intro k;unfold fQ;rw[Qy,fL,fL,Qy,Qz,show 18446744073709551615=2^64-1 by decide,Qz]
 grind
theorem xU(s:Je)(i:Nat)(a:i<4):bits BinOp.xor hC (if hC.signed=G then-1 else hC.max) ((ae s i:Nat):Int)=((ae (fQ s) i:Nat):Int):=by
 rw[vU s i a,show(if hC.signed=G then-1 else hC.max:Int)=((18446744073709551615:Nat):Int) by decide]
 exact u64_xor_nat _ _ (by decide) (iF s i)
theorem fT{b c d:Nat}(h:w.heap[g]? =X (c4 a b c d))(u:Nat):
  (w.setCell ⟨g,0,V⟩ (Z E u)).heap[g]? =X (c4 u b c d)/\(w.setCell ⟨g,1,V⟩ (Z E u)).heap[g]? =X (c4 a u c d)/\
  (w.setCell ⟨g,2,V⟩ (Z E u)).heap[g]? =X (c4 a b u d)/\(w.setCell ⟨g,3,V⟩ (Z E u)).heap[g]? =X (c4 a b c u):=
 ⟨aO w g 0 _ _ _ h,aO w g 1 _ _ _ h,aO w g 2 _ _ _ h,aO w g 3 _ _ _ h⟩
theorem fZ(w:Q4)(g k i:Nat)(u:Q5)(h:k≠g):(w.setCell ⟨g,i,V⟩ u).heap[k]? =w.heap[k]?:=aL w ⟨g,i,V⟩ k u h
theorem sj(s t:Je)(i:Nat):bits BinOp.or hC ((ae s i:Nat):Int) ((ae t i:Nat):Int)=((ae (s|||t) i:Nat):Int):=by
 rw[uf];exact u64_or_nat _ _ (iF s i) (iF t i)
def FP(w:Q4)(s t:Je)(f:Nat->Nat)(g:Nat)(ix:Q5)(wr:Q4):Prop:=DX w s f g (g+2) ix wr/\wr.heap[g+1]? =X (fj t)
def iN(v:Q5)(w:Q4)(e:Q9)(w':Q4):Prop:=e=a_ v/\w=w'
section
variable {P : Ra} {ops : Array Q_} {Q : Exit -> Act -> Q4 -> Prop}
def gP(ops:Array Q_):Bool:=(jy ops.size).all fun i=>((ops[i]?).map (·.after.all fun e=> !Region.binds .any e||decide (e.on<i))).getD G
def iQ(ops:Array Q_)(a:Array Bool):Prop:=
 ∀(i:Nat) (o:Q_),ops[i]? =X o->a.getD i O=G->∀e∈o.after,wv .any e=G->a.getD e.on O=G
theorem sh(N:gP ops=G)(I:Array Bool->Act->Q4->Prop)
  (g:∀a w,I (ov ops.size G) a w->Q .normal a w)
  (r:∀(i:Nat) (o:Q_) (b:Array Bool) (a:Act) (w:Q4),ops[i]? =X o->b.size=ops.size->iQ ops b->b.getD i O=O->
   (∀e∈o.after,wv .any e=G->b.getD e.on O=G)->I b a w->
   if hE o (yielded ops a.tmps)=G then o.wp P a w (I (b.setIfInBounds i G)) Q else I (b.setIfInBounds i G) (a.put o.dst aR) w):
  ∀(fuel:Nat) (b:Array Bool) (a:Act) (w:Q4),b.size=ops.size->b.toList.count O<=fuel->iQ ops b->I b a w->wpAny P .any ops Q fuel b a w:=by
 have f:∀(b:Array Bool),b.size=ops.size->E_ .any ops b=[]->b=ov ops.size G:=by
  intro b hs hr;have key:∀i,i<ops.size->b.getD i O=G:=by
   intro i
   induction i using Nat.strongRecOn with
   |_ i ih=>
    intro n;rcases T:b.getD i O with _|_
    ·exfalso;have:i∈E_ .any ops b:=by
      rw[mem_ready];refine⟨?_,ops[i],by simp[n],?_⟩
      ·simp[g_,hs,n] at T ⊢;exact T
      intro e F C;have h1:=(QA.1 N) i (M_.2 n);simp only[QB n,F_,Option.getD_some] at h1;rw[Array.all_eq_true_iff_forall_mem] at h1;have h2:=h1 e F;rw[C] at h2;have h2:=of_decide_eq_true (by simpa using h2:decide (e.on<i)=G)
      exact ih e.on h2 (by omega)
     rw[hr] at this;exact absurd this (by simp)
    rfl
  apply Array.ext
  ·simp[hs]
  intro i h1 h2;have:=key i (by omega)
  simp[g_,h1] at this;simp[this]
 intro fuel
 induction fuel with
 |zero=>
  intro b a w hs hc p B;have A:E_ .any ops b=[]:=by
   apply List.eq_nil_iff_forall_not_mem.2;intro i n;have c:=(mem_ready.1 n).1;have:b.toList.count O=0:=by omega
   rw[List.count_eq_zero] at this;apply this;have d:i<b.size:=by
    by_cases h:i<b.size
    ·exact h
    simp[g_,h] at c
   simp[g_,d] at c;rw[<-c];simp
  refine⟨A,g a w ?_⟩;rw[<-f b hs A];exact B
 |succ fuel ih=>
  intro b a w hs hc p B;refine⟨fun A=>g a w (by rw[<-f b hs A];exact B),?_⟩
  intro i n;obtain⟨c,o,W,s⟩:=mem_ready.1 n;have d:i<b.size:=by
   by_cases h:i<b.size
   ·exact h
   simp[g_,h] at c
  have J:b.getD i O=O:=by
   simp[g_,d] at c ⊢;exact c
  have t:iQ ops (b.setIfInBounds i G):=by
   intro j oj hj m e F D;have R:∀k,b.getD k O=G->(b.setIfInBounds i G).getD k O=G:=by
    intro k hk
    by_cases y:k=i
    ·subst y;simp[g_,d]
    have z:k<b.size:=by
     by_cases h:k<b.size
     ·exact h
     simp[g_,h] at hk
    simp[g_,z] at hk ⊢;rw[QC]
    ·exact hk
    exact fun e=>y e.symm
   by_cases L:j=i
   ·grind
   refine R _ (p j oj hj ?_ e F D);have x:j<b.size:=by
    by_cases h:j<b.size
    ·exact h
    simp[g_,h] at m
   simp[g_,x] at m ⊢;rw[QC] at m
   ·exact m
   exact fun e=>L e.symm
  have l:(b.setIfInBounds i G).toList.count O<=fuel:=by
   rw[Array.toList_setIfInBounds,List.count_set (by simpa using d)]
   simp only[g_,d,dite_true] at J;have u:b.toList[i]'(by simpa using d)=O:=by simpa using J
   have:0<b.toList.count O:=List.count_pos_iff.2 (by rw[<-u];exact bH _)
   rw[u];simp only[beq_self_eq_true,if_true,show((G:Bool)==O)=O from rfl,G_,if_false]
   omega
  have hk:∀a' w',I (b.setIfInBounds i G) a' w'->wpAny P .any ops Q fuel (b.setIfInBounds i G) a' w':=
   fun a' w' h'=>ih _ a' w' (by simp[hs]) l t h'
  have q:=r i o b a w W hs p J s B
  unfold wpOp;rw[W];simp only;split at q
  ·rename_i S
   rw[ps_ S];exact bX (Oper.wp_mono hk q)
  rename_i S
  rw[ng_ S];exact hk _ _ q
theorem mN{a:Act}(hm:P.follows .mixedOrders=G)(f:gP ops=G)(I:Array Bool->Act->Q4->Prop)
  (g:I (ov ops.size O) a {w with drawn:=w.drawn+1})
  (d:∀(i:Nat) (o:Q_) (b:Array Bool) (a:Act) (w:Q4),ops[i]? =X o->b.size=ops.size->iQ ops b->b.getD i O=O->
   (∀e∈o.after,wv .any e=G->b.getD e.on O=G)->I b a w->
   if hE o (yielded ops a.tmps)=G then o.wp P a w (I (b.setIfInBounds i G)) Q else I (b.setIfInBounds i G) (a.put o.dst aR) w)
  (c:∀a w,I (ov ops.size G) a w->Q .normal a w):
  (Code.region id ops G).wp P Q a w:=by
 refine wp_region_any hm (sh f I c d _ _ _ _ (by simp) ?_ ?_ g)
 ·simp
 intro i o j h;simp[g_] at h
def KW(p:Nat->Q_->Prop):Nat->List Q_->Prop
 |_,[]=>True
 |i,o::os=>p i o/\KW p (i+1) os
theorem KW.at_{p:Nat->Q_->Prop}:∀(os:List Q_) (k:Nat),KW p k os->∀i o,os[i]? =X o->p (k+i) o
 |[],_,_,i,o,h=>by simp at h
 |x::os,k,hs,0,o,h=>by simp at h;subst h;exact hs.1
 |x::os,k,hs,i+1,o,h=>by
  have:=KW.at_ os (k+1) hs.2 i o (by simpa using h)
  rw[show k+(i+1)=k+1+i by omega]
  exact this
def rW(P:Ra)(ops:Array Q_)(Q:Exit->Act->Q4->Prop)(I:Array Bool->Act->Q4->Prop)(i:Nat)(o:Q_):Prop:=
 ∀(b:Array Bool) (a:Act) (w:Q4) (K:Act->Q4->Prop),b.size=ops.size->iQ ops b->b.getD i O=O->
   (∀e∈o.after,wv .any e=G->b.getD e.on O=G)->I b a w->(∀a' w',I (b.setIfInBounds i G) a' w'->K a' w')->
   if hE o (yielded ops a.tmps)=G then o.wp P a w K Q else K (a.put o.dst aR) w
theorem lC{a:Act}(hm:P.follows .mixedOrders=G)(g:gP ops=G)(I:Array Bool->Act->Q4->Prop)
  (j:I (ov ops.size O) a {w with drawn:=w.drawn+1})
  (c:∀a w,I (ov ops.size G) a w->Q .normal a w)
  (d:KW (rW P ops Q I) 0 ops.toList):
  (Code.region id ops G).wp P Q a w:=by
 refine mN hm g I j ?_ c;intro i o b a w m hs f l e k;have:=KW.at_ ops.toList 0 d i o (by simpa using m)
 rw[te] at this;exact this b a w _ hs f l e k (fun _ _ h=>h)
end
theorem CZ:(Rj.info? 279).map (fun i=>(i.zero,i.size,i.bytes))=X (X (.agg #[Z Y 0,Z Y 0,Z Y 0,Z E 0,Z E 0,Z E 0,Z E 0]),7,56):=by kernel_rfl
def an(x:Nd):List Q5:=[Z Y x.IF,Z Y x.left,Z Y x.right,Z E (ae x.set 0),Z E (ae x.set 1),Z E (ae x.set 2),Z E (ae x.set 3)]
def cR(l:List Nd):List Q5:=l.flatMap an
theorem aX(l:List Nd):(cR l).length=l.length*7:=by
 induction l<;>simp_all [cR,an]<;>omega
theorem zh(a b:List Nd):cR (a++b)=cR a++cR b:=by simp[cR]
theorem cf:∀(l:List Nd) (i:Nat) (x:Nd),l[i]? =X x->∀j,j<7->(cR l)[i*7+j]? =(an x)[j]?
 |[],i,x,h,j,hj=>by simp at h
 |a::l,0,x,h,j,hj=>by
  simp at h;subst h
  have e:cR (a::l)=an a++cR l:=rfl
  rw[e,OW,te,bJ (by simpa [an] using hj)]
 |a::l,i+1,x,h,j,hj=>by
  have:=cf l i x (by simpa using h) j hj
  have e:cR (a::l)=an a++cR l:=rfl
  have b:(an a).length=7:=rfl
  rw[e,QD (by rw[b];omega),b,show(i+1)*7+j-7=i*7+j by omega]
  exact this
def bs(s:ByteArray):List Nat:=s.data.toList.map q_
theorem af(s:ByteArray):(bs s).length=s.size:=by simp[bs]
theorem be(s:ByteArray)(k:Nat)(h:k<s.size):(bs s).getD k 0=s[k].toNat:=by
 unfold bs;rw[bD,No];have:s.data.toList[k]? =X s[k]:=by
  rw[bE (by rw[Hx];exact h)];rfl
 rw[this];rfl
def DZ(b:Bool)(w:Q4)(e:Q9)(w':Q4):Prop:=e=a_ (K b)/\∃n,w'=w.drewN n
theorem uN:(Rj.info? 5).map (fun i=>(i.zero,i.size,i.bytes))=X (X (Z c_ 0),1,1):=by kernel_rfl
def Jp(t:List Nat):List Q5:=t.map (fun x:Nat=>fm c_ (x:Int))
theorem cY(t:List Nat):(Jp t).length=t.length:=by simp[Jp]
theorem gi(t:List Nat)(i:Nat)(h:i<t.length):(Jp t)[i]? =X (Z c_ (t.getD i 0:Nat)):=by grind [Jp]
theorem C8{t:List Nat}(a:∀x∈t,x<256)(i:Nat):t.getD i 0<256:=by
 rw[bD]
 by_cases h:i<t.length
 ·simp_all
 rw[bI (by omega)];decide
def ab(l:List Nat):ByteArray:=⟨(l.map oR).toArray⟩
theorem lE(s:List Nat)(h:∀x∈s,x<256):Jp s=bytes (s.map oR):=by
 unfold Jp bytes;rw[QE];refine QF (fun x hx=>?_)
 have:=h x hx
 simp;omega
theorem fU(s:List Nat)(h:∀x∈s,x<256):bs (ab s)=s:=by
 unfold bs ab;simp only[QE];have:∀x∈s,(q_∘oR) x=id x:=fun x hx=>by
  have:=h x hx
  simp;omega
 rw[QF this,List.map_id]
theorem i6(L:List Nat)(s:Nat):Jp (L++[s])=Jp L++[Z c_ (s:Int)]:=by simp[Jp]
structure IY where
 IF:Nat
 text:List Nat
 IM:Nat
 Jb:Nat
deriving DecidableEq
namespace Lx
def I9(c:Nat):Bool:=(65<=c&&c<=90)||(97<=c&&c<=122)||c==95
def I1(c:Nat):Bool:=48<=c&&c<=57
def word(c:Nat):Bool:=I9 c||I1 c||c==45
def skip:Bool->List Nat->Nat->Nat->Nat->List Nat×Nat×Nat×Nat
 |_,[],a,l,c=>([],a,l,c)
 |true,b::r,a,l,c=>if b=10 then skip O r (a+1) (l+1) 1 else skip G r (a+1) l (c+1)
 |false,b::r,a,l,c=>if b=10 then skip O r (a+1) (l+1) 1 else if b=32\/b=9\/b=13 then skip O r (a+1) l (c+1)
   else if b=35 then skip G r (a+1) l (c+1) else(b::r,a,l,c)
def K5(c:Nat):Option Nat:=if 48<=c/\c<=57 then X (c-48) else if 97<=c/\c<=102 then X (c-97+10) else if 65<=c/\c<=70 then X (c-65+10) else V
def Np:List Nat->Option (Nat×Nat)
 |[]=>V
 |b::r=>if b=34\/b=92 then X (b,1) else if b=110 then X (10,1) else if b=116 then X (9,1) else if b=120 then
   (match r with
   |h::l::_=>(match K5 h,K5 l with|some x,X y=>X (16*x+y,3)|_,_=>V)
   |_=>V) else V
def Kt:Nat->List Nat->Nat->List Nat->Option (List Nat×Nat)
 |0,_,_,_=>V
 |_+1,[],_,_=>V
 |f+1,c::r,i,IW=>if c=34 then X (IW,i+1) else if c<32 then V else if c=92 then
   (match Np r with|none=>V|some (d,n)=>Kt f (r.drop n) (i+1+n) (IW++[d])) else Kt f r (i+1) (IW++[c])
def Le:Nat->List Nat->Nat->List Nat->Option (List Nat×Nat)
 |0,_,_,_=>V
 |_+1,[],_,_=>V
 |f+1,c::r,i,IW=>if c=47 then X (IW,i+1) else if c<32 then V else if c=92 then
   (match r with|[]=>V|d::a=>if d<32 then V else Le f a (i+2) (IW++(if d=47 then [47] else [92,d]))) else Le f r (i+1) (IW++[c])
def tok:List Nat->Option (Nat×List Nat×Nat)
 |[]=>V
 |c::r=>if I9 c then X (1,(c::r).takeWhile word,((c::r).takeWhile word).length)
   else if I1 c then(let n:=((c::r).takeWhile I1).length;if 18<n\/(c=48/\1<n) then V else X (2,(c::r).takeWhile I1,n))
   else if c=34 then(Kt (r.length+1) r 1 []).map (fun p=>(3,p.1,p.2))
   else if c=47 then(Le (r.length+1) r 1 []).map (fun p=>(4,p.1,p.2))
   else if c=123\/c=125\/c=44\/c=61 then X (5,[c],1) else V
def scan:Nat->List Nat->Nat->Nat->Nat->List IY->Option (List IY)
 |0,_,_,_,_,_=>V
 |f+1,t,a,l,c,IW=>
  match skip O t a l c with
  |([],_,l',c')=>X (IW++[⟨6,[],l',c'⟩])
  |(b::r,a',l',c')=>match tok (b::r) with
   |none=>V
   |some (k,x,n)=>if IW.length=2000 then V else scan f ((b::r).drop n) (a'+n) l' (c'+n) (IW++[⟨k,x,l',c'⟩])
def all(t:List Nat):Option (List IY):=if 8192<t.length then V else scan (t.length+1) t 0 1 1 []
end Lx
theorem xP(b:Nat)(h:b<256)(w:Q4):Q6 Rj 243 #[Z c_ b] w fun e w'=>e=a_ (K (Lx.I9 b))/\w'=w:=by
 have hc:(b<65/\Lx.I9 b=O)\/(65<=b/\b<=90/\Lx.I9 b=G)\/(91<=b/\b<=94/\Lx.I9 b=O)\/(b=95/\Lx.I9 b=G)\/(b=96/\Lx.I9 b=O)\/(97<=b/\b<=122/\Lx.I9 b=G)\/(123<=b/\Lx.I9 b=O):=by
  have:∀c:Fin 256,(c.val<65/\Lx.I9 c.val=O)\/(65<=c.val/\c.val<=90/\Lx.I9 c.val=G)\/(91<=c.val/\c.val<=94/\Lx.I9 c.val=O)\/(c.val=95/\Lx.I9 c.val=G)\/(c.val=96/\Lx.I9 c.val=O)\/(97<=c.val/\c.val<=122/\Lx.I9 c.val=G)\/(123<=c.val/\Lx.I9 c.val=O):=by decide+kernel
  exact this ⟨b,h⟩
 have s:(0:Int)<=b:=by omega
 have t:(b:Int)<=255:=by omega
 rcases hc with⟨a,hm⟩|⟨l1,a,hm⟩|⟨l1,a,hm⟩|⟨rfl,hm⟩|⟨rfl,hm⟩|⟨l1,a,hm⟩|⟨l1,hm⟩
 all_goals
  rw[hm];clear hm
  try have p:(65:Int)<=b:=by omega
  try have k:(b:Int)<65:=by omega
  try have q:(b:Int)<=90:=by omega
  try have l:(90:Int)<b:=by omega
  try have r:(97:Int)<=b:=by omega
  try have m:(b:Int)<97:=by omega
  try have f:(b:Int)<=122:=by omega
  try have d:(122:Int)<b:=by omega
  try have n:(48:Int)<=b:=by omega
  try have i:(b:Int)<48:=by omega
  try have o:(b:Int)<=57:=by omega
  try have j:(57:Int)<b:=by omega
  try have g:((b:Int)==95)=O:=by rw[beq_eq_false_iff_ne];omega
  go_enter func243,ntmps243
  go_wp2
  go_ret
  first|exact⟨rfl,rfl⟩|exact⟨fl (by simp;omega),rfl⟩
theorem tP(b:Nat)(f:b<256)(w:Q4):Q6 Rj 245 #[Z c_ b] w fun e w'=>e=a_ (K (Lx.I1 b))/\w'=w:=by
 have hc:(b<48/\Lx.I1 b=O)\/(48<=b/\b<=57/\Lx.I1 b=G)\/(58<=b/\Lx.I1 b=O):=by
  have:∀c:Fin 256,(c.val<48/\Lx.I1 c.val=O)\/(48<=c.val/\c.val<=57/\Lx.I1 c.val=G)\/(58<=c.val/\Lx.I1 c.val=O):=by decide+kernel
  exact this ⟨b,f⟩
 rcases hc with⟨g,hm⟩|⟨l1,g,hm⟩|⟨l1,hm⟩
 all_goals
  rw[hm];clear hm
  try have o:(65:Int)<=b:=by omega
  try have j:(b:Int)<65:=by omega
  try have p:(b:Int)<=90:=by omega
  try have k:(90:Int)<b:=by omega
  try have q:(97:Int)<=b:=by omega
  try have l:(b:Int)<97:=by omega
  try have d:(b:Int)<=122:=by omega
  try have a:(122:Int)<b:=by omega
  try have m:(48:Int)<=b:=by omega
  try have h:(b:Int)<48:=by omega
  try have n:(b:Int)<=57:=by omega
  try have i:(57:Int)<b:=by omega
  go_enter func245,ntmps245
  go_wp2
  go_ret
  first|exact⟨rfl,rfl⟩|exact⟨fl (by simp;omega),rfl⟩
theorem DG(b:Nat)(h:b<256)(w:Q4):Q6 Rj 255 #[Z c_ b] w fun e w'=>e=a_ (K (Lx.I9 b))/\w'=w:=by
 have hc:(b<65/\Lx.I9 b=O)\/(65<=b/\b<=90/\Lx.I9 b=G)\/(91<=b/\b<=94/\Lx.I9 b=O)\/(b=95/\Lx.I9 b=G)\/(b=96/\Lx.I9 b=O)\/(97<=b/\b<=122/\Lx.I9 b=G)\/(123<=b/\Lx.I9 b=O):=by
  have:∀c:Fin 256,(c.val<65/\Lx.I9 c.val=O)\/(65<=c.val/\c.val<=90/\Lx.I9 c.val=G)\/(91<=c.val/\c.val<=94/\Lx.I9 c.val=O)\/(c.val=95/\Lx.I9 c.val=G)\/(c.val=96/\Lx.I9 c.val=O)\/(97<=c.val/\c.val<=122/\Lx.I9 c.val=G)\/(123<=c.val/\Lx.I9 c.val=O):=by decide+kernel
  exact this ⟨b,h⟩
 have s:(0:Int)<=b:=by omega
 have t:(b:Int)<=255:=by omega
 rcases hc with⟨a,hm⟩|⟨l1,a,hm⟩|⟨l1,a,hm⟩|⟨rfl,hm⟩|⟨rfl,hm⟩|⟨l1,a,hm⟩|⟨l1,hm⟩
 all_goals
  rw[hm];clear hm
  try have p:(65:Int)<=b:=by omega
  try have k:(b:Int)<65:=by omega
  try have q:(b:Int)<=90:=by omega
  try have l:(90:Int)<b:=by omega
  try have r:(97:Int)<=b:=by omega
  try have m:(b:Int)<97:=by omega
  try have f:(b:Int)<=122:=by omega
  try have d:(122:Int)<b:=by omega
  try have n:(48:Int)<=b:=by omega
  try have i:(b:Int)<48:=by omega
  try have o:(b:Int)<=57:=by omega
  try have j:(57:Int)<b:=by omega
  try have g:((b:Int)==95)=O:=by rw[beq_eq_false_iff_ne];omega
  go_enter func255,ntmps255
  go_wp2
  go_ret
  first|exact⟨rfl,rfl⟩|exact⟨fl (by simp;omega),rfl⟩
theorem xS(b:Nat)(f:b<256)(w:Q4):Q6 Rj 258 #[Z c_ b] w fun e w'=>e=a_ (K (Lx.I1 b))/\w'=w:=by
 have hc:(b<48/\Lx.I1 b=O)\/(48<=b/\b<=57/\Lx.I1 b=G)\/(58<=b/\Lx.I1 b=O):=by
  have:∀c:Fin 256,(c.val<48/\Lx.I1 c.val=O)\/(48<=c.val/\c.val<=57/\Lx.I1 c.val=G)\/(58<=c.val/\Lx.I1 c.val=O):=by decide+kernel
  exact this ⟨b,f⟩
 rcases hc with⟨g,hm⟩|⟨l1,g,hm⟩|⟨l1,hm⟩
 all_goals
  rw[hm];clear hm
  try have o:(65:Int)<=b:=by omega
  try have j:(b:Int)<65:=by omega
  try have p:(b:Int)<=90:=by omega
  try have k:(90:Int)<b:=by omega
  try have q:(97:Int)<=b:=by omega
  try have l:(b:Int)<97:=by omega
  try have d:(b:Int)<=122:=by omega
  try have a:(122:Int)<b:=by omega
  try have m:(48:Int)<=b:=by omega
  try have h:(b:Int)<48:=by omega
  try have n:(b:Int)<=57:=by omega
  try have i:(57:Int)<b:=by omega
  go_enter func258,ntmps258
  go_wp2
  go_ret
  first|exact⟨rfl,rfl⟩|exact⟨fl (by simp;omega),rfl⟩
theorem Eb(b:Nat)(d:b<256)(w:Q4):Q6 Rj 257 #[Z c_ b] w fun e w'=>e=a_ (K (Lx.word b))/\w'=w:=by
 have g:=aJ (DG b d w)
 have f:=aJ (xS b d w)
 have h:Lx.word b=(Lx.I9 b||Lx.I1 b||b==45):=rfl
 rw[h];clear h d;generalize Lx.I9 b=p at *;generalize Lx.I1 b=q at *
 by_cases c:b=45
 ·subst c;cases p<;>cases q
  all_goals
   go_enter func257,ntmps257
   go_wp2_with (first|(go_at_call 255;refine g.mono ?_;rintro e w' ⟨rfl,rfl⟩)|(go_at_call 258;refine f.mono ?_;rintro e w' ⟨rfl,rfl⟩))
   go_ret;exact⟨rfl,rfl⟩
 have i:((b:Int)==45)=O:=by rw[beq_eq_false_iff_ne];omega
 have a:(b==45)=O:=by rw[beq_eq_false_iff_ne];exact c
 rw[a];clear c a;cases p<;>cases q
 all_goals
  go_enter func257,ntmps257
  go_wp2_with (first|(go_at_call 255;refine g.mono ?_;rintro e w' ⟨rfl,rfl⟩)|(go_at_call 258;refine f.mono ?_;rintro e w' ⟨rfl,rfl⟩))
  go_ret;exact⟨rfl,rfl⟩
theorem eV(s:ByteArray)(a b:Nat):bs (s.extract a b)=((bs s).drop a).take (b-a):=by simp[bs]
theorem AB{t:ByteArray}(h:bs s=bs t):s=t:=by
 unfold bs at h;have e:s.data.toList=t.data.toList:=List.map_inj_right (f:=q_) (fun a b e=>QG.mp e)|>.mp h
 exact ByteArray.ext (QH.mp e)
theorem ed{x:Nat}(hx:x∈bs s):x<256:=by
 unfold bs at hx;obtain⟨y,_,rfl⟩:=u5.mp hx;exact y.toNat_lt
theorem dU(s:ByteArray):ab (bs s)=s:=by grind [AB,fU,ed]
theorem fF(s:ByteArray)(a b:Nat):s.extract a b=ab (((bs s).drop a).take (b-a)):=by grind [AB,eV,fU,ed]
theorem dI{l:List Nat}(h:a<l.length):l.drop a=l.getD a 0::l.drop (a+1):=by simp_all
theorem zM(l:List UInt8):(j_ l 10= -1/\((l.map q_).takeWhile (· !=10)).length=l.length)\/
  ∃n:Nat,j_ l 10=n/\n<l.length/\((l.map q_).takeWhile (· !=10)).length=n:=by
 induction l with
 |nil=>exact bX ⟨rfl,rfl⟩
 |cons b l ih=>
  by_cases a:b=10
  ·subst a;exact bY ⟨0,rfl,by simp,rfl⟩
  have c:(b==10)=O:=by simp[a]
  have f:b.toNat≠10:=fun e=>a (QG.mp (by rw[e];rfl))
  have d:(b.toNat !=10)=G:=by simp[f]
  rw[o0,H_ (p:=fun x=>x !=10) d,fb,fb]
  rcases ih with⟨h1,h2⟩|⟨n,h1,h2,g⟩
  ·refine bX ⟨?_,by omega⟩
   rw[j_,ng_ (by simp[c]),h1]
   rfl
  refine bY ⟨n+1,?_,by omega,by omega⟩
  rw[j_,ng_ (by simp[c]),h1,ng_ (by simp<;>omega)]
  rfl
theorem F6(c x:Nat)(hc:c<256)(h:Lx.K5 c=X x)(w:Q4):Q6 Rj 293 #[Z c_ c] w fun e w'=>e=a_ (Z Y (x:Int))/\w'=w:=by
 have hx:(48<=c/\c<=57/\x=c-48)\/(97<=c/\c<=102/\x=c-87)\/(65<=c/\c<=70/\x=c-55):=by
  unfold Lx.K5 at h;split at h
  ·left;injection h with h;omega
  split at h
  ·right;left;injection h with h;omega
  split at h
  ·right;right;injection h with h;omega
  cases h
 clear h;rcases hx with⟨l1,a,rfl⟩|⟨l1,a,rfl⟩|⟨l1,a,rfl⟩
 all_goals
  try have s:(48:Int)<=c:=by omega
  try have n:(c:Int)<48:=by omega
  try have t:(c:Int)<=57:=by omega
  try have o:(57:Int)<c:=by omega
  try have u:(65:Int)<=c:=by omega
  try have p:(c:Int)<65:=by omega
  try have y:(c:Int)<=70:=by omega
  try have q:(70:Int)<c:=by omega
  try have z:(97:Int)<=c:=by omega
  try have r:(c:Int)<97:=by omega
  try have f:(c:Int)<=102:=by omega
  try have k:e_.wrap ((c:Int)-48)=(c:Int)-48:=fe _ (by omega)
  try have m:e_.wrap ((c:Int)-97)=(c:Int)-97:=fe _ (by omega)
  try have l:e_.wrap ((c:Int)-65)=(c:Int)-65:=fe _ (by omega)
  try have g:d_.wrap ((c:Int)-48)=(c:Int)-48:=bV _ (by omega)
  try have j:d_.wrap ((c:Int)-97)=(c:Int)-97:=bV _ (by omega)
  try have i:d_.wrap ((c:Int)-65)=(c:Int)-65:=bV _ (by omega)
  try have d:d_.wrap ((c:Int)-97+10)=(c:Int)-97+10:=bV _ (by omega)
  try have b:d_.wrap ((c:Int)-65+10)=(c:Int)-65+10:=bV _ (by omega)
  go_enter func293,ntmps293
  go_wp2
  go_ret;exact⟨Cn (by omega),rfl⟩
theorem gj{p:Nat->Bool}{l:List Nat}{n:Nat}(h:n<l.length):((l.drop n).takeWhile p).length=if p (l.getD n 0)=G then((l.drop (n+1)).takeWhile p).length+1 else 0:=by grind [dI,QI]
theorem Ec(s:ByteArray)(N:Nat)(w:Q4)(hs:s.size<=100000)(h:((bs s).takeWhile Lx.word).length=N):
  Q6 Rj 256 #[Q s,.func (.func 257) #[] #[]] w fun e w'=>e=a_ (Z Y (N:Int))/\w'=w:=by
 go_enter func256,ntmps256
 go_wp2
 go_loopw [5] (fun i wr=>∃n:Nat,i=Z Y (n:Int)/\n<=s.size/\Hid (n+(((bs s).drop n).takeWhile Lx.word).length=N)/\wr=w) (fun i _=>s.size-(intOf i).toNat)
 case atStart=>exact⟨0,rfl,bO _,aJ (by rw[<-h];simp),rfl⟩
 obtain⟨n,rfl,_,d,rfl⟩:=hrel
 by_cases b:n<s.size
 ·have k:(0:Int)<=(n:Int):=by omega
  have j:(n:Int)<(s.size:Int):=by omega
  have q1:decide ((n:Int)<(s.size:Int))=G:=by rw[decide_eq_true_iff];exact j
  have c:=aJ (Eb s[n].toNat s[n].toNat_lt wr)
  have h2:=d.out
  rw[gj (by rw[af];exact b),be s n b] at h2
  have a:=aJ h2
  have l:d_.wrap ((n:Int)+1)=(n:Int)+1:=bV _ (by omega)
  clear h2 d;cases f:Lx.word s[n].toNat with
  |true=>
   rw[f] at c a;simp only[if_true] at a;clear f;go_wp2_with fail;refine(c).mono ?_;rintro e w' ⟨rfl,rfl⟩;go_wp2;go_roundw
   case rel=>exact⟨n+1,by push_cast;rfl,by omega,aJ (by have:=a.out;omega),by trivial⟩
   simp[intOf];omega
  |false=>
   rw[f] at c a;have g:Hid (hD (Z Y (n:Int))=a_ (Z Y (N:Int))):=aJ (by have:=a.out;simp at this;rw[this])
   clear f a;go_wp2_with fail;refine(c).mono ?_;rintro e w' ⟨rfl,rfl⟩;go_wp2;go_ret;exact⟨g,rfl⟩
 obtain rfl:n=s.size:=by omega
 have g:Hid (hD (Z Y (s.size:Int))=a_ (Z Y (N:Int))):=aJ (by
  have h2:=d.out
  rw[gf (by rw[af];exact bM _)] at h2
  simp at h2
  rw[h2])
 clear d;go_wp2;go_ret;exact⟨g,rfl⟩
theorem Ed(s:ByteArray)(N:Nat)(w:Q4)(hs:s.size<=100000)(h:((bs s).takeWhile Lx.I1).length=N):
  Q6 Rj 256 #[Q s,.func (.func 258) #[] #[]] w fun e w'=>e=a_ (Z Y (N:Int))/\w'=w:=by
 go_enter func256,ntmps256
 go_wp2
 go_loopw [5] (fun i wr=>∃n:Nat,i=Z Y (n:Int)/\n<=s.size/\Hid (n+(((bs s).drop n).takeWhile Lx.I1).length=N)/\wr=w) (fun i _=>s.size-(intOf i).toNat)
 case atStart=>exact⟨0,rfl,bO _,aJ (by rw[<-h];simp),rfl⟩
 obtain⟨n,rfl,_,d,rfl⟩:=hrel
 by_cases b:n<s.size
 ·have k:(0:Int)<=(n:Int):=by omega
  have j:(n:Int)<(s.size:Int):=by omega
  have q1:decide ((n:Int)<(s.size:Int))=G:=by rw[decide_eq_true_iff];exact j
  have c:=aJ (xS s[n].toNat s[n].toNat_lt wr)
  have h2:=d.out
  rw[gj (by rw[af];exact b),be s n b] at h2
  have a:=aJ h2
  have l:d_.wrap ((n:Int)+1)=(n:Int)+1:=bV _ (by omega)
  clear h2 d;cases f:Lx.I1 s[n].toNat with
  |true=>
   rw[f] at c a;simp only[if_true] at a;clear f;go_wp2_with fail;refine(c).mono ?_;rintro e w' ⟨rfl,rfl⟩;go_wp2;go_roundw
   case rel=>exact⟨n+1,by push_cast;rfl,by omega,aJ (by have:=a.out;omega),by trivial⟩
   simp[intOf];omega
  |false=>
   rw[f] at c a;have g:Hid (hD (Z Y (n:Int))=a_ (Z Y (N:Int))):=aJ (by have:=a.out;simp at this;rw[this])
   clear f a;go_wp2_with fail;refine(c).mono ?_;rintro e w' ⟨rfl,rfl⟩;go_wp2;go_ret;exact⟨g,rfl⟩
 obtain rfl:n=s.size:=by omega
 have g:Hid (hD (Z Y (s.size:Int))=a_ (Z Y (N:Int))):=aJ (by
  have h2:=d.out
  rw[gf (by rw[af];exact bM _)] at h2
  simp at h2
  rw[h2])
 clear d;go_wp2;go_ret;exact⟨g,rfl⟩
theorem Hs:∀h l:Fin 16,bits .or Y ((h.val:Int)*16) (l.val:Int)%256=16*(h.val:Int)+(l.val:Int):=by decide+kernel
theorem hX{c x:Nat}(h:Lx.K5 c=X x):x<16:=by grind [Lx.K5]
theorem pZ{b d n:Nat}(h:Lx.Np (b::r)=X (d,n)):(b=34/\d=34/\n=1)\/(b=92/\d=92/\n=1)\/(b=110/\d=10/\n=1)\/(b=116/\d=9/\n=1)\/
  (b=120/\n=3/\2<=r.length/\∃x y,Lx.K5 (r.getD 0 0)=X x/\Lx.K5 (r.getD 1 0)=X y/\d=16*x+y):=by
 simp only[Lx.Np] at h
 by_cases h1:b=34\/b=92
 ·rw[ps_ h1] at h;simp at h;omega
 grind
def DE(w:Q4)(d n:Nat)(e:Q9)(w':Q4):Prop:=e=a_ (b_ #[Z c_ (d:Int),Z Y (n:Int)])/\∃m,w'=w.drewN m
theorem F7(s:ByteArray)(d n:Nat)(w:Q4)(h:Lx.Np (bs s)=X (d,n)):Q6 Rj 279 #[Q s] w (DE w d n):=by
 have A:0<s.size:=by
  rcases jd s.size with e|e
  ·have:bs s=[]:=jb (by rw[af];exact e)
   rw[this] at h;cases h
  exact e
 have hne:s.toList.isEmpty=O:=by
  rw[IN,List.isEmpty_eq_false_iff];intro e;have:s.size=s.data.toList.length:=by rw[Hx];rfl
  rw[e,List.length_nil] at this;omega
 have hs:bs s=s[0].toNat::(bs s).drop 1:=by rw[<-be s 0 A,<-dI (by rw[af];exact A)];rfl
 have q:s[0].toNat<256:=s[0].toNat_lt
 rw[hs] at h;rcases pZ h with⟨h1,rfl,rfl⟩|⟨h1,rfl,rfl⟩|⟨h1,rfl,rfl⟩|⟨h1,rfl,rfl⟩|⟨h1,rfl,h2,x,y,hx,hy,rfl⟩
 ·have p:=aJ h1
  have a:((s[0].toNat:Int)==34)=G:=by rw[h1];rfl
  clear hs h h1;go_enter func279,ntmps279;go_wp2;refine aP (v:=b_ #[Z c_ (s[0].toNat:Nat),Z Y (1:Nat)]) (by simp[results,results279,go_sem]) rfl ?_
  exact⟨by rw[p.out],0,rfl⟩
 ·have p:=aJ h1
  have a:((s[0].toNat:Int)==34)=O:=by rw[h1];rfl
  have f:((s[0].toNat:Int)==92)=G:=by rw[h1];rfl
  clear hs h h1;go_enter func279,ntmps279;go_wp2;refine aP (v:=b_ #[Z c_ (s[0].toNat:Nat),Z Y (1:Nat)]) (by simp[results,results279,go_sem]) rfl ?_
  exact⟨by rw[p.out],0,rfl⟩
 ·have a:((s[0].toNat:Int)==34)=O:=by rw[h1];rfl
  have f:((s[0].toNat:Int)==92)=O:=by rw[h1];rfl
  have c:((s[0].toNat:Int)==110)=G:=by rw[h1];rfl
  clear hs h h1;go_enter func279,ntmps279;go_wp2;refine aP (v:=b_ #[Z c_ (10:Nat),Z Y (1:Nat)]) (by simp[results,results279,go_sem]) rfl ?_
  exact⟨rfl,0,rfl⟩
 ·have a:((s[0].toNat:Int)==34)=O:=by rw[h1];rfl
  have f:((s[0].toNat:Int)==92)=O:=by rw[h1];rfl
  have c:((s[0].toNat:Int)==110)=O:=by rw[h1];rfl
  have i:((s[0].toNat:Int)==116)=G:=by rw[h1];rfl
  clear hs h h1;go_enter func279,ntmps279;go_wp2;refine aP (v:=b_ #[Z c_ (9:Nat),Z Y (1:Nat)]) (by simp[results,results279,go_sem]) rfl ?_
  exact⟨rfl,0,rfl⟩
 have a:((s[0].toNat:Int)==34)=O:=by rw[h1];rfl
 have f:((s[0].toNat:Int)==92)=O:=by rw[h1];rfl
 have c:((s[0].toNat:Int)==110)=O:=by rw[h1];rfl
 have i:((s[0].toNat:Int)==116)=O:=by rw[h1];rfl
 have t:((s[0].toNat:Int)==120)=G:=by rw[h1];rfl
 rw[ja,af] at h2;have D:3<=s.size:=by omega
 have s1:1<s.size:=by omega
 have F:2<s.size:=by omega
 have u:((bs s).drop 1).getD 0 0=s[1].toNat:=by rw[<-be s 1 s1];simp[bD]
 have z:((bs s).drop 1).getD 1 0=s[2].toNat:=by rw[<-be s 2 F];simp[bD]
 rw[u] at hx;rw[z] at hy;have k:=hX hx;have l:=hX hy;have g:Hid (∀n (b:Nat),(Lx.K5 b).isSome=G->b<256->Q6 Rj 293 #[Z c_ (b:Int)] (w.drewN n) fun e w'=>e=a_ (Z Y (((Lx.K5 b).getD 0:Nat):Int))/\w'=w.drewN n):=aJ (fun n b q r=>by
  cases hv:Lx.K5 b with
  |none=>rw[hv] at q;cases q
  |some v=>exact F6 b v r hv _)
 have B:Hid ((Lx.K5 s[1].toNat).isSome=G):=aJ (by rw[hx];rfl)
 have C:Hid ((Lx.K5 s[2].toNat).isSome=G):=aJ (by rw[hy];rfl)
 have m:Hid ((Lx.K5 s[1].toNat).getD 0=x):=aJ (by rw[hx];rfl)
 have o:Hid ((Lx.K5 s[2].toNat).getD 0=y):=aJ (by rw[hy];rfl)
 have j:=Hs ⟨x,k⟩ ⟨y,l⟩
 simp only at j
 have I:decide ((s.size:Int)<3)=O:=by rw[decide_eq_false_iff_not];omega
 have J:(1:Int)<(s.size:Int):=by omega
 have j2:(2:Int)<(s.size:Int):=by omega
 have L:decide ((x:Int)<0)=O:=by rw[decide_eq_false_iff_not];omega
 have N:decide ((y:Int)<0)=O:=by rw[decide_eq_false_iff_not];omega
 clear hs h h1 u z hx hy h2;go_enter func279,ntmps279;go_wp2;go_quiet ((go_at_call 293;exact Calls.quiet_of_same (g _ _ (by simp only[B.out,C.out]) (IS _))))
 rw[m.out,o.out];go_wp2;refine aP (v:=b_ #[Z c_ ((16*x+y:Nat):Int),Z Y ((3:Nat):Int)]) (by simp[results,results279,go_sem,j]) rfl ⟨rfl,_,rfl⟩
theorem xR(c x:Nat)(hc:c<256)(h:Lx.K5 c=X x)(w:Q4):Q6 Rj 291 #[Z c_ c] w fun e w'=>e=a_ (b_ #[Z c_ (x:Int),K G])/\w'=w:=by
 have a:=aJ (tP c hc w)
 have hx:(48<=c/\c<=57/\(x:Int)=(c:Int)-48/\Lx.I1 c=G)\/(97<=c/\c<=102/\(x:Int)=(c:Int)-97+10/\Lx.I1 c=O)\/(65<=c/\c<=70/\(x:Int)=(c:Int)-65+10/\Lx.I1 c=O):=by
  unfold Lx.K5 at h;have hd:Lx.I1 c=decide (48<=c/\c<=57):=by unfold Lx.I1;simp
  rw[hd];split at h
  ·next h1=>left;injection h with h;exact⟨h1.1,h1.2,by omega,by simp[h1]⟩
  next h1=>
  split at h
  ·next h2=>right;left;injection h with h;exact⟨h2.1,h2.2,by omega,by simpa using h1⟩
  next h2=>
  split at h
  ·next h3=>right;right;injection h with h;exact⟨h3.1,h3.2,by omega,by simpa using h1⟩
  cases h
 clear h;rcases hx with⟨l1,b,e,hd⟩|⟨l1,b,e,hd⟩|⟨l1,b,e,hd⟩
 ·rw[e];rw[hd] at a;have g:e_.wrap ((c:Int)-48)=(c:Int)-48:=fe _ (by omega)
  clear e hd;go_enter func291,ntmps291;go_wp2_with fail;refine(a).mono ?_;rintro e w' ⟨rfl,rfl⟩;go_wp2;refine aP (v:=b_ #[Z c_ ((c:Int)-48),K G]) (by simp[results,results291,go_sem]) rfl ⟨rfl,rfl⟩
 ·rw[e];rw[hd] at a;have n:(97:Int)<=c:=by omega
  have f:(c:Int)<=102:=by omega
  have k:e_.wrap ((c:Int)-97)=(c:Int)-97:=fe _ (by omega)
  have d:e_.wrap ((c:Int)-97+10)=(c:Int)-97+10:=fe _ (by omega)
  clear e hd;go_enter func291,ntmps291;go_wp2_with fail;refine(a).mono ?_;rintro e w' ⟨rfl,rfl⟩;go_wp2;refine aP (v:=b_ #[Z c_ ((c:Int)-97+10),K G]) (by simp[results,results291,go_sem]) rfl ⟨rfl,rfl⟩
 rw[e];rw[hd] at a;have l:(65:Int)<=c:=by omega
 have m:(c:Int)<=70:=by omega
 have i:e_.wrap ((c:Int)-65)=(c:Int)-65:=fe _ (by omega)
 have j:e_.wrap ((c:Int)-65+10)=(c:Int)-65+10:=fe _ (by omega)
 clear e hd;go_enter func291,ntmps291;go_wp2_with fail;refine(a).mono ?_;rintro e w' ⟨rfl,rfl⟩;go_wp2;refine aP (v:=b_ #[Z c_ ((c:Int)-65+10),K G]) (by simp[results,results291,go_sem]) rfl ⟨rfl,rfl⟩
theorem D2(s:ByteArray)(N:Nat)(w:Q4)(hs:s.size<=100000)(m:((bs s).takeWhile Lx.word).length=N):
  Q6 Rj 244 #[Q s,K G] w fun e w'=>e=a_ (Z Y (N:Int))/\w'=w:=by
 go_enter func244,ntmps244
 go_wp2
 go_loopw [5] (fun i wr=>∃n:Nat,i=Z Y (n:Int)/\n<=s.size/\Hid (n+(((bs s).drop n).takeWhile Lx.word).length=N)/\wr=w) (fun i _=>s.size-(intOf i).toNat)
 case atStart=>exact⟨0,rfl,bO _,aJ (by rw[<-m];simp),rfl⟩
 obtain⟨n,rfl,_,j,rfl⟩:=hrel
 by_cases g:n<s.size
 ·have p:(0:Int)<=(n:Int):=by omega
  have o:(n:Int)<(s.size:Int):=by omega
  have q1:decide ((n:Int)<(s.size:Int))=G:=by rw[decide_eq_true_iff];exact o
  have c:=aJ (fun W=>tP s[n].toNat s[n].toNat_lt W)
  have d:=aJ (fun W=>xP s[n].toNat s[n].toNat_lt W)
  have h2:=j.out
  rw[gj (by rw[af];exact g),be s n g] at h2
  have q:d_.wrap ((n:Int)+1)=(n:Int)+1:=bV _ (by omega)
  clear j;have h:Lx.word s[n].toNat=(Lx.I9 s[n].toNat||Lx.I1 s[n].toNat||s[n].toNat==45):=rfl;rw[h] at h2;cases hd:Lx.I1 s[n].toNat with
  |true=>
   rw[hd] at h2 c;simp only[Bool.or_true,QJ] at h2;have a:=aJ h2;clear h2 h hd;simp only[if_true] at a;go_wp2_with (first|(go_at_call 243;refine(d _).mono ?_;rintro e w' ⟨rfl,rfl⟩)|(go_at_call 245;refine(c _).mono ?_;rintro e w' ⟨rfl,rfl⟩))
   go_roundw
   case rel=>exact⟨n+1,by push_cast;rfl,by omega,aJ (by have:=a.out;omega),by trivial⟩
   simp[intOf];omega
  |false=>
   rw[hd] at h2 c;cases f:Lx.I9 s[n].toNat with
   |true=>
    rw[f] at h2 d;simp only[QJ] at h2;have a:=aJ h2;clear h2 h hd f;simp only[if_true] at a;go_wp2_with (first|(go_at_call 243;refine(d _).mono ?_;rintro e w' ⟨rfl,rfl⟩)|(go_at_call 245;refine(c _).mono ?_;rintro e w' ⟨rfl,rfl⟩))
    go_roundw
    case rel=>exact⟨n+1,by push_cast;rfl,by omega,aJ (by have:=a.out;omega),by trivial⟩
    simp[intOf];omega
   |false=>
    rw[f] at h2 d;simp only[Bool.or_false,Bool.false_or] at h2
    by_cases b:s[n].toNat=45
    ·have l:((s[n].toNat:Int)==45)=G:=by rw[b];rfl
     rw[show(s[n].toNat==45)=G by rw[b];rfl] at h2
     have a:=aJ h2
     clear h2 h hd f b;simp only[if_true] at a;go_wp2_with (first|(go_at_call 243;refine(d _).mono ?_;rintro e w' ⟨rfl,rfl⟩)|(go_at_call 245;refine(c _).mono ?_;rintro e w' ⟨rfl,rfl⟩))
     go_roundw
     case rel=>exact⟨n+1,by push_cast;rfl,by omega,aJ (by have:=a.out;omega),by trivial⟩
     simp[intOf];omega
    have l:((s[n].toNat:Int)==45)=O:=by rw[beq_eq_false_iff_ne];omega
    rw[show(s[n].toNat==45)=O by rw[beq_eq_false_iff_ne];exact b] at h2
    have a:=aJ h2
    clear h2 h hd f b;have k:Hid (hD (Z Y (n:Int))=a_ (Z Y (N:Int))):=aJ (by have:=a.out;simp at this;rw[this])
    clear a;go_wp2_with (first|(go_at_call 243;refine(d _).mono ?_;rintro e w' ⟨rfl,rfl⟩)|(go_at_call 245;refine(c _).mono ?_;rintro e w' ⟨rfl,rfl⟩))
    go_ret;exact⟨k,rfl⟩
 obtain rfl:n=s.size:=by omega
 have k:Hid (hD (Z Y (s.size:Int))=a_ (Z Y (N:Int))):=aJ (by
  have h2:=j.out
  rw[gf (by rw[af];exact bM _)] at h2
  simp at h2
  rw[h2])
 clear j;go_wp2;go_ret;exact⟨k,rfl⟩
theorem D3(s:ByteArray)(N:Nat)(w:Q4)(hs:s.size<=100000)(h:((bs s).takeWhile Lx.I1).length=N):
  Q6 Rj 244 #[Q s,K O] w fun e w'=>e=a_ (Z Y (N:Int))/\w'=w:=by
 go_enter func244,ntmps244
 go_wp2
 go_loopw [5] (fun i wr=>∃n:Nat,i=Z Y (n:Int)/\n<=s.size/\Hid (n+(((bs s).drop n).takeWhile Lx.I1).length=N)/\wr=w) (fun i _=>s.size-(intOf i).toNat)
 case atStart=>exact⟨0,rfl,bO _,aJ (by rw[<-h];simp),rfl⟩
 obtain⟨n,rfl,_,d,rfl⟩:=hrel
 by_cases b:n<s.size
 ·have k:(0:Int)<=(n:Int):=by omega
  have j:(n:Int)<(s.size:Int):=by omega
  have q1:decide ((n:Int)<(s.size:Int))=G:=by rw[decide_eq_true_iff];exact j
  have c:=aJ (fun W=>tP s[n].toNat s[n].toNat_lt W)
  have g:=aJ (fun W=>xP s[n].toNat s[n].toNat_lt W)
  have h2:=d.out
  rw[gj (by rw[af];exact b),be s n b] at h2
  have l:d_.wrap ((n:Int)+1)=(n:Int)+1:=bV _ (by omega)
  clear d;cases hd:Lx.I1 s[n].toNat with
  |true=>
   rw[hd] at h2 c;have a:=aJ h2;clear h2 hd;simp only[if_true] at a;go_wp2_with (first|(go_at_call 243;refine(g _).mono ?_;rintro e w' ⟨rfl,rfl⟩)|(go_at_call 245;refine(c _).mono ?_;rintro e w' ⟨rfl,rfl⟩))
   go_roundw
   case rel=>exact⟨n+1,by push_cast;rfl,by omega,aJ (by have:=a.out;omega),by trivial⟩
   simp[intOf];omega
  |false=>
   rw[hd] at h2 c;have a:=aJ h2;clear h2 hd;have f:Hid (hD (Z Y (n:Int))=a_ (Z Y (N:Int))):=aJ (by have:=a.out;simp at this;rw[this])
   clear a;go_wp2_with (first|(go_at_call 243;refine(g _).mono ?_;rintro e w' ⟨rfl,rfl⟩)|(go_at_call 245;refine(c _).mono ?_;rintro e w' ⟨rfl,rfl⟩))
   go_ret;exact⟨f,rfl⟩
 obtain rfl:n=s.size:=by omega
 have f:Hid (hD (Z Y (s.size:Int))=a_ (Z Y (N:Int))):=aJ (by
  have h2:=d.out
  rw[gf (by rw[af];exact bM _)] at h2
  simp at h2
  rw[h2])
 clear d;go_wp2;go_ret;exact⟨f,rfl⟩
end Go.Proofs.YtflccikncbhpdaaGreatDoor
namespace Go.Proofs
open Go.Shelf Go.RowKit
def laysB_ren:o_:=⟨fun|167=>280|169=>278|240=>294|276=>305|n=>n,
 fun|0=>0|3=>3|4=>4|5=>5|9=>9|20=>20|37=>40|70=>372|72=>374|75=>96|80=>375|127=>389|164=>152|n=>n,fun|n=>n⟩
theorem laysB167:Go.Proofs.Lays.n167 Rj laysB_ren:={
 mixed:=by kernel_rfl
 f167:=func280.trans (congrArg X (by kernel_rfl))
 f240:=func294.trans (congrArg X (by kernel_rfl))
 f276:=func305.trans (congrArg X (by kernel_rfl))
 t0:=underlying0
 a0:=isAgg0
 z0:=sizeOf0
 v0:=zeroValue0
 t4:=underlying4
 a4:=isAgg4
 z4:=sizeOf4
 v4:=zeroValue4
 t5:=underlying5
 a5:=isAgg5
 z5:=sizeOf5
 v5:=zeroValue5
 t9:=underlying9
 a9:=isAgg9
 z9:=sizeOf9
 v9:=zeroValue9
 t20:=underlying20
 a20:=isAgg20
 z20:=sizeOf20
 v20:=zeroValue20
 t37:=underlying40
 a37:=isAgg40
 z37:=sizeOf40
 v37:=zeroValue40
 t70:=underlying372
 a70:=isAgg372
 z70:=sizeOf372
 v70:=zeroValue372
 t72:=underlying374
 a72:=isAgg374
 z72:=sizeOf374
 v72:=zeroValue374
 t75:=underlying96
 a75:=isAgg96
 z75:=sizeOf96
 v75:=zeroValue96
 t164:=underlying152
 a164:=isAgg152
 z164:=sizeOf152
 v164:=zeroValue152
}
theorem laysB169:Go.Proofs.Lays.n169 Rj laysB_ren:={
 mixed:=by kernel_rfl
 f169:=func278.trans (congrArg X (by kernel_rfl))
 t0:=underlying0
 a0:=isAgg0
 z0:=sizeOf0
 v0:=zeroValue0
 t3:=underlying3
 a3:=isAgg3
 z3:=sizeOf3
 v3:=zeroValue3
 t9:=underlying9
 a9:=isAgg9
 z9:=sizeOf9
 v9:=zeroValue9
 t37:=underlying40
 a37:=isAgg40
 z37:=sizeOf40
 v37:=zeroValue40
 t70:=underlying372
 a70:=isAgg372
 z70:=sizeOf372
 v70:=zeroValue372
 t72:=underlying374
 a72:=isAgg374
 z72:=sizeOf374
 v72:=zeroValue374
 t127:=underlying389
 a127:=isAgg389
 z127:=sizeOf389
 v127:=zeroValue389
}
theorem laysBX:Builder.Extra Rj laysB_ren where
 sizeBuilder:=by kernel_rfl
 liesBuilder:=by kernel_rfl
 t5:=underlying5
 a5:=isAgg5
 z5:=sizeOf5
 v5:=zeroValue5
 infoByte:=by kernel_rfl
 cellsByte:=by kernel_rfl
 sizeByte:=by kernel_rfl
 neB5:=by decide
theorem bwByte(B b:Nat)(bs:List Q5)(c:Int)(w:Q4)(h:IT 374 5 B b bs w)(a:bs.length+1<=140737488355328)(d:B<=w.heap.size):
  Q6 Rj 280 #[M (X ⟨b,0,V⟩),Z c_ c] w fun e w'=>e=a_ .nilIface/\(Lib.BuilderAt 374 5 B b (M (X ⟨b,0,V⟩)) (bs++[Z c_ c]) w'/\Below B w w'):=Any.Builder_WriteByte laysB167 laysBX B b bs c w h a d
theorem bString(B b:Nat)(l:List UInt8)(w:Q4)(h:IT 374 5 B b (Lib.byteCells l) w)(a:B<=w.heap.size):
  Q6 Rj 278 #[M (X ⟨b,0,V⟩)] w fun e w'=>e=a_ (Q ⟨l.toArray⟩)/\Below B w w':=Any.Builder_String_any laysB169 laysBX B b l w h a
end Go.Proofs
namespace Go.Proofs.YtflccikncbhpdaaGreatDoor
open Go.RowKit Go.Shelf
set_option linter.unusedVariables false
structure Bd(w0 w:Q4)(b:Nat)(l:List Nat):Prop where
 is:IT 374 5 w0.heap.size b (Jp l) w
 I5:ID w0 w
 lt:∀x∈l,x<256
 JA:l.length<=1000000
theorem Bd.start(w:Q4):Bd w (w.alloc (H #[M V,U V 0 0] 374)) w.heap.size []:=
 ⟨Lib.fresh_isBuilder _ _ w,(ID.refl w).alloc _,fun x h=>(by cases h),bO _⟩
theorem Bd.drewN{b:Nat}{l:List Nat}(h:Bd w0 w b l)(n:Nat):Bd w0 (w.drewN n) b l:=⟨h.is,h.I5.drewN n,h.lt,h.JA⟩
theorem lV{b:Nat}{l:List Nat}(h:Bd w0 w b l)(c:Nat)(hc:c<256)(f:l.length<1000000):
  Q6 Rj 280 #[M (X ⟨b,0,V⟩),Z c_ (c:Int)] w fun e w'=>e=a_ .nilIface/\Bd w0 w' b (l++[c]):=by
 refine(bwByte w0.heap.size b (Jp l) c w h.is (by rw[cY];omega) h.I5.size).mono ?_
 rintro e w' ⟨d,a,hd⟩;refine⟨d,⟨?_,Ab h.I5 hd,?_,?_⟩⟩
 ·rw[i6];exact bY a
 ·intro x hx;rcases wN.mp hx with hx|hx
  ·exact h.lt x hx
  rw[r_] at hx;omega
 rw[bF,bG];omega
theorem DQ{b:Nat}{l:List Nat}(h:Bd w0 w b l):
  Q6 Rj 278 #[M (X ⟨b,0,V⟩)] w (RO_ (Q (ab l)) w0):=by
 have a:=h.is
 rw[lE l h.lt] at a;refine(bString w0.heap.size b (l.map oR) w a h.I5.size).mono ?_;rintro e w' ⟨c,hd⟩;exact⟨c,Ab h.I5 hd⟩
def qo(w:Q4)(R:List Nat×Nat)(e:Q9)(w':Q4):Prop:=e=a_ (b_ #[Q (ab R.1),Z Y (R.2:Int),K G])/\ID w w'
def vp(w:Q4)(s:ByteArray)(R:List Nat×Nat)(i:Q5)(wr:Q4):Prop:=
 ∃(k f:Nat) (IW:List Nat),i=Z Y (k:Int)/\Bd w wr w.heap.size IW/\Lx.Kt f ((bs s).drop k) k IW=X R/\IW.length<=k/\k<=s.size+3
theorem Af{l:List Nat}{d n:Nat}(h:Lx.Np l=X (d,n)):d<256/\1<=n/\n<=3:=by
 cases l with
 |nil=>cases h
 |cons b r=>
  rcases pZ h with⟨_,rfl,rfl⟩|⟨_,rfl,rfl⟩|⟨_,rfl,rfl⟩|⟨_,rfl,rfl⟩|⟨_,rfl,_,x,y,hx,hy,rfl⟩
  ·omega
  ·omega
  ·omega
  ·omega
  have:=hX hx
  have:=hX hy
  omega
theorem Eg(s:ByteArray)(R:List Nat×Nat)(f:Nat)(w:Q4)(hs:s.size<=100000)(h:Lx.Kt f ((bs s).drop 1) 1 []=X R):
  Q6 Rj 259 #[Q s] w (qo w R):=by
 have F:Hid (vp w s R (Z Y 1) (w.alloc (H #[M V,U V 0 0] 374))):=aJ ⟨1,f,[],rfl,Bd.start w,h,bO _,by omega⟩
 clear h;go_enter func259,ntmps259;go_wp2;go_loopw [6] (fun i wr=>vp w s R i wr) (fun i _=>s.size+4-(intOf i).toNat)
 case atStart=>exact F
 clear F;obtain⟨k,f,IW,rfl,j,a,_,hk⟩:=hrel;cases f with
 |zero=>cases a
 |succ f=>
 by_cases z:k<s.size
 ·have P:(0:Int)<=(k:Int):=by omega
  have S:(k:Int)<(s.size:Int):=by omega
  have wk:d_.wrap ((k:Int)+1)=(k:Int)+1:=bV _ (by omega)
  rw[dI (by rw[af];exact z),be s k z,Lx.Kt] at a
  have t:s[k].toNat<256:=s[k].toNat_lt
  have A:=aJ j
  by_cases b:s[k].toNat=34
  ·rw[ps_ b] at a;injection a with a
   have I:=aJ (DQ j)
   have B:((s[k].toNat:Int)==34)=G:=by rw[b];rfl
   have q:Hid (∀w',ID w w'->qo w R (a_ (b_ #[Q (ab IW),Z Y ((k:Int)+1),K G])) w'):=aJ (fun w' L=>by rw[<-a];exact⟨rfl,L⟩)
   clear a j b A;go_wp2_with fail;refine(I).mono ?_;rintro e w2 ⟨rfl,hd⟩;have p:=aJ hd;clear hd I;go_wp2;refine aP (v:=b_ #[Q (ab IW),Z Y ((k:Int)+1),K G]) (by simp[results,results259,go_sem]) rfl (q _ p)
  rw[ng_ b] at a;have B:((s[k].toNat:Int)==34)=O:=by rw[beq_eq_false_iff_ne];omega
  by_cases g:s[k].toNat<32
  ·rw[ps_ g] at a;cases a
  rw[ng_ g] at a;have J:decide ((s[k].toNat:Int)<32)=O:=by rw[decide_eq_false_iff_not];omega
  by_cases c:s[k].toNat=92
  ·rw[ps_ c] at a;have C:((s[k].toNat:Int)==92)=G:=by rw[c];rfl
   cases l:Lx.Np ((bs s).drop (k+1)) with
   |none=>rw[l] at a;cases a
   |some dn=>
    obtain⟨d,n⟩:=dn;rw[l] at a;simp only at a;rw[w_] at a;obtain⟨hd,_,_⟩:=Af l;have x:bs (s.extract (k+1) s.size)=(bs s).drop (k+1):=by
     rw[eV,k9];rw[ja,af];omega
    rw[<-x] at l;have D:=aJ (fun W=>F7 (s.extract (k+1) s.size) d n W l)
    have r:=aJ (fun W (u:Bd w W w.heap.size IW)=>lV u d hd (by omega))
    have q:Hid (∀W,Bd w W w.heap.size (IW++[d])->vp w s R (Z Y ((k:Int)+(1+(n:Int)))) W):=aJ (fun W u=>⟨k+1+n,f,IW++[d],by congr 1;push_cast;omega,u,a,by rw[bF,bG];omega,by omega⟩)
    have n0:((n:Int)==0)=O:=by rw[beq_eq_false_iff_ne];omega
    have T:d_.wrap (1+(n:Int))=1+(n:Int):=bV _ (by omega)
    have N:d_.wrap ((k:Int)+(1+(n:Int)))=(k:Int)+(1+(n:Int)):=bV _ (by omega)
    clear a j b g c l x;go_wp2_with fail;refine(D _).mono ?_;rintro e w2 ⟨rfl,m,rfl⟩;have o:=aJ (A.drewN m);generalize wr.drewN m=w2 at *;clear A D;go_wp2_with fail;refine(r _ o).mono ?_;rintro e _ ⟨rfl,y⟩;have p:=aJ y;clear y r o;go_wp2;go_roundw
    case rel=>exact q _ p
    simp[intOf];omega
  rw[ng_ c] at a;have C:((s[k].toNat:Int)==92)=O:=by rw[beq_eq_false_iff_ne];omega
  have r:=aJ (lV j s[k].toNat t (by omega))
  have q:Hid (∀W,Bd w W w.heap.size (IW++[s[k].toNat])->vp w s R (Z Y ((k:Int)+1)) W):=aJ (fun W u=>⟨k+1,f,IW++[s[k].toNat],by congr 1,u,a,by rw[bF,bG];omega,by omega⟩)
  clear a j b g c A;go_wp2_with fail;refine(r).mono ?_;rintro e w2 ⟨rfl,hd⟩;have p:=aJ hd;clear hd r;go_wp2;go_roundw
  case rel=>exact q _ p
  simp[intOf];omega
 rw[gf (by rw[af];omega)] at a
 cases a
theorem oE(f c i:Nat)(r IW:List Nat):Lx.Le (f+1) (c::r) i IW=if c=47 then X (IW,i+1) else if c<32 then V else if c=92 then
  (match r with|[]=>V|d::a=>if d<32 then V else Lx.Le f a (i+2) (IW++(if d=47 then [47] else [92,d]))) else Lx.Le f r (i+1) (IW++[c]):=by
 cases r<;>rfl
def rZ(w:Q4)(s:ByteArray)(R:List Nat×Nat)(i:Q5)(wr:Q4):Prop:=
 ∃(k f:Nat) (IW:List Nat),i=Z Y (k:Int)/\Bd w wr w.heap.size IW/\Lx.Le f ((bs s).drop k) k IW=X R/\IW.length<=k/\k<=s.size
theorem Eh(s:ByteArray)(R:List Nat×Nat)(f:Nat)(w:Q4)(hs:s.size<=100000)(h1:1<=s.size)(h:Lx.Le f ((bs s).drop 1) 1 []=X R):
  Q6 Rj 260 #[Q s] w (qo w R):=by
 have C:Hid (rZ w s R (Z Y 1) (w.alloc (H #[M V,U V 0 0] 374))):=aJ ⟨1,f,[],rfl,Bd.start w,h,bO _,h1⟩
 clear h h1;go_enter func260,ntmps260;go_wp2;go_loopw [6] (fun i wr=>rZ w s R i wr) (fun i _=>s.size+4-(intOf i).toNat)
 case atStart=>exact C
 clear C;obtain⟨k,f,IW,rfl,l,a,_,hk⟩:=hrel;cases f with
 |zero=>cases a
 |succ f=>
 by_cases r:k<s.size
 ·have T:(0:Int)<=(k:Int):=by omega
  have P:(k:Int)<(s.size:Int):=by omega
  have q1:decide ((k:Int)<(s.size:Int))=G:=by rw[decide_eq_true_iff];exact P
  have wk:d_.wrap ((k:Int)+1)=(k:Int)+1:=bV _ (by omega)
  rw[dI (by rw[af];exact r),be s k r,oE] at a
  have u:s[k].toNat<256:=s[k].toNat_lt
  have y:=aJ l
  by_cases c:s[k].toNat=47
  ·rw[ps_ c] at a;injection a with a
   have D:=aJ (DQ l)
   have A:((s[k].toNat:Int)==47)=G:=by rw[c];rfl
   have q:Hid (∀w',ID w w'->qo w R (a_ (b_ #[Q (ab IW),Z Y ((k:Int)+1),K G])) w'):=aJ (fun w' L=>by rw[<-a];exact⟨rfl,L⟩)
   clear a l c y;go_wp2_with fail;refine(D).mono ?_;rintro e w2 ⟨rfl,hd⟩;have m:=aJ hd;clear hd D;go_wp2;refine aP (v:=b_ #[Q (ab IW),Z Y ((k:Int)+1),K G]) (by simp[results,results260,go_sem]) rfl (q _ m)
  rw[ng_ c] at a;have A:((s[k].toNat:Int)==47)=O:=by rw[beq_eq_false_iff_ne];omega
  by_cases g:s[k].toNat<32
  ·rw[ps_ g] at a;cases a
  rw[ng_ g] at a;have I:decide ((s[k].toNat:Int)<32)=O:=by rw[decide_eq_false_iff_not];omega
  by_cases d:s[k].toNat=92
  ·rw[ps_ d] at a;have B:((s[k].toNat:Int)==92)=G:=by rw[d];rfl
   by_cases x:k+1<s.size
   ·rw[dI (by rw[af];exact x),be s (k+1) x] at a
    simp only at a
    by_cases j:s[k+1].toNat<32
    ·rw[ps_ j] at a;cases a
    rw[ng_ j] at a;have i2:(k:Int)+1<(s.size:Int):=by omega
    have N:(0:Int)<=(k:Int)+1:=by omega
    have q2:((k:Int)+1==(s.size:Int))=O:=by rw[beq_eq_false_iff_ne];omega
    have J:decide ((s[k+1].toNat:Int)<32)=O:=by rw[decide_eq_false_iff_not];omega
    have S:d_.wrap ((k:Int)+1+1)=(k:Int)+1+1:=bV _ (by omega)
    have o:s[k+1].toNat<256:=s[k+1].toNat_lt
    by_cases b:s[k+1].toNat=47
    ·rw[ps_ b] at a;have t:((s[k+1].toNat:Int)==47)=G:=by rw[b];rfl
     have n:=aJ (lV l s[k+1].toNat o (by omega))
     have q:Hid (∀W,Bd w W w.heap.size (IW++[s[k+1].toNat])->rZ w s R (Z Y ((k:Int)+1+1)) W):=aJ (fun W p=>⟨k+2,f,IW++[s[k+1].toNat],by congr 1,p,by rw[b];exact a,by rw[bF,bG];omega,by omega⟩)
     clear a l c g d j b y;go_wp2_with fail;refine n.mono ?_;rintro e w2 ⟨rfl,hd⟩;have m:=aJ hd;clear hd n;go_wp2;go_roundw
     case rel=>exact q _ m
     simp[intOf];omega
    rw[ng_ b] at a;have t:((s[k+1].toNat:Int)==47)=O:=by rw[beq_eq_false_iff_ne];omega
    have hy:Q6 Rj 280 #[M (X ⟨w.heap.size,0,V⟩),Z c_ 92] wr fun e w'=>e=a_ .nilIface/\Bd w w' w.heap.size (IW++[92]):=lV l 92 (by decide) (by omega)
    have n:=aJ hy
    have F:=aJ (fun W (p:Bd w W w.heap.size (IW++[92]))=>lV p s[k+1].toNat o (by rw[bF,bG];omega))
    have q:Hid (∀W,Bd w W w.heap.size (IW++[92]++[s[k+1].toNat])->rZ w s R (Z Y ((k:Int)+1+1)) W):=aJ (fun W p=>⟨k+2,f,IW++[92,s[k+1].toNat],by congr 1,by rw[m_] at p;exact p,a,by simp;omega,by omega⟩)
    clear a l c g d j b y hy;go_wp2_with fail;refine n.mono ?_;rintro e w2 ⟨rfl,hd⟩;have m:=aJ hd;clear hd n;go_wp2_with fail;refine(F _ m).mono ?_;rintro e _ ⟨rfl,hd⟩;have z:=aJ hd;clear hd F m;go_wp2;go_roundw
    case rel=>exact q _ z
    simp[intOf];omega
   rw[gf (by rw[af];omega)] at a
   cases a
  rw[ng_ d] at a;have B:((s[k].toNat:Int)==92)=O:=by rw[beq_eq_false_iff_ne];omega
  have n:=aJ (lV l s[k].toNat u (by omega))
  have q:Hid (∀W,Bd w W w.heap.size (IW++[s[k].toNat])->rZ w s R (Z Y ((k:Int)+1)) W):=aJ (fun W p=>⟨k+1,f,IW++[s[k].toNat],by congr 1,p,a,by rw[bF,bG];omega,r⟩)
  clear a l c g d y;go_wp2_with fail;refine(n).mono ?_;rintro e w2 ⟨rfl,hd⟩;have m:=aJ hd;clear hd n;go_wp2;go_roundw
  case rel=>exact q _ m
  simp[intOf];omega
 rw[gf (by rw[af];omega)] at a
 cases a
def oG:List Nat->Option (Nat×Nat)
 |[]=>V
 |b::r=>if b=34\/b<32 then V else if b=92 then(Lx.Np r).map (fun p=>(p.1,p.2+1)) else X (b,1)
def Bh(w:Q4)(d n:Nat)(e:Q9)(w':Q4):Prop:=e=a_ (b_ #[Z c_ (d:Int),Z Y (n:Int)])/\ID w w'
theorem D9(s:ByteArray)(d n:Nat)(w:Q4)(h:oG (bs s)=X (d,n)):Q6 Rj 276 #[Q s] w (Bh w d n):=by
 have z:0<s.size:=by
  rcases jd s.size with e|e
  ·have:bs s=[]:=jb (by rw[af];exact e)
   rw[this] at h;cases h
  exact e
 have hs:bs s=s[0].toNat::(bs s).drop 1:=by rw[<-be s 0 z,<-dI (by rw[af];exact z)];rfl
 have S:((s.size:Int)==0)=O:=by rw[beq_eq_false_iff_ne];omega
 have L:s[0].toNat<256:=s[0].toNat_lt
 have a:oG (s[0].toNat::(bs s).drop 1)=X (d,n):=by rw[<-hs];exact h
 rw[oG] at a
 by_cases p:s[0].toNat=34\/s[0].toNat<32
 ·rw[ps_ p] at a;cases a
 rw[ng_ p] at a;have F:((s[0].toNat:Int)==34)=O:=by rw[beq_eq_false_iff_ne];omega
 have D:decide ((s[0].toNat:Int)<32)=O:=by rw[decide_eq_false_iff_not];omega
 clear p
 by_cases l:s[0].toNat=92
 ·rw[ps_ l] at a;have q:((s[0].toNat:Int) !=92)=O:=by rw[l];rfl
  rw[Option.map_eq_some_iff] at a;obtain⟨⟨_,_⟩,c,o⟩:=a;simp only[Prod.mk.injEq] at o;obtain⟨rfl,rfl⟩:=o;have m:1<s.size:=by
   rcases QK 1 s.size with e|e
   ·exact e
   have:(bs s).drop 1=[]:=gf (by rw[af];exact e)
   rw[this] at c;cases c
  have i:(bs s).drop 1=s[1].toNat::(bs s).drop 2:=by rw[<-be s 1 m,<-dI (by rw[af];exact m)]
  rw[i] at c;have j2:decide ((s.size:Int)<2)=O:=by rw[decide_eq_false_iff_not];omega
  have P:(1:Int)<(s.size:Int):=by omega
  have a:=i
  clear l;rcases pZ c with⟨h1,rfl,rfl⟩|⟨h1,rfl,rfl⟩|⟨h1,rfl,rfl⟩|⟨h1,rfl,rfl⟩|⟨h1,rfl,h2,x,y,hx,hy,rfl⟩
  ·have j:=aJ h1
   have b:((s[1].toNat:Int)==34)=G:=by rw[h1];rfl
   clear hs h h1 c a;go_enter func276,ntmps276;go_wp2;refine aP (v:=b_ #[Z c_ (s[1].toNat:Nat),Z Y 2]) (by simp[results,results276,go_sem]) rfl ?_
   exact⟨by rw[j.out];rfl,ID.refl _⟩
  ·have j:=aJ h1
   have b:((s[1].toNat:Int)==34)=O:=by rw[h1];rfl
   have g:((s[1].toNat:Int)==92)=G:=by rw[h1];rfl
   clear hs h h1 c a;go_enter func276,ntmps276;go_wp2;refine aP (v:=b_ #[Z c_ (s[1].toNat:Nat),Z Y 2]) (by simp[results,results276,go_sem]) rfl ?_
   exact⟨by rw[j.out];rfl,ID.refl _⟩
  ·have b:((s[1].toNat:Int)==34)=O:=by rw[h1];rfl
   have g:((s[1].toNat:Int)==92)=O:=by rw[h1];rfl
   have f:((s[1].toNat:Int)==110)=G:=by rw[h1];rfl
   clear hs h h1 c a;go_enter func276,ntmps276;go_wp2;refine aP (v:=b_ #[Z c_ 10,Z Y 2]) (by simp[results,results276,go_sem]) rfl ?_
   exact⟨rfl,ID.refl _⟩
  ·have b:((s[1].toNat:Int)==34)=O:=by rw[h1];rfl
   have g:((s[1].toNat:Int)==92)=O:=by rw[h1];rfl
   have f:((s[1].toNat:Int)==110)=O:=by rw[h1];rfl
   have k:((s[1].toNat:Int)==116)=G:=by rw[h1];rfl
   clear hs h h1 c a;go_enter func276,ntmps276;go_wp2;refine aP (v:=b_ #[Z c_ 9,Z Y 2]) (by simp[results,results276,go_sem]) rfl ?_
   exact⟨rfl,ID.refl _⟩
  have b:((s[1].toNat:Int)==34)=O:=by rw[h1];rfl
  have g:((s[1].toNat:Int)==92)=O:=by rw[h1];rfl
  have f:((s[1].toNat:Int)==110)=O:=by rw[h1];rfl
  have k:((s[1].toNat:Int)==116)=O:=by rw[h1];rfl
  have r:((s[1].toNat:Int)==120)=G:=by rw[h1];rfl
  rw[ja,af] at h2;have I:2<s.size:=by omega
  have J:3<s.size:=by omega
  have t:((bs s).drop 2).getD 0 0=s[2].toNat:=by rw[<-be s 2 I];simp[bD]
  have u:((bs s).drop 2).getD 1 0=s[3].toNat:=by rw[<-be s 3 J];simp[bD]
  rw[t] at hx;rw[u] at hy;have A:=hX hx;have B:=hX hy;have j:=aJ (fun W=>xR s[2].toNat x (IS _) hx W)
  have C:=aJ (fun W=>xR s[3].toNat y (IS _) hy W)
  have N:decide ((s.size:Int)<4)=O:=by rw[decide_eq_false_iff_not];omega
  have k2:(2:Int)<(s.size:Int):=by omega
  have k3:(3:Int)<(s.size:Int):=by omega
  have R:e_.wrap (16*(x:Int))=16*(x:Int):=fe _ (by omega)
  have w2:e_.wrap (16*(x:Int)+(y:Int))=16*(x:Int)+(y:Int):=fe _ (by omega)
  clear t u hx hy h2 i;clear hs h h1 c a;go_enter func276,ntmps276;go_wp2_with fail;refine(j _).mono ?_;rintro e w' ⟨rfl,rfl⟩;go_wp2_with fail;refine(C _).mono ?_;rintro e w' ⟨rfl,rfl⟩;go_wp2;refine aP (v:=b_ #[Z c_ (16*(x:Int)+(y:Int)),Z Y 4]) (by simp[results,results276,go_sem]) rfl ?_
  exact⟨by push_cast;rfl,ID.refl _⟩
 rw[ng_ l] at a;simp only[s_,Prod.mk.injEq] at a;obtain⟨rfl,rfl⟩:=a;have q:((s[0].toNat:Int) !=92)=G:=by simp[bne];omega
 clear hs h l;go_enter func276,ntmps276;go_wp2;refine aP (v:=b_ #[Z c_ (s[0].toNat:Nat),Z Y 1]) (by simp[results,results276,go_sem]) rfl ?_
 exact⟨rfl,ID.refl _⟩
section
variable {P : Ra} {w : Q4} {ops : Array Q_} {rest : List Q_} {o : Q_} {a : Act} {Q : Exit -> Act -> Q4 -> Prop}
theorem fy(base:Nat)(t s e:Q7)(i:TypeInfo)(z:Q5)(size bytes:Nat)(C:P.underlying t=X (.slice e))(B:P.info? e=X i)(hz:i.zero=X z)
  (l:i.size=size) (y:i.bytes=bytes) (R:z.cells.size=size) (hsz:0<size)
  (v:Q5) (n:Nat) (xs:List Q5) (hown:w.ownsRow base e size v n xs)
  (ad:Q8) (m c:Nat) (a:List Q5) (q:a.length=m*size) (d:∀j u,a[j]? =X u->w.cell? (ad.add j)=X u) (h1:∀u∈a,u.oneCell'=G)
  (x:n+m<=maxLen) (f:(n+m)*bytes<=140737488355328) (hm:0<m) (v':Q5) (w':Q4) (b:(t_ #[t,t] s #[v,U (X ad) m c]).run P w= .ok v' w'):
  v'.ownBlock=v.ownBlock\/v'.ownBlock=X w.heap.size:=by
 subst l;subst y;have r:n+m<=9223372036854775807:=by simp only[maxLen] at x;omega
 rcases hown.2 with⟨rfl,rfl⟩|⟨g,cap,cur,rfl,I,L,N,J,A,D⟩
 ·have p:=run_append_nil (P:=P) w t s e i z C B hz ad m c a q d hm (by omega) (by have F:=f;simp only[te] at F;omega)
  rw[p] at b;injection b with e1 e2
  subst e1;exact bY rfl
 by_cases h:n+m<=cap
 ·have o:n*i.size+a.length<=cur.size:=by rw[q,A,<-Nat.add_mul];exact La _ h
  have p:=run_append_room (P:=P) w t s e i C B g n cap cur L ad m c a q d h1 h o
  rw[p] at b;injection b with e1 e2
  subst e1;exact bX rfl
 have k:∀j u,xs[j]? =X u->w.cell? ((⟨g,0,V⟩:Q8).add j)=X u:=hown.cells (g:=g) rfl
 have p:=run_append_grow (P:=P) w t s e i z C B hz ⟨g,0,V⟩ n cap xs hown.1 k ad m c a q d (by omega) (by omega) (growslice_fits (by omega) f)
 rw[p] at b;injection b with e1 e2
 subst e1;exact bY rfl
def nM(w:Q4)(v v':Q5):Prop:=v'.ownBlock=v.ownBlock\/∃k,v'.ownBlock=X k/\w.heap.size<=k
theorem gh(q:o.guard=V)(s x:Rc)(t:Q7)
  (N:o.op= .call {callee:= .builtin .append,args:=#[s,x],argTypes:=#[t,t]})
  (base:Nat) (e:Q7) (z:Q5) (size bytes:Nat) (B:P.underlying t=X (.slice e))
  (J:(P.info? e).map (fun i=>(i.zero,i.size,i.bytes))=X (X z,size,bytes)) (j:z.cells.size=size) (hsz:0<size) (p:bytes<=1024)
  (v:Q5) (n:Nat) (xs:List Q5) (hs:a.eval s=v) (hown:IL wr base e size v n xs)
  (m c:Nat) (b:List Q5) (hx:a.eval x=U (X ⟨wr.heap.size,0,V⟩) m c) (R:w=wr.alloc (H b.toArray e)) (y:b.length=m*size) (h1:b.all k_=G)
  (L:n+m<=68719476736) (l:base<=wr.heap.size) (hm:0<m)
  (h:∀v' w',IL w' base e size v' (n+m) (xs++b)->wr.grownBy w' v.ownBlock->nM wr v v'->wpList P ops Q rest (a.put o.dst v') w'):wpList P ops Q (o::rest) a w:=by
 subst R;obtain⟨i,g,hz,d,f⟩:=Rb J;have F:(n+m)*bytes<=68719476736*1024:=n_ L p;refine wpList_plain q fun K D=>?_
 obtain⟨v',w',A,h2,C,_⟩:=run_append_own (P:=P) (wr.alloc (H b.toArray e)) base t o.type e i z size bytes B g hz d f j hsz v n xs (IL.alloc hown _) ⟨wr.heap.size,0,V⟩ m c b y (gz wr b e) (by simpa using h1)
  (by unfold maxLen;omega) (by omega) (by simp;omega)
 have u:=fy (P:=P) (w:=wr.alloc (H b.toArray e)) base t o.type e i z size bytes B g hz d f j hsz v n xs (IL.alloc hown _) ⟨wr.heap.size,0,V⟩ m c b y (gz wr b e) (by simpa using h1)
  (by unfold maxLen;omega) (by omega) hm v' w' A
 have r:nM wr v v':=by
  rcases u with k|k
  ·exact bX k
  exact bY ⟨_,k,by simp⟩
 have I:wr.grownBy w' v.ownBlock:=Av (World.grownBy_alloc wr _ _) C
 unfold l_ execOp;simp only[N,resolve,invoke,builtin,xi,xj,xr,x4,o0,x6,hs,hx,A];exact D _ _ (h v' w' h2 I r)
end
section
variable {P : Ra} {ops : Array Q_} {o : Q_} {a : Act} {K : Act -> Q4 -> Prop} {Q : Exit -> Act -> Q4 -> Prop} {E : Prop}
theorem ea(w:Q4)(p:o.guard=V)(s x:Rc)(t:Q7)
  (J:o.op= .call {callee:= .builtin .append,args:=#[s,x],argTypes:=#[t,t]})
  (base:Nat) (e:Q7) (z:Q5) (size bytes:Nat) (L:P.underlying t=X (.slice e))
  (D:(P.info? e).map (fun i=>(i.zero,i.size,i.bytes))=X (X z,size,bytes)) (A:z.cells.size=size) (hsz:0<size) (l:bytes<=1024)
  (v:Q5) (n:Nat) (xs:List Q5) (hs:a.eval s=v) (hown:IL w base e size v n xs)
  (b off m c:Nat) (d:List Q5) (hx:a.eval x=U (X ⟨b,off,V⟩) m c) (r:Rs w (X ⟨b,off,V⟩) d) (F:d.length=m*size) (h1:d.all k_=G)
  (I:n+m<=68719476736) (f:base<=w.heap.size)
  (h:∀v' w',IL w' base e size v' (n+m) (xs++d)->w.grownBy w' v.ownBlock->(v'.ownBlock=v.ownBlock\/∃j,v'.ownBlock=X j/\w.heap.size<=j)->K (a.put o.dst v') w'):
  if hE o (yielded ops a.tmps)=G then l_ P o a w K Q else E:=by
 have N:hE o (yielded ops a.tmps)=G:=by simp[hE,p]
 rw[ps_ N];obtain⟨i,q,hz,g,k⟩:=Rb D;have C:(n+m)*bytes<=68719476736*1024:=n_ I l;obtain⟨v',w',r,h2,B,_,_⟩:=Ri (P:=P) w base t o.type e i z size bytes L q hz g k A hsz v n xs hown ⟨b,off,V⟩ m c d F (fun j u y=>by rw[nv];exact r.cellAt y) (fun u y=>QA.1 h1 u y)
  (by unfold maxLen;omega) (by omega) f
 unfold l_;simp only[execOp,J,resolve,invoke,builtin,xi,xj,xr,x4,o0,x6,hs,hx,r];refine h v' w' h2 B ?_
 grind
theorem eY(w:Q4)(l:o.guard=V)(s x:Rc)(t:Q7)
  (L:o.op= .call {callee:= .builtin .append,args:=#[s,x],argTypes:=#[t,t]})
  (base:Nat) (e:Q7) (z:Q5) (size bytes:Nat) (N:P.underlying t=X (.slice e))
  (J:(P.info? e).map (fun i=>(i.zero,i.size,i.bytes))=X (X z,size,bytes)) (C:z.cells.size=size) (hsz:0<size) (y:bytes<=1024)
  (v:Q5) (n:Nat) (xs:List Q5) (hs:a.eval s=v) (hown:IL w base e size v n xs)
  (A:Option Q8) (m c:Nat) (d:List Q5) (hx:a.eval x=U A m c) (I:Rs w A d) (F:d.length=m*size) (h1:d.all k_=G)
  (W:n+m<=68719476736) (f:base<=w.heap.size)
  (h:∀v' w',IL w' base e size v' (n+m) (xs++d)->w.grownBy w' v.ownBlock->(v'.ownBlock=v.ownBlock\/∃j,v'.ownBlock=X j/\w.heap.size<=j)->K (a.put o.dst v') w'):
  if hE o (yielded ops a.tmps)=G then l_ P o a w K Q else E:=by
 cases A with
 |some ad=>
  obtain⟨b,off,p⟩:=ad;rcases I with rfl|⟨b',aa,T,hc⟩
  ·obtain rfl:m=0:=by
    rcases jd m with k|k
    ·exact k
    have:=A_ k hsz;simp at F;omega
   obtain⟨i,q,hz,g,r⟩:=Rb J;have ab:(n+0)*bytes<=68719476736*1024:=n_ W y;have S:hE o (yielded ops a.tmps)=G:=by simp[hE,l]
   rw[ps_ S];obtain⟨v',w',I,h2,h3,_,D⟩:=Ri (P:=P) w base t o.type e i z size bytes N q hz g r C hsz v n xs hown ⟨b,off,p⟩ 0 c [] F (fun j u R=>by simp at R) (fun u R=>by simp at R)
    (by unfold maxLen;omega) (by omega) f
   unfold l_;simp only[execOp,L,resolve,invoke,builtin,xi,xj,xr,x4,o0,x6,hs,hx,I];refine h v' w' h2 h3 ?_;rcases D with D|D
   ·exact bX D
   grind
  simp only[s_,Addr.mk.injEq] at T;obtain⟨rfl,rfl,rfl⟩:=T;exact ea w l s x t L base e z size bytes N J C hsz y v n xs hs hown b off m c d hx (bY ⟨b,off,rfl,hc⟩) F h1 W f h
 |none=>
  obtain rfl:=I.LD;obtain rfl:m=0:=by
   rcases jd m with k|k
   ·exact k
   have:=A_ k hsz;simp at F;omega
  obtain⟨i,q,hz,g,r⟩:=Rb J;have S:hE o (yielded ops a.tmps)=G:=by simp[hE,l]
  rw[ps_ S];have B:=dP (P:=P) (w:=w) base t o.type e i size N q v n xs hown c;unfold l_;simp only[execOp,L,resolve,invoke,builtin,xi,xj,xr,x4,o0,x6,hs,hx,B];exact h v w (by simpa using hown) (u0 _ _) (bX rfl)
end
theorem dD:(Rj.info? 5).map (fun i=>(i.zero,i.size,i.bytes))=X (X (Z c_ 0),1,1):=by kernel_rfl
theorem we{f c:Nat}{IW:List Nat}{R:List Nat×Nat}(hc:c<256)(h:Lx.Kt (f+1) (c::r) i IW=X R)(g:c≠34):∃d n,oG (c::r)=X (d,n)/\Lx.Kt f ((c::r).drop n) (i+n) (IW++[d])=X R/\d<256/\1<=n/\n<=4:=by
 rw[Lx.Kt,ng_ g] at h
 by_cases b:c<32
 ·rw[ps_ b] at h;cases h
 rw[ng_ b] at h
 by_cases a:c=92
 ·rw[ps_ a] at h;cases e:Lx.Np r with
  |none=>rw[e] at h;cases h
  |some dn=>
   obtain⟨d,n⟩:=dn;rw[e] at h;simp only at h;obtain⟨h1,h2,_⟩:=Af e;refine⟨d,n+1,?_,?_,h1,by omega,by omega⟩
   ·rw[oG,ng_ (by omega),ps_ a,e];rfl
   grind
 rw[ng_ a] at h;exact⟨c,1,by rw[oG,ng_ (by omega),ng_ a],h,hc,bM _,by omega⟩
def AQ(w:Q4)(R:List Nat×Nat)(e:Q9)(w':Q4):Prop:=e=a_ (b_ #[Q (ab R.1),Z Y ((R.2:Int)-1)])/\ID w w'
def AP(w:Q4)(s:ByteArray)(R:List Nat×Nat)(v4 v5:Q5)(wr:Q4):Prop:=
 ∃(k f:Nat) (IW:List Nat),v5=Z Y (k:Int)/\Hid (IL wr w.heap.size 5 1 v4 IW.length (Jp IW))/\Hid (ID w wr)/\Hid (∀b∈IW,b<256)/\Lx.Kt f ((bs s).drop k) (k+1) IW=X R/\IW.length<=k/\k<=s.size+4
theorem jf{base:Nat}{c:Nat}{IW:List Nat}(h:IL w base 5 1 (U A IW.length c) IW.length (Jp IW))(f:∀b∈IW,b<256):
  (convert 40 9 (U A IW.length c)).run Rj w= .ok (Q (ab IW)) w:=by
 obtain⟨A',c',hv,d,_,_⟩:=h.shape;injection hv with e1 e2 e3
 subst e1;have a:=d.rs;rw[lE IW f] at a;have:=ug (P:=Rj) w (src:=40) (dst:=9) (e:=5) A c (IW.map oR) underlying40 underlying5 underlying9 a;rw[bL] at this;exact this
theorem D8(s:ByteArray)(R:List Nat×Nat)(f:Nat)(w:Q4)(hs:s.size<=100000)(h:Lx.Kt f (bs s) 1 []=X R):
  Q6 Rj 246 #[Q s] w (AQ w R):=by
 have L:Hid (AP w s R (U V 0 0) (Z Y 0) w):=aJ ⟨0,f,[],rfl,aJ (IL.Jk _ _ _ _),aJ (ID.refl w),aJ (fun b I=>by simp at I),h,bM _,by omega⟩
 clear h;go_enter func246,ntmps246;go_wp2;go_loopw [4,5] (fun v4 v5 wr=>AP w s R v4 v5 wr) (fun _ v5 _=>s.size+5-(intOf v5).toNat)
 case atStart=>exact L
 clear L;obtain⟨k,f,IW,rfl,q,C,x,i,_,hk⟩:=hrel;cases f with
 |zero=>cases i
 |succ f=>
 by_cases u:k<s.size
 ·have i0:(0:Int)<=(k:Int):=by omega
  have i1:(k:Int)<(s.size:Int):=by omega
  have i2:(k:Int)<=(s.size:Int):=by omega
  have wk:d_.wrap ((k:Int)+1)=(k:Int)+1:=bV _ (by omega)
  have r:s[k].toNat<256:=s[k].toNat_lt
  have c:=dI (l:=bs s) (a:=k) (by rw[af];exact u)
  rw[be s k u] at c;obtain⟨_,c4,rfl,_,_,_⟩:=q.shape
  by_cases g:s[k].toNat=34
  ·rw[c,Lx.Kt,ps_ g] at i;injection i with i
   have D:((s[k].toNat:Int) !=34)=O:=by rw[g];rfl
   have aa:=jf q x
   have y:Hid (∀w',ID w w'->AQ w R (a_ (b_ #[Q (ab IW),Z Y ((k:Int)+1)])) w'):=aJ (fun w' z=>by rw[<-i];exact⟨by simp,z⟩)
   clear i g c q x;go_wp2;refine aP (v:=b_ #[Q (ab IW),Z Y ((k:Int)+1)]) (by simp[results,results246,go_sem]) rfl (y _ C)
  rw[c] at i;obtain⟨d,n,A,j,hd,_,_⟩:=we r i g;rw[<-c] at A j;rw[w_] at j;have D:((s[k].toNat:Int) !=34)=G:=by simp[bne];omega
  have t:bs (s.extract k s.size)=(bs s).drop k:=by
   rw[eV,k9];rw[ja,af];omega
  rw[<-t] at A;have N:=aJ (fun W=>D9 (s.extract k s.size) d n W A)
  have n0:((n:Int)==0)=O:=by rw[beq_eq_false_iff_ne];omega
  have ac:d_.wrap ((k:Int)+(n:Int))=(k:Int)+(n:Int):=bV _ (by omega)
  have y:Hid (∀v W,IL W w.heap.size 5 1 v (IW.length+1) (Jp IW++[Z c_ (d:Int)])->ID w W->AP w s R v (Z Y ((k:Int)+(n:Int))) W):=aJ (fun v W h1 h2=>⟨k+n,f,IW++[d],by push_cast;rfl,aJ (by rw[bF,bG,i6];exact h1),aJ h2,aJ (fun b I=>by
   rcases wN.mp I with F|F
   ·exact x b F
   rw[r_.mp F];exact hd),by rw[show k+n+1=k+1+n by omega];exact j,by rw[bF,bG];omega,by omega⟩)
  have T:IW.length<=200000:=by omega
  clear i j A t c g x;go_wp2_with fail;refine(N _).mono ?_;rintro e w2 ⟨rfl,p⟩;have o:=aJ (q.up p);have m:=aJ (C.up p);have B:Hid (w.heap.size<=w2.heap.size):=aJ m.size;clear p N q C;go_wp2_with (at_builtin;refine aw (wr:=w2) rfl _ _ 40 rfl _ 5 (Z c_ 0) 1 1 underlying40 dD rfl (by decide) (by decide) _ _ _ rfl o 1 1 [Z c_ (d:Int)] rfl rfl rfl rfl ?pn1 B ?_)
  case pn1=>omega
  intro v' w3 z P J;have S:=aJ (y v' w3 z (IL.IU m o (bM _) P));clear z P J y o m;go_wp2;go_roundw
  case rel=>exact S
  simp[intOf];omega
 have:(bs s).drop k=[]:=gf (by rw[af];omega)
 rw[this] at i;cases i
namespace Pt
def LA:Bool->List Nat->Option Bool
 |s,[]=>X s
 |true,b::r=>if b=10 then LA O r else LA G r
 |false,b::r=>if b=10\/b=32\/b=9\/b=13 then LA O r else if b=35 then LA G r else V
theorem vf:∀(x:List Nat) (y:List Nat) (s s':Bool),LA s x=X s'->LA s (x++y)=LA s' y:=by
 intro x
 induction x with
 |nil=>intro y s s' h;cases s<;>(cases h;rfl)
 |cons b x ih=>
  intro y s s' h;cases s with
  |true=>
   rw[h_];rw[LA] at h ⊢;split at h
   ·next e=>rw[ps_ e];exact ih _ _ _ h
   next e=>rw[ng_ e];exact ih _ _ _ h
  |false=>
   rw[h_];rw[LA] at h ⊢;split at h
   ·next e=>rw[ps_ e];exact ih _ _ _ h
   next e=>
   rw[ng_ e];split at h
   ·next e2=>rw[ps_ e2];exact ih _ _ _ h
   cases h
theorem LQ:∀(b:List Nat) (s s':Bool) (r:List Nat) (a l c:Nat),LA s b=X s'->∃a' l' c',Lx.skip s (b++r) a l c=Lx.skip s' r a' l' c':=by
 intro b
 induction b with
 |nil=>intro s s' r a l c h;cases s<;>(cases h;exact⟨a,l,c,rfl⟩)
 |cons x b ih=>
  intro s s' r a l c h;cases s with
  |true=>
   rw[h_];rw[LA] at h;rw[Lx.skip];split at h
   ·next e=>rw[ps_ e];exact ih _ _ _ _ _ _ h
   next e=>rw[ng_ e];exact ih _ _ _ _ _ _ h
  |false=>
   rw[h_];rw[LA] at h;rw[Lx.skip];split at h
   ·next e=>
    by_cases d:x=10
    ·rw[ps_ d];exact ih _ _ _ _ _ _ h
    rw[ng_ d,ps_ (by omega)];exact ih _ _ _ _ _ _ h
   next e=>
   rw[ng_ (by omega),ng_ (by omega)]
   split at h
   ·next d=>rw[ps_ d];exact ih _ _ _ _ _ _ h
   cases h
def On(c:Nat):Prop:=c≠10/\c≠32/\c≠9/\c≠13/\c≠35
instance(c:Nat):Decidable (On c):=by unfold On;infer_instance
theorem MS{c:Nat}(h:On c)(r:List Nat)(a l k:Nat):Lx.skip O (c::r) a l k=(c::r,a,l,k):=by
 obtain⟨h1,h2,_,_,b⟩:=h;unfold Lx.skip;rw[ng_ h1,ng_ (by omega),ng_ b]
def LC(r:List Nat):Prop:=∀d,r.head?=X d->Lx.word d=O
structure Ke(k:Nat)(x y:List Nat):Prop where
 PZ:∃c r,x=c::r/\On c
 tok:∀rest,(k<=2->LC rest)->Lx.tok (x++rest)=some (k,y,x.length)
structure P where
 b:List Nat
 x:List Nat
 k:Nat
 y:List Nat
def flat(ps:List P):List Nat:=ps.flatMap fun p=>p.b++p.x
def Jo:List P->List Nat->Prop
 |[],e=>LA O e=X O
 |p::ps,e=>LA O p.b=X O/\Ke p.k p.x p.y/\(p.k<=2->LC (flat ps++e))/\Jo ps e
def Ji(t:IY):Nat×List Nat:=(t.IF,t.text)
def Jq(ps:List P):List (Nat×List Nat):=ps.map fun p=>(p.k,p.y)
theorem qT:∀(ps:List P) (e:List Nat) (f a l c:Nat) (IW:List IY),Jo ps e->IW.length+ps.length<=2000->ps.length<f->∃L,Lx.scan f (flat ps++e) a l c IW=X (IW++L)/\L.map Ji=Jq ps++[(6,[])]:=by
 intro ps
 induction ps with
 |nil=>
  intro e f a l c IW h q j;obtain⟨f,rfl⟩:∃g,f=g+1:=⟨f-1,by simp at j;omega⟩
  obtain⟨a',l',c',hs⟩:=LQ e O O [] a l c h;rw[QL] at hs;have m:flat []++e=e:=by simp[flat]
  refine⟨[⟨6,[],l',c'⟩],?_,rfl⟩;rw[m,Lx.scan,hs];simp[Lx.skip]
 |cons p ps ih=>
  intro e f a l c IW h q j;obtain⟨s,r,t,hc⟩:=h;obtain⟨f,rfl⟩:∃g,f=g+1:=⟨f-1,by simp at j;omega⟩
  obtain⟨_,_,hx,i⟩:=r.PZ;obtain⟨a',l',c',hs⟩:=LQ p.b O O (p.x++(flat ps++e)) a l c s;have m:flat (p::ps)++e=p.b++(p.x++(flat ps++e)):=by simp[flat]
  have o:=r.tok (flat ps++e) t
  have n:Lx.skip O (p.x++(flat ps++e)) a' l' c'=(p.x++(flat ps++e),a',l',c'):=by rw[hx,h_];exact MS i _ _ _ _
  simp only[fb] at q j;obtain⟨L,h1,h2⟩:=ih e f (a'+p.x.length) l' (c'+p.x.length) (IW++[⟨p.k,p.y,l',c'⟩]) hc (by rw[bF,bG];omega) (by omega)
  refine⟨⟨p.k,p.y,l',c'⟩::L,?_,?_⟩
  ·rw[m,Lx.scan,hs,n];have d:(p.x++(flat ps++e)).drop p.x.length=flat ps++e:=List.drop_left;generalize hy:p.x++(flat ps++e)=y at *;cases y with
   |nil=>rw[hx] at hy;simp at hy
   |cons u w=>
    simp only[o];rw[ng_ (by omega),d,h1]
    simp
  rw[o0,h2];rfl
theorem eE:∀{ps:List P} {e:List Nat},Jo ps e->ps.length<=(flat ps).length:=by
 intro ps
 induction ps with
 |nil=>intro e _;exact bO _
 |cons p ps ih=>
  intro e h;obtain⟨_,c,_,hc⟩:=h;obtain⟨_,_,hx,_⟩:=c.PZ;have:=ih hc;have a:flat (p::ps)=p.b++p.x++flat ps:=by simp[flat]
  rw[a];simp only[bF,fb,hx];omega
theorem tG{ps:List P}{e:List Nat}(h:Jo ps e)(b:ps.length<=2000)(c:(flat ps++e).length<=8192):∃L,Lx.all (flat ps++e)=X L/\L.map Ji=Jq ps++[(6,[])]:=by
 have h1:=eE h
 obtain⟨L,h2,a⟩:=qT ps e ((flat ps++e).length+1) 0 1 1 [] h (by simpa using b) (by rw[bF];omega)
 refine⟨L,?_,a⟩;unfold Lx.all;rw[ng_ (by omega),h2,List.nil_append]
theorem i8{p:Nat->Bool}:∀(x r:List Nat),(∀c∈x,p c=G)->(∀d,r.head?=X d->p d=O)->(x++r).takeWhile p=x:=by
 intro x
 induction x with
 |nil=>
  intro r _ h;cases r with
  |nil=>rfl
  |cons d r=>simp[h d rfl]
 |cons c x ih=>
  intro r hx h;rw[h_,QI,ps_ (hx c (by simp)),ih r (fun d hd=>hx d (by simp[hd])) h]
theorem xV{d:Nat}(h:Lx.word d=O):Lx.I1 d=O:=by grind [Lx.word,Lx.I1]
theorem sT{c:Nat}(h:Lx.I9 c=G):On c:=by grind [Lx.I9,On]
theorem Df{c:Nat}(h:Lx.I1 c=G):On c/\Lx.I9 c=O:=by grind [Lx.I1,On,Lx.I9]
theorem dS{c:Nat}(hc:Lx.I9 c=G)(b:∀d∈r,Lx.word d=G):Ke 1 (c::r) (c::r):=by
 refine⟨⟨c,r,rfl,sT hc⟩,fun rest a=>?_⟩
 have e:(c::r++rest).takeWhile Lx.word=c::r:=i8 _ _ (fun d hd=>by
  rcases jx.mp hd with rfl|hd
  ·unfold Lx.word;rw[hc];rfl
  exact b d hd) (a (by decide))
 rw[h_] at e ⊢;rw[Lx.tok];rw[ps_ hc,e]
theorem BX{c:Nat}(hc:Lx.I1 c=G)(i:∀d∈r,Lx.I1 d=G)(j:r.length<18)(b:c=48->r=[]):Ke 2 (c::r) (c::r):=by
 obtain⟨f,a⟩:=Df hc;refine⟨⟨c,r,rfl,f⟩,fun rest g=>?_⟩
 have e:(c::r++rest).takeWhile Lx.I1=c::r:=i8 _ _ (fun d hd=>by
  rcases jx.mp hd with rfl|hd
  ·exact hc
  exact i d hd) (fun d hd=>xV (g (by decide) d hd))
 rw[h_] at e ⊢;rw[Lx.tok];rw[a,hc,e];simp only[G_,if_false,if_true,fb];rw[ng_];rintro(h|⟨h1,h2⟩)
 ·omega
 rw[b h1] at h2;simp at h2
theorem kH{c:Nat}(h:c=123\/c=125\/c=44\/c=61):Ke 5 [c] [c]:=by
 refine⟨⟨c,[],rfl,by unfold On;omega⟩,fun rest _=>?_⟩
 rcases h with rfl|rfl|rfl|rfl<;>rfl
def K6(n:Nat):Nat:=if n<10 then 48+n else 87+n
def q1(b:Nat):List Nat:=if b=34\/b=92 then [92,b] else if b=10 then [92,110] else if b=9 then [92,116] else if b<32\/b=127 then [92,120,K6 (b/16),K6 (b%16)] else [b]
def Jv(s:List Nat):List Nat:=s.flatMap q1
def quote(s:List Nat):List Nat:=34::(Jv s++[34])
theorem o9:∀n,n<16->Lx.K5 (K6 n)=X n:=by decide
theorem wg:∀(s:List Nat) (f i:Nat) (IW rest:List Nat),(∀b∈s,b<256)->s.length<f->Lx.Kt f (Jv s++34::rest) i IW=X (IW++s,i+(Jv s).length+1):=by
 intro s
 induction s with
 |nil=>
  intro f i IW rest _ d;obtain⟨f,rfl⟩:∃g,f=g+1:=⟨f-1,by simp at d;omega⟩
  simp[Jv,Lx.Kt]
 |cons b s ih=>
  intro f i IW rest h d;obtain⟨f,rfl⟩:∃g,f=g+1:=⟨f-1,by simp at d;omega⟩
  have j:=h b (by simp)
  have hs:∀c∈s,c<256:=fun c hc=>h c (by simp[hc])
  simp only[fb] at d;have e:Jv (b::s)=q1 b++Jv s:=by simp[Jv]
  rw[e,m_];unfold q1;split
  ·next h1=>
   have a:Lx.Np (b::(Jv s++34::rest))=X (b,1):=by
    show(if b=34\/b=92 then X (b,1) else _)=X (b,1)
    rw[ps_ h1]
   rw[show [92,b]++(Jv s++34::rest)=92::(b::(Jv s++34::rest)) from rfl,Lx.Kt,ng_ (by decide),ng_ (by decide),ps_ rfl,a]
   simp only[se,p_];rw[ih f _ _ rest hs (by omega)]
   simp;omega
  next h1=>
  split
  ·next h2=>
   subst h2;have a:Lx.Np (110::(Jv s++34::rest))=X (10,1):=rfl;rw[show [92,110]++(Jv s++34::rest)=92::(110::(Jv s++34::rest)) from rfl,Lx.Kt,ng_ (by decide),ng_ (by decide),ps_ rfl,a]
   simp only[se,p_];rw[ih f _ _ rest hs (by omega)]
   simp;omega
  next h2=>
  split
  ·next h3=>
   subst h3;have a:Lx.Np (116::(Jv s++34::rest))=X (9,1):=rfl;rw[show [92,116]++(Jv s++34::rest)=92::(116::(Jv s++34::rest)) from rfl,Lx.Kt,ng_ (by decide),ng_ (by decide),ps_ rfl,a]
   simp only[se,p_];rw[ih f _ _ rest hs (by omega)]
   simp;omega
  next h3=>
  split
  ·next h4=>
   have a:Lx.Np (120::K6 (b/16)::K6 (b%16)::(Jv s++34::rest))=X (b,3):=by
    rw[Lx.Np,ng_ (by decide),ng_ (by decide),ng_ (by decide),ps_ rfl]
    simp only[o9 _ (show b/16<16 by omega),o9 _ (show b%16<16 by omega)]
    rw[show 16*(b/16)+b%16=b by omega]
   rw[show [92,120,K6 (b/16),K6 (b%16)]++(Jv s++34::rest)=92::(120::K6 (b/16)::K6 (b%16)::(Jv s++34::rest)) from rfl,Lx.Kt,ng_ (by decide),ng_ (by decide),ps_ rfl,a]
   simp only[se,p_];rw[ih f _ _ rest hs (by omega)]
   simp;omega
  next h4=>
  rw[show [b]++(Jv s++34::rest)=b::(Jv s++34::rest) from rfl,Lx.Kt,ng_ (by omega),ng_ (by omega),ng_ (by omega)]
  rw[ih f _ _ rest hs (by omega)]
  simp;omega
theorem wh(s:List Nat):s.length<=(Jv s).length:=by
 induction s<;>grind [Jv,q1]
theorem mQ{s:List Nat}(a:∀b∈s,b<256):Ke 3 (quote s) s:=by
 refine⟨⟨34,Jv s++[34],rfl,by decide⟩,fun rest _=>?_⟩
 have e:quote s++rest=34::(Jv s++34::rest):=by simp[quote]
 have c:=wh s
 rw[e,Lx.tok,ng_ (by decide),ng_ (by decide),ps_ rfl,wg s _ 1 [] rest a (by simp;omega)]
 simp[quote];omega
def OD(s:List Nat):Prop:=∀b∈s,b≠47/\b≠92/\32<=b
theorem wy:∀(s:List Nat) (f i:Nat) (IW rest:List Nat),OD s->s.length<f->Lx.Le f (s++47::rest) i IW=X (IW++s,i+s.length+1):=by
 intro s
 induction s with
 |nil=>
  intro f i IW rest _ a;obtain⟨f,rfl⟩:∃g,f=g+1:=⟨f-1,by simp at a;omega⟩
  simp[Lx.Le]
 |cons b s ih=>
  intro f i IW rest e a;obtain⟨f,rfl⟩:∃g,f=g+1:=⟨f-1,by simp at a;omega⟩
  obtain⟨h1,h2,_⟩:=e b (by simp)
  simp only[fb] at a;rw[show Lx.Le (f+1) (b::s++47::rest) i IW=(if b=47 then X (IW,i+1) else if b<32 then V else if b=92 then(match s++47::rest with|[]=>V|d::h=>if d<32 then V else Lx.Le f h (i+2) (IW++(if d=47 then [47] else [92,d]))) else Lx.Le f (s++47::rest) (i+1) (IW++[b])) from rfl,ng_ h1,ng_ (by omega),ng_ h2,ih f _ _ rest (fun c hc=>e c (by simp[hc])) (by omega)]
  simp;omega
def KY(s:List Nat):List Nat:=47::(s++[47])
theorem LZ{s:List Nat}(a:OD s):Ke 4 (KY s) s:=by
 refine⟨⟨47,s++[47],rfl,by decide⟩,fun rest _=>?_⟩
 have e:KY s++rest=47::(s++47::rest):=by simp[KY]
 rw[e,Lx.tok,ng_ (by decide),ng_ (by decide),ng_ (by decide),ps_ rfl,wy s _ 1 [] rest a (by simp;omega)]
 simp[KY];omega
def NV:List Nat:=[9,35,32,99,10,32]
theorem Di:LA O NV=X O:=by decide
end Pt
def FK(w:Q4)(s:ByteArray)(e:Q9)(w':Q4):Prop:=e=a_ (Q (ab (Pt.quote (bs s))))/\ID w w'
def Bg(w:Q4)(s:ByteArray)(v4 v5:Q5)(wr:Q4):Prop:=
 ∃(k:Nat) (L:List Nat),v5=Z Y (k:Int)/\Hid (IL wr w.heap.size 5 1 v4 L.length (Jp L))/\Hid (ID w wr)/\Hid (L=34::Pt.Jv ((bs s).take k))/\k<=s.size/\L.length<=1+4*k
theorem sC(l:List Nat)(b:Nat):Pt.Jv (l++[b])=Pt.Jv l++Pt.q1 b:=by simp[Pt.Jv]
theorem Cr(b:Nat):(Pt.q1 b).length<=4:=by grind [Pt.q1]
theorem Hn(L a:List Nat):Jp (L++a)=Jp L++Jp a:=by simp[Jp]
theorem uO{n:Nat}(h:n<16):Pt.K6 n<256:=by grind [Pt.K6]
theorem yE{l:List Nat}(h:∀b∈l,b<256):∀b∈Pt.quote l,b<256:=by
 intro c hc;unfold Pt.quote Pt.Jv at hc;simp only[jx,wN,List.mem_flatMap,x_,or_false] at hc;rcases hc with rfl|⟨b,a,hc⟩|rfl
 ·decide
 ·have h2:=h b a
  have:=uO (n:=b/16) (by omega)
  have:=uO (n:=b%16) (by omega)
  unfold Pt.q1 at hc
  (repeat' split at hc)<;>simp at hc<;>omega
 decide
theorem uQ(n:Nat)(h:n<16)(h2:n<(⟨#[48,49,50,51,52,53,54,55,56,57,97,98,99,100,101,102]⟩:ByteArray).size):((⟨#[48,49,50,51,52,53,54,55,56,57,97,98,99,100,101,102]⟩:ByteArray)[n]).toNat=Pt.K6 n:=by
 have:∀n:Fin 16,((⟨#[48,49,50,51,52,53,54,55,56,57,97,98,99,100,101,102]⟩:ByteArray)[n.val]'(n.isLt)).toNat=Pt.K6 n.val:=by decide
 exact this ⟨n,h⟩
theorem BE(s:ByteArray)(w:Q4)(hs:s.size<=100000):Q6 Rj 192 #[Q s] w (FK w s):=by
 have HI:Hid (∀v wr,IL wr w.heap.size 5 1 v 1 (Jp [34])->ID w wr->Bg w s v (Z Y 0) wr):=aJ (fun v wr h1 h2=>⟨0,[34],rfl,aJ h1,aJ h2,aJ rfl,bO _,by simp⟩)
 go_enter func192,ntmps192
 go_wp2
 have HJ:=aJ (HI _ _ (jJ w #[Z c_ 34] 1 1 5 (by decide) rfl) ((ID.refl w).alloc _))
 clear HI;go_loopw [4,5,6] (fun v4 v5 _ wr=>Bg w s v4 v5 wr) (fun _ v5 _ _=>s.size-(intOf v5).toNat)
 case atStart=>exact HJ
 clear HJ;obtain⟨k,L,rfl,d,j,C,hk,_⟩:=hrel;obtain⟨A4,c4,rfl,_,_,_⟩:=d.shape
 by_cases q:k<s.size
 ·have i0:(0:Int)<=(k:Int):=by omega
  have i1:(k:Int)<(s.size:Int):=by omega
  have wk:d_.wrap ((k:Int)+1)=(k:Int)+1:=bV _ (by omega)
  have hb:s[k].toNat<256:=s[k].toNat_lt
  have r:Hid (w.heap.size<=wr.heap.size):=aJ j.size
  have i:Hid (∀v W cs,cs=Jp (Pt.q1 s[k].toNat)->IL W w.heap.size 5 1 v (L.length+cs.length) (Jp L++cs)->ID w W->Bg w s v (Z Y ((k:Int)+1)) W):=aJ (fun v W cs m h1 h2=>by
   subst m;refine⟨k+1,L++Pt.q1 s[k].toNat,rfl,aJ ?_,aJ h2,aJ ?_,q,?_⟩
   ·rw[bF,Hn];rw[cY] at h1;exact h1
   ·have hd:(bs s).take (k+1)=(bs s).take k++[s[k].toNat]:=by
     rw[QM (by rw[af];exact q),<-be s k q,bD,bE (by rw[af];exact q)];rfl
    rw[hd,sC,C.out];rfl
   have:=Cr s[k].toNat
   rw[bF];omega)
  clear C;have T:L.length<=400001:=by omega
  unfold Pt.q1 at i
  by_cases h1:s[k].toNat=34\/s[k].toNat=92
  ·rw[ps_ h1] at i;rcases h1 with e|e
   ·have f1:((s[k].toNat:Int)==34)=G:=by rw[e];rfl
    clear e;go_wp2_with (at_builtin;refine aw (wr:=wr) rfl _ _ 40 rfl _ 5 (Z c_ 0) 1 1 underlying40 dD rfl (by decide) (by decide) _ _ _ rfl d 2 2 [Z c_ 92,Z c_ (s[k].toNat:Int)] rfl rfl rfl rfl ?pn r ?_)
    case pn=>omega
    intro v' p c h g;have l:=aJ (i v' p [Z c_ 92,Z c_ (s[k].toNat:Int)] rfl c (IL.IU j d (bM _) h));clear c h g i d j;go_wp2;go_roundw
    case rel=>exact l
    simp[intOf];omega
   have f1:((s[k].toNat:Int)==34)=O:=by rw[e];rfl
   have f2:((s[k].toNat:Int)==92)=G:=by rw[e];rfl
   clear e;go_wp2_with (at_builtin;refine aw (wr:=wr) rfl _ _ 40 rfl _ 5 (Z c_ 0) 1 1 underlying40 dD rfl (by decide) (by decide) _ _ _ rfl d 2 2 [Z c_ 92,Z c_ (s[k].toNat:Int)] rfl rfl rfl rfl ?pn r ?_)
   case pn=>omega
   intro v' p c h g;have l:=aJ (i v' p [Z c_ 92,Z c_ (s[k].toNat:Int)] rfl c (IL.IU j d (bM _) h));clear c h g i d j;go_wp2;go_roundw
   case rel=>exact l
   simp[intOf];omega
  rw[ng_ h1] at i;have f1:((s[k].toNat:Int)==34)=O:=by rw[beq_eq_false_iff_ne];omega
  have f2:((s[k].toNat:Int)==92)=O:=by rw[beq_eq_false_iff_ne];omega
  clear h1
  by_cases h2:s[k].toNat=10
  ·rw[ps_ h2] at i;have J:((s[k].toNat:Int)==10)=G:=by rw[h2];rfl
   clear h2;go_wp2_with (at_builtin;refine aw (wr:=wr) rfl _ _ 40 rfl _ 5 (Z c_ 0) 1 1 underlying40 dD rfl (by decide) (by decide) _ _ _ rfl d 2 2 [Z c_ 92,Z c_ 110] rfl rfl rfl rfl ?pn r ?_)
   case pn=>omega
   intro v' p c h g;have l:=aJ (i v' p [Z c_ 92,Z c_ 110] rfl c (IL.IU j d (bM _) h));clear c h g i d j;go_wp2;go_roundw
   case rel=>exact l
   simp[intOf];omega
  rw[ng_ h2] at i;have J:((s[k].toNat:Int)==10)=O:=by rw[beq_eq_false_iff_ne];omega
  by_cases u:s[k].toNat=9
  ·rw[ps_ u] at i;have N:((s[k].toNat:Int)==9)=G:=by rw[u];rfl
   clear h2 u;go_wp2_with (at_builtin;refine aw (wr:=wr) rfl _ _ 40 rfl _ 5 (Z c_ 0) 1 1 underlying40 dD rfl (by decide) (by decide) _ _ _ rfl d 2 2 [Z c_ 92,Z c_ 116] rfl rfl rfl rfl ?pn r ?_)
   case pn=>omega
   intro v' p c h g;have l:=aJ (i v' p [Z c_ 92,Z c_ 116] rfl c (IL.IU j d (bM _) h));clear c h g i d j;go_wp2;go_roundw
   case rel=>exact l
   simp[intOf];omega
  rw[ng_ u] at i;have N:((s[k].toNat:Int)==9)=O:=by rw[beq_eq_false_iff_ne];omega
  by_cases A:s[k].toNat<32\/s[k].toNat=127
  ·rw[ps_ A] at i;rcases QK s[k].toNat 32 with S|S
   ·have D:decide ((s[k].toNat:Int)<32)=G:=by rw[decide_eq_true_iff];omega
    go_upto_region 15 with fail
    generalize s[k].toNat=b at *;clear f1 f2 J N D h2 u A S;obtain⟨f,a⟩:∃f,(⟨#[48,49,50,51,52,53,54,55,56,57,97,98,99,100,101,102]⟩:ByteArray)=f:=⟨_,rfl⟩
    have m:f.size=16:=by rw[<-a];rfl
    rw[a];have n:Hid (((b:Int)/16).toNat<f.size):=aJ (by omega)
    have o:Hid (((b:Int)%16).toNat<f.size):=aJ (by omega)
    have z:Hid ((f[((b:Int)/16).toNat]'n.out).toNat=Pt.K6 (b/16)/\(f[((b:Int)%16).toNat]'o.out).toNat=Pt.K6 (b%16)):=aJ (by
     have P:((b:Int)/16).toNat=b/16:=by omega
     have R:((b:Int)%16).toNat=b%16:=by omega
     subst a;simp only[P,R];exact⟨uQ _ (by omega) _,uQ _ (by omega) _⟩)
    have l1:(b:Int)/16<(f.size:Int):=by omega
    have l2:(b:Int)%16<(f.size:Int):=by omega
    have l3:(0:Int)<=(b:Int)/16:=by omega
    have l4:(0:Int)<=(b:Int)%16:=by omega
    have v1:e_.wrap ((b:Int)/16)=(b:Int)/16:=fe _ (by omega)
    have v2:e_.wrap ((b:Int)%16)=(b:Int)%16:=fe _ (by omega)
    have v3:e_.wrap ((b:Int).tmod 16)=(b:Int)%16:=by rw[i_ (by omega)];exact v2
    have v4:(b:Int).tmod 16=(b:Int)%16:=i_ (by omega)
    have I:Hid (L.length+4<=68719476736):=aJ (by omega)
    have t:=aJ a
    clear a m;go_region_held3 (fun w'=>True) (go_keep) ((refine ea _ (by rfl) _ _ 40 (by rfl) w.heap.size 5 (Z c_ 0) 1 1 underlying40 dD rfl (by decide) (by decide) (U A4 L.length c4) L.length (Jp L) (by rfl) (d.up aS) wr.heap.size 0 4 4 [Z c_ 92,Z c_ 120,Z c_ ((f[((b:Int)/16).toNat]'n.out).toNat:Int),Z c_ ((f[((b:Int)%16).toNat]'o.out).toNat:Int)] (by rfl) (by first|exact dQ _ _ _|exact(dQ _ _ _).drew) rfl rfl I (j.up aS).size ?_;intro v' w' c h x;have l:=aJ (i v' w' _ (by rw[z.out.1,z.out.2];rfl) c (IL.IU (j.up aS) (d.up aS) (bM _) h));clear c h x))
    all_goals
     have a:=t.out
     subst a;go_wp2;go_roundw
     case rel=>exact l
     simp[intOf];omega
   have D:decide ((s[k].toNat:Int)<32)=O:=by rw[decide_eq_false_iff_not];omega
   have f6:((s[k].toNat:Int)==127)=G:=by rw[beq_iff_eq];omega
   go_upto_region 15 with fail
   generalize s[k].toNat=b at *;clear f1 f2 J N D h2 u A S;obtain⟨f,a⟩:∃f,(⟨#[48,49,50,51,52,53,54,55,56,57,97,98,99,100,101,102]⟩:ByteArray)=f:=⟨_,rfl⟩
   have m:f.size=16:=by rw[<-a];rfl
   rw[a];have n:Hid (((b:Int)/16).toNat<f.size):=aJ (by omega)
   have o:Hid (((b:Int)%16).toNat<f.size):=aJ (by omega)
   have z:Hid ((f[((b:Int)/16).toNat]'n.out).toNat=Pt.K6 (b/16)/\(f[((b:Int)%16).toNat]'o.out).toNat=Pt.K6 (b%16)):=aJ (by
    have P:((b:Int)/16).toNat=b/16:=by omega
    have R:((b:Int)%16).toNat=b%16:=by omega
    subst a;simp only[P,R];exact⟨uQ _ (by omega) _,uQ _ (by omega) _⟩)
   have l1:(b:Int)/16<(f.size:Int):=by omega
   have l2:(b:Int)%16<(f.size:Int):=by omega
   have l3:(0:Int)<=(b:Int)/16:=by omega
   have l4:(0:Int)<=(b:Int)%16:=by omega
   have v1:e_.wrap ((b:Int)/16)=(b:Int)/16:=fe _ (by omega)
   have v2:e_.wrap ((b:Int)%16)=(b:Int)%16:=fe _ (by omega)
   have v3:e_.wrap ((b:Int).tmod 16)=(b:Int)%16:=by rw[i_ (by omega)];exact v2
   have v4:(b:Int).tmod 16=(b:Int)%16:=i_ (by omega)
   have I:Hid (L.length+4<=68719476736):=aJ (by omega)
   have t:=aJ a
   clear a m;go_region_held3 (fun w'=>True) (go_keep) ((refine ea _ (by rfl) _ _ 40 (by rfl) w.heap.size 5 (Z c_ 0) 1 1 underlying40 dD rfl (by decide) (by decide) (U A4 L.length c4) L.length (Jp L) (by rfl) (d.up aS) wr.heap.size 0 4 4 [Z c_ 92,Z c_ 120,Z c_ ((f[((b:Int)/16).toNat]'n.out).toNat:Int),Z c_ ((f[((b:Int)%16).toNat]'o.out).toNat:Int)] (by rfl) (by first|exact dQ _ _ _|exact(dQ _ _ _).drew) rfl rfl I (j.up aS).size ?_;intro v' w' c h x;have l:=aJ (i v' w' _ (by rw[z.out.1,z.out.2];rfl) c (IL.IU (j.up aS) (d.up aS) (bM _) h));clear c h x))
   all_goals
    have a:=t.out
    subst a;go_wp2;go_roundw
    case rel=>exact l
    simp[intOf];omega
  rw[ng_ A] at i;have D:decide ((s[k].toNat:Int)<32)=O:=by rw[decide_eq_false_iff_not];omega
  have f6:((s[k].toNat:Int)==127)=O:=by rw[beq_eq_false_iff_ne];omega
  clear h2 u A;go_wp2_with (at_builtin;refine aw (wr:=wr) rfl _ _ 40 rfl _ 5 (Z c_ 0) 1 1 underlying40 dD rfl (by decide) (by decide) _ _ _ rfl d 1 1 [Z c_ (s[k].toNat:Int)] rfl rfl rfl rfl ?pn r ?_)
  case pn=>omega
  intro v' p c h g;have l:=aJ (i v' p [Z c_ (s[k].toNat:Int)] rfl c (IL.IU j d (bM _) h));clear c h g i d j;go_wp2;go_roundw
  case rel=>exact l
  simp[intOf];omega
 obtain rfl:k=s.size:=by omega
 have r:Hid (w.heap.size<=wr.heap.size):=aJ j.size
 have T:L.length<=400001:=by omega
 have hq:Jp L++[Z c_ 34]=Jp (Pt.quote (bs s)):=by
  rw[C.out,k9 (by rw[af];exact bM _),Pt.quote];show _=Jp ((34::Pt.Jv (bs s))++[34]);rw[i6];rfl
 have B:L.length+1=(Pt.quote (bs s)).length:=by have:=congrArg I_ hq;rw[bF,cY,cY] at this;exact this
 have HQ:=aJ hq
 have y:=aJ B
 have H8:Hid (∀b∈Pt.quote (bs s),b<256):=aJ (yE (fun b hb=>ed hb))
 clear hq B C;go_wp2_with (at_builtin;refine aw (wr:=wr) rfl _ _ 40 rfl _ 5 (Z c_ 0) 1 1 underlying40 dD rfl (by decide) (by decide) _ _ _ rfl d 1 1 [Z c_ 34] rfl rfl rfl rfl ?pn1 r ?_)
 case pn1=>omega
 intro v' p c h g;have F:=aJ (IL.IU j d (bM _) h);rw[HQ.out] at c;obtain⟨_,_,rfl,_,_,_⟩:=c.shape;rw[y.out] at c ⊢;have aa:=jf c H8;clear c h g HQ y d j;go_wp2;go_ret;exact⟨rfl,F⟩
namespace Tk
def M:Int:=18446744073709551615
def U(x:Int):Prop:=0<=x/\x<=18446744073709551615
def add(a b:Int):Int:=if a+b<=18446744073709551615 then a+b else 18446744073709551615
def sub(a b:Int):Int:=if a<b then 0 else a-b
def GL:Nat->Int->Int
 |0,a=>a
 |n+1,a=>GL n (add a a)
def dbl(a n:Int):Int:=GL n.toNat a
def low(a b:Int):Int:=if b<a then b else a
def PE(base a n LL:Int):Int:=add (low a (dbl base n)) LL
end Tk
namespace Ld
def next(l:List (Int×Int))(a at_:Int):Int×Int×Bool:=
 if a<0\/(l.length:Int)<a then(0,0,O)
 else if a=l.length then(9,0,O)
 else((l.getD a.toNat (0,0)).1,Tk.add at_ (l.getD a.toNat (0,0)).2,G)
def Pn(l:List (Int×Int))(a:Int):Nat->List (Int×Int)×Int
 |0=>([],a)
 |k+1=>let p:=Pn l a k;(p.1++[(p.2,(next l k p.2).1)],(next l k p.2).2.1)
def Ok(l:List (Int×Int)):Prop:=∀i,Tk.U (l.getD i (0,0)).2
end Ld
namespace Bu
def En(l:List Int)(now win:Int):List Int:=l.filter fun t=>decide (Tk.sub now t<win)
def Oi(l:List Int)(a now win:Int):List Int×Bool:=
 if((En l now win).length:Int)<a then(En l now win++[now],G) else(En l now win,O)
def yM(a win:Int)(l:List Int):Nat->List Int×Int×List Bool
 |0=>([],0,[])
 |k+1=>let p:=yM a win l k
  ((Oi p.1 a (max p.2.1 (l.getD k 0)) win).1,max p.2.1 (l.getD k 0),p.2.2++[(Oi p.1 a (max p.2.1 (l.getD k 0)) win).2])
def KS(a win:Int)(l:List Int):List Bool:=(yM a win l l.length).2.2
theorem ot(l:List Int)(j:Nat)(h:j<l.length):l.take (j+1)=l.take j++[l.getD j 0]:=by simp_all
end Bu
namespace Lf
structure T where
 ph:Int
 inc:Int
 JX:Int
 Jy:Int
 I0:List Int
 due:Int
 JV:Bool
 Kn:Int
 halt:Bool
 again:Bool
structure J where
 IE:Int
 base:Int
 cap:Int
 IG:Int
 II:Int
 win:Int
 IK:List (Int×Int)
def new:T:=⟨1,0,0,0,[],0,O,0,O,O⟩
def rest(x:T)(p:Int):T:={x with ph:=p,due:=0,Kn:=0,JV:=O,halt:=O,again:=O}
def spawn(x:T):T×Bool:=if x.ph=1 then({x with ph:=2,inc:=wrap64 (x.inc+1)},G) else(x,O)
def GI(x:T):T:=if x.again=G then rest {x with JX:=0} 1 else rest x 9
def GO(j:J)(x:T)(now:Int):T×Int:=
 let r:=Ld.next j.IK x.Kn now
 ({x with due:=r.2.1,JV:=r.2.2,Kn:=wrap64 (x.Kn+1)},r.1)
def uR(j:J)(x:T)(now:Int):T×Int:=GO j {x with ph:=6,Kn:=0} now
def over(j:J)(x:T)(now a:Int):T×Bool:=
 let r:=Bu.Oi x.I0 j.II now j.win
 if r.2=G then({x with I0:=r.1,ph:=5,due:=Tk.add now (Tk.PE j.base j.cap x.JX a),JX:=wrap64 (x.JX+1)},G)
 else(rest {x with I0:=r.1} 8,O)
def Nu(j:J)(x:T)(ok ready:Bool)(now a:Int):T×Int×Bool:=
 if x.ph≠2 then(x,0,O)
 else if ok=O then
  if x.halt=G then(GI x,0,O)
  else if j.IE=1 then(rest x 8,0,O)
  else((over j x now a).1,0,(over j x now a).2)
 else if x.halt=G then((uR j {x with Jy:=now} now).1,(uR j {x with Jy:=now} now).2,O)
 else({x with Jy:=now,ph:=if ready=G then 4 else 3},0,O)
def up(x:T)(ready:Bool)(now:Int):T:=if x.ph=2 then {x with Jy:=now,ph:=if ready=G then 4 else 3} else x
def matched(x:T):T:=if x.ph=3 then {x with ph:=4} else x
def start(x:T):T:=if x.ph=7\/x.ph=8\/x.ph=9 then {rest x 1 with JX:=0,I0:=[]} else x
def stop(j:J)(x:T)(now:Int):T×Int:=
 if x.ph=1\/x.ph=5 then(rest x 9,0)
 else if x.ph=2 then({x with halt:=G,again:=O},0)
 else if x.ph=6 then({x with again:=O},0)
 else if x.ph=3\/x.ph=4 then uR j {x with again:=O} now
 else(x,0)
def IE(j:J)(x:T)(now:Int):T×Int:=
 if x.ph=5 then(rest x 1,0)
 else if x.ph=2 then({x with halt:=G,again:=G},0)
 else if x.ph=6 then({x with again:=G},0)
 else if x.ph=3\/x.ph=4 then uR j {x with again:=G} now
 else(start x,0)
def Ok(x:T):Prop:=Tk.U x.Jy/\Tk.U x.due/\∀t∈x.I0,Tk.U t
theorem rh{x:T}(h:Ok x):Ok (spawn x).1:=by unfold spawn;split<;>exact h
def sig(l:List (Int×Int))(now:Int)(i:Nat):Int:=(Ld.next l i (Ld.Pn l now i).2).1
def wt(k:Nat)(Jy:Int)(l:List Int):T:=⟨1,k,k,Jy,l,0,O,0,O,O⟩
end Lf
def I8(l:List (Int×Int)):List Q5:=l.flatMap fun r=>[Z Y r.1,Z E r.2]
theorem gn(l:List (Int×Int)):(I8 l).length=2*l.length:=by
 unfold I8
 induction l with
 |nil=>rfl
 |cons a l ih=>grind
theorem fx(l:List (Int×Int)):∀i,i<l.length->(I8 l)[i*2]? =X (Z Y (l.getD i (0,0)).1)/\(I8 l)[i*2+1]? =X (Z E (l.getD i (0,0)).2):=by
 induction l with
 |nil=>simp
 |cons a l ih=>
  intro i h;cases i with
  |zero=>exact⟨rfl,rfl⟩
  |succ i=>
   have b:(i+1)*2=i*2+1+1:=by omega
   rw[b];exact ih i (by simpa using h)
theorem zF:(Rj.info? 60).map (fun i=>(i.zero,i.size,i.bytes))=X (X (Z E 0),1,8):=by kernel_rfl
def ef(l:List Int):List Q5:=l.map (fm E)
theorem qH(l:List Int):(ef l).length=l.length:=by simp[ef]
theorem xZ(l:List Int):(ef l).all k_=G:=by simp[ef,k_]
theorem Fm(A:Option Q8)(c:Nat)(l:List Int)(w:Q4)(b:Rs w A (ef l))(g:l.length<=68719476736):
  Q6 Rj 227 #[U A l.length c] w (nQ w 60 1 l.length (ef l)):=by
 have h:=fun W a n c=>Lib.run_eql_slice_nil (P:=Rj) W 70 60 a n c 0 0 underlying70
 cases A with
 |none=>
  have d:=b.LD
  have h1:l=[]:=by simpa [ef] using d
  subst h1;go_enter func227,ntmps227;go_wp2;go_ret;exact⟨_,rfl,IL.Jk _ _ _ _,ID.refl _⟩
 |some ad=>
  go_enter func227,ntmps227
  have hown:IL (w.alloc (H #[] 60)) w.heap.size 60 1 (U (X ⟨w.heap.size,0,V⟩) 0 0) 0 []:=jJ w #[] 0 1 _ (by decide) rfl
  go_wp2_with (at_builtin;refine iY rfl _ _ 70 rfl _ 60 (Z E 0) 1 8 underlying70 zF rfl (by decide) (by decide) _ _ _ (by rfl) hown _ _ _ _ (by rfl) (b.alloc _) (by rw[qH,QN]) (xZ _) ?pn1 (by simp) ?_)
  case pn1=>omega
  intro v' w' e f hd;go_wp2;go_ret;refine⟨_,rfl,?_,hd w ((ID.refl w).alloc _) (bM _)⟩;simpa using e
structure Jd where
 nm:ByteArray
 run:ByteArray
 eA:Option Q8
 IJ:List (ByteArray×ByteArray)
 ec:Nat
 nA:Option Q8
 IC:List ByteArray
 nc:Nat
 IQ:Bool
 ready:ByteArray
 IE:Int
 base:Int
 cap:Int
 IG:Int
 II:Int
 win:Int
 lA:Option Q8
 IK:List (Int×Int)
 lc:Nat
 IM:Int
 Jb:Int
def dm(x:Jd):Q5:= .agg #[Q x.nm,Q x.run,U x.eA x.IJ.length x.ec,U x.nA x.IC.length x.nc,K x.IQ,Q x.ready,Z Y x.IE,Z E x.base,Z E x.cap,Z E x.IG,Z Y x.II,Z E x.win,U x.lA x.IK.length x.lc,Z Y x.IM,Z Y x.Jb]
def gQ(x:Lf.T)(A:Option Q8)(c:Nat):Q5:= .agg #[Z Y x.ph,Z Y x.inc,Z Y x.JX,Z E x.Jy,U A x.I0.length c,Z E x.due,K x.JV,Z Y x.Kn,K x.halt,K x.again]
theorem gF{k:Nat}{t:Q7}(h:w.heap[k]? =X (H #[v0,v1,v2,v3,v4,v5,v6,v7,v8,v9] t (0,0))):(w.cell? ⟨k,0,V⟩=X v0/\w.cell? ⟨k,1,V⟩=X v1/\w.cell? ⟨k,2,V⟩=X v2/\w.cell? ⟨k,3,V⟩=X v3/\w.cell? ⟨k,4,V⟩=X v4/\w.cell? ⟨k,5,V⟩=X v5/\w.cell? ⟨k,6,V⟩=X v6/\w.cell? ⟨k,7,V⟩=X v7/\w.cell? ⟨k,8,V⟩=X v8/\w.cell? ⟨k,9,V⟩=X v9)/\(w.frozen? ⟨k,0,V⟩=O/\w.frozen? ⟨k,1,V⟩=O/\w.frozen? ⟨k,2,V⟩=O/\w.frozen? ⟨k,3,V⟩=O/\w.frozen? ⟨k,4,V⟩=O/\w.frozen? ⟨k,5,V⟩=O/\w.frozen? ⟨k,6,V⟩=O/\w.frozen? ⟨k,7,V⟩=O/\w.frozen? ⟨k,8,V⟩=O/\w.frozen? ⟨k,9,V⟩=O):=
 ⟨⟨(aK w k 0 _ _ _ h).trans rfl,(aK w k 1 _ _ _ h).trans rfl,(aK w k 2 _ _ _ h).trans rfl,(aK w k 3 _ _ _ h).trans rfl,(aK w k 4 _ _ _ h).trans rfl,(aK w k 5 _ _ _ h).trans rfl,(aK w k 6 _ _ _ h).trans rfl,(aK w k 7 _ _ _ h).trans rfl,(aK w k 8 _ _ _ h).trans rfl,(aK w k 9 _ _ _ h).trans rfl⟩,⟨aN w k 0 _ _ h,aN w k 1 _ _ h,aN w k 2 _ _ h,aN w k 3 _ _ h,aN w k 4 _ _ h,aN w k 5 _ _ h,aN w k 6 _ _ h,aN w k 7 _ _ h,aN w k 8 _ _ h,aN w k 9 _ _ h⟩⟩
theorem cQ{k:Nat}{a b v12 c d:Q5}{t:Q7}(h:w.heap[k]? =X (H #[v0,v1,v2,v3,v4,v5,v6,v7,v8,v9,a,b,v12,c,d] t (0,0))):(w.cell? ⟨k,0,V⟩=X v0/\w.cell? ⟨k,1,V⟩=X v1/\w.cell? ⟨k,2,V⟩=X v2/\w.cell? ⟨k,3,V⟩=X v3/\w.cell? ⟨k,4,V⟩=X v4/\w.cell? ⟨k,5,V⟩=X v5/\w.cell? ⟨k,6,V⟩=X v6/\w.cell? ⟨k,7,V⟩=X v7/\w.cell? ⟨k,8,V⟩=X v8/\w.cell? ⟨k,9,V⟩=X v9/\w.cell? ⟨k,10,V⟩=X a/\w.cell? ⟨k,11,V⟩=X b/\w.cell? ⟨k,12,V⟩=X v12/\w.cell? ⟨k,13,V⟩=X c/\w.cell? ⟨k,14,V⟩=X d)/\(w.frozen? ⟨k,0,V⟩=O/\w.frozen? ⟨k,1,V⟩=O/\w.frozen? ⟨k,2,V⟩=O/\w.frozen? ⟨k,3,V⟩=O/\w.frozen? ⟨k,4,V⟩=O/\w.frozen? ⟨k,5,V⟩=O/\w.frozen? ⟨k,6,V⟩=O/\w.frozen? ⟨k,7,V⟩=O/\w.frozen? ⟨k,8,V⟩=O/\w.frozen? ⟨k,9,V⟩=O/\w.frozen? ⟨k,10,V⟩=O/\w.frozen? ⟨k,11,V⟩=O/\w.frozen? ⟨k,12,V⟩=O/\w.frozen? ⟨k,13,V⟩=O/\w.frozen? ⟨k,14,V⟩=O):=
 ⟨⟨(aK w k 0 _ _ _ h).trans rfl,(aK w k 1 _ _ _ h).trans rfl,(aK w k 2 _ _ _ h).trans rfl,(aK w k 3 _ _ _ h).trans rfl,(aK w k 4 _ _ _ h).trans rfl,(aK w k 5 _ _ _ h).trans rfl,(aK w k 6 _ _ _ h).trans rfl,(aK w k 7 _ _ _ h).trans rfl,(aK w k 8 _ _ _ h).trans rfl,(aK w k 9 _ _ _ h).trans rfl,(aK w k 10 _ _ _ h).trans rfl,(aK w k 11 _ _ _ h).trans rfl,(aK w k 12 _ _ _ h).trans rfl,(aK w k 13 _ _ _ h).trans rfl,(aK w k 14 _ _ _ h).trans rfl⟩,⟨aN w k 0 _ _ h,aN w k 1 _ _ h,aN w k 2 _ _ h,aN w k 3 _ _ h,aN w k 4 _ _ h,aN w k 5 _ _ h,aN w k 6 _ _ h,aN w k 7 _ _ h,aN w k 8 _ _ h,aN w k 9 _ _ h,aN w k 10 _ _ h,aN w k 11 _ _ h,aN w k 12 _ _ h,aN w k 13 _ _ h,aN w k 14 _ _ h⟩⟩
theorem jW{a b:Obj}(h:ID ((w.alloc a).alloc b) w2):w2.heap[w.heap.size]? =X a/\w2.heap[w.heap.size+1]? =X b/\ID w w2:=by
 have a1:=((ID.refl (w.alloc a)).alloc b).block (aM w a)
 have a2:=aM (w.alloc a) b
 have e:(w.alloc a).heap.size=w.heap.size+1:=by simp
 rw[e] at a2;exact⟨h.block a1,h.block a2,(((ID.refl w).alloc _).alloc _).up h⟩
theorem Eq{a b c:Obj}(h:ID (((w.alloc a).alloc b).alloc c) w2):w2.heap[w.heap.size]? =X a/\w2.heap[w.heap.size+1]? =X b/\w2.heap[w.heap.size+1+1]? =X c/\ID w w2:=by
 have a3:=aM ((w.alloc a).alloc b) c
 have e:((w.alloc a).alloc b).heap.size=w.heap.size+1+1:=by simp
 rw[e] at a3;obtain⟨b1,b2,b3⟩:=jW (((ID.refl ((w.alloc a).alloc b)).alloc c).up h);exact⟨b1,b2,h.block a3,b3⟩
def Tn(w:Q4)(e:Q7)(A:Option Q8)(xs:List Q5)(K:List Nat):Prop:=
 xs=[]\/∃b off cur fz,A=X ⟨b,off,V⟩/\b∉K/\w.heap[b]? =X (H cur e fz)/\∀j u,xs[j]? =X u->cur[off+j]? =X u
theorem Tn.ts{e:Q7}{K:List Nat}(h:Tn w e A xs K):Ts w e A xs:=by
 rcases h with h|⟨b,off,cur,fz,h1,_,h2,a⟩
 ·exact bX h
 exact bY ⟨b,off,cur,fz,h1,h2,a⟩
theorem Tn.set{e:Q7}{K:List Nat}(h:Tn w e A xs K){k:Nat}(hk:k∈K)(v:Q5):Tn (w.setCell ⟨k,i,V⟩ v) e A xs K:=by
 rcases h with h|⟨b,off,cur,fz,h1,a,h2,c⟩
 ·exact bX h
 exact bY ⟨b,off,cur,fz,h1,a,(aL w ⟨k,i,V⟩ b _ (fun e=>a (e▸hk))).trans h2,c⟩
theorem Ts.N0{e c d:Q7}{k1 k2:Nat}{c1 c2:Array Q5}{g i:Nat×Nat}(h:Ts w e A xs)(h1:w.heap[k1]? =X (H c1 c g))(n1:e≠c)(h2:w.heap[k2]? =X (H c2 d i))(n2:e≠d):Tn w e A xs [k1,k2]:=by
 rcases h with h|⟨b,off,cur,fz,f,a,hc⟩
 ·exact bX h
 refine bY ⟨b,off,cur,fz,f,?_,a,hc⟩;intro hm;simp only[jx,x_,or_false] at hm;rcases hm with rfl|rfl
 ·grind
 rw[a] at h2;simp at h2;exact n2 h2.2.1
def DB(w:Q4)(x:Lf.T)(e:Q9)(w':Q4):Prop:=∃A c,e=a_ (gQ x A c)/\Ts w' 60 A (ef x.I0)/\ID w w'
def Ha(w:Q4)(x:Lf.T)(b:Bool)(e:Q9)(w':Q4):Prop:=∃A c,e=a_ (b_ #[gQ x A c,K b])/\Ts w' 60 A (ef x.I0)/\ID w w'
def Bp(w:Q4)(x:Lf.T)(s:Int)(b:Bool)(e:Q9)(w':Q4):Prop:=∃A c,e=a_ (b_ #[gQ x A c,Z Y s,K b])/\Ts w' 60 A (ef x.I0)/\ID w w'
def Iy(x:Lf.T)(A:Option Q8)(c:Nat):Obj:=H #[Z Y x.ph,Z Y x.inc,Z Y x.JX,Z E x.Jy,U A x.I0.length c,Z E x.due,K x.JV,Z Y x.Kn,K x.halt,K x.again] 118 (0,0)
def Ix:Obj:=H #[Z Y 0,Z Y 0,Z Y 0,Z E 0,U V 0 0,Z E 0,K O,Z Y 0,K O,K O] 118 (0,0)
def sV(x:Jd):Obj:=H #[Q x.nm,Q x.run,U x.eA x.IJ.length x.ec,U x.nA x.IC.length x.nc,K x.IQ,Q x.ready,Z Y x.IE,Z E x.base,Z E x.cap,Z E x.IG,Z Y x.II,Z E x.win,U x.lA x.IK.length x.lc,Z Y x.IM,Z Y x.Jb] 63 (0,0)
structure Qt(w wx:Q4)(j:Jd)(x:Lf.T)(A:Option Q8)(c:Nat):Prop where
 bj:wx.heap[w.heap.size]? =some (sV j)
 bl:wx.heap[w.heap.size+1]? =some (Iy x A c)
 br:wx.heap[w.heap.size+1+1]? =some Ix
 I5:ID w wx
 ts:Ts wx 60 A (ef x.I0)
structure P1(w wx:Q4)(x:Lf.T)(A:Option Q8)(c:Nat):Prop where
 bl:wx.heap[w.heap.size]? =some (Iy x A c)
 br:wx.heap[w.heap.size+1]? =some Ix
 I5:ID w wx
 ts:Ts wx 60 A (ef x.I0)
def mj(w:Q4)(k:Nat)(v0 v1 v2 v3 v4 v5 v6 v7 v8 v9:Q5):Q4:=
 (((((((((w.setCell ⟨k,0,V⟩ v0).setCell ⟨k,1,V⟩ v1).setCell ⟨k,2,V⟩ v2).setCell ⟨k,3,V⟩ v3).setCell ⟨k,4,V⟩ v4).setCell ⟨k,5,V⟩ v5).setCell ⟨k,6,V⟩ v6).setCell ⟨k,7,V⟩ v7).setCell ⟨k,8,V⟩ v8).setCell ⟨k,9,V⟩ v9
section
variable {w : Q4} {k : Nat} {v0 v1 v2 v3 v4 v5 v6 v7 v8 v9 : Q5}
theorem gV{j:Nat}(hj:j≠k):(mj w k v0 v1 v2 v3 v4 v5 v6 v7 v8 v9).heap[j]? =w.heap[j]?:=by
 unfold mj;iterate 10 rw[aL _ _ j _ hj]
theorem lL{r i g f e d c b u8 a:Q5}{t:Q7}(h:w.heap[k]? =X (H #[r,i,g,f,e,d,c,b,u8,a] t (0,0))):(mj w k v0 v1 v2 v3 v4 v5 v6 v7 v8 v9).heap[k]? =X (H #[v0,v1,v2,v3,v4,v5,v6,v7,v8,v9] t (0,0)):=by
 have j:(w.setCell ⟨k,0,V⟩ v0).heap[k]? =X (H #[v0,i,g,f,e,d,c,b,u8,a] t (0,0)):=aO _ k 0 _ _ v0 h
 have h1:((w.setCell ⟨k,0,V⟩ v0).setCell ⟨k,1,V⟩ v1).heap[k]? =X (H #[v0,v1,g,f,e,d,c,b,u8,a] t (0,0)):=aO _ k 1 _ _ v1 j
 have h2:(((w.setCell ⟨k,0,V⟩ v0).setCell ⟨k,1,V⟩ v1).setCell ⟨k,2,V⟩ v2).heap[k]? =X (H #[v0,v1,v2,f,e,d,c,b,u8,a] t (0,0)):=aO _ k 2 _ _ v2 h1
 have l:((((w.setCell ⟨k,0,V⟩ v0).setCell ⟨k,1,V⟩ v1).setCell ⟨k,2,V⟩ v2).setCell ⟨k,3,V⟩ v3).heap[k]? =X (H #[v0,v1,v2,v3,e,d,c,b,u8,a] t (0,0)):=aO _ k 3 _ _ v3 h2
 have m:(((((w.setCell ⟨k,0,V⟩ v0).setCell ⟨k,1,V⟩ v1).setCell ⟨k,2,V⟩ v2).setCell ⟨k,3,V⟩ v3).setCell ⟨k,4,V⟩ v4).heap[k]? =X (H #[v0,v1,v2,v3,v4,d,c,b,u8,a] t (0,0)):=aO _ k 4 _ _ v4 l
 have n:((((((w.setCell ⟨k,0,V⟩ v0).setCell ⟨k,1,V⟩ v1).setCell ⟨k,2,V⟩ v2).setCell ⟨k,3,V⟩ v3).setCell ⟨k,4,V⟩ v4).setCell ⟨k,5,V⟩ v5).heap[k]? =X (H #[v0,v1,v2,v3,v4,v5,c,b,u8,a] t (0,0)):=aO _ k 5 _ _ v5 m
 have o:(((((((w.setCell ⟨k,0,V⟩ v0).setCell ⟨k,1,V⟩ v1).setCell ⟨k,2,V⟩ v2).setCell ⟨k,3,V⟩ v3).setCell ⟨k,4,V⟩ v4).setCell ⟨k,5,V⟩ v5).setCell ⟨k,6,V⟩ v6).heap[k]? =X (H #[v0,v1,v2,v3,v4,v5,v6,b,u8,a] t (0,0)):=aO _ k 6 _ _ v6 n
 have p:((((((((w.setCell ⟨k,0,V⟩ v0).setCell ⟨k,1,V⟩ v1).setCell ⟨k,2,V⟩ v2).setCell ⟨k,3,V⟩ v3).setCell ⟨k,4,V⟩ v4).setCell ⟨k,5,V⟩ v5).setCell ⟨k,6,V⟩ v6).setCell ⟨k,7,V⟩ v7).heap[k]? =X (H #[v0,v1,v2,v3,v4,v5,v6,v7,u8,a] t (0,0)):=aO _ k 7 _ _ v7 o
 have q:(((((((((w.setCell ⟨k,0,V⟩ v0).setCell ⟨k,1,V⟩ v1).setCell ⟨k,2,V⟩ v2).setCell ⟨k,3,V⟩ v3).setCell ⟨k,4,V⟩ v4).setCell ⟨k,5,V⟩ v5).setCell ⟨k,6,V⟩ v6).setCell ⟨k,7,V⟩ v7).setCell ⟨k,8,V⟩ v8).heap[k]? =X (H #[v0,v1,v2,v3,v4,v5,v6,v7,v8,a] t (0,0)):=aO _ k 8 _ _ v8 p
 exact aO _ k 9 _ _ v9 q
theorem lM(h:ID w0 w)(hk:w0.heap.size<=k):ID w0 (mj w k v0 v1 v2 v3 v4 v5 v6 v7 v8 v9):=
 (((((((((h.setCell hk v0).setCell hk v1).setCell hk v2).setCell hk v3).setCell hk v4).setCell hk v5).setCell hk v6).setCell hk v7).setCell hk v8).setCell hk v9
theorem m8{e:Q7}{K:List Nat}(h:Tn w e A xs K)(hk:k∈K):Tn (mj w k v0 v1 v2 v3 v4 v5 v6 v7 v8 v9) e A xs K:=
 (((((((((h.set hk v0).set hk v1).set hk v2).set hk v3).set hk v4).set hk v5).set hk v6).set hk v7).set hk v8).set hk v9
end
def ar(l:List ByteArray):List Q5:=l.map Value.string
def cH(l:List (ByteArray×ByteArray)):List Q5:=l.flatMap fun p=>[Q p.1,Q p.2]
def ag(x:Jd):List Q5:=[Q x.nm,Q x.run,U x.eA x.IJ.length x.ec,U x.nA x.IC.length x.nc,K x.IQ,Q x.ready,Z Y x.IE,Z E x.base,Z E x.cap,Z E x.IG,Z Y x.II,Z E x.win,U x.lA x.IK.length x.lc,Z Y x.IM,Z Y x.Jb]
theorem EY(x:Jd):sV x=H (ag x).toArray 63 (0,0):=rfl
def cE:Jd:=⟨⟨#[]⟩,⟨#[]⟩,V,[],0,V,[],0,O,⟨#[]⟩,0,0,0,0,0,0,V,[],0,0,0⟩
theorem IL.keeps{base:Nat}{e t:Q7}{size n:Nat}{fz:Nat×Nat}{k:Nat}(hown:IL w base e size v n xs)(c:w.grownBy w' v.ownBlock)(b:w.heap[k]? =X (H cs t fz))(hne:e≠t):w'.heap[k]? =X (H cs t fz):=by
 rw[c.block k (aQ b) ?_]
 ·exact b
 intro hk;rcases hown with⟨_,⟨rfl,_⟩|⟨g,cap,d,rfl,_,a,_⟩⟩
 ·simp[f_] at hk
 simp[f_] at hk;subst hk;rw[b] at a;simp at a;exact hne a.2.1.symm
structure JC(w0 w:Q4)(B g k k6:Nat)(l:List Int)(j:Jd):Prop where
 gw:w0.grownBy w (some g)
 gl:g<w0.heap.size
 kk:w0.heap.size<=k
 row:w.heap[k]? =some (sV j)
 MF:w0.heap.size<=k6
 MI:w.heap[k6]? =some (sV cE)
 ne:k6≠k
 dk:Dk w B g l
 IJ:Ts w 238 j.eA (cH j.IJ)
 IC:IL w w0.heap.size 9 1 (.slice j.nA j.IC.length j.nc) j.IC.length (ar j.IC)
def LO(w0 w:Q4)(v:Q5)(l:List (Int×Int)):Prop:=IL w w0.heap.size 241 2 v l.length (I8 l)
theorem hY{a b c:Q4}{row:Option Nat}(h:a.grownBy b row)(k:b.grownBy c row):a.grownBy c row:=
 ⟨k.os.trans h.os,k.tape.trans h.tape,k.output.trans h.output,bN h.size k.size,fun i d e=>(k.block i (qn d h.size) e).trans (h.block i d e)⟩
theorem du{a b c:Q4}{row:Option Nat}(h:a.grownBy b (X g))(k:b.grownBy c row)(f:∀q,row=X q->a.heap.size<=q):a.grownBy c (X g):=
 ⟨k.os.trans h.os,k.tape.trans h.tape,k.output.trans h.output,bN h.size k.size,fun i d hne=>(k.block i (qn d h.size) (fun e=>by have:=f i e.symm;omega)).trans (h.block i d hne)⟩
theorem ip{a b:Q4}(h:ID a b):a.grownBy b V:=⟨h.out.os,h.out.tape,h.out.output,h.out.size,fun k hk _=>h.out.block k hk⟩
section
variable {w0 w w' : Q4} {B g k k6 : Nat} {l l' : List Int} {j j' : Jd}
theorem JC.up(h:JC w0 w B g k k6 l j)(a:ID w w'):JC w0 w' B g k k6 l j:=
 ⟨du h.gw (ip a) (fun q e=>by cases e),h.gl,h.kk,a.block h.row,h.MF,a.block h.MI,h.ne,h.dk.up a,h.IJ.up a,h.IC.up a⟩
theorem JC.turn(h:JC w0 w B g k k6 l j)(hd:Dk w' B g l')(a:w.grownBy w' (X g)):JC w0 w' B g k k6 l' j:=
 ⟨hY h.gw a,h.gl,h.kk,(a.block k (aQ h.row) (fun e=>by injection e with e;have:=h.kk;have:=h.gl;omega)).trans h.row,h.MF,(a.block k6 (aQ h.MI) (fun e=>by injection e with e;have:=h.MF;have:=h.gl;omega)).trans h.MI,h.ne,hd,h.dk.ts a h.IJ (by decide),h.dk.own a h.IC (by decide)⟩
theorem JC.Px(gw:w0.grownBy w (X g))(gl:g<w0.heap.size)(kk:w0.heap.size<=k)(row:w.heap[k]? =X (sV j))(MF:w0.heap.size<=k6)(MI:w.heap[k6]? =X (sV cE))(ne:k6≠k)(dk:Dk w B g l)(i:Nat)(v:Q5)(hv:(ag j).set i v=ag j')
  (f:Ts w 238 j'.eA (cH j'.IJ)) (a:IL w w0.heap.size 9 1 (U j'.nA j'.IC.length j'.nc) j'.IC.length (ar j'.IC)):JC w0 (w.setCell ⟨k,i,V⟩ v) B g k k6 l j':=by
 have d:w.grownBy (w.setCell ⟨k,i,V⟩ v) (X k):=⟨rfl,rfl,rfl,by simp,fun q _ r=>aL w ⟨k,i,V⟩ q _ (fun e=>r (by simp[e]))⟩
 have h:=aO w k i _ _ v (show w.heap[k]? =X (H (ag j).toArray 63 (0,0)) from row)
 have hB:=dk.1
 refine⟨du gw d (fun q e=>by injection e with e;omega),gl,kk,?_,MF,(aL w ⟨k,i,V⟩ k6 _ ne).trans MI,ne,dk.Kr d (fun e=>by injection e with e;omega) (fun q e=>by injection e with e;omega),?_,?_⟩
 ·rw[h,EY,<-hv];simp
 ·rcases f with q|⟨b,off,cur,fz,p,o,hc⟩
  ·exact bX q
  refine bY ⟨b,off,cur,fz,p,(aL w ⟨k,i,V⟩ b _ (fun e=>?_)).trans o,hc⟩
  subst e;rw[show sV j=H (ag j).toArray 63 (0,0) from rfl,o] at row
  simp at row
 refine bT a d ?_;cases c:(QO j'.nA j'.IC.length j'.nc).ownBlock with
 |none=>exact bX rfl
 |some q=>
  refine bY (fun e=>?_)
  injection e with e
  subst e;rcases a with⟨_,⟨m,_⟩|⟨t,cap,s,m,_,n,_⟩⟩
  ·rw[m] at c;simp[f_] at c
  rw[m] at c;simp[f_] at c;subst c;rw[show sV j=H (ag j).toArray 63 (0,0) from rfl,n] at row
  simp at row
theorem JC.put(h:JC w0 w B g k k6 l j)(i:Nat)(v:Q5)(hv:(ag j).set i v=ag j')(b:j'.eA=j.eA/\j'.IJ=j.IJ)(a:j'.nA=j.nA/\j'.IC=j.IC/\j'.nc=j.nc):JC w0 (w.setCell ⟨k,i,V⟩ v) B g k k6 l j':=
 JC.Px h.gw h.gl h.kk h.row h.MF h.MI h.ne h.dk i v hv (by rw[b.1,b.2];exact h.IJ) (by rw[a.1,a.2.1,a.2.2];exact h.IC)
theorem JC.Ov(h:JC w0 w B g k k6 l j){c:Nat}{IJ:List (ByteArray×ByteArray)}(a:Ts w 238 A (cH IJ)):JC w0 (w.setCell ⟨k,2,V⟩ (U A IJ.length c)) B g k k6 l {j with eA:=A,IJ:=IJ,ec:=c}:=
 JC.Px h.gw h.gl h.kk h.row h.MF h.MI h.ne h.dk 2 _ rfl a h.IC
theorem JC.KC(h:JC w0 w B g k k6 l j)(b:IL w' w0.heap.size 9 1 v (j.IC.length+1) (ar j.IC++[Q s]))(a:w.grownBy w' (QO j.nA j.IC.length j.nc).ownBlock):
  ∃A c,v=U A (j.IC.length+1) c/\JC w0 (w'.setCell ⟨k,3,V⟩ v) B g k k6 l {j with nA:=A,IC:=j.IC++[s],nc:=c}:=by
 obtain⟨A,c,rfl,_,_,_⟩:=b.shape;refine⟨A,c,rfl,JC.Px (du h.gw a (fun q e=>(bU h.IC q e).1)) h.gl h.kk (h.IC.keeps a h.row (by decide)) h.MF (h.IC.keeps a h.MI (by decide)) h.ne (h.dk.push h.IC (by decide) (by have:=h.dk.1;have:=h.gl;omega) a) 3 _ ?_ (h.IJ.grown h.IC (by decide) a) ?_⟩
 ·simp[ag]
 have e:ar j.IC++[Q s]=ar (j.IC++[s]):=by simp[ar]
 rw[e] at b;simpa using b
theorem JC.OI(h:JC w0 w B g k k6 l j){n:Nat}(b:IL w w0.heap.size 241 2 v n xs)(a:w.grownBy w' v.ownBlock):JC w0 w' B g k k6 l j:=
 ⟨du h.gw a (fun q e=>(bU b q e).1),h.gl,h.kk,b.keeps a h.row (by decide),h.MF,b.keeps a h.MI (by decide),h.ne,h.dk.push b (by decide) (by have:=h.dk.1;have:=h.gl;omega) a,h.IJ.grown b (by decide) a,h.IC.grown b (by decide) a⟩
theorem LO.up{r:List (Int×Int)}(h:LO w0 w v r)(a:ID w w'):LO w0 w' v r:=IL.up h a
theorem LO.turn{r:List (Int×Int)}(h:LO w0 w v r)(hc:JC w0 w B g k k6 l j)(a:w.grownBy w' (X g)):LO w0 w' v r:=hc.dk.own a h (by decide)
theorem LO.put{r:List (Int×Int)}(h:LO w0 w v r)(hc:JC w0 w B g k k6 l j)(i:Nat)(u:Q5):LO w0 (w.setCell ⟨k,i,V⟩ u) v r:=by
 have b:w.grownBy (w.setCell ⟨k,i,V⟩ u) (X k):=⟨rfl,rfl,rfl,by simp,fun q _ c=>aL w ⟨k,i,V⟩ q _ (fun e=>c (by simp[e]))⟩
 refine bT h b ?_;cases hv:v.ownBlock with
 |none=>exact bX rfl
 |some q=>
  refine bY (fun e=>?_)
  injection e with e
  subst e;rcases h with⟨_,⟨rfl,_⟩|⟨f,cap,d,rfl,_,a,_⟩⟩
  ·simp[f_] at hv
  simp[f_] at hv;subst hv;have:=hc.row;rw[show sV j=H (ag j).toArray 63 (0,0) from rfl,a] at this
  simp at this
end
theorem nI{p q:ByteArray}(h:p≠q):(p.toList==q.toList)=O:=by
 rw[beq_eq_false_iff_ne];intro e;rw[IN,IN] at e;exact h (ByteArray.ext (QH.mp e))
theorem dO(l:List ByteArray):(ar l).length=l.length:=by simp[ar]
theorem fv(l:List ByteArray)(i:Nat)(h:i<l.length):(ar l)[i]? =X (Q (l.getD i ⟨#[]⟩)):=by grind [ar]
theorem eF(l:List (ByteArray×ByteArray)):(cH l).length=2*l.length:=by
 unfold cH
 induction l with
 |nil=>rfl
 |cons a l ih=>grind
theorem eW(l:List (ByteArray×ByteArray)):∀i,i<l.length->(cH l)[i*2]? =X (Q (l.getD i (⟨#[]⟩,⟨#[]⟩)).1)/\(cH l)[i*2+1]? =X (Q (l.getD i (⟨#[]⟩,⟨#[]⟩)).2):=by
 induction l with
 |nil=>simp
 |cons a l ih=>
  intro i h;cases i with
  |zero=>exact⟨rfl,rfl⟩
  |succ i=>
   have b:(i+1)*2=i*2+1+1:=by omega
   rw[b];exact ih i (by simpa using h)
structure JM(w:Q4)(j:Jd):Prop where
 IJ:Rs w j.eA (cH j.IJ)
 IC:Rs w j.nA (ar j.IC)
 IK:Rs w j.lA (I8 j.IK)
 eb:j.IJ.length<=9223372036854775807
 nb:j.IC.length<=9223372036854775807
 lb:j.IK.length<=9223372036854775807
theorem JM.up{j:Jd}(h:JM w j)(a:ID w w'):JM w' j:=⟨h.IJ.up a,h.IC.up a,h.IK.up a,h.eb,h.nb,h.lb⟩
theorem GS(p q:ByteArray):(p.toList==q.toList)=decide (p=q):=by
 by_cases h:p=q
 ·subst h;simp
 rw[nI h,decide_eq_false h]
def fY(l:List Jd):List Q5:=l.flatMap ag
theorem cL(j:Jd):(ag j).length=15:=rfl
theorem ms(l:List Jd):(fY l).length=15*l.length:=by
 unfold fY
 induction l with
 |nil=>rfl
 |cons a l ih=>simp only[yr,bF,fb,ih,cL];omega
theorem zD:∀(l:List Jd) (i n:Nat) (v:Q5),i<l.length->(ag (l.getD i cE))[n]? =X v->(fY l)[i*15+n]? =X v:=by
 intro l
 induction l with
 |nil=>intro i n v h;simp at h
 |cons a l ih=>
  intro i n v h hv;unfold fY at *;cases i with
  |zero=>grind
  |succ i=>
   rw[yr,QD (by rw[cL];omega),cL,show(i+1)*15+n-15=i*15+n by omega]
   exact ih i n v (by simpa using h) hv
structure JL(w:Q4)(A:Option Q8)(l:List Jd):Prop where
 cells:Rs w A (fY l)
 mem:∀j∈l,JM w j
 JA:l.length<=68719476736
theorem JL.up{l:List Jd}(h:JL w A l)(a:ID w w'):JL w' A l:=⟨h.cells.up a,fun j hj=>(h.mem j hj).up a,h.JA⟩
theorem JL.at_{l:List Jd}(h:JL w A l)(a:i<l.length):JM w (l.getD i cE):=
 h.mem _ (gm_ a)
def FQ(w:Q4)(b o:Nat)(j:Jd):Prop:=w.cell? ⟨b,o,V⟩=X (Q j.nm)/\w.cell? ⟨b,o+1,V⟩=X (Q j.run)/\w.cell? ⟨b,o+2,V⟩=X (U j.eA j.IJ.length j.ec)/\w.cell? ⟨b,o+3,V⟩=X (U j.nA j.IC.length j.nc)/\w.cell? ⟨b,o+4,V⟩=X (K j.IQ)/\w.cell? ⟨b,o+5,V⟩=X (Q j.ready)/\w.cell? ⟨b,o+6,V⟩=X (Z Y j.IE)/\w.cell? ⟨b,o+7,V⟩=X (Z E j.base)/\w.cell? ⟨b,o+8,V⟩=X (Z E j.cap)/\w.cell? ⟨b,o+9,V⟩=X (Z E j.IG)/\w.cell? ⟨b,o+10,V⟩=X (Z Y j.II)/\w.cell? ⟨b,o+11,V⟩=X (Z E j.win)/\w.cell? ⟨b,o+12,V⟩=X (U j.lA j.IK.length j.lc)/\w.cell? ⟨b,o+13,V⟩=X (Z Y j.IM)/\w.cell? ⟨b,o+14,V⟩=X (Z Y j.Jb)
theorem JL.row{l:List Jd}(h:JL w A l)(e:0<l.length):
  ∃b off,A=X ⟨b,off,V⟩/\b<w.heap.size/\∀i,i<l.length->FQ w b (off+i*15) (l.getD i cE):=by
 obtain⟨b,off,rfl,c,hc⟩:=h.cells.at_ (by rw[ms];omega)
 have a:b<w.heap.size:=c
 refine⟨b,off,rfl,a,fun i d=>?_⟩
 have k:=fun n v (hv:(ag (l.getD i cE))[n]? =X v)=>hc _ _ (zD l i n v d hv)
 exact⟨k 0 _ rfl,k 1 _ rfl,k 2 _ rfl,k 3 _ rfl,k 4 _ rfl,k 5 _ rfl,k 6 _ rfl,k 7 _ rfl,k 8 _ rfl,k 9 _ rfl,k 10 _ rfl,k 11 _ rfl,k 12 _ rfl,k 13 _ rfl,k 14 _ rfl⟩
def Hk(l:List Jd)(nm:ByteArray)(r:Int):Prop:=
 (r= -1/\∀j,j<l.length->(l.getD j cE).nm≠nm)\/∃k:Nat,k<l.length/\r=(k:Int)/\(l.getD k cE).nm=nm/\∀j,j<k->(l.getD j cE).nm≠nm
def qp(l:List Jd)(nm:ByteArray)(w:Q4)(e:Q9)(w':Q4):Prop:=∃r:Int,e=a_ (Z Y r)/\Hk l nm r/\ID w w'
def cV(j:Jd):Jd:=⟨j.nm,j.run,V,j.IJ,0,V,j.IC,0,j.IQ,j.ready,j.IE,j.base,j.cap,j.IG,j.II,j.win,V,j.IK,0,j.IM,j.Jb⟩
namespace Gm
def hasB(l:List ByteArray)(s:ByteArray):Bool:=l.any (fun x=>decide (x=s))
def J6:List Nat:=[114,117,110]
def Kl:List Nat:=[101,110,118]
def Ju:List Nat:=[110,101,101,100,115]
def Ka:List Nat:=[114,101,97,100,121]
def Jj:List Nat:=[114,101,115,116,97,114,116]
def Jm:List Nat:=[98,97,99,107,111,102,102]
def JJ:List Nat:=[98,117,114,115,116]
def Kb:List Nat:=[115,116,111,112]
def take(k:Nat):List IY->Option (IY×List IY)
 |[]=>V
 |t::r=>if t.IF=k then X (t,r) else V
def Jw(s:Nat):List IY->Bool
 |[]=>O
 |t::_=>t.IF==5&&t.text==[s]
def sign(s:Nat)(l:List IY):Option (List IY):=if Jw s l=G then X l.tail else V
def name(full:Bool)(l:List IY):Option (IY×List IY):=
 match take 1 l with
 |none=>V
 |some (t,r)=>if 32<t.text.length\/full=G then V else X (t,r)
def text(k a:Nat)(l:List IY):Option (ByteArray×List IY):=
 match take k l with
 |none=>V
 |some (t,r)=>if a<t.text.length then V else X (ab t.text,r)
def val(t:List Nat):Nat:=t.foldl (fun a c=>10*a+(c-48)) 0
def num(l:List IY):Option (Nat×List IY):=
 match take 2 l with
 |none=>V
 |some (t,r)=>if t.text.all Lx.I1=G/\0<t.text.length/\t.text.length<=18 then X (val t.text,r) else V
def IC : Nat -> Jd -> List IY -> Option (Jd × List IY)
  | 0, _, _ => V
  | f + 1, j, l => match name (decide (16 <= j.IC.length)) l with
    | none => V
    | some (t, r) => if hasB j.IC (ab t.text) = G then V else
      (let j' : Jd := { j with IC := j.IC ++ [ab t.text] }
       if Jw 44 r = G then IC f j' r.tail else X (j', r))
def JF(t:List Nat):Int:=
 if t=[72,85,80] then 1 else if t=[73,78,84] then 2 else if t=[81,85,73,84] then 3 else if t=[85,83,82,49] then 10 else if t=[85,83,82,50] then 12 else if t=[84,69,82,77] then 15 else 0
def I8 : Nat -> Jd -> List IY -> Option (Jd × List IY)
  | 0, _, _ => V
  | f + 1, j, l => match take 1 l with
    | none => V
    | some (t, r) => if 5 <= j.IK.length \/ JF t.text = 0 then V else
      (match num r with
       | none => V
       | some (n, r) =>
         let j' : Jd := { j with IK := j.IK ++ [(JF t.text, (n : Int))] }
         if Jw 44 r = G then I8 f j' r.tail else X (j', r))
def var(j : Jd)(l : List IY) : Option (Jd × List IY) :=
  match name (decide (16 <= j.IJ.length)) l with
  | none => V
  | some (t, r) => if hasB (j.IJ.map Prod.fst) (ab t.text) = G then V else
    (match sign 61 r with
     | none => V
     | some r => match text 3 512 r with
       | none => V
       | some (v, r) => X ({ j with IJ := j.IJ ++ [(ab t.text, v)] }, r))
def Ko(t:List Nat):Int:=if t=[97,108,119,97,121,115] then 3 else if t=[111,110,45,102,97,105,108,117,114,101] then 2 else if t=[110,101,118,101,114] then 1 else 0
def KM(w:List Nat)(j:Jd)(l:List IY):Option (Jd×List IY):=
 if w=J6 then(match text 3 512 l with|none=>V|some (s,r)=>X ({j with run:=s},r))
 else if w=Kl then var j l
 else if w=Ju then IC (l.length+1) j l
 else if w=Ka then(match text 4 128 l with|none=>V|some (s,r)=>X ({j with ready:=s,IQ:=G},r))
 else if w=Jj then(match take 1 l with|none=>V|some (t,r)=>if Ko t.text=0 then V else X ({j with IE:=Ko t.text},r))
 else if w=Jm then(match num l with|none=>V|some (a,l)=>match num l with|none=>V|some (b,l)=>match num l with|none=>V|some (c,l)=>X ({j with base:=a,cap:=b,IG:=c},l))
 else if w=JJ then(match num l with|none=>V|some (a,l)=>if a<1\/16<a then V else match num l with|none=>V|some (b,l)=>X ({j with II:=a,win:=b},l))
 else if w=Kb then I8 (l.length+1) {j with IK:=[]} l
 else V
def JH : Nat -> List (List Nat) -> Jd -> List IY -> Option (Jd × List IY)
  | 0, _, _, _ => V
  | f + 1, IH, j, l => if Jw 125 l = G then (if J6 ∈ IH then X (j, l.tail) else V) else
    (match take 1 l with
     | none => V
     | some (t, r) => if t.text ≠ Kl /\ t.text ∈ IH then V else
       (match KM t.text j r with
        | none => V
        | some (j', a) => JH f (if t.text = Kl then IH else IH ++ [t.text]) j' a))
def Jz(nm:ByteArray)(IM Jb:Int):Jd:=⟨nm,⟨#[]⟩,V,[],0,V,[],0,O,⟨#[]⟩,2,100,10000,10000,5,60000,V,[(15,5000)],0,IM,Jb⟩
def I6(full : Bool)(l : List IY) : Option (Jd × List IY) :=
  match take 1 l with
  | none => V
  | some (t, r) => if t.text ≠ [106, 111, 98] then V else
    (match name full r with
     | none => V
     | some (t, r) => match sign 123 r with
       | none => V
       | some r => JH (r.length + 1) [] (Jz (ab t.text) t.IM t.Jb) r)
def Js : Nat -> List Jd -> List IY -> Option (List Jd)
  | 0, _, _ => V
  | _ + 1, _, [] => V
  | f + 1, IW, t :: r => if t.IF = 6 then X IW else
    (match I6 (decide (32 <= IW.length)) (t :: r) with
     | none => V
     | some (j, a) => Js f (IW ++ [j]) a)
def parse(l:List IY):Option (List Jd):=Js (l.length+1) [] l
def load(t:List Nat):Option (List Jd):=match Lx.all t with|none=>V|some l=>parse l
end Gm
def Iz:List Nat:=[106,111,98,32,97,32,123,32,114,117,110,32,34,120,34,32,110,101,101,100,115,32,98,32,125,32,106,111,98,32,98,32,123,32,114,117,110,32,34,121,34,32,114,101,97,100,121,32,47,111,107,47,32,125]
def ON:List Jd:=[⟨⟨#[97]⟩,⟨#[120]⟩,V,[],0,V,[⟨#[98]⟩],0,O,⟨#[]⟩,2,100,10000,10000,5,60000,V,[(15,5000)],0,1,5⟩,
 ⟨⟨#[98]⟩,⟨#[121]⟩,V,[],0,V,[],0,G,⟨#[111,107]⟩,2,100,10000,10000,5,60000,V,[(15,5000)],0,1,31⟩]
theorem Do:Gm.load Iz=X ON:=by kernel_rfl
namespace Pt
def Lh:Nat->Nat->List Nat
 |0,_=>[]
 |f+1,n=>if n<10 then [48+n] else Lh f (n/10)++[48+n%10]
def dec(n:Nat):List Nat:=Lh 20 n
theorem xY(x:List Nat)(d:Nat):Gm.val (x++[48+d])=10*Gm.val x+d:=by simp[Gm.val]
theorem Nx:∀(f n:Nat),n<10^f->0<f->Gm.val (Lh f n)=n/\(∀d∈Lh f n,Lx.I1 d=G)/\(Lh f n).length<=f/\∃c r,Lh f n=c::r/\(c=48->n=0/\r=[]):=by
 intro f
 induction f with
 |zero=>intro n _ h;omega
 |succ f ih=>
  intro n a _;unfold Lh;split
  ·next h=>
   refine⟨by simp[Gm.val],fun d hd=>?_,by simp,48+n,[],rfl,fun e=>⟨by omega,rfl⟩⟩
   rw[r_.mp hd];simp only[Lx.I1,QP,decide_eq_true_eq];omega
  next h=>
  have i:0<f:=by grind
  have j:n/10<10^f:=by
   rw[Nat.div_lt_iff_lt_mul (by decide)]
   rw[QQ] at a;exact a
  obtain⟨h1,h2,_,c,r,b,g⟩:=ih (n/10) j i;refine⟨by rw[xY,h1];omega,fun d hd=>?_,by simp;omega,c,r++[48+n%10],by rw[b];rfl,fun e=>by have:=g e;omega⟩
  rcases wN.mp hd with e|e
  ·exact h2 d e
  rw[r_.mp e];simp only[Lx.I1,QP,decide_eq_true_eq];omega
theorem xv:∀(f n:Nat),n<10^f->0<f->Lh (f+1) n=Lh f n:=by
 intro f
 induction f with
 |zero=>intro n _ h;omega
 |succ f ih=>
  intro n a _;rw[Lh]
  conv=>rhs;rw[Lh]
  split
  ·rfl
  grind
theorem nH{n:Nat}(h:n<10^18):Gm.val (dec n)=n/\(∀d∈dec n,Lx.I1 d=G)/\(dec n).length<=18/\∃c r,dec n=c::r/\(c=48->r=[]):=by grind [dec,Lh,xv,Nx]
theorem tU{n:Nat}(h:n<10^18):Ke 2 (dec n) (dec n):=by
 obtain⟨_,h2,a,c,r,b,e⟩:=nH h;rw[b] at h2 a ⊢;exact BX (h2 c (by simp)) (fun d hd=>h2 d (by simp[hd])) (by simp at a;omega) e
def KI(s:Int):List Nat:=if s=1 then [72,85,80] else if s=2 then [73,78,84] else if s=3 then [81,85,73,84] else if s=10 then [85,83,82,49] else if s=12 then [85,83,82,50] else if s=15 then [84,69,82,77] else [63]
def J3(n:Int):List Nat:=if n=3 then [97,108,119,97,121,115] else if n=2 then [111,110,45,102,97,105,108,117,114,101] else if n=1 then [110,101,118,101,114] else [63]
def nN(s:Int):Prop:=s=1\/s=2\/s=3\/s=10\/s=12\/s=15
theorem uc{s:Int}(h:nN s):Gm.JF (KI s)=s/\Ke 1 (KI s) (KI s):=by
 rcases h with rfl|rfl|rfl|rfl|rfl|rfl<;>exact⟨by decide,dS (by decide) (by decide)⟩
theorem un{n:Int}(h:n=1\/n=2\/n=3):Gm.Ko (J3 n)=n/\Ke 1 (J3 n) (J3 n):=by
 rcases h with rfl|rfl|rfl<;>exact⟨by decide,dS (by decide) (by decide)⟩
def Kv(s:ByteArray):Prop:=(∃c r,bs s=c::r/\Lx.I9 c=G/\∀d∈r,Lx.word d=G)/\(bs s).length<=32/\ab (bs s)=s
theorem Kv.tok(h:Kv s):Ke 1 (bs s) (bs s):=by
 obtain⟨⟨c,r,e,h1,h2⟩,_⟩:=h;rw[e];exact dS h1 h2
def LX:List Nat:=[106,111,98]
def iX:List Nat:=[10,32,32]
def sp:List Nat:=[32]
def ik(v:ByteArray×ByteArray):List P:=[⟨iX,Gm.Kl,1,Gm.Kl⟩,⟨sp,bs v.1,1,bs v.1⟩,⟨sp,[61],5,[61]⟩,⟨sp,quote (bs v.2),3,bs v.2⟩]
def Jx:List (List P)->List P
 |[]=>[]
 |[p]=>p
 |p::q::r=>p++[⟨[],[44],5,[44]⟩]++Jx (q::r)
def fq(s:ByteArray):List P:=[⟨sp,bs s,1,bs s⟩]
def dM(r:Int×Int):List P:=[⟨sp,KI r.1,1,KI r.1⟩,⟨sp,dec r.2.toNat,2,dec r.2.toNat⟩]
def fp(l:List ByteArray):List P:=if l=[] then [] else⟨iX,Gm.Ju,1,Gm.Ju⟩::Jx (l.map fq)
def eK(j:Jd):List P:=if j.IQ=G then [⟨iX,Gm.Ka,1,Gm.Ka⟩,⟨sp,KY (bs j.ready),4,bs j.ready⟩] else []
def fW(n:Int):P:=⟨sp,dec n.toNat,2,dec n.toNat⟩
def ju(b:List Nat)(j:Jd):List P:=
 [⟨b,LX,1,LX⟩,⟨sp,bs j.nm,1,bs j.nm⟩,⟨sp,[123],5,[123]⟩,⟨iX,Gm.J6,1,Gm.J6⟩,⟨sp,quote (bs j.run),3,bs j.run⟩]++
 (j.IJ.flatMap ik++(fp j.IC++(eK j++
 ([⟨iX,Gm.Jj,1,Gm.Jj⟩,⟨sp,J3 j.IE,1,J3 j.IE⟩,⟨iX,Gm.Jm,1,Gm.Jm⟩,fW j.base,fW j.cap,fW j.IG,⟨iX,Gm.JJ,1,Gm.JJ⟩,fW j.II,fW j.win,⟨iX,Gm.Kb,1,Gm.Kb⟩]++
 (Jx (j.IK.map dM)++[⟨[10],[125],5,[125]⟩])))))
def JB:List Nat->List Jd->List P
 |_,[]=>[]
 |b,j::r=>ju b j++JB [10] r
structure Mz(j:Jd):Prop where
 nm:Kv j.nm
 run:(∀b∈bs j.run,b<256)/\(bs j.run).length<=512/\ab (bs j.run)=j.run
 IJ:∀v∈j.IJ,Kv v.1/\(∀b∈bs v.2,b<256)/\(bs v.2).length<=512/\ab (bs v.2)=v.2
 PC:(j.IJ.map Prod.fst).Nodup/\j.IJ.length<=16
 IC:∀s∈j.IC,Kv s
 OL:j.IC.Nodup/\j.IC.length<=16
 ready:j.IQ=true->OD (bs j.ready)/\(bs j.ready).length<=128/\ab (bs j.ready)=j.ready
 nr:j.IQ=false->j.ready=⟨#[]⟩
 rs:j.IE=1\/j.IE=2\/j.IE=3
 b:0<=j.base/\j.base<1000000
 c:0<=j.cap/\j.cap<1000000
 st:0<=j.IG/\j.IG<1000000
 bu:1<=j.II/\j.II<=16
 wi:0<=j.win/\j.win<1000000
 la:∀r∈j.IK,nN r.1/\0<=r.2/\r.2<1000000
 Qr:1<=j.IK.length/\j.IK.length<=5
theorem aF(p q:List P):flat (p++q)=flat p++flat q:=by simp[flat]
theorem Jo.LP:∀{p q:List P} {e:List Nat},Jo p [32]->Jo q e->(∀d,(flat q++e).head?=X d->Lx.word d=O)->Jo (p++q) e:=by
 intro p
 induction p with
 |nil=>grind
 |cons x p ih=>
  intro q e h j f;obtain⟨h1,h2,i,b⟩:=h;refine⟨h1,h2,fun hk=>?_,ih b j f⟩
  intro d hd
  replace hd:(flat (p++q)++e).head?=X d:=hd
  rw[aF,m_] at hd
  by_cases c:p=[]
  ·subst c;exact f d (by simpa [flat] using hd)
  have hne:flat p≠[]:=by
   intro g;have:=eE b;rw[g] at this;simp at this;exact c this
  refine i hk d ?_;cases a:flat p with
  |nil=>exact absurd a hne
  |cons y k=>rw[a] at hd;exact hd
theorem LC.sp(r:List Nat):LC (32::r):=fun d hd=>by injection hd with hd;subst hd;rfl
theorem LC.nl(r:List Nat):LC (10::r):=fun d hd=>by injection hd with hd;subst hd;rfl
theorem LC.com(r:List Nat):LC (44::r):=fun d hd=>by injection hd with hd;subst hd;rfl
theorem fV:LA O sp=X O:=by decide
theorem gY:LA O iX=X O:=by decide
theorem it(p:P)(ps:List P):flat (p::ps)=p.b++(p.x++flat ps):=by simp[flat]
theorem eI:Jo [] [32]:=by show LA O [32]=X O;decide
theorem fG{b x y:List Nat}{k:Nat}{ps:List P}(a:LA O b=X O)(d:Ke k x y)(c:LC (flat ps++[32]))(hc:Jo ps [32]):Jo (⟨b,x,k,y⟩::ps) [32]:=⟨a,d,fun _=>c,hc⟩
theorem fX(x y:List Nat)(k:Nat)(ps:List P)(e:List Nat):LC (flat (⟨sp,x,k,y⟩::ps)++e):=by rw[it];exact LC.sp _
theorem gX(x y:List Nat)(k:Nat)(ps:List P)(e:List Nat):LC (flat (⟨iX,x,k,y⟩::ps)++e):=by rw[it];exact LC.nl _
theorem gu:LC (flat []++[32]):=LC.sp _
theorem BZ:Ke 1 Gm.Kl Gm.Kl:=dS (by decide) (by decide)
theorem BW:Ke 1 Gm.J6 Gm.J6:=dS (by decide) (by decide)
theorem vI:Ke 1 Gm.Ju Gm.Ju:=dS (by decide) (by decide)
theorem vH:Ke 1 Gm.Ka Gm.Ka:=dS (by decide) (by decide)
theorem qI:Ke 1 Gm.Jj Gm.Jj:=dS (by decide) (by decide)
theorem qJ:Ke 1 Gm.Jm Gm.Jm:=dS (by decide) (by decide)
theorem vJ:Ke 1 Gm.JJ Gm.JJ:=dS (by decide) (by decide)
theorem ya:Ke 1 Gm.Kb Gm.Kb:=dS (by decide) (by decide)
theorem BY:Ke 1 LX LX:=dS (by decide) (by decide)
theorem xz{v:ByteArray×ByteArray}(h1:Kv v.1)(h2:∀b∈bs v.2,b<256):Jo (ik v) [32]:=
 fG gY BZ (fX _ _ _ _ _) (fG fV h1.tok (fX _ _ _ _ _) (fG fV (kH (by decide)) (fX _ _ _ _ _) (fG fV (mQ h2) gu eI)))
theorem tz{g:α->List P}:∀{l:List α},(∀v∈l,Jo (g v) [32]/\∀d,(flat (g v)++[32]).head?=X d->Lx.word d=O)->Jo (l.flatMap g) [32]/\∀d,(flat (l.flatMap g)++[32]).head?=X d->Lx.word d=O:=by
 intro l
 induction l with
 |nil=>intro _;exact⟨eI,gu⟩
 |cons v l ih=>
  intro h;obtain⟨h1,h2⟩:=ih (fun u c=>h u (by simp[c]))
  obtain⟨a,_⟩:=h v (by simp)
  rw[yr];refine⟨a.LP h1 h2,fun d hd=>?_⟩
  rw[aF,m_] at hd;cases b:flat (g v) with
  |nil=>rw[b] at hd;exact h2 d hd
  |cons y e=>grind
theorem pm:∀{l:List (List P)},(∀p∈l,Jo p [32]/\LC (flat p++[32]))->Jo (Jx l) [32]/\LC (flat (Jx l)++[32]):=by
 intro l
 induction l with
 |nil=>intro _;exact⟨eI,gu⟩
 |cons p l ih=>
  intro h;cases l with
  |nil=>exact h p (by simp)
  |cons q r=>
   obtain⟨h1,h2⟩:=ih (fun u f=>h u (by simp[f]))
   obtain⟨e,a⟩:=h p (by simp)
   unfold Jx;have hc:Jo (⟨[],[44],5,[44]⟩::Jx (q::r)) [32]:=⟨by decide,kH (by decide),fun hk=>absurd hk (by decide),h1⟩
   have c:LC (flat (⟨[],[44],5,[44]⟩::Jx (q::r))++[32]):=by rw[it];exact LC.com _
   rw[m_];refine⟨e.LP hc c,fun d hd=>?_⟩
   rw[aF,m_] at hd;cases b:flat p with
   |nil=>rw[b] at hd;exact c d hd
   |cons y g=>rw[b] at hd a;exact a d hd
theorem jT{p q:List P}(c:Jo p [32]/\LC (flat p++[32]))(b:Jo q [32]/\LC (flat q++[32])):Jo (p++q) [32]/\LC (flat (p++q)++[32]):=by
 refine⟨c.1.LP b.1 b.2,fun d hd=>?_⟩
 rw[aF,m_] at hd;cases a:flat p with
 |nil=>rw[a] at hd;exact b.2 d hd
 |cons y e=>rw[a] at hd;have:=c.2;rw[a] at this;exact this d hd
theorem my{n:Int}(a:0<=n)(h:n<1000000):n.toNat<10^18:=by omega
theorem xB{j:Jd}(h:Mz j){b:List Nat}(w:LA O b=X O):Jo (ju b j) [32]:=by
 have a:∀{x y:List Nat} {k:Nat} {b:List Nat} {ps:List P},LA O b=X O->Ke k x y->Jo ps [32]/\LC (flat ps++[32])->Jo (⟨b,x,k,y⟩::ps) [32]:=fun h1 h2 e=>fG h1 h2 e.2 e.1
 have m:Jo [⟨[10],[125],5,[125]⟩] [32]/\LC (flat [⟨[10],[125],5,[125]⟩]++[32]):=⟨fG (by decide) (kH (by decide)) gu eI,LC.nl _⟩
 have h1:Jo (Jx (j.IK.map dM)) [32]/\LC (flat (Jx (j.IK.map dM))++[32]):=pm (fun p f=>by
  obtain⟨r,g,rfl⟩:=u5.mp f;obtain⟨a1,a2,a3⟩:=h.la r g;exact⟨a fV (uc a1).2 ⟨a fV (tU (my a2 a3)) ⟨eI,gu⟩,fX _ _ _ _ _⟩,fX _ _ _ _ _⟩)
 have h2:=jT h1 m
 have d:∀{n:Int} {ps:List P},0<=n->n<1000000->Jo ps [32]/\LC (flat ps++[32])->Jo (fW n::ps) [32]/\LC (flat (fW n::ps)++[32]):=fun a1 a2 a3=>⟨a fV (tU (my a1 a2)) a3,fX _ _ _ _ _⟩
 have e:Jo ([⟨iX,Gm.Jj,1,Gm.Jj⟩,⟨sp,J3 j.IE,1,J3 j.IE⟩,⟨iX,Gm.Jm,1,Gm.Jm⟩,fW j.base,fW j.cap,fW j.IG,⟨iX,Gm.JJ,1,Gm.JJ⟩,fW j.II,fW j.win,⟨iX,Gm.Kb,1,Gm.Kb⟩]++(Jx (j.IK.map dM)++[⟨[10],[125],5,[125]⟩])) [32]/\LC (flat ([⟨iX,Gm.Jj,1,Gm.Jj⟩,⟨sp,J3 j.IE,1,J3 j.IE⟩,⟨iX,Gm.Jm,1,Gm.Jm⟩,fW j.base,fW j.cap,fW j.IG,⟨iX,Gm.JJ,1,Gm.JJ⟩,fW j.II,fW j.win,⟨iX,Gm.Kb,1,Gm.Kb⟩]++(Jx (j.IK.map dM)++[⟨[10],[125],5,[125]⟩]))++[32]):=by
  have a1:=a (b:=iX) gY ya h2
  have a2:=d h.wi.1 h.wi.2 ⟨a1,gX _ _ _ _ _⟩
  have a3:=d (n:=j.II) (by have:=h.bu;omega) (by have:=h.bu;omega) a2
  have i:=a (b:=iX) gY vJ a3
  have a5:=d h.st.1 h.st.2 ⟨i,gX _ _ _ _ _⟩
  have l:=d h.c.1 h.c.2 a5
  have a7:=d h.b.1 h.b.2 l
  have a8:=a (b:=iX) gY qJ a7
  have a9:=a (b:=sp) fV (un h.rs).2 ⟨a8,gX _ _ _ _ _⟩
  exact⟨a (b:=iX) gY qI ⟨a9,fX _ _ _ _ _⟩,gX _ _ _ _ _⟩
 have o:Jo (eK j) [32]/\LC (flat (eK j)++[32]):=by
  unfold eK;split
  ·next g=>exact⟨a gY vH ⟨a fV (LZ (h.ready g).1) ⟨eI,gu⟩,fX _ _ _ _ _⟩,gX _ _ _ _ _⟩
  exact⟨eI,gu⟩
 have q:Jo (fp j.IC) [32]/\LC (flat (fp j.IC)++[32]):=by
  unfold fp;split
  ·exact⟨eI,gu⟩
  have a1:Jo (Jx (j.IC.map fq)) [32]/\LC (flat (Jx (j.IC.map fq))++[32]):=pm (fun p f=>by
   obtain⟨s,hs,rfl⟩:=u5.mp f;exact⟨a fV (h.IC s hs).tok ⟨eI,gu⟩,fX _ _ _ _ _⟩)
  exact⟨a gY vI a1,gX _ _ _ _ _⟩
 have t:Jo (j.IJ.flatMap ik) [32]/\LC (flat (j.IJ.flatMap ik)++[32]):=tz (fun v hv=>⟨xz (h.IJ v hv).1 (h.IJ v hv).2.1,gX _ _ _ _ _⟩)
 have u:=jT t (jT q (jT o e))
 exact a w BY ⟨a fV h.nm.tok ⟨a fV (kH (by decide)) ⟨a gY BW ⟨a fV (mQ h.run.1) u,fX _ _ _ _ _⟩,gX _ _ _ _ _⟩,fX _ _ _ _ _⟩,fX _ _ _ _ _⟩
theorem KO:∀{js:List Jd} {b:List Nat},(∀j∈js,Mz j)->LA O b=X O->Jo (JB b js) [10]:=by
 intro js
 induction js with
 |nil=>intro b _ _;show LA O [10]=X O;decide
 |cons j js ih=>
  intro b h a;refine(xB (h j (by simp)) a).LP (ih (b:=[10]) (fun k hk=>h k (by simp[hk])) (by decide)) (fun d hd=>?_)
  cases js with
  |nil=>exact LC.nl [] d hd
  |cons k js=>
   have e:flat (JB [10] (k::js))++[10]=10::((flat (JB [10] (k::js))++[10]).tail):=by
    unfold JB ju;rw[h_,h_,h_,it];rfl
   rw[e] at hd;exact LC.nl _ d hd
end Pt
theorem aE(a b:List Nat):ab a++ab b=ab (a++b):=by
 unfold ab;rw[QR];exact ByteArray.ext (by simp[ByteArray.data_append])
theorem aD(l:List Nat):(ab l).size=l.length:=by unfold ab;show(l.map oR).toArray.size=_;simp
theorem Fq{a b:List Nat}(h:a.length+b.length<=1000000000):¬9223372036854775807<(ab a).size+(ab b).size:=by grind [aD]
theorem yO(n:Nat)(w:Q4)(a:n<10):Q6 Rj 195 #[Z E (n:Int)] w (RO_ (Q (ab [48+n])) w):=by
 have q1:decide ((n:Int)<10)=G:=by rw[decide_eq_true_iff];omega
 have f:hC.wrap (48+(n:Int))=((48+n:Nat):Int):=by rw[D_ _ (by omega)];omega
 have w2:e_.wrap (((48+n:Nat):Int))=((48+n:Nat):Int):=fe _ (by omega)
 have e:(convert 40 9 (U (X ⟨w.heap.size,0,V⟩) 1 1)).run Rj (w.alloc (H #[Z c_ ((48+n:Nat):Int)] 5))= .ok (Q (ab [48+n])) (w.alloc (H #[Z c_ ((48+n:Nat):Int)] 5)):=jf (jJ w #[Z c_ ((48+n:Nat):Int)] 1 1 5 (by decide) rfl) (IW:=[48+n]) (by intro b d;simp at d;omega)
 have c:=aJ ((ID.refl w).alloc (H #[Z c_ ((48+n:Nat):Int)] 5))
 clear a;generalize 48+n=m at *;go_enter func195,ntmps195;go_wp2;go_ret;exact⟨rfl,c⟩
theorem Gk:∀(f n:Nat) (w:Q4),f<=30->n<10^(f+1)->n<1000000->Q6 Rj 195 #[Z E (n:Int)] w (RO_ (Q (ab (Pt.Lh (f+1) n))) w):=by
 intro f
 induction f with
 |zero=>
  intro n w _ h l;have k:Pt.Lh (0+1) n=[48+n]:=by rw[Pt.Lh,ps_ (by omega)]
  rw[k];exact yO n w (by omega)
 |succ f ih=>
  intro n w i h l
  by_cases a:n<10
  ·rw[Pt.Lh,ps_ a];exact yO n w a
  have o:(0:Int)<=(n:Int):=by omega
  have q1:decide ((n:Int)<10)=O:=by rw[decide_eq_false_iff_not];omega
  have m:(10:Nat)^(f+1+1)=10*10^(f+1):=by rw[QQ];omega
  have b:=aJ (fun W=>ih (n/10) W (by omega) (by omega) (by omega))
  have c:=aJ (fun W=>yO (n%10) W (u_ _ (by decide)))
  have hsz:¬9223372036854775807<(ab (Pt.Lh (f+1) (n/10))).size+(ab [48+n%10]).size:=Fq (by have:=(Pt.Nx (f+1) (n/10) (by omega) (by omega)).2.2.1;simp;omega)
  rw[Pt.Lh,ng_ a];have g:=aJ (aE (Pt.Lh (f+1) (n/10)) [48+n%10]);obtain⟨x,hx⟩:∃x,n/10=x:=⟨_,rfl⟩
  obtain⟨y,hy⟩:∃y,n%10=y:=⟨_,rfl⟩
  rw[hx] at b g hsz ⊢;rw[hy] at c g hsz ⊢;have v1:hC.wrap ((n:Int)/10)=(x:Int):=by rw[D_ _ (by omega)];omega
  have v2:(n:Int).tmod 10=(y:Int):=by rw[i_ (by omega)];omega
  have v5:hC.wrap ((n:Int).tdiv 10)=(x:Int):=by rw[Int.tdiv_eq_ediv_of_nonneg (by omega)];exact v1
  have v3:(n:Int)/10=(x:Int):=by omega
  have v4:(n:Int)%10=(y:Int):=by omega
  clear hx hy;clear ih h a m i;go_enter func195,ntmps195;go_wp2_with fail;refine(b _).mono ?_;rintro e w2 ⟨rfl,hd⟩;have j:=aJ hd;clear hd b;go_wp2_with fail;refine(c _).mono ?_;rintro e _ ⟨rfl,hd⟩;have d:=aJ (j.up hd);clear hd c j;go_wp2;go_ret;exact⟨by rw[g.out];rfl,d⟩
theorem Gl(n:Int)(a:0<=n)(h:n<1000000)(w:Q4):Q6 Rj 195 #[Z E n] w (RO_ (Q (ab (Pt.dec n.toNat))) w):=by
 obtain⟨m,rfl⟩:=Int.eq_ofNat_of_zero_le a;exact Gk 19 m w (by decide) (by omega) (by omega)
theorem Gh(n:Int)(a:n=1\/n=2\/n=3)(w:Q4):Q6 Rj 194 #[Z Y n] w fun e w'=>e=a_ (Q (ab (Pt.J3 n)))/\w'=w:=by
 rcases a with rfl|rfl|rfl
 all_goals
  go_enter func194,ntmps194
  go_wp2
  go_ret;exact⟨rfl,rfl⟩
theorem Cs(s:ByteArray)(w:Q4)(hs:s.size<=100000)(h:∀b∈bs s,b≠47):Q6 Rj 193 #[Q s] w (RO_ (Q s) w):=by
 have n:Hid (∀k (m:k<s.size),s[k].toNat≠47/\Jp ((bs s).take (k+1))=Jp ((bs s).take k)++[Z c_ (s[k].toNat:Nat)]):=aJ (fun k m=>by
  have hk:k<(bs s).length:=by rw[af];exact m
  have e:(bs s)[k]=s[k].toNat:=by rw[<-be s k m,bD,bE hk];rfl
  refine⟨by rw[<-e];exact h _ (bH hk),?_⟩
  rw[QM hk,i6,e])
 clear h;go_enter func193,ntmps193;go_wp2;go_loopw [3,4] (fun v4 v5 wr=>∃k:Nat,v5=Z Y (k:Int)/\k<=s.size/\Hid (IL wr w.heap.size 5 1 v4 k (Jp ((bs s).take k)))/\Hid (ID w wr)) (fun _ v5 _=>s.size-(intOf v5).toNat)
 case atStart=>exact⟨0,rfl,bO _,aJ (IL.Jk _ _ _ _),aJ (ID.refl w)⟩
 obtain⟨k,rfl,hk,c,g⟩:=hrel;obtain⟨q,c4,rfl,_,_,_⟩:=c.shape
 by_cases a:k<s.size
 ·have z:(0:Int)<=(k:Int):=by omega
  have A:(k:Int)<(s.size:Int):=by omega
  have wk:d_.wrap ((k:Int)+1)=(k:Int)+1:=bV _ (by omega)
  have u:((s[k].toNat:Int)==47)=O:=by have:=(n k a).1;rw[beq_eq_false_iff_ne];omega
  have f:=(n k a).2
  have o:Hid (∀v W,IL W w.heap.size 5 1 v (k+1) (Jp ((bs s).take k)++[Z c_ (s[k].toNat:Nat)])->ID w W->∃i:Nat,fm Y ((k:Int)+1)=Z Y (i:Int)/\i<=s.size/\Hid (IL W w.heap.size 5 1 v i (Jp ((bs s).take i)))/\Hid (ID w W)):=aJ (fun v W h1 h2=>⟨k+1,rfl,a,aJ (by rw[f];exact h1),aJ h2⟩)
  have r:Hid (w.heap.size<=wr.heap.size):=aJ g.size
  clear f;go_wp2_with (at_builtin;refine aw (wr:=wr) rfl _ _ 40 rfl _ 5 (Z c_ 0) 1 1 underlying40 dD rfl (by decide) (by decide) _ _ _ rfl c 1 1 [Z c_ (s[k].toNat:Nat)] rfl rfl rfl rfl ?pn1 r ?_)
  case pn1=>omega
  intro v' y p f l;have t:=aJ (o v' y p (IL.IU g c (bM _) f));clear p f l o c g;go_wp2;go_roundw
  case rel=>exact t
  simp[intOf];omega
 obtain rfl:k=s.size:=by omega
 have d:Hid (IL wr w.heap.size 5 1 (U q (bs s).length c4) (bs s).length (Jp (bs s))):=aJ (by have:=c;rw[k9 (by rw[af];exact bM _)] at this;rw[af];exact this)
 have j:=jf d (fun b x=>ed x)
 rw[dU,af] at j;clear c d;go_wp2;go_ret;exact⟨rfl,g⟩
end Go.Proofs.YtflccikncbhpdaaGreatDoor
namespace Go.Proofs
open Go.Shelf
def lays137_ren:o_:=⟨fun|137=>254|217=>277|266=>292|n=>n,fun|9=>9|5=>5|3=>3|n=>n,fun|n=>n⟩
theorem lays137:Go.Proofs.Lays.n137 Rj lays137_ren:={
 mixed:=by kernel_rfl
 f137:=func254.trans (congrArg X (by kernel_rfl))
 f217:=func277.trans (congrArg X (by kernel_rfl))
 f266:=func292.trans (congrArg X (by kernel_rfl))
 t3:=underlying3
 a3:=isAgg3
 z3:=sizeOf3
 v3:=zeroValue3
 t5:=underlying5
 a5:=isAgg5
 z5:=sizeOf5
 v5:=zeroValue5
 t9:=underlying9
 a9:=isAgg9
 z9:=sizeOf9
 v9:=zeroValue9}
open Go.RowKit in

theorem strings_IndexByte(s:ByteArray)(c:Int)(w:Q4):
  Q6 Rj 254 #[Q s,Z c_ c] w fun e w'=>e=a_ (Z Y (j_ s.data.toList c.toNat.toUInt8))/\w'=w:=Any.strings_IndexByte lays137 s c w
def laysPu14_ren:o_:=⟨fun|14=>263|16=>282|17=>283|19=>295|20=>296|21=>297|22=>298|23=>299|24=>300|25=>306|27=>308|26=>307|28=>310|29=>311|30=>312|31=>313|32=>314|33=>315|35=>127|34=>316|36=>317|37=>318|38=>319|39=>320|40=>321|n=>n,fun|9=>9|3=>3|22=>60|24=>96|25=>362|4=>4|34=>391|5=>5|36=>133|37=>40|0=>0|39=>393|21=>21|44=>400|47=>389|50=>403|48=>401|2=>2|52=>405|55=>407|59=>410|60=>231|20=>20|61=>411|65=>412|66=>413|67=>375|n=>n,fun|0=>9|1=>10|2=>11|3=>12|4=>13|n=>n⟩
theorem laysPu14:Go.Proofs.LaysPu.n14 Rj laysPu14_ren:={
 mixed:=by kernel_rfl
 f14:=func263.trans (congrArg X (by kernel_rfl))
 f16:=func282.trans (congrArg X (by kernel_rfl))
 f17:=func283.trans (congrArg X (by kernel_rfl))
 f19:=func295.trans (congrArg X (by kernel_rfl))
 f20:=func296.trans (congrArg X (by kernel_rfl))
 f21:=func297.trans (congrArg X (by kernel_rfl))
 f22:=func298.trans (congrArg X (by kernel_rfl))
 f23:=func299.trans (congrArg X (by kernel_rfl))
 f24:=func300.trans (congrArg X (by kernel_rfl))
 f25:=func306.trans (congrArg X (by kernel_rfl))
 f26:=func307.trans (congrArg X (by kernel_rfl))
 f27:=func308.trans (congrArg X (by kernel_rfl))
 f28:=func310.trans (congrArg X (by kernel_rfl))
 f29:=func311.trans (congrArg X (by kernel_rfl))
 f30:=func312.trans (congrArg X (by kernel_rfl))
 f31:=func313.trans (congrArg X (by kernel_rfl))
 f32:=func314.trans (congrArg X (by kernel_rfl))
 f33:=func315.trans (congrArg X (by kernel_rfl))
 f34:=func316.trans (congrArg X (by kernel_rfl))
 f35:=func127.trans (congrArg X (by kernel_rfl))
 f36:=func317.trans (congrArg X (by kernel_rfl))
 f37:=func318.trans (congrArg X (by kernel_rfl))
 f38:=func319.trans (congrArg X (by kernel_rfl))
 f39:=func320.trans (congrArg X (by kernel_rfl))
 f40:=func321.trans (congrArg X (by kernel_rfl))
 t0:=underlying0
 a0:=isAgg0
 z0:=sizeOf0
 v0:=zeroValue0
 i0:=by kernel_rfl
 t2:=underlying2
 a2:=isAgg2
 z2:=sizeOf2
 v2:=zeroValue2
 i2:=by kernel_rfl
 t3:=underlying3
 a3:=isAgg3
 z3:=sizeOf3
 v3:=zeroValue3
 i3:=by kernel_rfl
 t4:=underlying4
 a4:=isAgg4
 z4:=sizeOf4
 v4:=zeroValue4
 i4:=by kernel_rfl
 t5:=underlying5
 a5:=isAgg5
 z5:=sizeOf5
 v5:=zeroValue5
 i5:=by kernel_rfl
 t9:=underlying9
 a9:=isAgg9
 z9:=sizeOf9
 v9:=zeroValue9
 i9:=by kernel_rfl
 t20:=underlying20
 a20:=isAgg20
 z20:=sizeOf20
 v20:=zeroValue20
 i20:=by kernel_rfl
 t21:=underlying21
 a21:=isAgg21
 z21:=sizeOf21
 v21:=zeroValue21
 i21:=by kernel_rfl
 t22:=underlying60
 a22:=isAgg60
 z22:=sizeOf60
 v22:=zeroValue60
 i22:=by kernel_rfl
 t24:=underlying96
 a24:=isAgg96
 z24:=sizeOf96
 v24:=zeroValue96
 i24:=by kernel_rfl
 t25:=underlying362
 a25:=isAgg362
 z25:=sizeOf362
 v25:=zeroValue362
 i25:=by kernel_rfl
 t34:=underlying391
 a34:=isAgg391
 z34:=sizeOf391
 v34:=zeroValue391
 i34:=by kernel_rfl
 c34:=by kernel_rfl
 t36:=underlying133
 a36:=isAgg133
 z36:=sizeOf133
 v36:=zeroValue133
 i36:=by kernel_rfl
 t37:=underlying40
 a37:=isAgg40
 z37:=sizeOf40
 v37:=zeroValue40
 i37:=by kernel_rfl
 t39:=underlying393
 a39:=isAgg393
 z39:=sizeOf393
 v39:=zeroValue393
 i39:=by kernel_rfl
 t44:=underlying400
 a44:=isAgg400
 z44:=sizeOf400
 v44:=zeroValue400
 i44:=by kernel_rfl
 t47:=underlying389
 a47:=isAgg389
 z47:=sizeOf389
 v47:=zeroValue389
 i47:=by kernel_rfl
 t48:=underlying401
 a48:=isAgg401
 z48:=sizeOf401
 v48:=zeroValue401
 i48:=by kernel_rfl
 t50:=underlying403
 a50:=isAgg403
 z50:=sizeOf403
 v50:=zeroValue403
 i50:=by kernel_rfl
 t52:=underlying405
 a52:=isAgg405
 z52:=sizeOf405
 v52:=zeroValue405
 i52:=by kernel_rfl
 t55:=underlying407
 a55:=isAgg407
 z55:=sizeOf407
 v55:=zeroValue407
 i55:=by kernel_rfl
 t59:=underlying410
 a59:=isAgg410
 z59:=sizeOf410
 v59:=zeroValue410
 i59:=by kernel_rfl
 t60:=underlying231
 a60:=isAgg231
 z60:=sizeOf231
 v60:=zeroValue231
 i60:=by kernel_rfl
 t61:=underlying411
 a61:=isAgg411
 z61:=sizeOf411
 t65:=underlying412
 a65:=isAgg412
 z65:=sizeOf412
 v65:=zeroValue412
 i65:=by kernel_rfl
 t66:=underlying413
 a66:=isAgg413
 z66:=sizeOf413
 v66:=zeroValue413
 i66:=by kernel_rfl
 t67:=underlying375
 a67:=isAgg375
 z67:=sizeOf375
 v67:=zeroValue375
 i67:=by kernel_rfl
 g0:=by kernel_rfl
 m0:=by kernel_rfl
 g1:=by kernel_rfl
 m1:=by kernel_rfl
 g2:=by kernel_rfl
 m2:=by kernel_rfl
 g3:=by kernel_rfl
 m3:=by kernel_rfl
 g4:=by kernel_rfl
 m4:=by kernel_rfl}
open Go.RowKit in

theorem strconv_ParseUint_10_at64_ok(s:ByteArray)(hmax:s.size<=9223372036854775806)(u:Nat)(h:Lib.parseUintB 64 s.data.toList= .ok u)(w:Q4):
  Q6 Rj 263 #[Q s,Z Y 10,Z Y 64] w fun e w'=>e=a_ (b_ #[Z E u,.nilIface])/\(w'=w\/w'=Lib.bytesWorld w 5 s):=Any.strconv_ParseUint_10_at64_ok laysPu14 s hmax u h w
def lays110_ren:o_:=⟨fun|110=>142|109=>211|n=>n,fun|31=>59|9=>9|4=>4|3=>3|0=>0|n=>n,fun|n=>n⟩
theorem lays110:Go.Proofs.Lays.n110 Rj lays110_ren:={
 mixed:=by kernel_rfl
 f109:=func211.trans (congrArg X (by kernel_rfl))
 f110:=func142.trans (congrArg X (by kernel_rfl))
 t0:=underlying0
 a0:=isAgg0
 z0:=sizeOf0
 v0:=zeroValue0
 t3:=underlying3
 a3:=isAgg3
 z3:=sizeOf3
 v3:=zeroValue3
 t4:=underlying4
 a4:=isAgg4
 z4:=sizeOf4
 v4:=zeroValue4
 t9:=underlying9
 a9:=isAgg9
 z9:=sizeOf9
 v9:=zeroValue9
 t31:=underlying59
 a31:=isAgg59
 z31:=sizeOf59
 v31:=zeroValue59}
open Go.Lib in

theorem slices_Contains_string(b off n c:Nat)(zs:List ByteArray)(x:ByteArray)(w:Q4)(hz:n<=zs.length)(hbig:n<=9223372036854775807)(hc:∀j,j<zs.length->w.cell? ⟨b,off+j,V⟩=X (Q (zs.getD j ByteArray.empty))):
  Q6 Rj 142 #[U (X ⟨b,off,V⟩) n c,Q x] w fun e w'=>e=a_ (K (Lib.containsS (zs.take n) x))/\w'=w:=Any.slices_Contains_string lays110 b off n c zs x w hz hbig hc
open Go.Lib in

theorem slices_Contains_string_empty(a:Option Q8)(c:Nat)(x:ByteArray)(w:Q4):
  Q6 Rj 142 #[U a 0 c,Q x] w fun e w'=>e=a_ (K O)/\w'=w:=Any.slices_Contains_string_empty lays110 a c x w
end Go.Proofs
namespace Go.Proofs.YtflccikncbhpdaaGreatDoor
open Go.RowKit Go.Shelf
set_option linter.unusedVariables false
namespace Lx
theorem ND(r:List Nat):∀a l c,skip G r a l c=skip O (r.drop (r.takeWhile (· !=10)).length) (a+(r.takeWhile (· !=10)).length) l (c+(r.takeWhile (· !=10)).length):=by
 induction r with
 |nil=>intro a l c;simp[skip]
 |cons b r ih=>
  intro a l c
  by_cases h:b=10
  ·subst h;simp[skip]
  have e:(b !=10)=G:=by simp[h]
  rw[H_ (p:=fun x=>x !=10) e,fb,se,skip,ng_ h,ih]
  congr 1<;>omega
end Lx
def scO(s:ByteArray)(a l c:Nat):Obj:=H #[Q s,Z Y a,Z Y l,Z Y c] 319 (0,0)
structure SC(w0 w:Q4)(g:Nat)(s:ByteArray)(a l c:Nat):Prop where
 gr:w0.grownBy w (some g)
 I2:w.heap[g]? =some (scO s a l c)
theorem SC.cells{l c:Nat}(h:SC w0 w g s a l c):
  w.cell? ⟨g,0,V⟩=X (Q s)/\w.cell? ⟨g,1,V⟩=X (Z Y a)/\w.cell? ⟨g,2,V⟩=X (Z Y l)/\w.cell? ⟨g,3,V⟩=X (Z Y c)/\w.frozen? ⟨g,1,V⟩=O/\w.frozen? ⟨g,2,V⟩=O/\w.frozen? ⟨g,3,V⟩=O:=
 ⟨by rw[aK w g 0 _ _ _ h.I2];rfl,by rw[aK w g 1 _ _ _ h.I2];rfl,by rw[aK w g 2 _ _ _ h.I2];rfl,by rw[aK w g 3 _ _ _ h.I2];rfl,aN w g 1 _ _ h.I2,aN w g 2 _ _ h.I2,aN w g 3 _ _ h.I2⟩
theorem ay(w:Q4)(g i:Nat)(v:Q5):w.grownBy (w.setCell ⟨g,i,V⟩ v) (X g):=⟨rfl,rfl,rfl,by simp,fun k _ hk=>aL w ⟨g,i,V⟩ k _ (fun e=>hk (by simp[e]))⟩
theorem SC.up{l c:Nat}(h:SC w0 w g s a l c)(b:ID w w'):SC w0 w' g s a l c:=⟨dR h.gr b,b.block h.I2⟩
theorem SC.at_{l c:Nat}(h:SC w0 w g s a l c)(a':Nat):SC w0 (w.setCell ⟨g,1,V⟩ (Z Y (a':Int))) g s a' l c:=
 ⟨h.gr.trans (ay w g 1 _),aO w g 1 _ _ _ h.I2⟩
theorem SC.ln{l c:Nat}(h:SC w0 w g s a l c)(l':Nat):SC w0 (w.setCell ⟨g,2,V⟩ (Z Y (l':Int))) g s a l' c:=
 ⟨h.gr.trans (ay w g 2 _),aO w g 2 _ _ _ h.I2⟩
theorem SC.co{l c:Nat}(h:SC w0 w g s a l c)(c':Nat):SC w0 (w.setCell ⟨g,3,V⟩ (Z Y (c':Int))) g s a l c':=
 ⟨h.gr.trans (ay w g 3 _),aO w g 3 _ _ _ h.I2⟩
def ql(w0:Q4)(g:Nat)(s:ByteArray)(a l c:Nat)(e:Q9)(w':Q4):Prop:=e=a_ (b_ #[])/\SC w0 w' g s a l c
theorem DH(w0:Q4)(g:Nat)(s:ByteArray)(a l c n:Nat)(w:Q4)(h:SC w0 w g s a l c)(f:a+n<=1000000)(hc:c+n<=1000000):
  Q6 Rj 210 #[M (X ⟨g,0,V⟩),Z Y (n:Int)] w (ql w0 g s (a+n) l (c+n)):=by
 obtain⟨_,c1,_,_,f1,_,_⟩:=h.cells;have h2:=(h.at_ (a+n)).co (c+n);rw[QS,QS] at h2;have b:=aJ h2;have d:d_.wrap ((a:Int)+(n:Int))=(a:Int)+(n:Int):=bV _ (by omega)
 have e:d_.wrap ((c:Int)+(n:Int))=(c:Int)+(n:Int):=bV _ (by omega)
 go_enter func210,ntmps210
 go_wp2
 go_end0
 exact⟨rfl,b⟩
def Ba(w0:Q4)(g:Nat)(s:ByteArray)(R:List Nat×Nat×Nat×Nat)(e:Q9)(w':Q4):Prop:=
 ∃a l c,e=a_ (b_ #[])/\R=((bs s).drop a,a,l,c)/\SC w0 w' g s a l c/\a<=s.size/\l<=a+1/\c<=a+1
def rX(w0:Q4)(g:Nat)(s:ByteArray)(R:List Nat×Nat×Nat×Nat)(wr:Q4):Prop:=
 ∃a l c,Lx.skip O ((bs s).drop a) a l c=R/\SC w0 wr g s a l c/\a<=s.size/\l<=a+1/\c<=a+1
def Lc(w:Q4)(g:Nat):Nat:=match w.cell? ⟨g,1,V⟩ with|some v=>(intOf v).toNat|none=>0
theorem SC.Lc{l c:Nat}(h:SC w0 w g s a l c):Lc w g=a:=by
 unfold Proofs.YtflccikncbhpdaaGreatDoor.Lc;rw[h.cells.2.1];simp[intOf]
theorem Ee(w0:Q4)(g:Nat)(s:ByteArray)(a l c:Nat)(w:Q4)(h:SC w0 w g s a l c)(hs:s.size<=100000)(ha:a<=s.size)(hl:l<=a+1)(hc:c<=a+1):
  Q6 Rj 208 #[M (X ⟨g,0,V⟩)] w (Ba w0 g s (Lx.skip O ((bs s).drop a) a l c)):=by
 have HI:Hid (rX w0 g s (Lx.skip O ((bs s).drop a) a l c) w):=aJ ⟨a,l,c,rfl,h,ha,hl,hc⟩
 generalize Lx.skip O ((bs s).drop a) a l c=R at *;go_enter func208,ntmps208;go_wp2;go_loopw [] (fun wr=>rX w0 g s R wr) (fun wr=>s.size-Lc wr g)
 case atStart=>exact HI
 obtain⟨a,l,c,hR,h,ha,hl,hc⟩:=hrel;obtain⟨_,c1,c2,_,f1,f2,f3⟩:=h.cells;have HM:=aJ h.Lc;have H0:=aJ h
 by_cases d:a<s.size
 ·have i0:(0:Int)<=(a:Int):=by omega
  have i1:(a:Int)<(s.size:Int):=by omega
  have hb:s[a].toNat<256:=s[a].toNat_lt
  have aa:Lx.skip O (s[a].toNat::(bs s).drop (a+1)) a l c=R:=by rw[<-be s a d,<-dI (by rw[af];exact d)];exact hR
  have z:=aJ aa
  have y:Hid ((bs s).drop a=s[a].toNat::(bs s).drop (a+1)):=aJ (by rw[<-be s a d,<-dI (by rw[af];exact d)])
  go_wp2
  go_quiet (fail)
  have T:=aJ (H0.up ((ID.refl wr).drewN nq))
  generalize wr.drewN nq=W1 at *;obtain⟨_,c1,c2,_,f1,f2,f3⟩:=T.cells;go_wp2;go_quiet (fail);have r:=aJ (T.up ((ID.refl W1).drewN nq));generalize W1.drewN nq=W2 at *;obtain⟨_,c1,c2,_,f1,f2,f3⟩:=r.cells;generalize s[a].toNat=b at *;have wa:d_.wrap ((a:Int)+1)=(a:Int)+1:=bV _ (by omega)
  have wl:d_.wrap ((l:Int)+1)=(l:Int)+1:=bV _ (by omega)
  have L:=fun W n (hW:SC w0 W g s a l c) (N:a+n<=s.size)=>DH w0 g s a l c n W hW (by omega) (by omega)
  have j:=aJ L
  have b0:(0:Int)<=(b:Int):=by omega
  have b1:(b:Int)<256:=by omega
  by_cases p:b=10
  ·subst p;have C:=((r.at_ (a+1)).ln (l+1)).co 1
   push_cast at C
   have i:Hid (∀W,SC w0 W g s (a+1) (l+1) 1->rX w0 g s R W/\s.size-Lc W g<s.size-Lc wr g):=aJ (fun W u=>⟨⟨a+1,l+1,1,z,u,d,by omega,by omega⟩,by rw[u.Lc,HM.out];omega⟩)
   have k:=aJ C
   go_wp2
   go_roundw
   case rel=>exact(i _ k).1
   exact(i _ k).2
  by_cases q:b=32\/b=9\/b=13
  ·have i:Hid (∀W,SC w0 W g s (a+1) l (c+1)->rX w0 g s R W/\s.size-Lc W g<s.size-Lc wr g):=aJ (fun W u=>⟨⟨a+1,l,c+1,by rw[<-z.out,Lx.skip,ng_ p,ps_ q],u,d,by omega,by omega⟩,by rw[u.Lc,HM.out];omega⟩)
   have D:Q6 Rj 210 #[M (X ⟨g,0,V⟩),Z Y 1] W2 (ql w0 g s (a+1) l (c+1)):=j W2 1 r d
   have B:=aJ D
   have O0:((b:Int)==10)=O:=by rw[beq_eq_false_iff_ne];omega
   rcases q with rfl|rfl|rfl
   all_goals
    go_wp2_with fail;refine B.mono ?_;rintro e W3 ⟨rfl,C⟩;have k:=aJ C;go_wp2;go_roundw
    case rel=>exact(i _ k).1
    exact(i _ k).2
  have O0:((b:Int)==10)=O:=by rw[beq_eq_false_iff_ne];omega
  have ae:((b:Int)==32)=O:=by rw[beq_eq_false_iff_ne];omega
  have n9:((b:Int)==9)=O:=by rw[beq_eq_false_iff_ne];omega
  have ad:((b:Int)==13)=O:=by rw[beq_eq_false_iff_ne];omega
  by_cases J:b=35
  ·subst J;obtain⟨rest,f⟩:∃rest,rest=s.extract a s.size:=⟨_,rfl⟩
   have A:bs rest=35::(bs s).drop (a+1):=by
    rw[f,eV,y.out,k9];rw[fb,ja,af];omega
   have S:rest.size=s.size-a:=by
    have:=congrArg I_ A
    rw[af,fb,ja,af] at this;omega
   have t:rest.data.toList.length=rest.size:=by rw[Hx];rfl
   obtain⟨n,N⟩:∃n,((bs rest).takeWhile (fun x=>x !=10)).length=n:=⟨_,rfl⟩
   have ac:n=1+(((bs s).drop (a+1)).takeWhile (fun x=>x !=10)).length:=by
    rw[<-N,A,H_ (by decide),fb];omega
   have ab:(j_ rest.data.toList 10= -1/\n=rest.size)\/(j_ rest.data.toList 10=(n:Int)/\n<rest.size):=by
    rcases zM rest.data.toList with⟨h1,h2⟩|⟨m,h1,h2,C⟩
    ·left
     exact⟨h1,by rw[<-N,<-t,<-h2];rfl⟩
    right
    have:m=n:=by rw[<-N,<-C];rfl
    subst this;exact⟨h1,by omega⟩
   have i:Hid (∀W,SC w0 W g s (a+n) l (c+n)->rX w0 g s R W/\s.size-Lc W g<s.size-Lc wr g):=aJ (fun W u=>⟨⟨a+n,l,c+n,by
    rw[<-z.out,Lx.skip,ng_ (by decide),ng_ (by decide),ps_ rfl,Lx.ND,w_]
    rw[show a+n=a+1+(((bs s).drop (a+1)).takeWhile (fun x=>x !=10)).length by omega,show c+n=c+1+(((bs s).drop (a+1)).takeWhile (fun x=>x !=10)).length by omega],u,by omega,by omega,by omega⟩,by rw[u.Lc,HM.out];omega⟩)
   have D:=fun W (hW:SC w0 W g s a l c)=>j W n hW (by omega)
   have o:Hid (∀W,Q6 Rj 254 #[Q rest,Z c_ 10] W fun e w'=>e=a_ (Z Y (j_ rest.data.toList 10))/\w'=W):=aJ (fun W=>strings_IndexByte rest 10 W)
   have I:=aJ f.symm
   have ia:(a:Int)<=(s.size:Int):=by omega
   clear A f t N ac z y j HM p q O0 ae n9 ad f1 f2 f3;rcases ab with⟨h1,h2⟩|⟨h1,h2⟩
   ·rw[h1] at o;have B:Hid (∀W,SC w0 W g s a l c->Q6 Rj 210 #[M (X ⟨g,0,V⟩),Z Y (rest.size:Int)] W (ql w0 g s (a+n) l (c+n))):=aJ (by rw[<-h2];exact D)
    clear D h1 h2 S;go_wp2;go_quiet (fail);have k:=aJ (r.up ((ID.refl W2).drewN nq));generalize W2.drewN nq=W3 at *;clear r;rw[I.out];go_wp2_with fail;refine(o.out _).mono ?_;rintro e w' ⟨rfl,rfl⟩;go_wp2_with fail;refine(B _ k).mono ?_;rintro e _ ⟨rfl,h4⟩;have F:=aJ h4;clear h4 B;go_wp2;go_roundw
    case rel=>exact(i _ F).1
    exact(i _ F).2
   rw[h1] at o;have i2:(n:Int)<=(rest.size:Int):=by omega
   have i3:(0:Int)<=(n:Int):=by omega
   have P:min n rest.size=n:=by omega
   have B:Hid (∀W,SC w0 W g s a l c->Q6 Rj 210 #[M (X ⟨g,0,V⟩),Z Y ((min n rest.size:Nat):Int)] W (ql w0 g s (a+n) l (c+n))):=aJ (by rw[P];exact D)
   clear D h1 h2 P S;go_wp2;go_quiet (fail);have k:=aJ (r.up ((ID.refl W2).drewN nq));generalize W2.drewN nq=W3 at *;clear r;rw[I.out];go_wp2_with fail;refine(o.out _).mono ?_;rintro e w' ⟨rfl,rfl⟩;go_wp2_with fail;refine(B _ k).mono ?_;rintro e _ ⟨rfl,h4⟩;have F:=aJ h4;go_wp2;go_roundw
   case rel=>exact(i _ F).1
   exact(i _ F).2
  have ag:((b:Int)==35)=O:=by rw[beq_eq_false_iff_ne];omega
  have i:Hid (Ba w0 g s R (a_ (b_ #[])) W2):=aJ ⟨a,l,c,rfl,by
   rw[<-z.out,Lx.skip,ng_ p,ng_ q,ng_ J,y.out],r,ha,hl,hc⟩
  go_wp2
  go_end0
  exact i
 obtain rfl:a=s.size:=by omega
 have z:Hid (R=([],s.size,l,c)):=aJ (by rw[<-hR,gf (by rw[af];exact bM _)];rfl)
 go_wp2
 go_quiet (fail)
 have T:=aJ (H0.up ((ID.refl wr).drewN nq))
 generalize wr.drewN nq=W1 at *;go_wp2;go_end0;exact⟨s.size,l,c,rfl,by rw[z.out,gf (by rw[af];exact bM _)],T,bM _,hl,hc⟩
def lZ(w:Q4)(R:Nat×List Nat×Nat)(e:Q9)(w':Q4):Prop:=e=a_ (b_ #[Z Y (R.1:Int),Q (ab R.2.1),Z Y (R.2.2:Int),.nilIface])/\ID w w'
theorem F5(s:ByteArray)(R:Nat×List Nat×Nat)(w:Q4)(hs:s.size<=100000)(h:Lx.tok (bs s)=X R):
  Q6 Rj 209 #[Q s] w (lZ w R):=by
 have D:0<s.size:=by
  rcases jd s.size with e|e
  ·have:bs s=[]:=jb (by rw[af];exact e)
   rw[this] at h;cases h
  exact e
 have b:bs s=s[0].toNat::(bs s).drop 1:=by rw[<-be s 0 D,<-dI (by rw[af];exact D)];rfl
 have q:s[0].toNat<256:=s[0].toNat_lt
 have j:=aJ (DG s[0].toNat q w)
 have i:=aJ (xS s[0].toNat q w)
 have a:Lx.tok (s[0].toNat::(bs s).drop 1)=X R:=by rw[<-b];exact h
 rw[Lx.tok,<-b] at a;clear h;cases t:Lx.I9 s[0].toNat with
 |true=>
  rw[t,ps_ rfl] at a;injection a with a
  have L:((bs s).takeWhile Lx.word).length<=s.size:=by rw[<-af];exact(y8 _).length_le
  have u:=aJ (fun W=>Ec s _ W hs rfl)
  have hx:s.extract 0 ((bs s).takeWhile Lx.word).length=ab ((bs s).takeWhile Lx.word):=by
   rw[fF,p_,v_]
   congr 1
   exact QT.mp (QU _)|>.symm
  have d:Hid (∀w',ID w w'->lZ w R (a_ (b_ #[Z Y 1,Q (s.extract 0 ((bs s).takeWhile Lx.word).length),Z Y ((((bs s).takeWhile Lx.word).length:Nat):Int),.nilIface])) w'):=aJ (fun w' l=>by rw[hx,<-a];exact⟨rfl,l⟩)
  rw[t] at j;clear hx a t b q i;generalize ((bs s).takeWhile Lx.word).length=n at *;have I:(n:Int)<=(s.size:Int):=by omega
  go_enter func209,ntmps209
  go_wp2_with fail;refine(j).mono ?_;rintro e w' ⟨rfl,rfl⟩;go_wp2_with fail;refine(u _).mono ?_;rintro e w' ⟨rfl,rfl⟩;go_wp2;go_quiet (fail);go_wp2;refine aP (v:=b_ #[Z Y 1,Q (s.extract 0 n),Z Y (n:Int),.nilIface]) (by simp[results,results209,go_sem]) rfl ?_
  exact d _ ((ID.refl _).drewN nq)
 |false=>
  rw[t,ng_ (by decide)] at a
  rw[t] at j;clear t;cases g:Lx.I1 s[0].toNat with
  |true=>
   rw[g,ps_ rfl] at a;simp only at a;have L:((bs s).takeWhile Lx.I1).length<=s.size:=by rw[<-af];exact(y8 _).length_le
   have u:=aJ (fun W=>Ed s _ W hs rfl)
   have hx:s.extract 0 ((bs s).takeWhile Lx.I1).length=ab ((bs s).takeWhile Lx.I1):=by
    rw[fF,p_,v_]
    congr 1
    exact QT.mp (QU _)|>.symm
   by_cases c:18<((bs s).takeWhile Lx.I1).length\/(s[0].toNat=48/\1<((bs s).takeWhile Lx.I1).length)
   ·rw[ps_ c] at a;cases a
   rw[ng_ c] at a;injection a with a
   have d:Hid (∀w',ID w w'->lZ w R (a_ (b_ #[Z Y 2,Q (s.extract 0 ((bs s).takeWhile Lx.I1).length),Z Y ((((bs s).takeWhile Lx.I1).length:Nat):Int),.nilIface])) w'):=aJ (fun w' l=>by rw[hx,<-a];exact⟨rfl,l⟩)
   rw[g] at i;clear hx a g b q;generalize ((bs s).takeWhile Lx.I1).length=n at *;have I:(n:Int)<=(s.size:Int):=by omega
   have N:decide ((18:Int)<(n:Int))=O:=by rw[decide_eq_false_iff_not];omega
   by_cases o:s[0].toNat=48
   ·have B:((s[0].toNat:Int)==48)=G:=by rw[o];rfl
    have n1:decide ((1:Int)<(n:Int))=O:=by rw[decide_eq_false_iff_not];omega
    clear o c;go_enter func209,ntmps209;go_wp2_with fail;refine(j).mono ?_;rintro e w' ⟨rfl,rfl⟩;go_wp2_with fail;refine(i).mono ?_;rintro e w' ⟨rfl,rfl⟩;go_wp2_with fail;refine(u _).mono ?_;rintro e w' ⟨rfl,rfl⟩;go_wp2;go_quiet (fail);go_wp2;refine aP (v:=b_ #[Z Y 2,Q (s.extract 0 n),Z Y (n:Int),.nilIface]) (by simp[results,results209,go_sem]) rfl ?_
    exact d _ ((ID.refl _).drewN nq)
   have B:((s[0].toNat:Int)==48)=O:=by rw[beq_eq_false_iff_ne];omega
   clear o c;go_enter func209,ntmps209;go_wp2_with fail;refine(j).mono ?_;rintro e w' ⟨rfl,rfl⟩;go_wp2_with fail;refine(i).mono ?_;rintro e w' ⟨rfl,rfl⟩;go_wp2_with fail;refine(u _).mono ?_;rintro e w' ⟨rfl,rfl⟩;go_wp2;go_quiet (fail);go_wp2;refine aP (v:=b_ #[Z Y 2,Q (s.extract 0 n),Z Y (n:Int),.nilIface]) (by simp[results,results209,go_sem]) rfl ?_
   exact d _ ((ID.refl _).drewN nq)
  |false=>
   rw[g,ng_ (by decide)] at a
   rw[g] at i;clear g
   by_cases f:s[0].toNat=34
   ·rw[ps_ f] at a;cases m:Lx.Kt (((bs s).drop 1).length+1) ((bs s).drop 1) 1 [] with
    |none=>rw[m] at a;cases a
    |some p=>
     rw[m] at a;injection a with a
     have y:=aJ (fun W=>Eg s p _ W hs m)
     have d:Hid (∀w',ID w w'->lZ w R (a_ (b_ #[Z Y 3,Q (ab p.1),Z Y (p.2:Int),.nilIface])) w'):=aJ (fun w' l=>by rw[<-a];exact⟨rfl,l⟩)
     have z:((s[0].toNat:Int)==34)=G:=by rw[f];rfl
     clear a m b q f;go_enter func209,ntmps209;go_wp2_with fail;refine(j).mono ?_;rintro e w' ⟨rfl,rfl⟩;go_wp2_with fail;refine(i).mono ?_;rintro e w' ⟨rfl,rfl⟩;go_wp2_with fail;refine(y _).mono ?_;rintro e w2 ⟨rfl,hd⟩;have x:=aJ hd;clear hd;go_wp2;refine aP (v:=b_ #[Z Y 3,Q (ab p.1),Z Y (p.2:Int),.nilIface]) (by simp[results,results209,go_sem]) rfl ?_
     exact d _ x
   rw[ng_ f] at a;have z:((s[0].toNat:Int)==34)=O:=by rw[beq_eq_false_iff_ne];omega
   by_cases k:s[0].toNat=47
   ·rw[ps_ k] at a;cases m:Lx.Le (((bs s).drop 1).length+1) ((bs s).drop 1) 1 [] with
    |none=>rw[m] at a;cases a
    |some p=>
     rw[m] at a;injection a with a
     have y:=aJ (fun W=>Eh s p _ W hs D m)
     have d:Hid (∀w',ID w w'->lZ w R (a_ (b_ #[Z Y 4,Q (ab p.1),Z Y (p.2:Int),.nilIface])) w'):=aJ (fun w' l=>by rw[<-a];exact⟨rfl,l⟩)
     have A:((s[0].toNat:Int)==47)=G:=by rw[k];rfl
     clear a m b q f k;go_enter func209,ntmps209;go_wp2_with fail;refine(j).mono ?_;rintro e w' ⟨rfl,rfl⟩;go_wp2_with fail;refine(i).mono ?_;rintro e w' ⟨rfl,rfl⟩;go_wp2_with fail;refine(y _).mono ?_;rintro e w2 ⟨rfl,hd⟩;have x:=aJ hd;clear hd;go_wp2;refine aP (v:=b_ #[Z Y 4,Q (ab p.1),Z Y (p.2:Int),.nilIface]) (by simp[results,results209,go_sem]) rfl ?_
     exact d _ x
   rw[ng_ k] at a;have A:((s[0].toNat:Int)==47)=O:=by rw[beq_eq_false_iff_ne];omega
   by_cases r:s[0].toNat=123\/s[0].toNat=125\/s[0].toNat=44\/s[0].toNat=61
   ·rw[ps_ r] at a;injection a with a
    have hx:s.extract 0 1=ab [s[0].toNat]:=by
     rw[fF,b];rfl
    have d:Hid (∀w',ID w w'->lZ w R (a_ (b_ #[Z Y 5,Q (s.extract 0 1),Z Y 1,.nilIface])) w'):=aJ (fun w' l=>by rw[hx,<-a];exact⟨rfl,l⟩)
    have I:(1:Int)<=(s.size:Int):=by omega
    clear hx a b q f k;rcases r with e|e|e|e
    ·have C:((s[0].toNat:Int)==123)=G:=by rw[e];rfl
     clear e;go_enter func209,ntmps209;go_wp2_with fail;refine(j).mono ?_;rintro e w' ⟨rfl,rfl⟩;go_wp2_with fail;refine(i).mono ?_;rintro e w' ⟨rfl,rfl⟩;go_wp2;go_quiet (fail);go_wp2;refine aP (v:=b_ #[Z Y 5,Q (s.extract 0 1),Z Y 1,.nilIface]) (by simp[results,results209,go_sem]) rfl ?_
     exact d _ ((ID.refl _).drewN nq)
    ·have C:((s[0].toNat:Int)==123)=O:=by rw[e];rfl
     have F:((s[0].toNat:Int)==125)=G:=by rw[e];rfl
     clear e;go_enter func209,ntmps209;go_wp2_with fail;refine(j).mono ?_;rintro e w' ⟨rfl,rfl⟩;go_wp2_with fail;refine(i).mono ?_;rintro e w' ⟨rfl,rfl⟩;go_wp2;go_quiet (fail);go_wp2;refine aP (v:=b_ #[Z Y 5,Q (s.extract 0 1),Z Y 1,.nilIface]) (by simp[results,results209,go_sem]) rfl ?_
     exact d _ ((ID.refl _).drewN nq)
    ·have C:((s[0].toNat:Int)==123)=O:=by rw[e];rfl
     have F:((s[0].toNat:Int)==125)=O:=by rw[e];rfl
     have J:((s[0].toNat:Int)==44)=G:=by rw[e];rfl
     clear e;go_enter func209,ntmps209;go_wp2_with fail;refine(j).mono ?_;rintro e w' ⟨rfl,rfl⟩;go_wp2_with fail;refine(i).mono ?_;rintro e w' ⟨rfl,rfl⟩;go_wp2;go_quiet (fail);go_wp2;refine aP (v:=b_ #[Z Y 5,Q (s.extract 0 1),Z Y 1,.nilIface]) (by simp[results,results209,go_sem]) rfl ?_
     exact d _ ((ID.refl _).drewN nq)
    have C:((s[0].toNat:Int)==123)=O:=by rw[e];rfl
    have F:((s[0].toNat:Int)==125)=O:=by rw[e];rfl
    have J:((s[0].toNat:Int)==44)=O:=by rw[e];rfl
    have P:((s[0].toNat:Int)==61)=G:=by rw[e];rfl
    clear e;go_enter func209,ntmps209;go_wp2_with fail;refine(j).mono ?_;rintro e w' ⟨rfl,rfl⟩;go_wp2_with fail;refine(i).mono ?_;rintro e w' ⟨rfl,rfl⟩;go_wp2;go_quiet (fail);go_wp2;refine aP (v:=b_ #[Z Y 5,Q (s.extract 0 1),Z Y 1,.nilIface]) (by simp[results,results209,go_sem]) rfl ?_
    exact d _ ((ID.refl _).drewN nq)
   rw[ng_ r] at a;cases a
theorem rD:(Rj.info? 146).map (fun i=>(i.zero,i.size,i.bytes))=X (X (.agg #[Z Y 0,Q ⟨#[]⟩,Z Y 0,Z Y 0]),4,40):=by kernel_rfl
def i7(t:IY):List Q5:=[Z Y (t.IF:Int),Q (ab t.text),Z Y (t.IM:Int),Z Y (t.Jb:Int)]
def dK(l:List IY):List Q5:=l.flatMap i7
theorem kG(l:List IY):(dK l).length=4*l.length:=by
 unfold dK
 induction l with
 |nil=>rfl
 |cons a l ih=>simp only[yr,bF,fb,ih];simp[i7];omega
theorem iB(l:List IY)(t:IY):dK l++i7 t=dK (l++[t]):=by simp[dK]
theorem SC.Jc{l c:Nat}(h:SC w0 w g s a l c):SC w w g s a l c:=⟨u0 _ _,h.I2⟩
theorem SC.trans{l c a' l' c':Nat}(h:SC w0 w g s a l c)(k:SC w w' g s a' l' c'):SC w0 w' g s a' l' c':=⟨h.gr.trans k.gr,k.I2⟩
theorem SC.Kr{l c:Nat}{row:Option Nat}(h:SC w0 w g s a l c)(b:w.grownBy w' row)(d:∀k,row=X k->w0.heap.size<=k)(f:g<w0.heap.size):SC w0 w' g s a l c:=by
 refine⟨⟨b.os.trans h.gr.os,b.tape.trans h.gr.tape,b.output.trans h.gr.output,bN h.gr.size b.size,fun k hk hne=>?_⟩,?_⟩
 ·exact(b.block k (qn hk h.gr.size) (fun e=>by have:=d k e.symm;omega)).trans (h.gr.block k hk hne)
 exact(b.block g (aQ h.I2) (fun e=>by have:=d g e.symm;omega)).trans h.I2
theorem Cb(t:List Nat):∀(b:Bool) (a l c:Nat),a<=(Lx.skip b t a l c).2.1:=by
 induction t with
 |nil=>intro b a l c;cases b<;>exact bM _
 |cons x r ih=>
  intro b a l c;cases b with
  |true=>
   rw[Lx.skip];split
   ·exact bN (J_ a) (ih _ _ _ _)
   exact bN (J_ a) (ih _ _ _ _)
  |false=>
   rw[Lx.skip];split
   ·exact bN (J_ a) (ih _ _ _ _)
   grind
theorem Cq:∀(f:Nat) (r:List Nat) (i:Nat) (IW:List Nat) (p:List Nat×Nat),Lx.Kt f r i IW=X p->i<p.2/\p.2<=i+r.length:=by
 intro f
 induction f with
 |zero=>intro r i IW p h;cases h
 |succ f ih=>
  intro r i IW p h;cases r with
  |nil=>cases h
  |cons c r=>
   rw[Lx.Kt] at h;split at h
   ·injection h with h;subst h;simp
   grind
theorem Cv:∀(f:Nat) (r:List Nat) (i:Nat) (IW:List Nat) (p:List Nat×Nat),Lx.Le f r i IW=X p->i<p.2/\p.2<=i+r.length:=by
 intro f
 induction f with
 |zero=>intro r i IW p h;cases h
 |succ f ih=>
  intro r i IW p h;cases r with
  |nil=>cases h
  |cons c r=>
   rw[oE] at h;split at h
   ·injection h with h;subst h;simp
   grind
theorem yc{t:List Nat}{R:Nat×List Nat×Nat}(h:Lx.tok t=X R):1<=R.2.2/\R.2.2<=t.length:=by
 cases t with
 |nil=>cases h
 |cons c r=>
  rw[Lx.tok] at h;split at h
  ·next hl=>
   injection h with h
   subst h;have b:Lx.word c=G:=by unfold Lx.word;rw[hl];rfl
   refine⟨?_,(y8 _).length_le⟩;simp[b]
  split at h
  ·next hd=>
   simp only at h
   split at h
   ·cases h
   injection h with h
   subst h;refine⟨?_,(y8 _).length_le⟩;simp[hd]
  split at h
  ·cases a:Lx.Kt (r.length+1) r 1 [] with
   |none=>rw[a] at h;cases h
   |some p=>
    rw[a] at h;injection h with h
    subst h;have:=Cq _ _ _ _ _ a;rw[fb];exact⟨by show 1<=p.2;omega,by show p.2<=r.length+1;omega⟩
  split at h
  ·cases a:Lx.Le (r.length+1) r 1 [] with
   |none=>rw[a] at h;cases h
   |some p=>
    rw[a] at h;injection h with h
    subst h;have:=Cv _ _ _ _ _ a;rw[fb];exact⟨by show 1<=p.2;omega,by show p.2<=r.length+1;omega⟩
  grind
def AX(b:Q4)(g:Nat)(s:ByteArray)(R:List IY)(v0:Q5)(wr:Q4):Prop:=
 ∃(f a l c:Nat) (T:List IY) (v:Q5),v=v0/\SC b wr g s a l c/\a<=s.size/\l<=a+1/\c<=a+1/\IL wr b.heap.size 146 4 v T.length (dK T)/\Lx.scan f ((bs s).drop a) a l c T=X R/\T.length<=2000
def AY(w:Q4)(R:List IY)(e:Q9)(w':Q4):Prop:=∃v,e=a_ (b_ #[v,.nilIface])/\IL w' w.heap.size 146 4 v R.length (dK R)/\ID w w'
theorem Ef(s:ByteArray)(R:List IY)(f:Nat)(w:Q4)(hs:s.size<=100000)(h:Lx.scan f (bs s) 0 1 1 []=X R):
  Q6 Rj 135 #[Q s] w (AY w R):=by
 obtain⟨i,D⟩:∃i,i=w.alloc (H #[Q s,Z Y 0,Z Y 1,Z Y 1] 319):=⟨_,rfl⟩
 have r:SC i i w.heap.size s 0 1 1:=⟨u0 _ _,by rw[D];exact aM w _⟩
 have hsz:i.heap.size=w.heap.size+1:=by rw[D];simp
 have hO:ID w i:=by rw[D];exact(ID.refl w).alloc _
 have HO:=aJ hO
 have HI:Hid (AX i w.heap.size s R (U V 0 0) i):=aJ ⟨f,0,1,1,[],_,rfl,r,bO _,by omega,by omega,IL.Jk _ _ _ _,h,bO _⟩
 have HW:=aJ D.symm
 clear h r hO D;go_enter func135,ntmps135;go_upto_region 3 with fail
 rw[HW.out];obtain⟨g,ai⟩:∃g,w.heap.size=g:=⟨_,rfl⟩
 rw[ai] at HI hsz ⊢;have aB:=aJ ai;have aC:Hid (∀(v:Q5) (W:Q4),IL W i.heap.size 146 4 v R.length (dK R)->ID w W->AY w R (a_ (b_ #[v,.nilIface])) W):=aJ (fun v W h1 h2=>⟨v,rfl,h1.base (by omega),h2⟩)
 clear ai HW;go_wp2;go_loopw [5] (fun v wr=>AX i g s R v wr) (fun _ wr=>s.size-Lc wr g)
 case atStart=>exact HI
 clear HI;obtain⟨f,a,l,c,T,v,rfl,r,ha,hl,hc,hown,d,_⟩:=hrel;cases f with
 |zero=>cases d
 |succ f=>
 have ao:=aJ (Ee wr g s a l c wr r.Jc hs ha hl hc)
 have an:=aJ r
 have ac:=aJ hown
 have au:g<i.heap.size:=by omega
 have HM:=aJ r.Lc
 have ah:=Cb ((bs s).drop a) O a l c
 rw[Lx.scan] at d;clear r hown;go_wp2_with fail;refine(ao).mono ?_;rintro e w2 ⟨a',l',c',rfl,aA,al,_,_,_⟩;rw[aA] at d ah;have ar:a<=a':=ah;have j:=aJ (an.trans al);have ak:v.ownBlock=V\/v.ownBlock≠X g:=by
  cases hv:v.ownBlock with
  |none=>exact bX rfl
  |some k=>
   right
   intro e;injection e with e
   have:=(bU ac k hv).1
   omega
 have b:Hid (IL w2 i.heap.size 146 4 v T.length (dK T)):=aJ (bT ac al.gr ak)
 have I:Hid (X g≠v.ownBlock):=aJ (by
  rcases ak with e|e
  ·rw[e];simp
  exact fun h=>e h.symm)
 have aq:Hid (T.length+1<=68719476736):=aJ (by omega)
 have aa:=aJ au
 have y:Hid (ID w w2):=aJ (qb HO.out j.gr HO.size (fun k hk=>by injection hk with hk;have:=aB.out;omega))
 clear aA al ak ac an ao ah au;obtain⟨c0,c1,c2,c3,f1,f2,f3⟩:=j.cells
 by_cases av:a'<s.size
 ·rw[dI (by rw[af];exact av)] at d
  simp only at d
  rw[<-dI (by rw[af];exact av)] at d
  cases ht:Lx.tok ((bs s).drop a') with
  |none=>rw[ht] at d;cases d
  |some aG=>
   obtain⟨k,x,n⟩:=aG;rw[ht] at d;simp only at d;obtain⟨aw,aj⟩:=yc ht;simp only at aw aj;rw[ja,af] at aj
   by_cases p:T.length=2000
   ·rw[ps_ p] at d;cases d
   rw[ng_ p,w_] at d;have q1:((a':Int)==(s.size:Int))=O:=by rw[beq_eq_false_iff_ne];omega
   have q2:((T.length:Int)==2000)=O:=by rw[beq_eq_false_iff_ne];omega
   have i0:(0:Int)<=(a':Int):=by omega
   have i1:(a':Int)<=(s.size:Int):=by omega
   have ae:bs (s.extract a' s.size)=(bs s).drop a':=by
    rw[eV,k9];rw[ja,af];omega
   have az:(s.extract a' s.size).size<=100000:=by rw[<-af,ae,ja,af];omega
   have ap:=aJ (fun W=>F5 (s.extract a' s.size) (k,x,n) W az (by rw[ae];exact ht))
   have N:Hid (∀(v':Q5) (W:Q4),IL W i.heap.size 146 4 v' (T.length+1) (dK T++[Z Y (k:Int),Q (ab x),Z Y (l':Int),Z Y (c':Int)])->SC i W g s (a'+n) l' (c'+n)->AX i g s R v' W/\s.size-Lc W g<s.size-Lc wr g):=aJ (fun v' W h1 h2=>by
    refine⟨⟨f,a'+n,l',c'+n,T++[⟨k,x,l',c'⟩],v',rfl,h2,by omega,by omega,by omega,?_,d,by rw[bF,bG];omega⟩,by rw[h2.Lc,HM.out];omega⟩
    rw[<-iB,bF,bG];exact h1)
   have P:=fun W (hW:SC i W g s a' l' c')=>DH W g s a' l' c' n W hW.Jc (by omega) (by omega)
   have L:=aJ P
   obtain⟨A,cp,hv,_,_,_⟩:=b.shape;subst hv;clear d ht ae az P HM p aj aw ar;go_wp2_with fail;refine(ap _).mono ?_;rintro e w3 ⟨rfl,ag⟩;have z:=aJ (b.up ag);have t:=aJ (j.up ag);clear ag b j c0 c1 c2 c3 f1 f2 f3 ap y;obtain⟨c0,c1,c2,c3,f1,f2,f3⟩:=t.cells;have m:Hid (∀W,ID w3 W->W.cell? ⟨g,2,V⟩=X (Z Y (l':Int))/\W.cell? ⟨g,3,V⟩=X (Z Y (c':Int))):=aJ (fun W C=>⟨C.cell t.cells.2.2.1,C.cell t.cells.2.2.2.1⟩)
   have F:Hid (∀o,i.heap.size<=(w3.alloc o).heap.size):=aJ (fun o=>by have:=t.out.gr.size;simp;omega)
   go_wp2
   go_region_held3 (fun w'=>w'.cell? ⟨g,2,V⟩=X (Z Y (l':Int))/\w'.cell? ⟨g,3,V⟩=X (Z Y (c':Int)))
    (go_keep)
    ((refine ea _ (by rfl) _ _ 138 (by rfl) i.heap.size 146 (.agg #[Z Y 0,Q ⟨#[]⟩,Z Y 0,Z Y 0]) 4 40 underlying138 rD rfl (by decide) (by decide) (U A T.length cp) T.length (dK T) (by rfl) (z.up aS) w3.heap.size 0 1 1 [Z Y (k:Int),Q (ab x),Z Y (l':Int),Z Y (c':Int)] (by rfl) (by first|exact dQ _ _ _|exact(dQ _ _ _).drew) rfl rfl aq (F _) ?_;intro v' w' C J am;have e2:=J.cell (m _ aS).1 I;have e3:=J.cell (m _ aS).2 I;have u:=aJ C;have B:=aJ J;clear C J am))
   have ad:Hid (SC i w' g s a' l' c'):=aJ (SC.Kr (t.up aS) B (fun q d=>(bU z q d).1) aa)
   clear B t z c0 c1 c2 c3 f1 f2 f3 e2 e3 m F;go_wp2_with fail;refine(L _ ad).mono ?_;rintro e w5 ⟨rfl,h5⟩;have S:v'.ownBlock=V\/v'.ownBlock≠X g:=by
    cases hv:v'.ownBlock with
    |none=>exact bX rfl
    |some q=>
     right
     intro e;injection e with e
     have:=(bU u q hv).1
     have:=aa
     omega
   obtain⟨ax,ay⟩:=N v' w5 (bT u h5.gr S) (ad.trans h5);have aD:=aJ ax;have aE:=aJ ay;clear h5 S ax ay L ad N u;go_wp2;go_roundw
   case rel=>exact aD
   exact aE
 obtain rfl:a'=s.size:=by omega
 rw[gf (by rw[af];exact bM _)] at d
 simp only at d
 injection d with d
 have q1:((s.size:Int)==(s.size:Int))=G:=by simp
 have m:Hid (∀W,ID w2 W->W.cell? ⟨g,2,V⟩=X (Z Y (l':Int))/\W.cell? ⟨g,3,V⟩=X (Z Y (c':Int))):=aJ (fun W C=>⟨C.cell j.cells.2.2.1,C.cell j.cells.2.2.2.1⟩)
 have F:Hid (∀o,i.heap.size<=(w2.alloc o).heap.size):=aJ (fun o=>by have:=j.out.gr.size;simp;omega)
 obtain⟨A,cp,hv,_,_,_⟩:=b.shape;subst hv;have aF:Hid (∀(v':Q5) (W:Q4),IL W i.heap.size 146 4 v' (T.length+1) (dK T++[Z Y 6,Q ⟨#[]⟩,Z Y (l':Int),Z Y (c':Int)])->IL W i.heap.size 146 4 v' R.length (dK R)):=aJ (fun v' W h1=>by
  rw[<-d,<-iB,bF,bG];exact h1)
 clear d HM ar;go_wp2;go_region_held3 (fun w'=>w'.cell? ⟨g,2,V⟩=X (Z Y (l':Int))/\w'.cell? ⟨g,3,V⟩=X (Z Y (c':Int)))
  (go_keep)
  ((refine ea _ (by rfl) _ _ 138 (by rfl) i.heap.size 146 (.agg #[Z Y 0,Q ⟨#[]⟩,Z Y 0,Z Y 0]) 4 40 underlying138 rD rfl (by decide) (by decide) (U A T.length cp) T.length (dK T) (by rfl) (b.up aS) w2.heap.size 0 1 1 [Z Y 6,Q ⟨#[]⟩,Z Y (l':Int),Z Y (c':Int)] (by rfl) (by first|exact dQ _ _ _|exact(dQ _ _ _).drew) rfl rfl aq (F _) ?_;intro v' w' C J am;have e2:=J.cell (m _ aS).1 I;have e3:=J.cell (m _ aS).2 I;have u:=aJ C;have B:=aJ J;clear C J am))
 have HX:=aJ (aC v' w' (aF v' w' u) (IL.IU (y.up aS) (b.up aS) (by have:=aa.out;have:=HO.out.size;omega) B))
 clear u B b y j m;go_wp2;refine aP (v:=b_ #[v',.nilIface]) (by simp[results,results135,go_sem]) rfl HX
namespace Gp
theorem Dr:∀{l m:List Int},l.Pairwise (· < ·)->m.Pairwise (· < ·)->(∀x,x∈l↔x∈m)->l=m:=by
 intro l
 induction l with
 |nil=>
  intro m _ _ h;cases m with
  |nil=>rfl
  |cons b m=>exact absurd ((h b).mpr (y9 ..)) (x_)
 |cons a l ih=>
  intro m c hm h;cases m with
  |nil=>exact absurd ((h a).mp (y9 ..)) (x_)
  |cons b m=>
   rw[List.pairwise_cons] at c hm;have f:a=b:=by
    rcases jx.mp ((h a).mp (y9 ..)) with e|e
    ·exact e
    rcases jx.mp ((h b).mpr (y9 ..)) with d|d
    ·exact d.symm
    have h1:=hm.1 a e
    have h2:=c.1 b d
    omega
   subst f;rw[ih c.2 hm.2 (fun x=>?_)]
   constructor
   ·intro hx;rcases jx.mp ((h x).mp (List.mem_cons_of_mem _ hx)) with e|e
    ·subst e;exact absurd (c.1 x hx) (by omega)
    exact e
   grind
open Go.Lib in

theorem xw(d:Array Int)(hs:∀i j,i<=j->j<d.size->d[i]!<=d[j]!):∀m,m<=d.size->(compactUpTo d m).Pairwise (· < ·)/\∀x,x∈compactUpTo d m↔ ∃j,j<m/\d[j]! =x:=by
 intro m
 induction m with
 |zero=>intro _;exact⟨by simp[compactUpTo],fun x=>by simp[compactUpTo]⟩
 |succ m ih=>
  intro hm;obtain⟨h1,h2⟩:=ih (by omega)
  rw[compactUpTo_succ]
  by_cases hk:keeps d m=G
  ·rw[ps_ hk];refine⟨?_,fun x=>?_⟩
   ·rw[List.pairwise_append];refine⟨h1,List.pairwise_singleton _ _,fun x hx y hy=>?_⟩
    rw[r_] at hy;subst hy;obtain⟨j,hj,rfl⟩:=(h2 x).mp hx;have hne:d[m]!≠d[m-1]!:=by
     unfold keeps at hk;rw[decide_eq_true_eq] at hk;rcases hk with h|h
     ·omega
     exact h
    have a1:=hs j (m-1) (by omega) (by omega)
    have a2:=hs (m-1) m (by omega) (by omega)
    omega
   grind
  rw[ng_ hk,QL];refine⟨h1,fun x=>?_⟩
  rw[h2];constructor
  ·rintro⟨j,hj,e⟩;exact⟨j,by omega,e⟩
  rintro⟨j,hj,e⟩
  by_cases hjm:j<m
  ·exact⟨j,hjm,e⟩
  obtain rfl:j=m:=by omega
  have hk2:j≠0/\d[j]! =d[j-1]!:=by
   unfold keeps at hk;rw[decide_eq_true_eq] at hk;constructor
   ·exact fun e=>hk (bX e)
   exact Decidable.of_not_not (fun e=>hk (bY e))
  exact⟨j-1,by omega,by rw[<-hk2.2];exact e⟩
theorem vR(h:l.Pairwise (· <= ·)):∀i j,i<=j->j<l.toArray.size->l.toArray[i]!<=l.toArray[j]!:=by
 intro i j b hj;have a:j<l.length:=by simpa using hj
 rw[getElem!_pos l.toArray i (by simp;omega),getElem!_pos l.toArray j hj]
 simp only[QV]
 by_cases e:i=j
 ·grind
 exact(List.pairwise_iff_getElem.mp h) i j (by omega) a (by omega)
open Go.Lib in

theorem qa{zs as_:List Int}(ha:as_.Pairwise (· < ·))(hm:∀x,x∈zs↔x∈as_):compact (zs.mergeSort fun x y=>decide (x<=y))=as_:=by
 have hs:(zs.mergeSort fun x y=>decide (x<=y)).Pairwise (· <= ·):=by
  have:=List.pairwise_mergeSort (le:=fun x y:Int=>decide (x<=y)) (by intro a b c h1 h2;simp at h1 h2 ⊢;omega) (by intro a b;simp;omega) zs
  exact this.imp (by intro a b h;simpa using h)
 obtain⟨h1,h2⟩:=xw (zs.mergeSort fun x y=>decide (x<=y)).toArray (vR hs) _ (bM _)
 have hsz:(zs.mergeSort fun x y=>decide (x<=y)).toArray.size=(zs.mergeSort fun x y=>decide (x<=y)).length:=by simp
 unfold compact;rw[hsz] at h1 h2;refine Dr h1 ha (fun x=>?_)
 rw[h2,<-hm x,<-(List.mergeSort_perm zs _).mem_iff];constructor
 ·rintro⟨j,hj,rfl⟩;rw[getElem!_pos _ j (by simpa using hj),QV]
  exact bH _
 intro hx;obtain⟨j,hj,e⟩:=QW hx;exact⟨j,hj,by rw[getElem!_pos _ j (by simpa using hj)];simpa using e⟩
def ix(l:List Jd)(nm:ByteArray):Option Nat:=l.findIdx? fun j=>decide (j.nm=nm)
def NG(l:List Jd)(i:Nat):List Nat:=(l.getD i cE).IC.filterMap (ix l)
def IC(l:List Jd)(i:Nat):List Nat:=(jy l.length).filter fun k=>(NG l i).contains k
theorem Nv{l:List Jd}{nm:ByteArray}{r:Int}(h:Hk l nm r):(r= -1/\ix l nm=V)\/∃k:Nat,k<l.length/\r=(k:Int)/\ix l nm=X k:=by
 rcases h with⟨h1,h2⟩|⟨k,h1,h2,a,b⟩
 ·refine bX ⟨h1,?_⟩;unfold ix;rw[List.findIdx?_eq_none_iff];intro x hx;obtain⟨j,hj,rfl⟩:=QW hx;have:=h2 j hj;rw[bD,bE hj] at this;simpa using this
 refine bY ⟨k,h1,h2,?_⟩;unfold ix;rw[QX];refine⟨h1,?_,?_⟩
 ·rw[bD,bE h1] at a;simpa using a
 grind
theorem K4{l:List Jd}{nm:ByteArray}{k:Nat}(h:ix l nm=X k):k<l.length:=by
 unfold ix at h;rw[QX] at h;exact h.1
theorem EC{l:List Jd}{k:Nat}(h:k∈NG l i):k<l.length:=by
 unfold NG at h;obtain⟨nm,_,e⟩:=List.mem_filterMap.mp h;exact K4 e
theorem wO(l:List Jd)(i:Nat):((IC l i).map fun k:Nat=>(k:Int)).Pairwise (· < ·):=by
 rw[List.pairwise_map];exact(List.pairwise_lt_range.filter _).imp (by intro a b h;omega)
theorem wM{l:List Jd}(x:Int):x∈(NG l i).map (fun k:Nat=>(k:Int))↔x∈(IC l i).map fun k:Nat=>(k:Int):=by grind [IC,EC]
open Go.Lib in

theorem Oa(l:List Jd)(i:Nat):compact (((NG l i).map fun k:Nat=>(k:Int)).mergeSort fun x y=>decide (x<=y))=(IC l i).map fun k:Nat=>(k:Int):=by grind [qa,wO,wM]
end Gp
end Go.Proofs.YtflccikncbhpdaaGreatDoor
namespace Go.Proofs.YtflccikncbhpdaaGreatDoor
open Go.RowKit Go.Sort
set_option linter.unusedVariables false
theorem oH{base n c:Nat}{e:Q7}(h:IL w base e 1 (U (X ⟨g,0,V⟩) n c) n (aW l)):Holds (fm Y) w g 0 l.toArray:=by
 intro j hj;have a:j<l.length:=by simpa using hj
 have b:(aW l)[j]? =X (Z Y l.toArray[j]!):=by
  rw[kV l j a,getElem!_pos l.toArray j hj,bD,bE a];simp
 have:=h.cellAt b
 grind
theorem uq{base n c:Nat}{e:Q7}{l':List Int}(h:IL w base e 1 (U (X ⟨g,0,V⟩) n c) n (aW l))(p:l'.length=n)(k:Nat)(os:Array Obj):
  IL (grow (putRow (fm Y) (im w k) g 0 l'.toArray) os) base e 1 (U (X ⟨g,0,V⟩) n c) n (aW l')/\w.grownBy (grow (putRow (fm Y) (im w k) g 0 l'.toArray) os) (X g):=by
 rcases h with⟨h1,⟨h2,_⟩|⟨q,cap,cur,h2,s,m,r,hm,hs,hx⟩⟩
 ·cases h2
 injection h2 with e1 e2 e3
 injection e1 with e1
 injection e1 with e1
 subst e1;subst e3;have i:=aQ m;have o:(grow (putRow (fm Y) (im w k) g 0 l'.toArray) os).heap[g]? =X (H (putCells (fm Y) 0 l'.toArray cur) e (0,0)):=by
  rw[heap_grow_old _ _ (by simp[putRow,mapBlock,im];exact i)]
  unfold putRow mapBlock im;simp only[QY,if_true,m,F_,onCells]
 refine⟨⟨by simp[aW,p],bY ⟨g,c,_,rfl,s,o,r,hm,by simp[putCells,hs],?_⟩⟩,rfl,rfl,rfl,by simp[putRow,mapBlock,im],fun b d hne=>?_⟩
 ·apply List.ext_getElem?;intro j;rw[s8]
  by_cases hj:j<n*1
  ·rw[ps_ hj];have a:j<l'.length:=by omega
   have f:j<cur.size:=by grind
   rw[kV l' j a];simp only[putCells,Array.getElem?_toList,Array.getElem?_mapIdx,QB f,F_];rw[ps_ ⟨bO _,by simp;exact a⟩,v_,getElem!_pos l'.toArray j (by simpa using a),bD,bE a]
   simp
  rw[ng_ hj,bI (by simp[aW];omega)]
 rw[heap_grow_old _ _ (by simp[putRow,mapBlock,im];exact d)]
 unfold putRow mapBlock im;simp only[QY];rw[ng_ (fun e=>hne (by rw[e]))]
end Go.Proofs.YtflccikncbhpdaaGreatDoor
namespace Go.Proofs
open Go.Shelf
def lays189_ren:o_:=⟨fun|189=>27|125=>56|257=>55|128=>126|129=>127|294=>117|295=>118|296=>119|297=>120|298=>121|299=>122|216=>123|300=>124|301=>125|328=>186|329=>187|330=>188|331=>189|332=>190|215=>191|343=>241|n=>n,fun|28=>22|3=>3|46=>133|0=>0|51=>231|53=>60|4=>4|183=>224|182=>223|131=>122|5=>5|9=>9|218=>301|222=>304|228=>348|229=>310|n=>n,fun|n=>n⟩
theorem lays189:Go.Proofs.Lays.n189 Rj lays189_ren:={
 mixed:=by kernel_rfl
 f125:=func56.trans (congrArg X (by kernel_rfl))
 f128:=func126.trans (congrArg X (by kernel_rfl))
 f129:=func127.trans (congrArg X (by kernel_rfl))
 f189:=func27.trans (congrArg X (by kernel_rfl))
 f215:=func191.trans (congrArg X (by kernel_rfl))
 f216:=func123.trans (congrArg X (by kernel_rfl))
 f257:=func55.trans (congrArg X (by kernel_rfl))
 f294:=func117.trans (congrArg X (by kernel_rfl))
 f295:=func118.trans (congrArg X (by kernel_rfl))
 f296:=func119.trans (congrArg X (by kernel_rfl))
 f297:=func120.trans (congrArg X (by kernel_rfl))
 f298:=func121.trans (congrArg X (by kernel_rfl))
 f299:=func122.trans (congrArg X (by kernel_rfl))
 f300:=func124.trans (congrArg X (by kernel_rfl))
 f301:=func125.trans (congrArg X (by kernel_rfl))
 f328:=func186.trans (congrArg X (by kernel_rfl))
 f329:=func187.trans (congrArg X (by kernel_rfl))
 f330:=func188.trans (congrArg X (by kernel_rfl))
 f331:=func189.trans (congrArg X (by kernel_rfl))
 f332:=func190.trans (congrArg X (by kernel_rfl))
 f343:=func241.trans (congrArg X (by kernel_rfl))
 t0:=underlying0
 a0:=isAgg0
 z0:=sizeOf0
 v0:=zeroValue0
 t3:=underlying3
 a3:=isAgg3
 z3:=sizeOf3
 v3:=zeroValue3
 t4:=underlying4
 a4:=isAgg4
 z4:=sizeOf4
 v4:=zeroValue4
 t5:=underlying5
 a5:=isAgg5
 z5:=sizeOf5
 v5:=zeroValue5
 t9:=underlying9
 a9:=isAgg9
 z9:=sizeOf9
 v9:=zeroValue9
 t28:=underlying22
 a28:=isAgg22
 z28:=sizeOf22
 v28:=zeroValue22
 t46:=underlying133
 a46:=isAgg133
 z46:=sizeOf133
 v46:=zeroValue133
 t51:=underlying231
 a51:=isAgg231
 z51:=sizeOf231
 v51:=zeroValue231
 t53:=underlying60
 a53:=isAgg60
 z53:=sizeOf60
 v53:=zeroValue60
 t131:=underlying122
 a131:=isAgg122
 z131:=sizeOf122
 v131:=zeroValue122
 t182:=underlying223
 a182:=isAgg223
 z182:=sizeOf223
 v182:=zeroValue223
 t183:=underlying224
 a183:=isAgg224
 z183:=sizeOf224
 v183:=zeroValue224
 t218:=underlying301
 a218:=isAgg301
 z218:=sizeOf301
 v218:=zeroValue301
 t222:=underlying304
 a222:=isAgg304
 z222:=sizeOf304
 v222:=zeroValue304
 t228:=underlying348
 a228:=isAgg348
 z228:=sizeOf348
 v228:=zeroValue348
 t229:=underlying310
 a229:=isAgg310
 z229:=sizeOf310
 v229:=zeroValue310}
open Go.Sort Go.RowKit in

theorem slices_Sort_int(I2 off cap:Nat)(zs:List Int)(w:Q4)(hH:Holds (fm Y) w I2 off zs.toArray)(hblk:I2<w.heap.size)(hsz:zs.length<4611686018427387904):
  Q6 Rj 27 #[U (X ⟨I2,off,V⟩) zs.length cap] w fun e w'=>
   e=a_ (b_ #[])/\∃n os,w'=grow (putRow (fm Y) (im w n) I2 off (zs.mergeSort fun x y=>decide (x<=y)).toArray) os:=Any.slices_Sort_int lays189 I2 off cap zs w hH hblk hsz
def laysNm220_ren:o_:=⟨fun|20=>28|n=>n,fun|22=>22|3=>3|4=>4|0=>0|n=>n,fun|n=>n⟩
theorem laysNm220:Go.Proofs.Lays2.n20 Rj laysNm220_ren:={
 mixed:=by kernel_rfl
 f20:=func28.trans (congrArg X (by kernel_rfl))
 t0:=underlying0
 a0:=isAgg0
 z0:=sizeOf0
 v0:=zeroValue0
 t3:=underlying3
 a3:=isAgg3
 z3:=sizeOf3
 v3:=zeroValue3
 t4:=underlying4
 a4:=isAgg4
 z4:=sizeOf4
 v4:=zeroValue4
 t22:=underlying22
 a22:=isAgg22
 z22:=sizeOf22
 v22:=zeroValue22
 i3:=by kernel_rfl}
open Go.RowKit Go.Lib Go.Sort in

theorem slices_Compact_int(I2 off cap:Nat)(zs:List Int)(w:Q4)(hH:Holds (fm Y) w I2 off zs.toArray)(hsz:zs.length<=9223372036854775807)(hcap:zs.length<=cap):
  Q6 Rj 28 #[U (X ⟨I2,off,V⟩) zs.length cap] w fun e w'=>e=a_ (U (X ⟨I2,off,V⟩) (K1 zs).length cap)/\∃q,w'=putRow (fm Y) (im w q) I2 off (K1 zs++y_ (zs.length-(K1 zs).length) 0).toArray:=Any.slices_Compact_int laysNm220 I2 off cap zs w hH hsz hcap
open Go.RowKit Go.Lib Go.Sort in

theorem slices_Compact_int_empty(a:Option Q8)(cap:Nat)(w:Q4):
  Q6 Rj 28 #[U a 0 cap] w fun e w'=>e=a_ (U a 0 cap)/\w'=w:=Any.slices_Compact_int_empty laysNm220 a cap w
open Go.RowKit Go.Sort in

theorem slices_Sort_int_none(p:Option Q8)(cap:Nat)(w:Q4):
  Q6 Rj 27 #[U p 0 cap] w fun e w'=>e=a_ (b_ #[])/\w'=w:=Any.slices_Sort_int_none lays189 p cap w
end Go.Proofs
namespace Go.Proofs.YtflccikncbhpdaaGreatDoor
open Go.RowKit Go.Shelf
set_option linter.unusedVariables false
theorem iq:(Rj.info? 3).map (fun i=>(i.zero,i.size,i.bytes))=X (X (Z Y 0),1,8):=by kernel_rfl
theorem zT(j:Jd)(nm:ByteArray)(b:Nat)(w:Q4)(h1:w.cell? ⟨b,0,V⟩=X (Q nm)):
  Q6 Rj 26 #[dm j,M (X ⟨b,0,V⟩)] w (RO_ (K (decide (j.nm=nm))) w):=by
 have a:=aJ (GS j.nm nm)
 have c:b<w.heap.size:=World.block_lt_of_cell? _ _ h1
 unfold dm;go_enter func26,ntmps26;go_wp2;go_ret;exact⟨fl a,(ID.refl w).alloc _⟩
theorem C7(A:Option Q8)(c:Nat)(l:List Jd)(nm:ByteArray)(b1:Nat)(w:Q4)(I:JL w A l)(h1:w.cell? ⟨b1,0,V⟩=X (Q nm)):
  Q6 Rj 25 #[U A l.length c,.func (.func 26) #[] #[M (X ⟨b1,0,V⟩)]] w (qp l nm w):=by
 have HL:=aJ I
 have H1:=aJ h1
 have W:=I.JA
 have p:Hid (∀r w',Hk l nm r->ID w w'->qp l nm w (a_ (Z Y r)) w'):=aJ (fun r w' a b=>⟨r,rfl,a,b⟩)
 clear I h1;go_enter func25,ntmps25;go_wp2;go_loopw [8] (fun i wr=>∃k:Nat,k<=l.length/\i=Z Y k/\Hid (ID w wr)/\Hid (∀j,j<k->(l.getD j cE).nm≠nm)) (fun i _=>l.length-(intOf i).toNat)
 case atStart=>exact⟨0,bO _,rfl,aJ (ID.refl _),aJ (fun j hj=>by omega)⟩
 obtain⟨k,hk,rfl,o,C⟩:=hrel
 by_cases z:k<l.length
 ·obtain⟨b,off,rfl,_,d⟩:=(HL.up o).row (by omega)
  obtain⟨J,c1,c2,L,c4,N,P,R,S,T,q,s,t,u,y⟩:=d k z;have f:=zT (l.getD k cE) nm b1 wr (o.cell H1);have n:Hid (∀j,j=k->(l.getD j cE).nm=(l.getD k cE).nm):=aJ (fun j h=>by rw[h])
  clear d;generalize l.getD k cE=x at *;unfold dm at f
  by_cases m:x.nm=nm
  ·rw[decide_eq_true m] at f;have D:=aJ f;have B:=aJ m;clear f m;go_wp2_with fail;refine(D).mono ?_;rintro e w' ⟨rfl,hd⟩;have g:=o.up hd;clear J c1 c2 L c4 N P R S T q s t u y hd;go_wp2;go_ret;exact p _ _ (bY ⟨k,z,rfl,(n k rfl).trans B,C⟩) g
  rw[decide_eq_false m] at f;have D:=aJ f;have B:=aJ m;clear f m;go_wp2_with fail;refine(D).mono ?_;rintro e w' ⟨rfl,hd⟩;have g:=aJ (o.up hd);clear J c1 c2 L c4 N P R S T q s t u y hd;go_wp2;go_roundw
  case rel=>
   refine⟨k+1,by omega,by go_num,g,aJ ?_⟩
   intro j hj
   by_cases F:j<k
   ·exact C j F
   rw[n.out j (by omega)]
   exact B
  simp[intOf];omega
 obtain rfl:k=l.length:=by omega
 go_wp2
 go_ret;exact p _ _ (bX ⟨rfl,C⟩) o
theorem mK(A:Option Q8)(c:Nat)(l:List Jd)(nm:ByteArray)(w:Q4)(h:JL w A l):
  Q6 Rj 8 #[U A l.length c,Q nm] w (qp l nm w):=by
 have f:=(ID.refl w).alloc (H #[Q nm] 9)
 have g:=C7 A c l nm w.heap.size (w.alloc (H #[Q nm] 9)) (h.up f) (aK _ _ 0 _ _ _ (aM w _))
 have j:=aJ g
 have k:=aJ f
 have d:Hid (∀r w',Hk l nm r->ID w w'->qp l nm w (a_ (Z Y r)) w'):=aJ (fun r w' a b=>⟨r,rfl,a,b⟩)
 clear g h f;go_enter func8,ntmps8;go_wp2_with fail;refine(j).mono ?_;rintro e w2 ⟨r,rfl,i,hd⟩;have m:=aJ i;clear i;go_wp2;go_ret;exact d r _ m (k.up hd)
def aH(l:List Nat):List Int:=l.map fun k:Nat=>(k:Int)
def iV(l:List Jd)(ns:List ByteArray)(k:Nat):List Int:=aH ((ns.take k).filterMap (Gp.ix l))
theorem Co{l:List Jd}{k:Nat}(hk:k<ns.length)(h:Gp.ix l (ns.getD k ⟨#[]⟩)=V):iV l ns (k+1)=iV l ns k:=by
 have e:ns.take (k+1)=ns.take k++[ns.getD k ⟨#[]⟩]:=by simp_all
 unfold iV;rw[e,QZ,Q0,h];simp
theorem yC{l:List Jd}{k p:Nat}(hk:k<ns.length)(h:Gp.ix l (ns.getD k ⟨#[]⟩)=X p):iV l ns (k+1)=iV l ns k++[(p:Int)]:=by
 have e:ns.take (k+1)=ns.take k++[ns.getD k ⟨#[]⟩]:=by simp_all
 unfold iV;rw[e,QZ,Q0,h];simp[aH]
theorem qX(l:List Jd)(ns:List ByteArray)(k:Nat):(iV l ns k).length<=k:=by
 unfold iV aH
 grind
theorem oU(l:List Int)(x:Int):aW l++[Z Y x]=aW (l++[x]):=by simp[aW]
theorem rS(zs:List Int):(z_ zs).length<=zs.length:=by
 unfold z_ Q1
 grind
def Bm(w:Q4)(l:List Jd)(ns:List ByteArray)(v i:Q5)(wr:Q4):Prop:=
 ∃(k:Nat) (v1:Q5),v1=v/\k<=ns.length/\i=Z Y (k:Int)/\Hid (IL wr w.heap.size 3 1 v1 (iV l ns k).length (aW (iV l ns k)))/\Hid (ID w wr)
theorem mJ(A:Option Q8)(c:Nat)(l:List Jd)(i:Nat)(w:Q4)(hl:JL w A l)(hi:i<l.length)(hb:(l.getD i cE).IC.length<=1000000):
  Q6 Rj 10 #[U A l.length c,Z Y (i:Int)] w (nQ w 3 1 (Gp.IC l i).length (aW (aH (Gp.IC l i)))):=by
 have aj:=aJ (fun W nm (h:ID w W)=>mK A c l nm W (hl.up h))
 have an:=hl.JA
 obtain⟨b,off,rfl,_,D⟩:=hl.row (by omega)
 obtain⟨c0,c1,c2,_,_⟩:=D i hi;have ak:=aJ (hl.at_ hi).IC;have j:Hid (iV l (l.getD i cE).IC (l.getD i cE).IC.length=aH (Gp.NG l i)):=aJ (by unfold iV Gp.NG;rw[List.take_length])
 have t:Hid (z_ ((aH (Gp.NG l i)).mergeSort fun x y=>decide (x<=y))=aH (Gp.IC l i)):=aJ (Gp.Oa l i)
 clear D hl c0 c1 c2;generalize (l.getD i cE).nA=NA at *;generalize (l.getD i cE).IC=ns at *;generalize (l.getD i cE).nc=nc at *;generalize Gp.IC l i=nd at *;generalize aH (Gp.NG l i)=zs at *;have ao:(i:Int)<(l.length:Int):=by omega
 have ap:decide ((i:Int)<0)=O:=by rw[decide_eq_false_iff_not];omega
 have aq:decide (l.length<=i)=O:=by rw[decide_eq_false_iff_not];omega
 go_enter func10,ntmps10
 go_wp2
 go_loopw [5,23] (fun v i wr=>Bm w l ns v i wr) (fun _ i _=>ns.length-(intOf i).toNat)
 case atStart=>exact⟨0,_,rfl,bO _,rfl,aJ (IL.Jk w _ _ _),aJ (ID.refl _)⟩
 obtain⟨k,v1,rfl,hk,rfl,HW,C⟩:=hrel
 by_cases N:k<ns.length
 ·obtain⟨b2,_,rfl,_,hc⟩:=(ak.out.up C.out).at_ (by rw[dO];omega)
  have d1:=hc _ _ (fv ns k N)
  have J:Hid (Gp.ix l (ns.getD k ⟨#[]⟩)=V->iV l ns (k+1)=iV l ns k):=aJ (fun h=>Co N h)
  have m:Hid (∀p,Gp.ix l (ns.getD k ⟨#[]⟩)=X p->iV l ns (k+1)=iV l ns k++[(p:Int)]):=aJ (fun p h=>yC N h)
  have af:=qX l ns k
  clear hc;generalize ns.getD k ⟨#[]⟩=nm at *;go_wp2_with fail;refine(aj.out _ nm C.out).mono ?_;rintro e w1 ⟨r,rfl,hp,hd⟩;have I:=aJ (Gp.Nv hp);have f:=aJ (C.out.up hd);have u:=aJ (HW.out.up hd);have hsz:=f.out.size;clear hp hd d1 C HW;rcases I.out with⟨rfl,hx⟩|⟨p,hp,rfl,hx⟩
  ·have L:Hid (Bm w l ns v1 (Z Y ((k+1:Nat):Int)) w1):=aJ ⟨k+1,_,rfl,by omega,rfl,aJ (by rw[J.out hx];exact u.out),f⟩
   clear hx u f I J m;go_wp2;go_roundw
   case rel=>exact L.out
   simp[intOf];omega
  have HR:=aJ (m.out p hx)
  clear hx I J m;have ar:decide ((0:Int)<=(p:Int))=G:=by rw[decide_eq_true_eq];omega
  go_wp2_with (at_builtin;refine aw (wr:=w1) rfl _ _ 22 rfl _ 3 (Z Y 0) 1 8 underlying22 iq rfl (by decide) (by decide) _ _ _ rfl u.out 1 1 [Z Y (p:Int)] rfl rfl rfl rfl ?pn1 hsz ?_)
  case pn1=>omega
  intro v2 w2 R al ad;rw[oU,<-HR.out] at R;have L:Hid (Bm w l ns v2 (Z Y ((k+1:Nat):Int)) w2):=aJ ⟨k+1,_,rfl,by omega,rfl,aJ (by rw[show(iV l ns (k+1)).length=(iV l ns k).length+1 by rw[HR.out,bF];rfl];exact R),aJ (ad _ f.out (bM _))⟩
  clear R al ad u f HR;go_wp2;go_roundw
  case rel=>exact L.out
  simp[intOf];omega
 obtain rfl:k=ns.length:=by omega
 have F:=HW.out
 rw[j.out] at F;have af:=qX l ns ns.length;rw[j.out] at af;clear HW j
 by_cases h0:zs.length=0
 ·obtain rfl:zs=[]:=jb h0;obtain⟨A0,c0,rfl,_,_,_⟩:=F.shape;have P:aH nd=[]:=by rw[<-t.out];simp[z_,Q1]
  have L:Hid (nQ w 3 1 nd.length (aW (aH nd)) (a_ (U A0 0 c0)) wr):=aJ ⟨_,rfl,by rw[P,show nd.length=0 by simpa [aH] using congrArg I_ P];exact F,C.out⟩
  clear F P C t h0;go_wp2_with fail;refine(slices_Sort_int_none A0 c0 _).mono ?_;rintro e w2 ⟨rfl,rfl⟩;go_wp2_with fail;refine(slices_Compact_int_empty A0 c0 _).mono ?_;rintro e w2 ⟨rfl,rfl⟩;go_wp2;go_ret;exact L.out
 obtain⟨g,c2,rfl,_,am,_,_⟩:=F.form (by omega)
 have B:(zs.mergeSort fun x y=>decide (x<=y)).length=zs.length:=List.length_mergeSort zs
 have HP:=aJ (fun n os=>uq (l':=zs.mergeSort fun x y=>decide (x<=y)) F B n os)
 have HS:=aJ (slices_Sort_int g 0 c2 zs wr (oH F) am (by omega))
 have aa:=C
 clear C;go_wp2_with fail;refine(HS.out).mono ?_;rintro e w2 ⟨rfl,n,os,ah⟩;obtain⟨a,o⟩:=HP.out n os;rw[<-ah] at a o;have T:=aJ (IU aa.out o (fun q e=>by injection e with e;omega))
 clear ah o HP HS F aa;have z:=slices_Compact_int g 0 c2 (zs.mergeSort fun x y=>decide (x<=y)) w2 (oH a) (by omega) (by omega)
 have ac:=rS (zs.mergeSort fun x y=>decide (x<=y))
 generalize ag:(zs.mergeSort fun x y=>decide (x<=y))=srt at *
 rw[t.out] at z ac;have ae:(aH nd++y_ (srt.length-(aH nd).length) (0:Int)).length=zs.length:=by
  rw[bF,List.length_replicate];omega
 have HP:=aJ (fun n=>uq (l':=aH nd++y_ (srt.length-(aH nd).length) (0:Int)) a ae n #[])
 rw[B] at z;have HC:=aJ z;have ab:=aJ B;clear z ag B a ac ae h0;go_wp2_with fail;refine(HC.out).mono ?_;rintro e w3 ⟨rfl,q,ai⟩;obtain⟨d,s⟩:=HP.out q;rw[Go.Sort.grow_empty,ab.out,<-ai] at d s;have S:=d.shrink (i:=(aH nd).length) (by have:=d.len;simp[aW] at this;omega)
 rw[QN,show(aW (aH nd++y_ (zs.length-(aH nd).length) (0:Int))).take (aH nd).length=aW (aH nd) by unfold aW;rw[QR,List.take_left' (by simp)]] at S
 have L:Hid (nQ w 3 1 nd.length (aW (aH nd)) (a_ (U (X ⟨g,0,V⟩) (aH nd).length c2)) w3):=aJ ⟨_,rfl,by rw[show nd.length=(aH nd).length by simp[aH]];exact S,IU T.out s (fun q e=>by injection e with e;omega)⟩
 clear d s S ai HP HC T t ab;go_wp2;go_ret;exact L.out
theorem zK:(Rj.info? 22).map (fun i=>(i.zero,i.size,i.bytes))=X (X (U V 0 0),1,24):=by kernel_rfl
theorem Ts.JQ{e t:Q7}{k:Nat}(h:Ts w e A xs)(hk:w.heap[k]? =X (H cs t z))(hne:e≠t)(v:Q5):Ts (w.setCell ⟨k,i,V⟩ v) e A xs:=by
 rcases h with q|⟨b,off,cur,fz,c,a,hc⟩
 ·exact bX q
 refine bY ⟨b,off,cur,fz,c,(aL w ⟨k,i,V⟩ b _ (fun e=>?_)).trans a,hc⟩
 subst e;rw[a] at hk;simp at hk;exact hne hk.2.1
def Ol(w:Q4)(l:List Jd)(cells:List Q5)(k:Nat):Prop:=∀i,i<k->∃A c,cells[i]? =X (U A (Gp.IC l i).length c)/\Ts w 3 A (aW (aH (Gp.IC l i)))
theorem Ol.up{l:List Jd}{cells:List Q5}{k:Nat}(h:Ol w l cells k)(b:ID w w'):Ol w' l cells k:=fun i a=>by
 obtain⟨A,c,h1,h2⟩:=h i a;exact⟨A,c,h1,h2.up b⟩
theorem Ol.put{l:List Jd}{cells:List Q5}{k:Nat}{c:Nat}(h:Ol w l cells k)(hk:k<cells.length)(a:w.heap[g]? =X (H cs 22 z))(d:Ts w 3 A (aW (aH (Gp.IC l k)))):
  Ol (w.setCell ⟨g,k,V⟩ (U A (Gp.IC l k).length c)) l (cells.set k (U A (Gp.IC l k).length c)) (k+1):=fun i f=>by
 by_cases e:i=k
 ·subst e;exact⟨A,c,by rw[List.getElem?_set_self hk],d.JQ a (by decide) _⟩
 obtain⟨A1,c1,h1,h2⟩:=h i (by omega)
 exact⟨A1,c1,by rw[List.getElem?_set_ne (fun b=>e b.symm)];exact h1,h2.JQ a (by decide) _⟩
def vv(w:Q4)(l:List Jd)(e:Q9)(w':Q4):Prop:=
 ∃(g c:Nat) (cells:List Q5),e=a_ (U (X ⟨g,0,V⟩) l.length c)/\IL w' w.heap.size 22 1 (U (X ⟨g,0,V⟩) l.length c) l.length cells/\Ol w' l cells l.length/\ID w w'
def Bz(w:Q4)(l:List Jd)(g:Nat)(i:Q5)(wr:Q4):Prop:=
 ∃(k:Nat) (cells:List Q5),k<=l.length/\i=Z Y (k:Int)/\Hid (IL wr w.heap.size 22 1 (U (X ⟨g,0,V⟩) l.length l.length) l.length cells)/\Hid (Ol wr l cells k)/\Hid (ID w wr)
theorem zX(A:Option Q8)(c:Nat)(l:List Jd)(w:Q4)(L:JL w A l)(hn:l.length<=1000000)(I:∀j∈l,j.IC.length<=1000000):
  Q6 Rj 37 #[U A l.length c] w (vv w l):=by
 have z:=aJ (fun W i (h:ID w W) (D:i<l.length)=>mJ A c l i W (L.up h) D (I _ (gm_ D)))
 have s:Hid (∀g c cells w',IL w' w.heap.size 22 1 (U (X ⟨g,0,V⟩) l.length c) l.length cells->Ol w' l cells l.length->ID w w'->vv w l (a_ (U (X ⟨g,0,V⟩) l.length c)) w'):=aJ (fun g c cells w' h1 h2 T=>⟨g,c,cells,rfl,h1,h2,T⟩)
 clear L I;go_enter func37,ntmps37;go_wp2_with (at_make;refine dN rfl _ _ 107 rfl 22 (U V 0 0) 1 24 underlying107 zK (by decide) Y Y _ _ l.length rfl rfl ?pl1 ?pc1 ?pn1 ?_)
 case pl1=>omega
 case pc1=>omega
 case pn1=>omega
 intro w1 y x;have a:Hid (Bz w l w.heap.size (Z Y ((0:Nat):Int)) w1):=aJ ⟨0,_,bO _,rfl,aJ y,aJ (fun i D=>by omega),aJ x⟩
 clear y x;obtain⟨g,J⟩:∃g,g=w.heap.size:=⟨_,rfl⟩
 rw[<-J] at a ⊢;clear J;go_wp2;go_loopw [10] (fun i wr=>Bz w l g i wr) (fun i _=>l.length-(intOf i).toNat)
 case atStart=>exact a
 clear a;obtain⟨k,cells,hk,rfl,t,d,n⟩:=hrel
 by_cases F:k<l.length
 ·have N:(k:Int)<(l.length:Int):=by omega
  go_wp2_with fail;refine(z _ k n F).mono ?_;rintro e w2 ⟨v,rfl,hown,hd⟩;obtain⟨A2,c2,rfl,P,_,_⟩:=hown.shape;have b:=aJ (t.up hd);have r:=aJ (d.up hd);have o:=aJ (n.up hd);have C:cells.length=l.length:=by have:=t.out.len;omega
  obtain⟨u,R⟩:∃u,cells[k]? =X u:=⟨_,bE (by omega)⟩
  obtain⟨_,fz⟩:=b.cellAt R;have hblk:∃cs,w2.heap[g]? =X (H cs 22 (0,0)):=by
   rcases b with⟨_,⟨e,_⟩|⟨q,cap,S,e,_,f,_⟩⟩
   ·cases e
   injection e with e1 e2 e3
   injection e1 with e1
   injection e1 with e1
   subst e1;exact⟨S,f⟩
  obtain⟨cs,f⟩:=hblk;have m:w.heap.size<=g:=(bU b g rfl).1;have B:Hid (Bz w l g (Z Y ((k+1:Nat):Int)) (w2.setCell ⟨g,k,V⟩ (U A2 (Gp.IC l k).length c2))):=aJ ⟨k+1,_,by omega,rfl,aJ (b.Nh k _).1,aJ (r.put (by omega) f P),aJ (o.setCell (p:=⟨g,k,V⟩) m _)⟩
  clear t d n b r o hown P hd f R C;go_wp2;go_roundw
  case rel=>exact B
  simp[intOf];omega
 obtain rfl:k=l.length:=by omega
 have B:=aJ (s g l.length cells wr t d n)
 clear t d n s;go_wp2;go_ret;exact B
def lh(l:List Bool):List Q5:=l.map Value.bool
theorem kE(l:List Bool):(lh l).length=l.length:=by simp[lh]
theorem qg(l:List Bool)(i:Nat)(h:i<l.length):(lh l)[i]? =X (K (l.getD i O)):=by grind [lh]
theorem ez(l:List Nat):(aH l).length=l.length:=by simp[aH]
theorem fR(l:List Nat)(i:Nat)(h:i<l.length):(aW (aH l))[i]? =X (Z Y ((l.getD i 0:Nat):Int)):=by grind [kV,ez,aH]
def Hh(w:Q4)(b:Nat)(tk:List Bool):Prop:=∃A c,w.cell? ⟨b,0,V⟩=X (U A tk.length c)/\Rs w A (lh tk)
def P3(ks:List Nat)(tk:List Bool)(r:Int):Prop:=
 (r= -1/\∀j,j<ks.length->tk.getD (ks.getD j 0) O=G)\/∃k:Nat,k<ks.length/\r=k/\tk.getD (ks.getD k 0) O=O/\∀j,j<k->tk.getD (ks.getD j 0) O=G
def Bx(ks:List Nat)(tk:List Bool)(w:Q4)(e:Q9)(w':Q4):Prop:=∃r:Int,e=a_ (Z Y r)/\P3 ks tk r/\w'=w
theorem tj(k:Nat)(tk:List Bool)(b:Nat)(w:Q4)(h1:Hh w b tk)(hk:k<tk.length)(g:tk.length<=1000000):
  Q6 Rj 76 #[Z Y (k:Int),M (X ⟨b,0,V⟩)] w fun e w'=>e=a_ (K (!tk.getD k O))/\w'=w:=by
 obtain⟨A,c,_,a⟩:=h1;obtain⟨b2,off,rfl,_,hc⟩:=a.at_ (by rw[kE];omega)
 have f:=hc _ _ (qg tk k hk)
 clear hc a;generalize tk.getD k O=v at *;generalize tk.length=n at *;have d:(k:Int)<(n:Int):=by omega
 go_enter func76,ntmps76
 go_wp2
 go_ret;exact⟨rfl,rfl⟩
theorem tq(A:Option Q8)(c:Nat)(ks:List Nat)(tk:List Bool)(b:Nat)(w:Q4)(m:Ts w 3 A (aW (aH ks)))(h1:Hh w b tk)(t:∀j,j<ks.length->ks.getD j 0<tk.length)(u:tk.length<=1000000)(C:ks.length<=1000000):
  Q6 Rj 152 #[U A ks.length c,.func (.func 76) #[] #[M (X ⟨b,0,V⟩)]] w (Bx ks tk w):=by
 have o:=aJ m.rs
 have z:=aJ (fun k hk=>tj k tk b w h1 hk u)
 have y:=aJ t
 have l:Hid (∀r,P3 ks tk r->Bx ks tk w (a_ (Z Y r)) w):=aJ (fun r a=>⟨r,rfl,a,rfl⟩)
 clear m h1 t u;go_enter func152,ntmps152;go_wp2;go_loopw [8] (fun i wr=>∃k:Nat,k<=ks.length/\i=Z Y k/\wr=w/\Hid (∀j,j<k->tk.getD (ks.getD j 0) O=G)) (fun i _=>ks.length-(intOf i).toNat)
 case atStart=>exact⟨0,bO _,rfl,rfl,aJ (fun j hj=>by omega)⟩
 obtain⟨k,hk,rfl,rfl,p⟩:=hrel
 by_cases f:k<ks.length
 ·obtain⟨b2,off,rfl,_,hc⟩:=o.out.at_ (by rw[eC,ez];omega)
  have B:=hc _ _ (fR ks k f)
  have g:=z _ (y k f)
  have d:Hid (∀j,j=k->tk.getD (ks.getD j 0) O=tk.getD (ks.getD k 0) O):=aJ (fun j h=>by rw[h])
  clear hc;generalize ks.getD k 0=x at *
  by_cases n:tk.getD x O=G
  ·rw[n] at g d;have q:=aJ g;clear g n;go_wp2_with fail;refine(q).mono ?_;rintro e w' ⟨rfl,rfl⟩;go_wp2;go_roundw
   case rel=>
    refine⟨k+1,by omega,by go_num,by trivial,aJ ?_⟩
    intro j hj
    by_cases s:j<k
    ·exact p j s
    exact d j (by omega)
   simp[intOf];omega
  rw[Q2] at n;rw[n] at g d;have q:=aJ g;clear g n;go_wp2_with fail;refine(q).mono ?_;rintro e w' ⟨rfl,rfl⟩;go_wp2;go_ret;exact l _ (bY ⟨k,f,rfl,d k rfl,p⟩)
 obtain rfl:k=ks.length:=by omega
 go_wp2
 go_ret;exact l _ (bX ⟨rfl,p⟩)
theorem P3.any{tk:List Bool}{r:Int}(h:P3 ks tk r):decide (0<=r)=ks.any fun k=> !tk.getD k O:=by
 rcases h with⟨rfl,h⟩|⟨k,hk,rfl,h,_⟩
 ·rw[show decide ((0:Int)<= -1)=O from rfl]
  symm
  rw[List.any_eq_false];intro x hx;obtain⟨j,hj,rfl⟩:=Q3.mp hx;have:=h j hj;rw[show ks.getD j 0=ks[j] by simp[bD,bE hj]] at this
  simp only[this,Bool.not_true,G_,not_false_eq_true]
 grind
theorem E9(A:Option Q8)(c:Nat)(ks:List Nat)(tk:List Bool)(b:Nat)(w:Q4)(a:Ts w 3 A (aW (aH ks)))(h1:Hh w b tk)(f:∀j,j<ks.length->ks.getD j 0<tk.length)(g:tk.length<=1000000)(l:ks.length<=1000000):
  Q6 Rj 77 #[U A ks.length c,.func (.func 76) #[] #[M (X ⟨b,0,V⟩)]] w fun e w'=>e=a_ (K (ks.any fun k=> !tk.getD k O))/\w'=w:=by
 have d:=aJ (tq A c ks tk b w a h1 f g l)
 clear a h1 f g;go_enter func77,ntmps77;go_wp2_with fail;refine(d).mono ?_;rintro e w' ⟨r,rfl,h,rfl⟩;have i:=aJ h;clear h d;go_wp2;go_ret;exact⟨fl i.any,rfl⟩
def P2(ks:List Nat)(x:Nat)(r:Int):Prop:=
 (r= -1/\∀j,j<ks.length->ks.getD j 0≠x)\/∃k:Nat,k<ks.length/\r=k/\ks.getD k 0=x/\∀j,j<k->ks.getD j 0≠x
def Bw(ks:List Nat)(x:Nat)(w:Q4)(e:Q9)(w':Q4):Prop:=∃r:Int,e=a_ (Z Y r)/\P2 ks x r/\w'=w
theorem Ie(A:Option Q8)(c:Nat)(ks:List Nat)(x:Nat)(w:Q4)(f:Ts w 3 A (aW (aH ks)))(s:ks.length<=1000000):
  Q6 Rj 150 #[U A ks.length c,Z Y (x:Int)] w (Bw ks x w):=by
 have m:=aJ f.rs
 have d:Hid (∀r,P2 ks x r->Bw ks x w (a_ (Z Y r)) w):=aJ (fun r a=>⟨r,rfl,a,rfl⟩)
 clear f;go_enter func150,ntmps150;go_wp2;go_loopw [8] (fun i wr=>∃k:Nat,k<=ks.length/\i=Z Y k/\wr=w/\Hid (∀j,j<k->ks.getD j 0≠x)) (fun i _=>ks.length-(intOf i).toNat)
 case atStart=>exact⟨0,bO _,rfl,rfl,aJ (fun j hj=>by omega)⟩
 obtain⟨k,hk,rfl,rfl,e⟩:=hrel
 by_cases g:k<ks.length
 ·obtain⟨b2,off,rfl,_,hc⟩:=m.out.at_ (by rw[eC,ez];omega)
  have q:=hc _ _ (fR ks k g)
  have b:Hid (∀j,j=k->ks.getD j 0=ks.getD k 0):=aJ (fun j h=>by rw[h])
  clear hc;generalize ks.getD k 0=y at *
  by_cases l:y=x
  ·have p:((x:Int)==(y:Int))=G:=by rw[beq_iff_eq];omega
   have n:=aJ (d _ (bY ⟨k,g,rfl,(b k rfl).trans l,e⟩))
   clear l b e d;go_wp2;go_ret;exact n
  have p:((x:Int)==(y:Int))=O:=by rw[beq_eq_false_iff_ne];omega
  have n:Hid (∀j,j<k+1->ks.getD j 0≠x):=aJ (fun j hj=>by
   by_cases o:j<k
   ·exact e j o
   rw[b.out j (by omega)];exact l)
  clear l b e;go_wp2;go_roundw
  case rel=>exact⟨k+1,by omega,by go_num,by trivial,n⟩
  simp[intOf];omega
 obtain rfl:k=ks.length:=by omega
 go_wp2
 go_ret;exact d _ (bX ⟨rfl,e⟩)
theorem P2.has{x:Nat}{r:Int}(h:P2 ks x r):decide (0<=r)=ks.contains x:=by
 rcases h with⟨rfl,h⟩|⟨k,hk,rfl,h,_⟩
 ·rw[show decide ((0:Int)<= -1)=O from rfl]
  symm
  rw[<-Q2,List.contains_iff_mem];intro hx;obtain⟨j,hj,e⟩:=Q3.mp hx;exact h j hj (by rw[bD,bE hj];exact e)
 grind
theorem GE(A:Option Q8)(c:Nat)(ks:List Nat)(x:Nat)(w:Q4)(a:Ts w 3 A (aW (aH ks)))(g:ks.length<=1000000):
  Q6 Rj 89 #[U A ks.length c,Z Y (x:Int)] w fun e w'=>e=a_ (K (ks.contains x))/\w'=w:=by
 have b:=aJ (Ie A c ks x w a g)
 clear a;go_enter func89,ntmps89;go_wp2_with fail;refine(b).mono ?_;rintro e w' ⟨r,rfl,d,rfl⟩;have f:=aJ d;clear d b;go_wp2;go_ret;exact⟨fl f.has,rfl⟩
def ox(n:Int):Prop:=n=1\/n=2\/n=3\/n=10\/n=12\/n=15
theorem GM(n:Int)(w:Q4)(h:ox n):
  Q6 Rj 225 #[Z Y n] w fun e w'=>e=a_ (K G)/\w'=w:=by
 rcases h with rfl|rfl|rfl|rfl|rfl|rfl
 all_goals
  go_enter func225,ntmps225
  go_wp2
  go_ret;exact⟨rfl,rfl⟩
theorem Dg(r:Int×Int)(w:Q4)(h:ox r.1):
  Q6 Rj 224 #[.agg #[Z Y r.1,Z E r.2]] w (RO_ (K O) w):=by
 obtain⟨n,d⟩:=r;have a:=aJ (fun W=>GM n W h)
 clear h;go_enter func224,ntmps224;go_wp2_with fail;refine(a _).mono ?_;rintro e _ ⟨rfl,rfl⟩;go_wp2;go_ret;exact⟨rfl,(ID.refl w).alloc _⟩
theorem Fi(A:Option Q8)(c:Nat)(l:List (Int×Int))(w:Q4)(h:Rs w A (I8 l))(hs:∀i,i<l.length->ox (l.getD i (0,0)).1)(q:l.length<=1000000):
  Q6 Rj 265 #[U A l.length c,.func (.func 224) #[] #[]] w (RO_ (Z Y (-1)) w):=by
 have m:=aJ h
 have n:=aJ hs
 clear h hs;go_enter func265,ntmps265;go_wp2;go_loopw [8] (fun i wr=>∃k:Nat,k<=l.length/\i=Z Y k/\Hid (ID w wr)) (fun i _=>l.length-(intOf i).toNat)
 case atStart=>exact⟨0,bO _,rfl,aJ (ID.refl _)⟩
 obtain⟨k,hk,rfl,d⟩:=hrel
 by_cases a:k<l.length
 ·obtain⟨b,off,rfl,_,hc⟩:=(m.up d).at_ (by rw[gn];omega)
  obtain⟨f,g⟩:=fx l k a;have p:=hc _ _ f;have c1:wr.cell? ⟨b,off+k*2+1,V⟩=X (Z E (l.getD k (0,0)).2):=by rw[K_];exact hc _ _ g
  have o:=aJ (Dg (l.getD k (0,0)) wr (n k a))
  clear hc f g;generalize l.getD k (0,0)=x at *;go_wp2_with fail;refine(o).mono ?_;rintro e w' ⟨rfl,hd⟩;have j:=aJ (d.up hd);clear hd p c1;go_wp2;go_roundw
  case rel=>exact⟨k+1,by omega,by go_num,j⟩
  simp[intOf];omega
 obtain rfl:k=l.length:=by omega
 go_wp2
 go_ret;exact⟨rfl,d⟩
theorem Fj(A:Option Q8)(c:Nat)(l:List (Int×Int))(w:Q4)(b:Rs w A (I8 l))(hs:∀i,i<l.length->ox (l.getD i (0,0)).1)(f:l.length<=1000000):
  Q6 Rj 223 #[U A l.length c,.func (.func 224) #[] #[]] w (RO_ (K O) w):=by
 have a:=aJ (Fi A c l w b hs f)
 clear b hs;go_enter func223,ntmps223;go_wp2_with fail;refine(a).mono ?_;rintro e w' ⟨rfl,hd⟩;have d:=aJ hd;clear hd a;go_wp2;go_ret;exact⟨rfl,d⟩
structure Oj(j:Jd):Prop where
 cap:j.base<=j.cap
 win:0<j.win
 b1:1<=j.II
 b2:j.II<=16
 rs:j.IE=1\/j.IE=2\/j.IE=3
 JA:j.IK.length<=5
 sig:∀i,i<j.IK.length->ox (j.IK.getD i (0,0)).1
theorem xy(j:Jd)(w:Q4)(a:Rs w j.lA (I8 j.IK))(h:Oj j):
  Q6 Rj 146 #[dm j] w (RO_ (K G) w):=by
 have c:=aJ (fun W (d:ID w W)=>Fj j.lA j.lc j.IK W (a.up d) h.sig (by have:=h.JA;omega))
 obtain⟨k1,k2,k3,k4,k5,k6,_⟩:=h;have q1:decide (j.cap<j.base)=O:=by rw[decide_eq_false_iff_not];omega
 have f:(j.win==0)=O:=by rw[beq_eq_false_iff_ne];omega
 have g:decide (j.II<1)=O:=by rw[decide_eq_false_iff_not];omega
 have i:decide (16<j.II)=O:=by rw[decide_eq_false_iff_not];omega
 clear a k1 k2 k3 k4;unfold dm;generalize j.IK.length=n at *;generalize j.IE=r at *;rcases k5 with rfl|rfl|rfl
 all_goals
  go_enter func146,ntmps146
  go_wp2_with fail;refine(c _ ((ID.refl w).alloc _)).mono ?_;rintro e w2 ⟨rfl,hd⟩;have b:=aJ (((ID.refl w).alloc _).up hd);clear hd;go_wp2;go_ret;exact⟨rfl,b⟩
theorem Dh(A:Option Q8)(c:Nat)(l:List Jd)(nm:ByteArray)(b:Nat)(w:Q4)(f:JL w A l)(i:w.cell? ⟨b,0,V⟩=X (U A l.length c))(hk:Gp.ix l nm≠V):
  Q6 Rj 145 #[Q nm,M (X ⟨b,0,V⟩)] w (RO_ (K O) w):=by
 have a:=aJ (mK A c l nm w f)
 have d:=aJ hk
 clear f hk;generalize l.length=n at *;go_enter func145,ntmps145;go_wp2_with fail;refine(a).mono ?_;rintro e _ ⟨r,rfl,g,hd⟩;have h:=aJ hd;have j:decide (r<0)=O:=by
  rcases Gp.Nv g with⟨_,e⟩|⟨k,_,rfl,_⟩
  ·exact absurd e d
  rw[decide_eq_false_iff_not];omega
 clear g hd d a;go_wp2;go_ret;exact⟨rfl,h⟩
theorem Fk(A g:Option Q8)(c nc:Nat)(l:List Jd)(ns:List ByteArray)(b:Nat)(w:Q4)(m:JL w A l)(j:w.cell? ⟨b,0,V⟩=X (U A l.length c))(n:Rs w g (ar ns))(x:ns.length<=1000000)(hk:∀i,i<ns.length->Gp.ix l (ns.getD i ⟨#[]⟩)≠V):
  Q6 Rj 222 #[U g ns.length nc,.func (.func 145) #[] #[M (X ⟨b,0,V⟩)]] w (RO_ (Z Y (-1)) w):=by
 have p:=aJ (fun W nm (o:ID w W) (h:Gp.ix l nm≠V)=>Dh A c l nm b W (m.up o) (o.cell j) h)
 have s:=aJ n
 have r:=aJ hk
 clear m j n hk;go_enter func222,ntmps222;go_wp2;go_loopw [8] (fun i wr=>∃k:Nat,k<=ns.length/\i=Z Y k/\Hid (ID w wr)) (fun i _=>ns.length-(intOf i).toNat)
 case atStart=>exact⟨0,bO _,rfl,aJ (ID.refl _)⟩
 obtain⟨k,hk,rfl,f⟩:=hrel
 by_cases d:k<ns.length
 ·obtain⟨b2,_,rfl,_,hc⟩:=(s.up f).at_ (by rw[dO];omega)
  have u:=hc _ _ (fv ns k d)
  have a:=r k d
  clear hc;generalize ns.getD k ⟨#[]⟩=nm at *;have t:=aJ (p wr nm f a);clear a;go_wp2_with fail;refine(t).mono ?_;rintro e w' ⟨rfl,hd⟩;have q:=aJ (f.up hd);clear hd u;go_wp2;go_roundw
  case rel=>exact⟨k+1,by omega,by go_num,q⟩
  simp[intOf];omega
 obtain rfl:k=ns.length:=by omega
 go_wp2
 go_ret;exact⟨rfl,f⟩
theorem Fl(A a:Option Q8)(c nc:Nat)(l:List Jd)(ns:List ByteArray)(b:Nat)(w:Q4)(g:JL w A l)(f:w.cell? ⟨b,0,V⟩=X (U A l.length c))(h:Rs w a (ar ns))(k:ns.length<=1000000)(hk:∀i,i<ns.length->Gp.ix l (ns.getD i ⟨#[]⟩)≠V):
  Q6 Rj 144 #[U a ns.length nc,.func (.func 145) #[] #[M (X ⟨b,0,V⟩)]] w (RO_ (K O) w):=by
 have d:=aJ (Fk A a c nc l ns b w g f h k hk)
 clear g f h hk;go_enter func144,ntmps144;go_wp2_with fail;refine(d).mono ?_;rintro e w' ⟨rfl,hd⟩;have j:=aJ hd;clear hd d;go_wp2;go_ret;exact⟨rfl,j⟩
theorem uv(s:Je)(w:Q4):Q6 Rj 287 #[cN s] w (jE (cN (fQ s)) w):=by
 have k:=aJ (((ID.refl w).alloc (H #[Z E (ae s 0),Z E (ae s 1),Z E (ae s 2),Z E (ae s 3)] 177)).alloc (H #[Z E 0,Z E 0,Z E 0,Z E 0] 177))
 have g:=aJ (((ID.refl _).alloc (H #[Z E 0,Z E 0,Z E 0,Z E 0] 177)).block (aM w (H #[Z E (ae s 0),Z E (ae s 1),Z E (ae s 2),Z E (ae s 3)] 177)))
 have j:Hid (((w.alloc (H #[Z E (ae s 0),Z E (ae s 1),Z E (ae s 2),Z E (ae s 3)] 177)).alloc (H #[Z E 0,Z E 0,Z E 0,Z E 0] 177)).heap[w.heap.size+1]? =X (fj 0)):=aJ (by
  rw[show w.heap.size+1=(w.alloc (H #[Z E (ae s 0),Z E (ae s 1),Z E (ae s 2),Z E (ae s 3)] 177)).heap.size by simp]
  exact aM _ _)
 have f:=aJ (xU s)
 unfold cN;go_enter func287,ntmps287;go_wp2;go_loopw [4] (fun ix wr=>DX w s (fun i=>ae (fQ s) i) w.heap.size (w.heap.size+1) ix wr) (fun ix _=>4-(intOf ix).toNat)
 case atStart=>exact⟨k,j,bX ⟨rfl,g⟩⟩
 obtain⟨e,hz,q⟩:=hrel;have h:=aJ e;rcases q with⟨rfl,a⟩|⟨rfl,a⟩|⟨rfl,a⟩|⟨rfl,a⟩|⟨rfl,a⟩
 ·obtain⟨_,c1,c2,_,_,f1,f2,_⟩:=eS a;have b:=aJ (fT a (ae (fQ s) 0)).1;have c:=aJ ((fZ wr w.heap.size (w.heap.size+1) 0 (Z E (ae (fQ s) 0)) (by omega)).trans hz)
  have d:=aJ (e.setCell (p:=⟨w.heap.size,0,V⟩) (bM _) (Z E (ae (fQ s) 0)))
  clear a hz e;go_wp2;rw[f.out 0 (by decide)]
  go_roundw
  case rel=>exact⟨d,c,bY (bX ⟨rfl,b⟩)⟩
  simp[intOf]
 ·obtain⟨_,c1,c2,_,_,f1,f2,_⟩:=eS a;have b:=aJ (fT a (ae (fQ s) 1)).2.1;have c:=aJ ((fZ wr w.heap.size (w.heap.size+1) 1 (Z E (ae (fQ s) 1)) (by omega)).trans hz)
  have d:=aJ (e.setCell (p:=⟨w.heap.size,1,V⟩) (bM _) (Z E (ae (fQ s) 1)))
  clear a hz e;go_wp2;rw[f.out 1 (by decide)]
  go_roundw
  case rel=>exact⟨d,c,bY (bY (bX ⟨rfl,b⟩))⟩
  simp[intOf]
 ·obtain⟨_,c1,c2,_,_,f1,f2,_⟩:=eS a;have b:=aJ (fT a (ae (fQ s) 2)).2.2.1;have c:=aJ ((fZ wr w.heap.size (w.heap.size+1) 2 (Z E (ae (fQ s) 2)) (by omega)).trans hz)
  have d:=aJ (e.setCell (p:=⟨w.heap.size,2,V⟩) (bM _) (Z E (ae (fQ s) 2)))
  clear a hz e;go_wp2;rw[f.out 2 (by decide)]
  go_roundw
  case rel=>exact⟨d,c,bY (bY (bY (bX ⟨rfl,b⟩)))⟩
  simp[intOf]
 ·obtain⟨_,c1,c2,_,_,f1,f2,_⟩:=eS a;have b:=aJ (fT a (ae (fQ s) 3)).2.2.2;have c:=aJ ((fZ wr w.heap.size (w.heap.size+1) 3 (Z E (ae (fQ s) 3)) (by omega)).trans hz)
  have d:=aJ (e.setCell (p:=⟨w.heap.size,3,V⟩) (bM _) (Z E (ae (fQ s) 3)))
  clear a hz e;go_wp2;rw[f.out 3 (by decide)]
  go_roundw
  case rel=>exact⟨d,c,bY (bY (bY (bY (⟨rfl,b⟩))))⟩
  simp[intOf]
 obtain⟨_,c1,c2,_,_,f1,f2,_⟩:=eS a;obtain⟨l,m,n,o,_,_,_,_⟩:=ai hz;clear a hz e;go_wp2;refine aP (v:=cN (fQ s)) (by simp[results,results287,go_sem,l,m,n,o,cN]) rfl ⟨rfl,?_⟩
 exact((((h.setCell (p:=⟨w.heap.size+1,0,V⟩) (by simp) _).setCell (p:=⟨w.heap.size+1,1,V⟩) (by simp) _).setCell (p:=⟨w.heap.size+1,2,V⟩) (by simp) _).setCell (p:=⟨w.heap.size+1,3,V⟩) (by simp) _)
theorem BV(s t:Je)(w:Q4):Q6 Rj 302 #[cN s,cN t] w (jE (cN (s|||t)) w):=by
 obtain⟨k,g⟩:∃k,w.alloc (H #[Z E (ae s 0),Z E (ae s 1),Z E (ae s 2),Z E (ae s 3)] 177)=k:=⟨_,rfl⟩
 obtain⟨W2,h⟩:∃W2,k.alloc (H #[Z E (ae t 0),Z E (ae t 1),Z E (ae t 2),Z E (ae t 3)] 177)=W2:=⟨_,rfl⟩
 obtain⟨n,l⟩:∃n,W2.alloc (H #[Z E 0,Z E 0,Z E 0,Z E 0] 177)=n:=⟨_,rfl⟩
 have s1:k.heap.size=w.heap.size+1:=by rw[<-g];simp
 have A:W2.heap.size=w.heap.size+2:=by rw[<-h];simp[s1]
 have z:ID w k:=by rw[<-g];exact(ID.refl w).alloc _
 have q:ID k W2:=by rw[<-h];exact(ID.refl k).alloc _
 have o:ID W2 n:=by rw[<-l];exact(ID.refl W2).alloc _
 have b1:k.heap[w.heap.size]? =X (c4 (ae s 0) (ae s 1) (ae s 2) (ae s 3)):=by rw[<-g];exact aM w _
 have b2:W2.heap[w.heap.size+1]? =X (fj t):=by rw[<-h,<-s1];exact aM k _
 have b3:n.heap[w.heap.size+2]? =X (fj 0):=by rw[<-l,<-A];exact aM W2 _
 have y:=aJ ((z.up q).up o)
 have r:=aJ (o.block (q.block b1))
 have u:=aJ (o.block b2)
 have x:=aJ b3
 rw[<-l,<-h,<-g] at y r u x;clear b1 b2 b3 z q o s1 A g h l;have m:=aJ (sj s t);unfold cN;go_enter func302,ntmps302;go_wp2;go_loopw [6] (fun ix wr=>FP w s t (fun i=>ae (s|||t) i) w.heap.size ix wr) (fun ix _=>4-(intOf ix).toNat)
 case atStart=>exact⟨⟨y,x,bX ⟨rfl,r⟩⟩,u⟩
 obtain⟨⟨j,hz,J⟩,f⟩:=hrel;have B:=aJ j;rcases J with⟨rfl,a⟩|⟨rfl,a⟩|⟨rfl,a⟩|⟨rfl,a⟩|⟨rfl,a⟩
 ·obtain⟨_,c1,c2,_,_,f1,f2,_⟩:=eS a;obtain⟨_,_,_,_,_,_,_,_⟩:=ai f;have b:=aJ (fT a (ae (s|||t) 0)).1;have c:=aJ ((fZ wr w.heap.size (w.heap.size+2) 0 (Z E (ae (s|||t) 0)) (by omega)).trans hz)
  have d:=aJ ((fZ wr w.heap.size (w.heap.size+1) 0 (Z E (ae (s|||t) 0)) (by omega)).trans f)
  have e:=aJ (j.setCell (p:=⟨w.heap.size,0,V⟩) (bM _) (Z E (ae (s|||t) 0)))
  clear a hz j f;go_wp2;go_region;go_wp2;rw[m.out 0];go_roundw
  case rel=>exact⟨⟨e.drew,c,bY (bX ⟨rfl,b⟩)⟩,d⟩
  simp[intOf]
 ·obtain⟨_,c1,c2,_,_,f1,f2,_⟩:=eS a;obtain⟨_,_,_,_,_,_,_,_⟩:=ai f;have b:=aJ (fT a (ae (s|||t) 1)).2.1;have c:=aJ ((fZ wr w.heap.size (w.heap.size+2) 1 (Z E (ae (s|||t) 1)) (by omega)).trans hz)
  have d:=aJ ((fZ wr w.heap.size (w.heap.size+1) 1 (Z E (ae (s|||t) 1)) (by omega)).trans f)
  have e:=aJ (j.setCell (p:=⟨w.heap.size,1,V⟩) (bM _) (Z E (ae (s|||t) 1)))
  clear a hz j f;go_wp2;go_region;go_wp2;rw[m.out 1];go_roundw
  case rel=>exact⟨⟨e.drew,c,bY (bY (bX ⟨rfl,b⟩))⟩,d⟩
  simp[intOf]
 ·obtain⟨_,c1,c2,_,_,f1,f2,_⟩:=eS a;obtain⟨_,_,_,_,_,_,_,_⟩:=ai f;have b:=aJ (fT a (ae (s|||t) 2)).2.2.1;have c:=aJ ((fZ wr w.heap.size (w.heap.size+2) 2 (Z E (ae (s|||t) 2)) (by omega)).trans hz)
  have d:=aJ ((fZ wr w.heap.size (w.heap.size+1) 2 (Z E (ae (s|||t) 2)) (by omega)).trans f)
  have e:=aJ (j.setCell (p:=⟨w.heap.size,2,V⟩) (bM _) (Z E (ae (s|||t) 2)))
  clear a hz j f;go_wp2;go_region;go_wp2;rw[m.out 2];go_roundw
  case rel=>exact⟨⟨e.drew,c,bY (bY (bY (bX ⟨rfl,b⟩)))⟩,d⟩
  simp[intOf]
 ·obtain⟨_,c1,c2,_,_,f1,f2,_⟩:=eS a;obtain⟨_,_,_,_,_,_,_,_⟩:=ai f;have b:=aJ (fT a (ae (s|||t) 3)).2.2.2;have c:=aJ ((fZ wr w.heap.size (w.heap.size+2) 3 (Z E (ae (s|||t) 3)) (by omega)).trans hz)
  have d:=aJ ((fZ wr w.heap.size (w.heap.size+1) 3 (Z E (ae (s|||t) 3)) (by omega)).trans f)
  have e:=aJ (j.setCell (p:=⟨w.heap.size,3,V⟩) (bM _) (Z E (ae (s|||t) 3)))
  clear a hz j f;go_wp2;go_region;go_wp2;rw[m.out 3];go_roundw
  case rel=>exact⟨⟨e.drew,c,bY (bY (bY (bY (⟨rfl,b⟩))))⟩,d⟩
  simp[intOf]
 obtain⟨_,c1,c2,_,_,f1,f2,_⟩:=eS a;obtain⟨C,D,F,I,_,_,_,_⟩:=ai hz;clear a hz j f;go_wp2;refine aP (v:=cN (s|||t)) (by simp[results,results302,go_sem,C,D,F,I,cN]) rfl ⟨rfl,?_⟩
 exact((((B.setCell (p:=⟨w.heap.size+2,0,V⟩) (by simp) _).setCell (p:=⟨w.heap.size+2,1,V⟩) (by simp) _).setCell (p:=⟨w.heap.size+2,2,V⟩) (by simp) _).setCell (p:=⟨w.heap.size+2,3,V⟩) (by simp) _)
end Go.Proofs.YtflccikncbhpdaaGreatDoor
