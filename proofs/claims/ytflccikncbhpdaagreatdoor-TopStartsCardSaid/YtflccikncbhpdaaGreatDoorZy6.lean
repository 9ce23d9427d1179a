/- Part 6: walks and plain laws. -/
import Derived.Test.YtflccikncbhpdaaGreatDoorZy4
import Derived.Laws.Tables
import Derived.Deep.OwnRows
import Derived.BigRegion
set_option maxHeartbeats 16000000
set_option maxRecDepth 100000
open Go.Lib renaming hid → aJ
open Go renaming cell_of_row → aK, heap_setCell_other → aL, heap_alloc_new → aM, frozen_of_row → aN, heap_setCell_same → aO, bodyPost_ret → aP, lt_of_block → aQ, undef → aR, Value → VE, World → VF, Addr → VG, Calls → VH, TypeId → VI, setRow_other → VJ, run_storeCells_from → VK, run_make_row' → VL
open List renaming getD_eq_getElem?_getD → bD, getElem?_eq_getElem → bE, length_append → bF, length_singleton → bG, getElem_mem → bH, getElem?_eq_none → bI, getElem?_append_left → bJ, length_set → bK, length_map → bL, getElem?_toArray → Vd, replicate → Ve, mem_append → Vi, mem_singleton → Vj, ext_getElem? → Vo, setIfInBounds_toArray → Vp, map_append → Vs, length_take → Vt, mem_cons → Vu, take_length → Vv, getElem?_replicate → Vz
open Nat renaming le_refl → bM, le_trans → bN, zero_le → bO, add_assoc → Vk, add_zero → Vl, zero_add → Vr, lt_of_lt_of_le → Vx
open Option.some renaming inj → bQ
open Go.World.ownsRow renaming kept → bT, lt → bU
open Go.IntWalk renaming i64_in → bV, u64_in → Vf
open Exists renaming intro → bW
open Or renaming inl → bX, inr → bY
variable {w w' w0 ww w2:Go.World} {g gm k B gp c b i m x:Nat} {A:Option Go.Addr} {L ps:List Nat} {lv v v':Go.Value} {xs:List Go.Value} {cs:Array Go.Value} {z:Nat×Nat} {s:ByteArray} {e:Go.TypeId} {dl:List Int} {a:Int}
open Go.Value renaming int → Z, slice → U, string → Q, pointer → M, bool → K, oneCell' → Vh, bool → Vn, int → Vw
open Go.IntKind renaming i64 → Y, u64 → E, u64 → VA
open Option renaming none → V, some → X
open Bool renaming false → O, true → G, eq_iff_iff → VB
open Go.Obj renaming cells → H
open Go.Ending renaming returned → Vc
open Array renaming toList → Vg, all_eq_true_iff_forall_mem → Vq, ext' → Vy, getElem?_eq_none → VC
open Go.World.grownBy renaming refl → Vm, trans → VD
open Go.Proofs.Tryz renaming prog → VM
open Go.Proofs.Tryz
namespace Go.Proofs.YtflccikncbhpdaaGreatDoor
open Go.RowKit Go.Shelf
set_option linter.unusedVariables false
def Jd.eqv(a b:Jd):Prop:=a.nm=b.nm/\a.run=b.run/\a.IQ=b.IQ/\a.ready=b.ready/\a.IE=b.IE/\a.base=b.base/\a.cap=b.cap/\a.IG=b.IG/\a.II=b.II/\a.win=b.win/\a.IJ=b.IJ/\a.IC=b.IC/\a.IK=b.IK
instance(a b:Jd):Decidable (a.eqv b):=by unfold Jd.eqv;infer_instance
def JR1(w0:VF)(B g k6:Nat)(nm:ByteArray)(A:Option VG)(n c:Nat)(m r o p s q:Int)(u l1 x l3 l4 y z:List Int)(b:Array Bool)(a:Act)(w:VF):Prop:=
 ∃(b0 b1 b2 b3 b4 t b6 b7 b8 b9 b10 b11 b12 h b14 d i e j k f l:Bool) (ka kb:Nat) (C:VE),b=#[b0,b1,b2,b3,b4,t,b6,b7,b8,b9,b10,b11,b12,h,b14,d,i,e,j,k,f,l]/\
  a={tmps:=#[M (X ⟨g,0,V⟩),Q nm,U A n c,aR,aR,aR,M (X ⟨k6,0,V⟩),cond f (M (X ⟨ka,0,V⟩)) (aR),aR,aR,aR,cond b0 (Q nm) (aR),cond b1 (U (X ⟨kb,0,V⟩) 4 4) (aR),cond b2 (M (X ⟨g,0,V⟩)) (aR),cond b3 (Z Y m) (aR),cond b4 (M (X ⟨kb,m.toNat,V⟩)) (aR),cond t (Q (qV m)) (aR),cond b6 (M (X ⟨g,0,V⟩)) (aR),cond b7 (Z Y r) (aR),cond b8 (M (X ⟨g,0,V⟩)) (aR),cond b9 (Z Y o) (aR),cond b10 (Z E o) (aR),cond b11 (M (X ⟨g,0,V⟩)) (aR),cond b12 (Z Y p) (aR),cond h (Z E p) (aR),cond b14 (M (X ⟨g,0,V⟩)) (aR),cond d (Z Y s) (aR),cond i (M (X ⟨g,0,V⟩)) (aR),cond e (Z Y q) (aR),cond j (Z E q) (aR),cond k (.agg (oS nm m r o p s q)) (aR),aR,aR,aR,aR,aR,aR,aR,aR,aR,aR,aR,aR,aR,aR,aR,aR,aR,aR,aR,aR,aR,aR,aR,aR,aR,aR,aR,aR,aR,aR,aR,aR,aR,aR,aR,aR,aR,aR,aR,aR,aR,aR,aR,aR,aR,aR,aR,aR,aR,aR,aR,aR,aR,aR,aR,aR,aR,aR,aR,aR,aR,aR,aR,aR],defers:=[]}/\J1 w0 B g k6 b1 f l (cond e z (cond d y (cond b12 l4 (cond b9 l3 (cond b7 x (cond b3 l1 u)))))) ka kb (oS nm m r o p s q) w
def JR2(w0:VF)(B g k k6:Nat)(nm:ByteArray)(A:Option VG)(n c:Nat)(x bs:Int)(l l':List Int)(j j2:Jd)(e f h i m o p q r s t u y z C D F I J L N P R S T W aa ab ac ad ae af ag ah ai aj ak al am an ao ap aq ar au av aw ax ay az u64 aA aB aC aD aE aF aG aH aI aJ aK aL aM aN aO aP aQ aS aT aU aV aW aX aY aZ a0 a1 a2 a3 a4:VE)(b:Array Bool)(a:Act)(w:VF):Prop:=
 ∃(b0 b1 b2 b3 b4 b5 b6 b7:Bool) (d:Nat) (a5:VE),b=#[b0,b1,b2,b3,b4,b5,b6,b7]/\
  a={tmps:=#[M (X ⟨g,0,V⟩),Q nm,U A n c,aR,aR,aR,M (X ⟨k6,0,V⟩),M (X ⟨k,0,V⟩),aR,aR,aR,e,f,h,i,m,o,p,q,r,s,t,u,y,z,C,D,F,I,J,L,cond b0 (M (X ⟨k,7,V⟩)) (N),cond b1 (Z E bs) (P),cond b2 (M (X ⟨g,0,V⟩)) (R),cond b3 (Z Y x) (S),cond b4 (Z E x) (T),cond b5 (Z E (bs+x)) (W),cond b6 (M (X ⟨k,8,V⟩)) (aa),ab,ac,ad,ae,af,ag,ah,ai,aj,ak,aR,aR,aR,al,am,an,ao,ap,aq,ar,au,av,aw,ax,ay,az,u64,aA,aB,aC,aD,aE,aF,aG,aH,aI,aJ,aK,aL,aM,aN,aO,aP,aQ,aS,aT,aU,aV,aW,aX,aY,aZ,a0,a1,a2,a3,a4],defers:=[]}/\JC w0 w B g k k6 (cond b3 l' l) (cond b7 j2 j)
def Is(w0:VF)(B g k k6:Nat)(nm:ByteArray)(A:Option VG)(n c:Nat)(x:Int)(v9:VE)(l l':List Int)(j:Jd)(d e f h i m o p q r s t u y z C D F I J L N P R S T W aa ab ac ad ae af ag ah ai aj ak al am an ao ap aq ar au av aw ax ay u64 az aA aB aC aD aE aF aG aH aI aJ aK aL aM aN aO aP aQ aS aT aU aV aW aX aY aZ a0 a1 a2 a3:VE)(b:Array Bool)(a:Act)(w:VF):Prop:=
 ∃(b0 b1 b2 b3 b4 b5 b6 b7 b8:Bool) (kp:Nat) (a4:VE),b=#[b0,b1,b2,b3,b4,b5,b6,b7,b8]/\
  a={tmps:=#[M (X ⟨g,0,V⟩),Q nm,U A n c,aR,aR,aR,M (X ⟨k6,0,V⟩),M (X ⟨k,0,V⟩),aR,v9,aR,d,e,f,h,i,m,o,p,q,r,s,t,u,y,z,C,D,F,I,J,L,N,P,R,S,T,W,aa,ab,ac,ad,ae,af,ag,ah,ai,aj,U A n c,Z Y (n:Int),Z Y (n:Int),ak,al,am,an,ao,ap,aq,ar,au,av,aw,ax,ay,u64,az,aA,cond b0 (U (X ⟨kp,0,V⟩) 7 7) (aB),cond b1 (M (X ⟨g,0,V⟩)) (aC),cond b2 (Z Y x) (aD),cond b3 (M (X ⟨kp,x.toNat,V⟩)) (aE),cond b4 (Q (m9 x)) (aF),cond b5 (M (X ⟨k,4,V⟩)) (aG),cond b7 (M (X ⟨k,5,V⟩)) (aH),aI,aJ,aK,aL,aM,aN,aO,aP,aQ,aS,aT,aU,aV,aW,aX,aY,aZ,a0,a1,a2,a3],defers:=[]}/\Nc w0 w B g k k6 b0 kp (cond b2 l' l) (cond b8 {j with IQ:=G,ready:=m9 x} (cond b6 {j with IQ:=G} j))
def Ir(w0:VF)(B g k k6:Nat)(nm:ByteArray)(A:Option VG)(n c kk e:Nat)(x y:Int)(v9:VE)(l l1 l2:List Int)(j:Jd)(f h i m o p q r s t u z C D F I J L N P R S T W aa ab ac ad ae af ag ah ai aj ak al am an ao ap aq ar au av aw ax ay az aA aB u64 aC aD aE aF aG aH aI aJ aK aL aM aN aO aP aQ aS aT aU aV aW aX aY aZ a0 a1 a2:VE)(b:Array Bool)(a:Act)(w:VF):Prop:=
 ∃(b0 b1 b2 b3 b4 b5 b6 b7 b8 b9 b10 b11 b12 d b14:Bool) (kb kc:Nat) (va:VE),b=#[b0,b1,b2,b3,b4,b5,b6,b7,b8,b9,b10,b11,b12,d,b14]/\
  a={tmps:=#[M (X ⟨g,0,V⟩),Q nm,U A n c,aR,aR,aR,M (X ⟨k6,0,V⟩),M (X ⟨k,0,V⟩),aR,v9,Z Y (kk:Int),f,h,i,m,o,p,q,r,s,t,u,z,C,D,F,I,J,L,N,P,R,S,T,W,aa,ab,ac,ad,ae,af,ag,ah,ai,aj,ak,al,am,U A n c,Z Y (n:Int),Z Y (n:Int),an,ao,ap,aq,ar,au,av,aw,ax,ay,az,aA,aB,u64,aC,aD,aE,aF,aG,aH,aI,aJ,aK,M (X ⟨g,0,V⟩),Z Y (e:Int),Z Y (kk:Int),K G,aL,aM,cond b0 (M (X ⟨k,12,V⟩)) (aN),cond b1 (U j.lA j.IK.length j.lc) (aO),cond b2 (U (X ⟨kb,0,V⟩) 3 3) (aP),cond b3 (M (X ⟨g,0,V⟩)) (aQ),cond b4 (Z Y x) (aS),cond b5 (M (X ⟨kb,x.toNat,V⟩)) (aT),cond b6 (Z Y (JF x)) (aU),cond b7 (M (X ⟨g,0,V⟩)) (aV),cond b8 (Z Y y) (aW),cond b9 (Z E y) (aX),cond b10 (.agg #[Z Y (JF x),Z E y]) (aY),cond b11 (U (X ⟨kc,0,V⟩) 1 1) (aZ),cond b12 (va) (a0),cond d (M (X ⟨k,12,V⟩)) (a1),a2],defers:=[]}/\Mk w0 B g k k6 j (JF x) y (cond b8 l2 (cond b4 l1 l)) b2 b11 b12 b14 kb kc va w
def vt(w:VF)(B g k:Nat)(nm:ByteArray)(os:List ByteArray)(b a:VE)(wr:VF):Prop:=
 ∃(v9:VE) (i:Nat) (l':List Int) (j:Jd),v9=b/\a=Z Y (i:Int)/\i<=os.length/\KA nm j/\Na os i j/\iP j/\JC w wr B g k w.heap.size l' j
def Bq(w:VF)(B g k:Nat)(nm:ByteArray)(os:List ByteArray)(a:VE)(wr:VF):Prop:=
 ∃(kk:Nat) (l':List Int) (j:Jd),a=Z Y (kk:Int)/\kk<=3/\KA nm j/\Na os os.length j/\1<=j.IK.length+kk/\j.IK.length+kk<=3/\(∀r∈j.IK,0<=r.2/\r.2<9)/\JC w wr B g k w.heap.size l' j/\LO w wr (U j.lA j.IK.length j.lc) j.IK
theorem Hw(B g:Nat)(l0:List Int)(nm:ByteArray)(A:Option VG)(c:Nat)(os:List ByteArray)(w:VF)(h:Dk w B g l0)(cN:Ts w 9 A (ar os))(hm:os.length<=1000):
  VH VM 61 #[M (X ⟨g,0,V⟩),Q nm,U A os.length c] w (vu w B g nm os):=by
 have aO:=h.lt
 obtain⟨x1,l1,e1⟩:∃x r,nx l0 4=(x,r):=⟨_,_,rfl⟩
 obtain⟨x2,l2,e2⟩:∃x r,(1+(nx l1 (3-1+1)).1,(nx l1 (3-1+1)).2)=(x,r):=⟨_,_,rfl⟩
 obtain⟨z,l3,e3⟩:∃x r,nx l2 6=(x,r):=⟨_,_,rfl⟩
 obtain⟨R,l4,e4⟩:∃x r,nx l3 20=(x,r):=⟨_,_,rfl⟩
 obtain⟨x5,l5,e5⟩:∃x r,(1+(nx l4 (4-1+1)).1,(nx l4 (4-1+1)).2)=(x,r):=⟨_,_,rfl⟩
 obtain⟨S,l6,e6⟩:∃x r,(1+(nx l5 (30-1+1)).1,(nx l5 (30-1+1)).2)=(x,r):=⟨_,_,rfl⟩
 have d1:=fO l0 (show(1:Int)<=4 by decide)
 have d2:=fO l1 (show(1:Int)<=3-1+1 by decide)
 have d3:=fO l2 (show(1:Int)<=6 by decide)
 have d4:=fO l3 (show(1:Int)<=20 by decide)
 have d5:=fO l4 (show(1:Int)<=4-1+1 by decide)
 have d6:=fO l5 (show(1:Int)<=30-1+1 by decide)
 rw[e1] at d1;rw[e3] at d3;rw[e4] at d4;have f2:=congrArg Prod.fst e2;have f5:=congrArg Prod.fst e5;have f6:=congrArg Prod.fst e6;simp only at d1 d3 d4 f2 f5 f6;have b2:1<=x2/\x2<=3:=by omega
 have p:1<=x5/\x5<=4:=by omega
 have b6:1<=S/\S<=30:=by omega
 have u3:=Vf z (by omega)
 have u4:=Vf R (by omega)
 have u6:=Vf S (by omega)
 clear d2 d5 d6 f2 f5 f6;go_enter func61,ntmps61;go_upto_region 1 with fail
 go_cut [7] (fun s7 wx=>∃k,s7=M (X ⟨k,0,V⟩)/\JC w wx B g k w.heap.size l6 (CW nm x1 x2 z R x5 S))
 case first=>
  refine ak [([],[]),([],[4,21,5,19]),([],[]),([2],[4,7,21,5,9,19,10,12,13,15,17,18]),([1,3],[]),([4,1,3,2],[19,21]),([],[]),([6,3,2],[9,19,21,10,12,13,15,17,18]),([],[]),([8,7,6,3,2],[10,12,21,19,13,15,17,18]),([9],[]),([],[]),([11,9,8,7,6,3,2],[13,15,21,19,17,18]),([12],[]),([],[]),([14,12,11,9,8,7,6,3,2],[17,19,21,18]),([],[]),([16,15,14,12,11,9,8,7,6,3,2],[18,21,19]),([17],[]),([0,5,7,10,13,15,18],[]),([],[21]),([20,19,17,0,1,2,3,4,5,6,7,8,9,10,11,12,13,14,15,16,18],[])] (JR1 w B g w.heap.size nm A os.length c x1 x2 z R x5 S l0 l1 l2 l3 l4 l5 l6) ?_ ?_ ⟨?_,?_,?_,?_,?_,?_,?_,?_,?_,?_,?_,?_,?_,?_,?_,?_,?_,?_,?_,?_,?_,?_,trivial⟩
  ·exact⟨O,O,O,O,O,O,O,O,O,O,O,O,O,O,O,O,O,O,O,O,O,O,0,0,aR,rfl,rfl,J1.start h _ _ _⟩
  ·rintro a f ⟨b0,b1,b2,b3,b4,p,b6,b7,b8,b9,b10,b11,b12,m,b14,_,_,_,_,_,_,_,ka,kb,d,L,rfl,b⟩;have D:=congrArg Vg L;simp at D;obtain⟨rfl,rfl,rfl,rfl,rfl,rfl,rfl,rfl,rfl,rfl,rfl,rfl,rfl,rfl,rfl,rfl,rfl,rfl,rfl,rfl,rfl,rfl⟩:=D;clear L;obtain⟨q1,q2,q3,q4,q5,q6,q7⟩:=b;obtain⟨r1,r2,r3⟩:=q7 rfl;have J:Hid (JC w f B g ka w.heap.size l6 (CW nm x1 x2 z R x5 S)):=aJ ⟨q1,q2,r1,r3,q3,q4,r2,q5,bX rfl,IL.Jk _ _ _ _⟩;clear q1 q2 q3 q4 q5 q6 q7 r1 r2 r3;go_wp2;go_meet
   case rel=>exact⟨ka,rfl,J.out⟩
  rotate_left 1
  ·rintro _ _ f K ⟨b0,b1,b2,b3,b4,p,b6,b7,b8,b9,b10,b11,b12,m,b14,_,_,_,_,_,_,_,ka,kb,d,rfl,h2,b⟩ h l
   repeat obtain⟨rfl,h⟩:=h
   subst h2;go_simp;apply l;iterate 22 apply bW
   exact⟨ka,f.heap.size,d,rfl,rfl,b.bs⟩
  rotate_left 1
  ·rintro _ _ f K ⟨b0,b1,b2,b3,b4,p,b6,b7,b8,b9,b10,b11,b12,m,b14,_,_,_,_,_,_,_,ka,kb,d,rfl,h2,b⟩ h l
   repeat obtain⟨rfl,h⟩:=h
   subst h2;have n:=dB B g l0 4 f b.dk (by decide) (by decide)
   rw[e1] at n;go_simp;refine n.mono ?_;rintro e w2 ⟨rfl,hd,F⟩;apply l;iterate 22 apply bW
   exact⟨ka,kb,d,rfl,rfl,b.turn hd F⟩
  rotate_left 1
  ·rintro _ _ f K ⟨b0,b1,b2,b3,b4,p,b6,b7,b8,b9,b10,b11,b12,m,b14,_,_,_,_,_,_,_,ka,kb,d,rfl,h2,b⟩ h l
   repeat obtain⟨rfl,h⟩:=h
   subst h2;have N:=b.run d1.1 d1.2;go_simp;apply l;iterate 22 apply bW
   exact⟨ka,kb,d,rfl,rfl,b⟩
  rotate_left 1
  ·rintro _ _ f K ⟨b0,b1,b2,b3,b4,p,b6,b7,b8,b9,b10,b11,b12,m,b14,_,_,_,_,_,_,_,ka,kb,d,rfl,h2,b⟩ h l
   repeat obtain⟨rfl,h⟩:=h
   subst h2;have n:=gv B g l1 1 3 f b.dk (by decide) (by decide) (by decide)
   rw[e2] at n;go_simp;refine n.mono ?_;rintro e w2 ⟨rfl,hd,F⟩;apply l;iterate 22 apply bW
   exact⟨ka,kb,d,rfl,rfl,b.turn hd F⟩
  rotate_left 1
  ·rintro _ _ f K ⟨b0,b1,b2,b3,b4,p,b6,b7,b8,b9,b10,b11,b12,m,b14,_,_,_,_,_,_,_,ka,kb,d,rfl,h2,b⟩ h l
   repeat obtain⟨rfl,h⟩:=h
   subst h2;have n:=dB B g l2 6 f b.dk (by decide) (by decide)
   rw[e3] at n;go_simp;refine n.mono ?_;rintro e w2 ⟨rfl,hd,F⟩;apply l;iterate 22 apply bW
   exact⟨ka,kb,d,rfl,rfl,b.turn hd F⟩
  rotate_left 2
  ·rintro _ _ f K ⟨b0,b1,b2,b3,b4,p,b6,b7,b8,b9,b10,b11,b12,m,b14,_,_,_,_,_,_,_,ka,kb,d,rfl,h2,b⟩ h l
   repeat obtain⟨rfl,h⟩:=h
   subst h2;have n:=dB B g l3 20 f b.dk (by decide) (by decide)
   rw[e4] at n;go_simp;refine n.mono ?_;rintro e w2 ⟨rfl,hd,F⟩;apply l;iterate 22 apply bW
   exact⟨ka,kb,d,rfl,rfl,b.turn hd F⟩
  rotate_left 2
  ·rintro _ _ f K ⟨b0,b1,b2,b3,b4,p,b6,b7,b8,b9,b10,b11,b12,m,b14,_,_,_,_,_,_,_,ka,kb,d,rfl,h2,b⟩ h l
   repeat obtain⟨rfl,h⟩:=h
   subst h2;have n:=gv B g l4 1 4 f b.dk (by decide) (by decide) (by decide)
   rw[e5] at n;go_simp;refine n.mono ?_;rintro e w2 ⟨rfl,hd,F⟩;apply l;iterate 22 apply bW
   exact⟨ka,kb,d,rfl,rfl,b.turn hd F⟩
  rotate_left 1
  ·rintro _ _ f K ⟨b0,b1,b2,b3,b4,p,b6,b7,b8,b9,b10,b11,b12,m,b14,_,_,_,_,_,_,_,ka,kb,d,rfl,h2,b⟩ h l
   repeat obtain⟨rfl,h⟩:=h
   subst h2;have n:=gv B g l5 1 30 f b.dk (by decide) (by decide) (by decide)
   rw[e6] at n;go_simp;refine n.mono ?_;rintro e w2 ⟨rfl,hd,F⟩;apply l;iterate 22 apply bW
   exact⟨ka,kb,d,rfl,rfl,b.turn hd F⟩
  rotate_left 2
  ·rintro _ _ f K ⟨b0,b1,b2,b3,b4,p,b6,b7,b8,b9,b10,b11,b12,m,b14,_,_,_,_,_,_,_,ka,kb,d,rfl,h2,b⟩ h l
   repeat obtain⟨rfl,h⟩:=h
   subst h2;go_simp;apply l;iterate 22 apply bW
   exact⟨f.heap.size,kb,d,rfl,rfl,b.al⟩
  ·rintro _ _ f K ⟨b0,b1,b2,b3,b4,p,b6,b7,b8,b9,b10,b11,b12,m,b14,_,_,_,_,_,_,_,ka,kb,d,rfl,h2,b⟩ h l
   repeat obtain⟨rfl,h⟩:=h
   subst h2;have aj:=(b.bx rfl).2.2;have cV:=VK (P:=VM) ka 63 (oS nm x1 x2 z R x5 S).toList 0 wU f aj rfl (fun v hv=>(Vq.1 (show(oS nm x1 x2 z R x5 S).all (·.oneCell')=G by simp[oS,Vh])) v (by simpa using hv))
   go_simp;rw[ps_ (show(oS nm x1 x2 z R x5 S).size=15 from rfl)]
   apply l;iterate 22 apply bW
   exact⟨ka,kb,d,rfl,rfl,b.st⟩
  all_goals
   rintro _ _ f K ⟨b0,b1,b2,b3,b4,p,b6,b7,b8,b9,b10,b11,b12,m,b14,_,_,_,_,_,_,_,ka,kb,d,rfl,h2,b⟩ h l
   repeat obtain⟨rfl,h⟩:=h
   subst h2;go_simp;apply l;iterate 22 apply bW
   exact⟨ka,kb,d,rfl,rfl,b⟩
 obtain⟨k,rfl,cB⟩:=hcut;have cq:=aJ cB;clear cB;obtain⟨x7,l7,e7⟩:∃x r,nx l6 20=(x,r):=⟨_,_,rfl⟩
 have d7:=fO l6 (show(1:Int)<=20 by decide)
 rw[e7] at d7;simp only at d7;have u7:=Vf x7 (by omega)
 have u37:=Vf (z+x7) (by omega)
 go_upto_region 2 with fail
 go_cut [] (fun wx=>JC w wx B g k w.heap.size l7 {CW nm x1 x2 z R x5 S with cap:=z+x7})
 case first=>
  refine gS [([],[]),([0],[5,6,7]),([],[]),([2],[4,6,7,5]),([3],[]),([1,4],[]),([0,1,2,3,4,5],[]),([6,5,3,0,1,2,4],[])] (fun(⟨p0,p1,p2,p3,p4,p5,p6,p7,p8,p9,aU,aV,aW,aX,aY,aZ,a0,a1,a2,a3,a4,a5,a6,a7,a8,a9,a',ba,bb,bc,bd,be,bf,bg,bh,bi,bj,bk,bl,bm,bn,bo,bp,bq,br,bt,bu,bv,bw,bz,bA,bB,bC,bH,bI,bJ,bK,bL,bM,bN,bP,bQ,bR,bS,bT,bU,bV,bZ,b',ca,cb,cc,cd,ce,cf,cg,ch,ci,cj,ck,cm⟩:VE×VE×VE×VE×VE×VE×VE×VE×VE×VE×VE×VE×VE×VE×VE×VE×VE×VE×VE×VE×VE×VE×VE×VE×VE×VE×VE×VE×VE×VE×VE×VE×VE×VE×VE×VE×VE×VE×VE×VE×VE×VE×VE×VE×VE×VE×VE×VE×VE×VE×VE×VE×VE×VE×VE×VE×VE×VE×VE×VE×VE×VE×VE×VE×VE×VE×VE×VE×VE×VE×VE×VE×VE×VE×VE×VE×VE×VE×VE×VE×VE)=>JR2 w B g k w.heap.size nm A os.length c x7 z l6 l7 (CW nm x1 x2 z R x5 S) {CW nm x1 x2 z R x5 S with cap:=z+x7} p0 p1 p2 p3 p4 p5 p6 p7 p8 p9 aU aV aW aX aY aZ a0 a1 a2 a3 a4 a5 a6 a7 a8 a9 a' ba bb bc bd be bf bg bh bi bj bk bl bm bn bo bp bq br bt bu bv bw bz bA bB bC bH bI bJ bK bL bM bN bP bQ bR bS bT bU bV bZ b' ca cb cc cd ce cf cg ch ci cj ck cm) ?_ ?_ ?_
  ·exact⟨(_,_,_,_,_,_,_,_,_,_,_,_,_,_,_,_,_,_,_,_,_,_,_,_,_,_,_,_,_,_,_,_,_,_,_,_,_,_,_,_,_,_,_,_,_,_,_,_,_,_,_,_,_,_,_,_,_,_,_,_,_,_,_,_,_,_,_,_,_,_,_,_,_,_,_,_,_,_,_,_,_),O,O,O,O,O,O,O,O,0,aR,rfl,rfl,cq.out.up (ID.refl wc).drew⟩
  ·rintro⟨u11,u12,u13,u14,u15,u16,u17,u18,u19,u20,u21,u22,u23,u24,u25,u26,u27,u28,u29,u30,u31,u32,u33,u34,u35,u36,u37,u38,u39,u40,u41,u42,u43,u44,u45,u46,u47,u51,u52,u53,u54,u55,u56,u57,u58,u59,u60,u61,u62,u63,u64,u65,u66,u67,u68,u69,u70,u71,u72,u73,u74,u75,u76,u77,u78,u79,u80,u81,u82,u83,u84,u85,u86,u87,u88,u89,u90,u91,u92,u93,u94⟩ a f ⟨b0,b1,b2,b3,b4,p,b6,b7,t,d,L,rfl,b⟩;have D:=congrArg Vg L;simp at D;obtain⟨rfl,rfl,rfl,rfl,rfl,rfl,rfl,rfl⟩:=D;clear L;have J:=aJ b;clear b;go_wp2;go_meet
   case rel=>exact J.out
  rintro⟨u11,u12,u13,u14,u15,u16,u17,u18,u19,u20,u21,u22,u23,u24,u25,u26,u27,u28,u29,u30,u31,u32,u33,u34,u35,u36,u37,u38,u39,u40,u41,u42,u43,u44,u45,u46,u47,u51,u52,u53,u54,u55,u56,u57,u58,u59,u60,u61,u62,u63,u64,u65,u66,u67,u68,u69,u70,u71,u72,u73,u74,u75,u76,u77,u78,u79,u80,u81,u82,u83,u84,u85,u86,u87,u88,u89,u90,u91,u92,u93,u94⟩;refine⟨?_,?_,?_,?_,?_,?_,?_,?_,trivial⟩;rotate_left 1
  ·rintro _ _ f K ⟨b0,b1,b2,b3,b4,p,b6,b7,t,d,rfl,h2,b⟩ h l
   repeat obtain⟨rfl,h⟩:=h
   subst h2;have cl:=cr_ b.row 7 (Z E z);go_simp;apply l;iterate 8 apply bW
   exact⟨t,d,rfl,rfl,b⟩
  rotate_left 1
  ·rintro _ _ f K ⟨b0,b1,b2,b3,b4,p,b6,b7,t,d,rfl,h2,b⟩ h l
   repeat obtain⟨rfl,h⟩:=h
   subst h2;have n:=dB B g l6 20 f b.dk (by decide) (by decide)
   rw[e7] at n;go_simp;refine n.mono ?_;rintro e w2 ⟨rfl,hd,F⟩;apply l;iterate 8 apply bW
   exact⟨t,d,rfl,rfl,b.turn hd F⟩
  rotate_left 3
  ·rintro _ _ f K ⟨b0,b1,b2,b3,b4,p,b6,b7,t,d,rfl,h2,b⟩ h l
   repeat obtain⟨rfl,h⟩:=h
   subst h2;have fz:=aN f k 8 _ _ b.row;have cl:=cr_ b.row 8 (Z E 0);go_simp;apply l;iterate 8 apply bW
   exact⟨t,d,rfl,rfl,b.put 8 (Z E (z+x7)) rfl ⟨rfl,rfl⟩ ⟨rfl,rfl,rfl⟩⟩
  all_goals
   rintro _ _ f K ⟨b0,b1,b2,b3,b4,p,b6,b7,t,d,rfl,h2,b⟩ h l
   repeat obtain⟨rfl,h⟩:=h
   subst h2;go_simp;apply l;iterate 8 apply bW
   exact⟨t,d,rfl,rfl,b⟩
 have o:=aJ hcut
 clear hcut cq;have ct:Hid (KA nm {CW nm x1 x2 z R x5 S with cap:=z+x7}/\ls {CW nm x1 x2 z R x5 S with cap:=z+x7}/\iP {CW nm x1 x2 z R x5 S with cap:=z+x7}):=
  aJ ⟨⟨rfl,b2,(by show 0<=z/\z<=5;omega),(by show z<=z+x7/\z+x7<=z+19;omega),(by show 0<=R/\R<=19;omega),p,b6,bO _,EA _,rfl,(fun e=>by cases e),(fun r N=>by cases N),⟨rfl,rfl⟩,(fun _=>rfl)⟩,⟨rfl,rfl,rfl⟩,⟨rfl,rfl,rfl⟩⟩
 have cR:=aJ h
 have cU:=aJ cN
 generalize ({CW nm x1 x2 z R x5 S with cap:=z+x7}:Jd)=j2 at *
 obtain⟨cz,cJ,cG⟩:=ct.out;have ao:=aJ cz;have aq:=aJ cJ;have ap:=aJ cG;clear ct cz cJ cG h cN e1 e2 e3 e4 e5 e6 e7 d1 d3 d4 b2 p b6 d7;obtain⟨x8,l8,e8⟩:∃x r,nx l7 4=(x,r):=⟨_,_,rfl⟩
 have aQ:=dB B g l7 4 wc o.out.dk (by decide) (by decide)
 rw[e8] at aQ;have cs:=aJ aQ;clear aQ e8;go_wp2_with fail;refine(cs.out).mono ?_;rintro e w3 ⟨rfl,ay,ad⟩;have T:=aJ (o.out.turn ay ad);clear ay ad o cs;go_upto_if 40 with fail
 go_cut [] (fun wx=>∃(l':List Int) (j:Jd),KA nm j/\ls j/\iP j/\JC w wx B g k w.heap.size l' j)
 case first=>
  by_cases hx:x8=0
  ·subst hx;obtain⟨x9,l9,e9⟩:∃x r,(1+(nx l8 (2-1+1)).1,(nx l8 (2-1+1)).2)=(x,r):=⟨_,_,rfl⟩
   have d9:=fO l8 (show(1:Int)<=2-1+1 by decide)
   have f9:=congrArg Prod.fst e9
   simp only at f9
   have b9:x9=1\/x9=2:=by omega
   have ab:=aJ (T.out.up ((ID.refl w3).alloc (H #[Q ⟨#[80]⟩,Q ⟨#[49]⟩,Q ⟨#[81]⟩,Q ⟨#[0,32,113]⟩] 238)))
   have aS:=gv B g l8 1 2 _ ab.out.dk (by decide) (by decide) (by decide)
   rw[e9] at aS;have aG:=aJ aS;clear aS e9 d9 f9;go_wp2_with fail;refine(aG.out).mono ?_;rintro e w4 ⟨rfl,aL,az⟩;have aO:=T.out.gl;have hsz:=T.out.gw.size;have ax:w4.heap[w3.heap.size]? =X (H #[Q ⟨#[80]⟩,Q ⟨#[49]⟩,Q ⟨#[81]⟩,Q ⟨#[0,32,113]⟩] 238 (0,0)):=(az.block _ (by simp) (fun e=>by injection e with e;omega)).trans (aM w3 _)
   have ac:=aJ (ab.out.turn aL az)
   have cl:=cr_ ac.out.row 2 (U j2.eA j2.IJ.length j2.ec)
   have fz:=aN w4 k 2 _ _ ac.out.row
   rcases b9 with rfl|rfl
   ·have HT:Hid (Ts w4 238 (X ⟨w3.heap.size,0,V⟩) (cH [(⟨#[80]⟩,⟨#[49]⟩)])):=aJ (bY ⟨_,0,_,_,rfl,ax,uj [Q ⟨#[80]⟩,Q ⟨#[49]⟩] [Q ⟨#[81]⟩,Q ⟨#[0,32,113]⟩]⟩)
    have J:Hid (∃(l':List Int) (j:Jd),KA nm j/\ls j/\iP j/\JC w (w4.setCell ⟨k,2,V⟩ (U (X ⟨w3.heap.size,0,V⟩) 1 2)) B g k w.heap.size l' j):=aJ ⟨l9,{j2 with eA:=X ⟨w3.heap.size,0,V⟩,IJ:=[(⟨#[80]⟩,⟨#[49]⟩)],ec:=2},ao.out.PD _ _ _ (by decide) rfl,aq.out,ap.out,ac.out.Ov (c:=2) HT.out⟩
    clear T ab ac aG aL az ax HT aO hsz;go_wp2;go_meet
    case rel=>exact J.out
   have HT:Hid (Ts w4 238 (X ⟨w3.heap.size,0,V⟩) (cH [(⟨#[80]⟩,⟨#[49]⟩),(⟨#[81]⟩,⟨#[0,32,113]⟩)])):=aJ (bY ⟨_,0,_,_,rfl,ax,uj [Q ⟨#[80]⟩,Q ⟨#[49]⟩,Q ⟨#[81]⟩,Q ⟨#[0,32,113]⟩] []⟩)
   have J:Hid (∃(l':List Int) (j:Jd),KA nm j/\ls j/\iP j/\JC w (w4.setCell ⟨k,2,V⟩ (U (X ⟨w3.heap.size,0,V⟩) 2 2)) B g k w.heap.size l' j):=aJ ⟨l9,{j2 with eA:=X ⟨w3.heap.size,0,V⟩,IJ:=[(⟨#[80]⟩,⟨#[49]⟩),(⟨#[81]⟩,⟨#[0,32,113]⟩)],ec:=2},ao.out.PD _ _ _ (by decide) rfl,aq.out,ap.out,ac.out.Ov (c:=2) HT.out⟩
   clear T ab ac aG aL az ax HT aO hsz;go_wp2;go_meet
   case rel=>exact J.out
  have n8:(x8==0)=O:=by simpa using hx
  have J:Hid (∃(l':List Int) (j:Jd),KA nm j/\ls j/\iP j/\JC w w3 B g k w.heap.size l' j):=aJ ⟨l8,j2,ao.out,aq.out,ap.out,T.out⟩
  clear T;go_wp2;go_meet
  case rel=>exact J.out
 obtain⟨l9,j3,cA,cK,cI,ae⟩:=hcut;have HI:Hid (∀v,vt w B g k nm os v (Z Y 0) wc):=aJ (fun v=>⟨v,0,l9,j3,rfl,rfl,bO _,cA,(by unfold Na;rw[cK.2.1];exact List.nil_sublist _),cI,ae⟩)
 clear cA cK cI ae ao aq ap;have c8:(os.length:Int)<=1000:=by omega
 go_wp2
 go_loopw [9,50] (fun s9 co wr=>vt w B g k nm os s9 co wr) (fun _ co _=>os.length-(intOf co).toNat)
 case atStart=>exact HI.out _
 clear HI;obtain⟨v9,i,l',j,rfl,rfl,_,hb,I,L,hc⟩:=hrel;have HC:=aJ hc;have HB:=aJ hb;have HL:=aJ L;clear hc hb L
 by_cases aA:i<os.length
 ·have i1:(i:Int)<(os.length:Int):=by omega
  have i0:(0:Int)<=(i:Int):=by omega
  have hs:(ar os)[i]? =X (Q (os.getD i ⟨#[]⟩)):=by simp[ar,bD,bE aA]
  obtain⟨bs,off,rfl,_,cC⟩:=(cR.out.ts HC.out.gw cU.out (by decide)).rs.at_ (by simp[ar];omega)
  have c0:=cC _ _ hs
  clear hs cC;have cu:Hid (∃s,os.getD i ⟨#[]⟩=s):=aJ ⟨_,rfl⟩
  obtain⟨s,aT⟩:=cu.out;have HS:=aJ aT;rw[aT] at c0;clear aT cu;obtain⟨x,lx,ex⟩:∃x r,nx l' 3=(x,r):=⟨_,_,rfl⟩
  have n:=dB B g l' 3 wr HC.out.dk (by decide) (by decide)
  rw[ex] at n;have HN:=aJ n;clear n ex;go_wp2_with fail;refine(HN.out).mono ?_;rintro e w2 ⟨rfl,af,ah⟩;have o:=aJ (HC.out.turn af ah);clear af ah HN HC
  by_cases hx:x=0
  ·subst hx;have cl:=cr_ o.out.row 3 (U j.nA j.IC.length j.nc);have hsz:=o.out.gw.size;have c5:j.IC.length+1<=68719476736:=by have:=I.len;omega
   go_wp2_with (at_builtin;refine aw (wr:=w2) rfl _ _ 59 rfl _ 9 (Q ⟨#[]⟩) 1 16 underlying59 xa rfl (by decide) (by decide) _ _ _ rfl o.out.IC 1 1 [Q s] rfl rfl rfl rfl ?pn1 hsz ?_)
   case pn1=>omega
   intro v3 w4 cM ad ay;obtain⟨A3,c3,rfl,ae⟩:=o.out.KC cM ad;have aa:=o.out.IC.keeps ad (show w2.heap[k]? =X (H (ag j).toArray 63 (0,0)) from o.out.row) (by decide)
   have c1:=cr_ aa 3 (U j.nA j.IC.length j.nc)
   have c2:=aN w4 k 3 _ _ aa
   have J:Hid (∀v,vt w B g k nm os v (Z Y ((i+1:Nat):Int)) (w4.setCell ⟨k,3,V⟩ (U A3 (j.IC.length+1) c3))):=aJ (fun v=>⟨v,i+1,lx,{j with nA:=A3,IC:=j.IC++[s],nc:=c3},rfl,rfl,aA,HB.out.OZ _ _ _,I.push aA HS.out rfl,HL.out,ae⟩)
   clear ae aa cM ad ay o HB HL;go_wp2;go_roundw
   case rel=>exact J.out _
   simp[intOf];omega
  have cZ:(x==0)=O:=by simpa using hx
  have J:Hid (∀v,vt w B g k nm os v (Z Y ((i+1:Nat):Int)) w2):=aJ (fun v=>⟨v,i+1,lx,j,rfl,rfl,aA,HB.out,I.skip,HL.out,o.out⟩)
  clear o HB HL;go_wp2;go_roundw
  case rel=>exact J.out _
  simp[intOf];omega
 obtain rfl:i=os.length:=by omega
 have c7:¬(os.length:Int)<(os.length:Int):=by omega
 obtain⟨cP,am,aH⟩:∃x r,nx l' 2=(x,r):=⟨_,_,rfl⟩
 have n:=dB B g l' 2 wr HC.out.dk (by decide) (by decide)
 rw[aH] at n;have HN:=aJ n;clear n aH;go_wp2_with fail;refine(HN.out).mono ?_;rintro e w2 ⟨rfl,af,ah⟩;have o:=aJ (HC.out.turn af ah);clear af ah HN HC;go_upto_if 66 with fail
 go_cut [] (fun wx=>∃(l':List Int) (j:Jd),KA nm j/\Na os os.length j/\iP j/\JC w wx B g k w.heap.size l' j)
 case first=>
  by_cases hx:cP=0
  ·subst hx;obtain⟨aC,cO,aI⟩:∃x r,nx am 7=(x,r):=⟨_,_,rfl⟩
   have W:=fO am (show(1:Int)<=7 by decide)
   rw[aI] at W;simp only at W;go_upto_region 12 with fail
   refine gS [([],[2,3,7,8,6,4]),([],[]),([1,0],[3,6,7,8,4]),([0,2],[]),([3,0,2,1],[7,8]),([],[]),([5,2,1,0],[7,8]),([0,1,2,3,4,5,6],[]),([7,4,6,0,1,2,3,5],[])] (fun(⟨p0,p1,p2,p3,p4,p5,p6,p7,p8,p9,aU,aV,aW,aX,aY,aZ,a0,a1,a2,a3,a4,a5,a6,a7,a8,a9,a',ba,bb,bc,bd,be,bf,bg,bh,bi,bj,bk,bl,bm,bn,bo,bp,bq,br,bt,bu,bv,bw,bz,bA,bB,bC,bH,bI,bJ,bK,bL,bM,bN,bP,bQ,bR,bS,bT,bU,bV,bZ,b',ca,cb,cc,cd,ce,cf,cg,ch,ci,cj,ck,cm⟩:VE×VE×VE×VE×VE×VE×VE×VE×VE×VE×VE×VE×VE×VE×VE×VE×VE×VE×VE×VE×VE×VE×VE×VE×VE×VE×VE×VE×VE×VE×VE×VE×VE×VE×VE×VE×VE×VE×VE×VE×VE×VE×VE×VE×VE×VE×VE×VE×VE×VE×VE×VE×VE×VE×VE×VE×VE×VE×VE×VE×VE×VE×VE×VE×VE×VE×VE×VE×VE×VE×VE×VE×VE×VE×VE×VE×VE×VE×VE×VE×VE)=>Is w B g k w.heap.size nm A os.length c aC v9 am cO j p0 p1 p2 p3 p4 p5 p6 p7 p8 p9 aU aV aW aX aY aZ a0 a1 a2 a3 a4 a5 a6 a7 a8 a9 a' ba bb bc bd be bf bg bh bi bj bk bl bm bn bo bp bq br bt bu bv bw bz bA bB bC bH bI bJ bK bL bM bN bP bQ bR bS bT bU bV bZ b' ca cb cc cd ce cf cg ch ci cj ck cm) ?_ ?_ ?_
   ·exact⟨(_,_,_,_,_,_,_,_,_,_,_,_,_,_,_,_,_,_,_,_,_,_,_,_,_,_,_,_,_,_,_,_,_,_,_,_,_,_,_,_,_,_,_,_,_,_,_,_,_,_,_,_,_,_,_,_,_,_,_,_,_,_,_,_,_,_,_,_,_,_,_,_,_,_,_,_,_,_,_,_,_),O,O,O,O,O,O,O,O,O,0,aR,rfl,rfl,⟨o.out.up (ID.refl w2).drew,fun e=>(by cases e)⟩⟩
   ·rintro⟨u11,u12,u13,u14,u15,u16,u17,u18,u19,u20,u21,u22,u23,u24,u25,u26,u27,u28,u29,u30,u31,u32,u33,u34,u35,u36,u37,u38,u39,u40,u41,u42,u43,u44,u45,u46,u47,u51,u52,u53,u54,u55,u56,u57,u58,u59,u60,u61,u62,u63,u64,u65,u66,u67,u68,u69,u70,u71,u72,u73,u74,u75,u76,u77,u78,u79,u80,u81,u82,u83,u84,u85,u86,u87,u88,u89,u90,u91,u92,u93,u94⟩ a f ⟨b0,b1,b2,b3,b4,p,b6,b7,b8,kp,d,L,rfl,b⟩;have D:=congrArg Vg L;simp at D;obtain⟨rfl,rfl,rfl,rfl,rfl,rfl,rfl,rfl,rfl⟩:=D;clear L;have J:Hid (∃(l':List Int) (j:Jd),KA nm j/\Na os os.length j/\iP j/\JC w f B g k w.heap.size l' j):=aJ ⟨cO,{j with IQ:=G,ready:=m9 aC},HB.out.OY _ (EM _),I,HL.out,b.jc⟩
    clear b;go_wp2;go_meet
    case rel=>exact J.out
   rintro⟨u11,u12,u13,u14,u15,u16,u17,u18,u19,u20,u21,u22,u23,u24,u25,u26,u27,u28,u29,u30,u31,u32,u33,u34,u35,u36,u37,u38,u39,u40,u41,u42,u43,u44,u45,u46,u47,u51,u52,u53,u54,u55,u56,u57,u58,u59,u60,u61,u62,u63,u64,u65,u66,u67,u68,u69,u70,u71,u72,u73,u74,u75,u76,u77,u78,u79,u80,u81,u82,u83,u84,u85,u86,u87,u88,u89,u90,u91,u92,u93,u94⟩;refine⟨?_,?_,?_,?_,?_,?_,?_,?_,?_,trivial⟩
   ·rintro _ _ f K ⟨b0,b1,b2,b3,b4,p,b6,b7,b8,kp,d,rfl,h2,b⟩ h l
    repeat obtain⟨rfl,h⟩:=h
    subst h2;go_simp;refine(wo f).mono ?_;rintro e w2 ⟨rfl,rfl⟩;apply l;iterate 9 apply bW
    exact⟨f.heap.size,d,rfl,rfl,b.NU⟩
   rotate_left 1
   ·rintro _ _ f K ⟨b0,b1,b2,b3,b4,p,b6,b7,b8,kp,d,rfl,h2,b⟩ h l
    repeat obtain⟨rfl,h⟩:=h
    subst h2;have n:=dB B g am 7 f b.dk (by decide) (by decide)
    rw[aI] at n;go_simp;refine n.mono ?_;rintro e w2 ⟨rfl,hd,F⟩;apply l;iterate 9 apply bW
    exact⟨kp,d,rfl,rfl,b.turn hd F⟩
   rotate_left 1
   ·rintro _ _ f K ⟨b0,b1,b2,b3,b4,p,b6,b7,b8,kp,d,rfl,h2,b⟩ h l
    repeat obtain⟨rfl,h⟩:=h
    subst h2;have N:=b.run W.1 W.2;go_simp;apply l;iterate 9 apply bW
    exact⟨kp,d,rfl,rfl,b⟩
   rotate_left 1
   ·rintro _ _ f K ⟨b0,b1,b2,b3,b4,p,b6,b7,b8,kp,d,rfl,h2,b⟩ h l
    repeat obtain⟨rfl,h⟩:=h
    subst h2;have fz:=aN f k 4 _ _ b.row;have cl:=cr_ b.row 4 (.bool j.IQ);go_simp;apply l;iterate 9 apply bW
    exact⟨kp,d,rfl,rfl,b.put (j':={j with IQ:=G}) 4 (.bool G) rfl ⟨rfl,rfl⟩ ⟨rfl,rfl,rfl⟩⟩
   rotate_left 1
   ·rintro _ _ f K ⟨b0,b1,b2,b3,b4,p,b6,b7,b8,kp,d,rfl,h2,b⟩ h l
    repeat obtain⟨rfl,h⟩:=h
    subst h2;have fz:=aN f k 5 _ _ b.row;have cl:=cr_ b.row 5 (Q j.ready);go_simp;apply l;iterate 9 apply bW
    exact⟨kp,d,rfl,rfl,b.put (j':={j with IQ:=G,ready:=m9 aC}) 5 (Q (m9 aC)) rfl ⟨rfl,rfl⟩ ⟨rfl,rfl,rfl⟩⟩
   all_goals
    rintro _ _ f K ⟨b0,b1,b2,b3,b4,p,b6,b7,b8,kp,d,rfl,h2,b⟩ h l
    repeat obtain⟨rfl,h⟩:=h
    subst h2;go_simp;apply l;iterate 9 apply bW
    exact⟨kp,d,rfl,rfl,b⟩
  have cZ:(cP==0)=O:=by simpa using hx
  have J:Hid (∃(l':List Int) (j:Jd),KA nm j/\Na os os.length j/\iP j/\JC w w2 B g k w.heap.size l' j):=aJ ⟨am,j,HB.out,I,HL.out,o.out⟩
  clear o;go_wp2;go_meet
  case rel=>exact J.out
 obtain⟨aB,cX,hb,cL,L,hc⟩:=hcut;have aE:=aJ hc;have aD:=aJ hb;have C:=aJ L;obtain⟨cp,cY,av⟩:∃x r,(1+(nx aB (3-1+1)).1,(nx aB (3-1+1)).2)=(x,r):=⟨_,_,rfl⟩
 have au:=fO aB (show(1:Int)<=3-1+1 by decide)
 have cy:=congrArg Prod.fst av
 simp only at cy
 have m:1<=cp/\cp<=3:=by omega
 have n:=gv B g aB 1 3 wc hc.dk (by decide) (by decide) (by decide)
 rw[av] at n;have HN:=aJ n;clear n av au cy hb L hc HB HL o I;go_wp2_with fail;refine(HN.out).mono ?_;rintro e w5 ⟨rfl,cD,cE⟩;obtain⟨an,rfl⟩:=Int.eq_ofNat_of_zero_le (show 0<=cp by omega)
 have cr:Hid (Bq w B g k nm os (Z Y (an:Int)) w5):=aJ ⟨an,cY,cX,rfl,by omega,aD.out,cL,(by rw[C.out.2.1];show 1<=0+an;omega),(by rw[C.out.2.1];show 0+an<=3;omega),(fun r N=>by rw[C.out.2.1] at N;cases N),aE.out.turn cD cE,(by rw[C.out.1,C.out.2.1,C.out.2.2];exact IL.Jk _ _ _ _)⟩
 clear cD cE HN aE aD C;go_wp2;go_loopw [10] (fun cn wr=>Bq w B g k nm os cn wr) (fun cn _=>(intOf cn).toNat)
 case atStart=>exact cr.out
 clear cr;obtain⟨kk,l',j,rfl,_,hb,I,h1,h3,hw,hc,ai⟩:=hrel;have HC:=aJ hc;have HB:=aJ hb;have aF:=aJ ai;clear hc hb ai
 by_cases c6:0<kk
 ·have i0:(0:Int)<(kk:Int):=by omega
  obtain⟨x,lx,ex⟩:∃x r,nx l' 3=(x,r):=⟨_,_,rfl⟩
  have dx:=fO l' (show(1:Int)<=3 by decide)
  rw[ex] at dx;obtain⟨y,ly,ey⟩:∃x r,nx lx 9=(x,r):=⟨_,_,rfl⟩
  have dy:=fO lx (show(1:Int)<=9 by decide)
  rw[ey] at dy;simp only at dx dy;have uy:=Vf y (by omega)
  go_upto_region 16 with fail
  refine ak [([],[]),([0],[12,13,14]),([],[5,13,14,6,10,11,12]),([],[]),([3],[5,8,13,14,6,9,12,10,11]),([2,4],[]),([5,2,4,3],[10,13,14,11,12]),([],[]),([7,4,3],[9,12,13,14,10,11]),([8],[]),([6,9],[]),([10,6,9,5,8,2,4,7,3],[12,13,14]),([1,11,8,0,10,7,4,6,9,3,5,2],[13,14]),([0,1,2,3,4,5,6,7,8,9,10,11,12],[]),([13,12,0,1,2,3,4,5,6,7,8,9,10,11],[])] (Ir w B g k w.heap.size nm A os.length c kk an x y v9 l' lx ly j u11 u12 u13 u14 u15 u16 u17 u18 u19 u20 u21 u22 u23 u24 u25 u26 u27 u28 u29 u30 u31 u32 u33 u34 u35 u36 u37 u38 u39 u40 u41 u42 u43 u44 u45 u46 u47 u51 u52 u53 u54 u55 u56 u57 u58 u59 u60 u61 u62 u63 u64 u65 u66 u67 u68 u69 u70 u71 u72 u73 u78 u79 u80 u81 u82 u83 u84 u85 u86 u87 u88 u89 u90 u91 u92 u93 u94) ?_ ?_ ⟨?_,?_,?_,?_,?_,?_,?_,?_,?_,?_,?_,?_,?_,?_,?_,trivial⟩
  ·exact⟨O,O,O,O,O,O,O,O,O,O,O,O,O,O,O,0,0,aR,rfl,rfl,Mk.start HC.out aF.out⟩
  ·rintro a f ⟨b0,b1,b2,b3,b4,p,b6,b7,b8,b9,b10,b11,b12,m,b14,kb,kc,va,L,rfl,b⟩;have D:=congrArg Vg L;simp at D;obtain⟨rfl,rfl,rfl,rfl,rfl,rfl,rfl,rfl,rfl,rfl,rfl,rfl,rfl,rfl,rfl⟩:=D;clear L;obtain⟨A9,c9,cF,ai⟩:=b.fin rfl;have J:Hid (Bq w B g k nm os (Z Y ((kk:Int)-1)) f):=aJ ⟨kk-1,ly,{j with lA:=A9,IK:=j.IK++[(JF x,y)],lc:=c9},(by congr 1;omega),by omega,HB.out.Qc _ _ _ (fun r N=>(Vi.mp N).elim (HB.out.si r) (fun N=>by rw[Vj] at N;subst N;exact Ew _)),I,(by show 1<=(j.IK++[(JF x,y)]).length+(kk-1);rw[bF,bG];omega),(by show(j.IK++[(JF x,y)]).length+(kk-1)<=3;rw[bF,bG];omega),(fun r N=>(Vi.mp N).elim (hw r) (fun N=>by rw[Vj] at N;subst N;exact dy)),cF,ai⟩
   clear b cF ai;go_wp2;go_roundw
   case rel=>exact J.out
   simp[intOf];omega
  rotate_left 1
  ·rintro _ _ f K ⟨b0,b1,b2,b3,b4,p,b6,b7,b8,b9,b10,b11,b12,m,b14,kb,kc,va,rfl,h2,b⟩ h l
   repeat obtain⟨rfl,h⟩:=h
   subst h2;have cl:f.cell? ⟨k,12,V⟩=X (U j.lA j.IK.length j.lc):=(aK f k 12 _ _ _ (b.jc rfl).row).trans rfl;go_simp;apply l;iterate 15 apply bW
   exact⟨kb,kc,va,rfl,rfl,b⟩
  ·rintro _ _ f K ⟨b0,b1,b2,b3,b4,p,b6,b7,b8,b9,b10,b11,b12,m,b14,kb,kc,va,rfl,h2,b⟩ h l
   repeat obtain⟨rfl,h⟩:=h
   subst h2;go_simp;apply l;iterate 15 apply bW
   exact⟨f.heap.size,kc,va,rfl,rfl,b.mkb⟩
  rotate_left 1
  ·rintro _ _ f K ⟨b0,b1,b2,b3,b4,p,b6,b7,b8,b9,b10,b11,b12,m,b14,kb,kc,va,rfl,h2,b⟩ h l
   repeat obtain⟨rfl,h⟩:=h
   subst h2;have n:=dB B g l' 3 f b.dk (by decide) (by decide)
   rw[ex] at n;go_simp;refine n.mono ?_;rintro e w2 ⟨rfl,hd,F⟩;apply l;iterate 15 apply bW
   exact⟨kb,kc,va,rfl,rfl,b.turn hd F⟩
  rotate_left 1
  ·rintro _ _ f K ⟨b0,b1,b2,b3,b4,p,b6,b7,b8,b9,b10,b11,b12,m,b14,kb,kc,va,rfl,h2,b⟩ h l
   repeat obtain⟨rfl,h⟩:=h
   subst h2;have N:=Mk.sig (b.tb rfl rfl).2 dx.1 dx.2;go_simp;apply l;iterate 15 apply bW
   exact⟨kb,kc,va,rfl,rfl,b⟩
  rotate_left 1
  ·rintro _ _ f K ⟨b0,b1,b2,b3,b4,p,b6,b7,b8,b9,b10,b11,b12,m,b14,kb,kc,va,rfl,h2,b⟩ h l
   repeat obtain⟨rfl,h⟩:=h
   subst h2;have n:=dB B g lx 9 f b.dk (by decide) (by decide)
   rw[ey] at n;go_simp;refine n.mono ?_;rintro e w2 ⟨rfl,hd,F⟩;apply l;iterate 15 apply bW
   exact⟨kb,kc,va,rfl,rfl,b.turn hd F⟩
  rotate_left 2
  ·rintro _ _ f K ⟨b0,b1,b2,b3,b4,p,b6,b7,b8,b9,b10,b11,b12,m,b14,kb,kc,va,rfl,h2,b⟩ h l
   repeat obtain⟨rfl,h⟩:=h
   subst h2;go_simp;apply l;iterate 15 apply bW
   exact⟨kb,f.heap.size,va,rfl,rfl,b.mkc⟩
  ·rintro _ _ f K ⟨b0,b1,b2,b3,b4,p,b6,b7,b8,b9,b10,b11,b12,m,b14,kb,kc,va,rfl,h2,b⟩ h l
   repeat obtain⟨rfl,h⟩:=h
   subst h2;have aj:=(b.rc rfl rfl).2;refine eY f (by rfl) _ _ 61 (by rfl) w.heap.size 241 (.agg #[Z Y 0,Z E 0]) 2 16 underlying61 sZ rfl (by decide) (by decide) (U j.lA j.IK.length j.lc) j.IK.length (I8 j.IK) (by rfl) (b.lo rfl) (X ⟨kc,0,V⟩) 1 1 [Z Y (JF x),Z E y] (by rfl) (bY ⟨kc,0,rfl,fun i u hu=>by rw[Vr,aK f kc i _ _ _ aj,Vd];exact hu⟩) rfl rfl (by omega) (b.jc rfl).gw.size ?_
   intro v' w' ho F cV;apply l;iterate 15 apply bW
   exact⟨kb,kc,v',rfl,rfl,b.LP ho F⟩
  rotate_left 1
  ·rintro _ _ f K ⟨b0,b1,b2,b3,b4,p,b6,b7,b8,b9,b10,b11,b12,m,b14,kb,kc,va,rfl,h2,b⟩ h l
   repeat obtain⟨rfl,h⟩:=h
   subst h2;obtain⟨A9,c9,cW,_,_,_⟩:=(b.la rfl rfl).shape;subst cW;have fz:=aN f k 12 _ _ (b.jc rfl).row;have cl:f.cell? ⟨k,12,V⟩=X (U j.lA j.IK.length j.lc):=(aK f k 12 _ _ _ (b.jc rfl).row).trans rfl;go_simp;exact l _ _ ⟨G,G,G,G,G,G,G,G,G,G,G,G,G,G,G,kb,kc,U A9 (j.IK.length+1) c9,rfl,rfl,b.st⟩
  all_goals
   rintro _ _ f K ⟨b0,b1,b2,b3,b4,p,b6,b7,b8,b9,b10,b11,b12,m,b14,kb,kc,va,rfl,h2,b⟩ h l
   repeat obtain⟨rfl,h⟩:=h
   subst h2;go_simp;apply l;iterate 15 apply bW
   exact⟨kb,kc,va,rfl,rfl,b⟩
 obtain rfl:kk=0:=by omega
 have i0:¬(0:Int)<((0:Nat):Int):=by omega
 have cS:=aJ (HC.out.je aF.out)
 have cT:Hid (∀w',JE w w' B g w.heap.size l' j->vu w B g nm os (Vc (dm j)) w'):=aJ (fun w' q=>⟨j,l',rfl,HB.out,I,h1,h3,hw,q.mem,q.dk,q.gw⟩)
 obtain⟨⟨_,e1,e2,e3,e4,e5,e6,e7,e8,e9,aH,aI,_,av,_⟩,_⟩:=cQ HC.out.row;obtain⟨⟨d0,d1,d2,d3,d4,d5,d6,d7,d8,d9,cv,W,cw,au,cx⟩,_,_,_,_,_,_,_,_,_,_,_,_,_,_,_⟩:=cQ HC.out.MI;clear HC aF HB h1 h3 hw I;go_wp2;refine aP (by first|(simp[results,results61,go_sem,dm,d0,d1,d2,d3,d4,d5,d6,d7,d8,d9,cv,W,cw,au,cx];done)|(simp[results,results61,go_sem,dm,d0,d1,d2,d3,d4,d5,d6,d7,d8,d9,cv,W,cw,au,cx];rfl)) rfl (cT.out _ ?_)
 repeat with_reducible refine JE.set ?_ _ _
 exact cS.out
def CV(j:Jd):Array VE:=#[Q j.nm,Q j.run,U j.eA j.IJ.length j.ec,U j.nA j.IC.length j.nc,K j.IQ,Q j.ready,Z Y j.IE,Z E j.base,Z E j.cap,Z E j.IG,Z Y j.II,Z E j.win,U j.lA j.IK.length j.lc,Z Y j.IM,Z Y j.Jb]
theorem CU(j:Jd):∀v∈(CV j).toList,v.oneCell'=G:=fun v hv=>(Vq.1 (show(CV j).all (·.oneCell')=G by simp[CV,Vh])) v (by simpa using hv)
theorem pD(w:VF)(k:Nat)(v:Array VE):w.grownBy (w.setRow k v) (X k):=⟨rfl,rfl,rfl,by simp,fun b _ hk=>VJ w k b v (fun e=>hk (by rw[e]))⟩
theorem lG{t:VI}{v:Array VE}(h:Ts w e A xs)(hk:w.heap[k]? =X (H cs t z))(hne:e≠t):Ts (w.setRow k v) e A xs:=by
 rcases h with q|⟨b,off,cur,fz,c,a,hc⟩
 ·exact bX q
 refine bY ⟨b,off,cur,fz,c,(VJ w k b v (fun e=>?_)).trans a,hc⟩
 subst e;rw[a] at hk;simp at hk;exact hne hk.2.1
theorem oz{l:List Int}{t:VI}(hd:Dk w B g l)(a:w.grownBy w' (X g))(hk:w.heap[k]? =X (H cs t z))(hne:94≠t):w'.heap[k]? =X (H cs t z):=by
 obtain⟨_,A,c,at_,full,h1,_⟩:=hd;refine(a.block k (aQ hk) ?_).trans hk
 grind
theorem oZ:(VM.info? 63).map (fun i=>(i.zero,i.size,i.bytes))=X (X (.agg #[Q ⟨#[]⟩,Q ⟨#[]⟩,U V 0 0,U V 0 0,K O,Q ⟨#[]⟩,Z Y 0,Z E 0,Z E 0,Z E 0,Z Y 0,Z E 0,U V 0 0,Z Y 0,Z Y 0]),15,192):=by kernel_rfl
def Kw:List ByteArray:=[⟨#[97]⟩,⟨#[98]⟩,⟨#[99]⟩,⟨#[100]⟩]
structure O7(j:Jd):Prop where
 bd:KA j.nm j
 nb:j.IC.length<=4
 l1:1<=j.IK.length
 l3:j.IK.length<=3
 lw:∀r∈j.IK,0<=r.2/\r.2<9
 nd:∃k,k<4/\j.nm=Kw.getD k ⟨#[]⟩/\j.IC.Sublist (Kw.take k)
structure MP(w0 wr:VF)(B g kn:Nat)(js:List Jd)(dl:List Int):Prop where
 row:wr.heap[kn]? =some (.cells #[.string ⟨#[97]⟩,.string ⟨#[98]⟩,.string ⟨#[99]⟩,.string ⟨#[100]⟩] 9 (0,0))
 mem:∀j∈js,Kk B wr j
 dk:Dk wr B g dl
 gr:w0.grownBy wr (some g)
 gl:g<w0.heap.size
theorem Kk.up{j:Jd}(h:Kk B w j)(a:ID w w'):Kk B w' j:=⟨h.IJ.up a,h.IC.up a,h.IK.up a⟩
theorem Kk.turn{j:Jd}(h:Kk B w j)(hd:Dk w B g dl)(a:w.grownBy w' (X g)):Kk B w' j:=
 ⟨hd.ts a h.IJ (by decide),hd.ts a h.IC (by decide),hd.ts a h.IK (by decide)⟩
theorem Kk.grow{base n:Nat}{j:Jd}(h:Kk B w j)(hown:IL w base 63 15 v n xs)(a:w.grownBy w' v.ownBlock):Kk B w' j:=
 ⟨h.IJ.grown hown (by decide) a,h.IC.grown hown (by decide) a,h.IK.grown hown (by decide) a⟩
section
variable {w0 wr w' : VF} {B g kn : Nat} {js : List Jd} {dl dl' : List Int}
theorem MP.up(h:MP w0 wr B g kn js dl)(a:ID wr w'):MP w0 w' B g kn js dl:=
 ⟨a.block h.row,fun j hj=>(h.mem j hj).up a,h.dk.up a,du h.gr (ip a) (fun q e=>by cases e),h.gl⟩
theorem MP.turn(h:MP w0 wr B g kn js dl)(hd:Dk w' B g dl')(a:wr.grownBy w' (X g)):MP w0 w' B g kn js dl':=
 ⟨oz h.dk a h.row (by decide),fun j hj=>(h.mem j hj).turn h.dk a,hd,hY h.gr a,h.gl⟩
theorem MP.grow{n:Nat}(h:MP w0 wr B g kn js dl)(hown:IL wr w0.heap.size 63 15 v n xs)(a:wr.grownBy w' v.ownBlock):MP w0 w' B g kn js dl:=
 ⟨hown.keeps a h.row (by decide),fun j hj=>(h.mem j hj).grow hown a,h.dk.push hown (by decide) (by have:=h.dk.1;have:=h.gl;omega) a,du h.gr a (fun q e=>(bU hown q e).1),h.gl⟩
theorem MP.more{j:Jd}{l:List Jd}(h:MP w0 wr B g kn js dl)(hj:Kk B wr j)(b:∀x∈l,x=j\/x∈js):MP w0 wr B g kn l dl:=
 ⟨h.row,fun x hx=>(by rcases b x hx with rfl|a;exact hj;exact h.mem x a),h.dk,h.gr,h.gl⟩
theorem MP.name(h:MP w0 wr B g kn js dl)(hk:k<4):wr.cell? ⟨kn,k,V⟩=X (Q (Kw.getD k ⟨#[]⟩)):=by
 rw[aK wr kn k _ _ _ h.row];have:k=0\/k=1\/k=2\/k=3:=by omega
 rcases this with rfl|rfl|rfl|rfl<;>rfl
theorem MP.names(h:MP w0 wr B g kn js dl)(k:Nat):Ts wr 9 (X ⟨kn,0,V⟩) (ar (Kw.take k)):=by
 have a:Ts wr 9 (X ⟨kn,0,V⟩) (ar Kw):=bY ⟨kn,0,_,_,rfl,h.row,fun i u b=>by simpa [ar,Kw] using b⟩
 have h2:=a.take k
 rw[show(ar Kw).take k=ar (Kw.take k) by unfold ar;rw[List.map_take]] at h2
 exact h2
end
structure OR(w0 wr:VF)(B g kn:Nat)(v:VE)(js:List Jd):Prop where
 j0:∃dl,MP w0 wr B g kn js dl
 own:IL wr w0.heap.size 63 15 v js.length (fY js)
def RJ(w0:VF)(B g kn:Nat)(v:VE)(js:List Jd)(nm:ByteArray)(ka:Nat)(bc ba bs:Bool)(vj:VE)(ww:VF):Prop:=
 OR w0 ww B g kn v js/\(bc=G->∃j,vj=dm j/\Kk B ww j/\O7 j/\j.nm=nm/\(bs=G->ww.heap[ka]? =X (sV j)))/\
  (ba=G->w0.heap.size<=ka/\(bs=O->ww.heap[ka]? =X (H #[Q ⟨#[]⟩,Q ⟨#[]⟩,U V 0 0,U V 0 0,K O,Q ⟨#[]⟩,Z Y 0,Z E 0,Z E 0,Z E 0,Z Y 0,Z E 0,U V 0 0,Z Y 0,Z Y 0] 63 (0,0))/\v.ownBlock≠X ka))
section
variable {w0 ww w' : VF} {B g kn ka : Nat} {v vj : VE} {js : List Jd} {nm : ByteArray} {bc ba : Bool}
theorem OR.up(h:OR w0 ww B g kn v js)(a:ID ww w'):OR w0 w' B g kn v js:=⟨(by obtain⟨dl,k⟩:=h.j0;exact⟨dl,k.up a⟩),h.own.up a⟩
theorem OR.name(h:OR w0 ww B g kn v js)(hk:k<4):ww.cell? ⟨kn,k,V⟩=X (Q (Kw.getD k ⟨#[]⟩)):=by
 obtain⟨dl,k⟩:=h.j0;exact k.name hk
theorem RJ.start{vj:VE}(h:OR w0 ww B g kn v js):RJ w0 B g kn v js nm ka O O O vj {ww with drawn:=ww.drawn+1}:=
 ⟨h.up (ID.refl ww).drew,(fun e=>by cases e),(fun e=>by cases e)⟩
theorem RJ.call{dl':List Int}{j:Jd}(h:RJ w0 B g kn v js nm ka O ba O vj ww)(b:MP w0 ww B g kn js dl)(hd:Dk w' B g dl')(c:ww.grownBy w' (X g))(a:KA nm j)(i:j.IC.length<=4)(h1:1<=j.IK.length)(f:j.IK.length<=3)(l:∀r∈j.IK,0<=r.2/\r.2<9)(d:∃k,k<4/\j.nm=Kw.getD k ⟨#[]⟩/\j.IC.Sublist (Kw.take k))(hm:Kk B w' j):
  RJ w0 B g kn v js nm ka G ba O (dm j) w':=by
 refine⟨⟨⟨dl',b.turn hd c⟩,b.dk.own c h.1.own (by decide)⟩,fun _=>⟨j,rfl,hm,⟨by rw[a.name];exact a,i,h1,f,l,d⟩,a.name,fun e=>by cases e⟩,fun e=>?_⟩
 obtain⟨a1,a2⟩:=h.2.2 e;exact⟨a1,fun _=>⟨oz b.dk c (a2 rfl).1 (by decide),(a2 rfl).2⟩⟩
theorem RJ.al(h:RJ w0 B g kn v js nm ka bc O O vj ww):RJ w0 B g kn v js nm ww.heap.size bc G O vj (ww.alloc (H #[Q ⟨#[]⟩,Q ⟨#[]⟩,U V 0 0,U V 0 0,K O,Q ⟨#[]⟩,Z Y 0,Z E 0,Z E 0,Z E 0,Z Y 0,Z E 0,U V 0 0,Z Y 0,Z Y 0] 63)):=by
 have a:=(ID.refl ww).alloc (H #[Q ⟨#[]⟩,Q ⟨#[]⟩,U V 0 0,U V 0 0,K O,Q ⟨#[]⟩,Z Y 0,Z E 0,Z E 0,Z E 0,Z Y 0,Z E 0,U V 0 0,Z Y 0,Z Y 0] 63)
 obtain⟨dl,i⟩:=h.1.j0;refine⟨h.1.up a,fun e=>?_,fun _=>⟨i.gr.size,fun _=>⟨aM ww _,fun e=>?_⟩⟩⟩
 ·obtain⟨j,b,c,d,f,_⟩:=h.2.1 e;exact⟨j,b,c.up a,d,f,fun e=>by cases e⟩
 have:=(bU h.1.own _ e).2
 omega
theorem RJ.st{j:Jd}(h:RJ w0 B g kn v js nm ka G G O (dm j) ww)(hm:Kk B ww j)(d:O7 j)(i:j.nm=nm):RJ w0 B g kn v js nm ka G G G (dm j) (ww.setRow ka (CV j)):=by
 obtain⟨a1,a2⟩:=h.2.2 rfl;obtain⟨a,hne⟩:=a2 rfl;obtain⟨dl,b⟩:=h.1.j0;have hB:=b.dk.1;have m:=b.gl;have c:=pD ww ka (CV j);have l:∀x,Kk B ww x->Kk B (ww.setRow ka (CV j)) x:=fun x hx=>⟨lG hx.IJ a (by decide),lG hx.IC a (by decide),lG hx.IK a (by decide)⟩
 have f:kn≠ka:=fun e=>by
  have k:=b.row
  rw[e,a] at k;simp at k
 refine⟨⟨⟨dl,⟨(VJ ww ka kn _ f).trans b.row,fun x hx=>l x (b.mem x hx),b.dk.Kr c (fun e=>by injection e with e;omega) (fun q e=>by injection e with e;omega),du b.gr c (fun q e=>by injection e with e;omega),b.gl⟩⟩,?_⟩,fun _=>⟨j,rfl,l j hm,d,i,fun _=>setRow_heap ww ka _ _ _ _ a⟩,fun _=>⟨a1,fun e=>by cases e⟩⟩
 refine bT h.1.own c ?_;cases hv:v.ownBlock with
 |none=>exact bX rfl
 |some q=>exact bY (fun e=>hne (hv.trans e))
end
def J7(w0:VF)(B g kn k:Nat)(v:VE)(js:List Jd)(R S T W p6 p8 p9 c d e f h i j l m n o p q r s t u w x y z A C D F I J L N:VE)(b:Array Bool)(a:Act)(ww:VF):Prop:=
 ∃(b0 b1 b2 b3 b4 P b6 b7 b8 b9 b10:Bool) (ka:Nat) (vj:VE),b=#[b0,b1,b2,b3,b4,P,b6,b7,b8,b9,b10]/\
  a={tmps:=#[M (X ⟨g,0,V⟩),R,S,T,U (X ⟨kn,0,V⟩) 4 4,W,p6,Z Y (k:Int),cond b9 (M (X ⟨ka,0,V⟩)) (p8),p9,c,d,e,f,h,i,j,l,m,cond b0 (M (X ⟨g,0,V⟩)) (n),cond b1 (U (X ⟨kn,0,V⟩) 4 4) (o),cond b2 (Z Y (k:Int)) (p),cond b3 (M (X ⟨kn,k,V⟩)) (q),cond b4 (Q (Kw.getD k ⟨#[]⟩)) (r),cond P (U (X ⟨kn,0,V⟩) 4 4) (s),cond b6 (Z Y (k:Int)) (t),cond b7 (U (X ⟨kn,0,V⟩) k 4) (u),cond b8 (vj) (w),x,y,z,A,C,D,F,I,J,L,N],defers:=[]}/\RJ w0 B g kn v js (Kw.getD k ⟨#[]⟩) ka b8 b9 b10 vj ww
def xO(a:Int)(js:List Jd)(k:Nat):Prop:=js.map Jd.nm=if a=0 then Kw.take k else(Kw.take k).reverse
theorem yZ{js:List Jd}(h:xO a js k)(hk:k<=4):js.length=k:=by
 have:=congrArg List.length h
 rw[bL] at this;rw[this];split<;>simp[Kw]<;>omega
theorem CE{js:List Jd}{j:Jd}(h:xO 0 js k)(hk:k<4)(hj:j.nm=Kw.getD k ⟨#[]⟩):xO 0 (js++[j]) (k+1):=by
 unfold xO at *;rw[ps_ rfl] at *;have:k=0\/k=1\/k=2\/k=3:=by omega
 rw[Vs,h];rcases this with rfl|rfl|rfl|rfl<;>simp[Kw,hj]
theorem za{js:List Jd}{j:Jd}(h:xO a js k)(hx:a≠0)(hk:k<4)(hj:j.nm=Kw.getD k ⟨#[]⟩):xO a (j::js) (k+1):=by
 unfold xO at *;rw[ng_ hx] at *;have:k=0\/k=1\/k=2\/k=3:=by omega
 rw[List.map_cons,h];rcases this with rfl|rfl|rfl|rfl<;>simp[Kw,hj]
def lu(w:VF)(B g:Nat)(e:Ending)(w':VF):Prop:=
 ∃(v:VE) (js:List Jd) (dl:List Int) (a:Int),e=Vc v/\IL w' w.heap.size 63 15 v js.length (fY js)/\(∀j∈js,Kk B w' j)/\(∀j∈js,O7 j)/\1<=js.length/\js.length<=4/\xO a js js.length/\Dk w' B g dl/\w.grownBy w' (X g)
def vr(w:VF)(B g kn:Nat)(c:Int)(JK:Nat)(a b:VE)(wr:VF):Prop:=
 ∃(k:Nat) (v:VE) (js:List Jd),v=a/\b=Z Y (k:Int)/\k<=JK/\Hid (xO c js k)/\Hid (∀j∈js,O7 j)/\Hid (OR w wr B g kn v js)
theorem wV(l:List Jd)(j:Jd):fY l++ag j=fY (l++[j]):=by simp[fY]
theorem wW(l:List Jd)(j:Jd):ag j++fY l=fY (j::l):=rfl
theorem rz(j:Jd):(ag j).all Vh=G:=by simp[ag,Vh]
theorem zC(l:List Jd):(fY l).all Vh=G:=by
 unfold fY;rw[List.all_flatMap];simp[rz]
theorem Gw(B g:Nat)(dl:List Int)(w:VF)(hd:Dk w B g dl):
  VH VM 30 #[M (X ⟨g,0,V⟩)] w (lu w B g):=by
 have ax:Hid (∀v js dl N w',IL w' w.heap.size 63 15 v js.length (fY js)->(∀j∈js,Kk B w' j)->(∀j∈js,O7 j)->1<=js.length->js.length<=4->xO N js js.length->Dk w' B g dl->w.grownBy w' (X g)->lu w B g (Vc v) w'):=aJ (fun v js dl N w' h1 h2 h3 h4 h5 h6 h7 h8=>⟨v,js,dl,N,rfl,h1,h2,h3,h4,h5,h6,h7,h8⟩)
 have aX:=hd.lt
 have HD:=aJ hd
 clear hd;go_enter func30,ntmps30;go_upto_region 3 with fail
 have ho:=(ID.refl w).alloc (H #[Q ⟨#[97]⟩,Q ⟨#[98]⟩,Q ⟨#[99]⟩,Q ⟨#[100]⟩] 9)
 have b:MP w (w.alloc (H #[Q ⟨#[97]⟩,Q ⟨#[98]⟩,Q ⟨#[99]⟩,Q ⟨#[100]⟩] 9)) B g w.heap.size [] dl:=
  ⟨aM w _,(fun j hj=>by cases hj),HD.up ho,du (Vm _ _) (ip ho) (fun q e=>by cases e),aX⟩
 generalize w.alloc (H #[Q ⟨#[97]⟩,Q ⟨#[98]⟩,Q ⟨#[99]⟩,Q ⟨#[100]⟩] 9)=wa at *;obtain⟨kn,aK⟩:∃kn,kn=w.heap.size:=⟨_,rfl⟩
 rw[<-aK] at b ⊢;have i:=aJ b;clear aK b HD ho;obtain⟨N,l1,e1⟩:∃x r,nx dl 2=(x,r):=⟨_,_,rfl⟩
 have aQ:=fO dl (show(1:Int)<=2 by decide)
 have I:=dB B g dl 2 wa i.dk (by decide) (by decide)
 unfold iv at I;rw[e1] at aQ I;simp only at aQ I;have ar:=aJ I;clear I e1;go_wp2_with fail;refine(ar).mono ?_;rintro e wb ⟨rfl,aF,aH⟩;have y:=aJ (i.turn aF aH);clear aF aH i ar;obtain⟨x2,l2,e2⟩:∃x r,nx l1 (4-1+1)=(x,r):=⟨_,_,rfl⟩
 have ae:=fO l1 (show(1:Int)<=(4-1+1) by decide)
 have J:=gv B g l1 1 4 wb y.dk (by decide) (by decide) (by decide)
 unfold iv at J;rw[e2] at ae J;simp only at ae J;have au:=aJ J;clear J e2;go_wp2_with fail;refine(au).mono ?_;rintro e wc ⟨rfl,aG,aI⟩;have ap:=aJ (y.turn aG aI);clear aG aI y au;obtain⟨c0,rfl⟩:=Int.eq_ofNat_of_zero_le ae.1;obtain⟨JK,ai⟩:∃JK:Nat,(1+(c0:Int))=(JK:Int):=⟨1+c0,by omega⟩
 rw[ai];have aZ:1<=JK:=by omega
 have aU:JK<=4:=by omega
 clear ai ae;have ah:Hid (vr w B g kn N JK (U V 0 0) (Z Y ((0:Nat):Int)) wc):=aJ ⟨0,_,[],rfl,rfl,bO _,aJ (by unfold xO;split<;>rfl),aJ (fun j hj=>by cases hj),aJ ⟨⟨l2,ap⟩,IL.Jk _ _ _ _⟩⟩
 clear ap;go_wp2;go_loopw [3,7] (fun s3 s7 wr=>vr w B g kn N JK s3 s7 wr) (fun _ s7 _=>JK-(intOf s7).toNat)
 case atStart=>exact ah
 clear ah;obtain⟨k,v,js,rfl,rfl,hk,l,HG,z⟩:=hrel
 by_cases a1:k<JK
 ·have ac:k<4:=by omega
  have aY:(k:Int)<4:=by omega
  have aa:Hid ((Kw.take k).length=k):=aJ (by rw[Vt];simp[Kw];omega)
  go_upto_region 7 with fail
  refine ak [([],[]),([],[]),([],[]),([1,2],[]),([3,1,2],[8,10]),([],[]),([],[]),([5,6],[8,10]),([0,4,7,3,5,6,1,2],[10]),([],[10]),([9,8,0,1,2,3,4,5,6,7],[])] (J7 w B g kn k v js _ _ _ _ _ _ _ _ _ _ _ _ _ _ _ _ _ _ _ _ _ _ _ _ _ _ _ _ _ _ _ _ _ _ _ _) (⟨O,O,O,O,O,O,O,O,O,O,O,0,aR,rfl,rfl,RJ.start z⟩) ?_ ⟨?_,?_,?_,?_,?_,?_,?_,?_,?_,?_,?_,trivial⟩
  ·rintro a p ⟨b0,b1,b2,b3,b4,_,b6,b7,b8,b9,b10,ka,vj,hl,rfl,m⟩;have aL:=congrArg Vg hl;simp at aL;obtain⟨rfl,rfl,rfl,rfl,rfl,rfl,rfl,rfl,rfl,rfl,rfl⟩:=aL;clear hl;obtain⟨an,D,aT⟩:=m;obtain⟨j,ao,u,F,ad,f⟩:=D rfl;have f:=f rfl;clear D aT ao;have s:=aJ u;have R:Hid (∀x∈js++[j],O7 x):=aJ (fun x hx=>(by rcases Vi.mp hx with h|h;exact HG x h;rw[Vj] at h;rw[h];exact F))
   have S:=aJ ad
   have a0:js.length<=4:=by rw[yZ l.out (by omega)];omega
   have L:p.heap[ka]? =X (Obj.cells #[Q j.nm,Q j.run,U j.eA j.IJ.length j.ec,U j.nA j.IC.length j.nc,.bool j.IQ,Q j.ready,Z Y j.IE,Z E j.base,Z E j.cap,Z E j.IG,Z Y j.II,Z E j.win,U j.lA j.IK.length j.lc,Z Y j.IM,Z Y j.Jb] 63 (0,0)):=f
   obtain⟨⟨e0,e1,e2,e3,e4,e5,e6,e7,e8,e9,az,aA,aB,aC,aD⟩,_⟩:=cQ L;have d:=aJ an.own;obtain⟨ab,b⟩:=an.j0;have hsz:=b.gr.size;have i:=aJ b;clear an b u F ad f L z HG
   by_cases hx:N=0
   ·subst hx;go_wp2_with (at_builtin;refine aw (wr:=p) rfl _ _ 23 rfl _ 63 (.agg #[Q ⟨#[]⟩,Q ⟨#[]⟩,U V 0 0,U V 0 0,.bool O,Q ⟨#[]⟩,Z Y 0,Z E 0,Z E 0,Z E 0,Z Y 0,Z E 0,U V 0 0,Z Y 0,Z Y 0]) 15 192 underlying23 oZ rfl (by decide) (by decide) _ _ _ rfl d 1 1 (ag j) rfl rfl rfl rfl ?pn1 hsz ?_)
    case pn1=>omega
    intro v2 w2 o n am;rw[wV] at o;have HX:Hid (vr w B g kn 0 JK v2 (Z Y ((k+1:Nat):Int)) w2):=aJ ⟨k+1,_,js++[j],rfl,rfl,by omega,aJ (CE l ac S),R,aJ ⟨⟨ab,(i.grow d n).more (s.grow d n) (fun x hx=>by rcases Vi.mp hx with h|h;exact bY h;exact bX (Vj.mp h))⟩,by rw[bF];exact o⟩⟩
    clear o n am d i s R S l aa e0 e1 e2 e3 e4 e5 e6 e7 e8 e9 az aA aB aC aD;go_wp2;go_roundw
    case rel=>exact HX
    simp[intOf];omega
   have n1:(N==0)=O:=by rw[beq_eq_false_iff_ne];exact hx
   have af:Hid (∀x∈j::js,O7 x):=aJ (fun x h=>R x (by rcases Vu.mp h with rfl|h';exact List.mem_append_right _ (Vj.mpr rfl);exact List.mem_append_left _ h'))
   have av:=aJ (za l hx ac S)
   obtain⟨A,c,hv,aP,_,_⟩:=d.shape;subst hv;have ho:=(ID.refl p).alloc (H #[Q j.nm,Q j.run,U j.eA j.IJ.length j.ec,U j.nA j.IC.length j.nc,.bool j.IQ,Q j.ready,Z Y j.IE,Z E j.base,Z E j.cap,Z E j.IG,Z Y j.II,Z E j.win,U j.lA j.IK.length j.lc,Z Y j.IM,Z Y j.Jb] 63);have hown:IL (p.alloc (H #[Q j.nm,Q j.run,U j.eA j.IJ.length j.ec,U j.nA j.IC.length j.nc,.bool j.IQ,Q j.ready,Z Y j.IE,Z E j.base,Z E j.cap,Z E j.IG,Z Y j.II,Z E j.win,U j.lA j.IK.length j.lc,Z Y j.IM,Z Y j.Jb] 63)) w.heap.size 63 15 (U (X ⟨p.heap.size,0,V⟩) 1 1) 1 (ag j):=(jJ p #[Q j.nm,Q j.run,U j.eA j.IJ.length j.ec,U j.nA j.IC.length j.nc,.bool j.IQ,Q j.ready,Z Y j.IE,Z E j.base,Z E j.cap,Z E j.IG,Z Y j.II,Z E j.win,U j.lA j.IK.length j.lc,Z Y j.IM,Z Y j.Jb] 1 15 63 (by decide) rfl).base hsz
   have T:=aJ hown
   have ay:=aJ (aP.rs.up ho)
   have aO:=ho.size
   have y:=aJ (i.up ho)
   have aq:=aJ (s.up ho)
   clear aP ho hown hx i s d;go_wp2_with (at_builtin;refine iY rfl _ _ 23 rfl _ 63 (.agg #[Q ⟨#[]⟩,Q ⟨#[]⟩,U V 0 0,U V 0 0,.bool O,Q ⟨#[]⟩,Z Y 0,Z E 0,Z E 0,Z E 0,Z Y 0,Z E 0,U V 0 0,Z Y 0,Z Y 0]) 15 192 underlying23 oZ rfl (by decide) (by decide) _ _ _ (by rfl) T _ _ _ _ (by rfl) ay (by rw[ms,Nat.mul_comm]) (zC js) ?pn2 (bN hsz aO) ?_)
   case pn2=>omega
   intro v2 w2 o n am;rw[wW] at o;have HX:Hid (vr w B g kn N JK v2 (Z Y ((k+1:Nat):Int)) w2):=aJ ⟨k+1,_,j::js,rfl,rfl,by omega,av,af,aJ ⟨⟨ab,(y.grow T n).more (aq.grow T n) (fun x hx=>by rcases Vu.mp hx with h|h;exact bX h;exact bY h)⟩,by rw[List.length_cons,Nat.add_comm];exact o⟩⟩
   clear o n am T y aq R af S l av aa ay e0 e1 e2 e3 e4 e5 e6 e7 e8 e9 az aA aB aC aD;go_wp2;go_roundw
   case rel=>exact HX
   simp[intOf];omega
  rotate_left 4
  ·rintro _ _ p K ⟨b0,b1,b2,b3,b4,_,b6,b7,b8,b9,b10,ka,vj,rfl,h2,m⟩ h C
   repeat obtain⟨rfl,h⟩:=h
   subst h2;have q:=m.1.name ac;go_simp;apply C;iterate 11 apply bW
   exact⟨ka,vj,rfl,rfl,m⟩
  rotate_left 2
  ·rintro _ _ p K ⟨b0,b1,b2,b3,b4,_,b6,b7,b8,b9,b10,ka,vj,rfl,h2,m⟩ h C
   repeat obtain⟨rfl,h⟩:=h
   subst h2;have a2:=fun W=>pG (P:=VM) (t:=59) underlying59 (fun w=>by kernel_rfl) (X ⟨kn,0,V⟩) 4 4 k (k:Int) rfl (by omega) W
   go_simp;apply C;iterate 11 apply bW
   exact⟨ka,vj,rfl,rfl,m⟩
  ·rintro _ _ p K ⟨b0,b1,b2,b3,b4,_,b6,b7,b8,b9,b10,ka,vj,rfl,h2,m⟩ h C
   repeat obtain⟨rfl,h⟩:=h
   subst h2;obtain⟨ab,b⟩:=m.1.j0;have hp:=Hw B g ab (Kw.getD k ⟨#[]⟩) (X ⟨kn,0,V⟩) 4 (Kw.take k) p b.dk (b.names k) (by rw[Vt];omega)
   rw[aa.out] at hp;have HP:=aJ hp;clear hp;go_simp;refine HP.mono ?_;rintro e w2 ⟨j,l2,rfl,aE,aN,h1,h3,hw,u,aV,hg⟩;apply C;iterate 11 apply bW
   exact⟨ka,dm j,rfl,rfl,m.call b aV hg aE (by have:=aN.len;rw[aa.out] at this;omega) h1 h3 hw ⟨k,ac,aE.name,by have h9:j.IC.Sublist ((Kw.take k).take (Kw.take k).length):=aN;rwa [Vv] at h9⟩ u⟩
  ·rintro _ _ p K ⟨b0,b1,b2,b3,b4,_,b6,b7,b8,b9,b10,ka,vj,rfl,h2,m⟩ h C
   repeat obtain⟨rfl,h⟩:=h
   subst h2;go_simp;apply C;iterate 11 apply bW
   exact⟨p.heap.size,vj,rfl,rfl,m.al⟩
  ·rintro _ _ p K ⟨b0,b1,b2,b3,b4,_,b6,b7,b8,b9,b10,ka,vj,rfl,h2,m⟩ h C
   repeat obtain⟨rfl,h⟩:=h
   subst h2;obtain⟨j,ao,hm,aW,ad,_⟩:=m.2.1 rfl;subst ao;have f:=((m.2.2 rfl).2 rfl).1;rw[show dm j= .agg (CV j) from rfl]
   have a3:=VK (P:=VM) ka 63 (CV j).toList 0 _ p f rfl (CU j)
   go_simp;rw[ps_ (show(CV j).size=15 from rfl)]
   apply C;iterate 11 apply bW
   exact⟨ka,dm j,rfl,rfl,m.st hm aW ad⟩
  all_goals
   rintro _ _ p K ⟨b0,b1,b2,b3,b4,_,b6,b7,b8,b9,b10,ka,vj,rfl,h2,m⟩ h C
   repeat obtain⟨rfl,h⟩:=h
   subst h2;go_simp;apply C;iterate 11 apply bW
   exact⟨ka,vj,rfl,rfl,m⟩
 obtain rfl:k=JK:=by omega
 obtain⟨aS,h0⟩:=z.j0;have aj:=yZ l aU;have HX:Hid (lu w B g (Vc v) wr):=aJ (ax v js aS N wr z.own h0.mem HG (by omega) (by omega) (by rw[aj];exact l) h0.dk h0.gr)
 clear h0 aj l HG z ax;go_wp2;go_ret;exact HX
namespace Au
structure R where
 st:Nat
 out:List Nat
 JP:Bool
def r0:R:=⟨0,[],O⟩
def get(s:List R)(k:Nat):R:=s.getD k r0
def I6(l:List Jd)(k:Nat):Jd:=l.getD k cE
def MC(l:List Jd)(s:List R)(e:Oc.Ev):List R:=
 match Gp.ix l e.I6 with
 |none=>s
 |some k=>if e.IF=1 then(if(get s k).st=1 then s.set k ⟨2,(get s k).out,(get s k).JP⟩ else s)
  else if(get s k).st=2 then s.set k ⟨2,(get s k).out++e.data,(get s k).JP⟩ else s
def KV(j:Jd)(r:R):Bool:= !j.IQ||r.JP||decide (0<=dL (cO (bs j.ready)).1 r.out)
def J0(j:Jd)(r:R):R:=⟨r.st,r.out,r.JP||(j.IQ&&decide (0<=dL (cO (bs j.ready)).1 r.out))⟩
def LU(l:List Jd):List R->List Nat->Option (List R)
 |s,[]=>X s
 |s,k::ks=>if(get s k).st=2/\KV (I6 l k) (get s k)=G then LU l (s.set k (J0 (I6 l k) (get s k))) ks else V
def LG(l:List Jd)(s:List R)(a:Oc.Ac):Option (List R):=
 match Gp.ix l a.I6 with
 |none=>X s
 |some k=>if(get s k).st≠0 then V else(LU l s (Gp.IC l k)).map fun s'=>s'.set k ⟨1,[],O⟩
def KJ(l:List Jd):List R->List Oc.Ac->Option (List R)
 |s,[]=>X s
 |s,a::al=>match LG l s a with
  |none=>V
  |some s'=>KJ l s' al
def go(l:List Jd):List R->List Oc.Ev->List (List Oc.Ac)->Option (List R)
 |s,e::es,al::a=>match KJ l (MC l s e) al with
  |none=>V
  |some s'=>go l s' es a
 |s,_,_=>X s
def start(l:List Jd):List R:=l.map fun _=>r0
def OA(l:List Jd)(es:List Oc.Ev)(al:List (List Oc.Ac)):Prop:=
 ∃s s',KJ l (start l) (al.getD 0 [])=X s/\go l s es al.tail=X s'
theorem OB{l:List Jd}:∀{ks:List Nat} {s s':List R},LU l s ks=X s'->s'.length=s.length:=by
 intro ks
 induction ks<;>grind [LU]
end Au
end Go.Proofs.YtflccikncbhpdaaGreatDoor
namespace Go.Proofs.YtflccikncbhpdaaGreatDoor
open Go.RowKit Go.Maps Go.WideMaps
set_option linter.unusedVariables false
def Ho:VE->Option (DataW Unit×List MemPlace)
 | .pointer (X ⟨b,0,V⟩)=>X (.lit (.int Y ((b:Int)+1)),[])
 | .pointer V=>X (.lit (.int Y 0),[])
 |_=>V
theorem uk{z:DataW Unit×List MemPlace}(h:Ho v=X z):(∃b,v=M (X ⟨b,0,V⟩)/\z=(.lit (.int Y ((b:Int)+1)),[]))\/(v=M V/\z=(.lit (.int Y 0),[])):=by
 unfold Ho at h
 grind
def Kz(w:VF)(b n:Nat)(f:ByteArray->Option Nat):Prop:=
 ∃D:DataW Unit,w.ownsMap VM 9 Ho b n D/\∀s:ByteArray,s.size<=maxLen->Maps.has D (xN s)=(f s).isSome/\∀i:Nat,f s=X i->D.atKey (xN s) (.lit (.int Y 0))= .lit (.int Y ((i:Int)+1))
theorem Kz.kept{n:Nat}{f:ByteArray->Option Nat}{row:Option Nat}(h:Kz w b n f)(a:w.grownBy w' row)(hne:X b≠row):Kz w' b n f:=by
 obtain⟨D,h1,h2⟩:=h;exact⟨D,h1.kept a hne,h2⟩
theorem Kz.up{n:Nat}{f:ByteArray->Option Nat}(h:Kz w b n f)(a:ID w w'):Kz w' b n f:=
 h.kept (row:=V) ⟨a.out.os,a.out.tape,a.out.output,a.out.size,fun k hk _=>a.out.block k hk⟩ (by simp)
theorem Kz.I4{n:Nat}{f:ByteArray->Option Nat}{t:VI}(h:Kz w b n f)(hk:w.heap[k]? =X (H cs t z))(a:w.grownBy w' (X k)):Kz w' b n f:=by
 refine h.kept a (fun e=>?_)
 injection e with e
 obtain⟨D,⟨es,_,_,_⟩,_⟩:=h
 grind
theorem Kz.made(w:VF):Kz (w.alloc (.map #[] 0)) w.heap.size 0 (fun _=>V):=⟨.map [],World.ownsMap_made w _ _ _,fun s _=>⟨rfl,fun i h=>by cases h⟩⟩
theorem Kz.same{n:Nat}{f a:ByteArray->Option Nat}(h:Kz w b n f)(c:∀s,a s=f s):Kz w b n a:=by
 obtain⟨D,h1,h2⟩:=h;exact⟨D,h1,fun s hs=>by rw[c s];exact h2 s hs⟩
theorem qv(w:VF):(zeroValue 81).run VM w= .ok (M V) w:=by kernel_rfl
theorem Kz.look_ok{n:Nat}{f:ByteArray->Option Nat}(h:Kz w b n f)(hs:s.size<=maxLen):
  ∃v:VE,(Instr.lookup 78 (.map (X b)) (Q s) G).run VM w= .ok (.tuple #[v,K (f s).isSome]) w/\∀i:Nat,f s=X i->v=M (X ⟨i,0,V⟩):=by
 obtain⟨D,h1,h2⟩:=h;obtain⟨v,ps,a,hv⟩:=h1.look_ok Ki underlying78 (qv w) (zd:= .lit (.int Y 0)) (zp:=[]) rfl (gZ s hs);rw[(h2 s hs).1] at a;refine⟨v,a,fun i d=>?_⟩
 have c:=(h2 s hs).2 i d
 rw[c] at hv;rcases uk hv with⟨b2,rfl,hz⟩|⟨rfl,hz⟩
 ·simp at hz
  obtain⟨hz,_⟩:=hz;rw[show i=b2 by omega]
 simp at hz
 omega
theorem Kz.look{n:Nat}{f:ByteArray->Option Nat}(h:Kz w b n f)(hs:s.size<=maxLen)(d:f s=X i):
  (Instr.lookup 78 (.map (X b)) (Q s) O).run VM w= .ok (M (X ⟨i,0,V⟩)) w:=by
 obtain⟨D,h1,h2⟩:=h;obtain⟨v,ps,a,hv⟩:=h1.lookup Ki underlying78 (qv w) (zd:= .lit (.int Y 0)) (zp:=[]) rfl (gZ s hs);have c:=(h2 s hs).2 i d;rw[c] at hv;rcases uk hv with⟨b2,rfl,hz⟩|⟨rfl,hz⟩
 ·simp at hz
  obtain⟨hz,_⟩:=hz;rw[a,show i=b2 by omega]
 simp at hz
 omega
theorem Kz.put{n:Nat}{f:ByteArray->Option Nat}(h:Kz w b n f)(m:n<1000000)(hs:s.size<=maxLen)(i:Nat):
  ∃w',(Instr.mapUpdate 78 (.map (X b)) (Q s) (M (X ⟨i,0,V⟩))).run VM w= .ok () w'/\Kz w' b (n+1) (fun x=>if x=s then X i else f x)/\w.grownBy w' (X b):=by
 obtain⟨D,h1,h2⟩:=h;obtain⟨w',c,k,l⟩:=h1.update Ki underlying78 (by unfold maxLen;omega) (gZ s hs) (val:=M (X ⟨i,0,V⟩)) (d:= .lit (.int Y ((i:Int)+1))) (ps:=[]) rfl
 refine⟨w',c,⟨_,k,fun q g=>?_⟩,l⟩
 by_cases e:q=s
 ·subst e;have hk:=Ki.key (gZ q hs);rw[has_put_same h1.isMap hk];simp only[ite_true];refine⟨rfl,fun j a=>?_⟩
  simp at a
  subst a;exact atKey_put_same h1.isMap hk _ _
 have hne:xN q≠xN s:=fun h=>e (uH h)
 rw[has_put_other hne];simp only[ng_ e];rw[(h2 q g).1];refine⟨rfl,fun j a=>?_⟩
 rw[atKey_put_other hne];exact(h2 q g).2 j a
end Go.Proofs.YtflccikncbhpdaaGreatDoor
namespace Go.Proofs.YtflccikncbhpdaaGreatDoor
open Go.RowKit Go.Shelf
set_option linter.unusedVariables false
structure Am where
 nA:Option VG
 nc:Nat
 oA:Option VG
 oc:Nat
def gG(j:Jd)(nl:Nat)(x:Am)(r:Au.R):List VE:=ag j++[U x.nA nl x.nc,Z Y r.st,U x.oA r.out.length x.oc,K r.JP,Z Y 0,Z E 0,Z E 0,K O,Z Y 0,Z E 0]
def dC(l:List Jd)(k:Nat):List ByteArray:=(Gp.IC l k).map fun i=>(Au.I6 l i).nm
def mz(a:Nat->Am)(k:Nat)(x:Am):Nat->Am:=fun i=>if i=k then x else a i
structure AU(w0 w:VF)(l:List Jd)(g mb mk:Nat)(q:Nat->Nat)(a:Nat->Am)(s:List Au.R):Prop where
 I5:ID w0 w
 gB:w0.heap.size<=g
 len:s.length=l.length
 st:w.heap[g]? =some (.cells #[.map (some mb),.int .u64 0,.bool false,.bool false] 80 (0,0))
 map:Kz w mb mk (fun nm=>(Gp.ix l nm).map q)
 Ls:∀k,k<l.length->w0.heap.size<=q k/\w.heap[q k]? =some (.cells (gG (Au.I6 l k) (Gp.IC l k).length (a k) (Au.get s k)).toArray 83 (0,0))
 inj:∀i k,i<l.length->k<l.length->q i=q k->i=k
 IC:∀k,k<l.length->Ts w 9 (a k).nA (ar (dC l k))
 Ku:∀k,k<l.length->IL w w0.heap.size 5 1 (.slice (a k).oA (Au.get s k).out.length (a k).oc) (Au.get s k).out.length (Jp (Au.get s k).out)
 ap:∀i k,i<l.length->k<l.length->i≠k->∀b,oB (a i).oA=some b->oB (a k).oA≠some b
theorem cU{s:List Au.R}(r:Au.R)(h:k<s.length):Au.get (s.set k r) k=r:=by simp[Au.get,h]
theorem eR{s:List Au.R}(r:Au.R)(h:i≠k):Au.get (s.set k r) i=Au.get s i:=by grind [Au.get]
section
variable {w0 w w' : VF} {l : List Jd} {g mb mk : Nat} {q : Nat -> Nat} {a : Nat -> Am} {s : List Au.R}
theorem AU.up(h:AU w0 w l g mb mk q a s)(b:ID w w'):AU w0 w' l g mb mk q a s:=
 ⟨h.I5.up b,h.gB,h.len,b.block h.st,h.map.up b,fun k hk=>⟨(h.Ls k hk).1,b.block (h.Ls k hk).2⟩,h.inj,fun k hk=>(h.IC k hk).up b,fun k hk=>(h.Ku k hk).up b,h.ap⟩
theorem AU.MH(h:AU w0 w l g mb mk q a s)(hk:k<l.length)(i:Nat)(v:VE){x:Am}{r:Au.R}(hc:(gG (Au.I6 l k) (Gp.IC l k).length (a k) (Au.get s k)).toArray.setIfInBounds i v=(gG (Au.I6 l k) (Gp.IC l k).length x r).toArray)
  (A:x.nA=(a k).nA) (B:IL w w0.heap.size 5 1 (U x.oA r.out.length x.oc) r.out.length (Jp r.out)) (o:∀j,j<l.length->j≠k->∀b,oB x.oA=X b->oB (a j).oA≠X b):
  AU w0 (w.setCell ⟨q k,i,V⟩ v) l g mb mk q (mz a k x) (s.set k r):=by
 obtain⟨u,c⟩:=h.Ls k hk;have d:=ay w (q k) i v;have t:g≠q k:=fun e=>by
  have h1:=h.st
  rw[e,c] at h1;have h2:=bQ h1;injection h2 with e1 n e3
  exact absurd n (by decide)
 have f:k<s.length:=by rw[h.len];exact hk
 refine⟨h.I5.setCell (p:=⟨q k,i,V⟩) u _,h.gB,by rw[bK];exact h.len,(aL w ⟨q k,i,V⟩ g _ t).trans h.st,h.map.I4 c d,fun j hj=>⟨(h.Ls j hj).1,?_⟩,h.inj,fun j hj=>?_,fun j hj=>?_,fun y j2 h1 h2 hne b m=>?_⟩
 ·by_cases e:j=k
  ·subst e;rw[aO w (q j) i _ _ v c,hc,cU r f];unfold mz;rw[ps_ rfl]
  rw[aL w ⟨q k,i,V⟩ (q j) _ (fun n=>e (h.inj j k hj hk n)),eR r e]
  unfold mz;rw[ng_ e];exact(h.Ls j hj).2
 ·unfold mz;split
  ·next e=>subst e;rw[A];exact(h.IC j hj).I4 c d (by decide)
  exact(h.IC j hj).I4 c d (by decide)
 ·by_cases e:j=k
  ·subst e;rw[cU r f];unfold mz;rw[ps_ rfl];exact B.I4 c d (by decide)
  rw[eR r e];unfold mz;rw[ng_ e];exact(h.Ku j hj).I4 c d (by decide)
 unfold mz at m ⊢
 by_cases e:y=k
 ·grind
 rw[ng_ e] at m;split
 ·intro z;exact o y h1 e b z m
 exact h.ap y j2 h1 h2 hne b m
theorem AU.cell(h:AU w0 w l g mb mk q a s)(k:Nat)(hv: #[Value.map (X mb),Z E 0,K O,K O][k]? =X v):w.cell? ⟨g,k,V⟩=X v:=(aK w g k _ _ _ h.st).trans hv
theorem AU.Kj(h:AU w0 w l g mb mk q a s)(hk:k<l.length)(hv:(gG (Au.I6 l k) (Gp.IC l k).length (a k) (Au.get s k))[i]? =X v):w.cell? ⟨q k,i,V⟩=X v/\w.frozen? ⟨q k,i,V⟩=O:=
 ⟨(aK w (q k) i _ _ _ (h.Ls k hk).2).trans (by rw[Vd];exact hv),aN w (q k) i _ _ (h.Ls k hk).2⟩
end
def sw(L:List Nat):List VE:=L.map (fun s:Nat=>Vw Y (s:Int))
theorem fH(L:List Nat)(i:Nat)(h:i<L.length):(sw L)[i]? =X (Z Y (L.getD i 0:Nat)):=by grind [sw]
def xM(n:Nat)(M:List Nat):List VE:=(List.range n).map (fun i=>Vn (decide (i∈M)))
theorem gL(n:Nat)(M:List Nat):(xM n M).length=n:=by simp[xM]
theorem jP(n:Nat)(M:List Nat)(i:Nat)(h:i<n):(xM n M)[i]? =X (K (decide (i∈M))):=by simp[xM,h]
theorem CI(n:Nat)(M:List Nat)(s:Nat):(xM n M).set s (K G)=xM n (M++[s]):=by
 apply Vo;intro i
 by_cases a:i<n
 ·rw[jP _ _ _ a]
  by_cases e:s=i
  ·subst e;rw[List.getElem?_set_self (by rw[gL];exact a)]
   simp
  rw[List.getElem?_set_ne e,jP _ _ _ a];simp[Ne.symm e]
 rw[bI (by simp[gL];omega),bI (by simp[gL];omega)]
def wkC(A:Option VG)(n c gp gm:Nat)(lv:VE):Obj:=H #[U A n c,U (X ⟨gp,0,V⟩) n n,U (X ⟨gm,0,V⟩) (2*n) (2*n),lv] 368 (0,0)
structure WK(w0 w:VF)(B g gp gm:Nat)(l:List Nd)(A:Option VG)(c:Nat)(ps:List Nat)(lv:VE)(M L:List Nat):Prop where
 I5:ID w0 w
 JR:Rs w0 A (cR l)
 I2:w.heap[g]? =some (wkC A l.length c gp gm lv)
 par:w.heap[gp]? =some (.cells (sw ps).toArray 3 (0,0))
 Ly:w.heap[gm]? =some (.cells (xM (2*l.length) M).toArray 4 (0,0))
 own:IL w B 3 1 lv L.length (sw L)
 bg:w0.heap.size<=g
 bp:w0.heap.size<=gp
 bm:w0.heap.size<=gm
 lg:g<B
 lp:gp<B
 lm:gm<B
 n1:g≠gp
 n2:g≠gm
 n3:gp≠gm
 lB:B<=w.heap.size
theorem fN{s:Nat}{n:Nat}(h:IL w B e s v n xs)(hk:k<B):X k≠v.ownBlock:=by
 intro e;have:=(bU h k e.symm).1;omega
theorem WK.up{l:List Nd}{M:List Nat}(h:WK w0 w B g gp gm l A c ps lv M L)(a:ID w w'):WK w0 w' B g gp gm l A c ps lv M L:=
 ⟨h.I5.up a,h.JR,a.block h.I2,a.block h.par,a.block h.Ly,h.own.up a,h.bg,h.bp,h.bm,h.lg,h.lp,h.lm,h.n1,h.n2,h.n3,bN h.lB a.size⟩
theorem WK.mark{l:List Nd}{M:List Nat}(h:WK w0 w B g gp gm l A c ps lv M L)(s:Nat):WK w0 (w.setCell ⟨gm,s,V⟩ (K G)) B g gp gm l A c ps lv (M++[s]) L:=by
 have a:w.grownBy (w.setCell ⟨gm,s,V⟩ (K G)) (X gm):=⟨rfl,rfl,rfl,by simp,fun k _ hk=>aL w ⟨gm,s,V⟩ k _ (fun e=>hk (by simp[e]))⟩
 refine⟨h.I5.setCell h.bm _,h.JR,?_,?_,?_,bT h.own a (bY (fun e=>fN h.own h.lm e.symm)),h.bg,h.bp,h.bm,h.lg,h.lp,h.lm,h.n1,h.n2,h.n3,by simpa using h.lB⟩
 ·rw[aL w ⟨gm,s,V⟩ g _ h.n2];exact h.I2
 ·rw[aL w ⟨gm,s,V⟩ gp _ h.n3];exact h.par
 rw[aO w gm s _ _ _ h.Ly,Vp,CI]
theorem WK.list{l:List Nd}{M L':List Nat}(h:WK w0 w B g gp gm l A c ps lv M L)(d:IL w2 B 3 1 v' L'.length (sw L'))(a:w.grownBy w2 lv.ownBlock):WK w0 (w2.setCell ⟨g,3,V⟩ v') B g gp gm l A c ps v' M L':=by
 have f:w0.heap.size<=B:=bN h.bg (Nat.le_of_lt h.lg)
 have b:w2.grownBy (w2.setCell ⟨g,3,V⟩ v') (X g):=⟨rfl,rfl,rfl,by simp,fun k _ hk=>aL w2 ⟨g,3,V⟩ k _ (fun e=>hk (by simp[e]))⟩
 have b1:w2.heap[g]? =_:=(a.block g (aQ h.I2) (fN h.own h.lg)).trans h.I2
 have b2:w2.heap[gp]? =_:=(a.block gp (aQ h.par) (fN h.own h.lp)).trans h.par
 have b3:w2.heap[gm]? =_:=(a.block gm (aQ h.Ly) (fN h.own h.lm)).trans h.Ly
 refine⟨(IL.IU h.I5 h.own f a).setCell h.bg _,h.JR,?_,?_,?_,bT d b (bY (fun e=>fN d h.lg e.symm)),h.bg,h.bp,h.bm,h.lg,h.lp,h.lm,h.n1,h.n2,h.n3,by simpa using bN h.lB a.size⟩
 ·exact aO w2 g 3 _ _ _ b1
 ·rw[aL w2 ⟨g,3,V⟩ gp _ (Ne.symm h.n1)];exact b2
 rw[aL w2 ⟨g,3,V⟩ gm _ (Ne.symm h.n2)];exact b3
structure Kf(w w':VF)(g gm:Nat)(lv lv':VE):Prop where
 size:w.heap.size<=w'.heap.size
 Kr:∀k,k<w.heap.size->k≠g->k≠gm->some k≠lv.ownBlock->w'.heap[k]? =w.heap[k]?
 row:∀k,lv'.ownBlock=some k->lv.ownBlock=some k\/w.heap.size<=k
theorem Kf.refl(w:VF)(g gm:Nat)(lv:VE):Kf w w g gm lv lv:=⟨bM _,fun _ _ _ _ _=>rfl,fun _ h=>bX h⟩
theorem Kf.I7(h:ID w w')(g gm:Nat)(lv:VE):Kf w w' g gm lv lv:=⟨h.size,fun k hk _ _ _=>h.out.block k hk,fun _ h=>bX h⟩
theorem Kf.trans{f:VF}{a b d:VE}(h:Kf w f g gm a b)(k:Kf f w2 g gm b d):Kf w w2 g gm a d:=by
 refine⟨bN h.size k.size,fun j hj h1 h2 i=>?_,fun j hj=>?_⟩
 ·rw[k.Kr j (Vx hj h.size) h1 h2 (fun e=>?_),h.Kr j hj h1 h2 i]
  rcases h.row j e.symm with c|c
  ·grind
  omega
 rcases k.row j hj with c|c
 ·exact h.row j c
 exact bY (bN h.size c)
theorem Kf.block{a b:VE}(h:Kf w w' g gm a b){o:Obj}(hk:w.heap[k]? =X o)(h1:k≠g)(h2:k≠gm)(c:X k≠a.ownBlock):w'.heap[k]? =X o:=(h.Kr k (aQ hk) h1 h2 c).trans hk
theorem Kf.mark(w:VF)(g gm s:Nat)(lv v:VE):Kf w (w.setCell ⟨gm,s,V⟩ v) g gm lv lv:=
 ⟨by simp,fun k _ _ h2 _=>aL w ⟨gm,s,V⟩ k _ h2,fun _ h=>bX h⟩
theorem Kf.list(a:w.grownBy w2 lv.ownBlock)(hs:nM w lv v')(g gm:Nat):Kf w (w2.setCell ⟨g,3,V⟩ v') g gm lv v':=by
 refine⟨by simpa using a.size,fun k hk h1 _ b=>?_,fun k hk=>?_⟩
 ·rw[aL w2 ⟨g,3,V⟩ k _ h1];exact a.block k hk b
 rcases hs with e|⟨j,e,hj⟩
 ·rw[<-e];exact bX hk
 grind
theorem vh(x:Int)(w:VF)(a:0<=x)(h1:x<100000):VH VM 272 #[Z Y x] w (iN (Z Y (2*x)) w):=by
 go_enter func272,ntmps272
 go_wp2
 go_ret;exact⟨rfl,rfl⟩
theorem AI(x:Int)(w:VF)(a:0<=x)(h1:x<100000):VH VM 275 #[Z Y x] w (iN (Z Y (2*x+1)) w):=by
 go_enter func275,ntmps275
 go_wp2
 go_ret;exact⟨rfl,rfl⟩
def nK(w:VF)(lv:VE)(w0:VF)(B g gp gm:Nat)(l:List Nd)(A:Option VG)(c:Nat)(ps:List Nat)(L:List Nat)(e:Ending)(w':VF):Prop:=
 e=Vc (.tuple #[])/\∃lv',WK w0 w' B g gp gm l A c ps lv' L L/\Kf w w' g gm lv lv'
theorem Aj(w0:VF)(B g gp gm:Nat)(l:List Nd)(A:Option VG)(c:Nat)(ps:List Nat)(lv:VE)(L:List Nat)(w:VF)(h:WK w0 w B g gp gm l A c ps lv L L)(N:l.length<=256)(z:IX (2*l.length) L)(s:Nat)(hs:s<2*l.length):
  VH VM 271 #[M (X ⟨g,0,V⟩),Z Y (s:Int)] w (nK w lv w0 B g gp gm l A c ps (ah L s)):=by
 have c2:=cr_ h.I2 2 (U (X ⟨gm,0,V⟩) (2*l.length) (2*l.length))
 have n:w.cell? ⟨gm,s,V⟩=X (K (decide (s∈L))):=by
  rw[aK w gm s _ _ _ h.Ly,Vd,jP _ _ _ hs]
 have J:w.frozen? ⟨gm,s,V⟩=O:=aN w gm s _ _ h.Ly
 have P:(0:Int)<=(s:Int):=by omega
 have R:(s:Int)<2*(l.length:Int):=by omega
 have t:=aJ h
 have C:=z.len
 by_cases hm:s∈L
 ·have e:ah L s=L:=by unfold ah;rw[ps_ hm]
  rw[e];rw[decide_eq_true hm] at n;clear e h;go_enter func271,ntmps271;go_wp2;go_end0;exact⟨rfl,lv,t,Kf.refl _ _ _ _⟩
 have e:ah L s=L++[s]:=by unfold ah;rw[ng_ hm]
 rw[e];rw[decide_eq_false hm] at n;have h1:=h.mark s;have a:=aJ h1;have j:=aJ (Kf.mark w g gm s lv (K G));generalize D:w.setCell ⟨gm,s,V⟩ (K G)=w1 at *;have F:w1.cell? ⟨g,3,V⟩=X lv:=by rw[aK w1 g 3 _ _ _ h1.I2];rfl
 have k:=aQ h1.I2
 have q:Hid (B<=w1.heap.size):=aJ h1.lB
 obtain⟨o,u,rfl,_,_,_⟩:=h1.own.shape;clear e h h1;go_enter func271,ntmps271;go_upto_region 2 with fail
 go_wp2_with (at_builtin;refine gh (wr:=w1) rfl _ _ 22 rfl _ 3 (Z Y 0) 1 8 underlying22 lR rfl (by decide) (by decide) _ _ _ rfl a.own 1 1 [Z Y (s:Int)] rfl rfl rfl rfl ?pn1 q (by decide) ?_)
 case pn1=>omega
 intro v' w2 m f d;have b2:w2.heap[g]? =_:=(f.block g k (fN a.own a.lg)).trans a.I2;have I:w2.frozen? ⟨g,3,V⟩=O:=aN w2 g 3 _ _ b2;have c4:=cr_ b2 3 (U o L.length u);obtain⟨p,x,rfl,_,_,_⟩:=m.shape;have b:IL w2 B 3 1 (U p (L.length+1) x) (L++[s]).length (sw (L++[s])):=by
  have e:sw (L++[s])=sw L++[Z Y (s:Int)]:=by unfold sw;rw[Vs];rfl
  have y:(L++[s]).length=L.length+1:=by simp
  rw[e,y];exact m
 have r:=aJ (a.list b f)
 have i:=aJ (j.trans (Kf.list f d g gm))
 clear m b f d b2;go_wp2;go_end0;exact⟨rfl,_,r,i⟩
theorem WK.drewN{l:List Nd}{M:List Nat}(h:WK w0 w B g gp gm l A c ps lv M L)(n:Nat):WK w0 (w.drewN n) B g gp gm l A c ps lv M L:=h.up ((ID.refl w).drewN n)
theorem Ft(w0:VF)(B g gp gm:Nat)(l:List Nd)(A:Option VG)(c:Nat)(ps:List Nat)(lv:VE)(L:List Nat)(w:VF)(h:WK w0 w B g gp gm l A c ps lv L L)(n:l.length<=256)(h1:1<=l.length)(m:IX (2*l.length) L):
  VH VM 236 #[M (X ⟨g,0,V⟩)] w (nK w lv w0 B g gp gm l A c ps (ah L (2*(l.length-1)))):=by
 have o:=cr_ h.I2 0 (U A l.length c)
 have d:Hid (∀w',VH VM 272 #[Z Y ((l.length:Int)-1)] w' (iN (Z Y ((2*(l.length-1):Nat):Int)) w')):=aJ (fun w'=>by
  have:=vh ((l.length:Int)-1) w' (by omega) (by omega)
  have e:(2*((l.length:Int)-1))=((2*(l.length-1):Nat):Int):=by omega
  rw[e] at this;exact this)
 have hs:2*(l.length-1)<2*l.length:=by omega
 have j:=aJ hs
 clear hs;generalize a:2*(l.length-1)=s at *;have f:=aJ h;clear h a;go_enter func236,ntmps236;go_wp2_with fail;refine(d _).mono ?_;rintro e _ ⟨rfl,rfl⟩;go_wp2_with fail;refine(Aj w0 B g gp gm l A c ps lv L _ f n m s j).mono ?_;rintro e _ ⟨rfl,lv',b,hk⟩;have k:=aJ b;have i:=aJ hk;clear b hk;go_wp2;go_end0;exact⟨rfl,_,k,i⟩
theorem DP(w0:VF)(B g gp gm:Nat)(l:List Nd)(A:Option VG)(c:Nat)(ps:List Nat)(lv:VE)(L:List Nat)(w:VF)(h:WK w0 w B g gp gm l A c ps lv L L)(j:l.length<=256)(h1:1<=l.length):
  VH VM 239 #[M (X ⟨g,0,V⟩)] w (DZ (mt l L) w):=by
 have f:=cr_ h.I2 0 (U A l.length c)
 have c2:=cr_ h.I2 2 (U (X ⟨gm,0,V⟩) (2*l.length) (2*l.length))
 have d:Hid (∀n,VH VM 275 #[Z Y ((l.length:Int)-1)] (w.drewN n) (fun e w'=>e=Vc (Z Y ((2*(l.length-1)+1:Nat):Int))/\w'=w.drewN n)):=aJ (fun n=>by
  have:=AI ((l.length:Int)-1) (w.drewN n) (by omega) (by omega)
  have e:(2*((l.length:Int)-1)+1)=((2*(l.length-1)+1:Nat):Int):=by omega
  rw[e] at this;exact this.mono fun e w2 h=>⟨h.1,h.2.symm⟩)
 have hs:2*(l.length-1)+1<2*l.length:=by omega
 have b:Hid (mt l L=decide (2*(l.length-1)+1∈L)):=aJ rfl
 generalize a:2*(l.length-1)+1=s at *;have i:w.cell? ⟨gm,s,V⟩=X (K (decide (s∈L))):=by
  rw[aK w gm s _ _ _ h.Ly,Vd,jP _ _ _ hs]
 have k:(0:Int)<=(s:Int):=by omega
 have m:(s:Int)<2*(l.length:Int):=by omega
 rw[b.out];generalize decide (s∈L)=bb at *;clear a b h;go_enter func239,ntmps239;go_upto_region 1 with fail
 go_quiet ((go_at_call 275;exact Calls.quiet_of_same (d _)))
 go_wp2
 go_ret;exact⟨rfl,_,rfl⟩
structure OE(l:List Nd):Prop where
 lf:∀x,x<l.length->((nd l x).IF=3\/(nd l x).IF=4\/(nd l x).IF=5\/(nd l x).IF=6\/(nd l x).IF=7)->∃a:Nat,(nd l x).left=a/\a<l.length
 rt:∀x,x<l.length->((nd l x).IF=3\/(nd l x).IF=4)->∃a:Nat,(nd l x).right=a/\a<l.length
theorem lX(n:Nat)(a:n<1000)(w:VF):VH VM 275 #[Z Y (n:Int)] w (iN (Z Y ((2*n+1:Nat):Int)) w):=by
 have:=AI (n:Int) w (by omega) (by omega)
 have e:(2*(n:Int)+1)=((2*n+1:Nat):Int):=by omega
 rw[e] at this;exact this
theorem vg(n:Nat)(a:n<1000)(w:VF):VH VM 272 #[Z Y (n:Int)] w (iN (Z Y ((2*n:Nat):Int)) w):=by
 have:=vh (n:Int) w (by omega) (by omega)
 have e:(2*(n:Int))=((2*n:Nat):Int):=by omega
 rw[e] at this;exact this
theorem dF{l:List Nd}(h:WK w0 w B g gp gm l A c ps lv L L)(b:l.length<=256)(a:IX (2*l.length) L)(s:Nat)(hs:s<2*l.length):
  VH VM 271 #[M (X ⟨g,0,V⟩),Z Y (s:Int)] w (nK w lv w0 B g gp gm l A c ps (ah L s)):=Aj w0 B g gp gm l A c ps lv L w h b a s hs
theorem Gx(w0:VF)(B g gp gm:Nat)(l:List Nd)(A:Option VG)(c:Nat)(ps:List Nat)(lv:VE)(L:List Nat)(w:VF)(h:WK w0 w B g gp gm l A c ps lv L L)(z:l.length<=256)(hK:OE l)(hL:IX (2*l.length) L)(x:Nat)(C:x<l.length)(IZ Ja:Bool):
  VH VM 273 #[M (X ⟨g,0,V⟩),Z Y (x:Int),K IZ,K Ja] w (nK w lv w0 B g gp gm l A c ps (J5 l x IZ Ja L)):=by
 have I:=aJ h
 clear h;have e0:=cr_ I.out.I2 0 (U A l.length c);have i1:(0:Int)<=(x:Int):=by omega
 have i2:(x:Int)<(l.length:Int):=by omega
 have kl:=hK.lf x C
 have kr:=hK.rt x C
 have T:J5 l x IZ Ja L=J5 l x IZ Ja L:=rfl
 conv at T=>rhs;unfold J5
 unfold zv xL at T;have J:=aJ vg;have N:=aJ lX;have m:=aJ hL;have HX:=aJ C;have hx:l[x]? =X (nd l x):=by unfold nd;rw[bD,bE C];rfl
 have D:=cf l x _ hx
 obtain⟨b,off,rfl,_,q⟩:=(I.out.JR.up I.out.I5).at_ (by rw[aX];omega)
 have S:=q _ _ (D 0 (by omega))
 have c1:=q _ _ (D 1 (by omega))
 have c2:=q _ _ (D 2 (by omega))
 have c3:=q _ _ (D 3 (by omega))
 have c4:=q _ _ (D 4 (by omega))
 have c5:=q _ _ (D 5 (by omega))
 have c6:=q _ _ (D 6 (by omega))
 rw[<-Vk] at S c1 c2 c3 c4 c5 c6;rw[Vl] at S;clear hx D q;generalize aa:nd l x=nx at *;obtain⟨j,lf,rt,st⟩:=nx
 replace S:w.cell? ⟨b,off+x*7,V⟩=X (Z Y j):=S
 replace c1:w.cell? ⟨b,off+x*7+1,V⟩=X (Z Y lf):=c1
 replace c2:w.cell? ⟨b,off+x*7+2,V⟩=X (Z Y rt):=c2
 replace c3:w.cell? ⟨b,off+x*7+3,V⟩=X (Z E (ae st 0)):=c3
 replace c4:w.cell? ⟨b,off+x*7+4,V⟩=X (Z E (ae st 1)):=c4
 replace c5:w.cell? ⟨b,off+x*7+5,V⟩=X (Z E (ae st 2)):=c5
 replace c6:w.cell? ⟨b,off+x*7+6,V⟩=X (Z E (ae st 3)):=c6
 simp only at kl kr T
 have s:=aJ T
 have R:=aJ kl
 have KR:=aJ kr
 clear T kl kr hK aa hL C;go_enter func273,ntmps273;go_upto_region 1 with fail
 have y:=aM w (H #[Z Y j,Z Y lf,Z Y rt,Z E (ae st 0),Z E (ae st 1),Z E (ae st 2),Z E (ae st 3)] 279)
 have P:=aJ ((ID.refl w).alloc (H #[Z Y j,Z Y lf,Z Y rt,Z E (ae st 0),Z E (ae st 1),Z E (ae st 2),Z E (ae st 3)] 279))
 generalize w.alloc (H #[Z Y j,Z Y lf,Z Y rt,Z E (ae st 0),Z E (ae st 1),Z E (ae st 2),Z E (ae st 3)] 279)=W at *;have u:=aJ (I.out.up P.out);have k:=aJ (Kf.I7 P.out g gm lv);have NB:Hid (w.heap.size≠g/\w.heap.size≠gm/\X w.heap.size≠lv.ownBlock):=aJ ⟨fun e=>absurd (aQ I.out.I2) (by omega),fun e=>absurd (aQ I.out.Ly) (by omega),fun e=>absurd (bU I.out.own _ e.symm).2 (by omega)⟩
 have d0:=cr_ y 0 (Z Y j)
 have d1:=cr_ y 1 (Z Y lf)
 have d2:=cr_ y 2 (Z Y rt)
 have F:=aJ y
 clear S c1 c2 c3 c4 c5 c6 y;have hk:j=1\/j=8\/j=9\/j=5\/j=7\/j=3\/j=6\/j=4\/(j≠3/\j≠4/\j≠5/\j≠6/\j≠7/\j≠1/\j≠8/\j≠9):=by omega
 rcases hk with rfl|rfl|rfl|rfl|rfl|rfl|rfl|rfl|⟨n3,n4,n5,n6,n7,n1,n8,n9⟩
 ·have o:Hid (J5 l x IZ Ja L=ah L (2*x+1)):=aJ (by rw[s.out,ps_ rfl])
  go_wp2_with fail;refine(N.out x (by omega) _).mono ?_;rintro e _ ⟨rfl,rfl⟩
  go_wp2_with fail;refine(dF u.out z m.out (2*x+1) (by omega)).mono ?_;rintro e _ ⟨rfl,lv',f,d⟩
  have r:=aJ f
  have i:=aJ (k.out.trans d)
  clear f d;go_wp2_with fail;go_end0;exact⟨rfl,_,by rw[o.out];exact r.out,i.out⟩
 ·cases IZ
  ·have o:Hid (J5 l x O Ja L=L):=aJ (by rw[s.out,ng_ (by decide),ps_ rfl,ng_ (by decide)])
   go_wp2_with fail;go_end0;exact⟨rfl,_,by rw[o.out];exact u.out,k.out⟩
  have o:Hid (J5 l x G Ja L=ah L (2*x+1)):=aJ (by rw[s.out,ng_ (by decide),ps_ rfl,ps_ rfl])
  go_wp2_with fail;refine(N.out x (by omega) _).mono ?_;rintro e _ ⟨rfl,rfl⟩
  go_wp2_with fail;refine(dF u.out z m.out (2*x+1) (by omega)).mono ?_;rintro e _ ⟨rfl,lv',f,d⟩
  have r:=aJ f
  have i:=aJ (k.out.trans d)
  clear f d;go_wp2_with fail;go_end0;exact⟨rfl,_,by rw[o.out];exact r.out,i.out⟩
 ·cases Ja
  ·have o:Hid (J5 l x IZ O L=L):=aJ (by rw[s.out,ng_ (by decide),ng_ (by decide),ps_ rfl,ng_ (by decide)])
   go_wp2_with fail;go_end0;exact⟨rfl,_,by rw[o.out];exact u.out,k.out⟩
  have o:Hid (J5 l x IZ G L=ah L (2*x+1)):=aJ (by rw[s.out,ng_ (by decide),ng_ (by decide),ps_ rfl,ps_ rfl])
  go_wp2_with fail;refine(N.out x (by omega) _).mono ?_;rintro e _ ⟨rfl,rfl⟩
  go_wp2_with fail;refine(dF u.out z m.out (2*x+1) (by omega)).mono ?_;rintro e _ ⟨rfl,lv',f,d⟩
  have r:=aJ f
  have i:=aJ (k.out.trans d)
  clear f d;go_wp2_with fail;go_end0;exact⟨rfl,_,by rw[o.out];exact r.out,i.out⟩
 ·obtain⟨a,rfl,ha⟩:=R.out (by decide)
  have o:Hid (J5 l x IZ Ja L=ah (ah L (2*x+1)) (2*a)):=aJ (by rw[s.out,ng_ (by decide),ng_ (by decide),ng_ (by decide),ps_ (by decide)];rfl)
  go_wp2_with fail;refine(N.out x (by omega) _).mono ?_;rintro e _ ⟨rfl,rfl⟩
  go_wp2_with fail;refine(dF u.out z m.out (2*x+1) (by omega)).mono ?_;rintro e _ ⟨rfl,lv',f,d⟩
  have n:=d.block F.out NB.out.1 NB.out.2.1 NB.out.2.2
  have o1:=cr_ n 1 (Z Y (a:Int))
  have o2:=cr_ n 2 (Z Y rt)
  have r:=aJ f
  have i:=aJ (k.out.trans d)
  clear f d n;go_wp2_with fail;refine(J.out a (by omega) _).mono ?_;rintro e _ ⟨rfl,rfl⟩
  go_wp2_with fail;refine(dF r.out z (m.out.enter (by omega)) (2*a) (by omega)).mono ?_;rintro e _ ⟨rfl,_,f,d⟩
  have t:=aJ f
  have p:=aJ (i.out.trans d)
  clear f d;go_wp2_with fail;go_end0;exact⟨rfl,_,by rw[o.out];exact t.out,p.out⟩
 ·obtain⟨a,rfl,ha⟩:=R.out (by decide)
  have o:Hid (J5 l x IZ Ja L=ah (ah L (2*x+1)) (2*a)):=aJ (by rw[s.out,ng_ (by decide),ng_ (by decide),ng_ (by decide),ps_ (by decide)];rfl)
  go_wp2_with fail;refine(N.out x (by omega) _).mono ?_;rintro e _ ⟨rfl,rfl⟩
  go_wp2_with fail;refine(dF u.out z m.out (2*x+1) (by omega)).mono ?_;rintro e _ ⟨rfl,lv',f,d⟩
  have n:=d.block F.out NB.out.1 NB.out.2.1 NB.out.2.2
  have o1:=cr_ n 1 (Z Y (a:Int))
  have o2:=cr_ n 2 (Z Y rt)
  have r:=aJ f
  have i:=aJ (k.out.trans d)
  clear f d n;go_wp2_with fail;refine(J.out a (by omega) _).mono ?_;rintro e _ ⟨rfl,rfl⟩
  go_wp2_with fail;refine(dF r.out z (m.out.enter (by omega)) (2*a) (by omega)).mono ?_;rintro e _ ⟨rfl,_,f,d⟩
  have t:=aJ f
  have p:=aJ (i.out.trans d)
  clear f d;go_wp2_with fail;go_end0;exact⟨rfl,_,by rw[o.out];exact t.out,p.out⟩
 ·obtain⟨a,rfl,ha⟩:=R.out (by decide)
  have o:Hid (J5 l x IZ Ja L=ah L (2*a)):=aJ (by rw[s.out,ng_ (by decide),ng_ (by decide),ng_ (by decide),ng_ (by decide),ps_ (by decide)];rfl)
  go_wp2_with fail;refine(J.out a (by omega) _).mono ?_;rintro e _ ⟨rfl,rfl⟩
  go_wp2_with fail;refine(dF u.out z m.out (2*a) (by omega)).mono ?_;rintro e _ ⟨rfl,lv',f,d⟩
  have r:=aJ f
  have i:=aJ (k.out.trans d)
  clear f d;go_wp2_with fail;go_end0;exact⟨rfl,_,by rw[o.out];exact r.out,i.out⟩
 ·obtain⟨a,rfl,ha⟩:=R.out (by decide)
  have o:Hid (J5 l x IZ Ja L=ah L (2*a)):=aJ (by rw[s.out,ng_ (by decide),ng_ (by decide),ng_ (by decide),ng_ (by decide),ps_ (by decide)];rfl)
  go_wp2_with fail;refine(J.out a (by omega) _).mono ?_;rintro e _ ⟨rfl,rfl⟩
  go_wp2_with fail;refine(dF u.out z m.out (2*a) (by omega)).mono ?_;rintro e _ ⟨rfl,lv',f,d⟩
  have r:=aJ f
  have i:=aJ (k.out.trans d)
  clear f d;go_wp2_with fail;go_end0;exact⟨rfl,_,by rw[o.out];exact r.out,i.out⟩
 ·obtain⟨a,rfl,ha⟩:=R.out (by decide)
  obtain⟨b2,rfl,_⟩:=KR.out (by decide)
  have o:Hid (J5 l x IZ Ja L=ah (ah L (2*a)) (2*b2)):=aJ (by rw[s.out,ng_ (by decide),ng_ (by decide),ng_ (by decide),ng_ (by decide),ng_ (by decide),ps_ (by decide)];rfl)
  go_wp2_with fail;refine(J.out a (by omega) _).mono ?_;rintro e _ ⟨rfl,rfl⟩
  go_wp2_with fail;refine(dF u.out z m.out (2*a) (by omega)).mono ?_;rintro e _ ⟨rfl,lv',f,d⟩
  have n:=d.block F.out NB.out.1 NB.out.2.1 NB.out.2.2
  have o1:=cr_ n 1 (Z Y (a:Int))
  have o2:=cr_ n 2 (Z Y ↑b2)
  have r:=aJ f
  have i:=aJ (k.out.trans d)
  clear f d n;go_wp2_with fail;refine(J.out b2 (by omega) _).mono ?_;rintro e _ ⟨rfl,rfl⟩
  go_wp2_with fail;refine(dF r.out z (m.out.enter (by omega)) (2*b2) (by omega)).mono ?_;rintro e _ ⟨rfl,_,f,d⟩
  have t:=aJ f
  have p:=aJ (i.out.trans d)
  clear f d;go_wp2_with fail;go_end0;exact⟨rfl,_,by rw[o.out];exact t.out,p.out⟩
 have o:Hid (J5 l x IZ Ja L=L):=aJ (by rw[s.out,ng_ n1,ng_ n8,ng_ n9,ng_ (by omega),ng_ (by omega),ng_ n4])
 have b3:(j==3)=O:=by simpa using n3
 have b4:(j==4)=O:=by simpa using n4
 have b5:(j==5)=O:=by simpa using n5
 have b6:(j==6)=O:=by simpa using n6
 have b7:(j==7)=O:=by simpa using n7
 have b1:(j==1)=O:=by simpa using n1
 have b8:(j==8)=O:=by simpa using n8
 have b9:(j==9)=O:=by simpa using n9
 clear n3 n4 n5 n6 n7 n1 n8 n9;go_wp2_with fail;go_end0;exact⟨rfl,_,by rw[o.out];exact u.out,k.out⟩
theorem EN(w0:VF)(B g gp gm:Nat)(l:List Nd)(A:Option VG)(c:Nat)(ps:List Nat)(lv:VE)(L:List Nat)(w:VF)(h:WK w0 w B g gp gm l A c ps lv L L)(u:l.length<=256)(hK:OE l)(hL:IX (2*l.length) L)(x:Nat)(ab:x<l.length)(ad:ps.length=l.length)(up:Nat)(I:ps.getD x 0=up)(t:up<l.length):
  VH VM 274 #[M (X ⟨g,0,V⟩),Z Y (x:Int)] w (nK w lv w0 B g gp gm l A c ps (J4 l up x L)):=by
 have p:=aJ h
 have e0:=cr_ p.out.I2 0 (U A l.length c)
 have e1:=cr_ p.out.I2 1 (U (X ⟨gp,0,V⟩) l.length l.length)
 have ep:w.cell? ⟨gp,x,V⟩=X (Z Y (up:Int)):=by rw[aK w gp x _ _ _ p.out.par,Vd,fH _ _ (by omega),I]
 have i1:(0:Int)<=(x:Int):=by omega
 have i2:(x:Int)<(l.length:Int):=by omega
 have j1:(0:Int)<=(up:Int):=by omega
 have j2:(up:Int)<(l.length:Int):=by omega
 have kl:=hK.lf up t
 have kr:=hK.rt up t
 have F:J4 l up x L=J4 l up x L:=rfl
 conv at F=>rhs;unfold J4
 unfold xL at F;have P:=aJ vg;have N:=aJ lX;have k:=aJ hL;have hx:l[up]? =X (nd l up):=by unfold nd;rw[bD,bE t];rfl
 have s:=cf l up _ hx
 obtain⟨b,off,rfl,_,i⟩:=(p.JR.up p.I5).at_ (by rw[aX];omega)
 have J:=i _ _ (s 0 (by omega))
 have c1:=i _ _ (s 1 (by omega))
 have c2:=i _ _ (s 2 (by omega))
 have T:=i _ _ (s 3 (by omega))
 have c4:=i _ _ (s 4 (by omega))
 have c5:=i _ _ (s 5 (by omega))
 have c6:=i _ _ (s 6 (by omega))
 rw[<-Vk] at J c1 c2 T c4 c5 c6;rw[Vl] at J;clear hx s i;generalize aa:nd l up=nx at *;obtain⟨j,lf,rt,st⟩:=nx
 replace J:w.cell? ⟨b,off+up*7,V⟩=X (Z Y j):=J
 replace c1:w.cell? ⟨b,off+up*7+1,V⟩=X (Z Y lf):=c1
 replace c2:w.cell? ⟨b,off+up*7+2,V⟩=X (Z Y rt):=c2
 replace T:w.cell? ⟨b,off+up*7+3,V⟩=X (Z E (ae st 0)):=T
 replace c4:w.cell? ⟨b,off+up*7+4,V⟩=X (Z E (ae st 1)):=c4
 replace c5:w.cell? ⟨b,off+up*7+5,V⟩=X (Z E (ae st 2)):=c5
 replace c6:w.cell? ⟨b,off+up*7+6,V⟩=X (Z E (ae st 3)):=c6
 simp only at kl kr F
 have y:=aJ F
 have KL:=aJ kl
 have KR:=aJ kr
 clear F kl kr hK aa hL ab I;go_enter func274,ntmps274;go_upto_region 2 with fail
 have r:=aM w (H #[Z Y j,Z Y lf,Z Y rt,Z E (ae st 0),Z E (ae st 1),Z E (ae st 2),Z E (ae st 3)] 279)
 have C:=aJ ((ID.refl w).alloc (H #[Z Y j,Z Y lf,Z Y rt,Z E (ae st 0),Z E (ae st 1),Z E (ae st 2),Z E (ae st 3)] 279))
 generalize w.alloc (H #[Z Y j,Z Y lf,Z Y rt,Z E (ae st 0),Z E (ae st 1),Z E (ae st 2),Z E (ae st 3)] 279)=W at *;have D:=aJ (p.up C);have m:=aJ (Kf.I7 C g gm lv);have NB:Hid (w.heap.size≠g/\w.heap.size≠gm/\X w.heap.size≠lv.ownBlock):=aJ ⟨fun e=>absurd (aQ p.I2) (by omega),fun e=>absurd (aQ p.Ly) (by omega),fun e=>absurd (bU p.own _ e.symm).2 (by omega)⟩
 have d0:=cr_ r 0 (Z Y j)
 have d1:=cr_ r 1 (Z Y lf)
 have d2:=cr_ r 2 (Z Y rt)
 have R:=aJ r
 have hk:j=3\/j=5\/j=6\/(j≠3/\j≠5/\j≠6):=by omega
 rcases hk with rfl|rfl|rfl|⟨n3,n5,n6⟩
 ·obtain⟨a,rfl,ha⟩:=KL (by decide)
  obtain⟨b2,rfl,_⟩:=KR (by decide)
  by_cases af:x=a
  ·have o:Hid (J4 l up x L=ah L (2*b2)):=aJ (by rw[y.out,ps_ rfl,ps_ (by omega)];rfl)
   have bx:((x:Int)==(a:Int))=G:=beq_iff_eq.mpr (by omega)
   go_wp2_with fail;refine(P b2 (by omega) _).mono ?_;rintro e _ ⟨rfl,rfl⟩
   go_wp2_with fail;refine(dF D u k (2*b2) (by omega)).mono ?_;rintro e _ ⟨rfl,lv',n,d⟩
   have q:=aJ n
   have f:=aJ (m.trans d)
   go_wp2
   go_end0
   exact⟨rfl,_,by rw[o.out];exact q,f⟩
  have o:Hid (J4 l up x L=ah L (2*up+1)):=aJ (by rw[y.out,ps_ rfl,ng_ (by omega)])
  have bx:((x:Int)==(a:Int))=O:=beq_eq_false_iff_ne.mpr (by omega)
  go_wp2_with fail;refine(N up (by omega) _).mono ?_;rintro e _ ⟨rfl,rfl⟩
  go_wp2_with fail;refine(dF D u k (2*up+1) (by omega)).mono ?_;rintro e _ ⟨rfl,lv',n,d⟩
  have q:=aJ n
  have f:=aJ (m.trans d)
  go_wp2
  go_end0
  exact⟨rfl,_,by rw[o.out];exact q,f⟩
 ·have o:Hid (J4 l up x L=ah L (2*up)):=aJ (by rw[y.out,ng_ (by decide),ps_ rfl])
  go_wp2_with fail;refine(P up (by omega) _).mono ?_;rintro e _ ⟨rfl,rfl⟩
  go_wp2_with fail;refine(dF D u k (2*up) (by omega)).mono ?_;rintro e _ ⟨rfl,lv',n,d⟩
  have q:=aJ n
  have f:=aJ (m.trans d)
  go_wp2
  go_end0
  exact⟨rfl,_,by rw[o.out];exact q,f⟩
 ·obtain⟨a,rfl,ha⟩:=KL (by decide)
  have o:Hid (J4 l up x L=ah (ah L (2*up+1)) (2*x)):=aJ (by rw[y.out,ng_ (by decide),ng_ (by decide),ps_ rfl])
  go_wp2_with fail;refine(N up (by omega) _).mono ?_;rintro e _ ⟨rfl,rfl⟩
  go_wp2_with fail;refine(dF D u k (2*up+1) (by omega)).mono ?_;rintro e _ ⟨rfl,lv',n,d⟩
  have ac:=d.block R NB.1 NB.2.1 NB.2.2
  have q:=aJ n
  have f:=aJ (m.trans d)
  go_wp2_with fail;refine(P x (by omega) _).mono ?_;rintro e _ ⟨rfl,rfl⟩
  go_wp2_with fail;refine(dF q u (k.enter (by omega)) (2*x) (by omega)).mono ?_;rintro e _ ⟨rfl,_,n,d⟩
  have S:=aJ n
  have z:=aJ (f.trans d)
  go_wp2
  go_end0
  exact⟨rfl,_,by rw[o.out];exact S,z⟩
 have o:Hid (J4 l up x L=ah L (2*up+1)):=aJ (by rw[y.out,ng_ n3,ng_ n5,ng_ n6])
 have b3:(j==3)=O:=by simpa using n3
 have b5:(j==5)=O:=by simpa using n5
 have b6:(j==6)=O:=by simpa using n6
 go_wp2_with fail;refine(N up (by omega) _).mono ?_;rintro e _ ⟨rfl,rfl⟩
 go_wp2_with fail;refine(dF D u k (2*up+1) (by omega)).mono ?_;rintro e _ ⟨rfl,lv',n,d⟩
 have q:=aJ n
 have f:=aJ (m.trans d)
 go_wp2
 go_end0
 exact⟨rfl,_,by rw[o.out];exact q,f⟩
theorem IX.J5{l:List Nd}(b:OE l)(hx:x<l.length)(h:IX (2*l.length) L)(IZ Ja:Bool):IX (2*l.length) (J5 l x IZ Ja L):=by
 unfold Go.Proofs.YtflccikncbhpdaaGreatDoor.J5;have k1:((nd l x).IF=3\/(nd l x).IF=4\/(nd l x).IF=5\/(nd l x).IF=6\/(nd l x).IF=7)->zv l x<l.length:=fun hk=>by
  obtain⟨a,e,ha⟩:=b.lf x hx hk;unfold zv;rw[e];simpa using ha
 have k2:((nd l x).IF=3\/(nd l x).IF=4)->xL l x<l.length:=fun hk=>by
  obtain⟨a,e,ha⟩:=b.rt x hx hk;unfold xL;rw[e];simpa using ha
 repeat' split
 all_goals first|exact h|exact h.enter (by omega)|exact(h.enter (by omega)).enter (by omega)|(have:=k1 (by omega);first|exact h.enter (by omega)|exact(h.enter (by omega)).enter (by omega)|(have:=k2 (by omega);exact(h.enter (by omega)).enter (by omega)))
theorem IX.J4{l:List Nd}(b:OE l){up:Nat}(hx:x<l.length)(c:up<l.length)(h:IX (2*l.length) L):IX (2*l.length) (J4 l up x L):=by
 unfold Go.Proofs.YtflccikncbhpdaaGreatDoor.J4;have k2:((nd l up).IF=3\/(nd l up).IF=4)->xL l up<l.length:=fun hk=>by
  obtain⟨a,e,ha⟩:=b.rt up c hk;unfold xL;rw[e];simpa using ha
 repeat' split
 all_goals first|exact h.enter (by omega)|exact(h.enter (by omega)).enter (by omega)|(have:=k2 (by omega);exact h.enter (by omega))
theorem qL(l:List Nd)(ps:List Nat)(IZ Ja:Bool)(f i:Nat)(L:List Nat)(h:L.length<=i):JI l ps IZ Ja f i L=L:=by
 cases f with
 |zero=>rfl
 |succ f=>rw[JI,ng_ (by omega)]
def xI(w w0:VF)(B g gp gm:Nat)(l:List Nd)(A:Option VG)(c:Nat)(ps:List Nat)(lv:VE)(IZ Ja:Bool)(L:List Nat)(v:VE)(wr:VF):Prop:=
 ∃(k:Nat) (b:List Nat) (a:VE),v=Z Y k/\k<=2*l.length/\Hid (WK w0 wr B g gp gm l A c ps a b b)/\Hid (Kf w wr g gm lv a)/\Hid (IX (2*l.length) b)/\Hid (JI l ps IZ Ja (2*l.length-k) k b=JI l ps IZ Ja (2*l.length) 0 L)
theorem tX(w0:VF)(B g gp gm:Nat)(l:List Nd)(A:Option VG)(c:Nat)(ps:List Nat)(lv:VE)(L:List Nat)(w:VF)(h:WK w0 w B g gp gm l A c ps lv L L)(W:l.length<=256)(D:OE l)(T:IX (2*l.length) L)(P:ps.length=l.length)(u:∀x,x<l.length->ps.getD x 0<l.length)(IZ Ja:Bool):
  VH VM 238 #[M (X ⟨g,0,V⟩),K IZ,K Ja] w (nK w lv w0 B g gp gm l A c ps (JI l ps IZ Ja (2*l.length) 0 L)):=by
 have HH:=aJ h
 have I:=aJ T
 have t:=aJ u
 clear h T u;go_enter func238,ntmps238;go_wp2;go_loopw [6] (fun S wr=>xI w w0 B g gp gm l A c ps lv IZ Ja L S wr) (fun S _=>2*l.length-(intOf S).toNat)
 case atStart=>exact⟨0,L,lv,rfl,bO _,HH,aJ (Kf.refl _ _ _ _),I,aJ rfl⟩
 obtain⟨k,a,_,rfl,hk,m,j,o,F⟩:=hrel;have aa:=o.len;obtain⟨Al,cl,rfl,_,_,_⟩:=m.own.shape;have e3:=cr_ m.out.I2 3 (U Al a.length cl);have e0:=cr_ m.out.I2 0 (U A l.length c)
 by_cases q:k<a.length
 ·obtain⟨ga,_,hv,_,_,_,_⟩:=m.out.own.form (by omega)
  injection hv with hA _ hc
  subst hA;subst hc;have es:=(m.own.cellAt (fH a k q)).1;have i1:(0:Int)<=(k:Int):=by omega
  have i2:(k:Int)<(a.length:Int):=by omega
  have ab:a.getD k 0<2*l.length:=o.2 _ (gm_ q)
  have z:JI l ps IZ Ja (2*l.length-k) k a=JI l ps IZ Ja (2*l.length-(k+1)) (k+1) (iZ l ps IZ Ja (a.getD k 0) a):=by
   obtain⟨f,hf⟩:∃f,2*l.length-k=f+1:=⟨2*l.length-k-1,by omega⟩
   rw[hf,JI,ps_ q,show 2*l.length-(k+1)=f by omega]
  have J:=aJ (z.symm.trans F)
  clear F z;generalize a.getD k 0=s at *;have td:Int.tdiv (s:Int) 2=((s/2:Nat):Int):=by rw[Int.tdiv_eq_ediv_of_nonneg (by omega)];omega
  have tm:Int.tmod (s:Int) 2=((s%2:Nat):Int):=by rw[Int.tmod_eq_emod_of_nonneg (by omega)];omega
  have hy:s/2<l.length:=by omega
  have r:=aJ hy
  have b:Hid (iZ l ps IZ Ja s a=if s%2=0 then J5 l (s/2) IZ Ja a else if s/2≠l.length-1 then J4 l (ps.getD (s/2) 0) (s/2) a else a):=aJ rfl
  generalize ac:s/2=y at *
  by_cases h2:s%2=0
  ·have d:Hid (iZ l ps IZ Ja s a=J5 l y IZ Ja a):=aJ (by rw[b.out,ps_ h2])
   rw[h2] at tm;clear h2 b;go_upto_region 5 with fail
   go_wp2_with fail;refine(Gx w0 B g gp gm l A c ps _ a _ m W D o y r IZ Ja).mono ?_;rintro e _ ⟨rfl,lv',C,i⟩;have N:=aJ C;have n:=aJ (j.trans i);have p:=aJ (o.J5 D r IZ Ja);clear C i;go_wp2;go_roundw
   case rel=>exact⟨k+1,_,lv',rfl,by omega,N,n,p,aJ (by rw[<-d.out];exact J)⟩
   simp[intOf];omega
  have h1:s%2=1:=by omega
  rw[h1] at tm
  by_cases R:y=l.length-1
  ·have d:Hid (iZ l ps IZ Ja s a=a):=aJ (by rw[b.out,ng_ h2,ng_ (by omega)])
   have bn:((y:Int) !=(l.length:Int)-1)=O:=by simp;omega
   clear h2 h1 b R;go_wp2;go_roundw
   case rel=>exact⟨k+1,_,_,rfl,by omega,m,j,o,aJ (by rw[<-d.out];exact J)⟩
   simp[intOf];omega
  have d:Hid (iZ l ps IZ Ja s a=J4 l (ps.getD y 0) y a):=aJ (by rw[b.out,ng_ h2,ps_ R])
  have bn:((y:Int) !=(l.length:Int)-1)=G:=by simp;omega
  clear h2 h1 b R;go_upto_region 8 with fail
  go_wp2_with fail;refine(EN w0 B g gp gm l A c ps _ a _ m W D o y r P _ rfl (t y r)).mono ?_;rintro e _ ⟨rfl,lv',C,i⟩;have N:=aJ C;have n:=aJ (j.trans i);have p:=aJ (o.J4 D r (t y r));clear C i;go_wp2;go_roundw
  case rel=>exact⟨k+1,_,lv',rfl,by omega,N,n,p,aJ (by rw[<-d.out];exact J)⟩
  simp[intOf];omega
 have HR:Hid (JI l ps IZ Ja (2*l.length) 0 L=a):=aJ (by rw[<-F.out];exact qL _ _ _ _ _ _ _ (by omega))
 go_wp2
 go_end0
 rw[HR.out];exact⟨rfl,_,m,j⟩
theorem CY:(VM.info? 3).map (fun i=>(i.zero,i.size,i.bytes))=X (X (Z Y 0),1,8):=by kernel_rfl
theorem C1:(VM.info? 4).map (fun i=>(i.zero,i.size,i.bytes))=X (X (K O),1,1):=by kernel_rfl
theorem zk(n:Nat):madeCells #[Vw Y 0] n=(sw (Ve n 0)).toArray:=by
 apply Vy;simp[madeCells,sw];apply Vo
 grind
theorem zl(n:Nat):madeCells #[Vn O] n=(xM n []).toArray:=by
 apply Vy;simp[madeCells,xM];intro i _;simp[Nat.mod_one]
structure NW(w:VF)(n m:Nat)(A:Option VG)(c gp gm g:Nat)(b3 b7 b9:Bool)(ww:VF):Prop where
 I5:ID w ww
 par:b3=true->ww.heap[gp]? =some (.cells (sw (Ve n 0)).toArray 3 (0,0))/\w.heap.size<=gp
 Ly:b7=true->ww.heap[gm]? =some (.cells (xM m []).toArray 4 (0,0))/\w.heap.size<=gm
 ne:b3=true->b7=true->gp≠gm
 box:b9=true->ww.heap[g]? =some (.cells #[.slice A n c,.slice (some ⟨gp,0,none⟩) n n,.slice (some ⟨gm,0,none⟩) m m,.slice none 0 0] 368 (0,0))/\gp<g/\gm<g
theorem NW.mkP{n:Nat}{b7:Bool}(h:NW w n m A c gp gm g O b7 O ww):NW w n m A c ww.heap.size gm g G b7 O (ww.alloc (H (madeCells #[Z Y 0] n) 3)):=
 ⟨h.I5.alloc _,fun _=>⟨by rw[zk];exact aM _ _,h.I5.size⟩,fun e=>⟨((ID.refl ww).alloc _).block (h.Ly e).1,(h.Ly e).2⟩,fun _ e=>by have:=aQ (h.Ly e).1;omega,fun e=>by cases e⟩
theorem NW.mkM{n:Nat}{b3:Bool}(h:NW w n m A c gp gm g b3 O O ww):NW w n m A c gp ww.heap.size g b3 G O (ww.alloc (H (madeCells #[K O] m) 4)):=
 ⟨h.I5.alloc _,fun e=>⟨((ID.refl ww).alloc _).block (h.par e).1,(h.par e).2⟩,fun _=>⟨by rw[zl];exact aM _ _,h.I5.size⟩,fun e _=>by have:=aQ (h.par e).1;omega,fun e=>by cases e⟩
theorem NW.mkB{n:Nat}(h:NW w n m A c gp gm g G G O ww):NW w n m A c gp gm ww.heap.size G G G (ww.alloc (H #[U A n c,U (X ⟨gp,0,V⟩) n n,U (X ⟨gm,0,V⟩) m m,U V 0 0] 368)):=
 ⟨h.I5.alloc _,fun e=>⟨((ID.refl ww).alloc _).block (h.par e).1,(h.par e).2⟩,fun e=>⟨((ID.refl ww).alloc _).block (h.Ly e).1,(h.Ly e).2⟩,h.ne,fun _=>⟨aM _ _,aQ (h.par rfl).1,aQ (h.Ly rfl).1⟩⟩
theorem NW.wk{l:List Nd}(a:Rs w A (cR l))(h:NW w l.length (2*l.length) A c gp gm g G G G ww):WK w ww (g+1) g gp gm l A c (cG l 0) (U V 0 0) [] []:=by
 obtain⟨b1,b2,b3⟩:=h.box rfl;refine⟨h.I5,a,b1,(h.par rfl).1,(h.Ly rfl).1,IL.Jk _ _ _ _,?_,(h.par rfl).2,(h.Ly rfl).2,by omega,by omega,by omega,by omega,by omega,h.ne rfl rfl,?_⟩
 ·have:=(h.par rfl).2;omega
 grind
theorem B7(ps:List Nat)(i v:Nat):(sw ps).set i (Z Y (v:Int))=sw (ps.set i v):=by simp[sw]
theorem WK.Ni{l:List Nd}{M:List Nat}(h:WK w0 w B g gp gm l A c ps lv M L)(i v:Nat):WK w0 (w.setCell ⟨gp,i,V⟩ (Z Y (v:Int))) B g gp gm l A c (ps.set i v) lv M L:=by
 have a:w.grownBy (w.setCell ⟨gp,i,V⟩ (Z Y (v:Int))) (X gp):=⟨rfl,rfl,rfl,by simp,fun k _ hk=>aL w ⟨gp,i,V⟩ k _ (fun e=>hk (by simp[e]))⟩
 refine⟨h.I5.setCell h.bp _,h.JR,?_,?_,?_,bT h.own a (bY (fun e=>fN h.own h.lp e.symm)),h.bg,h.bp,h.bm,h.lg,h.lp,h.lm,h.n1,h.n2,h.n3,by simpa using h.lB⟩
 ·rw[aL w ⟨gp,i,V⟩ g _ h.n1];exact h.I2
 ·rw[aO w gp i _ _ _ h.par,Vp,B7]
 rw[aL w ⟨gp,i,V⟩ gm _ (Ne.symm h.n3)];exact h.Ly
def NI(w:VF)(n m:Nat)(A:Option VG)(c:Nat)(s0:VE)(b:Array Bool)(a:Act)(ww:VF):Prop:=
 ∃(b0 b1 b2 b3 b4 d b6 b7 b8 b9 b10:Bool) (gp gm g:Nat) (e:VE),b=#[b0,b1,b2,b3,b4,d,b6,b7,b8,b9,b10]/\
  a={tmps:=#[s0,aR,M V,cond b10 (M (X ⟨g,0,V⟩)) (aR),aR,aR,cond b0 (s0) (aR),cond b1 (s0) (aR),cond b2 (Z Y (n:Int)) (aR),cond b3 (U (X ⟨gp,0,V⟩) n n) (aR),cond b4 (s0) (aR),cond d (Z Y (n:Int)) (aR),cond b6 (Z Y (m:Int)) (aR),cond b7 (U (X ⟨gm,0,V⟩) m m) (aR),cond b8 (.agg #[s0,U (X ⟨gp,0,V⟩) n n,U (X ⟨gm,0,V⟩) m m,U V 0 0]) (aR),cond b9 (M (X ⟨g,0,V⟩)) (aR),aR,aR,aR,aR,aR,aR,aR,aR,aR,aR,aR,aR,aR,aR,aR,aR,aR,aR,aR,aR,aR,aR,aR,aR,aR,aR,aR,aR,aR,aR,aR,aR,aR,aR],defers:=[]}/\NW w n m A c gp gm g b3 b7 b9 ww
def DA(w:VF)(l:List Nd)(A:Option VG)(c:Nat)(e:Ending)(w':VF):Prop:=
 ∃B g gp gm,e=Vc (M (X ⟨g,0,V⟩))/\WK w w' B g gp gm l A c (cG l l.length) (U V 0 0) [] []
def FM(w:VF)(l:List Nd)(A:Option VG)(c g gp gm:Nat)(v:VE)(wr:VF):Prop:=
 ∃k:Nat,v=Z Y k/\k<=l.length/\Hid (WK w wr (g+1) g gp gm l A c (cG l k) (U V 0 0) [] [])
theorem sN(A:Option VG)(c:Nat)(l:List Nd)(w:VF)(hr:Rs w A (cR l))(hl:l.length<=256)(C:OE l):
  VH VM 235 #[U A l.length c] w (DA w l A c):=by
 have HR:=aJ hr
 clear hr;obtain⟨m,hm⟩:∃m,m=2*l.length:=⟨_,rfl⟩
 have um:IntKind.i64.wrap (2*(l.length:Int))=(m:Int):=by rw[bV _ (by omega)];omega
 have HM:=aJ hm
 have ai:m<=512:=by omega
 clear hm;have ac:NW w l.length m A c 0 0 0 O O O w.drew:=⟨(ID.refl w).drew,(fun e=>by cases e),(fun e=>by cases e),(fun e=>by cases e),(fun e=>by cases e)⟩
 have ab:=aJ (fun s:VF=>VL (P:=VM) 22 3 (Z Y 0) 8 underlying22 CY rfl Y Y l.length (by omega) (by omega) s)
 have aa:=aJ (fun s:VF=>VL (P:=VM) 104 4 (.bool O) 1 underlying104 C1 rfl Y Y m (by omega) (by omega) s)
 go_enter func235,ntmps235
 go_wp2_with fail;refine ak [([],[8,10,9]),([],[2,10,3,8,9]),([1],[3,10,8,9]),([2,1],[8,10,9]),([],[5,10,6,7,8,9]),([4],[6,10,7,8,9]),([5,4],[7,10,8,9]),([6,5,4],[8,10,9]),([0,3,7,2,6,1,5,4],[9,10]),([8,0,3,7,2,6,1,5,4],[10]),([9,0,1,2,3,4,5,6,7,8],[])] (NI w l.length m A c (U A l.length c)) ?_ ?_ ⟨?_,?_,?_,?_,?_,?_,?_,?_,?_,?_,?_,trivial⟩
 ·exact⟨O,O,O,O,O,O,O,O,O,O,O,0,0,0,aR,rfl,rfl,ac⟩
 ·rintro a s ⟨b0,b1,b2,b3,b4,b5,b6,b7,b8,b9,b10,gp,gm,g,p,hl,rfl,B⟩;have ad:=congrArg Vg hl;simp at ad;obtain⟨rfl,rfl,rfl,rfl,rfl,rfl,rfl,rfl,rfl,rfl,rfl⟩:=ad;clear hl;have I:=B;rw[HM.out] at I;have ag:=aJ (I.wk HR);clear B I ab aa ac um;rw[HM.out];clear HM ai;go_wp2;go_loopw [18] (fun N wr=>FM w l A c g gp gm N wr) (fun N _=>l.length-(intOf N).toNat)
  case atStart=>exact⟨0,rfl,bO _,ag⟩
  obtain⟨k,rfl,hk,R⟩:=hrel
  by_cases L:k<l.length
  ·have i1:(0:Int)<=(k:Int):=by omega
   have i2:(k:Int)<(l.length:Int):=by omega
   have kl:=C.lf k L
   have kr:=C.rt k L
   have hP:cG l (k+1)=cG l (k+1):=rfl
   conv at hP=>rhs;unfold cG
   unfold zv xL at hP;have hx:l[k]? =X (nd l k):=by unfold nd;rw[bD,bE L];rfl
   have D:=cf l k _ hx
   obtain⟨b,off,rfl,_,o⟩:=(R.JR.up R.I5).at_ (by rw[aX];omega)
   have c0:=o _ _ (D 0 (by omega))
   have c1:=o _ _ (D 1 (by omega))
   have c2:=o _ _ (D 2 (by omega))
   have c3:=o _ _ (D 3 (by omega))
   have c4:=o _ _ (D 4 (by omega))
   have c5:=o _ _ (D 5 (by omega))
   have c6:=o _ _ (D 6 (by omega))
   rw[<-Vk] at c0 c1 c2 c3 c4 c5 c6;rw[Vl] at c0;clear hx D o;generalize aj:nd l k=nx at *;obtain⟨f,lf,rt,st⟩:=nx
   replace c0:wr.cell? ⟨b,off+k*7,V⟩=X (Z Y f):=c0
   replace c1:wr.cell? ⟨b,off+k*7+1,V⟩=X (Z Y lf):=c1
   replace c2:wr.cell? ⟨b,off+k*7+2,V⟩=X (Z Y rt):=c2
   replace c3:wr.cell? ⟨b,off+k*7+3,V⟩=X (Z E (ae st 0)):=c3
   replace c4:wr.cell? ⟨b,off+k*7+4,V⟩=X (Z E (ae st 1)):=c4
   replace c5:wr.cell? ⟨b,off+k*7+5,V⟩=X (Z E (ae st 2)):=c5
   replace c6:wr.cell? ⟨b,off+k*7+6,V⟩=X (Z E (ae st 3)):=c6
   simp only at kl kr hP
   have S:=aJ hP
   have KL:=aJ kl
   have KR:=aJ kr
   clear hP kl kr aj;go_upto_region 5 with fail
   have y:=aM wr (H #[Z Y f,Z Y lf,Z Y rt,Z E (ae st 0),Z E (ae st 1),Z E (ae st 2),Z E (ae st 3)] 279)
   have af:=aJ ((ID.refl wr).alloc (H #[Z Y f,Z Y lf,Z Y rt,Z E (ae st 0),Z E (ae st 1),Z E (ae st 2),Z E (ae st 3)] 279))
   generalize wr.alloc (H #[Z Y f,Z Y lf,Z Y rt,Z E (ae st 0),Z E (ae st 1),Z E (ae st 2),Z E (ae st 3)] 279)=W at *;have j:=aJ (R.up af);have NB:Hid (wr.heap.size≠g/\wr.heap.size≠gp):=aJ ⟨fun e=>absurd (aQ R.I2) (by omega),fun e=>absurd (aQ R.par) (by omega)⟩
   have d0:=cr_ y 0 (Z Y f)
   have d1:=cr_ y 1 (Z Y lf)
   have d2:=cr_ y 2 (Z Y rt)
   have d3:=cr_ j.out.I2 1 (U (X ⟨gp,0,V⟩) l.length l.length)
   have T:=aJ y
   clear c0 c1 c2 c3 c4 c5 c6 y;generalize al:wr.heap.size=k5 at *;have ah:f=3\/f=4\/f=5\/f=6\/f=7\/(f≠3/\f≠4/\f≠5/\f≠6/\f≠7):=by omega
   rcases ah with rfl|rfl|rfl|rfl|rfl|⟨n3,n4,n5,n6,n7⟩
   ·obtain⟨a,rfl,ha⟩:=KL (by decide)
    obtain⟨b2,rfl,J⟩:=KR (by decide)
    have x:Hid (cG l (k+1)=((cG l k).set b2 k).set a k):=aJ (by rw[S.out,ps_ (by decide)];rfl)
    have i:b2<(cG l k).length:=by rw[dz];exact J
    have z:a<((cG l k).set b2 k).length:=by rw[bK,dz];exact ha
    have q:(0:Int)<=(b2:Int):=by omega
    have r:(b2:Int)<(l.length:Int):=by omega
    have u:W.frozen? ⟨gp,b2,V⟩=O:=aN W gp b2 _ _ j.par
    have t:W.cell? ⟨gp,b2,V⟩=X (Z Y (((cG l k).getD b2 0:Nat):Int)):=by rw[aK W gp b2 _ _ _ j.out.par,Vd,fH _ _ i]
    go_upto_region 11 with fail
    go_region
    have d:=aJ ((j.Ni b2 k).up (ID.refl _).drew)
    have n:(W.setCell ⟨gp,b2,V⟩ (Z Y (k:Int))).drew.heap[k5]? =_:=(aL W ⟨gp,b2,V⟩ k5 _ NB.2).trans T
    generalize (W.setCell ⟨gp,b2,V⟩ (Z Y (k:Int))).drew=W2 at *;have f1:=cr_ n 1 (Z Y (a:Int));have f3:=cr_ d.out.I2 1 (U (X ⟨gp,0,V⟩) l.length l.length);clear d0 d1 d2 d3 t u n q r;have q:(0:Int)<=(a:Int):=by omega
    have r:(a:Int)<(l.length:Int):=by omega
    have u:W2.frozen? ⟨gp,a,V⟩=O:=aN W2 gp a _ _ d.par
    have t:W2.cell? ⟨gp,a,V⟩=X (Z Y ((((cG l k).set b2 k).getD a 0:Nat):Int)):=by rw[aK W2 gp a _ _ _ d.out.par,Vd,fH _ _ z]
    go_upto_region 12 with fail
    go_region
    have F:=aJ ((d.Ni a k).up (ID.refl _).drew)
    generalize (W2.setCell ⟨gp,a,V⟩ (Z Y (k:Int))).drew=W3 at *;clear f1 f3 t u q r;go_wp2;go_roundw
    case rel=>exact⟨k+1,by go_num,by omega,aJ (by rw[x.out];exact F)⟩
    simp[intOf];omega
   ·obtain⟨a,rfl,ha⟩:=KL (by decide)
    obtain⟨b2,rfl,J⟩:=KR (by decide)
    have x:Hid (cG l (k+1)=((cG l k).set b2 k).set a k):=aJ (by rw[S.out,ps_ (by decide)];rfl)
    have i:b2<(cG l k).length:=by rw[dz];exact J
    have z:a<((cG l k).set b2 k).length:=by rw[bK,dz];exact ha
    have q:(0:Int)<=(b2:Int):=by omega
    have r:(b2:Int)<(l.length:Int):=by omega
    have u:W.frozen? ⟨gp,b2,V⟩=O:=aN W gp b2 _ _ j.par
    have t:W.cell? ⟨gp,b2,V⟩=X (Z Y (((cG l k).getD b2 0:Nat):Int)):=by rw[aK W gp b2 _ _ _ j.out.par,Vd,fH _ _ i]
    go_upto_region 11 with fail
    go_region
    have d:=aJ ((j.Ni b2 k).up (ID.refl _).drew)
    have n:(W.setCell ⟨gp,b2,V⟩ (Z Y (k:Int))).drew.heap[k5]? =_:=(aL W ⟨gp,b2,V⟩ k5 _ NB.2).trans T
    generalize (W.setCell ⟨gp,b2,V⟩ (Z Y (k:Int))).drew=W2 at *;have f1:=cr_ n 1 (Z Y (a:Int));have f3:=cr_ d.out.I2 1 (U (X ⟨gp,0,V⟩) l.length l.length);clear d0 d1 d2 d3 t u n q r;have q:(0:Int)<=(a:Int):=by omega
    have r:(a:Int)<(l.length:Int):=by omega
    have u:W2.frozen? ⟨gp,a,V⟩=O:=aN W2 gp a _ _ d.par
    have t:W2.cell? ⟨gp,a,V⟩=X (Z Y ((((cG l k).set b2 k).getD a 0:Nat):Int)):=by rw[aK W2 gp a _ _ _ d.out.par,Vd,fH _ _ z]
    go_upto_region 12 with fail
    go_region
    have F:=aJ ((d.Ni a k).up (ID.refl _).drew)
    generalize (W2.setCell ⟨gp,a,V⟩ (Z Y (k:Int))).drew=W3 at *;clear f1 f3 t u q r;go_wp2;go_roundw
    case rel=>exact⟨k+1,by go_num,by omega,aJ (by rw[x.out];exact F)⟩
    simp[intOf];omega
   ·obtain⟨a,rfl,ha⟩:=KL (by decide)
    have x:Hid (cG l (k+1)=(cG l k).set a k):=aJ (by rw[S.out,ng_ (by decide),ps_ (by decide)];rfl)
    have i:a<(cG l k).length:=by rw[dz];exact ha
    have q:(0:Int)<=(a:Int):=by omega
    have r:(a:Int)<(l.length:Int):=by omega
    have u:W.frozen? ⟨gp,a,V⟩=O:=aN W gp a _ _ j.par
    have t:W.cell? ⟨gp,a,V⟩=X (Z Y (((cG l k).getD a 0:Nat):Int)):=by rw[aK W gp a _ _ _ j.out.par,Vd,fH _ _ i]
    go_upto_region 12 with fail
    go_region
    have d:=aJ ((j.Ni a k).up (ID.refl _).drew)
    generalize (W.setCell ⟨gp,a,V⟩ (Z Y (k:Int))).drew=W2 at *;clear d0 d1 d2 d3 t u q r;go_wp2;go_roundw
    case rel=>exact⟨k+1,by go_num,by omega,aJ (by rw[x.out];exact d)⟩
    simp[intOf];omega
   ·obtain⟨a,rfl,ha⟩:=KL (by decide)
    have x:Hid (cG l (k+1)=(cG l k).set a k):=aJ (by rw[S.out,ng_ (by decide),ps_ (by decide)];rfl)
    have i:a<(cG l k).length:=by rw[dz];exact ha
    have q:(0:Int)<=(a:Int):=by omega
    have r:(a:Int)<(l.length:Int):=by omega
    have u:W.frozen? ⟨gp,a,V⟩=O:=aN W gp a _ _ j.par
    have t:W.cell? ⟨gp,a,V⟩=X (Z Y (((cG l k).getD a 0:Nat):Int)):=by rw[aK W gp a _ _ _ j.out.par,Vd,fH _ _ i]
    go_upto_region 12 with fail
    go_region
    have d:=aJ ((j.Ni a k).up (ID.refl _).drew)
    generalize (W.setCell ⟨gp,a,V⟩ (Z Y (k:Int))).drew=W2 at *;clear d0 d1 d2 d3 t u q r;go_wp2;go_roundw
    case rel=>exact⟨k+1,by go_num,by omega,aJ (by rw[x.out];exact d)⟩
    simp[intOf];omega
   ·obtain⟨a,rfl,ha⟩:=KL (by decide)
    have x:Hid (cG l (k+1)=(cG l k).set a k):=aJ (by rw[S.out,ng_ (by decide),ps_ (by decide)];rfl)
    have i:a<(cG l k).length:=by rw[dz];exact ha
    have q:(0:Int)<=(a:Int):=by omega
    have r:(a:Int)<(l.length:Int):=by omega
    have u:W.frozen? ⟨gp,a,V⟩=O:=aN W gp a _ _ j.par
    have t:W.cell? ⟨gp,a,V⟩=X (Z Y (((cG l k).getD a 0:Nat):Int)):=by rw[aK W gp a _ _ _ j.out.par,Vd,fH _ _ i]
    go_upto_region 12 with fail
    go_region
    have d:=aJ ((j.Ni a k).up (ID.refl _).drew)
    generalize (W.setCell ⟨gp,a,V⟩ (Z Y (k:Int))).drew=W2 at *;clear d0 d1 d2 d3 t u q r;go_wp2;go_roundw
    case rel=>exact⟨k+1,by go_num,by omega,aJ (by rw[x.out];exact d)⟩
    simp[intOf];omega
   have b3:(f==3)=O:=by simpa using n3
   have b4:(f==4)=O:=by simpa using n4
   have b5:(f==5)=O:=by simpa using n5
   have b6:(f==6)=O:=by simpa using n6
   have b7:(f==7)=O:=by simpa using n7
   have x:Hid (cG l (k+1)=cG l k):=aJ (by rw[S.out,ng_ (by omega),ng_ (by omega)])
   clear n3 n4 n5 n6 n7;go_wp2;go_roundw
   case rel=>exact⟨k+1,by go_num,by omega,aJ (by rw[x.out];exact j)⟩
   simp[intOf];omega
  obtain rfl:k=l.length:=by omega
  go_wp2
  go_ret;exact⟨_,_,_,_,rfl,R⟩
 rotate_left 3
 ·rintro _ _ s K ⟨b0,b1,b2,b3,b4,b5,b6,b7,b8,b9,b10,gp,gm,g,p,rfl,h2,B⟩ h C
  repeat obtain⟨rfl,h⟩:=h
  subst h2;have hr:=ab s;go_simp;apply C;iterate 11 apply bW
  exact⟨s.heap.size,gm,g,p,rfl,rfl,B.mkP⟩
 rotate_left 3
 ·rintro _ _ s K ⟨b0,b1,b2,b3,b4,b5,b6,b7,b8,b9,b10,gp,gm,g,p,rfl,h2,B⟩ h C
  repeat obtain⟨rfl,h⟩:=h
  subst h2;have hr:=aa s;go_simp;apply C;iterate 11 apply bW
  exact⟨gp,s.heap.size,g,p,rfl,rfl,B.mkM⟩
 rotate_left 1
 ·rintro _ _ s K ⟨b0,b1,b2,b3,b4,b5,b6,b7,b8,b9,b10,gp,gm,g,p,rfl,h2,B⟩ h C
  repeat obtain⟨rfl,h⟩:=h
  subst h2;go_simp;apply C;iterate 11 apply bW
  exact⟨gp,gm,s.heap.size,p,rfl,rfl,B.mkB⟩
 all_goals
  rintro _ _ s K ⟨b0,b1,b2,b3,b4,b5,b6,b7,b8,b9,b10,gp,gm,g,p,rfl,h2,B⟩ h C
  repeat obtain⟨rfl,h⟩:=h
  subst h2;go_simp;apply C;iterate 11 apply bW
  exact⟨gp,gm,g,p,rfl,rfl,B⟩
theorem j6{t:VI}:∀(b:List VE) (w:VF) (pre I5:List VE),w.heap[g]? =X (H (pre++I5).toArray t (0,0))->I5.length=b.length->(w.setCells g pre.length b).heap[g]? =X (H (pre++b).toArray t (0,0))
 |[],w,pre,I5,h,a=>by
  obtain rfl:=List.eq_nil_of_length_eq_zero a;exact h
 |v::r,w,pre,I5,h,a=>by
  cases I5 with
  |nil=>simp at a
  |cons x I5=>
   have h1:=aO w g pre.length _ _ v h
   rw[Vp,List.set_append_right _ _ (bM _),Nat.sub_self,List.set_cons_zero] at h1;have h2:=j6 (t:=t) r (w.setCell ⟨g,pre.length,V⟩ v) (pre++[v]) I5 (by rw[h1];simp) (by simpa using a)
   rw[bF,bG] at h2
   show((w.setCell ⟨g,pre.length,V⟩ v).setCells g (pre.length+1) r).heap[g]? =_
   rw[h2];simp
theorem eD(g:Nat):∀(a:List VE) (o:Nat) (w:VF),w.grownBy (w.setCells g o a) (X g)
 |[],o,w=>Vm _ _
 |v::r,o,w=>VD (show w.grownBy (w.setCell ⟨g,o,V⟩ v) (X g) from⟨rfl,rfl,rfl,by simp,fun k _ hk=>aL w ⟨g,o,V⟩ k _ (fun e=>hk (by simp[e]))⟩) (eD g r (o+1) _)
theorem WK.clear{l:List Nd}{M:List Nat}(h:WK w0 w B g gp gm l A c ps lv M L):WK w0 (w.setCells gm 0 (Ve (2*l.length) (K O))) B g gp gm l A c ps lv [] L:=by
 have a:=eD gm (Ve (2*l.length) (K O)) 0 w
 have d:ID w0 (w.setCells gm 0 (Ve (2*l.length) (K O))):=Below.grown h.I5 a h.I5.size (by intro k hk;injection hk with hk;subst hk;exact h.bm)
 have hz:Ve (2*l.length) (Vn O)=xM (2*l.length) []:=by
  apply Vo;intro i
  by_cases b:i<2*l.length
  ·rw[jP _ _ _ b,Vz,ps_ b];simp
  rw[bI (by simp;omega),bI (by simp[gL];omega)]
 refine⟨d,h.JR,?_,?_,?_,bT h.own a (bY (fun e=>fN h.own h.lm e.symm)),h.bg,h.bp,h.bm,h.lg,h.lp,h.lm,h.n1,h.n2,h.n3,bN h.lB a.size⟩
 ·exact(a.block g (aQ h.I2) (by intro e;injection e with e;exact h.n2 e)).trans h.I2
 ·exact(a.block gp (aQ h.par) (by intro e;injection e with e;exact h.n3 e)).trans h.par
 have:=j6 (t:=4) (Ve (2*l.length) (K O)) w [] (xM (2*l.length) M) h.Ly (by simp[gL])
 rw[List.nil_append,hz] at this;rw[hz];exact this
theorem Kf.clear(w:VF)(g gm n:Nat)(lv:VE):Kf w (w.setCells gm 0 (Ve n (K O))) g gm lv lv:=
 ⟨(eD gm _ 0 w).size,fun k hk _ h2 _=>(eD gm _ 0 w).block k hk (by intro e;injection e with e;exact h2 e),fun _ h=>bX h⟩
theorem Kf.drop:Kf w (w.setCell ⟨g,3,V⟩ (U V 0 0)) g gm lv (U V 0 0):=
 ⟨by simp,fun k _ h1 _ _=>aL w ⟨g,3,V⟩ k _ h1,fun k h=>by cases h⟩
theorem vB(s:Je)(i b:Nat)(c:b<256)(d:b/64=i):(bits BinOp.and VA (((ae s i:Nat):Int)/2^(b%64)) 1 !=0)=hasB s b:=by
 rw[<-qC s i b c d];have e:((ae s i:Nat):Int)/2^(b%64)=((ae s i/2^(b%64):Nat):Int):=by push_cast;rfl
 have f:=iF s i
 have hd:ae s i/2^(b%64)<18446744073709551616:=Nat.lt_of_le_of_lt (Nat.div_le_self _ _) f
 have h1:=u64_and_nat (ae s i/2^(b%64)) 1 hd (by decide)
 rw[nat_mask1] at h1;rw[e];have a:bits BinOp.and VA ((ae s i/2^(b%64):Nat):Int) 1=((ae s i/2^(b%64)%2:Nat):Int):=h1;rw[a];rw[VB,bne_iff_ne,beq_iff_eq];omega
def Dw(w w2 w0:VF)(B g gp gm:Nat)(l:List Nd)(A:Option VG)(c:Nat)(ps:List Nat)(lv:VE)(ch:Nat)(L:List Nat)(v:VE)(wr:VF):Prop:=
 ∃(k:Nat) (b:List Nat) (a:VE),v=Z Y k/\k<=L.length/\Hid (WK w0 wr B g gp gm l A c ps a b b)/\Hid (Kf w wr g gm lv a)/\Hid (Kf w2 wr g gm (U V 0 0) a)/\Hid (IX (2*l.length) b)/\Hid ((L.take k).foldl (fun IW s=>gI l ch s IW) []=b)
theorem DJ(w0:VF)(B g gp gm:Nat)(l:List Nd)(A:Option VG)(c:Nat)(ps:List Nat)(lv:VE)(L:List Nat)(w:VF)(h:WK w0 w B g gp gm l A c ps lv L L)(hl:l.length<=256)(h1:1<=l.length)(hL:IX (2*l.length) L)(ch:Nat)(am:ch<256):
  VH VM 240 #[M (X ⟨g,0,V⟩),Z .u8 ch] w (nK w lv w0 B g gp gm l A c ps (jg l ch L)):=by
 have e3:w.cell? ⟨g,3,V⟩=X lv:=by rw[aK w g 3 _ _ _ h.I2];rfl
 have f3:w.frozen? ⟨g,3,V⟩=O:=aN w g 3 _ _ h.I2
 obtain⟨Al,cl,rfl,_,_,_⟩:=h.own.shape;have S:=h.list (L':=[]) (IL.Jk _ _ _ _) (Vm w _);have ai:Kf w (w.setCell ⟨g,3,V⟩ (U V 0 0)) g gm (U Al L.length cl) (U V 0 0):=Kf.drop;have af:=aJ hL;have HH:=aJ h;generalize T:w.setCell ⟨g,3,V⟩ (U V 0 0)=w1 at *;have g2:=cr_ S.I2 2 (U (X ⟨gm,0,V⟩) (2*l.length) (2*l.length));have C:∀ty,(Builtin.clear_ #[104] ty #[U (X ⟨gm,0,V⟩) (2*l.length) (2*l.length)]).run VM w1= .ok (.tuple #[]) _:=
  fun ty=>Lib.run_clear_slice w1 _ _ ty _ underlying104 zeroValue4 rfl rfl gm 0 (2*l.length) (2*l.length) (by omega)
   (fun t ht=>by rw[Vr,aK w1 gm t _ _ _ S.Ly,Vd,jP _ _ _ ht];rfl) (fun t ht=>aN w1 gm _ _ _ S.Ly)
 have ak:Hid (∀j,j≠g->j≠gm->(w1.setCells gm 0 (Ve (2*l.length) (K O))).heap[j]? =w.heap[j]?):=aJ (fun j j1 j2=>by
  by_cases hj:j<w1.heap.size
  ·rw[(eD gm _ 0 w1).block j hj (by intro e;injection e with e;exact j2 e),<-T]
   exact aL w ⟨g,3,V⟩ j _ j1
  have e1:w1.heap.size=w.heap.size:=by rw[<-T];simp
  rw[VC (xs:=w.heap) (by omega),VC]
  have:∀(vs:List VE) (o:Nat) (W:VF),(W.setCells gm o vs).heap.size=W.heap.size:=by
   intro vs
   induction vs with
   |nil=>intro o W;rfl
   |cons v r ih=>intro o W;exact(ih (o+1) _).trans (by simp)
  rw[this];omega)
 have al:=aJ S.clear
 have ad:=aJ (ai.trans (Kf.clear w1 g gm (2*l.length) (U V 0 0)))
 clear h hL ai S;go_enter func240,ntmps240;go_upto_region 3 with fail
 generalize w1.setCells gm 0 (Ve (2*l.length) (K O))=w2 at *;clear C g2 e3 f3 T;go_wp2;go_loopw [21] (fun ac wr=>Dw w w2 w0 B g gp gm l A c ps (U Al L.length cl) ch L ac wr) (fun ac _=>L.length-(intOf ac).toNat)
 case atStart=>exact⟨0,[],_,rfl,bO _,al,ad,aJ (Kf.refl _ _ _ _),aJ (IX.nil _),aJ rfl⟩
 obtain⟨k,u,P,rfl,hk,J,p,n,I,HE⟩:=hrel;have ao:=af.len;have e0:=cr_ J.out.I2 0 (U A l.length c)
 by_cases ab:k<L.length
 ·obtain⟨ga,_,hv,_,an,_,_⟩:=HH.out.own.form (by omega)
  injection hv with hA _ hc
  subst hA;subst hc;have ec:=(HH.own.cellAt (fH L k ab)).1;have eg:wr.heap[ga]? =w.heap[ga]?:=by
   have n1:ga≠g:=fun e=>by have:=HH.out.lg;omega
   have n2:ga≠gm:=fun e=>by have:=HH.out.lm;omega
   rw[n.out.Kr ga (Vx an ad.out.size) n1 n2 (by simp[Value.ownBlock]),ak.out ga n1 n2]
  have es:wr.cell? ⟨ga,k,V⟩=X (Z Y (L.getD k 0:Nat)):=by rw[World.cell?_of_block (a:=⟨ga,k,V⟩) eg];exact ec
  have aq:L.getD k 0<2*l.length:=af.2 _ (gm_ ab)
  have aj:(L.take (k+1)).foldl (fun IW s=>gI l ch s IW) []=gI l ch (L.getD k 0) u:=by
   rw[List.take_add_one,bE ab,List.foldl_append,HE.out,bD,bE ab];rfl
  have HU:=aJ aj
  clear aj ec eg;have i1:(0:Int)<=(k:Int):=by omega
  have i2:(k:Int)<(L.length:Int):=by omega
  generalize L.getD k 0=s at *;have td:Int.tdiv (s:Int) 2=((s/2:Nat):Int):=by rw[Int.tdiv_eq_ediv_of_nonneg (by omega)];omega
  have tm:Int.tmod (s:Int) 2=((s%2:Nat):Int):=by rw[Int.tmod_eq_emod_of_nonneg (by omega)];omega
  have tn:(s:Int)%2=((s%2:Nat):Int):=by omega
  have hy:s/2<l.length:=by omega
  have HY:=aJ hy
  have x:Hid (gI l ch s u=if s%2=0/\(nd l (s/2)).IF=2/\hasB (nd l (s/2)).set ch=G then ah u (2*(s/2)+1) else u):=aJ rfl
  generalize ar:s/2=y at *
  by_cases h2:s%2=0
  ·rw[h2] at tm tn;have hx:l[y]? =X (nd l y):=by unfold nd;rw[bD,bE hy];rfl
   have hg:=cf l y _ hx
   obtain⟨b,off,rfl,_,C⟩:=(J.JR.up J.I5).at_ (by rw[aX];omega)
   have c0:=C _ _ (hg 0 (by omega))
   have c3:=C _ _ (hg 3 (by omega))
   have c4:=C _ _ (hg 4 (by omega))
   have c5:=C _ _ (hg 5 (by omega))
   have c6:=C _ _ (hg 6 (by omega))
   rw[<-Vk] at c0 c3 c4 c5 c6;rw[Vl] at c0;clear hx hg C;generalize ap:nd l y=nx at *;obtain⟨kd,lf,rt,st⟩:=nx
   replace c0:wr.cell? ⟨b,off+y*7,V⟩=X (Z Y kd):=c0
   replace c3:wr.cell? ⟨b,off+y*7+3,V⟩=X (Z E (ae st 0)):=c3
   replace c4:wr.cell? ⟨b,off+y*7+4,V⟩=X (Z E (ae st 1)):=c4
   replace c5:wr.cell? ⟨b,off+y*7+5,V⟩=X (Z E (ae st 2)):=c5
   replace c6:wr.cell? ⟨b,off+y*7+6,V⟩=X (Z E (ae st 3)):=c6
   have y1:(0:Int)<=(y:Int):=by omega
   have y2:(y:Int)<(l.length:Int):=by omega
   by_cases aa:kd=2
   ·subst aa;have hq:(ch:Int)/64=0\/(ch:Int)/64=1\/(ch:Int)/64=2\/(ch:Int)/64=3:=by omega
    have z:=aJ (fun i hi=>vB st i ch am hi)
    cases N:hasB st ch with
    |false=>
     have m:Hid (gI l ch s u=u):=aJ (by rw[x.out,ng_ (fun h=>by rw[N] at h;cases h.2.2)])
     have q:=aJ N
     clear x N;rcases hq with hq|hq|hq|hq
     ·have f:=z.out 0 (by omega)
      rw[q.out] at f;go_wp2;go_roundw
      case rel=>exact⟨k+1,u,P,rfl,by omega,J,p,n,I,aJ (HU.trans m)⟩
      simp[intOf];omega
     ·have f:=z.out 1 (by omega)
      rw[q.out] at f;go_wp2;go_roundw
      case rel=>exact⟨k+1,u,P,rfl,by omega,J,p,n,I,aJ (HU.trans m)⟩
      simp[intOf];omega
     ·have f:=z.out 2 (by omega)
      rw[q.out] at f;go_wp2;go_roundw
      case rel=>exact⟨k+1,u,P,rfl,by omega,J,p,n,I,aJ (HU.trans m)⟩
      simp[intOf];omega
     have f:=z.out 3 (by omega)
     rw[q.out] at f;go_wp2;go_roundw
     case rel=>exact⟨k+1,u,P,rfl,by omega,J,p,n,I,aJ (HU.trans m)⟩
     simp[intOf];omega
    |true=>
     have m:Hid (gI l ch s u=ah u (2*y+1)):=aJ (by rw[x.out,ps_ ⟨h2,rfl,N⟩])
     have q:=aJ N
     clear x N;rcases hq with hq|hq|hq|hq
     ·have f:=z.out 0 (by omega)
      rw[q.out] at f;go_wp2_with fail;refine(lX y (by omega) _).mono ?_;rintro e _ ⟨rfl,rfl⟩
      go_wp2_with fail;refine(dF J hl I (2*y+1) (by omega)).mono ?_;rintro e _ ⟨rfl,lv',R,d⟩
      have HV:=aJ R
      have F:=aJ (p.trans d)
      have D:=aJ (n.trans d)
      clear R d;go_wp2;go_roundw
      case rel=>exact⟨k+1,_,lv',rfl,by omega,HV,F,D,aJ (I.enter (by have:=HY.out;omega)),aJ (HU.trans m)⟩
      simp[intOf];omega
     ·have f:=z.out 1 (by omega)
      rw[q.out] at f;go_wp2_with fail;refine(lX y (by omega) _).mono ?_;rintro e _ ⟨rfl,rfl⟩
      go_wp2_with fail;refine(dF J hl I (2*y+1) (by omega)).mono ?_;rintro e _ ⟨rfl,lv',R,d⟩
      have HV:=aJ R
      have F:=aJ (p.trans d)
      have D:=aJ (n.trans d)
      clear R d;go_wp2;go_roundw
      case rel=>exact⟨k+1,_,lv',rfl,by omega,HV,F,D,aJ (I.enter (by have:=HY.out;omega)),aJ (HU.trans m)⟩
      simp[intOf];omega
     ·have f:=z.out 2 (by omega)
      rw[q.out] at f;go_wp2_with fail;refine(lX y (by omega) _).mono ?_;rintro e _ ⟨rfl,rfl⟩
      go_wp2_with fail;refine(dF J hl I (2*y+1) (by omega)).mono ?_;rintro e _ ⟨rfl,lv',R,d⟩
      have HV:=aJ R
      have F:=aJ (p.trans d)
      have D:=aJ (n.trans d)
      clear R d;go_wp2;go_roundw
      case rel=>exact⟨k+1,_,lv',rfl,by omega,HV,F,D,aJ (I.enter (by have:=HY.out;omega)),aJ (HU.trans m)⟩
      simp[intOf];omega
     have f:=z.out 3 (by omega)
     rw[q.out] at f;go_wp2_with fail;refine(lX y (by omega) _).mono ?_;rintro e _ ⟨rfl,rfl⟩
     go_wp2_with fail;refine(dF J hl I (2*y+1) (by omega)).mono ?_;rintro e _ ⟨rfl,lv',R,d⟩
     have HV:=aJ R
     have F:=aJ (p.trans d)
     have D:=aJ (n.trans d)
     clear R d;go_wp2;go_roundw
     case rel=>exact⟨k+1,_,lv',rfl,by omega,HV,F,D,aJ (I.enter (by have:=HY.out;omega)),aJ (HU.trans m)⟩
     simp[intOf];omega
   have bk:(kd==2)=O:=by simpa using aa
   have m:Hid (gI l ch s u=u):=aJ (by rw[x.out,ng_ (fun h=>aa h.2.1)])
   clear aa x;go_wp2;go_roundw
   case rel=>exact⟨k+1,u,P,rfl,by omega,J,p,n,I,aJ (HU.trans m)⟩
   simp[intOf];omega
  have ag:s%2=1:=by omega
  rw[ag] at tm tn;have m:Hid (gI l ch s u=u):=aJ (by rw[x.out,ng_ (fun h=>h2 h.1)])
  clear h2 ag x;go_wp2;go_roundw
  case rel=>exact⟨k+1,u,P,rfl,by omega,J,p,n,I,aJ (HU.trans m)⟩
  simp[intOf];omega
 obtain rfl:k=L.length:=by omega
 have HR:Hid (jg l ch L=u):=aJ (by rw[<-HE.out,Vv];rfl)
 go_wp2
 go_end0
 rw[HR.out];exact⟨rfl,_,J,p⟩
theorem zA(k:Int):(0<dG k->(k=3\/k=4\/k=5\/k=6\/k=7))/\((k=3\/k=4)->dG k=2)/\((k=5\/k=6\/k=7)->dG k=1)/\dG k<=2:=by grind [dG]
theorem qF{l:List Nd}:∀(k:Nat) (rs:List Int),hZ l k=X rs->(∀r∈rs,∃a:Nat,r=a/\a<k)/\
  ∀x,x<k->(((nd l x).IF=3\/(nd l x).IF=4\/(nd l x).IF=5\/(nd l x).IF=6\/(nd l x).IF=7)->∃a:Nat,(nd l x).left=a/\a<x)/\(((nd l x).IF=3\/(nd l x).IF=4)->∃a:Nat,(nd l x).right=a/\a<x)
 |0,rs,h=>by
  injection h with h
  subst h;exact⟨fun r b=>(by cases b),fun x hx=>(by omega)⟩
 |k+1,rs,h=>by
  rw[hZ] at h;cases b:hZ l k with
  |none=>rw[b] at h;cases h
  |some r0=>
   rw[b] at h;obtain⟨m,p⟩:=qF k r0 b;simp only at h;unfold iS at h;split at h
   ·cases h
   split at h
   ·cases h
   rename_i hk
   split at h
   ·cases h
   rename_i f
   injection h with h
   subst h;obtain⟨b1,b2,b3,b4⟩:=zA (nd l k).IF;have c:∀j:Nat,j<(dG (nd l k).IF).toNat->∃a:Nat,(r0.drop (r0.length-(dG (nd l k).IF).toNat)).getD j 0=a/\a<k:=by
    intro j hj;have g:j<(r0.drop (r0.length-(dG (nd l k).IF).toNat)).length:=by rw[List.length_drop];omega
    rw[bD,bE g];exact m _ (List.mem_of_mem_drop (bH g))
   refine⟨fun r b=>?_,fun x hx=>?_⟩
   ·rcases Vi.mp b with b|b
    ·obtain⟨a,e,ha⟩:=m r (List.mem_of_mem_take b);exact⟨a,e,by omega⟩
    simp at b
    exact⟨k,b,by omega⟩
   by_cases e:x=k
   ·subst e;have o:(nd l x).left=_:=Classical.not_not.mp (fun e=>f (bX e))
    have n:(nd l x).right=_:=Classical.not_not.mp (fun e=>f (bY e))
    refine⟨fun d=>?_,fun d=>?_⟩
    ·rw[o];refine c 0 ?_
     by_cases i:(nd l x).IF=3\/(nd l x).IF=4
     ·have:=b2 i;omega
     have:=b3 (by omega);omega
    rw[n];refine c 1 ?_;have:=b2 d;omega
   exact p x (by omega)
theorem mP{l:List Nd}(h:bZ l=G):OE l:=by
 obtain⟨h1,r,h2⟩:=j8 h;obtain⟨_,k⟩:=qF _ _ h2;exact⟨fun x hx hk=>by obtain⟨a,e,ha⟩:=(k x hx).1 hk;exact⟨a,e,by omega⟩,fun x hx hk=>by obtain⟨a,e,ha⟩:=(k x hx).2 hk;exact⟨a,e,by omega⟩⟩
theorem lU(ps:List Nat)(i v x:Nat):(ps.set i v).getD x 0=ps.getD x 0\/(ps.set i v).getD x 0=v:=by grind
theorem pN(l:List Nd)(h:1<=l.length):∀k,k<=l.length->∀x,(cG l k).getD x 0<l.length
 |0,_,x=>by
  rw[cG,bD,Vz];split<;>simp<;>omega
 |k+1,hk,x=>by
  have ih:=pN l h k (by omega)
  rw[cG];split
  ·rcases lU ((cG l k).set (xL l k) k) (zv l k) k x with e|e
   ·rw[e];rcases lU (cG l k) (xL l k) k x with e|e
    ·rw[e];exact ih x
    rw[e];omega
   rw[e];omega
  split
  ·rcases lU (cG l k) (zv l k) k x with e|e
   ·rw[e];exact ih x
   rw[e];omega
  exact ih x
theorem IX.fold{l:List Nd}(c:Nat):∀(S:List Nat) (IW:List Nat),(∀s∈S,s<2*l.length)->IX (2*l.length) IW->IX (2*l.length) (S.foldl (fun IW s=>gI l c s IW) IW)
 |[],IW,_,h=>h
 |s::S,IW,a,h=>by
  refine IX.fold c S _ (fun x hx=>a x (by simp[hx])) ?_
  show IX (2*l.length) (gI l c s IW)
  unfold gI;split
  ·have:=a s (by simp)
   exact h.enter (by omega)
  exact h
theorem IX.step{l:List Nd}(h:IX (2*l.length) L)(c:Nat):IX (2*l.length) (jg l c L):=IX.fold c L [] h.2 (IX.nil _)
theorem IX.Pk{l:List Nd}(b:OE l)(a:∀x,x<l.length->ps.getD x 0<l.length){s:Nat}(hs:s<2*l.length)(h:IX (2*l.length) L)(IZ Ja:Bool):IX (2*l.length) (iZ l ps IZ Ja s L):=by
 unfold iZ;split
 ·exact h.J5 b (by omega) IZ Ja
 split
 ·exact h.J4 b (by omega) (a _ (by omega))
 exact h
theorem IX.JI{l:List Nd}(b:OE l)(a:∀x,x<l.length->ps.getD x 0<l.length)(IZ Ja:Bool):∀(f i:Nat) (L:List Nat),IX (2*l.length) L->IX (2*l.length) (JI l ps IZ Ja f i L)
 |0,i,L,h=>h
 |f+1,i,L,h=>by
  rw[Go.Proofs.YtflccikncbhpdaaGreatDoor.JI];split
  ·rename_i c
   refine IX.JI b a IZ Ja f (i+1) _ (h.Pk b a ?_ IZ Ja);rw[bD,bE c];exact h.2 _ (bH c)
  exact h
theorem IX.spread{l:List Nd}(hv:bZ l=G)(IZ Ja:Bool)(h:IX (2*l.length) L):IX (2*l.length) (eG l IZ Ja L):=
 IX.JI (mP hv) (fun x _=>pN l (iA hv).1 _ (bM _) x) IZ Ja _ _ _ h
theorem sS(A:Option VG)(c:Nat)(t:List Nat)(w:VF)(d:Rs w A (Jp t))(hm:t.length<=maxLen)(i:Nat)(k:i<=t.length):
  VH VM 237 #[U A t.length c,Z Y (i:Int)] w (iN (K (bt t i)) w):=by
 unfold maxLen at hm;rcases Nat.eq_zero_or_pos i with rfl|g
 ·have e:bt t 0=G:=rfl
  rw[e];clear e d;go_enter func237,ntmps237;go_wp2;go_ret;exact⟨rfl,rfl⟩
 obtain⟨j,rfl⟩:∃j,i=j+1:=⟨i-1,by omega⟩
 obtain⟨b,off,rfl,_,a⟩:=d.at_ (by rw[cY];omega)
 have h:=a _ _ (gi t j (by omega))
 have e:bt t (j+1)=(t.getD j 0==10):=by unfold bt;simp
 rw[e];have f:((((t.getD j 0:Nat):Int)==10))=(t.getD j 0==10):=by rw[VB,beq_iff_eq,beq_iff_eq];omega
 rw[<-f];generalize t.getD j 0=x at *;have l:(0:Int)<=(j:Int):=by omega
 have m:(j:Int)<(t.length:Int):=by omega
 clear a d e f g;go_enter func237,ntmps237;go_wp2;go_ret;exact⟨rfl,rfl⟩
theorem WK.JD{a:VF}{l:List Nd}{M:List Nat}(h:WK w0 w B g gp gm l A c ps lv M L)(b:ID a w0)(d:Rs a A (cR l)):WK a w B g gp gm l A c ps lv M L:=
 ⟨b.up h.I5,d,h.I2,h.par,h.Ly,h.own,bN b.size h.bg,bN b.size h.bp,bN b.size h.bm,h.lg,h.lp,h.lm,h.n1,h.n2,h.n3,h.lB⟩
theorem xo(l : List Nd)(t : List Nat)(f i : Nat)(L : List Nat)(a : t.length < f + i)(b : i <= t.length) :
    fr l t f i L = (if mt l (eG l (bt t i) O (ah L (2 * (l.length - 1)))) = G then (i : Int)
      else if i = t.length then -1
      else if t.getD i 0 = 10 then
        (if mt l (eG l (bt t i) G (eG l (bt t i) O (ah L (2 * (l.length - 1))))) = G then (i : Int) + 1
         else fr l t (f - 1) (i + 1) (jg l (t.getD i 0) (eG l (bt t i) G (eG l (bt t i) O (ah L (2 * (l.length - 1)))))))
      else fr l t (f - 1) (i + 1) (jg l (t.getD i 0) (eG l (bt t i) O (ah L (2 * (l.length - 1)))))) := by
  obtain ⟨g, rfl⟩ : ∃ g, f = g + 1 := ⟨f - 1, by omega⟩
  rw [fr]
  rfl
def Bv(w:VF)(B g gp gm:Nat)(l:List Nd)(A:Option VG)(c:Nat)(t:List Nat)(R:Int)(ix:VE)(wr:VF):Prop:=
 ∃(i f:Nat) (L:List Nat) (lv:VE),ix=Z Y i/\i<=t.length/\t.length<f+i/\Hid (WK w wr B g gp gm l A c (cG l l.length) lv L L)/\Hid (IX (2*l.length) L)/\Hid (fr l t f i L=R)
theorem Fe(A:Option VG)(c:Nat)(l:List Nd)(At:Option VG)(ct:Nat)(t:List Nat)(w:VF)(hr:Rs w A (cR l))(ai:Rs w At (Jp t))(hm:l.length<=maxLen)(ht:t.length<=1000000)(hb:∀x∈t,x<256)(aj:∀x∈l,fM x.set):
  VH VM 184 #[U A l.length c,U At t.length ct] w (jE (Z Y (dL l t)) w):=by
 have hV:=xX A c l w hr hm aj
 have HR:=aJ hr
 have C:=aJ ai
 have al:=aJ hb
 clear hr ai hb aj;cases hv:bZ l with
 |false=>
  rw[hv] at hV;have HV:=aJ hV;have HE:Hid (dL l t= -1):=aJ (by unfold dL;rw[ng_ (by simp[hv])])
  clear hV;go_enter func184,ntmps184;go_wp2_with fail;refine(HV).mono ?_;rintro e V ⟨rfl,hd⟩;go_wp2;go_ret;rw[HE.out];exact⟨rfl,hd⟩
 |true=>
 rw[hv] at hV;have HV:=aJ hV;obtain⟨h1,u⟩:=iA hv;have z:=aJ (mP hv);have ac:Hid (∀x,x<l.length->(cG l l.length).getD x 0<l.length):=aJ (fun x _=>pN l h1 _ (bM _) x)
 clear hV;have HE:Hid (fr l t (t.length+1) 0 []=dL l t):=aJ (by unfold dL;rw[ps_ hv])
 generalize dL l t=R at *;go_enter func184,ntmps184;go_wp2_with fail;refine(HV).mono ?_;rintro e V ⟨rfl,hd⟩;have ab:=aJ (sN A c l V (HR.up hd) u z);have m:=aJ hd;clear hd HV;go_wp2_with fail;refine(ab).mono ?_;rintro e W ⟨B,g,gp,gm,rfl,k⟩;have HW:=aJ (k.JD m HR);clear k ab m;go_wp2;go_loopw [6] (fun s6 wr=>Bv w B g gp gm l A c t R s6 wr) (fun s6 _=>t.length+1-(intOf s6).toNat)
 case atStart=>exact⟨0,t.length+1,[],_,rfl,bO _,by omega,HW,aJ (IX.nil _),HE⟩
 clear HE HW;obtain⟨i,f,L0,ao,rfl,hi,hf,ae,D,j⟩:=hrel;have h:=(xo l t f i L0 hf hi).symm.trans j;clear j;go_wp2_with fail;refine(Ft w B g gp gm l A c (cG l l.length) ao L0 _ ae u h1 D).mono ?_;rintro e W1 ⟨rfl,lv,k,hk⟩;have HW:=aJ k;have HS:=aJ (D.enter (s:=2*(l.length-1)) (by omega))
 clear k hk ae D;generalize ah L0 (2*(l.length-1))=L at *;have am:=aJ (sS At ct t W1 (C.up HW.I5) (by unfold maxLen;omega) i hi)
 generalize ar:bt t i=bl at *;have j:=aJ h;clear h;go_wp2_with fail;refine(am).mono ?_;rintro e W1 ⟨rfl,rfl⟩;go_wp2_with fail;refine(tX w B g gp gm l A c (cG l l.length) lv L _ HW u z HS (dz _ _) ac bl O).mono ?_;rintro e V ⟨rfl,T,k,J⟩;have n:=j.out;clear j;rw[show JI l (cG l l.length) bl O (2*l.length) 0 L=eG l bl O L from rfl] at k
 have r:=aJ (HS.spread hv bl O)
 generalize eG l bl O L=L1 at *;have j:=aJ n;have o:=aJ k;clear k J n;have m:=aJ (DP w B g gp gm l A c (cG l l.length) T L1 V o u h1);generalize an:mt l L1=dd at *;cases dd with
 |true=>
  have d:Hid ((i:Int)=R):=aJ (by have:=j.out;simpa using this)
  clear j;go_wp2_with fail;refine(m).mono ?_;rintro e _ ⟨rfl,n2,rfl⟩;have a:=aJ (o.drewN n2);clear o m;generalize V.drewN n2=W2 at *;go_wp2;go_ret;rw[<-d.out];exact⟨rfl,a.I5⟩
 |false=>
  go_wp2_with fail;refine(m).mono ?_;rintro e _ ⟨rfl,n2,rfl⟩;have a:=aJ (o.drewN n2);clear o m;generalize V.drewN n2=W2 at *
  by_cases P:i<t.length
  ·have S:=C8 al i
   have h:=j.out
   rw[ng_ (by decide),ng_ (show¬i=t.length by omega)] at h
   obtain⟨b,off,rfl,_,ag⟩:=(C.up a.I5).at_ (by rw[cY];omega)
   have c8:=ag _ _ (gi t i P)
   have HC:Hid (∀ww,ID w ww->ww.cell? ⟨b,off+i,none⟩=X (Z .u8 (t.getD i 0:Nat))):=aJ (fun ww ho=>(C.up ho).cellAt (gi t i P))
   clear ag j;generalize hx:t.getD i 0=x at *;have hne:((i:Int)==(t.length:Int))=O:=by simp;omega
   have ap:(i:Int)<(t.length:Int):=by omega
   by_cases af:x=10
   ·subst af;rw[ps_ rfl] at h;have j:=aJ h;clear h;clear an;go_wp2_with fail;refine(tX w B g gp gm l A c (cG l l.length) T L1 _ a u z r (dz _ _) ac bl G).mono ?_;rintro e V ⟨rfl,ak,k,J⟩;have n:=j.out;clear j;rw[show JI l (cG l l.length) bl G (2*l.length) 0 L1=eG l bl G L1 from rfl] at k
    have ad:=aJ (r.spread hv bl G)
    generalize eG l bl G L1=L2 at *;have j:=aJ n;have p:=aJ k;clear k J n;have m:=aJ (DP w B g gp gm l A c (cG l l.length) ak L2 V p u h1);generalize au:mt l L2=de at *;cases de with
    |true=>
     have d:Hid ((i:Int)+1=R):=aJ (by have:=j.out;simpa using this)
     clear j a;go_wp2_with fail;refine(m).mono ?_;rintro e _ ⟨rfl,n2,rfl⟩;have a:=aJ (p.drewN n2);clear p m;generalize V.drewN n2=W4 at *;go_wp2;go_ret;rw[<-d.out];exact⟨rfl,a.I5⟩
    |false=>
     have d:Hid (fr l t (f-1) (i+1) (jg l 10 L2)=R):=aJ (by have:=j.out;simpa using this)
     clear j a;go_wp2_with fail;refine(m).mono ?_;rintro e _ ⟨rfl,n2,rfl⟩;have a:=aJ (p.drewN n2);clear p m;generalize V.drewN n2=W4 at *;have c9:=HC _ a.I5;obtain⟨x,y⟩:∃x:Nat,x=10:=⟨_,rfl⟩
     rw[<-y] at d c9 S;clear y c8;go_wp2_with fail;refine(DJ w B g gp gm l A c (cG l l.length) ak L2 _ a u h1 ad x S).mono ?_;rintro e _ ⟨rfl,aa,q,N⟩;have I:=aJ q;have F:=aJ (ad.step x);clear q N;go_wp2;go_roundw
     case rel=>exact⟨i+1,f-1,_,aa,by go_num,by omega,by omega,I,F,aJ d⟩
     simp[intOf];omega
   rw[ng_ af] at h;have d:=aJ h;have aq:((x:Int)==10)=O:=by simp;omega
   clear h;go_wp2_with fail;refine(DJ w B g gp gm l A c (cG l l.length) T L1 _ a u h1 r x S).mono ?_;rintro e _ ⟨rfl,aa,q,N⟩;have I:=aJ q;have F:=aJ (r.step x);clear q N;go_wp2;go_roundw
   case rel=>exact⟨i+1,f-1,_,aa,by go_num,by omega,by omega,I,F,aJ d⟩
   simp[intOf];omega
  obtain rfl:i=t.length:=by omega
  have d:Hid ((-1:Int)=R):=aJ (by have:=j.out;simpa using this)
  clear j P;go_wp2;go_ret;rw[<-d.out];exact⟨rfl,a.I5⟩
end Go.Proofs.YtflccikncbhpdaaGreatDoor
