/- Part 8: walks and plain laws. -/
import Derived.Test.YtflccikncbhpdaaGreatDoorZy6
import Derived.Test.YtflccikncbhpdaaGreatDoorZy7
set_option maxHeartbeats 16000000
set_option maxRecDepth 100000
open Go.Lib renaming hid → aJ
open Go renaming cell_of_row → aK, heap_setCell_other → aL, heap_alloc_new → aM, frozen_of_row → aN, heap_setCell_same → aO, bodyPost_ret → aP, lt_of_block → aQ, undef → aR, World → Xn, Value → Xo, Addr → Xp, Calls → Xq, TypeId → Xr, wpList_load_mid → Xs, wp_load_mid → Xt
open List renaming getD_eq_getElem?_getD → bD, getElem?_eq_getElem → bE, length_append → bF, length_singleton → bG, getElem_mem → bH, getElem?_eq_none → bI, getElem?_append_left → bJ, length_set → bK, length_map → bL, mem_append → WG, set_set → WJ, drop_eq_getElem_cons → WQ, drop_zero → WR, mem_of_getElem? → WT, take_add_one → WU, mem_singleton → WV, getElem?_eq_some_iff → WX, getElem?_toArray → WZ, drop_length → W9, take_length → W_, getElem?_map → Xa, length_filter_le → Xb, set_eq_of_length_le → Xc, map_append → Xg, sum_append → Xh
open Nat renaming le_refl → bM, le_trans → bN, zero_le → bO, zero_add → WS, add_assoc → WY, add_sub_cancel → Xl
open Option.some renaming inj → bQ
open Go.World.ownsRow renaming kept → bT, lt → bU
open Go.IntWalk renaming i64_in → bV
open Exists renaming intro → bW
open Or renaming inl → bX, inr → bY
variable {k i g pb pc oc ga gs:Nat} {w w0 a wE wr:Go.World} {z:Nat×Nat} {oA:Option Go.Addr} {mp dv:Go.Value} {cs:Array Go.Value}
open Go.Value renaming int → Z, slice → U, string → Q, pointer → M, bool → K, tuple → WC, map → WD, slice → WL, oneCell' → WN, string → WO, int → Xm
open Go.IntKind renaming i64 → Y, u64 → E, i64 → Xk
open Option renaming none → V, some → X, ne_none_iff_exists' → WW, toList_some → Xd, map_eq_some_iff → Xj
open Bool renaming false → O, true → G
open Go.Obj renaming cells → H
open Go.Ending renaming returned → WB
open Array renaming toList → WE, getElem?_eq_getElem → Xe, getElem?_setIfInBounds_ne → Xf
open And renaming intro → WH
open Go.Instr renaming lookup → WI, mapUpdate → Xi
open Go.Proofs.Tryz renaming prog → Xu
open Go.Proofs.Tryz
namespace Go.Proofs.YtflccikncbhpdaaGreatDoor
open Go.RowKit Go.Shelf
set_option linter.unusedVariables false
def G3(w9:Xn)(s:Oc.St)(m:Nat->Pm)(i g pb pc ke:Nat)(x:E3)(R:Lf.T)(sg:Int)(us:Bool)(p3 p4 a5 a6 a7 a8 a9 a' ba bb bc bd be bf bg bh bi bj bk bl bm bn bo bp bq br bt bu bv bw bx bz bA bB bC bD bE bF bG bH bI bJ bK bL bM bN bO bP bQ bR bS bT bU bV bW bX bY bZ b' ca cb cc cd ce cf cg ch ci cj ck cl cm cn co cp cq cr cs ct cu cv cw cx cy cz I J L N P S W aa ab ac ad ae af ag ah ai aj ak al am an ao ap aq ar au av aw ax ay az aA aB aC aD aE aF aG aH aI aJ aK aL aM aN aO aP aQ aR aS aT aU aV aW aX aY aZ a0 a1 a2 a3:Xo)(b:Array Bool)(a:Act)(ww:Xn):Prop:=
 ∃(b0 b1 b2 b3 b4 b5 b6 b7 b8 b9 b10 b11 b12 f b14 h k l n o q r d t u w y z B C D F:Bool) (a4:Nat) (va:Xo),b=#[b0,b1,b2,b3,b4,b5,b6,b7,b8,b9,b10,b11,b12,f,b14,h,k,l,n,o,q,r,d,t,u,w,y,z,B,C,D,F]/\
  a={tmps:=#[M (X ⟨g,0,V⟩),Z Y (i:Int),.agg #[Z Y x.e.IF,Q x.e.I6,K x.e.ok,Z Y x.e.code,U x.A x.e.data.length x.c,Z E x.e.at_,Z Y 0,Z Y 0],p3,p4,M (X ⟨ke,0,V⟩),M (X ⟨pb,i*28,V⟩),cond D (Z Y sg) (Z Y 0),cond F (K us) (K O),M (X ⟨g,0,V⟩),M (X ⟨g,0,V⟩),M (X ⟨g,0,V⟩),U (X ⟨pb,0,V⟩) s.pl.length pc,Z Y (i:Int),M (X ⟨pb,i*28,V⟩),M (X ⟨ke,0,V⟩),Z Y x.e.IF,a5,a6,cond t (WC #[va,Z Y sg,K us]) (a7),cond b0 (M (X ⟨pb,i*28,V⟩)) (a8),cond b1 (M (X ⟨pb,i*28,V⟩)) (a9),cond b2 (M (X ⟨pb,i*28,V⟩)) (a'),cond b3 (M (X ⟨pb,i*28,V⟩)) (ba),cond b4 (dm (Oc.p s i).j) (bb),cond b5 (M (X ⟨pb,i*28,V⟩)) (bc),cond b6 (M (X ⟨pb,i*28,V⟩)) (bd),cond b7 (M (X ⟨pb,i*28+15,V⟩)) (be),cond b8 (gQ (Oc.p s i).x (m i).tA (m i).tc) (bf),cond b9 (M (X ⟨ke,2,V⟩)) (bg),cond b10 (K x.e.ok) (bh),cond b11 (M (X ⟨pb,i*28,V⟩)) (bi),cond b12 (M (X ⟨pb,i*28,V⟩)) (bj),cond f (M (X ⟨pb,i*28,V⟩)) (bk),cond b14 (dm (Oc.p s i).j) (bl),cond h (K (Oc.Jr (Oc.p s i).j [])) (bm),cond k (M (X ⟨g,0,V⟩)) (bn),cond l (M (X ⟨g,0,V⟩)) (bo),cond n (M (X ⟨g,3,V⟩)) (bp),cond o (Z E s.now) (bq),cond q (M (X ⟨g,0,V⟩)) (br),cond r (Z E (Oc.LL s)) (bt),cond d (WC #[va,Z Y sg,K us]) (bu),cond u (va) (bv),cond w (Z Y sg) (bw),cond y (K us) (bx),cond z (M (X ⟨pb,i*28,V⟩)) (bz),cond B (M (X ⟨pb,i*28+15,V⟩)) (bA),bB,bC,bD,bE,bF,bG,bH,bI,bJ,bK,bL,bM,bN,bO,bP,bQ,bR,bS,bT,bU,bV,bW,bX,bY,bZ,b',ca,cb,cc,cd,ce,cf,cg,ch,ci,cj,ck,cl,cm,cn,co,cp,cq,cr,cs,ct,cu,cv,cw,cx,cy,cz,I,J,L,N,P,S,W,aa,ab,ac,ad,ae,af,ag,ah,ai,aj,ak,al,am,an,ao,ap,aq,ar,au,av,aw,ax,ay,az,aA,aB,aC,aD,aE,aF,aG,aH,aI,aJ,aK,aL,aM,aN,aO,aP,aQ,aR,aS,aT,aU,aV,aW,aX,aY,aZ,a0,a1,a2,a3],defers:=[]}/\NS w9 pb i R d C va ww
section
variable {w0 w w' : Xn} {B : BP} {g pb pc : Nat} {oA : Option Xp} {oc : Nat} {mp dv av : Xo} {m : Nat -> Pm} {s : Oc.St}
def Iu(w0:Xn)(B:BP)(g pb pc:Nat)(oA:Option Xp)(oc:Nat)(mp dv av:Xo)(b:Oc.St)(v7 v8:Xo)(wr:Xn):Prop:=
 ∃a,Hid (SG w0 wr B g pb pc oA oc mp dv av a b)/\v7=Z Y 0/\v8=K O
theorem ut(s:Oc.St)(i:Nat)(a:i<s.pl.length)(t:List Nat):K0 s i t=
  (let q:=Oc.p s i
  let o:=if q.x.ph=3\/q.x.ph=4 then q.out++t else q.out
  let s1:Oc.St:={s with pl:=s.pl.set i {q with out:=o}}
  if q.x.ph=3/\Oc.Jr q.j o=G then Oc.LF s1 i (Lf.matched q.x) else s1):=rfl
theorem yX{K:Nat}(h:SG w0 w B g pb pc oA oc mp dv av m s)(hI:Oc.I K s)(l:K<=10000000)(i:Nat)(hi:i<s.pl.length)(x:E3)(hk:x.e.IF=1/\x.e.ok=G\/x.e.IF=3)(hd:Rs w x.A (Jp x.e.data))(hb:∀b∈x.e.data,b<256)(hl:x.e.data.length<=10000000)(hm:x.A=V\/0<x.e.data.length):
  Xq Xu 47 #[M (X ⟨g,0,V⟩),Z Y (i:Int),DO x] w (Io w0 B g pb pc oA oc mp (Oc.about s i x.e)):=by
 have i0:(0:Int)<=(i:Int):=by omega
 have i1:(i:Int)<(s.pl.length:Int):=by omega
 have HG:=aJ h
 have P:=aJ hI
 have n:=aJ hi
 have HD:=aJ hd
 have HB:=aJ hb
 have HL:=aJ hl
 have HK:=aJ l
 clear h hI hd hb hl hi l;unfold DO;go_enter func47,ntmps47;go_upto_region 1 with fail
 generalize N:w.alloc _=k;have F:Hid (ID w k):=aJ (by rw[<-N];exact(ID.refl w).alloc _)
 have o:Hid (k.heap[w.heap.size]? =X (H #[Z Y x.e.IF,Q x.e.I6,.bool x.e.ok,Z Y x.e.code,U x.A x.e.data.length x.c,Z E x.e.at_,Z Y 0,Z Y 0] 65 (0,0))):=aJ (by rw[<-N];exact aM _ _)
 clear N;obtain⟨ke,T⟩:∃ke,w.heap.size=ke:=⟨_,rfl⟩
 rw[T] at o ⊢;clear T;have q:=aJ (HG.up F);have C:=aJ (HD.up F);clear HG HD F;obtain⟨c0,_⟩:=q.cell 0 (v:=U (X ⟨pb,0,V⟩) s.pl.length pc) rfl;have b0:=cr_ o 0 (Z Y x.e.IF);go_upto_block 0 with fail
 clear c0 b0;go_cut [7,8] (fun v7 v8 wx=>Iu w0 B g pb pc oA oc mp dv av (Oc.about s i x.e) v7 v8 wx)
 case first=>
  rcases hk with⟨hk,ab⟩|hk
  ·have q1:(x.e.IF==1)=G:=by rw[hk];rfl
   have y:=aJ (P.pl i n)
   have HT:=aJ (q.rows.I0 i n)
   have z:=aJ (fun W (J:ID k W)=>q.up J)
   have ac:=aJ (fun W (J:ID k W)=>(show Xq Xu 100 #[dm (Oc.p s i).j,U V 0 0] W _ from rm (Oc.p s i).j V 0 [] W y.j Rs.Jk (fun b hb=>by simp at hb) (by simp)))
   obtain⟨sg,r⟩:∃sg:Int,sg=0:=⟨_,rfl⟩
   obtain⟨us,L⟩:∃us:Bool,us=O:=⟨_,rfl⟩
   have D:=aJ (fun W (J:ID k W)=>(by rw[ab,r,L];exact Hv (Oc.p s i).j (Oc.p s i).x (m i).tA (m i).tc (Oc.Jr (Oc.p s i).j []) s.now (Oc.LL s) W y.halt (HT.up J) (by rw[y.out.t];exact bO _):Xq Xu 99 #[dm (Oc.p s i).j,gQ (Oc.p s i).x (m i).tA (m i).tc,.bool x.e.ok,.bool (Oc.Jr (Oc.p s i).j []),Z E s.now,Z E (Oc.LL s)] W (Bp W (Lf.up (Oc.p s i).x (Oc.Jr (Oc.p s i).j []) s.now) sg us)))
   obtain⟨R,hR⟩:∃R,Lf.up (Oc.p s i).x (Oc.Jr (Oc.p s i).j []) s.now=R:=⟨_,rfl⟩
   rw[hR] at D;have u:Hid (∀A' c' W,ID k W->Ts W 60 A' (ef R.I0)->Iu w0 B g pb pc oA oc mp dv av (Oc.about s i x.e) (Z Y sg) (.bool us) (W.setCells pb (i*28+15) (cC R A' c'))):=aJ (fun A' c' W hW ht=>by
    have h:=(q.up hW).LF (c:=c') n ht
    have e:Oc.about s i x.e=Oc.LF s i R:=by unfold Oc.about;rw[ps_ hk,hR]
    rw[<-e] at h;exact⟨_,aJ h,by rw[r],by rw[L]⟩)
   clear hR y HT P r L;clear hk ab;go_upto_region 5 with fail
   clear q1;refine ak [([],[]),([],[]),([1],[]),([2],[]),([3,2,1],[22,27,28,29,30,31,23,24,25,26]),([],[]),([5],[]),([6],[]),([7,6,5],[22,27,28,29,30,31,23,24,25,26]),([],[]),([9],[22,27,28,29,30,31,23,24,25,26]),([],[]),([11],[]),([12],[]),([13,12,11],[15,27,28,29,30,31,21,22,23,24,25,26]),([14,13,12,11],[21,22,27,28,29,30,31,23,24,25,26]),([],[]),([16],[]),([17],[]),([18,17,16],[22,27,28,29,30,31,23,24,25,26]),([],[]),([20,15,14,13,12,11],[22,27,28,29,30,31,23,24,25,26]),([4,8,10,15,19,21,3,7,9,14,18,20,2,6,13,17,1,5,12,16,11],[23,27,28,29,30,31,24,25,26]),([22],[]),([23],[]),([23],[]),([23],[]),([0,1,2,3,4,5,6,7,8,9,10,11,12,13,14,15,16,17,18,19,20,21,22,23,24],[]),([27,0,1,2,3,4,5,6,7,8,9,10,11,12,13,14,15,16,17,18,19,20,21,22,23,24],[]),([28,24,22,0,1,2,3,4,5,6,7,8,9,10,11,12,13,14,15,16,17,18,19,20,21,23,27],[30,31]),([25,29,0,1,2,3,4,5,6,7,8,9,10,11,12,13,14,15,16,17,18,19,20,21,22,23,24,27,28],[]),([26,30],[])] (G3 k s m i g pb pc ke x R sg us _ _ _ _ _ _ _ _ _ _ _ _ _ _ _ _ _ _ _ _ _ _ _ _ _ _ _ _ _ _ _ _ _ _ _ _ _ _ _ _ _ _ _ _ _ _ _ _ _ _ _ _ _ _ _ _ _ _ _ _ _ _ _ _ _ _ _ _ _ _ _ _ _ _ _ _ _ _ _ _ _ _ _ _ _ _ _ _ _ _ _ _ _ _ _ _ _ _ _ _ _ _ _ _ _ _ _ _ _ _ _ _ _ _ _ _ _ _ _ _ _ _ _ _ _ _ _ _ _ _ _ _ _ _ _ _ _ _ _ _ _ _ _ _ _ _) (⟨O,O,O,O,O,O,O,O,O,O,O,O,O,O,O,O,O,O,O,O,O,O,O,O,O,O,O,O,O,O,O,O,0,aR,rfl,rfl,NS.start k pb i R aR⟩) ?_ ⟨?_,?_,?_,?_,?_,?_,?_,?_,?_,?_,?_,?_,?_,?_,?_,?_,?_,?_,?_,?_,?_,?_,?_,?_,?_,?_,?_,?_,?_,?_,?_,?_,trivial⟩
   ·rintro a k ⟨b0,b1,b2,b3,b4,_,b6,b7,b8,b9,b10,b11,b12,_,b14,_,_,_,_,_,_,_,_,_,_,_,_,_,_,_,_,_,d,va,hl,rfl,f⟩;have aa:=congrArg WE hl;simp at aa;obtain⟨rfl,rfl,rfl,rfl,rfl,rfl,rfl,rfl,rfl,rfl,rfl,rfl,rfl,rfl,rfl,rfl,rfl,rfl,rfl,rfl,rfl,rfl,rfl,rfl,rfl,rfl,rfl,rfl,rfl,rfl,rfl,rfl⟩:=aa;clear hl;obtain⟨W0,A2,c2,ae,af,rfl⟩:=f.2.2 rfl;clear f z D o;go_wp2;go_meet
    case rel=>exact u A2 c2 W0 ae af
   rotate_left 4
   ·rintro _ _ k K ⟨b0,b1,b2,b3,b4,_,b6,b7,b8,b9,b10,b11,b12,_,b14,_,_,_,_,_,_,_,_,_,_,_,_,_,_,_,_,_,d,va,rfl,h2,f⟩ h l
    repeat obtain⟨rfl,h⟩:=h
    subst h2;rw[ps_ (by rfl)]
    refine Xt 63 _ rfl pb (i*28) rfl (ag (Oc.p s i).j) _ ((z k (f.1 rfl)).OX n) underlying63 rfl dZ ?_;apply l;iterate 32 apply bW
    exact⟨d,va,rfl,rfl,f⟩
   rotate_left 3
   ·rintro _ _ k K ⟨b0,b1,b2,b3,b4,_,b6,b7,b8,b9,b10,b11,b12,_,b14,_,_,_,_,_,_,_,_,_,_,_,_,_,_,_,_,_,d,va,rfl,h2,f⟩ h l
    repeat obtain⟨rfl,h⟩:=h
    subst h2;rw[ps_ (by rfl)]
    refine Xt 118 _ rfl pb (i*28+15) rfl (cC (Oc.p s i).x (m i).tA (m i).tc) _ ((z k (f.1 rfl)).Pr n) underlying118 rfl jR ?_;apply l;iterate 32 apply bW
    exact⟨d,va,rfl,rfl,f⟩
   rotate_left 1
   ·rintro _ _ k K ⟨b0,b1,b2,b3,b4,_,b6,b7,b8,b9,b10,b11,b12,_,b14,_,_,_,_,_,_,_,_,_,_,_,_,_,_,_,_,_,d,va,rfl,h2,f⟩ h l
    repeat obtain⟨rfl,h⟩:=h
    subst h2;have hc:=(aK k ke 2 _ _ _ ((f.1 rfl).block o)).trans (rfl:_=X (Value.bool x.e.ok));go_simp;apply l;iterate 32 apply bW
    exact⟨d,va,rfl,rfl,f⟩
   rotate_left 3
   ·rintro _ _ k K ⟨b0,b1,b2,b3,b4,_,b6,b7,b8,b9,b10,b11,b12,_,b14,_,_,_,_,_,_,_,_,_,_,_,_,_,_,_,_,_,d,va,rfl,h2,f⟩ h l
    repeat obtain⟨rfl,h⟩:=h
    subst h2;rw[ps_ (by rfl)]
    refine Xt 63 _ rfl pb (i*28) rfl (ag (Oc.p s i).j) _ ((z k (f.1 rfl)).OX n) underlying63 rfl dZ ?_;apply l;iterate 32 apply bW
    exact⟨d,va,rfl,rfl,f⟩
   ·rintro _ _ k K ⟨b0,b1,b2,b3,b4,_,b6,b7,b8,b9,b10,b11,b12,_,b14,_,_,_,_,_,_,_,_,_,_,_,_,_,_,_,_,_,d,va,rfl,h2,f⟩ h l
    repeat obtain⟨rfl,h⟩:=h
    subst h2;go_simp;refine(ac k (f.1 rfl)).mono ?_;rintro e w2 ⟨rfl,hd⟩;apply l;iterate 32 apply bW
    exact⟨d,va,rfl,rfl,f.grow hd⟩
   rotate_left 3
   ·rintro _ _ k K ⟨b0,b1,b2,b3,b4,_,b6,b7,b8,b9,b10,b11,b12,_,b14,_,_,_,_,_,_,_,_,_,_,_,_,_,_,_,_,_,d,va,rfl,h2,f⟩ h l
    repeat obtain⟨rfl,h⟩:=h
    subst h2;have hc:=((z k (f.1 rfl)).cell 3 (v:=Z E s.now) rfl).1;go_simp;apply l;iterate 32 apply bW
    exact⟨d,va,rfl,rfl,f⟩
   rotate_left 1
   ·rintro _ _ k K ⟨b0,b1,b2,b3,b4,_,b6,b7,b8,b9,b10,b11,b12,_,b14,_,_,_,_,_,_,_,_,_,_,_,_,_,_,_,_,_,d,va,rfl,h2,f⟩ h l
    repeat obtain⟨rfl,h⟩:=h
    subst h2;go_simp;refine(wF (z k (f.1 rfl))).mono ?_;rintro e w2 ⟨rfl,rfl⟩;apply l;iterate 32 apply bW
    exact⟨d,va,rfl,rfl,f⟩
   ·rintro _ _ k K ⟨b0,b1,b2,b3,b4,_,b6,b7,b8,b9,b10,b11,b12,_,b14,_,_,_,_,_,_,_,_,_,_,_,_,_,_,_,_,_,d,va,rfl,h2,f⟩ h l
    repeat obtain⟨rfl,h⟩:=h
    subst h2;go_simp;refine(D k (f.1 rfl)).mono ?_;rintro e w2 ⟨A2,c2,rfl,ht,hd⟩;apply l;iterate 32 apply bW
    exact⟨d,gQ R A2 c2,rfl,rfl,f.call hd ht⟩
   rotate_left 6
   ·rintro _ _ k K ⟨b0,b1,b2,b3,b4,_,b6,b7,b8,b9,b10,b11,b12,_,b14,_,_,_,_,_,_,_,_,_,_,_,_,_,_,_,_,_,d,va,rfl,h2,f⟩ h l
    repeat obtain⟨rfl,h⟩:=h
    subst h2;obtain⟨J,A2,c2,ah,ht⟩:=f.2.1 rfl rfl;subst ah;rw[ps_ (by rfl)]
    refine wp_store_mid 118 _ _ rfl pb (i*28+15) (cC R A2 c2).toArray rfl rfl ((z k J).N1 n 15 10 (by omega)) jR (zu _ _ _) ?_
    apply l;iterate 32 apply bW
    exact⟨d,gQ R A2 c2,rfl,rfl,NS.st _ J ht⟩
   all_goals
    rintro _ _ k K ⟨b0,b1,b2,b3,b4,_,b6,b7,b8,b9,b10,b11,b12,_,b14,_,_,_,_,_,_,_,_,_,_,_,_,_,_,_,_,_,d,va,rfl,h2,f⟩ h l
    repeat obtain⟨rfl,h⟩:=h
    subst h2;go_simp;apply l;iterate 32 apply bW
    exact⟨d,va,rfl,rfl,f⟩
  have q1:(x.e.IF==1)=O:=by rw[hk];rfl
  have q2:(x.e.IF==2)=O:=by rw[hk];rfl
  have q3:(x.e.IF==3)=G:=by rw[hk];rfl
  have S:=aJ (wD q P HK i n x.A x.c x.e.data C HB HL hm)
  have b4:=cr_ o 4 (U x.A x.e.data.length x.c)
  have u:Hid (∀m' W,SG w0 W B g pb pc oA oc mp dv av m' (K0 s i x.e.data)->Iu w0 B g pb pc oA oc mp dv av (Oc.about s i x.e) (Z Y 0) (.bool O) W):=aJ (fun m' W hW=>by
   refine⟨m',aJ ?_,rfl,rfl⟩;have e:Oc.about s i x.e=K0 s i x.e.data:=by
    unfold Oc.about;rw[ng_ (by rw[hk];decide)]
    exact(ut s i n x.e.data).symm
   rw[e];exact hW)
  clear hk P o q C;go_upto_region 9 with fail
  clear q1 q2 q3;go_wp2_with fail;refine(S).mono ?_;rintro e w2 ⟨rfl,m2,r⟩;have HX:=aJ (u m2 w2 r);clear S u r;go_wp2;go_meet
  case rel=>exact HX
 clear hk q C o P;obtain⟨m',ad,rfl,rfl⟩:=hcut;go_wp2_with fail;refine(yV g (i:Int) _).mono ?_;rintro e w2 ⟨rfl,rfl⟩;go_wp2;go_end0;exact⟨rfl,_,_,_,ad⟩
end
def FJ(w9:Xn)(g ke mq i:Nat)(x:E3)(p1 p2 p4 p5 p6 p7 p8 p9 f h j k l m n o p q r s t u w y z A B C D F I J L N P R S T W aa ab ac ad ae af ag ah ai aj ak al am an ao ap aq ar au av aw ax ay az aA aB aC aD aE aF aG aH aI aJ aK aL aM aN aO aP aQ aR aS aT aU aV aW:Xo)(b:Array Bool)(a:Act)(ww:Xn):Prop:=
 ∃(b0 b1 b2 b3 b4 b5 b6 b7 b8 b9 b10 b11:Bool) (d:Nat) (c:Xo),b=#[b0,b1,b2,b3,b4,b5,b6,b7,b8,b9,b10,b11]/\
  a={tmps:=#[M (X ⟨g,0,V⟩),p1,p2,M (X ⟨ke,0,V⟩),cond b10 (c) (p4),cond b11 (K O) (p5),p6,p7,p8,p9,f,h,j,k,l,cond b7 (WC #[c,K O]) (m),cond b0 (M (X ⟨g,0,V⟩)) (n),cond b1 (M (X ⟨g,0,V⟩)) (o),cond b2 (M (X ⟨g,2,V⟩)) (p),cond b3 (WD (X mq)) (q),cond b4 (M (X ⟨ke,1,V⟩)) (r),cond b5 (Q x.e.I6) (s),cond b6 (WC #[c,K O]) (t),cond b8 (c) (u),cond b9 (K O) (w),y,z,A,B,C,D,F,I,J,L,N,P,R,S,T,W,aa,ab,ac,ad,ae,af,ag,ah,ai,aj,ak,al,am,an,ao,ap,aq,ar,au,av,aw,ax,ay,az,aA,aB,aC,aD,aE,aF,aG,aH,aI,aJ,aK,aL,aM,aN,aO,aP,aQ,aR,aS,aT,aU,aV,aW],defers:=[]}/\ID w9 ww
def FI(w9:Xn)(g ke mq i:Nat)(x:E3)(p1 p2 p4 p5 p6 p7 p8 p9 d f h j k l m n o p q r s t u w y z A B C D F I J L N P R S T W aa ab ac ad ae af ag ah ai aj ak al am an ao ap aq ar au av aw ax ay az aA aB aC aD aE aF aG aH aI aJ aK aL aM aN aO aP aQ aR aS aT aU aV:Xo)(b:Array Bool)(a:Act)(ww:Xn):Prop:=
 ∃(b0 b1 b2 b3 b4 b5 b6 b7 b8 b9 b10 b11:Bool) (c:Nat) (aW:Xo),b=#[b0,b1,b2,b3,b4,b5,b6,b7,b8,b9,b10,b11]/\
  a={tmps:=#[M (X ⟨g,0,V⟩),p1,p2,M (X ⟨ke,0,V⟩),cond b10 (Z Y (i:Int)) (p4),cond b11 (K G) (p5),p6,p7,p8,p9,d,f,h,j,k,cond b7 (WC #[Z Y (i:Int),K G]) (l),cond b0 (M (X ⟨g,0,V⟩)) (m),cond b1 (M (X ⟨g,0,V⟩)) (n),cond b2 (M (X ⟨g,2,V⟩)) (o),cond b3 (WD (X mq)) (p),cond b4 (M (X ⟨ke,1,V⟩)) (q),cond b5 (Q x.e.I6) (r),cond b6 (WC #[Z Y (i:Int),K G]) (s),cond b8 (Z Y (i:Int)) (t),cond b9 (K G) (u),w,y,z,A,B,C,D,F,I,J,L,N,P,R,S,T,W,aa,ab,ac,ad,ae,af,ag,ah,ai,aj,ak,al,am,an,ao,ap,aq,ar,au,av,aw,ax,ay,az,aA,aB,aC,aD,aE,aF,aG,aH,aI,aJ,aK,aL,aM,aN,aO,aP,aQ,aR,aS,aT,aU,aV],defers:=[]}/\ID w9 ww
section
variable {w0 w w' : Xn} {B : BP} {g pb pc : Nat} {oA : Option Xp} {oc : Nat} {mp dv av : Xo} {m : Nat -> Pm} {s : Oc.St}
theorem Ff(x:E3):(cM x).toArray.all (·.oneCell')=G:=by simp[cM,WN]
theorem Ae{x:E3}(h:w.heap[k]? =X (H (cM x).toArray 65 z)):w.rangeAt k 0 (cM x):=fun j v hv=>by
 rw[WS];exact(aK w k j _ _ _ h).trans (by rw[WZ];exact hv)
structure PL(x:E3)(w:Xn):Prop where
 IF:x.e.IF=1/\x.e.ok=true\/x.e.IF=3
 rd:Rs w x.A (Jp x.e.data)
 bytes:∀b∈x.e.data,b<256
 JA:x.e.data.length<=10000000
 Pq:x.A=none\/0<x.e.data.length
 I6:x.e.I6.size<=1000000
theorem wG{K:Nat}(h:SG w0 w B g pb pc oA oc mp dv av m s)(hI:Oc.I K s)(k:K<=10000000)(x:E3)(hx:PL x w):
  Xq Xu 22 #[M (X ⟨g,0,V⟩),DO x] w (Io w0 B g pb pc oA oc mp (Oc.handle s x.e)):=by
 obtain⟨y,mk,rfl,T⟩:=h.map;have HG:=aJ h;have HI:=aJ hI;have L:=aJ hx;have hjm:x.e.I6.size<=maxLen:=by have:=hx.I6;unfold maxLen;omega
 have u:Hid (∀W,ID w W->∃c:Int,(WI 69 (WD (X y)) (Q x.e.I6) G).run Xu W= .ok (WC #[Z Y c,.bool (Gp.ix (Oc.Js s) x.e.I6).isSome]) W/\∀i:Nat,Gp.ix (Oc.Js s) x.e.I6=X i->c=(i:Int)):=aJ (fun W t=>(T.up t).look_ok hjm)
 have j:=hx.IF
 clear h hI hx hjm T;unfold DO;go_enter func22,ntmps22;go_upto_region 1 with fail
 generalize C:w.alloc _=d;have p:Hid (ID w d):=aJ (by rw[<-C];exact(ID.refl w).alloc _)
 have o:Hid (d.heap[w.heap.size]? =X (H (cM x).toArray 65 (0,0))):=aJ (by rw[<-C];exact aM _ _)
 clear C;obtain⟨D,R⟩:∃D,w.heap.size=D:=⟨_,rfl⟩
 rw[R] at o ⊢;clear R;have z:=aJ (HG.up p);have A:=aJ (L.rd.up p);have b0:=cr_ o 0 (Z Y x.e.IF);clear HG;have J:=aJ (fun W (t:ID d W)=>z.up t)
 have hq:(x.e.IF==1)=G\/((x.e.IF==1)=O/\(x.e.IF==2)=O/\(x.e.IF==3)=G):=by
  rcases j with⟨k1,_⟩|k1
  ·exact bX (by rw[k1];rfl)
  exact bY (by rw[k1];exact⟨rfl,rfl,rfl⟩)
 cases l:Gp.ix (Oc.Js s) x.e.I6 with
 |none=>
  have HF:Hid (Oc.handle s x.e=s):=aJ (by unfold Oc.handle;rw[l])
  have q:Hid (∀W,ID d W->∃c:Int,(WI 69 (WD (X y)) (Q x.e.I6) G).run Xu W= .ok (WC #[Z Y c,.bool O]) W):=aJ (fun W t=>by
   obtain⟨c,h1,_⟩:=u W (p.up t);rw[l] at h1;exact⟨c,h1⟩)
  clear l u p;clear j;rcases hq with q1|⟨q1,q2,q3⟩
  all_goals
   go_upto_region 8 with fail
   refine ak [([],[]),([0],[]),([1],[]),([2,1,0],[6,10,11,7,8,9]),([],[]),([4],[6,10,11,7,8,9]),([3,5,2,4,1,0],[7,10,11,8,9]),([6],[]),([7],[]),([7],[]),([8,0,1,2,3,4,5,6,7],[]),([9,10],[])] (FJ d g D y 0 x _ _ _ _ _ _ _ _ _ _ _ _ _ _ _ _ _ _ _ _ _ _ _ _ _ _ _ _ _ _ _ _ _ _ _ _ _ _ _ _ _ _ _ _ _ _ _ _ _ _ _ _ _ _ _ _ _ _ _ _ _ _ _ _ _ _ _ _ _ _ _ _ _ _ _ _ _ _ _ _ _ _ _ _ _ _) (⟨O,O,O,O,O,O,O,O,O,O,O,O,0,aR,rfl,rfl,(ID.refl d).drew⟩) ?_ ⟨?_,?_,?_,?_,?_,?_,?_,?_,?_,?_,?_,?_,trivial⟩
   ·rintro a d ⟨b0,b1,b2,b3,b4,_,b6,b7,b8,b9,b10,b11,b,F,S,rfl,f⟩;have r:=congrArg WE S;simp at r;obtain⟨rfl,rfl,rfl,rfl,rfl,rfl,rfl,rfl,rfl,rfl,rfl,rfl⟩:=r;clear S;have ab:Hid (Io w0 B g pb pc oA oc (WD (X y)) (Oc.handle s x.e) (WB (WC #[])) d):=aJ ⟨rfl,_,_,_,by rw[HF.out];exact J d f⟩
    clear f J HI L A z HF q o;go_wp2;go_end0;exact ab
   rotate_left 3
   ·rintro _ _ d K ⟨b0,b1,b2,b3,b4,_,b6,b7,b8,b9,b10,b11,b,F,rfl,h2,f⟩ h k
    repeat obtain⟨rfl,h⟩:=h
    subst h2;have hc:=((J d f).cell 2 (v:=WD (X y)) rfl).1;go_simp;apply k;iterate 12 apply bW
    exact⟨b,F,rfl,rfl,f⟩
   rotate_left 1
   ·rintro _ _ d K ⟨b0,b1,b2,b3,b4,_,b6,b7,b8,b9,b10,b11,b,F,rfl,h2,f⟩ h k
    repeat obtain⟨rfl,h⟩:=h
    subst h2;have hc:=(aK d D 1 _ _ _ (f.block o)).trans (rfl:_=X (WO x.e.I6));go_simp;apply k;iterate 12 apply bW
    exact⟨b,F,rfl,rfl,f⟩
   ·rintro _ _ d K ⟨b0,b1,b2,b3,b4,_,b6,b7,b8,b9,b10,b11,b,F,rfl,h2,f⟩ h k
    repeat obtain⟨rfl,h⟩:=h
    subst h2;obtain⟨c,ac⟩:=q d f;go_simp;apply k;iterate 12 apply bW
    exact⟨b,Z Y c,rfl,rfl,f⟩
   all_goals
    rintro _ _ d K ⟨b0,b1,b2,b3,b4,_,b6,b7,b8,b9,b10,b11,b,F,rfl,h2,f⟩ h k
    repeat obtain⟨rfl,h⟩:=h
    subst h2;go_simp;apply k;iterate 12 apply bW
    exact⟨b,F,rfl,rfl,f⟩
 |some i=>
  have HF:Hid (Oc.handle s x.e=Oc.about s i x.e):=aJ (by unfold Oc.handle;rw[l])
  have hi:i<s.pl.length:=by
   have:=Gp.K4 l
   simpa [Oc.Js] using this
  have q:Hid (∀W,ID d W->(WI 69 (WD (X y)) (Q x.e.I6) G).run Xu W= .ok (WC #[Z Y (i:Int),.bool G]) W):=aJ (fun W t=>by
   obtain⟨c,h1,h2⟩:=u W (p.up t);rw[l] at h1;rw[h2 i l] at h1;exact h1)
  have N:=aJ (fun W (t:ID d W)=>show Xq Xu 47 #[M (X ⟨g,0,V⟩),Z Y (i:Int),.agg (cM x).toArray] W _ from yX (J W t) HI k i hi x j (A.up t) L.bytes L.JA L.Pq)
  clear l u p hi;clear j;rcases hq with q1|⟨q1,q2,q3⟩
  all_goals
   go_upto_region 8 with fail
   refine ak [([],[]),([0],[]),([1],[]),([2,1,0],[6,10,11,7,8,9]),([],[]),([4],[6,10,11,7,8,9]),([3,5,2,4,1,0],[7,10,11,8,9]),([6],[]),([7],[]),([7],[]),([8,0,1,2,3,4,5,6,7],[]),([9,10],[])] (FI d g D y i x _ _ _ _ _ _ _ _ _ _ _ _ _ _ _ _ _ _ _ _ _ _ _ _ _ _ _ _ _ _ _ _ _ _ _ _ _ _ _ _ _ _ _ _ _ _ _ _ _ _ _ _ _ _ _ _ _ _ _ _ _ _ _ _ _ _ _ _ _ _ _ _ _ _ _ _ _ _ _ _ _ _ _ _ _ _) (⟨O,O,O,O,O,O,O,O,O,O,O,O,0,aR,rfl,rfl,(ID.refl d).drew⟩) ?_ ⟨?_,?_,?_,?_,?_,?_,?_,?_,?_,?_,?_,?_,trivial⟩
   ·rintro a d ⟨b0,b1,b2,b3,b4,_,b6,b7,b8,b9,b10,b11,b,n,S,rfl,f⟩;have r:=congrArg WE S;simp at r;obtain⟨rfl,rfl,rfl,rfl,rfl,rfl,rfl,rfl,rfl,rfl,rfl,rfl⟩:=r;clear S;have P:=aJ (N d f);have aa:=Ae (f.block o);clear f J HI L A z q o N;go_wp2_with (refine Xs rfl 65 _ rfl D 0 rfl (cM x) _ aa underlying65 rfl kW ?_);refine P.mono ?_;rintro e _ hp;have HP:=aJ hp;obtain⟨rfl,_⟩:=hp;clear P aa;go_wp2;go_end0;rw[HF.out];exact HP
   rotate_left 3
   ·rintro _ _ d K ⟨b0,b1,b2,b3,b4,_,b6,b7,b8,b9,b10,b11,b,n,rfl,h2,f⟩ h k
    repeat obtain⟨rfl,h⟩:=h
    subst h2;have hc:=((J d f).cell 2 (v:=WD (X y)) rfl).1;go_simp;apply k;iterate 12 apply bW
    exact⟨b,n,rfl,rfl,f⟩
   rotate_left 1
   ·rintro _ _ d K ⟨b0,b1,b2,b3,b4,_,b6,b7,b8,b9,b10,b11,b,n,rfl,h2,f⟩ h k
    repeat obtain⟨rfl,h⟩:=h
    subst h2;have hc:=(aK d D 1 _ _ _ (f.block o)).trans (rfl:_=X (WO x.e.I6));go_simp;apply k;iterate 12 apply bW
    exact⟨b,n,rfl,rfl,f⟩
   ·rintro _ _ d K ⟨b0,b1,b2,b3,b4,_,b6,b7,b8,b9,b10,b11,b,n,rfl,h2,f⟩ h k
    repeat obtain⟨rfl,h⟩:=h
    subst h2;have ac:=q d f;go_simp;apply k;iterate 12 apply bW
    exact⟨b,n,rfl,rfl,f⟩
   all_goals
    rintro _ _ d K ⟨b0,b1,b2,b3,b4,_,b6,b7,b8,b9,b10,b11,b,n,rfl,h2,f⟩ h k
    repeat obtain⟨rfl,h⟩:=h
    subst h2;go_simp;apply k;iterate 12 apply bW
    exact⟨b,n,rfl,rfl,f⟩
end
namespace Oc
structure PM(e:Ev):Prop where
 IF:e.IF=1/\e.ok=true\/e.IF=3
 bytes:∀b∈e.data,b<256
 I6:e.I6.size<=1000000
theorem AL{s:St}{e:Ev}(h1:e.IF≠1)(a:i<s.pl.length):about s i e=K0 s i e.data:=by
 unfold about;rw[ut s i a];simp only[ng_ h1]
theorem I.K0{K:Nat}{s:St}(h:I K s)(d:i<s.pl.length){t:List Nat}(f:∀b∈t,b<256):I (K+1+t.length) (K0 s i t):=by
 have a:=h.pl i d
 have e:(∀b∈eJ s i t,b<256)/\(eJ s i t).length<=K+1+t.length:=by
  unfold eJ;split
  ·refine⟨fun b c=>?_,by rw[bF];have:=a.o.2;omega⟩
   rcases WG.mp c with h1|h1
   ·exact a.o.1 b h1
   exact f b h1
  exact⟨a.o.1,by have:=a.o.2;omega⟩
 have h1:I (K+1+t.length) (Km s i {p s i with out:=eJ s i t}):=
  (h.mono (show K<=K+1+t.length by omega)).set (i:=i) rfl ⟨a.j,a.ph,a.halt,a.t,e⟩ rfl
 unfold Go.Proofs.YtflccikncbhpdaaGreatDoor.K0;split
 ·refine h1.set (i:=i) rfl ?_ rfl;rw[dq s _ d];refine⟨a.j,?_,?_,?_,e⟩<;>unfold Lf.matched<;>split
  ·exact bY (bY (bY rfl))
  ·exact a.ph
  ·exact a.halt
  ·exact a.halt
  ·exact a.t
  exact a.t
 exact h1
theorem Nq{s:St}{e:Ev}(h1:e.IF=1):about s i e=LF s i (Lf.up (p s i).x (Jr (p s i).j []) s.now):=by
 unfold about;rw[ps_ h1]
theorem I.about{K:Nat}{s:St}(h:I K s)(c:i<s.pl.length){e:Ev}(d:∀b∈e.data,b<256):I (K+1+e.data.length) (about s i e):=by
 by_cases h1:e.IF=1
 ·rw[Nq h1];have a:=h.pl i c;refine(h.mono (show K<=K+1+e.data.length by omega)).set (i:=i) rfl ?_ rfl
  refine⟨a.j,?_,?_,?_,a.o.1,by have:=a.o.2;simp only;omega⟩<;>unfold Lf.up<;>split
  ·simp only;split<;>simp
  ·exact a.ph
  ·exact a.halt
  ·exact a.halt
  ·exact a.t
  exact a.t
 rw[AL h1 c];exact h.K0 c d
theorem I.handle{K:Nat}{s:St}(h:I K s){e:Ev}(a:PM e):I (K+1+e.data.length) (handle s e):=by
 unfold Oc.handle;split
 ·exact h.mono (by omega)
 next i hi=>exact h.about (by have:=Gp.K4 hi;simpa [Js] using this) a.bytes
theorem M1(s:St)(e:Ev):(handle s e).IV=s.IV/\(handle s e).pl.length=s.pl.length:=by
 unfold Oc.handle;split
 ·exact⟨rfl,rfl⟩
 next i hi=>
 have a:i<s.pl.length:=by have:=Gp.K4 hi;simpa [Js] using this
 by_cases h1:e.IF=1
 ·rw[Nq h1];exact⟨rfl,by simp[LF]⟩
 rw[AL h1 a];unfold Go.Proofs.YtflccikncbhpdaaGreatDoor.K0;split
 ·exact⟨rfl,by simp[LF,Km]⟩
 exact⟨rfl,by simp[Km]⟩
theorem Nw(s:St):KD s<=s.pl.length:=Xb _ _
theorem I.Qo{K:Nat}{s:St}(h:I K s):G6 s:=fun i a=>by rw[(h.pl i a).t];exact bO _
theorem KH{l:List Jd}(a:i<l.length):p (Jg l) i=⟨l.getD i cE,Lf.new,[]⟩:=by
 unfold p Jg;simp[bD,a]
theorem I.Jg{l:List Jd}(h:∀j∈l,OS j):I 0 (Jg l):=by
 refine⟨fun i d=>?_,rfl⟩
 have a:i<l.length:=by simpa [Oc.Jg] using d
 rw[KH a];exact⟨h _ (by show l.getD i cE∈l;rw[bD,bE a];exact bH a),bX rfl,rfl,rfl,fun b c=>by simp at c,bM _⟩
end Oc
namespace Oc
theorem MB(es:List Ev):∀s,(trace s es).length=es.length+1:=by
 induction es with
 |nil=>intro s;rfl
 |cons e es ih=>intro s;simp[trace,ih]
theorem vG(es:List Ev):∀s k,k<=es.length->(trace s es)[k]? =X ((es.take k).foldl step s):=by
 induction es with
 |nil=>intro s k hk;simp at hk;subst hk;rfl
 |cons e es ih=>
  intro s k hk;cases k with
  |zero=>rfl
  |succ k=>
   simp only[trace,List.getElem?_cons_succ,List.take_succ_cons,List.foldl_cons];exact ih _ _ (by simpa using hk)
theorem MU(l:List Jd)(es:List Ev)(k:Nat)(hk:k<=es.length):(KS l es)[k]? =X (run l (es.take k)):=vG es _ k hk
end Oc
theorem fA{s:List Au.R}(r:Au.R)(h:k<s.length):Au.get (s.set k r) k=r:=by simp[Au.get,h]
theorem eZ{s:List Au.R}(r:Au.R)(h:i≠k):Au.get (s.set k r) i=Au.get s i:=by
 simp only[Au.get,bD];rw[List.getElem?_set_ne (by omega)]
def ll(s:List Au.R):Prop:=∀k,(∀b∈(Au.get s k).out,b<256)/\(Au.get s k).out.length<=1000000
def yq(l:List Jd)(s:List Au.R)(e:Oc.Ev):Prop:=∃k,Gp.ix l e.I6=X k/\((e.IF=1/\e.ok=G/\(Au.get s k).st=1)\/(e.IF=3/\(Au.get s k).st=2))/\(Au.get s k).out=[]
def nJ(l:List Jd)(al:List Oc.Ac):Prop:=∀a∈al,a.IF=1/\∃k,Gp.ix l a.I6=X k
def nR(l:List Jd):List Au.R->List Oc.Ev->List (List Oc.Ac)->Prop
 |_,[],[]=>True
 |s,e::es,al::a=>yq l s e/\ll (Au.MC l s e)/\nJ l al/\∃s',Au.KJ l (Au.MC l s e) al=X s'/\nR l s' es a
 |_,_,_=>False
def xK(l:List Jd)(es:List Oc.Ev)(b:List (List Oc.Ac)):Prop:=∃al a s,b=al::a/\nJ l al/\ll (Au.start l)/\Au.KJ l (Au.start l) al=X s/\nR l s es a
theorem qR(s:List Au.R)(hk:k<s.length):s.set k (Au.get s k)=s:=by
 apply List.ext_getElem?;intro i;rw[List.getElem?_set];split
 ·next e=>subst e;simp[hk,Au.get]
 rfl
theorem il(a:Nat->Am)(k:Nat):mz a k (a k)=a:=by
 funext i
 unfold mz;split
 ·next e=>rw[e]
 rfl
section
variable {w0 w w' : Xn} {l : List Jd} {g mb mk : Nat} {q : Nat -> Nat} {a : Nat -> Am} {s : List Au.R}
theorem Dv(h:AU w0 w l g mb mk q a s)(hk:k<l.length)(N:me (Au.I6 l k))(z:∀b∈(Au.get s k).out,b<256)(J:(Au.get s k).out.length<=1000000):
  Xq Xu 115 #[M (X ⟨q k,0,V⟩)] w fun e w'=>e=WB (K (Au.KV (Au.I6 l k) (Au.get s k)))/\AU w0 w' l g mb mk q a (s.set k (Au.J0 (Au.I6 l k) (Au.get s k))):=by
 have t:k<s.length:=by rw[h.len];exact hk
 obtain⟨S,_⟩:=h.Kj hk (i:=4) (v:=K (Au.I6 l k).IQ) rfl;obtain⟨r5,_⟩:=h.Kj hk (i:=5) (v:=Q (Au.I6 l k).ready) rfl;obtain⟨R,_⟩:=h.Kj hk (i:=17) (v:=U (a k).oA (Au.get s k).out.length (a k).oc) rfl;obtain⟨u,aa⟩:=h.Kj hk (i:=18) (v:=K (Au.get s k).JP) rfl;cases y:(Au.I6 l k).IQ with
 |false=>
  have o:Hid (Au.KV (Au.I6 l k) (Au.get s k)=G/\AU w0 w l g mb mk q a (s.set k (Au.J0 (Au.I6 l k) (Au.get s k)))):=aJ ⟨by unfold Au.KV;rw[y];rfl,by
   have e:Au.J0 (Au.I6 l k) (Au.get s k)=Au.get s k:=by unfold Au.J0;rw[y];simp
   rw[e,qR s t];exact h⟩
  rw[o.out.1];rw[y] at S;clear h N z J;go_enter func115,ntmps115;go_wp2;go_ret;exact⟨rfl,o.2⟩
 |true=>
  rw[y] at S;cases p:(Au.get s k).JP with
  |true=>
   have o:Hid (Au.KV (Au.I6 l k) (Au.get s k)=G/\AU w0 w l g mb mk q a (s.set k (Au.J0 (Au.I6 l k) (Au.get s k)))):=aJ ⟨by unfold Au.KV;rw[p];simp,by
    have e:Au.J0 (Au.I6 l k) (Au.get s k)=Au.get s k:=by
     unfold Au.J0;generalize Au.get s k=r at p;obtain⟨_,_,_⟩:=r;simp only at p;subst p;rfl
    rw[e,qR s t];exact h⟩
   rw[o.out.1];rw[p] at u;clear h N z J;go_enter func115,ntmps115;go_wp2;go_ret;exact⟨rfl,o.2⟩
  |false=>
   rw[p] at u;obtain⟨n,f,F⟩:=N y;have HP:=aJ (pM (6*(bs (Au.I6 l k).ready).length+6) (Au.I6 l k).ready (n,0) w f.par f.Qp rfl);have C:=aJ (h.Ku k hk);have B:=aJ (fun W A c (hr:Rs W A (cR n)) (L:ID w W)=>Fe A c n (a k).oA (a k).oc (Au.get s k).out W hr (by
    obtain⟨_,_,e,I,_⟩:=(C.up L).shape;injection e with e1 e2 e3
    subst e1;exact I.rs) (by have:=f.JA;unfold maxLen;omega) J z f.OV)
   have P:Hid (Au.KV (Au.I6 l k) (Au.get s k)=decide (0<=dL n (Au.get s k).out)/\Au.J0 (Au.I6 l k) (Au.get s k)=⟨(Au.get s k).st,(Au.get s k).out,decide (0<=dL n (Au.get s k).out)⟩):=aJ (by
    have e:(cO (bs (Au.I6 l k).ready)).1=n:=by rw[F]
    unfold Au.KV Au.J0;rw[y,p,e];exact⟨by simp,by simp⟩)
   have HG:=aJ h
   rw[P.out.1,P.out.2];clear h N z J f F t;go_enter func115,ntmps115;go_wp2_with fail;refine(HP).mono ?_;rintro e w2 ⟨v,rfl,L,hd⟩;obtain⟨A1,c1,rfl,I,_,_⟩:=L.shape;simp only at I;have HT:=aJ I.rs;have m:=aJ (HG.up hd);obtain⟨T,_⟩:=m.Kj hk (i:=17) (v:=U (a k).oA (Au.get s k).out.length (a k).oc) rfl;have HF:=aJ (B w2 A1 c1 HT hd);clear L I hd HP B HG S r5 R u aa;go_wp2_with fail;refine(HF).mono ?_;rintro e w3 ⟨rfl,D⟩;have d:=aJ (m.up D);obtain⟨_,_⟩:=d.Kj hk (i:=18) (v:=K (Au.get s k).JP) rfl;have o:Hid (AU w0 (w3.setCell ⟨q k,18,V⟩ (K (decide (0<=dL n (Au.get s k).out)))) l g mb mk q a (s.set k ⟨(Au.get s k).st,(Au.get s k).out,decide (0<=dL n (Au.get s k).out)⟩)):=aJ (by
    have:=d.MH hk 18 (K (decide (0<=dL n (Au.get s k).out))) (x:=a k) (r:=⟨(Au.get s k).st,(Au.get s k).out,decide (0<=dL n (Au.get s k).out)⟩) rfl rfl (d.Ku k hk) (fun j hj hne b z=>d.ap k j hk hj (fun e=>hne e.symm) b z)
    rw[il] at this;exact this)
   clear HF m d D HT P C T;go_wp2;go_ret;exact⟨rfl,o⟩
end
section
variable {w0 w w' : Xn} {l : List Jd} {g mb mk : Nat} {q : Nat -> Nat} {a : Nat -> Am} {s : List Au.R}
theorem AU.Nu(h:AU w0 w l g mb mk q a s)(hk:k<l.length):
  ∃a',AU w0 ((((w.setCell ⟨q k,16,V⟩ (Z Y 1)).setCell ⟨q k,17,V⟩ (U V 0 0)).setCell ⟨q k,18,V⟩ (K O)).setCell ⟨q k,22,V⟩ (K O)) l g mb mk q a' (s.set k ⟨1,[],O⟩):=by
 have d:k<s.length:=by rw[h.len];exact hk
 have h1:=h.MH hk 16 (Z Y 1) (x:=a k) (r:=⟨1,(Au.get s k).out,(Au.get s k).JP⟩) rfl rfl (h.Ku k hk) (fun j hj hne b c=>h.ap k j hk hj (fun e=>hne e.symm) b c)
 rw[il] at h1;have o:=cU (s:=s) (⟨1,(Au.get s k).out,(Au.get s k).JP⟩:Au.R) d;have h2:=h1.MH hk 17 (U V 0 0) (x:={a k with oA:=V,oc:=0}) (r:=⟨1,[],(Au.get s k).JP⟩) (by rw[o];rfl) rfl (IL.Jk _ _ _ _) (fun j hj hne b c=>by cases c)
 rw[WJ] at h2;have p:=cU (s:=s) (⟨1,[],(Au.get s k).JP⟩:Au.R) d;have f:mz a k {a k with oA:=V,oc:=0} k={a k with oA:=V,oc:=0}:=ps_ rfl
 have m:=h2.MH hk 18 (K O) (x:={a k with oA:=V,oc:=0}) (r:=⟨1,[],O⟩) (by rw[p,f];rfl) (by rw[f]) (IL.Jk _ _ _ _) (fun j hj hne b c=>by cases c)
 rw[WJ] at m;have t:=cU (s:=s) (⟨1,[],O⟩:Au.R) d;have i:mz (mz a k {a k with oA:=V,oc:=0}) k {a k with oA:=V,oc:=0} k={a k with oA:=V,oc:=0}:=ps_ rfl
 have n:=m.MH hk 22 (K O) (x:={a k with oA:=V,oc:=0}) (r:=⟨1,[],O⟩) (by rw[t,i];rfl) (by rw[i]) (IL.Jk _ _ _ _) (fun j hj hne b c=>by cases c)
 rw[WJ] at n;exact⟨_,n⟩
def Me(s:List Au.R):Prop:=∀k,(∀b∈(Au.get s k).out,b<256)/\(Au.get s k).out.length<=1000000
theorem Me.J0{s:List Au.R}(h:Me s)(k:Nat)(j:Jd):Me (s.set k (Au.J0 j (Au.get s k))):=by
 intro i
 by_cases hk:k<s.length
 ·by_cases e:i=k
  ·subst e;rw[cU _ hk];exact h i
  rw[eR _ e];exact h i
 rw[Xc (by omega)];exact h i
structure PR(l:List Jd):Prop where
 own:∀i,i<l.length->Gp.ix l (Au.I6 l i).nm=some i
 NU:∀i,i<l.length->me (Au.I6 l i)
 nm:∀i,i<l.length->(Au.I6 l i).nm.size<=maxLen
 JA:l.length<=32
theorem Lv{l:List Jd}(h:i∈Gp.IC l k):i<l.length:=List.mem_range.mp (List.mem_filter.mp h).1
theorem Dt(h:AU w0 w l g mb mk q a s)(N:PR l)(hO:Me s)(hk:k<l.length)(h0:(Au.get s k).st=0){t:List Au.R}(hF:Au.LU l s (Gp.IC l k)=X t):
  Xq Xu 53 #[M (X ⟨g,0,V⟩),M (X ⟨q k,0,V⟩)] w fun e w'=>e=WB (Z Y 0)/\∃a',AU w0 w' l g mb mk q a' (t.set k ⟨1,[],O⟩):=by
 obtain⟨D,_⟩:=h.Kj hk (i:=16) (v:=Z Y (Au.get s k).st) rfl;rw[h0] at D;obtain⟨aa,_⟩:=h.Kj hk (i:=15) (v:=U (a k).nA (Gp.IC l k).length (a k).nc) rfl;have c2:=h.cell 2 (v:=K O) rfl;have ac:(Gp.IC l k).length<=32:=bN (bN (Xb _ _) (by simp)) N.JA
 have p:Hid (AU w0 w l g mb mk q a s/\Me s/\Au.LU l s ((Gp.IC l k).drop 0)=X t):=aJ ⟨h,hO,hF⟩
 have F:=aJ N
 have u:=aJ (fun i (hi:i∈Gp.IC l k)=>Lv hi)
 clear h hO hF h0 N;go_enter func53,ntmps53;go_upto_block 0 with fail
 go_wp2
 go_loopw [22] (fun ab wr=>∃(i:Nat) (s1:List Au.R),i<=(Gp.IC l k).length/\ab=Z Y (i:Nat)/\Hid (AU w0 wr l g mb mk q a s1/\Me s1/\Au.LU l s1 ((Gp.IC l k).drop i)=X t)) (fun x _=>(Gp.IC l k).length-(intOf x).toNat)
 case atStart=>exact⟨0,s,bO _,rfl,p⟩
 clear p D aa c2;obtain⟨i,s1,hi,rfl,f⟩:=hrel
 by_cases r:i<(Gp.IC l k).length
 ·obtain⟨m,hm⟩:∃m,(Gp.IC l k)[i]? =X m:=⟨_,bE r⟩
  have j:=u m (WT hm)
  have A:(Gp.IC l k).drop i=m::(Gp.IC l k).drop (i+1):=by rw[WQ r];rw[bE r] at hm;injection hm with hm;rw[hm]
  have c:=f.2.2
  rw[A] at c;unfold Au.LU at c;have d:(Au.get s1 m).st=2/\Au.KV (Au.I6 l m) (Au.get s1 m)=G:=by
   by_cases hc:(Au.get s1 m).st=2/\Au.KV (Au.I6 l m) (Au.get s1 m)=G
   ·exact hc
   rw[ng_ hc] at c;cases c
  rw[ps_ d] at c;obtain⟨b,off,S,_,z⟩:=(f.1.IC k hk).rs.at_ (by simp[ar,dC];omega)
  have B:(ar (dC l k))[i]? =X (Q (Au.I6 l m).nm):=by simp[ar,dC,hm]
  have d0:=z i _ B
  have P:=f.1.map.look (s:=(Au.I6 l m).nm) (i:=q m) (F.nm m j) (by rw[F.out.own m j];rfl)
  have c0:=f.1.cell 0 (v:=WD (X mb)) rfl
  obtain⟨C,_⟩:=f.1.Kj j (i:=16) (v:=Z Y (Au.get s1 m).st) rfl;rw[d.1] at C;have J:=aJ (Dv f.1 j (F.NU m j) (f.2.1 m).1 (f.2.1 m).2);rw[d.2] at J;have I:Hid (∀W,AU w0 W l g mb mk q a (s1.set m (Au.J0 (Au.I6 l m) (Au.get s1 m)))->(AU w0 W l g mb mk q a (s1.set m (Au.J0 (Au.I6 l m) (Au.get s1 m)))/\Me (s1.set m (Au.J0 (Au.I6 l m) (Au.get s1 m)))/\Au.LU l (s1.set m (Au.J0 (Au.I6 l m) (Au.get s1 m))) ((Gp.IC l k).drop (i+1))=X t)):=aJ (fun W hW=>⟨hW,f.2.1.J0 m _,c⟩)
  clear f hm A c d z B;rw[S];go_wp2_with fail;refine(J).mono ?_;rintro e w2 ⟨rfl,y⟩;have L:=aJ (I _ y);clear J I y P d0 c0 C;go_wp2;go_roundw
  case rel=>exact⟨i+1,_,by omega,by go_num,L⟩
  simp[intOf];omega
 obtain rfl:i=(Gp.IC l k).length:=by omega
 have c:=f.2.2
 rw[W9] at c;have T:s1=t:=by injection c
 subst T;have o:=aJ f.1;have c1:=o.cell 1 (v:=Z E 0) rfl;obtain⟨_,_⟩:=o.Kj hk (i:=24) (v:=Z E 0) rfl;obtain⟨_,_⟩:=o.Kj hk (i:=16) (v:=Z Y (Au.get s1 k).st) rfl;obtain⟨_,_⟩:=o.Kj hk (i:=17) (v:=U (a k).oA (Au.get s1 k).out.length (a k).oc) rfl;obtain⟨_,_⟩:=o.Kj hk (i:=18) (v:=K (Au.get s1 k).JP) rfl;obtain⟨_,_⟩:=o.Kj hk (i:=22) (v:=K O) rfl;have I:Hid (∀n,∃a',AU w0 (((((wr.drewN n).setCell ⟨q k,16,V⟩ (Z Y 1)).setCell ⟨q k,17,V⟩ (U V 0 0)).setCell ⟨q k,18,V⟩ (K O)).setCell ⟨q k,22,V⟩ (K O)) l g mb mk q a' (s1.set k ⟨1,[],O⟩)):=aJ (fun n=>(o.up (ID.drewN (ID.refl _) n)).Nu hk)
 clear f c o F u;go_upto_region 12 with fail
 go_quiet (fail)
 go_wp2
 go_ret;exact⟨rfl,I _⟩
end
theorem xc:(Xu.info? 48).map (fun i=>(i.zero,i.size,i.bytes))=X (X (.agg #[Q ⟨#[]⟩,Z Y 0,Z Y 0,Z Y 0]),4,40):=by kernel_rfl
def mA(a:Oc.Pe):List Xo:=[Q a.name,Z Y a.ph,Z Y a.inc,Z Y a.JX]
def gD(l:List Oc.Pe):List Xo:=l.flatMap mA
theorem B4(s:Oc.St)(k:Nat)(h:k<s.pl.length):gD ((Oc.Jn s).take (k+1))=gD ((Oc.Jn s).take k)++[Q (Oc.p s k).j.nm,Z Y (Oc.p s k).x.ph,Z Y (Oc.p s k).x.inc,Z Y (Oc.p s k).x.JX]:=by simp_all [Oc.Jn,Oc.p,WU,congr,gD,mA]
theorem oK{B:BP}{av:Xo}{m:Nat->Pm}{s:Oc.St}(h:SG w0 w B g pb pc oA oc mp dv av m s):
  Xq Xu 21 #[M (X ⟨g,0,V⟩)] w (nQ w 48 4 (Oc.Jn s).length (gD (Oc.Jn s))):=by
 obtain⟨N,_⟩:=h.cell 0 (v:=U (X ⟨pb,0,V⟩) s.pl.length pc) rfl;have P:(s.pl.length:Int)<=32:=by have:=h.JA;omega
 have A:=aJ h
 have i:(Oc.Jn s).length=s.pl.length:=by simp[Oc.Jn]
 rw[i];have e:=aJ i;clear h i;go_enter func21,ntmps21;go_wp2;go_loopw [3,11] (fun v x wr=>∃k:Nat,k<=s.pl.length/\x=Z Y k/\IL wr w.heap.size 48 4 v k (gD ((Oc.Jn s).take k))/\ID w wr) (fun _ x _=>s.pl.length-(intOf x).toNat)
 case atStart=>exact⟨0,bO _,rfl,IL.Jk _ _ _ _,ID.refl _⟩
 obtain⟨k,hk,rfl,b,hd⟩:=hrel
 by_cases t:k<s.pl.length
 ·have J:=aJ b
  have I:=aJ hd
  have z:=A.up hd
  have u:=z.range t
  have o:=aJ (B4 s k t)
  clear b hd z N;generalize Oc.p s k=q at *;generalize m k=mm at *;go_upto_region 5 with(first|(refine Xs rfl 121 _ rfl pb (k*28) rfl (aZ q mm) _ u underlying121 rfl pT ?_)|(refine eU rfl 121 _ _ rfl _ rfl (aZ q mm) rfl rfl pT rfl (yN q mm) ?_;intro L f a))
  have n:=aJ (J.up f)
  have c:=aJ (I.up f)
  have b0:=qf a (d:=0) (v:=Q q.j.nm) rfl
  have C:=qf a (d:=15) (v:=Z Y q.x.ph) rfl
  have D:=qf a (d:=16) (v:=Z Y q.x.inc) rfl
  have F:=qf a (d:=17) (v:=Z Y q.x.JX) rfl
  clear f a u J I;obtain⟨kp,r⟩:∃kp,wr.heap.size=kp:=⟨_,rfl⟩
  rw[r] at b0 C D F ⊢;clear r;have l:Hid (w.heap.size<=L.heap.size):=aJ c.size;go_wp2_with (at_builtin;refine aw (wr:=L) rfl _ _ 46 rfl _ 48 (.agg #[Q ⟨#[]⟩,Z Y 0,Z Y 0,Z Y 0]) 4 40 underlying46 xc rfl (by decide) (by decide) _ _ _ rfl n 1 1 [Q q.j.nm,Z Y q.x.ph,Z Y q.x.inc,Z Y q.x.JX] rfl rfl rfl rfl ?pn1 l ?_)
  case pn1=>omega
  intro v' w' b z hd;have y:Hid (IL w' w.heap.size 48 4 v' (k+1) (gD ((Oc.Jn s).take (k+1)))/\ID w w'):=aJ ⟨by rw[o.out];exact b,hd _ c (bM _)⟩
  clear b z hd n c o l A e;go_wp2;go_roundw
  case rel=>exact⟨k+1,by omega,by go_num,y.1,y.2⟩
  simp[intOf];omega
 obtain rfl:k=s.pl.length:=by omega
 have y:Hid (nQ w 48 4 s.pl.length (gD (Oc.Jn s)) (WB u3) wr):=aJ ⟨u3,rfl,by rw[List.take_of_length_le (by rw[e.out];exact bM _)] at b;exact b,hd⟩
 clear b hd A e;go_wp2;go_ret;exact y
theorem yT{b:Xn}(h:ID a b){t:Xr}(hc:a.heap[k]? =X (H cs t (0,0)))(i:Nat)(v:Xo):ID (a.setCell ⟨k,i,V⟩ v) (b.setCell ⟨k,i,V⟩ v):=by
 have ga:=ay a k i v
 have c:=ay b k i v
 have hs:(a.setCell ⟨k,i,V⟩ v).heap.size=a.heap.size:=by simp
 have d:(b.setCell ⟨k,i,V⟩ v).heap.size=b.heap.size:=by simp
 refine⟨c.os.trans (h.out.os.trans ga.os.symm),c.tape.trans (h.out.tape.trans ga.tape.symm),c.output.trans (h.out.output.trans ga.output.symm),by rw[hs,d];exact h.size,fun q f=>?_⟩
 rw[hs] at f
 by_cases e:q=k
 ·subst e;rw[aO a q i cs t v hc,aO b q i cs t v (h.block hc)]
 rw[aL a ⟨k,i,V⟩ q _ e,aL b ⟨k,i,V⟩ q _ e];exact h.out.block q f
section
variable {w0 w w' : Xn} {B : BP} {g pb pc : Nat} {oA : Option Xp} {oc : Nat} {mp dv av : Xo} {m : Nat -> Pm} {s : Oc.St}
theorem SG.low(h:SG w0 w B g pb pc oA oc mp dv av m s){t:Xr}(hc:w0.heap[k]? =X (H cs t (0,0)))(y:t=39\/t=46)(i:Nat)(v:Xo):
  SG (w0.setCell ⟨k,i,V⟩ v) (w.setCell ⟨k,i,V⟩ v) B g pb pc oA oc mp dv av m s:=by
 have hk:=aQ hc
 have c:=h.I5.block hc
 have a:=ay w k i v
 have hs:(w0.setCell ⟨k,i,V⟩ v).heap.size=w0.heap.size:=by simp
 have b:∀e:Xr,e≠39->e≠46->e≠t:=fun e h1 h2=>by rcases y with x|x<;>rw[x]<;>assumption
 have o:g≠k:=by have:=h.gB;omega
 have q:pb≠k:=by have:=h.pB;omega
 obtain⟨cur,l,u,n⟩:=h.pl;refine⟨yT h.I5 hc i v,by rw[hs];exact h.gB,by rw[hs];exact h.pB,(aL w ⟨k,i,V⟩ g _ o).trans h.st,⟨cur,(aL w ⟨k,i,V⟩ pb _ q).trans l,u,n⟩,h.pc,⟨h.rows.ord.I4 c a (b _ (by decide) (by decide)),fun f d=>(h.rows.jm f d).I4 c a (b _ (by decide) (by decide)) (b _ (by decide) (by decide)) (b _ (by decide) (by decide)),fun f d=>(h.rows.I0 f d).I4 c a (b _ (by decide) (by decide)),fun f d=>⟨(h.rows.IC f d).1,(h.rows.IC f d).2.I4 c a (b _ (by decide) (by decide))⟩,fun f d=>(h.rows.J8 f d).I4 c a (b _ (by decide) (by decide)),fun f d=>by rw[hs];exact(h.rows.Ku f d).I4 c a (b _ (by decide) (by decide)),by rw[hs];exact h.rows.JU.I4 c a (b _ (by decide) (by decide)),h.rows.ap⟩,h.IV.I4 c a (b _ (by decide) (by decide)),⟨by rw[hs];exact h.BB.1,bN h.BB.2 a.size⟩,h.JA,?_,fun r j=>⟨(h.Lm r j).1.I4 c a (b _ (by decide) (by decide)),(h.Lm r j).2⟩,fun r j=>(h.Mb r j).I4 c a (b _ (by decide) (by decide))⟩
 obtain⟨z,k2,hm,p⟩:=h.map;exact⟨z,k2,hm,p.I4 c a⟩
end
def nO(wE:Xn)(l:List Jd)(es:List Oc.Ev)(e:Ending)(w':Xn):Prop:=
 ∃A1 c1 A2 c2 a b,e=WB (WC #[U A1 (es.length+1) c1,U A2 (es.length+1) c2])/\ID wE w'/\Ts w' 39 A1 a/\Ts w' 46 A2 b/\
  (∀i,i<=es.length->∃A c,a[i]? =X (U A (Oc.run l (es.take i)).IV.length c)/\Ts w' 42 A (ft (Oc.run l (es.take i)).IV))/\
  (∀i,i<=es.length->∃A c,b[i]? =X (U A (Oc.Jn (Oc.run l (es.take i))).length c)/\Ts w' 48 A (gD (Oc.Jn (Oc.run l (es.take i)))))
structure O5(wE wr:Xn)(l:List Jd)(es:List Oc.Ev)(ga gs g k:Nat)(w0:Xn)(B:BP)(pb pc:Nat)(oA:Option Xp)(oc:Nat)(mp dv:Xo)(m:Nat->Pm):Prop where
 I5:ID wE w0
 gaB:wE.heap.size<=ga
 gsB:wE.heap.size<=gs
 sg:SG w0 wr B g pb pc oA oc mp dv (.slice none 0 0) m {Oc.run l (es.take k) with IV:=[]}
 ra:∃cur,w0.heap[ga]? =some (.cells cur 39 (0,0))/\cur.size=es.length+1/\∀i,i<=k->∃A c,cur[i]? =some (.slice A (Oc.run l (es.take i)).IV.length c)/\(A,ft (Oc.run l (es.take i)).IV)∈B.pa
 rs:∃cur,w0.heap[gs]? =some (.cells cur 46 (0,0))/\cur.size=es.length+1/\∀i,i<=k->∃A c,cur[i]? =some (.slice A (Oc.Jn (Oc.run l (es.take i))).length c)/\(A,gD (Oc.Jn (Oc.run l (es.take i))))∈B.ps
theorem yz{l:List Jd}{es:List Oc.Ev}{e:Oc.Ev}(h:es[k]? =X e):Oc.run l (es.take (k+1))=Oc.step (Oc.run l (es.take k)) e:=by grind [Oc.run,WU,Xd]
theorem O5.next{l:List Jd}{es:List Oc.Ev}{B:BP}{d:Xo}{I:Nat->Pm}(j:Nat)
  (m:ID wE w0) (h:wE.heap.size<=ga) (k:wE.heap.size<=gs) {A1:Option Xp} {c1:Nat} {A2:Option Xp} {c2:Nat} {b:BP} (t:∀r∈B.pa,r∈b.pa) (u:∀r∈B.ps,r∈b.ps) (h1:(A1,ft (Oc.run l (es.take j)).IV)∈b.pa) (h2:(A2,gD (Oc.Jn (Oc.run l (es.take j))))∈b.ps)
  (a:SG w0 wr b g pb pc oA oc mp d (U V 0 0) I {Oc.run l (es.take j) with IV:=[]}) (hj:j<=es.length)
  (ra:∃cur,w0.heap[ga]? =X (H cur 39 (0,0))/\cur.size=es.length+1/\∀i,i<j->∃A c,cur[i]? =X (U A (Oc.run l (es.take i)).IV.length c)/\(A,ft (Oc.run l (es.take i)).IV)∈B.pa)
  (rs:∃cur,w0.heap[gs]? =X (H cur 46 (0,0))/\cur.size=es.length+1/\∀i,i<j->∃A c,cur[i]? =X (U A (Oc.Jn (Oc.run l (es.take i))).length c)/\(A,gD (Oc.Jn (Oc.run l (es.take i))))∈B.ps):
  wr.cell? ⟨ga,j,V⟩≠V/\wr.frozen? ⟨ga,j,V⟩=O/\wr.cell? ⟨gs,j,V⟩≠V/\wr.frozen? ⟨gs,j,V⟩=O/\ga≠gs/\
  ∃C,O5 wE ((wr.setCell ⟨ga,j,V⟩ (U A1 (Oc.run l (es.take j)).IV.length c1)).setCell ⟨gs,j,V⟩ (U A2 (Oc.Jn (Oc.run l (es.take j))).length c2)) l es ga gs g j C b pb pc oA oc mp d I:=by
 obtain⟨_,ha,y,w⟩:=ra;obtain⟨cs,hs,z,x⟩:=rs;have hne:ga≠gs:=fun e=>by
  rw[e,hs] at ha;have h2:=bQ ha;injection h2 with D o F
  exact absurd o (by decide)
 have f:=a.I5.block ha
 have n:=a.I5.block hs
 refine⟨by rw[aK _ _ _ _ _ _ f,Xe (by omega)];simp,aN _ _ _ _ _ f,by rw[aK _ _ _ _ _ _ n,Xe (by omega)];simp,aN _ _ _ _ _ n,hne,(w0.setCell ⟨ga,j,V⟩ (U A1 (Oc.run l (es.take j)).IV.length c1)).setCell ⟨gs,j,V⟩ (U A2 (Oc.Jn (Oc.run l (es.take j))).length c2),?_⟩
 have D:=aO w0 ga j _ _ (U A1 (Oc.run l (es.take j)).IV.length c1) ha
 have o:=(aL w0 ⟨ga,j,V⟩ gs (U A1 (Oc.run l (es.take j)).IV.length c1) (fun e=>hne e.symm)).trans hs
 have F:=aO _ gs j _ _ (U A2 (Oc.Jn (Oc.run l (es.take j))).length c2) o
 have J:=(aL _ ⟨gs,j,V⟩ ga (U A2 (Oc.Jn (Oc.run l (es.take j))).length c2) hne).trans D
 refine⟨(m.setCell (p:=⟨ga,j,V⟩) h _).setCell (p:=⟨gs,j,V⟩) k _,h,k,(a.low ha (bX rfl) j _).low o (bY rfl) j _,⟨_,J,by simpa using y,fun i L=>?_⟩,⟨_,F,by simpa using z,fun i L=>?_⟩⟩
 ·by_cases e:i=j
  ·grind
  obtain⟨A,c,q,s⟩:=w i (by omega)
  exact⟨A,c,by rw[Xf (by omega)];exact q,t _ s⟩
 by_cases e:i=j
 ·subst e;exact⟨A2,c2,by rw[Array.getElem?_setIfInBounds_self,ps_ (by omega)],h2⟩
 obtain⟨A,c,q,s⟩:=x i (by omega)
 exact⟨A,c,by rw[Xf (by omega)];exact q,u _ s⟩
theorem O5.post{l:List Jd}{es:List Oc.Ev}{B:BP}{m:Nat->Pm}(h:O5 wE wr l es ga gs g es.length w0 B pb pc oA oc mp dv m)(c1 c2:Nat):
  nO wE l es (WB (WC #[U (X ⟨ga,0,V⟩) (es.length+1) c1,U (X ⟨gs,0,V⟩) (es.length+1) c2])) wr:=by
 obtain⟨n,ha,_,d⟩:=h.ra;obtain⟨cs,hs,_,e⟩:=h.rs;have a:=h.sg.I5.block ha;have f:=h.sg.I5.block hs;refine⟨_,c1,_,c2,n.toList,cs.toList,rfl,h.I5.up h.sg.I5,bY ⟨ga,0,_,_,rfl,a,fun j u k=>?_⟩,bY ⟨gs,0,_,_,rfl,f,fun j u k=>?_⟩,fun i b=>?_,fun i b=>?_⟩
 ·grind
 ·rw[WS];simpa using k
 ·obtain⟨A,c,h1,h2⟩:=d i b;exact⟨A,c,by simpa using h1,(h.sg.Lm _ h2).1⟩
 obtain⟨A,c,h1,h2⟩:=e i b;exact⟨A,c,by simpa using h1,(h.sg.Mb _ h2)⟩
theorem zL:(Xu.info? 39).map (fun i=>(i.zero,i.size,i.bytes))=X (X (U V 0 0),1,24):=by kernel_rfl
theorem zI:(Xu.info? 46).map (fun i=>(i.zero,i.size,i.bytes))=X (X (U V 0 0),1,24):=by kernel_rfl
def KK(xs:List E3)(k:Nat):Nat:=((xs.take k).map (fun x=>1+x.e.data.length)).sum
theorem DC{xs:List E3}{x:E3}(h:xs[k]? =X x):KK xs (k+1)=KK xs k+1+x.e.data.length:=by
 unfold KK;rw[WU,h,Xd,Xg,Xh];simp;omega
theorem Hb(xs:List E3):∀k,KK xs k<=KK xs xs.length:=by
 intro k;unfold KK;rw[W_];have e:xs=xs.take k++xs.drop k:=(List.take_append_drop k xs).symm
 conv=>rhs;rw[e,Xg,Xh]
 omega
structure PI(xs:List E3):Prop where
 ok:∀x∈xs,Oc.PM x.e/\(x.A=none\/0<x.e.data.length)
 JA:KK xs xs.length<=9000000
def Hj(wE:Xn)(l:List Jd)(xs:List E3)(ga gs g k:Nat)(wr:Xn):Prop:=
 ∃w0 B pb pc oA oc mp dv m,Hid (O5 wE wr l (xs.map E3.e) ga gs g k w0 B pb pc oA oc mp dv m)/\Hid (Oc.I (KK xs k) (Oc.run l ((xs.map E3.e).take k)))
theorem uA(A:Option Xp)(c:Nat)(l:List Jd)(A2:Option Xp)(c2:Nat)(xs:List E3)(w:Xn)(hl:JL w A l)(hj:∀j∈l,JT w j)(ad:LJ l)(a4:∀j∈l,Oc.OS j)(s:OT w A2 xs)(ah:PI xs):
  Xq Xu 6 #[U A l.length c,U A2 xs.length c2] w (nO w l (xs.map E3.e)):=by
 have hn:=ad.JA
 have bj:xs.length<=9000000:=by
  have h1:=ah.JA
  have h2:xs.length<=KK xs xs.length:=by
   unfold KK;rw[W_];clear h1 ah s
   induction xs with
   |nil=>simp
   |cons x xs ih=>simp;omega
  omega
 have ap:=aJ (fun W (ho:ID w W)=>qd A c l W (hl.up ho) ad)
 have HL:=aJ hl
 have HJ:=aJ hj
 have aL:=aJ ad
 have N:=aJ a4
 have aQ:=aJ s
 have ax:=aJ ah
 unfold bC at ap;go_enter func6,ntmps6;go_wp2_with (at_make;refine dN rfl _ _ 32 rfl 39 (U V 0 0) 1 24 underlying32 zL (by decide) Y Y _ _ (xs.length+1) rfl rfl ?pl1 ?pc1 ?pn1 ?_)
 case pl1=>omega
 case pc1=>omega
 case pn1=>omega
 intro w1 a8 aE;go_wp2_with (at_make;refine dN rfl _ _ 33 rfl 46 (U V 0 0) 1 24 underlying33 zI (by decide) Y Y _ _ (xs.length+1) rfl rfl ?pl2 ?pc2 ?pn2 ?_)
 case pl2=>omega
 case pc2=>omega
 case pn2=>omega
 intro w2 a9 aF;have d:=aJ (a8.up aF);have f:=aJ a9;have aq:=aJ (aE.up aF);have hsz:=aE.size;obtain⟨ga,a2⟩:∃ga,w.heap.size=ga:=⟨_,rfl⟩
 obtain⟨gs,a3⟩:∃gs,w1.heap.size=gs:=⟨_,rfl⟩
 rw[a2] at d ⊢;rw[a3] at f ⊢;go_wp2_with fail;refine(ap _ aq).mono ?_;rintro e w3 ⟨rfl,n⟩;have d:=aJ (d.up n);have f:=aJ (f.up n);have aN:=aJ (aq.up n);go_upto_region 8 with fail
 obtain⟨w4,an⟩:∃w4,w3.alloc (H #[Z Y 0,Z Y 0,Z Y 0] 29)=w4:=⟨_,rfl⟩
 have bd:w3.heap.size+1=w4.heap.size:=by rw[<-an];simp
 have aa:ID w3 w4:=by rw[<-an];exact(ID.refl w3).alloc _
 rw[an,bd];have J:=aJ (aN.up aa);have d:=aJ (d.up aa);have f:=aJ (f.up aa);have aC:=aJ (aM w4 (H #[U V 0 0,U V 0 0,WD V,Z E 0,U V 0 0,K O,K O,K O,U V 0 0,WD V,U V 0 0] 72));have L:=aJ ((ID.refl w4).alloc (H #[U V 0 0,U V 0 0,WD V,Z E 0,U V 0 0,K O,K O,K O,U V 0 0,WD V,U V 0 0] 72));generalize w4.alloc (H #[U V 0 0,U V 0 0,WD V,Z E 0,U V 0 0,K O,K O,K O,U V 0 0,WD V,U V 0 0] 72)=w5 at *;have av:=aJ (sL (c:=c) (HL.up (J.up L)) (fun j hj=>(HJ j hj).up (J.up L)) aL (fun j hj=>(N j hj).nm) L (bM _) aC)
 obtain⟨g,hg⟩:∃g,w4.heap.size=g:=⟨_,rfl⟩
 rw[hg] at av ⊢;go_wp2_with fail;refine(av).mono ?_;rintro e w6 ⟨rfl,pb,pc,oA,oc,mp,m,t⟩;have aY:=aJ t;have bh:=Oc.Nw (Oc.Jg l);have bi:(Oc.Jg l).pl.length=l.length:=by simp[Oc.Jg]
 have y:=aJ (oL aY (Oc.I.Jg N).Qo (by show 0+Oc.KD (Oc.Jg l)<=_;omega))
 go_wp2_with fail;refine(y).mono ?_;rintro e w7 ⟨rfl,m7,aD,t⟩;have P:Hid (SG w4 w7 ⟨w6.heap.size,[],[]⟩ g pb pc oA oc mp (U V 0 0) aD m7 (Oc.run l ((xs.map E3.e).take 0))):=aJ t;obtain⟨D,z,rfl,_,_,_⟩:=P.IV.shape;have S:=aJ (rj P);have p:=aJ (P.OG rfl);have o:=aJ (oK p);go_wp2_with fail;refine(S).mono ?_;rintro e wt ⟨rfl,rfl⟩;go_wp2_with fail;refine(o).mono ?_;rintro e ws ⟨_,rfl,ai,af⟩;obtain⟨F,T,rfl,am,_,_⟩:=ai.shape;have R:=aJ ((p.up af).Pp am);have ag:(xs.map E3.e).length=xs.length:=by simp
 have row:∀{e:Xr} {q:Nat} {W:Xn} {ys:List Xo},IL W q e 1 (U (X ⟨q,0,V⟩) (xs.length+1) (xs.length+1)) (xs.length+1) ys->∃cur,W.heap[q]? =X (H cur e (0,0))/\cur.size=(xs.map E3.e).length+1:=by
  intro e q W ys h;rcases h with⟨C,⟨e,_⟩|⟨q2,cap,cur,e,_,hh,_,_,hs,_⟩⟩
  ·cases e
  injection e with e1 e2 e3
  injection e1 with e1
  injection e1 with e1
  subst e1 e3;exact⟨cur,hh,by rw[hs,ag];omega⟩
 obtain⟨ca,ab,ak⟩:=row d;obtain⟨cs,ae,al⟩:=row f;obtain⟨n1,f1,n2,f2,hne,_,aj⟩:=O5.next (wE:=w) (es:=xs.map E3.e) (ga:=ga) (gs:=gs) (A1:=D) (c1:=z) (A2:=F) (c2:=T) (B:=⟨w6.heap.size,[],[]⟩) 0 J (by omega) (by omega) (fun r hr=>by simp at hr) (fun r hr=>by simp at hr) (WG.mpr (bY (WV.mpr rfl))) (WG.mpr (bY (WV.mpr rfl))) R (bO _) ⟨ca,ab,ak,fun i hi=>by omega⟩ ⟨cs,ae,al,fun i hi=>by omega⟩
 obtain⟨va,_⟩:=WW.mp n1;obtain⟨_,_⟩:=WW.mp n2;have aH:=hne.symm;have aT:Hid (Hj w l xs ga gs g 0 ((ws.setCell ⟨ga,0,V⟩ (U D (Oc.run l ((xs.map E3.e).take 0)).IV.length z)).setCell ⟨gs,0,V⟩ (U F (Oc.Jn (Oc.run l ((xs.map E3.e).take 0))).length T))):=aJ ⟨_,_,_,_,_,_,_,_,_,aJ aj,aJ (Oc.I.Jg N).calm⟩;go_upto_region 11 with fail
 have aU:Hid (Hj w l xs ga gs g 0 ((ws.setCell ⟨ga,0,V⟩ (U D (Oc.run l []).IV.length z)).setCell ⟨gs,0,V⟩ (U F (Oc.Jn {pl:=(Oc.run l []).pl,now:=(Oc.run l []).now,JU:=(Oc.run l []).JU,IV:=[]}).length T))):=aJ aT
 generalize (ws.setCell ⟨ga,0,V⟩ (U D (Oc.run l []).IV.length z)).setCell ⟨gs,0,V⟩ (U F (Oc.Jn {pl:=(Oc.run l []).pl,now:=(Oc.run l []).now,JU:=(Oc.run l []).JU,IV:=[]}).length T)=wz at *;go_wp2;go_loopw [49] (fun bf wr=>∃k:Nat,k<=xs.length/\bf=Z Y (k:Nat)/\Hid (Hj w l xs ga gs g k wr)) (fun x _=>xs.length-(intOf x).toNat)
 case atStart=>exact⟨0,bO _,rfl,aU⟩
 obtain⟨k,hk,rfl,ay⟩:=hrel
 by_cases a7:k<xs.length
 ·obtain⟨x,hx⟩:∃x,xs[k]? =X x:=⟨_,bE a7⟩
  have be:x∈xs:=WT hx
  obtain⟨w0,B,pb,pc,oA,oc,mp,dv,m,a,HI⟩:=ay;have s:=aQ.up (a.I5.up a.sg.I5);obtain⟨b,off,aZ,ac⟩:=s.cell hx;have bb:wr.rangeAt b (off+k*8) (cM x):=fun j v hv=>by
   have hj:j<8:=(WX.mp hv).1
   rw[WY];exact ac j v hj hv
  have aW:=aJ (s.rows x be)
  have k0:(0:Int)<=(k:Int):=by omega
  have k1:(k:Int)<(xs.length:Int):=by omega
  have HX:=aJ hx
  subst aZ;go_upto_region 14 with(first|(refine Xs rfl 65 _ rfl b (off+k*8) rfl (cM x) _ bb underlying65 rfl kW ?_)|(refine eU rfl 65 _ _ rfl _ rfl (cM x) rfl rfl kW rfl (Ff x) ?_;intro w3 n a1))
  simp only[Act.put];have aA:=aJ (a.sg.up n);have ag:(xs.map E3.e)[k]? =X x.e:=by rw[Xa,HX.out];rfl
  have a5:=DC HX
  have bg:=bN (Hb xs (k+1)) ax.JA
  have u:=ax.ok x (WT HX)
  have aw:Hid (Oc.I (KK xs k) {Oc.run l ((xs.map E3.e).take k) with IV:=[]}):=aJ ⟨HI.pl,HI.dr⟩
  have aO:Hid (PL x w3):=aJ ⟨u.1.IF,aW.up n,u.1.bytes,by omega,u.2,u.1.I6⟩
  have aR:=aJ (show Xq Xu 22 #[M (X ⟨g,0,V⟩),.agg (cM x).toArray] w3 _ from wG aA aw (by omega) x aO)
  have aI:=Ae a1
  obtain⟨kx,a6⟩:∃kx,wr.heap.size=kx:=⟨_,rfl⟩
  rw[a6] at aI ⊢;have z:=(aA.cell 6 (v:=K O) rfl).1;have aB:Hid (Oc.run l ((xs.map E3.e).take (k+1))=Oc.calm (Oc.handle {Oc.run l ((xs.map E3.e).take k) with IV:=[]} x.e)):=aJ (by rw[yz ag];rfl)
  have au:=aJ (aw.handle u.1)
  have ao:=aJ (Oc.M1 {Oc.run l ((xs.map E3.e).take k) with IV:=[]} x.e)
  have ar:Hid ((Oc.run l ((xs.map E3.e).take k)).pl.length<=32):=aJ a.sg.JA
  have aS:Hid (Oc.I (KK xs (k+1)) (Oc.run l ((xs.map E3.e).take (k+1)))):=aJ (by rw[aB.out,a5];exact au.calm)
  have az:=aJ (WH a.I5 (WH a.gaB (WH a.gsB (WH a.ra a.rs))))
  go_wp2_with (refine Xs rfl 65 _ rfl kx 0 rfl (cM x) _ aI underlying65 rfl kW ?_)
  refine aR.mono ?_;rintro e w5 ⟨rfl,_,_,_,aK⟩;have aX:=aJ aK;have aG:=Oc.Nw (Oc.handle {Oc.run l ((xs.map E3.e).take k) with IV:=[]} x.e)
  have a0:(Oc.handle {Oc.run l ((xs.map E3.e).take k) with IV:=[]} x.e).IV.length<=0:=by rw[ao.out.1];exact bM _
  have a':(Oc.handle {Oc.run l ((xs.map E3.e).take k) with IV:=[]} x.e).pl.length=(Oc.run l ((xs.map E3.e).take k)).pl.length:=ao.2
  have y:=aJ (oL aX au.Qo (bN (Nat.add_le_add a0 (bN aG (Nat.le_of_eq a'))) (by have:=ar.out;omega)))
  rw[<-aB.out] at y;go_wp2_with fail;refine(y).mono ?_;rintro e w7 ⟨rfl,m7,aD,t⟩;have P:=aJ t;obtain⟨D,z,rfl,_,_,_⟩:=P.IV.shape;have S:=aJ (rj P);have p:=aJ (P.OG rfl);have o:=aJ (oK p);go_wp2_with fail;refine(S).mono ?_;rintro e wt ⟨rfl,rfl⟩;go_wp2_with fail;refine(o).mono ?_;rintro e ws ⟨_,rfl,ai,af⟩;obtain⟨F,T,rfl,am,_,_⟩:=ai.shape;have R:=aJ ((p.up af).Pp am);have C:k+1<=(xs.map E3.e).length:=by rw[bL];omega
  obtain⟨o1,o2,o3,⟨ca,ab,ak,ba⟩,⟨cs,ae,al,bc⟩⟩:=az;obtain⟨n1,f1,n2,f2,hne,_,aj⟩:=O5.next (wE:=w) (es:=xs.map E3.e) (ga:=ga) (gs:=gs) (A1:=D) (c1:=z) (A2:=F) (c2:=T) (B:=B) (k+1) o1 o2 o3 (fun r hr=>WG.mpr (bX hr)) (fun r hr=>WG.mpr (bX hr)) (WG.mpr (bY (WV.mpr rfl))) (WG.mpr (bY (WV.mpr rfl))) R C ⟨ca,ab,ak,fun i hi=>ba i (by omega)⟩ ⟨cs,ae,al,fun i hi=>bc i (by omega)⟩
  obtain⟨va,_⟩:=WW.mp n1;obtain⟨_,_⟩:=WW.mp n2;have aH:=hne.symm;have aV:Hid (Hj w l xs ga gs g (k+1) ((ws.setCell ⟨ga,k+1,V⟩ (U D (Oc.run l ((xs.map E3.e).take (k+1))).IV.length z)).setCell ⟨gs,k+1,V⟩ (U F (Oc.Jn {pl:=(Oc.run l ((xs.map E3.e).take (k+1))).pl,now:=(Oc.run l ((xs.map E3.e).take (k+1))).now,JU:=(Oc.run l ((xs.map E3.e).take (k+1))).JU,IV:=[]}).length T))):=aJ ⟨_,_,_,_,_,_,_,_,_,aJ aj,aS⟩;generalize Oc.run l ((xs.map E3.e).take (k+1))=sr at *;go_wp2;go_roundw
  case rel=>exact⟨k+1,by omega,by go_num,aV⟩
  simp[intOf];omega
 obtain rfl:k=xs.length:=by omega
 obtain⟨w0,B,pb,pc,oA,oc,mp,dv,m,a,HI⟩:=ay;have HX:Hid (nO w l (xs.map E3.e) (WB (WC #[U (X ⟨ga,0,V⟩) (xs.length+1) (xs.length+1),U (X ⟨gs,0,V⟩) (xs.length+1) (xs.length+1)])) wr):=aJ (by
  have h:=a.out
  rw[show xs.length=(xs.map E3.e).length by simp] at h
  have h2:=h.post (xs.length+1) (xs.length+1)
  rw[bL] at h2;exact h2)
 go_wp2
 refine aP (v:=WC #[U (X ⟨ga,0,V⟩) (xs.length+1) (xs.length+1),U (X ⟨gs,0,V⟩) (xs.length+1) (xs.length+1)]) (by simp[results,results6,go_sem]) rfl ?_
 exact HX
structure BU(w0 w:Xn)(l:List Jd)(g mb:Nat)(q:Nat->Nat)(a:Nat->Am)(m:Nat):Prop where
 I5:ID w0 w
 gB:w0.heap.size<=g
 mB:w0.heap.size<=mb
 st:w.heap[g]? =some (.cells #[.map (some mb),.int .u64 0,.bool false,.bool false] 80 (0,0))
 map:Kz w mb m (fun nm=>(zE l m nm).map q)
 Ls:∀k,k<m->w0.heap.size<=q k/\w.heap[q k]? =some (.cells (gG (Au.I6 l k) (Gp.IC l k).length (a k) Au.r0).toArray 83 (0,0))
 inj:∀i k,i<m->k<m->q i=q k->i=k
 IC:∀k,k<m->Ts w 9 (a k).nA (ar (dC l k))
 on:∀k,k<m->(a k).oA=none/\(a k).oc=0
def Em(q:Nat->Nat)(k v:Nat):Nat->Nat:=fun i=>if i=k then v else q i
section
variable {w0 w w' : Xn} {l : List Jd} {g mb m : Nat} {q : Nat -> Nat} {a : Nat -> Am}
theorem BU.up(h:BU w0 w l g mb q a m)(b:ID w w'):BU w0 w' l g mb q a m:=
 ⟨h.I5.up b,h.gB,h.mB,b.block h.st,h.map.up b,fun k hk=>⟨(h.Ls k hk).1,b.block (h.Ls k hk).2⟩,h.inj,fun k hk=>(h.IC k hk).up b,h.on⟩
theorem BU.put(h:BU w0 w l g mb q a m)(hm:m<l.length)(T:l.length<=32)(B:Gp.ix l (Au.I6 l m).nm=X m)(hs:(Au.I6 l m).nm.size<=maxLen){qm:Nat}(F:w0.heap.size<=qm)(I:∀k,k<m->q k≠qm){nA:Option Xp}{nc:Nat}
  (R:w.heap[qm]? =X (H (gG (Au.I6 l m) (Gp.IC l m).length ⟨nA,nc,V,0⟩ Au.r0).toArray 83 (0,0))) (J:Ts w 9 nA (ar (dC l m))):
  ∃w',(Xi 78 (WD (X mb)) (Q (Au.I6 l m).nm) (M (X ⟨qm,0,V⟩))).run Xu w= .ok () w'/\BU w0 w' l g mb (Em q m qm) (mz a m ⟨nA,nc,V,0⟩) (m+1):=by
 obtain⟨w',r,y,L⟩:=h.map.put (by omega) hs qm
 have d:∀{k:Nat} {cs:Array Xo} {t:Xr} {z:Nat×Nat},w.heap[k]? =X (H cs t z)->w'.heap[k]? =X (H cs t z):=by
  intro k cs t z hk;refine(L.block k (aQ hk) (fun e=>?_)).trans hk
  injection e with e
  obtain⟨D,⟨es,_,p,_⟩,_⟩:=h.map;rw[<-e,hk] at p;exact absurd (bQ p) (by simp)
 have u:∀{e:Xr} {A:Option Xp} {xs:List Xo},Ts w e A xs->Ts w' e A xs:=by
  intro e A xs J;rcases J with h1|⟨b,off,cur,fz,N,P,hc⟩
  ·exact bX h1
  exact bY ⟨b,off,cur,fz,N,d P,hc⟩
 have c:∀k,k<m->Em q m qm k=q k:=fun k hk=>ng_ (by omega)
 have f:∀k,k<m->mz a m ⟨nA,nc,V,0⟩ k=a k:=fun k hk=>ng_ (by omega)
 have n:Em q m qm m=qm:=ps_ rfl
 have j:mz a m ⟨nA,nc,V,0⟩ m=⟨nA,nc,V,0⟩:=ps_ rfl
 refine⟨w',r,IU h.I5 L (fun b e=>by injection e with e;rw[<-e];exact h.mB),h.gB,h.mB,d h.st,y.same (fun s=>?_),fun k hk=>?_,fun i k x hk e=>?_,fun k hk=>?_,fun k hk=>?_⟩
 ·rw[rB (k:=m) B s]
  by_cases e:s=(l.getD m cE).nm
  ·have o:s=(Au.I6 l m).nm:=e
   rw[ps_ e,ps_ o]
   show X (Em q m qm m)=X qm
   rw[n]
  have o:¬s=(Au.I6 l m).nm:=e
  rw[ng_ e,ng_ o];cases x:zE l m s with
  |none=>rfl
  |some i=>
   have C:i<m:=by
    unfold zE at x;rw[Option.filter_eq_some_iff] at x;simpa using x.2
   show X (Em q m qm i)=X (q i)
   rw[c i C]
 ·by_cases e:k=m
  ·subst e;rw[n,j];exact⟨F,d R⟩
  rw[c k (by omega),f k (by omega)]
  exact⟨(h.Ls k (by omega)).1,d (h.Ls k (by omega)).2⟩
 ·by_cases S:i=m
  ·grind
  by_cases o:k=m
  ·rw[o,n,c i (by omega)] at e
   exact absurd e (I i (by omega))
  rw[c i (by omega),c k (by omega)] at e
  exact h.inj i k (by omega) (by omega) e
 ·by_cases e:k=m
  ·subst e;rw[j];exact u J
  rw[f k (by omega)]
  exact u (h.IC k (by omega))
 by_cases e:k=m
 ·subst e;rw[j];exact⟨rfl,rfl⟩
 rw[f k (by omega)]
 exact h.on k (by omega)
theorem ou(l:List Jd)(k:Nat):Au.get (Au.start l) k=Au.r0:=by grind [Au.get,Au.start]
theorem BU.au(h:BU w0 w l g mb q a l.length):AU w0 w l g mb l.length q a (Au.start l):=by
 refine⟨h.I5,h.gB,by simp[Au.start],h.st,h.map.same (fun s=>by rw[uM]),fun k hk=>?_,h.inj,h.IC,fun k hk=>?_,fun i k d hk hne b c=>?_⟩
 ·rw[ou];exact h.Ls k hk
 ·rw[ou,(h.on k hk).1,(h.on k hk).2];exact IL.Jk _ _ _ _
 rw[(h.on i d).1] at c;cases c
theorem BU.start{a:Xn}{l:List Jd}{mb:Nat}(h:ID w a)(c:w.heap.size<=g)(hm:w.heap.size<=mb)(b:a.heap[g]? =X (H #[WD (X mb),Z E 0,K O,K O] 80 (0,0)))(d:Kz a mb 0 (fun _=>V)):BU w a l g mb (fun _=>0) (fun _=>⟨V,0,V,0⟩) 0:=
 ⟨h,c,hm,b,d.same (fun s=>by rw[rA];rfl),fun k hk=>by omega,fun i k e hk=>by omega,fun k hk=>by omega,fun k hk=>by omega⟩
end
theorem nu{l:List Jd}:∀{s s':List Au.R} {a:Oc.Ac},Au.LG l s a=X s'->(∀k,Gp.ix l a.I6=X k->k<s.length)->ll s->ll s':=by
 intro s s' a h hk c;unfold Au.LG at h;cases f:Gp.ix l a.I6 with
 |none=>grind
 |some k=>
  rw[f] at h;simp only at h;split at h
  ·cases h
  rw[Xj] at h;obtain⟨g,h2,rfl⟩:=h;have j:ll g:=by
   have key:∀{ks:List Nat} {s s':List Au.R},Au.LU l s ks=X s'->ll s->ll s':=by
    intro ks
    induction ks with
    |nil=>intro s s' h c;cases h;exact c
    |cons k ks ih=>
     intro s s' h c;unfold Au.LU at h;split at h
     ·refine ih h (fun i=>?_)
      by_cases d:k<s.length
      ·by_cases e:i=k
       ·subst e;rw[fA _ d];exact c i
       rw[eZ _ e];exact c i
      rw[Xc (by omega)];exact c i
     cases h
   exact key h2 c
  intro i;have d:k<g.length:=by rw[Au.OB h2];exact hk k f
  by_cases e:i=k
  ·subst e;rw[fA _ d];exact⟨fun b m=>by simp at m,bO _⟩
  rw[eZ _ e];exact j i
section
variable {P : Program} {ops : Array Oper} {o : Oper} {a : Act} {K : Act -> Xn -> Prop} {Q : Exit -> Act -> Xn -> Prop} {E : Prop}
theorem kK(w:Xn)(I:o.guard=V)(s x:Operand)(t:Xr)
  (T:o.op= .call {callee:= .builtin .append,args:=#[s,x],argTypes:=#[t,t]})
  (base:Nat) (e:Xr) (z:Xo) (size bytes:Nat) (R:P.underlying t=X (.slice e))
  (hi:(P.info? e).map (fun i=>(i.zero,i.size,i.bytes))=X (X z,size,bytes)) (y:z.cells.size=size) (hsz:0<size) (F:bytes<=1024)
  (v:Xo) (n:Nat) (xs:List Xo) (hs:a.eval s=v) (hown:IL w base e size v n xs)
  (A:Option Xp) (m c:Nat) (d:List Xo) (hx:a.eval x=U A m c) (W:Rs w A d) (J:d.length=m*size) (h1:d.all WN=G)
  (hn:n+m<=68719476736) (k:base<=w.heap.size) (hm:A=V\/0<m)
  (h:∀v' w',IL w' base e size v' (n+m) (xs++d)->w.grownBy w' v.ownBlock->nM w v v'->K (a.put o.dst v') w'):
  if Region.wanted o (yielded ops a.tmps)=G then Oper.wp P o a w K Q else E:=by
 have hw:Region.wanted o (yielded ops a.tmps)=G:=by simp[Region.wanted,I]
 rw[ps_ hw];obtain⟨i,l,hz,g,p⟩:=info_parts hi;have aa:(n+m)*bytes<=68719476736*1024:=Nat.mul_le_mul hn F;cases A with
 |none=>
  obtain rfl:=W.LD;obtain rfl:m=0:=by
   rcases Nat.eq_zero_or_pos m with C|C
   ·exact C
   have:=Nat.mul_pos C hsz;simp at J;omega
  have r:=dP (P:=P) (w:=w) base t o.type e i size R l v n xs hown c
  unfold Oper.wp;simp[execOp,T,resolve,invoke,builtin,hs,hx,r,Result.andThen];exact h v w (by simpa using hown) (World.grownBy.refl _ _) (bX rfl)
 |some ad=>
  have L:0<m:=by grind
  have f:∀j u,d[j]? =X u->w.cell? (ad.add j)=X u:=by
   intro j u hu;rcases W with rfl|⟨b,off,D,hc⟩
   ·simp at hu
   injection D with D
   subst D;rw[Addr.add_lit];exact hc j u hu
  obtain⟨v',w',q,h2,h3,_⟩:=run_append_own (P:=P) w base t o.type e i z size bytes R l hz g p y hsz v n xs hown ad m c d J f (by simpa using h1)
   (by unfold maxLen;omega) (by omega) k
  have S:=fy (P:=P) (w:=w) base t o.type e i z size bytes R l hz g p y hsz v n xs hown ad m c d J f (by simpa using h1)
   (by unfold maxLen;omega) (by omega) L v' w' q
  have N:nM w v v':=by
   rcases S with B|B
   ·exact bX B
   exact bY ⟨_,B,bM _⟩
  unfold Oper.wp execOp;simp only[T,resolve,invoke,builtin,Sem.run_bind,Sem.run_pure,Result.andThen_ok,List.map_toArray,List.map_cons,List.map_nil,hs,hx,q];exact h v' w' h2 h3 N
end
section
variable {w0 w w' : Xn} {l : List Jd} {g mb mk : Nat} {q : Nat -> Nat} {a : Nat -> Am} {s : List Au.R}
theorem AU.Pj(h:AU w0 w l g mb mk q a s)(hk:k<l.length){A':Option Xp}{c':Nat}{t:List Nat}
  (W:IL w' w0.heap.size 5 1 (U A' ((Au.get s k).out.length+t.length) c') ((Au.get s k).out.length+t.length) (Jp (Au.get s k).out++Jp t)) (m:w.grownBy w' (WL (a k).oA (Au.get s k).out.length (a k).oc).ownBlock)
  (N:nM w (U (a k).oA (Au.get s k).out.length (a k).oc) (U A' ((Au.get s k).out.length+t.length) c')):
  w'.cell? ⟨q k,17,V⟩=X (U (a k).oA (Au.get s k).out.length (a k).oc)/\w'.frozen? ⟨q k,17,V⟩=O/\
  AU w0 (w'.setCell ⟨q k,17,V⟩ (U A' ((Au.get s k).out.length+t.length) c')) l g mb mk q (mz a k {a k with oA:=A',oc:=c'}) (s.set k ⟨(Au.get s k).st,(Au.get s k).out++t,(Au.get s k).JP⟩):=by
 have B:k<s.length:=by rw[h.len];exact hk
 have d:=eH (h.Ku k hk)
 rw[cP] at m d;obtain⟨L,C⟩:=h.Ls k hk;have Kr:∀{e:Xr} {A:Option Xp} {xs:List Xo},Ts w e A xs->5≠e->Ts w' e A xs:=by
  intro e A xs R J;rcases d with c|⟨b,n,c,_,i⟩
  ·rw[c] at m;exact R.up (ew m)
  rw[c] at m;exact R.I4 i m J.symm
 have hne:∀{b:Nat} {cs:Array Xo} {t:Xr} {z:Nat×Nat},w.heap[b]? =X (H cs t z)->5≠t->w'.heap[b]? =X (H cs t z):=by
  intro b cs t z o J;refine(m.block b (aQ o) ?_).trans o;rcases d with e|⟨b2,n,e,_,i⟩
  ·rw[e];simp
  rw[e];intro y;injection y with y
  subst y;rw[i] at o;have hk2:=bQ o;injection hk2 with D c y
  exact J c
 have T:ID w0 w':=IU h.I5 m (fun b e=>by
  rcases d with c|⟨q2,n,c,aa,i⟩
  ·rw[c] at e;cases e
  rw[c] at e;injection e with e;omega)
 have f:=hne C (by decide)
 have u:=ay w' (q k) 17 (U A' ((Au.get s k).out.length+t.length) c')
 have F:g≠q k:=fun e=>by
  have h1:=h.st
  rw[e,C] at h1;have h2:=bQ h1;injection h2 with D c y
  exact absurd c (by decide)
 have x:∀j,j<l.length->j≠k->∀b,oB A'=X b->oB (a j).oA≠X b:=by
  intro j hj I b h1 h2;rcases N with e|⟨r2,e,ab⟩
  ·rw[cP,cP,h1] at e;exact h.ap k j hk hj (fun e=>I e.symm) b e.symm h2
  rw[cP,h1] at e;injection e with e
  have:=bU (h.Ku j hj) b (by rw[cP];exact h2)
  omega
 have D:((Au.get s k).out++t).length=(Au.get s k).out.length+t.length:=bF
 refine⟨(aK w' (q k) 17 _ _ _ f).trans rfl,aN w' (q k) 17 _ _ f,⟨T.setCell (p:=⟨q k,17,V⟩) L _,h.gB,by rw[bK];exact h.len,(aL w' ⟨q k,17,V⟩ g _ F).trans (hne h.st (by decide)),?_,fun j hj=>⟨(h.Ls j hj).1,?_⟩,h.inj,fun j hj=>?_,fun j hj=>?_,fun P j2 h1 h2 r b o=>?_⟩⟩
 ·refine Kz.I4 ?_ f u;rcases d with c|⟨b,n,c,_,i⟩
  ·rw[c] at m;exact h.map.up (ew m)
  rw[c] at m;exact h.map.I4 i m
 ·by_cases e:j=k
  ·subst e;rw[aO w' (q j) 17 _ _ _ f,cU _ B];unfold mz;rw[ps_ rfl]
   show X (Obj.cells _ _ _)=_
   congr 2
   unfold gG;rw[D];rfl
  rw[aL w' ⟨q k,17,V⟩ (q j) _ (fun c=>e (h.inj j k hj hk c)),eR _ e]
  unfold mz;rw[ng_ e];exact hne (h.Ls j hj).2 (by decide)
 ·have:=(Kr (h.IC j hj) (by decide)).I4 f u (by decide)
  unfold mz;split
  ·next e=>subst e;exact this
  exact this
 ·by_cases e:j=k
  ·subst e;rw[cU _ B];unfold mz;rw[ps_ rfl];have c:Jp ((Au.get s j).out++t)=Jp (Au.get s j).out++Jp t:=by simp[Jp]
   show IL _ _ _ _ (U A' ((Au.get s j).out++t).length c') ((Au.get s j).out++t).length (Jp ((Au.get s j).out++t))
   rw[D,c];exact W.I4 f u (by decide)
  rw[eR _ e];unfold mz;rw[ng_ e];refine IL.I4 ?_ f u (by decide)
  refine bT (h.Ku j hj) m ?_;rw[cP];cases hv:oB (a j).oA with
  |none=>exact bX rfl
  |some b=>exact bY (fun c=>h.ap j k hj hk e b hv c.symm)
 unfold mz at o ⊢
 by_cases e:P=k
 ·subst e;rw[ps_ rfl] at o;rw[ng_ (fun c=>r c.symm)]
  exact x j2 h2 (fun c=>r c.symm) b o
 rw[ng_ e] at o;split
 ·intro S;exact x P h1 e b S o
 exact h.ap P j2 h1 h2 r b o
end
def Ij(w0 w9:Xn)(l:List Jd)(g mb mk:Nat)(q:Nat->Nat)(am:Nat->Am)(s:List Au.R)(k:Nat)(x:E3)(b7 b10:Bool)(v:Xo)(W:Xn):Prop:=
 match b7,b10 with
 |false,_=>ID w9 W
 |true,O=>∃A' c',v=U A' ((Au.get s k).out.length+x.e.data.length) c'/\W.cell? ⟨q k,17,V⟩=X (U (am k).oA (Au.get s k).out.length (am k).oc)/\W.frozen? ⟨q k,17,V⟩=O/\∃a',AU w0 (W.setCell ⟨q k,17,V⟩ (U A' ((Au.get s k).out.length+x.e.data.length) c')) l g mb mk q a' (s.set k ⟨(Au.get s k).st,(Au.get s k).out++x.e.data,(Au.get s k).JP⟩)
 |true,G=>∃a',AU w0 W l g mb mk q a' (s.set k ⟨(Au.get s k).st,(Au.get s k).out++x.e.data,(Au.get s k).JP⟩)
def vo(w9:Xn)(g ke mb x:Nat)(nm:ByteArray)(p1 p2 p4 p5 p6 p7 p8 p9 z A B C D F I J L N P R S T W aa ab ac ad ae af ag ah ai aj ak al am an ao ap aq ar au av aw ax ay az aA aB aC aD aE aF aG aH aI aJ aK aL aM aN aO aP aQ aR aS aT aU aV aW aX aY aZ a0 a1 a2 a3 a4 a5 a6 a7 a8 a9 a' ba bb bc bd be bf bg bh bi bj bk bl bm bn c d e f h i j k l m n o p q r s t u w:Xo)(b:Array Bool)(a:Act)(ww:Xn):Prop:=
 ∃(b0 b1 b2 b3 b4 b5 b6 b7 b8 b9 b10 b11:Bool) (y:Nat) (bo:Xo),b=#[b0,b1,b2,b3,b4,b5,b6,b7,b8,b9,b10,b11]/\
  a={tmps:=#[M (X ⟨g,0,V⟩),p1,p2,M (X ⟨ke,0,V⟩),cond b10 (M (X ⟨x,0,V⟩)) (p4),cond b11 (K G) (p5),p6,p7,p8,p9,z,A,B,C,D,F,I,J,L,N,P,R,S,T,W,cond b7 (WC #[M (X ⟨x,0,V⟩),K G]) (aa),cond b0 (M (X ⟨g,0,V⟩)) (ab),cond b1 (M (X ⟨g,0,V⟩)) (ac),cond b2 (M (X ⟨g,0,V⟩)) (ad),cond b3 (WD (X mb)) (ae),cond b4 (M (X ⟨ke,1,V⟩)) (af),cond b5 (Q nm) (ag),cond b6 (WC #[M (X ⟨x,0,V⟩),K G]) (ah),cond b8 (M (X ⟨x,0,V⟩)) (ai),cond b9 (K G) (aj),ak,al,am,an,ao,ap,aq,ar,au,av,aw,ax,ay,az,aA,aB,aC,aD,aE,aF,aG,aH,aI,aJ,aK,aL,aM,aN,aO,aP,aQ,aR,aS,aT,aU,aV,aW,aX,aY,aZ,a0,a1,a2,a3,a4,a5,a6,a7,a8,a9,a',ba,bb,bc,bd,be,bf,bg,bh,bi,bj,bk,bl,bm,bn,c,d,e,f,h,i,j,k,l,m,n,o,p,q,r,s,t,u,w],defers:=[]}/\ID w9 ww
def Bc(w0 w9:Xn)(l:List Jd)(g ke mb mk:Nat)(q:Nat->Nat)(am:Nat->Am)(s:List Au.R)(k:Nat)(x:E3)(p1 p2 p5 p6 p7 p8 p9 L N P S T W aa ab ac ad ae af ag ah ai aj ak al an ao ap aq ar au av aw ax ay az aA aB aC aD aE aF aG aH aI aJ aK aL aM aN aO aP aQ aR aS aT aU aV aW aX aY aZ a0 a1 a2 a3 a4 a5 a6 a7 a8 a9 a' ba bb bc bd be bf bg bh bi bj bk bl bm bn bo bp bq br bt bu bv bw bx bz f h i j m n o p r t u w y z B C D F I:Xo)(b:Array Bool)(a:Act)(ww:Xn):Prop:=
 ∃(b0 b1 b2 b3 b4 b5 b6 b7 b8 b9 b10:Bool) (J:Nat) (d:Xo),b=#[b0,b1,b2,b3,b4,b5,b6,b7,b8,b9,b10]/\
  a={tmps:=#[M (X ⟨g,0,V⟩),p1,p2,M (X ⟨ke,0,V⟩),M (X ⟨q k,0,V⟩),p5,p6,p7,p8,p9,L,N,P,S,T,W,aa,ab,ac,ad,ae,af,ag,ah,ai,aj,ak,al,an,ao,ap,aq,ar,au,av,aw,ax,ay,az,aA,aB,aC,aD,aE,aF,aG,aH,aI,aJ,aK,aL,aM,aN,aO,aP,aQ,aR,aS,aT,aU,aV,aW,aX,aY,aZ,a0,a1,a2,a3,a4,a5,a6,a7,a8,a9,a',ba,bb,bc,bd,be,bf,bg,bh,bi,bj,bk,bl,bm,bn,bo,bp,bq,br,bt,bu,cond b0 (M (X ⟨q k,0,V⟩)) (bv),cond b1 (M (X ⟨q k,0,V⟩)) (bw),cond b2 (M (X ⟨q k,0,V⟩)) (bx),cond b3 (M (X ⟨q k,17,V⟩)) (bz),cond b4 (U (am k).oA (Au.get s k).out.length (am k).oc) (f),cond b5 (M (X ⟨ke,4,V⟩)) (h),cond b6 (U x.A x.e.data.length x.c) (i),cond b7 (d) (j),cond b8 (M (X ⟨q k,0,V⟩)) (m),cond b9 (M (X ⟨q k,17,V⟩)) (n),o,p,r,t,u,w,y,z,B,C,D,F,I],defers:=[]}/\Ij w0 w9 l g mb mk q am s k x b7 b10 d ww
section
variable {w0 w w' : Xn} {l : List Jd} {g mb mk : Nat} {q : Nat -> Nat} {am : Nat -> Am} {s : List Au.R}
theorem AU.came(h:AU w0 w l g mb mk q am s)(hk:k<l.length):
  AU w0 ((((w.setCell ⟨q k,16,V⟩ (Z Y 2)).setCell ⟨q k,21,V⟩ (Z E 0)).setCell ⟨q k,19,V⟩ (Z Y 0)).setCell ⟨q k,20,V⟩ (Z E 0)) l g mb mk q am (s.set k ⟨2,(Au.get s k).out,(Au.get s k).JP⟩):=by
 have f:k<s.length:=by rw[h.len];exact hk
 have a:∀{s':List Au.R} {w':Xn},AU w0 w' l g mb mk q am s'->∀j,j<l.length->j≠k->∀b,oB (am k).oA=X b->oB (am j).oA≠X b:=fun n j hj hne b o=>n.ap k j hk hj (fun e=>hne e.symm) b o
 have h1:=h.MH hk 16 (Z Y 2) (x:=am k) (r:=⟨2,(Au.get s k).out,(Au.get s k).JP⟩) rfl rfl (h.Ku k hk) (a h)
 rw[il] at h1;have c:=cU (s:=s) (⟨2,(Au.get s k).out,(Au.get s k).JP⟩:Au.R) f;have m:=h1.Ku k hk;rw[c] at m;have h2:=h1.MH hk 21 (Z E 0) (x:=am k) (r:=⟨2,(Au.get s k).out,(Au.get s k).JP⟩) (by rw[c];rfl) rfl m (a h1)
 rw[il,WJ] at h2;have d:=h2.MH hk 19 (Z Y 0) (x:=am k) (r:=⟨2,(Au.get s k).out,(Au.get s k).JP⟩) (by rw[c];rfl) rfl (by have:=h2.Ku k hk;rwa [c] at this) (a h2)
 rw[il,WJ] at d;have i:=d.MH hk 20 (Z E 0) (x:=am k) (r:=⟨2,(Au.get s k).out,(Au.get s k).JP⟩) (by rw[c];rfl) rfl (by have:=d.Ku k hk;rwa [c] at this) (a d)
 rw[il,WJ] at i;exact i
theorem jX{w':Xn}{B:Nat}{e:Xr}{s n:Nat}{v:Xo}{xs:List Xo}(f:IL w B e s v n xs)(b:w.grownBy w' v.ownBlock){t:Xr}(a:w.heap[k]? =X (H cs t z))(hne:e≠t):w'.heap[k]? =X (H cs t z):=by
 rcases eH f with h|⟨q,cur,h,_,d⟩
 ·rw[h] at b;exact(ew b).block a
 rw[h] at b;refine(b.block k (aQ a) (fun c=>?_)).trans a
 injection c with c
 subst c;rw[a] at d;have h2:=bQ d;injection h2 with e1 e3 e4
 exact hne e3.symm
theorem Du(h:AU w0 w l g mb mk q am s)(x:E3)(r:Gp.ix l x.e.I6=X k)(k1:x.e.IF=1)(L:x.e.ok=G)(C:(Au.get s k).st=1)(hr:Rs w x.A (Jp x.e.data))(hm:x.A=V\/0<x.e.data.length)(N:(Au.get s k).out.length+x.e.data.length<=2000000)(hj:x.e.I6.size<=maxLen):
  Xq Xu 23 #[M (X ⟨g,0,V⟩),DO x] w fun e w'=>e=WB (WC #[])/\∃a',AU w0 w' l g mb mk q a' (Au.MC l s x.e):=by
 have ab:Hid (Au.MC l s x.e=s.set k ⟨2,(Au.get s k).out,(Au.get s k).JP⟩):=aJ (by unfold Au.MC;simp only[r];rw[ps_ k1,ps_ C])
 have T:=aJ L
 clear L;have HG:=aJ h;have o:Hid (k<l.length):=aJ (Gp.K4 r);have aa:=aJ hr;have ac:=aJ hm;have S:Hid ((Au.get s k).out.length+x.e.data.length<=68719476736):=aJ (by omega)
 have p:Hid (∀W,ID w W->(WI 78 (WD (X mb)) (Q x.e.I6) G).run Xu W= .ok (WC #[M (X ⟨q k,0,V⟩),.bool G]) W):=aJ (fun W J=>by
  obtain⟨v,h1,h2⟩:=(h.map.up J).look_ok (s:=x.e.I6) hj;have e:(fun nm=>(Gp.ix l nm).map q) x.e.I6=X (q k):=by show(Gp.ix l x.e.I6).map q=_;rw[r];rfl
  rw[h2 (q k) e,show((Gp.ix l x.e.I6).map q)=X (q k) from e] at h1
  exact h1)
 have u:=aJ k1
 have ad:=aJ C
 skip
 clear h hr hm N hj k1 C;unfold DO;go_enter func23,ntmps23;go_upto_region 1 with fail
 generalize B:w.alloc _=f;have y:Hid (ID w f):=aJ (by rw[<-B];exact(ID.refl w).alloc _)
 have n:Hid (f.heap[w.heap.size]? =X (H (#[Z Y x.e.IF,Q x.e.I6,.bool x.e.ok,Z Y x.e.code,U x.A x.e.data.length x.c,Z E x.e.at_,Z Y 0,Z Y 0]:Array Xo) 65 (0,0))):=aJ (by rw[<-B];exact aM _ _)
 clear B;obtain⟨P,F⟩:∃P,w.heap.size=P:=⟨_,rfl⟩
 rw[F] at n ⊢;clear F;have D:=aJ (HG.up y);have b0:=cr_ n 0 (Z Y x.e.IF);clear HG;have R:=aJ (fun W (J:ID f W)=>D.up J)
 replace p:=aJ (fun W (J:ID f W)=>p W (y.up J))
 have q4:(x.e.IF==4)=O:=by rw[u.out];rfl
 have ag:(x.e.IF==10)=O:=by rw[u.out];rfl
 have q1:(x.e.IF==1)=G:=by rw[u.out];rfl
 clear r aa ac S;go_upto_region 6 with fail
 refine ak [([],[]),([0],[]),([1],[]),([2,1,0],[6,10,11,7,8,9]),([],[]),([4],[6,10,11,7,8,9]),([3,5,2,4,1,0],[7,10,11,8,9]),([6],[]),([7],[]),([7],[]),([8,0,1,2,3,4,5,6,7],[]),([9,10],[])] (vo f g P mb (q k) x.e.I6 _ _ _ _ _ _ _ _ _ _ _ _ _ _ _ _ _ _ _ _ _ _ _ _ _ _ _ _ _ _ _ _ _ _ _ _ _ _ _ _ _ _ _ _ _ _ _ _ _ _ _ _ _ _ _ _ _ _ _ _ _ _ _ _ _ _ _ _ _ _ _ _ _ _ _ _ _ _ _ _ _ _ _ _ _ _ _ _ _ _ _ _ _ _ _ _ _ _ _ _ _ _ _ _ _ _ _ _ _ _ _ _ _ _ _ _ _) (⟨O,O,O,O,O,O,O,O,O,O,O,O,0,aR,rfl,rfl,(ID.refl f).drew⟩) ?_ ⟨?_,?_,?_,?_,?_,?_,?_,?_,?_,?_,?_,?_,trivial⟩
 ·rintro a f ⟨b0,b1,b2,b3,b4,_,b6,b7,b8,b9,b10,b11,b,d,N,rfl,m⟩;have I:=congrArg WE N;simp at I;obtain⟨rfl,rfl,rfl,rfl,rfl,rfl,rfl,rfl,rfl,rfl,rfl,rfl⟩:=I;clear N;have j:=aJ (R f m);have t:=aJ (m.block n);clear m R D n p y;obtain⟨ae,_⟩:=j.Kj o (i:=16) (v:=Z Y (Au.get s k).st) rfl;have b0:=cr_ t 0 (Z Y x.e.IF);have b2:=cr_ t 2 (.bool x.e.ok);have c1:=j.cell 1 (v:=Z E 0) rfl;obtain⟨_,_⟩:=j.Kj o (i:=21) (v:=Z E 0) rfl;obtain⟨_,_⟩:=j.Kj o (i:=19) (v:=Z Y 0) rfl;obtain⟨_,_⟩:=j.Kj o (i:=20) (v:=Z E 0) rfl;have HX:Hid (AU w0 ((((f.setCell ⟨q k,16,V⟩ (Z Y 2)).setCell ⟨q k,21,V⟩ (Z E 0)).setCell ⟨q k,19,V⟩ (Z Y 0)).setCell ⟨q k,20,V⟩ (Z E 0)) l g mb mk q am (s.set k ⟨2,(Au.get s k).out,(Au.get s k).JP⟩)):=aJ (j.came o);clear j t;rw[ad.out] at ae;rw[T.out] at b2;go_wp2
  (try simp only[Exit.inBlock,Exit.then]);refine aP (results_none rfl _ _ _) rfl ?_
  exact⟨rfl,am,by rw[ab.out];exact HX⟩
 rotate_left 3
 ·rintro _ _ f K ⟨b0,b1,b2,b3,b4,_,b6,b7,b8,b9,b10,b11,b,d,rfl,h2,m⟩ h z
  repeat obtain⟨rfl,h⟩:=h
  subst h2;have hc:=(R f m).cell 0 (v:=WD (X mb)) rfl;go_simp;apply z;iterate 12 apply bW
  exact⟨b,d,rfl,rfl,m⟩
 rotate_left 1
 ·rintro _ _ f K ⟨b0,b1,b2,b3,b4,_,b6,b7,b8,b9,b10,b11,b,d,rfl,h2,m⟩ h z
  repeat obtain⟨rfl,h⟩:=h
  subst h2;have hc:=(aK f P 1 _ _ _ (m.block n)).trans (rfl:_=X (WO x.e.I6));go_simp;apply z;iterate 12 apply bW
  exact⟨b,d,rfl,rfl,m⟩
 ·rintro _ _ f K ⟨b0,b1,b2,b3,b4,_,b6,b7,b8,b9,b10,b11,b,d,rfl,h2,m⟩ h z
  repeat obtain⟨rfl,h⟩:=h
  subst h2;have af:=p f m;go_simp;apply z;iterate 12 apply bW
  exact⟨b,d,rfl,rfl,m⟩
 all_goals
  rintro _ _ f K ⟨b0,b1,b2,b3,b4,_,b6,b7,b8,b9,b10,b11,b,d,rfl,h2,m⟩ h z
  repeat obtain⟨rfl,h⟩:=h
  subst h2;go_simp;apply z;iterate 12 apply bW
  exact⟨b,d,rfl,rfl,m⟩
theorem AM(h:AU w0 w l g mb mk q am s)(x:E3)(F:Gp.ix l x.e.I6=X k)(k1:x.e.IF=3)(I:(Au.get s k).st=2)(hr:Rs w x.A (Jp x.e.data))(hm:x.A=V\/0<x.e.data.length)(L:(Au.get s k).out.length+x.e.data.length<=2000000)(hj:x.e.I6.size<=maxLen):
  Xq Xu 23 #[M (X ⟨g,0,V⟩),DO x] w fun e w'=>e=WB (WC #[])/\∃a',AU w0 w' l g mb mk q a' (Au.MC l s x.e):=by
 have aj:Hid (Au.MC l s x.e=s.set k ⟨(Au.get s k).st,(Au.get s k).out++x.e.data,(Au.get s k).JP⟩):=aJ (by unfold Au.MC;simp only[F];rw[ng_ (by rw[k1];decide),ps_ I,I])
 have HG:=aJ h
 have B:Hid (k<l.length):=aJ (Gp.K4 F)
 have T:=aJ hr
 have al:=aJ hm
 have af:Hid ((Au.get s k).out.length+x.e.data.length<=68719476736):=aJ (by omega)
 have C:Hid (∀W,ID w W->(WI 78 (WD (X mb)) (Q x.e.I6) G).run Xu W= .ok (WC #[M (X ⟨q k,0,V⟩),.bool G]) W):=aJ (fun W m=>by
  obtain⟨v,h1,h2⟩:=(h.map.up m).look_ok (s:=x.e.I6) hj;have e:(fun nm=>(Gp.ix l nm).map q) x.e.I6=X (q k):=by show(Gp.ix l x.e.I6).map q=_;rw[F];rfl
  rw[h2 (q k) e,show((Gp.ix l x.e.I6).map q)=X (q k) from e] at h1
  exact h1)
 have u:=aJ k1
 have an:=aJ I
 skip
 clear h hr hm L hj k1 I;unfold DO;go_enter func23,ntmps23;go_upto_region 1 with fail
 generalize N:w.alloc _=d;have D:Hid (ID w d):=aJ (by rw[<-N];exact(ID.refl w).alloc _)
 have r:Hid (d.heap[w.heap.size]? =X (H (#[Z Y x.e.IF,Q x.e.I6,.bool x.e.ok,Z Y x.e.code,U x.A x.e.data.length x.c,Z E x.e.at_,Z Y 0,Z Y 0]:Array Xo) 65 (0,0))):=aJ (by rw[<-N];exact aM _ _)
 clear N;obtain⟨P,ab⟩:∃P,w.heap.size=P:=⟨_,rfl⟩
 rw[ab] at r ⊢;clear ab;have S:=aJ (HG.up D);have b0:=cr_ r 0 (Z Y x.e.IF);clear HG;have HC:=aJ (fun W (m:ID d W)=>S.up m)
 replace C:=aJ (fun W (m:ID d W)=>C W (D.up m))
 have q4:(x.e.IF==4)=O:=by rw[u.out];rfl
 have ax:(x.e.IF==10)=O:=by rw[u.out];rfl
 have q1:(x.e.IF==1)=O:=by rw[u.out];rfl
 have q2:(x.e.IF==2)=O:=by rw[u.out];rfl
 have q3:(x.e.IF==3)=G:=by rw[u.out];rfl
 clear F;go_upto_region 6 with fail
 refine ak [([],[]),([0],[]),([1],[]),([2,1,0],[6,10,11,7,8,9]),([],[]),([4],[6,10,11,7,8,9]),([3,5,2,4,1,0],[7,10,11,8,9]),([6],[]),([7],[]),([7],[]),([8,0,1,2,3,4,5,6,7],[]),([9,10],[])] (vo d g P mb (q k) x.e.I6 _ _ _ _ _ _ _ _ _ _ _ _ _ _ _ _ _ _ _ _ _ _ _ _ _ _ _ _ _ _ _ _ _ _ _ _ _ _ _ _ _ _ _ _ _ _ _ _ _ _ _ _ _ _ _ _ _ _ _ _ _ _ _ _ _ _ _ _ _ _ _ _ _ _ _ _ _ _ _ _ _ _ _ _ _ _ _ _ _ _ _ _ _ _ _ _ _ _ _ _ _ _ _ _ _ _ _ _ _ _ _ _ _ _ _ _ _) (⟨O,O,O,O,O,O,O,O,O,O,O,O,0,aR,rfl,rfl,(ID.refl d).drew⟩) ?_ ⟨?_,?_,?_,?_,?_,?_,?_,?_,?_,?_,?_,?_,trivial⟩
 ·rintro a d ⟨b0,b1,b2,b3,b4,_,b6,b7,b8,b9,b10,b11,b,o,L,rfl,f⟩;have z:=congrArg WE L;simp at z;obtain⟨rfl,rfl,rfl,rfl,rfl,rfl,rfl,rfl,rfl,rfl,rfl,rfl⟩:=z;clear L;have p:=aJ (HC d f);have J:=aJ (f.block r);have ai:=aJ (T.up (D.up f));clear f HC S r C D T;obtain⟨av,_⟩:=p.Kj B (i:=16) (v:=Z Y (Au.get s k).st) rfl;rw[an.out] at av;have b0:=cr_ J 0 (Z Y x.e.IF);have R:Hid (∀W,ID d W->W.cell? ⟨q k,17,V⟩=X (U (am k).oA (Au.get s k).out.length (am k).oc)/\W.cell? ⟨P,4,V⟩=X (U x.A x.e.data.length x.c)):=aJ (fun W m=>⟨m.cell (p.Kj B (i:=17) (v:=U (am k).oA (Au.get s k).out.length (am k).oc) rfl).1,m.cell ((aK d P 4 _ _ _ J).trans (rfl:_=X (WL x.A x.e.data.length x.c)))⟩)
  have ag:=aJ (fun W (m:ID d W)=>(p.Ku k B).up m)
  have ah:=aJ (fun W (m:ID d W)=>ai.up m)
  have ap:=aJ (fun W (m:ID d W) A' c' w' h1 h2 h3=>(p.up m).Pj (w':=w') (A':=A') (c':=c') (t:=x.e.data) B h1 h2 h3)
  have ao:Hid (∀W,ID d W->w0.heap.size<=W.heap.size):=aJ (fun W m=>bN p.I5.size m.size)
  have ac:(Jp x.e.data).all WN=G:=by simp[Jp,List.all_eq_true,WN]
  have au:(Jp x.e.data).length=x.e.data.length*1:=by simp[Jp]
  clear p J;go_upto_region 21 with fail
  refine ak [([],[]),([],[]),([1],[]),([2],[]),([3,2,1],[7,8,9,10]),([],[]),([5],[7,8,9,10]),([4,6,3,5,2,1],[8,9,10]),([0,1,2,3,4,5,6,7],[]),([8,0,1,2,3,4,5,6,7],[]),([9,7,0,1,2,3,4,5,6,8],[])] (Bc w0 d l g P mb mk q am s k x _ _ _ _ _ _ _ _ _ _ _ _ _ _ _ _ _ _ _ _ _ _ _ _ _ _ _ _ _ _ _ _ _ _ _ _ _ _ _ _ _ _ _ _ _ _ _ _ _ _ _ _ _ _ _ _ _ _ _ _ _ _ _ _ _ _ _ _ _ _ _ _ _ _ _ _ _ _ _ _ _ _ _ _ _ _ _ _ _ _ _ _ _ _ _ _ _ _ _ _ _ _ _ _ _ _ _ _ _ _ _ _ _ _ _ _) (⟨O,O,O,O,O,O,O,O,O,O,O,0,aR,rfl,rfl,(ID.refl d).drew⟩) ?_ ⟨?_,?_,?_,?_,?_,?_,?_,?_,?_,?_,?_,trivial⟩
  ·rintro a d ⟨b0,b1,b2,b3,b4,_,b6,b7,b8,b9,b10,b,j,L,rfl,f⟩;have z:=congrArg WE L;simp at z;obtain⟨rfl,rfl,rfl,rfl,rfl,rfl,rfl,rfl,rfl,rfl,rfl⟩:=z;clear L;obtain⟨a2,y⟩:=f;have ae:=aJ y;go_wp2;go_end0;exact⟨rfl,a2,by rw[aj.out];exact ae⟩
  rotate_left 4
  ·rintro _ _ d K ⟨b0,b1,b2,b3,b4,_,b6,b7,b8,b9,b10,b,j,rfl,h2,f⟩ h n
   repeat obtain⟨rfl,h⟩:=h
   subst h2;have hc:=(R d f).1;go_simp;apply n;iterate 11 apply bW
   exact⟨b,j,rfl,rfl,f⟩
  rotate_left 1
  ·rintro _ _ d K ⟨b0,b1,b2,b3,b4,_,b6,b7,b8,b9,b10,b,j,rfl,h2,f⟩ h n
   repeat obtain⟨rfl,h⟩:=h
   subst h2;have hc:=(R d f).2;go_simp;apply n;iterate 11 apply bW
   exact⟨b,j,rfl,rfl,f⟩
  ·rintro _ _ d K ⟨b0,b1,b2,b3,b4,_,b6,b7,b8,b9,b10,b,j,rfl,h2,f⟩ h n
   repeat obtain⟨rfl,h⟩:=h
   subst h2;have aq:=ag d f;have hP:=ah d f;refine kK _ (by rfl) _ _ 40 (by rfl) w0.heap.size 5 (Z .u8 0) 1 1 underlying40 nz rfl (by decide) (by decide) (U (am k).oA (Au.get s k).out.length (am k).oc) (Au.get s k).out.length (Jp (Au.get s k).out) (by rfl) aq x.A x.e.data.length x.c (Jp x.e.data) (by rfl) hP au ac af (ao _ f) al ?_
   intro v' w' m hg ar;obtain⟨A',c',rfl,_,_,_⟩:=m.shape;obtain⟨aa,ad,y⟩:=ap _ f A' c' w' m hg ar;exact n _ _ ⟨b0,G,G,G,G,G,G,G,O,O,O,b,U A' ((Au.get s k).out.length+x.e.data.length) c',rfl,rfl,A',c',rfl,aa,ad,_,y⟩
  rotate_left 2
  ·rintro _ _ d K ⟨b0,b1,b2,b3,b4,_,b6,b7,b8,b9,b10,b,j,rfl,h2,f⟩ h n
   repeat obtain⟨rfl,h⟩:=h
   subst h2;obtain⟨A2,c2,rfl,aa,ad,a2,y⟩:=f;go_simp;exact n _ _ ⟨G,G,G,G,G,G,G,G,G,G,G,b,U A2 ((Au.get s k).out.length+x.e.data.length) c2,rfl,rfl,a2,y⟩
  all_goals
   rintro _ _ d K ⟨b0,b1,b2,b3,b4,_,b6,b7,b8,b9,b10,b,j,rfl,h2,f⟩ h n
   repeat obtain⟨rfl,h⟩:=h
   subst h2;go_simp;apply n;iterate 11 apply bW
   exact⟨b,j,rfl,rfl,f⟩
 rotate_left 3
 ·rintro _ _ d K ⟨b0,b1,b2,b3,b4,_,b6,b7,b8,b9,b10,b11,b,o,rfl,h2,f⟩ h n
  repeat obtain⟨rfl,h⟩:=h
  subst h2;have hc:=(HC d f).cell 0 (v:=WD (X mb)) rfl;go_simp;apply n;iterate 12 apply bW
  exact⟨b,o,rfl,rfl,f⟩
 rotate_left 1
 ·rintro _ _ d K ⟨b0,b1,b2,b3,b4,_,b6,b7,b8,b9,b10,b11,b,o,rfl,h2,f⟩ h n
  repeat obtain⟨rfl,h⟩:=h
  subst h2;have hc:=(aK d P 1 _ _ _ (f.block r)).trans (rfl:_=X (WO x.e.I6));go_simp;apply n;iterate 12 apply bW
  exact⟨b,o,rfl,rfl,f⟩
 ·rintro _ _ d K ⟨b0,b1,b2,b3,b4,_,b6,b7,b8,b9,b10,b11,b,o,rfl,h2,f⟩ h n
  repeat obtain⟨rfl,h⟩:=h
  subst h2;have aw:=C d f;go_simp;apply n;iterate 12 apply bW
  exact⟨b,o,rfl,rfl,f⟩
 all_goals
  rintro _ _ d K ⟨b0,b1,b2,b3,b4,_,b6,b7,b8,b9,b10,b11,b,o,rfl,h2,f⟩ h n
  repeat obtain⟨rfl,h⟩:=h
  subst h2;go_simp;apply n;iterate 12 apply bW
  exact⟨b,o,rfl,rfl,f⟩
end
def Dy(w9:Xn)(g P mb c:Nat)(nm:ByteArray)(S T W p5 p6 p7 p8 p9 e f h i j k l m n o p q r s t u w x y z A B C D F I J L:Xo)(b:Array Bool)(a:Act)(ww:Xn):Prop:=
 ∃(b0 b1 b2 b3 b4 N b6 b7 b8 b9 b10 b11:Bool) (d:Nat) (R:Xo),b=#[b0,b1,b2,b3,b4,N,b6,b7,b8,b9,b10,b11]/\
  a={tmps:=#[M (X ⟨g,0,V⟩),S,T,M (X ⟨P,0,V⟩),W,cond b10 (M (X ⟨c,0,V⟩)) (p5),cond b11 (K G) (p6),p7,p8,p9,e,f,cond b7 (WC #[M (X ⟨c,0,V⟩),K G]) (h),cond b0 (M (X ⟨g,0,V⟩)) (i),cond b1 (M (X ⟨g,0,V⟩)) (j),cond b2 (M (X ⟨g,0,V⟩)) (k),cond b3 (WD (X mb)) (l),cond b4 (M (X ⟨P,1,V⟩)) (m),cond N (Q nm) (n),cond b6 (WC #[M (X ⟨c,0,V⟩),K G]) (o),cond b8 (M (X ⟨c,0,V⟩)) (p),cond b9 (K G) (q),r,s,t,u,w,x,y,z,A,B,C,D,F,I,J,L],defers:=[]}/\ID w9 ww
section
variable {w0 w w' : Xn} {l : List Jd} {g mb mk : Nat} {q : Nat -> Nat} {a : Nat -> Am} {s : List Au.R}
theorem vk(h:AU w0 w l g mb mk q a s)(hJ:PR l)(hO:Me s)(x:Oc.Ac)(D:x.IF=1)(j:Gp.ix l x.I6=X k)(hj:x.I6.size<=maxLen){sF:List Au.R}(c:Au.LG l s x=X sF):
  Xq Xu 24 #[M (X ⟨g,0,V⟩),.agg (cJ x).toArray] w fun e w'=>e=WB (Z Y 0)/\∃a',AU w0 w' l g mb mk q a' sF:=by
 obtain⟨nm,o⟩:∃nm,x.I6=nm:=⟨_,rfl⟩
 have t:(Au.get s k).st=0:=by
  unfold Au.LG at c;simp only[j] at c
  by_cases e:(Au.get s k).st=0
  ·exact e
  rw[ps_ e] at c;cases c
 obtain⟨L,hc,he⟩:∃L,Au.LU l s (Gp.IC l k)=X L/\sF=L.set k ⟨1,[],O⟩:=by
  unfold Au.LG at c;simp only[j] at c;rw[ng_ (by simp[t])] at c
  rw[Xj] at c;obtain⟨L,h2,rfl⟩:=c;exact⟨L,h2,rfl⟩
 have HG:=aJ h
 have S:Hid (k<l.length):=aJ (Gp.K4 j)
 have HJ:=aJ hJ
 have HO:=aJ hO
 have aa:=aJ t
 have HF:=aJ hc
 have T:=aJ he
 have m:Hid (∀W,ID w W->(WI 78 (WD (X mb)) (Q nm) G).run Xu W= .ok (WC #[M (X ⟨q k,0,V⟩),.bool G]) W):=aJ (fun W J=>by
  obtain⟨v,h1,h2⟩:=(h.map.up J).look_ok (s:=nm) (by rw[<-o];exact hj)
  have e:(fun nm=>(Gp.ix l nm).map q) nm=X (q k):=by show(Gp.ix l nm).map q=_;rw[<-o,j];rfl
  rw[h2 (q k) e,show((Gp.ix l nm).map q)=X (q k) from e] at h1
  exact h1)
 clear h hJ hO j hj c t hc he;unfold cJ;rw[D,o];clear D o;go_enter func24,ntmps24;go_upto_region 1 with fail
 generalize u:w.alloc _=f;have p:Hid (ID w f):=aJ (by rw[<-u];exact(ID.refl w).alloc _)
 have i:Hid (f.heap[w.heap.size]? =X (H (#[Z Y 1,Q nm,Z Y x.n,U V 0 0,Z Y 0,Z Y 0,Z Y 0,Z Y 0]:Array Xo) 42 (0,0))):=aJ (by rw[<-u];exact aM _ _)
 clear u;obtain⟨N,F⟩:∃N,w.heap.size=N:=⟨_,rfl⟩
 rw[F] at i ⊢;clear F;have z:=aJ (HG.up p);have b0:=cr_ i 0 (Z Y 1);clear HG;have P:=aJ (fun W (J:ID f W)=>z.up J)
 replace m:=aJ (fun W (J:ID f W)=>m W (p.up J))
 clear p;go_upto_region 3 with fail
 refine ak [([],[]),([0],[]),([1],[]),([2,1,0],[6,10,11,7,8,9]),([],[]),([4],[6,10,11,7,8,9]),([3,5,2,4,1,0],[7,10,11,8,9]),([6],[]),([7],[]),([7],[]),([8,0,1,2,3,4,5,6,7],[]),([9,10],[])] (Dy f g N mb (q k) nm _ _ _ _ _ _ _ _ _ _ _ _ _ _ _ _ _ _ _ _ _ _ _ _ _ _ _ _ _ _ _ _ _ _ _ _) (⟨O,O,O,O,O,O,O,O,O,O,O,O,0,aR,rfl,rfl,(ID.refl f).drew⟩) ?_ ⟨?_,?_,?_,?_,?_,?_,?_,?_,?_,?_,?_,?_,trivial⟩
 ·rintro a f ⟨b0,b1,b2,b3,b4,_,b6,b7,b8,b9,b10,b11,b,d,hl,rfl,c⟩;have I:=congrArg WE hl;simp at I;obtain⟨rfl,rfl,rfl,rfl,rfl,rfl,rfl,rfl,rfl,rfl,rfl,rfl⟩:=I;clear hl;have A:=aJ (P f c);have y:=aJ (c.block i);have b0:=cr_ y 0 (Z Y 1);have B:=aJ (Dt A HJ HO S aa HF);clear c P z i m A y;go_wp2_with fail;refine B.mono ?_;rintro e _ ⟨rfl,a',C⟩;have HX:=aJ C;clear C B;go_wp2;go_ret;exact⟨rfl,a',by rw[T.out];exact HX⟩
 rotate_left 3
 ·rintro _ _ f K ⟨b0,b1,b2,b3,b4,_,b6,b7,b8,b9,b10,b11,b,d,rfl,h2,c⟩ h r
  repeat obtain⟨rfl,h⟩:=h
  subst h2;have hc:=(P f c).cell 0 (v:=WD (X mb)) rfl;go_simp;apply r;iterate 12 apply bW
  exact⟨b,d,rfl,rfl,c⟩
 rotate_left 1
 ·rintro _ _ f K ⟨b0,b1,b2,b3,b4,_,b6,b7,b8,b9,b10,b11,b,d,rfl,h2,c⟩ h r
  repeat obtain⟨rfl,h⟩:=h
  subst h2;have hc:=(aK f N 1 _ _ _ (c.block i)).trans (rfl:_=X (WO nm));go_simp;apply r;iterate 12 apply bW
  exact⟨b,d,rfl,rfl,c⟩
 ·rintro _ _ f K ⟨b0,b1,b2,b3,b4,_,b6,b7,b8,b9,b10,b11,b,d,rfl,h2,c⟩ h r
  repeat obtain⟨rfl,h⟩:=h
  subst h2;have ab:=m f c;go_simp;apply r;iterate 12 apply bW
  exact⟨b,d,rfl,rfl,c⟩
 all_goals
  rintro _ _ f K ⟨b0,b1,b2,b3,b4,_,b6,b7,b8,b9,b10,b11,b,d,rfl,h2,c⟩ h r
  repeat obtain⟨rfl,h⟩:=h
  subst h2;go_simp;apply r;iterate 12 apply bW
  exact⟨b,d,rfl,rfl,c⟩
end
theorem xd:(Xu.info? 9).map (fun i=>(i.zero,i.size,i.bytes))=X (X (Q ⟨#[]⟩),1,16):=by kernel_rfl
theorem pH(n:Int)(w:Xn):(Instr.makeMap 78 (X (Z Y n))).run Xu w= .ok (WD (X w.heap.size)) (w.alloc (.map #[] 0)):=by kernel_rfl
theorem jS:(Xu.info? 42).map (·.size)=X 8:=by kernel_rfl
theorem AK(a:Oc.Ac):(cJ a).toArray.all (·.oneCell')=G:=by simp[cJ,WN]
theorem AJ{a:Oc.Ac}(h:w.heap[k]? =X (H (cJ a).toArray 42 z)):w.rangeAt k 0 (cJ a):=fun j v hv=>by
 rw[WS];exact(aK w k j _ _ _ h).trans (by rw[WZ];exact hv)
theorem fg(a:Oc.Ac):(cJ a).length=8:=rfl
def Hi(l:List Jd)(es:List Oc.Ev)(a:List (List Oc.Ac))(i:Nat)(s:List Au.R):Prop:=
 (i=0->s=Au.start l/\xK l es a)/\(0<i->nR l s (es.drop (i-1)) (a.drop i))
def FW(w0 w:Xn)(l:List Jd)(g mb:Nat)(q:Nat->Nat)(es:List Oc.Ev)(a:List (List Oc.Ac))(i j:Nat):Prop:=
 ∃am s s',AU w0 w l g mb l.length q am s/\ll s/\nJ l ((a.getD i []).drop j)/\Au.KJ l s ((a.getD i []).drop j)=X s'/\nR l s' (es.drop i) (a.drop (i+1))
def Im(w9:Xn)(B:Nat)(l:List Jd)(k qm i:Nat)(nA:Option Xp)(nc:Nat)(nm:ByteArray)(b10 b11 b14:Bool)(b c:Xo)(W:Xn):Prop:=
 (b11=O->b14=O->ID w9 W)/\(b10=G->b11=O->∃kb,b=U (X ⟨kb,0,V⟩) 1 1/\W.heap[kb]? =X (H #[Q nm] 9 (0,0)))/\
 (b11=G->b14=O->∃A' c' W0,c=U A' (i+1) c'/\ID w9 W0/\IL W B 9 1 (U A' (i+1) c') (i+1) (ar ((dC l k).take i)++[Q nm])/\W0.grownBy W (WL nA i nc).ownBlock)/\
 (b14=G->∃A' c' W0 a,ID w9 W0/\IL a B 9 1 (U A' (i+1) c') (i+1) (ar ((dC l k).take i)++[Q nm])/\W0.grownBy a (WL nA i nc).ownBlock/\W=a.setCell ⟨qm,15,V⟩ (U A' (i+1) c'))
def Il(w9:Xn)(P:Xn->Prop)(b7:Bool)(W:Xn):Prop:=(b7=O->ID w9 W)/\(b7=G->P W)
def Bf(w9:Xn)(B:Nat)(l:List Jd)(b off c k qm n i:Nat)(nA:Option Xp)(nc:Nat)(nm:ByteArray)(p1 p2 p3 p4 p5 p6 p7 p8 p9 y z A C D F I J L N P R S T W aa ab ac ad ae af ag ah ai aj ak al am an ao ap aq ar au av aw ax ay az aA aB aC aD aE aF aG aH aI aJ aK aL aM aN aO aP aQ aR aS aT aU aV aW aX aY aZ a0 a1 a2 a3 a4 a5 a6 a7 a8 a9 a' ba bb bc bd be bf bg bh bi bj bk bl f g h j m o p q r s t:Xo)(d:Array Bool)(a:Act)(ww:Xn):Prop:=
 ∃(b0 b1 b2 b3 b4 b5 b6 b7 b8 b9 b10 b11 b12 e b14:Bool) (x:Nat) (u w:Xo),d=#[b0,b1,b2,b3,b4,b5,b6,b7,b8,b9,b10,b11,b12,e,b14]/\
  a={tmps:=#[U (X ⟨b,off,V⟩) l.length c,p1,p2,p3,p4,p5,p6,p7,p8,p9,y,M (X ⟨qm,0,V⟩),z,Z Y (n:Int),A,C,D,F,I,J,L,N,P,R,S,T,W,aa,ab,ac,ad,ae,af,ag,ah,ai,aj,ak,al,am,an,ao,ap,aq,ar,au,av,aw,ax,ay,az,aA,aB,aC,aD,cond b0 (M (X ⟨qm,0,V⟩)) (aE),cond b1 (M (X ⟨qm,0,V⟩)) (aF),cond b2 (M (X ⟨qm,0,V⟩)) (aG),cond b3 (M (X ⟨qm,15,V⟩)) (aH),cond b4 (U nA i nc) (aI),cond b5 (U (X ⟨b,off,V⟩) l.length c) (aJ),cond b6 (Z Y (n:Int)) (aK),cond b7 (M (X ⟨b,off+n*15,V⟩)) (aL),cond b8 (M (X ⟨b,off+n*15,V⟩)) (aM),cond b9 (Q nm) (aN),cond b10 (u) (aO),cond b11 (w) (aP),cond b12 (M (X ⟨qm,0,V⟩)) (aQ),cond e (M (X ⟨qm,15,V⟩)) (aR),aS,aT,aU,aV,aW,aX,aY,aZ,a0,a1,a2,a3,a4,a5,a6,a7,a8,a9,a',ba,bb,bc,bd,be,bf,bg,bh,bi,bj,bk,bl,f,g,h,j,m,o,p,q,r,s,t],defers:=[]}/\Im w9 B l k qm i nA nc nm b10 b11 b14 u w ww
def Be(w9:Xn)(P:Xn->Prop)(g kj qm mb:Nat)(nm:ByteArray)(p0 p1 p2 p3 p4 p5 p6 p7 p9 p q r s t u w x y z A B C D F I J L N R S T W aa ab ac ad ae af ag ah ai aj ak al am an ao ap aq ar au av aw ax ay az aA aB aC aD aE aF aG aH aI aJ aK aL aM aN aO aP aQ aR aS aT aU aV aW aX aY aZ a0 a1 a2 a3 a4 a5 a6 a7 a8 a9 a' ba bb bc bd c d e f h i j k l m n:Xo)(b:Array Bool)(a:Act)(ww:Xn):Prop:=
 ∃(b0 b1 b2 b3 b4 b5 b6 b7:Bool) (o:Nat) (be:Xo),b=#[b0,b1,b2,b3,b4,b5,b6,b7]/\
  a={tmps:=#[p0,p1,p2,p3,p4,p5,p6,p7,M (X ⟨g,0,V⟩),p9,M (X ⟨kj,0,V⟩),M (X ⟨qm,0,V⟩),p,q,r,s,t,u,w,x,y,z,A,B,C,D,F,I,J,L,N,R,S,T,W,aa,ab,ac,ad,ae,af,ag,ah,ai,aj,ak,al,am,an,ao,ap,aq,ar,au,av,aw,ax,ay,az,aA,aB,aC,aD,aE,aF,aG,aH,aI,aJ,aK,cond b0 (M (X ⟨g,0,V⟩)) (aL),cond b1 (M (X ⟨g,0,V⟩)) (aM),cond b2 (M (X ⟨g,0,V⟩)) (aN),cond b3 (WD (X mb)) (aO),cond b4 (M (X ⟨kj,0,V⟩)) (aP),cond b5 (Q nm) (aQ),cond b6 (M (X ⟨qm,0,V⟩)) (aR),aS,aT,aU,aV,aW,aX,aY,aZ,a0,a1,a2,a3,a4,a5,a6,a7,a8,a9,a',ba,bb,bc,bd,c,d,e,f,h,i,j,k,l,m,n],defers:=[]}/\Il w9 P b7 ww
structure BR(w0 wm w:Xn)(l:List Jd)(g mb:Nat)(q:Nat->Nat)(am:Nat->Am)(m qm i:Nat)(v:Xo):Prop where
 bu:BU w0 wm l g mb q am m
 I5:ID wm w
 qB:wm.heap.size<=qm
 row:w.heap[qm]? =some (.cells (ag (Au.I6 l m)++[v,.int .i64 0,.slice none 0 0,.bool false,.int .i64 0,.int .u64 0,.int .u64 0,.bool false,.int .i64 0,.int .u64 0]).toArray 83 (0,0))
 own:IL w wm.heap.size 9 1 v i (ar ((dC l m).take i))
theorem vl(A:Option Xp)(c:Nat)(l:List Jd)(A2:Option Xp)(c2:Nat)(xs:List E3)(A3:Option Xp)(c3:Nat)(o:List (List Oc.Ac))(cells:List Xo)(w:Xn)
  (hl:JL w A l) (bj:LJ l) (hJ:PR l) (aq:OT w A2 xs) (cT:∀x∈xs,(x.A=V\/0<x.e.data.length)/\x.e.data.length<=1000000) (ae:Rs w A3 cells) (cL:cells.length=o.length)
  (aa:∀i,i<o.length->∃Ai ci,cells[i]? =X (U Ai (o.getD i []).length ci)/\Rs w Ai (ft (o.getD i []))) (ch:o.length=xs.length+1) (hx:xs.length<=1000000) (cH:∀i,(o.getD i []).length<=1000000) (hf:xK l (xs.map E3.e) o):
  Xq Xu 7 #[U A l.length c,U A2 xs.length c2,U A3 (xs.length+1) c3] w (RO_ (.agg #[Z Y 0,Z Y 0]) w):=by
 have hn:=bj.JA
 have bw:=aJ (fun W (r:ID w W)=>qd A c l W (hl.up r) bj)
 have cz:=aJ (fun W i (r:ID w W) (hi:i<l.length)=>mJ A c l i W (hl.up r) hi (bj.each i hi).JA)
 have HL:=aJ hl
 have cw:=aJ aq
 have cF:=aJ cT
 have ad:=aJ hJ
 have cq:=aJ ae
 have ct:=aJ cL
 have bJ:=aJ aa
 have bG:=aJ ch
 have cp:=aJ cH
 have bA:=aJ hf
 have cB:=aJ (aM w (H #[Z Y 0,Z Y 0] 37))
 have bx:=aJ ((ID.refl w).alloc (H #[Z Y 0,Z Y 0] 37))
 have wl:Xk.wrap ((xs.length:Int)+1)=(xs.length:Int)+1:=bV _ (by omega)
 have c6:=fun W=>pH (l.length:Int) W
 unfold bC at bw;go_enter func7,ntmps7;go_upto_region 1 with fail
 generalize w.alloc (H #[Z Y 0,Z Y 0] 37)=w0 at *;go_wp2_with fail;refine(bw _ bx).mono ?_;rintro e F ⟨rfl,bZ⟩;have cC:=aJ (bZ.block cB);have cv:=aJ (bx.up bZ);go_upto_region 6 with fail
 generalize cV:F.alloc _=w2;have bP:ID F w2:=by rw[<-cV];exact(ID.refl F).alloc _
 have ba:=aJ (bP.block cC)
 have ao:=aJ (cv.up bP)
 go_upto_region 7 with fail
 have bt:Hid (BU w2 ((w2.alloc (.map #[] 0)).alloc (H #[WD (X w2.heap.size),Z E 0,.bool O,.bool O] 80)) l (w2.heap.size+1) w2.heap.size (fun _=>0) (fun _=>⟨V,0,V,0⟩) 0):=aJ (BU.start (((ID.refl w2).alloc _).alloc _) (Nat.le_succ _) (bM _) (by
  have:=aM (w2.alloc (.map #[] 0)) (H #[WD (X w2.heap.size),Z E 0,.bool O,.bool O] 80)
  rw[show(w2.alloc (.map #[] 0)).heap.size=w2.heap.size+1 by simp] at this
  exact this) ((Kz.made w2).up ((ID.refl _).alloc _)))
 generalize (w2.alloc (.map #[] 0)).alloc (H #[WD (X w2.heap.size),Z E 0,.bool O,.bool O] 80)=w3 at *;obtain⟨g,hg⟩:∃g,w2.heap.size+1=g:=⟨_,rfl⟩
 obtain⟨mb,cj⟩:∃mb,w2.heap.size=mb:=⟨_,rfl⟩
 rw[hg,cj] at bt;rw[hg,cj];have cW:w.heap.size<w2.heap.size:=aQ ba;obtain⟨kf,cd⟩:∃kf,w.heap.size=kf:=⟨_,rfl⟩
 have cx:=aJ (WH cd cW)
 rw[cd] at ba ⊢;go_wp2;go_loopw [39] (fun cX wr=>∃k q am,k<=l.length/\cX=Z Y (k:Nat)/\Hid (BU w2 wr l g mb q am k)) (fun x _=>l.length-(intOf x).toNat)
 case atStart=>exact⟨0,_,_,bO _,rfl,bt⟩
 obtain⟨k,q,am,hk,rfl,HM⟩:=hrel
 by_cases aG:k<l.length
 ·have a7:=aJ aG
  obtain⟨b,off,rfl,_,aa⟩:=(HL.up (ao.up HM.I5)).row (by omega)
  have cP:=aa k aG
  have k0:(0:Int)<=(k:Int):=by omega
  have k1:(k:Int)<(l.length:Int):=by omega
  have k2:(l.length:Int)<=32:=by omega
  have aI:wr.rangeAt b (off+k*15) (ag (l.getD k cE)):=by
   obtain⟨c0,c1,c2,c3,c4,_,_,_,_,_,_,_,_,_,_⟩:=cP;intro j v hv;rcases j with _|_|_|_|_|_|_|_|_|_|_|_|_|_|_|j<;>first|(injection hv with hv;subst hv;assumption)|(simp[ag] at hv)
  obtain⟨j,ca⟩:∃j,l.getD k cE=j:=⟨_,rfl⟩
  have bF:Hid (Au.I6 l k=j):=aJ ca
  rw[ca] at aI;go_upto_region 10 with(first|(refine Xs rfl 63 _ rfl b (off+k*15) rfl (ag j) _ aI underlying63 rfl dZ ?_)|(refine eU rfl 63 _ _ rfl _ rfl (ag j) rfl rfl dZ rfl (sU j) ?_;intro w4 cN cI))
  simp only[Act.put];have aT:=aJ (HM.up cN);have a3:=aJ cI;obtain⟨kj,cR⟩:∃kj,wr.heap.size=kj:=⟨_,rfl⟩
  rw[cR] at a3 ⊢;have ah:w4.rangeAt kj 0 [Q j.nm,Q j.run,U j.eA j.IJ.length j.ec,U j.nA j.IC.length j.nc,.bool j.IQ,Q j.ready,Z Y j.IE,Z E j.base,Z E j.cap,Z E j.IG,Z Y j.II,Z E j.win,U j.lA j.IK.length j.lc,Z Y j.IM,Z Y j.Jb]:=sW a3;go_upto_region 11 with(refine Xs rfl 63 _ rfl kj 0 rfl _ _ ah underlying63 rfl dZ ?_)
  have bI:=aJ (aM w4 (H #[Q j.nm,Q j.run,U j.eA j.IJ.length j.ec,U j.nA j.IC.length j.nc,.bool j.IQ,Q j.ready,Z Y j.IE,Z E j.base,Z E j.cap,Z E j.IG,Z Y j.II,Z E j.win,U j.lA j.IK.length j.lc,Z Y j.IM,Z Y j.Jb,U V 0 0,Z Y 0,U V 0 0,.bool O,Z Y 0,Z E 0,Z E 0,.bool O,Z Y 0,Z E 0] 83))
  have a9:=aJ ((ID.refl w4).alloc (H #[Q j.nm,Q j.run,U j.eA j.IJ.length j.ec,U j.nA j.IC.length j.nc,.bool j.IQ,Q j.ready,Z Y j.IE,Z E j.base,Z E j.cap,Z E j.IG,Z Y j.II,Z E j.win,U j.lA j.IK.length j.lc,Z Y j.IM,Z Y j.Jb,U V 0 0,Z Y 0,U V 0 0,.bool O,Z Y 0,Z E 0,Z E 0,.bool O,Z Y 0,Z E 0] 83))
  generalize w4.alloc (H #[Q j.nm,Q j.run,U j.eA j.IJ.length j.ec,U j.nA j.IC.length j.nc,.bool j.IQ,Q j.ready,Z Y j.IE,Z E j.base,Z E j.cap,Z E j.IG,Z Y j.II,Z E j.win,U j.lA j.IK.length j.lc,Z Y j.IM,Z Y j.Jb,U V 0 0,Z Y 0,U V 0 0,.bool O,Z Y 0,Z E 0,Z E 0,.bool O,Z Y 0,Z E 0] 83)=w5 at *;obtain⟨qm,cS⟩:∃qm,w4.heap.size=qm:=⟨_,rfl⟩
  rw[cS] at bI ⊢;have aw:Hid (BR w2 w4 w5 l g mb q am k qm 0 (U V 0 0)):=aJ ⟨aT,a9,by omega,by rw[bF.out];exact bI,IL.Jk _ _ _ _⟩
  go_wp2_with fail;refine(cz w5 k (ao.up (aT.I5.up a9)) aG).mono ?_;rintro e w6 ⟨v,rfl,hown,bk⟩;obtain⟨oA,oc,rfl,cU,_,_⟩:=hown.shape;have aj:Hid (BR w2 w4 w6 l g mb q am k qm 0 (U V 0 0)/\Ts w6 3 oA (aW (aH (Gp.IC l k)))):=aJ ⟨⟨aT,a9.up bk,aw.qB,bk.block aw.row,aw.own.up bk⟩,cU⟩;have c7:(Gp.IC l k).length<=32:=bN (Gp.K3 l k) hn;go_wp2;go_loopw [51] (fun cY wr=>∃i v,i<=(Gp.IC l k).length/\cY=Z Y (i:Nat)/\Hid (BR w2 w4 wr l g mb q am k qm i v/\Ts wr 3 oA (aW (aH (Gp.IC l k))))) (fun x _=>(Gp.IC l k).length-(intOf x).toNat)
  case atStart=>exact⟨0,_,bO _,rfl,aj⟩
  obtain⟨i,v,hi,rfl,t⟩:=hrel
  by_cases an:i<(Gp.IC l k).length
  ·obtain⟨n,bq⟩:∃n,(Gp.IC l k).getD i 0=n:=⟨_,rfl⟩
   have ck:n<l.length:=by rw[<-bq];exact Gp.Lv l k i an
   obtain⟨bo,oo,rfl,_,cK⟩:=t.out.2.rs.at_ (by simp[aW,aH];omega)
   have d0:=cK i _ (fR (Gp.IC l k) i an)
   rw[bq] at d0;obtain⟨nA,nc,rfl,_,_,_⟩:=t.1.own.shape;obtain⟨nm,av⟩:∃nm,(Au.I6 l n).nm=nm:=⟨_,rfl⟩
   have a4:Hid (∀W,ID wr W->W.cell? ⟨b,off+n*15,V⟩=X (Q nm)):=aJ (fun W r=>by
    obtain⟨_,_,bg,_,aa⟩:=(HL.up (ao.up ((aT.I5.up t.1.I5).up r))).row (by omega)
    injection bg with bg
    injection bg with h1 h2
    subst h1 h2;rw[<-av];exact(aa n ck).1)
   have bv:Hid (∀W,ID wr W->W.cell? ⟨qm,15,V⟩=X (U nA i nc)):=aJ (fun W r=>(aK W qm 15 _ _ _ (r.block t.1.row)).trans rfl)
   have ap:=aJ (fun W (r:ID wr W)=>t.1.own.up r)
   have cG:Hid (∀W,ID wr W->w4.heap.size<=W.heap.size):=aJ (fun W r=>bN t.1.I5.size r.size)
   have cy:Hid (i+1<=68719476736):=aJ (by omega)
   have cD:Hid (∀W0 W,ID wr W0->W0.grownBy W (WL nA i nc).ownBlock->W.cell? ⟨qm,15,V⟩=X (U nA i nc)/\W.frozen? ⟨qm,15,V⟩=O):=aJ (fun W0 W r hg=>by
    have hb:=jX (t.1.own.up r) hg (r.block t.1.row) (by decide)
    exact⟨(aK W qm 15 _ _ _ hb).trans rfl,aN W qm 15 _ _ hb⟩)
   have cA:Hid (∀W0 W1 A' c',ID wr W0->IL W1 w4.heap.size 9 1 (U A' (i+1) c') (i+1) (ar ((dC l k).take i)++[Q nm])->W0.grownBy W1 (WL nA i nc).ownBlock->BR w2 w4 (W1.setCell ⟨qm,15,V⟩ (U A' (i+1) c')) l g mb q am k qm (i+1) (U A' (i+1) c')/\Ts (W1.setCell ⟨qm,15,V⟩ (U A' (i+1) c')) 3 (X ⟨bo,oo,V⟩) (aW (aH (Gp.IC l k)))):=aJ (fun W0 W1 A' c' r h1 hg=>by
    have hb:=jX (t.1.own.up r) hg (r.block t.1.row) (by decide)
    have b':=ay W1 qm 15 (U A' (i+1) c')
    have hO:ID w4 W1:=IL.IU (t.1.I5.up r) (t.1.own.up r) (bM _) hg
    have he:ar ((dC l k).take i)++[Q nm]=ar ((dC l k).take (i+1)):=by
     have cO:(dC l k)[i]? =X nm:=by
      unfold dC;rw[Xa,bE an];have:(Gp.IC l k)[i]=n:=by rw[<-bq,bD,bE an];rfl
      rw[this];exact congrArg X av
     rw[WU,cO];simp[ar]
    rw[he] at h1;refine⟨⟨t.1.bu,hO.setCell (p:=⟨qm,15,V⟩) t.1.qB _,t.1.qB,?_,h1.I4 hb b' (by decide)⟩,((t.2.up r).grown (t.1.own.up r) (by decide) hg).I4 hb b' (by decide)⟩
    rw[aO W1 qm 15 _ _ _ hb]
    rfl)
   have n0:(0:Int)<=(n:Int):=by omega
   have n1:(n:Int)<(l.length:Int):=by omega
   have i0:(0:Int)<=(i:Int):=by omega
   have i1:(i:Int)<((Gp.IC l k).length:Int):=by omega
   go_upto_region 14 with fail
   generalize w4.heap.size=B at *;refine ak [([],[]),([],[]),([1],[]),([2],[]),([3,2,1],[11,12,13,14]),([],[]),([],[]),([5,6],[8,12,13,14,9,10,11]),([7],[]),([8,7,5,6],[10,12,13,14,11]),([9,8,7,5,6],[11,12,13,14]),([4,10,3,9,2,8,1,7,5,6],[12,13,14]),([0,1,2,3,4,5,6,7,8,9,10,11],[]),([12,0,1,2,3,4,5,6,7,8,9,10,11],[]),([13,11,0,1,2,3,4,5,6,7,8,9,10,12],[])] (Bf wr B l b off c k qm n i nA nc nm _ _ _ _ _ _ _ _ _ _ _ _ _ _ _ _ _ _ _ _ _ _ _ _ _ _ _ _ _ _ _ _ _ _ _ _ _ _ _ _ _ _ _ _ _ _ _ _ _ _ _ _ _ _ _ _ _ _ _ _ _ _ _ _ _ _ _ _ _ _ _ _ _ _ _ _ _ _ _ _ _ _ _ _ _ _ _ _ _ _ _ _ _ _ _ _ _ _ _ _ _ _ _ _ _ _ _ _) (⟨O,O,O,O,O,O,O,O,O,O,O,O,O,O,O,0,aR,aR,rfl,rfl,⟨fun _ _=>(ID.refl wr).drew,fun e=>(by cases e),fun e=>(by cases e),fun e=>(by cases e)⟩⟩) ?_ ⟨?_,?_,?_,?_,?_,?_,?_,?_,?_,?_,?_,?_,?_,?_,?_,trivial⟩
   ·rintro a F ⟨b0,b1,b2,b3,b4,_,b6,b7,b8,b9,b10,b11,b12,_,b14,f,N,P,hl,rfl,I⟩;have aF:=congrArg WE hl;simp at aF;obtain⟨rfl,rfl,rfl,rfl,rfl,rfl,rfl,rfl,rfl,rfl,rfl,rfl,rfl,rfl,rfl⟩:=aF;obtain⟨A3,c3,W0,W1,hO,r,hg,rfl⟩:=I.2.2.2 rfl;have aw:=aJ (cA W0 W1 A3 c3 hO r hg);go_wp2;go_roundw
    case rel=>exact⟨i+1,_,by omega,by go_num,aw⟩
    simp[intOf];omega
   rotate_left 4
   ·rintro _ _ F K ⟨b0,b1,b2,b3,b4,_,b6,b7,b8,b9,b10,b11,b12,_,b14,f,N,P,rfl,h2,I⟩ h S
    repeat obtain⟨rfl,h⟩:=h
    subst h2;have hc:=bv F (I.1 rfl rfl);go_simp;apply S;iterate 15 apply bW
    exact⟨f,N,P,rfl,rfl,I⟩
   rotate_left 4
   ·rintro _ _ F K ⟨b0,b1,b2,b3,b4,_,b6,b7,b8,b9,b10,b11,b12,_,b14,f,N,P,rfl,h2,I⟩ h S
    repeat obtain⟨rfl,h⟩:=h
    subst h2;have hc:=a4 F (I.1 rfl rfl);go_simp;apply S;iterate 15 apply bW
    exact⟨f,N,P,rfl,rfl,I⟩
   ·rintro _ _ F K ⟨b0,b1,b2,b3,b4,_,b6,b7,b8,b9,b10,b11,b12,_,b14,f,N,P,rfl,h2,I⟩ h S
    repeat obtain⟨rfl,h⟩:=h
    subst h2;go_simp;exact S _ _ ⟨b0,b1,b2,b3,b4,G,G,G,G,G,G,O,O,O,O,f,U (X ⟨F.heap.size,0,V⟩) 1 1,P,rfl,rfl,(fun _ _=>(I.1 rfl rfl).alloc _),(fun _ _=>⟨F.heap.size,rfl,aM F _⟩),(fun e=>by cases e),(fun e=>by cases e)⟩
   ·rintro _ _ F K ⟨b0,b1,b2,b3,b4,_,b6,b7,b8,b9,b10,b11,b12,_,b14,f,N,P,rfl,h2,I⟩ h S
    repeat obtain⟨rfl,h⟩:=h
    subst h2;obtain⟨kb,rfl,cQ⟩:=I.2.1 rfl rfl;have hO:=I.1 rfl rfl;refine kK _ (by rfl) _ _ 59 (by rfl) B 9 (Q ⟨#[]⟩) 1 16 underlying59 xd rfl (by decide) (by decide) (U nA i nc) i (ar ((dC l k).take i)) (by rfl) (ap F hO) (X ⟨kb,0,V⟩) 1 1 [Q nm] (by rfl) (bY ⟨kb,0,rfl,fun j u hu=>by(rw[WS];exact(aK F kb j _ _ _ cQ).trans (by rw[WZ];exact hu))⟩) rfl rfl cy (cG F hO) (bY (by decide)) ?_
    intro v' w' r hg c8;obtain⟨A',c',rfl,_,_,_⟩:=r.shape;exact S _ _ ⟨b0,G,G,G,G,G,G,G,G,G,G,G,O,O,O,f,U (X ⟨kb,0,V⟩) 1 1,U A' (i+1) c',rfl,rfl,(fun e=>by cases e),(fun _ e=>by cases e),(fun _ _=>⟨A',c',F,rfl,hO,r,hg⟩),(fun e=>by cases e)⟩
   rotate_left 2
   ·rintro _ _ F K ⟨b0,b1,b2,b3,b4,_,b6,b7,b8,b9,b10,b11,b12,_,b14,f,N,P,rfl,h2,I⟩ h S
    repeat obtain⟨rfl,h⟩:=h
    subst h2;obtain⟨A3,c3,W0,rfl,hO,r,hg⟩:=I.2.2.1 rfl rfl;obtain⟨_,_⟩:=cD W0 F hO hg;go_simp;exact S _ _ ⟨G,G,G,G,G,G,G,G,G,G,G,G,G,G,G,f,N,U A3 (i+1) c3,rfl,rfl,(fun _ e=>by cases e),(fun _ e=>by cases e),(fun _ e=>by cases e),fun _=>⟨A3,c3,W0,F,hO,r,hg,rfl⟩⟩
   all_goals
    rintro _ _ F K ⟨b0,b1,b2,b3,b4,_,b6,b7,b8,b9,b10,b11,b12,_,b14,f,N,P,rfl,h2,I⟩ h S
    repeat obtain⟨rfl,h⟩:=h
    subst h2;go_simp;apply S;iterate 15 apply bW
    exact⟨f,N,P,rfl,rfl,I⟩
  obtain rfl:i=(Gp.IC l k).length:=by omega
  obtain⟨nA,nc,rfl,co,_,_⟩:=t.1.own.shape;have cl:(dC l k).length=(Gp.IC l k).length:=by simp[dC]
  rw[<-cl,W_] at co;have cu:Hid (∀W,ID wr W->W.cell? ⟨g,0,V⟩=X (WD (X mb))):=aJ (fun W r=>(aK W g 0 _ _ _ (r.block (t.1.I5.block t.1.bu.st))).trans rfl)
  have a4:Hid (∀W,ID wr W->W.cell? ⟨kj,0,V⟩=X (Q j.nm)):=aJ (fun W r=>(aK W kj 0 _ _ _ (r.block (t.1.I5.block a3))).trans rfl)
  have bH:Hid (∀W,ID wr W->∃w',(Xi 78 (WD (X mb)) (Q j.nm) (M (X ⟨qm,0,V⟩))).run Xu W= .ok () w'/\BU w2 w' l g mb (Em q k qm) (mz am k ⟨nA,nc,V,0⟩) (k+1)):=aJ (fun W r=>by
   rw[<-bF.out];have bh:=(t.1.bu.up t.1.I5).up r;refine bh.put a7 hn (ad.own k a7) (ad.nm k a7) (bN t.1.bu.I5.size t.1.qB) (fun i hi e=>?_) (r.block t.1.row) (co.up r)
   have h1:=aQ (t.1.bu.Ls i hi).2
   have h2:=t.1.qB
   omega)
  have e2:¬((Gp.IC l k).length:Int)<((Gp.IC l k).length:Int):=by omega
  generalize j.nm=nm at *;go_upto_region 16 with fail
  refine ak [([],[]),([0],[]),([1],[]),([2,1,0],[7]),([],[]),([4],[7]),([],[]),([3,5,6,0,1,2,4],[])] (Be wr (fun W=>BU w2 W l g mb (Em q k qm) (mz am k ⟨nA,nc,V,0⟩) (k+1)) g kj qm mb nm _ _ _ _ _ _ _ _ _ _ _ _ _ _ _ _ _ _ _ _ _ _ _ _ _ _ _ _ _ _ _ _ _ _ _ _ _ _ _ _ _ _ _ _ _ _ _ _ _ _ _ _ _ _ _ _ _ _ _ _ _ _ _ _ _ _ _ _ _ _ _ _ _ _ _ _ _ _ _ _ _ _ _ _ _ _ _ _ _ _ _ _ _ _ _ _ _ _ _ _ _ _ _ _ _ _ _ _) (⟨O,O,O,O,O,O,O,O,0,aR,rfl,rfl,⟨fun _=>(ID.refl wr).drew,fun e=>(by cases e)⟩⟩) ?_ ⟨?_,?_,?_,?_,?_,?_,?_,?_,trivial⟩
  ·rintro a F ⟨b0,b1,b2,b3,b4,_,b6,b7,f,ab,hl,rfl,I⟩;have aF:=congrArg WE hl;simp at aF;obtain⟨rfl,rfl,rfl,rfl,rfl,rfl,rfl,rfl⟩:=aF;have cs:=aJ (I.2 rfl);go_wp2;go_roundw
   case rel=>exact⟨k+1,_,_,by omega,by go_num,cs⟩
   simp[intOf];omega
  rotate_left 3
  ·rintro _ _ F K ⟨b0,b1,b2,b3,b4,_,b6,b7,f,ab,rfl,h2,I⟩ h S
   repeat obtain⟨rfl,h⟩:=h
   subst h2;have hc:=cu F (I.1 rfl);go_simp;apply S;iterate 8 apply bW
   exact⟨f,ab,rfl,rfl,I⟩
  rotate_left 1
  ·rintro _ _ F K ⟨b0,b1,b2,b3,b4,_,b6,b7,f,ab,rfl,h2,I⟩ h S
   repeat obtain⟨rfl,h⟩:=h
   subst h2;have hc:=a4 F (I.1 rfl);go_simp;apply S;iterate 8 apply bW
   exact⟨f,ab,rfl,rfl,I⟩
  rotate_left 1
  ·rintro _ _ F K ⟨b0,b1,b2,b3,b4,_,b6,b7,f,ab,rfl,h2,I⟩ h S
   repeat obtain⟨rfl,h⟩:=h
   subst h2;obtain⟨w5,_,bh⟩:=bH F (I.1 rfl);go_simp;apply S;iterate 8 apply bW
   exact⟨f,ab,rfl,rfl,(fun e=>by cases e),fun _=>bh⟩
  all_goals
   rintro _ _ F K ⟨b0,b1,b2,b3,b4,_,b6,b7,f,ab,rfl,h2,I⟩ h S
   repeat obtain⟨rfl,h⟩:=h
   subst h2;go_simp;apply S;iterate 8 apply bW
   exact⟨f,ab,rfl,rfl,I⟩
 obtain rfl:k=l.length:=by omega
 have cr:=aJ HM.au
 have c5:¬(l.length:Int)<(l.length:Int):=by omega
 have aj:Hid (AU w2 wr l g mb l.length q am (Au.start l)/\ll (Au.start l)/\Hi l (xs.map E3.e) o 0 (Au.start l)):=aJ ⟨cr,by
  obtain⟨_,_,_,_,_,h,_⟩:=bA;exact h,fun _=>⟨rfl,bA⟩,fun h=>absurd h (Nat.lt_irrefl _)⟩
 go_wp2
 go_loopw [80] (fun cZ wr=>∃i am s,i<=xs.length+1/\cZ=Z Y (i:Nat)/\Hid (AU w2 wr l g mb l.length q am s/\ll s/\Hi l (xs.map E3.e) o i s)) (fun x _=>xs.length+1-(intOf x).toNat)
 case atStart=>exact⟨0,_,_,bO _,rfl,aj⟩
 clear aj;obtain⟨i,am,s,hi,rfl,t⟩:=hrel;have ap:=aJ (ao.up t.1.I5)
 by_cases aG:i<xs.length+1
 ·have bn:i<o.length:=by rw[bG.out];exact aG
  obtain⟨Ai,ci,bX,cn⟩:=bJ i bn;obtain⟨b3,_,rfl,_,bU⟩:=(cq.up ap).at_ (by rw[ct.out];omega)
  have d3:=bU i _ bX
  have bc:=aJ cn
  have i0:(0:Int)<=(i:Int):=by omega
  have i1:(i:Int)<(xs.length:Int)+1:=by omega
  have bR:=cp i
  obtain⟨al,ae⟩:∃al,o.getD i []=al:=⟨_,rfl⟩
  have y:=aJ ae
  rw[ae] at d3 bc bR;have b5:o.drop i=al::o.drop (i+1):=by
   rw[WQ bn];rw[bD,bE bn] at ae;have bQ:o[i]=al:=ae;rw[bQ]
  have bz:=aJ b5
  clear bU bX cn ae b5
  by_cases aU:i=0
  ·have p1:decide ((0:Int)<(i:Int))=O:=by rw[decide_eq_false_iff_not];omega
   have p2:decide (0<i)=O:=by rw[decide_eq_false_iff_not];omega
   have H4:Hid (FW w2 wr l g mb q (xs.map E3.e) o i 0):=aJ (by
    obtain⟨hs,_,_,s2,he,h1,h2,h3,h4⟩:=t.2.2.1 aU;subst aU;have h5:=bz.out;rw[WR,he] at h5;injection h5 with h5 h6
    subst h5;refine⟨am,s,s2,t.1,t.2.1,by rw[WR,y.out];exact h1,by rw[WR,y.out,hs];exact h3,?_⟩
    show nR l s2 ((xs.map E3.e).drop 0) (o.drop 1)
    rw[he];exact h4)
   clear t aU;go_wp2_with fail;go_loopw [96] (fun br wr=>∃j,j<=al.length/\br=Z Y (j:Nat)/\Hid (FW w2 wr l g mb q (xs.map E3.e) o i j)) (fun x _=>al.length-(intOf x).toNat)
   case atStart=>exact⟨0,bO _,rfl,H4⟩
   obtain⟨j,hj,rfl,ax⟩:=hrel
   by_cases L:j<al.length
   ·obtain⟨R,s4,s5,C,D,z,m,J⟩:=ax;rw[y.out] at z m;obtain⟨a,ha⟩:∃a,al[j]? =X a:=⟨_,bE L⟩
    have aA:al.drop j=a::al.drop (j+1):=by
     rw[WQ L];rw[bE L] at ha;injection ha with ha
     rw[ha]
    rw[aA] at z m;obtain⟨ka,kk,af⟩:=z a (by simp)
    rw[Au.KJ] at m;cases T:Au.LG l s4 a with
    |none=>rw[T] at m;cases m
    |some s6=>
     rw[T] at m;simp only at m;obtain⟨b4,ac,rfl,_,bi⟩:=(bc.up (ao.up C.I5)).at_ (by unfold ft;rw[eE fg];omega)
     have aL:wr.rangeAt b4 (ac+j*8) (cJ a):=fun d v hv=>by
      have hd:d<8:=(WX.mp hv).1
      rw[WY];exact bi (j*8+d) v (by unfold ft;rw[kX fg ha hd];exact hv)
     have az:Hid (∀W a',AU w2 W l g mb l.length q a' s6->FW w2 W l g mb q (xs.map E3.e) o i (j+1)):=aJ (fun W a' h=>⟨a',s6,s5,h,nu T (fun k2 hk2=>by rw[C.len];exact Gp.K4 hk2) D,by rw[y.out];exact fun a2 be=>z a2 (by simp[be]),by rw[y.out];exact m,J⟩)
     have a6:=aJ (fun W (r:ID wr W)=>vk (C.up r) ad D a ka af (by rw[<-uL af];exact ad.nm kk (Gp.K4 af)) T)
     have j0:(0:Int)<=(j:Int):=by omega
     have j1:(j:Int)<(al.length:Int):=by omega
     go_upto_region 26 with(first|(refine Xs rfl 42 _ rfl b4 (ac+j*8) rfl (cJ a) _ aL underlying42 rfl jS ?_)|(refine eU rfl 42 _ _ rfl _ rfl (cJ a) rfl rfl jS rfl (AK a) ?_;intro w7 bl bf))
     simp only[Act.put];have a5:=aJ (a6 w7 bl);have ah:=AJ bf;obtain⟨ai,aE⟩:∃ai,wr.heap.size=ai:=⟨_,rfl⟩
     rw[aE] at ah ⊢;go_wp2_with (refine Xs rfl 42 _ rfl ai 0 rfl (cJ a) _ ah underlying42 rfl jS ?_);refine a5.mono ?_;rintro e w8 ⟨rfl,a8,aB⟩;have bb:=aJ (az w8 a8 aB);go_wp2;go_roundw
     case rel=>exact⟨j+1,by omega,by go_num,bb⟩
     simp[intOf];omega
   obtain rfl:j=al.length:=by omega
   have bd:Hid (∃am s,AU w2 wr l g mb l.length q am s/\ll s/\Hi l (xs.map E3.e) o (i+1) s):=aJ (by
    obtain⟨R,s4,s5,C,D,z,m,J⟩:=ax;rw[y.out,W9] at m;injection m with m
    subst m;exact⟨R,s4,C,D,fun h=>by omega,fun _=>by rw[Xl];exact J⟩)
   have nj:¬(al.length:Int)<(al.length:Int):=by omega
   go_wp2
   go_roundw
   case rel=>
    obtain⟨R,s4,h4⟩:=bd;exact⟨i+1,R,s4,by omega,by go_num,aJ h4⟩
   simp[intOf];omega
  obtain⟨k,bp⟩:∃k,k+1=i:=⟨i-1,by omega⟩
  have p2:decide (0<i)=G:=by rw[decide_eq_true_iff];omega
  have wi:Xk.wrap ((i:Int)-1)=(k:Int):=by rw[bV _ (by omega)];omega
  have cf:k<xs.length:=by omega
  obtain⟨x,aV⟩:∃x,xs[k]? =X x:=⟨_,bE cf⟩
  have aX:x∈xs:=WT aV
  have aq:=cw.up ap
  obtain⟨b2,a1,rfl,aC⟩:=aq.cell aV;have aI:wr.rangeAt b2 (a1+k*8) (cM x):=fun d v hv=>by
   have hd:d<8:=(WX.mp hv).1
   rw[WY];exact aC d v hd hv
  have aY:(xs.map E3.e).drop k=x.e::(xs.map E3.e).drop (k+1):=by
   have ce:k<(xs.map E3.e).length:=by rw[bL];exact cf
   rw[WQ ce];have:(xs.map E3.e)[k]=x.e:=by
    have h1:(xs.map E3.e)[k]? =X x.e:=by rw[Xa,aV];rfl
    rw[bE ce] at h1;injection h1
   rw[this]
  have aZ:=t.out.2.2.2 (by omega)
  rw[show i-1=k by omega,aY,bz.out] at aZ
  obtain⟨⟨kk,aD,cc,a0⟩,cm,bS,s2,cb,bm⟩:=aZ;have av:x.e.I6.size<=maxLen:=by rw[<-uL aD];exact ad.nm kk (Gp.K4 aD)
  have aS:=cF x aX
  have bK:Hid (Xq Xu 23 #[M (X ⟨g,0,V⟩),.agg (cM x).toArray] wr fun e w'=>e=WB (WC #[])/\∃a',AU w2 w' l g mb l.length q a' (Au.MC l s x.e)):=aJ (by
   have cg:(Au.get s kk).out.length+x.e.data.length<=2000000:=by rw[a0];simp;omega
   rcases cc with⟨k1,k2,k3⟩|⟨k1,k3⟩
   ·exact Du t.1 x aD k1 k2 k3 (aq.rows x aX) aS.1 cg av
   exact AM t.1 x aD k1 k3 (aq.rows x aX) aS.1 cg av)
  have bB:Hid (∀W a',AU w2 W l g mb l.length q a' (Au.MC l s x.e)->FW w2 W l g mb q (xs.map E3.e) o i 0):=aJ (fun W a' h=>⟨a',_,s2,h,cm,by rw[WR,y.out];exact bS,by rw[WR,y.out];exact cb,by rw[<-bp];rw[<-bp] at bm;exact bm⟩)
  have k0:(0:Int)<=(k:Int):=by omega
  have k1:(k:Int)<(xs.length:Int):=by omega
  clear t aU bp aX aV aC aY aD cc a0 cm bS cb bm av aS aq ap;go_upto_region 22 with fail
  go_wp2_with (refine Xs rfl 65 _ rfl b2 (a1+k*8) rfl (cM x) _ aI underlying65 rfl kW ?_)
  refine bK.mono ?_;rintro e w5 ⟨rfl,a',bT⟩;have H4:=aJ (bB w5 a' bT);clear bT bK bB aI;go_wp2_with fail;go_loopw [96] (fun br wr=>∃j,j<=al.length/\br=Z Y (j:Nat)/\Hid (FW w2 wr l g mb q (xs.map E3.e) o i j)) (fun x _=>al.length-(intOf x).toNat)
  case atStart=>exact⟨0,bO _,rfl,H4⟩
  obtain⟨j,hj,rfl,ax⟩:=hrel
  by_cases L:j<al.length
  ·obtain⟨R,s4,s5,C,D,z,m,J⟩:=ax;rw[y.out] at z m;obtain⟨a,ha⟩:∃a,al[j]? =X a:=⟨_,bE L⟩
   have aA:al.drop j=a::al.drop (j+1):=by
    rw[WQ L];rw[bE L] at ha;injection ha with ha
    rw[ha]
   rw[aA] at z m;obtain⟨ka,kk,af⟩:=z a (by simp)
   rw[Au.KJ] at m;cases T:Au.LG l s4 a with
   |none=>rw[T] at m;cases m
   |some s6=>
    rw[T] at m;simp only at m;obtain⟨b4,ac,rfl,_,bi⟩:=(bc.up (ao.up C.I5)).at_ (by unfold ft;rw[eE fg];omega)
    have aL:wr.rangeAt b4 (ac+j*8) (cJ a):=fun d v hv=>by
     have hd:d<8:=(WX.mp hv).1
     rw[WY];exact bi (j*8+d) v (by unfold ft;rw[kX fg ha hd];exact hv)
    have az:Hid (∀W a',AU w2 W l g mb l.length q a' s6->FW w2 W l g mb q (xs.map E3.e) o i (j+1)):=aJ (fun W a' h=>⟨a',s6,s5,h,nu T (fun k2 hk2=>by rw[C.len];exact Gp.K4 hk2) D,by rw[y.out];exact fun a2 be=>z a2 (by simp[be]),by rw[y.out];exact m,J⟩)
    have a6:=aJ (fun W (r:ID wr W)=>vk (C.up r) ad D a ka af (by rw[<-uL af];exact ad.nm kk (Gp.K4 af)) T)
    have j0:(0:Int)<=(j:Int):=by omega
    have j1:(j:Int)<(al.length:Int):=by omega
    go_upto_region 26 with(first|(refine Xs rfl 42 _ rfl b4 (ac+j*8) rfl (cJ a) _ aL underlying42 rfl jS ?_)|(refine eU rfl 42 _ _ rfl _ rfl (cJ a) rfl rfl jS rfl (AK a) ?_;intro w7 bl bf))
    simp only[Act.put];have a5:=aJ (a6 w7 bl);have ah:=AJ bf;obtain⟨ai,aE⟩:∃ai,wr.heap.size=ai:=⟨_,rfl⟩
    rw[aE] at ah ⊢;go_wp2_with (refine Xs rfl 42 _ rfl ai 0 rfl (cJ a) _ ah underlying42 rfl jS ?_);refine a5.mono ?_;rintro e w8 ⟨rfl,a8,aB⟩;have bb:=aJ (az w8 a8 aB);go_wp2;go_roundw
    case rel=>exact⟨j+1,by omega,by go_num,bb⟩
    simp[intOf];omega
  obtain rfl:j=al.length:=by omega
  have bd:Hid (∃am s,AU w2 wr l g mb l.length q am s/\ll s/\Hi l (xs.map E3.e) o (i+1) s):=aJ (by
   obtain⟨R,s4,s5,C,D,z,m,J⟩:=ax;rw[y.out,W9] at m;injection m with m
   subst m;exact⟨R,s4,C,D,fun h=>by omega,fun _=>by rw[Xl];exact J⟩)
  have nj:¬(al.length:Int)<(al.length:Int):=by omega
  go_wp2
  go_roundw
  case rel=>
   obtain⟨R,s4,h4⟩:=bd;exact⟨i+1,R,s4,by omega,by go_num,aJ h4⟩
  simp[intOf];omega
 obtain rfl:i=xs.length+1:=by omega
 have h2:¬((xs.length:Int)+1)<(xs.length:Int)+1:=by omega
 have hr:=t.1.I5.block ba
 obtain⟨c0,_⟩:=WH ((aK wr kf 0 _ _ _ hr).trans (rfl:_=X (Xm Y 0))) (aN wr kf 0 _ _ hr);obtain⟨c1,f1⟩:=WH ((aK wr kf 1 _ _ _ hr).trans (rfl:_=X (Xm Y 0))) (aN wr kf 1 _ _ hr);have HX:Hid (ID w ((wr.setCell ⟨kf,0,V⟩ (Z Y 0)).setCell ⟨kf,1,V⟩ (Z Y 0))):=aJ (by
  have hk:=cx.1
  subst hk;exact(ap.setCell (p:=⟨w.heap.size,0,V⟩) (bM _) _).setCell (p:=⟨w.heap.size,1,V⟩) (bM _) _)
 go_wp2
 refine aP (v:= .agg #[Z Y 0,Z Y 0]) (by simp[results,results7,go_sem,c0,c1]) rfl ?_
 exact⟨rfl,HX⟩
end Go.Proofs.YtflccikncbhpdaaGreatDoor
