/- Part 3: walks and plain laws. -/
import Derived.Test.YtfchjdnpbgpfpaaGreatDoorZz2
import Derived.Deep.RegionWith
import Derived.Deep.LoopGhost
import Derived.Lib.IndexBytes
import Derived.Shelf.Strings.Builder1
import Derived.Shelf.Small.Strs
import Derived.Shelf.Slices.Turned
import Derived.Shelf.Pu.ParseUintPublic10
import Derived.Lib.ParseIntB
import Derived.Lib.ConvBytes
import Derived.Lib.SlicesS
import Derived.Defers
import Derived.Recover
import Derived.Laws.Pointers
set_option maxHeartbeats 16000000
set_option maxRecDepth 100000
open Go.Lib renaming hid → aJ
open Go renaming cell_of_row → aK, heap_setCell_other → aL, heap_alloc_new → aM, frozen_of_row → aN, heap_setCell_same → aO, bodyPost_ret → aP, lt_of_block → aQ, undef → aR
open List renaming getD_eq_getElem?_getD → bD, getElem?_eq_getElem → bE, length_append → bF, length_singleton → bG, getElem_mem → bH, getElem?_eq_none → bI, getElem?_append_left → bJ, length_set → bK, length_map → bL
open Nat renaming le_refl → bM, le_trans → bN, zero_le → bO
open Option.some renaming inj → bQ
open Go.World.ownsRow renaming kept → bT, lt → bU
open Go.IntWalk renaming i64_in → bV
open Exists renaming intro → bW
open Or renaming inl → bX, inr → bY
namespace Go.Proofs.YtfchjdnpbgpfpaaGreatDoor
open Go.RowKit Go.Shelf
set_option linter.unusedVariables false
def oq (s:BSet) (r:Int):Prop:=(r= -1∧∀c,c<256→c≠10→hasB s c=false)∨∃c:Nat,r=c∧c<256∧c≠10∧hasB s c=true
def xl (s:BSet) (a:World) (v:Value) (wr:World):Prop:=∃k:Nat,v= .int .i64 k∧k≤256∧Hid (∀c,c<k→c≠10→hasB s c=false)∧Hid (Old a wr)
theorem xW (s:BSet) (w:World):Calls Tryz.prog 173 #[cG s] w fun e w'=>∃r,e= .returned (.int .i64 r)∧oq s r∧Old w w':=by
 have q:=aM w (eh s)
 have t:=(Old.refl w).alloc (eh s)
 have b:Hid (∀r w',oq s r→Old w w'→∃y,Ending.returned (.int .i64 r)= .returned (.int .i64 y)∧oq s y∧Old w w'):=aJ (fun r w' h1 h2=>⟨r,rfl,h1,h2⟩)
 unfold cG;unfold eh at q t;go_enter Tryz.func173,Tryz.ntmps173;go_upto_region 1 with fail
 generalize w.alloc (.cells #[.int .u64 (ab s 0),.int .u64 (ab s 1),.int .u64 (ab s 2),.int .u64 (ab s 3)] 211)=w1 at *;generalize w.heap.size=kb at *;have z:Hid (w1.heap[kb]? =some (eh s)):=aJ q;have x:=aJ t;clear q t;go_wp2_with fail;go_loopw [4] (fun u wr=>xl s w1 u wr) (fun u _=>256-(intOf u).toNat)
 case atStart=>exact⟨0,rfl,by omega,aJ (fun c hc=>by omega),aJ (Old.refl _)⟩
 case round=>
  obtain⟨k,rfl,hk,d,j⟩:=hrel;obtain⟨_,c1,c2,_,_⟩:=an (j.out.block z.out)
  by_cases m:k<256
  ·have C:(k:Int)<256:=by omega
   have B:(0:Int)≤(k:Int):=by omega
   by_cases f:k=10
   ·subst f;have o:Hid (xl s w1 (.int .i64 ((11:Nat):Int)) wr):=aJ ⟨11,rfl,by omega,aJ (fun c hc hne=>d.out c (by omega) hne),j⟩
    clear d;go_wp2_with fail;go_roundw
    case rel=>exact o.out
    case measure=>simp[intOf]
   ·have b10:((k:Int) !=10)=true:=by simp;omega
    have A:IntKind.u8.wrap (k:Int)=(k:Int):=IntWalk.u8_in _ (by omega)
    have g:=zX s k m wr
    unfold cG at g;have h:=aJ g;clear g;cases i:hasB s k with
    |true=>
     rw[i] at h;have l:Hid (oq s (k:Int)):=aJ (bY ⟨k,rfl,m,f,i⟩);clear i f d;go_wp2_with fail;refine(h.out).mono ?_;rintro e w2 ⟨rfl,a⟩;have p:=aJ (b.out _ w2 l.out (x.out.up (j.out.up a)));clear a h b l;go_wp2_with fail;go_ret;exact p.out
    |false=>
     rw[i] at h;have n:=aJ i;clear i;go_wp2_with fail;refine(h.out).mono ?_;rintro e w2 ⟨rfl,a⟩;have o:Hid (xl s w1 (.int .i64 ((k+1:Nat):Int)) w2):=aJ ⟨k+1,rfl,by omega,aJ (fun c hc hne=>by
      by_cases e:c=k
      ·subst e;exact n.out
      ·exact d.out c (by omega) hne),aJ (j.out.up a)⟩
     clear a h d;go_wp2_with fail;go_roundw
     case rel=>exact o.out
     case measure=>simp[intOf];omega
  ·obtain rfl:k=256:=by omega
   have p:=aJ (b.out (-1) wr (bX ⟨rfl,d.out⟩) (x.out.up j.out))
   clear b d;go_wp2_with fail;go_ret;exact p.out
theorem mH (al:List (Sp×Og)) (L:List Sp) (q:Sp) (o:Og):(bv al L q o).1.length+L.length=al.length+(bv al L q o).2.length:=by
 unfold bv;split
 ·rfl
 ·simp;omega
def Aj (w w0:World) (B g b:Nat) (st:List Nd) (A:Option Addr) (c d n0:Nat) (L:List Sp) (e:Ending) (w':World):Prop:=
 ∃lv' al N,e= .returned lv'∧SK w0 w' B g b st A c al∧Own w' B 222 3 lv' N.length (eH N)∧Nxt st d L L.length al N∧al.length=n0+N.length
def j9 (w w0:World) (B g b:Nat) (st:List Nd) (A:Option Addr) (c d n0:Nat) (L:List Sp) (a v:Value) (wr:World):Prop:=
 ∃(k:Nat) (al:List (Sp×Og)) (N:List Sp),v= .int .i64 k∧k≤L.length∧Hid (SK w0 wr B g b st A c al)∧Hid (Own wr B 222 3 a N.length (eH N))∧Hid (MKept w wr b b (.slice none 0 0) a)∧Hid (Nxt st d L k al N)∧Hid (al.length=n0+N.length)
def Ah (w w0:World) (B g b e f:Nat) (st:List Nd) (A:Option Addr) (c d n0:Nat) (L:List Sp) (k:Nat) (p:Sp) (y:Nd) (a:Value) (wr:World):Prop:=
 ∃(al:List (Sp×Og)) (N:List Sp),Hid (SK w0 wr B g b st A c al)∧Hid (Own wr B 222 3 a N.length (eH N))∧Hid (MKept w wr b b (.slice none 0 0) a)∧Hid (Nxt st d L k al N)∧Hid (al.length=n0+N.length)∧
  Hid (wr.heap[e]? =some (.cells (da p).toArray 222 (0,0)))∧Hid (StAt wr f y)∧Hid (hasB y.set 10=true→(lk al ⟨y.left.toNat,true,false⟩).isSome=true)
theorem kN {st:List Nd} {p q:Sp} {y:Nd} {c:Nat} (hy:nd st p.s=y) (a:SB st p c q):y.kind=1∧hasB y.set c=true∧c<256∧((c=10∧q=⟨y.left.toNat,true,false⟩)∨(c≠10∧p.e=false∧q=⟨y.left.toNat,false,false⟩)):=by
 subst hy;exact a
theorem yf {st:List Nd} {p:Sp} {y:Nd} (hy:nd st p.s=y) (hk:y.kind=1) (h:hasB y.set 10=true):SB st p 10 ⟨y.left.toNat,true,false⟩:=by
 subst hy;exact⟨hk,h,by decide,bX ⟨rfl,rfl⟩⟩
theorem uT {st:List Nd} {p:Sp} {y:Nd} {c:Nat} (hy:nd st p.s=y) (hk:y.kind=1) (h:hasB y.set c=true) (hc:c<256) (hne:c≠10) (a:p.e=false):SB st p c ⟨y.left.toNat,false,false⟩:=by
 subst hy;exact⟨hk,h,hc,bY ⟨hne,a,rfl⟩⟩
theorem AQ (w0:World) (B g b:Nat) (st:List Nd) (A:Option Addr) (c d:Nat) (lv:Value) (al:List (Sp×Og)) (L:List Sp) (w:World) (h:SK w0 w B g b st A c al) (hl:Own w B 222 3 lv L.length (eH L)) (hv:bt st=true) (hh:Nxt st d L 0 al []) (aZ:∀p∈L,gV st (d+1) p) (hL:L.length≤100000):
  Calls Tryz.prog 113 #[.pointer (some ⟨g,0,none⟩),lv] w (Aj w w0 B g b st A c d al.length L):=by
 have HV:=aJ hv
 have a6:=aJ (a7 hv).2.1
 obtain⟨_,_,rfl,_,_,_⟩:=hl.shape;have ac:=aJ hl;have aP:=aJ aZ;have aL:Hid (b<B):=aJ h.lb;have HI:Hid (j9 w w0 B g b st A c d al.length L (.slice none 0 0) (.int .i64 0) w):=aJ ⟨0,al,[],rfl,bO _,aJ h,aJ (Own.nil_ _ _ _ _),aJ (MKept.refl _ _ _ _),aJ hh,aJ (by simp)⟩
 have av:Hid (∀lv' S N' w',SK w0 w' B g b st A c S→Own w' B 222 3 lv' N'.length (eH N')→Nxt st d L L.length S N'→S.length=al.length+N'.length→Aj w w0 B g b st A c d al.length L (.returned lv') w'):=
  aJ (fun lv' S N' w' a1 a2 a3 a4=>⟨lv',S,N',rfl,a1,a2,a3,a4⟩)
 generalize al.length=n0 at *;clear h hl hh hv aZ al;go_enter Tryz.func113,Tryz.ntmps113;go_wp2_with fail;go_loopw [5,12] (fun s5 aG wr=>j9 w w0 B g b st A c d n0 L s5 aG wr) (fun _ aG _=>L.length-(intOf aG).toNat)
 case atStart=>exact HI.out
 case round=>
  clear HI;obtain⟨k,al,N,rfl,hk,HS,HO,HK,o,i⟩:=hrel;have am:=o.out.srch.few;have aW:=o.out.srch.k5;have hsz:=a6.out
  by_cases n:k<L.length
  ·have i1:(k:Int)<(L.length:Int):=by omega
   have i0:(0:Int)≤(k:Int):=by omega
   obtain⟨ga,_,bc,_,ba,_,_⟩:=ac.out.form (by omega)
   injection bc with hA _ hc
   subst hA;subst hc;obtain⟨An,cn,rfl,_,_,_⟩:=HO.out.shape;have af:wr.heap[ga]? =w.heap[ga]?:=HK.out.far ga ba (by have:=aL.out;omega) (by have:=aL.out;omega) (by simp[Value.ownBlock])
   have q0:=(ac.out.cellAt ((cQ L k n 0 (by omega)).trans rfl)).1
   have q1:=(ac.out.cellAt ((cQ L k n 1 (by omega)).trans rfl)).1
   have q2:=(ac.out.cellAt ((cQ L k n 2 (by omega)).trans rfl)).1
   rw[Nat.add_zero] at q0;rw[←World.cell?_of_block (a:=⟨ga,k*3,none⟩) af] at q0;rw[←World.cell?_of_block (a:=⟨ga,k*3+1,none⟩) af] at q1;rw[←World.cell?_of_block (a:=⟨ga,k*3+2,none⟩) af] at q2;have ag:L.getD k gF∈L:=by rw[bD,bE n];exact bH n
   obtain⟨p,aE⟩:∃p,L.getD k gF=p:=⟨_,rfl⟩
   rw[aE] at q0 q1 q2 ag;have R:=aJ aE;have aR:=aJ (aP.out p ag);have aF:p.s<st.length:=by obtain⟨t,ht,_⟩:=aP.out p ag;exact SR.lt HV.out ht
   clear aE ag af;obtain⟨ps,pb,O⟩:=p;simp only at q0 q1 q2 aF;have ax:=aM wr (.cells #[.int .i64 (ps:Int),.bool pb,.bool O] 222);have aj:=(Old.refl wr).alloc (.cells #[.int .i64 (ps:Int),.bool pb,.bool O] 222);have au:Hid (wr.heap.size≠b∧some wr.heap.size≠(Value.slice An N.length cn).ownBlock):=aJ ⟨by have:=HS.out.lb;have:=HS.out.lB;omega,fun e=>by have:=(bU HO.out _ e.symm).2;omega⟩
   go_upto_region 5 with fail
   generalize wr.alloc (.cells #[.int .i64 (ps:Int),.bool pb,.bool O] 222)=W7 at *;have D:=aJ (HS.out.up aj);have aO:=aJ (HO.out.up aj);have aI:=aJ (HK.out.trans (MKept.of_old aj b b _));have ap:=aJ ax;have a8:Hid (wr.heap.size<W7.heap.size):=aJ (aQ ax);generalize wr.heap.size=k7 at *;clear HS HO HK q0 q1 q2 ax aj;have aY:=(a7 HV.out).2.2 ps aF;have hx:st[ps]? =some (nd st ps):=by unfold nd;rw[bD,bE aF];rfl
   obtain⟨bs,off,rfl,_,u⟩:=(D.out.nodes.up D.out.old).at_ (by rw[aV];omega)
   have hg:=cd st ps _ hx
   have c0:=u _ _ (hg 0 (by omega))
   have c1:=u _ _ (hg 1 (by omega))
   have c2:=u _ _ (hg 2 (by omega))
   have c3:=u _ _ (hg 3 (by omega))
   have c4:=u _ _ (hg 4 (by omega))
   have c5:=u _ _ (hg 5 (by omega))
   have c6:=u _ _ (hg 6 (by omega))
   rw[←Nat.add_assoc] at c0 c1 c2 c3 c4 c5 c6;rw[Nat.add_zero] at c0;have s1:(0:Int)≤(ps:Int):=by omega
   have s2:(ps:Int)<(st.length:Int):=by omega
   obtain⟨y,hy⟩:∃y,nd st ps=y:=⟨_,rfl⟩
   rw[hy] at aY c0 c1 c2 c3 c4 c5 c6;have HY:=aJ hy;clear hx u hg hy;obtain⟨V,lf,rt,f⟩:=y
   replace c0:W7.cell? ⟨bs,off+ps*7,none⟩=some (.int .i64 V):=c0
   replace c1:W7.cell? ⟨bs,off+ps*7+1,none⟩=some (.int .i64 lf):=c1
   replace c2:W7.cell? ⟨bs,off+ps*7+2,none⟩=some (.int .i64 rt):=c2
   replace c3:W7.cell? ⟨bs,off+ps*7+3,none⟩=some (.int .u64 (ab f 0)):=c3
   replace c4:W7.cell? ⟨bs,off+ps*7+4,none⟩=some (.int .u64 (ab f 1)):=c4
   replace c5:W7.cell? ⟨bs,off+ps*7+5,none⟩=some (.int .u64 (ab f 2)):=c5
   replace c6:W7.cell? ⟨bs,off+ps*7+6,none⟩=some (.int .u64 (ab f 3)):=c6
   have ak:Hid (∀w',Old W7 w'→Old W7 w'∧w'.cell? ⟨g,0,none⟩=some (.slice (some ⟨bs,off,none⟩) st.length c)∧w'.cell? ⟨k7,0,none⟩=some (.int .i64 (ps:Int))∧
     w'.cell? ⟨bs,off+ps*7,none⟩=some (.int .i64 V)∧w'.cell? ⟨bs,off+ps*7+1,none⟩=some (.int .i64 lf)∧w'.cell? ⟨bs,off+ps*7+2,none⟩=some (.int .i64 rt)∧w'.cell? ⟨bs,off+ps*7+3,none⟩=some (.int .u64 (ab f 0))∧w'.cell? ⟨bs,off+ps*7+4,none⟩=some (.int .u64 (ab f 1))∧w'.cell? ⟨bs,off+ps*7+5,none⟩=some (.int .u64 (ab f 2))∧w'.cell? ⟨bs,off+ps*7+6,none⟩=some (.int .u64 (ab f 3))):=aJ (fun w' Y=>
    ⟨Y,(D.out.up Y).cells.1,by rw[aK w' k7 0 _ _ _ (Y.block ap.out)];rfl,Y.cell c0,Y.cell c1,Y.cell c2,Y.cell c3,Y.cell c4,Y.cell c5,Y.cell c6⟩)
   clear c0 c1 c2 c3 c4 c5 c6;go_region_held3 (fun w'=>Old W7 w'∧w'.cell? ⟨g,0,none⟩=some (.slice (some ⟨bs,off,none⟩) st.length c)∧w'.cell? ⟨k7,0,none⟩=some (.int .i64 (ps:Int))∧
     w'.cell? ⟨bs,off+ps*7,none⟩=some (.int .i64 V)∧w'.cell? ⟨bs,off+ps*7+1,none⟩=some (.int .i64 lf)∧w'.cell? ⟨bs,off+ps*7+2,none⟩=some (.int .i64 rt)∧w'.cell? ⟨bs,off+ps*7+3,none⟩=some (.int .u64 (ab f 0))∧w'.cell? ⟨bs,off+ps*7+4,none⟩=some (.int .u64 (ab f 1))∧w'.cell? ⟨bs,off+ps*7+5,none⟩=some (.int .u64 (ab f 2))∧w'.cell? ⟨bs,off+ps*7+6,none⟩=some (.int .u64 (ab f 3))) ((refine ak.out _ ?_;first|exact(Old.refl _).drew|exact((Old.refl _).alloc _).drew)) (fail)
   have aB:StAt (W7.alloc (.cells (ao ⟨V,lf,rt,f⟩).toArray 213)).drew W7.heap.size ⟨V,lf,rt,f⟩:=aM W7 _
   have U:Old W7 (W7.alloc (.cells (ao ⟨V,lf,rt,f⟩).toArray 213)).drew:=((Old.refl W7).alloc _).drew
   have aS:(W7.alloc (.cells #[.int .i64 V,.int .i64 lf,.int .i64 rt,.int .u64 (ab f 0),.int .u64 (ab f 1),.int .u64 (ab f 2),.int .u64 (ab f 3)] 213)).drew=(W7.alloc (.cells (ao ⟨V,lf,rt,f⟩).toArray 213)).drew:=rfl
   rw[aS];have ae:=aJ (D.out.up U);have ad:=aJ (aO.out.up U);have aa:=aJ (aI.out.trans (MKept.of_old U b b _));have aq:=aJ (U.block ap.out);have aN:Hid (W7.heap.size≠b):=aJ (by have:=D.out.lb;have:=D.out.lB;omega)
   generalize (W7.alloc (.cells (ao ⟨V,lf,rt,f⟩).toArray 213)).drew=W at *;generalize W7.heap.size=k8 at *;have ar:=aJ aB;obtain⟨d0,d1,d2,d3,d4,d5,d6⟩:=aB.cells;simp only at d0 d1 d2 d3 d4 d5 d6;clear aS U D aO aI ap aB s1 s2 ak a8;obtain⟨o1,o2,o3,o4⟩:=aY;simp only at o1 o2 o3 o4
   by_cases ai:V=1
   ·subst ai;obtain⟨a,rfl⟩:=Int.eq_ofNat_of_zero_le (o3 (by decide)).1
    clear o1 o2 o3 o4;have az:=zX f 10 (by decide) W
    unfold cG at az;have X:=aJ az;clear az;go_wp2_with fail;refine(X.out).mono ?_;rintro e W2 ⟨rfl,K⟩;have E:=aJ (ae.out.up K);have m:=aJ (ad.out.up K);have z:=aJ (aa.out.trans (MKept.of_old K b b _));have j:=aJ (K.block aq.out);have l:=aJ (show StAt W2 k8 _ from K.block ar.out)
    clear K X ae ad aa aq ar d0 d1 d2 d3 d4 d5 d6;go_upto_if 29 with fail
    go_cut [5] (fun v5 wx=>Ah w w0 B g b k7 k8 st (some ⟨bs,off,none⟩) c d n0 L k ⟨ps,pb,O⟩ ⟨1,(a:Int),rt,f⟩ v5 wx)
    case first=>
     clear av R;cases ay:hasB f 10 with
     |false=>
      go_wp2_with fail;go_meet;exact⟨al,N,E,m,z,o,i,j,l,aJ (fun h=>by rw[ay] at h;cases h)⟩
     |true=>
      have aw:Hid (SB st ⟨ps,pb,O⟩ 10 ⟨a,true,false⟩):=aJ (yf (p:=⟨ps,pb,O⟩) HY.out rfl ay)
      have P:=aJ (o.out.put HV.out aR.out aw.out)
      have hc:=kM w0 B g b st _ c _ al N W2 E.out m.out (by omega) (by omega) ⟨a,true,false⟩ (by have:=P.out.1;simp only at this;show a<1000000;omega) ⟨⟨ps,pb,O⟩,false,true,10⟩ (show(10:Nat)<256 by decide)
      have x:=mH al N ⟨a,true,false⟩ ⟨⟨ps,pb,O⟩,false,true,10⟩
      unfold mj pW at hc;simp only at hc;rw[show((10:Nat):Int)=10 from rfl] at hc
      have X:=aJ hc
      have C:=aJ x
      obtain⟨p0,p1,_⟩:=l.out.cells;simp only at p0 p1;have e0:W2.cell? ⟨k7,0,none⟩=some (.int .i64 (ps:Int)):=by rw[aK W2 k7 0 _ _ _ j.out];rfl
      have e1:W2.cell? ⟨k7,1,none⟩=some (.bool pb):=by rw[aK W2 k7 1 _ _ _ j.out];rfl
      have e2:W2.cell? ⟨k7,2,none⟩=some (.bool O):=by rw[aK W2 k7 2 _ _ _ j.out];rfl
      clear hc x ay;generalize bv al N ⟨a,true,false⟩ ⟨⟨ps,pb,O⟩,false,true,10⟩=r at *;obtain⟨F,N2⟩:=r;simp only at X P C;go_wp2_with fail;refine(X.out).mono ?_;rintro e Q ⟨bd,rfl,a0,aC,ah⟩;have HM:Hid (Ah w w0 B g b k7 k8 st (some ⟨bs,off,none⟩) c d n0 L k ⟨ps,pb,O⟩ ⟨1,(a:Int),rt,f⟩ bd Q):=aJ
       ⟨F,N2,aJ a0,aJ aC,aJ (z.out.trans ah),aJ P.out.2.1,aJ (by have:=i.out;have:=C.out;omega),aJ (eJ ah j.out au.out.1 au.out.1 au.out.2),aJ (eJ ah l.out aN.out aN.out (eu m.out l.out (by decide))),aJ (fun _=>P.out.2.2.1)⟩
      obtain⟨_,c3,rfl,_,_,_⟩:=aC.shape;clear a0 aC ah X P C p0 p1 e0 e1 e2 E m z j l o i;go_wp2_with fail;go_meet;exact HM.out
    case rest=>
     clear E m z j l o i am aW;obtain⟨F,N2,E,m,z,o,i,j,l,an⟩:=hcut;obtain⟨A2,c2,rfl,_,_,_⟩:=m.out.shape;have am:=o.out.srch.few;have aW:=o.out.srch.k5;obtain⟨p0,p1,_,p3,p4,p5,p6⟩:=l.out.cells;simp only at p0 p1 p3 p4 p5 p6;have aA:=xW f wc;unfold cG at aA;have aH:=aJ aA;clear aA;go_wp2_with fail;refine(aH.out).mono ?_;rintro e Q ⟨r,rfl,bb,M⟩;have J:=aJ (E.out.up M);have I:=aJ (m.out.up M);have H:=aJ (z.out.trans (MKept.of_old M b b _));have G:=aJ (M.block j.out);have Z:=aJ (show StAt Q k8 _ from M.block l.out)
     clear M aH E m z j l p0 p1 p3 p4 p5 p6;have e0:Q.cell? ⟨k7,0,none⟩=some (.int .i64 (ps:Int)):=by rw[aK Q k7 0 _ _ _ G.out];rfl
     have e1:Q.cell? ⟨k7,1,none⟩=some (.bool pb):=by rw[aK Q k7 1 _ _ _ G.out];rfl
     have e2:Q.cell? ⟨k7,2,none⟩=some (.bool O):=by rw[aK Q k7 2 _ _ _ G.out];rfl
     rcases bb with⟨rfl,aX⟩|⟨ch,rfl,aT,hne,T⟩
     ·have HW:Hid (j9 w w0 B g b st (some ⟨bs,off,none⟩) c d n0 L (.slice A2 N2.length c2) (.int .i64 ((k+1:Nat):Int)) Q):=aJ ⟨k+1,F,N2,rfl,n,J,I,H,aJ (o.out.next (fun cc q hs=>by
       rw[R.out] at hs;obtain⟨_,h2,h3,h4⟩:=kN HY.out hs;rcases h4 with⟨rfl,rfl⟩|⟨h5,_,_⟩
       ·exact an.out h2
       ·have:=aX cc h3 h5;rw[this] at h2;cases h2)),i⟩
      clear J I H G Z aX o;go_wp2_with fail;go_roundw
      case rel=>exact HW.out
      case measure=>simp[intOf];omega
     ·cases O with
      |true=>
       have HW:Hid (j9 w w0 B g b st (some ⟨bs,off,none⟩) c d n0 L (.slice A2 N2.length c2) (.int .i64 ((k+1:Nat):Int)) Q):=aJ ⟨k+1,F,N2,rfl,n,J,I,H,aJ (o.out.next (fun cc q hs=>by
        rw[R.out] at hs;obtain⟨_,h2,h3,h4⟩:=kN HY.out hs;rcases h4 with⟨rfl,rfl⟩|⟨_,h6,_⟩
        ·exact an.out h2
        ·cases h6)),i⟩
       have a':(0:Int)≤(ch:Int):=by omega
       clear J I H G Z T o;go_wp2_with fail;go_roundw
       case rel=>exact HW.out
       case measure=>simp[intOf];omega
      |false=>
       have bg:IntKind.u8.wrap (ch:Int)=(ch:Int):=IntWalk.u8_in _ (by omega)
       have a':(0:Int)≤(ch:Int):=by omega
       have aw:Hid (SB st ⟨ps,pb,false⟩ ch ⟨a,false,false⟩):=aJ (uT (p:=⟨ps,pb,false⟩) HY.out rfl T aT hne rfl)
       have P:=aJ (o.out.put HV.out aR.out aw.out)
       have hc:=kM w0 B g b st _ c _ F N2 Q J.out I.out (by omega) (by omega) ⟨a,false,false⟩ (by have:=P.out.1;simp only at this;show a<1000000;omega) ⟨⟨ps,pb,false⟩,false,true,ch⟩ aT
       have x:=mH F N2 ⟨a,false,false⟩ ⟨⟨ps,pb,false⟩,false,true,ch⟩
       unfold mj pW at hc;simp only at hc;have X:=aJ hc;have C:=aJ x;obtain⟨p0,p1,_⟩:=Z.out.cells;simp only at p0 p1;clear hc x T hne;generalize bv F N2 ⟨a,false,false⟩ ⟨⟨ps,pb,false⟩,false,true,ch⟩=r at *;obtain⟨a9,N3⟩:=r;simp only at X P C;go_wp2_with fail;refine(X.out).mono ?_;rintro e w4 ⟨be,rfl,a5,aD,aU⟩;have HW:Hid (j9 w w0 B g b st (some ⟨bs,off,none⟩) c d n0 L be (.int .i64 ((k+1:Nat):Int)) w4):=aJ ⟨k+1,a9,N3,rfl,n,aJ a5,aJ aD,aJ (H.out.trans aU),aJ (P.out.2.1.next (fun cc q hs=>by
        rw[R.out] at hs;obtain⟨_,h2,h3,h4⟩:=kN HY.out hs;rcases h4 with⟨rfl,rfl⟩|⟨_,_,rfl⟩
        ·exact P.out.2.2.2.some (an.out h2)
        ·exact P.out.2.2.1)),aJ (by have:=i.out;have:=C.out;omega)⟩
       obtain⟨_,c4,rfl,_,_,_⟩:=aD.shape;clear a5 aD aU X P C J I H G Z o i p0 p1 e0 e1 e2;go_wp2_with fail;go_roundw
       case rel=>exact HW.out
       case measure=>simp[intOf];omega
   ·have bf:(V !=1)=true:=by simpa using ai
    have HW:Hid (j9 w w0 B g b st (some ⟨bs,off,none⟩) c d n0 L (.slice An N.length cn) (.int .i64 ((k+1:Nat):Int)) W):=aJ ⟨k+1,al,N,rfl,n,ae,ad,aa,aJ (o.out.next (fun c q hs=>by rw[R.out] at hs;exact absurd (kN HY.out hs).1 ai)),i⟩
    clear ae ad aa aq ar ai;go_wp2_with fail;go_roundw
    case rel=>exact HW.out
    case measure=>simp[intOf];omega
  ·obtain rfl:k=L.length:=by omega
   obtain⟨An,cn,rfl,_,_,_⟩:=HO.out.shape;have HE:=aJ (av.out _ al N wr HS.out HO.out o.out i.out);clear av HS HO HK o;go_wp2_with fail;go_ret;exact HE.out
def jZ (st:List Nd) (eol:Bool) (p:Sp):Bool:=((nd st p.s).kind==5)&&(p.e==eol)
theorem Ct (w0:World) (B g b k1 k2:Nat) (st:List Nd) (A:Option Addr) (c:Nat) (al:List (Sp×Og)) (eol:Bool) (w:World) (h:SK w0 w B g b st A c al) (h1:w.heap[k1]? =some (.cells #[.pointer (some ⟨g,0,none⟩)] 215 (0,0))) (h2:w.heap[k2]? =some (.cells #[.bool eol] 4 (0,0))) (p:Sp) (q:p.s<st.length):
  Calls Tryz.prog 170 #[mj p,.pointer (some ⟨k1,0,none⟩),.pointer (some ⟨k2,0,none⟩)] w (iA (.bool (jZ st eol p)) w):=by
 obtain⟨ps,pb,d⟩:=p;have o:Hid (jZ st eol ⟨ps,pb,d⟩=(((nd st ps).kind==5)&&(d==eol))):=aJ rfl;unfold mj;simp only at q ⊢;have l:=aM w (.cells #[.int .i64 (ps:Int),.bool pb,.bool d] 222);have n:=(Old.refl w).alloc (.cells #[.int .i64 (ps:Int),.bool pb,.bool d] 222);have hx:st[ps]? =some (nd st ps):=by unfold nd;rw[bD,bE q];rfl
 obtain⟨bs,off,rfl,_,m⟩:=(h.nodes.up h.old).at_ (by rw[aV];omega)
 have k:=m _ _ (cd st ps _ hx 0 (by omega))
 rw[Nat.add_zero] at k;have s1:(0:Int)≤(ps:Int):=by omega
 have z:(ps:Int)<(st.length:Int):=by omega
 replace k:w.cell? ⟨bs,off+ps*7,none⟩=some (.int .i64 (nd st ps).kind):=k
 have x:=aJ h
 have t:=aJ h1
 have u:=aJ h2
 have r:=aJ k
 clear h h1 h2 hx m k;generalize (nd st ps).kind=kd at *;go_enter Tryz.func170,Tryz.ntmps170;go_upto_region 1 with fail
 generalize w.alloc (.cells #[.int .i64 (ps:Int),.bool pb,.bool d] 222)=W at *;generalize w.heap.size=k3 at *;have a:=aJ n;have j:=aJ l;clear n l;have e:Hid (∀w',Old W w'→Old W w'∧w'.cell? ⟨k1,0,none⟩=some (.pointer (some ⟨g,0,none⟩))∧w'.cell? ⟨k2,0,none⟩=some (.bool eol)∧w'.cell? ⟨g,0,none⟩=some (.slice (some ⟨bs,off,none⟩) st.length c)∧w'.cell? ⟨k3,0,none⟩=some (.int .i64 (ps:Int))∧w'.cell? ⟨k3,2,none⟩=some (.bool d)∧
   w'.cell? ⟨bs,off+ps*7,none⟩=some (.int .i64 kd)):=aJ (fun w' i=>
  ⟨i,by rw[aK w' k1 0 _ _ _ ((a.out.up i).block t.out)];rfl,by rw[aK w' k2 0 _ _ _ ((a.out.up i).block u.out)];rfl,(x.out.up (a.out.up i)).cells.1,by rw[aK w' k3 0 _ _ _ (i.block j.out)];rfl,by rw[aK w' k3 2 _ _ _ (i.block j.out)];rfl,(a.out.up i).cell r.out⟩)
 by_cases hk:kd=5
 ·subst hk;have f:Hid (jZ st eol ⟨ps,pb,d⟩=(d==eol)):=aJ (by rw[o.out];rfl)
  clear o;obtain⟨_,a1,a2,a3,_,a5,_⟩:=e.out W (Old.refl _);go_quiet (fail);go_wp2_with fail;go_ret;rw[f.out];exact⟨rfl,a.out.drewN _⟩
 ·have y:(kd==5)=false:=by simpa using hk
  have f:Hid (jZ st eol ⟨ps,pb,d⟩=false):=aJ (by rw[o.out,y];rfl)
  clear o hk;obtain⟨_,a1,a2,a3,_,a5,_⟩:=e.out W (Old.refl _);go_quiet (fail);go_wp2_with fail;go_ret;rw[f.out];exact⟨rfl,a.out.drewN _⟩
def rm (st:List Nd) (eol:Bool) (L:List Sp) (r:Int):Prop:=(r= -1∧∀p∈L,jZ st eol p=false)∨∃i:Nat,r=i∧i<L.length∧jZ st eol (L.getD i gF)=true
def Ax (st:List Nd) (eol:Bool) (L:List Sp) (w:World) (v:Value) (wr:World):Prop:=∃k:Nat,v= .int .i64 k∧k≤L.length∧Hid (∀j,j<k→jZ st eol (L.getD j gF)=false)∧Hid (Old w wr)
theorem Cs (w0:World) (B g b k1 k2:Nat) (st:List Nd) (A:Option Addr) (c:Nat) (lv:Value) (al:List (Sp×Og)) (L:List Sp) (eol:Bool) (w:World) (h:SK w0 w B g b st A c al) (z:Own w B 222 3 lv L.length (eH L)) (h1:w.heap[k1]? =some (.cells #[.pointer (some ⟨g,0,none⟩)] 215 (0,0))) (h2:w.heap[k2]? =some (.cells #[.bool eol] 4 (0,0))) (x:∀p∈L,p.s<st.length) (R:L.length≤100000):
  Calls Tryz.prog 169 #[lv,.func (.func 170) #[] #[.pointer (some ⟨k1,0,none⟩),.pointer (some ⟨k2,0,none⟩)]] w (fun e w'=>∃r,e= .returned (.int .i64 r)∧rm st eol L r∧Old w w'):=by
 have m:Hid (∀r w',rm st eol L r→Old w w'→∃I,Ending.returned (.int .i64 r)= .returned (.int .i64 I)∧rm st eol L I∧Old w w'):=aJ (fun r w' h1 h2=>⟨r,rfl,h1,h2⟩)
 obtain⟨_,_,rfl,_,_,_⟩:=z.shape;have N:=aJ h;have i:=aJ z;have J:=aJ h1;have K:=aJ h2;have O:=aJ x;clear h z h1 h2 x;go_enter Tryz.func169,Tryz.ntmps169;go_wp2_with fail;go_loopw [8] (fun E wr=>Ax st eol L w E wr) (fun E _=>L.length-(intOf E).toNat)
 case atStart=>exact⟨0,rfl,bO _,aJ (fun j hj=>by omega),aJ (Old.refl _)⟩
 case round=>
  obtain⟨k,rfl,hk,t,f⟩:=hrel
  by_cases a:k<L.length
  ·have T:(k:Int)<(L.length:Int):=by omega
   have S:(0:Int)≤(k:Int):=by omega
   obtain⟨ga,_,C,_,_,_,_⟩:=i.out.form (by omega)
   injection C with hA _ hc
   subst hA;subst hc;have D:=((i.out.up f.out).cellAt ((cQ L k a 0 (by omega)).trans rfl)).1
   have G:=((i.out.up f.out).cellAt ((cQ L k a 1 (by omega)).trans rfl)).1
   have H:=((i.out.up f.out).cellAt ((cQ L k a 2 (by omega)).trans rfl)).1
   rw[Nat.add_zero] at D;have u:L.getD k gF∈L:=by rw[bD,bE a];exact bH a
   have hc:=Ct w0 B g b k1 k2 st A c al eol wr (N.out.up f.out) (f.out.block J.out) (f.out.block K.out) (L.getD k gF) (O.out _ u)
   obtain⟨p,n⟩:∃p,L.getD k gF=p:=⟨_,rfl⟩
   rw[n] at D G H hc;have l:=aJ n;clear n u;obtain⟨ps,pb,Q⟩:=p;unfold mj at hc;simp only at D G H hc;have o:=aJ hc;clear hc;cases q:jZ st eol ⟨ps,pb,Q⟩ with
   |true=>
    rw[q] at o;have F:Hid (rm st eol L (k:Int)):=aJ (bY ⟨k,rfl,a,by rw[l.out];exact q⟩)
    clear q l t;go_wp2_with fail;refine(o.out).mono ?_;rintro e w2 ⟨rfl,d⟩;have y:=aJ (m.out _ w2 F.out (f.out.up d));clear d o m F;go_wp2_with fail;go_ret;exact y.out
   |false=>
    rw[q] at o;have M:Hid (∀j,j<k+1→jZ st eol (L.getD j gF)=false):=aJ (fun j hj=>by
     by_cases e:j=k
     ·subst e;rw[l.out];exact q
     ·exact t.out j (by omega))
    clear q l t;go_wp2_with fail;refine(o.out).mono ?_;rintro e w2 ⟨rfl,d⟩;have P:Hid (Ax st eol L w (.int .i64 ((k+1:Nat):Int)) w2):=aJ ⟨k+1,rfl,a,M,aJ (f.out.up d)⟩;clear d o;go_wp2_with fail;go_roundw
    case rel=>exact P.out
    case measure=>simp[intOf];omega
  ·obtain rfl:k=L.length:=by omega
   have y:=aJ (m.out (-1) wr (bX ⟨rfl,fun p x=>by
    obtain⟨j,hj,rfl⟩:=List.mem_iff_getElem.mp x;have:=t.out j hj
    rwa [bD,bE hj] at this⟩) f.out)
   clear m t;go_wp2_with fail;go_ret;exact y.out
theorem rD (w0:World) (B g b:Nat) (st:List Nd) (A:Option Addr) (c:Nat) (lv:Value) (al:List (Sp×Og)) (L:List Sp) (eol:Bool) (w:World) (h:SK w0 w B g b st A c al) (n:Own w B 222 3 lv L.length (eH L)) (q:∀p∈L,p.s<st.length) (y:L.length≤100000):
  Calls Tryz.prog 111 #[.pointer (some ⟨g,0,none⟩),lv,.bool eol] w (fun e w'=>∃r,e= .returned (.int .i64 r)∧rm st eol L r∧Old w w'):=by
 have f:Hid (∀r w',rm st eol L r→Old w w'→∃u,Ending.returned (.int .i64 r)= .returned (.int .i64 u)∧rm st eol L u∧Old w w'):=aJ (fun r w' h1 h2=>⟨r,rfl,h1,h2⟩)
 obtain⟨_,_,rfl,_,_,_⟩:=n.shape;have i:=aM w (.cells #[.pointer (some ⟨g,0,none⟩)] 215);have l:=(Old.refl w).alloc (.cells #[.pointer (some ⟨g,0,none⟩)] 215);have j:=aM (w.alloc (.cells #[.pointer (some ⟨g,0,none⟩)] 215)) (.cells #[.bool eol] 4);have a:=l.alloc (.cells #[.bool eol] 4);have d:=((Old.refl (w.alloc (.cells #[.pointer (some ⟨g,0,none⟩)] 215))).alloc (.cells #[.bool eol] 4)).block i;have hc:=Cs w0 B g b _ _ st A c _ al L eol _ (h.up a) (n.up a) d j q y;rw[Dc] at hc;have o:=aJ hc;have m:=aJ a;clear h n i j d l a hc q;go_enter Tryz.func111,Tryz.ntmps111;go_wp2_with fail;refine(o.out).mono ?_;rintro e z ⟨r,rfl,t,k⟩;have x:=aJ (f.out r z t (m.out.up k));clear f t k o;go_wp2_with fail;go_ret;exact x.out
def tq (T:List Nat) (i:Nat):List Nat:=(List.range T.length).map fun k=>if k<i∨T.length≤k+i then T.getD (T.length-1-k) 0 else T.getD k 0
theorem eP (T:List Nat) (i:Nat):(tq T i).length=T.length:=by simp[tq]
theorem iF (T:List Nat) (i k:Nat) (hk:k<T.length):(tq T i).getD k 0=if k<i∨T.length≤k+i then T.getD (T.length-1-k) 0 else T.getD k 0:=by
 unfold tq;rw[bD,List.getElem?_map,List.getElem?_range hk];rfl
theorem uU (T:List Nat):tq T 0=T:=by
 apply List.ext_getElem?;intro k
 by_cases hk:k<T.length
 ·have h:=iF T 0 k hk
  rw[if_neg (by omega)] at h
  rw[bD,bD,bE hk,bE (by rw[eP];exact hk)] at h
  rw[bE hk,bE (by rw[eP];exact hk)]
  exact congrArg some h
 ·rw[bI (by rw[eP];omega),bI (by omega)]
theorem iR {a b:List Nat} (c:a.length=b.length) (h:∀k,k<a.length→a.getD k 0=b.getD k 0):a=b:=by
 apply List.ext_getElem c;intro k h1 h2;have:=h k h1
 rwa [bD,bD,bE h1,bE h2] at this
theorem pJ (T:List Nat) (i k x:Nat) (hk:k<T.length):(T.set i x).getD k 0=if k=i then x else T.getD k 0:=by
 rw[bD,bD]
 by_cases e:k=i
 ·subst e;rw[List.getElem?_set_self hk,if_pos rfl];rfl
 ·rw[List.getElem?_set_ne (Ne.symm e),if_neg e]
theorem uV (T:List Nat) (i j:Nat) (hj:j+i+1=T.length) (b:i<j):((tq T i).set i ((tq T i).getD j 0)).set j ((tq T i).getD i 0)=tq T (i+1):=by
 refine iR (by simp[eP]) (fun k hk=>?_)
 simp only[bK,eP] at hk;rw[pJ _ _ _ _ (by rw[bK,eP];exact hk),pJ _ _ _ _ (by rw[eP];exact hk),iF T (i+1) k hk,iF T i k hk,iF T i j (by omega),iF T i i (by omega)]
 by_cases h1:k=j
 ·subst h1;rw[if_pos rfl,if_neg (by omega),if_pos (by omega),show T.length-1-k=i by omega]
 ·rw[if_neg h1]
  by_cases h2:k=i
  ·subst h2;rw[if_pos rfl,if_neg (by omega),if_pos (by omega),show T.length-1-k=j by omega]
  ·rw[if_neg h2]
   by_cases a:k<i∨T.length≤k+i
   ·rw[if_pos a,if_pos (by omega)]
   ·rw[if_neg a,if_neg (by omega)]
theorem yg (T:List Nat) (i:Nat) (a:T.length≤2*i+1):tq T i=T.reverse:=by
 refine iR (by simp[eP]) (fun k hk=>?_)
 rw[eP] at hk;rw[iF T i k hk,bD (l:=T.reverse),List.getElem?_reverse hk,←bD]
 by_cases h:k<i∨T.length≤k+i
 ·rw[if_pos h]
 ·rw[if_neg h,show T.length-1-k=k by omega]
theorem rv (T:List Nat) (i x:Nat):(cZ T).set i (.int .u8 (x:Int))=cZ (T.set i x):=by unfold cZ;rw[List.map_set]
def Ao (w:World) (B:Nat) (v:Value) (T:List Nat) (a b:Value) (wr:World):Prop:=
 ∃i:Nat,a= .int .i64 i∧b= .int .i64 ((T.length:Int)-1-(i:Int))∧2*i≤T.length+1∧Hid (Own wr B 5 1 v T.length (cZ (tq T i)))∧Hid (w.grownBy wr v.ownBlock)
theorem ta (B:Nat) (v:Value) (T:List Nat) (w:World) (h:Own w B 5 1 v T.length (cZ T)) (F:T.length≤1000000000):
  Calls Tryz.prog 171 #[v] w (fun e w'=>e= .returned (.tuple #[])∧Own w' B 5 1 v T.length (cZ T.reverse)∧w.grownBy w' v.ownBlock):=by
 obtain⟨t,o,rfl,_,_,_⟩:=h.shape;have y:=aJ h;clear h;go_enter Tryz.func171,Tryz.ntmps171;go_wp2_with fail;go_loopw [2,3] (fun m E wr=>Ao w B (.slice t T.length o) T m E wr) (fun m _ _=>T.length+1-(intOf m).toNat)
 case atStart=>exact⟨0,rfl,by simp,by omega,aJ (by rw[uU];exact y.out),aJ (World.grownBy.refl _ _)⟩
 case round=>
  obtain⟨i,rfl,rfl,_,a,f⟩:=hrel
  by_cases A:2*i+1<T.length
  ·obtain⟨j,hj⟩:∃j,j+i+1=T.length:=⟨T.length-1-i,by omega⟩
   have k:(T.length:Int)-1-(i:Int)=(j:Int):=by omega
   rw[k];obtain⟨ga,_,l,_,_,_,_⟩:=a.out.form (by omega)
   injection l with hA _ hc
   subst hA;subst hc;have C:(i:Int)<(j:Int):=by omega
   have n:=aJ (uV T i j hj (by omega))
   have b:=aJ (eP T i)
   generalize tq T i=U at *;have G:(0:Int)≤(i:Int):=by omega
   have H:(i:Int)<(T.length:Int):=by omega
   have I:(0:Int)≤(j:Int):=by omega
   have J:(j:Int)<(T.length:Int):=by omega
   obtain⟨c1,f1⟩:=a.out.cellAt ((iB U i (by have:=b.out;omega)).trans rfl)
   obtain⟨c2,f2⟩:=a.out.cellAt ((iB U j (by have:=b.out;omega)).trans rfl)
   obtain⟨r,c⟩:∃x,U.getD i 0=x:=⟨_,rfl⟩
   obtain⟨s,d⟩:∃x,U.getD j 0=x:=⟨_,rfl⟩
   rw[c] at c1;rw[d] at c2;have g:=n.out;rw[c,d] at g;obtain⟨h1,p⟩:=a.out.set_ i (.int .u8 (s:Int));obtain⟨h2,q⟩:=Own.set_ h1 j (.int .u8 (r:Int));rw[rv,rv,g] at h2;have z:Hid (Ao w B (.slice (some ⟨ga,0,none⟩) T.length o) T (.int .i64 ((i:Int)+1)) (.int .i64 ((j:Int)-1)) (((wr.setCell ⟨ga,i,none⟩ (.int .u8 (s:Int))).setCell ⟨ga,j,none⟩ (.int .u8 (r:Int))).drew)):=aJ ⟨i+1,rfl,by
    have e:(j:Int)-1=(T.length:Int)-1-((i+1:Nat):Int):=by omega
    rw[e],by omega,aJ (h2.up ((Old.refl _).drew)),aJ (f.out.trans ((p.trans q).trans ⟨rfl,rfl,rfl,bM _,fun _ _ _=>rfl⟩))⟩
   have hne:¬(i=j):=by omega
   clear h1 h2 p q g c d n b a f;go_upto_region 3 with fail
   go_region_with (fail)
   all_goals
    go_wp2_with fail;go_roundw
   all_goals first
    |exact z.out
    |(simp[intOf];omega)
  ·have u:Hid (tq T i=T.reverse):=aJ (yg T i (by omega))
   rw[u.out] at a;have D:¬((i:Int)<(T.length:Int)-1-(i:Int)):=by omega
   go_wp2_with fail;go_end0;exact⟨rfl,a.out,f.out⟩
theorem Bk.has {al:List (Sp×Og)} {p:Sp} {t:List Nat} {n:Nat} (h:Bk al p t n):∃o,lk al p=some o∧((o.root=true∧t=[]∧n=0)∨(o.root=false∧∃t' d,n=d+1∧Bk al o.from_ t' d∧((o.over=false∧t=t')∨(o.over=true∧t=t'++[o.c])))):=by
 cases h with
 |root _ o h1 h2=>exact⟨o,h1,bX ⟨h2,rfl,rfl⟩⟩
 |eps _ o _ n h1 h2 a b=>exact⟨o,h1,bY ⟨h2,t,n,rfl,b,bX ⟨a,rfl⟩⟩⟩
 |over _ o t' n h1 h2 a b=>exact⟨o,h1,bY ⟨h2,t',n,rfl,b,bY ⟨a,rfl⟩⟩⟩
def rS (o:Og):List Value:=[.int .i64 (o.from_.s:Int),.bool o.from_.b,.bool o.from_.e,.bool o.root,.bool o.over,.int .u8 (o.c:Int)]
def OrAt (w:World) (k:Nat) (o:Og):Prop:=w.heap[k]? =some (.cells (rS o).toArray 224 (0,0))
theorem OrAt.cells {w:World} {k:Nat} {o:Og} (h:OrAt w k o):w.cell? ⟨k,0,none⟩=some (.int .i64 (o.from_.s:Int))∧w.cell? ⟨k,1,none⟩=some (.bool o.from_.b)∧w.cell? ⟨k,2,none⟩=some (.bool o.from_.e)∧w.cell? ⟨k,3,none⟩=some (.bool o.root)∧w.cell? ⟨k,4,none⟩=some (.bool o.over)∧w.cell? ⟨k,5,none⟩=some (.int .u8 (o.c:Int)):=
 ⟨by rw[aK w k 0 _ _ _ h];rfl,by rw[aK w k 1 _ _ _ h];rfl,by rw[aK w k 2 _ _ _ h];rfl,by rw[aK w k 3 _ _ _ h];rfl,by rw[aK w k 4 _ _ _ h];rfl,by rw[aK w k 5 _ _ _ h];rfl⟩
def zU (W:World) (k:Nat) (o:Og):World:=(((((W.setCell ⟨k,0,none⟩ (.int .i64 (o.from_.s:Int))).setCell ⟨k,1,none⟩ (.bool o.from_.b)).setCell ⟨k,2,none⟩ (.bool o.from_.e)).setCell ⟨k,3,none⟩ (.bool o.root)).setCell ⟨k,4,none⟩ (.bool o.over)).setCell ⟨k,5,none⟩ (.int .u8 (o.c:Int))
theorem AS {W:World} {k:Nat} {o a:Og} (h:OrAt W k o):OrAt (zU W k a).drew k a:=by
 have d:=aO W k 0 _ _ (.int .i64 (a.from_.s:Int)) h
 have f:=aO _ k 1 _ _ (.bool a.from_.b) d
 have g:=aO _ k 2 _ _ (.bool a.from_.e) f
 have i:=aO _ k 3 _ _ (.bool a.root) g
 have j:=aO _ k 4 _ _ (.bool a.over) i
 have l:=aO _ k 5 _ _ (.int .u8 (a.c:Int)) j
 have e:∀W:World,W.drew.heap=W.heap:=fun _=>rfl
 unfold OrAt zU;rw[e,l];simp[rS]
theorem gt {w W:World} {k:Nat} (h:Old w W) (hk:w.heap.size≤k) (i:Nat) (u:Value):Old w (W.setCell ⟨k,i,none⟩ u):=h.setCell hk u
theorem ya {w W:World} {k:Nat} (h:Old w W) (hk:w.heap.size≤k) (o:Og):Old w (zU W k o).drew:=by
 refine Old.drew ?_;unfold zU;exact gt (gt (gt (gt (gt (gt h hk 0 _) hk 1 _) hk 2 _) hk 3 _) hk 4 _) hk 5 _
theorem gq {W:World} {B:Nat} {e:TypeId} {s:Nat} {v:Value} {n k:Nat} {xs:List Value} (h:Own W B e s v n xs) (hk:some k≠v.ownBlock) (i:Nat) (u:Value):Own (W.setCell ⟨k,i,none⟩ u) B e s v n xs:=
 bT h (iM W k i u) (bY (fun e=>hk e.symm))
theorem xZ {W:World} {B:Nat} {e:TypeId} {s:Nat} {v:Value} {n k:Nat} {xs:List Value} (h:Own W B e s v n xs) (hk:some k≠v.ownBlock) (o:Og):Own (zU W k o).drew B e s v n xs:=by
 unfold zU;exact Own.up (gq (gq (gq (gq (gq (gq h hk 0 _) hk 1 _) hk 2 _) hk 3 _) hk 4 _) hk 5 _) (Old.refl _).drew
def Ag (w:World) (T t':List Nat) (kb:Nat) (o:Og) (a:Value) (wr:World):Prop:=
 ∃acc:List Nat,Hid (OrAt wr kb o)∧Hid (T=t'++acc.reverse)∧Hid (Own wr w.heap.size 5 1 a acc.length (cZ acc))∧Hid (Old w wr)∧acc.length≤100000∧t'.length+acc.length≤100000
def wX (w:World) (al:List (Sp×Og)) (T:List Nat) (gk:Nat) (a b:Value) (wr:World):Prop:=
 ∃(p:Sp) (o:Og) (t acc:List Nat) (kb:Nat),b= .pointer (some ⟨kb,0,none⟩)∧Hid (w.heap.size≤kb)∧Hid (OrAt wr kb o)∧Hid (lk al p=some o)∧Hid (Bk al p t gk)∧Hid (T=t++acc.reverse)∧Hid (Own wr w.heap.size 5 1 a acc.length (cZ acc))∧Hid (Old w wr)∧acc.length≤100000∧t.length+acc.length≤100000
theorem uM (w0:World) (B g b:Nat) (st:List Nd) (A:Option Addr) (c:Nat) (al:List (Sp×Og)) (w:World) (h:SK w0 w B g b st A c al) (aa:∀p,(lk al p).isSome=true→p.s<1000000) (p:Sp) (T:List Nat) (n:Nat) (hb:Bk al p T n) (hT:T.length≤100000):
  Calls Tryz.prog 112 #[.pointer (some ⟨g,0,none⟩),mj p] w (fun e w'=>∃v,e= .returned v∧Own w' w.heap.size 5 1 v T.length (cZ T)∧Old w w'):=by
 have HH:=aJ h
 have HB:=aJ hb
 have U:=aJ aa
 obtain⟨o,M,_⟩:=hb.has;have u:=aJ M;have ax:p.s<1000000:=aa p (by rw[M];rfl)
 have V:=aJ (fun w' (i:Old w w')=>(h.up i).map.look ax M)
 have I:Hid (∀v w',Own w' w.heap.size 5 1 v T.length (cZ T)→Old w w'→∃v',Ending.returned v= .returned v'∧Own w' w.heap.size 5 1 v' T.length (cZ T)∧Old w w'):=aJ (fun v w' h1 h2=>⟨v,rfl,h1,h2⟩)
 clear h hb aa M;have ai:=aM w (.cells (da p).toArray 222);have ab:=(Old.refl w).alloc (.cells (da p).toArray 222);have aq:Hid (p=p):=aJ rfl;have ap:Hid (∃q,q=p):=aJ ⟨p,rfl⟩
 obtain⟨ps,pb,pe⟩:=p;obtain⟨⟨fs,k,l⟩,rt,F,ch⟩:=o;unfold mj pW at *;unfold da at *;simp only at *;go_enter Tryz.func112,Tryz.ntmps112;go_upto_region 2 with fail
 generalize w.alloc (.cells #[.int .i64 (ps:Int),.bool pb,.bool pe] 222)=W at *;have x:=aJ ab;have m:=aJ ai;have ag:Hid (w.heap.size≤W.heap.size):=aJ ab.size;clear ab ai aq ap;have N:Hid (∀w',Old W w'→Old W w'∧w'.cell? ⟨g,1,none⟩=some (.map (some b))∧w'.cell? ⟨w.heap.size,0,none⟩=some (.int .i64 (ps:Int))∧w'.cell? ⟨w.heap.size,1,none⟩=some (.bool pb)∧w'.cell? ⟨w.heap.size,2,none⟩=some (.bool pe)∧
   (Instr.lookup 216 (.map (some b)) (.agg #[.int .i64 (ps:Int),.bool pb,.bool pe]) false).run Tryz.prog w'= .ok (.agg #[.int .i64 (fs:Int),.bool k,.bool l,.bool rt,.bool F,.int .u8 (ch:Int)]) w'):=aJ (fun w' i=>
  ⟨i,(HH.out.up (x.out.up i)).cells.2,by rw[aK w' w.heap.size 0 _ _ _ (i.block m.out)];rfl,by rw[aK w' w.heap.size 1 _ _ _ (i.block m.out)];rfl,by rw[aK w' w.heap.size 2 _ _ _ (i.block m.out)];rfl,V.out w' (x.out.up i)⟩)
 go_cut [6] (fun v wx=>∃kb,v= .pointer (some ⟨kb,0,none⟩)∧Hid (W.heap.size≤kb∧OrAt wx kb ⟨⟨fs,k,l⟩,rt,F,ch⟩)∧Hid (Old W wx))
 case first=>
  clear HH HB U u V I x m;go_region_held3 (fun w'=>Old W w'∧w'.cell? ⟨g,1,none⟩=some (.map (some b))∧w'.cell? ⟨w.heap.size,0,none⟩=some (.int .i64 (ps:Int))∧w'.cell? ⟨w.heap.size,1,none⟩=some (.bool pb)∧w'.cell? ⟨w.heap.size,2,none⟩=some (.bool pe)∧
   (Instr.lookup 216 (.map (some b)) (.agg #[.int .i64 (ps:Int),.bool pb,.bool pe]) false).run Tryz.prog w'= .ok (.agg #[.int .i64 (fs:Int),.bool k,.bool l,.bool rt,.bool F,.int .u8 (ch:Int)]) w') ((refine N.out _ ?_;first|exact(Old.refl _).drew|exact((Old.refl _).alloc _).drew)) (fail)
  all_goals (go_wp2_with fail;go_meet;exact⟨_,rfl,aJ ⟨bM _,aM W _⟩,aJ (((Old.refl _).alloc _).drew)⟩)
 case rest=>
  obtain⟨kb,rfl,G,ad⟩:=hcut;clear N V;have HI:Hid (wX w al T n (.slice none 0 0) (.pointer (some ⟨kb,0,none⟩)) wc):=aJ ⟨⟨ps,pb,pe⟩,⟨⟨fs,k,l⟩,rt,F,ch⟩,T,[],kb,rfl,aJ (by have:=G.out.1;have:=ag.out;omega),aJ G.out.2,u,HB,aJ (by simp),aJ (Own.nil_ _ _ _ _),aJ (x.out.up ad.out),by simp,by simpa using hT⟩
  clear G ad u HB m ag x hT;go_wp2_with fail;go_loopg [5,6] n (fun gk s5 s6 wr=>wX w al T gk s5 s6 wr)
  case atStart=>exact HI.out
  case round=>
   clear HI;obtain⟨p,o,t,acc,kb,rfl,G,f,HL,R,J,a,E,L,D⟩:=hrel;obtain⟨o',j,z⟩:=R.out.has;have aw:o'=o:=by have:=HL.out;rw[j] at this;injection this
   subst aw;obtain⟨_,_,rfl,_,_,_⟩:=a.out.shape;obtain⟨a0,a1,a2,a3,a4,a5⟩:=f.out.cells;have u:=aJ j;clear j HL;obtain⟨⟨fs,k,l⟩,rt,F,ch⟩:=o';simp only at a0 a1 a2 a3 a4 a5 z;rcases z with⟨rfl,rfl,rfl⟩|⟨rfl,t',n',rfl,Z,an⟩
   ·have HE:Hid (acc.reverse=T):=aJ (by have:=J.out;simpa using this.symm)
    have ay:Hid (acc.length=T.length):=aJ (by rw[←HE.out];simp)
    have HC:=aJ (ta w.heap.size _ acc wr a.out (by omega))
    clear J R a0 a1 a2 a4 a5;go_wp2_with fail;refine(HC.out).mono ?_;rintro e w2 ⟨rfl,C,ak⟩;have HX:=aJ (I.out _ w2 (by rw[←HE.out,List.length_reverse];exact C) (Own.grown_old E.out a.out (bM _) ak))
    clear C ak HC I;go_wp2_with fail;go_ret;exact HX.out
   ·have O:=aJ Z
    obtain⟨o2,C,_⟩:=Z.has;have H:=aJ C;clear Z C R u;go_upto_block 1 with fail
    go_cut [5] (fun v5 wx=>Ag w T t' kb ⟨⟨fs,k,l⟩,false,F,ch⟩ v5 wx)
    case first=>
     clear I HH U;rcases an with⟨rfl,rfl⟩|⟨rfl,rfl⟩
     ·go_wp2_with fail;go_meet;exact⟨acc,f,J,a,E,L,D⟩
     ·have au:=aJ E.out.size
      rw[bF,bG] at D;go_wp2_with (at_builtin;refine aE (wr:=wr) rfl _ _ 35 rfl _ 5 (.int .u8 0) 1 1 Tryz.underlying35 sk rfl (by decide) (by decide) _ _ _ rfl a.out 1 1 [.int .u8 (ch:Int)] rfl rfl rfl rfl ?pn1 au.out ?_)
      case pn1=>omega
      intro v' w2 i hg hd;have P:=aJ (show OrAt w2 kb _ from(hg.block kb (aQ f.out) (eu a.out f.out (by decide))).trans f.out)
      have j:Own w2 w.heap.size 5 1 v' (acc++[ch]).length (cZ (acc++[ch])):=by rw[bF,bG];unfold cZ at i ⊢;rw[List.map_append];exact i
      have HM:Hid (Ag w T t' kb ⟨⟨fs,k,l⟩,false,true,ch⟩ v' w2):=aJ ⟨acc++[ch],P,aJ (by rw[J.out,List.reverse_append];simp),aJ j,aJ (hd w E.out (bM _)),by rw[bF,bG];omega,by rw[bF,bG];omega⟩
      obtain⟨A2,c2,rfl,_,_,_⟩:=i.shape;clear i j hg hd P a E J f;go_wp2_with fail;go_meet;exact HM.out
    case rest=>
     clear f J a E L D a0 a1 a2 a3 a4 a5 an;obtain⟨Q,f,J,a,E,L,D⟩:=hcut;obtain⟨ao,av,rfl,_,_,_⟩:=a.out.shape;obtain⟨a0,a1,a2,a3,a4,a5⟩:=f.out.cells;simp only at a0 a1 a2 a3 a4 a5;have aj:=aM wc (.cells #[.int .i64 (fs:Int),.bool k,.bool l,.bool false,.bool F,.int .u8 (ch:Int)] 224);have ac:=(Old.refl wc).alloc (.cells #[.int .i64 (fs:Int),.bool k,.bool l,.bool false,.bool F,.int .u8 (ch:Int)] 224);go_upto_region 4 with fail
     generalize wc.alloc (.cells #[.int .i64 (fs:Int),.bool k,.bool l,.bool false,.bool F,.int .u8 (ch:Int)] 224)=W4 at *;have r:Hid (w.heap.size≤wc.heap.size):=aJ E.out.size;have X:=aJ (E.out.up ac);have y:=aJ (a.out.up ac);have Y:=aJ (HH.out.up X.out);have d:Hid (OrAt W4 wc.heap.size ⟨⟨fs,k,l⟩,false,F,ch⟩):=aJ aj;generalize wc.heap.size=kb6 at *;have am:=(Y.out.up (Old.refl _).drew).map.look (U.out _ (by rw[H.out];rfl)) H.out
     obtain⟨⟨gs,gb,ge⟩,r2,v2,ah⟩:=o2;unfold mj pW at am;simp only at am;obtain⟨_,_⟩:=Y.out.cells;obtain⟨b0,b1,b2,b3,b4,b5⟩:=d.out.cells;simp only at b0 b1 b2 b3 b4 b5;have f0:W4.frozen? ⟨kb6,0,none⟩=false:=aN W4 kb6 0 _ _ d.out;have f1:W4.frozen? ⟨kb6,1,none⟩=false:=aN W4 kb6 1 _ _ d.out;have f2:W4.frozen? ⟨kb6,2,none⟩=false:=aN W4 kb6 2 _ _ d.out;have f3:W4.frozen? ⟨kb6,3,none⟩=false:=aN W4 kb6 3 _ _ d.out;have f4:W4.frozen? ⟨kb6,4,none⟩=false:=aN W4 kb6 4 _ _ d.out;have f5:W4.frozen? ⟨kb6,5,none⟩=false:=aN W4 kb6 5 _ _ d.out;clear aj ac f a E a0 a1 a2 a3 a4 a5;have HW:Hid (wX w al T n' (.slice ao Q.length av) (.pointer (some ⟨kb6,0,none⟩)) (zU W4 kb6 ⟨⟨gs,gb,ge⟩,r2,v2,ah⟩).drew):=aJ ⟨⟨fs,k,l⟩,⟨⟨gs,gb,ge⟩,r2,v2,ah⟩,t',Q,kb6,rfl,r,aJ (AS d.out),H,O,J,aJ (xZ y.out (eu y.out d.out (by decide)) _),aJ (ya X.out r.out _),L,D⟩
     unfold zU at HW;simp only at HW;clear J H O d r X y Y;refine wp_region_still_tail 7 (by kernel_rfl) (by kernel_rfl) ?_
     simp only[List.take_succ_cons,List.take_zero,List.drop_succ_cons,List.drop_zero];refine kY (fun S af ar ae=>?_)
     iterate 7 (refine af.out _ _ _ (by kernel_rfl) (fun K hK=>?_);go_simp;refine hK _ ?_;clear hK K)
     refine ae.out _ ?_;clear af ar ae;go_wp2_with fail;go_roundg n'
     case rel=>exact HW.out
     case measure=>omega
theorem qd (st:List Nd):bt st=decide (1≤st.length∧st.length≤513∧∀i,i<st.length→jx st.length (nd st i)):=by
 unfold bt;rw[decide_eq_decide];constructor
 ·rintro⟨h1,h2,b⟩;refine⟨h1,h2,fun i a=>b _ ?_⟩
  unfold nd;rw[bD,bE a];exact bH a
 ·rintro⟨h1,h2,b⟩;refine⟨h1,h2,fun x hx=>?_⟩
  obtain⟨i,a,rfl⟩:=List.mem_iff_getElem.mp hx;have:=b i a;unfold nd at this;rw[bD,bE a] at this;exact this
def fu (n:Nat) (x:Int):Bool:=decide (x<0∨(n:Int)≤x)
theorem rX (b n c:Nat) (A:Option Addr) (x:Int) (w:World) (g:w.cell? ⟨b,0,none⟩=some (.slice A n c)):
  Calls Tryz.prog 167 #[.int .i64 x,.pointer (some ⟨b,0,none⟩)] w fun e w'=>e= .returned (.bool (fu n x))∧w=w':=by
 by_cases h1:x<0
 ·have d:decide (x<0)=true:=decide_eq_true h1
  have a:Hid (fu n x=true):=aJ (decide_eq_true (bX h1))
  go_enter Tryz.func167,Tryz.ntmps167
  go_wp2_with fail;go_ret;rw[a.out];exact⟨rfl,rfl⟩
 ·have d:decide (x<0)=false:=decide_eq_false h1
  by_cases h2:(n:Int)≤x
  ·have a:Hid (fu n x=true):=aJ (decide_eq_true (bY h2))
   have f:decide ((n:Int)≤x)=true:=decide_eq_true h2
   go_enter Tryz.func167,Tryz.ntmps167
   go_wp2_with fail;go_ret;rw[a.out];exact⟨rfl,rfl⟩
  ·have a:Hid (fu n x=false):=aJ (decide_eq_false (by rintro(h|h);exact h1 h;exact h2 h))
   have f:decide ((n:Int)≤x)=false:=decide_eq_false h2
   go_enter Tryz.func167,Tryz.ntmps167
   go_wp2_with fail;go_ret;rw[a.out];exact⟨rfl,rfl⟩
def nn (a:World) (st:List Nd) (v:Value) (wr:World):Prop:=
 ∃i:Nat,v= .int .i64 i∧i≤st.length∧Hid (∀s,s<i→jx st.length (nd st s))∧Hid (Old a wr)
theorem el {n:Nat} {x:Int} (h:fu n x=false):0≤x∧x<n:=by
 have:=of_decide_eq_false h
 omega
theorem eR {n:Nat} {x:Int} (h:fu n x=true):¬(0≤x∧x<n):=by
 have:=of_decide_eq_true h
 omega
theorem yw (A:Option Addr) (c:Nat) (st:List Nd) (w:World) (hs:Rs w A (cI st)) (hm:st.length≤maxLen):
  Calls Tryz.prog 108 #[.slice A st.length c] w (iA (.bool (bt st)) w):=by
 have S:=aJ hs
 unfold maxLen at hm;have r:=aJ (qd st);have o:=aJ ((Old.refl w).alloc (.cells #[.slice A st.length c] 132));have z:Hid ((w.alloc (.cells #[.slice A st.length c] 132)).cell? ⟨w.heap.size,0,none⟩=some (.slice A st.length c)):=aJ (by rw[aK _ _ 0 _ _ _ (aM w _)];rfl)
 clear hs
 by_cases K:st.length=0
 ·have P:((st.length:Int)==0)=true:=by simpa using K
  have g:Hid (bt st=false):=aJ (by rw[r.out];exact decide_eq_false (fun h=>by omega))
  clear K;go_enter Tryz.func108,Tryz.ntmps108;go_wp2_with fail;go_ret;rw[g.out];exact⟨rfl,o.out⟩
 have P:((st.length:Int)==0)=false:=by simpa using K
 by_cases h5:513<st.length
 ·have Q:(513:Int)<(st.length:Int):=by omega
  have g:Hid (bt st=false):=aJ (by rw[r.out];exact decide_eq_false (fun h=>by omega))
  clear K;go_enter Tryz.func108,Tryz.ntmps108;go_wp2_with fail;go_ret;rw[g.out];exact⟨rfl,o.out⟩
 have Q:¬(513:Int)<(st.length:Int):=by omega
 go_enter Tryz.func108,Tryz.ntmps108
 go_upto_region 4 with fail
 have O:=z.out
 generalize w.alloc (.cells #[.slice A st.length c] 132)=w1 at *;generalize w.heap.size=kb at *;go_wp2_with fail;clear O P Q;go_loopw [17] (fun C wr=>nn w1 st C wr) (fun C _=>st.length-(intOf C).toNat)
 case atStart=>exact⟨0,rfl,bO _,aJ (fun s hs=>by omega),aJ (Old.refl _)⟩
 case round=>
  obtain⟨i,rfl,_,L,G⟩:=hrel
  by_cases l:i<st.length
  ·have i1:(i:Int)<(st.length:Int):=by omega
   have i0:(0:Int)≤(i:Int):=by omega
   obtain⟨b,off,rfl,_,k⟩:=(S.out.up (o.out.up G.out)).at_ (by rw[aV];omega)
   have hx:st[i]? =some (nd st i):=by unfold nd;rw[bD,bE l];rfl
   have x:=cd st i _ hx
   have D:=k _ _ (x 0 (by omega))
   have c1:=k _ _ (x 1 (by omega))
   have c2:=k _ _ (x 2 (by omega))
   have H:=k _ _ (x 3 (by omega))
   have c4:=k _ _ (x 4 (by omega))
   have I:=k _ _ (x 5 (by omega))
   have J:=k _ _ (x 6 (by omega))
   rw[←Nat.add_assoc] at D c1 c2 H c4 I J;rw[Nat.add_zero] at D;have d:Hid (jx st.length (nd st i)→∀s,s<i+1→jx st.length (nd st s)):=aJ (fun h s hs=>by
    by_cases e:s=i
    ·subst e;exact h
    ·exact L.out s (by omega))
   have a:Hid (¬jx st.length (nd st i)→bt st=false):=aJ (fun h=>by rw[r.out];exact decide_eq_false (fun q=>h (q.2.2 i l)))
   clear k hx L x;generalize nd st i=y at *;obtain⟨f,lf,rt,m⟩:=y
   replace D:wr.cell? ⟨b,off+i*7,none⟩=some (.int .i64 f):=D
   replace c1:wr.cell? ⟨b,off+i*7+1,none⟩=some (.int .i64 lf):=c1
   replace c2:wr.cell? ⟨b,off+i*7+2,none⟩=some (.int .i64 rt):=c2
   replace H:wr.cell? ⟨b,off+i*7+3,none⟩=some (.int .u64 (ab m 0)):=H
   replace c4:wr.cell? ⟨b,off+i*7+4,none⟩=some (.int .u64 (ab m 1)):=c4
   replace I:wr.cell? ⟨b,off+i*7+5,none⟩=some (.int .u64 (ab m 2)):=I
   replace J:wr.cell? ⟨b,off+i*7+6,none⟩=some (.int .u64 (ab m 3)):=J
   go_upto_region 7 with fail
   have F:StAt (wr.alloc (.cells (ao ⟨f,lf,rt,m⟩).toArray 213)) wr.heap.size ⟨f,lf,rt,m⟩:=aM wr _
   have j:=aJ (G.out.alloc (.cells (ao ⟨f,lf,rt,m⟩).toArray 213))
   have E:wr.alloc (.cells #[.int .i64 f,.int .i64 lf,.int .i64 rt,.int .u64 (ab m 0),.int .u64 (ab m 1),.int .u64 (ab m 2),.int .u64 (ab m 3)] 213)=wr.alloc (.cells (ao ⟨f,lf,rt,m⟩).toArray 213):=rfl
   rw[E];generalize wr.alloc (.cells (ao ⟨f,lf,rt,m⟩).toArray 213)=W at *;generalize wr.heap.size=k7 at *;clear D c1 c2 H c4 I J E G;obtain⟨T,U,V,_⟩:=F.cells;simp only at T U V;clear F;have u:=aJ (rX kb st.length c _ lf W (j.out.cell z.out));have n:=aJ (o.out.up j.out)
   by_cases B:f=1∨f=2∨f=3∨f=4∨f=5
   ·rcases B with rfl|rfl|rfl|rfl|rfl
    ·go_wp2_with fail;refine(u.out).mono ?_;rintro e W2 ⟨rfl,rfl⟩;cases p:fu st.length lf with
     |true=>
      have g:=aJ (a.out (fun h=>eR p (h.2.2.1 (by simp))))
      clear a d;go_wp2_with fail;go_ret;rw[g.out];exact⟨rfl,n.out⟩
     |false=>
      have t:Hid (nn w1 st (.int .i64 ((i+1:Nat):Int)) W):=aJ ⟨i+1,rfl,l,aJ (d.out ⟨by simp only;omega,by simp only;omega,fun _=>el p,fun e=>by simp at e⟩),j⟩
      clear a d;go_wp2_with fail;go_roundw
      case rel=>exact t.out
      case measure=>simp[intOf];omega
    ·have N:=aJ (rX kb st.length c _ rt W (j.out.cell z.out))
     go_wp2_with fail;refine(u.out).mono ?_;rintro e W2 ⟨rfl,rfl⟩;cases p:fu st.length lf with
     |true=>
      have g:=aJ (a.out (fun h=>eR p (h.2.2.1 (by simp))))
      clear a d;go_wp2_with fail;go_ret;rw[g.out];exact⟨rfl,n.out⟩
     |false=>
      go_wp2_with fail;refine(N.out).mono ?_;rintro e _ ⟨rfl,rfl⟩;cases R:fu st.length rt with
      |true=>
       have g:=aJ (a.out (fun h=>eR R (h.2.2.2 rfl)))
       clear a d;go_wp2_with fail;go_ret;rw[g.out];exact⟨rfl,n.out⟩
      |false=>
       have t:Hid (nn w1 st (.int .i64 ((i+1:Nat):Int)) W):=aJ ⟨i+1,rfl,l,aJ (d.out ⟨by simp only;omega,by simp only;omega,fun _=>el p,fun _=>el R⟩),j⟩
       clear a d;go_wp2_with fail;go_roundw
       case rel=>exact t.out
       case measure=>simp[intOf];omega
    ·go_wp2_with fail;refine(u.out).mono ?_;rintro e W2 ⟨rfl,rfl⟩;cases p:fu st.length lf with
     |true=>
      have g:=aJ (a.out (fun h=>eR p (h.2.2.1 (by simp))))
      clear a d;go_wp2_with fail;go_ret;rw[g.out];exact⟨rfl,n.out⟩
     |false=>
      have t:Hid (nn w1 st (.int .i64 ((i+1:Nat):Int)) W):=aJ ⟨i+1,rfl,l,aJ (d.out ⟨by simp only;omega,by simp only;omega,fun _=>el p,fun e=>by simp at e⟩),j⟩
      clear a d;go_wp2_with fail;go_roundw
      case rel=>exact t.out
      case measure=>simp[intOf];omega
    ·go_wp2_with fail;refine(u.out).mono ?_;rintro e W2 ⟨rfl,rfl⟩;cases p:fu st.length lf with
     |true=>
      have g:=aJ (a.out (fun h=>eR p (h.2.2.1 (by simp))))
      clear a d;go_wp2_with fail;go_ret;rw[g.out];exact⟨rfl,n.out⟩
     |false=>
      have t:Hid (nn w1 st (.int .i64 ((i+1:Nat):Int)) W):=aJ ⟨i+1,rfl,l,aJ (d.out ⟨by simp only;omega,by simp only;omega,fun _=>el p,fun e=>by simp at e⟩),j⟩
      clear a d;go_wp2_with fail;go_roundw
      case rel=>exact t.out
      case measure=>simp[intOf];omega
    ·have t:Hid (nn w1 st (.int .i64 ((i+1:Nat):Int)) W):=aJ ⟨i+1,rfl,l,aJ (d.out ⟨by simp only;omega,by simp only;omega,fun e=>absurd rfl e,fun e=>by simp at e⟩),j⟩
     clear a d;go_wp2_with fail;go_roundw
     case rel=>exact t.out
     case measure=>simp[intOf];omega
   ·have b1:(f==1)=false:=by simp;omega
    have b2:(f==2)=false:=by simp;omega
    have b3:(f==3)=false:=by simp;omega
    have b4:(f==4)=false:=by simp;omega
    have Z:(f==5)=false:=by simp;omega
    have M:=aJ (fun h:jx st.length ⟨f,lf,rt,m⟩=>B (by have X:=h.1;have Y:=h.2.1;simp only at X Y;omega))
    clear B;have g:=aJ (a.out M.out);clear a d;go_wp2_with fail;go_ret;rw[g.out];exact⟨rfl,n.out⟩
  ·obtain rfl:i=st.length:=by omega
   have g:Hid (bt st=true):=aJ (by rw[r.out];exact decide_eq_true ⟨by omega,by omega,L.out⟩)
   go_wp2_with fail;go_ret;rw[g.out];exact⟨rfl,o.out.up G.out⟩
def jg (w:World) (st:List Nd) (e:Ending) (w':World):Prop:=
 ∃(v:Value) (r:Option (List Nat)),e= .returned (.tuple #[v,.bool r.isSome])∧Own w' w.heap.size 5 1 v (r.getD []).length (cZ (r.getD []))∧(bt st=true→pT st r)∧(bt st=false→r=none)∧Old w w'
def xb (w e:World) (B g b:Nat) (st:List Nd) (A:Option Addr) (c:Nat) (gk:Nat) (a:Value) (wr:World):Prop:=
 ∃(d:Nat) (al:List (Sp×Og)) (L:List Sp),Hid (SK e wr B g b st A c al)∧Hid (Own wr B 222 3 a L.length (eH L))∧Hid (Head st d al L)∧gk=2*(4*st.length-al.length)+(if L=[] then 0 else 1)∧(L≠[]→d+1≤al.length)
theorem rC {st:List Nd} {p:Sp} {eol:Bool} (h:jZ st eol p=true):(nd st p.s).kind=5∧p.e=eol:=by
 unfold jZ at h;rw[Bool.and_eq_true,beq_iff_eq,beq_iff_eq] at h;exact h
theorem mU {st:List Nd} {p:Sp} {eol:Bool} (h:jZ st eol p=false) (hk:(nd st p.s).kind=5):p.e= !eol:=by
 unfold jZ at h;rw[hk] at h;cases a:p.e<;>cases eol<;>simp_all
theorem pn (A:Option Addr) (c:Nat) (st:List Nd) (w:World) (hs:Rs w A (cI st)) (hm:st.length≤maxLen):
  Calls Tryz.prog 53 #[.slice A st.length c] w (jg w st):=by
 have O:=aJ (yw A c st w hs hm)
 have HS:=aJ hs
 have ac:Hid (∀v r w',Own w' w.heap.size 5 1 v (r.getD []).length (cZ (r.getD []))→(bt st=true→pT st r)→(bt st=false→r=none)→Old w w'→jg w st (.returned (.tuple #[v,.bool r.isSome])) w'):=aJ (fun v r w' h1 h2 h3 h4=>⟨v,r,rfl,h1,h2,h3,h4⟩)
 clear hs hm;cases hv:bt st with
 |false=>
  have HX:=aJ (fun w' h=>ac.out (.slice none 0 0) none w' (Own.nil_ _ _ _ _) (fun e=>by rw[hv] at e;cases e) (fun _=>rfl) h)
  rw[hv] at O;clear ac hv;go_enter Tryz.func53,Tryz.ntmps53;go_wp2_with fail;refine(O.out).mono ?_;rintro e a ⟨rfl,P⟩;have HY:=aJ (HX.out a P);clear P HX O;go_wp2_with fail;refine aP (v:= .tuple #[.slice none 0 0,.bool false]) (by simp[results,Tryz.results53,go_sem]) rfl ?_
  exact HY.out
 |true=>
  have HV:=aJ hv
  have HQ:Hid (∀v r w',Own w' w.heap.size 5 1 v (r.getD []).length (cZ (r.getD []))→pT st r→Old w w'→jg w st (.returned (.tuple #[v,.bool r.isSome])) w'):=aJ (fun v r w' h1 h2 h4=>ac.out v r w' h1 (fun _=>h2) (fun e=>by rw[HV.out] at e;cases e) h4)
  rw[hv] at O;obtain⟨h1,h2,_⟩:=a7 hv;have aZ:=@run_makeMap Tryz.prog;clear hv ac;go_enter Tryz.func53,Tryz.ntmps53;go_wp2_with fail;refine(O.out).mono ?_;rintro e a ⟨rfl,P⟩;have ag:=aJ P;have aR:=aJ (HS.out.up P);clear P O HS;go_upto_region 4 with fail
  have aU:=aM a (.map #[] 0)
  have aH:=(Old.refl a).alloc (.map #[] 0)
  have aL:=SMap.made a
  have am:=aM (a.alloc (.map #[] 0)) (.cells #[.slice A st.length c,.map (some a.heap.size)] 218)
  have ar:=(Old.refl (a.alloc (.map #[] 0))).alloc (.cells #[.slice A st.length c,.map (some a.heap.size)] 218)
  rw[Dc] at am;have aK:SK a ((a.alloc (.map #[] 0)).alloc (.cells #[.slice A st.length c,.map (some a.heap.size)] 218)) (a.heap.size+2) (a.heap.size+1) a.heap.size st A c []:=
   ⟨aH.up ar,aR.out,am,aL.up ar,Nat.le_succ _,bM _,by omega,by omega,by omega,by simp⟩
  generalize (a.alloc (.map #[] 0)).alloc (.cells #[.slice A st.length c,.map (some a.heap.size)] 218)=W at *;generalize hB:a.heap.size+2=B at *;generalize hG:a.heap.size+1=g at *;generalize a.heap.size=b at *;clear aU aH aL am ar aZ hB hG;have hc:=kM a B g b st A c (.slice none 0 0) [] [] W aK (Own.nil_ _ _ _ _) (by simp) (by simp) gF (by decide) ⟨⟨0,false,false⟩,true,false,0⟩ (show(0:Nat)<256 by decide)
  unfold mj pW gF at hc;simp only at hc;rw[show((0:Nat):Int)=0 from rfl] at hc
  have HC:=aJ hc
  clear hc aK;go_wp2_with fail;refine(HC.out).mono ?_;rintro e w2 ⟨av,rfl,S,F,_⟩;have HI:Hid (xb w a B g b st A c (2*(4*st.length-1)+1) av w2):=aJ ⟨0,_,_,aJ S,aJ F,aJ (Head.start h1 _ rfl),rfl,fun _=>bM _⟩
  obtain⟨A2,c2,rfl,_,_,_⟩:=F.shape;clear S F HC;go_wp2_with fail;go_loopg [5] (2*(4*st.length-1)+1) (fun gk s5 wr=>xb w a B g b st A c gk s5 wr)
  case atStart=>exact HI.out
  case round=>
   clear HI;obtain⟨d,al,L,H,G,f,rfl,aV⟩:=hrel;obtain⟨_,_,rfl,_,_,_⟩:=G.out.shape;have a5:=f.out.srch.few;have a9:=f.out.srch.k5
   by_cases hL:L=[]
   ·subst hL;have HX:=aJ (HQ.out (.slice none 0 0) none wr (Own.nil_ _ _ _ _) f.out.none_ (ag.out.up H.out.old));clear HQ H G f;go_wp2_with fail;refine aP (v:= .tuple #[.slice none 0 0,.bool false]) (by simp[results,Tryz.results53,go_sem]) rfl ?_
    exact HX.out
   ·have aT:1≤L.length:=by cases L with
     |nil=>exact absurd rfl hL
     |cons x l=>simp
    have a4:=aV hL
    have a':(0:Int)<(L.length:Int):=by omega
    have HC:=aJ (uO a B g b st A c d _ al L wr H.out G.out HV.out f.out aT)
    clear H G f;go_wp2_with fail;refine(HC.out).mono ?_;rintro e a3 ⟨av,J,q,rfl,S,F,R,aN,_,_⟩;have aW:=R.srch.few;have a6:=R.srch.k5;have ap:∀p∈q,p.s<st.length:=fun p M=>by
     obtain⟨t,n,_,o,_⟩:=R.srch.k3 p ((R.srch.k1 p).2 (bY M));exact SR.lt HV.out o
    have aw:=aJ (rD a B g b st A c av J q false a3 S F ap (by omega))
    have H:=aJ S
    have G:=aJ F
    have f:=aJ R
    have I:=aJ aN
    have ai:=aJ ap
    obtain⟨_,_,rfl,_,_,_⟩:=F.shape;clear S F R aN ap HC;go_wp2_with fail;refine(aw.out).mono ?_;rintro e w3 ⟨_,rfl,a0,an⟩;have C:=aJ (H.out.up an);have j:=aJ (G.out.up an);clear an aw H G;rcases a0 with⟨rfl,aq⟩|⟨i,rfl,Z,D⟩
    ·have ab:=aJ (fun p M hk=>mU (aq p M) hk)
     have ax:=aJ (rD a B g b st A c _ J q true w3 C.out j.out ai.out (by omega))
     have aA:=aJ aq
     clear aq;go_wp2_with fail;refine(ax.out).mono ?_;rintro e w4 ⟨_,rfl,a1,ao⟩;have K:=aJ (C.out.up ao);have y:=aJ (j.out.up ao);clear ao ax C j;rcases a1 with⟨rfl,ae⟩|⟨i,rfl,Z,D⟩
     ·have aC:Hid (∀p∈q,gV st (d+1) p):=aJ (fun p M=>(f.out.full I.out p).1 ((f.out.srch.k1 p).2 (bY M)))
      have az:Hid (∀p∈q,(nd st p.s).kind≠5):=aJ (fun p M hk=>by
       have q1:=ab.out p M hk
       have q2:=mU (ae p M) hk
       rw[q1] at q2;cases q2)
      have ay:=aJ (AQ a B g b st A c d _ J q w4 K.out y.out HV.out (f.out.nxt I.out) aC.out (by omega))
      clear ae ab aA;go_wp2_with fail;refine(ay.out).mono ?_;rintro e w5 ⟨a2,V,N,rfl,aI,m,aG,_⟩;have ah:Hid (Head st (d+1) V N):=aJ (aG.head (f.out.part I.out) f.out.nofin az.out);have aX:=ah.out.srch.few;have HW:Hid (xb w a B g b st A c (2*(4*st.length-V.length)+(if N=[] then 0 else 1)) a2 w5):=aJ ⟨d+1,V,N,aJ aI,aJ m,ah,rfl,fun hN=>by
       have:1≤N.length:=by cases N with
        |nil=>exact absurd rfl hN
        |cons x l=>simp
       omega⟩
      have aQ:Hid (2*(4*st.length-V.length)+(if N=[] then 0 else 1)<2*(4*st.length-al.length)+(if L=[] then 0 else 1)):=aJ (by
       rw[if_neg hL]
       by_cases hN:N=[]
       ·rw[if_pos hN];omega
       ·rw[if_neg hN];have:1≤N.length:=by cases N with
         |nil=>exact absurd rfl hN
         |cons x l=>simp
        omega)
      obtain⟨A5,c5,rfl,_,_,_⟩:=m.shape;clear aI m aG ay K y f I aC az ah HQ;go_wp2_with fail;go_roundg (2*(4*st.length-V.length)+(if N=[] then 0 else 1))
      case rel=>exact HW.out
      case measure=>
       have:=aQ.out
       rw[if_neg hL] at this;exact this
     ·obtain⟨E,Y⟩:=rC D;have k:q.getD i gF∈q:=by rw[bD,bE Z];exact bH Z
      obtain⟨T,n,X,o,ak⟩:=f.out.srch.k3 _ ((f.out.srch.k1 _).2 (bY k));have aj:=aJ (f.out.late (f.out.part I.out) (fun p M hk=>ab.out p M hk) k E Y o ak)
      clear ab aA;have aa:∀p,(lk J p).isSome=true→p.s<1000000:=fun p M=>by
       obtain⟨t,n,_,o,_⟩:=f.out.srch.k3 p M;have:=SR.lt HV.out o;omega
      obtain⟨ga,_,au,_,_,_,_⟩:=y.out.form (by omega)
      injection au with hA _ hc
      subst hA;subst hc;have q0:=(y.out.cellAt ((cQ q i Z 0 (by omega)).trans rfl)).1
      have q1:=(y.out.cellAt ((cQ q i Z 1 (by omega)).trans rfl)).1
      have q2:=(y.out.cellAt ((cQ q i Z 2 (by omega)).trans rfl)).1
      rw[Nat.add_zero] at q0;have i1:(i:Int)<(q.length:Int):=by omega
      have i0:(0:Int)≤(i:Int):=by omega
      have z:=uM a B g b st A c J w4 K.out aa (q.getD i gF) T n X (by omega)
      have aD:Hid (T.length≤100000):=aJ (by omega)
      have u:=aJ (ag.out.up K.out.old)
      clear k X o E Y D aa;generalize q.getD i gF=p at *;obtain⟨ps,pb,_⟩:=p;unfold mj at z;simp only at z q0 q1 q2;have U:=aJ z;clear z f I ai;go_wp2_with fail;refine(U.out).mono ?_;rintro e w5 ⟨v5,rfl,m,Q⟩;clear U q0 q1 q2;have a8:T.length≤100000:=aD.out;have aS:=aJ Q.size;have aO:=aJ (u.out.up Q);have aB:=aJ m;obtain⟨A5,c5,rfl,_,_,_⟩:=m.shape;clear m Q;go_wp2_with (at_builtin;refine aE (wr:=w5) rfl _ _ 35 rfl _ 5 (.int .u8 0) 1 1 Tryz.underlying35 sk rfl (by decide) (by decide) _ _ _ rfl aB.out 1 1 [.int .u8 10] rfl rfl rfl rfl ?pn1 aS.out ?_)
      case pn1=>omega
      intro v6 w6 ad aY aF;have af:Own w6 w4.heap.size 5 1 v6 (T++[10]).length (cZ (T++[10])):=by rw[bF,bG];unfold cZ at ad ⊢;rw[List.map_append];exact ad
      have HX:=aJ (HQ.out v6 (some (T++[10])) w6 (af.base u.out.size) aj.out (aF w aO.out u.out.size))
      obtain⟨A6,c6,rfl,_,_,_⟩:=ad.shape;clear ad af aY aF aB HQ;go_wp2_with fail;refine aP (v:= .tuple #[.slice A6 (T.length+1) c6,.bool true]) (by simp[results,Tryz.results53,go_sem]) rfl ?_
      exact HX.out
    ·obtain⟨E,Y⟩:=rC D;have k:q.getD i gF∈q:=by rw[bD,bE Z];exact bH Z
     obtain⟨T,n,X,o,ak⟩:=f.out.srch.k3 _ ((f.out.srch.k1 _).2 (bY k));have aj:=aJ (f.out.found k E Y o ak);have aa:∀p,(lk J p).isSome=true→p.s<1000000:=fun p M=>by
      obtain⟨t,n,_,o,_⟩:=f.out.srch.k3 p M;have:=SR.lt HV.out o;omega
     obtain⟨ga,_,au,_,_,_,_⟩:=j.out.form (by omega)
     injection au with hA _ hc
     subst hA;subst hc;have q0:=(j.out.cellAt ((cQ q i Z 0 (by omega)).trans rfl)).1
     have q1:=(j.out.cellAt ((cQ q i Z 1 (by omega)).trans rfl)).1
     have q2:=(j.out.cellAt ((cQ q i Z 2 (by omega)).trans rfl)).1
     rw[Nat.add_zero] at q0;have i1:(i:Int)<(q.length:Int):=by omega
     have i0:(0:Int)≤(i:Int):=by omega
     have z:=uM a B g b st A c J w3 C.out aa (q.getD i gF) T n X (by omega)
     have aD:Hid (T.length≤100000):=aJ (by omega)
     have u:=aJ (ag.out.up C.out.old)
     clear k X o E Y D aa;generalize q.getD i gF=p at *;obtain⟨ps,pb,_⟩:=p;unfold mj at z;simp only at z q0 q1 q2;have U:=aJ z;clear z f I ai;go_wp2_with fail;refine(U.out).mono ?_;rintro e w5 ⟨v5,rfl,m,Q⟩;clear U q0 q1 q2;have HX:=aJ (HQ.out v5 (some T) w5 (m.base u.out.size) aj.out (u.out.up Q));obtain⟨A5,c5,rfl,_,_,_⟩:=m.shape;clear m Q HQ;go_wp2_with fail;refine aP (v:= .tuple #[.slice A5 T.length c5,.bool true]) (by simp[results,Tryz.results53,go_sem]) rfl ?_
     exact HX.out
theorem wK (s:ByteArray):∀x∈bs s,x<256:=by
 intro x hx;unfold bs at hx;obtain⟨y,_,rfl⟩:=List.mem_map.mp hx;exact y.toNat_lt
structure PatOk (s:ByteArray) (l:List Nd):Prop where
 par:∃f,eo f (bs s)=some (l,0)
 val:bh l=true
 sets:∀x∈l,cg x.set
 few:l.length≤256
 sam:∃t,SAcc (bw l) t
 nob:NoB s
def Cw (s:ByteArray) (t:List Nat):Bool:=
 match eo 200 (bs s) with
 |some (l,e)=>e==0&&bh l&&decide (0≤dh (bw l) t)&&decide (l.length≤256)&&(bs s).all fun x=>x !=92
 |none=>false
theorem gK {s:ByteArray} {t:List Nat} (i:∀x∈t,x<256) (h:Cw s t=true):∃l,PatOk s l:=by
 unfold Cw at h;cases a:eo 200 (bs s) with
 |none=>rw[a] at h;cases h
 |some r=>
  obtain⟨l,e⟩:=r;rw[a] at h;simp only[Bool.and_eq_true,beq_iff_eq,decide_eq_true_iff] at h;obtain⟨⟨⟨⟨rfl,hv⟩,hn⟩,g⟩,b⟩:=h;have c:=(io hv).2.1;refine⟨l,⟨⟨200,a⟩,hv,iq (wK s) a,g,?_,NoB.of b⟩⟩;rcases gM c t with⟨n,h1,h2,d,_⟩|⟨h1,_⟩
  ·obtain⟨t',f,_⟩:=jH h1 i d;exact⟨t',f⟩
  ·omega
def gG:List ByteArray:=[⟨#[111,107]⟩,⟨#[]⟩,⟨#[114,46,42,121,36]⟩,⟨#[94,117,112,124,103,111,43]⟩,⟨#[91,48,45,57,93,43,120,63]⟩,⟨#[40,97,98,41,42,99]⟩,⟨#[94,36]⟩]
theorem oL:∀s∈gG,∃l,PatOk s l:=by
 intro s hs;simp only[gG,List.mem_cons,List.not_mem_nil,or_false] at hs;rcases hs with rfl|rfl|rfl|rfl|rfl|rfl|rfl
 ·exact gK (t:=[111,107]) (by decide) (by decide+kernel)
 ·exact gK (t:=[]) (by decide) (by decide+kernel)
 ·exact gK (t:=[114,121,10]) (by decide) (by decide+kernel)
 ·exact gK (t:=[117,112]) (by decide) (by decide+kernel)
 ·exact gK (t:=[48]) (by decide) (by decide+kernel)
 ·exact gK (t:=[99]) (by decide) (by decide+kernel)
 ·exact gK (t:=[10]) (by decide) (by decide+kernel)
theorem CJ (s:ByteArray) (l:List Nd) (w:World) (h:PatOk s l):
  Calls Tryz.prog 126 #[.string s] w fun e w'=>e= .returned .nilIface∧Old w w':=by
 obtain⟨⟨f,F⟩,hv,j,_,hs,z⟩:=h;obtain⟨_,k,x,u,y⟩:=io hv;have C:=aJ (nG f s (l,0) w F z rfl);have B:=aJ (fun W A c (g:Rs W A (cI l))=>qG A c l W g (by unfold maxLen;omega) j)
 have H:=aJ hv
 have D:=aJ (fun W A c (g:Rs W A (cI (bw l)))=>pn A c (bw l) W g (by unfold maxLen;omega))
 have p:=aJ k
 have o:=aJ hs
 clear F hv j hs k x u y;go_enter Tryz.func126,Tryz.ntmps126;go_wp2_with fail;refine(C.out).mono ?_;rintro e I ⟨v,rfl,i,b⟩;obtain⟨A,c,rfl,d,_,_⟩:=i.shape;have E:=aJ d.rs;have G:=aJ b;clear i d b C;simp only at E;go_wp2_with fail;refine(B.out I A c E.out).mono ?_;rintro e w2 ⟨hx,_,b⟩;obtain⟨v,rfl,i⟩:=hx H.out;obtain⟨A2,c2,rfl,d,_,_⟩:=i.shape;have q:=aJ d.rs;have m:=aJ (G.out.up b);clear i d b hx B;go_wp2_with fail;refine(D.out w2 A2 c2 q.out).mono ?_;rintro e _ ⟨v,r,rfl,_,hm,_,b⟩;have g:r.isSome=true:=by
  cases r with
  |some a=>rfl
  |none=>
   obtain⟨t,d⟩:=o.out;exact absurd d (hm p.out t)
 rw[g];have n:=aJ (m.out.up b);clear b hm g D;go_wp2_with fail;go_ret;exact⟨rfl,n.out⟩
theorem DA (A:Option Addr) (n c:Nat) (tk:List Bool) (w:World) (f:Rs w A (jF tk)) (d:tk.length=n) (a:∀i,i<n→tk.getD i false=true) (l:n≤1000000):
  Calls Tryz.prog 128 #[.slice A n c,.bool false] w fun e w'=>e= .returned (.int .i64 (-1))∧w'=w:=by
 have h:=aJ f
 have g:=aJ a
 clear f a;go_enter Tryz.func128,Tryz.ntmps128;go_wp2_with fail;go_loopw [8] (fun i wr=>∃k:Nat,k≤n∧i= .int .i64 k∧wr=w) (fun i _=>n-(intOf i).toNat)
 case atStart=>exact⟨0,bO _,rfl,rfl⟩
 case round=>
  obtain⟨k,hk,rfl,rfl⟩:=hrel
  by_cases b:k<n
  ·obtain⟨b2,off,rfl,_,hc⟩:=h.out.at_ (by rw[jf];omega)
   have j:=hc _ _ (ob tk k (by omega))
   rw[g.out k b] at j;clear hc;go_wp2_with fail;go_roundw
   case rel=>exact⟨k+1,by omega,by go_num,by trivial⟩
   case measure=>simp[intOf];omega
  ·obtain rfl:k=n:=by omega
   go_wp2_with fail;go_ret;exact⟨rfl,rfl⟩
theorem yY (A:Option Addr) (c:Nat) (l:List Jd) (w:World) (k:JL w A l) (hn:l.length≤1000000) (x:∀j∈l,j.needs.length≤1000000) (b:Gp.acyclic l):
  Calls Tryz.prog 63 #[.slice A l.length c] w fun e w'=>e= .returned (.slice none 0 0)∧Old w w':=by
 have q:=aJ (wh A c l w k hn x)
 have u:=aJ (fun g c w (h:NRow w (some ⟨g,0,none⟩) (Gp.allN l))=>sl l hn g c w h)
 have r:=aJ b
 have o:=Gp.allN_len l
 clear k x b;go_enter Tryz.func63,Tryz.ntmps63;go_wp2_with fail;refine(q.out).mono ?_;rintro e C ⟨g,c1,cells,rfl,y,f,d⟩;have t:=aJ (f.row y);have s:=aJ d;clear f y d;go_wp2_with fail;refine(u.out g c1 C t.out).mono ?_;rintro e w2 ⟨B,A1,c2,rfl,p,k,d⟩;have m:=aJ (s.out.up d);have a:=p.len;rw[jf,Nat.mul_one] at a;have z:=aJ (fun W (h:Old w2 W)=>DA (some ⟨B,0,none⟩) (Gp.allN l).length (Gp.allN l).length (Gp.ord (Gp.allN l)).2 W (p.rs0.up h) a (fun i D=>r.out i (by omega)) (by omega))
 clear p k d s t q u a r;generalize (Gp.ord (Gp.allN l)).1.length=n1 at *;generalize (Gp.allN l).length=n at *;subst o;go_wp2_with fail;refine(z.out _ ((Old.refl w2).alloc _)).mono ?_;rintro e _ ⟨rfl,rfl⟩;go_wp2_with fail;go_ret;exact⟨rfl,m.out.alloc _⟩
structure CkOk (l:List Jd) (i:Nat):Prop where
 own:Gp.ix l (l.getD i dG).nm=some i
 needs:∀k,k<(l.getD i dG).needs.length→Gp.ix l ((l.getD i dG).needs.getD k ⟨#[]⟩)≠none
 few:(l.getD i dG).needs.length≤1000000
 rg:RgOk (l.getD i dG)
 pat:(l.getD i dG).hasR=true→∃n,PatOk (l.getD i dG).ready n
structure CksOk (l:List Jd):Prop where
 few:l.length≤32
 each:∀i,i<l.length→CkOk l i
 acyc:Gp.acyclic l
theorem CK (A:Option Addr) (c:Nat) (l:List Jd) (i:Nat) (w:World) (m:JL w A l) (S:i<l.length) (h:CkOk l i):
  Calls Tryz.prog 61 #[.slice A l.length c,.int .i64 (i:Int)] w fun e w'=>e= .returned .nilIface∧Old w w':=by
 have Z:=m.few
 have V:=aJ (fun W nm (o:Old w W)=>nS A c l nm W (m.up o))
 have y:=aJ (fun W b (o:Old w W) (hb:W.cell? ⟨b,0,none⟩=some (.slice A l.length c))=>BT A (l.getD i dG).nA c (l.getD i dG).nc l (l.getD i dG).needs b W (m.up o) hb ((m.at_ S).needs.up o) h.few h.needs)
 have I:=aJ (fun W (o:Old w W)=>uh (l.getD i dG) W ((m.at_ S).lad.up o) h.rg)
 have X:=aJ (fun W n (hn:PatOk (l.getD i dG).ready n)=>CJ (l.getD i dG).ready n W hn)
 have J:=aJ h.own
 have q:=aJ h.pat
 obtain⟨b,off,rfl,_,d⟩:=m.row (by omega)
 obtain⟨c0,c1,c2,c3,c4,c5,c6,c7,c8,c9,K,L,M,N,O⟩:=d i S;clear d m h;generalize l.getD i dG=j at *;unfold fU at I;go_enter Tryz.func61,Tryz.ntmps61;have Y:Hid (∀s,s=(w.alloc (.cells #[.slice (some ⟨b,off,none⟩) l.length c] 43)).alloc (sf j)→Old w s∧s.heap[w.heap.size]? =some (.cells #[.slice (some ⟨b,off,none⟩) l.length c] 43 (0,0))∧s.heap[w.heap.size+1]? =some (sf j)):=aJ (by
  rintro s rfl;exact⟨((Old.refl w).alloc _).alloc _,((Old.refl _).alloc _).block (aM w _),by
   rw[show w.heap.size+1=(w.alloc (.cells #[.slice (some ⟨b,off,none⟩) l.length c] 43)).heap.size by simp]
   exact aM _ _⟩)
 go_wp2_with fail;obtain⟨R,u,x⟩:=Y.out _ rfl;refine(V.out _ j.nm R).mono ?_;rintro e C ⟨r,rfl,hp,a⟩;have T:r=(i:Int):=by
  rcases Gp.ix_of hp with⟨_,e⟩|⟨k,_,rfl,e⟩
  ·rw[J.out] at e;cases e
  ·rw[J.out] at e;injection e with e;rw[e]
 subst T;have q1:decide ((i:Int)<(i:Int))=false:=by simp
 have t:=R.up a
 have E:=aJ (a.block x)
 have z:=(aK C w.heap.size 0 _ _ _ (a.block u))
 replace z:C.cell? ⟨w.heap.size,0,none⟩=some (.slice (some ⟨b,off,none⟩) l.length c):=z
 have P:C.cell? ⟨w.heap.size+1,3,none⟩=some (.slice j.nA j.needs.length j.nc):=(aK C _ 3 _ _ _ E.out).trans rfl
 have f:=aJ t
 have U:=aJ z
 clear a hp R u x t c0 c1 c2 c3 c4 c5 c6 c7 c8 c9 K L M N O V Y J z;go_wp2_with fail;refine(y.out _ _ f.out U.out).mono ?_;rintro e w2 ⟨rfl,a⟩;have F:=aJ (a.block E.out);have g:=aJ (f.out.up a);obtain⟨⟨_,_,_,_,Q,e5,_,_,_,_,_,_,_,_,_⟩,_⟩:=ij F.out;clear a y U f E P q1;go_wp2_with fail;refine(I.out _ g.out).mono ?_;rintro e D ⟨rfl,a⟩;have p:=aJ (g.out.up a);have G:=aJ (a.block F.out);have Q:D.cell? ⟨w.heap.size+1,4,none⟩=some (.bool j.hasR):=(aK D _ 4 _ _ _ G.out).trans rfl;have e5:D.cell? ⟨w.heap.size+1,5,none⟩=some (.string j.ready):=(aK D _ 5 _ _ _ G.out).trans rfl;clear a I g F G;cases B:j.hasR with
 |false=>
  rw[B] at Q;go_wp2_with fail;go_ret;exact⟨rfl,p.out⟩
 |true=>
  rw[B] at Q;obtain⟨n,hn⟩:=q.out B;have y:=aJ hn;clear B hn q;go_wp2_with fail;refine(X.out _ n y.out).mono ?_;rintro e w4 ⟨rfl,a⟩;have H:=aJ (p.out.up a);clear a X;go_wp2_with fail;go_ret;exact⟨rfl,H.out⟩
theorem BX (A:Option Addr) (c:Nat) (l:List Jd) (w:World) (g:JL w A l) (h:CksOk l):
  Calls Tryz.prog 32 #[.slice A l.length c] w fun e w'=>e= .returned .nilIface∧Old w w':=by
 have p:=aJ (fun W i (n:Old w W) (b:i<l.length)=>CK A c l i W (g.up n) b (h.each i b))
 have o:=aJ (fun W (n:Old w W)=>yY A c l W (g.up n) (by have:=h.few;omega) (fun j hj=>by
  obtain⟨i,b,rfl⟩:=List.mem_iff_getElem.mp hj;have:=(h.each i b).few;rw[bD,bE b] at this;exact this) h.acyc)
 have q:=h.few
 have r:decide ((32:Int)<(l.length:Int))=false:=by rw[decide_eq_false_iff_not];omega
 clear g h;go_enter Tryz.func32,Tryz.ntmps32;go_wp2_with fail;go_loopw [12] (fun i wr=>∃k:Nat,k≤l.length∧i= .int .i64 (k:Int)∧Hid (Old w wr)) (fun i _=>l.length-(intOf i).toNat)
 case atStart=>exact⟨0,bO _,rfl,aJ (Old.refl _)⟩
 case round=>
  obtain⟨k,hk,rfl,d⟩:=hrel
  by_cases m:k<l.length
  ·have s:decide ((k:Int)<(l.length:Int))=true:=by rw[decide_eq_true_iff];omega
   go_wp2_with fail;refine(p.out _ k d.out m).mono ?_;rintro e w2 ⟨rfl,a⟩;have f:=aJ (d.out.up a);clear a;go_wp2_with fail;go_roundw
   case rel=>exact⟨k+1,by omega,by go_num,f⟩
   case measure=>simp[intOf];omega
  ·obtain rfl:k=l.length:=by omega
   go_wp2_with fail;refine(o.out _ d.out).mono ?_;rintro e w2 ⟨rfl,a⟩;have f:=aJ (d.out.up a);clear a;go_wp2_with fail;go_ret;exact⟨rfl,f.out⟩
def cT:Value:= .agg #[.int .i64 0,.int .i64 0,.int .i64 0]
theorem nZ (A:Option Addr) (c:Nat) (l:List Jd) (w:World) (k:JL w A l) (h:CksOk l):
  Calls Tryz.prog 18 #[.slice A l.length c] w fun e w'=>e= .returned cT∧Old w w':=by
 have j:=aJ (fun W (m:Old w W)=>BX A c l W (k.up m) h)
 have b:=aJ ((Old.refl w).alloc (.cells #[.int .i64 0,.int .i64 0,.int .i64 0] 52))
 have d:=aJ (aM w (.cells #[.int .i64 0,.int .i64 0,.int .i64 0] 52))
 clear k h;go_enter Tryz.func18,Tryz.ntmps18;go_wp2_with fail;refine(j.out _ b.out).mono ?_;rintro e w2 ⟨rfl,i⟩;have a:=aJ (i.block d.out);have f:=aJ (b.out.up i);have g:=aK w2 w.heap.size 0 _ _ _ a.out;have c1:=aK w2 w.heap.size 1 _ _ _ a.out;have c2:=aK w2 w.heap.size 2 _ _ _ a.out;have n:=aN w2 w.heap.size 0 _ _ a.out;have f1:=aN w2 w.heap.size 1 _ _ a.out;have f2:=aN w2 w.heap.size 2 _ _ a.out
 replace g:w2.cell? ⟨w.heap.size,0,none⟩=some (.int .i64 0):=g
 replace c1:w2.cell? ⟨w.heap.size,1,none⟩=some (.int .i64 0):=c1
 replace c2:w2.cell? ⟨w.heap.size,2,none⟩=some (.int .i64 0):=c2
 clear i j b d;go_wp2_with fail;refine aP (v:=cT) (by simp[results,Tryz.results18,go_sem,cT,g,c1,c2]) rfl ⟨rfl,?_⟩
 exact((f.out.setCell (p:=⟨w.heap.size,0,none⟩) (bM _) _).setCell (p:=⟨w.heap.size,1,none⟩) (bM _) _).setCell (p:=⟨w.heap.size,2,none⟩) (bM _) _
structure Tok where
 kind:Nat
 text:List Nat
 line:Nat
 col:Nat
deriving DecidableEq
namespace Lx
def letter (c:Nat):Bool:=(65≤c&&c≤90)||(97≤c&&c≤122)||c==95
def digit (c:Nat):Bool:=48≤c&&c≤57
def word (c:Nat):Bool:=letter c||digit c||c==45
def skip:Bool→List Nat→Nat→Nat→Nat→List Nat×Nat×Nat×Nat
 |_,[],a,l,c=>([],a,l,c)
 |true,b::r,a,l,c=>if b=10 then skip false r (a+1) (l+1) 1 else skip true r (a+1) l (c+1)
 |false,b::r,a,l,c=>if b=10 then skip false r (a+1) (l+1) 1 else if b=32∨b=9∨b=13 then skip false r (a+1) l (c+1)
   else if b=35 then skip true r (a+1) l (c+1) else(b::r,a,l,c)
def quot:Nat→List Nat→Nat→List Nat→Option (List Nat×Nat)
 |0,_,_,_=>none
 |_+1,[],_,_=>none
 |f+1,c::r,i,acc=>if c=34 then some (acc,i+1) else if c<32 then none else if c=92 then none else quot f r (i+1) (acc++[c])
def patt:Nat→List Nat→Nat→List Nat→Option (List Nat×Nat)
 |0,_,_,_=>none
 |_+1,[],_,_=>none
 |f+1,c::r,i,acc=>if c=47 then some (acc,i+1) else if c<32 then none else if c=92 then none else patt f r (i+1) (acc++[c])
def tok:List Nat→Option (Nat×List Nat×Nat)
 |[]=>none
 |c::r=>if letter c then some (1,(c::r).takeWhile word,((c::r).takeWhile word).length)
   else if digit c then none
   else if c=34 then(quot (r.length+1) r 1 []).map (fun p=>(3,p.1,p.2))
   else if c=47 then(patt (r.length+1) r 1 []).map (fun p=>(4,p.1,p.2))
   else if c=123∨c=125∨c=44∨c=61 then some (5,[c],1) else none
def scan:Nat→List Nat→Nat→Nat→Nat→List Tok→Option (List Tok)
 |0,_,_,_,_,_=>none
 |f+1,t,a,l,c,acc=>
  match skip false t a l c with
  |([],_,l',c')=>some (acc++[⟨6,[],l',c'⟩])
  |(b::r,a',l',c')=>match tok (b::r) with
   |none=>none
   |some (k,x,n)=>if acc.length=2000 then none else scan f ((b::r).drop n) (a'+n) l' (c'+n) (acc++[⟨k,x,l',c'⟩])
def all (t:List Nat):Option (List Tok):=if 8192<t.length then none else scan (t.length+1) t 0 1 1 []
end Lx
theorem zN (b:Nat) (i:b<256) (w:World):Calls Tryz.prog 201 #[.int .u8 b] w fun e w'=>e= .returned (.bool (Lx.letter b))∧w'=w:=by
 have hc:(b<65∧Lx.letter b=false)∨(65≤b∧b≤90∧Lx.letter b=true)∨(91≤b∧b≤94∧Lx.letter b=false)∨(b=95∧Lx.letter b=true)∨(b=96∧Lx.letter b=false)∨(97≤b∧b≤122∧Lx.letter b=true)∨(123≤b∧Lx.letter b=false):=by
  have:∀c:Fin 256,(c.val<65∧Lx.letter c.val=false)∨(65≤c.val∧c.val≤90∧Lx.letter c.val=true)∨(91≤c.val∧c.val≤94∧Lx.letter c.val=false)∨(c.val=95∧Lx.letter c.val=true)∨(c.val=96∧Lx.letter c.val=false)∨(97≤c.val∧c.val≤122∧Lx.letter c.val=true)∨(123≤c.val∧Lx.letter c.val=false):=by decide+kernel
  exact this ⟨b,i⟩
 have t:(0:Int)≤b:=by omega
 have u:(b:Int)≤255:=by omega
 rcases hc with⟨d,hm⟩|⟨a,d,hm⟩|⟨a,d,hm⟩|⟨rfl,hm⟩|⟨rfl,hm⟩|⟨a,d,hm⟩|⟨a,hm⟩
 all_goals
  rw[hm];clear hm
  try have q:(65:Int)≤b:=by omega
  try have l:(b:Int)<65:=by omega
  try have r:(b:Int)≤90:=by omega
  try have m:(90:Int)<b:=by omega
  try have s:(97:Int)≤b:=by omega
  try have n:(b:Int)<97:=by omega
  try have g:(b:Int)≤122:=by omega
  try have f:(122:Int)<b:=by omega
  try have o:(48:Int)≤b:=by omega
  try have j:(b:Int)<48:=by omega
  try have p:(b:Int)≤57:=by omega
  try have k:(57:Int)<b:=by omega
  try have h:((b:Int)==95)=false:=by rw[beq_eq_false_iff_ne];omega
  go_enter Tryz.func201,Tryz.ntmps201
  go_wp2_with fail;go_ret
  first|exact⟨rfl,rfl⟩|exact⟨ik (by simp;omega),rfl⟩
theorem zO (b:Nat) (f:b<256) (w:World):Calls Tryz.prog 204 #[.int .u8 b] w fun e w'=>e= .returned (.bool (Lx.digit b))∧w'=w:=by
 have hc:(b<48∧Lx.digit b=false)∨(48≤b∧b≤57∧Lx.digit b=true)∨(58≤b∧Lx.digit b=false):=by
  have:∀c:Fin 256,(c.val<48∧Lx.digit c.val=false)∨(48≤c.val∧c.val≤57∧Lx.digit c.val=true)∨(58≤c.val∧Lx.digit c.val=false):=by decide+kernel
  exact this ⟨b,f⟩
 have s:(0:Int)≤b:=by omega
 have t:(b:Int)≤255:=by omega
 rcases hc with⟨h,hm⟩|⟨g,h,hm⟩|⟨g,hm⟩
 all_goals
  rw[hm];clear hm
  try have p:(65:Int)≤b:=by omega
  try have k:(b:Int)<65:=by omega
  try have q:(b:Int)≤90:=by omega
  try have l:(90:Int)<b:=by omega
  try have r:(97:Int)≤b:=by omega
  try have m:(b:Int)<97:=by omega
  try have d:(b:Int)≤122:=by omega
  try have a:(122:Int)<b:=by omega
  try have n:(48:Int)≤b:=by omega
  try have i:(b:Int)<48:=by omega
  try have o:(b:Int)≤57:=by omega
  try have j:(57:Int)<b:=by omega
  go_enter Tryz.func204,Tryz.ntmps204
  go_wp2_with fail;go_ret
  first|exact⟨rfl,rfl⟩|exact⟨ik (by simp;omega),rfl⟩
theorem AB (b:Nat) (d:b<256) (w:World):Calls Tryz.prog 203 #[.int .u8 b] w fun e w'=>e= .returned (.bool (Lx.word b))∧w'=w:=by
 have g:=aJ (zN b d w)
 have f:=aJ (zO b d w)
 have h:Lx.word b=(Lx.letter b||Lx.digit b||b==45):=rfl
 rw[h];clear h d;generalize Lx.letter b=p at *;generalize Lx.digit b=q at *
 by_cases c:b=45
 ·subst c;cases p<;>cases q
  all_goals
   go_enter Tryz.func203,Tryz.ntmps203
   go_wp2_with (first|(go_at_call 201;refine g.out.mono ?_;rintro e w' ⟨rfl,rfl⟩)|(go_at_call 204;refine f.out.mono ?_;rintro e w' ⟨rfl,rfl⟩))
   go_ret;exact⟨rfl,rfl⟩
 ·have i:((b:Int)==45)=false:=by rw[beq_eq_false_iff_ne];omega
  have a:(b==45)=false:=by rw[beq_eq_false_iff_ne];exact c
  rw[a];clear c a;cases p<;>cases q
  all_goals
   go_enter Tryz.func203,Tryz.ntmps203
   go_wp2_with (first|(go_at_call 201;refine g.out.mono ?_;rintro e w' ⟨rfl,rfl⟩)|(go_at_call 204;refine f.out.mono ?_;rintro e w' ⟨rfl,rfl⟩))
   go_ret;exact⟨rfl,rfl⟩
theorem i9 (s:ByteArray) (a b:Nat):bs (s.extract a b)=((bs s).drop a).take (b-a):=by
 unfold bs;rw[Lib.extract_data,←List.map_drop,←List.map_take]
theorem BY {s t:ByteArray} (h:bs s=bs t):s=t:=by
 unfold bs at h;have e:s.data.toList=t.data.toList:=List.map_inj_right (f:=UInt8.toNat) (fun a b e=>UInt8.toNat_inj.mp e)|>.mp h
 exact ByteArray.ext (Array.toList_inj.mp e)
theorem m8 {s:ByteArray} {x:Nat} (hx:x∈bs s):x<256:=by
 unfold bs at hx;obtain⟨y,_,rfl⟩:=List.mem_map.mp hx;exact y.toNat_lt
theorem lR (s:ByteArray) (a b:Nat):s.extract a b=ak (((bs s).drop a).take (b-a)):=
 BY (by rw[i9,lV _ (fun x hx=>m8 (List.mem_of_mem_drop (List.mem_of_mem_take hx)))])
theorem fV {l:List Nat} {a:Nat} (h:a<l.length):l.drop a=l.getD a 0::l.drop (a+1):=by
 rw[List.drop_eq_getElem_cons h,bD,bE h];rfl
theorem vV (l:List UInt8):(Lib.indexByte l 10= -1∧((l.map UInt8.toNat).takeWhile (· !=10)).length=l.length)∨
  ∃n:Nat,Lib.indexByte l 10=n∧n<l.length∧((l.map UInt8.toNat).takeWhile (· !=10)).length=n:=by
 induction l with
 |nil=>exact bX ⟨rfl,rfl⟩
 |cons b l ih=>
  by_cases a:b=10
  ·subst a;exact bY ⟨0,rfl,by simp,rfl⟩
  ·have c:(b==10)=false:=by simp[a]
   have hn:b.toNat≠10:=fun e=>a (UInt8.toNat_inj.mp (by rw[e];rfl))
   have d:(b.toNat !=10)=true:=by simp[hn]
   rw[List.map_cons,List.takeWhile_cons_of_pos (p:=fun x=>x !=10) d,List.length_cons,List.length_cons]
   rcases ih with⟨h1,h2⟩|⟨n,h1,h2,f⟩
   ·refine bX ⟨?_,by omega⟩
    rw[Lib.indexByte,if_neg (by simp[c]),h1]
    rfl
   ·refine bY ⟨n+1,?_,by omega,by omega⟩
    rw[Lib.indexByte,if_neg (by simp[c]),h1,if_neg (by simp<;>omega)]
    rfl
theorem nw {p:Nat→Bool} {l:List Nat} {n:Nat} (h:n<l.length):((l.drop n).takeWhile p).length=if p (l.getD n 0)=true then((l.drop (n+1)).takeWhile p).length+1 else 0:=by
 rw[fV h,List.takeWhile_cons]
 by_cases a:p (l.getD n 0)=true
 ·rw[if_pos a,if_pos a];rfl
 ·rw[if_neg a,if_neg a];rfl
theorem AC (s:ByteArray) (N:Nat) (w:World) (hs:s.size≤100000) (h:((bs s).takeWhile Lx.word).length=N):
  Calls Tryz.prog 202 #[.string s,.func (.func 203) #[] #[]] w fun e w'=>e= .returned (.int .i64 (N:Int))∧w'=w:=by
 go_enter Tryz.func202,Tryz.ntmps202
 go_wp2_with fail;go_loopw [5] (fun i wr=>∃n:Nat,i= .int .i64 (n:Int)∧n≤s.size∧Hid (n+(((bs s).drop n).takeWhile Lx.word).length=N)∧wr=w) (fun i _=>s.size-(intOf i).toNat)
 case atStart=>exact⟨0,rfl,bO _,aJ (by rw[←h];simp),rfl⟩
 case round=>
  obtain⟨n,rfl,hn,d,rfl⟩:=hrel
  by_cases b:n<s.size
  ·have l:(0:Int)≤(n:Int):=by omega
   have j:(n:Int)<(s.size:Int):=by omega
   have k:decide ((n:Int)<(s.size:Int))=true:=by rw[decide_eq_true_iff];exact j
   have c:=aJ (AB s[n].toNat s[n].toNat_lt wr)
   have h2:=d.out
   rw[nw (by rw[af];exact b),dP s n b] at h2
   have a:=aJ h2
   have m:IntKind.i64.wrap ((n:Int)+1)=(n:Int)+1:=bV _ (by omega)
   clear h2 d;cases f:Lx.word s[n].toNat with
   |true=>
    rw[f] at c a;simp only[if_true] at a;clear f;go_wp2_with fail;refine(c.out).mono ?_;rintro e w' ⟨rfl,rfl⟩;go_wp2_with fail;go_roundw
    case rel=>exact⟨n+1,by push_cast;rfl,by omega,aJ (by have:=a.out;omega),by trivial⟩
    case measure=>simp[intOf];omega
   |false=>
    rw[f] at c a;have g:Hid (Ending.returned (.int .i64 (n:Int))= .returned (.int .i64 (N:Int))):=aJ (by have:=a.out;simp at this;rw[this])
    clear f a;go_wp2_with fail;refine(c.out).mono ?_;rintro e w' ⟨rfl,rfl⟩;go_wp2_with fail;go_ret;exact⟨g.out,rfl⟩
  ·obtain rfl:n=s.size:=by omega
   have k:decide ((s.size:Int)<(s.size:Int))=false:=by simp
   have g:Hid (Ending.returned (.int .i64 (s.size:Int))= .returned (.int .i64 (N:Int))):=aJ (by
    have h2:=d.out
    rw[List.drop_eq_nil_of_le (by rw[af];exact bM _)] at h2
    simp at h2
    rw[h2])
   clear d;go_wp2_with fail;go_ret;exact⟨g.out,rfl⟩
end Go.Proofs.YtfchjdnpbgpfpaaGreatDoor
namespace Go.Proofs
open Go.Shelf Go.RowKit
def Tryz.laysB_ren:Go.Shelf.Ren:=⟨fun|167=>233|169=>231|240=>248|276=>261|n=>n,
 fun|0=>0|3=>3|4=>4|5=>5|9=>9|20=>20|37=>35|70=>337|72=>339|75=>96|80=>340|127=>354|164=>148|n=>n,fun|n=>n⟩
theorem Tryz.laysB167:Go.Proofs.Lays.n167 Tryz.prog Tryz.laysB_ren:={
 mixed:=by kernel_rfl
 f167:=Tryz.func233.trans (congrArg some (by kernel_rfl))
 f240:=Tryz.func248.trans (congrArg some (by kernel_rfl))
 f276:=Tryz.func261.trans (congrArg some (by kernel_rfl))
 t0:=Tryz.underlying0
 a0:=Tryz.isAgg0
 z0:=Tryz.sizeOf0
 v0:=Tryz.zeroValue0
 t4:=Tryz.underlying4
 a4:=Tryz.isAgg4
 z4:=Tryz.sizeOf4
 v4:=Tryz.zeroValue4
 t5:=Tryz.underlying5
 a5:=Tryz.isAgg5
 z5:=Tryz.sizeOf5
 v5:=Tryz.zeroValue5
 t9:=Tryz.underlying9
 a9:=Tryz.isAgg9
 z9:=Tryz.sizeOf9
 v9:=Tryz.zeroValue9
 t20:=Tryz.underlying20
 a20:=Tryz.isAgg20
 z20:=Tryz.sizeOf20
 v20:=Tryz.zeroValue20
 t37:=Tryz.underlying35
 a37:=Tryz.isAgg35
 z37:=Tryz.sizeOf35
 v37:=Tryz.zeroValue35
 t70:=Tryz.underlying337
 a70:=Tryz.isAgg337
 z70:=Tryz.sizeOf337
 v70:=Tryz.zeroValue337
 t72:=Tryz.underlying339
 a72:=Tryz.isAgg339
 z72:=Tryz.sizeOf339
 v72:=Tryz.zeroValue339
 t75:=Tryz.underlying96
 a75:=Tryz.isAgg96
 z75:=Tryz.sizeOf96
 v75:=Tryz.zeroValue96
 t164:=Tryz.underlying148
 a164:=Tryz.isAgg148
 z164:=Tryz.sizeOf148
 v164:=Tryz.zeroValue148
}
theorem Tryz.laysB169:Go.Proofs.Lays.n169 Tryz.prog Tryz.laysB_ren:={
 mixed:=by kernel_rfl
 f169:=Tryz.func231.trans (congrArg some (by kernel_rfl))
 t0:=Tryz.underlying0
 a0:=Tryz.isAgg0
 z0:=Tryz.sizeOf0
 v0:=Tryz.zeroValue0
 t3:=Tryz.underlying3
 a3:=Tryz.isAgg3
 z3:=Tryz.sizeOf3
 v3:=Tryz.zeroValue3
 t9:=Tryz.underlying9
 a9:=Tryz.isAgg9
 z9:=Tryz.sizeOf9
 v9:=Tryz.zeroValue9
 t37:=Tryz.underlying35
 a37:=Tryz.isAgg35
 z37:=Tryz.sizeOf35
 v37:=Tryz.zeroValue35
 t70:=Tryz.underlying337
 a70:=Tryz.isAgg337
 z70:=Tryz.sizeOf337
 v70:=Tryz.zeroValue337
 t72:=Tryz.underlying339
 a72:=Tryz.isAgg339
 z72:=Tryz.sizeOf339
 v72:=Tryz.zeroValue339
 t127:=Tryz.underlying354
 a127:=Tryz.isAgg354
 z127:=Tryz.sizeOf354
 v127:=Tryz.zeroValue354
}
theorem Tryz.laysBX:Builder.Extra Tryz.prog Tryz.laysB_ren where
 sizeBuilder:=by kernel_rfl
 liesBuilder:=by kernel_rfl
 t5:=Tryz.underlying5
 a5:=Tryz.isAgg5
 z5:=Tryz.sizeOf5
 v5:=Tryz.zeroValue5
 infoByte:=by kernel_rfl
 cellsByte:=by kernel_rfl
 sizeByte:=by kernel_rfl
 neB5:=by decide
theorem Tryz.bwByte (B b:Nat) (bs:List Value) (c:Int) (w:World) (h:Lib.IsBuilder 339 5 B b bs w) (a:bs.length+1≤140737488355328) (d:B≤w.heap.size):
  Calls Tryz.prog 233 #[.pointer (some ⟨b,0,none⟩),.int .u8 c] w fun e w'=>e= .returned .nilIface∧(Lib.BuilderAt 339 5 B b (.pointer (some ⟨b,0,none⟩)) (bs++[.int .u8 c]) w'∧Below B w w'):=Any.Builder_WriteByte Tryz.laysB167 Tryz.laysBX B b bs c w h a d
theorem Tryz.bString (B b:Nat) (l:List UInt8) (w:World) (h:Lib.IsBuilder 339 5 B b (Lib.byteCells l) w) (a:B≤w.heap.size):
  Calls Tryz.prog 231 #[.pointer (some ⟨b,0,none⟩)] w fun e w'=>e= .returned (.string ⟨l.toArray⟩)∧Below B w w':=Any.Builder_String_any Tryz.laysB169 Tryz.laysBX B b l w h a
end Go.Proofs
namespace Go.Proofs.YtfchjdnpbgpfpaaGreatDoor
open Go.RowKit Go.Shelf
set_option linter.unusedVariables false
structure Bd (w0 w:World) (b:Nat) (l:List Nat):Prop where
 is:Lib.IsBuilder 339 5 w0.heap.size b (cZ l) w
 old:Old w0 w
 lt:∀x∈l,x<256
 few:l.length≤1000000
theorem Bd.start (w:World):Bd w (w.alloc (.cells #[.pointer none,.slice none 0 0] 339)) w.heap.size []:=
 ⟨Lib.fresh_isBuilder _ _ w,(Old.refl w).alloc _,fun x h=>(by cases h),bO _⟩
theorem wM {w0 w:World} {b:Nat} {l:List Nat} (h:Bd w0 w b l) (c:Nat) (hc:c<256) (g:l.length<1000000):
  Calls Tryz.prog 233 #[.pointer (some ⟨b,0,none⟩),.int .u8 (c:Int)] w fun e w'=>e= .returned .nilIface∧Bd w0 w' b (l++[c]):=by
 refine(Tryz.bwByte w0.heap.size b (cZ l) c w h.is (by rw[gC];omega) h.old.size).mono ?_
 rintro e w' ⟨f,a,d⟩;refine⟨f,⟨?_,Below.trans h.old d,?_,?_⟩⟩
 ·rw[uF];exact bY a
 ·intro x hx;rcases List.mem_append.mp hx with hx|hx
  ·exact h.lt x hx
  ·rw[List.mem_singleton] at hx;omega
 ·rw[bF,bG];omega
theorem Ad {w0 w:World} {b:Nat} {l:List Nat} (h:Bd w0 w b l):
  Calls Tryz.prog 231 #[.pointer (some ⟨b,0,none⟩)] w fun e w'=>e= .returned (.string (ak l))∧Old w0 w':=by
 have a:=h.is
 rw[sQ l h.lt] at a;refine(Tryz.bString w0.heap.size b (l.map UInt8.ofNat) w a h.old.size).mono ?_;rintro e w' ⟨d,c⟩;exact⟨d,Below.trans h.old c⟩
def oi (w:World) (R:List Nat×Nat) (e:Ending) (w':World):Prop:=e= .returned (.tuple #[.string (ak R.1),.int .i64 (R.2:Int),.bool true])∧Old w w'
def xh (w:World) (s:ByteArray) (R:List Nat×Nat) (i:Value) (wr:World):Prop:=
 ∃(k f:Nat) (acc:List Nat),i= .int .i64 (k:Int)∧Bd w wr w.heap.size acc∧Lx.quot f ((bs s).drop k) k acc=some R∧acc.length≤k∧k≤s.size+3
theorem AG (s:ByteArray) (R:List Nat×Nat) (f:Nat) (w:World) (hs:s.size≤100000) (h:Lx.quot f ((bs s).drop 1) 1 []=some R):
  Calls Tryz.prog 205 #[.string s] w (oi w R):=by
 have r:Hid (xh w s R (.int .i64 1) (w.alloc (.cells #[.pointer none,.slice none 0 0] 339))):=aJ ⟨1,f,[],rfl,Bd.start w,h,bO _,by omega⟩
 clear h;go_enter Tryz.func205,Tryz.ntmps205;go_wp2_with fail;go_loopw [6] (fun i wr=>xh w s R i wr) (fun i _=>s.size+4-(intOf i).toNat)
 case atStart=>exact r.out
 case round=>
  clear r;obtain⟨k,f,acc,rfl,j,a,_,hk⟩:=hrel;cases f with
  |zero=>cases a
  |succ f=>
  by_cases m:k<s.size
  ·have C:(0:Int)≤(k:Int):=by omega
   have B:(k:Int)<(s.size:Int):=by omega
   have D:decide ((k:Int)<(s.size:Int))=true:=by rw[decide_eq_true_iff];exact B
   have wk:IntKind.i64.wrap ((k:Int)+1)=(k:Int)+1:=bV _ (by omega)
   rw[fV (by rw[af];exact m),dP s k m,Lx.quot] at a
   have g:s[k].toNat<256:=s[k].toNat_lt
   have q:=aJ j
   by_cases b:s[k].toNat=34
   ·rw[if_pos b] at a;injection a with a
    have t:=aJ (Ad j)
    have p:((s[k].toNat:Int)==34)=true:=by rw[b];rfl
    have o:Hid (∀w',Old w w'→oi w R (.returned (.tuple #[.string (ak acc),.int .i64 ((k:Int)+1),.bool true])) w'):=aJ (fun w' A=>by rw[←a];exact⟨rfl,A⟩)
    clear a j b q;go_wp2_with fail;refine(t.out).mono ?_;rintro e w2 ⟨rfl,l⟩;have n:=aJ l;clear l t;go_wp2_with fail;refine aP (v:= .tuple #[.string (ak acc),.int .i64 ((k:Int)+1),.bool true]) (by simp[results,Tryz.results205,go_sem]) rfl (o.out _ n.out)
   rw[if_neg b] at a;have p:((s[k].toNat:Int)==34)=false:=by rw[beq_eq_false_iff_ne];omega
   by_cases c:s[k].toNat<32
   ·rw[if_pos c] at a;cases a
   rw[if_neg c] at a;have x:decide ((s[k].toNat:Int)<32)=false:=by rw[decide_eq_false_iff_not];omega
   by_cases d:s[k].toNat=92
   ·rw[if_pos d] at a;cases a
   rw[if_neg d] at a;have y:((s[k].toNat:Int)==92)=false:=by rw[beq_eq_false_iff_ne];omega
   have u:=aJ (wM j s[k].toNat g (by omega))
   have o:Hid (∀W,Bd w W w.heap.size (acc++[s[k].toNat])→xh w s R (.int .i64 ((k:Int)+1)) W):=aJ (fun W z=>⟨k+1,f,acc++[s[k].toNat],by congr 1,z,a,by rw[bF,bG];omega,by omega⟩)
   clear a j b c d q;go_wp2_with fail;refine(u.out).mono ?_;rintro e w2 ⟨rfl,l⟩;have n:=aJ l;clear l u;go_wp2_with fail;go_roundw
   case rel=>exact o.out _ n.out
   case measure=>simp[intOf];omega
  ·rw[List.drop_eq_nil_of_le (by rw[af];omega)] at a
   cases a
theorem mI (f c i:Nat) (r acc:List Nat):Lx.patt (f+1) (c::r) i acc=if c=47 then some (acc,i+1) else if c<32 then none else if c=92 then none else Lx.patt f r (i+1) (acc++[c]):=rfl
def xp (w:World) (s:ByteArray) (R:List Nat×Nat) (i:Value) (wr:World):Prop:=
 ∃(k f:Nat) (acc:List Nat),i= .int .i64 (k:Int)∧Bd w wr w.heap.size acc∧Lx.patt f ((bs s).drop k) k acc=some R∧acc.length≤k∧k≤s.size
theorem AH (s:ByteArray) (R:List Nat×Nat) (f:Nat) (w:World) (hs:s.size≤100000) (h1:1≤s.size) (h:Lx.patt f ((bs s).drop 1) 1 []=some R):
  Calls Tryz.prog 206 #[.string s] w (oi w R):=by
 have r:Hid (xp w s R (.int .i64 1) (w.alloc (.cells #[.pointer none,.slice none 0 0] 339))):=aJ ⟨1,f,[],rfl,Bd.start w,h,bO _,h1⟩
 clear h h1;go_enter Tryz.func206,Tryz.ntmps206;go_wp2_with fail;go_loopw [6] (fun i wr=>xp w s R i wr) (fun i _=>s.size+4-(intOf i).toNat)
 case atStart=>exact r.out
 case round=>
  clear r;obtain⟨k,f,acc,rfl,l,a,_,hk⟩:=hrel;cases f with
  |zero=>cases a
  |succ f=>
  by_cases g:k<s.size
  ·have C:(0:Int)≤(k:Int):=by omega
   have B:(k:Int)<(s.size:Int):=by omega
   have D:decide ((k:Int)<(s.size:Int))=true:=by rw[decide_eq_true_iff];exact B
   have wk:IntKind.i64.wrap ((k:Int)+1)=(k:Int)+1:=bV _ (by omega)
   rw[fV (by rw[af];exact g),dP s k g,mI] at a
   have j:s[k].toNat<256:=s[k].toNat_lt
   have q:=aJ l
   by_cases b:s[k].toNat=47
   ·rw[if_pos b] at a;injection a with a
    have t:=aJ (Ad l)
    have p:((s[k].toNat:Int)==47)=true:=by rw[b];rfl
    have o:Hid (∀w',Old w w'→oi w R (.returned (.tuple #[.string (ak acc),.int .i64 ((k:Int)+1),.bool true])) w'):=aJ (fun w' A=>by rw[←a];exact⟨rfl,A⟩)
    clear a l b q;go_wp2_with fail;refine(t.out).mono ?_;rintro e w2 ⟨rfl,m⟩;have n:=aJ m;clear m t;go_wp2_with fail;refine aP (v:= .tuple #[.string (ak acc),.int .i64 ((k:Int)+1),.bool true]) (by simp[results,Tryz.results206,go_sem]) rfl (o.out _ n.out)
   rw[if_neg b] at a;have p:((s[k].toNat:Int)==47)=false:=by rw[beq_eq_false_iff_ne];omega
   by_cases c:s[k].toNat<32
   ·rw[if_pos c] at a;cases a
   rw[if_neg c] at a;have x:decide ((s[k].toNat:Int)<32)=false:=by rw[decide_eq_false_iff_not];omega
   by_cases d:s[k].toNat=92
   ·rw[if_pos d] at a;cases a
   rw[if_neg d] at a;have y:((s[k].toNat:Int)==92)=false:=by rw[beq_eq_false_iff_ne];omega
   have u:=aJ (wM l s[k].toNat j (by omega))
   have o:Hid (∀W,Bd w W w.heap.size (acc++[s[k].toNat])→xp w s R (.int .i64 ((k:Int)+1)) W):=aJ (fun W z=>⟨k+1,f,acc++[s[k].toNat],by congr 1,z,a,by rw[bF,bG];omega,g⟩)
   clear a l b c d q;go_wp2_with fail;refine(u.out).mono ?_;rintro e w2 ⟨rfl,m⟩;have n:=aJ m;clear m u;go_wp2_with fail;go_roundw
   case rel=>exact o.out _ n.out
   case measure=>simp[intOf];omega
  ·rw[List.drop_eq_nil_of_le (by rw[af];omega)] at a
   cases a
end Go.Proofs.YtfchjdnpbgpfpaaGreatDoor
namespace Go.Proofs
open Go.Shelf
def Tryz.lays137_ren:Go.Shelf.Ren:=⟨fun|137=>200|217=>230|266=>246|n=>n,fun|9=>9|5=>5|3=>3|n=>n,fun|n=>n⟩
theorem Tryz.lays137:Go.Proofs.Lays.n137 Tryz.prog Tryz.lays137_ren:={
 mixed:=by kernel_rfl
 f137:=Tryz.func200.trans (congrArg some (by kernel_rfl))
 f217:=Tryz.func230.trans (congrArg some (by kernel_rfl))
 f266:=Tryz.func246.trans (congrArg some (by kernel_rfl))
 t3:=Tryz.underlying3
 a3:=Tryz.isAgg3
 z3:=Tryz.sizeOf3
 v3:=Tryz.zeroValue3
 t5:=Tryz.underlying5
 a5:=Tryz.isAgg5
 z5:=Tryz.sizeOf5
 v5:=Tryz.zeroValue5
 t9:=Tryz.underlying9
 a9:=Tryz.isAgg9
 z9:=Tryz.sizeOf9
 v9:=Tryz.zeroValue9}
open Go.RowKit in
theorem Tryz.strings_IndexByte (s:ByteArray) (c:Int) (w:World):
  Calls Tryz.prog 200 #[.string s,.int .u8 c] w fun e w'=>e= .returned (.int .i64 (Lib.indexByte s.data.toList c.toNat.toUInt8))∧w'=w:=Any.strings_IndexByte Tryz.lays137 s c w
def Tryz.lays110_ren:Go.Shelf.Ren:=⟨fun|110=>99|109=>153|n=>n,fun|31=>28|9=>9|4=>4|3=>3|0=>0|n=>n,fun|n=>n⟩
theorem Tryz.lays110:Go.Proofs.Lays.n110 Tryz.prog Tryz.lays110_ren:={
 mixed:=by kernel_rfl
 f109:=Tryz.func153.trans (congrArg some (by kernel_rfl))
 f110:=Tryz.func99.trans (congrArg some (by kernel_rfl))
 t0:=Tryz.underlying0
 a0:=Tryz.isAgg0
 z0:=Tryz.sizeOf0
 v0:=Tryz.zeroValue0
 t3:=Tryz.underlying3
 a3:=Tryz.isAgg3
 z3:=Tryz.sizeOf3
 v3:=Tryz.zeroValue3
 t4:=Tryz.underlying4
 a4:=Tryz.isAgg4
 z4:=Tryz.sizeOf4
 v4:=Tryz.zeroValue4
 t9:=Tryz.underlying9
 a9:=Tryz.isAgg9
 z9:=Tryz.sizeOf9
 v9:=Tryz.zeroValue9
 t31:=Tryz.underlying28
 a31:=Tryz.isAgg28
 z31:=Tryz.sizeOf28
 v31:=Tryz.zeroValue28}
open Go.Lib in
theorem Tryz.slices_Contains_string (b off n c:Nat) (zs:List ByteArray) (x:ByteArray) (w:World) (hz:n≤zs.length) (hbig:n≤9223372036854775807) (hc:∀j,j<zs.length→w.cell? ⟨b,off+j,none⟩=some (.string (zs.getD j ByteArray.empty))):
  Calls Tryz.prog 99 #[.slice (some ⟨b,off,none⟩) n c,.string x] w fun e w'=>e= .returned (.bool (Lib.containsS (zs.take n) x))∧w'=w:=Any.slices_Contains_string Tryz.lays110 b off n c zs x w hz hbig hc
open Go.Lib in
theorem Tryz.slices_Contains_string_empty (a:Option Addr) (c:Nat) (x:ByteArray) (w:World):
  Calls Tryz.prog 99 #[.slice a 0 c,.string x] w fun e w'=>e= .returned (.bool false)∧w'=w:=Any.slices_Contains_string_empty Tryz.lays110 a c x w
end Go.Proofs
namespace Go.Proofs.YtfchjdnpbgpfpaaGreatDoor
open Go.RowKit Go.Shelf
set_option linter.unusedVariables false
namespace Lx
theorem skip_true (r:List Nat):∀a l c,skip true r a l c=skip false (r.drop (r.takeWhile (· !=10)).length) (a+(r.takeWhile (· !=10)).length) l (c+(r.takeWhile (· !=10)).length):=by
 induction r with
 |nil=>intro a l c;simp[skip]
 |cons b r ih=>
  intro a l c
  by_cases h:b=10
  ·subst h;simp[skip]
  ·have e:(b !=10)=true:=by simp[h]
   rw[List.takeWhile_cons_of_pos (p:=fun x=>x !=10) e,List.length_cons,List.drop_succ_cons,skip,if_neg h,ih]
   congr 1<;>omega
end Lx
def scO (s:ByteArray) (a l c:Nat):Obj:= .cells #[.string s,.int .i64 a,.int .i64 l,.int .i64 c] 266 (0,0)
structure SC (w0 w:World) (g:Nat) (s:ByteArray) (a l c:Nat):Prop where
 gr:w0.grownBy w (some g)
 blk:w.heap[g]? =some (scO s a l c)
theorem SC.cells {w0 w:World} {g:Nat} {s:ByteArray} {a l c:Nat} (h:SC w0 w g s a l c):
  w.cell? ⟨g,0,none⟩=some (.string s)∧w.cell? ⟨g,1,none⟩=some (.int .i64 a)∧w.cell? ⟨g,2,none⟩=some (.int .i64 l)∧w.cell? ⟨g,3,none⟩=some (.int .i64 c)∧w.frozen? ⟨g,1,none⟩=false∧w.frozen? ⟨g,2,none⟩=false∧w.frozen? ⟨g,3,none⟩=false:=
 ⟨by rw[aK w g 0 _ _ _ h.blk];rfl,by rw[aK w g 1 _ _ _ h.blk];rfl,by rw[aK w g 2 _ _ _ h.blk];rfl,by rw[aK w g 3 _ _ _ h.blk];rfl,aN w g 1 _ _ h.blk,aN w g 2 _ _ h.blk,aN w g 3 _ _ h.blk⟩
theorem aD (w:World) (g i:Nat) (v:Value):w.grownBy (w.setCell ⟨g,i,none⟩ v) (some g):=⟨rfl,rfl,rfl,by simp,fun k _ hk=>aL w ⟨g,i,none⟩ k _ (fun e=>hk (by simp[e]))⟩
theorem SC.up {w0 w w':World} {g:Nat} {s:ByteArray} {a l c:Nat} (h:SC w0 w g s a l c) (b:Old w w'):SC w0 w' g s a l c:=⟨fF h.gr b,b.block h.blk⟩
theorem SC.at_ {w0 w:World} {g:Nat} {s:ByteArray} {a l c:Nat} (h:SC w0 w g s a l c) (a':Nat):SC w0 (w.setCell ⟨g,1,none⟩ (.int .i64 (a':Int))) g s a' l c:=
 ⟨h.gr.trans (aD w g 1 _),aO w g 1 _ _ _ h.blk⟩
theorem SC.ln {w0 w:World} {g:Nat} {s:ByteArray} {a l c:Nat} (h:SC w0 w g s a l c) (l':Nat):SC w0 (w.setCell ⟨g,2,none⟩ (.int .i64 (l':Int))) g s a l' c:=
 ⟨h.gr.trans (aD w g 2 _),aO w g 2 _ _ _ h.blk⟩
theorem SC.co {w0 w:World} {g:Nat} {s:ByteArray} {a l c:Nat} (h:SC w0 w g s a l c) (c':Nat):SC w0 (w.setCell ⟨g,3,none⟩ (.int .i64 (c':Int))) g s a l c':=
 ⟨h.gr.trans (aD w g 3 _),aO w g 3 _ _ _ h.blk⟩
def oh (w0:World) (g:Nat) (s:ByteArray) (a l c:Nat) (e:Ending) (w':World):Prop:=e= .returned (.tuple #[])∧SC w0 w' g s a l c
theorem zP (w0:World) (g:Nat) (s:ByteArray) (a l c n:Nat) (w:World) (h:SC w0 w g s a l c) (f:a+n≤1000000) (hc:c+n≤1000000):
  Calls Tryz.prog 152 #[.pointer (some ⟨g,0,none⟩),.int .i64 (n:Int)] w (oh w0 g s (a+n) l (c+n)):=by
 obtain⟨_,c1,_,_,f1,_,_⟩:=h.cells;have h2:=(h.at_ (a+n)).co (c+n);rw[Int.natCast_add,Int.natCast_add] at h2;have b:=aJ h2;have d:IntKind.i64.wrap ((a:Int)+(n:Int))=(a:Int)+(n:Int):=bV _ (by omega)
 have e:IntKind.i64.wrap ((c:Int)+(n:Int))=(c:Int)+(n:Int):=bV _ (by omega)
 clear h h2;go_enter Tryz.func152,Tryz.ntmps152;go_wp2_with fail;go_end0;exact⟨rfl,b.out⟩
def xc (w0:World) (g:Nat) (s:ByteArray) (R:List Nat×Nat×Nat×Nat) (e:Ending) (w':World):Prop:=
 ∃a l c,e= .returned (.tuple #[])∧R=((bs s).drop a,a,l,c)∧SC w0 w' g s a l c∧a≤s.size∧l≤a+1∧c≤a+1
def pS (w0:World) (g:Nat) (s:ByteArray) (R:List Nat×Nat×Nat×Nat) (wr:World):Prop:=
 ∃a l c,Lx.skip false ((bs s).drop a) a l c=R∧SC w0 wr g s a l c∧a≤s.size∧l≤a+1∧c≤a+1
def scAt (w:World) (g:Nat):Nat:=match w.cell? ⟨g,1,none⟩ with|some v=>(intOf v).toNat|none=>0
theorem SC.scAt {w0 w:World} {g:Nat} {s:ByteArray} {a l c:Nat} (h:SC w0 w g s a l c):scAt w g=a:=by
 unfold Proofs.YtfchjdnpbgpfpaaGreatDoor.scAt;rw[h.cells.2.1];simp[intOf]
theorem AD (w0:World) (g:Nat) (s:ByteArray) (a l c:Nat) (w:World) (h:SC w0 w g s a l c) (hs:s.size≤100000) (ha:a≤s.size) (P:l≤a+1) (hc:c≤a+1):
  Calls Tryz.prog 150 #[.pointer (some ⟨g,0,none⟩)] w (xc w0 g s (Lx.skip false ((bs s).drop a) a l c)):=by
 have HI:Hid (pS w0 g s (Lx.skip false ((bs s).drop a) a l c) w):=aJ ⟨a,l,c,rfl,h,ha,P,hc⟩
 clear h ha P hc;generalize Lx.skip false ((bs s).drop a) a l c=R at *;go_enter Tryz.func150,Tryz.ntmps150;go_wp2_with fail;go_loopw [] (fun wr=>pS w0 g s R wr) (fun wr=>s.size-scAt wr g)
 case atStart=>exact HI.out
 case round=>
  clear HI;obtain⟨a,l,c,V,h,ha,P,hc⟩:=hrel;obtain⟨L,c1,c2,M,f1,f2,F⟩:=h.cells;have D:=aJ h.scAt;have U:=aJ h;clear h
  by_cases f:a<s.size
  ·have i0:(0:Int)≤(a:Int):=by omega
   have i1:(a:Int)<(s.size:Int):=by omega
   have hb:s[a].toNat<256:=s[a].toNat_lt
   have O:Lx.skip false (s[a].toNat::(bs s).drop (a+1)) a l c=R:=by rw[←dP s a f,←fV (by rw[af];exact f)];exact V
   have q:=aJ O
   have t:Hid ((bs s).drop a=s[a].toNat::(bs s).drop (a+1)):=aJ (by rw[←dP s a f,←fV (by rw[af];exact f)])
   clear V O f1 f2 F;go_wp2_with fail;go_quiet (fail);have I:=aJ (U.out.up ((Old.refl wr).drewN nq));generalize wr.drewN nq=W1 at *;clear U;clear L c1 c2 M;obtain⟨L,c1,c2,M,f1,f2,F⟩:=I.out.cells;clear f1 f2 F;go_wp2_with fail;go_quiet (fail);have o:=aJ (I.out.up ((Old.refl W1).drewN nq));generalize W1.drewN nq=W2 at *;clear I;clear L c1 c2 M;obtain⟨L,c1,c2,M,f1,f2,F⟩:=o.out.cells;generalize s[a].toNat=b at *;have wa:IntKind.i64.wrap ((a:Int)+1)=(a:Int)+1:=bV _ (by omega)
   have wl:IntKind.i64.wrap ((l:Int)+1)=(l:Int)+1:=bV _ (by omega)
   have A:=fun W n (X:SC w0 W g s a l c) (hn:a+n≤s.size)=>zP w0 g s a l c n W X (by omega) (by omega)
   have d:=aJ A
   have b0:(0:Int)≤(b:Int):=by omega
   have b1:(b:Int)<256:=by omega
   clear A hb
   by_cases j:b=10
   ·subst j;have z:=((o.out.at_ (a+1)).ln (l+1)).co 1
    push_cast at z
    have k:Hid (∀W,SC w0 W g s (a+1) (l+1) 1→pS w0 g s R W∧s.size-scAt W g<s.size-scAt wr g):=aJ (fun W C=>⟨⟨a+1,l+1,1,q.out,C,f,by omega,by omega⟩,by rw[C.scAt,D.out];omega⟩)
    have r:=aJ z
    clear z q o d D;go_wp2_with fail;go_roundw
    case rel=>exact(k.out _ r.out).1
    case measure=>exact(k.out _ r.out).2
   by_cases p:b=32∨b=9∨b=13
   ·have k:Hid (∀W,SC w0 W g s (a+1) l (c+1)→pS w0 g s R W∧s.size-scAt W g<s.size-scAt wr g):=aJ (fun W C=>⟨⟨a+1,l,c+1,by rw[←q.out,Lx.skip,if_neg j,if_pos p],C,f,by omega,by omega⟩,by rw[C.scAt,D.out];omega⟩)
    have G:Calls Tryz.prog 152 #[.pointer (some ⟨g,0,none⟩),.int .i64 1] W2 (oh w0 g s (a+1) l (c+1)):=d.out W2 1 o.out f
    have y:=aJ G
    have T:((b:Int)==10)=false:=by rw[beq_eq_false_iff_ne];omega
    clear G q o d D j L c1 c2 M f1 f2 F;rcases p with rfl|rfl|rfl
    all_goals
     go_wp2_with fail;refine y.out.mono ?_;rintro e W3 ⟨rfl,z⟩;have r:=aJ z;clear z y;go_wp2_with fail;go_roundw
     case rel=>exact(k.out _ r.out).1
     case measure=>exact(k.out _ r.out).2
   have T:((b:Int)==10)=false:=by rw[beq_eq_false_iff_ne];omega
   have ab:((b:Int)==32)=false:=by rw[beq_eq_false_iff_ne];omega
   have n9:((b:Int)==9)=false:=by rw[beq_eq_false_iff_ne];omega
   have aa:((b:Int)==13)=false:=by rw[beq_eq_false_iff_ne];omega
   by_cases E:b=35
   ·subst E;obtain⟨rest,i⟩:∃rest,rest=s.extract a s.size:=⟨_,rfl⟩
    have H:bs rest=35::(bs s).drop (a+1):=by
     rw[i,i9,t.out,List.take_of_length_le];rw[List.length_cons,List.length_drop,af];omega
    have S:rest.size=s.size-a:=by
     have:=congrArg List.length H
     rw[af,List.length_cons,List.length_drop,af] at this;omega
    have B:rest.data.toList.length=rest.size:=by rw[Array.length_toList];rfl
    obtain⟨n,hn⟩:∃n,((bs rest).takeWhile (fun x=>x !=10)).length=n:=⟨_,rfl⟩
    have Z:n=1+(((bs s).drop (a+1)).takeWhile (fun x=>x !=10)).length:=by
     rw[←hn,H,List.takeWhile_cons_of_pos (by decide),List.length_cons];omega
    have Y:(Lib.indexByte rest.data.toList 10= -1∧n=rest.size)∨(Lib.indexByte rest.data.toList 10=(n:Int)∧n<rest.size):=by
     rcases vV rest.data.toList with⟨h1,h2⟩|⟨m,h1,h2,z⟩
     ·left
      exact⟨h1,by rw[←hn,←B,←h2];rfl⟩
     ·right
      have:m=n:=by rw[←hn,←z];rfl
      subst this;exact⟨h1,by omega⟩
    have k:Hid (∀W,SC w0 W g s (a+n) l (c+n)→pS w0 g s R W∧s.size-scAt W g<s.size-scAt wr g):=aJ (fun W C=>⟨⟨a+n,l,c+n,by
     rw[←q.out,Lx.skip,if_neg (by decide),if_neg (by decide),if_pos rfl,Lx.skip_true,List.drop_drop]
     rw[show a+n=a+1+(((bs s).drop (a+1)).takeWhile (fun x=>x !=10)).length by omega,show c+n=c+1+(((bs s).drop (a+1)).takeWhile (fun x=>x !=10)).length by omega],C,by omega,by omega,by omega⟩,by rw[C.scAt,D.out];omega⟩)
    have G:=fun W (X:SC w0 W g s a l c)=>d.out W n X (by omega)
    have u:Hid (∀W,Calls Tryz.prog 200 #[.string rest,.int .u8 10] W fun e w'=>e= .returned (.int .i64 (Lib.indexByte rest.data.toList 10))∧w'=W):=aJ (fun W=>Tryz.strings_IndexByte rest 10 W)
    have K:=aJ i.symm
    have ia:(a:Int)≤(s.size:Int):=by omega
    clear H i B hn Z q t d D j p T ab n9 aa f1 f2 F;rcases Y with⟨h1,h2⟩|⟨h1,h2⟩
    ·rw[h1] at u;have y:Hid (∀W,SC w0 W g s a l c→Calls Tryz.prog 152 #[.pointer (some ⟨g,0,none⟩),.int .i64 (rest.size:Int)] W (oh w0 g s (a+n) l (c+n))):=aJ (by rw[←h2];exact G)
     clear G h1 h2 S;go_wp2_with fail;go_quiet (fail);have r:=aJ (o.out.up ((Old.refl W2).drewN nq));generalize W2.drewN nq=W3 at *;clear o;rw[K.out];go_wp2_with fail;refine(u.out _).mono ?_;rintro e w' ⟨rfl,rfl⟩;go_wp2_with fail;refine(y.out _ r.out).mono ?_;rintro e _ ⟨rfl,N⟩;have J:=aJ N;clear N y;go_wp2_with fail;go_roundw
     case rel=>exact(k.out _ J.out).1
     case measure=>exact(k.out _ J.out).2
    ·rw[h1] at u;have i2:(n:Int)≤(rest.size:Int):=by omega
     have i3:(0:Int)≤(n:Int):=by omega
     have Q:min n rest.size=n:=by omega
     have y:Hid (∀W,SC w0 W g s a l c→Calls Tryz.prog 152 #[.pointer (some ⟨g,0,none⟩),.int .i64 ((min n rest.size:Nat):Int)] W (oh w0 g s (a+n) l (c+n))):=aJ (by rw[Q];exact G)
     clear G h1 h2 Q S;go_wp2_with fail;go_quiet (fail);have r:=aJ (o.out.up ((Old.refl W2).drewN nq));generalize W2.drewN nq=W3 at *;clear o;rw[K.out];go_wp2_with fail;refine(u.out _).mono ?_;rintro e w' ⟨rfl,rfl⟩;go_wp2_with fail;refine(y.out _ r.out).mono ?_;rintro e _ ⟨rfl,N⟩;have J:=aJ N;clear N y;go_wp2_with fail;go_roundw
     case rel=>exact(k.out _ J.out).1
     case measure=>exact(k.out _ J.out).2
   ·have ac:((b:Int)==35)=false:=by rw[beq_eq_false_iff_ne];omega
    have k:Hid (xc w0 g s R (.returned (.tuple #[])) W2):=aJ ⟨a,l,c,rfl,by
     rw[←q.out,Lx.skip,if_neg j,if_neg p,if_neg E,t.out],o.out,ha,P,hc⟩
    clear q o d D t j p E;go_wp2_with fail;go_end0;exact k.out
  ·obtain rfl:a=s.size:=by omega
   have i1:¬(s.size:Int)<(s.size:Int):=by omega
   have q:Hid (R=([],s.size,l,c)):=aJ (by rw[←V,List.drop_eq_nil_of_le (by rw[af];exact bM _)];rfl)
   clear V f1 f2 F;go_wp2_with fail;go_quiet (fail);have I:=aJ (U.out.up ((Old.refl wr).drewN nq));generalize wr.drewN nq=W1 at *;clear U;go_wp2_with fail;go_end0;exact⟨s.size,l,c,rfl,by rw[q.out,List.drop_eq_nil_of_le (by rw[af];exact bM _)],I.out,bM _,P,hc⟩
def lZ (w:World) (R:Nat×List Nat×Nat) (e:Ending) (w':World):Prop:=e= .returned (.tuple #[.int .i64 (R.1:Int),.string (ak R.2.1),.int .i64 (R.2.2:Int),.nilIface])∧Old w w'
theorem Cm (s:ByteArray) (R:Nat×List Nat×Nat) (w:World) (hs:s.size≤100000) (h:Lx.tok (bs s)=some R):
  Calls Tryz.prog 151 #[.string s] w (lZ w R):=by
 have A:0<s.size:=by
  rcases Nat.eq_zero_or_pos s.size with e|e
  ·have:bs s=[]:=List.eq_nil_of_length_eq_zero (by rw[af];exact e)
   rw[this] at h;cases h
  ·exact e
 have b:bs s=s[0].toNat::(bs s).drop 1:=by rw[←dP s 0 A,←fV (by rw[af];exact A)];rfl
 have G:(0:Int)<(s.size:Int):=by omega
 have o:s[0].toNat<256:=s[0].toNat_lt
 have g:=aJ (zN s[0].toNat o w)
 have k:=aJ (zO s[0].toNat o w)
 have a:Lx.tok (s[0].toNat::(bs s).drop 1)=some R:=by rw[←b];exact h
 rw[Lx.tok,←b] at a;clear h;cases q:Lx.letter s[0].toNat with
 |true=>
  rw[q,if_pos rfl] at a;injection a with a
  have hn:((bs s).takeWhile Lx.word).length≤s.size:=by rw[←af];exact(List.takeWhile_sublist _).length_le
  have C:=aJ (fun W=>AC s _ W hs rfl)
  have hx:s.extract 0 ((bs s).takeWhile Lx.word).length=ak ((bs s).takeWhile Lx.word):=by
   rw[lR,List.drop_zero,Nat.sub_zero]
   congr 1
   exact List.prefix_iff_eq_take.mp (List.takeWhile_prefix _)|>.symm
  have f:Hid (∀w',Old w w'→lZ w R (.returned (.tuple #[.int .i64 1,.string (s.extract 0 ((bs s).takeWhile Lx.word).length),.int .i64 ((((bs s).takeWhile Lx.word).length:Nat):Int),.nilIface])) w'):=aJ (fun w' l=>by rw[hx,←a];exact⟨rfl,l⟩)
  rw[q] at g;clear hx a q b o k;generalize ((bs s).takeWhile Lx.word).length=n at *;have E:(n:Int)≤(s.size:Int):=by omega
  go_enter Tryz.func151,Tryz.ntmps151
  go_wp2_with fail;refine(g.out).mono ?_;rintro e w' ⟨rfl,rfl⟩;go_wp2_with fail;refine(C.out _).mono ?_;rintro e w' ⟨rfl,rfl⟩;go_wp2_with fail;go_quiet (fail);go_wp2_with fail;refine aP (v:= .tuple #[.int .i64 1,.string (s.extract 0 n),.int .i64 (n:Int),.nilIface]) (by simp[results,Tryz.results151,go_sem]) rfl ?_
  exact f.out _ ((Old.refl _).drewN nq)
 |false=>
  rw[q,if_neg (by decide)] at a
  rw[q] at g;clear q;cases i:Lx.digit s[0].toNat with
  |true=>
   rw[i,if_pos rfl] at a;cases a
  |false=>
   rw[i,if_neg (by decide)] at a
   rw[i] at k;clear i
   by_cases c:s[0].toNat=34
   ·rw[if_pos c] at a;cases j:Lx.quot (((bs s).drop 1).length+1) ((bs s).drop 1) 1 [] with
    |none=>rw[j] at a;cases a
    |some p=>
     rw[j] at a;injection a with a
     have u:=aJ (fun W=>AG s p _ W hs j)
     have f:Hid (∀w',Old w w'→lZ w R (.returned (.tuple #[.int .i64 3,.string (ak p.1),.int .i64 (p.2:Int),.nilIface])) w'):=aJ (fun w' l=>by rw[←a];exact⟨rfl,l⟩)
     have x:((s[0].toNat:Int)==34)=true:=by rw[c];rfl
     clear a j b o c;go_enter Tryz.func151,Tryz.ntmps151;go_wp2_with fail;refine(g.out).mono ?_;rintro e w' ⟨rfl,rfl⟩;go_wp2_with fail;refine(k.out).mono ?_;rintro e w' ⟨rfl,rfl⟩;go_wp2_with fail;refine(u.out _).mono ?_;rintro e w2 ⟨rfl,r⟩;have t:=aJ r;clear r;go_wp2_with fail;refine aP (v:= .tuple #[.int .i64 3,.string (ak p.1),.int .i64 (p.2:Int),.nilIface]) (by simp[results,Tryz.results151,go_sem]) rfl ?_
     exact f.out _ t.out
   rw[if_neg c] at a;have x:((s[0].toNat:Int)==34)=false:=by rw[beq_eq_false_iff_ne];omega
   by_cases d:s[0].toNat=47
   ·rw[if_pos d] at a;cases j:Lx.patt (((bs s).drop 1).length+1) ((bs s).drop 1) 1 [] with
    |none=>rw[j] at a;cases a
    |some p=>
     rw[j] at a;injection a with a
     have u:=aJ (fun W=>AH s p _ W hs A j)
     have f:Hid (∀w',Old w w'→lZ w R (.returned (.tuple #[.int .i64 4,.string (ak p.1),.int .i64 (p.2:Int),.nilIface])) w'):=aJ (fun w' l=>by rw[←a];exact⟨rfl,l⟩)
     have y:((s[0].toNat:Int)==47)=true:=by rw[d];rfl
     clear a j b o c d;go_enter Tryz.func151,Tryz.ntmps151;go_wp2_with fail;refine(g.out).mono ?_;rintro e w' ⟨rfl,rfl⟩;go_wp2_with fail;refine(k.out).mono ?_;rintro e w' ⟨rfl,rfl⟩;go_wp2_with fail;refine(u.out _).mono ?_;rintro e w2 ⟨rfl,r⟩;have t:=aJ r;clear r;go_wp2_with fail;refine aP (v:= .tuple #[.int .i64 4,.string (ak p.1),.int .i64 (p.2:Int),.nilIface]) (by simp[results,Tryz.results151,go_sem]) rfl ?_
     exact f.out _ t.out
   rw[if_neg d] at a;have y:((s[0].toNat:Int)==47)=false:=by rw[beq_eq_false_iff_ne];omega
   by_cases m:s[0].toNat=123∨s[0].toNat=125∨s[0].toNat=44∨s[0].toNat=61
   ·rw[if_pos m] at a;injection a with a
    have hx:s.extract 0 1=ak [s[0].toNat]:=by
     rw[lR,b];rfl
    have f:Hid (∀w',Old w w'→lZ w R (.returned (.tuple #[.int .i64 5,.string (s.extract 0 1),.int .i64 1,.nilIface])) w'):=aJ (fun w' l=>by rw[hx,←a];exact⟨rfl,l⟩)
    have E:(1:Int)≤(s.size:Int):=by omega
    clear hx a b o c d;rcases m with e|e|e|e
    ·have z:((s[0].toNat:Int)==123)=true:=by rw[e];rfl
     clear e;go_enter Tryz.func151,Tryz.ntmps151;go_wp2_with fail;refine(g.out).mono ?_;rintro e w' ⟨rfl,rfl⟩;go_wp2_with fail;refine(k.out).mono ?_;rintro e w' ⟨rfl,rfl⟩;go_wp2_with fail;go_quiet (fail);go_wp2_with fail;refine aP (v:= .tuple #[.int .i64 5,.string (s.extract 0 1),.int .i64 1,.nilIface]) (by simp[results,Tryz.results151,go_sem]) rfl ?_
     exact f.out _ ((Old.refl _).drewN nq)
    ·have z:((s[0].toNat:Int)==123)=false:=by rw[e];rfl
     have B:((s[0].toNat:Int)==125)=true:=by rw[e];rfl
     clear e;go_enter Tryz.func151,Tryz.ntmps151;go_wp2_with fail;refine(g.out).mono ?_;rintro e w' ⟨rfl,rfl⟩;go_wp2_with fail;refine(k.out).mono ?_;rintro e w' ⟨rfl,rfl⟩;go_wp2_with fail;go_quiet (fail);go_wp2_with fail;refine aP (v:= .tuple #[.int .i64 5,.string (s.extract 0 1),.int .i64 1,.nilIface]) (by simp[results,Tryz.results151,go_sem]) rfl ?_
     exact f.out _ ((Old.refl _).drewN nq)
    ·have z:((s[0].toNat:Int)==123)=false:=by rw[e];rfl
     have B:((s[0].toNat:Int)==125)=false:=by rw[e];rfl
     have D:((s[0].toNat:Int)==44)=true:=by rw[e];rfl
     clear e;go_enter Tryz.func151,Tryz.ntmps151;go_wp2_with fail;refine(g.out).mono ?_;rintro e w' ⟨rfl,rfl⟩;go_wp2_with fail;refine(k.out).mono ?_;rintro e w' ⟨rfl,rfl⟩;go_wp2_with fail;go_quiet (fail);go_wp2_with fail;refine aP (v:= .tuple #[.int .i64 5,.string (s.extract 0 1),.int .i64 1,.nilIface]) (by simp[results,Tryz.results151,go_sem]) rfl ?_
     exact f.out _ ((Old.refl _).drewN nq)
    ·have z:((s[0].toNat:Int)==123)=false:=by rw[e];rfl
     have B:((s[0].toNat:Int)==125)=false:=by rw[e];rfl
     have D:((s[0].toNat:Int)==44)=false:=by rw[e];rfl
     have F:((s[0].toNat:Int)==61)=true:=by rw[e];rfl
     clear e;go_enter Tryz.func151,Tryz.ntmps151;go_wp2_with fail;refine(g.out).mono ?_;rintro e w' ⟨rfl,rfl⟩;go_wp2_with fail;refine(k.out).mono ?_;rintro e w' ⟨rfl,rfl⟩;go_wp2_with fail;go_quiet (fail);go_wp2_with fail;refine aP (v:= .tuple #[.int .i64 5,.string (s.extract 0 1),.int .i64 1,.nilIface]) (by simp[results,Tryz.results151,go_sem]) rfl ?_
     exact f.out _ ((Old.refl _).drewN nq)
   ·rw[if_neg m] at a;cases a
theorem pC:(Tryz.prog.info? 121).map (fun i=>(i.zero,i.size,i.bytes))=some (some (.agg #[.int .i64 0,.string ⟨#[]⟩,.int .i64 0,.int .i64 0]),4,40):=by kernel_rfl
def ic (t:Tok):List Value:=[.int .i64 (t.kind:Int),.string (ak t.text),.int .i64 (t.line:Int),.int .i64 (t.col:Int)]
def dQ (l:List Tok):List Value:=l.flatMap ic
theorem nu (l:List Tok):(dQ l).length=4*l.length:=by
 unfold dQ
 induction l with
 |nil=>rfl
 |cons a l ih=>simp only[List.flatMap_cons,bF,List.length_cons,ih];simp[ic];omega
theorem kV (l:List Tok) (t:Tok):dQ l++ic t=dQ (l++[t]):=by simp[dQ]
theorem SC.self {w0 w:World} {g:Nat} {s:ByteArray} {a l c:Nat} (h:SC w0 w g s a l c):SC w w g s a l c:=⟨World.grownBy.refl _ _,h.blk⟩
theorem SC.trans {w0 w w':World} {g:Nat} {s:ByteArray} {a l c a' l' c':Nat} (h:SC w0 w g s a l c) (k:SC w w' g s a' l' c'):SC w0 w' g s a' l' c':=⟨h.gr.trans k.gr,k.blk⟩
theorem SC.far {w0 w w':World} {g:Nat} {s:ByteArray} {a l c:Nat} {row:Option Nat} (h:SC w0 w g s a l c) (b:w.grownBy w' row) (d:∀k,row=some k→w0.heap.size≤k) (f:g<w0.heap.size):SC w0 w' g s a l c:=by
 refine⟨⟨b.os.trans h.gr.os,b.tape.trans h.gr.tape,b.output.trans h.gr.output,bN h.gr.size b.size,fun k hk hne=>?_⟩,?_⟩
 ·exact(b.block k (Nat.lt_of_lt_of_le hk h.gr.size) (fun e=>by have:=d k e.symm;omega)).trans (h.gr.block k hk hne)
 ·exact(b.block g (aQ h.blk) (fun e=>by have:=d g e.symm;omega)).trans h.blk
theorem xY (t:List Nat):∀(b:Bool) (a l c:Nat),a≤(Lx.skip b t a l c).2.1:=by
 induction t with
 |nil=>intro b a l c;cases b<;>exact bM _
 |cons x r ih=>
  intro b a l c;cases b with
  |true=>
   rw[Lx.skip];split
   ·exact bN (Nat.le_succ a) (ih _ _ _ _)
   ·exact bN (Nat.le_succ a) (ih _ _ _ _)
  |false=>
   rw[Lx.skip];split
   ·exact bN (Nat.le_succ a) (ih _ _ _ _)
   ·split
    ·exact bN (Nat.le_succ a) (ih _ _ _ _)
    ·split
     ·exact bN (Nat.le_succ a) (ih _ _ _ _)
     ·exact bM _
theorem yk:∀(f:Nat) (r:List Nat) (i:Nat) (acc:List Nat) (p:List Nat×Nat),Lx.quot f r i acc=some p→i<p.2∧p.2≤i+r.length:=by
 intro f
 induction f with
 |zero=>intro r i acc p h;cases h
 |succ f ih=>
  intro r i acc p h;cases r with
  |nil=>cases h
  |cons c r=>
   rw[Lx.quot] at h;split at h
   ·injection h with h;subst h;simp
   ·split at h
    ·cases h
    ·split at h
     ·cases h
     ·have:=ih _ _ _ _ h
      rw[List.length_cons];omega
theorem yn:∀(f:Nat) (r:List Nat) (i:Nat) (acc:List Nat) (p:List Nat×Nat),Lx.patt f r i acc=some p→i<p.2∧p.2≤i+r.length:=by
 intro f
 induction f with
 |zero=>intro r i acc p h;cases h
 |succ f ih=>
  intro r i acc p h;cases r with
  |nil=>cases h
  |cons c r=>
   rw[mI] at h;split at h
   ·injection h with h;subst h;simp
   ·split at h
    ·cases h
    ·split at h
     ·cases h
     ·have:=ih _ _ _ _ h
      rw[List.length_cons];omega
theorem AL {t:List Nat} {R:Nat×List Nat×Nat} (h:Lx.tok t=some R):1≤R.2.2∧R.2.2≤t.length:=by
 cases t with
 |nil=>cases h
 |cons c r=>
  rw[Lx.tok] at h;split at h
  ·next hl=>
   injection h with h
   subst h;have b:Lx.word c=true:=by unfold Lx.word;rw[hl];rfl
   refine⟨?_,(List.takeWhile_sublist _).length_le⟩;simp[b]
  ·split at h
   ·cases h
   ·split at h
    ·cases a:Lx.quot (r.length+1) r 1 [] with
     |none=>rw[a] at h;cases h
     |some p=>
      rw[a] at h;injection h with h
      subst h;have:=yk _ _ _ _ _ a;rw[List.length_cons];exact⟨by show 1≤p.2;omega,by show p.2≤r.length+1;omega⟩
    ·split at h
     ·cases a:Lx.patt (r.length+1) r 1 [] with
      |none=>rw[a] at h;cases h
      |some p=>
       rw[a] at h;injection h with h
       subst h;have:=yn _ _ _ _ _ a;rw[List.length_cons];exact⟨by show 1≤p.2;omega,by show p.2≤r.length+1;omega⟩
     ·split at h
      ·injection h with h
       subst h;simp
      ·cases h
def wZ (b:World) (g:Nat) (s:ByteArray) (R:List Tok) (v0:Value) (wr:World):Prop:=
 ∃(f a l c:Nat) (T:List Tok) (v:Value),v=v0∧SC b wr g s a l c∧a≤s.size∧l≤a+1∧c≤a+1∧Own wr b.heap.size 121 4 v T.length (dQ T)∧Lx.scan f ((bs s).drop a) a l c T=some R∧T.length≤2000
def xa (w:World) (R:List Tok) (e:Ending) (w':World):Prop:=∃v,e= .returned (.tuple #[v,.nilIface])∧Own w' w.heap.size 121 4 v R.length (dQ R)∧Old w w'
theorem AE (s:ByteArray) (R:List Tok) (f:Nat) (w:World) (hs:s.size≤100000) (h:Lx.scan f (bs s) 0 1 1 []=some R):
  Calls Tryz.prog 92 #[.string s] w (xa w R):=by
 obtain⟨i,D⟩:∃i,i=w.alloc (.cells #[.string s,.int .i64 0,.int .i64 1,.int .i64 1] 266):=⟨_,rfl⟩
 have r:SC i i w.heap.size s 0 1 1:=⟨World.grownBy.refl _ _,by rw[D];exact aM w _⟩
 have hsz:i.heap.size=w.heap.size+1:=by rw[D];simp
 have hO:Old w i:=by rw[D];exact(Old.refl w).alloc _
 have HO:=aJ hO
 have HI:Hid (wZ i w.heap.size s R (.slice none 0 0) i):=aJ ⟨f,0,1,1,[],_,rfl,r,bO _,by omega,by omega,Own.nil_ _ _ _ _,h,bO _⟩
 have HW:=aJ D.symm
 clear h r hO D;go_enter Tryz.func92,Tryz.ntmps92;go_upto_region 3 with fail
 rw[HW.out];obtain⟨g,U⟩:∃g,w.heap.size=g:=⟨_,rfl⟩
 rw[U] at HI hsz ⊢;have ao:=aJ U;have ap:Hid (∀(v:Value) (W:World),Own W i.heap.size 121 4 v R.length (dQ R)→Old w W→xa w R (.returned (.tuple #[v,.nilIface])) W):=aJ (fun v W h1 h2=>⟨v,rfl,h1.base (by omega),h2⟩)
 clear U HW;go_wp2_with fail;go_loopw [5] (fun v wr=>wZ i g s R v wr) (fun _ wr=>s.size-scAt wr g)
 case atStart=>exact HI.out
 case round=>
  clear HI;obtain⟨f,a,l,c,T,v,rfl,r,ha,hl,hc,L,d,_⟩:=hrel;cases f with
  |zero=>cases d
  |succ f=>
  have ab:=aJ (AD wr g s a l c wr r.self hs ha hl hc)
  have aa:=aJ r
  have N:=aJ L
  have ag:g<i.heap.size:=by omega
  have HM:=aJ r.scAt
  have S:=xY ((bs s).drop a) false a l c
  rw[Lx.scan] at d;clear r L;go_wp2_with fail;refine(ab.out).mono ?_;rintro e w2 ⟨a',l',c',rfl,an,Y,_,_,_⟩;rw[an] at d S;have ae:a≤a':=S;have j:=aJ (aa.out.trans Y);have X:v.ownBlock=none∨v.ownBlock≠some g:=by
   cases hv:v.ownBlock with
   |none=>exact bX rfl
   |some k=>
    right
    intro e;injection e with e
    have:=(bU N.out k hv).1
    omega
  have b:Hid (Own w2 i.heap.size 121 4 v T.length (dQ T)):=aJ (bT N.out Y.gr X)
  have F:Hid (some g≠v.ownBlock):=aJ (by
   rcases X with e|e
   ·rw[e];simp
   ·exact fun h=>e h.symm)
  have ad:Hid (T.length+1≤68719476736):=aJ (by omega)
  have M:=aJ ag
  have y:Hid (Old w w2):=aJ (Below.grown HO.out.out j.out.gr HO.out.size (fun k hk=>by injection hk with hk;have:=ao.out;omega))
  clear an Y X N aa ab S ag;obtain⟨c0,c1,c2,c3,f1,f2,f3⟩:=j.out.cells
  by_cases ah:a'<s.size
  ·rw[fV (by rw[af];exact ah)] at d
   simp only at d
   rw[←fV (by rw[af];exact ah)] at d
   cases ht:Lx.tok ((bs s).drop a') with
   |none=>rw[ht] at d;cases d
   |some av=>
    obtain⟨k,x,n⟩:=av;rw[ht] at d;simp only at d;obtain⟨ai,V⟩:=AL ht;simp only at ai V;rw[List.length_drop,af] at V
    by_cases p:T.length=2000
    ·rw[if_pos p] at d;cases d
    rw[if_neg p,List.drop_drop] at d;have q1:((a':Int)==(s.size:Int))=false:=by rw[beq_eq_false_iff_ne];omega
    have q2:((T.length:Int)==2000)=false:=by rw[beq_eq_false_iff_ne];omega
    have i0:(0:Int)≤(a':Int):=by omega
    have i1:(a':Int)≤(s.size:Int):=by omega
    have P:bs (s.extract a' s.size)=(bs s).drop a':=by
     rw[i9,List.take_of_length_le];rw[List.length_drop,af];omega
    have am:(s.extract a' s.size).size≤100000:=by rw[←af,P,List.length_drop,af];omega
    have ac:=aJ (fun W=>Cm (s.extract a' s.size) (k,x,n) W am (by rw[P];exact ht))
    have I:Hid (∀(v':Value) (W:World),Own W i.heap.size 121 4 v' (T.length+1) (dQ T++[.int .i64 (k:Int),.string (ak x),.int .i64 (l':Int),.int .i64 (c':Int)])→SC i W g s (a'+n) l' (c'+n)→wZ i g s R v' W∧s.size-scAt W g<s.size-scAt wr g):=aJ (fun v' W h1 h2=>by
     refine⟨⟨f,a'+n,l',c'+n,T++[⟨k,x,l',c'⟩],v',rfl,h2,by omega,by omega,by omega,?_,d,by rw[bF,bG];omega⟩,by rw[h2.scAt,HM.out];omega⟩
     rw[←kV,bF,bG];exact h1)
    have J:=fun W (hW:SC i W g s a' l' c')=>zP W g s a' l' c' n W hW.self (by omega) (by omega)
    have H:=aJ J
    obtain⟨A,cp,hv,_,_,_⟩:=b.out.shape;subst hv;clear d ht P am J HM p V ai ae;go_wp2_with fail;refine(ac.out _).mono ?_;rintro e w3 ⟨rfl,Q⟩;have z:=aJ (b.out.up Q);have t:=aJ (j.out.up Q);clear Q b j c0 c1 c2 c3 f1 f2 f3 ac y;obtain⟨c0,c1,c2,c3,f1,f2,f3⟩:=t.out.cells;have m:Hid (∀W,Old w3 W→W.cell? ⟨g,2,none⟩=some (.int .i64 (l':Int))∧W.cell? ⟨g,3,none⟩=some (.int .i64 (c':Int))):=aJ (fun W C=>⟨C.cell t.out.cells.2.2.1,C.cell t.out.cells.2.2.2.1⟩)
    have E:Hid (∀o,i.heap.size≤(w3.alloc o).heap.size):=aJ (fun o=>by have:=t.out.gr.size;simp;omega)
    go_wp2_with fail;go_region_held3 (fun w'=>w'.cell? ⟨g,2,none⟩=some (.int .i64 (l':Int))∧w'.cell? ⟨g,3,none⟩=some (.int .i64 (c':Int)))
     (go_keep)
     ((refine eG _ (by rfl) _ _ 113 (by rfl) i.heap.size 121 (.agg #[.int .i64 0,.string ⟨#[]⟩,.int .i64 0,.int .i64 0]) 4 40 Tryz.underlying113 pC rfl (by decide) (by decide) (.slice A T.length cp) T.length (dQ T) (by rfl) (z.out.up aS) w3.heap.size 0 1 1 [.int .i64 (k:Int),.string (ak x),.int .i64 (l':Int),.int .i64 (c':Int)] (by rfl) (by first|exact fg _ _ _|exact(fg _ _ _).drew) rfl rfl ad.out (E.out _) ?_;intro v' w' C G Z;have e2:=G.cell (m.out _ aS).1 F.out;have e3:=G.cell (m.out _ aS).2 F.out;have u:=aJ C;have B:=aJ G;clear C G Z))
    have O:Hid (SC i w' g s a' l' c'):=aJ (SC.far (t.out.up aS) B.out (fun q d=>(bU z.out q d).1) M.out)
    clear B t z c0 c1 c2 c3 f1 f2 f3 e2 e3 m E;go_wp2_with fail;refine(H.out _ O.out).mono ?_;rintro e w5 ⟨rfl,h5⟩;have K:v'.ownBlock=none∨v'.ownBlock≠some g:=by
     cases hv:v'.ownBlock with
     |none=>exact bX rfl
     |some q=>
      right
      intro e;injection e with e
      have:=(bU u.out q hv).1
      have:=M.out
      omega
    obtain⟨aj,al⟩:=I.out v' w5 (bT u.out h5.gr K) (O.out.trans h5);have aq:=aJ aj;have ar:=aJ al;clear h5 K aj al H O I u;go_wp2_with fail;go_roundw
    case rel=>exact aq.out
    case measure=>exact ar.out
  ·obtain rfl:a'=s.size:=by omega
   rw[List.drop_eq_nil_of_le (by rw[af];exact bM _)] at d
   simp only at d
   injection d with d
   have q1:((s.size:Int)==(s.size:Int))=true:=by simp
   have m:Hid (∀W,Old w2 W→W.cell? ⟨g,2,none⟩=some (.int .i64 (l':Int))∧W.cell? ⟨g,3,none⟩=some (.int .i64 (c':Int))):=aJ (fun W C=>⟨C.cell j.out.cells.2.2.1,C.cell j.out.cells.2.2.2.1⟩)
   have E:Hid (∀o,i.heap.size≤(w2.alloc o).heap.size):=aJ (fun o=>by have:=j.out.gr.size;simp;omega)
   obtain⟨A,cp,hv,_,_,_⟩:=b.out.shape;subst hv;have au:Hid (∀(v':Value) (W:World),Own W i.heap.size 121 4 v' (T.length+1) (dQ T++[.int .i64 6,.string ⟨#[]⟩,.int .i64 (l':Int),.int .i64 (c':Int)])→Own W i.heap.size 121 4 v' R.length (dQ R)):=aJ (fun v' W h1=>by
    rw[←d,←kV,bF,bG];exact h1)
   clear d HM ae;go_wp2_with fail;go_region_held3 (fun w'=>w'.cell? ⟨g,2,none⟩=some (.int .i64 (l':Int))∧w'.cell? ⟨g,3,none⟩=some (.int .i64 (c':Int)))
    (go_keep)
    ((refine eG _ (by rfl) _ _ 113 (by rfl) i.heap.size 121 (.agg #[.int .i64 0,.string ⟨#[]⟩,.int .i64 0,.int .i64 0]) 4 40 Tryz.underlying113 pC rfl (by decide) (by decide) (.slice A T.length cp) T.length (dQ T) (by rfl) (b.out.up aS) w2.heap.size 0 1 1 [.int .i64 6,.string ⟨#[]⟩,.int .i64 (l':Int),.int .i64 (c':Int)] (by rfl) (by first|exact fg _ _ _|exact(fg _ _ _).drew) rfl rfl ad.out (E.out _) ?_;intro v' w' C G Z;have e2:=G.cell (m.out _ aS).1 F.out;have e3:=G.cell (m.out _ aS).2 F.out;have u:=aJ C;have B:=aJ G;clear C G Z))
   have HX:=aJ (ap.out v' w' (au.out v' w' u.out) (Own.grown_old (y.out.up aS) (b.out.up aS) (by have:=M.out;have:=HO.out.size;omega) B.out))
   clear u B b y j m;go_wp2_with fail;refine aP (v:= .tuple #[v',.nilIface]) (by simp[results,Tryz.results92,go_sem]) rfl HX.out
def xE (w:World) (R:List Tok) (e:Ending) (w':World):Prop:=∃v,e= .returned (.tuple #[v,cT])∧Own w' w.heap.size 121 4 v R.length (dQ R)∧Old w w'
theorem dI {w:World} {k:Nat} {a b c:Value} (h:w.heap[k]? =some (.cells #[a,b,c] 52 (0,0))):w.cell? ⟨k,0,none⟩=some a∧w.cell? ⟨k,1,none⟩=some b∧w.cell? ⟨k,2,none⟩=some c∧w.frozen? ⟨k,0,none⟩=false∧w.frozen? ⟨k,1,none⟩=false∧w.frozen? ⟨k,2,none⟩=false:=
 ⟨(aK w k 0 _ _ _ h).trans rfl,(aK w k 1 _ _ _ h).trans rfl,(aK w k 2 _ _ _ h).trans rfl,aN w k 0 _ _ h,aN w k 1 _ _ h,aN w k 2 _ _ h⟩
theorem Cn (s:ByteArray) (R:List Tok) (w:World) (h:Lx.all (bs s)=some R):
  Calls Tryz.prog 45 #[.string s] w (xE w R):=by
 unfold Lx.all at h
 by_cases i:8192<(bs s).length
 ·rw[if_pos i] at h;cases h
 rw[if_neg i] at h;rw[af] at i;have A:decide ((8192:Int)<(s.size:Int))=false:=by rw[decide_eq_false_iff_not];omega
 have r:=aJ (fun W=>AE s R ((bs s).length+1) W (by omega) h)
 have c:=aJ ((Old.refl w).alloc (.cells #[.int .i64 0,.int .i64 0,.int .i64 0] 52))
 have d:=aJ (aM w (.cells #[.int .i64 0,.int .i64 0,.int .i64 0] 52))
 have k:Hid (∀v W,Own W w.heap.size 121 4 v R.length (dQ R)→Old w W→xE w R (.returned (.tuple #[v,cT])) W):=aJ (fun v W a b=>⟨v,rfl,a,b⟩)
 clear h i;go_enter Tryz.func45,Tryz.ntmps45;go_wp2_with fail;refine(r.out _).mono ?_;rintro e w2 ⟨v,rfl,m,l⟩;have j:=aJ (l.block d.out);have f:=aJ (c.out.up l);have g:=aJ (m.base (by have:=c.out.size;exact this))
 obtain⟨u,c1,c2,_,f1,f2⟩:=dI j.out;have hne:v.ownBlock=none∨v.ownBlock≠some w.heap.size:=by
  cases hv:v.ownBlock with
  |none=>exact bX rfl
  |some q=>
   right
   intro e;injection e with e
   have:=(bU m q hv).1
   simp at this
   omega
 have t:Hid (∀x y z,Own (((w2.setCell ⟨w.heap.size,0,none⟩ x).setCell ⟨w.heap.size,1,none⟩ y).setCell ⟨w.heap.size,2,none⟩ z) w.heap.size 121 4 v R.length (dQ R)∧Old w (((w2.setCell ⟨w.heap.size,0,none⟩ x).setCell ⟨w.heap.size,1,none⟩ y).setCell ⟨w.heap.size,2,none⟩ z)):=aJ (fun x y z=>
  ⟨bT (bT (bT g.out (aD _ _ 0 x) hne) (aD _ _ 1 y) hne) (aD _ _ 2 z) hne,((f.out.setCell (p:=⟨w.heap.size,0,none⟩) (bM _) _).setCell (p:=⟨w.heap.size,1,none⟩) (bM _) _).setCell (p:=⟨w.heap.size,2,none⟩) (bM _) _⟩)
 clear l m c d f g r hne;go_wp2_with fail;obtain⟨n,o⟩:=t.out (.int .i64 0) (.int .i64 0) (.int .i64 0);exact aP (v:= .tuple #[v,cT]) (by simp[results,Tryz.results45,go_sem,cT,u,c1,c2]) rfl (k.out _ _ n o)
def jE (j:Jd):Jd:=⟨j.nm,j.run,none,j.env,0,none,j.needs,0,j.hasR,j.ready,j.restart,j.base,j.cap,j.stable,j.burst,j.win,none,j.lad,0,j.line,j.col⟩
namespace Gm
def hasB (l:List ByteArray) (s:ByteArray):Bool:=l.any (fun x=>decide (x=s))
def wRun:List Nat:=[114,117,110]
def wEnv:List Nat:=[101,110,118]
def wNeeds:List Nat:=[110,101,101,100,115]
def wReady:List Nat:=[114,101,97,100,121]
def wRestart:List Nat:=[114,101,115,116,97,114,116]
def wBackoff:List Nat:=[98,97,99,107,111,102,102]
def wBurst:List Nat:=[98,117,114,115,116]
def wStop:List Nat:=[115,116,111,112]
def take (k:Nat):List Tok→Option (Tok×List Tok)
 |[]=>none
 |t::r=>if t.kind=k then some (t,r) else none
def isSign (s:Nat):List Tok→Bool
 |[]=>false
 |t::_=>t.kind==5&&t.text==[s]
def sign (s:Nat) (l:List Tok):Option (List Tok):=if isSign s l=true then some l.tail else none
def name (full:Bool) (l:List Tok):Option (Tok×List Tok):=
 match take 1 l with
 |none=>none
 |some (t,r)=>if 32<t.text.length∨full=true then none else some (t,r)
def text (k most:Nat) (l:List Tok):Option (ByteArray×List Tok):=
 match take k l with
 |none=>none
 |some (t,r)=>if most<t.text.length then none else some (ak t.text,r)
def val (t:List Nat):Nat:=t.foldl (fun a c=>10*a+(c-48)) 0
def num (l:List Tok):Option (Nat×List Tok):=
 match take 2 l with
 |none=>none
 |some (t,r)=>if t.text.all Lx.digit=true∧0<t.text.length∧t.text.length≤18 then some (val t.text,r) else none
def needs : Nat → Jd → List Tok → Option (Jd × List Tok)
  | 0, _, _ => none
  | f + 1, j, l => match name (decide (16 ≤ j.needs.length)) l with
    | none => none
    | some (t, r) => if hasB j.needs (ak t.text) = true then none else
      (let j' : Jd := { j with needs := j.needs ++ [ak t.text] }
       if isSign 44 r = true then needs f j' r.tail else some (j', r))
def fw (t:List Nat):Int:=
 if t=[72,85,80] then 1 else if t=[73,78,84] then 2 else if t=[81,85,73,84] then 3 else if t=[85,83,82,49] then 10 else if t=[85,83,82,50] then 12 else if t=[84,69,82,77] then 15 else 0
def dC : Nat → Jd → List Tok → Option (Jd × List Tok)
  | 0, _, _ => none
  | f + 1, j, l => match take 1 l with
    | none => none
    | some (t, r) => if 5 ≤ j.lad.length ∨ fw t.text = 0 then none else
      (match num r with
       | none => none
       | some (n, r) =>
         let j' : Jd := { j with lad := j.lad ++ [(fw t.text, (n : Int))] }
         if isSign 44 r = true then dC f j' r.tail else some (j', r))
def item (w:List Nat) (j:Jd) (l:List Tok):Option (Jd×List Tok):=
 if w=wRun then(match text 3 512 l with|none=>none|some (s,r)=>some ({j with run:=s},r))
 else if w=wNeeds then needs (l.length+1) j l
 else if w=wReady then(match text 4 128 l with|none=>none|some (s,r)=>some ({j with ready:=s,hasR:=true},r))
 else none
def items : Nat → List (List Nat) → Jd → List Tok → Option (Jd × List Tok)
  | 0, _, _, _ => none
  | f + 1, seen, j, l => if isSign 125 l = true then (if wRun ∈ seen then some (j, l.tail) else none) else
    (match take 1 l with
     | none => none
     | some (t, r) => if t.text ≠ wEnv ∧ t.text ∈ seen then none else
       (match item t.text j r with
        | none => none
        | some (j', a) => items f (if t.text = wEnv then seen else seen ++ [t.text]) j' a))
def jobOf (nm:ByteArray) (line col:Int):Jd:=⟨nm,⟨#[]⟩,none,[],0,none,[],0,false,⟨#[]⟩,2,100,10000,10000,5,60000,none,[(15,5000)],0,line,col⟩
def job (full : Bool) (l : List Tok) : Option (Jd × List Tok) :=
  match take 1 l with
  | none => none
  | some (t, r) => if t.text ≠ [106, 111, 98] then none else
    (match name full r with
     | none => none
     | some (t, r) => match sign 123 r with
       | none => none
       | some r => items (r.length + 1) [] (jobOf (ak t.text) t.line t.col) r)
def jobs : Nat → List Jd → List Tok → Option (List Jd)
  | 0, _, _ => none
  | _ + 1, _, [] => none
  | f + 1, acc, t :: r => if t.kind = 6 then some acc else
    (match job (decide (32 ≤ acc.length)) (t :: r) with
     | none => none
     | some (j, a) => jobs f (acc ++ [j]) a)
def parse (l:List Tok):Option (List Jd):=jobs (l.length+1) [] l
def load (t:List Nat):Option (List Jd):=match Lx.all t with|none=>none|some l=>parse l
end Gm
def DR:List Nat:=[106,111,98,32,97,32,123,32,114,117,110,32,34,120,34,32,110,101,101,100,115,32,98,32,125,32,106,111,98,32,98,32,123,32,114,117,110,32,34,121,34,32,114,101,97,100,121,32,47,111,107,47,32,125]
def awJ:List Jd:=[⟨⟨#[97]⟩,⟨#[120]⟩,none,[],0,none,[⟨#[98]⟩],0,false,⟨#[]⟩,2,100,10000,10000,5,60000,none,[(15,5000)],0,1,5⟩,
 ⟨⟨#[98]⟩,⟨#[121]⟩,none,[],0,none,[],0,true,⟨#[111,107]⟩,2,100,10000,10000,5,60000,none,[(15,5000)],0,1,31⟩]
theorem zt:Gm.load DR=some awJ:=by kernel_rfl
def ie (t:Tok):Value:= .agg #[.int .i64 (t.kind:Int),.string (ak t.text),.int .i64 (t.line:Int),.int .i64 (t.col:Int)]
def LtT (T:List Tok):Prop:=∀t∈T,∀x∈t.text,x<256
theorem jM {a b:List Nat} (ha:∀x∈a,x<256) (c:∀x∈b,x<256) (h:ak a=ak b):a=b:=by
 rw[←lV a ha,←lV b c,h]
structure GP (w0 w:World) (g:Nat) (A:Option Addr) (c:Nat) (T:List Tok) (a:Nat):Prop where
 gr:w0.grownBy w (some g)
 blk:w.heap[g]? =some (.cells #[.slice A T.length c,.int .i64 (a:Int)] 119 (0,0))
 tk:Ts w 121 A (dQ T)
 few:T.length≤100000
 lt:LtT T
section
variable {w0 w w' : World} {g : Nat} {A : Option Addr} {c : Nat} {T : List Tok} {a : Nat}
theorem GP.self (h:GP w0 w g A c T a):GP w w g A c T a:=⟨World.grownBy.refl _ _,h.blk,h.tk,h.few,h.lt⟩
theorem GP.trans {a':Nat} (h:GP w0 w g A c T a) (k:GP w w' g A c T a'):GP w0 w' g A c T a':=⟨h.gr.trans k.gr,k.blk,k.tk,k.few,k.lt⟩
theorem GP.up (h:GP w0 w g A c T a) (b:Old w w'):GP w0 w' g A c T a:=⟨fF h.gr b,b.block h.blk,h.tk.up b,h.few,h.lt⟩
theorem GP.put (h:GP w0 w g A c T a) (a':Nat):GP w0 (w.setCell ⟨g,1,none⟩ (.int .i64 (a':Int))) g A c T a':=
 ⟨h.gr.trans (aD w g 1 _),aO w g 1 _ _ _ h.blk,h.tk.setOtherG h.blk (by decide) _,h.few,h.lt⟩
theorem GP.cells (h:GP w0 w g A c T a):w.cell? ⟨g,0,none⟩=some (.slice A T.length c)∧w.cell? ⟨g,1,none⟩=some (.int .i64 (a:Int))∧w.frozen? ⟨g,1,none⟩=false:=
 ⟨(aK w g 0 _ _ _ h.blk).trans rfl,(aK w g 1 _ _ _ h.blk).trans rfl,aN w g 1 _ _ h.blk⟩
end
theorem iw {a w:World} {row:Option Nat} (h:a.grownBy w row) {k:Nat} (hk:a.heap.size≤k) (i:Nat) (v:Value):a.grownBy (w.setCell ⟨k,i,none⟩ v) row:=
 ⟨h.os,h.tape,h.output,by simpa using h.size,fun j hj b=>(aL w ⟨k,i,none⟩ j v (fun e=>by simp at e;omega)).trans (h.block j hj b)⟩
theorem GP.turn {w w':World} {g:Nat} {A:Option Addr} {c:Nat} {T:List Tok} {a a':Nat} (h:GP w w g A c T a) (f:w.grownBy w' (some g)) (j:w'.heap[g]? =some (.cells #[.slice A T.length c,.int .i64 (a':Int)] 119 (0,0))):GP w w' g A c T a':=by
 refine⟨f,j,?_,h.few,h.lt⟩;rcases h.tk with q|⟨b,off,cur,fz,i,d,hc⟩
 ·exact bX q
 ·refine bY ⟨b,off,cur,fz,i,(f.block b (aQ d) (fun e=>?_)).trans d,hc⟩
  injection e with e
  subst e;rw[h.blk] at d;simp at d
def Bf (w:World) (k:Nat) (v0 v1 v2 v3:Value):World:=(((w.setCell ⟨k,0,none⟩ v0).setCell ⟨k,1,none⟩ v1).setCell ⟨k,2,none⟩ v2).setCell ⟨k,3,none⟩ v3
theorem rJ {a w:World} {row:Option Nat} (h:a.grownBy w row) {k:Nat} (hk:a.heap.size≤k) (v0 v1 v2 v3:Value):a.grownBy (Bf w k v0 v1 v2 v3) row:=
 iw (iw (iw (iw h hk 0 v0) hk 1 v1) hk 2 v2) hk 3 v3
theorem lD {w:World} {k j:Nat} {v0 v1 v2 v3:Value} (h:j≠k):(Bf w k v0 v1 v2 v3).heap[j]? =w.heap[j]?:=by
 unfold Bf;iterate 4 rw[aL _ _ j _ h]
def fo:Tok:=⟨0,[],0,0⟩
theorem iC:∀(l:List Tok) (i n:Nat) (v:Value),i<l.length→(ic (l.getD i fo))[n]? =some v→(dQ l)[i*4+n]? =some v:=by
 intro l
 induction l with
 |nil=>intro i n v h;simp at h
 |cons a l ih=>
  intro i n v h hv;unfold dQ at *;cases i with
  |zero=>
   have hn:n<4:=(List.getElem?_eq_some_iff.mp hv).1
   rw[List.flatMap_cons,Nat.zero_mul,Nat.zero_add,bJ (by exact hn)]
   exact hv
  |succ i=>
   rw[List.flatMap_cons,List.getElem?_append_right (by show 4≤_;omega),show(ic a).length=4 from rfl,show(i+1)*4+n-4=i*4+n by omega]
   exact ih i n v (by simpa using h) hv
theorem GP.tokAt {w0 w:World} {g:Nat} {A:Option Addr} {c:Nat} {T:List Tok} {a:Nat} (h:GP w0 w g A c T a) (ha:a<T.length):
  ∃b off,A=some ⟨b,off,none⟩∧w.cell? ⟨b,off+a*4,none⟩=some (.int .i64 ((T.getD a fo).kind:Int))∧w.cell? ⟨b,off+a*4+1,none⟩=some (.string (ak (T.getD a fo).text))∧w.cell? ⟨b,off+a*4+2,none⟩=some (.int .i64 ((T.getD a fo).line:Int))∧w.cell? ⟨b,off+a*4+3,none⟩=some (.int .i64 ((T.getD a fo).col:Int)):=by
 obtain⟨b,off,d,_,hc⟩:=h.tk.rs.at_ (by rw[nu];omega)
 refine⟨b,off,d,?_,?_,?_,?_⟩
 ·have:=hc _ _ (iC T a 0 _ ha rfl);exact this
 ·have:=hc _ _ (iC T a 1 _ ha rfl);rw[←Nat.add_assoc] at this;exact this
 ·have:=hc _ _ (iC T a 2 _ ha rfl);rw[←Nat.add_assoc] at this;exact this
 ·have:=hc _ _ (iC T a 3 _ ha rfl);rw[←Nat.add_assoc] at this;exact this
theorem lU {T:List Tok} {a:Nat} (h:a<T.length):T.drop a=T.getD a fo::T.drop (a+1):=by
 rw[List.drop_eq_getElem_cons h,bD,bE h];rfl
theorem qN {w0 w:World} {g:Nat} {A:Option Addr} {c:Nat} {T:List Tok} {a:Nat} (h:GP w0 w g A c T a) (ha:a<T.length):
  Calls Tryz.prog 47 #[.pointer (some ⟨g,0,none⟩)] w fun e w'=>e= .returned (ie (T.getD a fo))∧Old w w':=by
 obtain⟨b,off,rfl,f,i,j,k⟩:=h.tokAt ha;obtain⟨d,c1,_⟩:=h.cells;have l:(0:Int)≤(a:Int):=by omega
 have m:(a:Int)<(T.length:Int):=by omega
 have o:(T.length:Int)≤100000:=by have:=h.few;omega
 unfold ie;clear h ha;generalize T.getD a fo=t at *;generalize T.length=n at *;have n0:=World.new_ne w ⟨g,0,none⟩ d;have n1:=World.new_ne w ⟨g,1,none⟩ c1;have p:=World.new_ne w ⟨b,off+a*4,none⟩ f;have m1:=World.new_ne w ⟨b,off+a*4+1,none⟩ i;have m2:=World.new_ne w ⟨b,off+a*4+2,none⟩ j;have m3:=World.new_ne w ⟨b,off+a*4+3,none⟩ k;go_enter Tryz.func47,Tryz.ntmps47;go_wp2_with fail;go_region_held3 (fun w'=>w'.cell? ⟨g,0,none⟩=some (.slice (some ⟨b,off,none⟩) n c)∧w'.cell? ⟨g,1,none⟩=some (.int .i64 (a:Int))∧w'.cell? ⟨b,off+a*4,none⟩=some (.int .i64 (t.kind:Int))∧w'.cell? ⟨b,off+a*4+1,none⟩=some (.string (ak t.text))∧w'.cell? ⟨b,off+a*4+2,none⟩=some (.int .i64 (t.line:Int))∧w'.cell? ⟨b,off+a*4+3,none⟩=some (.int .i64 (t.col:Int))) (go_keep) (fail)
 all_goals go_wp2_with fail
 exact aP (v:= .agg #[.int .i64 (t.kind:Int),.string (ak t.text),.int .i64 (t.line:Int),.int .i64 (t.col:Int)]) (by simp[results,Tryz.results47,go_sem]) rfl ⟨rfl,((Old.refl w).alloc _).drew⟩
theorem dE {k:Nat} {l r:List Tok} {t:Tok} (h:Gm.take k l=some (t,r)):l=t::r∧t.kind=k:=by
 cases l with
 |nil=>cases h
 |cons x l=>
  rw[Gm.take] at h;split at h
  ·next hk=>injection h with h;injection h with h1 h2;subst h1;subst h2;exact⟨rfl,hk⟩
  ·cases h
theorem dW {T r:List Tok} {a:Nat} {t:Tok} (h:T.drop a=t::r):a<T.length∧T.getD a fo=t∧r=T.drop (a+1):=by
 have ha:a<T.length:=by
  by_cases ha:a<T.length
  ·exact ha
  ·rw[List.drop_eq_nil_of_le (by omega)] at h;cases h
 rw[lU ha] at h;injection h with h1 h2
 exact⟨ha,h1,h2.symm⟩
def gX (w:World) (g:Nat) (A:Option Addr) (c:Nat) (T:List Tok) (v:Value) (a':Nat) (e:Ending) (w':World):Prop:=e= .returned v∧GP w w' g A c T a'
theorem nQ {w:World} {g:Nat} {A:Option Addr} {c:Nat} {T:List Tok} {a:Nat} (h:GP w w g A c T a) {k:Nat} {t:Tok} {r:List Tok} (hm:Gm.take k (T.drop a)=some (t,r)):
  Calls Tryz.prog 93 #[.pointer (some ⟨g,0,none⟩),.int .i64 (k:Int)] w (gX w g A c T (ie t) (a+1)):=by
 obtain⟨f,hk⟩:=dE hm;obtain⟨ha,x,_⟩:=dW f;have d:=aJ (fun W (B:Old w W)=>qN (h.up B) ha)
 rw[x] at d;have C:((t.kind:Int) !=(k:Int))=false:=by rw[hk];simp
 have D:IntKind.i64.wrap ((a:Int)+1)=(a:Int)+1:=bV _ (by have:=h.few;omega)
 have q:Hid (∀l,l=w.alloc (.cells #[.int .i64 0,.string ⟨#[]⟩,.int .i64 0,.int .i64 0] 121)→Old w l∧l.heap[w.heap.size]? =some (.cells #[.int .i64 0,.string ⟨#[]⟩,.int .i64 0,.int .i64 0] 121 (0,0))):=aJ (by rintro l rfl;exact⟨(Old.refl w).alloc _,aM w _⟩)
 have m:=aJ h
 have i:g≠w.heap.size:=Nat.ne_of_lt (aQ h.blk)
 have s:w.heap.size≠g:=fun e=>i e.symm
 clear h hm f hk ha x;go_enter Tryz.func93,Tryz.ntmps93;go_wp2_with fail;obtain⟨p,u⟩:=q.out _ rfl;refine(d.out _ p).mono ?_;rintro e w2 ⟨rfl,f⟩;have j:=aJ ((m.out.up p).up f);have b:=aJ (f.block u);have y:=aJ m.out;clear f p u q d m;unfold ie;obtain⟨_,c1,f1⟩:=j.out.cells;have gl:g<w2.heap.size:=aQ j.out.blk;have bl:w.heap.size<w2.heap.size:=aQ b.out;have n:=aK w2 w.heap.size 0 _ _ _ b.out;have b1:=aK w2 w.heap.size 1 _ _ _ b.out;have b2:=aK w2 w.heap.size 2 _ _ _ b.out;have b3:=aK w2 w.heap.size 3 _ _ _ b.out
 replace n:w2.cell? ⟨w.heap.size,0,none⟩=some (.int .i64 0):=n
 replace b1:w2.cell? ⟨w.heap.size,1,none⟩=some (.string ⟨#[]⟩):=b1
 replace b2:w2.cell? ⟨w.heap.size,2,none⟩=some (.int .i64 0):=b2
 replace b3:w2.cell? ⟨w.heap.size,3,none⟩=some (.int .i64 0):=b3
 have hx:=fun v0 v1 v2 v3 o=>GP.turn (a':=a+1) y.out (fF (rJ (j.out.gr.trans (aD w2 g 1 (.int .i64 ((a+1:Nat):Int)))) (bM _) v0 v1 v2 v3) ((Old.refl _).alloc o)) (((Old.refl _).alloc o).block ((lD i).trans (aO w2 g 1 _ _ (.int .i64 ((a+1:Nat):Int)) j.out.blk)))
 rw[Int.natCast_add] at hx;have z:=aJ hx;clear hx;have E:=aN w2 w.heap.size 0 _ _ b.out;have F:=aN w2 w.heap.size 1 _ _ b.out;have G:=aN w2 w.heap.size 2 _ _ b.out;have H:=aN w2 w.heap.size 3 _ _ b.out;go_wp2_with fail;refine aP (v:= .agg #[.int .i64 (t.kind:Int),.string (ak t.text),.int .i64 (t.line:Int),.int .i64 (t.col:Int)]) (by simp[results,Tryz.results93,go_sem,n,b1,b2,b3,bl]) rfl ⟨rfl,?_⟩
 exact z.out _ _ _ _ _
theorem yb {T:List Tok} (h:LtT T) {a s:Nat} (ha:a<T.length) (hs:s<256):Gm.isSign s (T.drop a)=(decide ((T.getD a fo).kind=5)&&decide (ak (T.getD a fo).text=ak [s])):=by
 rw[lU ha,Gm.isSign];have hm:T.getD a fo∈T:=by rw[bD,bE ha];exact bH ha
 have e:((T.getD a fo).text==[s])=decide (ak (T.getD a fo).text=ak [s]):=by
  by_cases h1:(T.getD a fo).text=[s]
  ·rw[h1];simp
  ·have h2:ak (T.getD a fo).text≠ak [s]:=fun e=>h1 (jM (h _ hm) (by intro x hx;simp at hx;omega) e)
   rw[decide_eq_false h2,beq_eq_false_iff_ne];exact h1
 rw[e]
 congr 1
theorem qM {w0 w:World} {g:Nat} {A:Option Addr} {c:Nat} {T:List Tok} {a:Nat} (h:GP w0 w g A c T a) (ha:a<T.length) (s:Nat) (hs:s<256) (x:ByteArray) (hx:x=ak [s]):
  Calls Tryz.prog 97 #[.pointer (some ⟨g,0,none⟩),.string x] w fun e w'=>e= .returned (.bool (Gm.isSign s (T.drop a)))∧Old w w':=by
 rw[yb h.lt ha hs,←hx];have b:=aJ (qN h ha);clear h ha hx hs;generalize T.getD a fo=t at *
 by_cases hk:t.kind=5
 ·have j:((t.kind:Int)==5)=true:=by rw[hk];rfl
  rw[decide_eq_true hk]
  by_cases f:ak t.text=x
  ·have k:((ak t.text).toList==x.toList)=true:=by rw[f];simp
   rw[decide_eq_true f];clear hk f;go_enter Tryz.func97,Tryz.ntmps97;go_wp2_with fail;refine(b.out).mono ?_;rintro e w2 ⟨rfl,d⟩;have i:=aJ d;clear d b;unfold ie;go_wp2_with fail;go_ret;exact⟨rfl,i.out.alloc _⟩
  ·have k:((ak t.text).toList==x.toList)=false:=Ae f
   rw[decide_eq_false f];clear hk f;go_enter Tryz.func97,Tryz.ntmps97;go_wp2_with fail;refine(b.out).mono ?_;rintro e w2 ⟨rfl,d⟩;have i:=aJ d;clear d b;unfold ie;go_wp2_with fail;go_ret;exact⟨rfl,i.out.alloc _⟩
 ·have j:((t.kind:Int)==5)=false:=by rw[beq_eq_false_iff_ne];omega
  rw[decide_eq_false hk];clear hk;go_enter Tryz.func97,Tryz.ntmps97;go_wp2_with fail;refine(b.out).mono ?_;rintro e w2 ⟨rfl,d⟩;have i:=aJ d;clear d b;unfold ie;go_wp2_with fail;go_ret;exact⟨rfl,i.out.alloc _⟩
theorem li {s:Nat} {l r:List Tok} (h:Gm.sign s l=some r):∃t,l=t::r∧Gm.isSign s l=true:=by
 unfold Gm.sign at h;split at h
 ·next hs=>
  injection h with h
  cases l with
  |nil=>cases hs
  |cons t l=>exact⟨t,by rw[←h];rfl,hs⟩
 ·cases h
theorem BA {w:World} {g:Nat} {A:Option Addr} {c:Nat} {T:List Tok} {a:Nat} (h:GP w w g A c T a) (s:Nat) (hs:s<256) {r:List Tok} (hm:Gm.sign s (T.drop a)=some r) (x:ByteArray) (hx:x=ak [s]):
  Calls Tryz.prog 96 #[.pointer (some ⟨g,0,none⟩),.string x] w (gX w g A c T (.tuple #[]) (a+1)):=by
 obtain⟨t,d,j⟩:=li hm;obtain⟨ha,_,_⟩:=dW d;have f:=qM h ha s hs x hx;rw[j] at f;have i:=aJ f;have k:=aJ h;have m:IntKind.i64.wrap ((a:Int)+1)=(a:Int)+1:=bV _ (by have:=h.few;omega)
 clear h hm d j f hx;go_enter Tryz.func96,Tryz.ntmps96;go_wp2_with fail;refine(i.out).mono ?_;rintro e w2 ⟨rfl,d⟩;have b:=aJ (k.out.up d);clear d i;obtain⟨_,c1,f1⟩:=b.out.cells;have hx:=b.out.put (a+1);rw[Int.natCast_add] at hx;have l:=aJ hx;clear hx;go_wp2_with fail;go_end0;exact⟨rfl,l.out⟩
theorem ji {k most:Nat} {l r:List Tok} {s:ByteArray} (h:Gm.text k most l=some (s,r)):∃t,Gm.take k l=some (t,r)∧s=ak t.text∧t.text.length≤most:=by
 unfold Gm.text at h;cases a:Gm.take k l with
 |none=>rw[a] at h;cases h
 |some p=>
  obtain⟨t,_⟩:=p;rw[a] at h;simp only at h;split at h
  ·cases h
  ·next hc=>
   injection h with h
   injection h with h1 h2
   subst h2;exact⟨t,rfl,h1.symm,by omega⟩
theorem LtT.at_ {T:List Tok} (h:LtT T) {a:Nat} {t:Tok} {r:List Tok} (b:T.drop a=t::r):∀x∈t.text,x<256:=by
 have hm:t∈T:=List.mem_of_mem_drop (i:=a) (by rw[b];exact List.mem_cons_self ..)
 exact h t hm
theorem kX {l:List Nat}:(ak l).size=l.length:=by unfold ak;show(l.map UInt8.ofNat).toArray.size=_;simp
theorem vW {w:World} {g:Nat} {A:Option Addr} {c:Nat} {T:List Tok} {a:Nat} (h:GP w w g A c T a) {k most:Nat} {s:ByteArray} {r:List Tok} (hm:Gm.text k most (T.drop a)=some (s,r)):
  Calls Tryz.prog 154 #[.pointer (some ⟨g,0,none⟩),.int .i64 (k:Int),.int .i64 (most:Int)] w (gX w g A c T (.string s) (a+1)):=by
 obtain⟨t,d,rfl,i⟩:=ji hm;have b:=aJ (nQ h d);have j:decide (most<(ak t.text).size)=false:=by rw[kX,decide_eq_false_iff_not];omega
 clear h hm d i;unfold ie at b;generalize ak t.text=s at *;go_enter Tryz.func154,Tryz.ntmps154;go_wp2_with fail;refine(b.out).mono ?_;rintro e w2 ⟨rfl,h2⟩;have f:=aJ (h2.up ((Old.refl _).alloc (.cells #[.int .i64 (t.kind:Int),.string s,.int .i64 (t.line:Int),.int .i64 (t.col:Int)] 121)));clear h2 b;go_wp2_with fail;go_ret;exact⟨rfl,f.out⟩
theorem fC {full:Bool} {l r:List Tok} {t:Tok} (h:Gm.name full l=some (t,r)):Gm.take 1 l=some (t,r)∧t.text.length≤32∧full=false:=by
 unfold Gm.name at h;cases a:Gm.take 1 l with
 |none=>rw[a] at h;cases h
 |some p=>
  obtain⟨t',_⟩:=p;rw[a] at h;simp only at h;split at h
  ·cases h
  ·next hc=>
   injection h with h
   injection h with h1 h2
   subst h1;subst h2;exact⟨rfl,by omega,by cases full;rfl;exact absurd (bY rfl) hc⟩
theorem vX {w:World} {g:Nat} {A:Option Addr} {c:Nat} {T:List Tok} {a:Nat} (h:GP w w g A c T a) {full:Bool} {t:Tok} {r:List Tok} (hm:Gm.name full (T.drop a)=some (t,r)):
  Calls Tryz.prog 95 #[.pointer (some ⟨g,0,none⟩),.bool full] w (gX w g A c T (ie t) (a+1)):=by
 obtain⟨u,z,rfl⟩:=fC hm;have n:Hid (∀W,Old w W→Calls Tryz.prog 93 #[.pointer (some ⟨g,0,none⟩),.int .i64 1] W (gX W g A c T (ie t) (a+1))):=aJ (fun W B=>nQ (h.up B).self u)
 have C:decide ((32:Int)<((ak t.text).size:Int))=false:=by rw[kX,decide_eq_false_iff_not];omega
 have p:Hid (∀d,d=w.alloc (.cells #[.int .i64 0,.string ⟨#[]⟩,.int .i64 0,.int .i64 0] 121)→Old w d∧d.heap[w.heap.size]? =some (.cells #[.int .i64 0,.string ⟨#[]⟩,.int .i64 0,.int .i64 0] 121 (0,0))∧w.heap.size<d.heap.size):=aJ (by rintro d rfl;exact⟨(Old.refl w).alloc _,aM w _,by simp⟩)
 have l:=aJ h
 have f:g≠w.heap.size:=Nat.ne_of_lt (aQ h.blk)
 have i:w.heap.size≠g:=fun e=>f e.symm
 clear h hm u z;unfold ie at *;generalize ak t.text=s at *;go_enter Tryz.func95,Tryz.ntmps95;go_wp2_with fail;obtain⟨m,q,j⟩:=p.out _ rfl;refine(n.out _ m).mono ?_;rintro e w2 ⟨rfl,h2⟩;have k:=aJ ((l.out.up m).trans h2);have b:=aJ ((h2.gr.block _ j (fun e=>i (by injection e))).trans q)
 have bl:w.heap.size<w2.heap.size:=aQ b.out
 have y:w2.cell? ⟨w.heap.size,0,none⟩=some (.int .i64 0):=(aK w2 w.heap.size 0 _ _ _ b.out).trans rfl
 have b1:w2.cell? ⟨w.heap.size,1,none⟩=some (.string ⟨#[]⟩):=(aK w2 w.heap.size 1 _ _ _ b.out).trans rfl
 have b2:w2.cell? ⟨w.heap.size,2,none⟩=some (.int .i64 0):=(aK w2 w.heap.size 2 _ _ _ b.out).trans rfl
 have b3:w2.cell? ⟨w.heap.size,3,none⟩=some (.int .i64 0):=(aK w2 w.heap.size 3 _ _ _ b.out).trans rfl
 have D:=aN w2 w.heap.size 0 _ _ b.out
 have E:=aN w2 w.heap.size 1 _ _ b.out
 have F:=aN w2 w.heap.size 2 _ _ b.out
 have G:=aN w2 w.heap.size 3 _ _ b.out
 have x:=aJ (fun v0 v1 v2 v3 o=>GP.turn (a':=a+1) l.out (fF (rJ k.out.gr (bM _) v0 v1 v2 v3) ((Old.refl _).alloc o)) (((Old.refl _).alloc o).block ((lD f).trans k.out.blk)))
 clear m q j p h2 n l k;go_wp2_with fail;refine aP (v:= .agg #[.int .i64 (t.kind:Int),.string s,.int .i64 (t.line:Int),.int .i64 (t.col:Int)]) (by simp[results,Tryz.results95,go_sem,y,b1,b2,b3,bl]) rfl ⟨rfl,?_⟩
 exact x.out _ _ _ _ _
theorem mS:(Tryz.prog.info? 9).map (fun i=>(i.zero,i.size,i.bytes))=some (some (.string ⟨#[]⟩),1,16):=by kernel_rfl
def Az (u v:Value):Prop:=u.ownBlock=none∨v.ownBlock=none∨u.ownBlock≠v.ownBlock
structure GJb (wB w:World) (g k:Nat) (A:Option Addr) (c:Nat) (T:List Tok) (a:Nat) (j:Jd) (sv:Value) (seen:List ByteArray):Prop where
 gp:GP wB w g A c T a
 gl:g<wB.heap.size
 kB:wB.heap.size≤k
 row:w.heap[k]? =some (.cells (ae j).toArray 32 (0,0))
 env:Own w wB.heap.size 67 2 (.slice j.eA j.env.length j.ec) j.env.length (ib j.env)
 needs:Own w wB.heap.size 9 1 (.slice j.nA j.needs.length j.nc) j.needs.length (aT j.needs)
 lad:Own w wB.heap.size 70 2 (.slice j.lA j.lad.length j.lc) j.lad.length (dC j.lad)
 seen:Own w wB.heap.size 9 1 sv seen.length (aT seen)
 ap:Az (.slice j.nA j.needs.length j.nc) sv
theorem kO {w w':World} {B:Nat} {e:TypeId} {s:Nat} {v:Value} {n:Nat} {xs:List Value} (h:Own w B e s v n xs) {g:Nat} (a:w.grownBy w' (some g)) (b:g<B):Own w' B e s v n xs:=
 bT h a (by
  cases hv:v.ownBlock with
  |none=>exact bX rfl
  |some q=>exact bY (fun e=>by injection e with e;have:=(bU h q hv).1;omega))
section
variable {wB w w' : World} {g k : Nat} {A : Option Addr} {c : Nat} {T : List Tok} {a a' : Nat} {j j' : Jd} {sv : Value} {seen : List ByteArray}
theorem GJb.call (h:GJb wB w g k A c T a j sv seen) (b:GP w w' g A c T a'):GJb wB w' g k A c T a' j sv seen:=
 ⟨h.gp.trans b,h.gl,h.kB,(b.gr.block k (aQ h.row) (fun e=>by injection e with e;have:=h.gl;have:=h.kB;omega)).trans h.row,kO h.env b.gr h.gl,kO h.needs b.gr h.gl,kO h.lad b.gr h.gl,kO h.seen b.gr h.gl,h.ap⟩
theorem GJb.up (h:GJb wB w g k A c T a j sv seen) (b:Old w w'):GJb wB w' g k A c T a j sv seen:=
 ⟨h.gp.up b,h.gl,h.kB,b.block h.row,h.env.up b,h.needs.up b,h.lad.up b,h.seen.up b,h.ap⟩
theorem GJb.set (h:GJb wB w g k A c T a j sv seen) (i:Nat) (v:Value) (hv:(ae j).set i v=ae j') (f:j'.eA=j.eA∧j'.env=j.env∧j'.ec=j.ec) (hn:j'.nA=j.nA∧j'.needs=j.needs∧j'.nc=j.nc) (p:j'.lA=j.lA∧j'.lad=j.lad∧j'.lc=j.lc):
  GJb wB (w.setCell ⟨k,i,none⟩ v) g k A c T a j' sv seen:=by
 have b:=aO w k i _ _ v h.row
 have l:=aD w k i v
 have o:g≠k:=by have:=h.gl;have:=h.kB;omega
 have far:∀{e:TypeId} {s:Nat} {u:Value} {n:Nat} {xs:List Value},Own w wB.heap.size e s u n xs→e≠32→Own (w.setCell ⟨k,i,none⟩ v) wB.heap.size e s u n xs:=fun {e s u n xs} t hne=>by
  refine bT t l ?_;rcases t with⟨_,⟨rfl,_⟩|⟨q,cap,cur,rfl,_,r,_⟩⟩
  ·exact bX rfl
  ·right
   intro d;simp[Value.ownBlock] at d;subst d;rw[h.row] at r;have m:=bQ r;injection m with e1 d e3
   exact hne d.symm
 refine⟨⟨iw h.gp.gr h.kB i v,(aL w ⟨k,i,none⟩ g v o).trans h.gp.blk,?_,h.gp.few,h.gp.lt⟩,h.gl,h.kB,?_,?_,?_,?_,far h.seen (by decide),?_⟩
 ·exact h.gp.tk.setOtherG h.row (by decide) v
 ·rw[b,←hv];simp
 ·rw[f.1,f.2.1,f.2.2];exact far h.env (by decide)
 ·rw[hn.1,hn.2.1,hn.2.2];exact far h.needs (by decide)
 ·rw[p.1,p.2.1,p.2.2];exact far h.lad (by decide)
 ·rw[hn.1,hn.2.1,hn.2.2];exact h.ap
theorem GJb.cell (h:GJb wB w g k A c T a j sv seen) (i:Nat) {v:Value} (hv:(ae j)[i]? =some v):w.cell? ⟨k,i,none⟩=some v∧w.frozen? ⟨k,i,none⟩=false:=
 ⟨by rw[aK w k i _ _ _ h.row];simpa using hv,aN w k i _ _ h.row⟩
end
theorem yR (zs:List ByteArray) (x:ByteArray):Lib.containsS zs x=Gm.hasB zs x:=by
 rw[Bool.eq_iff_iff,Lib.containsS_iff,Gm.hasB,List.any_eq_true];constructor
 ·intro h;exact⟨x,h,by simp⟩
 ·rintro⟨y,hy,a⟩;rw[decide_eq_true_iff] at a;exact a▸hy
theorem we (A:Option Addr) (c:Nat) (zs:List ByteArray) (x:ByteArray) (w:World) (f:Rs w A (aT zs)) (g:zs.length≤1000000):
  Calls Tryz.prog 99 #[.slice A zs.length c,.string x] w fun e w'=>e= .returned (.bool (Gm.hasB zs x))∧w'=w:=by
 rcases Nat.eq_zero_or_pos zs.length with a|a
 ·obtain rfl:=List.eq_nil_of_length_eq_zero a;exact Tryz.slices_Contains_string_empty A c x w
 ·obtain⟨b,off,rfl,_,hc⟩:=f.at_ (by rw[gE];exact a)
  have:=Tryz.slices_Contains_string b off zs.length c zs x w (bM _) (by omega) (fun i d=>hc _ _ (jL zs i d))
  rw[List.take_length,yR] at this;exact this
theorem jk (l:List Nat):(ak l).toList=l.map UInt8.ofNat:=by rw[ByteArray.toList_eq];simp[ak]
theorem dL (l:List Nat):((ak l).toList==l.map UInt8.ofNat)=true:=by rw[jk];simp
theorem dK {l:List Nat} (h:∀x∈l,x<256) {m:List Nat} (hm:∀x∈m,x<256) (hne:l≠m):((ak l).toList==m.map UInt8.ofNat)=false:=by
 rw[beq_eq_false_iff_ne,←jk];intro e;rw[ByteArray.toList_eq,ByteArray.toList_eq] at e;exact hne (jM h hm (ByteArray.ext (Array.toList_inj.mp e)))
def rf (W:World) (v v':Value):Prop:=v'.ownBlock=v.ownBlock∨∃j,v'.ownBlock=some j∧W.heap.size≤j
section
variable {wB W w' : World} {g k : Nat} {A : Option Addr} {c : Nat} {T : List Tok} {a : Nat} {j : Jd} {sv : Value} {seen : List ByteArray}
theorem dq {B:Nat} {e t:TypeId} {s:Nat} {v:Value} {n:Nat} {xs:List Value} {b:Nat} {cs:Array Value} {fz:Nat×Nat} (g:Own W B e s v n xs) (f:W.heap[b]? =some (.cells cs t fz)) (hne:e≠t):some b≠v.ownBlock:=by
 rcases g with⟨_,⟨rfl,_⟩|⟨q,cap,cur,rfl,_,d,_⟩⟩
 ·simp[Value.ownBlock]
 ·intro c;simp[Value.ownBlock] at c;subst c;rw[f] at d;have a:=bQ d;injection a with e1 e3 e4
  exact hne e3.symm
theorem GJb.far (h:GJb wB W g k A c T a j sv seen) {v:Value} {n:Nat} {xs:List Value} {e:TypeId} {s:Nat} (hv:Own W wB.heap.size e s v n xs) (b:W.grownBy w' v.ownBlock) (l:e≠32) (p:121≠e):
  GP wB w' g A c T a∧w'.heap[k]? =some (.cells (ae j).toArray 32 (0,0)):=by
 have m:=h.gl
 have d:∀q,v.ownBlock=some q→wB.heap.size≤q:=fun q o=>(bU hv q o).1
 refine⟨⟨⟨b.os.trans h.gp.gr.os,b.tape.trans h.gp.gr.tape,b.output.trans h.gp.gr.output,bN h.gp.gr.size b.size,fun i f hne=>?_⟩,?_,h.gp.tk.grown hv p b,h.gp.few,h.gp.lt⟩,?_⟩
 ·exact(b.block i (Nat.lt_of_lt_of_le f h.gp.gr.size) (fun e=>by have:=d i e.symm;omega)).trans (h.gp.gr.block i f hne)
 ·exact(b.block g (aQ h.gp.blk) (fun e=>by have:=d g e.symm;omega)).trans h.gp.blk
 ·exact(b.block k (aQ h.row) (dq hv h.row l)).trans h.row
theorem fP {w:World} {B:Nat} {e t:TypeId} {s:Nat} {v:Value} {n:Nat} {xs:List Value} {cs:Array Value} {fz:Nat×Nat} (a:Own w B e s v n xs) (b:w.heap[k]? =some (.cells cs t fz)) (hne:e≠t) (i:Nat) (u:Value):Own (w.setCell ⟨k,i,none⟩ u) B e s v n xs:=
 bT a (aD w k i u) (by
  cases hv:v.ownBlock with
  |none=>exact bX rfl
  |some q=>right;rw[←hv];exact fun e=>dq a b hne e.symm)
theorem GP.setJ {w:World} (h:GP wB w g A c T a) (b:w.heap[k]? =some (.cells (ae j).toArray 32 (0,0))) (hk:wB.heap.size≤k) (hne:g≠k) (i:Nat) (u:Value):GP wB (w.setCell ⟨k,i,none⟩ u) g A c T a:=
 ⟨iw h.gr hk i u,(aL w ⟨k,i,none⟩ g u hne).trans h.blk,h.tk.setOtherG b (by decide) u,h.few,h.lt⟩
theorem GJb.gk (h:GJb wB W g k A c T a j sv seen):g≠k:=by have:=h.gl;have:=h.kB;omega
theorem GJb.putN (h:GJb wB W g k A c T a j sv seen) {v':Value} {x:ByteArray} (l:Own w' wB.heap.size 9 1 v' (j.needs.length+1) (aT j.needs++[.string x])) (d:W.grownBy w' (Value.slice j.nA j.needs.length j.nc).ownBlock) (hs:rf W (Value.slice j.nA j.needs.length j.nc) v'):
  ∃A' c',v'= .slice A' (j.needs.length+1) c'∧w'.cell? ⟨k,3,none⟩=some (.slice j.nA j.needs.length j.nc)∧w'.frozen? ⟨k,3,none⟩=false∧GJb wB (w'.setCell ⟨k,3,none⟩ (.slice A' (j.needs.length+1) c')) g k A c T a {j with nA:=A',needs:=j.needs++[x],nc:=c'} sv seen:=by
 obtain⟨A',c',rfl,_,_,_⟩:=l.shape;obtain⟨m,hk⟩:=h.far h.needs d (by decide) (by decide)
 have i:(j.needs++[x]).length=j.needs.length+1:=by simp
 refine⟨A',c',rfl,by rw[aK w' k 3 _ _ _ hk];rfl,aN w' k 3 _ _ hk,⟨m.setJ hk h.kB h.gk 3 _,h.gl,h.kB,?_,fP (Own.grown h.env h.needs (by decide) d) hk (by decide) 3 _,?_,fP (Own.grown h.lad h.needs (by decide) d) hk (by decide) 3 _,fP (bT h.seen d ?_) hk (by decide) 3 _,?_⟩⟩
 ·rw[aO w' k 3 _ _ _ hk];simp[ae]
 ·show Own _ _ _ _ (.slice A' (j.needs++[x]).length c') (j.needs++[x]).length (aT (j.needs++[x]))
  rw[i,show aT (j.needs++[x])=aT j.needs++[.string x] by simp[aT]]
  exact fP l hk (by decide) 3 _
 ·rcases h.ap with e|e|e
  ·cases hv:sv.ownBlock with
   |none=>exact bX rfl
   |some q=>right;rw[e];simp
  ·exact bX e
  ·exact bY (fun b=>e b.symm)
 ·show Az (.slice A' (j.needs++[x]).length c') sv
  rw[i];rcases hs with e|⟨q,e,o⟩
  ·rcases h.ap with b|b|b
   ·exact bX (e.trans b)
   ·exact bY (bX b)
   ·exact bY (bY (by rw[e];exact b))
  ·cases hv:sv.ownBlock with
   |none=>exact bY (bX hv)
   |some n=>
    refine bY (bY ?_);rw[e,hv];intro f;injection f with f
    have:=(bU h.seen n hv).2
    omega
end
def KP (w w':World):Prop:=∀(b:Nat) (cs:Array Value) (t:TypeId) (fz:Nat×Nat),w.heap[b]? =some (.cells cs t fz)→t≠119→t≠32→t≠67→t≠9→t≠70→w'.heap[b]? =some (.cells cs t fz)
theorem KP.trans {a b c:World} (h:KP a b) (k:KP b c):KP a c:=fun i cs t fz g h1 h2 d e f=>k i cs t fz (h i cs t fz g h1 h2 d e f) h1 h2 d e f
theorem KP.of_old {a b:World} (h:Old a b):KP a b:=fun i cs t fz c _ _ _ _ _=>h.block c
theorem KP.of_row {a b:World} {row:Option Nat} (k:a.grownBy b row) (l:∀q,row=some q→∃cs t fz,a.heap[q]? =some (.cells cs t fz)∧(t=119∨t=32∨t=67∨t=9∨t=70)):KP a b:=fun i cs t fz c h1 h2 g h j=>by
 refine(k.block i (aQ c) (fun e=>?_)).trans c
 obtain⟨_,_,_,f,m⟩:=l i e.symm;rw[c] at f;have d:=bQ f;injection d with e1 e2 e3
 subst e2;rcases m with e|e|e|e|e
 ·exact h1 e
 ·exact h2 e
 ·exact g e
 ·exact h e
 ·exact j e
theorem KP.of_gp {w w':World} {g:Nat} {A:Option Addr} {c:Nat} {T:List Tok} {a a':Nat} (h:GP w w g A c T a) (b:GP w w' g A c T a'):KP w w':=
 KP.of_row b.gr (fun q e=>by injection e with e;subst e;exact⟨_,_,_,h.blk,bX rfl⟩)
theorem KP.of_own {w w':World} {B:Nat} {e:TypeId} {s:Nat} {v:Value} {n:Nat} {xs:List Value} (h:Own w B e s v n xs) (c:w.grownBy w' v.ownBlock) (b:e=67∨e=9∨e=70):KP w w':=
 KP.of_row c (fun q a=>by
  rcases h with⟨_,⟨rfl,_⟩|⟨g,cap,cur,rfl,_,d,_⟩⟩
  ·cases a
  ·simp[Value.ownBlock] at a;subst a;exact⟨_,_,_,d,by rcases b with e|e|e<;>simp[e]⟩)
theorem KP.set {w:World} {k:Nat} {j:Jd} (a:w.heap[k]? =some (.cells (ae j).toArray 32 (0,0))) (i:Nat) (v:Value):KP w (w.setCell ⟨k,i,none⟩ v):=
 KP.of_row (aD w k i v) (fun q e=>by injection e with e;subst e;exact⟨_,_,_,a,bY (bX rfl)⟩)
def dB (w wB:World) (g k:Nat) (A:Option Addr) (c:Nat) (T:List Tok) (r:List Tok) (J:Jd) (sv:Value) (seen:List ByteArray) (e:Ending) (w':World):Prop:=
 ∃a' j',e= .returned (.tuple #[])∧r=T.drop a'∧jE j'=J∧GJb wB w' g k A c T a' j' sv seen∧KP w w'
theorem BF {wB w:World} {g k:Nat} {A:Option Addr} {c:Nat} {T:List Tok} {a:Nat} {j:Jd} {sv:Value} {seen:List ByteArray} (h:GJb wB w g k A c T a j sv seen)
  {t:Tok} {r:List Tok} (hm:Gm.name (decide (16≤j.needs.length)) (T.drop a)=some (t,r)) (hn:Gm.hasB j.needs (ak t.text)=false):
  Calls Tryz.prog 158 #[.pointer (some ⟨g,0,none⟩),.pointer (some ⟨k,0,none⟩)] w (dB w wB g k A c T r (jE {j with needs:=j.needs++[ak t.text]}) sv seen):=by
 obtain⟨Z,hl,P⟩:=fC hm;have V:=(dE Z).1;have Y:=(dW V).2.2;have N:j.needs.length<16:=by rw[decide_eq_false_iff_not] at P;omega
 rw[P] at hm;have K:=aJ (vX h.gp.self hm);have q1:decide ((16:Int)≤(j.needs.length:Int))=false:=by rw[decide_eq_false_iff_not];omega
 obtain⟨E,_⟩:=h.cell 3 (v:= .slice j.nA j.needs.length j.nc) rfl;have G:=aJ h;have HR:=aJ Y;have Q:Hid (j.needs.length≤16):=aJ (by omega)
 have u:=aJ hn
 clear h hm hn Z hl P V Y N;unfold ie at K;generalize ak t.text=x at *;go_enter Tryz.func158,Tryz.ntmps158;go_wp2_with fail;refine(K.out).mono ?_;rintro e w2 ⟨rfl,h2⟩;have s:=aJ (G.out.call h2);have H:=aJ (KP.of_gp G.out.gp.self h2);clear h2 K G E;obtain⟨d,f⟩:∃d,w2.alloc (.cells #[.int .i64 (t.kind:Int),.string x,.int .i64 (t.line:Int),.int .i64 (t.col:Int)] 121)=d:=⟨_,rfl⟩
 have l:Hid (GJb wB d g k A c T (a+1) j sv seen):=aJ (by rw[←f];exact s.out.up ((Old.refl _).alloc _))
 have I:Hid (KP w d):=aJ (by rw[←f];exact H.out.trans (KP.of_old ((Old.refl _).alloc _)))
 have i:Hid (d.heap[w2.heap.size]? =some (.cells #[.int .i64 (t.kind:Int),.string x,.int .i64 (t.line:Int),.int .i64 (t.col:Int)] 121 (0,0))):=aJ (by rw[←f];exact aM _ _)
 have z:=aJ f
 clear s f;go_upto_region 1 with fail
 rw[z.out];obtain⟨m,B⟩:∃m,w2.heap.size=m:=⟨_,rfl⟩
 rw[B] at i ⊢;clear B z;obtain⟨E,U⟩:=l.out.cell 3 (v:= .slice j.nA j.needs.length j.nc) rfl;have t1:d.cell? ⟨m,1,none⟩=some (.string x):=(aK d m 1 _ _ _ i.out).trans rfl;have p:=fun n=>we j.nA j.nc j.needs x (d.drewN n) (((l.out.up ((Old.refl d).drewN n)).needs.shape.elim fun A1 h1=>h1.elim fun c1 h2=>by injection h2.1 with L R M;subst L;exact h2.2.1.rs)) (by have:=Q.out;omega)
 rw[u.out] at p;have q:=aJ p;clear p;go_quiet ((go_at_call 99;exact Calls.quiet_of_same (q.out _)));have b:=aJ (l.out.up ((Old.refl d).drewN nq));have J:=aJ (I.out.trans (KP.of_old ((Old.refl d).drewN nq)));have o:Hid ((d.drewN nq).heap[m]? =_):=aJ i.out;generalize d.drewN nq=w4 at *;clear l i E U t1 q u;obtain⟨E,U⟩:=b.out.cell 3 (v:= .slice j.nA j.needs.length j.nc) rfl;have t1:w4.cell? ⟨m,1,none⟩=some (.string x):=(aK w4 m 1 _ _ _ o.out).trans rfl;have kl:k<w4.heap.size:=aQ b.out.row;have tl:m<w4.heap.size:=aQ o.out;have F:Hid (∀(W:World) (v':Value) (w':World),Old w4 W→Own w' wB.heap.size 9 1 v' (j.needs.length+1) (aT j.needs++[.string x])→W.grownBy w' (Value.slice j.nA j.needs.length j.nc).ownBlock→rf W (Value.slice j.nA j.needs.length j.nc) v'→
   ∃A' c',v'= .slice A' (j.needs.length+1) c'∧w'.cell? ⟨k,3,none⟩=some (.slice j.nA j.needs.length j.nc)∧w'.frozen? ⟨k,3,none⟩=false∧Hid (dB w wB g k A c T r (jE {j with needs:=j.needs++[x]}) sv seen (.returned (.tuple #[])) (w'.setCell ⟨k,3,none⟩ (.slice A' (j.needs.length+1) c')))):=aJ (fun W v' w' h1 h2 O h4=>by
  obtain⟨A',c',L,R,M,S⟩:=(b.out.up h1).putN h2 O h4;exact⟨A',c',L,R,M,aJ ⟨_,{j with nA:=A',needs:=j.needs++[x],nc:=c'},rfl,HR.out,rfl,S,(J.out.trans ((KP.of_old h1).trans (KP.of_own (b.out.up h1).needs O (by simp)))).trans (KP.set ((b.out.up h1).far (b.out.up h1).needs O (by decide) (by decide)).2 3 _)⟩⟩)
 have y:Hid (∀W,Old w4 W→Own W wB.heap.size 9 1 (.slice j.nA j.needs.length j.nc) j.needs.length (aT j.needs)∧wB.heap.size≤W.heap.size):=aJ (fun W C=>⟨(b.out.up C).needs,(b.out.up C).gp.gr.size⟩)
 clear b o;go_wp2_with fail;go_region_law ((refine eG _ (by rfl) _ _ 28 (by rfl) wB.heap.size 9 (.string ⟨#[]⟩) 1 16 Tryz.underlying28 mS rfl (by decide) (by decide) (.slice j.nA j.needs.length j.nc) j.needs.length (aT j.needs) (by rfl) (y.out _ aS).1 w4.heap.size 0 1 1 [.string x] (by rfl) (by first|exact fg _ _ _|exact(fg _ _ _).drew) rfl rfl (by have:=Q.out;omega) (y.out _ aS).2 ?_;intro v' w' C X D;obtain⟨A',c',rfl,M,S,HX⟩:=F.out _ _ _ aS C X D;clear C X D))
 all_goals (go_wp2_with fail;go_end0;exact HX.out)
theorem vZ (t:List Nat) (a:∀x∈t,x<256) (h:t=Gm.wRun∨t=Gm.wEnv∨t=Gm.wNeeds∨t=Gm.wReady∨t=Gm.wRestart∨t=Gm.wBackoff∨t=Gm.wBurst∨t=Gm.wStop) (w:World):
  Calls Tryz.prog 98 #[.string (ak t)] w fun e w'=>e= .returned (.bool true)∧w'=w:=by
 unfold Gm.wRun Gm.wEnv Gm.wNeeds Gm.wReady Gm.wRestart Gm.wBackoff Gm.wBurst Gm.wStop at h
 by_cases h1:t=[114,117,110]
 ·have b:((ak t).toList==[114,117,110])=true:=by rw[h1];exact dL [114,117,110]
  clear h h1;go_enter Tryz.func98,Tryz.ntmps98;go_wp2_with fail;go_ret;exact⟨rfl,rfl⟩
 have n1:((ak t).toList==[114,117,110])=false:=dK (m:=[114,117,110]) a (by decide) h1
 by_cases h2:t=[101,110,118]
 ·have b:((ak t).toList==[101,110,118])=true:=by rw[h2];exact dL [101,110,118]
  clear h h2;go_enter Tryz.func98,Tryz.ntmps98;go_wp2_with fail;go_ret;exact⟨rfl,rfl⟩
 have n2:((ak t).toList==[101,110,118])=false:=dK (m:=[101,110,118]) a (by decide) h2
 by_cases c:t=[110,101,101,100,115]
 ·have b:((ak t).toList==[110,101,101,100,115])=true:=by rw[c];exact dL [110,101,101,100,115]
  clear h c;go_enter Tryz.func98,Tryz.ntmps98;go_wp2_with fail;go_ret;exact⟨rfl,rfl⟩
 have n3:((ak t).toList==[110,101,101,100,115])=false:=dK (m:=[110,101,101,100,115]) a (by decide) c
 by_cases d:t=[114,101,97,100,121]
 ·have b:((ak t).toList==[114,101,97,100,121])=true:=by rw[d];exact dL [114,101,97,100,121]
  clear h d;go_enter Tryz.func98,Tryz.ntmps98;go_wp2_with fail;go_ret;exact⟨rfl,rfl⟩
 have n4:((ak t).toList==[114,101,97,100,121])=false:=dK (m:=[114,101,97,100,121]) a (by decide) d
 by_cases f:t=[114,101,115,116,97,114,116]
 ·have b:((ak t).toList==[114,101,115,116,97,114,116])=true:=by rw[f];exact dL [114,101,115,116,97,114,116]
  clear h f;go_enter Tryz.func98,Tryz.ntmps98;go_wp2_with fail;go_ret;exact⟨rfl,rfl⟩
 have k:((ak t).toList==[114,101,115,116,97,114,116])=false:=dK (m:=[114,101,115,116,97,114,116]) a (by decide) f
 by_cases g:t=[98,97,99,107,111,102,102]
 ·have b:((ak t).toList==[98,97,99,107,111,102,102])=true:=by rw[g];exact dL [98,97,99,107,111,102,102]
  clear h g;go_enter Tryz.func98,Tryz.ntmps98;go_wp2_with fail;go_ret;exact⟨rfl,rfl⟩
 have l:((ak t).toList==[98,97,99,107,111,102,102])=false:=dK (m:=[98,97,99,107,111,102,102]) a (by decide) g
 by_cases i:t=[98,117,114,115,116]
 ·have b:((ak t).toList==[98,117,114,115,116])=true:=by rw[i];exact dL [98,117,114,115,116]
  clear h i;go_enter Tryz.func98,Tryz.ntmps98;go_wp2_with fail;go_ret;exact⟨rfl,rfl⟩
 have n:((ak t).toList==[98,117,114,115,116])=false:=dK (m:=[98,117,114,115,116]) a (by decide) i
 by_cases j:t=[115,116,111,112]
 ·have b:((ak t).toList==[115,116,111,112])=true:=by rw[j];exact dL [115,116,111,112]
  clear h j;go_enter Tryz.func98,Tryz.ntmps98;go_wp2_with fail;go_ret;exact⟨rfl,rfl⟩
 have o:((ak t).toList==[115,116,111,112])=false:=dK (m:=[115,116,111,112]) a (by decide) j
 exfalso;rcases h with h|h|h|h|h|h|h|h
 ·exact h1 h
 ·exact h2 h
 ·exact c h
 ·exact d h
 ·exact f h
 ·exact g h
 ·exact i h
 ·exact j h
theorem t8 {wB w:World} {g k:Nat} {A:Option Addr} {c:Nat} {T:List Tok} {a:Nat} {j:Jd} {sv:Value} {seen:List ByteArray} (h:GJb wB w g k A c T a j sv seen)
  {s:ByteArray} {r:List Tok} (hm:Gm.text 3 512 (T.drop a)=some (s,r)):
  Calls Tryz.prog 100 #[.pointer (some ⟨g,0,none⟩),.string ⟨#[114,117,110]⟩,.pointer (some ⟨k,0,none⟩)] w (dB w wB g k A c T r (jE ({j with run:=s})) sv seen):=by
 have J:r=T.drop (a+1):=by
  obtain⟨_,H,_⟩:=ji hm;exact(dW (dE H).1).2.2
 have G:Hid (∀W,GP W W g A c T a→Calls Tryz.prog 154 #[.pointer (some ⟨g,0,none⟩),.int .i64 3,.int .i64 512] W (gX W g A c T (.string s) (a+1))):=aJ (fun W M=>vW M hm)
 have D:=aJ h
 clear h hm;obtain⟨m,d⟩:∃m,(w.alloc (.cells #[.pointer (some ⟨g,0,none⟩)] 117)).alloc (.cells #[.pointer (some ⟨k,0,none⟩)] 198)=m:=⟨_,rfl⟩
 have b:Hid (GJb wB m g k A c T a j sv seen):=aJ (by rw[←d];exact D.out.up (((Old.refl _).alloc _).alloc _))
 have x:Hid (KP w m):=aJ (by rw[←d];exact KP.of_old (((Old.refl _).alloc _).alloc _))
 have o:Hid (m.heap[w.heap.size]? =some (.cells #[.pointer (some ⟨g,0,none⟩)] 117 (0,0))):=aJ (by rw[←d];exact((Old.refl _).alloc _).block (aM _ _))
 have l:Hid (m.heap[w.heap.size+1]? =some (.cells #[.pointer (some ⟨k,0,none⟩)] 198 (0,0))):=aJ (by rw[←d];have:=aM (w.alloc (.cells #[.pointer (some ⟨g,0,none⟩)] 117)) (.cells #[.pointer (some ⟨k,0,none⟩)] 198);rwa [World.size_alloc] at this)
 have z:=aJ d
 clear d;go_enter Tryz.func100,Tryz.ntmps100;go_upto_region 3 with fail
 rw[z.out];have n:=aJ (aQ D.out.row);obtain⟨kp,C⟩:∃kp,w.heap.size=kp:=⟨_,rfl⟩
 rw[C] at o l n ⊢;clear C z;obtain⟨kj,B⟩:∃kj,kp+1=kj:=⟨_,rfl⟩
 rw[B] at l ⊢;have n1:kp≠k:=by have:=n.out;omega
 have n2:k≠kp:=Ne.symm n1
 have n3:kj≠k:=by have:=n.out;omega
 have n4:k≠kj:=Ne.symm n3
 clear B n D;have cp:m.cell? ⟨kp,0,none⟩=some (.pointer (some ⟨g,0,none⟩)):=(aK m kp 0 _ _ _ o.out).trans rfl;have I:m.cell? ⟨kj,0,none⟩=some (.pointer (some ⟨k,0,none⟩)):=(aK m kj 0 _ _ _ l.out).trans rfl;go_region_held3 (fun W'=>W'.cell? ⟨kp,0,none⟩=some (.pointer (some ⟨g,0,none⟩))∧W'.cell? ⟨kj,0,none⟩=some (.pointer (some ⟨k,0,none⟩))) (go_keep) ((go_simp;go_at_call 154;refine(G.out _ (b.out.gp.up aS).self).mono ?_;rintro e v1 ⟨rfl,h2⟩;have i:=aJ ((b.out.up aS).call h2);have t:=aJ ((x.out.trans (KP.of_old aS)).trans (KP.of_gp (b.out.gp.up aS).self h2));have p:=aJ (KP.of_gp (b.out.gp.up aS).self h2 _ _ _ _ o.out (by decide) (by decide) (by decide) (by decide) (by decide));have q:=aJ (KP.of_gp (b.out.gp.up aS).self h2 _ _ _ _ l.out (by decide) (by decide) (by decide) (by decide) (by decide));have cp:v1.cell? ⟨kp,0,none⟩=some (.pointer (some ⟨g,0,none⟩)):=(aK v1 kp 0 _ _ _ p.out).trans rfl;have I:v1.cell? ⟨kj,0,none⟩=some (.pointer (some ⟨k,0,none⟩)):=(aK v1 kj 0 _ _ _ q.out).trans rfl;have N:v1.cell? ⟨k,1,none⟩=some (.string j.run):=(i.out.cell 1 rfl).1;have O:v1.frozen? ⟨k,1,none⟩=false:=(i.out.cell 1 (v:= .string j.run) rfl).2;clear h2))
 obtain⟨w2,f⟩:∃L,v1.setCell ⟨k,1,none⟩ (.string s)=L:=⟨_,rfl⟩
 have u:Hid (GJb wB w2 g k A c T (a+1) ({j with run:=s}) sv seen):=aJ (by rw[←f];exact i.out.set 1 (.string s) rfl ⟨rfl,rfl,rfl⟩ ⟨rfl,rfl,rfl⟩ ⟨rfl,rfl,rfl⟩)
 have y:Hid (KP w w2):=aJ (by rw[←f];exact t.out.trans (KP.set i.out.row 1 _))
 have E:Hid (w2.heap[kp]? =some (.cells #[.pointer (some ⟨g,0,none⟩)] 117 (0,0))):=aJ (by rw[←f];exact(aL v1 ⟨k,1,none⟩ kp (.string s) n1).trans p.out)
 have F:Hid (w2.heap[kj]? =some (.cells #[.pointer (some ⟨k,0,none⟩)] 198 (0,0))):=aJ (by rw[←f];exact(aL v1 ⟨k,1,none⟩ kj (.string s) n3).trans q.out)
 rw[f];clear f i t p q b x o l cp I;have K:Hid (dB w wB g k A c T r (jE ({j with run:=s})) sv seen (.returned (.tuple #[])) w2):=aJ ⟨_,{j with run:=s},rfl,J,rfl,u.out,y.out⟩
 clear u y E F J;go_wp2_with fail;go_end0;exact K.out
theorem pH {wB w:World} {g k:Nat} {A:Option Addr} {c:Nat} {T:List Tok} {a:Nat} {j:Jd} {sv:Value} {seen:List ByteArray} (h:GJb wB w g k A c T a j sv seen)
  {s:ByteArray} {r:List Tok} (hm:Gm.text 4 128 (T.drop a)=some (s,r)):
  Calls Tryz.prog 100 #[.pointer (some ⟨g,0,none⟩),.string ⟨#[114,101,97,100,121]⟩,.pointer (some ⟨k,0,none⟩)] w (dB w wB g k A c T r (jE ({j with ready:=s,hasR:=true})) sv seen):=by
 have J:r=T.drop (a+1):=by
  obtain⟨_,I,_⟩:=ji hm;exact(dW (dE I).1).2.2
 have G:Hid (∀W,GP W W g A c T a→Calls Tryz.prog 154 #[.pointer (some ⟨g,0,none⟩),.int .i64 4,.int .i64 128] W (gX W g A c T (.string s) (a+1))):=aJ (fun W O=>vW O hm)
 have E:=aJ h
 clear h hm;obtain⟨m,d⟩:∃m,(w.alloc (.cells #[.pointer (some ⟨g,0,none⟩)] 117)).alloc (.cells #[.pointer (some ⟨k,0,none⟩)] 198)=m:=⟨_,rfl⟩
 have b:Hid (GJb wB m g k A c T a j sv seen):=aJ (by rw[←d];exact E.out.up (((Old.refl _).alloc _).alloc _))
 have x:Hid (KP w m):=aJ (by rw[←d];exact KP.of_old (((Old.refl _).alloc _).alloc _))
 have p:Hid (m.heap[w.heap.size]? =some (.cells #[.pointer (some ⟨g,0,none⟩)] 117 (0,0))):=aJ (by rw[←d];exact((Old.refl _).alloc _).block (aM _ _))
 have l:Hid (m.heap[w.heap.size+1]? =some (.cells #[.pointer (some ⟨k,0,none⟩)] 198 (0,0))):=aJ (by rw[←d];have:=aM (w.alloc (.cells #[.pointer (some ⟨g,0,none⟩)] 117)) (.cells #[.pointer (some ⟨k,0,none⟩)] 198);rwa [World.size_alloc] at this)
 have B:=aJ d
 clear d;go_enter Tryz.func100,Tryz.ntmps100;go_upto_region 9 with fail
 rw[B.out];have o:=aJ (aQ E.out.row);obtain⟨kp,D⟩:∃kp,w.heap.size=kp:=⟨_,rfl⟩
 rw[D] at p l o ⊢;clear D B;obtain⟨kj,C⟩:∃kj,kp+1=kj:=⟨_,rfl⟩
 rw[C] at l ⊢;have n1:kp≠k:=by have:=o.out;omega
 have n2:k≠kp:=Ne.symm n1
 have n3:kj≠k:=by have:=o.out;omega
 have n4:k≠kj:=Ne.symm n3
 clear C o E;have cp:m.cell? ⟨kp,0,none⟩=some (.pointer (some ⟨g,0,none⟩)):=(aK m kp 0 _ _ _ p.out).trans rfl;have H:m.cell? ⟨kj,0,none⟩=some (.pointer (some ⟨k,0,none⟩)):=(aK m kj 0 _ _ _ l.out).trans rfl;go_region_held3 (fun W'=>W'.cell? ⟨kp,0,none⟩=some (.pointer (some ⟨g,0,none⟩))∧W'.cell? ⟨kj,0,none⟩=some (.pointer (some ⟨k,0,none⟩))) (go_keep) ((go_simp;go_at_call 154;refine(G.out _ (b.out.gp.up aS).self).mono ?_;rintro e v1 ⟨rfl,h2⟩;have i:=aJ ((b.out.up aS).call h2);have u:=aJ ((x.out.trans (KP.of_old aS)).trans (KP.of_gp (b.out.gp.up aS).self h2));have q:=aJ (KP.of_gp (b.out.gp.up aS).self h2 _ _ _ _ p.out (by decide) (by decide) (by decide) (by decide) (by decide));have t:=aJ (KP.of_gp (b.out.gp.up aS).self h2 _ _ _ _ l.out (by decide) (by decide) (by decide) (by decide) (by decide));have cp:v1.cell? ⟨kp,0,none⟩=some (.pointer (some ⟨g,0,none⟩)):=(aK v1 kp 0 _ _ _ q.out).trans rfl;have H:v1.cell? ⟨kj,0,none⟩=some (.pointer (some ⟨k,0,none⟩)):=(aK v1 kj 0 _ _ _ t.out).trans rfl;have M:v1.cell? ⟨k,5,none⟩=some (.string j.ready):=(i.out.cell 5 rfl).1;have N:v1.frozen? ⟨k,5,none⟩=false:=(i.out.cell 5 (v:= .string j.ready) rfl).2;clear h2))
 obtain⟨w2,f⟩:∃L,v1.setCell ⟨k,5,none⟩ (.string s)=L:=⟨_,rfl⟩
 have n:Hid (GJb wB w2 g k A c T (a+1) ({j with ready:=s}) sv seen):=aJ (by rw[←f];exact i.out.set 5 (.string s) rfl ⟨rfl,rfl,rfl⟩ ⟨rfl,rfl,rfl⟩ ⟨rfl,rfl,rfl⟩)
 have y:Hid (KP w w2):=aJ (by rw[←f];exact u.out.trans (KP.set i.out.row 5 _))
 have F:Hid (w2.heap[kp]? =some (.cells #[.pointer (some ⟨g,0,none⟩)] 117 (0,0))):=aJ (by rw[←f];exact(aL v1 ⟨k,5,none⟩ kp (.string s) n1).trans q.out)
 have z:Hid (w2.heap[kj]? =some (.cells #[.pointer (some ⟨k,0,none⟩)] 198 (0,0))):=aJ (by rw[←f];exact(aL v1 ⟨k,5,none⟩ kj (.string s) n3).trans t.out)
 rw[f];clear f i u q t b x p l cp H;have H:w2.cell? ⟨kj,0,none⟩=some (.pointer (some ⟨k,0,none⟩)):=(aK w2 kj 0 _ _ _ z.out).trans rfl;obtain⟨M,N⟩:=n.out.cell 4 (v:= .bool j.hasR) rfl;have K:Hid (dB w wB g k A c T r (jE ({j with ready:=s,hasR:=true})) sv seen (.returned (.tuple #[])) (w2.setCell ⟨k,4,none⟩ (.bool true))):=aJ ⟨_,{j with ready:=s,hasR:=true},rfl,J,rfl,n.out.set 4 (.bool true) rfl ⟨rfl,rfl,rfl⟩ ⟨rfl,rfl,rfl⟩ ⟨rfl,rfl,rfl⟩,y.out.trans (KP.set n.out.row 4 _)⟩
 clear n y F z J;go_wp2_with fail;go_end0;exact K.out
def gpAt (w:World) (g:Nat):Nat:=match w.cell? ⟨g,1,none⟩ with|some v=>(intOf v).toNat|none=>0
theorem GP.gpAt {w0 w:World} {g:Nat} {A:Option Addr} {c:Nat} {T:List Tok} {a:Nat} (h:GP w0 w g A c T a):gpAt w g=a:=by
 unfold Proofs.YtfchjdnpbgpfpaaGreatDoor.gpAt;rw[h.cells.2.1];simp[intOf]
def more (step:Nat→Jd→List Tok→Option (Jd×List Tok)) (f:Nat) (J:Jd) (l:List Tok):Option (Jd×List Tok):=if Gm.isSign 44 l=true then step f J l.tail else some (J,l)
theorem tV {s:Nat} {T:List Tok} {a:Nat} (h:Gm.isSign s (T.drop a)=true):a<T.length:=by
 rcases Nat.lt_or_ge a T.length with h2|h2
 ·exact h2
 ·rw[List.drop_eq_nil_of_le h2] at h;cases h
def xr (step:Nat→Jd→List Tok→Option (Jd×List Tok)) (b:Nat) (wB:World) (g k kp kj:Nat) (A:Option Addr) (c:Nat) (T:List Tok) (sv:Value) (seen:List ByteArray):Prop:=
 ∀(W:World) (a:Nat) (j:Jd) (f:Nat) (J:Jd) (r:List Tok),GJb wB W g k A c T a j sv seen→W.heap[kp]? =some (.cells #[.pointer (some ⟨g,0,none⟩)] 117 (0,0))→W.heap[kj]? =some (.cells #[.pointer (some ⟨k,0,none⟩)] 198 (0,0))→step f (jE j) (T.drop a)=some (J,r)→
  ∃f1 J1 a1,a<a1∧more step f1 J1 (T.drop a1)=some (J,r)∧Calls Tryz.prog b #[.pointer (some ⟨kp,0,none⟩),.pointer (some ⟨kj,0,none⟩)] W (dB W wB g k A c T (T.drop a1) J1 sv seen)
def xt (step:Nat→Jd→List Tok→Option (Jd×List Tok)) (w wB:World) (g k:Nat) (A:Option Addr) (c:Nat) (T:List Tok) (sv:Value) (seen:List ByteArray) (J:Jd) (r:List Tok) (W:World):Prop:=
 ∃f a j,GJb wB W g k A c T a j sv seen∧KP w W∧more step f (jE j) (T.drop a)=some (J,r)∧a<T.length
theorem GJb.next {wB w:World} {g k:Nat} {A:Option Addr} {c:Nat} {T:List Tok} {a:Nat} {j:Jd} {sv:Value} {seen:List ByteArray} (h:GJb wB w g k A c T a j sv seen):GJb wB (w.setCell ⟨g,1,none⟩ (.int .i64 ((a:Int)+1))) g k A c T (a+1) j sv seen∧KP w (w.setCell ⟨g,1,none⟩ (.int .i64 ((a:Int)+1))):=by
 have b:=h.gp.self.put (a+1)
 rw[Int.natCast_add] at b;exact⟨h.call b,KP.of_gp h.gp.self b⟩
theorem zg {T r:List Tok} {a b:Nat} (h:r=T.drop a) (h2:r=T.drop b) (c:r≠[]):a=b:=by
 have d:T.length-a=T.length-b:=by rw[←List.length_drop,←List.length_drop,←h,←h2]
 have:0<r.length:=by cases r with|nil=>exact absurd rfl c|cons x y=>simp
 rw[h,List.length_drop] at this;omega
theorem zY {step:Nat→Jd→List Tok→Option (Jd×List Tok)} {w wB W:World} {g k:Nat} {A:Option Addr} {c:Nat} {T:List Tok} {sv:Value} {seen:List ByteArray} {f:Nat} {J1 J:Jd} {a1:Nat} {r:List Tok}
  (b:dB w wB g k A c T (T.drop a1) J1 sv seen (.returned (.tuple #[])) W) (hm:more step f J1 (T.drop a1)=some (J,r)) (i:r≠[]):∃j,GJb wB W g k A c T a1 j sv seen∧KP w W∧more step f (jE j) (T.drop a1)=some (J,r)∧a1<T.length:=by
 obtain⟨a',j',_,a,rfl,hj,hk⟩:=b;have d:a1<T.length:=by
  unfold more at hm;split at hm
  ·next h=>exact tV h
  ·injection hm with hm
   injection hm with _ e
   rcases Nat.lt_or_ge a1 T.length with h2|h2
   ·exact h2
   ·rw[List.drop_eq_nil_of_le h2] at e;exact absurd e.symm i
 have hne:T.drop a1≠[]:=fun e=>by
  have:=congrArg List.length e
  rw[List.length_drop] at this;simp at this;omega
 obtain rfl:=zg rfl a hne;exact⟨j',hj,hk,hm,d⟩
theorem BG {wB w:World} {g k kp kj:Nat} {A:Option Addr} {c:Nat} {T:List Tok} {a:Nat} {j:Jd} {sv:Value} {seen:List ByteArray} (h:GJb wB w g k A c T a j sv seen)
  (hs:xr Gm.needs 157 wB g k kp kj A c T sv seen) (P:w.heap[kp]? =some (.cells #[.pointer (some ⟨g,0,none⟩)] 117 (0,0))) (Q:w.heap[kj]? =some (.cells #[.pointer (some ⟨k,0,none⟩)] 198 (0,0)))
  {f:Nat} {J:Jd} {r:List Tok} (hm:Gm.needs f (jE j) (T.drop a)=some (J,r)) (R:r≠[]):
  Calls Tryz.prog 156 #[.pointer (some ⟨g,0,none⟩),.func (.func 157) #[] #[.pointer (some ⟨kp,0,none⟩),.pointer (some ⟨kj,0,none⟩)]] w (dB w wB g k A c T r J sv seen):=by
 obtain⟨f1,J1,a1,M,n,C⟩:=hs w a j f J r h P Q hm;have HS:=aJ hs;have HP:=aJ P;have HQ:=aJ Q;have S:=aJ C;have H:=aJ n;have HR:=aJ R;have U:Hid (∀W,dB w wB g k A c T (T.drop a1) J1 sv seen (.returned (.tuple #[])) W→xt Gm.needs w wB g k A c T sv seen J r W):=aJ (fun W O=>by
  obtain⟨j2,h1,h2,K,L⟩:=zY O n R;exact⟨f1,a1,j2,h1,h2,K,L⟩)
 clear h hs P Q hm C n R M H;go_enter Tryz.func156,Tryz.ntmps156;go_wp2_with fail;refine(S.out).mono ?_;rintro e _ o;obtain rfl:e= .returned (.tuple #[]):=by obtain⟨_,_,s,_⟩:=o;exact s
 have x:=aJ (U.out _ o)
 clear o U S;go_wp2_with fail;go_loopw [] (fun wr=>xt Gm.needs w wB g k A c T sv seen J r wr) (fun wr=>T.length-gpAt wr g)
 case atStart=>exact x.out
 case round=>
  obtain⟨f,a,j,hj,hk,hm,ha⟩:=hrel;have HM:=aJ hj.gp.gpAt;have q:=aJ (qM hj.gp ha 44 (by decide) ⟨#[44]⟩ rfl)
  clear x
  by_cases b:Gm.isSign 44 (T.drop a)=true
  ·rw[b] at q;rw[more,if_pos b,show(T.drop a).tail=T.drop (a+1) by rw[List.tail_drop]] at hm
   have V:=aJ hj
   have X:=aJ hk
   have Z:=aJ ha
   have I:=aJ hm
   clear hj hk hm ha b;go_wp2_with fail;refine(q.out).mono ?_;rintro e w2 ⟨rfl,t⟩;have d:=aJ (V.out.up t);have y:=aJ (X.out.trans (KP.of_old t));clear t V X q;obtain⟨_,c1,f1⟩:=d.out.gp.cells;have i1:(a:Int)<100000:=by have:=d.out.gp.few;have:=Z.out;omega
   have i0:(0:Int)≤(a:Int):=by omega
   go_upto_region 3 with fail
   obtain⟨G,F⟩:∃G,w2.setCell ⟨g,1,none⟩ (.int .i64 ((a:Int)+1))=G:=⟨_,rfl⟩
   obtain⟨l,m⟩:=d.out.next;rw[F] at l m ⊢;have i:=aJ (y.out.trans m);obtain⟨f2,J2,a2,N,E,D⟩:=HS.out G (a+1) j _ J r l (i.out _ _ _ _ HP.out (by decide) (by decide) (by decide) (by decide) (by decide)) (i.out _ _ _ _ HQ.out (by decide) (by decide) (by decide) (by decide) (by decide)) I.out
   have u:=aJ D
   have z:Hid (∀W,dB G wB g k A c T (T.drop a2) J2 sv seen (.returned (.tuple #[])) W→xt Gm.needs w wB g k A c T sv seen J r W∧T.length-gpAt W g<T.length-gpAt wr g):=aJ (fun W O=>by
    obtain⟨j3,h1,h2,K,L⟩:=zY O E HR.out;refine⟨⟨f2,a2,j3,h1,i.out.trans h2,K,L⟩,?_⟩;rw[h1.gp.gpAt,HM.out]
    omega)
   clear l m F E D d y c1 f1 i1 i0 N;go_wp2_with fail;refine(u.out).mono ?_;rintro e w4 p;obtain rfl:e= .returned (.tuple #[]):=by obtain⟨_,_,s,_⟩:=p;exact s
   have B:=aJ (z.out _ p)
   clear p z u;go_wp2_with fail;go_roundw
   case rel=>exact B.out.1
   case measure=>exact B.out.2
  ·rw[more,if_neg b] at hm;rw[Bool.not_eq_true] at b;rw[b] at q;injection hm with hm
   injection hm with s e2
   have z:Hid (∀W,Old wr W→dB w wB g k A c T r J sv seen (.returned (.tuple #[])) W):=aJ (fun W Y=>⟨a,j,rfl,e2.symm,s,hj.up Y,hk.trans (KP.of_old Y)⟩)
   clear hj hk ha b s e2;go_wp2_with fail;refine(q.out).mono ?_;rintro e w2 ⟨rfl,t⟩;have HY:=aJ (z.out _ t);clear t z q;go_wp2_with fail;go_end0;exact HY.out
theorem BK {w wB:World} {g k kp kj:Nat} {A:Option Addr} {c:Nat} {T r:List Tok} {J:Jd} {sv:Value} {seen:List ByteArray} (d:w.heap[kp]? =some (.cells #[.pointer (some ⟨g,0,none⟩)] 117 (0,0))) (f:w.heap[kj]? =some (.cells #[.pointer (some ⟨k,0,none⟩)] 198 (0,0)))
  (hc:Calls Tryz.prog 158 #[.pointer (some ⟨g,0,none⟩),.pointer (some ⟨k,0,none⟩)] w (dB w wB g k A c T r J sv seen)):
  Calls Tryz.prog 157 #[.pointer (some ⟨kp,0,none⟩),.pointer (some ⟨kj,0,none⟩)] w (dB w wB g k A c T r J sv seen):=by
 have cp:w.cell? ⟨kp,0,none⟩=some (.pointer (some ⟨g,0,none⟩)):=(aK w kp 0 _ _ _ d).trans rfl
 have j:w.cell? ⟨kj,0,none⟩=some (.pointer (some ⟨k,0,none⟩)):=(aK w kj 0 _ _ _ f).trans rfl
 have b:=aJ hc
 clear d f hc;go_enter Tryz.func157,Tryz.ntmps157;go_wp2_with fail;refine(b.out).mono ?_;rintro e _ a;obtain rfl:e= .returned (.tuple #[]):=by obtain⟨_,_,i,_⟩:=a;exact i
 have h:=aJ a
 clear a b;go_wp2_with fail;go_end0;exact h.out
theorem qE {T:List Tok} {a f:Nat} {j J:Jd} {r:List Tok} (h:Gm.needs f (jE j) (T.drop a)=some (J,r)):
  ∃f1 t,Gm.name (decide (16≤j.needs.length)) (T.drop a)=some (t,T.drop (a+1))∧Gm.hasB j.needs (ak t.text)=false∧more Gm.needs f1 (jE {j with needs:=j.needs++[ak t.text]}) (T.drop (a+1))=some (J,r):=by
 cases f with
 |zero=>cases h
 |succ f=>
  unfold Gm.needs at h;rw[show(jE j).needs=j.needs from rfl] at h
  cases hn:Gm.name (decide (16≤j.needs.length)) (T.drop a) with
  |none=>rw[hn] at h;cases h
  |some p=>
   obtain⟨t,_⟩:=p;obtain rfl:=(dW (dE (fC hn).1).1).2.2;rw[hn] at h;simp only at h;cases b:Gm.hasB j.needs (ak t.text) with
   |true=>rw[b,if_pos rfl] at h;cases h
   |false=>
    rw[b,if_neg (by decide)] at h
    exact⟨f,t,rfl,b,h⟩
theorem liN (wB:World) (g k kp kj:Nat) (A:Option Addr) (c:Nat) (T:List Tok) (sv:Value) (seen:List ByteArray):xr Gm.needs 157 wB g k kp kj A c T sv seen:=fun W a j f J r h d e hm=>by
 obtain⟨f1,t,h1,h2,b⟩:=qE hm;exact⟨f1,_,a+1,by omega,b,BK d e (BF h h1 h2)⟩
theorem pI {wB w:World} {g k:Nat} {A:Option Addr} {c:Nat} {T:List Tok} {a:Nat} {j:Jd} {sv:Value} {seen:List ByteArray} (h:GJb wB w g k A c T a j sv seen)
  {f:Nat} {r:List Tok} {J:Jd} (hm:Gm.needs f (jE j) (T.drop a)=some (J,r)) (B:r≠[]):
  Calls Tryz.prog 100 #[.pointer (some ⟨g,0,none⟩),.string ⟨#[110,101,101,100,115]⟩,.pointer (some ⟨k,0,none⟩)] w (dB w wB g k A c T r J sv seen):=by
 have z:=aJ (fun W kp kj (G:GJb wB W g k A c T a j sv seen) H I=>BG G (liN wB g k kp kj A c T sv seen) H I hm B)
 have u:=aJ h
 clear h hm B;obtain⟨i,b⟩:∃i,(w.alloc (.cells #[.pointer (some ⟨g,0,none⟩)] 117)).alloc (.cells #[.pointer (some ⟨k,0,none⟩)] 198)=i:=⟨_,rfl⟩
 have o:Hid (GJb wB i g k A c T a j sv seen):=aJ (by rw[←b];exact u.out.up (((Old.refl _).alloc _).alloc _))
 have p:Hid (KP w i):=aJ (by rw[←b];exact KP.of_old (((Old.refl _).alloc _).alloc _))
 have m:Hid (i.heap[w.heap.size]? =some (.cells #[.pointer (some ⟨g,0,none⟩)] 117 (0,0))):=aJ (by rw[←b];exact((Old.refl _).alloc _).block (aM _ _))
 have d:Hid (i.heap[w.heap.size+1]? =some (.cells #[.pointer (some ⟨k,0,none⟩)] 198 (0,0))):=aJ (by rw[←b];have:=aM (w.alloc (.cells #[.pointer (some ⟨g,0,none⟩)] 117)) (.cells #[.pointer (some ⟨k,0,none⟩)] 198);rwa [World.size_alloc] at this)
 have q:=aJ b
 clear b;go_enter Tryz.func100,Tryz.ntmps100;go_upto_region 7 with fail
 rw[q.out];have l:=aJ (aQ u.out.row);obtain⟨kp,t⟩:∃kp,w.heap.size=kp:=⟨_,rfl⟩
 rw[t] at m d l ⊢;clear t q;obtain⟨kj,s⟩:∃kj,kp+1=kj:=⟨_,rfl⟩
 rw[s] at d ⊢;have n1:kp≠k:=by have:=l.out;omega
 have n2:k≠kp:=Ne.symm n1
 have n3:kj≠k:=by have:=l.out;omega
 have n4:k≠kj:=Ne.symm n3
 clear s l u;have cp:i.cell? ⟨kp,0,none⟩=some (.pointer (some ⟨g,0,none⟩)):=(aK i kp 0 _ _ _ m.out).trans rfl;have K:i.cell? ⟨kj,0,none⟩=some (.pointer (some ⟨k,0,none⟩)):=(aK i kj 0 _ _ _ d.out).trans rfl;have y:=aJ (z.out _ _ _ o.out m.out d.out);clear z o;go_wp2_with fail;refine(y.out).mono ?_;rintro e w2 n;have C:Hid (dB w wB g k A c T r J sv seen (.returned (.tuple #[])) w2):=aJ (by obtain⟨a',j',_,x,D,E,F⟩:=n;exact⟨a',j',rfl,x,D,E,p.out.trans F⟩)
 obtain rfl:e= .returned (.tuple #[]):=by obtain⟨_,_,x,_⟩:=n;exact x
 clear n y p m d;go_wp2_with fail;go_end0;exact C.out
theorem tU {w:List Nat} {j:Jd} {l:List Tok} (h:(Gm.item w j l).isSome=true):w=Gm.wRun∨w=Gm.wEnv∨w=Gm.wNeeds∨w=Gm.wReady∨w=Gm.wRestart∨w=Gm.wBackoff∨w=Gm.wBurst∨w=Gm.wStop:=by
 unfold Gm.item at h
 repeat' (split at h;· (rename_i e;simp[e]))
 cases h
theorem BI {wB w:World} {g k:Nat} {A:Option Addr} {c:Nat} {T:List Tok} {a:Nat} {j:Jd} {sv:Value} {seen:List ByteArray} (h:GJb wB w g k A c T a j sv seen)
  {t:List Nat} {r:List Tok} {J:Jd} (hm:Gm.item t (jE j) (T.drop a)=some (J,r)) (b:r≠[]):
  Calls Tryz.prog 100 #[.pointer (some ⟨g,0,none⟩),.string (ak t),.pointer (some ⟨k,0,none⟩)] w (dB w wB g k A c T r J sv seen):=by
 unfold Gm.item at hm;split at hm
 ·next e=>
  subst e;cases hx:Gm.text 3 512 (T.drop a) with
  |none=>rw[hx] at hm;cases hm
  |some p=>rw[hx] at hm;obtain⟨s,_⟩:=p;injection hm with hm;injection hm with e1 e2;subst e1;subst e2;exact t8 h hx
 split at hm
 ·next e=>subst e;exact pI h hm b
 split at hm
 ·next e=>
  subst e;cases hx:Gm.text 4 128 (T.drop a) with
  |none=>rw[hx] at hm;cases hm
  |some p=>rw[hx] at hm;obtain⟨s,_⟩:=p;injection hm with hm;injection hm with e1 e2;subst e1;subst e2;exact pH h hx
 ·cases hm
theorem jj {k:Nat} {l r:List Tok} {t:Tok} (h:Gm.take k l=some (t,r)):r.length+1=l.length:=by
 rw[(dE h).1];rfl
theorem oF {k m:Nat} {l r:List Tok} {s:ByteArray} (h:Gm.text k m l=some (s,r)):r.length+1=l.length:=by
 obtain⟨t,a,_⟩:=ji h;exact jj a
theorem pp {f:Bool} {l r:List Tok} {t:Tok} (h:Gm.name f l=some (t,r)):r.length+1=l.length:=jj (fC h).1
theorem uQ {s:Nat} {l r:List Tok} (h:Gm.sign s l=some r):r.length+1=l.length:=by
 obtain⟨t,rfl,hs⟩:=li h;rfl
theorem needs_len:∀(f:Nat) {j J:Jd} {l r:List Tok},Gm.needs f j l=some (J,r)→r.length≤l.length:=by
 intro f
 induction f with
 |zero=>intro j J l r h;cases h
 |succ f ih=>
  intro j J l r h;unfold Gm.needs at h;cases hn:Gm.name (decide (16≤j.needs.length)) l with
  |none=>rw[hn] at h;cases h
  |some p=>
   obtain⟨t,_⟩:=p;have:=pp hn;rw[hn] at h;simp only at h;split at h
   ·cases h
   ·split at h
    ·have h2:=ih h;rw[List.length_tail] at h2;omega
    ·injection h with h;injection h with _ h;subst h;omega
theorem py {t:List Nat} {j J:Jd} {l r:List Tok} (h:Gm.item t j l=some (J,r)):r.length≤l.length:=by
 unfold Gm.item at h;split at h
 ·cases hx:Gm.text 3 512 l with
  |none=>rw[hx] at h;cases h
  |some p=>have:=oF hx;rw[hx] at h;injection h with h;injection h with _ h;subst h;omega
 split at h
 ·exact needs_len _ h
 split at h
 ·cases hx:Gm.text 4 128 l with
  |none=>rw[hx] at h;cases h
  |some p=>have:=oF hx;rw[hx] at h;injection h with h;injection h with _ h;subst h;omega
 ·cases h
theorem lM {f:Nat} {seen:List (List Nat)} {j J:Jd} {l r:List Tok} (h:Gm.items f seen j l=some (J,r)):l≠[]:=by
 rintro rfl;cases f with
 |zero=>cases h
 |succ f=>unfold Gm.items at h;simp[Gm.isSign,Gm.take] at h
theorem qJ {f:Nat} {seen:List (List Nat)} {j J:Jd} {l r:List Tok} (h:Gm.items f seen j l=some (J,r)) (hs:Gm.isSign 125 l=false):
  ∃f1 t a J1 b,Gm.take 1 l=some (t,a)∧(t.text=Gm.wEnv∨t.text∉seen)∧Gm.item t.text j a=some (J1,b)∧Gm.items f1 (if t.text=Gm.wEnv then seen else seen++[t.text]) J1 b=some (J,r):=by
 cases f with
 |zero=>cases h
 |succ f=>
  unfold Gm.items at h;rw[hs,if_neg (by decide)] at h
  cases hx:Gm.take 1 l with
  |none=>rw[hx] at h;cases h
  |some p=>
   obtain⟨t,a⟩:=p;rw[hx] at h;simp only at h;split at h
   ·cases h
   ·next hn=>
    cases hy:Gm.item t.text j a with
    |none=>rw[hy] at h;cases h
    |some q=>
     obtain⟨J1,b⟩:=q;rw[hy] at h;refine⟨f,t,a,J1,b,rfl,?_,hy,h⟩
     by_cases c:t.text=Gm.wEnv
     ·exact bX c
     ·exact bY (fun hm=>hn ⟨c,hm⟩)
theorem mP {f:Nat} {seen:List (List Nat)} {j J:Jd} {l r:List Tok} (h:Gm.items f seen j l=some (J,r)) (hs:Gm.isSign 125 l=true):Gm.wRun∈seen∧J=j∧r=l.tail:=by
 cases f with
 |zero=>cases h
 |succ f=>
  unfold Gm.items at h;rw[if_pos hs] at h;split at h
  ·next hw=>injection h with h;injection h with h1 h2;exact⟨hw,h1.symm,h2.symm⟩
  ·cases h
theorem nO {full:Bool} {l r:List Tok} {J:Jd} (h:Gm.job full l=some (J,r)):
  ∃e b a c d,Gm.take 1 l=some (e,b)∧e.text=[106,111,98]∧Gm.name full b=some (a,c)∧Gm.sign 123 c=some d∧Gm.items (d.length+1) [] (Gm.jobOf (ak a.text) a.line a.col) d=some (J,r):=by
 unfold Gm.job at h;cases hx:Gm.take 1 l with
 |none=>rw[hx] at h;cases h
 |some p=>
  obtain⟨e,b⟩:=p;rw[hx] at h;simp only at h;split at h
  ·cases h
  ·next hn=>
   rw[Decidable.not_not] at hn;cases hy:Gm.name full b with
   |none=>rw[hy] at h;cases h
   |some q=>
    obtain⟨a,c⟩:=q;rw[hy] at h;simp only at h;cases hz:Gm.sign 123 c with
    |none=>rw[hz] at h;cases h
    |some d=>rw[hz] at h;exact⟨e,b,a,c,d,rfl,hn,hy,hz,h⟩
def xx (w:World) (g:Nat) (A:Option Addr) (c:Nat) (T:List Tok) (r:List Tok) (J:Jd) (e:Ending) (w':World):Prop:=
 ∃a' j,e= .returned (.agg (ae j).toArray)∧r=T.drop a'∧jE j=J∧GP w w' g A c T a'∧
  Own w' w.heap.size 67 2 (.slice j.eA j.env.length j.ec) j.env.length (ib j.env)∧Own w' w.heap.size 9 1 (.slice j.nA j.needs.length j.nc) j.needs.length (aT j.needs)∧Own w' w.heap.size 70 2 (.slice j.lA j.lad.length j.lc) j.lad.length (dC j.lad)
section
variable {wB W w' : World} {g k : Nat} {A : Option Addr} {c : Nat} {T : List Tok} {a : Nat} {j : Jd} {sv : Value} {seen : List ByteArray}
theorem GJb.putS (h:GJb wB W g k A c T a j sv seen) {v':Value} {x:ByteArray} (i:Own w' wB.heap.size 9 1 v' (seen.length+1) (aT seen++[.string x])) (d:W.grownBy w' sv.ownBlock) (hs:rf W sv v'):
  GJb wB w' g k A c T a j v' (seen++[x])∧KP W w':=by
 obtain⟨l,hk⟩:=h.far h.seen d (by decide) (by decide)
 refine⟨⟨l,h.gl,h.kB,hk,Own.grown h.env h.seen (by decide) d,bT h.needs d ?_,Own.grown h.lad h.seen (by decide) d,?_,?_⟩,KP.of_own h.seen d (by simp)⟩
 ·rcases h.ap with e|e|e
  ·exact bX e
  ·cases hv:(Value.slice j.nA j.needs.length j.nc).ownBlock with
   |none=>exact bX rfl
   |some q=>right;rw[e];simp
  ·exact bY e
 ·rw[show aT (seen++[x])=aT seen++[.string x] by simp[aT],show(seen++[x]).length=seen.length+1 by simp]
  exact i
 ·rcases hs with e|⟨q,e,n⟩
  ·rcases h.ap with b|b|b
   ·exact bX b
   ·exact bY (bX (e.trans b))
   ·exact bY (bY (by rw[e];exact b))
  ·cases hv:(Value.slice j.nA j.needs.length j.nc).ownBlock with
   |none=>exact bX hv
   |some m=>
    refine bY (bY ?_);rw[e,hv];intro f;injection f with f
    have:=(bU h.needs m hv).2
    omega
end
theorem pF {seen:List (List Nat)} (hs:∀s∈seen,∀x∈s,x<256) {t:List Nat} (c:∀x∈t,x<256):Gm.hasB (seen.map ak) (ak t)=decide (t∈seen):=by
 rw[Bool.eq_iff_iff,Gm.hasB,List.any_eq_true,decide_eq_true_iff];constructor
 ·rintro⟨y,hy,b⟩;rw[decide_eq_true_iff] at b;rw[List.mem_map] at hy;obtain⟨s,a,rfl⟩:=hy;rw[←jM (hs s a) c b];exact a
 ·intro h;exact⟨ak t,List.mem_map.mpr ⟨t,h,rfl⟩,by simp⟩
def xw (wB:World) (g k:Nat) (A:Option Addr) (c:Nat) (T:List Tok) (J:Jd) (r:List Tok) (sv:Value) (W:World):Prop:=
 ∃f a j seen,GJb wB W g k A c T a j sv (seen.map ak)∧Gm.items f seen (jE j) (T.drop a)=some (J,r)∧(∀s∈seen,∀x∈s,x<256)∧seen.length≤a
theorem vY {w b:World} {g:Nat} {A:Option Addr} {c:Nat} {T:List Tok} {a:Nat} (h:GP w b g A c T a) (x:ByteArray) (l m:Int):
  GJb b ((b.alloc (.cells #[.int .i64 15,.int .u64 5000] 70)).alloc (.cells (ae {Gm.jobOf x l m with lA:=some ⟨b.heap.size,0,none⟩,lc:=1}).toArray 32)) g (b.heap.size+1) A c T a {Gm.jobOf x l m with lA:=some ⟨b.heap.size,0,none⟩,lc:=1} (.slice none 0 0) []:=by
 refine⟨h.self.up (((Old.refl _).alloc _).alloc _),aQ h.blk,by omega,?_,Own.nil_ _ _ _ _,Own.nil_ _ _ _ _,?_,Own.nil_ _ _ _ _,bX rfl⟩
 ·have:=aM (b.alloc (.cells #[.int .i64 15,.int .u64 5000] 70)) (.cells (ae {Gm.jobOf x l m with lA:=some ⟨b.heap.size,0,none⟩,lc:=1}).toArray 32)
  rwa [World.size_alloc] at this
 ·exact(World.ownsRow_lit (base:=b.heap.size) (e:=70) (size:=2) b #[.int .i64 15,.int .u64 5000] 1 (bM _) (by decide) rfl).alloc _
def putN (w:World) (k:Nat):Nat→List Value→World
 |_,[]=>w
 |i,v::l=>putN (w.setCell ⟨k,i,none⟩ v) k (i+1) l
theorem fO (k:Nat):∀(l:List Value) (w:World) (i:Nat),w.grownBy (putN w k i l) (some k):=by
 intro l
 induction l with
 |nil=>intro w i;exact World.grownBy.refl _ _
 |cons v l ih=>intro w i;exact(aD w k i v).trans (ih _ _)
theorem vd {a:World} {row:Option Nat} {k:Nat} (hk:a.heap.size≤k):∀(l:List Value) (w:World) (i:Nat),a.grownBy w row→a.grownBy (putN w k i l) row:=by
 intro l
 induction l with
 |nil=>intro w i h;exact h
 |cons v l ih=>intro w i h;exact ih _ _ (iw h hk i v)
theorem fy {k b:Nat} (h:b≠k):∀(l:List Value) (w:World) (i:Nat),(putN w k i l).heap[b]? =w.heap[b]?:=by
 intro l
 induction l with
 |nil=>intro w i;rfl
 |cons v l ih=>intro w i;exact(ih _ _).trans (aL w ⟨k,i,none⟩ b v h)
theorem et {w:World} {B:Nat} {e:TypeId} {s:Nat} {v:Value} {n:Nat} {xs:List Value} {k:Nat} {cs:Array Value} {t:TypeId} {fz:Nat×Nat} (a:Own w B e s v n xs) (b:w.heap[k]? =some (.cells cs t fz)) (hne:e≠t) (l:List Value) (i:Nat):Own (putN w k i l) B e s v n xs:=
 bT a (fO k l w i) (by
  cases hv:v.ownBlock with
  |none=>exact bX rfl
  |some q=>right;rw[←hv];exact fun e=>dq a b hne e.symm)
theorem CE {w:World} {g:Nat} {A:Option Addr} {c:Nat} {T:List Tok} {a:Nat} (h:GP w w g A c T a) {full:Bool} {J:Jd} {r:List Tok} (hm:Gm.job full (T.drop a)=some (J,r)):
  Calls Tryz.prog 48 #[.pointer (some ⟨g,0,none⟩),.bool full] w (xx w g A c T r J):=by
 obtain⟨t1,_,E,r2,_,h1,h2,h3,h4,h5⟩:=nO hm;obtain rfl:=(dW (dE h1).1).2.2;obtain rfl:=(dW (dE (fC h3).1).1).2.2;obtain⟨_,aS,bi⟩:=li h4;obtain rfl:=(dW aS).2.2;have bq:=LtT.at_ h.lt (dE (fC h3).1).1;have hz:=fun o=>h.up ((Old.refl w).alloc o)
 have N:Hid (∀W,GP W W g A c T a→Calls Tryz.prog 93 #[.pointer (some ⟨g,0,none⟩),.int .i64 1] W (gX W g A c T (ie t1) (a+1))):=aJ (fun W I=>nQ I h1)
 have HN:=aJ (fun W (I:GP W W g A c T (a+1))=>vX I h3)
 have aH:=aJ (fun W (I:GP W W g A c T (a+1+1))=>BA I 123 (by decide) h4 ⟨#[123]⟩ rfl)
 have HM:=aJ h5
 unfold ie at N HN;rw[h2] at N;have HG:=aJ h;clear h hm h1 h2 h3 h4 h5 aS bi hz;have HE:Hid (ak [106,111,98]=⟨#[106,111,98]⟩):=aJ rfl;rw[HE.out] at N;generalize hx:ak E.text=x at *;clear HE;obtain⟨w1,ad⟩:∃w1,w.alloc (.cells #[.string ⟨#[]⟩,.string ⟨#[]⟩,.slice none 0 0,.slice none 0 0,.bool false,.string ⟨#[]⟩,.int .i64 0,.int .u64 0,.int .u64 0,.int .u64 0,.int .i64 0,.int .u64 0,.slice none 0 0,.int .i64 0,.int .i64 0] 32)=w1:=⟨_,rfl⟩
 have ah:Hid (GP w w1 g A c T a):=aJ (by rw[←ad];exact HG.out.up ((Old.refl _).alloc _))
 have Z:Hid (w1.heap[w.heap.size]? =some (.cells #[.string ⟨#[]⟩,.string ⟨#[]⟩,.slice none 0 0,.slice none 0 0,.bool false,.string ⟨#[]⟩,.int .i64 0,.int .u64 0,.int .u64 0,.int .u64 0,.int .i64 0,.int .u64 0,.slice none 0 0,.int .i64 0,.int .i64 0] 32 (0,0))):=aJ (by rw[←ad];exact aM _ _)
 have aI:=aJ ad
 clear ad;go_enter Tryz.func48,Tryz.ntmps48;go_upto_region 1 with fail
 rw[aI.out];have M:=aJ (aQ HG.out.blk);obtain⟨d,R⟩:∃d,w.heap.size=d:=⟨_,rfl⟩
 have a9:=aJ R
 rw[R] at Z M ⊢;clear R aI;go_wp2_with fail;refine(N.out _ ah.out.self).mono ?_;rintro e w2 ⟨rfl,h2⟩;have ax:=aJ (ah.out.trans h2);have au:Hid (w2.heap[d]? =some (.cells #[.string ⟨#[]⟩,.string ⟨#[]⟩,.slice none 0 0,.slice none 0 0,.bool false,.string ⟨#[]⟩,.int .i64 0,.int .u64 0,.int .u64 0,.int .u64 0,.int .i64 0,.int .u64 0,.slice none 0 0,.int .i64 0,.int .i64 0] 32 (0,0))):=aJ ((h2.gr.block d (aQ Z.out) (fun e=>by injection e with e;have:=M.out;omega)).trans Z.out)
 clear h2 N ah Z;obtain⟨F,n⟩:∃F,w2.alloc (.cells #[.int .i64 (t1.kind:Int),.string ⟨#[106,111,98]⟩,.int .i64 (t1.line:Int),.int .i64 (t1.col:Int)] 121)=F:=⟨_,rfl⟩
 have ai:Hid (GP w F g A c T (a+1)):=aJ (by rw[←n];exact ax.out.up ((Old.refl _).alloc _))
 have p:Hid (F.heap[d]? =some (.cells #[.string ⟨#[]⟩,.string ⟨#[]⟩,.slice none 0 0,.slice none 0 0,.bool false,.string ⟨#[]⟩,.int .i64 0,.int .u64 0,.int .u64 0,.int .u64 0,.int .i64 0,.int .u64 0,.slice none 0 0,.int .i64 0,.int .i64 0] 32 (0,0))):=aJ (by rw[←n];exact((Old.refl _).alloc _).block au.out)
 have al:Hid (F.heap[w2.heap.size]? =some (.cells #[.int .i64 (t1.kind:Int),.string ⟨#[106,111,98]⟩,.int .i64 (t1.line:Int),.int .i64 (t1.col:Int)] 121 (0,0))):=aJ (by rw[←n];exact aM _ _)
 have O:=aJ n
 clear ax au n;go_upto_region 2 with fail
 rw[O.out];obtain⟨Y,S⟩:∃Y,w2.heap.size=Y:=⟨_,rfl⟩
 rw[S] at al ⊢;clear S O;have s1:F.cell? ⟨Y,1,none⟩=some (.string ⟨#[106,111,98]⟩):=(aK F Y 1 _ _ _ al.out).trans rfl;go_wp2_with fail;refine(HN.out _ ai.out.self).mono ?_;rintro e w4 ⟨rfl,h4⟩;have ay:=aJ (ai.out.trans h4);have K:Hid (w4.heap[d]? =some (.cells #[.string ⟨#[]⟩,.string ⟨#[]⟩,.slice none 0 0,.slice none 0 0,.bool false,.string ⟨#[]⟩,.int .i64 0,.int .u64 0,.int .u64 0,.int .u64 0,.int .i64 0,.int .u64 0,.slice none 0 0,.int .i64 0,.int .i64 0] 32 (0,0))):=aJ ((h4.gr.block d (aQ p.out) (fun e=>by injection e with e;have:=M.out;omega)).trans p.out)
 clear h4 HN ai p al s1;obtain⟨l,X⟩:∃l,w4.alloc (.cells #[.int .i64 (E.kind:Int),.string x,.int .i64 (E.line:Int),.int .i64 (E.col:Int)] 121)=l:=⟨_,rfl⟩
 have aa:Hid (GP w l g A c T (a+1+1)):=aJ (by rw[←X];exact ay.out.up ((Old.refl _).alloc _))
 have L:Hid (l.heap[d]? =some (.cells #[.string ⟨#[]⟩,.string ⟨#[]⟩,.slice none 0 0,.slice none 0 0,.bool false,.string ⟨#[]⟩,.int .i64 0,.int .u64 0,.int .u64 0,.int .u64 0,.int .i64 0,.int .u64 0,.slice none 0 0,.int .i64 0,.int .i64 0] 32 (0,0))):=aJ (by rw[←X];exact((Old.refl _).alloc _).block K.out)
 have H:Hid (l.heap[w4.heap.size]? =some (.cells #[.int .i64 (E.kind:Int),.string x,.int .i64 (E.line:Int),.int .i64 (E.col:Int)] 121 (0,0))):=aJ (by rw[←X];exact aM _ _)
 have aO:=aJ X
 clear ay K X;go_upto_region 5 with fail
 rw[aO.out];obtain⟨ku,a1⟩:∃ku,w4.heap.size=ku:=⟨_,rfl⟩
 rw[a1] at H ⊢;clear a1 aO;have s1:l.cell? ⟨ku,1,none⟩=some (.string x):=(aK l ku 1 _ _ _ H.out).trans rfl;have s2:l.cell? ⟨ku,2,none⟩=some (.int .i64 (E.line:Int)):=(aK l ku 2 _ _ _ H.out).trans rfl;have s3:l.cell? ⟨ku,3,none⟩=some (.int .i64 (E.col:Int)):=(aK l ku 3 _ _ _ H.out).trans rfl;have ul:ku<l.heap.size:=aQ H.out;go_upto_region 6 with fail
 obtain⟨w7,aq⟩:∃w7,(l.alloc (.cells #[.int .i64 15,.int .u64 5000] 70)).alloc (.cells (ae {Gm.jobOf x E.line E.col with lA:=some ⟨l.heap.size,0,none⟩,lc:=1}).toArray 32)=w7:=⟨_,rfl⟩
 have ac:Hid (GJb l w7 g (l.heap.size+1) A c T (a+1+1) {Gm.jobOf x E.line E.col with lA:=some ⟨l.heap.size,0,none⟩,lc:=1} (.slice none 0 0) []):=aJ (by rw[←aq];exact vY aa.out _ _ _)
 have aR:=aJ aq
 clear aq s1 s2 s3 ul H;rw[show(l.alloc (.cells #[.int .i64 15,.int .u64 5000] 70)).alloc (.cells #[.string x,.string ⟨#[]⟩,.slice none 0 0,.slice none 0 0,.bool false,.string ⟨#[]⟩,.int .i64 2,.int .u64 100,.int .u64 10000,.int .u64 10000,.int .i64 5,.int .u64 60000,.slice (some ⟨l.heap.size,0,none⟩) 1 1,.int .i64 (E.line:Int),.int .i64 (E.col:Int)] 32)=w7 from aR.out]
 obtain⟨kj,a0⟩:∃kj,l.heap.size+1=kj:=⟨_,rfl⟩
 rw[a0] at ac ⊢;clear a0 aR;go_wp2_with fail;refine(aH.out _ ac.out.gp.self).mono ?_;rintro e w8 ⟨rfl,h8⟩;have az:Hid (xw l g kj A c T J r (.slice none 0 0) w8):=aJ ⟨_,a+1+1+1,_,[],ac.out.call h8,HM.out,by simp,by simp⟩
 clear h8 aH ac HM;go_wp2_with fail;go_loopw [8] (fun v wr=>xw l g kj A c T J r v wr) (fun _ wr=>T.length-gpAt wr g)
 case atStart=>exact az.out
 case round=>
  obtain⟨f,a,j,seen,hj,hm,hs,hl⟩:=hrel;clear az;have ha:a<T.length:=by
   rcases Nat.lt_or_ge a T.length with h2|h2
   ·exact h2
   ·exact absurd (List.drop_eq_nil_of_le h2) (lM hm)
  have HM:=aJ hj.gp.gpAt
  have HB:=aJ (qM hj.gp ha 125 (by decide) ⟨#[125]⟩ rfl)
  have HS:Hid (∀s∈seen,∀x∈s,x<256):=aJ hs
  obtain⟨sA,sc,rfl,a8,_⟩:=hj.seen.shape;rw[bL] at hj;have HJ:=aJ hj;have D:seen.length≤100000:=by have:=hj.gp.few;omega
  by_cases C:Gm.isSign 125 (T.drop a)=true
  ·rw[C] at HB;obtain⟨af,rfl,rfl⟩:=mP hm C;have Q:=fun W (I:Rs W sA (aT (seen.map ak)))=>we sA sc (seen.map ak) ⟨#[114,117,110]⟩ W I (by rw[bL];omega)
   rw[show Gm.hasB (seen.map ak) ⟨#[114,117,110]⟩=true from(pF hs (t:=Gm.wRun) (by decide)).trans (decide_eq_true af)] at Q
   have HH:=aJ Q
   have ba:=aJ ha
   have a6:=(hj.gp.gr.block d (aQ L.out) (fun e=>by injection e with e;have:=M.out;omega)).trans L.out
   have aE:=aJ a6
   have R:d≠kj:=by have:=hj.kB;have:=aQ L.out;omega
   have bp:kj≠d:=Ne.symm R
   have aY:g≠d:=by have:=M.out;omega
   have aZ:d≠g:=Ne.symm aY
   clear hj hm hs a8 C af ha a6 Q L hl D;go_wp2_with fail;refine(HB.out).mono ?_;rintro e w9 ⟨rfl,hd⟩;have u:=aJ (HJ.out.up hd);have aF:=aJ (hd.block aE.out);clear hd HB HJ aE;have q:=aJ (HH.out w9 (by obtain⟨A2,c2,e2,h3,_⟩:=u.out.seen.shape;injection e2 with e3 e4 e5;subst e3;exact h3.rs))
   clear HH;rw[bL] at q;go_wp2_with fail;refine(q.out).mono ?_;rintro e w' ⟨rfl,rfl⟩;clear q;obtain⟨_,p1,f1⟩:=u.out.gp.cells;have i1:(a:Int)<100000:=by have:=u.out.gp.few;have:=ba.out;omega
   have i0:(0:Int)≤(a:Int):=by omega
   go_upto_region 20 with fail
   obtain⟨i,ar⟩:∃i,w'.setCell ⟨g,1,none⟩ (.int .i64 ((a:Int)+1))=i:=⟨_,rfl⟩
   obtain⟨an,_⟩:=u.out.next;have b:Hid (i.heap[d]? =some (.cells #[.string ⟨#[]⟩,.string ⟨#[]⟩,.slice none 0 0,.slice none 0 0,.bool false,.string ⟨#[]⟩,.int .i64 0,.int .u64 0,.int .u64 0,.int .u64 0,.int .i64 0,.int .u64 0,.slice none 0 0,.int .i64 0,.int .i64 0] 32 (0,0))):=aJ (by rw[←ar];exact(aL w' ⟨g,1,none⟩ d (.int .i64 ((a:Int)+1)) aZ).trans aF.out)
   rw[ar] at an ⊢;have k:=aJ an;clear an ar u aF p1 f1 i1 i0;have HX:Hid (∀W,W=putN i d 0 (ae j)→xx w g A c T (T.drop a).tail (jE j) (.returned (.agg (ae j).toArray)) W):=aJ (by
    rintro W rfl;have hb:w.heap.size≤l.heap.size:=aa.out.gr.size;refine⟨a+1,j,rfl,by rw[List.tail_drop],rfl,GP.turn HG.out (vd (Nat.le_of_eq a9.out) _ _ _ (aa.out.gr.trans k.out.gp.gr)) ((fy aY _ _ _).trans k.out.gp.blk),?_,?_,?_⟩
    ·exact(et k.out.env b.out (by decide) _ _).base hb
    ·exact(et k.out.needs b.out (by decide) _ _).base hb
    ·exact(et k.out.lad b.out (by decide) _ _).base hb)
   have c0:=(k.out.cell 0 (v:= .string j.nm) rfl).1
   have c1:=(k.out.cell 1 (v:= .string j.run) rfl).1
   have c2:=(k.out.cell 2 (v:= .slice j.eA j.env.length j.ec) rfl).1
   have c3:=(k.out.cell 3 (v:= .slice j.nA j.needs.length j.nc) rfl).1
   have c4:=(k.out.cell 4 (v:= .bool j.hasR) rfl).1
   have c5:=(k.out.cell 5 (v:= .string j.ready) rfl).1
   have c6:=(k.out.cell 6 (v:= .int .i64 j.restart) rfl).1
   have c7:=(k.out.cell 7 (v:= .int .u64 j.base) rfl).1
   have c8:=(k.out.cell 8 (v:= .int .u64 j.cap) rfl).1
   have c9:=(k.out.cell 9 (v:= .int .u64 j.stable) rfl).1
   have bd:=(k.out.cell 10 (v:= .int .i64 j.burst) rfl).1
   have be:=(k.out.cell 11 (v:= .int .u64 j.win) rfl).1
   have bf:=(k.out.cell 12 (v:= .slice j.lA j.lad.length j.lc) rfl).1
   have bg:=(k.out.cell 13 (v:= .int .i64 j.line) rfl).1
   have bh:=(k.out.cell 14 (v:= .int .i64 j.col) rfl).1
   have b0:i.cell? ⟨d,0,none⟩=some (.string ⟨#[]⟩):=(aK i d 0 _ _ _ b.out).trans rfl
   have z0:=aN i d 0 _ _ b.out
   have b1:i.cell? ⟨d,1,none⟩=some (.string ⟨#[]⟩):=(aK i d 1 _ _ _ b.out).trans rfl
   have z1:=aN i d 1 _ _ b.out
   have b2:i.cell? ⟨d,2,none⟩=some (.slice none 0 0):=(aK i d 2 _ _ _ b.out).trans rfl
   have z2:=aN i d 2 _ _ b.out
   have b3:i.cell? ⟨d,3,none⟩=some (.slice none 0 0):=(aK i d 3 _ _ _ b.out).trans rfl
   have z3:=aN i d 3 _ _ b.out
   have b4:i.cell? ⟨d,4,none⟩=some (.bool false):=(aK i d 4 _ _ _ b.out).trans rfl
   have z4:=aN i d 4 _ _ b.out
   have b5:i.cell? ⟨d,5,none⟩=some (.string ⟨#[]⟩):=(aK i d 5 _ _ _ b.out).trans rfl
   have z5:=aN i d 5 _ _ b.out
   have b6:i.cell? ⟨d,6,none⟩=some (.int .i64 0):=(aK i d 6 _ _ _ b.out).trans rfl
   have z6:=aN i d 6 _ _ b.out
   have b7:i.cell? ⟨d,7,none⟩=some (.int .u64 0):=(aK i d 7 _ _ _ b.out).trans rfl
   have z7:=aN i d 7 _ _ b.out
   have b8:i.cell? ⟨d,8,none⟩=some (.int .u64 0):=(aK i d 8 _ _ _ b.out).trans rfl
   have z8:=aN i d 8 _ _ b.out
   have b9:i.cell? ⟨d,9,none⟩=some (.int .u64 0):=(aK i d 9 _ _ _ b.out).trans rfl
   have z9:=aN i d 9 _ _ b.out
   have b10:i.cell? ⟨d,10,none⟩=some (.int .i64 0):=(aK i d 10 _ _ _ b.out).trans rfl
   have bk:=aN i d 10 _ _ b.out
   have b11:i.cell? ⟨d,11,none⟩=some (.int .u64 0):=(aK i d 11 _ _ _ b.out).trans rfl
   have bl:=aN i d 11 _ _ b.out
   have b12:i.cell? ⟨d,12,none⟩=some (.slice none 0 0):=(aK i d 12 _ _ _ b.out).trans rfl
   have bm:=aN i d 12 _ _ b.out
   have bc:i.cell? ⟨d,13,none⟩=some (.int .i64 0):=(aK i d 13 _ _ _ b.out).trans rfl
   have bn:=aN i d 13 _ _ b.out
   have b14:i.cell? ⟨d,14,none⟩=some (.int .i64 0):=(aK i d 14 _ _ _ b.out).trans rfl
   have bo:=aN i d 14 _ _ b.out
   clear k b;go_wp2_with fail;clear c0 c1 c2 c3 c4 c5 c6 c7 c8 c9 bd be bf bg bh z0 z1 z2 z3 z4 z5 z6 z7 z8 z9 bk bl bm bn bo;refine aP (v:= .agg #[.string j.nm,.string j.run,.slice j.eA j.env.length j.ec,.slice j.nA j.needs.length j.nc,.bool j.hasR,.string j.ready,.int .i64 j.restart,.int .u64 j.base,.int .u64 j.cap,.int .u64 j.stable,.int .i64 j.burst,.int .u64 j.win,.slice j.lA j.lad.length j.lc,.int .i64 j.line,.int .i64 j.col]) (by simp[results,Tryz.results48,go_sem,b0,b1,b2,b3,b4,b5,b6,b7,b8,b9,b10,b11,b12,bc,b14]) rfl ?_
   exact HX.out _ rfl
  ·rw[Bool.not_eq_true] at C;rw[C] at HB;obtain⟨f1,t,_,J1,r2,m1,m2,m3,m4⟩:=qJ hm C;obtain rfl:=(dW (dE m1).1).2.2;have V:=LtT.at_ hj.gp.lt (dE m1).1;have HT:Hid (∀W,GP W W g A c T a→Calls Tryz.prog 93 #[.pointer (some ⟨g,0,none⟩),.int .i64 1] W (gX W g A c T (ie t) (a+1))):=aJ (fun W I=>nQ I m1)
   have aA:=aJ (fun W=>vZ t.text V (tU (by rw[m3];rfl)) W)
   have ab:=aJ (fun W sv sn (I:GJb l W g kj A c T (a+1) j sv sn)=>BI I m3 (lM m4))
   have q:=aJ (fun W (I:Rs W sA (aT (seen.map ak)))=>we sA sc (seen.map ak) (ak t.text) W I (by rw[bL];omega))
   rw[pF hs V,bL] at q;have G:Hid (∀(sn:List (List Nat)) (sv:Value) (wa W:World),(if t.text=Gm.wEnv then seen else seen++[t.text])=sn→dB wa l g kj A c T r2 J1 sv (sn.map ak) (.returned (.tuple #[])) W→xw l g kj A c T J r sv W∧T.length-gpAt W g<T.length-gpAt wr g):=aJ (fun sn sv wa W D hp=>by
    obtain⟨a',j',_,p1,p2,p3,_⟩:=hp;have bj:=py m3;have hne:=lM m4;have a5:0<r2.length:=by cases r2 with|nil=>exact absurd rfl hne|cons x y=>simp
    rw[p1,List.length_drop] at a5;rw[p1,List.length_drop,List.length_drop] at bj;rw[D,p1,←p2] at m4;refine⟨⟨f1,a',j',sn,p3,m4,?_,?_⟩,?_⟩
    ·rw[←D];split
     ·exact hs
     ·intro s B;rw[List.mem_append] at B;rcases B with B|B
      ·exact hs s B
      ·rw[List.mem_singleton] at B;rw[B];exact V
    ·have:sn.length≤seen.length+1:=by rw[←D];split<;>simp
     omega
    ·rw[p3.gp.gpAt,hj.gp.gpAt];omega)
   have am:=aJ V
   have aj:=aJ m2
   have bb:Hid (seen.length≤100000):=aJ D
   clear hj hm hs a8 C m1 m2 m3 m4 V hl ha D L aa HG;go_wp2_with fail;refine(HB.out).mono ?_;rintro e w9 ⟨rfl,hd⟩;have u:=aJ (HJ.out.up hd);clear hd HB HJ;unfold ie at HT;go_wp2_with fail;refine(HT.out _ u.out.gp.self).mono ?_;rintro e w2 ⟨rfl,h2⟩;have aB:=aJ (u.out.call h2);clear h2 HT u;obtain⟨F,n⟩:∃F,w2.alloc (.cells #[.int .i64 (t.kind:Int),.string (ak t.text),.int .i64 (t.line:Int),.int .i64 (t.col:Int)] 121)=F:=⟨_,rfl⟩
   have z:Hid (GJb l F g kj A c T (a+1) j (.slice sA seen.length sc) (seen.map ak)):=aJ (by rw[←n];exact aB.out.up ((Old.refl _).alloc _))
   have p:Hid (F.heap[w2.heap.size]? =some (.cells #[.int .i64 (t.kind:Int),.string (ak t.text),.int .i64 (t.line:Int),.int .i64 (t.col:Int)] 121 (0,0))):=aJ (by rw[←n];exact aM _ _)
   have O:=aJ n
   clear aB n;go_upto_region 10 with fail
   rw[O.out];obtain⟨Y,S⟩:∃Y,w2.heap.size=Y:=⟨_,rfl⟩
   rw[S] at p ⊢;clear S O;have s1:F.cell? ⟨Y,1,none⟩=some (.string (ak t.text)):=(aK F Y 1 _ _ _ p.out).trans rfl;go_wp2_with fail;refine(aA.out F).mono ?_;rintro e w' ⟨rfl,rfl⟩;clear aA;go_upto_region 12 with fail
   by_cases he:t.text=Gm.wEnv
   ·have e1:((ak t.text).toList==[101,110,118])=true:=by rw[he];exact dL [101,110,118]
    have HE:=aJ (G.out seen (.slice sA seen.length sc) w' · (if_pos he))
    have HC:=aJ (ab.out _ _ _ z.out)
    clear G ab am aj q he z p;go_wp2_with fail;refine(HC.out).mono ?_;rintro e w4 ao;obtain rfl:e= .returned (.tuple #[]):=by obtain⟨_,_,e2,_⟩:=ao;exact e2
    have P:=aJ (HE.out _ ao)
    clear ao HE HC;go_wp2_with fail;go_roundw
    case rel=>exact P.out.1
    case measure=>exact P.out.2
   ·have e1:((ak t.text).toList==[101,110,118])=false:=dK (m:=[101,110,118]) am.out (by decide) he
    have a2:t.text∉seen:=aj.out.resolve_left he
    rw[decide_eq_false a2] at q;have aw:=aJ (q.out w' (by obtain⟨A2,c2,e2,h3,_⟩:=z.out.seen.shape;injection e2 with e3 e4 e5;subst e3;exact h3.rs))
    have aG:=aJ (if_neg he:(if t.text=Gm.wEnv then seen else seen++[t.text])=seen++[t.text])
    clear q am aj a2 he;go_wp2_with fail;refine(aw.out).mono ?_;rintro e w' ⟨rfl,rfl⟩;clear aw;have U:=z.out.seen;rw[bL] at U;have aD:=aJ U;have av:Hid (l.heap.size≤w'.heap.size):=aJ z.out.gp.gr.size;have a7:=bb.out;clear U;go_wp2_with (at_builtin;refine fk (wr:=w') rfl _ _ 28 rfl _ 9 (.string ⟨#[]⟩) 1 16 Tryz.underlying28 mS rfl (by decide) (by decide) _ _ _ rfl aD.out 1 1 [.string (ak t.text)] rfl rfl rfl rfl ?pn1 av.out (by decide) ?_)
    case pn1=>omega
    intro v4 w4 a3 aU ag;have a4:Own w4 l.heap.size 9 1 v4 ((seen.map ak).length+1) (aT (seen.map ak)++[.string (ak t.text)]):=by rw[bL];exact a3
    obtain⟨aV,aX⟩:=z.out.putS a4 aU ag;have aW:GJb l w4 g kj A c T (a+1) j v4 ((seen++[t.text]).map ak):=by rw[List.map_append];exact aV
    have aC:=aJ aW
    have K:=aJ (aX _ _ _ _ p.out (by decide) (by decide) (by decide) (by decide) (by decide))
    clear a3 a4 aU ag aV aX aW aD av z p s1 a7;have s1:w4.cell? ⟨Y,1,none⟩=some (.string (ak t.text)):=(aK w4 Y 1 _ _ _ K.out).trans rfl;have HE:=aJ (fun W=>G.out (seen++[t.text]) v4 w4 W aG.out)
    have HC:=aJ (ab.out _ _ _ aC.out)
    clear G ab aG K aC;go_wp2_with fail;refine(HC.out).mono ?_;rintro e _ ap;obtain rfl:e= .returned (.tuple #[]):=by obtain⟨_,_,e2,_⟩:=ap;exact e2
    have P:=aJ (HE.out _ ap)
    clear ap HE HC;go_wp2_with fail;go_roundw
    case rel=>exact P.out.1
    case measure=>exact P.out.2
theorem t6:(Tryz.prog.info? 32).map (fun i=>(i.zero,i.size,i.bytes))=some (some (.agg #[.string ⟨#[]⟩,.string ⟨#[]⟩,.slice none 0 0,.slice none 0 0,.bool false,.string ⟨#[]⟩,.int .i64 0,.int .u64 0,.int .u64 0,.int .u64 0,.int .i64 0,.int .u64 0,.slice none 0 0,.int .i64 0,.int .i64 0]),15,192):=by kernel_rfl
theorem BE (j:Jd):(ae j).all Value.oneCell'=true:=by simp[ae,Value.oneCell']
theorem yT (l:List Jd) (j:Jd):i7 (l++[j])=i7 l++ae j:=by simp[i7]
theorem yU (p q:Addr) (w:World):
  CallsD Tryz.prog 46 #[.pointer (some p),.pointer (some q)] .returning w fun e c w'=>e= .returned (.tuple #[])∧c= .returning∧w'=w:=by
 refine callsD_of_wpS Tryz.func46 rfl fun a cs b=>?_
 apply wpS_seq;apply wpS_region;simp[wpOpsS,go_sem,recoverD,b,Tryz.ntmps46,Exit.thenS];apply wpS_seq;apply wpS_region;simp[wpOpsS,go_sem,Exit.thenS];refine wpS_cond (t:=false) (by simp[Act.eval,Array.replicate]) ?_
 simp only[Bool.false_eq_true,if_false];refine wpS_of_wp (wp_skip ?_);cases a;simp_all [bodyPostS,results,Tryz.results46]
theorem tT:∀(f:Nat) {seen:List (List Nat)} {j J:Jd} {l r:List Tok},Gm.items f seen j l=some (J,r)→r.length≤l.length:=by
 intro f
 induction f with
 |zero=>intro seen j J l r h;cases h
 |succ f ih=>
  intro seen j J l r h;cases hs:Gm.isSign 125 l with
  |true=>obtain⟨_,_,rfl⟩:=mP h hs;rw[List.length_tail];omega
  |false=>
   unfold Gm.items at h;rw[hs,if_neg (by decide)] at h
   cases hx:Gm.take 1 l with
   |none=>rw[hx] at h;cases h
   |some p=>
    have h1:=jj hx
    rw[hx] at h;simp only at h;split at h
    ·cases h
    ·cases hy:Gm.item p.1.text j p.2 with
     |none=>rw[hy] at h;cases h
     |some q=>
      have h2:=py hy
      rw[hy] at h;have a:=ih h;omega
theorem yL {full:Bool} {l r:List Tok} {J:Jd} (h:Gm.job full l=some (J,r)):r.length<l.length:=by
 obtain⟨_,_,_,_,_,h1,_,a,b,c⟩:=nO h;have:=jj h1;have:=pp a;have:=uQ b;have:=tT _ c;omega
theorem vJ {full:Bool} {l r:List Tok} {J:Jd} (h:Gm.job full l=some (J,r)):full=false:=by
 obtain⟨_,_,_,_,_,h1,_,a,_,_⟩:=nO h;exact(fC a).2.2
theorem tR {f:Nat} {acc L:List Jd} {T:List Tok} {a:Nat} (h:Gm.jobs f acc (T.drop a)=some L):
  a<T.length∧(((T.getD a fo).kind=6∧acc=L)∨((T.getD a fo).kind≠6∧acc.length<32∧∃f1 J b,Gm.job false (T.drop a)=some (J,b)∧Gm.jobs f1 (acc++[J]) b=some L)):=by
 cases f with
 |zero=>cases h
 |succ f=>
  have ha:a<T.length:=by
   rcases Nat.lt_or_ge a T.length with h2|h2
   ·exact h2
   ·rw[List.drop_eq_nil_of_le h2] at h;cases h
  refine⟨ha,?_⟩;rw[lU ha] at h ⊢;unfold Gm.jobs at h;split at h
  ·next hk=>injection h with h;exact bX ⟨hk,h⟩
  ·next hk=>
   cases hx:Gm.job (decide (32≤acc.length)) (T.getD a fo::T.drop (a+1)) with
   |none=>rw[hx] at h;cases h
   |some p=>
    obtain⟨J,b⟩:=p;rw[hx] at h;have c:=vJ hx;rw[c] at hx;rw[decide_eq_false_iff_not] at c;exact bY ⟨hk,by omega,f,J,b,hx,h⟩
theorem yK {f:Nat} {acc L:List Jd} {l:List Tok} (h:Gm.jobs f acc l=some L):l≠[]:=by
 rintro rfl;cases f<;>cases h
structure JRw (w:World) (B:Nat) (j:Jd):Prop where
 env:Own w B 67 2 (.slice j.eA j.env.length j.ec) j.env.length (ib j.env)
 needs:Own w B 9 1 (.slice j.nA j.needs.length j.nc) j.needs.length (aT j.needs)
 lad:Own w B 70 2 (.slice j.lA j.lad.length j.lc) j.lad.length (dC j.lad)
theorem JRw.up {w w':World} {B:Nat} {j:Jd} (h:JRw w B j) (a:Old w w'):JRw w' B j:=⟨h.env.up a,h.needs.up a,h.lad.up a⟩
theorem JRw.base {w:World} {B b:Nat} {j:Jd} (h:JRw w B j) (a:b≤B):JRw w b j:=⟨h.env.base a,h.needs.base a,h.lad.base a⟩
theorem JRw.row {w w':World} {B:Nat} {j:Jd} (h:JRw w B j) {k:Nat} {cs:Array Value} {t:TypeId} {fz:Nat×Nat} (c:w.heap[k]? =some (.cells cs t fz)) (d:w.grownBy w' (some k)) (h1:67≠t) (h2:9≠t) (b:70≠t):JRw w' B j:=by
 have kp:∀{e:TypeId} {s:Nat} {v:Value} {n:Nat} {xs:List Value},Own w B e s v n xs→e≠t→Own w' B e s v n xs:=fun {e s v n xs} a hne=>bT a d (by
  cases hv:v.ownBlock with
  |none=>exact bX rfl
  |some q=>right;rw[←hv];exact fun e=>dq a c hne e.symm)
 exact⟨kp h.env h1,kp h.needs h2,kp h.lad b⟩
theorem JRw.grow {w w':World} {B:Nat} {j:Jd} (h:JRw w B j) {v:Value} {n:Nat} {xs:List Value} {b:Nat} (hv:Own w b 32 15 v n xs) (a:w.grownBy w' v.ownBlock):JRw w' B j:=
 ⟨Own.grown h.env hv (by decide) a,Own.grown h.needs hv (by decide) a,Own.grown h.lad hv (by decide) a⟩
def md (w:World) (L:List Jd) (e:Ending) (w':World):Prop:=
 ∃v js,e= .returned (.tuple #[v,cT])∧Own w' w.heap.size 32 15 v js.length (i7 js)∧js.map jE=L∧(∀j∈js,JRw w' w.heap.size j)∧Old w w'
structure PzRel (w:World) (g kb kf:Nat) (A:Option Addr) (c:Nat) (T:List Tok) (W:World) (a:Nat) (js:List Jd) (v:Value):Prop where
 gp:GP w W g A c T a
 gg:w.heap.size≤g∧g≠kb∧g≠kf∧w.heap.size≤kb∧kb≠kf
 kb:W.heap[kb]? =some (.cells #[v] 43 (0,0))
 kf:W.heap[kf]? =some (.cells #[.int .i64 0,.int .i64 0,.int .i64 0] 52 (0,0))
 own:Own W w.heap.size 32 15 v js.length (i7 js)
 rows:∀j∈js,JRw W w.heap.size j
section
variable {w W W' : World} {g kb kf : Nat} {A : Option Addr} {c : Nat} {T : List Tok} {a a' : Nat} {js : List Jd} {v : Value}
theorem PzRel.up (h:PzRel w g kb kf A c T W a js v) (b:Old W W'):PzRel w g kb kf A c T W' a js v:=
 ⟨h.gp.up b,h.gg,b.block h.kb,b.block h.kf,h.own.up b,fun j hj=>(h.rows j hj).up b⟩
theorem PzRel.call (h:PzRel w g kb kf A c T W a js v) (b:GP W W' g A c T a'):PzRel w g kb kf A c T W' a' js v:=by
 refine⟨h.gp.trans b,h.gg,(b.gr.block kb (aQ h.kb) (fun e=>h.gg.2.1 (by injection e with e;exact e.symm))).trans h.kb,(b.gr.block kf (aQ h.kf) (fun e=>h.gg.2.2.1 (by injection e with e;exact e.symm))).trans h.kf,?_,fun j hj=>(h.rows j hj).row h.gp.blk b.gr (by decide) (by decide) (by decide)⟩
 refine bT h.own b.gr ?_;cases hv:v.ownBlock with
 |none=>exact bX rfl
 |some q=>right;rw[←hv];exact fun e=>dq h.own h.gp.blk (by decide) e.symm
theorem PzRel.push (h:PzRel w g kb kf A c T W a js v) {j:Jd} (hj:JRw W w.heap.size j) {v':Value} (u:Own W' w.heap.size 32 15 v' (js.length+1) (i7 js++ae j)) (f:W.grownBy W' v.ownBlock):
  ∃A' c',v'= .slice A' (js.length+1) c'∧W'.cell? ⟨kb,0,none⟩=some v∧W'.frozen? ⟨kb,0,none⟩=false∧PzRel w g kb kf A c T (W'.setCell ⟨kb,0,none⟩ (.slice A' (js.length+1) c')) a (js++[j]) (.slice A' (js.length+1) c'):=by
 obtain⟨A',c',rfl,_,_⟩:=u.shape;have p:∀q,v.ownBlock=some q→w.heap.size≤q:=fun q y=>(bU h.own q y).1
 have k:∀{b:Nat} {cs:Array Value} {t:TypeId} {fz:Nat×Nat},W.heap[b]? =some (.cells cs t fz)→32≠t→W'.heap[b]? =some (.cells cs t fz):=fun {b cs t fz} l hne=>(f.block b (aQ l) (dq h.own l hne)).trans l
 have d:=k h.kb (by decide)
 have o:=k h.kf (by decide)
 have m:=k h.gp.blk (by decide)
 have n:w.grownBy W' (some g):=⟨f.os.trans h.gp.gr.os,f.tape.trans h.gp.gr.tape,f.output.trans h.gp.gr.output,bN h.gp.gr.size f.size,fun i s hne=>(f.block i (Nat.lt_of_lt_of_le s h.gp.gr.size) (fun e=>by have:=p i e.symm;omega)).trans (h.gp.gr.block i s hne)⟩
 refine⟨A',c',rfl,(aK W' kb 0 _ _ _ d).trans rfl,aN W' kb 0 _ _ d,⟨⟨iw n h.gg.2.2.2.1 0 _,(aL W' ⟨kb,0,none⟩ g _ h.gg.2.1).trans m,(h.gp.tk.grown h.own (by decide) f).setOtherG d (by decide) _,h.gp.few,h.gp.lt⟩,h.gg,aO W' kb 0 _ _ _ d,(aL W' ⟨kb,0,none⟩ kf _ (Ne.symm h.gg.2.2.2.2)).trans o,?_,?_⟩⟩
 ·rw[yT,bF];exact et u d (by decide) [.slice A' (js.length+1) c'] 0
 ·intro x hx;have r:JRw W' w.heap.size x:=by
   rcases List.mem_append.1 hx with hx|hx
   ·exact(h.rows x hx).grow h.own f
   ·rw[List.mem_singleton] at hx;subst hx;exact hj.grow h.own f
  exact r.row d (aD _ _ _ _) (by decide) (by decide) (by decide)
end
theorem qU {w:World} {k:Nat} (h:w.heap[k]? =some (.cells #[.int .i64 0,.int .i64 0,.int .i64 0] 52 (0,0))):
  (((w.setCell ⟨k,0,none⟩ (.int .i64 0)).setCell ⟨k,1,none⟩ (.int .i64 0)).setCell ⟨k,2,none⟩ (.int .i64 0)).heap[k]? =some (.cells #[.int .i64 0,.int .i64 0,.int .i64 0] 52 (0,0)):=
 aO _ k 2 _ _ (.int .i64 0) (aO _ k 1 _ _ (.int .i64 0) (aO w k 0 _ _ (.int .i64 0) h))
theorem yS (s:ByteArray) (w:World) {T:List Tok} {L:List Jd} (hl:Lx.all (bs s)=some T) (ao:LtT T) (hf:T.length≤100000) (hm:Gm.parse T=some L):
  Calls Tryz.prog 26 #[.string s] w (md w L):=by
 have aF:∀(fn:Fn) (first cap:Array Value) (w:World),(Instr.makeFunc fn first cap).run Tryz.prog w= .ok (.func fn first cap) w:=fun _ _ _ _=>rfl
 have aE:∀(x:Int) (y:ByteArray) (z u:Int) (w:World),(Instr.field 121 (.agg #[.int .i64 x,.string y,.int .i64 z,.int .i64 u]) 0).run Tryz.prog w= .ok (.int .i64 x) w:=fun _ _ _ _ _=>by kernel_rfl
 have S:=aJ (fun W=>Cn s T W hl)
 have af:=aJ ao
 have HF:=aJ hf
 have HM:Hid (Gm.jobs (T.length+1) [] (T.drop 0)=some L):=aJ hm
 clear hl ao hf hm;obtain⟨w1,o⟩:∃w1,(w.alloc (.cells #[.slice none 0 0] 43)).alloc (.cells #[.int .i64 0,.int .i64 0,.int .i64 0] 52)=w1:=⟨_,rfl⟩
 have ai:Hid (Old w w1):=aJ (by rw[←o];exact((Old.refl _).alloc _).alloc _)
 have K:Hid (w1.heap[w.heap.size]? =some (.cells #[.slice none 0 0] 43 (0,0))):=aJ (by rw[←o];exact((Old.refl _).alloc _).block (aM _ _))
 have I:Hid (w1.heap[w.heap.size+1]? =some (.cells #[.int .i64 0,.int .i64 0,.int .i64 0] 52 (0,0))):=aJ (by rw[←o];have:=aM (w.alloc (.cells #[.slice none 0 0] 43)) (.cells #[.int .i64 0,.int .i64 0,.int .i64 0] 52);rwa [World.size_alloc] at this)
 have al:=aJ o
 clear o;go_enter_defers Tryz.func26,Tryz.ntmps26;go_upto_region 1 with fail
 rw[al.out];obtain⟨kb,n⟩:∃kb,w.heap.size=kb:=⟨_,rfl⟩
 have N:=aJ n
 obtain⟨kf,Z⟩:∃kf,w.heap.size+1=kf:=⟨_,rfl⟩
 have ad:=aJ Z
 rw[Z] at I ⊢;rw[n] at K ⊢;clear n Z al;go_wp2_with fail;refine(S.out w1).mono ?_;rintro e w2 ⟨v,rfl,m,D⟩;have aj:=aJ (ai.out.up D);have ac:=aJ (D.block K.out);have F:=aJ (D.block I.out);have R:=aJ m;clear m D S ai K I;unfold cT;obtain⟨c0,c1,c2,f0,f1,f2⟩:=dI F.out;go_upto_region 2 with fail
 obtain⟨A,c,rfl,_,_⟩:=R.out.shape;obtain⟨C,l⟩:∃C,((w2.setCell ⟨kf,0,none⟩ (.int .i64 0)).setCell ⟨kf,1,none⟩ (.int .i64 0)).setCell ⟨kf,2,none⟩ (.int .i64 0)=C:=⟨_,rfl⟩
 have d:w.heap.size≤kf:=by have:=ad.out;omega
 have i:kb≠kf:=by have:=ad.out;have:=N.out;omega
 have P:Hid (Old w C):=aJ (by rw[←l];exact((aj.out.setCell (p:=⟨kf,0,none⟩) d _).setCell (p:=⟨kf,1,none⟩) d _).setCell (p:=⟨kf,2,none⟩) d _)
 have M:Hid (C.heap[kb]? =some (.cells #[.slice none 0 0] 43 (0,0))):=aJ (by rw[←l];exact(aL _ ⟨kf,2,none⟩ kb _ i).trans ((aL _ ⟨kf,1,none⟩ kb _ i).trans ((aL _ ⟨kf,0,none⟩ kb _ i).trans ac.out)))
 have G:Hid (C.heap[kf]? =some (.cells #[.int .i64 0,.int .i64 0,.int .i64 0] 52 (0,0))):=aJ (by rw[←l];exact qU F.out)
 have ak:Hid (Ts C 121 A (dQ T)):=aJ (by
  rw[←l];have aC:=et R.out F.out (by decide) [.int .i64 0,.int .i64 0,.int .i64 0] 0
  obtain⟨A2,c2,e2,h3,_⟩:=Own.shape aC;injection e2 with e3 e4 e5
  subst e3;exact h3)
 rw[l];clear l aj ac F R c0 c1 c2 f0 f1 f2;obtain⟨c0,c1,c2,f0,f1,f2⟩:=dI G.out;obtain⟨w4,aa⟩:∃w4,C.alloc (.cells #[.slice A T.length c,.int .i64 0] 119)=w4:=⟨_,rfl⟩
 have Q:Hid (PzRel w C.heap.size kb kf A c T w4 0 [] (.slice none 0 0)):=aJ (by
  rw[←aa];have m:Old C (C.alloc (.cells #[.slice A T.length c,.int .i64 0] 119)):=(Old.refl _).alloc _;have h1:=aQ M.out;have h2:=aQ G.out;refine⟨⟨fF (World.grownBy.refl _ _) (P.out.up m),aM _ _,ak.out.up m,HF.out,af.out⟩,⟨P.out.size,by omega,by omega,Nat.le_of_eq N.out,i⟩,m.block M.out,m.block G.out,Own.nil_ _ _ _ _,by simp⟩)
 have am:=aJ aa
 clear aa ak;go_wp2_with fail;rw[am.out];obtain⟨g,hg⟩:∃g,C.heap.size=g:=⟨_,rfl⟩
 rw[hg] at Q ⊢;clear hg am c0 c1 c2 f0 f1 f2 P M G af HF;go_loopw [] (fun wr=>∃f a js v,PzRel w g kb kf A c T wr a js v∧Gm.jobs f (js.map jE) (T.drop a)=some L) (fun wr=>T.length-gpAt wr g)
 case atStart=>exact⟨_,_,_,_,Q.out,HM.out⟩
 case round=>
  obtain⟨f,a,js,v,hr,Y⟩:=hrel;clear Q HM;obtain⟨ha,X⟩:=tR Y;have HP:=aJ (qN hr.gp ha);unfold ie at HP;have HR:=aJ hr;have O:=aJ hr.gp.gpAt;obtain⟨r,B,rfl,_,_⟩:=hr.own.shape;clear hr;rcases X with⟨V,hL⟩|⟨V,U,f1,J,r',hj,hm⟩
  ·have q6:(((T.getD a fo).kind:Int) !=6)=false:=by rw[V];rfl
   clear V;generalize T.getD a fo=t at *;go_wp2_with fail;refine(HP.out).mono ?_;rintro e E ⟨rfl,D⟩;have b:=aJ (HR.out.up D);have HL:=aJ hL;clear D HP HR hL O ha Y;have b0:E.cell? ⟨kb,0,none⟩=some (.slice r js.length B):=(aK E kb 0 _ _ _ b.out.kb).trans rfl;have z0:=aN E kb 0 _ _ b.out.kb;obtain⟨c0,c1,c2,f0,f1,f2⟩:=dI b.out.kf;have S:Hid (md w L (.returned (.tuple #[.slice r js.length B,cT])) (putN (putN E kb 0 [.slice r js.length B]) kf 0 [.int .i64 0,.int .i64 0,.int .i64 0])):=aJ (by
    have h:=b.out
    have H:(putN E kb 0 [.slice r js.length B]).heap[kf]? =some (.cells #[.int .i64 0,.int .i64 0,.int .i64 0] 52 (0,0)):=(fy (Ne.symm i) _ _ _).trans h.kf
    refine⟨_,js,rfl,et (et h.own h.kb (by decide) _ _) H (by decide) _ _,HL.out,fun j hj=>((h.rows j hj).row h.kb (fO _ _ _ _) (by decide) (by decide) (by decide)).row H (fO _ _ _ _) (by decide) (by decide) (by decide),?_⟩
    have m:Old w E:=grown_old (Old.refl w) h.gp.gr (fun q e=>by injection e with e;have:=h.gg.1;omega)
    have n:w.heap.size≤kb:=Nat.le_of_eq N.out
    exact(((m.setCell (p:=⟨kb,0,none⟩) n _).setCell (p:=⟨kf,0,none⟩) d _).setCell (p:=⟨kf,1,none⟩) d _).setCell (p:=⟨kf,2,none⟩) d _)
   clear b;go_wp2_with fail;refine leaves_cons (f:=46) (args:=#[.pointer (some ⟨kb,0,none⟩),.pointer (some ⟨kf,0,none⟩)]) (by simp) (by simp[go_sem]) ?_
   refine(yU _ _ _).mono ?_;rintro e _ _ ⟨rfl,rfl,rfl⟩;refine⟨.tuple #[.slice r js.length B,cT],by simp[cT,results,Tryz.results26,go_sem,b0,c0,c1,c2],S.out⟩
  ·have q6:(((T.getD a fo).kind:Int) !=6)=true:=by rw[bne_iff_ne];exact fun e=>V (by omega)
   have ay:=aJ (fun W (hW:GP W W g A c T a)=>CE hW hj)
   have q1:decide ((32:Int)≤(js.length:Int))=false:=by rw[decide_eq_false_iff_not];rw[bL] at U;omega
   have az:Hid (js.length≤32):=aJ (by rw[bL] at U;omega)
   have ag:=aJ hm
   have ah:=aJ (yK hm)
   have ab:=aJ (yL hj)
   clear V U hj hm Y ha;generalize T.getD a fo=t at *;go_wp2_with fail;refine(HP.out).mono ?_;rintro e E ⟨rfl,D⟩;have b:=aJ (HR.out.up D);clear D HP HR;go_upto_region 7 with fail
   have b0:E.cell? ⟨kb,0,none⟩=some (.slice r js.length B):=(aK E kb 0 _ _ _ b.out.kb).trans rfl
   have z0:=aN E kb 0 _ _ b.out.kb
   have av:Hid (∀(W:World) (v':Value) (w':World) (a':Nat) (j:Jd),PzRel w g kb kf A c T W a' js (.slice r js.length B)→JRw W w.heap.size j→r'=T.drop a'→jE j=J→Own w' w.heap.size 32 15 v' (js.length+1) (i7 js++ae j)→W.grownBy w' (Value.slice r js.length B).ownBlock→
     ∃A' c',v'= .slice A' (js.length+1) c'∧w'.cell? ⟨kb,0,none⟩=some (.slice r js.length B)∧w'.frozen? ⟨kb,0,none⟩=false∧Hid ((∃f2 a2 au v2,PzRel w g kb kf A c T (w'.setCell ⟨kb,0,none⟩ (.slice A' (js.length+1) c')) a2 au v2∧Gm.jobs f2 (au.map jE) (T.drop a2)=some L)∧T.length-gpAt (w'.setCell ⟨kb,0,none⟩ (.slice A' (js.length+1) c')) g<T.length-gpAt wr g)):=aJ (fun W v' w' a' j h1 h2 h3 h4 h5 V=>by
    obtain⟨A',c',e1,e2,e3,e4⟩:=h1.push h2 h5 V;have aq:0<r'.length:=by cases r' with|nil=>exact absurd rfl ah.out|cons x y=>simp
    have aB:=ab.out
    rw[h3,List.length_drop] at aq;rw[h3,List.length_drop,List.length_drop] at aB;refine⟨A',c',e1,e2,e3,aJ ⟨⟨f1,a',js++[j],_,e4,?_⟩,?_⟩⟩
    ·have:=ag.out
     rw[h3] at this;rw[List.map_append,List.map_singleton,h4];exact this
    ·rw[e4.gp.gpAt,O.out]
     omega)
   clear ag ah ab O;refine wp_region_noPanic ?_;go_region_law (first|((refine eG _ (by rfl) _ _ 43 (by rfl) w.heap.size 32 (.agg #[.string ⟨#[]⟩,.string ⟨#[]⟩,.slice none 0 0,.slice none 0 0,.bool false,.string ⟨#[]⟩,.int .i64 0,.int .u64 0,.int .u64 0,.int .u64 0,.int .i64 0,.int .u64 0,.slice none 0 0,.int .i64 0,.int .i64 0]) 15 192 Tryz.underlying43 t6 rfl (by decide) (by decide) (.slice r js.length B) js.length (i7 js) (by rfl) (k.out.up aS).own w6.heap.size 0 1 1 (ae j) (by rfl) (by first|exact fg _ (ae j) _|exact(fg _ (ae j) _).drew) rfl (BE j) (by have:=az.out;omega) (k.out.up aS).gp.gr.size ?_;intro v' w' m hg aD;obtain⟨A',c',rfl,e3,e4,S⟩:=av.out _ _ _ _ j (k.out.up aS) (ax.out.up aS) aA.out aw.out m hg;clear m hg aD))|((go_simp;go_at_call 48;refine(ay.out _ (b.out.gp.up aS).self).mono ?_;rintro e w6 ⟨a',j,he,ar,an,ap,o1,o2,o3⟩;obtain rfl:e= .returned (.agg #[.string j.nm,.string j.run,.slice j.eA j.env.length j.ec,.slice j.nA j.needs.length j.nc,.bool j.hasR,.string j.ready,.int .i64 j.restart,.int .u64 j.base,.int .u64 j.cap,.int .u64 j.stable,.int .i64 j.burst,.int .u64 j.win,.slice j.lA j.lad.length j.lc,.int .i64 j.line,.int .i64 j.col]):=he;have k:=aJ ((b.out.up aS).call ap);have ax:Hid (JRw w6 w.heap.size j):=aJ ((JRw.mk o1 o2 o3).base (b.out.up aS).gp.gr.size);have aA:=aJ ar;have aw:=aJ an;have b0:w6.cell? ⟨kb,0,none⟩=some (.slice r js.length B):=(aK w6 kb 0 _ _ _ k.out.kb).trans rfl;have z0:=aN w6 kb 0 _ _ k.out.kb;have bl:kb<w6.heap.size:=aQ k.out.kb;clear ar an ap o1 o2 o3)))
   all_goals (refine NoPanic.normal ?_;go_wp2_with fail;go_roundw)
   all_goals first|exact S.out.1|exact S.out.2
def Byt (l:List Nat):Prop:=∀x∈l,x<256
theorem Byt.tail {b:Nat} {l:List Nat} (h:Byt (b::l)):Byt l:=fun x hx=>h x (List.mem_cons_of_mem _ hx)
theorem Byt.head {b:Nat} {l:List Nat} (h:Byt (b::l)):b<256:=h b (List.mem_cons_self ..)
theorem Byt.drop {l:List Nat} (h:Byt l) (n:Nat):Byt (l.drop n):=fun x hx=>h x (List.mem_of_mem_drop hx)
theorem Byt.app {l m:List Nat} (h:Byt l) (k:Byt m):Byt (l++m):=fun x hx=>by
 rcases List.mem_append.1 hx with hx|hx
 ·exact h x hx
 ·exact k x hx
theorem Byt.while_ {l:List Nat} (h:Byt l) (p:Nat→Bool):Byt (l.takeWhile p):=fun x hx=>h x ((List.takeWhile_sublist p).subset hx)
theorem Byt.one {b:Nat} (h:b<256):Byt [b]:=fun x hx=>by rw[List.mem_singleton] at hx;rw[hx];exact h
theorem yj:∀(f:Nat) {l:List Nat} {i n:Nat} {acc x:List Nat},Lx.quot f l i acc=some (x,n)→Byt l→Byt acc→Byt x:=by
 intro f
 induction f with
 |zero=>intro l i n acc x h;cases h
 |succ f ih=>
  intro l i n acc x h a ha;cases l with
  |nil=>cases h
  |cons c r=>
   unfold Lx.quot at h;split at h
   ·injection h with h;injection h with h _;rw[←h];exact ha
   split at h
   ·cases h
   split at h
   ·cases h
   ·exact ih h a.tail (ha.app (Byt.one a.head))
theorem ym:∀(f:Nat) {l:List Nat} {i n:Nat} {acc x:List Nat},Lx.patt f l i acc=some (x,n)→Byt l→Byt acc→Byt x:=by
 intro f
 induction f with
 |zero=>intro l i n acc x h;cases h
 |succ f ih=>
  intro l i n acc x h a ha;cases l with
  |nil=>cases h
  |cons c r=>
   unfold Lx.patt at h;split at h
   ·injection h with h;injection h with h _;rw[←h];exact ha
   split at h
   ·cases h
   split at h
   ·cases h
   ·exact ih h a.tail (ha.app (Byt.one a.head))
theorem AK {l x:List Nat} {k n:Nat} (h:Lx.tok l=some (k,x,n)) (b:Byt l):Byt x:=by
 cases l with
 |nil=>cases h
 |cons c r=>
  rw[Lx.tok] at h;split at h
  ·injection h with h;injection h with _ h;injection h with h _;rw[←h];exact b.while_ _
  split at h
  ·cases h
  split at h
  ·cases a:Lx.quot (r.length+1) r 1 [] with
   |none=>rw[a] at h;cases h
   |some p=>rw[a] at h;injection h with h;injection h with _ h;injection h with h _;rw[←h];exact yj _ (n:=p.2) a b.tail (fun x hx=>by cases hx)
  split at h
  ·cases a:Lx.patt (r.length+1) r 1 [] with
   |none=>rw[a] at h;cases h
   |some p=>rw[a] at h;injection h with h;injection h with _ h;injection h with h _;rw[←h];exact ym _ (n:=p.2) a b.tail (fun x hx=>by cases hx)
  split at h
  ·injection h with h;injection h with _ h;injection h with h _;rw[←h];exact Byt.one b.head
  ·cases h
theorem xX:∀(l:List Nat) (b:Bool) (a c d:Nat),Byt l→Byt (Lx.skip b l a c d).1:=by
 intro l
 induction l with
 |nil=>intro b a c d h;cases b<;>exact h
 |cons x l ih=>
  intro b a c d h;cases b with
  |true=>unfold Lx.skip;split<;>exact ih _ _ _ _ h.tail
  |false=>
   unfold Lx.skip;split
   ·exact ih _ _ _ _ h.tail
   split
   ·exact ih _ _ _ _ h.tail
   split
   ·exact ih _ _ _ _ h.tail
   ·exact h
theorem LtT.app {T:List Tok} {t:Tok} (h:LtT T) (b:Byt t.text):LtT (T++[t]):=fun u a=>by
 rcases List.mem_append.1 a with a|a
 ·exact h u a
 ·rw[List.mem_singleton] at a;rw[a];exact b
theorem ye:∀(f:Nat) {t:List Nat} {a l c:Nat} {acc R:List Tok},Lx.scan f t a l c acc=some R→Byt t→LtT acc→acc.length≤2000→LtT R∧R.length≤2001:=by
 intro f
 induction f with
 |zero=>intro t a l c acc R h;cases h
 |succ f ih=>
  intro t a l c acc R h d ha hn;unfold Lx.scan at h;have hs:=xX t false a l c d;generalize Lx.skip false t a l c=s at *;obtain⟨s1,_,_,_⟩:=s;cases s1 with
  |nil=>injection h with h;rw[←h];exact⟨ha.app (fun x hx=>by cases hx),by simp;omega⟩
  |cons b r=>
   simp only at h
   cases hk:Lx.tok (b::r) with
   |none=>rw[hk] at h;cases h
   |some p=>
    obtain⟨k,x,n⟩:=p;rw[hk] at h;simp only at h;split at h
    ·cases h
    ·exact ih h (Byt.drop hs n) (ha.app (AK hk hs)) (by simp;omega)
theorem tK {t:List Nat} {R:List Tok} (h:Lx.all t=some R) (a:Byt t):LtT R∧R.length≤100000:=by
 unfold Lx.all at h;split at h
 ·cases h
 ·obtain⟨h1,h2⟩:=ye _ h a (fun x hx=>by cases hx) (by simp)
  exact⟨h1,by omega⟩
theorem iX {w:World} {B:Nat} {e:TypeId} {s n c:Nat} {A:Option Addr} {xs:List Value} (h:Own w B e s (.slice A n c) n xs):Rs w A xs∧n≤9223372036854775807:=by
 obtain⟨A2,c2,a,b,_,d⟩:=h.shape;injection a with e3 e4 e5
 subst e3;subst e5;unfold maxLen at d;exact⟨b.rs,by omega⟩
theorem JRw.jm {w:World} {B:Nat} {j:Jd} (h:JRw w B j):JM w j:=
 ⟨(iX h.env).1,(iX h.needs).1,(iX h.lad).1,(iX h.env).2,(iX h.needs).2,(iX h.lad).2⟩
theorem BV (s:ByteArray) (w:World) {L:List Jd} (hm:Gm.load (bs s)=some L) (C:∀js,js.map jE=L→CksOk js):
  Calls Tryz.prog 11 #[.string s] w (md w L):=by
 unfold Gm.load at hm;cases V:Lx.all (bs s) with
 |none=>rw[V] at hm;cases hm
 |some T=>
 rw[V] at hm;simp only at hm;obtain⟨X,hf⟩:=tK V (fun x hx=>m8 hx)
 have HP:=aJ (fun W=>yS s W V X hf hm)
 have H:=aJ (fun W A c js (hj:JL W A js) (E:js.map jE=L)=>nZ A c js W hj (C js E))
 have J:=aJ (fun js (E:js.map jE=L)=>(C js E).few)
 clear hm X hf V C;obtain⟨F,k⟩:∃F,w.alloc (.cells #[.int .i64 0,.int .i64 0,.int .i64 0] 52)=F:=⟨_,rfl⟩
 have y:Hid (Old w F):=aJ (by rw[←k];exact(Old.refl _).alloc _)
 have q:Hid (F.heap[w.heap.size]? =some (.cells #[.int .i64 0,.int .i64 0,.int .i64 0] 52 (0,0))):=aJ (by rw[←k];exact aM _ _)
 have Q:=aJ k
 clear k;go_enter Tryz.func11,Tryz.ntmps11;go_upto_region 1 with fail
 rw[Q.out];obtain⟨kf,D⟩:∃kf,w.heap.size=kf:=⟨_,rfl⟩
 have M:=aJ D
 rw[D] at q ⊢;clear D Q;go_wp2_with fail;refine(HP.out F).mono ?_;rintro e w2 ⟨v,js,rfl,ho,E,hr,g⟩;have z:=aJ (y.out.up g);have r:=aJ (g.block q.out);have Y:=aJ E;have o:w.heap.size≤F.heap.size:=y.out.size;have B:=aJ (ho.base o);have P:=aJ (fun j hj=>(hr j hj).base o)
 clear g HP y q E ho hr o;unfold cT;obtain⟨G,l⟩:∃G,w2.alloc (.cells #[.int .i64 0,.int .i64 0,.int .i64 0] 52)=G:=⟨_,rfl⟩
 have a:Hid (Old w2 G):=aJ (by rw[←l];exact(Old.refl _).alloc _)
 have h:Hid (G.heap[w2.heap.size]? =some (.cells #[.int .i64 0,.int .i64 0,.int .i64 0] 52 (0,0))):=aJ (by rw[←l];exact aM _ _)
 have R:=aJ l
 clear l;go_upto_region 2 with fail
 rw[R.out];obtain⟨f,U⟩:∃f,w2.heap.size=f:=⟨_,rfl⟩
 have u:Hid (w.heap.size≤f∧kf≠f):=aJ (by have:=z.out.size;have:=aQ r.out;constructor<;>omega)
 rw[U] at h ⊢;clear U R;obtain⟨A,c,rfl,_,_⟩:=B.out.shape;have N:=aJ (z.out.up a.out);have I:=aJ (a.out.block r.out);have b:=aJ (B.out.up a.out);have d:=aJ (fun j hj=>(P.out j hj).up a.out)
 have K:Hid (JL G A js):=aJ ⟨(iX b.out).1,fun j hj=>(d.out j hj).jm,by have:=J.out js Y.out;omega⟩
 have Z:=aJ (fun c=>H.out G A c js K.out Y.out)
 clear z r B P a J K H;obtain⟨g0,g1,g2,_,_,_⟩:=dI h.out;go_wp2_with fail;refine(Z.out _).mono ?_;rintro e w5 ⟨rfl,g⟩;have O:=aJ (N.out.up g);have t:=aJ (g.block I.out);have i:=aJ (g.block h.out);have m:=aJ (b.out.up g);have n:=aJ (fun j hj=>(d.out j hj).up g)
 clear g N I h b d Z g0 g1 g2;unfold cT;obtain⟨g0,g1,g2,_,_,_⟩:=dI i.out;obtain⟨c0,c1,c2,_,f1,f2⟩:=dI t.out;have n1:kf≠f:=u.out.2;have n2:f≠kf:=Ne.symm n1;have HX:Hid (md w L (.returned (.tuple #[.slice A js.length c,cT])) (putN (putN w5 f 0 [.int .i64 0,.int .i64 0,.int .i64 0]) kf 0 [.int .i64 0,.int .i64 0,.int .i64 0])):=aJ (by
  have S:(putN w5 f 0 [.int .i64 0,.int .i64 0,.int .i64 0]).heap[kf]? =some (.cells #[.int .i64 0,.int .i64 0,.int .i64 0] 52 (0,0)):=(fy n1 _ _ _).trans t.out
  refine⟨_,js,rfl,et (et m.out i.out (by decide) _ _) S (by decide) _ _,Y.out,fun j hj=>((n.out j hj).row i.out (fO _ _ _ _) (by decide) (by decide) (by decide)).row S (fO _ _ _ _) (by decide) (by decide) (by decide),?_⟩
  have hk:w.heap.size≤kf:=Nat.le_of_eq M.out
  have hk2:=u.out.1
  exact(((((O.out.setCell (p:=⟨f,0,none⟩) hk2 _).setCell (p:=⟨f,1,none⟩) hk2 _).setCell (p:=⟨f,2,none⟩) hk2 _).setCell (p:=⟨kf,0,none⟩) hk _).setCell (p:=⟨kf,1,none⟩) hk _).setCell (p:=⟨kf,2,none⟩) hk _)
 clear m n O t i Y M u;go_wp2_with fail;refine aP (v:= .tuple #[.slice A js.length c,cT]) (by simp[results,Tryz.results11,go_sem,cT,c0,c1,c2]) rfl ?_
 exact HX.out
def Qw (w:World) (base:Nat) (e:TypeId) (v:Value) (n:Nat) (xs:List Value):Prop:=
 xs.length=n∧((v= .slice none 0 0∧n=0)∨∃g off cap cur,v= .slice (some ⟨g,off,none⟩) n cap∧base≤g∧w.heap[g]? =some (.cells cur e (0,0))∧n≤cap∧off+cap≤cur.size∧cap≤maxLen∧
  ∀j,j<n→cur[off+j]? =xs[j]?)
theorem Qw.nil_ (w:World) (base:Nat) (e:TypeId):Qw w base e (.slice none 0 0) 0 []:=⟨rfl,bX ⟨rfl,rfl⟩⟩
theorem Qw.lt {w:World} {base:Nat} {e:TypeId} {v:Value} {n:Nat} {xs:List Value} (h:Qw w base e v n xs) (k:Nat) (hk:v.ownBlock=some k):base≤k∧k<w.heap.size:=by
 rcases h.2 with⟨rfl,_⟩|⟨g,off,cap,cur,rfl,a,b,_⟩
 ·simp[Value.ownBlock] at hk
 ·simp[Value.ownBlock] at hk;subst hk;exact⟨a,aQ b⟩
theorem Qw.kept {w w':World} {base:Nat} {e:TypeId} {v:Value} {n:Nat} {xs:List Value} {row:Option Nat} (h:Qw w base e v n xs) (c:w.grownBy w' row) (hne:v.ownBlock=none∨v.ownBlock≠row):Qw w' base e v n xs:=by
 refine⟨h.1,?_⟩;rcases h.2 with hn|⟨g,off,cap,cur,rfl,b,a,rest⟩
 ·exact bX hn
 ·refine bY ⟨g,off,cap,cur,rfl,b,?_,rest⟩;rw[c.block g (aQ a) (by simpa [Value.ownBlock] using hne)]
  exact a
theorem Qw.up {w w':World} {base:Nat} {e:TypeId} {v:Value} {n:Nat} {xs:List Value} (h:Qw w base e v n xs) (a:Old w w'):Qw w' base e v n xs:=by
 refine Qw.kept (row:=none) h ⟨a.out.os,a.out.tape,a.out.output,a.out.size,fun k hk _=>a.out.block k hk⟩ ?_
 cases hv:v.ownBlock with
 |none=>exact bX rfl
 |some k=>exact bY (by simp)
theorem Qw.shape {w:World} {base:Nat} {e:TypeId} {v:Value} {n:Nat} {xs:List Value} (h:Qw w base e v n xs):∃A c,v= .slice A n c∧Ts w e A xs∧n≤c∧c≤maxLen:=by
 rcases h with⟨h1,⟨rfl,rfl⟩|⟨g,off,cap,cur,rfl,d,b,hn,hs,hm,hx⟩⟩
 ·exact⟨none,0,rfl,bX (List.eq_nil_of_length_eq_zero h1),bM _,bO _⟩
 ·refine⟨_,cap,rfl,bY ⟨g,off,cur,(0,0),rfl,b,fun j u a=>?_⟩,hn,hm⟩
  rw[hx j (by rw[←h1];exact(List.getElem?_eq_some_iff.mp a).1)]
  exact a
theorem Qw.tail {w:World} {base:Nat} {e:TypeId} {A:Option Addr} {n c:Nat} {x:Value} {xs:List Value} (h:Qw w base e (.slice A (n+1) c) (n+1) (x::xs)):
  Qw w base e (.slice (if c=1 then A else A.map (·.add 1)) (n+1-1) (c-1)) n xs:=by
 rcases h with⟨h1,⟨_,f⟩|⟨g,off,cap,cur,h2,a,b,hn,hs,hm,hx⟩⟩
 ·omega
 ·simp only[Value.slice.injEq] at h2;obtain⟨rfl,_,rfl⟩:=h2;have d:xs.length=n:=by simpa using h1
  by_cases hc:c=1
  ·subst hc;obtain rfl:n=0:=by omega
   refine⟨d,bY ⟨g,off,0,cur,by simp,a,b,bM _,by omega,bO _,fun j hj=>by omega⟩⟩
  ·refine⟨d,bY ⟨g,off+1,c-1,cur,by simp[hc,Addr.add_lit],a,b,by omega,by omega,by omega,fun j hj=>?_⟩⟩
   have:=hx (j+1) (by omega)
   rw[List.getElem?_cons_succ] at this;rw[←this]
   congr 1
   omega
section
variable {P : Program} (w : World)
theorem jQ (t s e:TypeId) (i:TypeInfo) (r:P.underlying t=some (.slice e)) (p:P.info? e=some i) (hsz:i.size=1)
  (g off b f:Nat) (cur:Array Value) (o:w.heap[g]? =some (.cells cur e (0,0)))
  (a:Addr) (c:Nat) (u:Value) (h:∀j x,[u][j]? =some x→w.cell? (a.add j)=some x) (h1:u.oneCell'=true)
  (k:b+1≤f) (n:off+b<cur.size):
  ∃d,(Builtin.append_ #[t,t] s #[.slice (some ⟨g,off,none⟩) b f,.slice (some a) 1 c]).run P w= .ok (.slice (some ⟨g,off,none⟩) (b+1) f) (w.setRow g d)∧d.size=cur.size∧(∀j,j<off+b→d[j]? =cur[j]?)∧d[off+b]? =some u:=by
 have m:=run_firstCells_some (P:=P) w i.size 1 a 1 c [u] (by simp[hsz]) h
 have l:=run_storeCells_at P g (off+b) e [u] 0 cur w o (by simp;omega) (by intro x hx;simp at hx;subst hx;exact h1)
 simp only[Nat.add_zero] at l;refine⟨(cur.toList.take (off+b)++[u]++cur.toList.drop (off+b+1)).toArray,?_,?_,?_,?_⟩
 ·have q:[u].length=1:=rfl
  rw[q] at l;rw[hsz] at m;simp[Builtin.append_,run_underlying r,sizeOf,typeInfo,p,Builtin.lenOf,k,m,Addr.add_lit,hsz,l]
 ·simp;omega
 ·intro j hj;rw[List.getElem?_toArray,List.append_assoc,bJ (by simp;omega),List.getElem?_take,if_pos hj]
  simp
 ·have hk:(cur.toList.take (off+b)).length=off+b:=by simp;omega
  rw[List.getElem?_toArray,List.append_assoc,List.getElem?_append_right (by omega),hk,Nat.sub_self]
  rfl
theorem jp (base:Nat) (t E e:TypeId) (i:TypeInfo) (z:Value) (bytes:Nat) (L:P.underlying t=some (.slice e)) (J:P.info? e=some i) (hz:i.zero=some z)
  (b:i.size=1) (G:i.bytes=bytes) (M:z.cells.size=1)
  (v:Value) (n:Nat) (xs:List Value) (B:Qw w base e v n xs)
  (a:Addr) (c:Nat) (u:Value) (d:∀j x,[u][j]? =some x→w.cell? (a.add j)=some x) (h1:u.oneCell'=true)
  (A:n+1≤maxLen) (m:(n+1)*bytes≤140737488355328) (p:base≤w.heap.size):
  ∃v' w',(Builtin.append_ #[t,t] E #[v,.slice (some a) 1 c]).run P w= .ok v' w'∧Qw w' base e v' (n+1) (xs++[u])∧w.grownBy w' v.ownBlock:=by
 subst G;have D:n+1≤9223372036854775807:=by simp only[maxLen] at A;omega
 obtain⟨f,s⟩:=B;have grown:∀(old:Nat),∀(row:Option Nat),
   Qw (w.drew.alloc (.cells (xs.toArray++[u].toArray++Builtin.zeroCells z.cells (grownCap w (n+1) old e-(n+1))) e)) base e (.slice (some ⟨w.heap.size,0,none⟩) (n+1) (grownCap w (n+1) old e)) (n+1) (xs++[u])∧
   w.grownBy (w.drew.alloc (.cells (xs.toArray++[u].toArray++Builtin.zeroCells z.cells (grownCap w (n+1) old e-(n+1))) e)) row:=by
  intro old row;have I:=grownCap_ge w (n+1) old e;have q:grownCap w (n+1) old e≤maxLen:=grownCap_le_maxLen w (n+1) old e A;refine⟨⟨by simp[f],.inr ⟨w.heap.size,0,_,_,rfl,p,aM w.drew _,I,?_,q,fun j hj=>?_⟩⟩,⟨rfl,rfl,rfl,by simp,fun k hk _=>(World.grownBy_alloc w.drew _ none).block k hk (by simp)⟩⟩
  ·simp only[Array.size_append,List.size_toArray,size_zeroCells,M,bG];omega
  ·rw[Nat.zero_add,Array.getElem?_append_left (by simp[f];omega),List.append_toArray,List.getElem?_toArray]
 rcases s with⟨rfl,rfl⟩|⟨g,off,cap,cur,rfl,F,H,O,N,q,o⟩
 ·have hx:xs=[]:=List.eq_nil_of_length_eq_zero f
  subst hx;have C:=run_append_nil (P:=P) w t E e i z L J hz a 1 c [u] (by simp[b]) d (by omega) (by omega) (by omega)
  have h:=grown 0 (Value.ownBlock (.slice none 0 0))
  simp only[Nat.zero_add,List.nil_append,Array.empty_append] at h ⊢;exact⟨_,_,C,h.1,h.2⟩
 ·by_cases l:n+1≤cap
  ·obtain⟨y,C,_,Q,R⟩:=jQ (P:=P) w t E e i L J b g off n cap cur H a c u d h1 l (by omega)
   refine⟨_,_,C,⟨by simp[f],.inr ⟨g,off,cap,y,rfl,F,setRow_heap w g cur _ e _ H,l,by omega,q,fun j hj=>?_⟩⟩,⟨rfl,rfl,rfl,by simp,fun k _ hk=>setRow_other w g k _ (fun e=>hk (by simp[Value.ownBlock,e]))⟩⟩
   by_cases K:j<n
   ·rw[Q _ (by omega),o j K,bJ (by omega)]
   ·obtain rfl:j=n:=by omega
    rw[R,List.getElem?_append_right (by omega),f]
    simp
  ·have r:∀j x,xs[j]? =some x→w.cell? ((⟨g,off,none⟩:Addr).add j)=some x:=fun j x hx=>by
    rw[Addr.add_lit,aK w g (off+j) cur e (0,0) H,o j (by rw[←f];exact(List.getElem?_eq_some_iff.mp hx).1)]
    exact hx
   have C:=run_append_grow (P:=P) w t E e i z L J hz ⟨g,off,none⟩ n cap xs (by rw[b,Nat.mul_one];exact f) r a 1 c [u] (by simp[b]) d (by omega) (by omega) (growslice_fits (by omega) m)
   have h:=grown cap (Value.ownBlock (.slice (some ⟨g,off,none⟩) n cap))
   exact⟨_,_,C,h.1,h.2⟩
end
section
variable {P : Program} {w : World} {ops : Array Oper} {rest : List Oper} {o : Oper} {a : Act} {K : Act → World → Prop} {Q : Exit → Act → World → Prop} {E : Prop}
theorem nr {wr:World} (k:o.guard=none) (s x:Operand) (t:TypeId)
  (A:o.op= .call {callee:= .builtin .append,args:=#[s,x],argTypes:=#[t,t]})
  (base:Nat) (e:TypeId) (z:Value) (bytes:Nat) (C:P.underlying t=some (.slice e))
  (y:(P.info? e).map (fun i=>(i.zero,i.size,i.bytes))=some (some z,1,bytes)) (m:z.cells.size=1) (j:bytes≤1024)
  (v:Value) (n:Nat) (xs:List Value) (hs:a.eval s=v) (d:Qw wr base e v n xs)
  (c:Nat) (u:Value) (hx:a.eval x= .slice (some ⟨wr.heap.size,0,none⟩) 1 c) (D:w=wr.alloc (.cells [u].toArray e)) (h1:u.oneCell'=true)
  (hn:n+1≤68719476736) (f:base≤wr.heap.size)
  (h:∀v' w',Qw w' base e v' (n+1) (xs++[u])→wr.grownBy w' v.ownBlock→wpList P ops Q rest (a.put o.dst v') w'):wpList P ops Q (o::rest) a w:=by
 subst D;obtain⟨i,l,hz,b,g⟩:=info_parts y;have r:(n+1)*bytes≤68719476736*1024:=Nat.mul_le_mul hn j;refine wpList_plain k fun _ q=>?_
 obtain⟨v',w',B,h2,p⟩:=jp (P:=P) (wr.alloc (.cells [u].toArray e)) base t o.type e i z bytes C l hz b g m v n xs (d.up ((Old.refl wr).alloc _)) ⟨wr.heap.size,0,none⟩ c u (ed wr [u] e) h1
  (by unfold maxLen;omega) (by omega) (by simp;omega)
 unfold Oper.wp execOp;simp only[A,resolve,invoke,builtin,Sem.run_bind,Sem.run_pure,Result.andThen_ok,List.map_toArray,List.map_cons,List.map_nil,hs,hx,B];exact q _ _ (h v' w' h2 (World.grownBy.trans (World.grownBy_alloc wr _ _) p))
theorem sZ (w:World) (m:o.guard=none) (s x:Operand) (t:TypeId)
  (D:o.op= .call {callee:= .builtin .append,args:=#[s,x],argTypes:=#[t,t]})
  (base:Nat) (e:TypeId) (z:Value) (bytes:Nat) (F:P.underlying t=some (.slice e))
  (C:(P.info? e).map (fun i=>(i.zero,i.size,i.bytes))=some (some z,1,bytes)) (r:z.cells.size=1) (l:bytes≤1024)
  (v:Value) (n:Nat) (xs:List Value) (hs:a.eval s=v) (g:Qw w base e v n xs)
  (b off c:Nat) (u:Value) (hx:a.eval x= .slice (some ⟨b,off,none⟩) 1 c) (q:w.cell? ⟨b,off,none⟩=some u) (h1:u.oneCell'=true)
  (hn:n+1≤68719476736) (d:base≤w.heap.size)
  (h:∀v' w',Qw w' base e v' (n+1) (xs++[u])→w.grownBy w' v.ownBlock→K (a.put o.dst v') w'):
  if Region.wanted o (yielded ops a.tmps)=true then Oper.wp P o a w K Q else E:=by
 have G:Region.wanted o (yielded ops a.tmps)=true:=by simp[Region.wanted,m]
 rw[if_pos G];obtain⟨i,p,hz,f,k⟩:=info_parts C;have B:(n+1)*bytes≤68719476736*1024:=Nat.mul_le_mul hn l;obtain⟨v',w',q,h2,A⟩:=jp (P:=P) w base t o.type e i z bytes F p hz f k r v n xs g ⟨b,off,none⟩ c u (fun j y hy=>by
   cases j with
   |zero=>simp at hy;subst hy;rw[Addr.add_lit];exact q
   |succ j=>simp at hy) h1
  (by unfold maxLen;omega) (by omega) d
 unfold Oper.wp execOp;simp only[D,resolve,invoke,builtin,Sem.run_bind,Sem.run_pure,Result.andThen_ok,List.map_toArray,List.map_cons,List.map_nil,hs,hx,q];exact h v' w' h2 A
end
theorem i6 (x:Lf.T) (A:Option Addr) (c:Nat) (p:Int) (w:World):
  Calls Tryz.prog 143 #[bZ x A c,.int .i64 p] w fun e w'=>e= .returned (bZ (Lf.rest x p) A c)∧Old w w':=by
 obtain⟨ph,inc,runs,since,times,due,armed,rung,halt,again⟩:=x;unfold bZ Lf.rest;simp only;go_enter Tryz.func143,Tryz.ntmps143;go_wp2_with fail;exact aP (v:= .agg #[.int .i64 p,.int .i64 inc,.int .i64 runs,.int .u64 since,.slice A times.length c,.int .u64 0,.bool false,.int .i64 0,.bool false,.bool false]) (by simp[results,Tryz.results143,go_sem]) rfl ⟨rfl,((Old.refl w).alloc _).alloc _⟩
theorem r9 (j:Jd) (x:Lf.T) (A:Option Addr) (c:Nat) (now:Int) (w:World) (hj:JdOk w j) (hn:Tk.U now):
  Calls Tryz.prog 146 #[fU j,bZ x A c,.int .u64 now] w fun e w'=>e= .returned (.tuple #[bZ (Lf.climb j.j x now).1 A c,.int .i64 (Lf.climb j.j x now).2])∧Old w w':=by
 have a:=aJ (fun W (h:Old w W)=>tP j.lA j.lc j.lad x.rung now W (hj.lad.up h).rs (by have:=hj.few;unfold maxLen;omega) hj.ok hn)
 clear hj;obtain⟨ph,inc,runs,since,times,due,armed,rung,halt,again⟩:=x;obtain⟨nm,run,eA,env,ec,nA,needs,nc,hasR,ready,restart,base,cap,stable,burst,win,lA,lad,lc,line,col⟩:=j;unfold bZ fU Lf.climb Jd.j;simp only at a ⊢;generalize Ld.next lad rung now=q at *;obtain⟨_,_,_⟩:=q;go_enter Tryz.func146,Tryz.ntmps146;go_wp2_with fail;refine(a.out _ ((((Old.refl w).alloc _).alloc _).alloc _)).mono ?_;rintro e w2 ⟨rfl,n,rfl⟩;go_wp2_with fail;refine aP (by first|(simp[results,Tryz.results146,go_sem];done)|(simp[results,Tryz.results146,go_sem];rfl)) rfl ⟨rfl,?_⟩
 repeat with_reducible first|exact Old.refl _|assumption|refine Old.setCell ?_ (by first|omega|(simp<;>omega)) _|refine Old.drewN ?_ _|refine Old.alloc ?_ _|refine Old.drew ?_
theorem pr (x:Lf.T) (A:Option Addr) (c:Nat) (w:World) (t:Ts w 29 A (ax x.times)) (B:x.times.length≤68719476000):
  Calls Tryz.prog 137 #[bZ x A c] w (xu w x):=by
 have b:=aJ (fun W (h:Old w W)=>wI A c x.times W (t.up h).rs (by omega))
 clear t;have d:Hid (∀(q:Lf.T) A' c' w',x=q→Ts w' 29 A' (ax q.times)→Old w w'→xu w x (.returned (bZ q A' c')) w'):=aJ (fun q A' c' w' h1 h2 z=>by subst h1;exact⟨A',c',rfl,h2,z⟩)
 obtain⟨ph,inc,runs,since,times,due,armed,rung,halt,again⟩:=x;unfold bZ;simp only at b ⊢;go_enter Tryz.func137,Tryz.ntmps137;go_wp2_with fail;refine(b.out _ (((Old.refl w).alloc _).alloc _)).mono ?_;rintro e w2 ⟨v,rfl,a,s⟩;obtain⟨b1,b2,_⟩:=sR s;obtain⟨⟨_,c1,c2,_,c4,_,_,_,_,_⟩,_,f1,f2,_,_,_,_,_,_,_⟩:=bq b1;obtain⟨⟨g,i,j,k,l,m,n,o,p,r⟩,_,_,_,_,_,_,_,_,_,_⟩:=bq b2;obtain⟨A2,f,rfl,u,_,_⟩:=a.shape;have y:=aJ (u.tn2 b1 (by decide) b2 (by decide))
 clear a u b1 b2 s b;go_wp2_with fail;refine aP (by first|(simp[results,Tryz.results137,go_sem,bZ,g,i,j,k,l,m,n,o,p,r];done)|(simp[results,Tryz.results137,go_sem,bZ,g,i,j,k,l,m,n,o,p,r];first|rfl|exact⟨rfl,rfl⟩)) rfl (d.out ⟨ph,inc,runs,since,times,due,armed,rung,halt,again⟩ A2 f _ rfl ?_ ?_)
 ·refine Tn.ts (K:=[w.heap.size,w.heap.size+1]) ?_
  repeat with_reducible refine Tn.set ?_ (by simp) _
  exact y.out
 ·repeat with_reducible first|exact Old.refl _|assumption|refine Old.setCell ?_ (by first|omega|(simp<;>omega)) _|refine Old.drewN ?_ _|refine Old.alloc ?_ _|refine Old.drew ?_
theorem mN (x:Lf.T) (A:Option Addr) (c:Nat) (w:World):
  Calls Tryz.prog 144 #[bZ x A c] w fun e w'=>e= .returned (bZ (Lf.ended x) A c)∧Old w w':=by
 obtain⟨ph,inc,runs,since,times,due,armed,rung,halt,again⟩:=x;cases again with
 |false=>
  have a:=aJ (fun W=>i6 ⟨ph,inc,runs,since,times,due,armed,rung,halt,false⟩ A c 9 W)
  rw[show Lf.ended ⟨ph,inc,runs,since,times,due,armed,rung,halt,false⟩=Lf.rest ⟨ph,inc,runs,since,times,due,armed,rung,halt,false⟩ 9 from rfl]
  generalize Lf.rest _ 9=q at *;obtain⟨_,_,_,_,_,_,_,_,_,_⟩:=q;unfold bZ at a ⊢;go_enter Tryz.func144,Tryz.ntmps144;go_wp2_with fail;refine(a.out _).mono ?_;rintro e w2 ⟨rfl,n⟩;obtain⟨b1,b2,_⟩:=sR n;obtain⟨⟨b,d,f,g,h,i,j,k,l,m⟩,_,_,_,_,_,_,_,_,_,_⟩:=bq b2;clear n a b1 b2;go_wp2_with fail;refine aP (by first|(simp[results,Tryz.results144,go_sem,b,d,f,g,h,i,j,k,l,m];done)|(simp[results,Tryz.results144,go_sem,b,d,f,g,h,i,j,k,l,m];rfl)) rfl ⟨rfl,?_⟩
  repeat with_reducible first|exact Old.refl _|assumption|refine Old.setCell ?_ (by first|omega|(simp<;>omega)) _|refine Old.drewN ?_ _|refine Old.alloc ?_ _|refine Old.drew ?_
 |true=>
  have a:=aJ (fun W=>i6 ⟨ph,inc,0,since,times,due,armed,rung,halt,true⟩ A c 1 W)
  rw[show Lf.ended ⟨ph,inc,runs,since,times,due,armed,rung,halt,true⟩=Lf.rest ⟨ph,inc,0,since,times,due,armed,rung,halt,true⟩ 1 from rfl]
  generalize Lf.rest _ 1=q at *;obtain⟨_,_,_,_,_,_,_,_,_,_⟩:=q;unfold bZ at a ⊢;go_enter Tryz.func144,Tryz.ntmps144;go_wp2_with fail;refine(a.out _).mono ?_;rintro e w2 ⟨rfl,n⟩;obtain⟨b1,b2,_⟩:=sR n;obtain⟨⟨b,d,f,g,h,i,j,k,l,m⟩,_,_,_,_,_,_,_,_,_,_⟩:=bq b2;clear n a b1 b2;go_wp2_with fail;refine aP (by first|(simp[results,Tryz.results144,go_sem,b,d,f,g,h,i,j,k,l,m];done)|(simp[results,Tryz.results144,go_sem,b,d,f,g,h,i,j,k,l,m];rfl)) rfl ⟨rfl,?_⟩
  repeat with_reducible first|exact Old.refl _|assumption|refine Old.setCell ?_ (by first|omega|(simp<;>omega)) _|refine Old.drewN ?_ _|refine Old.alloc ?_ _|refine Old.drew ?_
theorem Bq (j:Jd) (x:Lf.T) (A:Option Addr) (c:Nat) (now:Int) (w:World) (hj:JdOk w j) (hn:Tk.U now):
  Calls Tryz.prog 140 #[fU j,bZ x A c,.int .u64 now] w fun e w'=>e= .returned (.tuple #[bZ (Lf.halt_ j.j x now).1 A c,.int .i64 (Lf.halt_ j.j x now).2])∧Old w w':=by
 have a:=aJ (fun W (h:Old w W)=>r9 j {x with ph:=6,rung:=0} A c now W (hj.up h) hn)
 clear hj;unfold Lf.halt_;obtain⟨ph,inc,runs,since,times,due,armed,rung,halt,again⟩:=x;simp only at a ⊢;generalize (Lf.climb j.j _ now)=q at *;obtain⟨r,s⟩:=q;obtain⟨_,_,_,_,_,_,_,_,_,_⟩:=r;obtain⟨nm,run,eA,env,ec,nA,needs,nc,hasR,_,restart,base,cap,stable,burst,win,lA,lad,lc,line,col⟩:=j;unfold bZ fU at a ⊢;simp only at a ⊢;go_enter Tryz.func140,Tryz.ntmps140;go_wp2_with fail;refine(a.out _ ((((Old.refl w).alloc _).alloc _).alloc _)).mono ?_;rintro e w2 ⟨rfl,p⟩;obtain⟨b1,b2,b3,_⟩:=gD p;obtain⟨⟨b,d,f,g,i,k,l,m,n,o⟩,_,_,_,_,_,_,_,_,_,_⟩:=bq b3;clear p a b1 b2 b3;go_wp2_with fail;refine aP (by first|(simp[results,Tryz.results140,go_sem,b,d,f,g,i,k,l,m,n,o];done)|(simp[results,Tryz.results140,go_sem,b,d,f,g,i,k,l,m,n,o];rfl)) rfl ⟨rfl,?_⟩
 repeat with_reducible first|exact Old.refl _|assumption|refine Old.setCell ?_ (by first|omega|(simp<;>omega)) _|refine Old.drewN ?_ _|refine Old.alloc ?_ _|refine Old.drew ?_
theorem vB (j:Jd) (x:Lf.T) (A:Option Addr) (c:Nat) (now jit:Int) (w:World) (hj:JdOk w j) (hn:Tk.U now) (Y:Tk.U jit) (Z:Ts w 29 A (ax x.times)) (hl:x.times.length≤68719476000) (hx:Lf.Ok x):
  Calls Tryz.prog 142 #[fU j,bZ x A c,.int .u64 now,.int .u64 jit] w (mf w (Lf.over j.j x now jit).1 (Lf.over j.j x now jit).2):=by
 have l:Hid (∀(q:Lf.T×Bool) A' c' w',Lf.over j.j x now jit=q→Ts w' 29 A' (ax q.1.times)→Old w w'→mf w (Lf.over j.j x now jit).1 (Lf.over j.j x now jit).2 (.returned (.tuple #[bZ q.1 A' c',.bool q.2])) w'):=aJ (fun q A' c' w' h1 h2 h3=>by subst h1;exact⟨A',c',rfl,h2,h3⟩)
 have t:=aJ (fun W (h:Old w W)=>B4 A c x.times j.burst now j.win W (Z.up h).rs (by omega) hx.2.2 hn hj.win)
 have V:=fun W=>AN j.base j.cap x.runs jit hj.base hj.cap Y W
 have M:=Tk.U_delay x.runs hj.base hj.cap Y
 have S:=fun W=>AO now (Tk.delay j.base j.cap x.runs jit) hn M W
 clear hj Z hx M;have d:Hid (Lf.over j.j x now jit=if(Bu.allow x.times j.burst now j.win).2=true then(⟨5,x.inc,wrap64 (x.runs+1),x.since,(Bu.allow x.times j.burst now j.win).1,Tk.add now (Tk.delay j.base j.cap x.runs jit),x.armed,x.rung,x.halt,x.again⟩,true) else(⟨8,x.inc,x.runs,x.since,(Bu.allow x.times j.burst now j.win).1,0,false,0,false,false⟩,false)):=aJ rfl
 obtain⟨nm,run,eA,env,ec,nA,needs,nc,hasR,_,restart,base,cap,stable,burst,win,lA,lad,lc,line,col⟩:=j;obtain⟨ph,inc,runs,since,times,due,armed,rung,halt,again⟩:=x;unfold Jd.j at l d ⊢;simp only at t V S l d ⊢;generalize Lf.over _ _ now jit=ov at *;generalize Bu.allow times burst now win=r at *;obtain⟨g,ok⟩:=r;generalize Tk.delay base cap runs jit=dl at *;generalize Tk.add now dl=due2 at *;have HD:=aJ V;have HA:=aJ S;clear V S;cases ok with
 |true=>
  have o:Hid (ov=(⟨5,inc,wrap64 (runs+1),since,g,due2,armed,rung,halt,again⟩,true)):=aJ (d.out.trans (if_pos rfl))
  clear d;unfold bZ fU
  try simp only
  go_enter Tryz.func142,Tryz.ntmps142
  go_wp2_with fail;refine(t.out _ ((((Old.refl w).alloc _).alloc _).alloc _)).mono ?_;rintro e w2 ⟨v,rfl,a,N⟩;obtain⟨b1,b2,b3,X⟩:=gD N;obtain⟨⟨_,_,_,_,_,_,_,_,_,_,_,_,_,_,_⟩,_⟩:=ij b1;obtain⟨⟨_,c1,c2,_,c4,_,_,_,_,_⟩,_,f1,f2,_,_,_,_,_,_,_⟩:=bq b2;obtain⟨⟨B,C,D,E,F,G,H,I,J,L⟩,_,_,_,_,_,_,_,_,_,_⟩:=bq b3;obtain⟨A2,b,rfl,O,_,_⟩:=a.shape;have R:=aJ (O.tn2 b2 (by decide) b3 (by decide))
  clear a O b1 b2 b3 N t;go_wp2_with fail;refine(HD.out _).mono ?_;rintro e _ ⟨rfl,rfl⟩;go_wp2_with fail;refine(HA.out _).mono ?_;rintro e _ ⟨rfl,rfl⟩;go_wp2_with fail;refine aP (by first|(simp[results,Tryz.results142,go_sem,bZ,B,C,D,E,F,G,H,I,J,L];done)|(simp[results,Tryz.results142,go_sem,bZ,B,C,D,E,F,G,H,I,J,L];first|rfl|exact⟨rfl,rfl⟩)) rfl (l.out (⟨5,inc,wrap64 (runs+1),since,g,due2,armed,rung,halt,again⟩,true) A2 b _ o.out ?_ ?_)
  ·refine Tn.ts (K:=[w.heap.size+1,w.heap.size+1+1]) ?_
   repeat with_reducible refine Tn.set ?_ (by simp) _
   exact R.out
  ·repeat with_reducible first|exact Old.refl _|assumption|refine Old.setCell ?_ (by first|omega|(simp<;>omega)) _|refine Old.drewN ?_ _|refine Old.alloc ?_ _|refine Old.drew ?_
 |false=>
  have o:Hid (ov=(⟨8,inc,runs,since,g,0,false,0,false,false⟩,false)):=aJ (d.out.trans (if_neg (by simp)))
  have u:=aJ (fun W A c=>i6 ⟨ph,inc,runs,since,g,due,armed,rung,halt,again⟩ A c 8 W)
  rw[show Lf.rest ⟨ph,inc,runs,since,g,due,armed,rung,halt,again⟩ 8=⟨8,inc,runs,since,g,0,false,0,false,false⟩ from rfl] at u
  clear d;unfold bZ at u;unfold bZ fU
  try simp only at u ⊢
  go_enter Tryz.func142,Tryz.ntmps142
  go_wp2_with fail;refine(t.out _ ((((Old.refl w).alloc _).alloc _).alloc _)).mono ?_;rintro e w2 ⟨v,rfl,a,N⟩;obtain⟨b1,b2,b3,X⟩:=gD N;obtain⟨⟨_,c1,c2,_,c4,_,_,_,_,_⟩,_,f1,f2,_,_,_,_,_,_,_⟩:=bq b2;obtain⟨A2,b,rfl,O,_,_⟩:=a.shape;have P:=aJ b2;have Q:=aJ b3;have y:=aJ O;clear a O b1 b2 b3 N t;go_wp2_with fail;refine(u.out _ _ _).mono ?_;rintro e _ ⟨rfl,f⟩;have z:=aO w2 (w.heap.size+1) 4 _ _ (.slice A2 g.length b) P.out;have n:=aJ (f.block ((aL w2 ⟨w.heap.size+1,4,none⟩ (w.heap.size+1+1) (.slice A2 g.length b) (by simp)).trans Q.out))
  have m:=aJ (((y.out.tn2 P.out (by decide) Q.out (by decide)).set (k:=w.heap.size+1) (i:=4) (by simp) (.slice A2 g.length b)).ts.up f)
  have s:=aJ (f.block z)
  have aa:=(X.setCell (p:=⟨w.heap.size+1,4,none⟩) (by simp only;omega) (.slice A2 g.length b)).up f
  clear f X u y P Q z;have R:=aJ (m.out.tn2 s.out (by decide) n.out (by decide))
  obtain⟨⟨B,C,D,E,F,G,H,I,J,L⟩,_,_,_,_,_,_,_,_,_,_⟩:=bq n.out;clear m s n;go_wp2_with fail;refine aP (by first|(simp[results,Tryz.results142,go_sem,bZ,B,C,D,E,F,G,H,I,J,L];done)|(simp[results,Tryz.results142,go_sem,bZ,B,C,D,E,F,G,H,I,J,L];first|rfl|exact⟨rfl,rfl⟩)) rfl (l.out (⟨8,inc,runs,since,g,0,false,0,false,false⟩,false) A2 b _ o.out ?_ ?_)
  ·refine Tn.ts (K:=[w.heap.size+1,w.heap.size+1+1]) ?_
   repeat with_reducible refine Tn.set ?_ (by simp) _
   exact R.out
  ·repeat with_reducible first|exact Old.refl _|assumption|refine Old.setCell ?_ (by first|omega|(simp<;>omega)) _|refine Old.drewN ?_ _|refine Old.alloc ?_ _|refine Old.drew ?_
theorem vz (j:Jd) (x:Lf.T) (A:Option Addr) (c:Nat) (now jit:Int) (w:World) (hj:JdOk w j) (hn:Tk.U now) (Y:Tk.U jit) (R:Ts w 29 A (ax x.times)) (Z:x.times.length≤68719476000) (hx:Lf.Ok x):
  Calls Tryz.prog 139 #[fU j,bZ x A c,.int .u64 now,.int .u64 jit] w (mf w (Lf.unb j.j x now jit).1 (Lf.unb j.j x now jit).2):=by
 have H:Hid (∀(q:Lf.T×Bool) A' c' w',Lf.unb j.j x now jit=q→Ts w' 29 A' (ax q.1.times)→Old w w'→mf w (Lf.unb j.j x now jit).1 (Lf.unb j.j x now jit).2 (.returned (.tuple #[bZ q.1 A' c',.bool q.2])) w'):=aJ (fun q A' c' w' h1 h2 X=>by subst h1;exact⟨A',c',rfl,h2,X⟩)
 have M:=aJ (fun W (h:Old w W)=>vB j x A c now jit W (hj.up h) hn Y (R.up h) Z hx)
 have I:=aJ R
 clear hj R hx;have J:Hid (Lf.unb j.j x now jit=if x.halt=true then(Lf.ended x,false) else if j.restart=1 then(Lf.rest x 8,false) else Lf.over j.j x now jit):=aJ rfl
 obtain⟨nm,run,eA,env,ec,nA,needs,nc,hasR,P,restart,base,cap,stable,burst,win,lA,lad,lc,line,col⟩:=j;obtain⟨ph,inc,runs,since,times,due,armed,rung,halt,again⟩:=x;unfold mf at M;simp only at J I;generalize Lf.unb _ _ now jit=ub at *;cases halt with
 |true=>
  have G:(Lf.ended ⟨ph,inc,runs,since,times,due,armed,rung,true,again⟩).times=times:=Lf.len_ended _
  have i:=aJ (fun W=>mN ⟨ph,inc,runs,since,times,due,armed,rung,true,again⟩ A c W)
  have n:Hid (ub=(Lf.ended ⟨ph,inc,runs,since,times,due,armed,rung,true,again⟩,false)):=aJ (J.out.trans (if_pos rfl))
  clear M J;generalize Lf.ended _=q at *;obtain⟨L,p,m,d,f,o,b,l,k,a⟩:=q;simp only at G;subst G;unfold bZ at i;unfold bZ fU;simp only at i ⊢;go_enter Tryz.func139,Tryz.ntmps139;go_wp2_with fail;refine(i.out _).mono ?_;rintro e _ ⟨rfl,r⟩;have g:=aJ (I.out.up ((((Old.refl w).alloc _).alloc _).alloc _|>.up r));obtain⟨b1,b2,b3,_⟩:=gD r;obtain⟨⟨s,t,u,y,z,B,C,D,E,F⟩,_,_,_,_,_,_,_,_,_,_⟩:=bq b3;have N:=aJ (g.out.tn2 b2 (by decide) b3 (by decide))
  clear b1 b2 b3 r i g;go_wp2_with fail;refine aP (by first|(simp[results,Tryz.results139,go_sem,bZ,s,t,u,y,z,B,C,D,E,F];done)|(simp[results,Tryz.results139,go_sem,bZ,s,t,u,y,z,B,C,D,E,F];first|rfl|exact⟨rfl,rfl⟩)) rfl (H.out (⟨L,p,m,d,f,o,b,l,k,a⟩,false) A c _ n.out ?_ ?_)
  ·refine Tn.ts (K:=[w.heap.size+1,w.heap.size+1+1]) ?_
   repeat with_reducible refine Tn.set ?_ (by simp) _
   exact N.out
  ·repeat with_reducible first|exact Old.refl _|assumption|refine Old.setCell ?_ (by first|omega|(simp<;>omega)) _|refine Old.drewN ?_ _|refine Old.alloc ?_ _|refine Old.drew ?_
 |false=>
  by_cases h1:restart=1
  ·subst h1;have i:=aJ (fun W=>i6 ⟨ph,inc,runs,since,times,due,armed,rung,false,again⟩ A c 8 W)
   have n:Hid (ub=(⟨8,inc,runs,since,times,0,false,0,false,false⟩,false)):=aJ (J.out.trans ((if_neg (by decide)).trans (if_pos rfl)))
   rw[show Lf.rest ⟨ph,inc,runs,since,times,due,armed,rung,false,again⟩ 8=⟨8,inc,runs,since,times,0,false,0,false,false⟩ from rfl] at i
   clear M J;unfold bZ at i;unfold bZ fU;simp only at i ⊢;go_enter Tryz.func139,Tryz.ntmps139;go_wp2_with fail;refine(i.out _).mono ?_;rintro e _ ⟨rfl,r⟩;have g:=aJ (I.out.up ((((Old.refl w).alloc _).alloc _).alloc _|>.up r));obtain⟨b1,b2,b3,_⟩:=gD r;obtain⟨⟨s,t,u,y,z,B,C,D,E,F⟩,_,_,_,_,_,_,_,_,_,_⟩:=bq b3;have N:=aJ (g.out.tn2 b2 (by decide) b3 (by decide))
   clear b1 b2 b3 r i g;go_wp2_with fail;refine aP (by first|(simp[results,Tryz.results139,go_sem,bZ,s,t,u,y,z,B,C,D,E,F];done)|(simp[results,Tryz.results139,go_sem,bZ,s,t,u,y,z,B,C,D,E,F];first|rfl|exact⟨rfl,rfl⟩)) rfl (H.out (⟨8,inc,runs,since,times,0,false,0,false,false⟩,false) A c _ n.out ?_ ?_)
   ·refine Tn.ts (K:=[w.heap.size+1,w.heap.size+1+1]) ?_
    repeat with_reducible refine Tn.set ?_ (by simp) _
    exact N.out
   ·repeat with_reducible first|exact Old.refl _|assumption|refine Old.setCell ?_ (by first|omega|(simp<;>omega)) _|refine Old.drewN ?_ _|refine Old.alloc ?_ _|refine Old.drew ?_
  ·have n1:(restart==1)=false:=by simpa using h1
   have n:Hid (ub=Lf.over (Jd.j ⟨nm,run,eA,env,ec,nA,needs,nc,hasR,P,restart,base,cap,stable,burst,win,lA,lad,lc,line,col⟩) ⟨ph,inc,runs,since,times,due,armed,rung,false,again⟩ now jit):=aJ (J.out.trans ((if_neg (by decide)).trans (if_neg h1)))
   have i:=M
   clear M J h1;generalize Lf.over _ _ now jit=q at *;obtain⟨⟨L,p,m,d,f,o,b,l,k,a⟩,V⟩:=q;unfold bZ fU at i;unfold bZ fU;simp only at i ⊢;go_enter Tryz.func139,Tryz.ntmps139;go_wp2_with fail;refine(i.out _ ((((Old.refl w).alloc _).alloc _).alloc _)).mono ?_;rintro e _ ⟨S,Q,rfl,O,r⟩;have g:=aJ O;clear O;obtain⟨b1,b2,b3,_⟩:=gD r;obtain⟨⟨s,t,u,y,z,B,C,D,E,F⟩,_,_,_,_,_,_,_,_,_,_⟩:=bq b3;have N:=aJ (g.out.tn2 b2 (by decide) b3 (by decide))
   clear b1 b2 b3 r i g;go_wp2_with fail;refine aP (by first|(simp[results,Tryz.results139,go_sem,bZ,s,t,u,y,z,B,C,D,E,F];done)|(simp[results,Tryz.results139,go_sem,bZ,s,t,u,y,z,B,C,D,E,F];first|rfl|exact⟨rfl,rfl⟩)) rfl (H.out (⟨L,p,m,d,f,o,b,l,k,a⟩,V) S Q _ n.out ?_ ?_)
   ·refine Tn.ts (K:=[w.heap.size+1,w.heap.size+1+1]) ?_
    repeat with_reducible refine Tn.set ?_ (by simp) _
    exact N.out
   ·repeat with_reducible first|exact Old.refl _|assumption|refine Old.setCell ?_ (by first|omega|(simp<;>omega)) _|refine Old.drewN ?_ _|refine Old.alloc ?_ _|refine Old.drew ?_
theorem vP:(Tryz.prog.info? 4).map (fun i=>(i.zero,i.size,i.bytes))=some (some (.bool false),1,1):=by kernel_rfl
def DJ (w:World) (st:List Nd) (A:Option Addr) (c:Nat) (e:Ending) (w':World):Prop:=
 ∃g gm B lv,e= .returned (.pointer (some ⟨g,0,none⟩))∧MK w w' B g gm st A c lv true 0 (ce st (be st true false (ag [] 0))) (be st true false (ag [] 0)) (be st true false (ag [] 0))
theorem vy (m:Nat):(madeCells #[Value.bool false] m).toList=vv m []:=by
 unfold madeCells vv;rw[Array.toList_map,Array.toList_range];apply List.map_congr_left;intro k _;have e:k% #[Value.bool false].size=0:=Nat.mod_one k;rw[e];simp
theorem vk {w:World} {B:Nat} {e:TypeId} {g n:Nat} {xs:List Value} (h:Own w B e 1 (.slice (some ⟨g,0,none⟩) n n) n xs):w.heap[g]? =some (.cells xs.toArray e (0,0)):=by
 rcases h with⟨h1,⟨h2,_⟩|⟨b,cap,cur,h2,c,a,hn,hm,hs,hx⟩⟩
 ·cases h2
 ·injection h2 with e1 _ e3
  injection e1 with e1
  injection e1 with e1
  subst e1;subst e3;rw[a];have:cur.toList=xs:=by rw[←hx,List.take_of_length_le (by simp;omega)]
  rw[←this]
theorem Cy (A:Option Addr) (c:Nat) (st:List Nd) (w:World) (j:Rs w A (cI st)) (hv:bt st=true):
  Calls Tryz.prog 194 #[.slice A st.length c] w (DJ w st A c):=by
 have l:=aJ j
 have m:=aJ hv
 obtain⟨h1,h2,_⟩:=a7 hv;clear j hv;go_enter Tryz.func194,Tryz.ntmps194;go_upto_region 1 with fail
 go_wp2_with (at_make;refine dj rfl _ _ 124 rfl 4 (.bool false) 1 1 Tryz.underlying124 vP (by decide) .i64 .i64 _ _ st.length rfl rfl ?pl1 ?pc1 ?pn1 ?_)
 case pl1=>omega
 case pc1=>omega
 case pn1=>omega
 intro a f b;rw[vy] at f;have d:=vk f;have h:=b.size;have n:=aQ d;have g:Hid (MK w (a.alloc (.cells #[.slice A st.length c,.slice (some ⟨w.heap.size,0,none⟩) st.length st.length,.slice none 0 0,.bool true,.int .i64 0,.bool false] 308)) (a.heap.size+1) a.heap.size w.heap.size st A c (.slice none 0 0) true 0 (ce st []) [] []):=aJ
  ⟨b.alloc _,l.out,aM a _,((Old.refl a).alloc _).block d,Own.nil_ _ _ _ _,h,bM _,Nat.lt_succ_self _,by omega,by omega,by simp⟩
 clear d f b;go_upto_region 2 with fail
 generalize a.alloc (.cells #[.slice A st.length c,.slice (some ⟨w.heap.size,0,none⟩) st.length st.length,.slice none 0 0,.bool true,.int .i64 0,.bool false] 308)=W at *;have i:=aJ (r8 w (a.heap.size+1) a.heap.size w.heap.size st A c (.slice none 0 0) true 0 [] W g.out m.out (Spots.nil _));clear g;go_wp2_with fail;refine(i.out).mono ?_;rintro e w2 ⟨rfl,_,hm,hk⟩;have k:=aJ hm;clear hm hk i;go_wp2_with fail;go_ret;exact⟨_,_,_,_,rfl,k.out⟩
structure ChR (w:World) (A:Option Addr) (cs:List (List Nat)) (ad:Nat→Option Addr) (cp:Nat→Nat):Prop where
 outer:Rs w A ((List.range cs.length).map fun j=> .slice (ad j) (cs.getD j []).length (cp j))
 rows:∀j,j<cs.length→Rs w (ad j) (cZ (cs.getD j []))
theorem ChR.up {w w':World} {A:Option Addr} {cs:List (List Nat)} {ad:Nat→Option Addr} {cp:Nat→Nat} (h:ChR w A cs ad cp) (a:Old w w'):ChR w' A cs ad cp:=⟨h.outer.up a,fun j hj=>(h.rows j hj).up a⟩
def pU (w:World) (s:ByteArray) (cs:List (List Nat)) (e:Ending) (w':World):Prop:=
 (∀n c,bz (bs s)=(n,c)→e= .returned (.tuple #[.int .i64 (if c=0 then(jv (dh (bw n) cs.flatten) cs).1 else 0),.int .i64 (if c=0 then(jv (dh (bw n) cs.flatten) cs).2 else 0),.int .i64 c]))∧Old w w'
def sJ (w2:World) (B g gm:Nat) (st:List Nd) (A:Option Addr) (c:Nat) (t:List Nat) (R:Int) (i:Nat) (wr:World):Prop:=
 ∃lv L,Hid (MK w2 wr B g gm st A c lv (bi t i) i false L L)∧Hid (ce st L=false)∧Hid (Spots st.length L)∧Hid (it st t (t.length-i) i L=R)
def DH (w2:World) (B g gm:Nat) (st:List Nd) (A:Option Addr) (c:Nat) (cs:List (List Nat)) (R:Int) (v:Value) (wr:World):Prop:=
 ∃j:Nat,v= .int .i64 j∧j≤cs.length∧sJ w2 B g gm st A c cs.flatten R (cL cs j) wr
def DS (w2:World) (B g gm:Nat) (st:List Nd) (A:Option Addr) (c:Nat) (cs:List (List Nat)) (R:Int) (j:Nat) (chk:List Nat) (v:Value) (wr:World):Prop:=
 ∃k:Nat,v= .int .i64 k∧k≤chk.length∧sJ w2 B g gm st A c cs.flatten R (cL cs j+k) wr
theorem vb {α:Type} {n i:Nat} (F:Nat→α) (h:i<n):((List.range n).map F)[i]? =some (F i):=by simp[h]
theorem rM {R:Int} {i j:Nat} {cs:List (List Nat)} (a:R=(i:Int)+1) (b:gy cs i=j):jv R cs=((j:Int),(i:Int)+1):=by
 subst a;unfold jv;rw[if_neg (by omega),if_neg (by omega),show((i:Int)+1-1).toNat=i by omega,b]
theorem Bn (s:ByteArray) (Ac:Option Addr) (cc:Nat) (cs:List (List Nat)) (ad:Nat→Option Addr) (cp:Nat→Nat) (w:World) (hc:ChR w Ac cs ad cp) (hb:∀x∈cs.flatten,x<256) (hl:cs.flatten.length<1000000000) (S:cs.length<1000000000) (aI:NoB s) (U:(bz (bs s)).2=0):
  Calls Tryz.prog 141 #[.string s,.slice Ac cs.length cc] w (pU w s cs):=by
 have HC:=aJ hc
 have HB:=aJ hb
 have HL:=aJ hl
 have aG:=aJ S
 have HP:=aJ (nG (6*(bs s).length+6) s (bz (bs s)) w (fq _) aI U)
 have q:=fun n (h:bz (bs s)=(n,0))=>vj (l:=n) (h▸fq (bs s))
 have D:=oZ (B:=bs s) (fun x hx=>by unfold bs at hx;obtain⟨y,_,rfl⟩:=List.mem_map.mp hx;exact y.toNat_lt)
 obtain⟨⟨n,c⟩,hr⟩:∃r,bz (bs s)=r:=⟨_,rfl⟩
 have ah:=aJ hr
 rw[hr] at HP q D U;obtain rfl:c=0:=U;have am:=aJ (q n);have N:=aJ D;clear hc hb hl S q D hr;go_enter Tryz.func141,Tryz.ntmps141;go_wp2_with fail;refine(HP.out).mono ?_;rintro e w1 ⟨v1,rfl,aw,ar⟩;obtain⟨A1,c1,rfl,az,_,_⟩:=aw.shape;have ae:=aJ az.rs;have aa:=aJ ar;clear aw az ar HP;obtain⟨q,av,_⟩:=am.out (by first|rfl|trivial)
 have hv:=Tr.valid q av
 have Z:=aJ (qG A1 c1 n w1 ae.out (by unfold maxLen;omega) N.out)
 obtain⟨_,W,_,_,_⟩:=io hv;have M:Hid (fR (bw n) cs.flatten (cs.flatten.length+1) 0 []=dh (bw n) cs.flatten):=aJ (by unfold dh;rw[if_pos W])
 have i:=aJ W
 have an:=aJ hv
 clear q av hv W am N ae;go_wp2_with fail;refine(Z.out).mono ?_;rintro e w2 ⟨q1,_,au⟩;obtain⟨v2,rfl,ax⟩:=q1 an.out;clear q1 Z;generalize ay:bw n=st at *;have J:=aJ ay;clear ay;obtain⟨A2,c2,rfl,aA,_,_⟩:=ax.shape;have af:=aJ (Cy A2 c2 st w2 aA.rs i.out);have m:=aJ (aa.out.up au);clear ax aA au aa;go_wp2_with fail;refine(af.out).mono ?_;rintro e w3 ⟨g,gm,B,lv,rfl,hm⟩;have HM:=aJ hm;clear hm af;have o:=M.out;rw[r6] at o;have H:Hid (it st cs.flatten cs.flatten.length 0 (be st true false (ag [] 0))=dh st cs.flatten):=aJ o;have f:Hid (∀w' (a b:Int),Old w w'→jv (dh st cs.flatten) cs=(a,b)→pU w s cs (.returned (.tuple #[.int .i64 a,.int .i64 b,.int .i64 0])) w'):=aJ (fun w' a b ho aK=>⟨fun n' c' h=>by
  rw[ah.out] at h;injection h with h1 h2
  subst h1;subst h2;rw[if_pos rfl,if_pos rfl,J.out,aK],ho⟩)
 have al:Hid (Spots st.length (be st true false (ag [] 0))):=aJ (Spots.nspreadF i.out _ _ _ ((Spots.nil _).enter (by have:=(a7 i.out).1;omega)))
 clear o M ah an;generalize dh st cs.flatten=R at *;generalize be st true false (ag [] 0)=L0 at *;obtain⟨_,_,_,_,_,y5⟩:=HM.out.cells;cases Q:ce st L0 with
 |true=>
  rw[Q] at y5;have o:R=0:=by have:=H.out;unfold it at this;rw[if_pos Q] at this;simpa using this.symm
  subst o;have P:=aJ (f.out w3 (-1) 0 (m.out.up HM.out.old) rfl);clear Q f H;go_wp2_with fail;refine aP (v:= .tuple #[.int .i64 (-1),.int .i64 0,.int .i64 0]) (by simp[results,Tryz.results141,go_sem]) rfl ?_
  exact P.out
 |false=>
  rw[Q] at y5;have J:Hid (DH w2 B g gm st A2 c2 cs R (.int .i64 0) w3):=aJ ⟨0,rfl,bO _,lv,L0,aJ (by have:=HM.out;rw[Q] at this;exact this),aJ Q,al,aJ (by rw[show cL cs 0=0 from rfl];exact H.out)⟩
  clear Q HM al H;go_wp2_with fail;go_loopw [39] (fun X wr=>DH w2 B g gm st A2 c2 cs R X wr) (fun X _=>cs.length-(intOf X).toNat)
  case atStart=>exact J.out
  case round=>
   clear J;obtain⟨j,rfl,hj,aL,Lj,u,E,ak,K⟩:=hrel;have S:=aG.out
   by_cases A:j<cs.length
   ·have i1:(j:Int)<(cs.length:Int):=by omega
    have i0:(0:Int)≤(j:Int):=by omega
    obtain⟨bA,oA,rfl,_,ao⟩:=(HC.out.up (m.out.up u.out.old)).outer.at_ (by simp;omega)
    have cA:=ao j _ (vb _ A)
    clear ao;have aH:=aJ (fun w' (h:Old w w')=>(HC.out.up h).rows j A)
    have aF:=aJ (fun k (hk:k<(cs.getD j []).length)=>pK cs j k A hk)
    have aE:=aJ (qZ cs j A)
    generalize ad j=aj at *;generalize cs.getD j []=chk at *;go_wp2_with fail;go_loopw [46] (fun Y wr=>DS w2 B g gm st A2 c2 cs R j chk Y wr) (fun Y _=>chk.length-(intOf Y).toNat)
    case atStart=>exact⟨0,rfl,bO _,aL,Lj,u,E,ak,K⟩
    case round=>
     clear u E ak K cA;obtain⟨k,rfl,hk,aC,Lk,z,t,I,L⟩:=hrel;have aN:=HL.out
     by_cases C:k<chk.length
     ·have k1:(k:Int)<(chk.length:Int):=by omega
      have k0:(0:Int)≤(k:Int):=by omega
      obtain⟨_,_,rfl,_,ap⟩:=(aH.out wr (m.out.up z.out.old)).at_ (by rw[gC];omega)
      have cK:=ap k _ (iB _ k C)
      obtain⟨h1,h2,h3⟩:=aF.out k C;have ac:=aJ h2;have T:=z.out;rw[←t.out] at T;have aq:chk.getD k 0<256:=by
       rw[←h1];refine HB.out _ ?_;rw[bD,bE h3];exact bH h3
      have hF:=Bo w2 B g gm st A2 c2 aC (bi cs.flatten (cL cs j+k)) (cL cs j+k) Lk wr T i.out I.out (by omega) (chk.getD k 0) aq
      have hU:=L.out
      rw[show cs.flatten.length-(cL cs j+k)=(cs.flatten.length-(cL cs j+(k+1)))+1 by omega] at hU
      obtain⟨g1,g2⟩:=uc t.out h3 hU;rw[h1] at g1 g2;have F:=aJ g1;have G:=aJ g2;have ab:=aJ hF;have aD:Hid (bi cs.flatten (cL cs j+(k+1))=(chk.getD k 0==10)):=aJ (by rw[←Nat.add_assoc,iN,h1])
      have ai:=aJ (I.out.mL1 i.out (bol:=bi cs.flatten (cL cs j+k)) (ch:=chk.getD k 0))
      have aO:=HL.out
      clear T aq hF hU g1 g2 h1 h2 ap L t z;generalize chk.getD k 0=ch at *;go_wp2_with fail;refine(ab.out).mono ?_;rintro e w4 ⟨rfl,f1,f2⟩;clear ab cK;cases V:ce st (mL1 st (bi cs.flatten (cL cs j+k)) ch Lk) with
      |true=>
       obtain⟨aB,d,_⟩:=f1 V;have o:R=((cL cs j+k:Nat):Int)+1:=F.out V;have O:=aJ (m.out.up d.old);obtain⟨_,_,_,_,_,z5⟩:=d.cells;clear V f1 f2 d F G;have P:=aJ (fun w' (h:Old w w')=>f.out w' (j:Int) (((cL cs j+k:Nat):Int)+1) h (rM o ac.out))
       clear f o;go_upto_region 18 with fail
       go_quiet (fail)
       go_wp2_with fail;refine aP (v:= .tuple #[.int .i64 (j:Int),.int .i64 (((cL cs j+k:Nat):Int)+1),.int .i64 0]) (by simp[results,Tryz.results141,go_sem]) rfl ?_
       exact P.out _ (O.out.drewN _)
      |false=>
       obtain⟨aB,d,_⟩:=f2 V;obtain⟨gU,gR⟩:=G.out V;cases p:ce st (yE st (bi cs.flatten (cL cs j+k)) ch Lk) with
       |true=>
        have o:R=((cL cs j+k:Nat):Int)+1:=gR p
        rw[p] at d;have O:=aJ (m.out.up d.old);obtain⟨_,_,_,_,_,z5⟩:=d.cells;clear V p f1 f2 d F G gU gR;have P:=aJ (fun w' (h:Old w w')=>f.out w' (j:Int) (((cL cs j+k:Nat):Int)+1) h (rM o ac.out))
        clear f o;go_upto_region 18 with fail
        go_quiet (fail)
        go_wp2_with fail;refine aP (v:= .tuple #[.int .i64 (j:Int),.int .i64 (((cL cs j+k:Nat):Int)+1),.int .i64 0]) (by simp[results,Tryz.results141,go_sem]) rfl ?_
        exact P.out _ (O.out.drewN _)
       |false=>
        rw[p] at d;obtain⟨_,_,_,_,_,z5⟩:=d.cells;have HW:Hid (DS w2 B g gm st A2 c2 cs R j chk (.int .i64 ((k+1:Nat):Int)) w4):=aJ ⟨k+1,rfl,C,aB,_,aJ (by rw[aD.out];exact d),aJ p,aJ (Spots.nspreadF i.out _ _ _ ((Spots.nstep i.out _ ai.out).enter (by have:=(a7 i.out).1;omega))),aJ gU⟩
        clear V p f1 f2 d F G gU gR ai;go_wp2_with fail;go_roundw
        case rel=>exact HW.out
        case measure=>simp[intOf];omega
     ·have HW:Hid (DH w2 B g gm st A2 c2 cs R (.int .i64 ((j+1:Nat):Int)) wr):=aJ ⟨j+1,rfl,A,aC,Lk,by rw[aE.out,show chk.length=k by omega];exact⟨z,t,I,L⟩⟩
      have aM:¬(k:Int)<(chk.length:Int):=by omega
      clear z t I L;go_wp2_with fail;go_roundw
      case rel=>exact HW.out
      case measure=>simp[intOf];omega
   ·obtain rfl:j=cs.length:=by omega
    have o:R= -1:=by
     have h5:=K.out
     rw[uk] at h5;exact wA E.out h5
    subst o;have P:=aJ (f.out wr (cs.length:Int) (-1) (m.out.up u.out.old) rfl);clear f K E u;go_wp2_with fail;refine aP (v:= .tuple #[.int .i64 (cs.length:Int),.int .i64 (-1),.int .i64 0]) (by simp[results,Tryz.results141,go_sem]) rfl ?_
    exact P.out
end Go.Proofs.YtfchjdnpbgpfpaaGreatDoor
namespace Go.Proofs.YtfchjdnpbgpfpaaGreatDoor
open Go.RowKit Go.Maps Go.WideMaps
set_option linter.unusedVariables false
theorem str_keyed:Keyed Tryz.prog 9:=string_keyed Tryz.underlying9
def uv (s:ByteArray):Lit:= .string s.data.toList
theorem fS (s:ByteArray) (h:s.size≤maxLen):keyOf Tryz.prog 9 (.string s)=some (uv s):=keyOf_string_mk Tryz.underlying9 h
theorem sd {a b:ByteArray} (h:uv a=uv b):a=b:=by
 unfold uv at h;injection h with h
 obtain⟨⟨a⟩⟩:=a;obtain⟨⟨b⟩⟩:=b;simp only at h;rw[h]
def IMap (w:World) (b n:Nat) (f:ByteArray→Option Nat):Prop:=
 ∃D:DataW Unit,w.ownsMap Tryz.prog 9 (plainElem Tryz.prog 3) b n D∧∀s:ByteArray,s.size≤maxLen→Maps.has D (uv s)=(f s).isSome∧∀i:Nat,f s=some i→D.atKey (uv s) (.lit (.int .i64 0))= .lit (.int .i64 i)
theorem IMap.kept {w w':World} {b n:Nat} {f:ByteArray→Option Nat} {row:Option Nat} (h:IMap w b n f) (a:w.grownBy w' row) (hne:some b≠row):IMap w' b n f:=by
 obtain⟨D,h1,h2⟩:=h;exact⟨D,h1.kept a hne,h2⟩
theorem IMap.up {w w':World} {b n:Nat} {f:ByteArray→Option Nat} (h:IMap w b n f) (a:Old w w'):IMap w' b n f:=
 h.kept (row:=none) ⟨a.out.os,a.out.tape,a.out.output,a.out.size,fun k hk _=>a.out.block k hk⟩ (by simp)
theorem IMap.farG {w w':World} {b n:Nat} {f:ByteArray→Option Nat} {k:Nat} {cs:Array Value} {t:TypeId} {z:Nat×Nat} (h:IMap w b n f) (hk:w.heap[k]? =some (.cells cs t z)) (c:w.grownBy w' (some k)):IMap w' b n f:=by
 refine h.kept c (fun e=>?_)
 injection e with e
 obtain⟨D,⟨es,_,a,_⟩,_⟩:=h;rw[e,hk] at a;exact absurd (bQ a) (by simp)
theorem IMap.made (w:World):IMap (w.alloc (.map #[] 0)) w.heap.size 0 (fun _=>none):=⟨.map [],World.ownsMap_made w _ _ _,fun s _=>⟨rfl,fun i h=>by cases h⟩⟩
theorem IMap.same {w:World} {b n:Nat} {f a:ByteArray→Option Nat} (h:IMap w b n f) (c:∀s,a s=f s):IMap w b n a:=by
 obtain⟨D,h1,h2⟩:=h;exact⟨D,h1,fun s hs=>by rw[c s];exact h2 s hs⟩
theorem ox (w:World):(zeroValue 3).run Tryz.prog w= .ok (.int .i64 0) w:=by kernel_rfl
theorem IMap.look_ok {w:World} {b n:Nat} {f:ByteArray→Option Nat} (h:IMap w b n f) {s:ByteArray} (hs:s.size≤maxLen):
  ∃c:Int,(Instr.lookup 74 (.map (some b)) (.string s) true).run Tryz.prog w= .ok (.tuple #[.int .i64 c,.bool (f s).isSome]) w∧∀i:Nat,f s=some i→c=(i:Int):=by
 obtain⟨D,h1,h2⟩:=h;obtain⟨v,ps,a,hv⟩:=h1.look_ok str_keyed Tryz.underlying74 (ox w) (plainElem_int Tryz.underlying3 (by decide)) (fS s hs)
 obtain⟨c,rfl,hc,_⟩:=plainElem_int_inv Tryz.underlying3 hv;rw[(h2 s hs).1] at a;refine⟨c,a,fun i e=>?_⟩
 have d:=(h2 s hs).2 i e
 simp only[Prod.mk.injEq] at hc;rw[d] at hc;have:=hc.1;simp at this;omega
theorem IMap.put {w:World} {b n:Nat} {f:ByteArray→Option Nat} (h:IMap w b n f) (hn:n<1000000) {s:ByteArray} (hs:s.size≤maxLen) (i:Nat) (m:i<1000000):
  ∃w',(Instr.mapUpdate 74 (.map (some b)) (.string s) (.int .i64 i)).run Tryz.prog w= .ok () w'∧IMap w' b (n+1) (fun x=>if x=s then some i else f x)∧w.grownBy w' (some b):=by
 obtain⟨D,h1,h2⟩:=h;have l:(Lit.int .i64 (i:Int)).wf=true:=WalkArith.wf_i64 (by omega)
 obtain⟨w',c,j,k⟩:=h1.update str_keyed Tryz.underlying74 (by unfold maxLen;omega) (fS s hs) (plainElem_int Tryz.underlying3 l)
 refine⟨w',c,⟨_,j,fun q d=>?_⟩,k⟩
 by_cases e:q=s
 ·subst e;have hk:=str_keyed.key (fS q hs);rw[has_put_same h1.isMap hk];simp only[ite_true];refine⟨rfl,fun g a=>?_⟩
  simp at a
  subst a;exact atKey_put_same h1.isMap hk _ _
 ·have hne:uv q≠uv s:=fun h=>e (sd h)
  rw[has_put_other hne];simp only[if_neg e];rw[(h2 q d).1];refine⟨rfl,fun g a=>?_⟩
  rw[atKey_put_other hne];exact(h2 q d).2 g a
theorem nL (w:World) (s:ByteArray) (hs:s.size≤maxLen):(Instr.lookup 74 (.map none) (.string s) true).run Tryz.prog w= .ok (.tuple #[.int .i64 0,.bool false]) w:=by
 have h:=Maps.look_nil true str_keyed Tryz.underlying74 (ox w) (fS s hs)
 simpa using h
end Go.Proofs.YtfchjdnpbgpfpaaGreatDoor
