/- Part 3: walks and plain laws. -/
import Derived.Test.YtflccikncbhpdaaGreatDoorZy2
import Derived.Deep.RegionWith
import Derived.Deep.LoopGhost
import Derived.ScopeJumps
import Derived.WalkMore
import Derived.Lib.ParseIntB
import Derived.Lib.ConvBytes
import Derived.Lib.SlicesS
set_option maxHeartbeats 16000000
set_option maxRecDepth 100000
open Go.Lib renaming hid → aJ
open Go renaming cell_of_row → aK, heap_setCell_other → aL, heap_alloc_new → aM, frozen_of_row → aN, heap_setCell_same → aO, bodyPost_ret → aP, lt_of_block → aQ, undef → aR, World → TQ, Value → TR, Calls → TS, Addr → TT, Ending → TU, TypeId → TV, setRow_other → TW
open List renaming getD_eq_getElem?_getD → bD, getElem?_eq_getElem → bE, length_append → bF, length_singleton → bG, getElem_mem → bH, getElem?_eq_none → bI, getElem?_append_left → bJ, length_set → bK, length_map → bL, append_assoc → SH, mem_cons → SI, mem_append → SN, not_mem_nil → SP, length_cons → SQ, length → SW, mem_singleton → SX, flatMap_cons → S0, take_length → S2, range → S3, take_succ_eq_append_getElem → S4, mem_map → S5, length_take → S6, map_append → S8, map_cons → S9, cons_append → S_, mem_iff_getElem → Tb, replicate → Tc, getElem?_append_right → Td, drop_eq_nil_of_le → Te, mem_of_mem_take → Tg, flatMap → Th, take_zero → Tl, drop_zero → Tm, all_eq_true → Tp, eq_nil_of_length_eq_zero → Tq, length_replicate → Tr, getElem?_eq_some_iff → Tt, length_nil → Tv, length_drop → Tw, ext_getElem → Ty, nodup_append → TF, take_of_length_le → TG, mem_flatMap → TH, take_sublist → TI, map_nil → TJ, nil_append → TK, takeWhile_sublist → TM, prefix_iff_eq_take → TO, takeWhile_prefix → TP
open Nat renaming le_refl → bM, le_trans → bN, zero_le → bO, add_zero → SU, add_assoc → SV, lt_or_ge → Tf, mul_succ → Tu, le_succ → Tz, ne_of_lt → TA, mul_comm → TC, mul_assoc → TD, eq_zero_or_pos → TE, sub_zero → TN
open Option.some renaming inj → bQ
open Go.World.ownsRow renaming kept → bT, lt → bU
open Go.IntWalk renaming i64_in → bV
open Exists renaming intro → bW
open Or renaming inl → bX, inr → bY
variable {w w0 w' wB W:Go.World} {k g c a i B a' m k3 k6 m1 m2:Nat} {A:Option Go.Addr} {s nm:ByteArray} {v sv v' lv:Go.Value} {e:Go.TypeId} {xs:List Go.Value} {l y:List Nat} {x:Int} {ns:List (List Nat)} {os:List ByteArray} {cs:Array Go.Value} {α:Type} {fz:Nat×Nat}
open Go.Value renaming int → Z, slice → U, string → Q, pointer → M, bool → K, tuple → SD, agg → SF, string → SM, slice → SO, ownBlock → S7, int → Ti
open Go.IntKind renaming i64 → Y, u64 → E, i64 → SL, u8 → Tx, u64 → TL
open Option renaming none → V, some → X
open Bool renaming false → O, true → G, and_eq_true → To
open Go.Obj renaming cells → H
open Go.Ending renaming returned → SA, returned → SZ
open Ne renaming symm → SS
open Int renaming eq_ofNat_of_zero_le → SY, natCast_add → TB
open UInt8 renaming ofNat → S1
open Go.World renaming size_alloc → Ta, cell?_of_block → Tj
open Go.Proofs.Tryz renaming prog → TX
open Go.Proofs.Tryz
namespace Go.Proofs.YtflccikncbhpdaaGreatDoor
open Go.RowKit Go.Shelf
set_option linter.unusedVariables false
def DR(st:List Nd)(al:List (Sp×Og))(L:List Sp):Prop:=∀p∈L,∀q,SE st p q->(lk al q).isSome=G
def vn(w:TQ)(w0:TQ)(B g b:Nat)(st:List Nd)(A:Option TT)(c d:Nat)(n0:Nat)(e:TU)(w':TQ):Prop:=
 ∃lv' al L,e=SA lv'/\SK w0 w' B g b st A c al/\IL w' B 188 3 lv' L.length (fw L)/\KB st d al L/\DR st al L/\L≠[]/\n0<=al.length
def LH(w0:TQ)(B g b k2 k3:Nat)(st:List Nd)(A:Option TT)(c d n0:Nat)(v:TR)(wr:TQ):Prop:=
 ∃(i:Nat) (al:List (Sp×Og)) (L:List Sp) (lv:TR),v=Z Y i/\i<=L.length/\Hid (SK w0 wr B g b st A c al)/\Hid (IL wr B 188 3 lv L.length (fw L))/\
  Hid (wr.heap[k2]? =X (H #[M (X ⟨g,0,V⟩)] 181 (0,0)))/\Hid (wr.heap[k3]? =X (H #[lv] 185 (0,0)))/\
  Hid (KB st d al L)/\Hid (∀j,j<i->∀q,SE st (L.getD j iE) q->(lk al q).isSome=G)/\Hid (1<=L.length/\n0<=al.length)
theorem iG(al:List (Sp×Og))(L:List Sp)(q:Sp)(o:Og):al.length<=(bz al L q o).1.length:=by grind [bz]
theorem zV{L L' e:List Sp}(h:L'=L++e){j:Nat}(hj:j<L.length):L'.getD j iE=L.getD j iE:=by grind
theorem pF{st:List Nd}{p:Sp}(h1:(nd st p.s).IF≠2)(h2:(nd st p.s).IF=3->p.b=O)(c:(nd st p.s).IF≠4)(q:Sp):¬SE st p q:=by
 rintro(⟨a,_⟩|⟨a,b,_⟩|⟨a,_⟩)
 ·exact h1 a
 ·rw[h2 a] at b;cases b
 exact c a
theorem LH.next{b k2 d n0:Nat}{st:List Nd}{al a:List (Sp×Og)}{L L':List Sp}(hs:SK w0 w' B g b st A c a)(t:IL w' B 188 3 lv L'.length (fw L'))
  (h2:w'.heap[k2]? =X (H #[M (X ⟨g,0,V⟩)] 181 (0,0))) (p:w'.heap[k3]? =X (H #[lv] 185 (0,0))) (hd:KB st d a L') (hx:MQ al a) (f:∃e,L'=L++e) (r:i<L.length)
  (l:∀j,j<i->∀q,SE st (L.getD j iE) q->(lk al q).isSome=G) (k:∀q,SE st (L.getD i iE) q->(lk a q).isSome=G) (m:1<=L.length/\n0<=al.length) (h:al.length<=a.length):
  LH w0 B g b k2 k3 st A c d n0 (Z Y ((i+1:Nat):Int)) w':=by
 obtain⟨o,f⟩:=f;have s:L'.length=L.length+o.length:=by grind
 refine⟨i+1,a,L',lv,rfl,by omega,aJ hs,aJ t,aJ h2,aJ p,aJ hd,aJ (fun j hj q n=>?_),aJ ⟨by omega,bN m.2 h⟩⟩
 rw[zV f (by omega)] at n
 by_cases e:j=i
 ·subst e;exact k q n
 exact hx.some (l j (by omega) q n)
theorem fC{b:Nat}{lv':TR}{o:Obj}(h:I3 w w' b k3 lv lv')(hk:w.heap[k]? =X o)(h1:k≠b)(h2:k≠k3)(a:X k≠lv.ownBlock):w'.heap[k]? =X o:=(h.block hk h1 h2 a).1
theorem yt{st:List Nd}{p:Sp}{y:Nd}(hy:nd st p.s=y)(hk:y.IF=2)(q:Sp):SE st p q↔(q=⟨y.left.toNat,p.b,p.e⟩\/q=⟨y.right.toNat,p.b,p.e⟩):=by
 subst hy;constructor
 ·rintro(⟨_,h⟩|⟨a,_⟩|⟨a,_⟩)
  ·exact h
  ·omega
  omega
 intro h;exact bX ⟨hk,h⟩
theorem Ez{st:List Nd}{p:Sp}{y:Nd}(hy:nd st p.s=y)(hk:y.IF=3)(c:p.b=G)(q:Sp):SE st p q↔q=⟨y.left.toNat,p.b,p.e⟩:=by
 subst hy;constructor
 ·rintro(⟨a,_⟩|⟨_,_,h⟩|⟨a,_⟩)
  ·omega
  ·exact h
  omega
 intro h;exact bY (bX ⟨hk,c,h⟩)
theorem Ey{st:List Nd}{p:Sp}{y:Nd}(hy:nd st p.s=y)(hk:y.IF=4)(q:Sp):SE st p q↔q=⟨y.left.toNat,p.b,G⟩:=by
 subst hy;constructor
 ·rintro(⟨a,_⟩|⟨a,_⟩|⟨_,h⟩)
  ·omega
  ·omega
  exact h
 intro h;exact bY (bY ⟨hk,h⟩)
theorem yk(w0:TQ)(B g b:Nat)(st:List Nd)(A:Option TT)(c d:Nat)(lv:TR)(al:List (Sp×Og))(L:List Sp)(w:TQ)(h:SK w0 w B g b st A c al)(hl:IL w B 188 3 lv L.length (fw L))(hv:bw st=G)(hh:KB st d al L)(h1:1<=L.length):
  TS TX 85 #[M (X ⟨g,0,V⟩),lv] w (vn w w0 B g b st A c d al.length):=by
 have HV:=aJ hv
 have bg:=aJ (bi hv).2.1
 obtain⟨Al,cl,rfl,_,_,_⟩:=hl.shape;have bm:=aM w (H #[M (X ⟨g,0,V⟩)] 181);have aW:=aM (w.alloc (H #[M (X ⟨g,0,V⟩)] 181)) (H #[U Al L.length cl] 185);have ab:=(ID.refl w).alloc (H #[M (X ⟨g,0,V⟩)] 181);have ax:=ab.alloc (H #[U Al L.length cl] 185);have aV:=((ID.refl (w.alloc (H #[M (X ⟨g,0,V⟩)] 181))).alloc (H #[U Al L.length cl] 185)).block bm;rw[Hg] at aW;have HI:Hid (LH w0 B g b w.heap.size (w.heap.size+1) st A c d al.length (Z Y 0) ((w.alloc (H #[M (X ⟨g,0,V⟩)] 181)).alloc (H #[U Al L.length cl] 185))):=
  aJ ⟨0,al,L,_,rfl,bO _,aJ (h.up ax),aJ (hl.up ax),aJ aV,aJ aW,aJ hh,aJ (fun j hj=>by omega),aJ ⟨h1,bM _⟩⟩
 have aw:Hid (w0.heap.size<=w.heap.size+1):=aJ (by have:=h.I5.size;omega)
 have N:Hid (w.heap.size≠b/\w.heap.size≠w.heap.size+1):=aJ ⟨by have:=h.lb;have:=h.lB;omega,by omega⟩
 go_enter func85,ntmps85
 go_upto_region 1 with fail
 generalize (w.alloc (H #[M (X ⟨g,0,V⟩)] 181)).alloc (H #[U Al L.length cl] 185)=w1 at *;generalize bB:w.heap.size+1=k3 at *;generalize w.heap.size=k2 at *;have bd:Hid (∀lv' aj L' w',SK w0 w' B g b st A c aj->IL w' B 188 3 lv' L'.length (fw L')->KB st d aj L'->DR st aj L'->L'≠[]->al.length<=aj.length->vn w w0 B g b st A c d al.length (SA lv') w'):=
  aJ (fun lv' aj L' w' a1 a2 a3 a4 a5 a6=>⟨lv',aj,L',rfl,a1,a2,a3,a4,a5,a6⟩)
 generalize al.length=n0 at *;go_wp2;go_loopw [5] (fun s5 wr=>LH w0 B g b k2 k3 st A c d n0 s5 wr) (fun s5 _=>4*st.length-(intOf s5).toNat)
 case atStart=>exact HI
 obtain⟨i,al,L,lv,rfl,_,HS,HO,H2,H3,o,T,P⟩:=hrel;obtain⟨Al,cl,rfl,_,_,_⟩:=HO.shape;have bA:=o.JO.JA;have bG:=o.JO.k5;have hsz:=bg.out;have a3:=cr_ H3.out 0 (U Al L.length cl)
 by_cases D:i<L.length
 ·have i1:(i:Int)<(L.length:Int):=by omega
  have i0:(0:Int)<=(i:Int):=by omega
  obtain⟨ga,_,bx,_,_,_,_⟩:=HO.out.form (by omega)
  injection bx with hA _ hc
  subst hA;subst hc;have q0:=(HO.cellAt ((da L i D 0 (by omega)).trans rfl)).1
  have q1:=(HO.cellAt ((da L i D 1 (by omega)).trans rfl)).1
  have q2:=(HO.cellAt ((da L i D 2 (by omega)).trans rfl)).1
  rw[SU] at q0;have aC:L.getD i iE∈L:=gm_ D;obtain⟨p,a8⟩:∃p,L.getD i iE=p:=⟨_,rfl⟩
  rw[a8] at q0 q1 q2 aC;have ag:=aJ a8;have aD:p.s<st.length:=by
   obtain⟨t,n,_,bv,_⟩:=o.JO.k3 p ((o.JO.k1 p).2 (bY aC));exact SR.lt HV bv
  have av:=aJ aC
  obtain⟨ps,pb,f⟩:=p;simp only at q0 q1 q2 aD;have bn:=aM wr (H #[Z Y (ps:Int),K pb,K f] 188);have ay:=(ID.refl wr).alloc (H #[Z Y (ps:Int),K pb,K f] 188);have aB:Hid (wr.heap.size≠b/\wr.heap.size≠k3/\X wr.heap.size≠(SO (X ⟨ga,0,V⟩) L.length cl).ownBlock):=aJ ⟨by have:=HS.out.lb;have:=HS.out.lB;omega,by have:=aQ H3;omega,fun e=>by have:=(bU HO _ e.symm).2;omega⟩
  go_upto_region 5 with fail
  generalize wr.alloc (H #[Z Y (ps:Int),K pb,K f] 188)=W6 at *;have ah:=aJ (HS.up ay);have bc:=aJ (HO.up ay);have aF:=aJ (ay.block H2);have aG:=aJ (ay.block H3);have aH:=aJ bn;generalize wr.heap.size=k6 at *;have a7:=(bi HV).2.2 ps aD;have hx:st[ps]? =X (nd st ps):=by unfold nd;rw[bD,bE aD];rfl
  obtain⟨bs,off,rfl,_,aa⟩:=(ah.JR.up ah.I5).at_ (by rw[aX];omega)
  have hg:=cf st ps _ hx
  have c0:=aa _ _ (hg 0 (by omega))
  have c1:=aa _ _ (hg 1 (by omega))
  have c2:=aa _ _ (hg 2 (by omega))
  have c3:=aa _ _ (hg 3 (by omega))
  have c4:=aa _ _ (hg 4 (by omega))
  have c5:=aa _ _ (hg 5 (by omega))
  have c6:=aa _ _ (hg 6 (by omega))
  rw[<-SV] at c0 c1 c2 c3 c4 c5 c6;rw[SU] at c0;have s1:(0:Int)<=(ps:Int):=by omega
  have s2:(ps:Int)<(st.length:Int):=by omega
  obtain⟨y,hy⟩:∃y,nd st ps=y:=⟨_,rfl⟩
  rw[hy] at a7 c0 c1 c2 c3 c4 c5 c6;have HY:=aJ hy;obtain⟨kd,lf,rt,F⟩:=y
  replace c0:W6.cell? ⟨bs,off+ps*7,V⟩=X (Z Y kd):=c0
  replace c1:W6.cell? ⟨bs,off+ps*7+1,V⟩=X (Z Y lf):=c1
  replace c2:W6.cell? ⟨bs,off+ps*7+2,V⟩=X (Z Y rt):=c2
  replace c3:W6.cell? ⟨bs,off+ps*7+3,V⟩=X (Z E (ae F 0)):=c3
  replace c4:W6.cell? ⟨bs,off+ps*7+4,V⟩=X (Z E (ae F 1)):=c4
  replace c5:W6.cell? ⟨bs,off+ps*7+5,V⟩=X (Z E (ae F 2)):=c5
  replace c6:W6.cell? ⟨bs,off+ps*7+6,V⟩=X (Z E (ae F 3)):=c6
  have aL:Hid (∀w',ID W6 w'->ID W6 w'/\w'.cell? ⟨k2,0,V⟩=X (M (X ⟨g,0,V⟩))/\w'.cell? ⟨g,0,V⟩=X (U (X ⟨bs,off,V⟩) st.length c)/\w'.cell? ⟨k6,0,V⟩=X (Z Y (ps:Int))/\
    w'.cell? ⟨bs,off+ps*7,V⟩=X (Z Y kd)/\w'.cell? ⟨bs,off+ps*7+1,V⟩=X (Z Y lf)/\w'.cell? ⟨bs,off+ps*7+2,V⟩=X (Z Y rt)/\w'.cell? ⟨bs,off+ps*7+3,V⟩=X (Z E (ae F 0))/\w'.cell? ⟨bs,off+ps*7+4,V⟩=X (Z E (ae F 1))/\w'.cell? ⟨bs,off+ps*7+5,V⟩=X (Z E (ae F 2))/\w'.cell? ⟨bs,off+ps*7+6,V⟩=X (Z E (ae F 3))):=aJ (fun w' ho=>
   ⟨ho,by rw[aK w' k2 0 _ _ _ (ho.block aF.out)];rfl,(ah.up ho).cells.1,by rw[aK w' k6 0 _ _ _ (ho.block aH.out)];rfl,ho.cell c0,ho.cell c1,ho.cell c2,ho.cell c3,ho.cell c4,ho.cell c5,ho.cell c6⟩)
  go_region_held3 (fun w'=>ID W6 w'/\w'.cell? ⟨k2,0,V⟩=X (M (X ⟨g,0,V⟩))/\w'.cell? ⟨g,0,V⟩=X (U (X ⟨bs,off,V⟩) st.length c)/\w'.cell? ⟨k6,0,V⟩=X (Z Y (ps:Int))/\
    w'.cell? ⟨bs,off+ps*7,V⟩=X (Z Y kd)/\w'.cell? ⟨bs,off+ps*7+1,V⟩=X (Z Y lf)/\w'.cell? ⟨bs,off+ps*7+2,V⟩=X (Z Y rt)/\w'.cell? ⟨bs,off+ps*7+3,V⟩=X (Z E (ae F 0))/\w'.cell? ⟨bs,off+ps*7+4,V⟩=X (Z E (ae F 1))/\w'.cell? ⟨bs,off+ps*7+5,V⟩=X (Z E (ae F 2))/\w'.cell? ⟨bs,off+ps*7+6,V⟩=X (Z E (ae F 3))) ((refine aL _ ?_;first|exact(ID.refl _).drew|exact((ID.refl _).alloc _).drew)) (fail)
  have a0:Mi (W6.alloc (H (an ⟨kd,lf,rt,F⟩).toArray 179)).drew W6.heap.size ⟨kd,lf,rt,F⟩:=aM W6 _
  have ar:ID W6 (W6.alloc (H (an ⟨kd,lf,rt,F⟩).toArray 179)).drew:=((ID.refl W6).alloc _).drew
  have bl:(W6.alloc (H #[Z Y kd,Z Y lf,Z Y rt,Z E (ae F 0),Z E (ae F 1),Z E (ae F 2),Z E (ae F 3)] 179)).drew=(W6.alloc (H (an ⟨kd,lf,rt,F⟩).toArray 179)).drew:=rfl
  rw[bl];have ai:=aJ (ah.up ar);have C:=aJ (bc.up ar);have l:=aJ (ar.block aF);have ac:=aJ (ar.block aG);have ad:=aJ (ar.block aH);have aR:Hid (W6.heap.size≠b/\W6.heap.size≠k3):=aJ ⟨by have:=ah.out.lb;have:=ah.out.lB;omega,by have:=aQ aG;omega⟩
  generalize (W6.alloc (H (an ⟨kd,lf,rt,F⟩).toArray 179)).drew=W at *;generalize W6.heap.size=k7 at *;have aI:=aJ a0;obtain⟨d0,d1,d2,_⟩:=a0.cells;simp only at d0 d1 d2;have e1:=cr_ ad.out 1 (K pb);have e2:=cr_ ad.out 2 (K f);obtain⟨o1,o2,o3,o4⟩:=a7;simp only at o1 o2 o3 o4;have bt:kd=1\/kd=2\/kd=3\/kd=4\/kd=5:=by omega
  rcases bt with rfl|rfl|rfl|rfl|rfl
  ·have am:Hid (∀q,¬SE st (L.getD i iE) q):=aJ (fun q=>by rw[ag.out];exact pF (by rw[HY.out];intro h;cases h) (by rw[HY.out];intro h;cases h) (by rw[HY.out];intro h;cases h) q)
   have HW:=aJ (LH.next (k2:=k2) (k3:=k3) (n0:=n0) (i:=i) ai C l ac o (MQ.refl al) ⟨[],by simp⟩ D T (fun q x=>absurd x (am q)) P (bM _))
   go_wp2
   go_roundw
   case rel=>exact HW
   simp[intOf];omega
  ·obtain⟨a,rfl⟩:=SY (o3 (by decide)).1
   obtain⟨z,rfl⟩:=SY (o4 rfl).1;have I:=aJ (yt (p:=⟨ps,pb,f⟩) HY rfl);have ap:Hid (∀q,SE st ⟨ps,pb,f⟩ q->q=⟨a,pb,f⟩\/q=⟨z,pb,f⟩):=aJ (fun q x=>by have:=(I q).1 x;simpa using this)
   have bf:Hid (SE st ⟨ps,pb,f⟩ ⟨a,pb,f⟩):=aJ ((I _).2 (bX (by simp)))
   have aT:Hid (SE st ⟨ps,pb,f⟩ ⟨z,pb,f⟩):=aJ ((I _).2 (bY (by simp)))
   have k:=aJ (o.PX HV av (q:=⟨a,pb,f⟩) (bf))
   have HC:=aJ (ud w0 B g b k2 k3 k6 st _ c _ al L W ai C l ac ⟨ps,pb,f⟩ ad aw (by omega) (by omega) a (by have:=k.out.1;simp only at this;omega) f)
   have J:=aJ (iG al L ⟨a,pb,f⟩ ⟨⟨ps,pb,f⟩,O,O,0⟩)
   generalize bz al L ⟨a,pb,f⟩ ⟨⟨ps,pb,f⟩,O,O,0⟩=r at *;obtain⟨aq,L2⟩:=r;simp only at HC k J;go_wp2_with fail;refine(HC).mono ?_;rintro e w2 ⟨rfl,aE,au,ab,R,u⟩;have ao:=aJ au;have af:=aJ ab;have ak:=aJ R;have S:=aJ (fC u l N.1 N.2 (fo C l (by decide)))
   obtain⟨aU,_⟩:=u.block ad aB.1 aB.2.1 aB.2.2;have bk:=fC u aI aR.1 aR.2 (fo C aI (by decide))
   obtain⟨_,_,bj,_⟩:=(show Mi w2 k7 _ from bk).cells
   simp only at bj
   have bF:=cr_ aU 2 (K f)
   have bh:=aJ k.2.2.2.1
   have aO:=aJ k.2.2.2.2
   have aS:=aJ k.2.2.1
   have aA:=aJ k.2.1
   have br:=aA.JO.JA
   have bC:=aA.JO.k5
   have aP:Hid ((⟨ps,pb,f⟩:Sp)∈L2):=aJ (by obtain⟨_,bq⟩:=aO;rw[bq];exact List.mem_append_left _ av)
   have m:=aJ (aA.PX HV aP aT)
   have aN:=aJ (ud w0 B g b k2 k3 k6 st _ c aE aq L2 w2 ao af S ak ⟨ps,pb,f⟩ aU aw (by omega) (by omega) z (by have:=m.out.1;simp only at this;omega) f)
   have az:=aJ (iG aq L2 ⟨z,pb,f⟩ ⟨⟨ps,pb,f⟩,O,O,0⟩)
   generalize bz aq L2 ⟨z,pb,f⟩ ⟨⟨ps,pb,f⟩,O,O,0⟩=r at *;obtain⟨_,L3⟩:=r;simp only at aN m az;go_wp2_with fail;refine(aN).mono ?_;rintro e _ ⟨rfl,_,bu,ax,aY,aZ⟩;have be:=aJ bu;have bb:=aJ ax;have a':=aJ aY;have a9:=aJ (fC aZ S N.1 N.2 (fo af S (by decide)))
   have ba:Hid (∃e,L3=L++e):=aJ (by
    obtain⟨e1,bo⟩:=aO;obtain⟨e2,bp⟩:=m.2.2.2.2;exact⟨e1++e2,by rw[bp,bo,SH]⟩)
   have HW:=aJ (LH.next (k2:=k2) (k3:=k3) (n0:=n0) (i:=i) be bb a9 a' m.2.1 (bh.trans m.2.2.2.1) ba D T (fun q x=>by
    rw[ag.out] at x;rcases ap q x with e|e
    ·rw[e];exact m.2.2.2.1.some aS
    rw[e];exact m.2.2.1) P (bN J az))
   go_wp2
   go_roundw
   case rel=>exact HW
   simp[intOf];omega
  ·obtain⟨a,rfl⟩:=SY (o3 (by decide)).1
   cases pb with
   |false=>
    have am:Hid (∀q,¬SE st (L.getD i iE) q):=aJ (fun q=>by rw[ag.out];exact pF (by rw[HY.out];intro h;cases h) (fun _=>rfl) (by rw[HY.out];intro h;cases h) q)
    have HW:=aJ (LH.next (k2:=k2) (k3:=k3) (n0:=n0) (i:=i) ai C l ac o (MQ.refl al) ⟨[],by simp⟩ D T (fun q x=>absurd x (am q)) P (bM _))
    go_wp2
    go_roundw
    case rel=>exact HW
    simp[intOf];omega
   |true=>
    have I:=aJ (Ez (p:=⟨ps,G,f⟩) HY rfl rfl)
    have ap:Hid (∀q,SE st ⟨ps,G,f⟩ q->q=⟨a,G,f⟩):=aJ (fun q x=>by have:=(I q).1 x;simpa using this)
    have k:=aJ (o.PX HV av (q:=⟨a,G,f⟩) ((I _).2 (by simp)))
    have HC:=aJ (ud w0 B g b k2 k3 k6 st _ c _ al L W ai C l ac ⟨ps,G,f⟩ ad aw (by omega) (by omega) a (by have:=k.out.1;simp only at this;omega) f)
    have J:=aJ (iG al L ⟨a,G,f⟩ ⟨⟨ps,G,f⟩,O,O,0⟩)
    generalize bz al L ⟨a,G,f⟩ ⟨⟨ps,G,f⟩,O,O,0⟩=r at *;obtain⟨aq,L2⟩:=r;simp only at HC k J;go_wp2_with fail;refine(HC).mono ?_;rintro e w2 ⟨rfl,aE,au,ab,R,u⟩;have ao:=aJ au;have af:=aJ ab;have ak:=aJ R;have S:=aJ (fC u l N.1 N.2 (fo C l (by decide)))
    have HW:=aJ (LH.next (k2:=k2) (k3:=k3) (n0:=n0) (i:=i) ao af S ak k.2.1 k.2.2.2.1 k.2.2.2.2 D T (fun q x=>by rw[ag.out] at x;rw[ap.out q x];exact k.2.2.1) P J)
    go_wp2
    go_roundw
    case rel=>exact HW
    simp[intOf];omega
  ·obtain⟨a,rfl⟩:=SY (o3 (by decide)).1
   have I:=aJ (Ey (p:=⟨ps,pb,f⟩) HY rfl)
   have ap:Hid (∀q,SE st ⟨ps,pb,f⟩ q->q=⟨a,pb,G⟩):=aJ (fun q x=>by have:=(I q).1 x;simpa using this)
   have k:=aJ (o.PX HV av (q:=⟨a,pb,G⟩) ((I _).2 (by simp)))
   have HC:=aJ (ud w0 B g b k2 k3 k6 st _ c _ al L W ai C l ac ⟨ps,pb,f⟩ ad aw (by omega) (by omega) a (by have:=k.out.1;simp only at this;omega) G)
   have J:=aJ (iG al L ⟨a,pb,G⟩ ⟨⟨ps,pb,f⟩,O,O,0⟩)
   generalize bz al L ⟨a,pb,G⟩ ⟨⟨ps,pb,f⟩,O,O,0⟩=r at *;obtain⟨aq,L2⟩:=r;simp only at HC k J;go_wp2_with fail;refine(HC).mono ?_;rintro e w2 ⟨rfl,aE,au,ab,R,u⟩;have ao:=aJ au;have af:=aJ ab;have ak:=aJ R;have S:=aJ (fC u l N.1 N.2 (fo C l (by decide)))
   have HW:=aJ (LH.next (k2:=k2) (k3:=k3) (n0:=n0) (i:=i) ao af S ak k.2.1 k.2.2.2.1 k.2.2.2.2 D T (fun q x=>by rw[ag.out] at x;rw[ap.out q x];exact k.2.2.1) P J)
   go_wp2
   go_roundw
   case rel=>exact HW
   simp[intOf];omega
  have am:Hid (∀q,¬SE st (L.getD i iE) q):=aJ (fun q=>by rw[ag.out];exact pF (by rw[HY.out];intro h;cases h) (by rw[HY.out];intro h;cases h) (by rw[HY.out];intro h;cases h) q)
  have HW:=aJ (LH.next (k2:=k2) (k3:=k3) (n0:=n0) (i:=i) ai C l ac o (MQ.refl al) ⟨[],by simp⟩ D T (fun q x=>absurd x (am q)) P (bM _))
  go_wp2
  go_roundw
  case rel=>exact HW
  simp[intOf];omega
 have HE:=aJ (bd (U Al L.length cl) al L wr HS HO o (fun p hp q x=>by
  obtain⟨j,hj,rfl⟩:=Tb.mp hp;refine T j (by omega) q ?_
  rw[bD,bE hj];exact x) (fun e=>by have:=P.out.1;rw[e] at this;simp at this) P.2)
 go_wp2
 go_ret;exact HE
def qq(s:Je)(r:Int):Prop:=(r= -1/\∀c,c<256->c≠10->hasB s c=O)\/∃c:Nat,r=c/\c<256/\c≠10/\hasB s c=G
def Bl(s:Je)(a:TQ)(v:TR)(wr:TQ):Prop:=∃k:Nat,v=Z Y k/\k<=256/\Hid (∀c,c<k->c≠10->hasB s c=O)/\Hid (ID a wr)
theorem B9(s:Je)(w:TQ):TS TX 166 #[cN s] w fun e w'=>∃r,e=SA (Z Y r)/\qq s r/\ID w w':=by
 have q:=aM w (fj s)
 have t:=(ID.refl w).alloc (fj s)
 have b:Hid (∀r w',qq s r->ID w w'->∃y,SZ (Z Y r)=SA (Z Y y)/\qq s y/\ID w w'):=aJ (fun r w' h1 h2=>⟨r,rfl,h1,h2⟩)
 unfold cN;unfold fj at q t;go_enter func166,ntmps166;go_upto_region 1 with fail
 generalize w.alloc (H #[Z E (ae s 0),Z E (ae s 1),Z E (ae s 2),Z E (ae s 3)] 177)=w1 at *;generalize w.heap.size=kb at *;have z:Hid (w1.heap[kb]? =X (fj s)):=aJ q;have x:=aJ t;clear q t;go_wp2;go_loopw [4] (fun u wr=>Bl s w1 u wr) (fun u _=>256-(intOf u).toNat)
 case atStart=>exact⟨0,rfl,by omega,aJ (fun c hc=>by omega),aJ (ID.refl _)⟩
 obtain⟨k,rfl,hk,d,j⟩:=hrel;obtain⟨_,c1,c2,_,_⟩:=ai (j.out.block z)
 by_cases m:k<256
 ·have C:(k:Int)<256:=by omega
  have B:(0:Int)<=(k:Int):=by omega
  by_cases f:k=10
  ·subst f;have o:Hid (Bl s w1 (Z Y ((11:Nat):Int)) wr):=aJ ⟨11,rfl,by omega,aJ (fun c hc hne=>d c (by omega) hne),j⟩
   clear d;go_wp2;go_roundw
   case rel=>exact o
   simp[intOf]
  have b10:((k:Int) !=10)=G:=by simp;omega
  have A:Tx.wrap (k:Int)=(k:Int):=IntWalk.u8_in _ (by omega)
  have g:=DN s k m wr
  unfold cN at g;have h:=aJ g;clear g;cases i:hasB s k with
  |true=>
   rw[i] at h;have l:Hid (qq s (k:Int)):=aJ (bY ⟨k,rfl,m,f,i⟩);clear i f d;go_wp2_with fail;refine(h).mono ?_;rintro e w2 ⟨rfl,a⟩;have p:=aJ (b _ w2 l (x.up (j.up a)));clear a h b l;go_wp2;go_ret;exact p
  |false=>
   rw[i] at h;have n:=aJ i;clear i;go_wp2_with fail;refine(h).mono ?_;rintro e w2 ⟨rfl,a⟩;have o:Hid (Bl s w1 (Z Y ((k+1:Nat):Int)) w2):=aJ ⟨k+1,rfl,by omega,aJ (fun c hc hne=>by
    by_cases e:c=k
    ·subst e;exact n
    exact d c (by omega) hne),aJ (j.up a)⟩
   clear a h d;go_wp2;go_roundw
   case rel=>exact o
   simp[intOf];omega
 obtain rfl:k=256:=by omega
 have p:=aJ (b (-1) wr (bX ⟨rfl,d⟩) (x.up j))
 clear b d;go_wp2;go_ret;exact p
theorem oD(al:List (Sp×Og))(L:List Sp)(q:Sp)(o:Og):(bz al L q o).1.length+L.length=al.length+(bz al L q o).2.length:=by grind [bz]
def DU(w w0:TQ)(B g b:Nat)(st:List Nd)(A:Option TT)(c d n0:Nat)(L:List Sp)(e:TU)(w':TQ):Prop:=
 ∃lv' al N,e=SA lv'/\SK w0 w' B g b st A c al/\IL w' B 188 3 lv' N.length (fw N)/\Ny st d L L.length al N/\al.length=n0+N.length
def ma(w w0:TQ)(B g b:Nat)(st:List Nd)(A:Option TT)(c d n0:Nat)(L:List Sp)(a v:TR)(wr:TQ):Prop:=
 ∃(k:Nat) (al:List (Sp×Og)) (N:List Sp),v=Z Y k/\k<=L.length/\Hid (SK w0 wr B g b st A c al)/\Hid (IL wr B 188 3 a N.length (fw N))/\Hid (I3 w wr b b (U V 0 0) a)/\Hid (Ny st d L k al N)/\Hid (al.length=n0+N.length)
def DT(w w0:TQ)(B g b e f:Nat)(st:List Nd)(A:Option TT)(c d n0:Nat)(L:List Sp)(k:Nat)(p:Sp)(y:Nd)(a:TR)(wr:TQ):Prop:=
 ∃(al:List (Sp×Og)) (N:List Sp),Hid (SK w0 wr B g b st A c al)/\Hid (IL wr B 188 3 a N.length (fw N))/\Hid (I3 w wr b b (U V 0 0) a)/\Hid (Ny st d L k al N)/\Hid (al.length=n0+N.length)/\
  Hid (wr.heap[e]? =X (H (dH p).toArray 188 (0,0)))/\Hid (Mi wr f y)/\Hid (hasB y.set 10=G->(lk al ⟨y.left.toNat,G,O⟩).isSome=G)
theorem mD{st:List Nd}{p q:Sp}{y:Nd}(hy:nd st p.s=y)(a:SB st p c q):y.IF=1/\hasB y.set c=G/\c<256/\((c=10/\q=⟨y.left.toNat,G,O⟩)\/(c≠10/\p.e=O/\q=⟨y.left.toNat,O,O⟩)):=by
 subst hy;exact a
theorem Ck{st:List Nd}{p:Sp}{y:Nd}(hy:nd st p.s=y)(hk:y.IF=1)(h:hasB y.set 10=G):SB st p 10 ⟨y.left.toNat,G,O⟩:=by
 subst hy;exact⟨hk,h,by decide,bX ⟨rfl,rfl⟩⟩
theorem yu{st:List Nd}{p:Sp}{y:Nd}(hy:nd st p.s=y)(hk:y.IF=1)(h:hasB y.set c=G)(hc:c<256)(hne:c≠10)(a:p.e=O):SB st p c ⟨y.left.toNat,O,O⟩:=by
 subst hy;exact⟨hk,h,hc,bY ⟨hne,a,rfl⟩⟩
theorem Et(w0:TQ)(B g b:Nat)(st:List Nd)(A:Option TT)(c d:Nat)(lv:TR)(al:List (Sp×Og))(L:List Sp)(w:TQ)(h:SK w0 w B g b st A c al)(hl:IL w B 188 3 lv L.length (fw L))(hv:bw st=G)(hh:Ny st d L 0 al [])(bg:∀p∈L,iO st (d+1) p)(hL:L.length<=100000):
  TS TX 88 #[M (X ⟨g,0,V⟩),lv] w (DU w w0 B g b st A c d al.length L):=by
 have HV:=aJ hv
 have a7:=aJ (bi hv).2.1
 obtain⟨_,_,rfl,_,_,_⟩:=hl.shape;have ab:=aJ hl;have aE:=aJ bg;have aB:Hid (b<B):=aJ h.lb;have HI:Hid (ma w w0 B g b st A c d al.length L (U V 0 0) (Z Y 0) w):=aJ ⟨0,al,[],rfl,bO _,aJ h,aJ (IL.Jk _ _ _ _),aJ (I3.refl _ _ _ _),aJ hh,aJ (by simp)⟩
 have a6:Hid (∀lv' F N' w',SK w0 w' B g b st A c F->IL w' B 188 3 lv' N'.length (fw N')->Ny st d L L.length F N'->F.length=al.length+N'.length->DU w w0 B g b st A c d al.length L (SA lv') w'):=
  aJ (fun lv' F N' w' a1 a2 a3 a4=>⟨lv',F,N',rfl,a1,a2,a3,a4⟩)
 generalize al.length=n0 at *;go_enter func88,ntmps88;go_wp2;go_loopw [5,12] (fun s5 ax wr=>ma w w0 B g b st A c d n0 L s5 ax wr) (fun _ ax _=>L.length-(intOf ax).toNat)
 case atStart=>exact HI
 obtain⟨k,al,N,rfl,hk,HS,HO,HK,C,i⟩:=hrel;have aO:=C.JO.JA;have bc:=C.JO.k5;have hsz:=a7.out
 by_cases j:k<L.length
 ·have i1:(k:Int)<(L.length:Int):=by omega
  have i0:(0:Int)<=(k:Int):=by omega
  obtain⟨ga,_,bk,_,bd,_,_⟩:=ab.out.form (by omega)
  injection bk with hA _ hc
  subst hA;subst hc;obtain⟨An,cn,rfl,_,_,_⟩:=HO.shape;have ap:wr.heap[ga]? =w.heap[ga]?:=HK.out.Kr ga bd (by have:=aB.out;omega) (by have:=aB.out;omega) (by simp[S7])
  have q0:=(ab.cellAt ((da L k j 0 (by omega)).trans rfl)).1
  have q1:=(ab.cellAt ((da L k j 1 (by omega)).trans rfl)).1
  have q2:=(ab.cellAt ((da L k j 2 (by omega)).trans rfl)).1
  rw[SU] at q0;rw[<-Tj (a:=⟨ga,k*3,V⟩) ap] at q0;rw[<-Tj (a:=⟨ga,k*3+1,V⟩) ap] at q1;rw[<-Tj (a:=⟨ga,k*3+2,V⟩) ap] at q2;have aq:L.getD k iE∈L:=gm_ j;obtain⟨p,aU⟩:∃p,L.getD k iE=p:=⟨_,rfl⟩
  rw[aU] at q0 q1 q2 aq;have ac:=aJ aU;have aF:=aJ (aE p aq);have aw:p.s<st.length:=by obtain⟨t,ht,_⟩:=aE p aq;exact SR.lt HV ht
  obtain⟨ps,pb,z⟩:=p;simp only at q0 q1 q2 aw;have a':=aM wr (H #[Z Y (ps:Int),K pb,K z] 188);have av:=(ID.refl wr).alloc (H #[Z Y (ps:Int),K pb,K z] 188);have aj:Hid (wr.heap.size≠b/\X wr.heap.size≠(SO An N.length cn).ownBlock):=aJ ⟨by have:=HS.out.lb;have:=HS.out.lB;omega,fun e=>by have:=(bU HO _ e.symm).2;omega⟩
  go_upto_region 5 with fail
  generalize wr.alloc (H #[Z Y (ps:Int),K pb,K z] 188)=W7 at *;have x:=aJ (HS.up av);have a5:=aJ (HO.up av);have a0:=aJ (HK.trans (I3.I7 av b b _));have ay:=aJ a';generalize wr.heap.size=k7 at *;have aT:=(bi HV).2.2 ps aw;have hx:st[ps]? =X (nd st ps):=by unfold nd;rw[bD,bE aw];rfl
  obtain⟨bs,off,rfl,_,o⟩:=(x.JR.up x.I5).at_ (by rw[aX];omega)
  have hg:=cf st ps _ hx
  have c0:=o _ _ (hg 0 (by omega))
  have c1:=o _ _ (hg 1 (by omega))
  have c2:=o _ _ (hg 2 (by omega))
  have c3:=o _ _ (hg 3 (by omega))
  have c4:=o _ _ (hg 4 (by omega))
  have c5:=o _ _ (hg 5 (by omega))
  have c6:=o _ _ (hg 6 (by omega))
  rw[<-SV] at c0 c1 c2 c3 c4 c5 c6;rw[SU] at c0;have s1:(0:Int)<=(ps:Int):=by omega
  have s2:(ps:Int)<(st.length:Int):=by omega
  obtain⟨y,hy⟩:∃y,nd st ps=y:=⟨_,rfl⟩
  rw[hy] at aT c0 c1 c2 c3 c4 c5 c6;have HY:=aJ hy;obtain⟨R,lf,rt,f⟩:=y
  replace c0:W7.cell? ⟨bs,off+ps*7,V⟩=X (Z Y R):=c0
  replace c1:W7.cell? ⟨bs,off+ps*7+1,V⟩=X (Z Y lf):=c1
  replace c2:W7.cell? ⟨bs,off+ps*7+2,V⟩=X (Z Y rt):=c2
  replace c3:W7.cell? ⟨bs,off+ps*7+3,V⟩=X (Z E (ae f 0)):=c3
  replace c4:W7.cell? ⟨bs,off+ps*7+4,V⟩=X (Z E (ae f 1)):=c4
  replace c5:W7.cell? ⟨bs,off+ps*7+5,V⟩=X (Z E (ae f 2)):=c5
  replace c6:W7.cell? ⟨bs,off+ps*7+6,V⟩=X (Z E (ae f 3)):=c6
  have az:Hid (∀w',ID W7 w'->ID W7 w'/\w'.cell? ⟨g,0,V⟩=X (U (X ⟨bs,off,V⟩) st.length c)/\w'.cell? ⟨k7,0,V⟩=X (Z Y (ps:Int))/\
    w'.cell? ⟨bs,off+ps*7,V⟩=X (Z Y R)/\w'.cell? ⟨bs,off+ps*7+1,V⟩=X (Z Y lf)/\w'.cell? ⟨bs,off+ps*7+2,V⟩=X (Z Y rt)/\w'.cell? ⟨bs,off+ps*7+3,V⟩=X (Z E (ae f 0))/\w'.cell? ⟨bs,off+ps*7+4,V⟩=X (Z E (ae f 1))/\w'.cell? ⟨bs,off+ps*7+5,V⟩=X (Z E (ae f 2))/\w'.cell? ⟨bs,off+ps*7+6,V⟩=X (Z E (ae f 3))):=aJ (fun w' T=>
   ⟨T,(x.up T).cells.1,by rw[aK w' k7 0 _ _ _ (T.block ay.out)];rfl,T.cell c0,T.cell c1,T.cell c2,T.cell c3,T.cell c4,T.cell c5,T.cell c6⟩)
  go_region_held3 (fun w'=>ID W7 w'/\w'.cell? ⟨g,0,V⟩=X (U (X ⟨bs,off,V⟩) st.length c)/\w'.cell? ⟨k7,0,V⟩=X (Z Y (ps:Int))/\
    w'.cell? ⟨bs,off+ps*7,V⟩=X (Z Y R)/\w'.cell? ⟨bs,off+ps*7+1,V⟩=X (Z Y lf)/\w'.cell? ⟨bs,off+ps*7+2,V⟩=X (Z Y rt)/\w'.cell? ⟨bs,off+ps*7+3,V⟩=X (Z E (ae f 0))/\w'.cell? ⟨bs,off+ps*7+4,V⟩=X (Z E (ae f 1))/\w'.cell? ⟨bs,off+ps*7+5,V⟩=X (Z E (ae f 2))/\w'.cell? ⟨bs,off+ps*7+6,V⟩=X (Z E (ae f 3))) ((refine az _ ?_;first|exact(ID.refl _).drew|exact((ID.refl _).alloc _).drew)) (fail)
  have aQ:Mi (W7.alloc (H (an ⟨R,lf,rt,f⟩).toArray 179)).drew W7.heap.size ⟨R,lf,rt,f⟩:=aM W7 _
  have af:ID W7 (W7.alloc (H (an ⟨R,lf,rt,f⟩).toArray 179)).drew:=((ID.refl W7).alloc _).drew
  have a9:(W7.alloc (H #[Z Y R,Z Y lf,Z Y rt,Z E (ae f 0),Z E (ae f 1),Z E (ae f 2),Z E (ae f 3)] 179)).drew=(W7.alloc (H (an ⟨R,lf,rt,f⟩).toArray 179)).drew:=rfl
  rw[a9];have aG:=aJ (x.up af);have aD:=aJ (a5.up af);have aA:=aJ (a0.trans (I3.I7 af b b _));have aV:=aJ (af.block ay);have aC:Hid (W7.heap.size≠b):=aJ (by have:=x.out.lb;have:=x.out.lB;omega)
  generalize (W7.alloc (H (an ⟨R,lf,rt,f⟩).toArray 179)).drew=W at *;generalize W7.heap.size=k8 at *;have aY:=aJ aQ;obtain⟨d0,d1,d2,d3,d4,d5,d6⟩:=aQ.cells;simp only at d0 d1 d2 d3 d4 d5 d6;obtain⟨o1,o2,o3,o4⟩:=aT;simp only at o1 o2 o3 o4
  by_cases au:R=1
  ·subst au;obtain⟨a,rfl⟩:=SY (o3 (by decide)).1
   have aL:=DN f 10 (by decide) W
   unfold cN at aL;have HC:=aJ aL;go_wp2_with fail;refine(HC).mono ?_;rintro e W2 ⟨rfl,I⟩;have ad:=aJ (aG.up I);have u:=aJ (aD.up I);have aa:=aJ (aA.trans (I3.I7 I b b _));have l:=aJ (I.block aV);have m:=aJ (show Mi W2 k8 _ from I.block aY)
   go_upto_if 29 with fail
   go_cut [5] (fun v5 wx=>DT w w0 B g b k7 k8 st (X ⟨bs,off,V⟩) c d n0 L k ⟨ps,pb,z⟩ ⟨1,(a:Int),rt,f⟩ v5 wx)
   case first=>
    cases aH:hasB f 10 with
    |false=>
     go_wp2
     go_meet;exact⟨al,N,ad,u,aa,C,i,l,m,aJ (fun h=>by rw[aH] at h;cases h)⟩
    |true=>
     have ao:Hid (SB st ⟨ps,pb,z⟩ 10 ⟨a,G,O⟩):=aJ (Ck (p:=⟨ps,pb,z⟩) HY rfl aH)
     have S:=aJ (C.put HV aF ao)
     have hc:=mC w0 B g b st _ c _ al N W2 ad u (by omega) (by omega) ⟨a,G,O⟩ (by have:=S.out.1;simp only at this;show a<1000000;omega) ⟨⟨ps,pb,z⟩,O,G,10⟩ (show(10:Nat)<256 by decide)
     have P:=oD al N ⟨a,G,O⟩ ⟨⟨ps,pb,z⟩,O,G,10⟩
     unfold nV sa at hc;simp only at hc;rw[show((10:Nat):Int)=10 from rfl] at hc
     have HC:=aJ hc
     have D:=aJ P
     obtain⟨p0,p1,_⟩:=m.cells;simp only at p0 p1;have e0:=cr_ l.out 0 (Z Y (ps:Int));have e1:=cr_ l.out 1 (K pb);have e2:=cr_ l.out 2 (K z);generalize bz al N ⟨a,G,O⟩ ⟨⟨ps,pb,z⟩,O,G,10⟩=r at *;obtain⟨n,N2⟩:=r;simp only at HC S D;go_wp2_with fail;refine(HC).mono ?_;rintro e w3 ⟨bl,rfl,bh,aR,ar⟩;have HM:Hid (DT w w0 B g b k7 k8 st (X ⟨bs,off,V⟩) c d n0 L k ⟨ps,pb,z⟩ ⟨1,(a:Int),rt,f⟩ bl w3):=aJ
      ⟨n,N2,aJ bh,aJ aR,aJ (aa.trans ar),aJ S.2.1,aJ (by have:=i.out;have:=D.out;omega),aJ (fC ar l aj.1 aj.1 aj.2),aJ (fC ar m aC aC (fo u m (by decide))),aJ (fun _=>S.2.2.1)⟩
     obtain⟨_,c3,rfl,_,_,_⟩:=aR.shape;go_wp2;go_meet;exact HM
   obtain⟨n,N2,ad,u,aa,C,i,l,m,ag⟩:=hcut;obtain⟨A2,c2,rfl,_,_,_⟩:=u.shape;have aO:=C.JO.JA;have bc:=C.JO.k5;obtain⟨p0,p1,_,p3,p4,p5,p6⟩:=m.cells;simp only at p0 p1 p3 p4 p5 p6;have aN:=B9 f wc;unfold cN at aN;have aZ:=aJ aN;go_wp2_with fail;refine(aZ).mono ?_;rintro e w3 ⟨r,rfl,bf,J⟩;have am:=aJ (ad.up J);have ak:=aJ (u.up J);have ai:=aJ (aa.trans (I3.I7 J b b _));have ah:=aJ (J.block l);have aW:=aJ (show Mi w3 k8 _ from J.block m)
   have e0:=cr_ ah.out 0 (Z Y (ps:Int))
   have e1:=cr_ ah.out 1 (K pb)
   have e2:=cr_ ah.out 2 (K z)
   rcases bf with⟨rfl,be⟩|⟨ch,rfl,aI,hne,aP⟩
   ·have HW:Hid (ma w w0 B g b st (X ⟨bs,off,V⟩) c d n0 L (U A2 N2.length c2) (Z Y ((k+1:Nat):Int)) w3):=aJ ⟨k+1,n,N2,rfl,j,am,ak,ai,aJ (C.next (fun cc q hs=>by
     rw[ac.out] at hs;obtain⟨_,h2,h3,h4⟩:=mD HY.out hs;rcases h4 with⟨rfl,rfl⟩|⟨h5,_,_⟩
     ·exact ag.out h2
     have:=be cc h3 h5;rw[this] at h2;cases h2)),i⟩
    go_wp2
    go_roundw
    case rel=>exact HW
    simp[intOf];omega
   cases z with
   |true=>
    have HW:Hid (ma w w0 B g b st (X ⟨bs,off,V⟩) c d n0 L (U A2 N2.length c2) (Z Y ((k+1:Nat):Int)) w3):=aJ ⟨k+1,n,N2,rfl,j,am,ak,ai,aJ (C.next (fun cc q hs=>by
     rw[ac.out] at hs;obtain⟨_,h2,h3,h4⟩:=mD HY.out hs;rcases h4 with⟨rfl,rfl⟩|⟨_,h6,_⟩
     ·exact ag.out h2
     cases h6)),i⟩
    have ba:(0:Int)<=(ch:Int):=by omega
    go_wp2
    go_roundw
    case rel=>exact HW
    simp[intOf];omega
   |false=>
    have bo:Tx.wrap (ch:Int)=(ch:Int):=IntWalk.u8_in _ (by omega)
    have ba:(0:Int)<=(ch:Int):=by omega
    have ao:Hid (SB st ⟨ps,pb,O⟩ ch ⟨a,O,O⟩):=aJ (yu (p:=⟨ps,pb,O⟩) HY rfl aP aI hne rfl)
    have S:=aJ (C.put HV aF ao)
    have hc:=mC w0 B g b st _ c _ n N2 w3 am ak (by omega) (by omega) ⟨a,O,O⟩ (by have:=S.out.1;simp only at this;show a<1000000;omega) ⟨⟨ps,pb,O⟩,O,G,ch⟩ aI
    have P:=oD n N2 ⟨a,O,O⟩ ⟨⟨ps,pb,O⟩,O,G,ch⟩
    unfold nV sa at hc;simp only at hc;have HC:=aJ hc;have D:=aJ P;obtain⟨p0,p1,_⟩:=aW.cells;simp only at p0 p1;generalize bz n N2 ⟨a,O,O⟩ ⟨⟨ps,pb,O⟩,O,G,ch⟩=r at *;obtain⟨a8,N3⟩:=r;simp only at HC S D;go_wp2_with fail;refine(HC).mono ?_;rintro e w4 ⟨bm,rfl,bj,aS,bb⟩;have HW:Hid (ma w w0 B g b st (X ⟨bs,off,V⟩) c d n0 L bm (Z Y ((k+1:Nat):Int)) w4):=aJ ⟨k+1,a8,N3,rfl,j,aJ bj,aJ aS,aJ (ai.trans bb),aJ (S.2.1.next (fun cc q hs=>by
     rw[ac.out] at hs;obtain⟨_,h2,h3,h4⟩:=mD HY.out hs;rcases h4 with⟨rfl,rfl⟩|⟨_,_,rfl⟩
     ·exact S.out.2.2.2.some (ag.out h2)
     exact S.out.2.2.1)),aJ (by have:=i.out;have:=D.out;omega)⟩
    obtain⟨_,c4,rfl,_,_,_⟩:=aS.shape;go_wp2;go_roundw
    case rel=>exact HW
    simp[intOf];omega
  have bn:(R !=1)=G:=by simpa using au
  have HW:Hid (ma w w0 B g b st (X ⟨bs,off,V⟩) c d n0 L (U An N.length cn) (Z Y ((k+1:Nat):Int)) W):=aJ ⟨k+1,al,N,rfl,j,aG,aD,aA,aJ (C.out.next (fun c q hs=>by rw[ac.out] at hs;exact absurd (mD HY.out hs).1 au)),i⟩
  go_wp2
  go_roundw
  case rel=>exact HW
  simp[intOf];omega
 obtain rfl:k=L.length:=by omega
 obtain⟨An,cn,rfl,_,_,_⟩:=HO.shape;have HE:=aJ (a6 _ al N wr HS HO C i);go_wp2;go_ret;exact HE
def lS(st:List Nd)(Ja:Bool)(p:Sp):Bool:=((nd st p.s).IF==5)&&(p.e==Ja)
theorem Ge(w0:TQ)(B g b k1 k2:Nat)(st:List Nd)(A:Option TT)(c:Nat)(al:List (Sp×Og))(Ja:Bool)(w:TQ)(h:SK w0 w B g b st A c al)(h1:w.heap[k1]? =X (H #[M (X ⟨g,0,V⟩)] 181 (0,0)))(h2:w.heap[k2]? =X (H #[K Ja] 4 (0,0)))(p:Sp)(q:p.s<st.length):
  TS TX 163 #[nV p,M (X ⟨k1,0,V⟩),M (X ⟨k2,0,V⟩)] w (jE (K (lS st Ja p)) w):=by
 obtain⟨ps,pb,d⟩:=p;have o:Hid (lS st Ja ⟨ps,pb,d⟩=(((nd st ps).IF==5)&&(d==Ja))):=aJ rfl;unfold nV;simp only at q ⊢;have l:=aM w (H #[Z Y (ps:Int),K pb,K d] 188);have n:=(ID.refl w).alloc (H #[Z Y (ps:Int),K pb,K d] 188);have hx:st[ps]? =X (nd st ps):=by unfold nd;rw[bD,bE q];rfl
 obtain⟨bs,off,rfl,_,m⟩:=(h.JR.up h.I5).at_ (by rw[aX];omega)
 have k:=m _ _ (cf st ps _ hx 0 (by omega))
 rw[SU] at k;have s1:(0:Int)<=(ps:Int):=by omega
 have z:(ps:Int)<(st.length:Int):=by omega
 replace k:w.cell? ⟨bs,off+ps*7,V⟩=X (Z Y (nd st ps).IF):=k
 have x:=aJ h
 have t:=aJ h1
 have u:=aJ h2
 have r:=aJ k
 clear h h1 h2 hx m k;generalize (nd st ps).IF=kd at *;go_enter func163,ntmps163;go_upto_region 1 with fail
 generalize w.alloc (H #[Z Y (ps:Int),K pb,K d] 188)=W at *;generalize w.heap.size=k3 at *;have a:=aJ n;have j:=aJ l;clear n l;have e:Hid (∀w',ID W w'->ID W w'/\w'.cell? ⟨k1,0,V⟩=X (M (X ⟨g,0,V⟩))/\w'.cell? ⟨k2,0,V⟩=X (K Ja)/\w'.cell? ⟨g,0,V⟩=X (U (X ⟨bs,off,V⟩) st.length c)/\w'.cell? ⟨k3,0,V⟩=X (Z Y (ps:Int))/\w'.cell? ⟨k3,2,V⟩=X (K d)/\
   w'.cell? ⟨bs,off+ps*7,V⟩=X (Z Y kd)):=aJ (fun w' i=>
  ⟨i,by rw[aK w' k1 0 _ _ _ ((a.out.up i).block t.out)];rfl,by rw[aK w' k2 0 _ _ _ ((a.out.up i).block u.out)];rfl,(x.up (a.up i)).cells.1,by rw[aK w' k3 0 _ _ _ (i.block j.out)];rfl,by rw[aK w' k3 2 _ _ _ (i.block j.out)];rfl,(a.up i).cell r⟩)
 by_cases hk:kd=5
 ·subst hk;have f:Hid (lS st Ja ⟨ps,pb,d⟩=(d==Ja)):=aJ (by rw[o.out];rfl)
  clear o;obtain⟨_,a1,a2,a3,_,a5,_⟩:=e W (ID.refl _);go_quiet (fail);go_wp2;go_ret;rw[f.out];exact⟨rfl,a.drewN _⟩
 have y:(kd==5)=O:=by simpa using hk
 have f:Hid (lS st Ja ⟨ps,pb,d⟩=O):=aJ (by rw[o.out,y];rfl)
 clear o hk;obtain⟨_,a1,a2,a3,_,a5,_⟩:=e W (ID.refl _);go_quiet (fail);go_wp2;go_ret;rw[f.out];exact⟨rfl,a.drewN _⟩
def tM(st:List Nd)(Ja:Bool)(L:List Sp)(r:Int):Prop:=(r= -1/\∀p∈L,lS st Ja p=O)\/∃i:Nat,r=i/\i<L.length/\lS st Ja (L.getD i iE)=G
def DY(st:List Nd)(Ja:Bool)(L:List Sp)(w:TQ)(v:TR)(wr:TQ):Prop:=∃k:Nat,v=Z Y k/\k<=L.length/\Hid (∀j,j<k->lS st Ja (L.getD j iE)=O)/\Hid (ID w wr)
theorem Gd(w0:TQ)(B g b k1 k2:Nat)(st:List Nd)(A:Option TT)(c:Nat)(lv:TR)(al:List (Sp×Og))(L:List Sp)(Ja:Bool)(w:TQ)(h:SK w0 w B g b st A c al)(z:IL w B 188 3 lv L.length (fw L))(h1:w.heap[k1]? =X (H #[M (X ⟨g,0,V⟩)] 181 (0,0)))(h2:w.heap[k2]? =X (H #[K Ja] 4 (0,0)))(x:∀p∈L,p.s<st.length)(hL:L.length<=100000):
  TS TX 162 #[lv,.func (.func 163) #[] #[M (X ⟨k1,0,V⟩),M (X ⟨k2,0,V⟩)]] w (fun e w'=>∃r,e=SA (Z Y r)/\tM st Ja L r/\ID w w'):=by
 have m:Hid (∀r w',tM st Ja L r->ID w w'->∃N,SZ (Z Y r)=SA (Z Y N)/\tM st Ja L N/\ID w w'):=aJ (fun r w' h1 h2=>⟨r,rfl,h1,h2⟩)
 obtain⟨_,_,rfl,_,_,_⟩:=z.shape;have T:=aJ h;have i:=aJ z;have P:=aJ h1;have R:=aJ h2;have W:=aJ x;clear h z h1 h2 x;go_enter func162,ntmps162;go_wp2;go_loopw [8] (fun F wr=>DY st Ja L w F wr) (fun F _=>L.length-(intOf F).toNat)
 case atStart=>exact⟨0,rfl,bO _,aJ (fun j hj=>by omega),aJ (ID.refl _)⟩
 obtain⟨k,rfl,hk,t,f⟩:=hrel
 by_cases a:k<L.length
 ·have i1:(k:Int)<(L.length:Int):=by omega
  have i0:(0:Int)<=(k:Int):=by omega
  obtain⟨ga,_,C,_,_,_,_⟩:=i.out.form (by omega)
  injection C with hA _ hc
  subst hA;subst hc;have D:=((i.up f).cellAt ((da L k a 0 (by omega)).trans rfl)).1
  have q1:=((i.up f).cellAt ((da L k a 1 (by omega)).trans rfl)).1
  have J:=((i.up f).cellAt ((da L k a 2 (by omega)).trans rfl)).1
  rw[SU] at D;have u:L.getD k iE∈L:=gm_ a;have hc:=Ge w0 B g b k1 k2 st A c al Ja wr (T.up f) (f.out.block P) (f.out.block R) (L.getD k iE) (W _ u);obtain⟨p,n⟩:∃p,L.getD k iE=p:=⟨_,rfl⟩
  rw[n] at D q1 J hc;have l:=aJ n;clear n u;obtain⟨ps,pb,pe⟩:=p;unfold nV at hc;simp only at D q1 J hc;have o:=aJ hc;clear hc;cases q:lS st Ja ⟨ps,pb,pe⟩ with
  |true=>
   rw[q] at o;have I:Hid (tM st Ja L (k:Int)):=aJ (bY ⟨k,rfl,a,by rw[l.out];exact q⟩)
   clear q l t;go_wp2_with fail;refine(o).mono ?_;rintro e w2 ⟨rfl,d⟩;have y:=aJ (m _ w2 I (f.up d));clear d o m I;go_wp2;go_ret;exact y
  |false=>
   rw[q] at o;have S:Hid (∀j,j<k+1->lS st Ja (L.getD j iE)=O):=aJ (fun j hj=>by
    by_cases e:j=k
    ·subst e;rw[l.out];exact q
    exact t j (by omega))
   clear q l t;go_wp2_with fail;refine(o).mono ?_;rintro e w2 ⟨rfl,d⟩;have HW:Hid (DY st Ja L w (Z Y ((k+1:Nat):Int)) w2):=aJ ⟨k+1,rfl,a,S,aJ (f.up d)⟩;clear d o;go_wp2;go_roundw
   case rel=>exact HW
   simp[intOf];omega
 obtain rfl:k=L.length:=by omega
 have y:=aJ (m (-1) wr (bX ⟨rfl,fun p x=>by
  obtain⟨j,hj,rfl⟩:=Tb.mp x;have:=t j hj
  rwa [bD,bE hj] at this⟩) f)
 clear m t;go_wp2;go_ret;exact y
theorem t7(w0:TQ)(B g b:Nat)(st:List Nd)(A:Option TT)(c:Nat)(lv:TR)(al:List (Sp×Og))(L:List Sp)(Ja:Bool)(w:TQ)(h:SK w0 w B g b st A c al)(n:IL w B 188 3 lv L.length (fw L))(q:∀p∈L,p.s<st.length)(y:L.length<=100000):
  TS TX 86 #[M (X ⟨g,0,V⟩),lv,K Ja] w (fun e w'=>∃r,e=SA (Z Y r)/\tM st Ja L r/\ID w w'):=by
 have f:Hid (∀r w',tM st Ja L r->ID w w'->∃u,SZ (Z Y r)=SA (Z Y u)/\tM st Ja L u/\ID w w'):=aJ (fun r w' h1 h2=>⟨r,rfl,h1,h2⟩)
 obtain⟨_,_,rfl,_,_,_⟩:=n.shape;have i:=aM w (H #[M (X ⟨g,0,V⟩)] 181);have l:=(ID.refl w).alloc (H #[M (X ⟨g,0,V⟩)] 181);have j:=aM (w.alloc (H #[M (X ⟨g,0,V⟩)] 181)) (H #[K Ja] 4);have a:=l.alloc (H #[K Ja] 4);have d:=((ID.refl (w.alloc (H #[M (X ⟨g,0,V⟩)] 181))).alloc (H #[K Ja] 4)).block i;have hc:=Gd w0 B g b _ _ st A c _ al L Ja _ (h.up a) (n.up a) d j q y;rw[Hg] at hc;have o:=aJ hc;have m:=aJ a;clear h n i j d l a hc q;go_enter func86,ntmps86;go_wp2_with fail;refine(o).mono ?_;rintro e z ⟨r,rfl,t,k⟩;have x:=aJ (f r z t (m.up k));clear f t k o;go_wp2;go_ret;exact x
def vY(T:List Nat)(i:Nat):List Nat:=(S3 T.length).map fun k=>if k<i\/T.length<=k+i then T.getD (T.length-1-k) 0 else T.getD k 0
theorem fI(T:List Nat)(i:Nat):(vY T i).length=T.length:=by simp[vY]
theorem jI(T:List Nat)(i k:Nat)(hk:k<T.length):(vY T i).getD k 0=if k<i\/T.length<=k+i then T.getD (T.length-1-k) 0 else T.getD k 0:=by grind [vY]
theorem yw(T:List Nat):vY T 0=T:=by
 apply List.ext_getElem?;intro k
 by_cases hk:k<T.length
 ·have h:=jI T 0 k hk
  rw[ng_ (by omega)] at h
  rw[bD,bD,bE hk,bE (by rw[fI];exact hk)] at h
  rw[bE hk,bE (by rw[fI];exact hk)]
  exact congrArg X h
 rw[bI (by rw[fI];omega),bI (by omega)]
theorem jZ{a b:List Nat}(c:a.length=b.length)(h:∀k,k<a.length->a.getD k 0=b.getD k 0):a=b:=by
 apply Ty c
 grind
theorem rO(T:List Nat)(i k x:Nat)(hk:k<T.length):(T.set i x).getD k 0=if k=i then x else T.getD k 0:=by grind
theorem yx(T:List Nat)(i j:Nat)(hj:j+i+1=T.length)(a:i<j):((vY T i).set i ((vY T i).getD j 0)).set j ((vY T i).getD i 0)=vY T (i+1):=by
 refine jZ (by simp[fI]) (fun k hk=>?_)
 simp only[bK,fI] at hk;rw[rO _ _ _ _ (by rw[bK,fI];exact hk),rO _ _ _ _ (by rw[fI];exact hk),jI T (i+1) k hk,jI T i k hk,jI T i j (by omega),jI T i i (by omega)]
 grind
theorem Cm(T:List Nat)(i:Nat)(a:T.length<=2*i+1):vY T i=T.reverse:=by
 refine jZ (by simp[fI]) (fun k hk=>?_)
 rw[fI] at hk;rw[jI T i k hk,bD (l:=T.reverse),List.getElem?_reverse hk,<-bD]
 grind
theorem tS(T:List Nat)(i x:Nat):(Jp T).set i (Z .u8 (x:Int))=Jp (T.set i x):=by simp[Jp]
def DV(w:TQ)(B:Nat)(v:TR)(T:List Nat)(a b:TR)(wr:TQ):Prop:=
 ∃i:Nat,a=Z Y i/\b=Z Y ((T.length:Int)-1-(i:Int))/\2*i<=T.length+1/\Hid (IL wr B 5 1 v T.length (Jp (vY T i)))/\Hid (w.grownBy wr v.ownBlock)
theorem vO(B:Nat)(v:TR)(T:List Nat)(w:TQ)(h:IL w B 5 1 v T.length (Jp T))(I:T.length<=1000000000):
  TS TX 164 #[v] w (fun e w'=>e=SA (SD #[])/\IL w' B 5 1 v T.length (Jp T.reverse)/\w.grownBy w' v.ownBlock):=by
 obtain⟨t,o,rfl,_,_,_⟩:=h.shape;have y:=aJ h;clear h;go_enter func164,ntmps164;go_wp2;go_loopw [2,3] (fun m F wr=>DV w B (.slice t T.length o) T m F wr) (fun m _ _=>T.length+1-(intOf m).toNat)
 case atStart=>exact⟨0,rfl,by simp,by omega,aJ (by rw[yw];exact y),aJ (World.grownBy.refl _ _)⟩
 obtain⟨i,rfl,rfl,_,a,f⟩:=hrel
 by_cases A:2*i+1<T.length
 ·obtain⟨j,hj⟩:∃j,j+i+1=T.length:=⟨T.length-1-i,by omega⟩
  have k:(T.length:Int)-1-(i:Int)=(j:Int):=by omega
  rw[k];obtain⟨ga,_,l,_,_,_,_⟩:=a.out.form (by omega)
  injection l with hA _ hc
  subst hA;subst hc;have C:(i:Int)<(j:Int):=by omega
  have n:=aJ (yx T i j hj (by omega))
  have b:=aJ (fI T i)
  generalize vY T i=U at *;have J:(0:Int)<=(i:Int):=by omega
  have L:(i:Int)<(T.length:Int):=by omega
  have j0:(0:Int)<=(j:Int):=by omega
  have N:(j:Int)<(T.length:Int):=by omega
  obtain⟨c1,f1⟩:=a.out.cellAt ((gi U i (by have:=b.out;omega)).trans rfl)
  obtain⟨c2,f2⟩:=a.out.cellAt ((gi U j (by have:=b.out;omega)).trans rfl)
  obtain⟨r,c⟩:∃x,U.getD i 0=x:=⟨_,rfl⟩
  obtain⟨s,d⟩:∃x,U.getD j 0=x:=⟨_,rfl⟩
  rw[c] at c1;rw[d] at c2;have g:=n.out;rw[c,d] at g;obtain⟨h1,p⟩:=a.Nh i (Z .u8 (s:Int));obtain⟨h2,q⟩:=IL.Nh h1 j (Z .u8 (r:Int));rw[tS,tS,g] at h2;have z:Hid (DV w B (.slice (X ⟨ga,0,V⟩) T.length o) T (Z Y ((i:Int)+1)) (Z Y ((j:Int)-1)) (((wr.setCell ⟨ga,i,V⟩ (Z .u8 (s:Int))).setCell ⟨ga,j,V⟩ (Z .u8 (r:Int))).drew)):=aJ ⟨i+1,rfl,by
   have e:(j:Int)-1=(T.length:Int)-1-((i+1:Nat):Int):=by omega
   rw[e],by omega,aJ (h2.up ((ID.refl _).drew)),aJ (f.trans ((p.trans q).trans ⟨rfl,rfl,rfl,bM _,fun _ _ _=>rfl⟩))⟩
  clear h1 h2 p q g c d n b a f;go_upto_region 3 with fail
  go_region_with (fail)
  all_goals
   go_wp2
   go_roundw
  all_goals first
   |exact z
   |(simp[intOf];omega)
 have u:Hid (vY T i=T.reverse):=aJ (Cm T i (by omega))
 rw[u.out] at a;have D:¬((i:Int)<(T.length:Int)-1-(i:Int)):=by omega
 go_wp2
 go_end0
 exact⟨rfl,a,f⟩
theorem Bk.has{al:List (Sp×Og)}{p:Sp}{t:List Nat}{n:Nat}(h:Bk al p t n):∃o,lk al p=X o/\((o.root=G/\t=[]/\n=0)\/(o.root=O/\∃t' d,n=d+1/\Bk al o.JD t' d/\((o.over=O/\t=t')\/(o.over=G/\t=t'++[o.c])))):=by
 cases h with
 |root _ o h1 h2=>exact⟨o,h1,bX ⟨h2,rfl,rfl⟩⟩
 |KX _ o _ n h1 h2 a b=>exact⟨o,h1,bY ⟨h2,t,n,rfl,b,bX ⟨a,rfl⟩⟩⟩
 |over _ o t' n h1 h2 a b=>grind
def ux(o:Og):List TR:=[Z Y (o.JD.s:Int),K o.JD.b,K o.JD.e,K o.root,K o.over,Z .u8 (o.c:Int)]
def MA(w:TQ)(k:Nat)(o:Og):Prop:=w.heap[k]? =X (H (ux o).toArray 190 (0,0))
theorem MA.cells{o:Og}(h:MA w k o):w.cell? ⟨k,0,V⟩=X (Z Y (o.JD.s:Int))/\w.cell? ⟨k,1,V⟩=X (K o.JD.b)/\w.cell? ⟨k,2,V⟩=X (K o.JD.e)/\w.cell? ⟨k,3,V⟩=X (K o.root)/\w.cell? ⟨k,4,V⟩=X (K o.over)/\w.cell? ⟨k,5,V⟩=X (Z .u8 (o.c:Int)):=
 ⟨by rw[aK w k 0 _ _ _ h];rfl,by rw[aK w k 1 _ _ _ h];rfl,by rw[aK w k 2 _ _ _ h];rfl,by rw[aK w k 3 _ _ _ h];rfl,by rw[aK w k 4 _ _ _ h];rfl,by rw[aK w k 5 _ _ _ h];rfl⟩
def DL(W:TQ)(k:Nat)(o:Og):TQ:=(((((W.setCell ⟨k,0,V⟩ (Z Y (o.JD.s:Int))).setCell ⟨k,1,V⟩ (K o.JD.b)).setCell ⟨k,2,V⟩ (K o.JD.e)).setCell ⟨k,3,V⟩ (K o.root)).setCell ⟨k,4,V⟩ (K o.over)).setCell ⟨k,5,V⟩ (Z .u8 (o.c:Int))
theorem Eu{o a:Og}(h:MA W k o):MA (DL W k a).drew k a:=by
 have d:=aO W k 0 _ _ (Z Y (a.JD.s:Int)) h
 have q1:=aO _ k 1 _ _ (K a.JD.b) d
 have f:=aO _ k 2 _ _ (K a.JD.e) q1
 have g:=aO _ k 3 _ _ (K a.root) f
 have i:=aO _ k 4 _ _ (K a.over) g
 have j:=aO _ k 5 _ _ (Z .u8 (a.c:Int)) i
 have e:∀W:TQ,W.drew.heap=W.heap:=fun _=>rfl
 unfold MA DL;rw[e,j];simp[ux]
theorem yS(h:ID w W)(hk:w.heap.size<=k)(i:Nat)(u:TR):ID w (W.setCell ⟨k,i,V⟩ u):=h.setCell hk u
theorem Cg(h:ID w W)(hk:w.heap.size<=k)(o:Og):ID w (DL W k o).drew:=by grind [ID.drew,DL,yS]
theorem io{s:Nat}{n:Nat}(h:IL W B e s v n xs)(hk:X k≠v.ownBlock)(i:Nat)(u:TR):IL (W.setCell ⟨k,i,V⟩ u) B e s v n xs:=
 bT h (jU W k i u) (bY (fun e=>hk e.symm))
theorem Cf{s:Nat}{n:Nat}(h:IL W B e s v n xs)(hk:X k≠v.ownBlock)(o:Og):IL (DL W k o).drew B e s v n xs:=by
 unfold DL;exact IL.up (io (io (io (io (io (io h hk 0 _) hk 1 _) hk 2 _) hk 3 _) hk 4 _) hk 5 _) (ID.refl _).drew
def DS(w:TQ)(T t':List Nat)(kb:Nat)(o:Og)(a:TR)(wr:TQ):Prop:=
 ∃IW:List Nat,Hid (MA wr kb o)/\Hid (T=t'++IW.reverse)/\Hid (IL wr w.heap.size 5 1 a IW.length (Jp IW))/\Hid (ID w wr)/\IW.length<=100000/\t'.length+IW.length<=100000
def AW(w:TQ)(al:List (Sp×Og))(T:List Nat)(gk:Nat)(a b:TR)(wr:TQ):Prop:=
 ∃(p:Sp) (o:Og) (t IW:List Nat) (kb:Nat),b=M (X ⟨kb,0,V⟩)/\Hid (w.heap.size<=kb)/\Hid (MA wr kb o)/\Hid (lk al p=X o)/\Hid (Bk al p t gk)/\Hid (T=t++IW.reverse)/\Hid (IL wr w.heap.size 5 1 a IW.length (Jp IW))/\Hid (ID w wr)/\IW.length<=100000/\t.length+IW.length<=100000
theorem yi(w0:TQ)(B g b:Nat)(st:List Nd)(A:Option TT)(c:Nat)(al:List (Sp×Og))(w:TQ)(h:SK w0 w B g b st A c al)(ai:∀p,(lk al p).isSome=G->p.s<1000000)(p:Sp)(T:List Nat)(n:Nat)(hb:Bk al p T n)(hT:T.length<=100000):
  TS TX 87 #[M (X ⟨g,0,V⟩),nV p] w (fun e w'=>∃v,e=SA v/\IL w' w.heap.size 5 1 v T.length (Jp T)/\ID w w'):=by
 have HH:=aJ h
 have HB:=aJ hb
 have ap:=aJ ai
 obtain⟨o,N,_⟩:=hb.has;have ac:=aJ N;have aG:p.s<1000000:=ai p (by rw[N];rfl)
 have aq:=aJ (fun w' (k:ID w w')=>(h.up k).map.look aG N)
 have au:Hid (∀v w',IL w' w.heap.size 5 1 v T.length (Jp T)->ID w w'->∃v',SZ v=SA v'/\IL w' w.heap.size 5 1 v' T.length (Jp T)/\ID w w'):=aJ (fun v w' h1 h2=>⟨v,rfl,h1,h2⟩)
 have aB:=aM w (H (dH p).toArray 188)
 have ak:=(ID.refl w).alloc (H (dH p).toArray 188)
 have aI:Hid (p=p):=aJ rfl
 have aH:Hid (∃q,q=p):=aJ ⟨p,rfl⟩
 obtain⟨ps,pb,R⟩:=p;obtain⟨⟨fs,i,j⟩,rt,m,ch⟩:=o;unfold nV sa at *;unfold dH at *;simp only at *;go_enter func87,ntmps87;go_upto_region 2 with fail
 generalize w.alloc (H #[Z Y (ps:Int),.bool pb,.bool R] 188)=W at *;have J:=aJ ak;have C:=aJ aB;have az:Hid (w.heap.size<=W.heap.size):=aJ ak.size;have aa:Hid (∀w',ID W w'->ID W w'/\w'.cell? ⟨g,1,V⟩=X (.map (X b))/\w'.cell? ⟨w.heap.size,0,V⟩=X (Z Y (ps:Int))/\w'.cell? ⟨w.heap.size,1,V⟩=X (.bool pb)/\w'.cell? ⟨w.heap.size,2,V⟩=X (.bool R)/\
   (Instr.lookup 182 (.map (X b)) (SF #[Z Y (ps:Int),.bool pb,.bool R]) O).run TX w'= .ok (SF #[Z Y (fs:Int),.bool i,.bool j,.bool rt,.bool m,Z .u8 (ch:Int)]) w'):=aJ (fun w' k=>
  ⟨k,(HH.up (J.up k)).cells.2,by rw[aK w' w.heap.size 0 _ _ _ (k.block C.out)];rfl,by rw[aK w' w.heap.size 1 _ _ _ (k.block C.out)];rfl,by rw[aK w' w.heap.size 2 _ _ _ (k.block C.out)];rfl,aq w' (J.up k)⟩)
 go_cut [6] (fun v wx=>∃kb,v=M (X ⟨kb,0,V⟩)/\Hid (W.heap.size<=kb/\MA wx kb ⟨⟨fs,i,j⟩,rt,m,ch⟩)/\Hid (ID W wx))
 case first=>
  go_region_held3 (fun w'=>ID W w'/\w'.cell? ⟨g,1,V⟩=X (.map (X b))/\w'.cell? ⟨w.heap.size,0,V⟩=X (Z Y (ps:Int))/\w'.cell? ⟨w.heap.size,1,V⟩=X (.bool pb)/\w'.cell? ⟨w.heap.size,2,V⟩=X (.bool R)/\
   (Instr.lookup 182 (.map (X b)) (SF #[Z Y (ps:Int),.bool pb,.bool R]) O).run TX w'= .ok (SF #[Z Y (fs:Int),.bool i,.bool j,.bool rt,.bool m,Z .u8 (ch:Int)]) w') ((refine aa _ ?_;first|exact(ID.refl _).drew|exact((ID.refl _).alloc _).drew)) (fail)
  all_goals (go_wp2;go_meet;exact⟨_,rfl,aJ ⟨bM _,aM W _⟩,aJ (((ID.refl _).alloc _).drew)⟩)
 obtain⟨kb,rfl,D,ar⟩:=hcut;have HI:Hid (AW w al T n (U V 0 0) (M (X ⟨kb,0,V⟩)) wc):=aJ ⟨⟨ps,pb,R⟩,⟨⟨fs,i,j⟩,rt,m,ch⟩,T,[],kb,rfl,aJ (by have:=D.out.1;have:=az.out;omega),aJ D.2,ac,HB,aJ (by simp),aJ (IL.Jk _ _ _ _),aJ (J.up ar),by simp,by simpa using hT⟩
 go_wp2
 go_loopg [5,6] n (fun gk s5 s6 wr=>AW w al T gk s5 s6 wr)
 case atStart=>exact HI
 obtain⟨p,o,t,IW,kb,rfl,D,f,HL,ao,HT,d,I,L,u⟩:=hrel;obtain⟨o',r,l⟩:=ao.has;have aE:o'=o:=by have:=HL;rw[r] at this;injection this
 subst aE;obtain⟨_,_,rfl,_,_,_⟩:=d.shape;obtain⟨a0,a1,a2,a3,a4,a5⟩:=f.cells;have ac:=aJ r;obtain⟨⟨fs,i,j⟩,rt,m,ch⟩:=o';simp only at a0 a1 a2 a3 a4 a5 l;rcases l with⟨rfl,rfl,rfl⟩|⟨rfl,t',n',rfl,ah,aF⟩
 ·have HE:Hid (IW.reverse=T):=aJ (by have:=HT.out;simpa using this.symm)
  have HC:=aJ (vO w.heap.size _ IW wr d (by omega))
  go_wp2_with fail;refine(HC).mono ?_;rintro e w2 ⟨rfl,P,aD⟩;have HX:=aJ (au _ w2 (by rw[<-HE.out,List.length_reverse];exact P) (IL.IU I d (bM _) aD))
  go_wp2
  go_ret;exact HX
 have ab:=aJ ah
 obtain⟨o2,P,_⟩:=ah.has;have F:=aJ P;go_upto_block 1 with fail
 go_cut [5] (fun v5 wx=>DS w T t' kb ⟨⟨fs,i,j⟩,O,m,ch⟩ v5 wx)
 case first=>
  rcases aF with⟨rfl,rfl⟩|⟨rfl,rfl⟩
  ·go_wp2
   go_meet;exact⟨IW,f,HT,d,I,L,u⟩
  have ay:=aJ I.size
  rw[bF,bG] at u;go_wp2_with (at_builtin;refine aw (wr:=wr) rfl _ _ 40 rfl _ 5 (Z .u8 0) 1 1 underlying40 uN rfl (by decide) (by decide) _ _ _ rfl d 1 1 [Z .u8 (ch:Int)] rfl rfl rfl rfl ?pn1 ay ?_)
  case pn1=>omega
  intro v' w2 k hg hd;have ae:=aJ (show MA w2 kb _ from(hg.block kb (aQ f) (fo d f (by decide))).trans f)
  have r:IL w2 w.heap.size 5 1 v' (IW++[ch]).length (Jp (IW++[ch])):=by rw[bF,bG];unfold Jp at k ⊢;rw[S8];exact k
  have HM:Hid (DS w T t' kb ⟨⟨fs,i,j⟩,O,G,ch⟩ v' w2):=aJ ⟨IW++[ch],ae,aJ (by rw[HT.out,List.reverse_append];simp),aJ r,aJ (hd w I (bM _)),by rw[bF,bG];omega,by rw[bF,bG];omega⟩
  obtain⟨A2,c2,rfl,_,_,_⟩:=k.shape;go_wp2;go_meet;exact HM
 obtain⟨z,f,HT,d,I,L,u⟩:=hcut;obtain⟨an,aA,rfl,_,_,_⟩:=d.shape;obtain⟨a0,a1,a2,a3,a4,a5⟩:=f.cells;simp only at a0 a1 a2 a3 a4 a5;have aC:=aM wc (H #[Z Y (fs:Int),.bool i,.bool j,.bool O,.bool m,Z .u8 (ch:Int)] 190);have am:=(ID.refl wc).alloc (H #[Z Y (fs:Int),.bool i,.bool j,.bool O,.bool m,Z .u8 (ch:Int)] 190);go_upto_region 4 with fail
 generalize wc.alloc (H #[Z Y (fs:Int),.bool i,.bool j,.bool O,.bool m,Z .u8 (ch:Int)] 190)=W4 at *;have x:Hid (w.heap.size<=wc.heap.size):=aJ I.size;have ad:=aJ (I.up am);have y:=aJ (d.up am);have af:=aJ (HH.up ad);have a:Hid (MA W4 wc.heap.size ⟨⟨fs,i,j⟩,O,m,ch⟩):=aJ aC;generalize wc.heap.size=kb6 at *;have aj:=(af.up (ID.refl _).drew).map.look (ap _ (by rw[F.out];rfl)) F
 obtain⟨⟨gs,gb,ge⟩,r2,v2,ag⟩:=o2;unfold nV sa at aj;simp only at aj;obtain⟨_,_⟩:=af.cells;obtain⟨b0,b1,b2,b3,b4,b5⟩:=a.cells;simp only at b0 b1 b2 b3 b4 b5;have f0:W4.frozen? ⟨kb6,0,V⟩=O:=aN W4 kb6 0 _ _ a;have f1:W4.frozen? ⟨kb6,1,V⟩=O:=aN W4 kb6 1 _ _ a;have f2:W4.frozen? ⟨kb6,2,V⟩=O:=aN W4 kb6 2 _ _ a;have f3:W4.frozen? ⟨kb6,3,V⟩=O:=aN W4 kb6 3 _ _ a;have f4:W4.frozen? ⟨kb6,4,V⟩=O:=aN W4 kb6 4 _ _ a;have f5:W4.frozen? ⟨kb6,5,V⟩=O:=aN W4 kb6 5 _ _ a;have HW:Hid (AW w al T n' (U an z.length aA) (M (X ⟨kb6,0,V⟩)) (DL W4 kb6 ⟨⟨gs,gb,ge⟩,r2,v2,ag⟩).drew):=aJ ⟨⟨fs,i,j⟩,⟨⟨gs,gb,ge⟩,r2,v2,ag⟩,t',z,kb6,rfl,x,aJ (Eu a),F,ab,HT,aJ (Cf y (fo y a (by decide)) _),aJ (Cg ad x _),L,u⟩
 unfold DL at HW;simp only at HW;refine wp_region_still_tail 7 (by kernel_rfl) (by kernel_rfl) ?_
 simp only[List.take_succ_cons,Tl,List.drop_succ_cons,Tm];refine mS (fun S ax aL av=>?_)
 iterate 7 (refine ax _ _ _ (by kernel_rfl) (fun K hK=>?_);go_simp;refine hK _ ?_;clear hK K)
 refine av _ ?_;go_wp2;go_roundg n'
 case rel=>exact HW
 omega
theorem sq(st:List Nd):bw st=decide (1<=st.length/\st.length<=513/\∀i,i<st.length->kS st.length (nd st i)):=by
 unfold bw;rw[decide_eq_decide];constructor
 ·rintro⟨h1,h2,b⟩;refine⟨h1,h2,fun i a=>b _ ?_⟩
  unfold nd;rw[bD,bE a];exact bH a
 rintro⟨h1,h2,b⟩;refine⟨h1,h2,fun x hx=>?_⟩
 obtain⟨i,a,rfl⟩:=Tb.mp hx;have:=b i a;unfold nd at this;rw[bD,bE a] at this;exact this
def gA(n:Nat)(x:Int):Bool:=decide (x<0\/(n:Int)<=x)
theorem uB(b n c:Nat)(A:Option TT)(x:Int)(w:TQ)(g:w.cell? ⟨b,0,V⟩=X (U A n c)):
  TS TX 160 #[Z Y x,M (X ⟨b,0,V⟩)] w fun e w'=>e=SA (K (gA n x))/\w=w':=by
 by_cases h1:x<0
 ·have d:decide (x<0)=G:=decide_eq_true h1
  have a:Hid (gA n x=G):=aJ (decide_eq_true (bX h1))
  go_enter func160,ntmps160
  go_wp2
  go_ret;rw[a.out];exact⟨rfl,rfl⟩
 skip
 by_cases h2:(n:Int)<=x
 ·have a:Hid (gA n x=G):=aJ (decide_eq_true (bY h2))
  have f:decide ((n:Int)<=x)=G:=decide_eq_true h2
  go_enter func160,ntmps160
  go_wp2
  go_ret;rw[a.out];exact⟨rfl,rfl⟩
 have a:Hid (gA n x=O):=aJ (decide_eq_false (by rintro(h|h);exact h1 h;exact h2 h))
 go_enter func160,ntmps160
 go_wp2
 go_ret;rw[a.out];exact⟨rfl,rfl⟩
def pw(a:TQ)(st:List Nd)(v:TR)(wr:TQ):Prop:=
 ∃i:Nat,v=Z Y i/\i<=st.length/\Hid (∀s,s<i->kS st.length (nd st s))/\Hid (ID a wr)
theorem fh{n:Nat}(h:gA n x=O):0<=x/\x<n:=by
 have:=of_decide_eq_false h
 omega
theorem fJ{n:Nat}(h:gA n x=G):¬(0<=x/\x<n):=by
 have:=of_decide_eq_true h
 omega
theorem CC(A:Option TT)(c:Nat)(st:List Nd)(w:TQ)(hs:Rs w A (cR st))(hm:st.length<=maxLen):
  TS TX 83 #[U A st.length c] w (jE (K (bw st)) w):=by
 have HS:=aJ hs
 unfold maxLen at hm;have r:=aJ (sq st);have o:=aJ ((ID.refl w).alloc (H #[U A st.length c] 112));have z:Hid ((w.alloc (H #[U A st.length c] 112)).cell? ⟨w.heap.size,0,V⟩=X (U A st.length c)):=aJ (by rw[aK _ _ 0 _ _ _ (aM w _)];rfl)
 clear hs
 by_cases R:st.length=0
 ·have d0:((st.length:Int)==0)=G:=by simpa using R
  have g:Hid (bw st=O):=aJ (by rw[r.out];exact decide_eq_false (fun h=>by omega))
  clear R;go_enter func83,ntmps83;go_wp2;go_ret;rw[g.out];exact⟨rfl,o⟩
 have d0:((st.length:Int)==0)=O:=by simpa using R
 by_cases h5:513<st.length
 ·have d5:(513:Int)<(st.length:Int):=by omega
  have g:Hid (bw st=O):=aJ (by rw[r.out];exact decide_eq_false (fun h=>by omega))
  clear R;go_enter func83,ntmps83;go_wp2;go_ret;rw[g.out];exact⟨rfl,o⟩
 have d5:¬(513:Int)<(st.length:Int):=by omega
 go_enter func83,ntmps83
 go_upto_region 4 with fail
 have ab:=z.out
 generalize w.alloc (H #[U A st.length c] 112)=w1 at *;generalize w.heap.size=kb at *;go_wp2;clear ab d0 d5;go_loopw [17] (fun C wr=>pw w1 st C wr) (fun C _=>st.length-(intOf C).toNat)
 case atStart=>exact⟨0,rfl,bO _,aJ (fun s hs=>by omega),aJ (ID.refl _)⟩
 obtain⟨i,rfl,_,S,J⟩:=hrel
 by_cases l:i<st.length
 ·have i1:(i:Int)<(st.length:Int):=by omega
  have i0:(0:Int)<=(i:Int):=by omega
  obtain⟨b,off,rfl,_,k⟩:=(HS.up (o.up J)).at_ (by rw[aX];omega)
  have hx:st[i]? =X (nd st i):=by unfold nd;rw[bD,bE l];rfl
  have x:=cf st i _ hx
  have D:=k _ _ (x 0 (by omega))
  have c1:=k _ _ (x 1 (by omega))
  have c2:=k _ _ (x 2 (by omega))
  have L:=k _ _ (x 3 (by omega))
  have c4:=k _ _ (x 4 (by omega))
  have N:=k _ _ (x 5 (by omega))
  have P:=k _ _ (x 6 (by omega))
  rw[<-SV] at D c1 c2 L c4 N P;rw[SU] at D;have d:Hid (kS st.length (nd st i)->∀s,s<i+1->kS st.length (nd st s)):=aJ (fun h s hs=>by
   by_cases e:s=i
   ·subst e;exact h
   exact S s (by omega))
  have a:Hid (¬kS st.length (nd st i)->bw st=O):=aJ (fun h=>by rw[r.out];exact decide_eq_false (fun q=>h (q.2.2 i l)))
  clear k hx S x;generalize nd st i=y at *;obtain⟨f,lf,rt,m⟩:=y
  replace D:wr.cell? ⟨b,off+i*7,V⟩=X (Z Y f):=D
  replace c1:wr.cell? ⟨b,off+i*7+1,V⟩=X (Z Y lf):=c1
  replace c2:wr.cell? ⟨b,off+i*7+2,V⟩=X (Z Y rt):=c2
  replace L:wr.cell? ⟨b,off+i*7+3,V⟩=X (Z E (ae m 0)):=L
  replace c4:wr.cell? ⟨b,off+i*7+4,V⟩=X (Z E (ae m 1)):=c4
  replace N:wr.cell? ⟨b,off+i*7+5,V⟩=X (Z E (ae m 2)):=N
  replace P:wr.cell? ⟨b,off+i*7+6,V⟩=X (Z E (ae m 3)):=P
  go_upto_region 7 with fail
  have I:Mi (wr.alloc (H (an ⟨f,lf,rt,m⟩).toArray 179)) wr.heap.size ⟨f,lf,rt,m⟩:=aM wr _
  have j:=aJ (J.alloc (H (an ⟨f,lf,rt,m⟩).toArray 179))
  have F:wr.alloc (H #[Z Y f,Z Y lf,Z Y rt,Z E (ae m 0),Z E (ae m 1),Z E (ae m 2),Z E (ae m 3)] 179)=wr.alloc (H (an ⟨f,lf,rt,m⟩).toArray 179):=rfl
  rw[F];generalize wr.alloc (H (an ⟨f,lf,rt,m⟩).toArray 179)=W at *;generalize wr.heap.size=k7 at *;clear D c1 c2 L c4 N P F J;obtain⟨p0,p1,p2,_⟩:=I.cells;simp only at p0 p1 p2;clear I;have u:=aJ (uB kb st.length c _ lf W (j.cell z));have n:=aJ (o.up j)
  by_cases B:f=1\/f=2\/f=3\/f=4\/f=5
  ·rcases B with rfl|rfl|rfl|rfl|rfl
   ·go_wp2_with fail;refine(u).mono ?_;rintro e W2 ⟨rfl,rfl⟩;cases p:gA st.length lf with
    |true=>
     have g:=aJ (a (fun h=>fJ p (h.2.2.1 (by simp))))
     clear a d;go_wp2;go_ret;rw[g.out];exact⟨rfl,n⟩
    |false=>
     have t:Hid (pw w1 st (Z Y ((i+1:Nat):Int)) W):=aJ ⟨i+1,rfl,l,aJ (d ⟨by simp only;omega,by simp only;omega,fun _=>fh p,fun e=>by simp at e⟩),j⟩
     clear a d;go_wp2;go_roundw
     case rel=>exact t
     simp[intOf];omega
   ·have aa:=aJ (uB kb st.length c _ rt W (j.cell z))
    go_wp2_with fail;refine(u).mono ?_;rintro e W2 ⟨rfl,rfl⟩;cases p:gA st.length lf with
    |true=>
     have g:=aJ (a (fun h=>fJ p (h.2.2.1 (by simp))))
     clear a d;go_wp2;go_ret;rw[g.out];exact⟨rfl,n⟩
    |false=>
     go_wp2_with fail;refine(aa).mono ?_;rintro e _ ⟨rfl,rfl⟩;cases hr:gA st.length rt with
     |true=>
      have g:=aJ (a (fun h=>fJ hr (h.2.2.2 rfl)))
      clear a d;go_wp2;go_ret;rw[g.out];exact⟨rfl,n⟩
     |false=>
      have t:Hid (pw w1 st (Z Y ((i+1:Nat):Int)) W):=aJ ⟨i+1,rfl,l,aJ (d ⟨by simp only;omega,by simp only;omega,fun _=>fh p,fun _=>fh hr⟩),j⟩
      clear a d;go_wp2;go_roundw
      case rel=>exact t
      simp[intOf];omega
   ·go_wp2_with fail;refine(u).mono ?_;rintro e W2 ⟨rfl,rfl⟩;cases p:gA st.length lf with
    |true=>
     have g:=aJ (a (fun h=>fJ p (h.2.2.1 (by simp))))
     clear a d;go_wp2;go_ret;rw[g.out];exact⟨rfl,n⟩
    |false=>
     have t:Hid (pw w1 st (Z Y ((i+1:Nat):Int)) W):=aJ ⟨i+1,rfl,l,aJ (d ⟨by simp only;omega,by simp only;omega,fun _=>fh p,fun e=>by simp at e⟩),j⟩
     clear a d;go_wp2;go_roundw
     case rel=>exact t
     simp[intOf];omega
   ·go_wp2_with fail;refine(u).mono ?_;rintro e W2 ⟨rfl,rfl⟩;cases p:gA st.length lf with
    |true=>
     have g:=aJ (a (fun h=>fJ p (h.2.2.1 (by simp))))
     clear a d;go_wp2;go_ret;rw[g.out];exact⟨rfl,n⟩
    |false=>
     have t:Hid (pw w1 st (Z Y ((i+1:Nat):Int)) W):=aJ ⟨i+1,rfl,l,aJ (d ⟨by simp only;omega,by simp only;omega,fun _=>fh p,fun e=>by simp at e⟩),j⟩
     clear a d;go_wp2;go_roundw
     case rel=>exact t
     simp[intOf];omega
   have t:Hid (pw w1 st (Z Y ((i+1:Nat):Int)) W):=aJ ⟨i+1,rfl,l,aJ (d ⟨by simp only;omega,by simp only;omega,fun e=>absurd rfl e,fun e=>by simp at e⟩),j⟩
   clear a d;go_wp2;go_roundw
   case rel=>exact t
   simp[intOf];omega
  have b1:(f==1)=O:=by simp;omega
  have b2:(f==2)=O:=by simp;omega
  have b3:(f==3)=O:=by simp;omega
  have b4:(f==4)=O:=by simp;omega
  have b5:(f==5)=O:=by simp;omega
  have T:=aJ (fun h:kS st.length ⟨f,lf,rt,m⟩=>B (by have q1:=h.1;have q2:=h.2.1;simp only at q1 q2;omega))
  clear B;have g:=aJ (a T);clear a d;go_wp2;go_ret;rw[g.out];exact⟨rfl,n⟩
 obtain rfl:i=st.length:=by omega
 have g:Hid (bw st=G):=aJ (by rw[r.out];exact decide_eq_true ⟨by omega,by omega,S⟩)
 go_wp2
 go_ret;rw[g.out];exact⟨rfl,o.up J⟩
def kF(w:TQ)(st:List Nd)(e:TU)(w':TQ):Prop:=
 ∃(v:TR) (r:Option (List Nat)),e=SA (SD #[v,K r.isSome])/\IL w' w.heap.size 5 1 v (r.getD []).length (Jp (r.getD []))/\(bw st=G->rY st r)/\(bw st=O->r=V)/\ID w w'
def AZ(w e:TQ)(B g b:Nat)(st:List Nd)(A:Option TT)(c:Nat)(gk:Nat)(a:TR)(wr:TQ):Prop:=
 ∃(d:Nat) (al:List (Sp×Og)) (L:List Sp),Hid (SK e wr B g b st A c al)/\Hid (IL wr B 188 3 a L.length (fw L))/\Hid (KB st d al L)/\gk=2*(4*st.length-al.length)+(if L=[] then 0 else 1)/\(L≠[]->d+1<=al.length)
theorem t6{st:List Nd}{p:Sp}{Ja:Bool}(h:lS st Ja p=G):(nd st p.s).IF=5/\p.e=Ja:=by grind [lS]
theorem o8{st:List Nd}{p:Sp}{Ja:Bool}(h:lS st Ja p=O)(hk:(nd st p.s).IF=5):p.e= !Ja:=by grind [lS]
theorem ro(A:Option TT)(c:Nat)(st:List Nd)(w:TQ)(hs:Rs w A (cR st))(hm:st.length<=maxLen):
  TS TX 40 #[U A st.length c] w (kF w st):=by
 have aa:=aJ (CC A c st w hs hm)
 have HS:=aJ hs
 have ak:Hid (∀v r w',IL w' w.heap.size 5 1 v (r.getD []).length (Jp (r.getD []))->(bw st=G->rY st r)->(bw st=O->r=V)->ID w w'->kF w st (SA (SD #[v,K r.isSome])) w'):=aJ (fun v r w' h1 h2 h3 h4=>⟨v,r,rfl,h1,h2,h3,h4⟩)
 clear hs hm;cases hv:bw st with
 |false=>
  have HX:=aJ (fun w' h=>ak (U V 0 0) V w' (IL.Jk _ _ _ _) (fun e=>by rw[hv] at e;cases e) (fun _=>rfl) h)
  rw[hv] at aa;clear ak hv;go_enter func40,ntmps40;go_wp2_with fail;refine(aa).mono ?_;rintro e a ⟨rfl,ab⟩;have HY:=aJ (HX a ab);clear ab HX aa;go_wp2;refine aP (v:=SD #[U V 0 0,K O]) (by simp[results,results40,go_sem]) rfl ?_
  exact HY
 |true=>
  have HV:=aJ hv
  have HQ:Hid (∀v r w',IL w' w.heap.size 5 1 v (r.getD []).length (Jp (r.getD []))->rY st r->ID w w'->kF w st (SA (SD #[v,K r.isSome])) w'):=aJ (fun v r w' h1 h2 h4=>ak v r w' h1 (fun _=>h2) (fun e=>by rw[HV.out] at e;cases e) h4)
  rw[hv] at aa;obtain⟨h1,h2,_⟩:=bi hv;have a8:=@run_makeMap TX;clear hv ak;go_enter func40,ntmps40;go_wp2_with fail;refine(aa).mono ?_;rintro e a ⟨rfl,ab⟩;have ao:=aJ ab;have aZ:=aJ (HS.up ab);clear ab aa HS;go_upto_region 4 with fail
  have a3:=aM a (.map #[] 0)
  have aR:=(ID.refl a).alloc (.map #[] 0)
  have aU:=Li.made a
  have ax:=aM (a.alloc (.map #[] 0)) (H #[U A st.length c,.map (X a.heap.size)] 184)
  have aC:=(ID.refl (a.alloc (.map #[] 0))).alloc (H #[U A st.length c,.map (X a.heap.size)] 184)
  rw[Hg] at ax;have aT:SK a ((a.alloc (.map #[] 0)).alloc (H #[U A st.length c,.map (X a.heap.size)] 184)) (a.heap.size+2) (a.heap.size+1) a.heap.size st A c []:=
   ⟨aR.up aC,aZ,ax,aU.up aC,Tz _,bM _,by omega,by omega,by omega,by simp⟩
  generalize (a.alloc (.map #[] 0)).alloc (H #[U A st.length c,.map (X a.heap.size)] 184)=W at *;generalize hB:a.heap.size+2=B at *;generalize hG:a.heap.size+1=g at *;generalize a.heap.size=b at *;clear a3 aR aU ax aC a8 hB hG;have hc:=mC a B g b st A c (U V 0 0) [] [] W aT (IL.Jk _ _ _ _) (by simp) (by simp) iE (by decide) ⟨⟨0,O,O⟩,G,O,0⟩ (show(0:Nat)<256 by decide)
  unfold nV sa iE at hc;simp only at hc;rw[show((0:Nat):Int)=0 from rfl] at hc
  have HC:=aJ hc
  clear hc aT;go_wp2_with fail;refine(HC).mono ?_;rintro e w2 ⟨aE,rfl,ae,F,_⟩;have HI:Hid (AZ w a B g b st A c (2*(4*st.length-1)+1) aE w2):=aJ ⟨0,_,_,aJ ae,aJ F,aJ (KB.start h1 _ rfl),rfl,fun _=>bM _⟩
  obtain⟨A2,c2,rfl,_,_,_⟩:=F.shape;clear ae F HC;go_wp2;go_loopg [5] (2*(4*st.length-1)+1) (fun gk s5 wr=>AZ w a B g b st A c gk s5 wr)
  case atStart=>exact HI
  clear HI;obtain⟨d,al,L,J,I,f,rfl,a4⟩:=hrel;obtain⟨_,_,rfl,_,_,_⟩:=I.shape;have bd:=f.JO.JA;have bg:=f.JO.k5
  by_cases hL:L=[]
  ·subst hL;have HX:=aJ (HQ (U V 0 0) V wr (IL.Jk _ _ _ _) f.MZ (ao.up J.I5));clear HQ J I f;go_wp2;refine aP (v:=SD #[U V 0 0,K O]) (by simp[results,results40,go_sem]) rfl ?_
   exact HX
  have a2:1<=L.length:=by cases L with
   |nil=>exact absurd rfl hL
   |cons x l=>simp
  have bc:=a4 hL
  have HC:=aJ (yk a B g b st A c d _ al L wr J I HV f a2)
  clear J I f;go_wp2_with fail;refine(HC).mono ?_;rintro e bb ⟨aE,R,L2,rfl,ae,F,ad,aV,_,_⟩;have a5:=ad.JO.JA;have be:=ad.JO.k5;have aA:∀p∈L2,p.s<st.length:=fun p hp=>by
   obtain⟨t,n,_,o,_⟩:=ad.JO.k3 p ((ad.JO.k1 p).2 (bY hp));exact SR.lt HV o
  have aF:=aJ (t7 a B g b st A c aE R L2 O bb ae F aA (by omega))
  have J:=aJ ae
  have I:=aJ F
  have f:=aJ ad
  have P:=aJ aV
  have aq:=aJ aA
  obtain⟨_,_,rfl,_,_,_⟩:=F.shape;clear ae F ad aV aA HC;go_wp2_with fail;refine(aF).mono ?_;rintro e w3 ⟨_,rfl,a9,ay⟩;have z:=aJ (J.up ay);have j:=aJ (I.up ay);clear ay aF J I;rcases a9 with⟨rfl,aB⟩|⟨i,rfl,hi,C⟩
  ·have au:=aJ (fun p hp hk=>o8 (aB p hp) hk)
   have aG:=aJ (t7 a B g b st A c _ R L2 G w3 z j aq (by omega))
   have aY:=aJ aB
   clear aB;go_wp2_with fail;refine(aG).mono ?_;rintro e w4 ⟨_,rfl,a',az⟩;have S:=aJ (z.up az);have u:=aJ (j.up az);clear az aG z j;rcases a' with⟨rfl,aQ⟩|⟨i,rfl,hi,C⟩
   ·have aL:Hid (∀p∈L2,iO st (d+1) p):=aJ (fun p hp=>(f.full P p).1 ((f.JO.k1 p).2 (bY hp)))
    have aI:Hid (∀p∈L2,(nd st p.s).IF≠5):=aJ (fun p hp hk=>by
     have q1:=au p hp hk
     have q2:=o8 (aQ p hp) hk
     rw[q1] at q2;cases q2)
    have aH:=aJ (Et a B g b st A c d _ R L2 w4 S u HV (f.nxt P) aL (by omega))
    go_wp2_with fail;refine(aH).mono ?_;rintro e w5 ⟨ba,ag,N,rfl,aS,m,aO,_⟩;have ap:Hid (KB st (d+1) ag N):=aJ (aO.head (f.part P) f.Mc aI);have a6:=ap.JO.JA;have HW:Hid (AZ w a B g b st A c (2*(4*st.length-ag.length)+(if N=[] then 0 else 1)) ba w5):=aJ ⟨d+1,ag,N,aJ aS,aJ m,ap,rfl,fun hN=>by
     have:1<=N.length:=by cases N with
      |nil=>exact absurd rfl hN
      |cons x l=>simp
     omega⟩
    have aX:Hid (2*(4*st.length-ag.length)+(if N=[] then 0 else 1)<2*(4*st.length-al.length)+(if L=[] then 0 else 1)):=aJ (by
     rw[ng_ hL]
     by_cases hN:N=[]
     ·rw[ps_ hN];omega
     rw[ng_ hN];have:1<=N.length:=by cases N with
      |nil=>exact absurd rfl hN
      |cons x l=>simp
     omega)
    obtain⟨A5,c5,rfl,_,_,_⟩:=m.shape;clear aS m aO aH S u f P aL aI ap HQ;go_wp2;go_roundg (2*(4*st.length-ag.length)+(if N=[] then 0 else 1))
    case rel=>exact HW
    have:=aX
    rw[ng_ hL] at this;exact this
   obtain⟨D,ai⟩:=t6 C;have k:L2.getD i iE∈L2:=gm_ hi;obtain⟨T,n,ah,o,av⟩:=f.JO.k3 _ ((f.JO.k1 _).2 (bY k));have ar:=aJ (f.Oz (f.part P) (fun p hp hk=>au p hp hk) k D ai o av)
   clear au aY;have aj:∀p,(lk R p).isSome=G->p.s<1000000:=fun p hp=>by
    obtain⟨t,n,_,o,_⟩:=f.JO.k3 p hp;have:=SR.lt HV o;omega
   obtain⟨ga,_,aD,_,_,_,_⟩:=u.out.form (by omega)
   injection aD with hA _ hc
   subst hA;subst hc;have q0:=(u.cellAt ((da L2 i hi 0 (by omega)).trans rfl)).1
   have q1:=(u.cellAt ((da L2 i hi 1 (by omega)).trans rfl)).1
   have q2:=(u.cellAt ((da L2 i hi 2 (by omega)).trans rfl)).1
   rw[SU] at q0;have i1:(i:Int)<(L2.length:Int):=by omega
   have i0:(0:Int)<=(i:Int):=by omega
   have y:=yi a B g b st A c R w4 S aj (L2.getD i iE) T n ah (by omega)
   have a1:Hid (T.length<=100000):=aJ (by omega)
   have q:=aJ (ao.up S.I5)
   clear k ah o D ai C aj;generalize L2.getD i iE=p at *;obtain⟨ps,pb,_⟩:=p;unfold nV at y;simp only at y q0 q1 q2;have af:=aJ y;clear y f P aq;go_wp2_with fail;refine(af).mono ?_;rintro e w5 ⟨v5,rfl,m,ac⟩;clear af q0 q1 q2;have bf:T.length<=100000:=a1;have a0:=aJ ac.size;have aW:=aJ (q.up ac);have aK:=aJ m;obtain⟨A5,c5,rfl,_,_,_⟩:=m.shape;clear m ac;go_wp2_with (at_builtin;refine aw (wr:=w5) rfl _ _ 40 rfl _ 5 (Z .u8 0) 1 1 underlying40 uN rfl (by decide) (by decide) _ _ _ rfl aK 1 1 [Z .u8 10] rfl rfl rfl rfl ?pn1 a0 ?_)
   case pn1=>omega
   intro v6 w6 am a7 aN;have an:IL w6 w4.heap.size 5 1 v6 (T++[10]).length (Jp (T++[10])):=by rw[bF,bG];unfold Jp at am ⊢;rw[S8];exact am
   have HX:=aJ (HQ v6 (X (T++[10])) w6 (an.base q.size) ar (aN w aW q.size))
   obtain⟨A6,c6,rfl,_,_,_⟩:=am.shape;clear am an a7 aN aK HQ;go_wp2;refine aP (v:=SD #[U A6 (T.length+1) c6,K G]) (by simp[results,results40,go_sem]) rfl ?_
   exact HX
  obtain⟨D,ai⟩:=t6 C;have k:L2.getD i iE∈L2:=gm_ hi;obtain⟨T,n,ah,o,av⟩:=f.JO.k3 _ ((f.JO.k1 _).2 (bY k));have ar:=aJ (f.Jr k D ai o av);have aj:∀p,(lk R p).isSome=G->p.s<1000000:=fun p hp=>by
   obtain⟨t,n,_,o,_⟩:=f.JO.k3 p hp;have:=SR.lt HV o;omega
  obtain⟨ga,_,aD,_,_,_,_⟩:=j.out.form (by omega)
  injection aD with hA _ hc
  subst hA;subst hc;have q0:=(j.cellAt ((da L2 i hi 0 (by omega)).trans rfl)).1
  have q1:=(j.cellAt ((da L2 i hi 1 (by omega)).trans rfl)).1
  have q2:=(j.cellAt ((da L2 i hi 2 (by omega)).trans rfl)).1
  rw[SU] at q0;have i1:(i:Int)<(L2.length:Int):=by omega
  have i0:(0:Int)<=(i:Int):=by omega
  have y:=yi a B g b st A c R w3 z aj (L2.getD i iE) T n ah (by omega)
  have q:=aJ (ao.up z.I5)
  clear k ah o D ai C aj;generalize L2.getD i iE=p at *;obtain⟨ps,pb,_⟩:=p;unfold nV at y;simp only at y q0 q1 q2;have af:=aJ y;clear y f P aq;go_wp2_with fail;refine(af).mono ?_;rintro e w5 ⟨v5,rfl,m,ac⟩;clear af q0 q1 q2;have HX:=aJ (HQ v5 (X T) w5 (m.base q.size) ar (q.up ac));obtain⟨A5,c5,rfl,_,_,_⟩:=m.shape;clear m ac HQ;go_wp2;refine aP (v:=SD #[U A5 T.length c5,K G]) (by simp[results,results40,go_sem]) rfl ?_
  exact HX
structure LB(s:ByteArray)(l:List Nd):Prop where
 par:jn (6*(bs s).length+6) (bs s)=some (l,0)
 val:bZ l=true
 OV:∀x∈l,fM x.set
 JA:l.length<=256
 PS:∃t,LV (aY l) t
 Qp:Nz s
def Gn(s:ByteArray)(t:List Nat):Bool:=
 match jn (6*(bs s).length+6) (bs s) with
 |some (l,e)=>(l.all fun x=>decide (x.set<2^256))&&e==0&&bZ l&&decide (0<=df (aY l) t)&&decide (l.length<=256)&&(bs s).all fun x=>x !=92
 |none=>O
theorem LB.pr{l:List Nd}(h:LB s l):cO (bs s)=(l,0):=by unfold cO;rw[h.par];rfl
theorem iI{t:List Nat}(j:∀x∈t,x<256)(h:Gn s t=G):∃l,LB s l:=by
 unfold Gn at h;cases b:jn (6*(bs s).length+6) (bs s) with
 |none=>rw[b] at h;cases h
 |some r=>
  obtain⟨l,e⟩:=r;rw[b] at h;simp only[To,beq_iff_eq,decide_eq_true_iff,Tp] at h;obtain⟨⟨⟨⟨⟨c,rfl⟩,hv⟩,_⟩,i⟩,a⟩:=h;have d:=(jk hv).2.1;refine⟨l,⟨b,hv,c,i,?_,Nz.of (Tp.mpr a)⟩⟩;rcases gJ d t with⟨n,h1,h2,f,_⟩|⟨h1,_⟩
  ·obtain⟨t',g,_⟩:=jD h1 j f;exact⟨t',g⟩
  omega
def ej:List ByteArray:=[⟨#[111,107]⟩,⟨#[]⟩,⟨#[114,46,42,121,36]⟩,⟨#[94,117,112,124,103,111,43]⟩,⟨#[91,48,45,57,93,43,120,63]⟩,⟨#[40,97,98,41,42,99]⟩,⟨#[94,36]⟩]
theorem kN:∀s∈ej,∃l,LB s l:=by
 intro s hs;simp only[ej,SI,SP,or_false] at hs;rcases hs with rfl|rfl|rfl|rfl|rfl|rfl|rfl
 ·exact iI (t:=[111,107]) (by decide) (by decide+kernel)
 ·exact iI (t:=[]) (by decide) (by decide+kernel)
 ·exact iI (t:=[114,121,10]) (by decide) (by decide+kernel)
 ·exact iI (t:=[117,112]) (by decide) (by decide+kernel)
 ·exact iI (t:=[48]) (by decide) (by decide+kernel)
 ·exact iI (t:=[99]) (by decide) (by decide+kernel)
 exact iI (t:=[10]) (by decide) (by decide+kernel)
theorem GN(s:ByteArray)(l:List Nd)(w:TQ)(h:LB s l):
  TS TX 147 #[Q s] w (RO_ .nilIface w):=by
 obtain⟨D,hv,g,_,hs,x⟩:=h;obtain⟨_,i,q,p,u⟩:=jk hv;have z:=aJ (pM _ s (l,0) w D x rfl);have y:=aJ (fun W A c (d:Rs W A (cR l))=>sQ A c l W d (by unfold maxLen;omega) g)
 have I:=aJ hv
 have B:=aJ (fun W A c (d:Rs W A (cR (aY l)))=>ro A c (aY l) W d (by unfold maxLen;omega))
 have n:=aJ i
 have m:=aJ hs
 clear D hv g hs i q p u;go_enter func147,ntmps147;go_wp2_with fail;refine(z).mono ?_;rintro e J ⟨v,rfl,f,hd⟩;obtain⟨A,c,rfl,b,_,_⟩:=f.shape;have C:=aJ b.rs;have F:=aJ hd;clear f b hd z;simp only at C;go_wp2_with fail;refine(y J A c C).mono ?_;rintro e w2 ⟨hx,_,hd⟩;obtain⟨v,rfl,f⟩:=hx I;obtain⟨A2,c2,rfl,b,_,_⟩:=f.shape;have o:=aJ b.rs;have j:=aJ (F.up hd);clear f b hd hx y;go_wp2_with fail;refine(B w2 A2 c2 o).mono ?_;rintro e _ ⟨v,r,rfl,_,hm,_,hd⟩;have d:r.isSome=G:=by
  cases r with
  |some a=>rfl
  |none=>
   obtain⟨t,b⟩:=m;exact absurd b (hm n t)
 rw[d];have k:=aJ (j.up hd);clear hd hm d B;go_wp2;go_ret;exact⟨rfl,k⟩
namespace Gp
def M0(ks:List Nat)(tk:List Bool):Bool:=ks.any fun k=> !tk.getD k O
def Nn(ns:List (List Nat))(tk:List Bool)(i:Nat):Bool:= !tk.getD i O&& !M0 (ns.getD i []) tk
def Lu(ns:List (List Nat)):Nat->List Nat->List Bool->List Nat×List Bool
 |0,l,tk=>(l,tk)
 |f+1,l,tk=>match (S3 ns.length).find? (Nn ns tk) with
  |none=>(l,tk)
  |some i=>Lu ns f (l++[i]) (tk.set i G)
def ord(ns:List (List Nat)):List Nat×List Bool:=Lu ns ns.length [] (Tc ns.length O)
theorem NK{tk:List Bool}(h:∀i,i<ns.length->Nn ns tk i=O)(f:Nat)(l:List Nat):Lu ns f l tk=(l,tk):=by
 cases f with
 |zero=>rfl
 |succ f=>
  have e:(S3 ns.length).find? (Nn ns tk)=V:=by grind
  rw[Lu,e]
theorem NJ{tk:List Bool}(b:i<ns.length)(h:Nn ns tk i=G)(a:∀j,j<i->Nn ns tk j=O)(f:Nat)(l:List Nat):
  Lu ns (f+1) l tk=Lu ns f (l++[i]) (tk.set i G):=by
 have e:(S3 ns.length).find? (Nn ns tk)=X i:=by simp_all
 rw[Lu,e]
def wait(tk:List Bool):Nat:=tk.count O
theorem NY{tk:List Bool}(a:i<tk.length)(h:tk.getD i O=O):wait tk=wait (tk.set i G)+1:=by grind [wait]
theorem Ml(n:Nat):wait (Tc n O)=n:=by simp[wait]
end Gp
def M7(w:TQ)(A:Option TT)(ns:List (List Nat)):Prop:=∃cells:List TR,cells.length=ns.length/\Rs w A cells/\∀i,i<ns.length->∃A' c',cells[i]? =X (U A' (ns.getD i []).length c')/\Ts w 3 A' (aW (aH (ns.getD i [])))
theorem M7.up(h:M7 w A ns)(a:ID w w'):M7 w' A ns:=by
 obtain⟨cells,h1,h2,b⟩:=h;refine⟨cells,h1,h2.up a,fun i e=>?_⟩
 obtain⟨A',c',c,d⟩:=b i e;exact⟨A',c',c,d.up a⟩
structure OJ(w0 w:TQ)(b g:Nat)(l:List Nat)(tk:List Bool)(v:TR):Prop where
 box:∃fz,w.heap[b]? =some (.cells #[.slice (some ⟨g,0,none⟩) tk.length tk.length] 104 fz)
 row:IL w w0.heap.size 4 1 (.slice (some ⟨g,0,none⟩) tk.length tk.length) tk.length (lh tk)
 Pa:IL w w0.heap.size 3 1 v l.length (aW (aH l))
 I5:ID w0 w
theorem OJ.tkb{b:Nat}{tk:List Bool}(h:OJ w0 w b g l tk v):Hh w b tk:=by
 obtain⟨fz,d⟩:=h.box;refine⟨_,_,aK _ _ 0 _ _ _ d,?_⟩
 by_cases a:tk.length=0
 ·rw[Tq a];exact Rs.Jk
 obtain⟨A,c,e,t,_,_⟩:=h.row.shape;injection e with e _ _
 rw[e];exact t.rs
theorem OJ.take{b:Nat}{tk:List Bool}(h:OJ w0 w b g l tk v)(i:Nat):OJ w0 (w.setCell ⟨g,i,V⟩ (K G)) b g l (tk.set i G) v:=by
 have hs:=h.row.Nh i (K G)
 obtain⟨fz,a⟩:=h.box;have e:(lh tk).set i (K G)=lh (tk.set i G):=by simp[lh,List.map_set]
 refine⟨⟨fz,?_⟩,?_,IL.grown h.Pa h.row (by decide) hs.2,IL.IU h.I5 h.row (bM _) hs.2⟩
 ·rw[bK];exact h.row.keeps hs.2 a (by decide)
 grind
theorem OJ.push{b:Nat}{tk:List Bool}(h:OJ w0 w b g l tk v)(a:w.grownBy w' v.ownBlock)(d:IL w' w0.heap.size 3 1 v' (l.length+1) (aW (aH l)++[Z Y (i:Int)])):
  OJ w0 w' b g (l++[i]) tk v':=by
 obtain⟨fz,c⟩:=h.box;refine⟨⟨fz,h.Pa.keeps a c (by decide)⟩,IL.grown h.row h.Pa (by decide) a,?_,IL.IU h.I5 h.Pa (bM _) a⟩
 rw[bF,show aH (l++[i])=aH l++[(i:Int)] by simp[aH],<-oU]
 exact d
theorem mv{P:Program}{a:Act}{Q:Exit->Act->TQ->Prop}{c rest:Code}(l:Nat)(J:Act->TQ->Prop)(μ:Act->TQ->Nat)(d:findLabel c l=X (Code.skip.seq rest))
  (pass:∀a w,J a w->rest.wp P (Exit.jump l (fun a' w'=>J a' w'/\μ a' w'<μ a w) Q) a w)
  (first:(∀a w,J a w->rest.wp P (Exit.jump l J Q) a w)->c.wp P (Exit.jump l J Q) a w):(Code.scope c).wp P Q a w:=
 wp_scope_jumps l J μ d (first (fun a w h=>wp_mono (pass a w h) (fun e a' w' b=>by cases e<;>first|exact b|exact⟨b.1,b.2.1⟩)))
  (fun a w h=>wp_seq (wp_skip (pass a w h)))
def zw:TR->Nat| .slice _ n _=>n|_=>0
def GJ(w:TQ)(A:Option TT)(c:Nat)(ns:List (List Nat))(a:Act)(wr:TQ):Prop:=
 ∃(b g:Nat) (l:List Nat) (tk:List Bool) (A1:Option TT) (c1:Nat) (W u8 u9 d e f h i j k m n o p q r s t u x y z B C D F I J L N P R S T:TR),a={tmps:=#[U A ns.length c,aR,U V 0 0,U V 0 0,U A1 l.length c1,M (X ⟨b,0,V⟩),.func (.func 76) #[] #[M (X ⟨b,0,V⟩)],W,u8,u9,d,e,f,h,i,j,k,m,n,o,p,q,r,s,t,u,x,y,z,B,C,D,F,I,J,L,N,P,R,S,T],defers:=[]}/\
  Hid (OJ w wr b g l tk (U A1 l.length c1))/\tk.length=ns.length/\Hid (Gp.Lu ns (Gp.wait tk) l tk=Gp.ord ns)/\l.length+Gp.wait tk=ns.length
def mM(w:TQ)(ns:List (List Nat))(e:TU)(w':TQ):Prop:=
 ∃(g:Nat) (A1:Option TT) (c1:Nat),e=SA (SD #[U A1 (Gp.ord ns).1.length c1,U (X ⟨g,0,V⟩) ns.length ns.length])/\IL w' w.heap.size 4 1 (U (X ⟨g,0,V⟩) ns.length ns.length) ns.length (lh (Gp.ord ns).2)/\IL w' w.heap.size 3 1 (U A1 (Gp.ord ns).1.length c1) (Gp.ord ns).1.length (aW (aH (Gp.ord ns).1))/\ID w w'
theorem rF:(TX.info? 4).map (fun i=>(i.zero,i.size,i.bytes))=X (X (K O),1,1):=by kernel_rfl
theorem C6(A:Option TT)(c:Nat)(ns:List (List Nat))(w:TQ)(R:M7 w A ns)(hn:ns.length<=1000000)
  (hk:∀i,i<ns.length->(ns.getD i []).length<=1000000/\∀j,j<(ns.getD i []).length->(ns.getD i []).getD j 0<ns.length):
  TS TX 36 #[U A ns.length c] w (mM w ns):=by
 have ab:=aJ R
 have HK:=aJ hk
 clear R hk;go_enter func36,ntmps36;go_wp2_with fail;refine mv 0 (GJ w A c ns) (fun a _=>ns.length-zw (a.tmps.getD 4 aR)) rfl ?pass ?first
 case first=>
  intro again;go_wp2_with (at_make;refine dN rfl _ _ 104 rfl 4 (K O) 1 1 underlying104 rF (by decide) Y Y _ _ ns.length rfl rfl ?pl2 ?pc2 ?pn2 ?_)
  case pl2=>omega
  case pc2=>omega
  case pn2=>omega
  intro w1 ah af;go_wp2;go_step3
  rename_i hK
  refine hK _ _ (again _ _ ?_);clear hK again;have e1:lh (Tc ns.length O)=(madeCells #[Value.bool O] ns.length).toList:=by
   unfold madeCells;rw[Array.toList_map,Array.toList_range];apply Ty
   ·simp[lh]
   intro i h1 h2;simp[lh,Nat.mod_one]
  refine⟨_,_,[],Tc ns.length O,V,0,_,_,_,_,_,_,_,_,_,_,_,_,_,_,_,_,_,_,_,_,_,_,_,_,_,_,_,_,_,_,_,_,_,_,rfl,aJ ⟨⟨_,by rw[Tr];exact aM w1 _⟩,?_,(IL.Jk _ _ _ _),af.alloc _⟩,Tr,aJ (by rw[Gp.Ml];rfl),by rw[Gp.Ml];simp⟩
  rw[Tr,e1];exact ah.alloc _
 rintro a' w' ⟨b,g,l,tk,A1,c1,u7,u8,u9,ak,al,am,an,ao,ap,aq,ar,au,av,ax,ay,az,aA,aB,aC,aD,aE,aF,aG,aH,aI,aL,aN,aO,aQ,aS,aT,aU,aV,aW,rfl,p,r,HR,ai⟩;obtain⟨fz,F⟩:=p.box;have ad:=aK _ _ 0 _ _ _ F;have z:=aJ p.tkb;rw[r] at ad;clear F;go_wp2;go_loopw [4,14] (fun v4 i wr=>∃k:Nat,v4=U A1 l.length c1/\k<=ns.length/\i=Z Y k/\wr=w'/\Hid (∀j,j<k->Gp.Nn ns tk j=O)) (fun _ i _=>ns.length-(intOf i).toNat)
 case atStart=>exact⟨0,rfl,bO _,rfl,rfl,aJ (fun j hj=>by omega)⟩
 obtain⟨k,rfl,hk,rfl,rfl,s⟩:=hrel
 by_cases t:k<ns.length
 ·have d1:=p.out.row.cellAt (qg tk k (by omega))
  obtain⟨cells,ae,J,L⟩:=ab.up p.I5;obtain⟨A',c',I,S⟩:=L k t;obtain⟨b2,off,rfl,_,hc⟩:=J.at_ (by omega)
  have d2:=hc _ _ I
  obtain⟨B,C⟩:=HK k t;have x:=aJ (E9 A' c' (ns.getD k []) tk b wr S z (fun j hj=>by rw[r];exact C j hj) (by omega) B)
  have m:Hid (Gp.Nn ns tk k=O->∀j,j<k+1->Gp.Nn ns tk j=O):=aJ (fun h j hj=>by
   by_cases e:j=k
   ·rw[e];exact h
   exact s j (by omega))
  have HF:Hid (∀v f,tk.getD k O=v->Gp.M0 (ns.getD k []) tk=f->Gp.Nn ns tk k=(!v&& !f)):=aJ (fun v f h1 h2=>by rw[Gp.Nn,h1,h2])
  have D:((ns.getD k []).any fun k=> !tk.getD k O)=Gp.M0 (ns.getD k []) tk:=rfl
  have o:Hid (Gp.Nn ns tk k=G->tk.getD k O=O->Gp.wait tk=Gp.wait (tk.set k G)+1/\Gp.Lu ns (Gp.wait (tk.set k G)) (l++[k]) (tk.set k G)=Gp.ord ns):=aJ (fun h hv=>by
   have e:=Gp.NY (by omega) hv
   refine⟨e,?_⟩;rw[<-HR.out,e,Gp.NJ t h s.out])
  rw[D] at x;clear ae J L I S hc B C D;obtain⟨f,hf⟩:∃f,Gp.M0 (ns.getD k []) tk=f:=⟨_,rfl⟩
  obtain⟨v,hv⟩:∃v,tk.getD k O=v:=⟨_,rfl⟩
  have T:=aJ hv
  have d:=aJ (HF v f hv hf)
  rw[hf] at x;rw[hv] at d1;clear hf hv HF;generalize (ns.getD k []).length=nk at *;cases v with
  |true=>
   have HX:=aJ (m d)
   clear x d T m o s;go_wp2;go_roundw
   case rel=>exact⟨k+1,rfl,by omega,by go_num,by trivial,HX⟩
   simp[intOf];omega
  |false=>
   go_wp2_with fail;refine(x).mono ?_;rintro e w2 ⟨rfl,rfl⟩;cases f with
   |true=>
    have HX:=aJ (m d)
    clear x d T m o s;go_wp2;go_roundw
    case rel=>exact⟨k+1,rfl,by omega,by go_num,by trivial,HX⟩
    simp[intOf];omega
   |false=>
    obtain⟨aj,P⟩:=o d T;have W:=aJ P;clear P;have q:=aJ (p.take k);have hsz:w.heap.size<=(w2.setCell ⟨g,k,V⟩ (K G)).heap.size:=q.I5.size;clear x d T m o s;go_upto_region 9 with fail
    generalize (w2.setCell ⟨g,k,V⟩ (K G))=W2 at *;go_wp2_with (at_builtin;refine aw (wr:=W2) rfl _ _ 22 rfl _ 3 (Z Y 0) 1 8 underlying22 iq rfl (by decide) (by decide) _ _ _ rfl q.Pa 1 1 [Z Y (k:Int)] rfl rfl rfl rfl ?pn1 hsz ?_)
    case pn1=>omega
    intro v3 w3 u N ag;have y:=q.push N u;obtain⟨A3,c3,rfl,_,_,_⟩:=u.shape;have aa:=aJ y;clear u N ag q y;go_wp2;go_step3;refine⟨rfl,⟨b,g,l++[k],tk.set k G,A3,c3,_,_,_,_,_,_,_,_,_,_,_,_,_,_,_,_,_,_,_,_,_,_,_,_,_,_,_,_,_,_,_,_,_,_,by rw[bF];rfl,aJ ?_,by rw[bK];exact r,W,?_⟩,?_⟩
    ·rw[bF];exact aa
    ·rw[bF,bG];omega
    simp[zw];omega
 obtain rfl:k=ns.length:=by omega
 have HE:=aJ ((Gp.NK s (Gp.wait tk) l).symm.trans HR)
 have ac:Hid (∀n,mM w ns (SA (SD #[U A1 l.length c1,U (X ⟨g,0,V⟩) ns.length ns.length])) (wr.drewN n)):=aJ (fun n=>by
  have hr:=p.row
  rw[r] at hr;unfold mM;rw[<-HE.out];exact⟨g,A1,c1,rfl,hr.up ((ID.refl _).drewN n),p.Pa.up ((ID.refl _).drewN n),p.I5.drewN n⟩)
 clear s z HE HR p;go_wp2;go_quiet (fail);go_wp2;simp only[Exit.jump];refine aP (by first|(simp[results,results36,go_sem];done)|(simp[results,results36,go_sem];rfl)) rfl (ac _)
namespace Gp
def J9(l:List Jd):List (List Nat):=(S3 l.length).map (IC l)
theorem Kx(l:List Jd):(J9 l).length=l.length:=by simp[J9]
theorem Mt(l:List Jd)(i:Nat)(h:i<l.length):(J9 l).getD i []=IC l i:=by grind [J9]
theorem K3(l:List Jd)(i:Nat):(IC l i).length<=l.length:=by
 have h:=List.length_filter_le (fun k=>(NG l i).contains k) (S3 l.length)
 rw[List.length_range] at h;exact h
theorem Lv(l:List Jd)(i j:Nat)(hj:j<(IC l i).length):(IC l i).getD j 0<l.length:=by
 have e:(IC l i).getD j 0=(IC l i)[j]:=by grind
 rw[e];have h:(IC l i)[j]∈IC l i:=bH hj;unfold IC at h;exact List.mem_range.mp (List.mem_filter.mp h).1
def IP(l:List Jd):List Nat:=(ord (J9 l)).1
def Kq(l:List Jd):Prop:=∀i,i<l.length->(ord (J9 l)).2.getD i O=G
end Gp
theorem IL.Qn{base:Nat}{size n:Nat}(h:IL w base e size (U (X ⟨g,0,V⟩) n c) n xs):Rs w (X ⟨g,0,V⟩) xs:=by
 obtain⟨A,c,e,t,_,_⟩:=h.shape;injection e with e _ _
 rw[e];exact t.rs
theorem Ol.row{l:List Jd}{cells:List TR}{base:Nat}(h:Ol w l cells l.length)(b:IL w base 22 1 (U (X ⟨g,0,V⟩) l.length c) l.length cells):M7 w (X ⟨g,0,V⟩) (Gp.J9 l):=by
 refine⟨cells,?_,b.Qn,fun i a=>?_⟩
 ·rw[Gp.Kx];have:=b.len;omega
 rw[Gp.Kx] at a;rw[Gp.Mt l i a];exact h i a
theorem AH(l:List Jd)(a:l.length<=1000000):∀i,i<(Gp.J9 l).length->((Gp.J9 l).getD i []).length<=1000000/\∀j,j<((Gp.J9 l).getD i []).length->((Gp.J9 l).getD i []).getD j 0<(Gp.J9 l).length:=by grind [Gp.Kx,Gp.Mt,Gp.K3,Gp.Lv]
theorem uU(l:List Jd)(a:l.length<=1000000)(g c:Nat)(w:TQ)(h:M7 w (X ⟨g,0,V⟩) (Gp.J9 l)):
  TS TX 36 #[U (X ⟨g,0,V⟩) l.length c] w (mM w (Gp.J9 l)):=by
 have:=C6 (X ⟨g,0,V⟩) c (Gp.J9 l) w h (by rw[Gp.Kx];exact a) (AH l a)
 rw[Gp.Kx] at this;exact this
theorem uW(A:Option TT)(c:Nat)(l:List Jd)(w:TQ)(a:JL w A l)(n:l.length<=1000000)(m:∀j∈l,j.IC.length<=1000000):
  TS TX 16 #[U A l.length c] w (nQ w 3 1 (Gp.IP l).length (aW (aH (Gp.IP l)))):=by
 have f:=aJ (zX A c l w a n m)
 have k:=aJ (fun g c w (h:M7 w (X ⟨g,0,V⟩) (Gp.J9 l))=>uU l n g c w h)
 clear a m;go_enter func16,ntmps16;go_wp2_with fail;refine(f).mono ?_;rintro e r ⟨g,c1,cells,rfl,o,b,hd⟩;have i:=aJ (b.row o);have d:=aJ hd;clear b o hd;go_wp2_with fail;refine(k g c1 r i).mono ?_;rintro e w2 ⟨_,A1,c2,rfl,q,a,hd⟩;have p:Hid (nQ w 3 1 (Gp.IP l).length (aW (aH (Gp.IP l))) (SA (U A1 (Gp.IP l).length c2)) w2):=aJ ⟨_,rfl,a.base d.size,d.up hd⟩;clear q a hd i d f k;rw[show(Gp.ord (Gp.J9 l)).1=Gp.IP l from rfl]
 go_wp2
 go_ret;exact p
theorem If(A:Option TT)(n c:Nat)(tk:List Bool)(w:TQ)(f:Rs w A (lh tk))(d:tk.length=n)(a:∀i,i<n->tk.getD i O=G)(l:n<=1000000):
  TS TX 149 #[U A n c,K O] w fun e w'=>e=SA (Z Y (-1))/\w'=w:=by
 have h:=aJ f
 have g:=aJ a
 clear f a;go_enter func149,ntmps149;go_wp2;go_loopw [8] (fun i wr=>∃k:Nat,k<=n/\i=Z Y k/\wr=w) (fun i _=>n-(intOf i).toNat)
 case atStart=>exact⟨0,bO _,rfl,rfl⟩
 obtain⟨k,hk,rfl,rfl⟩:=hrel
 by_cases b:k<n
 ·obtain⟨b2,off,rfl,_,hc⟩:=h.out.at_ (by rw[kE];omega)
  have j:=hc _ _ (qg tk k (by omega))
  rw[g.out k b] at j;clear hc;go_wp2;go_roundw
  case rel=>exact⟨k+1,by omega,by go_num,by trivial⟩
  simp[intOf];omega
 obtain rfl:k=n:=by omega
 go_wp2
 go_ret;exact⟨rfl,rfl⟩
theorem C9(A:Option TT)(c:Nat)(l:List Jd)(w:TQ)(f:JL w A l)(x:l.length<=1000000)(u:∀j∈l,j.IC.length<=1000000)(b:Gp.Kq l):
  TS TX 70 #[U A l.length c] w (RO_ (U V 0 0) w):=by
 have p:=aJ (zX A c l w f x u)
 have t:=aJ (fun g c w (h:M7 w (X ⟨g,0,V⟩) (Gp.J9 l))=>uU l x g c w h)
 have q:=aJ b
 have m:=Gp.Kx l
 clear f u b;go_enter func70,ntmps70;go_wp2_with fail;refine(p).mono ?_;rintro e C ⟨g,c1,cells,rfl,y,d,hd⟩;have s:=aJ (d.row y);have r:=aJ hd;clear d y hd;go_wp2_with fail;refine(t g c1 C s).mono ?_;rintro e w2 ⟨B,A1,c2,rfl,o,f,hd⟩;have k:=aJ (r.up hd);have a:=o.len;rw[kE,Nat.mul_one] at a;have z:=aJ (fun W (h:ID w2 W)=>If (X ⟨B,0,V⟩) (Gp.J9 l).length (Gp.J9 l).length (Gp.ord (Gp.J9 l)).2 W (o.Qn.up h) a (fun i D=>q i (by omega)) (by omega))
 clear o f hd r s p t a q;generalize (Gp.ord (Gp.J9 l)).1.length=n1 at *;generalize (Gp.J9 l).length=n at *;subst m;go_wp2_with fail;refine(z _ ((ID.refl w2).alloc _)).mono ?_;rintro e _ ⟨rfl,rfl⟩;go_wp2;go_ret;exact⟨rfl,k.alloc _⟩
structure PN(l:List Jd)(i:Nat):Prop where
 own:Gp.ix l (l.getD i cE).nm=some i
 IC:∀k,k<(l.getD i cE).IC.length->Gp.ix l ((l.getD i cE).IC.getD k ⟨#[]⟩)≠none
 JA:(l.getD i cE).IC.length<=1000000
 rg:Oj (l.getD i cE)
 NU:(l.getD i cE).IQ=true->∃n,LB (l.getD i cE).ready n
structure LJ(l:List Jd):Prop where
 JA:l.length<=32
 each:∀i,i<l.length->PN l i
 PF:Gp.Kq l
theorem GQ(A:Option TT)(c:Nat)(l:List Jd)(i:Nat)(w:TQ)(g:JL w A l)(hi:i<l.length)(h:PN l i):
  TS TX 68 #[U A l.length c,Z Y (i:Int)] w (RO_ .nilIface w):=by
 have ab:=g.JA
 have HI:=aJ (fun W nm (m:ID w W)=>mK A c l nm W (g.up m))
 have u:=aJ (fun W b (m:ID w W) (hb:W.cell? ⟨b,0,V⟩=X (U A l.length c))=>Fl A (l.getD i cE).nA c (l.getD i cE).nc l (l.getD i cE).IC b W (g.up m) hb ((g.at_ hi).IC.up m) h.JA h.IC)
 have I:=aJ (fun W (m:ID w W)=>xy (l.getD i cE) W ((g.at_ hi).IK.up m) h.rg)
 have HP:=aJ (fun W n (z:LB (l.getD i cE).ready n)=>GN (l.getD i cE).ready n W z)
 have J:=aJ h.own
 have p:=aJ h.NU
 obtain⟨b,off,rfl,_,a⟩:=g.row (by omega)
 obtain⟨c0,c1,c2,c3,c4,c5,c6,c7,c8,c9,L,N,P,R,S⟩:=a i hi;clear a g h;generalize l.getD i cE=j at *;unfold dm at I;go_enter func68,ntmps68;have hW:Hid (∀W0,W0=(w.alloc (H #[U (X ⟨b,off,V⟩) l.length c] 23)).alloc (sV j)->ID w W0/\W0.heap[w.heap.size]? =X (H #[U (X ⟨b,off,V⟩) l.length c] 23 (0,0))/\W0.heap[w.heap.size+1]? =X (sV j)):=aJ (by
  rintro W0 rfl;exact⟨((ID.refl w).alloc _).alloc _,((ID.refl _).alloc _).block (aM w _),by
   rw[show w.heap.size+1=(w.alloc (H #[U (X ⟨b,off,V⟩) l.length c] 23)).heap.size by simp]
   exact aM _ _⟩)
 go_wp2_with fail;obtain⟨hO,s,t⟩:=hW.out _ rfl;refine(HI _ j.nm hO).mono ?_;rintro e w1 ⟨r,rfl,hp,hd⟩;have aa:r=(i:Int):=by
  rcases Gp.Nv hp with⟨_,e⟩|⟨k,_,rfl,e⟩
  ·rw[J.out] at e;cases e
  rw[J.out] at e;injection e with e;rw[e]
 subst aa;have q1:decide ((i:Int)<(i:Int))=O:=by simp
 have q:=hO.up hd
 have B:=aJ (hd.block t)
 have x:=(aK w1 w.heap.size 0 _ _ _ (hd.block s))
 replace x:w1.cell? ⟨w.heap.size,0,V⟩=X (U (X ⟨b,off,V⟩) l.length c):=x
 have T:=cr_ B 3 (U j.nA j.IC.length j.nc)
 have d:=aJ q
 have CB:=aJ x
 clear hd hp hO s t q c0 c1 c2 c3 c4 c5 c6 c7 c8 c9 L N P R S HI hW J x;go_wp2_with fail;refine(u _ _ d CB).mono ?_;rintro e w2 ⟨rfl,hd⟩;have C:=aJ (hd.block B);have f:=aJ (d.up hd);obtain⟨⟨_,_,_,_,e4,e5,_,_,_,_,_,_,_,_,_⟩,_⟩:=cQ C;clear hd u CB d B T q1;go_wp2_with fail;refine(I _ f).mono ?_;rintro e _ ⟨rfl,hd⟩;have o:=aJ (f.up hd);have D:=aJ (hd.block C);have e4:=cr_ D 4 (K j.IQ);have e5:=cr_ D 5 (Q j.ready);clear hd I f C D;cases y:j.IQ with
 |false=>
  rw[y] at e4;go_wp2_with fail;go_ret;exact⟨rfl,o⟩
 |true=>
  rw[y] at e4;obtain⟨n,z⟩:=p y;have u:=aJ z;clear y z p;go_wp2_with fail;refine(HP _ n u).mono ?_;rintro e w4 ⟨rfl,hd⟩;have F:=aJ (o.up hd);clear hd HP;go_wp2_with fail;go_ret;exact⟨rfl,F⟩
theorem Fp(A:Option TT)(c:Nat)(l:List Jd)(w:TQ)(f:JL w A l)(h:LJ l):
  TS TX 33 #[U A l.length c] w (RO_ .nilIface w):=by
 have o:=aJ (fun W i (m:ID w W) (a:i<l.length)=>GQ A c l i W (f.up m) a (h.each i a))
 have n:=aJ (fun W (m:ID w W)=>C9 A c l W (f.up m) (by have:=h.JA;omega) (fun j hj=>by
  obtain⟨i,a,rfl⟩:=Tb.mp hj;have:=(h.each i a).JA;rw[bD,bE a] at this;exact this) h.PF)
 have p:=h.JA
 have q1:decide ((32:Int)<(l.length:Int))=O:=by rw[decide_eq_false_iff_not];omega
 clear f h;go_enter func33,ntmps33;go_wp2;go_loopw [12] (fun i wr=>∃k:Nat,k<=l.length/\i=Z Y (k:Int)/\Hid (ID w wr)) (fun i _=>l.length-(intOf i).toNat)
 case atStart=>exact⟨0,bO _,rfl,aJ (ID.refl _)⟩
 obtain⟨k,hk,rfl,b⟩:=hrel
 by_cases g:k<l.length
 ·skip
  go_wp2_with fail;refine(o _ k b g).mono ?_;rintro e w2 ⟨rfl,hd⟩;have d:=aJ (b.up hd);clear hd;go_wp2;go_roundw
  case rel=>exact⟨k+1,by omega,by go_num,d⟩
  simp[intOf];omega
 obtain rfl:k=l.length:=by omega
 go_wp2_with fail;refine(n _ b).mono ?_;rintro e w2 ⟨rfl,hd⟩;have d:=aJ (b.up hd);clear hd;go_wp2;go_ret;exact⟨rfl,d⟩
def bC:TR:=SF #[Z Y 0,Z Y 0,Z Y 0]
theorem qd(A:Option TT)(c:Nat)(l:List Jd)(w:TQ)(j:JL w A l)(h:LJ l):
  TS TX 15 #[U A l.length c] w fun e w'=>e=SA bC/\ID w w':=by
 have i:=aJ (fun W (k:ID w W)=>Fp A c l W (j.up k) h)
 have b:=aJ ((ID.refl w).alloc (H #[Z Y 0,Z Y 0,Z Y 0] 29))
 have d:=aJ (aM w (H #[Z Y 0,Z Y 0,Z Y 0] 29))
 clear j h;go_enter func15,ntmps15;go_wp2_with fail;refine(i _ b).mono ?_;rintro e w2 ⟨rfl,hd⟩;have a:=aJ (hd.block d);have f:=aJ (b.up hd);have g:=aK w2 w.heap.size 0 _ _ _ a;have c1:=aK w2 w.heap.size 1 _ _ _ a;have c2:=aK w2 w.heap.size 2 _ _ _ a;have m:=aN w2 w.heap.size 0 _ _ a;have f1:=aN w2 w.heap.size 1 _ _ a;have f2:=aN w2 w.heap.size 2 _ _ a
 replace g:w2.cell? ⟨w.heap.size,0,V⟩=X (Z Y 0):=g
 replace c1:w2.cell? ⟨w.heap.size,1,V⟩=X (Z Y 0):=c1
 replace c2:w2.cell? ⟨w.heap.size,2,V⟩=X (Z Y 0):=c2
 clear hd i b d;go_wp2;refine aP (v:=bC) (by simp[results,results15,go_sem,bC,g,c1,c2]) rfl ⟨rfl,?_⟩
 exact((f.setCell (p:=⟨w.heap.size,0,V⟩) (bM _) _).setCell (p:=⟨w.heap.size,1,V⟩) (bM _) _).setCell (p:=⟨w.heap.size,2,V⟩) (bM _) _
def BA(w:TQ)(R:List IY)(e:TU)(w':TQ):Prop:=∃v,e=SA (SD #[v,bC])/\IL w' w.heap.size 146 4 v R.length (dK R)/\ID w w'
theorem dE{a b c:TR}(h:w.heap[k]? =X (H #[a,b,c] 29 (0,0))):w.cell? ⟨k,0,V⟩=X a/\w.cell? ⟨k,1,V⟩=X b/\w.cell? ⟨k,2,V⟩=X c/\w.frozen? ⟨k,0,V⟩=O/\w.frozen? ⟨k,1,V⟩=O/\w.frozen? ⟨k,2,V⟩=O:=
 ⟨(aK w k 0 _ _ _ h).trans rfl,(aK w k 1 _ _ _ h).trans rfl,(aK w k 2 _ _ _ h).trans rfl,aN w k 0 _ _ h,aN w k 1 _ _ h,aN w k 2 _ _ h⟩
theorem F8(s:ByteArray)(R:List IY)(w:TQ)(h:Lx.all (bs s)=X R):
  TS TX 64 #[Q s] w (BA w R):=by
 unfold Lx.all at h
 by_cases i:8192<(bs s).length
 ·rw[ps_ i] at h;cases h
 rw[ng_ i] at h;rw[af] at i;have q1:decide ((8192:Int)<(s.size:Int))=O:=by rw[decide_eq_false_iff_not];omega
 have o:=aJ (fun W=>Ef s R ((bs s).length+1) W (by omega) h)
 have c:=aJ ((ID.refl w).alloc (H #[Z Y 0,Z Y 0,Z Y 0] 29))
 have d:=aJ (aM w (H #[Z Y 0,Z Y 0,Z Y 0] 29))
 have k:Hid (∀v W,IL W w.heap.size 146 4 v R.length (dK R)->ID w W->BA w R (SA (SD #[v,bC])) W):=aJ (fun v W a b=>⟨v,rfl,a,b⟩)
 clear h i;go_enter func64,ntmps64;go_wp2_with fail;refine(o _).mono ?_;rintro e w2 ⟨v,rfl,l,hd⟩;have j:=aJ (hd.block d);have f:=aJ (c.up hd);have g:=aJ (l.base (by have:=c.size;exact this))
 obtain⟨t,c1,c2,_,f1,f2⟩:=dE j;have hne:v.ownBlock=V\/v.ownBlock≠X w.heap.size:=by
  cases hv:v.ownBlock with
  |none=>exact bX rfl
  |some q=>
   right
   intro e;injection e with e
   have:=(bU l q hv).1
   simp at this
   omega
 have r:Hid (∀x y z,IL (((w2.setCell ⟨w.heap.size,0,V⟩ x).setCell ⟨w.heap.size,1,V⟩ y).setCell ⟨w.heap.size,2,V⟩ z) w.heap.size 146 4 v R.length (dK R)/\ID w (((w2.setCell ⟨w.heap.size,0,V⟩ x).setCell ⟨w.heap.size,1,V⟩ y).setCell ⟨w.heap.size,2,V⟩ z)):=aJ (fun x y z=>
  ⟨bT (bT (bT g (ay _ _ 0 x) hne) (ay _ _ 1 y) hne) (ay _ _ 2 z) hne,((f.setCell (p:=⟨w.heap.size,0,V⟩) (bM _) _).setCell (p:=⟨w.heap.size,1,V⟩) (bM _) _).setCell (p:=⟨w.heap.size,2,V⟩) (bM _) _⟩)
 clear hd l c d f g o hne;go_wp2;obtain⟨m,n⟩:=r (Z Y 0) (Z Y 0) (Z Y 0);exact aP (v:=SD #[v,bC]) (by simp[results,results64,go_sem,bC,t,c1,c2]) rfl (k _ _ m n)
def cZ(t:IY):TR:=SF #[Z Y (t.IF:Int),Q (ab t.text),Z Y (t.IM:Int),Z Y (t.Jb:Int)]
def M8(T:List IY):Prop:=∀t∈T,∀x∈t.text,x<256
theorem jF{a b:List Nat}(ha:∀x∈a,x<256)(c:∀x∈b,x<256)(h:ab a=ab b):a=b:=by grind [fU]
structure GP(w0 w:TQ)(g:Nat)(A:Option TT)(c:Nat)(T:List IY)(a:Nat):Prop where
 gr:w0.grownBy w (some g)
 I2:w.heap[g]? =some (.cells #[.slice A T.length c,.int .i64 (a:Int)] 144 (0,0))
 tk:Ts w 146 A (dK T)
 JA:T.length<=100000
 lt:M8 T
section
variable {w0 w w' : TQ} {g : Nat} {A : Option TT} {c : Nat} {T : List IY} {a : Nat}
theorem GP.Jc(h:GP w0 w g A c T a):GP w w g A c T a:=⟨World.grownBy.refl _ _,h.I2,h.tk,h.JA,h.lt⟩
theorem GP.trans(h:GP w0 w g A c T a)(k:GP w w' g A c T a'):GP w0 w' g A c T a':=⟨h.gr.trans k.gr,k.I2,k.tk,k.JA,k.lt⟩
theorem GP.up(h:GP w0 w g A c T a)(b:ID w w'):GP w0 w' g A c T a:=⟨dR h.gr b,b.block h.I2,h.tk.up b,h.JA,h.lt⟩
theorem GP.put(h:GP w0 w g A c T a)(a':Nat):GP w0 (w.setCell ⟨g,1,V⟩ (Z Y (a':Int))) g A c T a':=
 ⟨h.gr.trans (ay w g 1 _),aO w g 1 _ _ _ h.I2,h.tk.JQ h.I2 (by decide) _,h.JA,h.lt⟩
theorem GP.cells(h:GP w0 w g A c T a):w.cell? ⟨g,0,V⟩=X (U A T.length c)/\w.cell? ⟨g,1,V⟩=X (Z Y (a:Int))/\w.frozen? ⟨g,1,V⟩=O:=
 ⟨(aK w g 0 _ _ _ h.I2).trans rfl,(aK w g 1 _ _ _ h.I2).trans rfl,aN w g 1 _ _ h.I2⟩
end
theorem ie{a:TQ}{row:Option Nat}(h:a.grownBy w row)(hk:a.heap.size<=k)(i:Nat)(v:TR):a.grownBy (w.setCell ⟨k,i,V⟩ v) row:=
 ⟨h.os,h.tape,h.output,by simpa using h.size,fun j hj b=>(aL w ⟨k,i,V⟩ j v (fun e=>by simp at e;omega)).trans (h.block j hj b)⟩
theorem GP.turn{T:List IY}(h:GP w w g A c T a)(f:w.grownBy w' (X g))(j:w'.heap[g]? =X (H #[U A T.length c,Z Y (a':Int)] 144 (0,0))):GP w w' g A c T a':=by
 refine⟨f,j,?_,h.JA,h.lt⟩;rcases h.tk with q|⟨b,off,cur,fz,i,d,hc⟩
 ·exact bX q
 refine bY ⟨b,off,cur,fz,i,(f.block b (aQ d) (fun e=>?_)).trans d,hc⟩
 injection e with e
 subst e;rw[h.I2] at d;simp at d
def EI(w:TQ)(k:Nat)(v0 v1 v2 v3:TR):TQ:=(((w.setCell ⟨k,0,V⟩ v0).setCell ⟨k,1,V⟩ v1).setCell ⟨k,2,V⟩ v2).setCell ⟨k,3,V⟩ v3
theorem pL{a:TQ}{row:Option Nat}(h:a.grownBy w row)(hk:a.heap.size<=k)(v0 v1 v2 v3:TR):a.grownBy (EI w k v0 v1 v2 v3) row:=
 ie (ie (ie (ie h hk 0 v0) hk 1 v1) hk 2 v2) hk 3 v3
theorem ki{j:Nat}{v0 v1 v2 v3:TR}(h:j≠k):(EI w k v0 v1 v2 v3).heap[j]? =w.heap[j]?:=by
 unfold EI;iterate 4 rw[aL _ _ j _ h]
def dT:IY:=⟨0,[],0,0⟩
theorem eX:∀(l:List IY) (i n:Nat) (v:TR),i<l.length->(i7 (l.getD i dT))[n]? =X v->(dK l)[i*4+n]? =X v:=by
 intro l
 induction l with
 |nil=>intro i n v h;simp at h
 |cons a l ih=>
  intro i n v h hv;unfold dK at *;cases i with
  |zero=>grind
  |succ i=>
   rw[S0,Td (by show 4<=_;omega),show(i7 a).length=4 from rfl,show(i+1)*4+n-4=i*4+n by omega]
   exact ih i n v (by simpa using h) hv
theorem GP.NZ{T:List IY}(h:GP w0 w g A c T a)(ha:a<T.length):
  ∃b off,A=X ⟨b,off,V⟩/\w.cell? ⟨b,off+a*4,V⟩=X (Z Y ((T.getD a dT).IF:Int))/\w.cell? ⟨b,off+a*4+1,V⟩=X (Q (ab (T.getD a dT).text))/\w.cell? ⟨b,off+a*4+2,V⟩=X (Z Y ((T.getD a dT).IM:Int))/\w.cell? ⟨b,off+a*4+3,V⟩=X (Z Y ((T.getD a dT).Jb:Int)):=by
 obtain⟨b,off,d,_,hc⟩:=h.tk.rs.at_ (by rw[kG];omega)
 refine⟨b,off,d,?_,?_,?_,?_⟩
 ·have:=hc _ _ (eX T a 0 _ ha rfl);exact this
 ·have:=hc _ _ (eX T a 1 _ ha rfl);rw[<-SV] at this;exact this
 ·have:=hc _ _ (eX T a 2 _ ha rfl);rw[<-SV] at this;exact this
 have:=hc _ _ (eX T a 3 _ ha rfl);rw[<-SV] at this;exact this
theorem nG{T:List IY}(h:a<T.length):T.drop a=T.getD a dT::T.drop (a+1):=by simp_all
theorem th{T:List IY}(h:GP w0 w g A c T a)(ha:a<T.length):
  TS TX 66 #[M (X ⟨g,0,V⟩)] w (RO_ (cZ (T.getD a dT)) w):=by
 obtain⟨b,off,rfl,_,_,_,_⟩:=h.NZ ha;obtain⟨_,c1,_⟩:=h.cells;have d:(0:Int)<=(a:Int):=by omega
 have e:(a:Int)<(T.length:Int):=by omega
 unfold cZ;clear h ha;generalize T.getD a dT=t at *;generalize T.length=n at *;go_enter func66,ntmps66;go_wp2;go_region_held3 (fun w'=>w'.cell? ⟨g,0,V⟩=X (U (X ⟨b,off,V⟩) n c)/\w'.cell? ⟨g,1,V⟩=X (Z Y (a:Int))/\w'.cell? ⟨b,off+a*4,V⟩=X (Z Y (t.IF:Int))/\w'.cell? ⟨b,off+a*4+1,V⟩=X (Q (ab t.text))/\w'.cell? ⟨b,off+a*4+2,V⟩=X (Z Y (t.IM:Int))/\w'.cell? ⟨b,off+a*4+3,V⟩=X (Z Y (t.Jb:Int))) (go_keep) (fail)
 all_goals go_wp2
 exact aP (v:=SF #[Z Y (t.IF:Int),Q (ab t.text),Z Y (t.IM:Int),Z Y (t.Jb:Int)]) (by simp[results,results66,go_sem]) rfl ⟨rfl,((ID.refl w).alloc _).drew⟩
theorem aq{l r:List IY}{t:IY}(h:Gm.take k l=X (t,r)):l=t::r/\t.IF=k:=by
 cases l with
 |nil=>cases h
 |cons x l=>
  rw[Gm.take] at h;split at h
  ·grind
  cases h
theorem ax{T r:List IY}{t:IY}(h:T.drop a=t::r):a<T.length/\T.getD a dT=t/\r=T.drop (a+1):=by
 have ha:a<T.length:=by
  by_cases ha:a<T.length
  ·exact ha
  rw[Te (by omega)] at h;cases h
 rw[nG ha] at h
 grind
def eN(w:TQ)(g:Nat)(A:Option TT)(c:Nat)(T:List IY)(v:TR)(a':Nat)(e:TU)(w':TQ):Prop:=e=SA v/\GP w w' g A c T a'
theorem jw{T:List IY}(h:GP w w g A c T a){t:IY}{r:List IY}(hm:Gm.take k (T.drop a)=X (t,r)):
  TS TX 136 #[M (X ⟨g,0,V⟩),Z Y (k:Int)] w (eN w g A c T (cZ t) (a+1)):=by
 obtain⟨hd,hk⟩:=aq hm;obtain⟨ha,q,_⟩:=ax hd;have d:=aJ (fun W (x:ID w W)=>th (h.up x) ha)
 rw[q] at d;have q1:((t.IF:Int) !=(k:Int))=O:=by rw[hk];simp
 have y:SL.wrap ((a:Int)+1)=(a:Int)+1:=bV _ (by have:=h.JA;omega)
 have m:Hid (∀W0,W0=w.alloc (H #[Z Y 0,Q ⟨#[]⟩,Z Y 0,Z Y 0] 146)->ID w W0/\W0.heap[w.heap.size]? =X (H #[Z Y 0,Q ⟨#[]⟩,Z Y 0,Z Y 0] 146 (0,0))):=aJ (by rintro W0 rfl;exact⟨(ID.refl w).alloc _,aM w _⟩)
 have j:=aJ h
 have f:g≠w.heap.size:=TA (aQ h.I2)
 have n:w.heap.size≠g:=fun e=>f e.symm
 clear h hm hd hk ha q;go_enter func136,ntmps136;go_wp2_with fail;obtain⟨l,p⟩:=m _ rfl;refine(d _ l).mono ?_;rintro e w2 ⟨rfl,hd⟩;have i:=aJ ((j.up l).up hd);have b:=aJ (hd.block p);have s:=aJ j;clear hd l p m d j;unfold cZ;obtain⟨_,c1,f1⟩:=i.cells;have gl:g<w2.heap.size:=aQ i.I2;have bl:w.heap.size<w2.heap.size:=aQ b;have b0:=aK w2 w.heap.size 0 _ _ _ b;have b1:=aK w2 w.heap.size 1 _ _ _ b;have b2:=aK w2 w.heap.size 2 _ _ _ b;have b3:=aK w2 w.heap.size 3 _ _ _ b
 replace b0:w2.cell? ⟨w.heap.size,0,V⟩=X (Z Y 0):=b0
 replace b1:w2.cell? ⟨w.heap.size,1,V⟩=X (Q ⟨#[]⟩):=b1
 replace b2:w2.cell? ⟨w.heap.size,2,V⟩=X (Z Y 0):=b2
 replace b3:w2.cell? ⟨w.heap.size,3,V⟩=X (Z Y 0):=b3
 have hx:=fun v0 v1 v2 v3 o=>GP.turn (a':=a+1) s (dR (pL (i.gr.trans (ay w2 g 1 (Z Y ((a+1:Nat):Int)))) (bM _) v0 v1 v2 v3) ((ID.refl _).alloc o)) (((ID.refl _).alloc o).block ((ki f).trans (aO w2 g 1 _ _ (Z Y ((a+1:Nat):Int)) i.I2)))
 rw[TB] at hx;have u:=aJ hx;clear hx;have z:=aN w2 w.heap.size 0 _ _ b;have B:=aN w2 w.heap.size 1 _ _ b;have C:=aN w2 w.heap.size 2 _ _ b;have D:=aN w2 w.heap.size 3 _ _ b;go_wp2_with fail;refine aP (v:=SF #[Z Y (t.IF:Int),Q (ab t.text),Z Y (t.IM:Int),Z Y (t.Jb:Int)]) (by simp[results,results136,go_sem,b0,b1,b2,b3,bl]) rfl ⟨rfl,?_⟩
 exact u _ _ _ _ _
theorem ub{T:List IY}(h:M8 T){s:Nat}(ha:a<T.length)(hs:s<256):Gm.Jw s (T.drop a)=(decide ((T.getD a dT).IF=5)&&decide (ab (T.getD a dT).text=ab [s])):=by
 rw[nG ha,Gm.Jw];have hm:T.getD a dT∈T:=by grind
 have e:((T.getD a dT).text==[s])=decide (ab (T.getD a dT).text=ab [s]):=by
  by_cases h1:(T.getD a dT).text=[s]
  ·rw[h1];simp
  have h2:ab (T.getD a dT).text≠ab [s]:=fun e=>h1 (jF (h _ hm) (by intro x hx;simp at hx;omega) e)
  rw[decide_eq_false h2,beq_eq_false_iff_ne];exact h1
 rw[e]
 congr 1
theorem pU{T:List IY}(h:GP w0 w g A c T a)(ha:a<T.length)(s:Nat)(hs:s<256)(x:ByteArray)(hx:x=ab [s]):
  TS TX 140 #[M (X ⟨g,0,V⟩),Q x] w (RO_ (K (Gm.Jw s (T.drop a))) w):=by
 rw[ub h.lt ha hs,<-hx];have b:=aJ (th h ha);clear h ha hx hs;generalize T.getD a dT=t at *
 by_cases hk:t.IF=5
 ·have q1:((t.IF:Int)==5)=G:=by rw[hk];rfl
  rw[decide_eq_true hk]
  by_cases d:ab t.text=x
  ·have i:((ab t.text).toList==x.toList)=G:=by rw[d];simp
   rw[decide_eq_true d];clear hk d;go_enter func140,ntmps140;go_wp2_with fail;refine(b).mono ?_;rintro e w2 ⟨rfl,hd⟩;have f:=aJ hd;clear hd b;unfold cZ;go_wp2;go_ret;exact⟨rfl,f.alloc _⟩
  have i:((ab t.text).toList==x.toList)=O:=nI d
  rw[decide_eq_false d];clear hk d;go_enter func140,ntmps140;go_wp2_with fail;refine(b).mono ?_;rintro e w2 ⟨rfl,hd⟩;have f:=aJ hd;clear hd b;unfold cZ;go_wp2;go_ret;exact⟨rfl,f.alloc _⟩
 have q1:((t.IF:Int)==5)=O:=by rw[beq_eq_false_iff_ne];omega
 rw[decide_eq_false hk];clear hk;go_enter func140,ntmps140;go_wp2_with fail;refine(b).mono ?_;rintro e w2 ⟨rfl,hd⟩;have f:=aJ hd;clear hd b;unfold cZ;go_wp2;go_ret;exact⟨rfl,f.alloc _⟩
theorem kM{s:Nat}{l r:List IY}(h:Gm.sign s l=X r):∃t,l=t::r/\Gm.Jw s l=G:=by
 unfold Gm.sign at h;split at h
 ·next hs=>
  injection h with h
  cases l with
  |nil=>cases hs
  |cons t l=>grind
 cases h
theorem zP{T:List IY}(h:GP w w g A c T a)(s:Nat)(hs:s<256){r:List IY}(hm:Gm.sign s (T.drop a)=X r)(x:ByteArray)(hx:x=ab [s]):
  TS TX 139 #[M (X ⟨g,0,V⟩),Q x] w (eN w g A c T (SD #[]) (a+1)):=by
 obtain⟨t,hd,i⟩:=kM hm;obtain⟨ha,_,_⟩:=ax hd;have d:=pU h ha s hs x hx;rw[i] at d;have f:=aJ d;have j:=aJ h;have l:SL.wrap ((a:Int)+1)=(a:Int)+1:=bV _ (by have:=h.JA;omega)
 clear h hm hd i d hx;go_enter func139,ntmps139;go_wp2_with fail;refine(f).mono ?_;rintro e w2 ⟨rfl,hd⟩;have b:=aJ (j.up hd);clear hd f;obtain⟨_,c1,f1⟩:=b.cells;have hx:=b.put (a+1);rw[TB] at hx;have k:=aJ hx;clear hx;go_wp2;go_end0;exact⟨rfl,k⟩
theorem oJ(w:TQ)(e:TV)(s:ByteArray):ID w (Lib.bytesWorld w e s):=
 ⟨rfl,rfl,rfl,by rw[Lib.bytesWorld_size];omega,fun j hj=>Lib.bytesWorld_at_old w e s j hj⟩
theorem Mn:∀(t:List Nat) (IW:Nat),t.all Lx.I1=G->(IW+1)*10^t.length<=10^18->
  Lib.parseUintM (2^64-1) IW (t.map S1)= .ok (t.foldl (fun a c=>10*a+(c-48)) IW):=by
 intro t
 induction t with
 |nil=>intro IW _ _;rfl
 |cons c r ih=>
  intro IW hd b;rw[List.all_cons,To] at hd;obtain⟨hc,f⟩:=hd;unfold Lx.I1 at hc;rw[To,decide_eq_true_iff,decide_eq_true_iff] at hc;have e:(S1 c).toNat=c:=by simp;omega
  have g:1<=10^r.length:=Nat.one_le_pow _ _ (by decide)
  rw[SQ,Nat.pow_succ] at b;have d:(IW+1)*10<=10^18:=by
   refine bN ?_ b;rw[TC (10^r.length) 10,<-TD];exact Nat.le_mul_of_pos_right _ (by omega)
  rw[S9,Lib.parseUintM,e,ps_ (by omega),ng_ (by omega),ng_ (by omega),List.foldl_cons]
  rw[show IW*10+(c-48)=10*IW+(c-48) by omega]
  refine ih _ f (bN ?_ b);rw[TC (10^r.length) 10,<-TD];exact Nat.mul_le_mul_right _ (by omega)
theorem Ek{t:List Nat}(hd:t.all Lx.I1=G)(b:0<t.length)(a:t.length<=18):Lib.parseUintB 64 (ab t).data.toList= .ok (Gm.val t):=by
 have e:(ab t).data.toList=t.map S1:=by simp[ab]
 unfold Lib.parseUintB;rw[e,ng_ (by intro h;rw[List.map_eq_nil_iff] at h;rw[h] at b;exact absurd b (by decide))]
 refine Mn t 0 hd ?_;rw[Nat.zero_add,Nat.one_mul];exact Nat.pow_le_pow_right (by decide) a
theorem uS(t:IY)(w:TQ)(hd:t.text.all Lx.I1=G)(c:0<t.text.length)(a:t.text.length<=18):
  TS TX 219 #[cZ t] w (RO_ (Z E ((Gm.val t.text:Nat):Int)) w):=by
 have hsz:(ab t.text).size=t.text.length:=by rw[<-af,fU];intro x hx;have:=Tp.mp hd x hx;unfold Lx.I1 at this;simp at this;omega
 have b:=aJ (fun W=>strconv_ParseUint_10_at64_ok (ab t.text) (by rw[hsz];omega) (Gm.val t.text) (Ek hd c a) W)
 clear hsz hd c a;unfold cZ;generalize Gm.val t.text=n at *;go_enter func219,ntmps219;go_wp2_with fail;refine(b _).mono ?_;rintro e w2 ⟨rfl,f⟩;have d:ID w w2:=by
  rcases f with rfl|rfl
  ·exact(ID.refl w).alloc _
  exact((ID.refl w).alloc _).up (oJ _ _ _)
 have g:=aJ d
 clear d f b;go_wp2;go_ret;exact⟨rfl,g⟩
theorem ee{l r:List IY}{n:Nat}(h:Gm.num l=X (n,r)):∃t,Gm.take 2 l=X (t,r)/\n=Gm.val t.text/\t.text.all Lx.I1=G/\0<t.text.length/\t.text.length<=18:=by
 unfold Gm.num at h
 grind
theorem rK{T:List IY}(h:GP w w g A c T a){n:Nat}{r:List IY}(hm:Gm.num (T.drop a)=X (n,r)):
  TS TX 218 #[M (X ⟨g,0,V⟩)] w (eN w g A c T (Z E (n:Int)) (a+1)):=by
 obtain⟨t,k,rfl,hd,j,b⟩:=ee hm;have d:TS TX 136 #[M (X ⟨g,0,V⟩),Z Y 2] w (eN w g A c T (cZ t) (a+1)):=jw h k;have f:=aJ d;have i:=aJ (fun W=>uS t W hd j b)
 clear h hm k hd j b d;generalize Gm.val t.text=n at *;go_enter func218,ntmps218;go_wp2_with fail;refine(f).mono ?_;rintro e w2 ⟨rfl,h2⟩;have l:=aJ h2;clear h2 f;go_wp2_with fail;refine(i _).mono ?_;rintro e _ ⟨rfl,hd⟩;have m:=aJ (l.up hd);clear hd i;go_wp2;go_ret;exact⟨rfl,m⟩
theorem fK{l r:List IY}(h:Gm.text k a l=X (s,r)):∃t,Gm.take k l=X (t,r)/\s=ab t.text/\t.text.length<=a:=by
 unfold Gm.text at h
 grind
theorem M8.at_{T:List IY}(h:M8 T){t:IY}{r:List IY}(hd:T.drop a=t::r):∀x∈t.text,x<256:=by
 have hm:t∈T:=List.mem_of_mem_drop (i:=a) (by rw[hd];exact List.mem_cons_self ..)
 exact h t hm
theorem iD:(ab l).size=l.length:=by unfold ab;show(l.map S1).toArray.size=_;simp
theorem tg{T:List IY}(h:GP w w g A c T a){b:Nat}{r:List IY}(hm:Gm.text k b (T.drop a)=X (s,r)):
  TS TX 212 #[M (X ⟨g,0,V⟩),Z Y (k:Int),Z Y (b:Int)] w (eN w g A c T (Q s) (a+1)):=by
 obtain⟨t,f,rfl,j⟩:=fK hm;have d:=aJ (jw h f);have q1:decide (b<(ab t.text).size)=O:=by rw[iD,decide_eq_false_iff_not];omega
 clear h hm f j;unfold cZ at d;generalize ab t.text=s at *;go_enter func212,ntmps212;go_wp2_with fail;refine(d).mono ?_;rintro e w2 ⟨rfl,h2⟩;have i:=aJ (h2.up ((ID.refl _).alloc (H #[Z Y (t.IF:Int),Q s,Z Y (t.IM:Int),Z Y (t.Jb:Int)] 146)));clear h2 d;go_wp2;go_ret;exact⟨rfl,i⟩
theorem eB{full:Bool}{l r:List IY}{t:IY}(h:Gm.name full l=X (t,r)):Gm.take 1 l=X (t,r)/\t.text.length<=32/\full=O:=by
 unfold Gm.name at h
 grind
theorem ti{T:List IY}(h:GP w w g A c T a){full:Bool}{t:IY}{r:List IY}(hm:Gm.name full (T.drop a)=X (t,r)):
  TS TX 138 #[M (X ⟨g,0,V⟩),K full] w (eN w g A c T (cZ t) (a+1)):=by
 obtain⟨q,x,rfl⟩:=eB hm;have m:Hid (∀W,ID w W->TS TX 136 #[M (X ⟨g,0,V⟩),Z Y 1] W (eN W g A c T (cZ t) (a+1))):=aJ (fun W y=>jw (h.up y).Jc q)
 have q1:decide ((32:Int)<((ab t.text).size:Int))=O:=by rw[iD,decide_eq_false_iff_not];omega
 have n:Hid (∀W0,W0=w.alloc (H #[Z Y 0,Q ⟨#[]⟩,Z Y 0,Z Y 0] 146)->ID w W0/\W0.heap[w.heap.size]? =X (H #[Z Y 0,Q ⟨#[]⟩,Z Y 0,Z Y 0] 146 (0,0))/\w.heap.size<W0.heap.size):=aJ (by rintro W0 rfl;exact⟨(ID.refl w).alloc _,aM w _,by simp⟩)
 have k:=aJ h
 have d:g≠w.heap.size:=TA (aQ h.I2)
 have f:w.heap.size≠g:=fun e=>d e.symm
 clear h hm q x;unfold cZ at *;generalize ab t.text=s at *;go_enter func138,ntmps138;go_wp2_with fail;obtain⟨l,p,i⟩:=n _ rfl;refine(m _ l).mono ?_;rintro e w2 ⟨rfl,h2⟩;have j:=aJ ((k.up l).trans h2);have b:=aJ ((h2.gr.block _ i (fun e=>f (by injection e))).trans p)
 have bl:w.heap.size<w2.heap.size:=aQ b
 have b0:=cr_ b 0 (Z Y 0)
 have b1:=cr_ b 1 (Q ⟨#[]⟩)
 have b2:=cr_ b 2 (Z Y 0)
 have b3:=cr_ b 3 (Z Y 0)
 have z:=aN w2 w.heap.size 0 _ _ b
 have B:=aN w2 w.heap.size 1 _ _ b
 have C:=aN w2 w.heap.size 2 _ _ b
 have D:=aN w2 w.heap.size 3 _ _ b
 have u:=aJ (fun v0 v1 v2 v3 o=>GP.turn (a':=a+1) k (dR (pL j.gr (bM _) v0 v1 v2 v3) ((ID.refl _).alloc o)) (((ID.refl _).alloc o).block ((ki d).trans j.I2)))
 clear l p i n h2 m k j;go_wp2_with fail;refine aP (v:=SF #[Z Y (t.IF:Int),Q s,Z Y (t.IM:Int),Z Y (t.Jb:Int)]) (by simp[results,results138,go_sem,b0,b1,b2,b3,bl]) rfl ⟨rfl,?_⟩
 exact u _ _ _ _ _
theorem o5:(TX.info? 9).map (fun i=>(i.zero,i.size,i.bytes))=X (X (Q ⟨#[]⟩),1,16):=by kernel_rfl
theorem ta:(TX.info? 241).map (fun i=>(i.zero,i.size,i.bytes))=X (X (SF #[Z Y 0,Z E 0]),2,16):=by kernel_rfl
theorem xb:(TX.info? 238).map (fun i=>(i.zero,i.size,i.bytes))=X (X (SF #[Q ⟨#[]⟩,Q ⟨#[]⟩]),2,32):=by kernel_rfl
def D0(u v:TR):Prop:=u.ownBlock=V\/v.ownBlock=V\/u.ownBlock≠v.ownBlock
structure JS(wB w:TQ)(g k:Nat)(A:Option TT)(c:Nat)(T:List IY)(a:Nat)(j:Jd)(sv:TR)(IH:List ByteArray):Prop where
 gp:GP wB w g A c T a
 gl:g<wB.heap.size
 kB:wB.heap.size<=k
 row:w.heap[k]? =some (.cells (ag j).toArray 63 (0,0))
 IJ:IL w wB.heap.size 238 2 (.slice j.eA j.IJ.length j.ec) j.IJ.length (cH j.IJ)
 IC:IL w wB.heap.size 9 1 (.slice j.nA j.IC.length j.nc) j.IC.length (ar j.IC)
 IK:IL w wB.heap.size 241 2 (.slice j.lA j.IK.length j.lc) j.IK.length (I8 j.IK)
 IH:IL w wB.heap.size 9 1 sv IH.length (ar IH)
 ap:D0 (.slice j.nA j.IC.length j.nc) sv
theorem eT{s:Nat}{n:Nat}(h:IL w B e s v n xs)(a:w.grownBy w' (X g))(b:g<B):IL w' B e s v n xs:=
 bT h a (by
  cases hv:v.ownBlock with
  |none=>exact bX rfl
  |some q=>exact bY (fun e=>by injection e with e;have:=(bU h q hv).1;omega))
section
variable {wB w w' : TQ} {g k : Nat} {A : Option TT} {c : Nat} {T : List IY} {a a' : Nat} {j j' : Jd} {sv : TR} {IH : List ByteArray}
theorem JS.call(h:JS wB w g k A c T a j sv IH)(b:GP w w' g A c T a'):JS wB w' g k A c T a' j sv IH:=
 ⟨h.gp.trans b,h.gl,h.kB,(b.gr.block k (aQ h.row) (fun e=>by injection e with e;have:=h.gl;have:=h.kB;omega)).trans h.row,eT h.IJ b.gr h.gl,eT h.IC b.gr h.gl,eT h.IK b.gr h.gl,eT h.IH b.gr h.gl,h.ap⟩
theorem JS.up(h:JS wB w g k A c T a j sv IH)(b:ID w w'):JS wB w' g k A c T a j sv IH:=
 ⟨h.gp.up b,h.gl,h.kB,b.block h.row,h.IJ.up b,h.IC.up b,h.IK.up b,h.IH.up b,h.ap⟩
theorem JS.set(h:JS wB w g k A c T a j sv IH)(i:Nat)(v:TR)(hv:(ag j).set i v=ag j')(l:j'.eA=j.eA/\j'.IJ=j.IJ/\j'.ec=j.ec)(b:j'.nA=j.nA/\j'.IC=j.IC/\j'.nc=j.nc)(r:j'.lA=j.lA/\j'.IK=j.IK/\j'.lc=j.lc):
  JS wB (w.setCell ⟨k,i,V⟩ v) g k A c T a j' sv IH:=by
 have d:=aO w k i _ _ v h.row
 have m:=ay w k i v
 have p:g≠k:=by have:=h.gl;have:=h.kB;omega
 have Kr:∀{e:TV} {s:Nat} {u:TR} {n:Nat} {xs:List TR},IL w wB.heap.size e s u n xs->e≠63->IL (w.setCell ⟨k,i,V⟩ v) wB.heap.size e s u n xs:=fun {e s u n xs} x hne=>by
  refine bT x m ?_;rcases x with⟨_,⟨rfl,_⟩|⟨q,cap,cur,rfl,_,t,_⟩⟩
  ·exact bX rfl
  right
  intro f;simp[S7] at f;subst f;rw[h.row] at t;have o:=bQ t;injection o with e1 f e3
  exact hne f.symm
 refine⟨⟨ie h.gp.gr h.kB i v,(aL w ⟨k,i,V⟩ g v p).trans h.gp.I2,?_,h.gp.JA,h.gp.lt⟩,h.gl,h.kB,?_,?_,?_,?_,Kr h.IH (by decide),?_⟩
 ·exact h.gp.tk.JQ h.row (by decide) v
 ·rw[d,<-hv];simp
 ·rw[l.1,l.2.1,l.2.2];exact Kr h.IJ (by decide)
 ·rw[b.1,b.2.1,b.2.2];exact Kr h.IC (by decide)
 ·rw[r.1,r.2.1,r.2.2];exact Kr h.IK (by decide)
 rw[b.1,b.2.1,b.2.2];exact h.ap
theorem JS.cell(h:JS wB w g k A c T a j sv IH)(i:Nat)(hv:(ag j)[i]? =X v):w.cell? ⟨k,i,V⟩=X v/\w.frozen? ⟨k,i,V⟩=O:=
 ⟨by rw[aK w k i _ _ _ h.row];simpa using hv,aN w k i _ _ h.row⟩
end
theorem C3(zs:List ByteArray)(x:ByteArray):Lib.containsS zs x=Gm.hasB zs x:=by
 rw[Bool.eq_iff_iff,Lib.containsS_iff,Gm.hasB,List.any_eq_true];simp
theorem zU(A:Option TT)(c:Nat)(zs:List ByteArray)(x:ByteArray)(w:TQ)(f:Rs w A (ar zs))(g:zs.length<=1000000):
  TS TX 142 #[U A zs.length c,Q x] w fun e w'=>e=SA (K (Gm.hasB zs x))/\w'=w:=by
 rcases TE zs.length with a|a
 ·obtain rfl:=Tq a;exact slices_Contains_string_empty A c x w
 obtain⟨b,off,rfl,_,hc⟩:=f.at_ (by rw[dO];exact a)
 have:=slices_Contains_string b off zs.length c zs x w (bM _) (by omega) (fun i d=>hc _ _ (fv zs i d))
 rw[S2,C3] at this;exact this
theorem kJ(l:List Nat):(ab l).toList=l.map S1:=by simp[ab]
theorem az(l:List Nat):((ab l).toList==l.map S1)=G:=by rw[kJ];simp
theorem aC(h:∀x∈l,x<256){m:List Nat}(hm:∀x∈m,x<256)(hne:l≠m):((ab l).toList==m.map S1)=O:=by
 rw[beq_eq_false_iff_ne,<-kJ];intro e;rw[ByteArray.toList_eq,ByteArray.toList_eq] at e;exact hne (jF h hm (ByteArray.ext (Array.toList_inj.mp e)))
theorem GB(t:List Nat)(f:∀x∈t,x<256)(w:TQ):
  TS TX 264 #[Q (ab t)] w fun e w'=>e=SA (Z Y (Gm.JF t))/\w'=w:=by
 unfold Gm.JF
 by_cases h1:t=[72,85,80]
 ·rw[ps_ h1];have g:((ab t).toList==[72,85,80])=G:=by rw[h1];exact az [72,85,80]
  clear h1;go_enter func264,ntmps264;go_wp2;go_ret;exact⟨rfl,rfl⟩
 rw[ng_ h1];have n1:((ab t).toList==[72,85,80])=O:=aC (m:=[72,85,80]) f (by decide) h1
 by_cases h2:t=[73,78,84]
 ·rw[ps_ h2];have g:((ab t).toList==[73,78,84])=G:=by rw[h2];exact az [73,78,84]
  clear h2;go_enter func264,ntmps264;go_wp2;go_ret;exact⟨rfl,rfl⟩
 rw[ng_ h2];have n2:((ab t).toList==[73,78,84])=O:=aC (m:=[73,78,84]) f (by decide) h2
 by_cases a:t=[81,85,73,84]
 ·rw[ps_ a];have g:((ab t).toList==[81,85,73,84])=G:=by rw[a];exact az [81,85,73,84]
  clear a;go_enter func264,ntmps264;go_wp2;go_ret;exact⟨rfl,rfl⟩
 rw[ng_ a];have n3:((ab t).toList==[81,85,73,84])=O:=aC (m:=[81,85,73,84]) f (by decide) a
 by_cases b:t=[85,83,82,49]
 ·rw[ps_ b];have g:((ab t).toList==[85,83,82,49])=G:=by rw[b];exact az [85,83,82,49]
  clear b;go_enter func264,ntmps264;go_wp2;go_ret;exact⟨rfl,rfl⟩
 rw[ng_ b];have n4:((ab t).toList==[85,83,82,49])=O:=aC (m:=[85,83,82,49]) f (by decide) b
 by_cases c:t=[85,83,82,50]
 ·rw[ps_ c];have g:((ab t).toList==[85,83,82,50])=G:=by rw[c];exact az [85,83,82,50]
  clear c;go_enter func264,ntmps264;go_wp2;go_ret;exact⟨rfl,rfl⟩
 rw[ng_ c];have h:((ab t).toList==[85,83,82,50])=O:=aC (m:=[85,83,82,50]) f (by decide) c
 by_cases d:t=[84,69,82,77]
 ·rw[ps_ d];have g:((ab t).toList==[84,69,82,77])=G:=by rw[d];exact az [84,69,82,77]
  clear d;go_enter func264,ntmps264;go_wp2;go_ret;exact⟨rfl,rfl⟩
 rw[ng_ d];have i:((ab t).toList==[84,69,82,77])=O:=aC (m:=[84,69,82,77]) f (by decide) d
 clear h1 h2 a b c d;go_enter func264,ntmps264;go_wp2;go_ret;exact⟨rfl,rfl⟩
theorem DF(t:List Nat)(f:∀x∈t,x<256)(w:TQ):
  TS TX 242 #[Q (ab t)] w fun e w'=>e=SA (Z Y (Gm.JF t))/\w'=w:=by
 unfold Gm.JF
 by_cases h1:t=[72,85,80]
 ·rw[ps_ h1];have g:((ab t).toList==[72,85,80])=G:=by rw[h1];exact az [72,85,80]
  clear h1;go_enter func242,ntmps242;go_wp2;go_ret;exact⟨rfl,rfl⟩
 rw[ng_ h1];have n1:((ab t).toList==[72,85,80])=O:=aC (m:=[72,85,80]) f (by decide) h1
 by_cases h2:t=[73,78,84]
 ·rw[ps_ h2];have g:((ab t).toList==[73,78,84])=G:=by rw[h2];exact az [73,78,84]
  clear h2;go_enter func242,ntmps242;go_wp2;go_ret;exact⟨rfl,rfl⟩
 rw[ng_ h2];have n2:((ab t).toList==[73,78,84])=O:=aC (m:=[73,78,84]) f (by decide) h2
 by_cases a:t=[81,85,73,84]
 ·rw[ps_ a];have g:((ab t).toList==[81,85,73,84])=G:=by rw[a];exact az [81,85,73,84]
  clear a;go_enter func242,ntmps242;go_wp2;go_ret;exact⟨rfl,rfl⟩
 rw[ng_ a];have n3:((ab t).toList==[81,85,73,84])=O:=aC (m:=[81,85,73,84]) f (by decide) a
 by_cases b:t=[85,83,82,49]
 ·rw[ps_ b];have g:((ab t).toList==[85,83,82,49])=G:=by rw[b];exact az [85,83,82,49]
  clear b;go_enter func242,ntmps242;go_wp2;go_ret;exact⟨rfl,rfl⟩
 rw[ng_ b];have n4:((ab t).toList==[85,83,82,49])=O:=aC (m:=[85,83,82,49]) f (by decide) b
 by_cases c:t=[85,83,82,50]
 ·rw[ps_ c];have g:((ab t).toList==[85,83,82,50])=G:=by rw[c];exact az [85,83,82,50]
  clear c;go_enter func242,ntmps242;go_wp2;go_ret;exact⟨rfl,rfl⟩
 rw[ng_ c];have h:((ab t).toList==[85,83,82,50])=O:=aC (m:=[85,83,82,50]) f (by decide) c
 by_cases d:t=[84,69,82,77]
 ·rw[ps_ d];have g:((ab t).toList==[84,69,82,77])=G:=by rw[d];exact az [84,69,82,77]
  clear d;go_enter func242,ntmps242;go_wp2;go_ret;exact⟨rfl,rfl⟩
 rw[ng_ d];have i:((ab t).toList==[84,69,82,77])=O:=aC (m:=[84,69,82,77]) f (by decide) d
 clear h1 h2 a b c d;go_enter func242,ntmps242;go_wp2;go_ret;exact⟨rfl,rfl⟩
def FT(k:Nat):ByteArray:=([⟨#[72,85,80]⟩,⟨#[73,78,84]⟩,⟨#[81,85,73,84]⟩,⟨#[85,83,82,49]⟩,⟨#[85,83,82,50]⟩,⟨#[84,69,82,77]⟩]:List ByteArray).getD k ⟨#[]⟩
def vS(k:Nat):Int:=[1,2,3,10,12,15].getD k 0
theorem DM:∀k:Fin 6,Gm.JF (bs (FT k.val))=vS k.val/\ab (Pt.KI (vS k.val))=FT k.val:=by decide+kernel
theorem Gg(n:Int)(w:TQ)(l:n=15\/n=2\/n=1):TS TX 196 #[Z Y n] w (RO_ (Q (ab (Pt.KI n))) w):=by
 have j:=aJ (fun(k:Nat) (hk:k<6) W=>(by
  have h1:=DF (bs (FT k)) (fun x hx=>ed hx) W
  rw[dU,(DM ⟨k,hk⟩).1] at h1;exact h1:TS TX 242 #[Q (FT k)] W fun e w'=>e=SA (Z Y (vS k))/\w'=W))
 have p:Hid (∀k,k<6->vS k=n->FT k=ab (Pt.KI n)):=aJ (fun k hk e=>by rw[<-e];exact(DM ⟨k,hk⟩).2.symm)
 have r:Hid (n=vS 0\/n=vS 1\/n=vS 5):=aJ (by rcases l with h|h|h<;>simp[h,vS])
 clear l;obtain⟨d,b⟩:∃d,w.alloc (H #[Q ⟨#[72,85,80]⟩,Q ⟨#[73,78,84]⟩,Q ⟨#[81,85,73,84]⟩,Q ⟨#[85,83,82,49]⟩,Q ⟨#[85,83,82,50]⟩,Q ⟨#[84,69,82,77]⟩] 9)=d:=⟨_,rfl⟩
 have s:Hid (ID w d):=aJ (by rw[<-b];exact(ID.refl _).alloc _)
 have o:Hid (∀k,k<6->d.cell? ⟨w.heap.size,k,V⟩=X (Q (FT k))):=aJ (fun k hk=>by
  rw[<-b,aK _ w.heap.size k _ _ _ (aM w _)];have:k=0\/k=1\/k=2\/k=3\/k=4\/k=5:=by omega
  rcases this with rfl|rfl|rfl|rfl|rfl|rfl<;>rfl)
 go_enter func196,ntmps196
 go_upto_region 2 with fail
 clear b;go_wp2;go_loopw [4] (fun i wr=>∃k:Nat,i=Z Y (k:Int)/\k<=5/\Hid (∀m,m<k->vS m≠n)/\wr=d) (fun i _=>6-(intOf i).toNat)
 case atStart=>exact⟨0,rfl,by omega,aJ (fun m hm=>by omega),rfl⟩
 obtain⟨k,rfl,hk,f,rfl⟩:=hrel;have y:(0:Int)<=(k:Int):=by omega
 have z:(k:Int)<6:=by omega
 have c:=o.out k (by omega)
 have wk:SL.wrap ((k:Int)+1)=(k:Int)+1:=bV _ (by omega)
 by_cases a:vS k=n
 ·have q:(vS k==n)=G:=by rw[beq_iff_eq];exact a
  have t:=aJ (p k (by omega) a)
  clear a;go_wp2_with fail;refine(j k (by omega) _).mono ?_
  rintro e w' ⟨rfl,rfl⟩;go_wp2;go_ret;exact⟨by rw[<-t.out];rfl,s⟩
 have q:(vS k==n)=O:=by rw[beq_eq_false_iff_ne];exact a
 have u:k<5:=by
  rcases Tf k 5 with h|h
  ·exact h
  obtain rfl:k=5:=by omega
  rcases r with h|h|h
  ·exact absurd h.symm (f 0 (by omega))
  ·exact absurd h.symm (f 1 (by omega))
  exact absurd h.symm a
 have g:Hid (∀m,m<k+1->vS m≠n):=aJ (fun m hm=>by
  rcases Tf m k with h|h
  ·exact f m h
  obtain rfl:m=k:=by omega
  exact a)
 clear a f;go_wp2_with fail;refine(j k (by omega) _).mono ?_
 rintro e w' ⟨rfl,rfl⟩;go_wp2;go_roundw
 case rel=>exact⟨k+1,rfl,by omega,g,by trivial⟩
 simp[intOf];omega
namespace Pt
theorem iC{L:List IY}{R:List (Nat×List Nat)}(h:L.map Ji=(k,y)::R):∃t L',L=t::L'/\t.IF=k/\t.text=y/\L'.map Ji=R:=by
 cases L with
 |nil=>cases h
 |cons t L'=>
  rw[S9] at h;injection h with h1 h2
  unfold Ji at h1;injection h1 with h3 h4
  exact⟨t,L',rfl,h3,h4,h2⟩
theorem gT{L:List IY}{R:List (Nat×List Nat)}(h:L.map Ji=(k,y)::R):∃t L',Gm.take k L=X (t,L')/\t.text=y/\L'.map Ji=R:=by grind [iC,Gm.take]
theorem fc{L:List IY}{R:List (Nat×List Nat)}(s:Nat)(h:L.map Ji=(k,y)::R):Gm.Jw s L=(k==5&&y==[s]):=by
 obtain⟨t,L',rfl,h1,h2,_⟩:=iC h;rw[Gm.Jw,h1,h2]
theorem kI{L:List IY}{R:List (Nat×List Nat)}(h:L.map Ji=(k,y)::R):L.tail.map Ji=R:=by simp_all
theorem km{L:List IY}{n:Nat}{R:List (Nat×List Nat)}(b:n<10^18)(h:L.map Ji=(2,dec n)::R):∃L',Gm.num L=X (n,L')/\L'.map Ji=R:=by
 obtain⟨t,L',h1,h2,a⟩:=gT h;obtain⟨a1,a2,a3,c,r,_,_⟩:=nH b;refine⟨L',?_,a⟩;unfold Gm.num
 grind
theorem mE{L:List IY}{R:List (Nat×List Nat)}(hs:Kv s)(h:L.map Ji=(1,bs s)::R):∃t L',Gm.name O L=X (t,L')/\ab t.text=s/\L'.map Ji=R:=by
 obtain⟨t,L',h1,h2,a⟩:=gT h;refine⟨t,L',?_,by rw[h2];exact hs.2.2,a⟩
 unfold Gm.name;rw[h1];simp only[h2];rw[ng_];have:=hs.2.1
 grind
theorem pA{L:List IY}{R:List (Nat×List Nat)}(hm:y.length<=m)(h:L.map Ji=(k,y)::R):∃L',Gm.text k m L=X (ab y,L')/\L'.map Ji=R:=by
 obtain⟨t,L',h1,h2,a⟩:=gT h;refine⟨L',?_,a⟩;unfold Gm.text
 grind
theorem fk(p q:List P):Jq (p++q)=Jq p++Jq q:=by simp[Jq]
theorem nB{l:List ByteArray}(h:s∉l):Gm.hasB l s=O:=by grind [Gm.hasB]
def Hl(R:List (Nat×List Nat)):Prop:=∃k y a,R=(k,y)::a/\(k==5&&y==[44])=O
theorem zf:∀(l:List ByteArray) (f:Nat) (j:Jd) (L:List IY) (R:List (Nat×List Nat)),l≠[]->(∀s∈l,Kv s)->(j.IC++l).Nodup->(j.IC++l).length<=16->l.length<=f->Hl R->L.map Ji=Jq (Jx (l.map fq))++R->
  ∃L',Gm.IC f j L=X ({j with IC:=j.IC++l},L')/\L'.map Ji=R:=by
 intro l
 induction l with
 |nil=>simp
 |cons s l ih=>
  intro f j L R _ e hd n m i h;obtain⟨f,rfl⟩:∃g,f=g+1:=⟨f-1,by simp at m;omega⟩
  have a:decide (16<=j.IC.length)=O:=by simp at n ⊢;omega
  have d:s∉j.IC:=fun hm=>by
   rw[TF] at hd;exact hd.2.2 s hm s (by simp) rfl
  cases l with
  |nil=>
   have b:L.map Ji=(1,bs s)::R:=h
   obtain⟨t,L',h1,h2,c⟩:=mE (e s (by simp)) b
   obtain⟨k,y,_,rfl,hk⟩:=i;refine⟨L',?_,c⟩;rw[Gm.IC,a,h1];simp only[h2,nB d,fc 44 c,hk];rfl
  |cons r l=>
   have b:L.map Ji=(1,bs s)::(5,[44])::(Jq (Jx ((r::l).map fq))++R):=by
    rw[h];simp[Jx,Jq,fq]
   obtain⟨t,L',h1,h2,c⟩:=mE (e s (by simp)) b
   obtain⟨L2,o,p⟩:=ih f {j with IC:=j.IC++[s]} L'.tail R (by simp) (fun u q=>e u (by simp[q])) (by simpa using hd) (by simpa using n) (by simp at m ⊢;omega) i (kI c)
   refine⟨L2,?_,p⟩;rw[Gm.IC,a,h1];simp only[h2,nB d,fc 44 c];rw[ng_ (by decide),ps_ (by decide),o]
   simp
theorem yy:∀(l:List (Int×Int)) (f:Nat) (j:Jd) (L:List IY) (R:List (Nat×List Nat)),l≠[]->(∀r∈l,nN r.1/\0<=r.2/\r.2<1000000)->(j.IK++l).length<=5->l.length<=f->Hl R->L.map Ji=Jq (Jx (l.map dM))++R->
  ∃L',Gm.I8 f j L=X ({j with IK:=j.IK++l},L')/\L'.map Ji=R:=by
 intro l
 induction l with
 |nil=>simp
 |cons r l ih=>
  intro f j L R _ x w s q p;obtain⟨f,rfl⟩:∃g,f=g+1:=⟨f-1,by simp at s;omega⟩
  obtain⟨hs,n,o⟩:=x r (by simp)
  obtain⟨c,_⟩:=uc hs;have h:Gm.JF (KI r.1)≠0:=by rw[c];unfold nN at hs;omega
  have z:((r.2.toNat:Nat):Int)=r.2:=by omega
  have a:¬5<=j.IK.length:=by simp at w;omega
  cases l with
  |nil=>
   have b:L.map Ji=(1,KI r.1)::(2,dec r.2.toNat)::R:=p
   obtain⟨t,L',h1,h2,i⟩:=gT b;obtain⟨L2,m,d⟩:=km (my n o) i;obtain⟨k,y,_,rfl,hk⟩:=q;refine⟨L2,?_,d⟩;rw[Gm.I8,h1];simp only[h2];rw[ng_ (by rintro(e|e);exact a e;exact h e),m]
   simp only[fc 44 d,hk,c,z];rfl
  |cons D l=>
   have b:L.map Ji=(1,KI r.1)::(2,dec r.2.toNat)::(5,[44])::(Jq (Jx ((D::l).map dM))++R):=by
    rw[p];simp[Jx,Jq,dM]
   obtain⟨t,L',h1,h2,i⟩:=gT b;obtain⟨L2,m,d⟩:=km (my n o) i;obtain⟨L3,A,B⟩:=ih f {j with IK:=j.IK++[r]} L2.tail R (by simp) (fun u C=>x u (by simp[C])) (by simpa using w) (by simp at s ⊢;omega) q (kI d)
   refine⟨L3,?_,B⟩;rw[Gm.I8,h1];simp only[h2];rw[ng_ (by rintro(e|e);exact a e;exact h e),m]
   simp only[fc 44 d,c,z];rw[ps_ (by decide),A]
   simp
theorem dg{f:Nat}{IH:List (List Nat)}{j j':Jd}{L L2 L3:List IY}{w:List Nat}{R R2:List (Nat×List Nat)}(h:L.map Ji=(1,w)::R)(hs:w=Gm.Kl\/w∉IH)(a:∀L2,L2.map Ji=R->∃L3,Gm.KM w j L2=X (j',L3)/\L3.map Ji=R2):
  ∃L3,Gm.JH (f+1) IH j L=Gm.JH f (if w=Gm.Kl then IH else IH++[w]) j' L3/\L3.map Ji=R2:=by
 obtain⟨t,L',h1,h2,b⟩:=gT h;obtain⟨L3,_,c⟩:=a L' b;refine⟨L3,?_,c⟩;rw[Gm.JH,fc 125 h]
 grind
theorem Fh{v:ByteArray×ByteArray}{j:Jd}{L:List IY}{R:List (Nat×List Nat)}(h1:Kv v.1)(h2:(bs v.2).length<=512)(b:ab (bs v.2)=v.2)(c:v.1∉j.IJ.map Prod.fst)(d:j.IJ.length<16)(h:L.map Ji=(1,bs v.1)::(5,[61])::(3,bs v.2)::R):
  ∃L',Gm.KM Gm.Kl j L=X ({j with IJ:=j.IJ++[v]},L')/\L'.map Ji=R:=by
 obtain⟨t,L',a1,a2,a3⟩:=mE h1 h;obtain⟨L2,b1,b2⟩:=pA (k:=3) h2 (kI a3);refine⟨L2,?_,b2⟩;have a:decide (16<=j.IJ.length)=O:=by simp;omega
 unfold Gm.KM;rw[ng_ (by decide),ps_ rfl]
 unfold Gm.var;rw[a,a1];simp only[a2,nB c];rw[ng_ (by decide)]
 unfold Gm.sign;rw[fc 61 a3,ps_ (by decide)]
 simp only[b1,b]
theorem Dd:∀(l:List (ByteArray×ByteArray)) (f:Nat) (IH:List (List Nat)) (j:Jd) (L:List IY) (R:List (Nat×List Nat)),(∀v∈l,Kv v.1/\(∀b∈bs v.2,b<256)/\(bs v.2).length<=512/\ab (bs v.2)=v.2)->((j.IJ++l).map Prod.fst).Nodup->(j.IJ++l).length<=16->L.map Ji=Jq (l.flatMap ik)++R->
  ∃L',Gm.JH (f+l.length) IH j L=Gm.JH f IH {j with IJ:=j.IJ++l} L'/\L'.map Ji=R:=by
 intro l
 induction l with
 |nil=>intro f IH j L R _ _ _ h;exact⟨L,by simp,h⟩
 |cons v l ih=>
  intro f IH j L R hv hd c h;obtain⟨h1,_,h2,g⟩:=hv v (by simp)
  have i:v.1∉j.IJ.map Prod.fst:=fun hm=>by
   rw[S8,TF] at hd;exact hd.2.2 _ hm v.1 (by simp) rfl
  have e:L.map Ji=(1,Gm.Kl)::(1,bs v.1)::(5,[61])::(3,bs v.2)::(Jq (l.flatMap ik)++R):=by
   rw[h];simp[Jq,ik]
  obtain⟨L3,a1,a2⟩:=dg (f:=f+l.length) (IH:=IH) (j:=j) (j':={j with IJ:=j.IJ++[v]}) (L2:=[]) (L3:=[]) e (bX rfl) (fun L2 a=>Fh h1 h2 g i (by simp at c;omega) a)
  obtain⟨d,b1,b2⟩:=ih f IH {j with IJ:=j.IJ++[v]} L3 R (fun u k=>hv u (by simp[k])) (by simpa using hd) (by simpa using c) a2
  refine⟨d,?_,b2⟩;rw[SQ,show f+(l.length+1)=f+l.length+1 by omega,a1,ps_ rfl,b1]
  simp
def at_(j:Jd)(IM Jb:Int):Jd:={cV j with IM:=IM,Jb:=Jb}
theorem EW{j:Jd}(h:Mz j)(b:List Nat)(full:Bool)(D:full=O){L:List IY}{R:List (Nat×List Nat)}(hL:L.map Ji=Jq (ju b j)++R):
  ∃L' ln cl,Gm.I6 full L=X (at_ j ln cl,L')/\L'.map Ji=R:=by
 subst D;unfold ju at hL;rw[fk,SH,fk,SH,fk,SH,fk,SH,fk,SH,fk,SH] at hL;have ac:L.map Ji=(1,LX)::(1,bs j.nm)::(5,[123])::(1,Gm.J6)::(3,bs j.run)::(Jq (j.IJ.flatMap ik)++(Jq (fp j.IC)++(Jq (eK j)++
   ((1,Gm.Jj)::(1,J3 j.IE)::(1,Gm.Jm)::(2,dec j.base.toNat)::(2,dec j.cap.toNat)::(2,dec j.IG.toNat)::(1,Gm.JJ)::(2,dec j.II.toNat)::(2,dec j.win.toNat)::(1,Gm.Kb)::(Jq (Jx (j.IK.map dM))++((5,[125])::R)))))):=hL
 clear hL;obtain⟨_,_,a1,a2,a3⟩:=gT ac;obtain⟨d,L2,b1,b2,b3⟩:=mE h.nm a3;have c1:=fc 123 b3;have c2:=kI b3;obtain⟨L3,S⟩:∃L3,L2.tail=L3:=⟨_,rfl⟩
 rw[S] at c2;have aa:Gm.I6 O L=Gm.JH (L3.length+1) [] (Gm.Jz j.nm d.IM d.Jb) L3:=by
  unfold Gm.I6;rw[a1];simp only[a2];rw[ng_ (by decide),b1]
  simp only[b2];unfold Gm.sign;rw[c1,ps_ (by decide)]
  simp only[S]
 have af:9+j.IJ.length<=L3.length:=by
  have:=congrArg SW c2
  simp only[bL,SQ,bF] at this;have h2:∀l:List (ByteArray×ByteArray),l.length<=(Jq (l.flatMap ik)).length:=by
   intro l
   induction l with
   |nil=>simp
   |cons a l ih=>
    have e:Jq ((a::l).flatMap ik)=Jq (ik a)++Jq (l.flatMap ik):=by rw[S0,fk]
    rw[e,bF,SQ];have:(Jq (ik a)).length=4:=rfl;omega
  have:=h2 j.IJ
  omega
 obtain⟨f,hf⟩:∃f,L3.length+1=f+7+j.IJ.length+1:=⟨L3.length-7-j.IJ.length,by omega⟩
 obtain⟨L4,d1,d2⟩:=dg (f:=f+7+j.IJ.length) (IH:=[]) (j:=Gm.Jz j.nm d.IM d.Jb) (j':={Gm.Jz j.nm d.IM d.Jb with run:=j.run}) (L2:=[]) (L3:=[]) c2 (bY (by simp)) (fun M o=>by
  obtain⟨u,r,s⟩:=pA (k:=3) h.run.2.1 o;exact⟨u,by unfold Gm.KM;rw[ps_ rfl,r];simp only[h.run.2.2],s⟩)
 rw[ng_ (by decide)] at d1
 obtain⟨L5,g1,g2⟩:=Dd j.IJ (f+7) ([]++[Gm.J6]) {Gm.Jz j.nm d.IM d.Jb with run:=j.run} L4 _ h.IJ (by simpa [Gm.Jz] using h.PC.1) (by simpa [Gm.Jz] using h.PC.2) d2
 have T:∀{w:List Nat} {F:List (Nat×List Nat)},Hl ((1,w)::F):=fun {w} {F}=>⟨1,w,F,rfl,by simp⟩
 have ad:∃F,Jq (eK j)++((1,Gm.Jj)::(1,J3 j.IE)::(1,Gm.Jm)::(2,dec j.base.toNat)::(2,dec j.cap.toNat)::(2,dec j.IG.toNat)::(1,Gm.JJ)::(2,dec j.II.toNat)::(2,dec j.win.toNat)::(1,Gm.Kb)::(Jq (Jx (j.IK.map dM))++((5,[125])::R)))=F/\Hl F:=by
  refine⟨_,rfl,?_⟩;unfold eK;split
  ·exact T
  exact T
 obtain⟨R1,y,ab⟩:=ad;rw[y] at g2;have x:∃C i A,f<=C/\C<=f+7/\f+6<=C/\Gm.JH (f+7) ([]++[Gm.J6]) {Gm.Jz j.nm d.IM d.Jb with run:=j.run,IJ:=[]++j.IJ} L5=Gm.JH C i {Gm.Jz j.nm d.IM d.Jb with run:=j.run,IJ:=j.IJ,IC:=j.IC} A/\A.map Ji=R1/\Gm.J6∈i/\(∀w∈i,w=Gm.J6\/w=Gm.Ju):=by
  by_cases hne:j.IC=[]
  ·refine⟨f+7,[]++[Gm.J6],L5,by omega,by omega,by omega,?_,?_,by simp,fun w I=>bX (by simpa using I)⟩
   ·rw[hne];rfl
   rw[g2];unfold fp;rw[ps_ hne];rfl
  have g3:L5.map Ji=(1,Gm.Ju)::(Jq (Jx (j.IC.map fq))++R1):=by rw[g2];unfold fp;rw[ng_ hne];rfl
  obtain⟨A,k1,k2⟩:=dg (f:=f+6) (IH:=[]++[Gm.J6]) (j:={Gm.Jz j.nm d.IM d.Jb with run:=j.run,IJ:=[]++j.IJ}) (j':={Gm.Jz j.nm d.IM d.Jb with run:=j.run,IJ:=j.IJ,IC:=j.IC}) (L2:=[]) (L3:=[]) g3 (bY (by decide)) (fun M o=>by
   have hl:j.IC.length<=M.length+1:=by
    have h1:=congrArg SW o
    simp only[bL,bF] at h1;have h2:∀l:List ByteArray,l.length<=(Jq (Jx (l.map fq))).length:=by
     intro l
     induction l with
     |nil=>simp
     |cons a l ih=>
      cases l with
      |nil=>simp[Jx,Jq,fq]
      |cons b l=>simp[Jx,Jq,fq] at ih ⊢;omega
    have:=h2 j.IC
    omega
   obtain⟨u,r,s⟩:=zf j.IC (M.length+1) {Gm.Jz j.nm d.IM d.Jb with run:=j.run,IJ:=[]++j.IJ} M R1 hne h.IC (by simpa [Gm.Jz] using h.OL.1) (by simpa [Gm.Jz] using h.OL.2) hl ab o
   refine⟨u,?_,s⟩;unfold Gm.KM;rw[ng_ (by decide),ng_ (by decide),ps_ rfl,r]
   rfl)
  rw[ng_ (by decide)] at k1
  exact⟨f+6,_,A,by omega,by omega,by omega,k1,k2,by simp,fun w I=>by simpa [or_comm] using I⟩
 obtain⟨f1,p,A,_,_,_,m1,m2,m3,m4⟩:=x;obtain⟨R2,W⟩:∃R2,(1,Gm.Jj)::(1,J3 j.IE)::(1,Gm.Jm)::(2,dec j.base.toNat)::(2,dec j.cap.toNat)::(2,dec j.IG.toNat)::(1,Gm.JJ)::(2,dec j.II.toNat)::(2,dec j.win.toNat)::(1,Gm.Kb)::(Jq (Jx (j.IK.map dM))++((5,[125])::R))=R2:=⟨_,rfl⟩
 rw[W] at y;have z:∃C i J,f+5<=C/\Gm.JH f1 p {Gm.Jz j.nm d.IM d.Jb with run:=j.run,IJ:=j.IJ,IC:=j.IC} A=Gm.JH C i {Gm.Jz j.nm d.IM d.Jb with run:=j.run,IJ:=j.IJ,IC:=j.IC,IQ:=j.IQ,ready:=j.ready} J/\J.map Ji=R2/\Gm.J6∈i/\(∀w∈i,w=Gm.J6\/w=Gm.Ju\/w=Gm.Ka):=by
  cases hR:j.IQ with
  |false=>
   refine⟨f1,p,A,by omega,?_,?_,m3,fun w I=>?_⟩
   ·rw[h.nr hR];rfl
   ·rw[m2,<-y];unfold eK;rw[hR,ng_ (by decide)];rfl
   grind
  |true=>
   obtain⟨P,rfl⟩:∃g,f1=g+1:=⟨f1-1,by omega⟩
   obtain⟨_,q2,q3⟩:=h.ready hR;have g3:A.map Ji=(1,Gm.Ka)::(4,bs j.ready)::R2:=by rw[m2,<-y];unfold eK;rw[hR,ps_ rfl];rfl
   obtain⟨J,k1,k2⟩:=dg (f:=P) (IH:=p) (j:={Gm.Jz j.nm d.IM d.Jb with run:=j.run,IJ:=j.IJ,IC:=j.IC}) (j':={Gm.Jz j.nm d.IM d.Jb with run:=j.run,IJ:=j.IJ,IC:=j.IC,IQ:=G,ready:=j.ready}) (L2:=[]) (L3:=[]) g3 (bY (fun hm=>by
    rcases m4 _ hm with e|e
    ·exact absurd e (by decide)
    ·exact absurd e (by decide))) (fun M o=>by
    obtain⟨u,r,s⟩:=pA (k:=4) q2 o;refine⟨u,?_,s⟩;unfold Gm.KM;rw[ng_ (by decide),ng_ (by decide),ng_ (by decide),ps_ rfl,r]
    simp only[q3])
   rw[ng_ (by decide)] at k1
   refine⟨P,_,J,by omega,k1,k2,by simp[m3],fun w I=>?_⟩
   rcases SN.mp I with e|e
   ·rcases m4 w e with e|e
    ·exact bX e
    exact bY (bX e)
   exact bY (bY (SX.mp e))
 obtain⟨f2,m,J,_,n1,n2,n3,n4⟩:=z;rw[<-W] at n2;have q:∀{w:List Nat},w≠Gm.J6->w≠Gm.Ju->w≠Gm.Ka->w∉m:=fun h1 h2 h3 hm=>by
  rcases n4 _ hm with e|e|e
  ·exact h1 e
  ·exact h2 e
  exact h3 e
 obtain⟨f3,rfl⟩:∃g,f2=g+5:=⟨f2-5,by omega⟩
 have tn:∀{n:Int},0<=n->((n.toNat:Nat):Int)=n:=fun hn=>by omega
 obtain⟨_,p1,p2⟩:=dg (f:=f3+4) (IH:=m) (j:={Gm.Jz j.nm d.IM d.Jb with run:=j.run,IJ:=j.IJ,IC:=j.IC,IQ:=j.IQ,ready:=j.ready}) (j':={Gm.Jz j.nm d.IM d.Jb with run:=j.run,IJ:=j.IJ,IC:=j.IC,IQ:=j.IQ,ready:=j.ready,IE:=j.IE}) (L2:=[]) (L3:=[]) n2 (bY (q (by decide) (by decide) (by decide))) (fun M o=>by
  obtain⟨t,u,r,s,N⟩:=gT o;obtain⟨q1,_⟩:=un h.rs;refine⟨u,?_,N⟩;unfold Gm.KM;rw[ng_ (by decide),ng_ (by decide),ng_ (by decide),ng_ (by decide),ps_ rfl,r]
  simp only[s,q1];rw[ng_ (by have:=h.rs;omega)])
 rw[ng_ (by decide)] at p1
 obtain⟨_,r1,r2⟩:=dg (f:=f3+3) (IH:=m++[Gm.Jj]) (j:={Gm.Jz j.nm d.IM d.Jb with run:=j.run,IJ:=j.IJ,IC:=j.IC,IQ:=j.IQ,ready:=j.ready,IE:=j.IE}) (j':={Gm.Jz j.nm d.IM d.Jb with run:=j.run,IJ:=j.IJ,IC:=j.IC,IQ:=j.IQ,ready:=j.ready,IE:=j.IE,base:=j.base,cap:=j.cap,IG:=j.IG}) (L2:=[]) (L3:=[]) p2 (bY (fun hm=>by
  rcases SN.mp hm with e|e
  ·exact q (by decide) (by decide) (by decide) e
  ·exact absurd (SX.mp e) (by decide))) (fun M o=>by
  obtain⟨u,r,s⟩:=km (my h.b.1 h.b.2) o;obtain⟨M3,N,e4⟩:=km (my h.c.1 h.c.2) s;obtain⟨M4,e5,e6⟩:=km (my h.st.1 h.st.2) e4;refine⟨M4,?_,e6⟩;unfold Gm.KM;rw[ng_ (by decide),ng_ (by decide),ng_ (by decide),ng_ (by decide),ng_ (by decide),ps_ rfl,r]
  simp only[N,e5,tn h.b.1,tn h.c.1,tn h.st.1])
 rw[ng_ (by decide)] at r1
 have B:(0:Int)<=j.II:=by have:=h.bu;omega
 obtain⟨_,s1,s2⟩:=dg (f:=f3+2) (IH:=m++[Gm.Jj]++[Gm.Jm]) (j:={Gm.Jz j.nm d.IM d.Jb with run:=j.run,IJ:=j.IJ,IC:=j.IC,IQ:=j.IQ,ready:=j.ready,IE:=j.IE,base:=j.base,cap:=j.cap,IG:=j.IG}) (j':={Gm.Jz j.nm d.IM d.Jb with run:=j.run,IJ:=j.IJ,IC:=j.IC,IQ:=j.IQ,ready:=j.ready,IE:=j.IE,base:=j.base,cap:=j.cap,IG:=j.IG,II:=j.II,win:=j.win}) (L2:=[]) (L3:=[]) r2 (bY (fun hm=>by
  rcases SN.mp hm with e|e
  ·rcases SN.mp e with e|e
   ·exact q (by decide) (by decide) (by decide) e
   exact absurd (SX.mp e) (by decide)
  ·exact absurd (SX.mp e) (by decide))) (fun M o=>by
  obtain⟨u,r,s⟩:=km (my B (by have:=h.bu;omega)) o
  obtain⟨M3,N,e4⟩:=km (my h.wi.1 h.wi.2) s;refine⟨M3,?_,e4⟩;unfold Gm.KM;rw[ng_ (by decide),ng_ (by decide),ng_ (by decide),ng_ (by decide),ng_ (by decide),ng_ (by decide),ps_ rfl,r]
  simp only
  rw[ng_ (by have:=h.bu;omega),N]
  simp only[tn B,tn h.wi.1])
 rw[ng_ (by decide)] at s1
 obtain⟨Lb,u1,u2⟩:=dg (f:=f3+1) (IH:=m++[Gm.Jj]++[Gm.Jm]++[Gm.JJ]) (j:={Gm.Jz j.nm d.IM d.Jb with run:=j.run,IJ:=j.IJ,IC:=j.IC,IQ:=j.IQ,ready:=j.ready,IE:=j.IE,base:=j.base,cap:=j.cap,IG:=j.IG,II:=j.II,win:=j.win}) (j':=at_ j d.IM d.Jb) (L2:=[]) (L3:=[]) s2 (bY (fun hm=>by
  rcases SN.mp hm with e|e
  ·rcases SN.mp e with e|e
   ·rcases SN.mp e with e|e
    ·exact q (by decide) (by decide) (by decide) e
    exact absurd (SX.mp e) (by decide)
   exact absurd (SX.mp e) (by decide)
  ·exact absurd (SX.mp e) (by decide))) (fun M o=>by
  have hl:j.IK.length<=M.length+1:=by
   have h1:=congrArg SW o
   simp only[bL,bF] at h1;have h2:∀l:List (Int×Int),l.length<=(Jq (Jx (l.map dM))).length:=by
    intro l
    induction l with
    |nil=>simp
    |cons a l ih=>
     cases l with
     |nil=>simp[Jx,Jq,dM]
     |cons b l=>simp[Jx,Jq,dM] at ih ⊢;omega
   have:=h2 j.IK
   omega
  obtain⟨u,r,s⟩:=yy j.IK (M.length+1) {Gm.Jz j.nm d.IM d.Jb with run:=j.run,IJ:=j.IJ,IC:=j.IC,IQ:=j.IQ,ready:=j.ready,IE:=j.IE,base:=j.base,cap:=j.cap,IG:=j.IG,II:=j.II,win:=j.win,IK:=[]} M ((5,[125])::R) (fun e=>by have:=h.Qr;rw[e] at this;simp at this) h.la (by have:=h.Qr;simp;omega) hl ⟨5,[125],R,rfl,by decide⟩ o
  refine⟨u,?_,s⟩;unfold Gm.KM;rw[ng_ (by decide),ng_ (by decide),ng_ (by decide),ng_ (by decide),ng_ (by decide),ng_ (by decide),ng_ (by decide),ps_ rfl,r]
  rfl)
 rw[ng_ (by decide)] at u1
 refine⟨Lb.tail,d.IM,d.Jb,?_,kI u2⟩;have ae:Gm.JH (f+7+j.IJ.length) ([]++[Gm.J6]) {Gm.Jz j.nm d.IM d.Jb with run:=j.run} L4=Gm.JH (f+7) ([]++[Gm.J6]) {Gm.Jz j.nm d.IM d.Jb with run:=j.run,IJ:=[]++j.IJ} L5:=g1
 rw[aa,hf,d1,ae,m1,n1,p1,r1,s1,u1,Gm.JH,fc 125 u2,ps_ (by decide),ps_ (by simp[n3])]
theorem uI:∀(js:List Jd) (b:List Nat) (f:Nat) (IW:List Jd) (L:List IY),(∀j∈js,Mz j)->IW.length+js.length<=32->js.length<f->L.map Ji=Jq (JB b js)++[(6,[])]->
  ∃a,Gm.Js f IW L=X (IW++a)/\a.length=js.length/\∀i,i<js.length->∃ln c,a[i]? =(js[i]?).map fun j=>at_ j ln c:=by
 intro js
 induction js with
 |nil=>
  intro b f IW L _ _ d l;obtain⟨f,rfl⟩:∃g,f=g+1:=⟨f-1,by simp at d;omega⟩
  obtain⟨t,L',rfl,h1,_,_⟩:=iC (show L.map Ji=(6,[])::[] from l)
  exact⟨[],by rw[Gm.Js,ps_ h1];simp,rfl,fun i m=>by simp at m⟩
 |cons j js ih=>
  intro b f IW L h n d l;obtain⟨f,rfl⟩:∃g,f=g+1:=⟨f-1,by simp at d;omega⟩
  have e:L.map Ji=Jq (ju b j)++(Jq (JB [10] js)++[(6,[])]):=by
   rw[l,JB,fk,SH]
  simp only[SQ] at n d;obtain⟨L',ln,c,h1,h2⟩:=EW (h j (by simp)) b (decide (32<=IW.length)) (by simp;omega) e
  obtain⟨a,a1,a2,a3⟩:=ih [10] f (IW++[at_ j ln c]) L' (fun k hk=>h k (by simp[hk])) (by simp;omega) (by omega) h2
  have hk:∃t M,L=t::M/\t.IF=1:=by
   unfold ju at e;rw[S_] at e;obtain⟨t,M,rfl,hk,_,_⟩:=iC (k:=1) (y:=LX) e;exact⟨t,M,rfl,hk⟩
  obtain⟨t,M,rfl,hk⟩:=hk;refine⟨at_ j ln c::a,?_,by simp[a2],fun i m=>?_⟩
  ·rw[Gm.Js,ng_ (by rw[hk];decide),h1]
   simp only[a1];simp
  cases i with
  |zero=>exact⟨ln,c,rfl⟩
  |succ i=>simpa using a3 i (by simpa using m)
theorem CN{js:List Jd}(h:∀j∈js,Mz j)(n:js.length<=32){ps:List P}{e:List Nat}(hc:Jo ps e)(hs:Jq ps=Jq (JB [] js))(o:ps.length<=2000)(m:(flat ps++e).length<=8192):
  ∃c,Gm.load (flat ps++e)=X c/\c.length=js.length/\∀i,i<js.length->∃ln f,c[i]? =(js[i]?).map fun j=>at_ j ln f:=by
 obtain⟨L,h1,h2⟩:=tG hc o m;rw[hs] at h2;have d:js.length<L.length+1:=by
  have g:=congrArg SW h2
  simp only[bL,bF] at g;have k:∀(l:List Jd) (b:List Nat),l.length<=(Jq (JB b l)).length:=by
   intro l
   induction l with
   |nil=>intro b;simp
   |cons a l ih=>
    intro b;have:=ih [10];rw[JB,fk,bF,SQ];have:1<=(Jq (ju b a)).length:=by unfold ju;simp[Jq]
    omega
  have:=k js []
  omega
 obtain⟨c,a1,a2,a3⟩:=uI js [] (L.length+1) [] L h (by simpa using n) d h2
 exact⟨c,by unfold Gm.load;rw[h1];simp only;unfold Gm.parse;rw[a1];rfl,a2,a3⟩
end Pt
namespace Pt
theorem pq:∀(x:List Nat) (y:List Nat) (s r:Bool),LA s (x++y)=X r->∃s',LA s x=X s'/\LA s' y=X r:=by
 intro x
 induction x with
 |nil=>intro y s r h;exact⟨s,by cases s<;>rfl,h⟩
 |cons b x ih=>
  intro y s r h;cases s with
  |true=>
   rw[S_] at h;rw[LA] at h ⊢;split at h
   ·next e=>rw[ps_ e];exact ih _ _ _ h
   next e=>rw[ng_ e];exact ih _ _ _ h
  |false=>
   rw[S_] at h;rw[LA] at h ⊢;split at h
   ·next e=>rw[ps_ e];exact ih _ _ _ h
   grind
theorem Fr(x:List Nat)(s r:Bool)(h:LA s (x++[10])=X r):r=O:=by
 obtain⟨s',_,h2⟩:=pq x [10] s r h;cases s'<;>simp[LA] at h2<;>first|exact h2|exact h2.symm
theorem ve(h:LA O l=X O)(c:l[i]? =X 10):LA O (l.take (i+1)++(NV++l.drop (i+1)))=X O:=by
 have a:i<l.length:=(Tt.mp c).1
 have d:l[i]=10:=(Tt.mp c).2
 rw[<-List.take_append_drop (i+1) l] at h;obtain⟨s,h1,h2⟩:=pq _ _ _ _ h;have b:=h1;rw[S4 a,d] at b;have:=Fr _ _ _ b;subst this;rw[vf _ _ _ _ h1,vf _ _ _ _ Di];exact h2
theorem zN{x:List Nat}(h:i<l.length):(l.take (i+1)++x).head?=l.head?:=by
 cases l with
 |nil=>simp at h
 |cons a l=>simp
theorem yf{b x r:List Nat}(h1:b.length<=k)(h2:x.length<=k-b.length):(b++(x++r)).take k=b++(x++r.take (k-b.length-x.length)):=by grind [List.take_append,TG]
theorem Aq{b x r:List Nat}(h1:b.length<=k)(h2:x.length<=k-b.length):(b++(x++r)).drop k=r.drop (k-b.length-x.length):=by grind [List.drop_append,Te]
theorem xC:∀(ps:List P) (e:List Nat) (i:Nat),Jo ps e->(∀p∈ps,10∉p.x)->(flat ps++e)[i]? =X 10->
  ∃a f,flat a++f=(flat ps++e).take (i+1)++(NV++(flat ps++e).drop (i+1))/\Jo a f/\Jq a=Jq ps/\a.length=ps.length/\∀l∈a,∃p∈ps,l.x=p.x/\l.k=p.k/\l.y=p.y:=by
 intro ps
 induction ps with
 |nil=>
  intro e i hc _ c;have h:flat []++e=e:=by simp[flat]
  rw[h] at c ⊢;exact⟨[],_,by simp[flat],ve hc c,rfl,rfl,fun p u=>by cases u⟩
 |cons p ps ih=>
  intro e i hc hx c;obtain⟨m,o,n,hc⟩:=hc;have h:flat (p::ps)++e=p.b++(p.x++(flat ps++e)):=by simp[flat]
  rw[h] at c ⊢;rcases Tf i p.b.length with h1|h1
  ·rw[bJ h1] at c;refine⟨⟨p.b.take (i+1)++(NV++p.b.drop (i+1)),p.x,p.k,p.y⟩::ps,e,?_,⟨ve m c,o,n,hc⟩,rfl,rfl,fun q g=>?_⟩
   ·rw[List.take_append_of_le_length (by omega),List.drop_append_of_le_length (by omega)]
    simp[flat]
   rcases SI.mp g with rfl|g
   ·exact⟨p,by simp,rfl,rfl,rfl⟩
   exact⟨q,by simp[g],rfl,rfl,rfl⟩
  rw[Td h1] at c;rcases Tf (i-p.b.length) p.x.length with h2|h2
  ·rw[bJ h2] at c;exact absurd (List.mem_of_getElem? c) (hx p (by simp))
  rw[Td h2] at c;have j:=(Tt.mp c).1;obtain⟨a,f,a1,a2,a3,s,a5⟩:=ih e _ hc (fun q g=>hx q (by simp[g])) c
  refine⟨p::a,f,?_,⟨m,o,fun hk=>?_,a2⟩,by simp only[Jq,S9] at a3 ⊢;rw[a3],by simp[s],fun q g=>?_⟩
  ·have t:flat (p::a)++f=p.b++(p.x++(flat a++f)):=by simp[flat]
   rw[t,a1];generalize flat ps++e=r;rw[yf (by omega) (by omega),Aq (by omega) (by omega),show i+1-p.b.length-p.x.length=i-p.b.length-p.x.length+1 by omega]
   simp
  ·intro d hd;refine n hk d ?_;rw[a1,zN j] at hd;exact hd
  grind
def pv(p:P):Prop:=10∉p.x/\(p.k=4->p.x=KY p.y/\OD p.y/\∀b∈p.y,b<256)
theorem Ei(h:Lx.word c=G):c≠10:=by rintro rfl;exact absurd h (by decide)
theorem cg{b x:List Nat}(h:10∉x)(hk:k≠4):pv ⟨b,x,k,y⟩:=⟨h,fun e=>absurd e hk⟩
theorem lT{b:List Nat}(h:Kv s):pv ⟨b,bs s,1,y⟩:=by
 refine cg (fun hm=>?_) (by decide)
 obtain⟨⟨c,r,e,h1,h2⟩,_,_⟩:=h;rw[e] at hm;rcases SI.mp hm with a|a
 ·exact absurd (show Lx.I9 10=G by rw[a];exact h1) (by decide)
 exact Ei (h2 _ a) rfl
theorem uP(n:Nat):48<=K6 n:=by grind [K6]
theorem uh(s:List Nat):10∉quote s:=by
 unfold quote Jv;intro hm;simp only[SI,SN,TH,SP,or_false] at hm;rcases hm with h|⟨b,_,h⟩|h
 ·omega
 ·unfold q1 at h;have:=uP (b/16);have:=uP (b%16);split at h
  ·next e=>simp at h;omega
  grind
 omega
theorem GK{n:Nat}(h:n<10^18):10∉dec n:=fun hm=>absurd ((nH h).2.1 _ hm) (by decide)
theorem ir{n:Int}(a:0<=n)(h:n<1000000):pv (fW n):=cg (GK (my a h)) (by decide)
theorem mF{p:P}:∀{l:List (List P)},p∈Jx l->p=⟨[],[44],5,[44]⟩\/∃q∈l,p∈q:=by
 intro l
 induction l with
 |nil=>intro h;cases h
 |cons a l ih=>
  intro h;cases l with
  |nil=>exact bY ⟨a,by simp,h⟩
  |cons b l=>
   rw[Jx] at h;rcases SN.mp h with h|h
   ·rcases SN.mp h with h|h
    ·exact bY ⟨a,by simp,h⟩
    exact bX (SX.mp h)
   grind
theorem Gc{s:Int}(h:nN s):10∉KI s:=by
 rcases h with rfl|rfl|rfl|rfl|rfl|rfl<;>decide
theorem Gi{n:Int}(h:n=1\/n=2\/n=3):10∉J3 n:=by rcases h with rfl|rfl|rfl<;>decide
theorem zQ{j:Jd}(h:Mz j)(b:List Nat):∀p∈ju b j,pv p:=by
 intro p a;unfold ju at a;simp only[SN,SI,SP,or_false,TH] at a;have d:=h.b;have hc:=h.c;have hs:=h.st;have l:=h.bu;have i:=h.wi;rcases a with(rfl|rfl|rfl|rfl|rfl)|⟨v,hv,a⟩|a|a|(rfl|rfl|rfl|rfl|rfl|rfl|rfl|rfl|rfl|rfl)|a|rfl
 ·exact cg (by decide) (by decide)
 ·exact lT h.nm
 ·exact cg (by decide) (by decide)
 ·exact cg (by decide) (by decide)
 ·exact cg (uh _) (by decide)
 ·unfold ik at a;simp only[SI,SP,or_false] at a;rcases a with rfl|rfl|rfl|rfl
  ·exact cg (by decide) (by decide)
  ·exact lT (h.IJ v hv).1
  ·exact cg (by decide) (by decide)
  exact cg (uh _) (by decide)
 ·unfold fp at a;split at a
  ·cases a
  rcases SI.mp a with rfl|a
  ·exact cg (by decide) (by decide)
  rcases mF a with rfl|⟨q,f,a⟩
  ·exact cg (by decide) (by decide)
  obtain⟨s,hs,rfl⟩:=S5.mp f;rw[SX.mp a];exact lT (h.IC s hs)
 ·unfold eK at a;split at a
  ·next e=>
   simp only[SI,SP,or_false] at a;rcases a with rfl|rfl
   ·exact cg (by decide) (by decide)
   obtain⟨h1,_,g⟩:=h.ready e;refine⟨fun hm=>?_,fun _=>⟨rfl,h1,fun b d=>ed d⟩⟩
   unfold KY at hm;simp only[SI,SN,SP,or_false] at hm;rcases hm with hm|hm|hm
   ·omega
   ·have:=(h1 _ hm).2.2;omega
   omega
  cases a
 ·exact cg (by decide) (by decide)
 ·exact cg (Gi h.rs) (by decide)
 ·exact cg (by decide) (by decide)
 ·exact ir d.1 d.2
 ·exact ir hc.1 hc.2
 ·exact ir hs.1 hs.2
 ·exact cg (by decide) (by decide)
 ·exact ir (by omega) (by omega)
 ·exact ir i.1 i.2
 ·exact cg (by decide) (by decide)
 ·rcases mF a with rfl|⟨q,f,a⟩
  ·exact cg (by decide) (by decide)
  obtain⟨r,k,rfl⟩:=S5.mp f;obtain⟨h1,h2,g⟩:=h.la r k;unfold dM at a;simp only[SI,SP,or_false] at a;rcases a with rfl|rfl
  ·exact cg (Gc h1) (by decide)
  exact ir h2 g
 exact cg (by decide) (by decide)
theorem pd:∀{js:List Jd} {b:List Nat},(∀j∈js,Mz j)->∀p∈JB b js,pv p:=by
 intro js
 induction js with
 |nil=>intro b _ p a;cases a
 |cons j js ih=>
  intro b h p a;rw[JB] at a;rcases SN.mp a with a|a
  ·exact zQ (h j (by simp)) b p a
  grind
end Pt
def Mm:List TR:=[Q ⟨#[120]⟩,Q ⟨#[114,117,110,32,105,116]⟩,Q ⟨#[97,32,34,98,34,10]⟩,Q ⟨#[]⟩]
def LY:List ByteArray:=[⟨#[120]⟩,⟨#[114,117,110,32,105,116]⟩,⟨#[97,32,34,98,34,10]⟩,⟨#[]⟩]
def qV(i:Int):ByteArray:=LY.getD i.toNat ⟨#[]⟩
theorem uV{l:List ByteArray}(h:(⟨#[]⟩:ByteArray)∈l)(i:Nat):l.getD i ⟨#[]⟩∈l:=by grind
theorem EA(x:Int):qV x∈LY:=uV (by simp[LY]) _
def wU:Array TR:=#[Q ⟨#[]⟩,Q ⟨#[]⟩,U V 0 0,U V 0 0,K O,Q ⟨#[]⟩,Z Y 0,Z E 0,Z E 0,Z E 0,Z Y 0,Z E 0,U V 0 0,Z Y 0,Z Y 0]
def oS(nm:ByteArray)(a b c d e f:Int):Array TR:=#[Q nm,Q (qV a),U V 0 0,U V 0 0,K O,Q ⟨#[]⟩,Z Y b,Z E c,Z E 0,Z E d,Z Y e,Z E f,U V 0 0,Z Y 0,Z Y 0]
def CW(nm:ByteArray)(a b c d e f:Int):Jd:=⟨nm,qV a,V,[],0,V,[],0,O,⟨#[]⟩,b,c,0,d,e,f,V,[],0,0,0⟩
structure J1(w0:TQ)(B g k6:Nat)(bB bA bS:Bool)(dl:List Int)(ka kb:Nat)(v:Array TR)(w:TQ):Prop where
 gw:w0.grownBy w (some g)
 gl:g<w0.heap.size
 MF:w0.heap.size<=k6
 MI:w.heap[k6]? =some (sV cE)
 dk:Dk w B g dl
 tb:bB=true->w0.heap.size<=kb/\w.heap[kb]? =some (.cells Mm.toArray 9 (0,0))
 bx:bA=true->w0.heap.size<=ka/\k6≠ka/\w.heap[ka]? =some (.cells (cond bS v wU) 63 (0,0))
section
variable {w0 w w2 : TQ} {B g k6 : Nat} {bB bA bS : Bool} {dl dl' : List Int} {ka kb : Nat} {v : Array TR}
theorem J1.turn(h:J1 w0 B g k6 bB bA bS dl ka kb v w)(hd:Dk w2 B g dl')(b:w.grownBy w2 (X g)):J1 w0 B g k6 bB bA bS dl' ka kb v w2:=
 ⟨hY h.gw b,h.gl,h.MF,(b.block k6 (aQ h.MI) (by intro e;injection e with e;have:=h.MF;have:=h.gl;omega)).trans h.MI,hd,
  fun a=>⟨(h.tb a).1,(b.block kb (aQ (h.tb a).2) (by intro e;injection e with e;have:=(h.tb a).1;have:=h.gl;omega)).trans (h.tb a).2⟩,
  fun a=>⟨(h.bx a).1,(h.bx a).2.1,(b.block ka (aQ (h.bx a).2.2) (by intro e;injection e with e;have:=(h.bx a).1;have:=h.gl;omega)).trans (h.bx a).2.2⟩⟩
theorem J1.up(h:J1 w0 B g k6 bB bA bS dl ka kb v w)(b:ID w w2):J1 w0 B g k6 bB bA bS dl ka kb v w2:=
 ⟨du h.gw (ip b) (fun q e=>by cases e),h.gl,h.MF,b.block h.MI,h.dk.up b,fun a=>⟨(h.tb a).1,b.block (h.tb a).2⟩,fun a=>⟨(h.bx a).1,(h.bx a).2.1,b.block (h.bx a).2.2⟩⟩
theorem J1.bs(h:J1 w0 B g k6 O bA bS dl ka kb v w):J1 w0 B g k6 G bA bS dl ka w.heap.size v (w.alloc (H Mm.toArray 9)):=by
 have a:=h.up ((ID.refl w).alloc (H Mm.toArray 9))
 exact⟨a.gw,a.gl,a.MF,a.MI,a.dk,fun _=>⟨h.gw.size,aM w _⟩,a.bx⟩
theorem J1.al(h:J1 w0 B g k6 bB O O dl ka kb v w):J1 w0 B g k6 bB G O dl w.heap.size kb v (w.alloc (H wU 63)):=by
 have a:=h.up ((ID.refl w).alloc (H wU 63))
 exact⟨a.gw,a.gl,a.MF,a.MI,a.dk,a.tb,fun _=>⟨h.gw.size,fun e=>by have:=aQ h.MI;omega,aM w _⟩⟩
theorem J1.run(h:J1 w0 B g k6 G bA bS dl ka kb v w)(a:0<=x)(h1:x<4):w.cell? ⟨kb,x.toNat,V⟩=X (Q (qV x)):=by
 rw[aK w kb x.toNat _ _ _ (h.tb rfl).2];obtain⟨n,rfl⟩:=SY a;have:n=0\/n=1\/n=2\/n=3:=by omega
 rcases this with rfl|rfl|rfl|rfl<;>rfl
theorem J1.st(h:J1 w0 B g k6 bB G O dl ka kb v w):J1 w0 B g k6 bB G G dl ka kb v (w.setRow ka v):=by
 obtain⟨k0,kn,k1⟩:=h.bx rfl;have hB:=h.dk.1;have c:=h.gl;have a:w.grownBy (w.setRow ka v) (X ka):=⟨rfl,rfl,rfl,by simp,fun k _ hk=>TW w ka k v (fun e=>hk (by rw[e]))⟩
 refine⟨du h.gw a (fun q e=>by injection e with e;omega),h.gl,h.MF,(TW w ka k6 v kn).trans h.MI,h.dk.Kr a (by intro e;injection e with e;omega) (by intro k hk;injection hk with hk;omega),fun b=>⟨(h.tb b).1,?_⟩,fun _=>⟨k0,kn,setRow_heap w ka _ v _ _ k1⟩⟩
 rw[TW w ka kb v ?_]
 ·exact(h.tb b).2
 intro e;subst e;have:=(h.tb b).2;rw[k1] at this;simp at this
theorem J1.start{l:List Int}(h:Dk w B g l)(ka kb:Nat)(v:Array TR):J1 w B g w.heap.size O O O l ka kb v (w.alloc (H wU 63)).drew:=
 ⟨du ⟨rfl,rfl,rfl,bM _,fun _ _ _=>rfl⟩ (ip ((ID.refl w).alloc (H wU 63)).drew) (fun q e=>by cases e),h.lt,bM _,aM w _,h.up ((ID.refl w).alloc _).drew,fun e=>(by cases e),fun e=>(by cases e)⟩
end
def Mr:List (ByteArray×ByteArray):=[(⟨#[80]⟩,⟨#[49]⟩),(⟨#[81]⟩,⟨#[0,32,113]⟩)]
def KT:List ByteArray:=[⟨#[111,107]⟩,⟨#[]⟩,⟨#[114,46,42,121,36]⟩,⟨#[94,117,112,124,103,111,43]⟩,⟨#[91,48,45,57,93,43,120,63]⟩,⟨#[40,97,98,41,42,99]⟩,⟨#[94,36]⟩]
structure KA(nm:ByteArray)(j:Jd):Prop where
 name:j.nm=nm
 r:1<=j.IE/\j.IE<=3
 b:0<=j.base/\j.base<=5
 cp:j.base<=j.cap/\j.cap<=j.base+19
 st:0<=j.IG/\j.IG<=19
 bu:1<=j.II/\j.II<=4
 wi:1<=j.win/\j.win<=30
 en:j.IJ.length<=2
 ru:j.run∈LY
 ev:j.IJ=Mr.take j.IJ.length
 pa:j.IQ=true->j.ready∈KT
 si:∀r∈j.IK,r.1=15\/r.1=2\/r.1=1
 ln:j.IM=0/\j.Jb=0
 nr:j.IQ=false->j.ready=⟨#[]⟩
def Na(os:List ByteArray)(i:Nat)(j:Jd):Prop:=j.IC.Sublist (os.take i)
theorem Na.len{j:Jd}(h:Na os i j):j.IC.length<=i:=bN h.length_le (List.length_take_le _ _)
theorem Na.skip{j:Jd}(h:Na os i j):Na os (i+1) j:=h.trans (List.take_sublist_take_left (Tz i))
theorem Na.push{j j':Jd}(h:Na os i j)(b:i<os.length)(hs:os.getD i ⟨#[]⟩=s)(hj:j'.IC=j.IC++[s]):Na os (i+1) j':=by
 unfold Na;rw[hj,S4 b];rw[bD,bE b] at hs;have a:os[i]=s:=hs;rw[a];exact List.Sublist.append_right h [s]
def iP(j:Jd):Prop:=j.lA=V/\j.IK=[]/\j.lc=0
def ls(j:Jd):Prop:=j.nA=V/\j.IC=[]/\j.nc=0
theorem wo(w:TQ):
  TS TX 134 #[] w fun e w'=>e=SA (U (X ⟨w.heap.size,0,V⟩) 7 7)/\w'=w.alloc (H (ar KT).toArray 9):=by
 go_enter func134,ntmps134
 go_wp2
 go_ret;exact⟨rfl,rfl⟩
theorem uj(xs zs:List TR)(j:Nat)(u:TR)(a:xs[j]? =X u):(xs++zs).toArray[0+j]? =X u:=by grind
theorem xa:(TX.info? 9).map (fun i=>(i.zero,i.size,i.bytes))=X (X (Q ⟨#[]⟩),1,16):=by kernel_rfl
theorem sZ:(TX.info? 241).map (fun i=>(i.zero,i.size,i.bytes))=X (X (SF #[Z Y 0,Z E 0]),2,16):=by kernel_rfl
theorem KA.OZ{j:Jd}(h:KA nm j)(A:Option TT)(l:List ByteArray)(c:Nat):KA nm {j with nA:=A,IC:=l,nc:=c}:=⟨h.1,h.2,h.3,h.4,h.5,h.6,h.7,h.8,h.9,h.10,h.11,h.12,h.13,h.14⟩
theorem KA.OY{j:Jd}(h:KA nm j)(s:ByteArray)(hs:s∈KT):KA nm {j with IQ:=G,ready:=s}:=⟨h.1,h.2,h.3,h.4,h.5,h.6,h.7,h.8,h.9,h.10,fun _=>hs,h.12,h.13,fun e=>by cases e⟩
theorem KA.Qc{j:Jd}(h:KA nm j)(A:Option TT)(l:List (Int×Int))(c:Nat)(a:∀r∈l,r.1=15\/r.1=2\/r.1=1):KA nm {j with lA:=A,IK:=l,lc:=c}:=⟨h.1,h.2,h.3,h.4,h.5,h.6,h.7,h.8,h.9,h.10,h.11,a,h.13,h.14⟩
theorem KA.PD{j:Jd}(h:KA nm j)(A:Option TT)(l:List (ByteArray×ByteArray))(c:Nat)(b:l.length<=2)(a:l=Mr.take l.length):KA nm {j with eA:=A,IJ:=l,ec:=c}:=⟨h.1,h.2,h.3,h.4,h.5,h.6,h.7,b,h.9,a,h.11,h.12,h.13,h.14⟩
def m9(i:Int):ByteArray:=KT.getD i.toNat ⟨#[]⟩
theorem EM(x:Int):m9 x∈KT:=uV (by simp[KT]) _
structure Nc(w0 w:TQ)(B g k k6:Nat)(bP:Bool)(kp:Nat)(l:List Int)(j:Jd):Prop where
 jc:JC w0 w B g k k6 l j
 tb:bP=true->w0.heap.size<=kp/\w.heap[kp]? =some (.cells (ar KT).toArray 9 (0,0))
section
variable {w0 w w' : TQ} {B g k k6 kp : Nat} {l l' : List Int} {j j' : Jd} {bP : Bool}
theorem Nc.dk(h:Nc w0 w B g k k6 bP kp l j):Dk w B g l:=h.jc.dk
theorem Nc.row(h:Nc w0 w B g k k6 bP kp l j):w.heap[k]? =X (sV j):=h.jc.row
theorem Nc.turn(h:Nc w0 w B g k k6 bP kp l j)(hd:Dk w' B g l')(b:w.grownBy w' (X g)):Nc w0 w' B g k k6 bP kp l' j:=
 ⟨h.jc.turn hd b,fun a=>⟨(h.tb a).1,(b.block kp (aQ (h.tb a).2) (by intro e;injection e with e;have:=(h.tb a).1;have:=h.jc.gl;omega)).trans (h.tb a).2⟩⟩
theorem Nc.NU(h:Nc w0 w B g k k6 O kp l j):Nc w0 (w.alloc (H (ar KT).toArray 9)) B g k k6 G w.heap.size l j:=
 ⟨h.jc.up ((ID.refl w).alloc _),fun _=>⟨h.jc.gw.size,aM w _⟩⟩
theorem Nc.put(h:Nc w0 w B g k k6 bP kp l j)(i:Nat)(v:TR)(hv:(ag j).set i v=ag j')(b:j'.eA=j.eA/\j'.IJ=j.IJ)(c:j'.nA=j.nA/\j'.IC=j.IC/\j'.nc=j.nc):Nc w0 (w.setCell ⟨k,i,V⟩ v) B g k k6 bP kp l j':=
 ⟨h.jc.put i v hv b c,fun a=>⟨(h.tb a).1,(aL w ⟨k,i,V⟩ kp _ (fun e=>by
  subst e;have h1:=(h.tb a).2;rw[h.row] at h1;simp[sV] at h1)).trans (h.tb a).2⟩⟩
theorem Nc.run(h:Nc w0 w B g k k6 G kp l j)(a:0<=x)(h1:x<7):w.cell? ⟨kp,x.toNat,V⟩=X (Q (m9 x)):=by
 rw[aK w kp x.toNat _ _ _ (h.tb rfl).2];obtain⟨n,rfl⟩:=SY a;have:n=0\/n=1\/n=2\/n=3\/n=4\/n=5\/n=6:=by omega
 rcases this with rfl|rfl|rfl|rfl|rfl|rfl|rfl<;>rfl
end
def JF(x:Int):Int:=if x=0 then 15 else if x=1 then 2 else 1
theorem Ew(x:Int):JF x=15\/JF x=2\/JF x=1:=by grind [JF]
structure Mk(w0:TQ)(B g k k6:Nat)(j:Jd)(sg y:Int)(l:List Int)(b2 b11 b12 b14:Bool)(kb kc:Nat)(va:TR)(w:TQ):Prop where
 gl:g<w0.heap.size
 dk:Dk w B g l
 jc:b14=false->JC w0 w B g k k6 l j
 tb:b2=true->b12=false->w0.heap.size<=kb/\w.heap[kb]? =some (.cells #[.int .i64 15,.int .i64 2,.int .i64 1] 3 (0,0))
 lo:b12=false->LO w0 w (.slice j.lA j.IK.length j.lc) j.IK
 rc:b11=true->b12=false->w0.heap.size<=kc/\w.heap[kc]? =some (.cells #[.int .i64 sg,.int .u64 y] 241 (0,0))
 la:b12=true->b14=false->IL w w0.heap.size 241 2 va (j.IK.length+1) (I8 j.IK++[.int .i64 sg,.int .u64 y])
 fin:b14=true->∃A' c',JC w0 w B g k k6 l {j with lA:=A',IK:=j.IK++[(sg,y)],lc:=c'}/\LO w0 w (.slice A' (j.IK++[(sg,y)]).length c') (j.IK++[(sg,y)])
section
variable {w0 w w' : TQ} {B g k k6 kb kc : Nat} {l l' : List Int} {j : Jd} {sg y : Int} {b2 b11 b12 : Bool} {va : TR}
theorem Mk.start(hc:JC w0 w B g k k6 l j)(a:LO w0 w (U j.lA j.IK.length j.lc) j.IK):Mk w0 B g k k6 j sg y l O O O O kb kc va w.drew:=
 ⟨hc.gl,hc.dk.up (ID.refl w).drew,fun _=>hc.up (ID.refl w).drew,fun e=>(by cases e),fun _=>a.up (ID.refl w).drew,fun e=>(by cases e),fun e=>(by cases e),fun e=>(by cases e)⟩
theorem Mk.up(h:Mk w0 B g k k6 j sg y l b2 b11 b12 O kb kc va w)(a:ID w w'):Mk w0 B g k k6 j sg y l b2 b11 b12 O kb kc va w':=
 ⟨h.gl,h.dk.up a,fun _=>(h.jc rfl).up a,fun e f=>⟨(h.tb e f).1,a.block (h.tb e f).2⟩,fun e=>(h.lo e).up a,fun e f=>⟨(h.rc e f).1,a.block (h.rc e f).2⟩,fun e _=>(h.la e rfl).up a,fun e=>(by cases e)⟩
theorem Mk.mkb(h:Mk w0 B g k k6 j sg y l O b11 b12 O kb kc va w):Mk w0 B g k k6 j sg y l G b11 b12 O w.heap.size kc va (w.alloc (H #[Z Y 15,Z Y 2,Z Y 1] 3)):=by
 have a:=h.up ((ID.refl w).alloc (H #[Z Y 15,Z Y 2,Z Y 1] 3))
 exact⟨a.gl,a.dk,a.jc,fun _ _=>⟨(h.jc rfl).gw.size,aM w _⟩,a.lo,a.rc,a.la,a.fin⟩
theorem Mk.mkc(h:Mk w0 B g k k6 j sg y l b2 O b12 O kb kc va w):Mk w0 B g k k6 j sg y l b2 G b12 O kb w.heap.size va (w.alloc (H #[Z Y sg,Z E y] 241)):=by
 have a:=h.up ((ID.refl w).alloc (H #[Z Y sg,Z E y] 241))
 exact⟨a.gl,a.dk,a.jc,a.tb,a.lo,fun _ _=>⟨(h.jc rfl).gw.size,aM w _⟩,a.la,a.fin⟩
theorem Mk.turn(h:Mk w0 B g k k6 j sg y l b2 b11 O O kb kc va w)(hd:Dk w' B g l')(a:w.grownBy w' (X g)):Mk w0 B g k k6 j sg y l' b2 b11 O O kb kc va w':=
 ⟨h.gl,hd,fun _=>(h.jc rfl).turn hd a,
  fun e f=>⟨(h.tb e f).1,(a.block kb (aQ (h.tb e f).2) (by intro q;injection q with q;have:=(h.tb e f).1;have:=h.gl;omega)).trans (h.tb e f).2⟩,
  fun e=>(h.lo e).turn (h.jc rfl) a,
  fun e f=>⟨(h.rc e f).1,(a.block kc (aQ (h.rc e f).2) (by intro q;injection q with q;have:=(h.rc e f).1;have:=h.gl;omega)).trans (h.rc e f).2⟩,
  fun e=>(by cases e),fun e=>(by cases e)⟩
theorem Mk.LP(h:Mk w0 B g k k6 j sg y l b2 G O O kb kc va w)(b:IL w' w0.heap.size 241 2 v' (j.IK.length+1) (I8 j.IK++[Z Y sg,Z E y]))(a:w.grownBy w' (SO j.lA j.IK.length j.lc).ownBlock):Mk w0 B g k k6 j sg y l b2 G G O kb kc v' w':=
 ⟨h.gl,((h.jc rfl).OI (h.lo rfl) a).dk,fun _=>(h.jc rfl).OI (h.lo rfl) a,fun _ f=>(by cases f),fun e=>(by cases e),fun _ f=>(by cases f),fun _ _=>b,fun e=>(by cases e)⟩
theorem Mk.st{A':Option TT}{c':Nat}(h:Mk w0 B g k k6 j sg y l b2 G G O kb kc (U A' (j.IK.length+1) c') w):Mk w0 B g k k6 j sg y l b2 G G G kb kc (U A' (j.IK.length+1) c') (w.setCell ⟨k,12,V⟩ (U A' (j.IK.length+1) c')):=by
 have hc:=h.jc rfl
 have c:I8 j.IK++[Z Y sg,Z E y]=I8 (j.IK++[(sg,y)]):=by simp[I8]
 have a:=h.la rfl rfl
 rw[c] at a;have b:LO w0 w (U A' (j.IK++[(sg,y)]).length c') (j.IK++[(sg,y)]):=by
  unfold LO;rw[bF,bG];exact a
 have h1:=hc.put (j':={j with lA:=A',IK:=j.IK++[(sg,y)],lc:=c'}) 12 (U A' (j.IK++[(sg,y)]).length c') rfl ⟨rfl,rfl⟩ ⟨rfl,rfl,rfl⟩
 have h2:=b.put hc 12 (U A' (j.IK++[(sg,y)]).length c')
 rw[bF,bG] at h1 h2;exact⟨h.gl,h1.dk,fun e=>(by cases e),fun _ f=>(by cases f),fun e=>(by cases e),fun _ f=>(by cases f),fun _ f=>(by cases f),fun _=>⟨A',c',h1,by rw[bF,bG];exact h2⟩⟩
end
theorem Mk.sig{kb:Nat}(h:w.heap[kb]? =X (H #[Z Y 15,Z Y 2,Z Y 1] 3 (0,0)))(a:0<=x)(h1:x<3):w.cell? ⟨kb,x.toNat,V⟩=X (Z Y (JF x)):=by
 rw[aK w kb x.toNat _ _ _ h];obtain⟨n,rfl⟩:=SY a;have:n=0\/n=1\/n=2:=by omega
 rcases this with rfl|rfl|rfl<;>rfl
structure Kk(B:Nat)(w:TQ)(j:Jd):Prop where
 IJ:Ts w 238 j.eA (cH j.IJ)
 IC:Ts w 9 j.nA (ar j.IC)
 IK:Ts w 241 j.lA (I8 j.IK)
def vu(w:TQ)(B g:Nat)(nm:ByteArray)(os:List ByteArray)(e:TU)(w':TQ):Prop:=
 ∃(j:Jd) (l':List Int),e=SA (dm j)/\KA nm j/\Na os os.length j/\1<=j.IK.length/\j.IK.length<=3/\(∀r∈j.IK,0<=r.2/\r.2<9)/\Kk B w' j/\Dk w' B g l'/\w.grownBy w' (X g)
structure JE(w0 w:TQ)(B g k6:Nat)(l:List Int)(j:Jd):Prop where
 gw:w0.grownBy w (some g)
 gl:g<w0.heap.size
 MF:w0.heap.size<=k6
 I2:∃cs,w.heap[k6]? =some (.cells cs 63 (0,0))
 dk:Dk w B g l
 mem:Kk B w j
theorem Ts.setOther{t:TV}{z:Nat×Nat}(h:Ts w e A xs)(hk:w.heap[k]? =X (H cs t z))(hne:e≠t)(v:TR):Ts (w.setCell ⟨k,i,V⟩ v) e A xs:=by
 rcases h with q|⟨b,off,cur,fz,c,a,hc⟩
 ·exact bX q
 refine bY ⟨b,off,cur,fz,c,(aL w ⟨k,i,V⟩ b _ (fun e=>?_)).trans a,hc⟩
 subst e;rw[a] at hk;simp at hk;exact hne hk.2.1
theorem JC.je{l:List Int}{j:Jd}(h:JC w0 w B g k k6 l j)(c:LO w0 w (U j.lA j.IK.length j.lc) j.IK):JE w0 w B g k6 l j:=by
 obtain⟨A1,c1,a,d,_,_⟩:=h.IC.shape;injection a with a _ _
 obtain⟨A2,c2,b,e,_,_⟩:=IL.shape c;injection b with b _ _
 exact⟨h.gw,h.gl,h.MF,⟨_,h.MI⟩,h.dk,h.IJ,a▸d,b▸e⟩
theorem JE.set{l:List Int}{j:Jd}(h:JE w0 w B g k6 l j)(i:Nat)(v:TR):JE w0 (w.setCell ⟨k6,i,V⟩ v) B g k6 l j:=by
 obtain⟨cs,b⟩:=h.I2;have a:w.grownBy (w.setCell ⟨k6,i,V⟩ v) (X k6):=⟨rfl,rfl,rfl,by simp,fun q _ c=>aL w ⟨k6,i,V⟩ q _ (fun e=>c (by simp[e]))⟩
 have hB:=h.dk.1
 have h1:=h.MF
 have h2:=h.gl
 exact⟨du h.gw a (fun q e=>by injection e with e;omega),h.gl,h.MF,⟨_,aO w k6 i _ _ v b⟩,h.dk.Kr a (fun e=>by injection e with e;omega) (fun q e=>by injection e with e;omega),h.mem.IJ.setOther b (by decide) v,h.mem.IC.setOther b (by decide) v,h.mem.IK.setOther b (by decide) v⟩
namespace Pt
def Lq:List ByteArray:=[⟨#[97]⟩,⟨#[98]⟩,⟨#[99]⟩,⟨#[100]⟩]
structure Lo(j:Jd):Prop where
 bd:KA j.nm j
 l1:1<=j.IK.length
 l3:j.IK.length<=3
 lw:∀r∈j.IK,0<=r.2/\r.2<9
 nd:∃k,k<4/\j.nm=Lq.getD k ⟨#[]⟩/\j.IC.Sublist (Lq.take k)
theorem Kp(h:s∈Lq):Kv s/\(bs s).length=1:=by
 simp only[Lq,SI,SP,or_false] at h;rcases h with rfl|rfl|rfl|rfl
 all_goals exact⟨⟨⟨_,[],rfl,by decide,fun d hd=>by cases hd⟩,by decide,dU _⟩,rfl⟩
theorem Lw{v:ByteArray×ByteArray}(h:v∈Mr):Kv v.1/\(bs v.1).length=1/\(bs v.2).length<=3:=by
 simp only[Mr,SI,SP,or_false] at h;rcases h with rfl|rfl
 all_goals exact⟨⟨⟨_,[],rfl,by decide,fun d hd=>by cases hd⟩,by decide,dU _⟩,rfl,by decide⟩
theorem Lo.Pw{j:Jd}(h:Lo j):j.nm∈Lq:=by
 obtain⟨k,hk,e,_⟩:=h.nd;rw[e];have:k=0\/k=1\/k=2\/k=3:=by omega
 rcases this with rfl|rfl|rfl|rfl<;>simp[Lq]
theorem Lo.KF{j:Jd}(h:Lo j)(hs:s∈j.IC):s∈Lq:=by
 obtain⟨k,_,_,e⟩:=h.nd
 grind
theorem Lo.ME{j:Jd}(h:Lo j):j.IC.length<=4:=by
 obtain⟨k,hk,_,e⟩:=h.nd
 grind
theorem Lo.KE{j:Jd}(h:Lo j){v:ByteArray×ByteArray}(hv:v∈j.IJ):v∈Mr:=by
 rw[h.bd.ev] at hv;exact Tg hv
theorem LR(h:s∈LY):(bs s).length<=9:=by
 simp only[LY,SI,SP,or_false] at h;rcases h with rfl|rfl|rfl|rfl<;>decide
theorem LS(h:s∈KT):OD (bs s)/\(bs s).length<=8:=by
 simp only[KT,SI,SP,or_false] at h;rcases h with rfl|rfl|rfl|rfl|rfl|rfl|rfl<;>exact⟨by unfold OD;decide,by decide⟩
theorem Lo.pr{j:Jd}(h:Lo j):Mz j:=by
 have c:=h.bd
 have h1:=c.r;have h2:=c.b;have f:=c.cp;have g:=c.st;have i:=c.bu;have l:=c.wi
 refine⟨(Kp h.Pw).1,⟨fun b hm=>ed hm,by have:=LR c.ru;omega,dU _⟩,fun v hv=>⟨(Lw (h.KE hv)).1,fun b hm=>ed hm,by have:=(Lw (h.KE hv)).2.2;omega,dU _⟩,⟨?_,by have:=c.en;omega⟩,fun s hs=>(Kp (h.KF hs)).1,⟨?_,by have:=h.ME;omega⟩,fun e=>⟨(LS (c.pa e)).1,by have:=(LS (c.pa e)).2;omega,dU _⟩,c.nr,by omega,by omega,by omega,by omega,by omega,by omega,fun r d=>?_,⟨h.l1,by have:=h.l3;omega⟩⟩
 ·rw[c.ev,List.map_take];exact List.Nodup.sublist (TI _ _) (by decide)
 ·obtain⟨k,_,_,e⟩:=h.nd;exact List.Nodup.sublist (e.trans (TI _ _)) (by decide)
 obtain⟨a,b⟩:=h.lw r d;refine⟨?_,a,by omega⟩
 unfold nN;have:=c.si r d;omega
theorem EE(b:Nat):(q1 b).length<=4:=by grind [q1]
theorem yF(s:List Nat):(Jv s).length<=4*s.length:=by
 induction s<;>grind [Jv,q1,EE]
theorem KZ(s:List Nat):(quote s).length<=4*s.length+2:=by simp[yF,quote]
theorem JW{n:Int}(a:0<=n)(h:n<1000000):(dec n.toNat).length<=18:=(nH (my a h)).2.2.1
theorem Da{g:α->List P}{K:Nat}:∀{l:List α},(∀v∈l,(flat (g v)).length<=K)->(flat (l.flatMap g)).length<=K*l.length:=by
 intro l
 induction l<;>grind [flat,aF,bF,SQ,Tu]
theorem pW{K:Nat}:∀{l:List (List P)},(∀p∈l,(flat p).length<=K)->(flat (Jx l)).length<=(K+1)*l.length:=by
 intro l
 induction l with
 |nil=>intro _;simp[Jx,flat]
 |cons a l ih=>
  intro h;have h1:=h a (by simp)
  cases l with
  |nil=>simp[Jx];omega
  |cons b l=>
   have h2:=ih (fun v hv=>h v (by simp only[SI] at hv ⊢;exact bY hv))
   rw[Jx,aF,aF,bF,bF,SQ,Tu];have:(flat [(⟨[],[44],5,[44]⟩:P)]).length=1:=rfl;omega
theorem mH{j:Jd}(h:Lo j){b:List Nat}(y:b.length<=1):(flat (ju b j)).length<=440:=by
 have d:=h.bd
 have h1:=d.r;have h2:=d.b;have t:=d.cp;have u:=d.st;have w:=d.bu;have x:=d.wi
 have i:(flat (j.IJ.flatMap ik)).length<=25*j.IJ.length:=Da (fun v hv=>by
  obtain⟨_,a,c⟩:=Lw (h.KE hv);have:=KZ (bs v.2);simp only[ik,flat,S0,List.flatMap_nil,bF,Tv,a];simp[iX,sp,Gm.Kl]
  omega)
 have k:(flat (fp j.IC)).length<=20:=by
  unfold fp;split
  ·simp[flat]
  have:=pW (K:=2) (l:=j.IC.map fq) (fun p f=>by
   obtain⟨s,hs,rfl⟩:=S5.mp f;have:=(Kp (h.KF hs)).2;simp[fq,flat,sp,this])
  rw[bL] at this;have:=h.ME;rw[it];simp[iX,Gm.Ju];omega
 have m:(flat (eK j)).length<=20:=by
  unfold eK;split
  ·next e=>
   have:=(LS (d.pa e)).2
   simp[flat,iX,Gm.Ka,sp,KY];omega
  simp[flat]
 have o:(flat (Jx (j.IK.map dM))).length<=25*j.IK.length:=by
  have:=pW (K:=24) (l:=j.IK.map dM) (fun p f=>by
   obtain⟨r,g,rfl⟩:=S5.mp f;have a:=h.lw r g;have:=JW a.1 (by omega)
   have F:(KI r.1).length<=4:=by
    have:=d.si r g
    rcases this with e|e|e<;>rw[e]<;>decide
   simp[dM,flat,sp]
   omega)
  rwa [bL] at this
 have B:=LR d.ru
 have C:=KZ (bs j.run)
 have D:=(Kp h.Pw).2
 have A:(J3 j.IE).length<=10:=by
  have:j.IE=1\/j.IE=2\/j.IE=3:=by omega
  rcases this with e|e|e<;>rw[e]<;>decide
 have n1:=JW (n:=j.base) (by omega) (by omega)
 have n2:=JW (n:=j.cap) (by omega) (by omega)
 have n3:=JW (n:=j.IG) (by omega) (by omega)
 have n4:=JW (n:=j.II) (by omega) (by omega)
 have z:=JW (n:=j.win) (by omega) (by omega)
 have l3:=h.l3
 have en:=d.en
 unfold ju;rw[aF,aF,aF,aF,aF,aF];simp only[bF];have f1:(flat [(⟨b,LX,1,LX⟩:P),⟨sp,bs j.nm,1,bs j.nm⟩,⟨sp,[123],5,[123]⟩,⟨iX,Gm.J6,1,Gm.J6⟩,⟨sp,quote (bs j.run),3,bs j.run⟩]).length<=60:=by
  simp[flat,sp,iX,LX,Gm.J6];omega
 have f2:(flat [(⟨iX,Gm.Jj,1,Gm.Jj⟩:P),⟨sp,J3 j.IE,1,J3 j.IE⟩,⟨iX,Gm.Jm,1,Gm.Jm⟩,fW j.base,fW j.cap,fW j.IG,⟨iX,Gm.JJ,1,Gm.JJ⟩,fW j.II,fW j.win,⟨iX,Gm.Kb,1,Gm.Kb⟩]).length<=200:=by
  simp[flat,sp,iX,fW,Gm.Jj,Gm.Jm,Gm.JJ,Gm.Kb];omega
 have q:(flat [(⟨[10],[125],5,[125]⟩:P)]).length=2:=rfl
 omega
theorem dY:∀{js:List Jd} {b:List Nat},(∀j∈js,Lo j)->b.length<=1->(flat (JB b js)).length<=440*js.length:=by
 intro js
 induction js<;>grind [JB,flat,mH,aF]
structure Pf(js:List Jd)(b:List Nat)(m:Nat)(ps:List P)(e:List Nat):Prop where
 eq:b=flat ps++e
 ch:Jo ps e
 sd:Jq ps=Jq (JB [] js)
 gd:∀p∈ps,pv p
 len:b.length<=1761+6*m
theorem Pf.start{js:List Jd}(h:∀j∈js,Lo j)(a:js.length<=4):Pf js (flat (JB [] js)++[10]) 0 (JB [] js) [10]:=
 ⟨rfl,KO (fun j hj=>(h j hj).pr) rfl,rfl,pd (fun j hj=>(h j hj).pr),by
  have:=dY h (b:=[]) (by decide)
  rw[bF,bG]
  omega⟩
theorem Pf.ins{js:List Jd}{b:List Nat}{ps:List P}{e:List Nat}(h:Pf js b m ps e)(j:b[i]? =X 10):∃a c,Pf js (b.take (i+1)++(NV++b.drop (i+1))) (m+1) a c:=by
 have g:=h.eq
 rw[g] at j;obtain⟨a,c,a1,a2,a3,_,a5⟩:=xC ps e i h.ch (fun p d=>(h.gd p d).1) j
 refine⟨a,c,⟨by rw[g,a1],a2,a3.trans h.sd,fun p d=>?_,?_⟩⟩
 ·obtain⟨q,r,f,k,l⟩:=a5 p d;obtain⟨n,o⟩:=h.gd q r;exact⟨by rw[f];exact n,by rw[f,k,l];exact o⟩
 have:=h.len
 rw[bF,bF,S6,Tw];have:NV.length=6:=rfl;omega
theorem yv{p q:List P}(h:Jq p=Jq q):p.length=q.length:=by
 have:=congrArg SW h
 simpa [Jq] using this
theorem Pf.load{js:List Jd}{b:List Nat}{ps:List P}{e:List Nat}(h:Pf js b m ps e)(hj:∀j∈js,Lo j)(k:js.length<=4)(hm:m<=10):
  ∃c,Gm.load b=X c/\c.length=js.length/\∀i,i<js.length->∃ln d,c[i]? =(js[i]?).map fun j=>at_ j ln d:=by
 have f:=h.len
 have hc:Jo (JB [] js) [10]:=KO (fun j a=>(hj j a).pr) rfl
 have h1:=eE hc
 have h2:=dY hj (b:=[]) (by decide)
 have g:=yv h.sd
 rw[h.eq] at f ⊢;exact CN (fun j a=>(hj j a).pr) (by omega) h.ch h.sd (by
  omega) (by omega)
end Pt
namespace Pt
def Lz(j:Jd):List Nat:=LX++(32::(bs j.nm++([32,123,10,32,32]++(Gm.J6++(32::(quote (bs j.run)++[10]))))))
def KE(v:ByteArray×ByteArray):List Nat:=[32,32]++(Gm.Kl++(32::(bs v.1++([32,61,32]++(quote (bs v.2)++[10])))))
def KF(l:List ByteArray):List Nat:=if l=[] then [] else [32,32]++(Gm.Ju++(flat (Jx (l.map fq))++[10]))
def Ks(j:Jd):List Nat:=if j.IQ=G then [32,32]++(Gm.Ka++([32,47]++(bs j.ready++[47,10]))) else []
def Ma(j:Jd):List Nat:=[32,32]++(Gm.Jj++(32::(J3 j.IE++([10,32,32]++(Gm.Jm++(32::(dec j.base.toNat++(32::(dec j.cap.toNat++(32::(dec j.IG.toNat++([10,32,32]++(Gm.JJ++(32::(dec j.II.toNat++(32::(dec j.win.toNat++([10,32,32]++Gm.Kb))))))))))))))))))
def KU(l:List (Int×Int)):List Nat:=flat (Jx (l.map dM))
def Kg(j:Jd):List Nat:=Lz j++(j.IJ.flatMap KE++(KF j.IC++(Ks j++(Ma j++(KU j.IK++[10,125,10])))))
theorem xu:∀(l:List (ByteArray×ByteArray)) (r:List Nat),10::(l.flatMap KE++r)=flat (l.flatMap ik)++10::r:=by
 intro l
 induction l with
 |nil=>intro r;simp[flat]
 |cons v l ih=>
  intro r;rw[S0,S0,aF,SH,SH,<-ih r];simp[KE,ik,flat,iX,sp]
theorem sP(l:List ByteArray)(r:List Nat):10::(KF l++r)=flat (fp l)++10::r:=by grind [KF,fp,flat,iX]
theorem qW(j:Jd)(r:List Nat):10::(Ks j++r)=flat (eK j)++10::r:=by
 unfold Ks eK;split
 ·simp[flat,iX,sp,KY]
 simp[flat]
theorem uK(b:List Nat)(j:Jd):flat (ju b j)++[10]=b++Kg j:=by
 have a:Kg j=LX++(32::(bs j.nm++([32,123,10,32,32]++(Gm.J6++(32::(quote (bs j.run)++10::(j.IJ.flatMap KE++(KF j.IC++(Ks j++(Ma j++(KU j.IK++[10,125,10]))))))))))):=by
  simp[Kg,Lz]
 rw[a,xu,sP,qW];unfold ju KU Ma;rw[aF,aF,aF,aF,aF,aF];generalize flat (Jx (j.IK.map dM))=x;generalize flat (eK j)=y;generalize flat (fp j.IC)=z;generalize flat (j.IJ.flatMap ik)=u;simp[flat,iX,sp,fW]
theorem Ga:∀(js:List Jd),flat (JB [10] js)++[10]=10::js.flatMap Kg:=by
 intro js
 induction js with
 |nil=>simp[JB,flat]
 |cons j js ih=>
  rw[JB,aF,SH,ih,S0];have:=uK [10] j;rw[show(10::Th Kg js:List Nat)=[10]++Th Kg js from rfl,<-SH,this]
  simp
theorem MG{js:List Jd}(h:js≠[]):flat (JB [] js)++[10]=js.flatMap Kg:=by
 cases js with
 |nil=>grind
 |cons j js=>
  rw[JB,aF,SH,Ga,S0];have:=uK [] j;rw[show(10::Th Kg js:List Nat)=[10]++Th Kg js from rfl,<-SH,this]
  simp
theorem rT:∀(l:List (List P)) (x:List P),l≠[]->flat (Jx (l++[x]))=flat (Jx l)++(44::flat x):=by
 intro l
 induction l with
 |nil=>simp
 |cons a l ih=>
  intro x _;cases l with
  |nil=>simp[Jx,flat]
  |cons b l=>
   have h:=ih x (by simp)
   rw[S_,S_] at *;rw[Jx,Jx,aF,aF,aF,aF,h];simp
def JY(l:List ByteArray):List Nat:=if l=[] then [] else [32,32]++(Gm.Ju++flat (Jx (l.map fq)))
theorem NM(x:ByteArray):JY [x]=[32,32,110,101,101,100,115,32]++bs x:=by simp[JY,Jx,flat,fq,sp,Gm.Ju]
theorem Nk{l:List ByteArray}(x:ByteArray)(h:l≠[]):JY (l++[x])=JY l++([44,32]++bs x):=by
 unfold JY;rw[ng_ (by simp),ng_ h,S8,S9,TJ,rT _ _ (by simpa using h)]
 simp[flat,fq,sp]
theorem MM(l:List ByteArray):KF l=if l=[] then [] else JY l++[10]:=by grind [KF,JY]
theorem Oe(r:Int×Int):KU [r]=32::(KI r.1++(32::dec r.2.toNat)):=by simp[KU,Jx,flat,dM,sp]
theorem NP{l:List (Int×Int)}(r:Int×Int)(h:l≠[]):KU (l++[r])=KU l++(44::32::(KI r.1++(32::dec r.2.toNat))):=by
 unfold KU;rw[S8,S9,TJ,rT _ _ (by simpa using h)]
 simp[flat,dM,sp]
end Pt
namespace Pt
theorem N4{s:Int}(h:s=15\/s=2\/s=1):(KI s).length<=4:=by rcases h with rfl|rfl|rfl<;>decide
theorem N6{n:Int}(h:n=1\/n=2\/n=3):(J3 n).length<=10:=by rcases h with rfl|rfl|rfl<;>decide
theorem GF{f:α->List Nat}{K:Nat}:∀{l:List α},(∀v∈l,(f v).length<=K)->(l.flatMap f).length<=K*l.length:=by
 intro l
 induction l<;>grind [bF,SQ,Tu]
structure Qk(j:Jd):Prop where
 hd:(Lz j).length<=100
 en:∀k,((j.IJ.take k).flatMap Pt.KE).length<=100
 nd:∀k,(JY (j.IC.take k)).length<=100
 rd:(Ks j).length<=100
 rs:(Ma j).length<=300
 ld:∀k,(KU (j.IK.take k)).length<=100
theorem Lo.lens{j:Jd}(h:Lo j):Qk j:=by
 have l:=KZ (bs j.run)
 have d:=LR h.bd.ru
 have i:=(Kp h.Pw).2
 refine⟨?_,fun k=>?_,fun k=>?_,?_,?_,fun k=>?_⟩
 ·simp[Lz,LX,Gm.J6];omega
 ·have h1:((j.IJ.take k).flatMap Pt.KE).length<=30*(j.IJ.take k).length:=GF (fun v hv=>by
   obtain⟨_,h2,c⟩:=Lw (h.KE (Tg hv));have f:=KZ (bs v.2);simp[Pt.KE,Gm.Kl]
   omega)
  have h2:=h.bd.en
  rw[S6] at h1;omega
 ·have h1:(flat (Jx ((j.IC.take k).map fq))).length<=(2+1)*((j.IC.take k).map fq).length:=pW (fun p a=>by
   obtain⟨s,hs,rfl⟩:=S5.mp a;have h2:=(Kp (h.KF (Tg hs))).2;simp[fq,flat,sp]
   omega)
  have h2:=h.ME
  rw[bL,S6] at h1;unfold JY;split
  ·simp
  rw[bF,bF]
  show 2+(5+_)<=100
  omega
 ·unfold Ks;split
  ·next e=>
   have:=(LS (h.bd.pa e)).2
   simp[Gm.Ka];omega
  simp
 ·have b1:=JW h.bd.b.1 (by have:=h.bd.b;omega)
  have b2:=JW (n:=j.cap) (by have:=h.bd.b;have:=h.bd.cp;omega) (by have:=h.bd.b;have:=h.bd.cp;omega)
  have b3:=JW (n:=j.IG) h.bd.st.1 (by have:=h.bd.st;omega)
  have b4:=JW (n:=j.II) (by have:=h.bd.bu;omega) (by have:=h.bd.bu;omega)
  have g:=JW (n:=j.win) (by have:=h.bd.wi;omega) (by have:=h.bd.wi;omega)
  have b6:=N6 (n:=j.IE) (by have:=h.bd.r;omega)
  simp[Ma,Gm.Jj,Gm.Jm,Gm.JJ,Gm.Kb];omega
 have h1:(flat (Jx ((j.IK.take k).map dM))).length<=(24+1)*((j.IK.take k).map dM).length:=pW (fun p a=>by
  obtain⟨r,d,rfl⟩:=S5.mp a;have hm:=Tg d;have h2:=N4 (h.bd.si r hm);have c:=h.lw r hm;have f:=JW c.1 (by omega)
  simp[dM,flat,sp]
  omega)
 have h2:=h.l3
 rw[bL,S6] at h1;unfold KU;omega
end Pt
theorem tx(j:Jd):((((⟨#[106,111,98,32]⟩:ByteArray)++j.nm)++⟨#[32,123,10,32,32,114,117,110,32]⟩)++ab (Pt.quote (bs j.run)))++⟨#[10]⟩=ab (Pt.Lz j++(j.IJ.take 0).flatMap Pt.KE):=by
 have a:j.nm=ab (bs j.nm):=(dU _).symm
 rw[show(⟨#[106,111,98,32]⟩:ByteArray)=ab [106,111,98,32] from rfl,show(⟨#[32,123,10,32,32,114,117,110,32]⟩:ByteArray)=ab [32,123,10,32,32,114,117,110,32] from rfl,show(⟨#[10]⟩:ByteArray)=ab [10] from rfl]
 generalize hx:ab (Pt.Lz j++(j.IJ.take 0).flatMap Pt.KE)=x;rw[a,aE,aE,aE,aE,<-hx]
 congr 1
 simp[Pt.Lz,Pt.LX,Gm.J6]
theorem xD(IW:List Nat)(a b:ByteArray):((((ab IW++⟨#[32,32,101,110,118,32]⟩)++a)++⟨#[32,61,32]⟩)++ab (Pt.quote (bs b)))++⟨#[10]⟩=ab (IW++Pt.KE (a,b)):=by
 have c:a=ab (bs a):=(dU _).symm
 rw[show(⟨#[32,32,101,110,118,32]⟩:ByteArray)=ab [32,32,101,110,118,32] from rfl,show(⟨#[32,61,32]⟩:ByteArray)=ab [32,61,32] from rfl,show(⟨#[10]⟩:ByteArray)=ab [10] from rfl]
 generalize hx:ab (IW++Pt.KE (a,b))=x;rw[c,aE,aE,aE,aE,aE,<-hx]
 congr 1
 simp[Pt.KE,Gm.Kl]
theorem tw(IW p a b c d e:List Nat):(((((((((((((ab IW++(⟨#[32,32,114,101,115,116,97,114,116,32]⟩:ByteArray))++ab p)++(⟨#[10,32,32,98,97,99,107,111,102,102,32]⟩:ByteArray))++ab a)++(⟨#[32]⟩:ByteArray))++ab b)++(⟨#[32]⟩:ByteArray))++ab c)++(⟨#[10,32,32,98,117,114,115,116,32]⟩:ByteArray))++ab d)++(⟨#[32]⟩:ByteArray))++ab e)++(⟨#[10,32,32,115,116,111,112]⟩:ByteArray))=ab (IW++([32,32,114,101,115,116,97,114,116,32]++(p++([10,32,32,98,97,99,107,111,102,102,32]++(a++([32]++(b++([32]++(c++([10,32,32,98,117,114,115,116,32]++(d++([32]++(e++([10,32,32,115,116,111,112])))))))))))))):=by
 rw[show(⟨#[32,32,114,101,115,116,97,114,116,32]⟩:ByteArray)=ab [32,32,114,101,115,116,97,114,116,32] from rfl,show(⟨#[10,32,32,98,97,99,107,111,102,102,32]⟩:ByteArray)=ab [10,32,32,98,97,99,107,111,102,102,32] from rfl,show(⟨#[32]⟩:ByteArray)=ab [32] from rfl,show(⟨#[10,32,32,98,117,114,115,116,32]⟩:ByteArray)=ab [10,32,32,98,117,114,115,116,32] from rfl,show(⟨#[10,32,32,115,116,111,112]⟩:ByteArray)=ab [10,32,32,115,116,111,112] from rfl]
 simp only[aE]
 congr 1
 simp
theorem xA(IW p a:List Nat):(((ab IW++(⟨#[32]⟩:ByteArray))++ab p)++(⟨#[32]⟩:ByteArray))++ab a=ab (IW++(32::(p++(32::a)))):=by
 rw[show(⟨#[32]⟩:ByteArray)=ab [32] from rfl]
 simp only[aE]
 congr 1
 simp
theorem Gj(j:Jd)(w:TQ)(h:Pt.Lo j)(hm:JM w j):TS TX 128 #[dm j] w (RO_ (Q (ab (Pt.Kg j))) w):=by
 obtain⟨D,ae⟩:∃D,w.alloc (H (ag j).toArray 63)=D:=⟨_,rfl⟩
 obtain⟨kj,aG⟩:∃kj,w.heap.size=kj:=⟨_,rfl⟩
 have HO:Hid (ID w D):=aJ (by rw[<-ae];exact(ID.refl _).alloc _)
 have HR:Hid (D.heap[kj]? =X (H (ag j).toArray 63 (0,0))):=aJ (by rw[<-ae,<-aG];exact aM _ _)
 have HM:=aJ (hm.up HO.out)
 have C:=aJ h
 have p:=aJ h.lens
 have br:j.run.size<=9:=by rw[<-af];exact Pt.LR h.bd.ru
 have bq:j.nm.size=1:=by rw[<-af];exact(Pt.Kp h.Pw).2
 have bj:(ab (Pt.quote (bs j.run))).size<=100:=by have:=Pt.KZ (bs j.run);have:=Pt.LR h.bd.ru;rw[aD];omega
 have HQ:=aJ (fun W (s:ByteArray) (hs:s.size<=100000)=>BE s W hs)
 have av:=aJ (fun(n:Int) (W:TQ) (A:0<=n) (h1:n<1000000)=>Gl n A h1 W)
 clear h hm;have aR:Hid (D.heap[kj]? =X (H #[Q j.nm,Q j.run,U j.eA j.IJ.length j.ec,U j.nA j.IC.length j.nc,K j.IQ,Q j.ready,Z Y j.IE,Z E j.base,Z E j.cap,Z E j.IG,Z Y j.II,Z E j.win,U j.lA j.IK.length j.lc,Z Y j.IM,Z Y j.Jb] 63 (0,0))):=HR;obtain⟨⟨c0,c1,c2,c3,c4,c5,c6,c7,c8,c9,aX,aY,aZ,_,_⟩,_⟩:=cQ aR.out;unfold dm;go_enter func128,ntmps128;go_upto_region 1 with fail
 rw[show w.alloc (H #[Q j.nm,Q j.run,U j.eA j.IJ.length j.ec,U j.nA j.IC.length j.nc,K j.IQ,Q j.ready,Z Y j.IE,Z E j.base,Z E j.cap,Z E j.IG,Z Y j.II,Z E j.win,U j.lA j.IK.length j.lc,Z Y j.IM,Z Y j.Jb] 63)=D from ae]
 clear ae aG;have J:¬9223372036854775807<14+(ab (Pt.quote (bs j.run))).size:=by omega
 have z2:¬9223372036854775807<14+(ab (Pt.quote (bs j.run))).size+1:=by omega
 have aP:Hid (ID D D):=aJ (ID.refl _)
 go_region_held3 (fun W=>W.cell? ⟨kj,0,V⟩=X (Q j.nm)/\W.cell? ⟨kj,1,V⟩=X (Q j.run)) (go_keep) ((go_simp;go_at_call 192;refine(HQ.out _ _ (by omega)).mono ?_;rintro e w2 ⟨rfl,hd⟩;have d:=aJ (ID.up (a:=D) (by(repeat (first|exact Hid.out (by assumption)|exact ID.refl _|refine ID.drew ?_|refine ID.drewN ?_ _|refine ID.alloc ?_ _))) hd);have a0:=d.out.cell c0;have a1:=d.out.cell c1;clear hd))
 have R:=aJ d.out
 clear d aP J z2;go_wp2_with fail;go_loopw [3,4] (fun v3 v4 wr=>∃k:Nat,v3=Q (ab (Pt.Lz j++(j.IJ.take k).flatMap Pt.KE))/\v4=Z Y (k:Int)/\k<=j.IJ.length/\Hid (ID D wr)) (fun _ v4 _=>j.IJ.length-(intOf v4).toNat)
 case atStart=>exact⟨0,congrArg SM (tx j),rfl,bO _,aJ (by first|exact R.out|exact R.out.drew|exact R.out.drewN _)⟩
 clear R a0 a1;obtain⟨k,rfl,rfl,hk,i⟩:=hrel;have d2:=i.out.cell c2
 by_cases f:k<j.IJ.length
 ·have i0:(0:Int)<=(k:Int):=by omega
  have i1:(k:Int)<(j.IJ.length:Int):=by omega
  have i2:j.IJ.length<=2:=C.out.bd.en
  have wk:SL.wrap ((k:Int)+1)=(k:Int)+1:=bV _ (by omega)
  obtain⟨b,off,t,_,hc⟩:=(HM.out.up i.out).IJ.at_ (by rw[eF];omega)
  have x1:=hc _ _ (eW j.IJ k f).1
  have x2:=hc _ _ (eW j.IJ k f).2
  rw[<-SV] at x2;rw[t] at d2;have m:j.IJ.getD k (⟨#[]⟩,⟨#[]⟩)∈j.IJ:=gm_ f;obtain⟨_,P,u⟩:=Pt.Lw (C.out.KE m);have HT:Hid ((j.IJ.take (k+1)).flatMap Pt.KE=(j.IJ.take k).flatMap Pt.KE++Pt.KE (j.IJ.getD k (⟨#[]⟩,⟨#[]⟩))):=aJ (by
   rw[S4 f,List.flatMap_append,List.flatMap_singleton,bD,bE f];rfl)
  have g:(ab (Pt.Lz j++(j.IJ.take k).flatMap Pt.KE)).size<=200:=by rw[aD,bF];have:=p.out.hd;have:=p.out.en k;omega
  clear hc t m;generalize j.IJ.getD k (⟨#[]⟩,⟨#[]⟩)=y at *;obtain⟨I,B⟩:=y;simp only at x1 x2 P u;have aN:I.size=1:=by rw[<-af];exact P
  have a5:B.size<=3:=by rw[<-af];exact u
  have bl:(ab (Pt.quote (bs B))).size<=100:=by have:=Pt.KZ (bs B);rw[aD];omega
  clear P u;obtain⟨IW,c⟩:∃IW,Pt.Lz j++(j.IJ.take k).flatMap Pt.KE=IW:=⟨_,rfl⟩
  have aq:=aJ c
  rw[c] at g ⊢;clear c;have J:¬9223372036854775807<(ab IW).size+6:=by omega
  have z2:¬9223372036854775807<(ab IW).size+6+1:=by omega
  have z3:¬9223372036854775807<(ab IW).size+6+1+3:=by omega
  have z4:¬9223372036854775807<(ab IW).size+6+1+3+(ab (Pt.quote (bs B))).size:=by omega
  have z5:¬9223372036854775807<(ab IW).size+6+1+3+(ab (Pt.quote (bs B))).size+1:=by omega
  have aj:Hid (ID wr wr):=aJ (ID.refl _)
  go_wp2_with fail;go_region_held3 (fun W=>W.cell? ⟨kj,2,V⟩=X (U (X ⟨b,off,V⟩) j.IJ.length j.ec)/\W.cell? ⟨b,off+k*2,V⟩=X (Q I)/\W.cell? ⟨b,off+k*2+1,V⟩=X (Q B)) (go_keep) ((go_simp;go_at_call 192;refine(HQ.out _ _ (by omega)).mono ?_;rintro e w2 ⟨rfl,hd⟩;have d:=aJ (ID.up (a:=wr) (by(repeat (first|exact Hid.out (by assumption)|exact ID.refl _|refine ID.drew ?_|refine ID.drewN ?_ _|refine ID.alloc ?_ _))) hd);have bc:=d.out.cell d2;have aA:=d.out.cell x1;have aB:=d.out.cell x2;clear hd))
  all_goals
   have L:=aJ (i.out.up d.out)
   clear J z2 z3 z4 z5;go_wp2_with fail;go_roundw
  case rel=>exact⟨k+1,congrArg SM ((xD IW I B).trans (by rw[HT.out,<-SH,aq.out])),by go_num,f,aJ (by first|exact L.out|exact L.out.drew|exact L.out.drewN _)⟩
  simp[intOf];omega
 obtain rfl:k=j.IJ.length:=by omega
 rw[S2];obtain⟨o,S⟩:∃o,Pt.Lz j++j.IJ.flatMap Pt.KE=o:=⟨_,rfl⟩
 have P:o.length<=200:=by rw[<-S,bF];have:=p.out.hd;have:=p.out.en j.IJ.length;rw[S2] at this;omega
 have aT:=aJ S
 rw[S];clear S hk f;go_wp2_with fail;go_loopw [3,5] (fun v3 v5 wr=>∃k:Nat,v3=Q (ab (o++Pt.JY (j.IC.take k)))/\v5=Z Y (k:Int)/\k<=j.IC.length/\Hid (ID D wr)) (fun _ v5 _=>j.IC.length-(intOf v5).toNat)
 case atStart=>exact⟨0,congrArg SM (by simp[Pt.JY]),rfl,bO _,i⟩
 clear i d2;obtain⟨k,rfl,rfl,hk,i⟩:=hrel;have d3:=i.out.cell c3;have i2:j.IC.length<=4:=C.out.ME
 by_cases f:k<j.IC.length
 ·have i0:(0:Int)<=(k:Int):=by omega
  have i1:(k:Int)<(j.IC.length:Int):=by omega
  have wk:SL.wrap ((k:Int)+1)=(k:Int)+1:=bV _ (by omega)
  obtain⟨b,off,t,_,hc⟩:=(HM.out.up i.out).IC.at_ (by rw[dO];omega)
  have x1:=hc _ _ (fv j.IC k f)
  rw[t] at d3;have m:j.IC.getD k ⟨#[]⟩∈j.IC:=gm_ f;have u:=(Pt.Kp (C.out.KF m)).2;have aN:(j.IC.getD k ⟨#[]⟩).size=1:=by rw[<-af];exact u
  have g:(ab (o++Pt.JY (j.IC.take k))).size<=300:=by rw[aD,bF];have:=p.out.nd k;omega
  have HT:Hid (j.IC.take (k+1)=j.IC.take k++[j.IC.getD k ⟨#[]⟩]):=aJ (by
   rw[S4 f,bD,bE f];rfl)
  clear hc t m u;generalize j.IC.getD k ⟨#[]⟩=y at *
  by_cases aF:k=0
  ·have q0:((k:Int)==0)=G:=by rw[beq_iff_eq];omega
   have HN:Hid (ab (o++Pt.JY (j.IC.take (k+1)))=(ab (o++Pt.JY (j.IC.take k))++⟨#[32,32,110,101,101,100,115,32]⟩)++y):=aJ (by
    rw[HT.out,aF,Tl,TK,Pt.NM];have e1:y=ab (bs y):=(dU _).symm;rw[show(⟨#[32,32,110,101,101,100,115,32]⟩:ByteArray)=ab [32,32,110,101,101,100,115,32] from rfl]
    generalize hx:ab (o++([32,32,110,101,101,100,115,32]++bs y))=x;rw[e1,aE,aE,<-hx]
    congr 1
    simp[Pt.JY])
   obtain⟨IW,c⟩:∃IW,o++Pt.JY (j.IC.take k)=IW:=⟨_,rfl⟩
   rw[c] at g HN;rw[c];clear c;have J:¬9223372036854775807<(ab IW).size+8:=by omega
   have z2:¬9223372036854775807<(ab IW).size+8+1:=by omega
   clear aF;go_wp2_with fail;go_roundw
   case rel=>exact⟨k+1,congrArg SM HN.out.symm,by go_num,f,i⟩
   simp[intOf];omega
  have q0:((k:Int)==0)=O:=by rw[beq_eq_false_iff_ne];omega
  have HN:Hid (ab (o++Pt.JY (j.IC.take (k+1)))=(ab (o++Pt.JY (j.IC.take k))++⟨#[44,32]⟩)++y):=aJ (by
   rw[HT.out,Pt.Nk y (fun e=>by have:=congrArg SW e;rw[S6,Tv] at this;omega)]
   have e1:y=ab (bs y):=(dU _).symm
   rw[show(⟨#[44,32]⟩:ByteArray)=ab [44,32] from rfl]
   generalize hx:ab (o++(Pt.JY (j.IC.take k)++([44,32]++bs y)))=x;rw[e1,aE,aE,<-hx]
   congr 1
   simp)
  obtain⟨IW,c⟩:∃IW,o++Pt.JY (j.IC.take k)=IW:=⟨_,rfl⟩
  rw[c] at g HN;rw[c];clear c;have J:¬9223372036854775807<(ab IW).size+2:=by omega
  have z2:¬9223372036854775807<(ab IW).size+2+1:=by omega
  go_wp2_with fail;go_roundw
  case rel=>exact⟨k+1,congrArg SM HN.out.symm,by go_num,f,i⟩
  simp[intOf];omega
 obtain rfl:k=j.IC.length:=by omega
 rw[S2];have u:(Pt.JY j.IC).length<=100:=by have:=p.out.nd j.IC.length;rwa [S2] at this
 have g:(ab (o++Pt.JY j.IC)).size<=300:=by rw[aD,bF];omega
 clear hk f;go_upto_if 65 with fail
 obtain⟨bn,ao⟩:∃b,decide (0<j.IC.length)=b:=⟨_,rfl⟩
 rw[ao];have au:=aJ ao;clear ao;go_cut [3] (fun s3 wx=>s3=Q (ab (o++Pt.KF j.IC))/\wx=wr)
 case first=>
  cases bn with
  |false=>
   have q:Hid (o++Pt.JY j.IC=o++Pt.KF j.IC):=aJ (by
    have A:j.IC=[]:=by
     cases hl:j.IC with
     |nil=>rfl
     |cons a l=>have h1:=au.out;rw[hl] at h1;simp at h1
    rw[Pt.MM,ps_ A,A];rfl)
   go_wp2_with fail;go_meet
   case rel=>exact⟨congrArg (fun x=>SM (ab x)) q.out,rfl⟩
  |true=>
   have q:Hid (ab (o++Pt.JY j.IC)++⟨#[10]⟩=ab (o++Pt.KF j.IC)):=aJ (by
    have A:j.IC≠[]:=fun e=>by have h1:=au.out;rw[e] at h1;simp at h1
    rw[Pt.MM,ng_ A,show(⟨#[10]⟩:ByteArray)=ab [10] from rfl,aE,SH])
   obtain⟨IW,c⟩:∃IW,o++Pt.JY j.IC=IW:=⟨_,rfl⟩
   rw[c] at g q;rw[c];clear c;have J:¬9223372036854775807<(ab IW).size+1:=by omega
   go_wp2_with fail;go_meet
   case rel=>exact⟨congrArg SM q.out,rfl⟩
 case rest=>
 obtain⟨rfl,rfl⟩:=hcut;have a6:(Pt.KF j.IC).length<=101:=by
  rw[Pt.MM];split
  ·simp
  rw[bF];simp;omega
 obtain⟨z,T⟩:∃z,o++Pt.KF j.IC=z:=⟨_,rfl⟩
 have aO:z.length<=301:=by rw[<-T,bF];omega
 have aU:=aJ T
 rw[T];clear T u a6 g d3;have d4:=i.out.cell c4;have d5:=i.out.cell c5;obtain⟨bh,am⟩:∃b,j.IQ=b:=⟨_,rfl⟩
 rw[am] at d4;have ai:=aJ am;clear am;go_upto_if 69 with fail
 go_cut [3] (fun s3 wx=>s3=Q (ab (z++Pt.Ks j))/\Hid (ID D wx))
 case first=>
  cases bh with
  |false=>
   have q:Hid (z=z++Pt.Ks j):=aJ (by unfold Pt.Ks;rw[ai.out];simp)
   go_wp2_with fail;go_meet
   case rel=>exact⟨congrArg (fun x=>SM (ab x)) q.out,i⟩
  |true=>
   obtain⟨aI,aK⟩:=Pt.LS (C.out.bd.pa ai.out);have HS:=aJ (fun W=>Cs j.ready W (by rw[<-af];omega) (fun b hb=>(aI b hb).1))
   have bm:j.ready.size<=8:=by rw[<-af];exact aK
   have q:Hid (((ab z++⟨#[32,32,114,101,97,100,121,32,47]⟩)++j.ready)++⟨#[47,10]⟩=ab (z++Pt.Ks j)):=aJ (by
    unfold Pt.Ks;rw[ai.out,ps_ rfl,show(⟨#[32,32,114,101,97,100,121,32,47]⟩:ByteArray)=ab [32,32,114,101,97,100,121,32,47] from rfl,show(⟨#[47,10]⟩:ByteArray)=ab [47,10] from rfl]
    have e1:j.ready=ab (bs j.ready):=(dU _).symm
    generalize hx:ab (z++_)=x;rw[e1,aE,aE,aE,<-hx]
    congr 1
    simp[Gm.Ka])
   have bo:(ab z).size<=301:=by rw[aD];exact aO
   have J:¬9223372036854775807<(ab z).size+9:=by omega
   have z2:¬9223372036854775807<(ab z).size+9+j.ready.size:=by omega
   have z3:¬9223372036854775807<(ab z).size+9+j.ready.size+2:=by omega
   clear aI aK;go_wp2_with fail;refine(HS.out _).mono ?_;rintro e _ ⟨rfl,hd⟩;have aQ:=aJ (i.out.up hd);clear hd;go_wp2_with fail;go_meet
   case rel=>exact⟨congrArg SM q.out,aQ⟩
 case rest=>
 clear d4 d5 i;obtain⟨rfl,i⟩:=hcut;have ap:(ab (z++Pt.Ks j)).size<=401:=by rw[aD,bF];have:=p.out.rd;omega
 obtain⟨IW,c⟩:∃IW,z++Pt.Ks j=IW:=⟨_,rfl⟩
 have aV:=aJ c
 rw[c] at ap ⊢;clear c;have r1:=C.out.bd.r;have b1:=C.out.bd.b;have b2:=C.out.bd.cp;have b3:=C.out.bd.st;have b4:=C.out.bd.bu;have b5:=C.out.bd.wi;have aH:max (0:Int) j.II=j.II:=by omega
 have a4:TL.wrap (max (0:Int) j.II)=j.II:=by rw[aH];exact IntWalk.u64_in _ (by omega)
 have wu:TL.wrap j.II=j.II:=IntWalk.u64_in _ (by omega)
 have aw:=aJ (fun W=>Gh j.IE (by omega) W)
 have p1:(ab (Pt.J3 j.IE)).size<=10:=by rw[aD];exact Pt.N6 (by omega)
 have g1:(ab (Pt.dec j.base.toNat)).size<=18:=by rw[aD];exact Pt.JW (by omega) (by omega)
 have g2:(ab (Pt.dec j.cap.toNat)).size<=18:=by rw[aD];exact Pt.JW (by omega) (by omega)
 have g3:(ab (Pt.dec j.IG.toNat)).size<=18:=by rw[aD];exact Pt.JW (by omega) (by omega)
 have g4:(ab (Pt.dec j.II.toNat)).size<=18:=by rw[aD];exact Pt.JW (by omega) (by omega)
 have g5:(ab (Pt.dec j.win.toNat)).size<=18:=by rw[aD];exact Pt.JW (by omega) (by omega)
 have J:¬9223372036854775807<(ab IW).size+10:=by omega
 have z2:¬9223372036854775807<(ab IW).size+10+(ab (Pt.J3 j.IE)).size:=by omega
 have z3:¬9223372036854775807<(ab IW).size+10+(ab (Pt.J3 j.IE)).size+11:=by omega
 have z4:¬9223372036854775807<(ab IW).size+10+(ab (Pt.J3 j.IE)).size+11+(ab (Pt.dec j.base.toNat)).size:=by omega
 have z5:¬9223372036854775807<(ab IW).size+10+(ab (Pt.J3 j.IE)).size+11+(ab (Pt.dec j.base.toNat)).size+1:=by omega
 have z6:¬9223372036854775807<(ab IW).size+10+(ab (Pt.J3 j.IE)).size+11+(ab (Pt.dec j.base.toNat)).size+1+(ab (Pt.dec j.cap.toNat)).size:=by omega
 have z7:¬9223372036854775807<(ab IW).size+10+(ab (Pt.J3 j.IE)).size+11+(ab (Pt.dec j.base.toNat)).size+1+(ab (Pt.dec j.cap.toNat)).size+1:=by omega
 have z8:¬9223372036854775807<(ab IW).size+10+(ab (Pt.J3 j.IE)).size+11+(ab (Pt.dec j.base.toNat)).size+1+(ab (Pt.dec j.cap.toNat)).size+1+(ab (Pt.dec j.IG.toNat)).size:=by omega
 have z9:¬9223372036854775807<(ab IW).size+10+(ab (Pt.J3 j.IE)).size+11+(ab (Pt.dec j.base.toNat)).size+1+(ab (Pt.dec j.cap.toNat)).size+1+(ab (Pt.dec j.IG.toNat)).size+9:=by omega
 have a7:¬9223372036854775807<(ab IW).size+10+(ab (Pt.J3 j.IE)).size+11+(ab (Pt.dec j.base.toNat)).size+1+(ab (Pt.dec j.cap.toNat)).size+1+(ab (Pt.dec j.IG.toNat)).size+9+(ab (Pt.dec j.II.toNat)).size:=by omega
 have a8:¬9223372036854775807<(ab IW).size+10+(ab (Pt.J3 j.IE)).size+11+(ab (Pt.dec j.base.toNat)).size+1+(ab (Pt.dec j.cap.toNat)).size+1+(ab (Pt.dec j.IG.toNat)).size+9+(ab (Pt.dec j.II.toNat)).size+1:=by omega
 have a9:¬9223372036854775807<(ab IW).size+10+(ab (Pt.J3 j.IE)).size+11+(ab (Pt.dec j.base.toNat)).size+1+(ab (Pt.dec j.cap.toNat)).size+1+(ab (Pt.dec j.IG.toNat)).size+9+(ab (Pt.dec j.II.toNat)).size+1+(ab (Pt.dec j.win.toNat)).size:=by omega
 have a':¬9223372036854775807<(ab IW).size+10+(ab (Pt.J3 j.IE)).size+11+(ab (Pt.dec j.base.toNat)).size+1+(ab (Pt.dec j.cap.toNat)).size+1+(ab (Pt.dec j.IG.toNat)).size+9+(ab (Pt.dec j.II.toNat)).size+1+(ab (Pt.dec j.win.toNat)).size+7:=by omega
 have d6:=i.out.cell c6
 have d7:=i.out.cell c7
 have d8:=i.out.cell c8
 have d9:=i.out.cell c9
 have ax:=i.out.cell aX
 have ay:=i.out.cell aY
 have aj:Hid (ID wc wc):=aJ (ID.refl _)
 go_upto_region 17 with fail
 go_cut [3] (fun s3 wx=>s3=Q (ab (IW++Pt.Ma j))/\Hid (ID D wx))
 case first=>
  go_region_held3 (fun W=>W.cell? ⟨kj,6,V⟩=X (Z Y j.IE)/\W.cell? ⟨kj,7,V⟩=X (Z E j.base)/\W.cell? ⟨kj,8,V⟩=X (Z E j.cap)/\W.cell? ⟨kj,9,V⟩=X (Z E j.IG)/\W.cell? ⟨kj,10,V⟩=X (Z Y j.II)/\W.cell? ⟨kj,11,V⟩=X (Z E j.win)) (go_keep) ((first|(go_simp;go_at_call 194;refine(aw.out _).mono ?_;rintro e w2 ⟨rfl,rfl⟩)|(go_simp;go_at_call 195;refine(av.out _ _ (by omega) (by omega)).mono ?_;rintro e w2 ⟨rfl,hd⟩;have d:=aJ (ID.up (a:=wc) (by(repeat (first|exact Hid.out (by assumption)|exact ID.refl _|refine ID.drew ?_|refine ID.drewN ?_ _|refine ID.alloc ?_ _))) hd);have be:=d.out.cell d6;have bf:=d.out.cell d7;have bg:=d.out.cell d8;have bi:=d.out.cell d9;have ba:=d.out.cell ax;have bb:=d.out.cell ay;clear hd)))
  all_goals
   have L:=aJ (i.out.up d.out)
   go_wp2_with fail;go_meet
  all_goals exact⟨congrArg SM ((tw IW (Pt.J3 j.IE) (Pt.dec j.base.toNat) (Pt.dec j.cap.toNat) (Pt.dec j.IG.toNat) (Pt.dec j.II.toNat) (Pt.dec j.win.toNat)).trans (by congr 1)),aJ (by first|exact L.out|exact L.out.drew|exact L.out.drewN _)⟩
 case rest=>
 clear d6 d7 d8 d9 ax ay i aj J z2 z3 z4 z5 z6 z7 z8 z9 a7 a8 a9 a' p1 g1 g2 g3 g4 g5 aH a4 wu aw r1 b1 b2 b3 b4 b5;obtain⟨rfl,i⟩:=hcut;have aL:IW.length+(Pt.Ma j).length<=801:=by rw[aD] at ap;have:=p.out.rs;omega
 obtain⟨F,aa⟩:∃F,IW++Pt.Ma j=F:=⟨_,rfl⟩
 have bt:F.length<=801:=by rw[<-aa,bF];exact aL
 have aW:=aJ aa
 rw[aa];clear aa ap aL P aO;go_wp2_with fail;go_loopw [3,6] (fun v3 v6 wr=>∃k:Nat,v3=Q (ab (F++Pt.KU (j.IK.take k)))/\v6=Z Y (k:Int)/\k<=j.IK.length/\Hid (ID D wr)) (fun _ v6 _=>j.IK.length-(intOf v6).toNat)
 case atStart=>exact⟨0,congrArg SM (by simp[Pt.KU,Pt.Jx,Pt.flat]),rfl,bO _,i⟩
 clear i;obtain⟨k,rfl,rfl,hk,i⟩:=hrel;have ak:=i.out.cell aZ;have i2:j.IK.length<=3:=C.out.l3;have g:(ab (F++Pt.KU (j.IK.take k))).size<=901:=by rw[aD,bF];have:=p.out.ld k;omega
 by_cases f:k<j.IK.length
 ·have i0:(0:Int)<=(k:Int):=by omega
  have i1:(k:Int)<(j.IK.length:Int):=by omega
  have wk:SL.wrap ((k:Int)+1)=(k:Int)+1:=bV _ (by omega)
  obtain⟨b,off,t,_,hc⟩:=(HM.out.up i.out).IK.at_ (by rw[gn];omega)
  have x1:=hc _ _ (fx j.IK k f).1
  have x2:=hc _ _ (fx j.IK k f).2
  rw[<-SV] at x2;rw[t] at ak;have m:j.IK.getD k (0,0)∈j.IK:=gm_ f;have ad:=C.out.bd.si _ m;have ac:=C.out.lw _ m;have HT:Hid (j.IK.take (k+1)=j.IK.take k++[j.IK.getD k (0,0)]):=aJ (by
   rw[S4 f,bD,bE f];rfl)
  clear hc t m;generalize j.IK.getD k (0,0)=y at *;obtain⟨I,B⟩:=y;simp only at x1 x2 ad ac;have aS:=aJ (fun W=>Gg I W ad)
  have g0:(ab (Pt.KI I)).size<=4:=by rw[aD];exact Pt.N4 ad
  have g1:(ab (Pt.dec B.toNat)).size<=18:=by rw[aD];exact Pt.JW (by omega) (by omega)
  have aN:0<=B:=ac.1
  have a5:B<9:=ac.2
  clear ad ac;obtain⟨a2,al⟩:∃a2,(if k=0 then F else F++Pt.KU (j.IK.take k)++[44])=a2:=⟨_,rfl⟩
  have ah:=aJ al
  have bp:(ab a2).size<=902:=by
   rw[aD] at g ⊢;rw[<-al];rw[bF] at g;split
   ·omega
   rw[bF,bF];simp;omega
  clear al;go_upto_if 119 with fail
  obtain⟨bk,an⟩:∃b,decide (0<k)=b:=⟨_,rfl⟩
  rw[an];have ar:=aJ an;clear an;go_cut [3] from 111 to 140 (fun s3 wx=>s3=Q (ab a2)/\wx=wr)
  case first=>
   cases bk with
   |false=>
    have q:Hid (F++Pt.KU (j.IK.take k)=a2):=aJ (by
     have A:k=0:=by have h1:=of_decide_eq_false ar.out;omega
     rw[<-ah.out,ps_ A,A];simp[Pt.KU,Pt.Jx,Pt.flat])
    go_wp2_with fail;go_meet
    case rel=>exact⟨congrArg (fun x=>SM (ab x)) q.out,rfl⟩
   |true=>
    have q:Hid (ab (F++Pt.KU (j.IK.take k))++⟨#[44]⟩=ab a2):=aJ (by
     have A:¬k=0:=by have h1:=of_decide_eq_true ar.out;omega
     rw[<-ah.out,ng_ A,show(⟨#[44]⟩:ByteArray)=ab [44] from rfl,aE])
    obtain⟨N,c⟩:∃N,F++Pt.KU (j.IK.take k)=N:=⟨_,rfl⟩
    rw[c] at g q;rw[c];clear c;have J:¬9223372036854775807<(ab N).size+1:=by omega
    go_wp2_with fail;go_meet
    case rel=>exact⟨congrArg SM q.out,rfl⟩
  case rest=>
  obtain⟨rfl,rfl⟩:=hcut;have J:¬9223372036854775807<(ab a2).size+1:=by omega
  have z2:¬9223372036854775807<(ab a2).size+1+(ab (Pt.KI I)).size:=by omega
  have z3:¬9223372036854775807<(ab a2).size+1+(ab (Pt.KI I)).size+1:=by omega
  have z4:¬9223372036854775807<(ab a2).size+1+(ab (Pt.KI I)).size+1+(ab (Pt.dec B.toNat)).size:=by omega
  have q:Hid (a2++(32::(Pt.KI I++(32::Pt.dec B.toNat)))=F++Pt.KU (j.IK.take (k+1))):=aJ (by
   rw[HT.out,<-ah.out]
   by_cases A:k=0
   ·rw[ps_ A,A,Tl,TK,Pt.Oe]
   rw[ng_ A,Pt.NP (I,B) (fun e=>by have:=congrArg SW e;rw[S6,Tv] at this;omega)]
   simp)
  have aj:Hid (ID wc wc):=aJ (ID.refl _)
  go_wp2_with fail;go_region_held3 (fun W=>W.cell? ⟨kj,12,V⟩=X (U (X ⟨b,off,V⟩) j.IK.length j.lc)/\W.cell? ⟨b,off+k*2,V⟩=X (Z Y I)/\W.cell? ⟨b,off+k*2+1,V⟩=X (Z E B)) (go_keep) ((first|(go_simp;go_at_call 196;refine(aS.out _).mono ?_;rintro e w2 ⟨rfl,hd⟩;have d:=aJ (ID.up (a:=wc) (by(repeat (first|exact Hid.out (by assumption)|exact ID.refl _|refine ID.drew ?_|refine ID.drewN ?_ _|refine ID.alloc ?_ _))) hd);have az:=d.out.cell ak;have aA:=d.out.cell x1;have aB:=d.out.cell x2;clear hd)|(go_simp;go_at_call 195;refine(av.out _ _ (by omega) (by omega)).mono ?_;rintro e w2 ⟨rfl,hd⟩;have d:=aJ (ID.up (a:=wc) (by(repeat (first|exact Hid.out (by assumption)|exact ID.refl _|refine ID.drew ?_|refine ID.drewN ?_ _|refine ID.alloc ?_ _))) hd);have az:=d.out.cell ak;have aA:=d.out.cell x1;have aB:=d.out.cell x2;clear hd)))
  all_goals
   have L:=aJ (i.out.up d.out)
   go_wp2_with fail;go_roundw
  case rel=>exact⟨k+1,congrArg SM ((xA a2 _ _).trans (by rw[q.out])),by go_num,f,aJ (by first|exact L.out|exact L.out.drew|exact L.out.drewN _)⟩
  simp[intOf];omega
 obtain rfl:k=j.IK.length:=by omega
 rw[S2] at g ⊢;have q:Hid (ab (F++Pt.KU j.IK)++⟨#[10,125,10]⟩=ab (Pt.Kg j)):=aJ (by
  rw[show(⟨#[10,125,10]⟩:ByteArray)=ab [10,125,10] from rfl,aE,<-aW.out,<-aV.out,<-aU.out,<-aT.out]
  congr 1
  simp[Pt.Kg])
 obtain⟨a3,aC⟩:∃a3,F++Pt.KU j.IK=a3:=⟨_,rfl⟩
 rw[aC] at g q ⊢;clear aC;have J:¬9223372036854775807<(ab a3).size+3:=by omega
 have HF:=aJ (HO.out.up i.out)
 go_wp2_with fail;go_ret;exact⟨congrArg (fun x=>SZ (Q x)) q.out,HF.out⟩
def FE(w:TQ)(x:List Nat)(e:TU)(w':TQ):Prop:=e=SA (SD #[Q (ab x),Z Y ((x.length:Int)+1)])/\ID w w'
def AN(w:TQ)(x:List Nat)(v4 v5:TR)(wr:TQ):Prop:=
 ∃(k:Nat),v5=Z Y (k:Int)/\Hid (IL wr w.heap.size 5 1 v4 k (Jp (x.take k)))/\Hid (ID w wr)/\k<=x.length
theorem BD(s:ByteArray)(x rest:List Nat)(w:TQ)(hs:s.size<=100000)(u:Pt.OD x)(q:∀b∈x,b<256)(h:bs s=x++47::rest):
  TS TX 247 #[Q s] w (FE w x):=by
 have hsz:x.length<s.size:=by
  have:=congrArg SW h
  rw[af,bF,SQ] at this;omega
 have o:Hid (AN w x (U V 0 0) (Z Y 0) w):=aJ ⟨0,rfl,aJ (IL.Jk _ _ _ _),aJ (ID.refl w),bO _⟩
 have F:Hid (∀k (hk:k<x.length) (r:k<s.size),s[k].toNat=x[k]):=aJ (fun k hk r=>by
  rw[<-be s k r,h,bD,bJ hk,bE hk];rfl)
 have D:Hid (s[x.length].toNat=47):=aJ (by
  rw[<-be s x.length hsz,h,bD,Td (bM _)];simp)
 have I:=aJ u
 have n:=aJ q
 clear h u q;go_enter func247,ntmps247;go_wp2;go_loopw [4,5] (fun v4 v5 wr=>AN w x v4 v5 wr) (fun _ v5 _=>x.length-(intOf v5).toNat)
 case atStart=>exact o
 clear o;obtain⟨k,rfl,c,g,hk⟩:=hrel;have l:k<s.size:=by omega
 have T:(0:Int)<=(k:Int):=by omega
 have R:(k:Int)<(s.size:Int):=by omega
 have q1:decide ((k:Int)<(s.size:Int))=G:=by rw[decide_eq_true_iff];exact R
 obtain⟨B,c4,rfl,_,_,_⟩:=c.shape;have wk:SL.wrap ((k:Int)+1)=(k:Int)+1:=bV _ (by omega)
 by_cases a:k<x.length
 ·have d:=F k a l
  obtain⟨y,z,A⟩:=I x[k] (bH a);have m:=n x[k] (bH a);rw[<-d] at y z A m;have i:((s[k].toNat:Int) !=47)=G:=by simp[bne];omega
  have N:((s[k].toNat:Int)==92)=O:=by rw[beq_eq_false_iff_ne];omega
  have L:decide ((s[k].toNat:Int)<32)=O:=by rw[decide_eq_false_iff_not];omega
  have p:Hid (∀v W,IL W w.heap.size 5 1 v (k+1) (Jp (x.take k)++[Z .u8 (s[k].toNat:Nat)])->ID w W->AN w x v (Z Y ((k:Int)+1)) W):=aJ (fun v W h1 h2=>⟨k+1,rfl,aJ (by
   have e:Jp (x.take (k+1))=Jp (x.take k)++[Z .u8 (s[k].toNat:Nat)]:=by
    rw[S4 a,i6,<-d]
   rw[e];exact h1),aJ h2,a⟩)
  have C:Hid (w.heap.size<=wr.heap.size):=aJ g.size
  clear d y z A;go_wp2_with (at_builtin;refine aw (wr:=wr) rfl _ _ 40 rfl _ 5 (Z .u8 0) 1 1 underlying40 dD rfl (by decide) (by decide) _ _ _ rfl c 1 1 [Z .u8 (s[k].toNat:Nat)] rfl rfl rfl rfl ?pn1 C ?_)
  case pn1=>omega
  intro v' S t d j;have J:=aJ (p v' S t (IL.IU g c (bM _) d));clear t d j p c g;go_wp2;go_roundw
  case rel=>exact J
  simp[intOf];omega
 obtain rfl:k=x.length:=by omega
 have i:((s[x.length].toNat:Int) !=47)=O:=by rw[D.out];rfl
 have f:Hid (IL wr w.heap.size 5 1 (U B x.length c4) x.length (Jp x)):=aJ (by have:=c;rw[S2] at this;exact this)
 have P:=jf f n
 clear c f;go_wp2;refine aP (v:=SD #[Q (ab x),Z Y ((x.length:Int)+1)]) (by simp[results,results247,go_sem]) rfl ⟨rfl,g⟩
def lY(w:TQ)(R:Nat×List Nat×Nat)(e:TU)(w':TQ):Prop:=e=SA (SD #[Z Y (R.1:Int),Q (ab R.2.1),Z Y (R.2.2:Int),Z Y 0])/\ID w w'
theorem F0(s:ByteArray)(R:Nat×List Nat×Nat)(w:TQ)(hs:s.size<=100000)(h:Lx.tok (bs s)=X R)(C:R.1=4->∃rest,bs s=Pt.KY R.2.1++rest/\Pt.OD R.2.1/\∀b∈R.2.1,b<256):
  TS TX 199 #[Q s] w (lY w R):=by
 have h0:0<s.size:=by
  rcases TE s.size with e|e
  ·have:bs s=[]:=Tq (by rw[af];exact e)
   rw[this] at h;cases h
  exact e
 have c:bs s=s[0].toNat::(bs s).drop 1:=by rw[<-be s 0 h0,<-dI (by rw[af];exact h0)];rfl
 have i1:(0:Int)<(s.size:Int):=by omega
 have x:s[0].toNat<256:=s[0].toNat_lt
 have m:=aJ (xP s[0].toNat x w)
 have l:=aJ (tP s[0].toNat x w)
 have a:Lx.tok (s[0].toNat::(bs s).drop 1)=X R:=by rw[<-c];exact h
 rw[Lx.tok,<-c] at a;have j:=yc h;have d:bs (s.extract 1 s.size)=(bs s).drop 1:=by
  rw[eV,TG];rw[Tw,af];omega
 have k:(s.extract 1 s.size).size<=100000:=by rw[<-af,d,Tw,af];omega
 have ac:(1:Int)<=(s.size:Int):=by omega
 have r:=h
 cases A:Lx.I9 s[0].toNat with
 |true=>
  rw[A,ps_ rfl] at a;injection a with a
  have hn:((bs s).takeWhile Lx.word).length<=s.size:=by rw[<-af];exact(TM _).length_le
  have B:=aJ (fun W=>D2 s _ W hs rfl)
  have hx:s.extract 0 ((bs s).takeWhile Lx.word).length=ab ((bs s).takeWhile Lx.word):=by
   rw[fF,Tm,TN]
   congr 1
   exact TO.mp (TP _)|>.symm
  have f:Hid (∀w',ID w w'->lY w R (SA (SD #[Z Y 1,Q (s.extract 0 ((bs s).takeWhile Lx.word).length),Z Y ((((bs s).takeWhile Lx.word).length:Nat):Int),Z Y 0])) w'):=aJ (fun w' t=>by rw[hx,<-a];exact⟨rfl,t⟩)
  rw[A] at m;clear hx a A c x l j d r C k;generalize ((bs s).takeWhile Lx.word).length=n at *;have i2:(n:Int)<=(s.size:Int):=by omega
  go_enter func199,ntmps199
  go_wp2_with fail;refine(m.out).mono ?_;rintro e w' ⟨rfl,rfl⟩;go_wp2_with fail;refine(B.out _).mono ?_;rintro e w' ⟨rfl,rfl⟩;go_wp2_with fail;go_quiet (fail);go_wp2_with fail;refine aP (v:=SD #[Z Y 1,Q (s.extract 0 n),Z Y (n:Int),Z Y 0]) (by simp[results,results199,go_sem]) rfl ?_
  exact f.out _ ((ID.refl _).drewN nq)
 |false=>
  rw[A,ng_ (by decide)] at a
  rw[A] at m;clear A;cases q:Lx.I1 s[0].toNat with
  |true=>
   rw[q,ps_ rfl] at a;simp only at a;have hn:((bs s).takeWhile Lx.I1).length<=s.size:=by rw[<-af];exact(TM _).length_le
   have B:=aJ (fun W=>D3 s _ W hs rfl)
   have hx:s.extract 0 ((bs s).takeWhile Lx.I1).length=ab ((bs s).takeWhile Lx.I1):=by
    rw[fF,Tm,TN]
    congr 1
    exact TO.mp (TP _)|>.symm
   by_cases g:18<((bs s).takeWhile Lx.I1).length\/(s[0].toNat=48/\1<((bs s).takeWhile Lx.I1).length)
   ·rw[ps_ g] at a;cases a
   rw[ng_ g] at a;injection a with a
   have f:Hid (∀w',ID w w'->lY w R (SA (SD #[Z Y 2,Q (s.extract 0 ((bs s).takeWhile Lx.I1).length),Z Y ((((bs s).takeWhile Lx.I1).length:Nat):Int),Z Y 0])) w'):=aJ (fun w' t=>by rw[hx,<-a];exact⟨rfl,t⟩)
   rw[q] at l;clear hx a q c x j d r C k;generalize ((bs s).takeWhile Lx.I1).length=n at *;have i2:(n:Int)<=(s.size:Int):=by omega
   have ad:decide ((18:Int)<(n:Int))=O:=by rw[decide_eq_false_iff_not];omega
   by_cases u:s[0].toNat=48
   ·have S:((s[0].toNat:Int)==48)=G:=by rw[u];rfl
    have n1:decide ((1:Int)<(n:Int))=O:=by rw[decide_eq_false_iff_not];omega
    clear u g;go_enter func199,ntmps199;go_wp2_with fail;refine(m.out).mono ?_;rintro e w' ⟨rfl,rfl⟩;go_wp2_with fail;refine(l.out).mono ?_;rintro e w' ⟨rfl,rfl⟩;go_wp2_with fail;refine(B.out _).mono ?_;rintro e w' ⟨rfl,rfl⟩;go_wp2_with fail;go_quiet (fail);go_wp2_with fail;refine aP (v:=SD #[Z Y 2,Q (s.extract 0 n),Z Y (n:Int),Z Y 0]) (by simp[results,results199,go_sem]) rfl ?_
    exact f.out _ ((ID.refl _).drewN nq)
   have S:((s[0].toNat:Int)==48)=O:=by rw[beq_eq_false_iff_ne];omega
   clear u g
   by_cases en:1<n
   ·have n1:decide ((1:Int)<(n:Int))=G:=by rw[decide_eq_true_iff];omega
    clear en;go_enter func199,ntmps199;go_wp2_with fail;refine(m.out).mono ?_;rintro e w' ⟨rfl,rfl⟩;go_wp2_with fail;refine(l.out).mono ?_;rintro e w' ⟨rfl,rfl⟩;go_wp2_with fail;refine(B.out _).mono ?_;rintro e w' ⟨rfl,rfl⟩;go_wp2_with fail;go_quiet (fail);go_wp2_with fail;refine aP (v:=SD #[Z Y 2,Q (s.extract 0 n),Z Y (n:Int),Z Y 0]) (by simp[results,results199,go_sem]) rfl ?_
    exact f.out _ ((ID.refl _).drewN nq)
   have n1:decide ((1:Int)<(n:Int))=O:=by rw[decide_eq_false_iff_not];omega
   clear en;go_enter func199,ntmps199;go_wp2_with fail;refine(m.out).mono ?_;rintro e w' ⟨rfl,rfl⟩;go_wp2_with fail;refine(l.out).mono ?_;rintro e w' ⟨rfl,rfl⟩;go_wp2_with fail;refine(B.out _).mono ?_;rintro e w' ⟨rfl,rfl⟩;go_wp2_with fail;go_quiet (fail);go_wp2_with fail;refine aP (v:=SD #[Z Y 2,Q (s.extract 0 n),Z Y (n:Int),Z Y 0]) (by simp[results,results199,go_sem]) rfl ?_
   exact f.out _ ((ID.refl _).drewN nq)
  |false=>
   rw[q,ng_ (by decide)] at a
   rw[q] at l
   by_cases i:s[0].toNat=34
   ·rw[ps_ i] at a;cases I:Lx.Kt (((bs s).drop 1).length+1) ((bs s).drop 1) 1 [] with
    |none=>rw[I] at a;cases a
    |some p=>
     rw[I] at a;injection a with a
     rw[<-d] at I;have L:=aJ (fun W=>D8 (s.extract 1 s.size) p _ W k I)
     have f:Hid (∀w',ID w w'->lY w R (SA (SD #[Z Y 3,Q (ab p.1),Z Y (p.2:Int),Z Y 0])) w'):=aJ (fun w' t=>by rw[<-a];exact⟨rfl,t⟩)
     rw[<-a] at j;simp only[af] at j;have wn:SL.wrap ((p.2:Int)-1+1)=(p.2:Int):=by rw[show(p.2:Int)-1+1=(p.2:Int) by omega];exact bV _ (by omega)
     have ae:SL.wrap (p.2:Int)=(p.2:Int):=bV _ (by omega)
     have nn:decide ((p.2:Int)-1<0)=O:=by rw[decide_eq_false_iff_not];omega
     have N:((s[0].toNat:Int)==34)=G:=by rw[i];rfl
     clear a I c x i;go_enter func199,ntmps199;go_wp2_with fail;refine(m.out).mono ?_;rintro e w' ⟨rfl,rfl⟩;go_wp2_with fail;refine(l.out).mono ?_;rintro e w' ⟨rfl,rfl⟩;go_wp2_with fail;refine(L.out _).mono ?_;rintro e w2 ⟨rfl,hd⟩;have J:=aJ hd;go_wp2_with fail;refine aP (v:=SD #[Z Y 3,Q (ab p.1),Z Y (p.2:Int),Z Y 0]) (by simp[results,results199,go_sem]) rfl ?_
     exact f.out _ J.out
   rw[ng_ i] at a;have N:((s[0].toNat:Int)==34)=O:=by rw[beq_eq_false_iff_ne];omega
   by_cases o:s[0].toNat=47
   ·have D:R.1=4:=by
     rw[ps_ o,Option.map_eq_some_iff] at a;obtain⟨p,_,F⟩:=a;rw[<-F]
    obtain⟨rest,hr,F,h8⟩:=C D;have hR:R=(4,R.2.1,R.2.1.length+2):=by
     have h1:=(Pt.LZ F).tok rest (fun e=>absurd e (by decide))
     rw[<-hr,r] at h1;injection h1 with h1
     rw[h1];simp[Pt.KY]
    have y:bs (s.extract 1 s.size)=R.2.1++47::rest:=by rw[d,hr];simp[Pt.KY]
    have L:=aJ (fun W=>BD (s.extract 1 s.size) R.2.1 rest W k F h8 y)
    have f:Hid (∀w',ID w w'->lY w R (SA (SD #[Z Y 4,Q (ab R.2.1),Z Y ((R.2.1.length:Int)+1+1),Z Y 0])) w'):=aJ (fun w' t=>by
     refine⟨?_,t⟩;rw[hR];simp only
     congr 1)
    have P:((s[0].toNat:Int)==47)=G:=by rw[o];rfl
    have aa:R.2.1.length<=100000:=by
     have h1:=congrArg SW y
     rw[af,bF,SQ] at h1;omega
    have wn:SL.wrap ((R.2.1.length:Int)+1+1)=(R.2.1.length:Int)+1+1:=bV _ (by omega)
    have nn:decide ((R.2.1.length:Int)+1<0)=O:=by rw[decide_eq_false_iff_not];omega
    clear hR y F h8 hr D C a c x i o j d r k;go_enter func199,ntmps199;go_wp2_with fail;refine(m.out).mono ?_;rintro e w' ⟨rfl,rfl⟩;go_wp2_with fail;refine(l.out).mono ?_;rintro e w' ⟨rfl,rfl⟩;go_wp2_with fail;refine(L.out _).mono ?_;rintro e w2 ⟨rfl,hd⟩;have J:=aJ hd;clear hd;go_wp2_with fail;refine aP (v:=SD #[Z Y 4,Q (ab R.2.1),Z Y ((R.2.1.length:Int)+1+1),Z Y 0]) (by simp[results,results199,go_sem]) rfl ?_
    exact f.out _ J.out
   rw[ng_ o] at a;have P:((s[0].toNat:Int)==47)=O:=by rw[beq_eq_false_iff_ne];omega
   by_cases z:s[0].toNat=123\/s[0].toNat=125\/s[0].toNat=44\/s[0].toNat=61
   ·rw[ps_ z] at a;injection a with a
    have hx:s.extract 0 1=ab [s[0].toNat]:=by
     rw[fF,c];rfl
    have f:Hid (∀w',ID w w'->lY w R (SA (SD #[Z Y 5,Q (s.extract 0 1),Z Y 1,Z Y 0])) w'):=aJ (fun w' t=>by rw[hx,<-a];exact⟨rfl,t⟩)
    have i2:(1:Int)<=(s.size:Int):=by omega
    clear hx a c x i o j d r C k;rcases z with e|e|e|e
    ·have T:((s[0].toNat:Int)==123)=G:=by rw[e];rfl
     clear e;go_enter func199,ntmps199;go_wp2_with fail;refine(m.out).mono ?_;rintro e w' ⟨rfl,rfl⟩;go_wp2_with fail;refine(l.out).mono ?_;rintro e w' ⟨rfl,rfl⟩;go_wp2_with fail;go_quiet (fail);go_wp2_with fail;refine aP (v:=SD #[Z Y 5,Q (s.extract 0 1),Z Y 1,Z Y 0]) (by simp[results,results199,go_sem]) rfl ?_
     exact f.out _ ((ID.refl _).drewN nq)
    ·have T:((s[0].toNat:Int)==123)=O:=by rw[e];rfl
     have g2:((s[0].toNat:Int)==125)=G:=by rw[e];rfl
     clear e;go_enter func199,ntmps199;go_wp2_with fail;refine(m.out).mono ?_;rintro e w' ⟨rfl,rfl⟩;go_wp2_with fail;refine(l.out).mono ?_;rintro e w' ⟨rfl,rfl⟩;go_wp2_with fail;go_quiet (fail);go_wp2_with fail;refine aP (v:=SD #[Z Y 5,Q (s.extract 0 1),Z Y 1,Z Y 0]) (by simp[results,results199,go_sem]) rfl ?_
     exact f.out _ ((ID.refl _).drewN nq)
    ·have T:((s[0].toNat:Int)==123)=O:=by rw[e];rfl
     have g2:((s[0].toNat:Int)==125)=O:=by rw[e];rfl
     have g3:((s[0].toNat:Int)==44)=G:=by rw[e];rfl
     clear e;go_enter func199,ntmps199;go_wp2_with fail;refine(m.out).mono ?_;rintro e w' ⟨rfl,rfl⟩;go_wp2_with fail;refine(l.out).mono ?_;rintro e w' ⟨rfl,rfl⟩;go_wp2_with fail;go_quiet (fail);go_wp2_with fail;refine aP (v:=SD #[Z Y 5,Q (s.extract 0 1),Z Y 1,Z Y 0]) (by simp[results,results199,go_sem]) rfl ?_
     exact f.out _ ((ID.refl _).drewN nq)
    have T:((s[0].toNat:Int)==123)=O:=by rw[e];rfl
    have g2:((s[0].toNat:Int)==125)=O:=by rw[e];rfl
    have g3:((s[0].toNat:Int)==44)=O:=by rw[e];rfl
    have g4:((s[0].toNat:Int)==61)=G:=by rw[e];rfl
    clear e;go_enter func199,ntmps199;go_wp2_with fail;refine(m.out).mono ?_;rintro e w' ⟨rfl,rfl⟩;go_wp2_with fail;refine(l.out).mono ?_;rintro e w' ⟨rfl,rfl⟩;go_wp2_with fail;go_quiet (fail);go_wp2_with fail;refine aP (v:=SD #[Z Y 5,Q (s.extract 0 1),Z Y 1,Z Y 0]) (by simp[results,results199,go_sem]) rfl ?_
    exact f.out _ ((ID.refl _).drewN nq)
   rw[ng_ z] at a;cases a
def Fa0(t:List Nat):Nat:=(Lx.skip O t 0 1 1).2.1
theorem D4(s:ByteArray)(w:TQ)(hs:s.size<=100000):TS TX 197 #[Q s] w fun e w'=>e=SA (Z Y (Fa0 (bs s):Nat))/\w'=w:=by
 obtain⟨N,z⟩:∃N,Fa0 (bs s)=N:=⟨_,rfl⟩
 have x:Hid (∃l c,(Lx.skip O ((bs s).drop 0) 0 l c).2.1=N):=aJ ⟨1,1,z⟩
 rw[z];clear z;go_enter func197,ntmps197;go_wp2;go_loopw [3] (fun v3 wr=>∃k:Nat,v3=Z Y (k:Int)/\k<=s.size/\Hid (∃l c,(Lx.skip O ((bs s).drop k) k l c).2.1=N)/\wr=w) (fun v3 _=>s.size-(intOf v3).toNat)
 case atStart=>exact⟨0,rfl,bO _,x,rfl⟩
 clear x;obtain⟨k,rfl,hk,o,rfl⟩:=hrel
 by_cases u:k<s.size
 ·have J:(0:Int)<=(k:Int):=by omega
  have C:(k:Int)<(s.size:Int):=by omega
  have h:=dI (l:=bs s) (a:=k) (by rw[af];exact u)
  rw[be s k u] at h;have q:=aJ h;have wk:SL.wrap ((k:Int)+1)=(k:Int)+1:=bV _ (by omega)
  have I:s[k].toNat<256:=s[k].toNat_lt
  obtain⟨l,c,g⟩:=o.out;rw[h] at g;clear o h
  by_cases r:s[k].toNat=32\/s[k].toNat=9\/s[k].toNat=10\/s[k].toNat=13
  ·have f:Hid (∃m:Nat,Ti Y ((k:Int)+1)=Z Y (m:Int)/\m<=s.size/\Hid (∃l c,(Lx.skip O ((bs s).drop m) m l c).2.1=N)/\wr=wr):=aJ ⟨k+1,rfl,u,aJ (by
    rw[Lx.skip] at g
    by_cases i:s[k].toNat=10
    ·rw[ps_ i] at g;exact⟨_,_,g⟩
    rw[ng_ i,ps_ (by omega)] at g;exact⟨_,_,g⟩),rfl⟩
   clear g q;rcases r with e|e|e|e
   ·have f1:((s[k].toNat:Int)==32)=G:=by rw[e];rfl
    clear e;go_wp2;go_roundw
    case rel=>first|exact f.out|(obtain⟨a,b,c,d,_⟩:=f.out;exact⟨a,b,c,d,by trivial⟩)|(obtain⟨a,b,c,d,e,_⟩:=f.out;exact⟨a,b,c,d,e,by trivial⟩)
    simp[intOf];omega
   ·have f1:((s[k].toNat:Int)==32)=O:=by rw[e];rfl
    have f2:((s[k].toNat:Int)==9)=G:=by rw[e];rfl
    clear e;go_wp2;go_roundw
    case rel=>first|exact f.out|(obtain⟨a,b,c,d,_⟩:=f.out;exact⟨a,b,c,d,by trivial⟩)|(obtain⟨a,b,c,d,e,_⟩:=f.out;exact⟨a,b,c,d,e,by trivial⟩)
    simp[intOf];omega
   ·have f1:((s[k].toNat:Int)==32)=O:=by rw[e];rfl
    have f2:((s[k].toNat:Int)==9)=O:=by rw[e];rfl
    have B:((s[k].toNat:Int)==10)=G:=by rw[e];rfl
    clear e;go_wp2;go_roundw
    case rel=>first|exact f.out|(obtain⟨a,b,c,d,_⟩:=f.out;exact⟨a,b,c,d,by trivial⟩)|(obtain⟨a,b,c,d,e,_⟩:=f.out;exact⟨a,b,c,d,e,by trivial⟩)
    simp[intOf];omega
   have f1:((s[k].toNat:Int)==32)=O:=by rw[e];rfl
   have f2:((s[k].toNat:Int)==9)=O:=by rw[e];rfl
   have B:((s[k].toNat:Int)==10)=O:=by rw[e];rfl
   have D:((s[k].toNat:Int)==13)=G:=by rw[e];rfl
   clear e;go_wp2;go_roundw
   case rel=>first|exact f.out|(obtain⟨a,b,c,d,_⟩:=f.out;exact⟨a,b,c,d,by trivial⟩)|(obtain⟨a,b,c,d,e,_⟩:=f.out;exact⟨a,b,c,d,e,by trivial⟩)
   simp[intOf];omega
  have f1:((s[k].toNat:Int)==32)=O:=by rw[beq_eq_false_iff_ne];omega
  have f2:((s[k].toNat:Int)==9)=O:=by rw[beq_eq_false_iff_ne];omega
  have B:((s[k].toNat:Int)==10)=O:=by rw[beq_eq_false_iff_ne];omega
  have D:((s[k].toNat:Int)==13)=O:=by rw[beq_eq_false_iff_ne];omega
  rw[Lx.skip,ng_ (by omega),ng_ (by omega)] at g
  by_cases n:s[k].toNat=35
  ·rw[ps_ n] at g;have F:((s[k].toNat:Int)==35)=G:=by rw[n];rfl
   have x:Hid (∃l c,(Lx.skip G ((bs s).drop k) k l c).2.1=N):=aJ ⟨l,c,by rw[q.out,Lx.skip,ng_ (by omega)];exact g⟩
   have p:=aJ n
   clear g q r n;go_wp2;go_loopw [3] (fun v3 A=>∃j:Nat,v3=Z Y (j:Int)/\k<=j/\j<=s.size/\Hid (∃l c,(Lx.skip G ((bs s).drop j) j l c).2.1=N)/\A=wr) (fun v3 _=>s.size-(intOf v3).toNat)
   case atStart=>exact⟨k,rfl,bM _,hk,x,rfl⟩
   clear x;obtain⟨j,rfl,_,hj,o,rfl⟩:=hrel
   by_cases t:j<s.size
   ·have J:(0:Int)<=(j:Int):=by omega
    have C:(j:Int)<(s.size:Int):=by omega
    have q1:decide ((j:Int)<(s.size:Int))=G:=by rw[decide_eq_true_iff];exact C
    have h:=dI (l:=bs s) (a:=j) (by rw[af];exact t)
    rw[be s j t] at h;have L:SL.wrap ((j:Int)+1)=(j:Int)+1:=bV _ (by omega)
    obtain⟨l,c,g⟩:=o.out
    by_cases i:s[j].toNat=10
    ·have y:((s[j].toNat:Int) !=10)=O:=by rw[i];rfl
     have hne:k≠j:=fun e=>by
      subst e;have:=p.out;omega
     have f:Hid (∃m:Nat,Ti Y (j:Int)=Z Y (m:Int)/\m<=s.size/\Hid (∃l c,(Lx.skip O ((bs s).drop m) m l c).2.1=N)/\0=0):=aJ ⟨j,rfl,hj,aJ ⟨l,c,by
      rw[h,Lx.skip,ps_ i] at g;rw[h,Lx.skip,ps_ i];exact g⟩,rfl⟩
     clear g o h i p;go_wp2;go_roundw
     case rel=>first|exact f.out|(obtain⟨a,b,c,d,_⟩:=f.out;exact⟨a,b,c,d,by trivial⟩)|(obtain⟨a,b,c,d,e,_⟩:=f.out;exact⟨a,b,c,d,e,by trivial⟩)
     simp[intOf];omega
    have y:((s[j].toNat:Int) !=10)=G:=by simp[bne];omega
    have f:Hid (∃j':Nat,Ti Y ((j:Int)+1)=Z Y (j':Int)/\k<=j'/\j'<=s.size/\Hid (∃l c,(Lx.skip G ((bs s).drop j') j' l c).2.1=N)/\0=0):=aJ ⟨j+1,rfl,by omega,t,aJ (by
     rw[h,Lx.skip,ng_ i] at g;exact⟨_,_,g⟩),rfl⟩
    clear g o h i p;go_wp2;go_roundw
    case rel=>first|exact f.out|(obtain⟨a,b,c,d,_⟩:=f.out;exact⟨a,b,c,d,by trivial⟩)|(obtain⟨a,b,c,d,e,_⟩:=f.out;exact⟨a,b,c,d,e,by trivial⟩)
    simp[intOf];omega
   obtain rfl:j=s.size:=by omega
   have q1:decide ((s.size:Int)<(s.size:Int))=O:=by simp
   have f:Hid (∃m:Nat,Ti Y (s.size:Int)=Z Y (m:Int)/\m<=s.size/\Hid (∃l c,(Lx.skip O ((bs s).drop m) m l c).2.1=N)/\0=0):=aJ ⟨s.size,rfl,bM _,aJ (by
    obtain⟨l,c,g⟩:=o.out;rw[Te (by rw[af];exact bM _)] at g ⊢
    exact⟨l,c,g⟩),rfl⟩
   clear o p;go_wp2;go_roundw
   case rel=>first|exact f.out|(obtain⟨a,b,c,d,_⟩:=f.out;exact⟨a,b,c,d,by trivial⟩)|(obtain⟨a,b,c,d,e,_⟩:=f.out;exact⟨a,b,c,d,e,by trivial⟩)
   simp[intOf];omega
  rw[ng_ n] at g;have F:((s[k].toNat:Int)==35)=O:=by rw[beq_eq_false_iff_ne];omega
  have f:Hid (SZ (Z Y (k:Int))=SA (Z Y (N:Int))):=aJ (by rw[<-g])
  clear g q r n;go_wp2;go_ret;exact⟨f.out,rfl⟩
 obtain rfl:k=s.size:=by omega
 have f:Hid (SZ (Z Y (s.size:Int))=SA (Z Y (N:Int))):=aJ (by
  obtain⟨l,c,g⟩:=o.out;rw[Te (by rw[af];exact bM _)] at g
  rw[<-g]
  rfl)
 have q1:¬(s.size:Int)<(s.size:Int):=by omega
 clear o;go_wp2;go_ret;exact⟨f.out,rfl⟩
theorem tO(s:ByteArray)(n:Nat)(w:TQ)(hs:s.size<=100000)(h:n<=s.size):TS TX 198 #[Q s,Z Y (n:Int)] w fun e w'=>(∃l c:Nat,e=SA (SD #[Z Y (l:Int),Z Y (c:Int)])/\l<=200000/\c<=200000)/\w'=w:=by
 go_enter func198,ntmps198
 go_wp2
 go_loopw [6,7,8] (fun v6 v7 v8 wr=>∃k l c:Nat,v6=Z Y (l:Int)/\v7=Z Y (c:Int)/\v8=Z Y (k:Int)/\k<=n/\l<=k+1/\c<=k+1/\wr=w) (fun _ _ v8 _=>n-(intOf v8).toNat)
 case atStart=>exact⟨0,1,1,rfl,rfl,rfl,bO _,by omega,by omega,rfl⟩
 obtain⟨k,l,c,rfl,rfl,rfl,hk,_,hc,rfl⟩:=hrel
 by_cases b:k<n
 ·have f:k<s.size:=by omega
  have i:(0:Int)<=(k:Int):=by omega
  have j:(k:Int)<(s.size:Int):=by omega
  have g:(k:Int)<(n:Int):=by omega
  have wk:SL.wrap ((k:Int)+1)=(k:Int)+1:=bV _ (by omega)
  have o:SL.wrap ((l:Int)+1)=(l:Int)+1:=bV _ (by omega)
  have m:SL.wrap ((c:Int)+1)=(c:Int)+1:=bV _ (by omega)
  by_cases a:s[k].toNat=10
  ·have d:((s[k].toNat:Int)==10)=G:=by rw[a];rfl
   clear a;go_wp2;go_roundw
   case rel=>exact⟨k+1,l+1,1,rfl,rfl,rfl,b,by omega,by omega,by trivial⟩
   simp[intOf];omega
  have d:((s[k].toNat:Int)==10)=O:=by rw[beq_eq_false_iff_ne];omega
  clear a;go_wp2;go_roundw
  case rel=>exact⟨k+1,l,c+1,rfl,rfl,rfl,b,by omega,by omega,by trivial⟩
  simp[intOf];omega
 have g:¬(k:Int)<(n:Int):=by omega
 go_wp2
 refine aP (v:=SD #[Z Y (l:Int),Z Y (c:Int)]) (by simp[results,results198,go_sem]) rfl ⟨⟨l,c,rfl,by omega,by omega⟩,rfl⟩
def tI(W:TQ)(v v':TR):Prop:=v'.ownBlock=v.ownBlock\/∃j,v'.ownBlock=X j/\W.heap.size<=j
section
variable {wB W w' : TQ} {g k : Nat} {A : Option TT} {c : Nat} {T : List IY} {a : Nat} {j : Jd} {sv : TR} {IH : List ByteArray}
theorem db{t:TV}{s:Nat}{n:Nat}{b:Nat}(g:IL W B e s v n xs)(f:W.heap[b]? =X (H cs t fz))(hne:e≠t):X b≠v.ownBlock:=by
 rcases g with⟨_,⟨rfl,_⟩|⟨q,cap,cur,rfl,_,d,_⟩⟩
 ·simp[S7]
 intro c;simp[S7] at c;subst c;rw[f] at d;have a:=bQ d;injection a with e1 e3 e4
 exact hne e3.symm
theorem JS.Kr(h:JS wB W g k A c T a j sv IH){n:Nat}{s:Nat}(hv:IL W wB.heap.size e s v n xs)(b:W.grownBy w' v.ownBlock)(l:e≠63)(p:146≠e):
  GP wB w' g A c T a/\w'.heap[k]? =X (H (ag j).toArray 63 (0,0)):=by
 have m:=h.gl
 have d:∀q,v.ownBlock=X q->wB.heap.size<=q:=fun q o=>(bU hv q o).1
 refine⟨⟨⟨b.os.trans h.gp.gr.os,b.tape.trans h.gp.gr.tape,b.output.trans h.gp.gr.output,bN h.gp.gr.size b.size,fun i f hne=>?_⟩,?_,h.gp.tk.grown hv p b,h.gp.JA,h.gp.lt⟩,?_⟩
 ·exact(b.block i (Nat.lt_of_lt_of_le f h.gp.gr.size) (fun e=>by have:=d i e.symm;omega)).trans (h.gp.gr.block i f hne)
 ·exact(b.block g (aQ h.gp.I2) (fun e=>by have:=d g e.symm;omega)).trans h.gp.I2
 exact(b.block k (aQ h.row) (db hv h.row l)).trans h.row
theorem bq{t:TV}{s:Nat}{n:Nat}(a:IL w B e s v n xs)(b:w.heap[k]? =X (H cs t fz))(hne:e≠t)(i:Nat)(u:TR):IL (w.setCell ⟨k,i,V⟩ u) B e s v n xs:=
 bT a (ay w k i u) (by
  cases hv:v.ownBlock with
  |none=>exact bX rfl
  |some q=>right;rw[<-hv];exact fun e=>db a b hne e.symm)
theorem GP.Oq(h:GP wB w g A c T a)(b:w.heap[k]? =X (H (ag j).toArray 63 (0,0)))(hk:wB.heap.size<=k)(hne:g≠k)(i:Nat)(u:TR):GP wB (w.setCell ⟨k,i,V⟩ u) g A c T a:=
 ⟨ie h.gr hk i u,(aL w ⟨k,i,V⟩ g u hne).trans h.I2,h.tk.JQ b (by decide) u,h.JA,h.lt⟩
theorem JS.gk(h:JS wB W g k A c T a j sv IH):g≠k:=by have:=h.gl;have:=h.kB;omega
theorem JS.KC(h:JS wB W g k A c T a j sv IH){x:ByteArray}(l:IL w' wB.heap.size 9 1 v' (j.IC.length+1) (ar j.IC++[Q x]))(d:W.grownBy w' (SO j.nA j.IC.length j.nc).ownBlock)(hs:tI W (SO j.nA j.IC.length j.nc) v'):
  ∃A' c',v'=U A' (j.IC.length+1) c'/\w'.cell? ⟨k,3,V⟩=X (U j.nA j.IC.length j.nc)/\w'.frozen? ⟨k,3,V⟩=O/\JS wB (w'.setCell ⟨k,3,V⟩ (U A' (j.IC.length+1) c')) g k A c T a {j with nA:=A',IC:=j.IC++[x],nc:=c'} sv IH:=by
 obtain⟨A',c',rfl,_,_,_⟩:=l.shape;obtain⟨m,hk⟩:=h.Kr h.IC d (by decide) (by decide)
 have i:(j.IC++[x]).length=j.IC.length+1:=by simp
 refine⟨A',c',rfl,by rw[aK w' k 3 _ _ _ hk];rfl,aN w' k 3 _ _ hk,⟨m.Oq hk h.kB h.gk 3 _,h.gl,h.kB,?_,bq (IL.grown h.IJ h.IC (by decide) d) hk (by decide) 3 _,?_,bq (IL.grown h.IK h.IC (by decide) d) hk (by decide) 3 _,bq (bT h.IH d ?_) hk (by decide) 3 _,?_⟩⟩
 ·rw[aO w' k 3 _ _ _ hk];simp[ag]
 ·show IL _ _ _ _ (U A' (j.IC++[x]).length c') (j.IC++[x]).length (ar (j.IC++[x]))
  rw[i,show ar (j.IC++[x])=ar j.IC++[Q x] by simp[ar]]
  exact bq l hk (by decide) 3 _
 ·rcases h.ap with e|e|e
  ·grind
  ·exact bX e
  exact bY (fun b=>e b.symm)
 show D0 (U A' (j.IC++[x]).length c') sv
 rw[i];rcases hs with e|⟨q,e,o⟩
 ·rcases h.ap with b|b|b
  ·exact bX (e.trans b)
  ·exact bY (bX b)
  exact bY (bY (by rw[e];exact b))
 cases hv:sv.ownBlock with
 |none=>exact bY (bX hv)
 |some n=>
  refine bY (bY ?_);rw[e,hv];intro f;injection f with f
  have:=(bU h.IH n hv).2
  omega
theorem JS.P7(h:JS wB W g k A c T a j sv IH){x:Int×Int}(d:IL w' wB.heap.size 241 2 v' (j.IK.length+1) (I8 j.IK++[Z Y x.1,Z E x.2]))(b:W.grownBy w' (SO j.lA j.IK.length j.lc).ownBlock):
  ∃A' c',v'=U A' (j.IK.length+1) c'/\w'.cell? ⟨k,12,V⟩=X (U j.lA j.IK.length j.lc)/\w'.frozen? ⟨k,12,V⟩=O/\JS wB (w'.setCell ⟨k,12,V⟩ (U A' (j.IK.length+1) c')) g k A c T a {j with lA:=A',IK:=j.IK++[x],lc:=c'} sv IH:=by
 obtain⟨A',c',rfl,_,_,_⟩:=d.shape;obtain⟨f,hk⟩:=h.Kr h.IK b (by decide) (by decide)
 have e:(j.IK++[x]).length=j.IK.length+1:=by simp
 refine⟨A',c',rfl,by rw[aK w' k 12 _ _ _ hk];rfl,aN w' k 12 _ _ hk,⟨f.Oq hk h.kB h.gk 12 _,h.gl,h.kB,?_,bq (IL.grown h.IJ h.IK (by decide) b) hk (by decide) 12 _,bq (IL.grown h.IC h.IK (by decide) b) hk (by decide) 12 _,?_,bq (IL.grown h.IH h.IK (by decide) b) hk (by decide) 12 _,h.ap⟩⟩
 ·rw[aO w' k 12 _ _ _ hk];simp[ag]
 show IL _ _ _ _ (U A' (j.IK++[x]).length c') (j.IK++[x]).length (I8 (j.IK++[x]))
 rw[e,show I8 (j.IK++[x])=I8 j.IK++[Z Y x.1,Z E x.2] by simp[I8]]
 exact bq d hk (by decide) 12 _
theorem JS.Ov(h:JS wB W g k A c T a j sv IH){x:ByteArray×ByteArray}(d:IL w' wB.heap.size 238 2 v' (j.IJ.length+1) (cH j.IJ++[Q x.1,Q x.2]))(b:W.grownBy w' (SO j.eA j.IJ.length j.ec).ownBlock):
  ∃A' c',v'=U A' (j.IJ.length+1) c'/\w'.cell? ⟨k,2,V⟩=X (U j.eA j.IJ.length j.ec)/\w'.frozen? ⟨k,2,V⟩=O/\JS wB (w'.setCell ⟨k,2,V⟩ (U A' (j.IJ.length+1) c')) g k A c T a {j with eA:=A',IJ:=j.IJ++[x],ec:=c'} sv IH:=by
 obtain⟨A',c',rfl,_,_,_⟩:=d.shape;obtain⟨f,hk⟩:=h.Kr h.IJ b (by decide) (by decide)
 have e:(j.IJ++[x]).length=j.IJ.length+1:=by simp
 refine⟨A',c',rfl,by rw[aK w' k 2 _ _ _ hk];rfl,aN w' k 2 _ _ hk,⟨f.Oq hk h.kB h.gk 2 _,h.gl,h.kB,?_,?_,bq (IL.grown h.IC h.IJ (by decide) b) hk (by decide) 2 _,bq (IL.grown h.IK h.IJ (by decide) b) hk (by decide) 2 _,bq (IL.grown h.IH h.IJ (by decide) b) hk (by decide) 2 _,h.ap⟩⟩
 ·rw[aO w' k 2 _ _ _ hk];simp[ag]
 show IL _ _ _ _ (U A' (j.IJ++[x]).length c') (j.IJ++[x]).length (cH (j.IJ++[x]))
 rw[e,show cH (j.IJ++[x])=cH j.IJ++[Q x.1,Q x.2] by simp[cH]]
 exact bq d hk (by decide) 2 _
end
def KP(w w':TQ):Prop:=∀(b:Nat) (cs:Array TR) (t:TV) (fz:Nat×Nat),w.heap[b]? =X (H cs t fz)->t≠144->t≠63->t≠238->t≠9->t≠241->w'.heap[b]? =X (H cs t fz)
theorem KP.trans{a b c:TQ}(h:KP a b)(k:KP b c):KP a c:=fun i cs t fz g h1 h2 d e f=>k i cs t fz (h i cs t fz g h1 h2 d e f) h1 h2 d e f
theorem KP.I7{a b:TQ}(h:ID a b):KP a b:=fun i cs t fz c _ _ _ _ _=>h.block c
theorem KP.Nj{a b:TQ}{row:Option Nat}(k:a.grownBy b row)(l:∀q,row=X q->∃cs t fz,a.heap[q]? =X (H cs t fz)/\(t=144\/t=63\/t=238\/t=9\/t=241)):KP a b:=fun i cs t fz c h1 h2 g h j=>by
 refine(k.block i (aQ c) (fun e=>?_)).trans c
 obtain⟨_,_,_,f,m⟩:=l i e.symm;rw[c] at f;have d:=bQ f;injection d with e1 e2 e3
 subst e2;rcases m with e|e|e|e|e
 ·exact h1 e
 ·exact h2 e
 ·exact g e
 ·exact h e
 exact j e
theorem KP.JG{T:List IY}(h:GP w w g A c T a)(b:GP w w' g A c T a'):KP w w':=
 KP.Nj b.gr (fun q e=>by injection e with e;subst e;exact⟨_,_,_,h.I2,bX rfl⟩)
theorem KP.ML{s:Nat}{n:Nat}(h:IL w B e s v n xs)(c:w.grownBy w' v.ownBlock)(b:e=238\/e=9\/e=241):KP w w':=
 KP.Nj c (fun q a=>by
  rcases h with⟨_,⟨rfl,_⟩|⟨g,cap,cur,rfl,_,d,_⟩⟩
  ·cases a
  simp[S7] at a;subst a;exact⟨_,_,_,d,by rcases b with e|e|e<;>simp[e]⟩)
theorem KP.set{j:Jd}(a:w.heap[k]? =X (H (ag j).toArray 63 (0,0)))(i:Nat)(v:TR):KP w (w.setCell ⟨k,i,V⟩ v):=by grind [KP.Nj,ay]
def aU(w wB:TQ)(g k:Nat)(A:Option TT)(c:Nat)(T:List IY)(r:List IY)(J:Jd)(sv:TR)(IH:List ByteArray)(e:TU)(w':TQ):Prop:=
 ∃a' j',e=SA (SD #[])/\r=T.drop a'/\cV j'=J/\JS wB w' g k A c T a' j' sv IH/\KP w w'
theorem E6{T:List IY}{j:Jd}{IH:List ByteArray}(h:JS wB w g k A c T a j sv IH)
  {t:IY} {r:List IY} (hm:Gm.name (decide (16<=j.IC.length)) (T.drop a)=X (t,r)) (hn:Gm.hasB j.IC (ab t.text)=O):
  TS TX 216 #[M (X ⟨g,0,V⟩),M (X ⟨k,0,V⟩)] w (aU w wB g k A c T r (cV {j with IC:=j.IC++[ab t.text]}) sv IH):=by
 obtain⟨ht,hl,hf⟩:=eB hm;have hd:=(aq ht).1;have hr:=(ax hd).2.2;have aa:j.IC.length<16:=by rw[decide_eq_false_iff_not] at hf;omega
 rw[hf] at hm;have P:=aJ (ti h.gp.Jc hm);have q1:decide ((16:Int)<=(j.IC.length:Int))=O:=by rw[decide_eq_false_iff_not];omega
 obtain⟨D,_⟩:=h.cell 3 (v:=U j.nA j.IC.length j.nc) rfl;have I:=aJ h;have HR:=aJ hr;have HL:Hid (j.IC.length<=16):=aJ (by omega)
 have s:=aJ hn
 clear h hm hn ht hl hf hd hr aa;unfold cZ at P;generalize ab t.text=x at *;go_enter func216,ntmps216;go_wp2_with fail;refine(P).mono ?_;rintro e w2 ⟨rfl,h2⟩;have q:=aJ (I.call h2);have J:=aJ (KP.JG I.gp.Jc h2);clear h2 P I D;obtain⟨f,d⟩:∃f,w2.alloc (H #[Z Y (t.IF:Int),Q x,Z Y (t.IM:Int),Z Y (t.Jb:Int)] 146)=f:=⟨_,rfl⟩
 have l:Hid (JS wB f g k A c T (a+1) j sv IH):=aJ (by rw[<-d];exact q.up ((ID.refl _).alloc _))
 have L:Hid (KP w f):=aJ (by rw[<-d];exact J.trans (KP.I7 ((ID.refl _).alloc _)))
 have i:Hid (f.heap[w2.heap.size]? =X (H #[Z Y (t.IF:Int),Q x,Z Y (t.IM:Int),Z Y (t.Jb:Int)] 146 (0,0))):=aJ (by rw[<-d];exact aM _ _)
 have y:=aJ d
 clear q d;go_upto_region 1 with fail
 rw[y.out];obtain⟨kt,z⟩:∃kt,w2.heap.size=kt:=⟨_,rfl⟩
 rw[z] at i ⊢;clear z y;obtain⟨D,f3⟩:=l.cell 3 (v:=U j.nA j.IC.length j.nc) rfl;have t1:=cr_ i 1 (Q x);have m:=fun n=>zU j.nA j.nc j.IC x (f.drewN n) (((l.up ((ID.refl f).drewN n)).IC.shape.elim fun A1 h1=>h1.elim fun c1 h2=>by injection h2.1 with R e2 S;subst R;exact h2.2.1.rs)) (by have:=HL.out;omega)
 rw[s.out] at m;have p:=aJ m;clear m;go_quiet ((go_at_call 142;exact Calls.quiet_of_same (p _)));have b:=aJ (l.up ((ID.refl f).drewN nq));have N:=aJ (L.trans (KP.I7 ((ID.refl f).drewN nq)));have o:Hid ((f.drewN nq).heap[kt]? =_):=aJ i;generalize f.drewN nq=w4 at *;clear l i D f3 t1 p s;obtain⟨D,f3⟩:=b.cell 3 (v:=U j.nA j.IC.length j.nc) rfl;have t1:=cr_ o 1 (Q x);have kl:k<w4.heap.size:=aQ b.row;have F:Hid (∀(W:TQ) (v':TR) (w':TQ),ID w4 W->IL w' wB.heap.size 9 1 v' (j.IC.length+1) (ar j.IC++[Q x])->W.grownBy w' (SO j.nA j.IC.length j.nc).ownBlock->tI W (SO j.nA j.IC.length j.nc) v'->
   ∃A' c',v'=U A' (j.IC.length+1) c'/\w'.cell? ⟨k,3,V⟩=X (U j.nA j.IC.length j.nc)/\w'.frozen? ⟨k,3,V⟩=O/\Hid (aU w wB g k A c T r (cV {j with IC:=j.IC++[x]}) sv IH (SA (SD #[])) (w'.setCell ⟨k,3,V⟩ (U A' (j.IC.length+1) c')))):=aJ (fun W v' w' h1 h2 h3 h4=>by
  obtain⟨A',c',R,e2,S,e4⟩:=(b.up h1).KC h2 h3 h4;exact⟨A',c',R,e2,S,aJ ⟨_,{j with nA:=A',IC:=j.IC++[x],nc:=c'},rfl,HR,rfl,e4,(N.trans ((KP.I7 h1).trans (KP.ML (b.up h1).IC h3 (by simp)))).trans (KP.set ((b.up h1).Kr (b.up h1).IC h3 (by decide) (by decide)).2 3 _)⟩⟩)
 have u:Hid (∀W,ID w4 W->IL W wB.heap.size 9 1 (U j.nA j.IC.length j.nc) j.IC.length (ar j.IC)/\wB.heap.size<=W.heap.size):=aJ (fun W B=>⟨(b.up B).IC,(b.up B).gp.gr.size⟩)
 clear b o;go_wp2;go_region_law ((refine ea _ (by rfl) _ _ 59 (by rfl) wB.heap.size 9 (Q ⟨#[]⟩) 1 16 underlying59 o5 rfl (by decide) (by decide) (U j.nA j.IC.length j.nc) j.IC.length (ar j.IC) (by rfl) (u _ aS).1 w4.heap.size 0 1 1 [Q x] (by rfl) (by first|exact dQ _ _ _|exact(dQ _ _ _).drew) rfl rfl (by have:=HL.out;omega) (u _ aS).2 ?_;intro v' w' B hg C;obtain⟨A',c',rfl,S,e4,HX⟩:=F _ _ _ aS B hg C;clear B hg C))
 all_goals (go_wp2;go_end0;exact HX)
theorem E1{T:List IY}{j:Jd}{IH:List ByteArray}(h:JS wB w g k A c T a j sv IH)
  {t:IY} {r z:List IY} {n:Nat} (hm:Gm.take 1 (T.drop a)=X (t,r)) (p:j.IK.length<5) (hs:Gm.JF t.text≠0) (i:Gm.num r=X (n,z)):
  TS TX 221 #[M (X ⟨g,0,V⟩),M (X ⟨k,0,V⟩)] w (aU w wB g k A c T z (cV {j with IK:=j.IK++[(Gm.JF t.text,(n:Int))]}) sv IH):=by
 have hd:=(aq hm).1
 have hr:=(ax hd).2.2
 have u:=M8.at_ h.gp.lt hd
 rw[hr] at i;have s:z=T.drop (a+1+1):=by
  obtain⟨_,S,_⟩:=ee i;exact(ax (aq S).1).2.2
 have L:Hid (TS TX 136 #[M (X ⟨g,0,V⟩),Z Y 1] w (eN w g A c T (cZ t) (a+1))):=aJ (jw h.gp.Jc hm)
 have HS:=aJ (fun W=>GB t.text u W)
 have J:=aJ (fun W (hW:GP W W g A c T (a+1))=>rK hW i)
 have q1:decide ((5:Int)<=(j.IK.length:Int))=O:=by rw[decide_eq_false_iff_not];omega
 have q2:(Gm.JF t.text==0)=O:=by rw[beq_eq_false_iff_ne];exact hs
 have C:=aJ h
 have HR:=aJ s
 have HL:Hid (j.IK.length<=5):=aJ (by omega)
 clear h hm i hd hr u s p hs;unfold cZ at L;generalize Gm.JF t.text=sg at *;generalize ab t.text=x at *;go_enter func221,ntmps221;go_wp2_with fail;refine(L.out).mono ?_;rintro e w2 ⟨rfl,h2⟩;have m:=aJ (C.out.call h2);have D:=aJ (KP.JG C.out.gp.Jc h2);clear h2 L C;obtain⟨y,d⟩:∃y,w2.alloc (H #[Z Y (t.IF:Int),Q x,Z Y (t.IM:Int),Z Y (t.Jb:Int)] 146)=y:=⟨_,rfl⟩
 have f:Hid (JS wB y g k A c T (a+1) j sv IH):=aJ (by rw[<-d];exact m.out.up ((ID.refl _).alloc _))
 have F:Hid (KP w y):=aJ (by rw[<-d];exact D.out.trans (KP.I7 ((ID.refl _).alloc _)))
 have l:Hid (y.heap[w2.heap.size]? =X (H #[Z Y (t.IF:Int),Q x,Z Y (t.IM:Int),Z Y (t.Jb:Int)] 146 (0,0))):=aJ (by rw[<-d];exact aM _ _)
 have o:=aJ d
 clear m d;go_upto_region 1 with fail
 rw[o.out];obtain⟨kt,q⟩:∃kt,w2.heap.size=kt:=⟨_,rfl⟩
 rw[q] at l ⊢;clear q o;obtain⟨N,_⟩:=f.out.cell 12 (v:=U j.lA j.IK.length j.lc) rfl;have t1:=cr_ l.out 1 (Q x);go_wp2_with fail;refine(HS.out _).mono ?_;rintro e w' ⟨rfl,rfl⟩;go_upto_region 6 with fail
 have B:Hid (∀(W:TQ) (v':TR) (w':TQ),JS wB W g k A c T (a+1+1) j sv IH->KP w W->IL w' wB.heap.size 241 2 v' (j.IK.length+1) (I8 j.IK++[Z Y sg,Z E (n:Int)])->W.grownBy w' (SO j.lA j.IK.length j.lc).ownBlock->
   ∃A' c',v'=U A' (j.IK.length+1) c'/\w'.cell? ⟨k,12,V⟩=X (U j.lA j.IK.length j.lc)/\w'.frozen? ⟨k,12,V⟩=O/\Hid (aU w wB g k A c T z (cV {j with IK:=j.IK++[(sg,(n:Int))]}) sv IH (SA (SD #[])) (w'.setCell ⟨k,12,V⟩ (U A' (j.IK.length+1) c')))):=aJ (fun W v' w' h1 hK h2 P=>by
  obtain⟨A',c',e1,e2,e3,e4⟩:=h1.P7 (x:=(sg,(n:Int))) h2 P;exact⟨A',c',e1,e2,e3,aJ ⟨_,{j with lA:=A',IK:=j.IK++[(sg,(n:Int))],lc:=c'},rfl,HR.out,rfl,e4,(hK.trans (KP.ML h1.IK P (by simp))).trans (KP.set (h1.Kr h1.IK P (by decide) (by decide)).2 12 _)⟩⟩)
 clear HS HR;go_region_law (first|((refine ea _ (by rfl) _ _ 61 (by rfl) wB.heap.size 241 (SF #[Z Y 0,Z E 0]) 2 16 underlying61 ta rfl (by decide) (by decide) (U j.lA j.IK.length j.lc) j.IK.length (I8 j.IK) (by rfl) (b.out.up aS).IK w5.heap.size 0 1 1 [Z Y sg,Z E (n:Int)] (by rfl) (by first|exact dQ _ _ _|exact(dQ _ _ _).drew) rfl rfl (by have:=HL.out;omega) (b.out.up aS).gp.gr.size ?_;intro v' w' ho hg R;obtain⟨A',c',rfl,e3,e4,HX⟩:=B.out _ _ _ (b.out.up aS) (I.out.trans (KP.I7 aS)) ho hg;clear ho hg R))|((go_simp;go_at_call 218;refine(J.out _ (f.out.gp.up aS).Jc).mono ?_;rintro e w5 ⟨rfl,p⟩;have I:=aJ ((F.out.trans (KP.I7 aS)).trans (KP.JG (f.out.gp.up aS).Jc p));have b:=aJ ((f.out.up aS).call p);have N:w5.cell? ⟨k,12,V⟩=X (U j.lA j.IK.length j.lc):=(b.out.cell 12 (v:=U j.lA j.IK.length j.lc) rfl).1;have aa:k<w5.heap.size:=aQ b.out.row;clear p)))
 all_goals (go_wp2_with fail;go_end0;exact HX.out)
theorem zS(t:List Nat)(b:∀x∈t,x<256)(h:t=Gm.J6\/t=Gm.Kl\/t=Gm.Ju\/t=Gm.Ka\/t=Gm.Jj\/t=Gm.Jm\/t=Gm.JJ\/t=Gm.Kb)(w:TQ):
  TS TX 141 #[Q (ab t)] w fun e w'=>e=SA (K G)/\w'=w:=by
 unfold Gm.J6 Gm.Kl Gm.Ju Gm.Ka Gm.Jj Gm.Jm Gm.JJ Gm.Kb at h
 by_cases h1:t=[114,117,110]
 ·have a:((ab t).toList==[114,117,110])=G:=by rw[h1];exact az [114,117,110]
  clear h h1;go_enter func141,ntmps141;go_wp2;go_ret;exact⟨rfl,rfl⟩
 have n1:((ab t).toList==[114,117,110])=O:=aC (m:=[114,117,110]) b (by decide) h1
 by_cases h2:t=[101,110,118]
 ·have a:((ab t).toList==[101,110,118])=G:=by rw[h2];exact az [101,110,118]
  clear h h2;go_enter func141,ntmps141;go_wp2;go_ret;exact⟨rfl,rfl⟩
 have n2:((ab t).toList==[101,110,118])=O:=aC (m:=[101,110,118]) b (by decide) h2
 by_cases c:t=[110,101,101,100,115]
 ·have a:((ab t).toList==[110,101,101,100,115])=G:=by rw[c];exact az [110,101,101,100,115]
  clear h c;go_enter func141,ntmps141;go_wp2;go_ret;exact⟨rfl,rfl⟩
 have n3:((ab t).toList==[110,101,101,100,115])=O:=aC (m:=[110,101,101,100,115]) b (by decide) c
 by_cases d:t=[114,101,97,100,121]
 ·have a:((ab t).toList==[114,101,97,100,121])=G:=by rw[d];exact az [114,101,97,100,121]
  clear h d;go_enter func141,ntmps141;go_wp2;go_ret;exact⟨rfl,rfl⟩
 have n4:((ab t).toList==[114,101,97,100,121])=O:=aC (m:=[114,101,97,100,121]) b (by decide) d
 by_cases f:t=[114,101,115,116,97,114,116]
 ·have a:((ab t).toList==[114,101,115,116,97,114,116])=G:=by rw[f];exact az [114,101,115,116,97,114,116]
  clear h f;go_enter func141,ntmps141;go_wp2;go_ret;exact⟨rfl,rfl⟩
 have k:((ab t).toList==[114,101,115,116,97,114,116])=O:=aC (m:=[114,101,115,116,97,114,116]) b (by decide) f
 by_cases g:t=[98,97,99,107,111,102,102]
 ·have a:((ab t).toList==[98,97,99,107,111,102,102])=G:=by rw[g];exact az [98,97,99,107,111,102,102]
  clear h g;go_enter func141,ntmps141;go_wp2;go_ret;exact⟨rfl,rfl⟩
 have l:((ab t).toList==[98,97,99,107,111,102,102])=O:=aC (m:=[98,97,99,107,111,102,102]) b (by decide) g
 by_cases i:t=[98,117,114,115,116]
 ·have a:((ab t).toList==[98,117,114,115,116])=G:=by rw[i];exact az [98,117,114,115,116]
  clear h i;go_enter func141,ntmps141;go_wp2;go_ret;exact⟨rfl,rfl⟩
 have n7:((ab t).toList==[98,117,114,115,116])=O:=aC (m:=[98,117,114,115,116]) b (by decide) i
 by_cases j:t=[115,116,111,112]
 ·have a:((ab t).toList==[115,116,111,112])=G:=by rw[j];exact az [115,116,111,112]
  clear h j;go_enter func141,ntmps141;go_wp2;go_ret;exact⟨rfl,rfl⟩
 exfalso;rcases h with h|h|h|h|h|h|h|h
 ·exact h1 h
 ·exact h2 h
 ·exact c h
 ·exact d h
 ·exact f h
 ·exact g h
 ·exact i h
 exact j h
theorem GC{T:List IY}(h:GP w w g A c T a){t:IY}{r:List IY}(hm:Gm.take 1 (T.drop a)=X (t,r))(b:Gm.Ko t.text≠0):
  TS TX 217 #[M (X ⟨g,0,V⟩)] w (eN w g A c T (Z Y (Gm.Ko t.text)) (a+1)):=by
 have d:Hid (TS TX 136 #[M (X ⟨g,0,V⟩),Z Y 1] w (eN w g A c T (cZ t) (a+1))):=aJ (jw h hm)
 have i:=M8.at_ h.lt (aq hm).1
 unfold cZ at d;clear h hm;unfold Gm.Ko at b ⊢
 by_cases h1:t.text=[97,108,119,97,121,115]
 ·rw[ps_ h1];have k:((ab t.text).toList==[97,108,119,97,121,115])=G:=by rw[h1];exact az [97,108,119,97,121,115]
  clear b i;clear h1;go_enter func217,ntmps217;go_wp2_with fail;refine(d).mono ?_;rintro e w2 ⟨rfl,h2⟩;have f:=aJ (h2.up ((ID.refl _).alloc (H #[Z Y (t.IF:Int),Q (ab t.text),Z Y (t.IM:Int),Z Y (t.Jb:Int)] 146)));clear h2 d;go_wp2;go_ret;exact⟨rfl,f⟩
 rw[ng_ h1] at b ⊢;have n1:((ab t.text).toList==[97,108,119,97,121,115])=O:=aC (m:=[97,108,119,97,121,115]) i (by decide) h1
 by_cases h2:t.text=[111,110,45,102,97,105,108,117,114,101]
 ·rw[ps_ h2];have k:((ab t.text).toList==[111,110,45,102,97,105,108,117,114,101])=G:=by rw[h2];exact az [111,110,45,102,97,105,108,117,114,101]
  clear b i;clear h2;go_enter func217,ntmps217;go_wp2_with fail;refine(d).mono ?_;rintro e w2 ⟨rfl,h2⟩;have f:=aJ (h2.up ((ID.refl _).alloc (H #[Z Y (t.IF:Int),Q (ab t.text),Z Y (t.IM:Int),Z Y (t.Jb:Int)] 146)));clear h2 d;go_wp2;go_ret;exact⟨rfl,f⟩
 rw[ng_ h2] at b ⊢;have n2:((ab t.text).toList==[111,110,45,102,97,105,108,117,114,101])=O:=aC (m:=[111,110,45,102,97,105,108,117,114,101]) i (by decide) h2
 by_cases j:t.text=[110,101,118,101,114]
 ·rw[ps_ j];have k:((ab t.text).toList==[110,101,118,101,114])=G:=by rw[j];exact az [110,101,118,101,114]
  clear b i;clear j;go_enter func217,ntmps217;go_wp2_with fail;refine(d).mono ?_;rintro e w2 ⟨rfl,h2⟩;have f:=aJ (h2.up ((ID.refl _).alloc (H #[Z Y (t.IF:Int),Q (ab t.text),Z Y (t.IM:Int),Z Y (t.Jb:Int)] 146)));clear h2 d;go_wp2;go_ret;exact⟨rfl,f⟩
 rw[ng_ j] at b ⊢;exact absurd rfl b
theorem E0(p:ByteArray×ByteArray)(c:Nat)(x:ByteArray)(w:TQ)(d:w.cell? ⟨c,1,V⟩=X (Q x))(hne:p.1≠x):
  TS TX 262 #[SF #[Q p.1,Q p.2],M (X ⟨c,0,V⟩)] w (RO_ (K O) w):=by
 have q1:(p.1.toList==x.toList)=O:=nI hne
 obtain⟨a,b⟩:=p;have e:c<w.heap.size:=block_lt_of_cell d;clear hne;go_enter func262,ntmps262;go_wp2;go_ret;exact⟨rfl,(ID.refl w).alloc _⟩
theorem Gy(A:Option TT)(c g:Nat)(x:ByteArray)(l:List (ByteArray×ByteArray))(w:TQ)(m:Rs w A (cH l))(n:w.cell? ⟨g,1,V⟩=X (Q x))(hs:∀i,i<l.length->(l.getD i (⟨#[]⟩,⟨#[]⟩)).1≠x)(s:l.length<=1000000):
  TS TX 281 #[U A l.length c,.func (.func 262) #[] #[M (X ⟨g,0,V⟩)]] w (RO_ (Z Y (-1)) w):=by
 have p:=aJ m
 have q:=aJ hs
 have f:=aJ n
 clear m hs n;go_enter func281,ntmps281;go_wp2;go_loopw [8] (fun i wr=>∃k:Nat,k<=l.length/\i=Z Y k/\Hid (ID w wr)) (fun i _=>l.length-(intOf i).toNat)
 case atStart=>exact⟨0,bO _,rfl,aJ (ID.refl _)⟩
 obtain⟨k,hk,rfl,d⟩:=hrel
 by_cases a:k<l.length
 ·obtain⟨b,off,rfl,_,hc⟩:=(p.up d).at_ (by rw[eF];omega)
  obtain⟨h,j⟩:=eW l k a;have r:=hc _ _ h;have c1:wr.cell? ⟨b,off+k*2+1,V⟩=X (Q (l.getD k (⟨#[]⟩,⟨#[]⟩)).2):=by rw[SV];exact hc _ _ j
  have f:=aJ (E0 (l.getD k (⟨#[]⟩,⟨#[]⟩)) g x wr (d.cell f) (q k a))
  clear hc h j;generalize l.getD k (⟨#[]⟩,⟨#[]⟩)=y at *;go_wp2_with fail;refine(f).mono ?_;rintro e w' ⟨rfl,hd⟩;have o:=aJ (d.up hd);clear hd r c1;go_wp2;go_roundw
  case rel=>exact⟨k+1,by omega,by go_num,o⟩
  simp[intOf];omega
 obtain rfl:k=l.length:=by omega
 go_wp2
 go_ret;exact⟨rfl,d⟩
theorem Gz(A:Option TT)(c a:Nat)(x:ByteArray)(l:List (ByteArray×ByteArray))(w:TQ)(d:Rs w A (cH l))(h:w.cell? ⟨a,1,V⟩=X (Q x))(hs:∀i,i<l.length->(l.getD i (⟨#[]⟩,⟨#[]⟩)).1≠x)(g:l.length<=1000000):
  TS TX 261 #[U A l.length c,.func (.func 262) #[] #[M (X ⟨a,0,V⟩)]] w (RO_ (K O) w):=by
 have b:=aJ (Gy A c a x l w d h hs g)
 clear d hs;go_enter func261,ntmps261;go_wp2_with fail;refine(b).mono ?_;rintro e w' ⟨rfl,hd⟩;have f:=aJ hd;clear hd b;go_wp2;go_ret;exact⟨rfl,f⟩
theorem C2{l:List (ByteArray×ByteArray)}{x:ByteArray}(h:Gm.hasB (l.map Prod.fst) x=O):∀i,i<l.length->(l.getD i (⟨#[]⟩,⟨#[]⟩)).1≠x:=by grind [Gm.hasB]
theorem GA{T:List IY}{j:Jd}{IH:List ByteArray}(h:JS wB w g k A c T a j sv IH)
  {r:List IY} {J:Jd} (hm:Gm.var (cV j) (T.drop a)=X (J,r)):
  TS TX 213 #[M (X ⟨g,0,V⟩),M (X ⟨k,0,V⟩)] w (aU w wB g k A c T r (cV J) sv IH):=by
 unfold Gm.var at hm;rw[show(cV j).IJ=j.IJ from rfl] at hm
 cases s:Gm.name (decide (16<=j.IJ.length)) (T.drop a) with
 |none=>rw[s] at hm;cases hm
 |some p=>
 obtain⟨t,r1⟩:=p;rw[s] at hm;simp only at hm;cases hh:Gm.hasB (j.IJ.map Prod.fst) (ab t.text) with
 |true=>rw[hh] at hm;simp at hm
 |false=>
 rw[hh] at hm;simp only[if_false,Bool.false_eq_true] at hm;cases b:Gm.sign 61 r1 with
 |none=>rw[b] at hm;cases hm
 |some r2=>
 rw[b] at hm;simp only at hm;cases d:Gm.text 3 512 r2 with
 |none=>rw[d] at hm;cases hm
 |some q=>
 obtain⟨v,r3⟩:=q;rw[d] at hm;simp only at hm;injection hm with hm
 injection hm with hJ hr
 obtain⟨ht,hl,hf⟩:=eB s;have aa:=(ax (aq ht).1).2.2;have ai:j.IJ.length<16:=by rw[decide_eq_false_iff_not] at hf;omega
 rw[hf] at s;rw[aa] at b;have ac:r2=T.drop (a+1+1):=by
  obtain⟨_,aj,_⟩:=kM b;exact(ax aj).2.2
 rw[ac] at d;have ad:r3=T.drop (a+1+1+1):=by
  obtain⟨_,al,_⟩:=fK d;exact(ax (aq al).1).2.2
 have HN:=aJ (ti h.gp.Jc s)
 have N:=aJ (C2 hh)
 have P:=aJ (fun W (hW:GP W W g A c T (a+1))=>zP hW 61 (by decide) b ⟨#[61]⟩ rfl)
 have ah:Hid (∀W,GP W W g A c T (a+1+1)->TS TX 212 #[M (X ⟨g,0,V⟩),Z Y 3,Z Y 512] W (eN W g A c T (Q v) (a+1+1+1))):=aJ (fun W hW=>tg hW d)
 have q1:decide ((16:Int)<=(j.IJ.length:Int))=O:=by rw[decide_eq_false_iff_not];omega
 obtain⟨c2,_⟩:=h.cell 2 (v:=U j.eA j.IJ.length j.ec) rfl;have HJ:=aJ h;have HR:Hid (r=T.drop (a+1+1+1)):=aJ (hr▸ad);have HL:Hid (j.IJ.length<=16):=aJ (by omega)
 have D:Hid (cV J=cV {j with IJ:=j.IJ++[(ab t.text,v)]}):=aJ (by rw[<-hJ];rfl)
 clear h s hh b d hJ hr ht hl hf aa ai ac ad;unfold cZ at HN;generalize ab t.text=x at *;go_enter func213,ntmps213;go_wp2_with fail;refine(HN.out).mono ?_;rintro e w2 ⟨rfl,h2⟩;have C:=aJ (HJ.out.call h2);have F:=aJ (KP.JG HJ.out.gp.Jc h2);clear h2 HN HJ c2;obtain⟨u,m⟩:∃u,w2.alloc (H #[Z Y (t.IF:Int),Q x,Z Y (t.IM:Int),Z Y (t.Jb:Int)] 146)=u:=⟨_,rfl⟩
 have o:Hid (JS wB u g k A c T (a+1) j sv IH):=aJ (by rw[<-m];exact C.out.up ((ID.refl _).alloc _))
 have I:Hid (KP w u):=aJ (by rw[<-m];exact F.out.trans (KP.I7 ((ID.refl _).alloc _)))
 have n:Hid (u.heap[w2.heap.size]? =X (H #[Z Y (t.IF:Int),Q x,Z Y (t.IM:Int),Z Y (t.Jb:Int)] 146 (0,0))):=aJ (by rw[<-m];exact aM _ _)
 have R:=aJ m
 clear C F m;go_upto_region 1 with fail
 rw[R.out];obtain⟨kt,S⟩:∃kt,w2.heap.size=kt:=⟨_,rfl⟩
 rw[S] at n ⊢;clear S R;obtain⟨c2,f2⟩:=o.out.cell 2 (v:=U j.eA j.IJ.length j.ec) rfl;have t1:=cr_ n.out 1 (Q x);have B:=aJ (Gz j.eA j.ec kt x j.IJ u (o.out.IJ.shape.elim fun A1 h1=>h1.elim fun c1 h2=>by injection h2.1 with e1 e2 e3;subst e1;exact h2.2.1.rs) t1 N.out (by have:=HL.out;omega))
 go_wp2_with fail;refine(B.out).mono ?_;rintro e w4 ⟨rfl,hd⟩;have f:=aJ (o.out.up hd);have L:=aJ (I.out.trans (KP.I7 hd));have y:=aJ (hd.block n.out);clear hd o I n c2 f2 t1 B N;go_wp2_with fail;refine(P.out _ f.out.gp.Jc).mono ?_;rintro e _ ⟨rfl,h5⟩;have i:=aJ (f.out.call h5);have af:=aJ (L.out.trans (KP.JG f.out.gp.Jc h5));have z:=aJ (KP.JG f.out.gp.Jc h5 _ _ _ _ y.out (by decide) (by decide) (by decide) (by decide) (by decide))
 clear h5 f L y P;go_upto_region 4 with fail
 obtain⟨c2,f2⟩:=i.out.cell 2 (v:=U j.eA j.IJ.length j.ec) rfl;have t1:=cr_ z.out 1 (Q x);have ae:Hid (∀(W:TQ) (v':TR) (w':TQ),JS wB W g k A c T (a+1+1+1) j sv IH->KP w W->IL w' wB.heap.size 238 2 v' (j.IJ.length+1) (cH j.IJ++[Q x,Q v])->W.grownBy w' (SO j.eA j.IJ.length j.ec).ownBlock->
   ∃A' c',v'=U A' (j.IJ.length+1) c'/\w'.cell? ⟨k,2,V⟩=X (U j.eA j.IJ.length j.ec)/\w'.frozen? ⟨k,2,V⟩=O/\Hid (aU w wB g k A c T r (cV J) sv IH (SA (SD #[])) (w'.setCell ⟨k,2,V⟩ (U A' (j.IJ.length+1) c')))):=aJ (fun W v' w' h1 hK h2 h3=>by
  obtain⟨A',c',e1,e2,e3,e4⟩:=h1.Ov (x:=(x,v)) h2 h3;exact⟨A',c',e1,e2,e3,aJ ⟨_,{j with eA:=A',IJ:=j.IJ++[(x,v)],ec:=c'},rfl,HR.out,D.out.symm,e4,(hK.trans (KP.ML h1.IJ h3 (by simp))).trans (KP.set (h1.Kr h1.IJ h3 (by decide) (by decide)).2 2 _)⟩⟩)
 clear HR D;go_region_law (first|((refine ea _ (by rfl) _ _ 58 (by rfl) wB.heap.size 238 (SF #[Q ⟨#[]⟩,Q ⟨#[]⟩]) 2 32 underlying58 xb rfl (by decide) (by decide) (U j.eA j.IJ.length j.ec) j.IJ.length (cH j.IJ) (by rfl) (l.out.up aS).IJ w6.heap.size 0 1 1 [Q x,Q v] (by rfl) (by first|exact dQ _ _ _|exact(dQ _ _ _).drew) rfl rfl (by have:=HL.out;omega) (l.out.up aS).gp.gr.size ?_;intro v' w' ho hg ak;obtain⟨A',c',rfl,e3,e4,HX⟩:=ae.out _ _ _ (l.out.up aS) (ag.out.trans (KP.I7 aS)) ho hg;clear ho hg ak))|((go_simp;go_at_call 212;refine(ah.out _ (i.out.gp.up aS).Jc).mono ?_;rintro e w6 ⟨rfl,h6⟩;have ag:=aJ ((af.out.trans (KP.I7 aS)).trans (KP.JG (i.out.gp.up aS).Jc h6));have l:=aJ ((i.out.up aS).call h6);have c2:w6.cell? ⟨k,2,V⟩=X (U j.eA j.IJ.length j.ec):=(l.out.cell 2 (v:=U j.eA j.IJ.length j.ec) rfl).1;have t1:=cr_ (KP.JG (i.out.gp.up aS).Jc h6 _ _ _ _ z.out (by decide) (by decide) (by decide) (by decide) (by decide)) 1 (Q x);have am:k<w6.heap.size:=aQ l.out.row;clear h6)))
 all_goals (go_wp2_with fail;go_end0;exact HX.out)
theorem xl{T:List IY}{j:Jd}{IH:List ByteArray}(h:JS wB w g k A c T a j sv IH)
  {r:List IY} (hm:Gm.text 3 512 (T.drop a)=X (s,r)):
  TS TX 143 #[M (X ⟨g,0,V⟩),Q ⟨#[114,117,110]⟩,M (X ⟨k,0,V⟩)] w (aU w wB g k A c T r (cV ({j with run:=s})) sv IH):=by
 have R:r=T.drop (a+1):=by
  obtain⟨_,F,_⟩:=fK hm;exact(ax (aq F).1).2.2
 have z:Hid (∀W,GP W W g A c T a->TS TX 212 #[M (X ⟨g,0,V⟩),Z Y 3,Z Y 512] W (eN W g A c T (Q s) (a+1))):=aJ (fun W P=>tg P hm)
 have I:=aJ h
 obtain⟨o,b⟩:∃o,(w.alloc (H #[M (X ⟨g,0,V⟩)] 142)).alloc (H #[M (X ⟨k,0,V⟩)] 256)=o:=⟨_,rfl⟩
 have d:Hid (JS wB o g k A c T a j sv IH):=aJ (by rw[<-b];exact I.up (((ID.refl _).alloc _).alloc _))
 have x:Hid (KP w o):=aJ (by rw[<-b];exact KP.I7 (((ID.refl _).alloc _).alloc _))
 have m:Hid (o.heap[w.heap.size]? =X (H #[M (X ⟨g,0,V⟩)] 142 (0,0))):=aJ (by rw[<-b];exact((ID.refl _).alloc _).block (aM _ _))
 have i:Hid (o.heap[w.heap.size+1]? =X (H #[M (X ⟨k,0,V⟩)] 256 (0,0))):=aJ (by rw[<-b];have:=aM (w.alloc (H #[M (X ⟨g,0,V⟩)] 142)) (H #[M (X ⟨k,0,V⟩)] 256);rwa [Ta] at this)
 have B:=aJ b
 clear b;go_enter func143,ntmps143;go_upto_region 3 with fail
 rw[B.out];have l:=aJ (aQ I.row);obtain⟨kp,D⟩:∃kp,w.heap.size=kp:=⟨_,rfl⟩
 rw[D] at m i l ⊢;obtain⟨kj,C⟩:∃kj,kp+1=kj:=⟨_,rfl⟩
 rw[C] at i ⊢;have n1:kp≠k:=by have:=l.out;omega
 have n2:k≠kp:=SS n1
 have n3:kj≠k:=by have:=l.out;omega
 have n4:k≠kj:=SS n3
 have cp:=cr_ m 0 (M (X ⟨g,0,V⟩))
 have N:=cr_ i 0 (M (X ⟨k,0,V⟩))
 go_region_held3 (fun W'=>W'.cell? ⟨kp,0,V⟩=X (M (X ⟨g,0,V⟩))/\W'.cell? ⟨kj,0,V⟩=X (M (X ⟨k,0,V⟩))) (go_keep) ((go_simp;go_at_call 212;refine(z _ (d.gp.up aS).Jc).mono ?_;rintro e v1 ⟨rfl,h2⟩;have f:=aJ ((d.up aS).call h2);have p:=aJ ((x.trans (KP.I7 aS)).trans (KP.JG (d.gp.up aS).Jc h2));have q:=aJ (KP.JG (d.gp.up aS).Jc h2 _ _ _ _ m (by decide) (by decide) (by decide) (by decide) (by decide));have t:=aJ (KP.JG (d.gp.up aS).Jc h2 _ _ _ _ i (by decide) (by decide) (by decide) (by decide) (by decide));have cp:=cr_ q 0 (M (X ⟨g,0,V⟩));have N:=cr_ t 0 (M (X ⟨k,0,V⟩));have S:v1.cell? ⟨k,1,V⟩=X (Q j.run):=(f.cell 1 rfl).1;have fi:v1.frozen? ⟨k,1,V⟩=O:=(f.cell 1 (v:=Q j.run) rfl).2;clear h2))
 obtain⟨w2,n⟩:∃L,v1.setCell ⟨k,1,V⟩ (Q s)=L:=⟨_,rfl⟩
 have u:Hid (JS wB w2 g k A c T (a+1) ({j with run:=s}) sv IH):=aJ (by rw[<-n];exact f.set 1 (Q s) rfl ⟨rfl,rfl,rfl⟩ ⟨rfl,rfl,rfl⟩ ⟨rfl,rfl,rfl⟩)
 have y:Hid (KP w w2):=aJ (by rw[<-n];exact p.trans (KP.set f.row 1 _))
 rw[n];have J:Hid (aU w wB g k A c T r (cV ({j with run:=s})) sv IH (SA (SD #[])) w2):=aJ ⟨_,{j with run:=s},rfl,R,rfl,u,y⟩
 go_wp2
 go_end0
 exact J
theorem rL{T:List IY}{j:Jd}{IH:List ByteArray}(h:JS wB w g k A c T a j sv IH)
  {r:List IY} (hm:Gm.text 4 128 (T.drop a)=X (s,r)):
  TS TX 143 #[M (X ⟨g,0,V⟩),Q ⟨#[114,101,97,100,121]⟩,M (X ⟨k,0,V⟩)] w (aU w wB g k A c T r (cV ({j with ready:=s,IQ:=G})) sv IH):=by
 have hr:r=T.drop (a+1):=by
  obtain⟨_,I,_⟩:=fK hm;exact(ax (aq I).1).2.2
 have B:Hid (∀W,GP W W g A c T a->TS TX 212 #[M (X ⟨g,0,V⟩),Z Y 4,Z Y 128] W (eN W g A c T (Q s) (a+1))):=aJ (fun W hW=>tg hW hm)
 have J:=aJ h
 obtain⟨p,b⟩:∃p,(w.alloc (H #[M (X ⟨g,0,V⟩)] 142)).alloc (H #[M (X ⟨k,0,V⟩)] 256)=p:=⟨_,rfl⟩
 have d:Hid (JS wB p g k A c T a j sv IH):=aJ (by rw[<-b];exact J.up (((ID.refl _).alloc _).alloc _))
 have x:Hid (KP w p):=aJ (by rw[<-b];exact KP.I7 (((ID.refl _).alloc _).alloc _))
 have o:Hid (p.heap[w.heap.size]? =X (H #[M (X ⟨g,0,V⟩)] 142 (0,0))):=aJ (by rw[<-b];exact((ID.refl _).alloc _).block (aM _ _))
 have i:Hid (p.heap[w.heap.size+1]? =X (H #[M (X ⟨k,0,V⟩)] 256 (0,0))):=aJ (by rw[<-b];have:=aM (w.alloc (H #[M (X ⟨g,0,V⟩)] 142)) (H #[M (X ⟨k,0,V⟩)] 256);rwa [Ta] at this)
 have C:=aJ b
 clear b;go_enter func143,ntmps143;go_upto_region 9 with fail
 rw[C.out];have n:=aJ (aQ J.row);obtain⟨kp,F⟩:∃kp,w.heap.size=kp:=⟨_,rfl⟩
 rw[F] at o i n ⊢;obtain⟨kj,D⟩:∃kj,kp+1=kj:=⟨_,rfl⟩
 rw[D] at i ⊢;have n1:kp≠k:=by have:=n.out;omega
 have n2:k≠kp:=SS n1
 have n3:kj≠k:=by have:=n.out;omega
 have n4:k≠kj:=SS n3
 have cp:=cr_ o 0 (M (X ⟨g,0,V⟩))
 have L:=cr_ i 0 (M (X ⟨k,0,V⟩))
 go_region_held3 (fun W'=>W'.cell? ⟨kp,0,V⟩=X (M (X ⟨g,0,V⟩))/\W'.cell? ⟨kj,0,V⟩=X (M (X ⟨k,0,V⟩))) (go_keep) ((go_simp;go_at_call 212;refine(B _ (d.gp.up aS).Jc).mono ?_;rintro e v1 ⟨rfl,h2⟩;have f:=aJ ((d.up aS).call h2);have t:=aJ ((x.trans (KP.I7 aS)).trans (KP.JG (d.gp.up aS).Jc h2));have u:=aJ (KP.JG (d.gp.up aS).Jc h2 _ _ _ _ o (by decide) (by decide) (by decide) (by decide) (by decide));have q:=aJ (KP.JG (d.gp.up aS).Jc h2 _ _ _ _ i (by decide) (by decide) (by decide) (by decide) (by decide));have cp:=cr_ u 0 (M (X ⟨g,0,V⟩));have L:=cr_ q 0 (M (X ⟨k,0,V⟩));have R:v1.cell? ⟨k,5,V⟩=X (Q j.ready):=(f.cell 5 rfl).1;have S:v1.frozen? ⟨k,5,V⟩=O:=(f.cell 5 (v:=Q j.ready) rfl).2;clear h2))
 obtain⟨w2,l⟩:∃P,v1.setCell ⟨k,5,V⟩ (Q s)=P:=⟨_,rfl⟩
 have m:Hid (JS wB w2 g k A c T (a+1) ({j with ready:=s}) sv IH):=aJ (by rw[<-l];exact f.set 5 (Q s) rfl ⟨rfl,rfl,rfl⟩ ⟨rfl,rfl,rfl⟩ ⟨rfl,rfl,rfl⟩)
 have y:Hid (KP w w2):=aJ (by rw[<-l];exact t.trans (KP.set f.row 5 _))
 have z:Hid (w2.heap[kj]? =X (H #[M (X ⟨k,0,V⟩)] 256 (0,0))):=aJ (by rw[<-l];exact(aL v1 ⟨k,5,V⟩ kj (Q s) n3).trans q)
 rw[l];have L:=cr_ z 0 (M (X ⟨k,0,V⟩));obtain⟨R,S⟩:=m.cell 4 (v:=K j.IQ) rfl;have N:Hid (aU w wB g k A c T r (cV ({j with ready:=s,IQ:=G})) sv IH (SA (SD #[])) (w2.setCell ⟨k,4,V⟩ (K G))):=aJ ⟨_,{j with ready:=s,IQ:=G},rfl,hr,rfl,m.set 4 (K G) rfl ⟨rfl,rfl,rfl⟩ ⟨rfl,rfl,rfl⟩ ⟨rfl,rfl,rfl⟩,y.trans (KP.set m.row 4 _)⟩
 go_wp2
 go_end0
 exact N
theorem nY{T:List IY}{j:Jd}{IH:List ByteArray}(h:JS wB w g k A c T a j sv IH)
  {t:IY} {r:List IY} (hm:Gm.take 1 (T.drop a)=X (t,r)) (P:Gm.Ko t.text≠0):
  TS TX 143 #[M (X ⟨g,0,V⟩),Q ⟨#[114,101,115,116,97,114,116]⟩,M (X ⟨k,0,V⟩)] w (aU w wB g k A c T r (cV ({j with IE:=Gm.Ko t.text})) sv IH):=by
 have R:r=T.drop (a+1):=(ax (aq hm).1).2.2
 have z:=aJ (fun W (N:GP W W g A c T a)=>GC N hm P)
 have F:=aJ h
 obtain⟨o,b⟩:∃o,(w.alloc (H #[M (X ⟨g,0,V⟩)] 142)).alloc (H #[M (X ⟨k,0,V⟩)] 256)=o:=⟨_,rfl⟩
 have d:Hid (JS wB o g k A c T a j sv IH):=aJ (by rw[<-b];exact F.up (((ID.refl _).alloc _).alloc _))
 have x:Hid (KP w o):=aJ (by rw[<-b];exact KP.I7 (((ID.refl _).alloc _).alloc _))
 have m:Hid (o.heap[w.heap.size]? =X (H #[M (X ⟨g,0,V⟩)] 142 (0,0))):=aJ (by rw[<-b];exact((ID.refl _).alloc _).block (aM _ _))
 have i:Hid (o.heap[w.heap.size+1]? =X (H #[M (X ⟨k,0,V⟩)] 256 (0,0))):=aJ (by rw[<-b];have:=aM (w.alloc (H #[M (X ⟨g,0,V⟩)] 142)) (H #[M (X ⟨k,0,V⟩)] 256);rwa [Ta] at this)
 have B:=aJ b
 clear b;go_enter func143,ntmps143;go_upto_region 12 with fail
 rw[B.out];have l:=aJ (aQ F.row);obtain⟨kp,D⟩:∃kp,w.heap.size=kp:=⟨_,rfl⟩
 rw[D] at m i l ⊢;obtain⟨kj,C⟩:∃kj,kp+1=kj:=⟨_,rfl⟩
 rw[C] at i ⊢;have n1:kp≠k:=by have:=l.out;omega
 have n2:k≠kp:=SS n1
 have n3:kj≠k:=by have:=l.out;omega
 have n4:k≠kj:=SS n3
 have cp:=cr_ m 0 (M (X ⟨g,0,V⟩))
 have L:=cr_ i 0 (M (X ⟨k,0,V⟩))
 go_region_held3 (fun W'=>W'.cell? ⟨kp,0,V⟩=X (M (X ⟨g,0,V⟩))/\W'.cell? ⟨kj,0,V⟩=X (M (X ⟨k,0,V⟩))) (go_keep) ((go_simp;go_at_call 217;refine(z _ (d.gp.up aS).Jc).mono ?_;rintro e v1 ⟨rfl,h2⟩;have f:=aJ ((d.up aS).call h2);have p:=aJ ((x.trans (KP.I7 aS)).trans (KP.JG (d.gp.up aS).Jc h2));have q:=aJ (KP.JG (d.gp.up aS).Jc h2 _ _ _ _ m (by decide) (by decide) (by decide) (by decide) (by decide));have s:=aJ (KP.JG (d.gp.up aS).Jc h2 _ _ _ _ i (by decide) (by decide) (by decide) (by decide) (by decide));have cp:=cr_ q 0 (M (X ⟨g,0,V⟩));have L:=cr_ s 0 (M (X ⟨k,0,V⟩));have S:v1.cell? ⟨k,6,V⟩=X (Z Y j.IE):=(f.cell 6 rfl).1;have fi:v1.frozen? ⟨k,6,V⟩=O:=(f.cell 6 (v:=Z Y j.IE) rfl).2;clear h2))
 obtain⟨w2,n⟩:∃J,v1.setCell ⟨k,6,V⟩ (Z Y (Gm.Ko t.text))=J:=⟨_,rfl⟩
 have u:Hid (JS wB w2 g k A c T (a+1) ({j with IE:=Gm.Ko t.text}) sv IH):=aJ (by rw[<-n];exact f.set 6 (Z Y (Gm.Ko t.text)) rfl ⟨rfl,rfl,rfl⟩ ⟨rfl,rfl,rfl⟩ ⟨rfl,rfl,rfl⟩)
 have y:Hid (KP w w2):=aJ (by rw[<-n];exact p.trans (KP.set f.row 6 _))
 rw[n];have I:Hid (aU w wB g k A c T r (cV ({j with IE:=Gm.Ko t.text})) sv IH (SA (SD #[])) w2):=aJ ⟨_,{j with IE:=Gm.Ko t.text},rfl,R,rfl,u,y⟩
 go_wp2
 go_end0
 exact I
theorem nZ{T:List IY}{j:Jd}{IH:List ByteArray}(h:JS wB w g k A c T a j sv IH)
  {m3:Nat} {r1 r2 r:List IY} (hm:Gm.num (T.drop a)=X (m1,r1)) (x:Gm.num r1=X (m2,r2)) (y:Gm.num r2=X (m3,r)):
  TS TX 143 #[M (X ⟨g,0,V⟩),Q ⟨#[98,97,99,107,111,102,102]⟩,M (X ⟨k,0,V⟩)] w (aU w wB g k A c T r (cV ({j with base:=(m1:Int),cap:=(m2:Int),IG:=(m3:Int)})) sv IH):=by
 have nr:∀{b n:Nat} {r:List IY},Gm.num (T.drop b)=X (n,r)->r=T.drop (b+1):=fun hm=>by
  obtain⟨_,ar,_⟩:=ee hm;exact(ax (aq ar).1).2.2
 rw[nr hm] at x;rw[nr x] at y;have hr:=nr y;have ak:=aJ (fun W (S:GP W W g A c T a)=>rK S hm)
 have al:=aJ (fun W (S:GP W W g A c T (a+1))=>rK S x)
 have am:=aJ (fun W (S:GP W W g A c T (a+1+1))=>rK S y)
 have HJ:=aJ h
 obtain⟨z,f⟩:∃z,(w.alloc (H #[M (X ⟨g,0,V⟩)] 142)).alloc (H #[M (X ⟨k,0,V⟩)] 256)=z:=⟨_,rfl⟩
 have i:Hid (JS wB z g k A c T a j sv IH):=aJ (by rw[<-f];exact HJ.up (((ID.refl _).alloc _).alloc _))
 have ag:Hid (KP w z):=aJ (by rw[<-f];exact KP.I7 (((ID.refl _).alloc _).alloc _))
 have u:Hid (z.heap[w.heap.size]? =X (H #[M (X ⟨g,0,V⟩)] 142 (0,0))):=aJ (by rw[<-f];exact((ID.refl _).alloc _).block (aM _ _))
 have s:Hid (z.heap[w.heap.size+1]? =X (H #[M (X ⟨k,0,V⟩)] 256 (0,0))):=aJ (by rw[<-f];have:=aM (w.alloc (H #[M (X ⟨g,0,V⟩)] 142)) (H #[M (X ⟨k,0,V⟩)] 256);rwa [Ta] at this)
 have an:=aJ f
 clear f;go_enter func143,ntmps143;go_upto_region 14 with fail
 rw[an.out];have t:=aJ (aQ HJ.row);obtain⟨kp,ap⟩:∃kp,w.heap.size=kp:=⟨_,rfl⟩
 rw[ap] at u s t ⊢;obtain⟨kj,ao⟩:∃kj,kp+1=kj:=⟨_,rfl⟩
 rw[ao] at s ⊢;have n1:kp≠k:=by have:=t.out;omega
 have n2:k≠kp:=SS n1
 have n3:kj≠k:=by have:=t.out;omega
 have n4:k≠kj:=SS n3
 have cp:=cr_ u 0 (M (X ⟨g,0,V⟩))
 have R:=cr_ s 0 (M (X ⟨k,0,V⟩))
 go_region_held3 (fun W'=>W'.cell? ⟨kp,0,V⟩=X (M (X ⟨g,0,V⟩))/\W'.cell? ⟨kj,0,V⟩=X (M (X ⟨k,0,V⟩))) (go_keep) ((go_simp;go_at_call 218;refine(ak _ (i.gp.up aS).Jc).mono ?_;rintro e v1 ⟨rfl,h2⟩;have o:=aJ ((i.up aS).call h2);have aa:=aJ ((ag.trans (KP.I7 aS)).trans (KP.JG (i.gp.up aS).Jc h2));have B:=aJ (KP.JG (i.gp.up aS).Jc h2 _ _ _ _ u (by decide) (by decide) (by decide) (by decide) (by decide));have D:=aJ (KP.JG (i.gp.up aS).Jc h2 _ _ _ _ s (by decide) (by decide) (by decide) (by decide) (by decide));have cp:=cr_ B 0 (M (X ⟨g,0,V⟩));have R:=cr_ D 0 (M (X ⟨k,0,V⟩));have ci:v1.cell? ⟨k,7,V⟩=X (Z E j.base):=(o.cell 7 rfl).1;have fi:v1.frozen? ⟨k,7,V⟩=O:=(o.cell 7 (v:=Z E j.base) rfl).2;clear h2))
 obtain⟨w2,d⟩:∃P,v1.setCell ⟨k,7,V⟩ (Z E (m1:Int))=P:=⟨_,rfl⟩
 have l:Hid (JS wB w2 g k A c T (a+1) ({j with base:=(m1:Int)}) sv IH):=aJ (by rw[<-d];exact o.set 7 (Z E (m1:Int)) rfl ⟨rfl,rfl,rfl⟩ ⟨rfl,rfl,rfl⟩ ⟨rfl,rfl,rfl⟩)
 have ah:Hid (KP w w2):=aJ (by rw[<-d];exact aa.trans (KP.set o.row 7 _))
 have I:Hid (w2.heap[kp]? =X (H #[M (X ⟨g,0,V⟩)] 142 (0,0))):=aJ (by rw[<-d];exact(aL v1 ⟨k,7,V⟩ kp (Z E (m1:Int)) n1).trans B)
 have L:Hid (w2.heap[kj]? =X (H #[M (X ⟨k,0,V⟩)] 256 (0,0))):=aJ (by rw[<-d];exact(aL v1 ⟨k,7,V⟩ kj (Z E (m1:Int)) n3).trans D)
 rw[d];go_upto_region 15 with fail
 have cp:=cr_ I 0 (M (X ⟨g,0,V⟩))
 have R:=cr_ L 0 (M (X ⟨k,0,V⟩))
 go_region_held3 (fun W'=>W'.cell? ⟨kp,0,V⟩=X (M (X ⟨g,0,V⟩))/\W'.cell? ⟨kj,0,V⟩=X (M (X ⟨k,0,V⟩))) (go_keep) ((go_simp;go_at_call 218;refine(al _ (l.gp.up aS).Jc).mono ?_;rintro e v2 ⟨rfl,h2⟩;have p:=aJ ((l.up aS).call h2);have ab:=aJ ((ah.trans (KP.I7 aS)).trans (KP.JG (l.gp.up aS).Jc h2));have C:=aJ (KP.JG (l.gp.up aS).Jc h2 _ _ _ _ I (by decide) (by decide) (by decide) (by decide) (by decide));have F:=aJ (KP.JG (l.gp.up aS).Jc h2 _ _ _ _ L (by decide) (by decide) (by decide) (by decide) (by decide));have cp:=cr_ C 0 (M (X ⟨g,0,V⟩));have R:=cr_ F 0 (M (X ⟨k,0,V⟩));have ci:v2.cell? ⟨k,8,V⟩=X (Z E j.cap):=(p.cell 8 rfl).1;have fi:v2.frozen? ⟨k,8,V⟩=O:=(p.cell 8 (v:=Z E j.cap) rfl).2;clear h2))
 obtain⟨w3,d⟩:∃P,v2.setCell ⟨k,8,V⟩ (Z E (m2:Int))=P:=⟨_,rfl⟩
 have m:Hid (JS wB w3 g k A c T (a+1+1) ({j with base:=(m1:Int),cap:=(m2:Int)}) sv IH):=aJ (by rw[<-d];exact p.set 8 (Z E (m2:Int)) rfl ⟨rfl,rfl,rfl⟩ ⟨rfl,rfl,rfl⟩ ⟨rfl,rfl,rfl⟩)
 have ai:Hid (KP w w3):=aJ (by rw[<-d];exact ab.trans (KP.set p.row 8 _))
 have J:Hid (w3.heap[kp]? =X (H #[M (X ⟨g,0,V⟩)] 142 (0,0))):=aJ (by rw[<-d];exact(aL v2 ⟨k,8,V⟩ kp (Z E (m2:Int)) n1).trans C)
 have N:Hid (w3.heap[kj]? =X (H #[M (X ⟨k,0,V⟩)] 256 (0,0))):=aJ (by rw[<-d];exact(aL v2 ⟨k,8,V⟩ kj (Z E (m2:Int)) n3).trans F)
 rw[d];go_upto_region 16 with fail
 have cp:=cr_ J 0 (M (X ⟨g,0,V⟩))
 have R:=cr_ N 0 (M (X ⟨k,0,V⟩))
 go_region_held3 (fun W'=>W'.cell? ⟨kp,0,V⟩=X (M (X ⟨g,0,V⟩))/\W'.cell? ⟨kj,0,V⟩=X (M (X ⟨k,0,V⟩))) (go_keep) ((go_simp;go_at_call 218;refine(am _ (m.gp.up aS).Jc).mono ?_;rintro e v3 ⟨rfl,h2⟩;have q:=aJ ((m.up aS).call h2);have ac:=aJ ((ai.trans (KP.I7 aS)).trans (KP.JG (m.gp.up aS).Jc h2));have ad:=aJ (KP.JG (m.gp.up aS).Jc h2 _ _ _ _ J (by decide) (by decide) (by decide) (by decide) (by decide));have ae:=aJ (KP.JG (m.gp.up aS).Jc h2 _ _ _ _ N (by decide) (by decide) (by decide) (by decide) (by decide));have cp:=cr_ ad 0 (M (X ⟨g,0,V⟩));have R:=cr_ ae 0 (M (X ⟨k,0,V⟩));have ci:v3.cell? ⟨k,9,V⟩=X (Z E j.IG):=(q.cell 9 rfl).1;have fi:v3.frozen? ⟨k,9,V⟩=O:=(q.cell 9 (v:=Z E j.IG) rfl).2;clear h2))
 obtain⟨w4,d⟩:∃P,v3.setCell ⟨k,9,V⟩ (Z E (m3:Int))=P:=⟨_,rfl⟩
 have af:Hid (JS wB w4 g k A c T (a+1+1+1) ({j with base:=(m1:Int),cap:=(m2:Int),IG:=(m3:Int)}) sv IH):=aJ (by rw[<-d];exact q.set 9 (Z E (m3:Int)) rfl ⟨rfl,rfl,rfl⟩ ⟨rfl,rfl,rfl⟩ ⟨rfl,rfl,rfl⟩)
 have aj:Hid (KP w w4):=aJ (by rw[<-d];exact ac.trans (KP.set q.row 9 _))
 rw[d];have HX:Hid (aU w wB g k A c T r (cV ({j with base:=(m1:Int),cap:=(m2:Int),IG:=(m3:Int)})) sv IH (SA (SD #[])) w4):=aJ ⟨_,{j with base:=(m1:Int),cap:=(m2:Int),IG:=(m3:Int)},rfl,hr,rfl,af,aj⟩
 go_wp2
 go_end0
 exact HX
theorem rN{T:List IY}{j:Jd}{IH:List ByteArray}(h:JS wB w g k A c T a j sv IH)
  {r1 r:List IY} (hm:Gm.num (T.drop a)=X (m1,r1)) (h1:1<=m1) (aC:m1<=16) (B:Gm.num r1=X (m2,r)):
  TS TX 143 #[M (X ⟨g,0,V⟩),Q ⟨#[98,117,114,115,116]⟩,M (X ⟨k,0,V⟩)] w (aU w wB g k A c T r (cV ({j with II:=(m1:Int),win:=(m2:Int)})) sv IH):=by
 have nr:∀{b n:Nat} {r:List IY},Gm.num (T.drop b)=X (n,r)->r=T.drop (b+1):=fun hm=>by
  obtain⟨t2,aD,_⟩:=ee hm;exact(ax (aq aD).1).2.2
 rw[nr hm] at B;have hr:=nr B;obtain⟨t,ht,ay,hd,h0,ar⟩:=ee hm;have HT:Hid (∀W,GP W W g A c T a->TS TX 136 #[M (X ⟨g,0,V⟩),Z Y 2] W (eN W g A c T (cZ t) (a+1))):=aJ (fun W hW=>jw hW ht)
 have HV:=aJ (fun W=>uS t W hd h0 ar)
 rw[<-ay] at HV;have az:=aJ (fun W (hW:GP W W g A c T (a+1))=>rK hW B)
 unfold cZ at HT HV;generalize ab t.text=x at *;have e1:decide ((m1:Int)<1)=O:=by rw[decide_eq_false_iff_not];omega
 have e2:decide ((16:Int)<(m1:Int))=O:=by rw[decide_eq_false_iff_not];omega
 have e3:(m1:Int)<17:=by omega
 have HJ:=aJ h
 clear h hm B nr ht ay hd h0 ar h1 aC;obtain⟨N,m⟩:∃N,(w.alloc (H #[M (X ⟨g,0,V⟩)] 142)).alloc (H #[M (X ⟨k,0,V⟩)] 256)=N:=⟨_,rfl⟩
 have i:Hid (JS wB N g k A c T a j sv IH):=aJ (by rw[<-m];exact HJ.up (((ID.refl _).alloc _).alloc _))
 have ad:Hid (KP w N):=aJ (by rw[<-m];exact KP.I7 (((ID.refl _).alloc _).alloc _))
 have y:Hid (N.heap[w.heap.size]? =X (H #[M (X ⟨g,0,V⟩)] 142 (0,0))):=aJ (by rw[<-m];exact((ID.refl _).alloc _).block (aM _ _))
 have z:Hid (N.heap[w.heap.size+1]? =X (H #[M (X ⟨k,0,V⟩)] 256 (0,0))):=aJ (by rw[<-m];have:=aM (w.alloc (H #[M (X ⟨g,0,V⟩)] 142)) (H #[M (X ⟨k,0,V⟩)] 256);rwa [Ta] at this)
 have ao:=aJ m
 clear m;go_enter func143,ntmps143;go_upto_region 18 with fail
 rw[ao.out];have u:=aJ (aQ HJ.row);obtain⟨kp,av⟩:∃kp,w.heap.size=kp:=⟨_,rfl⟩
 rw[av] at y z u ⊢;clear av ao;obtain⟨kj,au⟩:∃kj,kp+1=kj:=⟨_,rfl⟩
 rw[au] at z ⊢;have n1:kp≠k:=by have:=u.out;omega
 have n2:k≠kp:=SS n1
 have n3:kj≠k:=by have:=u.out;omega
 have n4:k≠kj:=SS n3
 clear au u HJ;have cp:=cr_ y 0 (M (X ⟨g,0,V⟩));go_wp2_with fail;refine(HT _ i.gp.Jc).mono ?_;rintro e w2 ⟨rfl,h2⟩;have S:=aJ (i.call h2);have ae:=aJ (ad.trans (KP.JG i.gp.Jc h2));have aj:=aJ (KP.JG i.gp.Jc h2 _ _ _ _ y (by decide) (by decide) (by decide) (by decide) (by decide))
 have am:=aJ (KP.JG i.gp.Jc h2 _ _ _ _ z (by decide) (by decide) (by decide) (by decide) (by decide))
 clear h2 HT i ad y z cp;obtain⟨L,d⟩:∃L,w2.alloc (H #[Z Y (t.IF:Int),Q x,Z Y (t.IM:Int),Z Y (t.Jb:Int)] 146)=L:=⟨_,rfl⟩
 have aa:Hid (JS wB L g k A c T (a+1) j sv IH):=aJ (by rw[<-d];exact S.up ((ID.refl _).alloc _))
 have af:Hid (KP w L):=aJ (by rw[<-d];exact ae.trans (KP.I7 ((ID.refl _).alloc _)))
 have ak:Hid (L.heap[kp]? =X (H #[M (X ⟨g,0,V⟩)] 142 (0,0))):=aJ (by rw[<-d];exact((ID.refl _).alloc _).block aj)
 have an:Hid (L.heap[kj]? =X (H #[M (X ⟨k,0,V⟩)] 256 (0,0))):=aJ (by rw[<-d];exact((ID.refl _).alloc _).block am)
 have f:Hid (L.heap[w2.heap.size]? =X (H #[Z Y (t.IF:Int),Q x,Z Y (t.IM:Int),Z Y (t.Jb:Int)] 146 (0,0))):=aJ (by rw[<-d];exact aM _ _)
 have ap:=aJ d
 clear S ae aj am d;go_upto_region 19 with fail
 rw[ap.out];obtain⟨kt,aw⟩:∃kt,w2.heap.size=kt:=⟨_,rfl⟩
 rw[aw] at f ⊢;clear aw ap;have t0:=cr_ f 0 (Z Y (t.IF:Int));have t1:=cr_ f 1 (Q x);have t2:=cr_ f 2 (Z Y (t.IM:Int));have t3:=cr_ f 3 (Z Y (t.Jb:Int));go_wp2_with fail;refine(HV _).mono ?_;rintro e w4 ⟨rfl,hd⟩;have s:=aJ (aa.up hd);have ag:=aJ (af.trans (KP.I7 hd));have al:=aJ (hd.block ak);have I:=aJ (hd.block an);clear hd aa af ak an f t0 t1 t2 t3 HV;have cq:=cr_ I 0 (M (X ⟨k,0,V⟩));obtain⟨ci,fi⟩:=s.cell 10 (v:=Z Y j.II) rfl;go_upto_region 23 with fail
 obtain⟨P,o⟩:∃P,w4.setCell ⟨k,10,V⟩ (Z Y (m1:Int))=P:=⟨_,rfl⟩
 have l:Hid (JS wB P g k A c T (a+1) {j with II:=(m1:Int)} sv IH):=aJ (by rw[<-o];exact s.set 10 (Z Y (m1:Int)) rfl ⟨rfl,rfl,rfl⟩ ⟨rfl,rfl,rfl⟩ ⟨rfl,rfl,rfl⟩)
 have ah:Hid (KP w P):=aJ (by rw[<-o];exact ag.trans (KP.set s.row 10 _))
 have F:Hid (P.heap[kp]? =X (H #[M (X ⟨g,0,V⟩)] 142 (0,0))):=aJ (by rw[<-o];exact(aL w4 ⟨k,10,V⟩ kp (Z Y (m1:Int)) n1).trans al)
 have J:Hid (P.heap[kj]? =X (H #[M (X ⟨k,0,V⟩)] 256 (0,0))):=aJ (by rw[<-o];exact(aL w4 ⟨k,10,V⟩ kj (Z Y (m1:Int)) n3).trans I)
 rw[o];clear o s ag al I cq ci fi;have cp:=cr_ F 0 (M (X ⟨g,0,V⟩));have cq:=cr_ J 0 (M (X ⟨k,0,V⟩));go_region_held3 (fun W'=>W'.cell? ⟨kp,0,V⟩=X (M (X ⟨g,0,V⟩))/\W'.cell? ⟨kj,0,V⟩=X (M (X ⟨k,0,V⟩))) (go_keep) ((go_simp;go_at_call 218;refine(az _ (l.gp.up aS).Jc).mono ?_;rintro e v5 ⟨rfl,h2⟩;have q:=aJ ((l.up aS).call h2);have R:=aJ ((ah.trans (KP.I7 aS)).trans (KP.JG (l.gp.up aS).Jc h2));have C:=aJ (KP.JG (l.gp.up aS).Jc h2 _ _ _ _ F (by decide) (by decide) (by decide) (by decide) (by decide));have D:=aJ (KP.JG (l.gp.up aS).Jc h2 _ _ _ _ J (by decide) (by decide) (by decide) (by decide) (by decide));have cp:=cr_ C 0 (M (X ⟨g,0,V⟩));have cq:=cr_ D 0 (M (X ⟨k,0,V⟩));have ci:v5.cell? ⟨k,11,V⟩=X (Z E j.win):=(q.cell 11 rfl).1;have fi:v5.frozen? ⟨k,11,V⟩=O:=(q.cell 11 (v:=Z E j.win) rfl).2;clear h2))
 obtain⟨w6,p⟩:∃WM,v5.setCell ⟨k,11,V⟩ (Z E (m2:Int))=WM:=⟨_,rfl⟩
 have ac:Hid (JS wB w6 g k A c T (a+1+1) ({j with II:=(m1:Int),win:=(m2:Int)}) sv IH):=aJ (by rw[<-p];exact q.set 11 (Z E (m2:Int)) rfl ⟨rfl,rfl,rfl⟩ ⟨rfl,rfl,rfl⟩ ⟨rfl,rfl,rfl⟩)
 have ai:Hid (KP w w6):=aJ (by rw[<-p];exact R.trans (KP.set q.row 11 _))
 have aA:Hid (w6.heap[kp]? =X (H #[M (X ⟨g,0,V⟩)] 142 (0,0))):=aJ (by rw[<-p];exact(aL v5 ⟨k,11,V⟩ kp (Z E (m2:Int)) n1).trans C)
 have aB:Hid (w6.heap[kj]? =X (H #[M (X ⟨k,0,V⟩)] 256 (0,0))):=aJ (by rw[<-p];exact(aL v5 ⟨k,11,V⟩ kj (Z E (m2:Int)) n3).trans D)
 rw[p];clear p q R C D l ah F J cp cq;have HX:Hid (aU w wB g k A c T r (cV ({j with II:=(m1:Int),win:=(m2:Int)})) sv IH (SA (SD #[])) w6):=aJ ⟨_,{j with II:=(m1:Int),win:=(m2:Int)},rfl,hr,rfl,ac,ai⟩
 clear ac ai aA aB hr;go_wp2;go_end0;exact HX
end Go.Proofs.YtflccikncbhpdaaGreatDoor
