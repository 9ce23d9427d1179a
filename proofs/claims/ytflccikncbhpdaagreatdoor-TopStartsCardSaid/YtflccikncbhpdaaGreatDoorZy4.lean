/- Part 4: walks and plain laws. -/
import Derived.Test.YtflccikncbhpdaaGreatDoorZy3
import Derived.Defers
import Derived.Recover
import Derived.Laws.Pointers
set_option maxHeartbeats 16000000
set_option maxRecDepth 100000
open Go.Lib renaming hid → aJ
open Go renaming cell_of_row → aK, heap_setCell_other → aL, heap_alloc_new → aM, frozen_of_row → aN, heap_setCell_same → aO, bodyPost_ret → aP, lt_of_block → aQ, undef → aR, World → Ui, Value → Uj, Addr → Uk, Calls → Ul, TypeId → Um, Ending → Un, plainElem_int → Uo
open List renaming getD_eq_getElem?_getD → bD, getElem?_eq_getElem → bE, length_append → bF, length_singleton → bG, getElem_mem → bH, getElem?_append_left → bJ, length_map → bL, length_drop → T0, drop_eq_nil_of_le → T4, mem_append → T6, mem_singleton → T7, tail_drop → T8, length → Ua, length_tail → Ub, map_append → Uc, eq_nil_of_length_eq_zero → Ue, getElem?_eq_some_iff → Uf, range → Uh
open Nat renaming le_refl → bM, le_trans → bN, zero_le → bO, lt_or_ge → T3, le_of_eq → T5
open Option.some renaming inj → bQ
open Go.World.ownsRow renaming kept → bT, lt → bU
open Or renaming inl → bX, inr → bY
variable {w wB w':Go.World} {k a c g b B s kp i:Nat} {A:Option Go.Addr} {xs:List Go.Value} {e:Go.TypeId} {sv v v':Go.Value} {cs:Array Go.Value} {l:List Nat} {z fz:Nat×Nat}
open Go.Value renaming int → Z, slice → U, string → Q, pointer → M, bool → K, tuple → TZ, ownBlock → T1, slice → T_, oneCell' → Ud
open Go.IntKind renaming i64 → Y, u64 → E
open Option renaming none → V, some → X
open Bool renaming false → O, true → G, not_eq_true → T9
open Go.Obj renaming cells → H
open Go.Ending renaming returned → TY
open Go.World renaming size_alloc → T2, grownBy_alloc → Ug
open Go.Proofs.Tryz renaming prog → Up
open Go.Proofs.Tryz
namespace Go.Proofs.YtflccikncbhpdaaGreatDoor
open Go.RowKit Go.Shelf
set_option linter.unusedVariables false
def KN(w:Ui)(g:Nat):Nat:=match w.cell? ⟨g,1,V⟩ with|some v=>(intOf v).toNat|none=>0
theorem GP.KN{w0:Ui}{T:List IY}(h:GP w0 w g A c T a):KN w g=a:=by
 unfold Proofs.YtflccikncbhpdaaGreatDoor.KN;rw[h.cells.2.1];simp[intOf]
def more(step:Nat->Jd->List IY->Option (Jd×List IY))(f:Nat)(J:Jd)(l:List IY):Option (Jd×List IY):=if Gm.Jw 44 l=G then step f J l.tail else X (J,l)
theorem wY{T:List IY}(h:Gm.Jw s (T.drop a)=G):a<T.length:=by
 rcases T3 a T.length with h2|h2
 ·exact h2
 rw[T4 h2] at h;cases h
def qr(step:Nat->Jd->List IY->Option (Jd×List IY))(b:Nat)(wB:Ui)(g k kp kj:Nat)(A:Option Uk)(c:Nat)(T:List IY)(sv:Uj)(IH:List ByteArray):Prop:=
 ∀(W:Ui) (a:Nat) (j:Jd) (f:Nat) (J:Jd) (r:List IY),JS wB W g k A c T a j sv IH->W.heap[kp]? =X (H #[M (X ⟨g,0,V⟩)] 142 (0,0))->W.heap[kj]? =X (H #[M (X ⟨k,0,V⟩)] 256 (0,0))->step f (cV j) (T.drop a)=X (J,r)->
  ∃f1 J1 a1,a<a1/\more step f1 J1 (T.drop a1)=X (J,r)/\Ul Up b #[M (X ⟨kp,0,V⟩),M (X ⟨kj,0,V⟩)] W (aU W wB g k A c T (T.drop a1) J1 sv IH)
def px(step:Nat->Jd->List IY->Option (Jd×List IY))(w wB:Ui)(g k:Nat)(A:Option Uk)(c:Nat)(T:List IY)(sv:Uj)(IH:List ByteArray)(J:Jd)(r:List IY)(W:Ui):Prop:=
 ∃f a j,JS wB W g k A c T a j sv IH/\KP w W/\more step f (cV j) (T.drop a)=X (J,r)/\a<T.length
theorem JS.next{T:List IY}{j:Jd}{IH:List ByteArray}(h:JS wB w g k A c T a j sv IH):JS wB (w.setCell ⟨g,1,V⟩ (Z Y ((a:Int)+1))) g k A c T (a+1) j sv IH/\KP w (w.setCell ⟨g,1,V⟩ (Z Y ((a:Int)+1))):=by
 have b:=h.gp.Jc.put (a+1)
 rw[Int.natCast_add] at b;exact⟨h.call b,KP.JG h.gp.Jc b⟩
theorem De{T r:List IY}(h:r=T.drop a)(h2:r=T.drop b)(d:r≠[]):a=b:=by
 have c:T.length-a=T.length-b:=by rw[<-T0,<-T0,<-h,<-h2]
 have:0<r.length:=by grind
 rw[h,T0] at this;omega
theorem uG{step:Nat->Jd->List IY->Option (Jd×List IY)}{W:Ui}{T:List IY}{IH:List ByteArray}{f:Nat}{J1 J:Jd}{a1:Nat}{r:List IY}
  (a:aU w wB g k A c T (T.drop a1) J1 sv IH (TY (TZ #[])) W) (hm:more step f J1 (T.drop a1)=X (J,r)) (d:r≠[]):∃j,JS wB W g k A c T a1 j sv IH/\KP w W/\more step f (cV j) (T.drop a1)=X (J,r)/\a1<T.length:=by
 obtain⟨a',j',_,hd,rfl,hj,hk⟩:=a;have b:a1<T.length:=by
  unfold more at hm;split at hm
  ·next h=>exact wY h
  injection hm with hm
  injection hm with _ e
  rcases T3 a1 T.length with h2|h2
  ·exact h2
  rw[T4 h2] at e;exact absurd e.symm d
 have hne:T.drop a1≠[]:=fun e=>by
  have:=congrArg Ua e
  rw[T0] at this;simp at this;omega
 obtain rfl:=De rfl hd hne;exact⟨j',hj,hk,hm,b⟩
theorem E8{kj:Nat}{T:List IY}{j:Jd}{IH:List ByteArray}(h:JS wB w g k A c T a j sv IH)
  (hs:qr Gm.IC 215 wB g k kp kj A c T sv IH) (hp:w.heap[kp]? =X (H #[M (X ⟨g,0,V⟩)] 142 (0,0))) (hq:w.heap[kj]? =X (H #[M (X ⟨k,0,V⟩)] 256 (0,0)))
  {f:Nat} {J:Jd} {r:List IY} (hm:Gm.IC f (cV j) (T.drop a)=X (J,r)) (hr:r≠[]):
  Ul Up 214 #[M (X ⟨g,0,V⟩),.func (.func 215) #[] #[M (X ⟨kp,0,V⟩),M (X ⟨kj,0,V⟩)]] w (aU w wB g k A c T r J sv IH):=by
 obtain⟨f1,J1,a1,S,n,B⟩:=hs w a j f J r h hp hq hm;have HS:=aJ hs;have HP:=aJ hp;have HQ:=aJ hq;have HC:=aJ B;have L:=aJ n;have HR:=aJ hr;have HI:Hid (∀W,aU w wB g k A c T (T.drop a1) J1 sv IH (TY (TZ #[])) W->px Gm.IC w wB g k A c T sv IH J r W):=aJ (fun W hg=>by
  obtain⟨j2,h1,h2,P,R⟩:=uG hg n hr;exact⟨f1,a1,j2,h1,h2,P,R⟩)
 clear h hs hp hq hm B n hr S L;go_enter func214,ntmps214;go_wp2_with fail;refine(HC).mono ?_;rintro e _ o;obtain rfl:e=TY (TZ #[]):=by obtain⟨_,_,s,_⟩:=o;exact s
 have u:=aJ (HI _ o)
 clear o HI HC;go_wp2;go_loopw [] (fun wr=>px Gm.IC w wB g k A c T sv IH J r wr) (fun wr=>T.length-KN wr g)
 case atStart=>exact u
 obtain⟨f,a,j,hj,hk,hm,ha⟩:=hrel;have HM:=aJ hj.gp.KN;have q:=aJ (pU hj.gp ha 44 (by decide) ⟨#[44]⟩ rfl)
 clear u
 by_cases b:Gm.Jw 44 (T.drop a)=G
 ·rw[b] at q;rw[more,ps_ b,show(T.drop a).tail=T.drop (a+1) by rw[T8]] at hm
  have HJ:=aJ hj
  have HK:=aJ hk
  have HL:=aJ ha
  have N:=aJ hm
  clear hj hk hm ha b;go_wp2_with fail;refine(q).mono ?_;rintro e w2 ⟨rfl,hd⟩;have d:=aJ (HJ.up hd);have x:=aJ (HK.trans (KP.I7 hd));clear hd HJ HK q;obtain⟨_,c1,f1⟩:=d.gp.cells;have i1:(a:Int)<100000:=by have:=d.out.gp.JA;have:=HL.out;omega
  have i0:(0:Int)<=(a:Int):=by omega
  go_upto_region 3 with fail
  obtain⟨I,F⟩:∃I,w2.setCell ⟨g,1,V⟩ (Z Y ((a:Int)+1))=I:=⟨_,rfl⟩
  obtain⟨l,m⟩:=d.next;rw[F] at l m ⊢;have i:=aJ (x.trans m);obtain⟨f2,J2,a2,aa,D,C⟩:=HS I (a+1) j _ J r l (i _ _ _ _ HP (by decide) (by decide) (by decide) (by decide) (by decide)) (i _ _ _ _ HQ (by decide) (by decide) (by decide) (by decide) (by decide)) N
  have t:=aJ C
  have y:Hid (∀W,aU I wB g k A c T (T.drop a2) J2 sv IH (TY (TZ #[])) W->px Gm.IC w wB g k A c T sv IH J r W/\T.length-KN W g<T.length-KN wr g):=aJ (fun W hg=>by
   obtain⟨j3,h1,h2,P,R⟩:=uG hg D HR;refine⟨⟨f2,a2,j3,h1,i.trans h2,P,R⟩,?_⟩;rw[h1.gp.KN,HM.out]
   omega)
  clear l m F D C d x c1 f1 i1 i0 aa;go_wp2_with fail;refine(t).mono ?_;rintro e w4 p;obtain rfl:e=TY (TZ #[]):=by obtain⟨_,_,s,_⟩:=p;exact s
  have z:=aJ (y _ p)
  clear p y t;go_wp2;go_roundw
  case rel=>exact z.1
  exact z.2
 rw[more,ng_ b] at hm;rw[T9] at b;rw[b] at q;injection hm with hm
 injection hm with s e2
 have y:Hid (∀W,ID wr W->aU w wB g k A c T r J sv IH (TY (TZ #[])) W):=aJ (fun W ho=>⟨a,j,rfl,e2.symm,s,hj.up ho,hk.trans (KP.I7 ho)⟩)
 clear hj hk ha b s e2;go_wp2_with fail;refine(q).mono ?_;rintro e w2 ⟨rfl,hd⟩;have HY:=aJ (y _ hd);clear hd y q;go_wp2;go_end0;exact HY
theorem E7{kj:Nat}{T:List IY}{j:Jd}{IH:List ByteArray}(h:JS wB w g k A c T a j sv IH)
  (hs:qr Gm.I8 220 wB g k kp kj A c T sv IH) (hp:w.heap[kp]? =X (H #[M (X ⟨g,0,V⟩)] 142 (0,0))) (hq:w.heap[kj]? =X (H #[M (X ⟨k,0,V⟩)] 256 (0,0)))
  {f:Nat} {J:Jd} {r:List IY} (hm:Gm.I8 f (cV j) (T.drop a)=X (J,r)) (hr:r≠[]):
  Ul Up 214 #[M (X ⟨g,0,V⟩),.func (.func 220) #[] #[M (X ⟨kp,0,V⟩),M (X ⟨kj,0,V⟩)]] w (aU w wB g k A c T r J sv IH):=by
 obtain⟨f1,J1,a1,S,n,B⟩:=hs w a j f J r h hp hq hm;have HS:=aJ hs;have HP:=aJ hp;have HQ:=aJ hq;have HC:=aJ B;have L:=aJ n;have HR:=aJ hr;have HI:Hid (∀W,aU w wB g k A c T (T.drop a1) J1 sv IH (TY (TZ #[])) W->px Gm.I8 w wB g k A c T sv IH J r W):=aJ (fun W hg=>by
  obtain⟨j2,h1,h2,P,R⟩:=uG hg n hr;exact⟨f1,a1,j2,h1,h2,P,R⟩)
 clear h hs hp hq hm B n hr S L;go_enter func214,ntmps214;go_wp2_with fail;refine(HC).mono ?_;rintro e _ o;obtain rfl:e=TY (TZ #[]):=by obtain⟨_,_,s,_⟩:=o;exact s
 have u:=aJ (HI _ o)
 clear o HI HC;go_wp2;go_loopw [] (fun wr=>px Gm.I8 w wB g k A c T sv IH J r wr) (fun wr=>T.length-KN wr g)
 case atStart=>exact u
 obtain⟨f,a,j,hj,hk,hm,ha⟩:=hrel;have HM:=aJ hj.gp.KN;have q:=aJ (pU hj.gp ha 44 (by decide) ⟨#[44]⟩ rfl)
 clear u
 by_cases b:Gm.Jw 44 (T.drop a)=G
 ·rw[b] at q;rw[more,ps_ b,show(T.drop a).tail=T.drop (a+1) by rw[T8]] at hm
  have HJ:=aJ hj
  have HK:=aJ hk
  have HL:=aJ ha
  have N:=aJ hm
  clear hj hk hm ha b;go_wp2_with fail;refine(q).mono ?_;rintro e w2 ⟨rfl,hd⟩;have d:=aJ (HJ.up hd);have x:=aJ (HK.trans (KP.I7 hd));clear hd HJ HK q;obtain⟨_,c1,f1⟩:=d.gp.cells;have i1:(a:Int)<100000:=by have:=d.out.gp.JA;have:=HL.out;omega
  have i0:(0:Int)<=(a:Int):=by omega
  go_upto_region 3 with fail
  obtain⟨I,F⟩:∃I,w2.setCell ⟨g,1,V⟩ (Z Y ((a:Int)+1))=I:=⟨_,rfl⟩
  obtain⟨l,m⟩:=d.next;rw[F] at l m ⊢;have i:=aJ (x.trans m);obtain⟨f2,J2,a2,aa,D,C⟩:=HS I (a+1) j _ J r l (i _ _ _ _ HP (by decide) (by decide) (by decide) (by decide) (by decide)) (i _ _ _ _ HQ (by decide) (by decide) (by decide) (by decide) (by decide)) N
  have t:=aJ C
  have y:Hid (∀W,aU I wB g k A c T (T.drop a2) J2 sv IH (TY (TZ #[])) W->px Gm.I8 w wB g k A c T sv IH J r W/\T.length-KN W g<T.length-KN wr g):=aJ (fun W hg=>by
   obtain⟨j3,h1,h2,P,R⟩:=uG hg D HR;refine⟨⟨f2,a2,j3,h1,i.trans h2,P,R⟩,?_⟩;rw[h1.gp.KN,HM.out]
   omega)
  clear l m F D C d x c1 f1 i1 i0 aa;go_wp2_with fail;refine(t).mono ?_;rintro e w4 p;obtain rfl:e=TY (TZ #[]):=by obtain⟨_,_,s,_⟩:=p;exact s
  have z:=aJ (y _ p)
  clear p y t;go_wp2;go_roundw
  case rel=>exact z.1
  exact z.2
 rw[more,ng_ b] at hm;rw[T9] at b;rw[b] at q;injection hm with hm
 injection hm with s e2
 have y:Hid (∀W,ID wr W->aU w wB g k A c T r J sv IH (TY (TZ #[])) W):=aJ (fun W ho=>⟨a,j,rfl,e2.symm,s,hj.up ho,hk.trans (KP.I7 ho)⟩)
 clear hj hk ha b s e2;go_wp2_with fail;refine(q).mono ?_;rintro e w2 ⟨rfl,hd⟩;have HY:=aJ (y _ hd);clear hd y q;go_wp2;go_end0;exact HY
theorem JS.Pv{T:List IY}{j:Jd}{IH:List ByteArray}(h:JS wB w g k A c T a j sv IH):
  JS wB (w.setCell ⟨k,12,V⟩ (U V 0 0)) g k A c T a {j with lA:=V,IK:=[],lc:=0} sv IH:=by
 refine⟨h.gp.Oq h.row h.kB h.gk 12 _,h.gl,h.kB,?_,bq h.IJ h.row (by decide) 12 _,bq h.IC h.row (by decide) 12 _,IL.Jk _ _ _ _,bq h.IH h.row (by decide) 12 _,h.ap⟩
 rw[aO w k 12 _ _ _ h.row];simp[ag]
theorem Fd{kj:Nat}{T r:List IY}{J:Jd}{IH:List ByteArray}(d:w.heap[kp]? =X (H #[M (X ⟨g,0,V⟩)] 142 (0,0)))(f:w.heap[kj]? =X (H #[M (X ⟨k,0,V⟩)] 256 (0,0)))
  (hc:Ul Up 216 #[M (X ⟨g,0,V⟩),M (X ⟨k,0,V⟩)] w (aU w wB g k A c T r J sv IH)):
  Ul Up 215 #[M (X ⟨kp,0,V⟩),M (X ⟨kj,0,V⟩)] w (aU w wB g k A c T r J sv IH):=by
 have cp:=cr_ d 0 (M (X ⟨g,0,V⟩))
 have j:=cr_ f 0 (M (X ⟨k,0,V⟩))
 have b:=aJ hc
 clear d f hc;go_enter func215,ntmps215;go_wp2_with fail;refine(b).mono ?_;rintro e _ a;obtain rfl:e=TY (TZ #[]):=by obtain⟨_,_,i,_⟩:=a;exact i
 have h:=aJ a
 clear a b;go_wp2;go_end0;exact h
theorem Fc{kj:Nat}{T r:List IY}{J:Jd}{IH:List ByteArray}(d:w.heap[kp]? =X (H #[M (X ⟨g,0,V⟩)] 142 (0,0)))(f:w.heap[kj]? =X (H #[M (X ⟨k,0,V⟩)] 256 (0,0)))
  (hc:Ul Up 221 #[M (X ⟨g,0,V⟩),M (X ⟨k,0,V⟩)] w (aU w wB g k A c T r J sv IH)):
  Ul Up 220 #[M (X ⟨kp,0,V⟩),M (X ⟨kj,0,V⟩)] w (aU w wB g k A c T r J sv IH):=by
 have cp:=cr_ d 0 (M (X ⟨g,0,V⟩))
 have j:=cr_ f 0 (M (X ⟨k,0,V⟩))
 have b:=aJ hc
 clear d f hc;go_enter func220,ntmps220;go_wp2_with fail;refine(b).mono ?_;rintro e _ a;obtain rfl:e=TY (TZ #[]):=by obtain⟨_,_,i,_⟩:=a;exact i
 have h:=aJ a
 clear a b;go_wp2;go_end0;exact h
theorem nf{T:List IY}{f:Nat}{j J:Jd}{r:List IY}(h:Gm.IC f (cV j) (T.drop a)=X (J,r)):
  ∃f1 t,Gm.name (decide (16<=j.IC.length)) (T.drop a)=X (t,T.drop (a+1))/\Gm.hasB j.IC (ab t.text)=O/\more Gm.IC f1 (cV {j with IC:=j.IC++[ab t.text]}) (T.drop (a+1))=X (J,r):=by
 cases f with
 |zero=>cases h
 |succ f=>
  unfold Gm.IC at h;rw[show(cV j).IC=j.IC from rfl] at h
  cases b:Gm.name (decide (16<=j.IC.length)) (T.drop a) with
  |none=>rw[b] at h;cases h
  |some p=>
   obtain⟨t,_⟩:=p;obtain rfl:=(ax (aq (eB b).1).1).2.2;rw[b] at h;simp only at h;cases c:Gm.hasB j.IC (ab t.text) with
   |true=>grind
   |false=>
    rw[c,ng_ (by decide)] at h
    exact⟨f,t,rfl,c,h⟩
theorem mX{T:List IY}{f:Nat}{j J:Jd}{r:List IY}(h:Gm.I8 f (cV j) (T.drop a)=X (J,r)):
  ∃f1 t n,Gm.take 1 (T.drop a)=X (t,T.drop (a+1))/\j.IK.length<5/\Gm.JF t.text≠0/\Gm.num (T.drop (a+1))=X (n,T.drop (a+1+1))/\more Gm.I8 f1 (cV {j with IK:=j.IK++[(Gm.JF t.text,(n:Int))]}) (T.drop (a+1+1))=X (J,r):=by
 cases f with
 |zero=>cases h
 |succ f=>
  unfold Gm.I8 at h;rw[show(cV j).IK=j.IK from rfl] at h
  cases c:Gm.take 1 (T.drop a) with
  |none=>grind
  |some p=>
   obtain⟨t,_⟩:=p;obtain rfl:=(ax (aq c).1).2.2;rw[c] at h;simp only at h;split at h
   ·cases h
   next h5=>
   rw[not_or] at h5;cases hm:Gm.num (T.drop (a+1)) with
   |none=>rw[hm] at h;cases h
   |some q=>
    obtain⟨n,_⟩:=q;obtain⟨_,b,_⟩:=ee hm;obtain rfl:=(ax (aq b).1).2.2;rw[hm] at h;exact⟨f,t,n,rfl,by omega,h5.2,rfl,h⟩
theorem liN(wB:Ui)(g k kp kj:Nat)(A:Option Uk)(c:Nat)(T:List IY)(sv:Uj)(IH:List ByteArray):qr Gm.IC 215 wB g k kp kj A c T sv IH:=fun W a j f J r h d e hm=>by
 obtain⟨f1,t,h1,h2,b⟩:=nf hm;exact⟨f1,_,a+1,by omega,b,Fd d e (E6 h h1 h2)⟩
theorem liR(wB:Ui)(g k kp kj:Nat)(A:Option Uk)(c:Nat)(T:List IY)(sv:Uj)(IH:List ByteArray):qr Gm.I8 220 wB g k kp kj A c T sv IH:=fun W a j f J r h i l hm=>by
 obtain⟨f1,t,n,h1,h2,b,d,e⟩:=mX hm;exact⟨f1,_,a+1+1,by omega,e,Fc i l (E1 h h1 h2 b d)⟩
theorem xm{T:List IY}{j:Jd}{IH:List ByteArray}(h:JS wB w g k A c T a j sv IH)
  {r:List IY} {J:Jd} (hm:Gm.var (cV j) (T.drop a)=X (J,r)) (z:cV J=J):
  Ul Up 143 #[M (X ⟨g,0,V⟩),Q ⟨#[101,110,118]⟩,M (X ⟨k,0,V⟩)] w (aU w wB g k A c T r J sv IH):=by
 have u:=aJ (fun W (I:JS wB W g k A c T a j sv IH)=>GA I hm)
 rw[z] at u;have t:=aJ h;clear h hm z;obtain⟨m,b⟩:∃m,(w.alloc (H #[M (X ⟨g,0,V⟩)] 142)).alloc (H #[M (X ⟨k,0,V⟩)] 256)=m:=⟨_,rfl⟩
 have n:Hid (JS wB m g k A c T a j sv IH):=aJ (by rw[<-b];exact t.up (((ID.refl _).alloc _).alloc _))
 have o:Hid (KP w m):=aJ (by rw[<-b];exact KP.I7 (((ID.refl _).alloc _).alloc _))
 have i:Hid (m.heap[w.heap.size]? =X (H #[M (X ⟨g,0,V⟩)] 142 (0,0))):=aJ (by rw[<-b];exact((ID.refl _).alloc _).block (aM _ _))
 have f:Hid (m.heap[w.heap.size+1]? =X (H #[M (X ⟨k,0,V⟩)] 256 (0,0))):=aJ (by rw[<-b];have:=aM (w.alloc (H #[M (X ⟨g,0,V⟩)] 142)) (H #[M (X ⟨k,0,V⟩)] 256);rwa [T2] at this)
 have p:=aJ b
 clear b;go_enter func143,ntmps143;go_upto_region 5 with fail
 rw[p.out];have d:=aJ (aQ t.row);obtain⟨kp,s⟩:∃kp,w.heap.size=kp:=⟨_,rfl⟩
 rw[s] at i f d ⊢;clear s p;obtain⟨kj,q⟩:∃kj,kp+1=kj:=⟨_,rfl⟩
 rw[q] at f ⊢;have n1:kp≠k:=by have:=d.out;omega
 have n3:kj≠k:=by have:=d.out;omega
 clear q d t;have cp:=cr_ i 0 (M (X ⟨g,0,V⟩));have L:=cr_ f 0 (M (X ⟨k,0,V⟩));have y:=aJ (u _ n);clear u n;go_wp2_with fail;refine(y).mono ?_;rintro e w2 l;have B:Hid (aU w wB g k A c T r J sv IH (TY (TZ #[])) w2):=aJ (by obtain⟨a',j',_,x,C,D,F⟩:=l;exact⟨a',j',rfl,x,C,D,o.trans F⟩)
 obtain rfl:e=TY (TZ #[]):=by obtain⟨_,_,x,_⟩:=l;exact x
 clear l y o i f;go_wp2;go_end0;exact B
theorem rM{T:List IY}{j:Jd}{IH:List ByteArray}(h:JS wB w g k A c T a j sv IH)
  {f:Nat} {r:List IY} {J:Jd} (hm:Gm.IC f (cV j) (T.drop a)=X (J,r)) (B:r≠[]):
  Ul Up 143 #[M (X ⟨g,0,V⟩),Q ⟨#[110,101,101,100,115]⟩,M (X ⟨k,0,V⟩)] w (aU w wB g k A c T r J sv IH):=by
 have z:=aJ (fun W kp kj (L:JS wB W g k A c T a j sv IH) N P=>E8 L (liN wB g k kp kj A c T sv IH) N P hm B)
 have u:=aJ h
 clear h hm B;obtain⟨n,b⟩:∃n,(w.alloc (H #[M (X ⟨g,0,V⟩)] 142)).alloc (H #[M (X ⟨k,0,V⟩)] 256)=n:=⟨_,rfl⟩
 have o:Hid (JS wB n g k A c T a j sv IH):=aJ (by rw[<-b];exact u.up (((ID.refl _).alloc _).alloc _))
 have p:Hid (KP w n):=aJ (by rw[<-b];exact KP.I7 (((ID.refl _).alloc _).alloc _))
 have i:Hid (n.heap[w.heap.size]? =X (H #[M (X ⟨g,0,V⟩)] 142 (0,0))):=aJ (by rw[<-b];exact((ID.refl _).alloc _).block (aM _ _))
 have l:Hid (n.heap[w.heap.size+1]? =X (H #[M (X ⟨k,0,V⟩)] 256 (0,0))):=aJ (by rw[<-b];have:=aM (w.alloc (H #[M (X ⟨g,0,V⟩)] 142)) (H #[M (X ⟨k,0,V⟩)] 256);rwa [T2] at this)
 have q:=aJ b
 clear b;go_enter func143,ntmps143;go_upto_region 7 with fail
 rw[q.out];have d:=aJ (aQ u.row);obtain⟨kp,t⟩:∃kp,w.heap.size=kp:=⟨_,rfl⟩
 rw[t] at i l d ⊢;clear t q;obtain⟨kj,s⟩:∃kj,kp+1=kj:=⟨_,rfl⟩
 rw[s] at l ⊢;have n1:kp≠k:=by have:=d.out;omega
 have n3:kj≠k:=by have:=d.out;omega
 clear s d u;have cp:=cr_ i 0 (M (X ⟨g,0,V⟩));have y:=aJ (z _ _ _ o i l);clear z o;go_wp2_with fail;refine(y).mono ?_;rintro e w2 m;have C:Hid (aU w wB g k A c T r J sv IH (TY (TZ #[])) w2):=aJ (by obtain⟨a',j',_,x,D,F,I⟩:=m;exact⟨a',j',rfl,x,D,F,p.trans I⟩)
 obtain rfl:e=TY (TZ #[]):=by obtain⟨_,_,x,_⟩:=m;exact x
 clear m y p i l;go_wp2;go_end0;exact C
theorem tp{T:List IY}{j:Jd}{IH:List ByteArray}(h:JS wB w g k A c T a j sv IH)
  {f:Nat} {r:List IY} {J:Jd} (hm:Gm.I8 f {cV j with IK:=[]} (T.drop a)=X (J,r)) (N:r≠[]):
  Ul Up 143 #[M (X ⟨g,0,V⟩),Q ⟨#[115,116,111,112]⟩,M (X ⟨k,0,V⟩)] w (aU w wB g k A c T r J sv IH):=by
 have C:Gm.I8 f (cV {j with lA:=V,IK:=[],lc:=0}) (T.drop a)=X (J,r):=hm
 have L:=aJ (fun W kp kj (hW:JS wB W g k A c T a {j with lA:=V,IK:=[],lc:=0} sv IH) hp hq=>E7 hW (liR wB g k kp kj A c T sv IH) hp hq C N)
 have D:=aJ h
 clear h hm C N;obtain⟨o,b⟩:∃o,(w.alloc (H #[M (X ⟨g,0,V⟩)] 142)).alloc (H #[M (X ⟨k,0,V⟩)] 256)=o:=⟨_,rfl⟩
 have l:Hid (JS wB o g k A c T a j sv IH):=aJ (by rw[<-b];exact D.out.up (((ID.refl _).alloc _).alloc _))
 have t:Hid (KP w o):=aJ (by rw[<-b];exact KP.I7 (((ID.refl _).alloc _).alloc _))
 have n:Hid (o.heap[w.heap.size]? =X (H #[M (X ⟨g,0,V⟩)] 142 (0,0))):=aJ (by rw[<-b];exact((ID.refl _).alloc _).block (aM _ _))
 have i:Hid (o.heap[w.heap.size+1]? =X (H #[M (X ⟨k,0,V⟩)] 256 (0,0))):=aJ (by rw[<-b];have:=aM (w.alloc (H #[M (X ⟨g,0,V⟩)] 142)) (H #[M (X ⟨k,0,V⟩)] 256);rwa [T2] at this)
 have y:=aJ b
 clear b;go_enter func143,ntmps143;go_upto_region 25 with fail
 rw[y.out];have m:=aJ (aQ D.out.row);obtain⟨kp,B⟩:∃kp,w.heap.size=kp:=⟨_,rfl⟩
 rw[B] at n i m ⊢;clear B y;obtain⟨kj,z⟩:∃kj,kp+1=kj:=⟨_,rfl⟩
 rw[z] at i ⊢;have n1:kp≠k:=by have:=m.out;omega
 have n2:k≠kp:=Ne.symm n1
 have n3:kj≠k:=by have:=m.out;omega
 have n4:k≠kj:=Ne.symm n3
 clear z m D;have cp:=cr_ n.out 0 (M (X ⟨g,0,V⟩));have S:=cr_ i.out 0 (M (X ⟨k,0,V⟩));obtain⟨R,fi⟩:=l.out.cell 12 (v:=U j.lA j.IK.length j.lc) rfl;go_upto_region 26 with fail
 obtain⟨w2,d⟩:∃W,o.setCell ⟨k,12,V⟩ (U V 0 0)=W:=⟨_,rfl⟩
 have s:Hid (JS wB w2 g k A c T a {j with lA:=V,IK:=[],lc:=0} sv IH):=aJ (by rw[<-d];exact l.out.Pv)
 have u:Hid (KP w w2):=aJ (by rw[<-d];exact t.out.trans (KP.set l.out.row 12 _))
 have p:Hid (w2.heap[kp]? =X (H #[M (X ⟨g,0,V⟩)] 142 (0,0))):=aJ (by rw[<-d];exact(aL o ⟨k,12,V⟩ kp (U V 0 0) n1).trans n.out)
 have x:Hid (w2.heap[kj]? =X (H #[M (X ⟨k,0,V⟩)] 256 (0,0))):=aJ (by rw[<-d];exact(aL o ⟨k,12,V⟩ kj (U V 0 0) n3).trans i.out)
 rw[d];clear d l t n i cp S R fi;have cp:=cr_ p.out 0 (M (X ⟨g,0,V⟩));have I:=aJ (L.out _ _ _ s.out p.out x.out);clear L s;go_wp2_with fail;refine(I.out).mono ?_;rintro e w3 q;have P:Hid (aU w wB g k A c T r J sv IH (TY (TZ #[])) w3):=aJ (by obtain⟨a',j',_,F,e2,e3,e4⟩:=q;exact⟨a',j',rfl,F,e2,e3,u.out.trans e4⟩)
 obtain rfl:e=TY (TZ #[]):=by obtain⟨_,_,F,_⟩:=q;exact F
 clear q I u p x;go_wp2_with fail;go_end0;exact P.out
theorem BS{j J:Jd}{l r:List IY}(h:Gm.var (cV j) l=X (J,r)):cV J=J:=by
 unfold Gm.var at h;cases a:Gm.name (decide (16<=(cV j).IJ.length)) l with
 |none=>grind
 |some p=>
  rw[a] at h;simp only at h;split at h
  ·cases h
  cases hs:Gm.sign 61 p.2 with
  |none=>rw[hs] at h;cases h
  |some b=>
   rw[hs] at h;simp only at h;cases hx:Gm.text 3 512 b with
   |none=>rw[hx] at h;cases h
   |some q=>rw[hx] at h;injection h with h;injection h with h _;rw[<-h];rfl
theorem oT{w:List Nat}{j:Jd}{l:List IY}(h:(Gm.KM w j l).isSome=G):w=Gm.J6\/w=Gm.Kl\/w=Gm.Ju\/w=Gm.Ka\/w=Gm.Jj\/w=Gm.Jm\/w=Gm.JJ\/w=Gm.Kb:=by grind [Gm.KM]
theorem Fa{T:List IY}{j:Jd}{IH:List ByteArray}(h:JS wB w g k A c T a j sv IH)
  {t:List Nat} {r:List IY} {J:Jd} (hm:Gm.KM t (cV j) (T.drop a)=X (J,r)) (d:r≠[]):
  Ul Up 143 #[M (X ⟨g,0,V⟩),Q (ab t),M (X ⟨k,0,V⟩)] w (aU w wB g k A c T r J sv IH):=by
 unfold Gm.KM at hm;split at hm
 ·next e=>
  subst e;cases hx:Gm.text 3 512 (T.drop a) with
  |none=>rw[hx] at hm;cases hm
  |some p=>rw[hx] at hm;obtain⟨s,b⟩:=p;injection hm with hm;injection hm with e1 e2;subst e1;subst e2;exact xl h hx
 split at hm
 ·next e=>subst e;exact xm h hm (BS hm)
 split at hm
 ·next e=>subst e;exact rM h hm d
 split at hm
 ·next e=>
  subst e;cases hx:Gm.text 4 128 (T.drop a) with
  |none=>rw[hx] at hm;cases hm
  |some p=>rw[hx] at hm;obtain⟨s,b⟩:=p;injection hm with hm;injection hm with e1 e2;subst e1;subst e2;exact rL h hx
 split at hm
 ·next e=>
  subst e;cases hx:Gm.take 1 (T.drop a) with
  |none=>rw[hx] at hm;cases hm
  |some p=>
   rw[hx] at hm;obtain⟨s,b⟩:=p;simp only at hm;split at hm
   ·cases hm
   next hp=>injection hm with hm;injection hm with e1 e2;subst e1;subst e2;exact nY h hx hp
 split at hm
 ·next e=>
  subst e;cases hx:Gm.num (T.drop a) with
  |none=>rw[hx] at hm;cases hm
  |some p=>
   obtain⟨m1,b⟩:=p;rw[hx] at hm;simp only at hm;cases hy:Gm.num b with
   |none=>rw[hy] at hm;cases hm
   |some p=>
    obtain⟨m2,f⟩:=p;rw[hy] at hm;simp only at hm;cases hz:Gm.num f with
    |none=>rw[hz] at hm;cases hm
    |some p=>obtain⟨m3,_⟩:=p;rw[hz] at hm;injection hm with hm;injection hm with e1 e2;subst e1;subst e2;exact nZ h hx hy hz
 split at hm
 ·next e=>
  subst e;cases hx:Gm.num (T.drop a) with
  |none=>rw[hx] at hm;cases hm
  |some p=>
   obtain⟨m1,b⟩:=p;rw[hx] at hm;simp only at hm;split at hm
   ·cases hm
   next h1=>
   rw[not_or] at h1;cases hy:Gm.num b with
   |none=>rw[hy] at hm;cases hm
   |some p=>obtain⟨m2,f⟩:=p;rw[hy] at hm;injection hm with hm;injection hm with e1 e2;subst e1;subst e2;exact rN h hx (by omega) (by omega) hy
 split at hm
 ·next e=>subst e;exact tp h hm d
 cases hm
theorem gC{l r:List IY}{t:IY}(h:Gm.take k l=X (t,r)):r.length+1=l.length:=by
 rw[(aq h).1];rfl
theorem jM{l r:List IY}{n:Nat}(h:Gm.num l=X (n,r)):r.length+1=l.length:=by
 obtain⟨t,a,_⟩:=ee h;exact gC a
theorem mR{m:Nat}{l r:List IY}{s:ByteArray}(h:Gm.text k m l=X (s,r)):r.length+1=l.length:=by
 obtain⟨t,a,_⟩:=fK h;exact gC a
theorem np{f:Bool}{l r:List IY}{t:IY}(h:Gm.name f l=X (t,r)):r.length+1=l.length:=gC (eB h).1
theorem qP{l r:List IY}(h:Gm.sign s l=X r):r.length+1=l.length:=by
 obtain⟨t,rfl,hs⟩:=kM h;rfl
theorem K3:∀(f:Nat) {j J:Jd} {l r:List IY},Gm.IC f j l=X (J,r)->r.length<=l.length:=by
 intro f
 induction f with
 |zero=>intro j J l r h;cases h
 |succ f ih=>
  intro j J l r h;unfold Gm.IC at h;cases a:Gm.name (decide (16<=j.IC.length)) l with
  |none=>rw[a] at h;cases h
  |some p=>
   obtain⟨t,_⟩:=p;have:=np a;rw[a] at h;simp only at h;split at h
   ·cases h
   grind
theorem vZ:∀(f:Nat) {j J:Jd} {l r:List IY},Gm.I8 f j l=X (J,r)->r.length<=l.length:=by
 intro f
 induction f with
 |zero=>intro j J l r h;cases h
 |succ f ih=>
  intro j J l r h;unfold Gm.I8 at h;cases a:Gm.take 1 l with
  |none=>rw[a] at h;cases h
  |some p=>
   obtain⟨t,b⟩:=p;have:=gC a;rw[a] at h;simp only at h;split at h
   ·cases h
   cases hm:Gm.num b with
   |none=>rw[hm] at h;cases h
   |some q=>
    obtain⟨n,_⟩:=q;have:=jM hm;rw[hm] at h;simp only at h;split at h
    ·have h2:=ih h;rw[Ub] at h2;omega
    grind
theorem BQ{j J:Jd}{l r:List IY}(h:Gm.var j l=X (J,r)):r.length<=l.length:=by
 unfold Gm.var at h;cases a:Gm.name (decide (16<=j.IJ.length)) l with
 |none=>grind
 |some p=>
  obtain⟨t,b⟩:=p;have:=np a;rw[a] at h;simp only at h;split at h
  ·cases h
  cases hs:Gm.sign 61 b with
  |none=>rw[hs] at h;cases h
  |some c=>
   have:=qP hs
   rw[hs] at h;simp only at h;cases hx:Gm.text 3 512 c with
   |none=>rw[hx] at h;cases h
   |some q=>
    obtain⟨v,_⟩:=q;have:=mR hx;rw[hx] at h;injection h with h;injection h with _ h;subst h;omega
theorem ny{t:List Nat}{j J:Jd}{l r:List IY}(h:Gm.KM t j l=X (J,r)):r.length<=l.length:=by
 unfold Gm.KM at h;split at h
 ·cases hx:Gm.text 3 512 l with
  |none=>rw[hx] at h;cases h
  |some p=>have:=mR hx;rw[hx] at h;injection h with h;injection h with _ h;subst h;omega
 split at h
 ·exact BQ h
 split at h
 ·exact K3 _ h
 split at h
 ·cases hx:Gm.text 4 128 l with
  |none=>rw[hx] at h;cases h
  |some p=>have:=mR hx;rw[hx] at h;injection h with h;injection h with _ h;subst h;omega
 split at h
 ·cases hx:Gm.take 1 l with
  |none=>rw[hx] at h;cases h
  |some p=>
   have:=gC hx
   rw[hx] at h;simp only at h;split at h
   ·cases h
   injection h with h;injection h with _ h;subst h;omega
 split at h
 ·cases hx:Gm.num l with
  |none=>rw[hx] at h;cases h
  |some p=>
   have:=jM hx
   rw[hx] at h;simp only at h;cases hy:Gm.num p.2 with
   |none=>rw[hy] at h;cases h
   |some q=>
    have:=jM hy
    rw[hy] at h;simp only at h;cases hz:Gm.num q.2 with
    |none=>rw[hz] at h;cases h
    |some q=>have:=jM hz;rw[hz] at h;injection h with h;injection h with _ h;subst h;omega
 split at h
 ·cases hx:Gm.num l with
  |none=>rw[hx] at h;cases h
  |some p=>
   have:=jM hx
   rw[hx] at h;simp only at h;split at h
   ·cases h
   cases hy:Gm.num p.2 with
   |none=>rw[hy] at h;cases h
   |some q=>have:=jM hy;rw[hy] at h;injection h with h;injection h with _ h;subst h;omega
 split at h
 ·exact vZ _ h
 cases h
theorem nw{f:Nat}{IH:List (List Nat)}{j J:Jd}{l r:List IY}(h:Gm.JH f IH j l=X (J,r)):l≠[]:=by
 rintro rfl;cases f with
 |zero=>cases h
 |succ f=>unfold Gm.JH at h;simp[Gm.Jw,Gm.take] at h
theorem dg{f:Nat}{IH:List (List Nat)}{j J:Jd}{l r:List IY}(h:Gm.JH f IH j l=X (J,r))(hs:Gm.Jw 125 l=O):
  ∃f1 t a J1 b,Gm.take 1 l=X (t,a)/\(t.text=Gm.Kl\/t.text∉IH)/\Gm.KM t.text j a=X (J1,b)/\Gm.JH f1 (if t.text=Gm.Kl then IH else IH++[t.text]) J1 b=X (J,r):=by
 cases f with
 |zero=>cases h
 |succ f=>
  unfold Gm.JH at h;rw[hs,ng_ (by decide)] at h
  cases hx:Gm.take 1 l with
  |none=>rw[hx] at h;cases h
  |some p=>grind
theorem lQ{f:Nat}{IH:List (List Nat)}{j J:Jd}{l r:List IY}(h:Gm.JH f IH j l=X (J,r))(hs:Gm.Jw 125 l=G):Gm.J6∈IH/\J=j/\r=l.tail:=by
 cases f with
 |zero=>cases h
 |succ f=>
  unfold Gm.JH at h;rw[ps_ hs] at h;split at h
  ·grind
  cases h
theorem mI{full:Bool}{l r:List IY}{J:Jd}(h:Gm.I6 full l=X (J,r)):
  ∃e c a d b,Gm.take 1 l=X (e,c)/\e.text=[106,111,98]/\Gm.name full c=X (a,d)/\Gm.sign 123 d=X b/\Gm.JH (b.length+1) [] (Gm.Jz (ab a.text) a.IM a.Jb) b=X (J,r):=by
 unfold Gm.I6 at h
 grind
def Bt(w:Ui)(g:Nat)(A:Option Uk)(c:Nat)(T:List IY)(r:List IY)(J:Jd)(e:Un)(w':Ui):Prop:=
 ∃a' j,e=TY (.agg (ag j).toArray)/\r=T.drop a'/\cV j=J/\GP w w' g A c T a'/\
  IL w' w.heap.size 238 2 (U j.eA j.IJ.length j.ec) j.IJ.length (cH j.IJ)/\IL w' w.heap.size 9 1 (U j.nA j.IC.length j.nc) j.IC.length (ar j.IC)/\IL w' w.heap.size 241 2 (U j.lA j.IK.length j.lc) j.IK.length (I8 j.IK)
section
variable {wB W w' : Ui} {g k : Nat} {A : Option Uk} {c : Nat} {T : List IY} {a : Nat} {j : Jd} {sv : Uj} {IH : List ByteArray}
theorem JS.Ou(h:JS wB W g k A c T a j sv IH){x:ByteArray}(i:IL w' wB.heap.size 9 1 v' (IH.length+1) (ar IH++[Q x]))(d:W.grownBy w' sv.ownBlock)(hs:tI W sv v'):
  JS wB w' g k A c T a j v' (IH++[x])/\KP W w':=by
 obtain⟨l,hk⟩:=h.Kr h.IH d (by decide) (by decide)
 refine⟨⟨l,h.gl,h.kB,hk,IL.grown h.IJ h.IH (by decide) d,bT h.IC d ?_,IL.grown h.IK h.IH (by decide) d,?_,?_⟩,KP.ML h.IH d (by simp)⟩
 ·rcases h.ap with e|e|e
  ·exact bX e
  ·grind
  exact bY e
 ·rw[show ar (IH++[x])=ar IH++[Q x] by simp[ar],show(IH++[x]).length=IH.length+1 by simp]
  exact i
 rcases hs with e|⟨q,e,n⟩
 ·rcases h.ap with b|b|b
  ·exact bX b
  ·exact bY (bX (e.trans b))
  exact bY (bY (by rw[e];exact b))
 cases hv:(T_ j.nA j.IC.length j.nc).ownBlock with
 |none=>exact bX hv
 |some m=>
  refine bY (bY ?_);rw[e,hv];intro f;injection f with f
  have:=(bU h.IC m hv).2
  omega
end
theorem rI{IH:List (List Nat)}(hs:∀s∈IH,∀x∈s,x<256){t:List Nat}(a:∀x∈t,x<256):Gm.hasB (IH.map ab) (ab t)=decide (t∈IH):=by grind [Gm.hasB,jF]
def Br(wB:Ui)(g k:Nat)(A:Option Uk)(c:Nat)(T:List IY)(J:Jd)(r:List IY)(sv:Uj)(W:Ui):Prop:=
 ∃f a j IH,JS wB W g k A c T a j sv (IH.map ab)/\Gm.JH f IH (cV j) (T.drop a)=X (J,r)/\(∀s∈IH,∀x∈s,x<256)/\IH.length<=a
theorem zR{b:Ui}{T:List IY}(h:GP w b g A c T a)(x:ByteArray)(l m:Int):
  JS b ((b.alloc (H #[Z Y 15,Z E 5000] 241)).alloc (H (ag {Gm.Jz x l m with lA:=X ⟨b.heap.size,0,V⟩,lc:=1}).toArray 63)) g (b.heap.size+1) A c T a {Gm.Jz x l m with lA:=X ⟨b.heap.size,0,V⟩,lc:=1} (U V 0 0) []:=by
 refine⟨h.Jc.up (((ID.refl _).alloc _).alloc _),aQ h.I2,by omega,?_,IL.Jk _ _ _ _,IL.Jk _ _ _ _,?_,IL.Jk _ _ _ _,bX rfl⟩
 ·have:=aM (b.alloc (H #[Z Y 15,Z E 5000] 241)) (H (ag {Gm.Jz x l m with lA:=X ⟨b.heap.size,0,V⟩,lc:=1}).toArray 63)
  rwa [T2] at this
 exact(World.ownsRow_lit (base:=b.heap.size) (e:=241) (size:=2) b #[Z Y 15,Z E 5000] 1 (bM _) (by decide) rfl).alloc _
def KC(w:Ui)(k:Nat):Nat->List Uj->Ui
 |_,[]=>w
 |i,v::l=>KC (w.setCell ⟨k,i,V⟩ v) k (i+1) l
theorem gq(k:Nat):∀(l:List Uj) (w:Ui) (i:Nat),w.grownBy (KC w k i l) (X k):=by
 intro l
 induction l with
 |nil=>intro w i;exact World.grownBy.refl _ _
 |cons v l ih=>intro w i;exact(ay w k i v).trans (ih _ _)
theorem yH{a:Ui}{row:Option Nat}(hk:a.heap.size<=k):∀(l:List Uj) (w:Ui) (i:Nat),a.grownBy w row->a.grownBy (KC w k i l) row:=by
 intro l
 induction l with
 |nil=>intro w i h;exact h
 |cons v l ih=>intro w i h;exact ih _ _ (ie h hk i v)
theorem gH(h:b≠k):∀(l:List Uj) (w:Ui) (i:Nat),(KC w k i l).heap[b]? =w.heap[b]?:=by
 intro l
 induction l with
 |nil=>intro w i;rfl
 |cons v l ih=>intro w i;exact(ih _ _).trans (aL w ⟨k,i,V⟩ b v h)
theorem eP{n:Nat}{t:Um}(a:IL w B e s v n xs)(b:w.heap[k]? =X (H cs t fz))(hne:e≠t)(l:List Uj)(i:Nat):IL (KC w k i l) B e s v n xs:=
 bT a (gq k l w i) (by
  cases hv:v.ownBlock with
  |none=>exact bX rfl
  |some q=>right;rw[<-hv];exact fun e=>db a b hne e.symm)
theorem GD{T:List IY}(h:GP w w g A c T a){full:Bool}{J:Jd}{r:List IY}(hm:Gm.I6 full (T.drop a)=X (J,r)):
  Ul Up 67 #[M (X ⟨g,0,V⟩),K full] w (Bt w g A c T r J):=by
 obtain⟨t1,_,D,r2,_,h1,h2,h3,h4,h5⟩:=mI hm;obtain rfl:=(ax (aq h1).1).2.2;obtain rfl:=(ax (aq (eB h3).1).1).2.2;obtain⟨_,a1,bt⟩:=kM h4;obtain rfl:=(ax a1).2.2;have hz:=fun o=>h.up ((ID.refl w).alloc o)
 have ah:Hid (∀W,GP W W g A c T a->Ul Up 136 #[M (X ⟨g,0,V⟩),Z Y 1] W (eN W g A c T (cZ t1) (a+1))):=aJ (fun W I=>jw I h1)
 have HN:=aJ (fun W (I:GP W W g A c T (a+1))=>ti I h3)
 have aX:=aJ (fun W (I:GP W W g A c T (a+1+1))=>zP I 123 (by decide) h4 ⟨#[123]⟩ rfl)
 have HM:=aJ h5
 unfold cZ at ah HN;rw[h2] at ah;have HG:=aJ h;clear h hm h1 h2 h3 h4 h5 a1 bt hz;have HE:Hid (ab [106,111,98]=⟨#[106,111,98]⟩):=aJ rfl;rw[HE.out] at ah;generalize hx:ab D.text=x at *;clear HE;obtain⟨w1,al⟩:∃w1,w.alloc (H #[Q ⟨#[]⟩,Q ⟨#[]⟩,U V 0 0,U V 0 0,K O,Q ⟨#[]⟩,Z Y 0,Z E 0,Z E 0,Z E 0,Z Y 0,Z E 0,U V 0 0,Z Y 0,Z Y 0] 63)=w1:=⟨_,rfl⟩
 have aH:Hid (GP w w1 g A c T a):=aJ (by rw[<-al];exact HG.up ((ID.refl _).alloc _))
 have ao:Hid (w1.heap[w.heap.size]? =X (H #[Q ⟨#[]⟩,Q ⟨#[]⟩,U V 0 0,U V 0 0,K O,Q ⟨#[]⟩,Z Y 0,Z E 0,Z E 0,Z E 0,Z Y 0,Z E 0,U V 0 0,Z Y 0,Z Y 0] 63 (0,0))):=aJ (by rw[<-al];exact aM _ _)
 have aZ:=aJ al
 clear al;go_enter func67,ntmps67;go_upto_region 1 with fail
 rw[aZ.out];have P:=aJ (aQ HG.I2);obtain⟨kr,aj⟩:∃kr,w.heap.size=kr:=⟨_,rfl⟩
 have bg:=aJ aj
 rw[aj] at ao P ⊢;clear aj aZ;go_wp2_with fail;refine(ah _ aH.Jc).mono ?_;rintro e w2 ⟨rfl,h2⟩;have aI:=aJ (aH.trans h2);have aE:Hid (w2.heap[kr]? =X (H #[Q ⟨#[]⟩,Q ⟨#[]⟩,U V 0 0,U V 0 0,K O,Q ⟨#[]⟩,Z Y 0,Z E 0,Z E 0,Z E 0,Z Y 0,Z E 0,U V 0 0,Z Y 0,Z Y 0] 63 (0,0))):=aJ ((h2.gr.block kr (aQ ao) (fun e=>by injection e with e;have:=P.out;omega)).trans ao)
 obtain⟨w3,k⟩:∃w3,w2.alloc (H #[Z Y (t1.IF:Int),Q ⟨#[106,111,98]⟩,Z Y (t1.IM:Int),Z Y (t1.Jb:Int)] 146)=w3:=⟨_,rfl⟩
 have ap:Hid (GP w w3 g A c T (a+1)):=aJ (by rw[<-k];exact aI.up ((ID.refl _).alloc _))
 have l:Hid (w3.heap[kr]? =X (H #[Q ⟨#[]⟩,Q ⟨#[]⟩,U V 0 0,U V 0 0,K O,Q ⟨#[]⟩,Z Y 0,Z E 0,Z E 0,Z E 0,Z Y 0,Z E 0,U V 0 0,Z Y 0,Z Y 0] 63 (0,0))):=aJ (by rw[<-k];exact((ID.refl _).alloc _).block aE)
 have av:Hid (w3.heap[w2.heap.size]? =X (H #[Z Y (t1.IF:Int),Q ⟨#[106,111,98]⟩,Z Y (t1.IM:Int),Z Y (t1.Jb:Int)] 146 (0,0))):=aJ (by rw[<-k];exact aM _ _)
 have ai:=aJ k
 clear aI aE k;go_upto_region 2 with fail
 rw[ai.out];obtain⟨kt,ak⟩:∃kt,w2.heap.size=kt:=⟨_,rfl⟩
 rw[ak] at av ⊢;clear ak ai;have s1:=cr_ av 1 (Q ⟨#[106,111,98]⟩);go_wp2_with fail;refine(HN _ ap.Jc).mono ?_;rintro e w4 ⟨rfl,h4⟩;have aK:=aJ (ap.trans h4);have ad:Hid (w4.heap[kr]? =X (H #[Q ⟨#[]⟩,Q ⟨#[]⟩,U V 0 0,U V 0 0,K O,Q ⟨#[]⟩,Z Y 0,Z E 0,Z E 0,Z E 0,Z Y 0,Z E 0,U V 0 0,Z Y 0,Z Y 0] 63 (0,0))):=aJ ((h4.gr.block kr (aQ l) (fun e=>by injection e with e;have:=P.out;omega)).trans l)
 clear h4 HN ap l av s1;obtain⟨i,ac⟩:∃i,w4.alloc (H #[Z Y (D.IF:Int),Q x,Z Y (D.IM:Int),Z Y (D.Jb:Int)] 146)=i:=⟨_,rfl⟩
 have ae:Hid (GP w i g A c T (a+1+1)):=aJ (by rw[<-ac];exact aK.up ((ID.refl _).alloc _))
 have L:Hid (i.heap[kr]? =X (H #[Q ⟨#[]⟩,Q ⟨#[]⟩,U V 0 0,U V 0 0,K O,Q ⟨#[]⟩,Z Y 0,Z E 0,Z E 0,Z E 0,Z Y 0,Z E 0,U V 0 0,Z Y 0,Z Y 0] 63 (0,0))):=aJ (by rw[<-ac];exact((ID.refl _).alloc _).block ad)
 have F:Hid (i.heap[w4.heap.size]? =X (H #[Z Y (D.IF:Int),Q x,Z Y (D.IM:Int),Z Y (D.Jb:Int)] 146 (0,0))):=aJ (by rw[<-ac];exact aM _ _)
 have a0:=aJ ac
 clear aK ad ac;go_upto_region 5 with fail
 rw[a0.out];obtain⟨ku,a8⟩:∃ku,w4.heap.size=ku:=⟨_,rfl⟩
 rw[a8] at F ⊢;clear a8 a0;have s1:=cr_ F 1 (Q x);have s2:=cr_ F 2 (Z Y (D.IM:Int));have s3:=cr_ F 3 (Z Y (D.Jb:Int));have ul:ku<i.heap.size:=aQ F;go_upto_region 6 with fail
 obtain⟨w7,aB⟩:∃w7,(i.alloc (H #[Z Y 15,Z E 5000] 241)).alloc (H (ag {Gm.Jz x D.IM D.Jb with lA:=X ⟨i.heap.size,0,V⟩,lc:=1}).toArray 63)=w7:=⟨_,rfl⟩
 have af:Hid (JS i w7 g (i.heap.size+1) A c T (a+1+1) {Gm.Jz x D.IM D.Jb with lA:=X ⟨i.heap.size,0,V⟩,lc:=1} (U V 0 0) []):=aJ (by rw[<-aB];exact zR ae _ _ _)
 have bl:=aJ aB
 clear aB s1 s2 s3 ul F;rw[show(i.alloc (H #[Z Y 15,Z E 5000] 241)).alloc (H #[Q x,Q ⟨#[]⟩,U V 0 0,U V 0 0,K O,Q ⟨#[]⟩,Z Y 2,Z E 100,Z E 10000,Z E 10000,Z Y 5,Z E 60000,U (X ⟨i.heap.size,0,V⟩) 1 1,Z Y (D.IM:Int),Z Y (D.Jb:Int)] 63)=w7 from bl.out]
 obtain⟨kj,bu⟩:∃kj,i.heap.size+1=kj:=⟨_,rfl⟩
 rw[bu] at af ⊢;go_wp2_with fail;refine(aX _ af.gp.Jc).mono ?_;rintro e w8 ⟨rfl,h8⟩;have aO:Hid (Br i g kj A c T J r (U V 0 0) w8):=aJ ⟨_,a+1+1+1,_,[],af.call h8,HM,by simp,by simp⟩
 clear h8 aX af HM;go_wp2;go_loopw [8] (fun v wr=>Br i g kj A c T J r v wr) (fun _ wr=>T.length-KN wr g)
 case atStart=>exact aO
 obtain⟨f,a,j,IH,hj,hm,hs,hl⟩:=hrel;clear aO;have ha:a<T.length:=by
  rcases T3 a T.length with h2|h2
  ·exact h2
  exact absurd (T4 h2) (nw hm)
 have HB:=aJ (pU hj.gp ha 125 (by decide) ⟨#[125]⟩ rfl)
 obtain⟨sA,sc,rfl,be,_⟩:=hj.IH.shape;rw[bL] at hj;have HJ:=aJ hj;have C:IH.length<=100000:=by have:=hj.gp.JA;omega
 by_cases B:Gm.Jw 125 (T.drop a)=G
 ·rw[B] at HB;obtain⟨am,rfl,rfl⟩:=lQ hm B;have S:=fun W (I:Rs W sA (ar (IH.map ab)))=>zU sA sc (IH.map ab) ⟨#[114,117,110]⟩ W I (by rw[bL];omega)
  rw[show Gm.hasB (IH.map ab) ⟨#[114,117,110]⟩=G from(rI hs (t:=Gm.J6) (by decide)).trans (decide_eq_true am)] at S
  have HH:=aJ S
  have bh:=aJ ha
  have bc:=(hj.gp.gr.block kr (aQ L) (fun e=>by injection e with e;have:=P.out;omega)).trans L
  have bi:=aJ bc
  have aj:kr≠kj:=by have:=hj.kB;have:=aQ L;omega
  have a6:g≠kr:=by have:=P.out;omega
  have a7:kr≠g:=Ne.symm a6
  clear hj hm hs be B am ha bc S L hl C;go_wp2_with fail;refine(HB).mono ?_;rintro e w9 ⟨rfl,hd⟩;have n:=aJ (HJ.up hd);have aW:=aJ (hd.block bi);have q:=aJ (HH w9 (by obtain⟨A2,c2,e2,h3,_⟩:=n.IH.shape;injection e2 with e3 e4 e5;subst e3;exact h3.rs))
  clear HH;rw[bL] at q;go_wp2_with fail;refine(q).mono ?_;rintro e w' ⟨rfl,rfl⟩;clear q;obtain⟨_,p1,f1⟩:=n.gp.cells;have i1:(a:Int)<100000:=by have:=n.out.gp.JA;have:=bh.out;omega
  have i0:(0:Int)<=(a:Int):=by omega
  go_upto_region 20 with fail
  obtain⟨p,aD⟩:∃p,w'.setCell ⟨g,1,V⟩ (Z Y ((a:Int)+1))=p:=⟨_,rfl⟩
  obtain⟨aw,_⟩:=n.next;have b:Hid (p.heap[kr]? =X (H #[Q ⟨#[]⟩,Q ⟨#[]⟩,U V 0 0,U V 0 0,K O,Q ⟨#[]⟩,Z Y 0,Z E 0,Z E 0,Z E 0,Z Y 0,Z E 0,U V 0 0,Z Y 0,Z Y 0] 63 (0,0))):=aJ (by rw[<-aD];exact(aL w' ⟨g,1,V⟩ kr (Z Y ((a:Int)+1)) a7).trans aW)
  rw[aD] at aw ⊢;have d:=aJ aw;clear aw aD n aW p1 f1 i1 i0;have HX:Hid (∀W,W=KC p kr 0 (ag j)->Bt w g A c T (T.drop a).tail (cV j) (TY (.agg (ag j).toArray)) W):=aJ (by
   rintro W rfl;have hb:w.heap.size<=i.heap.size:=ae.gr.size;refine⟨a+1,j,rfl,by rw[T8],rfl,GP.turn HG (yH (T5 bg) _ _ _ (ae.gr.trans d.gp.gr)) ((gH a6 _ _ _).trans d.gp.I2),?_,?_,?_⟩
   ·exact(eP d.IJ b (by decide) _ _).base hb
   ·exact(eP d.IC b (by decide) _ _).base hb
   exact(eP d.IK b (by decide) _ _).base hb)
  have c0:=(d.cell 0 (v:=Q j.nm) rfl).1
  have c1:=(d.cell 1 (v:=Q j.run) rfl).1
  have c2:=(d.cell 2 (v:=U j.eA j.IJ.length j.ec) rfl).1
  have c3:=(d.cell 3 (v:=U j.nA j.IC.length j.nc) rfl).1
  have c4:=(d.cell 4 (v:=K j.IQ) rfl).1
  have c5:=(d.cell 5 (v:=Q j.ready) rfl).1
  have c6:=(d.cell 6 (v:=Z Y j.IE) rfl).1
  have c7:=(d.cell 7 (v:=Z E j.base) rfl).1
  have c8:=(d.cell 8 (v:=Z E j.cap) rfl).1
  have c9:=(d.cell 9 (v:=Z E j.IG) rfl).1
  have bn:=(d.cell 10 (v:=Z Y j.II) rfl).1
  have bo:=(d.cell 11 (v:=Z E j.win) rfl).1
  have bp:=(d.cell 12 (v:=U j.lA j.IK.length j.lc) rfl).1
  have bq:=(d.cell 13 (v:=Z Y j.IM) rfl).1
  have br:=(d.cell 14 (v:=Z Y j.Jb) rfl).1
  have b0:=cr_ b 0 (Q ⟨#[]⟩)
  have z0:=aN p kr 0 _ _ b
  have b1:=cr_ b 1 (Q ⟨#[]⟩)
  have z1:=aN p kr 1 _ _ b
  have b2:=cr_ b 2 (U V 0 0)
  have z2:=aN p kr 2 _ _ b
  have b3:=cr_ b 3 (U V 0 0)
  have z3:=aN p kr 3 _ _ b
  have b4:=cr_ b 4 (K O)
  have z4:=aN p kr 4 _ _ b
  have b5:=cr_ b 5 (Q ⟨#[]⟩)
  have z5:=aN p kr 5 _ _ b
  have b6:=cr_ b 6 (Z Y 0)
  have z6:=aN p kr 6 _ _ b
  have b7:=cr_ b 7 (Z E 0)
  have z7:=aN p kr 7 _ _ b
  have b8:=cr_ b 8 (Z E 0)
  have z8:=aN p kr 8 _ _ b
  have b9:=cr_ b 9 (Z E 0)
  have z9:=aN p kr 9 _ _ b
  have b10:=cr_ b 10 (Z Y 0)
  have bx:=aN p kr 10 _ _ b
  have b11:=cr_ b 11 (Z E 0)
  have bz:=aN p kr 11 _ _ b
  have b12:=cr_ b 12 (U V 0 0)
  have bA:=aN p kr 12 _ _ b
  have bm:=cr_ b 13 (Z Y 0)
  have bB:=aN p kr 13 _ _ b
  have b14:=cr_ b 14 (Z Y 0)
  have bC:=aN p kr 14 _ _ b
  go_wp2
  clear c0 c1 c2 c3 c4 c5 c6 c7 c8 c9 bn bo bp bq br z0 z1 z2 z3 z4 z5 z6 z7 z8 z9 bx bz bA bB bC;refine aP (v:= .agg #[Q j.nm,Q j.run,U j.eA j.IJ.length j.ec,U j.nA j.IC.length j.nc,K j.IQ,Q j.ready,Z Y j.IE,Z E j.base,Z E j.cap,Z E j.IG,Z Y j.II,Z E j.win,U j.lA j.IK.length j.lc,Z Y j.IM,Z Y j.Jb]) (by simp[results,results67,go_sem,b0,b1,b2,b3,b4,b5,b6,b7,b8,b9,b10,b11,b12,bm,b14]) rfl ?_
  exact HX _ rfl
 rw[T9] at B;rw[B] at HB;obtain⟨f1,t,_,J1,r2,m1,m2,m3,m4⟩:=dg hm B;obtain rfl:=(ax (aq m1).1).2.2;have aa:=M8.at_ hj.gp.lt (aq m1).1;have HT:Hid (∀W,GP W W g A c T a->Ul Up 136 #[M (X ⟨g,0,V⟩),Z Y 1] W (eN W g A c T (cZ t) (a+1))):=aJ (fun W I=>jw I m1)
 have aR:=aJ (fun W=>zS t.text aa (oT (by rw[m3];rfl)) W)
 have au:=aJ (fun W sv sn (I:JS i W g kj A c T (a+1) j sv sn)=>Fa I m3 (nw m4))
 have q:=aJ (fun W (I:Rs W sA (ar (IH.map ab)))=>zU sA sc (IH.map ab) (ab t.text) W I (by rw[bL];omega))
 rw[rI hs aa,bL] at q;have N:Hid (∀(sn:List (List Nat)) (sv:Uj) (wa W:Ui),(if t.text=Gm.Kl then IH else IH++[t.text])=sn->aU wa i g kj A c T r2 J1 sv (sn.map ab) (TY (TZ #[])) W->Br i g kj A c T J r sv W/\T.length-KN W g<T.length-KN wr g):=aJ (fun sn sv wa W C hp=>by
  obtain⟨a',j',_,p1,p2,p3,_⟩:=hp;have bv:=ny m3;have hne:=nw m4;have bb:0<r2.length:=by cases r2 with|nil=>exact absurd rfl hne|cons x y=>simp
  rw[p1,T0] at bb;rw[p1,T0,T0] at bv;rw[C,p1,<-p2] at m4;refine⟨⟨f1,a',j',sn,p3,m4,?_,?_⟩,?_⟩
  ·rw[<-C];split
   ·exact hs
   intro s z;rw[T6] at z;rcases z with z|z
   ·exact hs s z
   rw[T7] at z;rw[z];exact aa
  ·have:sn.length<=IH.length+1:=by rw[<-C];split<;>simp
   omega
  rw[p3.gp.KN,hj.gp.KN];omega)
 have aY:=aJ aa
 have aT:=aJ m2
 have bk:Hid (IH.length<=100000):=aJ C
 clear hj hm hs be B m1 m2 m3 m4 aa hl ha C L ae HG;go_wp2_with fail;refine(HB).mono ?_;rintro e w9 ⟨rfl,hd⟩;have n:=aJ (HJ.up hd);clear hd HB HJ;unfold cZ at HT;go_wp2_with fail;refine(HT _ n.gp.Jc).mono ?_;rintro e w2 ⟨rfl,h2⟩;have aS:=aJ (n.call h2);clear h2 HT n;obtain⟨w3,k⟩:∃w3,w2.alloc (H #[Z Y (t.IF:Int),Q (ab t.text),Z Y (t.IM:Int),Z Y (t.Jb:Int)] 146)=w3:=⟨_,rfl⟩
 have u:Hid (JS i w3 g kj A c T (a+1) j (U sA IH.length sc) (IH.map ab)):=aJ (by rw[<-k];exact aS.up ((ID.refl _).alloc _))
 have l:Hid (w3.heap[w2.heap.size]? =X (H #[Z Y (t.IF:Int),Q (ab t.text),Z Y (t.IM:Int),Z Y (t.Jb:Int)] 146 (0,0))):=aJ (by rw[<-k];exact aM _ _)
 have ai:=aJ k
 clear aS k;go_upto_region 10 with fail
 rw[ai.out];obtain⟨kt,ak⟩:∃kt,w2.heap.size=kt:=⟨_,rfl⟩
 rw[ak] at l ⊢;have s1:=cr_ l 1 (Q (ab t.text));go_wp2_with fail;refine(aR w3).mono ?_;rintro e w' ⟨rfl,rfl⟩;clear aR;go_upto_region 12 with fail
 by_cases he:t.text=Gm.Kl
 ·have e1:((ab t.text).toList==[101,110,118])=G:=by rw[he];exact az [101,110,118]
  have HE:=aJ (N IH (U sA IH.length sc) w' · (ps_ he))
  have HC:=aJ (au _ _ _ u)
  clear N au aY aT q he u l;go_wp2_with fail;refine(HC).mono ?_;rintro e w4 ay;obtain rfl:e=TY (TZ #[]):=by obtain⟨_,_,e2,_⟩:=ay;exact e2
  have R:=aJ (HE _ ay)
  clear ay HE HC;go_wp2;go_roundw
  case rel=>exact R.1
  exact R.2
 have e1:((ab t.text).toList==[101,110,118])=O:=aC (m:=[101,110,118]) aY (by decide) he
 have bw:t.text∉IH:=aT.resolve_left he
 rw[decide_eq_false bw] at q;have aG:=aJ (q w' (by obtain⟨A2,c2,e2,h3,_⟩:=u.IH.shape;injection e2 with e3 e4 e5;subst e3;exact h3.rs))
 have bj:=aJ (ng_ he:(if t.text=Gm.Kl then IH else IH++[t.text])=IH++[t.text])
 go_wp2_with fail;refine(aG).mono ?_;rintro e w' ⟨rfl,rfl⟩;clear aG;have hown:=u.IH;rw[bL] at hown;have aV:=aJ hown;have aF:Hid (i.heap.size<=w'.heap.size):=aJ u.gp.gr.size;have bd:=bk.out;clear hown;go_wp2_with (at_builtin;refine gh (wr:=w') rfl _ _ 59 rfl _ 9 (Q ⟨#[]⟩) 1 16 underlying59 o5 rfl (by decide) (by decide) _ _ _ rfl aV 1 1 [Q (ab t.text)] rfl rfl rfl rfl ?pn1 aF (by decide) ?_)
 case pn1=>omega
 intro v4 w4 a9 a2 an;have ba:IL w4 i.heap.size 9 1 v4 ((IH.map ab).length+1) (ar (IH.map ab)++[Q (ab t.text)]):=by rw[bL];exact a9
 obtain⟨a3,a5⟩:=u.Ou ba a2 an;have a4:JS i w4 g kj A c T (a+1) j v4 ((IH++[t.text]).map ab):=by rw[Uc];exact a3
 have bf:=aJ a4
 have ad:=aJ (a5 _ _ _ _ l (by decide) (by decide) (by decide) (by decide) (by decide))
 clear a9 ba a2 an a3 a5 a4 aV aF u l s1 bd;have s1:=cr_ ad 1 (Q (ab t.text));have HE:=aJ (fun W=>N (IH++[t.text]) v4 w4 W bj)
 have HC:=aJ (au _ _ _ bf)
 go_wp2_with fail;refine(HC).mono ?_;rintro e _ aA;obtain rfl:e=TY (TZ #[]):=by obtain⟨_,_,e2,_⟩:=aA;exact e2
 have R:=aJ (HE _ aA)
 clear aA HE HC;go_wp2;go_roundw
 case rel=>exact R.1
 exact R.2
theorem o6:(Up.info? 63).map (fun i=>(i.zero,i.size,i.bytes))=X (X (.agg #[Q ⟨#[]⟩,Q ⟨#[]⟩,U V 0 0,U V 0 0,K O,Q ⟨#[]⟩,Z Y 0,Z E 0,Z E 0,Z E 0,Z Y 0,Z E 0,U V 0 0,Z Y 0,Z Y 0]),15,192):=by kernel_rfl
theorem E5(j:Jd):(ag j).all Ud=G:=by simp[ag,Ud]
theorem uT(l:List Jd)(j:Jd):fY (l++[j])=fY l++ag j:=by simp[fY]
theorem C5(p q:Uk)(w:Ui):
  CallsD Up 65 #[M (X p),M (X q)] .returning w fun e c w'=>e=TY (TZ #[])/\c= .returning/\w'=w:=by
 refine callsD_of_wpS func65 rfl fun a cs b=>?_
 apply wpS_seq;apply wpS_region;simp[wpOpsS,go_sem,recoverD,b,ntmps65,Exit.thenS];apply wpS_seq;apply wpS_region;simp[wpOpsS,go_sem,Exit.thenS];refine wpS_cond (t:=O) (by simp[Act.eval,Array.replicate]) ?_
 simp only[Bool.false_eq_true,if_false];refine wpS_of_wp (wp_skip ?_);cases a;simp_all [bodyPostS,results,results65]
theorem wX:∀(f:Nat) {IH:List (List Nat)} {j J:Jd} {l r:List IY},Gm.JH f IH j l=X (J,r)->r.length<=l.length:=by
 intro f
 induction f with
 |zero=>intro IH j J l r h;cases h
 |succ f ih=>
  intro IH j J l r h;cases hs:Gm.Jw 125 l with
  |true=>obtain⟨_,_,rfl⟩:=lQ h hs;rw[Ub];omega
  |false=>
   unfold Gm.JH at h;rw[hs,ng_ (by decide)] at h
   cases hx:Gm.take 1 l with
   |none=>grind
   |some p=>
    have h1:=gC hx
    rw[hx] at h;simp only at h;split at h
    ·cases h
    cases hy:Gm.KM p.1.text j p.2 with
    |none=>rw[hy] at h;cases h
    |some q=>
     have h2:=ny hy
     rw[hy] at h;have a:=ih h;omega
theorem mH{full:Bool}{l r:List IY}{J:Jd}(h:Gm.I6 full l=X (J,r)):r.length<l.length:=by
 obtain⟨_,_,_,_,_,h1,_,a,b,c⟩:=mI h;have:=gC h1;have:=np a;have:=qP b;have:=wX _ c;omega
theorem zB{full:Bool}{l r:List IY}{J:Jd}(h:Gm.I6 full l=X (J,r)):full=O:=by
 obtain⟨_,_,_,_,_,h1,_,a,_,_⟩:=mI h;exact(eB a).2.2
theorem oQ{f:Nat}{IW L:List Jd}{T:List IY}(h:Gm.Js f IW (T.drop a)=X L):
  a<T.length/\(((T.getD a dT).IF=6/\IW=L)\/((T.getD a dT).IF≠6/\IW.length<32/\∃f1 J b,Gm.I6 O (T.drop a)=X (J,b)/\Gm.Js f1 (IW++[J]) b=X L)):=by
 cases f with
 |zero=>cases h
 |succ f=>
  have ha:a<T.length:=by
   rcases T3 a T.length with h2|h2
   ·exact h2
   rw[T4 h2] at h;cases h
  refine⟨ha,?_⟩;rw[nG ha] at h ⊢;unfold Gm.Js at h;split at h
  ·grind
  next hk=>
  cases hx:Gm.I6 (decide (32<=IW.length)) (T.getD a dT::T.drop (a+1)) with
  |none=>rw[hx] at h;cases h
  |some p=>
   obtain⟨J,b⟩:=p;rw[hx] at h;have c:=zB hx;rw[c] at hx;rw[decide_eq_false_iff_not] at c;exact bY ⟨hk,by omega,f,J,b,hx,h⟩
theorem uJ{f:Nat}{IW L:List Jd}{l:List IY}(h:Gm.Js f IW l=X L):l≠[]:=by
 rintro rfl;cases f<;>cases h
structure Mv(w:Ui)(B:Nat)(j:Jd):Prop where
 IJ:IL w B 238 2 (.slice j.eA j.IJ.length j.ec) j.IJ.length (cH j.IJ)
 IC:IL w B 9 1 (.slice j.nA j.IC.length j.nc) j.IC.length (ar j.IC)
 IK:IL w B 241 2 (.slice j.lA j.IK.length j.lc) j.IK.length (I8 j.IK)
theorem Mv.up{j:Jd}(h:Mv w B j)(a:ID w w'):Mv w' B j:=⟨h.IJ.up a,h.IC.up a,h.IK.up a⟩
theorem Mv.base{j:Jd}(h:Mv w B j)(a:b<=B):Mv w b j:=⟨h.IJ.base a,h.IC.base a,h.IK.base a⟩
theorem Mv.row{j:Jd}(h:Mv w B j){t:Um}(c:w.heap[k]? =X (H cs t fz))(d:w.grownBy w' (X k))(h1:238≠t)(h2:9≠t)(b:241≠t):Mv w' B j:=by
 have kp:∀{e:Um} {s:Nat} {v:Uj} {n:Nat} {xs:List Uj},IL w B e s v n xs->e≠t->IL w' B e s v n xs:=fun {e s v n xs} a hne=>bT a d (by
  cases hv:v.ownBlock with
  |none=>simp
  |some q=>right;rw[<-hv];exact fun e=>db a c hne e.symm)
 exact⟨kp h.IJ h1,kp h.IC h2,kp h.IK b⟩
theorem Mv.grow{j:Jd}(h:Mv w B j){n:Nat}(hv:IL w b 63 15 v n xs)(a:w.grownBy w' v.ownBlock):Mv w' B j:=
 ⟨IL.grown h.IJ hv (by decide) a,IL.grown h.IC hv (by decide) a,IL.grown h.IK hv (by decide) a⟩
def mc(w:Ui)(L:List Jd)(e:Un)(w':Ui):Prop:=
 ∃v js,e=TY (TZ #[v,bC])/\IL w' w.heap.size 63 15 v js.length (fY js)/\js.map cV=L/\(∀j∈js,Mv w' w.heap.size j)/\ID w w'
structure K8(w:Ui)(g kb kf:Nat)(A:Option Uk)(c:Nat)(T:List IY)(W:Ui)(a:Nat)(js:List Jd)(v:Uj):Prop where
 gp:GP w W g A c T a
 gg:w.heap.size<=g/\g≠kb/\g≠kf/\w.heap.size<=kb/\kb≠kf
 kb:W.heap[kb]? =some (.cells #[v] 23 (0,0))
 kf:W.heap[kf]? =some (.cells #[.int .i64 0,.int .i64 0,.int .i64 0] 29 (0,0))
 own:IL W w.heap.size 63 15 v js.length (fY js)
 rows:∀j∈js,Mv W w.heap.size j
section
variable {w W W' : Ui} {g kb kf : Nat} {A : Option Uk} {c : Nat} {T : List IY} {a a' : Nat} {js : List Jd} {v : Uj}
theorem K8.up(h:K8 w g kb kf A c T W a js v)(b:ID W W'):K8 w g kb kf A c T W' a js v:=
 ⟨h.gp.up b,h.gg,b.block h.kb,b.block h.kf,h.own.up b,fun j hj=>(h.rows j hj).up b⟩
theorem K8.call(h:K8 w g kb kf A c T W a js v)(b:GP W W' g A c T a'):K8 w g kb kf A c T W' a' js v:=by
 refine⟨h.gp.trans b,h.gg,(b.gr.block kb (aQ h.kb) (fun e=>h.gg.2.1 (by injection e with e;exact e.symm))).trans h.kb,(b.gr.block kf (aQ h.kf) (fun e=>h.gg.2.2.1 (by injection e with e;exact e.symm))).trans h.kf,?_,fun j hj=>(h.rows j hj).row h.gp.I2 b.gr (by decide) (by decide) (by decide)⟩
 refine bT h.own b.gr ?_;cases hv:v.ownBlock with
 |none=>simp
 |some q=>right;rw[<-hv];exact fun e=>db h.own h.gp.I2 (by decide) e.symm
theorem K8.push(h:K8 w g kb kf A c T W a js v){j:Jd}(hj:Mv W w.heap.size j)(u:IL W' w.heap.size 63 15 v' (js.length+1) (fY js++ag j))(f:W.grownBy W' v.ownBlock):
  ∃A' c',v'=U A' (js.length+1) c'/\W'.cell? ⟨kb,0,V⟩=X v/\W'.frozen? ⟨kb,0,V⟩=O/\K8 w g kb kf A c T (W'.setCell ⟨kb,0,V⟩ (U A' (js.length+1) c')) a (js++[j]) (U A' (js.length+1) c'):=by
 obtain⟨A',c',rfl,_,_⟩:=u.shape;have p:∀q,v.ownBlock=X q->w.heap.size<=q:=fun q y=>(bU h.own q y).1
 have k:∀{b:Nat} {cs:Array Uj} {t:Um} {fz:Nat×Nat},W.heap[b]? =X (H cs t fz)->63≠t->W'.heap[b]? =X (H cs t fz):=fun {b cs t fz} l hne=>(f.block b (aQ l) (db h.own l hne)).trans l
 have d:=k h.kb (by decide)
 have o:=k h.kf (by decide)
 have m:=k h.gp.I2 (by decide)
 have n:w.grownBy W' (X g):=⟨f.os.trans h.gp.gr.os,f.tape.trans h.gp.gr.tape,f.output.trans h.gp.gr.output,bN h.gp.gr.size f.size,fun i s hne=>(f.block i (Nat.lt_of_lt_of_le s h.gp.gr.size) (fun e=>by have:=p i e.symm;omega)).trans (h.gp.gr.block i s hne)⟩
 refine⟨A',c',rfl,(aK W' kb 0 _ _ _ d).trans rfl,aN W' kb 0 _ _ d,⟨⟨ie n h.gg.2.2.2.1 0 _,(aL W' ⟨kb,0,V⟩ g _ h.gg.2.1).trans m,(h.gp.tk.grown h.own (by decide) f).JQ d (by decide) _,h.gp.JA,h.gp.lt⟩,h.gg,aO W' kb 0 _ _ _ d,(aL W' ⟨kb,0,V⟩ kf _ (Ne.symm h.gg.2.2.2.2)).trans o,?_,?_⟩⟩
 ·rw[uT,bF];exact eP u d (by decide) [U A' (js.length+1) c'] 0
 intro x hx;have r:Mv W' w.heap.size x:=by
  rcases T6.1 hx with hx|hx
  ·exact(h.rows x hx).grow h.own f
  rw[T7] at hx;subst hx;exact hj.grow h.own f
 exact r.row d (ay _ _ _ _) (by decide) (by decide) (by decide)
end
theorem tv(h:w.heap[k]? =X (H #[Z Y 0,Z Y 0,Z Y 0] 29 (0,0))):
  (((w.setCell ⟨k,0,V⟩ (Z Y 0)).setCell ⟨k,1,V⟩ (Z Y 0)).setCell ⟨k,2,V⟩ (Z Y 0)).heap[k]? =X (H #[Z Y 0,Z Y 0,Z Y 0] 29 (0,0)):=
 aO _ k 2 _ _ (Z Y 0) (aO _ k 1 _ _ (Z Y 0) (aO w k 0 _ _ (Z Y 0) h))
theorem C4(s:ByteArray)(w:Ui){T:List IY}{L:List Jd}(hl:Lx.all (bs s)=X T)(ay:M8 T)(hf:T.length<=100000)(hm:Gm.parse T=X L):
  Ul Up 32 #[Q s] w (mc w L):=by
 have aT:∀(fn:Fn) (first cap:Array Uj) (w:Ui),(Instr.makeFunc fn first cap).run Up w= .ok (.func fn first cap) w:=fun _ _ _ _=>rfl
 have aR:∀(x:Int) (y:ByteArray) (z u:Int) (w:Ui),(Instr.field 146 (.agg #[Z Y x,Q y,Z Y z,Z Y u]) 0).run Up w= .ok (Z Y x) w:=fun _ _ _ _ _=>by kernel_rfl
 have HX:=aJ (fun W=>F8 s T W hl)
 have an:=aJ ay
 have HF:=aJ hf
 have HM:Hid (Gm.Js (T.length+1) [] (T.drop 0)=X L):=aJ hm
 clear hl ay hf hm;obtain⟨w1,o⟩:∃w1,(w.alloc (H #[U V 0 0] 23)).alloc (H #[Z Y 0,Z Y 0,Z Y 0] 29)=w1:=⟨_,rfl⟩
 have aq:Hid (ID w w1):=aJ (by rw[<-o];exact((ID.refl _).alloc _).alloc _)
 have P:Hid (w1.heap[w.heap.size]? =X (H #[U V 0 0] 23 (0,0))):=aJ (by rw[<-o];exact((ID.refl _).alloc _).block (aM _ _))
 have N:Hid (w1.heap[w.heap.size+1]? =X (H #[Z Y 0,Z Y 0,Z Y 0] 29 (0,0))):=aJ (by rw[<-o];have:=aM (w.alloc (H #[U V 0 0] 23)) (H #[Z Y 0,Z Y 0,Z Y 0] 29);rwa [T2] at this)
 have av:=aJ o
 clear o;go_enter_defers func32,ntmps32;go_upto_region 1 with fail
 rw[av.out];obtain⟨kb,n⟩:∃kb,w.heap.size=kb:=⟨_,rfl⟩
 have S:=aJ n
 obtain⟨kf,ai⟩:∃kf,w.heap.size+1=kf:=⟨_,rfl⟩
 have am:=aJ ai
 rw[ai] at N ⊢;rw[n] at P ⊢;clear n ai av;go_wp2_with fail;refine(HX.out w1).mono ?_;rintro e w2 ⟨v,rfl,m,hd⟩;have ar:=aJ (aq.out.up hd);have al:=aJ (hd.block P.out);have D:=aJ (hd.block N.out);have ad:=aJ m;clear m hd HX aq P N;unfold bC;obtain⟨c0,c1,c2,f0,f1,f2⟩:=dE D.out;go_upto_region 2 with fail
 obtain⟨A,c,rfl,_,_⟩:=ad.out.shape;obtain⟨C,l⟩:∃C,((w2.setCell ⟨kf,0,V⟩ (Z Y 0)).setCell ⟨kf,1,V⟩ (Z Y 0)).setCell ⟨kf,2,V⟩ (Z Y 0)=C:=⟨_,rfl⟩
 have d:w.heap.size<=kf:=by have:=am.out;omega
 have i:kb≠kf:=by have:=am.out;have:=S.out;omega
 have ab:Hid (ID w C):=aJ (by rw[<-l];exact((ar.out.setCell (p:=⟨kf,0,V⟩) d _).setCell (p:=⟨kf,1,V⟩) d _).setCell (p:=⟨kf,2,V⟩) d _)
 have R:Hid (C.heap[kb]? =X (H #[U V 0 0] 23 (0,0))):=aJ (by rw[<-l];exact(aL _ ⟨kf,2,V⟩ kb _ i).trans ((aL _ ⟨kf,1,V⟩ kb _ i).trans ((aL _ ⟨kf,0,V⟩ kb _ i).trans al.out)))
 have F:Hid (C.heap[kf]? =X (H #[Z Y 0,Z Y 0,Z Y 0] 29 (0,0))):=aJ (by rw[<-l];exact tv D.out)
 have au:Hid (Ts C 146 A (dK T)):=aJ (by
  rw[<-l];have aO:=eP ad.out D.out (by decide) [Z Y 0,Z Y 0,Z Y 0] 0
  obtain⟨A2,c2,e2,h3,_⟩:=IL.shape aO;injection e2 with e3 e4 e5
  subst e3;exact h3)
 rw[l];clear l ar al D ad c0 c1 c2 f0 f1 f2;obtain⟨c0,c1,c2,f0,f1,f2⟩:=dE F.out;obtain⟨w4,aj⟩:∃w4,C.alloc (H #[U A T.length c,Z Y 0] 144)=w4:=⟨_,rfl⟩
 have ac:Hid (K8 w C.heap.size kb kf A c T w4 0 [] (U V 0 0)):=aJ (by
  rw[<-aj];have m:ID C (C.alloc (H #[U A T.length c,Z Y 0] 144)):=(ID.refl _).alloc _;have h1:=aQ R.out;have h2:=aQ F.out;refine⟨⟨dR (World.grownBy.refl _ _) (ab.out.up m),aM _ _,au.out.up m,HF.out,an.out⟩,⟨ab.out.size,by omega,by omega,T5 S.out,i⟩,m.block R.out,m.block F.out,IL.Jk _ _ _ _,by simp⟩)
 have aw:=aJ aj
 clear aj au;go_wp2_with fail;rw[aw.out];obtain⟨g,hg⟩:∃g,C.heap.size=g:=⟨_,rfl⟩
 rw[hg] at ac ⊢;clear hg aw c0 c1 c2 f0 f1 f2 ab R F an HF;go_loopw [] (fun wr=>∃f a js v,K8 w g kb kf A c T wr a js v/\Gm.Js f (js.map cV) (T.drop a)=X L) (fun wr=>T.length-KN wr g)
 case atStart=>exact⟨_,_,_,_,ac.out,HM.out⟩
 obtain⟨f,a,js,v,hr,ah⟩:=hrel;clear ac HM;obtain⟨ha,af⟩:=oQ ah;have HP:=aJ (th hr.gp ha);unfold cZ at HP;have HR:=aJ hr;have aa:=aJ hr.gp.KN;obtain⟨r,B,rfl,_,_⟩:=hr.own.shape;clear hr;rcases af with⟨h6,hL⟩|⟨h6,ae,f1,J,r',hj,hm⟩
 ·have q6:(((T.getD a dT).IF:Int) !=6)=O:=by rw[h6];rfl
  clear h6;generalize T.getD a dT=t at *;go_wp2_with fail;refine(HP.out).mono ?_;rintro e w5 ⟨rfl,hd⟩;have b:=aJ (HR.out.up hd);have HL:=aJ hL;clear hd HP HR hL aa ha ah;have b0:=cr_ b.out.kb 0 (U r js.length B);have z0:=aN w5 kb 0 _ _ b.out.kb;obtain⟨c0,c1,c2,f0,f1,f2⟩:=dE b.out.kf;have HX:Hid (mc w L (TY (TZ #[U r js.length B,bC])) (KC (KC w5 kb 0 [U r js.length B]) kf 0 [Z Y 0,Z Y 0,Z Y 0])):=aJ (by
   have h:=b.out
   have I:(KC w5 kb 0 [U r js.length B]).heap[kf]? =X (H #[Z Y 0,Z Y 0,Z Y 0] 29 (0,0)):=(gH (Ne.symm i) _ _ _).trans h.kf
   refine⟨_,js,rfl,eP (eP h.own h.kb (by decide) _ _) I (by decide) _ _,HL.out,fun j hj=>((h.rows j hj).row h.kb (gq _ _ _ _) (by decide) (by decide) (by decide)).row I (gq _ _ _ _) (by decide) (by decide) (by decide),?_⟩
   have m:ID w w5:=IU (ID.refl w) h.gp.gr (fun q e=>by injection e with e;have:=h.gg.1;omega)
   have n:w.heap.size<=kb:=T5 S.out
   exact(((m.setCell (p:=⟨kb,0,V⟩) n _).setCell (p:=⟨kf,0,V⟩) d _).setCell (p:=⟨kf,1,V⟩) d _).setCell (p:=⟨kf,2,V⟩) d _)
  clear b;go_wp2_with fail;refine leaves_cons (f:=65) (args:=#[M (X ⟨kb,0,V⟩),M (X ⟨kf,0,V⟩)]) (by simp) (by simp[go_sem]) ?_
  refine(C5 _ _ _).mono ?_;rintro e _ _ ⟨rfl,rfl,rfl⟩;refine⟨TZ #[U r js.length B,bC],by simp[bC,results,results32,go_sem,b0,c0,c1,c2],HX.out⟩
 have q6:(((T.getD a dT).IF:Int) !=6)=G:=by rw[bne_iff_ne];exact fun e=>h6 (by omega)
 have aG:=aJ (fun W (hW:GP W W g A c T a)=>GD hW hj)
 have q1:decide ((32:Int)<=(js.length:Int))=O:=by rw[decide_eq_false_iff_not];rw[bL] at ae;omega
 have aH:Hid (js.length<=32):=aJ (by rw[bL] at ae;omega)
 have ao:=aJ hm
 have ap:=aJ (uJ hm)
 have ak:=aJ (mH hj)
 clear h6 ae hj hm ah ha;generalize T.getD a dT=t at *;go_wp2_with fail;refine(HP.out).mono ?_;rintro e w5 ⟨rfl,hd⟩;have b:=aJ (HR.out.up hd);clear hd HP HR;go_upto_region 7 with fail
 have b0:=cr_ b.out.kb 0 (U r js.length B)
 have z0:=aN w5 kb 0 _ _ b.out.kb
 have aD:Hid (∀(W:Ui) (v':Uj) (w':Ui) (a':Nat) (j:Jd),K8 w g kb kf A c T W a' js (U r js.length B)->Mv W w.heap.size j->r'=T.drop a'->cV j=J->IL w' w.heap.size 63 15 v' (js.length+1) (fY js++ag j)->W.grownBy w' (T_ r js.length B).ownBlock->
   ∃A' c',v'=U A' (js.length+1) c'/\w'.cell? ⟨kb,0,V⟩=X (U r js.length B)/\w'.frozen? ⟨kb,0,V⟩=O/\Hid ((∃f2 a2 aC v2,K8 w g kb kf A c T (w'.setCell ⟨kb,0,V⟩ (U A' (js.length+1) c')) a2 aC v2/\Gm.Js f2 (aC.map cV) (T.drop a2)=X L)/\T.length-KN (w'.setCell ⟨kb,0,V⟩ (U A' (js.length+1) c')) g<T.length-KN wr g)):=aJ (fun W v' w' a' j h1 h2 h3 h4 h5 h6=>by
  obtain⟨A',c',e1,e2,e3,e4⟩:=h1.push h2 h5 h6;have aA:0<r'.length:=by cases r' with|nil=>exact absurd rfl ap.out|cons x y=>simp
  have aK:=ak.out
  rw[h3,T0] at aA;rw[h3,T0,T0] at aK;refine⟨A',c',e1,e2,e3,aJ ⟨⟨f1,a',js++[j],_,e4,?_⟩,?_⟩⟩
  ·have:=ao.out
   rw[h3] at this;rw[Uc,List.map_singleton,h4];exact this
  rw[e4.gp.KN,aa.out]
  omega)
 clear ao ap ak aa;refine wp_region_noPanic ?_;go_region_law (first|((refine ea _ (by rfl) _ _ 23 (by rfl) w.heap.size 63 (.agg #[Q ⟨#[]⟩,Q ⟨#[]⟩,U V 0 0,U V 0 0,K O,Q ⟨#[]⟩,Z Y 0,Z E 0,Z E 0,Z E 0,Z Y 0,Z E 0,U V 0 0,Z Y 0,Z Y 0]) 15 192 underlying23 o6 rfl (by decide) (by decide) (U r js.length B) js.length (fY js) (by rfl) (k.out.up aS).own w6.heap.size 0 1 1 (ag j) (by rfl) (by first|exact dQ _ (ag j) _|exact(dQ _ (ag j) _).drew) rfl (E5 j) (by have:=aH.out;omega) (k.out.up aS).gp.gr.size ?_;intro v' w' m hg aP;obtain⟨A',c',rfl,e3,e4,HX⟩:=aD.out _ _ _ _ j (k.out.up aS) (aF.out.up aS) aI.out aE.out m hg;clear m hg aP))|((go_simp;go_at_call 67;refine(aG.out _ (b.out.gp.up aS).Jc).mono ?_;rintro e w6 ⟨a',j,he,aB,ax,az,o1,o2,o3⟩;obtain rfl:e=TY (.agg #[Q j.nm,Q j.run,U j.eA j.IJ.length j.ec,U j.nA j.IC.length j.nc,K j.IQ,Q j.ready,Z Y j.IE,Z E j.base,Z E j.cap,Z E j.IG,Z Y j.II,Z E j.win,U j.lA j.IK.length j.lc,Z Y j.IM,Z Y j.Jb]):=he;have k:=aJ ((b.out.up aS).call az);have aF:Hid (Mv w6 w.heap.size j):=aJ ((Mv.mk o1 o2 o3).base (b.out.up aS).gp.gr.size);have aI:=aJ aB;have aE:=aJ ax;have b0:=cr_ k.out.kb 0 (U r js.length B);have z0:=aN w6 kb 0 _ _ k.out.kb;have bl:kb<w6.heap.size:=aQ k.out.kb;clear aB ax az o1 o2 o3)))
 all_goals (refine NoPanic.normal ?_;go_wp2_with fail;go_roundw)
 all_goals first|exact HX.out.1|exact HX.out.2
def Ll(l:List Nat):Prop:=∀x∈l,x<256
theorem Ll.tail(h:Ll (b::l)):Ll l:=fun x hx=>h x (List.mem_cons_of_mem _ hx)
theorem Ll.head(h:Ll (b::l)):b<256:=h b (List.mem_cons_self ..)
theorem Ll.drop(h:Ll l)(n:Nat):Ll (l.drop n):=fun x hx=>h x (List.mem_of_mem_drop hx)
theorem Ll.LP{m:List Nat}(h:Ll l)(k:Ll m):Ll (l++m):=fun x hx=>by
 rcases T6.1 hx with hx|hx
 ·exact h x hx
 exact k x hx
theorem Ll.NX(h:Ll l)(p:Nat->Bool):Ll (l.takeWhile p):=fun x hx=>h x ((List.takeWhile_sublist p).subset hx)
theorem Ll.one(h:b<256):Ll [b]:=fun x hx=>by rw[T7] at hx;rw[hx];exact h
theorem Fg{d n:Nat}(h:Lx.Np l=X (d,n))(a:Ll l):d<256:=by
 cases l with
 |nil=>cases h
 |cons b r=>
  change (if b=34\/b=92 then X (b,1) else if b=110 then X (10,1) else if b=116 then X (9,1) else if b=120 then(match r with|h::l::_=>(match Lx.K5 h,Lx.K5 l with|some x,X y=>X (16*x+y,3)|_,_=>V)|_=>V) else V)=X (d,n) at h
  split at h
  ·grind
  split at h
  ·injection h with h;injection h with h _;omega
  split at h
  ·injection h with h;injection h with h _;omega
  split at h
  ·split at h
   ·split at h
    ·next x y hx hy=>injection h with h;injection h with h _;have:=hX hx;have:=hX hy;omega
    cases h
   cases h
  cases h
theorem Cp:∀(f:Nat) {l:List Nat} {i n:Nat} {IW x:List Nat},Lx.Kt f l i IW=X (x,n)->Ll l->Ll IW->Ll x:=by
 intro f
 induction f with
 |zero=>intro l i n IW x h;cases h
 |succ f ih=>
  intro l i n IW x h a ha;cases l with
  |nil=>cases h
  |cons c r=>
   unfold Lx.Kt at h;split at h
   ·grind
   split at h
   ·cases h
   split at h
   ·cases b:Lx.Np r with
    |none=>rw[b] at h;cases h
    |some p=>obtain⟨d,m⟩:=p;rw[b] at h;exact ih h (a.tail.drop m) (ha.LP (Ll.one (Fg b a.tail)))
   exact ih h a.tail (ha.LP (Ll.one a.head))
theorem Cu:∀(f:Nat) {l:List Nat} {i n:Nat} {IW x:List Nat},Lx.Le f l i IW=X (x,n)->Ll l->Ll IW->Ll x:=by
 intro f
 induction f with
 |zero=>intro l i n IW x h;cases h
 |succ f ih=>
  intro l i n IW x h a ha;cases l with
  |nil=>cases h
  |cons c r=>
   unfold Lx.Le at h;split at h
   ·grind
   split at h
   ·cases h
   split at h
   ·cases r with
    |nil=>cases h
    |cons d e=>
     simp only at h
     split at h
     ·cases h
     refine ih h a.tail.tail (ha.LP ?_);split
     ·exact Ll.one (by decide)
     exact(Ll.one (b:=92) (by decide)).LP (Ll.one a.tail.head)
   exact ih h a.tail (ha.LP (Ll.one a.head))
theorem Ep{x:List Nat}{n:Nat}(h:Lx.tok l=X (k,x,n))(b:Ll l):Ll x:=by
 cases l with
 |nil=>cases h
 |cons c r=>
  rw[Lx.tok] at h;split at h
  ·injection h with h;injection h with _ h;injection h with h _;rw[<-h];exact b.NX _
  split at h
  ·simp only at h
   split at h
   ·cases h
   injection h with h;injection h with _ h;injection h with h _;rw[<-h];exact b.NX _
  split at h
  ·cases a:Lx.Kt (r.length+1) r 1 [] with
   |none=>grind
   |some p=>rw[a] at h;injection h with h;injection h with _ h;injection h with h _;rw[<-h];exact Cp _ (n:=p.2) a b.tail (fun x hx=>by cases hx)
  split at h
  ·cases a:Lx.Le (r.length+1) r 1 [] with
   |none=>rw[a] at h;cases h
   |some p=>rw[a] at h;injection h with h;injection h with _ h;injection h with h _;rw[<-h];exact Cu _ (n:=p.2) a b.tail (fun x hx=>by cases hx)
  split at h
  ·injection h with h;injection h with _ h;injection h with h _;rw[<-h];exact Ll.one b.head
  cases h
theorem Ca:∀(l:List Nat) (b:Bool) (a c d:Nat),Ll l->Ll (Lx.skip b l a c d).1:=by
 intro l
 induction l with
 |nil=>intro b a c d h;cases b<;>exact h
 |cons x l ih=>
  intro b a c d h;cases b with
  |true=>unfold Lx.skip;split<;>exact ih _ _ _ _ h.tail
  |false=>
   unfold Lx.skip;split
   ·exact ih _ _ _ _ h.tail
   split
   ·exact ih _ _ _ _ h.tail
   split
   ·exact ih _ _ _ _ h.tail
   exact h
theorem M8.LP{T:List IY}{t:IY}(h:M8 T)(b:Ll t.text):M8 (T++[t]):=fun u a=>by
 rcases T6.1 a with a|a
 ·exact h u a
 rw[T7] at a;rw[a];exact b
theorem Cj:∀(f:Nat) {t:List Nat} {a l c:Nat} {IW R:List IY},Lx.scan f t a l c IW=X R->Ll t->M8 IW->IW.length<=2000->M8 R/\R.length<=2001:=by
 intro f
 induction f with
 |zero=>intro t a l c IW R h;cases h
 |succ f ih=>
  intro t a l c IW R h d ha e;unfold Lx.scan at h;have hs:=Ca t O a l c d;generalize Lx.skip O t a l c=s at *;obtain⟨s1,_,_,_⟩:=s;cases s1 with
  |nil=>injection h with h;rw[<-h];exact⟨ha.LP (fun x hx=>by cases hx),by simp;omega⟩
  |cons b r=>
   simp only at h
   cases hk:Lx.tok (b::r) with
   |none=>grind
   |some p=>
    obtain⟨k,x,n⟩:=p;rw[hk] at h;simp only at h;split at h
    ·cases h
    exact ih h (Ll.drop hs n) (ha.LP (Ep hk hs)) (by simp;omega)
theorem wR{t:List Nat}{R:List IY}(h:Lx.all t=X R)(a:Ll t):M8 R/\R.length<=100000:=by
 unfold Lx.all at h;split at h
 ·cases h
 obtain⟨h1,h2⟩:=Cj _ h a (fun x hx=>by cases hx) (by simp)
 exact⟨h1,by omega⟩
theorem jo{n:Nat}(h:IL w B e s (U A n c) n xs):Rs w A xs/\n<=9223372036854775807:=by
 obtain⟨A2,c2,a,b,_,d⟩:=h.shape;injection a with e3 e4 e5
 subst e3;subst e5;unfold maxLen at d;exact⟨b.rs,by omega⟩
theorem Mv.jm{j:Jd}(h:Mv w B j):JM w j:=
 ⟨(jo h.IJ).1,(jo h.IC).1,(jo h.IK).1,(jo h.IJ).2,(jo h.IC).2,(jo h.IK).2⟩
theorem Az(s:ByteArray)(w:Ui){L:List Jd}(hm:Gm.load (bs s)=X L)(B:∀js,js.map cV=L->LJ js):
  Ul Up 14 #[Q s] w (mc w L):=by
 unfold Gm.load at hm;cases hl:Lx.all (bs s) with
 |none=>rw[hl] at hm;cases hm
 |some T=>
 rw[hl] at hm;simp only at hm;obtain⟨ah,hf⟩:=wR hl (fun x hx=>ed hx)
 have HP:=aJ (fun W=>C4 s W hl ah hf hm)
 have J:=aJ (fun W A c js (hj:JL W A js) (D:js.map cV=L)=>qd A c js W hj (B js D))
 have P:=aJ (fun js (D:js.map cV=L)=>(B js D).JA)
 clear hm ah hf hl B;obtain⟨F,i⟩:∃F,w.alloc (H #[Z Y 0,Z Y 0,Z Y 0] 29)=F:=⟨_,rfl⟩
 have u:Hid (ID w F):=aJ (by rw[<-i];exact(ID.refl _).alloc _)
 have o:Hid (F.heap[w.heap.size]? =X (H #[Z Y 0,Z Y 0,Z Y 0] 29 (0,0))):=aJ (by rw[<-i];exact aM _ _)
 have ad:=aJ i
 clear i;go_enter func14,ntmps14;go_upto_region 1 with fail
 rw[ad.out];obtain⟨kf,C⟩:∃kf,w.heap.size=kf:=⟨_,rfl⟩
 have S:=aJ C
 rw[C] at o ⊢;clear C ad;go_wp2_with fail;refine(HP F).mono ?_;rintro e w2 ⟨v,js,rfl,ho,D,hr,hd⟩;have y:=aJ (u.up hd);have q:=aJ (hd.block o);have HE:=aJ D;have n:w.heap.size<=F.heap.size:=u.size;have z:=aJ (ho.base n);have ac:=aJ (fun j hj=>(hr j hj).base n)
 clear hd HP u o D ho hr n;unfold bC;obtain⟨I,k⟩:∃I,w2.alloc (H #[Z Y 0,Z Y 0,Z Y 0] 29)=I:=⟨_,rfl⟩
 have a:Hid (ID w2 I):=aJ (by rw[<-k];exact(ID.refl _).alloc _)
 have g:Hid (I.heap[w2.heap.size]? =X (H #[Z Y 0,Z Y 0,Z Y 0] 29 (0,0))):=aJ (by rw[<-k];exact aM _ _)
 have ae:=aJ k
 clear k;go_upto_region 2 with fail
 rw[ae.out];obtain⟨f,ag⟩:∃f,w2.heap.size=f:=⟨_,rfl⟩
 have t:Hid (w.heap.size<=f/\kf≠f):=aJ (by have:=y.out.size;have:=aQ q;constructor<;>omega)
 rw[ag] at g ⊢;clear ag ae;obtain⟨A,c,rfl,_,_⟩:=z.shape;have aa:=aJ (y.up a);have N:=aJ (a.out.block q);have b:=aJ (z.up a);have d:=aJ (fun j hj=>(ac j hj).up a)
 have R:Hid (JL I A js):=aJ ⟨(jo b).1,fun j hj=>(d j hj).jm,by have:=P.out js HE;omega⟩
 have HC:=aJ (fun c=>J I A c js R HE)
 clear y q z ac a P R J;obtain⟨g0,g1,g2,_,_,_⟩:=dE g;go_wp2_with fail;refine(HC _).mono ?_;rintro e w5 ⟨rfl,hd⟩;have ab:=aJ (aa.up hd);have r:=aJ (hd.block N);have h:=aJ (hd.block g);have l:=aJ (b.up hd);have m:=aJ (fun j hj=>(d j hj).up hd)
 clear hd aa N g b d HC g0 g1 g2;unfold bC;obtain⟨g0,g1,g2,_,_,_⟩:=dE h;obtain⟨c0,c1,c2,_,f1,f2⟩:=dE r;have n1:kf≠f:=t.2;have n2:f≠kf:=Ne.symm n1;have HX:Hid (mc w L (TY (TZ #[U A js.length c,bC])) (KC (KC w5 f 0 [Z Y 0,Z Y 0,Z Y 0]) kf 0 [Z Y 0,Z Y 0,Z Y 0])):=aJ (by
  have af:(KC w5 f 0 [Z Y 0,Z Y 0,Z Y 0]).heap[kf]? =X (H #[Z Y 0,Z Y 0,Z Y 0] 29 (0,0)):=(gH n1 _ _ _).trans r
  refine⟨_,js,rfl,eP (eP l h (by decide) _ _) af (by decide) _ _,HE,fun j hj=>((m j hj).row h (gq _ _ _ _) (by decide) (by decide) (by decide)).row af (gq _ _ _ _) (by decide) (by decide) (by decide),?_⟩
  have hk:w.heap.size<=kf:=T5 S
  have hk2:=t.1
  exact(((((ab.setCell (p:=⟨f,0,V⟩) hk2 _).setCell (p:=⟨f,1,V⟩) hk2 _).setCell (p:=⟨f,2,V⟩) hk2 _).setCell (p:=⟨kf,0,V⟩) hk _).setCell (p:=⟨kf,1,V⟩) hk _).setCell (p:=⟨kf,2,V⟩) hk _)
 clear l m ab r h HE S t;go_wp2;refine aP (v:=TZ #[U A js.length c,bC]) (by simp[results,results14,go_sem,bC,c0,c1,c2]) rfl ?_
 exact HX
namespace Oc
structure Pl where
 j:Jd
 x:Lf.T
 out:List Nat
structure Ac where
 IF:Int
 I6:ByteArray
 n:Int
structure Pe where
 name:ByteArray
 ph:Int
 inc:Int
 JX:Int
structure Ev where
 IF:Int
 I6:ByteArray
 ok:Bool
 code:Int
 data:List Nat
 at_:Int
structure St where
 pl:List Pl
 now:Int
 JU:List Int
 IV:List Ac
def pl0:Pl:=⟨cE,Lf.new,[]⟩
def Js(s:St):List Jd:=s.pl.map Pl.j
def p(s:St)(i:Nat):Pl:=s.pl.getD i pl0
def IP(s:St):List Nat:=Gp.IP (Js s)
def Jr(j:Jd)(out:List Nat):Bool:= !j.IQ||decide (0<=df (aY (cO (bs j.ready)).1) out)
def LF(s:St)(i:Nat)(x:Lf.T):St:={s with pl:=s.pl.set i {p s i with x:=x}}
def Jl(s:St)(i:Nat):Bool:=(p s i).x.ph==1&&(Gp.IC (Js s) i).all (fun k=>(p s k).x.ph==4)
def Jf(s:St)(i:Nat):St:=
 {s with pl:=s.pl.set i ⟨(p s i).j,(Lf.spawn (p s i).x).1,[]⟩,IV:=s.IV++[⟨1,(p s i).j.nm,(Lf.spawn (p s i).x).1.inc⟩]}
def settle:Nat->St->St
 |0,s=>s
 |f+1,s=>match (IP s).find? (Jl s) with
  |none=>s
  |some i=>settle f (Jf s i)
def KD(s:St):Nat:=(s.pl.filter (fun q=>q.x.ph==1)).length
def calm(s:St):St:=settle (KD s) s
def LL(s:St):Int:=s.JU.headD 0
def about(s:St)(i:Nat)(e:Ev):St:=
 let q:=p s i
 if e.IF=1 then LF s i (Lf.up q.x (Jr q.j []) s.now)
 else
  let o:=if q.x.ph=3\/q.x.ph=4 then q.out++e.data else q.out
  let s1:St:={s with pl:=s.pl.set i {q with out:=o}}
  if q.x.ph=3/\Jr q.j o=G then LF s1 i (Lf.matched q.x) else s1
def handle(s:St)(e:Ev):St:=match Gp.ix (Js s) e.I6 with|none=>s|some i=>about s i e
def step(s:St)(e:Ev):St:=calm (handle {s with IV:=[]} e)
def Jg(l:List Jd):St:=⟨l.map (fun j=>⟨j,Lf.new,[]⟩),0,[],[]⟩
def Jn(s:St):List Pe:=s.pl.map (fun q=>⟨q.j.nm,q.x.ph,q.x.inc,q.x.JX⟩)
def run(l:List Jd)(es:List Ev):St:=es.foldl step (calm (Jg l))
def trace:St->List Ev->List St
 |s,[]=>[s]
 |s,e::es=>s::trace (step s e) es
def KS(l:List Jd)(es:List Ev):List St:=trace (calm (Jg l)) es
end Oc
def Qw(w:Ui)(base:Nat)(e:Um)(v:Uj)(n:Nat)(xs:List Uj):Prop:=
 xs.length=n/\((v=U V 0 0/\n=0)\/∃g off cap cur,v=U (X ⟨g,off,V⟩) n cap/\base<=g/\w.heap[g]? =X (H cur e (0,0))/\n<=cap/\off+cap<=cur.size/\cap<=maxLen/\
  ∀j,j<n->cur[off+j]? =xs[j]?)
theorem Qw.Jk(w:Ui)(base:Nat)(e:Um):Qw w base e (U V 0 0) 0 []:=⟨rfl,bX ⟨rfl,rfl⟩⟩
theorem Qw.lt{base:Nat}{n:Nat}(h:Qw w base e v n xs)(k:Nat)(hk:v.ownBlock=X k):base<=k/\k<w.heap.size:=by
 rcases h.2 with⟨rfl,_⟩|⟨g,off,cap,cur,rfl,a,b,_⟩
 ·simp[T1] at hk
 simp[T1] at hk;subst hk;exact⟨a,aQ b⟩
theorem Qw.kept{base:Nat}{n:Nat}{row:Option Nat}(h:Qw w base e v n xs)(c:w.grownBy w' row)(hne:v.ownBlock=V\/v.ownBlock≠row):Qw w' base e v n xs:=by
 refine⟨h.1,?_⟩;rcases h.2 with d|⟨g,off,cap,cur,rfl,b,a,rest⟩
 ·grind
 refine bY ⟨g,off,cap,cur,rfl,b,?_,rest⟩;rw[c.block g (aQ a) (by simpa [T1] using hne)]
 exact a
theorem Qw.up{base:Nat}{n:Nat}(h:Qw w base e v n xs)(a:ID w w'):Qw w' base e v n xs:=by
 refine Qw.kept (row:=V) h ⟨a.out.os,a.out.tape,a.out.output,a.out.size,fun k hk _=>a.out.block k hk⟩ ?_
 grind
theorem Qw.shape{base:Nat}{n:Nat}(h:Qw w base e v n xs):∃A c,v=U A n c/\Ts w e A xs/\n<=c/\c<=maxLen:=by
 rcases h with⟨h1,⟨rfl,rfl⟩|⟨g,off,cap,cur,rfl,f,b,d,hs,hm,hx⟩⟩
 ·exact⟨V,0,rfl,bX (Ue h1),bM _,bO _⟩
 refine⟨_,cap,rfl,bY ⟨g,off,cur,(0,0),rfl,b,fun j u a=>?_⟩,d,hm⟩
 rw[hx j (by rw[<-h1];exact(Uf.mp a).1)]
 exact a
theorem Qw.tail{base:Nat}{n:Nat}{x:Uj}(h:Qw w base e (U A (n+1) c) (n+1) (x::xs)):
  Qw w base e (U (if c=1 then A else A.map (·.add 1)) (n+1-1) (c-1)) n xs:=by
 rcases h with⟨h1,⟨_,f⟩|⟨g,off,cap,cur,h2,a,b,i,hs,hm,hx⟩⟩
 ·omega
 simp only[Value.slice.injEq] at h2;obtain⟨rfl,_,rfl⟩:=h2;have d:xs.length=n:=by grind
 by_cases hc:c=1
 ·subst hc;obtain rfl:n=0:=by omega
  refine⟨d,bY ⟨g,off,0,cur,by simp,a,b,bM _,by omega,bO _,fun j hj=>by omega⟩⟩
 refine⟨d,bY ⟨g,off+1,c-1,cur,by simp[hc,Addr.add_lit],a,b,by omega,by omega,by omega,fun j hj=>?_⟩⟩
 have:=hx (j+1) (by omega)
 rw[List.getElem?_cons_succ] at this;rw[<-this]
 congr 1
 omega
section
variable {P : Program} (w : Ui)
theorem lJ(t s e:Um)(i:TypeInfo)(r:P.underlying t=X (.slice e))(p:P.info? e=X i)(hsz:i.size=1)
  (g off b f:Nat) (cur:Array Uj) (o:w.heap[g]? =X (H cur e (0,0)))
  (a:Uk) (c:Nat) (u:Uj) (h:∀j x,[u][j]? =X x->w.cell? (a.add j)=X x) (h1:u.oneCell'=G)
  (k:b+1<=f) (n:off+b<cur.size):
  ∃d,(Builtin.append_ #[t,t] s #[U (X ⟨g,off,V⟩) b f,U (X a) 1 c]).run P w= .ok (U (X ⟨g,off,V⟩) (b+1) f) (w.setRow g d)/\d.size=cur.size/\(∀j,j<off+b->d[j]? =cur[j]?)/\d[off+b]? =X u:=by
 have m:=run_firstCells_some (P:=P) w i.size 1 a 1 c [u] (by simp[hsz]) h
 have l:=run_storeCells_at P g (off+b) e [u] 0 cur w o (by simp;omega) (by intro x hx;simp at hx;subst hx;exact h1)
 simp only[Nat.add_zero] at l;refine⟨(cur.toList.take (off+b)++[u]++cur.toList.drop (off+b+1)).toArray,?_,?_,?_,?_⟩
 ·have q:[u].length=1:=rfl
  rw[q] at l;rw[hsz] at m;simp[Builtin.append_,run_underlying r,sizeOf,typeInfo,p,Builtin.lenOf,k,m,Addr.add_lit,hsz,l]
 ·simp;omega
 ·intro j hj;rw[List.getElem?_toArray,List.append_assoc,bJ (by simp;omega),List.getElem?_take,ps_ hj]
  simp
 grind
theorem pJ(base:Nat)(t D e:Um)(i:TypeInfo)(z:Uj)(bytes:Nat)(S:P.underlying t=X (.slice e))(N:P.info? e=X i)(hz:i.zero=X z)
  (b:i.size=1) (I:i.bytes=bytes) (T:z.cells.size=1)
  (v:Uj) (n:Nat) (xs:List Uj) (hown:Qw w base e v n xs)
  (a:Uk) (c:Nat) (u:Uj) (d:∀j x,[u][j]? =X x->w.cell? (a.add j)=X x) (h1:u.oneCell'=G)
  (A:n+1<=maxLen) (m:(n+1)*bytes<=140737488355328) (p:base<=w.heap.size):
  ∃v' w',(Builtin.append_ #[t,t] D #[v,U (X a) 1 c]).run P w= .ok v' w'/\Qw w' base e v' (n+1) (xs++[u])/\w.grownBy w' v.ownBlock:=by
 subst I;have C:n+1<=9223372036854775807:=by simp only[maxLen] at A;omega
 obtain⟨h,s⟩:=hown;have grown:∀(I5:Nat),∀(row:Option Nat),
   Qw (w.drew.alloc (H (xs.toArray++[u].toArray++Builtin.zeroCells z.cells (grownCap w (n+1) I5 e-(n+1))) e)) base e (U (X ⟨w.heap.size,0,V⟩) (n+1) (grownCap w (n+1) I5 e)) (n+1) (xs++[u])/\
   w.grownBy (w.drew.alloc (H (xs.toArray++[u].toArray++Builtin.zeroCells z.cells (grownCap w (n+1) I5 e-(n+1))) e)) row:=by
  intro I5 row;have L:=grownCap_ge w (n+1) I5 e;have q:grownCap w (n+1) I5 e<=maxLen:=grownCap_le_maxLen w (n+1) I5 e A;refine⟨⟨by simp[h],.inr ⟨w.heap.size,0,_,_,rfl,p,aM w.drew _,L,?_,q,fun j hj=>?_⟩⟩,⟨rfl,rfl,rfl,by simp,fun k hk _=>(Ug w.drew _ V).block k hk (by simp)⟩⟩
  ·simp only[Array.size_append,List.size_toArray,size_zeroCells,T,bG];omega
  grind
 rcases s with⟨rfl,rfl⟩|⟨g,off,cap,cur,rfl,F,J,aa,W,q,o⟩
 ·have hx:xs=[]:=Ue h
  subst hx;have B:=run_append_nil (P:=P) w t D e i z S N hz a 1 c [u] (by simp[b]) d (by omega) (by omega) (by omega)
  have f:=grown 0 (T1 (U V 0 0))
  simp only[Nat.zero_add,List.nil_append,Array.empty_append] at f ⊢;exact⟨_,_,B,f.1,f.2⟩
 by_cases l:n+1<=cap
 ·obtain⟨y,B,q1,q2,q3⟩:=lJ (P:=P) w t D e i S N b g off n cap cur J a c u d h1 l (by omega)
  refine⟨_,_,B,⟨by simp[h],.inr ⟨g,off,cap,y,rfl,F,setRow_heap w g cur _ e _ J,l,by omega,q,fun j hj=>?_⟩⟩,⟨rfl,rfl,rfl,by simp,fun k _ hk=>setRow_other w g k _ (fun e=>hk (by simp[T1,e]))⟩⟩
  by_cases R:j<n
  ·rw[q2 _ (by omega),o j R,bJ (by omega)]
  obtain rfl:j=n:=by omega
  rw[q3,List.getElem?_append_right (by omega),h]
  simp
 have r:∀j x,xs[j]? =X x->w.cell? ((⟨g,off,V⟩:Uk).add j)=X x:=fun j x hx=>by
  rw[Addr.add_lit,aK w g (off+j) cur e (0,0) J,o j (by rw[<-h];exact(Uf.mp hx).1)]
  exact hx
 have B:=run_append_grow (P:=P) w t D e i z S N hz ⟨g,off,V⟩ n cap xs (by rw[b,Nat.mul_one];exact h) r a 1 c [u] (by simp[b]) d (by omega) (by omega) (growslice_fits (by omega) m)
 have f:=grown cap (T1 (U (X ⟨g,off,V⟩) n cap))
 exact⟨_,_,B,f.1,f.2⟩
end
section
variable {P : Program} {w : Ui} {ops : Array Oper} {rest : List Oper} {o : Oper} {a : Act} {K : Act -> Ui -> Prop} {Q : Exit -> Act -> Ui -> Prop} {E : Prop}
theorem pz{wr:Ui}(j:o.guard=V)(s x:Operand)(t:Um)
  (A:o.op= .call {callee:= .builtin .append,args:=#[s,x],argTypes:=#[t,t]})
  (base:Nat) (e:Um) (z:Uj) (bytes:Nat) (C:P.underlying t=X (.slice e))
  (r:(P.info? e).map (fun i=>(i.zero,i.size,i.bytes))=X (X z,1,bytes)) (l:z.cells.size=1) (g:bytes<=1024)
  (v:Uj) (n:Nat) (xs:List Uj) (hs:a.eval s=v) (hown:Qw wr base e v n xs)
  (c:Nat) (u:Uj) (hx:a.eval x=U (X ⟨wr.heap.size,0,V⟩) 1 c) (D:w=wr.alloc (H [u].toArray e)) (h1:u.oneCell'=G)
  (y:n+1<=68719476736) (d:base<=wr.heap.size)
  (h:∀v' w',Qw w' base e v' (n+1) (xs++[u])->wr.grownBy w' v.ownBlock->wpList P ops Q rest (a.put o.dst v') w'):wpList P ops Q (o::rest) a w:=by
 subst D;obtain⟨i,k,hz,b,f⟩:=info_parts r;have q:(n+1)*bytes<=68719476736*1024:=Nat.mul_le_mul y g;refine wpList_plain j fun _ p=>?_
 obtain⟨v',w',B,h2,m⟩:=pJ (P:=P) (wr.alloc (H [u].toArray e)) base t o.type e i z bytes C k hz b f l v n xs (hown.up ((ID.refl wr).alloc _)) ⟨wr.heap.size,0,V⟩ c u (gz wr [u] e) h1
  (by unfold maxLen;omega) (by omega) (by simp;omega)
 unfold Oper.wp execOp;simp only[A,resolve,invoke,builtin,Sem.run_bind,Sem.run_pure,Result.andThen_ok,List.map_toArray,List.map_cons,List.map_nil,hs,hx,B];exact p _ _ (h v' w' h2 (World.grownBy.trans (Ug wr _ _) m))
end
theorem zt(x:Lf.T)(A:Option Uk)(c:Nat)(w:Ui)(r:Ts w 60 A (ef x.I0))(y:x.I0.length<=68719476000):
  Ul Up 168 #[gQ x A c] w (DB w x):=by
 have a:=aJ (fun W (h:ID w W)=>Fm A c x.I0 W (r.up h).rs (by omega))
 clear r;have b:Hid (∀(q:Lf.T) A' c' w',x=q->Ts w' 60 A' (ef q.I0)->ID w w'->DB w x (TY (gQ q A' c')) w'):=aJ (fun q A' c' w' h1 h2 u=>by subst h1;exact⟨A',c',rfl,h2,u⟩)
 obtain⟨ph,inc,JX,Jy,I0,due,JV,Kn,halt,again⟩:=x;unfold gQ;simp only at a ⊢;go_enter func168,ntmps168;go_wp2_with fail;refine(a _ (((ID.refl w).alloc _).alloc _)).mono ?_;rintro e w2 ⟨v,rfl,hown,hd⟩;obtain⟨b1,b2,_⟩:=jW hd;obtain⟨⟨_,c1,c2,_,c4,_,_,_,_,_⟩,_,f1,f2,_,_,_,_,_,_,_⟩:=gF b1;obtain⟨⟨f,g,i,j,k,l,m,n,o,p⟩,_,_,_,_,_,_,_,_,_,_⟩:=gF b2;obtain⟨A2,d,rfl,s,_,_⟩:=hown.shape;have t:=aJ (s.N0 b1 (by decide) b2 (by decide))
 clear hown s b1 b2 hd a;go_wp2;refine aP (by first|(simp[results,results168,go_sem,gQ,f,g,i,j,k,l,m,n,o,p];done)|(simp[results,results168,go_sem,gQ,f,g,i,j,k,l,m,n,o,p];first|rfl|exact⟨rfl,rfl⟩)) rfl (b ⟨ph,inc,JX,Jy,I0,due,JV,Kn,halt,again⟩ A2 d _ rfl ?_ ?_)
 ·refine Tn.ts (K:=[w.heap.size,w.heap.size+1]) ?_
  repeat with_reducible refine Tn.set ?_ (by simp) _
  exact t
 repeat with_reducible first|exact ID.refl _|assumption|refine ID.setCell ?_ (by first|omega|(simp<;>omega)) _|refine ID.drewN ?_ _|refine ID.alloc ?_ _|refine ID.drew ?_
theorem zH:(Up.info? 4).map (fun i=>(i.zero,i.size,i.bytes))=X (X (K O),1,1):=by kernel_rfl
def Iq(w:Ui)(st:List Nd)(A:Option Uk)(c:Nat)(e:Un)(w':Ui):Prop:=
 ∃g gm B lv,e=TY (M (X ⟨g,0,V⟩))/\MK w w' B g gm st A c lv G 0 (cw st (bv st G O (ah [] 0))) (bv st G O (ah [] 0)) (bv st G O (ah [] 0))
theorem zm(m:Nat):(madeCells #[Value.bool O] m).toList=zi m []:=by
 unfold madeCells zi;rw[Array.toList_map,Array.toList_range]
 grind
theorem yP{n:Nat}(h:IL w B e 1 (U (X ⟨g,0,V⟩) n n) n xs):w.heap[g]? =X (H xs.toArray e (0,0)):=by
 rcases h with⟨h1,⟨h2,_⟩|⟨b,cap,cur,h2,c,a,d,hm,hs,hx⟩⟩
 ·cases h2
 injection h2 with e1 _ e3
 injection e1 with e1
 injection e1 with e1
 subst e1;subst e3;rw[a];have:cur.toList=xs:=by grind
 rw[<-this]
theorem Gs(A:Option Uk)(c:Nat)(st:List Nd)(w:Ui)(j:Rs w A (cR st))(hv:bw st=G):
  Ul Up 228 #[U A st.length c] w (Iq w st A c):=by
 have l:=aJ j
 have m:=aJ hv
 obtain⟨h1,h2,_⟩:=bi hv;clear j hv;go_enter func228,ntmps228;go_upto_region 1 with fail
 go_wp2_with (at_make;refine dN rfl _ _ 104 rfl 4 (K O) 1 1 underlying104 zH (by decide) Y Y _ _ st.length rfl rfl ?pl1 ?pc1 ?pn1 ?_)
 case pl1=>omega
 case pc1=>omega
 case pn1=>omega
 intro a f b;rw[zm] at f;have d:=yP f;have h:=b.size;have n:=aQ d;have g:Hid (MK w (a.alloc (H #[U A st.length c,U (X ⟨w.heap.size,0,V⟩) st.length st.length,U V 0 0,K G,Z Y 0,K O] 337)) (a.heap.size+1) a.heap.size w.heap.size st A c (U V 0 0) G 0 (cw st []) [] []):=aJ
  ⟨b.alloc _,l,aM a _,((ID.refl a).alloc _).block d,IL.Jk _ _ _ _,h,bM _,Nat.lt_succ_self _,by omega,by omega,by simp⟩
 clear d f b;go_upto_region 2 with fail
 generalize a.alloc (H #[U A st.length c,U (X ⟨w.heap.size,0,V⟩) st.length st.length,U V 0 0,K G,Z Y 0,K O] 337)=W at *;have i:=aJ (uF w (a.heap.size+1) a.heap.size w.heap.size st A c (U V 0 0) G 0 [] W g m (IX.nil _));clear g;go_wp2_with fail;refine(i).mono ?_;rintro e w2 ⟨rfl,_,hm,hk⟩;have k:=aJ hm;clear hm hk i;go_wp2;go_ret;exact⟨_,_,_,_,rfl,k⟩
structure PO(w:Ui)(A:Option Uk)(cs:List (List Nat))(ad:Nat->Option Uk)(cp:Nat->Nat):Prop where
 MV:Rs w A ((Uh cs.length).map fun j=> .slice (ad j) (cs.getD j []).length (cp j))
 rows:∀j,j<cs.length->Rs w (ad j) (Jp (cs.getD j []))
theorem PO.up{cs:List (List Nat)}{ad:Nat->Option Uk}{cp:Nat->Nat}(h:PO w A cs ad cp)(a:ID w w'):PO w' A cs ad cp:=⟨h.MV.up a,fun j hj=>(h.rows j hj).up a⟩
def nP(w:Ui)(n:List Nd)(cs:List (List Nat))(e:Un)(w':Ui):Prop:=
 e=TY (TZ #[Z Y (kQ (df (aY n) cs.flatten) cs).1,Z Y (kQ (df (aY n) cs.flatten) cs).2,Z Y 0])/\ID w w'
def vq(w2:Ui)(B g gm:Nat)(st:List Nd)(A:Option Uk)(c:Nat)(t:List Nat)(R:Int)(i:Nat)(wr:Ui):Prop:=
 ∃lv L,Hid (MK w2 wr B g gm st A c lv (bt t i) i O L L)/\Hid (cw st L=O)/\Hid (IX st.length L)/\Hid (jq st t (t.length-i) i L=R)
def In(w2:Ui)(B g gm:Nat)(st:List Nd)(A:Option Uk)(c:Nat)(cs:List (List Nat))(R:Int)(v:Uj)(wr:Ui):Prop:=
 ∃j:Nat,v=Z Y j/\j<=cs.length/\vq w2 B g gm st A c cs.flatten R (cT cs j) wr
def IA(w2:Ui)(B g gm:Nat)(st:List Nd)(A:Option Uk)(c:Nat)(cs:List (List Nat))(R:Int)(j:Nat)(LU:List Nat)(v:Uj)(wr:Ui):Prop:=
 ∃k:Nat,v=Z Y k/\k<=LU.length/\vq w2 B g gm st A c cs.flatten R (cT cs j+k) wr
theorem yD{α:Type}{n:Nat}(F:Nat->α)(h:i<n):((Uh n).map F)[i]? =X (F i):=by simp[h]
theorem uo{R:Int}{j:Nat}{cs:List (List Nat)}(a:R=(i:Int)+1)(b:iu cs i=j):kQ R cs=((j:Int),(i:Int)+1):=by grind [kQ]
theorem EQ(s:ByteArray)(Ac:Option Uk)(cc:Nat)(cs:List (List Nat))(ad:Nat->Option Uk)(cp:Nat->Nat)(w:Ui)(hc:PO w Ac cs ad cp)(hb:∀x∈cs.flatten,x<256)(hl:cs.flatten.length<1000000000)(af:cs.length<1000000000){n:List Nd}(hp:jn (6*(bs s).length+6) (bs s)=X (n,0))(aD:Nz s)(hv:bZ n=G)(ag:∀x∈n,fM x.set)(aO:n.length<=256):
  Ul Up 172 #[Q s,U Ac cs.length cc] w (nP w n cs):=by
 have HC:=aJ hc
 have HB:=aJ hb
 have HL:=aJ hl
 have av:=aJ af
 have HP:=aJ (pM _ s (n,0) w hp aD rfl)
 have W:=aJ ag
 have aB:=aJ hv
 go_enter func172,ntmps172
 go_wp2_with fail;refine(HP).mono ?_;rintro e w1 ⟨v1,rfl,aH,aF⟩;obtain⟨A1,c1,rfl,aL,_,_⟩:=aH.shape;have aw:=aJ aL.rs;have ap:=aJ aF;have hv:=aB.out;have ao:=aJ (sQ A1 c1 n w1 aw (by unfold maxLen;omega) W)
 obtain⟨_,ai,_,_,_⟩:=jk hv;have T:Hid (gW (aY n) cs.flatten (cs.flatten.length+1) 0 []=df (aY n) cs.flatten):=aJ (by unfold df;rw[ps_ ai])
 have d:=aJ ai
 have aC:=aJ hv
 go_wp2_with fail;refine(ao).mono ?_;rintro e w2 ⟨q1,_,aG⟩;obtain⟨v2,rfl,aI⟩:=q1 aC;generalize aK:aY n=st at *;have C:=aJ aK;obtain⟨A2,c2,rfl,aM,_,_⟩:=aI.shape;have ax:=aJ (Gs A2 c2 st w2 aM.rs d);have f:=aJ (ap.up aG);go_wp2_with fail;refine(ax).mono ?_;rintro e w3 ⟨g,gm,B,lv,rfl,hm⟩;have HM:=aJ hm;have p:=T.out;rw[uD] at p;have S:Hid (jq st cs.flatten cs.flatten.length 0 (bv st G O (ah [] 0))=df st cs.flatten):=aJ p;have r:Hid (∀w' (a b:Int),ID w w'->kQ (df st cs.flatten) cs=(a,b)->nP w n cs (TY (TZ #[Z Y a,Z Y b,Z Y 0])) w'):=aJ (fun w' a b ho aE=>⟨by rw[C.out,aE],ho⟩)
 have aA:Hid (IX st.length (bv st G O (ah [] 0))):=aJ (IX.Jh d _ _ _ ((IX.nil _).enter (by have:=(bi d).1;omega)))
 generalize df st cs.flatten=R at *;generalize bv st G O (ah [] 0)=L0 at *;obtain⟨_,_,_,_,_,y5⟩:=HM.cells;cases hd:cw st L0 with
 |true=>
  rw[hd] at y5;have p:R=0:=by have:=S.out;unfold jq at this;rw[ps_ hd] at this;simpa using this.symm
  subst p;have F:=aJ (r w3 (-1) 0 (f.up HM.I5) rfl);go_wp2;refine aP (v:=TZ #[Z Y (-1),Z Y 0,Z Y 0]) (by simp[results,results172,go_sem]) rfl ?_
  exact F
 |false=>
  rw[hd] at y5;have C:Hid (In w2 B g gm st A2 c2 cs R (Z Y 0) w3):=aJ ⟨0,rfl,bO _,lv,L0,aJ (by have:=HM;rw[hd] at this;exact this),aJ hd,aA,aJ (by rw[show cT cs 0=0 from rfl];exact S)⟩
  go_wp2
  go_loopw [39] (fun J wr=>In w2 B g gm st A2 c2 cs R J wr) (fun J _=>cs.length-(intOf J).toNat)
  case atStart=>exact C
  obtain⟨j,rfl,hj,aN,Lj,q,z,aa,D⟩:=hrel;have af:=av.out
  by_cases m:j<cs.length
  ·have i1:(j:Int)<(cs.length:Int):=by omega
   have i0:(0:Int)<=(j:Int):=by omega
   obtain⟨bA,oA,rfl,_,ab⟩:=(HC.up (f.up q.I5)).MV.at_ (by simp;omega)
   have cA:=ab j _ (yD _ m)
   clear ab;have ay:=aJ (fun w' (h:ID w w')=>(HC.up h).rows j m)
   have aq:=aJ (fun k (hk:k<(cs.getD j []).length)=>rP cs j k m hk)
   have an:=aJ (tE cs j m)
   generalize ad j=aj at *;generalize cs.getD j []=LU at *;go_wp2;go_loopw [46] (fun L wr=>IA w2 B g gm st A2 c2 cs R j LU L wr) (fun L _=>LU.length-(intOf L).toNat)
   case atStart=>exact⟨0,rfl,bO _,aN,Lj,q,z,aa,D⟩
   clear q z aa D cA;obtain⟨k,rfl,hk,al,Lk,l,i,t,u⟩:=hrel;have aR:=HL.out
   by_cases o:k<LU.length
   ·have k1:(k:Int)<(LU.length:Int):=by omega
    have k0:(0:Int)<=(k:Int):=by omega
    obtain⟨_,_,rfl,_,ac⟩:=(ay wr (f.up l.I5)).at_ (by rw[cY];omega)
    have cK:=ac k _ (gi _ k o)
    obtain⟨h1,h2,h3⟩:=aq k o;have P:=aJ h2;have I:=l.out;rw[<-i.out] at I;have ae:LU.getD k 0<256:=by
     rw[<-h1];refine HB _ ?_;rw[bD,bE h3];exact bH h3
    have hF:=ER w2 B g gm st A2 c2 al (bt cs.flatten (cT cs j+k)) (cT cs j+k) Lk wr I d t (by omega) (LU.getD k 0) ae
    have hU:=u.out
    rw[show cs.flatten.length-(cT cs j+k)=(cs.flatten.length-(cT cs j+(k+1)))+1 by omega] at hU
    obtain⟨g1,g2⟩:=xp i h3 hU;rw[h1] at g1 g2;have ar:=aJ g1;have au:=aJ g2;have N:=aJ hF;have am:Hid (bt cs.flatten (cT cs j+(k+1))=(LU.getD k 0==10)):=aJ (by rw[<-Nat.add_assoc,jV,h1])
    have az:=aJ (t.Mx d (IZ:=bt cs.flatten (cT cs j+k)) (ch:=LU.getD k 0))
    clear I ae hF hU g1 g2 h1 h2 ac u i l;generalize LU.getD k 0=ch at *;go_wp2_with fail;refine(N.out).mono ?_;rintro e w4 ⟨rfl,f1,f2⟩;clear N cK;cases hq:cw st (Mx st (bt cs.flatten (cT cs j+k)) ch Lk) with
    |true=>
     obtain⟨ak,c,_⟩:=f1 hq;have p:R=((cT cs j+k:Nat):Int)+1:=ar hq;have A:=aJ (f.up c.I5);obtain⟨_,_,_,_,_,z5⟩:=c.cells;have F:=aJ (fun w' (h:ID w w')=>r w' (j:Int) (((cT cs j+k:Nat):Int)+1) h (uo p P))
     go_upto_region 18 with fail
     go_quiet (fail)
     go_wp2
     refine aP (v:=TZ #[Z Y (j:Int),Z Y (((cT cs j+k:Nat):Int)+1),Z Y 0]) (by simp[results,results172,go_sem]) rfl ?_
     exact F _ (A.drewN _)
    |false=>
     obtain⟨ak,c,_⟩:=f2 hq;obtain⟨gU,gR⟩:=au hq;cases y:cw st (CL st (bt cs.flatten (cT cs j+k)) ch Lk) with
     |true=>
      have p:R=((cT cs j+k:Nat):Int)+1:=gR y
      rw[y] at c;have A:=aJ (f.up c.I5);obtain⟨_,_,_,_,_,z5⟩:=c.cells;have F:=aJ (fun w' (h:ID w w')=>r w' (j:Int) (((cT cs j+k:Nat):Int)+1) h (uo p P))
      go_upto_region 18 with fail
      go_quiet (fail)
      go_wp2
      refine aP (v:=TZ #[Z Y (j:Int),Z Y (((cT cs j+k:Nat):Int)+1),Z Y 0]) (by simp[results,results172,go_sem]) rfl ?_
      exact F _ (A.drewN _)
     |false=>
      rw[y] at c;obtain⟨_,_,_,_,_,z5⟩:=c.cells;have HW:Hid (IA w2 B g gm st A2 c2 cs R j LU (Z Y ((k+1:Nat):Int)) w4):=aJ ⟨k+1,rfl,o,ak,_,aJ (by rw[am.out];exact c),aJ y,aJ (IX.Jh d _ _ _ ((IX.Kd d _ az).enter (by have:=(bi d).1;omega))),aJ gU⟩
      go_wp2
      go_roundw
      case rel=>exact HW
      simp[intOf];omega
   have HW:Hid (In w2 B g gm st A2 c2 cs R (Z Y ((j+1:Nat):Int)) wr):=aJ ⟨j+1,rfl,m,al,Lk,by rw[an.out,show LU.length=k by omega];exact⟨l,i,t,u⟩⟩
   have aQ:¬(k:Int)<(LU.length:Int):=by omega
   clear l i t u;go_wp2_with fail;go_roundw
   case rel=>exact HW.out
   simp[intOf];omega
  obtain rfl:j=cs.length:=by omega
  have p:R= -1:=by
   have h5:=D.out
   rw[xG] at h5;exact Ao z h5
  subst p;have F:=aJ (r wr (cs.length:Int) (-1) (f.up q.I5) rfl);go_wp2;refine aP (v:=TZ #[Z Y (cs.length:Int),Z Y (-1),Z Y 0]) (by simp[results,results172,go_sem]) rfl ?_
  exact F
end Go.Proofs.YtflccikncbhpdaaGreatDoor
namespace Go.Proofs.YtflccikncbhpdaaGreatDoor
open Go.RowKit Go.Maps Go.WideMaps
set_option linter.unusedVariables false
theorem Ki:Keyed Up 9:=string_keyed underlying9
def xN(s:ByteArray):Lit:= .string s.data.toList
theorem gZ(s:ByteArray)(h:s.size<=maxLen):keyOf Up 9 (Q s)=X (xN s):=keyOf_string_mk underlying9 h
theorem uH{a b:ByteArray}(h:xN a=xN b):a=b:=by
 unfold xN at h;injection h with h
 obtain⟨⟨a⟩⟩:=a;simp_all
def KG(w:Ui)(b n:Nat)(f:ByteArray->Option Nat):Prop:=
 ∃D:DataW Unit,w.ownsMap Up 9 (plainElem Up 3) b n D/\∀s:ByteArray,s.size<=maxLen->Maps.has D (xN s)=(f s).isSome/\∀i:Nat,f s=X i->D.atKey (xN s) (.lit (.int Y 0))= .lit (.int Y i)
theorem KG.kept{n:Nat}{f:ByteArray->Option Nat}{row:Option Nat}(h:KG w b n f)(a:w.grownBy w' row)(hne:X b≠row):KG w' b n f:=by
 obtain⟨D,h1,h2⟩:=h;exact⟨D,h1.kept a hne,h2⟩
theorem KG.up{n:Nat}{f:ByteArray->Option Nat}(h:KG w b n f)(a:ID w w'):KG w' b n f:=
 h.kept (row:=V) ⟨a.out.os,a.out.tape,a.out.output,a.out.size,fun k hk _=>a.out.block k hk⟩ (by simp)
theorem KG.I4{n:Nat}{f:ByteArray->Option Nat}{t:Um}(h:KG w b n f)(hk:w.heap[k]? =X (H cs t z))(a:w.grownBy w' (X k)):KG w' b n f:=by
 refine h.kept a (fun e=>?_)
 injection e with e
 obtain⟨D,⟨es,_,_,_⟩,_⟩:=h
 grind
theorem KG.made(w:Ui):KG (w.alloc (.map #[] 0)) w.heap.size 0 (fun _=>V):=⟨.map [],World.ownsMap_made w _ _ _,fun s _=>⟨rfl,fun i h=>by cases h⟩⟩
theorem KG.same{n:Nat}{f a:ByteArray->Option Nat}(h:KG w b n f)(c:∀s,a s=f s):KG w b n a:=by
 obtain⟨D,h1,h2⟩:=h;exact⟨D,h1,fun s hs=>by rw[c s];exact h2 s hs⟩
theorem qw(w:Ui):(zeroValue 3).run Up w= .ok (Z Y 0) w:=by kernel_rfl
theorem KG.look_ok{n:Nat}{f:ByteArray->Option Nat}(h:KG w b n f){s:ByteArray}(hs:s.size<=maxLen):
  ∃c:Int,(Instr.lookup 69 (.map (X b)) (Q s) G).run Up w= .ok (TZ #[Z Y c,K (f s).isSome]) w/\∀i:Nat,f s=X i->c=(i:Int):=by
 obtain⟨D,h1,h2⟩:=h;obtain⟨v,ps,a,hv⟩:=h1.look_ok Ki underlying69 (qw w) (Uo underlying3 (by decide)) (gZ s hs)
 obtain⟨c,rfl,hc,_⟩:=plainElem_int_inv underlying3 hv;rw[(h2 s hs).1] at a;refine⟨c,a,fun i e=>?_⟩
 have d:=(h2 s hs).2 i e
 simp only[Prod.mk.injEq] at hc;rw[d] at hc;have:=hc.1;simp at this;omega
theorem KG.put{n:Nat}{f:ByteArray->Option Nat}(h:KG w b n f)(o:n<1000000){s:ByteArray}(hs:s.size<=maxLen)(i:Nat)(m:i<1000000):
  ∃w',(Instr.mapUpdate 69 (.map (X b)) (Q s) (Z Y i)).run Up w= .ok () w'/\KG w' b (n+1) (fun x=>if x=s then X i else f x)/\w.grownBy w' (X b):=by
 obtain⟨D,h1,h2⟩:=h;have l:(Lit.int Y (i:Int)).wf=G:=WalkArith.wf_i64 (by omega)
 obtain⟨w',c,j,k⟩:=h1.update Ki underlying69 (by unfold maxLen;omega) (gZ s hs) (Uo underlying3 l)
 refine⟨w',c,⟨_,j,fun q d=>?_⟩,k⟩
 by_cases e:q=s
 ·subst e;have hk:=Ki.key (gZ q hs);rw[has_put_same h1.isMap hk];simp only[ite_true];refine⟨rfl,fun g a=>?_⟩
  simp at a
  subst a;exact atKey_put_same h1.isMap hk _ _
 have hne:xN q≠xN s:=fun h=>e (uH h)
 rw[has_put_other hne];simp only[ng_ e];rw[(h2 q d).1];refine⟨rfl,fun g a=>?_⟩
 rw[atKey_put_other hne];exact(h2 q d).2 g a
theorem pR(w:Ui)(s:ByteArray)(hs:s.size<=maxLen):(Instr.lookup 69 (.map V) (Q s) G).run Up w= .ok (TZ #[Z Y 0,K O]) w:=by
 have h:=Maps.look_nil G Ki underlying69 (qw w) (gZ s hs)
 simpa using h
end Go.Proofs.YtflccikncbhpdaaGreatDoor
namespace Go.Proofs.YtflccikncbhpdaaGreatDoor
open Go.RowKit Go.Shelf
set_option linter.unusedVariables false
structure Pm where
 tA:Option Uk
 tc:Nat
 oA:Option Uk
 oc:Nat
 nA:Option Uk
 nc:Nat
 nl:List Nat
 dA:Option Uk
 dc:Nat
 dl:List Nat
def cC(x:Lf.T)(A:Option Uk)(c:Nat):List Uj:=[Z Y x.ph,Z Y x.inc,Z Y x.JX,Z E x.Jy,U A x.I0.length c,Z E x.due,K x.JV,Z Y x.Kn,K x.halt,K x.again]
theorem ET(x:Lf.T)(A:Option Uk)(c:Nat):gQ x A c= .agg (cC x A c).toArray:=rfl
def aZ(q:Oc.Pl)(m:Pm):List Uj:=ag q.j++(cC q.x m.tA m.tc++[U m.oA q.out.length m.oc,U m.nA m.nl.length m.nc,U m.dA m.dl.length m.dc])
theorem jj(q:Oc.Pl)(m:Pm):(aZ q m).length=28:=rfl
def cJ(a:Oc.Ac):List Uj:=[Z Y a.IF,Q a.I6,Z Y a.n,U V 0 0,Z Y 0,Z Y 0,Z Y 0,Z Y 0]
def ft(l:List Oc.Ac):List Uj:=l.flatMap cJ
structure JT(w:Ui)(j:Jd):Prop where
 IJ:Ts w 238 j.eA (cH j.IJ)
 IC:Ts w 9 j.nA (ar j.IC)
 IK:Ts w 241 j.lA (I8 j.IK)
 eb:j.IJ.length<=9223372036854775807
 nb:j.IC.length<=9223372036854775807
 lb:j.IK.length<=9223372036854775807
theorem JT.up{j:Jd}(h:JT w j)(a:ID w w'):JT w' j:=⟨h.IJ.up a,h.IC.up a,h.IK.up a,h.eb,h.nb,h.lb⟩
theorem JT.jm{j:Jd}(h:JT w j):JM w j:=⟨h.IJ.rs,h.IC.rs,h.IK.rs,h.eb,h.nb,h.lb⟩
def oB(A:Option Uk):Option Nat:=A.map (·.block)
structure OO(w0 w:Ui)(oA:Option Uk)(dv:Uj)(m:Nat->Pm)(s:Oc.St):Prop where
 ord:Ts w 3 oA (aW (aH (Oc.IP s)))
 jm:∀i,i<s.pl.length->JT w (Oc.p s i).j
 I0:∀i,i<s.pl.length->Ts w 60 (m i).tA (ef (Oc.p s i).x.I0)
 IC:∀i,i<s.pl.length->(m i).nl=Gp.IC (Oc.Js s) i/\Ts w 3 (m i).nA (aW (aH (m i).nl))
 J8:∀i,i<s.pl.length->Ts w 3 (m i).dA (aW (aH (m i).dl))
 Ku:∀i,i<s.pl.length->IL w w0.heap.size 5 1 (.slice (m i).oA (Oc.p s i).out.length (m i).oc) (Oc.p s i).out.length (Jp (Oc.p s i).out)
 JU:Qw w w0.heap.size 60 dv s.JU.length (ef s.JU)
 ap:∀i k,i<s.pl.length->k<s.pl.length->i≠k->∀q,oB (m i).oA=some q->oB (m k).oA≠some q
structure BP where
 n:Nat
 pa:List (Option Uk×List Uj)
 ps:List (Option Uk×List Uj)
structure SG(w0 w:Ui)(B:BP)(g pb pc:Nat)(oA:Option Uk)(oc:Nat)(mp dv av:Uj)(m:Nat->Pm)(s:Oc.St):Prop where
 I5:ID w0 w
 gB:w0.heap.size<=g
 pB:w0.heap.size<=pb
 st:w.heap[g]? =some (.cells #[.slice (some ⟨pb,0,none⟩) s.pl.length pc,.slice oA (Oc.IP s).length oc,mp,.int .u64 s.now,dv,.bool false,.bool false,.bool false,.slice none 0 0,.map none,av] 72 (0,0))
 pl:∃cur,w.heap[pb]? =some (.cells cur 121 (0,0))/\cur.size=s.pl.length*28/\∀i,i<s.pl.length->∀k,k<28->cur[i*28+k]? =(aZ (Oc.p s i) (m i))[k]?
 pc:s.pl.length<=pc
 rows:OO w0 w oA dv m s
 IV:IL w B.n 42 8 av s.IV.length (ft s.IV)
 BB:w0.heap.size<=B.n/\B.n<=w.heap.size
 JA:s.pl.length<=32
 map:∃q k,mp= .map (some q)/\KG w q k (Gp.ix (Oc.Js s))
 Lm:∀r∈B.pa,Ts w 42 r.1 r.2/\∀q off fz,r.1=some ⟨q,off,fz⟩->q<B.n
 Mb:∀r∈B.ps,Ts w 48 r.1 r.2
section
variable {w0 w w' : Ui} {B : BP} {g pb pc : Nat} {oA : Option Uk} {oc : Nat} {mp dv av : Uj} {m : Nat -> Pm} {s : Oc.St}
theorem OO.up(h:OO w0 w oA dv m s)(b:ID w w'):OO w0 w' oA dv m s:=
 ⟨h.ord.up b,fun i a=>(h.jm i a).up b,fun i a=>(h.I0 i a).up b,fun i a=>⟨(h.IC i a).1,(h.IC i a).2.up b⟩,fun i a=>(h.J8 i a).up b,fun i a=>(h.Ku i a).up b,h.JU.up b,h.ap⟩
theorem SG.up(h:SG w0 w B g pb pc oA oc mp dv av m s)(a:ID w w'):SG w0 w' B g pb pc oA oc mp dv av m s:=
 ⟨h.I5.up a,h.gB,h.pB,a.block h.st,h.pl.elim fun cur hc=>⟨cur,a.block hc.1,hc.2⟩,h.pc,h.rows.up a,h.IV.up a,⟨h.BB.1,bN h.BB.2 a.size⟩,h.JA,h.map.elim fun q c=>c.elim fun k hk=>⟨q,k,hk.1,hk.2.up a⟩,fun r b=>⟨(h.Lm r b).1.up a,(h.Lm r b).2⟩,fun r b=>(h.Mb r b).up a⟩
theorem Ts.I4{t:Um}(h:Ts w e A xs)(hk:w.heap[k]? =X (H cs t z))(d:w.grownBy w' (X k))(hne:e≠t):Ts w' e A xs:=by
 rcases h with q|⟨b,off,cur,fz,c,a,hc⟩
 ·exact bX q
 refine bY ⟨b,off,cur,fz,c,(d.block b (aQ a) (fun e=>?_)).trans a,hc⟩
 injection e with e
 subst e;rw[a] at hk;have hk2:=bQ hk;injection hk2 with e1 e2 e3
 exact hne e2
theorem IL.I4{t:Um}{sz:Nat}{n:Nat}(h:IL w a e sz v n xs)(hk:w.heap[k]? =X (H cs t z))(b:w.grownBy w' (X k))(hne:e≠t):IL w' a e sz v n xs:=
 bT h b (by
  cases hv:v.ownBlock with
  |none=>exact bX rfl
  |some q=>right;rw[<-hv];exact fun e=>db h hk hne e.symm)
theorem Qw.I4{t:Um}{n:Nat}(h:Qw w a e v n xs)(hk:w.heap[k]? =X (H cs t z))(c:w.grownBy w' (X k))(hne:e≠t):Qw w' a e v n xs:=by
 refine Qw.kept h c ?_;rcases h.2 with⟨rfl,_⟩|⟨q,off,cap,cur,rfl,_,d,_⟩
 ·exact bX rfl
 right
 intro b;simp[T1] at b;subst b;rw[d] at hk;have hk2:=bQ hk;injection hk2 with e1 e3 e4
 exact hne e3
theorem JT.I4{t:Um}{j:Jd}(h:JT w j)(hk:w.heap[k]? =X (H cs t z))(a:w.grownBy w' (X k))(h1:238≠t)(h2:9≠t)(b:241≠t):JT w' j:=
 ⟨h.IJ.I4 hk a h1,h.IC.I4 hk a h2,h.IK.I4 hk a b,h.eb,h.nb,h.lb⟩
theorem Ts.other{k:Option Nat}(h:Ts w e A xs)(d:w.grownBy w' k)(hne:∀q off fz,A=X ⟨q,off,fz⟩->X q≠k):Ts w' e A xs:=by
 rcases h with q|⟨b,off,cur,fz,a,c,hc⟩
 ·exact bX q
 exact bY ⟨b,off,cur,fz,a,(d.block b (aQ c) (hne b off V a)).trans c,hc⟩
theorem OO.I4{t:Um}(h:OO w0 w oA dv m s)(hk:w.heap[k]? =X (H cs t z))(c:w.grownBy w' (X k))(f:t=121\/t=72\/t=42):OO w0 w' oA dv m s:=by
 have b:∀e:Um,e≠121->e≠72->e≠42->e≠t:=fun e h1 h2 g=>by rcases f with d|d|d<;>rw[d]<;>assumption
 exact⟨h.ord.I4 hk c (b _ (by decide) (by decide) (by decide)),fun i a=>(h.jm i a).I4 hk c (b _ (by decide) (by decide) (by decide)) (b _ (by decide) (by decide) (by decide)) (b _ (by decide) (by decide) (by decide)),fun i a=>(h.I0 i a).I4 hk c (b _ (by decide) (by decide) (by decide)),fun i a=>⟨(h.IC i a).1,(h.IC i a).2.I4 hk c (b _ (by decide) (by decide) (by decide))⟩,fun i a=>(h.J8 i a).I4 hk c (b _ (by decide) (by decide) (by decide)),fun i a=>(h.Ku i a).I4 hk c (b _ (by decide) (by decide) (by decide)),h.JU.I4 hk c (b _ (by decide) (by decide) (by decide)),h.ap⟩
theorem SG.cell(h:SG w0 w B g pb pc oA oc mp dv av m s)(k:Nat)(hv: #[T_ (X ⟨pb,0,V⟩) s.pl.length pc,U oA (Oc.IP s).length oc,mp,Z E s.now,dv,K O,K O,K O,U V 0 0,.map V,av][k]? =X v):w.cell? ⟨g,k,V⟩=X v/\w.frozen? ⟨g,k,V⟩=O:=
 ⟨(aK w g k _ _ _ h.st).trans hv,aN w g k _ _ h.st⟩
theorem SG.Jt(h:SG w0 w B g pb pc oA oc mp dv av m s)(b:i<s.pl.length)(k:Nat)(hk:k<28)(hv:(aZ (Oc.p s i) (m i))[k]? =X v):w.cell? ⟨pb,i*28+k,V⟩=X v/\w.frozen? ⟨pb,i*28+k,V⟩=O:=by
 obtain⟨cur,a,hs,hc⟩:=h.pl;exact⟨(aK w pb _ _ _ _ a).trans ((hc i b k hk).trans hv),aN w pb _ _ _ a⟩
end
namespace Gp
def key(j:Jd):ByteArray×List ByteArray:=(j.nm,j.IC)
theorem pS{l m:List Jd}(h:l.map key=m.map key):l.length=m.length:=by
 have:=congrArg Ua h
 simpa using this
theorem Of{l m:List Jd}(h:l.map key=m.map key)(i:Nat):key (l.getD i cE)=key (m.getD i cE):=by
 have h1:(l.map key)[i]? =(m.map key)[i]?:=by rw[h]
 grind
theorem EZ(l:List Jd)(nm:ByteArray):ix l nm=(l.map key).findIdx? fun k=>decide (k.1=nm):=by
 unfold ix;rw[List.findIdx?_map];rfl
theorem Mo{l m:List Jd}(h:l.map key=m.map key)(nm:ByteArray):ix l nm=ix m nm:=by grind [EZ]
theorem CT{l m:List Jd}(h:l.map key=m.map key)(i:Nat):NG l i=NG m i:=by
 unfold NG;have e:(l.getD i cE).IC=(m.getD i cE).IC:=congrArg Prod.snd (Of h i);have a:ix l=ix m:=by funext nm;exact Mo h nm
 rw[e,a]
theorem wT{l m:List Jd}(h:l.map key=m.map key)(i:Nat):IC l i=IC m i:=by grind [IC,CT,pS]
theorem ry{l m:List Jd}(h:l.map key=m.map key):J9 l=J9 m:=by grind [J9,pS,List.map_congr_left,wT]
theorem NQ{l m:List Jd}(h:l.map key=m.map key):IP l=IP m:=by grind [IP,ry]
theorem Md{l m:List Jd}(h:l.map key=m.map key):Kq l↔Kq m:=by grind [Kq,ry,pS]
end Gp
end Go.Proofs.YtflccikncbhpdaaGreatDoor
