/- Part 9: walks and plain laws. -/
import Derived.Test.YtflccikncbhpdaaGreatDoorZy5
import Derived.Test.YtflccikncbhpdaaGreatDoorZy6
import Derived.Test.YtflccikncbhpdaaGreatDoorZy8
import Derived.KernelRfl
import Derived.Lib.AppendStr
set_option maxHeartbeats 16000000
set_option maxRecDepth 100000
open Go.Lib renaming hid → aJ
open Go renaming cell_of_row → aK, heap_setCell_other → aL, heap_alloc_new → aM, frozen_of_row → aN, heap_setCell_same → aO, bodyPost_ret → aP, lt_of_block → aQ, undef → aR, World → Ye, Calls → Yf, Addr → Yg, Value → Yh
open List renaming getD_eq_getElem?_getD → bD, getElem?_eq_getElem → bE, length_append → bF, length_singleton → bG, getElem_mem → bH, getElem?_eq_none → bI, getElem?_append_left → bJ, length_set → bK, length_map → bL, mem_singleton → Xx, mem_cons → Xz, all_eq_true → XA, map_cons → XB, getElem?_eq_some_iff → XD, not_mem_nil → XE, mem_map_of_mem → XF, mem_range → XG, nil_append → XH, mem_append → XI, take_length → XJ, range → XK, length_take → XL, length_drop → XM, nodup_append → XN, map_append → XO, getElem?_map → XP, getElem?_take → XQ, length_cons → XR, drop_eq_getElem_cons → XS, mem_append_left → XT, mem_append_right → XU, mem_flatMap → XV, mem_map → XW, map_nil → XX, map_reverse → XY, reverse_reverse → XZ, ext_getElem → X0, getElem_map → X1, mem_iff_getElem → X2, length_nil → X4, take_append_of_le_length → X5, find?_some → X6, eq_nil_of_length_eq_zero → X7, getElem?_set_ne → X8, length → Ya, take_of_length_le → Yb, foldl_cons → Yc, drop_length → Yd
open Nat renaming le_refl → bM, le_trans → bN, zero_le → bO
open Option.some renaming inj → bQ
open Go.World.ownsRow renaming kept → bT, lt → bU
open Go.IntWalk renaming i64_in → bV
open Exists renaming intro → bW
open Or renaming inl → bX, inr → bY
variable {i c m k B g:Nat} {o u b oF:List Nat} {w wr w':Go.World} {A:Option Go.Addr} {α:Type} {tk:List Bool} {ns:List (List Nat)} {s:ByteArray}
open Go.Value renaming int → Z, slice → U, string → Q, pointer → M, bool → K, int → Xv, oneCell' → X3
open Go.IntKind renaming i64 → Y, i64 → Xy
open Option renaming none → V, some → X
open Bool renaming false → O, true → G, and_eq_true → XC, not_true → X9, false_or → X_
open Go.Obj renaming cells → H
open And renaming intro → Xw
open Go.Proofs.Tryz renaming prog → Yi
open Go.Proofs.Tryz
namespace Go.Proofs.YtflccikncbhpdaaGreatDoor
open Go.RowKit Go.Shelf
set_option linter.unusedVariables false
theorem mV:∀s∈ej,∃l,LB s l/\cO (bs s)=(l,0):=fun s hs=>(kN s hs).elim fun l h=>⟨l,h,h.pr⟩
def qu:List Nd:=[⟨2,3,3,0⟩,⟨5,0,0,0⟩,⟨1,1,0,162259276829213363391578010288128⟩,⟨1,2,0,2596148429267413814265248164610048⟩]
theorem D1:aY (cO (bs (⟨#[111,107]⟩:ByteArray))).1=qu:=by decide+kernel
theorem uC{st:List Nd}{d:Nat}(h:∀s,hasB (nd st s).set c=hasB (nd st s).set d)(L:List Nat):Kd st c L=Kd st d L:=by
 unfold Kd;have e:(fun IW s=>fP st c s IW)=fun IW s=>fP st d s IW:=by
  funext IW s
  unfold fP;rw[h s]
 rw[e]
theorem pQ{st:List Nd}{t:List Nat}(c:t.length=u.length)(a:∀i,t.getD i 0=10↔u.getD i 0=10)(hs:∀i s,hasB (nd st s).set (t.getD i 0)=hasB (nd st s).set (u.getD i 0)):
  ∀f i L,gW st t f i L=gW st u f i L:=by
 have b:∀i,bt t i=bt u i:=fun i=>by
  unfold bt;have:=a (i-1)
  by_cases h:u.getD (i-1) 0=10
  ·rw[h,this.mpr h]
  have h2:¬t.getD (i-1) 0=10:=fun e=>h (this.mp e)
  rw[beq_eq_false_iff_ne.mpr h,beq_eq_false_iff_ne.mpr h2]
 intro f
 induction f with
 |zero=>intro i L;rfl
 |succ f ih=>
  intro i L;rw[gW,gW,b i,c];simp only;rw[uC (hs i),uC (hs i),ih,ih]
  by_cases h:u.getD i 0=10
  ·rw[ps_ h,ps_ ((a i).mpr h)]
  rw[ng_ h,ng_ (fun e=>h ((a i).mp e))]
def yA:List Nat:=[10,107,111,0]
theorem EB:∀c:Fin 256,∃r∈yA,(c.val=10↔r=10)/\(c.val=107↔r=107)/\(c.val=111↔r=111)/\∀s:Fin 5,hasB (nd qu s.val).set c.val=hasB (nd qu s.val).set r:=by decide+kernel
theorem pK(h:c<256):∃r∈yA,(c=10↔r=10)/\(c=107↔r=107)/\(c=111↔r=111)/\∀s,hasB (nd qu s).set c=hasB (nd qu s).set r:=by
 obtain⟨r,h1,h2,b,d,a⟩:=EB ⟨c,h⟩;refine⟨r,h1,h2,b,d,fun s=>?_⟩
 by_cases hs:s<4
 ·exact a ⟨s,by omega⟩
 have e:nd qu s=nd qu 4:=by
  unfold nd;rw[bD,bD,bI (by show 4<=s;omega),bI (by show 4<=4;omega)]
 rw[e];exact a ⟨4,by omega⟩
theorem Dm{t:List Nat}(a:∀b∈t,b<256)(k:t.length<=2)(h:0<=df qu t):t=[111,107]:=by
 have hv:bw qu=G:=by decide+kernel
 match t,a,k with
 |[],_,_=>exact absurd h (by decide+kernel)
 |[x],a,_=>
  obtain⟨r,d,h1,h2,f,c⟩:=pK (a x (by simp))
  have e:df qu [x]=df qu [r]:=by
   unfold df;rw[ps_ hv,ps_ hv];exact pQ (st:=qu) (t:=[x]) (u:=[r]) rfl (fun i=>by rcases i with _|i;exact h1;exact Iff.rfl) (fun i s=>by rcases i with _|i;exact c s;rfl) _ _ _
  rw[e] at h;exact absurd h ((by decide+kernel:∀r∈yA,¬0<=df qu [r]) r d)
 |[x,y],a,_=>
  obtain⟨r,d,h1,h2,f,c⟩:=pK (a x (by simp))
  obtain⟨q,l,k1,k2,k3,k4⟩:=pK (a y (by simp))
  have e:df qu [x,y]=df qu [r,q]:=by
   unfold df;rw[ps_ hv,ps_ hv];exact pQ (st:=qu) (t:=[x,y]) (u:=[r,q]) rfl (fun i=>by rcases i with _|_|i;exact h1;exact k1;exact Iff.rfl) (fun i s=>by rcases i with _|_|i;exact c s;exact k4 s;rfl) _ _ _
  rw[e] at h;obtain⟨g,j⟩:=(by decide+kernel:∀r∈yA,∀q∈yA,0<=df qu [r,q]->r=111/\q=107) r d q l h
  rw[f.mpr g,k2.mpr j]
def og(eA nA lA:Option Yg)(ec nc lc:Nat):Jd:=⟨⟨#[97]⟩,⟨#[120]⟩,eA,[],ec,nA,[⟨#[98]⟩],nc,O,⟨#[]⟩,2,100,10000,10000,5,60000,lA,[(15,5000)],lc,1,5⟩
def pu(eA nA lA:Option Yg)(ec nc lc:Nat):Jd:=⟨⟨#[98]⟩,⟨#[121]⟩,eA,[],ec,nA,[],nc,G,⟨#[111,107]⟩,2,100,10000,10000,5,60000,lA,[(15,5000)],lc,1,31⟩
theorem AD{js:List Jd}(h:js.map cV=ON):∃a1 a2 a3 n1 n2 n3 b1 b2 b3 m1 m2 m3,js=[og a1 a2 a3 n1 n2 n3,pu b1 b2 b3 m1 m2 m3]:=by
 unfold ON at h;cases js with
 |nil=>cases h
 |cons a js=>
  rw[XB] at h;injection h with h1 h2
  cases js with
  |nil=>cases h2
  |cons b js=>
   rw[XB] at h2;injection h2 with h2 h3
   cases js with
   |cons _ _=>cases h3
   |nil=>
    obtain⟨_,_,_,_,_,_,_,_,_,_,_,_,_,_,_,_,_,_,_,_,_⟩:=a;obtain⟨_,_,_,_,_,_,_,_,_,_,_,_,_,_,_,_,_,_,_,_,_⟩:=b;simp only[cV,Jd.mk.injEq,true_and] at h1 h2;obtain⟨rfl,rfl,rfl,rfl,rfl,rfl,rfl,rfl,rfl,rfl,rfl,rfl,rfl,rfl,rfl⟩:=h1;obtain⟨rfl,rfl,rfl,rfl,rfl,rfl,rfl,rfl,rfl,rfl,rfl,rfl,rfl,rfl,rfl⟩:=h2;exact⟨_,_,_,_,_,_,_,_,_,_,_,_,rfl⟩
section
variable {a1 a2 a3 b1 b2 b3 : Option Yg} {n1 n2 n3 m1 m2 m3 : Nat}
theorem qh:[og a1 a2 a3 n1 n2 n3,pu b1 b2 b3 m1 m2 m3].map Gp.key=ON.map Gp.key:=rfl
theorem Dq:Gp.Kq [og a1 a2 a3 n1 n2 n3,pu b1 b2 b3 m1 m2 m3]:=by
 rw[Gp.Md qh];have h:(Gp.ord (Gp.J9 ON)).2=[G,G]:=by decide+kernel
 intro i a;rw[h];have:i=0\/i=1:=by have:ON.length=2:=rfl;omega
 rcases this with rfl|rfl<;>rfl
theorem rU:Gp.IP [og a1 a2 a3 n1 n2 n3,pu b1 b2 b3 m1 m2 m3]=[1,0]:=by
 rw[Gp.NQ qh]
 decide+kernel
theorem qi:Gp.ix [og a1 a2 a3 n1 n2 n3,pu b1 b2 b3 m1 m2 m3] ⟨#[97]⟩=X 0:=by rw[Gp.Mo qh];decide+kernel
theorem lW:Gp.ix [og a1 a2 a3 n1 n2 n3,pu b1 b2 b3 m1 m2 m3] ⟨#[98]⟩=X 1:=by rw[Gp.Mo qh];decide+kernel
theorem Fw:Oj (og a1 a2 a3 n1 n2 n3):=⟨by show(100:Int)<=10000;decide,by show(0:Int)<60000;decide,by show(1:Int)<=5;decide,by show(5:Int)<=16;decide,bY (bX rfl),by show 1<=5;decide,fun i a=>by
 have:i=0:=by have:(og a1 a2 a3 n1 n2 n3).IK.length=1:=rfl;omega
 subst this;exact bY (bY (bY (bY (bY rfl))))⟩
theorem Fv:Oj (pu a1 a2 a3 n1 n2 n3):=⟨by show(100:Int)<=10000;decide,by show(0:Int)<60000;decide,by show(1:Int)<=5;decide,by show(5:Int)<=16;decide,bY (bX rfl),by show 1<=5;decide,fun i a=>by
 have:i=0:=by have:(pu a1 a2 a3 n1 n2 n3).IK.length=1:=rfl;omega
 subst this;exact bY (bY (bY (bY (bY rfl))))⟩
theorem GT:LJ [og a1 a2 a3 n1 n2 n3,pu b1 b2 b3 m1 m2 m3]:=by
 refine⟨by show 2<=32;decide,fun i b=>?_,Dq⟩
 have a:i=0\/i=1:=by simp at b;omega
 rcases a with rfl|rfl
 ·refine⟨qi,fun k hk=>?_,by show 1<=1000000;decide,Fw,fun e=>(by cases e)⟩
  have hk2:k=0:=by have:(og a1 a2 a3 n1 n2 n3).IC.length=1:=rfl;exact Nat.lt_one_iff.mp (this▸hk)
  subst hk2
  show Gp.ix _ ⟨#[98]⟩≠V
  rw[lW];simp
 exact⟨lW,fun k hk=>absurd hk (Nat.not_lt_zero _),by show 0<=1000000;decide,Fv,fun _=>kN _ (by show(⟨#[111,107]⟩:ByteArray)∈ej;simp[ej])⟩
theorem Fx:∀i,i<[og a1 a2 a3 n1 n2 n3,pu b1 b2 b3 m1 m2 m3].length->Gp.ix [og a1 a2 a3 n1 n2 n3,pu b1 b2 b3 m1 m2 m3] (Au.I6 [og a1 a2 a3 n1 n2 n3,pu b1 b2 b3 m1 m2 m3] i).nm=X i:=fun i b=>by
 have a:i=0\/i=1:=by simp at b;omega
 rcases a with rfl|rfl
 ·exact qi
 exact lW
theorem vi:∀j∈[og a1 a2 a3 n1 n2 n3,pu b1 b2 b3 m1 m2 m3],me j:=fun j hj=>by
 simp only[Xz,XE,or_false] at hj;rcases hj with rfl|rfl
 ·intro e;cases e
 exact fun _=>mV _ (by show(⟨#[111,107]⟩:ByteArray)∈ej;simp[ej])
theorem Fy:∀j∈[og a1 a2 a3 n1 n2 n3,pu b1 b2 b3 m1 m2 m3],Oc.OS j:=fun j hj=>by
 simp only[Xz,XE,or_false] at hj;rcases hj with rfl|rfl
 ·exact⟨fun e=>(by cases e),by show 1<=1000000;decide⟩
 exact⟨fun _=>kN _ (by show(⟨#[111,107]⟩:ByteArray)∈ej;simp[ej]),by show 1<=1000000;decide⟩
theorem xH{ts:List (List Nat)}(d:ts.length=2)(hs:∀i t,ts[i]? =X t->Ky ([og a1 a2 a3 n1 n2 n3,pu b1 b2 b3 m1 m2 m3].getD (([1,0]:List Nat).getD i 0) cE) t):
  cW [og a1 a2 a3 n1 n2 n3,pu b1 b2 b3 m1 m2 m3] [1,0] ts=[⟨1,⟨#[98]⟩,G,0,[],0⟩,⟨3,⟨#[98]⟩,O,0,[111,107],0⟩,⟨1,⟨#[97]⟩,G,0,[],0⟩]:=by
 obtain⟨t,u,rfl⟩:∃t u,ts=[t,u]:=by
  match ts,d with
  |[t,u],_=>exact⟨t,u,rfl⟩
 have b:Ky (pu b1 b2 b3 m1 m2 m3) t:=hs 0 t rfl
 have h1:Ky (og a1 a2 a3 n1 n2 n3) u:=hs 1 u rfl
 obtain rfl:u=[]:=h1.MZ rfl;have hit:0<=df (aY (cO (bs (⟨#[111,107]⟩:ByteArray))).1) t:=b.hit rfl;have a:∀t',LV (aY (cO (bs (⟨#[111,107]⟩:ByteArray))).1) t'->t.length<=t'.length:=b.Od rfl
 rw[D1] at hit a;have c:t.length<=2:=by
  rcases gJ (st:=qu) (by decide+kernel) [111,107] with⟨n,k1,k2,k3,_⟩|⟨k1,_⟩
  ·obtain⟨t',k4,k5⟩:=jD k1 (by decide) k3
   have:=a t' k4
   simp at k1
   omega
  exact absurd k1 (by decide+kernel)
 obtain rfl:=Dm b.bytes c hit;rfl
theorem Dn:(Oc.KS [og a1 a2 a3 n1 n2 n3,pu b1 b2 b3 m1 m2 m3] [⟨1,⟨#[98]⟩,G,0,[],0⟩,⟨3,⟨#[98]⟩,O,0,[111,107],0⟩,⟨1,⟨#[97]⟩,G,0,[],0⟩]).map Oc.St.IV=[[⟨1,⟨#[98]⟩,1⟩],[],[⟨1,⟨#[97]⟩,1⟩],[]]:=by kernel_rfl
theorem uu{x y:Au.R}(hx:(∀b∈x.out,b<256)/\x.out.length<=1000000)(hy:(∀b∈y.out,b<256)/\y.out.length<=1000000):ll [x,y]
 |0=>hx
 |1=>hy
 |k+2=>⟨fun b a=>absurd a (by show¬b∈[];simp),bO _⟩
theorem Dp:xK [og a1 a2 a3 n1 n2 n3,pu b1 b2 b3 m1 m2 m3] [⟨1,⟨#[98]⟩,G,0,[],0⟩,⟨3,⟨#[98]⟩,O,0,[111,107],0⟩,⟨1,⟨#[97]⟩,G,0,[],0⟩] [[⟨1,⟨#[98]⟩,1⟩],[],[⟨1,⟨#[97]⟩,1⟩],[]]:=by
 have z:(∀b∈([]:List Nat),b<256)/\([]:List Nat).length<=1000000:=⟨fun b c=>(by cases c),bO _⟩
 have o:(∀b∈[111,107],b<256)/\[111,107].length<=1000000:=⟨by decide,by decide⟩
 have no:nJ [og a1 a2 a3 n1 n2 n3,pu b1 b2 b3 m1 m2 m3] []:=fun a ha=>by cases ha
 refine⟨_,_,[Au.r0,⟨1,[],O⟩],rfl,fun a ha=>?_,uu z z,by kernel_rfl,⟨1,lW,bX ⟨rfl,rfl,rfl⟩,rfl⟩,?_,no,[Au.r0,⟨2,[],O⟩],by kernel_rfl,⟨1,lW,bY ⟨rfl,rfl⟩,rfl⟩,?_,fun a ha=>?_,[⟨1,[],O⟩,⟨2,[111,107],G⟩],by kernel_rfl,⟨0,qi,bX ⟨rfl,rfl,rfl⟩,rfl⟩,?_,no,[⟨2,[],O⟩,⟨2,[111,107],G⟩],by kernel_rfl,trivial⟩
 ·rw[Xx.mp ha];exact⟨rfl,1,lW⟩
 ·exact(by kernel_rfl:Au.MC _ _ _=[Au.r0,⟨2,[],O⟩])▸uu z z
 ·exact(by kernel_rfl:Au.MC _ _ _=[Au.r0,⟨2,[111,107],O⟩])▸uu z o
 ·rw[Xx.mp ha];exact⟨rfl,0,qi⟩
 exact(by kernel_rfl:Au.MC _ _ _=[⟨2,[],O⟩,⟨2,[111,107],G⟩])▸uu z o
end
structure AwS(js:List Jd)(es:List Oc.Ev):Prop where
 len:es.length=3
 ev:∀e∈es,Oc.PM e/\e.data.length<=2
 OA:xK js es ((Oc.KS js es).map Oc.St.IV)
 a0:(Oc.run js (es.take 0)).IV=[⟨1,⟨#[98]⟩,1⟩]
 a1:(Oc.run js (es.take 1)).IV=[]
 a2:(Oc.run js (es.take 2)).IV=[⟨1,⟨#[97]⟩,1⟩]
 a3:(Oc.run js (es.take 3)).IV=[]
structure AwJ(js:List Jd):Prop where
 len:js.length=2
 ck:LJ js
 NU:∀j∈js,me j
 Pb:∀j∈js,Oc.OS j
 P0:PR js
 ol:(Gp.IP js).length=2
 scr:∀ts:List (List Nat),ts.length=(Gp.IP js).length->(∀i t,ts[i]? =some t->Ky (js.getD ((Gp.IP js).getD i 0) cE) t)->AwS js (cW js (Gp.IP js) ts)
theorem AE{js:List Jd}(h:js.map cV=ON):AwJ js:=by
 obtain⟨a1,a2,a3,n1,n2,n3,b1,b2,b3,m1,m2,m3,rfl⟩:=AD h;refine⟨rfl,GT,vi,Fy,⟨Fx,fun i d=>vi _ (by unfold Au.I6;rw[bD,bE d];exact bH d),fun i d=>?_,by show 2<=32;decide⟩,by rw[rU];rfl,fun ts c a=>?_⟩
 ·have g:i=0\/i=1:=by simp at d;omega
  unfold maxLen;rcases g with rfl|rfl
  ·show 1<=_;omega
  show 1<=_;omega
 rw[rU] at c a ⊢;rw[xH c a];have l:=Dn (a1:=a1) (a2:=a2) (a3:=a3) (b1:=b1) (b2:=b2) (b3:=b3) (n1:=n1) (n2:=n2) (n3:=n3) (m1:=m1) (m2:=m2) (m3:=m3);have k:=Dp (a1:=a1) (a2:=a2) (a3:=a3) (b1:=b1) (b2:=b2) (b3:=b3) (n1:=n1) (n2:=n2) (n3:=n3) (m1:=m1) (m2:=m2) (m3:=m3);refine⟨rfl,fun e j=>?_,l▸k,by kernel_rfl,by kernel_rfl,by kernel_rfl,by kernel_rfl⟩
 simp only[Xz,XE,or_false] at j;rcases j with rfl|rfl|rfl
 ·exact⟨⟨bX ⟨rfl,rfl⟩,fun b f=>by simp at f,by show 1<=1000000;omega⟩,by show 0<=2;omega⟩
 ·exact⟨⟨bY rfl,by decide,by show 1<=1000000;omega⟩,by show 2<=2;omega⟩
 exact⟨⟨bX ⟨rfl,rfl⟩,fun b f=>by simp at f,by show 1<=1000000;omega⟩,by show 0<=2;omega⟩
namespace Pt
def Om(a b:Jd):Prop:=at_ a 0 0=at_ b 0 0
theorem Om.of{a b:Jd}{ln c:Int}(h:cV a=at_ b ln c):Om a b:=by
 have:({cV a with IM:=0,Jb:=0}:Jd)={at_ b ln c with IM:=0,Jb:=0}:=by rw[h]
 exact this
theorem Om.f{a b:Jd}(h:Om a b)(f:Jd->α)(c:∀x,f (at_ x 0 0)=f x):f a=f b:=(c a).symm.trans ((congrArg f h).trans (c b))
theorem Om.key{a b:Jd}(h:Om a b):Gp.key a=Gp.key b:=h.f Gp.key (fun _=>rfl)
theorem zW{l:List α}(d:α)(h:k<l.length):l.getD k d∈l:=by
 rw[bD,bE h];exact bH _
def yh:List ByteArray->List (List ByteArray)
 |[]=>[[]]
 |a::l=>yh l++(yh l).map (a:: ·)
theorem zj{l' l:List ByteArray}(h:l'.Sublist l):l'∈yh l:=by
 induction h with
 |slnil=>simp[yh]
 |cons a h ih=>exact XT _ ih
 |cons_cons a h ih=>exact XU _ (XF ih)
def oP:Nat->List (List (ByteArray×List ByteArray))
 |0=>[[]]
 |k+1=>(oP k).flatMap fun l=>(yh (Lq.take k)).map fun n=>l++[(Lq.getD k ⟨#[]⟩,n)]
theorem yY:∀a:Fin 4,∀b:Fin 4,Lq.getD a.val ⟨#[]⟩=Lq.getD b.val ⟨#[]⟩->a=b:=by decide+kernel
theorem rr:∀(n:Nat),n<=4->∀js:List Jd,(∀j∈js,Lo j)->js.map Jd.nm=Lq.take n->js.map Gp.key∈oP n:=by
 intro n
 induction n with
 |zero=>
  intro _ js _ h;have:js=[]:=by simpa using h
  subst this;simp[oP]
 |succ n ih=>
  intro m js hj h;have g:n<Lq.length:=by show n<4;omega
  rw[List.take_succ_eq_append_getElem g,List.map_eq_append_iff] at h;obtain⟨a,b,rfl,ha,l⟩:=h;obtain⟨j,rfl,d⟩:=List.map_eq_singleton_iff.mp l;have h1:=ih (by omega) a (fun x hx=>hj x (by simp[hx])) ha
  have c:=hj j (by simp)
  obtain⟨k,hk,e,hs⟩:=c.nd;have i:Lq.getD k ⟨#[]⟩=Lq.getD n ⟨#[]⟩:=by rw[<-e,d,bD,bE g];rfl
  have f:k=n:=congrArg Fin.val (yY ⟨k,hk⟩ ⟨n,by omega⟩ i)
  subst f;rw[oP,XV];exact⟨_,h1,XW.mpr ⟨j.IC,zj hs,by rw[XO,XB,XX];unfold Gp.key;rw[e]⟩⟩
def kj(p:ByteArray×List ByteArray):Jd:={cE with nm:=p.1,IC:=p.2}
def FV(ks:List (ByteArray×List ByteArray)):Bool:=
 (XK ks.length).all fun i=>decide (Gp.ix (ks.map kj) ((ks.map kj).getD i cE).nm=X i)&&((ks.map kj).getD i cE).IC.all (fun n=>(Gp.ix (ks.map kj) n).isSome)&&(Gp.ord (Gp.J9 (ks.map kj))).2.getD i O
theorem Cz:(XK 5).all (fun n=>(oP n).all fun ks=>FV ks&&FV ks.reverse)=G:=by decide+kernel
theorem EU(ks:List (ByteArray×List ByteArray)):(ks.map kj).map Gp.key=ks:=by
 rw[List.map_map];exact(List.map_congr_left (fun p _=>rfl)).trans (List.map_id _)
theorem Cy{l:List Jd}{ks:List (ByteArray×List ByteArray)}(h:FV ks=G)(hk:l.map Gp.key=ks):
  Gp.Kq l/\∀i,i<l.length->Gp.ix l (l.getD i cE).nm=X i/\∀n∈(l.getD i cE).IC,Gp.ix l n≠V:=by
 have a:l.map Gp.key=(ks.map kj).map Gp.key:=by rw[EU];exact hk
 have f:l.length=ks.length:=by rw[<-hk,bL]
 have h1:∀i,i<l.length->Gp.ix (ks.map kj) ((ks.map kj).getD i cE).nm=X i/\(∀n∈((ks.map kj).getD i cE).IC,(Gp.ix (ks.map kj) n).isSome=G)/\(Gp.ord (Gp.J9 (ks.map kj))).2.getD i O=G:=fun i b=>by
  have:=XA.mp h i (XG.mpr (by omega))
  rw[XC,XC,decide_eq_true_iff,XA] at this;exact⟨this.1.1,this.1.2,this.2⟩
 have c:=fun i=>Gp.Of a i
 refine⟨(Gp.Md a).mpr (fun i b=>(h1 i (by rw[bL] at b;omega)).2.2),fun i b=>⟨?_,fun n d=>?_⟩⟩
 ·rw[show(l.getD i cE).nm=((ks.map kj).getD i cE).nm from congrArg Prod.fst (c i),Gp.Mo a]
  exact(h1 i b).1
 rw[show(l.getD i cE).IC=((ks.map kj).getD i cE).IC from congrArg Prod.snd (c i)] at d
 rw[Gp.Mo a];have:=(h1 i b).2.1 n d;intro e;rw[e] at this;cases this
def PK(js:List Jd):Prop:=js.map Jd.nm=Lq.take js.length\/js.map Jd.nm=(Lq.take js.length).reverse
theorem CS{js:List Jd}(hj:∀j∈js,Lo j)(c:PK js)(b:js.length<=4):FV (js.map Gp.key)=G:=by
 have a:∀ks∈oP js.length,FV ks=G/\FV ks.reverse=G:=fun ks hk=>by
  have h1:=XA.mp Cz js.length (XG.mpr (by omega))
  have h2:=XA.mp h1 ks hk
  rw[XC] at h2;exact h2
 rcases c with h|h
 ·exact(a _ (rr _ b js hj h)).1
 have h2:js.reverse.map Jd.nm=Lq.take js.length:=by rw[XY,h,XZ]
 have:=(a _ (rr _ b js.reverse (fun j hm=>hj j (List.mem_reverse.mp hm)) h2)).2
 rwa [<-XY,XZ] at this
structure PH(js:List Jd):Prop where
 l1:1<=js.length
 l4:js.length<=4
 ck:LJ js
 NU:∀j∈js,me j
 Pb:∀j∈js,Oc.OS j
 P0:PR js
 sv:∀j∈js,j.IQ=true->j.ready∈ej
theorem Lo.Qq{j:Jd}(h:Lo j):j.nm.size=1:=by rw[<-af];exact(Kp h.Pw).2
theorem Lo.rg{j j0:Jd}(a:Lo j0)(b:Om j j0):Oj j:=by
 have c:=a.bd
 have h1:=c.r;have g:=c.cp;have h:=c.bu;have k:=c.wi
 have d:j.IK=j0.IK:=b.f Jd.IK (fun _=>rfl)
 refine⟨?_,?_,?_,?_,?_,?_,fun i e=>?_⟩
 ·rw[show j.base=j0.base from b.f Jd.base (fun _=>rfl),show j.cap=j0.cap from b.f Jd.cap (fun _=>rfl)];exact g.1
 ·rw[show j.win=j0.win from b.f Jd.win (fun _=>rfl)];omega
 ·rw[show j.II=j0.II from b.f Jd.II (fun _=>rfl)];omega
 ·rw[show j.II=j0.II from b.f Jd.II (fun _=>rfl)];omega
 ·rw[show j.IE=j0.IE from b.f Jd.IE (fun _=>rfl)];omega
 ·rw[d];have:=a.l3;omega
 rw[d] at e ⊢;have hm:j0.IK.getD i (0,0)∈j0.IK:=gm_ e;have:=c.si _ hm;unfold ox;omega
theorem Lo.Pb{j j0:Jd}(a:Lo j0)(b:Om j j0)(d:me j):Oc.OS j:=by
 refine⟨fun e=>?_,?_⟩
 ·obtain⟨n,c,_⟩:=d e;exact⟨n,c⟩
 rw[show j.nm=j0.nm from b.f Jd.nm (fun _=>rfl),a.Qq];omega
theorem OU{c js:List Jd}(hm:∀j∈c,Lo j)(h1:1<=c.length)(s:c.length<=4)(t:PK c)(u:js.length=c.length)(r:∀i,i<c.length->Om (js.getD i cE) (c.getD i cE)):PH js:=by
 have o:js.map Gp.key=c.map Gp.key:=by
  refine X0 (by simp[u]) (fun i a b=>?_)
  rw[bL] at a b;have:=(r i b).key;rw[bD,bD,bE a,bE b] at this;rw[X1,X1];exact this
 obtain⟨p,l⟩:=Cy (CS hm t s) o;have q:∀i,i<js.length->Lo (c.getD i cE):=fun i d=>by
  rw[bD,bE (by omega)]
  exact hm _ (bH _)
 have h:∀j∈js,∃j0,Lo j0/\Om j j0:=fun j hj=>by
  obtain⟨i,d,rfl⟩:=X2.mp hj;have:=r i (by omega)
  rw[bD,bE d] at this;exact⟨_,q i d,this⟩
 have g:∀j∈js,j.IQ=G->j.ready∈ej:=fun j hj n=>by
  obtain⟨j0,a,b⟩:=h j hj;rw[show j.ready=j0.ready from b.f Jd.ready (fun _=>rfl)]
  exact a.bd.pa (by rw[<-show j.IQ=j0.IQ from b.f Jd.IQ (fun _=>rfl)];exact n)
 have m:∀j∈js,me j:=fun j hj n=>mV _ (g j hj n)
 have e:∀i,i<js.length->js.getD i cE∈js:=fun i d=>gm_ d
 refine⟨by omega,by omega,⟨by omega,fun i d=>?_,p⟩,m,fun j hj=>?_,⟨fun i d=>(l i d).1,fun i d=>m _ (e i d),fun i d=>?_,by omega⟩,g⟩
 ·obtain⟨j0,a,b⟩:=h _ (e i d);refine⟨(l i d).1,fun k hk=>(l i d).2 _ ?_,?_,a.rg b,fun n=>kN _ (g _ (e i d) n)⟩
  ·exact zW _ hk
  rw[show(js.getD i cE).IC=j0.IC from b.f Jd.IC (fun _=>rfl)]
  have:=a.ME
  omega
 ·obtain⟨j0,a,b⟩:=h j hj;exact a.Pb b (fun n=>m j hj n)
 obtain⟨j0,a,b⟩:=h _ (e i d)
 show(js.getD i cE).nm.size<=maxLen
 rw[show(js.getD i cE).nm=j0.nm from b.f Jd.nm (fun _=>rfl)]
 have:=a.Qq
 unfold maxLen;omega
end Pt
section
variable {P : Program} {ops : Array Oper} {o : Oper} {a : Act} {K : Act -> Ye -> Prop} {Q : Exit -> Act -> Ye -> Prop} {E : Prop}
theorem vM(w:Ye)(g:o.guard=V)(s x:Operand)(t u:TypeId)
  (m:o.op= .call {callee:= .builtin .append,args:=#[s,x],argTypes:=#[t,u]})
  (base:Nat) (e:TypeId) (q:P.underlying t=X (.slice e)) (r:P.underlying u=X .string)
  (l:(P.info? e).map (fun i=>(i.zero,i.size,i.bytes))=X (X (Z .u8 0),1,1))
  (v:Yh) (n:Nat) (xs:List Yh) (hs:a.eval s=v) (hown:IL w base e 1 v n xs) (b:ByteArray) (hx:a.eval x= .string b)
  (z:n+b.size<=68719476736) (c:base<=w.heap.size)
  (h:∀v' w',IL w' base e 1 v' (n+b.size) (xs++Lib.strCells b)->w.grownBy w' v.ownBlock->K (a.put o.dst v') w'):
  if Region.wanted o (yielded ops a.tmps)=G then Oper.wp P o a w K Q else E:=by
 have y:Region.wanted o (yielded ops a.tmps)=G:=by simp[Region.wanted,g]
 rw[ps_ y];obtain⟨i,j,hz,d,f⟩:=info_parts l;obtain⟨v',w',p,h2,k,_⟩:=Lib.run_append_own_string (P:=P) w base t u o.type e i q r j hz d f v n xs hown b (by unfold maxLen;omega) (by omega) c
 unfold Oper.wp;simp only[execOp,m,resolve,invoke,builtin,Sem.run_bind,Sem.run_pure,Result.andThen_ok,List.map_toArray,XB,XX,hs,hx,p];exact h v' w' h2 k
end
theorem tT(t:List Nat):(Jp t).all X3=G:=by simp[Jp,X3]
theorem tB(s:ByteArray)(w:Ye):∃c w',(convert 9 40 (Q s)).run Yi w= .ok (U (X ⟨w.heap.size,0,V⟩) s.size c) w'/\ID w w'/\Ts w' 5 (X ⟨w.heap.size,0,V⟩) (Jp (bs s))/\s.size<=c:=by
 have b:=Lib.run_convert_string_bytes (P:=Yi) w 9 40 5 s underlying9 underlying40 underlying5
 have hc:=grownCap_ge w s.size 0 5
 refine⟨_,_,b,oJ _ _ _,bY ⟨w.heap.size,0,_,_,rfl,Lib.bytesWorld_at_new _ _ _,fun j u a=>?_⟩,hc⟩
 have hj:j<s.size:=by
  have:=(XD.mp a).1
  rwa [cY,af] at this
 rw[gi _ _ (by rw[af];exact hj)] at a
 have h1:=Lib.bytesWorld_cell w 5 s j hj
 rw[aK _ w.heap.size j _ _ _ (Lib.bytesWorld_at_new w 5 s)] at h1;rw[Nat.zero_add,h1,<-a];unfold bs;simp[bD];cases s.data[j]?<;>rfl
theorem vL{IW:List Nat}(a:Rs w A (Jp IW))(d:∀b∈IW,b<256):
  (convert 40 9 (U A IW.length c)).run Yi w= .ok (Q (ab IW)) w:=by
 rw[lE IW d] at a;have:=ug (P:=Yi) w (src:=40) (dst:=9) (e:=5) A c (IW.map UInt8.ofNat) underlying40 underlying5 underlying9 a;rw[bL] at this;exact this
def tK(w:Ye)(g:Nat)(e:Ending)(w':Ye):Prop:=
 ∃s js L,e= .returned (Q s)/\(∀j∈js,Pt.Lo j)/\1<=js.length/\js.length<=4/\Pt.PK js/\Gm.load (bs s)=X L/\Pt.NR js L/\w.grownBy w' (X g)
structure OP(w wr:Ye)(B g:Nat)(js:List Jd)(b:List Nat)(m:Nat)(A:Option Yg)(c:Nat):Prop where
 dk:∃dl,Dk wr B g dl
 gr:w.grownBy wr (some g)
 gl:g<w.heap.size
 row:Ts wr 5 A (Jp b)
 cap:b.length<=c
 pf:∃ps e,Pt.Pf js b m ps e
 lt:Pt.Lt b
theorem OP.turn{js:List Jd}{dl dl':List Int}(h:OP w wr B g js b m A c)(h1:Dk wr B g dl)(h2:Dk w' B g dl')(a:wr.grownBy w' (X g)):OP w w' B g js b m A c:=
 ⟨⟨_,h2⟩,hY h.gr a,h.gl,h1.ts a h.row (by decide),h.cap,h.pf,h.lt⟩
theorem OP.ins{js:List Jd}{a:Nat}{A':Option Yg}{c':Nat}(h:OP w wr B g js b m A c)(f:b[a]? =X 10)(d:ID wr w')(j:Ts w' 5 A' (Jp (b.take (a+1)++(Pt.NV++b.drop (a+1)))))(hc:(b.take (a+1)++(Pt.NV++b.drop (a+1))).length<=c'):
  OP w w' B g js (b.take (a+1)++(Pt.NV++b.drop (a+1))) (m+1) A' c':=by
 obtain⟨dl,hd⟩:=h.dk;obtain⟨ps,e,i⟩:=h.pf;exact⟨⟨dl,hd.up d⟩,dR h.gr d,h.gl,j,hc,i.ins f,Pt.Lt.LP (fun x hx=>h.lt x (List.mem_of_mem_take hx)) (Pt.Lt.LP (Pt.JZ rfl) (fun x hx=>h.lt x (List.mem_of_mem_drop hx)))⟩
def DW(w:Ye)(B g:Nat)(js:List Jd)(v5 v6:Yh)(wr:Ye):Prop:=
 ∃(k m:Nat) (b:List Nat) (A:Option Yg) (c:Nat),v5=U A b.length c/\v6=Z Y (k:Int)/\k+m<=3/\Hid (OP w wr B g js b m A c)
theorem EL(B g:Nat)(dl:List Int)(w:Ye)(hd:Dk w B g dl):
  Yf Yi 12 #[M (X ⟨g,0,V⟩)] w (tK w g):=by
 have ax:=aJ hd.lt
 have ad:=aJ (Gw B g dl w hd)
 unfold lu at ad;go_enter func12,ntmps12;go_wp2_with fail;refine(ad).mono ?_;rintro e w1 ⟨v,js,aH,x1,rfl,hown,r,p,h1,h4,D,aR,aV⟩;have f:∀j∈js,Pt.Lo j:=fun j hj=>⟨(p j hj).bd,(p j hj).l1,(p j hj).l3,(p j hj).lw,(p j hj).nd⟩
 have aK:Pt.PK js:=by
  unfold xO at D;split at D
  ·exact bX D
  exact bY D
 have h0:js≠[]:=fun e=>by rw[e] at h1;exact absurd h1 (by decide)
 obtain⟨A,c,rfl,F,_,_⟩:=hown.shape;have aI:JL w1 A js:=⟨F.rs,fun j hj=>⟨(r j hj).IJ.rs,(r j hj).IC.rs,(r j hj).IK.rs,by have:=(f j hj).bd.en;omega,by have:=(f j hj).ME;omega,by have:=(f j hj).l3;omega⟩,by omega⟩
 have ai:=aJ (Ct A c js w1 aI f h4 h0)
 have af:=aJ f
 have HN:=aJ (Xw h1 (Xw h4 aK))
 have aw:=aJ aR
 have ay:=aJ aV
 have l:=Pt.Pf.start f h4
 have R:=Pt.Nt f h0
 rw[Pt.MG h0] at l;obtain⟨T,hT⟩:∃T,js.flatMap Pt.Kg=T:=⟨_,rfl⟩
 rw[hT] at l R ai;have aC:=aJ l;have az:=aJ R;have aL:bs (ab T)=T:=fU T R;have aM:(ab T).size=T.length:=aD T;go_wp2_with fail;refine(ai).mono ?_;rintro e w2 ⟨rfl,aQ⟩;have h:=aJ aQ;obtain⟨c3,w3,ak,s,ar,aj⟩:=tB (ab T) w2;rw[aL] at ar;rw[aM] at ak aj;have ae:Hid (OP w w3 B g js T 0 (X ⟨w2.heap.size,0,V⟩) c3):=aJ ⟨⟨aH,aw.up (h.up s)⟩,dR ay (h.up s),ax,ar,aj,⟨_,_,aC⟩,az⟩;go_upto_region 3 with fail
 obtain⟨x,I⟩:=ae.dk;have d:=aJ (dB B g x 4 w3 I (by decide) (by decide))
 unfold iv at d;have aN:=fO x (n:=4) (by decide)
 obtain⟨q,hq⟩:∃q:Nat,(nx x 4).1=(q:Int):=⟨(nx x 4).1.toNat,by omega⟩
 have aa:=aJ I
 rw[hq] at d aN;go_wp2_with fail;refine(d).mono ?_;rintro e w4 ⟨rfl,al,aT⟩;have aA:=aJ (ae.turn aa al aT);have aW:q<=3:=by omega
 go_wp2
 go_loopw [5,6] (fun v5 v6 wr=>DW w B g js v5 v6 wr) (fun _ v6 _=>(intOf v6).toNat)
 case atStart=>exact⟨q,0,T,_,_,rfl,rfl,aW,aA⟩
 obtain⟨k,m,b,A,c,rfl,rfl,_,P⟩:=hrel;obtain⟨ps,e,l⟩:=P.pf;have aX:=l.len
 by_cases hk:0<k
 ·have p0:(0:Int)<(k:Int):=by omega
  have wk:Xy.wrap ((k:Int)-1)=((k-1:Nat):Int):=by rw[show(k:Int)-1=((k-1:Nat):Int) by omega];exact bV _ (by omega)
  have wl:Xy.wrap ((b.length:Int)+1)=(b.length:Int)+1:=bV _ (by omega)
  obtain⟨C,J⟩:=P.dk;have d:=aJ (dB B g C ((b.length:Int)+1) wr J (by omega) (by omega))
  unfold iv at d;have aO:=fO C (n:=(b.length:Int)+1) (by omega)
  obtain⟨i,hi⟩:∃i:Nat,(nx C ((b.length:Int)+1)).1=(i:Int):=⟨(nx C ((b.length:Int)+1)).1.toNat,by omega⟩
  have ac:=aJ J
  rw[hi] at d aO;go_wp2_with fail;refine(d).mono ?_;rintro e t ⟨rfl,am,aU⟩;have a:=aJ (P.turn ac am aU);have aY:i<=b.length:=by omega
  have au:Hid (b.length<=c):=aJ a.cap
  by_cases h1:0<i
  ·have p1:(0:Int)<(i:Int):=by omega
   by_cases h2:i<b.length
   ·have p2:(i:Int)<(b.length:Int):=by omega
    have p3:(0:Int)<=(i:Int):=by omega
    obtain⟨o,hi⟩:∃o,o+1=i:=⟨i-1,by omega⟩
    have p4:(0:Int)<=(o:Int):=by omega
    have p5:(o:Int)<(b.length:Int):=by omega
    have wm:Xy.wrap ((i:Int)-1)=(o:Int):=by rw[show(i:Int)-1=(o:Int) by omega];exact bV _ (by omega)
    obtain⟨I2,off,rfl,_,hc⟩:=a.out.row.rs.at_ (by rw[cY];omega)
    have x1:=hc i _ (gi b i h2)
    have x2:=hc o _ (gi b o (by omega))
    have HZ:Hid (b.getD o 0=10->b[o]? =X 10):=aJ (fun e=>by rw[<-e,bD,bE (show o<b.length by omega)];rfl)
    have HI:=aJ hi
    generalize b.getD i 0=y at *;generalize b.getD o 0=z at *
    by_cases e1:y=32
    ·have q1:((y:Int)==32)=G:=by rw[beq_iff_eq];omega
     by_cases e2:z=10
     ·have q2:((z:Int)==10)=G:=by rw[beq_iff_eq];omega
      have aG:=aJ (HZ e2)
      have hcap:=au.out
      have p6:(i:Int)<=(c:Int):=by omega
      have p8:¬c=i:=by omega
      have u:Hid (IL (t.alloc (H #[] 5)) t.heap.size 5 1 (U (X ⟨t.heap.size,0,V⟩) 0 0) 0 []):=aJ (jJ t #[] 0 1 _ (by decide) rfl)
      have aF:Hid (Rs t (X ⟨I2,off,V⟩) (Jp (b.take i))):=aJ (by unfold Jp;rw[List.map_take];exact a.row.rs.take i)
      have aE:Hid (Rs t (X ⟨I2,off+i,V⟩) (Jp (b.drop i))):=aJ (by unfold Jp;rw[List.map_drop];exact a.row.rs.drop i)
      have HL:Hid (b.length<=1800):=aJ (by omega)
      go_wp2
      go_region_law (first|((refine eY _ (by rfl) _ _ 40 (by rfl) t.heap.size 5 (Z .u8 0) 1 1 underlying40 dD rfl (by decide) (by decide) (U (X ⟨t.heap.size,0,V⟩) 0 0) 0 [] (by rfl) (by first|exact u.up (ID.refl _).drew|exact u) (X ⟨I2,off,V⟩) i c (Jp (b.take i)) (by rfl) (aF.up aS) (by rw[cY,XL];omega) (tT _) (by have:=HL.out;omega) (ID.size aS) ?_;intro v1 w6 S an _;rw[Nat.zero_add,XH] at S;have ag:=aJ S;have W:=aJ (IL.IU (w0:=t) aS (by first|exact u.up (ID.refl _).drew|exact u) (bM _) an);clear S an))|((refine vM _ (by rfl) _ _ 40 9 (by rfl) t.heap.size 5 underlying40 underlying9 dD v1 i (Jp (b.take i)) (by rfl) ag ⟨#[9,35,32,99,10,32]⟩ (by rfl) (by have:=HL.out;show i+6<=_;omega) W.size ?_;intro v2 w7 aq ao;have ah:=aJ aq;have h:=aJ (IL.IU W ag (bM _) ao);clear aq ao))|((refine eY _ (by rfl) _ _ 40 (by rfl) t.heap.size 5 (Z .u8 0) 1 1 underlying40 dD rfl (by decide) (by decide) v2 (i+6) (Jp (b.take i)++Jp Pt.NV) (by rfl) ah (X ⟨I2,off+i,V⟩) (b.length-i) (c-i) (Jp (b.drop i)) (by rfl) (aE.up h) (by rw[cY,XM];omega) (tT _) (by have:=HL.out;omega) h.size ?_;intro v3 w8 s ap _;have aB:=aJ s;have av:=aJ (IL.IU h ah (bM _) ap);clear s ap)))
      all_goals
       obtain⟨A',c',rfl,F,aP,_⟩:=aB.shape;have N:(b.take i++(Pt.NV++b.drop i)).length=i+6+(b.length-i):=by
        rw[bF,bF,XL,XM]
        show min i b.length+(6+(b.length-i))=_
        omega
       have HX:Hid (DW w B g js (U A' (i+6+(b.length-i)) c') (Z Y ((k-1:Nat):Int)) w8):=aJ ⟨k-1,m+1,b.take i++(Pt.NV++b.drop i),A',c',by rw[N],rfl,by omega,aJ (by
        have hi:=HI.out
        subst hi;refine a.ins aG av ?_ (by rw[N];exact aP)
        unfold Jp at F ⊢;rw[XO,XO,<-List.append_assoc];exact F)⟩
       go_wp2
       go_roundw
      case rel=>exact HX
      simp[intOf];omega
     have q2:((z:Int)==10)=O:=by rw[beq_eq_false_iff_ne];omega
     go_wp2
     go_roundw
     case rel=>exact⟨k-1,m,b,_,c,rfl,rfl,by omega,a⟩
     simp[intOf];omega
    have q1:((y:Int)==32)=O:=by rw[beq_eq_false_iff_ne];omega
    go_wp2
    go_roundw
    case rel=>exact⟨k-1,m,b,_,c,rfl,rfl,by omega,a⟩
    simp[intOf];omega
   skip
   go_wp2
   go_roundw
   case rel=>exact⟨k-1,m,b,_,c,rfl,rfl,by omega,a⟩
   simp[intOf];omega
  skip
  go_wp2
  go_roundw
  case rel=>exact⟨k-1,m,b,_,c,rfl,rfl,by omega,a⟩
  simp[intOf];omega
 skip
 have ak:=vL (c:=c) P.row.rs P.lt
 obtain⟨L,a1,a2,a3⟩:=l.load af HN.2.1 (by omega)
 have HX:Hid (tK w g (.returned (Q (ab b))) wr):=aJ ⟨ab b,js,L,rfl,af,HN.1,HN.2.1,HN.2.2,by rw[fU b P.out.lt];exact a1,⟨a2,a3⟩,P.gr⟩
 go_wp2
 go_ret;exact HX
theorem Mv.jt{j:Jd}(h:Mv w B j):JT w j:=by
 have key:∀{e:TypeId} {s n c:Nat} {A:Option Yg} {xs:List Yh},IL w B e s (U A n c) n xs->Ts w e A xs/\n<=9223372036854775807:=fun h=>by
  obtain⟨A2,c2,a,b,_,d⟩:=h.shape;injection a with e3 e4 e5
  subst e3;subst e5;unfold maxLen at d;exact⟨b,by omega⟩
 exact⟨(key h.IJ).1,(key h.IC).1,(key h.IK).1,(key h.IJ).2,(key h.IC).2,(key h.IK).2⟩
def Ig:ByteArray:=⟨#[106,111,98,32,97,32,123,32,114,117,110,32,34,120,34,32,110,101,101,100,115,32,98,32,125,32,106,111,98,32,98,32,123,32,114,117,110,32,34,121,34,32,114,101,97,100,121,32,47,111,107,47,32,125]⟩
theorem Fz:bs Ig=Iz:=by kernel_rfl
theorem Hc:∀{xs:List E3},xs.length=3->(∀x∈xs,x.e.data.length<=2)->KK xs xs.length<=9000000:=by
 intro xs h1 h2
 match xs,h1 with
 |[a,b,c],_=>
  have ha:=h2 a (by simp)
  have d:=h2 b (by simp)
  have hc:=h2 c (by simp)
  simp[KK];omega
theorem Fu(w:Ye):Yf Yi 11 #[] w (RO_ (K G) w):=by
 have p:=aJ (fun W=>Az Ig W (L:=ON) (by rw[Fz];exact Do) (fun js aC=>(AE aC).ck))
 unfold Ig at p;unfold mc bC at p;go_enter func11,ntmps11;go_wp2_with fail;refine(p w).mono ?_;rintro e w1 ⟨v,js,rfl,hown,F,aa,am⟩;have ha:=AE F;have C:=aJ ha;obtain⟨A,c,rfl,ax,_,_⟩:=hown.shape;have o:Hid (JL w1 A js/\∀j∈js,JT w1 j):=aJ ⟨⟨ax.rs,fun j hj=>(aa j hj).jm,by rw[ha.len];omega⟩,fun j hj=>(aa j hj).jt⟩
 have ad:=aJ am
 have aq:=ha.len
 have ah:=aJ aq
 clear p hown F aa am ax ha aq;go_upto_region 2 with fail
 obtain⟨w2,y⟩:∃w2,w1.alloc (H #[Z Y 0,Z Y 0,Z Y 0] 29)=w2:=⟨_,rfl⟩
 have h:Hid (ID w1 w2):=aJ (by rw[<-y];exact(ID.refl _).alloc _)
 have P:Hid (w2.heap[w1.heap.size]? =X (H #[Z Y 0,Z Y 0,Z Y 0] 29 (0,0))):=aJ (by rw[<-y];exact aM _ _)
 rw[y];obtain⟨kf,ar⟩:∃kf,w1.heap.size=kf:=⟨_,rfl⟩
 rw[ar] at P ⊢;have aj:=aJ (tQ A c js w2 (o.1.up h) C.ck C.NU);clear y ar;go_wp2_with fail;refine(aj).mono ?_;rintro e w3 ⟨A3,c3,xs,ts,rfl,ao,av,I,aw,J,ap,m⟩;have hS:=C.scr ts aw J;rw[<-I] at hS;have ay:xs.length=3:=by have:=hS.len;rw[bL] at this;exact this
 have f:=aJ hS
 have N:=aJ ao
 have S:=aJ av
 have ae:=aJ ((ad.up h).up m)
 have ag:=aJ (m.block P)
 have d:Hid (JL w3 A js/\∀j∈js,JT w3 j):=aJ ⟨o.1.up (h.up m),fun j hj=>(o.2 j hj).up (h.up m)⟩
 have k:=aJ ay
 unfold bC;clear ao av I aw J ap m hS aj o h P ad ay;go_upto_region 3 with fail
 obtain⟨w4,z⟩:∃w4,w3.alloc (H #[Z Y 0,Z Y 0,Z Y 0] 29)=w4:=⟨_,rfl⟩
 have a:Hid (ID w3 w4):=aJ (by rw[<-z];exact(ID.refl _).alloc _)
 have R:Hid (w4.heap[w3.heap.size]? =X (H #[Z Y 0,Z Y 0,Z Y 0] 29 (0,0))):=aJ (by rw[<-z];exact aM _ _)
 rw[z];obtain⟨kg,au⟩:∃kg,w3.heap.size=kg:=⟨_,rfl⟩
 rw[au] at R ⊢;clear z au;have ai:Hid (Yf Yi 6 #[U A js.length c,U A3 xs.length c3] w4 (nO w4 js (xs.map E3.e))):=aJ (by
  have hd:∀x∈xs,x.e.data.length<=2:=fun x hx=>(f.ev x.e (XF hx)).2
  exact uA A c js A3 c3 xs w4 (d.1.up a) (fun j hj=>(d.2 j hj).up a) C.ck C.Pb (N.up a)
   ⟨fun x hx=>⟨(f.ev x.e (XF hx)).1,S x hx⟩,Hc k hd⟩)
 go_wp2_with fail;refine(ai).mono ?_;rintro e B ⟨A1,c1,A2,c2,cA,_,rfl,g,t,aD,T,az⟩
 replace t:=t.rs
 have s:(xs.map E3.e).length=3:=f.len
 rw[s] at T ⊢;obtain⟨_,_,e0,r0⟩:=T 0 (by omega)
 replace r0:=r0.rs
 obtain⟨_,_,e1,r1⟩:=T 1 (by omega)
 replace r1:=r1.rs
 obtain⟨_,_,e2,r2⟩:=T 2 (by omega)
 replace r2:=r2.rs
 obtain⟨_,_,e3,r3⟩:=T 3 (by omega)
 replace r3:=r3.rs
 have aA:4<=cA.length:=by
  have:=(XD.mp e3).1
  omega
 rw[f.out.a0] at e0 r0;rw[f.out.a1] at e1 r1;rw[f.out.a2] at e2 r2;rw[f.out.a3] at e3 r3;obtain⟨b,off,rfl,_,l⟩:=t.at_ (by omega)
 have x0:=l 0 _ e0
 have x1:=l 1 _ e1
 have x2:=l 2 _ e2
 obtain⟨_,_,rfl,_,ak⟩:=r0.at_ (by simp[ft,cJ])
 obtain⟨_,_,rfl,_,al⟩:=r2.at_ (by simp[ft,cJ])
 have y0:=ak 1 _ (show(ft [⟨1,⟨#[98]⟩,1⟩])[1]? =X (Q ⟨#[98]⟩) from rfl)
 have y2:=al 1 _ (show(ft [⟨1,⟨#[97]⟩,1⟩])[1]? =X (Q ⟨#[97]⟩) from rfl)
 have q:=g.block (a.out.block ag)
 have r:=g.block R
 obtain⟨_,_,_⟩:=Xw ((aK B kf 0 _ _ _ q).trans (rfl:_=X (Xv Y 0))) (Xw ((aK B kf 1 _ _ _ q).trans (rfl:_=X (Xv Y 0))) ((aK B kf 2 _ _ _ q).trans (rfl:_=X (Xv Y 0))));obtain⟨_,f1,f2⟩:=Xw ((aK B kg 0 _ _ _ r).trans (rfl:_=X (Xv Y 0))) (Xw ((aK B kg 1 _ _ _ r).trans (rfl:_=X (Xv Y 0))) ((aK B kg 2 _ _ _ r).trans (rfl:_=X (Xv Y 0))));have af:=aJ (ae.up (a.up g));have ab:∀i,i<=3->((Oc.KS js (xs.map E3.e)).map Oc.St.IV).getD i []=(Oc.run js ((xs.map E3.e).take i)).IV:=fun i hi=>by
  rw[bD,XP,Oc.MU js _ i (by rw[s];exact hi)]
  rfl
 have n:((Oc.KS js (xs.map E3.e)).map Oc.St.IV).length=3+1:=by rw[bL];unfold Oc.KS;rw[Oc.MB,s]
 have ac:Hid (Yf Yi 7 #[U A 2 c,U A3 3 c3,U (X ⟨b,off,V⟩) 4 c1] B (RO_ (.agg #[Z Y 0,Z Y 0]) B)):=aJ (by
  have D:=vl A c js A3 c3 xs (X ⟨b,off,V⟩) c1 ((Oc.KS js (xs.map E3.e)).map Oc.St.IV) (cA.take 4) B (d.1.up (a.up g)) C.ck C.P0 (N.up (a.up g))
   (fun x hx=>⟨S x hx,by have:=(f.ev x.e (XF hx)).2;omega⟩) (bY ⟨b,off,rfl,fun j u hu=>l j u (by
    rw[XQ] at hu;split at hu
    ·exact hu
    cases hu)⟩) (by rw[XL,n];omega) (fun i hi=>?_) (by rw[n,k.out]) (by rw[k.out];omega) (fun i=>?_) f.OA
  ·rw[k.out,ah.out] at D;exact D
  ·rw[n] at hi;obtain⟨Bi,di,ei,ri⟩:=T i (by omega)
   replace ri:=ri.rs
   rw[ab i (by omega)]
   exact⟨Bi,di,by rw[XQ,ps_ (by omega)];exact ei,ri⟩
  by_cases hi:i<=3
  ·rw[ab i hi];have aB:i=0\/i=1\/i=2\/i=3:=by omega
   rcases aB with rfl|rfl|rfl|rfl
   ·rw[f.out.a0];simp
   ·rw[f.out.a1];simp
   ·rw[f.out.a2];simp
   rw[f.out.a3];simp
  rw[bD,bI (by rw[n];omega)]
  exact bO _)
 clear q r R ag ai l ak al ab n T az t aD e0 e1 e2 e3 r0 r1 r2 r3 aA s C f N S d a g ae;simp only[XR,X4,Nat.add_zero,Nat.zero_add] at x0 x1 x2;rw[k.out,ah.out];go_wp2_with fail;refine ac.mono ?_;rintro e _ ⟨rfl,an⟩;have HX:=aJ (af.up an);clear an ac af;go_wp2;go_ret;exact⟨rfl,HX⟩
theorem ot(h:k<o.length):o.take (k+1)=o.take k++[o.getD k 0]:=by simp_all
theorem DI(A:Option Yg)(c:Nat)(o:List Nat)(n:Nat)(w:Ye)(j:Rs w A (aW (aH o)))(p:o.length<=1000000):
  Yf Yi 9 #[U A o.length c,Z Y (n:Int)] w (RO_ (K (decide (n∈o))) w):=by
 have m:=aJ j
 clear j;go_enter func9,ntmps9;go_wp2;go_loopw [9] (fun v9 wr=>∃k:Nat,v9=Z Y (k:Int)/\k<=o.length/\Hid (n∉o.take k)/\Hid (ID w wr)) (fun v9 _=>o.length-(intOf v9).toNat)
 case atStart=>exact⟨0,rfl,bO _,aJ (by simp),aJ (ID.refl w)⟩
 obtain⟨k,rfl,hk,d,g⟩:=hrel
 by_cases a:k<o.length
 ·have r:(0:Int)<=(k:Int):=by omega
  have s:(k:Int)<(o.length:Int):=by omega
  have wk:Xy.wrap ((k:Int)+1)=(k:Int)+1:=bV _ (by omega)
  obtain⟨b,off,rfl,_,hc⟩:=(m.up g).at_ (by rw[eC,ez];omega)
  have t:=hc k _ (fR o k a)
  have i:Hid (o.getD k 0≠n->n∉o.take (k+1)):=aJ (fun e hm=>by
   rw[ot a] at hm;rcases XI.mp hm with hm|hm
   ·exact d hm
   exact e (Xx.mp hm).symm)
  have h:Hid (o.getD k 0=n->decide (n∈o)=G):=aJ (fun e=>by
   rw[decide_eq_true_iff,<-e,bD,bE a];exact bH a)
  clear hc d;generalize o.getD k 0=y at *
  by_cases e:y=n
  ·have q:((y:Int)==(n:Int))=G:=by rw[beq_iff_eq];omega
   go_wp2
   go_ret;exact⟨congrArg (fun b=>Ending.returned (K b)) (h e).symm,g⟩
  skip
  go_wp2
  go_roundw
  case rel=>exact⟨k+1,by go_num,a,aJ (i e),g⟩
  simp[intOf];omega
 obtain rfl:k=o.length:=by omega
 have f:=d.out
 rw[XJ] at f;have l:=aJ (decide_eq_false f);clear f d;go_wp2;go_ret;exact⟨congrArg (fun b=>Ending.returned (K b)) l.symm,g⟩
def tL(w:Ye)(e:Ending)(w':Ye):Prop:=
 ∃A c s js,e= .returned (.tuple #[U A js.length c,Q s,K G])/\Pt.PH js/\JL w' A js/\(∀j∈js,JT w' j)/\ID w w'
theorem Gb{js a L:List Jd}(hm:∀j∈a,Pt.Lo j)(h1:1<=a.length)(f:a.length<=4)(g:Pt.PK a)(hs:Pt.NR a L)(h:js.map cV=L):Pt.PH js:=by
 have k:js.length=a.length:=by have:=hs.1;rw[<-h,bL] at this;exact this
 refine Pt.OU hm h1 f g k (fun i b=>?_)
 obtain⟨ln,c,e⟩:=hs.2 i b;rw[<-h,XP,bE (show i<js.length by omega),bE b] at e
 have d:cV (js[i]'(by omega))=Pt.at_ a[i] ln c:=bQ e
 rw[bD,bD,bE b,bE (show i<js.length by omega)]
 exact Pt.Om.of d
theorem Gu(A:Option Yg)(c:Nat)(l:List Int)(w:Ye)(S:Rs w A (aW l))(hm:l.length<=maxLen):
  Yf Yi 4 #[U A l.length c] w (tL w):=by
 have u:=aJ (CF A c l w S hm)
 clear S hm;go_enter func4,ntmps4;go_wp2_with fail;refine(u).mono ?_;rintro e W ⟨rfl,B,y⟩;have m:=aJ (EL w.heap.size w.heap.size l W B);unfold tK at m;have q:=aJ y;clear u B y;go_wp2_with fail;refine(m).mono ?_;rintro e w2 ⟨s,_,L,rfl,F,h1,P,I,D,J,R⟩;have r:Hid (ID w w2):=aJ (Dk.I5 q R (bM _));have n:Hid (∀js,js.map cV=L->Pt.PH js):=aJ (fun js h=>Gb F h1 P I J h)
 have k:=aJ (Az s w2 (L:=L) D (fun js h=>(n js h).ck))
 unfold mc bC at k;clear m q F h1 P I D J R;go_wp2_with fail;refine(k).mono ?_;rintro e p ⟨v,js,rfl,hown,g,o,z⟩;have d:=n js g;obtain⟨A2,c2,rfl,N,_,_⟩:=hown.shape;have h1:=d.l1;have P:=d.l4;have x:=aJ d;have i:Hid (JL p A2 js/\∀j∈js,JT p j):=aJ ⟨⟨N.rs,fun j hj=>(o j hj).jm,by omega⟩,fun j hj=>(o j hj).jt⟩
 have t:=aJ (r.up z)
 have i2:0<js.length:=h1
 clear k n r hown g o z d N h1 P;go_upto_region 3 with fail
 obtain⟨w4,f⟩:∃w4,p.alloc (H #[Z Y 0,Z Y 0,Z Y 0] 29)=w4:=⟨_,rfl⟩
 have b:Hid (ID p w4):=aJ (by rw[<-f];exact(ID.refl _).alloc _)
 have a:Hid (w4.heap[p.heap.size]? =X (H #[Z Y 0,Z Y 0,Z Y 0] 29 (0,0))):=aJ (by rw[<-f];exact aM _ _)
 rw[f];obtain⟨kf,C⟩:∃kf,p.heap.size=kf:=⟨_,rfl⟩
 rw[C] at a ⊢;obtain⟨_,_,_⟩:=Xw ((aK w4 kf 0 _ _ _ a).trans (rfl:_=X (Xv Y 0))) (Xw ((aK w4 kf 1 _ _ _ a).trans (rfl:_=X (Xv Y 0))) ((aK w4 kf 2 _ _ _ a).trans (rfl:_=X (Xv Y 0))));have T:Hid (tL w (.returned (.tuple #[U A2 js.length c2,Q s,K G])) w4):=aJ ⟨A2,c2,s,js,rfl,x,i.1.up b,fun j hj=>(i.2 j hj).up b,t.up b⟩
 clear f C a b x i t;go_wp2;refine aP (v:= .tuple #[U A2 js.length c2,Q s,K G]) (by simp[results,results4,go_sem]) rfl ?_
 exact T
namespace Gp
structure M5(ns:List (List Nat))(L:List Nat)(tk:List Bool):Prop where
 P4:tk.length=ns.length
 lt:∀i∈L,i<ns.length
 nd:L.Nodup
 Oo:∀i,i<ns.length->(tk.getD i false=true↔i∈L)
 IC:∀k,k<L.length->∀n∈ns.getD (L.getD k 0) [],n∈L.take k
theorem od(h:tk.getD i O=G):i<tk.length:=by grind
theorem M5.step{L:List Nat}(h:M5 ns L tk)(f:i<ns.length)(d:Nn ns tk i=G):M5 ns (L++[i]) (tk.set i G):=by
 unfold Nn at d;rw[XC] at d;obtain⟨h1,h2⟩:=d;have l:i∉L:=fun hm=>by
  rw[(h.Oo i f).mpr hm] at h1;cases h1
 refine⟨by simp[h.P4],fun j hj=>?_,?_,fun j hj=>?_,fun k hk n g=>?_⟩
 ·rcases XI.mp hj with e|e
  ·exact h.lt j e
  rw[Xx.mp e];exact f
 ·rw[XN];exact⟨h.nd,by simp,fun a ha b q=>by rw[Xx.mp q];intro e;exact l (e▸ha)⟩
 ·have m:i<tk.length:=by rw[h.P4];exact f
  rw[bD,List.getElem?_set]
  by_cases e:i=j
  ·subst e;simp[m]
  rw[ng_ e,<-bD,h.Oo j hj];simp[Ne.symm e]
 rw[bF,bG] at hk
 by_cases e:k<L.length
 ·have c:(L++[i]).getD k 0=L.getD k 0:=by rw[bD,bJ e,<-bD]
  rw[c] at g;rw[X5 (by omega)]
  exact h.IC k e n g
 obtain rfl:k=L.length:=by omega
 have c:(L++[i]).getD L.length 0=i:=by rw[bD,List.getElem?_append_right (bM _)];simp
 rw[c] at g;rw[X5 (bM _),XJ];have o:tk.getD n O=G:=by
  unfold M0 at h2;cases hc:tk.getD n O with
  |true=>rfl
  |false=>grind
 have p:=od o
 rw[h.P4] at p;exact(h.Oo n p).mp o
theorem M5.Lu:∀(f:Nat) {L:List Nat} {tk:List Bool},M5 ns L tk->M5 ns (Lu ns f L tk).1 (Lu ns f L tk).2:=by
 intro f
 induction f with
 |zero=>intro L tk h;exact h
 |succ f ih=>
  intro L tk h;unfold Gp.Lu;split
  ·exact h
  next i hf=>exact ih (h.step (XG.mp (List.mem_of_find?_eq_some hf)) (X6 hf))
theorem Eo(l:List Jd):M5 (J9 l) (ord (J9 l)).1 (ord (J9 l)).2:=by
 refine M5.Lu _ ⟨by simp,fun i a=>by simp at a,by simp,fun i a=>?_,fun k hk=>by simp at hk⟩
 grind
theorem MW(l:List Jd):(IP l).Nodup:=(Eo l).nd
theorem MD{l:List Jd}(ha:Kq l)(a:i<l.length):i∈IP l:=((Eo l).Oo i (by rw[Kx];exact a)).mp (ha i a)
theorem MX(l:List Jd)(hk:k<(IP l).length){n:Nat}(b:n∈IC l ((IP l).getD k 0)):n∈(IP l).take k:=by
 refine(Eo l).IC k hk n ?_;have a:(IP l).getD k 0<l.length:=(Kc l).1 _ (gm_ hk)
 show n∈(J9 l).getD ((IP l).getD k 0) []
 rw[Mt l _ a];exact b
theorem OC:∀{n:Nat} {L:List Nat},L.Nodup->(∀i∈L,i<n)->(∀i,i<n->i∈L)->L.length=n:=by
 intro n
 induction n with
 |zero=>
  intro L _ h _;cases L with
  |nil=>rfl
  |cons a L=>exact absurd (h a (by simp)) (Nat.not_lt_zero _)
 |succ n ih=>
  intro L hd c ha;have hm:=ha n (Nat.lt_succ_self n);have h1:=ih (L:=L.erase n) (hd.erase n) (fun i b=>by
   have h2:=(List.Nodup.mem_erase_iff hd).mp b
   have d:=c i h2.2
   have:=h2.1
   omega) (fun i b=>(List.Nodup.mem_erase_iff hd).mpr ⟨by omega,ha i (by omega)⟩)
  rw[List.length_erase_of_mem hm] at h1;have:0<L.length:=List.length_pos_of_mem hm;omega
end Gp
theorem Fs{t:List Nat}(a:∀i,t.getD i 0=10↔u.getD i 0=10)(i:Nat):bt t i=bt u i:=by
 unfold bt;have:=a (i-1)
 by_cases h:u.getD (i-1) 0=10
 ·rw[h,this.mpr h]
 have h2:¬t.getD (i-1) 0=10:=fun e=>h (this.mp e)
 rw[beq_eq_false_iff_ne.mpr h,beq_eq_false_iff_ne.mpr h2]
theorem tW{l:List Nd}{d:Nat}(h:∀s,hasB (nd l s).set c=hasB (nd l s).set d)(L:List Nat):jg l c L=jg l d L:=by
 unfold jg;have e:(fun IW s=>gI l c s IW)=fun IW s=>gI l d s IW:=by
  funext IW s
  unfold gI;rw[h (s/2)]
 rw[e]
theorem zZ{l:List Nd}{t:List Nat}(b:t.length=u.length)(a:∀i,t.getD i 0=10↔u.getD i 0=10)(hs:∀i s,hasB (nd l s).set (t.getD i 0)=hasB (nd l s).set (u.getD i 0)):
  ∀f i L,fr l t f i L=fr l u f i L:=by
 intro f
 induction f with
 |zero=>intro i L;rfl
 |succ f ih=>
  intro i L;rw[fr,fr,Fs a i,b];simp only;rw[tW (hs i),tW (hs i),ih,ih]
  by_cases h:u.getD i 0=10
  ·rw[ps_ h,ps_ ((a i).mpr h)]
  rw[ng_ h,ng_ (fun e=>h ((a i).mp e))]
def yB(a:List Nd)(b:List Nat):Bool:=(XK 256).all fun c=>b.any fun r=>((c==10)==(r==10))&&a.all fun n=>hasB n.set c==hasB n.set r
def Alike(a:List Nd)(c r:Nat):Prop:=(c=10↔r=10)/\∀n∈a,hasB n.set c=hasB n.set r
theorem wd{a:List Nd}(h:yB a b=G)(hc:c<256):∃r∈b,Alike a c r:=by
 obtain⟨r,h1,h2⟩:=List.any_eq_true.mp (XA.mp h c (XG.mpr hc));rw[XC,beq_iff_eq,XA] at h2;refine⟨r,h1,?_,fun n d=>by simpa using h2.2 n d⟩
 have:=h2.1
 by_cases e:c=10<;>by_cases f:r=10<;>simp_all
theorem Alike.nd{a b:List Nd}{r:Nat}(h:Alike a c r)(d:∀n∈b,n∈a)(s:Nat):hasB (nd b s).set c=hasB (nd b s).set r:=by
 unfold Go.Proofs.YtflccikncbhpdaaGreatDoor.nd;rw[bD]
 by_cases hs:s<b.length
 ·rw[bE hs];exact h.2 _ (d _ (bH hs))
 rw[bI (by omega)]
 simp[hasB]
def lD(a:List Nat):Nat->List (List Nat)
 |0=>[[]]
 |n+1=>[]::a.flatMap fun r=>(lD a n).map (r:: ·)
theorem vz{a:List Nd}{d:List Nat}(h:yB a d=G):∀(n:Nat) (t:List Nat),t.length<=n->(∀b∈t,b<256)->∃u∈lD d n,t.length=u.length/\∀i,Alike a (t.getD i 0) (u.getD i 0):=by
 have f:Alike a 0 0:=⟨Iff.rfl,fun _ _=>rfl⟩
 intro n
 induction n with
 |zero=>
  intro t e _;obtain rfl:=X7 (Nat.le_zero.mp e);exact⟨[],by simp[lD],rfl,fun i=>f⟩
 |succ n ih=>
  intro t e g;cases t with
  |nil=>exact⟨[],by simp[lD],rfl,fun i=>f⟩
  |cons c t=>
   obtain⟨r,k,h1⟩:=wd h (g c (by simp))
   obtain⟨u,l,h2,j⟩:=ih t (by simpa using e) (fun b hm=>g b (by simp[hm]))
   refine⟨r::u,by simp only[lD,Xz,XV,XW];exact bY ⟨r,k,u,l,rfl⟩,by simp[h2],fun i=>?_⟩
   cases i with
   |zero=>exact h1
   |succ i=>simpa using j i
def FH(s:ByteArray):Prop:=∀t:List Nat,(∀b∈t,b<256)->t.length<=3->0<=df (aY (cO (bs s)).1) t->0<=dL (cO (bs s)).1 t
def GG(st l:List Nd)(a:List Nat):Bool:=yB (st++l) a&&(lD a 3).all fun u=> !decide (0<=df st u)||decide (0<=dL l u)
theorem nE(b:List Nat)(h:GG (aY (cO (bs s)).1) (cO (bs s)).1 b=G):FH s:=by
 intro t g j d;generalize aY (cO (bs s)).1=st at *;generalize (cO (bs s)).1=l at *;unfold GG at h;rw[XC] at h;obtain⟨u,k,h1,h2⟩:=vz h.1 3 t j g;have a:=fun i=>(h2 i).1
 have e:df st t=df st u:=by
  unfold df;rw[h1,pQ h1 a (fun i s=>(h2 i).nd (fun n c=>XT _ c) s)]
 have f:dL l t=dL l u:=by
  unfold dL;rw[h1,zZ h1 a (fun i s=>(h2 i).nd (fun n c=>XU _ c) s)]
 rw[e] at d;rw[f];have:=XA.mp h.2 u k;simpa [d] using this
theorem ym:∀s∈ej,FH s:=by
 intro s hs;simp only[ej,Xz,XE,or_false] at hs;rcases hs with rfl|rfl|rfl|rfl|rfl|rfl|rfl
 ·exact nE [10,111,107,0] (by decide+kernel)
 ·exact nE [10,0] (by decide+kernel)
 ·exact nE [10,114,121,0] (by decide+kernel)
 ·exact nE [10,117,112,103,111,0] (by decide+kernel)
 ·exact nE [10,48,120,0] (by decide+kernel)
 ·exact nE [10,97,98,99,0] (by decide+kernel)
 exact nE [10,0] (by decide+kernel)
namespace Wn
def sD(l:List Jd)(o:List Nat)(a:Oc.Ac):Option (List Nat):=
 match Gp.ix l a.I6 with
 |none=>V
 |some k=>if a.IF=1/\k∉o/\(∀n∈Gp.IC l k,n∈o) then X (o++[k]) else V
def Lg(l:List Jd):List Nat->List Oc.Ac->Option (List Nat)
 |o,[]=>X o
 |o,a::al=>match sD l o a with
  |none=>V
  |some b=>Lg l b al
def Lp(l:List Jd):List Nat->List (List Oc.Ac)->Option (List Nat)
 |o,[]=>X o
 |o,a::al=>match Lg l o a with
  |none=>V
  |some b=>Lp l b al
theorem jL{l:List Jd}:∀{al:List Oc.Ac} {o b:List Nat},Lg l o al=X b->nJ l al:=by
 intro al
 induction al with
 |nil=>intro o b _ a ha;cases ha
 |cons x al ih=>
  intro o b h;unfold Lg at h;cases hx:sD l o x with
  |none=>rw[hx] at h;cases h
  |some d=>
   rw[hx] at h;intro a ha;rcases Xz.mp ha with rfl|ha
   ·unfold sD at hx;cases c:Gp.ix l a.I6 with
    |none=>rw[c] at hx;cases hx
    |some k=>
     rw[c] at hx;simp only at hx;split at hx
     ·next hc=>exact⟨hc.1,k,rfl⟩
     cases hx
   exact ih h a ha
structure Q(j:Jd)(q:Oc.Pl)(r:Au.R):Prop where
 I6:q.j=j
 ph:q.x.ph=1\/q.x.ph=2\/q.x.ph=3\/q.x.ph=4
 halt:q.x.halt=false
 out:q.x.ph≠4->q.out=[]
 st:r.st=(if q.x.ph=1 then 0 else if q.x.ph=2 then 1 else 2)
 O4:q.x.ph≠1->r.out=q.out
 hit:q.x.ph=4->Au.KV j r=true
 ob:(∀b∈r.out,b<256)/\r.out.length<=1000000
structure S(l:List Jd)(s:Oc.St)(o:List Nat)(au:List Au.R):Prop where
 len:s.pl.length=l.length
 al:au.length=l.length
 q:∀i,i<l.length->Q (Au.I6 l i) (Oc.p s i) (Au.get au i)
 MY:∀i,i<l.length->(i∈o↔(Oc.p s i).x.ph≠1)
 PU:∀i∈o,i<l.length
 PT:o.Nodup
 IC:∀i,i<l.length->(Oc.p s i).x.ph≠1->∀k∈Gp.IC l i,(Oc.p s k).x.ph=4
theorem S.Js{l:List Jd}{s:Oc.St}{au:List Au.R}(h:S l s o au):Oc.Js s=l:=by
 apply X0
 ·rw[dY,h.len]
 intro i h1 h2;have b:i<s.pl.length:=by rw[h.len];exact h2
 have c:=(h.q i h2).I6
 have a:(Oc.Js s)[i]=(Oc.p s i).j:=by
  simp[Oc.Js,Oc.p,bD,bE b]
 rw[a,c];simp[Au.I6,bD,bE h2]
theorem S.same{l:List Jd}{s s':Oc.St}{au:List Au.R}(h:S l s o au)(b:s'.pl=s.pl):S l s' o au:=by
 have e:∀i,Oc.p s' i=Oc.p s i:=fun i=>by unfold Oc.p;rw[b]
 exact⟨by rw[b];exact h.len,h.al,fun i a=>by rw[e];exact h.q i a,fun i a=>by rw[e];exact h.MY i a,h.PU,h.PT,fun i a h1 k hk=>by rw[e] at h1 ⊢;exact h.IC i a h1 k hk⟩
theorem lP{l:List Jd}(h:i∈Gp.IC l k):i<l.length:=XG.mp (List.mem_filter.mp h).1
theorem S.turn{l:List Jd}{s s':Oc.St}{r:List Nat}{au d:List Au.R}{q':Oc.Pl}(h:S l s o au)(t:i<l.length)(u:s'.pl=s.pl.set i q')(n:d.length=l.length)
  (B:Q (Au.I6 l i) q' (Au.get d i)) (g:∀j,j<l.length->j≠i->Q (Au.I6 l j) (Oc.p s j) (Au.get d j))
  (h1:q'.x.ph≠1) (y:(Oc.p s i).x.ph=4->q'.x.ph=4) (m:(r=o++[i]/\i∉o)\/(r=o/\i∈o)) (A:∀k∈Gp.IC l i,(Oc.p s k).x.ph=4):S l s' r d:=by
 have q:i<s.pl.length:=by rw[h.len];exact t
 have e:∀k,Oc.p s' k=if k=i then q' else Oc.p s k:=fun k=>by
  unfold Oc.p;rw[u,bD,bD]
  by_cases e:k=i
  ·subst e;simp[q]
  rw[ng_ e,X8 (by omega)]
 have w:∀k,(Oc.p s k).x.ph=4->(Oc.p s' k).x.ph=4:=fun k hk=>by
  rw[e];split
  ·next c=>subst c;exact y hk
  exact hk
 refine⟨by rw[u,bK];exact h.len,n,fun j hj=>?_,fun j hj=>?_,?_,?_,fun j hj f k hk=>?_⟩
 ·rw[e];split
  ·next c=>subst c;exact B
  next c=>exact g j hj c
 ·rw[e];split
  ·next c=>
   subst c;refine⟨fun _=>h1,fun _=>?_⟩
   rcases m with⟨rfl,_⟩|⟨rfl,h2⟩
   ·simp
   exact h2
  next c=>
  rcases m with⟨rfl,_⟩|⟨rfl,h2⟩
  ·rw[<-h.MY j hj];simp[c]
  exact h.MY j hj
 ·rcases m with⟨rfl,_⟩|⟨rfl,h2⟩
  ·intro j hj;rcases XI.mp hj with c|c
   ·exact h.PU j c
   rw[Xx.mp c];exact t
  exact h.PU
 ·rcases m with⟨rfl,h2⟩|⟨rfl,h2⟩
  ·rw[XN];exact⟨h.PT,by simp,fun a ha b z=>by rw[Xx.mp z];intro c;exact h2 (c▸ha)⟩
  exact h.PT
 refine w k ?_;rw[e] at f
 by_cases c:j=i
 ·subst c;exact A k hk
 rw[ng_ c] at f;exact h.IC j hj f k hk
theorem xf(a j:Jd)(r:Au.R)(h:Au.KV a r=G):Au.KV a (Au.J0 j r)=G:=by
 unfold Au.KV Au.J0 at *;simp only[Bool.or_eq_true] at *;rcases h with(h|h)|h
 ·exact bX (bX h)
 ·exact bX (bY (bX h))
 exact bY h
theorem AA{l:List Jd}:∀{ks:List Nat} {au:List Au.R},(∀k∈ks,k<au.length/\(Au.get au k).st=2/\Au.KV (Au.I6 l k) (Au.get au k)=G)->
  ∃a,Au.LU l au ks=X a/\a.length=au.length/\∀j,(Au.get a j).st=(Au.get au j).st/\(Au.get a j).out=(Au.get au j).out/\(∀b,Au.KV b (Au.get au j)=G->Au.KV b (Au.get a j)=G):=by
 intro ks
 induction ks with
 |nil=>intro au _;exact⟨au,rfl,rfl,fun j=>⟨rfl,rfl,fun _ h=>h⟩⟩
 |cons k ks ih=>
  intro au h;obtain⟨h1,h2,i⟩:=h k (by simp)
  have key:∀j,(Au.get (au.set k (Au.J0 (Au.I6 l k) (Au.get au k))) j).st=(Au.get au j).st/\(Au.get (au.set k (Au.J0 (Au.I6 l k) (Au.get au k))) j).out=(Au.get au j).out/\(∀b,Au.KV b (Au.get au j)=G->Au.KV b (Au.get (au.set k (Au.J0 (Au.I6 l k) (Au.get au k))) j)=G):=fun j=>by
   by_cases e:j=k
   ·subst e;rw[fA _ h1];exact⟨rfl,rfl,fun b c=>xf b _ _ c⟩
   rw[eZ _ e];exact⟨rfl,rfl,fun _ c=>c⟩
  obtain⟨a,d,f,g⟩:=ih (au:=au.set k (Au.J0 (Au.I6 l k) (Au.get au k))) (fun k2 hk2=>by
   obtain⟨m,n,o⟩:=h k2 (by simp[hk2])
   obtain⟨a1,a2,a3⟩:=key k2;exact⟨by rw[bK];exact m,by rw[a1];exact n,a3 _ o⟩)
  refine⟨a,?_,by rw[f,bK],fun j=>?_⟩
  ·unfold Au.LU;rw[ps_ ⟨h2,i⟩];exact d
  obtain⟨a1,a2,a3⟩:=key j;obtain⟨b1,b2,b3⟩:=g j;exact⟨b1.trans a1,b2.trans a2,fun b c=>b3 b (a3 b c)⟩
section
variable {l : List Jd} {s : Oc.St} {o : List Nat} {au : List Au.R} (hown : ∀ i, i < l.length -> Gp.ix l (Au.I6 l i).nm = some i)
include hown
theorem S.spawn(h:S l s o au)(f:i<l.length)(h1:(Oc.p s i).x.ph=1)(A:∀k∈Gp.IC l i,(Oc.p s k).x.ph=4):
  ∃c,Au.LG l au ⟨1,(Oc.p s i).j.nm,(Lf.spawn (Oc.p s i).x).1.inc⟩=X c/\sD l o ⟨1,(Oc.p s i).j.nm,(Lf.spawn (Oc.p s i).x).1.inc⟩=X (o++[i])/\S l (Oc.Jf s i) (o++[i]) c:=by
 have y:=h.q i f
 have g:Gp.ix l (Oc.p s i).j.nm=X i:=by rw[y.I6];exact hown i f
 have t:i∉o:=fun hm=>(h.MY i f).mp hm h1
 have B:(Au.get au i).st=0:=by rw[y.st,ps_ h1]
 obtain⟨d,F,C,I⟩:=AA (l:=l) (ks:=Gp.IC l i) (au:=au) (fun k hk=>by
  have m:=lP hk
  have D:=A k hk
  have u:=h.q k m
  exact⟨by rw[h.al];exact m,by rw[u.st,D];rfl,u.hit D⟩)
 have z:i<d.length:=by rw[C,h.al];exact f
 refine⟨d.set i ⟨1,[],O⟩,?_,?_,?_⟩
 ·unfold Au.LG;simp only[g];rw[ng_ (by rw[B];simp),F]
  rfl
 ·unfold sD;simp only[g];rw[ps_ ⟨by trivial,t,fun n r=>(h.MY n (lP r)).mpr (by rw[A n r];decide)⟩]
 have w:(Lf.spawn (Oc.p s i).x).1={(Oc.p s i).x with ph:=2,inc:=wrap64 ((Oc.p s i).x.inc+1)}:=by unfold Lf.spawn;rw[ps_ h1]
 refine h.turn f (q':=⟨(Oc.p s i).j,(Lf.spawn (Oc.p s i).x).1,[]⟩) rfl (by rw[bK,C,h.al]) ?_ (fun j hj hne=>?_) (by rw[w];show(2:Int)≠1;decide) (fun e=>by omega) (bX ⟨rfl,t⟩) A
 ·rw[fA _ z,w];exact⟨y.I6,bY (bX rfl),y.halt,fun _=>rfl,rfl,fun _=>rfl,fun e=>absurd (show(2:Int)=4 from e) (by decide),⟨fun b J=>by simp at J,bO _⟩⟩
 rw[eZ _ hne];obtain⟨b1,b2,b3⟩:=I j;have a:=h.q j hj;exact⟨a.I6,a.ph,a.halt,a.out,by rw[b1];exact a.st,fun e=>by rw[b2];exact a.O4 e,fun e=>b3 _ (a.hit e),by rw[b2];exact a.ob⟩
theorem S.settle:∀(f:Nat) {s:Oc.St} {o:List Nat} {au:List Au.R},S l s o au->∃new g a,(Oc.settle f s).IV=s.IV++new/\Au.KJ l au new=X a/\Lg l o new=X g/\S l (Oc.settle f s) g a/\
  (∀i,i<l.length->(Oc.p s i).x.ph≠1->Oc.p (Oc.settle f s) i=Oc.p s i)/\(∀i,i<l.length->(Oc.p s i).x.ph=1->(Oc.p (Oc.settle f s) i).x.ph=1\/(Oc.p (Oc.settle f s) i).x.ph=2):=by
 intro f
 induction f with
 |zero=>intro s o au h;exact⟨[],o,au,by simp[Oc.settle],rfl,rfl,h,fun _ _ _=>rfl,fun _ _ e=>bX e⟩
 |succ f ih=>
  intro s o au h;unfold Oc.settle;split
  ·exact⟨[],o,au,by simp,rfl,rfl,h,fun _ _ _=>rfl,fun _ _ e=>bX e⟩
  next i hf=>
  obtain⟨m,h1⟩:=nD hf;rw[h.len] at m;have h2:=X6 hf;have A:∀k∈Gp.IC l i,(Oc.p s k).x.ph=4:=fun k hk=>by
   unfold Oc.Jl at h2;rw[XC,XA,h.Js] at h2;have:=h2.2 k hk;simpa using this
  obtain⟨_,B,j2,z⟩:=h.spawn hown m h1 A;obtain⟨new,g,a,r,t,u,w,q,y⟩:=ih z;have c:∀k,k≠i->Oc.p (Oc.Jf s i) k=Oc.p s k:=fun k hk=>by
   simp only[Oc.Jf,Oc.p,bD];rw[X8 (by omega)]
  have d:(Oc.p (Oc.Jf s i) i).x.ph=2:=by
   have n:i<s.pl.length:=by rw[h.len];exact m
   rw[show Oc.p (Oc.Jf s i) i=⟨(Oc.p s i).j,(Lf.spawn (Oc.p s i).x).1,[]⟩ by simp[Oc.Jf,Oc.p,n]]
   show(Lf.spawn (Oc.p s i).x).1.ph=2
   unfold Lf.spawn;rw[ps_ h1]
  refine⟨⟨1,(Oc.p s i).j.nm,(Lf.spawn (Oc.p s i).x).1.inc⟩::new,g,a,?_,?_,?_,w,fun k hk b=>?_,fun k hk b=>?_⟩
  ·rw[r];simp[Oc.Jf]
  ·unfold Au.KJ;rw[B];exact t
  ·unfold Lg;rw[j2];exact u
  ·have hne:k≠i:=fun e=>b (e▸h1)
   rw[q k hk (by rw[c k hne];exact b),c k hne]
  by_cases hne:k=i
  ·subst hne;rw[q k hk (by rw[d];decide),d]
   exact bY rfl
  exact y k hk (by rw[c k hne];exact b)
omit hown in
theorem xE:∀(n:Nat) (s:Oc.St),Oc.KD s=n->(Oc.IP (Oc.calm s)).find? (Oc.Jl (Oc.calm s))=V:=by
 intro n
 induction n using Nat.strongRecOn with
 |ind n ih=>
  intro s hs;cases a:(Oc.IP s).find? (Oc.Jl s) with
  |none=>rw[pp a];exact a
  |some i=>
   rw[po a];have:=ky a;exact ih (Oc.KD (Oc.Jf s i)) (by omega) _ rfl
theorem S.calm(f:Gp.Kq l)(h:S l s o au):∃new d a,(Oc.calm s).IV=s.IV++new/\Au.KJ l au new=X a/\Lg l o new=X d/\S l (Oc.calm s) d a/\
  (∀i,i<l.length->((Oc.p (Oc.calm s) i).x.ph=4↔(Oc.p s i).x.ph=4))/\(∀i,i<l.length->((Oc.p (Oc.calm s) i).x.ph=3↔(Oc.p s i).x.ph=3))/\
  (∀i,i<l.length->(Oc.p (Oc.calm s) i).x.ph=1->∃k∈Gp.IC l i,(Oc.p (Oc.calm s) k).x.ph≠4):=by
 obtain⟨new,d,a,q,r,t,g,j,m⟩:=S.settle hown (Oc.KD s) h;refine⟨new,d,a,q,r,t,g,fun i b=>?_,fun i b=>?_,fun i b h1=>?_⟩
 ·by_cases c:(Oc.p s i).x.ph=1
  ·have h2:=m i b c
   show(Oc.p (Oc.settle (Oc.KD s) s) i).x.ph=4↔_
   omega
  show(Oc.p (Oc.settle (Oc.KD s) s) i).x.ph=4↔_
  rw[j i b c]
 ·by_cases c:(Oc.p s i).x.ph=1
  ·have h2:=m i b c
   show(Oc.p (Oc.settle (Oc.KD s) s) i).x.ph=3↔_
   omega
  show(Oc.p (Oc.settle (Oc.KD s) s) i).x.ph=3↔_
  rw[j i b c]
 have n:S l (Oc.calm s) d a:=g
 have hd:=xE _ s rfl
 have hm:i∈Oc.IP (Oc.calm s):=by unfold Oc.IP;rw[n.Js];exact Gp.MD f b
 rw[List.find?_eq_none] at hd;have e:=hd i hm;unfold Oc.Jl at e;rw[n.Js,h1] at e;simp only[beq_self_eq_true,Bool.true_and,XA,beq_iff_eq] at e;exact Classical.byContradiction fun hc=>e fun k hk=>Classical.byContradiction fun u=>hc ⟨k,hk,u⟩
omit hown in
theorem S.Ox(h:S l s o au):ll au:=fun k=>by
 by_cases hk:k<l.length
 ·exact(h.q k hk).ob
 have e:Au.get au k=Au.r0:=by
  unfold Au.get;rw[bD,bI (by rw[h.al];omega)]
  rfl
 rw[e];exact⟨fun b a=>by simp[Au.r0] at a,bO _⟩
omit hown in
theorem pg{j:Jd}{t:List Nat}{b:Bool}(e:j.IQ=G->FH j.ready)(c:∀x∈t,x<256)(d:t.length<=3)(h:Oc.Jr j t=G):((!j.IQ||b)||decide (0<=dL (cO (bs j.ready)).1 t))=G:=by
 unfold Oc.Jr at h;cases a:j.IQ with
 |false=>rfl
 |true=>
  rw[a] at h;simp only[X9,X_] at h;have:=e a t c d (of_decide_eq_true h);simp[this]
theorem xk(h:S l s o au)(c:i<l.length)(n:(Au.I6 l i).IQ=G->FH (Au.I6 l i).ready)(h2:(Oc.p s i).x.ph=2):
  (Oc.handle {s with IV:=[]} ⟨1,(Au.I6 l i).nm,G,0,[],0⟩).IV=[]/\S l (Oc.handle {s with IV:=[]} ⟨1,(Au.I6 l i).nm,G,0,[],0⟩) o (Au.MC l au ⟨1,(Au.I6 l i).nm,G,0,[],0⟩)/\yq l au ⟨1,(Au.I6 l i).nm,G,0,[],0⟩/\
  ∀k,Oc.p (Oc.handle {s with IV:=[]} ⟨1,(Au.I6 l i).nm,G,0,[],0⟩) k=if k=i then⟨(Oc.p s i).j,{(Oc.p s i).x with Jy:=s.now,ph:=if Oc.Jr (Au.I6 l i) []=G then 4 else 3},(Oc.p s i).out⟩ else Oc.p s k:=by
 have a:=h.q i c
 have t:i<s.pl.length:=by rw[h.len];exact c
 have w:Oc.Js ({s with IV:=[]}:Oc.St)=l:=(h.same (s':={s with IV:=[]}) rfl).Js
 have z:Oc.p ({s with IV:=[]}:Oc.St) i=Oc.p s i:=rfl
 have u:Lf.up (Oc.p s i).x (Oc.Jr (Oc.p s i).j []) s.now={(Oc.p s i).x with Jy:=s.now,ph:=if Oc.Jr (Au.I6 l i) []=G then 4 else 3}:=by
  unfold Lf.up;rw[ps_ h2,a.I6]
 have y:Oc.handle {s with IV:=[]} ⟨1,(Au.I6 l i).nm,G,0,[],0⟩=Oc.LF {s with IV:=[]} i {(Oc.p s i).x with Jy:=s.now,ph:=if Oc.Jr (Au.I6 l i) []=G then 4 else 3}:=by
  unfold Oc.handle;rw[w];simp only[hown i c];rw[Oc.Nq rfl];simp only[z];rw[u]
 rw[y];have d:(Oc.LF {s with IV:=[]} i {(Oc.p s i).x with Jy:=s.now,ph:=if Oc.Jr (Au.I6 l i) []=G then 4 else 3}).pl=s.pl.set i ⟨(Oc.p s i).j,{(Oc.p s i).x with Jy:=s.now,ph:=if Oc.Jr (Au.I6 l i) []=G then 4 else 3},(Oc.p s i).out⟩:=rfl
 have r:Au.MC l au ⟨1,(Au.I6 l i).nm,G,0,[],0⟩=au.set i ⟨2,(Au.get au i).out,(Au.get au i).JP⟩:=by
  unfold Au.MC;simp only[hown i c];rw[ps_ trivial,ps_ (by rw[a.st,h2];rfl)]
 have g:i<au.length:=by rw[h.al];exact c
 have m:=a.out (by omega)
 have b:=a.O4 (by omega)
 refine⟨rfl,?_,⟨i,hown i c,bX ⟨rfl,rfl,by rw[a.st,h2];rfl⟩,by rw[b,m]⟩,fun k=>Oc.OK (f:=fun _=>_) (s:=s) d t⟩
 rw[r];refine h.turn c d (by rw[bK];exact h.al) ?_ (fun j hj hne=>by rw[eZ _ hne];exact h.q j hj) ?_ (fun e=>by omega) (bY ⟨rfl,(h.MY i c).mpr (by omega)⟩) (h.IC i c (by omega))
 ·rw[fA _ g];cases A:Oc.Jr (Au.I6 l i) [] with
  |false=>exact⟨a.I6,bY (bY (bX rfl)),a.halt,fun _=>m,rfl,fun _=>b,fun e=>absurd (show(3:Int)=4 from e) (by decide),a.ob⟩
  |true=>
   refine⟨a.I6,bY (bY (bY rfl)),a.halt,fun e=>absurd rfl e,rfl,fun _=>b,fun _=>?_,a.ob⟩
   unfold Au.KV;simp only;rw[b,m];exact pg n (by simp) (by simp) A
 show(if Oc.Jr (Au.I6 l i) []=G then(4:Int) else 3)≠1
 split<;>decide
theorem tf(h:S l s o au)(a:i<l.length)(z:(Au.I6 l i).IQ=G->FH (Au.I6 l i).ready)(g:(Oc.p s i).x.ph=3){t:List Nat}(B:Oc.Jr (Au.I6 l i) t=G)(u:(∀b∈t,b<256)/\t.length<=3):
  (Oc.handle {s with IV:=[]} ⟨3,(Au.I6 l i).nm,O,0,t,0⟩).IV=[]/\S l (Oc.handle {s with IV:=[]} ⟨3,(Au.I6 l i).nm,O,0,t,0⟩) o (Au.MC l au ⟨3,(Au.I6 l i).nm,O,0,t,0⟩)/\yq l au ⟨3,(Au.I6 l i).nm,O,0,t,0⟩/\
  ∀k,Oc.p (Oc.handle {s with IV:=[]} ⟨3,(Au.I6 l i).nm,O,0,t,0⟩) k=if k=i then⟨(Oc.p s i).j,{(Oc.p s i).x with ph:=4},t⟩ else Oc.p s k:=by
 have d:=h.q i a
 have r:i<s.pl.length:=by rw[h.len];exact a
 have C:Oc.Js ({s with IV:=[]}:Oc.St)=l:=(h.same (s':={s with IV:=[]}) rfl).Js
 have F:Oc.p ({s with IV:=[]}:Oc.St) i=Oc.p s i:=rfl
 have y:=d.out (by omega)
 have m:=d.O4 (by omega)
 obtain⟨s1,n⟩:∃s1,Oc.handle {s with IV:=[]} ⟨3,(Au.I6 l i).nm,O,0,t,0⟩=s1:=⟨_,rfl⟩
 have c:s1.pl=s.pl.set i ⟨(Oc.p s i).j,{(Oc.p s i).x with ph:=4},t⟩/\s1.IV=[]:=by
  rw[<-n];unfold Oc.handle;rw[C];simp only[hown i a];unfold Oc.about;rw[ng_ (by show¬(3:Int)=1;decide)]
  simp only[F];rw[ps_ (bX g),y,XH];rw[ps_ ⟨g,by rw[d.I6];exact B⟩]
  unfold Oc.LF;refine⟨?_,rfl⟩;have D:Lf.matched (Oc.p s i).x={(Oc.p s i).x with ph:=4}:=by unfold Lf.matched;rw[ps_ g]
  simp only[D];rw[List.set_set]
  congr 1
  simp[Oc.p,r]
 rw[n];have A:Au.MC l au ⟨3,(Au.I6 l i).nm,O,0,t,0⟩=au.set i ⟨2,t,(Au.get au i).JP⟩:=by
  unfold Au.MC;simp only[hown i a];rw[ng_ (by decide),ps_ (by rw[d.st,g];rfl),m,y,XH]
 have w:i<au.length:=by rw[h.al];exact a
 refine⟨c.2,?_,⟨i,hown i a,bY ⟨rfl,by rw[d.st,g];rfl⟩,by rw[m,y]⟩,fun k=>Oc.OK (f:=fun _=>s1) (s:=s) c.1 r⟩
 rw[A];refine h.turn a c.1 (by rw[bK];exact h.al) ?_ (fun j hj hne=>by rw[eZ _ hne];exact h.q j hj) (by show(4:Int)≠1;decide) (fun _=>rfl) (bY ⟨rfl,(h.MY i a).mpr (by omega)⟩) (h.IC i a (by omega))
 rw[fA _ w];refine⟨d.I6,bY (bY (bY rfl)),d.halt,fun e=>absurd rfl e,rfl,fun _=>rfl,fun _=>?_,u.1,bN u.2 (by decide)⟩
 unfold Au.KV;exact pg z u.1 u.2 B
structure PQ(l:List Jd)(s:Oc.St)(k:Nat):Prop where
 rd:∀i,i<l.length->((Oc.p s i).x.ph=4↔i∈(Gp.IP l).take k)
 PV:∀i,i<l.length->(Oc.p s i).x.ph≠3
 KD:∀i,i<l.length->(Oc.p s i).x.ph=1->∃n∈Gp.IC l i,(Oc.p s n).x.ph≠4
omit hown in
theorem oy{j:Jd}{t:List Nat}(h:Ky j t):Oc.Jr j t=G:=by
 unfold Oc.Jr;cases a:j.IQ with
 |false=>rfl
 |true=>simp[h.hit a]
omit hown in
theorem Cl{j:Jd}{t:List Nat}(i:me j)(h:Ky j t)(c:Oc.Jr j []=G):t=[]:=by
 cases b:j.IQ with
 |false=>exact h.MZ b
 |true=>
  obtain⟨n,d,a⟩:=i b;unfold Oc.Jr at c;rw[b,a] at c;simp only[X9,X_,decide_eq_true_eq] at c;obtain⟨_,e,_⟩:=jk d.val;have f:=h.Od b;rw[a] at f;rcases gJ e [] with⟨m,hm,g,ha,_⟩|⟨g,_⟩
  ·obtain⟨t',h1,h2⟩:=jD hm (by simp) ha
   have:=f t' h1
   simp at hm
   exact X7 (by omega)
  omega
theorem S.go(W:Gp.Kq l)(af:∀j∈l,me j)(ao:∀j∈l,j.IQ=G->FH j.ready):∀(r:List Nat) (k:Nat) (ts:List (List Nat)) {s:Oc.St} {o:List Nat} {au:List Au.R},(Gp.IP l).drop k=r->ts.length=r.length->(∀i t,ts[i]? =X t->Ky (l.getD (r.getD i 0) cE) t)->(∀t∈ts,t.length<=3)->S l s o au->PQ l s k->
  ∃L c,nR l au (cW l r ts) ((Oc.trace s (cW l r ts)).tail.map Oc.St.IV)/\Lp l o ((Oc.trace s (cW l r ts)).tail.map Oc.St.IV)=X L/\S l ((cW l r ts).foldl Oc.step s) L c/\PQ l ((cW l r ts).foldl Oc.step s) (Gp.IP l).length:=by
 intro r
 induction r with
 |nil=>
  intro k ts s o au hr C z B h b;have hk:(Gp.IP l).length<=k:=by
   have:=congrArg Ya hr
   rw[XM] at this;simp at this;omega
  have f:cW l [] ts=[]:=by simp[cW]
  rw[f];refine⟨o,au,by simp[nR,Oc.trace],by simp[Lp,Oc.trace],h,⟨fun i g=>?_,b.PV,b.KD⟩⟩
  rw[XJ];have:=b.rd i g
  rwa [Yb hk] at this
 |cons i r ih=>
  intro k ts s o au hr C z B h b;obtain⟨t,ts,rfl⟩:∃t ay,ts=t::ay:=by
   cases ts with
   |nil=>simp at C
   |cons t ts=>exact⟨t,ts,rfl⟩
  have hk:k<(Gp.IP l).length:=by
   have:=congrArg Ya hr
   rw[XM] at this;simp at this;omega
  have aa:=XS hk
  rw[hr] at aa;injection aa with hik hr2
  have ap:(Gp.IP l).getD k 0=i:=by rw[bD,bE hk,hik];rfl
  have g:i<l.length:=by rw[hik];exact(Gp.Kc l).1 _ (bH hk)
  have ak:(Gp.IP l).take (k+1)=(Gp.IP l).take k++[i]:=by rw[List.take_add_one,bE hk,hik];rfl
  have ar:i∉(Gp.IP l).take k:=fun hm=>by
   have ad:=Gp.MW l
   rw[<-List.take_append_drop k (Gp.IP l),hr,XN] at ad;exact ad.2.2 i hm i (by simp) rfl
  have A:∀n∈Gp.IC l i,(Oc.p s n).x.ph=4:=fun n hn=>(b.rd n (lP hn)).mpr (Gp.MX l hk (by rw[ap];exact hn))
  have h2:(Oc.p s i).x.ph=2:=by
   have az:=(h.q i g).ph
   have h3:=b.PV i g
   have h4:(Oc.p s i).x.ph≠4:=fun e=>ar ((b.rd i g).mp e)
   have h1:(Oc.p s i).x.ph≠1:=fun e=>by
    obtain⟨n,hn,aq⟩:=b.KD i g e;exact aq (A n hn)
   omega
  have m:l.getD i cE=Au.I6 l i:=rfl
  have y:=z 0 t rfl
  rw[show(i::r).getD 0 0=i from rfl,m] at y
  have ah:∀a u,ts[a]? =X u->Ky (l.getD (r.getD a 0) cE) u:=fun a u hu=>by
   have:=z (a+1) u (by simpa using hu)
   simpa using this
  have ac:Au.I6 l i∈l:=by unfold Au.I6;rw[bD,bE g];exact bH g
  have av:me (Au.I6 l i):=af _ ac
  have ab:=ao _ ac
  obtain⟨am,F,D,w⟩:=xk hown h g ab h2;obtain⟨_,_,N,c1,c2,c3,I,c4,c5,c6⟩:=F.calm hown W;rw[am,XH] at c1;have ai:Oc.step s ⟨1,(Au.I6 l i).nm,G,0,[],0⟩=Oc.calm (Oc.handle {s with IV:=[]} ⟨1,(Au.I6 l i).nm,G,0,[],0⟩):=rfl
  rw[<-ai] at c1 I c4 c5 c6;cases hf:Oc.Jr (Au.I6 l i) [] with
  |true=>
   have aw:=Cl av y hf
   subst aw;have f:cW l (i::r) ([]::ts)=⟨1,(Au.I6 l i).nm,G,0,[],0⟩::cW l r ts:=by
    show BN (l.getD i cE) []++cW l r ts=_
    rw[m];simp[BN]
   have hB:PQ l (Oc.step s ⟨1,(Au.I6 l i).nm,G,0,[],0⟩) (k+1):=by
    refine⟨fun j hj=>?_,fun j hj=>?_,c6⟩
    ·rw[c4 j hj,w j,ak]
     by_cases e:j=i
     ·subst e;rw[ps_ rfl];simp[hf]
     rw[ng_ e,b.rd j hj];simp[e]
    intro d;rw[c5 j hj,w j] at d
    by_cases e:j=i
    ·rw[ps_ e] at d;simp[hf] at d
    rw[ng_ e] at d;exact b.PV j hj d
   obtain⟨L,c,d1,d2,d3,d4⟩:=ih (k+1) ts hr2.symm (by simpa using C) ah (fun u hu=>B u (by simp[hu])) I hB
   rw[f];refine⟨L,c,?_,?_,d3,d4⟩
   ·show nR l au (_::cW l r ts) ((Oc.trace (Oc.step s ⟨1,(Au.I6 l i).nm,G,0,[],0⟩) (cW l r ts)).map Oc.St.IV)
    have e:Oc.trace (Oc.step s ⟨1,(Au.I6 l i).nm,G,0,[],0⟩) (cW l r ts)=Oc.step s ⟨1,(Au.I6 l i).nm,G,0,[],0⟩::(Oc.trace (Oc.step s ⟨1,(Au.I6 l i).nm,G,0,[],0⟩) (cW l r ts)).tail:=by cases cW l r ts<;>rfl
    rw[e,XB,nR,c1];exact⟨D,F.Ox,jL c3,N,c2,d1⟩
   show Lp l o ((Oc.trace (Oc.step s ⟨1,(Au.I6 l i).nm,G,0,[],0⟩) (cW l r ts)).map Oc.St.IV)=X L
   have e:Oc.trace (Oc.step s ⟨1,(Au.I6 l i).nm,G,0,[],0⟩) (cW l r ts)=Oc.step s ⟨1,(Au.I6 l i).nm,G,0,[],0⟩::(Oc.trace (Oc.step s ⟨1,(Au.I6 l i).nm,G,0,[],0⟩) (cW l r ts)).tail:=by cases cW l r ts<;>rfl
   rw[e,XB,Lp,c1,c3];exact d2
  |false=>
   have ax:t≠[]:=fun e=>by
    have:=oy y
    rw[e,hf] at this;cases this
   have f:cW l (i::r) (t::ts)=⟨1,(Au.I6 l i).nm,G,0,[],0⟩::⟨3,(Au.I6 l i).nm,O,0,t,0⟩::cW l r ts:=by
    show BN (l.getD i cE) t++cW l r ts=_
    rw[m];simp[BN,ax]
   have h3:(Oc.p (Oc.step s ⟨1,(Au.I6 l i).nm,G,0,[],0⟩) i).x.ph=3:=by
    rw[c5 i g,w i,ps_ rfl];simp[hf]
   obtain⟨an,P,ag,ae⟩:=tf hown I g ab h3 (oy y) ⟨y.bytes,B t (by simp)⟩
   obtain⟨_,_,al,b1,b2,b3,T,b4,b5,b6⟩:=P.calm hown W;rw[an,XH] at b1;have aj:∀s1:Oc.St,Oc.step s1 ⟨3,(Au.I6 l i).nm,O,0,t,0⟩=Oc.calm (Oc.handle {s1 with IV:=[]} ⟨3,(Au.I6 l i).nm,O,0,t,0⟩):=fun _=>rfl
   rw[<-aj] at b1 T b4 b5 b6;generalize J:Oc.step s ⟨1,(Au.I6 l i).nm,G,0,[],0⟩=s1 at *;have hB:PQ l (Oc.step s1 ⟨3,(Au.I6 l i).nm,O,0,t,0⟩) (k+1):=by
    refine⟨fun j hj=>?_,fun j hj=>?_,b6⟩
    ·rw[b4 j hj,ae j,ak]
     by_cases e:j=i
     ·subst e;rw[ps_ rfl];simp
     rw[ng_ e,c4 j hj,w j,ng_ e,b.rd j hj];simp[e]
    intro d;rw[b5 j hj,ae j] at d
    by_cases e:j=i
    ·rw[ps_ e] at d;exact absurd (show(4:Int)=3 from d) (by decide)
    rw[ng_ e,c5 j hj,w j,ng_ e] at d;exact b.PV j hj d
   obtain⟨L,c,d1,d2,d3,d4⟩:=ih (k+1) ts hr2.symm (by simpa using C) ah (fun u hu=>B u (by simp[hu])) T hB
   rw[f];have e:(Oc.trace s (⟨1,(Au.I6 l i).nm,G,0,[],0⟩::⟨3,(Au.I6 l i).nm,O,0,t,0⟩::cW l r ts)).tail.map Oc.St.IV=s1.IV::(Oc.step s1 ⟨3,(Au.I6 l i).nm,O,0,t,0⟩).IV::(Oc.trace (Oc.step s1 ⟨3,(Au.I6 l i).nm,O,0,t,0⟩) (cW l r ts)).tail.map Oc.St.IV:=by
    simp only[Oc.trace,List.tail_cons,J,XB];cases cW l r ts<;>rfl
   rw[e];refine⟨L,c,?_,?_,?_,?_⟩
   ·rw[nR,c1];refine⟨D,F.Ox,jL c3,N,c2,?_⟩;rw[nR,b1];exact⟨ag,P.Ox,jL b3,al,b2,d1⟩
   ·rw[Lp,c1,c3];simp only;rw[Lp,b1,b3];exact d2
   ·simp only[Yc,J];exact d3
   simp only[Yc,J];exact d4
omit hown in
theorem S.Jg:S l (Oc.Jg l) [] (Au.start l):=by
 refine⟨by simp[Oc.Jg],by simp[Au.start],fun i a=>?_,fun i a=>?_,fun i a=>by simp at a,by simp,fun i a h=>?_⟩
 ·rw[Oc.KH a];have e:Au.get (Au.start l) i=Au.r0:=by simp[Au.get,Au.start,bD,a]
  rw[e];exact⟨rfl,bX rfl,rfl,fun _=>rfl,rfl,fun h=>absurd rfl h,fun h=>absurd (show(1:Int)=4 from h) (by decide),⟨fun b c=>by simp[Au.r0] at c,bO _⟩⟩
 ·rw[Oc.KH a];simp[Lf.new]
 rw[Oc.KH a] at h;exact absurd rfl h
theorem Ng(c:Gp.Kq l)(d:∀j∈l,me j)(m:∀j∈l,j.IQ=G->FH j.ready)(ts:List (List Nat))(q:ts.length=(Gp.IP l).length)(f:∀i t,ts[i]? =X t->Ky (l.getD ((Gp.IP l).getD i 0) cE) t)(n:∀t∈ts,t.length<=3):
  xK l (cW l (Gp.IP l) ts) ((Oc.KS l (cW l (Gp.IP l) ts)).map Oc.St.IV)/\
  (∃o,Lp l [] ((Oc.KS l (cW l (Gp.IP l) ts)).map Oc.St.IV)=X o/\o.length=l.length)/\
  (Oc.run l (cW l (Gp.IP l) ts)).pl.length=l.length/\∀i,i<l.length->(Oc.p (Oc.run l (cW l (Gp.IP l) ts)) i).x.ph=4:=by
 obtain⟨new,_,h,c1,c2,r,A,c4,s,u⟩:=(S.Jg (l:=l)).calm hown c;have k:(Oc.calm (Oc.Jg l)).IV=new:=by rw[c1];rfl
 have hB:PQ l (Oc.calm (Oc.Jg l)) 0:=by
  refine⟨fun i a=>?_,fun i a e=>?_,u⟩
  ·rw[c4 i a,Oc.KH a];simp[Lf.new]
  rw[s i a,Oc.KH a] at e;exact absurd (show(1:Int)=3 from e) (by decide)
 obtain⟨B,_,w,y,g,z⟩:=S.go hown c d m (Gp.IP l) 0 ts rfl q f n A hB;have e:(Oc.KS l (cW l (Gp.IP l) ts)).map Oc.St.IV=new::(Oc.trace (Oc.calm (Oc.Jg l)) (cW l (Gp.IP l) ts)).tail.map Oc.St.IV:=by
  unfold Oc.KS;rw[<-k];cases cW l (Gp.IP l) ts<;>rfl
 have b:∀i,i<l.length->(Oc.p (Oc.run l (cW l (Gp.IP l) ts)) i).x.ph=4:=fun i a=>(z.rd i a).mpr (by rw[XJ];exact Gp.MD c a)
 refine⟨⟨new,_,h,e,jL r,(S.Jg (l:=l)).Ox,c2,w⟩,⟨B,?_,?_⟩,g.len,b⟩
 ·rw[e,Lp,r];exact y
 exact Gp.OC g.PT g.PU (fun i a=>(g.MY i a).mpr (by
  have:=b i a
  show(Oc.p (Oc.run l (cW l (Gp.IP l) ts)) i).x.ph≠1
  omega))
end
end Wn
namespace Wn
theorem NL{l:List Jd}{a:List (List Oc.Ac)}(h:Lp l o (a.drop i)=X oF)(c:i<a.length):
  ∃b,Lg l o (a.getD i [])=X b/\Lp l b (a.drop (i+1))=X oF:=by
 rw[XS c,Lp] at h;rw[bD,bE c]
 show∃b,Lg l o a[i]=X b/\_
 cases hx:Lg l o a[i] with
 |none=>rw[hx] at h;cases h
 |some b=>rw[hx] at h;exact⟨b,rfl,h⟩
theorem N8{l:List Jd}{a:List (List Oc.Ac)}(h:Lp l o (a.drop a.length)=X oF):o=oF:=by
 rw[Yd,Lp] at h;exact bQ h
def O6(l:List Jd)(o:List Nat):Prop:=o.Nodup/\∀k∈o,k<l.length
theorem NH{l:List Jd}{d:List Nat}{al:List Oc.Ac}{a:Oc.Ac}(h:Lg l o (al.drop m)=X d)(ha:al[m]? =X a)(c:O6 l o):
  ∃k,Gp.ix l a.I6=X k/\k<l.length/\a.IF=1/\k∉o/\(∀n∈Gp.IC l k,n∈o)/\Lg l (o++[k]) (al.drop (m+1))=X d/\O6 l (o++[k]):=by
 obtain⟨hm,e⟩:=XD.mp ha;rw[XS hm,e,Lg] at h;unfold sD at h;cases hx:Gp.ix l a.I6 with
 |none=>rw[hx] at h;cases h
 |some k=>
  rw[hx] at h;simp only at h
  by_cases hc:a.IF=1/\k∉o/\(∀n∈Gp.IC l k,n∈o)
  ·rw[ps_ hc] at h;have hk:k<l.length:=by
    unfold Gp.ix at hx;exact(List.findIdx?_eq_some_iff_getElem.mp hx).1
   exact⟨k,rfl,hk,hc.1,hc.2.1,hc.2.2,h,XN.mpr ⟨c.1,by simp,fun a ha b f e=>by rw[Xx.mp f] at e;rw[e] at ha;exact hc.2.1 ha⟩,fun x hx=>by
    rcases XI.mp hx with h1|h1
    ·exact c.2 x h1
    rw[Xx.mp h1];exact hk⟩
  rw[ng_ hc] at h;cases h
theorem N7{l:List Jd}{al:List Oc.Ac}(h:Lg l o (al.drop al.length)=X oF):o=oF:=by
 rw[Yd,Lg] at h;exact bQ h
theorem yQ{l:List Jd}:∀{al:List Oc.Ac} {o b:List Nat},Lg l o al=X b->b.length=o.length+al.length:=by
 intro al
 induction al with
 |nil=>intro o b h;rw[bQ h];rfl
 |cons a al ih=>
  intro o b h;rw[Lg] at h;unfold sD at h;cases hx:Gp.ix l a.I6 with
  |none=>rw[hx] at h;cases h
  |some k=>
   rw[hx] at h;simp only at h
   by_cases hc:a.IF=1/\k∉o/\(∀n∈Gp.IC l k,n∈o)
   ·rw[ps_ hc] at h;rw[ih h,bF];simp only[XR,X4];omega
   rw[ng_ hc] at h;cases h
theorem Oy{l:List Jd}:∀{c:List (List Oc.Ac)} {o d:List Nat},Lp l o c=X d->o.length<=d.length/\∀a∈c,a.length<=d.length:=by
 intro c
 induction c with
 |nil=>intro o d h;rw[bQ h];exact⟨bM _,fun a ha=>by cases ha⟩
 |cons a c ih=>
  intro o d h;rw[Lp] at h;cases hx:Lg l o a with
  |none=>rw[hx] at h;cases h
  |some g=>
   rw[hx] at h;have h1:=yQ hx;obtain⟨h2,f⟩:=ih h;exact⟨by omega,fun b e=>by
    rcases Xz.mp e with rfl|e
    ·omega
    exact f b e⟩
end Wn
theorem gE(b:u.length<=3)(a:∀x∈u,x<256)(h:(bw (aY (cO (bs s)).1)&&decide (0<=df (aY (cO (bs s)).1) u))=G):∃t',LV (aY (cO (bs s)).1) t'/\t'.length<=3:=by
 rw[XC,decide_eq_true_iff] at h;rcases gJ h.1 u with⟨n,k1,k2,k3,_⟩|⟨k1,_⟩
 ·obtain⟨t',k4,k5⟩:=jD k1 a k3;exact⟨t',k4,by omega⟩
 have:=h.2
 omega
theorem qQ:∀s∈ej,∃t',LV (aY (cO (bs s)).1) t'/\t'.length<=3:=by
 intro s hs;simp only[ej,Xz,XE,or_false] at hs;rcases hs with rfl|rfl|rfl|rfl|rfl|rfl|rfl
 ·exact gE (u:=[111,107]) (by decide) (by decide) (by decide+kernel)
 ·exact gE (u:=[]) (by decide) (by decide) (by decide+kernel)
 ·exact gE (u:=[114,121,10]) (by decide) (by decide) (by decide+kernel)
 ·exact gE (u:=[117,112]) (by decide) (by decide) (by decide+kernel)
 ·exact gE (u:=[48]) (by decide) (by decide) (by decide+kernel)
 ·exact gE (u:=[99]) (by decide) (by decide) (by decide+kernel)
 exact gE (u:=[10]) (by decide) (by decide) (by decide+kernel)
theorem vX{j:Jd}{t:List Nat}(hs:Ky j t)(b:j.IQ=G->j.ready∈ej):t.length<=3:=by
 cases a:j.IQ with
 |false=>rw[hs.MZ a];exact bO _
 |true=>
  obtain⟨t',h1,h2⟩:=qQ _ (b a);have:=hs.Od a t' h1;omega
theorem BM{l:List Jd}(c:∀i,(l.getD i cE).nm.size<=1000000):∀(o:List Nat) (ts:List (List Nat)),(∀t∈ts,t.length<=3/\∀b∈t,b<256)->∀e∈cW l o ts,Oc.PM e/\e.data.length<=3:=by
 intro o
 induction o with
 |nil=>intro ts _ e a;cases a
 |cons i o ih=>
  intro ts d e a;cases ts with
  |nil=>cases a
  |cons t ts=>
   rw[cW] at a;rcases XI.mp a with a|a
   ·obtain⟨h1,h2⟩:=d t (by simp)
    unfold BN at a;rcases Xz.mp a with rfl|a
    ·exact⟨⟨bX ⟨rfl,rfl⟩,fun b f=>(by cases f),c i⟩,bO _⟩
    split at a
    ·cases a
    rw[Xx.mp a];exact⟨⟨bY rfl,h2,c i⟩,h1⟩
   exact ih ts (fun t h=>d t (by simp[h])) e a
theorem Bs{xs:List E3}(h:∀x∈xs,x.e.data.length<=3):KK xs xs.length<=10*xs.length:=by
 unfold KK;rw[XJ]
 induction xs with
 |nil=>exact bM _
 |cons x xs ih=>
  have h1:=ih (fun y hy=>h y (by simp[hy]))
  have h2:=h x (by simp)
  rw[XB,List.sum_cons,XR];omega
structure StR(l:List Jd)(xs:List E3)(oF:List Nat):Prop where
 ev:PI xs
 sm:∀x∈xs,(x.A=none\/0<x.e.data.length)/\x.e.data.length<=1000000
 JA:xs.length<=64
 len:((Oc.KS l (xs.map E3.e)).map Oc.St.IV).length=xs.length+1
 OA:xK l (xs.map E3.e) ((Oc.KS l (xs.map E3.e)).map Oc.St.IV)
 ord:Wn.Lp l [] (((Oc.KS l (xs.map E3.e)).map Oc.St.IV).drop 0)=some oF
 ol:oF.length=l.length
 ac:∀i,(((Oc.KS l (xs.map E3.e)).map Oc.St.IV).getD i []).length<=32
 pl:(Oc.run l (xs.map E3.e)).pl.length=l.length
 rd:∀i,i<l.length->(Oc.p (Oc.run l (xs.map E3.e)) i).x.ph=4
 row:∀i,i<=xs.length->((Oc.KS l (xs.map E3.e)).map Oc.St.IV).getD i []=(Oc.run l ((xs.map E3.e).take i)).IV
theorem Es{l:List Jd}{xs:List E3}{ts:List (List Nat)}(hs:Pt.PH l)(m:∀x∈xs,x.A=V\/0<x.e.data.length)(w:xs.map E3.e=cW l (Gp.IP l) ts)(r:ts.length=(Gp.IP l).length)(c:∀i t,ts[i]? =X t->Ky (l.getD ((Gp.IP l).getD i 0) cE) t)(D:xs.length<=2*(Gp.IP l).length):∃oF,StR l xs oF:=by
 have o:∀i,(l.getD i cE).nm.size<=1000000:=fun i=>by
  by_cases a:i<l.length
  ·have:l.getD i cE∈l:=gm_ a
   exact(hs.Pb _ this).nm
  rw[bD,bI (by omega)];exact bO _
 have p:∀i,(l.getD i cE).IQ=G->(l.getD i cE).ready∈ej:=fun i k=>by
  by_cases a:i<l.length
  ·have:l.getD i cE∈l:=gm_ a
   exact hs.sv _ this k
  rw[bD,bI (by omega)] at k;cases k
 have n:∀t∈ts,t.length<=3/\∀b∈t,b<256:=fun t q=>by
  obtain⟨i,a,rfl⟩:=X2.mp q;have h1:=c i _ (bE a);exact⟨vX h1 (p _),h1.bytes⟩
 have d:=BM o (Gp.IP l) ts n
 rw[<-w] at d;have hx:∀x∈xs,Oc.PM x.e/\x.e.data.length<=3:=fun x hx=>d _ (XF hx)
 have B:=(Gp.Kc l).2
 have C:=hs.l4
 have f:xs.length<=64:=by omega
 have z:=Bs (fun x h=>(hx x h).2)
 obtain⟨h1,⟨oF,h2,y⟩,s,u⟩:=Wn.Ng hs.P0.own hs.ck.PF hs.NU (fun j hj k=>ym _ (hs.sv j hj k)) ts r c (fun t q=>(n t q).1)
 rw[<-w] at h1 h2 s u;have g:((Oc.KS l (xs.map E3.e)).map Oc.St.IV).length=xs.length+1:=by rw[bL];unfold Oc.KS;rw[Oc.MB,bL]
 refine⟨oF,⟨fun x h=>⟨(hx x h).1,m x h⟩,by omega⟩,fun x h=>⟨m x h,by have:=(hx x h).2;omega⟩,f,g,h1,h2,y,fun i=>?_,s,u,fun i a=>?_⟩
 ·by_cases a:i<((Oc.KS l (xs.map E3.e)).map Oc.St.IV).length
  ·rw[bD,bE a];have:=(Wn.Oy h2).2 _ (bH a)
   show(((Oc.KS l (xs.map E3.e)).map Oc.St.IV)[i]).length<=32
   omega
  rw[bD,bI (by omega)];exact bO _
 rw[bD,XP,Oc.MU l _ i (by rw[bL];exact a)]
 rfl
theorem FD{p o:Nat}{al:List Oc.Ac}(hc:∀j u,(ft al)[j]? =X u->w.cell? ⟨p,o+j,V⟩=X u){x:Oc.Ac}(hx:al[m]? =X x):
  w.cell? ⟨p,o+m*8,V⟩=X (Z Y x.IF)/\w.cell? ⟨p,o+m*8+1,V⟩=X (Q x.I6)/\w.cell? ⟨p,o+m*8+2,V⟩=X (Z Y x.n)/\w.cell? ⟨p,o+m*8+3,V⟩=X (U V 0 0)/\w.cell? ⟨p,o+m*8+4,V⟩=X (Z Y 0)/\w.cell? ⟨p,o+m*8+5,V⟩=X (Z Y 0)/\w.cell? ⟨p,o+m*8+6,V⟩=X (Z Y 0)/\w.cell? ⟨p,o+m*8+7,V⟩=X (Z Y 0):=by
 have k:=fun d v (hd:d<8) (hv:(cJ x)[d]? =X v)=>hc (m*8+d) v ((kX fg hx hd).trans hv)
 exact⟨k 0 _ (by decide) rfl,k 1 _ (by decide) rfl,k 2 _ (by decide) rfl,k 3 _ (by decide) rfl,k 4 _ (by decide) rfl,k 5 _ (by decide) rfl,k 6 _ (by decide) rfl,k 7 _ (by decide) rfl⟩
theorem mg(a:Oc.Pe):(mA a).length=4:=rfl
theorem Er{p o:Nat}{al:List Oc.Pe}(hc:∀j u,(gD al)[j]? =X u->w.cell? ⟨p,o+j,V⟩=X u){x:Oc.Pe}(hx:al[m]? =X x):
  w.cell? ⟨p,o+m*4,V⟩=X (Q x.name)/\w.cell? ⟨p,o+m*4+1,V⟩=X (Z Y x.ph)/\w.cell? ⟨p,o+m*4+2,V⟩=X (Z Y x.inc)/\w.cell? ⟨p,o+m*4+3,V⟩=X (Z Y x.JX):=by
 have k:=fun d v (hd:d<4) (hv:(mA x)[d]? =X v)=>hc (m*4+d) v ((kX mg hx hd).trans hv)
 exact⟨k 0 _ (by decide) rfl,k 1 _ (by decide) rfl,k 2 _ (by decide) rfl,k 3 _ (by decide) rfl⟩
theorem B6(s:Oc.St)(q:Nat)(h:q<s.pl.length):(Oc.Jn s)[q]? =X ⟨(Oc.p s q).j.nm,(Oc.p s q).x.ph,(Oc.p s q).x.inc,(Oc.p s q).x.JX⟩:=by simp[Oc.Jn,Oc.p,h]
theorem B5(s:Oc.St):(Oc.Jn s).length=s.pl.length:=by simp[Oc.Jn]
structure Qs(w wr:Ye)(l:List Jd)(o:List Nat)(v:Yh):Prop where
 own:IL wr w.heap.size 3 1 v o.length (aW (aH o))
 I5:ID w wr
 nd:Wn.O6 l o
def GX(w:Ye)(l:List Jd)(a:List (List Oc.Ac))(oF:List Nat)(b c:Yh)(wr:Ye):Prop:=
 ∃(i:Nat) (o:List Nat),c=Z Y (i:Int)/\i<=a.length/\Hid (Wn.Lp l o (a.drop i)=X oF)/\Hid (Qs w wr l o b)
def GY(w:Ye)(l:List Jd)(al:List Oc.Ac)(c:List Nat)(a b:Yh)(wr:Ye):Prop:=
 ∃(m:Nat) (o:List Nat),b=Z Y (m:Int)/\m<=al.length/\Hid (Wn.Lg l o (al.drop m)=X c)/\Hid (Qs w wr l o a)
theorem topStartsC(A0:Option Yg)(c0:Nat)(l0:List Int)(w:Ye)(hr:Rs w A0 (aW l0))(hm:l0.length<=maxLen):
  Yf Yi 3 #[U A0 l0.length c0] w (RO_ (K G) w):=by
 have aU:=aJ (Gu A0 c0 l0 w hr hm)
 unfold tL at aU;go_enter func3,ntmps3;go_wp2_with fail;refine(aU).mono ?_;rintro e w1 ⟨A,c,s,l,rfl,ag,bi,b4,bW⟩;have HS:=aJ ag;have HJ:=aJ (Xw bi b4);have bA:=aJ bW;have b6:=ag.l4;have a8:=aJ (tQ A c l w1 bi ag.ck ag.NU);unfold tH at a8;go_wp2_with fail;refine(a8).mono ?_;rintro e w2 ⟨A3,c3,xs,ts,rfl,bZ,ca,bf,cb,bt,bg,ay⟩;obtain⟨oF,hR⟩:=Es HS ca bf cb bt bg;have HR:=aJ hR;have aP:=aJ bZ;have bB:=aJ (bA.up ay);have ak:Hid (JL w2 A l/\∀j∈l,JT w2 j):=aJ ⟨HJ.1.up ay,fun j hj=>(HJ.2 j hj).up ay⟩
 have cg:=hR.JA
 unfold bC;go_upto_region 3 with fail
 obtain⟨w3,aE⟩:∃w3,w2.alloc (H #[Z Y 0,Z Y 0,Z Y 0] 29)=w3:=⟨_,rfl⟩
 have t:Hid (ID w2 w3):=aJ (by rw[<-aE];exact(ID.refl _).alloc _)
 have aQ:Hid (w3.heap[w2.heap.size]? =X (H #[Z Y 0,Z Y 0,Z Y 0] 29 (0,0))):=aJ (by rw[<-aE];exact aM _ _)
 rw[aE];obtain⟨kg,b5⟩:∃kg,w2.heap.size=kg:=⟨_,rfl⟩
 rw[b5] at aQ ⊢;have aY:=aJ (uA A c l A3 c3 xs w3 (ak.1.up t) (fun j hj=>(ak.2 j hj).up t) HS.ck HS.Pb (aP.up t) HR.ev)
 unfold nO at aY;go_wp2_with fail;refine(aY).mono ?_;rintro e w4 ⟨A1,c1,A2,c2,cA,cS,rfl,ae,bq,b9,hA,ax⟩;rw[bL];rw[bL] at hA ax;have av:=ae.block aQ;obtain⟨g0,g1,g2⟩:=Xw ((aK w4 kg 0 _ _ _ av).trans (rfl:_=X (Xv Y 0))) (Xw ((aK w4 kg 1 _ _ _ av).trans (rfl:_=X (Xv Y 0))) ((aK w4 kg 2 _ _ _ av).trans (rfl:_=X (Xv Y 0))));have aO:=aJ (bB.up (t.up ae));have am:Hid (JL w4 A l):=aJ (ak.1.up (t.up ae));obtain⟨es,aA⟩:∃es,xs.map E3.e=es:=⟨_,rfl⟩
 obtain⟨a,bc⟩:∃a,(Oc.KS l es).map Oc.St.IV=a:=⟨_,rfl⟩
 have cc:xs.length<cA.length:=by
  obtain⟨_,_,h1,_⟩:=hA xs.length (bM _);exact(XD.mp h1).1
 have S:=HR.row
 have d:=HR.len
 have u:=HR.ac
 have aB:=HR.OA
 have R:=HR.ord
 have br:=HR.rd
 have aD:=HR.pl
 rw[aA] at hA ax S d u aB R br aD;rw[bc] at S d u aB R;have J:Hid (∀i,i<=xs.length->∃Ai ci,cA[i]? =X (U Ai (a.getD i []).length ci)/\Ts w4 42 Ai (ft (a.getD i []))):=aJ (fun i hi=>by rw[S i hi];exact hA i hi)
 have aN:Hid (Yf Yi 7 #[U A l.length c,U A3 xs.length c3,U A1 (xs.length+1) c1] w4 (RO_ (.agg #[Z Y 0,Z Y 0]) w4)):=aJ (by
  refine vl A c l A3 c3 xs A1 c1 a (cA.take (xs.length+1)) w4 am HS.ck HS.P0 (aP.up (t.up ae)) HR.sm (bq.rs.take _) (by rw[XL,d];omega) (fun i hi=>?_) d (by omega) (fun i=>by have:=u i;omega) (by rw[aA];exact aB)
  obtain⟨Ai,ci,h1,h2⟩:=J.out i (by omega)
  exact⟨Ai,ci,by rw[XQ,ps_ (by omega)];exact h1,h2.rs⟩)
 have aZ:=aJ bq
 have a6:Hid (∃As cs,cS[xs.length]? =X (U As l.length cs)/\Ts w4 48 As (gD (Oc.Jn (Oc.run l es)))/\(Oc.Jn (Oc.run l es)).length=l.length/\∀q,q<l.length->∃x,(Oc.Jn (Oc.run l es))[q]? =X x/\x.ph=4):=aJ (by
  obtain⟨As,cs,h1,h2⟩:=ax xs.length (bM _);rw[Yb (by rw[<-aA,bL];exact bM _)] at h1 h2
  have e:(Oc.Jn (Oc.run l es)).length=l.length:=by rw[B5,aD]
  rw[e] at h1;exact⟨As,cs,h1,h2,e,fun q hq=>⟨_,B6 _ q (by rw[aD];exact hq),br q hq⟩⟩)
 have a4:=aJ b9
 have bH:=aJ d
 have bw:=aJ u
 have ah:=aJ R
 have bJ:=aJ HR.ol
 have wx:Xy.wrap ((xs.length:Int)+1)=(xs.length:Int)+1:=bV _ (by omega)
 generalize Oc.Jn (Oc.run l es)=sts at *;go_wp2_with fail;refine(aN).mono ?_;rintro e D ⟨rfl,p⟩;have bD:=aJ (aO.up p);have aT:=aJ (am.up p);have a0:=aJ (aZ.up p);have au:Hid (∀i,i<=xs.length->∃Ai ci,cA[i]? =X (U Ai (a.getD i []).length ci)/\Ts D 42 Ai (ft (a.getD i []))):=aJ (fun i hi=>by
  obtain⟨Ai,ci,h1,h2⟩:=J i hi;exact⟨Ai,ci,h1,h2.up p⟩)
 have a5:=aJ (a4.up p)
 have a7:Hid (∃As cs,cS[xs.length]? =X (U As l.length cs)/\Ts D 48 As (gD sts)/\sts.length=l.length/\∀q,q<l.length->∃x,sts[q]? =X x/\x.ph=4):=aJ (by
  obtain⟨As,cs,h1,h2,h3⟩:=a6;exact⟨As,cs,h1,h2.up p,h3⟩)
 clear aN aO am aZ J a4 a6 p g0 g1 g2;go_wp2;go_loopw [10,69] (fun aF aG wr=>GX D l a oF aF aG wr) (fun _ aG _=>a.length-(intOf aG).toNat)
 case atStart=>exact⟨0,[],rfl,bO _,ah,aJ ⟨IL.Jk _ _ _ _,ID.refl _,⟨List.nodup_nil,fun k h=>by cases h⟩⟩⟩
 clear ah;obtain⟨i,o,rfl,hi,aj,g⟩:=hrel;have ce:=bH.out
 by_cases bk:i<a.length
 ·have i0:(0:Int)<=(i:Int):=by omega
  have i1:(i:Int)<(xs.length:Int)+1:=by omega
  have wk:Xy.wrap ((i:Int)+1)=(i:Int)+1:=bV _ (by omega)
  obtain⟨Ai,ci,ei,ri⟩:=au.out i (by omega)
  obtain⟨b,off,rfl,_,hc⟩:=(a0.up g.I5).rs.at_ (by have:=(XD.mp ei).1;omega)
  have x1:=hc i _ ei
  obtain⟨o2,aC,a'⟩:=Wn.NL aj bk;have u:=bw i;obtain⟨al,bb⟩:∃al,a.getD i []=al:=⟨_,rfl⟩
  rw[bb] at aC u x1 ri;have bR:=aJ ri.rs;have bv:=aJ a';have aV:=aJ aC;clear hc ei ri bb aC a' aj;go_wp2;go_loopw [10,75] (fun aF aI wr=>GY D l al o2 aF aI wr) (fun _ aI _=>al.length-(intOf aI).toNat)
  case atStart=>exact⟨0,o,rfl,bO _,aV,g⟩
  clear aV g x1;obtain⟨m,o,rfl,hm,ab,g⟩:=hrel
  by_cases bj:m<al.length
  ·have j0:(0:Int)<=(m:Int):=by omega
   have j1:(m:Int)<(al.length:Int):=by omega
   have wm:Xy.wrap ((m:Int)+1)=(m:Int)+1:=bV _ (by omega)
   obtain⟨x,hx⟩:∃x,al[m]? =X x:=⟨_,bE bj⟩
   obtain⟨k,N,hk,P,bn,bm,bh,hN⟩:=Wn.NH ab hx g.nd;obtain⟨b2,_,rfl,_,hc⟩:=(bR.up g.I5).at_ (by unfold ft;rw[eE fg];omega)
   obtain⟨y0,y1,y2,y3,y4,y5,y6,y7⟩:=FD hc hx;rw[P] at y0;have aS:Hid (∀W,ID D W->Yf Yi 8 #[U A l.length c,Q x.I6] W (RO_ (Z Y (k:Int)) W)):=aJ (fun W B=>(mK A c l x.I6 W (aT.up B)).mono (fun e w' h=>by
    obtain⟨r,rfl,h1,h2⟩:=h;rcases Gp.Nv h1 with⟨_,h3⟩|⟨k',_,rfl,h3⟩
    ·rw[h3] at N;cases N
    rw[h3] at N;rw[bQ N];exact⟨rfl,h2⟩))
   have an:=aJ (fun W (B:ID D W)=>mJ A c l k W (aT.up B) hk (HS.ck.each k hk).JA)
   unfold nQ at an;obtain⟨F,L,rfl,T,_,_⟩:=g.own.shape;have bp:o.length<=4:=bN (jN l.length o g.nd.1 g.nd.2) b6;have aR:Hid (∀W,ID wr W->Yf Yi 9 #[U F o.length L,Z Y (k:Int)] W (RO_ (K O) W)):=aJ (fun W B=>by
    have h:=DI F L o k W (T.rs.up B) (by omega)
    rw[decide_eq_false bn] at h;exact h)
   have bG:Hid (∀W n,ID wr W->n∈Gp.IC l k->Yf Yi 9 #[U F o.length L,Z Y (n:Int)] W (RO_ (K G) W)):=aJ (fun W n B hn=>by
    have h:=DI F L o n W (T.rs.up B) (by omega)
    rw[decide_eq_true (bm n hn)] at h;exact h)
   have bI:Hid (∀v W,IL W D.heap.size 3 1 v (o.length+1) (aW (aH o)++[Z Y (k:Int)])->ID D W->GY D l al o2 v (Z Y ((m:Int)+1)) W):=aJ (fun v W h1 h2=>⟨m+1,o++[k],by go_num,bj,aJ bh,aJ ⟨by rw[bF,nh];exact h1,h2,hN⟩⟩)
   have aq:=aJ g.own
   have ad:=aJ g.I5
   have qk:decide ((k:Int)<0)=O:=by rw[decide_eq_false_iff_not];omega
   generalize x.I6=nm at *;generalize x.n=xn at *;clear hx N P bn bm bh hN hc T g ab;go_upto_region 13 with fail
   generalize C:wr.alloc _=w6;have I:Hid (ID wr w6):=aJ (by rw[<-C];exact(ID.refl wr).alloc _)
   have f:Hid (w6.heap[wr.heap.size]? =X (H (#[Z Y 1,Q nm,Z Y xn,U V 0 0,Z Y 0,Z Y 0,Z Y 0,Z Y 0]:Array Yh) 42 (0,0))):=aJ (by rw[<-C];exact aM _ _)
   clear C y0 y1 y2 y3 y4 y5 y6 y7;obtain⟨ke,af⟩:∃ke,wr.heap.size=ke:=⟨_,rfl⟩
   rw[af] at f ⊢;clear af;have b1:=cr_ f 1 (Q nm);go_wp2_with fail;refine(aS w6 (ad.up I)).mono ?_;rintro e w7 ⟨rfl,az⟩;have ao:=aJ (I.up az);have b0:=cr_ (az.block f) 0 (Z Y 1);clear b1 az I f aS;go_wp2_with fail;refine(aR w7 ao).mono ?_;rintro e w8 ⟨rfl,bd⟩;have ap:=aJ (ao.up bd);clear b0 bd ao aR;go_wp2_with fail;refine(an w8 (ad.up ap)).mono ?_;rintro e w9 ⟨v9,rfl,bo,be⟩;obtain⟨_,_,rfl,bu,_,_⟩:=bo.shape;have bU:=aJ bu.rs;have aX:=aJ (ap.up be);have cf:(Gp.IC l k).length<=4:=by have h1:(Gp.IC l k).length<=(XK l.length).length:=List.length_filter_le _ _;rw[List.length_range] at h1;omega
   clear bo bu be ap an;generalize b7:Gp.IC l k=ns at *;clear b7;go_wp2_with fail;go_loopw [99] (fun aL wz=>∃q:Nat,aL=Z Y (q:Int)/\q<=ns.length/\Hid (ID w9 wz)) (fun aL _=>ns.length-(intOf aL).toNat)
   case atStart=>exact⟨0,rfl,bO _,aJ (ID.refl _)⟩
   obtain⟨q,rfl,hq,HQ⟩:=hrel
   by_cases z:q<ns.length
   ·have k0:(0:Int)<=(q:Int):=by omega
    have k1:(q:Int)<(ns.length:Int):=by omega
    have wq:Xy.wrap ((q:Int)+1)=(q:Int)+1:=bV _ (by omega)
    obtain⟨b3,_,rfl,_,hc⟩:=(bU.up HQ).at_ (by rw[eC,ez];omega)
    have x3:=hc q _ (fR ns q z)
    have bl:ns.getD q 0∈ns:=gm_ z
    have HH:=aJ (fun W (B:ID w9 W)=>bG W (ns.getD q 0) (aX.up B) bl)
    generalize ns.getD q 0=n at *;go_wp2_with fail;refine(HH _ HQ).mono ?_;rintro e _ ⟨rfl,bX⟩;have bP:=aJ (HQ.up bX);go_wp2;go_roundw
    case rel=>exact⟨q+1,by go_num,z,bP⟩
    simp[intOf];omega
   obtain rfl:q=ns.length:=by omega
   have ar:=aJ (aX.up HQ)
   have ai:=aJ (aq.up ar)
   have bz:Hid (D.heap.size<=wr.heap.size):=aJ (ad.up ar).size
   go_wp2_with (at_builtin;refine aw (wr:=wr) rfl _ _ 22 rfl _ 3 (Z Y 0) 1 8 underlying22 iq rfl (by decide) (by decide) _ _ _ rfl ai 1 1 [Z Y (k:Int)] rfl rfl rfl rfl ?pn1 bz ?_)
   case pn1=>omega
   intro v' w3 B hg cd;have HX:=aJ (bI v' w3 B (IL.IU (ad.up ar) ai (bM _) hg));go_wp2;go_roundw
   case rel=>exact HX
   simp[intOf];omega
  obtain rfl:m=al.length:=by omega
  obtain rfl:=Wn.N7 ab;clear ab;go_wp2_with fail;go_roundw
  case rel=>exact⟨i+1,o,by go_num,bk,bv,g⟩
  simp[intOf];omega
 obtain rfl:i=a.length:=by omega
 obtain rfl:=Wn.N8 aj;obtain⟨As,cs,es,hs,b',b8⟩:=a7;have ba:=g.I5;obtain⟨F,L,rfl,_,_,_⟩:=g.own.shape;obtain⟨b,off,rfl,_,hc⟩:=a5.out.rs.at_ (by have:=(XD.mp es).1;omega)
 have a9:=aJ (fun W (B:ID D W)=>B.cell (hc _ _ es))
 have x1:=a9 _ ba
 have bK:=aJ b8
 have bT:=aJ hs.rs
 have aq:=aJ ba
 have bS:=aJ b'
 have ws:Xy.wrap ((xs.length:Int)+1-1)=(xs.length:Int):=by rw[show(xs.length:Int)+1-1=(xs.length:Int) by omega];exact bV _ (by omega)
 have i0:(0:Int)<=(xs.length:Int):=by omega
 have i1:(xs.length:Int)<(xs.length:Int)+1:=by omega
 have i2:¬(a.length:Int)<(xs.length:Int)+1:=by omega
 have bp:=bJ.out
 rw[bp];go_wp2;go_loopw [121] (fun aa wr=>∃q:Nat,aa=Z Y (q:Int)/\q<=l.length/\Hid (ID D wr)) (fun aa _=>l.length-(intOf aa).toNat)
 case atStart=>exact⟨0,rfl,bO _,aq⟩
 obtain⟨q,rfl,hq,HQ⟩:=hrel
 by_cases z:q<l.length
 ·have k0:(0:Int)<=(q:Int):=by omega
  have k1:(q:Int)<(l.length:Int):=by omega
  have wq:Xy.wrap ((q:Int)+1)=(q:Int)+1:=bV _ (by omega)
  obtain⟨y,hy,hp⟩:=bK q z;obtain⟨b3,_,rfl,_,hc⟩:=(bT.up HQ).at_ (by unfold gD;rw[eE mg,bS.out];omega)
  obtain⟨y0,y1,y2,y3⟩:=Er hc hy;rw[hp] at y1;generalize y.name=a1 at *;generalize y.inc=a2 at *;generalize y.JX=a3 at *;go_upto_region 28 with fail
  generalize C:wr.alloc _=w6;have I:Hid (ID D w6):=aJ (by rw[<-C];exact HQ.alloc _)
  have f:Hid (w6.heap[wr.heap.size]? =X (H (#[Q a1,Z Y 4,Z Y a2,Z Y a3]:Array Yh) 48 (0,0))):=aJ (by rw[<-C];exact aM _ _)
  obtain⟨ke,af⟩:∃ke,wr.heap.size=ke:=⟨_,rfl⟩
  rw[af] at f ⊢;have b1:=cr_ f 1 (Z Y 4);go_wp2;go_roundw
  case rel=>exact⟨q+1,by go_num,z,I⟩
  simp[intOf];omega
 obtain rfl:q=l.length:=by omega
 have x1:=a9 _ HQ
 have bx:=aJ (Fu wr)
 go_wp2_with fail;refine(bx).mono ?_;rintro e wz ⟨rfl,bY⟩;have HF:=aJ (bD.up (HQ.up bY));go_wp2;go_ret;exact⟨rfl,HF⟩
end Go.Proofs.YtflccikncbhpdaaGreatDoor
