/- Part 7: walks and plain laws. -/
import Derived.Test.YtflccikncbhpdaaGreatDoorZy4
import Derived.Deep.MidRow
set_option maxHeartbeats 16000000
set_option maxRecDepth 100000
open Go.Lib renaming hid → aJ
open Go renaming cell_of_row → aK, heap_setCell_other → aL, heap_alloc_new → aM, frozen_of_row → aN, heap_setCell_same → aO, bodyPost_ret → aP, lt_of_block → aQ, undef → aR, World → Wt, Value → Wu, Addr → Wv, Calls → Ww, TypeId → Wx, wpList_load_mid → Wy, wpList_store_mid → Wz
open List renaming getD_eq_getElem?_getD → bD, getElem?_eq_getElem → bE, length_append → bF, getElem_mem → bH, getElem?_eq_none → bI, getElem?_append_left → bJ, length_map → bL, range → VQ, mem_append → VR, mem_singleton → VX, length_cons → VY, getElem?_eq_some_iff → VZ, append_assoc → V1, all_eq_true → V2, ext_getElem? → V3, getElem?_set → V4, mem_of_find?_eq_some → V5, getElem?_set_ne → V6, length_nil → V7, range_succ → V8, filter_append → V9, append_nil → V_, map_append → Wb, mem_iff_getElem → We, ext_getElem → Wi, filter_congr → Wj, getElem?_toArray → Wk, length_filter_le → Wm, getElem_of_mem → Wp, getElem?_append → Wq
open Nat renaming le_refl → bM, le_trans → bN, zero_le → bO, zero_add → VW, lt_or_ge → Wc, not_lt_zero → Wg, add_assoc → Wl, sub_self → Wr
open Option.some renaming inj → bQ
open Go.World.ownsRow renaming kept → bT, lt → bU
open Exists renaming intro → bW
open Or renaming inl → bX, inr → bY
variable {i k g oc pb pc a:Nat} {w w0 wr w':Go.World} {oA:Option Go.Addr} {l:List Nat} {mp dv av v v':Go.Value} {α:Type} {xs:List Go.Value} {cur:Array Go.Value} {z:Nat×Nat} {F:Nat→Bool}
open Go.Value renaming int → Z, slice → U, string → Q, pointer → M, bool → K, tuple → VO, agg → VP, oneCell' → VS, slice → VU, ownBlock → VV, int → Wd
open Go.IntKind renaming i64 → Y, u64 → E
open Option renaming none → V, some → X, filter → Wa
open Bool renaming false → O, true → G, true_and → Wf, false_and → Wh, false_eq_true → Wo
open Go.Obj renaming cells → H
open Go.Ending renaming returned → VN
open And renaming intro → VT
open Array renaming getElem?_setIfInBounds_ne → Ws
open Go.Proofs.Tryz renaming prog → WA
open Go.Proofs.Tryz
namespace Go.Proofs.YtflccikncbhpdaaGreatDoor
open Go.RowKit Go.Shelf
set_option linter.unusedVariables false
theorem dY(s:Oc.St):(Oc.Js s).length=s.pl.length:=by simp[Oc.Js]
theorem sJ(s:Oc.St)(i j:Nat)(hj:j<(Gp.IC (Oc.Js s) i).length):(Gp.IC (Oc.Js s) i).getD j 0<s.pl.length:=by
 rw[<-dY];exact Gp.Lv _ _ _ hj
theorem FB{f:Nat->Bool}(hk:k<l.length)(h:f (l.getD k 0)=O):l.all f=O:=by grind
theorem Ds{f:Nat->Bool}(h:∀j,j<l.length->f (l.getD j 0)=G):l.all f=G:=by
 rw[V2];intro x hx;obtain⟨j,hj,rfl⟩:=We.mp hx
 grind
theorem FA{P:Nat->Int}{v:Int}(h:∀j,j<k->P (l.getD j 0)=v)(e:P (l.getD k 0)=v):∀j,j<k+1->P (l.getD j 0)=v:=by grind
theorem pO{B:BP}{m:Nat->Pm}{s:Oc.St}(h:SG w0 w B g pb pc oA oc mp dv av m s)(i:Nat)(A:i<s.pl.length):
  Ww WA 96 #[M (X ⟨g,0,V⟩),Z Y (i:Int)] w fun e w'=>e=VN (K (Oc.Jl s i))/\w'=w:=by
 obtain⟨_,_⟩:=h.cell 0 (v:=U (X ⟨pb,0,V⟩) s.pl.length pc) rfl;obtain⟨_,_⟩:=h.Jt A 15 (v:=Z Y (Oc.p s i).x.ph) (by decide) rfl
 obtain⟨_,_⟩:=h.Jt A 26 (v:=U (m i).nA (m i).nl.length (m i).nc) (by decide) rfl
 obtain⟨a,o⟩:=h.rows.IC i A;have I:(0:Int)<=(i:Int):=by omega
 have J:(i:Int)<(s.pl.length:Int):=by omega
 have L:(s.pl.length:Int)<=32:=by have:=h.JA;omega
 have u:=aJ h
 unfold Oc.Jl
 by_cases t:(Oc.p s i).x.ph=1
 ·have q1:((Oc.p s i).x.ph !=1)=O:=by rw[t];rfl
  rw[show((Oc.p s i).x.ph==1)=G by rw[t];rfl,Wf,<-a]
  have D:(m i).nl.length<=32:=by have:=Gp.K3 (Oc.Js s) i;rw[dY] at this;have:=h.JA;rw[a];omega
  have c:=aJ a
  have d:=aJ o.rs
  clear t a o h;generalize (Oc.p s i).x.ph=ph at *;generalize m i=mi at *;go_enter func96,ntmps96;go_wp2;go_loopw [26] (fun x wr=>∃k:Nat,k<=mi.nl.length/\x=Z Y k/\wr=w/\Hid (∀j,j<k->(Oc.p s (mi.nl.getD j 0)).x.ph=4)) (fun x _=>mi.nl.length-(intOf x).toNat)
  case atStart=>exact⟨0,bO _,rfl,rfl,aJ (fun j hj=>absurd hj (Wg _))⟩
  obtain⟨k,hk,rfl,rfl,y⟩:=hrel
  by_cases l:k<mi.nl.length
  ·obtain⟨b,off,_,_,hc⟩:=d.out.at_ (by rw[eC,ez];omega)
   have n0:=hc k _ (fR mi.nl k l)
   have C:mi.nl.getD k 0<s.pl.length:=by have:=sJ s i k (by rw[<-c.out];exact l);rwa [<-c.out] at this
   obtain⟨_,_⟩:=u.Jt C 15 (v:=Z Y (Oc.p s (mi.nl.getD k 0)).x.ph) (by decide) rfl
   have q:=aJ (fun(e:(Oc.p s (mi.nl.getD k 0)).x.ph≠4)=>FB (f:=fun n=>(Oc.p s n).x.ph==4) l (by simpa using e))
   have z:=aJ (fun(e:(Oc.p s (mi.nl.getD k 0)).x.ph=4)=>FA (P:=fun n=>(Oc.p s n).x.ph) y e)
   clear hc y u c d;generalize (Oc.p s (mi.nl.getD k 0)).x.ph=pk at *;generalize mi.nl.getD k 0=nk at *;have j0:(0:Int)<=(nk:Int):=by omega
   have N:(nk:Int)<(s.pl.length:Int):=by omega
   by_cases r:pk=4
   ·have F:(pk !=4)=O:=by rw[r];rfl
    have z:=aJ (z r)
    clear r q;go_wp2;go_roundw
    case rel=>exact⟨k+1,by omega,by go_num,trivial,z⟩
    simp[intOf];omega
   have F:(pk !=4)=G:=by rw[bne_iff_ne];exact r
   have q:=aJ (q r)
   clear r z;go_wp2;go_ret;exact⟨by rw[q.out];rfl,rfl⟩
  obtain rfl:k=mi.nl.length:=by omega
  have q:=aJ (Ds (f:=fun n=>(Oc.p s n).x.ph==4) (fun j hj=>by simpa using y.out j hj))
  clear y u c d;go_wp2;go_ret;exact⟨by rw[q.out];rfl,rfl⟩
 have q1:((Oc.p s i).x.ph !=1)=G:=by rw[bne_iff_ne];exact t
 rw[show((Oc.p s i).x.ph==1)=O by rw[beq_eq_false_iff_ne];exact t,Wh]
 clear t a o h u;generalize (Oc.p s i).x.ph=ph at *;go_enter func96,ntmps96;go_wp2;go_ret;exact⟨rfl,rfl⟩
namespace Gp
theorem Cw(ns:List (List Nat)):∀(f:Nat) (l:List Nat) (tk:List Bool),(∀x∈l,x<ns.length)->(∀x∈(Lu ns f l tk).1,x<ns.length)/\(Lu ns f l tk).1.length<=l.length+f:=by
 intro f
 induction f<;>grind [Lu,Nn]
theorem Kc(l:List Jd):(∀x∈IP l,x<l.length)/\(IP l).length<=l.length:=by grind [Cw,J9,Kx,IP,ord]
end Gp
def tt(o:Option Nat):Int:=match o with|none=> -1|some i=>(i:Int)
theorem Db{f:Nat->Bool}(h:∀j,j<l.length->f (l.getD j 0)=O):l.find? f=V:=by
 rw[List.find?_eq_none];intro x hx;obtain⟨j,hj,rfl⟩:=We.mp hx
 grind
theorem Aa{f:Nat->Bool}:∀{l:List Nat} {k:Nat},k<l.length->(∀j,j<k->f (l.getD j 0)=O)->f (l.getD k 0)=G->l.find? f=X (l.getD k 0):=by
 intro l
 induction l with
 |nil=>intro k hk;simp at hk
 |cons x l ih=>
  intro k hk h e;cases k with
  |zero=>grind
  |succ k=>
   have a:=h 0 (by omega)
   rw[List.find?_cons_of_neg (by simpa using a)]
   exact ih (by simpa using hk) (fun j hj=>h (j+1) (by omega)) e
theorem GR{f:Nat->Bool}{v:Bool}(h:∀j,j<k->f (l.getD j 0)=v)(e:f (l.getD k 0)=v):∀j,j<k+1->f (l.getD j 0)=v:=by grind
theorem yW{B:BP}{m:Nat->Pm}{s:Oc.St}(h:SG w0 w B g pb pc oA oc mp dv av m s):
  Ww WA 90 #[M (X ⟨g,0,V⟩),.func (.func 96) #[M (X ⟨g,0,V⟩)] #[]] w fun e w'=>e=VN (Z Y (tt ((Oc.IP s).find? (Oc.Jl s))))/\w'=w:=by
 obtain⟨c1,_⟩:=h.cell 1 (v:=U oA (Oc.IP s).length oc) rfl;have r:(Oc.IP s).length<=32:=by have:=(Gp.Kc (Oc.Js s)).2;rw[dY] at this;have:=h.JA;unfold Oc.IP;omega
 have o:=aJ h.rows.ord.rs
 have i:=aJ (fun k (hk:k<(Oc.IP s).length)=>pO h ((Oc.IP s).getD k 0) (by have:=(Gp.Kc (Oc.Js s)).1 _ (bH hk);rw[dY] at this;rwa [bD,bE hk]))
 clear h;generalize Oc.IP s=l at *;go_enter func90,ntmps90;go_wp2;go_loopw [12] (fun x wr=>∃k:Nat,k<=l.length/\x=Z Y k/\wr=w/\Hid (∀j,j<k->Oc.Jl s (l.getD j 0)=O)) (fun x _=>l.length-(intOf x).toNat)
 case atStart=>exact⟨0,bO _,rfl,rfl,aJ (fun j hj=>absurd hj (Wg _))⟩
 obtain⟨k,hk,rfl,rfl,f⟩:=hrel
 by_cases a:k<l.length
 ·obtain⟨b,off,rfl,_,hc⟩:=o.out.at_ (by rw[eC,ez];omega)
  have n0:=hc k _ (fR l k a)
  have c:=aJ (i k a)
  have d:=aJ (fun(e:Oc.Jl s (l.getD k 0)=G)=>Aa a f e)
  have p:=aJ (fun(e:Oc.Jl s (l.getD k 0)=O)=>GR f e)
  clear hc f i o;generalize Oc.Jl s (l.getD k 0)=pk at *;generalize l.getD k 0=nk at *;go_wp2_with fail;refine(c).mono ?_;rintro e w' ⟨rfl,rfl⟩;clear c;cases pk with
  |false=>
   have q:=aJ (p rfl)
   clear d p;go_wp2;go_roundw
   case rel=>exact⟨k+1,by omega,by go_num,trivial,q⟩
   simp[intOf];omega
  |true=>
   have n:=aJ (d rfl)
   clear p d;go_wp2;go_ret;exact⟨by rw[n.out];rfl,rfl⟩
 obtain rfl:k=l.length:=by omega
 have d:=aJ (Db f)
 clear f i o;go_wp2;go_ret;exact⟨by rw[d.out];rfl,rfl⟩
def mx:Array Wu->Nat->List Wu->Array Wu
 |cur,_,[]=>cur
 |cur,i,v::l=>mx (cur.setIfInBounds i v) (i+1) l
theorem lH:∀(l:List Wu) (cur:Array Wu) (i:Nat),(mx cur i l).size=cur.size:=by
 intro l
 induction l<;>grind [mx]
theorem kP:∀(l:List Wu) (cur:Array Wu) (i j:Nat),(j<i\/i+l.length<=j)->(mx cur i l)[j]? =cur[j]?:=by
 intro l
 induction l<;>grind [mx]
theorem pE:∀(l:List Wu) (cur:Array Wu) (i d:Nat),d<l.length->i+l.length<=cur.size->(mx cur i l)[i+d]? =l[d]?:=by
 intro l
 induction l with
 |nil=>simp
 |cons v l ih=>
  intro cur i d h hs;simp at h hs;cases d with
  |zero=>
   rw[mx,kP _ _ _ _ (bX (by omega))]
   simp[show i<cur.size by omega]
  |succ d=>
   rw[mx,show i+(d+1)=i+1+d by omega,ih _ _ _ (by omega) (by simp;omega)]
   simp
theorem mZ{t:Wx}:∀(l:List Wu) (w:Wt) (cur:Array Wu) (i:Nat),w.heap[k]? =X (H cur t (0,0))->(KC w k i l).heap[k]? =X (H (mx cur i l) t (0,0)):=by
 intro l
 induction l with
 |nil=>intro w cur i h;exact h
 |cons v l ih=>intro w cur i h;exact ih _ _ _ (aO w k i _ _ v h)
theorem ID.KC{a b:Wt}(h:ID a b)(hk:a.heap.size<=k):∀(l:List Wu) (i:Nat),ID a (Proofs.YtflccikncbhpdaaGreatDoor.KC b k i l):=by grind [IU,gq]
def BT(m:Nat->Pm)(i:Nat)(x:Pm):Nat->Pm:=fun k=>if k=i then x else m k
theorem cD(m:Nat->Pm)(i:Nat)(x:Pm):BT m i x i=x:=ps_ rfl
theorem bf{m:Nat->Pm}{x:Pm}(h:k≠i):BT m i x k=m k:=ng_ h
def Km(s:Oc.St)(i:Nat)(q:Oc.Pl):Oc.St:={s with pl:=s.pl.set i q}
theorem kO(s:Oc.St)(i:Nat)(q:Oc.Pl):(Km s i q).pl.length=s.pl.length:=by simp[Km]
theorem dq(s:Oc.St)(q:Oc.Pl)(h:i<s.pl.length):Oc.p (Km s i q) i=q:=by simp[Km,Oc.p,h]
theorem eo(s:Oc.St)(q:Oc.Pl)(h:k≠i):Oc.p (Km s i q) k=Oc.p s k:=by grind [Km,Oc.p]
theorem jH(s:Oc.St){q:Oc.Pl}(h:q.j=(Oc.p s i).j):Oc.Js (Km s i q)=Oc.Js s:=by
 unfold Oc.Js Km;simp only;rw[List.map_set,h];apply V3;intro k;rw[V4];split
 ·next e=>
  subst e;split
  ·next hk=>rw[List.getElem?_map];simp[Oc.p,bE (by simpa using hk:i<s.pl.length)]
  grind
 rfl
section
variable {w0 w w' : Wt} {B : BP} {g pb pc : Nat} {oA : Option Wv} {oc : Nat} {mp dv av : Wu} {m : Nat -> Pm} {s : Oc.St}
theorem SG.Km(h:SG w0 w B g pb pc oA oc mp dv av m s)(u:i<s.pl.length)(k0:Nat)(l:List Wu)(W:k0+l.length<=28){q:Oc.Pl}{x:Pm}(hj:q.j=(Oc.p s i).j)
  (I:∀d,d<l.length->(aZ q x)[k0+d]? =l[d]?) (A:∀k,k<28->(k<k0\/k0+l.length<=k)->(aZ q x)[k]? =(aZ (Oc.p s i) (m i))[k]?)
  (S:Ts w 60 x.tA (ef q.x.I0)) (L:x.nl=(m i).nl/\x.nA=(m i).nA) (hd:x.dl=(m i).dl/\x.dA=(m i).dA) (R:IL w w0.heap.size 5 1 (U x.oA q.out.length x.oc) q.out.length (Jp q.out)) (z:∀k,k<s.pl.length->k≠i->∀r,oB x.oA=X r->oB (m k).oA≠X r):
  SG w0 (KC w pb (i*28+k0) l) B g pb pc oA oc mp dv av (BT m i x) (Proofs.YtflccikncbhpdaaGreatDoor.Km s i q):=by
 obtain⟨cur,o,hs,hc⟩:=h.pl;have c:=gq pb l w (i*28+k0);have F:g≠pb:=fun e=>by
  have h1:=h.st
  rw[e,o] at h1;have h2:=bQ h1;injection h2 with e1 n e3
  exact absurd n (by decide)
 have f:=h.rows.I4 o c (bX rfl)
 have P:=h.IV.I4 o c (by decide)
 have y:Oc.IP (Proofs.YtflccikncbhpdaaGreatDoor.Km s i q)=Oc.IP s:=by unfold Oc.IP;rw[jH s hj]
 have b:=kO s i q
 refine⟨h.I5.KC h.pB _ _,h.gB,h.pB,?_,⟨mx cur (i*28+k0) l,mZ l w cur _ o,by rw[lH,b];exact hs,?_⟩,by rw[b];exact h.pc,⟨?_,?_,?_,?_,?_,?_,f.JU,?_⟩,P,⟨h.BB.1,bN h.BB.2 c.size⟩,by rw[b];exact h.JA,?_,fun r D=>⟨(h.Lm r D).1.I4 o c (by decide),(h.Lm r D).2⟩,fun r D=>(h.Mb r D).I4 o c (by decide)⟩
 ·rw[gH F,b,y];exact h.st
 ·intro C t k hk;rw[b] at t
  by_cases e:C=i
  ·subst e;rw[dq s q u,cD]
   by_cases J:k<k0\/k0+l.length<=k
   ·rw[kP _ _ _ _ (by omega),A k hk J]
    exact hc C u k hk
   have n:C*28+k=C*28+k0+(k-k0):=by omega
   rw[n,pE _ _ _ _ (by omega) (by omega),<-I (k-k0) (by omega)]
   congr 1
   omega
  rw[eo s q e,bf e,kP _ _ _ _ (by omega)]
  exact hc C t k hk
 ·rw[y];exact f.ord
 ·intro k hk;rw[b] at hk
  by_cases e:k=i
  ·subst e;rw[dq s q u,hj];exact f.jm k u
  rw[eo s q e];exact f.jm k hk
 ·intro k hk;rw[b] at hk
  by_cases e:k=i
  ·subst e;rw[dq s q u,cD];exact S.I4 o c (by decide)
  rw[eo s q e,bf e];exact f.I0 k hk
 ·intro k hk;rw[b] at hk;rw[jH s hj]
  by_cases e:k=i
  ·subst e;rw[cD,L.1,L.2];exact f.IC k u
  rw[bf e];exact f.IC k hk
 ·intro k hk;rw[b] at hk
  by_cases e:k=i
  ·subst e;rw[cD,hd.1,hd.2];exact f.J8 k u
  rw[bf e];exact f.J8 k hk
 ·intro k hk;rw[b] at hk
  by_cases e:k=i
  ·subst e;rw[dq s q u,cD];exact R.I4 o c (by decide)
  rw[eo s q e,bf e];exact f.Ku k hk
 ·intro a k ha hk hne r h1;rw[b] at ha hk
  by_cases e:a=i
  ·subst e;rw[cD] at h1;rw[bf (fun n=>hne n.symm)]
   exact z k hk (fun n=>hne n.symm) r h1
  rw[bf e] at h1
  by_cases n:k=i
  ·subst n;rw[cD];intro N;exact z a ha e r N h1
  rw[bf n];exact f.ap a k ha hk hne r h1
 rw[jH s hj];obtain⟨T,k2,hm,t⟩:=h.map;exact⟨T,k2,hm,t.I4 o c⟩
theorem eH{e:Wx}{sz:Nat}{n:Nat}(h:IL w a e sz v n xs):v.ownBlock=V\/∃q cur,v.ownBlock=X q/\a<=q/\w.heap[q]? =X (H cur e (0,0)):=by
 rcases h with⟨_,⟨rfl,_⟩|⟨q,cap,cur,rfl,c,b,_⟩⟩
 ·exact bX rfl
 exact bY ⟨q,cur,by simp[VV],c,b⟩
theorem ew(a:w.grownBy w' V):ID w w':=IU (ID.refl w) a (fun q e=>by cases e)
theorem SG.gk(h:SG w0 w B g pb pc oA oc mp dv av m s):pb≠g:=fun e=>by
 obtain⟨cur,a,_⟩:=h.pl;have h1:=h.st;rw[<-e,a] at h1;have h2:=bQ h1;injection h2 with e1 e2 e3
 exact absurd e2 (by decide)
theorem SG.act(h:SG w0 w B g pb pc oA oc mp dv av m s){a:Oc.Ac}(z:IL w' B.n 42 8 v' (s.IV.length+1) (ft s.IV++cJ a))(c:w.grownBy w' av.ownBlock):
  w'.cell? ⟨g,10,V⟩=X av/\w'.frozen? ⟨g,10,V⟩=O/\SG w0 (w'.setCell ⟨g,10,V⟩ v') B g pb pc oA oc mp dv v' m {s with IV:=s.IV++[a]}:=by
 have t:w'.heap[g]? =w.heap[g]?:=c.block g (aQ h.st) (db h.IV h.st (by decide))
 obtain⟨cur,k,hs,hc⟩:=h.pl;have l:w'.heap[pb]? =w.heap[pb]?:=c.block pb (aQ k) (db h.IV k (by decide))
 have b:=t.trans h.st
 have y:OO w0 w' oA dv m s:=by
  rcases eH h.IV with e|⟨q,f,e,_,j⟩
  ·rw[e] at c;exact h.rows.up (ew c)
  rw[e] at c;exact h.rows.I4 j c (bY (bY rfl))
 have x:ID w0 w':=IU h.I5 c (fun q e=>bN h.BB.1 (bU h.IV q e).1)
 have d:=ay w' g 10 v'
 refine⟨(aK w' g 10 _ _ _ b).trans rfl,aN w' g 10 _ _ b,⟨x.setCell (p:=⟨g,10,V⟩) h.gB _,h.gB,h.pB,?_,⟨cur,((aL w' ⟨g,10,V⟩ pb _ h.gk).trans l).trans k,hs,hc⟩,h.pc,?_,?_,⟨h.BB.1,bN (bN h.BB.2 c.size) d.size⟩,h.JA,?_,?_,?_⟩⟩
 ·rw[aO w' g 10 _ _ _ b];rfl
 ·have:=y.I4 b d (bY (bX rfl))
  exact⟨this.ord,this.jm,this.I0,this.IC,this.J8,this.Ku,this.JU,this.ap⟩
 ·show IL _ _ _ _ _ (s.IV++[a]).length (ft (s.IV++[a]))
  rw[show(s.IV++[a]).length=s.IV.length+1 by simp,show ft (s.IV++[a])=ft s.IV++cJ a by simp[ft]]
  exact z.I4 b d (by decide)
 ·obtain⟨C,k2,hm,i⟩:=h.map;refine⟨C,k2,hm,KG.I4 ?_ b d⟩;rcases eH h.IV with e|⟨q,f,e,_,j⟩
  ·rw[e] at c;exact i.up (ew c)
  rw[e] at c;exact i.I4 j c
 ·intro r o;obtain⟨h1,h2⟩:=h.Lm r o;refine⟨Ts.I4 (h1.other c (fun q off fz e=>?_)) b d (by decide),h2⟩
  rcases eH h.IV with u|⟨D,f,u,A,_⟩
  ·rw[u];simp
  grind
 intro r o;have h1:=h.Mb r o;refine Ts.I4 ?_ b d (by decide)
 rcases eH h.IV with e|⟨q,f,e,_,j⟩
 ·rw[e] at c;exact h1.up (ew c)
 rw[e] at c;exact h1.I4 j c (by decide)
end
theorem Gv(w:Wt):Ww WA 41 #[] w (DB w Lf.new):=by
 have a:Hid (∀(q:Lf.T) A' c' w',Lf.new=q->Ts w' 60 A' (ef q.I0)->ID w w'->DB w Lf.new (VN (gQ q A' c')) w'):=aJ (fun q A' c' w' h1 h2 b=>by subst h1;exact⟨A',c',rfl,h2,b⟩)
 go_enter func41,ntmps41
 go_wp2
 refine aP (by first|(simp[results,results41,go_sem,gQ];done)|(simp[results,results41,go_sem,gQ];rfl)) rfl (a ⟨1,0,0,0,[],0,O,0,O,O⟩ V 0 _ rfl (bX rfl) ?_)
 repeat with_reducible first|exact ID.refl _|assumption|refine ID.setCell ?_ (by first|omega|(simp<;>omega)) _|refine ID.drewN ?_ _|refine ID.alloc ?_ _|refine ID.drew ?_
theorem CM(x:Lf.T)(A:Option Wv)(c:Nat)(w:Wt)(C:Ts w 60 A (ef x.I0))(J:x.I0.length<=68719476000):
  Ww WA 97 #[gQ x A c] w (Ha w (Lf.spawn x).1 (Lf.spawn x).2):=by
 have g:Hid (∀(q:Lf.T×Bool) A' c' w',Lf.spawn x=q->Ts w' 60 A' (ef q.1.I0)->ID w w'->Ha w (Lf.spawn x).1 (Lf.spawn x).2 (VN (VO #[gQ q.1 A' c',.bool q.2])) w'):=aJ (fun q A' c' w' h1 h2 I=>by subst h1;exact⟨A',c',rfl,h2,I⟩)
 have b:=aJ (fun W (h:ID w W)=>zt x A c W (C.up h) J)
 clear C;unfold DB gQ at b;unfold gQ;go_enter func97,ntmps97;go_upto_region 1 with fail
 go_cut [] (fun wx=>∃(A':Option Wv) (c':Nat),P1 w wx x A' c')
 case first=>
  go_wp2_with fail;refine(b _ (((ID.refl w).alloc _).alloc _)).mono ?_;rintro e w2 ⟨A2,c2,rfl,D,hd⟩;obtain⟨b2,b3,B⟩:=jW hd;obtain⟨⟨_,c1,_,_,c4,_,_,_,_,_⟩,_,f1,f2,_,_,_,_,_,_,_⟩:=gF b2;have F:Hid (P1 w (mj w2 w.heap.size (Z Y x.ph) (Z Y x.inc) (Z Y x.JX) (Z E x.Jy) (U A2 x.I0.length c2) (Z E x.due) (.bool x.JV) (Z Y x.Kn) (.bool x.halt) (.bool x.again)) x A2 c2):=
   aJ ⟨lL b2,(gV (by omega)).trans b3,lM B (by omega),(m8 (D.N0 b2 (by decide) b3 (by decide)) (by simp)).ts⟩
  clear D hd b2 b3 b;go_wp2;go_meet
  case rel=>exact⟨A2,c2,F⟩
 obtain⟨A',c',t⟩:=hcut;have a:=aJ t;clear t;obtain⟨ph,inc,JX,Jy,I0,due,JV,Kn,halt,again⟩:=x;have b2:wc.heap[w.heap.size]? =X (H #[Z Y ph,Z Y inc,Z Y JX,Z E Jy,U A' I0.length c',Z E due,.bool JV,Z Y Kn,.bool halt,.bool again] 118 (0,0)):=a.bl;have b3:wc.heap[w.heap.size+1]? =X (H #[Z Y 0,Z Y 0,Z Y 0,Z E 0,U V 0 0,Z E 0,.bool O,Z Y 0,.bool O,.bool O] 118 (0,0)):=a.br;have u:Ts wc 60 A' (ef I0):=a.ts;have B:ID w wc:=a.I5;obtain⟨⟨_,c1,c2,_,c4,_,_,_,_,_⟩,_,f1,f2,_,_,_,_,_,_,_⟩:=gF b2;have y:=aJ b2;have f:=aJ b3;have d:=aJ u;clear b2 b3 u a
 by_cases h1:ph=1
 ·subst h1;have z:=aJ (d.N0 y (by decide) f (by decide))
  obtain⟨⟨i,j,k,l,m,n,o,p,r,s⟩,_,_,_,_,_,_,_,_,_,_⟩:=gF f;clear d y f;go_wp2;refine aP (by first|(simp[results,results97,go_sem,gQ,i,j,k,l,m,n,o,p,r,s];done)|(simp[results,results97,go_sem,gQ,i,j,k,l,m,n,o,p,r,s];first|rfl|exact⟨rfl,rfl⟩)) rfl (g (⟨2,wrap64 (inc+1),JX,Jy,I0,due,JV,Kn,halt,again⟩,G) A' c' _ rfl ?_ ?_)
  ·refine Tn.ts (K:=[w.heap.size,w.heap.size+1]) ?_
   repeat with_reducible refine Tn.set ?_ (by simp) _
   exact z
  repeat with_reducible first|exact ID.refl _|assumption|refine ID.setCell ?_ (by first|omega|(simp<;>omega)) _|refine ID.drewN ?_ _|refine ID.alloc ?_ _|refine ID.drew ?_
 have n1:(ph==1)=O:=by simpa using h1
 have z:=aJ (d.N0 y (by decide) f (by decide))
 obtain⟨⟨i,j,k,l,m,n,o,p,r,s⟩,_,_,_,_,_,_,_,_,_,_⟩:=gF f;clear d y f;go_wp2;refine aP (by first|(simp[results,results97,go_sem,gQ,i,j,k,l,m,n,o,p,r,s];done)|(simp[results,results97,go_sem,gQ,i,j,k,l,m,n,o,p,r,s];first|rfl|exact⟨rfl,rfl⟩)) rfl (g (⟨ph,inc,JX,Jy,I0,due,JV,Kn,halt,again⟩,O) A' c' _ (by unfold Lf.spawn;rw[ng_ h1]) ?_ ?_)
 ·refine Tn.ts (K:=[w.heap.size,w.heap.size+1]) ?_
  repeat with_reducible refine Tn.set ?_ (by simp) _
  exact z
 repeat with_reducible first|exact ID.refl _|assumption|refine ID.setCell ?_ (by first|omega|(simp<;>omega)) _|refine ID.drewN ?_ _|refine ID.alloc ?_ _|refine ID.drew ?_
theorem xe:(WA.info? 42).map (fun i=>(i.zero,i.size,i.bytes))=X (X (VP #[Z Y 0,Q ⟨#[]⟩,Z Y 0,U V 0 0,Z Y 0,Z Y 0,Z Y 0,Z Y 0]),8,88):=by kernel_rfl
def tJ(w0 w:Wt)(B:BP)(g pb pc:Nat)(oA:Option Wv)(oc:Nat)(mp dv av:Wu)(m:Nat->Pm)(s:Oc.St)(e:Ending)(w':Wt):Prop:=
 match (Oc.IP s).find? (Oc.Jl s) with
 |none=>e=VN (K O)/\w'=w
 |some i=>e=VN (K G)/\∃b a,SG w0 w' B g pb pc oA oc mp dv a b (Oc.Jf s i)
theorem yU{B:BP}{m:Nat->Pm}{s:Oc.St}(h:SG w0 w B g pb pc oA oc mp dv av m s)(ht:∀i,i<s.pl.length->(Oc.p s i).x.I0.length<=68719476000)(ha:s.IV.length<=1000000):
  Ww WA 45 #[M (X ⟨g,0,V⟩)] w (tJ w0 w B g pb pc oA oc mp dv av m s):=by
 have t:=aJ (yW h)
 obtain⟨c0,_⟩:=h.cell 0 (v:=U (X ⟨pb,0,V⟩) s.pl.length pc) rfl;obtain⟨c5,_⟩:=h.cell 5 (v:=K O) rfl;obtain⟨c7,_⟩:=h.cell 7 (v:=K O) rfl;unfold tJ;cases N:(Oc.IP s).find? (Oc.Jl s) with
 |none=>
  rw[N] at t;clear h ht ha N;unfold tt at t;simp only at t;go_enter func45,ntmps45;go_wp2_with fail;refine(t).mono ?_;rintro e w' ⟨rfl,rfl⟩;clear t;go_wp2;go_ret;exact⟨rfl,rfl⟩
 |some i=>
  rw[N] at t;unfold tt at t;simp only at t;have T:i<s.pl.length:=by
   have:=(Gp.Kc (Oc.Js s)).1 i (V5 N)
   rwa [dY] at this
  have i0:(0:Int)<=(i:Int):=by omega
  have i1:(i:Int)<(s.pl.length:Int):=by omega
  obtain⟨z,ac,rfl,_,_⟩:=h.IV.shape;have o:=aJ h;have HL:=aJ (fun W (hW:SG w0 W B g pb pc oA oc mp dv (U z s.IV.length ac) m s)=>CM (Oc.p s i).x (m i).tA (m i).tc W (hW.rows.I0 i T) (ht i T))
  have b:=aJ T
  have aa:=aJ ha
  clear h ht N ha T;go_enter func45,ntmps45;go_wp2_with fail;refine(t).mono ?_;rintro e w' ⟨rfl,rfl⟩;clear t;go_upto_region 7 with fail
  obtain⟨I,_⟩:=o.Jt b 15 (v:=Z Y (Oc.p s i).x.ph) (by decide) rfl
  obtain⟨l1,_⟩:=o.Jt b 16 (v:=Z Y (Oc.p s i).x.inc) (by decide) rfl
  obtain⟨l2,_⟩:=o.Jt b 17 (v:=Z Y (Oc.p s i).x.JX) (by decide) rfl
  obtain⟨l3,_⟩:=o.Jt b 18 (v:=Z E (Oc.p s i).x.Jy) (by decide) rfl
  obtain⟨l4,_⟩:=o.Jt b 19 (v:=U (m i).tA (Oc.p s i).x.I0.length (m i).tc) (by decide) rfl
  obtain⟨l5,_⟩:=o.Jt b 20 (v:=Z E (Oc.p s i).x.due) (by decide) rfl
  obtain⟨l6,_⟩:=o.Jt b 21 (v:=K (Oc.p s i).x.JV) (by decide) rfl
  obtain⟨l7,_⟩:=o.Jt b 22 (v:=Z Y (Oc.p s i).x.Kn) (by decide) rfl
  obtain⟨l8,_⟩:=o.Jt b 23 (v:=K (Oc.p s i).x.halt) (by decide) rfl
  obtain⟨l9,_⟩:=o.Jt b 24 (v:=K (Oc.p s i).x.again) (by decide) rfl
  have HC:=aJ (HL w' o)
  clear HL;unfold gQ at HC;go_wp2_with fail;refine(HC).mono ?_;rintro e w2 ⟨A2,c2,rfl,R,hd⟩;have c:=aJ (o.up hd);have y:=aJ R;clear hd R o HC c0 c5 c7 I l1 l2 l3 l4 l5 l6 l7 l8 l9;unfold gQ;obtain⟨f,F⟩:∃f,(Lf.spawn (Oc.p s i).x).1=f:=⟨_,rfl⟩
  have L:=aJ F
  rw[F] at y ⊢;clear F;obtain⟨I,z0⟩:=c.Jt b 15 (v:=Z Y (Oc.p s i).x.ph) (by decide) rfl
  obtain⟨l1,z1⟩:=c.Jt b 16 (v:=Z Y (Oc.p s i).x.inc) (by decide) rfl
  obtain⟨l2,z2⟩:=c.Jt b 17 (v:=Z Y (Oc.p s i).x.JX) (by decide) rfl
  obtain⟨l3,z3⟩:=c.Jt b 18 (v:=Z E (Oc.p s i).x.Jy) (by decide) rfl
  obtain⟨l4,z4⟩:=c.Jt b 19 (v:=U (m i).tA (Oc.p s i).x.I0.length (m i).tc) (by decide) rfl
  obtain⟨l5,z5⟩:=c.Jt b 20 (v:=Z E (Oc.p s i).x.due) (by decide) rfl
  obtain⟨l6,z6⟩:=c.Jt b 21 (v:=K (Oc.p s i).x.JV) (by decide) rfl
  obtain⟨l7,z7⟩:=c.Jt b 22 (v:=Z Y (Oc.p s i).x.Kn) (by decide) rfl
  obtain⟨l8,z8⟩:=c.Jt b 23 (v:=K (Oc.p s i).x.halt) (by decide) rfl
  obtain⟨l9,z9⟩:=c.Jt b 24 (v:=K (Oc.p s i).x.again) (by decide) rfl
  obtain⟨ae,S⟩:=c.Jt b 25 (v:=U (m i).oA (Oc.p s i).out.length (m i).oc) (by decide) rfl
  go_upto_region 9 with fail
  obtain⟨u,D⟩:∃u,((((((((((w2.setCell ⟨pb,i*28+15,V⟩ (Z Y f.ph)).setCell ⟨pb,i*28+16,V⟩ (Z Y f.inc)).setCell ⟨pb,i*28+17,V⟩ (Z Y f.JX)).setCell ⟨pb,i*28+18,V⟩ (Z E f.Jy)).setCell ⟨pb,i*28+19,V⟩ (U A2 f.I0.length c2)).setCell ⟨pb,i*28+20,V⟩ (Z E f.due)).setCell ⟨pb,i*28+21,V⟩ (K f.JV)).setCell ⟨pb,i*28+22,V⟩ (Z Y f.Kn)).setCell ⟨pb,i*28+23,V⟩ (K f.halt)).setCell ⟨pb,i*28+24,V⟩ (K f.again)).setCell ⟨pb,i*28+25,V⟩ (U V 0 0)=u:=⟨_,rfl⟩
  rw[D];have l:Hid (SG w0 u B g pb pc oA oc mp dv (U z s.IV.length ac) (BT m i {m i with tA:=A2,tc:=c2,oA:=V,oc:=0}) (Km s i ⟨(Oc.p s i).j,f,[]⟩)):=aJ (by
   rw[<-D];have:=c.out.Km b 15 (cC f A2 c2++[U V 0 0]) (by simp[cC]) (q:=⟨(Oc.p s i).j,f,[]⟩) (x:={m i with tA:=A2,tc:=c2,oA:=V,oc:=0}) rfl
    (fun d hd=>by
     have hd:d<11:=hd
     rcases d with _|_|_|_|_|_|_|_|_|_|_|d<;>first|rfl|omega)
    (fun k hk hk2=>by
     have hk2:k<15\/26<=k:=hk2
     rcases hk2 with h|h
     ·unfold aZ;rw[bJ (by exact h),bJ (by exact h)]
     obtain rfl|rfl:k=26\/k=27:=by omega
     ·rfl
     rfl)
    y ⟨rfl,rfl⟩ ⟨rfl,rfl⟩ (IL.Jk _ _ _ _) (fun k _ _ r h=>by cases h)
   exact this)
  clear D c y I l1 l2 l3 l4 l5 l6 l7 l8 l9 ae z0 z1 z2 z3 z4 z5 z6 z7 z8 z9 S;have C:i<(Km s i ⟨(Oc.p s i).j,f,[]⟩).pl.length:=by rw[kO];exact b
  obtain⟨_,S⟩:=l.cell 10 (v:=U z s.IV.length ac) rfl;obtain⟨I,_⟩:=l.Jt C 0 (v:=Q (Oc.p s i).j.nm) (by decide) (by rw[dq s _ b.out];rfl)
  replace I:u.cell? ⟨pb,i*28,V⟩=X (Q (Oc.p s i).j.nm):=I
  obtain⟨_,_⟩:=l.Jt C 16 (v:=Z Y f.inc) (by decide) (by rw[dq s _ b.out];rfl)
  have ab:Hid (∀(W:Wt) (v':Wu) (w':Wt),ID u W->IL w' B.n 42 8 v' (s.IV.length+1) (ft s.IV++[Z Y 1,Q (Oc.p s i).j.nm,Z Y f.inc,U V 0 0,Z Y 0,Z Y 0,Z Y 0,Z Y 0])->W.grownBy w' (VU z s.IV.length ac).ownBlock->
    ∃A' c',v'=U A' (s.IV.length+1) c'/\w'.cell? ⟨g,10,V⟩=X (U z s.IV.length ac)/\w'.frozen? ⟨g,10,V⟩=O/\Hid (∃m' A,SG w0 (w'.setCell ⟨g,10,V⟩ (U A' (s.IV.length+1) c')) B g pb pc oA oc mp dv A m' (Oc.Jf s i))):=aJ (fun W v' w' h1 h2 h3=>by
   obtain⟨A',c',rfl,_,_⟩:=h2.shape;obtain⟨e1,e2,e3⟩:=(l.up h1).act (a:=⟨1,(Oc.p s i).j.nm,f.inc⟩) h2 h3;have e5:Oc.Jf s i={Km s i ⟨(Oc.p s i).j,f,[]⟩ with IV:=s.IV++[⟨1,(Oc.p s i).j.nm,f.inc⟩]}:=by unfold Oc.Jf;rw[L.out];rfl
   have e6:∃m' A,SG w0 (w'.setCell ⟨g,10,V⟩ (U A' (s.IV.length+1) c')) B g pb pc oA oc mp dv A m' (Oc.Jf s i):=by rw[e5];exact⟨_,_,e3⟩
   exact⟨A',c',rfl,e1,e2,aJ e6⟩)
  have J:Hid (∀W,ID u W->IL W B.n 42 8 (U z s.IV.length ac) s.IV.length (ft s.IV)/\B.n<=W.heap.size):=aJ (fun W P=>⟨(l.up P).IV,(l.up P).BB.2⟩)
  have gl:g<u.heap.size:=aQ l.st
  clear l C L b;generalize (Oc.p s i).j.nm=nm at *;go_region_law ((refine ea _ (by rfl) _ _ 39 (by rfl) B.n 42 (VP #[Z Y 0,Q ⟨#[]⟩,Z Y 0,U V 0 0,Z Y 0,Z Y 0,Z Y 0,Z Y 0]) 8 88 underlying39 xe rfl (by decide) (by decide) (U z s.IV.length ac) s.IV.length (ft s.IV) (by rfl) (J _ aS).1 u.heap.size 0 1 1 [Z Y 1,Q nm,Z Y f.inc,U V 0 0,Z Y 0,Z Y 0,Z Y 0,Z Y 0] (by rfl) (by first|exact dQ _ _ _|exact(dQ _ _ _).drew) rfl rfl (by have:=aa.out;omega) (J _ aS).2 ?_;intro v' w' P hg ad;obtain⟨A',c',rfl,e3,_,HX⟩:=ab _ _ _ aS P hg;clear P hg ad))
  all_goals (go_wp2;go_ret;exact⟨rfl,HX⟩)
theorem tu{P:α->Bool}:∀{l:List α} {i:Nat} {v:α} (h:i<l.length),P l[i]=G->P v=O->((l.set i v).filter P).length+1=(l.filter P).length:=by
 intro l
 induction l with
 |nil=>intro i v h;simp at h
 |cons x l ih=>
  intro i v h h1 h2;cases i with
  |zero=>simp at h1;simp[h1,h2]
  |succ i=>grind
def G6(s:Oc.St):Prop:=∀i,i<s.pl.length->(Oc.p s i).x.I0.length<=68719476000
theorem nD{s:Oc.St}(h:(Oc.IP s).find? (Oc.Jl s)=X i):i<s.pl.length/\(Oc.p s i).x.ph=1:=by
 have h1:=(Gp.Kc (Oc.Js s)).1 i (V5 h)
 rw[dY] at h1;have h2:=List.find?_some h;unfold Oc.Jl at h2
 grind
theorem ky{s:Oc.St}(h:(Oc.IP s).find? (Oc.Jl s)=X i):Oc.KD (Oc.Jf s i)+1=Oc.KD s:=by grind [nD,Oc.p,Oc.KD,Oc.Jf,tu,Lf.spawn]
theorem pp{s:Oc.St}(h:(Oc.IP s).find? (Oc.Jl s)=V):Oc.calm s=s:=by
 unfold Oc.calm;cases Oc.KD s with
 |zero=>rfl
 |succ k=>rw[Oc.settle,h]
theorem po{s:Oc.St}(h:(Oc.IP s).find? (Oc.Jl s)=X i):Oc.calm s=Oc.calm (Oc.Jf s i):=by grind [ky,Oc.calm,Oc.settle]
theorem wK{s:Oc.St}(b:G6 s)(i:Nat):G6 (Oc.Jf s i):=by
 intro k hk;have a:k<s.pl.length:=by simpa [Oc.Jf] using hk
 by_cases e:k=i
 ·subst e;rw[show Oc.p (Oc.Jf s k) k=⟨(Oc.p s k).j,(Lf.spawn (Oc.p s k).x).1,[]⟩ by simp[Oc.Jf,Oc.p,a]]
  have:=b k a
  unfold Lf.spawn;simp only;split
  ·exact this
  exact this
 rw[show Oc.p (Oc.Jf s i) k=Oc.p s k by
  simp only[Oc.Jf,Oc.p,bD];rw[V6 (by omega)]]
 exact b k a
def rG(w:Wt)(pb n:Nat):Nat:=((VQ n).filter (fun i=>match w.cell? ⟨pb,i*28+15,V⟩ with|some v=>decide (intOf v=1)|none=>O)).length
theorem SG.KD{B:BP}{m:Nat->Pm}{s:Oc.St}(h:SG w0 w B g pb pc oA oc mp dv av m s):rG w pb s.pl.length=Oc.KD s:=by
 have e:s.pl=(VQ s.pl.length).map (Oc.p s):=by
  apply Wi
  ·simp
  intro i h1 h2;simp[Oc.p,bD,bE h1]
 have a:Oc.KD s=((VQ s.pl.length).filter ((fun q:Oc.Pl=>q.x.ph==1)∘Oc.p s)).length:=by
  unfold Oc.KD
  conv=>lhs;rw[e]
  rw[List.filter_map,bL]
 rw[a];unfold rG
 congr 1
 apply Wj;intro i b;rw[(h.Jt (List.mem_range.mp b) 15 (v:=Z Y (Oc.p s i).x.ph) (by decide) rfl).1]
 show decide ((Oc.p s i).x.ph=1)=((Oc.p s i).x.ph==1)
 grind
theorem sK(g:Nat)(w:Wt)(h:w.cell? ⟨g,7,V⟩=X (K O)):Ww WA 43 #[M (X ⟨g,0,V⟩)] w fun e w'=>e=VN (K O)/\w'=w:=by
 go_enter func43,ntmps43
 go_wp2
 go_ret;exact⟨rfl,rfl⟩
theorem CA(g:Nat)(w:Wt)(h:w.cell? ⟨g,5,V⟩=X (K O)):Ww WA 44 #[M (X ⟨g,0,V⟩)] w fun e w'=>e=VN (K O)/\w'=w:=by
 go_enter func44,ntmps44
 go_wp2
 go_ret;exact⟨rfl,rfl⟩
theorem wH(g:Nat)(w:Wt)(h:w.cell? ⟨g,5,V⟩=X (K O)):Ww WA 46 #[M (X ⟨g,0,V⟩)] w fun e w'=>e=VN (K O)/\w'=w:=by
 go_enter func46,ntmps46
 go_wp2
 go_ret;exact⟨rfl,rfl⟩
def Bb(w0:Wt)(B:BP)(g pb pc:Nat)(oA:Option Wv)(oc:Nat)(mp dv:Wu)(n:Nat)(R:Oc.St)(W:Wt):Prop:=
 ∃m av s,SG w0 W B g pb pc oA oc mp dv av m s/\Oc.calm s=R/\G6 s/\s.IV.length+Oc.KD s<=1000000/\s.pl.length=n
theorem oL{B:BP}{m:Nat->Pm}{s:Oc.St}(h:SG w0 w B g pb pc oA oc mp dv av m s)(l:G6 s)(ha:s.IV.length+Oc.KD s<=1000000):
  Ww WA 19 #[M (X ⟨g,0,V⟩)] w fun e w'=>e=VN (VO #[])/\∃f b,SG w0 w' B g pb pc oA oc mp dv b f (Oc.calm s):=by
 have t:Hid (Bb w0 B g pb pc oA oc mp dv s.pl.length (Oc.calm s) w):=aJ ⟨m,av,s,h,rfl,l,ha,rfl⟩
 clear h l ha;generalize Oc.calm s=R at *;generalize s.pl.length=n at *;go_enter func19,ntmps19;go_wp2;go_loopw [] (fun wr=>Bb w0 B g pb pc oA oc mp dv n R wr) (fun wr=>rG wr pb n)
 case atStart=>exact t
 obtain⟨m,av,s,h,q,l,ha,r⟩:=hrel;clear t;have d:=aJ (sK g wr (h.cell 7 rfl).1);have c:=aJ (CA g wr (h.cell 5 rfl).1);have a:=aJ (yU h l (by omega))
 unfold tJ at a;cases j:(Oc.IP s).find? (Oc.Jl s) with
 |none=>
  rw[j] at a;simp only at a;have o:=aJ (wH g wr (h.cell 5 rfl).1);have p:Hid (∃f b,SG w0 wr B g pb pc oA oc mp dv b f R):=aJ (by rw[<-q,pp j];exact⟨_,_,h⟩)
  clear h q l ha r j;go_wp2_with fail;refine(d).mono ?_;rintro e w' ⟨rfl,rfl⟩;go_wp2_with fail;refine(c).mono ?_;rintro e w' ⟨rfl,rfl⟩;go_wp2_with fail;refine(a).mono ?_;rintro e w' ⟨rfl,rfl⟩;go_wp2_with fail;refine(o).mono ?_;rintro e w' ⟨rfl,rfl⟩;clear d c a o;go_wp2;go_end0;exact⟨rfl,p⟩
 |some i=>
  rw[j] at a;simp only at a;have p:Hid (∀W f b,SG w0 W B g pb pc oA oc mp dv b f (Oc.Jf s i)->Bb w0 B g pb pc oA oc mp dv n R W/\rG W pb n<rG wr pb n):=aJ (fun W f b h2=>by
   have k:(Oc.Jf s i).pl.length=n:=by rw[<-r];simp[Oc.Jf]
   have e:=ky j
   refine⟨⟨f,b,_,h2,by rw[<-po j];exact q,wK l i,?_,k⟩,?_⟩
   ·have:(Oc.Jf s i).IV.length=s.IV.length+1:=by simp[Oc.Jf]
    omega
   rw[<-k,h2.KD,k,<-r,h.KD];omega)
  clear h q l ha r j;go_wp2_with fail;refine(d).mono ?_;rintro e w' ⟨rfl,rfl⟩;go_wp2_with fail;refine(c).mono ?_;rintro e w' ⟨rfl,rfl⟩;go_wp2_with fail;refine(a).mono ?_;rintro e w' ⟨rfl,f,b,h2⟩;have u:=aJ (p _ _ _ h2);clear d c a p h2;go_wp2;go_roundw
  case rel=>exact u.1
  exact u.2
section
variable {w0 w w' : Wt} {B : BP} {g pb pc : Nat} {oA : Option Wv} {oc : Nat} {mp dv av : Wu} {m : Nat -> Pm} {s : Oc.St}
theorem yV(g:Nat)(i:Int)(w:Wt):Ww WA 106 #[M (X ⟨g,0,V⟩),Z Y i,Z Y 0] w fun e w'=>e=VN (VO #[])/\w'=w:=by
 go_enter func106,ntmps106
 go_wp2
 go_end0
 exact⟨rfl,rfl⟩
theorem wF(h:SG w0 w B g pb pc oA oc mp dv av m s):Ww WA 101 #[M (X ⟨g,0,V⟩)] w fun e w'=>e=VN (Z E (Oc.LL s))/\w'=w:=by
 obtain⟨A,c,rfl,a,_,_⟩:=h.rows.JU.shape;obtain⟨c4,_⟩:=h.cell 4 (v:=U A s.JU.length c) rfl;unfold Oc.LL;cases hd:s.JU with
 |nil=>
  rw[hd] at c4;clear h a;simp only[V7] at c4;go_enter func101,ntmps101;go_wp2;go_ret;exact⟨rfl,rfl⟩
 |cons d l=>
  rw[hd] at c4 a;obtain⟨b,off,rfl,_,hc⟩:=a.rs.at_ (by simp[ef])
  have f:=hc 0 (Z E d) rfl
  replace f:w.cell? ⟨b,off,V⟩=X (Z E d):=f
  have q1:(((l.length:Int)+1)==0)=O:=by rw[beq_eq_false_iff_ne];omega
  have i:(0:Int)<(l.length:Int)+1:=by omega
  clear hc a h;rw[List.headD_cons];rw[VY] at c4;go_enter func101,ntmps101;go_wp2;go_ret;exact⟨rfl,rfl⟩
theorem SG.OG(h:SG w0 w B g pb pc oA oc mp dv av m s){A:Option Wv}{c:Nat}(o:av=U A s.IV.length c):SG w0 (w.setCell ⟨g,10,V⟩ (U V 0 0)) ⟨w.heap.size,B.pa++[(A,ft s.IV)],B.ps⟩ g pb pc oA oc mp dv (U V 0 0) m {s with IV:=[]}:=by
 obtain⟨cur,t,hs,hc⟩:=h.pl;have b:=ay w g 10 (U V 0 0);refine⟨h.I5.setCell (p:=⟨g,10,V⟩) h.gB _,h.gB,h.pB,?_,⟨cur,(aL w ⟨g,10,V⟩ pb _ h.gk).trans t,hs,hc⟩,h.pc,?_,IL.Jk _ _ _ _,⟨h.I5.size,b.size⟩,h.JA,?_,?_,fun r j=>(h.Mb r j).I4 h.st b (by decide)⟩
 ·rw[aO w g 10 _ _ _ h.st];rfl
 ·have:=h.rows.I4 h.st b (bY (bX rfl))
  exact⟨this.ord,this.jm,this.I0,this.IC,this.J8,this.Ku,this.JU,this.ap⟩
 ·obtain⟨u,k2,hm,i⟩:=h.map;exact⟨u,k2,hm,i.I4 h.st b⟩
 intro r j;rcases VR.mp j with h1|h1
 ·obtain⟨h2,n⟩:=h.Lm r h1;exact⟨h2.I4 h.st b (by decide),fun q off fz e=>Nat.lt_of_lt_of_le (n q off fz e) h.BB.2⟩
 obtain rfl:r=(A,ft s.IV):=by simpa using h1
 obtain⟨A2,c2,f,k,_,_⟩:=h.IV.shape;have a:=h.IV;rw[o] at a f;simp only[Value.slice.injEq] at f;obtain⟨rfl,_,_⟩:=f;refine⟨k.I4 h.st b (by decide),fun q off fz e=>?_⟩
 simp only at e
 subst e;rcases eH a with d|⟨x,l,d,_,y⟩
 ·simp[VV] at d
 have:=(bU a x d).2
 simp[VV] at d
 show q<w.heap.size
 omega
theorem SG.Pp(h:SG w0 w B g pb pc oA oc mp dv av m s){A:Option Wv}(a:Ts w 48 A xs):SG w0 w ⟨B.n,B.pa,B.ps++[(A,xs)]⟩ g pb pc oA oc mp dv av m s:=
 ⟨h.I5,h.gB,h.pB,h.st,h.pl,h.pc,h.rows,h.IV,h.BB,h.JA,h.map,h.Lm,fun r b=>by
  rcases VR.mp b with h1|h1
  ·exact h.Mb r h1
  obtain rfl:r=(A,xs):=by simpa using h1
  exact a⟩
theorem rj(h:SG w0 w B g pb pc oA oc mp dv av m s):Ww WA 20 #[M (X ⟨g,0,V⟩)] w fun e w'=>e=VN av/\w'=w.setCell ⟨g,10,V⟩ (U V 0 0):=by
 obtain⟨A,c,rfl,_,_⟩:=h.IV.shape;obtain⟨_,_⟩:=h.cell 10 (v:=U A s.IV.length c) rfl;clear h;go_enter func20,ntmps20;go_wp2;go_ret;exact⟨rfl,rfl⟩
end
namespace Oc
structure OS(j:Jd):Prop where
 NU:j.IQ=true->∃n,LB j.ready n
 nm:j.nm.size<=1000000
structure Ns(K:Nat)(q:Pl):Prop where
 j:OS q.j
 ph:q.x.ph=1\/q.x.ph=2\/q.x.ph=3\/q.x.ph=4
 halt:q.x.halt=false
 t:q.x.I0=[]
 o:(∀b∈q.out,b<256)/\q.out.length<=K
structure I(K:Nat)(s:St):Prop where
 pl:∀i,i<s.pl.length->Ns K (p s i)
 dr:s.JU=[]
theorem Ns.mono{K:Nat}{q:Pl}(h:Ns K q)(hk:K<=a):Ns a q:=⟨h.j,h.ph,h.halt,h.t,h.o.1,bN h.o.2 hk⟩
theorem I.mono{K:Nat}{s:St}(h:I K s)(hk:K<=a):I a s:=⟨fun i b=>(h.pl i b).mono hk,h.dr⟩
theorem OK{s:St}{q:Pl}{f:St->St}(a:(f s).pl=s.pl.set i q)(b:i<s.pl.length):p (f s) k=if k=i then q else p s k:=by
 unfold p;rw[a,bD,bD]
 by_cases e:k=i
 ·subst e;simp[b]
 rw[ng_ e,V6 (by omega)]
theorem I.set{K:Nat}{s s':St}{q:Pl}(h:I K s)(b:s'.pl=s.pl.set i q)(c:Ns K q)(hd:s'.JU=s.JU):I K s':=by
 refine⟨fun k hk=>?_,hd.trans h.dr⟩
 have a:k<s.pl.length:=by rw[b] at hk;simpa using hk
 unfold p;rw[b,bD]
 by_cases e:k=i
 ·subst e;simp[a,c]
 rw[V6 (by omega),<-bD]
 exact h.pl k a
theorem rh{K:Nat}{q:Pl}(h:Ns K q):Ns K ⟨q.j,(Lf.spawn q.x).1,[]⟩:=by
 refine⟨h.j,?_,?_,?_,fun b a=>by simp at a,bO _⟩<;>unfold Lf.spawn<;>split
 ·exact bY (bX rfl)
 ·exact h.ph
 ·exact h.halt
 ·exact h.halt
 ·exact h.t
 exact h.t
theorem I.Jf{K:Nat}{s:St}(h:I K s)(a:i<s.pl.length):I K (Jf s i):=h.set (i:=i) rfl (rh (h.pl i a)) rfl
theorem I.settle{K:Nat}:∀(f:Nat) {s:St},I K s->I K (settle f s):=by
 intro f
 induction f with
 |zero=>intro s h;exact h
 |succ f ih=>
  intro s h;unfold Oc.settle;split
  ·exact h
  next i hf=>
  refine ih (h.Jf ?_);have h1:=(Gp.Kc (Js s)).1 i (V5 hf);simpa [Js] using h1
theorem I.calm{K:Nat}{s:St}(h:I K s):I K (calm s):=h.settle _
end Oc
theorem eO:∀(l:List Wu) (w:Wt) (k i:Nat),w.setCells k i l=KC w k i l:=by
 intro l
 induction l with
 |nil=>intro w k i;rfl
 |cons v l ih=>intro w k i;exact ih _ _ _
theorem Ci(l:List Wu)(cur:Array Wu)(hs:cur.size=l.length):mx cur 0 l=l.toArray:=by
 apply Array.ext_getElem?;intro j
 by_cases hj:j<l.length
 ·have:=pE l cur 0 j hj (by omega)
  rw[VW] at this;rw[this];simp
 rw[Array.getElem?_eq_none (by rw[lH];omega),Array.getElem?_eq_none (by simp;omega)]
theorem Dl{t:Wx}{l:List Wu}(h:w.heap[k]? =X (H cur t (0,0)))(hs:cur.size=l.length):(w.setCells k 0 l).heap[k]? =X (H l.toArray t (0,0)):=by
 rw[eO,mZ l w cur 0 h,Ci l cur hs]
theorem vK{t:Wx}{n:Nat}(a:n<=cur.size):(w.alloc (H cur t)).there w.heap.size 0 n:=fun j hj=>by
 have h:=aM w (H cur t)
 rw[VW];exact⟨by rw[aK _ _ j _ _ _ h,Array.getElem?_eq_getElem (by omega)];rfl,aN _ _ j _ _ h⟩
section
variable {P : Program} {w : Wt} {ops : Array Oper} {rest : List Oper} {o : Oper} {a : Act} {Q : Exit -> Act -> Wt -> Prop}
theorem eU(c:o.guard=V)(b:Wx)(x y:Operand)(f:o.op= .store b x y)(cur:Array Wu)(g:w=wr.alloc (H cur b))(cells:List Wu)(hx:a.eval x=M (X ⟨wr.heap.size,0,V⟩))(hy:a.eval y=VP cells.toArray)
  (e:(P.info? b).map (·.size)=X cells.length) (hs:cur.size=cells.length) (h1:cells.toArray.all (·.oneCell')=G)
  (h:∀d,ID wr d->d.heap[wr.heap.size]? =X (H cells.toArray b (0,0))->wpList P ops Q rest (a.put o.dst aR) d):wpList P ops Q (o::rest) a w:=by
 subst g;refine Wz c b x y f wr.heap.size 0 cells.toArray hx hy (vK (by simp;omega)) (by simpa using e) h1 ?_
 refine h _ ?_ (Dl (aM wr _) hs)
 show ID wr ((wr.alloc (H cur b)).setCells wr.heap.size 0 cells)
 rw[eO];exact((ID.refl wr).alloc _).KC (bM _) _ _
end
section
variable {w0 w w' : Wt} {B : BP} {g pb pc : Nat} {oA : Option Wv} {oc : Nat} {mp dv av : Wu} {m : Nat -> Pm} {s : Oc.St}
theorem SG.range(h:SG w0 w B g pb pc oA oc mp dv av m s)(a:i<s.pl.length):w.rangeAt pb (i*28) (aZ (Oc.p s i) (m i)):=fun j v hv=>by
 have hj:j<28:=by have:=(VZ.mp hv).1;rw[jj] at this;exact this
 exact(h.Jt a j hj hv).1
theorem pT:(WA.info? 121).map (·.size)=X 28:=by kernel_rfl
theorem yN(q:Oc.Pl)(m:Pm):(aZ q m).toArray.all (·.oneCell')=G:=by
 simp[aZ,ag,cC,VS]
theorem qf{q:Oc.Pl}{m:Pm}(h:w.heap[k]? =X (H (aZ q m).toArray 121 z)){d:Nat}(hv:(aZ q m)[d]? =X v):w.cell? ⟨k,d,V⟩=X v:=
 (aK w k d _ _ _ h).trans (by rw[Wk];exact hv)
end
theorem yL(R:Int)(t:List Nat):decide (0<=(kQ R [t]).2)=decide (0<=R):=by
 unfold kQ;split
 ·next h=>subst h;rfl
 split
 ·simp;omega
 simp
theorem Dj{A:Option Wv}{n c:Nat}{t:List Nat}(a:t.length=n)(b:Rs w A (Jp t))(k:Nat)(hk:w.cell? ⟨k,0,V⟩=X (U A n c)):PO w (X ⟨k,0,V⟩) [t] (fun _=>A) (fun _=>c):=by
 subst a;refine⟨bY ⟨k,0,rfl,fun j u hj=>?_⟩,fun j hj=>?_⟩
 ·cases j with
  |zero=>simp at hj;subst hj;exact hk
  |succ j=>simp at hj
 have:j=0:=by simpa using hj
 subst this;exact b
theorem rm(j:Jd)(A:Option Wv)(c:Nat)(out:List Nat)(w:Wt)(hj:Oc.OS j)(B:Rs w A (Jp out))(y:∀x∈out,x<256)(z:out.length<1000000000):
  Ww WA 100 #[dm j,U A out.length c] w (RO_ (K (Oc.Jr j out)) w):=by
 have q:=aJ (fun W k (t:ID w W) (hk:W.cell? ⟨k,0,V⟩=X (U A out.length c)) n (m:LB j.ready n)=>EQ j.ready (X ⟨k,0,V⟩) 1 [out] (fun _=>A) (fun _=>c) W (Dj rfl (B.up t) k hk) (by simpa using y) (by simpa using z) (by simp) m.par m.Qp m.val m.OV m.JA)
 have s:=aJ hj.NU
 clear hj B y z;cases p:j.IQ with
 |false=>
  have i:Hid (Oc.Jr j out=G):=aJ (by unfold Oc.Jr;rw[p];rfl)
  rw[i.out];have a:=aJ ((ID.refl w).alloc (H (ag j).toArray 63));clear q s i;unfold ag at a;rw[p] at a;unfold dm;go_enter func100,ntmps100;go_wp2;go_ret;exact⟨rfl,a⟩
 |true=>
  obtain⟨n,g⟩:=s p;have o:=g.pr;have i:Hid (Oc.Jr j out=decide (0<=(kQ (df (aY n) [out].flatten) [out]).2)):=aJ (by unfold Oc.Jr;rw[p,o,yL];simp)
  rw[i.out];have d:=aJ (fun W k t hk=>q W k t hk n g)
  clear q s i o g;unfold dm;unfold nP at d;generalize kQ (df (aY n) [out].flatten) [out]=r at *;go_enter func100,ntmps100;go_upto_region 3 with fail
  generalize h:w.alloc _=w1;have f:Hid (ID w w1):=aJ (by rw[<-h];exact(ID.refl w).alloc _)
  have b:Hid (w1.heap[w.heap.size]? =X (H #[Q j.nm,Q j.run,U j.eA j.IJ.length j.ec,U j.nA j.IC.length j.nc,K G,Q j.ready,Z Y j.IE,Z E j.base,Z E j.cap,Z E j.IG,Z Y j.II,Z E j.win,U j.lA j.IK.length j.lc,Z Y j.IM,Z Y j.Jb] 63 (0,0))):=aJ (by rw[<-h];exact aM _ _)
  clear h;obtain⟨kb,l⟩:∃kb,w.heap.size=kb:=⟨_,rfl⟩
  rw[l] at b ⊢;clear l;have C:=cr_ b 5 (Q j.ready);have u:=aJ (d (w1.alloc (H #[U A out.length c] 40)) w1.heap.size (f.alloc _) (gz w1 [U A out.length c] 40 0 _ rfl));clear d b;go_wp2_with fail;refine(u).mono ?_;rintro e w2 ⟨rfl,hd⟩;have a:Hid (ID w w2):=aJ ((f.alloc _).up hd);clear hd u f;go_wp2;go_ret;exact⟨rfl,a⟩
structure Ky(j:Jd)(t:List Nat):Prop where
 bytes:∀b∈t,b<256
 MZ:j.IQ=false->t=[]
 hit:j.IQ=true->0<=df (aY (cO (bs j.ready)).1) t
 Od:j.IQ=true->∀t',LV (aY (cO (bs j.ready)).1) t'->t.length<=t'.length
def me(j:Jd):Prop:=j.IQ=G->∃n,LB j.ready n/\cO (bs j.ready)=(n,0)
theorem xT(j:Jd)(w:Wt)(P:me j):
  Ww WA 17 #[dm j] w fun e w'=>∃A c t,e=VN (U A t.length c)/\Ts w' 5 A (Jp t)/\Ky j t/\ID w w':=by
 cases q:j.IQ with
 |false=>
  have F:Hid (Ky j []):=aJ ⟨fun b hb=>by simp at hb,fun _=>rfl,fun e=>(by rw[q] at e;cases e),fun e=>(by rw[q] at e;cases e)⟩
  have i:=aJ ((ID.refl w).alloc (H (ag j).toArray 63))
  unfold ag at i;rw[q] at i;clear P;unfold dm;go_enter func17,ntmps17;go_wp2;go_ret;exact⟨V,0,[],rfl,bX rfl,F,i⟩
 |true=>
  obtain⟨l,R,y⟩:=P q;obtain⟨x,hv,z,_,hs,N⟩:=R;obtain⟨_,k,J,I,L⟩:=jk hv;have HP:=aJ (fun W=>pM (6*(bs j.ready).length+6) j.ready (l,0) W x N rfl)
  have HC:=aJ (fun W A c (S:Rs W A (cR l))=>sQ A c l W S (by unfold maxLen;omega) z)
  have HV:=aJ hv
  have HS:=aJ (fun W A c (S:Rs W A (cR (aY l)))=>ro A c (aY l) W S (by unfold maxLen;omega))
  have h:=aJ k
  have n:=aJ hs
  have p:Hid (∀t,rY (aY l) (X t)->Ky j t):=aJ (fun t f=>by
   have e:(cO (bs j.ready)).1=l:=by rw[y]
   refine⟨f.1.bytes,fun e2=>(by rw[q] at e2;cases e2),fun _=>?_,fun _=>by rw[e];exact f.2⟩
   rw[e,yl k f]
   omega)
  clear P hv z hs k J I L y;unfold dm;go_enter func17,ntmps17;go_upto_region 3 with fail
  generalize m:w.alloc _=w1;have o:Hid (ID w w1):=aJ (by rw[<-m];exact(ID.refl w).alloc _)
  have g:Hid (w1.heap[w.heap.size]? =X (H #[Q j.nm,Q j.run,U j.eA j.IJ.length j.ec,U j.nA j.IC.length j.nc,K G,Q j.ready,Z Y j.IE,Z E j.base,Z E j.cap,Z E j.IG,Z Y j.II,Z E j.win,U j.lA j.IK.length j.lc,Z Y j.IM,Z Y j.Jb] 63 (0,0))):=aJ (by rw[<-m];exact aM _ _)
  clear m;obtain⟨kb,s⟩:∃kb,w.heap.size=kb:=⟨_,rfl⟩
  rw[s] at g ⊢;clear s;have b5:=cr_ g 5 (Q j.ready);clear g;go_wp2_with fail;refine(HP w1).mono ?_;rintro e w2 ⟨v,rfl,u,hd⟩;obtain⟨A,c,rfl,f,_,_⟩:=u.shape;have HT:=aJ f.rs;have HD:=aJ (o.up hd);clear u f hd HP o;simp only at HT;go_wp2_with fail;refine(HC w2 A c HT).mono ?_;rintro e w3 ⟨hx,_,hd⟩;obtain⟨v,rfl,u⟩:=hx HV;obtain⟨A2,c2,rfl,f,_,_⟩:=u.shape;have D:=aJ f.rs;have C:=aJ (HD.up hd);clear u f hd hx HC;go_wp2_with fail;refine(HS w3 A2 c2 D).mono ?_;rintro e w4 ⟨v,r,rfl,hown,hm,_,hd⟩;obtain⟨t,rfl⟩:∃t,r=X t:=by
   cases r with
   |some a=>exact⟨a,rfl⟩
   |none=>
    obtain⟨t,f⟩:=n;exact absurd f (hm h t)
  have d:IL w4 w3.heap.size 5 1 v t.length (Jp t):=hown
  obtain⟨T,c3,rfl,B,_,_⟩:=d.shape;have F:Hid (Ts w4 5 T (Jp t)/\Ky j t/\ID w w4):=aJ ⟨B,p t (hm h),C.up hd⟩;clear hd hm hown d B HS p n h;go_wp2;go_ret;exact⟨T,c3,t,rfl,F⟩
theorem eE{n:Nat}{f:α->List Wu}(a:∀x,(f x).length=n)(l:List α):(l.flatMap f).length=l.length*n:=by
 induction l<;>grind
theorem kX{n:Nat}{f:α->List Wu}(b:∀x,(f x).length=n):∀{l:List α} {i d:Nat} {x:α},l[i]? =X x->d<n->(l.flatMap f)[i*n+d]? =(f x)[d]?:=by
 intro l
 induction l with
 |nil=>intro i d x h;simp at h
 |cons a l ih=>
  intro i d x h hd;cases i with
  |zero=>
   simp at h
   subst h;rw[List.flatMap_cons,Nat.zero_mul,VW,bJ (by rw[b];exact hd)]
  |succ i=>grind
structure E3 where
 e:Oc.Ev
 A:Option Wv
 c:Nat
def cM(x:E3):List Wu:=[Z Y x.e.IF,Q x.e.I6,K x.e.ok,Z Y x.e.code,U x.A x.e.data.length x.c,Z E x.e.at_,Z Y 0,Z Y 0]
def DO(x:E3):Wu:=VP #[Z Y x.e.IF,Q x.e.I6,K x.e.ok,Z Y x.e.code,U x.A x.e.data.length x.c,Z E x.e.at_,Z Y 0,Z Y 0]
theorem jA(x:E3):(cM x).length=8:=rfl
def pY(l:List E3):List Wu:=l.flatMap cM
theorem kW:(WA.info? 65).map (·.size)=X 8:=by kernel_rfl
structure OT(w:Wt)(A:Option Wv)(l:List E3):Prop where
 MV:Rs w A (pY l)
 rows:∀x∈l,Rs w x.A (Jp x.e.data)
theorem OT.up{A:Option Wv}{l:List E3}(h:OT w A l)(a:ID w w'):OT w' A l:=⟨h.MV.up a,fun x hx=>(h.rows x hx).up a⟩
theorem OT.cell{A:Option Wv}{l:List E3}(h:OT w A l){x:E3}(hx:l[i]? =X x):∃b off,A=X ⟨b,off,V⟩/\∀d v,d<8->(cM x)[d]? =X v->w.cell? ⟨b,off+(i*8+d),V⟩=X v:=by
 have c:i<l.length:=(VZ.mp hx).1
 obtain⟨b,off,a,_,hc⟩:=h.MV.at_ (by unfold pY;rw[eE jA];omega)
 exact⟨b,off,a,fun d v hd hv=>hc _ _ (by unfold pY;rw[kX jA hx hd];exact hv)⟩
theorem pi(l:List E3)(x:E3):pY l++cM x=pY (l++[x]):=by simp[pY]
theorem wS(x:Lf.T)(A:Option Wv)(c:Nat)(w:Wt)(C:Ts w 60 A (ef x.I0))(J:x.I0.length<=68719476000):
  Ww WA 176 #[gQ x A c] w (DB w (Lf.matched x)):=by
 have g:Hid (∀(q:Lf.T) A' c' w',Lf.matched x=q->Ts w' 60 A' (ef q.I0)->ID w w'->DB w (Lf.matched x) (VN (gQ q A' c')) w'):=aJ (fun q A' c' w' h1 h2 I=>by subst h1;exact⟨A',c',rfl,h2,I⟩)
 have b:=aJ (fun W (h:ID w W)=>zt x A c W (C.up h) J)
 clear C;unfold DB gQ at b;unfold gQ;go_enter func176,ntmps176;go_upto_region 1 with fail
 go_cut [] (fun wx=>∃(A':Option Wv) (c':Nat),P1 w wx x A' c')
 case first=>
  go_wp2_with fail;refine(b _ (((ID.refl w).alloc _).alloc _)).mono ?_;rintro e w2 ⟨A2,c2,rfl,D,hd⟩;obtain⟨b2,b3,B⟩:=jW hd;obtain⟨⟨_,c1,_,_,c4,_,_,_,_,_⟩,_,f1,f2,_,_,_,_,_,_,_⟩:=gF b2;have F:Hid (P1 w (mj w2 w.heap.size (Z Y x.ph) (Z Y x.inc) (Z Y x.JX) (Z E x.Jy) (U A2 x.I0.length c2) (Z E x.due) (.bool x.JV) (Z Y x.Kn) (.bool x.halt) (.bool x.again)) x A2 c2):=
   aJ ⟨lL b2,(gV (by omega)).trans b3,lM B (by omega),(m8 (D.N0 b2 (by decide) b3 (by decide)) (by simp)).ts⟩
  clear D hd b2 b3 b;go_wp2;go_meet
  case rel=>exact⟨A2,c2,F⟩
 obtain⟨A',c',t⟩:=hcut;have a:=aJ t;clear t;obtain⟨ph,inc,JX,Jy,I0,due,JV,Kn,halt,again⟩:=x;have b2:wc.heap[w.heap.size]? =X (H #[Z Y ph,Z Y inc,Z Y JX,Z E Jy,U A' I0.length c',Z E due,.bool JV,Z Y Kn,.bool halt,.bool again] 118 (0,0)):=a.bl;have b3:wc.heap[w.heap.size+1]? =X (H #[Z Y 0,Z Y 0,Z Y 0,Z E 0,U V 0 0,Z E 0,.bool O,Z Y 0,.bool O,.bool O] 118 (0,0)):=a.br;have u:Ts wc 60 A' (ef I0):=a.ts;have B:ID w wc:=a.I5;obtain⟨⟨_,c1,c2,_,c4,_,_,_,_,_⟩,_,f1,f2,_,_,_,_,_,_,_⟩:=gF b2;have y:=aJ b2;have f:=aJ b3;have d:=aJ u;clear b2 b3 u a
 by_cases h1:ph=3
 ·subst h1;have z:=aJ (d.N0 y (by decide) f (by decide))
  obtain⟨⟨i,j,k,l,m,n,o,p,r,s⟩,_,_,_,_,_,_,_,_,_,_⟩:=gF f;clear d y f;go_wp2;refine aP (by first|(simp[results,results176,go_sem,gQ,i,j,k,l,m,n,o,p,r,s];done)|(simp[results,results176,go_sem,gQ,i,j,k,l,m,n,o,p,r,s];first|rfl|exact⟨rfl,rfl⟩)) rfl (g ⟨4,inc,JX,Jy,I0,due,JV,Kn,halt,again⟩ A' c' _ rfl ?_ ?_)
  ·refine Tn.ts (K:=[w.heap.size,w.heap.size+1]) ?_
   repeat with_reducible refine Tn.set ?_ (by simp) _
   exact z
  repeat with_reducible first|exact ID.refl _|assumption|refine ID.setCell ?_ (by first|omega|(simp<;>omega)) _|refine ID.drewN ?_ _|refine ID.alloc ?_ _|refine ID.drew ?_
 have n1:(ph==3)=O:=by simpa using h1
 have z:=aJ (d.N0 y (by decide) f (by decide))
 obtain⟨⟨i,j,k,l,m,n,o,p,r,s⟩,_,_,_,_,_,_,_,_,_,_⟩:=gF f;clear d y f;go_wp2;refine aP (by first|(simp[results,results176,go_sem,gQ,i,j,k,l,m,n,o,p,r,s];done)|(simp[results,results176,go_sem,gQ,i,j,k,l,m,n,o,p,r,s];first|rfl|exact⟨rfl,rfl⟩)) rfl (g ⟨ph,inc,JX,Jy,I0,due,JV,Kn,halt,again⟩ A' c' _ (by unfold Lf.matched;rw[ng_ h1]) ?_ ?_)
 ·refine Tn.ts (K:=[w.heap.size,w.heap.size+1]) ?_
  repeat with_reducible refine Tn.set ?_ (by simp) _
  exact z
 repeat with_reducible first|exact ID.refl _|assumption|refine ID.setCell ?_ (by first|omega|(simp<;>omega)) _|refine ID.drewN ?_ _|refine ID.alloc ?_ _|refine ID.drew ?_
theorem Hv(j:Jd)(x:Lf.T)(A:Option Wv)(c:Nat)(ready:Bool)(now F:Int)(w:Wt)(z:x.halt=O)(L:Ts w 60 A (ef x.I0))(hl:x.I0.length<=68719476000):
  Ww WA 99 #[dm j,gQ x A c,.bool G,.bool ready,Z E now,Z E F] w (Bp w (Lf.up x ready now) 0 O):=by
 have u:Hid (∀(q:Lf.T) A' c' w',Lf.up x ready now=q->Ts w' 60 A' (ef q.I0)->ID w w'->Bp w (Lf.up x ready now) 0 O (VN (VO #[gQ q A' c',Z Y 0,.bool O])) w'):=aJ (fun q A' c' w' h1 h2 h3=>by subst h1;exact⟨A',c',rfl,h2,h3⟩)
 have I:=aJ z
 clear z;have hj:True:=trivial;have d:=aJ (fun W (h:ID w W)=>zt x A c W (L.up h) hl)
 clear L;clear hj;unfold DB gQ at d;unfold gQ dm;go_enter func99,ntmps99;go_upto_region 1 with fail
 go_cut [] (fun wx=>∃(A':Option Wv) (c':Nat),Qt w wx j x A' c')
 case first=>
  go_wp2_with fail;refine(d _ ((((ID.refl w).alloc _).alloc _).alloc _)).mono ?_;rintro e w2 ⟨A2,c2,rfl,N,hd⟩;obtain⟨b1,b2,b3,J⟩:=Eq hd;obtain⟨⟨_,c1,_,_,c4,_,_,_,_,_⟩,_,f1,f2,_,_,_,_,_,_,_⟩:=gF b2;have HX:Hid (Qt w (mj w2 (w.heap.size+1) (Z Y x.ph) (Z Y x.inc) (Z Y x.JX) (Z E x.Jy) (U A2 x.I0.length c2) (Z E x.due) (.bool x.JV) (Z Y x.Kn) (.bool x.halt) (.bool x.again)) j x A2 c2):=
   aJ ⟨(gV (by omega)).trans b1,lL b2,(gV (by omega)).trans b3,lM J (by omega),(m8 (N.N0 b2 (by decide) b3 (by decide)) (by simp)).ts⟩
  clear N hd b1 b2 b3 d;go_wp2;go_meet
  case rel=>exact⟨A2,c2,HX⟩
 obtain⟨A',c',B⟩:=hcut;have a:=aJ B;clear B;obtain⟨nm,run,eA,IJ,ec,nA,IC,nc,IQ,D,IE,base,cap,IG,II,win,lA,IK,lc,IM,Jb⟩:=j;obtain⟨ph,inc,JX,Jy,I0,due,JV,Kn,halt,again⟩:=x;have b1:wc.heap[w.heap.size]? =X (H #[Q nm,Q run,U eA IJ.length ec,U nA IC.length nc,.bool IQ,Q D,Z Y IE,Z E base,Z E cap,Z E IG,Z Y II,Z E win,U lA IK.length lc,Z Y IM,Z Y Jb] 63 (0,0)):=a.bj;have b2:wc.heap[w.heap.size+1]? =X (H #[Z Y ph,Z Y inc,Z Y JX,Z E Jy,U A' I0.length c',Z E due,.bool JV,Z Y Kn,.bool halt,.bool again] 118 (0,0)):=a.bl;have b3:wc.heap[w.heap.size+1+1]? =X (H #[Z Y 0,Z Y 0,Z Y 0,Z E 0,U V 0 0,Z E 0,.bool O,Z Y 0,.bool O,.bool O] 118 (0,0)):=a.br;have C:Ts wc 60 A' (ef I0):=a.ts;have J:ID w wc:=a.I5;obtain⟨⟨_,_,_,_,_,_,_,_,_,_,_,_,_,_,_⟩,_⟩:=cQ b1;obtain⟨⟨_,c1,c2,_,c4,_,_,_,_,_⟩,_,f1,f2,_,_,_,_,_,_,_⟩:=gF b2;have t:=aJ b2;have f:=aJ b3;have b:=aJ C;clear b1 b2 b3 C a;have z:=I.out;simp only at z;subst z;clear I
 by_cases h2:ph=2
 ·subst h2;cases ready with
  |true=>
   have P:=aO wc (w.heap.size+1) 3 _ _ (Z E now) t
   have R:=aO _ (w.heap.size+1) 0 _ _ (Z Y 3) P
   have S:=aO _ (w.heap.size+1) 0 _ _ (Z Y 4) R
   have z0:=cr_ S 0 (Z Y 4)
   clear P R S;have y:=aJ (b.N0 t (by decide) f (by decide))
   obtain⟨⟨g,i,k,l,m,n,o,p,r,s⟩,_,_,_,_,_,_,_,_,_,_⟩:=gF f;clear b t f;go_wp2;refine aP (by first|(simp[results,results99,go_sem,gQ,g,i,k,l,m,n,o,p,r,s];done)|(simp[results,results99,go_sem,gQ,g,i,k,l,m,n,o,p,r,s];first|rfl|exact⟨rfl,rfl⟩)) rfl (u ⟨4,inc,JX,now,I0,due,JV,Kn,O,again⟩ A' c' _ rfl ?_ ?_)
   ·refine Tn.ts (K:=[w.heap.size+1,w.heap.size+1+1]) ?_
    repeat with_reducible refine Tn.set ?_ (by simp) _
    exact y
   repeat with_reducible first|exact ID.refl _|assumption|refine ID.setCell ?_ (by first|omega|(simp<;>omega)) _|refine ID.drewN ?_ _|refine ID.alloc ?_ _|refine ID.drew ?_
  |false=>
   have y:=aJ (b.N0 t (by decide) f (by decide))
   obtain⟨⟨g,i,k,l,m,n,o,p,r,s⟩,_,_,_,_,_,_,_,_,_,_⟩:=gF f;clear b t f;go_wp2;refine aP (by first|(simp[results,results99,go_sem,gQ,g,i,k,l,m,n,o,p,r,s];done)|(simp[results,results99,go_sem,gQ,g,i,k,l,m,n,o,p,r,s];first|rfl|exact⟨rfl,rfl⟩)) rfl (u ⟨3,inc,JX,now,I0,due,JV,Kn,O,again⟩ A' c' _ rfl ?_ ?_)
   ·refine Tn.ts (K:=[w.heap.size+1,w.heap.size+1+1]) ?_
    repeat with_reducible refine Tn.set ?_ (by simp) _
    exact y
   repeat with_reducible first|exact ID.refl _|assumption|refine ID.setCell ?_ (by first|omega|(simp<;>omega)) _|refine ID.drewN ?_ _|refine ID.alloc ?_ _|refine ID.drew ?_
 have n2:(ph==2)=O:=by simpa using h2
 have y:=aJ (b.N0 t (by decide) f (by decide))
 obtain⟨⟨g,i,k,l,m,n,o,p,r,s⟩,_,_,_,_,_,_,_,_,_,_⟩:=gF f;clear b t f;go_wp2;refine aP (by first|(simp[results,results99,go_sem,gQ,g,i,k,l,m,n,o,p,r,s];done)|(simp[results,results99,go_sem,gQ,g,i,k,l,m,n,o,p,r,s];first|rfl|exact⟨rfl,rfl⟩)) rfl (u ⟨ph,inc,JX,Jy,I0,due,JV,Kn,O,again⟩ A' c' _ (by unfold Lf.up;rw[ng_ h2]) ?_ ?_)
 ·refine Tn.ts (K:=[w.heap.size+1,w.heap.size+1+1]) ?_
  repeat with_reducible refine Tn.set ?_ (by simp) _
  exact y
 repeat with_reducible first|exact ID.refl _|assumption|refine ID.setCell ?_ (by first|omega|(simp<;>omega)) _|refine ID.drewN ?_ _|refine ID.alloc ?_ _|refine ID.drew ?_
def Io(w0:Wt)(B:BP)(g pb pc:Nat)(oA:Option Wv)(oc:Nat)(mp:Wu)(s:Oc.St)(e:Ending)(w':Wt):Prop:=
 e=VN (VO #[])/\∃b a c,SG w0 w' B g pb pc oA oc mp b a c s
section
variable {w0 w w' : Wt} {B : BP} {g pb pc : Nat} {oA : Option Wv} {oc : Nat} {mp dv av : Wu} {m : Nat -> Pm} {s : Oc.St}
theorem SG.LF(h:SG w0 w B g pb pc oA oc mp dv av m s)(a:i<s.pl.length){x:Lf.T}{A:Option Wv}{c:Nat}(b:Ts w 60 A (ef x.I0)):
  SG w0 (w.setCells pb (i*28+15) (cC x A c)) B g pb pc oA oc mp dv av (BT m i {m i with tA:=A,tc:=c}) (Oc.LF s i x):=by
 rw[eO];exact h.Km a 15 (cC x A c) (by simp[cC]) (q:={Oc.p s i with x:=x}) (x:={m i with tA:=A,tc:=c}) rfl
  (fun d hd=>by
   have hd:d<10:=hd
   rcases d with _|_|_|_|_|_|_|_|_|_|d<;>first|rfl|omega)
  (fun k hk hk2=>by
   have hk2:k<15\/25<=k:=hk2
   rcases hk2 with h|h
   ·unfold aZ;rw[bJ (by exact h),bJ (by exact h)]
   obtain rfl|rfl|rfl:k=25\/k=26\/k=27:=by omega
   ·rfl
   ·rfl
   rfl)
  b ⟨rfl,rfl⟩ ⟨rfl,rfl⟩ (h.rows.Ku i a) (fun k hk hne r h1=>h.rows.ap i k a hk (fun e=>hne e.symm) r h1)
theorem SG.N1(h:SG w0 w B g pb pc oA oc mp dv av m s)(a:i<s.pl.length)(k0 n:Nat)(hk:k0+n<=28):w.there pb (i*28+k0) n:=fun j hj=>by
 have b:k0+j<(aZ (Oc.p s i) (m i)).length:=by rw[jj];omega
 have h2:=h.Jt a (k0+j) (by omega) (bE b)
 rw[Wl];exact⟨by rw[h2.1];rfl,h2.2⟩
theorem SG.OX(h:SG w0 w B g pb pc oA oc mp dv av m s)(a:i<s.pl.length):w.rangeAt pb (i*28) (ag (Oc.p s i).j):=fun j v hv=>by
 have hj:j<15:=by have:=(VZ.mp hv).1;rw[cL] at this;exact this
 exact(h.Jt a j (by omega) (by unfold aZ;rw[bJ (by rw[cL];exact hj)];exact hv)).1
theorem SG.Pr(h:SG w0 w B g pb pc oA oc mp dv av m s)(a:i<s.pl.length):w.rangeAt pb (i*28+15) (cC (Oc.p s i).x (m i).tA (m i).tc):=fun j v hv=>by
 have hj:j<10:=(VZ.mp hv).1
 rw[Wl];refine(h.Jt a (15+j) (by omega) ?_).1
 unfold aZ;rw[List.getElem?_append_right (by rw[cL];omega),cL,show 15+j-15=j by omega,bJ (by exact hj)]
 exact hv
theorem dZ:(WA.info? 63).map (·.size)=X 15:=by kernel_rfl
theorem jR:(WA.info? 118).map (·.size)=X 10:=by kernel_rfl
theorem zu(x:Lf.T)(A:Option Wv)(c:Nat):(cC x A c).toArray.all (·.oneCell')=G:=by simp[cC,VS]
end
def NS(w9:Wt)(pb i:Nat)(X:Lf.T)(bc bs:Bool)(va:Wu)(W:Wt):Prop:=
 (bc=O->ID w9 W)/\(bc=G->bs=O->ID w9 W/\∃A c,va=gQ X A c/\Ts W 60 A (ef X.I0))/\(bs=G->∃W0 A c,ID w9 W0/\Ts W0 60 A (ef X.I0)/\W=W0.setCells pb (i*28+15) (cC X A c))
section
variable {w9 W W2 : Wt} {pb i : Nat} {X : Lf.T} {va : Wu}
theorem NS.start(w9:Wt)(pb i:Nat)(X:Lf.T)(va:Wu):NS w9 pb i X O O va {w9 with drawn:=w9.drawn+1}:=
 ⟨fun _=>(ID.refl w9).drew,(fun e=>by cases e),(fun e=>by cases e)⟩
theorem NS.grow(h:NS w9 pb i X O O va W)(hd:ID W W2):NS w9 pb i X O O va W2:=
 ⟨fun _=>(h.1 rfl).up hd,(fun e=>by cases e),(fun e=>by cases e)⟩
theorem NS.call(h:NS w9 pb i X O O va W)(hd:ID W W2){A:Option Wv}{c:Nat}(a:Ts W2 60 A (ef X.I0)):NS w9 pb i X G O (gQ X A c) W2:=
 ⟨(fun e=>by cases e),fun _ _=>⟨(h.1 rfl).up hd,A,c,rfl,a⟩,(fun e=>by cases e)⟩
theorem NS.st{A:Option Wv}{c:Nat}(va:Wu)(a:ID w9 W)(b:Ts W 60 A (ef X.I0)):NS w9 pb i X G G va (W.setCells pb (i*28+15) (cC X A c)):=
 ⟨(fun e=>by cases e),(fun _ e=>by cases e),fun _=>⟨W,A,c,a,b,rfl⟩⟩
end
namespace Gp
def fresh(l:List Jd)(F:Nat->Bool)(j k:Nat):List Nat:=(VQ k).filter fun i=> !F i&&(IC l i).contains j
def mark(F:Nat->Bool)(N:List Nat):Nat->Bool:=fun i=>F i||N.contains i
def Ms(l:List Jd):Nat->List Nat->(Nat->Bool)->(Nat->Bool)
 |0,_,F=>F
 |_+1,[],F=>F
 |f+1,j::o,F=>Ms l f (o++fresh l F j l.length) (mark F (fresh l F j l.length))
def J8(l:List Jd)(i:Nat):List Nat:=(VQ l.length).filter (Ms l (l.length+1) [i] (fun _=>O))
def Ln(n:Nat)(F:Nat->Bool):Nat:=((VQ n).filter fun i=> !F i).length
theorem Nl(l:List Jd)(F:Nat->Bool)(j k:Nat):fresh l F j (k+1)=fresh l F j k++(if(!F k&&(IC l k).contains j)=G then [k] else []):=by
 unfold fresh;rw[V8,V9]
 grind
theorem wP{l:List Jd}{j:Nat}(h:i∈fresh l F j k):i<k/\F i=O:=by grind [fresh]
theorem NN{l:List Jd}{j:Nat}:mark F (fresh l F j k) k=F k:=by
 unfold mark;have:(fresh l F j k).contains k=O:=by
  rw[Bool.eq_false_iff];intro h;have h2:=(wP (List.contains_iff_mem.mp h)).1;omega
 rw[this,Bool.or_false]
theorem Ob(F:Nat->Bool):mark F []=F:=by grind [mark]
theorem Mq(l:List Jd)(F:Nat->Bool)(j:Nat):fresh l F j 0=[]:=rfl
theorem pX(P Q:α->Bool)(l:List α):(l.filter P).length=(l.filter (fun x=>P x&&Q x)).length+(l.filter (fun x=>P x&& !Q x)).length:=by
 induction l<;>grind
theorem NO(l:List Jd)(F:Nat->Bool)(j:Nat):Ln l.length (mark F (fresh l F j l.length))+(fresh l F j l.length).length=Ln l.length F:=by
 unfold Ln;rw[pX (fun i=> !F i) (fun i=>(IC l i).contains j) (VQ l.length)]
 have e:(VQ l.length).filter (fun i=> !F i&&(IC l i).contains j)=fresh l F j l.length:=rfl
 rw[e];have a:(VQ l.length).filter (fun i=> !mark F (fresh l F j l.length) i)=(VQ l.length).filter (fun i=> !F i&& !(IC l i).contains j):=by
  apply Wj;intro i b;unfold mark;have:(fresh l F j l.length).contains i=(!F i&&(IC l i).contains j):=by grind
  rw[this];cases F i<;>cases (IC l i).contains j<;>rfl
 rw[a];omega
end Gp
def tD(F:Nat->Bool)(n:Nat):List Bool:=(VQ n).map F
theorem li(F:Nat->Bool){n:Nat}(h:i<n):(lh (tD F n))[i]? =X (K (F i)):=by simp[lh,tD,h]
theorem wQ(F:Nat->Bool)(N:List Nat)(n k:Nat):(lh (tD (Gp.mark F N) n)).set k (K G)=lh (tD (Gp.mark F (N++[k])) n):=by
 apply V3;intro i;rw[V4]
 by_cases a:i<n
 ·rw[li _ a]
  by_cases e:k=i
  ·subst e;rw[ps_ rfl,ps_ (by simp[lh,tD,a]),li _ a]
   simp[Gp.mark]
  rw[ng_ e,li _ a];have:Gp.mark F (N++[k]) i=Gp.mark F N i:=by
   unfold Gp.mark;rw[Bool.eq_iff_iff];simp[show¬i=k from fun h=>e h.symm]
  rw[this]
 rw[bI (l:=lh (tD (Gp.mark F (N++[k])) n)) (by simp[lh,tD];omega)]
 split
 ·rw[ng_ (by simp[lh,tD];omega)]
 rw[bI (by simp[lh,tD];omega)]
def IB(a:Wt)(l:List Jd)(b:Nat)(o:List Nat)(F:Nat->Bool)(v7:Wu)(wr:Wt):Prop:=
 Qw wr a.heap.size 3 v7 o.length (aW (aH o))/\IL wr a.heap.size 4 1 (U (X ⟨b,0,V⟩) l.length l.length) l.length (lh (tD F l.length))/\ID a wr
def It(b:Wt)(l:List Jd)(a:Nat)(R:Nat->Bool)(gk:Nat)(v7:Wu)(wr:Wt):Prop:=
 ∃o F,gk=o.length+Gp.Ln l.length F/\Hid (IB b l a o F v7 wr)/\Hid (Gp.Ms l gk o F=R)/\gk<=l.length+1
def Hd(c:Wt)(l:List Jd)(b:Nat)(j:Nat)(o:List Nat)(F:Nat->Bool)(v7 a:Wu)(wr:Wt):Prop:=
 ∃k:Nat,k<=l.length/\a=Z Y k/\Hid (IB c l b (o++Gp.fresh l F j k) (Gp.mark F (Gp.fresh l F j k)) v7 wr)
def Hm(c:Wt)(l:List Jd)(d:Nat)(R:Nat->Bool)(a b:Wu)(wr:Wt):Prop:=
 ∃k:Nat,k<=l.length/\b=Z Y k/\Hid (IL wr c.heap.size 3 1 a ((VQ k).filter R).length (aW (aH ((VQ k).filter R))))/\Hid (IL wr c.heap.size 4 1 (U (X ⟨d,0,V⟩) l.length l.length) l.length (lh (tD R l.length)))/\Hid (ID c wr)
theorem Dc(R:Nat->Bool)(k:Nat):((VQ k).filter R).length<=k:=by grind
theorem zY(l:List Jd)(F:Nat->Bool)(j k:Nat):(Gp.fresh l F j k).length<=k:=bN (Wm _ _) (by simp)
theorem nh(a b:List Nat):aW (aH (a++b))=aW (aH a)++aW (aH b):=by simp[aW,aH]
theorem rf(a:w.grownBy w' V):ID w w':=IU (ID.refl w) a (fun q e=>by cases e)
theorem ED{e:Wx}{n:Nat}(h:Qw w a e v n xs):v.ownBlock=V\/∃q cur,v.ownBlock=X q/\w.heap[q]? =X (H cur e (0,0)):=by
 rcases h.2 with⟨rfl,_⟩|⟨q,off,cap,cur,rfl,c,b,_⟩
 ·exact bX rfl
 exact bY ⟨q,cur,by simp[VV],b⟩
theorem Fb(A:Option Wv)(c:Nat)(l:List Jd)(i:Nat)(w:Wt)(hl:JL w A l)(hi:i<l.length)(hn:l.length<=1000000)(hb:∀j∈l,j.IC.length<=1000000):
  Ww WA 42 #[U A l.length c,Z Y (i:Int)] w (nQ w 3 1 (Gp.J8 l i).length (aW (aH (Gp.J8 l i)))):=by
 have ag:=aJ (zX A c l w hl hn hb)
 have aj:Hid (∀k,(Gp.IC l k).length<=1000000):=aJ (fun k=>bN (bN (Wm _ _) (by simp)) hn)
 clear hl hb;go_enter func42,ntmps42;go_wp2_with fail;refine(ag.out).mono ?_;rintro e d ⟨ga,_,cells,rfl,ax,au,ap⟩;have ak:=aJ ax;have ai:=aJ au;have ah:=aJ ap;clear ax au ap ag;go_wp2_with (at_make;refine dN rfl _ _ 104 rfl 4 (K O) 1 1 underlying104 rF (by decide) Y Y _ _ l.length rfl rfl ?pl3 ?pc3 ?pn3 ?_)
 case pl3=>omega
 case pc3=>omega
 case pn3=>omega
 intro w2 ac ao;have W:=aJ ao;have P:lh (tD (fun _=>O) l.length)=(madeCells #[Value.bool O] l.length).toList:=by
  unfold madeCells;rw[Array.toList_map,Array.toList_range];apply Wi
  ·simp[lh,tD]
  intro i h1 h2;simp[lh,tD,Nat.mod_one]
 rw[<-P] at ac;have r:=aJ ac;clear ac ao P;have b:Hid (It d l d.heap.size (Gp.Ms l (l.length+1) [i] (fun _=>O)) (l.length+1) (U (X ⟨w2.heap.size,0,V⟩) 1 1) (w2.alloc (H #[Z Y (i:Int)] 3))):=aJ (by
  have ab:Gp.Ln l.length (fun _=>O)=l.length:=by
   unfold Gp.Ln;have e:(VQ l.length).filter (fun i=> !(fun x:Nat=>O) i)=VQ l.length:=List.filter_eq_self.mpr (fun x _=>rfl)
   rw[e,List.length_range]
  refine⟨[i],fun _=>O,by rw[ab];simp;omega,aJ ⟨⟨by simp[aW,aH],bY ⟨w2.heap.size,0,1,_,rfl,W.out.size,aM _ _,bM _,by simp,by decide,fun j hj=>?_⟩⟩,r.out.alloc _,W.out.alloc _⟩,aJ rfl,bM _⟩
  have:j=0:=by simpa using hj
  subst this
  rfl)
 obtain⟨f,aq⟩:∃g,g=d.heap.size:=⟨_,rfl⟩
 have aC:Hid (Gp.J8 l i=(VQ l.length).filter (Gp.Ms l (l.length+1) [i] (fun _=>O))):=aJ rfl
 generalize Gp.Ms l (l.length+1) [i] (fun _=>O)=R at *
 rw[<-aq] at b ⊢;clear r W aq;go_wp2;go_loopg [7] (l.length+1) (fun gk v7 wr=>It d l f R gk v7 wr)
 case atStart=>exact b.out
 clear b;obtain⟨o,F,y,B,z,ab⟩:=hrel;obtain⟨C,u,s⟩:=B.out;obtain⟨A7,I,rfl,ae,_,_⟩:=C.shape;cases o with
 |nil=>
  clear ae ai ak aj;rw[show([]:List Nat).length=0 from rfl]
  have aD:F=R:=by
   have h:=z.out
   rw[y] at h;simp only[V7,VW] at h;cases ar:Gp.Ln l.length F with
   |zero=>rw[ar] at h;exact h
   |succ n=>rw[ar] at h;exact h
  subst aD;have b:Hid (Hm d l f F (U V 0 0) (Z Y ((0:Nat):Int)) wr):=aJ ⟨0,bO _,rfl,aJ (IL.Jk _ _ _ _),aJ u,aJ s⟩;clear B z C u s y ab;go_upto_block 4 with fail
  go_wp2
  go_loopw [10,56] (fun aI aL wr=>Hm d l f F aI aL wr) (fun _ x _=>l.length-(intOf x).toNat)
  case atStart=>exact b.out
  clear b;obtain⟨k,hk,rfl,J,L,z⟩:=hrel
  by_cases T:k<l.length
  ·obtain⟨d1,_⟩:=L.out.cellAt (li F T);have aO:=Dc F k;cases hv:F k with
   |false=>
    rw[hv] at d1;have e:(VQ (k+1)).filter F=(VQ k).filter F:=by rw[V8,V9];simp[hv]
    have t:Hid (Hm d l f F u10 (Z Y ((k+1:Nat):Int)) wr):=aJ ⟨k+1,by omega,rfl,by rw[e];exact J,L,z⟩
    clear J L z e;go_wp2;go_roundw
    case rel=>exact t.out
    simp[intOf];omega
   |true=>
    rw[hv] at d1;have e:(VQ (k+1)).filter F=(VQ k).filter F++[k]:=by rw[V8,V9];simp[hv]
    have D:Hid (d.heap.size<=wr.heap.size):=aJ z.out.size
    go_wp2_with (at_builtin;refine aw (wr:=wr) rfl _ _ 22 rfl _ 3 (Z Y 0) 1 8 underlying22 iq rfl (by decide) (by decide) _ _ _ rfl J.out 1 1 [Z Y (k:Int)] rfl rfl rfl rfl ?pn1 D.out ?_)
    case pn1=>omega
    intro v' w' s S hd;have t:Hid (Hm d l f F v' (Z Y ((k+1:Nat):Int)) w'):=aJ ⟨k+1,by omega,rfl,by rw[e,nh];simp only[bF,VY,V7];exact aJ s,aJ (L.out.grown J.out (by decide) S),aJ (hd _ z.out (bM _))⟩
    clear J L z e s S hd D;go_wp2;go_roundw
    case rel=>exact t.out
    simp[intOf];omega
  obtain rfl:k=l.length:=by omega
  have t:Hid (nQ w 3 1 (Gp.J8 l i).length (aW (aH (Gp.J8 l i))) (VN u10) wr):=aJ ⟨u10,rfl,by rw[aC.out];exact J.out.base ah.out.size,ah.out.up z.out⟩
  clear J L z;go_wp2;go_ret;exact t.out
 |cons j o=>
  have az:Qw wr d.heap.size 3 (U (if I=1 then A7 else A7.map (·.add 1)) (o.length+1-1) (I-1)) o.length (aW (aH o)):=Qw.tail (x:=Z Y (j:Int)) C
  obtain⟨b7,o7,rfl,_,am⟩:=ae.rs.at_ (by simp[aW,aH])
  have d0:=am 0 (Z Y (j:Int)) rfl
  replace d0:wr.cell? ⟨b7,o7,V⟩=X (Z Y (j:Int)):=d0
  have al:=aJ az
  have L:=aJ u
  have J:=aJ s
  have aB:Hid (Gp.Ms l (o.length+Gp.Ln l.length F) (o++Gp.fresh l F j l.length) (Gp.mark F (Gp.fresh l F j l.length))=R):=aJ (by
   rw[<-z.out,y,VY,show o.length+1+Gp.Ln l.length F=(o.length+Gp.Ln l.length F)+1 by omega]
   rfl)
  have aP:o.length<=1000000:=by simp at y;omega
  have q2:(0:Int)<(o.length:Int)+1:=by omega
  have q3:1<=I:=by
   rcases C.2 with⟨h,_⟩|⟨_,_,cap,_,h,_,_,h2,_⟩
   ·cases h
   injection h with h1 h3 h4
   simp at h2
   omega
  clear B z C u s az ae am;rw[VY];go_upto_region 7 with fail
  have m:Hid (Qw wr d.heap.size 3 (U (if I=1 then X ⟨b7,o7,V⟩ else X ⟨b7,o7+1,V⟩) o.length (I-1)) o.length (aW (aH o))):=aJ (by
   have h:=al.out
   rw[Option.map_some,Addr.add_lit,Nat.add_sub_cancel] at h;exact h)
  clear al d0 q3;generalize (if I=1 then X (⟨b7,o7,V⟩:Wv) else X ⟨b7,o7+1,V⟩)=A8 at *
  generalize I-1=c8 at *;have b:Hid (Hd d l f j o F (U A8 o.length c8) (Z Y ((0:Nat):Int)) wr):=aJ ⟨0,bO _,rfl,aJ ⟨by rw[Gp.Mq,V_];exact m.out,by rw[Gp.Mq,Gp.Ob];exact L.out,J.out⟩⟩
  clear m L J;go_wp2;go_loopw [7,30] (fun v7 aK wr=>Hd d l f j o F v7 aK wr) (fun _ x _=>l.length-(intOf x).toNat)
  case atStart=>exact b.out
  clear b;obtain⟨k,hk,rfl,B⟩:=hrel
  by_cases T:k<l.length
  ·obtain⟨C,u,s⟩:=B.out;obtain⟨d1,z1⟩:=u.cellAt (li _ T);rw[Gp.NN] at d1;obtain⟨A7,I,rfl,_,_,_⟩:=C.shape;have a:=Gp.Nl l F j k;have aN:(o++Gp.fresh l F j k).length<=68719476735:=by rw[bF];have:=zY l F j k;omega
   generalize av:(o++Gp.fresh l F j k).length=no at *;cases hv:F k with
   |true=>
    rw[hv] at d1;rw[hv] at a;simp only[Bool.not_true,Wh,Wo,if_false,V_] at a;have t:Hid (Hd d l f j o F (U A7 no I) (Z Y ((k+1:Nat):Int)) wr):=aJ ⟨k+1,by omega,rfl,by rw[a];exact B⟩
    clear B C u s a z1;go_wp2;go_roundw
    case rel=>exact t.out
    simp[intOf];omega
   |false=>
    rw[hv] at d1;rw[hv] at a;simp only[Bool.not_false,Wf] at a;obtain⟨Ak,ck,aa,af⟩:=ai.out.up s k T;obtain⟨d2,_⟩:=(ak.out.up s).cellAt aa;have HC:=aJ (GE Ak ck (Gp.IC l k) j wr af (aj.out k));cases hc:(Gp.IC l k).contains j with
    |false=>
     rw[hc] at HC a;simp only[Wo,if_false,V_] at a;have t:Hid (Hd d l f j o F (U A7 no I) (Z Y ((k+1:Nat):Int)) wr):=aJ ⟨k+1,by omega,rfl,by rw[a];exact B⟩
     clear B C u s a z1 aa af;go_wp2_with fail;refine(HC.out).mono ?_;rintro e w' ⟨rfl,rfl⟩;clear HC;go_wp2;go_roundw
     case rel=>exact t.out
     simp[intOf];omega
    |true=>
     rw[hc] at HC a;simp only[if_true] at a;have aE:=(bU u f rfl).1;have N:Hid (IL (wr.setCell ⟨f,k,V⟩ (K G)) d.heap.size 4 1 (U (X ⟨f,0,V⟩) l.length l.length) l.length (lh (tD (Gp.mark F (Gp.fresh l F j (k+1))) l.length))):=aJ (by rw[a,<-wQ];exact(u.Nh k _).1)
     have m:Hid (Qw (wr.setCell ⟨f,k,V⟩ (K G)) d.heap.size 3 (U A7 no I) no (aW (aH (o++Gp.fresh l F j k)))):=aJ (by
      obtain⟨cs,an⟩:∃cs,wr.heap[f]? =X (H cs 4 (0,0)):=by
       rcases u with⟨_,⟨e,_⟩|⟨q,cap,cu,e,_,aF,_⟩⟩
       ·cases e
       injection e with P e2 e3
       injection P with P
       injection P with P
       subst P;exact⟨cu,aF⟩
      refine C.kept (u.Nh k _).2 ?_;rcases C.2 with⟨e,_⟩|⟨q,off,cap,cur,e,_,ad,_⟩
      ·rw[e];exact bX rfl
      right
      rw[e];intro e2;simp[VV] at e2;subst e2;rw[ad] at an;have hk2:=bQ an;injection hk2 with P e3 e4
      exact absurd e3 (by decide))
     have r:Hid (ID d (wr.setCell ⟨f,k,V⟩ (K G))):=aJ (s.setCell (p:=⟨f,k,V⟩) aE _)
     clear B C u s aa af;go_wp2_with fail;refine(HC.out).mono ?_;rintro e w' ⟨rfl,rfl⟩;clear HC;go_upto_region 12 with fail
     obtain⟨w3,aA⟩:∃w3,w'.setCell ⟨f,k,V⟩ (K G)=w3:=⟨_,rfl⟩
     rw[aA] at N m r ⊢;clear aA d1 z1 d2;have D:Hid (d.heap.size<=w3.heap.size):=aJ r.out.size;go_wp2_with (at_builtin;refine pz (wr:=w3) rfl _ _ 22 rfl _ 3 (Z Y 0) 8 underlying22 iq rfl (by decide) _ _ _ rfl m.out 1 (Z Y (k:Int)) rfl rfl rfl ?pn2 D.out ?_)
     case pn2=>omega
     intro v' w5 ay S;have aG:(o++Gp.fresh l F j (k+1)).length=no+1:=by rw[a,<-V1,bF,av];rfl
     have t:Hid (Hd d l f j o F v' (Z Y ((k+1:Nat):Int)) w5):=aJ ⟨k+1,by omega,rfl,aJ ⟨by rw[aG,a,<-V1,nh];exact ay,by
      rcases ED m.out with e|⟨q,cur,e,ad⟩
      ·rw[e] at S;exact N.out.up (rf S)
      rw[e] at S;exact N.out.Pz S ad (by decide),IU r.out S (fun q e=>(m.out.lt q e).1)⟩⟩
     clear N m r D ay S a av;go_wp2;go_roundw
     case rel=>exact t.out
     simp[intOf];omega
  obtain rfl:k=l.length:=by omega
  have t:Hid (It d l f R (o.length+Gp.Ln l.length F) u7 wr):=aJ ⟨_,_,by rw[bF];have:=Gp.NO l F j;omega,B,aB,by simp at y;omega⟩
  clear B;go_wp2;go_roundg (o.length+Gp.Ln l.length F)
  case rel=>exact t.out
  simp at y;omega
theorem uL{l:List Jd}{nm:ByteArray}(h:Gp.ix l nm=X i):(l.getD i cE).nm=nm:=by
 unfold Gp.ix at h;obtain⟨h1,h2,_⟩:=List.findIdx?_eq_some_iff_getElem.mp h
 grind
def zE(l:List Jd)(k:Nat)(nm:ByteArray):Option Nat:=(Gp.ix l nm).filter (fun i=>decide (i<k))
theorem rA(l:List Jd)(nm:ByteArray):zE l 0 nm=V:=by simp[zE,Gp.ix]
theorem uM{l:List Jd}(nm:ByteArray):zE l l.length nm=Gp.ix l nm:=by
 unfold zE;cases h:Gp.ix l nm with
 |none=>rfl
 |some i=>simp[Wa,Gp.K4 h]
theorem rB{l:List Jd}(hk:Gp.ix l (l.getD k cE).nm=X k)(nm:ByteArray):zE l (k+1) nm=if nm=(l.getD k cE).nm then X k else zE l k nm:=by
 unfold zE
 by_cases e:nm=(l.getD k cE).nm
 ·rw[ps_ e,e,hk];simp[Wa]
 rw[ng_ e];cases h:Gp.ix l nm with
 |none=>rfl
 |some i=>
  have hne:i≠k:=fun b=>e (by rw[<-uL h,b])
  by_cases a:i<k
  ·simp[Wa,a,show i<k+1 by omega]
  grind
def nX(l:List Jd)(i:Nat):Oc.Pl:=⟨l.getD i cE,Lf.new,[]⟩
structure Nf(w:Wt)(l:List Jd)(gp gm k k2:Nat)(m:Nat->Pm)(wr:Wt):Prop where
 I5:ID w wr
 PA:w.heap.size<=gp
 PW:w.heap.size<=gm
 pl:∃cur,wr.heap[gp]? =some (.cells cur 121 (0,0))/\cur.size=l.length*28/\∀i,i<k->∀d,d<28->cur[i*28+d]? =(aZ (nX l i) (m i))[d]?
 map:KG wr gm k2 (zE l k2)
 IC:∀i,i<k->(m i).nl=Gp.IC l i/\Ts wr 3 (m i).nA (aW (aH (m i).nl))
 J8:∀i,i<k->Ts wr 3 (m i).dA (aW (aH (m i).dl))
 oa:∀i,i<k->(m i).oA=none/\(m i).oc=0
section
variable {w wr wr' : Wt} {l : List Jd} {gp gm k k2 : Nat} {m : Nat -> Pm}
theorem Nf.up(h:Nf w l gp gm k k2 m wr)(a:ID wr wr'):Nf w l gp gm k k2 m wr':=
 ⟨h.I5.up a,h.PA,h.PW,h.pl.elim fun cur hc=>⟨cur,a.block hc.1,hc.2⟩,h.map.up a,fun i b=>⟨(h.IC i b).1,(h.IC i b).2.up a⟩,fun i b=>(h.J8 i b).up a,h.oa⟩
theorem Nf.there(h:Nf w l gp gm k k2 m wr)(b:i<l.length):wr.there gp (i*28) 28:=fun j hj=>by
 obtain⟨cur,a,hs,_⟩:=h.pl;exact⟨by rw[aK _ _ _ _ _ _ a,Array.getElem?_eq_getElem (by rw[hs];omega)];rfl,aN _ _ _ _ _ a⟩
theorem Nf.st(h:Nf w l gp gm k k m wr)(hk:k<l.length){x:Pm}(g:x.nl=Gp.IC l k/\Ts wr 3 x.nA (aW (aH x.nl)))(hd:Ts wr 3 x.dA (aW (aH x.dl)))(j:x.oA=V/\x.oc=0):
  Nf w l gp gm (k+1) k (BT m k x) (wr.setCells gp (k*28) (aZ (nX l k) x)):=by
 obtain⟨cur,b,hs,hc⟩:=h.pl;rw[eO];have a:=gq gp (aZ (nX l k) x) wr (k*28);have n:(aZ (nX l k) x).length=28:=rfl;refine⟨h.I5.KC h.PA _ _,h.PA,h.PW,⟨mx cur (k*28) (aZ (nX l k) x),mZ _ wr cur _ b,by rw[lH];exact hs,?_⟩,h.map.I4 b a,?_,?_,?_⟩
 ·intro i f d c
  by_cases e:i=k
  ·subst e;rw[cD,pE _ _ _ _ (by omega) (by omega)]
  rw[bf e,kP _ _ _ _ (by omega)]
  exact hc i (by omega) d c
 ·intro i f
  by_cases e:i=k
  ·subst e;rw[cD];exact⟨g.1,g.2.I4 b a (by decide)⟩
  rw[bf e];exact⟨(h.IC i (by omega)).1,(h.IC i (by omega)).2.I4 b a (by decide)⟩
 ·intro i f
  by_cases e:i=k
  ·subst e;rw[cD];exact hd.I4 b a (by decide)
  rw[bf e];exact(h.J8 i (by omega)).I4 b a (by decide)
 intro i f
 by_cases e:i=k
 ·subst e;rw[cD];exact j
 rw[bf e];exact h.oa i (by omega)
theorem Nf.put(h:Nf w l gp gm (k+1) k m wr)(hk:k<l.length)(y:l.length<=32)(o:Gp.ix l (l.getD k cE).nm=X k)(hs:(l.getD k cE).nm.size<=maxLen):
  ∃w',(Instr.mapUpdate 69 (.map (X gm)) (Q (l.getD k cE).nm) (Z Y k)).run WA wr= .ok () w'/\Nf w l gp gm (k+1) (k+1) m w'/\∀{q:Nat} {cs:Array Wu} {t:Wx} {z:Nat×Nat},wr.heap[q]? =X (H cs t z)->w'.heap[q]? =X (H cs t z):=by
 obtain⟨w',d,n,r⟩:=h.map.put (by omega) hs k (by omega)
 obtain⟨cur,j,hsz,hc⟩:=h.pl;have a:∀{q:Nat} {cs:Array Wu} {t:Wx} {z:Nat×Nat},wr.heap[q]? =X (H cs t z)->w'.heap[q]? =X (H cs t z):=by
  intro q cs t z p;refine(r.block q (aQ p) (fun e=>?_)).trans p
  injection e with e
  obtain⟨D,⟨es,_,c,_⟩,_⟩:=h.map;rw[<-e,p] at c;exact absurd (bQ c) (by simp)
 have f:∀{e:Wx} {A:Option Wv} {xs:List Wu},Ts wr e A xs->Ts w' e A xs:=by
  intro e A xs x;rcases x with h1|⟨b,off,cur,fz,u,j,hc⟩
  ·exact bX h1
  exact bY ⟨b,off,cur,fz,u,a j,hc⟩
 exact⟨w',d,⟨IU h.I5 r (fun q e=>by injection e with e;rw[<-e];exact h.PW),h.PA,h.PW,⟨cur,a j,hsz,hc⟩,n.same (fun s=>rB o s),fun i g=>⟨(h.IC i g).1,f (h.IC i g).2⟩,fun i g=>f (h.J8 i g),h.oa⟩,a⟩
theorem Nf.sg{W':Wt}{c:Nat}{z:Array Wu}(h:Nf w l gp gm l.length l.length m wr)(D:ID w0 w)(F:w0.heap.size<=g)(hj:∀j∈l,JT w j)(J:Ts wr 3 oA (aW (aH (Gp.IP l))))(I:l.length<=32)
  (f:wr.heap[g]? =X (H z 72 (0,0))) (o:wr.grownBy W' (X g)) (C:ID w0 W') (B:W'.heap[g]? =X (H #[U (X ⟨gp,0,V⟩) l.length c,U oA (Gp.IP l).length oc,.map (X gm),Z E 0,U V 0 0,K O,K O,K O,U V 0 0,.map V,U V 0 0] 72 (0,0))) (hc:l.length<=c):
  SG w0 W' ⟨W'.heap.size,[],[]⟩ g gp c oA oc (.map (X gm)) (U V 0 0) (U V 0 0) m (Oc.Jg l):=by
 have a:(Oc.Jg l).pl.length=l.length:=by simp[Oc.Jg]
 have x:∀i,i<l.length->Oc.p (Oc.Jg l) i=nX l i:=fun i b=>by
  unfold Oc.p Oc.Jg nX;simp[bD,b]
 have n:Oc.Js (Oc.Jg l)=l:=by
  unfold Oc.Js Oc.Jg;simp[Function.comp_def]
 have t:Oc.IP (Oc.Jg l)=Gp.IP l:=by unfold Oc.IP;rw[n]
 refine⟨C,F,bN D.size h.PA,?_,?_,by rw[a];exact hc,⟨by rw[t];exact J.I4 f o (by decide),?_,?_,?_,?_,?_,Qw.Jk _ _ _,?_⟩,IL.Jk _ _ _ _,⟨C.size,bM _⟩,by rw[a];exact I,⟨gm,l.length,rfl,by rw[n];exact(h.map.I4 f o).same (fun s=>(uM s).symm)⟩,fun r A=>by simp at A,fun r A=>by simp at A⟩
 ·rw[a,t];exact B
 ·obtain⟨cur,u,hs,y⟩:=h.pl;have hne:gp≠g:=fun e=>by
   rw[e,f] at u;have h2:=bQ u;injection h2 with e1 e2 e3
   exact absurd e2 (by decide)
  refine⟨cur,(o.block gp (aQ u) (fun e=>by injection e with e;exact hne e)).trans u,by rw[a];exact hs,fun i b d hd=>?_⟩
  rw[a] at b;rw[x i b];exact y i b d hd
 ·intro i b;rw[a] at b;rw[x i b];exact(hj _ (by show l.getD i cE∈l;rw[bD,bE b];exact bH b)).up h.I5|>.I4 f o (by decide) (by decide) (by decide)
 ·intro i b;rw[a] at b;rw[x i b];exact bX rfl
 ·intro i b;rw[a] at b;rw[n];exact⟨(h.IC i b).1,(h.IC i b).2.I4 f o (by decide)⟩
 ·intro i b;rw[a] at b;exact(h.J8 i b).I4 f o (by decide)
 ·intro i b;rw[a] at b;rw[x i b,(h.oa i b).1,(h.oa i b).2];exact IL.Jk _ _ _ _
 intro i k b hk _ q h1;rw[a] at b;rw[(h.oa i b).1] at h1;cases h1
end
def MO(w9:Wt)(l:List Jd)(gp k:Nat)(b3 b6 b9 b12:Bool)(vT vN vD:Wu)(W:Wt):Prop:=
 (b12=O->ID w9 W)/\(b3=G->∃A c,vT=U A 0 c)/\(b6=G->∃A c,vN=U A (Gp.IC l k).length c/\(b12=O->Ts W 3 A (aW (aH (Gp.IC l k)))))/\
 (b9=G->∃A c,vD=U A (Gp.J8 l k).length c/\(b12=O->Ts W 3 A (aW (aH (Gp.J8 l k)))))/\
 (b12=G->∃W0 A2 c2 a d b c4,ID w9 W0/\Ts W0 3 a (aW (aH (Gp.IC l k)))/\Ts W0 3 b (aW (aH (Gp.J8 l k)))/\W=W0.setCells gp (k*28) (aZ (nX l k) ⟨A2,c2,V,0,a,d,Gp.IC l k,b,c4,Gp.J8 l k⟩))
section
variable {w9 W W2 : Wt} {l : List Jd} {gp k : Nat} {b3 b6 b9 : Bool} {vT vN vD : Wu}
theorem MO.start(w9:Wt)(l:List Jd)(gp k:Nat)(vT vN vD:Wu):MO w9 l gp k O O O O vT vN vD {w9 with drawn:=w9.drawn+1}:=
 ⟨fun _=>(ID.refl w9).drew,(fun e=>by cases e),(fun e=>by cases e),(fun e=>by cases e),(fun e=>by cases e)⟩
theorem MO.up(h:MO w9 l gp k b3 b6 b9 O vT vN vD W)(hd:ID W W2):MO w9 l gp k b3 b6 b9 O vT vN vD W2:=
 ⟨fun _=>(h.1 rfl).up hd,h.2.1,fun e=>(h.2.2.1 e).elim fun A h1=>h1.elim fun c h2=>⟨A,c,h2.1,fun _=>(h2.2 rfl).up hd⟩,fun e=>(h.2.2.2.1 e).elim fun A h1=>h1.elim fun c h2=>⟨A,c,h2.1,fun _=>(h2.2 rfl).up hd⟩,(fun e=>by cases e)⟩
theorem MO.t(h:MO w9 l gp k O b6 b9 O vT vN vD W)(hd:ID W W2)(A:Option Wv)(c:Nat):MO w9 l gp k G b6 b9 O (U A 0 c) vN vD W2:=
 ⟨(h.up hd).1,fun _=>⟨A,c,rfl⟩,(h.up hd).2.2.1,(h.up hd).2.2.2.1,(fun e=>by cases e)⟩
theorem MO.n(h:MO w9 l gp k b3 O b9 O vT vN vD W)(hd:ID W W2){A:Option Wv}{c:Nat}(a:Ts W2 3 A (aW (aH (Gp.IC l k)))):MO w9 l gp k b3 G b9 O vT (U A (Gp.IC l k).length c) vD W2:=
 ⟨(h.up hd).1,h.2.1,fun _=>⟨A,c,rfl,fun _=>a⟩,(h.up hd).2.2.2.1,(fun e=>by cases e)⟩
theorem MO.d(h:MO w9 l gp k b3 b6 O O vT vN vD W)(hd:ID W W2){A:Option Wv}{c:Nat}(a:Ts W2 3 A (aW (aH (Gp.J8 l k)))):MO w9 l gp k b3 b6 G O vT vN (U A (Gp.J8 l k).length c) W2:=
 ⟨(h.up hd).1,h.2.1,(h.up hd).2.2.1,fun _=>⟨A,c,rfl,fun _=>a⟩,(fun e=>by cases e)⟩
theorem MO.st{A2:Option Wv}{c2:Nat}{a:Option Wv}{c:Nat}{b:Option Wv}{c4:Nat}(h:MO w9 l gp k G G G O (U A2 0 c2) (U a (Gp.IC l k).length c) (U b (Gp.J8 l k).length c4) W):
  MO w9 l gp k G G G G (U A2 0 c2) (U a (Gp.IC l k).length c) (U b (Gp.J8 l k).length c4) (W.setCells gp (k*28) (aZ (nX l k) ⟨A2,c2,V,0,a,c,Gp.IC l k,b,c4,Gp.J8 l k⟩)):=by
 obtain⟨_,_,d,g⟩:=h.2.2.1 rfl;obtain⟨_,_,f,i⟩:=h.2.2.2.1 rfl;injection d with e31 e32 e33
 injection f with e41 e42 e43
 subst e31 e41;exact⟨(fun e=>by cases e),fun _=>⟨A2,c2,rfl⟩,fun _=>⟨a,c,rfl,fun e=>by cases e⟩,fun _=>⟨b,c4,rfl,fun e=>by cases e⟩,fun _=>⟨W,A2,c2,a,c,b,c4,h.1 rfl,g rfl,i rfl,rfl⟩⟩
end
theorem zJ:(WA.info? 121).map (fun i=>(i.zero,i.size,i.bytes))=X (X (VP #[Q ⟨#[]⟩,Q ⟨#[]⟩,U V 0 0,U V 0 0,K O,Q ⟨#[]⟩,Z Y 0,Z E 0,Z E 0,Z E 0,Z Y 0,Z E 0,U V 0 0,Z Y 0,Z Y 0,Z Y 0,Z Y 0,Z Y 0,Z E 0,U V 0 0,Z E 0,K O,Z Y 0,K O,K O,U V 0 0,U V 0 0,U V 0 0]),28,352):=by kernel_rfl
theorem pI(n:Int)(w:Wt):(Instr.makeMap 69 (X (Z Y n))).run WA w= .ok (.map (X w.heap.size)) (w.alloc (.map #[] 0)):=by kernel_rfl
theorem sU(j:Jd):(ag j).toArray.all (·.oneCell')=G:=by simp[ag,VS]
def G2(w9:Wt)(l:List Jd)(b off c gp gm k kj:Nat)(j:Jd)(p0 p2 p3 p8 p9 f g h i m n o p q r s t u w x y z A B C D F I J L N P R S T W aa ab ac ad ae af ag ah ai aj ak al am an ao ap aq ar au av aw ax ay az aA aB aC aD aE aF aG aH aI aJ aK aL aM aN aO aP aQ aR aS aT aU aV aW aX aY aZ a0 a1 a2 a3 a4 a5 a6:Wu)(d:Array Bool)(a:Act)(ww:Wt):Prop:=
 ∃(b0 b1 b2 b3 b4 b5 b6 b7 b8 b9 b10 b11 b12:Bool) (e:Nat) (vT vN vD:Wu),d=#[b0,b1,b2,b3,b4,b5,b6,b7,b8,b9,b10,b11,b12]/\
  a={tmps:=#[p0,U (X ⟨b,off,V⟩) l.length c,p2,p3,U (X ⟨gp,0,V⟩) l.length l.length,.map (X gm),Z Y (k:Int),M (X ⟨kj,0,V⟩),p8,p9,f,g,h,i,m,n,o,p,q,r,s,t,u,cond b0 (U (X ⟨gp,0,V⟩) l.length l.length) (w),cond b1 (Z Y (k:Int)) (x),cond b2 (VP #[Q j.nm,Q j.run,U j.eA j.IJ.length j.ec,U j.nA j.IC.length j.nc,K j.IQ,Q j.ready,Z Y j.IE,Z E j.base,Z E j.cap,Z E j.IG,Z Y j.II,Z E j.win,U j.lA j.IK.length j.lc,Z Y j.IM,Z Y j.Jb]) (y),cond b3 (VP #[Z Y 1,Z Y 0,Z Y 0,Z E 0,vT,Z E 0,K O,Z Y 0,K O,K O]) (z),cond b4 (U (X ⟨b,off,V⟩) l.length c) (A),cond b5 (Z Y (k:Int)) (B),cond b6 (vN) (C),cond b7 (U (X ⟨b,off,V⟩) l.length c) (D),cond b8 (Z Y (k:Int)) (F),cond b9 (vD) (I),cond b10 (VP #[Q j.nm,Q j.run,U j.eA j.IJ.length j.ec,U j.nA j.IC.length j.nc,K j.IQ,Q j.ready,Z Y j.IE,Z E j.base,Z E j.cap,Z E j.IG,Z Y j.II,Z E j.win,U j.lA j.IK.length j.lc,Z Y j.IM,Z Y j.Jb,Z Y 1,Z Y 0,Z Y 0,Z E 0,vT,Z E 0,K O,Z Y 0,K O,K O,U V 0 0,vN,vD]) (J),cond b11 (M (X ⟨gp,k*28,V⟩)) (L),N,P,R,S,T,W,aa,ab,ac,ad,ae,af,ag,ah,ai,aj,ak,al,am,an,ao,ap,aq,ar,au,av,aw,ax,ay,az,aA,aB,aC,aD,aE,aF,aG,aH,aI,aJ,aK,aL,aM,aN,aO,aP,aQ,aR,aS,aT,aU,aV,aW,aX,aY,aZ,a0,a1,a2,a3,a4,a5,a6],defers:=[]}/\MO w9 l gp k b3 b6 b9 b12 vT vN vD ww
theorem sW{j:Jd}(h:w.heap[k]? =X (H (ag j).toArray 63 z)):w.rangeAt k 0 (ag j):=fun i v hv=>by
 rw[VW];exact(aK w k i _ _ _ h).trans (by rw[Wk];exact hv)
section
theorem sL{A:Option Wv}{c:Nat}{l:List Jd}(hl:JL w A l)(hj:∀j∈l,JT w j)(am:LJ l)(aL:∀j∈l,j.nm.size<=1000000)(h0:ID w0 w)(hg:w0.heap.size<=g)(aP:w.heap[g]? =X (H #[U V 0 0,U V 0 0,.map V,Z E 0,U V 0 0,.bool O,.bool O,.bool O,U V 0 0,.map V,U V 0 0] 72 (0,0))):
  Ww WA 18 #[M (X ⟨g,0,V⟩),U A l.length c] w fun e w'=>e=VN (VO #[])/\∃pb pc oA oc mp m,SG w0 w' ⟨w'.heap.size,[],[]⟩ g pb pc oA oc mp (U V 0 0) (U V 0 0) m (Oc.Jg l):=by
 have aU:=fun W=>pI (l.length:Int) W
 have hn:=am.JA
 go_enter func18,ntmps18
 go_wp2_with (at_make;refine dN rfl _ _ 68 rfl 121 (VP #[Q ⟨#[]⟩,Q ⟨#[]⟩,U V 0 0,U V 0 0,.bool O,Q ⟨#[]⟩,Z Y 0,Z E 0,Z E 0,Z E 0,Z Y 0,Z E 0,U V 0 0,Z Y 0,Z Y 0,Z Y 0,Z Y 0,Z Y 0,Z E 0,U V 0 0,Z E 0,.bool O,Z Y 0,.bool O,.bool O,U V 0 0,U V 0 0,U V 0 0]) 28 352 underlying68 zJ (by decide) Y Y _ _ l.length rfl rfl ?pl1 ?pc1 ?pn1 ?_)
 case pl1=>omega
 case pc1=>omega
 case pn1=>omega
 intro u aM an;go_upto_region 2 with fail
 have ah:Hid (Nf w l w.heap.size u.heap.size 0 0 (fun _=>⟨V,0,V,0,V,0,[],V,0,[]⟩) (u.alloc (.map #[] 0))):=aJ (by
  refine⟨an.alloc _,bM _,an.size,?_,?_,fun i hi=>by omega,fun i hi=>by omega,fun i hi=>by omega⟩
  ·rcases aM with⟨aX,⟨e,_⟩|⟨q,cap,cur,e,_,hh,_,_,hs,_⟩⟩
   ·cases e
   injection e with e1 e2 e3
   injection e1 with e1
   injection e1 with e1
   subst e1 e3;exact⟨cur,((ID.refl u).alloc _).block hh,by rw[hs],fun i hi=>by omega⟩
  exact(KG.made u).same (fun s=>rA l s))
 have al:=aJ aP
 have D:=aJ hl
 have aw:=aJ hj
 have N:=aJ am
 have aA:=aJ aL
 have H0:=aJ h0
 have C:=aJ hg
 generalize u.alloc (.map #[] 0)=w2 at *;obtain⟨gp,ap⟩:∃gp,w.heap.size=gp:=⟨_,rfl⟩
 obtain⟨gm,ao⟩:∃gm,u.heap.size=gm:=⟨_,rfl⟩
 rw[ap,ao] at ah;rw[ap,ao];clear aP hl hj am aL h0 hg aM an aU ap ao;have HB:Hid (∀j∈l,j.IC.length<=1000000):=aJ (fun j hj=>by
  obtain⟨i,hi,e⟩:=Wp hj;have:=(N.each i hi).JA;rw[bD,bE hi] at this;rw[<-e];exact this)
 have aC:=aJ (fun W (y:ID w W)=>uW A c l W (D.up y) (by omega) HB)
 go_wp2
 go_loopw [18] (fun aW wr=>∃k m,k<=l.length/\aW=Z Y (k:Nat)/\Hid (Nf w l gp gm k k m wr)) (fun x _=>l.length-(intOf x).toNat)
 case atStart=>exact⟨0,_,bO _,rfl,ah⟩
 clear ah;obtain⟨k,m,hk,rfl,HM⟩:=hrel
 by_cases z:k<l.length
 ·have HH:=aJ z
  obtain⟨b,off,rfl,_,ad⟩:=(D.up HM.I5).row (by omega)
  have aF:=ad k z
  have ax:Hid ((l.getD k cE).IC.length<=1000000):=aJ (N.each k z).JA
  have az:=aJ (fun W (y:ID wr W)=>mJ (X ⟨b,off,V⟩) c l k W (D.up (HM.I5.up y)) z ax)
  have av:=aJ (fun W (y:ID wr W)=>Fb (X ⟨b,off,V⟩) c l k W (D.up (HM.I5.up y)) z (by omega) HB)
  have k0:(0:Int)<=(k:Int):=by omega
  have k1:(k:Int)<(l.length:Int):=by omega
  have P:Hid (Gp.ix l (l.getD k cE).nm=X k/\(l.getD k cE).nm.size<=maxLen):=aJ ⟨(N.each k z).own,by
   have:=aA (l.getD k cE) (gm_ z)
   unfold maxLen;omega⟩
  have ar:wr.rangeAt b (off+k*15) (ag (l.getD k cE)):=by
   obtain⟨_,c1,c2,F,c4,_,_,c7,_,_,_,_,_,_,_⟩:=aF;intro j v hv;rcases j with _|_|_|_|_|_|_|_|_|_|_|_|_|_|_|j<;>first|(injection hv with hv;subst hv;assumption)|(simp[ag] at hv)
  obtain⟨j,aq⟩:∃j,l.getD k cE=j:=⟨_,rfl⟩
  have R:=aJ aq
  rw[aq] at ar P;clear ad aF aq ax;go_upto_region 5 with(first|(refine Wy rfl 63 _ rfl b (off+k*15) rfl (ag j) _ ar underlying63 rfl dZ ?_)|(refine eU rfl 63 _ _ rfl _ rfl (ag j) rfl rfl dZ rfl (sU j) ?_;intro w3 aa aD))
  simp only[Act.put];have S:=aJ (HM.up aa);have ac:=aJ (fun W (y:ID w3 W)=>az W (aa.up y))
  have ab:=aJ (fun W (y:ID w3 W)=>av W (aa.up y))
  have L:=aJ aD
  obtain⟨kj,aG⟩:∃kj,wr.heap.size=kj:=⟨_,rfl⟩
  rw[aG] at L ⊢;clear aG aD aa HM az av ar;refine ak [([],[]),([],[]),([],[10,11,12]),([],[6,10,11,12,9]),([],[]),([],[]),([4,5,3],[9,10,11,12]),([],[]),([],[]),([7,8,6,4,5,3],[10,11,12]),([2,3,6,9,4,5,7,8],[11,12]),([0,1,2,3,4,5,6,7,8,9,10],[12]),([11,10,9,0,1,2,3,4,5,6,7,8],[])] (G2 w3 l b off c gp gm k kj j _ _ _ _ _ _ _ _ _ _ _ _ _ _ _ _ _ _ _ _ _ _ _ _ _ _ _ _ _ _ _ _ _ _ _ _ _ _ _ _ _ _ _ _ _ _ _ _ _ _ _ _ _ _ _ _ _ _ _ _ _ _ _ _ _ _ _ _ _ _ _ _ _ _ _ _ _ _ _ _ _ _ _ _ _ _ _ _ _ _ _ _ _) (⟨O,O,O,O,O,O,O,O,O,O,O,O,O,0,aR,aR,aR,rfl,rfl,MO.start w3 l gp k aR aR aR⟩) ?_ ⟨?_,?_,?_,?_,?_,?_,?_,?_,?_,?_,?_,?_,?_,trivial⟩
  ·rintro a u ⟨b0,b1,b2,b3,b4,_,b6,b7,b8,b9,b10,b11,b12,f,vT,vN,vD,hl,rfl,o⟩;have aH:=congrArg Array.toList hl;simp at aH;obtain⟨rfl,rfl,rfl,rfl,rfl,rfl,rfl,rfl,rfl,rfl,rfl,rfl,rfl⟩:=aH;clear hl;obtain⟨W0,A2,c2,I,F,J,c4,y,aQ,aS,hw⟩:=o.2.2.2.2 rfl;have ai:=aJ ((S.up y).st HH (x:=⟨A2,c2,V,0,I,F,Gp.IC l k,J,c4,Gp.J8 l k⟩) ⟨rfl,aQ⟩ aS ⟨rfl,rfl⟩);have af:Hid (u.heap[kj]? =X (H (ag j).toArray 63 (0,0))):=aJ (by
    have h1:=y.block L
    obtain⟨cur,hb,_⟩:=(S.up y).pl;rw[hw,eO,gH (fun e=>by
     rw[e,hb] at h1;have h2:=bQ h1;injection h2 with e1 e2 e3
     exact absurd e2 (by decide))]
    exact h1)
   rw[<-hw] at ai;clear o y aQ aS hw S ac ab L;have a1:=cr_ af 0 (Q j.nm);obtain⟨w5,ae,aI,aE⟩:=ai.out.put HH (by omega) (by rw[R.out];exact P.1) (by rw[R.out];exact P.2)
   rw[R.out] at ae;have aj:=aJ aI;have j5:=cr_ (aE af) 0 (Q j.nm);have s5:=aj.I5.block al;have a0:=cr_ s5 2 (.map V);have aY:∀W,(Instr.lookup 69 (.map V) (Q j.nm) G).run WA W= .ok (VO #[Z Y 0,.bool O]) W:=fun W=>pR W j.nm P.2
   clear aI aE ai af s5;go_upto_region 7 with fail
   go_quiet (fail)
   go_upto_region 8 with fail
   go_quiet (fail)
   clear ae;have HX:Hid (∀W,ID w5 W->Nf w l gp gm (k+1) (k+1) (BT m k ⟨A2,c2,V,0,I,F,Gp.IC l k,J,c4,Gp.J8 l k⟩) W):=aJ (fun W y=>aj.up y)
   clear aj;go_wp2;go_roundw
   case rel=>exact⟨k+1,_,by omega,by go_num,aJ (HX _ (by(repeat (first|exact ID.refl _|refine ID.drewN ?_ _|refine ID.drew ?_))))⟩
   simp[intOf];omega
  rotate_left 2
  ·rintro _ _ u K ⟨b0,b1,b2,b3,b4,_,b6,b7,b8,b9,b10,b11,b12,f,vT,vN,vD,rfl,h2,o⟩ h B
   repeat obtain⟨rfl,h⟩:=h
   subst h2;rw[ps_ (by rfl)]
   refine wp_load_mid 63 _ rfl kj 0 rfl (ag j) _ (sW ((o.1 rfl).block L)) underlying63 rfl dZ ?_;apply B;iterate 13 apply bW
   exact⟨f,vT,vN,vD,rfl,rfl,o⟩
  ·rintro _ _ u K ⟨b0,b1,b2,b3,b4,_,b6,b7,b8,b9,b10,b11,b12,f,vT,vN,vD,rfl,h2,o⟩ h B
   repeat obtain⟨rfl,h⟩:=h
   subst h2;go_simp;refine(Gv u).mono ?_;rintro e w2 ⟨A2,c2,rfl,_,hd⟩;apply B;iterate 13 apply bW
   exact⟨f,U A2 0 c2,vN,vD,rfl,rfl,o.t hd A2 c2⟩
  rotate_left 2
  ·rintro _ _ u K ⟨b0,b1,b2,b3,b4,_,b6,b7,b8,b9,b10,b11,b12,f,vT,vN,vD,rfl,h2,o⟩ h B
   repeat obtain⟨rfl,h⟩:=h
   subst h2;go_simp;refine(ac u (o.1 rfl)).mono ?_;rintro e w2 ⟨v,rfl,hown,hd⟩;obtain⟨I,F,rfl,au,_,_⟩:=hown.shape;exact B _ _ ⟨b0,b1,b2,G,G,G,G,b7,b8,O,O,O,O,f,vT,U I (Gp.IC l k).length F,vD,rfl,rfl,o.n hd au⟩
  rotate_left 2
  ·rintro _ _ u K ⟨b0,b1,b2,b3,b4,_,b6,b7,b8,b9,b10,b11,b12,f,vT,vN,vD,rfl,h2,o⟩ h B
   repeat obtain⟨rfl,h⟩:=h
   subst h2;go_simp;refine(ab u (o.1 rfl)).mono ?_;rintro e w2 ⟨v,rfl,hown,hd⟩;obtain⟨J,c4,rfl,au,_,_⟩:=hown.shape;exact B _ _ ⟨b0,b1,b2,G,G,G,G,G,G,G,O,O,O,f,vT,vN,U J (Gp.J8 l k).length c4,rfl,rfl,o.d hd au⟩
  ·rintro _ _ u K ⟨b0,b1,b2,b3,b4,_,b6,b7,b8,b9,b10,b11,b12,f,vT,vN,vD,rfl,h2,o⟩ h B
   repeat obtain⟨rfl,h⟩:=h
   subst h2;obtain⟨A2,c2,rfl⟩:=o.2.1 rfl;obtain⟨I,F,rfl,_⟩:=o.2.2.1 rfl;obtain⟨J,c4,rfl,_⟩:=o.2.2.2.1 rfl;go_simp;exact B _ _ ⟨b0,b1,G,G,G,G,G,G,G,G,G,O,O,f,U A2 0 c2,U I (Gp.IC l k).length F,U J (Gp.J8 l k).length c4,rfl,rfl,o⟩
  rotate_left 1
  ·rintro _ _ u K ⟨b0,b1,b2,b3,b4,_,b6,b7,b8,b9,b10,b11,b12,f,vT,vN,vD,rfl,h2,o⟩ h B
   repeat obtain⟨rfl,h⟩:=h
   subst h2;obtain⟨A2,c2,rfl⟩:=o.2.1 rfl;obtain⟨I,F,rfl,_⟩:=o.2.2.1 rfl;obtain⟨J,c4,rfl,_⟩:=o.2.2.2.1 rfl;rw[ps_ (by rfl)]
   have aV:=(S.up (o.1 rfl)).there HH
   refine wp_store_mid 121 _ _ rfl gp (k*28) (aZ ⟨j,Lf.new,[]⟩ ⟨A2,c2,V,0,I,F,Gp.IC l k,J,c4,Gp.J8 l k⟩).toArray rfl rfl aV pT (yN _ _) ?_;have hG:=o.st;unfold nX at hG;rw[R.out] at hG;exact B _ _ ⟨G,G,G,G,G,G,G,G,G,G,G,G,G,f,U A2 0 c2,U I (Gp.IC l k).length F,U J (Gp.J8 l k).length c4,rfl,rfl,hG⟩
  all_goals
   rintro _ _ u K ⟨b0,b1,b2,b3,b4,_,b6,b7,b8,b9,b10,b11,b12,f,vT,vN,vD,rfl,h2,o⟩ h B
   repeat obtain⟨rfl,h⟩:=h
   subst h2;go_simp;apply B;iterate 13 apply bW
   exact⟨f,vT,vN,vD,rfl,rfl,o⟩
 obtain rfl:k=l.length:=by omega
 have aB:=aJ (aC wr HM.I5)
 clear aC;go_wp2_with fail;refine(aB).mono ?_;rintro e w7 ⟨v,rfl,hown,hd⟩;obtain⟨A7,c7,rfl,aT,_,_⟩:=hown.shape;have T:=aJ (HM.up hd);have r:=T.I5.block al;obtain⟨_,_⟩:=VT ((aK w7 g 0 _ _ _ r).trans (rfl:_=X (VU V 0 0))) (aN w7 g 0 _ _ r);obtain⟨_,_⟩:=VT ((aK w7 g 1 _ _ _ r).trans (rfl:_=X (VU V 0 0))) (aN w7 g 1 _ _ r);obtain⟨_,_⟩:=VT ((aK w7 g 2 _ _ _ r).trans (rfl:_=X (Value.map V))) (aN w7 g 2 _ _ r);have HX:Hid (∃pb pc oA oc mp m,SG w0 (((w7.setCell ⟨g,0,V⟩ (U (X ⟨gp,0,V⟩) l.length l.length)).setCell ⟨g,2,V⟩ (.map (X gm))).setCell ⟨g,1,V⟩ (U A7 (Gp.IP l).length c7)) ⟨(((w7.setCell ⟨g,0,V⟩ (U (X ⟨gp,0,V⟩) l.length l.length)).setCell ⟨g,2,V⟩ (.map (X gm))).setCell ⟨g,1,V⟩ (U A7 (Gp.IP l).length c7)).heap.size,[],[]⟩ g pb pc oA oc mp (U V 0 0) (U V 0 0) m (Oc.Jg l)):=aJ (by
  have e1:=aO w7 g 0 _ _ (U (X ⟨gp,0,V⟩) l.length l.length) r
  have e2:=aO _ g 2 _ _ (.map (X gm)) e1
  have e3:=aO _ g 1 _ _ (U A7 (Gp.IP l).length c7) e2
  exact⟨_,_,_,_,_,_,T.sg H0 C aw aT hn r (((ay _ g 0 _).trans (ay _ g 2 _)).trans (ay _ g 1 _)) ((((H0.up T.I5).setCell (p:=⟨g,0,V⟩) C _).setCell (p:=⟨g,2,V⟩) C _).setCell (p:=⟨g,1,V⟩) C _) e3 (bM _)⟩)
 clear HM T aB hown aT hd r al D aw N aA H0 C HB;go_wp2;go_end0;exact⟨rfl,HX⟩
end
theorem rE:(WA.info? 65).map (fun i=>(i.zero,i.size,i.bytes))=X (X (VP #[Z Y 0,Q ⟨#[]⟩,K O,Z Y 0,U V 0 0,Z E 0,Z Y 0,Z Y 0]),8,88):=by kernel_rfl
def BN(j:Jd)(t:List Nat):List Oc.Ev:=⟨1,j.nm,G,0,[],0⟩::(if t=[] then [] else [⟨3,j.nm,O,0,t,0⟩])
def cW(l:List Jd):List Nat->List (List Nat)->List Oc.Ev
 |i::o,t::ts=>BN (l.getD i cE) t++cW l o ts
 |_,_=>[]
theorem oq(l:List Jd):∀(o:List Nat) (ts:List (List Nat)) (i:Nat) (t:List Nat),o.length=ts.length->cW l (o++[i]) (ts++[t])=cW l o ts++BN (l.getD i cE) t:=by
 intro o
 induction o with
 |nil=>
  intro ts i t h;have:ts=[]:=List.eq_nil_of_length_eq_zero h.symm;subst this;simp[cW]
 |cons a o ih=>
  intro ts i t h;cases ts with
  |nil=>simp at h
  |cons b ts=>
   simp at h
   show BN _ b++cW l (o++[i]) (ts++[t])=_
   rw[ih ts i t h];simp[cW]
structure Pc(w:Wt)(l:List Jd)(k:Nat)(v:Wu)(wr:Wt)(xs:List E3)(ts:List (List Nat)):Prop where
 own:IL wr w.heap.size 65 8 v xs.length (pY xs)
 rows:∀x∈xs,Ts wr 5 x.A (Jp x.e.data)
 P5:∀x∈xs,x.A=none\/0<x.e.data.length
 Qe:xs.map E3.e=cW l ((Gp.IP l).take k) ts
 len:ts.length=k
 PS:∀i t,ts[i]? =some t->Ky (l.getD ((Gp.IP l).getD i 0) cE) t
 I5:ID w wr
 JA:xs.length<=2*k
theorem Pc.up{wr':Wt}{l:List Jd}{xs:List E3}{ts:List (List Nat)}(h:Pc w l k v wr xs ts)(a:ID wr wr'):Pc w l k v wr' xs ts:=
 ⟨h.own.up a,fun x hx=>(h.rows x hx).up a,h.P5,h.Qe,h.len,h.PS,h.I5.up a,h.JA⟩
def tH(w:Wt)(l:List Jd)(e:Ending)(w':Wt):Prop:=
 ∃A c xs ts,e=VN (VO #[U A xs.length c,bC])/\OT w' A xs/\(∀x∈xs,x.A=V\/0<x.e.data.length)/\xs.map E3.e=cW l (Gp.IP l) ts/\ts.length=(Gp.IP l).length/\(∀i t,ts[i]? =X t->Ky (l.getD ((Gp.IP l).getD i 0) cE) t)/\xs.length<=2*(Gp.IP l).length/\ID w w'
theorem Pc.row{l:List Jd}{xs:List E3}{ts:List (List Nat)}(h:Pc w l k v wr xs ts)(x:E3)(b:IL w' w.heap.size 65 8 v' (xs.length+1) (pY xs++cM x))(a:wr.grownBy w' v.ownBlock)(hx:Ts wr 5 x.A (Jp x.e.data)):
  IL w' w.heap.size 65 8 v' (xs++[x]).length (pY (xs++[x]))/\(∀y∈xs++[x],Ts w' 5 y.A (Jp y.e.data))/\ID w w':=by
 have Kr:∀{A:Option Wv} {zs:List Wu},Ts wr 5 A zs->Ts w' 5 A zs:=fun c=>c.grown h.own (by decide) a
 refine⟨by rw[bF,<-pi];exact b,fun y hy=>?_,IL.IU h.I5 h.own (bM _) a⟩
 rcases VR.mp hy with h1|h1
 ·exact Kr (h.rows y h1)
 rw[VX.mp h1];exact Kr hx
def vm(w:Wt)(l:List Jd)(v5 a:Wu)(wr:Wt):Prop:=∃(k:Nat) (xs:List E3) (ts:List (List Nat)),k<=(Gp.IP l).length/\a=Z Y (k:Nat)/\Hid (Pc w l k v5 wr xs ts)
theorem tQ(A:Option Wv)(c:Nat)(l:List Jd)(w:Wt)(hl:JL w A l)(N:LJ l)(hp:∀j∈l,me j):
  Ww WA 5 #[U A l.length c] w (tH w l):=by
 have hn:=N.JA
 have af:=aJ (fun W (ho:ID w W)=>qd A c l W (hl.up ho) N)
 have HB:Hid (∀j∈l,j.IC.length<=1000000):=aJ (fun j hj=>by
  obtain⟨i,hi,e⟩:=Wp hj;have:=(N.each i hi).JA;rw[bD,bE hi] at this;rw[<-e];exact this)
 have aD:=aJ (fun W (ho:ID w W)=>uW A c l W (hl.up ho) (by omega) HB.out)
 have HL:=aJ hl
 have aE:=aJ hp
 have bk:(Gp.IP l).length<=32:=bN (Gp.Kc l).2 hn
 have aF:=aJ (aM w (H #[Z Y 0,Z Y 0,Z Y 0] 29))
 have ah:=aJ ((ID.refl w).alloc (H #[Z Y 0,Z Y 0,Z Y 0] 29))
 clear hl N hp HB;unfold bC at af;go_enter func5,ntmps5;go_upto_region 1 with fail
 generalize w.alloc (H #[Z Y 0,Z Y 0,Z Y 0] 29)=w0 at *;go_wp2_with fail;refine(af.out _ ah.out).mono ?_;rintro e w1 ⟨rfl,aq⟩;have aG:=aJ (aq.block aF.out);have aB:=aJ (ah.out.up aq);clear af aF ah aq;go_upto_region 5 with fail
 generalize a5:w1.alloc _=w2;have ao:ID w1 w2:=by rw[<-a5];exact(ID.refl w1).alloc _
 have aI:=aJ (ao.block aG.out)
 have ai:=aJ (aB.out.up ao)
 clear a5 ao aG aB;go_wp2_with fail;refine(aD.out _ ai.out).mono ?_;rintro e w3 ⟨v,rfl,hown,ar⟩;obtain⟨oA,oc,rfl,a3,_,_⟩:=hown.shape;have aR:=aJ a3;have am:=aJ (ar.block aI.out);have aj:=aJ (ai.out.up ar);clear hown a3 ar aD aI ai;have aa:Hid (vm w3 l (U V 0 0) (Z Y ((0:Nat):Int)) w3):=aJ ⟨0,[],[],bO _,rfl,aJ ⟨IL.Jk _ _ _ _,fun x hx=>by simp at hx,fun x hx=>by simp at hx,rfl,rfl,fun i t h=>by simp at h,ID.refl _,bM _⟩⟩
 have bc:w.heap.size<w3.heap.size:=aQ am.out
 obtain⟨kr,s⟩:∃kr,w.heap.size=kr:=⟨_,rfl⟩
 rw[s] at am bc;have a8:=aJ s;clear s;go_wp2;go_loopw [5,19] (fun v5 bf wr=>vm w3 l v5 bf wr) (fun _ x _=>(Gp.IP l).length-(intOf x).toNat)
 case atStart=>exact aa.out
 clear aa;obtain⟨k,xs,ts,hk,rfl,HM⟩:=hrel;have F:=aJ HM.out.I5
 by_cases S:k<(Gp.IP l).length
 ·have av:(Gp.IP l).getD k 0<l.length:=(Gp.Kc l).1 _ (gm_ S)
  obtain⟨_,_,rfl,_,aX⟩:=(aR.out.up F.out).rs.at_ (by simp[aW,aH];omega)
  have d0:=aX k _ (fR (Gp.IP l) k S)
  obtain⟨b,off,rfl,_,ab⟩:=(HL.out.up (aj.out.up HM.out.I5)).row (by omega)
  have aY:=ab _ av
  have T:wr.rangeAt b (off+(Gp.IP l).getD k 0*15) (ag (l.getD ((Gp.IP l).getD k 0) cE)):=by
   obtain⟨c0,c1,c2,_,c4,c5,c6,_,_,_,_,_,_,_,_⟩:=aY;intro j v hv;rcases j with _|_|_|_|_|_|_|_|_|_|_|_|_|_|_|j<;>first|(injection hv with hv;subst hv;assumption)|(simp[ag] at hv)
  have al:=aJ (aE.out (l.getD ((Gp.IP l).getD k 0) cE) (gm_ av))
  have ak:Hid ((Gp.IP l).take (k+1)=(Gp.IP l).take k++[(Gp.IP l).getD k 0]):=aJ (by
   rw[List.take_add_one,bE S,bD,bE S]
   rfl)
  have aL:Hid (((Gp.IP l).take k).length=ts.length):=aJ (by rw[List.length_take,HM.out.len];omega)
  have k0:(0:Int)<=(k:Int):=by omega
  have k1:(k:Int)<((Gp.IP l).length:Int):=by omega
  have k2:((Gp.IP l).length:Int)<=32:=by omega
  have k3:(((Gp.IP l).getD k 0:Nat):Int)<(l.length:Int):=by omega
  have k4:(0:Int)<=(((Gp.IP l).getD k 0:Nat):Int):=by omega
  have k5:(l.length:Int)<=32:=by omega
  have a7:Hid ((Gp.IP l).getD k 0=(Gp.IP l).getD k 0):=aJ rfl
  obtain⟨i,hi⟩:∃i,(Gp.IP l).getD k 0=i:=⟨_,rfl⟩
  have aC:=aJ hi
  rw[hi] at d0 T al ak k3 k4;obtain⟨j,hj⟩:∃j,l.getD i cE=j:=⟨_,rfl⟩
  have D:=aJ hj
  rw[hj] at T al;clear aX ab aY av hi hj a7;go_upto_region 9 with(first|(refine Wy rfl 63 _ rfl b (off+i*15) rfl (ag j) _ T underlying63 rfl dZ ?_)|(refine eU rfl 63 _ _ rfl _ rfl (ag j) rfl rfl dZ rfl (sU j) ?_;intro w4 au aV))
  simp only[Act.put];have a:=aJ (HM.out.up au);have g:=aJ aV;have a9:=aJ (F.out.up au);obtain⟨kj,aZ⟩:∃kj,wr.heap.size=kj:=⟨_,rfl⟩
  rw[aZ] at g ⊢;clear aZ aV au HM F T d0;have bb:=cr_ g.out 0 (Q j.nm);have bi:=a.out.JA;have a6:Hid (w3.heap.size<=w4.heap.size):=aJ a.out.I5.size;go_wp2_with (at_builtin;refine aw (wr:=w4) rfl _ _ 26 rfl _ 65 (VP #[Z Y 0,Q ⟨#[]⟩,K O,Z Y 0,U V 0 0,Z E 0,Z Y 0,Z Y 0]) 8 88 underlying26 rE rfl (by decide) (by decide) _ _ _ rfl a.out.own 1 1 [Z Y 1,Q j.nm,K G,Z Y 0,U V 0 0,Z E 0,Z Y 0,Z Y 0] rfl rfl rfl rfl ?pn1 a6.out ?_)
  case pn1=>omega
  intro v' w5 ho P hd;obtain⟨ap,aT,aU⟩:=a.out.row ⟨⟨1,j.nm,G,0,[],0⟩,V,0⟩ ho P (bX rfl);have ad:Hid (w5.heap[kj]? =X (H (ag j).toArray 63 (0,0))):=aJ (by
   rcases eH a.out.own with e|⟨q,cur,e,_,hq⟩
   ·rw[e] at P;exact(ew P).block g.out
   rw[e] at P;refine(P.block kj (aQ g.out) (fun e2=>?_)).trans g.out
   injection e2 with e2
   have h1:=g.out
   rw[e2,hq] at h1;have h2:=bQ h1;injection h2 with e1 e3 e4
   exact absurd e3 (by decide))
  obtain⟨A5,c5,rfl,_,_,_⟩:=ap.shape;have B:=aJ (VT ap (VT aT aU));have C:=aJ a.out.Qe;have L:=aJ a.out.PS;have m:=aJ a.out.P5;have n:=a.out.len;have ax:(xs++[(⟨⟨1,j.nm,G,0,[],0⟩,V,0⟩:E3)]).length=xs.length+1:=by simp
  clear ap aT aU ho P hd a a9 g bb;have a2:=sW ad.out;have aS:=aJ (show Ww WA 17 #[VP (ag j).toArray] w5 _ from xT j w5 al.out)
  go_wp2_with (refine Wy rfl 63 _ rfl kj 0 rfl (ag j) _ a2 underlying63 rfl dZ ?_)
  refine aS.out.mono ?_;rintro e w6 ⟨A6,c6,t,rfl,a4,ac,r⟩;have o:=aJ (B.out.2.2.up r);have f:=aJ (B.out.1.up r);have I:=aJ (fun y hy=>(B.out.2.1 y hy).up r)
  have ae:=aJ (r.block ad.out)
  have an:=aJ a4
  have J:=aJ ac
  clear a4 ac r aS a2 B ad
  by_cases ht:t=[]
  ·subst ht;have HX:Hid (vm w3 l (U A5 (xs++[(⟨⟨1,j.nm,G,0,[],0⟩,V,0⟩:E3)]).length c5) (Z Y ((k+1:Nat):Int)) w6):=aJ ⟨k+1,xs++[⟨⟨1,j.nm,G,0,[],0⟩,V,0⟩],ts++[[]],by omega,rfl,aJ ⟨f.out,I.out,fun y hy=>by
     rcases VR.mp hy with h1|h1
     ·exact m.out y h1
     ·rw[VX.mp h1];exact bX rfl,by
     rw[ak.out,oq _ _ _ _ _ aL.out,Wb,C.out,D.out]
     rfl,by simp[n],fun q u d=>by
     rw[Wq] at d;split at d
     ·exact L.out q u d
     next hq=>
     have az:q=k:=by
      rcases Wc q (k+1) with h|h
      ·omega
      rw[bI (by simp;omega)] at d;cases d
     subst az;rw[n,Wr] at d;injection d with d
     subst d;rw[aC.out,D.out];exact J.out,o.out,by rw[ax];omega⟩⟩
   rw[ax] at HX;clear f I C L m an J ae o;go_wp2;go_roundw
   case rel=>exact HX.out
   simp[intOf];omega
  have be:0<t.length:=List.length_pos_iff.mpr ht
  have bj:=cr_ ae.out 0 (Q j.nm)
  have aA:Hid (w3.heap.size<=w6.heap.size):=aJ o.out.size
  have bh:(0:Int)<(t.length:Int):=by omega
  rw[ax] at f;go_wp2_with (at_builtin;refine aw (wr:=w6) rfl _ _ 26 rfl _ 65 (VP #[Z Y 0,Q ⟨#[]⟩,K O,Z Y 0,U V 0 0,Z E 0,Z Y 0,Z Y 0]) 8 88 underlying26 rE rfl (by decide) (by decide) _ _ _ rfl f.out 1 1 [Z Y 3,Q j.nm,K O,Z Y 0,U A6 t.length c6,Z E 0,Z Y 0,Z Y 0] rfl rfl rfl rfl ?pn2 aA.out ?_)
  case pn2=>omega
  intro v7 w7 a1 R ba;have a0:(xs++[(⟨⟨1,j.nm,G,0,[],0⟩,V,0⟩:E3)]++[(⟨⟨3,j.nm,O,0,t,0⟩,A6,c6⟩:E3)]).length=xs.length+1+1:=by simp
  have HX:Hid (vm w3 l v7 (Z Y ((k+1:Nat):Int)) w7):=aJ ⟨k+1,xs++[⟨⟨1,j.nm,G,0,[],0⟩,V,0⟩]++[⟨⟨3,j.nm,O,0,t,0⟩,A6,c6⟩],ts++[t],by omega,rfl,aJ ⟨by rw[a0,<-pi];exact a1,fun y hy=>by
    rcases VR.mp hy with h1|h1
    ·exact(I.out y h1).grown f.out (by decide) R
    ·rw[VX.mp h1];exact an.out.grown f.out (by decide) R,fun y hy=>by
    rcases VR.mp hy with h1|h1
    ·rcases VR.mp h1 with h2|h2
     ·exact m.out y h2
     rw[VX.mp h2];exact bX rfl
    ·rw[VX.mp h1];exact bY be,by
    rw[ak.out,oq _ _ _ _ _ aL.out,Wb,Wb,C.out,D.out];unfold BN;rw[ng_ ht,V1]
    rfl,by simp[n],fun q u d=>by
    rw[Wq] at d;split at d
    ·exact L.out q u d
    next hq=>
    have az:q=k:=by
     rcases Wc q (k+1) with h|h
     ·omega
     rw[bI (by simp;omega)] at d;cases d
    subst az;rw[n,Wr] at d;injection d with d
    subst d;rw[aC.out,D.out];exact J.out,IL.IU o.out f.out (bM _) R,by rw[a0];omega⟩⟩
  clear f I C L m an J ae o a1 R ba;go_wp2;go_roundw
  case rel=>exact HX.out
  simp[intOf];omega
 obtain rfl:k=(Gp.IP l).length:=by omega
 have a':=a8.out
 subst a';have z:=F.out.block am.out;obtain⟨c0,_⟩:=VT ((aK wr w.heap.size 0 _ _ _ z).trans (rfl:_=X (Wd Y 0))) (aN wr w.heap.size 0 _ _ z);obtain⟨c1,f1⟩:=VT ((aK wr w.heap.size 1 _ _ _ z).trans (rfl:_=X (Wd Y 0))) (aN wr w.heap.size 1 _ _ z);obtain⟨c2,f2⟩:=VT ((aK wr w.heap.size 2 _ _ _ z).trans (rfl:_=X (Wd Y 0))) (aN wr w.heap.size 2 _ _ z);obtain⟨A5,c5,rfl,_,_,_⟩:=HM.out.own.shape;have HX:Hid (tH w l (VN (VO #[U A5 xs.length c5,VP #[Z Y 0,Z Y 0,Z Y 0]])) (((wr.setCell ⟨w.heap.size,0,V⟩ (Z Y 0)).setCell ⟨w.heap.size,1,V⟩ (Z Y 0)).setCell ⟨w.heap.size,2,V⟩ (Z Y 0))):=aJ (by
  have bg:∀{W:Wt} {cs:Array Wu},W.heap[w.heap.size]? =X (H cs 29 (0,0))->∀i,W.grownBy (W.setCell ⟨w.heap.size,i,V⟩ (Z Y 0)) (X w.heap.size):=fun h i=>ay _ w.heap.size i _
  have e1:=aO wr w.heap.size 0 _ _ (Z Y 0) z
  have e2:=aO _ w.heap.size 1 _ _ (Z Y 0) e1
  have P:=((ay wr w.heap.size 0 (Z Y 0)).trans (ay _ w.heap.size 1 (Z Y 0))).trans (ay _ w.heap.size 2 (Z Y 0))
  have hm:=HM.out
  obtain⟨A6,c6,e6,bd,_,_⟩:=(hm.own.I4 z P (by decide)).shape
  injection e6 with e61 e62 e63
  subst e61;refine⟨A5,c5,xs,ts,rfl,⟨bd.rs,fun x hx=>((hm.rows x hx).I4 z P (by decide)).rs⟩,hm.P5,by rw[hm.Qe,List.take_length],hm.len,hm.PS,hm.JA,?_⟩
  exact(((aj.out.up hm.I5).setCell (p:=⟨w.heap.size,0,V⟩) (bM _) _).setCell (p:=⟨w.heap.size,1,V⟩) (bM _) _).setCell (p:=⟨w.heap.size,2,V⟩) (bM _) _)
 clear HM aR HL aE z aj;go_wp2;refine aP (v:=VO #[U A5 xs.length c5,VP #[Z Y 0,Z Y 0,Z Y 0]]) (by simp[results,results5,go_sem,c0,c1,c2]) rfl ?_
 exact HX.out
section
variable {P : Program} {w : Wt} {ops : Array Oper} {rest : List Oper} {o : Oper} {a : Act} {Q : Exit -> Act -> Wt -> Prop}
theorem iR(q:o.guard=V)(s x:Operand)(t:Wx)
  (W:o.op= .call {callee:= .builtin .append,args:=#[s,x],argTypes:=#[t,t]})
  (base:Nat) (e:Wx) (z:Wu) (size bytes:Nat) (S:P.underlying t=X (.slice e))
  (hi:(P.info? e).map (fun i=>(i.zero,i.size,i.bytes))=X (X z,size,bytes)) (B:z.cells.size=size) (hsz:0<size) (J:bytes<=1024)
  (v:Wu) (n:Nat) (xs:List Wu) (hs:a.eval s=v) (hown:IL w base e size v n xs)
  (A:Option Wv) (m c:Nat) (d:List Wu) (hx:a.eval x=U A m c) (hr:Rs w A d) (L:d.length=m*size) (h1:d.all VS=G)
  (hn:n+m<=68719476736) (k:base<=w.heap.size) (hm:A=V\/0<m)
  (h:∀v' w',IL w' base e size v' (n+m) (xs++d)->w.grownBy w' v.ownBlock->nM w v v'->wpList P ops Q rest (a.put o.dst v') w'):wpList P ops Q (o::rest) a w:=by
 obtain⟨i,l,hz,g,p⟩:=info_parts hi;have aa:(n+m)*bytes<=68719476736*1024:=Nat.mul_le_mul hn J;cases A with
 |none=>
  obtain rfl:=hr.LD;obtain rfl:m=0:=by
   rcases Nat.eq_zero_or_pos m with D|D
   ·exact D
   have:=Nat.mul_pos D hsz;simp at L;omega
  refine wpList_plain q fun K I=>?_
  have y:=dP (P:=P) (w:=w) base t o.type e i size S l v n xs hown c
  unfold Oper.wp;simp[execOp,W,resolve,invoke,builtin,hs,hx,y,Result.andThen];exact I _ _ (h v w (by simpa using hown) (World.grownBy.refl _ _) (bX rfl))
 |some ad=>
  have N:0<m:=by grind
  have f:∀j u,d[j]? =X u->w.cell? (ad.add j)=X u:=by
   intro j u hu;rcases hr with rfl|⟨b,off,F,hc⟩
   ·simp at hu
   injection F with F
   subst F;rw[Addr.add_lit];exact hc j u hu
  refine wpList_plain q fun K I=>?_
  obtain⟨v',w',r,h2,h3,_⟩:=run_append_own (P:=P) w base t o.type e i z size bytes S l hz g p B hsz v n xs hown ad m c d L f (by simpa using h1)
   (by unfold maxLen;omega) (by omega) k
  have T:=fy (P:=P) (w:=w) base t o.type e i z size bytes S l hz g p B hsz v n xs hown ad m c d L f (by simpa using h1)
   (by unfold maxLen;omega) (by omega) N v' w' r
  have R:nM w v v':=by
   rcases T with C|C
   ·exact bX C
   exact bY ⟨_,C,bM _⟩
  unfold Oper.wp execOp;simp only[W,resolve,invoke,builtin,Sem.run_bind,Sem.run_pure,Result.andThen_ok,List.map_toArray,List.map_cons,List.map_nil,hs,hx,r];exact I _ _ (h v' w' h2 h3 R)
end
theorem nz:(WA.info? 5).map (fun i=>(i.zero,i.size,i.bytes))=X (X (Z .u8 0),1,1):=by kernel_rfl
section
variable {w0 w w' : Wt} {B : BP} {g pb pc : Nat} {oA : Option Wv} {oc : Nat} {mp dv av : Wu} {m : Nat -> Pm} {s : Oc.St}
theorem cP(A:Option Wv)(n c:Nat):(VU A n c).ownBlock=oB A:=by cases A<;>rfl
theorem SG.K0(h:SG w0 w B g pb pc oA oc mp dv av m s)(I:i<s.pl.length){A':Option Wv}{c':Nat}{t:List Nat}
  (ho:IL w' w0.heap.size 5 1 (U A' ((Oc.p s i).out.length+t.length) c') ((Oc.p s i).out.length+t.length) (Jp (Oc.p s i).out++Jp t)) (o:w.grownBy w' (VU (m i).oA (Oc.p s i).out.length (m i).oc).ownBlock)
  (af:nM w (U (m i).oA (Oc.p s i).out.length (m i).oc) (U A' ((Oc.p s i).out.length+t.length) c')):
  w'.cell? ⟨pb,i*28+25,V⟩=X (U (m i).oA (Oc.p s i).out.length (m i).oc)/\w'.frozen? ⟨pb,i*28+25,V⟩=O/\
  SG w0 (w'.setCell ⟨pb,i*28+25,V⟩ (U A' ((Oc.p s i).out.length+t.length) c')) B g pb pc oA oc mp dv av (BT m i {m i with oA:=A',oc:=c'}) (Proofs.YtflccikncbhpdaaGreatDoor.Km s i {Oc.p s i with out:=(Oc.p s i).out++t}):=by
 have ae:=h.rows.Ku i I
 have d:=eH ae
 rw[cP] at o d;obtain⟨cur,hb,hs,hc⟩:=h.pl;have Kr:∀{e:Wx} {A:Option Wv} {xs:List Wu},Ts w e A xs->5≠e->Ts w' e A xs:=by
  intro e A xs C hn;rcases d with f|⟨q,y,f,_,u⟩
  ·rw[f] at o;exact C.up (ew o)
  rw[f] at o;exact C.I4 u o hn.symm
 have W:∀{B2:Nat} {e:Wx} {sz:Nat} {v:Wu} {n:Nat} {xs:List Wu},IL w B2 e sz v n xs->5≠e->IL w' B2 e sz v n xs:=by
  intro B2 e sz v n xs C hn;rcases d with f|⟨q,y,f,_,u⟩
  ·rw[f] at o;exact C.up (ew o)
  rw[f] at o;exact C.I4 u o hn.symm
 have hne:∀{k:Nat} {cs:Array Wu} {t:Wx} {z:Nat×Nat},w.heap[k]? =X (H cs t z)->5≠t->w'.heap[k]? =w.heap[k]?:=by
  intro k cs t z hk hn;refine o.block k (aQ hk) ?_;rcases d with e|⟨q,y,e,_,u⟩
  ·rw[e];simp
  rw[e];intro e3;injection e3 with e3
  subst e3;rw[u] at hk;have hk2:=bQ hk;injection hk2 with T f e3
  exact hn f
 have hO:ID w0 w':=IU h.I5 o (fun q e=>by
  rcases d with f|⟨q2,y,f,ah,u⟩
  ·rw[f] at e;cases e
  rw[f] at e;injection e with e;omega)
 have c:=(hne hb (by decide)).trans hb
 have ab:=(hne h.st (by decide)).trans h.st
 have l:=ay w' pb (i*28+25) (U A' ((Oc.p s i).out.length+t.length) c')
 have b:=kO s i {Oc.p s i with out:=(Oc.p s i).out++t}
 have R:Oc.Js (Proofs.YtflccikncbhpdaaGreatDoor.Km s i {Oc.p s i with out:=(Oc.p s i).out++t})=Oc.Js s:=jH s rfl
 have N:Oc.IP (Proofs.YtflccikncbhpdaaGreatDoor.Km s i {Oc.p s i with out:=(Oc.p s i).out++t})=Oc.IP s:=by unfold Oc.IP;rw[R]
 have P:=(hc i I 25 (by decide))
 refine⟨(aK w' pb _ _ _ _ c).trans (P.trans rfl),aN w' pb _ _ _ c,?_⟩;have J:∀k,k<s.pl.length->k≠i->IL w' w0.heap.size 5 1 (U (m k).oA (Oc.p s k).out.length (m k).oc) (Oc.p s k).out.length (Jp (Oc.p s k).out):=by
  intro k hk S;refine bT (h.rows.Ku k hk) o ?_;rw[cP];cases hv:oB (m k).oA with
  |none=>exact bX rfl
  |some q=>exact bY (fun e=>h.rows.ap k i hk I S q hv e.symm)
 refine⟨hO.setCell (p:=⟨pb,i*28+25,V⟩) h.pB _,h.gB,h.pB,?_,⟨cur.setIfInBounds (i*28+25) (U A' ((Oc.p s i).out.length+t.length) c'),aO w' pb _ _ _ _ c,by rw[Array.size_setIfInBounds,b];exact hs,?_⟩,by rw[b];exact h.pc,⟨?_,?_,?_,?_,?_,?_,?_,?_⟩,(W h.IV (by decide)).I4 c l (by decide),⟨h.BB.1,bN (bN h.BB.2 o.size) l.size⟩,by rw[b];exact h.JA,?_,fun r hr=>⟨(Kr (h.Lm r hr).1 (by decide)).I4 c l (by decide),(h.Lm r hr).2⟩,fun r hr=>(Kr (h.Mb r hr) (by decide)).I4 c l (by decide)⟩
 ·rw[aL w' ⟨pb,i*28+25,V⟩ g _ (fun e=>h.gk e.symm),b,N]
  exact ab
 ·intro i2 D k hk;rw[b] at D
  by_cases e:i2=i
  ·subst e;rw[dq s _ I,cD]
   by_cases ad:k=25
   ·subst ad;rw[Array.getElem?_setIfInBounds_self];rw[ps_ (by rw[hs];omega)]
    show X (VU A' ((Oc.p s i2).out.length+t.length) c')=X (VU A' ((Oc.p s i2).out++t).length c')
    rw[bF]
   rw[Ws (by omega),hc i2 I k hk]
   rcases Wc k 25 with h1|h1
   ·have T:∀q:Oc.Pl,∀x:Pm,(aZ q x)[k]? =(ag q.j++cC q.x x.tA x.tc)[k]?:=fun q x=>by
     unfold aZ;rw[<-V1,bJ (by simp[cL,cC];omega)]
    rw[T,T]
   obtain rfl|rfl:k=26\/k=27:=by omega
   ·rfl
   rfl
  rw[eo s _ e,bf e,Ws (by omega)]
  exact hc i2 D k hk
 ·rw[N];exact(Kr h.rows.ord (by decide)).I4 c l (by decide)
 ·intro k hk;rw[b] at hk;have hj:=h.rows.jm k hk;have ac:JT w' (Oc.p s k).j:=⟨Kr hj.IJ (by decide),Kr hj.IC (by decide),Kr hj.IK (by decide),hj.eb,hj.nb,hj.lb⟩
  have aa:=ac.I4 c l (by decide) (by decide) (by decide)
  by_cases e:k=i
  ·subst e;rw[dq s _ I];exact aa
  rw[eo s _ e];exact aa
 ·intro k hk;rw[b] at hk;have C:=(Kr (h.rows.I0 k hk) (by decide)).I4 c l (by decide)
  by_cases e:k=i
  ·subst e;rw[dq s _ I,cD];exact C
  rw[eo s _ e,bf e];exact C
 ·intro k hk;rw[b] at hk;rw[R];have C:=(Kr (h.rows.IC k hk).2 (by decide)).I4 c l (by decide)
  by_cases e:k=i
  ·subst e;rw[cD];exact⟨(h.rows.IC k hk).1,C⟩
  rw[bf e];exact⟨(h.rows.IC k hk).1,C⟩
 ·intro k hk;rw[b] at hk;have C:=(Kr (h.rows.J8 k hk) (by decide)).I4 c l (by decide)
  by_cases e:k=i
  ·subst e;rw[cD];exact C
  rw[bf e];exact C
 ·intro k hk;rw[b] at hk
  by_cases e:k=i
  ·subst e;rw[dq s _ I,cD];have T:((Oc.p s k).out++t).length=(Oc.p s k).out.length+t.length:=bF;have f:Jp ((Oc.p s k).out++t)=Jp (Oc.p s k).out++Jp t:=by simp[Jp]
   show IL _ _ _ _ (U A' ((Oc.p s k).out++t).length c') ((Oc.p s k).out++t).length (Jp ((Oc.p s k).out++t))
   rw[T,f];exact ho.I4 c l (by decide)
  rw[eo s _ e,bf e];exact(J k hk e).I4 c l (by decide)
 ·refine Qw.I4 ?_ c l (by decide)
  show Qw w' _ _ dv s.JU.length (ef s.JU)
  rcases d with f|⟨q,y,f,_,u⟩
  ·rw[f] at o;exact h.rows.JU.up (ew o)
  rw[f] at o;exact h.rows.JU.I4 u o (by decide)
 ·intro a k ha hk F r h1;rw[b] at ha hk;have L:∀k,k<s.pl.length->k≠i->∀r,oB A'=X r->oB (m k).oA≠X r:=by
   intro k hk S r h1 h2;rcases af with e|⟨r2,e,ai⟩
   ·rw[cP,cP,h1] at e;exact h.rows.ap i k I hk (fun e=>S e.symm) r e.symm h2
   rw[cP,h1] at e;injection e with e
   have:=bU (h.rows.Ku k hk) r (by rw[cP];exact h2)
   omega
  by_cases e:a=i
  ·subst e;rw[cD] at h1;rw[bf (fun f=>F f.symm)]
   exact L k hk (fun f=>F f.symm) r h1
  rw[bf e] at h1
  by_cases f:k=i
  ·subst f;rw[cD];intro h3;exact L a ha e r h3 h1
  rw[bf f];exact h.rows.ap a k ha hk F r h1
 rw[R];obtain⟨q2,k2,hm,D⟩:=h.map;refine⟨q2,k2,hm,KG.I4 ?_ c l⟩;rcases d with f|⟨q,y,f,_,u⟩
 ·rw[f] at o;exact D.up (ew o)
 rw[f] at o;exact D.I4 u o
end
def G0(w9:Wt)(s1:Oc.St)(m':Nat->Pm)(i g pb:Nat)(p2 p3 p4 p5 p7 p8 p9 h k l m n o q r s t u w x y z A B C D F I J L N P R S T W aa ab ac ad ae af ag ah ai aj ak al am an ao ap aq:Wu)(b:Array Bool)(a:Act)(ww:Wt):Prop:=
 ∃(b0 b1 b2 b3 b4 b5 b6 b7 b8 b9 b10 b11 b12 c b14 d e:Bool) (f:Nat) (ar:Wu),b=#[b0,b1,b2,b3,b4,b5,b6,b7,b8,b9,b10,b11,b12,c,b14,d,e]/\
  a={tmps:=#[M (X ⟨g,0,V⟩),Z Y (i:Int),p2,p3,p4,p5,M (X ⟨pb,i*28,V⟩),p7,p8,p9,h,k,l,m,n,o,q,r,s,t,u,w,x,y,z,A,B,C,D,F,I,cond b0 (M (X ⟨pb,i*28,V⟩)) (J),cond b1 (M (X ⟨pb,i*28,V⟩)) (L),cond b2 (M (X ⟨pb,i*28+15,V⟩)) (N),cond b3 (M (X ⟨pb,i*28+15,V⟩)) (P),cond b4 (Z Y 3) (R),cond b5 (K G) (S),cond b6 (K G) (T),cond b7 (M (X ⟨pb,i*28,V⟩)) (W),cond b8 (M (X ⟨pb,i*28,V⟩)) (aa),cond b9 (M (X ⟨pb,i*28,V⟩)) (ab),cond b10 (dm (Oc.p s1 i).j) (ac),cond b11 (M (X ⟨pb,i*28,V⟩)) (ad),cond b12 (M (X ⟨pb,i*28,V⟩)) (ae),cond c (M (X ⟨pb,i*28+25,V⟩)) (af),cond b14 (U (m' i).oA (Oc.p s1 i).out.length (m' i).oc) (ag),cond d (K (Oc.Jr (Oc.p s1 i).j (Oc.p s1 i).out)) (ah),cond e (K (Oc.Jr (Oc.p s1 i).j (Oc.p s1 i).out)) (ai),aj,ak,al,am,an,ao,ap,aq],defers:=[]}/\ID w9 ww
section
variable {w0 w w' : Wt} {B : BP} {g pb pc : Nat} {oA : Option Wv} {oc : Nat} {mp dv av : Wu} {m : Nat -> Pm} {s : Oc.St}
def eJ(s:Oc.St)(i:Nat)(t:List Nat):List Nat:=if(Oc.p s i).x.ph=3\/(Oc.p s i).x.ph=4 then(Oc.p s i).out++t else(Oc.p s i).out
def K0(s:Oc.St)(i:Nat)(t:List Nat):Oc.St:=
 if(Oc.p s i).x.ph=3/\Oc.Jr (Oc.p s i).j (eJ s i t)=G then Oc.LF (Km s i {Oc.p s i with out:=eJ s i t}) i (Lf.matched (Oc.p s i).x) else Km s i {Oc.p s i with out:=eJ s i t}
theorem vV(s:Oc.St)(a:i<s.pl.length):Km s i (Oc.p s i)=s:=by
 have e:s.pl.set i (Oc.p s i)=s.pl:=by
  apply V3;intro k;rw[V4];split
  ·next h=>subst h;simp[a,Oc.p]
  rfl
 unfold Km;rw[e]
theorem wD{K:Nat}(h:SG w0 w B g pb pc oA oc mp dv av m s)(hI:Oc.I K s)(J:K<=10000000)(i:Nat)(hi:i<s.pl.length)(A:Option Wv)(c:Nat)(t:List Nat)(hd:Rs w A (Jp t))(hb:∀b∈t,b<256)(hl:t.length<=10000000)(hm:A=V\/0<t.length):
  Ww WA 103 #[M (X ⟨g,0,V⟩),Z Y (i:Int),U A t.length c] w fun e w'=>e=VN (VO #[])/\∃n,SG w0 w' B g pb pc oA oc mp dv av n (K0 s i t):=by
 obtain⟨c0,_⟩:=h.cell 0 (v:=U (X ⟨pb,0,V⟩) s.pl.length pc) rfl;obtain⟨ay,_⟩:=h.Jt hi 15 (v:=Z Y (Oc.p s i).x.ph) (by decide) rfl
 have i0:(0:Int)<=(i:Int):=by omega
 have i1:(i:Int)<(s.pl.length:Int):=by omega
 have k:=aJ h
 have HI:=aJ hI
 have f:=aJ hi
 have HD:=aJ hd
 have HB:=aJ hb
 have HK:=aJ J
 clear h hI hd hb hi J;go_enter func103,ntmps103;go_upto_block 0 with fail
 go_cut [] (fun wx=>∃n,SG w0 wx B g pb pc oA oc mp dv av n (Km s i {Oc.p s i with out:=eJ s i t}))
 case first=>
  by_cases F:(Oc.p s i).x.ph=3
  ·have aj:Hid (eJ s i t=(Oc.p s i).out++t):=aJ (by unfold eJ;rw[ps_ (by rw[F];decide)])
   have q3:((Oc.p s i).x.ph==3)=G:=by rw[F];rfl
   have L:=aJ (fun A' c' w' r hg q=>k.K0 (w':=w') (A':=A') (c':=c') (t:=t) f r hg q)
   have N:=aJ (k.rows.Ku i f)
   have al:=aJ k.I5.size
   have az:=(k.Jt f 25 (v:=U (m i).oA (Oc.p s i).out.length (m i).oc) (by decide) rfl).1
   have aw:(Oc.p s i).out.length<=10000000:=bN (HI.pl i f).o.2 HK
   clear k HI F;have R:(Jp t).all VS=G:=by simp[Jp,V2,VS]
   have am:(Jp t).length=t.length*1:=by simp[Jp]
   go_wp2_with (at_builtin;refine iR rfl _ _ 40 rfl _ 5 (Z .u8 0) 1 1 underlying40 nz rfl (by decide) (by decide) _ _ _ (by rfl) N _ _ _ _ (by rfl) HD am R ?pnx al hm ?_)
   case pnx=>omega
   intro v' w' r hg q;obtain⟨A',c',rfl,_,_,_⟩:=r.shape;obtain⟨_,_,u⟩:=L A' c' w' r hg q;have P:=aJ u;clear r hg q u L N;go_wp2;go_meet
   case rel=>exact⟨_,by rw[aj.out];exact P⟩
  have n3:((Oc.p s i).x.ph==3)=O:=by simpa using F
  by_cases h4:(Oc.p s i).x.ph=4
  ·have aj:Hid (eJ s i t=(Oc.p s i).out++t):=aJ (by unfold eJ;rw[ps_ (by rw[h4];decide)])
   have q3:((Oc.p s i).x.ph==4)=G:=by rw[h4];rfl
   have L:=aJ (fun A' c' w' r hg q=>k.K0 (w':=w') (A':=A') (c':=c') (t:=t) f r hg q)
   have N:=aJ (k.rows.Ku i f)
   have al:=aJ k.I5.size
   have az:=(k.Jt f 25 (v:=U (m i).oA (Oc.p s i).out.length (m i).oc) (by decide) rfl).1
   have aw:(Oc.p s i).out.length<=10000000:=bN (HI.pl i f).o.2 HK
   clear k HI h4;have R:(Jp t).all VS=G:=by simp[Jp,V2,VS]
   have am:(Jp t).length=t.length*1:=by simp[Jp]
   go_wp2_with (at_builtin;refine iR rfl _ _ 40 rfl _ 5 (Z .u8 0) 1 1 underlying40 nz rfl (by decide) (by decide) _ _ _ (by rfl) N _ _ _ _ (by rfl) HD am R ?pnx al hm ?_)
   case pnx=>omega
   intro v' w' r hg q;obtain⟨A',c',rfl,_,_,_⟩:=r.shape;obtain⟨_,_,u⟩:=L A' c' w' r hg q;have P:=aJ u;clear r hg q u L N;go_wp2;go_meet
   case rel=>exact⟨_,by rw[aj.out];exact P⟩
  have n4:((Oc.p s i).x.ph==4)=O:=by simpa using h4
  have n6:((Oc.p s i).x.ph==6)=O:=by have:=(HI.pl i f).ph;rw[beq_eq_false_iff_ne];omega
  have P:Hid (SG w0 w B g pb pc oA oc mp dv av m (Km s i {Oc.p s i with out:=eJ s i t})):=aJ (by
   unfold eJ;rw[ng_ (by rintro(e|e)<;>contradiction)]
   rw[vV s f.out];exact k)
  clear k HI F h4;go_wp2;go_meet
  case rel=>exact⟨_,P⟩
 clear c0 ay k;obtain⟨n,u⟩:=hcut;have k:=aJ u;clear u;have ae:i<(Km s i {Oc.p s i with out:=eJ s i t}).pl.length:=by rw[kO];exact f
 have C:=dq s {Oc.p s i with out:=eJ s i t} f
 have ac:Hid ((∀b∈eJ s i t,b<256)/\(eJ s i t).length<=20000000):=aJ (by
  have h1:=(HI.pl i f).o
  have h2:=HK.out
  unfold eJ;split
  ·refine⟨fun b hb=>?_,by rw[bF];omega⟩
   rcases VR.mp hb with h|h
   ·exact h1.1 b h
   exact HB b h
  exact⟨h1.1,by omega⟩)
 have ad:=aJ (HI.pl i f)
 obtain⟨s1,aa⟩:∃s1,Km s i {Oc.p s i with out:=eJ s i t}=s1:=⟨_,rfl⟩
 rw[aa] at k ae C;have HC:=aJ (fun W (r:ID wc W)=>k.up r)
 have z:=aJ ae
 have T:(aZ (Oc.p s1 i) (n i))[15]? =X (Z Y (Oc.p s i).x.ph):=by rw[C];rfl
 have af:(Oc.p s1 i).j=(Oc.p s i).j:=by rw[C]
 have S:(Oc.p s1 i).out=eJ s i t:=by rw[C]
 have ah:(Oc.p s1 i).x=(Oc.p s i).x:=by rw[C]
 by_cases F:(Oc.p s i).x.ph=3
 ·have an:=aJ (fun W (r:ID wc W)=>rm (Oc.p s1 i).j (n i).oA (n i).oc (Oc.p s1 i).out W (by rw[af];exact ad.j) ((k.rows.Ku i ae).shape.elim fun A0 h0=>h0.elim fun c0 h1=>by
   obtain⟨e,ht,_⟩:=h1;injection e with e1 e2 e3
   subst e1;exact(ht.up r).rs) (by rw[S];exact ac.1) (by rw[S];have:=ac.out.2;omega))
  rw[F] at T;have ao:=aJ T;have HR:Hid (K0 s i t=if Oc.Jr (Oc.p s1 i).j (Oc.p s1 i).out=G then Oc.LF s1 i (Lf.matched (Oc.p s1 i).x) else s1):=aJ (by
   unfold K0;rw[aa,af,S,ah]
   by_cases hf:Oc.Jr (Oc.p s i).j (eJ s i t)=G
   ·rw[ps_ ⟨F,hf⟩,ps_ hf]
   rw[ng_ (fun e=>hf e.2),ng_ hf])
  have au:Hid ((Oc.p s1 i).x.I0.length<=68719476000):=aJ (by rw[ah,ad.out.t];exact bO _)
  clear C aa T af S ah ad F hl hm HI ac;go_upto_region 6 with fail
  refine ak [([],[]),([0],[]),([1],[]),([2],[]),([3,2,1,0],[5,6,7,8,9,10,11,12,13,14,15,16]),([4,3,2,1,0],[6,7,8,9,10,11,12,13,14,15,16]),([5],[]),([6],[]),([7,6],[]),([8,6],[]),([9,6,8,5,7,4,3,2,1,0],[15,16]),([6],[]),([11,6],[]),([12,6],[]),([13,6,12,5,11,4,3,2,1,0],[15,16]),([10,14,6,9,13,5,8,12,4,7,11,3,2,1,0],[16]),([6,15],[])] (G0 wc s1 n i g pb _ _ _ _ _ _ _ _ _ _ _ _ _ _ _ _ _ _ _ _ _ _ _ _ _ _ _ _ _ _ _ _ _ _ _ _ _ _ _ _ _ _ _ _ _ _ _ _ _ _ _ _ _) (⟨O,O,O,O,O,O,O,O,O,O,O,O,O,O,O,O,O,0,aR,rfl,rfl,(ID.refl wc).drew⟩) ?_ ⟨?_,?_,?_,?_,?_,?_,?_,?_,?_,?_,?_,?_,?_,?_,?_,?_,?_,trivial⟩
  ·rintro a D ⟨b0,b1,b2,b3,b4,_,b6,b7,b8,b9,b10,b11,b12,_,b14,_,_,d,l,hl,rfl,y⟩;have aq:=congrArg Array.toList hl;simp at aq;obtain⟨rfl,rfl,rfl,rfl,rfl,rfl,rfl,rfl,rfl,rfl,rfl,rfl,rfl,rfl,rfl,rfl,rfl⟩:=aq;clear hl;have HF:=aJ y;clear y an ao;cases ap:Oc.Jr (Oc.p s1 i).j (Oc.p s1 i).out with
   |false=>
    have P:Hid (SG w0 D B g pb pc oA oc mp dv av n (K0 s i t)):=aJ (by rw[HR.out,ap,ng_ (by decide)];exact HC D HF)
    clear HC HR;go_wp2;go_end0;exact⟨rfl,_,P⟩
   |true=>
    have ab:=aJ (HC D HF)
    have ar:=ab.Pr z
    have HM:=aJ (show Ww WA 176 #[VP (cC (Oc.p s1 i).x (n i).tA (n i).tc).toArray] D _ from wS (Oc.p s1 i).x (n i).tA (n i).tc D (ab.rows.I0 i z) au)
    clear HC k;go_wp2_with (refine Wy rfl 118 _ rfl pb (i*28+15) rfl (cC (Oc.p s1 i).x (n i).tA (n i).tc) _ ar underlying118 rfl jR ?_);refine HM.mono ?_;rintro e w2 ⟨A2,c2,rfl,ht,hd⟩;have ai:=aJ (ab.up hd);have ax:=ai.out.N1 z 15 10 (by omega)
    have P:Hid (SG w0 (w2.setCells pb (i*28+15) (cC (Lf.matched (Oc.p s1 i).x) A2 c2)) B g pb pc oA oc mp dv av (BT n i {n i with tA:=A2,tc:=c2}) (K0 s i t)):=aJ (by rw[HR.out,ap,ps_ rfl];exact ai.LF z ht)
    clear HM ab ai ht hd ar HR;rw[ET];go_wp2_with (refine Wz rfl 118 _ _ rfl pb (i*28+15) (cC (Lf.matched (Oc.p s1 i).x) A2 c2).toArray rfl rfl ax jR (zu _ _ _) ?_);go_end0;exact⟨rfl,_,P⟩
  rotate_left 4
  ·rintro _ _ D K ⟨b0,b1,b2,b3,b4,_,b6,b7,b8,b9,b10,b11,b12,_,b14,_,_,d,l,rfl,h2,y⟩ h J
   repeat obtain⟨rfl,h⟩:=h
   subst h2;have hc:=((HC D y).Jt z 15 (v:=Z Y 3) (by decide) ao).1
   go_simp;apply J;iterate 17 apply bW
   exact⟨d,l,rfl,rfl,y⟩
  rotate_left 5
  ·rintro _ _ D K ⟨b0,b1,b2,b3,b4,_,b6,b7,b8,b9,b10,b11,b12,_,b14,_,_,d,l,rfl,h2,y⟩ h J
   repeat obtain⟨rfl,h⟩:=h
   subst h2;rw[ps_ (by rfl)]
   refine wp_load_mid 63 _ rfl pb (i*28) rfl (ag (Oc.p s1 i).j) _ ((HC D y).OX z) underlying63 rfl dZ ?_;apply J;iterate 17 apply bW
   exact⟨d,l,rfl,rfl,y⟩
  rotate_left 3
  ·rintro _ _ D K ⟨b0,b1,b2,b3,b4,_,b6,b7,b8,b9,b10,b11,b12,_,b14,_,_,d,l,rfl,h2,y⟩ h J
   repeat obtain⟨rfl,h⟩:=h
   subst h2;have hc:=((HC D y).Jt z 25 (v:=U (n i).oA (Oc.p s1 i).out.length (n i).oc) (by decide) rfl).1
   go_simp;apply J;iterate 17 apply bW
   exact⟨d,l,rfl,rfl,y⟩
  ·rintro _ _ D K ⟨b0,b1,b2,b3,b4,_,b6,b7,b8,b9,b10,b11,b12,_,b14,_,_,d,l,rfl,h2,y⟩ h J
   repeat obtain⟨rfl,h⟩:=h
   subst h2;go_simp;refine(an D y).mono ?_;rintro e w2 ⟨rfl,hd⟩;apply J;iterate 17 apply bW
   exact⟨d,l,rfl,rfl,y.up hd⟩
  all_goals
   rintro _ _ D K ⟨b0,b1,b2,b3,b4,_,b6,b7,b8,b9,b10,b11,b12,_,b14,_,_,d,l,rfl,h2,y⟩ h J
   repeat obtain⟨rfl,h⟩:=h
   subst h2;go_simp;apply J;iterate 17 apply bW
   exact⟨d,l,rfl,rfl,y⟩
 have n3:((Oc.p s i).x.ph==3)=O:=by simpa using F
 have aA:=(k.Jt ae 15 (v:=Z Y (Oc.p s i).x.ph) (by decide) T).1
 have HR:Hid (K0 s i t=s1):=aJ (by unfold K0;rw[ng_ (fun e=>F e.1)];exact aa)
 clear C aa T af S ah ad F HC hl hm HI ac;go_upto_region 6 with fail
 go_quiet (fail)
 have P:Hid (∀W,ID wc W->SG w0 W B g pb pc oA oc mp dv av n (K0 s i t)):=aJ (fun W r=>by rw[HR.out];exact k.up r)
 clear k HR;go_wp2;go_end0;exact⟨rfl,_,P _ (ID.drewN (ID.refl _) _)⟩
end
end Go.Proofs.YtflccikncbhpdaaGreatDoor
