/- Part 2: walks and plain laws. -/
import Derived.Test.YtflccikncbhpdaaGreatDoorZy1
import Derived.Laws.StructEq
import Derived.Laws.CopyOwn
import Derived.Lib.SliceRun
import Derived.Maps.OwnSet
import Derived.DeepKeys4
import Derived.StillTailTactics
set_option maxHeartbeats 16000000
set_option maxRecDepth 100000
open Go.Lib renaming hid → aJ
open Go renaming cell_of_row → aK, heap_setCell_other → aL, heap_alloc_new → aM, frozen_of_row → aN, heap_setCell_same → aO, bodyPost_ret → aP, lt_of_block → aQ, undef → aR, World → Sm, Value → Sn, Addr → Sq, Calls → Sr, Oper → Ss, Ending → Su, TypeId → Sv, Program → Sw, DataW → Sx, MemPlace → Sy
open List renaming getD_eq_getElem?_getD → bD, getElem?_eq_getElem → bE, length_append → bF, length_singleton → bG, getElem_mem → bH, getElem?_eq_none → bI, getElem?_append_left → bJ, length_set → bK, length_map → bL, mem_append → Rn, length_take → Ro, append_assoc → Rt, replicate → Rv, mem_cons → Rz, map_append → RC, mem_map → RG, mem_singleton → RO, getElem?_toArray → RT, mem_iff_getElem → RU, length_drop → RX, any_eq_true → R0, dropLast_concat_getLast → R4, getElem?_append_right → R6, take_length → R7, nil_append → R_, length_nil → Sa, nodup_append → Sb, mem_or_eq_of_mem_set → Sc, set_cons_zero → Sd, set_append_right → Se, getElem?_set_self → Sg, take_add_one → Sh, flatten_cons → Si, ext_getElem? → Sk, setIfInBounds_toArray → Sl
open Nat renaming le_refl → bM, le_trans → bN, zero_le → bO, zero_add → Rq, add_zero → Rx, lt_of_lt_of_le → RB, zero_mul → RD, add_assoc → RE, le_of_lt → RS
open Option.some renaming inj → bQ
open Go.World.ownsRow renaming kept → bT, lt → bU
open Go.IntWalk renaming i64_in → bV
open Exists renaming intro → bW
open Or renaming inl → bX, inr → bY
variable {w w0 w' wb W ww w2:Go.World} {g B a k i cn ko m gm x q id a' D:Nat} {lv v v12 v' s1 sv:Go.Value} {L:List Nat} {An A:Option Go.Addr} {xs:List Go.Value} {r:Int} {cs:Array Go.Value} {fz:Nat×Nat} {b6:Bool}
open Go.Value renaming int → Z, slice → U, string → Q, pointer → M, bool → K, tuple → Rl, agg → Rm, int → Rr, ownBlock → RQ, bool → Sj
open Go.IntKind renaming i64 → Y, u64 → E, u64 → Ry, i64 → RH, u8 → R9
open Option renaming none → V, some → X, map → Sf
open Bool renaming false → O, true → G, and_eq_true → Ru, eq_iff_iff → RA, false_eq_true → RV, not_true → R5
open Go.Obj renaming cells → H
open Go.Ending renaming returned → Rk
open Go.Calls renaming quiet_of → Rp
open Go.Result renaming andThen_ok → RF
open Go.Region renaming wanted → RI, binds → RZ
open Go.Op renaming equalIn → RL
open Go.Sem renaming run_bind → RM, run_pure → RW
open Int renaming eq_ofNat_of_zero_le → RN
open Array renaming replicate → RR, toList → R8
open Go.Instr renaming lookup → RY
open Go.Proofs.Tryz renaming prog → Sz
open Go.Proofs.Tryz
namespace Go.Proofs.YtflccikncbhpdaaGreatDoor
open Go.RowKit Go.Shelf
set_option linter.unusedVariables false
theorem cX(q:Ps)(c:Int):(aB q c).at_=q.at_:=by grind [aB]
theorem ce(q:Ps)(c:Int):(aB q c).deep=q.deep:=by grind [aB]
theorem uX(q:Ps)(c:Int)(hc:c≠0):(aB q c).e≠0:=by grind [aB]
theorem cd(q:Ps):(iw q).at_=q.at_+1:=rfl
theorem cy(q:Ps):(iw q).deep=q.deep:=rfl
theorem aV(B:List Nat)(p:Ps):fu B p=G↔p.e=0/\p.at_<B.length:=by
 unfold fu;simp
theorem uY(B:List Nat)(p:Ps)(h:p.at_<=B.length):(rQ B p).2.at_<=B.length/\p.at_<=(rQ B p).2.at_/\(rQ B p).2.deep=p.deep:=by
 unfold rQ;split
 ·have key:∀c:Bool,(iw (if c=G then p else aB p 82)).at_=p.at_+1/\(iw (if c=G then p else aB p 82)).deep=p.deep:=by
   intro c;cases c
   ·exact⟨by show(aB p 82).at_+1=_;rw[cX],by show(aB p 82).deep=_;rw[ce]⟩
   exact⟨rfl,rfl⟩
  obtain⟨k1,k2⟩:=key (ni (j7 B p)).2.2
  show(iw (if(ni (j7 B p)).2.2=G then p else aB p 82)).at_<=_/\_<=(iw (if(ni (j7 B p)).2.2=G then p else aB p 82)).at_/\(iw (if(ni (j7 B p)).2.2=G then p else aB p 82)).deep=_
  rw[k1,k2];omega
 show(aB p 82).at_<=_/\_<=(aB p 82).at_/\(aB p 82).deep=_
 rw[cX,ce];omega
theorem j9(B:List Nat)(p:Ps)(h:p.at_<B.length):(aG B p).2.at_<=B.length/\p.at_<(aG B p).2.at_/\(aG B p).2.deep=p.deep:=by grind [aG,uY,iw,cd,cy,aB,cX,ce]
theorem rR(B:List Nat)(p:Ps)(h:p.at_<B.length):(fS B p).2.at_<=B.length/\p.at_<(fS B p).2.at_/\(fS B p).2.deep=p.deep:=by
 obtain⟨h1,h2,_⟩:=j9 B p h;unfold fS;simp only
 by_cases hm:fu B (aG B p).2=G/\j7 B (aG B p).2=45
 ·rw[ps_ hm];have b:=((aV _ _).1 hm.1).2
  by_cases hc:(aG B p).1.2=O\/B.length<=(iw (aG B p).2).at_
  ·rw[ps_ hc];simp only[cX,ce,cd,cy];omega
  rw[ng_ hc];rw[cd] at hc;have a:=j9 B (iw (aG B p).2) (by rw[cd];omega)
  rw[cd,cy] at a;simp only;split
  ·rw[cX,ce];omega
  omega
 grind
theorem iM(B:List Nat)(d:Bool):∀(f:Nat) (b:Bool) (z:Je) (p:Ps) (R:Je×Ps),p.at_<=B.length->cj B d f b z p=X R->R.2.at_<=B.length/\p.at_<=R.2.at_/\R.2.deep=p.deep
 |0,b,z,p,R,h,a=>by cases a
 |f+1,b,z,p,R,h,a=>by
  rw[cj] at a;split at a
  ·rename_i hm
   have e:=((aV _ _).1 hm).2
   split at a
   ·injection a with a
    subst a;have key:∀c:Bool,(iw (if c=G then aB p 80 else p)).at_=p.at_+1/\(iw (if c=G then aB p 80 else p)).deep=p.deep:=by
     intro c;cases c
     ·exact⟨rfl,rfl⟩
     exact⟨by show(aB p 80).at_+1=_;rw[cX],by show(aB p 80).deep=_;rw[ce]⟩
    obtain⟨k1,k2⟩:=key b
    show(iw (if b=G then aB p 80 else p)).at_<=_/\_<=(iw (if b=G then aB p 80 else p)).at_/\(iw (if b=G then aB p 80 else p)).deep=_
    rw[k1,k2];omega
   have g:=rR B p e
   have:=iM B d f O _ _ R g.1 a
   omega
  injection a with a
  subst a
  show(aB p 80).at_<=_/\_<=(aB p 80).at_/\(aB p 80).deep=_
  rw[cX,ce];omega
theorem xx(B:List Nat)(f:Nat)(p:Ps)(R:Je×Ps)(h:p.at_<=B.length)(a:kD B f p=X R):R.2.at_<=B.length/\p.at_<=R.2.at_/\R.2.deep=p.deep:=by
 unfold kD at a;split at a
 ·rename_i hm
  have b:=((aV _ _).1 hm.1).2
  have:=iM B G f G 0 (iw p) R (by rw[cd];omega) a
  rw[cd,cy] at this;omega
 exact iM B O f G 0 p R h a
def Nb(l:List Nd):Prop:=∀x∈l,(0<=x.left/\(x.left:Int)<l.length)/\0<=x.right/\(x.right:Int)<l.length
theorem Nb.Jk:Nb []:=fun x h=>by cases h
theorem Nb.leaf(k:Int)(s:Je):Nb (cB k s):=by
 intro x hx;simp[cB] at hx;subst hx;simp[cB]
theorem Nb.join{k:Int}{l r:List Nd}(b:Nb l)(c:Nb r)(d:0<l.length):Nb (aT k l r):=by
 have a:(aT k l r).length=l.length+r.length+1:=by simp[aT];omega
 intro x hx;rw[a];unfold aT at hx;simp only[Rn,RG,RO] at hx;rcases hx with(hx|⟨y,hy,rfl⟩)|rfl
 ·obtain⟨h1,h2⟩:=b x hx;omega
 ·obtain⟨h1,h2⟩:=c y hy;unfold ao ib;simp only;constructor
  ·split<;>omega
  split<;>omega
 grind
theorem dX(k:Int)(l r:List Nd):(aT k l r).length=l.length+r.length+1:=by simp[aT];omega
structure Good(n:Nat)(p:Ps)(l:List Nd)(q:Ps)(k:Nat):Prop where
 dp:p.deep<=q.deep
 nb:Nb l
 ok:q.e=0->q.deep=p.deep/\p.at_<=q.at_/\q.at_<=n/\0<l.length/\l.length+k<=2*(q.at_-p.at_)+1
 er:q.e≠0->q.at_+q.deep<=n+26/\q.deep<=25/\l.length<=2*n+1
def mu(n:Nat)(p:Ps):Prop:=p.e=0/\p.at_<=n/\p.deep<=24
theorem fB(B:List Nat):∀f:Nat,
  (∀p R,mu B.length p->lj B f p=X R->Good B.length p R.1 R.2 0)/\
  (∀c l p R,mu B.length c->Good B.length c l p 0->dJ B f l p=X R->Good B.length c R.1 R.2 0)/\
  (∀p R,mu B.length p->kY B f p=X R->Good B.length p R.1 R.2 0)/\
  (∀c l p R,mu B.length c->(l=[]/\p=c\/Good B.length c l p 2/\p.e=0)->cI B f l p=X R->Good B.length c R.1 R.2 0)/\
  (∀p R,mu B.length p->p.at_<B.length->iU B f p=X R->Good B.length p R.1 R.2 2)/\
  (∀c l p R,mu B.length c->Good B.length c l p 2->aI B f l p=X R->Good B.length c R.1 R.2 2)/\
  (∀p R,mu B.length p->p.at_<B.length->jB B f p=X R->Good B.length p R.1 R.2 2):=by
 intro f
 induction f with
 |zero=>
  refine⟨?_,?_,?_,?_,?_,?_,?_⟩
  ·intro p R _ h;simp[lj] at h
  ·intro c l p R _ _ h;simp[dJ] at h
  ·intro p R _ h;simp[kY] at h
  ·intro c l p R _ _ h;simp[cI] at h
  ·intro p R _ _ h;simp[iU] at h
  ·intro c l p R _ _ h;simp[aI] at h
  intro p R _ _ h;simp[jB] at h
 |succ f ih=>
  obtain⟨C,m,o,n,u,g,t⟩:=ih;refine⟨?_,?_,?_,?_,?_,?_,?_⟩
  ·intro p R hs h;rw[lj] at h;split at h
   ·cases h
   rename_i l q s
   exact m p l q R hs (o p (l,q) hs s) h
  ·intro c l p R hs i h;rw[dJ] at h;split at h
   ·rename_i hm
    obtain⟨b,j⟩:=(aV _ _).1 hm.1;obtain⟨w,P,S,y,T⟩:=i.ok b;have A:mu B.length (iw p):=⟨b,by rw[cd];omega,by rw[cy,w];exact hs.2.2⟩
    split at h
    ·cases h
    rename_i x q s
    have hx:Good B.length (iw p) x q 0:=o (iw p) (x,q) A s
    split at h
    ·rename_i d
     obtain⟨F,I,J,L,N⟩:=hx.ok d;rw[cd] at I N;rw[cy] at F;refine m c _ q R hs ⟨by omega,i.nb.join hx.nb y,fun _=>⟨by omega,by omega,J,by rw[dX];omega,by rw[dX];omega⟩,fun b=>absurd d b⟩ h
    rename_i d
    injection h with h
    subst h;have:=hx.er d;exact⟨by have:=hx.dp;rw[cy] at this;simp only at this ⊢;omega,Nb.Jk,fun b=>absurd b d,fun _=>⟨this.1,this.2.1,by simp⟩⟩
   injection h with h
   subst h;exact i
  ·intro p R hs h;rw[kY] at h;exact n p [] p R hs (bX ⟨rfl,rfl⟩) h
  ·intro c l p R hs i h;have aa:p.e=0:=by
    rcases i with⟨_,rfl⟩|⟨_,b⟩
    ·exact hs.1
    exact b
   have ac:p.deep=c.deep/\c.at_<=p.at_/\p.at_<=B.length/\Nb l/\(l.length=0/\p.at_=c.at_\/0<l.length/\l.length+2<=2*(p.at_-c.at_)+1):=by
    rcases i with⟨rfl,rfl⟩|⟨i,b⟩
    ·exact⟨rfl,bM _,hs.2.1,Nb.Jk,bX ⟨rfl,rfl⟩⟩
    obtain⟨w,P,S,y,T⟩:=i.ok b;exact⟨w,P,S,i.nb,bY ⟨y,T⟩⟩
   obtain⟨s1,s2,s3,s4,s5⟩:=ac;rw[cI] at h;split at h
   ·rename_i hm
    obtain⟨b,j⟩:=(aV _ _).1 hm.1;split at h
    ·cases h
    rename_i x q s
    have hx:Good B.length p x q 2:=u p (x,q) ⟨b,s3,by rw[s1];exact hs.2.2⟩ j s
    split at h
    ·rename_i d
     obtain⟨F,I,J,L,N⟩:=hx.ok d;refine n c _ q R hs (bY ⟨⟨by omega,?_,fun _=>⟨by omega,by omega,J,?_,?_⟩,fun b=>absurd d b⟩,d⟩) h
     ·split
      ·exact hx.nb
      exact s4.join hx.nb (by omega)
     ·split
      ·exact L
      rw[dX];omega
     split
     ·omega
     rw[dX];omega
    rename_i d
    injection h with h
    subst h;have D:=hx.er d;exact⟨by have:=hx.dp;simp only at this ⊢;omega,Nb.Jk,fun b=>absurd b d,fun _=>⟨D.1,D.2.1,by simp⟩⟩
   injection h with h
   subst h;refine⟨by simp only;omega,?_,fun _=>⟨s1,s2,s3,?_,?_⟩,fun b=>absurd aa b⟩
   ·simp only
    split
    ·exact Nb.leaf _ _
    exact s4
   ·simp only
    split
    ·simp[cB]
    omega
   simp only
   split
   ·simp[cB]
   omega
  ·intro p R hs j h;rw[iU] at h;split at h
   ·cases h
   rename_i l q s
   exact g p l q R hs (t p (l,q) hs j s) h
  ·intro c l p R hs i h;rw[aI] at h;split at h
   ·rename_i hm
    obtain⟨b,j⟩:=(aV _ _).1 hm;obtain⟨w,P,S,y,T⟩:=i.ok b;have key:∀k,Good B.length c (aT k l []) (iw p) 2:=fun k=>
     ⟨by rw[cy];omega,i.nb.join Nb.Jk y,fun _=>⟨by rw[cy];exact w,by rw[cd];omega,by rw[cd];omega,by rw[dX];omega,by rw[dX,cd];simp;omega⟩,fun h=>absurd b h⟩
    split at h
    ·exact g c _ _ R hs (key 5) h
    split at h
    ·exact g c _ _ R hs (key 6) h
    split at h
    ·exact g c _ _ R hs (key 7) h
    injection h with h
    subst h;exact i
   injection h with h
   subst h;exact i
  intro p R hs j h;obtain⟨ab,A,ad⟩:=hs;have a:∀(k:Int) (z:Je) (q:Ps),q.at_<=B.length->p.at_+1<=q.at_->q.deep=p.deep->Good B.length p (cB k z) q 2:=fun k z q h1 h2 D=>
   ⟨by omega,Nb.leaf _ _,fun _=>⟨D,by omega,h1,by simp[cB],by simp[cB];omega⟩,fun _=>⟨by omega,by omega,by simp[cB]⟩⟩
  rw[jB] at h;simp only at h;split at h
  ·injection h with h;subst h;exact a _ _ _ (by rw[cd];omega) (by rw[cd];omega) rfl
  split at h
  ·injection h with h;subst h;exact a _ _ _ (by rw[cd];omega) (by rw[cd];omega) rfl
  split at h
  ·injection h with h;subst h;exact a _ _ _ (by rw[cd];omega) (by rw[cd];omega) rfl
  split at h
  ·injection h with h;subst h
   have:=uY B (iw p) (by rw[cd];omega)
   rw[cd,cy] at this;exact a _ _ _ this.1 this.2.1 this.2.2
  split at h
  ·split at h
   ·cases h
   rename_i z r hz
   injection h with h;subst h
   have:=xx B f (iw p) (z,r) (by rw[cd];omega) hz
   rw[cd,cy] at this;exact a _ _ _ this.1 this.2.1 this.2.2
  split at h
  ·injection h with h;subst h;exact a _ _ _ (by rw[cX,cd];omega) (by rw[cX,cd];omega) (by rw[ce];rfl)
  split at h
  ·injection h with h;subst h;exact a _ _ _ (by rw[cX,cd];omega) (by rw[cX,cd];omega) (by rw[ce];rfl)
  split at h
  ·split at h
   ·rename_i hd
    injection h with h;subst h
    simp only[cy] at hd;refine⟨by simp only[ce,cy];omega,Nb.Jk,fun b=>absurd b (uX _ _ (by decide)),fun _=>⟨?_,?_,by simp⟩⟩
    ·simp only[ce,cX,cy,cd];omega
    simp only[ce,cy];omega
   rename_i hd
   simp only[cy] at hd;split at h
   ·cases h
   rename_i l r hr
   injection h with h;subst h
   have hx:Good B.length {iw p with deep:=(iw p).deep+1} l r 0:=C _ (l,r) ⟨ab,by simp only[cd];omega,by simp only[cy];omega⟩ hr
   have W:=hx.dp
   simp only[cy] at W
   by_cases b:r.e=0
   ·obtain⟨F,I,J,L,N⟩:=hx.ok b;simp only[cd,cy] at F I N
    by_cases hl:B.length<=r.at_
    ·rw[ps_ ⟨b,hl⟩];refine⟨by simp only[ce];omega,hx.nb,fun h=>absurd h (uX _ _ (by decide)),fun _=>⟨by simp only[ce,cX];omega,by simp only[ce];omega,by simp only;omega⟩⟩
    rw[ng_ (fun h=>hl h.2)]
    exact⟨by simp only;omega,hx.nb,fun _=>⟨by simp only;omega,by simp only;omega,by simp only;omega,L,by simp only;omega⟩,fun h=>absurd b h⟩
   rw[ng_ (fun h=>b h.1)]
   obtain⟨y1,y2,y3⟩:=hx.er b;exact⟨by simp only;omega,hx.nb,fun h=>absurd h b,fun _=>⟨by simp only;omega,by simp only;omega,y3⟩⟩
  injection h with h;subst h;exact a _ _ _ (by rw[cd];omega) (by rw[cd];omega) rfl
theorem ml(s:Je):∀(f b:Nat),b+f<=256->jp s f b<256
 |0,b,_=>by unfold jp;decide
 |f+1,b,h=>by
  unfold jp;split
  ·omega
  exact ml s f (b+1) (by omega)
theorem oI(s:Je):gc s<256:=ml s 256 0 (by decide)
section
variable {B : List Nat} (hB : ∀ x ∈ B, x < 256)
include hB
end
def cO(B:List Nat):List Nd×Int:=(jn (6*B.length+6) B).getD ([],0)
theorem IL.Pz{base size n:Nat}{e:Sv}(hown:IL w base e size v n xs)(b:w.grownBy w' (X g)){t:Sv}(h1:w.heap[g]? =X (H cs t fz))(hne:e≠t):IL w' base e size v n xs:=by
 refine bT hown b ?_;rcases hown with⟨_,⟨rfl,_⟩|⟨d,cap,c,rfl,_,a,_⟩⟩
 ·exact bX rfl
 refine bY ?_;intro hk;simp[RQ] at hk;subst hk;rw[a] at h1;simp at h1;exact hne h1.2.1
theorem vW{s:Je}(h:w.heap[g]? =X (fj s))(hx:x<256)(b:x/64=q):(w.setCell ⟨g,q,V⟩ (Z E (bits BinOp.or Ry ((ae s q:Nat):Int) (Ry.wrap (2^(x%64)))))).heap[g]? =X (fj (dj s x)):=by
 have a:q=0\/q=1\/q=2\/q=3:=by omega
 rw[BK,aO w g q _ _ _ h];unfold fj;rw[jG s x 0,jG s x 1,jG s x 2,jG s x 3]
 grind
def Dx(w:Sm)(lo a:Nat)(ix:Sn)(wr:Sm):Prop:=∃k:Nat,ix=Z Y ((lo+k:Nat):Int)/\k<=a+1-lo/\Hid (wr.heap[w.heap.size]? =X (fj 0))/\Hid (wr.heap[w.heap.size+1]? =X (fj (ic lo k)))/\Hid (ID w wr)
theorem tZ(lo a:Nat)(hl:lo<256)(W:a<256)(w:Sm):Sr Sz 288 #[Z .u8 lo,Z .u8 a] w (jE (cN (eL lo a)) w):=by
 have hz:=cF
 have y:ID w ((w.alloc (H #[Z E 0,Z E 0,Z E 0,Z E 0] 177)).alloc (H #[Z E 0,Z E 0,Z E 0,Z E 0] 177)):=((ID.refl w).alloc _).alloc _
 have d:((w.alloc (H #[Z E 0,Z E 0,Z E 0,Z E 0] 177)).alloc (H #[Z E 0,Z E 0,Z E 0,Z E 0] 177)).heap[w.heap.size+1]? =X (fj 0):=by
  rw[show w.heap.size+1=(w.alloc (H #[Z E 0,Z E 0,Z E 0,Z E 0] 177)).heap.size by simp]
  exact aM _ _
 have c:((w.alloc (H #[Z E 0,Z E 0,Z E 0,Z E 0] 177)).alloc (H #[Z E 0,Z E 0,Z E 0,Z E 0] 177)).heap[w.heap.size]? =X (fj 0):=
  ((ID.refl _).alloc _).block (aM w _)
 have C:=aJ y
 have h:=aJ c
 have i:=aJ d
 have z:Hid (eL lo a=ic lo (a+1-lo)):=aJ rfl
 have a0:(0:Int)<=(lo:Int):=by omega
 have a1:(lo:Int)<256:=by omega
 have a2:(0:Int)<=(a:Int):=by omega
 have a3:(a:Int)<256:=by omega
 clear y c d hz;go_enter func288,ntmps288;go_wp2;go_loopw [6] (fun ix wr=>Dx w lo a ix wr) (fun ix _=>300-(intOf ix).toNat)
 case atStart=>exact⟨0,rfl,bO _,h,i,C⟩
 obtain⟨k,rfl,hk,s,u,t⟩:=hrel;obtain⟨x,hx⟩:∃x,lo+k=x:=⟨_,rfl⟩
 rw[hx];have T:=aJ hx;obtain⟨_,c1,c2,_,_,f1,f2,_⟩:=ai u
 by_cases L:x<=a
 ·have e:(x:Int)<=(a:Int):=by omega
  have x0:(0:Int)<=x:=by omega
  have x1:(x:Int)<=255:=by omega
  have f:ic lo (k+1)=dj (ic lo k) x:=by rw[qY,hx]
  have B:=aJ f
  have o:k+1<=a+1-lo:=by omega
  have A:Hid (Rr Y ((x:Int)+1)=Z Y ((lo+(k+1):Nat):Int)):=aJ (by rw[<-hx];push_cast;rw[Int.add_assoc])
  have N:Int.tdiv (x:Int) 64=((x/64:Nat):Int):=by rw[Int.tdiv_eq_ediv_of_nonneg (by omega)];omega
  have R:Int.tmod (x:Int) 64=((x%64:Nat):Int):=by rw[Int.tmod_eq_emod_of_nonneg (by omega)];omega
  have P:(x:Int)/64=((x/64:Nat):Int):=by omega
  have S:(x:Int)%64=((x%64:Nat):Int):=by omega
  clear hx f;have b:x/64=0\/x/64=1\/x/64=2\/x/64=3:=by omega
  have l:Hid (∀q,x/64=q->(wr.setCell ⟨w.heap.size+1,q,V⟩ (Z E (bits BinOp.or Ry ((ae (ic lo k) q:Nat):Int) (Ry.wrap (2^(x%64)))))).drew.heap[w.heap.size+1]? =X (fj (dj (ic lo k) x))):=aJ (fun q b=>vW u (by omega) b)
  have g:Hid (∀q v,(wr.setCell ⟨w.heap.size+1,q,V⟩ v).drew.heap[w.heap.size]? =X (fj 0)):=aJ (fun q v=>(aL wr ⟨w.heap.size+1,q,V⟩ w.heap.size v (by simp)).trans s)
  have j:Hid (∀q v,ID w (wr.setCell ⟨w.heap.size+1,q,V⟩ v).drew):=aJ (fun q v=>(t.setCell (p:=⟨w.heap.size+1,q,V⟩) (by simp) v).drew)
  have w0:RH.wrap 0=0:=by decide
  have w1:RH.wrap 1=1:=by decide
  have w2:RH.wrap 2=2:=by decide
  have w3:RH.wrap 3=3:=by decide
  have r:=aJ b
  obtain⟨m,hm⟩:∃m,x%64=m:=⟨_,rfl⟩
  rw[hm] at R S l;have m0:(0:Int)<=(m:Int):=by omega
  have m1:(m:Int)<64:=by omega
  have wm:RH.wrap (m:Int)=(m:Int):=bV _ (by omega)
  clear hm;rcases b with b|b|b|b
  all_goals
   rw[b] at N P;have n:=aJ (l _ b);clear b l r;go_wp2;go_region;go_wp2;go_roundw
   case rel=>exact⟨k+1,A,o,aJ (g _ _),aJ (by rw[B.out];exact n),aJ (j _ _)⟩
   simp[intOf];omega
 have e:¬(x:Int)<=(a:Int):=by omega
 obtain rfl:k=a+1-lo:=by omega
 obtain⟨D,F,I,J,_,_,_,_⟩:=ai s;go_wp2;rw[z.out];refine aP (v:=cN (ic lo (a+1-lo))) (by simp[results,results288,go_sem,D,F,I,J,cN]) rfl ⟨rfl,?_⟩
 exact((((t.setCell (p:=⟨w.heap.size,0,V⟩) (bM _) _).setCell (p:=⟨w.heap.size,1,V⟩) (bM _) _).setCell (p:=⟨w.heap.size,2,V⟩) (bM _) _).setCell (p:=⟨w.heap.size,3,V⟩) (bM _) _)
def vb(ops:Array Ss)(j n:Nat):Bool:=((ops[j]?).map fun o=>o.after.any fun e=>RZ .any e&&e.on==n).getD O
def FU(ops:Array Ss):List Nat->List Nat->Bool
 |_,[]=>G
 |IW,n::r=>(IW.any fun j=>vb ops j n)&&FU ops (n::IW) r
def wJ(ops:Array Ss):List Nat->List Nat->Bool
 |_,[]=>G
 |IW,n::r=>(IW.any fun j=>vb ops n j)&&wJ ops (n::IW) r
def so(ops:Array Ss):Nat->List (List Nat×List Nat)->Bool
 |_,[]=>G
 |i,p::r=>FU ops [i] p.1&&wJ ops [i] p.2&&so ops (i+1) r
def Ph(L:Array Bool):List Nat->Prop
 |[]=>True
 |n::F=>L.getD n O=O/\Ph L F
def Pg(L:Array Bool):List Nat->List Nat->Prop
 |[],F=>Ph L F
 |n::T,F=>L.getD n O=G/\Pg L T F
theorem pj{ops:Array Ss}{j n:Nat}(h:vb ops j n=G):∃o,ops[j]? =X o/\∃e∈o.after,RZ .any e=G/\e.on=n:=by
 unfold vb at h
 grind
theorem Ph.mk{L:Array Bool}:∀(F:List Nat),(∀n∈F,L.getD n O=O)->Ph L F
 |[],_=>trivial
 |n::F,h2=>⟨h2 n (by simp),Ph.mk F (fun m hm=>h2 m (by simp[hm]))⟩
theorem Pg.mk{L:Array Bool}:∀(T F:List Nat),(∀n∈T,L.getD n O=G)->(∀n∈F,L.getD n O=O)->Pg L T F
 |[],F,_,h2=>Ph.mk F h2
 |n::T,F,h1,h2=>⟨h1 n (by simp),Pg.mk T F (fun m hm=>h1 m (by simp[hm])) h2⟩
theorem uz{ops:Array Ss}{L:Array Bool}(c:iQ ops L){o:Ss}(l:ops[i]? =X o)(b:∀e∈o.after,RZ .any e=G->L.getD e.on O=G):
  ∀(T IW:List Nat),(∀j∈IW,j=i\/L.getD j O=G)->FU ops IW T=G->∀n∈T,L.getD n O=G
 |[],_,_,_=>by simp
 |n::T,IW,ha,h=>by
  unfold FU at h;rw[Ru,R0] at h;obtain⟨⟨j,hj,p⟩,h⟩:=h;obtain⟨r,a,e,d,g,k⟩:=pj p;have f:L.getD n O=G:=by
   rcases ha j hj with rfl|q
   ·rw[l] at a;injection a with a
    subst a;rw[<-k];exact b e d g
   rw[<-k];exact c j r a q e d g
  intro m hm;rcases Rz.1 hm with rfl|hm
  ·exact f
  exact uz c l b T (n::IW) (fun x hx=>(Rz.1 hx).elim (fun e=>bY (e▸f)) (ha x)) h m hm
theorem rn{ops:Array Ss}{L:Array Bool}(a:iQ ops L):
  ∀(F IW:List Nat),(∀j∈IW,L.getD j O=O)->wJ ops IW F=G->∀n∈F,L.getD n O=O
 |[],_,_,_=>by simp
 |n::F,IW,ha,h=>by
  unfold wJ at h;rw[Ru,R0] at h;obtain⟨⟨j,hj,i⟩,h⟩:=h;obtain⟨on,d,e,b,g,c⟩:=pj i;have f:L.getD n O=O:=by
   rcases hx:L.getD n O with _|_
   ·rfl
   have:=a n on d hx e b g
   rw[c,ha j hj] at this;exact this.symm
  intro m hm;rcases Rz.1 hm with rfl|hm
  ·exact f
  exact rn a F (n::IW) (fun x hx=>(Rz.1 hx).elim (fun e=>e▸f) (ha x)) h m hm
theorem tV{ops:Array Ss}:∀(a:List (List Nat×List Nat)) (k:Nat),so ops k a=G->∀i p,a[i]? =X p->FU ops [k+i] p.1=G/\wJ ops [k+i] p.2=G
 |[],_,_,i,p,h=>by simp at h
 |q::r,k,h,0,p,b=>by
  simp at b;subst b
  unfold so at h;rw[Ru,Ru] at h;exact h.1
 |q::r,k,h,i+1,p,b=>by
  unfold so at h;rw[Ru,Ru] at h;have:=tV r (k+1) h.2 i p (by simpa using b)
  rw[show k+(i+1)=k+1+i by omega]
  exact this
def nL(P:Sw)(ops:Array Ss)(Q:Exit->Act->Sm->Prop)(I:Array Bool->Act->Sm->Prop)(b:List (List Nat×List Nat))(i:Nat)(o:Ss):Prop:=
 ∀(L:Array Bool) (a:Act) (w:Sm) (K:Act->Sm->Prop),I L a w->Pg L (b.getD i ([],[])).1 (i::(b.getD i ([],[])).2)->(∀a' w',I (L.setIfInBounds i G) a' w'->K a' w')->
   if RI o (yielded ops a.tmps)=G then o.wp P a w K Q else K (a.put o.dst aR) w
theorem qK{P:Sw}{ops:Array Ss}{Q:Exit->Act->Sm->Prop}{I:Array Bool->Act->Sm->Prop}{b:List (List Nat×List Nat)}(d:so ops 0 b=G):
  ∀(os:List Ss) (k:Nat),(∀i o,os[i]? =X o->ops[k+i]? =X o)->KW (nL P ops Q I b) k os->KW (rW P ops Q I) k os
 |[],_,_,_=>trivial
 |o::os,k,m,h=>by
  refine⟨?_,qK d os (k+1) (fun i y u=>by rw[show k+1+i=k+(i+1) by omega];exact m (i+1) y (by simpa using u)) h.2⟩
  intro L a w K _ f q c s t;have r:=m 0 o rfl;rw[Rx] at r;refine h.1 L a w K s ?_ t;have hk:FU ops [k] (b.getD k ([],[])).1=G/\wJ ops [k] (b.getD k ([],[])).2=G:=by
   rcases l:b[k]? with _|p
   ·rw[bD,l];exact⟨rfl,rfl⟩
   have:=tV b 0 d k p l
   rw[Rq] at this;rw[bD,l];exact this
  have g:=rn f _ [k] (fun j hj=>by rw[RO.1 hj];exact q) hk.2
  exact Pg.mk _ _ (uz f r c _ [k] (fun j hj=>bX (RO.1 hj)) hk.1) (fun n x=>(Rz.1 x).elim (fun e=>e▸q) (g n))
theorem ak{P:Sw}{ops:Array Ss}{Q:Exit->Act->Sm->Prop}{a:Act}(d:List (List Nat×List Nat))(I:Array Bool->Act->Sm->Prop)
  (g:I (RR ops.size O) a {w with drawn:=w.drawn+1})
  (b:∀a w,I (RR ops.size G) a w->Q .normal a w)
  (c:KW (nL P ops Q I d) 0 ops.toList) (hm:P.follows .mixedOrders=G:=by kernel_rfl) (f:gP ops=G:=by kernel_rfl) (e:so ops 0 d=G:=by kernel_rfl):
  (Code.region id ops G).wp P Q a w:=
 lC hm f I g b (qK e ops.toList 0 (fun i o h=>by rw[Rq];simpa using h) c)
theorem gS{P:Sw}{ops:Array Ss}{Q:Exit->Act->Sm->Prop}{U:Type}{a:Act}(b:List (List Nat×List Nat))(I:U->Array Bool->Act->Sm->Prop)
  (g:∃u,I u (RR ops.size O) a {w with drawn:=w.drawn+1})
  (c:∀u a w,I u (RR ops.size G) a w->Q .normal a w)
  (d:∀u,KW (nL P ops Q (I u) b) 0 ops.toList) (hm:P.follows .mixedOrders=G:=by kernel_rfl) (f:gP ops=G:=by kernel_rfl) (e:so ops 0 b=G:=by kernel_rfl):
  (Code.region id ops G).wp P Q a w:=by grind [ak]
theorem jK{e:Sv}{s:Nat}{n:Nat}(h:IL w B e s v n xs)(hk:k<B):X k≠v.ownBlock:=by
 intro e;have:=(bU h k e.symm).1;omega
def Gf(s:ByteArray)(a d:Nat)(lv:Sn):Obj:=H #[Q s,Z Y a,Z Y d,lv] 168 (0,0)
structure RP(w0 w:Sm)(B g:Nat)(s:ByteArray)(a d:Nat)(lv:Sn)(N:List Nd):Prop where
 I5:ID w0 w
 I2:w.heap[g]? =some (Gf s a d lv)
 own:IL w B 279 7 lv N.length (cR N)
 bg:w0.heap.size<=g
 lg:g<B
 lB:B<=w.heap.size
theorem RP.up{s:ByteArray}{d:Nat}{N:List Nd}(h:RP w0 w B g s a d lv N)(b:ID w w'):RP w0 w' B g s a d lv N:=
 ⟨h.I5.up b,b.block h.I2,h.own.up b,h.bg,h.lg,bN h.lB b.size⟩
theorem RP.drewN{s:ByteArray}{d:Nat}{N:List Nd}(h:RP w0 w B g s a d lv N)(n:Nat):RP w0 (w.drewN n) B g s a d lv N:=h.up ((ID.refl w).drewN n)
theorem pC(w:Sm)(g i:Nat)(v:Sn):w.grownBy (w.setCell ⟨g,i,V⟩ v) (X g):=⟨rfl,rfl,rfl,by simp,fun k _ hk=>aL w ⟨g,i,V⟩ k _ (fun e=>hk (by simp[e]))⟩
theorem RP.at_{s:ByteArray}{d:Nat}{N:List Nd}(h:RP w0 w B g s a d lv N)(a':Nat):RP w0 (w.setCell ⟨g,1,V⟩ (Z Y (a':Int))) B g s a' d lv N:=
 ⟨h.I5.setCell h.bg _,aO w g 1 _ _ _ h.I2,bT h.own (pC w g 1 _) (bY (fun e=>jK h.own h.lg e.symm)),h.bg,h.lg,by simpa using h.lB⟩
theorem RP.N9{s:ByteArray}{d:Nat}{N:List Nd}(h:RP w0 w B g s a d lv N)(b:Nat):RP w0 (w.setCell ⟨g,2,V⟩ (Z Y (b:Int))) B g s a b lv N:=
 ⟨h.I5.setCell h.bg _,aO w g 2 _ _ _ h.I2,bT h.own (pC w g 2 _) (bY (fun e=>jK h.own h.lg e.symm)),h.bg,h.lg,by simpa using h.lB⟩
theorem RP.cells{s:ByteArray}{d:Nat}{N:List Nd}(h:RP w0 w B g s a d lv N):
  w.cell? ⟨g,0,V⟩=X (Q s)/\w.cell? ⟨g,1,V⟩=X (Z Y a)/\w.cell? ⟨g,2,V⟩=X (Z Y d)/\w.cell? ⟨g,3,V⟩=X lv/\w.frozen? ⟨g,1,V⟩=O/\w.frozen? ⟨g,2,V⟩=O/\w.frozen? ⟨g,3,V⟩=O:=
 ⟨by rw[aK w g 0 _ _ _ h.I2];rfl,by rw[aK w g 1 _ _ _ h.I2];rfl,by rw[aK w g 2 _ _ _ h.I2];rfl,by rw[aK w g 3 _ _ _ h.I2];rfl,aN w g 1 _ _ h.I2,aN w g 2 _ _ h.I2,aN w g 3 _ _ h.I2⟩
theorem iL(w0:Sm)(B g:Nat)(s:ByteArray)(a d:Nat)(lv:Sn)(N:List Nd)(w:Sm)(h:RP w0 w B g s a d lv N)(hs:s.size<=9223372036854775807):
  Sr Sz 79 #[M (X ⟨g,0,V⟩)] w (DZ (decide (a=s.size)) w):=by
 obtain⟨_,c1,c2,b,_,_,_⟩:=h.cells;have e:decide (a=s.size)=(((a:Nat):Int)==(s.size:Int)):=by rw[RA,decide_eq_true_iff,beq_iff_eq];omega
 rw[e];clear e c2 b h;go_enter func79,ntmps79;go_wp2;go_quiet (fail);go_wp2;go_ret;exact⟨rfl,_,rfl⟩
structure AF(w0:Sm)(B g ko:Nat)(s:ByteArray)(a d:Nat)(lv v12:Sn)(N:List Nd)(x:Nd)(b6 b7 b10:Bool)(W ww:Sm):Prop where
 base:b7=false->RP w0 ww B g s a d lv N/\ID W ww
 row:b6=true->b7=false->ww.heap[ko]? =some (.cells (an x).toArray 279 (0,0))
 LP:b7=true->b10=false->w0.heap.size<=g/\g<B/\B<=ww.heap.size/\ID w0 ww/\ww.heap[g]? =some (Gf s a d lv)/\IL ww B 279 7 v12 (N.length+1) (cR (N++[x]))
 fin:b10=true->RP w0 ww B g s a d v12 (N++[x])
theorem AF.Qa{s:ByteArray}{d:Nat}{N:List Nd}{x:Nd}(h:AF w0 B g ko s a d lv v12 N x O O O W ww):
  AF w0 B g ww.heap.size s a d lv v12 N x G O O W (ww.alloc (H (an x).toArray 279)):=
 ⟨fun _=>⟨(h.base rfl).1.up ((ID.refl ww).alloc _),(h.base rfl).2.alloc _⟩,fun _ _=>aM _ _,fun e=>(by cases e),fun e=>(by cases e)⟩
theorem AF.P9{s:ByteArray}{d:Nat}{N:List Nd}{x:Nd}(h:AF w0 B g ko s a d lv v12 N x G O O W ww)
  (f:IL w' B 279 7 v' (N.length+1) (cR N++an x)) (c:ww.grownBy w' lv.ownBlock):AF w0 B g ko s a d lv v' N x G G O W w':=by
 have b:=(h.base rfl).1
 refine⟨fun e=>(by cases e),fun _ e=>(by cases e),fun _ _=>⟨b.bg,b.lg,bN b.lB c.size,IL.IU b.I5 b.own (bN b.bg (RS b.lg)) c,(c.block g (aQ b.I2) (jK b.own b.lg)).trans b.I2,?_⟩,fun e=>(by cases e)⟩
 rw[zh];have:cR [x]=an x:=by simp[cR]
 rw[this];exact f
theorem AF.O1{s:ByteArray}{d:Nat}{N:List Nd}{x:Nd}(h:AF w0 B g ko s a d lv v12 N x b6 G O W ww):AF w0 B g ko s a d lv v12 N x b6 G G W (ww.setCell ⟨g,3,V⟩ v12):=by
 obtain⟨h1,h2,c,f,i,b⟩:=h.LP rfl rfl;have j:(N++[x]).length=N.length+1:=by simp
 refine⟨fun e=>(by cases e),fun _ e=>(by cases e),fun _ e=>(by cases e),fun _=>⟨f.setCell h1 _,aO ww g 3 _ _ _ i,?_,h1,h2,by simpa using c⟩⟩
 rw[j];exact bT b (pC ww g 3 _) (bY (fun e=>jK b h2 e.symm))
def ADI(w0 W:Sm)(B g k5:Nat)(s:ByteArray)(a d:Nat)(lv:Sn)(N:List Nd)(x:Nd)(b:Array Bool)(e:Act)(ww:Sm):Prop:=
 ∃(b0 b1 b2 b3 b4 c b6 b7 b8 b9 b10:Bool) (ko:Nat) (v12:Sn),b=#[b0,b1,b2,b3,b4,c,b6,b7,b8,b9,b10]/\
  e={tmps:=#[M (X ⟨g,0,V⟩),Rm #[Z Y x.IF,Z Y x.left,Z Y x.right,Z E (ae x.set 0),Z E (ae x.set 1),Z E (ae x.set 2),Z E (ae x.set 3)],aR,M (X ⟨k5,0,V⟩),Z Y 0,cond b0 (M (X ⟨g,0,V⟩)) (aR),cond b1 (M (X ⟨g,0,V⟩)) (aR),cond b2 (M (X ⟨g,0,V⟩)) (aR),cond b3 (M (X ⟨g,3,V⟩)) (aR),cond b4 (lv) (aR),cond c (Rm #[Z Y x.IF,Z Y x.left,Z Y x.right,Z E (ae x.set 0),Z E (ae x.set 1),Z E (ae x.set 2),Z E (ae x.set 3)]) (aR),cond b6 (U (X ⟨ko,0,V⟩) 1 1) (aR),cond b7 (v12) (aR),cond b8 (M (X ⟨g,0,V⟩)) (aR),cond b9 (M (X ⟨g,3,V⟩)) (aR),aR,aR,aR,aR,aR,aR],defers:=[]}/\AF w0 B g ko s a d lv v12 N x b6 b7 b10 W ww
def qt(w0:Sm)(B g:Nat)(s:ByteArray)(a d:Nat)(N:List Nd)(x:Nd)(e:Su)(w':Sm):Prop:=e=Rk (Z Y (N.length:Int))/\∃lv',RP w0 w' B g s a d lv' (N++[x])
def Ht(x:Nd):Sn:=Rm #[Z Y x.IF,Z Y x.left,Z Y x.right,Z E (ae x.set 0),Z E (ae x.set 1),Z E (ae x.set 2),Z E (ae x.set 3)]
theorem GW(w0:Sm)(B g:Nat)(s:ByteArray)(a d:Nat)(lv:Sn)(N:List Nd)(w:Sm)(h:RP w0 w B g s a d lv N)(hn:N.length<=100000)(x:Nd):
  Sr Sz 158 #[M (X ⟨g,0,V⟩),Ht x] w (qt w0 B g s a d N x):=by
 unfold Ht;obtain⟨k,lf,rt,st⟩:=x;obtain⟨r,t,rfl,A,_,_⟩:=h.own.shape;have I:=aM w (H #[Z Y k,Z Y lf,Z Y rt,Z E (ae st 0),Z E (ae st 1),Z E (ae st 2),Z E (ae st 3)] 279);have y:=(ID.refl w).alloc (H #[Z Y k,Z Y lf,Z Y rt,Z E (ae st 0),Z E (ae st 1),Z E (ae st 2),Z E (ae st 3)] 279);have J:=aJ (h.up y);have z:=aJ I;simp only;clear h A y I;go_enter func158,ntmps158;go_upto_region 1 with fail
 generalize hW:w.alloc (H #[Z Y k,Z Y lf,Z Y rt,Z E (ae st 0),Z E (ae st 1),Z E (ae st 2),Z E (ae st 3)] 279)=W at *;have m:AF w0 B g 0 s a d (U r N.length t) aR N ⟨k,lf,rt,st⟩ O O O W W.drew:=⟨fun _=>⟨J.up (ID.refl W).drew,(ID.refl W).drew⟩,(fun e=>by cases e),(fun e=>by cases e),(fun e=>by cases e)⟩
 generalize R:w.heap.size=k5 at *;refine ak [([],[8,9,10]),([],[2,8,9,10,3,4,7]),([1],[3,8,9,10,4,7]),([2,1],[4,8,9,10,7]),([3,2,1],[7,8,9,10]),([],[6,8,9,10,7]),([5],[7,8,9,10]),([4,6,3,5,2,1],[8,9,10]),([0,1,2,3,4,5,6,7],[9,10]),([8,0,1,2,3,4,5,6,7],[10]),([9,7,0,1,2,3,4,5,6,8],[])] (ADI w0 W B g k5 s a d (U r N.length t) N ⟨k,lf,rt,st⟩) ?_ ?_ ⟨?_,?_,?_,?_,?_,?_,?_,?_,?_,?_,?_,trivial⟩
 ·exact⟨O,O,O,O,O,O,O,O,O,O,O,0,aR,rfl,rfl,m⟩
 ·rintro _ i ⟨b0,b1,b2,b3,b4,_,b6,b7,b8,b9,b10,ko,v12,n,rfl,c⟩;have o:=congrArg R8 n;simp at o;obtain⟨rfl,rfl,rfl,rfl,rfl,rfl,rfl,rfl,rfl,rfl,rfl⟩:=o;clear n;have l:=aJ (c.fin rfl);clear c m;obtain⟨C,D,rfl,_,_,_⟩:=l.own.shape;obtain⟨_,_,_,L,_,_,_⟩:=l.cells;have n:(N++[(⟨k,lf,rt,st⟩:Nd)]).length=N.length+1:=by simp
  rw[n] at L;clear n;go_wp2;go_ret;exact⟨rfl,_,l⟩
 rotate_left 4
 ·rintro _ _ i K ⟨b0,b1,b2,b3,b4,_,b6,b7,b8,b9,b10,ko,v12,rfl,h2,c⟩ h f
  repeat obtain⟨rfl,h⟩:=h
  subst h2;have q1:=(c.base rfl).1.cells.2.2.2.1;go_simp;apply f;iterate 11 apply bW
  exact⟨ko,v12,rfl,rfl,c⟩
 ·rintro _ _ i K ⟨b0,b1,b2,b3,b4,_,b6,b7,b8,b9,b10,ko,v12,rfl,h2,c⟩ h f
  repeat obtain⟨rfl,h⟩:=h
  subst h2;have b:=(c.base rfl).2.block z;have q0:=cr_ b 0 (Z Y k);have q1:=cr_ b 1 (Z Y lf);have q2:=cr_ b 2 (Z Y rt);have q3:=cr_ b 3 (Z E (ae st 0));have q4:=cr_ b 4 (Z E (ae st 1));have q5:=cr_ b 5 (Z E (ae st 2));have q6:=cr_ b 6 (Z E (ae st 3));clear b;go_simp;apply f;iterate 11 apply bW
  exact⟨ko,v12,rfl,rfl,c⟩
 ·rintro _ _ i K ⟨b0,b1,b2,b3,b4,_,b6,b7,b8,b9,b10,ko,v12,rfl,h2,c⟩ h f
  repeat obtain⟨rfl,h⟩:=h
  subst h2;go_simp;apply f;iterate 11 apply bW
  exact⟨i.heap.size,v12,rfl,rfl,c.Qa⟩
 ·rintro _ _ i K ⟨b0,b1,b2,b3,b4,_,b6,b7,b8,b9,b10,ko,v12,rfl,h2,c⟩ h f
  repeat obtain⟨rfl,h⟩:=h
  subst h2;have F:=(c.base rfl).1;have q:=c.row rfl rfl;refine eY i (by rfl) _ _ 109 (by rfl) B 279 (Rm #[Z Y 0,Z Y 0,Z Y 0,Z E 0,Z E 0,Z E 0,Z E 0]) 7 56 underlying109 CZ rfl (by decide) (by decide) (U r N.length t) N.length (cR N) (by rfl) F.own (X ⟨ko,0,V⟩) 1 1 (an ⟨k,lf,rt,st⟩) (by rfl) (bY ⟨ko,0,rfl,fun j u S=>by rw[Rq,aK i ko j _ _ _ q,RT];exact S⟩) rfl rfl (by omega) F.lB ?_
  intro v' w' y P _;apply f;iterate 11 apply bW
  exact⟨ko,v',rfl,rfl,c.P9 y P⟩
 rotate_left 2
 ·rintro _ _ i K ⟨b0,b1,b2,b3,b4,_,b6,b7,b8,b9,b10,ko,v12,rfl,h2,c⟩ h f
  repeat obtain⟨rfl,h⟩:=h
  subst h2;obtain⟨_,_,_,_,b,p⟩:=c.LP rfl rfl;obtain⟨C,D,rfl,_,_,_⟩:=p.shape;have f3:i.frozen? ⟨g,3,V⟩=O:=aN i g 3 _ _ b;have T:=cr_ b 3 (U r N.length t);clear b p;go_simp;exact f _ _ ⟨G,G,G,G,G,G,G,G,G,G,G,ko,U C (N.length+1) D,rfl,rfl,c.O1⟩
 all_goals
  rintro _ _ i K ⟨b0,b1,b2,b3,b4,_,b6,b7,b8,b9,b10,ko,v12,rfl,h2,c⟩ h f
  repeat obtain⟨rfl,h⟩:=h
  subst h2;go_simp;apply f;iterate 11 apply bW
  exact⟨ko,v12,rfl,rfl,c⟩
theorem wC:∀b:Fin 256,gc (dj 0 b.val)=b.val:=by decide+kernel
theorem iH(b:Nat):eL b b=dj 0 b:=by simp[eL]
structure RK(w0 wb w:Sm)(B g:Nat)(s:ByteArray)(a d:Nat)(lv:Sn)(N:List Nd)(k:Nat)(z:Je):Prop where
 rp:RP w0 w B g s a d lv N
 ng:k≠g
 nl:some k≠lv.ownBlock
 k0:w0.heap.size<=k
 I2:w.heap[k]? =some (fj z)
 kb:wb.heap.size<=k
 kp:∀j,j<wb.heap.size->j≠g->w.heap[j]? =wb.heap[j]?
 sz:wb.heap.size<=w.heap.size
theorem RK.start{s:ByteArray}{d:Nat}{N:List Nd}(h:RP w0 w B g s a d lv N):RK w0 w (w.alloc (H #[Z E 0,Z E 0,Z E 0,Z E 0] 177)) B g s a d lv N w.heap.size 0:=
 ⟨h.up ((ID.refl w).alloc _),fun e=>absurd (aQ h.I2) (by omega),fun e=>absurd (bU h.own _ e.symm).2 (by omega),h.I5.size,aM w _,bM _,fun j hj _=>((ID.refl w).alloc _).out.block j hj,by simp⟩
theorem RK.up{s:ByteArray}{d:Nat}{N:List Nd}{z:Je}(h:RK w0 wb w B g s a d lv N k z)(b:ID w w'):RK w0 wb w' B g s a d lv N k z:=
 ⟨h.rp.up b,h.ng,h.nl,h.k0,b.block h.I2,h.kb,fun j hj c=>(b.out.block j (RB hj h.sz)).trans (h.kp j hj c),bN h.sz b.size⟩
theorem RK.at_{s:ByteArray}{d:Nat}{N:List Nd}{z:Je}(h:RK w0 wb w B g s a d lv N k z)(a':Nat):RK w0 wb (w.setCell ⟨g,1,V⟩ (Z Y (a':Int))) B g s a' d lv N k z:=
 ⟨h.rp.at_ a',h.ng,h.nl,h.k0,(aL w ⟨g,1,V⟩ k _ h.ng).trans h.I2,h.kb,fun j hj b=>(aL w ⟨g,1,V⟩ j _ b).trans (h.kp j hj b),by simpa using h.sz⟩
theorem RK.plus{s:ByteArray}{d:Nat}{N:List Nd}{z:Je}(h:RK w0 wb w B g s a d lv N k z)(m:Nat):RK w0 wb (w.setCell ⟨g,1,V⟩ (Z Y ((a:Int)+(m:Int)))) B g s (a+m) d lv N k z:=by
 have:=h.at_ (a+m)
 grind
theorem RP.Kr{s:ByteArray}{d:Nat}{N:List Nd}(h:RP w0 w B g s a d lv N)(ng:k≠g)(nl:X k≠lv.ownBlock)(k0:w0.heap.size<=k)(i:Nat)(v:Sn):RP w0 (w.setCell ⟨k,i,V⟩ v) B g s a d lv N:=
 ⟨h.I5.setCell k0 _,(aL w ⟨k,i,V⟩ g _ (Ne.symm ng)).trans h.I2,bT h.own (pC w k i v) (bY (fun e=>nl e.symm)),h.bg,h.lg,by simpa using h.lB⟩
theorem RK.put{s:ByteArray}{d:Nat}{N:List Nd}{z:Je}(h:RK w0 wb w B g s a d lv N k z)(t:Je):
  RK w0 wb ((((w.setCell ⟨k,0,V⟩ (Z E (ae t 0))).setCell ⟨k,1,V⟩ (Z E (ae t 1))).setCell ⟨k,2,V⟩ (Z E (ae t 2))).setCell ⟨k,3,V⟩ (Z E (ae t 3))) B g s a d lv N k t:=
 ⟨(((h.rp.Kr h.ng h.nl h.k0 0 _).Kr h.ng h.nl h.k0 1 _).Kr h.ng h.nl h.k0 2 _).Kr h.ng h.nl h.k0 3 _,h.ng,h.nl,h.k0,mW h.I2 t,h.kb,
  fun j hj b=>(kh w k j _ _ _ _ (fun e=>by have:=h.kb;omega)).trans (h.kp j hj b),by simpa using h.sz⟩
def Cx(z:Je)(one:Bool):Int:=if one=G then(gc z:Int) else-1
structure PJ(w0 wb:Sm)(B g:Nat)(s:ByteArray)(d:Nat)(lv:Sn)(N:List Nd)(r:(Je×Bool)×Ps)(e:Su)(w':Sm):Prop where
 ok:r.2.e=0->e= .returned (.tuple #[.int .i64 (Cx r.1.1 r.1.2),cN r.1.1,.int .i64 0])/\RP w0 w' B g s r.2.at_ d lv N/\wb.heap.size<=w'.heap.size/\∀j,j<wb.heap.size->j≠g->w'.heap[j]? =wb.heap[j]?
 no:r.2.e≠0->∃v z,e= .returned (.tuple #[.int .i64 v,cN z,.int .i64 r.2.e])/\ID w0 w'/\wb.heap.size<=w'.heap.size/\∀j,j<wb.heap.size->j≠g->w'.heap[j]? =wb.heap[j]?
theorem RK.fin{s:ByteArray}{d:Nat}{N:List Nd}{z:Je}(h:RK w0 wb w B g s a d lv N k z):RP w0 w B g s a d lv N/\wb.heap.size<=w.heap.size/\∀j,j<wb.heap.size->j≠g->w.heap[j]? =wb.heap[j]?:=⟨h.rp,h.sz,h.kp⟩
theorem RK.call{s:ByteArray}{d:Nat}{N:List Nd}{z:Je}(h:RK w0 wb w B g s a d lv N k z)(b:RP w0 w' B g s a' d lv N/\w.heap.size<=w'.heap.size/\∀j,j<w.heap.size->j≠g->w'.heap[j]? =w.heap[j]?):RK w0 wb w' B g s a' d lv N k z:=
 ⟨b.1,h.ng,h.nl,h.k0,(b.2.2 k (aQ h.I2) h.ng).trans h.I2,h.kb,fun j hj c=>(b.2.2 j (RB hj h.sz) c).trans (h.kp j hj c),bN h.sz b.2.1⟩
def Nz(s:ByteArray):Prop:=∀i,i<s.size->(bs s).getD i 0≠92
theorem Nz.of{s:ByteArray}(h:((bs s).all fun x=>x !=92)=G):Nz s:=fun i b e=>by
 have a:i<(bs s).length:=by rw[af];exact b
 rw[bD,bE a] at e;have:=List.all_eq_true.mp h _ (bH a);simp at this;exact this e
theorem mU{B:List Nat}{p:Ps}(h:B.getD p.at_ 0≠92)(a:(aG B p).2.e=0):(aG B p).1.2=G:=by grind [aG,j7,aB,iw]
theorem t8(w0:Sm)(B g:Nat)(s:ByteArray)(a d:Nat)(lv:Sn)(N:List Nd)(w:Sm)(h:RP w0 w B g s a d lv N)(hs:s.size<=1000000)(ha:a<s.size)(dp:Nat)(J:Nz s)(l:(aG (bs s) ⟨a,dp,0⟩).2.e=0):
  Sr Sz 309 #[M (X ⟨g,0,V⟩)] w (PJ w0 w B g s d lv N (aG (bs s) ⟨a,dp,0⟩)):=by
 have c:=aJ (RK.start h)
 have A:Hid (s[a].toNat≠92):=aJ (by rw[<-be s a ha];exact J a ha)
 have W:(0:Int)<=(a:Int):=by omega
 have i1:(a:Int)<(s.size:Int):=by omega
 have o:Hid (aG (bs s) ⟨a,dp,0⟩=if s[a].toNat=92 then rQ (bs s) ⟨a+1,dp,0⟩ else if s[a].toNat=94\/s[a].toNat=45\/s[a].toNat=93 then((0,O),⟨a+1,dp,80⟩) else((dj 0 s[a].toNat,G),⟨a+1,dp,0⟩)):=aJ (by
  unfold aG j7;rw[show(bs s).getD (⟨a,dp,0⟩:Ps).at_ 0=s[a].toNat from be s a ha]
  rfl)
 obtain⟨R,L⟩:∃R,aG (bs s) ⟨a,dp,0⟩=R:=⟨_,rfl⟩
 rw[L] at l ⊢;have j:=aJ l;have i:=aJ (L.symm.trans o);have P:s[a].toNat<256:=s[a].toNat_lt;clear o L h l;go_enter func309,ntmps309;go_upto_region 1 with fail
 generalize w.alloc (H #[Z E 0,Z E 0,Z E 0,Z E 0] 177)=W1 at *;generalize w.heap.size=k3 at *;obtain⟨D,c1,c2,F,f1,f2,I⟩:=c.rp.cells;obtain⟨u,x,y,z,p,q,r,t⟩:=ai c.I2;clear c2 F f2 I;go_wp2;go_quiet (fail);have f:=aJ (c.up ((ID.refl _).drewN nq));generalize W1.drewN nq=W2 at *;clear c;have c:=aJ f;clear f;clear D c1 u x y z p q r t f1;generalize s[a].toNat=b at *;have b0:(0:Int)<=(b:Int):=by omega
 have b1:(b:Int)<256:=by omega
 have k:b=93\/b=94\/b=45\/b=92\/(b≠93/\b≠94/\b≠45/\b≠92):=by omega
 rcases k with rfl|rfl|rfl|rfl|⟨n1,n2,n3,n4⟩
 ·exact absurd (i.out▸j) (by show¬(80:Int)=0;decide)
 ·exact absurd (i.out▸j) (by show¬(80:Int)=0;decide)
 ·exact absurd (i.out▸j) (by show¬(80:Int)=0;decide)
 ·exact absurd rfl A
 have q1:((b:Int)==93)=O:=by simp;omega
 have q2:((b:Int)==94)=O:=by simp;omega
 have q3:((b:Int)==45)=O:=by simp;omega
 have q4:((b:Int)==92)=O:=by simp;omega
 have o:Hid (R=((dj 0 b,G),⟨a+1,dp,0⟩)):=aJ (by rw[i.out,ng_ n4,ng_ (by omega)])
 have C:=aJ (tZ b b P P)
 have T:Hid (eL b b=dj 0 b/\gc (eL b b)=b):=aJ ⟨iH b,by rw[iH];exact wC ⟨b,P⟩⟩
 clear n1 n2 n3 n4;obtain⟨D,c1,c2,F,f1,f2,I⟩:=c.rp.cells;obtain⟨u,x,y,z,p,q,r,t⟩:=ai c.I2;clear c2 F f2 I;clear u x y z p q r t D;have m:=aJ (c.plus 1);clear c;go_upto_region 10 with fail
 have c:Hid (RK w0 w (W2.setCell ⟨g,1,V⟩ (Z Y ((a:Int)+1))) B g s (a+1) d lv N k3 0):=aJ m
 clear m c1 f1;generalize W2.setCell ⟨g,1,V⟩ (Z Y ((a:Int)+1))=W4 at *;go_wp2_with fail;refine(C _).mono ?_;rintro e _ ⟨rfl,n⟩;have f:=aJ (c.up n);clear c n;have c:=aJ f;clear f;generalize eL b b=zz at *;obtain⟨u,x,y,z,p,q,r,t⟩:=ai c.I2;have S:=aJ (c.put zz);obtain⟨v0,v1,v2,v3,_,_,_,_⟩:=ai S.I2
 try unfold cN
 go_wp2
 refine aP (v:=Rl #[Z Y (b:Int),cN zz,Z Y 0]) (by simp[results,results309,go_sem,v0,v1,v2,v3,cN]) rfl ?_
 rw[o.out,<-T.out.1];exact⟨fun _=>⟨by unfold Cx;simp[T.out.2],S.fin⟩,fun e=>absurd rfl e⟩
structure O8(w0 wb:Sm)(B g:Nat)(s:ByteArray)(d:Nat)(lv:Sn)(N:List Nd)(R:Je×Ps)(e:Su)(w':Sm):Prop where
 ok:R.2.e=0->e= .returned (.tuple #[cN R.1,.int .i64 0])/\RP w0 w' B g s R.2.at_ d lv N/\wb.heap.size<=w'.heap.size/\∀j,j<wb.heap.size->j≠g->w'.heap[j]? =wb.heap[j]?
theorem Ap(w0:Sm)(B g:Nat)(s:ByteArray)(a d:Nat)(lv:Sn)(N:List Nd)(w:Sm)(h:RP w0 w B g s a d lv N)(hs:s.size<=1000000)(ha:a<s.size)(dp:Nat)(z:Nz s)(q:(fS (bs s) ⟨a,dp,0⟩).2.e=0):
  Sr Sz 301 #[M (X ⟨g,0,V⟩)] w (O8 w0 w B g s d lv N (fS (bs s) ⟨a,dp,0⟩)):=by
 have P:(aG (bs s) ⟨a,dp,0⟩).2.e=0:=by
  by_cases h1:(aG (bs s) ⟨a,dp,0⟩).2.e=0
  ·exact h1
  unfold fS at q;simp only at q;rw[ng_ (fun h=>h1 ((aV _ _).1 h.1).1)] at q
  exact absurd q h1
 have ao:=aJ (mU (p:=⟨a,dp,0⟩) (z a ha) P)
 have aq:=aJ P
 have c:=aJ (RK.start h)
 obtain⟨R,hR⟩:∃R,fS (bs s) ⟨a,dp,0⟩=R:=⟨_,rfl⟩
 rw[hR] at q ⊢;have F:=aJ q;have x:Hid (R=fS (bs s) ⟨a,dp,0⟩):=aJ hR.symm;unfold fS at x;have al:=aJ (j9 (bs s) ⟨a,dp,0⟩ (by rw[af];exact ha))
 go_enter func301,ntmps301
 go_upto_region 1 with fail
 generalize w.alloc (H #[Z E 0,Z E 0,Z E 0,Z E 0] 177)=W1 at *;generalize w.heap.size=k2 at *;have HS:=aJ (t8 w0 B g s a d lv N W1 c.rp hs ha dp z P);generalize aG (bs s) ⟨a,dp,0⟩=R1 at *;obtain⟨⟨b,one⟩,⟨a1,m,e1⟩⟩:=R1;obtain rfl:e1=0:=aq;obtain rfl:one=G:=ao;have L:=aJ (HS.mono fun e w' h=>h.ok rfl)
 go_wp2_with fail;refine(L).mono ?_;rintro e W2 ⟨rfl,hr⟩;have I:=aJ (c.call hr);have c:=aJ I;unfold cN;go_upto_region 2 with fail
 have ag:=aM W2 (H #[Z E (ae b 0),Z E (ae b 1),Z E (ae b 2),Z E (ae b 3)] 177)
 have J:=aJ (c.up ((ID.refl W2).alloc (H #[Z E (ae b 0),Z E (ae b 1),Z E (ae b 2),Z E (ae b 3)] 177)))
 generalize W2.alloc (H #[Z E (ae b 0),Z E (ae b 1),Z E (ae b 2),Z E (ae b 3)] 177)=W3 at *;have D:Hid (W3.heap[W2.heap.size]? =X (fj b)):=aJ ag;have c:=aJ J;have az:a1<=s.size:=by have:=al.1;rwa [af] at this
 have j:=fun n=>iL w0 B g s a1 d lv N (W3.drewN n) (c.rp.drewN n) (by omega)
 have aa:Hid (fu (bs s) ⟨a1,m,0⟩=decide (a1<s.size)):=aJ (by unfold fu;rw[af];rfl)
 have ap:Hid (Cx b G=(gc b:Int)):=aJ rfl
 have hf:=oI b
 rw[ap.out];obtain⟨f,t⟩:∃f,gc b=f:=⟨_,rfl⟩
 rw[t] at hf ⊢;have am:=aJ t;have g1:decide ((f:Int)<0)=O:=decide_eq_false (by omega)
 by_cases o:a1=s.size
 ·have l:Hid (R=(b,⟨a1,m,0⟩)):=aJ (by
   rw[x.out];try simp only
   rw[ng_ (fun h=>by have:=of_decide_eq_true (aa.out.symm.trans h.1);omega)])
  rw[decide_eq_true o] at j;have u:=aJ j;obtain⟨_,c1,c2,_,f1,f2,_⟩:=c.rp.cells;obtain⟨_,_,_,_,_,_,_,_⟩:=ai c.I2;go_wp2;go_quiet ((go_at_call 79;exact Rp (u _)));have k:=aJ (c.up ((ID.refl _).drewN nq));have r:Hid ((W3.drewN nq).heap[W2.heap.size]? =X (fj b)):=aJ D;generalize W3.drewN nq=W4 at *;have c:=aJ k;obtain⟨_,_,_,_,_,_,_,_⟩:=ai r;obtain⟨_,_,_,_,_,_,_,_⟩:=ai c.I2;have A:=aJ (c.put b);obtain⟨v0,v1,v2,v3,_,_,_,_⟩:=ai A.I2
  try unfold cN
  go_wp2
  refine aP (v:=Rl #[cN b,Z Y 0]) (by simp[results,results301,go_sem,v0,v1,v2,v3,cN]) rfl ?_
  rw[l.out];exact⟨fun _=>⟨rfl,A.fin⟩⟩
 have aj:a1<s.size:=by omega
 have ah:(bs s).getD a1 0=s[a1].toNat:=be s a1 aj
 have i3:(0:Int)<=(a1:Int):=by omega
 have i4:(a1:Int)<(s.size:Int):=by omega
 rw[decide_eq_false o] at j;have u:=aJ j
 by_cases ad:s[a1].toNat=45
 ·have hq:(((s[a1].toNat:Nat):Int) !=45)=O:=by simp;omega
  have W:Hid (fu (bs s) ⟨a1,m,0⟩=G/\j7 (bs s) ⟨a1,m,0⟩=45):=aJ ⟨by rw[aa.out];exact decide_eq_true aj,ah.trans ad⟩
  have ac:=aJ x
  obtain⟨_,c1,c2,_,f1,f2,_⟩:=c.rp.cells;obtain⟨_,_,_,_,_,_,_,_⟩:=ai c.I2;go_wp2;go_quiet ((go_at_call 79;exact Rp (u _)));have k:=aJ (c.up ((ID.refl _).drewN nq));have r:Hid ((W3.drewN nq).heap[W2.heap.size]? =X (fj b)):=aJ D;generalize W3.drewN nq=W4 at *;have c:=aJ k;obtain⟨_,_,_,_,_,_,_,_⟩:=ai r;obtain⟨_,c1,c2,_,f1,f2,_⟩:=c.rp.cells;obtain⟨_,_,_,_,_,_,_,_⟩:=ai c.I2;have an:=aJ (c.plus 1);go_upto_region 5 with fail
  have c:Hid (RK w0 w (W4.setCell ⟨g,1,V⟩ (Z Y ((a1:Int)+1))) B g s (a1+1) d lv N k2 0):=aJ an
  generalize W4.setCell ⟨g,1,V⟩ (Z Y ((a1:Int)+1))=W5 at *;have j:=iL w0 B g s (a1+1) d lv N W5 c.rp (by omega)
  by_cases o:a1+1=s.size
  ·have l:Hid (R.2.e=80):=aJ (by
    rw[ac.out];try simp only
    rw[ps_ W.out,ps_ (bY (by rw[af];show s.size<=a1+1;omega))]
    rfl)
   exact absurd (l.symm.trans F) (by decide)
  have C:a1+1<s.size:=by omega
  rw[decide_eq_false o] at j;have T:=aJ j;go_wp2_with fail;refine(T).mono ?_;rintro e W6 ⟨rfl,n6,rfl⟩;have k:=aJ (c.up ((ID.refl W5).drewN n6));generalize W5.drewN n6=W6 at *;have c:=aJ k;have y:Hid (R=(eL (gc b) (gc (aG (bs s) ⟨a1+1,m,0⟩).1.1),if(aG (bs s) ⟨a1+1,m,0⟩).2.e=0/\((aG (bs s) ⟨a1+1,m,0⟩).1.2=O\/gc (aG (bs s) ⟨a1+1,m,0⟩).1.1<gc b) then aB (aG (bs s) ⟨a1+1,m,0⟩).2 80 else(aG (bs s) ⟨a1+1,m,0⟩).2)):=aJ (by
   rw[ac.out];try simp only
   rw[ps_ W.out,ng_ (fun h=>h.elim (fun h=>absurd h (by decide)) (fun h=>by rw[af] at h;exact absurd (show s.size<=a1+1 from h) (by omega)))]
   rfl)
  rw[am.out] at y;have S:(aG (bs s) ⟨a1+1,m,0⟩).2.e=0:=by
   by_cases h1:(aG (bs s) ⟨a1+1,m,0⟩).2.e=0
   ·exact h1
   have h2:=F.out
   rw[y.out] at h2;simp only at h2;rw[ng_ (fun h=>h1 h.1)] at h2
   exact absurd h2 h1
  have ak:=mU (p:=⟨a1+1,m,0⟩) (z (a1+1) C) S
  have HS:=aJ (t8 w0 B g s (a1+1) d lv N W6 c.rp hs C m z S)
  have ar:=aJ (And.intro S ak)
  generalize aG (bs s) ⟨a1+1,m,0⟩=R3 at *;obtain⟨⟨i,Po⟩,⟨a2,d2,e2⟩⟩:=R3;obtain⟨av,ax⟩:=ar;obtain rfl:e2=0:=av;obtain rfl:Po=G:=ax;have L:=aJ (HS.mono fun e w' h=>h.ok rfl)
  go_wp2_with fail;refine(L).mono ?_;rintro e W7 ⟨rfl,hr⟩;have I:=aJ (c.call hr);have c:=aJ I;unfold cN;go_upto_region 8 with fail
  have ag:=aM W7 (H #[Z E (ae i 0),Z E (ae i 1),Z E (ae i 2),Z E (ae i 3)] 177)
  have J:=aJ (c.up ((ID.refl W7).alloc (H #[Z E (ae i 0),Z E (ae i 1),Z E (ae i 2),Z E (ae i 3)] 177)))
  generalize W7.alloc (H #[Z E (ae i 0),Z E (ae i 1),Z E (ae i 2),Z E (ae i 3)] 177)=W8 at *;have c:=aJ J;have ab:Hid (Cx i G=(gc i:Int)):=aJ rfl;rw[ab.out];have aw:=oI i;generalize gc i=f2 at *
  by_cases t:f2<f
  ·have l:Hid (R.2.e=80):=aJ (by rw[y.out];(try simp only);rw[ps_ ⟨by first|rfl|trivial,bY t⟩];rfl)
   exact absurd (l.symm.trans F) (by decide)
  have l:Hid (R=(eL f f2,⟨a2,d2,0⟩)):=aJ (by rw[y.out];(try simp only);rw[ng_ (fun h=>h.2.elim (fun h=>absurd h (by decide)) t)])
  have t1:¬(f2:Int)<(f:Int):=by omega
  have u1:R9.wrap (f:Int)=(f:Int):=IntWalk.u8_in _ (by omega)
  have u2:R9.wrap (f2:Int)=(f2:Int):=IntWalk.u8_in _ (by omega)
  have au:=aJ (tZ f f2 hf aw)
  go_wp2_with fail;refine(au _).mono ?_;rintro e _ ⟨rfl,ay⟩;have k:=aJ (c.up ay);have c:=aJ k;generalize eL f f2=zz at *;obtain⟨_,_,_,_,_,_,_,_⟩:=ai c.I2;have A:=aJ (c.put zz);obtain⟨v0,v1,v2,v3,_,_,_,_⟩:=ai A.I2
  try unfold cN
  go_wp2
  refine aP (v:=Rl #[cN zz,Z Y 0]) (by simp[results,results301,go_sem,v0,v1,v2,v3,cN]) rfl ?_
  rw[l.out];exact⟨fun _=>⟨rfl,A.fin⟩⟩
 have hq:(((s[a1].toNat:Nat):Int) !=45)=G:=by simp;omega
 have l:Hid (R=(b,⟨a1,m,0⟩)):=aJ (by
  rw[x.out];try simp only
  rw[ng_ (fun h=>ad (ah.symm.trans h.2))])
 obtain⟨_,c1,c2,_,f1,f2,_⟩:=c.rp.cells;obtain⟨_,_,_,_,_,_,_,_⟩:=ai c.I2;go_wp2;go_quiet ((go_at_call 79;exact Rp (u _)));have k:=aJ (c.up ((ID.refl _).drewN nq));have r:Hid ((W3.drewN nq).heap[W2.heap.size]? =X (fj b)):=aJ D;generalize W3.drewN nq=W4 at *;have c:=aJ k;obtain⟨_,_,_,_,_,_,_,_⟩:=ai r;obtain⟨_,_,_,_,_,_,_,_⟩:=ai c.I2;have A:=aJ (c.put b);obtain⟨v0,v1,v2,v3,_,_,_,_⟩:=ai A.I2
 try unfold cN
 go_wp2
 refine aP (v:=Rl #[cN b,Z Y 0]) (by simp[results,results301,go_sem,v0,v1,v2,v3,cN]) rfl ?_
 rw[l.out];exact⟨fun _=>⟨rfl,A.fin⟩⟩
structure R2(w0 wb w:Sm)(B g:Nat)(s:ByteArray)(a d:Nat)(lv:Sn)(N:List Nd)(k k4:Nat)(z:Je):Prop where
 rk:RK w0 wb w B g s a d lv N k 0
 n4:k4≠g
 nk:k4≠k
 l4:some k4≠lv.ownBlock
 w4:w0.heap.size<=k4
 b4:wb.heap.size<=k4
 My:w.heap[k4]? =some (fj z)
theorem R2.start{s:ByteArray}{d:Nat}{N:List Nd}(h:RP w0 w B g s a d lv N):R2 w0 w ((w.alloc (H #[Z E 0,Z E 0,Z E 0,Z E 0] 177)).alloc (H #[Z E 0,Z E 0,Z E 0,Z E 0] 177)) B g s a d lv N w.heap.size (w.heap.size+1) 0:=by
 have h1:=RK.start h
 have e:(w.alloc (H #[Z E 0,Z E 0,Z E 0,Z E 0] 177)).heap.size=w.heap.size+1:=by simp
 refine⟨h1.up ((ID.refl _).alloc _),fun b=>absurd (aQ h.I2) (by omega),by omega,fun b=>absurd (bU h.own _ b.symm).2 (by omega),by have:=h.I5.size;omega,by omega,?_⟩
 rw[<-e];exact aM _ _
theorem R2.up{s:ByteArray}{d:Nat}{N:List Nd}{k4:Nat}{z:Je}(h:R2 w0 wb w B g s a d lv N k k4 z)(b:ID w w'):R2 w0 wb w' B g s a d lv N k k4 z:=⟨h.rk.up b,h.n4,h.nk,h.l4,h.w4,h.b4,b.block h.My⟩
theorem R2.plus{s:ByteArray}{d:Nat}{N:List Nd}{k4:Nat}{z:Je}(h:R2 w0 wb w B g s a d lv N k k4 z)(m:Nat):R2 w0 wb (w.setCell ⟨g,1,V⟩ (Z Y ((a:Int)+(m:Int)))) B g s (a+m) d lv N k k4 z:=
 ⟨h.rk.plus m,h.n4,h.nk,h.l4,h.w4,h.b4,(aL w ⟨g,1,V⟩ k4 _ h.n4).trans h.My⟩
theorem R2.call{s:ByteArray}{d:Nat}{N:List Nd}{k4:Nat}{z:Je}(h:R2 w0 wb w B g s a d lv N k k4 z)(b:RP w0 w' B g s a' d lv N/\w.heap.size<=w'.heap.size/\∀j,j<w.heap.size->j≠g->w'.heap[j]? =w.heap[j]?):R2 w0 wb w' B g s a' d lv N k k4 z:=
 ⟨h.rk.call b,h.n4,h.nk,h.l4,h.w4,h.b4,(b.2.2 k4 (aQ h.My) h.n4).trans h.My⟩
theorem R2.put{s:ByteArray}{d:Nat}{N:List Nd}{k4:Nat}{z:Je}(h:R2 w0 wb w B g s a d lv N k k4 z)(t:Je):
  R2 w0 wb ((((w.setCell ⟨k4,0,V⟩ (Z E (ae t 0))).setCell ⟨k4,1,V⟩ (Z E (ae t 1))).setCell ⟨k4,2,V⟩ (Z E (ae t 2))).setCell ⟨k4,3,V⟩ (Z E (ae t 3))) B g s a d lv N k k4 t:=
 ⟨⟨(((h.rk.rp.Kr h.n4 h.l4 h.w4 0 _).Kr h.n4 h.l4 h.w4 1 _).Kr h.n4 h.l4 h.w4 2 _).Kr h.n4 h.l4 h.w4 3 _,h.rk.ng,h.rk.nl,h.rk.k0,(kh w k4 k _ _ _ _ (Ne.symm h.nk)).trans h.rk.I2,h.rk.kb,
  fun j hj b=>(kh w k4 j _ _ _ _ (fun e=>by have:=h.b4;omega)).trans (h.rk.kp j hj b),by simpa using h.rk.sz⟩,h.n4,h.nk,h.l4,h.w4,h.b4,mW h.My t⟩
structure O9(w0 wb:Sm)(B g:Nat)(s:ByteArray)(d:Nat)(lv:Sn)(N:List Nd)(R:Je×Ps)(e:Su)(w':Sm):Prop where
 ok:R.2.e=0->e= .returned (.tuple #[cN R.1,.int .i64 0])/\RP w0 w' B g s R.2.at_ d lv N/\wb.heap.size<=w'.heap.size/\∀j,j<wb.heap.size->j≠g->w'.heap[j]? =wb.heap[j]?
theorem oe{B:List Nat}{a:Bool}{f:Nat}{b:Bool}{z:Je}{q:Ps}{R:Je×Ps}(h:cj B a f b z q=X R)(c:q.e≠0):R.2.e=q.e:=by
 cases f with
 |zero=>simp[cj] at h
 |succ f=>
  rw[cj,ng_ (fun h=>c ((aV _ _).1 h).1)] at h
  injection h with h
  subst h;unfold aB;rw[ng_ c]
def He(w0 w:Sm)(B g:Nat)(s:ByteArray)(d:Nat)(lv:Sn)(N:List Nd)(k2 k4 dp:Nat)(b:Bool)(R:Je×Ps)(e:Sn)(wr:Sm):Prop:=
 ∃(c f a:Nat) (z:Je),e=Z Y c/\c<=a/\a<=s.size/\Hid (R2 w0 w wr B g s a d lv N k2 k4 z)/\
  Hid (cj (bs s) b f (decide (c=0)) z ⟨a,dp,0⟩=X R)
theorem Fo(w0:Sm)(B g:Nat)(s:ByteArray)(a d:Nat)(lv:Sn)(N:List Nd)(w:Sm)(h:RP w0 w B g s a d lv N)(hs:s.size<=1000000)(ha:a<=s.size)(dp f:Nat)(R:Je×Ps)(hR:kD (bs s) f ⟨a,dp,0⟩=X R)(aC:Nz s)(ap:R.2.e=0):
  Sr Sz 285 #[M (X ⟨g,0,V⟩)] w (O9 w0 w B g s d lv N R):=by
 have b:=aJ (R2.start h)
 have I:=aJ ap
 have k:=fun(W:Sm) (ho:ID w W) (n:Nat)=>iL w0 B g s a d lv N (W.drewN n) ((h.up ho).drewN n) (by omega)
 have r:=aJ (((ID.refl w).alloc (H #[Z .u64 0,Z .u64 0,Z .u64 0,Z .u64 0] 177)).alloc (H #[Z .u64 0,Z .u64 0,Z .u64 0,Z .u64 0] 177))
 have i0:(0:Int)<=(a:Int):=by omega
 obtain⟨ng,a1,aD,ao,av⟩:∃(ng:Bool) (a1:Nat),a1<=s.size/\cj (bs s) ng f G 0 ⟨a1,dp,0⟩=X R/\((ng=G/\a1=a+1/\a<s.size/\(bs s).getD a 0=94)\/(ng=O/\a1=a/\¬(a<s.size/\(bs s).getD a 0=94))):=by
  unfold kD at hR
  by_cases h:a<s.size/\(bs s).getD a 0=94
  ·rw[ps_ ⟨(aV _ _).2 ⟨rfl,by rw[af];exact h.1⟩,h.2⟩] at hR
   exact⟨G,a+1,by omega,hR,bX ⟨rfl,rfl,h⟩⟩
  rw[ng_ (fun h'=>h ⟨by have h2:=((aV _ _).1 h'.1).2;rw[af] at h2;exact h2,h'.2⟩)] at hR
  exact⟨O,a,ha,hR,bY ⟨rfl,rfl,h⟩⟩
 have u:=aJ ao
 have m:=aJ av
 clear h hR ao av ap;go_enter func285,ntmps285;go_upto_region 2 with fail
 generalize (w.alloc (H #[Z .u64 0,Z .u64 0,Z .u64 0,Z .u64 0] 177)).alloc (H #[Z .u64 0,Z .u64 0,Z .u64 0,Z .u64 0] 177)=W1 at *;generalize hk2:w.heap.size=k2 at *;obtain⟨k4,ar⟩:∃k4,k2+1=k4:=⟨_,rfl⟩
 rw[ar] at b
 try rw[ar]
 clear hk2;go_cut [5] (fun v5 wx=>v5=K ng/\Hid (R2 w0 w wx B g s a d lv N k2 k4 0))
 case first=>
  by_cases p:a=s.size
  ·obtain rfl:ng=O:=m.out.elim (fun h=>absurd h.2.2.1 (by omega)) (fun h=>h.1)
   rw[decide_eq_true p] at k;have l:=aJ k;clear k p u m;go_wp2_with fail;go_quiet ((go_at_call 79;exact Rp (l.out _ r.out _)));have i:=aJ (b.out.up ((ID.refl _).drewN nq));generalize W1.drewN nq=W2 at *;clear b;have b:=aJ i.out;clear i;clear l r;go_wp2_with fail;go_meet;exact⟨rfl,b⟩
  have t:a<s.size:=by omega
  have al:(bs s).getD a 0=s[a].toNat:=be s a t
  have i1:(a:Int)<(s.size:Int):=by omega
  rw[decide_eq_false p] at k;have l:=aJ k;clear k p;rcases m.out with⟨hn,_,_,T⟩|⟨hn,_,T⟩
  ·subst hn;have g1:(((s[a].toNat:Nat):Int)==94)=G:=by simp;omega
   clear T al u m;obtain⟨x,c1,c2,y,f1,f2,A⟩:=b.out.rk.rp.cells;clear c2 y f2 A;go_wp2_with fail;go_quiet ((go_at_call 79;exact Rp (l.out _ r.out _)));have i:=aJ (b.out.up ((ID.refl _).drewN nq));generalize W1.drewN nq=W2 at *;clear b;have b:=aJ i.out;clear i;clear l r x c1 f1 g1;go_wp2_with fail;go_meet;exact⟨rfl,b⟩
  subst hn;have g1:(((s[a].toNat:Nat):Int)==94)=O:=by simp;omega
  clear T al u m;obtain⟨x,c1,c2,y,f1,f2,A⟩:=b.out.rk.rp.cells;clear c2 y f2 A;go_wp2_with fail;go_quiet ((go_at_call 79;exact Rp (l.out _ r.out _)));have i:=aJ (b.out.up ((ID.refl _).drewN nq));generalize W1.drewN nq=W2 at *;clear b;have b:=aJ i.out;clear i;clear l r x c1 f1 g1;go_wp2_with fail;go_meet;exact⟨rfl,b⟩
 clear b k r;obtain⟨rfl,b⟩:=hcut;go_upto_if 24 with fail
 go_cut [] (fun wx=>Hid (R2 w0 w wx B g s a1 d lv N k2 k4 0))
 case first=>
  rcases m.out with⟨hn,ab,t,_⟩|⟨hn,ab,_⟩
  ·subst hn ab;clear u m;obtain⟨x,c1,c2,y,f1,f2,A⟩:=b.out.rk.rp.cells;clear c2 y f2 A;clear x;have D:=aJ (b.out.plus 1);clear b;go_wp2_with fail;go_meet
   case rel=>exact D
  subst hn ab;go_wp2_with fail;go_meet
  case rel=>exact b
 clear b m;have b:=hcut;clear hcut;go_wp2_with fail;go_loopw [6] (fun s6 wr=>He w0 w B g s d lv N k2 k4 dp ng R s6 wr) (fun s6 _=>s.size+1-(intOf s6).toNat)
 case atStart=>exact⟨0,_,a1,0,rfl,bO _,by omega,b,u⟩
 clear u b;obtain⟨c,f,j,z,rfl,hc,_,b,u⟩:=hrel;have t:j<s.size:=by
  by_cases p:j=s.size
  ·have h:=u.out
   cases f with
   |zero=>simp[cj] at h
   |succ f=>
    rw[cj,ng_ (fun h=>by have h2:=((aV _ _).1 h).2;rw[af] at h2;simp only at h2;omega)] at h
    injection h with h
    exact absurd (h.symm▸I.out) (by show¬(80:Int)=0;decide)
  omega
 have k:=iL w0 B g s j d lv N wr b.out.rk.rp (by omega)
 have ag:Hid ((bs s).getD j 0=s[j].toNat):=aJ (be s j t)
 have i3:(0:Int)<=(j:Int):=by omega
 have i4:(j:Int)<(s.size:Int):=by omega
 have au:fu (bs s) ⟨j,dp,0⟩=G:=(aV _ _).2 ⟨rfl,by rw[af];exact t⟩
 rw[decide_eq_false (show¬j=s.size by omega)] at k
 have l:=aJ k
 have J:=aJ au
 clear k au;go_wp2_with fail;refine(l.out).mono ?_;rintro e W5 ⟨rfl,n5,rfl⟩;have aw:=(ID.refl wr).drewN n5;generalize wr.drewN n5=W6 at *;have i:=aJ (b.out.up aw);clear b aw;have b:=aJ i.out;clear i;clear l
 by_cases F:s[j].toNat=93
 ·have ac:0<c/\R=(if ng=G then fQ z else z,⟨j+1,dp,0⟩):=by
   have h:=u.out
   cases f with
   |zero=>simp[cj] at h
   |succ f=>
    rw[cj,ps_ J.out,ps_ (show j7 (bs s) ⟨j,dp,0⟩=93 from ag.out.trans F)] at h
    injection h with h
    by_cases an:c=0
    ·rw[decide_eq_true an,ps_ rfl] at h;exact absurd (h.symm▸I.out) (by show¬(80:Int)=0;decide)
    rw[decide_eq_false an,ng_ (show¬(O=G) by decide)] at h
    exact⟨by omega,h.symm⟩
  have e1:(((s[j].toNat:Nat):Int)==93)=G:=by simp;omega
  have e3:0<c:=ac.1
  have e2:decide ((0:Int)<(c:Int))=G:=decide_eq_true (by omega)
  have e4:decide (0<c)=G:=decide_eq_true e3
  have HE:=aJ ac.2
  clear F u ac;obtain⟨x,c1,c2,y,f1,f2,A⟩:=b.out.rk.rp.cells;clear c2 y f2 A;go_wp2_with fail;go_quiet (fail);have i:=aJ (b.out.up ((ID.refl _).drewN nq));generalize W6.drewN nq=W7 at *;clear b;have b:=aJ i.out;clear i;clear x c1 f1 e1;obtain⟨x,c1,c2,y,f1,f2,A⟩:=b.out.rk.rp.cells;clear c2 y f2 A;clear x;have D:=aJ (b.out.plus 1);clear b;go_upto_region 10 with fail
  have b:Hid (R2 w0 w (W7.setCell ⟨g,1,V⟩ (Z Y ((j:Int)+1))) B g s (j+1) d lv N k2 k4 z):=aJ D.out
  clear D c1 f1;generalize W7.setCell ⟨g,1,V⟩ (Z Y ((j:Int)+1))=W8 at *;obtain⟨t0,t1,t2,t3,r0,r1,r2,r3⟩:=ai b.out.My;cases ng
  ·have HK:=aJ b.out.rk
   obtain⟨_,_,_,_,_,_,_,_⟩:=ai HK.out.I2;have HF:=aJ (HK.out.put z);obtain⟨v0,v1,v2,v3,_,_,_,_⟩:=ai HF.out.I2
   try unfold cN
   go_wp2_with fail;refine aP (v:=Rl #[cN z,Z Y 0]) (by simp[results,results285,go_sem,v0,v1,v2,v3,cN]) rfl ?_
   rw[HE.out];exact⟨fun _=>⟨rfl,HF.out.fin⟩⟩
  have L:=aJ (uv z)
  unfold cN at L;go_wp2_with fail;refine(L.out _).mono ?_;rintro e S ⟨rfl,az⟩;clear L t0 t1 t2 t3 r0 r1 r2 r3;have i:=aJ (b.out.up az);clear b az;have b:=aJ i.out;clear i;obtain⟨t0,t1,t2,t3,r0,r1,r2,r3⟩:=ai b.out.My;have o:=aJ (b.out.put (fQ z));clear b;go_upto_region 12 with fail
  clear t0 t1 t2 t3 r0 r1 r2 r3;have aA:Hid (R=(fQ z,⟨j+1,dp,0⟩)):=aJ (by rw[HE.out];rfl)
  clear HE;generalize fQ z=zn at *;generalize ((((S.setCell ⟨k4,0,V⟩ (Z .u64 (ae zn 0))).setCell ⟨k4,1,V⟩ (Z .u64 (ae zn 1))).setCell ⟨k4,2,V⟩ (Z .u64 (ae zn 2))).setCell ⟨k4,3,V⟩ (Z .u64 (ae zn 3)))=W10 at *;obtain⟨t0,t1,t2,t3,_,_,_,_⟩:=ai o.out.My;have HK:=aJ o.out.rk;clear o;obtain⟨_,_,_,_,_,_,_,_⟩:=ai HK.out.I2;have HF:=aJ (HK.out.put zn);obtain⟨v0,v1,v2,v3,_,_,_,_⟩:=ai HF.out.I2
  try unfold cN
  go_wp2_with fail;refine aP (v:=Rl #[cN zn,Z Y 0]) (by simp[results,results285,go_sem,v0,v1,v2,v3,cN]) rfl ?_
  rw[aA.out];exact⟨fun _=>⟨rfl,HF.out.fin⟩⟩
 obtain⟨C,f',aq⟩:(fS (bs s) ⟨j,dp,0⟩).2.e=0/\∃f',cj (bs s) ng f' O (z|||(fS (bs s) ⟨j,dp,0⟩).1) (fS (bs s) ⟨j,dp,0⟩).2=X R:=by
  have h:=u.out
  cases f with
  |zero=>simp[cj] at h
  |succ f=>
   rw[cj,ps_ J.out,ng_ (show¬j7 (bs s) ⟨j,dp,0⟩=93 from fun e=>F (ag.out.symm.trans e))] at h
   by_cases he:(fS (bs s) ⟨j,dp,0⟩).2.e=0
   ·exact⟨he,f,h⟩
   have h2:=oe h he
   rw[I.out] at h2;exact absurd h2.symm he
 have aj:=aJ (fun(W:Sm) (hr:RP w0 W B g s j d lv N)=>(Ap w0 B g s j d lv N W hr hs t dp aC C).mono fun e w' h=>h.ok C)
 have am:=rR (bs s) ⟨j,dp,0⟩ (by rw[af];exact t)
 rw[af] at am;have aB:=aJ aq;have g1:(((s[j].toNat:Nat):Int)==93)=O:=by simp;omega
 clear u J aq F;generalize fS (bs s) ⟨j,dp,0⟩=E at *;obtain⟨q,⟨a2,d2,e2⟩⟩:=E;obtain⟨q1,q2,q3⟩:a2<=s.size/\j<a2/\d2=dp:=am;subst q3;obtain rfl:e2=0:=C;obtain⟨x,c1,c2,y,f1,f2,A⟩:=b.out.rk.rp.cells;clear c2 y f2 A;go_wp2_with fail;go_quiet (fail);have i:=aJ (b.out.up ((ID.refl _).drewN nq));generalize W6.drewN nq=W5 at *;clear b;have b:=aJ i.out;clear i;clear x c1 f1 g1;have ah:=aJ (aj.out W5 b.out.rk.rp);clear aj;go_wp2_with fail;refine(ah.out).mono ?_;rintro e S ⟨rfl,hr⟩;have o:=aJ (b.out.call hr);clear hr b ah;have b:=aJ o.out;clear o;unfold cN;go_upto_region 14 with fail
 have ak:=aM S (H #[Z .u64 (ae q 0),Z .u64 (ae q 1),Z .u64 (ae q 2),Z .u64 (ae q 3)] 177)
 have ax:=(ID.refl S).alloc (H #[Z .u64 (ae q 0),Z .u64 (ae q 1),Z .u64 (ae q 2),Z .u64 (ae q 3)] 177)
 generalize S.alloc (H #[Z .u64 (ae q 0),Z .u64 (ae q 1),Z .u64 (ae q 2),Z .u64 (ae q 3)] 177)=W7 at *;have ad:Hid (W7.heap[S.heap.size]? =X (fj q)):=aJ ak;clear ak;have i:=aJ (b.out.up ax);clear b ax;have b:=aJ i.out;clear i;generalize S.heap.size=k7 at *;obtain⟨x0,x1,x2,x3,_,_,_,_⟩:=ai ad.out;obtain⟨t0,t1,t2,t3,_,_,_,_⟩:=ai b.out.My;have P:=aJ (BV z q);unfold cN at P;go_wp2_with fail;refine(P.out _).mono ?_;rintro e W8 ⟨rfl,ay⟩;clear ad P x0 x1 x2 x3 t0 t1 t2 t3;have i:=aJ (b.out.up ay);clear b ay;have b:=aJ i.out;clear i;obtain⟨t0,t1,t2,t3,r0,r1,r2,r3⟩:=ai b.out.My;have o:=aJ (b.out.put (z|||q));clear b;go_wp2_with fail;go_roundw
 case rel=>exact⟨c+1,f',a2,z|||q,by go_num,by omega,q1,o,aJ (by rw[show decide (c+1=0)=O by simp];exact aB.out)⟩
 simp[intOf];omega
theorem iT(n m:Int)(x:Nd):ao n (ao m x)=ao (n+m) x:=by
 unfold ao ib
 grind
theorem sy(k:Int)(z:Je)(n:Int)(hk:mr k=0):(cB k z).map (ao n)=[⟨k,0,0,z⟩]:=by grind [cB,ao,ib]
theorem jh(k:Int)(l:List Nd)(n:Nat)(hk:mr k=1):(aT k l []).map (ao n)=l.map (ao n)++[⟨k,(n:Int)+l.length-1,0,0⟩]:=by grind [aT,ao,ib]
theorem mh(k:Int)(l r:List Nd)(n:Nat)(hk:mr k=2)(a:0<r.length):(aT k l r).map (ao n)=l.map (ao n)++r.map (ao ((n+l.length:Nat):Int))++[⟨k,(n:Int)+l.length-1,(n:Int)+l.length+r.length-1,0⟩]:=by
 unfold aT;rw[RC,RC,List.map_map];have e:(ao (n:Int)∘ao (l.length:Int))=ao ((n+l.length:Nat):Int):=by
  funext x
  simp only[Function.comp];rw[iT]
  congr 1
 rw[e]
 congr 1
 simp only[List.map_cons,List.map_nil,ao,ib,hk]
 grind
def iy(N l:List Nd):Int:=(N.length:Int)+l.length-1
structure Mw(w0:Sm)(B g:Nat)(s:ByteArray)(d:Nat)(N:List Nd)(R:List Nd×Ps)(e:Su)(w':Sm):Prop where
 ok:R.2.e=0->e= .returned (.tuple #[.int .i64 (iy N R.1),.int .i64 0])/\∃lv',RP w0 w' B g s R.2.at_ d lv' (N++R.1.map (ao (N.length:Int)))
def K7(s:ByteArray)(a:Nat)(N:List Nd):Prop:=N.length+4*(s.size+1-a)<=100000
theorem K7.len{s:ByteArray}{N:List Nd}(h:K7 s a N):N.length<=100000:=by grind [K7]
def Dz(f:Nat):Prop:=∀(w0:Sm) (B g:Nat) (s:ByteArray) (a d:Nat) (lv:Sn) (N:List Nd) (w:Sm) (R:List Nd×Ps),RP w0 w B g s a d lv N->s.size<=10000->a<=s.size->d<=24->K7 s a N->lj (bs s) f ⟨a,d,0⟩=X R->Nz s->R.2.e=0->
 Sr Sz 78 #[M (X ⟨g,0,V⟩)] w (Mw w0 B g s d N R)
def FR(f:Nat):Prop:=∀(w0:Sm) (B g:Nat) (s:ByteArray) (a d:Nat) (lv:Sn) (N:List Nd) (w:Sm) (R:List Nd×Ps),RP w0 w B g s a d lv N->s.size<=10000->a<=s.size->d<=24->K7 s a N->kY (bs s) f ⟨a,d,0⟩=X R->Nz s->R.2.e=0->
 Sr Sz 157 #[M (X ⟨g,0,V⟩)] w (Mw w0 B g s d N R)
def Bj(f:Nat):Prop:=∀(w0:Sm) (B g:Nat) (s:ByteArray) (a d:Nat) (lv:Sn) (N:List Nd) (w:Sm) (R:List Nd×Ps),RP w0 w B g s a d lv N->s.size<=10000->a<s.size->d<=24->K7 s a N->iU (bs s) f ⟨a,d,0⟩=X R->Nz s->R.2.e=0->
 Sr Sz 226 #[M (X ⟨g,0,V⟩)] w (Mw w0 B g s d N R)
def By(f:Nat):Prop:=∀(w0:Sm) (B g:Nat) (s:ByteArray) (a d:Nat) (lv:Sn) (N:List Nd) (w:Sm) (R:List Nd×Ps),RP w0 w B g s a d lv N->s.size<=10000->a<s.size->d<=24->K7 s a N->jB (bs s) f ⟨a,d,0⟩=X R->Nz s->R.2.e=0->
 Sr Sz 266 #[M (X ⟨g,0,V⟩)] w (Mw w0 B g s d N R)
def E2(B:List Nat)(f:Nat)(a d:Nat):Option (List Nd×Ps):=
 if 24<d+1 then X ([],⟨a+1,d+1,84⟩)
 else match lj B f ⟨a+1,d+1,0⟩ with
  |none=>V
  |some (l,r)=>X (l,{(if r.e=0/\B.length<=r.at_ then aB r 83 else r) with at_:=(if r.e=0/\B.length<=r.at_ then aB r 83 else r).at_+1,deep:=(if r.e=0/\B.length<=r.at_ then aB r 83 else r).deep-1})
theorem E4(f:Nat)(hP:Dz f)(w0:Sm)(B g:Nat)(s:ByteArray)(a d:Nat)(lv:Sn)(N:List Nd)(w:Sm)(R:List Nd×Ps)(h:RP w0 w B g s a d lv N)(hs:s.size<=10000)(ha:a<s.size)(hd:d<=24)(hN:K7 s a N)(j:E2 (bs s) f a d=X R)(ab:Nz s)(q:R.2.e=0):
  Sr Sz 284 #[M (X ⟨g,0,V⟩)] w (Mw w0 B g s d N R):=by
 have c:=aJ h
 have z:=aJ q
 unfold E2 at j
 by_cases T:d=24
 ·rw[ps_ (by omega)] at j
  exact absurd ((bQ j).symm▸q) (by show¬(84:Int)=0;decide)
 rw[ng_ (by omega)] at j
 cases J:lj (bs s) f ⟨a+1,d+1,0⟩ with
 |none=>rw[J] at j;cases j
 |some lr=>
 rw[J] at j;obtain⟨l,r⟩:=lr;obtain⟨a1,i,b⟩:=r;have I:Hid (R=(l,{(if b=0/\(bs s).length<=a1 then aB ⟨a1,i,b⟩ 83 else⟨a1,i,b⟩:Ps) with at_:=(if b=0/\(bs s).length<=a1 then aB ⟨a1,i,b⟩ 83 else⟨a1,i,b⟩:Ps).at_+1,deep:=(if b=0/\(bs s).length<=a1 then aB ⟨a1,i,b⟩ 83 else⟨a1,i,b⟩:Ps).deep-1})):=aJ (bQ j).symm
 have W:Good (bs s).length ⟨a+1,d+1,0⟩ l ⟨a1,i,b⟩ 0:=(fB (bs s) f).1 ⟨a+1,d+1,0⟩ (l,⟨a1,i,b⟩) ⟨rfl,by rw[af];show a+1<=_;omega,by show d+1<=24;omega⟩ J
 rw[af] at W I;have HG:=aJ W;have ac:((d:Int)==24)=O:=by simp;omega
 have i1:(d:Int)<24:=by omega
 have i3:(a:Int)<10000:=by omega
 have D:Hid (RP w0 ((w.setCell ⟨g,2,V⟩ (Z Y ((d:Int)+1))).setCell ⟨g,1,V⟩ (Z Y ((a:Int)+1))) B g s (a+1) (d+1) lv N):=aJ (by
  have:=(h.N9 (d+1)).at_ (a+1)
  rw[show((d+1:Nat):Int)=(d:Int)+1 by omega,show((a+1:Nat):Int)=(a:Int)+1 by omega] at this
  exact this)
 have C:Hid (RP w0 (w.setCell ⟨g,2,V⟩ (Z Y ((d:Int)+1))) B g s a (d+1) lv N):=aJ (by
  have:=h.N9 (d+1)
  rw[show((d+1:Nat):Int)=(d:Int)+1 by omega] at this
  exact this)
 have aa:K7 s (a+1) N:=by unfold K7 at hN ⊢;omega
 clear h j W T hN q;obtain⟨x,c1,c2,o,f1,f2,p⟩:=c.cells;clear o p;go_enter func284,ntmps284;go_upto_region 4 with fail
 clear x c1 c2 f1 f2 ac;generalize w.setCell ⟨g,2,V⟩ (Z Y ((d:Int)+1))=W1 at *;clear c;have c:=aJ C;clear C;obtain⟨x,c1,c2,o,f1,f2,p⟩:=c.cells;clear o p;go_upto_region 5 with fail
 clear x c1 c2 f1 f2;generalize W1.setCell ⟨g,1,V⟩ (Z Y ((a:Int)+1))=W2 at *;clear c;obtain rfl:b=0:=by
  by_cases he:b=0
  ·exact he
  have h:=z.out
  rw[I.out] at h;simp[he] at h
 have HC:=aJ (hP w0 B g s (a+1) (d+1) lv N W2 (l,⟨a1,i,0⟩) D hs (by omega) (by omega) aa J ab rfl)
 clear J D;have y:=aJ (HC.mono fun e w' h=>h.ok rfl)
 obtain⟨g1,g2,g3,_,_⟩:=HG.ok rfl;simp only at g1 g2 g3;subst g1;clear HC;go_wp2_with fail;refine(y).mono ?_;rintro e W3 ⟨rfl,u,hr⟩;have F:=aJ hr;have t:=iL w0 B g s a1 (d+1) u _ W3 hr (by omega)
 clear hr y
 by_cases k:a1=s.size
 ·have L:R.2.e=83:=by rw[I.out];simp[show s.size<=a1 by omega,aB]
  exact absurd (L.symm.trans z) (by decide)
 have L:Hid (R=(l,⟨a1+1,d,0⟩)):=aJ (by rw[I.out];simp[show¬s.size<=a1 by omega])
 rw[decide_eq_false k] at t;have A:=aJ t;have i5:(a1:Int)<10000:=by omega
 clear t k I;go_wp2_with fail;refine(A).mono ?_;rintro e S ⟨rfl,n4,rfl⟩;have m:=aJ (F.drewN n4);generalize W3.drewN n4=S at *;clear F A;have n:Hid (RP w0 (S.setCell ⟨g,1,V⟩ (Z Y ((a1:Int)+1))) B g s (a1+1) (d+1) u (N++l.map (ao (N.length:Int)))):=aJ (by
  have:=m.at_ (a1+1)
  rw[show((a1+1:Nat):Int)=(a1:Int)+1 by omega] at this
  exact this)
 have c:=aJ m
 obtain⟨x,c1,c2,o,f1,f2,p⟩:=c.cells;clear o p;go_upto_region 11 with fail
 clear x c1 c2 f1 f2 c m;generalize S.setCell ⟨g,1,V⟩ (Z Y ((a1:Int)+1))=W5 at *;have c:=aJ n;have P:=aJ (n.N9 d);obtain⟨x,c1,c2,o,f1,f2,p⟩:=c.cells;clear o p;have ad:W5.cell? ⟨g,2,V⟩=X (Z Y ((d:Int)+1)):=by rw[c2];congr 2
 clear c2 c n;have dd:(d:Int)+1-1=(d:Int):=by omega
 go_wp2
 go_ret2;rw[L.out];exact⟨fun _=>⟨rfl,u,P⟩⟩
theorem yK(N:List Nd)(k:Int)(z:Je):iy N (cB k z)=(N.length:Int):=by simp[iy,cB]
theorem oh(w0:Sm)(B g:Nat)(s:ByteArray)(a d:Nat)(lv:Sn)(N:List Nd)(w:Sm)(h:RP w0 w B g s a d lv N)(b:N.length<=100000)(k lf rt:Int):
  Sr Sz 158 #[M (X ⟨g,0,V⟩),Rm #[Z Y k,Z Y lf,Z Y rt,Z E 0,Z E 0,Z E 0,Z E 0]] w (qt w0 B g s a d N ⟨k,lf,rt,0⟩):=by
 have:=GW w0 B g s a d lv N w h b ⟨k,lf,rt,0⟩
 unfold Ht at this;simp only[cF] at this;exact this
theorem FC(w0:Sm)(B g:Nat)(s:ByteArray)(a d:Nat)(lv:Sn)(N:List Nd)(w:Sm)(h:RP w0 w B g s a d lv N)(b:N.length<=100000)(z:Je):
  Sr Sz 158 #[M (X ⟨g,0,V⟩),Rm #[Z Y 2,Z Y 0,Z Y 0,Z E (ae z 0),Z E (ae z 1),Z E (ae z 2),Z E (ae z 3)]] w (qt w0 B g s a d N ⟨2,0,0,z⟩):=GW w0 B g s a d lv N w h b ⟨2,0,0,z⟩
theorem fa{s:ByteArray}{d b:Nat}{N:List Nd}{R:List Nd×Ps}{k:Int}{z:Je}(c:R=(cB k z,⟨a,b,0⟩))(hk:mr k=0)(h:RP w0 w B g s a d lv (N++[⟨k,0,0,z⟩])):
  Mw w0 B g s d N R (Rk (Rl #[Z Y (N.length:Int),Z Y 0])) w:=by
 subst c;refine⟨fun _=>⟨by rw[yK],lv,?_⟩⟩
 show RP w0 w B g s a d lv (N++(cB k z).map (ao (N.length:Int)))
 rw[sy _ _ _ hk];exact h
theorem GU(f:Nat)(hP:Dz f):By (f+1):=by
 intro w0 B g s a d lv N w R h hs ha hd hN J y af;have m:=aJ af;have S:Hid (s[a].toNat≠92):=aJ (by rw[<-be s a ha];exact y a ha)
 have HG:=aJ (E4 f hP w0 B g s a d lv N)
 rw[jB] at J;simp only at J;rw[show j7 (bs s) ⟨a,d,0⟩=s[a].toNat from be s a ha] at J
 have i:=aJ J
 have hb:s[a].toNat<256:=s[a].toNat_lt
 have c:=aJ h
 have HO:=aJ h.I5
 have i0:(0:Int)<=(a:Int):=by omega
 have i1:(a:Int)<(s.size:Int):=by omega
 have D:=aJ hN.len
 obtain⟨_,c1,c2,_,f1,f2,_⟩:=h.cells;go_enter func266,ntmps266;go_wp2;go_quiet (fail);have F:=aJ (c.drewN nq);have aj:Hid (ID w0 (w.drewN nq)):=aJ F.I5;generalize w.drewN nq=W2 at *;have c:=aJ F;generalize s[a].toNat=b at *;have b0:(0:Int)<=(b:Int):=by omega
 have b1:(b:Int)<256:=by omega
 have A:b=42\/b=43\/b=63\/b=93\/b=40\/b=91\/b=92\/b=94\/b=36\/b=46\/(b≠42/\b≠43/\b≠63/\b≠93/\b≠40/\b≠91/\b≠92/\b≠94/\b≠36/\b≠46):=by omega
 rcases A with rfl|rfl|rfl|rfl|rfl|rfl|rfl|rfl|rfl|rfl|⟨n1,n2,n3,n4,n5,n6,n7,n8,n9,O0⟩
 ·have l:R.2.e=81:=by
   have h:=i.out
   rw[ng_ (by decide),ng_ (by decide),ng_ (by decide),ng_ (by decide),ng_ (by decide),ng_ (by decide),ps_ (by decide)] at h
   rw[<-bQ h];rfl
  exact absurd (l.symm.trans m) (by decide)
 ·have l:R.2.e=81:=by
   have h:=i.out
   rw[ng_ (by decide),ng_ (by decide),ng_ (by decide),ng_ (by decide),ng_ (by decide),ng_ (by decide),ps_ (by decide)] at h
   rw[<-bQ h];rfl
  exact absurd (l.symm.trans m) (by decide)
 ·have l:R.2.e=81:=by
   have h:=i.out
   rw[ng_ (by decide),ng_ (by decide),ng_ (by decide),ng_ (by decide),ng_ (by decide),ng_ (by decide),ps_ (by decide)] at h
   rw[<-bQ h];rfl
  exact absurd (l.symm.trans m) (by decide)
 ·have l:R.2.e=80:=by
   have h:=i.out
   rw[ng_ (by decide),ng_ (by decide),ng_ (by decide),ng_ (by decide),ng_ (by decide),ps_ (by decide)] at h
   rw[<-bQ h];rfl
  exact absurd (l.symm.trans m) (by decide)
 ·have P:Hid (E2 (bs s) f a d=X R):=aJ (by
   have h:=i.out
   rw[ng_ (by decide),ng_ (by decide),ng_ (by decide),ng_ (by decide),ng_ (by decide),ng_ (by decide),ng_ (by decide),ps_ (by decide)] at h
   exact h)
  have L:=aJ (HG W2 R c hs ha hd hN P y m)
  have t:=aJ (L.mono fun e w' h=>h.ok m)
  go_wp2_with fail;refine(t).mono ?_;rintro e p ⟨rfl,ah,n⟩;have aa:=aJ n;go_wp2;go_ret2;exact⟨fun _=>⟨rfl,ah,aa⟩⟩
 ·obtain⟨⟨z,q⟩,hq⟩:∃r,kD (bs s) f ⟨a+1,d,0⟩=X r:=by
   have h:=i.out
   rw[ng_ (by decide),ng_ (by decide),ng_ (by decide),ng_ (by decide),ps_ (by decide)] at h
   cases hc:kD (bs s) f ⟨a+1,d,0⟩ with
   |none=>
    rw[show iw ⟨a,d,0⟩=(⟨a+1,d,0⟩:Ps) from rfl,hc] at h
    cases h
   |some r=>exact⟨r,rfl⟩
  have l:Hid (R=(cB 2 z,q)):=aJ (by
   have h:=i.out
   rw[ng_ (by decide),ng_ (by decide),ng_ (by decide),ng_ (by decide),ps_ (by decide),show iw ⟨a,d,0⟩=(⟨a+1,d,0⟩:Ps) from rfl,hq] at h
   exact(bQ h).symm)
  obtain⟨_,c1,c2,_,f1,f2,_⟩:=c.cells;have j:Hid (RP w0 (W2.setCell ⟨g,1,V⟩ (Z Y ((a:Int)+1))) B g s (a+1) d lv N):=aJ (by
   have:=c.at_ (a+1)
   rw[show((a+1:Nat):Int)=(a:Int)+1 by omega] at this
   exact this)
  go_upto_region 13 with fail
  generalize W2.setCell ⟨g,1,V⟩ (Z Y ((a:Int)+1))=p at *;have c:=aJ j;obtain⟨a2,d2,e2⟩:=q;obtain rfl:e2=0:=(l.out▸m:(cB 2 z,(⟨a2,d2,e2⟩:Ps)).2.e=0);have L:=aJ (Fo w0 B g s (a+1) d lv N p c (by omega) (by omega) d f (z,⟨a2,d2,0⟩) hq y rfl)
  have t:=aJ (L.mono fun e w' h=>(h.ok rfl))
  go_wp2_with fail;refine(t).mono ?_;rintro e x ⟨rfl,n,_,_⟩;have ab:=aJ n;unfold cN;go_upto_region 16 with fail
  have ad:=aM x (H #[Z E (ae z 0),Z E (ae z 1),Z E (ae z 2),Z E (ae z 3)] 177)
  have W:=aJ (ab.up ((ID.refl x).alloc (H #[Z E (ae z 0),Z E (ae z 1),Z E (ae z 2),Z E (ae z 3)] 177)))
  generalize x.alloc (H #[Z E (ae z 0),Z E (ae z 1),Z E (ae z 2),Z E (ae z 3)] 177)=I at *;obtain⟨_,_,_,_,_,_,_,_⟩:=ai (show I.heap[x.heap.size]? =X (fj z) from ad)
  have o:=aJ (FC w0 B g s _ d lv N I W D z)
  go_wp2_with fail;refine(o).mono ?_;rintro e _ ⟨rfl,_,n⟩;have k:=aJ n;go_wp2;go_ret2;exact fa l (by decide) k
 ·exact absurd rfl S
 ·have l:Hid (R=(cB 8 0,⟨a+1,d,0⟩)):=aJ (by
   have h:=i.out
   rw[ng_ (by decide),ps_ (by decide)] at h
   exact(bQ h).symm)
  obtain⟨_,c1,c2,_,f1,f2,_⟩:=c.cells;have j:Hid (RP w0 (W2.setCell ⟨g,1,V⟩ (Z Y ((a:Int)+1))) B g s (a+1) d lv N):=aJ (by
   have:=c.at_ (a+1)
   rw[show((a+1:Nat):Int)=(a:Int)+1 by omega] at this
   exact this)
  go_upto_region 25 with fail
  generalize W2.setCell ⟨g,1,V⟩ (Z Y ((a:Int)+1))=p at *;have c:=aJ j;have o:=aJ (oh w0 B g s (a+1) d lv N p c D 8 0 0);go_wp2_with fail;refine(o).mono ?_;rintro e _ ⟨rfl,_,n⟩;have k:=aJ n;go_wp2;go_ret2;exact fa l (by decide) k
 ·have l:Hid (R=(cB 9 0,⟨a+1,d,0⟩)):=aJ (by
   have h:=i.out
   rw[ng_ (by decide),ng_ (by decide),ps_ (by decide)] at h
   exact(bQ h).symm)
  obtain⟨_,c1,c2,_,f1,f2,_⟩:=c.cells;have j:Hid (RP w0 (W2.setCell ⟨g,1,V⟩ (Z Y ((a:Int)+1))) B g s (a+1) d lv N):=aJ (by
   have:=c.at_ (a+1)
   rw[show((a+1:Nat):Int)=(a:Int)+1 by omega] at this
   exact this)
  go_upto_region 27 with fail
  generalize W2.setCell ⟨g,1,V⟩ (Z Y ((a:Int)+1))=p at *;have c:=aJ j;have o:=aJ (oh w0 B g s (a+1) d lv N p c D 9 0 0);go_wp2_with fail;refine(o).mono ?_;rintro e _ ⟨rfl,_,n⟩;have k:=aJ n;go_wp2;go_ret2;exact fa l (by decide) k
 ·have l:Hid (R=(cB 2 (fQ (dj 0 10)),⟨a+1,d,0⟩)):=aJ (by
   have h:=i.out
   rw[ps_ (by decide)] at h
   exact(bQ h).symm)
  obtain⟨_,c1,c2,_,f1,f2,_⟩:=c.cells;have j:Hid (RP w0 (W2.setCell ⟨g,1,V⟩ (Z Y ((a:Int)+1))) B g s (a+1) d lv N):=aJ (by
   have:=c.at_ (a+1)
   rw[show((a+1:Nat):Int)=(a:Int)+1 by omega] at this
   exact this)
  go_upto_region 29 with fail
  generalize W2.setCell ⟨g,1,V⟩ (Z Y ((a:Int)+1))=p at *;have c:=aJ j;go_wp2_with fail;refine(tZ 10 10 (by decide) (by decide) _).mono ?_;rintro e x ⟨rfl,C⟩
  rw[iH];have T:=aJ (uv (dj 0 10));go_wp2_with fail;refine(T _).mono ?_;rintro e I ⟨rfl,ag⟩;have u:=aJ ((c.up C).up ag);generalize fQ (dj 0 10)=z at *;have o:=aJ (FC w0 B g s (a+1) d lv N I u D z);unfold cN;go_wp2_with fail;refine(o).mono ?_;rintro e _ ⟨rfl,_,n⟩;have k:=aJ n;go_wp2;go_ret2;exact fa l (by decide) k
 have q1:((b:Int)==42)=O:=by simp;omega
 have q2:((b:Int)==43)=O:=by simp;omega
 have q3:((b:Int)==63)=O:=by simp;omega
 have q4:((b:Int)==93)=O:=by simp;omega
 have q5:((b:Int)==40)=O:=by simp;omega
 have q6:((b:Int)==91)=O:=by simp;omega
 have q7:((b:Int)==92)=O:=by simp;omega
 have q8:((b:Int)==94)=O:=by simp;omega
 have q9:((b:Int)==36)=O:=by simp;omega
 have ak:((b:Int)==46)=O:=by simp;omega
 have l:Hid (R=(cB 2 (dj 0 b),⟨a+1,d,0⟩)):=aJ (by
  have h:=i.out
  rw[ng_ O0,ng_ n8,ng_ n9,ng_ n7,ng_ n6,ng_ n4,ng_ (by omega),ng_ n5] at h
  exact(bQ h).symm)
 have ac:=aJ (tZ b b hb hb)
 obtain⟨_,c1,c2,_,f1,f2,_⟩:=c.cells;have j:Hid (RP w0 (W2.setCell ⟨g,1,V⟩ (Z Y ((a:Int)+1))) B g s (a+1) d lv N):=aJ (by
  have:=c.at_ (a+1)
  rw[show((a+1:Nat):Int)=(a:Int)+1 by omega] at this
  exact this)
 go_upto_region 30 with fail
 generalize W2.setCell ⟨g,1,V⟩ (Z Y ((a:Int)+1))=p at *;have c:=aJ j;go_wp2_with fail;refine(ac _).mono ?_;rintro e x ⟨rfl,C⟩;rw[iH];have u:=aJ (c.up C);generalize dj 0 b=z at *;have o:=aJ (FC w0 B g s (a+1) d lv N x u D z);unfold cN;go_wp2_with fail;refine(o).mono ?_;rintro e _ ⟨rfl,_,n⟩;have k:=aJ n;go_wp2;go_ret2;exact fa l (by decide) k
theorem lN(N l:List Nd)(k:Int):iy N (aT k l [])=iy N l+1:=by grind [iy,dX]
theorem kR{B:List Nat}{f:Nat}{l:List Nd}{q:Ps}{R:List Nd×Ps}(h:aI B f l q=X R)(a:fu B q=O):R=(l,q):=by
 cases f with
 |zero=>simp[aI] at h
 |succ f=>
  rw[aI,ng_ (by rw[a];decide)] at h
  exact(bQ h).symm
def G4(w0:Sm)(B g:Nat)(s:ByteArray)(a d:Nat)(N:List Nd)(R:List Nd×Ps)(v:Sn)(wr:Sm):Prop:=
 ∃(f:Nat) (l:List Nd) (b:Nat) (lv:Sn),v=Z Y (iy N l)/\0<l.length/\l.length+2<=2*(b-a)+1/\a<=b/\b<=s.size/\Hid (RP w0 wr B g s b d lv (N++l.map (ao (N.length:Int))))/\Hid (aI (bs s) f l ⟨b,d,0⟩=X R)
theorem Gq(f:Nat)(hA:By f):Bj (f+1):=by
 intro w0 B g s a d ah N w R h hs ha hd hN L ag ab;rw[iU] at L;cases hq:jB (bs s) f ⟨a,d,0⟩ with
 |none=>rw[hq] at L;cases L
 |some lq=>
 rw[hq] at L;obtain⟨l0,⟨a0,T,e0⟩⟩:=lq;simp only at L;obtain rfl:e0=0:=by
  by_cases he:e0=0
  ·exact he
  rw[kR L (by unfold fu;simp[he])] at ab
  exact ab
 have hG:Good (bs s).length ⟨a,d,0⟩ l0 ⟨a0,T,0⟩ 2:=(fB (bs s) f).2.2.2.2.2.2 ⟨a,d,0⟩ (l0,⟨a0,T,0⟩) ⟨rfl,by rw[af];show a<=_;omega,hd⟩ (by rw[af];exact ha) hq
 rw[af] at hG;have HG:=aJ hG;have HC:=aJ (hA w0 B g s a d ah N w (l0,⟨a0,T,0⟩) h hs ha hd hN hq ag rfl);have ae:=aJ L;have HL:Hid (∀(b:Nat) (l:List Nd),l.length+2<=2*(b-a)+1->b<=s.size->N.length+l.length<=100000):=aJ (fun b l h1 h2=>by unfold K7 at hN;omega)
 go_enter func226,ntmps226
 obtain⟨x,g2,g3,g4,g5⟩:=HG.ok rfl
 replace x:T=d:=x
 replace g2:a<=a0:=g2
 replace g3:a0<=s.size:=g3
 replace g5:l0.length+2<=2*(a0-a)+1:=g5
 subst x;have ad:=aJ (HC.mono fun e w' h=>h.ok rfl)
 go_wp2_with fail;refine(ad).mono ?_;rintro e _ ⟨rfl,ai,S⟩;have j:=aJ S;go_wp2;go_loopw [4] (fun s4 wr=>G4 w0 B g s a T N R s4 wr) (fun s4 _=>(200000-intOf s4).toNat)
 case atStart=>exact⟨f,l0,a0,ai,rfl,g4,by omega,g2,g3,j,ae⟩
 obtain⟨f,l,b,lv,rfl,_,A,_,y,i,HM⟩:=hrel;generalize T=d at *;have z:=iL w0 B g s b d lv _ wr i (by omega)
 have I:Hid (iy N l<=120000/\0<=iy N l):=aJ (by have:=HL.out b l A y;unfold iy;omega)
 by_cases D:b=s.size
 ·have HE:Hid (R=(l,⟨b,d,0⟩)):=aJ (kR HM (by unfold fu;rw[af];simp;omega))
  rw[decide_eq_true D] at z;have F:=aJ z;go_wp2_with fail;refine(F).mono ?_;rintro e _ ⟨rfl,n5,rfl⟩;have m:=aJ (i.drewN n5);generalize wr.drewN n5=W6 at *;have i:=aJ m;have J:=aJ i;go_wp2;go_ret2;rw[HE.out];exact⟨fun _=>⟨rfl,lv,J⟩⟩
 have r:b<s.size:=by omega
 have u:=aJ (be s b r)
 have i3:(0:Int)<=(b:Int):=by omega
 have i4:(b:Int)<(s.size:Int):=by omega
 rw[decide_eq_false D] at z;have F:=aJ z;go_wp2_with fail;refine(F).mono ?_;rintro e _ ⟨rfl,n5,rfl⟩;have m:=aJ (i.drewN n5);generalize wr.drewN n5=W5' at *;have i:=aJ m;obtain⟨_,c1,c2,_,f1,f2,_⟩:=i.cells;go_wp2;go_quiet (fail);have m:=aJ (i.drewN nq);generalize W5'.drewN nq=W6 at *;have i:=aJ m;have P:s[b].toNat=42\/s[b].toNat=43\/s[b].toNat=63\/(s[b].toNat≠42/\s[b].toNat≠43/\s[b].toNat≠63):=by omega
 rcases P with C|C|C|⟨n1,n2,n3⟩
 ·obtain⟨q,k⟩:∃q,Hid (aI (bs s) q (aT 5 l []) ⟨b+1,d,0⟩=X R):=by
   have h:=HM.out
   cases f with
   |zero=>simp[aI] at h
   |succ f=>
    rw[aI,ps_ ((aV _ _).2 ⟨rfl,by rw[af];exact r⟩)] at h
    rw[show j7 (bs s) ⟨b,d,0⟩=42 from u.out.trans C] at h
    exact⟨f,h⟩
  have o:=aJ (jh 5 l N.length (by decide))
  have t:=lN N l 5
  have ac:(aT 5 l []).length=l.length+1:=by rw[dX];simp
  have x:s[b].toNat=42:=C
  rw[x];obtain⟨_,c1,c2,_,f1,f2,_⟩:=i.cells;have j:Hid (RP w0 (W6.setCell ⟨g,1,V⟩ (Z Y ((b:Int)+1))) B g s (b+1) d lv (N++l.map (ao (N.length:Int)))):=aJ (by
   have:=i.at_ (b+1)
   rw[show((b+1:Nat):Int)=(b:Int)+1 by omega] at this
   exact this)
  go_upto_region 15 with fail
  generalize W6.setCell ⟨g,1,V⟩ (Z Y ((b:Int)+1))=W7 at *;have W:=aJ (oh w0 B g s (b+1) d lv _ W7 j (by rw[bF,bL];exact HL b l A y) 5 (iy N l) 0)
  go_wp2_with fail;refine(W).mono ?_;rintro e W8 ⟨rfl,c,S⟩;have n:Hid (RP w0 W8 B g s (b+1) d c (N++(aT 5 l []).map (ao (N.length:Int)))):=aJ (by
   rw[o.out,<-Rt];exact S)
  have p:Hid (Rr Y ((N.length:Int)+(l.length:Int))=Z Y (iy N (aT 5 l []))):=aJ (by
   rw[t];unfold iy
   congr 1
   omega)
  go_wp2
  go_roundw
  case rel=>exact⟨q,aT 5 l [],b+1,c,p,by omega,by omega,by omega,by omega,n,k⟩
  have h1:=I.out
  simp[intOf];unfold iy at h1 ⊢;omega
 ·obtain⟨q,k⟩:∃q,Hid (aI (bs s) q (aT 6 l []) ⟨b+1,d,0⟩=X R):=by
   have h:=HM.out
   cases f with
   |zero=>simp[aI] at h
   |succ f=>
    rw[aI,ps_ ((aV _ _).2 ⟨rfl,by rw[af];exact r⟩)] at h
    rw[show j7 (bs s) ⟨b,d,0⟩=43 from u.out.trans C] at h
    exact⟨f,h⟩
  have o:=aJ (jh 6 l N.length (by decide))
  have t:=lN N l 6
  have ac:(aT 6 l []).length=l.length+1:=by rw[dX];simp
  have x:s[b].toNat=43:=C
  rw[x];obtain⟨_,c1,c2,_,f1,f2,_⟩:=i.cells;have j:Hid (RP w0 (W6.setCell ⟨g,1,V⟩ (Z Y ((b:Int)+1))) B g s (b+1) d lv (N++l.map (ao (N.length:Int)))):=aJ (by
   have:=i.at_ (b+1)
   rw[show((b+1:Nat):Int)=(b:Int)+1 by omega] at this
   exact this)
  go_upto_region 15 with fail
  generalize W6.setCell ⟨g,1,V⟩ (Z Y ((b:Int)+1))=W7 at *;have W:=aJ (oh w0 B g s (b+1) d lv _ W7 j (by rw[bF,bL];exact HL b l A y) 6 (iy N l) 0)
  go_wp2_with fail;refine(W).mono ?_;rintro e W8 ⟨rfl,c,S⟩;have n:Hid (RP w0 W8 B g s (b+1) d c (N++(aT 6 l []).map (ao (N.length:Int)))):=aJ (by
   rw[o.out,<-Rt];exact S)
  have p:Hid (Rr Y ((N.length:Int)+(l.length:Int))=Z Y (iy N (aT 6 l []))):=aJ (by
   rw[t];unfold iy
   congr 1
   omega)
  go_wp2
  go_roundw
  case rel=>exact⟨q,aT 6 l [],b+1,c,p,by omega,by omega,by omega,by omega,n,k⟩
  have h1:=I.out
  simp[intOf];unfold iy at h1 ⊢;omega
 ·obtain⟨q,k⟩:∃q,Hid (aI (bs s) q (aT 7 l []) ⟨b+1,d,0⟩=X R):=by
   have h:=HM.out
   cases f with
   |zero=>simp[aI] at h
   |succ f=>
    rw[aI,ps_ ((aV _ _).2 ⟨rfl,by rw[af];exact r⟩)] at h
    rw[show j7 (bs s) ⟨b,d,0⟩=63 from u.out.trans C] at h
    exact⟨f,h⟩
  have o:=aJ (jh 7 l N.length (by decide))
  have t:=lN N l 7
  have ac:(aT 7 l []).length=l.length+1:=by rw[dX];simp
  have x:s[b].toNat=63:=C
  rw[x];obtain⟨_,c1,c2,_,f1,f2,_⟩:=i.cells;have j:Hid (RP w0 (W6.setCell ⟨g,1,V⟩ (Z Y ((b:Int)+1))) B g s (b+1) d lv (N++l.map (ao (N.length:Int)))):=aJ (by
   have:=i.at_ (b+1)
   rw[show((b+1:Nat):Int)=(b:Int)+1 by omega] at this
   exact this)
  go_upto_region 15 with fail
  generalize W6.setCell ⟨g,1,V⟩ (Z Y ((b:Int)+1))=W7 at *;have W:=aJ (oh w0 B g s (b+1) d lv _ W7 j (by rw[bF,bL];exact HL b l A y) 7 (iy N l) 0)
  go_wp2_with fail;refine(W).mono ?_;rintro e W8 ⟨rfl,c,S⟩;have n:Hid (RP w0 W8 B g s (b+1) d c (N++(aT 7 l []).map (ao (N.length:Int)))):=aJ (by
   rw[o.out,<-Rt];exact S)
  have p:Hid (Rr Y ((N.length:Int)+(l.length:Int))=Z Y (iy N (aT 7 l []))):=aJ (by
   rw[t];unfold iy
   congr 1
   omega)
  go_wp2
  go_roundw
  case rel=>exact⟨q,aT 7 l [],b+1,c,p,by omega,by omega,by omega,by omega,n,k⟩
  have h1:=I.out
  simp[intOf];unfold iy at h1 ⊢;omega
 have HE:Hid (R=(l,⟨b,d,0⟩)):=aJ (by
  have h:=HM.out
  cases f with
  |zero=>simp[aI] at h
  |succ f=>
   have e:j7 (bs s) ⟨b,d,0⟩=s[b].toNat:=u
   rw[aI,ps_ ((aV _ _).2 ⟨rfl,by rw[af];exact r⟩),e,ng_ n1,ng_ n2,ng_ n3] at h
   exact(bQ h).symm)
 have q1:(((s[b].toNat:Nat):Int)==42)=O:=by simp;omega
 have q2:(((s[b].toNat:Nat):Int)==43)=O:=by simp;omega
 have q3:(((s[b].toNat:Nat):Int)==63)=O:=by simp;omega
 have J:=aJ i
 go_wp2
 go_ret2;rw[HE.out];exact⟨fun _=>⟨rfl,lv,J⟩⟩
def BC(N l:List Nd):Int:=if l.length=0 then-1 else iy N l
theorem CO(N:List Nd):BC N []= -1:=rfl
theorem iK{N l:List Nd}(h:0<l.length):BC N l=iy N l/\0<=iy N l:=by grind [BC,iy]
def Hf(F:Nat)(w0:Sm)(B g:Nat)(s:ByteArray)(a d:Nat)(N:List Nd)(R:List Nd×Ps)(v:Sn)(wr:Sm):Prop:=
 ∃(f:Nat) (l:List Nd) (b:Nat) (lv:Sn),f<=F/\v=Z Y (BC N l)/\(l=[]/\b=a\/0<l.length/\l.length+2<=2*(b-a)+1/\a<=b)/\b<=s.size/\Hid (RP w0 wr B g s b d lv (N++l.map (ao (N.length:Int))))/\Hid (cI (bs s) f l ⟨b,d,0⟩=X R)
theorem Ih(F:Nat)(hA:∀k,k<=F->Bj k):FR (F+1):=by
 intro w0 B g s a d aG N w R h hs ha hd hN hR aE au;have aA:=aJ au;rw[kY] at hR;have ap:=aJ h;have S:=aJ hR;have aC:=aJ (fun k hk w0 B g s a d lv N w R h1 h2 h3 h4 h5 h6=>hA k hk w0 B g s a d lv N w R h1 h2 h3 h4 h5 h6)
 have ak:Hid (N.length<=100000):=aJ hN.len
 clear h hR hA au;go_enter func157,ntmps157;go_wp2_with fail;go_loopw [4] (fun s4 wr=>Hf F w0 B g s a d N R s4 wr) (fun s4 _=>(200000-intOf s4).toNat)
 case atStart=>exact⟨F,[],a,aG,bM _,rfl,bX ⟨rfl,rfl⟩,ha,aJ (by have:=ap.out;simpa using this),S⟩
 clear ap S;obtain⟨f,l,b,lv,_,rfl,hl,_,c,HM⟩:=hrel;have A:=fun n=>iL w0 B g s b d lv _ (wr.drewN n) (c.out.drewN n) (by omega)
 by_cases y:b=s.size
 ·have u:Hid (R=(if l.length=0 then cB 1 0 else l,⟨b,d,0⟩)):=aJ (by
   have h:=HM.out
   cases f with
   |zero=>simp[cI] at h
   |succ f=>
    rw[cI,ng_ (fun h=>by have h2:=((aV _ _).1 h.1).2;rw[af] at h2;simp only at h2;omega)] at h
    exact(bQ h).symm)
  rw[decide_eq_true y] at A;have m:=aJ A;clear A y HM;go_wp2_with fail;go_quiet ((go_at_call 79;exact Rp (m.out _)));have j:=aJ (c.out.drewN nq);generalize wr.drewN nq=W6 at *;clear c m;have c:=aJ j.out;clear j;rcases hl with⟨rfl,rfl⟩|⟨r,ag,ah⟩
  ·have i:Hid (R=(cB 1 0,⟨b,d,0⟩)):=aJ u.out
   have o:Hid (RP w0 W6 B g s b d lv N):=aJ (by have:=c.out;simpa using this)
   have C:=aJ (fun W (h:RP w0 W B g s b d lv N)=>oh w0 B g s b d lv N W h ak.out 1 0 0)
   have D:Hid (BC N []= -1):=aJ rfl
   clear u c;go_wp2_with fail;refine(C.out _ o.out).mono ?_;rintro e _ ⟨rfl,_,z⟩;have L:=aJ z;clear z C o;go_wp2_with fail;go_ret2;exact fa i.out (by decide) L.out
  have i:Hid (R=(l,⟨b,d,0⟩)):=aJ (by rw[u.out,ng_ (by omega)])
  obtain⟨T,_⟩:=iK (N:=N) r;rw[T];clear u T;have J:=aJ c.out;clear c;go_wp2_with fail;go_ret2;rw[i.out];exact⟨fun _=>⟨rfl,lv,J.out⟩⟩
 have ai:b<s.size:=by omega
 have t:=aJ (be s b ai)
 have i3:(0:Int)<=(b:Int):=by omega
 have i4:(b:Int)<(s.size:Int):=by omega
 have i5:(s.size:Int)<=10000:=by omega
 have aw:fu (bs s) ⟨b,d,0⟩=G:=(aV _ _).2 ⟨rfl,by rw[af];exact ai⟩
 have ac:=aJ aw
 rw[decide_eq_false y] at A;have m:=aJ A;clear A y aw;obtain⟨c0,c1,c2,c3,f1,f2,f3⟩:=c.out.cells;clear c2 c3 f1 f2 f3
 by_cases p:s[b].toNat=124
 ·have u:Hid (R=(if l.length=0 then cB 1 0 else l,⟨b,d,0⟩)):=aJ (by
   have h:=HM.out
   cases f with
   |zero=>simp[cI] at h
   |succ f=>
    rw[cI,ng_ (fun h=>h.2.1 (t.out.trans p))] at h
    exact(bQ h).symm)
  have q1:(((s[b].toNat:Nat):Int) !=124)=O:=by simp;omega
  clear p HM t ac;go_wp2_with fail;go_quiet ((go_at_call 79;exact Rp (m.out _)));have j:=aJ (c.out.drewN nq);generalize wr.drewN nq=W6 at *;clear c m;have c:=aJ j.out;clear j;clear q1 c0 c1;rcases hl with⟨rfl,rfl⟩|⟨r,ag,ah⟩
  ·have i:Hid (R=(cB 1 0,⟨b,d,0⟩)):=aJ u.out
   have o:Hid (RP w0 W6 B g s b d lv N):=aJ (by have:=c.out;simpa using this)
   have C:=aJ (fun W (h:RP w0 W B g s b d lv N)=>oh w0 B g s b d lv N W h ak.out 1 0 0)
   have D:Hid (BC N []= -1):=aJ rfl
   clear u c;go_wp2_with fail;refine(C.out _ o.out).mono ?_;rintro e _ ⟨rfl,_,z⟩;have L:=aJ z;clear z C o;go_wp2_with fail;go_ret2;exact fa i.out (by decide) L.out
  have i:Hid (R=(l,⟨b,d,0⟩)):=aJ (by rw[u.out,ng_ (by omega)])
  obtain⟨T,_⟩:=iK (N:=N) r;rw[T];clear u T;have J:=aJ c.out;clear c;go_wp2_with fail;go_ret2;rw[i.out];exact⟨fun _=>⟨rfl,lv,J.out⟩⟩
 by_cases ae:s[b].toNat=41
 ·have u:Hid (R=(if l.length=0 then cB 1 0 else l,⟨b,d,0⟩)):=aJ (by
   have h:=HM.out
   cases f with
   |zero=>simp[cI] at h
   |succ f=>
    rw[cI,ng_ (fun h=>h.2.2 (t.out.trans ae))] at h
    exact(bQ h).symm)
  have q1:(((s[b].toNat:Nat):Int) !=124)=G:=by simp;omega
  have q2:(((s[b].toNat:Nat):Int) !=41)=O:=by simp;omega
  clear p ae HM t ac;go_wp2_with fail;go_quiet ((go_at_call 79;exact Rp (m.out _)));have j:=aJ (c.out.drewN nq);generalize wr.drewN nq=W6 at *;clear c m;have c:=aJ j.out;clear j;clear q1 q2 c0 c1;rcases hl with⟨rfl,rfl⟩|⟨r,ag,ah⟩
  ·have i:Hid (R=(cB 1 0,⟨b,d,0⟩)):=aJ u.out
   have o:Hid (RP w0 W6 B g s b d lv N):=aJ (by have:=c.out;simpa using this)
   have C:=aJ (fun W (h:RP w0 W B g s b d lv N)=>oh w0 B g s b d lv N W h ak.out 1 0 0)
   have D:Hid (BC N []= -1):=aJ rfl
   clear u c;go_wp2_with fail;refine(C.out _ o.out).mono ?_;rintro e _ ⟨rfl,_,z⟩;have L:=aJ z;clear z C o;go_wp2_with fail;go_ret2;exact fa i.out (by decide) L.out
  have i:Hid (R=(l,⟨b,d,0⟩)):=aJ (by rw[u.out,ng_ (by omega)])
  obtain⟨T,_⟩:=iK (N:=N) r;rw[T];clear u T;have J:=aJ c.out;clear c;go_wp2_with fail;go_ret2;rw[i.out];exact⟨fun _=>⟨rfl,lv,J.out⟩⟩
 obtain⟨f',al,x,q,hq,hR⟩:∃f',f'<=F/\∃x q,iU (bs s) f' ⟨b,d,0⟩=X (x,q)/\(if q.e=0 then cI (bs s) f' (if l.length=0 then x else aT 3 l x) q else X ([],q))=X R:=by
  have h:=HM.out
  cases f with
  |zero=>simp[cI] at h
  |succ f=>
   rw[cI,ps_ ⟨ac.out,fun e=>p (t.out.symm.trans e),fun e=>ae (t.out.symm.trans e)⟩] at h
   cases hq:iU (bs s) f ⟨b,d,0⟩ with
   |none=>rw[hq] at h;cases h
   |some xq=>
    rw[hq] at h;exact⟨f,by omega,xq.1,xq.2,hq,h⟩
 have q1:(((s[b].toNat:Nat):Int) !=124)=G:=by simp;omega
 have q2:(((s[b].toNat:Nat):Int) !=41)=G:=by simp;omega
 obtain⟨a1,d1,T⟩:=q;obtain rfl:T=0:=by
  by_cases he:T=0
  ·exact he
  rw[ng_ he] at hR;have h2:=aA.out;rw[<-bQ hR] at h2;exact h2
 have hG:Good (bs s).length ⟨b,d,0⟩ x ⟨a1,d1,0⟩ 2:=(fB (bs s) f').2.2.2.2.1 ⟨b,d,0⟩ (x,⟨a1,d1,0⟩) ⟨rfl,by rw[af];show b<=_;omega,hd⟩ (by rw[af];exact ai) hq
 rw[af] at hG;have HG:=aJ hG;have ab:K7 s b (N++l.map (ao (N.length:Int))):=by
  unfold K7 at hN ⊢;rw[bF,bL];rcases hl with⟨rfl,rfl⟩|⟨r,ag,ah⟩
  ·simp;omega
  omega
 have HC:=aJ (fun W h=>aC.out f' al w0 B g s b d lv (N++l.map (ao (N.length:Int))) W (x,⟨a1,d1,0⟩) h hs ai hd ab hq aE rfl)
 have S:=aJ hR
 clear p ae HM t ac hq hG ab hR;go_wp2_with fail;go_quiet ((go_at_call 79;exact Rp (m.out _)));have j:=aJ (c.out.drewN nq);generalize wr.drewN nq=W6 at *;clear c m;have c:=aJ j.out;clear j;clear q1 q2 c0 c1;obtain⟨g1,g2,g3,g4,g5⟩:=HG.out.ok rfl
 replace g1:d1=d:=g1
 replace g2:b<=a1:=g2
 replace g3:a1<=s.size:=g3
 replace g5:x.length+2<=2*(a1-b)+1:=g5
 subst g1;have an:=aJ ((HC.out W6 c.out).mono fun e w' h=>h.ok rfl)
 have ad:Hid (cI (bs s) f' (if l.length=0 then x else aT 3 l x) ⟨a1,d1,0⟩=X R):=aJ (by have:=S.out;rwa [ps_ (by first|rfl|trivial)] at this)
 clear HC S c HG;go_wp2_with fail;refine(an.out).mono ?_;rintro e W7 ⟨rfl,am,z⟩;have I:=aJ z;clear z an;rcases hl with⟨rfl,rfl⟩|⟨r,ag,ah⟩
 ·have D:BC N []= -1:=rfl
  rw[D];have aB:Hid (RP w0 W7 B g s a1 d1 am (N++x.map (ao (N.length:Int)))):=aJ (by have:=I.out;simpa using this)
  have ar:Hid (iy (N++([]:List Nd).map (ao (N.length:Int))) x=BC N x):=aJ (by rw[(iK g4).1];simp)
  have P:Hid (cI (bs s) f' x ⟨a1,d1,0⟩=X R):=aJ ad.out
  rw[ar.out];have hb:=iK (N:=N) g4;clear I ad D;go_wp2_with fail;go_roundw
  case rel=>exact⟨f',x,a1,am,al,by rw[hb.1],bY ⟨g4,g5,g2⟩,g3,aB,P⟩
  simp[intOf];have h7:=CO N;have h8:=hb.1;have h9:=hb.2;omega
 obtain⟨u1,_⟩:=iK (N:=N) r;rw[u1];have aq:=aJ (mh 3 l x N.length (by decide) g4)
 have aj:(N++l.map (ao (N.length:Int))).length=N.length+l.length:=by rw[bF,bL]
 have ay:iy (N++l.map (ao (N.length:Int))) x=(N.length:Int)+l.length+x.length-1:=by unfold iy;rw[aj];push_cast;rfl
 rw[aj] at I;have aF:(aT 3 l x).length=l.length+x.length+1:=dX _ _ _;have ax:iy N (aT 3 l x)=(N.length:Int)+l.length+x.length:=by unfold iy;rw[aF];omega
 have av:=iK (N:=N) (l:=aT 3 l x) (by omega)
 have C:=aJ (oh w0 B g s a1 d1 am _ W7 I.out (by
  rw[bF,bF,bL,bL];unfold K7 at hN
  omega) 3 (iy N l) ((N.length:Int)+l.length+x.length-1))
 rw[ay];have aH:iy N l=(N.length:Int)+l.length-1:=rfl;have P:Hid (cI (bs s) f' (aT 3 l x) ⟨a1,d1,0⟩=X R):=aJ (by have:=ad.out;rwa [ng_ (by omega)] at this)
 clear ay ad;go_wp2_with fail;refine(C.out).mono ?_;rintro e W8 ⟨rfl,az,z⟩;have aD:Hid (RP w0 W8 B g s a1 d1 az (N++(aT 3 l x).map (ao (N.length:Int)))):=aJ (by
  rw[aq.out,<-Rt,<-Rt];exact z)
 have ar:Hid ((((N++l.map (ao (N.length:Int)))++x.map (ao ((N.length+l.length:Nat):Int))).length:Int)=BC N (aT 3 l x)):=aJ (by
  rw[av.1,ax,bF,bF,bL,bL]
  push_cast
  rfl)
 clear z C I aq;go_wp2_with fail;go_roundw
 case rel=>exact⟨f',aT 3 l x,a1,az,al,(by rw[av.1,ax];congr 1;omega),bY ⟨by omega,by omega,by omega⟩,g3,aD,P⟩
 simp[intOf];unfold K7 at hN;omega
def G5(F:Nat)(w0:Sm)(B g:Nat)(s:ByteArray)(a d:Nat)(N:List Nd)(R:List Nd×Ps)(v v5:Sn)(wr:Sm):Prop:=
 ∃(f:Nat) (l:List Nd) (b:Nat) (lv:Sn),f<=F/\v=Z Y (iy N l)/\v5=Z Y 0/\0<l.length/\l.length<=2*(b-a)+1/\a<=b/\b<=s.size/\Hid (RP w0 wr B g s b d lv (N++l.map (ao (N.length:Int))))/\Hid (dJ (bs s) f l ⟨b,d,0⟩=X R)
theorem jC{B:List Nat}{f:Nat}{l:List Nd}{q:Ps}{R:List Nd×Ps}(h:dJ B f l q=X R)(a:¬(fu B q=G/\j7 B q=124)):R=(l,q):=by
 cases f with
 |zero=>simp[dJ] at h
 |succ f=>
  rw[dJ,ng_ a] at h;exact(bQ h).symm
theorem Hp(F:Nat)(hA:∀k,k<=F->FR k):Dz (F+1):=by
 intro w0 B g s a d aq N w R h hs ha hd hN r ad I;have aj:=aJ I;rw[lj] at r;cases u:kY (bs s) F ⟨a,d,0⟩ with
 |none=>rw[u] at r;cases r
 |some lq=>
 rw[u] at r;obtain⟨l0,⟨a0,d0,e0⟩⟩:=lq;simp only at r;obtain rfl:e0=0:=by
  by_cases he:e0=0
  ·exact he
  rw[jC r (fun h=>he ((aV _ _).1 h.1).1)] at I
  exact I
 have hG:Good (bs s).length ⟨a,d,0⟩ l0 ⟨a0,d0,0⟩ 0:=(fB (bs s) F).2.2.1 ⟨a,d,0⟩ (l0,⟨a0,d0,0⟩) ⟨rfl,by rw[af];exact ha,hd⟩ u
 rw[af] at hG;have HG:=aJ hG;have HC:=aJ (hA F (bM _) w0 B g s a d aq N w (l0,⟨a0,d0,0⟩) h hs ha hd hN u ad rfl);have z:=aJ r;have ak:=aJ (fun k hk w0 B g s a d lv N w R h1 h2 h3 h4 h5 h6=>hA k hk w0 B g s a d lv N w R h1 h2 h3 h4 h5 h6)
 clear h r hG u hA I;go_enter func78,ntmps78;have m:Hid (∀e w',Mw w0 B g s d N (l0,⟨a0,d0,0⟩) e w'->∃v v5,e=Rk (Rl #[v,v5])/\G5 F w0 B g s a d N R v v5 w'):=aJ (by
  intro e w' hp;obtain⟨g1,g2,g3,g4,g5⟩:=HG.ok rfl
  replace g1:d0=d:=g1
  subst g1;obtain⟨rfl,ar,hr⟩:=hp.ok rfl;exact⟨_,_,rfl,F,l0,a0,ar,bM _,rfl,rfl,g4,g5,g2,g3,hr,z⟩)
 have y:=aJ (HC.mono fun e w' h=>m e w' h)
 clear HC m z HG;go_wp2_with fail;refine(y).mono ?_;rintro e _ ⟨v4,v5,rfl,A⟩;have J:=aJ A;clear A y;go_wp2;go_loopw [4,5] (fun s4 s5 wr=>G5 F w0 B g s a d N R s4 s5 wr) (fun s4 s5 _=>2*(200000-intOf s4).toNat+(if intOf s5=0 then 1 else 0))
 case atStart=>exact J
 clear J;obtain⟨f,l,b,lv,_,rfl,rfl,_,_,_,_,c,HM⟩:=hrel;have t:=fun n=>iL w0 B g s b d lv _ (wr.drewN n) (c.drewN n) (by omega)
 by_cases p:b=s.size
 ·have HE:Hid (R=(l,⟨b,d,0⟩)):=aJ (jC HM (fun h=>by have h2:=((aV _ _).1 h.1).2;rw[af] at h2;simp only at h2;omega))
  rw[decide_eq_true p] at t;have j:=aJ t;clear t p HM;go_wp2;go_quiet ((go_at_call 79;exact Rp (j _)));have i:=aJ (c.drewN nq);generalize wr.drewN nq=W6 at *;clear c j;have c:=aJ i;clear i;have T:=aJ c;clear c;go_wp2;go_ret2;rw[HE.out];exact⟨fun _=>⟨rfl,lv,T⟩⟩
 have ag:b<s.size:=by omega
 have D:=aJ (be s b ag)
 have i3:(0:Int)<=(b:Int):=by omega
 have i4:(b:Int)<(s.size:Int):=by omega
 rw[decide_eq_false p] at t;have j:=aJ t;clear t p;obtain⟨c0,c1,c2,c3,f1,f2,f3⟩:=c.cells;clear c2 c3 f1 f2 f3
 by_cases o:s[b].toNat=124
 ·obtain⟨L,ae,x,q,u,r⟩:∃L,L<=F/\∃x q,kY (bs s) L ⟨b+1,d,0⟩=X (x,q)/\(if q.e=0 then dJ (bs s) L (aT 4 l x) q else X ([],q))=X R:=by
   have h:=HM.out
   cases f with
   |zero=>simp[dJ] at h
   |succ f=>
    rw[dJ,ps_ ⟨(aV _ _).2 ⟨rfl,by rw[af];exact ag⟩,D.out.trans o⟩,show iw ⟨b,d,0⟩=(⟨b+1,d,0⟩:Ps) from rfl] at h
    cases u:kY (bs s) f ⟨b+1,d,0⟩ with
    |none=>rw[u] at h;cases h
    |some xq=>
     rw[u] at h;exact⟨f,by omega,xq.1,xq.2,u,h⟩
  have q1:(((s[b].toNat:Nat):Int)==124)=G:=by simp;omega
  obtain⟨a1,d1,e1⟩:=q;obtain rfl:e1=0:=by
   by_cases he:e1=0
   ·exact he
   rw[ng_ he] at r;have h2:=aj.out;rw[<-bQ r] at h2;exact h2
  have hG:Good (bs s).length ⟨b+1,d,0⟩ x ⟨a1,d1,0⟩ 0:=(fB (bs s) L).2.2.1 ⟨b+1,d,0⟩ (x,⟨a1,d1,0⟩) ⟨rfl,by rw[af];show b+1<=_;omega,hd⟩ u
  rw[af] at hG;have HG:=aJ hG;have C:K7 s (b+1) (N++l.map (ao (N.length:Int))):=by
   unfold K7 at hN ⊢;rw[bF,bL];omega
  have HC:=aJ (fun W h=>ak L ae w0 B g s (b+1) d lv (N++l.map (ao (N.length:Int))) W (x,⟨a1,d1,0⟩) h hs (by omega) hd C u ad rfl)
  have z:=aJ r
  clear o HM D u hG C r;go_wp2;go_quiet ((go_at_call 79;exact Rp (j _)));have i:=aJ (c.drewN nq);generalize wr.drewN nq=W6 at *;clear c j;have c:=aJ i;clear i;clear q1 c0 c1;obtain⟨c0,c1,c2,c3,f1,f2,f3⟩:=c.cells;clear c0 c2 c3 f2 f3;have ab:Hid (RP w0 (W6.setCell ⟨g,1,V⟩ (Z Y ((b:Int)+1))) B g s (b+1) d lv (N++l.map (ao (N.length:Int)))):=aJ (by
   have:=c.at_ (b+1)
   rw[show((b+1:Nat):Int)=(b:Int)+1 by omega] at this
   exact this)
  go_upto_region 4 with fail
  clear c1 f1 c;generalize W6.setCell ⟨g,1,V⟩ (Z Y ((b:Int)+1))=W5 at *;obtain⟨g1,g2,g3,g4,g5⟩:=HG.ok rfl
  replace g1:d1=d:=g1
  replace g2:b+1<=a1:=g2
  replace g3:a1<=s.size:=g3
  replace g5:x.length+0<=2*(a1-(b+1))+1:=g5
  subst g1;have y:=aJ ((HC W5 ab).mono fun e w' h=>h.ok rfl)
  have am:Hid (dJ (bs s) L (aT 4 l x) ⟨a1,d1,0⟩=X R):=aJ (by have:=z;rwa [ps_ (by first|rfl|trivial)] at this)
  clear HC z ab HG;go_wp2_with fail;refine(y).mono ?_;rintro e W7 ⟨rfl,au,hr⟩;have S:=aJ hr;clear hr y;have ac:=aJ (mh 4 l x N.length (by decide) g4)
  have P:(N++l.map (ao (N.length:Int))).length=N.length+l.length:=by rw[bF,bL]
  have ah:iy (N++l.map (ao (N.length:Int))) x=(N.length:Int)+l.length+x.length-1:=by unfold iy;rw[P];push_cast;rfl
  rw[P] at S;have an:(aT 4 l x).length=l.length+x.length+1:=dX _ _ _;have ap:iy N (aT 4 l x)=(N.length:Int)+l.length+x.length:=by unfold iy;rw[an];omega
  have HA:=aJ (oh w0 B g s a1 d1 au _ W7 S (by
   rw[bF,bF,bL,bL];unfold K7 at hN
   omega) 4 (iy N l) ((N.length:Int)+l.length+x.length-1))
  rw[ah];have av:iy N l=(N.length:Int)+l.length-1:=rfl;clear ah;go_wp2_with fail;refine(HA).mono ?_;rintro e W8 ⟨rfl,ai,hr⟩;have al:Hid (RP w0 W8 B g s a1 d1 ai (N++(aT 4 l x).map (ao (N.length:Int)))):=aJ (by
   rw[ac.out,<-Rt,<-Rt];exact hr)
  clear hr HA S ac;go_wp2;go_roundw
  case rel=>exact⟨L,aT 4 l x,a1,ai,ae,(by rw[ap];congr 1;omega),rfl,by omega,by omega,by omega,g3,al,am⟩
  simp[intOf];unfold K7 at hN;omega
 have HE:Hid (R=(l,⟨b,d,0⟩)):=aJ (jC HM (fun h=>o (D.symm.trans h.2)))
 have q1:(((s[b].toNat:Nat):Int)==124)=O:=by simp;omega
 clear o HM D;go_wp2;go_quiet ((go_at_call 79;exact Rp (j _)));have i:=aJ (c.drewN nq);generalize wr.drewN nq=W6 at *;clear c j;have c:=aJ i;clear i;clear q1 c0 c1;have T:=aJ c;clear c;go_wp2;go_ret2;rw[HE.out];exact⟨fun _=>⟨rfl,lv,T⟩⟩
def xJ(w:Sm)(r:List Nd×Int)(e:Su)(w':Sm):Prop:=∃v,e=Rk (Rl #[v,Z Y r.2])/\IL w' w.heap.size 279 7 v r.1.length (cR r.1)/\ID w w'
def K9(l:List Nd):Prop:=∀x∈l,ao 0 x=x
theorem K9.Jk:K9 []:=fun x h=>by cases h
theorem K9.leaf(k:Int)(z:Je)(hk:mr k=0):K9 (cB k z):=by
 intro x hx;simp[cB] at hx;subst hx;simp[ao,ib,hk]
theorem K9.Oh{k:Int}{l:List Nd}(hk:mr k=1)(a:K9 l):K9 (aT k l []):=by
 intro x hx;unfold aT at hx;rcases Rn.mp hx with hx|hx
 ·rcases Rn.mp hx with hx|hx
  ·exact a x hx
  simp at hx
 simp at hx
 subst hx;simp[ao,ib,hk]
theorem K9.OM{k:Int}{l r:List Nd}(hk:mr k=2)(a:K9 l):K9 (aT k l r):=by
 intro x hx;unfold aT at hx;rcases Rn.mp hx with hx|hx
 ·rcases Rn.mp hx with hx|hx
  ·exact a x hx
  obtain⟨y,hy,rfl⟩:=RG.mp hx;rw[iT]
  congr 1
  omega
 simp at hx
 subst hx;simp[ao,ib,hk]
theorem rb(B:List Nat):∀f:Nat,
  (∀p R,lj B f p=X R->K9 R.1)/\(∀l p R,K9 l->dJ B f l p=X R->K9 R.1)/\(∀p R,kY B f p=X R->K9 R.1)/\
  (∀l p R,K9 l->cI B f l p=X R->K9 R.1)/\(∀p R,iU B f p=X R->K9 R.1)/\(∀l p R,K9 l->aI B f l p=X R->K9 R.1)/\
  (∀p R,jB B f p=X R->K9 R.1):=by
 intro f
 induction f with
 |zero=>
  refine⟨?_,?_,?_,?_,?_,?_,?_⟩
  ·intro p R h;simp[lj] at h
  ·intro l p R _ h;simp[dJ] at h
  ·intro p R h;simp[kY] at h
  ·intro l p R _ h;simp[cI] at h
  ·intro p R h;simp[iU] at h
  ·intro l p R _ h;simp[aI] at h
  intro p R h;simp[jB] at h
 |succ f ih=>
  obtain⟨j,c,k,d,i,a,g⟩:=ih;refine⟨?_,?_,?_,?_,?_,?_,?_⟩
  ·intro p R h;rw[lj] at h;split at h
   ·cases h
   rename_i l q e
   exact c l q R (k p (l,q) e) h
  ·intro l p R b h;rw[dJ] at h;split at h
   ·split at h
    ·cases h
    rename_i x q e
    split at h
    ·exact c _ q R (K9.OM (by decide) b) h
    injection h with h;subst h;exact K9.Jk
   injection h with h;subst h;exact b
  ·intro p R h;rw[kY] at h;exact d [] p R K9.Jk h
  ·intro l p R b h;rw[cI] at h;split at h
   ·split at h
    ·cases h
    rename_i x q e
    split at h
    ·refine d _ q R ?_ h;split
     ·exact i _ (x,q) e
     exact K9.OM (by decide) b
    injection h with h;subst h;exact K9.Jk
   injection h with h;subst h
   show K9 (if l.length=0 then cB 1 0 else l)
   split
   ·exact K9.leaf _ _ (by decide)
   exact b
  ·intro p R h;rw[iU] at h;split at h
   ·cases h
   rename_i l q e
   exact a l q R (g p (l,q) e) h
  ·intro l p R b h;rw[aI] at h;split at h
   ·split at h
    ·exact a _ _ R (K9.Oh (by decide) b) h
    split at h
    ·exact a _ _ R (K9.Oh (by decide) b) h
    split at h
    ·exact a _ _ R (K9.Oh (by decide) b) h
    injection h with h;subst h;exact b
   injection h with h;subst h;exact b
  intro p R h;rw[jB] at h;simp only at h;split at h
  ·injection h with h;subst h;exact K9.leaf _ _ (by decide)
  split at h
  ·injection h with h;subst h;exact K9.leaf _ _ (by decide)
  split at h
  ·injection h with h;subst h;exact K9.leaf _ _ (by decide)
  split at h
  ·injection h with h;subst h;exact K9.leaf _ _ (by decide)
  split at h
  ·split at h
   ·cases h
   rename_i s r e
   injection h with h;subst h;exact K9.leaf _ _ (by decide)
  split at h
  ·injection h with h;subst h;exact K9.leaf _ _ (by decide)
  split at h
  ·injection h with h;subst h;exact K9.leaf _ _ (by decide)
  split at h
  ·split at h
   ·injection h with h;subst h;exact K9.Jk
   split at h
   ·cases h
   rename_i l r e
   injection h with h;subst h;exact j _ (l,r) e
  injection h with h;subst h;exact K9.leaf _ _ (by decide)
theorem K9.O2{l:List Nd}(h:K9 l):l.map (ao 0)=l:=by
 rw[List.map_congr_left (g:=id) (fun x hx=>h x hx),List.map_id]
theorem GV:∀f:Nat,Dz f/\FR f/\Bj f/\By f:=by
 intro f
 induction f using Nat.strongRecOn with
 |_ f ih=>
  cases f with
  |zero=>
   refine⟨?_,?_,?_,?_⟩
   ·intro w0 B g s a d lv N w R _ _ _ _ _ h _ _;simp[lj] at h
   ·intro w0 B g s a d lv N w R _ _ _ _ _ h _ _;simp[kY] at h
   ·intro w0 B g s a d lv N w R _ _ _ _ _ h _ _;simp[iU] at h
   intro w0 B g s a d lv N w R _ _ _ _ _ h _ _;simp[jB] at h
  |succ f=>
   exact⟨Hp f (fun k hk=>(ih k (by omega)).2.1),Ih f (fun k hk=>(ih k (by omega)).2.2.1),Gq f (ih f (by omega)).2.2.2,GU f (ih f (by omega)).1⟩
theorem RP.begin(s:ByteArray)(w:Sm):RP w (w.alloc (Gf s 0 0 (U V 0 0))) (w.heap.size+1) w.heap.size s 0 0 (U V 0 0) []:=
 ⟨(ID.refl w).alloc _,aM w _,IL.Jk _ _ _ _,bM _,by omega,by simp⟩
theorem pM(f:Nat)(s:ByteArray)(r:List Nd×Int)(w:Sm)(g:jn f (bs s)=X r)(B:Nz s)(b:r.2=0):Sr Sz 38 #[Q s] w (xJ w r):=by
 unfold jn at g;rw[af] at g
 by_cases C:128<s.size
 ·rw[ps_ C] at g;rw[<-bQ g] at b;exact absurd b (by decide)
 rw[ng_ C] at g;cases m:lj (bs s) f ⟨0,0,0⟩ with
 |none=>rw[m] at g;cases g
 |some lp=>
 rw[m] at g;obtain⟨l,⟨a,d,e⟩⟩:=lp;have y:Good (bs s).length ⟨0,0,0⟩ l ⟨a,d,e⟩ 0:=(fB (bs s) f).1 ⟨0,0,0⟩ (l,⟨a,d,e⟩) ⟨rfl,bO _,bO _⟩ m;rw[af] at y;have t:=((rb (bs s) f).1 ⟨0,0,0⟩ (l,⟨a,d,e⟩) m).O2;have P:¬(128:Int)<(s.size:Int):=by omega
 have c:r=(if(if(if e=0/\a<s.size then aB ⟨a,d,e⟩ 83 else⟨a,d,e⟩:Ps).e=0/\256<l.length then aB (if e=0/\a<s.size then aB ⟨a,d,e⟩ 83 else⟨a,d,e⟩) 1 else(if e=0/\a<s.size then aB ⟨a,d,e⟩ 83 else⟨a,d,e⟩):Ps).e=0 then(l,0) else([],(if(if e=0/\a<s.size then aB ⟨a,d,e⟩ 83 else⟨a,d,e⟩:Ps).e=0/\256<l.length then aB (if e=0/\a<s.size then aB ⟨a,d,e⟩ 83 else⟨a,d,e⟩) 1 else(if e=0/\a<s.size then aB ⟨a,d,e⟩ 83 else⟨a,d,e⟩):Ps).e)):=(bQ g).symm
 obtain rfl:e=0:=by
  by_cases I:e=0
  ·exact I
  rw[c] at b;simp[I] at b
 obtain rfl:a=s.size:=by
  by_cases u:a=s.size
  ·exact u
  have h1:=(y.ok rfl).2.2.1
  have h2:a<s.size:=by
   replace h1:a<=s.size:=h1
   omega
  rw[c] at b;simp[h2,aB] at b
 have i:¬256<l.length:=fun i=>by
  rw[c] at b;simp[i,aB] at b
 have F:=(GV f).1 w (w.heap.size+1) w.heap.size s 0 0 (U none 0 0) [] (w.alloc (Gf s 0 0 (U none 0 0))) (l,⟨s.size,d,0⟩) (RP.begin s w) (by omega) (bO _) (bO _) (by unfold K7;simp;omega) m B rfl
 have q:=aJ c
 have z:=aJ F
 have D:=aJ y
 have o:=aJ t
 have hsz:s.size<=128:=by omega
 clear F g c y m C t b;unfold Gf at z;go_enter func38,ntmps38;obtain⟨A,_,_,_,_⟩:=D.ok rfl
 replace A:d=0:=A
 subst A;have n:=aJ (z.mono fun e w' h=>h.ok rfl)
 clear z;go_wp2_with fail;refine(n).mono ?_;rintro e V ⟨rfl,lv,J⟩;have x:Hid (RP w V (w.heap.size+1) w.heap.size s s.size 0 lv l):=aJ (by
  have h2:l.map (ao 0)=l:=o
  have:=J
  simp only[R_,Sa] at this;rw[show(((0:Nat):Int))=0 from rfl,h2] at this
  exact this)
 have k:=iL w (w.heap.size+1) w.heap.size s s.size 0 lv l V x (by omega)
 clear J n o D;rw[decide_eq_true (rfl:s.size=s.size)] at k;have p:=aJ k;clear k;obtain⟨_,_,rfl,_,_,_⟩:=x.own.shape;have L:Hid (r=(l,0)):=aJ (by rw[q.out];simp[i])
 have R:¬(256:Int)<(l.length:Int):=by omega
 clear q i;go_wp2_with fail;refine(p).mono ?_;rintro e W2 ⟨rfl,n2,rfl⟩;have j:=aJ (x.drewN n2);generalize V.drewN n2=W3 at *;have N:=aJ j.I5;obtain⟨_,_,_,_,_,_,_⟩:=j.cells;clear x p;go_wp2;go_ret2;rw[L.out];exact⟨_,rfl,j.own.base (by omega),N⟩
def nd(l:List Nd)(n:Nat):Nd:=l.getD n ⟨0,0,0,0⟩
inductive Sub (l:List Nd):Nat->Nat->Prop
 |leaf (n:Nat):n<l.length->((nd l n).IF=1\/(nd l n).IF=2\/(nd l n).IF=8\/(nd l n).IF=9)->(nd l n).left=0->(nd l n).right=0->((nd l n).IF≠2->(nd l n).set=0)->Sub l n n
 |one (a n:Nat):n+1<l.length->((nd l (n+1)).IF=5\/(nd l (n+1)).IF=6\/(nd l (n+1)).IF=7)->(nd l (n+1)).left=n->(nd l (n+1)).right=0->(nd l (n+1)).set=0->Sub l a n->Sub l a (n+1)
 |Po (a m n:Nat):n+1<l.length->((nd l (n+1)).IF=3\/(nd l (n+1)).IF=4)->(nd l (n+1)).left=m->(nd l (n+1)).right=n->(nd l (n+1)).set=0->Sub l a m->Sub l (m+1) n->Sub l a (n+1)
theorem Sub.le{l:List Nd}{n:Nat}(h:Sub l a n):a<=n/\n<l.length:=by
 induction h<;>grind
def bt(t:List Nat)(i:Nat):Bool:=i==0||t.getD (i-1) 0==10
def gN(t:List Nat)(i:Nat):Bool:=decide (i<t.length)&&t.getD i 0==10
structure Gr where
 KX:Bool->Bool->Nat->Nat->Prop
 Mh:Nat->Nat->Nat->Prop
 s0:Nat
 fin:Nat->Prop
inductive Kh (g:Gr) (t:List Nat):Nat->Nat->Prop
 |start (i:Nat):i<=t.length->Kh g t g.s0 i
 |KX (s s' i:Nat):Kh g t s i->g.KX (bt t i) (gN t i) s s'->Kh g t s' i
 |byte (s s' i:Nat):Kh g t s i->i<t.length->g.Mh (t.getD i 0) s s'->Kh g t s' (i+1)
theorem Kh.len{g:Gr}{t:List Nat}{s:Nat}(h:Kh g t s i):i<=t.length:=by
 induction h<;>grind
inductive LI (g:Gr) (IZ Ja:Bool) (S:Nat->Prop):Nat->Prop
 |Mg (s:Nat):S s->LI g IZ Ja S s
 |step (s s':Nat):LI g IZ Ja S s->g.KX IZ Ja s s'->LI g IZ Ja S s'
def tN(g:Gr)(t:List Nat)(n:Nat):Prop:=∃s k,Kh g (t.take n) s k/\g.fin s
def py(g:Gr):Prop:=∀IZ s s',g.KX IZ O s s'->g.KX IZ G s s'
def LM(g:Gr)(t:List Nat)(r:Int):Prop:=
 (∃n:Nat,n<=t.length/\r=n/\tN g t n/\∀m,m<n->¬tN g t m)\/(r= -1/\∀n,n<=t.length->¬tN g t n)
theorem LM.one{g:Gr}{t:List Nat}{i:Int}(h:LM g t r)(d:LM g t i):r=i:=by
 rcases h with⟨n,j,rfl,ha,e⟩|⟨rfl,e⟩
 ·rcases d with⟨f,c,rfl,b,a⟩|⟨rfl,a⟩
  ·grind
  exact absurd ha (a n j)
 rcases d with⟨f,c,rfl,b,a⟩|⟨rfl,a⟩
 ·exact absurd b (e f c)
 rfl
theorem fE{t:List Nat}{n:Nat}(h:i<n):(t.take n).getD i 0=t.getD i 0:=by grind
theorem ff{t:List Nat}{n:Nat}(h:i<=n):bt (t.take n) i=bt t i:=by
 unfold bt
 grind
theorem gy{t:List Nat}{n:Nat}(h:i<n):gN (t.take n) i=gN t i:=by
 unfold gN
 grind
theorem nF(t:List Nat)(n:Nat):gN (t.take n) n=O:=by grind [gN]
theorem Kh.more{g:Gr}{t:List Nat}{n s:Nat}(h:Kh g (t.take n) s i)(b:i<n)(a:i<m):Kh g (t.take m) s i:=by
 have e:=h.len
 rw[Ro] at e
 induction h with
 |start i h=>exact .start i (by rw[Ro];omega)
 |KX s s' i h d ih=>
  rw[ff (by omega),gy b] at d
  refine .KX s s' i (ih b a e) ?_;rw[ff (by omega),gy a]
  exact d
 |byte s s' i h f c ih=>
  rw[fE (by omega)] at c
  refine .byte s s' i (ih (by omega) (by omega) (by omega)) (by rw[Ro];omega) ?_
  rw[fE (by omega)]
  exact c
theorem Kh.grow{g:Gr}(hm:py g){t:List Nat}{n s:Nat}(h:Kh g (t.take n) s i):Kh g (t.take (n+1)) s i:=by
 have c:=h.len
 rw[Ro] at c
 induction h with
 |start i h=>exact .start i (by rw[Ro];omega)
 |KX s s' i h a ih=>
  rw[ff (by omega)] at a
  refine .KX s s' i (ih c) ?_;rw[ff (by omega)]
  by_cases e:i<n
  ·rw[gy e] at a;rw[gy (by omega)]
   exact a
  obtain rfl:i=n:=by omega
  rw[nF] at a;cases gN (t.take (i+1)) i
  ·exact a
  exact hm _ _ _ a
 |byte s s' i h d b ih=>
  rw[fE (by omega)] at b
  refine .byte s s' i (ih (by omega)) (by rw[Ro];omega) ?_
  rw[fE (by omega)]
  exact b
def DD(g:Gr)(t:List Nat)(i s:Nat):Prop:=∃j s1,i=j+1/\Kh g (t.take i) s1 j/\g.Mh (t.getD j 0) s1 s
theorem BL{g:Gr}{t:List Nat}{s:Nat}(e:i<=t.length):Kh g (t.take i) s i↔LI g (bt t i) O (fun s=>DD g t i s\/s=g.s0) s:=by
 constructor
 ·intro h
  suffices b:∀{s k:Nat},Kh g (t.take i) s k->i=k->LI g (bt t i) O (fun s=>DD g t i s\/s=g.s0) s from b h rfl
  intro s k b;intro hk
  induction b with
  |start k h=>exact .Mg _ (bY rfl)
  |KX s s' k h a ih=>
   subst hk;refine .step s s' (ih rfl) ?_;rw[ff (by omega),nF] at a
   exact a
  |byte s s' k h d c ih=>
   subst hk;refine .Mg _ (bX ⟨k,s,rfl,h,?_⟩);rw[fE (by omega)] at c
   exact c
 intro h
 induction h with
 |Mg s h=>
  rcases h with⟨j,s1,rfl,h1,h2⟩|rfl
  ·refine .byte s1 s j h1 (by rw[Ro];omega) ?_
   rw[fE (by omega)]
   exact h2
  exact .start i (by rw[Ro];omega)
 |step s s' _ a ih=>
  refine .KX s s' i ih ?_;rw[ff (by omega),nF]
  exact a
theorem xW{g:Gr}(hm:py g){t:List Nat}{s:Nat}(e:i<t.length):Kh g (t.take (i+1)) s i↔LI g (bt t i) (gN t i) (fun s=>Kh g (t.take i) s i) s:=by
 constructor
 ·intro h
  suffices b:∀{s k:Nat},Kh g (t.take (i+1)) s k->i=k->LI g (bt t i) (gN t i) (fun s=>Kh g (t.take i) s i) s from b h rfl
  intro s k b;intro hk
  induction b with
  |start k h=>subst hk;exact .Mg _ (.start i (by rw[Ro];omega))
  |KX s s' k h a ih=>
   subst hk;refine .step s s' (ih rfl) ?_;rw[ff (by omega),gy (by omega)] at a
   exact a
  |byte s s' k h d c ih=>
   subst hk;refine .Mg _ ?_;have:=h.more (m:=k+1) (by omega) (by omega)
   refine .byte s s' k this (by rw[Ro];omega) ?_
   rw[fE (by omega)] at c ⊢
   exact c
 intro h
 induction h with
 |Mg s h=>exact h.grow hm
 |step s s' _ a ih=>
  refine .KX s s' i ih ?_;rw[ff (by omega),gy (by omega)]
  exact a
def LN(g:Gr)(t:List Nat)(i:Nat):Prop:=∀s k,k<i->Kh g (t.take (k+1)) s k->¬g.fin s
theorem LN.IW{g:Gr}(hm:py g){t:List Nat}(h:LN g t i)(a:m<i):¬tN g t m:=by
 rintro⟨s,k,b,c⟩;have d:=b.len;rw[Ro] at d
 by_cases e:k<m
 ·exact h s k (by omega) (b.more e (by omega)) c
 obtain rfl:k=m:=by omega
 exact h s k a (b.grow hm) c
theorem LN.at_{g:Gr}{t:List Nat}(h:LN g t i):tN g t i↔ ∃s,Kh g (t.take i) s i/\g.fin s:=by
 constructor
 ·rintro⟨s,k,a,b⟩;have c:=a.len;rw[Ro] at c
  by_cases e:k<i
  ·exact absurd b (h s k e (a.more e (by omega)))
  grind
 rintro⟨s,a,b⟩;exact⟨s,i,a,b⟩
inductive Mu (g:Gr) (t:List Nat):Nat->(Nat->Prop)->Int->Prop
 |done (i:Nat) (S A:Nat->Prop):(∀s,A s↔LI g (bt t i) false (fun s=>S s\/s=g.s0) s)->(∃s,A s/\g.fin s)->Mu g t i S i
 |stop (i:Nat) (S A:Nat->Prop):(∀s,A s↔LI g (bt t i) false (fun s=>S s\/s=g.s0) s)->(∀s,A s->¬g.fin s)->i=t.length->Mu g t i S (-1)
 |Oz (i:Nat) (S A B:Nat->Prop):(∀s,A s↔LI g (bt t i) false (fun s=>S s\/s=g.s0) s)->(∀s,A s->¬g.fin s)->i<t.length->
   (∀s,B s↔LI g (bt t i) (gN t i) A s)->(∃s,B s/\g.fin s)->Mu g t i S (i+1)
 |step (i:Nat) (S A B S':Nat->Prop) (r:Int):(∀s,A s↔LI g (bt t i) false (fun s=>S s\/s=g.s0) s)->(∀s,A s->¬g.fin s)->i<t.length->
   (∀s,B s↔LI g (bt t i) (gN t i) A s)->(∀s,B s->¬g.fin s)->(∀s,S' s↔ ∃s1,B s1/\g.Mh (t.getD i 0) s1 s)->Mu g t (i+1) S' r->Mu g t i S r
theorem LI.congr{g:Gr}{IZ Ja:Bool}{S T:Nat->Prop}(h:∀s,S s->T s){s:Nat}(hc:LI g IZ Ja S s):LI g IZ Ja T s:=by
 induction hc with
 |Mg s hs=>exact .Mg s (h s hs)
 |step s s' _ a ih=>exact .step s s' ih a
theorem LI.O3{g:Gr}{IZ Ja:Bool}{S T:Nat->Prop}(h:∀s,S s↔T s)(s:Nat):LI g IZ Ja S s↔LI g IZ Ja T s:=by grind [LI.congr]
theorem LI.closed{g:Gr}{IZ Ja:Bool}{S:Nat->Prop}(h:∀s s',S s->g.KX IZ Ja s s'->S s')(s:Nat):S s↔LI g IZ Ja S s:=by
 constructor
 ·exact .Mg s
 intro hc
 induction hc with
 |Mg s hs=>exact hs
 |step s s' _ a ih=>grind
theorem Mu.law{g:Gr}(hm:py g){t:List Nat}{S:Nat->Prop}(h:Mu g t i S r):i<=t.length->(∀s,S s↔DD g t i s)->LN g t i->LM g t r:=by
 have key:∀{i:Nat} {S A:Nat->Prop},i<=t.length->(∀s,S s↔DD g t i s)->(∀s,A s↔LI g (bt t i) O (fun s=>S s\/s=g.s0) s)->∀s,A s↔Kh g (t.take i) s i:=by
  intro i S A a f b s;rw[b,BL a];exact LI.O3 (fun s=>by rw[f]) s
 have l:∀{i:Nat} {A B:Nat->Prop},i<t.length->(∀s,A s↔Kh g (t.take i) s i)->(∀s,B s↔LI g (bt t i) (gN t i) A s)->∀s,B s↔Kh g (t.take (i+1)) s i:=by
  intro i A B a b hB s;rw[hB,xW hm a];exact LI.O3 (fun s=>b s) s
 have w:∀{i:Nat} {B:Nat->Prop},LN g t i->(∀s,B s↔Kh g (t.take (i+1)) s i)->(∀s,B s->¬g.fin s)->LN g t (i+1):=by
  intro i B hc hB o s k hk y
  by_cases e:k<i
  ·exact hc s k e y
  grind
 induction h with
 |done i S A b o=>
  intro a f hc;obtain⟨s,h1,h2⟩:=o;exact bX ⟨i,a,rfl,hc.at_.2 ⟨s,(key a f b s).1 h1,h2⟩,fun m u=>hc.IW hm u⟩
 |stop i S A b o z=>
  intro a f hc;refine bY ⟨rfl,fun n C ha=>?_⟩
  by_cases e:n<i
  ·exact hc.IW hm e ha
  obtain rfl:n=i:=by omega
  obtain⟨s,h1,h2⟩:=hc.at_.1 ha;exact o s ((key a f b s).2 h1) h2
 |Oz i S A B b o q hB p=>
  intro a f hc;have d:=key a f b;have c:=l q d hB;obtain⟨s,h1,h2⟩:=p;refine bX ⟨i+1,by omega,by omega,⟨s,i,(c s).1 h1,h2⟩,fun m u=>?_⟩
  by_cases e:m<i
  ·exact hc.IW hm e
  obtain rfl:m=i:=by omega
  rintro ha;obtain⟨s,h1,h2⟩:=hc.at_.1 ha;exact o s ((d s).2 h1) h2
 |step i S A B S' r b o q hB p x _ ih=>
  intro a f hc;have d:=key a f b;have c:=l q d hB;refine ih (by omega) (fun s=>?_) (w hc c p)
  rw[x];constructor
  ·rintro⟨s1,h1,h2⟩;exact⟨i,s1,rfl,(c s1).1 h1,h2⟩
  rintro⟨j,s1,hj,h1,h2⟩;obtain rfl:i=j:=by omega
  exact⟨s1,(c s1).2 h1,h2⟩
theorem Mu.Qb{g:Gr}(hm:py g){t:List Nat}(h:Mu g t 0 (fun _=>False) r):LM g t r:=by
 refine h.law hm (bO _) (fun s=>⟨fun h=>h.elim,?_⟩) (fun s k hk=>by omega)
 rintro⟨j,s1,hj,_⟩;omega
def dG(k:Int):Int:=if k=1\/k=2\/k=8\/k=9 then 0 else if k=5\/k=6\/k=7 then 1 else if k=3\/k=4 then 2 else-1
def iS(rs:List Int)(i:Nat)(x:Nd):Option (List Int):=
 if x.IF≠2/\x.set≠0 then V
 else if dG x.IF<0\/(rs.length:Int)<dG x.IF then V
 else if x.left≠(rs.drop (rs.length-(dG x.IF).toNat)).getD 0 0\/x.right≠(rs.drop (rs.length-(dG x.IF).toNat)).getD 1 0 then V
 else X (rs.take (rs.length-(dG x.IF).toNat)++[(i:Int)])
def hZ(l:List Nd):Nat->Option (List Int)
 |0=>X []
 |k+1=>match hZ l k with
  |none=>V
  |some rs=>iS rs k (nd l k)
def bZ(l:List Nd):Bool:=decide (l.length<=256)&&(match hZ l l.length with
 |none=>O
 |some rs=>rs.length==1)
theorem ij{l:List Nd}(h:hZ l k=V)(hm:k<=m):hZ l m=V:=by
 induction m<;>grind [hZ]
theorem vE{rs a:List Int}{x:Nd}(h:iS rs i x=X a):a.length<=rs.length+1:=by grind [iS]
theorem qE{l:List Nd}:∀{k:Nat} {rs:List Int},hZ l k=X rs->rs.length<=k
 |0,rs,h=>by injection h with h;subst h;simp
 |k+1,rs,h=>by
  rw[hZ] at h;cases a:hZ l k with
  |none=>rw[a] at h;cases h
  |some r0=>
   rw[a] at h;have:=vE h;have:=qE a;omega
theorem j8{l:List Nd}(h:bZ l=G):l.length<=256/\∃r,hZ l l.length=X [r]:=by
 unfold bZ at h;rw[Ru] at h;refine⟨of_decide_eq_true h.1,?_⟩;cases a:hZ l l.length with
 |none=>grind
 |some rs=>
  rw[a] at h;have h2:rs.length=1:=by simpa using h.2
  obtain⟨r,rfl⟩:=List.length_eq_one_iff.mp h2;exact⟨r,rfl⟩
theorem iA{l:List Nd}(h:bZ l=G):1<=l.length/\l.length<=256:=by
 obtain⟨h1,r,h2⟩:=j8 h;have:=qE h2;exact⟨by simpa using this,h1⟩
inductive Pd (l:List Nd):List Int->Nat->Prop
 |nil:Pd l [] 0
 |cons (R:List Int) (a n:Nat):Pd l R a->Sub l a n->Pd l ((n:Int)::R) (n+1)
theorem sk{rs a:List Int}{x:Nd}(h:iS rs i x=X a):(x.IF≠2->x.set=0)/\0<=dG x.IF/\dG x.IF<=rs.length/\
  x.left=(rs.drop (rs.length-(dG x.IF).toNat)).getD 0 0/\x.right=(rs.drop (rs.length-(dG x.IF).toNat)).getD 1 0/\a=rs.take (rs.length-(dG x.IF).toNat)++[(i:Int)]:=by grind [iS]
theorem rx(k:Int)(h:0<=dG k):(dG k=0/\(k=1\/k=2\/k=8\/k=9))\/(dG k=1/\(k=5\/k=6\/k=7))\/(dG k=2/\(k=3\/k=4)):=by grind [dG]
theorem vC{l:List Nd}{rs p:List Int}(hk:k<l.length)(h:iS rs k (nd l k)=X p)(hs:Pd l rs.reverse k):Pd l p.reverse (k+1):=by
 obtain⟨h1,h2,j,b,c,rfl⟩:=sk h;rcases rx _ h2 with⟨e,d⟩|⟨e,d⟩|⟨e,d⟩
 ·rw[e] at b c ⊢;simp at b c ⊢;rw[show l=l from rfl]
  exact .cons _ k k hs (.leaf k hk d b c h1)
 ·rw[e] at j b c ⊢;have hne:rs≠[]:=by grind
  obtain⟨q,r,rfl⟩:∃q r,rs=q++[r]:=⟨rs.dropLast,rs.getLast hne,(R4 hne).symm⟩
  simp at b c ⊢
  rw[List.reverse_append] at hs;simp at hs;generalize t:q.reverse=R at *;cases hs with
  |cons _ a n hs f=>
   exact .cons _ a (n+1) hs (.one a n hk d b c (h1 (by omega)) f)
 rw[e] at j b c ⊢;have hne:rs≠[]:=by intro e;rw[e] at j;simp at j
 obtain⟨q,r,rfl⟩:∃q r,rs=q++[r]:=⟨rs.dropLast,rs.getLast hne,(R4 hne).symm⟩
 have g:q≠[]:=by intro e;rw[e] at j;simp at j
 obtain⟨o,s,rfl⟩:∃o s,q=o++[s]:=⟨q.dropLast,q.getLast g,(R4 g).symm⟩
 have hd:((o++[s]++[r]).length-(2:Int).toNat)=o.length:=by simp
 rw[hd] at b c ⊢;rw[Rt,List.drop_left] at b c;rw[Rt,List.take_left];simp at b c ⊢;simp at hs;generalize t:o.reverse=R at *;cases hs with
 |cons _ a n hs f=>
  cases hs with
  |cons _ a2 m hs i=>
   exact .cons _ a2 (n+1) hs (.Po a2 m n hk d b c (h1 (by omega)) i f)
theorem qD{l:List Nd}:∀(k:Nat) (rs:List Int),k<=l.length->hZ l k=X rs->Pd l rs.reverse k
 |0,rs,_,h=>by injection h with h;subst h;exact .nil
 |k+1,rs,hk,h=>by
  rw[hZ] at h;cases a:hZ l k with
  |none=>rw[a] at h;cases h
  |some r0=>
   rw[a] at h;exact vC (by omega) h (qD k r0 (by omega) a)
theorem mO{l:List Nd}(h:bZ l=G):Sub l 0 (l.length-1):=by
 obtain⟨h1,r,h2⟩:=j8 h;have:=qD _ _ (bM _) h2;simp at this;generalize c:l.length=n at this;cases this with
 |cons _ a m hs b=>
  cases hs with
  |nil=>exact b
def gK(st:List Nd):Gr where
 KX:=fun IZ Ja s s'=>((nd st s).IF=2/\(((s':Int)=(nd st s).left)\/((s':Int)=(nd st s).right)))\/((nd st s).IF=3/\IZ=G/\(s':Int)=(nd st s).left)\/((nd st s).IF=4/\Ja=G/\(s':Int)=(nd st s).left)
 Mh:=fun c s s'=>(nd st s).IF=1/\hasB (nd st s).set c=G/\(s':Int)=(nd st s).left
 s0:=0
 fin:=fun s=>(nd st s).IF=5
theorem wL(st:List Nd):py (gK st):=by
 intro IZ s s' h;rcases h with h|h|⟨_,h,_⟩
 ·exact bX h
 ·exact bY (bX h)
 cases h
def M9(S:Nat->Nd)(P:Nat->Prop)(a b:Nat):Prop:=a=b\/(P a/\(S a).IF=2/\(S a).left=b/\(S a).right=b)
inductive KQ (l:List Nd) (S:Nat->Nd) (P:Nat->Prop):Nat->Nat->Nat->Prop
 |empty (n f x:Nat):(nd l n).IF=1->M9 S P f x->KQ l S P n f x
 |set (n f x:Nat):(nd l n).IF=2->P f->(S f).IF=1->(S f).left=x->(S f).set=(nd l n).set->KQ l S P n f x
 |IZ (n f x:Nat):(nd l n).IF=8->P f->(S f).IF=3->(S f).left=x->KQ l S P n f x
 |Ja (n f x:Nat):(nd l n).IF=9->P f->(S f).IF=4->(S f).left=x->KQ l S P n f x
 |Qg (n a b f y x:Nat):(nd l n).IF=3->(nd l n).left=a->(nd l n).right=b->KQ l S P a f y->KQ l S P b y x->KQ l S P n f x
 |Qi (n a b f f1 f2 n1 n2 x:Nat):(nd l n).IF=4->(nd l n).left=a->(nd l n).right=b->P f->(S f).IF=2->(S f).left=f1->(S f).right=f2->KQ l S P a f1 n1->M9 S P n1 x->KQ l S P b f2 n2->M9 S P n2 x->KQ l S P n f x
 |star (n a f f1 n1 x:Nat):(nd l n).IF=5->(nd l n).left=a->P f->(S f).IF=2->(S f).left=f1->(S f).right=x->KQ l S P a f1 n1->M9 S P n1 f->KQ l S P n f x
 |plus (n a f n1 x:Nat):(nd l n).IF=6->(nd l n).left=a->KQ l S P a f n1->P n1->(S n1).IF=2->(S n1).left=f->(S n1).right=x->KQ l S P n f x
 |P8 (n a f f1 x:Nat):(nd l n).IF=7->(nd l n).left=a->P f->(S f).IF=2->(S f).left=f1->(S f).right=x->KQ l S P a f1 x->KQ l S P n f x
theorem M9.congr{S S':Nat->Nd}{P c:Nat->Prop}{b:Nat}(h:M9 S P a b)(hc:∀i,P i->S i=S' i/\c i):M9 S' c a b:=by
 rcases h with h|⟨h1,h2,d,f⟩
 ·exact bX h
 obtain⟨e,p⟩:=hc _ h1;exact bY ⟨p,e▸h2,e▸d,e▸f⟩
theorem KQ.congr{l:List Nd}{S S':Nat->Nd}{P o:Nat->Prop}{n f:Nat}(h:KQ l S P n f x)(hc:∀i,P i->S i=S' i/\o i):KQ l S' o n f x:=by
 induction h with
 |empty n f x hk r=>exact .empty n f x hk (r.congr hc)
 |set n f x hk c h1 h2 d=>obtain⟨e,p⟩:=hc _ c;exact .set n f x hk p (e▸h1) (e▸h2) (e▸d)
 |IZ n f x hk c h1 h2=>obtain⟨e,p⟩:=hc _ c;exact .IZ n f x hk p (e▸h1) (e▸h2)
 |Ja n f x hk c h1 h2=>obtain⟨e,p⟩:=hc _ c;exact .Ja n f x hk p (e▸h1) (e▸h2)
 |Qg n a b f y x hk ha k _ _ g m=>exact .Qg n a b f y x hk ha k g m
 |Qi n a b f f1 f2 n1 n2 x hk ha k c h1 h2 d _ j _ q g m=>obtain⟨e,p⟩:=hc _ c;exact .Qi n a b f f1 f2 n1 n2 x hk ha k p (e▸h1) (e▸h2) (e▸d) g (j.congr hc) m (q.congr hc)
 |star n a f f1 n1 x hk ha c h1 h2 d _ j g=>obtain⟨e,p⟩:=hc _ c;exact .star n a f f1 n1 x hk ha p (e▸h1) (e▸h2) (e▸d) g (j.congr hc)
 |plus n a f n1 x hk ha _ c h1 h2 d g=>obtain⟨e,p⟩:=hc _ c;exact .plus n a f n1 x hk ha g p (e▸h1) (e▸h2) (e▸d)
 |P8 n a f f1 x hk ha c h1 h2 d _ g=>obtain⟨e,p⟩:=hc _ c;exact .P8 n a f f1 x hk ha p (e▸h1) (e▸h2) (e▸d) g
section
variable {l st : List Nd} {P : Nat -> Prop} {t : List Nat}
end
structure PG(l st:List Nd):Prop where
 Ql:∃P f x,M9 (nd st) P 0 f/\KQ l (nd st) P (l.length-1) f x/\(nd st x).IF=5
def ah(L:List Nat)(s:Nat):List Nat:=if s∈L then L else L++[s]
def zv(l:List Nd)(x:Nat):Nat:=(nd l x).left.toNat
def xL(l:List Nd)(x:Nat):Nat:=(nd l x).right.toNat
def J5(l:List Nd)(x:Nat)(IZ Ja:Bool)(L:List Nat):List Nat:=
 if(nd l x).IF=1 then ah L (2*x+1)
 else if(nd l x).IF=8 then(if IZ=G then ah L (2*x+1) else L)
 else if(nd l x).IF=9 then(if Ja=G then ah L (2*x+1) else L)
 else if(nd l x).IF=5\/(nd l x).IF=7 then ah (ah L (2*x+1)) (2*zv l x)
 else if(nd l x).IF=3\/(nd l x).IF=6 then ah L (2*zv l x)
 else if(nd l x).IF=4 then ah (ah L (2*zv l x)) (2*xL l x)
 else L
def J4(l:List Nd)(up x:Nat)(L:List Nat):List Nat:=
 if(nd l up).IF=3 then(if(x:Int)=(nd l up).left then ah L (2*xL l up) else ah L (2*up+1))
 else if(nd l up).IF=5 then ah L (2*up)
 else if(nd l up).IF=6 then ah (ah L (2*up+1)) (2*x)
 else ah L (2*up+1)
def cG(l:List Nd):Nat->List Nat
 |0=>Rv l.length 0
 |k+1=>
  if(nd l k).IF=3\/(nd l k).IF=4 then((cG l k).set (xL l k) k).set (zv l k) k
  else if(nd l k).IF=5\/(nd l k).IF=6\/(nd l k).IF=7 then(cG l k).set (zv l k) k
  else cG l k
theorem dz(l:List Nd)(k:Nat):(cG l k).length=l.length:=by
 induction k<;>grind [cG]
def iZ(l:List Nd)(ps:List Nat)(IZ Ja:Bool)(s:Nat)(L:List Nat):List Nat:=
 if s%2=0 then J5 l (s/2) IZ Ja L
 else if s/2≠l.length-1 then J4 l (ps.getD (s/2) 0) (s/2) L else L
def JI(l:List Nd)(ps:List Nat)(IZ Ja:Bool):Nat->Nat->List Nat->List Nat
 |0,_,L=>L
 |f+1,i,L=>if i<L.length then JI l ps IZ Ja f (i+1) (iZ l ps IZ Ja (L.getD i 0) L) else L
def eG(l:List Nd)(IZ Ja:Bool)(L:List Nat):List Nat:=JI l (cG l l.length) IZ Ja (2*l.length) 0 L
def gI(l:List Nd)(c:Nat)(s:Nat)(L:List Nat):List Nat:=
 if s%2=0/\(nd l (s/2)).IF=2/\hasB (nd l (s/2)).set c=G then ah L (2*(s/2)+1) else L
def jg(l:List Nd)(c:Nat)(L:List Nat):List Nat:=L.foldl (fun IW s=>gI l c s IW) []
def mt(l:List Nd)(L:List Nat):Bool:=decide (2*(l.length-1)+1∈L)
def fr(l:List Nd)(t:List Nat):Nat->Nat->List Nat->Int
 |0,_,_=> -1
 |f+1,i,L=>
  let a:=eG l (bt t i) O (ah L (2*(l.length-1)))
  if mt l a=G then i
  else if i=t.length then-1
  else if t.getD i 0=10 then
   let L2:=eG l (bt t i) G a
   if mt l L2=G then(i:Int)+1 else fr l t f (i+1) (jg l (t.getD i 0) L2)
  else fr l t f (i+1) (jg l (t.getD i 0) a)
def dL(l:List Nd)(t:List Nat):Int:=if bZ l=G then fr l t (t.length+1) 0 [] else-1
def IX(n:Nat)(L:List Nat):Prop:=L.Nodup/\∀s∈L,s<n
theorem jN:∀(n:Nat) (L:List Nat),L.Nodup->(∀s∈L,s<n)->L.length<=n
 |0,L,_,h=>by
  cases L with
  |nil=>exact bM _
  |cons a L=>exact absurd (h a (by simp)) (by omega)
 |n+1,L,b,h=>by
  by_cases hm:n∈L
  ·have:=jN n (L.erase n) (b.erase n) (fun s hs=>by
    have h1:=(List.Nodup.mem_erase_iff b).mp hs
    have:=h s h1.2
    have:=h1.1
    omega)
   rw[List.length_erase_of_mem hm] at this;omega
  have:=jN n L b (fun s hs=>by
   have:=h s hs
   have:s≠n:=fun e=>hm (e▸hs)
   omega)
  omega
theorem IX.len{n:Nat}(h:IX n L):L.length<=n:=jN n L h.1 h.2
theorem IX.nil(n:Nat):IX n []:=⟨List.nodup_nil,fun s h=>by cases h⟩
theorem IX.enter{n:Nat}(h:IX n L){s:Nat}(hs:s<n):IX n (ah L s):=by
 unfold ah;split
 ·exact h
 rename_i d
 refine⟨?_,fun x hx=>?_⟩
 ·rw[Sb];exact⟨h.1,by simp,fun a ha b c=>by simp at c;subst c;intro e;subst e;exact d ha⟩
 rcases Rn.mp hx with hx|hx
 ·exact h.2 x hx
 grind
def kS(n:Nat)(x:Nd):Prop:=1<=x.IF/\x.IF<=5/\(x.IF≠5->0<=x.left/\x.left<n)/\(x.IF=2->0<=x.right/\x.right<n)
instance(n:Nat)(x:Nd):Decidable (kS n x):=by unfold kS;infer_instance
def bw(st:List Nd):Bool:=decide (1<=st.length/\st.length<=513/\∀x∈st,kS st.length x)
theorem bi{st:List Nd}(h:bw st=G):1<=st.length/\st.length<=513/\∀s,s<st.length->kS st.length (nd st s):=by
 obtain⟨h1,h2,a⟩:=of_decide_eq_true h;refine⟨h1,h2,fun s hs=>a _ ?_⟩
 unfold nd
 grind
def JN(st:List Nd)(IZ Ja:Bool)(s:Nat)(L:List Nat):List Nat:=
 if(nd st s).IF=2 then ah (ah L (nd st s).left.toNat) (nd st s).right.toNat
 else if((nd st s).IF=3/\IZ=G)\/((nd st s).IF=4/\Ja=G) then ah L (nd st s).left.toNat else L
def Jh(st:List Nd)(IZ Ja:Bool):Nat->Nat->List Nat->List Nat
 |0,_,L=>L
 |f+1,i,L=>if i<L.length then Jh st IZ Ja f (i+1) (JN st IZ Ja (L.getD i 0) L) else L
def bv(st:List Nd)(IZ Ja:Bool)(L:List Nat):List Nat:=Jh st IZ Ja st.length 0 L
def fP(st:List Nd)(c s:Nat)(L:List Nat):List Nat:=if(nd st s).IF=1/\hasB (nd st s).set c=G then ah L (nd st s).left.toNat else L
def Kd(st:List Nd)(c:Nat)(L:List Nat):List Nat:=L.foldl (fun IW s=>fP st c s IW) []
def cw(st:List Nd)(L:List Nat):Bool:=L.any fun s=>decide ((nd st s).IF=5)
def gW(st:List Nd)(t:List Nat):Nat->Nat->List Nat->Int
 |0,_,_=> -1
 |f+1,i,L=>
  let a:=bv st (bt t i) O (ah L 0)
  if cw st a=G then i
  else if i=t.length then-1
  else if t.getD i 0=10 then
   let L2:=bv st (bt t i) G a
   if cw st L2=G then(i:Int)+1 else gW st t f (i+1) (Kd st (t.getD i 0) L2)
  else gW st t f (i+1) (Kd st (t.getD i 0) a)
def df(st:List Nd)(t:List Nat):Int:=if bw st=G then gW st t (t.length+1) 0 [] else-1
theorem gO(L:List Nat)(s x:Nat):x∈ah L s↔x∈L\/x=s:=by grind [ah]
theorem kz(L:List Nat)(s:Nat):∃e,ah L s=L++e:=by
 unfold ah;split
 ·exact⟨[],by simp⟩
 exact⟨[s],rfl⟩
section
variable {st : List Nd} (hv : bw st = true)
include hv
theorem sR(IZ Ja:Bool){s:Nat}(hs:s<st.length)(L:List Nat)(s':Nat):s'∈JN st IZ Ja s L↔s'∈L\/(gK st).KX IZ Ja s s':=by
 obtain⟨_,_,c⟩:=bi hv;obtain⟨k1,k2,k3,k4⟩:=c s hs;unfold JN
 show _↔_\/(((nd st s).IF=2/\(((s':Int)=(nd st s).left)\/((s':Int)=(nd st s).right)))\/((nd st s).IF=3/\IZ=G/\(s':Int)=(nd st s).left)\/((nd st s).IF=4/\Ja=G/\(s':Int)=(nd st s).left))
 by_cases h2:(nd st s).IF=2
 ·rw[ps_ h2,gO,gO];have:=k3 (by omega)
  have:=k4 h2
  constructor
  ·rintro((h|h)|h)
   ·exact bX h
   ·exact bY (bX ⟨h2,bX (by omega)⟩)
   exact bY (bX ⟨h2,bY (by omega)⟩)
  rintro(h|⟨_,h|h⟩|⟨h,_⟩|⟨h,_⟩)
  ·exact bX (bX h)
  ·exact bX (bY (by omega))
  ·exact bY (by omega)
  ·omega
  omega
 rw[ng_ h2]
 by_cases d:((nd st s).IF=3/\IZ=G)\/((nd st s).IF=4/\Ja=G)
 ·rw[ps_ d,gO];have:=k3 (by omega)
  constructor
  ·rintro(h|h)
   ·exact bX h
   rcases d with⟨a,b⟩|⟨a,b⟩
   ·exact bY (bY (bX ⟨a,b,by omega⟩))
   exact bY (bY (bY ⟨a,b,by omega⟩))
  rintro(h|⟨h,_⟩|⟨_,_,h⟩|⟨_,_,h⟩)
  ·exact bX h
  ·omega
  ·exact bY (by omega)
  exact bY (by omega)
 grind
omit hv in
theorem sM(IZ Ja:Bool)(s:Nat)(L:List Nat):∃e,JN st IZ Ja s L=L++e:=by
 unfold JN;split
 ·obtain⟨a,h1⟩:=kz L (nd st s).left.toNat;obtain⟨b,h2⟩:=kz (ah L (nd st s).left.toNat) (nd st s).right.toNat;exact⟨a++b,by rw[h2,h1,Rt]⟩
 split
 ·exact kz _ _
 simp
theorem IX.JN{IZ Ja:Bool}{s:Nat}(hs:s<st.length)(h:IX st.length L):IX st.length (JN st IZ Ja s L):=by
 obtain⟨_,_,a⟩:=bi hv;obtain⟨k1,k2,k3,k4⟩:=a s hs;unfold Go.Proofs.YtflccikncbhpdaaGreatDoor.JN;split
 ·rename_i h2
  have:=k3 (by omega)
  have:=k4 h2
  exact(h.enter (by omega)).enter (by omega)
 split
 ·have:=k3 (by omega)
  exact h.enter (by omega)
 exact h
theorem IX.Jh{IZ Ja:Bool}:∀(f i:Nat) (L:List Nat),IX st.length L->IX st.length (Jh st IZ Ja f i L)
 |0,_,_,h=>h
 |f+1,i,L,h=>by
  rw[Go.Proofs.YtflccikncbhpdaaGreatDoor.Jh];split
  ·rename_i a
   refine IX.Jh f _ _ (IX.JN hv ?_ h);rw[bD,bE a];exact h.2 _ (bH a)
  exact h
theorem jY(IZ Ja:Bool):∀(f i:Nat) (L:List Nat),IX st.length L->st.length<=f+i->
  (∀j,j<i->∀h:j<L.length,∀s',(gK st).KX IZ Ja L[j] s'->s'∈L)->
  (∀s∈L,s∈Jh st IZ Ja f i L)/\
  (∀s∈Jh st IZ Ja f i L,∀s',(gK st).KX IZ Ja s s'->s'∈Jh st IZ Ja f i L)/\
  (∀P:Nat->Prop,(∀s s',P s->(gK st).KX IZ Ja s s'->P s')->(∀s∈L,P s)->∀s∈Jh st IZ Ja f i L,P s)
 |0,i,L,c,r,hc=>by
  have l:=c.len
  refine⟨fun s h=>h,fun s hs s' d=>?_,fun P _ b=>b⟩
  rw[Go.Proofs.YtflccikncbhpdaaGreatDoor.Jh] at hs ⊢;obtain⟨j,hj,rfl⟩:=RU.mp hs;exact hc j (by omega) hj s' d
 |f+1,i,L,c,r,hc=>by
  have l:=c.len
  rw[Jh]
  by_cases g:i<L.length
  ·rw[ps_ g];have t:L.getD i 0=L[i]:=by rw[bD,bE g];rfl
   have m:L[i]<st.length:=c.2 _ (bH g)
   rw[t];obtain⟨e,d⟩:=sM (st:=st) IZ Ja L[i] L;have hm:=fun s'=>sR hv IZ Ja m L s'
   have n:=IX.JN hv (IZ:=IZ) (Ja:=Ja) m c
   obtain⟨q1,u,w⟩:=jY IZ Ja f (i+1) (JN st IZ Ja L[i] L) n (by omega) (by
    intro j hj h s' a
    by_cases k:j<L.length
    ·have p:(JN st IZ Ja L[i] L)[j]=L[j]:=by
      simp only[d];exact List.getElem_append_left k
     rw[p] at a;rw[hm]
     by_cases o:j=i
     ·subst o;exact bY a
     exact bX (hc j (by omega) k s' a)
    omega)
   refine⟨fun s h=>q1 s ((hm s).2 (bX h)),u,fun P b q=>w P b (fun s hs=>?_)⟩
   rcases (hm s).1 hs with h|h
   ·exact q s h
   exact b _ _ (q _ (bH g)) h
  rw[ng_ g];refine⟨fun s h=>h,fun s hs s' d=>?_,fun P _ b=>b⟩
  obtain⟨j,hj,rfl⟩:=RU.mp hs;exact hc j (by omega) hj s' d
theorem mn(IZ Ja:Bool)(b:IX st.length L)(s:Nat):s∈bv st IZ Ja L↔LI (gK st) IZ Ja (fun s=>s∈L) s:=by
 obtain⟨q1,c,d⟩:=jY hv IZ Ja st.length 0 L b (by omega) (fun j hj=>by omega)
 constructor
 ·exact d _ (fun s s' h a=> .step s s' h a) (fun s h=> .Mg s h) s
 intro h
 induction h with
 |Mg s h=>exact q1 s h
 |step s s' _ a ih=>exact c s ih s' a
end
theorem lO{st:List Nd}(hv:bw st=G)(c:Nat):∀(S IW:List Nat),(∀s∈S,s<st.length)->IX st.length IW->
  IX st.length (S.foldl (fun IW s=>fP st c s IW) IW)/\∀s',s'∈S.foldl (fun IW s=>fP st c s IW) IW↔s'∈IW\/∃s∈S,(gK st).Mh c s s'
 |[],IW,_,h=>⟨h,fun s'=>by simp⟩
 |s::S,IW,b,h=>by
  have hs:s<st.length:=b s (by simp)
  obtain⟨_,_,a⟩:=bi hv;obtain⟨k1,k2,k3,k4⟩:=a s hs;have h1:IX st.length (fP st c s IW)/\∀s',s'∈fP st c s IW↔s'∈IW\/(gK st).Mh c s s':=by
   unfold fP
   show _/\∀s':Nat,_↔_\/((nd st s).IF=1/\hasB (nd st s).set c=G/\(s':Int)=(nd st s).left)
   split
   ·rename_i hc
    have:=k3 (by omega)
    refine⟨h.enter (by omega),fun s'=>?_⟩
    rw[gO];exact⟨fun h=>h.imp id (fun e=>⟨hc.1,hc.2,by omega⟩),fun h=>h.imp id (fun e=>by have:=e.2.2;omega)⟩
   rename_i hc
   exact⟨h,fun s'=>⟨bX,fun h=>h.elim id (fun e=>absurd ⟨e.1,e.2.1⟩ hc)⟩⟩
  obtain⟨q1,d⟩:=lO hv c S (fP st c s IW) (fun x hx=>b x (by simp[hx])) h1.1
  refine⟨q1,fun s'=>?_⟩
  rw[List.foldl_cons,d,h1.2];constructor
  ·rintro((h|h)|⟨x,hx,h⟩)
   ·exact bX h
   ·exact bY ⟨s,by simp,h⟩
   exact bY ⟨x,by simp[hx],h⟩
  rintro(h|⟨x,hx,h⟩)
  ·exact bX (bX h)
  rcases Rz.mp hx with rfl|hx
  ·exact bX (bY h)
  exact bY ⟨x,hx,h⟩
theorem IX.Kd{st:List Nd}(hv:bw st=G)(c:Nat)(h:IX st.length L):IX st.length (Kd st c L):=(lO hv c L [] h.2 (IX.nil _)).1
theorem oM{st:List Nd}(hv:bw st=G)(c:Nat)(h:IX st.length L)(s':Nat):s'∈Kd st c L↔ ∃s,s∈L/\(gK st).Mh c s s':=by
 unfold Kd;rw[(lO hv c L [] h.2 (IX.nil _)).2];simp
theorem jO(st:List Nd)(L:List Nat):cw st L=G↔ ∃s,s∈L/\(gK st).fin s:=by
 unfold cw;rw[R0]
 show _↔ ∃s,s∈L/\(nd st s).IF=5
 simp
theorem Ag{t:List Nat}(a:i<t.length)(h:t.getD i 0=10):gN t i=G:=by grind [gN]
theorem Ah{t:List Nat}(h:t.getD i 0≠10):gN t i=O:=by
 unfold gN
 grind
theorem kq{st:List Nd}(hv:bw st=G)(t:List Nat):∀(f i:Nat) (L:List Nat),IX st.length L->i<=t.length->t.length<f+i->Mu (gK st) t i (fun s=>s∈L) (gW st t f i L)
 |0,i,L,l,n,m=>by omega
 |f+1,i,L,l,n,m=>by
  have h1:=(bi hv).1
  have g:IX st.length (ah L 0):=l.enter (by omega)
  have b:IX st.length (bv st (bt t i) O (ah L 0)):=IX.Jh hv _ _ _ g
  have e:∀s,s∈bv st (bt t i) O (ah L 0)↔LI (gK st) (bt t i) O (fun s=>s∈L\/s=(gK st).s0) s:=by
   intro s;rw[mn hv _ _ g];exact LI.O3 (fun s=>gO L 0 s) s
  rw[gW];generalize bv st (bt t i) O (ah L 0)=L1 at *;simp only;split
  ·rename_i hd
   exact .done i _ (fun s=>s∈L1) e ((jO st L1).1 hd)
  rename_i hd
  have a:∀s,s∈L1->¬(gK st).fin s:=fun s h1 h2=>hd ((jO st L1).2 ⟨s,h1,h2⟩)
  split
  ·rename_i k
   exact .stop i _ (fun s=>s∈L1) e a k
  rename_i hne
  have c:i<t.length:=by omega
  split
  ·rename_i hc
   have h:IX st.length (bv st (bt t i) G L1):=IX.Jh hv _ _ _ b
   have hB:∀s,s∈bv st (bt t i) G L1↔LI (gK st) (bt t i) (gN t i) (fun s=>s∈L1) s:=by
    intro s;rw[Ag c hc];exact mn hv _ _ b s
   generalize bv st (bt t i) G L1=L2 at *;split
   ·rename_i d
    exact .Oz i _ (fun s=>s∈L1) (fun s=>s∈L2) e a c hB ((jO st L2).1 d)
   rename_i d
   have j:∀s,s∈L2->¬(gK st).fin s:=fun s h1 h2=>d ((jO st L2).2 ⟨s,h1,h2⟩)
   exact .step i _ (fun s=>s∈L1) (fun s=>s∈L2) (fun s=>s∈Kd st (t.getD i 0) L2) _ e a c hB j (oM hv _ h) (kq hv t f (i+1) _ (IX.Kd hv _ h) (by omega) (by omega))
  rename_i hc
  have hB:∀s,s∈L1↔LI (gK st) (bt t i) (gN t i) (fun s=>s∈L1) s:=by
   rw[Ah hc];refine LI.closed (fun s s' hs k=>?_)
   rw[e] at hs ⊢;exact .step s s' hs k
  exact .step i _ (fun s=>s∈L1) (fun s=>s∈L1) (fun s=>s∈Kd st (t.getD i 0) L1) _ e a c hB a (oM hv _ b) (kq hv t f (i+1) _ (IX.Kd hv _ b) (by omega) (by omega))
theorem gJ{st:List Nd}(hv:bw st=G)(t:List Nat):LM (gK st) t (df st t):=by
 unfold df;rw[ps_ hv];refine Mu.Qb (wL st) ?_;have:=kq hv t (t.length+1) 0 [] (IX.nil _) (bO _) (by omega)
 simpa using this
theorem cz{l r:List Nd}{n:Nat}(h:n<l.length):nd (l++r) n=nd l n:=by grind [nd]
theorem dh(l:List Nd)(x:Nd):nd (l++[x]) l.length=x:=by simp[nd]
def dt(l:List Nd):Nat->Nat->Nat->List Nd->List Nd×Nat
 |0,_,x,S=>(S,x)
 |f+1,n,x,S=>
  if(nd l n).IF=2 then(S++[⟨1,x,0,(nd l n).set⟩],S.length)
  else if(nd l n).IF=8 then(S++[⟨3,x,0,0⟩],S.length)
  else if(nd l n).IF=9 then(S++[⟨4,x,0,0⟩],S.length)
  else if(nd l n).IF=3 then dt l f (nd l n).left.toNat (dt l f (nd l n).right.toNat x S).2 (dt l f (nd l n).right.toNat x S).1
  else if(nd l n).IF=4 then
   ((dt l f (nd l n).right.toNat x (dt l f (nd l n).left.toNat x S).1).1++[⟨2,(dt l f (nd l n).left.toNat x S).2,(dt l f (nd l n).right.toNat x (dt l f (nd l n).left.toNat x S).1).2,0⟩],
    (dt l f (nd l n).right.toNat x (dt l f (nd l n).left.toNat x S).1).1.length)
  else if(nd l n).IF=7 then((dt l f (nd l n).left.toNat x S).1++[⟨2,(dt l f (nd l n).left.toNat x S).2,x,0⟩],(dt l f (nd l n).left.toNat x S).1.length)
  else if(nd l n).IF=5\/(nd l n).IF=6 then
   ((dt l f (nd l n).left.toNat S.length (S++[⟨2,0,x,0⟩])).1.set S.length ⟨2,(dt l f (nd l n).left.toNat S.length (S++[⟨2,0,x,0⟩])).2,x,0⟩,
    if(nd l n).IF=6 then(dt l f (nd l n).left.toNat S.length (S++[⟨2,0,x,0⟩])).2 else S.length)
  else(S,x)
theorem mo{l:List Nd}(h:i<l.length)(x:Nd):nd (l.set i x) i=x:=by grind [nd]
theorem gx{l:List Nd}{j:Nat}(h:i≠j)(x:Nd):nd (l.set i x) j=nd l j:=by grind [nd]
theorem iJ{k b:Int}{z:Je}(h1:1<=k)(h2:k<=5)(ha:a<B)(c:k=2->0<=b/\b<B):kS B ⟨k,(a:Int),b,z⟩:=
 ⟨h1,h2,fun _=>⟨by simp only;omega,by simp only;omega⟩,c⟩
theorem sI:kS B ⟨5,0,0,0⟩:=⟨by simp,by simp,fun h=>absurd rfl h,fun h=>by simp at h⟩
structure OQ(l S:List Nd)(n x:Nat)(w:Nat)(r:List Nd×Nat):Prop where
 len:S.length<=r.1.length
 JA:r.1.length<=S.length+w
 I5:∀i,i<S.length->nd r.1 i=nd S i
 frag:KQ l (nd r.1) (fun i=>S.length<=i/\i<r.1.length) n r.2 x
 out:r.2=x\/r.2<r.1.length
 ok:∀B:Nat,r.1.length<=B->x<B->∀i,S.length<=i->i<r.1.length->kS B (nd r.1 i)
 OV:(∀y∈l,fM y.set)->(∀y∈S,fM y.set)->∀y∈r.1,fM y.set
theorem EP{l:List Nd}{n:Nat}(h:n<l.length):nd l n∈l:=by grind [nd]
theorem nt{l S:List Nd}{n:Nat}{y:Nd}(h1:KQ l (nd (S++[y])) (fun i=>S.length<=i/\i<(S++[y]).length) n S.length x)(h2:∀B:Nat,S.length+1<=B->x<B->kS B y)(d:(∀z∈l,fM z.set)->fM y.set):OQ l S n x 1 (S++[y],S.length):=by
 refine⟨by simp,by simp,fun i b=>cz b,h1,bY (by simp),fun B hB hx i c a=>?_,fun f e z hz=>?_⟩
 ·have:i=S.length:=by simp at a;omega
  subst this;rw[dh];exact h2 B (by simpa using hB) hx
 grind
theorem jl{l:List Nd}{n:Nat}(h:Sub l a n):∀(f x:Nat) (S:List Nd),n<f->OQ l S n x (n+1-a) (dt l f n x S):=by
 induction h with
 |leaf n h hk h1 h2 h3=>
  intro f x S hf;obtain⟨f,rfl⟩:∃g,f=g+1:=⟨f-1,by omega⟩
  rw[show n+1-n=1 by omega,dt]
  by_cases k2:(nd l n).IF=2
  ·rw[ps_ k2];refine nt (.set n _ x k2 ⟨bM _,by simp⟩ (by rw[dh]) (by rw[dh]) (by rw[dh])) (fun B hB hx=>iJ (by decide) (by decide) (by omega) (fun e=>absurd e (by decide))) (fun o=>o (nd l n) (EP h))
  rw[ng_ k2]
  by_cases J:(nd l n).IF=8
  ·rw[ps_ J];refine nt (.IZ n _ x J ⟨bM _,by simp⟩ (by rw[dh]) (by rw[dh])) (fun B hB hx=>iJ (by decide) (by decide) (by omega) (fun e=>absurd e (by decide))) (fun _=>et)
  rw[ng_ J]
  by_cases L:(nd l n).IF=9
  ·rw[ps_ L];refine nt (.Ja n _ x L ⟨bM _,by simp⟩ (by rw[dh]) (by rw[dh])) (fun B hB hx=>iJ (by decide) (by decide) (by omega) (fun e=>absurd e (by decide))) (fun _=>et)
  rw[ng_ L,ng_ (by omega),ng_ (by omega),ng_ (by omega),ng_ (by omega)]
  exact⟨bM _,by simp,fun _ _=>rfl,.empty n x x (by omega) (bX rfl),bX rfl,fun B _ _ i j d=>by simp only at d;omega,fun _ t=>t⟩
 |one a n h hk h1 h2 h3 hs ih=>
  intro f x S hf;obtain⟨f,rfl⟩:∃g,f=g+1:=⟨f-1,by omega⟩
  have ac:=hs.le
  have C:(nd l (n+1)).left.toNat=n:=by omega
  rw[dt,ng_ (by omega),ng_ (by omega),ng_ (by omega),ng_ (by omega),ng_ (by omega),C]
  by_cases I:(nd l (n+1)).IF=7
  ·rw[ps_ I];have m:=ih f x S (by omega)
   generalize dt l f n x S=r at *;obtain⟨R,v⟩:=r;obtain⟨m1,m2,m3,N,w,P,T⟩:=m;simp only at *;refine⟨by simp;omega,by simp;omega,fun i c=>by rw[cz (by omega)];exact m3 i c,?_,bY (by simp),fun B hB hx i j d=>?_,fun o t z hz=>?_⟩
   ·refine .P8 (n+1) n R.length v x I h1 ⟨m1,by simp⟩ (by rw[dh]) (by rw[dh]) (by rw[dh]) (N.congr (fun i c=>⟨(cz c.2).symm,c.1,by simp;omega⟩))
   ·simp at hB d
    by_cases e:i=R.length
    ·subst e;rw[dh];exact iJ (by decide) (by decide) (by rcases w with w|w<;>omega) (fun _=>⟨by omega,by omega⟩)
    rw[cz (by omega)]
    exact P B (by omega) hx i j (by omega)
   rcases Rn.mp hz with hz|hz
   ·exact T o t z hz
   simp at hz;subst hz;exact et
  rw[ng_ I,ps_ (by omega)]
  have m:=ih f S.length (S++[⟨2,0,x,0⟩]) (by omega)
  generalize dt l f n S.length (S++[⟨2,0,x,0⟩])=r at *;obtain⟨R,v⟩:=r;obtain⟨m1,m2,m3,N,w,P,T⟩:=m;simp only[bF,bG] at *;have b:nd (R.set S.length ⟨2,v,x,0⟩) S.length=⟨2,v,x,0⟩:=mo (by omega) _
  have k:KQ l (nd (R.set S.length ⟨2,v,x,0⟩)) (fun i=>S.length<=i/\i<(R.set S.length ⟨2,v,x,0⟩).length) n v S.length:=
   N.congr (fun i c=>⟨(gx (by omega) _).symm,by omega,by rw[bK];exact c.2⟩)
  have ad:v<R.length:=by rcases w with w|w<;>omega
  refine⟨by rw[bK];omega,by rw[bK];omega,fun i c=>?_,?_,bY ?_,fun B hB hx i j d=>?_,fun o t z hz=>?_⟩
  ·rw[gx (by omega),m3 i (by omega),cz c]
  ·by_cases k6:(nd l (n+1)).IF=6
   ·rw[ps_ k6];exact .plus (n+1) n v S.length x k6 h1 k ⟨bM _,by rw[bK];omega⟩ (by rw[b]) (by rw[b]) (by rw[b])
   rw[ng_ k6];exact .star (n+1) n S.length v S.length x (by omega) h1 ⟨bM _,by rw[bK];omega⟩ (by rw[b]) (by rw[b]) (by rw[b]) k (bX rfl)
  ·grind
  ·rw[bK] at hB d
   by_cases e:i=S.length
   ·subst e;rw[b];exact iJ (by decide) (by decide) (by omega) (fun _=>⟨by omega,by omega⟩)
   rw[gx (by omega)]
   exact P B hB (by omega) i (by omega) d
  rcases Sc hz with hz|hz
  ·refine T o (fun y hy=>?_) z hz
   rcases Rn.mp hy with hy|hy
   ·exact t y hy
   simp at hy;subst hy;exact et
  subst hz;exact et
 |Po a m n h hk h1 h2 h3 D F i1 i2=>
  intro f x S hf;obtain⟨f,rfl⟩:∃g,f=g+1:=⟨f-1,by omega⟩
  have aa:=D.le
  have ab:=F.le
  have C:(nd l (n+1)).left.toNat=m:=by omega
  have hR:(nd l (n+1)).right.toNat=n:=by omega
  rw[dt,ng_ (by omega),ng_ (by omega),ng_ (by omega),C,hR]
  by_cases k3:(nd l (n+1)).IF=3
  ·rw[ps_ k3];have p:=i2 f x S (by omega)
   generalize dt l f n x S=r at *;obtain⟨R,v⟩:=r;have q:=i1 f v R (by omega)
   simp only at *
   generalize dt l f m v R=r2 at *;obtain⟨R2,v2⟩:=r2;obtain⟨_,_,W,p4,s,p6,p7⟩:=p;obtain⟨q1,_,A,q4,u,q6,q7⟩:=q;simp only at *;refine⟨by simp only;omega,by simp only;omega,fun i c=>by rw[A i (by omega)];exact W i c,?_,?_,fun B hB hx i j d=>?_,fun o t=>q7 o (p7 o t)⟩
   ·exact .Qg (n+1) m n v2 v x k3 h1 h2 (q4.congr (fun i c=>⟨rfl,by omega,c.2⟩)) (p4.congr (fun i c=>⟨(A i c.2).symm,c.1,by show i<R2.length;have:=c.2;omega⟩))
   ·simp only
    rcases u with u|u
    ·rcases s with s|s
     ·exact bX (by omega)
     exact bY (by omega)
    exact bY u
   simp only at hB d
   by_cases e:i<R.length
   ·rw[A i e];exact p6 B (by omega) hx i j e
   refine q6 B hB ?_ i (by omega) d
   rcases s with s|s<;>omega
  rw[ng_ k3,ps_ (by omega)]
  have p:=i1 f x S (by omega)
  generalize dt l f m x S=r at *;obtain⟨R,v⟩:=r;have q:=i2 f x R (by omega)
  simp only at *
  generalize dt l f n x R=r2 at *;obtain⟨R2,v2⟩:=r2;obtain⟨_,_,W,p4,s,p6,p7⟩:=p;obtain⟨q1,_,A,q4,u,q6,q7⟩:=q;simp only at *;refine⟨by simp;omega,by simp;omega,fun i c=>by rw[cz (by omega),A i (by omega)];exact W i c,?_,bY (by simp),fun B hB hx i j d=>?_,fun o t z hz=>?_⟩
  ·refine .Qi (n+1) m n R2.length v v2 x x x (by omega) h1 h2 ⟨by omega,by simp⟩ (by rw[dh]) (by rw[dh]) (by rw[dh]) (p4.congr (fun i c=>⟨?_,c.1,by simp;omega⟩)) (bX rfl) (q4.congr (fun i c=>⟨(cz c.2).symm,by omega,by simp;omega⟩)) (bX rfl)
   rw[cz (by omega),A i c.2]
  ·simp at hB d
   by_cases e:i=R2.length
   ·subst e;rw[dh];exact iJ (by decide) (by decide) (by rcases s with s|s<;>omega) (fun _=>⟨by omega,by rcases u with u|u<;>omega⟩)
   rw[cz (by omega)]
   by_cases e2:i<R.length
   ·rw[A i e2];exact p6 B (by omega) hx i j e2
   exact q6 B (by omega) hx i (by omega) (by omega)
  rcases Rn.mp hz with hz|hz
  ·exact q7 o (p7 o t) z hz
  simp at hz;subst hz;exact et
def aY(l:List Nd):List Nd:=(dt l l.length (l.length-1) 1 [⟨2,0,0,0⟩,⟨5,0,0,0⟩]).1.set 0 ⟨2,(dt l l.length (l.length-1) 1 [⟨2,0,0,0⟩,⟨5,0,0,0⟩]).2,(dt l l.length (l.length-1) 1 [⟨2,0,0,0⟩,⟨5,0,0,0⟩]).2,0⟩
theorem jk{l:List Nd}(hv:bZ l=G):PG l (aY l)/\bw (aY l)=G/\(aY l).length<=l.length+2/\2<=(aY l).length/\((∀y∈l,fM y.set)->∀y∈aY l,fM y.set):=by
 have d:=iA hv
 have m:=jl (mO hv) l.length 1 [⟨2,0,0,0⟩,⟨5,0,0,0⟩] (by omega)
 unfold aY;generalize dt l l.length (l.length-1) 1 [⟨2,0,0,0⟩,⟨5,0,0,0⟩]=r at *;obtain⟨R,v⟩:=r;obtain⟨m1,m2,m3,k,c,n,o⟩:=m;simp only[List.length_cons,Sa] at *;have b:nd (R.set 0 ⟨2,v,v,0⟩) 0=⟨2,v,v,0⟩:=mo (by omega) _
 have h1:nd (R.set 0 ⟨2,v,v,0⟩) 1=⟨5,0,0,0⟩:=by rw[gx (by omega),m3 1 (by omega)];rfl
 have j:v<R.length:=by rcases c with c|c<;>omega
 refine⟨⟨fun _=>True,v,1,bY ⟨trivial,by rw[b],by rw[b],by rw[b]⟩,k.congr (fun i a=>⟨(gx (by omega) _).symm,trivial⟩),by rw[h1]⟩,?_,by rw[bK];omega,by rw[bK];omega,fun h z hz=>?_⟩
 ·refine decide_eq_true ⟨by rw[bK];omega,by rw[bK];omega,fun x hx=>?_⟩
  rw[bK];obtain⟨i,a,rfl⟩:=RU.mp hx;rw[bK] at a;have e:(R.set 0 ⟨2,v,v,0⟩)[i]'(by rw[bK];exact a)=nd (R.set 0 ⟨2,v,v,0⟩) i:=by
   unfold nd;rw[bD,bE (by rw[bK];exact a)]
   rfl
  rw[e]
  by_cases f:i=0
  ·subst f;rw[b];exact iJ (by decide) (by decide) (by omega) (fun _=>⟨by omega,by omega⟩)
  by_cases g:i=1
  ·subst g;rw[h1];exact sI
  rw[gx (by omega)]
  exact n R.length (bM _) (by omega) i (by omega) a
 rcases Sc hz with hz|hz
 ·refine o h (fun y hy=>?_) z hz
  simp at hy
  rcases hy with rfl|rfl<;>exact et
 subst hz;exact et
theorem CX:(Sz.info? 179).map (fun i=>(i.zero,i.size,i.bytes))=X (X (Rm #[Z Y 0,Z Y 0,Z Y 0,Z E 0,Z E 0,Z E 0,Z E 0]),7,56):=by kernel_rfl
theorem na{e:Sv}{s:Nat}{n:Nat}(h:IL w B e s v n xs)(hk:k<B):X k≠v.ownBlock:=by
 intro e;have:=(bU h k e.symm).1;omega
theorem CD(w:Sm)(g i:Nat)(v:Sn):w.grownBy (w.setCell ⟨g,i,V⟩ v) (X g):=⟨rfl,rfl,rfl,by simp,fun k _ hk=>aL w ⟨g,i,V⟩ k _ (fun e=>hk (by simp[e]))⟩
def Iv(An:Option Sq)(ln cn:Nat)(sv:Sn):Obj:=H #[U An ln cn,sv] 174 (0,0)
structure NB(w0 w:Sm)(B g:Nat)(An:Option Sq)(ln cn:Nat)(sv:Sn)(S:List Nd):Prop where
 I5:ID w0 w
 I2:w.heap[g]? =some (Iv An ln cn sv)
 own:IL w B 179 7 sv S.length (cR S)
 bg:w0.heap.size<=g
 lg:g<B
 lB:B<=w.heap.size
def LW(w w':Sm)(g:Nat)(sv sv':Sn):Prop:=w.heap.size<=w'.heap.size/\∀k,k<w.heap.size->k≠g->sv.ownBlock≠X k->w'.heap[k]? =w.heap[k]?/\sv'.ownBlock≠X k
theorem LW.trans{a b c:Sm}{f j:Sn}(h:LW a b g s1 f)(k:LW b c g f j):LW a c g s1 j:=by
 refine⟨bN h.1 k.1,fun i e d hs=>?_⟩
 obtain⟨q1,l⟩:=h.2 i e d hs;obtain⟨m,n⟩:=k.2 i (RB e h.1) d l;exact⟨m.trans q1,n⟩
theorem LW.I7{a b:Sm}(h:ID a b)(g:Nat)(sv:Sn):LW a b g sv sv:=⟨h.size,fun k hk _ hs=>⟨h.out.block k hk,hs⟩⟩
theorem LW.MJ{a b c:Sm}{d:Sn}(h:ID a b)(k:LW b c g s1 d):LW a c g s1 d:=(LW.I7 h g s1).trans k
theorem LW.I2{a b:Sm}{c:Sn}(h:LW a b g s1 c){o:Obj}(hk:a.heap[k]? =X o)(d:k≠g)(hs:s1.ownBlock≠X k):b.heap[k]? =X o/\c.ownBlock≠X k:=by
 obtain⟨q1,_⟩:=h.2 k (aQ hk) d hs
 grind
theorem NB.up{ln:Nat}{S:List Nd}(h:NB w0 w B g An ln cn sv S)(a:ID w w'):NB w0 w' B g An ln cn sv S:=
 ⟨h.I5.up a,a.block h.I2,h.own.up a,h.bg,h.lg,bN h.lB a.size⟩
theorem NB.cells{ln:Nat}{S:List Nd}(h:NB w0 w B g An ln cn sv S):
  w.cell? ⟨g,0,V⟩=X (U An ln cn)/\w.cell? ⟨g,1,V⟩=X sv/\w.frozen? ⟨g,1,V⟩=O:=
 ⟨by rw[aK w g 0 _ _ _ h.I2];rfl,by rw[aK w g 1 _ _ _ h.I2];rfl,aN w g 1 _ _ h.I2⟩
theorem zg(S:List Nd)(x:Nd):cR (S++[x])=cR S++an x:=by simp[cR]
structure NF(w0:Sm)(B g ko:Nat)(An:Option Sq)(ln cn:Nat)(lv v12:Sn)(N:List Nd)(x:Nd)(b6 b7 b10:Bool)(W ww:Sm):Prop where
 base:b7=false->NB w0 ww B g An ln cn lv N/\ID W ww
 row:b6=true->b7=false->ww.heap[ko]? =some (.cells (an x).toArray 179 (0,0))
 LP:b7=true->b10=false->(w0.heap.size<=g/\g<B/\B<=ww.heap.size/\ID w0 ww/\ww.heap[g]? =some (Iv An ln cn lv)/\IL ww B 179 7 v12 (N.length+1) (cR (N++[x])))/\LW W ww g lv v12
 fin:b10=true->NB w0 ww B g An ln cn v12 (N++[x])/\LW W ww g lv v12
theorem NF.Qa{ln:Nat}{N:List Nd}{x:Nd}(h:NF w0 B g ko An ln cn lv v12 N x O O O W ww):
  NF w0 B g ww.heap.size An ln cn lv v12 N x G O O W (ww.alloc (H (an x).toArray 179)):=
 ⟨fun _=>⟨(h.base rfl).1.up ((ID.refl ww).alloc _),(h.base rfl).2.alloc _⟩,fun _ _=>aM _ _,fun e=>(by cases e),fun e=>(by cases e)⟩
theorem NF.P9{ln:Nat}{N:List Nd}{x:Nd}(h:NF w0 B g ko An ln cn lv v12 N x G O O W ww)
  (m:IL w' B 179 7 v' (N.length+1) (cR N++an x)) (b:ww.grownBy w' lv.ownBlock) (c:v'.ownBlock=lv.ownBlock\/∃j,v'.ownBlock=X j/\ww.heap.size<=j):NF w0 B g ko An ln cn lv v' N x G G O W w':=by
 have a:=(h.base rfl).1
 have d:=(h.base rfl).2
 refine⟨fun e=>(by cases e),fun _ e=>(by cases e),fun _ _=>⟨⟨a.bg,a.lg,bN a.lB b.size,IL.IU a.I5 a.own (bN a.bg (RS a.lg)) b,(b.block g (aQ a.I2) (na a.own a.lg)).trans a.I2,?_⟩,?_⟩,fun e=>(by cases e)⟩
 ·rw[zg];exact m
 refine⟨bN d.size b.size,fun k hk l f=>⟨(b.block k (RB hk d.size) (fun e=>f e.symm)).trans (d.out.block k hk),fun e=>?_⟩⟩
 rcases c with c|⟨j,hj,i⟩
 ·grind
 rw[hj] at e;injection e with e
 have:=d.size
 omega
theorem NF.O1{ln:Nat}{N:List Nd}{x:Nd}(h:NF w0 B g ko An ln cn lv v12 N x b6 G O W ww):NF w0 B g ko An ln cn lv v12 N x b6 G G W (ww.setCell ⟨g,1,V⟩ v12):=by
 obtain⟨⟨h1,h2,f,i,j,c⟩,d⟩:=h.LP rfl rfl;have l:(N++[x]).length=N.length+1:=by simp
 refine⟨fun e=>(by cases e),fun _ e=>(by cases e),fun _ e=>(by cases e),fun _=>⟨⟨i.setCell h1 _,aO ww g 1 _ _ _ j,?_,h1,h2,by simpa using f⟩,?_⟩⟩
 ·rw[l];exact bT c (CD ww g 1 _) (bY (fun e=>na c h2 e.symm))
 refine⟨by simpa using d.1,fun k hk a b=>?_⟩
 obtain⟨q1,m⟩:=d.2 k hk a b;exact⟨(aL ww ⟨g,1,V⟩ k _ (fun e=>a e)).trans q1,m⟩
def NDI(w0 W:Sm)(B g k5:Nat)(An:Option Sq)(ln cn:Nat)(lv:Sn)(N:List Nd)(x:Nd)(a:Array Bool)(c:Act)(ww:Sm):Prop:=
 ∃(b0 b1 b2 b3 b4 b b6 b7 b8 b9 b10:Bool) (ko:Nat) (v12:Sn),a=#[b0,b1,b2,b3,b4,b,b6,b7,b8,b9,b10]/\
  c={tmps:=#[M (X ⟨g,0,V⟩),Rm #[Z Y x.IF,Z Y x.left,Z Y x.right,Z E (ae x.set 0),Z E (ae x.set 1),Z E (ae x.set 2),Z E (ae x.set 3)],aR,M (X ⟨k5,0,V⟩),Z Y 0,cond b0 (M (X ⟨g,0,V⟩)) (aR),cond b1 (M (X ⟨g,0,V⟩)) (aR),cond b2 (M (X ⟨g,0,V⟩)) (aR),cond b3 (M (X ⟨g,1,V⟩)) (aR),cond b4 (lv) (aR),cond b (Rm #[Z Y x.IF,Z Y x.left,Z Y x.right,Z E (ae x.set 0),Z E (ae x.set 1),Z E (ae x.set 2),Z E (ae x.set 3)]) (aR),cond b6 (U (X ⟨ko,0,V⟩) 1 1) (aR),cond b7 (v12) (aR),cond b8 (M (X ⟨g,0,V⟩)) (aR),cond b9 (M (X ⟨g,1,V⟩)) (aR),aR,aR,aR,aR,aR,aR],defers:=[]}/\NF w0 B g ko An ln cn lv v12 N x b6 b7 b10 W ww
def Ip(w0 w:Sm)(B g:Nat)(An:Option Sq)(ln cn:Nat)(lv:Sn)(N:List Nd)(x:Nd)(e:Su)(w':Sm):Prop:=e=Rk (Z Y (N.length:Int))/\∃lv',NB w0 w' B g An ln cn lv' (N++[x])/\LW w w' g lv lv'
def yj(x:Nd):Sn:=Rm #[Z Y x.IF,Z Y x.left,Z Y x.right,Z E (ae x.set 0),Z E (ae x.set 1),Z E (ae x.set 2),Z E (ae x.set 3)]
theorem kT(w0:Sm)(B g:Nat)(An:Option Sq)(ln cn:Nat)(lv:Sn)(N:List Nd)(w:Sm)(h:NB w0 w B g An ln cn lv N)(hn:N.length<=100000)(x:Nd):
  Sr Sz 81 #[M (X ⟨g,0,V⟩),yj x] w (Ip w0 w B g An ln cn lv N x):=by
 unfold yj;obtain⟨i,lf,rt,st⟩:=x;obtain⟨q,r,rfl,z,_,_⟩:=h.own.shape;have F:=aM w (H #[Z Y i,Z Y lf,Z Y rt,Z E (ae st 0),Z E (ae st 1),Z E (ae st 2),Z E (ae st 3)] 179);have n:=(ID.refl w).alloc (H #[Z Y i,Z Y lf,Z Y rt,Z E (ae st 0),Z E (ae st 1),Z E (ae st 2),Z E (ae st 3)] 179);have I:=aJ (h.up n);have s:=aJ F;have t:=aJ n;simp only;clear h z n F;go_enter func81,ntmps81;go_upto_region 1 with fail
 generalize hW:w.alloc (H #[Z Y i,Z Y lf,Z Y rt,Z E (ae st 0),Z E (ae st 1),Z E (ae st 2),Z E (ae st 3)] 179)=W at *;have k:NF w0 B g 0 An ln cn (U q N.length r) aR N ⟨i,lf,rt,st⟩ O O O W W.drew:=⟨fun _=>⟨I.up (ID.refl W).drew,(ID.refl W).drew⟩,(fun e=>by cases e),(fun e=>by cases e),(fun e=>by cases e)⟩
 generalize P:w.heap.size=k5 at *;refine ak [([],[8,9,10]),([],[2,8,9,10,3,4,7]),([1],[3,8,9,10,4,7]),([2,1],[4,8,9,10,7]),([3,2,1],[7,8,9,10]),([],[6,8,9,10,7]),([5],[7,8,9,10]),([4,6,3,5,2,1],[8,9,10]),([0,1,2,3,4,5,6,7],[9,10]),([8,0,1,2,3,4,5,6,7],[10]),([9,7,0,1,2,3,4,5,6,8],[])] (NDI w0 W B g k5 An ln cn (U q N.length r) N ⟨i,lf,rt,st⟩) ?_ ?_ ⟨?_,?_,?_,?_,?_,?_,?_,?_,?_,?_,?_,trivial⟩
 ·exact⟨O,O,O,O,O,O,O,O,O,O,O,0,aR,rfl,rfl,k⟩
 ·rintro _ d ⟨b0,b1,b2,b3,b4,_,b6,b7,b8,b9,b10,ko,v12,l,rfl,b⟩;have m:=congrArg R8 l;simp at m;obtain⟨rfl,rfl,rfl,rfl,rfl,rfl,rfl,rfl,rfl,rfl,rfl⟩:=m;clear l;have f:=aJ (b.fin rfl);clear b k;obtain⟨A,C,rfl,_,_,_⟩:=f.1.own.shape;obtain⟨_,J,_⟩:=f.1.cells;have l:(N++[(⟨i,lf,rt,st⟩:Nd)]).length=N.length+1:=by simp
  rw[l] at J;clear l;go_wp2;go_ret;exact⟨rfl,_,f.1,LW.MJ t f.2⟩
 rotate_left 4
 ·rintro _ _ d K ⟨b0,b1,b2,b3,b4,_,b6,b7,b8,b9,b10,ko,v12,rfl,h2,b⟩ h c
  repeat obtain⟨rfl,h⟩:=h
  subst h2;have q1:=(b.base rfl).1.cells.2.1;go_simp;apply c;iterate 11 apply bW
  exact⟨ko,v12,rfl,rfl,b⟩
 ·rintro _ _ d K ⟨b0,b1,b2,b3,b4,_,b6,b7,b8,b9,b10,ko,v12,rfl,h2,b⟩ h c
  repeat obtain⟨rfl,h⟩:=h
  subst h2;have a:=(b.base rfl).2.block s;have q0:=cr_ a 0 (Z Y i);have q1:=cr_ a 1 (Z Y lf);have q2:=cr_ a 2 (Z Y rt);have q3:=cr_ a 3 (Z E (ae st 0));have q4:=cr_ a 4 (Z E (ae st 1));have q5:=cr_ a 5 (Z E (ae st 2));have q6:=cr_ a 6 (Z E (ae st 3));clear a;go_simp;apply c;iterate 11 apply bW
  exact⟨ko,v12,rfl,rfl,b⟩
 ·rintro _ _ d K ⟨b0,b1,b2,b3,b4,_,b6,b7,b8,b9,b10,ko,v12,rfl,h2,b⟩ h c
  repeat obtain⟨rfl,h⟩:=h
  subst h2;go_simp;apply c;iterate 11 apply bW
  exact⟨d.heap.size,v12,rfl,rfl,b.Qa⟩
 ·rintro _ _ d K ⟨b0,b1,b2,b3,b4,_,b6,b7,b8,b9,b10,ko,v12,rfl,h2,b⟩ h c
  repeat obtain⟨rfl,h⟩:=h
  subst h2;have D:=(b.base rfl).1;have p:=b.row rfl rfl;refine eY d (by rfl) _ _ 112 (by rfl) B 179 (Rm #[Z Y 0,Z Y 0,Z Y 0,Z E 0,Z E 0,Z E 0,Z E 0]) 7 56 underlying112 CX rfl (by decide) (by decide) (U q N.length r) N.length (cR N) (by rfl) D.own (X ⟨ko,0,V⟩) 1 1 (an ⟨i,lf,rt,st⟩) (by rfl) (bY ⟨ko,0,rfl,fun j u R=>by rw[Rq,aK d ko j _ _ _ p,RT];exact R⟩) rfl rfl (by omega) D.lB ?_
  intro v' w' n L y;apply c;iterate 11 apply bW
  exact⟨ko,v',rfl,rfl,b.P9 n L y⟩
 rotate_left 2
 ·rintro _ _ d K ⟨b0,b1,b2,b3,b4,_,b6,b7,b8,b9,b10,ko,v12,rfl,h2,b⟩ h c
  repeat obtain⟨rfl,h⟩:=h
  subst h2;obtain⟨⟨_,_,_,_,a,o⟩,_⟩:=b.LP rfl rfl;obtain⟨A,C,rfl,_,_,_⟩:=o.shape;have T:d.frozen? ⟨g,1,V⟩=O:=aN d g 1 _ _ a;have S:=cr_ a 1 (U q N.length r);clear a o;go_simp;exact c _ _ ⟨G,G,G,G,G,G,G,G,G,G,G,ko,U A (N.length+1) C,rfl,rfl,b.O1⟩
 all_goals
  rintro _ _ d K ⟨b0,b1,b2,b3,b4,_,b6,b7,b8,b9,b10,ko,v12,rfl,h2,b⟩ h c
  repeat obtain⟨rfl,h⟩:=h
  subst h2;go_simp;apply c;iterate 11 apply bW
  exact⟨ko,v12,rfl,rfl,b⟩
def FN(w0 w:Sm)(B g:Nat)(An:Option Sq)(ln cn:Nat)(lv:Sn)(r:List Nd×Nat)(e:Su)(w':Sm):Prop:=e=Rk (Z Y (r.2:Int))/\∃lv',NB w0 w' B g An ln cn lv' r.1/\LW w w' g lv lv'
def M6(w:Sm)(k:Nat)(x:Nd):Prop:=w.heap[k]? =X (H (an x).toArray 279 (0,0))
theorem M6.cells{x:Nd}(h:M6 w k x):w.cell? ⟨k,0,V⟩=X (Z Y x.IF)/\w.cell? ⟨k,1,V⟩=X (Z Y x.left)/\w.cell? ⟨k,2,V⟩=X (Z Y x.right)/\
  w.cell? ⟨k,3,V⟩=X (Z E (ae x.set 0))/\w.cell? ⟨k,4,V⟩=X (Z E (ae x.set 1))/\w.cell? ⟨k,5,V⟩=X (Z E (ae x.set 2))/\w.cell? ⟨k,6,V⟩=X (Z E (ae x.set 3)):=
 ⟨by rw[aK w k 0 _ _ _ h];rfl,by rw[aK w k 1 _ _ _ h];rfl,by rw[aK w k 2 _ _ _ h];rfl,by rw[aK w k 3 _ _ _ h];rfl,by rw[aK w k 4 _ _ _ h];rfl,by rw[aK w k 5 _ _ _ h];rfl,by rw[aK w k 6 _ _ _ h];rfl⟩
theorem uE:∀(l:List Nd) (j:Nat) (x x':Nd) (i:Nat) (v:Sn),l[j]? =X x->i<7->(an x).set i v=an x'->(cR l).set (j*7+i) v=cR (l.set j x')
 |[],j,x,x',i,v,h,_,_=>by simp at h
 |a::l,0,x,x',i,v,h,b,hv=>by
  simp at h;subst h
  have e:∀(a:Nd) l,cR (a::l)=an a++cR l:=fun _ _=>rfl
  rw[Sd,e,e,<-hv,RD,Rq,List.set_append_left _ _ (by simpa [an] using b)]
 |a::l,j+1,x,x',i,v,h,b,hv=>by
  have ih:=uE l j x x' i v (by simpa using h) b hv
  have e:∀(a:Nd) l,cR (a::l)=an a++cR l:=fun _ _=>rfl
  have c:(an a).length=7:=rfl
  rw[List.set_cons_succ,e,e,Se _ _ (by rw[c];omega),c,show(j+1)*7+i-7=j*7+i by omega,ih]
theorem NB.Ot{ln d c:Nat}{S:List Nd}{x x':Nd}(h:NB w0 w B g An ln cn (U (X ⟨a,0,V⟩) S.length d) S)(hx:S[i]? =X x)(v:Sn)(hc:c<7)(hv:(an x).set c v=an x'):
  NB w0 (w.setCell ⟨a,i*7+c,V⟩ v) B g An ln cn (U (X ⟨a,0,V⟩) S.length d) (S.set i x')/\LW w (w.setCell ⟨a,i*7+c,V⟩ v) g (U (X ⟨a,0,V⟩) S.length d) (U (X ⟨a,0,V⟩) S.length d):=by
 obtain⟨h1,h2⟩:=h.own.Nh (i*7+c) v;rw[uE S i x x' c v hx hc hv] at h1;have f:B<=a:=(bU h.own a rfl).1;have hne:a≠g:=by have:=h.lg;omega
 refine⟨⟨h.I5.setCell (by have:=h.bg;have:=h.lg;simp only;omega) _,?_,by rw[bK];exact h1,h.bg,h.lg,by simpa using h.lB⟩,?_⟩
 ·rw[aL w ⟨a,i*7+c,V⟩ g v (fun e=>hne e.symm)]
  exact h.I2
 refine⟨by simp,fun k hk j b=>⟨aL w ⟨a,i*7+c,V⟩ k v (fun e=>b (by rw[e];rfl)),b⟩⟩
theorem NB.fresh{ln:Nat}{S:List Nd}(h:NB w0 w B g An ln cn sv S):w.heap.size≠g/\sv.ownBlock≠X w.heap.size:=
 ⟨by have:=h.lg;have:=h.lB;omega,fun e=>by have:=(bU h.own _ e).2;omega⟩
theorem LW.nd{a b:Sm}{d:Sn}{x:Nd}(h:LW a b g s1 d)(hk:M6 a k x)(c:k≠g/\s1.ownBlock≠X k):M6 b k x/\(k≠g/\d.ownBlock≠X k):=by
 obtain⟨q1,e⟩:=h.I2 hk c.1 c.2;exact⟨q1,c.1,e⟩
theorem CG(w0:Sm)(B g:Nat)(An:Option Sq)(cn:Nat)(l:List Nd)(hr:Rs w0 An (cR l))(hl:l.length<=256)(aO:∀x∈l,fM x.set){n:Nat}(hs:Sub l a n):
  ∀(f x:Nat) (S:List Nd) (lv:Sn) (w:Sm),n<f->S.length+(n+1-a)<=1000->x<=1000->NB w0 w B g An l.length cn lv S->
  Sr Sz 82 #[M (X ⟨g,0,V⟩),Z Y (n:Int),Z Y (x:Int)] w (FN w0 w B g An l.length cn lv (dt l f n x S)):=by
 have HR:=aJ hr
 clear hr hl aO
 induction hs with
 |leaf n h hk h1 h2 h3=>
  intro f x S lv w hf hsz af hb;obtain⟨f,rfl⟩:∃g,f=g+1:=⟨f-1,by omega⟩
  have hP:dt l (f+1) n x S=if(nd l n).IF=2 then(S++[⟨1,x,0,(nd l n).set⟩],S.length) else if(nd l n).IF=8 then(S++[⟨3,x,0,0⟩],S.length) else if(nd l n).IF=9 then(S++[⟨4,x,0,0⟩],S.length) else(S,x):=by
   rw[dt,ng_ (show¬(nd l n).IF=3 by omega),ng_ (show¬(nd l n).IF=4 by omega),ng_ (show¬(nd l n).IF=7 by omega),ng_ (show¬((nd l n).IF=5\/(nd l n).IF=6) by omega)]
  have HP:=aJ hP
  have i:Hid (S.length<=100000):=aJ (by omega)
  clear hP hf h1 h2 h3;have HB:=aJ hb;have hx:l[n]? =X (nd l n):=by unfold nd;rw[bD,bE h];rfl
  obtain⟨b,off,rfl,ay,d⟩:=(HR.up hb.I5).at_ (by rw[aX];omega)
  have I:=cf l n _ hx
  have c0:=d _ _ (I 0 (by omega))
  have c1:=d _ _ (I 1 (by omega))
  have c2:=d _ _ (I 2 (by omega))
  have c3:=d _ _ (I 3 (by omega))
  have c4:=d _ _ (I 4 (by omega))
  have c5:=d _ _ (I 5 (by omega))
  have c6:=d _ _ (I 6 (by omega))
  rw[<-RE] at c0 c1 c2 c3 c4 c5 c6;rw[Rx] at c0;obtain⟨e0,e1,_⟩:=hb.cells;have i0:(0:Int)<=((n:Nat):Int):=by omega
  have i1:((n:Nat):Int)<(l.length:Int):=by omega
  clear hx I d ay hb;generalize nd l n=y at *;obtain⟨T,lf,rt,st⟩:=y;simp only at hk HP
  replace c0:w.cell? ⟨b,off+n*7,V⟩=X (Z Y T):=c0
  replace c1:w.cell? ⟨b,off+n*7+1,V⟩=X (Z Y lf):=c1
  replace c2:w.cell? ⟨b,off+n*7+2,V⟩=X (Z Y rt):=c2
  replace c3:w.cell? ⟨b,off+n*7+3,V⟩=X (Z E (ae st 0)):=c3
  replace c4:w.cell? ⟨b,off+n*7+4,V⟩=X (Z E (ae st 1)):=c4
  replace c5:w.cell? ⟨b,off+n*7+5,V⟩=X (Z E (ae st 2)):=c5
  replace c6:w.cell? ⟨b,off+n*7+6,V⟩=X (Z E (ae st 3)):=c6
  go_enter func82,ntmps82
  go_upto_region 2 with fail
  have F:M6 (w.alloc (H (an ⟨T,lf,rt,st⟩).toArray 279)) w.heap.size ⟨T,lf,rt,st⟩:=aM w _
  have o:=aJ ((ID.refl w).alloc (H (an ⟨T,lf,rt,st⟩).toArray 279))
  have s:=aJ (HB.up o)
  generalize ad:w.alloc (H #[Z Y T,Z Y lf,Z Y rt,Z E (ae st 0),Z E (ae st 1),Z E (ae st 2),Z E (ae st 3)] 279)=W;have N:w.alloc (H (an ⟨T,lf,rt,st⟩).toArray 279)=W:=ad;rw[N] at F o s;clear ad N c0 c1 c2 c3 c4 c5 c6 e0 e1 HB;obtain⟨d0,d1,d2,d3,d4,d5,d6⟩:=F.cells;simp only at d0 d1 d2 d3 d4 d5 d6;have HK:=aJ F;clear F;generalize w.heap.size=k7 at *;rcases hk with rfl|rfl|rfl|rfl
  ·have HE:Hid (dt l (f+1) n x S=(S,x)):=aJ (by rw[HP.out];rfl)
   clear HP;go_wp2;go_ret;rw[HE.out];exact⟨rfl,lv,s,LW.I7 o g lv⟩
  ·have HE:Hid (dt l (f+1) n x S=(S++[⟨1,x,0,st⟩],S.length)):=aJ (by rw[HP.out];rfl)
   have D:=kT w0 B g (X ⟨b,off,V⟩) l.length cn lv S W s i ⟨1,x,0,st⟩
   unfold yj at D;have t:=aJ D;go_wp2_with fail;refine(t).mono ?_;rintro e w2 ⟨rfl,q,p,k⟩;have ag:=aJ p;have A:=aJ k;go_wp2;go_ret;rw[HE.out];exact⟨rfl,q,ag,LW.MJ o A⟩
  ·have HE:Hid (dt l (f+1) n x S=(S++[⟨3,x,0,0⟩],S.length)):=aJ (by rw[HP.out];rfl)
   have D:=kT w0 B g (X ⟨b,off,V⟩) l.length cn lv S W s i ⟨3,x,0,0⟩
   unfold yj at D;simp only[cF] at D;have t:=aJ D;go_wp2_with fail;refine(t).mono ?_;rintro e w2 ⟨rfl,q,p,k⟩;have ag:=aJ p;have A:=aJ k;go_wp2;go_ret;rw[HE.out];exact⟨rfl,q,ag,LW.MJ o A⟩
  have HE:Hid (dt l (f+1) n x S=(S++[⟨4,x,0,0⟩],S.length)):=aJ (by rw[HP.out];rfl)
  have D:=kT w0 B g (X ⟨b,off,V⟩) l.length cn lv S W s i ⟨4,x,0,0⟩
  unfold yj at D;simp only[cF] at D;have t:=aJ D;go_wp2_with fail;refine(t).mono ?_;rintro e w2 ⟨rfl,q,p,k⟩;have ag:=aJ p;have A:=aJ k;go_wp2;go_ret;rw[HE.out];exact⟨rfl,q,ag,LW.MJ o A⟩
 |one a n h hk h1 h2 h3 hs ih=>
  intro f x S lv w hf hsz af hb;obtain⟨f,rfl⟩:∃g,f=g+1:=⟨f-1,by omega⟩
  have aR:=hs.le
  have hL:(nd l (n+1)).left.toNat=n:=by omega
  have hP:dt l (f+1) (n+1) x S=if(nd l (n+1)).IF=7 then((dt l f n x S).1++[⟨2,(dt l f n x S).2,x,0⟩],(dt l f n x S).1.length) else((dt l f n S.length (S++[⟨2,0,x,0⟩])).1.set S.length ⟨2,(dt l f n S.length (S++[⟨2,0,x,0⟩])).2,x,0⟩,if(nd l (n+1)).IF=6 then(dt l f n S.length (S++[⟨2,0,x,0⟩])).2 else S.length):=by
   rw[dt,ng_ (show¬(nd l (n+1)).IF=2 by omega),ng_ (show¬(nd l (n+1)).IF=8 by omega),ng_ (show¬(nd l (n+1)).IF=9 by omega),ng_ (show¬(nd l (n+1)).IF=3 by omega),ng_ (show¬(nd l (n+1)).IF=4 by omega),hL]
   by_cases k7:(nd l (n+1)).IF=7
   ·rw[ps_ k7,ps_ k7]
   rw[ng_ k7,ng_ k7,ps_ (by omega)]
  have HP:=aJ hP
  have av:=aJ ih
  have aw:=aJ (fun x S=>jl hs f x S (by omega))
  have i:Hid (S.length+(n+1+1-a)<=1000):=aJ hsz
  have z:Hid (n<f):=aJ (by omega)
  have H1:=aJ h1
  have HB:=aJ hb
  have hx:l[(n+1)]? =X (nd l (n+1)):=by unfold nd;rw[bD,bE h];rfl
  obtain⟨b,off,rfl,ay,d⟩:=(HR.up hb.I5).at_ (by rw[aX];omega)
  have I:=cf l (n+1) _ hx
  have c0:=d _ _ (I 0 (by omega))
  have c1:=d _ _ (I 1 (by omega))
  have c2:=d _ _ (I 2 (by omega))
  have c3:=d _ _ (I 3 (by omega))
  have c4:=d _ _ (I 4 (by omega))
  have c5:=d _ _ (I 5 (by omega))
  have c6:=d _ _ (I 6 (by omega))
  rw[<-RE] at c0 c1 c2 c3 c4 c5 c6;rw[Rx] at c0;obtain⟨e0,e1,_⟩:=hb.cells;have i0:(0:Int)<=(((n+1):Nat):Int):=by omega
  have i1:(((n+1):Nat):Int)<(l.length:Int):=by omega
  have ah:=aJ hb.fresh
  generalize nd l (n+1)=y at *;obtain⟨T,lf,rt,st⟩:=y;simp only at hk HP
  replace c0:w.cell? ⟨b,off+(n+1)*7,V⟩=X (Z Y T):=c0
  replace c1:w.cell? ⟨b,off+(n+1)*7+1,V⟩=X (Z Y lf):=c1
  replace c2:w.cell? ⟨b,off+(n+1)*7+2,V⟩=X (Z Y rt):=c2
  replace c3:w.cell? ⟨b,off+(n+1)*7+3,V⟩=X (Z E (ae st 0)):=c3
  replace c4:w.cell? ⟨b,off+(n+1)*7+4,V⟩=X (Z E (ae st 1)):=c4
  replace c5:w.cell? ⟨b,off+(n+1)*7+5,V⟩=X (Z E (ae st 2)):=c5
  replace c6:w.cell? ⟨b,off+(n+1)*7+6,V⟩=X (Z E (ae st 3)):=c6
  go_enter func82,ntmps82
  go_upto_region 2 with fail
  have F:M6 (w.alloc (H (an ⟨T,lf,rt,st⟩).toArray 279)) w.heap.size ⟨T,lf,rt,st⟩:=aM w _
  have o:=aJ ((ID.refl w).alloc (H (an ⟨T,lf,rt,st⟩).toArray 279))
  have s:=aJ (HB.up o)
  generalize ad:w.alloc (H #[Z Y T,Z Y lf,Z Y rt,Z E (ae st 0),Z E (ae st 1),Z E (ae st 2),Z E (ae st 3)] 279)=W;have N:w.alloc (H (an ⟨T,lf,rt,st⟩).toArray 279)=W:=ad;rw[N] at F o s;obtain⟨d0,d1,d2,d3,d4,d5,d6⟩:=F.cells;simp only at d0 d1 d2 d3 d4 d5 d6;have HK:=aJ F;generalize w.heap.size=k7 at *;have h1:lf=(n:Int):=H1;subst h1;rcases hk with rfl|rfl|rfl
  ·have ac:Hid (∀R v,dt l f n S.length (S++[⟨2,0,x,0⟩])=(R,v)->dt l (f+1) (n+1) x S=(R.set S.length ⟨2,v,x,0⟩,S.length)):=aJ (fun R v e=>by rw[HP.out,e];rfl)
   have D:=kT w0 B g (X ⟨b,off,V⟩) l.length cn lv S W s (by have:=i.out;omega) ⟨2,0,x,0⟩
   unfold yj at D;simp only[cF] at D;have t:=aJ D;go_wp2_with fail;refine(t).mono ?_;rintro e w2 ⟨rfl,q,p,k⟩;have hm:=aw S.length (S++[⟨2,0,x,0⟩]);have HC:=av.out f S.length (S++[⟨2,0,x,0⟩]) q w2 z (by have:=i.out;rw[bF,bG];omega) (by have:=i.out;omega) p
   obtain⟨hk2,P⟩:=k.nd HK ah;have A:=aJ k;have aj:=aJ hk2;have ai:=aJ P;have he:=ac.out;generalize dt l f n S.length (S++[⟨2,0,x,0⟩])=r at *;obtain⟨R,v⟩:=r;have HE:=aJ (he R v rfl);have HM:=aJ hm;have J:=aJ HC;obtain⟨_,d1,_⟩:=aj.cells;simp only at d1;go_wp2_with fail;refine(J).mono ?_;rintro e w3 ⟨rfl,ar,C,L⟩;have au:S.length+1<=R.length:=by have h5:=HM.len;rw[bF,bG] at h5;exact h5
   obtain⟨_,_,rfl,_,_,_,_⟩:=C.own.form (show 0<R.length by omega)
   have aq:R[S.length]? =X ⟨2,0,x,0⟩:=by
    have h5:=HM.out.I5 S.length (by simp)
    have h6:nd R S.length=nd (S++[⟨2,0,x,0⟩]) S.length:=h5
    rw[dh] at h6;unfold nd at h6;have ap:S.length<R.length:=au;rw[bD,bE ap] at h6;rw[bE ap];exact congrArg X h6
   obtain⟨q1,q2⟩:=C.own.cellAt (j:=S.length*7+1) (u:=Z Y 0) (by rw[cf R S.length _ aq 1 (by omega)];rfl)
   obtain⟨ax,al⟩:=C.Ot aq (x':=⟨2,v,x,0⟩) (Z Y (v:Int)) (c:=1) (by omega) rfl
   obtain⟨_,e1,_⟩:=C.cells;obtain⟨az,ao⟩:=L.nd aj ai;obtain⟨aA,_⟩:=al.nd az ao;obtain⟨d0,_⟩:=aA.cells;simp only at d0;have j0:(0:Int)<=(S.length:Int):=by omega
   have j1:(S.length:Int)<(R.length:Int):=by omega
   have aa:=aJ ax
   have ab:=aJ (LW.MJ o (A.trans (L.trans al)))
   go_wp2
   go_ret;rw[HE.out];exact⟨rfl,_,aa,ab⟩
  ·have ac:Hid (∀R v,dt l f n S.length (S++[⟨2,0,x,0⟩])=(R,v)->dt l (f+1) (n+1) x S=(R.set S.length ⟨2,v,x,0⟩,v)):=aJ (fun R v e=>by rw[HP.out,e];rfl)
   have D:=kT w0 B g (X ⟨b,off,V⟩) l.length cn lv S W s (by have:=i.out;omega) ⟨2,0,x,0⟩
   unfold yj at D;simp only[cF] at D;have t:=aJ D;go_wp2_with fail;refine(t).mono ?_;rintro e w2 ⟨rfl,q,p,k⟩;have hm:=aw S.length (S++[⟨2,0,x,0⟩]);have HC:=av.out f S.length (S++[⟨2,0,x,0⟩]) q w2 z (by have:=i.out;rw[bF,bG];omega) (by have:=i.out;omega) p
   obtain⟨hk2,P⟩:=k.nd HK ah;have A:=aJ k;have aj:=aJ hk2;have ai:=aJ P;have he:=ac.out;generalize dt l f n S.length (S++[⟨2,0,x,0⟩])=r at *;obtain⟨R,v⟩:=r;have HE:=aJ (he R v rfl);have HM:=aJ hm;have J:=aJ HC;obtain⟨_,d1,_⟩:=aj.cells;simp only at d1;go_wp2_with fail;refine(J).mono ?_;rintro e w3 ⟨rfl,ar,C,L⟩;have au:S.length+1<=R.length:=by have h5:=HM.len;rw[bF,bG] at h5;exact h5
   obtain⟨_,_,rfl,_,_,_,_⟩:=C.own.form (show 0<R.length by omega)
   have aq:R[S.length]? =X ⟨2,0,x,0⟩:=by
    have h5:=HM.out.I5 S.length (by simp)
    have h6:nd R S.length=nd (S++[⟨2,0,x,0⟩]) S.length:=h5
    rw[dh] at h6;unfold nd at h6;have ap:S.length<R.length:=au;rw[bD,bE ap] at h6;rw[bE ap];exact congrArg X h6
   obtain⟨q1,q2⟩:=C.own.cellAt (j:=S.length*7+1) (u:=Z Y 0) (by rw[cf R S.length _ aq 1 (by omega)];rfl)
   obtain⟨ax,al⟩:=C.Ot aq (x':=⟨2,v,x,0⟩) (Z Y (v:Int)) (c:=1) (by omega) rfl
   obtain⟨_,e1,_⟩:=C.cells;obtain⟨az,ao⟩:=L.nd aj ai;obtain⟨aA,_⟩:=al.nd az ao;obtain⟨d0,_⟩:=aA.cells;simp only at d0;have j0:(0:Int)<=(S.length:Int):=by omega
   have j1:(S.length:Int)<(R.length:Int):=by omega
   have aa:=aJ ax
   have ab:=aJ (LW.MJ o (A.trans (L.trans al)))
   go_wp2
   go_ret;rw[HE.out];exact⟨rfl,_,aa,ab⟩
  have hm:=aw x S
  have HC:=av.out f x S lv W z (by have:=i.out;omega) af s
  have HE:Hid (dt l (f+1) (n+1) x S=((dt l f n x S).1++[⟨2,(dt l f n x S).2,x,0⟩],(dt l f n x S).1.length)):=aJ (by rw[HP.out];rfl)
  generalize dt l f n x S=r at *;obtain⟨R,v⟩:=r;have HM:=aJ hm;have J:=aJ HC;go_wp2_with fail;refine(J).mono ?_;rintro e w2 ⟨rfl,q,p,k⟩;have D:=kT w0 B g (X ⟨b,off,V⟩) l.length cn q R w2 p (by have h5:=HM.out.JA;have:=i.out;have h6:R.length<=S.length+(n+1-a):=h5;omega) ⟨2,v,x,0⟩
  unfold yj at D;simp only[cF] at D;have t:=aJ D;have A:=aJ k;go_wp2_with fail;refine(t).mono ?_;rintro e w9 ⟨rfl,aB,ak,am⟩;have aa:=aJ ak;have ab:=aJ am;go_wp2;go_ret;rw[HE.out];exact⟨rfl,aB,aa,LW.MJ o (A.trans ab)⟩
 |Po a m n h hk h1 h2 h3 aF aG i1 i2=>
  intro f x S lv w hf hsz af hb;obtain⟨f,rfl⟩:∃g,f=g+1:=⟨f-1,by omega⟩
  have aP:=aF.le
  have aQ:=aG.le
  have hL:(nd l (n+1)).left.toNat=m:=by omega
  have hR:(nd l (n+1)).right.toNat=n:=by omega
  have hP:dt l (f+1) (n+1) x S=if(nd l (n+1)).IF=3 then dt l f m (dt l f n x S).2 (dt l f n x S).1 else((dt l f n x (dt l f m x S).1).1++[⟨2,(dt l f m x S).2,(dt l f n x (dt l f m x S).1).2,0⟩],(dt l f n x (dt l f m x S).1).1.length):=by
   rw[dt,ng_ (show¬(nd l (n+1)).IF=2 by omega),ng_ (show¬(nd l (n+1)).IF=8 by omega),ng_ (show¬(nd l (n+1)).IF=9 by omega),hL,hR]
   by_cases k7:(nd l (n+1)).IF=3
   ·rw[ps_ k7,ps_ k7]
   rw[ng_ k7,ng_ k7,ps_ (by omega)]
  have HP:=aJ hP
  have aC:=aJ i1
  have aD:=aJ i2
  have aL:=aJ (fun x S=>jl aF f x S (by omega))
  have aE:=aJ (fun x S=>jl aG f x S (by omega))
  have i:Hid (S.length+(n+1+1-a)<=1000):=aJ hsz
  have z:Hid (n<f/\m<f/\a<=m/\m<n):=aJ (by omega)
  have H1:=aJ h1
  have H2:=aJ h2
  have HB:=aJ hb
  have hx:l[(n+1)]? =X (nd l (n+1)):=by unfold nd;rw[bD,bE h];rfl
  obtain⟨b,off,rfl,ay,d⟩:=(HR.up hb.I5).at_ (by rw[aX];omega)
  have I:=cf l (n+1) _ hx
  have c0:=d _ _ (I 0 (by omega))
  have c1:=d _ _ (I 1 (by omega))
  have c2:=d _ _ (I 2 (by omega))
  have c3:=d _ _ (I 3 (by omega))
  have c4:=d _ _ (I 4 (by omega))
  have c5:=d _ _ (I 5 (by omega))
  have c6:=d _ _ (I 6 (by omega))
  rw[<-RE] at c0 c1 c2 c3 c4 c5 c6;rw[Rx] at c0;obtain⟨e0,e1,_⟩:=hb.cells;have i0:(0:Int)<=(((n+1):Nat):Int):=by omega
  have i1:(((n+1):Nat):Int)<(l.length:Int):=by omega
  have ah:=aJ hb.fresh
  generalize nd l (n+1)=y at *;obtain⟨T,lf,rt,st⟩:=y;simp only at hk HP
  replace c0:w.cell? ⟨b,off+(n+1)*7,V⟩=X (Z Y T):=c0
  replace c1:w.cell? ⟨b,off+(n+1)*7+1,V⟩=X (Z Y lf):=c1
  replace c2:w.cell? ⟨b,off+(n+1)*7+2,V⟩=X (Z Y rt):=c2
  replace c3:w.cell? ⟨b,off+(n+1)*7+3,V⟩=X (Z E (ae st 0)):=c3
  replace c4:w.cell? ⟨b,off+(n+1)*7+4,V⟩=X (Z E (ae st 1)):=c4
  replace c5:w.cell? ⟨b,off+(n+1)*7+5,V⟩=X (Z E (ae st 2)):=c5
  replace c6:w.cell? ⟨b,off+(n+1)*7+6,V⟩=X (Z E (ae st 3)):=c6
  go_enter func82,ntmps82
  go_upto_region 2 with fail
  have F:M6 (w.alloc (H (an ⟨T,lf,rt,st⟩).toArray 279)) w.heap.size ⟨T,lf,rt,st⟩:=aM w _
  have o:=aJ ((ID.refl w).alloc (H (an ⟨T,lf,rt,st⟩).toArray 279))
  have s:=aJ (HB.up o)
  generalize ad:w.alloc (H #[Z Y T,Z Y lf,Z Y rt,Z E (ae st 0),Z E (ae st 1),Z E (ae st 2),Z E (ae st 3)] 279)=W;have N:w.alloc (H (an ⟨T,lf,rt,st⟩).toArray 279)=W:=ad;rw[N] at F o s;obtain⟨d0,d1,d2,d3,d4,d5,d6⟩:=F.cells;simp only at d0 d1 d2 d3 d4 d5 d6;have HK:=aJ F;generalize w.heap.size=k7 at *;have h1:lf=(m:Int):=H1;have h2:rt=(n:Int):=H2;subst h1;subst h2;rcases hk with rfl|rfl
  ·have hm:=aE x S
   have HC:=fun w' (h:ID W w')=>aD f x S lv w' z.1 (by have:=i.out;have:=z.out;omega) af (s.up h)
   have ac:Hid (dt l (f+1) (n+1) x S=dt l f m (dt l f n x S).2 (dt l f n x S).1):=aJ (by rw[HP.out];rfl)
   generalize dt l f n x S=r at *;obtain⟨R,v⟩:=r;have HM:=aJ hm;have J:=aJ HC;have hv:v<=1000:=by
    have h5:R.length<=S.length+(n+1-(m+1)):=HM.JA
    have h6:v=x\/v<R.length:=HM.out.out
    have:=i
    have:=z
    omega
   have aH:=aJ (fun q w2 p=>aC f v R q w2 z.2.1 (by have h5:R.length<=S.length+(n+1-(m+1)):=HM.out.JA;have:=i.out;have:=z.out;omega) hv p)
   have HE:Hid (dt l (f+1) (n+1) x S=dt l f m v R):=ac
   have aK:Hid (M6 W.drew k7 ⟨3,(m:Int),(n:Int),st⟩):=aJ HK
   go_upto_region 10 with fail
   go_region_held3 (fun w'=>w'.cell? ⟨k7,1,V⟩=X (Z Y (m:Int))/\w'.cell? ⟨k7,2,V⟩=X (Z Y (n:Int))) (first|exact⟨d1,d2⟩|exact⟨q1,q2⟩|exact⟨q3,q4⟩) (first|(go_at_call_of 82 n;refine(J _ (ID.refl W).drew).mono ?_;rintro e w2 ⟨rfl,q,p,k⟩;obtain⟨hk2,P⟩:=k.nd aK ah;obtain⟨_,q1,q2,_⟩:=hk2.cells;simp only at q1 q2)|(go_at_call_of 82 m;refine(aH q w2 p).mono ?_;rintro e w3 ⟨rfl,ar,C,L⟩;obtain⟨_,q3,q4,_⟩:=(L.nd hk2 P).1.cells;simp only at q3 q4))
   have ak:=C
   have am:=LW.MJ (o.up (ID.refl W).drew) (k.trans L)
   have aa:=aJ ak
   have ab:=aJ am
   go_wp2
   go_ret;rw[HE.out];exact⟨rfl,ar,aa,ab⟩
  have hm:=aL x S
  have HC:=aC.out f x S lv W z.2.1 (by have:=i.out;have:=z.out;omega) af s
  have ac:Hid (dt l (f+1) (n+1) x S=((dt l f n x (dt l f m x S).1).1++[⟨2,(dt l f m x S).2,(dt l f n x (dt l f m x S).1).2,0⟩],(dt l f n x (dt l f m x S).1).1.length)):=aJ (by rw[HP.out];rfl)
  generalize dt l f m x S=r at *;obtain⟨R,v⟩:=r;have HM:=aJ hm;have J:=aJ HC;go_wp2_with fail;refine(J).mono ?_;rintro e w2 ⟨rfl,q,p,k⟩;have au:R.length<=S.length+(m+1-a):=HM.JA;have hm:=aE x R;have HC:=aD.out f x R q w2 z.1 (by have:=i.out;have:=z.out;omega) af p
  obtain⟨hk2,P⟩:=k.nd HK ah;have A:=aJ k;generalize dt l f n x R=r at *;obtain⟨R2,v2⟩:=r;have HE:Hid (dt l (f+1) (n+1) x S=(R2++[⟨2,v,v2,0⟩],R2.length)):=ac;have aN:=aJ hm;have J:=aJ HC;obtain⟨_,_,d2,_⟩:=hk2.cells;simp only at d2;go_wp2_with fail;refine(J).mono ?_;rintro e w3 ⟨rfl,ar,C,L⟩;have D:=kT w0 B g (X ⟨b,off,V⟩) l.length cn ar R2 w3 C (by have h5:R2.length<=R.length+(n+1-(m+1)):=aN.out.JA;have:=i.out;omega) ⟨2,v,v2,0⟩
  unfold yj at D;simp only[cF] at D;have t:=aJ D;have aI:=aJ L;go_wp2_with fail;refine(t).mono ?_;rintro e w9 ⟨rfl,aB,ak,am⟩;have aa:=aJ ak;have ab:=aJ am;go_wp2;go_ret;rw[HE.out];exact⟨rfl,aB,aa,LW.MJ o (A.trans (aI.trans ab))⟩
theorem lI{P:Sw}(n:Nat)(t u:Sv)(p:P.underlying t=X (.array 4 u))(hsz:∀W:Sm,(sizeOf u).run P W= .ok 1 W)(i:∀W:Sm,(isAgg u).run P W= .ok O W)
  (j:∀(x y:Int) (W:Sm),(RL n u (Z E x) (Z E y)).run P W= .ok (x==y) W) (a b c d e f g h:Int) (W:Sm):
  (RL (n+1) t (Rm #[Z E a,Z E b,Z E c,Z E d]) (Rm #[Z E e,Z E f,Z E g,Z E h])).run P W= .ok (a==e&&(b==f&&(c==g&&d==h))) W:=by
 simp only[RL,RM,run_underlying p,RF,hsz];rw[Std.Legacy.Range.forIn_eq_forIn_range'];simp only[Std.Legacy.Range.size,show(4-0+1-1)/1=4 by rfl,show List.range' 0 4 1=[0,1,2,3] by rfl,List.forIn_cons,List.forIn_nil,part,RM,i,RF,RV,if_false]
 have k0:∀(v0 v1 v2 v3:Sn),#[v0,v1,v2,v3][0*1]? =X v0:=fun _ _ _ _=>rfl
 have k1:∀(v0 v1 v2 v3:Sn),#[v0,v1,v2,v3][1*1]? =X v1:=fun _ _ _ _=>rfl
 have k2:∀(v0 v1 v2 v3:Sn),#[v0,v1,v2,v3][2*1]? =X v2:=fun _ _ _ _=>rfl
 have k3:∀(v0 v1 v2 v3:Sn),#[v0,v1,v2,v3][3*1]? =X v3:=fun _ _ _ _=>rfl
 simp only[k0,k1,k2,k3,RW,RF,j];cases k:(a==e)
 ·simp
 simp only[R5,RV,if_false,RW,RF,RM,i,j];cases l:(b==f)
 ·simp
 simp only[R5,RV,if_false,RW,RF,RM,i,j];cases m:(c==g)
 ·simp
 simp only[R5,RV,if_false,RW,RF,RM,i,j];cases o:(d==h)
 ·simp
 simp
theorem Ex(a b c d e f g h:Int)(W:Sm):(RL 10000 177 (Rm #[Z E a,Z E b,Z E c,Z E d]) (Rm #[Z E e,Z E f,Z E g,Z E h])).run Sz W= .ok (a==e&&(b==f&&(c==g&&d==h))) W:=
 lI 9999 _ _ underlying176 (fun _=>by kernel_rfl) (fun _=>by kernel_rfl) (fun x y W=>run_equalIn_int W 9998 _ E E x y underlying60) a b c d e f g h W
theorem yo(s:Je)(hs:fM s)(W:Sm):(RL 10000 177 (Rm #[Z E (ae s 0),Z E (ae s 1),Z E (ae s 2),Z E (ae s 3)]) (Rm #[Z E 0,Z E 0,Z E 0,Z E 0])).run Sz W= .ok (decide (s=0)) W:=by
 rw[Ex]
 congr 1
 rw[RA];simp only[Ru,beq_iff_eq,decide_eq_true_eq];constructor
 ·rintro⟨_,h1,h2,_⟩;refine Ch hs (by decide) (fun i a=>?_)
  rw[cF];have:i=0\/i=1\/i=2\/i=3:=by omega
  rcases this with rfl|rfl|rfl|rfl<;>omega
 rintro rfl;rw[cF,cF,cF,cF];exact⟨rfl,rfl,rfl,rfl⟩
theorem lR:(Sz.info? 3).map (fun i=>(i.zero,i.size,i.bytes))=X (X (Z Y 0),1,8):=by kernel_rfl
def iW(l:List Int):List Sn:=l.map (Rr Y)
theorem jv(l:List Int):(iW l).length=l.length:=by simp[iW]
theorem EV(k:Int)(w:Sm):Sr Sz 159 #[Z Y k] w (iN (Z Y (dG k)) w):=by
 have hk:k=1\/k=2\/k=8\/k=9\/k=3\/k=4\/k=5\/k=6\/k=7\/(k≠3/\k≠4/\k≠5/\k≠6/\k≠7/\k≠1/\k≠2/\k≠8/\k≠9):=by omega
 rcases hk with rfl|rfl|rfl|rfl|rfl|rfl|rfl|rfl|rfl|⟨n3,n4,a,b,n7,n1,n2,n8,n9⟩
 case inr.inr.inr.inr.inr.inr.inr.inr.inr=>
  have e:dG k= -1:=by unfold dG;rw[ng_ (by omega),ng_ (by omega),ng_ (by omega)]
  rw[e];have b3:(k==3)=O:=by simpa using n3
  have b4:(k==4)=O:=by simpa using n4
  have c:(k==5)=O:=by simpa using a
  have b6:(k==6)=O:=by simpa using b
  have b7:(k==7)=O:=by simpa using n7
  have b1:(k==1)=O:=by simpa using n1
  have b2:(k==2)=O:=by simpa using n2
  have b8:(k==8)=O:=by simpa using n8
  have b9:(k==9)=O:=by simpa using n9
  clear e n3 n4 a b n7 n1 n2 n8 n9;go_enter func159,ntmps159;go_wp2;go_ret;exact⟨rfl,rfl⟩
 all_goals
  go_enter func159,ntmps159
  go_wp2
  go_ret;exact⟨rfl,rfl⟩
theorem rC(l:List Int)(i:Nat):(iW l)[i]? =(l[i]?).map (Rr Y):=by simp[iW]
theorem qN(L:List Int)(h:L.length<=2):splice [Rr Y 0,Rr Y 0] 0 (iW L)=[Rr Y (L.getD 0 0),Rr Y (L.getD 1 0)]:=by
 rcases L with _|⟨a,_|⟨b,_|⟨c,L⟩⟩⟩
 ·rfl
 ·rfl
 ·rfl
 simp at h
theorem yg{b:Nat}{a:Option Sq}{rs:List Int}(h:IL W B 3 1 (U a rs.length b) rs.length (iW rs))(k:rs.length=m+q)(hc:rs.length<=b)(W':Sm)(i:ID W W'):
  0<(iW (rs.drop m)).length->∃ad,(if b=m then a else Sf (fun x=>x.add m) a)=X ad/\∀j v,(iW (rs.drop m))[j]? =X v->W'.cell? (ad.add j)=X v:=by
 intro f;rw[jv,RX] at f;obtain⟨g,c',hv,_,_,_,_⟩:=h.form (by omega)
 injection hv with hA hn' hc'
 subst hA;rw[ng_ (by omega)]
 refine⟨_,rfl,fun j v hv=>?_⟩
 have hj:(iW rs)[m+j]? =X v:=by
  rw[<-hv,rC,rC,List.getElem?_drop]
 have:=(h.cellAt (by subst hc';exact hj)).1
 have:=i.cell this
 have e:(((fun x:Sq=>x.add m) ⟨g,0,V⟩).add j)=⟨g,m+j,V⟩:=by
  by_cases c:m=0<;>by_cases d:j=0<;>simp[Addr.add,c,d]
 rw[e];exact this
def rV(w:Sm)(l:List Nd)(v ix:Sn)(wr:Sm):Prop:=
 ∃(k:Nat) (rs:List Int),ix=Z Y k/\k<=l.length/\Hid (hZ l k=X rs)/\rs.length<=k/\Hid (IL wr w.heap.size 3 1 v rs.length (iW rs))/\Hid (ID w wr)
theorem xX(A:Option Sq)(c:Nat)(l:List Nd)(w:Sm)(hr:Rs w A (cR l))(hm:l.length<=maxLen)(av:∀x∈l,fM x.set):
  Sr Sz 80 #[U A l.length c] w (jE (K (bZ l)) w):=by
 have HR:=aJ hr
 unfold maxLen at hm;clear hr
 by_cases r:l.length<=256
 ·have aq:¬(256:Int)<(l.length:Int):=by omega
  go_enter func80,ntmps80
  go_wp2
  go_loopw [3,14] (fun s3 J wr=>rV w l s3 J wr) (fun _ J _=>l.length-(intOf J).toNat)
  case atStart=>exact⟨0,[],rfl,bO _,rfl,bO _,IL.Jk _ _ _ _,ID.refl _⟩
  obtain⟨k,rs,rfl,hk,HV,_,HO,L⟩:=hrel
  by_cases ap:k<l.length
  ·obtain⟨b,off,rfl,_,g⟩:=(HR.up L).at_ (by rw[aX];omega)
   have hx:l[k]? =X (nd l k):=by unfold nd;rw[bD,bE ap];rfl
   have t:=cf l k _ hx
   obtain⟨Ar,cr,rfl,aj,C,_⟩:=HO.shape;have ak:hZ l (k+1)=iS rs k (nd l k):=by rw[hZ,HV.out]
   have p:=aJ ak
   have c0:=g _ _ (t 0 (by omega))
   have c1:=g _ _ (t 1 (by omega))
   have c2:=g _ _ (t 2 (by omega))
   have c3:=g _ _ (t 3 (by omega))
   have c4:=g _ _ (t 4 (by omega))
   have c5:=g _ _ (t 5 (by omega))
   have c6:=g _ _ (t 6 (by omega))
   rw[<-RE] at c0 c1 c2 c3 c4 c5 c6;rw[Rx] at c0;have ah:=av _ (List.mem_of_getElem? hx);have HX:=aJ hx;clear hx t g ak;generalize nd l k=x at *;obtain⟨n,lf,rt,st⟩:=x
   replace c0:wr.cell? ⟨b,off+k*7,V⟩=X (Z Y n):=c0
   replace c1:wr.cell? ⟨b,off+k*7+1,V⟩=X (Z Y lf):=c1
   replace c2:wr.cell? ⟨b,off+k*7+2,V⟩=X (Z Y rt):=c2
   replace c3:wr.cell? ⟨b,off+k*7+3,V⟩=X (Z E (ae st 0)):=c3
   replace c4:wr.cell? ⟨b,off+k*7+4,V⟩=X (Z E (ae st 1)):=c4
   replace c5:wr.cell? ⟨b,off+k*7+5,V⟩=X (Z E (ae st 2)):=c5
   replace c6:wr.cell? ⟨b,off+k*7+6,V⟩=X (Z E (ae st 3)):=c6
   have i1:(0:Int)<=(k:Int):=by omega
   have i2:(k:Int)<(l.length:Int):=by omega
   go_upto_region 7 with fail
   have a:=aM wr (H #[Z Y n,Z Y lf,Z Y rt,Z E (ae st 0),Z E (ae st 1),Z E (ae st 2),Z E (ae st 3)] 279)
   have oW:=(ID.refl wr).alloc (H #[Z Y n,Z Y lf,Z Y rt,Z E (ae st 0),Z E (ae st 1),Z E (ae st 2),Z E (ae st 3)] 279)
   generalize wr.alloc (H #[Z Y n,Z Y lf,Z Y rt,Z E (ae st 0),Z E (ae st 1),Z E (ae st 2),Z E (ae st 3)] 279)=W at *;clear c0 c1 c2 c3 c4 c5 c6;have d0:=cr_ a 0 (Z Y n);have d1:=cr_ a 1 (Z Y lf);have d2:=cr_ a 2 (Z Y rt);have d3:=cr_ a 3 (Z E (ae st 0));have d4:=cr_ a 4 (Z E (ae st 1));have d5:=cr_ a 5 (Z E (ae st 2));have d6:=cr_ a 6 (Z E (ae st 3));have z:=aJ oW;clear a oW;have ai:fM st:=ah;have hz:=fun W=>yo st ai W
   clear ah
   by_cases f:n≠2/\st≠0
   ·have n2:(n !=2)=G:=by simpa using f.1
    have n3:decide (st=0)=O:=decide_eq_false f.2
    simp only[n3] at hz;have u:Hid (bZ l=O):=aJ (by
     unfold bZ;rw[ij (k:=k+1) (m:=l.length) (by rw[p.out,iS,ps_ f]) (by omega)]
     simp)
    go_wp2
    go_ret;rw[u.out];exact⟨rfl,L.up z⟩
   have I:(n !=2)=O\/((n !=2)=G/\decide (st=0)=G):=by
    by_cases e:n=2
    ·exact bX (by simp[e])
    exact bY ⟨by simpa using e,by
     by_cases e2:st=0
     ·simp[e2]
     exact absurd ⟨e,e2⟩ f⟩
   have y:=aJ f
   clear f;have ab:=HO.up z;have S:=L.up z;have ax:=L.size;have aa:=aJ ab;have o:=aJ S;clear ab S ax HO L HR aj;generalize s:dG n=q;have hq:q<=2:=by subst s;unfold dG;split;omega;split;omega;split<;>omega
   rcases I with n2|⟨n2,n3⟩
   all_goals
    try simp only[n3] at hz
    go_upto_region 9 with fail
    go_wp2_with fail;refine(EV n _).mono ?_;rintro e _ ⟨rfl,rfl⟩
    by_cases ag:q<0
    ·have u:Hid (bZ l=O):=aJ (by
      unfold bZ;rw[ij (k:=k+1) (m:=l.length) (by rw[p.out,iS,ng_ y.out,ps_ (bX (by rw[s];exact ag))]) (by omega)]
      simp)
     go_wp2
     go_ret;rw[u.out];exact⟨rfl,o⟩
    by_cases af:(rs.length:Int)<q
    ·have u:Hid (bZ l=O):=aJ (by
      unfold bZ;rw[ij (k:=k+1) (m:=l.length) (by rw[p.out,iS,ng_ y.out,ps_ (bY (by rw[s];exact af))]) (by omega)]
      simp)
     go_wp2
     go_ret;rw[u.out];exact⟨rfl,o⟩
    obtain⟨N,rfl⟩:∃N:Nat,q=(N:Int):=⟨q.toNat,by omega⟩
    obtain⟨m,ar⟩:∃m,rs.length=m+N:=⟨rs.length-N,by omega⟩
    have j1:(0:Int)<=(m:Int):=by omega
    have j2:(m:Int)<=(rs.length:Int):=by omega
    have j3:(m:Int)<=(m:Int)+(N:Int):=by omega
    have au:N<=2:=by omega
    have hH:=aM W (H #[Z Y 0,Z Y 0] 280)
    have ac:=(ID.refl W).alloc (H #[Z Y 0,Z Y 0] 280)
    go_upto_region 14 with fail
    generalize ao:W.alloc (H #[Z Y 0,Z Y 0] 280)=W1 at *;have HH:=aJ hH;have T:=aJ ac;have d:=aJ ar;have P:=aJ C;clear hH ac ao C;go_region_law (refine step_copy_splice rfl (.tmp 43) (.tmp 46) 22 22 rfl 3 underlying22 (by kernel_rfl) _ _ _ _ _ _ rfl rfl W.heap.size 0 [Z Y 0,Z Y 0] 280 HH (iW (rs.drop m)) (by rw[jv,RX,d.out,Nat.add_sub_cancel_left];exact(Nat.min_eq_left au).symm) (fun h0=>⟨rfl,yg aa d P _ T.drew h0⟩) (by rw[jv,RX,d.out];simp;omega) (by intro v hv;obtain⟨x,_,rfl⟩:=RG.mp hv;rfl) W.heap.size W T.drew (bM _) ?_;intro w4 D ad)
    generalize (if cr=m then Ar else Sf (fun x=>x.add m) Ar)=As
    rw[qN _ (by rw[RX,d.out];omega)] at D
    have F:=D.out
    have a:ID W w4:=ad
    clear D ad;have e1:=a.cell d1;have e2:=a.cell d2;have f0:=cr_ F 0 (Z Y ((rs.drop m).getD 0 0));have f1:=cr_ F 1 (Z Y ((rs.drop m).getD 1 0));have B:Hid (∀b:Bool,b=(lf !=(rs.drop m).getD 0 0||rt !=(rs.drop m).getD 1 0)->hZ l (k+1)=if b then V else X (rs.take m++[(k:Int)])):=aJ (by
     rintro b rfl;rw[p.out,iS,ng_ y.out,ng_ (by rw[s];omega)]
     simp only[s,Int.toNat_natCast,d.out,Nat.add_sub_cancel];simp)
    generalize (rs.drop m).getD 0 0=p0 at *;generalize (rs.drop m).getD 1 0=p1 at *;have j:=aJ a;clear d0 d1 d2 d3 d4 d5 d6 F a hz p
    by_cases g0:lf=p0
    ·have b0:(lf !=p0)=O:=by simp[g0]
     by_cases g1:rt=p1
     ·have b1:(rt !=p1)=O:=by simp[g1]
      have an:Hid (hZ l (k+1)=X (rs.take m++[(k:Int)])):=aJ (by rw[B.out O (by rw[b0,b1];rfl)];rfl)
      clear g0 g1;have al:Hid (IL w4 w.heap.size 3 1 (U Ar m cr) m (iW (rs.take m))):=aJ (by
       have h:=(aa.up j).shrink (i:=m) (by rw[d.out];omega)
       rw[Nat.mul_one] at h;have e:(iW rs).take m=iW (rs.take m):=by unfold iW;rw[List.map_take]
       rw[e] at h;exact h)
      have R:Hid (ID w w4):=aJ (o.up j)
      have am:Hid (w.heap.size<=w4.heap.size):=aJ R.size
      have ay:m<=256:=by have:=d.out;omega
      have j4:(m:Int)<=(cr:Int):=by have:=d.out;have:=P.out;omega
      go_upto_region 17 with fail
      go_wp2_with (at_builtin;refine aw (wr:=w4) rfl _ _ 22 rfl _ 3 (Z Y 0) 1 8 underlying22 lR rfl (by decide) (by decide) _ _ _ rfl al 1 1 [Z Y (k:Int)] rfl rfl rfl rfl ?pn1 am ?_)
      case pn1=>omega
      intro v' w5 ho t hd;have HF:Hid (rV w l v' (Z Y ((k+1:Nat):Int)) w5):=aJ ⟨k+1,rs.take m++[(k:Int)],rfl,by omega,an,by have:=d.out;simp;omega,aJ (by
       have e:iW (rs.take m++[(k:Int)])=iW (rs.take m)++[Z Y (k:Int)]:=by unfold iW;rw[RC];rfl
       have e2:(rs.take m++[(k:Int)]).length=m+1:=by have:=d.out;simp;omega
       rw[e,e2];exact ho),aJ (hd w R (bM _))⟩
      clear ho t hd;go_wp2;go_roundw
      case rel=>exact HF
      simp[intOf];omega
     have b1:(rt !=p1)=G:=by simpa using g1
     have u:Hid (bZ l=O):=aJ (by
      unfold bZ;rw[ij (k:=k+1) (m:=l.length) (by rw[B.out G (by rw[b0,b1];rfl)];rfl) (by omega)]
      simp)
     clear g0 g1;go_wp2;go_ret;rw[u.out];exact⟨rfl,o.up j⟩
    have b0:(lf !=p0)=G:=by simpa using g0
    have u:Hid (bZ l=O):=aJ (by
     unfold bZ;rw[ij (k:=k+1) (m:=l.length) (by rw[B.out G (by rw[b0];rfl)];rfl) (by omega)]
     simp)
    clear g0;go_wp2;go_ret;rw[u.out];exact⟨rfl,o.up j⟩
  obtain rfl:k=l.length:=by omega
  obtain⟨Ar,cr,rfl,aj,C,_⟩:=HO.shape;have HE:Hid (bZ l=(rs.length==1)):=aJ (by unfold bZ;rw[HV.out,decide_eq_true r];rfl)
  go_wp2
  go_ret;rw[HE.out];exact⟨oC (by rw[RA];simp;omega),L⟩
 have aq:(256:Int)<(l.length:Int):=by omega
 have HE:Hid (bZ l=O):=aJ (by unfold bZ;rw[decide_eq_false r];rfl)
 clear r;go_enter func80,ntmps80;go_wp2;go_ret;rw[HE.out];exact⟨rfl,ID.refl _⟩
def G7(w:Sm)(l:List Nd)(e:Su)(w':Sm):Prop:=
 (bZ l=G->∃v,e=Rk (Rl #[v,Z Y 0])/\IL w' w.heap.size 179 7 v (aY l).length (cR (aY l)))/\(bZ l=O->e=Rk (Rl #[U V 0 0,Z Y 3]))/\ID w w'
theorem sQ(A:Option Sq)(c:Nat)(l:List Nd)(w:Sm)(hr:Rs w A (cR l))(hm:l.length<=maxLen)(m:∀x∈l,fM x.set):
  Sr Sz 39 #[U A l.length c] w (G7 w l):=by
 have q:=xX A c l w hr hm m
 cases hv:bZ l with
 |false=>
  rw[hv] at q;have C:=aJ q;have HE:Hid (bZ l=G->False):=aJ (by rw[hv];intro h;cases h)
  clear q hr m hm;go_enter func39,ntmps39;go_wp2_with fail;refine(C).mono ?_;rintro e V ⟨rfl,hd⟩;have S:=aJ hd;clear hd C;go_wp2;refine aP (v:=Rl #[U none 0 0,Z Y 3]) (by simp[results,results39,go_sem]) rfl ?_
  exact⟨fun h=>(HE h).elim,fun _=>rfl,S⟩
 |true=>
  rw[hv] at q;have C:=aJ q;have aa:=aJ (iA hv);have z:=aJ (mO hv);have ae:=aJ hv;have HR:=aJ hr;have B:=aJ m;clear q hr m hm hv;go_enter func39,ntmps39;go_wp2_with fail;refine(C).mono ?_;rintro e V ⟨rfl,hd⟩;have S:=aJ hd;have y:=aJ (HR.up hd);clear hd C HR;go_upto_region 4 with fail
  have F:NB V (V.alloc (H #[U A l.length c,U none 0 0] 174)) (V.heap.size+1) V.heap.size A l.length c (U none 0 0) []:=
   ⟨(ID.refl V).alloc _,aM V _,IL.Jk _ _ _ _,bM _,Nat.lt_succ_self _,by simp⟩
  have g:=kT V (V.heap.size+1) V.heap.size A l.length c (U none 0 0) [] _ F (by simp) ⟨2,0,0,0⟩
  unfold yj at g;simp only[cF] at g;have s:=aJ g;clear g F;generalize V.alloc (H #[U A l.length c,U none 0 0] 174)=W at *;go_wp2_with fail;refine(s).mono ?_;rintro e w2 ⟨rfl,ak,I,af⟩;have g:=kT V (V.heap.size+1) V.heap.size A l.length c ak [⟨2,0,0,0⟩] w2 I (by simp) ⟨5,0,0,0⟩
  unfold yj at g;simp only[cF] at g;have n:=aJ g;clear g I af s;go_wp2_with fail;refine(n).mono ?_;rintro e w3 ⟨rfl,al,J,ag⟩;have an:=aa.out;obtain⟨k,hk⟩:∃k,l.length=k+1:=⟨l.length-1,by omega⟩
  have o:l.length-1=k:=by omega
  have a:=z.out
  rw[o] at a;have HC:=CG V (V.heap.size+1) V.heap.size A c l y (by omega) B a l.length 1 [⟨2,0,0,0⟩,⟨5,0,0,0⟩] al w3 (by omega) (by simp;omega) (by omega) J
  have hm:=jl a l.length 1 [⟨2,0,0,0⟩,⟨5,0,0,0⟩] (by omega)
  have ad:Hid (aY l=(dt l l.length k 1 [⟨2,0,0,0⟩,⟨5,0,0,0⟩]).1.set 0 ⟨2,(dt l l.length k 1 [⟨2,0,0,0⟩,⟨5,0,0,0⟩]).2,(dt l l.length k 1 [⟨2,0,0,0⟩,⟨5,0,0,0⟩]).2,0⟩):=aJ (by unfold aY;rw[o])
  generalize dt l l.length k 1 [⟨2,0,0,0⟩,⟨5,0,0,0⟩]=r at *;obtain⟨R,v⟩:=r;have HM:=aJ hm;have t:=aJ HC;have am:(l.length:Int)-1=(k:Int):=by omega
  clear hm HC J ag n a y B z o;generalize l.length=L at *;subst hk;go_wp2_with fail;refine(t).mono ?_;rintro e w4 ⟨rfl,_,d,ah⟩;have ao:2<=R.length:=HM.len;have P:R[0]? =X ⟨2,0,0,0⟩:=by
   have h5:nd R 0=⟨2,0,0,0⟩:=HM.out.I5 0 (by simp)
   have N:0<R.length:=by omega
   unfold nd at h5;rw[bD,bE N] at h5;rw[bE N];exact congrArg X h5
  obtain⟨T,cb,rfl,_,_,_,_⟩:=d.own.form (show 0<R.length by omega)
  obtain⟨q1,q2⟩:=d.own.cellAt (j:=1) (u:=Z Y 0) (by have:=cf R 0 _ P 1 (by omega);rw[RD,Rq] at this;rw[this];rfl)
  obtain⟨i,ai⟩:=d.Ot P (x':=⟨2,v,0,0⟩) (Z Y (v:Int)) (c:=1) (by omega) rfl
  rw[RD,Rq] at i;obtain⟨_,D,_⟩:=d.cells;have p:(R.set 0 ⟨2,v,0,0⟩)[0]? =X ⟨2,v,0,0⟩:=Sg (by omega)
  clear d ah ai t;go_upto_region 8 with fail
  generalize w4.setCell ⟨T,1,none⟩ (Z Y (v:Int))=w5 at *;clear q1 q2 D;have f:NB V w5 (V.heap.size+1) V.heap.size A (k+1) c (U (X ⟨T,0,none⟩) (R.set 0 ⟨2,v,0,0⟩).length cb) (R.set 0 ⟨2,v,0,0⟩):=by rw[bK];exact i
  obtain⟨q1,q2⟩:=f.own.cellAt (j:=2) (u:=Z Y 0) (by have:=cf _ 0 _ p 2 (by omega);rw[RD,Rq] at this;rw[this];rfl)
  obtain⟨b,aj⟩:=f.Ot p (x':=⟨2,v,v,0⟩) (Z Y (v:Int)) (c:=2) (by omega) rfl
  rw[RD,Rq] at b;obtain⟨_,D,_⟩:=i.cells;rw[List.set_set] at b;clear i f aj p;go_upto_region 9 with fail
  generalize w5.setCell ⟨T,2,none⟩ (Z Y (v:Int))=w6 at *;clear q1 q2 D;obtain⟨_,D,_⟩:=b.cells;rw[bK] at D;have hown:=b.own;have ac:=aJ (hown.base (base':=w.heap.size) (by have:=S.out.size;omega))
  have ab:=aJ (S.up b.I5)
  clear b hown;go_wp2;refine aP (v:=Rl #[U (X ⟨T,0,none⟩) R.length cb,Z Y 0]) (by simp[results,results39,go_sem]) rfl ?_
  refine⟨fun _=>⟨_,rfl,?_⟩,fun h=>?_,ab⟩
  ·rw[ad.out];have:=ac;simp only[bK] at this ⊢;exact this
  rw[ae.out] at h;cases h
def iu:List (List Nat)->Nat->Nat
 |[],_=>0
 |c::cs,p=>if p<c.length then 0 else 1+iu cs (p-c.length)
def cT(cs:List (List Nat))(j:Nat):Nat:=(cs.take j).flatten.length
theorem tE(cs:List (List Nat))(j:Nat)(hj:j<cs.length):cT cs (j+1)=cT cs j+(cs.getD j []).length:=by
 unfold cT;rw[Sh,bE hj,List.flatten_append,bF,bD,bE hj];simp
theorem xG(cs:List (List Nat)):cT cs cs.length=cs.flatten.length:=by simp[cT]
theorem rP:∀(cs:List (List Nat)) (j k:Nat),j<cs.length->k<(cs.getD j []).length->cs.flatten.getD (cT cs j+k) 0=(cs.getD j []).getD k 0/\iu cs (cT cs j+k)=j/\cT cs j+k<cs.flatten.length
 |[],j,k,h,_=>by simp at h
 |c::cs,0,k,_,hk=>by
  have a:k<c.length:=hk
  have e:cT (c::cs) 0=0:=rfl
  rw[e,Rq,iu,ps_ a,Si];refine⟨?_,rfl,by simp;omega⟩
  rw[bD,bJ a,bD];rfl
 |c::cs,j+1,k,hj,hk=>by
  have b:j<cs.length:=by simpa using hj
  have a:k<(cs.getD j []).length:=by simpa using hk
  obtain⟨h1,h2,_⟩:=rP cs j k b a;have e:cT (c::cs) (j+1)=c.length+cT cs j:=by simp[cT]
  rw[e,Si];refine⟨?_,?_,by rw[bF];omega⟩
  ·rw[bD,R6 (by omega),show c.length+cT cs j+k-c.length=cT cs j+k by omega,<-bD,h1]
   simp
  rw[iu,ng_ (by omega),show c.length+cT cs j+k-c.length=cT cs j+k by omega,h2]
  omega
def kQ(R:Int)(cs:List (List Nat)):Int×Int:=if R=0 then(-1,0) else if R<0 then((cs.length:Int),-1) else((iu cs (R-1).toNat:Int),R)
def ES(st:List Nd)(IZ:Bool)(ch:Nat)(L:List Nat):List Nat:=if ch=10 then bv st IZ G L else L
def Hu(st:List Nd)(IZ:Bool)(ch:Nat)(L:List Nat):List Nat:=bv st (ch==10) O (ah (Kd st ch (ES st IZ ch L)) 0)
def jq(st:List Nd)(t:List Nat)(f i:Nat)(a:List Nat):Int:=
 if cw st a=G then i
 else if i=t.length then-1
 else if t.getD i 0=10 then
  if cw st (bv st (bt t i) G a)=G then(i:Int)+1 else gW st t f (i+1) (Kd st (t.getD i 0) (bv st (bt t i) G a))
 else gW st t f (i+1) (Kd st (t.getD i 0) a)
theorem uD(st:List Nd)(t:List Nat)(f i:Nat)(L:List Nat):gW st t (f+1) i L=jq st t f i (bv st (bt t i) O (ah L 0)):=rfl
theorem jV(t:List Nat)(i:Nat):bt t (i+1)=(t.getD i 0==10):=by unfold bt;simp
theorem xp{st:List Nd}{t:List Nat}{f:Nat}{R:Int}(hd:cw st L=O)(b:i<t.length)(a:jq st t (f+1) i L=R):
  (cw st (ES st (bt t i) (t.getD i 0) L)=G->R=(i:Int)+1)/\
  (cw st (ES st (bt t i) (t.getD i 0) L)=O->jq st t f (i+1) (Hu st (bt t i) (t.getD i 0) L)=R/\(cw st (Hu st (bt t i) (t.getD i 0) L)=G->R=(i:Int)+1)):=by
 unfold jq at a;rw[ng_ (by rw[hd];simp),ng_ (by omega)] at a
 have key:cw st (ES st (bt t i) (t.getD i 0) L)=O->gW st t (f+1) (i+1) (Kd st (t.getD i 0) (ES st (bt t i) (t.getD i 0) L))=R:=by
  intro h1;unfold ES at h1 ⊢
  by_cases hc:t.getD i 0=10
  ·grind
  rw[ng_ hc] at a ⊢;exact a
 refine⟨fun h1=>?_,fun h1=>?_⟩
 ·unfold ES at h1
  by_cases hc:t.getD i 0=10
  ·rw[ps_ hc] at h1 a;rw[ps_ h1] at a;exact a.symm
  rw[ng_ hc] at h1;rw[h1] at hd;cases hd
 have k:=key h1
 rw[uD,jV] at k;have k2:jq st t f (i+1) (Hu st (bt t i) (t.getD i 0) L)=R:=k;refine⟨k2,fun h2=>?_⟩
 unfold jq at k2;rw[ps_ h2] at k2;omega
theorem Ao{st:List Nd}{t:List Nat}{f:Nat}{R:Int}(hd:cw st L=O)(a:jq st t f t.length L=R):R= -1:=by grind [jq]
structure Sp where
 s:Nat
 b:Bool
 e:Bool
 deriving DecidableEq
structure Og where
 JD:Sp
 root:Bool
 over:Bool
 c:Nat
def dV(st:List Nd)(s:Nat):Nat:=(nd st s).left.toNat
def re(st:List Nd)(s:Nat):Nat:=(nd st s).right.toNat
def SE(st:List Nd)(p q:Sp):Prop:=
 ((nd st p.s).IF=2/\(q=⟨dV st p.s,p.b,p.e⟩\/q=⟨re st p.s,p.b,p.e⟩))\/((nd st p.s).IF=3/\p.b=G/\q=⟨dV st p.s,p.b,p.e⟩)\/((nd st p.s).IF=4/\q=⟨dV st p.s,p.b,G⟩)
def SB(st:List Nd)(p:Sp)(c:Nat)(q:Sp):Prop:=
 (nd st p.s).IF=1/\hasB (nd st p.s).set c=G/\c<256/\((c=10/\q=⟨dV st p.s,G,O⟩)\/(c≠10/\p.e=O/\q=⟨dV st p.s,O,O⟩))
def iE:Sp:=⟨0,G,O⟩
inductive SR (st:List Nd):List Nat->Sp->Prop
 |start:SR st [] iE
 |KX (t:List Nat) (p q:Sp):SR st t p->SE st p q->SR st t q
 |Mh (t:List Nat) (p q:Sp) (c:Nat):SR st t p->SB st p c q->SR st (t++[c]) q
def LV(st:List Nd)(t:List Nat):Prop:=
 (∃p,SR st t p/\(nd st p.s).IF=5/\p.e=O)\/∃t' p,t=t'++[10]/\SR st t' p/\(nd st p.s).IF=5/\p.e=G
def rY(st:List Nd):Option (List Nat)->Prop
 |some a=>LV st a/\(∀t,LV st t->a.length<=t.length)
 |none=>∀t,¬LV st t
theorem AC(t u:List Nat):bt (t++u) t.length=bt t t.length:=by
 unfold bt
 grind
theorem pt(t:List Nat)(c:Nat):bt (t++[c]) (t++[c]).length=(c==10):=by simp[jV]
theorem xt(t u:List Nat)(h:u.head?=X 10):gN (t++u) t.length=G:=by
 cases u with
 |nil=>simp at h
 |cons x u=>
  simp at h
  subst h;unfold gN;have e:(t++10::u).getD t.length 0=10:=by simp
  rw[e,decide_eq_true (by simp)]
  rfl
theorem SR.bytes{st:List Nd}{t:List Nat}{p:Sp}(h:SR st t p):∀x∈t,x<256:=by
 induction h with
 |start=>simp
 |KX t p q _ _ ih=>exact ih
 |Mh t p q c _ a ih=>
  intro x hx;rcases Rn.mp hx with hx|hx
  ·exact ih x hx
  simp at hx;subst hx;exact a.2.2.1
theorem LV.bytes{st:List Nd}{t:List Nat}(h:LV st t):∀x∈t,x<256:=by
 rcases h with⟨p,h,_⟩|⟨t',p,rfl,h,_⟩
 ·exact h.bytes
 intro x hx;rcases Rn.mp hx with hx|hx
 ·exact h.bytes x hx
 grind
section
variable {st : List Nd} (hv : bw st = true)
include hv
theorem SR.lt{t:List Nat}{p:Sp}(h:SR st t p):p.s<st.length:=by
 obtain⟨h1,_,b⟩:=bi hv;have key:∀p q:Sp,p.s<st.length->SE st p q->q.s<st.length:=by
  intro p q f e;obtain⟨k1,k2,k3,k4⟩:=b p.s f;rcases e with⟨a,rfl|rfl⟩|⟨a,_,rfl⟩|⟨a,rfl⟩
  ·have:=k3 (by omega);show dV st p.s<_;unfold dV;omega
  ·have:=k4 a;show re st p.s<_;unfold re;omega
  ·have:=k3 (by omega);show dV st p.s<_;unfold dV;omega
  have:=k3 (by omega);show dV st p.s<_;unfold dV;omega
 induction h with
 |start=>exact h1
 |KX t p q _ e ih=>grind
 |Mh t p q c _ d ih=>
  obtain⟨k1,k2,k3,k4⟩:=b p.s ih;have g:q.s=dV st p.s:=by rcases d.2.2.2 with⟨_,rfl⟩|⟨_,_,rfl⟩<;>rfl
  have:=k3 (by rw[d.1];decide)
  rw[g];unfold dV;omega
theorem SR.Qm{t:List Nat}{p:Sp}(h:SR st t p):p.b=bt t t.length/\∀u:List Nat,(p.e=G->u.head?=X 10)->Kh (gK st) (t++u) p.s t.length:=by
 obtain⟨_,_,l⟩:=bi hv;have k:=fun {t p} (h:SR st t p)=>SR.lt hv h
 induction h with
 |start=>exact⟨rfl,fun u _=> .start 0 (bO _)⟩
 |KX t p q r o ih=>
  obtain⟨d,f⟩:=ih;obtain⟨k1,k2,k3,k4⟩:=l p.s (k r);rcases o with⟨a,rfl|rfl⟩|⟨a,n,rfl⟩|⟨a,rfl⟩
  ·refine⟨d,fun u i=> .KX _ _ _ (f u i) (bX ⟨a,bX ?_⟩)⟩
   have:=k3 (by omega);show((dV st p.s:Nat):Int)=_;unfold dV;omega
  ·refine⟨d,fun u i=> .KX _ _ _ (f u i) (bX ⟨a,bY ?_⟩)⟩
   have:=k4 a;show((re st p.s:Nat):Int)=_;unfold re;omega
  ·refine⟨d,fun u i=> .KX _ _ _ (f u i) (bY (bX ⟨a,?_,?_⟩))⟩
   ·rw[AC,<-d];exact n
   have:=k3 (by omega);show((dV st p.s:Nat):Int)=_;unfold dV;omega
  refine⟨d,fun u i=> .KX _ _ _ (f u (fun _=>i rfl)) (bY (bY ⟨a,xt _ _ (i rfl),?_⟩))⟩
  have:=k3 (by omega);show((dV st p.s:Nat):Int)=_;unfold dV;omega
 |Mh t p q c r n ih=>
  obtain⟨d,f⟩:=ih;obtain⟨k1,k2,k3,k4⟩:=l p.s (k r);obtain⟨a,hc,_,x⟩:=n;have m:((dV st p.s:Nat):Int)=(nd st p.s).left:=by have:=k3 (by omega);unfold dV;omega
  have j:∀u:List Nat,(t++c::u).getD t.length 0=c:=fun u=>by
   rw[bD,R6 (by omega)]
   simp
  have g:∀u:List Nat,(p.e=G->c=10)->Kh (gK st) (t++[c]++u) (dV st p.s) (t++[c]).length:=by
   intro u o;have h1:=f (c::u) (fun h=>by rw[o h];rfl)
   have h2:=Kh.byte p.s (dV st p.s) t.length h1 (by simp) (by rw[j];exact⟨a,hc,m⟩)
   rw[Rt];simpa using h2
  rcases x with⟨rfl,rfl⟩|⟨hne,w,rfl⟩
  ·exact⟨by rw[pt];rfl,fun u _=>g u (fun _=>rfl)⟩
  refine⟨?_,fun u _=>g u (fun h=>by rw[w] at h;cases h)⟩
  rw[pt]
  show O=(c==10)
  simpa using hne
theorem LV.IW{t:List Nat}(h:LV st t):tN (gK st) t t.length:=by
 rcases h with⟨p,h,hk,a⟩|⟨t',p,rfl,h,hk,a⟩
 ·refine⟨p.s,t.length,?_,hk⟩;have:=(h.Qm hv).2 [] (fun h=>by rw[a] at h;cases h)
  rw[List.append_nil] at this
  rwa [R7]
 refine⟨p.s,t'.length,?_,hk⟩;have:=(h.Qm hv).2 [10] (fun _=>rfl)
 rwa [R7]
omit hv in
theorem Ej{t:List Nat}{s:Nat}(h:Kh (gK st) t s k)(u:∀x∈t,x<256):∃t' p,SR st t' p/\p.s=s/\t'.length<=k/\(bt t k=G->p.b=G)/\(p.e=G->gN t k=G):=by
 induction h with
 |start i o=>exact⟨[],iE,.start,rfl,bO _,fun _=>rfl,fun h=>by cases h⟩
 |KX s s' i r m ih=>
  obtain⟨t',p,h1,rfl,f,d,g⟩:=ih;rcases m with⟨a,n|w⟩|⟨a,j,n⟩|⟨a,j,n⟩
  ·exact⟨t',⟨dV st p.s,p.b,p.e⟩,.KX _ _ _ h1 (bX ⟨a,bX rfl⟩),by show dV st p.s=s';unfold dV;omega,f,d,g⟩
  ·exact⟨t',⟨re st p.s,p.b,p.e⟩,.KX _ _ _ h1 (bX ⟨a,bY rfl⟩),by show re st p.s=s';unfold re;omega,f,d,g⟩
  ·exact⟨t',⟨dV st p.s,p.b,p.e⟩,.KX _ _ _ h1 (bY (bX ⟨a,d j,rfl⟩)),by show dV st p.s=s';unfold dV;omega,f,d,g⟩
  exact⟨t',⟨dV st p.s,p.b,G⟩,.KX _ _ _ h1 (bY (bY ⟨a,rfl⟩)),by show dV st p.s=s';unfold dV;omega,f,d,fun _=>j⟩
 |byte s s' i r o j ih=>
  obtain⟨t',p,h1,rfl,f,d,g⟩:=ih;obtain⟨a,hc,n⟩:=j;have l:t.getD i 0<256:=by simp_all
  by_cases c:t.getD i 0=10
  ·refine⟨t'++[10],⟨dV st p.s,G,O⟩,.Mh _ _ _ _ h1 ⟨a,by rw[<-c];exact hc,by omega,bX ⟨rfl,rfl⟩⟩,by show dV st p.s=s';unfold dV;omega,by rw[bF,bG];omega,fun _=>rfl,fun h=>by cases h⟩
  have m:p.e=O:=by
   cases q:p.e with
   |false=>rfl
   |true=>
    have:=g q
    unfold gN at this;rw[Ru,beq_iff_eq] at this;exact absurd this.2 c
  refine⟨t'++[t.getD i 0],⟨dV st p.s,O,O⟩,.Mh _ _ _ _ h1 ⟨a,hc,l,bY ⟨c,m,rfl⟩⟩,by show dV st p.s=s';unfold dV;omega,by rw[bF,bG];omega,fun h=>?_,fun h=>by cases h⟩
  rw[jV,beq_iff_eq] at h;exact absurd h c
omit hv in
theorem jD{t:List Nat}{n:Nat}(i:n<=t.length)(f:∀x∈t,x<256)(h:tN (gK st) t n):∃t',LV st t'/\t'.length<=n:=by
 obtain⟨s,k,c,g⟩:=h;have hk:=c.len;rw[Ro] at hk;obtain⟨t',p,h1,h2,_,_,d⟩:=Ej c (fun x hx=>f x (List.mem_of_mem_take hx))
 have a:(nd st p.s).IF=5:=by rw[h2];exact g
 cases b:p.e with
 |false=>exact⟨t',bX ⟨p,h1,a,b⟩,by omega⟩
 |true=>
  have:=d b
  unfold gN at this;rw[Ru,decide_eq_true_iff,Ro] at this;exact⟨t'++[10],bY ⟨t',p,rfl,h1,a,b⟩,by rw[bF,bG];omega⟩
theorem yl{a:List Nat}(h:rY st (X a)):df st a=a.length:=by
 refine LM.one (gJ hv a) (bX ⟨a.length,bM _,rfl,LV.IW hv h.1,fun m hm ha=>?_⟩)
 obtain⟨t',h1,h2⟩:=jD (by omega) h.1.bytes ha
 have:=h.2 t' h1
 omega
end
def lk:List (Sp×Og)->Sp->Option Og
 |[],_=>V
 |(q,o)::r,p=>if q=p then X o else lk r p
theorem mG(al:List (Sp×Og))(q:Sp)(o:Og)(p:Sp):lk (al++[(q,o)]) p=(lk al p).or (if q=p then X o else V):=by
 induction al<;>grind [lk]
theorem Mj{al:List (Sp×Og)}{p:Sp}:(lk al p).isSome=G↔p∈al.map Prod.fst:=by
 induction al<;>grind [lk]
def code(p:Sp):Nat:=4*p.s+(if p.b then 2 else 0)+(if p.e then 1 else 0)
theorem Ay{p q:Sp}(h:code p=code q):p=q:=by
 obtain⟨s,b,e⟩:=p;obtain⟨s',_,_⟩:=q;unfold code at h
 grind
theorem vd{p:Sp}{n:Nat}(h:p.s<n):code p<4*n:=by grind [code]
inductive Bk (al:List (Sp×Og)):Sp->List Nat->Nat->Prop
 |root (p:Sp) (o:Og):lk al p=some o->o.root=true->Bk al p [] 0
 |KX (p:Sp) (o:Og) (t:List Nat) (n:Nat):lk al p=some o->o.root=false->o.over=false->Bk al o.JD t n->Bk al p t (n+1)
 |over (p:Sp) (o:Og) (t:List Nat) (n:Nat):lk al p=some o->o.root=false->o.over=true->Bk al o.JD t n->Bk al p (t++[o.c]) (n+1)
def MQ(al a:List (Sp×Og)):Prop:=∀p o,lk al p=X o->lk a p=X o
theorem MQ.refl(al:List (Sp×Og)):MQ al al:=fun _ _ h=>h
theorem MQ.trans{a b c:List (Sp×Og)}(h:MQ a b)(k:MQ b c):MQ a c:=fun p o e=>k p o (h p o e)
theorem MQ.some{a b:List (Sp×Og)}(h:MQ a b){p:Sp}(k:(lk a p).isSome=G):(lk b p).isSome=G:=by
 obtain⟨o,c⟩:=Option.isSome_iff_exists.mp k;rw[h p o c];rfl
theorem Bk.mono{a b:List (Sp×Og)}(h:MQ a b){p:Sp}{t:List Nat}{n:Nat}(k:Bk a p t n):Bk b p t n:=by
 induction k with
 |root p o h1 h2=>exact .root p o (h p o h1) h2
 |KX p o t n h1 h2 c _ ih=>exact .KX p o t n (h p o h1) h2 c ih
 |over p o t n h1 h2 c _ ih=>exact .over p o t n (h p o h1) h2 c ih
def bz(al:List (Sp×Og))(L:List Sp)(q:Sp)(o:Og):List (Sp×Og)×List Sp:=if(lk al q).isSome=G then(al,L) else(al++[(q,o)],L++[q])
structure Nr(st:List Nd)(P:Sp->Prop)(D:Nat)(al:List (Sp×Og))(L:List Sp):Prop where
 k1:∀p,(lk al p).isSome=true↔(P p\/p∈L)
 k2:∀p∈L,¬P p
 k3:∀p,(lk al p).isSome=true->∃t n,Bk al p t n/\SR st t p/\t.length<=D
 k4:IX (4*st.length) (al.map fun x=>code x.1)
 k5:L.length<=al.length
theorem Nr.JA{st:List Nd}{P:Sp->Prop}{al:List (Sp×Og)}{L:List Sp}(h:Nr st P D al L):al.length<=4*st.length:=by
 have:=h.k4.len
 rwa [bL] at this
theorem Nr.OH{st:List Nd}{P:Sp->Prop}{al:List (Sp×Og)}{L:List Sp}(h:Nr st P D al L){q:Sp}(B:q.s<st.length)(o:Og)
  (A:lk al q=V->∃t n,Bk al o.JD t n/\o.root=O/\((o.over=O/\SR st t q/\t.length<=D)\/(o.over=G/\SR st (t++[o.c]) q/\t.length+1<=D))):
  Nr st P D (bz al L q o).1 (bz al L q o).2/\(lk (bz al L q o).1 q).isSome=G/\MQ al (bz al L q o).1/\∃e,(bz al L q o).2=L++e:=by
 unfold bz
 by_cases hs:(lk al q).isSome=G
 ·rw[ps_ hs];exact⟨h,hs,MQ.refl _,[],by simp⟩
 rw[ng_ hs];have z:lk al q=V:=by simp_all
 have hx:MQ al (al++[(q,o)]):=fun p x d=>by rw[mG,d];rfl
 have i:lk (al++[(q,o)]) q=X o:=by rw[mG,z,ps_ rfl];rfl
 have g:∀p,(lk (al++[(q,o)]) p).isSome=G↔((lk al p).isSome=G\/p=q):=by
  intro p;rw[Mj,Mj,RC,Rn];simp
 have r:¬P q:=fun d=>hs ((h.k1 q).2 (bX d))
 refine⟨⟨fun p=>?_,fun p d=>?_,fun p d=>?_,?_,?_⟩,by rw[i];rfl,hx,[q],rfl⟩
 ·rw[g,h.k1,Rn,RO,or_assoc]
 ·rcases Rn.mp d with d|d
  ·exact h.k2 p d
  simp at d;subst d;exact r
 ·rcases (g p).1 d with d|rfl
  ·obtain⟨t,n,h1,h2,m⟩:=h.k3 p d;exact⟨t,n,h1.mono hx,h2,m⟩
  obtain⟨t,n,h1,h2,m⟩:=A z;rcases m with⟨j,k,l⟩|⟨j,k,l⟩
  ·exact⟨t,n+1,.KX p o t n i h2 j (h1.mono hx),k,l⟩
  exact⟨t++[o.c],n+1,.over p o t n i h2 j (h1.mono hx),k,by rw[bF,bG];exact l⟩
 ·rw[RC];refine⟨Sb.mpr ⟨h.k4.1,by simp,?_⟩,fun s f=>?_⟩
  ·intro a ha b y e;simp at y;subst y;subst e;obtain⟨x,u,w⟩:=RG.mp ha;have:=Ay w;exact hs (Mj.2 (RG.mpr ⟨x,u,this⟩))
  rcases Rn.mp f with f|f
  ·exact h.k4.2 s f
  simp at f;subst f;exact vd B
 rw[bF,bF,bG,bG];have:=h.k5;omega
def iO(st:List Nd)(d:Nat)(p:Sp):Prop:=∃t,SR st t p/\t.length<d
structure KB(st:List Nd)(d:Nat)(al:List (Sp×Og))(L:List Sp):Prop where
 JO:Nr st (iO st d) d al L
 MT:(lk al iE).isSome=true
 Mh:∀p q c,iO st d p->SB st p c q->(lk al q).isSome=true
 Mc:∀p,iO st d p->(nd st p.s).IF≠5
theorem KB.start{st:List Nd}(h1:1<=st.length)(o:Og)(d:o.root=G):KB st 0 [(iE,o)] [iE]:=by
 have a:∀p,¬iO st 0 p:=by rintro p ⟨t,_,h⟩;omega
 have b:lk [(iE,o)] iE=X o:=by rw[lk,ps_ rfl]
 have hk:∀p,(lk [(iE,o)] p).isSome=G↔p=iE:=by intro p;rw[Mj];simp
 refine⟨⟨fun p=>?_,fun p _=>a p,fun p e=>?_,?_,bM _⟩,by rw[b];rfl,fun p q c h=>absurd h (a p),fun p h=>absurd h (a p)⟩
 ·grind
 ·obtain rfl:=(hk p).1 e;exact⟨[],0,.root _ _ b d,.start,bM _⟩
 refine⟨by simp,fun s hs=>?_⟩
 simp at hs
 subst hs;exact vd h1
theorem KB.PX{st:List Nd}(hv:bw st=G){d:Nat}{al:List (Sp×Og)}{L:List Sp}(h:KB st d al L){p q:Sp}(r:p∈L)(o:SE st p q):
  q.s<st.length/\KB st d (bz al L q ⟨p,O,O,0⟩).1 (bz al L q ⟨p,O,O,0⟩).2/\(lk (bz al L q ⟨p,O,O,0⟩).1 q).isSome=G/\MQ al (bz al L q ⟨p,O,O,0⟩).1/\∃e,(bz al L q ⟨p,O,O,0⟩).2=L++e:=by
 obtain⟨t,n,h1,h2,m⟩:=h.JO.k3 p ((h.JO.k1 p).2 (bY r));have f:=SR.KX t p q h2 o;have i:=SR.lt hv f;obtain⟨j,k,g,l⟩:=h.JO.OH i ⟨p,O,O,0⟩ (fun _=>⟨t,n,h1,rfl,bX ⟨rfl,f,m⟩⟩)
 exact⟨i,⟨j,g.some h.MT,fun p q c a b=>g.some (h.Mh p q c a b),h.Mc⟩,k,g,l⟩
theorem KB.full{st:List Nd}{d:Nat}{al:List (Sp×Og)}{L:List Sp}(h:KB st d al L)(hc:∀p∈L,∀q,SE st p q->(lk al q).isSome=G)(p:Sp):(lk al p).isSome=G↔iO st (d+1) p:=by
 constructor
 ·intro b;obtain⟨t,n,_,h2,_⟩:=h.JO.k3 p b;exact⟨t,h2,by omega⟩
 rintro⟨t,e,a⟩
 suffices hs:∀{t p},SR st t p->t.length<d+1->(lk al p).isSome=G from hs e a
 intro t p e
 induction e with
 |start=>intro _;exact h.MT
 |KX t p q b j ih=>
  intro a;rcases (h.JO.k1 p).1 (ih a) with g|g
  ·obtain⟨u,k,f⟩:=g;exact(h.JO.k1 q).2 (bX ⟨u,.KX u p q k j,f⟩)
  grind
 |Mh t p q c b i ih=>
  intro a;rw[bF,bG] at a;exact h.Mh p q c ⟨t,b,by omega⟩ i
structure Ny(st:List Nd)(d:Nat)(L:List Sp)(k:Nat)(al:List (Sp×Og))(N:List Sp):Prop where
 JO:Nr st (iO st (d+1)) (d+1) al N
 MT:(lk al iE).isSome=true
 Mh:∀p q c,iO st d p->SB st p c q->(lk al q).isSome=true
 done:∀j,j<k->∀c q,SB st (L.getD j iE) c q->(lk al q).isSome=true
 I5:∀p,iO st (d+1) p->∃t n,Bk al p t n/\SR st t p/\t.length<=d
theorem KB.nxt{st:List Nd}{d:Nat}{al:List (Sp×Og)}{L:List Sp}(h:KB st d al L)(hc:∀p∈L,∀q,SE st p q->(lk al q).isSome=G):Ny st d L 0 al []:=by
 refine⟨⟨fun p=>?_,fun p a=>by simp at a,fun p a=>?_,h.JO.k4,bO _⟩,h.MT,h.Mh,fun j hj=>by omega,fun p a=>h.JO.k3 p ((h.full hc p).2 a)⟩
 ·rw[h.full hc];simp
 obtain⟨t,n,h1,h2,_⟩:=h.JO.k3 p a;exact⟨t,n,h1,h2,by omega⟩
theorem Ny.put{st:List Nd}(hv:bw st=G){d:Nat}{L:List Sp}{al:List (Sp×Og)}{N:List Sp}(h:Ny st d L k al N){p q:Sp}{c:Nat}(g:iO st (d+1) p)(o:SB st p c q):
  q.s<st.length/\Ny st d L k (bz al N q ⟨p,O,G,c⟩).1 (bz al N q ⟨p,O,G,c⟩).2/\(lk (bz al N q ⟨p,O,G,c⟩).1 q).isSome=G/\MQ al (bz al N q ⟨p,O,G,c⟩).1:=by
 obtain⟨t,n,h1,h2,_⟩:=h.I5 p g;have f:=SR.Mh t p q c h2 o;have i:=SR.lt hv f;obtain⟨l,m,e,_⟩:=h.JO.OH i ⟨p,O,G,c⟩ (fun _=>⟨t,n,h1,rfl,bY ⟨rfl,f,by omega⟩⟩)
 refine⟨i,⟨l,e.some h.MT,fun p q c a b=>e.some (h.Mh p q c a b),fun j hj c q hs=>e.some (h.done j hj c q hs),fun p g=>?_⟩,m,e⟩
 obtain⟨t,n,a1,a2,a3⟩:=h.I5 p g;exact⟨t,n,a1.mono e,a2,a3⟩
theorem Ny.next{st:List Nd}{d:Nat}{L:List Sp}{al:List (Sp×Og)}{N:List Sp}(h:Ny st d L k al N)(hk:∀c q,SB st (L.getD k iE) c q->(lk al q).isSome=G):Ny st d L (k+1) al N:=
 ⟨h.JO,h.MT,h.Mh,fun j hj c q hs=>by
  by_cases e:j=k
  ·subst e;exact hk c q hs
  exact h.done j (by omega) c q hs,h.I5⟩
theorem Ny.head{st:List Nd}{d:Nat}{L:List Sp}{al:List (Sp×Og)}{N:List Sp}(h:Ny st d L L.length al N)(e:∀p,iO st (d+1) p->iO st d p\/p∈L)(g:∀p,iO st d p->(nd st p.s).IF≠5)(f:∀p∈L,(nd st p.s).IF≠5):KB st (d+1) al N:=by
 refine⟨h.JO,h.MT,fun p q c a b=>?_,fun p a=>?_⟩
 ·rcases e p a with a|a
  ·exact h.Mh p q c a b
  obtain⟨j,hj,rfl⟩:=RU.mp a;refine h.done j hj c q ?_;rw[bD,bE hj];exact b
 grind
theorem KB.Jr{st:List Nd}{d:Nat}{al:List (Sp×Og)}{L:List Sp}(h:KB st d al L){p:Sp}(i:p∈L)(hk:(nd st p.s).IF=5)(b:p.e=O){t:List Nat}(c:SR st t p)(g:t.length<=d):rY st (X t):=by
 refine⟨bX ⟨p,c,hk,b⟩,fun u f=>?_⟩
 rcases f with⟨q,h1,h2,_⟩|⟨a,q,rfl,h1,h2,_⟩
 ·by_cases hd:u.length<d
  ·exact absurd h2 (h.Mc q ⟨u,h1,hd⟩)
  omega
 by_cases hd:a.length<d
 ·exact absurd h2 (h.Mc q ⟨a,h1,hd⟩)
 grind
theorem KB.Oz{st:List Nd}{d:Nat}{al:List (Sp×Og)}{L:List Sp}(h:KB st d al L)(hc:∀p,iO st (d+1) p->iO st d p\/p∈L)(a:∀p∈L,(nd st p.s).IF=5->p.e=G){p:Sp}(l:p∈L)(hk:(nd st p.s).IF=5)(g:p.e=G){t:List Nat}(i:SR st t p)(k:t.length<=d):rY st (X (t++[10])):=by
 refine⟨bY ⟨t,p,rfl,i,hk,g⟩,fun u j=>?_⟩
 rw[bF,bG];rcases j with⟨q,h1,h2,f⟩|⟨c,q,rfl,h1,h2,_⟩
 ·by_cases hd:u.length<d+1
  ·rcases hc q ⟨u,h1,hd⟩ with b|b
   ·exact absurd h2 (h.Mc q b)
   have:=a q b h2;rw[f] at this;cases this
  omega
 by_cases hd:c.length<d
 ·exact absurd h2 (h.Mc q ⟨c,h1,hd⟩)
 grind
theorem KB.part{st:List Nd}{d:Nat}{al:List (Sp×Og)}{L:List Sp}(h:KB st d al L)(hc:∀p∈L,∀q,SE st p q->(lk al q).isSome=G)(p:Sp)(a:iO st (d+1) p):iO st d p\/p∈L:=
 (h.JO.k1 p).1 ((h.full hc p).2 a)
theorem KB.MZ{st:List Nd}{d:Nat}{al:List (Sp×Og)}(h:KB st d al []):rY st V:=by
 have key:∀{t p},SR st t p->iO st d p:=by
  intro t p a;have hs:∀{t p},SR st t p->(lk al p).isSome=G:=by
   intro t p a
   induction a with
   |start=>exact h.MT
   |KX t p q g f ih=>
    obtain⟨u,i,b⟩:=((h.JO.k1 p).1 ih).resolve_right (by simp)
    exact(h.JO.k1 q).2 (bX ⟨u,.KX u p q i f,b⟩)
   |Mh t p q c g e ih=>
    exact h.Mh p q c (((h.JO.k1 p).1 ih).resolve_right (by simp)) e
  exact((h.JO.k1 p).1 (hs a)).resolve_right (by simp)
 rintro t (⟨p,h1,h2,_⟩|⟨t',p,_,h1,h2,_⟩)
 ·exact h.Mc p (key h1) h2
 exact h.Mc p (key h1) h2
def DK(L:List Nat):List Sn:=L.map (fun s:Nat=>Rr Y (s:Int))
theorem tY(L:List Nat)(i:Nat)(h:i<L.length):(DK L)[i]? =X (Z Y (L.getD i 0:Nat)):=by grind [DK]
def zi(n:Nat)(M:List Nat):List Sn:=(List.range n).map (fun i=>Sj (decide (i∈M)))
theorem gM(n:Nat)(M:List Nat):(zi n M).length=n:=by simp[zi]
theorem kU(n:Nat)(M:List Nat)(i:Nat)(h:i<n):(zi n M)[i]? =X (K (decide (i∈M))):=by simp[zi,h]
theorem CJ(n:Nat)(M:List Nat)(s:Nat):(zi n M).set s (K G)=zi n (M++[s]):=by
 apply Sk;intro i
 by_cases a:i<n
 ·rw[kU _ _ _ a]
  by_cases e:s=i
  ·subst e;rw[Sg (by rw[gM];exact a)]
   simp
  rw[List.getElem?_set_ne e,kU _ _ _ a];simp[Ne.symm e]
 rw[bI (by simp[gM];omega),bI (by simp[gM];omega)]
def Iw(A:Option Sq)(n c gm:Nat)(lv:Sn)(IZ:Bool)(JK:Nat)(fd:Bool):Obj:=H #[U A n c,U (X ⟨gm,0,V⟩) n n,lv,K IZ,Z Y (JK:Int),K fd] 337 (0,0)
structure MK(w0 w:Sm)(B g gm:Nat)(st:List Nd)(A:Option Sq)(c:Nat)(lv:Sn)(IZ:Bool)(JK:Nat)(fd:Bool)(M L:List Nat):Prop where
 I5:ID w0 w
 JR:Rs w0 A (cR st)
 I2:w.heap[g]? =some (Iw A st.length c gm lv IZ JK fd)
 Ly:w.heap[gm]? =some (.cells (zi st.length M).toArray 4 (0,0))
 own:IL w B 3 1 lv L.length (DK L)
 bg:w0.heap.size<=g
 bm:w0.heap.size<=gm
 lg:g<B
 lm:gm<B
 n2:g≠gm
 lB:B<=w.heap.size
theorem eQ{e:Sv}{s:Nat}{n:Nat}(h:IL w B e s v n xs)(hk:k<B):X k≠v.ownBlock:=by
 intro e;have:=(bU h k e.symm).1;omega
theorem jU(w:Sm)(g i:Nat)(v:Sn):w.grownBy (w.setCell ⟨g,i,V⟩ v) (X g):=⟨rfl,rfl,rfl,by simp,fun k _ hk=>aL w ⟨g,i,V⟩ k _ (fun e=>hk (by simp[e]))⟩
section
variable {w0 w w2 w' : Sm} {B g gm c JK : Nat} {st : List Nd} {A : Option Sq} {lv v' : Sn} {IZ fd : Bool} {M L L' : List Nat}
theorem MK.up(h:MK w0 w B g gm st A c lv IZ JK fd M L)(a:ID w w'):MK w0 w' B g gm st A c lv IZ JK fd M L:=
 ⟨h.I5.up a,h.JR,a.block h.I2,a.block h.Ly,h.own.up a,h.bg,h.bm,h.lg,h.lm,h.n2,bN h.lB a.size⟩
theorem MK.mark(h:MK w0 w B g gm st A c lv IZ JK fd M L)(s:Nat):MK w0 (w.setCell ⟨gm,s,V⟩ (K G)) B g gm st A c lv IZ JK fd (M++[s]) L:=by
 refine⟨h.I5.setCell h.bm _,h.JR,?_,?_,bT h.own (jU w gm s _) (bY (fun e=>eQ h.own h.lm e.symm)),h.bg,h.bm,h.lg,h.lm,h.n2,by simpa using h.lB⟩
 ·rw[aL w ⟨gm,s,V⟩ g _ h.n2];exact h.I2
 rw[aO w gm s _ _ _ h.Ly,Sl,CJ]
theorem MK.list(h:MK w0 w B g gm st A c lv IZ JK fd M L)(b:IL w2 B 3 1 v' L'.length (DK L'))(a:w.grownBy w2 lv.ownBlock):MK w0 (w2.setCell ⟨g,2,V⟩ v') B g gm st A c v' IZ JK fd M L':=by
 have d:w0.heap.size<=B:=bN h.bg (RS h.lg)
 have b1:w2.heap[g]? =_:=(a.block g (aQ h.I2) (eQ h.own h.lg)).trans h.I2
 have b3:w2.heap[gm]? =_:=(a.block gm (aQ h.Ly) (eQ h.own h.lm)).trans h.Ly
 refine⟨(IL.IU h.I5 h.own d a).setCell h.bg _,h.JR,?_,?_,bT b (jU w2 g 2 _) (bY (fun e=>eQ b h.lg e.symm)),h.bg,h.bm,h.lg,h.lm,h.n2,by simpa using bN h.lB a.size⟩
 ·exact aO w2 g 2 _ _ _ b1
 rw[aL w2 ⟨g,2,V⟩ gm _ (Ne.symm h.n2)];exact b3
theorem MK.field{a d:Bool}{b:Nat}(h:MK w0 w B g gm st A c lv IZ JK fd M L)(f:(w.setCell ⟨g,i,V⟩ v).heap[g]? =X (Iw A st.length c gm lv a b d)):MK w0 (w.setCell ⟨g,i,V⟩ v) B g gm st A c lv a b d M L:=by
 refine⟨h.I5.setCell h.bg _,h.JR,f,?_,bT h.own (jU w g i _) (bY (fun e=>eQ h.own h.lg e.symm)),h.bg,h.bm,h.lg,h.lm,h.n2,by simpa using h.lB⟩
 rw[aL w ⟨g,i,V⟩ gm _ (Ne.symm h.n2)];exact h.Ly
theorem MK.Qh(h:MK w0 w B g gm st A c lv IZ JK fd M L)(b:Bool):MK w0 (w.setCell ⟨g,3,V⟩ (K b)) B g gm st A c lv b JK fd M L:=h.field (aO w g 3 _ _ _ h.I2)
theorem MK.Qf(h:MK w0 w B g gm st A c lv IZ JK fd M L)(k:Nat):MK w0 (w.setCell ⟨g,4,V⟩ (Z Y (k:Int))) B g gm st A c lv IZ k fd M L:=h.field (aO w g 4 _ _ _ h.I2)
theorem MK.Jr(h:MK w0 w B g gm st A c lv IZ JK fd M L)(b:Bool):MK w0 (w.setCell ⟨g,5,V⟩ (K b)) B g gm st A c lv IZ JK b M L:=h.field (aO w g 5 _ _ _ h.I2)
theorem MK.cells(h:MK w0 w B g gm st A c lv IZ JK fd M L):w.cell? ⟨g,0,V⟩=X (U A st.length c)/\w.cell? ⟨g,1,V⟩=X (U (X ⟨gm,0,V⟩) st.length st.length)/\w.cell? ⟨g,2,V⟩=X lv/\w.cell? ⟨g,3,V⟩=X (K IZ)/\w.cell? ⟨g,4,V⟩=X (Z Y (JK:Int))/\w.cell? ⟨g,5,V⟩=X (K fd):=
 ⟨by rw[aK w g 0 _ _ _ h.I2];rfl,by rw[aK w g 1 _ _ _ h.I2];rfl,by rw[aK w g 2 _ _ _ h.I2];rfl,by rw[aK w g 3 _ _ _ h.I2];rfl,by rw[aK w g 4 _ _ _ h.I2];rfl,by rw[aK w g 5 _ _ _ h.I2];rfl⟩
theorem MK.PB(h:MK w0 w B g gm st A c lv IZ JK fd M L)(i:Nat):w.frozen? ⟨g,i,V⟩=O:=aN w g i _ _ h.I2
theorem MK.Px(h:MK w0 w B g gm st A c lv IZ JK fd M L){s:Nat}(hs:s<st.length):w.cell? ⟨gm,s,V⟩=X (K (decide (s∈M)))/\w.frozen? ⟨gm,s,V⟩=O:=
 ⟨by rw[aK w gm s _ _ _ h.Ly,RT,kU _ _ _ hs],aN w gm s _ _ h.Ly⟩
end
structure I3(w w':Sm)(g gm:Nat)(lv lv':Sn):Prop where
 size:w.heap.size<=w'.heap.size
 Kr:∀k,k<w.heap.size->k≠g->k≠gm->some k≠lv.ownBlock->w'.heap[k]? =w.heap[k]?
 row:∀k,lv'.ownBlock=some k->lv.ownBlock=some k\/w.heap.size<=k
theorem I3.refl(w:Sm)(g gm:Nat)(lv:Sn):I3 w w g gm lv lv:=⟨bM _,fun _ _ _ _ _=>rfl,fun _ h=>bX h⟩
theorem I3.I7(h:ID w w')(g gm:Nat)(lv:Sn):I3 w w' g gm lv lv:=⟨h.size,fun k hk _ _ _=>h.out.block k hk,fun _ h=>bX h⟩
theorem I3.trans{f:Sm}{a b d:Sn}(h:I3 w f g gm a b)(k:I3 f w2 g gm b d):I3 w w2 g gm a d:=by
 refine⟨bN h.size k.size,fun j hj h1 h2 i=>?_,fun j hj=>?_⟩
 ·rw[k.Kr j (RB hj h.size) h1 h2 (fun e=>?_),h.Kr j hj h1 h2 i]
  rcases h.row j e.symm with c|c
  ·grind
  omega
 rcases k.row j hj with c|c
 ·exact h.row j c
 exact bY (bN h.size c)
theorem I3.block{a b:Sn}(h:I3 w w' g gm a b){o:Obj}(hk:w.heap[k]? =X o)(h1:k≠g)(h2:k≠gm)(c:X k≠a.ownBlock):w'.heap[k]? =X o/\X k≠b.ownBlock:=by
 refine⟨(h.Kr k (aQ hk) h1 h2 c).trans hk,fun e=>?_⟩
 rcases h.row k e.symm with d|d
 ·exact c d.symm
 grind
theorem I3.mark(w:Sm)(g gm s:Nat)(lv v:Sn):I3 w (w.setCell ⟨gm,s,V⟩ v) g gm lv lv:=
 ⟨by simp,fun k _ _ h2 _=>aL w ⟨gm,s,V⟩ k _ h2,fun _ h=>bX h⟩
theorem I3.Qd(w:Sm)(g gm i:Nat)(lv v:Sn):I3 w (w.setCell ⟨g,i,V⟩ v) g gm lv lv:=
 ⟨by simp,fun k _ h2 _ _=>aL w ⟨g,i,V⟩ k _ h2,fun _ h=>bX h⟩
theorem I3.list(a:w.grownBy w2 lv.ownBlock)(hs:nM w lv v')(g gm:Nat):I3 w (w2.setCell ⟨g,2,V⟩ v') g gm lv v':=by
 refine⟨by simpa using a.size,fun k hk h1 _ b=>?_,fun k hk=>?_⟩
 ·rw[aL w2 ⟨g,2,V⟩ k _ h1];exact a.block k hk b
 rcases hs with e|⟨j,e,hj⟩
 ·rw[<-e];exact bX hk
 grind
def GH(st:List Nd)(L:List Nat)(s:Nat)(fd:Bool):Bool:=if s∈L then fd else fd||decide ((nd st s).IF=5)
def FO(w:Sm)(lv:Sn)(w0:Sm)(B g gm:Nat)(st:List Nd)(A:Option Sq)(c:Nat)(IZ:Bool)(JK:Nat)(fd:Bool)(L:List Nat)(e:Su)(w':Sm):Prop:=
 e=Rk (Rl #[])/\∃lv',MK w0 w' B g gm st A c lv' IZ JK fd L L/\I3 w w' g gm lv lv'
theorem CK(w0:Sm)(B g gm:Nat)(st:List Nd)(A:Option Sq)(c:Nat)(lv:Sn)(IZ:Bool)(JK:Nat)(fd:Bool)(L:List Nat)(w:Sm)(h:MK w0 w B g gm st A c lv IZ JK fd L L)(hl:st.length<=1000)(hL:IX st.length L)(s:Nat)(hs:s<st.length):
  Sr Sz 269 #[M (X ⟨g,0,V⟩),Z Y (s:Int)] w (FO w lv w0 B g gm st A c IZ JK (GH st L s fd) (ah L s)):=by
 obtain⟨_,x1,_,_,_,_⟩:=h.cells;obtain⟨y,W⟩:=h.Px hs;have i1:(0:Int)<=(s:Int):=by omega
 have i2:(s:Int)<(st.length:Int):=by omega
 have N:=aJ h
 have aa:=hL.len
 by_cases hm:s∈L
 ·have e:ah L s=L:=by unfold ah;rw[ps_ hm]
  have f:GH st L s fd=fd:=ps_ hm
  rw[e,f];rw[decide_eq_true hm] at y;clear e f h;go_enter func269,ntmps269;go_wp2_with fail;go_end0;exact⟨rfl,lv,N.out,I3.refl _ _ _ _⟩
 have e:ah L s=L++[s]:=by unfold ah;rw[ng_ hm]
 have f:GH st L s fd=(fd||decide ((nd st s).IF=5)):=ng_ hm
 rw[e,f];rw[decide_eq_false hm] at y;have h1:=h.mark s;have j:=aJ h1;have n:=aJ (I3.mark w g gm s lv (K G));obtain⟨b,off,rfl,_,d⟩:=(h.JR.up h.I5).at_ (by rw[aX];omega)
 generalize ab:w.setCell ⟨gm,s,V⟩ (K G)=w1 at *;obtain⟨_,_,x2,_,_,_⟩:=h1.cells;have S:=h1.PB 2;have o:=aQ h1.I2;have F:Hid (B<=w1.heap.size):=aJ h1.lB;obtain⟨J,R,rfl,_,_,_⟩:=h1.own.shape;clear e f h h1 d;go_enter func269,ntmps269;go_upto_region 2 with fail
 go_wp2_with (at_builtin;refine gh (wr:=w1) rfl _ _ 22 rfl _ 3 (Z Y 0) 1 8 underlying22 lR rfl (by decide) (by decide) _ _ _ rfl j.out.own 1 1 [Z Y (s:Int)] rfl rfl rfl rfl ?pn1 F.out (by decide) ?_)
 case pn1=>omega
 intro v' w2 D t r;have b2:w2.heap[g]? =_:=(t.block g o (eQ j.out.own j.out.lg)).trans j.out.I2;have T:w2.frozen? ⟨g,2,V⟩=O:=aN w2 g 2 _ _ b2;have c4:=cr_ b2 2 (U J L.length R);have p:=aQ b2;obtain⟨u,z,rfl,_,_,_⟩:=D.shape;have q:IL w2 B 3 1 (U u (L.length+1) z) (L++[s]).length (DK (L++[s])):=by
  have e:DK (L++[s])=DK L++[Z Y (s:Int)]:=by unfold DK;rw[RC];rfl
  have f:(L++[s]).length=L.length+1:=by simp
  rw[e,f];exact D
 have i:=aJ (j.out.list q t)
 have m:=aJ (n.out.trans (I3.list t r g gm))
 clear D q t r b2 x1 x2 y W S;go_upto_region 3 with fail
 generalize w2.setCell ⟨g,2,V⟩ (U u (L.length+1) z)=w3 at *;clear T c4 o p;obtain⟨_,_,_,_,_,_⟩:=i.out.cells;have z5:=i.out.PB 5;have l:=aJ (i.out.Jr (fd||decide ((nd st s).IF=5)));have a:=aJ (m.out.trans (I3.Qd w3 g gm 5 (U u (L.length+1) z) (K (fd||decide ((nd st s).IF=5)))));obtain⟨_,_,C,_,d⟩:=(i.out.JR.up i.out.I5).at_ (by rw[aX];omega)
 injection C with C
 injection C with he1 he2
 subst he1;subst he2;have hx:st[s]? =X (nd st s):=by unfold nd;rw[bD,bE hs];rfl
 have k0:=d _ _ (cf st s _ hx 0 (by omega))
 rw[Rx] at k0
 replace k0:w3.cell? ⟨b,off+s*7,V⟩=X (Z Y (nd st s).IF):=k0
 clear d hx i m j n F;generalize (nd st s).IF=kd at *;cases fd with
 |true=>
  go_wp2_with fail;go_end0;exact⟨rfl,_,l.out,a.out⟩
 |false=>
  have I:(kd==5)=decide (kd=5):=by rw[RA,beq_iff_eq,decide_eq_true_iff]
  by_cases k:kd=5
  ·have P:(kd==5)=G:=by simpa using k
   have x:Hid ((O||decide (kd=5))=G):=aJ (by simp[k])
   rw[x.out] at l a ⊢;clear I k;go_wp2_with fail;go_end0;exact⟨rfl,_,l.out,a.out⟩
  have P:(kd==5)=O:=by simpa using k
  have x:Hid ((O||decide (kd=5))=O):=aJ (by simp[k])
  rw[x.out] at l a ⊢;clear I k;go_wp2_with fail;go_end0;exact⟨rfl,_,l.out,a.out⟩
theorem AG(st:List Nd)(L:List Nat)(s:Nat):cw st (L++[s])=(cw st L||decide ((nd st s).IF=5)):=by simp[cw]
theorem Ad(st:List Nd)(L:List Nat)(s:Nat):GH st L s (cw st L)=cw st (ah L s):=by grind [GH,ah,AG]
theorem pP(st:List Nd)(IZ Ja:Bool)(f i:Nat)(L:List Nat)(h:L.length<=i):Jh st IZ Ja f i L=L:=by
 cases f with
 |zero=>rfl
 |succ f=>rw[Jh,ng_ (by omega)]
def Bo(w:Sm)(lv:Sn)(w0:Sm)(B g gm:Nat)(st:List Nd)(A:Option Sq)(c:Nat)(IZ:Bool)(JK:Nat)(L:List Nat)(e:Su)(w':Sm):Prop:=
 e=Rk (Rl #[])/\∃lv',MK w0 w' B g gm st A c lv' IZ JK (cw st L) L L/\I3 w w' g gm lv lv'
theorem jQ(w0:Sm)(B g gm:Nat)(st:List Nd)(A:Option Sq)(c:Nat)(lv:Sn)(IZ:Bool)(JK:Nat)(L:List Nat)(w:Sm)(h:MK w0 w B g gm st A c lv IZ JK (cw st L) L L)(b:st.length<=1000)(a:IX st.length L)(s:Nat)(hs:s<st.length):
  Sr Sz 269 #[M (X ⟨g,0,V⟩),Z Y (s:Int)] w (Bo w lv w0 B g gm st A c IZ JK (ah L s)):=by
 have:=CK w0 B g gm st A c lv IZ JK (cw st L) L w h b a s hs
 rw[Ad] at this;exact this
def G8(w w0:Sm)(B g gm:Nat)(st:List Nd)(A:Option Sq)(c:Nat)(lv:Sn)(IZ Ja:Bool)(JK:Nat)(L:List Nat)(v:Sn)(wr:Sm):Prop:=
 ∃(k:Nat) (a:List Nat) (b:Sn),v=Z Y k/\k<=st.length/\Hid (MK w0 wr B g gm st A c b IZ JK (cw st a) a a)/\Hid (I3 w wr g gm lv b)/\Hid (IX st.length a)/\Hid (Jh st IZ Ja (st.length-k) k a=Jh st IZ Ja st.length 0 L)
def Mi(w:Sm)(k:Nat)(x:Nd):Prop:=w.heap[k]? =X (H (an x).toArray 179 (0,0))
theorem Mi.cells{x:Nd}(h:Mi w k x):w.cell? ⟨k,0,V⟩=X (Z Y x.IF)/\w.cell? ⟨k,1,V⟩=X (Z Y x.left)/\w.cell? ⟨k,2,V⟩=X (Z Y x.right)/\
  w.cell? ⟨k,3,V⟩=X (Z E (ae x.set 0))/\w.cell? ⟨k,4,V⟩=X (Z E (ae x.set 1))/\w.cell? ⟨k,5,V⟩=X (Z E (ae x.set 2))/\w.cell? ⟨k,6,V⟩=X (Z E (ae x.set 3)):=
 ⟨by rw[aK w k 0 _ _ _ h];rfl,by rw[aK w k 1 _ _ _ h];rfl,by rw[aK w k 2 _ _ _ h];rfl,by rw[aK w k 3 _ _ _ h];rfl,by rw[aK w k 4 _ _ _ h];rfl,by rw[aK w k 5 _ _ _ h];rfl,by rw[aK w k 6 _ _ _ h];rfl⟩
theorem rq(w0:Sm)(B g gm:Nat)(st:List Nd)(A:Option Sq)(c:Nat)(lv:Sn)(IZ:Bool)(JK:Nat)(L:List Nat)(w:Sm)(h:MK w0 w B g gm st A c lv IZ JK (cw st L) L L)(hv:bw st=G)(hL:IX st.length L)(Ja:Bool):
  Sr Sz 268 #[M (X ⟨g,0,V⟩),K Ja] w (Bo w lv w0 B g gm st A c IZ JK (bv st IZ Ja L)):=by
 unfold bv;have HH:=aJ h;have aq:=aJ hL;have HV:=aJ hv;have hsz:=(bi hv).2.1;have av:=aJ hsz;clear h hL hv hsz;go_enter func268,ntmps268;go_wp2_with fail;go_loopw [4] (fun s4 wr=>G8 w w0 B g gm st A c lv IZ Ja JK L s4 wr) (fun s4 _=>st.length-(intOf s4).toNat)
 case atStart=>exact⟨0,L,lv,rfl,bO _,HH,aJ (I3.refl _ _ _ _),aq,aJ rfl⟩
 obtain⟨k,d,_,rfl,hk,t,R,r,HE⟩:=hrel;have aA:=r.out.len;have hsz:=av.out;obtain⟨_,cl,rfl,_,_,_⟩:=t.out.own.shape;obtain⟨e0,_,e2,e3,_,_⟩:=t.out.cells
 by_cases ab:k<d.length
 ·obtain⟨ga,_,hv,_,_,_,_⟩:=t.out.own.form (by omega)
  injection hv with hA _ hc
  subst hA;subst hc;have es:=(t.out.own.cellAt (tY d k ab)).1;have i1:(0:Int)<=(k:Int):=by omega
  have i2:(k:Int)<(d.length:Int):=by omega
  have F:d.getD k 0<st.length:=r.out.2 _ (gm_ ab)
  have am:Jh st IZ Ja (st.length-k) k d=Jh st IZ Ja (st.length-(k+1)) (k+1) (JN st IZ Ja (d.getD k 0) d):=by
   obtain⟨f,hf⟩:∃f,st.length-k=f+1:=⟨st.length-k-1,by omega⟩
   rw[hf,Jh,ps_ ab,show st.length-(k+1)=f by omega]
  have T:=aJ (am.symm.trans HE.out)
  clear HE am;generalize d.getD k 0=s at *;have ay:=(bi HV.out).2.2 s F;have hx:st[s]? =X (nd st s):=by unfold nd;rw[bD,bE F];rfl
  obtain⟨b,off,rfl,_,m⟩:=(t.out.JR.up t.out.I5).at_ (by rw[aX];omega)
  have J:=cf st s _ hx
  have c0:=m _ _ (J 0 (by omega))
  have c1:=m _ _ (J 1 (by omega))
  have c2:=m _ _ (J 2 (by omega))
  have c3:=m _ _ (J 3 (by omega))
  have c4:=m _ _ (J 4 (by omega))
  have c5:=m _ _ (J 5 (by omega))
  have c6:=m _ _ (J 6 (by omega))
  rw[<-RE] at c0 c1 c2 c3 c4 c5 c6;rw[Rx] at c0;have s1:(0:Int)<=(s:Int):=by omega
  have s2:(s:Int)<(st.length:Int):=by omega
  have i:Hid (JN st IZ Ja s d=if(nd st s).IF=2 then ah (ah d (nd st s).left.toNat) (nd st s).right.toNat
    else if((nd st s).IF=3/\IZ=G)\/((nd st s).IF=4/\Ja=G) then ah d (nd st s).left.toNat else d):=aJ rfl
  have aB:=aJ F
  clear hx m J F;generalize nd st s=y at *;obtain⟨q,lf,rt,o⟩:=y
  replace c0:wr.cell? ⟨b,off+s*7,V⟩=X (Z Y q):=c0
  replace c1:wr.cell? ⟨b,off+s*7+1,V⟩=X (Z Y lf):=c1
  replace c2:wr.cell? ⟨b,off+s*7+2,V⟩=X (Z Y rt):=c2
  replace c3:wr.cell? ⟨b,off+s*7+3,V⟩=X (Z E (ae o 0)):=c3
  replace c4:wr.cell? ⟨b,off+s*7+4,V⟩=X (Z E (ae o 1)):=c4
  replace c5:wr.cell? ⟨b,off+s*7+5,V⟩=X (Z E (ae o 2)):=c5
  replace c6:wr.cell? ⟨b,off+s*7+6,V⟩=X (Z E (ae o 3)):=c6
  have n0:=World.new_ne wr _ e0
  have n1:=World.new_ne wr _ es
  have n2:=World.new_ne wr _ c0
  go_upto_region 3 with fail
  go_region_held3 (fun w'=>w'.cell? ⟨g,0,V⟩=X (U (X ⟨b,off,V⟩) st.length c)/\w'.cell? ⟨g,2,V⟩=X (U (X ⟨ga,0,V⟩) d.length cl)/\w'.cell? ⟨ga,k,V⟩=X (Z Y (s:Int))/\w'.cell? ⟨b,off+s*7,V⟩=X (Z Y q)/\w'.cell? ⟨b,off+s*7+1,V⟩=X (Z Y lf)/\w'.cell? ⟨b,off+s*7+2,V⟩=X (Z Y rt)/\w'.cell? ⟨b,off+s*7+3,V⟩=X (Z E (ae o 0))/\w'.cell? ⟨b,off+s*7+4,V⟩=X (Z E (ae o 1))/\w'.cell? ⟨b,off+s*7+5,V⟩=X (Z E (ae o 2))/\w'.cell? ⟨b,off+s*7+6,V⟩=X (Z E (ae o 3))) (go_keep) (fail)
  have aa:Mi (wr.alloc (H (an ⟨q,lf,rt,o⟩).toArray 179)).drew wr.heap.size ⟨q,lf,rt,o⟩:=aM wr _
  have ac:ID wr (wr.alloc (H (an ⟨q,lf,rt,o⟩).toArray 179)).drew:=((ID.refl wr).alloc _).drew
  have ai:(wr.alloc (H #[Z Y q,Z Y lf,Z Y rt,Z E (ae o 0),Z E (ae o 1),Z E (ae o 2),Z E (ae o 3)] 179)).drew=(wr.alloc (H (an ⟨q,lf,rt,o⟩).toArray 179)).drew:=rfl
  rw[ai];have l:=aJ (t.out.up ac);have j:=aJ (R.out.trans (I3.I7 ac g gm (U (X ⟨ga,0,V⟩) d.length cl)));have P:Hid (wr.heap.size≠g/\wr.heap.size≠gm/\X wr.heap.size≠(Value.slice (X ⟨ga,0,V⟩) d.length cl).ownBlock):=aJ ⟨by have:=aQ t.out.I2;omega,by have:=aQ t.out.Ly;omega,fun e=>by have:=(bU t.out.own _ e.symm).2;omega⟩
  generalize (wr.alloc (H (an ⟨q,lf,rt,o⟩).toArray 179)).drew=W at *;generalize wr.heap.size=k7 at *;clear c0 c1 c2 c3 c4 c5 c6 e0 e2 e3 es n0 n1 n2 ai ac t R s1 s2;have ap:=aJ aa;obtain⟨d0,d1,d2,_⟩:=aa.cells;simp only at d0 d1 d2;clear aa;obtain⟨_,_,_,_,_,_⟩:=l.out.cells;obtain⟨o1,o2,u,N⟩:=ay;simp only at o1 o2 u N i;have ax:q=1\/q=2\/q=3\/q=4\/q=5:=by omega
  rcases ax with rfl|rfl|rfl|rfl|rfl
  ·have p:Hid (JN st IZ Ja s d=d):=aJ (by rw[i.out];simp)
   go_wp2_with fail;go_roundw
   case rel=>exact⟨k+1,_,_,rfl,by omega,l,j,r,aJ (by rw[<-p.out];exact T.out)⟩
   simp[intOf];omega
  ·obtain⟨a,rfl⟩:=RN (u (by decide)).1
   obtain⟨e,rfl⟩:=RN (N rfl).1;have ha:a<st.length:=by have:=(u (by decide)).2;omega
   have he:e<st.length:=by have:=(N rfl).2;omega
   have p:Hid (JN st IZ Ja s d=ah (ah d a) e):=aJ (by rw[i.out];simp)
   have I:=aJ (jQ w0 B g gm st _ c _ IZ JK d W l.out (by omega) r.out a ha)
   have x:=aJ ha
   have ag:=aJ he
   clear i ha he u N;go_wp2_with fail;refine(I.out).mono ?_;rintro e w2 ⟨rfl,D,n,hk2⟩;obtain⟨aj,aw⟩:=hk2.block ap.out P.out.1 P.out.2.1 P.out.2.2;have ad:=r.out.enter x.out;have af:=aJ (jQ w0 B g gm st _ c D IZ JK (ah d a) w2 n (by omega) ad e ag.out)
   have z:=aJ (j.out.trans hk2)
   have C:=aJ ad
   obtain⟨_,_,d2,_⟩:=(show Mi w2 k7 _ from aj).cells
   simp only at d2
   clear n hk2 aj aw ad I;go_wp2_with fail;refine(af.out).mono ?_;rintro e _ ⟨rfl,az,al,ak⟩;have ar:=aJ al;have ao:=aJ (z.out.trans ak);have au:=aJ (C.out.enter ag.out);clear al ak af;go_wp2_with fail;go_roundw
   case rel=>exact⟨k+1,_,az,rfl,by omega,ar,ao,au,aJ (by rw[<-p.out];exact T.out)⟩
   simp[intOf];omega
  ·obtain⟨a,rfl⟩:=RN (u (by decide)).1
   have ha:a<st.length:=by have:=(u (by decide)).2;omega
   have x:=aJ ha
   cases IZ with
   |false=>
    have p:Hid (JN st O Ja s d=d):=aJ (by rw[i.out];simp)
    clear i ha u N;go_wp2_with fail;go_roundw
    case rel=>exact⟨k+1,_,_,rfl,by omega,l,j,r,aJ (by rw[<-p.out];exact T.out)⟩
    simp[intOf];omega
   |true=>
    have p:Hid (JN st G Ja s d=ah d a):=aJ (by rw[i.out];simp)
    have I:=aJ (jQ w0 B g gm st _ c _ _ JK d W l.out (by omega) r.out a ha)
    clear i ha u N;go_wp2_with fail;refine(I.out).mono ?_;rintro e w2 ⟨rfl,D,n,hk2⟩;have S:=aJ n;have z:=aJ (j.out.trans hk2);have C:=aJ (r.out.enter x.out);clear n hk2 I;go_wp2_with fail;go_roundw
    case rel=>exact⟨k+1,_,D,rfl,by omega,S,z,C,aJ (by rw[<-p.out];exact T.out)⟩
    simp[intOf];omega
  ·obtain⟨a,rfl⟩:=RN (u (by decide)).1
   have ha:a<st.length:=by have:=(u (by decide)).2;omega
   have x:=aJ ha
   cases Ja with
   |false=>
    have p:Hid (JN st IZ O s d=d):=aJ (by rw[i.out];simp)
    clear i ha u N;go_wp2_with fail;go_roundw
    case rel=>exact⟨k+1,_,_,rfl,by omega,l,j,r,aJ (by rw[<-p.out];exact T.out)⟩
    simp[intOf];omega
   |true=>
    have p:Hid (JN st IZ G s d=ah d a):=aJ (by rw[i.out];simp)
    have I:=aJ (jQ w0 B g gm st _ c _ _ JK d W l.out (by omega) r.out a ha)
    clear i ha u N;go_wp2_with fail;refine(I.out).mono ?_;rintro e w2 ⟨rfl,D,n,hk2⟩;have S:=aJ n;have z:=aJ (j.out.trans hk2);have C:=aJ (r.out.enter x.out);clear n hk2 I;go_wp2_with fail;go_roundw
    case rel=>exact⟨k+1,_,D,rfl,by omega,S,z,C,aJ (by rw[<-p.out];exact T.out)⟩
    simp[intOf];omega
  have p:Hid (JN st IZ Ja s d=d):=aJ (by rw[i.out];simp)
  go_wp2_with fail;go_roundw
  case rel=>exact⟨k+1,_,_,rfl,by omega,l,j,r,aJ (by rw[<-p.out];exact T.out)⟩
  simp[intOf];omega
 have HR:Hid (Jh st IZ Ja st.length 0 L=d):=aJ (by rw[<-HE.out];exact pP _ _ _ _ _ _ (by omega))
 go_wp2_with fail;go_end0;rw[HR.out];exact⟨rfl,_,t.out,R.out⟩
theorem jr{t:Sv}:∀(b:List Sn) (w:Sm) (pre I5:List Sn),w.heap[g]? =X (H (pre++I5).toArray t (0,0))->I5.length=b.length->(w.setCells g pre.length b).heap[g]? =X (H (pre++b).toArray t (0,0))
 |[],w,pre,I5,h,a=>by
  obtain rfl:=List.eq_nil_of_length_eq_zero a;exact h
 |v::r,w,pre,I5,h,a=>by
  cases I5 with
  |nil=>simp at a
  |cons x I5=>
   have h1:=aO w g pre.length _ _ v h
   rw[Sl,Se _ _ (bM _),Nat.sub_self,Sd] at h1;have h2:=jr (t:=t) r (w.setCell ⟨g,pre.length,V⟩ v) (pre++[v]) I5 (by rw[h1];simp) (by simpa using a)
   rw[bF,bG] at h2
   show((w.setCell ⟨g,pre.length,V⟩ v).setCells g (pre.length+1) r).heap[g]? =_
   rw[h2];simp
theorem dW(g:Nat):∀(a:List Sn) (o:Nat) (w:Sm),w.grownBy (w.setCells g o a) (X g)
 |[],o,w=>World.grownBy.refl _ _
 |v::r,o,w=>World.grownBy.trans (show w.grownBy (w.setCell ⟨g,o,V⟩ v) (X g) from⟨rfl,rfl,rfl,by simp,fun k _ hk=>aL w ⟨g,o,V⟩ k _ (fun e=>hk (by simp[e]))⟩) (dW g r (o+1) _)
theorem MK.clear{c JK:Nat}{st:List Nd}{IZ fd:Bool}{M:List Nat}(h:MK w0 w B g gm st A c lv IZ JK fd M L):MK w0 (w.setCells gm 0 (Rv st.length (K O))) B g gm st A c lv IZ JK fd [] L:=by
 have a:=dW gm (Rv st.length (K O)) 0 w
 have d:ID w0 (w.setCells gm 0 (Rv st.length (K O))):=Below.grown h.I5 a h.I5.size (by intro k hk;injection hk with hk;subst hk;exact h.bm)
 have hz:Rv st.length (Sj O)=zi st.length []:=by
  apply Sk;intro i
  by_cases b:i<st.length
  ·rw[kU _ _ _ b,List.getElem?_replicate,ps_ b];simp
  rw[bI (by simp;omega),bI (by simp[gM];omega)]
 refine⟨d,h.JR,?_,?_,bT h.own a (bY (fun e=>eQ h.own h.lm e.symm)),h.bg,h.bm,h.lg,h.lm,h.n2,bN h.lB a.size⟩
 ·exact(a.block g (aQ h.I2) (by intro e;injection e with e;exact h.n2 e)).trans h.I2
 have:=jr (t:=4) (Rv st.length (K O)) w [] (zi st.length M) h.Ly (by simp[gM])
 rw[R_,hz] at this;rw[hz];exact this
theorem I3.clear(w:Sm)(g gm n:Nat)(lv:Sn):I3 w (w.setCells gm 0 (Rv n (K O))) g gm lv lv:=
 ⟨(dW gm _ 0 w).size,fun k hk _ h2 _=>(dW gm _ 0 w).block k hk (by intro e;injection e with e;exact h2 e),fun _ h=>bX h⟩
theorem I3.drop:I3 w (w.setCell ⟨g,2,V⟩ (U V 0 0)) g gm lv (U V 0 0):=
 ⟨by simp,fun k _ h1 _ _=>aL w ⟨g,2,V⟩ k _ h1,fun k h=>by cases h⟩
theorem om(s:Je)(i b:Nat)(c:b<256)(d:b/64=i):(bits BinOp.and Ry (((ae s i:Nat):Int)/2^(b%64)) 1 !=0)=hasB s b:=by
 rw[<-qC s i b c d];have e:((ae s i:Nat):Int)/2^(b%64)=((ae s i/2^(b%64):Nat):Int):=by push_cast;rfl
 have f:=iF s i
 have hd:ae s i/2^(b%64)<18446744073709551616:=Nat.lt_of_le_of_lt (Nat.div_le_self _ _) f
 have h1:=u64_and_nat (ae s i/2^(b%64)) 1 hd (by decide)
 rw[nat_mask1] at h1;rw[e];have a:bits BinOp.and Ry ((ae s i/2^(b%64):Nat):Int) 1=((ae s i/2^(b%64)%2:Nat):Int):=h1;rw[a];rw[RA,bne_iff_ne,beq_iff_eq];omega
theorem uF(w0:Sm)(B g gm:Nat)(st:List Nd)(A:Option Sq)(c:Nat)(lv:Sn)(IZ:Bool)(JK:Nat)(L:List Nat)(w:Sm)(h:MK w0 w B g gm st A c lv IZ JK (cw st L) L L)(hv:bw st=G)(b:IX st.length L):
  Sr Sz 267 #[M (X ⟨g,0,V⟩)] w (Bo w lv w0 B g gm st A c IZ JK (bv st IZ O (ah L 0))):=by
 obtain⟨h1,h2,_⟩:=bi hv;have j:=aJ (jQ w0 B g gm st A c lv IZ JK L w h (by omega) b 0 (by omega))
 have m:=aJ (b.enter (s:=0) (by omega))
 have n:=aJ hv
 clear h b hv h1 h2;go_enter func267,ntmps267;go_wp2_with fail;refine(j).mono ?_;rintro e o ⟨rfl,d,hm,hk⟩;have i:=aJ (rq w0 B g gm st A c d IZ JK (ah L 0) o hm n m O);have k:=aJ hk;clear hm hk j;go_wp2_with fail;refine(i).mono ?_;rintro e w2 ⟨rfl,f,hm,hk⟩;have l:=aJ hm;have a:=aJ (k.trans hk);clear hm hk i;go_wp2;go_end0;exact⟨rfl,f,l,a⟩
def Mx(st:List Nd)(IZ:Bool)(ch:Nat)(L:List Nat):List Nat:=if ch=10 then bv st IZ G L else L
def CL(st:List Nd)(IZ:Bool)(ch:Nat)(L:List Nat):List Nat:=bv st (ch==10) O (ah (Kd st ch (Mx st IZ ch L)) 0)
theorem IX.Mx{st:List Nd}(hv:bw st=G){IZ:Bool}{ch:Nat}(h:IX st.length L):IX st.length (Mx st IZ ch L):=by
 unfold Go.Proofs.YtflccikncbhpdaaGreatDoor.Mx;split
 ·exact IX.Jh hv _ _ _ h
 exact h
def Bn(w:Sm)(lv:Sn)(w0:Sm)(B g gm:Nat)(st:List Nd)(A:Option Sq)(c:Nat)(IZ:Bool)(JK ch:Nat)(L:List Nat)(e:Su)(w':Sm):Prop:=
 e=Rk (Rl #[])/\(cw st (Mx st IZ ch L)=G->∃lv',MK w0 w' B g gm st A c lv' IZ (JK+1) G (Mx st IZ ch L) (Mx st IZ ch L)/\I3 w w' g gm lv lv')/\
  (cw st (Mx st IZ ch L)=O->∃lv',MK w0 w' B g gm st A c lv' (ch==10) (JK+1) (cw st (CL st IZ ch L)) (CL st IZ ch L) (CL st IZ ch L)/\I3 w w' g gm lv lv')
def G9(w w2 w0:Sm)(B g gm:Nat)(st:List Nd)(A:Option Sq)(c:Nat)(lv:Sn)(IZ:Bool)(JK ch:Nat)(L:List Nat)(v:Sn)(wr:Sm):Prop:=
 ∃(k:Nat) (b:List Nat) (a:Sn),v=Z Y k/\k<=L.length/\Hid (MK w0 wr B g gm st A c a IZ JK (cw st b) b b)/\Hid (I3 w wr g gm lv a)/\Hid (I3 w2 wr g gm (U V 0 0) a)/\Hid (IX st.length b)/\Hid ((L.take k).foldl (fun IW s=>fP st ch s IW) []=b)
theorem ER(w0:Sm)(B g gm:Nat)(st:List Nd)(A:Option Sq)(c:Nat)(lv:Sn)(IZ:Bool)(JK:Nat)(L:List Nat)(w:Sm)(h:MK w0 w B g gm st A c lv IZ JK (cw st L) L L)(hv:bw st=G)(hL:IX st.length L)(aW:JK<1000000000)(ch:Nat)(aG:ch<256):
  Sr Sz 229 #[M (X ⟨g,0,V⟩),Z .u8 ch] w (Bn w lv w0 B g gm st A c IZ JK ch L):=by
 obtain⟨_,_,_,_,_,_⟩:=h.cells;have z4:=h.PB 4;have HH:=aJ (h.Qf (JK+1));have al:=aJ (I3.Qd w g gm 4 lv (Z Y ((JK+1:Nat):Int)));have HV:=aJ hv;have HL:=aJ hL;have hsz:=(bi hv).2.1;have au:=aJ hsz;have ay:=aJ aG;have a0:(0:Int)<=(ch:Int):=by omega
 have a1:(ch:Int)<256:=by omega
 go_enter func229,ntmps229
 go_upto_region 1 with fail
 have ag:w.setCell ⟨g,4,V⟩ (Z Y ((JK:Int)+1))=w.setCell ⟨g,4,V⟩ (Z Y ((JK+1:Nat):Int)):=rfl
 rw[ag];generalize w.setCell ⟨g,4,V⟩ (Z Y ((JK+1:Nat):Int))=W at *;have T:Hid (∀e w',(e=Rk (Rl #[])/\(cw st (Mx st IZ ch L)=G->∃lv',MK w0 w' B g gm st A c lv' IZ (JK+1) G (Mx st IZ ch L) (Mx st IZ ch L)/\I3 w w' g gm lv lv')/\
  (cw st (Mx st IZ ch L)=O->∃lv',MK w0 w' B g gm st A c lv' (ch==10) (JK+1) (cw st (CL st IZ ch L)) (CL st IZ ch L) (CL st IZ ch L)/\I3 w w' g gm lv lv'))->Bn w lv w0 B g gm st A c IZ JK ch L e w'):=aJ (fun _ _ h=>h)
 have aD:=aJ (HL.Mx HV (IZ:=IZ) (ch:=ch))
 have az:Hid (((ch:Int)==10)=(ch==10)):=aJ (by rw[RA,beq_iff_eq,beq_iff_eq];omega)
 go_upto_if 18 with fail
 go_cut [] (fun wx=>∃f,Hid (MK w0 wx B g gm st A c f IZ (JK+1) (cw st (Mx st IZ ch L)) (Mx st IZ ch L) (Mx st IZ ch L))/\Hid (I3 w wx g gm lv f))
 case first=>
  by_cases av:ch=10
  ·subst av;have HN:Hid (Mx st IZ 10 L=bv st IZ G L):=aJ (ps_ rfl);have HC:=aJ (rq w0 B g gm st A c lv IZ (JK+1) L W HH HV HL G);go_wp2_with fail;refine(HC).mono ?_;rintro e w2 ⟨rfl,aU,aP,hk2⟩;have aC:=aJ aP;have S:=aJ (al.trans hk2);go_wp2;go_meet;exact⟨aU,by rw[HN.out];exact aC,S⟩
  have b10:((ch:Int)==10)=O:=by simp;omega
  have HN:Hid (Mx st IZ ch L=L):=aJ (ng_ av)
  go_wp2
  go_meet;exact⟨lv,by rw[HN.out];exact HH,al⟩
 obtain⟨f,n,am⟩:=hcut;have aq:Hid (CL st IZ ch L=bv st (ch==10) O (ah (Kd st ch (Mx st IZ ch L)) 0)):=aJ rfl;generalize CL st IZ ch L=R2 at *;generalize Mx st IZ ch L=Q at *;obtain⟨_,_,_,_,_,y5⟩:=n.cells;cases hd:cw st Q with
 |true=>
  rw[hd] at n T y5;have HX:=aJ (T _ wc ⟨rfl,fun _=>⟨f,n,am⟩,fun h=>by cases h⟩)
  go_wp2
  go_end0
  exact HX
 |false=>
  rw[hd] at n T y5;have HX:Hid (∀w' lv',MK w0 w' B g gm st A c lv' (ch==10) (JK+1) (cw st R2) R2 R2->I3 w w' g gm lv lv'->Bn w lv w0 B g gm st A c IZ JK ch L (Rk (Rl #[])) w'):=aJ (fun w' lv' h1 h2=>T _ w' ⟨rfl,(fun h=>by cases h),fun _=>⟨lv',h1,h2⟩⟩)
  obtain⟨Al,cl,rfl,_,_,_⟩:=n.own.shape;have f2:=n.PB 2;have ad:=n.list (L':=[]) (IL.Jk _ _ _ _) (World.grownBy.refl wc _);have aH:I3 wc (wc.setCell ⟨g,2,V⟩ (U V 0 0)) g gm (U Al Q.length cl) (U V 0 0):=I3.drop;generalize af:wc.setCell ⟨g,2,V⟩ (U V 0 0)=w1 at *;obtain⟨_,_,_⟩:=ad.cells;have hsz:=au.out;have x:∀ty,(Builtin.clear_ #[104] ty #[U (X ⟨gm,0,V⟩) st.length st.length]).run Sz w1= .ok (Rl #[]) _:=
   fun ty=>Lib.run_clear_slice w1 _ _ ty _ underlying104 zeroValue4 rfl rfl gm 0 st.length st.length (by have:=(bi HV).1;omega)
    (fun t ht=>by rw[Rq,aK w1 gm t _ _ _ ad.Ly,RT,kU _ _ _ ht];rfl) (fun t ht=>aN w1 gm _ _ _ ad.Ly)
  have aA:Hid (∀j,j<wc.heap.size->j≠g->j≠gm->(w1.setCells gm 0 (Rv st.length (K O))).heap[j]? =wc.heap[j]?):=aJ (fun j hj j1 j2=>by
   rw[(dW gm _ 0 w1).block j (by rw[<-af];simpa using hj) (by intro e;injection e with e;exact j2 e),<-af]
   exact aL wc ⟨g,2,V⟩ j _ j1)
  have aE:=aJ ad.clear
  have S:=aJ (aH.trans (I3.clear w1 g gm st.length (U V 0 0)))
  go_upto_region 8 with fail
  generalize w1.setCells gm 0 (Rv st.length (K O))=w2 at *;have ar:=aD;go_wp2;go_loopw [38] (fun ak wr=>G9 wc w2 w0 B g gm st A c (U Al Q.length cl) IZ (JK+1) ch Q ak wr) (fun ak _=>Q.length-(intOf ak).toNat)
  case atStart=>exact⟨0,[],_,rfl,bO _,aE,S,aJ (I3.refl _ _ _ _),aJ (IX.nil _),aJ rfl⟩
  obtain⟨k,r,f,rfl,hk,HW,ap,ao,J,HE⟩:=hrel;have aY:=ar.len;obtain⟨_,_⟩:=HW.cells;have hsz:=au.out
  by_cases ac:k<Q.length
  ·obtain⟨ga,_,aT,_,aw,_,_⟩:=n.out.own.form (by omega)
   injection aT with hA _ hc
   subst hA;subst hc;have ec:=(n.own.cellAt (tY Q k ac)).1;have eg:wr.heap[ga]? =wc.heap[ga]?:=by
    have n1:ga≠g:=fun e=>by have:=n.out.lg;omega
    have n2:ga≠gm:=fun e=>by have:=n.out.lm;omega
    rw[ao.out.Kr ga (RB aw S.out.size) n1 n2 (by simp[RQ]),aA.out ga aw n1 n2]
   have es:wr.cell? ⟨ga,k,V⟩=X (Z Y (Q.getD k 0:Nat)):=by rw[World.cell?_of_block (a:=⟨ga,k,V⟩) eg];exact ec
   have ax:Q.getD k 0<st.length:=ar.2 _ (gm_ ac)
   have aS:(Q.take (k+1)).foldl (fun IW s=>fP st ch s IW) []=fP st ch (Q.getD k 0) r:=by
    rw[Sh,bE ac,List.foldl_append,HE.out,bD,bE ac];rfl
   have HU:=aJ aS
   have i1:(0:Int)<=(k:Int):=by omega
   have i2:(k:Int)<(Q.length:Int):=by omega
   generalize Q.getD k 0=s at *;have aR:=(bi HV).2.2 s ax;have hx:st[s]? =X (nd st s):=by unfold nd;rw[bD,bE ax];rfl
   obtain⟨b,off,rfl,_,x⟩:=(HW.JR.up HW.I5).at_ (by rw[aX];omega)
   have hg:=cf st s _ hx
   have c0:=x _ _ (hg 0 (by omega))
   have c1:=x _ _ (hg 1 (by omega))
   have c2:=x _ _ (hg 2 (by omega))
   have c3:=x _ _ (hg 3 (by omega))
   have c4:=x _ _ (hg 4 (by omega))
   have c5:=x _ _ (hg 5 (by omega))
   have c6:=x _ _ (hg 6 (by omega))
   rw[<-RE] at c0 c1 c2 c3 c4 c5 c6;rw[Rx] at c0;have s1:(0:Int)<=(s:Int):=by omega
   have s2:(s:Int)<(st.length:Int):=by omega
   have aa:Hid (fP st ch s r=if(nd st s).IF=1/\hasB (nd st s).set ch=G then ah r (nd st s).left.toNat else r):=aJ rfl
   generalize nd st s=y at *;obtain⟨kd,lf,rt,F⟩:=y
   replace c0:wr.cell? ⟨b,off+s*7,V⟩=X (Z Y kd):=c0
   replace c1:wr.cell? ⟨b,off+s*7+1,V⟩=X (Z Y lf):=c1
   replace c2:wr.cell? ⟨b,off+s*7+2,V⟩=X (Z Y rt):=c2
   replace c3:wr.cell? ⟨b,off+s*7+3,V⟩=X (Z E (ae F 0)):=c3
   replace c4:wr.cell? ⟨b,off+s*7+4,V⟩=X (Z E (ae F 1)):=c4
   replace c5:wr.cell? ⟨b,off+s*7+5,V⟩=X (Z E (ae F 2)):=c5
   replace c6:wr.cell? ⟨b,off+s*7+6,V⟩=X (Z E (ae F 3)):=c6
   go_upto_region 12 with fail
   have aO:Mi (wr.alloc (H (an ⟨kd,lf,rt,F⟩).toArray 179)) wr.heap.size ⟨kd,lf,rt,F⟩:=aM wr _
   have aj:ID wr (wr.alloc (H (an ⟨kd,lf,rt,F⟩).toArray 179)):=(ID.refl wr).alloc _
   have ag:wr.alloc (H #[Z Y kd,Z Y lf,Z Y rt,Z E (ae F 0),Z E (ae F 1),Z E (ae F 2),Z E (ae F 3)] 179)=wr.alloc (H (an ⟨kd,lf,rt,F⟩).toArray 179):=rfl
   rw[ag];have I:=aJ (HW.up aj);have m:=aJ (ap.trans (I3.I7 aj g gm f));have l:=aJ (ao.trans (I3.I7 aj g gm f));generalize wr.alloc (H (an ⟨kd,lf,rt,F⟩).toArray 179)=V0 at *;generalize wr.heap.size=k7 at *;obtain⟨d0,d1,_,d3,d4,d5,d6⟩:=aO.cells;simp only at d0 d1 d3 d4 d5 d6;obtain⟨o1,o2,o3,o4⟩:=aR;simp only at o1 o2 o3 o4 aa
   by_cases ai:kd=1
   ·subst ai;obtain⟨a,rfl⟩:=RN (o3 (by decide)).1
    have ha:a<st.length:=by have:=(o3 (by decide)).2;omega
    have P:=aJ ha
    have R:=aJ (jQ w0 B g gm st _ c f IZ (JK+1) r V0 I (by omega) J a ha)
    have N:(ch:Int)/64=0\/(ch:Int)/64=1\/(ch:Int)/64=2\/(ch:Int)/64=3:=by omega
    have u:=aJ (fun i hi=>om F i ch ay hi)
    cases ab:hasB F ch with
    |false=>
     have o:Hid (fP st ch s r=r):=aJ (by rw[aa.out,ng_ (fun h=>by rw[ab] at h;cases h.2)])
     have q:=aJ ab
     rcases N with N|N|N|N
     ·have d:=u.out 0 (by omega)
      rw[q.out] at d;go_wp2;go_roundw
      case rel=>exact⟨k+1,r,f,rfl,by omega,I,m,l,J,aJ (HU.trans o)⟩
      simp[intOf];omega
     ·have d:=u.out 1 (by omega)
      rw[q.out] at d;go_wp2;go_roundw
      case rel=>exact⟨k+1,r,f,rfl,by omega,I,m,l,J,aJ (HU.trans o)⟩
      simp[intOf];omega
     ·have d:=u.out 2 (by omega)
      rw[q.out] at d;go_wp2;go_roundw
      case rel=>exact⟨k+1,r,f,rfl,by omega,I,m,l,J,aJ (HU.trans o)⟩
      simp[intOf];omega
     have d:=u.out 3 (by omega)
     rw[q.out] at d;go_wp2;go_roundw
     case rel=>exact⟨k+1,r,f,rfl,by omega,I,m,l,J,aJ (HU.trans o)⟩
     simp[intOf];omega
    |true=>
     have o:Hid (fP st ch s r=ah r a):=aJ (by rw[aa.out,ps_ ⟨rfl,ab⟩];rfl)
     have q:=aJ ab
     rcases N with N|N|N|N
     ·have d:=u.out 0 (by omega)
      rw[q.out] at d;go_wp2_with fail;refine(R).mono ?_;rintro e _ ⟨rfl,lv',hw,p⟩;have D:=aJ hw;have C:=aJ (m.trans p);have z:=aJ (l.trans p);go_wp2;go_roundw
      case rel=>exact⟨k+1,_,lv',rfl,by omega,D,C,z,aJ (J.enter P),aJ (HU.trans o)⟩
      simp[intOf];omega
     ·have d:=u.out 1 (by omega)
      rw[q.out] at d;go_wp2_with fail;refine(R).mono ?_;rintro e _ ⟨rfl,lv',hw,p⟩;have D:=aJ hw;have C:=aJ (m.trans p);have z:=aJ (l.trans p);go_wp2;go_roundw
      case rel=>exact⟨k+1,_,lv',rfl,by omega,D,C,z,aJ (J.enter P),aJ (HU.trans o)⟩
      simp[intOf];omega
     ·have d:=u.out 2 (by omega)
      rw[q.out] at d;go_wp2_with fail;refine(R).mono ?_;rintro e _ ⟨rfl,lv',hw,p⟩;have D:=aJ hw;have C:=aJ (m.trans p);have z:=aJ (l.trans p);go_wp2;go_roundw
      case rel=>exact⟨k+1,_,lv',rfl,by omega,D,C,z,aJ (J.enter P),aJ (HU.trans o)⟩
      simp[intOf];omega
     have d:=u.out 3 (by omega)
     rw[q.out] at d;go_wp2_with fail;refine(R).mono ?_;rintro e _ ⟨rfl,lv',hw,p⟩;have D:=aJ hw;have C:=aJ (m.trans p);have z:=aJ (l.trans p);go_wp2;go_roundw
     case rel=>exact⟨k+1,_,lv',rfl,by omega,D,C,z,aJ (J.enter P),aJ (HU.trans o)⟩
     simp[intOf];omega
   have aZ:(kd==1)=O:=by simpa using ai
   have o:Hid (fP st ch s r=r):=aJ (by rw[aa.out,ng_ (fun h=>ai h.1)])
   go_wp2
   go_roundw
   case rel=>exact⟨k+1,r,f,rfl,by omega,I,m,l,J,aJ (HU.trans o)⟩
   simp[intOf];omega
  obtain rfl:k=Q.length:=by omega
  have HN:Hid (Kd st ch Q=r):=aJ (by have:=HE;rw[R7] at this;exact this)
  obtain⟨_,_,_,_,_,_⟩:=HW.cells;have z3:=HW.PB 3;have HB:=aJ (HW.Qh (ch==10));have aB:=aJ (am.trans (ap.trans (I3.Qd wr g gm 3 f (K (ch==10)))));have aF:=az.out;rw[HN.out] at aq;go_upto_region 16 with fail
  rw[aF];have HC:=aJ (uF w0 B g gm st A c f (ch==10) (JK+1) r _ HB HV J);rw[<-aq.out] at HC;go_wp2_with fail;refine(HC).mono ?_;rintro e w5 ⟨rfl,aV,aQ,aI⟩;have HY:=aJ (HX w5 aV aQ (aB.trans aI));go_wp2;go_end0;exact HY
theorem DN(s:Je)(b:Nat)(d:b<256)(w:Sm):Sr Sz 165 #[cN s,Z .u8 b] w (jE (K (hasB s b)) w):=by
 have c:=aJ (fun i e=>om s i b d e)
 unfold cN;have a:(b:Int)/64=0\/(b:Int)/64=1\/(b:Int)/64=2\/(b:Int)/64=3:=by omega
 rcases a with a|a|a|a
 all_goals
  go_enter func165,ntmps165
  go_wp2
  go_ret;exact⟨oC (c _ (by omega)),(ID.refl w).alloc _⟩
end Go.Proofs.YtflccikncbhpdaaGreatDoor
namespace Go.Proofs.YtflccikncbhpdaaGreatDoor
open Go.RowKit Go.Maps Go.WideMaps
set_option linter.unusedVariables false
theorem zy:laidOutB Sz=G:=by kernel_rfl
theorem qM:(188:Sv)<Sz.types.size:=by simp
theorem vQ:(match Sz.underlying 188 with|some (.array _ _)|some (.struct _)=>G|_=>O)=G:=by rw[underlying188]
theorem Lr:Keyed Sz 188:=Keyed.of_law (deep_law_laid zy (m:=2) (by omega) qM (by kernel_rfl) vQ)
def nV(p:Sp):Sn:=Rm #[Z Y (p.s:Int),K p.b,K p.e]
def CR(p:Sp):Lit:= .string (keyBytes [.int Y (p.s:Int),.bool p.b,.bool p.e])
theorem yJ{n:Nat}(h:k<n):∃m,n=m+1:=⟨n-1,by omega⟩
theorem sx:∃m,Sz.types.size=m+1:=yJ qM
theorem mT:Sz.cellsOf 188=3:=by kernel_rfl
theorem B8:Sz.keyType 188=G:=by kernel_rfl
theorem wZ:Sz.cellsOf 3=1:=by kernel_rfl
theorem tC:Sz.cellsOf 4=1:=by kernel_rfl
theorem fD(p:Sp)(a:p.s<1000000):keyOf Sz 188 (nV p)=X (CR p):=by
 obtain⟨s,b,e⟩:=p;simp only at a;have c:(Lit.int Y (s:Int)).wf=G:=WalkArith.wf_i64 (by omega)
 obtain⟨m,hm⟩:=sx;unfold keyOf nV CR;simp only[underlying188];rw[ps_ (by simp[B8,Value.formed,underlying188,mT]),hm]
 unfold Program.keyLits;simp only[underlying188,Value.cells];rw[ps_ (by rw[mT];exact⟨rfl,by decide+kernel⟩)]
 simp[Program.keyLits,wZ,tC,underlying3,underlying4,c]
theorem CQ{p q:Sp}(a:p.s<1000000)(c:q.s<1000000)(h:CR p=CR q):p=q:=by
 have h1:=fD p a
 rw[h] at h1;have:=Lr.inj h1 (fD q c);obtain⟨s,b,e⟩:=p;obtain⟨s',_,_⟩:=q;unfold nV at this
 grind
def sa(o:Og):Sn:=Rm #[Z Y (o.JD.s:Int),K o.JD.b,K o.JD.e,K o.root,K o.over,Z .u8 (o.c:Int)]
def EO(o:Og):Sx Unit:= .agg [.lit (.int Y (o.JD.s:Int)),.lit (.bool o.JD.b),.lit (.bool o.JD.e),.lit (.bool o.root),.lit (.bool o.over),.lit (.int .u8 (o.c:Int))]
def Hr:List Sn->Option (Sx Unit×List Sy)
 |[Z Y s,K b,K e,K r,K v,Z .u8 c]=>X (.agg [.lit (.int Y s),.lit (.bool b),.lit (.bool e),.lit (.bool r),.lit (.bool v),.lit (.int .u8 c)],[])
 |_=>V
def Hq:Sn->Option (Sx Unit×List Sy)
 | .agg cs=>Hr cs.toList
 |_=>V
theorem sE(o:Og):Hq (sa o)=X (EO o,[]):=rfl
theorem uw{z:Sx Unit×List Sy}(h:Hq v=X z):∃s b e r o c,v=Rm #[Z Y s,K b,K e,K r,K o,Z .u8 c]/\z=(.agg [.lit (.int Y s),.lit (.bool b),.lit (.bool e),.lit (.bool r),.lit (.bool o),.lit (.int .u8 c)],[]):=by
 cases v<;>try (cases h;done)
 rename_i cs
 obtain⟨l⟩:=cs
 change Hr l=X z at h
 unfold Hr at h
 grind
def Li(w:Sm)(b:Nat)(al:List (Sp×Og)):Prop:=
 ∃D:Sx Unit,w.ownsMap Sz 188 Hq b al.length D/\∀p:Sp,p.s<1000000->Maps.has D (CR p)=(lk al p).isSome/\∀o,lk al p=X o->D.atKey (CR p) (EO ⟨⟨0,O,O⟩,O,O,0⟩)=EO o
theorem Li.up{b:Nat}{al:List (Sp×Og)}(h:Li w b al)(a:ID w w'):Li w' b al:=by
 obtain⟨D,h1,h2⟩:=h;refine⟨D,h1.kept (row:=V) ⟨a.out.os,a.out.tape,a.out.output,a.out.size,fun k hk _=>a.out.block k hk⟩ (by simp),h2⟩
theorem Li.made(w:Sm):Li (w.alloc (.map #[] 0)) w.heap.size []:=⟨.map [],World.ownsMap_made w _ _ _,fun p _=>⟨rfl,fun o h=>by cases h⟩⟩
theorem mf(w:Sm):(zeroValue 190).run Sz w= .ok (sa ⟨⟨0,O,O⟩,O,O,0⟩) w:=by kernel_rfl
theorem Li.look{b:Nat}{al:List (Sp×Og)}(h:Li w b al){p:Sp}(d:p.s<1000000){o:Og}(f:lk al p=X o):
  (RY 182 (.map (X b)) (nV p) O).run Sz w= .ok (sa o) w:=by
 obtain⟨D,h1,h2⟩:=h;obtain⟨v,ps,a,hv⟩:=h1.lookup Lr underlying182 (mf w) (sE _) (fD p d);obtain⟨s,bb,e,r,_,c,rfl,hz⟩:=uw hv;rw[(h2 p d).2 o f] at hz;unfold EO at hz;simp at hz;obtain⟨⟨q1,g,i,j,k,l⟩,_⟩:=hz;rw[a];unfold sa;rw[q1,g,i,j,k,l]
theorem Li.put{b:Nat}{al:List (Sp×Og)}(h:Li w b al)(l:al.length<1000000){p:Sp}(f:p.s<1000000)(o:Og)(d:lk al p=V):
  ∃w',(Instr.mapUpdate 182 (.map (X b)) (nV p) (sa o)).run Sz w= .ok () w'/\Li w' b (al++[(p,o)])/\w.grownBy w' (X b):=by
 obtain⟨D,h1,h2⟩:=h;obtain⟨w',c,j,k⟩:=h1.update Lr underlying182 (by unfold maxLen;omega) (fD p f) (sE o)
 refine⟨w',c,⟨_,by simpa using j,fun q g=>?_⟩,k⟩
 by_cases e:p=q
 ·subst e;have hk:=Lr.key (fD p f);rw[has_put_same h1.isMap hk,mG,d,ps_ rfl];refine⟨rfl,fun i a=>?_⟩
  simp at a
  subst a;exact atKey_put_same h1.isMap hk _ _
 have hne:CR q≠CR p:=fun h=>e (CQ f g h.symm)
 rw[has_put_other hne,mG,ng_ e,(h2 q g).1];refine⟨by simp,fun i a=>?_⟩
 rw[atKey_put_other hne];exact(h2 q g).2 i (by simpa using a)
end Go.Proofs.YtflccikncbhpdaaGreatDoor
namespace Go.Proofs.YtflccikncbhpdaaGreatDoor
open Go.RowKit Go.Shelf
set_option linter.unusedVariables false
section
variable {P : Sw} {ops : Array Ss} {w : Sm} {Q : Act -> Prop} {a : Act} {o : Ss} {rest : List Ss}
theorem ss(c:RI o (yielded ops a.tmps)=G)(h:∀K:Act->Prop,(∀a,wpStill P ops w Q rest a->K a)->o.still P a w K):wpStill P ops w Q (o::rest) a:=
 wpStill_step fun K b=>by rw[ps_ c];exact h K b
theorem su(c:RI o (yielded ops a.tmps)=O)(h:∀K:Act->Prop,(∀a,wpStill P ops w Q rest a->K a)->K (a.put o.dst aR)):wpStill P ops w Q (o::rest) a:=
 wpStill_step fun K b=>by rw[ng_ (by rw[c];exact Bool.false_ne_true)];exact h K b
theorem mS{l:List Ss}(h:∀S:List Ss->Act->Prop,
  Hid (∀o rest a,RI o (yielded ops a.tmps)=G->(∀K:Act->Prop,(∀a,S rest a->K a)->o.still P a w K)->S (o::rest) a)->
  Hid (∀o rest a,RI o (yielded ops a.tmps)=O->(∀K:Act->Prop,(∀a,S rest a->K a)->K (a.put o.dst aR))->S (o::rest) a)->
  Hid (∀a,Q a->S [] a)->S l a):wpStill P ops w Q l a:=
 h (wpStill P ops w Q) (aJ fun _ _ _ b k=>ss b k) (aJ fun _ _ _ b k=>su b k) (aJ fun _ k=>wpStill_nil k)
end
def dH(p:Sp):List Sn:=[Z Y (p.s:Int),K p.b,K p.e]
def fw(L:List Sp):List Sn:=L.flatMap dH
theorem Hg(w:Sm)(o:Obj):(w.alloc o).heap.size=w.heap.size+1:=by simp
theorem vP(L:List Sp)(p:Sp):fw (L++[p])=fw L++dH p:=by simp[fw]
theorem da(L:List Sp)(i:Nat)(h:i<L.length)(j:Nat)(hj:j<3):(fw L)[i*3+j]? =(dH (L.getD i iE))[j]?:=by
 induction L generalizing i with
 |nil=>simp at h
 |cons p L ih=>
  have e:fw (p::L)=dH p++fw L:=by unfold fw;rw[List.flatMap_cons]
  rw[e];cases i with
  |zero=>
   rw[RD,Rq,bJ (by simp[dH];omega)]
   rfl
  |succ i=>
   have a:(dH p).length=3:=rfl
   rw[R6 (by rw[a];omega),a,show(i+1)*3+j-3=i*3+j by omega,ih i (by simpa using h)]
   simp
structure SK(w0 w:Sm)(B g b:Nat)(st:List Nd)(A:Option Sq)(c:Nat)(al:List (Sp×Og)):Prop where
 I5:ID w0 w
 JR:Rs w0 A (cR st)
 I2:w.heap[g]? =some (.cells #[.slice A st.length c,.map (some b)] 184 (0,0))
 map:Li w b al
 bg:w0.heap.size<=g
 bb:w0.heap.size<=b
 lg:g<B
 lb:b<B
 ne:g≠b
 lB:B<=w.heap.size
section
variable {w0 w w' : Sm} {B g b c : Nat} {st : List Nd} {A : Option Sq} {al : List (Sp × Og)}
theorem SK.up(h:SK w0 w B g b st A c al)(a:ID w w'):SK w0 w' B g b st A c al:=
 ⟨h.I5.up a,h.JR,a.block h.I2,h.map.up a,h.bg,h.bb,h.lg,h.lb,h.ne,bN h.lB a.size⟩
theorem SK.cells(h:SK w0 w B g b st A c al):w.cell? ⟨g,0,V⟩=X (U A st.length c)/\w.cell? ⟨g,1,V⟩=X (.map (X b)):=
 ⟨by rw[aK w g 0 _ _ _ h.I2];rfl,by rw[aK w g 1 _ _ _ h.I2];rfl⟩
theorem Li.kept{row:Option Nat}(h:Li w b al)(a:w.grownBy w' row)(hne:X b≠row):Li w' b al:=by
 obtain⟨D,h1,h2⟩:=h;exact⟨D,h1.kept a hne,h2⟩
theorem SK.put{a:List (Sp×Og)}(h:SK w0 w B g b st A c al)(hm:Li w' b a)(d:w.grownBy w' (X b)):SK w0 w' B g b st A c a:=
 ⟨Below.grown h.I5 d h.I5.size (by intro k hk;injection hk with hk;subst hk;exact h.bb),h.JR,(d.block g (aQ h.I2) (by intro e;injection e with e;exact h.ne e)).trans h.I2,hm,h.bg,h.bb,h.lg,h.lb,h.ne,bN h.lB d.size⟩
theorem SK.row{n:Nat}(h:SK w0 w B g b st A c al)(d:IL w B 188 3 lv n xs)(a:w.grownBy w' lv.ownBlock):SK w0 w' B g b st A c al:=
 ⟨IL.IU h.I5 d (bN h.bg (RS h.lg)) a,h.JR,(a.block g (aQ h.I2) (eQ d h.lg)).trans h.I2,h.map.kept a (eQ d h.lb),h.bg,h.bb,h.lg,h.lb,h.ne,bN h.lB a.size⟩
end
theorem I3.O2{b:Nat}(a:w.grownBy w' (X b))(lv:Sn):I3 w w' b b lv lv:=
 ⟨a.size,fun k hk h1 _ _=>a.block k hk (by intro e;injection e with e;exact h1 e),fun _ h=>bX h⟩
theorem I3.P6(a:w.grownBy w' lv.ownBlock)(hs:nM w lv v')(b:Nat):I3 w w' b b lv v':=by
 refine⟨a.size,fun k hk _ _ c=>a.block k hk c,fun k hk=>?_⟩
 rcases hs with e|⟨j,e,hj⟩
 ·rw[<-e];exact bX hk
 grind
def FG(w:Sm)(lv:Sn)(w0:Sm)(B g b:Nat)(st:List Nd)(A:Option Sq)(c:Nat)(r:List (Sp×Og)×List Sp)(e:Su)(w':Sm):Prop:=
 ∃lv',e=Rk lv'/\SK w0 w' B g b st A c r.1/\IL w' B 188 3 lv' r.2.length (fw r.2)/\I3 w w' b b lv lv'
theorem zG:(Sz.info? 188).map (fun i=>(i.zero,i.size,i.bytes))=X (X (Rm #[Z Y 0,K O,K O]),3,16):=by kernel_rfl
def wI(al:List (Sp×Og))(p:Sp):Og:=(lk al p).getD ⟨⟨0,O,O⟩,O,O,0⟩
theorem Li.Py{b:Nat}{al:List (Sp×Og)}(h:Li w b al){p:Sp}(g:p.s<1000000):
  (RY 182 (.map (X b)) (nV p) G).run Sz w= .ok (Rl #[sa (wI al p),K (lk al p).isSome]) w:=by
 obtain⟨D,h1,h2⟩:=h;obtain⟨v,ps,a,hv⟩:=h1.look_ok Lr underlying182 (mf w) (sE _) (fD p g);obtain⟨s,bb,e,r,_,c,rfl,hz⟩:=uw hv;obtain⟨q1,d⟩:=h2 p g;have i:D.atKey (CR p) (EO ⟨⟨0,O,O⟩,O,O,0⟩)=EO (wI al p):=by
  unfold wI;cases f:lk al p with
  |none=>rw[f] at q1;exact Maps.atKey_of_not_has q1 _
  |some o=>exact d o f
 rw[i] at hz;rw[q1] at a;unfold EO at hz;simp at hz;obtain⟨⟨q1,d,j,k,l,m⟩,_⟩:=hz;rw[a];unfold sa;rw[q1,d,j,k,l,m]
theorem mC(w0:Sm)(B g b:Nat)(st:List Nd)(A:Option Sq)(c:Nat)(lv:Sn)(al:List (Sp×Og))(L:List Sp)(w:Sm)(h:SK w0 w B g b st A c al)(hl:IL w B 188 3 lv L.length (fw L))(hn:al.length<=100000)(hL:L.length<=100000)(q:Sp)(hq:q.s<1000000)(o:Og)(hc:o.c<256):
  Sr Sz 84 #[M (X ⟨g,0,V⟩),lv,nV q,sa o] w (FG w lv w0 B g b st A c (bz al L q o)):=by
 have HH:=aJ h
 have ag:=aJ hl
 obtain⟨Al,cl,rfl,aL,_,_⟩:=hl.shape;have HP:Hid (bz al L q o=if(lk al q).isSome=G then(al,L) else(al++[(q,o)],L++[q])):=aJ rfl
 have ax:=aJ hq
 have ak:=aM w (H (dH q).toArray 188)
 have ap:=(ID.refl w).alloc (H (dH q).toArray 188)
 have ac:=aM (w.alloc (H (dH q).toArray 188)) (H #[Z Y (o.JD.s:Int),.bool o.JD.b,.bool o.JD.e,.bool o.root,.bool o.over,Z .u8 (o.c:Int)] 190)
 have y:=ap.alloc (H #[Z Y (o.JD.s:Int),.bool o.JD.b,.bool o.JD.e,.bool o.root,.bool o.over,Z .u8 (o.c:Int)] 190)
 have F:=((ID.refl (w.alloc (H (dH q).toArray 188))).alloc (H #[Z Y (o.JD.s:Int),.bool o.JD.b,.bool o.JD.e,.bool o.root,.bool o.over,Z .u8 (o.c:Int)] 190)).block ak
 have ad:=fun W (h:Li W b al)=>h.Py hq
 have ah:=aJ (rfl:wI al q=wI al q)
 generalize aI:wI al q=oa at ad;clear ah aI aL h hl ak ap;obtain⟨qs,d,f⟩:=q;obtain⟨⟨fs,C,D⟩,rt,I,ch⟩:=o;obtain⟨⟨zs,zb,ze⟩,zr,zo,zc⟩:=oa;unfold nV sa dH at *;simp only at *;go_enter func84,ntmps84;go_upto_region 1 with fail
 rw[Hg] at ac;have ab:Hid (IL ((w.alloc (H #[Z Y (qs:Int),.bool d,.bool f] 188)).alloc (H #[Z Y (fs:Int),.bool C,.bool D,.bool rt,.bool I,Z .u8 (ch:Int)] 190)) B 188 3 (U Al L.length cl) L.length (fw L)):=aJ (ag.out.up y);have R:Hid (I3 w ((w.alloc (H #[Z Y (qs:Int),.bool d,.bool f] 188)).alloc (H #[Z Y (fs:Int),.bool C,.bool D,.bool rt,.bool I,Z .u8 (ch:Int)] 190)) b b (U Al L.length cl) (U Al L.length cl)):=aJ (I3.I7 y b b _);have m:=aJ (HH.out.up y);generalize (w.alloc (H #[Z Y (qs:Int),.bool d,.bool f] 188)).alloc (H #[Z Y (fs:Int),.bool C,.bool D,.bool rt,.bool I,Z .u8 (ch:Int)] 190)=W at *;have j:=aJ F;have J:=aJ ac;have T:=aJ ad;have af:Hid (b<w.heap.size):=aJ (by have:=HH.out.lb;have:=HH.out.lB;omega)
 generalize w.heap.size=k6 at *;clear F ac y ad HH ag;have z:Hid (∀w',ID W w'->ID W w'/\w'.cell? ⟨g,1,V⟩=X (.map (X b))/\w'.cell? ⟨k6,0,V⟩=X (Z Y (qs:Int))/\w'.cell? ⟨k6,1,V⟩=X (.bool d)/\w'.cell? ⟨k6,2,V⟩=X (.bool f)/\
   (RY 182 (.map (X b)) (Rm #[Z Y (qs:Int),.bool d,.bool f]) G).run Sz w'= .ok (Rl #[Rm #[Z Y (zs:Int),.bool zb,.bool ze,.bool zr,.bool zo,Z .u8 (zc:Int)],.bool (lk al ⟨qs,d,f⟩).isSome]) w'):=aJ (fun w' u=>
  ⟨u,(m.out.up u).cells.2,by rw[aK w' k6 0 _ _ _ (u.block j.out)];rfl,by rw[aK w' k6 1 _ _ _ (u.block j.out)];rfl,by rw[aK w' k6 2 _ _ _ (u.block j.out)];rfl,T.out w' (m.out.up u).map⟩)
 generalize a:(lk al ⟨qs,d,f⟩).isSome=sm at *;go_cut [10] (fun v wx=>v= .bool sm/\Hid (ID W wx))
 case first=>
  clear HP ab R m j J T a af;go_region_held3 (fun w'=>ID W w'/\w'.cell? ⟨g,1,V⟩=X (.map (X b))/\w'.cell? ⟨k6,0,V⟩=X (Z Y (qs:Int))/\w'.cell? ⟨k6,1,V⟩=X (.bool d)/\w'.cell? ⟨k6,2,V⟩=X (.bool f)/\
   (RY 182 (.map (X b)) (Rm #[Z Y (qs:Int),.bool d,.bool f]) G).run Sz w'= .ok (Rl #[Rm #[Z Y (zs:Int),.bool zb,.bool ze,.bool zr,.bool zo,Z .u8 (zc:Int)],.bool sm]) w') ((refine z.out _ ?_;first|exact(ID.refl _).drew|exact((ID.refl _).alloc _).drew)) (fail)
  all_goals (go_wp2;go_meet;exact⟨rfl,aJ (((ID.refl _).alloc _).drew)⟩)
 clear z T;obtain⟨rfl,HO⟩:=hcut;have l:=aJ (m.out.up HO.out);have r:=aJ (ab.out.up HO.out);have P:=aJ (R.out.trans (I3.I7 HO.out b b _));have k:=aJ (HO.out.block j.out);have i:=aJ (HO.out.block J.out);clear m ab R j J HO;cases sm with
 |true=>
  have HE:Hid (bz al L ⟨qs,d,f⟩ ⟨⟨fs,C,D⟩,rt,I,ch⟩=(al,L)):=aJ (by rw[HP.out];rfl)
  clear HP a;go_wp2;go_ret;rw[HE.out];exact⟨_,rfl,l.out,r.out,P.out⟩
 |false=>
  have HE:Hid (bz al L ⟨qs,d,f⟩ ⟨⟨fs,C,D⟩,rt,I,ch⟩=(al++[(⟨qs,d,f⟩,⟨⟨fs,C,D⟩,rt,I,ch⟩)],L++[⟨qs,d,f⟩])):=aJ (by rw[HP.out];rfl)
  have an:lk al ⟨qs,d,f⟩=V:=by
   cases hh:lk al ⟨qs,d,f⟩ with
   |none=>rfl
   |some x=>rw[hh] at a;cases a
  obtain⟨w5,p,am,n⟩:=(l.out.up (ID.refl _).drew).map.put (by omega) ax.out ⟨⟨fs,C,D⟩,rt,I,ch⟩ an
  unfold nV sa at p;simp only at p;obtain⟨_,c1⟩:=l.out.cells;have az:=cr_ k.out 0 (Z Y (qs:Int));have aA:=cr_ k.out 1 (.bool d);have aB:=cr_ k.out 2 (.bool f);have aC:=cr_ i.out 0 (Z Y (fs:Int));have aD:=cr_ i.out 1 (.bool C);have aE:=cr_ i.out 2 (.bool D);have aF:=cr_ i.out 3 (.bool rt);have aG:=cr_ i.out 4 (.bool I);have aH:=cr_ i.out 5 (Z .u8 (ch:Int));have N:=aJ (SK.put (l.out.up (ID.refl _).drew) am n);have aa:Hid (IL w5 B 188 3 (U Al L.length cl) L.length (fw L)):=aJ (bT (r.out.up (ID.refl _).drew) n (bY (fun e=>eQ r.out l.out.lb e.symm)))
  have ae:=aJ (P.out.trans ((I3.I7 (ID.refl _).drew b b _).trans (I3.O2 n (U Al L.length cl))))
  have t:w5.heap[k6]? =X (H #[Z Y (qs:Int),.bool d,.bool f] 188 (0,0)):=(n.block k6 (aQ k.out) (by intro e;injection e with e;have:=af.out;omega)).trans k.out
  have d0:=cr_ t 0 (Z Y (qs:Int))
  have d1:=cr_ t 1 (.bool d)
  have d2:=cr_ t 2 (.bool f)
  have ar:=aJ N.out.lB
  clear HP a an am n t l r P k i;go_upto_region 4 with fail
  refine wp_region_still_tail 6 (by kernel_rfl) (by kernel_rfl) ?_
  simp only[List.take_succ_cons,List.take_zero,List.drop_succ_cons,List.drop_zero];refine mS (fun S aj ay ai=>?_)
  iterate 6 (refine aj.out _ _ _ (by kernel_rfl) (fun K hK=>?_);go_simp;refine hK _ ?_;clear hK K)
  refine ai.out _ ?_;clear aj ay ai;go_upto_region 5 with fail
  clear p c1 az aA aB aC aD aE aF aG aH;go_wp2_with (at_builtin;refine gh (wr:=w5) rfl _ _ 185 rfl _ 188 (Rm #[Z Y 0,.bool O,.bool O]) 3 16 underlying185 zG rfl (by decide) (by decide) _ _ _ rfl aa.out 1 1 [Z Y (qs:Int),.bool d,.bool f] rfl rfl rfl rfl ?pn1 ar.out (by decide) ?_)
  case pn1=>omega
  intro v' w6 u hg aq;have ao:IL w6 B 188 3 v' (L.length+1) (fw (L++[⟨qs,d,f⟩])):=by rw[vP];exact u
  have aw:=aJ ao
  have au:=aJ (N.out.row aa.out hg)
  have av:=aJ (ae.out.trans (I3.P6 hg aq b))
  clear u ao hg aq aa N ae d0 d1 d2;go_wp2;go_ret;rw[HE.out];exact⟨_,rfl,au.out,by rw[bF,bG];exact aw.out,av.out⟩
theorem fo{e b:Sv}{s:Nat}{n:Nat}(h:IL w B e s v n xs)(hk:w.heap[k]? =X (H cs b fz))(hne:b≠e):X k≠v.ownBlock:=by
 rcases h with⟨_,⟨rfl,_⟩|⟨g,cap,c,rfl,_,a,_⟩⟩
 ·simp[RQ]
 intro h;simp[RQ] at h;subst h;rw[hk] at a;simp at a;exact hne a.2.1
theorem SK.box{b c:Nat}{st:List Nd}{al:List (Sp×Og)}(h:SK w0 w B g b st A c al)(hk:w0.heap.size<=k)(h1:k≠g)(h2:k≠b)(i:Nat)(v:Sn):SK w0 (w.setCell ⟨k,i,V⟩ v) B g b st A c al:=
 ⟨h.I5.setCell hk _,h.JR,by rw[aL w ⟨k,i,V⟩ g v (Ne.symm h1)];exact h.I2,h.map.kept (jU w k i v) (by intro e;injection e with e;exact h2 e.symm),h.bg,h.bb,h.lg,h.lb,h.ne,by simpa using h.lB⟩
theorem I3.wide{b:Nat}{lv':Sn}(h:I3 w w' b b lv lv'):I3 w w' b k lv lv':=⟨h.size,fun j hj h1 _ a=>h.Kr j hj h1 h1 a,h.row⟩
def Ik(w:Sm)(lv:Sn)(w0:Sm)(B g b k3:Nat)(st:List Nd)(A:Option Sq)(c:Nat)(r:List (Sp×Og)×List Sp)(e:Su)(w':Sm):Prop:=
 e=Rk (Rl #[])/\∃lv',SK w0 w' B g b st A c r.1/\IL w' B 188 3 lv' r.2.length (fw r.2)/\w'.heap[k3]? =X (H #[lv'] 185 (0,0))/\I3 w w' b k3 lv lv'
theorem ud(w0:Sm)(B g b k2 k3 k6:Nat)(st:List Nd)(A:Option Sq)(c:Nat)(lv:Sn)(al:List (Sp×Og))(L:List Sp)(w:Sm)(h:SK w0 w B g b st A c al)(o:IL w B 188 3 lv L.length (fw L))
  (j:w.heap[k2]? =X (H #[M (X ⟨g,0,V⟩)] 181 (0,0))) (a:w.heap[k3]? =X (H #[lv] 185 (0,0))) (p:Sp) (d:w.heap[k6]? =X (H (dH p).toArray 188 (0,0)))
  (l:w0.heap.size<=k3) (hn:al.length<=100000) (W:L.length<=100000) (x:Nat) (hx:x<1000000) (e:Bool):
  Sr Sz 161 #[Z Y (x:Int),K e,M (X ⟨k2,0,V⟩),M (X ⟨k3,0,V⟩),M (X ⟨k6,0,V⟩)] w (Ik w lv w0 B g b k3 st A c (bz al L ⟨x,p.b,e⟩ ⟨p,O,O,0⟩)):=by
 obtain⟨P,R,rfl,_,_,_⟩:=o.shape;have u:=aJ (mC w0 B g b st A c _ al L w h o hn W ⟨x,p.b,e⟩ hx ⟨p,O,O,0⟩ (show(0:Nat)<256 by decide))
 have f:=fo o a (by decide)
 have n1:k3≠g:=fun e=>by have:=h.I2;rw[<-e,a] at this;simp at this
 have n2:k3≠b:=fun e=>by
  obtain⟨D,⟨es,_,h1,_⟩,_⟩:=h.map;rw[<-e,a] at h1;cases h1
 have N:=aJ (And.intro f (And.intro n1 n2))
 have q:=aJ a
 have y:=aJ l
 have a2:=cr_ j 0 (M (X ⟨g,0,V⟩))
 have a3:=cr_ a 0 (U P L.length R)
 have C:=cr_ d 0 (Z Y (p.s:Int))
 have F:=cr_ d 1 (K p.b)
 have I:=cr_ d 2 (K p.e)
 obtain⟨ps,pb,pe⟩:=p;unfold nV sa at u;simp only at *;clear h o j a d f n1 n2 l;generalize bz al L ⟨x,pb,e⟩ ⟨⟨ps,pb,pe⟩,O,O,0⟩=r at *;go_enter func161,ntmps161;go_wp2_with fail;refine(u).mono ?_;rintro e w2 ⟨_,rfl,m,i,hk2⟩;obtain⟨A2,c2,rfl,_,_,_⟩:=i.shape;have J:=hk2.block q N.2.2 N.2.2 N.1;have n:=J.1;have f3:w2.frozen? ⟨k3,0,V⟩=O:=aN w2 k3 0 _ _ n;have c3:=cr_ n 0 (U P L.length R);have T:=aJ (m.box y N.2.1 N.2.2 0 (U A2 r.2.length c2));have S:=aJ (bT i (jU w2 k3 0 (U A2 r.2.length c2)) (bY (fun e=>J.2 e.symm)))
 have t:=aJ (aO w2 k3 0 _ _ (U A2 r.2.length c2) n)
 have z:=aJ ((hk2.wide (k:=k3)).trans (I3.mark w2 b k3 0 (U A2 r.2.length c2) (U A2 r.2.length c2)))
 clear m i hk2 J n u a2 a3 C F I;go_wp2;go_end0;exact⟨rfl,_,T,S,t,z⟩
end Go.Proofs.YtflccikncbhpdaaGreatDoor
