/- Part 5: walks and plain laws. -/
import Derived.Test.YtflccikncbhpdaaGreatDoorZy4
set_option maxHeartbeats 16000000
set_option maxRecDepth 100000
open Go.Lib renaming hid → aJ
open Go renaming cell_of_row → aK, heap_setCell_other → aL, heap_alloc_new → aM, frozen_of_row → aN, heap_setCell_same → aO, bodyPost_ret → aP, lt_of_block → aQ, undef → aR, World → U7, Calls → U8, Value → U9, Addr → U_, Ending → Va
open List renaming getD_eq_getElem?_getD → bD, getElem?_eq_getElem → bE, length_append → bF, length_singleton → bG, getElem_mem → bH, getElem?_eq_none → bI, getElem?_append_left → bJ, length_set → bK, length_map → bL, mem_append → Uv, length_drop → Uw, tail_drop → Uz, length → UA, mem_cons → UB, mem_singleton → UC, drop_eq_nil_of_le → UF, map_append → UG, not_mem_nil → UH, all_eq_true → UK, mem_flatMap → UL, mem_map → UM, take_succ_eq_append_getElem → UN, take_length → UO, append_nil → UU, drop_drop → UW, drop_left → UX, length_cons → UY, mem_of_mem_drop → U1, mem_cons_self → U2, getElem?_map → U4, getElem?_toArray → U5, map_singleton → U6
open Nat renaming le_refl → bM, le_trans → bN, zero_le → bO, ne_of_lt → UD, lt_or_ge → UE, lt_of_lt_of_le → UI, add_assoc → UQ, zero_add → UT, le_of_eq → UZ
open Option.some renaming inj → bQ
open Go.World.ownsRow renaming kept → bT, lt → bU
open Go.IntWalk renaming i64_in → bV
open Exists renaming intro → bW
open Or renaming inl → bX, inr → bY
variable {w w' w0 wr:Go.World} {a c g k a' B:Nat} {A:Option Go.Addr} {sv v sv':Go.Value} {s:ByteArray} {xs:List Go.Value} {e:Go.TypeId}
open Go.Value renaming int → Z, slice → U, string → Q, pointer → M, bool → K, tuple → Ur, agg → Us, slice → Uu, string → Ux, int → UJ, oneCell' → U3
open Go.IntKind renaming i64 → Y, u64 → E, i64 → Ut, u64 → UR
open Option renaming none → V, some → X
open Bool renaming false → O, true → G, not_eq_true → US, and_eq_true → U0
open Go.Obj renaming cells → H
open Go.Ending renaming returned → Uq
open Go.World renaming drewN_drewN → Uy
open Go.World.grownBy renaming refl → UP
open Go.Proofs.Tryz renaming prog → Vb
open Go.Proofs.Tryz
namespace Go.Proofs.YtflccikncbhpdaaGreatDoor
open Go.RowKit Go.Shelf
set_option linter.unusedVariables false
theorem qO:∀(t:List Nat) (b:Bool) (a l c:Nat),(Lx.skip b t a l c).2.1+(Lx.skip b t a l c).1.length=a+t.length:=by
 intro t
 induction t with
 |nil=>intro b a l c;cases b<;>simp[Lx.skip]
 |cons x t ih=>
  intro b a l c;cases b with
  |true=>
   rw[Lx.skip];split
   ·rw[ih];simp;omega
   rw[ih];simp;omega
  |false=>
   rw[Lx.skip];split
   ·rw[ih];simp;omega
   grind
theorem Cc{e:List Nat}(h:Pt.LA O e=X O):Fa0 e=e.length:=by
 obtain⟨a',l',c',hs⟩:=Pt.LQ e O O [] 0 1 1 h;rw[UU] at hs;have h1:=qO e O 0 1 1;have h2:(Lx.skip O e 0 1 1).1=[]:=by rw[hs];simp[Lx.skip]
 unfold Fa0
 grind
theorem Cd{b x r:List Nat}(h:Pt.LA O b=X O)(hx:∃c y,x=c::y/\Pt.On c):Fa0 (b++(x++r))=b.length:=by
 obtain⟨c,y,rfl,hc⟩:=hx;obtain⟨a',l',c',hs⟩:=Pt.LQ b O O ((c::y)++r) 0 1 1 h;rw[List.cons_append,Pt.MS hc] at hs;have h1:=qO (b++(c::y++r)) O 0 1 1;unfold Fa0
 grind
def AV(w:U7)(ps:List Pt.P)(e:Va)(w':U7):Prop:=
 ∃v T,e=Uq (Ur #[v,bC])/\IL w' w.heap.size 146 4 v T.length (dK T)/\T.map Pt.Ji=Pt.Jq ps++[(6,[])]/\ID w w'
structure Qj(w0:U7)(s:ByteArray)(ps:List Pt.P)(e:List Nat)(at_:Nat)(T:List IY)(qs:List Pt.P)(v:U9)(wr:U7):Prop where
 own:IL wr w0.heap.size 146 4 v T.length (dK T)
 I5:ID w0 wr
 Jp:(bs s).drop at_=Pt.flat qs++e
 ch:Pt.Jo qs e
 dn:∃pre,ps=pre++qs/\T.map Pt.Ji=Pt.Jq pre
 at_:at_<=s.size
def FL(ps:List Pt.P):Prop:=∀p∈ps,p.k=4->p.x=Pt.KY p.y/\Pt.OD p.y/\∀b∈p.y,b<256
theorem oX:(Vb.info? 146).map (fun i=>(i.zero,i.size,i.bytes))=X (X (Us #[Z Y 0,Q ⟨#[]⟩,Z Y 0,Z Y 0]),4,40):=by kernel_rfl
theorem kZ(s:ByteArray)(k:Nat):bs (s.extract k s.size)=(bs s).drop k:=by grind [eV,af]
theorem F4(s:ByteArray)(ps:List Pt.P)(e:List Nat)(w:U7)(hs:s.size<=8192)(he:bs s=Pt.flat ps++e)(hc:Pt.Jo ps e)(hn:ps.length<=2000)(hp:FL ps):
  U8 Vb 129 #[Q s] w (AV w ps):=by
 have q8:decide ((8192:Int)<(s.size:Int))=O:=by rw[decide_eq_false_iff_not];omega
 have HP:=aJ hp
 have ah:s.size<=100000:=by omega
 obtain⟨j,z⟩:∃j,w.alloc (H #[Z Y 0,Z Y 0,Z Y 0] 29)=j:=⟨_,rfl⟩
 have aa:Hid (ID w j):=aJ (by rw[<-z];exact(ID.refl _).alloc _)
 have D:Hid (j.heap[w.heap.size]? =X (H #[Z Y 0,Z Y 0,Z Y 0] 29 (0,0))):=aJ (by rw[<-z];exact aM _ _)
 have ad:=aJ z
 have HI:Hid (Qj j s ps e 0 [] ps (U V 0 0) j):=aJ ⟨IL.Jk _ _ _ _,ID.refl _,he,hc,⟨[],rfl,rfl⟩,bO _⟩
 clear z hp he hc;go_enter func129,ntmps129;go_upto_region 1 with fail
 rw[ad.out];obtain⟨kf,N⟩:∃kf,w.heap.size=kf:=⟨_,rfl⟩
 have ai:=aJ N
 rw[N] at D ⊢;clear N ad;go_wp2;go_loopw [4,5] (fun v4 v5 wr=>∃(a:Nat) (T:List IY) (qs:List Pt.P),v5=Z Y (a:Int)/\Hid (Qj j s ps e a T qs v4 wr)) (fun _ v5 _=>s.size-(intOf v5).toNat)
 case atStart=>exact⟨0,[],ps,rfl,HI⟩
 clear HI;obtain⟨a,T,qs,rfl,g⟩:=hrel;obtain⟨_,c4,rfl,_,_,_⟩:=g.own.shape;have ha:=g.at_;have i0:(0:Int)<=(a:Int):=by omega
 have i2:(a:Int)<=(s.size:Int):=by omega
 have L:(s.extract a s.size).size<=100000:=by rw[<-af,kZ,Uw,af];omega
 have h:=fun W=>D4 (s.extract a s.size) W L
 rw[kZ,g.out.Jp] at h;have f:=congrArg UA g.Jp;rw[Uw,af] at f;cases qs with
 |nil=>
  have e0:Pt.flat []++e=e:=by simp[Pt.flat]
  rw[e0] at h f;have t:Pt.LA O e=X O:=g.ch;rw[Cc t] at h;have an:a+e.length=s.size:=by omega
  have wa:Ut.wrap ((a:Int)+(e.length:Int))=(s.size:Int):=by rw[bV _ (by omega)];omega
  have q:=aJ h
  have r:=aJ (fun W=>tO s s.size W ah (bM _))
  have ak:decide (s.size<=s.size)=G:=by simp
  obtain⟨pre,d,I⟩:=g.dn;rw[UU] at d;have al:T.length<=2000:=by
   have:=congrArg UA I
   simp only[bL,Pt.Jq] at this;rw[<-d] at this;omega
  have HT:Hid (T.map Pt.Ji=Pt.Jq ps):=aJ (by rw[d];exact I)
  have m:=aJ g.own
  have S:=aJ g.I5
  have B:Hid (j.heap.size<=wr.heap.size):=aJ g.I5.size
  have HF:=aJ (g.I5.block D)
  clear h t f L d I g e0 an HP;go_wp2_with fail;refine(q _).mono ?_;rintro e w' ⟨rfl,rfl⟩;go_wp2_with fail;refine(r _).mono ?_;rintro e w' ⟨⟨l,c,rfl,_,hc⟩,rfl⟩;go_wp2_with (at_builtin;refine aw (wr:=w') rfl _ _ 138 rfl _ 146 (Us #[Z Y 0,Q ⟨#[]⟩,Z Y 0,Z Y 0]) 4 40 underlying138 oX rfl (by decide) (by decide) _ _ _ rfl m 1 1 [Z Y 6,Q ⟨#[]⟩,Z Y (l:Int),Z Y (c:Int)] rfl rfl rfl rfl ?pn1 B ?_)
  case pn1=>omega
  intro v' n ho hg hd;have F:Hid (IL n j.heap.size 146 4 v' (T++([⟨6,[],l,c⟩]:List IY)).length (dK (T++([⟨6,[],l,c⟩]:List IY)))/\ID j n):=aJ ⟨by rw[<-iB,bF,bG];exact ho,IL.IU S m (bM _) hg⟩
  have i:=F.2.block D
  obtain⟨c0,_⟩:=And.intro ((aK n kf 0 _ _ _ i).trans (rfl:_=X (UJ Y 0))) (aN n kf 0 _ _ i);obtain⟨c1,f1⟩:=And.intro ((aK n kf 1 _ _ _ i).trans (rfl:_=X (UJ Y 0))) (aN n kf 1 _ _ i);obtain⟨c2,f2⟩:=And.intro ((aK n kf 2 _ _ _ i).trans (rfl:_=X (UJ Y 0))) (aN n kf 2 _ _ i);have aj:Hid (AV w ps (Uq (Ur #[v',Us #[Z Y 0,Z Y 0,Z Y 0]])) (((n.setCell ⟨kf,0,V⟩ (Z Y 0)).setCell ⟨kf,1,V⟩ (Z Y 0)).setCell ⟨kf,2,V⟩ (Z Y 0))):=aJ (by
   have ae:=ai.out
   subst ae;have ao:=((ay n w.heap.size 0 (Z Y 0)).trans (ay _ w.heap.size 1 (Z Y 0))).trans (ay _ w.heap.size 2 (Z Y 0));refine⟨v',T++([⟨6,[],l,c⟩]:List IY),rfl,(F.1.I4 i ao (by decide)).base aa.size,by rw[UG,HT.out];rfl,?_⟩
   exact(((aa.up F.2).setCell (p:=⟨w.heap.size,0,V⟩) (bM _) _).setCell (p:=⟨w.heap.size,1,V⟩) (bM _) _).setCell (p:=⟨w.heap.size,2,V⟩) (bM _) _)
  clear F ho hg hd m S HF i q r HT;go_wp2;refine aP (v:=Ur #[v',Us #[Z Y 0,Z Y 0,Z Y 0]]) (by simp[results,results129,go_sem,c0,c1,c2]) rfl ?_
  exact aj
 |cons p qs=>
  obtain⟨hb,ht,ag,t⟩:=g.ch;have e0:Pt.flat (p::qs)++e=p.b++(p.x++(Pt.flat qs++e)):=by simp[Pt.flat]
  have R:=g.Jp
  rw[e0] at h f R;rw[Cd hb ht.PZ] at h;simp only[bF] at f;obtain⟨_,_,hx,_⟩:=ht.PZ;have aq:1<=p.x.length:=by rw[hx];simp
  obtain⟨a2,am⟩:∃a2,a+p.b.length=a2:=⟨_,rfl⟩
  have wa:Ut.wrap ((a:Int)+(p.b.length:Int))=(a2:Int):=by rw[bV _ (by omega)];omega
  have u:(bs s).drop a2=p.x++(Pt.flat qs++e):=by rw[<-am,<-UW,R,UX]
  have A:(s.extract a2 s.size).size<=100000:=by rw[<-af,kZ,Uw,af];omega
  have q:=aJ h
  have r:=aJ (fun W=>tO s a2 W ah (by omega))
  have ac:=aJ (fun W=>F0 (s.extract a2 s.size) (p.k,p.y,p.x.length) W A (by rw[kZ,u];exact ht.tok _ ag) (fun h4=>by
   obtain⟨pre,d,_⟩:=g.dn;obtain⟨h1,h2,h3⟩:=HP.out p (by rw[d];simp) h4
   exact⟨Pt.flat qs++e,by rw[kZ,u,<-h1],h2,h3⟩))
  have ak:decide (s.size<=a2)=O:=by rw[decide_eq_false_iff_not];omega
  have j0:(0:Int)<=(a2:Int):=by omega
  have j2:(a2:Int)<=(s.size:Int):=by omega
  have al:T.length<2000:=by
   obtain⟨pre,d,I⟩:=g.dn;have:=congrArg UA I;simp only[bL,Pt.Jq] at this;have h2:=congrArg UA d;rw[bF,UY] at h2;omega
  have tl:decide ((2000:Int)<=(T.length:Int))=O:=by rw[decide_eq_false_iff_not];omega
  have wx:Ut.wrap ((a2:Int)+(p.x.length:Int))=((a2+p.x.length:Nat):Int):=by rw[bV _ (by omega)];push_cast;rfl
  have F:Hid (∀v W l c,IL W j.heap.size 146 4 v (T.length+1) (dK T++[Z Y (p.k:Int),Q (ab p.y),Z Y (l:Nat),Z Y (c:Nat)])->ID j W->Qj j s ps e (a2+p.x.length) (T++[⟨p.k,p.y,l,c⟩]) qs v W):=aJ (fun v W l c h1 h2=>by
   obtain⟨pre,d,I⟩:=g.dn;refine⟨by rw[<-iB,bF,bG];exact h1,h2,by rw[<-UW,u,UX],t,⟨pre++[p],by rw[d];simp,?_⟩,by omega⟩
   rw[UG,I];simp[Pt.Jq,Pt.Ji])
  have m:=aJ g.own
  have S:=aJ g.I5
  have ap:s.size-(a2+p.x.length)<s.size-a:=by omega
  clear h f L g e0 hb ht ag t R hx u A HP;go_wp2_with fail;refine(q _).mono ?_;rintro e w' ⟨rfl,rfl⟩;go_wp2_with fail;refine(r _).mono ?_;rintro e w' ⟨⟨l,c,rfl,_,hc⟩,rfl⟩;go_wp2_with fail;refine(ac _).mono ?_;rintro e n ⟨rfl,J⟩;have o:=aJ (m.up J);have C:=aJ (S.up J);have B:Hid (j.heap.size<=n.heap.size):=aJ C.size;simp only;clear J ac q r m S;go_wp2_with (at_builtin;refine aw (wr:=n) rfl _ _ 138 rfl _ 146 (Us #[Z Y 0,Q ⟨#[]⟩,Z Y 0,Z Y 0]) 4 40 underlying138 oX rfl (by decide) (by decide) _ _ _ rfl o 1 1 [Z Y (p.k:Int),Q (ab p.y),Z Y (l:Int),Z Y (c:Int)] rfl rfl rfl rfl ?pn2 B ?_)
  case pn2=>omega
  intro v' w6 ho hg hd;have HR:=aJ (F v' w6 l c ho (IL.IU C o (bM _) hg));clear ho hg hd F o C;go_wp2;go_roundw
  case rel=>exact⟨a2+p.x.length,_,_,rfl,HR⟩
  simp[intOf];omega
namespace Pt
def Lt(l:List Nat):Prop:=∀x∈l,x<256
theorem JZ{l:List Nat}(h:l.all (fun b=>decide (b<256))=G):Lt l:=fun b a=>of_decide_eq_true (UK.mp h b a)
theorem Lt.LP{a b:List Nat}(ha:Lt a)(c:Lt b):Lt (a++b):=fun x hx=>(Uv.mp hx).elim (ha x) (c x)
theorem oN:Lt sp:=JZ rfl
theorem oO(s:ByteArray):Lt (bs s):=fun _ a=>ed a
theorem zq{s:List Nat}(h:Lt s):Lt (quote s):=by
 have h1:∀n,n<16->K6 n<256:=by decide
 have h2:Lt (Jv s):=fun x hx=>by
  obtain⟨b,c,hx⟩:=UL.mp hx;have d:=h b c;have:=h1 (b/16) (by omega)
  have:=h1 (b%16) (by omega)
  unfold q1 at hx;split at hx
  ·simp at hx;omega
  grind
 exact Lt.LP (a:=[34]) (JZ rfl) (h2.LP (JZ rfl))
structure PY(p:P):Prop where
 b:Lt p.b
 x:Lt p.x
 y:Lt p.y
 l:p.y.length<=8192
theorem eM{b x y:List Nat}(a:Lt b)(h:(x++y).all (fun b=>decide (b<256))=G)(c:y.length<=8192):PY ⟨b,x,k,y⟩:=⟨a,fun b a=>JZ h b (by simp[show b∈x from a]),fun b a=>JZ h b (by simp[show b∈y from a]),c⟩
theorem yG(h:(bs s).length<=8192):PY ⟨sp,bs s,k,bs s⟩:=⟨oN,oO s,oO s,h⟩
theorem qZ(h:(bs s).length<=8192):PY ⟨sp,quote (bs s),k,bs s⟩:=⟨oN,zq (oO s),oO s,h⟩
theorem Ax{d:Nat}(h:Lx.I1 d=G):d<256:=by grind [Lx.I1]
theorem lK{n:Int}(a:0<=n)(h:n<1000000):PY ⟨sp,dec n.toNat,2,dec n.toNat⟩:=by
 have hd:Lt (dec n.toNat):=fun d hd=>Ax ((nH (my a h)).2.1 d hd)
 exact⟨oN,hd,hd,by have:=JW a h;show(dec n.toNat).length<=8192;omega⟩
theorem EF{s:Int}(h:nN s):PY ⟨sp,KI s,1,KI s⟩:=by
 rcases h with rfl|rfl|rfl|rfl|rfl|rfl<;>exact eM oN (by decide) (by decide)
theorem EG{n:Int}(h:n=1\/n=2\/n=3):PY ⟨sp,J3 n,1,J3 n⟩:=by rcases h with rfl|rfl|rfl<;>exact eM oN (by decide) (by decide)
theorem EH{j:Jd}(h:Mz j)(b:List Nat)(hB:Lt b):∀p∈ju b j,PY p:=by
 intro p d;unfold ju at d;simp only[Uv,UB,UH,or_false,UL] at d;have g:=h.b;have hc:=h.c;have hs:=h.st;have m:=h.bu;have i:=h.wi;rcases d with(rfl|rfl|rfl|rfl|rfl)|⟨v,hv,d⟩|d|d|(rfl|rfl|rfl|rfl|rfl|rfl|rfl|rfl|rfl|rfl)|d|rfl
 ·exact eM hB (by decide) (by decide)
 ·exact yG (by have:=h.nm.2.1;omega)
 ·exact eM (JZ (by decide)) (by decide) (by decide)
 ·exact eM (JZ (by decide)) (by decide) (by decide)
 ·exact qZ (by have:=h.run.2.1;omega)
 ·unfold ik at d;simp only[UB,UH,or_false] at d;rcases d with rfl|rfl|rfl|rfl
  ·exact eM (JZ (by decide)) (by decide) (by decide)
  ·exact yG (by have:=(h.IJ v hv).1.2.1;omega)
  ·exact eM (JZ (by decide)) (by decide) (by decide)
  exact qZ (by have:=(h.IJ v hv).2.2.1;omega)
 ·unfold fp at d;split at d
  ·cases d
  rcases UB.mp d with rfl|d
  ·exact eM (JZ (by decide)) (by decide) (by decide)
  rcases mF d with rfl|⟨q,f,d⟩
  ·exact eM (JZ (by decide)) (by decide) (by decide)
  obtain⟨s,hs,rfl⟩:=UM.mp f;rw[UC.mp d];exact yG (by have:=(h.IC s hs).2.1;omega)
 ·unfold eK at d;split at d
  ·next e=>
   simp only[UB,UH,or_false] at d;rcases d with rfl|rfl
   ·exact eM (JZ (by decide)) (by decide) (by decide)
   exact⟨oN,Lt.LP (a:=[47]) (JZ rfl) ((oO _).LP (JZ rfl)),oO _,by have:=(h.ready e).2.1;show(bs j.ready).length<=8192;omega⟩
  cases d
 ·exact eM (JZ (by decide)) (by decide) (by decide)
 ·exact EG h.rs
 ·exact eM (JZ (by decide)) (by decide) (by decide)
 ·exact lK g.1 g.2
 ·exact lK hc.1 hc.2
 ·exact lK hs.1 hs.2
 ·exact eM (JZ (by decide)) (by decide) (by decide)
 ·exact lK (by omega) (by omega)
 ·exact lK i.1 i.2
 ·exact eM (JZ (by decide)) (by decide) (by decide)
 ·rcases mF d with rfl|⟨q,f,d⟩
  ·exact eM (JZ (by decide)) (by decide) (by decide)
  obtain⟨r,l,rfl⟩:=UM.mp f;obtain⟨h1,h2,k⟩:=h.la r l;unfold dM at d;simp only[UB,UH,or_false] at d;rcases d with rfl|rfl
  ·exact EF h1
  exact lK h2 k
 exact eM (JZ (by decide)) (by decide) (by decide)
theorem ui:∀{js:List Jd} {b:List Nat},Lt b->(∀j∈js,Mz j)->∀p∈JB b js,PY p:=by
 intro js
 induction js with
 |nil=>intro b _ _ p a;cases a
 |cons j js ih=>
  intro b hB h p a;rw[JB] at a;rcases Uv.mp a with a|a
  ·exact EH (h j (by simp)) b hB p a
  exact ih (JZ rfl) (fun k hk=>h k (by simp[hk])) p a
def NR(js L:List Jd):Prop:=L.length=js.length/\∀i,i<js.length->∃ln a,L[i]? =(js[i]?).map fun j=>at_ j ln a
theorem Mn{js:List Jd}(hj:∀j∈js,Lo j)(q:js.length<=4):
  ∀T:List IY,T.map Ji=Jq (JB [] js)++[(6,[])]->T.length<=100000/\M8 T/\(∀t∈T,t.text.length<=8192)/\∃f L,Gm.Js f [] (T.drop 0)=X L/\NR js L:=by
 intro T m;have h:=fun j hm=>(hj j hm).pr
 have hc:Jo (JB [] js) [10]:=KO h rfl
 have h1:=eE hc
 have h2:=dY hj (b:=[]) (by decide)
 have o:=congrArg UA m
 simp only[bL,bF,Jq,UY,List.length_nil] at o;have c:∀t∈T,(∀b∈t.text,b<256)/\t.text.length<=8192:=fun t d=>by
  have a:Ji t∈Jq (JB [] js)++[(6,[])]:=by grind
  rcases Uv.mp a with a|a
  ·obtain⟨p,i,e⟩:=UM.mp a;have k:=ui (JZ rfl) h p i;have g:t.text=p.y:=(congrArg Prod.snd e).symm;rw[g];exact⟨k.y,k.l⟩
  have g:t.text=[]:=congrArg Prod.snd (UC.mp a)
  rw[g];exact⟨fun b n=>(by cases n),bO _⟩
 obtain⟨L,a1,a2,a3⟩:=uI js [] (js.length+1) [] T h (by simp;omega) (by omega) m
 exact⟨by omega,fun t d=>(c t d).1,fun t d=>(c t d).2,_,L,a1,a2,a3⟩
theorem Ow{js:List Jd}(hj:∀j∈js,Lo j):FL (JB [] js):=fun p a=>(pd (fun j hm=>(hj j hm).pr) p a).2
theorem MR{js:List Jd}(hj:∀j∈js,Lo j)(c:js.length<=4)(a:js≠[]):(js.flatMap Kg).length<=1761/\(JB [] js).length<=2000:=by
 have hc:Jo (JB [] js) [10]:=KO (fun j hm=>(hj j hm).pr) rfl
 have h1:=eE hc
 have h2:=dY hj (b:=[]) (by decide)
 rw[<-MG a,bF];simp;omega
theorem Nt{js:List Jd}(hj:∀j∈js,Lo j)(a:js≠[]):Lt (js.flatMap Kg):=by
 rw[<-MG a];refine Lt.LP (fun x hx=>?_) (JZ rfl)
 obtain⟨p,c,hx⟩:=UL.mp hx;have:=ui (JZ rfl) (fun j hm=>(hj j hm).pr) p c
 exact(this.b.LP this.x) x hx
theorem NC{js:List Jd}(hj:∀j∈js,Lo j)(k:Nat)(a:js.length<=4):((js.take k).flatMap Kg).length<=1761:=by grind [MR]
end Pt
theorem EJ(A:Option U_)(c:Nat)(js:List Jd)(w:U7)(u:JL w A js)(hj:∀j∈js,Pt.Lo j)(P:js.length<=4):
  U8 Vb 57 #[U A js.length c] w (RO_ (Q (ab (js.flatMap Pt.Kg))) w):=by
 have t:=aJ u
 have z:=aJ hj
 have l:Hid (∀k,((js.take k).flatMap Pt.Kg).length<=1761):=aJ (fun k=>Pt.NC hj k P)
 clear u hj;go_enter func57,ntmps57;go_wp2;go_loopw [3,4] (fun v2 v3 wr=>∃k:Nat,v2=Q (ab ((js.take k).flatMap Pt.Kg))/\v3=Z Y (k:Int)/\k<=js.length/\Hid (ID w wr)) (fun _ v3 _=>js.length-(intOf v3).toNat)
 case atStart=>exact⟨0,rfl,rfl,bO _,aJ (ID.refl w)⟩
 obtain⟨k,rfl,rfl,hk,h⟩:=hrel
 by_cases a:k<js.length
 ·have S:(0:Int)<=(k:Int):=by omega
  have T:(k:Int)<(js.length:Int):=by omega
  have wk:Ut.wrap ((k:Int)+1)=(k:Int)+1:=bV _ (by omega)
  obtain⟨b,off,rfl,_,f⟩:=(t.up h).row (by omega)
  have s:=f k a
  have x:=(t.up h).at_ a
  have d:js.getD k cE∈js:=gm_ a
  have g:=z _ d
  have m:Hid ((js.take (k+1)).flatMap Pt.Kg=(js.take k).flatMap Pt.Kg++Pt.Kg (js.getD k cE)):=aJ (by
   rw[UN a,List.flatMap_append,List.flatMap_singleton,bD,bE a];rfl)
  have hsz:=l (k+1)
  rw[m.out,bF] at hsz;clear f d;generalize js.getD k cE=j at *;have i:=aJ (fun W (R:ID wr W)=>Gj j W g (x.up R))
  unfold dm at i;obtain⟨C,c1,c2,D,c4,F,I,J,L,N,n,o,p,q,r⟩:=s;have y:Hid (ab ((js.take k).flatMap Pt.Kg)++ab (Pt.Kg j)=ab ((js.take (k+1)).flatMap Pt.Kg)):=aJ (by rw[aE,m.out])
  have z1:¬9223372036854775807<(ab ((js.take k).flatMap Pt.Kg)).size+(ab (Pt.Kg j)).size:=by rw[aD,aD];omega
  clear x g hsz m;generalize ab ((js.take k).flatMap Pt.Kg)=s1 at *;generalize ab (Pt.Kg j)=s2 at *;go_wp2_with fail;refine(i wr (ID.refl wr)).mono ?_;rintro e w2 ⟨rfl,hd⟩;have B:=aJ (h.up hd);clear hd i C c1 c2 D c4 F I J L N n o p q r;go_wp2;go_roundw
  case rel=>exact⟨k+1,congrArg Ux y,by go_num,a,B⟩
  simp[intOf];omega
 obtain rfl:k=js.length:=by omega
 rw[UO];go_wp2;go_ret;exact⟨rfl,h⟩
structure YP(w0 w:U7)(g:Nat)(A:Option U_)(c:Nat)(T:List IY)(a:Nat)(sv:U9):Prop where
 gr:w0.grownBy w (some g)
 I2:w.heap[g]? =some (.cells #[.slice A T.length c,.int .i64 (a:Int),.int .i64 0,.int .i64 0,.int .i64 0,sv] 235 (0,0))
 tk:Ts w 146 A (dK T)
 JA:T.length<=100000
 lt:M8 T
section
variable {w0 w w' : U7} {g : Nat} {A : Option U_} {c : Nat} {T : List IY} {a a' : Nat} {sv sv' : U9}
theorem YP.Jc(h:YP w0 w g A c T a sv):YP w w g A c T a sv:=⟨UP _ _,h.I2,h.tk,h.JA,h.lt⟩
theorem YP.trans(h:YP w0 w g A c T a sv)(k:YP w w' g A c T a' sv'):YP w0 w' g A c T a' sv':=⟨h.gr.trans k.gr,k.I2,k.tk,k.JA,k.lt⟩
theorem YP.up(h:YP w0 w g A c T a sv)(b:ID w w'):YP w0 w' g A c T a sv:=⟨dR h.gr b,b.block h.I2,h.tk.up b,h.JA,h.lt⟩
theorem YP.put(h:YP w0 w g A c T a sv)(a':Nat):YP w0 (w.setCell ⟨g,1,V⟩ (Z Y (a':Int))) g A c T a' sv:=
 ⟨h.gr.trans (ay w g 1 _),aO w g 1 _ _ _ h.I2,h.tk.JQ h.I2 (by decide) _,h.JA,h.lt⟩
theorem YP.Ou(h:YP w0 w g A c T a sv)(v:U9):YP w0 (w.setCell ⟨g,5,V⟩ v) g A c T a v:=
 ⟨h.gr.trans (ay w g 5 _),aO w g 5 _ _ _ h.I2,h.tk.JQ h.I2 (by decide) _,h.JA,h.lt⟩
theorem YP.cells(h:YP w0 w g A c T a sv):w.cell? ⟨g,0,V⟩=X (U A T.length c)/\w.cell? ⟨g,1,V⟩=X (Z Y (a:Int))/\w.frozen? ⟨g,1,V⟩=O/\w.cell? ⟨g,2,V⟩=X (Z Y 0)/\w.cell? ⟨g,5,V⟩=X sv/\w.frozen? ⟨g,5,V⟩=O:=
 ⟨(aK w g 0 _ _ _ h.I2).trans rfl,(aK w g 1 _ _ _ h.I2).trans rfl,aN w g 1 _ _ h.I2,(aK w g 2 _ _ _ h.I2).trans rfl,(aK w g 5 _ _ _ h.I2).trans rfl,aN w g 5 _ _ h.I2⟩
theorem YP.turn(h:YP w w g A c T a sv)(f:w.grownBy w' (X g))(j:w'.heap[g]? =X (H #[U A T.length c,Z Y (a':Int),Z Y 0,Z Y 0,Z Y 0,sv'] 235 (0,0))):YP w w' g A c T a' sv':=by
 refine⟨f,j,?_,h.JA,h.lt⟩;rcases h.tk with q|⟨b,off,cur,fz,i,d,hc⟩
 ·exact bX q
 refine bY ⟨b,off,cur,fz,i,(f.block b (aQ d) (fun e=>?_)).trans d,hc⟩
 injection e with e
 subst e;rw[h.I2] at d;simp at d
theorem YP.NZ(h:YP w0 w g A c T a sv)(ha:a<T.length):
  ∃b off,A=X ⟨b,off,V⟩/\w.cell? ⟨b,off+a*4,V⟩=X (Z Y ((T.getD a dT).IF:Int))/\w.cell? ⟨b,off+a*4+1,V⟩=X (Q (ab (T.getD a dT).text))/\w.cell? ⟨b,off+a*4+2,V⟩=X (Z Y ((T.getD a dT).IM:Int))/\w.cell? ⟨b,off+a*4+3,V⟩=X (Z Y ((T.getD a dT).Jb:Int)):=by
 obtain⟨b,off,d,_,hc⟩:=h.tk.rs.at_ (by rw[kG];omega)
 refine⟨b,off,d,?_,?_,?_,?_⟩
 ·have:=hc _ _ (eX T a 0 _ ha rfl);exact this
 ·have:=hc _ _ (eX T a 1 _ ha rfl);rw[<-UQ] at this;exact this
 ·have:=hc _ _ (eX T a 2 _ ha rfl);rw[<-UQ] at this;exact this
 have:=hc _ _ (eX T a 3 _ ha rfl);rw[<-UQ] at this;exact this
end
def ig(w:U7)(g:Nat)(A:Option U_)(c:Nat)(T:List IY)(v:U9)(a':Nat)(sv:U9)(e:Va)(w':U7):Prop:=e=Uq v/\YP w w' g A c T a' sv
theorem qx{T:List IY}(h:YP w0 w g A c T a sv)(ha:a<T.length):
  U8 Vb 130 #[M (X ⟨g,0,V⟩)] w (RO_ (cZ (T.getD a dT)) w):=by
 obtain⟨b,off,rfl,_,_,_,_⟩:=h.NZ ha;obtain⟨_,c1,_⟩:=h.cells;have d:(0:Int)<=(a:Int):=by omega
 have e:(a:Int)<(T.length:Int):=by omega
 unfold cZ;clear h ha;generalize T.getD a dT=t at *;generalize T.length=n at *;go_enter func130,ntmps130;go_wp2;go_region_held3 (fun w'=>w'.cell? ⟨g,0,V⟩=X (U (X ⟨b,off,V⟩) n c)/\w'.cell? ⟨g,1,V⟩=X (Z Y (a:Int))/\w'.cell? ⟨b,off+a*4,V⟩=X (Z Y (t.IF:Int))/\w'.cell? ⟨b,off+a*4+1,V⟩=X (Q (ab t.text))/\w'.cell? ⟨b,off+a*4+2,V⟩=X (Z Y (t.IM:Int))/\w'.cell? ⟨b,off+a*4+3,V⟩=X (Z Y (t.Jb:Int))) (go_keep) (fail)
 all_goals go_wp2
 exact aP (v:=Us #[Z Y (t.IF:Int),Q (ab t.text),Z Y (t.IM:Int),Z Y (t.Jb:Int)]) (by simp[results,results130,go_sem]) rfl ⟨rfl,((ID.refl w).alloc _).drew⟩
theorem dw{T:List IY}(h:YP w0 w g A c T a sv):
  U8 Vb 132 #[M (X ⟨g,0,V⟩)] w fun e w'=>e=Uq (K O)/\w'=w:=by
 obtain⟨_,_,_,c2,_⟩:=h.cells;clear h;go_enter func132,ntmps132;go_wp2;go_ret;exact⟨rfl,rfl⟩
theorem iz{T:List IY}(h:YP w w g A c T a sv){j:Nat}{t:IY}{r:List IY}(hm:Gm.take k (T.drop a)=X (t,r))(hl:t.text.length<=j):
  U8 Vb 202 #[M (X ⟨g,0,V⟩),Z Y (k:Int),Z Y (j:Int)] w (ig w g A c T (cZ t) (a+1) sv):=by
 obtain⟨hd,hk⟩:=aq hm;obtain⟨ha,N,_⟩:=ax hd;have m:=aJ (fun W (ho:ID w W)=>qx (h.up ho) ha)
 rw[N] at m;have q1:((t.IF:Int) !=(k:Int))=O:=by rw[hk];simp
 have q2:decide (j<(ab t.text).size)=O:=by rw[iD,decide_eq_false_iff_not];omega
 have wa:Ut.wrap ((a:Int)+1)=(a:Int)+1:=bV _ (by have:=h.JA;omega)
 have J:Hid (∀W0,W0=w.alloc (H #[Z Y 0,Q ⟨#[]⟩,Z Y 0,Z Y 0] 146)->ID w W0/\W0.heap[w.heap.size]? =X (H #[Z Y 0,Q ⟨#[]⟩,Z Y 0,Z Y 0] 146 (0,0))):=aJ (by rintro W0 rfl;exact⟨(ID.refl w).alloc _,aM w _⟩)
 have y:=aJ h
 have B:g≠w.heap.size:=UD (aQ h.I2)
 clear h hm hd hk ha N hl;unfold cZ at *;generalize ab t.text=s at *;go_enter func202,ntmps202;go_wp2_with fail;obtain⟨C,L⟩:=J _ rfl;refine(m _ C).mono ?_;rintro e w2 ⟨rfl,hd⟩;have I:=aJ ((y.up C).up hd);have x:=aJ (hd.block L);have u:=aJ y;clear hd C L J m y;obtain⟨d,l⟩:∃d,w2.alloc (H #[Z Y (t.IF:Int),Q s,Z Y (t.IM:Int),Z Y (t.Jb:Int)] 146)=d:=⟨_,rfl⟩
 obtain⟨o,q⟩:∃o,w2.heap.size=o:=⟨_,rfl⟩
 obtain⟨kr,i⟩:∃kr,w.heap.size=kr:=⟨_,rfl⟩
 have n:Hid (YP w d g A c T a sv):=aJ (by rw[<-l];exact I.up ((ID.refl _).alloc _))
 have b:Hid (d.heap[kr]? =X (H #[Z Y 0,Q ⟨#[]⟩,Z Y 0,Z Y 0] 146 (0,0))):=aJ (by rw[<-l,<-i];exact((ID.refl _).alloc _).block x)
 have f:Hid (d.heap[o]? =X (H #[Z Y (t.IF:Int),Q s,Z Y (t.IM:Int),Z Y (t.Jb:Int)] 146 (0,0))):=aJ (by rw[<-l,<-q];exact aM _ _)
 have F:kr<w2.heap.size:=by rw[<-i];exact aQ x
 have p:g≠kr:=by rw[<-i];exact B
 have S:kr≠g:=fun e=>p e.symm
 have D:g≠o:=by have:=aQ u.I2;omega
 have aa:o≠g:=fun e=>D e.symm
 have z:=aJ i
 go_upto_region 2 with fail
 clear l q i I x F;have t0:=cr_ f 0 (Z Y (t.IF:Int));have t1:=cr_ f 1 (Q s);have t2:=cr_ f 2 (Z Y (t.IM:Int));have t3:=cr_ f 3 (Z Y (t.Jb:Int));have b0:=cr_ b 0 (Z Y 0);have b1:=cr_ b 1 (Q ⟨#[]⟩);have b2:=cr_ b 2 (Z Y 0);have b3:=cr_ b 3 (Z Y 0);have z0:=aN d kr 0 _ _ b;have z1:=aN d kr 1 _ _ b;have z2:=aN d kr 2 _ _ b;have z3:=aN d kr 3 _ _ b;obtain⟨_,c1,f1,_⟩:=n.cells;have gl:g<d.heap.size:=aQ n.I2;have bl:kr<d.heap.size:=aQ b;have tl:o<d.heap.size:=aQ f;have P:=aJ (dw n);have hx:=fun v0 v1 v2 v3=>YP.turn (a':=a+1) (sv':=sv) u (pL (n.gr.trans (ay d g 1 (Z Y ((a+1:Nat):Int)))) (UZ z) v0 v1 v2 v3) ((ki (w:=d.setCell ⟨g,1,V⟩ (Z Y ((a+1:Nat):Int))) p).trans (aO d g 1 _ _ (Z Y ((a+1:Nat):Int)) n.I2))
 rw[Int.natCast_add] at hx;have R:=aJ hx;clear hx u n b f;go_wp2_with fail;refine P.mono ?_;rintro e w4 ⟨rfl,rfl⟩;go_wp2_with fail;refine aP (v:=Us #[Z Y (t.IF:Int),Q s,Z Y (t.IM:Int),Z Y (t.Jb:Int)]) (by simp[results,results202,go_sem,b0,b1,b2,b3]) rfl ⟨rfl,?_⟩
 exact R _ _ _ _
theorem yb(x:Int)(y:ByteArray)(z u:Int)(w:U7):(Instr.field 146 (Us #[Z Y x,Q y,Z Y z,Z Y u]) 0).run Vb w= .ok (Z Y x) w:=by kernel_rfl
theorem sl(x:Int)(y:ByteArray)(z u:Int)(w:U7):(Instr.field 146 (Us #[Z Y x,Q y,Z Y z,Z Y u]) 1).run Vb w= .ok (Q y) w:=by kernel_rfl
theorem F3{T:List IY}(h:YP w0 w g A c T a sv)(ha:a<T.length)(k:Nat)(x:ByteArray):
  U8 Vb 200 #[M (X ⟨g,0,V⟩),Z Y (k:Int),Q x] w (RO_ (K (decide ((T.getD a dT).IF=k)&&decide (ab (T.getD a dT).text=x))) w):=by
 have j:=aJ (dw h)
 have f:=aJ (fun W (n:ID w W)=>qx (h.up n) ha)
 have l:=yb
 have m:=sl
 clear h ha;generalize T.getD a dT=t at *;unfold cZ at f
 by_cases hk:t.IF=k
 ·have q1:((t.IF:Int)==(k:Int))=G:=by rw[hk];simp
  rw[decide_eq_true hk]
  by_cases i:ab t.text=x
  ·have o:((ab t.text).toList==x.toList)=G:=by rw[i];simp
   rw[decide_eq_true i];clear hk i;go_enter func200,ntmps200;go_wp2_with fail;refine(j).mono ?_;rintro e w' ⟨rfl,rfl⟩;go_wp2_with fail;refine(f _ (ID.refl _)).mono ?_;rintro e w2 ⟨rfl,hd⟩;have b:=aJ hd;clear hd;go_wp2_with fail;refine(f _ b).mono ?_;rintro e _ ⟨rfl,hd⟩;have d:=aJ (b.up hd);clear hd;go_wp2;go_ret;exact⟨rfl,d⟩
  have o:((ab t.text).toList==x.toList)=O:=nI i
  rw[decide_eq_false i];clear hk i;go_enter func200,ntmps200;go_wp2_with fail;refine(j).mono ?_;rintro e w' ⟨rfl,rfl⟩;go_wp2_with fail;refine(f _ (ID.refl _)).mono ?_;rintro e w2 ⟨rfl,hd⟩;have b:=aJ hd;clear hd;go_wp2_with fail;refine(f _ b).mono ?_;rintro e _ ⟨rfl,hd⟩;have d:=aJ (b.up hd);clear hd;go_wp2;go_ret;exact⟨rfl,d⟩
 have q1:((t.IF:Int)==(k:Int))=O:=by rw[beq_eq_false_iff_ne];omega
 rw[decide_eq_false hk];clear hk;go_enter func200,ntmps200;go_wp2_with fail;refine(j).mono ?_;rintro e w' ⟨rfl,rfl⟩;go_wp2_with fail;refine(f _ (ID.refl _)).mono ?_;rintro e w2 ⟨rfl,hd⟩;have b:=aJ hd;clear hd;go_wp2;go_ret;exact⟨rfl,b⟩
theorem lz{T:List IY}(h:YP w0 w g A c T a sv)(ha:a<T.length)(s:Nat)(hs:s<256):
  U8 Vb 200 #[M (X ⟨g,0,V⟩),Z Y 5,Q (ab [s])] w (RO_ (K (Gm.Jw s (T.drop a))) w):=by
 rw[ub h.lt ha hs];exact F3 h ha 5 (ab [s])
theorem sb{T:List IY}(h:YP w w g A c T a sv){s:Nat}(hs:s<256){r:List IY}(hm:Gm.sign s (T.drop a)=X r):
  U8 Vb 203 #[M (X ⟨g,0,V⟩),Q (ab [s])] w (ig w g A c T (Ur #[]) (a+1) sv):=by
 have d:Gm.Jw s (T.drop a)=G:=by
  unfold Gm.sign at hm;split at hm
  ·next e=>exact e
  cases hm
 have ha:a<T.length:=by
  rcases UE a T.length with e|e
  ·exact e
  rw[UF e] at d;cases d
 have i:=aJ (fun W (n:ID w W)=>dw (h.up n))
 have b:=lz h ha s hs
 rw[d] at b;have l:=aJ b;have o:Ut.wrap ((a:Int)+1)=(a:Int)+1:=bV _ (by have:=h.JA;omega)
 have k:=aJ h
 clear h hm d ha hs b;generalize ab [s]=x at *;go_enter func203,ntmps203;go_wp2_with fail;refine(i _ (ID.refl _)).mono ?_;rintro e w' ⟨rfl,rfl⟩;go_wp2_with fail;refine(l).mono ?_;rintro e w2 ⟨rfl,hd⟩;have j:=aJ hd;have f:=aJ (k.up hd);obtain⟨_,c1,f1,_⟩:=f.cells;clear hd k l;go_wp2_with fail;refine(i _ j).mono ?_;rintro e w' ⟨rfl,rfl⟩;have m:=aJ (f.put (a+1));clear f i j;go_wp2;go_end0;exact⟨rfl,m⟩
theorem qG{t:List Nat}(hk:k<t.length):Gm.val (t.take (k+1))=10*Gm.val (t.take k)+(t.getD k 0-48):=by
 rw[UN hk,bD,bE hk];unfold Gm.val;rw[List.foldl_append];rfl
theorem El{t:List Nat}(hd:t.all Lx.I1=G):∀k,k<=t.length->Gm.val (t.take k)<10^k:=by
 intro k
 induction k with
 |zero=>intro _;simp[Gm.val]
 |succ k ih=>
  intro hk;have h1:=ih (by omega)
  have hm:t.getD k 0∈t:=by grind
  have h2:=UK.mp hd _ hm
  unfold Lx.I1 at h2;rw[U0,decide_eq_true_iff,decide_eq_true_iff] at h2;rw[qG (by omega),Nat.pow_succ]
  omega
theorem oi{T:List IY}(h:YP w w g A c T a sv){n:Nat}{r:List IY}(hm:Gm.num (T.drop a)=X (n,r)):
  U8 Vb 251 #[M (X ⟨g,0,V⟩)] w (ig w g A c T (Z E (n:Int)) (a+1) sv):=by
 obtain⟨t,y,rfl,hd,L,q⟩:=ee hm;have m:U8 Vb 202 #[M (X ⟨g,0,V⟩),Z Y 2,Z Y 18] w (ig w g A c T (cZ t) (a+1) sv):=iz h y q;have p:=aJ m;have b:=h.lt.at_ (aq y).1;have hsz:(ab t.text).size=t.text.length:=iD;have D:Hid (∀k (hk:k<(ab t.text).size),48<=(ab t.text)[k].toNat/\(ab t.text)[k].toNat<=57/\Gm.val (t.text.take (k+1))=10*Gm.val (t.text.take k)+((ab t.text)[k].toNat-48)):=aJ (fun k hk=>by
  have e:t.text.getD k 0=(ab t.text)[k].toNat:=by rw[<-be _ k hk,fU _ b]
  have hm:t.text.getD k 0∈t.text:=by rw[bD,bE (by omega)];exact bH _
  have h2:=UK.mp hd _ hm
  unfold Lx.I1 at h2;rw[U0,decide_eq_true_iff,decide_eq_true_iff] at h2;rw[<-e];exact⟨h2.1,h2.2,qG (by omega)⟩)
 have C:Hid (∀k,k<=t.text.length->Gm.val (t.text.take k)<10^18):=aJ (fun k hk=>UI (El hd k hk) (Nat.pow_le_pow_right (by decide) (by omega)))
 have F:Hid (Gm.val (t.text.take t.text.length)=Gm.val t.text):=aJ (by rw[UO])
 clear h hm y hd L m b;unfold cZ at p;generalize ab t.text=s at *;go_enter func251,ntmps251;go_wp2_with fail;refine(p).mono ?_;rintro e w2 ⟨rfl,h2⟩;obtain⟨o,d⟩:∃o,w2.alloc (H #[Z Y (t.IF:Int),Q s,Z Y (t.IM:Int),Z Y (t.Jb:Int)] 146)=o:=⟨_,rfl⟩
 obtain⟨z,l⟩:∃z,w2.heap.size=z:=⟨_,rfl⟩
 have B:Hid (YP w o g A c T (a+1) sv):=aJ (by rw[<-d];exact h2.up ((ID.refl _).alloc _))
 have j:Hid (o.heap[z]? =X (H #[Z Y (t.IF:Int),Q s,Z Y (t.IM:Int),Z Y (t.Jb:Int)] 146 (0,0))):=aJ (by rw[<-d,<-l];exact aM _ _)
 have P:=cr_ j 1 (Q s)
 have I:=aJ (dw B)
 clear h2 p;go_upto_region 2 with fail
 clear d l j;go_wp2_with fail;refine(I).mono ?_;rintro e w' ⟨rfl,rfl⟩;go_wp2;go_loopw [4,5] (fun v i wr=>∃k:Nat,i=Z Y (k:Int)/\k<=t.text.length/\v=Z E ((Gm.val (t.text.take k):Nat):Int)/\wr=w') (fun _ i _=>t.text.length-(intOf i).toNat)
 case atStart=>exact⟨0,rfl,bO _,rfl,rfl⟩
 obtain⟨k,rfl,hk,rfl,rfl⟩:=hrel
 by_cases b:k<t.text.length
 ·have u:k<s.size:=by omega
  obtain⟨b1,b2,b3⟩:=D k u;have v1:=C k hk;have v2:=C (k+1) b;have N:(0:Int)<=(k:Int):=by omega
  have wk:Ut.wrap ((k:Int)+1)=(k:Int)+1:=bV _ (by omega)
  have f:=aJ b3
  rw[b3] at v2;clear b3 hk;generalize Gm.val (t.text.take k)=x at *;have R:UR.wrap (10*(x:Int))=10*(x:Int):=IntWalk.u64_in _ (by omega)
  have w2:IntKind.u8.wrap ((s[k].toNat:Int)-48)=(s[k].toNat:Int)-48:=IntWalk.u8_in _ (by omega)
  have w4:UR.wrap ((s[k].toNat:Int)-48)=(s[k].toNat:Int)-48:=IntWalk.u64_in _ (by omega)
  have S:UR.wrap (10*(x:Int)+((s[k].toNat:Int)-48))=10*(x:Int)+((s[k].toNat:Int)-48):=IntWalk.u64_in _ (by omega)
  have J:Hid (10*(x:Int)+((s[k].toNat:Int)-48)=((Gm.val (t.text.take (k+1)):Nat):Int)):=aJ (by rw[f.out];omega)
  clear v1 v2 f;go_wp2;go_roundw
  case rel=>exact⟨k+1,rfl,b,by rw[J.out],by trivial⟩
  simp[intOf];omega
 obtain rfl:k=t.text.length:=by omega
 rw[F.out];go_wp2;go_ret;exact⟨rfl,B⟩
theorem xh(l:List ByteArray)(k:Nat)(x:ByteArray)(h:k<l.length):Gm.hasB (l.take (k+1)) x=(Gm.hasB (l.take k) x||decide (l.getD k ⟨#[]⟩=x)):=by
 rw[bD,bE h];unfold Gm.hasB;rw[UN h,List.any_append,List.any_cons,List.any_nil,Bool.or_false];rfl
theorem rH{l:List ByteArray}{x:ByteArray}(h:k<l.length)(a:l.getD k ⟨#[]⟩=x):Gm.hasB l x=G:=by grind [Gm.hasB]
theorem xQ(A:Option U_)(c:Nat)(l:List ByteArray)(x:ByteArray)(w:U7)(j:Rs w A (ar l))(n:l.length<=1000000):
  U8 Vb 205 #[U A l.length c,Q x] w fun e w'=>e=Uq (K (Gm.hasB l x))/\w'=w:=by
 have h:=aJ j
 clear j;go_enter func205,ntmps205;go_wp2;go_loopw [5] (fun i wr=>∃k:Nat,i=Z Y (k:Int)/\k<=l.length/\Hid (Gm.hasB (l.take k) x=O)/\wr=w) (fun i _=>l.length-(intOf i).toNat)
 case atStart=>exact⟨0,rfl,bO _,aJ rfl,rfl⟩
 obtain⟨k,rfl,hk,g,rfl⟩:=hrel
 by_cases a:k<l.length
 ·have o:(0:Int)<=(k:Int):=by omega
  have p:(k:Int)<(l.length:Int):=by omega
  have wk:Ut.wrap ((k:Int)+1)=(k:Int)+1:=bV _ (by omega)
  obtain⟨b,off,rfl,_,hc⟩:=h.out.at_ (by rw[dO];omega)
  have m:=hc _ _ (fv l k a)
  clear hc
  by_cases d:l.getD k ⟨#[]⟩=x
  ·have f:=aJ (rH a d)
   have q:((l.getD k ⟨#[]⟩).toList==x.toList)=G:=by rw[d];simp
   clear d g h;generalize l.getD k ⟨#[]⟩=y at *;go_wp2;go_ret;exact⟨fl f.symm,rfl⟩
  have f:Hid (Gm.hasB (l.take (k+1)) x=O):=aJ (by rw[xh l k x a,g.out,decide_eq_false d];rfl)
  have q:((l.getD k ⟨#[]⟩).toList==x.toList)=O:=nI d
  clear d g;generalize l.getD k ⟨#[]⟩=y at *;go_wp2;go_roundw
  case rel=>exact⟨k+1,rfl,a,f,by trivial⟩
  simp[intOf];omega
 obtain rfl:k=l.length:=by omega
 have f:Hid (Gm.hasB l x=O):=aJ (by have:=g;rwa [UO] at this)
 go_wp2
 go_ret;exact⟨fl f.symm,rfl⟩
theorem FZ{T:List IY}(h:YP w w g A c T a sv){t:IY}{r:List IY}(hm:Gm.take 1 (T.drop a)=X (t,r))(n:Gm.Ko t.text≠0)(u:t.text.length<=8192):
  U8 Vb 250 #[M (X ⟨g,0,V⟩)] w (ig w g A c T (Z Y (Gm.Ko t.text)) (a+1) sv):=by
 have o:Hid (U8 Vb 202 #[M (X ⟨g,0,V⟩),Z Y 1,Z Y 8192] w (ig w g A c T (cZ t) (a+1) sv)):=aJ (iz h hm u)
 have j:=h.lt.at_ (aq hm).1
 clear h hm u;unfold cZ at o;unfold Gm.Ko at n ⊢
 by_cases h1:t.text=[97,108,119,97,121,115]
 ·rw[ps_ h1];have s:((ab t.text).toList==[97,108,119,97,121,115])=G:=by rw[h1];exact az [97,108,119,97,121,115]
  clear h1 n j;go_enter func250,ntmps250;go_wp2_with fail;refine(o).mono ?_;rintro e w2 ⟨rfl,h2⟩;obtain⟨i,b⟩:∃i,w2.alloc (H #[Z Y (t.IF:Int),Q (ab t.text),Z Y (t.IM:Int),Z Y (t.Jb:Int)] 146)=i:=⟨_,rfl⟩
  obtain⟨k,f⟩:∃k,w2.heap.size=k:=⟨_,rfl⟩
  have l:Hid (YP w i g A c T (a+1) sv):=aJ (by rw[<-b];exact h2.up ((ID.refl _).alloc _))
  have d:Hid (i.heap[k]? =X (H #[Z Y (t.IF:Int),Q (ab t.text),Z Y (t.IM:Int),Z Y (t.Jb:Int)] 146 (0,0))):=aJ (by rw[<-b,<-f];exact aM _ _)
  have x:=cr_ d 1 (Q (ab t.text))
  have p:=aJ (dw l)
  clear h2 o;go_upto_region 2 with fail
  clear b f d;go_wp2_with fail;refine(p).mono ?_;rintro e w' ⟨rfl,rfl⟩;go_wp2;go_ret;exact⟨rfl,l⟩
 rw[ng_ h1] at n ⊢;have n1:((ab t.text).toList==[97,108,119,97,121,115])=O:=aC (m:=[97,108,119,97,121,115]) j (by decide) h1
 by_cases h2:t.text=[111,110,45,102,97,105,108,117,114,101]
 ·rw[ps_ h2];have s:((ab t.text).toList==[111,110,45,102,97,105,108,117,114,101])=G:=by rw[h2];exact az [111,110,45,102,97,105,108,117,114,101]
  clear h1 h2 n j;go_enter func250,ntmps250;go_wp2_with fail;refine(o).mono ?_;rintro e w2 ⟨rfl,h2⟩;obtain⟨i,b⟩:∃i,w2.alloc (H #[Z Y (t.IF:Int),Q (ab t.text),Z Y (t.IM:Int),Z Y (t.Jb:Int)] 146)=i:=⟨_,rfl⟩
  obtain⟨k,f⟩:∃k,w2.heap.size=k:=⟨_,rfl⟩
  have l:Hid (YP w i g A c T (a+1) sv):=aJ (by rw[<-b];exact h2.up ((ID.refl _).alloc _))
  have d:Hid (i.heap[k]? =X (H #[Z Y (t.IF:Int),Q (ab t.text),Z Y (t.IM:Int),Z Y (t.Jb:Int)] 146 (0,0))):=aJ (by rw[<-b,<-f];exact aM _ _)
  have x:=cr_ d 1 (Q (ab t.text))
  have p:=aJ (dw l)
  clear h2 o;go_upto_region 2 with fail
  clear b f d;go_wp2_with fail;refine(p).mono ?_;rintro e w' ⟨rfl,rfl⟩;go_wp2;go_ret;exact⟨rfl,l⟩
 rw[ng_ h2] at n ⊢;have n2:((ab t.text).toList==[111,110,45,102,97,105,108,117,114,101])=O:=aC (m:=[111,110,45,102,97,105,108,117,114,101]) j (by decide) h2
 by_cases q:t.text=[110,101,118,101,114]
 ·rw[ps_ q];have s:((ab t.text).toList==[110,101,118,101,114])=G:=by rw[q];exact az [110,101,118,101,114]
  clear h1 h2 q n j;go_enter func250,ntmps250;go_wp2_with fail;refine(o).mono ?_;rintro e w2 ⟨rfl,h2⟩;obtain⟨i,b⟩:∃i,w2.alloc (H #[Z Y (t.IF:Int),Q (ab t.text),Z Y (t.IM:Int),Z Y (t.Jb:Int)] 146)=i:=⟨_,rfl⟩
  obtain⟨k,f⟩:∃k,w2.heap.size=k:=⟨_,rfl⟩
  have l:Hid (YP w i g A c T (a+1) sv):=aJ (by rw[<-b];exact h2.up ((ID.refl _).alloc _))
  have d:Hid (i.heap[k]? =X (H #[Z Y (t.IF:Int),Q (ab t.text),Z Y (t.IM:Int),Z Y (t.Jb:Int)] 146 (0,0))):=aJ (by rw[<-b,<-f];exact aM _ _)
  have x:=cr_ d 1 (Q (ab t.text))
  have p:=aJ (dw l)
  clear h2 o;go_upto_region 2 with fail
  clear b f d;go_wp2_with fail;refine(p).mono ?_;rintro e w' ⟨rfl,rfl⟩;go_wp2;go_ret;exact⟨rfl,l⟩
 rw[ng_ q] at n;exact absurd rfl n
theorem oY:(Vb.info? 9).map (fun i=>(i.zero,i.size,i.bytes))=X (X (Q ⟨#[]⟩),1,16):=by kernel_rfl
theorem sY:(Vb.info? 241).map (fun i=>(i.zero,i.size,i.bytes))=X (X (Us #[Z Y 0,Z E 0]),2,16):=by kernel_rfl
def FX(w:U7)(A:Option U_):Prop:=∀b o,A=X ⟨b,o,V⟩->w.heap.size<=b
theorem ur{W:U7}{s n:Nat}(h:IL W w.heap.size e s (U A n c) n xs):FX w A:=by
 intro b o d;rcases h with⟨_,⟨a,_⟩|⟨q,cap,f,a,g,_⟩⟩
 ·injection a with a;rw[d] at a;cases a
 grind
def qj(w:U7)(g:Nat)(A:Option U_)(c:Nat)(T:List IY)(a:TypeId)(n:Nat)(xs:List U9)(r:List IY)(sv:U9)(e:Va)(w':U7):Prop:=
 ∃A' c' a',e=Uq (U A' n c')/\Ts w' a A' xs/\r=T.drop a'/\YP w w' g A c T a' sv/\FX w A'
def AS(w:U7)(g:Nat)(A:Option U_)(c:Nat)(T:List IY)(sv:U9)(j J:Jd)(r:List IY)(gk:Nat)(v3:U9)(wr:U7):Prop:=
 ∃(a:Nat) (L:List ByteArray) (f:Nat),gk=T.length-a/\Hid (IL wr w.heap.size 9 1 v3 L.length (ar L))/\Hid (YP w wr g A c T a sv)/\Hid (Gm.IC f (cV {j with IC:=L}) (T.drop a)=X (J,r))
theorem YP.N5{T:List IY}{s n:Nat}(h:YP w wr g A c T a sv)(m:g<w.heap.size)(j:IL wr w.heap.size e s v n xs)(b:wr.grownBy w' v.ownBlock)(k:146≠e):YP w w' g A c T a sv:=by
 have d:∀q,v.ownBlock=X q->w.heap.size<=q:=fun q l=>(bU j q l).1
 refine⟨⟨b.os.trans h.gr.os,b.tape.trans h.gr.tape,b.output.trans h.gr.output,bN h.gr.size b.size,fun i f hne=>?_⟩,?_,h.tk.grown j k b,h.JA,h.lt⟩
 ·exact(b.block i (UI f h.gr.size) (fun e=>by have:=d i e.symm;omega)).trans (h.gr.block i f hne)
 exact(b.block g (aQ h.I2) (fun e=>by have:=d g e.symm;omega)).trans h.I2
theorem ua{T:List IY}(h:T.drop a≠[]):a<T.length:=by simp_all
theorem BG{T:List IY}(h:YP w w g A c T a sv){f:Nat}{j J:Jd}{r:List IY}(hm:Gm.IC f (cV j) (T.drop a)=X (J,r))(hj:j.IC=[])(hr:r≠[]):
  U8 Vb 249 #[M (X ⟨g,0,V⟩)] w (qj w g A c T 9 J.IC.length (ar J.IC) r sv):=by
 have z:g<w.heap.size:=aQ h.I2
 have aj:=h.JA
 have ae:Hid (Gm.IC f (cV {j with IC:=[]}) (T.drop a)=X (J,r)):=aJ (by have e:({j with IC:=[]}:Jd)=j:=(by rw[<-hj]);rw[e];exact hm)
 have HI:Hid (AS w g A c T sv j J r (T.length-a) (U V 0 0) w):=aJ ⟨a,[],f,rfl,aJ (IL.Jk _ _ _ _),aJ h,ae⟩
 have af:=aJ hr
 clear h hm hj hr;go_enter func249,ntmps249;go_wp2;go_loopg [3,4] (T.length-a) (fun gk v3 _ wr=>AS w g A c T sv j J r gk v3 wr)
 case atStart=>exact HI
 clear HI;obtain⟨a,L,f,rfl,HO,HP,HM⟩:=hrel;obtain⟨A3,c3,rfl,_,_,_⟩:=HO.shape;obtain⟨f1,t,h1,h2,h3⟩:=nf (j:={j with IC:=L}) HM
 obtain⟨ht,u,hf⟩:=eB h1;have ai:L.length<16:=by rw[decide_eq_false_iff_not] at hf;simp only at hf;omega
 have ak:decide ((16:Int)<=(L.length:Int))=O:=by rw[decide_eq_false_iff_not];omega
 have HT:Hid (U8 Vb 202 #[M (X ⟨g,0,V⟩),Z Y 1,Z Y 32] wr (ig wr g A c T (cZ t) (a+1) sv)):=aJ (iz HP.Jc ht u)
 have H2:=aJ h2
 have n:=aJ h3
 clear h1 h2 h3 ht u hf HM;unfold cZ at HT;generalize ab t.text=s at *;go_wp2_with fail;refine(HT).mono ?_;rintro e w2 ⟨rfl,B⟩;obtain⟨D,q⟩:∃D,w2.alloc (H #[Z Y (t.IF:Int),Q s,Z Y (t.IM:Int),Z Y (t.Jb:Int)] 146)=D:=⟨_,rfl⟩
 obtain⟨kt,ac⟩:∃kt,w2.heap.size=kt:=⟨_,rfl⟩
 have p:Hid (YP w D g A c T (a+1) sv):=aJ (by rw[<-q];exact(HP.trans B).up ((ID.refl _).alloc _))
 have o:Hid (IL D w.heap.size 9 1 (U A3 L.length c3) L.length (ar L)):=aJ (by rw[<-q];exact(eT HO B.gr z).up ((ID.refl _).alloc _))
 have S:Hid (D.heap[kt]? =X (H #[Z Y (t.IF:Int),Q s,Z Y (t.IM:Int),Z Y (t.Jb:Int)] 146 (0,0))):=aJ (by rw[<-q,<-ac];exact aM _ _)
 have t1:=cr_ S 1 (Q s)
 have HF:=aJ (dw p)
 have m:=xQ A3 c3 L s D (by obtain⟨_,_,e,C,_,_⟩:=o.out.shape;injection e with e1 e2 e3;rw[e1];exact C.rs) (by omega)
 rw[H2.out] at m;have HH:=aJ m;have hsz:w.heap.size<=D.heap.size:=p.gr.size;clear B HT HP HO m;go_upto_region 3 with fail
 clear q ac;go_wp2_with fail;refine(HF).mono ?_;rintro e w' ⟨rfl,rfl⟩;go_wp2_with fail;refine(HH).mono ?_;rintro e w' ⟨rfl,rfl⟩;go_wp2_with (at_builtin;refine aw (wr:=w') rfl _ _ 59 rfl _ 9 (Q ⟨#[]⟩) 1 16 underlying59 oY rfl (by decide) (by decide) _ _ _ rfl o 1 1 [Q s] rfl rfl rfl rfl ?pn1 hsz ?_)
 case pn1=>omega
 intro v4 w4 ad aa ag;have l:Hid (YP w w4 g A c T (a+1) sv):=aJ (p.N5 z o aa (by decide))
 have i:Hid (IL w4 w.heap.size 9 1 v4 (L++[s]).length (ar (L++[s]))):=aJ (by
  have e:ar (L++[s])=ar L++[Q s]:=by simp[ar]
  rw[e,bF,bG];exact ad)
 clear ad aa ag o p HF HH S t1
 by_cases b:Gm.Jw 44 (T.drop (a+1))=G
 ·have y:a+1<T.length:=by
   rcases UE (a+1) T.length with e|e
   ·exact e
   rw[UF e] at b;cases b
  have k:=lz l y 44 (by decide)
  rw[b] at k;have R:Hid (U8 Vb 200 #[M (X ⟨g,0,V⟩),Z Y 5,Q ⟨#[44]⟩] w4 (RO_ (K G) w4)):=aJ k;have d:=n.out;rw[more,ps_ b,Uz] at d;have I:=aJ d;have wa:Ut.wrap (((a+1:Nat):Int)+1)=((a+1:Nat):Int)+1:=bV _ (by omega)
  clear b k d n;obtain⟨A5,c5,rfl,_,_,_⟩:=i.shape;go_wp2_with fail;refine(R).mono ?_;rintro e w5 ⟨rfl,hd⟩;have x:=aJ (l.up hd);have N:=aJ (i.up hd);obtain⟨_,c1,f1,_⟩:=x.cells;clear hd l i R;have HX:Hid (AS w g A c T sv j J r (T.length-(a+1+1)) (U A5 (L.length+1) c5) (w5.setCell ⟨g,1,V⟩ (Z Y ((a:Int)+1+1)))):=aJ (by rw[show(a:Int)+1+1=((a+1:Nat):Int)+1 by omega,show L.length+1=(L++[s]).length by simp];exact⟨a+1+1,L++[s],_,rfl,aJ (eT N (ay w5 g 1 _) z),aJ (x.put (a+1+1)),I⟩)
  clear x N I;go_wp2;go_roundg (T.length-(a+1+1))
  case rel=>exact HX
  omega
 rw[US] at b;have d:=n.out;rw[more,ng_ (by rw[b];decide)] at d
 injection d with d
 injection d with e1 e2
 have y:a+1<T.length:=ua (by rw[e2];exact af)
 have k:=lz l y 44 (by decide)
 rw[b] at k;have R:Hid (U8 Vb 200 #[M (X ⟨g,0,V⟩),Z Y 5,Q ⟨#[44]⟩] w4 (RO_ (K O) w4)):=aJ k;have W:J.IC=L++[s]:=by rw[<-e1];rfl
 have F:=aJ W
 have P:=aJ e2
 clear b k n e1 e2 W;obtain⟨A5,c5,rfl,_,_,_⟩:=i.shape;go_wp2_with fail;refine(R).mono ?_;rintro e w5 ⟨rfl,hd⟩;have HX:Hid (qj w g A c T 9 J.IC.length (ar J.IC) r sv (Uq (U A5 (L.length+1) c5)) w5):=aJ (by
  rw[show L.length+1=(L++[s]).length by simp]
  have ah:=ur i
  obtain⟨_,_,e,C,_,_⟩:=(i.up hd).shape;injection e with q1 q2 q3
  subst q1;rw[F.out];exact⟨_,_,a+1,rfl,C,P.symm,l.up hd,ah⟩)
 clear hd l i R F P;go_wp2;go_ret;exact HX
def AO(w:U7)(g:Nat)(A:Option U_)(c:Nat)(T:List IY)(sv:U9)(j J:Jd)(r:List IY)(gk:Nat)(v3:U9)(wr:U7):Prop:=
 ∃(a:Nat) (L:List (Int×Int)) (f:Nat),gk=T.length-a/\Hid (IL wr w.heap.size 241 2 v3 L.length (I8 L))/\Hid (YP w wr g A c T a sv)/\Hid (Gm.I8 f (cV {j with IK:=L}) (T.drop a)=X (J,r))
theorem F1{T:List IY}(h:YP w w g A c T a sv){f:Nat}{j J:Jd}{r:List IY}(hm:Gm.I8 f (cV j) (T.drop a)=X (J,r))(hj:j.IK=[])(hr:r≠[])(am:∀t∈T,t.text.length<=8192):
  U8 Vb 253 #[M (X ⟨g,0,V⟩)] w (qj w g A c T 241 J.IK.length (I8 J.IK) r sv):=by
 have q:g<w.heap.size:=aQ h.I2
 have au:=h.JA
 have ak:Hid (Gm.I8 f (cV {j with IK:=[]}) (T.drop a)=X (J,r)):=aJ (by have e:({j with IK:=[]}:Jd)=j:=(by rw[<-hj]);rw[e];exact hm)
 have HI:Hid (AO w g A c T sv j J r (T.length-a) (U V 0 0) w):=aJ ⟨a,[],f,rfl,aJ (IL.Jk _ _ _ _),aJ h,ak⟩
 have al:=aJ hr
 clear h hm hj hr;go_enter func253,ntmps253;go_wp2;go_loopg [3,4] (T.length-a) (fun gk v3 _ wr=>AO w g A c T sv j J r gk v3 wr)
 case atStart=>exact HI
 clear HI;obtain⟨a,L,f,rfl,HO,HP,HM⟩:=hrel;obtain⟨A3,c3,rfl,_,_,_⟩:=HO.shape;obtain⟨f1,t,n,ht,h2,h4,h5,h3⟩:=mX (j:={j with IK:=L}) HM
 have ar:L.length<5:=h2
 have av:decide ((5:Int)<=(L.length:Int))=O:=by rw[decide_eq_false_iff_not];omega
 have HT:Hid (U8 Vb 202 #[M (X ⟨g,0,V⟩),Z Y 1,Z Y 8192] wr (ig wr g A c T (cZ t) (a+1) sv)):=aJ (iz HP.Jc ht (am t (U1 (i:=a) (by rw[(aq ht).1];exact U2 ..))))
 have x:=HP.lt.at_ (aq ht).1
 have C:=aJ (fun W=>DF t.text x W)
 have qs:(Gm.JF t.text==0)=O:=by rw[beq_eq_false_iff_ne];exact h4
 have S:=aJ (fun W (hW:YP W W g A c T (a+1) sv)=>oi hW h5)
 have p:=aJ h3
 clear h2 h3 h4 h5 ht HM x;unfold cZ at HT;generalize ab t.text=s at *;generalize Gm.JF t.text=sg at *;go_wp2_with fail;refine(HT).mono ?_;rintro e w2 ⟨rfl,F⟩;obtain⟨N,u⟩:∃N,w2.alloc (H #[Z Y (t.IF:Int),Q s,Z Y (t.IM:Int),Z Y (t.Jb:Int)] 146)=N:=⟨_,rfl⟩
 obtain⟨kt,ah⟩:∃kt,w2.heap.size=kt:=⟨_,rfl⟩
 have o:Hid (YP w N g A c T (a+1) sv):=aJ (by rw[<-u];exact(HP.trans F).up ((ID.refl _).alloc _))
 have aa:Hid (IL N w.heap.size 241 2 (U A3 L.length c3) L.length (I8 L)):=aJ (by rw[<-u];exact(eT HO F.gr q).up ((ID.refl _).alloc _))
 have ae:Hid (N.heap[kt]? =X (H #[Z Y (t.IF:Int),Q s,Z Y (t.IM:Int),Z Y (t.Jb:Int)] 146 (0,0))):=aJ (by rw[<-u,<-ah];exact aM _ _)
 have t1:=cr_ ae 1 (Q s)
 have HF:=aJ (dw o)
 have hsz:w.heap.size<=N.heap.size:=o.gr.size
 clear F HT HP HO;go_upto_region 3 with fail
 clear u ah;go_wp2_with fail;refine(HF).mono ?_;rintro e w' ⟨rfl,rfl⟩;go_wp2_with fail;refine(C _).mono ?_;rintro e w' ⟨rfl,rfl⟩;go_wp2_with fail;refine(C _).mono ?_;rintro e w' ⟨rfl,rfl⟩;go_wp2_with fail;refine(S _ o.Jc).mono ?_;rintro e w6 ⟨rfl,I⟩;have B:=aJ (o.trans I);have y:=aJ (eT aa I.gr q);have aj:w.heap.size<=w6.heap.size:=B.gr.size;clear I o aa HF ae t1 S C;go_wp2_with (at_builtin;refine aw (wr:=w6) rfl _ _ 61 rfl _ 241 (Us #[Z Y 0,Z E 0]) 2 16 underlying61 sY rfl (by decide) (by decide) _ _ _ rfl y 1 1 [Z Y sg,Z E (n:Int)] rfl rfl rfl rfl ?pn1 aj ?_)
 case pn1=>omega
 intro v4 w4 ai ag an;have m:Hid (YP w w4 g A c T (a+1+1) sv):=aJ (B.N5 q y ag (by decide))
 have k:Hid (IL w4 w.heap.size 241 2 v4 (L++[(sg,(n:Int))]).length (I8 (L++[(sg,(n:Int))]))):=aJ (by
  have e:I8 (L++[(sg,(n:Int))])=I8 L++[Z Y sg,Z E (n:Int)]:=by simp[I8]
  rw[e,bF,bG];exact ai)
 clear ai ag an y B
 by_cases b:Gm.Jw 44 (T.drop (a+1+1))=G
 ·have D:a+1+1<T.length:=by
   rcases UE (a+1+1) T.length with e|e
   ·exact e
   rw[UF e] at b;cases b
  have l:=lz m D 44 (by decide)
  rw[b] at l;have HS:Hid (U8 Vb 200 #[M (X ⟨g,0,V⟩),Z Y 5,Q ⟨#[44]⟩] w4 (RO_ (K G) w4)):=aJ l;have d:=p.out;rw[more,ps_ b,Uz] at d;have R:=aJ d;have wa:Ut.wrap (((a+1+1:Nat):Int)+1)=((a+1+1:Nat):Int)+1:=bV _ (by omega)
  clear b l d p;obtain⟨A5,c5,rfl,_,_,_⟩:=k.shape;go_wp2_with fail;refine(HS).mono ?_;rintro e w5 ⟨rfl,hd⟩;have z:=aJ (m.up hd);have ac:=aJ (k.up hd);obtain⟨_,c1,f1,_⟩:=z.cells;clear hd m k HS;have HX:Hid (AO w g A c T sv j J r (T.length-(a+1+1+1)) (U A5 (L.length+1) c5) (w5.setCell ⟨g,1,V⟩ (Z Y ((a:Int)+1+1+1)))):=aJ (by rw[show(a:Int)+1+1+1=((a+1+1:Nat):Int)+1 by omega,show L.length+1=(L++[(sg,(n:Int))]).length by simp];exact⟨a+1+1+1,L++[(sg,(n:Int))],_,rfl,aJ (eT ac (ay w5 g 1 _) q),aJ (z.put (a+1+1+1)),R⟩)
  clear z ac R;go_wp2;go_roundg (T.length-(a+1+1+1))
  case rel=>exact HX
  omega
 rw[US] at b;have d:=p.out;rw[more,ng_ (by rw[b];decide)] at d
 injection d with d
 injection d with e1 e2
 have D:a+1+1<T.length:=ua (by rw[e2];exact al)
 have l:=lz m D 44 (by decide)
 rw[b] at l;have HS:Hid (U8 Vb 200 #[M (X ⟨g,0,V⟩),Z Y 5,Q ⟨#[44]⟩] w4 (RO_ (K O) w4)):=aJ l;have af:J.IK=L++[(sg,(n:Int))]:=by rw[<-e1];rfl
 have P:=aJ af
 have ad:=aJ e2
 clear b l p e1 e2 af;obtain⟨A5,c5,rfl,_,_,_⟩:=k.shape;go_wp2_with fail;refine(HS).mono ?_;rintro e w5 ⟨rfl,hd⟩;have HX:Hid (qj w g A c T 241 J.IK.length (I8 J.IK) r sv (Uq (U A5 (L.length+1) c5)) w5):=aJ (by
  rw[show L.length+1=(L++[(sg,(n:Int))]).length by simp]
  have ao:=ur k
  obtain⟨_,_,e,ap,_,_⟩:=(k.up hd).shape;injection e with q1 q2 q3
  subst q1;rw[P.out];exact⟨_,_,a+1+1,rfl,ap,ad.symm,m.up hd,ao⟩)
 clear hd m k HS P ad;go_wp2;go_ret;exact HX
theorem qS{a:U7}{row:Option Nat}:∀(b:List U9) (o:Nat) (w:U7),a.grownBy w row->a.heap.size<=k->a.grownBy (w.setCells k o b) row:=by
 intro b
 induction b with
 |nil=>intro o w h _;exact h
 |cons v r ih=>intro o w h hk;exact ih (o+1) _ (ie h hk o v) hk
theorem ji{j:Nat}(h:j≠k):∀(a:List U9) (o:Nat) (w:U7),(w.setCells k o a).heap[j]? =w.heap[j]?:=by
 intro a
 induction a with
 |nil=>intro o w;rfl
 |cons v r ih=>intro o w;exact(ih (o+1) _).trans (aL w ⟨k,o,V⟩ j v h)
theorem YP.fill{T:List IY}(d:YP w0 w0 g A c T a sv)(h:YP w0 w g A c T a' sv')(hk:w0.heap.size<=k)(e:g≠k)(b:List U9):YP w0 (w.setCells k 0 b) g A c T a' sv':=
 YP.turn d (qS b 0 w h.gr hk) ((ji e b 0 w).trans h.I2)
def jz:Array U9:=#[Q ⟨#[]⟩,Q ⟨#[]⟩,U V 0 0,U V 0 0,K O,Q ⟨#[]⟩,Z Y 0,Z E 0,Z E 0,Z E 0,Z Y 0,Z E 0,U V 0 0,Z Y 0,Z Y 0]
theorem YP.keep{T:List IY}{o:Obj}(h:YP w w' g A c T a sv)(b:w.heap[k]? =X o)(d:g≠k):w'.heap[k]? =X o:=
 (h.gr.block k (aQ b) (fun e=>d (by injection e with e;exact e.symm))).trans b
theorem YP.Mf{T:List IY}(b:YP w0 w0 g A c T a sv)(h:YP w0 w g A c T a' sv')(hk:w0.heap.size<=k)(d:g≠k)(i:Nat)(v:U9):YP w0 (w.setCell ⟨k,i,V⟩ v) g A c T a' sv':=
 YP.turn b (ie h.gr hk i v) ((aL w ⟨k,i,V⟩ g v d).trans h.I2)
theorem BJ{T:List IY}(h:YP w w g A c T a sv)(j:Jd){x y:Nat}{r:List IY}(hm:Gm.num (T.drop a)=X (x,T.drop (a+1)))(au:1<=x)(av:x<=16)(aa:Gm.num (T.drop (a+1))=X (y,r)):
  U8 Vb 252 #[M (X ⟨g,0,V⟩),dm j] w (ig w g A c T (dm {j with II:=(x:Int),win:=(y:Int)}) (a+1+1) sv):=by
 obtain⟨t,ht,-,-,-,-⟩:=ee hm;have R:=(ax (aq ht).1).1;obtain⟨w1,ac⟩:∃w1,(w.alloc (H #[Q j.nm,Q j.run,U j.eA j.IJ.length j.ec,U j.nA j.IC.length j.nc,K j.IQ,Q j.ready,Z Y j.IE,Z E j.base,Z E j.cap,Z E j.IG,Z Y j.II,Z E j.win,U j.lA j.IK.length j.lc,Z Y j.IM,Z Y j.Jb] 63)).alloc (H #[Q ⟨#[]⟩,Q ⟨#[]⟩,U V 0 0,U V 0 0,K O,Q ⟨#[]⟩,Z Y 0,Z E 0,Z E 0,Z E 0,Z Y 0,Z E 0,U V 0 0,Z Y 0,Z Y 0] 63)=w1:=⟨_,rfl⟩
 obtain⟨kb,o⟩:∃kb,w.heap.size=kb:=⟨_,rfl⟩
 obtain⟨kr,S⟩:∃kr,kb+1=kr:=⟨_,rfl⟩
 obtain⟨k,l,p⟩:=jW (ID.refl ((w.alloc (H #[Q j.nm,Q j.run,U j.eA j.IJ.length j.ec,U j.nA j.IC.length j.nc,K j.IQ,Q j.ready,Z Y j.IE,Z E j.base,Z E j.cap,Z E j.IG,Z Y j.II,Z E j.win,U j.lA j.IK.length j.lc,Z Y j.IM,Z Y j.Jb] 63)).alloc (H #[Q ⟨#[]⟩,Q ⟨#[]⟩,U V 0 0,U V 0 0,K O,Q ⟨#[]⟩,Z Y 0,Z E 0,Z E 0,Z E 0,Z Y 0,Z E 0,U V 0 0,Z Y 0,Z Y 0] 63)));rw[ac] at k l p;rw[o,S] at l;rw[o] at k;have q:Hid (w1.heap[kb]? =X (H (ag j).toArray 63 (0,0))):=aJ k;have D:Hid (w1.heap[kr]? =X (H jz 63 (0,0))):=aJ l;have H1:Hid (YP w w1 g A c T a sv):=aJ (h.up p);have ar:=aQ h.I2;have gb:g≠kb:=by omega
 have gr:g≠kr:=by omega
 have P:kr≠kb:=by omega
 have ae:Hid (w.heap.size<=kr):=aJ (by omega)
 have z:Hid (w.heap.size<=kb):=aJ (by omega)
 have H0:=aJ h
 clear k l p h;have HN:=aJ (qx H1 R);have B:=aJ (fun W (hW:YP W W g A c T a sv)=>oi hW hm)
 have C:=aJ (fun W (hW:YP W W g A c T (a+1) sv)=>oi hW aa)
 have q1:decide ((x:Int)<1)=O:=by rw[decide_eq_false_iff_not];omega
 have q2:decide ((16:Int)<(x:Int))=O:=by rw[decide_eq_false_iff_not];omega
 have wx:Ut.wrap (x:Int)=(x:Int):=bV _ (by omega)
 clear hm aa ht R;generalize T.getD a dT=t0 at *;unfold dm;unfold cZ at HN;go_enter func252,ntmps252;go_upto_region 1 with fail
 clear ac S o;go_wp2_with fail;refine(HN).mono ?_;rintro e w2 ⟨rfl,hd⟩;have H2:=aJ ((H1.up hd).up ((ID.refl _).alloc (H #[Z Y (t0.IF:Int),Q (ab t0.text),Z Y (t0.IM:Int),Z Y (t0.Jb:Int)] 146)));have s:=aJ (((ID.refl _).alloc (H #[Z Y (t0.IF:Int),Q (ab t0.text),Z Y (t0.IM:Int),Z Y (t0.Jb:Int)] 146)).block (hd.block q));have F:=aJ (((ID.refl _).alloc (H #[Z Y (t0.IF:Int),Q (ab t0.text),Z Y (t0.IM:Int),Z Y (t0.Jb:Int)] 146)).block (hd.block D));clear hd HN H1 q D;go_wp2_with fail;refine(B _ H2.Jc).mono ?_;rintro e _ ⟨rfl,i⟩;have H3:=aJ (H2.trans i);have d:=aJ (i.keep s gb);have I:=aJ (i.keep F gr);have HF:=aJ (dw H3);clear i B H2 s F;go_wp2_with fail;refine(HF).mono ?_;rintro e w' ⟨rfl,rfl⟩;have m:=cr_ d 10 (Z Y j.II);have ao:=aN w' kb 10 _ _ d;go_upto_region 6 with fail
 obtain⟨w4,b⟩:∃W,w'.setCell ⟨kb,10,V⟩ (Z Y (x:Int))=W:=⟨_,rfl⟩
 have u:Hid (w4.heap[kb]? =X (H (ag ({j with II:=(x:Int)})).toArray 63 (0,0))):=aJ (by rw[<-b,aO w' kb 10 _ _ _ d.out];simp[ag])
 have J:Hid (w4.heap[kr]? =X (H jz 63 (0,0))):=aJ (by rw[<-b];exact(aL w' ⟨kb,10,V⟩ kr _ P).trans I)
 have H4:=aJ (YP.Mf H0 H3 z gb 10 (Z Y (x:Int)))
 rw[b] at H4 ⊢
 try rw[b] at HTS3
 clear b d I H3;clear m ao;go_wp2_with fail;refine(C _ H4.Jc).mono ?_;rintro e w5 ⟨rfl,i⟩;have H5:=aJ (H4.trans i);have f:=aJ (i.keep u gb);have L:=aJ (i.keep J gr);clear i C H4 u J;have n:=cr_ f 11 (Z E j.win);have ap:=aN w5 kb 11 _ _ f;go_upto_region 7 with fail
 obtain⟨w6,b⟩:∃W,w5.setCell ⟨kb,11,V⟩ (Z E (y:Int))=W:=⟨_,rfl⟩
 have ad:Hid (w6.heap[kb]? =X (H (ag ({j with II:=(x:Int),win:=(y:Int)})).toArray 63 (0,0))):=aJ (by rw[<-b,aO w5 kb 11 _ _ _ f.out];simp[ag])
 have N:Hid (w6.heap[kr]? =X (H jz 63 (0,0))):=aJ (by rw[<-b];exact(aL w5 ⟨kb,11,V⟩ kr _ P).trans L)
 have H6:=aJ (YP.Mf H0 H5 z gb 11 (Z E (y:Int)))
 rw[b] at H6 ⊢
 try rw[b] at HTS3
 clear b f L H5;clear n ap;obtain⟨⟨c0,c1,c2,c3,c4,c5,c6,c7,c8,c9,m,n,af,ah,ai⟩,_⟩:=cQ (show w6.heap[kb]? =X (H #[Q (({j with II:=(x:Int),win:=(y:Int)}:Jd)).nm,Q (({j with II:=(x:Int),win:=(y:Int)}:Jd)).run,U (({j with II:=(x:Int),win:=(y:Int)}:Jd)).eA (({j with II:=(x:Int),win:=(y:Int)}:Jd)).IJ.length (({j with II:=(x:Int),win:=(y:Int)}:Jd)).ec,U (({j with II:=(x:Int),win:=(y:Int)}:Jd)).nA (({j with II:=(x:Int),win:=(y:Int)}:Jd)).IC.length (({j with II:=(x:Int),win:=(y:Int)}:Jd)).nc,K (({j with II:=(x:Int),win:=(y:Int)}:Jd)).IQ,Q (({j with II:=(x:Int),win:=(y:Int)}:Jd)).ready,Z Y (({j with II:=(x:Int),win:=(y:Int)}:Jd)).IE,Z E (({j with II:=(x:Int),win:=(y:Int)}:Jd)).base,Z E (({j with II:=(x:Int),win:=(y:Int)}:Jd)).cap,Z E (({j with II:=(x:Int),win:=(y:Int)}:Jd)).IG,Z Y (({j with II:=(x:Int),win:=(y:Int)}:Jd)).II,Z E (({j with II:=(x:Int),win:=(y:Int)}:Jd)).win,U (({j with II:=(x:Int),win:=(y:Int)}:Jd)).lA (({j with II:=(x:Int),win:=(y:Int)}:Jd)).IK.length (({j with II:=(x:Int),win:=(y:Int)}:Jd)).lc,Z Y (({j with II:=(x:Int),win:=(y:Int)}:Jd)).IM,Z Y (({j with II:=(x:Int),win:=(y:Int)}:Jd)).Jb] 63 (0,0)) from ad)
 obtain⟨⟨r0,r1,r2,r3,r4,r5,r6,r7,r8,r9,aj,ak,al,am,an⟩,_,f1,f2,_,_,_,_,_,_,_,_,_,_,_,_⟩:=cQ (show w6.heap[kr]? =X (H #[Q ⟨#[]⟩,Q ⟨#[]⟩,U V 0 0,U V 0 0,K O,Q ⟨#[]⟩,Z Y 0,Z E 0,Z E 0,Z E 0,Z Y 0,Z E 0,U V 0 0,Z Y 0,Z Y 0] 63 (0,0)) from N)
 have rl:kr<w6.heap.size:=aQ N
 have HX:=aJ (YP.fill H0 H6 ae gr (ag (({j with II:=(x:Int),win:=(y:Int)}:Jd))))
 simp only at c0 c1 c2 c3 c4 c5 c6 c7 c8 c9 m n af ah ai
 go_wp2
 refine aP (v:=dm {j with II:=(x:Int),win:=(y:Int)}) (by simp[results,results252,go_sem,dm,r0,r1,r2,r3,r4,r5,r6,r7,r8,r9,aj,ak,al,am,an]) rfl ⟨rfl,?_⟩
 exact HX
theorem eu:∀(a:List U9) (o:Nat) (w:U7),w.grownBy (w.setCells k o a) (X k):=by
 intro a
 induction a with
 |nil=>intro o w;exact UP _ _
 |cons v r ih=>intro o w;exact(ay w k o v).trans (ih (o+1) _)
def ii(w:U7)(g:Nat)(A:Option U_)(c:Nat)(T:List IY)(r:List IY)(J:Jd)(sv:U9)(nA:Option U_)(e:Va)(w':U7):Prop:=
 ∃j' a',e=Uq (dm j')/\cV j'=J/\JT w' j'/\r=T.drop a'/\YP w w' g A c T a' sv/\(j'.nA=nA\/FX w j'.nA)
theorem JT.call{j:Jd}{T:List IY}(h:JT w j)(b:YP w w g A c T a sv)(d:YP w w' g A c T a' sv'):JT w' j:=h.I4 b.I2 d.gr (by decide) (by decide) (by decide)
section
variable {w : U7} {g : Nat} {A : Option U_} {c : Nat} {T : List IY} {a : Nat} {sv : U9} {j : Jd}
theorem vx(h:YP w w g A c T a sv)(hj:JT w j){r:List IY}(hm:Gm.text 3 512 (T.drop a)=X (s,r)):
  U8 Vb 206 #[M (X ⟨g,0,V⟩),dm j,Q ⟨#[114,117,110]⟩] w (ii w g A c T r {cV j with run:=s} sv j.nA):=by
 obtain⟨t,ht,hs,hl⟩:=fK hm;have hr:=(ax (aq ht).1).2.2;have L:=aJ (fun W (hW:YP W W g A c T a sv)=>(iz hW ht hl:U8 Vb 202 #[M (X ⟨g,0,V⟩),Z Y 3,Z Y 512] W _))
 have HR:=aJ hr
 unfold cZ at L;rw[<-hs] at L;clear hm ht hl hs hr;have HJ:=aJ hj;clear hj;obtain⟨y,x⟩:∃y,(w.alloc (H #[Q j.nm,Q j.run,U j.eA j.IJ.length j.ec,U j.nA j.IC.length j.nc,K j.IQ,Q j.ready,Z Y j.IE,Z E j.base,Z E j.cap,Z E j.IG,Z Y j.II,Z E j.win,U j.lA j.IK.length j.lc,Z Y j.IM,Z Y j.Jb] 63)).alloc (H #[Q ⟨#[]⟩,Q ⟨#[]⟩,U V 0 0,U V 0 0,K O,Q ⟨#[]⟩,Z Y 0,Z E 0,Z E 0,Z E 0,Z Y 0,Z E 0,U V 0 0,Z Y 0,Z Y 0] 63)=y:=⟨_,rfl⟩
 obtain⟨kb,k⟩:∃kb,w.heap.size=kb:=⟨_,rfl⟩
 obtain⟨kr,u⟩:∃kr,kb+1=kr:=⟨_,rfl⟩
 obtain⟨f,i,l⟩:=jW (ID.refl ((w.alloc (H #[Q j.nm,Q j.run,U j.eA j.IJ.length j.ec,U j.nA j.IC.length j.nc,K j.IQ,Q j.ready,Z Y j.IE,Z E j.base,Z E j.cap,Z E j.IG,Z Y j.II,Z E j.win,U j.lA j.IK.length j.lc,Z Y j.IM,Z Y j.Jb] 63)).alloc (H #[Q ⟨#[]⟩,Q ⟨#[]⟩,U V 0 0,U V 0 0,K O,Q ⟨#[]⟩,Z Y 0,Z E 0,Z E 0,Z E 0,Z Y 0,Z E 0,U V 0 0,Z Y 0,Z Y 0] 63)));rw[x] at f i l;rw[k,u] at i;rw[k] at f;have m:Hid (y.heap[kb]? =X (H (ag j).toArray 63 (0,0))):=aJ f;have n:Hid (y.heap[kr]? =X (H jz 63 (0,0))):=aJ i;have D:Hid (YP w y g A c T a sv):=aJ (h.up l);have aj:=aQ h.I2;have gb:g≠kb:=by omega
 have gr:g≠kr:=by omega
 have N:kr≠kb:=by omega
 have J:Hid (w.heap.size<=kr):=aJ (by omega)
 have I:Hid (w.heap.size<=kb):=aJ (by omega)
 have C:=aJ h
 clear f i l h;unfold dm;have ai:=sl;go_enter func206,ntmps206;go_upto_region 3 with fail
 clear x u k;go_wp2_with fail;refine(L _ D.Jc).mono ?_;rintro e w2 ⟨rfl,B⟩;have H2:=aJ (D.trans B);have d:=aJ (B.keep m gb);have o:=aJ (B.keep n gr);clear B D m n;have e1:=cr_ d 1 (Q j.run);have z1:=aN w2 kb 1 _ _ d;go_upto_region 20 with fail
 obtain⟨z,b⟩:∃W,w2.setCell ⟨kb,1,V⟩ (Q s)=W:=⟨_,rfl⟩
 have F:Hid (z.heap[kb]? =X (H (ag (({j with run:=s}:Jd))).toArray 63 (0,0))):=aJ (by rw[<-b,aO w2 kb 1 _ _ _ d.out];simp[ag])
 have p:Hid (z.heap[kr]? =X (H jz 63 (0,0))):=aJ (by rw[<-b];exact(aL w2 ⟨kb,1,V⟩ kr _ N).trans o)
 have H3:=aJ (YP.Mf C H2 I gb 1 (Q s))
 rw[b] at H3 ⊢
 try rw[b] at HTS3
 clear b d o H2;clear e1 z1;obtain⟨⟨c0,c1,c2,c3,c4,c5,c6,c7,c8,c9,P,R,S,aa,ab⟩,_⟩:=cQ (show z.heap[kb]? =X (H #[Q (({j with run:=s}:Jd)).nm,Q (({j with run:=s}:Jd)).run,U (({j with run:=s}:Jd)).eA (({j with run:=s}:Jd)).IJ.length (({j with run:=s}:Jd)).ec,U (({j with run:=s}:Jd)).nA (({j with run:=s}:Jd)).IC.length (({j with run:=s}:Jd)).nc,K (({j with run:=s}:Jd)).IQ,Q (({j with run:=s}:Jd)).ready,Z Y (({j with run:=s}:Jd)).IE,Z E (({j with run:=s}:Jd)).base,Z E (({j with run:=s}:Jd)).cap,Z E (({j with run:=s}:Jd)).IG,Z Y (({j with run:=s}:Jd)).II,Z E (({j with run:=s}:Jd)).win,U (({j with run:=s}:Jd)).lA (({j with run:=s}:Jd)).IK.length (({j with run:=s}:Jd)).lc,Z Y (({j with run:=s}:Jd)).IM,Z Y (({j with run:=s}:Jd)).Jb] 63 (0,0)) from F)
 obtain⟨⟨r0,r1,r2,r3,r4,r5,r6,r7,r8,r9,ac,ad,ae,af,ah⟩,_,f1,f2,_,_,_,_,_,_,_,_,_,_,_,_⟩:=cQ (show z.heap[kr]? =X (H #[Q ⟨#[]⟩,Q ⟨#[]⟩,U V 0 0,U V 0 0,K O,Q ⟨#[]⟩,Z Y 0,Z E 0,Z E 0,Z E 0,Z Y 0,Z E 0,U V 0 0,Z Y 0,Z Y 0] 63 (0,0)) from p)
 have rl:kr<z.heap.size:=aQ p
 have HX:=aJ (YP.fill C H3 J gr (ag (({j with run:=s}:Jd))))
 simp only at c0 c1 c2 c3 c4 c5 c6 c7 c8 c9 P R S aa ab
 go_wp2
 refine aP (v:=dm ({j with run:=s})) (by simp[results,results206,go_sem,dm,r0,r1,r2,r3,r4,r5,r6,r7,r8,r9,ac,ad,ae,af,ah]) rfl ?_
 have q:=HJ.call C HX
 exact⟨_,_,rfl,rfl,⟨q.IJ,q.IC,q.IK,q.eb,q.nb,q.lb⟩,HR,HX,bX rfl⟩
end
section
variable {w : U7} {g : Nat} {A : Option U_} {c : Nat} {T : List IY} {a : Nat} {sv : U9} {j : Jd}
theorem qy(h:YP w w g A c T a sv)(hj:JT w j){r:List IY}(hm:Gm.text 4 128 (T.drop a)=X (s,r)):
  U8 Vb 206 #[M (X ⟨g,0,V⟩),dm j,Q ⟨#[114,101,97,100,121]⟩] w (ii w g A c T r {cV j with ready:=s,IQ:=G} sv j.nA):=by
 obtain⟨t,ht,hs,hl⟩:=fK hm;have hr:=(ax (aq ht).1).2.2;have S:=aJ (fun W (hW:YP W W g A c T a sv)=>(iz hW ht hl:U8 Vb 202 #[M (X ⟨g,0,V⟩),Z Y 4,Z Y 128] W _))
 have HR:=aJ hr
 unfold cZ at S;rw[<-hs] at S;clear hm ht hl hs hr;have HJ:=aJ hj;clear hj;obtain⟨F,D⟩:∃F,(w.alloc (H #[Q j.nm,Q j.run,U j.eA j.IJ.length j.ec,U j.nA j.IC.length j.nc,K j.IQ,Q j.ready,Z Y j.IE,Z E j.base,Z E j.cap,Z E j.IG,Z Y j.II,Z E j.win,U j.lA j.IK.length j.lc,Z Y j.IM,Z Y j.Jb] 63)).alloc (H #[Q ⟨#[]⟩,Q ⟨#[]⟩,U V 0 0,U V 0 0,K O,Q ⟨#[]⟩,Z Y 0,Z E 0,Z E 0,Z E 0,Z Y 0,Z E 0,U V 0 0,Z Y 0,Z Y 0] 63)=F:=⟨_,rfl⟩
 obtain⟨kb,k⟩:∃kb,w.heap.size=kb:=⟨_,rfl⟩
 obtain⟨kr,C⟩:∃kr,kb+1=kr:=⟨_,rfl⟩
 obtain⟨f,i,l⟩:=jW (ID.refl ((w.alloc (H #[Q j.nm,Q j.run,U j.eA j.IJ.length j.ec,U j.nA j.IC.length j.nc,K j.IQ,Q j.ready,Z Y j.IE,Z E j.base,Z E j.cap,Z E j.IG,Z Y j.II,Z E j.win,U j.lA j.IK.length j.lc,Z Y j.IM,Z Y j.Jb] 63)).alloc (H #[Q ⟨#[]⟩,Q ⟨#[]⟩,U V 0 0,U V 0 0,K O,Q ⟨#[]⟩,Z Y 0,Z E 0,Z E 0,Z E 0,Z Y 0,Z E 0,U V 0 0,Z Y 0,Z Y 0] 63)));rw[D] at f i l;rw[k,C] at i;rw[k] at f;have m:Hid (F.heap[kb]? =X (H (ag j).toArray 63 (0,0))):=aJ f;have u:Hid (F.heap[kr]? =X (H jz 63 (0,0))):=aJ i;have N:Hid (YP w F g A c T a sv):=aJ (h.up l);have ap:=aQ h.I2;have gb:g≠kb:=by omega
 have gr:g≠kr:=by omega
 have br:kb≠kr:=by omega
 have am:kb≠g:=by omega
 have an:kr≠g:=by omega
 have B:kr≠kb:=by omega
 have R:Hid (w.heap.size<=kr):=aJ (by omega)
 have p:Hid (w.heap.size<=kb):=aJ (by omega)
 have J:=aJ h
 clear f i l h;unfold dm;have ao:=sl;go_enter func206,ntmps206;go_upto_region 9 with fail
 clear D C k;go_wp2_with fail;refine(S _ N.Jc).mono ?_;rintro e w2 ⟨rfl,L⟩;have H2:=aJ (N.trans L);have d:=aJ (L.keep m gb);have x:=aJ (L.keep u gr);clear L N m u;have e1:=cr_ d 4 (K j.IQ);have z1:=aN w2 kb 4 _ _ d;have e2:=cr_ d 5 (Q j.ready);have z2:=aN w2 kb 5 _ _ d;have aa:kb<w2.heap.size:=aQ d;go_upto_region 20 with fail
 obtain⟨I,b⟩:∃W,w2.setCell ⟨kb,4,V⟩ (K G)=W:=⟨_,rfl⟩
 have n:Hid (I.heap[kb]? =X (H (ag (({j with IQ:=G}:Jd))).toArray 63 (0,0))):=aJ (by rw[<-b,aO w2 kb 4 _ _ _ d.out];simp[ag])
 have y:Hid (I.heap[kr]? =X (H jz 63 (0,0))):=aJ (by rw[<-b];exact(aL w2 ⟨kb,4,V⟩ kr _ B).trans x)
 have P:=aJ (YP.Mf J H2 p gb 4 (K G))
 rw[b] at P ⊢
 try rw[b] at HTS3
 clear b d x H2;obtain⟨w4,b⟩:∃W,I.setCell ⟨kb,5,V⟩ (Q s)=W:=⟨_,rfl⟩
 have o:Hid (w4.heap[kb]? =X (H (ag (({j with IQ:=G,ready:=s}:Jd))).toArray 63 (0,0))):=aJ (by rw[<-b,aO I kb 5 _ _ _ n.out];simp[ag])
 have z:Hid (w4.heap[kr]? =X (H jz 63 (0,0))):=aJ (by rw[<-b];exact(aL I ⟨kb,5,V⟩ kr _ B).trans y)
 have H4:=aJ (YP.Mf J P p gb 5 (Q s))
 rw[b] at H4 ⊢
 try rw[b] at HTS3
 clear b n y P;clear e1 z1 e2 z2 aa;obtain⟨⟨c0,c1,c2,c3,c4,c5,c6,c7,c8,c9,ab,ac,ad,ae,af⟩,_⟩:=cQ (show w4.heap[kb]? =X (H #[Q (({j with IQ:=G,ready:=s}:Jd)).nm,Q (({j with IQ:=G,ready:=s}:Jd)).run,U (({j with IQ:=G,ready:=s}:Jd)).eA (({j with IQ:=G,ready:=s}:Jd)).IJ.length (({j with IQ:=G,ready:=s}:Jd)).ec,U (({j with IQ:=G,ready:=s}:Jd)).nA (({j with IQ:=G,ready:=s}:Jd)).IC.length (({j with IQ:=G,ready:=s}:Jd)).nc,K (({j with IQ:=G,ready:=s}:Jd)).IQ,Q (({j with IQ:=G,ready:=s}:Jd)).ready,Z Y (({j with IQ:=G,ready:=s}:Jd)).IE,Z E (({j with IQ:=G,ready:=s}:Jd)).base,Z E (({j with IQ:=G,ready:=s}:Jd)).cap,Z E (({j with IQ:=G,ready:=s}:Jd)).IG,Z Y (({j with IQ:=G,ready:=s}:Jd)).II,Z E (({j with IQ:=G,ready:=s}:Jd)).win,U (({j with IQ:=G,ready:=s}:Jd)).lA (({j with IQ:=G,ready:=s}:Jd)).IK.length (({j with IQ:=G,ready:=s}:Jd)).lc,Z Y (({j with IQ:=G,ready:=s}:Jd)).IM,Z Y (({j with IQ:=G,ready:=s}:Jd)).Jb] 63 (0,0)) from o)
 obtain⟨⟨r0,r1,r2,r3,r4,r5,r6,r7,r8,r9,ah,ai,aj,ak,al⟩,_,f1,f2,_,_,_,_,_,_,_,_,_,_,_,_⟩:=cQ (show w4.heap[kr]? =X (H #[Q ⟨#[]⟩,Q ⟨#[]⟩,U V 0 0,U V 0 0,K O,Q ⟨#[]⟩,Z Y 0,Z E 0,Z E 0,Z E 0,Z Y 0,Z E 0,U V 0 0,Z Y 0,Z Y 0] 63 (0,0)) from z)
 have rl:kr<w4.heap.size:=aQ z
 have bl:kb<w4.heap.size:=aQ o.out
 have HX:=aJ (YP.fill J H4 R gr (ag (({j with IQ:=G,ready:=s}:Jd))))
 simp only at c0 c1 c2 c3 c4 c5 c6 c7 c8 c9 ab ac ad ae af
 go_wp2
 refine aP (v:=dm ({j with IQ:=G,ready:=s})) (by simp[results,results206,go_sem,dm,r0,r1,r2,r3,r4,r5,r6,r7,r8,r9,ah,ai,aj,ak,al]) rfl ?_
 have q:=HJ.call J HX
 exact⟨_,_,rfl,rfl,⟨q.IJ,q.IC,q.IK,q.eb,q.nb,q.lb⟩,HR,HX,bX rfl⟩
theorem nS(h:YP w w g A c T a sv)(hj:JT w j){t:IY}{r:List IY}(ht:Gm.take 1 (T.drop a)=X (t,r))(x:Gm.Ko t.text≠0)(hl:t.text.length<=8192):
  U8 Vb 206 #[M (X ⟨g,0,V⟩),dm j,Q ⟨#[114,101,115,116,97,114,116]⟩] w (ii w g A c T r {cV j with IE:=Gm.Ko t.text} sv j.nA):=by
 have hr:=(ax (aq ht).1).2.2
 have HT:=aJ (fun W (hW:YP W W g A c T a sv)=>FZ hW ht x hl)
 have HR:=aJ hr
 clear ht hl x hr;generalize Gm.Ko t.text=n at *;have HJ:=aJ hj;clear hj;obtain⟨z,y⟩:∃z,(w.alloc (H #[Q j.nm,Q j.run,U j.eA j.IJ.length j.ec,U j.nA j.IC.length j.nc,K j.IQ,Q j.ready,Z Y j.IE,Z E j.base,Z E j.cap,Z E j.IG,Z Y j.II,Z E j.win,U j.lA j.IK.length j.lc,Z Y j.IM,Z Y j.Jb] 63)).alloc (H #[Q ⟨#[]⟩,Q ⟨#[]⟩,U V 0 0,U V 0 0,K O,Q ⟨#[]⟩,Z Y 0,Z E 0,Z E 0,Z E 0,Z Y 0,Z E 0,U V 0 0,Z Y 0,Z Y 0] 63)=z:=⟨_,rfl⟩
 obtain⟨kb,k⟩:∃kb,w.heap.size=kb:=⟨_,rfl⟩
 obtain⟨kr,u⟩:∃kr,kb+1=kr:=⟨_,rfl⟩
 obtain⟨f,i,l⟩:=jW (ID.refl ((w.alloc (H #[Q j.nm,Q j.run,U j.eA j.IJ.length j.ec,U j.nA j.IC.length j.nc,K j.IQ,Q j.ready,Z Y j.IE,Z E j.base,Z E j.cap,Z E j.IG,Z Y j.II,Z E j.win,U j.lA j.IK.length j.lc,Z Y j.IM,Z Y j.Jb] 63)).alloc (H #[Q ⟨#[]⟩,Q ⟨#[]⟩,U V 0 0,U V 0 0,K O,Q ⟨#[]⟩,Z Y 0,Z E 0,Z E 0,Z E 0,Z Y 0,Z E 0,U V 0 0,Z Y 0,Z Y 0] 63)));rw[y] at f i l;rw[k,u] at i;rw[k] at f;have m:Hid (z.heap[kb]? =X (H (ag j).toArray 63 (0,0))):=aJ f;have o:Hid (z.heap[kr]? =X (H jz 63 (0,0))):=aJ i;have F:Hid (YP w z g A c T a sv):=aJ (h.up l);have ai:=aQ h.I2;have gb:g≠kb:=by omega
 have gr:g≠kr:=by omega
 have N:kr≠kb:=by omega
 have L:Hid (w.heap.size<=kr):=aJ (by omega)
 have J:Hid (w.heap.size<=kb):=aJ (by omega)
 have D:=aJ h
 clear f i l h;unfold dm;go_enter func206,ntmps206;go_upto_region 11 with fail
 clear y u k;go_wp2_with fail;refine(HT _ F.Jc).mono ?_;rintro e w2 ⟨rfl,C⟩;have H2:=aJ (F.trans C);have d:=aJ (C.keep m gb);have p:=aJ (C.keep o gr);clear C F m o;have e1:=cr_ d 6 (Z Y j.IE);have z1:=aN w2 kb 6 _ _ d;go_upto_region 20 with fail
 obtain⟨B,b⟩:∃W,w2.setCell ⟨kb,6,V⟩ (Z Y n)=W:=⟨_,rfl⟩
 have I:Hid (B.heap[kb]? =X (H (ag (({j with IE:=n}:Jd))).toArray 63 (0,0))):=aJ (by rw[<-b,aO w2 kb 6 _ _ _ d.out];simp[ag])
 have s:Hid (B.heap[kr]? =X (H jz 63 (0,0))):=aJ (by rw[<-b];exact(aL w2 ⟨kb,6,V⟩ kr _ N).trans p)
 have H3:=aJ (YP.Mf D H2 J gb 6 (Z Y n))
 rw[b] at H3 ⊢
 try rw[b] at HTS3
 clear b d p H2;clear e1 z1;obtain⟨⟨c0,c1,c2,c3,c4,c5,c6,c7,c8,c9,P,R,S,aa,ab⟩,_⟩:=cQ (show B.heap[kb]? =X (H #[Q (({j with IE:=n}:Jd)).nm,Q (({j with IE:=n}:Jd)).run,U (({j with IE:=n}:Jd)).eA (({j with IE:=n}:Jd)).IJ.length (({j with IE:=n}:Jd)).ec,U (({j with IE:=n}:Jd)).nA (({j with IE:=n}:Jd)).IC.length (({j with IE:=n}:Jd)).nc,K (({j with IE:=n}:Jd)).IQ,Q (({j with IE:=n}:Jd)).ready,Z Y (({j with IE:=n}:Jd)).IE,Z E (({j with IE:=n}:Jd)).base,Z E (({j with IE:=n}:Jd)).cap,Z E (({j with IE:=n}:Jd)).IG,Z Y (({j with IE:=n}:Jd)).II,Z E (({j with IE:=n}:Jd)).win,U (({j with IE:=n}:Jd)).lA (({j with IE:=n}:Jd)).IK.length (({j with IE:=n}:Jd)).lc,Z Y (({j with IE:=n}:Jd)).IM,Z Y (({j with IE:=n}:Jd)).Jb] 63 (0,0)) from I)
 obtain⟨⟨r0,r1,r2,r3,r4,r5,r6,r7,r8,r9,ac,ad,ae,af,ah⟩,_,f1,f2,_,_,_,_,_,_,_,_,_,_,_,_⟩:=cQ (show B.heap[kr]? =X (H #[Q ⟨#[]⟩,Q ⟨#[]⟩,U V 0 0,U V 0 0,K O,Q ⟨#[]⟩,Z Y 0,Z E 0,Z E 0,Z E 0,Z Y 0,Z E 0,U V 0 0,Z Y 0,Z Y 0] 63 (0,0)) from s)
 have rl:kr<B.heap.size:=aQ s
 have HX:=aJ (YP.fill D H3 L gr (ag (({j with IE:=n}:Jd))))
 simp only at c0 c1 c2 c3 c4 c5 c6 c7 c8 c9 P R S aa ab
 go_wp2
 refine aP (v:=dm ({j with IE:=n})) (by simp[results,results206,go_sem,dm,r0,r1,r2,r3,r4,r5,r6,r7,r8,r9,ac,ad,ae,af,ah]) rfl ?_
 have q:=HJ.call D HX
 exact⟨_,_,rfl,rfl,⟨q.IJ,q.IC,q.IK,q.eb,q.nb,q.lb⟩,HR,HX,bX rfl⟩
end
section
variable {w : U7} {g : Nat} {A : Option U_} {c : Nat} {T : List IY} {a : Nat} {sv : U9} {j : Jd}
theorem nT(h:YP w w g A c T a sv)(hj:JT w j){x y z:Nat}{r r1 r2:List IY}(s:Gm.num (T.drop a)=X (x,r1))(t:Gm.num r1=X (y,r2))(u:Gm.num r2=X (z,r)):
  U8 Vb 206 #[M (X ⟨g,0,V⟩),dm j,Q ⟨#[98,97,99,107,111,102,102]⟩] w (ii w g A c T r {cV j with base:=(x:Int),cap:=(y:Int),IG:=(z:Int)} sv j.nA):=by
 obtain⟨_,ai,-,-,-,-⟩:=ee s;have aw:=(ax (aq ai).1).2.2;subst aw;obtain⟨_,aj,-,-,-,-⟩:=ee t;have ay:=(ax (aq aj).1).2.2;subst ay;obtain⟨_,ak,-,-,-,-⟩:=ee u;have ah:=(ax (aq ak).1).2.2;have ac:=aJ (fun W (hW:YP W W g A c T a sv)=>oi hW s)
 have ad:=aJ (fun W (hW:YP W W g A c T (a+1) sv)=>oi hW t)
 have ae:=aJ (fun W (hW:YP W W g A c T (a+1+1) sv)=>oi hW u)
 have HR:=aJ ah
 clear s t u ai aj ak ah;have HJ:=aJ hj;clear hj;obtain⟨w1,al⟩:∃w1,(w.alloc (H #[Q j.nm,Q j.run,U j.eA j.IJ.length j.ec,U j.nA j.IC.length j.nc,K j.IQ,Q j.ready,Z Y j.IE,Z E j.base,Z E j.cap,Z E j.IG,Z Y j.II,Z E j.win,U j.lA j.IK.length j.lc,Z Y j.IM,Z Y j.Jb] 63)).alloc (H #[Q ⟨#[]⟩,Q ⟨#[]⟩,U V 0 0,U V 0 0,K O,Q ⟨#[]⟩,Z Y 0,Z E 0,Z E 0,Z E 0,Z Y 0,Z E 0,U V 0 0,Z Y 0,Z Y 0] 63)=w1:=⟨_,rfl⟩
 obtain⟨kb,p⟩:∃kb,w.heap.size=kb:=⟨_,rfl⟩
 obtain⟨kr,af⟩:∃kr,kb+1=kr:=⟨_,rfl⟩
 obtain⟨l,m,B⟩:=jW (ID.refl ((w.alloc (H #[Q j.nm,Q j.run,U j.eA j.IJ.length j.ec,U j.nA j.IC.length j.nc,K j.IQ,Q j.ready,Z Y j.IE,Z E j.base,Z E j.cap,Z E j.IG,Z Y j.II,Z E j.win,U j.lA j.IK.length j.lc,Z Y j.IM,Z Y j.Jb] 63)).alloc (H #[Q ⟨#[]⟩,Q ⟨#[]⟩,U V 0 0,U V 0 0,K O,Q ⟨#[]⟩,Z Y 0,Z E 0,Z E 0,Z E 0,Z Y 0,Z E 0,U V 0 0,Z Y 0,Z Y 0] 63)));rw[al] at l m B;rw[p,af] at m;rw[p] at l;have F:Hid (w1.heap[kb]? =X (H (ag j).toArray 63 (0,0))):=aJ l;have L:Hid (w1.heap[kr]? =X (H jz 63 (0,0))):=aJ m;have H1:Hid (YP w w1 g A c T a sv):=aJ (h.up B);have aE:=aQ h.I2;have C:g≠kb:=by omega
 have gr:g≠kr:=by omega
 have o:kr≠kb:=by omega
 have an:Hid (w.heap.size<=kr):=aJ (by omega)
 have n:Hid (w.heap.size<=kb):=aJ (by omega)
 have D:=aJ h
 clear l m B h;unfold dm;go_enter func206,ntmps206;go_upto_region 13 with fail
 clear al af p;go_wp2_with fail;refine(ac _ H1.Jc).mono ?_;rintro e w2 ⟨rfl,d⟩;have H2:=aJ (H1.trans d);have f:=aJ (d.keep F C);have N:=aJ (d.keep L gr);clear d H1 F L;have e1:=cr_ f 7 (Z E j.base);have z1:=aN w2 kb 7 _ _ f;go_upto_region 14 with fail
 obtain⟨w3,b⟩:∃W,w2.setCell ⟨kb,7,V⟩ (Z E (x:Int))=W:=⟨_,rfl⟩
 have I:Hid (w3.heap[kb]? =X (H (ag (({j with base:=(x:Int)}:Jd))).toArray 63 (0,0))):=aJ (by rw[<-b,aO w2 kb 7 _ _ _ f.out];simp[ag])
 have P:Hid (w3.heap[kr]? =X (H jz 63 (0,0))):=aJ (by rw[<-b];exact(aL w2 ⟨kb,7,V⟩ kr _ o).trans N)
 have H3:=aJ (YP.Mf D H2 n C 7 (Z E (x:Int)))
 rw[b] at H3 ⊢
 try rw[b] at HTS3
 clear b f N H2;clear e1 z1;go_wp2_with fail;refine(ad _ H3.Jc).mono ?_;rintro e w4 ⟨rfl,d⟩;have H4:=aJ (H3.trans d);have i:=aJ (d.keep I C);have R:=aJ (d.keep P gr);clear d H3 I P;have e1:=cr_ i 8 (Z E j.cap);have z1:=aN w4 kb 8 _ _ i;go_upto_region 15 with fail
 obtain⟨w5,b⟩:∃W,w4.setCell ⟨kb,8,V⟩ (Z E (y:Int))=W:=⟨_,rfl⟩
 have J:Hid (w5.heap[kb]? =X (H (ag (({j with base:=(x:Int),cap:=(y:Int)}:Jd))).toArray 63 (0,0))):=aJ (by rw[<-b,aO w4 kb 8 _ _ _ i.out];simp[ag])
 have S:Hid (w5.heap[kr]? =X (H jz 63 (0,0))):=aJ (by rw[<-b];exact(aL w4 ⟨kb,8,V⟩ kr _ o).trans R)
 have H5:=aJ (YP.Mf D H4 n C 8 (Z E (y:Int)))
 rw[b] at H5 ⊢
 try rw[b] at HTS3
 clear b i R H4;clear e1 z1;go_wp2_with fail;refine(ae _ H5.Jc).mono ?_;rintro e w6 ⟨rfl,d⟩;have H6:=aJ (H5.trans d);have k:=aJ (d.keep J C);have aa:=aJ (d.keep S gr);clear d H5 J S;have e1:=cr_ k 9 (Z E j.IG);have z1:=aN w6 kb 9 _ _ k;go_upto_region 20 with fail
 obtain⟨w7,b⟩:∃W,w6.setCell ⟨kb,9,V⟩ (Z E (z:Int))=W:=⟨_,rfl⟩
 have am:Hid (w7.heap[kb]? =X (H (ag (({j with base:=(x:Int),cap:=(y:Int),IG:=(z:Int)}:Jd))).toArray 63 (0,0))):=aJ (by rw[<-b,aO w6 kb 9 _ _ _ k.out];simp[ag])
 have ab:Hid (w7.heap[kr]? =X (H jz 63 (0,0))):=aJ (by rw[<-b];exact(aL w6 ⟨kb,9,V⟩ kr _ o).trans aa)
 have H7:=aJ (YP.Mf D H6 n C 9 (Z E (z:Int)))
 rw[b] at H7 ⊢
 try rw[b] at HTS3
 clear b k aa H6;clear e1 z1 ac ad ae;obtain⟨⟨c0,c1,c2,c3,c4,c5,c6,c7,c8,c9,ao,ap,ar,au,av⟩,_⟩:=cQ (show w7.heap[kb]? =X (H #[Q (({j with base:=(x:Int),cap:=(y:Int),IG:=(z:Int)}:Jd)).nm,Q (({j with base:=(x:Int),cap:=(y:Int),IG:=(z:Int)}:Jd)).run,U (({j with base:=(x:Int),cap:=(y:Int),IG:=(z:Int)}:Jd)).eA (({j with base:=(x:Int),cap:=(y:Int),IG:=(z:Int)}:Jd)).IJ.length (({j with base:=(x:Int),cap:=(y:Int),IG:=(z:Int)}:Jd)).ec,U (({j with base:=(x:Int),cap:=(y:Int),IG:=(z:Int)}:Jd)).nA (({j with base:=(x:Int),cap:=(y:Int),IG:=(z:Int)}:Jd)).IC.length (({j with base:=(x:Int),cap:=(y:Int),IG:=(z:Int)}:Jd)).nc,K (({j with base:=(x:Int),cap:=(y:Int),IG:=(z:Int)}:Jd)).IQ,Q (({j with base:=(x:Int),cap:=(y:Int),IG:=(z:Int)}:Jd)).ready,Z Y (({j with base:=(x:Int),cap:=(y:Int),IG:=(z:Int)}:Jd)).IE,Z E (({j with base:=(x:Int),cap:=(y:Int),IG:=(z:Int)}:Jd)).base,Z E (({j with base:=(x:Int),cap:=(y:Int),IG:=(z:Int)}:Jd)).cap,Z E (({j with base:=(x:Int),cap:=(y:Int),IG:=(z:Int)}:Jd)).IG,Z Y (({j with base:=(x:Int),cap:=(y:Int),IG:=(z:Int)}:Jd)).II,Z E (({j with base:=(x:Int),cap:=(y:Int),IG:=(z:Int)}:Jd)).win,U (({j with base:=(x:Int),cap:=(y:Int),IG:=(z:Int)}:Jd)).lA (({j with base:=(x:Int),cap:=(y:Int),IG:=(z:Int)}:Jd)).IK.length (({j with base:=(x:Int),cap:=(y:Int),IG:=(z:Int)}:Jd)).lc,Z Y (({j with base:=(x:Int),cap:=(y:Int),IG:=(z:Int)}:Jd)).IM,Z Y (({j with base:=(x:Int),cap:=(y:Int),IG:=(z:Int)}:Jd)).Jb] 63 (0,0)) from am)
 obtain⟨⟨r0,r1,r2,r3,r4,r5,r6,r7,r8,r9,az,aA,aB,aC,aD⟩,_,f1,f2,_,_,_,_,_,_,_,_,_,_,_,_⟩:=cQ (show w7.heap[kr]? =X (H #[Q ⟨#[]⟩,Q ⟨#[]⟩,U V 0 0,U V 0 0,K O,Q ⟨#[]⟩,Z Y 0,Z E 0,Z E 0,Z E 0,Z Y 0,Z E 0,U V 0 0,Z Y 0,Z Y 0] 63 (0,0)) from ab)
 have rl:kr<w7.heap.size:=aQ ab
 have HX:=aJ (YP.fill D H7 an gr (ag (({j with base:=(x:Int),cap:=(y:Int),IG:=(z:Int)}:Jd))))
 simp only at c0 c1 c2 c3 c4 c5 c6 c7 c8 c9 ao ap ar au av
 go_wp2
 refine aP (v:=dm ({j with base:=(x:Int),cap:=(y:Int),IG:=(z:Int)})) (by simp[results,results206,go_sem,dm,r0,r1,r2,r3,r4,r5,r6,r7,r8,r9,az,aA,aB,aC,aD]) rfl ?_
 have q:=HJ.call D HX
 exact⟨_,_,rfl,rfl,⟨q.IJ,q.IC,q.IK,q.eb,q.nb,q.lb⟩,HR,HX,bX rfl⟩
end
section
variable {w : U7} {g : Nat} {A : Option U_} {c : Nat} {T : List IY} {a : Nat} {sv : U9} {j : Jd}
theorem qz(nA:Option U_)(h:YP w w g A c T a sv)(hj:JT w j)(hn:j.IC=[]){f:Nat}{J:Jd}{r:List IY}(hm:Gm.IC f (cV j) (T.drop a)=X (J,r))(hr:r≠[])(hJ:∃L,J=cV {j with IC:=L}/\L.length<=100000):
  U8 Vb 206 #[M (X ⟨g,0,V⟩),dm j,Q ⟨#[110,101,101,100,115]⟩] w (ii w g A c T r J sv nA):=by
 have HT:=aJ (fun W (hW:YP W W g A c T a sv)=>BG hW hm hn hr)
 have ac:=aJ hJ
 clear hm hn hr hJ;have HJ:=aJ hj;clear hj;obtain⟨w1,S⟩:∃w1,(w.alloc (H #[Q j.nm,Q j.run,U j.eA j.IJ.length j.ec,U j.nA j.IC.length j.nc,K j.IQ,Q j.ready,Z Y j.IE,Z E j.base,Z E j.cap,Z E j.IG,Z Y j.II,Z E j.win,U j.lA j.IK.length j.lc,Z Y j.IM,Z Y j.Jb] 63)).alloc (H #[Q ⟨#[]⟩,Q ⟨#[]⟩,U V 0 0,U V 0 0,K O,Q ⟨#[]⟩,Z Y 0,Z E 0,Z E 0,Z E 0,Z Y 0,Z E 0,U V 0 0,Z Y 0,Z Y 0] 63)=w1:=⟨_,rfl⟩
 obtain⟨kb,u⟩:∃kb,w.heap.size=kb:=⟨_,rfl⟩
 obtain⟨kr,I⟩:∃kr,kb+1=kr:=⟨_,rfl⟩
 obtain⟨m,n,x⟩:=jW (ID.refl ((w.alloc (H #[Q j.nm,Q j.run,U j.eA j.IJ.length j.ec,U j.nA j.IC.length j.nc,K j.IQ,Q j.ready,Z Y j.IE,Z E j.base,Z E j.cap,Z E j.IG,Z Y j.II,Z E j.win,U j.lA j.IK.length j.lc,Z Y j.IM,Z Y j.Jb] 63)).alloc (H #[Q ⟨#[]⟩,Q ⟨#[]⟩,U V 0 0,U V 0 0,K O,Q ⟨#[]⟩,Z Y 0,Z E 0,Z E 0,Z E 0,Z Y 0,Z E 0,U V 0 0,Z Y 0,Z Y 0] 63)));rw[S] at m n x;rw[u,I] at n;rw[u] at m;have s:Hid (w1.heap[kb]? =X (H (ag j).toArray 63 (0,0))):=aJ m;have B:Hid (w1.heap[kr]? =X (H jz 63 (0,0))):=aJ n;have H1:Hid (YP w w1 g A c T a sv):=aJ (h.up x);have av:=aQ h.I2;have gb:g≠kb:=by omega
 have gr:g≠kr:=by omega
 have ai:kr≠kb:=by omega
 have ae:Hid (w.heap.size<=kr):=aJ (by omega)
 have ad:Hid (w.heap.size<=kb):=aJ (by omega)
 have H0:=aJ h
 clear m n x h;unfold dm;go_enter func206,ntmps206;go_upto_region 7 with fail
 clear S I u;go_wp2_with fail;refine(HT _ H1.Jc).mono ?_;rintro e w2 ⟨A2,d,a2,rfl,R,P,N,F⟩;have D:=aJ R;have ab:Hid (FX w A2):=aJ (fun b o e=>bN H1.gr.size (F b o e))
 have HR:=aJ P
 have z:=aJ (N.keep s gb)
 clear R P HT F;have H2:=aJ (H1.trans N);have l:=aJ (N.keep s gb);have C:=aJ (N.keep B gr);clear N H1 s B;have e1:=cr_ l 3 (U j.nA j.IC.length j.nc);have z1:=aN w2 kb 3 _ _ l;go_upto_region 20 with fail
 have p:=aJ (D.JQ (i:=3) z (by decide) (U A2 J.IC.length d))
 obtain⟨y,k⟩:∃W,w2.setCell ⟨kb,3,V⟩ (U A2 J.IC.length d)=W:=⟨_,rfl⟩
 have aa:Hid (y.heap[kb]? =X (H (ag (({j with nA:=A2,IC:=J.IC,nc:=d}:Jd))).toArray 63 (0,0))):=aJ (by rw[<-k,aO w2 kb 3 _ _ _ l.out];simp[ag])
 have t:Hid (y.heap[kr]? =X (H jz 63 (0,0))):=aJ (by rw[<-k];exact(aL w2 ⟨kb,3,V⟩ kr _ ai).trans C)
 have H3:=aJ (YP.Mf H0 H2 ad gb 3 (U A2 J.IC.length d))
 rw[k] at H3 ⊢
 try rw[k] at p
 clear k l C H2;clear e1 z1 D z;have af:=aJ t;obtain⟨⟨c0,c1,c2,c3,c4,c5,c6,c7,c8,c9,aj,ak,al,am,an⟩,_⟩:=cQ (show y.heap[kb]? =X (H #[Q (({j with nA:=A2,IC:=J.IC,nc:=d}:Jd)).nm,Q (({j with nA:=A2,IC:=J.IC,nc:=d}:Jd)).run,U (({j with nA:=A2,IC:=J.IC,nc:=d}:Jd)).eA (({j with nA:=A2,IC:=J.IC,nc:=d}:Jd)).IJ.length (({j with nA:=A2,IC:=J.IC,nc:=d}:Jd)).ec,U (({j with nA:=A2,IC:=J.IC,nc:=d}:Jd)).nA (({j with nA:=A2,IC:=J.IC,nc:=d}:Jd)).IC.length (({j with nA:=A2,IC:=J.IC,nc:=d}:Jd)).nc,K (({j with nA:=A2,IC:=J.IC,nc:=d}:Jd)).IQ,Q (({j with nA:=A2,IC:=J.IC,nc:=d}:Jd)).ready,Z Y (({j with nA:=A2,IC:=J.IC,nc:=d}:Jd)).IE,Z E (({j with nA:=A2,IC:=J.IC,nc:=d}:Jd)).base,Z E (({j with nA:=A2,IC:=J.IC,nc:=d}:Jd)).cap,Z E (({j with nA:=A2,IC:=J.IC,nc:=d}:Jd)).IG,Z Y (({j with nA:=A2,IC:=J.IC,nc:=d}:Jd)).II,Z E (({j with nA:=A2,IC:=J.IC,nc:=d}:Jd)).win,U (({j with nA:=A2,IC:=J.IC,nc:=d}:Jd)).lA (({j with nA:=A2,IC:=J.IC,nc:=d}:Jd)).IK.length (({j with nA:=A2,IC:=J.IC,nc:=d}:Jd)).lc,Z Y (({j with nA:=A2,IC:=J.IC,nc:=d}:Jd)).IM,Z Y (({j with nA:=A2,IC:=J.IC,nc:=d}:Jd)).Jb] 63 (0,0)) from aa)
 obtain⟨⟨r0,r1,r2,r3,r4,r5,r6,r7,r8,r9,ao,ap,aq,ar,au⟩,_,f1,f2,_,_,_,_,_,_,_,_,_,_,_,_⟩:=cQ (show y.heap[kr]? =X (H #[Q ⟨#[]⟩,Q ⟨#[]⟩,U V 0 0,U V 0 0,K O,Q ⟨#[]⟩,Z Y 0,Z E 0,Z E 0,Z E 0,Z Y 0,Z E 0,U V 0 0,Z Y 0,Z Y 0] 63 (0,0)) from t)
 have rl:kr<y.heap.size:=aQ t
 have HX:=aJ (YP.fill H0 H3 ae gr (ag (({j with nA:=A2,IC:=J.IC,nc:=d}:Jd))))
 simp only at c0 c1 c2 c3 c4 c5 c6 c7 c8 c9 aj ak al am an
 have ah:=aJ (p.I4 af (eu (ag ({j with nA:=A2,IC:=J.IC,nc:=d}:Jd)) 0 y) (by decide))
 go_wp2
 refine aP (v:=dm ({j with nA:=A2,IC:=J.IC,nc:=d})) (by simp[results,results206,go_sem,dm,r0,r1,r2,r3,r4,r5,r6,r7,r8,r9,ao,ap,aq,ar,au]) rfl ?_
 have q:=HJ.call H0 HX
 obtain⟨L,hL,_⟩:=ac;exact⟨_,_,rfl,by rw[hL];rfl,⟨q.IJ,ah,q.IK,q.eb,by show J.IC.length<=_;rw[hL];show L.length<=_;omega,q.lb⟩,HR,HX,bY ab⟩
theorem sf(h:YP w w g A c T a sv)(hj:JT w j){f:Nat}{J:Jd}{r:List IY}(hm:Gm.I8 f (cV {j with lA:=V,IK:=[],lc:=0}) (T.drop a)=X (J,r))(hr:r≠[])(D:∀t∈T,t.text.length<=8192)(hJ:∃L,J=cV {j with IK:=L}/\L.length<=100000):
  U8 Vb 206 #[M (X ⟨g,0,V⟩),dm j,Q ⟨#[115,116,111,112]⟩] w (ii w g A c T r J sv j.nA):=by
 have HT:=aJ (fun W (hW:YP W W g A c T a sv)=>F1 hW hm rfl hr D)
 have ab:=aJ hJ
 clear hm hr hJ D;have HJ:=aJ hj;clear hj;obtain⟨S,R⟩:∃S,(w.alloc (H #[Q j.nm,Q j.run,U j.eA j.IJ.length j.ec,U j.nA j.IC.length j.nc,K j.IQ,Q j.ready,Z Y j.IE,Z E j.base,Z E j.cap,Z E j.IG,Z Y j.II,Z E j.win,U j.lA j.IK.length j.lc,Z Y j.IM,Z Y j.Jb] 63)).alloc (H #[Q ⟨#[]⟩,Q ⟨#[]⟩,U V 0 0,U V 0 0,K O,Q ⟨#[]⟩,Z Y 0,Z E 0,Z E 0,Z E 0,Z Y 0,Z E 0,U V 0 0,Z Y 0,Z Y 0] 63)=S:=⟨_,rfl⟩
 obtain⟨kb,s⟩:∃kb,w.heap.size=kb:=⟨_,rfl⟩
 obtain⟨kr,F⟩:∃kr,kb+1=kr:=⟨_,rfl⟩
 obtain⟨l,m,u⟩:=jW (ID.refl ((w.alloc (H #[Q j.nm,Q j.run,U j.eA j.IJ.length j.ec,U j.nA j.IC.length j.nc,K j.IQ,Q j.ready,Z Y j.IE,Z E j.base,Z E j.cap,Z E j.IG,Z Y j.II,Z E j.win,U j.lA j.IK.length j.lc,Z Y j.IM,Z Y j.Jb] 63)).alloc (H #[Q ⟨#[]⟩,Q ⟨#[]⟩,U V 0 0,U V 0 0,K O,Q ⟨#[]⟩,Z Y 0,Z E 0,Z E 0,Z E 0,Z Y 0,Z E 0,U V 0 0,Z Y 0,Z Y 0] 63)));rw[R] at l m u;rw[s,F] at m;rw[s] at l;have o:Hid (S.heap[kb]? =X (H (ag j).toArray 63 (0,0))):=aJ l;have z:Hid (S.heap[kr]? =X (H jz 63 (0,0))):=aJ m;have H1:Hid (YP w S g A c T a sv):=aJ (h.up u);have av:=aQ h.I2;have gb:g≠kb:=by omega
 have gr:g≠kr:=by omega
 have ah:kr≠kb:=by omega
 have ad:Hid (w.heap.size<=kr):=aJ (by omega)
 have ac:Hid (w.heap.size<=kb):=aJ (by omega)
 have H0:=aJ h
 clear l m u h;unfold dm;go_enter func206,ntmps206;go_upto_region 19 with fail
 clear R F s;go_wp2_with fail;refine(HT _ H1.Jc).mono ?_;rintro e w2 ⟨A2,b,a2,rfl,P,N,I,an⟩;have C:=aJ P;have HR:=aJ N;have y:=aJ (I.keep o gb);clear P N HT an;have H2:=aJ (H1.trans I);have k:=aJ (I.keep o gb);have B:=aJ (I.keep z gr);clear I H1 o z;have e1:=cr_ k 12 (U j.lA j.IK.length j.lc);have z1:=aN w2 kb 12 _ _ k;go_upto_region 20 with fail
 have n:=aJ (C.JQ (i:=12) y (by decide) (U A2 J.IK.length b))
 obtain⟨x,d⟩:∃W,w2.setCell ⟨kb,12,V⟩ (U A2 J.IK.length b)=W:=⟨_,rfl⟩
 have aa:Hid (x.heap[kb]? =X (H (ag (({j with lA:=A2,IK:=J.IK,lc:=b}:Jd))).toArray 63 (0,0))):=aJ (by rw[<-d,aO w2 kb 12 _ _ _ k.out];simp[ag])
 have p:Hid (x.heap[kr]? =X (H jz 63 (0,0))):=aJ (by rw[<-d];exact(aL w2 ⟨kb,12,V⟩ kr _ ah).trans B)
 have H3:=aJ (YP.Mf H0 H2 ac gb 12 (U A2 J.IK.length b))
 rw[d] at H3 ⊢
 try rw[d] at n
 clear d k B H2;clear e1 z1 C y;have ae:=aJ p;obtain⟨⟨c0,c1,c2,c3,c4,c5,c6,c7,c8,c9,ai,aj,ak,al,am⟩,_⟩:=cQ (show x.heap[kb]? =X (H #[Q (({j with lA:=A2,IK:=J.IK,lc:=b}:Jd)).nm,Q (({j with lA:=A2,IK:=J.IK,lc:=b}:Jd)).run,U (({j with lA:=A2,IK:=J.IK,lc:=b}:Jd)).eA (({j with lA:=A2,IK:=J.IK,lc:=b}:Jd)).IJ.length (({j with lA:=A2,IK:=J.IK,lc:=b}:Jd)).ec,U (({j with lA:=A2,IK:=J.IK,lc:=b}:Jd)).nA (({j with lA:=A2,IK:=J.IK,lc:=b}:Jd)).IC.length (({j with lA:=A2,IK:=J.IK,lc:=b}:Jd)).nc,K (({j with lA:=A2,IK:=J.IK,lc:=b}:Jd)).IQ,Q (({j with lA:=A2,IK:=J.IK,lc:=b}:Jd)).ready,Z Y (({j with lA:=A2,IK:=J.IK,lc:=b}:Jd)).IE,Z E (({j with lA:=A2,IK:=J.IK,lc:=b}:Jd)).base,Z E (({j with lA:=A2,IK:=J.IK,lc:=b}:Jd)).cap,Z E (({j with lA:=A2,IK:=J.IK,lc:=b}:Jd)).IG,Z Y (({j with lA:=A2,IK:=J.IK,lc:=b}:Jd)).II,Z E (({j with lA:=A2,IK:=J.IK,lc:=b}:Jd)).win,U (({j with lA:=A2,IK:=J.IK,lc:=b}:Jd)).lA (({j with lA:=A2,IK:=J.IK,lc:=b}:Jd)).IK.length (({j with lA:=A2,IK:=J.IK,lc:=b}:Jd)).lc,Z Y (({j with lA:=A2,IK:=J.IK,lc:=b}:Jd)).IM,Z Y (({j with lA:=A2,IK:=J.IK,lc:=b}:Jd)).Jb] 63 (0,0)) from aa)
 obtain⟨⟨r0,r1,r2,r3,r4,r5,r6,r7,r8,r9,ao,ap,aq,ar,au⟩,_,f1,f2,_,_,_,_,_,_,_,_,_,_,_,_⟩:=cQ (show x.heap[kr]? =X (H #[Q ⟨#[]⟩,Q ⟨#[]⟩,U V 0 0,U V 0 0,K O,Q ⟨#[]⟩,Z Y 0,Z E 0,Z E 0,Z E 0,Z Y 0,Z E 0,U V 0 0,Z Y 0,Z Y 0] 63 (0,0)) from p)
 have rl:kr<x.heap.size:=aQ p
 have HX:=aJ (YP.fill H0 H3 ad gr (ag (({j with lA:=A2,IK:=J.IK,lc:=b}:Jd))))
 simp only at c0 c1 c2 c3 c4 c5 c6 c7 c8 c9 ai aj ak al am
 have af:=aJ (n.I4 ae (eu (ag ({j with lA:=A2,IK:=J.IK,lc:=b}:Jd)) 0 x) (by decide))
 go_wp2
 refine aP (v:=dm ({j with lA:=A2,IK:=J.IK,lc:=b})) (by simp[results,results206,go_sem,dm,r0,r1,r2,r3,r4,r5,r6,r7,r8,r9,ao,ap,aq,ar,au]) rfl ?_
 have q:=HJ.call H0 HX
 obtain⟨L,hL,_⟩:=ab;exact⟨_,_,rfl,by rw[hL];rfl,⟨q.IJ,q.IC,af,q.eb,q.nb,by show J.IK.length<=_;rw[hL];show L.length<=_;omega⟩,HR,HX,bX rfl⟩
end
theorem oV:(Vb.info? 238).map (fun i=>(i.zero,i.size,i.bytes))=X (X (Us #[Q ⟨#[]⟩,Q ⟨#[]⟩]),2,32):=by kernel_rfl
theorem tR{j J:Jd}{l r:List IY}(h:Gm.var j l=X (J,r)):∃t a b v,Gm.take 1 l=X (t,a)/\t.text.length<=32/\j.IJ.length<16/\Gm.hasB (j.IJ.map Prod.fst) (ab t.text)=O/\Gm.sign 61 a=X b/\Gm.text 3 512 b=X (v,r)/\J={j with IJ:=j.IJ++[(ab t.text,v)]}:=by
 unfold Gm.var at h;cases c:Gm.name (decide (16<=j.IJ.length)) l with
 |none=>rw[c] at h;cases h
 |some p=>
  obtain⟨t,a⟩:=p;obtain⟨h1,h2,d⟩:=eB c;rw[c] at h;simp only at h;split at h
  ·cases h
  next hb=>
  cases hs:Gm.sign 61 a with
  |none=>rw[hs] at h;cases h
  |some b=>
   rw[hs] at h;simp only at h;cases hx:Gm.text 3 512 b with
   |none=>rw[hx] at h;cases h
   |some q=>
    obtain⟨v,_⟩:=q;rw[hx] at h;injection h with h
    injection h with e1 e2
    subst e2;rw[decide_eq_false_iff_not] at d;exact⟨t,a,b,v,h1,h2,by omega,by rw[<-US];exact hb,hs,hx,e1.symm⟩
theorem zO{l:List ByteArray}{x:ByteArray}(h:Gm.hasB l x=O)(k:Nat)(hk:k<l.length):l.getD k ⟨#[]⟩≠x:=fun e=>by
 rw[rH hk e] at h;cases h
structure MN(w7:U7)(kb:Nat)(j:Jd)(s v:ByteArray)(b0 b3 b9 b10 b12:Bool)(kA kC:Nat)(v1 v2:U9)(W:U7):Prop where
 ow:b12=false->ID w7 W
 n0:b0=true->b3=false->IL W w7.heap.size 238 2 (.slice (some ⟨kA,0,none⟩) 0 0) 0 []
 n3:b3=true->b10=false->IL W w7.heap.size 238 2 v1 j.IJ.length (cH j.IJ)
 n9:b9=true->b10=false->W.heap[kC]? =some (.cells [Ux s,Ux v].toArray 238 (0,0))
 ne:b9=true->b0=true->b3=false->kC≠kA
 O0:b10=true->b12=false->IL W w7.heap.size 238 2 v2 (j.IJ.length+1) (cH j.IJ++[.string s,.string v])
 n12:b12=true->∃W0,ID w7 W0/\IL W0 w7.heap.size 238 2 v2 (j.IJ.length+1) (cH j.IJ++[.string s,.string v])/\W=W0.setCell ⟨kb,2,none⟩ v2
section
variable {w7 W W' : U7} {kb kA kC : Nat} {j : Jd} {s v : ByteArray} {b0 b3 b9 b10 : Bool} {v1 v2 v' : U9}
theorem MN.start{x y:U9}:MN w7 kb j s v O O O O O 0 0 x y w7.drew:=
 ⟨fun _=>(ID.refl _).drew,fun e=>(by cases e),fun e=>(by cases e),fun e=>(by cases e),fun e=>(by cases e),fun e=>(by cases e),fun e=>(by cases e)⟩
theorem MN.a0(h:MN w7 kb j s v O O b9 O O kA kC v1 v2 W):MN w7 kb j s v G O b9 O O W.heap.size kC v1 v2 (W.alloc (H #[] 238)):=
 ⟨fun _=>(h.ow rfl).alloc _,fun _ _=>(jJ W #[] 0 2 238 (by decide) rfl).base (h.ow rfl).size,fun e=>(by cases e),fun e _=>((ID.refl W).alloc _).block (h.n9 e rfl),fun e _ _=>UD (aQ (h.n9 e rfl)),fun e=>(by cases e),fun e=>(by cases e)⟩
theorem MN.a3(h:MN w7 kb j s v G O b9 O O kA kC v1 v2 W)(c:IL W' w7.heap.size 238 2 v' j.IJ.length (cH j.IJ))(a:W.grownBy W' (Uu (X ⟨kA,0,V⟩) 0 0).ownBlock):MN w7 kb j s v G G b9 O O kA kC v' v2 W':=
 ⟨fun _=>IL.IU (h.ow rfl) (h.n0 rfl rfl) (bM _) a,fun _ e=>(by cases e),fun _ _=>c,fun e _=>(a.block kC (aQ (h.n9 e rfl)) (fun b=>h.ne e rfl rfl (by injection b))).trans (h.n9 e rfl),fun _ _ e=>(by cases e),fun e=>(by cases e),fun e=>(by cases e)⟩
theorem MN.a9(h:MN w7 kb j s v b0 b3 O O O kA kC v1 v2 W):MN w7 kb j s v b0 b3 G O O kA W.heap.size v1 v2 (W.alloc (H #[Q s,Q v] 238)):=
 ⟨fun _=>(h.ow rfl).alloc _,fun e f=>(h.n0 e f).alloc _,fun e f=>(h.n3 e f).alloc _,fun _ _=>aM W _,fun _ e f=>(by have:=(bU (h.n0 e f) kA rfl).2;omega),fun e=>(by cases e),fun e=>(by cases e)⟩
theorem MN.a10(h:MN w7 kb j s v G G G O O kA kC v1 v2 W)(b:IL W' w7.heap.size 238 2 v' (j.IJ.length+1) (cH j.IJ++[Q s,Q v]))(a:W.grownBy W' v1.ownBlock):MN w7 kb j s v G G G G O kA kC v1 v' W':=
 ⟨fun _=>IL.IU (h.ow rfl) (h.n3 rfl rfl) (bM _) a,fun _ e=>(by cases e),fun _ e=>(by cases e),fun _ e=>(by cases e),fun _ _ e=>(by cases e),fun _ _=>b,fun e=>(by cases e)⟩
theorem MN.a12(h:MN w7 kb j s v G G G G O kA kC v1 v2 W):MN w7 kb j s v G G G G G kA kC v1 v2 (W.setCell ⟨kb,2,V⟩ v2):=
 ⟨fun e=>(by cases e),fun _ e=>(by cases e),fun _ e=>(by cases e),fun _ e=>(by cases e),fun _ _ e=>(by cases e),fun _ e=>(by cases e),fun _=>⟨W,h.ow rfl,h.O0 rfl rfl,rfl⟩⟩
end
def GZ(w7:U7)(kb kt kv:Nat)(j:Jd)(s v:ByteArray)(p0 p1 p2 p4 p6 p8 p9 c d e f g h i k l m n o p q r t u w x y z A B C D F I J L N P R S T W aa ab ac ad ae af ag ah ai aj ak:U9)(b:Array Bool)(a:Act)(ww:U7):Prop:=
 ∃(b0 b1 b2 b3 b4 b5 b6 b7 b8 b9 b10 b11 b12:Bool) (kA kC:Nat) (v1 v2:U9),b=#[b0,b1,b2,b3,b4,b5,b6,b7,b8,b9,b10,b11,b12]/\
  a={tmps:=#[p0,p1,p2,M (X ⟨kb,0,V⟩),p4,M (X ⟨kt,0,V⟩),p6,M (X ⟨kv,0,V⟩),p8,p9,c,d,e,f,g,h,i,k,l,m,n,o,p,q,r,t,u,w,x,y,z,A,B,C,D,F,I,J,L,N,P,R,S,cond b0 (U (X ⟨kA,0,V⟩) 0 0) (T),cond b1 (M (X ⟨kb,2,V⟩)) (W),cond b2 (U j.eA j.IJ.length j.ec) (aa),cond b3 (v1) (ab),cond b4 (M (X ⟨kt,1,V⟩)) (ac),cond b5 (Q s) (ad),cond b6 (M (X ⟨kv,1,V⟩)) (ae),cond b7 (Q v) (af),cond b8 (Us #[Q s,Q v]) (ag),cond b9 (U (X ⟨kC,0,V⟩) 1 1) (ah),cond b10 (v2) (ai),cond b11 (M (X ⟨kb,2,V⟩)) (aj),ak],defers:=[]}/\MN w7 kb j s v b0 b3 b9 b10 b12 kA kC v1 v2 ww
theorem vF(l:List (ByteArray×ByteArray)):(cH l).all U3=G:=by
 unfold cH;rw[List.all_flatMap];simp[U3]
section
variable {w : U7} {g : Nat} {A : Option U_} {c : Nat} {T : List IY} {a : Nat} {sv : U9} {j : Jd}
theorem FY(h:YP w w g A c T a sv)(hj:JT w j){J:Jd}{r:List IY}(hm:Gm.var (cV j) (T.drop a)=X (J,r)):
  U8 Vb 248 #[M (X ⟨g,0,V⟩),dm j] w (ii w g A c T r J sv j.nA):=by
 obtain⟨t,r1,r2,v,ht,hl,aT,hb,hs,hx,hJ⟩:=tR hm;have bh:=(ax (aq ht).1).2.2;subst bh;have bi:r2=T.drop (a+1+1):=by
  unfold Gm.sign at hs;split at hs
  ·injection hs with hs;rw[<-hs,Uz]
  cases hs
 subst bi;obtain⟨t2,aj,hv,aZ⟩:=fK hx;have a2:=(ax (aq aj).1).2.2;have bq:j.IJ.length<16:=aT;have bu:decide ((16:Int)<=(j.IJ.length:Int))=O:=by rw[decide_eq_false_iff_not];omega
 have au:Hid (∀k,k<j.IJ.length->(j.IJ.getD k (⟨#[]⟩,⟨#[]⟩)).1≠ab t.text):=aJ (fun k hk=>by
  have bg:Gm.hasB (j.IJ.map Prod.fst) (ab t.text)=O:=hb
  have h1:=zO bg k (by rw[bL];exact hk)
  simpa [bD,U4,bE hk] using h1)
 have HT:=aJ (fun W (hW:YP W W g A c T a sv)=>(iz hW ht hl:U8 Vb 202 #[M (X ⟨g,0,V⟩),Z Y 1,Z Y 32] W _))
 have HS:=aJ (fun W (hW:YP W W g A c T (a+1) sv)=>(sb hW (by decide) hs:U8 Vb 203 #[M (X ⟨g,0,V⟩),Q ⟨#[61]⟩] W _))
 have HV:=aJ (fun W (hW:YP W W g A c T (a+1+1) sv)=>(iz hW aj aZ:U8 Vb 202 #[M (X ⟨g,0,V⟩),Z Y 3,Z Y 512] W _))
 have HR:=aJ a2
 have a6:=aJ hJ
 unfold cZ at HT HV;rw[<-hv] at HV;have HJ:=aJ hj;clear hm ht hl aT hb hs hx hJ aj hv aZ a2 hj;generalize ab t.text=s at *;obtain⟨n,a4⟩:∃n,(w.alloc (H #[Q j.nm,Q j.run,U j.eA j.IJ.length j.ec,U j.nA j.IC.length j.nc,.bool j.IQ,Q j.ready,Z Y j.IE,Z E j.base,Z E j.cap,Z E j.IG,Z Y j.II,Z E j.win,U j.lA j.IK.length j.lc,Z Y j.IM,Z Y j.Jb] 63)).alloc (H #[Q ⟨#[]⟩,Q ⟨#[]⟩,U V 0 0,U V 0 0,.bool O,Q ⟨#[]⟩,Z Y 0,Z E 0,Z E 0,Z E 0,Z Y 0,Z E 0,U V 0 0,Z Y 0,Z Y 0] 63)=n:=⟨_,rfl⟩
 obtain⟨kb,ae⟩:∃kb,w.heap.size=kb:=⟨_,rfl⟩
 obtain⟨kr,aW⟩:∃kr,kb+1=kr:=⟨_,rfl⟩
 obtain⟨L,N,ai⟩:=jW (ID.refl ((w.alloc (H #[Q j.nm,Q j.run,U j.eA j.IJ.length j.ec,U j.nA j.IC.length j.nc,.bool j.IQ,Q j.ready,Z Y j.IE,Z E j.base,Z E j.cap,Z E j.IG,Z Y j.II,Z E j.win,U j.lA j.IK.length j.lc,Z Y j.IM,Z Y j.Jb] 63)).alloc (H #[Q ⟨#[]⟩,Q ⟨#[]⟩,U V 0 0,U V 0 0,.bool O,Q ⟨#[]⟩,Z Y 0,Z E 0,Z E 0,Z E 0,Z Y 0,Z E 0,U V 0 0,Z Y 0,Z Y 0] 63)));rw[a4] at L N ai;rw[ae,aW] at N;rw[ae] at L;have al:Hid (n.heap[kb]? =X (H (ag j).toArray 63 (0,0))):=aJ L;have av:Hid (n.heap[kr]? =X (H jz 63 (0,0))):=aJ N;have H1:Hid (YP w n g A c T a sv):=aJ (h.up ai);have bt:=aQ h.I2;have gb:g≠kb:=by omega
 have gr:g≠kr:=by omega
 have ba:kr≠kb:=by omega
 have a8:Hid (w.heap.size<=kr):=aJ (by omega)
 have a7:Hid (w.heap.size<=kb):=aJ (by omega)
 have H0:=aJ h
 clear L N ai h;unfold dm;go_enter func248,ntmps248;go_upto_region 1 with fail
 clear a4 aW ae;go_wp2_with fail;refine(HT _ H1.Jc).mono ?_;rintro e w2 ⟨rfl,p⟩;have H2:=aJ (H1.trans p);have am:=aJ (p.keep al gb);have aw:=aJ (p.keep av gr);clear p H1 al av;obtain⟨w3,D⟩:∃w3,w2.alloc (H #[Z Y (t.IF:Int),Q s,Z Y (t.IM:Int),Z Y (t.Jb:Int)] 146)=w3:=⟨_,rfl⟩
 obtain⟨kt,af⟩:∃kt,w2.heap.size=kt:=⟨_,rfl⟩
 have H3:Hid (YP w w3 g A c T (a+1) sv):=aJ (by rw[<-D];exact H2.up ((ID.refl _).alloc _))
 have R:Hid (w3.heap[kb]? =X (H (ag j).toArray 63 (0,0))):=aJ (by rw[<-D];exact((ID.refl _).alloc _).block am)
 have ay:Hid (w3.heap[kr]? =X (H jz 63 (0,0))):=aJ (by rw[<-D];exact((ID.refl _).alloc _).block aw)
 have ad:Hid (w3.heap[kt]? =X (H #[Z Y (t.IF:Int),Q s,Z Y (t.IM:Int),Z Y (t.Jb:Int)] 146 (0,0))):=aJ (by rw[<-D,<-af];exact aM _ _)
 have gt:g≠kt:=by rw[<-af];exact UD (aQ H2.I2)
 have e2:=cr_ R 2 (U j.eA j.IJ.length j.ec)
 have t1:=cr_ ad 1 (Q s)
 have HF:=aJ (dw H3)
 have ap:=aJ (HJ.call H0 H3).IJ
 clear H2 am aw HT;go_upto_region 2 with fail
 clear D af;go_wp2_with fail;refine(HF).mono ?_;rintro e w' ⟨rfl,rfl⟩;go_wp2;go_loopw [6] (fun i wr=>∃k m:Nat,k<=j.IJ.length/\i=Z Y (k:Int)/\wr=w'.drewN m) (fun i _=>j.IJ.length-(intOf i).toNat)
 case atStart=>exact⟨0,0,bO _,rfl,rfl⟩
 obtain⟨k,m,hk,rfl,rfl⟩:=hrel
 by_cases ah:k<j.IJ.length
 ·obtain⟨b,off,aU,_,hc⟩:=ap.out.rs.at_ (by rw[eF];omega)
  have x1:w'.cell? ⟨b,off+k*2,V⟩=_:=hc _ _ (eW j.IJ k ah).1
  have hne:=au k ah
  rw[aU] at e2;have q:((j.IJ.getD k (⟨#[]⟩,⟨#[]⟩)).1.toList==s.toList)=O:=nI hne;clear hc hne aU;generalize (j.IJ.getD k (⟨#[]⟩,⟨#[]⟩)).1=y at *;go_wp2;go_quiet (fail);go_wp2;go_roundw
  case rel=>exact⟨k+1,m+nq,by omega,by go_num,by first|rfl|exact Uy ..⟩
  simp[intOf];omega
 obtain rfl:k=j.IJ.length:=by omega
 have B:Hid (ID w' (w'.drewN m)):=aJ ((ID.refl _).drewN m)
 have H4:=aJ (H3.up B)
 have S:=aJ (B.out.block R)
 have az:=aJ (B.out.block ay)
 have aE:=aJ (B.out.block ad)
 generalize w'.drewN m=w4 at *;clear ah hk e2 t1 H3 R ay ad HF ap B au;have e2:=cr_ S 2 (U j.eA j.IJ.length j.ec);go_wp2_with fail;refine(HS _ H4.Jc).mono ?_;rintro e _ ⟨rfl,p⟩;have aF:=aJ (p.keep aE gt);clear e2;have H5:=aJ (H4.trans p);have an:=aJ (p.keep S gb);have aA:=aJ (p.keep az gr);clear p H4 S az;go_wp2_with fail;refine(HV _ H5.Jc).mono ?_;rintro e w6 ⟨rfl,p⟩;have aG:=aJ (p.keep aF gt);have H6:=aJ (H5.trans p);have ao:=aJ (p.keep an gb);have aB:=aJ (p.keep aA gr);clear p H5 an aA;clear HS HV aE aF;obtain⟨w7,x⟩:∃w7,w6.alloc (H #[Z Y (t2.IF:Int),Q v,Z Y (t2.IM:Int),Z Y (t2.Jb:Int)] 146)=w7:=⟨_,rfl⟩
 obtain⟨kv,aX⟩:∃kv,w6.heap.size=kv:=⟨_,rfl⟩
 have H7:Hid (YP w w7 g A c T (a+1+1+1) sv):=aJ (by rw[<-x];exact H6.up ((ID.refl _).alloc _))
 have z:Hid (w7.heap[kb]? =X (H (ag j).toArray 63 (0,0))):=aJ (by rw[<-x];exact((ID.refl _).alloc _).block ao)
 have aC:Hid (w7.heap[kr]? =X (H jz 63 (0,0))):=aJ (by rw[<-x];exact((ID.refl _).alloc _).block aB)
 have aH:Hid (w7.heap[kt]? =X (H #[Z Y (t.IF:Int),Q s,Z Y (t.IM:Int),Z Y (t.Jb:Int)] 146 (0,0))):=aJ (by rw[<-x];exact((ID.refl _).alloc _).block aG)
 have aS:Hid (w7.heap[kv]? =X (H #[Z Y (t2.IF:Int),Q v,Z Y (t2.IM:Int),Z Y (t2.Jb:Int)] 146 (0,0))):=aJ (by rw[<-x,<-aX];exact aM _ _)
 clear H6 ao aB aG;go_upto_region 13 with fail
 clear x aX;have ar:=aJ (HJ.call H0 H7).IJ;refine ak [([],[3,11,12,10]),([],[]),([1],[3,11,12,10]),([0,2,1],[10,11,12]),([],[]),([4],[8,11,12,9,10]),([],[]),([6],[8,11,12,9,10]),([5,7,4,6],[9,11,12,10]),([8,5,7,4,6],[10,11,12]),([3,9,0,2,8,1,5,7,4,6],[11,12]),([0,1,2,3,4,5,6,7,8,9,10],[]),([11,10,0,1,2,3,4,5,6,7,8,9],[])] (GZ w7 kb kt kv j s v _ _ _ _ _ _ _ _ _ _ _ _ _ _ _ _ _ _ _ _ _ _ _ _ _ _ _ _ _ _ _ _ _ _ _ _ _ _ _ _ _ _ _ _ _ _ _ _ _ _ _ _ _) (⟨O,O,O,O,O,O,O,O,O,O,O,O,O,0,0,aR,aR,rfl,rfl,MN.start⟩) ?_ ⟨?_,?_,?_,?_,?_,?_,?_,?_,?_,?_,?_,?_,?_,trivial⟩
 ·rintro a n ⟨b0,b1,b2,b3,b4,_,b6,b7,b8,b9,b10,b11,b12,kA,kC,v1,v2,hl,rfl,l⟩;have aY:=congrArg Array.toList hl;simp at aY;obtain⟨rfl,rfl,rfl,rfl,rfl,rfl,rfl,rfl,rfl,rfl,rfl,rfl,rfl⟩:=aY;clear hl;obtain⟨W0,I,a1,rfl⟩:=l.n12 rfl;obtain⟨f,d,rfl,P,_,_⟩:=a1.shape;have H8:=aJ (H7.up I);have aa:=aJ (I.block z);have aD:=aJ (I.block aC);have C:=(P.JQ (i:=2) aa (by decide) (U f (j.IJ.length+1) d))
  clear I a1 l P z aC H7 aH aS ar;obtain⟨w9,F⟩:∃W,W0.setCell ⟨kb,2,V⟩ (U f (j.IJ.length+1) d)=W:=⟨_,rfl⟩
  have a5:Hid (w9.heap[kb]? =X (H (ag (({j with eA:=f,IJ:=j.IJ++[(s,v)],ec:=d}:Jd))).toArray 63 (0,0))):=aJ (by rw[<-F,aO W0 kb 2 _ _ _ aa.out];simp[ag])
  have ac:Hid (w9.heap[kr]? =X (H jz 63 (0,0))):=aJ (by rw[<-F];exact(aL W0 ⟨kb,2,V⟩ kr _ ba).trans aD)
  have H9:=aJ (YP.Mf H0 H8 a7 gb 2 (U f (j.IJ.length+1) d))
  rw[F] at H9 ⊢
  try rw[F] at C
  clear F aa aD H8;have a':=aJ ac;obtain⟨⟨c0,c1,c2,c3,c4,c5,c6,c7,c8,c9,bb,bc,bd,be,bf⟩,_⟩:=cQ (show w9.heap[kb]? =X (H #[Q (({j with eA:=f,IJ:=j.IJ++[(s,v)],ec:=d}:Jd)).nm,Q (({j with eA:=f,IJ:=j.IJ++[(s,v)],ec:=d}:Jd)).run,U (({j with eA:=f,IJ:=j.IJ++[(s,v)],ec:=d}:Jd)).eA (({j with eA:=f,IJ:=j.IJ++[(s,v)],ec:=d}:Jd)).IJ.length (({j with eA:=f,IJ:=j.IJ++[(s,v)],ec:=d}:Jd)).ec,U (({j with eA:=f,IJ:=j.IJ++[(s,v)],ec:=d}:Jd)).nA (({j with eA:=f,IJ:=j.IJ++[(s,v)],ec:=d}:Jd)).IC.length (({j with eA:=f,IJ:=j.IJ++[(s,v)],ec:=d}:Jd)).nc,.bool (({j with eA:=f,IJ:=j.IJ++[(s,v)],ec:=d}:Jd)).IQ,Q (({j with eA:=f,IJ:=j.IJ++[(s,v)],ec:=d}:Jd)).ready,Z Y (({j with eA:=f,IJ:=j.IJ++[(s,v)],ec:=d}:Jd)).IE,Z E (({j with eA:=f,IJ:=j.IJ++[(s,v)],ec:=d}:Jd)).base,Z E (({j with eA:=f,IJ:=j.IJ++[(s,v)],ec:=d}:Jd)).cap,Z E (({j with eA:=f,IJ:=j.IJ++[(s,v)],ec:=d}:Jd)).IG,Z Y (({j with eA:=f,IJ:=j.IJ++[(s,v)],ec:=d}:Jd)).II,Z E (({j with eA:=f,IJ:=j.IJ++[(s,v)],ec:=d}:Jd)).win,U (({j with eA:=f,IJ:=j.IJ++[(s,v)],ec:=d}:Jd)).lA (({j with eA:=f,IJ:=j.IJ++[(s,v)],ec:=d}:Jd)).IK.length (({j with eA:=f,IJ:=j.IJ++[(s,v)],ec:=d}:Jd)).lc,Z Y (({j with eA:=f,IJ:=j.IJ++[(s,v)],ec:=d}:Jd)).IM,Z Y (({j with eA:=f,IJ:=j.IJ++[(s,v)],ec:=d}:Jd)).Jb] 63 (0,0)) from a5)
  obtain⟨⟨r0,r1,r2,r3,r4,r5,r6,r7,r8,r9,bl,bm,bn,bo,bp⟩,_,f1,f2,_,_,_,_,_,_,_,_,_,_,_,_⟩:=cQ (show w9.heap[kr]? =X (H #[Q ⟨#[]⟩,Q ⟨#[]⟩,U V 0 0,U V 0 0,.bool O,Q ⟨#[]⟩,Z Y 0,Z E 0,Z E 0,Z E 0,Z Y 0,Z E 0,U V 0 0,Z Y 0,Z Y 0] 63 (0,0)) from ac)
  have rl:kr<w9.heap.size:=aQ ac
  have HX:=aJ (YP.fill H0 H9 a8 gr (ag (({j with eA:=f,IJ:=j.IJ++[(s,v)],ec:=d}:Jd))))
  simp only at c0 c1 c2 c3 c4 c5 c6 c7 c8 c9 bb bc bd be bf
  have aI:=aJ (C.I4 a' (eu (ag ({j with eA:=f,IJ:=j.IJ++[(s,v)],ec:=d}:Jd)) 0 w9) (by decide))
  clear C;have aV:ag ({j with eA:=f,IJ:=j.IJ++[(s,v)],ec:=d}:Jd)=[Q j.nm,Q j.run,U f (j.IJ.length+1) d,U j.nA j.IC.length j.nc,.bool j.IQ,Q j.ready,Z Y j.IE,Z E j.base,Z E j.cap,Z E j.IG,Z Y j.II,Z E j.win,U j.lA j.IK.length j.lc,Z Y j.IM,Z Y j.Jb]:=by simp[ag]
  rw[aV] at HX aI;clear aV;go_wp2;refine aP (v:=dm {j with eA:=f,IJ:=j.IJ++[(s,v)],ec:=d}) (by simp[results,results248,go_sem,dm,r0,r1,r2,r3,r4,r5,r6,r7,r8,r9,bl,bm,bn,bo,bp]) rfl ?_
  have q:=HJ.call H0 HX
  have e5:cH (j.IJ++[(s,v)])=cH j.IJ++[Q s,Q v]:=by simp[cH]
  exact⟨_,_,rfl,by rw[a6.out];rfl,⟨by rw[e5];exact aI,q.IC,q.IK,by show(j.IJ++[(s,v)]).length<=_;rw[bF,bG];omega,q.nb,q.lb⟩,HR,HX,bX rfl⟩
 ·rintro _ _ n K ⟨b0,b1,b2,b3,b4,_,b6,b7,b8,b9,b10,b11,b12,kA,kC,v1,v2,rfl,h2,l⟩ h o
  repeat obtain⟨rfl,h⟩:=h
  subst h2;go_simp;apply o;iterate 13 apply bW
  exact⟨n.heap.size,kC,v1,v2,rfl,rfl,l.a0⟩
 rotate_left 1
 ·rintro _ _ n K ⟨b0,b1,b2,b3,b4,_,b6,b7,b8,b9,b10,b11,b12,kA,kC,v1,v2,rfl,h2,l⟩ h o
  repeat obtain⟨rfl,h⟩:=h
  subst h2;have hc:=(aK n kb 2 _ _ _ ((l.ow rfl).block z)).trans (rfl:_=X (Uu j.eA j.IJ.length j.ec));go_simp;apply o;iterate 13 apply bW
  exact⟨kA,kC,v1,v2,rfl,rfl,l⟩
 ·rintro _ _ n K ⟨b0,b1,b2,b3,b4,_,b6,b7,b8,b9,b10,b11,b12,kA,kC,v1,v2,rfl,h2,l⟩ h o
  repeat obtain⟨rfl,h⟩:=h
  subst h2;have h0:=l.n0 rfl rfl;refine eY n (by rfl) _ _ 58 (by rfl) w7.heap.size 238 (Us #[Q ⟨#[]⟩,Q ⟨#[]⟩]) 2 32 underlying58 oV rfl (by decide) (by decide) (U (X ⟨kA,0,V⟩) 0 0) 0 [] (by rfl) h0 j.eA j.IJ.length j.ec (cH j.IJ) (by rfl) (ar.up (l.ow rfl)).rs (by rw[eF,Nat.mul_comm]) (vF _) (by omega) (l.ow rfl).size ?_
  intro v' w' ho hg bj;rw[UT,List.nil_append] at ho;apply o;iterate 13 apply bW
  exact⟨kA,kC,v',v2,rfl,rfl,l.a3 ho hg⟩
 rotate_left 1
 ·rintro _ _ n K ⟨b0,b1,b2,b3,b4,_,b6,b7,b8,b9,b10,b11,b12,kA,kC,v1,v2,rfl,h2,l⟩ h o
  repeat obtain⟨rfl,h⟩:=h
  subst h2;have hc:=(aK n kt 1 _ _ _ ((l.ow rfl).block aH)).trans (rfl:_=X (Ux s));go_simp;apply o;iterate 13 apply bW
  exact⟨kA,kC,v1,v2,rfl,rfl,l⟩
 rotate_left 1
 ·rintro _ _ n K ⟨b0,b1,b2,b3,b4,_,b6,b7,b8,b9,b10,b11,b12,kA,kC,v1,v2,rfl,h2,l⟩ h o
  repeat obtain⟨rfl,h⟩:=h
  subst h2;have hc:=(aK n kv 1 _ _ _ ((l.ow rfl).block aS)).trans (rfl:_=X (Ux v));go_simp;apply o;iterate 13 apply bW
  exact⟨kA,kC,v1,v2,rfl,rfl,l⟩
 rotate_left 1
 ·rintro _ _ n K ⟨b0,b1,b2,b3,b4,_,b6,b7,b8,b9,b10,b11,b12,kA,kC,v1,v2,rfl,h2,l⟩ h o
  repeat obtain⟨rfl,h⟩:=h
  subst h2;go_simp;apply o;iterate 13 apply bW
  exact⟨kA,n.heap.size,v1,v2,rfl,rfl,l.a9⟩
 ·rintro _ _ n K ⟨b0,b1,b2,b3,b4,_,b6,b7,b8,b9,b10,b11,b12,kA,kC,v1,v2,rfl,h2,l⟩ h o
  repeat obtain⟨rfl,h⟩:=h
  subst h2;have h3:=l.n3 rfl rfl;have h9:=l.n9 rfl rfl;refine eY n (by rfl) _ _ 58 (by rfl) w7.heap.size 238 (Us #[Q ⟨#[]⟩,Q ⟨#[]⟩]) 2 32 underlying58 oV rfl (by decide) (by decide) v1 j.IJ.length (cH j.IJ) (by rfl) h3 (X ⟨kC,0,V⟩) 1 1 [Q s,Q v] (by rfl) (bY ⟨kC,0,rfl,fun i u hu=>by rw[UT,aK n kC i _ _ _ h9,U5];exact hu⟩) rfl rfl (by omega) (l.ow rfl).size ?_
  intro v' w' ho hg bj;apply o;iterate 13 apply bW
  exact⟨kA,kC,v1,v',rfl,rfl,l.a10 ho hg⟩
 rotate_left 1
 ·rintro _ _ n K ⟨b0,b1,b2,b3,b4,_,b6,b7,b8,b9,b10,b11,b12,kA,kC,v1,v2,rfl,h2,l⟩ h o
  repeat obtain⟨rfl,h⟩:=h
  subst h2;obtain⟨f,c9,bk,_,_,_⟩:=(l.O0 rfl rfl).shape;subst bk;have br:=aN n kb 2 _ _ ((l.ow rfl).block z);have hc:=(aK n kb 2 _ _ _ ((l.ow rfl).block z)).trans (rfl:_=X (Uu j.eA j.IJ.length j.ec));go_simp;exact o _ _ ⟨G,G,G,G,G,G,G,G,G,G,G,G,G,kA,kC,v1,U f (j.IJ.length+1) c9,rfl,rfl,l.a12⟩
 all_goals
  rintro _ _ n K ⟨b0,b1,b2,b3,b4,_,b6,b7,b8,b9,b10,b11,b12,kA,kC,v1,v2,rfl,h2,l⟩ h o
  repeat obtain⟨rfl,h⟩:=h
  subst h2;go_simp;apply o;iterate 13 apply bW
  exact⟨kA,kC,v1,v2,rfl,rfl,l⟩
end
section
variable {w : U7} {g : Nat} {A : Option U_} {c : Nat} {T : List IY} {a : Nat} {sv : U9} {j : Jd}
theorem qA(h:YP w w g A c T a sv)(hj:JT w j){x y:Nat}{r F:List IY}(i:Gm.num (T.drop a)=X (x,F))(C:1<=x)(D:x<=16)(k:Gm.num F=X (y,r)):
  U8 Vb 206 #[M (X ⟨g,0,V⟩),dm j,Q ⟨#[98,117,114,115,116]⟩] w (ii w g A c T r {cV j with II:=(x:Int),win:=(y:Int)} sv j.nA):=by
 obtain⟨_,u,-,-,-,-⟩:=ee i;have ab:=(ax (aq u).1).2.2;subst ab;obtain⟨_,z,-,-,-,-⟩:=ee k;have t:=(ax (aq z).1).2.2;have L:=aJ (fun W (hW:YP W W g A c T a sv)=>BJ hW j i C D k)
 have HR:=aJ t
 clear i k u z t C D;unfold dm at L;have HJ:=aJ hj;clear hj;obtain⟨m,B⟩:∃m,(w.alloc (H #[Q j.nm,Q j.run,U j.eA j.IJ.length j.ec,U j.nA j.IC.length j.nc,K j.IQ,Q j.ready,Z Y j.IE,Z E j.base,Z E j.cap,Z E j.IG,Z Y j.II,Z E j.win,U j.lA j.IK.length j.lc,Z Y j.IM,Z Y j.Jb] 63)).alloc (H #[Q ⟨#[]⟩,Q ⟨#[]⟩,U V 0 0,U V 0 0,K O,Q ⟨#[]⟩,Z Y 0,Z E 0,Z E 0,Z E 0,Z Y 0,Z E 0,U V 0 0,Z Y 0,Z Y 0] 63)=m:=⟨_,rfl⟩
 obtain⟨kb,f⟩:∃kb,w.heap.size=kb:=⟨_,rfl⟩
 obtain⟨kr,s⟩:∃kr,kb+1=kr:=⟨_,rfl⟩
 obtain⟨b,d,l⟩:=jW (ID.refl ((w.alloc (H #[Q j.nm,Q j.run,U j.eA j.IJ.length j.ec,U j.nA j.IC.length j.nc,K j.IQ,Q j.ready,Z Y j.IE,Z E j.base,Z E j.cap,Z E j.IG,Z Y j.II,Z E j.win,U j.lA j.IK.length j.lc,Z Y j.IM,Z Y j.Jb] 63)).alloc (H #[Q ⟨#[]⟩,Q ⟨#[]⟩,U V 0 0,U V 0 0,K O,Q ⟨#[]⟩,Z Y 0,Z E 0,Z E 0,Z E 0,Z Y 0,Z E 0,U V 0 0,Z Y 0,Z Y 0] 63)));rw[B] at b d l;rw[f,s] at d;rw[f] at b;have n:Hid (m.heap[kb]? =X (H (ag j).toArray 63 (0,0))):=aJ b;have o:Hid (m.heap[kr]? =X (H jz 63 (0,0))):=aJ d;have I:Hid (YP w m g A c T a sv):=aJ (h.up l);have ai:=aQ h.I2;have gb:g≠kb:=by omega
 have gr:g≠kr:=by omega
 have J:Hid (w.heap.size<=kr):=aJ (by omega)
 have H0:=aJ h
 clear b d l h;unfold dm;go_enter func206,ntmps206;go_upto_region 17 with fail
 clear B s f;obtain⟨⟨c0,c1,c2,c3,c4,c5,c6,c7,c8,c9,N,P,R,S,aa⟩,_⟩:=cQ (show m.heap[kb]? =X (H #[Q j.nm,Q j.run,U j.eA j.IJ.length j.ec,U j.nA j.IC.length j.nc,K j.IQ,Q j.ready,Z Y j.IE,Z E j.base,Z E j.cap,Z E j.IG,Z Y j.II,Z E j.win,U j.lA j.IK.length j.lc,Z Y j.IM,Z Y j.Jb] 63 (0,0)) from n)
 go_wp2_with fail;refine(L _ I.Jc).mono ?_;rintro e w2 ⟨rfl,hp⟩;clear c0 c1 c2 c3 c4 c5 c6 c7 c8 c9 N P R S aa L;have H2:=aJ (I.trans hp);have p:=aJ (hp.keep o gr);clear hp I n o;obtain⟨⟨r0,F,r2,r3,r4,r5,r6,r7,r8,r9,ac,ad,ae,af,ah⟩,_,f1,f2,_,_,_,_,_,_,_,_,_,_,_,_⟩:=cQ (show w2.heap[kr]? =X (H #[Q ⟨#[]⟩,Q ⟨#[]⟩,U V 0 0,U V 0 0,K O,Q ⟨#[]⟩,Z Y 0,Z E 0,Z E 0,Z E 0,Z Y 0,Z E 0,U V 0 0,Z Y 0,Z Y 0] 63 (0,0)) from p)
 have rl:kr<w2.heap.size:=aQ p
 have HX:=aJ (YP.fill H0 H2 J gr (ag (({j with II:=(x:Int),win:=(y:Int)}:Jd))))
 go_wp2
 refine aP (v:=dm ({j with II:=(x:Int),win:=(y:Int)})) (by simp[results,results206,go_sem,dm,r0,F,r2,r3,r4,r5,r6,r7,r8,r9,ac,ad,ae,af,ah]) rfl ?_
 have q:=HJ.call H0 HX
 exact⟨_,_,rfl,rfl,⟨q.IJ,q.IC,q.IK,q.eb,q.nb,q.lb⟩,HR,HX,bX rfl⟩
theorem vy(h:YP w w g A c T a sv)(hj:JT w j){J:Jd}{r:List IY}(hm:Gm.var (cV j) (T.drop a)=X (J,r)):
  U8 Vb 206 #[M (X ⟨g,0,V⟩),dm j,Q ⟨#[101,110,118]⟩] w (ii w g A c T r J sv j.nA):=by
 have L:=aJ (fun W (hW:YP W W g A c T a sv) (ab:JT W j)=>FY hW ab hm)
 clear hm;unfold dm at L;have HJ:=aJ hj;clear hj;obtain⟨m,B⟩:∃m,(w.alloc (H #[Q j.nm,Q j.run,U j.eA j.IJ.length j.ec,U j.nA j.IC.length j.nc,K j.IQ,Q j.ready,Z Y j.IE,Z E j.base,Z E j.cap,Z E j.IG,Z Y j.II,Z E j.win,U j.lA j.IK.length j.lc,Z Y j.IM,Z Y j.Jb] 63)).alloc (H #[Q ⟨#[]⟩,Q ⟨#[]⟩,U V 0 0,U V 0 0,K O,Q ⟨#[]⟩,Z Y 0,Z E 0,Z E 0,Z E 0,Z Y 0,Z E 0,U V 0 0,Z Y 0,Z Y 0] 63)=m:=⟨_,rfl⟩
 obtain⟨kb,k⟩:∃kb,w.heap.size=kb:=⟨_,rfl⟩
 obtain⟨kr,x⟩:∃kr,kb+1=kr:=⟨_,rfl⟩
 obtain⟨d,f,l⟩:=jW (ID.refl ((w.alloc (H #[Q j.nm,Q j.run,U j.eA j.IJ.length j.ec,U j.nA j.IC.length j.nc,K j.IQ,Q j.ready,Z Y j.IE,Z E j.base,Z E j.cap,Z E j.IG,Z Y j.II,Z E j.win,U j.lA j.IK.length j.lc,Z Y j.IM,Z Y j.Jb] 63)).alloc (H #[Q ⟨#[]⟩,Q ⟨#[]⟩,U V 0 0,U V 0 0,K O,Q ⟨#[]⟩,Z Y 0,Z E 0,Z E 0,Z E 0,Z Y 0,Z E 0,U V 0 0,Z Y 0,Z Y 0] 63)));rw[B] at d f l;rw[k,x] at f;rw[k] at d;have p:Hid (m.heap[kb]? =X (H (ag j).toArray 63 (0,0))):=aJ d;have s:Hid (m.heap[kr]? =X (H jz 63 (0,0))):=aJ f;have n:Hid (YP w m g A c T a sv):=aJ (h.up l);have ai:=aQ h.I2;have gb:g≠kb:=by omega
 have gr:g≠kr:=by omega
 have F:Hid (w.heap.size<=kr):=aJ (by omega)
 have H0:=aJ h
 clear d f l h;unfold dm;go_enter func206,ntmps206;go_upto_region 5 with fail
 clear B x k;obtain⟨⟨c0,c1,c2,c3,c4,c5,c6,c7,c8,c9,N,P,R,S,aa⟩,_⟩:=cQ (show m.heap[kb]? =X (H #[Q j.nm,Q j.run,U j.eA j.IJ.length j.ec,U j.nA j.IC.length j.nc,K j.IQ,Q j.ready,Z Y j.IE,Z E j.base,Z E j.cap,Z E j.IG,Z Y j.II,Z E j.win,U j.lA j.IK.length j.lc,Z Y j.IM,Z Y j.Jb] 63 (0,0)) from p)
 go_wp2_with fail;refine(L _ n.Jc (HJ.call H0 n)).mono ?_;rintro e w2 ⟨j2,a2,rfl,t,u,z,hp,y⟩;clear c0 c1 c2 c3 c4 c5 c6 c7 c8 c9 N P R S aa L;have C:=aJ t;have I:Hid (j2.nA=j.nA\/FX w j2.nA):=aJ (y.imp id (fun h b o e=>bN n.gr.size (h b o e)))
 have q:=aJ u
 have HR:=aJ z
 clear t u z HJ y;have H2:=aJ (n.trans hp);have i:=aJ (hp.keep s gr);clear hp n p s;obtain⟨⟨r0,r1,r2,r3,r4,r5,r6,r7,r8,r9,ac,ad,ae,af,ah⟩,_,f1,f2,_,_,_,_,_,_,_,_,_,_,_,_⟩:=cQ (show w2.heap[kr]? =X (H #[Q ⟨#[]⟩,Q ⟨#[]⟩,U V 0 0,U V 0 0,K O,Q ⟨#[]⟩,Z Y 0,Z E 0,Z E 0,Z E 0,Z Y 0,Z E 0,U V 0 0,Z Y 0,Z Y 0] 63 (0,0)) from i)
 have rl:kr<w2.heap.size:=aQ i
 have HX:=aJ (YP.fill H0 H2 F gr (ag (j2)))
 have D:=aJ (q.I4 i (eu (ag j2) 0 w2) (by decide) (by decide) (by decide))
 clear q;unfold dm;go_wp2;refine aP (v:=dm (j2)) (by simp[results,results206,go_sem,dm,r0,r1,r2,r3,r4,r5,r6,r7,r8,r9,ac,ad,ae,af,ah]) rfl ?_
 exact⟨_,_,rfl,C,D,HR,HX,I⟩
theorem sO:∀(f:Nat) {j J:Jd} {l r:List IY},Gm.IC f (cV j) l=X (J,r)->∃L,J=cV {j with IC:=L}/\L.length<=max 16 j.IC.length:=by
 intro f
 induction f with
 |zero=>intro j J l r h;cases h
 |succ f ih=>
  intro j J l r h;unfold Gm.IC at h;rw[show(cV j).IC=j.IC from rfl] at h
  cases b:Gm.name (decide (16<=j.IC.length)) l with
  |none=>grind
  |some p=>
   obtain⟨t,_⟩:=p;have a:=(eB b).2.2;rw[decide_eq_false_iff_not] at a;rw[b] at h;simp only at h;split at h
   ·cases h
   split at h
   ·obtain⟨L,h1,h2⟩:=ih (j:={j with IC:=j.IC++[ab t.text]}) h
    refine⟨L,h1,?_⟩;simp at h2;omega
   injection h with h
   injection h with h1 h2
   exact⟨j.IC++[ab t.text],h1.symm,by simp;omega⟩
theorem sB:∀(f:Nat) {j J:Jd} {l r:List IY},Gm.I8 f (cV j) l=X (J,r)->∃L,J=cV {j with IK:=L}/\L.length<=max 5 j.IK.length:=by
 intro f
 induction f with
 |zero=>intro j J l r h;cases h
 |succ f ih=>
  intro j J l r h;unfold Gm.I8 at h;rw[show(cV j).IK=j.IK from rfl] at h
  cases a:Gm.take 1 l with
  |none=>grind
  |some p=>
   obtain⟨t,b⟩:=p;rw[a] at h;simp only at h;split at h
   ·cases h
   next h5=>
   cases hx:Gm.num b with
   |none=>rw[hx] at h;cases h
   |some q=>
    rw[hx] at h;simp only at h;split at h
    ·obtain⟨L,h1,h2⟩:=ih (j:={j with IK:=j.IK++[(Gm.JF t.text,(q.1:Int))]}) h
     refine⟨L,h1,?_⟩;simp at h2;omega
    injection h with h
    injection h with h1 h2
    exact⟨j.IK++[(Gm.JF t.text,(q.1:Int))],h1.symm,by simp;omega⟩
theorem Ea(h:YP w w g A c T a sv)(hj:JT w j)(d:∀t∈T,t.text.length<=8192)
  {t:List Nat} {r:List IY} {J:Jd} (f:t=Gm.Ju->j.IC=[]) (hm:Gm.KM t (cV j) (T.drop a)=X (J,r)) (l:r≠[]):
  U8 Vb 206 #[M (X ⟨g,0,V⟩),dm j,Q (ab t)] w (ii w g A c T r J sv (if t=Gm.Ju then V else j.nA)):=by
 have wk:∀x,x≠Gm.Ju->(if x=Gm.Ju then V else j.nA)=j.nA:=fun x hx=>ng_ hx
 unfold Gm.KM at hm;split at hm
 ·next e=>
  subst e;cases hx:Gm.text 3 512 (T.drop a) with
  |none=>rw[hx] at hm;cases hm
  |some p=>rw[hx] at hm;obtain⟨s,b⟩:=p;injection hm with hm;injection hm with e1 e2;subst e1;subst e2;rw[wk _ (by decide)];exact vx h hj hx
 split at hm
 ·next e=>subst e;rw[wk _ (by decide)];exact vy h hj hm
 split at hm
 ·next e=>
  subst e;obtain⟨L,h1,h2⟩:=sO _ hm;have k:=f rfl;exact qz _ h hj k hm l ⟨L,h1,by rw[k] at h2;simp at h2;omega⟩
 split at hm
 ·next e=>
  subst e;cases hx:Gm.text 4 128 (T.drop a) with
  |none=>rw[hx] at hm;cases hm
  |some p=>rw[hx] at hm;obtain⟨s,b⟩:=p;injection hm with hm;injection hm with e1 e2;subst e1;subst e2;rw[wk _ (by decide)];exact qy h hj hx
 split at hm
 ·next e=>
  subst e;cases hx:Gm.take 1 (T.drop a) with
  |none=>rw[hx] at hm;cases hm
  |some p=>
   rw[hx] at hm;obtain⟨s,b⟩:=p;simp only at hm;split at hm
   ·cases hm
   next hp=>injection hm with hm;injection hm with e1 e2;subst e1;subst e2;rw[wk _ (by decide)];exact nS h hj hx hp (d s (U1 (i:=a) (by rw[(aq hx).1];exact U2 ..)))
 split at hm
 ·next e=>
  subst e;cases hx:Gm.num (T.drop a) with
  |none=>rw[hx] at hm;cases hm
  |some p=>
   obtain⟨x,b⟩:=p;rw[hx] at hm;simp only at hm;cases hy:Gm.num b with
   |none=>rw[hy] at hm;cases hm
   |some p=>
    obtain⟨y,m⟩:=p;rw[hy] at hm;simp only at hm;cases hz:Gm.num m with
    |none=>rw[hz] at hm;cases hm
    |some p=>obtain⟨z,_⟩:=p;rw[hz] at hm;injection hm with hm;injection hm with e1 e2;subst e1;subst e2;rw[wk _ (by decide)];exact nT h hj hx hy hz
 split at hm
 ·next e=>
  subst e;cases hx:Gm.num (T.drop a) with
  |none=>rw[hx] at hm;cases hm
  |some p=>
   obtain⟨x,b⟩:=p;rw[hx] at hm;simp only at hm;split at hm
   ·cases hm
   next hb=>
   cases hy:Gm.num b with
   |none=>rw[hy] at hm;cases hm
   |some p=>obtain⟨y,m⟩:=p;rw[hy] at hm;injection hm with hm;injection hm with e1 e2;subst e1;subst e2;rw[wk _ (by decide)];exact qA h hj hx (by omega) (by omega) hy
 split at hm
 ·next e=>
  subst e;obtain⟨L,h1,h2⟩:=sB (j:={j with lA:=V,IK:=[],lc:=0}) _ hm
  rw[wk _ (by decide)];exact sf h hj hm l d ⟨L,h1,by simp at h2;omega⟩
 cases hm
end
def LK:List (List Nat):=[Gm.J6,Gm.Kl,Gm.Ju,Gm.Ka,Gm.Jj,Gm.Jm,Gm.JJ,Gm.Kb]
theorem nC{l:List (List Nat)}{x:List Nat}(a:∀y∈l,∀b∈y,b<256)(hx:∀b∈x,b<256):Gm.hasB (l.map ab) (ab x)=decide (x∈l):=by grind [Gm.hasB,jF]
theorem BH(t:List Nat)(h:t∈LK)(w:U7):U8 Vb 204 #[Q (ab t)] w (RO_ (K G) w):=by
 have a:∀y∈LK,∀b∈y,b<256:=by decide
 have h1:=nC a (a t h)
 rw[decide_eq_true h] at h1;have c:Rs (w.alloc (H (ar (LK.map ab)).toArray 9)) (X ⟨w.heap.size,0,V⟩) (ar (LK.map ab)):=dQ w _ _;have hc:=xQ (X ⟨w.heap.size,0,V⟩) 8 (LK.map ab) (ab t) _ c (by decide)
 rw[h1] at hc;have d:Hid (U8 Vb 205 #[U (X ⟨w.heap.size,0,V⟩) 8 8,Q (ab t)] (w.alloc (H #[Q ⟨#[114,117,110]⟩,Q ⟨#[101,110,118]⟩,Q ⟨#[110,101,101,100,115]⟩,Q ⟨#[114,101,97,100,121]⟩,Q ⟨#[114,101,115,116,97,114,116]⟩,Q ⟨#[98,97,99,107,111,102,102]⟩,Q ⟨#[98,117,114,115,116]⟩,Q ⟨#[115,116,111,112]⟩] 9)) fun e w'=>e=Uq (K G)/\w'=_):=aJ hc
 have f:=aJ ((ID.refl w).alloc (H #[Q ⟨#[114,117,110]⟩,Q ⟨#[101,110,118]⟩,Q ⟨#[110,101,101,100,115]⟩,Q ⟨#[114,101,97,100,121]⟩,Q ⟨#[114,101,115,116,97,114,116]⟩,Q ⟨#[98,97,99,107,111,102,102]⟩,Q ⟨#[98,117,114,115,116]⟩,Q ⟨#[115,116,111,112]⟩] 9))
 clear h h1 a c hc;go_enter func204,ntmps204;go_wp2_with fail;refine d.mono ?_;rintro e w' ⟨rfl,rfl⟩;go_wp2;go_ret;exact⟨rfl,f⟩
def Ii(w:U7)(v v':U9):Prop:=v'.ownBlock=v.ownBlock\/∃j,v'.ownBlock=X j/\w.heap.size<=j
structure NT(w9:U7)(B g:Nat)(As:Option U_)(cs:Nat)(ps:List ByteArray)(s:ByteArray)(b7 b8 b11:Bool)(kC:Nat)(v1:U9)(W:U7):Prop where
 ow:b8=false->ID w9 W
 n7:b7=true->b8=false->W.heap[kC]? =some (.cells [Ux s].toArray 9 (0,0))
 n8:b8=true->b11=false->w9.grownBy W (Uu As ps.length cs).ownBlock/\IL W B 9 1 v1 (ps.length+1) (ar ps++[.string s])/\Ii w9 (Uu As ps.length cs) v1
 n11:b11=true->∃W0,w9.grownBy W0 (Uu As ps.length cs).ownBlock/\IL W0 B 9 1 v1 (ps.length+1) (ar ps++[.string s])/\Ii w9 (Uu As ps.length cs) v1/\W=W0.setCell ⟨g,5,none⟩ v1
section
variable {w9 W W' : U7} {B g kC : Nat} {As : Option U_} {cs : Nat} {ps : List ByteArray} {s : ByteArray} {b7 b8 : Bool} {v1 v' : U9}
theorem NT.start{x:U9}:NT w9 B g As cs ps s O O O 0 x w9.drew:=
 ⟨fun _=>(ID.refl _).drew,fun e=>(by cases e),fun e=>(by cases e),fun e=>(by cases e)⟩
theorem NT.a7(h:NT w9 B g As cs ps s O O O kC v1 W):NT w9 B g As cs ps s G O O W.heap.size v1 (W.alloc (H #[Q s] 9)):=
 ⟨fun _=>(h.ow rfl).alloc _,fun _ _=>aM W _,fun e=>(by cases e),fun e=>(by cases e)⟩
theorem NT.a8(h:NT w9 B g As cs ps s G O O kC v1 W)(c:IL W' B 9 1 v' (ps.length+1) (ar ps++[Q s]))(b:W.grownBy W' (Uu As ps.length cs).ownBlock)(a:v'.ownBlock=(Uu As ps.length cs).ownBlock\/∃j,v'.ownBlock=X j/\W.heap.size<=j):NT w9 B g As cs ps s G G O kC v' W':=
 ⟨fun e=>(by cases e),fun _ e=>(by cases e),fun _ _=>⟨sH (h.ow rfl) b,c,a.imp id (fun⟨j,e,q⟩=>⟨j,e,bN (h.ow rfl).out.size q⟩)⟩,fun e=>(by cases e)⟩
theorem NT.a11(h:NT w9 B g As cs ps s G G O kC v1 W):NT w9 B g As cs ps s G G G kC v1 (W.setCell ⟨g,5,V⟩ v1):=
 ⟨fun e=>(by cases e),fun _ e=>(by cases e),fun _ e=>(by cases e),fun _=>⟨W,(h.n8 rfl rfl).1,(h.n8 rfl rfl).2.1,(h.n8 rfl rfl).2.2,rfl⟩⟩
end
def ue(cs:Array U9):Nat->List U9->Array U9
 |_,[]=>cs
 |o,v::r=>ue (cs.setIfInBounds o v) (o+1) r
theorem nW{t:TypeId}:∀(a:List U9) (o:Nat) (w:U7) (cs:Array U9),w.heap[k]? =X (H cs t (0,0))->(w.setCells k o a).heap[k]? =X (H (ue cs o a) t (0,0)):=by
 intro a
 induction a with
 |nil=>intro o w cs h;exact h
 |cons v r ih=>intro o w cs h;exact ih (o+1) _ _ (aO w k o _ _ v h)
theorem vw{f:Nat}{IH:List (List Nat)}{j J:Jd}{r:List IY}{T:List IY}(h:Gm.JH f IH j (T.drop a)=X (J,r)):a<T.length:=by
 rcases UE a T.length with h2|h2
 ·exact h2
 rw[UF h2] at h;cases f<;>simp[Gm.JH,Gm.Jw,Gm.take] at h
theorem yn(j j2:Jd):ue (ag j).toArray 0 (ag j2)=(ag j2).toArray:=by simp[ue,ag]
theorem JT.push{j:Jd}{n:Nat}{g:List U9}(h:JT w j)(f:IL w B 9 1 v n g)(a:w.grownBy w' v.ownBlock)(ap:j.IC≠[]->∀b o,j.nA=X ⟨b,o,V⟩->X b≠v.ownBlock):JT w' j:=by
 refine⟨h.IJ.grown f (by decide) a,?_,h.IK.grown f (by decide) a,h.eb,h.nb,h.lb⟩
 by_cases e:j.IC=[]
 ·exact bX (by rw[e];rfl)
 rcases h.IC with q|⟨b,off,cur,fz,c,d,hc⟩
 ·exact bX q
 exact bY ⟨b,off,cur,fz,c,(a.block b (aQ d) (ap e b off c)).trans d,hc⟩
theorem tF{j j2:Jd}{v1:U9}{nd:Prop}[Decidable nd](h:JT w j)(ap:j.IC≠[]->∀b o,j.nA=X ⟨b,o,V⟩->X b≠sv.ownBlock)(i:Ii w sv v1)(f:∀k,v1.ownBlock=X k->k<w'.heap.size)(hne:¬nd->j2.IC=j.IC)(g:j2.nA=(if nd then V else j.nA)\/FX w' j2.nA):
  j2.IC≠[]->∀b o,j2.nA=X ⟨b,o,V⟩->X b≠v1.ownBlock:=by
 intro h2 b o d e;rcases g with q|q
 ·by_cases hd:nd
  ·rw[ps_ hd,d] at q;cases q
  rw[ng_ hd,d] at q;have n:=hne hd;rw[n] at h2;have m:=ap h2 b o q.symm;rcases i with c|⟨k,c,hk⟩
  ·exact m (e.trans c)
  rw[c] at e;injection e with e
  rcases h.IC with z|⟨r,off,cur,fz,t,u,hc⟩
  ·exact h2 (by cases p:j.IC with|nil=>rfl|cons a l=>rw[p] at z;simp[ar] at z)
  grind
 have m:=q b o d
 have s:=f b e.symm
 omega
theorem qU:∀(f:Nat) {j J:Jd} {l r:List IY},Gm.I8 f j l=X (J,r)->J.IC=j.IC:=by
 intro f
 induction f with
 |zero=>intro j J l r h;cases h
 |succ f ih=>
  intro j J l r h;unfold Gm.I8 at h;cases a:Gm.take 1 l with
  |none=>rw[a] at h;cases h
  |some p=>grind
theorem sX{t:List Nat}{j J:Jd}{l r:List IY}(h:Gm.KM t j l=X (J,r))(a:t≠Gm.Ju):J.IC=j.IC:=by
 unfold Gm.KM at h;split at h
 ·cases hx:Gm.text 3 512 l with
  |none=>rw[hx] at h;cases h
  |some p=>rw[hx] at h;injection h with h;injection h with h _;rw[<-h]
 split at h
 ·obtain⟨_,_,_,_,_,_,_,_,_,_,e⟩:=tR h;rw[e]
 split at h
 ·cases hx:Gm.text 4 128 l with
  |none=>rw[hx] at h;cases h
  |some p=>rw[hx] at h;injection h with h;injection h with h _;rw[<-h]
 split at h
 ·cases hx:Gm.take 1 l with
  |none=>rw[hx] at h;cases h
  |some p=>
   rw[hx] at h;simp only at h;split at h
   ·cases h
   injection h with h;injection h with h _;rw[<-h]
 split at h
 ·grind
 split at h
 ·cases hx:Gm.num l with
  |none=>rw[hx] at h;cases h
  |some p=>
   rw[hx] at h;simp only at h;split at h
   ·cases h
   cases hy:Gm.num p.2 with
   |none=>rw[hy] at h;cases h
   |some q=>rw[hy] at h;injection h with h;injection h with h _;rw[<-h]
 split at h
 ·have h2:=qU _ h
  exact h2
 cases h
def G1(w9:U7)(B g kw:Nat)(As:Option U_)(cs:Nat)(qs:List ByteArray)(s:ByteArray)(p1 p2 p3 p4 p5 p6 p8 p9 N P R S T W aa ab ac ad ae af ag ah ai aj ak al am an ao ap aq ar au av aw ax ay az aA aB aC aD aE aF aG aH aI aJ aK aL aM aN aO aP aQ aR aS aT aU aV aW aX aY aZ a0 a1 a2 a3 a4 a5 a6 a7 a8 a9 a' ba bb bc bd be bf bg bh bi bj bk bl bm bn bo bp bq br bt bu bv bw bx c d e f h i j k l m n o p q r t u w x y z A C D F I J L:U9)(b:Array Bool)(a:Act)(ww:U7):Prop:=
 ∃(b0 b1 b2 b3 b4 b5 b6 b7 b8 b9 b10 b11:Bool) (kC:Nat) (v1:U9),b=#[b0,b1,b2,b3,b4,b5,b6,b7,b8,b9,b10,b11]/\
  a={tmps:=#[M (X ⟨g,0,V⟩),p1,p2,p3,p4,p5,p6,M (X ⟨kw,0,V⟩),p8,p9,N,P,R,S,T,W,aa,ab,ac,ad,ae,af,ag,ah,ai,aj,ak,al,am,an,ao,ap,aq,ar,au,av,aw,ax,ay,az,aA,aB,aC,aD,aE,aF,aG,aH,aI,aJ,aK,aL,aM,aN,aO,aP,aQ,aR,aS,aT,aU,aV,aW,aX,aY,aZ,a0,a1,a2,a3,a4,a5,a6,a7,a8,a9,a',ba,bb,bc,bd,be,bf,bg,bh,bi,bj,bk,cond b0 (M (X ⟨g,0,V⟩)) (bl),cond b1 (M (X ⟨g,0,V⟩)) (bm),cond b2 (M (X ⟨g,0,V⟩)) (bn),cond b3 (M (X ⟨g,5,V⟩)) (bo),cond b4 (U As qs.length cs) (bp),cond b5 (M (X ⟨kw,1,V⟩)) (bq),cond b6 (Q s) (br),cond b7 (U (X ⟨kC,0,V⟩) 1 1) (bt),cond b8 (v1) (bu),cond b9 (M (X ⟨g,0,V⟩)) (bv),cond b10 (M (X ⟨g,5,V⟩)) (bw),bx,c,d,e,f,h,i,j,k,l,m,n,o,p,q,r,t,u,w,x,y,z,A,C,D,F,I,J,L],defers:=[]}/\NT w9 B g As cs qs s b7 b8 b11 kC v1 ww
theorem uZ:(⟨#[101,110,118]⟩:ByteArray).toList=[101,110,118]:=by rw[ByteArray.toList_eq]
theorem BI{ps IH:List (List Nat)}{t:List Nat}(h:∀x,x≠Gm.Kl->(x∈ps↔x∈IH)):∀x,x≠Gm.Kl->(x∈ps++[t]↔x∈(if t=Gm.Kl then IH else IH++[t])):=by
 intro x hx;split
 ·next e=>
  rw[Uv,UC,h x hx];constructor
  ·rintro(q|q)
   ·exact q
   exact absurd (q.trans e) hx
  exact bX
 rw[Uv,Uv,h x hx]
structure YjM(w wr:U7)(g kb kr:Nat)(A:Option U_)(c:Nat)(T:List IY)(J:Jd)(r:List IY)(a f:Nat)(sv:U9)(j:Jd)(IH ps:List (List Nat)):Prop where
 yp:YP w wr g A c T a sv
 kb:wr.heap[kb]? =some (.cells (ag j).toArray 63 (0,0))
 kr:wr.heap[kr]? =some (.cells jz 63 (0,0))
 jt:JT wr j
 own:IL wr w.heap.size 9 1 sv (ps.map ab).length (ar (ps.map ab))
 md:Gm.JH f IH (cV j) (T.drop a)=some (J,r)
 sn:∀x,x≠Gm.Kl->(x∈ps↔x∈IH)
 b8:∀y∈ps,∀b∈y,b<256
 nd:Gm.Ju∉ps->j.IC=[]
 JA:ps.length<=a
 ap:j.IC≠[]->∀b o,j.nA=some ⟨b,o,none⟩->some b≠sv.ownBlock
def AT(w:U7)(g kb kr:Nat)(A:Option U_)(c:Nat)(T:List IY)(J:Jd)(r:List IY)(gk:Nat)(wr:U7):Prop:=
 ∃(a f:Nat) (sv:U9) (j:Jd) (IH ps:List (List Nat)),gk=T.length-a/\Hid (YjM w wr g kb kr A c T J r a f sv j IH ps)
def FF(w:U7)(g:Nat)(A:Option U_)(c:Nat)(T:List IY)(r:List IY)(J:Jd)(e:Va)(w':U7):Prop:=
 ∃j' a' sv',e=Uq (dm j')/\cV j'=J/\JT w' j'/\r=T.drop a'/\YP w w' g A c T a' sv'
theorem F2{T:List IY}(h:YP w w g A c T a sv)(cx:∀t∈T,t.text.length<=8192){r:List IY}{J:Jd}(hm:Gm.I6 O (T.drop a)=X (J,r))(hr:r≠[])(JK:Nat)(dt:JK<32):
  U8 Vb 131 #[M (X ⟨g,0,V⟩),Z Y (JK:Int)] w (FF w g A c T r J):=by
 obtain⟨t1,r1,t2,r2,r3,bJ,cO,cK,bI,hit⟩:=mI hm;obtain⟨bK,cI,-⟩:=eB cK;have P:=ax (aq bJ).1;have e1:=P.2.2;subst e1;have cB:=ax (aq bK).1;have e2:=cB.2.2;subst e2;have e3:r3=T.drop (a+1+1+1):=by
  have h9:=bI
  unfold Gm.sign at h9;split at h9
  ·injection h9 with h9;rw[<-h9,Uz]
  cases h9
 subst e3;have df:=P.1;have aC:=(aq bJ).2;have cb:=aJ (fun W (hW:YP w W g A c T a sv)=>(by
  have h9:=F3 hW df 1 (ab [106,111,98])
  rw[P.2.1,aC,cO,decide_eq_true rfl,decide_eq_true rfl] at h9;exact h9:U8 Vb 200 #[M (X ⟨g,0,V⟩),Z Y 1,Q ⟨#[106,111,98]⟩] W (RO_ (.bool G) W)))
 have bm:=aJ (fun W (hW:YP W W g A c T (a+1) sv)=>(iz hW bK cI:U8 Vb 202 #[M (X ⟨g,0,V⟩),Z Y 1,Z Y 32] W _))
 have aA:=aJ (fun W (hW:YP W W g A c T (a+1+1) sv)=>(sb hW (by decide) bI:U8 Vb 203 #[M (X ⟨g,0,V⟩),Q ⟨#[123]⟩] W _))
 have I:=aJ hit
 have dc:=aJ cx
 have wa:Ut.wrap ((a:Int)+1)=(a:Int)+1:=bV _ (by have:=h.JA;omega)
 have du:=h.JA
 have qc:decide ((32:Int)<=(JK:Int))=O:=by rw[decide_eq_false_iff_not];omega
 have aU:=aQ h.I2
 clear hm cK bI hit bJ bK cO cI P cB hr cx aC;unfold cZ at bm;obtain⟨kr,cG⟩:∃kr,w.heap.size=kr:=⟨_,rfl⟩
 have gr:g≠kr:=by omega
 have cX:Hid (w.heap.size<=kr):=aJ (by omega)
 obtain⟨z,bM⟩:∃z,w.alloc (H #[Q ⟨#[]⟩,Q ⟨#[]⟩,U V 0 0,U V 0 0,.bool O,Q ⟨#[]⟩,Z Y 0,Z E 0,Z E 0,Z E 0,Z Y 0,Z E 0,U V 0 0,Z Y 0,Z Y 0] 63)=z:=⟨_,rfl⟩
 have H1:Hid (YP w z g A c T a sv):=aJ (by rw[<-bM];exact h.up ((ID.refl _).alloc _))
 have ci:Hid (z.heap[kr]? =X (H jz 63 (0,0))):=aJ (by rw[<-bM,<-cG];exact aM _ _)
 have H0:=aJ h
 clear h;go_enter func131,ntmps131;go_upto_region 1 with fail
 clear bM cG;go_wp2_with fail;refine(cb _ H1).mono ?_;rintro e w2 ⟨rfl,hd⟩;have S:=aJ (H1.up hd);have N:=aJ (hd.block ci);obtain⟨_,c1,f1,_⟩:=S.cells;clear hd H1 ci cb;obtain⟨w3,aZ⟩:∃w3,w2.setCell ⟨g,1,V⟩ (Z Y ((a:Int)+1))=w3:=⟨_,rfl⟩
 have H3:Hid (YP w w3 g A c T (a+1) sv):=aJ (by rw[<-aZ,show(a:Int)+1=((a+1:Nat):Int) by omega];exact S.put (a+1))
 have ck:Hid (w3.heap[kr]? =X (H jz 63 (0,0))):=aJ (by rw[<-aZ];exact(aL w2 ⟨g,1,V⟩ kr _ (fun e=>gr e.symm)).trans N)
 clear S N;go_upto_region 5 with fail
 try rw[aZ]
 clear aZ c1 f1;go_wp2_with fail;refine(bm _ H3.Jc).mono ?_;rintro e w4 ⟨rfl,p⟩;have aw:=aJ (p.keep ck gr);have H4:=aJ (H3.trans p);clear p H3 ck bm;obtain⟨s,hs⟩:∃s,ab t2.text=s:=⟨_,rfl⟩
 rw[hs] at I ⊢;clear hs;obtain⟨C,af⟩:∃C,w4.alloc (H #[Z Y (t2.IF:Int),Q s,Z Y (t2.IM:Int),Z Y (t2.Jb:Int)] 146)=C:=⟨_,rfl⟩
 obtain⟨kt,bB⟩:∃kt,w4.heap.size=kt:=⟨_,rfl⟩
 have H5:Hid (YP w C g A c T (a+1+1) sv):=aJ (by rw[<-af];exact H4.up ((ID.refl _).alloc _))
 have D:Hid (C.heap[kr]? =X (H jz 63 (0,0))):=aJ (by rw[<-af];exact((ID.refl _).alloc _).block aw)
 have F:Hid (C.heap[kt]? =X (H #[Z Y (t2.IF:Int),Q s,Z Y (t2.IM:Int),Z Y (t2.Jb:Int)] 146 (0,0))):=aJ (by rw[<-af,<-bB];exact aM _ _)
 have gt:g≠kt:=by rw[<-bB];exact UD (aQ H4.I2)
 clear H4 aw;go_upto_region 6 with fail
 clear af bB;have t1:=cr_ F 1 (Q s);have ds:=cr_ F 2 (Z Y (t2.IM:Int));have t3:=cr_ F 3 (Z Y (t2.Jb:Int));have tl:kt<C.heap.size:=aQ F;go_upto_region 9 with fail
 obtain⟨aV,aW,bE⟩:=jW (ID.refl ((C.alloc (H #[Z Y 15,Z E 5000] 241)).alloc (H #[Q s,Q ⟨#[]⟩,U V 0 0,U V 0 0,.bool O,Q ⟨#[]⟩,Z Y 2,Z E 100,Z E 10000,Z E 10000,Z Y 5,Z E 60000,U (X ⟨C.heap.size,0,V⟩) 1 1,Z Y (t2.IM:Int),Z Y (t2.Jb:Int)] 63)));generalize (C.alloc (H #[Z Y 15,Z E 5000] 241)).alloc (H #[Q s,Q ⟨#[]⟩,U V 0 0,U V 0 0,.bool O,Q ⟨#[]⟩,Z Y 2,Z E 100,Z E 10000,Z E 10000,Z Y 5,Z E 60000,U (X ⟨C.heap.size,0,V⟩) 1 1,Z Y (t2.IM:Int),Z Y (t2.Jb:Int)] 63)=w6 at *;obtain⟨kL,cE⟩:∃k,C.heap.size=k:=⟨_,rfl⟩
 have af:=H5.gr.size
 have cC:=aQ H5.I2
 have cM:=aQ D
 rw[cE] at aV aW af cC cM ⊢;obtain⟨kb,cF⟩:∃k,kL+1=k:=⟨_,rfl⟩
 rw[cF] at aW ⊢;have gb:g≠kb:=by omega
 have dd:kr≠kb:=by omega
 have cW:Hid (w.heap.size<=kb):=aJ (by omega)
 obtain⟨j0,aB⟩:∃j0:Jd,(⟨s,⟨#[]⟩,V,[],0,V,[],0,O,⟨#[]⟩,2,100,10000,10000,5,60000,X ⟨kL,0,V⟩,[(15,5000)],1,(t2.IM:Int),(t2.Jb:Int)⟩:Jd)=j0:=⟨_,rfl⟩
 have bR:Hid (w6.heap[kb]? =X (H (ag j0).toArray 63 (0,0))):=aJ (by rw[<-aB];exact aW)
 have cl:=aJ (bE.block D)
 have H6:=aJ (H5.up bE)
 have ce:Hid (JT w6 j0):=aJ (by rw[<-aB];exact⟨Ts.Jk,Ts.Jk,bY ⟨kL,0,_,_,rfl,aV,fun i u hu=>by simpa [I8] using hu⟩,by show(0:Nat)<=_;omega,by show(0:Nat)<=_;omega,by show(1:Nat)<=_;omega⟩)
 have bi:Hid (j0.IC=[]):=aJ (by rw[<-aB])
 have ca:Hid (Gm.JH ((T.drop (a+1+1+1)).length+1) [] (cV j0) (T.drop (a+1+1+1))=X (J,r)):=aJ (by rw[<-aB];exact I)
 clear aV aW bE cE cF af cC cM H5 D I t1 ds t3 tl F aB;go_wp2_with fail;refine(aA _ H6.Jc).mono ?_;rintro e w7 ⟨rfl,p⟩;have bS:=aJ (p.keep bR gb);have cm:=aJ (p.keep cl gr);have cf:=aJ (ce.I4 H6.I2 p.gr (by decide) (by decide) (by decide))
 have H7:=aJ (H6.trans p)
 obtain⟨_,_,_,_,c5,f5⟩:=H7.cells;clear p H6 bR cl ce aA;have cg:Hid (AT w g kb kr A c T J r (T.length-(a+1+1+1)) (w7.setCell ⟨g,5,V⟩ (U V 0 0))):=aJ ⟨a+1+1+1,_,_,j0,[],[],rfl,aJ ⟨H7.Ou _,(aL w7 ⟨g,5,V⟩ kb _ (fun e=>gb e.symm)).trans bS,(aL w7 ⟨g,5,V⟩ kr _ (fun e=>gr e.symm)).trans cm,cf.I4 H7.I2 (ay w7 g 5 _) (by decide) (by decide) (by decide),IL.Jk _ _ _ _,ca,fun x _=>Iff.rfl,fun y hy=>(by cases hy),fun _=>bi,bO _,fun e=>absurd bi e⟩⟩
 clear H7 bS cm cf ca bi;go_wp2;go_loopg [7] (T.length-(a+1+1+1)) (fun gk _ wr=>AT w g kb kr A c T J r gk wr)
 case atStart=>exact cg
 clear cg c5 f5;obtain⟨b,f,dr,j,IH,ps,rfl,o⟩:=hrel;have cA:=vw o.md;obtain⟨qs,aX⟩:∃qs,ps.map ab=qs:=⟨_,rfl⟩
 have HO:Hid (IL wr w.heap.size 9 1 dr qs.length (ar qs)):=aJ (aX▸o.own)
 have HQ:=aJ aX
 have bk:Hid (ps.length=qs.length):=aJ (by rw[<-aX,bL])
 have aV:qs.length<=100000:=by have:=o.out.JA;have:=o.out.yp.JA;have:=bk.out;omega
 clear aX;obtain⟨As,cs,rfl,_,_,_⟩:=HO.shape;have aO:=aJ (fun W (ho:ID wr W) x=>xQ As cs qs x W (jo (HO.up ho)).1 (by omega))
 have HP:=aJ o.yp
 have HB:=aJ o.kb
 have HR:=aJ o.kr
 have HJ:=aJ o.jt
 have aG:=aJ o.ap
 have HF:=aJ (dw o.yp)
 have aj:=lz o.yp cA 125 (by decide)
 cases ae:Gm.Jw 125 (T.drop b) with
 |true=>
  rw[ae] at aj;have HS:Hid (U8 Vb 200 #[M (X ⟨g,0,V⟩),Z Y 5,Q ⟨#[125]⟩] wr (RO_ (.bool G) wr)):=aJ aj;obtain⟨bc,hJ,bH⟩:=lQ o.md ae;rw[Uz] at bH;have p:=(o.sn Gm.J6 (by decide)).mpr bc
  have hh:=nC o.b8 (x:=Gm.J6) (by decide)
  rw[decide_eq_true p,HQ.out] at hh;have HH:Hid (∀W,ID wr W->U8 Vb 205 #[U As qs.length cs,Q ⟨#[114,117,110]⟩] W fun e w'=>e=Uq (.bool G)/\w'=W):=aJ (fun W ho=>by
   have h9:=aO W ho (ab Gm.J6)
   rw[hh] at h9;exact h9)
  have aA:Hid (∀W,YP W W g A c T b (U As qs.length cs)->U8 Vb 203 #[M (X ⟨g,0,V⟩),Q ⟨#[125]⟩] W (ig W g A c T (Ur #[]) (b+1) (U As qs.length cs))):=aJ (fun W hW=>sb hW (by decide) (r:=T.drop (b+1)) (by unfold Gm.sign;rw[ps_ ae,Uz]))
  have cT:=aJ hJ
  have c':=aJ bH
  clear aj bc hJ bH p hh ae aO o HQ bk aG;go_wp2_with fail;refine(HF).mono ?_;rintro e z ⟨rfl,rfl⟩;go_wp2_with fail;refine(HS).mono ?_;rintro e w2 ⟨rfl,hd⟩;have S:=aJ (HP.up hd);have ao:=aJ (hd.block HB);have N:=aJ (hd.block HR);have cd:=aJ (HJ.up hd);have HD:=aJ hd;have b':=aJ (dw S);obtain⟨_,_,_,_,e5,_⟩:=S.cells;clear hd HP HB HR HJ HF HS;go_wp2_with fail;refine(b').mono ?_;rintro e w3 ⟨rfl,rfl⟩;go_wp2_with fail;refine(HH _ HD).mono ?_;rintro e w4 ⟨rfl,rfl⟩;go_wp2_with fail;refine(aA _ S.Jc).mono ?_;rintro e C ⟨rfl,p⟩;have H5:=aJ (S.trans p);have aH:=aJ (p.keep ao gb);have D:=aJ (p.keep N gr);have cS:=aJ (cd.call S.Jc p);clear p e5 S ao N cd b' HH aA HD;obtain⟨⟨c0,c1,c2,c3,c4,c5,c6,c7,c8,c9,bo,bp,bq,br,bt⟩,_⟩:=cQ (show C.heap[kb]? =X (H #[Q j.nm,Q j.run,U j.eA (j).IJ.length j.ec,U j.nA (j).IC.length j.nc,.bool (j).IQ,Q j.ready,Z Y (j).IE,Z E j.base,Z E j.cap,Z E (j).IG,Z Y (j).II,Z E j.win,U j.lA (j).IK.length j.lc,Z Y (j).IM,Z Y (j).Jb] 63 (0,0)) from aH)
  obtain⟨⟨r0,r1,r2,r3,r4,r5,r6,r7,r8,r9,dj,dk,dl,dn,dp⟩,f0,f1,f2,f3,f4,f5,f6,f7,f8,f9,bu,bv,bw,bx,bz⟩:=cQ (show C.heap[kr]? =X (H #[Q ⟨#[]⟩,Q ⟨#[]⟩,U V 0 0,U V 0 0,.bool O,Q ⟨#[]⟩,Z Y 0,Z E 0,Z E 0,Z E 0,Z Y 0,Z E 0,U V 0 0,Z Y 0,Z Y 0] 63 (0,0)) from D)
  have HX:=aJ (YP.fill H0 H5 cX gr (ag (j)))
  have cU:=aJ (cS.I4 D (eu (ag j) 0 C) (by decide) (by decide) (by decide))
  go_wp2
  refine aP (v:=dm j) (by simp[results,results131,go_sem,dm,r0,r1,r2,r3,r4,r5,r6,r7,r8,r9,dj,dk,dl,dn,dp]) rfl ?_
  exact⟨_,_,_,rfl,cT.symm,cU,c',HX⟩
 |false=>
  rw[ae] at aj;have HS:Hid (U8 Vb 200 #[M (X ⟨g,0,V⟩),Z Y 5,Q ⟨#[125]⟩] wr (RO_ (.bool O) wr)):=aJ aj;obtain⟨f1,t,r1,J1,r2,ht,cN,hit,ad⟩:=dg o.md ae;have P:=ax (aq ht).1;have e1:=P.2.2;subst e1;have aC:=(aq ht).2;have aD:t.text∈LK:=by rcases oT (by rw[hit];rfl) with h|h|h|h|h|h|h|h<;>rw[h]<;>decide
  have bA:∀x∈t.text,x<256:=(by decide:∀y∈LK,∀b∈y,b<256) _ aD
  have ac:r2≠[]:=by rintro rfl;cases f1<;>simp[Gm.JH,Gm.Jw,Gm.take] at ad
  have ct:=aJ bA
  have bD:t.text=Gm.Kl\/t.text∉ps:=by
   by_cases he:t.text=Gm.Kl
   ·exact bX he
   exact bY (fun hx=>(cN.resolve_left he) ((o.sn _ he).mp hx))
  have cp:=aJ bD
  have bf:Hid (t.text∉ps->Gm.hasB qs (ab t.text)=O):=aJ (fun h=>by
   have h9:=nC o.b8 (x:=t.text) bA
   rw[decide_eq_false h,HQ.out] at h9;exact h9)
  have I:=aJ (fun W sv' (hW:YP W W g A c T (b+1) sv') (de:JT W j)=>Ea hW de dc (fun e=>o.nd (bD.elim (fun h=>absurd (h.symm.trans e) (by decide)) (fun h=>by rw[<-e];exact h))) hit ac)
  have HN:=aJ (fun W (hW:YP W W g A c T b (U As qs.length cs))=>qx hW cA)
  rw[P.2.1] at HN;unfold cZ at HN;have bh:=aJ (BH t.text aD);have q0:((t.IF:Int) !=1)=O:=by rw[aC];rfl
  have co:=aJ ad
  have bj:Hid (t.text≠Gm.Ju->J1.IC=j.IC):=aJ (fun h=>(sX (j:=cV j) hit h).trans rfl)
  have cY:Hid (r2.length<=T.length-(b+1)/\r2≠[]):=aJ ⟨by have h:=ny hit;rwa [Uw] at h,ac⟩
  obtain⟨s,hs⟩:∃s,ab t.text=s:=⟨_,rfl⟩
  rw[hs] at bf I HN bh;have bl:=aJ hs;clear aj ae ht cN hit ad P aC aD bA ac bD hs;go_wp2_with fail;refine(HF).mono ?_;rintro e z ⟨rfl,rfl⟩;go_wp2_with fail;refine(HS).mono ?_;rintro e w2 ⟨rfl,hd⟩;have S:=aJ (HP.up hd);have ao:=aJ (hd.block HB);have N:=aJ (hd.block HR);have bZ:=aJ hd;clear hd HP HB HR HF HS;go_wp2_with fail;refine(HN _ S.Jc).mono ?_;rintro e w3 ⟨rfl,hd⟩;obtain⟨w4,al⟩:∃w4,w3.alloc (H #[Z Y (t.IF:Int),Q s,Z Y (t.IM:Int),Z Y (t.Jb:Int)] 146)=w4:=⟨_,rfl⟩
  obtain⟨kw,bC⟩:∃kw,w3.heap.size=kw:=⟨_,rfl⟩
  have b5:Hid (ID z w4):=aJ (by rw[<-al];exact(bZ.up hd).alloc _)
  have aS:Hid (w4.heap[kw]? =X (H #[Z Y (t.IF:Int),Q s,Z Y (t.IM:Int),Z Y (t.Jb:Int)] 146 (0,0))):=aJ (by rw[<-al,<-bC];exact aM _ _)
  have H4:Hid (YP w w4 g A c T b (U As qs.length cs)):=aJ (by rw[<-al];exact(S.up hd).up ((ID.refl _).alloc _))
  have bQ:Hid (w4.heap[kb]? =X (H (ag j).toArray 63 (0,0))):=aJ (by rw[<-al];exact((ID.refl _).alloc _).block (hd.block ao))
  have aw:Hid (w4.heap[kr]? =X (H jz 63 (0,0))):=aJ (by rw[<-al];exact((ID.refl _).alloc _).block (hd.block N))
  have gt:g≠kw:=by rw[<-bC];exact UD (UI (aQ S.I2) hd.out.size)
  clear hd S ao N HN bZ;have t0:=cr_ aS 0 (Z Y (t.IF:Int));have t1:=cr_ aS 1 (Q s);go_upto_region 13 with fail
  clear al bC;go_wp2_with fail;refine(bh _).mono ?_;rintro e C ⟨rfl,hd⟩;have H5:=aJ (H4.up hd);have aH:=aJ (hd.block bQ);have D:=aJ (hd.block aw);have F:=aJ (hd.block aS);have aI:=aJ (b5.up hd);clear hd t0 t1 H4 bQ aw aS b5 bh q0;have t1:=cr_ F 1 (Q s);obtain⟨_,_,_,_,e5,_⟩:=H5.cells;go_upto_region 16 with fail
  go_cut [83] from 49 to 110 (fun dq wx=>dq= .bool O/\∃n,wx=C.drewN n)
  case first=>
   by_cases he:s=⟨#[101,110,118]⟩
   ·have q:(s.toList==(⟨#[101,110,118]⟩:ByteArray).toList)=G:=by rw[he];simp
    have q2:(s.toList==[101,110,118])=G:=by rw[uZ] at q;exact q
    clear he;go_quiet (fail);go_wp2;go_meet;exact⟨rfl,_,rfl⟩
   have q:(s.toList==(⟨#[101,110,118]⟩:ByteArray).toList)=O:=nI he
   have q2:(s.toList==[101,110,118])=O:=by rw[uZ] at q;exact q
   have hh:=bf (cp.resolve_left (fun e=>he (by rw[<-bl.out,e];rfl)))
   have HH:Hid (∀n,U8 Vb 205 #[U As qs.length cs,Q s] (C.drewN n) fun e w'=>e=Uq (.bool O)/\C.drewN n=w'):=aJ (fun n=>(aO _ (aI.drewN n) s).mono (fun _ _ h=>⟨by rw[h.1,hh],h.2.symm⟩))
   clear he hh;go_quiet ((go_at_call 205;exact mY (HH _)));go_wp2;go_meet;exact⟨rfl,_,rfl⟩
  case rest=>
  obtain⟨rfl,n,cP⟩:=hcut;obtain⟨w9,di⟩:∃W,W=wc:=⟨_,rfl⟩
  subst di;have aa:Hid (ID C w9):=aJ (by rw[cP];exact(ID.refl _).drewN n)
  clear cP t1 e5;have L:=aJ (HO.up (aI.up aa));have bg:=aJ (HJ.up (aI.up aa));have H9:=aJ (H5.up aa);have bT:=aJ (aa.out.block aH);have cn:=aJ (aa.out.block D);have bn:=aJ (aa.out.block F);have au:=aJ H9.I2;have da:Hid (w.heap.size<=w9.heap.size):=aJ H9.gr.size;clear aa aI H5 aH D F aO HO HJ bf;go_upto_region 19 with fail
  refine ak [([],[]),([],[]),([1],[]),([2],[]),([3,2,1],[8,9,10,11]),([],[]),([5],[7,9,10,11,8]),([6,5],[8,9,10,11]),([4,7,3,6,2,5,1],[9,10,11]),([0,1,2,3,4,5,6,7,8],[]),([9,0,1,2,3,4,5,6,7,8],[]),([10,8,0,1,2,3,4,5,6,7,9],[])] (G1 w9 w.heap.size g kw As cs qs s _ _ _ _ _ _ _ _ _ _ _ _ _ _ _ _ _ _ _ _ _ _ _ _ _ _ _ _ _ _ _ _ _ _ _ _ _ _ _ _ _ _ _ _ _ _ _ _ _ _ _ _ _ _ _ _ _ _ _ _ _ _ _ _ _ _ _ _ _ _ _ _ _ _ _ _ _ _ _ _ _ _ _ _ _ _ _ _ _ _ _ _ _ _ _ _ _ _ _ _ _ _ _ _ _ _ _ _ _ _ _ _ _ _ _ _ _ _ _ _ _ _ _ _ _ _) (⟨O,O,O,O,O,O,O,O,O,O,O,O,0,aR,rfl,rfl,NT.start⟩) ?_ ⟨?_,?_,?_,?_,?_,?_,?_,?_,?_,?_,?_,?_,trivial⟩
  ·rintro a z ⟨b0,b1,b2,b3,b4,_,b6,b7,b8,b9,b10,b11,kC,v1,hl,rfl,B⟩;have cH:=congrArg Array.toList hl;simp at cH;obtain⟨rfl,rfl,rfl,rfl,rfl,rfl,rfl,rfl,rfl,rfl,rfl,rfl⟩:=cH;clear hl;obtain⟨W0,R,aE,aY,rfl⟩:=B.n11 rfl;obtain⟨A9,c9,rfl,_,_,_⟩:=aE.shape;have cy:=aG.out;have cc:=bg.push L R cy;have bd:=H9.N5 aU L R (by decide)
   have bP:=L.keeps R bT (by decide)
   have ch:=L.keeps R cn (by decide)
   have cr:=L.keeps R bn (by decide)
   have cq:=aJ aY
   obtain⟨m,d⟩:∃W,W0.setCell ⟨g,5,V⟩ (U A9 (qs.length+1) c9)=W:=⟨_,rfl⟩
   have aF:Hid (YP w m g A c T b (U A9 (qs.length+1) c9)):=aJ (by rw[<-d];exact bd.Ou _)
   have a1:Hid (m.heap[kb]? =X (H (ag j).toArray 63 (0,0))):=aJ (by rw[<-d];exact(aL W0 ⟨g,5,V⟩ kb _ (fun e=>gb e.symm)).trans bP)
   have a9:Hid (m.heap[kr]? =X (H jz 63 (0,0))):=aJ (by rw[<-d];exact(aL W0 ⟨g,5,V⟩ kr _ (fun e=>gr e.symm)).trans ch)
   have ba:Hid (m.heap[kw]? =X (H #[Z Y (t.IF:Int),Q s,Z Y (t.IM:Int),Z Y (t.Jb:Int)] 146 (0,0))):=aJ (by rw[<-d];exact(aL W0 ⟨g,5,V⟩ kw _ (fun e=>gt e.symm)).trans cr)
   have a3:Hid (JT m j):=aJ (by rw[<-d];exact cc.I4 bd.I2 (ay W0 g 5 _) (by decide) (by decide) (by decide))
   have a5:Hid (IL m w.heap.size 9 1 (U A9 (qs.length+1) c9) (qs.length+1) (ar qs++[Q s])):=aJ (by rw[<-d];exact eT aE (ay W0 g 5 _) aU)
   have wb:Ut.wrap ((b:Int)+1)=(b:Int)+1:=bV _ (by have:=H9.out.JA;omega)
   rw[d];clear d bP ch cr cc bd aY aE R B au L H9 bT cn bn cy;obtain⟨_,c1,z1,_⟩:=aF.cells;go_upto_region 21 with fail
   obtain⟨ah,l⟩:∃W,m.setCell ⟨g,1,V⟩ (Z Y ((b:Int)+1))=W:=⟨_,rfl⟩
   have be:Hid (YP w ah g A c T (b+1) (U A9 (qs.length+1) c9)):=aJ (by rw[<-l,show(b:Int)+1=((b+1:Nat):Int) by omega];exact aF.put (b+1))
   have an:Hid (ah.heap[kb]? =X (H (ag j).toArray 63 (0,0))):=aJ (by rw[<-l];exact(aL m ⟨g,1,V⟩ kb _ (fun e=>gb e.symm)).trans a1)
   have a':Hid (ah.heap[kr]? =X (H jz 63 (0,0))):=aJ (by rw[<-l];exact(aL m ⟨g,1,V⟩ kr _ (fun e=>gr e.symm)).trans a9)
   have bb:Hid (ah.heap[kw]? =X (H #[Z Y (t.IF:Int),Q s,Z Y (t.IM:Int),Z Y (t.Jb:Int)] 146 (0,0))):=aJ (by rw[<-l];exact(aL m ⟨g,1,V⟩ kw _ (fun e=>gt e.symm)).trans ba)
   have a4:Hid (JT ah j):=aJ (by rw[<-l];exact a3.I4 aF.I2 (ay m g 1 _) (by decide) (by decide) (by decide))
   have av:Hid (IL ah w.heap.size 9 1 (U A9 (qs.length+1) c9) (qs.length+1) (ar qs++[Q s])):=aJ (by rw[<-l];exact eT a5 (ay m g 1 _) aU)
   rw[l];clear l c1 z1 aF a1 a9 ba a3 a5 wb;have t1:=cr_ bb 1 (Q s);obtain⟨⟨c0,c1,c2,c3,c4,c5,c6,c7,c8,cu,bo,bp,bq,br,bt⟩,f0,cv,f2,f3,f4,cw,f6,f7,f8,f9,bu,bv,bw,bx,bz⟩:=cQ (show ah.heap[kb]? =X (H #[Q j.nm,Q j.run,U j.eA j.IJ.length j.ec,U j.nA j.IC.length j.nc,.bool j.IQ,Q j.ready,Z Y j.IE,Z E j.base,Z E j.cap,Z E j.IG,Z Y j.II,Z E j.win,U j.lA j.IK.length j.lc,Z Y j.IM,Z Y j.Jb] 63 (0,0)) from an)
   clear f0 cv f2 f3 f4 cw f6 f7 f8 f9 bu bv bw bx bz;unfold dm at I;go_wp2_with fail;refine(I _ _ be.Jc a4).mono ?_;rintro e am ⟨j2,a2,rfl,aT,cD,ac,p,cL⟩;clear c0 c1 c2 c3 c4 c5 c6 c7 c8 cu bo bp bq br bt t1 I;have cJ:b+1<=a2/\T.length-a2<T.length-b:=by
    obtain⟨h1,h2⟩:=cY;rw[ac] at h1 h2;rw[Uw] at h1;have h3:a2<T.length:=by
     rcases UE a2 T.length with h|h
     ·exact h
     exact absurd (UF h) h2
    omega
   have cR:=aJ (be.trans p)
   have ai:=aJ (p.keep an gb)
   have cj:=aJ (p.keep a' gr)
   have a6:=aJ (eT av p.gr aU)
   have a0:=aJ (tF (j2:=j2) (nd:=t.text=Gm.Ju) bg aG cq (fun k e=>(bU av k e).2) (fun h=>by have h2:=bj h;rw[<-aT] at h2;exact h2) cL)
   have az:=co.out
   rw[<-aT,ac] at az;have HX:Hid (AT w g kb kr A c T J r (T.length-a2) (am.setCells kb 0 (ag j2))):=aJ ⟨a2,f1,U A9 (qs.length+1) c9,j2,_,ps++[t.text],rfl,aJ ⟨YP.fill H0 cR cW gb (ag j2),by rw[<-yn j j2];exact nW (ag j2) 0 am _ ai,(ji dd (ag j2) 0 am).trans cj,cD.I4 ai (eu (ag j2) 0 am) (by decide) (by decide) (by decide),by
    have e:(ps++[t.text]).map ab=qs++[s]:=by rw[UG,HQ.out,U6,bl.out]
    rw[e,bF,bG,show ar (qs++[s])=ar qs++[Q s] by simp[ar]]
    exact a6.I4 ai (eu (ag j2) 0 am) (by decide),az,BI o.sn,fun y hy=>(Uv.mp hy).elim (o.b8 y) (fun h=>by rw[UC.mp h];exact ct),fun h=>by
    have h1:Gm.Ju∉ps:=fun e=>h (List.mem_append_left _ e)
    have h2:t.text≠Gm.Ju:=fun e=>h (List.mem_append_right _ (by rw[e];exact List.mem_singleton_self _))
    have h3:=bj h2
    rw[<-aT] at h3;exact h3.trans (o.nd h1),by rw[bF,bG];have:=o.out.JA;have:=cJ.1;omega,a0⟩⟩
   clear aT cD ac p cL az a4 av bb a0 a6 be an a' o cp aG cq bj co ct HQ bk bl bg;obtain⟨⟨c0,c1,c2,c3,c4,c5,c6,c7,c8,cu,bo,bp,bq,br,bt⟩,f0,cv,f2,f3,f4,cw,f6,f7,f8,f9,bu,bv,bw,bx,bz⟩:=cQ (show am.heap[kb]? =X (H #[Q j.nm,Q j.run,U j.eA j.IJ.length j.ec,U j.nA j.IC.length j.nc,.bool j.IQ,Q j.ready,Z Y j.IE,Z E j.base,Z E j.cap,Z E j.IG,Z Y j.II,Z E j.win,U j.lA j.IK.length j.lc,Z Y j.IM,Z Y j.Jb] 63 (0,0)) from ai)
   unfold dm;go_wp2;go_roundg (T.length-a2)
   case rel=>exact HX
   exact cJ.2
  rotate_left 4
  ·rintro _ _ z K ⟨b0,b1,b2,b3,b4,_,b6,b7,b8,b9,b10,b11,kC,v1,rfl,h2,B⟩ h hK
   repeat obtain⟨rfl,h⟩:=h
   subst h2;have hc:=(aK z g 5 _ _ _ ((B.ow rfl).block au)).trans (rfl:_=X (Uu As qs.length cs));go_simp;apply hK;iterate 12 apply bW
   exact⟨kC,v1,rfl,rfl,B⟩
  rotate_left 1
  ·rintro _ _ z K ⟨b0,b1,b2,b3,b4,_,b6,b7,b8,b9,b10,b11,kC,v1,rfl,h2,B⟩ h hK
   repeat obtain⟨rfl,h⟩:=h
   subst h2;have hc:=(aK z kw 1 _ _ _ ((B.ow rfl).block bn)).trans (rfl:_=X (Ux s));go_simp;apply hK;iterate 12 apply bW
   exact⟨kC,v1,rfl,rfl,B⟩
  ·rintro _ _ z K ⟨b0,b1,b2,b3,b4,_,b6,b7,b8,b9,b10,b11,kC,v1,rfl,h2,B⟩ h hK
   repeat obtain⟨rfl,h⟩:=h
   subst h2;go_simp;apply hK;iterate 12 apply bW
   exact⟨z.heap.size,v1,rfl,rfl,B.a7⟩
  ·rintro _ _ z K ⟨b0,b1,b2,b3,b4,_,b6,b7,b8,b9,b10,b11,kC,v1,rfl,h2,B⟩ h hK
   repeat obtain⟨rfl,h⟩:=h
   subst h2;have h7:=B.n7 rfl rfl;refine eY z (by rfl) _ _ 59 (by rfl) w.heap.size 9 (Q ⟨#[]⟩) 1 16 underlying59 oY rfl (by decide) (by decide) (U As qs.length cs) qs.length (ar qs) (by rfl) (L.up (B.ow rfl)) (X ⟨kC,0,V⟩) 1 1 [Q s] (by rfl) (bY ⟨kC,0,rfl,fun i u hu=>by rw[UT,aK z kC i _ _ _ h7,U5];exact hu⟩) rfl rfl (by omega) (bN da (B.ow rfl).size) ?_
   intro v' w' ho hg aY;apply hK;iterate 12 apply bW
   exact⟨kC,v',rfl,rfl,B.a8 ho hg aY⟩
  rotate_left 2
  ·rintro _ _ z K ⟨b0,b1,b2,b3,b4,_,b6,b7,b8,b9,b10,b11,kC,v1,rfl,h2,B⟩ h hK
   repeat obtain⟨rfl,h⟩:=h
   subst h2;obtain⟨R,aE,_⟩:=B.n8 rfl rfl;obtain⟨A9,c9,dh,_,_,_⟩:=aE.shape;subst dh;have cz:=(R.block g (aQ au) (db L au (by decide))).trans au
   have dv:=aN z g 5 _ _ cz
   have hc:=(aK z g 5 _ _ _ cz).trans (rfl:_=X (Uu As qs.length cs))
   go_simp;exact hK _ _ ⟨G,G,G,G,G,G,G,G,G,G,G,G,kC,U A9 (qs.length+1) c9,rfl,rfl,B.a11⟩
  all_goals
   rintro _ _ z K ⟨b0,b1,b2,b3,b4,_,b6,b7,b8,b9,b10,b11,kC,v1,rfl,h2,B⟩ h hK
   repeat obtain⟨rfl,h⟩:=h
   subst h2;go_simp;apply hK;iterate 12 apply bW
   exact⟨kC,v1,rfl,rfl,B⟩
theorem JT.grow{j:Jd}{n:Nat}{c:List U9}(h:JT w j)(b:IL w B 63 15 v n c)(a:w.grownBy w' v.ownBlock):JT w' j:=
 ⟨h.IJ.grown b (by decide) a,h.IC.grown b (by decide) a,h.IK.grown b (by decide) a,h.eb,h.nb,h.lb⟩
theorem YP.grow{T:List IY}{n:Nat}(h:YP w wr g A c T a sv)(f:IL wr w.heap.size 63 15 v n xs)(b:wr.grownBy w' v.ownBlock):YP w w' g A c T a sv:=by
 have d:∀q,v.ownBlock=X q->w.heap.size<=q:=fun q k=>(bU f q k).1
 exact⟨⟨b.os.trans h.gr.os,b.tape.trans h.gr.tape,b.output.trans h.gr.output,bN h.gr.size b.size,fun i j hne=>(b.block i (UI j h.gr.size) (fun e=>by have:=d i e.symm;omega)).trans (h.gr.block i j hne)⟩,(b.block g (aQ h.I2) (db f h.I2 (by decide))).trans h.I2,h.tk.grown f (by decide) b,h.JA,h.lt⟩
def mL(w:U7)(Q:List Jd->Prop)(e:Va)(w':U7):Prop:=
 ∃v js,e=Uq (Ur #[v,bC])/\IL w' w.heap.size 63 15 v js.length (fY js)/\Q (js.map cV)/\(∀j∈js,JT w' j)/\ID w w'
structure YpM(w wr:U7)(g kf:Nat)(A:Option U_)(c:Nat)(T:List IY)(Q:List Jd->Prop)(a:Nat)(js:List Jd)(v:U9):Prop where
 yp:∃sv,YP w wr g A c T a sv
 kf:wr.heap[kf]? =some (.cells #[.int .i64 0,.int .i64 0,.int .i64 0] 29 (0,0))
 own:IL wr w.heap.size 63 15 v js.length (fY js)
 rows:∀j∈js,JT wr j
 md:∃f L,Gm.Js f (js.map cV) (T.drop a)=some L/\Q L
def AR(w:U7)(g kf:Nat)(A:Option U_)(c:Nat)(T:List IY)(Q:List Jd->Prop)(gk:Nat)(v:U9)(wr:U7):Prop:=
 ∃(a:Nat) (js:List Jd),gk=T.length-a/\Hid (YpM w wr g kf A c T Q a js v)
theorem BF(s:ByteArray)(ps:List Pt.P)(e:List Nat)(w:U7)(Q:List Jd->Prop)(hs:s.size<=8192)(he:bs s=Pt.flat ps++e)(hc:Pt.Jo ps e)(hn:ps.length<=2000)(C:FL ps)
  (hT:∀T:List IY,T.map Pt.Ji=Pt.Jq ps++[(6,[])]->T.length<=100000/\M8 T/\(∀t∈T,t.text.length<=8192)/\∃f L,Gm.Js f [] (T.drop 0)=X L/\Q L):
  U8 Vb 58 #[.string s] w (mL w Q):=by
 have HX:=aJ (fun W=>F4 s ps e W hs he hc hn C)
 have aE:=aJ hT
 have a8:=yb
 clear hs he hc hn C hT;obtain⟨w1,ab⟩:∃w1,w.alloc (H #[Z Y 0,Z Y 0,Z Y 0] 29)=w1:=⟨_,rfl⟩
 obtain⟨kf,aa⟩:∃kf,w.heap.size=kf:=⟨_,rfl⟩
 have F:Hid (ID w w1):=aJ (by rw[<-ab];exact(ID.refl _).alloc _)
 have af:Hid (w1.heap[kf]? =X (H #[Z Y 0,Z Y 0,Z Y 0] 29 (0,0))):=aJ (by rw[<-ab,<-aa];exact aM _ _)
 have aX:=aJ aa
 go_enter func58,ntmps58
 go_upto_region 1 with fail
 clear ab aa;go_wp2_with fail;refine(HX w1).mono ?_;rintro e w2 ⟨v,T,rfl,B,aS,hd⟩;have av:=aJ (F.up hd);have ag:=aJ (hd.block af);have aB:=aJ (B.base F.size);obtain⟨aH,aL,aR,aN⟩:=aE T aS;have ap:=aJ aL;have aY:=aJ aR;have aq:=aJ aN;clear B hd aS HX F af aE aL aR aN;unfold bC;obtain⟨u,m⟩:∃u,w2.alloc (H #[Z Y 0,Z Y 0,Z Y 0] 29)=u:=⟨_,rfl⟩
 obtain⟨k5,S⟩:∃k,w2.heap.size=k:=⟨_,rfl⟩
 have I:Hid (ID w u):=aJ (by rw[<-m];exact av.alloc _)
 have D:Hid (u.heap[kf]? =X (H #[Z Y 0,Z Y 0,Z Y 0] 29 (0,0))):=aJ (by rw[<-m];exact((ID.refl _).alloc _).block ag)
 have ak:Hid (u.heap[k5]? =X (H #[Z Y 0,Z Y 0,Z Y 0] 29 (0,0))):=aJ (by rw[<-m,<-S];exact aM _ _)
 have aC:Hid (IL u w.heap.size 146 4 v T.length (dK T)):=aJ (by rw[<-m];exact aB.up ((ID.refl _).alloc _))
 clear av ag aB;have aZ:=aJ m;have aW:=aJ S;clear m S;go_upto_region 2 with fail
 rw[aZ.out,aW.out];obtain⟨A,c,rfl,aT,_,_⟩:=aC.shape;have aD:=aJ aT;obtain⟨g0,_,_,_,_,_⟩:=dE ak;obtain⟨w4,aU⟩:∃w4,u.alloc (H #[U A T.length c,Z Y 0,Z Y 0,Z Y 0,Z Y 0,U V 0 0] 235)=w4:=⟨_,rfl⟩
 obtain⟨g,hg⟩:∃g,u.heap.size=g:=⟨_,rfl⟩
 have a6:g≠kf:=by rw[<-hg];exact fun e=>by have:=aQ D;omega
 have aV:Hid (w.heap.size<=g):=aJ (by rw[<-hg];exact I.size)
 have HS:Hid (AR w g kf A c T Q (T.length-0) (U V 0 0) w4):=aJ (by
  rw[<-aU,<-hg];have B:ID u (u.alloc (H #[U A T.length c,Z Y 0,Z Y 0,Z Y 0,Z Y 0,U V 0 0] 235)):=(ID.refl _).alloc _;exact⟨0,[],rfl,aJ ⟨⟨_,dR (UP _ _) (I.up B),aM _ _,aD.up B,aH,ap⟩,B.block D,IL.Jk _ _ _ _,by simp,aq⟩⟩)
 clear aC aT aD ap aq;go_wp2;clear aU hg g0 I D ak;go_loopg [7] (T.length-0) (fun gk v7 wr=>AR w g kf A c T Q gk v7 wr)
 case atStart=>exact HS
 clear HS;obtain⟨a,js,rfl,HM⟩:=hrel;obtain⟨sv,ad⟩:=HM.yp;obtain⟨f,L,R,hQ⟩:=HM.md;obtain⟨ha,N⟩:=oQ R;have HN:=aJ (qx ad ha);have HP:=aJ ad;have HF:=aJ HM.kf;have HO:=aJ HM.own;have HR:=aJ HM.rows;have HQ:=aJ hQ;unfold cZ at HN;clear HM ad hQ;obtain⟨vA,vc,rfl,_,_,_⟩:=HO.shape;rcases N with⟨h6,hL⟩|⟨h6,aF,f1,J,r',hj,hm⟩
 ·have q6:(((T.getD a dT).IF:Int) !=6)=O:=by rw[h6];rfl
  have HL:=aJ hL
  clear h6 hL R;generalize T.getD a dT=t at *;go_wp2_with fail;refine(HN).mono ?_;rintro e w5 ⟨rfl,hd⟩;have b:=aJ (HP.up hd);have d:=aJ (hd.block HF);have n:=aJ (HO.up hd);have o:=aJ (fun j hj=>(HR j hj).up hd)
  clear hd HN HP HF HO HR;obtain⟨c0,c1,c2,_,f1,f2⟩:=dE d;have HX:Hid (mL w Q (Uq (Ur #[U vA js.length vc,bC])) (KC w5 kf 0 [Z Y 0,Z Y 0,Z Y 0])):=aJ (by
   refine⟨_,js,rfl,eP n d (by decide) _ _,by rw[HL.out];exact HQ,fun j hj=>(o j hj).I4 d (gq _ _ _ _) (by decide) (by decide) (by decide),?_⟩
   have B:ID w w5:=IU (ID.refl w) b.gr (fun q e=>by injection e with e;have:=aV.out;omega)
   have hk:w.heap.size<=kf:=UZ aX
   exact((B.setCell (p:=⟨kf,0,V⟩) hk _).setCell (p:=⟨kf,1,V⟩) hk _).setCell (p:=⟨kf,2,V⟩) hk _)
  clear b d n o;go_wp2;refine aP (v:=Ur #[U vA js.length vc,bC]) (by simp[results,results58,go_sem,bC,c0,c1,c2]) rfl ?_
  exact HX
 have q6:(((T.getD a dT).IF:Int) !=6)=G:=by rw[bne_iff_ne];exact fun e=>h6 (by omega)
 rw[bL] at aF;have hne:=uJ hm;have an:=aJ (fun W (hW:YP W W g A c T a sv)=>F2 hW aY hj hne js.length aF)
 have ar:=aJ hm
 have au:=aJ hne
 have ao:Hid (r'.length<T.length-a):=aJ (by have h:=mH hj;rwa [Uw] at h)
 clear h6 hj hm R hne;generalize T.getD a dT=t at *;go_wp2_with fail;refine(HN).mono ?_;rintro e w5 ⟨rfl,hd⟩;have b:=aJ (HP.up hd);have d:=aJ (hd.block HF);have n:=aJ (HO.up hd);have o:=aJ (fun j hj=>(HR j hj).up hd)
 clear hd HN HP HF HO HR;go_wp2_with fail;refine(an _ b.Jc).mono ?_;rintro e w6 ⟨j,a',sv',rfl,aG,aI,hr,C⟩;have a7:T.length-a'<T.length-a:=by
  have h1:=ao.out
  have h2:=au.out
  rw[hr] at h1 h2;rw[Uw] at h1;exact h1
 have z:Hid (Gm.Js f1 ((js++[j]).map cV) (T.drop a')=X L):=aJ (by
  have h:=ar.out
  rw[hr] at h;rw[UG,U6,aG];exact h)
 have ay:=aJ (b.trans C)
 have ah:=aJ (C.keep d a6)
 have ax:=aJ (n.I4 b.I2 C.gr (by decide))
 have az:=aJ (fun j hj=>(o j hj).call b.Jc C)
 have al:=aJ aI
 clear aG aI hr C b d n o an ar au ao q6;unfold dm;obtain⟨w7,ac⟩:∃w7,w6.alloc (H #[.string j.nm,.string j.run,U j.eA j.IJ.length j.ec,U j.nA j.IC.length j.nc,K j.IQ,.string j.ready,Z Y j.IE,Z E j.base,Z E j.cap,Z E j.IG,Z Y j.II,Z E j.win,U j.lA j.IK.length j.lc,Z Y j.IM,Z Y j.Jb] 63)=w7:=⟨_,rfl⟩
 obtain⟨k8,aK⟩:∃k,w6.heap.size=k:=⟨_,rfl⟩
 have i:Hid (ID w6 w7):=aJ (by rw[<-ac];exact(ID.refl _).alloc _)
 have ae:Hid (w7.heap[k8]? =X (H #[.string j.nm,.string j.run,U j.eA j.IJ.length j.ec,U j.nA j.IC.length j.nc,K j.IQ,.string j.ready,Z Y j.IE,Z E j.base,Z E j.cap,Z E j.IG,Z Y j.II,Z E j.win,U j.lA j.IK.length j.lc,Z Y j.IM,Z Y j.Jb] 63 (0,0))):=aJ (by rw[<-ac,<-aK];exact aM _ _)
 have y:=aJ (ay.up i)
 have ai:=aJ (i.out.block ah)
 have l:=aJ (ax.up i)
 have aA:=aJ (fun j hj=>(az j hj).up i)
 have am:=aJ (al.up i)
 have hsz:w.heap.size<=w7.heap.size:=y.gr.size
 clear ay ah ax az al i;go_upto_region 8 with fail
 clear ac aK;have aj:=aJ (dw y);go_wp2_with fail;refine(aj).mono ?_;rintro e w' ⟨rfl,rfl⟩;obtain⟨⟨c0,c1,c2,c3,c4,c5,c6,c7,c8,c9,a0,a1,a2,a3,a4⟩,_⟩:=cQ ae;go_wp2_with (at_builtin;refine aw (wr:=w') rfl _ _ 23 rfl _ 63 (Us #[.string ⟨#[]⟩,.string ⟨#[]⟩,U V 0 0,U V 0 0,K O,.string ⟨#[]⟩,Z Y 0,Z E 0,Z E 0,Z E 0,Z Y 0,Z E 0,U V 0 0,Z Y 0,Z Y 0]) 15 192 underlying23 o6 rfl (by decide) (by decide) _ _ _ rfl l 1 1 [.string j.nm,.string j.run,U j.eA j.IJ.length j.ec,U j.nA j.IC.length j.nc,K j.IQ,.string j.ready,Z Y j.IE,Z E j.base,Z E j.cap,Z E j.IG,Z Y j.II,Z E j.win,U j.lA j.IK.length j.lc,Z Y j.IM,Z Y j.Jb] rfl rfl rfl rfl ?pn1 hsz ?_)
 case pn1=>omega
 intro v8 w8 aO r a5;have HX:Hid (AR w g kf A c T Q (T.length-a') v8 w8):=aJ ⟨a',js++[j],rfl,aJ ⟨⟨_,y.grow l r⟩,l.keeps r ai (by decide),by rw[uT,bF];exact aO,fun x hx=>(Uv.mp hx).elim (fun h=>(aA x h).grow l r) (fun h=>by rw[UC.mp h];exact am.grow l r),⟨f1,L,z,HQ⟩⟩⟩
 clear aO r a5 y ai l aA am ae aj c0 c1 c2 c3 c4 c5 c6 c7 c8 c9 a0 a1 a2 a3 a4 z;go_wp2;go_roundg (T.length-a')
 case rel=>exact HX
 exact a7
theorem D6(nm run d:ByteArray)(IQ:Bool)(IE base cap IG II win:Int)(eA j nA q lA n:Option U_)(IJ:List (ByteArray×ByteArray))(IC:List ByteArray)(IK:List (Int×Int))(ec l nc r lc o:Nat)(IM c Jb e:Int)(w:U7)
  (ha:JM w ⟨nm,run,eA,IJ,ec,nA,IC,nc,IQ,d,IE,base,cap,IG,II,win,lA,IK,lc,IM,Jb⟩) (J:JM w ⟨nm,run,j,IJ,l,q,IC,r,IQ,d,IE,base,cap,IG,II,win,n,IK,o,c,e⟩):
  U8 Vb 207 #[dm ⟨nm,run,eA,IJ,ec,nA,IC,nc,IQ,d,IE,base,cap,IG,II,win,lA,IK,lc,IM,Jb⟩,dm ⟨nm,run,j,IJ,l,q,IC,r,IQ,d,IE,base,cap,IG,II,win,n,IK,o,c,e⟩] w (RO_ (K G) w):=by
 have g:=aJ ha
 have h:=aJ J
 unfold dm;simp only;clear ha J;obtain⟨L,N,u⟩:=jW (ID.refl ((w.alloc (H #[Q nm,Q run,U eA IJ.length ec,U nA IC.length nc,K IQ,Q d,Z Y IE,Z E base,Z E cap,Z E IG,Z Y II,Z E win,U lA IK.length lc,Z Y IM,Z Y Jb] 63)).alloc (H #[Q nm,Q run,U j IJ.length l,U q IC.length r,K IQ,Q d,Z Y IE,Z E base,Z E cap,Z E IG,Z Y II,Z E win,U n IK.length o,Z Y c,Z Y e] 63)));go_enter func207,ntmps207;go_upto_region 1 with fail
 generalize ((w.alloc (H #[Q nm,Q run,U eA IJ.length ec,U nA IC.length nc,K IQ,Q d,Z Y IE,Z E base,Z E cap,Z E IG,Z Y II,Z E win,U lA IK.length lc,Z Y IM,Z Y Jb] 63)).alloc (H #[Q nm,Q run,U j IJ.length l,U q IC.length r,K IQ,Q d,Z Y IE,Z E base,Z E cap,Z E IG,Z Y II,Z E win,U n IK.length o,Z Y c,Z Y e] 63))=wa at *;obtain⟨⟨_,c1,c2,_,c4,_,_,_,_,_,_,_,_,_,_⟩,_⟩:=cQ L;obtain⟨⟨_,_,_,_,_,_,_,_,_,_,_,_,_,_,_⟩,_⟩:=cQ N;have s:=aJ (g.up u);have t:=aJ (h.up u);have P:=aJ u;have A:=g.eb;have B:=g.nb;have C:=g.lb;simp only at A B C;clear g h L N u;have g:=s;have h:=t;clear s t;go_wp2;go_loopw [5] (fun i wr=>∃k m:Nat,k<=IJ.length/\i=Z Y k/\wr=wa.drewN m) (fun i _=>IJ.length-(intOf i).toNat)
 case atStart=>exact⟨0,0,bO _,rfl,by first|rfl|exact(Uy ..).symm⟩
 obtain⟨k,m,hk,rfl,rfl⟩:=hrel
 by_cases a:k<IJ.length
 ·obtain⟨b,off,rfl,_,hc⟩:=g.out.IJ.at_ (by rw[eF];simp only;omega)
  obtain⟨b2,f,rfl,_,hd⟩:=h.out.IJ.at_ (by rw[eF];simp only;omega)
  have x:=hc _ _ (eW IJ k a).1
  have F:wa.cell? ⟨b,off+k*2+1,V⟩=_:=hc _ _ (eW IJ k a).2
  have y:=hd _ _ (eW IJ k a).1
  have I:wa.cell? ⟨b2,f+k*2+1,V⟩=_:=hd _ _ (eW IJ k a).2
  clear hc hd g h;generalize IJ.getD k (⟨#[]⟩,⟨#[]⟩)=p at *;obtain⟨_,_⟩:=p;simp only at x F y I;go_wp2
  try (go_quiet (fail);go_wp2_with fail)
  go_roundw
  case rel=>exact⟨k+1,_,by omega,by go_num,by first|rfl|exact Uy ..⟩
  simp[intOf];omega
 obtain rfl:k=IJ.length:=by omega
 clear a;obtain⟨mb,rfl⟩:∃z,z=m:=⟨_,rfl⟩
 go_wp2
 go_loopw [6] (fun i wr=>∃k m:Nat,k<=IC.length/\i=Z Y k/\wr=wa.drewN m) (fun i _=>IC.length-(intOf i).toNat)
 case atStart=>exact⟨0,mb,bO _,rfl,by first|rfl|exact(Uy ..).symm⟩
 obtain⟨k,m,hk,rfl,rfl⟩:=hrel
 by_cases a:k<IC.length
 ·obtain⟨b,off,rfl,_,hc⟩:=g.out.IC.at_ (by rw[dO];simp only;omega)
  obtain⟨b2,f,rfl,_,hd⟩:=h.out.IC.at_ (by rw[dO];simp only;omega)
  have x:=hc _ _ (fv IC k a)
  have y:=hd _ _ (fv IC k a)
  clear hc hd g h;generalize IC.getD k ⟨#[]⟩=p at *;go_wp2
  try (go_quiet (fail);go_wp2_with fail)
  go_roundw
  case rel=>exact⟨k+1,_,by omega,by go_num,by first|rfl|exact Uy ..⟩
  simp[intOf];omega
 obtain rfl:k=IC.length:=by omega
 clear a;obtain⟨D,rfl⟩:∃z,z=m:=⟨_,rfl⟩
 go_wp2
 go_loopw [7] (fun i wr=>∃k m:Nat,k<=IK.length/\i=Z Y k/\wr=wa.drewN m) (fun i _=>IK.length-(intOf i).toNat)
 case atStart=>exact⟨0,D,bO _,rfl,by first|rfl|exact(Uy ..).symm⟩
 obtain⟨k,m,hk,rfl,rfl⟩:=hrel
 by_cases a:k<IK.length
 ·obtain⟨b,off,rfl,_,hc⟩:=g.out.IK.at_ (by rw[gn];simp only;omega)
  obtain⟨b2,f,rfl,_,hd⟩:=h.out.IK.at_ (by rw[gn];simp only;omega)
  have x:=hc _ _ (fx IK k a).1
  have F:wa.cell? ⟨b,off+k*2+1,V⟩=_:=hc _ _ (fx IK k a).2
  have y:=hd _ _ (fx IK k a).1
  have I:wa.cell? ⟨b2,f+k*2+1,V⟩=_:=hd _ _ (fx IK k a).2
  clear hc hd g h;generalize IK.getD k (0,0)=p at *;obtain⟨_,_⟩:=p;simp only at x F y I;go_wp2
  try (go_quiet (fail);go_wp2_with fail)
  go_roundw
  case rel=>exact⟨k+1,_,by omega,by go_num,by first|rfl|exact Uy ..⟩
  simp[intOf];omega
 obtain rfl:k=IK.length:=by omega
 clear a;go_wp2;go_ret;exact⟨rfl,P.drewN _⟩
def SJ(j j2:Jd):Prop:=∃ln a,cV j2=Pt.at_ j ln a
theorem D5{j j2:Jd}(h:SJ j j2)(hj:JM w j)(a:JM w j2):
  U8 Vb 207 #[dm j,dm j2] w (RO_ (K G) w):=by
 obtain⟨ln,_,h⟩:=h;cases j;cases j2;simp only[cV,Pt.at_,Jd.mk.injEq] at h;obtain⟨rfl,rfl,-,rfl,-,-,rfl,-,rfl,rfl,rfl,rfl,rfl,rfl,rfl,rfl,-,rfl,-,-,-⟩:=h;exact D6 _ _ _ _ _ _ _ _ _ _ _ _ _ _ _ _ _ _ _ _ _ _ _ _ _ _ _ _ _ w hj a
theorem D7(A A2:Option U_)(c c2:Nat)(js l:List Jd)(w:U7)(hA:JL w A js)(D:JL w A2 l)(hl:l.length=js.length)(hn:js.length<=100000)(hs:∀k,k<js.length->SJ (js.getD k cE) (l.getD k cE)):
  U8 Vb 133 #[U A js.length c,U A2 l.length c2] w (RO_ (K G) w):=by
 have HA:=aJ hA
 have HB:=aJ D
 have HS:=aJ hs
 have L:=aJ hl
 clear hA D hs;rw[hl];clear hl;go_enter func133,ntmps133;go_wp2;go_loopw [5] (fun i wr=>∃k:Nat,i=Z Y (k:Int)/\k<=js.length/\Hid (ID w wr)) (fun i _=>js.length-(intOf i).toNat)
 case atStart=>exact⟨0,rfl,bO _,aJ (ID.refl w)⟩
 obtain⟨k,rfl,hk,p⟩:=hrel
 by_cases g:k<js.length
 ·have i0:(0:Int)<=(k:Int):=by omega
  have i1:(k:Int)<(js.length:Int):=by omega
  have wk:Ut.wrap ((k:Int)+1)=(k:Int)+1:=bV _ (by omega)
  obtain⟨b,off,rfl,_,n⟩:=(HA.up p).row (by omega)
  obtain⟨b2,f,rfl,_,h⟩:=(HB.up p).row (by rw[L.out];omega)
  have I:=n k g
  have J:=h k (by rw[L.out];exact g)
  have m:=HS k g
  have hM:=(HA.up p).at_ g
  have o:=(HB.up p).at_ (i:=k) (by rw[L.out];exact g)
  obtain⟨j,hj⟩:∃j,js.getD k cE=j:=⟨_,rfl⟩
  obtain⟨j2,F⟩:∃j2,l.getD k cE=j2:=⟨_,rfl⟩
  rw[hj] at I hM m;rw[F] at J o m;have HC:=aJ (fun W (ho:ID wr W)=>D5 m (hM.up ho) (o.up ho))
  unfold dm at HC;obtain⟨c0,c1,c2,c3,c4,c5,c6,c7,c8,c9,q,r,s,t,u⟩:=I;obtain⟨d0,d1,d2,d3,d4,d5,d6,d7,d8,d9,x,y,z,B,C⟩:=J;clear n h m hM o hj F;go_wp2;go_region_held3 (fun W=>W.cell? ⟨b,off+k*15,V⟩=X (Q j.nm)/\W.cell? ⟨b,off+k*15+1,V⟩=X (Q j.run)/\W.cell? ⟨b,off+k*15+2,V⟩=X (U j.eA j.IJ.length j.ec)/\W.cell? ⟨b,off+k*15+3,V⟩=X (U j.nA j.IC.length j.nc)/\W.cell? ⟨b,off+k*15+4,V⟩=X (K j.IQ)/\W.cell? ⟨b,off+k*15+5,V⟩=X (Q j.ready)/\W.cell? ⟨b,off+k*15+6,V⟩=X (Z Y j.IE)/\W.cell? ⟨b,off+k*15+7,V⟩=X (Z E j.base)/\W.cell? ⟨b,off+k*15+8,V⟩=X (Z E j.cap)/\W.cell? ⟨b,off+k*15+9,V⟩=X (Z E j.IG)/\W.cell? ⟨b,off+k*15+10,V⟩=X (Z Y j.II)/\W.cell? ⟨b,off+k*15+11,V⟩=X (Z E j.win)/\W.cell? ⟨b,off+k*15+12,V⟩=X (U j.lA j.IK.length j.lc)/\W.cell? ⟨b,off+k*15+13,V⟩=X (Z Y j.IM)/\W.cell? ⟨b,off+k*15+14,V⟩=X (Z Y j.Jb)/\W.cell? ⟨b2,f+k*15,V⟩=X (Q j2.nm)/\W.cell? ⟨b2,f+k*15+1,V⟩=X (Q j2.run)/\W.cell? ⟨b2,f+k*15+2,V⟩=X (U j2.eA j2.IJ.length j2.ec)/\W.cell? ⟨b2,f+k*15+3,V⟩=X (U j2.nA j2.IC.length j2.nc)/\W.cell? ⟨b2,f+k*15+4,V⟩=X (K j2.IQ)/\W.cell? ⟨b2,f+k*15+5,V⟩=X (Q j2.ready)/\W.cell? ⟨b2,f+k*15+6,V⟩=X (Z Y j2.IE)/\W.cell? ⟨b2,f+k*15+7,V⟩=X (Z E j2.base)/\W.cell? ⟨b2,f+k*15+8,V⟩=X (Z E j2.cap)/\W.cell? ⟨b2,f+k*15+9,V⟩=X (Z E j2.IG)/\W.cell? ⟨b2,f+k*15+10,V⟩=X (Z Y j2.II)/\W.cell? ⟨b2,f+k*15+11,V⟩=X (Z E j2.win)/\W.cell? ⟨b2,f+k*15+12,V⟩=X (U j2.lA j2.IK.length j2.lc)/\W.cell? ⟨b2,f+k*15+13,V⟩=X (Z Y j2.IM)/\W.cell? ⟨b2,f+k*15+14,V⟩=X (Z Y j2.Jb)) (go_keep) ((go_simp;go_at_call 207;refine(HC _ aS).mono ?_;rintro e w2 ⟨rfl,hd⟩;have d:=aJ (ID.up (a:=wr) aS hd);have e0:=d.cell c0;have g0:=d.cell d0;have e1:=d.cell c1;have g1:=d.cell d1;have e2:=d.cell c2;have g2:=d.cell d2;have e3:=d.cell c3;have g3:=d.cell d3;have e4:=d.cell c4;have g4:=d.cell d4;have e5:=d.cell c5;have g5:=d.cell d5;have e6:=d.cell c6;have g6:=d.cell d6;have e7:=d.cell c7;have g7:=d.cell d7;have e8:=d.cell c8;have g8:=d.cell d8;have e9:=d.cell c9;have g9:=d.cell d9;have P:=d.cell q;have ab:=d.cell x;have R:=d.cell r;have ac:=d.cell y;have S:=d.cell s;have ad:=d.cell z;have T:=d.cell t;have ae:=d.cell B;have aa:=d.cell u;have af:=d.cell C;clear hd))
  all_goals
   have N:=aJ (p.up d)
   clear e0 g0 c0 d0 e1 g1 c1 d1 e2 g2 c2 d2 e3 g3 c3 d3 e4 g4 c4 d4 e5 g5 c5 d5 e6 g6 c6 d6 e7 g7 c7 d7 e8 g8 c8 d8 e9 g9 c9 d9 P ab q x R ac r y S ad s z T ae t B aa af u C;go_wp2;go_roundw
  case rel=>exact⟨k+1,by go_num,g,aJ (by first|exact N|exact N.drew|exact N.drewN _)⟩
  simp[intOf];omega
 obtain rfl:k=js.length:=by omega
 go_wp2
 go_ret;exact⟨rfl,p⟩
theorem Ce{js a:List Jd}(h:Pt.NR js (a.map cV)):js.length=a.length/\∀k,k<a.length->SJ (a.getD k cE) (js.getD k cE):=by
 have d:a.length=js.length:=by have:=h.1;rwa [bL] at this
 refine⟨d.symm,fun k hk=>?_⟩
 obtain⟨ln,b,e⟩:=h.2 k (by omega)
 rw[U4,bE hk,bE (by omega)] at e
 have c:cV a[k]=Pt.at_ js[k] ln b:=bQ e
 rw[bD,bD,bE hk,bE (show k<js.length by omega)]
 show SJ a[k] js[k]
 refine⟨js[k].IM,js[k].Jb,?_⟩
 show cV js[k]={cV a[k] with IM:=js[k].IM,Jb:=js[k].Jb}
 rw[c];rfl
theorem EK(A A2:Option U_)(c c2:Nat)(js a:List Jd)(w:U7)(f:JL w A js)(b:JL w A2 a)(g:a.length=js.length)(h:js.length<=100000)(hs:∀k,k<js.length->SJ (js.getD k cE) (a.getD k cE)):
  U8 Vb 59 #[U A js.length c,U A2 a.length c2] w (RO_ (K G) w):=by
 have d:=aJ (D7 A A2 c c2 js a w f b g h hs)
 clear f b hs g h;go_enter func59,ntmps59;go_wp2_with fail;refine(d).mono ?_;rintro e _ ⟨rfl,hd⟩;have i:=aJ hd;clear hd d;go_wp2;go_ret;exact⟨rfl,i⟩
theorem Ct(A:Option U_)(c:Nat)(js:List Jd)(w:U7)(I:JL w A js)(hj:∀j∈js,Pt.Lo j)(N:js.length<=4)(D:js≠[]):
  U8 Vb 29 #[U A js.length c] w (RO_ (Ur #[Q (ab (js.flatMap Pt.Kg)),Z Y 0]) w):=by
 obtain⟨T,F⟩:∃T,js.flatMap Pt.Kg=T:=⟨_,rfl⟩
 have a:=Pt.MR hj N D
 have n:=Pt.Nt hj D
 have J:=Pt.MG D
 rw[F] at a n J;have hsz:(ab T).size<=1761:=by rw[aD];exact a.1
 have r:Hid (∀W,ID w W->U8 Vb 57 #[U A js.length c] W (RO_ (Q (ab T)) W)):=aJ (fun W y=>by
  have h:=EJ A c js W (I.up y) hj N
  rw[F] at h;exact h)
 have l:Hid (∀W,U8 Vb 58 #[Q (ab T)] W (mL W (Pt.NR js))):=aJ (fun W=>
  BF (ab T) (Pt.JB [] js) [10] W (Pt.NR js) (by omega) (by rw[fU T n,J]) (Pt.KO (fun j hm=>(hj j hm).pr) rfl) a.2 (Pt.Ow hj) (Pt.Mn hj N))
 rw[F];have R:=aJ I;have i0:((ab T).size:Int)<=8192:=by omega
 clear I hj D a n J F hsz;generalize ab T=s at *;unfold mL bC at l;go_enter func29,ntmps29;go_wp2_with fail;refine(r w (ID.refl _)).mono ?_;rintro e w1 ⟨rfl,t⟩;have i:=aJ t;clear t r;go_wp2_with fail;refine(l w1).mono ?_;rintro e w2 ⟨v,P,rfl,z,B,d,m⟩;obtain⟨A2,c2,rfl,g,_,L⟩:=z.shape;obtain⟨x,f⟩:=Ce B;have q:=aJ (fun W (y:ID w2 W)=>EK A2 A c2 c P js W ⟨g.rs.up y,fun j hm=>((d j hm).jm).up y,by omega⟩ (R.up ((i.up m).up y)) x (by omega) f)
 have o:=aJ (i.up m)
 clear z B d m g L x f l i R;go_upto_region 5 with fail
 obtain⟨C,b⟩:∃C,w2.alloc (H #[Z Y 0,Z Y 0,Z Y 0] 29)=C:=⟨_,rfl⟩
 have k:Hid (ID w2 C):=aJ (by rw[<-b];exact(ID.refl _).alloc _)
 have p:Hid (C.heap[w2.heap.size]? =X (H #[Z Y 0,Z Y 0,Z Y 0] 29 (0,0))):=aJ (by rw[<-b];exact aM _ _)
 rw[b];have f0:=cr_ p 0 (Z Y 0);clear b;go_wp2_with fail;refine(q C k).mono ?_;rintro e w4 ⟨rfl,u⟩;have S:=aJ (o.up (k.up u));clear u q o k p;go_wp2;refine aP (v:=Ur #[Q s,Z Y 0]) (by simp[results,results29,go_sem]) rfl ?_
 exact⟨rfl,S⟩
end Go.Proofs.YtflccikncbhpdaaGreatDoor
