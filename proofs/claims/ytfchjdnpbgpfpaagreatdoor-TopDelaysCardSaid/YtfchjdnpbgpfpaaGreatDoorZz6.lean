/- Part 6: walks and plain laws. -/
import Derived.Test.YtfchjdnpbgpfpaaGreatDoorZz5
set_option maxHeartbeats 16000000
set_option maxRecDepth 100000
open Go.Lib renaming hid → aJ
open Go renaming cell_of_row → aK, heap_setCell_other → aL, heap_alloc_new → aM, frozen_of_row → aN, heap_setCell_same → aO, bodyPost_ret → aP, lt_of_block → aQ, undef → aR
open List renaming getD_eq_getElem?_getD → bD, getElem?_eq_getElem → bE, length_append → bF, length_singleton → bG, getElem_mem → bH, getElem?_eq_none → bI, getElem?_append_left → bJ, length_set → bK, length_map → bL
open Nat renaming le_refl → bM, le_trans → bN, zero_le → bO
open Option.some renaming inj → bQ
open Go.World.ownsRow renaming kept → bT, lt → bU
open Go.IntWalk renaming i64_in → bV
open Exists renaming intro → bW
open Or renaming inl → bX, inr → bY
namespace Go.Proofs.YtfchjdnpbgpfpaaGreatDoor
open Go.RowKit Go.Shelf
set_option linter.unusedVariables false
theorem xQ {w:World} {kj:Nat} {j:Jd} (h:w.heap[kj]? =some (.cells (ae j).toArray 32 (0,0))):(w.setCell ⟨kj,6,none⟩ (.int .i64 3)).heap[kj]? =some (.cells (ae (xF j)).toArray 32 (0,0)):=by
 rw[aO w kj 6 _ _ _ h];rfl
structure HidX (P:Prop):Prop where
 get:P
def td1:PSigma fun P:Prop=>HidX P→∀(A:Option Addr) (c:Nat) (l:List Int) (A2:Option Addr) (c2:Nat) (f:List Int) (w:World) (hr:Rs w A (aY l)) (hm:l.length≤maxLen) (hd:Rs w A2 (ax f)) (hU:∀v∈f,Tk.U v) (aH:f.length≤maxLen),Calls Tryz.prog 3 #[.slice A l.length c,.slice A2 f.length c2] w fun e w'=>e= .returned (.bool true)∧Old w w':=by
 apply PSigma.mk;intro hP A c l A2 c2 f w hr hm hd hU aH
 by_cases bm:f.length≤12
 ·have p1:decide ((12:Int)<(f.length:Int))=false:=by rw[decide_eq_false_iff_not];omega
  have a4:=aJ (yy A c l w hr hm)
  have a2:=aJ (fun W (ho:Dk W w.heap.size w.heap.size l)=>Ds w.heap.size w.heap.size l ⟨#[97]⟩ none 0 [] W ho (bX rfl) (bO _) rfl)
  have au:=aJ hd
  have ay:=aJ hU
  obtain⟨D,hD⟩:∃D,f.map (fun v=>v.emod 7)=D:=⟨_,rfl⟩
  have bc:D.length=f.length:=by rw[←hD];simp
  have av:Hid (∀v∈D,0≤v∧v≤6):=aJ (fun v hv=>by
   rw[←hD] at hv;obtain⟨u,hu,rfl⟩:=List.mem_map.mp hv;have h1:=Int.emod_nonneg u (show(7:Int)≠0 by decide)
   have h2:=Int.emod_lt_of_pos u (show(0:Int)<7 by decide)
   exact⟨h1,by show u%7≤6;omega⟩)
  have ar:=aJ hD
  clear hr hm hd hU aH hD;go_enter Tryz.func3,Tryz.ntmps3;go_wp2_with fail;refine(a4.out).mono ?_;rintro e w1 ⟨rfl,L,be⟩;have a0:=aJ be;have aw:=aJ (a2.out w1 L);clear L be a4 a2;obtain⟨g,N⟩:∃g,w.heap.size=g:=⟨_,rfl⟩
  have HG:=aJ N
  rw[N] at aw ⊢;clear N;go_wp2_with fail;refine(aw.out).mono ?_;rintro e w2 ⟨j0,dl,rfl,aI,ah,bT,bl,bn,hjm,L,bg⟩;have aB:=AM aI ah bl bn;go_upto_region 5 with(refine dm rfl 32 _ _ rfl _ rfl (ae j0) rfl rfl cB rfl (nP j0) ?_;intro w3 K m)
  simp only[Act.put];obtain⟨kj,bj⟩:∃kj,w2.heap.size=kj:=⟨_,rfl⟩
  rw[bj] at m ⊢;have e6:=(aK w3 kj 6 _ _ _ m).trans (rfl:_=some (Value.int .i64 j0.restart));have z6:=aN w3 kj 6 _ _ m;obtain⟨j,aL⟩:∃j,xF j0=j:=⟨_,rfl⟩
  have a7:Hid (TDm w (w3.setCell ⟨kj,6,none⟩ (.int .i64 3)) g kj j ((D.take 0).map Oc.evDraw) (.slice none 0 0) [] (.slice none 0 0)):=aJ (by
   have bQ:w.heap.size=g:=HG.out
   have a':Old w w2:=Dk.old a0.out bg (by omega)
   have bi:w.heap.size≤kj:=by have:=a'.size;omega
   have ag:=aD w3 kj 6 (.int .i64 3)
   have bP:g≠kj:=by
    have:=L.lt
    omega
   subst aL;refine⟨(a'.up K).setCell (p:=⟨kj,6,none⟩) bi _,by omega,⟨dl,?_⟩,⟨(hjm.env.up K).farG m ag (by decide),(hjm.needs.up K).farG m ag (by decide),(hjm.lad.up K).farG m ag (by decide),?_,?_,?_⟩,bi,xQ m,Own.nil_ _ _ _ _,Own.nil_ _ _ _ _⟩
   ·rw[bQ];exact(L.up K).far ag (fun e=>by injection e with e;exact bP e.symm) (fun k e=>by injection e with e;omega)
   ·have:=aI.en
    show j0.env.length≤_
    omega
   ·have h:(xF j0).needs=[]:=aB.jtd.needs
    rw[h];simp
   ·show j0.lad.length≤_
    omega)
  have F:Hid (TdJ j):=aJ (aL▸aB)
  clear aL aB aI ah bT bl bn hjm L bg K m bj a0 aw;go_wp2_with fail;go_loopw [7,34] (fun s7 b9 wr=>∃i v7,v7=s7∧i≤f.length∧b9= .int .i64 (i:Nat)∧Hid (TDm w wr g kj j ((D.take i).map Oc.evDraw) v7 [] (.slice none 0 0))) (fun _ x _=>f.length-(intOf x).toNat)
  case atStart=>exact⟨0,_,rfl,bO _,rfl,a7⟩
  case round=>
   clear a7 e6 z6;obtain⟨i,v7,rfl,hi,rfl,HT⟩:=hrel
   by_cases d:i<f.length
   ·have i0:(0:Int)≤(i:Int):=by omega
    have i1:(i:Int)<(f.length:Int):=by omega
    obtain⟨b,off,rfl,_,y⟩:=(au.out.up HT.out.old).at_ (by rw[eT];omega)
    have d0:=y i _ (eU f i d)
    obtain⟨v,hv⟩:∃v,f.getD i 0=v:=⟨_,rfl⟩
    have aR:Tk.U v:=by
     rw[←hv,bD,bE d];exact ay.out _ (bH d)
    have bb:D.take (i+1)=D.take i++[v%7]:=by
     rw[List.take_add_one,←ar.out,List.getElem?_map,bE d];rw[bD,bE d] at hv;have b0:f[i]=v:=hv;rw[b0];rfl
    rw[hv] at d0;obtain⟨v0,v1⟩:=aR;obtain⟨A7,c7,M,_,_,_⟩:=HT.out.o7.shape;have aM:((D.take i).map Oc.evDraw).length=i:=by rw[bL,List.length_take];omega
    have s:=aJ HT.out.o7
    rw[aM] at M s;subst M;have H:Hid (w.heap.size≤wr.heap.size):=aJ HT.out.old.size;have a:Hid (∀v' W,Own W w.heap.size 37 8 v' (i+1) (fh (((D.take i).map Oc.evDraw).map mn)++[.int .i64 5,.string ⟨#[]⟩,.bool false,.int .i64 0,.slice none 0 0,.int .u64 (v%7),.int .i64 0,.int .i64 0])→wr.grownBy W (Value.slice A7 i c7).ownBlock→TDm w W g kj j ((D.take (i+1)).map Oc.evDraw) v' [] (.slice none 0 0)):=aJ (fun v' W h1 h2=>by
     have h3:=HT.out.push7 (es':=[Oc.evDraw (v%7)]) (w':=W) (v':=v') (by rw[aM];exact h1) h2
     rw[bb,List.map_append];exact h3)
    clear HT y bb aM hv;generalize fh (((D.take i).map Oc.evDraw).map mn)=L7 at s a;go_wp2_with (at_builtin;refine aE (wr:=wr) rfl _ _ 34 rfl _ 37 (.agg #[.int .i64 0,.string ⟨#[]⟩,.bool false,.int .i64 0,.slice none 0 0,.int .u64 0,.int .i64 0,.int .i64 0]) 8 88 Tryz.underlying34 gx rfl (by decide) (by decide) _ _ _ rfl s.out 1 1 [.int .i64 5,.string ⟨#[]⟩,.bool false,.int .i64 0,.slice none 0 0,.int .u64 (v%7),.int .i64 0,.int .i64 0] rfl rfl rfl rfl ?pn1 H.out ?_)
    case pn1=>omega
    intro v' w5 ho N hd;have HR:=aJ (a.out v' w5 ho N);clear ho N hd a s;go_wp2_with fail;go_roundw
    case rel=>exact⟨i+1,_,rfl,d,by go_num,HR⟩
    case measure=>simp[intOf];omega
   ·obtain rfl:i=f.length:=by omega
    have ah:¬(f.length:Int)<(f.length:Int):=by omega
    have aa:Hid (TDm w wr g kj j (D.map Oc.evDraw) v7 [] (.slice none 0 0)∧Oc.TdI j (D.map Oc.evDraw) 0 0 0 [] D∧TdE D (D.map Oc.evDraw)):=aJ ⟨by
     have:=HT.out
     rw[show D.take f.length=D by rw[←bc];exact List.take_length] at this
     exact this,Oc.tdI_start F.out.jtd D (by omega),by
     have:=sV (D:=D) (by omega) av.out D.length (bM _)
     rw[List.take_length] at this;exact this⟩
    clear HT hi;go_wp2_with fail;go_loopw [7,10,11,12,13] (fun s7 b6 b4 v12 b7 wr=>∃(k falls:Nat) (now:Int) (back:List Int) (es:List Oc.Ev) (v7 v11:Value),v7=s7∧v11=b4∧b7= .int .i64 (k:Nat)∧v12= .int .i64 (falls:Nat)∧b6= .int .u64 now∧Hid (TDm w wr g kj j es v7 back v11∧Oc.TdI j es k falls now back D∧TdE D es∧es.length≤12+5*k∧back.length≤k∧∀t∈back,0≤t∧t≤now)) (fun _ _ _ _ x _=>10-(intOf x).toNat)
    case atStart=>exact⟨0,0,0,[],D.map Oc.evDraw,_,_,rfl,rfl,rfl,rfl,rfl,aJ ⟨aa.out.1,aa.out.2.1,aa.out.2.2,by rw[bL];omega,bM _,fun t ht=>by cases ht⟩⟩
    case round=>
     clear aa;obtain⟨k,falls,now,back,es,v7,v11,rfl,rfl,rfl,rfl,rfl,HM⟩:=hrel
     by_cases hk:k<10
     ·obtain⟨ac,al⟩:=HM.out.1.dk;have a:=aJ (du w.heap.size g ac 30 wr al (by decide) (by decide))
      have ad:=fQ ac (show(1:Int)≤30 by decide)
      obtain⟨r,aA,bp⟩:∃r aA,nx ac 30=(r,aA):=⟨_,_,rfl⟩
      rw[bp] at a ad;obtain⟨run_,bq⟩:∃run_:Nat,(run_:Int)=r:=⟨r.toNat,by have:=ad.1;simp only at this;omega⟩
      subst bq;have ao:run_≤29:=by have:=ad.2;simp only at this;omega
      have nk:(k:Int)<10:=by omega
      clear bp al ad;go_wp2_with fail;refine(a.out).mono ?_;rintro e w5 ⟨rfl,am,bh⟩;have R:=aJ (HM.out.1.deck am bh);have HI:=aJ HM.out.2.1;have HE:=aJ HM.out.2.2.1;have bK:=HM.out.2.2.2.1;have bJ:=HM.out.2.2.2.2.1;have aZ:=aJ HM.out.2.2.2.2.2;have o:=aJ (Oc.td_round F.out.jtd HI.out hk av.out ao);have bU:=HI.out.n0;have bW:=HI.out.n1;clear a am bh HM;go_upto_region 19 with fail
      obtain⟨n2,aO⟩:∃n2:Int,now+(run_:Int)=n2:=⟨_,rfl⟩
      have p1:IntKind.u64.wrap (now+(run_:Int))=n2:=by rw[IntWalk.u64_in _ ⟨by omega,by omega⟩];exact aO
      rw[aO] at o;have bo:0≤n2:=by omega
      have bY:n2≤1030:=by omega
      have a3:Hid (now≤n2):=aJ (by omega)
      clear aO bU bW;obtain⟨A7,c7,M,_,_,_⟩:=R.out.o7.shape;have s:=aJ R.out.o7;subst M;have H:Hid (w.heap.size≤w5.heap.size):=aJ R.out.old.size;have a:Hid (∀v' W,Own W w.heap.size 37 8 v' (es.length+3) (fh (es.map mn)++[.int .i64 1,.string ⟨#[97]⟩,.bool true,.int .i64 0,.slice none 0 0,.int .u64 0,.int .i64 0,.int .i64 0,.int .i64 4,.string ⟨#[]⟩,.bool false,.int .i64 0,.slice none 0 0,.int .u64 n2,.int .i64 0,.int .i64 0,.int .i64 2,.string ⟨#[97]⟩,.bool false,.int .i64 1,.slice none 0 0,.int .u64 0,.int .i64 0,.int .i64 0])→w5.grownBy W (Value.slice A7 es.length c7).ownBlock→TDm w W g kj j (Oc.es1 j es n2) v' back v11):=aJ (fun v' W h1 h2=>R.out.push7 (es':=[Oc.evUp j,Oc.evTick n2,Oc.evExit j]) (w':=W) (v':=v') (by
       rw[BN F.out.nm];exact h1) h2)
      generalize fh (es.map mn)=L7 at s a;clear R;go_wp2_with (at_builtin;refine aE (wr:=w5) rfl _ _ 34 rfl _ 37 (.agg #[.int .i64 0,.string ⟨#[]⟩,.bool false,.int .i64 0,.slice none 0 0,.int .u64 0,.int .i64 0,.int .i64 0]) 8 88 Tryz.underlying34 gx rfl (by decide) (by decide) _ _ _ rfl s.out 3 3 [.int .i64 1,.string ⟨#[97]⟩,.bool true,.int .i64 0,.slice none 0 0,.int .u64 0,.int .i64 0,.int .i64 0,.int .i64 4,.string ⟨#[]⟩,.bool false,.int .i64 0,.slice none 0 0,.int .u64 n2,.int .i64 0,.int .i64 0,.int .i64 2,.string ⟨#[97]⟩,.bool false,.int .i64 1,.slice none 0 0,.int .u64 0,.int .i64 0,.int .i64 0] rfl rfl rfl rfl ?pnE H.out ?_)
      case pnE=>omega
      intro b' w6 ho N hd;have E:=aJ (a.out b' w6 ho N);clear ho N hd a s H;obtain⟨n,V⟩:∃n,Oc.es1 j es n2=n:=⟨_,rfl⟩
      have aV:Hid (n.length=es.length+3):=aJ (by rw[←V];simp[Oc.es1])
      have a1:Hid (TdE D n):=aJ (by
       rw[←V];refine HE.out.app (fun e he=>?_) (by simp;omega)
       simp only[List.mem_cons,List.not_mem_nil,or_false] at he;rcases he with rfl|rfl|rfl
       ·exact CH F.out.nm
       ·exact nW bo (by omega)
       ·exact zf F.out.nm)
      have bx:Hid (Oc.es1 j es n2=n):=aJ V
      rw[V] at o E;obtain⟨aU,a8,M,_,_,_⟩:=E.out.o7.shape;subst M;clear V HE;have e9:w6.cell? ⟨kj,9,none⟩=some (.int .u64 j.stable):=E.out.cell 9 rfl;obtain⟨fl,X⟩:∃fl,Oc.falls1 j falls run_=fl:=⟨_,rfl⟩
      have bN:fl≤k:=by
       rw[←X];have:=HI.out.f1;unfold Oc.falls1;split<;>omega
      rw[X] at o;go_upto_if 67 with fail
      go_cut [12] (fun v12 wc=>v12= .int .i64 (fl:Nat)∧wc=w6)
      case first=>
       by_cases br:j.stable≤(run_:Int)
       ·have e1:fl=0:=by rw[←X];exact if_pos br
        go_wp2_with fail;go_meet
        case rel=>exact⟨by rw[e1];rfl,rfl⟩
       ·have e1:fl=falls:=by rw[←X];exact if_neg br
        go_wp2_with fail;go_meet
        case rel=>exact⟨by rw[e1],rfl⟩
      case rest=>
       obtain⟨rfl,b1⟩:=hcut;subst wc;clear e9 X;obtain⟨bv,bA,bu,ap,_,_⟩:=E.out.o11.shape;subst bu;have aj:=aJ ap.rs;clear ap;have aX:Hid (∀t∈back,0≤t∧t≤n2):=aJ (fun t ht=>by have:=aZ.out t ht;have:=a3.out;omega)
       clear aZ;go_wp2_with fail;have aW:Hid (n.length≤15+5*k):=aJ (by have:=aV.out;omega)
       go_loopw [15,70] (fun b5 ca wr=>∃(i:Nat) (aT:Value) (kept:List Int),aT=b5∧i≤back.length∧ca= .int .i64 (i:Nat)∧Hid (Bu.trim (back.take i) n2 j.win=kept∧Old w6 wr∧Own wr w6.heap.size 29 1 aT kept.length (ax kept))∧kept.length≤i) (fun _ x _=>back.length-(intOf x).toNat)
       case atStart=>exact⟨0,_,[],rfl,bO _,rfl,aJ ⟨rfl,Old.refl _,Own.nil_ _ _ _ _⟩,bM _⟩
       case round=>
        obtain⟨i,aT,kept,rfl,hi,rfl,C,bS⟩:=hrel
        by_cases d:i<back.length
        ·have i0:(0:Int)≤(i:Int):=by omega
         have i1:(i:Int)<(back.length:Int):=by omega
         obtain⟨b,off,ba,_,y⟩:=(aj.out.up C.out.2.1).at_ (by rw[eT];omega)
         subst ba;have d0:=y i _ (eU back i d);obtain⟨t,ht⟩:∃t,back.getD i 0=t:=⟨_,rfl⟩
         have bt:0≤t∧t≤n2:=by
          rw[←ht,bD,bE d];exact aX.out _ (bH d)
         have G:=xN back i d (win:=j.win) ht bt.2
         rw[ht] at d0;have cb:wr.cell? ⟨kj,11,none⟩=some (.int .u64 j.win):=(E.out.up C.out.2.1).cell 11 rfl;obtain⟨t0,t1⟩:=bt;have p2:IntKind.u64.wrap (n2-t)=n2-t:=IntWalk.u64_in _ ⟨by omega,by omega⟩
         clear ht y;rw[C.out.1] at G
         by_cases hw:n2-t<j.win
         ·rw[if_pos hw] at G;obtain⟨aq,az,Y,_,_,_⟩:=C.out.2.2.shape;have O:=aJ C.out.2.2;subst Y;have H:Hid (w6.heap.size≤wr.heap.size):=aJ C.out.2.1.size;have a:Hid (∀v' W,Own W w6.heap.size 29 1 v' (kept.length+1) (ax kept++[.int .u64 t])→wr.grownBy W (Value.slice aq kept.length az).ownBlock→Bu.trim (back.take (i+1)) n2 j.win=kept++[t]∧Old w6 W∧Own W w6.heap.size 29 1 v' (kept++[t]).length (ax (kept++[t]))):=aJ (fun v' W h1 h2=>⟨G,Own.grown_old C.out.2.1 C.out.2.2 (bM _) h2,by
           rw[bF,bG,show ax (kept++[t])=ax kept++[.int .u64 t] by simp[ax]]
           exact h1⟩)
          generalize ax kept=L15 at O a;clear C G;go_wp2_with (at_builtin;refine aE (wr:=wr) rfl _ _ 23 rfl _ 29 (.int .u64 0) 1 8 Tryz.underlying23 jY rfl (by decide) (by decide) _ _ _ rfl O.out 1 1 [.int .u64 t] rfl rfl rfl rfl ?pn2 H.out ?_)
          case pn2=>omega
          intro v' w7 ho N hd;have HR:=aJ (a.out v' w7 ho N);clear ho N hd a O;go_wp2_with fail;go_roundw
          case rel=>exact⟨i+1,_,kept++[t],rfl,d,by go_num,HR,by simp;omega⟩
          case measure=>simp[intOf];omega
         ·rw[if_neg hw,List.append_nil] at G;have HR:=aJ (And.intro G C.out.2);clear C G;go_wp2_with fail;go_roundw
          case rel=>exact⟨i+1,_,kept,rfl,d,by go_num,HR,by omega⟩
          case measure=>simp[intOf];omega
        ·obtain rfl:i=back.length:=by omega
         have nb:¬(back.length:Int)<(back.length:Int):=by omega
         have bk:Bu.trim back n2 j.win=kept:=by
          have:=C.out.1
          rwa [List.take_length] at this
         obtain⟨aq,az,Y,_,_,_⟩:=C.out.2.2.shape;subst Y;have ab:=aJ (E.out.up C.out.2.1);rw[bk] at o;have aQ:wr.rangeAt kj 0 (ae j):=lL ab.out.box;unfold ae at aQ;clear C E bk aj hi;have HP:Hid (Calls Tryz.prog 8 #[.slice (some ⟨wr.heap.size,0,none⟩) 1 1,.slice aU n.length a8] (wr.alloc (.cells #[.string j.nm,.string j.run,.slice j.eA j.env.length j.ec,.slice j.nA j.needs.length j.nc,.bool j.hasR,.string j.ready,.int .i64 j.restart,.int .u64 j.base,.int .u64 j.cap,.int .u64 j.stable,.int .i64 j.burst,.int .u64 j.win,.slice j.lA j.lad.length j.lc,.int .i64 j.line,.int .i64 j.col] 32)) (jh (wr.alloc (.cells (ae j).toArray 32)) [j] n)):=aJ (ab.out.play F.out a1.out rfl rfl 1);go_upto_region 30 with fail
         go_wp2_with (refine wpList_load_mid rfl 32 _ rfl kj 0 rfl _ _ aQ Tryz.underlying32 rfl cB ?_)
         refine HP.out.mono ?_;rintro e w9 ⟨A1,c1,bw,bB,cA,cS,rfl,an,bZ,aP,hA,hS⟩;have S:=aJ (ab.out.up (((Old.refl wr).alloc _).up an));obtain⟨ph,ai,b2,Z,c3,b3,o3,I,J,z2,z3,bC,aC,m,aF,aG⟩:∃ph:Int,(ph=if(kept.length:Int)<j.burst then 5 else 8)∧∃b off c3 b3 o3 I J z2 z3,bw=some ⟨b,off,none⟩∧w9.heap[b]? =some (.cells I 44 z2)∧w9.heap[b3]? =some (.cells J 46 z3)∧I[off+n.length]? =some (.slice (some ⟨b3,o3,none⟩) 1 c3)∧J[o3+1]? =some (.int .i64 ph):=by
          by_cases hb:(kept.length:Int)<j.burst
          ·obtain⟨x,hx,aS⟩:=(o.out.2 hb).1;exact⟨x.ph,by rw[if_pos hb];exact aS,zV aP hS hx⟩
          ·obtain⟨x,hx,aS⟩:=o.out.1 (by omega)
           exact⟨x.ph,by rw[if_neg hb];exact aS,zV aP hS hx⟩
         subst bC;have bf:n.length≤100:=by have:=aW.out;omega
         have q1:IntKind.i64.wrap ((n.length:Int)+1)=(n.length:Int)+1:=bV _ (by omega)
         have q2:IntKind.i64.wrap ((n.length:Int)+1-1)=(n.length:Int):=by
          rw[show(n.length:Int)+1-1=(n.length:Int) by omega]
          exact bV _ (by omega)
         have q0:(n.length:Int)+1-1=(n.length:Int):=by omega
         have k0:(0:Int)≤(n.length:Int):=by omega
         have k1:(n.length:Int)<(n.length:Int)+1:=by omega
         have a9:w9.cell? ⟨kj,10,none⟩=some (.int .i64 j.burst):=S.out.cell 10 rfl
         have f1:=(aK w9 b2 (Z+n.length) _ _ _ aC).trans aF
         have f2:=(aK w9 b3 (o3+1) _ _ _ m).trans aG
         have a6:Hid (w9.heap[b2]? =some (.cells I 44 z2)∧w9.heap[b3]? =some (.cells J 46 z3)∧I[Z+n.length]? =some (.slice (some ⟨b3,o3,none⟩) 1 c3)∧J[o3+1]? =some (.int .i64 ph)):=aJ ⟨aC,m,aF,aG⟩
         clear an bZ aP hA hS HP aQ ab aC m aF aG
         by_cases bd:j.burst≤(kept.length:Int)
         ·rw[if_neg (by omega)] at ai
          subst ai;have q:=aJ (rb w9);have Q:=aJ S.out.old;clear a6 S o;go_wp2_with fail;refine(q.out).mono ?_;rintro e cc ⟨rfl,ak⟩;have HX:=aJ (Q.out.up ak);clear ak q Q;go_wp2_with fail;go_ret;exact⟨rfl,HX.out⟩
         ·have af:(kept.length:Int)<j.burst:=by omega
          rw[if_pos af] at ai;subst ai;have a5:=aJ (o.out.2 af).2;clear o;obtain⟨jit,z⟩:∃jit,D.getD back.length 0=jit:=⟨_,rfl⟩
          go_upto_if 137 with fail
          go_cut [20] (fun b8 wc=>b8= .int .u64 jit∧wc=w9)
          case first=>
           clear a9 f1 f2 q0 q1 q2 k0 k1 bd af
           by_cases B:back.length<f.length
           ·have i0:(0:Int)≤(back.length:Int):=by omega
            have i1:(back.length:Int)<(f.length:Int):=by omega
            obtain⟨b,off,hA,_,y⟩:=(au.out.up S.out.old).at_ (by rw[eT];omega)
            subst hA;have d0:=y back.length _ (eU f _ B);obtain⟨v,hv⟩:∃v,f.getD back.length 0=v:=⟨_,rfl⟩
            have aR:Tk.U v:=by
             rw[←hv,bD,bE B];exact ay.out _ (bH B)
            have bz:Hid (v%7=jit):=aJ (by
             rw[←z,←ar.out,bD,List.getElem?_map,bE B,←hv,bD,bE B]
             rfl)
            rw[hv] at d0;obtain⟨v0,v1⟩:=aR;clear y hv z;go_wp2_with fail;go_meet
            case rel=>exact⟨by rw[bz.out],rfl⟩
           ·have i1:¬(back.length:Int)<(f.length:Int):=by omega
            have bR:jit=0:=by
             rw[←z,bD,bI (by omega)]
             rfl
            subst bR;clear z;go_wp2_with fail;go_meet
            case rel=>exact⟨rfl,rfl⟩
          case rest=>
           obtain⟨rfl,b1⟩:=hcut;subst wc
           revert A c l A2 c2 f w bm au ay D bc av ar w1 g HG w2 j0 dl w3 kj j F u9 u35 u36 u37 u38 u39 u40 u41 u42 u43 u44 v7 ah u4 u14 u15 u18 u19 u20 u21 u22 u68 u69 u70 k falls now back es hk ac aA run_ ao nk w5 HI bK bJ n2 p1 bo bY a3 A7 c7 L7 w6 n aV a1 bx aU a8 fl bN bv bA aX aW wr u17 kept bS d aq az nb w9 A1 c1 bB cA cS S b2 Z c3 b3 o3 I J z2 z3 bf q1 q2 q0 k0 k1 a9 f1 af f2 a6 a5 jit z bd u45 u46 u47 u48 u49 u50 u51 u52 u53 u54 u55 u56 u57 u58 u59 u60 u61 u62 u63 u64 u65 u66 u67 u71 u72 u73 u74 u75 u76 u77 u78 u79 u80 u81 u82 u83 u84 u85 u86 u87 u88 u89 u90 u91 u92 u93 u94 u95 u96 u97 u98 u99 u100 u101 u102 u103 u104 u105 u106 u107 u108 u109 u110 u111 u112 u113 u114 u115 u116 u117 u118 u119 u120 u121 u122 u123 u124 u125 u126 u127 u128 u129 u130 u131 u132 u133 u134 u135 u136 u137 u138 u139 u140 u141 u142 u143 u144 u145 u146 u147 u148 u149 u150 u151 u152 u153 u154 u155 u156 u157 u158 u159 u160 u161 u162 u163 u164 u165 u166 u167 u168 u169 u170 u171 u172 u173 u174 u175 u176 u177 u178 u179 u180 u181 u182 u183 u184 u185 u186 u187 u188 u189 u190 u191 u192 u193 u194 u195 u196 u197 u198 u199 u200 u201 u202 u203 u204 u205 u206 u207 u208 u209 u210 u211 u212 u213 u214 u215 u216 u217 u218 u219 u220 u221 u222 u223 u224 u225 u226 u227 u228 u229 u230 u231 u232 u233 u234 u235 u236 u237 u238 u239 u240 u241 u242 u243 u244 u245 u246 u247 u248 u249
           revert wr u17 u45 u46 u47 u48 u49 u50 u51 u52 u53 u54 u55 u56 u57 u58 u59 u60 u61 u62 u63 u64 u65 u66 u67 u85 u86 u87 u88 u89 u90 u91 u92 u93 u94 u95 u96 u97 u98 u99 u100 u101 u102 u103 u104 u105 u106 u107 u108 u109 u110 u111 u112 u113 u114 u115 u116 u117 u118 u119 u120 u121 u122 u123 u124 u125 u126 u127 u128 u129 u130 u131 u132 u133 u134 u135 u136 u137 u138 u139 u140 u141 u142 u143 u144 u145 u146 u147 u148 u149 u150 u151 u152 u153 u154 u155 u156 u157 u158 u159 u160 u161 u162 u163 u164 u165 u166 u167 u168 u169 u170 u171 u172 u173 u174 u175 u176 u177 u178 u179 u180 u181 u182 u183 u184 u185 u186 u187 u188 u189 u190 u191 u192 u193 u194 u195 u196 u197 u198 u199 u200 u201 u202 u203 u204 u205 u206 u207 u208 u209 u210 u211 u212 u213 u214 u215 u216 u217 u218 u219 u220 u221 u222 u223 u224 u225 u226 u227 u228 u229 u230 u231 u232 u233 u234 u235 u236 u237 u238 u239 u240 u241 u242 u243 u244 u245 u246 u247 u248 u249 u71 u72 u73 u74 u75 u76 u77 u78 u79 u80 u81 u82 u83 u84
           revert wr u45 u46 u47 u48 u49 u50 u51 u52 u53 u54 u55 u56 u57 u58 u59 u60 u61 u62 u63 u64 u65 u66 u67 u85 u86 u87 u88 u89 u90 u91 u92 u93 u94 u95 u96 u97 u98 u99 u100 u101 u102 u103 u104 u105 u106 u107 u108 u109 u110 u111 u112 u113 u114 u115 u116 u117 u118 u119 u120 u121 u122 u123 u124 u125 u126 u127 u128 u129 u130 u131 u132 u133 u134 u135 u136 u137 u138 u139 u140 u141 u142 u143 u144 u145 u146 u147 u148 u149 u150 u151 u152 u153 u154 u155 u156 u157 u158 u159 u160 u161 u162 u163 u164 u165 u166 u167 u168 u169 u170 u171 u172 u173 u174 u175 u176 u177 u178 u179 u180 u181 u182 u183 u184 u185 u186 u187 u188 u189 u190 u191 u192 u193 u194 u195 u196 u197 u198 u199 u200 u201 u202 u203 u204 u205 u206 u207 u208 u209 u210 u211 u212 u213 u214 u215 u216 u217 u218 u219 u220 u221 u222 u223 u224 u225 u226 u227 u228 u229 u230 u231 u232 u233 u234 u235 u236 u237 u238 u239 u240 u241 u242 u243 u244 u245 u246 u247 u248 u249 u71 u72 u73 u74 u75 u76 u77 u78 u79 u80 u81 u82 u83 u84
           revert u71 u72 u73 u74 u75 u76 u77 u78 u79 u80 u81 u82 u83 u84
           repeat (rename_i qq;revert qq)
           exact hP.get
     ·have nk:¬(k:Int)<10:=by omega
      clear hP;have q:=aJ (rb wr);have Q:=aJ HM.out.1.old;clear HM;go_wp2_with fail;refine(q.out).mono ?_;rintro e w9 ⟨rfl,T⟩;have HX:=aJ (Q.out.up T);clear T q Q;go_wp2_with fail;go_ret;exact⟨rfl,HX.out⟩
 ·have p1:decide ((12:Int)<(f.length:Int))=true:=by rw[decide_eq_true_iff];omega
  clear hP;have q:=aJ (rb w);clear hr hm hd hU aH;go_enter Tryz.func3,Tryz.ntmps3;go_wp2_with fail;refine(q.out).mono ?_;rintro e w9 ⟨rfl,T⟩;have HX:=aJ T;clear T q;go_wp2_with fail;go_ret;exact⟨rfl,HX.out⟩
end Go.Proofs.YtfchjdnpbgpfpaaGreatDoor
