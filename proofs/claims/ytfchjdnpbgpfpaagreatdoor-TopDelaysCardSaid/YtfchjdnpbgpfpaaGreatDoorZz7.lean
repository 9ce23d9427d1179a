/- Part 7: walks and plain laws. -/
import Derived.Test.YtfchjdnpbgpfpaaGreatDoorZz6
set_option maxHeartbeats 16000000
set_option maxRecDepth 100000
open Go.Lib renaming hid → aJ
open Go renaming cell_of_row → aK, heap_setCell_other → aL, heap_alloc_new → aM, frozen_of_row → aN, heap_setCell_same → aO, bodyPost_ret → aP, lt_of_block → aQ, undef → aR
open List renaming getD_eq_getElem?_getD → bD, getElem?_eq_getElem → bE, length_append → bF, length_singleton → bG, getElem_mem → bH, getElem?_eq_none → bI, getElem?_append_left → bJ, length_set → bK, length_map → bL
open Nat renaming le_refl → bM, le_trans → bN, zero_le → bO
open Option.some renaming inj → bQ
open Go.World.ownsRow renaming kept → bT, lt → bU
open Go.IntWalk renaming i64_in → bV
open Exists renaming intro → bW
open Or renaming inl → bX, inr → bY
namespace Go.Proofs.YtfchjdnpbgpfpaaGreatDoor
open Go.RowKit Go.Shelf
set_option linter.unusedVariables false
theorem td2:td1.1:=by
 intro _ _ _ _ _ _ _ _ _ _ _ _ _ _ _ _ _ _ _ _ _ _ _ _ _ _ _ _ _ _ _ _ _ _ _ _ _ _ _ _ _ _ _ _ _ _ _ _ _ _ _ _ _ _ _ _ _ _ _ _ _ _ _ _ _ _ _ _ _ _ _ _ _ _ _ _ _ _ _ _ _ _ _ _ _ _ _ _ _ _ _ _ _ _ _ _ _ _ _ _ _ _ _ _ _ _ _ _ _ _ _ _ _ _ _ _ _ _ _ _ _ _ _ _ _ _ _ _ _ _ _ _ _ _ _ _ _ _ _ _ _ _ _ _ _ _ _ _ _ _ _ _ _ _ _ _ _ _ _ _ _ _ _ _ _ _ _ _ _ _ _ _ _ _ _ _ _ _ _ _ _ _ _ _ _ _ _ _ _ _ _ _ _ _ _ _ _ _ _ _ _ _ _ _ _ _ _ _ _ _ _ _ _ _ _ _ _ _ _ _ _ _ _ _ _ _ _ _ _ _ _ _ _ _ _ _ _ _ _ _ _ _ _ _ _ _ _ _ _ _ _ _ _ _ _ _ _ _ _ _ _ _ _ _ _ _ _ _ _ _ _ _ _ _ _ _ _ _ _ _ _ _ _ _ _ _ _ _ _ _ _ _ _ _ _ _ _ _ _ _ _ _ _ _ _ _ _ _ _ _ _ _ _ _ _ _ _ _ _ _ _ _ _ _ _ _ _ _ _ _ _ _ _ _ _ _ _ _ _ _ _ _ _ _ _ _ _ _ _ _ _ _ _ _ _ _ _ _ _ _ _ _ _ _ _ _ _ _ _ _ _ _ _ _ _ _ _ _ _ _ _ _ _ _ _ _ _ _ _ _ _ _ _ _ _ _ _ _ _ _ _ _ _ _ _ _ _ _ _ _ _ _ _ _ _ _ _ _ _ _ _ _ _ _ _ _ _ _ A c _ _ _ _ w _ _ _ _ D _ aH _ _ _ g _ _ _ _ _ kj j Z _ _ _ _ _ _ _ _ _ _ _ v7 _ _ _ _ _ _ _ _ _ _ _ _ _ _ _ _ k _ _ back es _ _ _ _ _ _ _ _ _ _ n2 _ aT _ _ _ _ _ _ _ L7 _ u aD aI aM T aa _ _ _ H _ aB aN _ _ _ _ aF am _ _ _ _ _ _ _ _ _ _ _ _ _ w9 _ _ _ _ _ r b2 S c3 b3 o3 _ _ _ _ _ q1 q2 q0 k0 k1 aP f1 aR f2 C M jit F aS _ _ _ _ _ _ _ _ _ _ _ _ _ _ _ _ _ _ _ _ _ u64 _ _ _ _ _ _ _ _ _ _ _ _ _ _ _ _ _ _ _ _ _ _ _ _ _ _ _ _ _ _ _ _ _ _ _ _ _ _ _ _ _ _ _ _ _ _ _ _ _ _ _ _ _ _ _ _ _ _ _ _ _ _ _ _ _ _ _ _ _ _ _ _ _ _ _ _ _ _ _ _ _ _ _ _ _ _ _ _ _ _ _ _ _ _ _ _ _ _ _ _ _ _ _ _ _ _ _ _ _ _ _ _ _ _ _ _ _ _ _ _ _ _ _ _ _ _ _ _ _ _ _ _ _ _ _ _ _ _ _ _ _ _ _ _ _ _ _ _ _ _ _ _ _ _ _ _ _ _ _ _ _ _ _ _ _ _ _ _ _ _ _ _ _ _ _ _ _ _ _ _ _ _;have B:=aJ r.out.o11;have aG:Hid (w.heap.size≤w9.heap.size):=aJ r.out.old.size;have l:Hid (∀v' W,Own W w.heap.size 29 1 v' (back.length+1) (ax back++[.int .u64 n2])→w9.grownBy W (Value.slice aB back.length aN).ownBlock→TDm w W g kj j u (.slice T u.length aa) (back++[n2]) v'∧W.cell? ⟨b2,S+u.length,none⟩=some (.slice (some ⟨b3,o3,none⟩) 1 c3)∧W.cell? ⟨b3,o3+1,none⟩=some (.int .i64 5)):=aJ (fun v' W h1 h2=>⟨r.out.push11 h1 h2,(aK W b2 (S+u.length) _ _ _ (Own.keeps r.out.o11 h2 C.out.1 (by decide))).trans C.out.2.2.1,(aK W b3 (o3+1) _ _ _ (Own.keeps r.out.o11 h2 C.out.2.1 (by decide))).trans C.out.2.2.2⟩)
 generalize ax back=L11 at B l;clear r C aP f1 f2 aS aR;go_wp2_with (at_builtin;refine aE (wr:=w9) rfl _ _ 23 rfl _ 29 (.int .u64 0) 1 8 Tryz.underlying23 jY rfl (by decide) (by decide) _ _ _ rfl B.out 1 1 [.int .u64 n2] rfl rfl rfl rfl ?pn1 aG.out ?_)
 case pn1=>omega
 intro i f Q P hd;obtain⟨R,f1,f2⟩:=l.out i f Q P;have d:=aJ R;clear Q P hd l B R;have e7:f.cell? ⟨kj,7,none⟩=some (.int .u64 j.base):=d.out.cell 7 rfl;have e8:f.cell? ⟨kj,8,none⟩=some (.int .u64 j.cap):=d.out.cell 8 rfl;have ag:0≤jit∧jit≤6:=by
  rw[←F,bD]
  by_cases hl:back.length<D.length
  ·rw[bE hl];exact aH.out _ (bH hl)
  ·rw[bI (by omega)]
   exact⟨by decide,by decide⟩
 obtain⟨s,J⟩:∃s,Tk.delay j.base j.cap (H:Nat) jit=s:=⟨_,rfl⟩
 obtain⟨due,ad⟩:∃due,Tk.add n2 s=due:=⟨_,rfl⟩
 have ab:=Z.out.jtd.b
 have ac:=Z.out.jtd.c
 have au:Tk.U s:=by
  rw[←J];unfold Tk.delay;exact Tk.U_add (by rw[Tk.low_eq];exact⟨by have:=(Tk.U_dbl (a:=j.base) ((H:Nat):Int) ⟨ab.1,by omega⟩).1;omega,by have:=ac.2;omega⟩) ⟨ag.1,by omega⟩
 have ao:Hid (Calls Tryz.prog 10 #[.int .u64 j.base,.int .u64 j.cap,.int .i64 (H:Nat),.int .u64 jit] f fun e w'=>e= .returned (.int .u64 s)∧f=w'):=aJ (by
  rw[←J];exact Bb _ _ _ _ ⟨ab.1,by omega⟩ ⟨ac.1,by omega⟩ ⟨ag.1,by omega⟩ (by omega) f)
 have al:Hid (Calls Tryz.prog 9 #[.int .u64 n2,.int .u64 s] f fun e w'=>e= .returned (.int .u64 due)∧f=w'):=aJ (by
  rw[←ad];exact Bc _ _ ⟨aT,by omega⟩ au f)
 have I:Hid (n2≤due∧due≤n2+30∧(n2+1<due→(Oc.run [j] (u++[Oc.evTick (due-1)])).acts=[])∧(Oc.run [j] (Oc.es2 j es n2 due)).acts=[⟨1,j.nm,(k:Int)+2⟩]∧Oc.TdI j (Oc.es2 j es n2 due) (k+1) (H+1) (max due (n2+1)) (back++[n2]) D):=aJ (by
  have h:=M.out
  rw[show Oc.due1 j H n2 back D=due by unfold Oc.due1;rw[F,J,ad]] at h
  exact h)
 have ay:=I.out.1
 have az:=I.out.2.1
 clear M J ad au ab ac F ag;go_wp2_with fail;refine(ao.out).mono ?_;rintro e w' ⟨rfl,rfl⟩;go_wp2_with fail;refine(al.out).mono ?_;rintro e w' ⟨rfl,rfl⟩;have q3:IntKind.i64.wrap ((H:Int)+1)=(H:Int)+1:=bV _ (by omega)
 have p3:IntKind.u64.wrap (n2+1)=n2+1:=IntWalk.u64_in _ ⟨by omega,by omega⟩
 obtain⟨eb,af⟩:∃eb,u++(if n2+1<due then [Oc.evTick (due-1)] else [])=eb:=⟨_,rfl⟩
 have o:=aJ af
 have an:Hid (eb.length≤16+5*k):=aJ (by
  rw[←af,bF];have:=am.out;split<;>simp<;>omega)
 clear af;go_upto_if 172 with fail
 clear f1 f2 e7 e8 ao al;go_cut [7] (fun s7 wc=>∃v7,v7=s7∧Hid (TDm w wc g kj j eb v7 (back++[n2]) i))
 case first=>
  by_cases n:n2+1<due
  ·have p4:IntKind.u64.wrap (due-1)=due-1:=IntWalk.u64_in _ ⟨by omega,by omega⟩
   have q:=aJ d.out.o7
   have z:Hid (w.heap.size≤f.heap.size):=aJ d.out.old.size
   have l:Hid (∀v' W,Own W w.heap.size 37 8 v' (u.length+1) (fh (u.map mn)++[.int .i64 4,.string ⟨#[]⟩,.bool false,.int .i64 0,.slice none 0 0,.int .u64 (due-1),.int .i64 0,.int .i64 0])→f.grownBy W (Value.slice T u.length aa).ownBlock→TDm w W g kj j eb v' (back++[n2]) i):=aJ (fun v' W h1 h2=>by
    have h3:=d.out.push7 (es':=[Oc.evTick (due-1)]) (w':=W) (v':=v') h1 h2
    rw[←o.out,if_pos n];exact h3)
   generalize fh (u.map mn)=L7 at q l;clear d;go_wp2_with (at_builtin;refine aE (wr:=f) rfl _ _ 34 rfl _ 37 (.agg #[.int .i64 0,.string ⟨#[]⟩,.bool false,.int .i64 0,.slice none 0 0,.int .u64 0,.int .i64 0,.int .i64 0]) 8 88 Tryz.underlying34 gx rfl (by decide) (by decide) _ _ _ rfl q.out 1 1 [.int .i64 4,.string ⟨#[]⟩,.bool false,.int .i64 0,.slice none 0 0,.int .u64 (due-1),.int .i64 0,.int .i64 0] rfl rfl rfl rfl ?pn2 z.out ?_)
   case pn2=>omega
   intro v' aV Q P hd;have HR:=aJ (l.out v' aV Q P);clear Q P hd l q;go_wp2_with fail;go_meet
   case rel=>exact⟨_,rfl,HR⟩
  ·have HR:Hid (TDm w f g kj j eb (.slice T u.length aa) (back++[n2]) i):=aJ (by
    rw[←o.out,if_neg n,List.append_nil];exact d.out)
   clear d;go_wp2_with fail;go_meet
   case rel=>exact⟨_,rfl,HR⟩
 case rest=>
  clear d q0 q1 q2 k0 k1;obtain⟨_,rfl,p⟩:=hcut;obtain⟨m3,ah⟩:∃m3,max due (n2+1)=m3:=⟨_,rfl⟩
  have m1:(if due<n2+1 then n2+1 else due)=m3:=by rw[←ah];split<;>omega
  have m2:n2+1≤m3:=by omega
  have m4:m3≤n2+31:=by omega
  obtain⟨ec,x⟩:∃ec,eb++[Oc.evTick m3]=ec:=⟨_,rfl⟩
  have ar:Oc.es2 j es n2 due=ec:=by
   unfold Oc.es2;rw[aM.out,o.out,ah,x]
  have Y:=I.out.2.2
  rw[ar,ah] at Y;have X:=aJ Y;have aw:ec.length=eb.length+1:=by rw[←x];simp
  have V:=aJ aw
  have ap:Hid (TdE D ec):=aJ (by
   rw[←x,←o.out];refine(aI.out.app (es':=if n2+1<due then [Oc.evTick (due-1)] else []) (fun e he=>?_) ?_).app (fun e he=>?_) ?_
   ·split at he
    ·rw[List.mem_singleton.mp he];exact nW (by omega) (by omega)
    ·cases he
   ·have:=am.out
    split<;>simp<;>omega
   ·rw[List.mem_singleton.mp he];exact nW (by omega) (by omega)
   ·have:=an.out
    rw[o.out];simp
    omega)
  obtain⟨aC,aO,aj,_,_,_⟩:=p.out.o7.shape;subst aj;have q:=aJ p.out.o7;have z:Hid (w.heap.size≤wc.heap.size):=aJ p.out.old.size;have l:Hid (∀v' W,Own W w.heap.size 37 8 v' (eb.length+1) (fh (eb.map mn)++[.int .i64 4,.string ⟨#[]⟩,.bool false,.int .i64 0,.slice none 0 0,.int .u64 m3,.int .i64 0,.int .i64 0])→wc.grownBy W (Value.slice aC eb.length aO).ownBlock→TDm w W g kj j ec v' (back++[n2]) i):=aJ (fun v' W h1 h2=>by
   have h3:=p.out.push7 (es':=[Oc.evTick m3]) (w':=W) (v':=v') h1 h2
   rw[x] at h3;exact h3)
  generalize fh (eb.map mn)=L7 at q l;have aX:eb.length≤100:=by have:=an.out;omega
  have aL:=aJ x
  clear p x ar Y aw I;go_wp2_with (at_builtin;refine aE (wr:=wc) rfl _ _ 34 rfl _ 37 (.agg #[.int .i64 0,.string ⟨#[]⟩,.bool false,.int .i64 0,.slice none 0 0,.int .u64 0,.int .i64 0,.int .i64 0]) 8 88 Tryz.underlying34 gx rfl (by decide) (by decide) _ _ _ rfl q.out 1 1 [.int .i64 4,.string ⟨#[]⟩,.bool false,.int .i64 0,.slice none 0 0,.int .u64 m3,.int .i64 0,.int .i64 0] rfl rfl rfl rfl ?pn3 z.out ?_)
  case pn3=>omega
  intro aU y Q P hd;have m:=aJ (l.out aU y Q P);clear Q P hd l q;obtain⟨ak,aq,aj,_,_,_⟩:=m.out.o7.shape;subst aj;have K:y.rangeAt kj 0 (ae j):=lL m.out.box;unfold ae at K;have HP:Hid (Calls Tryz.prog 8 #[.slice (some ⟨y.heap.size,0,none⟩) 1 1,.slice ak ec.length aq] (y.alloc (.cells #[.string j.nm,.string j.run,.slice j.eA j.env.length j.ec,.slice j.nA j.needs.length j.nc,.bool j.hasR,.string j.ready,.int .i64 j.restart,.int .u64 j.base,.int .u64 j.cap,.int .u64 j.stable,.int .i64 j.burst,.int .u64 j.win,.slice j.lA j.lad.length j.lc,.int .i64 j.line,.int .i64 j.col] 32)) (jh (y.alloc (.cells (ae j).toArray 32)) [j] ec)):=aJ (m.out.play Z.out ap.out rfl rfl 1);go_upto_region 46 with fail
  go_wp2_with (refine wpList_load_mid rfl 32 _ rfl kj 0 rfl _ _ K Tryz.underlying32 rfl cB ?_)
  refine HP.out.mono ?_;rintro e aW ⟨_,_,_,_,_,_,rfl,G,ai,aA,hA,hS⟩;have E:=aJ (m.out.up (((Old.refl y).alloc _).up G));obtain⟨b4,_,c4,_,_,aQ,f1,f2,_,f4⟩:=yl ai hA X.out.2.1;subst aQ;have aY:ec.length≤101:=by have:=V.out;omega
  have q1:IntKind.i64.wrap ((ec.length:Int)+1)=(ec.length:Int)+1:=bV _ (by omega)
  have q0:(ec.length:Int)+1-1=(ec.length:Int):=by omega
  have q2:IntKind.i64.wrap ((ec.length:Int))=(ec.length:Int):=bV _ (by omega)
  have q5:IntKind.i64.wrap ((ec.length:Int)+1-1)=(ec.length:Int):=by rw[q0,q2]
  have q6:IntKind.i64.wrap ((k:Int)+2)=(k:Int)+2:=bV _ (by omega)
  have k0:(0:Int)≤(ec.length:Int):=by omega
  have k1:(ec.length:Int)<(ec.length:Int)+1:=by omega
  have N:Hid (TDm w aW g kj j ec (.slice ak ec.length aq) (back++[n2]) i∧Oc.TdI j ec (k+1) (H+1) m3 (back++[n2]) D∧TdE D ec∧ec.length≤12+5*(k+1)∧(back++[n2]).length≤k+1∧∀t∈back++[n2],0≤t∧t≤m3):=aJ ⟨E.out,X.out.2.2,ap.out,by
   have e1:=V.out
   have e2:eb.length≤u.length+1:=by
    rw[←o.out,bF];split<;>simp
   have e3:=aD.out
   omega,by simp;omega,fun t ht=>by
   rcases List.mem_append.mp ht with h|h
   ·have:=aF.out t h
    omega
   ·rw[List.mem_singleton.mp h]
    omega⟩
  by_cases n:n2+1<due
  ·obtain⟨L,hL⟩:∃L,u.length+1=L:=⟨_,rfl⟩
   have O:eb.length=L:=by rw[←o.out,if_pos n,←hL];simp
   have hq:ec.length=L+1:=by rw[V.out,O]
   have av:(Oc.run [j] (ec.take L)).acts=[]:=by
    rw[←aL.out,List.take_append_of_le_length (by omega),List.take_of_length_le (by omega),←o.out,if_pos n]
    exact X.out.1 n
   obtain⟨_,_,_⟩:=f4 L (by omega) av
   have q7:IntKind.i64.wrap ((ec.length:Int)-1)=(L:Int):=by
    rw[show(ec.length:Int)-1=(L:Int) by omega]
    exact bV _ (by omega)
   have k2:(0:Int)≤(L:Int):=by omega
   have k3:(L:Int)<(ec.length:Int)+1:=by omega
   clear G ai aA hA hS HP K m E hq O hL f4 av m2 m4 ay az;go_wp2_with fail;go_roundw
   case rel=>exact⟨k+1,H+1,m3,back++[n2],ec,_,i,rfl,rfl,by go_num,by go_num,rfl,N⟩
   case measure=>simp[intOf];omega
  ·clear G ai aA hA hS HP K m E f4 m2 m4 ay az;go_wp2_with fail;go_roundw
   case rel=>exact⟨k+1,H+1,m3,back++[n2],ec,_,i,rfl,rfl,by go_num,by go_num,rfl,N⟩
   case measure=>simp[intOf];omega
theorem topDelaysC (A:Option Addr) (c:Nat) (l:List Int) (A2:Option Addr) (c2:Nat) (a:List Int) (w:World) (g:Rs w A (aY l)) (hm:l.length≤maxLen) (f:Rs w A2 (ax a)) (d:∀v∈a,Tk.U v) (b:a.length≤maxLen):
  Calls Tryz.prog 3 #[.slice A l.length c,.slice A2 a.length c2] w fun e w'=>e= .returned (.bool true)∧Old w w':=
 td1.2 ⟨td2⟩ A c l A2 c2 a w g hm f d b
end Go.Proofs.YtfchjdnpbgpfpaaGreatDoor
