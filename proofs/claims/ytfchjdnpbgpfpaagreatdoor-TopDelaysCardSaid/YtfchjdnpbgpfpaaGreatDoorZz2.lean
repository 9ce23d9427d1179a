/- Part 2: walks and plain laws. -/
import Derived.Test.YtfchjdnpbgpfpaaGreatDoorZz1
import Derived.Deep.RegionLaw
import Derived.Laws.StructEq
import Derived.Laws.CopyOwn
import Derived.Lib.SliceRun
import Derived.Maps.OwnSet
import Derived.DeepKeys4
import Derived.StillTailTactics
set_option maxHeartbeats 16000000
set_option maxRecDepth 100000
open Go.Lib renaming hid → aJ
open Go renaming cell_of_row → aK, heap_setCell_other → aL, heap_alloc_new → aM, frozen_of_row → aN, heap_setCell_same → aO, bodyPost_ret → aP, lt_of_block → aQ, undef → aR
open List renaming getD_eq_getElem?_getD → bD, getElem?_eq_getElem → bE, length_append → bF, length_singleton → bG, getElem_mem → bH, getElem?_eq_none → bI, getElem?_append_left → bJ, length_set → bK, length_map → bL
open Nat renaming le_refl → bM, le_trans → bN, zero_le → bO
open Option.some renaming inj → bQ
open Go.World.ownsRow renaming kept → bT, lt → bU
open Go.IntWalk renaming i64_in → bV
open Exists renaming intro → bW
open Or renaming inl → bX, inr → bY
namespace Go.Proofs.YtfchjdnpbgpfpaaGreatDoor
open Go.RowKit Go.Shelf
set_option linter.unusedVariables false
theorem zj (A:Option Addr) (c:Nat) (l:List Jd) (nm:ByteArray) (b:Nat) (w:World) (g:JL w A l) (j:w.cell? ⟨b,0,none⟩=some (.slice A l.length c)) (hk:Gp.ix l nm≠none):
  Calls Tryz.prog 124 #[.string nm,.pointer (some ⟨b,0,none⟩)] w fun e w'=>e= .returned (.bool false)∧Old w w':=by
 have a:=aJ (nS A c l nm w g)
 have d:=aJ hk
 clear g hk;generalize l.length=n at *;go_enter Tryz.func124,Tryz.ntmps124;go_wp2_with fail;refine(a.out).mono ?_;rintro e _ ⟨r,rfl,h,f⟩;have i:=aJ f;have m:decide (r<0)=false:=by
  rcases Gp.ix_of h with⟨_,e⟩|⟨k,_,rfl,_⟩
  ·exact absurd e d.out
  ·rw[decide_eq_false_iff_not];omega
 clear h f d a;go_wp2_with fail;go_ret;exact⟨rfl,i.out⟩
theorem BS (A j:Option Addr) (c nc:Nat) (l:List Jd) (a:List ByteArray) (b:Nat) (w:World) (o:JL w A l) (m:w.cell? ⟨b,0,none⟩=some (.slice A l.length c)) (hn:Rs w j (aT a)) (y:a.length≤1000000) (hk:∀i,i<a.length→Gp.ix l (a.getD i ⟨#[]⟩)≠none):
  Calls Tryz.prog 189 #[.slice j a.length nc,.func (.func 124) #[] #[.pointer (some ⟨b,0,none⟩)]] w fun e w'=>e= .returned (.int .i64 (-1))∧Old w w':=by
 have q:=aJ (fun W nm (p:Old w W) (h:Gp.ix l nm≠none)=>zj A c l nm b W (o.up p) (p.cell m) h)
 have t:=aJ hn
 have s:=aJ hk
 clear o m hn hk;go_enter Tryz.func189,Tryz.ntmps189;go_wp2_with fail;go_loopw [8] (fun i wr=>∃k:Nat,k≤a.length∧i= .int .i64 k∧Hid (Old w wr)) (fun i _=>a.length-(intOf i).toNat)
 case atStart=>exact⟨0,bO _,rfl,aJ (Old.refl _)⟩
 case round=>
  obtain⟨k,hk,rfl,g⟩:=hrel
  by_cases f:k<a.length
  ·obtain⟨b2,_,rfl,_,hc⟩:=(t.out.up g.out).at_ (by rw[gE];omega)
   have x:=hc _ _ (jL a k f)
   have d:=s.out k f
   clear hc;generalize a.getD k ⟨#[]⟩=nm at *;have u:=aJ (q.out wr nm g.out d);clear d;go_wp2_with fail;refine(u.out).mono ?_;rintro e w' ⟨rfl,n⟩;have r:=aJ (g.out.up n);clear n x;go_wp2_with fail;go_roundw
   case rel=>exact⟨k+1,by omega,by go_num,r⟩
   case measure=>simp[intOf];omega
  ·obtain rfl:k=a.length:=by omega
   go_wp2_with fail;go_ret;exact⟨rfl,g.out⟩
theorem BT (A d:Option Addr) (c nc:Nat) (l:List Jd) (a:List ByteArray) (b:Nat) (w:World) (j:JL w A l) (g:w.cell? ⟨b,0,none⟩=some (.slice A l.length c)) (hn:Rs w d (aT a)) (m:a.length≤1000000) (hk:∀i,i<a.length→Gp.ix l (a.getD i ⟨#[]⟩)≠none):
  Calls Tryz.prog 123 #[.slice d a.length nc,.func (.func 124) #[] #[.pointer (some ⟨b,0,none⟩)]] w fun e w'=>e= .returned (.bool false)∧Old w w':=by
 have f:=aJ (BS A d c nc l a b w j g hn m hk)
 clear j g hn hk;go_enter Tryz.func123,Tryz.ntmps123;go_wp2_with fail;refine(f.out).mono ?_;rintro e w' ⟨rfl,h⟩;have k:=aJ h;clear h f;go_wp2_with fail;go_ret;exact⟨rfl,k.out⟩
theorem rQ (s:BSet) (w:World):Calls Tryz.prog 258 #[cG s] w (iA (cG (eC s)) w):=by
 have l:=aJ (((Old.refl w).alloc (.cells #[.int .u64 (ab s 0),.int .u64 (ab s 1),.int .u64 (ab s 2),.int .u64 (ab s 3)] 211)).alloc (.cells #[.int .u64 0,.int .u64 0,.int .u64 0,.int .u64 0] 211))
 have g:=aJ (((Old.refl _).alloc (.cells #[.int .u64 0,.int .u64 0,.int .u64 0,.int .u64 0] 211)).block (aM w (.cells #[.int .u64 (ab s 0),.int .u64 (ab s 1),.int .u64 (ab s 2),.int .u64 (ab s 3)] 211)))
 have j:Hid (((w.alloc (.cells #[.int .u64 (ab s 0),.int .u64 (ab s 1),.int .u64 (ab s 2),.int .u64 (ab s 3)] 211)).alloc (.cells #[.int .u64 0,.int .u64 0,.int .u64 0,.int .u64 0] 211)).heap[w.heap.size+1]? =some (eh 0)):=aJ (by
  rw[show w.heap.size+1=(w.alloc (.cells #[.int .u64 (ab s 0),.int .u64 (ab s 1),.int .u64 (ab s 2),.int .u64 (ab s 3)] 211)).heap.size by simp]
  exact aM _ _)
 have f:=aJ (uA s)
 have t:=aG s 0
 have h1:=aG s 1
 have h2:=aG s 2
 have u:=aG s 3
 unfold cG;go_enter Tryz.func258,Tryz.ntmps258;go_wp2_with fail;go_loopw [4] (fun ix wr=>Aq w s (fun i=>ab (eC s) i) w.heap.size (w.heap.size+1) ix wr) (fun ix _=>4-(intOf ix).toNat)
 case atStart=>exact⟨l.out,j.out,bX ⟨rfl,g.out⟩⟩
 case round=>
  obtain⟨e,hz,r⟩:=hrel;have h:=aJ e;have k:=aJ hz;rcases r with⟨rfl,a⟩|⟨rfl,a⟩|⟨rfl,a⟩|⟨rfl,a⟩|⟨rfl,a⟩
  ·obtain⟨_,c1,c2,_,_,f1,f2,_⟩:=dX a;have b:=aJ (fa a (ab (eC s) 0)).1;have c:=aJ ((fj wr w.heap.size (w.heap.size+1) 0 (.int .u64 (ab (eC s) 0)) (by omega)).trans hz)
   have d:=aJ (e.setCell (p:=⟨w.heap.size,0,none⟩) (bM _) (.int .u64 (ab (eC s) 0)))
   clear a hz e;go_wp2_with fail;rw[f.out 0 (by decide)]
   go_roundw
   case rel=>exact⟨d.out,c.out,bY (bX ⟨rfl,b.out⟩)⟩
   case measure=>simp[intOf]
  ·obtain⟨_,c1,c2,_,_,f1,f2,_⟩:=dX a;have b:=aJ (fa a (ab (eC s) 1)).2.1;have c:=aJ ((fj wr w.heap.size (w.heap.size+1) 1 (.int .u64 (ab (eC s) 1)) (by omega)).trans hz)
   have d:=aJ (e.setCell (p:=⟨w.heap.size,1,none⟩) (bM _) (.int .u64 (ab (eC s) 1)))
   clear a hz e;go_wp2_with fail;rw[f.out 1 (by decide)]
   go_roundw
   case rel=>exact⟨d.out,c.out,bY (bY (bX ⟨rfl,b.out⟩))⟩
   case measure=>simp[intOf]
  ·obtain⟨_,c1,c2,_,_,f1,f2,_⟩:=dX a;have b:=aJ (fa a (ab (eC s) 2)).2.2.1;have c:=aJ ((fj wr w.heap.size (w.heap.size+1) 2 (.int .u64 (ab (eC s) 2)) (by omega)).trans hz)
   have d:=aJ (e.setCell (p:=⟨w.heap.size,2,none⟩) (bM _) (.int .u64 (ab (eC s) 2)))
   clear a hz e;go_wp2_with fail;rw[f.out 2 (by decide)]
   go_roundw
   case rel=>exact⟨d.out,c.out,bY (bY (bY (bX ⟨rfl,b.out⟩)))⟩
   case measure=>simp[intOf]
  ·obtain⟨_,c1,c2,_,_,f1,f2,_⟩:=dX a;have b:=aJ (fa a (ab (eC s) 3)).2.2.2;have c:=aJ ((fj wr w.heap.size (w.heap.size+1) 3 (.int .u64 (ab (eC s) 3)) (by omega)).trans hz)
   have d:=aJ (e.setCell (p:=⟨w.heap.size,3,none⟩) (bM _) (.int .u64 (ab (eC s) 3)))
   clear a hz e;go_wp2_with fail;rw[f.out 3 (by decide)]
   go_roundw
   case rel=>exact⟨d.out,c.out,bY (bY (bY (bY (⟨rfl,b.out⟩))))⟩
   case measure=>simp[intOf]
  ·obtain⟨_,c1,c2,_,_,f1,f2,_⟩:=dX a;obtain⟨m,n,o,q,_,_,_,_⟩:=an hz;clear a hz e;go_wp2_with fail;refine aP (v:=cG (eC s)) (by simp[results,Tryz.results258,go_sem,m,n,o,q,cG]) rfl ⟨rfl,?_⟩
   exact((((h.out.setCell (p:=⟨w.heap.size+1,0,none⟩) (by simp) _).setCell (p:=⟨w.heap.size+1,1,none⟩) (by simp) _).setCell (p:=⟨w.heap.size+1,2,none⟩) (by simp) _).setCell (p:=⟨w.heap.size+1,3,none⟩) (by simp) _)
theorem xM (s t:BSet) (w:World):Calls Tryz.prog 266 #[cG s,cG t] w (iA (cG (s|||t)) w):=by
 obtain⟨k,g⟩:∃k,w.alloc (.cells #[.int .u64 (ab s 0),.int .u64 (ab s 1),.int .u64 (ab s 2),.int .u64 (ab s 3)] 211)=k:=⟨_,rfl⟩
 obtain⟨W2,h⟩:∃W2,k.alloc (.cells #[.int .u64 (ab t 0),.int .u64 (ab t 1),.int .u64 (ab t 2),.int .u64 (ab t 3)] 211)=W2:=⟨_,rfl⟩
 obtain⟨n,l⟩:∃n,W2.alloc (.cells #[.int .u64 0,.int .u64 0,.int .u64 0,.int .u64 0] 211)=n:=⟨_,rfl⟩
 have s1:k.heap.size=w.heap.size+1:=by rw[←g];simp
 have A:W2.heap.size=w.heap.size+2:=by rw[←h];simp[s1]
 have z:Old w k:=by rw[←g];exact(Old.refl w).alloc _
 have q:Old k W2:=by rw[←h];exact(Old.refl k).alloc _
 have o:Old W2 n:=by rw[←l];exact(Old.refl W2).alloc _
 have b1:k.heap[w.heap.size]? =some (c4 (ab s 0) (ab s 1) (ab s 2) (ab s 3)):=by rw[←g];exact aM w _
 have b2:W2.heap[w.heap.size+1]? =some (eh t):=by rw[←h,←s1];exact aM k _
 have b3:n.heap[w.heap.size+2]? =some (eh 0):=by rw[←l,←A];exact aM W2 _
 have y:=aJ ((z.up q).up o)
 have r:=aJ (o.block (q.block b1))
 have u:=aJ (o.block b2)
 have x:=aJ b3
 rw[←l,←h,←g] at y r u x;clear b1 b2 b3 z q o s1 A g h l;have m:=aJ (pZ s t);have H:=aG s 0;have h1:=aG s 1;have h2:=aG s 2;have I:=aG s 3;have J:=aG t 0;have K:=aG t 1;have L:=aG t 2;have M:=aG t 3;unfold cG;go_enter Tryz.func266,Tryz.ntmps266;go_wp2_with fail;go_loopw [6] (fun ix wr=>Ch w s t (fun i=>ab (s|||t) i) w.heap.size ix wr) (fun ix _=>4-(intOf ix).toNat)
 case atStart=>exact⟨⟨y.out,x.out,bX ⟨rfl,r.out⟩⟩,u.out⟩
 case round=>
  obtain⟨⟨j,hz,G⟩,f⟩:=hrel;have B:=aJ j;rcases G with⟨rfl,a⟩|⟨rfl,a⟩|⟨rfl,a⟩|⟨rfl,a⟩|⟨rfl,a⟩
  ·obtain⟨_,c1,c2,_,_,f1,f2,_⟩:=dX a;obtain⟨_,_,_,_,_,_,_,_⟩:=an f;have b:=aJ (fa a (ab (s|||t) 0)).1;have c:=aJ ((fj wr w.heap.size (w.heap.size+2) 0 (.int .u64 (ab (s|||t) 0)) (by omega)).trans hz)
   have d:=aJ ((fj wr w.heap.size (w.heap.size+1) 0 (.int .u64 (ab (s|||t) 0)) (by omega)).trans f)
   have e:=aJ (j.setCell (p:=⟨w.heap.size,0,none⟩) (bM _) (.int .u64 (ab (s|||t) 0)))
   clear a hz j f;go_wp2_with fail;go_region;go_wp2_with fail;rw[m.out 0];go_roundw
   case rel=>exact⟨⟨e.out.drew,c.out,bY (bX ⟨rfl,b.out⟩)⟩,d.out⟩
   case measure=>simp[intOf]
  ·obtain⟨_,c1,c2,_,_,f1,f2,_⟩:=dX a;obtain⟨_,_,_,_,_,_,_,_⟩:=an f;have b:=aJ (fa a (ab (s|||t) 1)).2.1;have c:=aJ ((fj wr w.heap.size (w.heap.size+2) 1 (.int .u64 (ab (s|||t) 1)) (by omega)).trans hz)
   have d:=aJ ((fj wr w.heap.size (w.heap.size+1) 1 (.int .u64 (ab (s|||t) 1)) (by omega)).trans f)
   have e:=aJ (j.setCell (p:=⟨w.heap.size,1,none⟩) (bM _) (.int .u64 (ab (s|||t) 1)))
   clear a hz j f;go_wp2_with fail;go_region;go_wp2_with fail;rw[m.out 1];go_roundw
   case rel=>exact⟨⟨e.out.drew,c.out,bY (bY (bX ⟨rfl,b.out⟩))⟩,d.out⟩
   case measure=>simp[intOf]
  ·obtain⟨_,c1,c2,_,_,f1,f2,_⟩:=dX a;obtain⟨_,_,_,_,_,_,_,_⟩:=an f;have b:=aJ (fa a (ab (s|||t) 2)).2.2.1;have c:=aJ ((fj wr w.heap.size (w.heap.size+2) 2 (.int .u64 (ab (s|||t) 2)) (by omega)).trans hz)
   have d:=aJ ((fj wr w.heap.size (w.heap.size+1) 2 (.int .u64 (ab (s|||t) 2)) (by omega)).trans f)
   have e:=aJ (j.setCell (p:=⟨w.heap.size,2,none⟩) (bM _) (.int .u64 (ab (s|||t) 2)))
   clear a hz j f;go_wp2_with fail;go_region;go_wp2_with fail;rw[m.out 2];go_roundw
   case rel=>exact⟨⟨e.out.drew,c.out,bY (bY (bY (bX ⟨rfl,b.out⟩)))⟩,d.out⟩
   case measure=>simp[intOf]
  ·obtain⟨_,c1,c2,_,_,f1,f2,_⟩:=dX a;obtain⟨_,_,_,_,_,_,_,_⟩:=an f;have b:=aJ (fa a (ab (s|||t) 3)).2.2.2;have c:=aJ ((fj wr w.heap.size (w.heap.size+2) 3 (.int .u64 (ab (s|||t) 3)) (by omega)).trans hz)
   have d:=aJ ((fj wr w.heap.size (w.heap.size+1) 3 (.int .u64 (ab (s|||t) 3)) (by omega)).trans f)
   have e:=aJ (j.setCell (p:=⟨w.heap.size,3,none⟩) (bM _) (.int .u64 (ab (s|||t) 3)))
   clear a hz j f;go_wp2_with fail;go_region;go_wp2_with fail;rw[m.out 3];go_roundw
   case rel=>exact⟨⟨e.out.drew,c.out,bY (bY (bY (bY (⟨rfl,b.out⟩))))⟩,d.out⟩
   case measure=>simp[intOf]
  ·obtain⟨_,c1,c2,_,_,f1,f2,_⟩:=dX a;obtain⟨C,D,E,F,_,_,_,_⟩:=an hz;clear a hz j f;go_wp2_with fail;refine aP (v:=cG (s|||t)) (by simp[results,Tryz.results266,go_sem,C,D,E,F,cG]) rfl ⟨rfl,?_⟩
   exact((((B.out.setCell (p:=⟨w.heap.size+2,0,none⟩) (by simp) _).setCell (p:=⟨w.heap.size+2,1,none⟩) (by simp) _).setCell (p:=⟨w.heap.size+2,2,none⟩) (by simp) _).setCell (p:=⟨w.heap.size+2,3,none⟩) (by simp) _)
theorem Own.kept_ {w w':World} {base size n:Nat} {e:TypeId} {v:Value} {xs:List Value} (a:Own w base e size v n xs) {g:Nat} (c:w.grownBy w' (some g)) {cs:Array Value} {t:TypeId} {fz:Nat×Nat} (h1:w.heap[g]? =some (.cells cs t fz)) (hne:e≠t):Own w' base e size v n xs:=by
 refine bT a c ?_;rcases a with⟨_,⟨rfl,_⟩|⟨f,cap,d,rfl,_,b,_⟩⟩
 ·exact bX rfl
 ·refine bY ?_;intro hk;simp[Value.ownBlock] at hk;subst hk;rw[b] at h1;simp at h1;exact hne h1.2.1
theorem tp {w:World} {g:Nat} {s:BSet} (h:w.heap[g]? =some (eh s)) {x q:Nat} (hx:x<256) (a:x/64=q):(w.setCell ⟨g,q,none⟩ (.int .u64 (bits BinOp.or IntKind.u64 ((ab s q:Nat):Int) (IntKind.u64.wrap (2^(x%64)))))).heap[g]? =some (eh (cO s x)):=by
 have b:q=0∨q=1∨q=2∨q=3:=by omega
 rw[xH,aO w g q _ _ _ h];unfold eh;rw[iD s x 0,iD s x 1,iD s x 2,iD s x 3];rcases b with rfl|rfl|rfl|rfl
 ·rw[if_pos a.symm,if_neg (by omega),if_neg (by omega),if_neg (by omega)];rfl
 ·rw[if_neg (by omega),if_pos a.symm,if_neg (by omega),if_neg (by omega)];rfl
 ·rw[if_neg (by omega),if_neg (by omega),if_pos a.symm,if_neg (by omega)];rfl
 ·rw[if_neg (by omega),if_neg (by omega),if_neg (by omega),if_pos a.symm];rfl
def zE (w:World) (lo a:Nat) (ix:Value) (wr:World):Prop:=∃k:Nat,ix= .int .i64 ((lo+k:Nat):Int)∧k≤a+1-lo∧Hid (wr.heap[w.heap.size]? =some (eh 0))∧Hid (wr.heap[w.heap.size+1]? =some (eh (fY lo k)))∧Hid (Old w wr)
theorem rB (lo a:Nat) (O:lo<256) (N:a<256) (w:World):Calls Tryz.prog 259 #[.int .u8 lo,.int .u8 a] w (iA (cG (dz lo a)) w):=by
 have hz:=cy
 have y:Old w ((w.alloc (.cells #[.int .u64 0,.int .u64 0,.int .u64 0,.int .u64 0] 211)).alloc (.cells #[.int .u64 0,.int .u64 0,.int .u64 0,.int .u64 0] 211)):=((Old.refl w).alloc _).alloc _
 have d:((w.alloc (.cells #[.int .u64 0,.int .u64 0,.int .u64 0,.int .u64 0] 211)).alloc (.cells #[.int .u64 0,.int .u64 0,.int .u64 0,.int .u64 0] 211)).heap[w.heap.size+1]? =some (eh 0):=by
  rw[show w.heap.size+1=(w.alloc (.cells #[.int .u64 0,.int .u64 0,.int .u64 0,.int .u64 0] 211)).heap.size by simp]
  exact aM _ _
 have c:((w.alloc (.cells #[.int .u64 0,.int .u64 0,.int .u64 0,.int .u64 0] 211)).alloc (.cells #[.int .u64 0,.int .u64 0,.int .u64 0,.int .u64 0] 211)).heap[w.heap.size]? =some (eh 0):=
  ((Old.refl _).alloc _).block (aM w _)
 have C:=aJ y
 have h:=aJ c
 have i:=aJ d
 have z:Hid (dz lo a=fY lo (a+1-lo)):=aJ rfl
 have a0:(0:Int)≤(lo:Int):=by omega
 have a1:(lo:Int)<256:=by omega
 have a2:(0:Int)≤(a:Int):=by omega
 have a3:(a:Int)<256:=by omega
 clear y c d hz;go_enter Tryz.func259,Tryz.ntmps259;go_wp2_with fail;go_loopw [6] (fun ix wr=>zE w lo a ix wr) (fun ix _=>300-(intOf ix).toNat)
 case atStart=>exact⟨0,rfl,bO _,h,i,C⟩
 case round=>
  obtain⟨k,rfl,hk,s,u,t⟩:=hrel;obtain⟨x,hx⟩:∃x,lo+k=x:=⟨_,rfl⟩
  rw[hx];have M:=aJ hx;obtain⟨_,c1,c2,_,_,f1,f2,_⟩:=an u.out
  by_cases H:x≤a
  ·have e:(x:Int)≤(a:Int):=by omega
   have S:(0:Int)≤x:=by omega
   have T:(x:Int)≤255:=by omega
   have f:fY lo (k+1)=cO (fY lo k) x:=by rw[oV,hx]
   have B:=aJ f
   have o:k+1≤a+1-lo:=by omega
   have A:Hid (Value.int .i64 ((x:Int)+1)= .int .i64 ((lo+(k+1):Nat):Int)):=aJ (by rw[←hx];push_cast;rw[Int.add_assoc])
   have I:Int.tdiv (x:Int) 64=((x/64:Nat):Int):=by rw[Int.tdiv_eq_ediv_of_nonneg (by omega)];omega
   have K:Int.tmod (x:Int) 64=((x%64:Nat):Int):=by rw[Int.tmod_eq_emod_of_nonneg (by omega)];omega
   have J:(x:Int)/64=((x/64:Nat):Int):=by omega
   have L:(x:Int)%64=((x%64:Nat):Int):=by omega
   clear hx f;have b:x/64=0∨x/64=1∨x/64=2∨x/64=3:=by omega
   have l:Hid (∀q,x/64=q→(wr.setCell ⟨w.heap.size+1,q,none⟩ (.int .u64 (bits BinOp.or IntKind.u64 ((ab (fY lo k) q:Nat):Int) (IntKind.u64.wrap (2^(x%64)))))).drew.heap[w.heap.size+1]? =some (eh (cO (fY lo k) x))):=aJ (fun q b=>tp u.out (by omega) b)
   have g:Hid (∀q v,(wr.setCell ⟨w.heap.size+1,q,none⟩ v).drew.heap[w.heap.size]? =some (eh 0)):=aJ (fun q v=>(aL wr ⟨w.heap.size+1,q,none⟩ w.heap.size v (by simp)).trans s.out)
   have j:Hid (∀q v,Old w (wr.setCell ⟨w.heap.size+1,q,none⟩ v).drew):=aJ (fun q v=>(t.out.setCell (p:=⟨w.heap.size+1,q,none⟩) (by simp) v).drew)
   have w0:IntKind.i64.wrap 0=0:=by decide
   have Q:IntKind.i64.wrap 1=1:=by decide
   have w2:IntKind.i64.wrap 2=2:=by decide
   have R:IntKind.i64.wrap 3=3:=by decide
   have r:=aJ b
   obtain⟨m,hm⟩:∃m,x%64=m:=⟨_,rfl⟩
   rw[hm] at K L l;have P:(0:Int)≤(m:Int):=by omega
   have m1:(m:Int)<64:=by omega
   have wm:IntKind.i64.wrap (m:Int)=(m:Int):=bV _ (by omega)
   clear hm;rcases b with b|b|b|b
   all_goals
    rw[b] at I J;have n:=aJ (l.out _ b);clear b l r;go_wp2_with fail;go_region;go_wp2_with fail;go_roundw
    case rel=>exact⟨k+1,A.out,o,aJ (g.out _ _),aJ (by rw[B.out];exact n.out),aJ (j.out _ _)⟩
    case measure=>simp[intOf];omega
  ·have e:¬(x:Int)≤(a:Int):=by omega
   obtain rfl:k=a+1-lo:=by omega
   obtain⟨D,E,F,G,_,_,_,_⟩:=an s.out;go_wp2_with fail;rw[z.out];refine aP (v:=cG (fY lo (a+1-lo))) (by simp[results,Tryz.results259,go_sem,D,E,F,G,cG]) rfl ⟨rfl,?_⟩
   exact((((t.out.setCell (p:=⟨w.heap.size,0,none⟩) (bM _) _).setCell (p:=⟨w.heap.size,1,none⟩) (bM _) _).setCell (p:=⟨w.heap.size,2,none⟩) (bM _) _).setCell (p:=⟨w.heap.size,3,none⟩) (bM _) _)
def sw (ops:Array Oper) (j n:Nat):Bool:=((ops[j]?).map fun o=>o.after.any fun e=>Region.binds .any e&&e.on==n).getD false
def Ck (ops:Array Oper):List Nat→List Nat→Bool
 |_,[]=>true
 |acc,n::r=>(acc.any fun j=>sw ops j n)&&Ck ops (n::acc) r
def tC (ops:Array Oper):List Nat→List Nat→Bool
 |_,[]=>true
 |acc,n::r=>(acc.any fun j=>sw ops n j)&&tC ops (n::acc) r
def qc (ops:Array Oper):Nat→List (List Nat×List Nat)→Bool
 |_,[]=>true
 |i,p::r=>Ck ops [i] p.1&&tC ops [i] p.2&&qc ops (i+1) r
def FxF (L:Array Bool):List Nat→Prop
 |[]=>True
 |n::F=>L.getD n false=false∧FxF L F
def FxR (L:Array Bool):List Nat→List Nat→Prop
 |[],F=>FxF L F
 |n::T,F=>L.getD n false=true∧FxR L T F
theorem mX {ops:Array Oper} {j n:Nat} (h:sw ops j n=true):∃o,ops[j]? =some o∧∃e∈o.after,Region.binds .any e=true∧e.on=n:=by
 unfold sw at h;rcases a:ops[j]? with _|o
 ·rw[a] at h;simp at h
 ·rw[a] at h;simp only[Option.map_some,Option.getD_some] at h;rw[Array.any_eq_true'] at h;obtain⟨e,b,h⟩:=h;simp only[Bool.and_eq_true,beq_iff_eq] at h;exact⟨o,rfl,e,b,h.1,h.2⟩
theorem FxF.mk {L:Array Bool}:∀(F:List Nat),(∀n∈F,L.getD n false=false)→FxF L F
 |[],_=>trivial
 |n::F,h2=>⟨h2 n (by simp),FxF.mk F (fun m hm=>h2 m (by simp[hm]))⟩
theorem FxR.mk {L:Array Bool}:∀(T F:List Nat),(∀n∈T,L.getD n false=true)→(∀n∈F,L.getD n false=false)→FxR L T F
 |[],F,_,h2=>FxF.mk F h2
 |n::T,F,h1,h2=>⟨h1 n (by simp),FxR.mk T F (fun m hm=>h1 m (by simp[hm])) h2⟩
theorem rT {ops:Array Oper} {L:Array Bool} (c:gY ops L) {i:Nat} {o:Oper} (k:ops[i]? =some o) (b:∀e∈o.after,Region.binds .any e=true→L.getD e.on false=true):
  ∀(T acc:List Nat),(∀j∈acc,j=i∨L.getD j false=true)→Ck ops acc T=true→∀n∈T,L.getD n false=true
 |[],_,_,_=>by simp
 |n::T,acc,ha,h=>by
  unfold Ck at h;rw[Bool.and_eq_true,List.any_eq_true] at h;obtain⟨⟨j,hj,l⟩,h⟩:=h;obtain⟨q,a,e,d,g,hn⟩:=mX l;have f:L.getD n false=true:=by
   rcases ha j hj with rfl|p
   ·rw[k] at a;injection a with a
    subst a;rw[←hn];exact b e d g
   ·rw[←hn];exact c j q a p e d g
  intro m hm;rcases List.mem_cons.1 hm with rfl|hm
  ·exact f
  ·exact rT c k b T (n::acc) (fun x hx=>(List.mem_cons.1 hx).elim (fun e=>bY (e▸f)) (ha x)) h m hm
theorem pm {ops:Array Oper} {L:Array Bool} (a:gY ops L):
  ∀(F acc:List Nat),(∀j∈acc,L.getD j false=false)→tC ops acc F=true→∀n∈F,L.getD n false=false
 |[],_,_,_=>by simp
 |n::F,acc,ha,h=>by
  unfold tC at h;rw[Bool.and_eq_true,List.any_eq_true] at h;obtain⟨⟨j,hj,i⟩,h⟩:=h;obtain⟨on,d,e,b,g,c⟩:=mX i;have f:L.getD n false=false:=by
   rcases hx:L.getD n false with _|_
   ·rfl
   ·have:=a n on d hx e b g
    rw[c,ha j hj] at this;exact this.symm
  intro m hm;rcases List.mem_cons.1 hm with rfl|hm
  ·exact f
  ·exact pm a F (n::acc) (fun x hx=>(List.mem_cons.1 hx).elim (fun e=>e▸f) (ha x)) h m hm
theorem rx {ops:Array Oper}:∀(a:List (List Nat×List Nat)) (k:Nat),qc ops k a=true→∀i p,a[i]? =some p→Ck ops [k+i] p.1=true∧tC ops [k+i] p.2=true
 |[],_,_,i,p,h=>by simp at h
 |q::r,k,h,0,p,b=>by
  simp at b;subst b
  unfold qc at h;rw[Bool.and_eq_true,Bool.and_eq_true] at h;exact h.1
 |q::r,k,h,i+1,p,b=>by
  unfold qc at h;rw[Bool.and_eq_true,Bool.and_eq_true] at h;have:=rx r (k+1) h.2 i p (by simpa using b)
  rw[show k+(i+1)=k+1+i by omega]
  exact this
def ma (P:Program) (ops:Array Oper) (Q:Exit→Act→World→Prop) (I:Array Bool→Act→World→Prop) (b:List (List Nat×List Nat)) (i:Nat) (o:Oper):Prop:=
 ∀(L:Array Bool) (a:Act) (w:World) (K:Act→World→Prop),I L a w→FxR L (b.getD i ([],[])).1 (i::(b.getD i ([],[])).2)→(∀a' w',I (L.setIfInBounds i true) a' w'→K a' w')→
   if Region.wanted o (yielded ops a.tmps)=true then o.wp P a w K Q else K (a.put o.dst aR) w
theorem oG {P:Program} {ops:Array Oper} {Q:Exit→Act→World→Prop} {I:Array Bool→Act→World→Prop} {b:List (List Nat×List Nat)} (d:qc ops 0 b=true):
  ∀(os:List Oper) (k:Nat),(∀i o,os[i]? =some o→ops[k+i]? =some o)→Steps2 (ma P ops Q I b) k os→Steps2 (pR P ops Q I) k os
 |[],_,_,_=>trivial
 |o::os,k,m,h=>by
  refine⟨?_,oG d os (k+1) (fun i x u=>by rw[show k+1+i=k+(i+1) by omega];exact m (i+1) x (by simpa using u)) h.2⟩
  intro L a w K _ f q c s t;have r:=m 0 o rfl;rw[Nat.add_zero] at r;refine h.1 L a w K s ?_ t;have hk:Ck ops [k] (b.getD k ([],[])).1=true∧tC ops [k] (b.getD k ([],[])).2=true:=by
   rcases l:b[k]? with _|p
   ·rw[bD,l];exact⟨rfl,rfl⟩
   ·have:=rx b 0 d k p l
    rw[Nat.zero_add] at this;rw[bD,l];exact this
  have g:=pm f _ [k] (fun j hj=>by rw[List.mem_singleton.1 hj];exact q) hk.2
  exact FxR.mk _ _ (rT f r c _ [k] (fun j hj=>bX (List.mem_singleton.1 hj)) hk.1) (fun n hn=>(List.mem_cons.1 hn).elim (fun e=>e▸q) (g n))
theorem ah {P:Program} {ops:Array Oper} {Q:Exit→Act→World→Prop} {id:Nat} {a:Act} {w:World} (d:List (List Nat×List Nat)) (I:Array Bool→Act→World→Prop)
  (g:I (Array.replicate ops.size false) a {w with drawn:=w.drawn+1})
  (b:∀a w,I (Array.replicate ops.size true) a w→Q .normal a w)
  (c:Steps2 (ma P ops Q I d) 0 ops.toList) (hm:P.follows .mixedOrders=true:=by kernel_rfl) (f:fL ops=true:=by kernel_rfl) (e:qc ops 0 d=true:=by kernel_rfl):
  (Code.region id ops true).wp P Q a w:=
 jJ hm f I g b (oG e ops.toList 0 (fun i o h=>by rw[Nat.zero_add];simpa using h) c)
theorem fN {P:Program} {ops:Array Oper} {Q:Exit→Act→World→Prop} {U:Type} {id:Nat} {a:Act} {w:World} (d:List (List Nat×List Nat)) (I:U→Array Bool→Act→World→Prop)
  (g:∃u,I u (Array.replicate ops.size false) a {w with drawn:=w.drawn+1})
  (b:∀u a w,I u (Array.replicate ops.size true) a w→Q .normal a w)
  (c:∀u,Steps2 (ma P ops Q (I u) d) 0 ops.toList) (hm:P.follows .mixedOrders=true:=by kernel_rfl) (f:fL ops=true:=by kernel_rfl) (e:qc ops 0 d=true:=by kernel_rfl):
  (Code.region id ops true).wp P Q a w:=by
 obtain⟨u,h⟩:=g;exact ah d (I u) h (b u) (c u) hm f e
section
variable {P : Program} {ops : Array Oper} {o : Oper} {a : Act} {K : Act → World → Prop} {Q : Exit → Act → World → Prop} {E : Prop}
theorem eG (w:World) (r:o.guard=none) (s x:Operand) (t:TypeId)
  (I:o.op= .call {callee:= .builtin .append,args:=#[s,x],argTypes:=#[t,t]})
  (base:Nat) (e:TypeId) (z:Value) (size bytes:Nat) (J:P.underlying t=some (.slice e))
  (G:(P.info? e).map (fun i=>(i.zero,i.size,i.bytes))=some (some z,size,bytes)) (C:z.cells.size=size) (hsz:0<size) (q:bytes≤1024)
  (v:Value) (n:Nat) (xs:List Value) (hs:a.eval s=v) (l:Own w base e size v n xs)
  (b off m c:Nat) (d:List Value) (hx:a.eval x= .slice (some ⟨b,off,none⟩) m c) (A:Rs w (some ⟨b,off,none⟩) d) (H:d.length=m*size) (h1:d.all Value.oneCell'=true)
  (hn:n+m≤68719476736) (f:base≤w.heap.size)
  (h:∀v' w',Own w' base e size v' (n+m) (xs++d)→w.grownBy w' v.ownBlock→(v'.ownBlock=v.ownBlock∨∃j,v'.ownBlock=some j∧w.heap.size≤j)→K (a.put o.dst v') w'):
  if Region.wanted o (yielded ops a.tmps)=true then Oper.wp P o a w K Q else E:=by
 have L:Region.wanted o (yielded ops a.tmps)=true:=by simp[Region.wanted,r]
 rw[if_pos L];obtain⟨i,y,hz,g,p⟩:=info_parts G;have F:(n+m)*bytes≤68719476736*1024:=Nat.mul_le_mul hn q;obtain⟨v',w',A,h2,D,_,k⟩:=run_append_own_at (P:=P) w base t o.type e i z size bytes J y hz g p C hsz v n xs l ⟨b,off,none⟩ m c d H (fun j u B=>by rw[Addr.add_lit];exact A.cellAt B) (fun u B=>List.all_eq_true.1 h1 u B)
  (by unfold maxLen;omega) (by omega) f
 unfold Oper.wp;simp only[execOp,I,resolve,invoke,builtin,Sem.run_bind,Sem.run_pure,Result.andThen_ok,List.map_toArray,List.map_cons,List.map_nil,hs,hx,A];refine h v' w' h2 D ?_;rcases k with k|k
 ·exact bX k
 ·exact bY ⟨_,k,bM _⟩
theorem jN (w:World) (q:o.guard=none) (s x:Operand) (t:TypeId)
  (J:o.op= .call {callee:= .builtin .append,args:=#[s,x],argTypes:=#[t,t]})
  (base:Nat) (e:TypeId) (z:Value) (size bytes:Nat) (L:P.underlying t=some (.slice e))
  (I:(P.info? e).map (fun i=>(i.zero,i.size,i.bytes))=some (some z,size,bytes)) (F:z.cells.size=size) (hsz:0<size) (C:bytes≤1024)
  (v:Value) (n:Nat) (xs:List Value) (hs:a.eval s=v) (f:Own w base e size v n xs)
  (A:Option Addr) (m c:Nat) (d:List Value) (hx:a.eval x= .slice A m c) (H:Rs w A d) (G:d.length=m*size) (h1:d.all Value.oneCell'=true)
  (hn:n+m≤68719476736) (g:base≤w.heap.size)
  (h:∀v' w',Own w' base e size v' (n+m) (xs++d)→w.grownBy w' v.ownBlock→(v'.ownBlock=v.ownBlock∨∃j,v'.ownBlock=some j∧w.heap.size≤j)→K (a.put o.dst v') w'):
  if Region.wanted o (yielded ops a.tmps)=true then Oper.wp P o a w K Q else E:=by
 cases A with
 |some ad=>
  obtain⟨b,off,p⟩:=ad;rcases H with rfl|⟨U,R,O,hc⟩
  ·obtain rfl:m=0:=by
    rcases Nat.eq_zero_or_pos m with l|l
    ·exact l
    ·have:=Nat.mul_pos l hsz;simp at G;omega
   obtain⟨i,r,hz,k,B⟩:=info_parts I;have T:(n+0)*bytes≤68719476736*1024:=Nat.mul_le_mul hn C;have N:Region.wanted o (yielded ops a.tmps)=true:=by simp[Region.wanted,q]
   rw[if_pos N];obtain⟨v',w',H,h2,S,_,y⟩:=run_append_own_at (P:=P) w base t o.type e i z size bytes L r hz k B F hsz v n xs f ⟨b,off,p⟩ 0 c [] G (fun j u M=>by simp at M) (fun u M=>by simp at M)
    (by unfold maxLen;omega) (by omega) g
   unfold Oper.wp;simp only[execOp,J,resolve,invoke,builtin,Sem.run_bind,Sem.run_pure,Result.andThen_ok,List.map_toArray,List.map_cons,List.map_nil,hs,hx,H];refine h v' w' h2 S ?_;rcases y with y|y
   ·exact bX y
   ·exact bY ⟨_,y,bM _⟩
  ·simp only[Option.some.injEq,Addr.mk.injEq] at O;obtain⟨rfl,rfl,rfl⟩:=O;exact eG w q s x t J base e z size bytes L I F hsz C v n xs hs f b off m c d hx (bY ⟨b,off,rfl,hc⟩) G h1 hn g h
 |none=>
  obtain rfl:=H.nil_iff;obtain rfl:m=0:=by
   rcases Nat.eq_zero_or_pos m with l|l
   ·exact l
   ·have:=Nat.mul_pos l hsz;simp at G;omega
  obtain⟨i,r,hz,k,B⟩:=info_parts I;have N:Region.wanted o (yielded ops a.tmps)=true:=by simp[Region.wanted,q]
  rw[if_pos N];have D:=dn (P:=P) (w:=w) base t o.type e i size L r v n xs f c;unfold Oper.wp;simp only[execOp,J,resolve,invoke,builtin,Sem.run_bind,Sem.run_pure,Result.andThen_ok,List.map_toArray,List.map_cons,List.map_nil,hs,hx,D];exact h v w (by simpa using f) (World.grownBy.refl _ _) (bX rfl)
end
theorem iG {w:World} {B:Nat} {e:TypeId} {s:Nat} {v:Value} {n:Nat} {xs:List Value} (h:Own w B e s v n xs) {k:Nat} (hk:k<B):some k≠v.ownBlock:=by
 intro e;have:=(bU h k e.symm).1;omega
def Cv (s:ByteArray) (a d:Nat) (lv:Value):Obj:= .cells #[.string s,.int .i64 a,.int .i64 d,lv] 202 (0,0)
structure RP (w0 w:World) (B g:Nat) (s:ByteArray) (a d:Nat) (lv:Value) (N:List Nd):Prop where
 old:Old w0 w
 blk:w.heap[g]? =some (Cv s a d lv)
 own:Own w B 276 7 lv N.length (cI N)
 bg:w0.heap.size≤g
 lg:g<B
 lB:B≤w.heap.size
theorem RP.up {w0 w w':World} {B g:Nat} {s:ByteArray} {a d:Nat} {lv:Value} {N:List Nd} (h:RP w0 w B g s a d lv N) (b:Old w w'):RP w0 w' B g s a d lv N:=
 ⟨h.old.up b,b.block h.blk,h.own.up b,h.bg,h.lg,bN h.lB b.size⟩
theorem RP.drewN {w0 w:World} {B g:Nat} {s:ByteArray} {a d:Nat} {lv:Value} {N:List Nd} (h:RP w0 w B g s a d lv N) (n:Nat):RP w0 (w.drewN n) B g s a d lv N:=h.up ((Old.refl w).drewN n)
theorem ny (w:World) (g i:Nat) (v:Value):w.grownBy (w.setCell ⟨g,i,none⟩ v) (some g):=⟨rfl,rfl,rfl,by simp,fun k _ hk=>aL w ⟨g,i,none⟩ k _ (fun e=>hk (by simp[e]))⟩
theorem RP.at_ {w0 w:World} {B g:Nat} {s:ByteArray} {a d:Nat} {lv:Value} {N:List Nd} (h:RP w0 w B g s a d lv N) (a':Nat):RP w0 (w.setCell ⟨g,1,none⟩ (.int .i64 (a':Int))) B g s a' d lv N:=
 ⟨h.old.setCell h.bg _,aO w g 1 _ _ _ h.blk,bT h.own (ny w g 1 _) (bY (fun e=>iG h.own h.lg e.symm)),h.bg,h.lg,by simpa using h.lB⟩
theorem RP.open_ {w0 w:World} {B g:Nat} {s:ByteArray} {a d:Nat} {lv:Value} {N:List Nd} (h:RP w0 w B g s a d lv N) (b:Nat):RP w0 (w.setCell ⟨g,2,none⟩ (.int .i64 (b:Int))) B g s a b lv N:=
 ⟨h.old.setCell h.bg _,aO w g 2 _ _ _ h.blk,bT h.own (ny w g 2 _) (bY (fun e=>iG h.own h.lg e.symm)),h.bg,h.lg,by simpa using h.lB⟩
theorem RP.cells {w0 w:World} {B g:Nat} {s:ByteArray} {a d:Nat} {lv:Value} {N:List Nd} (h:RP w0 w B g s a d lv N):
  w.cell? ⟨g,0,none⟩=some (.string s)∧w.cell? ⟨g,1,none⟩=some (.int .i64 a)∧w.cell? ⟨g,2,none⟩=some (.int .i64 d)∧w.cell? ⟨g,3,none⟩=some lv∧w.frozen? ⟨g,1,none⟩=false∧w.frozen? ⟨g,2,none⟩=false∧w.frozen? ⟨g,3,none⟩=false:=
 ⟨by rw[aK w g 0 _ _ _ h.blk];rfl,by rw[aK w g 1 _ _ _ h.blk];rfl,by rw[aK w g 2 _ _ _ h.blk];rfl,by rw[aK w g 3 _ _ _ h.blk];rfl,aN w g 1 _ _ h.blk,aN w g 2 _ _ h.blk,aN w g 3 _ _ h.blk⟩
theorem gP (w0:World) (B g:Nat) (s:ByteArray) (a d:Nat) (lv:Value) (N:List Nd) (w:World) (h:RP w0 w B g s a d lv N) (hs:s.size≤9223372036854775807):
  Calls Tryz.prog 104 #[.pointer (some ⟨g,0,none⟩)] w (Ay (decide (a=s.size)) w):=by
 obtain⟨_,c1,c2,b,_,_,_⟩:=h.cells;have e:decide (a=s.size)=(((a:Nat):Int)==(s.size:Int)):=by rw[Bool.eq_iff_iff,decide_eq_true_iff,beq_iff_eq];omega
 rw[e];clear e c2 b h;go_enter Tryz.func104,Tryz.ntmps104;go_wp2_with fail;go_quiet (fail);go_wp2_with fail;go_ret;exact⟨rfl,_,rfl⟩
structure AF (w0:World) (B g ko:Nat) (s:ByteArray) (a d:Nat) (lv v12:Value) (N:List Nd) (x:Nd) (b6 b7 b10:Bool) (W ww:World):Prop where
 base:b7=false→RP w0 ww B g s a d lv N∧Old W ww
 row:b6=true→b7=false→ww.heap[ko]? =some (.cells (ao x).toArray 276 (0,0))
 app:b7=true→b10=false→w0.heap.size≤g∧g<B∧B≤ww.heap.size∧Old w0 ww∧ww.heap[g]? =some (Cv s a d lv)∧Own ww B 276 7 v12 (N.length+1) (cI (N++[x]))
 fin:b10=true→RP w0 ww B g s a d v12 (N++[x])
theorem AF.mk6 {w0:World} {B g ko:Nat} {s:ByteArray} {a d:Nat} {lv v12:Value} {N:List Nd} {x:Nd} {W ww:World} (h:AF w0 B g ko s a d lv v12 N x false false false W ww):
  AF w0 B g ww.heap.size s a d lv v12 N x true false false W (ww.alloc (.cells (ao x).toArray 276)):=
 ⟨fun _=>⟨(h.base rfl).1.up ((Old.refl ww).alloc _),(h.base rfl).2.alloc _⟩,fun _ _=>aM _ _,fun e=>(by cases e),fun e=>(by cases e)⟩
theorem AF.mk7 {w0:World} {B g ko:Nat} {s:ByteArray} {a d:Nat} {lv v12:Value} {N:List Nd} {x:Nd} {W ww w':World} {v':Value} (h:AF w0 B g ko s a d lv v12 N x true false false W ww)
  (f:Own w' B 276 7 v' (N.length+1) (cI N++ao x)) (c:ww.grownBy w' lv.ownBlock):AF w0 B g ko s a d lv v' N x true true false W w':=by
 have b:=(h.base rfl).1
 refine⟨fun e=>(by cases e),fun _ e=>(by cases e),fun _ _=>⟨b.bg,b.lg,bN b.lB c.size,Own.grown_old b.old b.own (bN b.bg (Nat.le_of_lt b.lg)) c,(c.block g (aQ b.blk) (iG b.own b.lg)).trans b.blk,?_⟩,fun e=>(by cases e)⟩
 rw[vu];have:cI [x]=ao x:=by simp[cI]
 rw[this];exact f
theorem AF.mk10 {w0:World} {B g ko:Nat} {s:ByteArray} {a d:Nat} {lv v12:Value} {N:List Nd} {x:Nd} {b6:Bool} {W ww:World} (h:AF w0 B g ko s a d lv v12 N x b6 true false W ww):AF w0 B g ko s a d lv v12 N x b6 true true W (ww.setCell ⟨g,3,none⟩ v12):=by
 obtain⟨h1,h2,c,f,i,b⟩:=h.app rfl rfl;have j:(N++[x]).length=N.length+1:=by simp
 refine⟨fun e=>(by cases e),fun _ e=>(by cases e),fun _ e=>(by cases e),fun _=>⟨f.setCell h1 _,aO ww g 3 _ _ _ i,?_,h1,h2,by simpa using c⟩⟩
 rw[j];exact bT b (ny ww g 3 _) (bY (fun e=>iG b h2 e.symm))
def ADI (w0 W:World) (B g k5:Nat) (s:ByteArray) (a d:Nat) (lv:Value) (N:List Nd) (x:Nd) (b:Array Bool) (h:Act) (ww:World):Prop:=
 ∃(c b1 b2 b3 b4 e b6 b7 f b9 b10:Bool) (ko:Nat) (v12:Value),b=#[c,b1,b2,b3,b4,e,b6,b7,f,b9,b10]∧
  h={tmps:=#[.pointer (some ⟨g,0,none⟩),.agg #[.int .i64 x.kind,.int .i64 x.left,.int .i64 x.right,.int .u64 (ab x.set 0),.int .u64 (ab x.set 1),.int .u64 (ab x.set 2),.int .u64 (ab x.set 3)],aR,.pointer (some ⟨k5,0,none⟩),.int .i64 0,cond c (.pointer (some ⟨g,0,none⟩)) (aR),cond b1 (.pointer (some ⟨g,0,none⟩)) (aR),cond b2 (.pointer (some ⟨g,0,none⟩)) (aR),cond b3 (.pointer (some ⟨g,3,none⟩)) (aR),cond b4 (lv) (aR),cond e (.agg #[.int .i64 x.kind,.int .i64 x.left,.int .i64 x.right,.int .u64 (ab x.set 0),.int .u64 (ab x.set 1),.int .u64 (ab x.set 2),.int .u64 (ab x.set 3)]) (aR),cond b6 (.slice (some ⟨ko,0,none⟩) 1 1) (aR),cond b7 (v12) (aR),cond f (.pointer (some ⟨g,0,none⟩)) (aR),cond b9 (.pointer (some ⟨g,3,none⟩)) (aR),aR,aR,aR,aR,aR,aR],defers:=[]}∧AF w0 B g ko s a d lv v12 N x b6 b7 b10 W ww
def ot (w0:World) (B g:Nat) (s:ByteArray) (a d:Nat) (N:List Nd) (x:Nd) (e:Ending) (w':World):Prop:=e= .returned (.int .i64 (N.length:Int))∧∃lv',RP w0 w' B g s a d lv' (N++[x])
def Dq (x:Nd):Value:= .agg #[.int .i64 x.kind,.int .i64 x.left,.int .i64 x.right,.int .u64 (ab x.set 0),.int .u64 (ab x.set 1),.int .u64 (ab x.set 2),.int .u64 (ab x.set 3)]
theorem CR (w0:World) (B g:Nat) (s:ByteArray) (a d:Nat) (lv:Value) (N:List Nd) (w:World) (h:RP w0 w B g s a d lv N) (hn:N.length≤100000) (x:Nd):
  Calls Tryz.prog 165 #[.pointer (some ⟨g,0,none⟩),Dq x] w (ot w0 B g s a d N x):=by
 unfold Dq;obtain⟨k,lf,rt,st⟩:=x;obtain⟨r,t,rfl,A,_,_⟩:=h.own.shape;have F:=aM w (.cells #[.int .i64 k,.int .i64 lf,.int .i64 rt,.int .u64 (ab st 0),.int .u64 (ab st 1),.int .u64 (ab st 2),.int .u64 (ab st 3)] 276);have y:=(Old.refl w).alloc (.cells #[.int .i64 k,.int .i64 lf,.int .i64 rt,.int .u64 (ab st 0),.int .u64 (ab st 1),.int .u64 (ab st 2),.int .u64 (ab st 3)] 276);have G:=aJ (h.up y);have z:=aJ F;simp only;clear h A y F;go_enter Tryz.func165,Tryz.ntmps165;go_upto_region 1 with fail
 generalize Q:w.alloc (.cells #[.int .i64 k,.int .i64 lf,.int .i64 rt,.int .u64 (ab st 0),.int .u64 (ab st 1),.int .u64 (ab st 2),.int .u64 (ab st 3)] 276)=W at *;have m:AF w0 B g 0 s a d (.slice r N.length t) aR N ⟨k,lf,rt,st⟩ false false false W W.drew:=⟨fun _=>⟨G.out.up (Old.refl W).drew,(Old.refl W).drew⟩,(fun e=>by cases e),(fun e=>by cases e),(fun e=>by cases e)⟩
 generalize J:w.heap.size=k5 at *;refine ah [([],[8,9,10]),([],[2,8,9,10,3,4,7]),([1],[3,8,9,10,4,7]),([2,1],[4,8,9,10,7]),([3,2,1],[7,8,9,10]),([],[6,8,9,10,7]),([5],[7,8,9,10]),([4,6,3,5,2,1],[8,9,10]),([0,1,2,3,4,5,6,7],[9,10]),([8,0,1,2,3,4,5,6,7],[10]),([9,7,0,1,2,3,4,5,6,8],[])] (ADI w0 W B g k5 s a d (.slice r N.length t) N ⟨k,lf,rt,st⟩) ?_ ?_ ⟨?_,?_,?_,?_,?_,?_,?_,?_,?_,?_,?_,trivial⟩
 ·exact⟨false,false,false,false,false,false,false,false,false,false,false,0,aR,rfl,rfl,m⟩
 ·rintro _ b ⟨_,b1,b2,b3,b4,_,b6,b7,_,b9,b10,ko,v12,n,rfl,f⟩;have o:=congrArg Array.toList n;simp at o;obtain⟨rfl,rfl,rfl,rfl,rfl,rfl,rfl,rfl,rfl,rfl,rfl⟩:=o;clear n;have l:=aJ (f.fin rfl);clear f m;obtain⟨C,D,rfl,_,_,_⟩:=l.out.own.shape;obtain⟨_,_,_,H,_,_,_⟩:=l.out.cells;have n:(N++[(⟨k,lf,rt,st⟩:Nd)]).length=N.length+1:=by simp
  rw[n] at H;clear n;go_wp2_with fail;go_ret;exact⟨rfl,_,l.out⟩
 rotate_left 4
 ·rintro _ _ b K ⟨_,b1,b2,b3,b4,_,b6,b7,_,b9,b10,ko,v12,rfl,h2,f⟩ h i
  repeat obtain⟨rfl,h⟩:=h
  subst h2;have M:=(f.base rfl).1.cells.2.2.2.1;go_simp;apply i;iterate 11 apply bW
  exact⟨ko,v12,rfl,rfl,f⟩
 ·rintro _ _ b K ⟨_,b1,b2,b3,b4,_,b6,b7,_,b9,b10,ko,v12,rfl,h2,f⟩ h i
  repeat obtain⟨rfl,h⟩:=h
  subst h2;have c:=(f.base rfl).2.block z.out;have R:b.cell? ⟨k5,0,none⟩=some (.int .i64 k):=by rw[aK b _ 0 _ _ _ c];rfl
  have M:b.cell? ⟨k5,1,none⟩=some (.int .i64 lf):=by rw[aK b _ 1 _ _ _ c];rfl
  have S:b.cell? ⟨k5,2,none⟩=some (.int .i64 rt):=by rw[aK b _ 2 _ _ _ c];rfl
  have T:b.cell? ⟨k5,3,none⟩=some (.int .u64 (ab st 0)):=by rw[aK b _ 3 _ _ _ c];rfl
  have U:b.cell? ⟨k5,4,none⟩=some (.int .u64 (ab st 1)):=by rw[aK b _ 4 _ _ _ c];rfl
  have V:b.cell? ⟨k5,5,none⟩=some (.int .u64 (ab st 2)):=by rw[aK b _ 5 _ _ _ c];rfl
  have X:b.cell? ⟨k5,6,none⟩=some (.int .u64 (ab st 3)):=by rw[aK b _ 6 _ _ _ c];rfl
  clear c;go_simp;apply i;iterate 11 apply bW
  exact⟨ko,v12,rfl,rfl,f⟩
 ·rintro _ _ b K ⟨_,b1,b2,b3,b4,_,b6,b7,_,b9,b10,ko,v12,rfl,h2,f⟩ h i
  repeat obtain⟨rfl,h⟩:=h
  subst h2;go_simp;apply i;iterate 11 apply bW
  exact⟨b.heap.size,v12,rfl,rfl,f.mk6⟩
 ·rintro _ _ b K ⟨_,b1,b2,b3,b4,_,b6,b7,_,b9,b10,ko,v12,rfl,h2,f⟩ h i
  repeat obtain⟨rfl,h⟩:=h
  subst h2;have E:=(f.base rfl).1;have q:=f.row rfl rfl;refine jN b (by rfl) _ _ 129 (by rfl) B 276 (.agg #[.int .i64 0,.int .i64 0,.int .i64 0,.int .u64 0,.int .u64 0,.int .u64 0,.int .u64 0]) 7 56 Tryz.underlying129 yP rfl (by decide) (by decide) (.slice r N.length t) N.length (cI N) (by rfl) E.own (some ⟨ko,0,none⟩) 1 1 (ao ⟨k,lf,rt,st⟩) (by rfl) (bY ⟨ko,0,rfl,fun j u L=>by rw[Nat.zero_add,aK b ko j _ _ _ q,List.getElem?_toArray];exact L⟩) rfl rfl (by omega) E.lB ?_
  intro v' w' y I _;apply i;iterate 11 apply bW
  exact⟨ko,v',rfl,rfl,f.mk7 y I⟩
 rotate_left 2
 ·rintro _ _ b K ⟨_,b1,b2,b3,b4,_,b6,b7,_,b9,b10,ko,v12,rfl,h2,f⟩ h i
  repeat obtain⟨rfl,h⟩:=h
  subst h2;obtain⟨_,_,_,_,c,p⟩:=f.app rfl rfl;obtain⟨C,D,rfl,_,_,_⟩:=p.shape;have P:b.frozen? ⟨g,3,none⟩=false:=aN b g 3 _ _ c;have O:b.cell? ⟨g,3,none⟩=some (.slice r N.length t):=by rw[aK b g 3 _ _ _ c];rfl
  clear c p;go_simp;exact i _ _ ⟨true,true,true,true,true,true,true,true,true,true,true,ko,.slice C (N.length+1) D,rfl,rfl,f.mk10⟩
 all_goals
  rintro _ _ b K ⟨_,b1,b2,b3,b4,_,b6,b7,_,b9,b10,ko,v12,rfl,h2,f⟩ h i
  repeat obtain⟨rfl,h⟩:=h
  subst h2;go_simp;apply i;iterate 11 apply bW
  exact⟨ko,v12,rfl,rfl,f⟩
theorem tv:∀b:Fin 256,eD (cO 0 b.val)=b.val:=by decide+kernel
theorem gI (b:Nat):dz b b=cO 0 b:=by
 unfold dz;rw[show b+1-b=1 by omega]
 rfl
structure RK (w0 wb w:World) (B g:Nat) (s:ByteArray) (a d:Nat) (lv:Value) (N:List Nd) (k:Nat) (z:BSet):Prop where
 rp:RP w0 w B g s a d lv N
 ng:k≠g
 nl:some k≠lv.ownBlock
 k0:w0.heap.size≤k
 blk:w.heap[k]? =some (eh z)
 kb:wb.heap.size≤k
 kp:∀j,j<wb.heap.size→j≠g→w.heap[j]? =wb.heap[j]?
 sz:wb.heap.size≤w.heap.size
theorem RK.start {w0 w:World} {B g:Nat} {s:ByteArray} {a d:Nat} {lv:Value} {N:List Nd} (h:RP w0 w B g s a d lv N):RK w0 w (w.alloc (.cells #[.int .u64 0,.int .u64 0,.int .u64 0,.int .u64 0] 211)) B g s a d lv N w.heap.size 0:=
 ⟨h.up ((Old.refl w).alloc _),fun e=>absurd (aQ h.blk) (by omega),fun e=>absurd (bU h.own _ e.symm).2 (by omega),h.old.size,aM w _,bM _,fun j hj _=>((Old.refl w).alloc _).out.block j hj,by simp⟩
theorem RK.up {w0 wb w w':World} {B g:Nat} {s:ByteArray} {a d:Nat} {lv:Value} {N:List Nd} {k:Nat} {z:BSet} (h:RK w0 wb w B g s a d lv N k z) (b:Old w w'):RK w0 wb w' B g s a d lv N k z:=
 ⟨h.rp.up b,h.ng,h.nl,h.k0,b.block h.blk,h.kb,fun j hj c=>(b.out.block j (Nat.lt_of_lt_of_le hj h.sz)).trans (h.kp j hj c),bN h.sz b.size⟩
theorem RK.at_ {w0 wb w:World} {B g:Nat} {s:ByteArray} {a d:Nat} {lv:Value} {N:List Nd} {k:Nat} {z:BSet} (h:RK w0 wb w B g s a d lv N k z) (a':Nat):RK w0 wb (w.setCell ⟨g,1,none⟩ (.int .i64 (a':Int))) B g s a' d lv N k z:=
 ⟨h.rp.at_ a',h.ng,h.nl,h.k0,(aL w ⟨g,1,none⟩ k _ h.ng).trans h.blk,h.kb,fun j hj b=>(aL w ⟨g,1,none⟩ j _ b).trans (h.kp j hj b),by simpa using h.sz⟩
theorem RK.plus {w0 wb w:World} {B g:Nat} {s:ByteArray} {a d:Nat} {lv:Value} {N:List Nd} {k:Nat} {z:BSet} (h:RK w0 wb w B g s a d lv N k z) (m:Nat):RK w0 wb (w.setCell ⟨g,1,none⟩ (.int .i64 ((a:Int)+(m:Int)))) B g s (a+m) d lv N k z:=by
 have:=h.at_ (a+m)
 rw[show((a+m:Nat):Int)=(a:Int)+(m:Int) by omega] at this
 exact this
theorem RP.far {w0 w:World} {B g:Nat} {s:ByteArray} {a d:Nat} {lv:Value} {N:List Nd} (h:RP w0 w B g s a d lv N) {k:Nat} (ng:k≠g) (nl:some k≠lv.ownBlock) (k0:w0.heap.size≤k) (i:Nat) (v:Value):RP w0 (w.setCell ⟨k,i,none⟩ v) B g s a d lv N:=
 ⟨h.old.setCell k0 _,(aL w ⟨k,i,none⟩ g _ (Ne.symm ng)).trans h.blk,bT h.own (ny w k i v) (bY (fun e=>nl e.symm)),h.bg,h.lg,by simpa using h.lB⟩
theorem RK.put {w0 wb w:World} {B g:Nat} {s:ByteArray} {a d:Nat} {lv:Value} {N:List Nd} {k:Nat} {z:BSet} (h:RK w0 wb w B g s a d lv N k z) (t:BSet):
  RK w0 wb ((((w.setCell ⟨k,0,none⟩ (.int .u64 (ab t 0))).setCell ⟨k,1,none⟩ (.int .u64 (ab t 1))).setCell ⟨k,2,none⟩ (.int .u64 (ab t 2))).setCell ⟨k,3,none⟩ (.int .u64 (ab t 3))) B g s a d lv N k t:=
 ⟨(((h.rp.far h.ng h.nl h.k0 0 _).far h.ng h.nl h.k0 1 _).far h.ng h.nl h.k0 2 _).far h.ng h.nl h.k0 3 _,h.ng,h.nl,h.k0,lu h.blk t,h.kb,
  fun j hj b=>(iW w k j _ _ _ _ (fun e=>by have:=h.kb;omega)).trans (h.kp j hj b),by simpa using h.sz⟩
def yr (z:BSet) (one:Bool):Int:=if one=true then(eD z:Int) else-1
structure SPost (w0 wb:World) (B g:Nat) (s:ByteArray) (d:Nat) (lv:Value) (N:List Nd) (r:(BSet×Bool)×Ps) (e:Ending) (w':World):Prop where
 ok:r.2.e=0→e= .returned (.tuple #[.int .i64 (yr r.1.1 r.1.2),cG r.1.1,.int .i64 0])∧RP w0 w' B g s r.2.at_ d lv N∧wb.heap.size≤w'.heap.size∧∀j,j<wb.heap.size→j≠g→w'.heap[j]? =wb.heap[j]?
 no:r.2.e≠0→∃v z,e= .returned (.tuple #[.int .i64 v,cG z,.int .i64 r.2.e])∧Old w0 w'∧wb.heap.size≤w'.heap.size∧∀j,j<wb.heap.size→j≠g→w'.heap[j]? =wb.heap[j]?
theorem RK.fin {w0 wb w:World} {B g:Nat} {s:ByteArray} {a d:Nat} {lv:Value} {N:List Nd} {k:Nat} {z:BSet} (h:RK w0 wb w B g s a d lv N k z):RP w0 w B g s a d lv N∧wb.heap.size≤w.heap.size∧∀j,j<wb.heap.size→j≠g→w.heap[j]? =wb.heap[j]?:=⟨h.rp,h.sz,h.kp⟩
theorem RK.call {w0 wb w w':World} {B g:Nat} {s:ByteArray} {a a' d:Nat} {lv:Value} {N:List Nd} {k:Nat} {z:BSet} (h:RK w0 wb w B g s a d lv N k z) (b:RP w0 w' B g s a' d lv N∧w.heap.size≤w'.heap.size∧∀j,j<w.heap.size→j≠g→w'.heap[j]? =w.heap[j]?):RK w0 wb w' B g s a' d lv N k z:=
 ⟨b.1,h.ng,h.nl,h.k0,(b.2.2 k (aQ h.blk) h.ng).trans h.blk,h.kb,fun j hj c=>(b.2.2 j (Nat.lt_of_lt_of_le hj h.sz) c).trans (h.kp j hj c),bN h.sz b.2.1⟩
def NoB (s:ByteArray):Prop:=∀i,i<s.size→(bs s).getD i 0≠92
theorem NoB.of {s:ByteArray} (h:((bs s).all fun x=>x !=92)=true):NoB s:=fun i b e=>by
 have a:i<(bs s).length:=by rw[af];exact b
 rw[bD,bE a] at e;have:=List.all_eq_true.mp h _ (bH a);simp at this;exact this e
theorem ld {B:List Nat} {p:Ps} (h:B.getD p.at_ 0≠92) (a:(aC B p).2.e=0):(aC B p).1.2=true:=by
 unfold aC iO at a ⊢;rw[if_neg h] at a ⊢;split at a
 ·exact absurd a (by unfold ay fc;split<;>simp_all)
 ·rename_i h2
  rw[if_neg h2]
theorem rE (w0:World) (B g:Nat) (s:ByteArray) (a d:Nat) (lv:Value) (N:List Nd) (w:World) (h:RP w0 w B g s a d lv N) (hs:s.size≤1000000) (ha:a<s.size) (dp:Nat) (G:NoB s) (l:(aC (bs s) ⟨a,dp,0⟩).2.e=0):
  Calls Tryz.prog 269 #[.pointer (some ⟨g,0,none⟩)] w (SPost w0 w B g s d lv N (aC (bs s) ⟨a,dp,0⟩)):=by
 have c:=aJ (RK.start h)
 have A:Hid (s[a].toNat≠92):=aJ (by rw[←dP s a ha];exact G a ha)
 have O:(0:Int)≤(a:Int):=by omega
 have P:(a:Int)<(s.size:Int):=by omega
 have o:Hid (aC (bs s) ⟨a,dp,0⟩=if s[a].toNat=92 then mr (bs s) ⟨a+1,dp,0⟩ else if s[a].toNat=94∨s[a].toNat=45∨s[a].toNat=93 then((0,false),⟨a+1,dp,80⟩) else((cO 0 s[a].toNat,true),⟨a+1,dp,0⟩)):=aJ (by
  unfold aC iO;rw[show(bs s).getD (⟨a,dp,0⟩:Ps).at_ 0=s[a].toNat from dP s a ha]
  rfl)
 obtain⟨R,H⟩:∃R,aC (bs s) ⟨a,dp,0⟩=R:=⟨_,rfl⟩
 rw[H] at l ⊢;have j:=aJ l;have i:=aJ (H.symm.trans o.out);have I:s[a].toNat<256:=s[a].toNat_lt;have L:=aJ h;clear o H h l;go_enter Tryz.func269,Tryz.ntmps269;go_upto_region 1 with fail
 generalize w.alloc (.cells #[.int .u64 0,.int .u64 0,.int .u64 0,.int .u64 0] 211)=W1 at *;generalize w.heap.size=k3 at *;obtain⟨D,c1,c2,E,f1,f2,F⟩:=c.out.rp.cells;obtain⟨u,x,y,z,p,q,r,t⟩:=an c.out.blk;clear c2 E f2 F;go_wp2_with fail;go_quiet (fail);have f:=aJ (c.out.up ((Old.refl _).drewN nq));generalize W1.drewN nq=W2 at *;clear c;have c:=aJ f.out;clear f;clear D c1 u x y z p q r t f1;generalize s[a].toNat=b at *;have M:(0:Int)≤(b:Int):=by omega
 have b1:(b:Int)<256:=by omega
 have k:b=93∨b=94∨b=45∨b=92∨(b≠93∧b≠94∧b≠45∧b≠92):=by omega
 rcases k with rfl|rfl|rfl|rfl|⟨n1,n2,n3,n4⟩
 ·exact absurd (i.out▸j.out) (by show¬(80:Int)=0;decide)
 ·exact absurd (i.out▸j.out) (by show¬(80:Int)=0;decide)
 ·exact absurd (i.out▸j.out) (by show¬(80:Int)=0;decide)
 ·exact absurd rfl A.out
 ·have Q:((b:Int)==93)=false:=by simp;omega
  have S:((b:Int)==94)=false:=by simp;omega
  have T:((b:Int)==45)=false:=by simp;omega
  have U:((b:Int)==92)=false:=by simp;omega
  have o:Hid (R=((cO 0 b,true),⟨a+1,dp,0⟩)):=aJ (by rw[i.out,if_neg n4,if_neg (by omega)])
  have C:=aJ (rB b b I I)
  have K:Hid (dz b b=cO 0 b∧eD (dz b b)=b):=aJ ⟨gI b,by rw[gI];exact tv ⟨b,I⟩⟩
  clear n1 n2 n3 n4;obtain⟨D,c1,c2,E,f1,f2,F⟩:=c.out.rp.cells;obtain⟨u,x,y,z,p,q,r,t⟩:=an c.out.blk;clear c2 E f2 F;clear u x y z p q r t D;have m:=aJ (c.out.plus 1);clear c;go_upto_region 10 with fail
  have c:Hid (RK w0 w (W2.setCell ⟨g,1,none⟩ (.int .i64 ((a:Int)+1))) B g s (a+1) d lv N k3 0):=aJ m.out
  clear m c1 f1;generalize W2.setCell ⟨g,1,none⟩ (.int .i64 ((a:Int)+1))=W4 at *;go_wp2_with fail;refine(C.out _).mono ?_;rintro e _ ⟨rfl,n⟩;have f:=aJ (c.out.up n);clear c n;have c:=aJ f.out;clear f;generalize dz b b=zz at *;obtain⟨u,x,y,z,p,q,r,t⟩:=an c.out.blk;have J:=aJ (c.out.put zz);obtain⟨v0,v1,v2,v3,_,_,_,_⟩:=an J.out.blk
  try unfold cG
  go_wp2_with fail;refine aP (v:= .tuple #[.int .i64 (b:Int),cG zz,.int .i64 0]) (by simp[results,Tryz.results269,go_sem,v0,v1,v2,v3,cG]) rfl ?_
  rw[o.out,←K.out.1];exact⟨fun _=>⟨by unfold yr;simp[K.out.2],J.out.fin⟩,fun e=>absurd rfl e⟩
structure ElPost (w0 wb:World) (B g:Nat) (s:ByteArray) (d:Nat) (lv:Value) (N:List Nd) (R:BSet×Ps) (e:Ending) (w':World):Prop where
 ok:R.2.e=0→e= .returned (.tuple #[cG R.1,.int .i64 0])∧RP w0 w' B g s R.2.at_ d lv N∧wb.heap.size≤w'.heap.size∧∀j,j<wb.heap.size→j≠g→w'.heap[j]? =wb.heap[j]?
theorem wC (w0:World) (B g:Nat) (s:ByteArray) (a d:Nat) (lv:Value) (N:List Nd) (w:World) (h:RP w0 w B g s a d lv N) (hs:s.size≤1000000) (ha:a<s.size) (dp:Nat) (P:NoB s) (t:(eB (bs s) ⟨a,dp,0⟩).2.e=0):
  Calls Tryz.prog 265 #[.pointer (some ⟨g,0,none⟩)] w (ElPost w0 w B g s d lv N (eB (bs s) ⟨a,dp,0⟩)):=by
 have S:(aC (bs s) ⟨a,dp,0⟩).2.e=0:=by
  by_cases h1:(aC (bs s) ⟨a,dp,0⟩).2.e=0
  ·exact h1
  ·unfold eB at t;simp only at t;rw[if_neg (fun h=>h1 ((aw _ _).1 h.1).1)] at t
   exact absurd t h1
 have am:=aJ (ld (p:=⟨a,dp,0⟩) (P a ha) S)
 have ap:=aJ S
 have c:=aJ (RK.start h)
 obtain⟨R,hR⟩:∃R,eB (bs s) ⟨a,dp,0⟩=R:=⟨_,rfl⟩
 rw[hR] at t ⊢;have Y:=aJ t;have A:Hid (R=eB (bs s) ⟨a,dp,0⟩):=aJ hR.symm;unfold eB at A;have aj:=aJ (iV (bs s) ⟨a,dp,0⟩ (by rw[af];exact ha))
 clear hR h t;go_enter Tryz.func265,Tryz.ntmps265;go_upto_region 1 with fail
 generalize w.alloc (.cells #[.int .u64 0,.int .u64 0,.int .u64 0,.int .u64 0] 211)=W1 at *;generalize w.heap.size=k2 at *;have HS:=aJ (rE w0 B g s a d lv N W1 c.out.rp hs ha dp P S);clear S;generalize aC (bs s) ⟨a,dp,0⟩=R1 at *;obtain⟨⟨b,one⟩,⟨a1,o,e1⟩⟩:=R1;obtain rfl:e1=0:=ap.out;obtain rfl:one=true:=am.out
 ·have C:=aJ (HS.out.mono fun e w' h=>h.ok rfl)
  clear HS;go_wp2_with fail;refine(C.out).mono ?_;rintro e W2 ⟨rfl,hr⟩;have y:=aJ (c.out.call hr);clear hr c C;have c:=aJ y.out;clear y;unfold cG;go_upto_region 2 with fail
  have D:=aM W2 (.cells #[.int .u64 (ab b 0),.int .u64 (ab b 1),.int .u64 (ab b 2),.int .u64 (ab b 3)] 211)
  have z:=aJ (c.out.up ((Old.refl W2).alloc (.cells #[.int .u64 (ab b 0),.int .u64 (ab b 1),.int .u64 (ab b 2),.int .u64 (ab b 3)] 211)))
  generalize W2.alloc (.cells #[.int .u64 (ab b 0),.int .u64 (ab b 1),.int .u64 (ab b 2),.int .u64 (ab b 3)] 211)=W3 at *;have q:Hid (W3.heap[W2.heap.size]? =some (eh b)):=aJ D;clear c D;have c:=aJ z.out;clear z;have ag:a1≤s.size:=by have:=aj.out.1;rwa [af] at this
  have j:=fun n=>gP w0 B g s a1 d lv N (W3.drewN n) (c.out.rp.drewN n) (by omega)
  have ad:Hid (eF (bs s) ⟨a1,o,0⟩=decide (a1<s.size)):=aJ (by unfold eF;rw[af];rfl)
  ·have ao:Hid (yr b true=(eD b:Int)):=aJ rfl
   have hf:=jS b
   rw[ao.out];have ak:Hid (eD b=eD b):=aJ rfl;obtain⟨f,u⟩:∃f,eD b=f:=⟨_,rfl⟩
   rw[u] at hf ⊢;have al:=aJ u;have g1:decide ((f:Int)<0)=false:=decide_eq_false (by omega)
   have g2:(0:Int)≤(f:Int):=by omega
   have g3:(f:Int)<256:=by omega
   clear u ak
   by_cases l:a1=s.size
   ·have m:Hid (R=(b,⟨a1,o,0⟩)):=aJ (by
     rw[A.out];try simp only
     rw[if_neg (fun h=>by have:=of_decide_eq_true (ad.out.symm.trans h.1);omega)])
    rw[decide_eq_true l] at j;have r:=aJ j;clear j l ag;obtain⟨c0,c1,c2,c3,f1,f2,f3⟩:=c.out.rp.cells;obtain⟨I,J,K,L,E,F,G,H⟩:=an c.out.blk;clear c2 c3 f2 f3;clear I J K L E F G H f1;go_wp2_with fail;go_quiet ((go_at_call 104;exact Calls.quiet_of (r.out _)));clear c0 c1 r;have k:=aJ (c.out.up ((Old.refl _).drewN nq));have x:Hid ((W3.drewN nq).heap[W2.heap.size]? =some (eh b)):=aJ q.out;generalize W3.drewN nq=W4 at *;clear c q;have c:=aJ k.out;clear k;obtain⟨x0,x1,x2,x3,_,_,_,_⟩:=an x.out;obtain⟨I,J,K,L,E,F,G,H⟩:=an c.out.blk;have V:=aJ (c.out.put b);obtain⟨v0,v1,v2,v3,_,_,_,_⟩:=an V.out.blk
    try unfold cG
    go_wp2_with fail;refine aP (v:= .tuple #[cG b,.int .i64 0]) (by simp[results,Tryz.results265,go_sem,v0,v1,v2,v3,cG]) rfl ?_
    rw[m.out];exact⟨fun _=>⟨rfl,V.out.fin⟩⟩
   have ah:a1<s.size:=by omega
   have Q:(bs s).getD a1 0=s[a1].toNat:=dP s a1 ah
   have i3:(0:Int)≤(a1:Int):=by omega
   have i4:(a1:Int)<(s.size:Int):=by omega
   rw[decide_eq_false l] at j;have r:=aJ j;clear j l ag
   by_cases O:s[a1].toNat=45
   ·have hq:(((s[a1].toNat:Nat):Int) !=45)=false:=by simp;omega
    have aa:Hid (eF (bs s) ⟨a1,o,0⟩=true∧iO (bs s) ⟨a1,o,0⟩=45):=aJ ⟨by rw[ad.out];exact decide_eq_true ah,Q.trans O⟩
    have Z:=aJ A.out
    clear Q O;obtain⟨c0,c1,c2,c3,f1,f2,f3⟩:=c.out.rp.cells;obtain⟨I,J,K,L,E,F,G,H⟩:=an c.out.blk;clear c2 c3 f2 f3;clear I J K L E F G H f1;go_wp2_with fail;go_quiet ((go_at_call 104;exact Calls.quiet_of (r.out _)));clear c0 c1 r;have k:=aJ (c.out.up ((Old.refl _).drewN nq));have x:Hid ((W3.drewN nq).heap[W2.heap.size]? =some (eh b)):=aJ q.out;generalize W3.drewN nq=W4 at *;clear c q;have c:=aJ k.out;clear k;obtain⟨x0,x1,x2,x3,_,_,_,_⟩:=an x.out;clear hq;obtain⟨c0,c1,c2,c3,f1,f2,f3⟩:=c.out.rp.cells;obtain⟨I,J,K,L,E,F,G,H⟩:=an c.out.blk;clear c2 c3 f2 f3;clear I J K L E F G H c0;have ac:=aJ (c.out.plus 1);clear c x0 x1 x2 x3;go_upto_region 5 with fail
    have c:Hid (RK w0 w (W4.setCell ⟨g,1,none⟩ (.int .i64 ((a1:Int)+1))) B g s (a1+1) d lv N k2 0):=aJ ac.out
    clear ac c1 f1 x;generalize W4.setCell ⟨g,1,none⟩ (.int .i64 ((a1:Int)+1))=W5 at *;have j:=gP w0 B g s (a1+1) d lv N W5 c.out.rp (by omega)
    by_cases l:a1+1=s.size
    ·have m:Hid (R.2.e=80):=aJ (by
      rw[Z.out];try simp only
      rw[if_pos aa.out,if_pos (bY (by rw[af];show s.size≤a1+1;omega))]
      rfl)
     exact absurd (m.out.symm.trans Y.out) (by decide)
    ·have W:a1+1<s.size:=by omega
     rw[decide_eq_false l] at j;have U:=aJ j;clear j;go_wp2_with fail;refine(U.out).mono ?_;rintro e W6 ⟨rfl,n6,rfl⟩;have k:=aJ (c.out.up ((Old.refl W5).drewN n6));generalize W5.drewN n6=W6 at *;clear c U;have c:=aJ k.out;clear k;have M:Hid (R=(dz (eD b) (eD (aC (bs s) ⟨a1+1,o,0⟩).1.1),if(aC (bs s) ⟨a1+1,o,0⟩).2.e=0∧((aC (bs s) ⟨a1+1,o,0⟩).1.2=false∨eD (aC (bs s) ⟨a1+1,o,0⟩).1.1<eD b) then ay (aC (bs s) ⟨a1+1,o,0⟩).2 80 else(aC (bs s) ⟨a1+1,o,0⟩).2)):=aJ (by
      rw[Z.out];try simp only
      rw[if_pos aa.out,if_neg (fun h=>h.elim (fun h=>absurd h (by decide)) (fun h=>by rw[af] at h;exact absurd (show s.size≤a1+1 from h) (by omega)))]
      rfl)
     rw[al.out] at M;have T:(aC (bs s) ⟨a1+1,o,0⟩).2.e=0:=by
      by_cases h1:(aC (bs s) ⟨a1+1,o,0⟩).2.e=0
      ·exact h1
      ·have h2:=Y.out
       rw[M.out] at h2;simp only at h2;rw[if_neg (fun h=>h1 h.1)] at h2
       exact absurd h2 h1
     have X:=ld (p:=⟨a1+1,o,0⟩) (P (a1+1) W) T
     have HS:=aJ (rE w0 B g s (a1+1) d lv N W6 c.out.rp hs W o P T)
     have aq:=aJ (And.intro T X)
     clear T X;clear l Z A;generalize aC (bs s) ⟨a1+1,o,0⟩=R3 at *;obtain⟨⟨i,two⟩,⟨a2,d2,e2⟩⟩:=R3;obtain⟨au,ax⟩:=aq.out;obtain rfl:e2=0:=au;obtain rfl:two=true:=ax
     ·have C:=aJ (HS.out.mono fun e w' h=>h.ok rfl)
      clear HS;go_wp2_with fail;refine(C.out).mono ?_;rintro e W7 ⟨rfl,hr⟩;have y:=aJ (c.out.call hr);clear hr c C;have c:=aJ y.out;clear y;unfold cG;go_upto_region 8 with fail
      have D:=aM W7 (.cells #[.int .u64 (ab i 0),.int .u64 (ab i 1),.int .u64 (ab i 2),.int .u64 (ab i 3)] 211)
      have z:=aJ (c.out.up ((Old.refl W7).alloc (.cells #[.int .u64 (ab i 0),.int .u64 (ab i 1),.int .u64 (ab i 2),.int .u64 (ab i 3)] 211)))
      generalize W7.alloc (.cells #[.int .u64 (ab i 0),.int .u64 (ab i 1),.int .u64 (ab i 2),.int .u64 (ab i 3)] 211)=W8 at *;have q:Hid (W8.heap[W7.heap.size]? =some (eh i)):=aJ D;clear c D;have c:=aJ z.out;clear z
      ·have ae:Hid (yr i true=(eD i:Int)):=aJ rfl
       rw[ae.out];have av:=jS i;generalize eD i=f2 at *;have g5:(0:Int)≤(f2:Int):=by omega
       have g6:(f2:Int)<256:=by omega
       by_cases u:f2<f
       ·have m:Hid (R.2.e=80):=aJ (by rw[M.out];(try simp only);rw[if_pos ⟨by first|rfl|trivial,bY u⟩];rfl)
        exact absurd (m.out.symm.trans Y.out) (by decide)
       ·have m:Hid (R=(dz f f2,⟨a2,d2,0⟩)):=aJ (by rw[M.out];(try simp only);rw[if_neg (fun h=>h.2.elim (fun h=>absurd h (by decide)) u)])
        have t1:¬(f2:Int)<(f:Int):=by omega
        have u1:IntKind.u8.wrap (f:Int)=(f:Int):=IntWalk.u8_in _ (by omega)
        have u2:IntKind.u8.wrap (f2:Int)=(f2:Int):=IntWalk.u8_in _ (by omega)
        have ar:=aJ (rB f f2 hf av)
        clear u;go_wp2_with fail;refine(ar.out _).mono ?_;rintro e _ ⟨rfl,ai⟩;have k:=aJ (c.out.up ai);clear c ai;have c:=aJ k.out;clear k u1 u2;generalize dz f f2=zz at *;obtain⟨I,J,K,L,E,F,G,H⟩:=an c.out.blk;have V:=aJ (c.out.put zz);obtain⟨v0,v1,v2,v3,_,_,_,_⟩:=an V.out.blk
        try unfold cG
        go_wp2_with fail;refine aP (v:= .tuple #[cG zz,.int .i64 0]) (by simp[results,Tryz.results265,go_sem,v0,v1,v2,v3,cG]) rfl ?_
        rw[m.out];exact⟨fun _=>⟨rfl,V.out.fin⟩⟩
   ·have hq:(((s[a1].toNat:Nat):Int) !=45)=true:=by simp;omega
    have m:Hid (R=(b,⟨a1,o,0⟩)):=aJ (by
     rw[A.out];try simp only
     rw[if_neg (fun h=>O (Q.symm.trans h.2))])
    clear Q O;obtain⟨c0,c1,c2,c3,f1,f2,f3⟩:=c.out.rp.cells;obtain⟨I,J,K,L,E,F,G,H⟩:=an c.out.blk;clear c2 c3 f2 f3;clear I J K L E F G H f1;go_wp2_with fail;go_quiet ((go_at_call 104;exact Calls.quiet_of (r.out _)));clear c0 c1 r;have k:=aJ (c.out.up ((Old.refl _).drewN nq));have x:Hid ((W3.drewN nq).heap[W2.heap.size]? =some (eh b)):=aJ q.out;generalize W3.drewN nq=W4 at *;clear c q;have c:=aJ k.out;clear k;obtain⟨x0,x1,x2,x3,_,_,_,_⟩:=an x.out;obtain⟨I,J,K,L,E,F,G,H⟩:=an c.out.blk;have V:=aJ (c.out.put b);obtain⟨v0,v1,v2,v3,_,_,_,_⟩:=an V.out.blk
    try unfold cG
    go_wp2_with fail;refine aP (v:= .tuple #[cG b,.int .i64 0]) (by simp[results,Tryz.results265,go_sem,v0,v1,v2,v3,cG]) rfl ?_
    rw[m.out];exact⟨fun _=>⟨rfl,V.out.fin⟩⟩
structure R2 (w0 wb w:World) (B g:Nat) (s:ByteArray) (a d:Nat) (lv:Value) (N:List Nd) (k k4:Nat) (z:BSet):Prop where
 rk:RK w0 wb w B g s a d lv N k 0
 n4:k4≠g
 nk:k4≠k
 l4:some k4≠lv.ownBlock
 w4:w0.heap.size≤k4
 b4:wb.heap.size≤k4
 blk4:w.heap[k4]? =some (eh z)
theorem R2.start {w0 w:World} {B g:Nat} {s:ByteArray} {a d:Nat} {lv:Value} {N:List Nd} (h:RP w0 w B g s a d lv N):R2 w0 w ((w.alloc (.cells #[.int .u64 0,.int .u64 0,.int .u64 0,.int .u64 0] 211)).alloc (.cells #[.int .u64 0,.int .u64 0,.int .u64 0,.int .u64 0] 211)) B g s a d lv N w.heap.size (w.heap.size+1) 0:=by
 have h1:=RK.start h
 have e:(w.alloc (.cells #[.int .u64 0,.int .u64 0,.int .u64 0,.int .u64 0] 211)).heap.size=w.heap.size+1:=by simp
 refine⟨h1.up ((Old.refl _).alloc _),fun b=>absurd (aQ h.blk) (by omega),by omega,fun b=>absurd (bU h.own _ b.symm).2 (by omega),by have:=h.old.size;omega,by omega,?_⟩
 rw[←e];exact aM _ _
theorem R2.up {w0 wb w w':World} {B g:Nat} {s:ByteArray} {a d:Nat} {lv:Value} {N:List Nd} {k k4:Nat} {z:BSet} (h:R2 w0 wb w B g s a d lv N k k4 z) (b:Old w w'):R2 w0 wb w' B g s a d lv N k k4 z:=⟨h.rk.up b,h.n4,h.nk,h.l4,h.w4,h.b4,b.block h.blk4⟩
theorem R2.plus {w0 wb w:World} {B g:Nat} {s:ByteArray} {a d:Nat} {lv:Value} {N:List Nd} {k k4:Nat} {z:BSet} (h:R2 w0 wb w B g s a d lv N k k4 z) (m:Nat):R2 w0 wb (w.setCell ⟨g,1,none⟩ (.int .i64 ((a:Int)+(m:Int)))) B g s (a+m) d lv N k k4 z:=
 ⟨h.rk.plus m,h.n4,h.nk,h.l4,h.w4,h.b4,(aL w ⟨g,1,none⟩ k4 _ h.n4).trans h.blk4⟩
theorem R2.call {w0 wb w w':World} {B g:Nat} {s:ByteArray} {a a' d:Nat} {lv:Value} {N:List Nd} {k k4:Nat} {z:BSet} (h:R2 w0 wb w B g s a d lv N k k4 z) (b:RP w0 w' B g s a' d lv N∧w.heap.size≤w'.heap.size∧∀j,j<w.heap.size→j≠g→w'.heap[j]? =w.heap[j]?):R2 w0 wb w' B g s a' d lv N k k4 z:=
 ⟨h.rk.call b,h.n4,h.nk,h.l4,h.w4,h.b4,(b.2.2 k4 (aQ h.blk4) h.n4).trans h.blk4⟩
theorem R2.put {w0 wb w:World} {B g:Nat} {s:ByteArray} {a d:Nat} {lv:Value} {N:List Nd} {k k4:Nat} {z:BSet} (h:R2 w0 wb w B g s a d lv N k k4 z) (t:BSet):
  R2 w0 wb ((((w.setCell ⟨k4,0,none⟩ (.int .u64 (ab t 0))).setCell ⟨k4,1,none⟩ (.int .u64 (ab t 1))).setCell ⟨k4,2,none⟩ (.int .u64 (ab t 2))).setCell ⟨k4,3,none⟩ (.int .u64 (ab t 3))) B g s a d lv N k k4 t:=
 ⟨⟨(((h.rk.rp.far h.n4 h.l4 h.w4 0 _).far h.n4 h.l4 h.w4 1 _).far h.n4 h.l4 h.w4 2 _).far h.n4 h.l4 h.w4 3 _,h.rk.ng,h.rk.nl,h.rk.k0,(iW w k4 k _ _ _ _ (Ne.symm h.nk)).trans h.rk.blk,h.rk.kb,
  fun j hj b=>(iW w k4 j _ _ _ _ (fun e=>by have:=h.b4;omega)).trans (h.rk.kp j hj b),by simpa using h.rk.sz⟩,h.n4,h.nk,h.l4,h.w4,h.b4,lu h.blk4 t⟩
structure CPost2 (w0 wb:World) (B g:Nat) (s:ByteArray) (d:Nat) (lv:Value) (N:List Nd) (R:BSet×Ps) (e:Ending) (w':World):Prop where
 ok:R.2.e=0→e= .returned (.tuple #[cG R.1,.int .i64 0])∧RP w0 w' B g s R.2.at_ d lv N∧wb.heap.size≤w'.heap.size∧∀j,j<wb.heap.size→j≠g→w'.heap[j]? =wb.heap[j]?
theorem ms {B:List Nat} {a:Bool} {f:Nat} {b:Bool} {z:BSet} {q:Ps} {R:BSet×Ps} (h:aF B a f b z q=some R) (c:q.e≠0):R.2.e=q.e:=by
 cases f with
 |zero=>simp[aF] at h
 |succ f=>
  rw[aF,if_neg (fun h=>c ((aw _ _).1 h).1)] at h
  injection h with h
  subst h;unfold ay;rw[if_neg c]
def C9 (w0 w:World) (B g:Nat) (s:ByteArray) (d:Nat) (lv:Value) (N:List Nd) (k2 k4 dp:Nat) (b:Bool) (R:BSet×Ps) (e:Value) (wr:World):Prop:=
 ∃(c f a:Nat) (z:BSet),e= .int .i64 c∧c≤a∧a≤s.size∧Hid (R2 w0 w wr B g s a d lv N k2 k4 z)∧
  Hid (aF (bs s) b f (decide (c=0)) z ⟨a,dp,0⟩=some R)
theorem BW (w0:World) (B g:Nat) (s:ByteArray) (a d:Nat) (lv:Value) (N:List Nd) (w:World) (h:RP w0 w B g s a d lv N) (hs:s.size≤1000000) (ha:a≤s.size) (dp f:Nat) (R:BSet×Ps) (U:fI (bs s) f ⟨a,dp,0⟩=some R) (ax:NoB s) (ai:R.2.e=0):
  Calls Tryz.prog 256 #[.pointer (some ⟨g,0,none⟩)] w (CPost2 w0 w B g s d lv N R):=by
 have b:=aJ (R2.start h)
 have G:=aJ ai
 have k:=fun(W:World) (ho:Old w W) (n:Nat)=>gP w0 B g s a d lv N (W.drewN n) ((h.up ho).drewN n) (by omega)
 have r:=aJ (((Old.refl w).alloc (.cells #[.int .u64 0,.int .u64 0,.int .u64 0,.int .u64 0] 211)).alloc (.cells #[.int .u64 0,.int .u64 0,.int .u64 0,.int .u64 0] 211))
 have i0:(0:Int)≤(a:Int):=by omega
 obtain⟨ng,a1,ay,ah,am⟩:∃(ng:Bool) (a1:Nat),a1≤s.size∧aF (bs s) ng f true 0 ⟨a1,dp,0⟩=some R∧((ng=true∧a1=a+1∧a<s.size∧(bs s).getD a 0=94)∨(ng=false∧a1=a∧¬(a<s.size∧(bs s).getD a 0=94))):=by
  unfold fI at U
  by_cases h:a<s.size∧(bs s).getD a 0=94
  ·rw[if_pos ⟨(aw _ _).2 ⟨rfl,by rw[af];exact h.1⟩,h.2⟩] at U
   exact⟨true,a+1,by omega,U,bX ⟨rfl,rfl,h⟩⟩
  ·rw[if_neg (fun h'=>h ⟨by have h2:=((aw _ _).1 h'.1).2;rw[af] at h2;exact h2,h'.2⟩)] at U
   exact⟨false,a,ha,U,bY ⟨rfl,rfl,h⟩⟩
 have u:=aJ ah
 have m:=aJ am
 clear h U ah am ai;go_enter Tryz.func256,Tryz.ntmps256;go_upto_region 2 with fail
 generalize (w.alloc (.cells #[.int .u64 0,.int .u64 0,.int .u64 0,.int .u64 0] 211)).alloc (.cells #[.int .u64 0,.int .u64 0,.int .u64 0,.int .u64 0] 211)=W1 at *;generalize hk2:w.heap.size=k2 at *;obtain⟨k4,ak⟩:∃k4,k2+1=k4:=⟨_,rfl⟩
 rw[ak] at b
 try rw[ak]
 clear hk2;go_cut [5] (fun v5 wx=>v5= .bool ng∧Hid (R2 w0 w wx B g s a d lv N k2 k4 0))
 case first=>
  by_cases p:a=s.size
  ·obtain rfl:ng=false:=m.out.elim (fun h=>absurd h.2.2.1 (by omega)) (fun h=>h.1)
   rw[decide_eq_true p] at k;have l:=aJ k;clear k p u m;go_wp2_with fail;go_quiet ((go_at_call 104;exact Calls.quiet_of (l.out _ r.out _)));have i:=aJ (b.out.up ((Old.refl _).drewN nq));generalize W1.drewN nq=W2 at *;clear b;have b:=aJ i.out;clear i;clear l r;go_wp2_with fail;go_meet;exact⟨rfl,b⟩
  ·have t:a<s.size:=by omega
   have ad:(bs s).getD a 0=s[a].toNat:=dP s a t
   have i1:(a:Int)<(s.size:Int):=by omega
   rw[decide_eq_false p] at k;have l:=aJ k;clear k p;rcases m.out with⟨hn,_,_,L⟩|⟨hn,_,L⟩
   ·subst hn;have g1:(((s[a].toNat:Nat):Int)==94)=true:=by simp;omega
    clear L ad u m;obtain⟨x,c1,c2,y,f1,f2,A⟩:=b.out.rk.rp.cells;clear c2 y f2 A;go_wp2_with fail;go_quiet ((go_at_call 104;exact Calls.quiet_of (l.out _ r.out _)));have i:=aJ (b.out.up ((Old.refl _).drewN nq));generalize W1.drewN nq=W2 at *;clear b;have b:=aJ i.out;clear i;clear l r x c1 f1 g1;go_wp2_with fail;go_meet;exact⟨rfl,b⟩
   ·subst hn;have g1:(((s[a].toNat:Nat):Int)==94)=false:=by simp;omega
    clear L ad u m;obtain⟨x,c1,c2,y,f1,f2,A⟩:=b.out.rk.rp.cells;clear c2 y f2 A;go_wp2_with fail;go_quiet ((go_at_call 104;exact Calls.quiet_of (l.out _ r.out _)));have i:=aJ (b.out.up ((Old.refl _).drewN nq));generalize W1.drewN nq=W2 at *;clear b;have b:=aJ i.out;clear i;clear l r x c1 f1 g1;go_wp2_with fail;go_meet;exact⟨rfl,b⟩
 case rest=>
  clear b k r;obtain⟨rfl,b⟩:=hcut;go_upto_if 24 with fail
  go_cut [] (fun wx=>Hid (R2 w0 w wx B g s a1 d lv N k2 k4 0))
  case first=>
   rcases m.out with⟨hn,M,t,_⟩|⟨hn,M,_⟩
   ·subst hn M;clear u m;obtain⟨x,c1,c2,y,f1,f2,A⟩:=b.out.rk.rp.cells;clear c2 y f2 A;clear x;have D:=aJ (b.out.plus 1);clear b;go_wp2_with fail;go_meet
    case rel=>exact D
   ·subst hn M;go_wp2_with fail;go_meet
    case rel=>exact b
  case rest=>
   clear b m;have b:=hcut;clear hcut;go_wp2_with fail;go_loopw [6] (fun s6 wr=>C9 w0 w B g s d lv N k2 k4 dp ng R s6 wr) (fun s6 _=>s.size+1-(intOf s6).toNat)
   case atStart=>exact⟨0,_,a1,0,rfl,bO _,by omega,b,u⟩
   case round=>
    clear u b;obtain⟨c,f,j,z,rfl,hc,_,b,u⟩:=hrel;have t:j<s.size:=by
     by_cases p:j=s.size
     ·have h:=u.out
      cases f with
      |zero=>simp[aF] at h
      |succ f=>
       rw[aF,if_neg (fun h=>by have h2:=((aw _ _).1 h).2;rw[af] at h2;simp only at h2;omega)] at h
       injection h with h
       exact absurd (h.symm▸G.out) (by show¬(80:Int)=0;decide)
     ·omega
    have k:=gP w0 B g s j d lv N wr b.out.rk.rp (by omega)
    have X:Hid ((bs s).getD j 0=s[j].toNat):=aJ (dP s j t)
    have i3:(0:Int)≤(j:Int):=by omega
    have i4:(j:Int)<(s.size:Int):=by omega
    have al:eF (bs s) ⟨j,dp,0⟩=true:=(aw _ _).2 ⟨rfl,by rw[af];exact t⟩
    rw[decide_eq_false (show¬j=s.size by omega)] at k
    have l:=aJ k
    have H:=aJ al
    clear k al;go_wp2_with fail;refine(l.out).mono ?_;rintro e W5 ⟨rfl,n5,rfl⟩;have ao:=(Old.refl wr).drewN n5;generalize wr.drewN n5=W6 at *;have i:=aJ (b.out.up ao);clear b ao;have b:=aJ i.out;clear i;clear l
    by_cases F:s[j].toNat=93
    ·have O:0<c∧R=(if ng=true then eC z else z,⟨j+1,dp,0⟩):=by
      have h:=u.out
      cases f with
      |zero=>simp[aF] at h
      |succ f=>
       rw[aF,if_pos H.out,if_pos (show iO (bs s) ⟨j,dp,0⟩=93 from X.out.trans F)] at h
       injection h with h
       by_cases ag:c=0
       ·rw[decide_eq_true ag,if_pos rfl] at h;exact absurd (h.symm▸G.out) (by show¬(80:Int)=0;decide)
       ·rw[decide_eq_false ag,if_neg (show¬(false=true) by decide)] at h
        exact⟨by omega,h.symm⟩
     have e1:(((s[j].toNat:Nat):Int)==93)=true:=by simp;omega
     have e3:0<c:=O.1
     have e2:decide ((0:Int)<(c:Int))=true:=decide_eq_true (by omega)
     have e4:decide (0<c)=true:=decide_eq_true e3
     have HE:=aJ O.2
     clear F u O;obtain⟨x,c1,c2,y,f1,f2,A⟩:=b.out.rk.rp.cells;clear c2 y f2 A;go_wp2_with fail;go_quiet (fail);have i:=aJ (b.out.up ((Old.refl _).drewN nq));generalize W6.drewN nq=W7 at *;clear b;have b:=aJ i.out;clear i;clear x c1 f1 e1;obtain⟨x,c1,c2,y,f1,f2,A⟩:=b.out.rk.rp.cells;clear c2 y f2 A;clear x;have D:=aJ (b.out.plus 1);clear b;go_upto_region 10 with fail
     have b:Hid (R2 w0 w (W7.setCell ⟨g,1,none⟩ (.int .i64 ((j:Int)+1))) B g s (j+1) d lv N k2 k4 z):=aJ D.out
     clear D c1 f1;generalize W7.setCell ⟨g,1,none⟩ (.int .i64 ((j:Int)+1))=W8 at *;obtain⟨P,Q,S,T,r0,r1,r2,r3⟩:=an b.out.blk4;cases ng
     ·have HK:=aJ b.out.rk
      obtain⟨_,_,_,_,_,_,_,_⟩:=an HK.out.blk;have HF:=aJ (HK.out.put z);obtain⟨v0,v1,v2,v3,_,_,_,_⟩:=an HF.out.blk
      try unfold cG
      go_wp2_with fail;refine aP (v:= .tuple #[cG z,.int .i64 0]) (by simp[results,Tryz.results256,go_sem,v0,v1,v2,v3,cG]) rfl ?_
      rw[HE.out];exact⟨fun _=>⟨rfl,HF.out.fin⟩⟩
     ·have I:=aJ (rQ z)
      unfold cG at I;go_wp2_with fail;refine(I.out _).mono ?_;rintro e K ⟨rfl,ar⟩;clear I P Q S T r0 r1 r2 r3;have i:=aJ (b.out.up ar);clear b ar;have b:=aJ i.out;clear i;obtain⟨P,Q,S,T,r0,r1,r2,r3⟩:=an b.out.blk4;have o:=aJ (b.out.put (eC z));clear b;go_upto_region 12 with fail
      clear P Q S T r0 r1 r2 r3;have au:Hid (R=(eC z,⟨j+1,dp,0⟩)):=aJ (by rw[HE.out];rfl)
      clear HE;generalize eC z=zn at *;generalize ((((K.setCell ⟨k4,0,none⟩ (.int .u64 (ab zn 0))).setCell ⟨k4,1,none⟩ (.int .u64 (ab zn 1))).setCell ⟨k4,2,none⟩ (.int .u64 (ab zn 2))).setCell ⟨k4,3,none⟩ (.int .u64 (ab zn 3)))=W10 at *;obtain⟨P,Q,S,T,_,_,_,_⟩:=an o.out.blk4;have HK:=aJ o.out.rk;clear o;obtain⟨_,_,_,_,_,_,_,_⟩:=an HK.out.blk;have HF:=aJ (HK.out.put zn);obtain⟨v0,v1,v2,v3,_,_,_,_⟩:=an HF.out.blk
      try unfold cG
      go_wp2_with fail;refine aP (v:= .tuple #[cG zn,.int .i64 0]) (by simp[results,Tryz.results256,go_sem,v0,v1,v2,v3,cG]) rfl ?_
      rw[au.out];exact⟨fun _=>⟨rfl,HF.out.fin⟩⟩
    ·obtain⟨C,f',aj⟩:(eB (bs s) ⟨j,dp,0⟩).2.e=0∧∃f',aF (bs s) ng f' false (z|||(eB (bs s) ⟨j,dp,0⟩).1) (eB (bs s) ⟨j,dp,0⟩).2=some R:=by
      have h:=u.out
      cases f with
      |zero=>simp[aF] at h
      |succ f=>
       rw[aF,if_pos H.out,if_neg (show¬iO (bs s) ⟨j,dp,0⟩=93 from fun e=>F (X.out.symm.trans e))] at h
       by_cases he:(eB (bs s) ⟨j,dp,0⟩).2.e=0
       ·exact⟨he,f,h⟩
       ·have h2:=ms h he
        rw[G.out] at h2;exact absurd h2.symm he
     have Z:=aJ (fun(W:World) (hr:RP w0 W B g s j d lv N)=>(wC w0 B g s j d lv N W hr hs t dp ax C).mono fun e w' h=>h.ok C)
     have ae:=lT (bs s) ⟨j,dp,0⟩ (by rw[af];exact t)
     rw[af] at ae;have av:=aJ aj;have g1:(((s[j].toNat:Nat):Int)==93)=false:=by simp;omega
     clear u H aj F;generalize eB (bs s) ⟨j,dp,0⟩=E at *;obtain⟨q,⟨a2,d2,e2⟩⟩:=E;obtain⟨q1,q2,q3⟩:a2≤s.size∧j<a2∧d2=dp:=ae;subst q3;obtain rfl:e2=0:=C;obtain⟨x,c1,c2,y,f1,f2,A⟩:=b.out.rk.rp.cells;clear c2 y f2 A;go_wp2_with fail;go_quiet (fail);have i:=aJ (b.out.up ((Old.refl _).drewN nq));generalize W6.drewN nq=W5 at *;clear b;have b:=aJ i.out;clear i;clear x c1 f1 g1;have Y:=aJ (Z.out W5 b.out.rk.rp);clear Z;go_wp2_with fail;refine(Y.out).mono ?_;rintro e K ⟨rfl,hr⟩;have o:=aJ (b.out.call hr);clear hr b Y;have b:=aJ o.out;clear o;unfold cG;go_upto_region 14 with fail
     have ac:=aM K (.cells #[.int .u64 (ab q 0),.int .u64 (ab q 1),.int .u64 (ab q 2),.int .u64 (ab q 3)] 211)
     have ap:=(Old.refl K).alloc (.cells #[.int .u64 (ab q 0),.int .u64 (ab q 1),.int .u64 (ab q 2),.int .u64 (ab q 3)] 211)
     generalize K.alloc (.cells #[.int .u64 (ab q 0),.int .u64 (ab q 1),.int .u64 (ab q 2),.int .u64 (ab q 3)] 211)=W7 at *;have V:Hid (W7.heap[K.heap.size]? =some (eh q)):=aJ ac;clear ac;have i:=aJ (b.out.up ap);clear b ap;have b:=aJ i.out;clear i;generalize K.heap.size=k7 at *;obtain⟨x0,x1,x2,x3,_,_,_,_⟩:=an V.out;obtain⟨P,Q,S,T,_,_,_,_⟩:=an b.out.blk4;have J:=aJ (xM z q);unfold cG at J;go_wp2_with fail;refine(J.out _).mono ?_;rintro e W8 ⟨rfl,aq⟩;clear V J x0 x1 x2 x3 P Q S T;have i:=aJ (b.out.up aq);clear b aq;have b:=aJ i.out;clear i;obtain⟨P,Q,S,T,r0,r1,r2,r3⟩:=an b.out.blk4;have o:=aJ (b.out.put (z|||q));clear b;go_wp2_with fail;go_roundw
     case rel=>exact⟨c+1,f',a2,z|||q,by go_num,by omega,q1,o,aJ (by rw[show decide (c+1=0)=false by simp];exact av.out)⟩
     case measure=>simp[intOf];omega
theorem hM (n m:Int) (x:Nd):ai n (ai m x)=ai (n+m) x:=by
 unfold ai dO;simp only
 congr 1
 ·split<;>omega
 ·split<;>omega
theorem ql (k:Int) (z:BSet) (n:Int) (hk:fT k=0):(bd k z).map (ai n)=[⟨k,0,0,z⟩]:=by
 unfold bd ai dO;simp[hk]
theorem ii (k:Int) (l:List Nd) (n:Nat) (hk:fT k=1):(az k l []).map (ai n)=l.map (ai n)++[⟨k,(n:Int)+l.length-1,0,0⟩]:=by
 unfold az;simp[ai,dO,hk];omega
theorem kq (k:Int) (l r:List Nd) (n:Nat) (hk:fT k=2) (a:0<r.length):(az k l r).map (ai n)=l.map (ai n)++r.map (ai ((n+l.length:Nat):Int))++[⟨k,(n:Int)+l.length-1,(n:Int)+l.length+r.length-1,0⟩]:=by
 unfold az;rw[List.map_append,List.map_append,List.map_map];have e:(ai (n:Int)∘ai (l.length:Int))=ai ((n+l.length:Nat):Int):=by
  funext x
  simp only[Function.comp];rw[hM]
  congr 1
 rw[e]
 congr 1
 simp only[List.map_cons,List.map_nil,ai,dO,hk];rw[if_pos (by decide),if_pos (by decide),if_pos a]
 congr 2<;>omega
def gz (N l:List Nd):Int:=(N.length:Int)+l.length-1
structure GPost (w0:World) (B g:Nat) (s:ByteArray) (d:Nat) (N:List Nd) (R:List Nd×Ps) (e:Ending) (w':World):Prop where
 ok:R.2.e=0→e= .returned (.tuple #[.int .i64 (gz N R.1),.int .i64 0])∧∃lv',RP w0 w' B g s R.2.at_ d lv' (N++R.1.map (ai (N.length:Int)))
def Room (s:ByteArray) (a:Nat) (N:List Nd):Prop:=N.length+4*(s.size+1-a)≤100000
theorem Room.len {s:ByteArray} {a:Nat} {N:List Nd} (h:Room s a N):N.length≤100000:=by unfold Room at h;omega
def zG (f:Nat):Prop:=∀(w0:World) (B g:Nat) (s:ByteArray) (a d:Nat) (lv:Value) (N:List Nd) (w:World) (R:List Nd×Ps),RP w0 w B g s a d lv N→s.size≤10000→a≤s.size→d≤24→Room s a N→fM (bs s) f ⟨a,d,0⟩=some R→NoB s→R.2.e=0→
 Calls Tryz.prog 103 #[.pointer (some ⟨g,0,none⟩)] w (GPost w0 B g s d N R)
def Cj (f:Nat):Prop:=∀(w0:World) (B g:Nat) (s:ByteArray) (a d:Nat) (lv:Value) (N:List Nd) (w:World) (R:List Nd×Ps),RP w0 w B g s a d lv N→s.size≤10000→a≤s.size→d≤24→Room s a N→fK (bs s) f ⟨a,d,0⟩=some R→NoB s→R.2.e=0→
 Calls Tryz.prog 164 #[.pointer (some ⟨g,0,none⟩)] w (GPost w0 B g s d N R)
def xk (f:Nat):Prop:=∀(w0:World) (B g:Nat) (s:ByteArray) (a d:Nat) (lv:Value) (N:List Nd) (w:World) (R:List Nd×Ps),RP w0 w B g s a d lv N→s.size≤10000→a<s.size→d≤24→Room s a N→dT (bs s) f ⟨a,d,0⟩=some R→NoB s→R.2.e=0→
 Calls Tryz.prog 211 #[.pointer (some ⟨g,0,none⟩)] w (GPost w0 B g s d N R)
def xC (f:Nat):Prop:=∀(w0:World) (B g:Nat) (s:ByteArray) (a d:Nat) (lv:Value) (N:List Nd) (w:World) (R:List Nd×Ps),RP w0 w B g s a d lv N→s.size≤10000→a<s.size→d≤24→Room s a N→ef (bs s) f ⟨a,d,0⟩=some R→NoB s→R.2.e=0→
 Calls Tryz.prog 237 #[.pointer (some ⟨g,0,none⟩)] w (GPost w0 B g s d N R)
def BC (B:List Nat) (f:Nat) (a d:Nat):Option (List Nd×Ps):=
 if 24<d+1 then some ([],⟨a+1,d+1,84⟩)
 else match fM B f ⟨a+1,d+1,0⟩ with
  |none=>none
  |some (l,r)=>some (l,{(if r.e=0∧B.length≤r.at_ then ay r 83 else r) with at_:=(if r.e=0∧B.length≤r.at_ then ay r 83 else r).at_+1,deep:=(if r.e=0∧B.length≤r.at_ then ay r 83 else r).deep-1})
theorem BD (f:Nat) (hP:zG f) (w0:World) (B g:Nat) (s:ByteArray) (a d:Nat) (lv:Value) (N:List Nd) (w:World) (R:List Nd×Ps) (h:RP w0 w B g s a d lv N) (hs:s.size≤10000) (ha:a<s.size) (hd:d≤24) (V:Room s a N) (j:BC (bs s) f a d=some R) (O:NoB s) (q:R.2.e=0):
  Calls Tryz.prog 255 #[.pointer (some ⟨g,0,none⟩)] w (GPost w0 B g s d N R):=by
 have c:=aJ h
 have z:=aJ q
 unfold BC at j
 by_cases K:d=24
 ·rw[if_pos (by omega)] at j
  exact absurd ((bQ j).symm▸q) (by show¬(84:Int)=0;decide)
 rw[if_neg (by omega)] at j
 cases G:fM (bs s) f ⟨a+1,d+1,0⟩ with
 |none=>rw[G] at j;cases j
 |some lr=>
 rw[G] at j;obtain⟨l,r⟩:=lr;obtain⟨a1,i,b⟩:=r;have F:Hid (R=(l,{(if b=0∧(bs s).length≤a1 then ay ⟨a1,i,b⟩ 83 else⟨a1,i,b⟩:Ps) with at_:=(if b=0∧(bs s).length≤a1 then ay ⟨a1,i,b⟩ 83 else⟨a1,i,b⟩:Ps).at_+1,deep:=(if b=0∧(bs s).length≤a1 then ay ⟨a1,i,b⟩ 83 else⟨a1,i,b⟩:Ps).deep-1})):=aJ (bQ j).symm
 have L:Good (bs s).length ⟨a+1,d+1,0⟩ l ⟨a1,i,b⟩ 0:=(cR (bs s) f).1 ⟨a+1,d+1,0⟩ (l,⟨a1,i,b⟩) ⟨rfl,by rw[af];show a+1≤_;omega,by show d+1≤24;omega⟩ G
 rw[af] at L F;have X:=aJ L;have Q:((d:Int)==24)=false:=by simp;omega
 have i0:(0:Int)≤(d:Int):=by omega
 have i1:(d:Int)<24:=by omega
 have i2:(0:Int)≤(a:Int):=by omega
 have i3:(a:Int)<10000:=by omega
 have D:Hid (RP w0 ((w.setCell ⟨g,2,none⟩ (.int .i64 ((d:Int)+1))).setCell ⟨g,1,none⟩ (.int .i64 ((a:Int)+1))) B g s (a+1) (d+1) lv N):=aJ (by
  have:=(h.open_ (d+1)).at_ (a+1)
  rw[show((d+1:Nat):Int)=(d:Int)+1 by omega,show((a+1:Nat):Int)=(a:Int)+1 by omega] at this
  exact this)
 have C:Hid (RP w0 (w.setCell ⟨g,2,none⟩ (.int .i64 ((d:Int)+1))) B g s a (d+1) lv N):=aJ (by
  have:=h.open_ (d+1)
  rw[show((d+1:Nat):Int)=(d:Int)+1 by omega] at this
  exact this)
 have M:Room s (a+1) N:=by unfold Room at V ⊢;omega
 clear h j L K V q;obtain⟨x,c1,c2,o,f1,f2,p⟩:=c.out.cells;clear o p;go_enter Tryz.func255,Tryz.ntmps255;go_upto_region 4 with fail
 clear x c1 c2 f1 f2 Q;generalize w.setCell ⟨g,2,none⟩ (.int .i64 ((d:Int)+1))=W1 at *;clear c;have c:=aJ C.out;clear C;obtain⟨x,c1,c2,o,f1,f2,p⟩:=c.out.cells;clear o p;go_upto_region 5 with fail
 clear x c1 c2 f1 f2;generalize W1.setCell ⟨g,1,none⟩ (.int .i64 ((a:Int)+1))=W2 at *;clear c;obtain rfl:b=0:=by
  by_cases W:b=0
  ·exact W
  ·have h:=z.out
   rw[F.out] at h;simp[W] at h
 have S:=aJ (hP w0 B g s (a+1) (d+1) lv N W2 (l,⟨a1,i,0⟩) D.out hs (by omega) (by omega) M G O rfl)
 clear G D
 ·have y:=aJ (S.out.mono fun e w' h=>h.ok rfl)
  obtain⟨U,Z,g3,_,_⟩:=X.out.ok rfl;simp only at U Z g3;subst U;clear S;go_wp2_with fail;refine(y.out).mono ?_;rintro e T ⟨rfl,u,P⟩;have E:=aJ P;have t:=gP w0 B g s a1 (d+1) u _ T P (by omega)
  clear P y
  by_cases k:a1=s.size
  ·have H:R.2.e=83:=by rw[F.out];simp[show s.size≤a1 by omega,ay]
   exact absurd (H.symm.trans z.out) (by decide)
  ·have H:Hid (R=(l,⟨a1+1,d,0⟩)):=aJ (by rw[F.out];simp[show¬s.size≤a1 by omega])
   rw[decide_eq_false k] at t;have A:=aJ t;have i4:(0:Int)≤(a1:Int):=by omega
   have i5:(a1:Int)<10000:=by omega
   clear t k F;go_wp2_with fail;refine(A.out).mono ?_;rintro e J ⟨rfl,n4,rfl⟩;have m:=aJ (E.out.drewN n4);generalize T.drewN n4=J at *;clear E A;have n:Hid (RP w0 (J.setCell ⟨g,1,none⟩ (.int .i64 ((a1:Int)+1))) B g s (a1+1) (d+1) u (N++l.map (ai (N.length:Int)))):=aJ (by
    have:=m.out.at_ (a1+1)
    rw[show((a1+1:Nat):Int)=(a1:Int)+1 by omega] at this
    exact this)
   have c:=aJ m.out
   obtain⟨x,c1,c2,o,f1,f2,p⟩:=c.out.cells;clear o p;go_upto_region 11 with fail
   clear x c1 c2 f1 f2 c m;generalize J.setCell ⟨g,1,none⟩ (.int .i64 ((a1:Int)+1))=W5 at *;have c:=aJ n.out;have I:=aJ (n.out.open_ d);obtain⟨x,c1,c2,o,f1,f2,p⟩:=c.out.cells;clear o p;have Y:W5.cell? ⟨g,2,none⟩=some (.int .i64 ((d:Int)+1)):=by rw[c2];congr 2
   clear c2 c n;have dd:(d:Int)+1-1=(d:Int):=by omega
   go_wp2_with fail;go_ret2;rw[H.out];exact⟨fun _=>⟨rfl,u,I.out⟩⟩
theorem vg (N:List Nd) (k:Int) (z:BSet):gz N (bd k z)=(N.length:Int):=by unfold gz bd;simp
theorem mu (w0:World) (B g:Nat) (s:ByteArray) (a d:Nat) (lv:Value) (N:List Nd) (w:World) (h:RP w0 w B g s a d lv N) (hn:N.length≤100000) (k lf rt:Int):
  Calls Tryz.prog 165 #[.pointer (some ⟨g,0,none⟩),.agg #[.int .i64 k,.int .i64 lf,.int .i64 rt,.int .u64 0,.int .u64 0,.int .u64 0,.int .u64 0]] w (ot w0 B g s a d N ⟨k,lf,rt,0⟩):=by
 have:=CR w0 B g s a d lv N w h hn ⟨k,lf,rt,0⟩
 unfold Dq at this;simp only[cy] at this;exact this
theorem Cc (w0:World) (B g:Nat) (s:ByteArray) (a d:Nat) (lv:Value) (N:List Nd) (w:World) (h:RP w0 w B g s a d lv N) (hn:N.length≤100000) (z:BSet):
  Calls Tryz.prog 165 #[.pointer (some ⟨g,0,none⟩),.agg #[.int .i64 2,.int .i64 0,.int .i64 0,.int .u64 (ab z 0),.int .u64 (ab z 1),.int .u64 (ab z 2),.int .u64 (ab z 3)]] w (ot w0 B g s a d N ⟨2,0,0,z⟩):=CR w0 B g s a d lv N w h hn ⟨2,0,0,z⟩
theorem dY {w0 w:World} {B g:Nat} {s:ByteArray} {a d b:Nat} {N:List Nd} {R:List Nd×Ps} {k:Int} {z:BSet} {lv:Value} (c:R=(bd k z,⟨a,b,0⟩)) (hk:fT k=0) (h:RP w0 w B g s a d lv (N++[⟨k,0,0,z⟩])):
  GPost w0 B g s d N R (.returned (.tuple #[.int .i64 (N.length:Int),.int .i64 0])) w:=by
 subst c;refine⟨fun _=>⟨by rw[vg],lv,?_⟩⟩
 show RP w0 w B g s a d lv (N++(bd k z).map (ai (N.length:Int)))
 rw[ql _ _ _ hk];exact h
theorem CP (f:Nat) (hP:zG f):xC (f+1):=by
 intro w0 B g s a d lv N w R h hs ha hd hN S F U;have n:=aJ U;have Z:Hid (s[a].toNat≠92):=aJ (by rw[←dP s a ha];exact F a ha)
 have J:=aJ (BD f hP w0 B g s a d lv N)
 rw[ef] at S;simp only at S;rw[show iO (bs s) ⟨a,d,0⟩=s[a].toNat from dP s a ha] at S
 have j:=aJ S
 have G:s[a].toNat<256:=s[a].toNat_lt
 have c:=aJ h
 have HO:=aJ h.old
 have i0:(0:Int)≤(a:Int):=by omega
 have i1:(a:Int)<(s.size:Int):=by omega
 have i2:(s.size:Int)≤10000:=by omega
 have K:=aJ hN.len
 obtain⟨p,c1,c2,t,f1,f2,u⟩:=h.cells;clear h S c2 t f1 f2 u U;go_enter Tryz.func237,Tryz.ntmps237;go_wp2_with fail;go_quiet (fail);have D:=aJ (c.out.drewN nq);have M:Hid (Old w0 (w.drewN nq)):=aJ D.out.old;generalize w.drewN nq=W2 at *;clear c HO p c1;have c:=aJ D.out;have HO:=aJ M.out;clear D M;generalize s[a].toNat=b at *;have Q:(0:Int)≤(b:Int):=by omega
 have b1:(b:Int)<256:=by omega
 have H:b=42∨b=43∨b=63∨b=93∨b=40∨b=91∨b=92∨b=94∨b=36∨b=46∨(b≠42∧b≠43∧b≠63∧b≠93∧b≠40∧b≠91∧b≠92∧b≠94∧b≠36∧b≠46):=by omega
 rcases H with rfl|rfl|rfl|rfl|rfl|rfl|rfl|rfl|rfl|rfl|⟨n1,n2,n3,n4,n5,n6,n7,n8,n9,W⟩
 ·have m:R.2.e=81:=by
   have h:=j.out
   rw[if_neg (by decide),if_neg (by decide),if_neg (by decide),if_neg (by decide),if_neg (by decide),if_neg (by decide),if_pos (by decide)] at h
   rw[←bQ h];rfl
  exact absurd (m.symm.trans n.out) (by decide)
 ·have m:R.2.e=81:=by
   have h:=j.out
   rw[if_neg (by decide),if_neg (by decide),if_neg (by decide),if_neg (by decide),if_neg (by decide),if_neg (by decide),if_pos (by decide)] at h
   rw[←bQ h];rfl
  exact absurd (m.symm.trans n.out) (by decide)
 ·have m:R.2.e=81:=by
   have h:=j.out
   rw[if_neg (by decide),if_neg (by decide),if_neg (by decide),if_neg (by decide),if_neg (by decide),if_neg (by decide),if_pos (by decide)] at h
   rw[←bQ h];rfl
  exact absurd (m.symm.trans n.out) (by decide)
 ·have m:R.2.e=80:=by
   have h:=j.out
   rw[if_neg (by decide),if_neg (by decide),if_neg (by decide),if_neg (by decide),if_neg (by decide),if_pos (by decide)] at h
   rw[←bQ h];rfl
  exact absurd (m.symm.trans n.out) (by decide)
 ·have Y:Hid (BC (bs s) f a d=some R):=aJ (by
   have h:=j.out
   rw[if_neg (by decide),if_neg (by decide),if_neg (by decide),if_neg (by decide),if_neg (by decide),if_neg (by decide),if_neg (by decide),if_pos (by decide)] at h
   exact h)
  have I:=aJ (J.out W2 R c.out hs ha hd hN Y.out F n.out)
  clear J Q b1 G
  ·have y:=aJ (I.out.mono fun e w' h=>h.ok n.out)
   clear I;go_wp2_with fail;refine(y.out).mono ?_;rintro e A ⟨rfl,ad,k⟩;have ac:=aJ k;clear k;go_wp2_with fail;go_ret2;exact⟨fun _=>⟨rfl,ad,ac.out⟩⟩
 ·obtain⟨⟨z,q⟩,hq⟩:∃r,fI (bs s) f ⟨a+1,d,0⟩=some r:=by
   have h:=j.out
   rw[if_neg (by decide),if_neg (by decide),if_neg (by decide),if_neg (by decide),if_pos (by decide)] at h
   cases hc:fI (bs s) f ⟨a+1,d,0⟩ with
   |none=>
    rw[show fc ⟨a,d,0⟩=(⟨a+1,d,0⟩:Ps) from rfl,hc] at h
    cases h
   |some r=>exact⟨r,rfl⟩
  have m:Hid (R=(bd 2 z,q)):=aJ (by
   have h:=j.out
   rw[if_neg (by decide),if_neg (by decide),if_neg (by decide),if_neg (by decide),if_pos (by decide),show fc ⟨a,d,0⟩=(⟨a+1,d,0⟩:Ps) from rfl,hq] at h
   exact(bQ h).symm)
  clear Q b1 G J;obtain⟨p,c1,c2,t,f1,f2,u⟩:=c.out.cells;clear p c2 t f2 u;have i:Hid (RP w0 (W2.setCell ⟨g,1,none⟩ (.int .i64 ((a:Int)+1))) B g s (a+1) d lv N):=aJ (by
   have:=c.out.at_ (a+1)
   rw[show((a+1:Nat):Int)=(a:Int)+1 by omega] at this
   exact this)
  go_upto_region 13 with fail
  clear c1 f1 c;generalize W2.setCell ⟨g,1,none⟩ (.int .i64 ((a:Int)+1))=A at *;have c:=aJ i.out;clear i;obtain⟨a2,d2,e2⟩:=q;obtain rfl:e2=0:=(m.out▸n.out:(bd 2 z,(⟨a2,d2,e2⟩:Ps)).2.e=0);have I:=aJ (BW w0 B g s (a+1) d lv N A c.out (by omega) (by omega) d f (z,⟨a2,d2,0⟩) hq F rfl)
  clear hq
  ·have y:=aJ (I.out.mono fun e w' h=>(h.ok rfl))
   clear I;go_wp2_with fail;refine(y.out).mono ?_;rintro e E ⟨rfl,k,_,_⟩;have O:=aJ k;clear k y;unfold cG;go_upto_region 16 with fail
   have T:=aM E (.cells #[.int .u64 (ab z 0),.int .u64 (ab z 1),.int .u64 (ab z 2),.int .u64 (ab z 3)] 211)
   have aa:=aJ (O.out.up ((Old.refl E).alloc (.cells #[.int .u64 (ab z 0),.int .u64 (ab z 1),.int .u64 (ab z 2),.int .u64 (ab z 3)] 211)))
   generalize E.alloc (.cells #[.int .u64 (ab z 0),.int .u64 (ab z 1),.int .u64 (ab z 2),.int .u64 (ab z 3)] 211)=X at *;obtain⟨_,_,_,_,_,_,_,_⟩:=an (show X.heap[E.heap.size]? =some (eh z) from T)
   clear T O;have o:=aJ (Cc w0 B g s _ d lv N X aa.out K.out z);go_wp2_with fail;refine(o.out).mono ?_;rintro e _ ⟨rfl,_,k⟩;have l:=aJ k;clear k o;go_wp2_with fail;go_ret2;exact dY m.out (by decide) l.out
 ·exact absurd rfl Z.out
 ·have m:Hid (R=(bd 8 0,⟨a+1,d,0⟩)):=aJ (by
   have h:=j.out
   rw[if_neg (by decide),if_pos (by decide)] at h
   exact(bQ h).symm)
  clear Q b1 G;obtain⟨p,c1,c2,t,f1,f2,u⟩:=c.out.cells;clear p c2 t f2 u;have i:Hid (RP w0 (W2.setCell ⟨g,1,none⟩ (.int .i64 ((a:Int)+1))) B g s (a+1) d lv N):=aJ (by
   have:=c.out.at_ (a+1)
   rw[show((a+1:Nat):Int)=(a:Int)+1 by omega] at this
   exact this)
  go_upto_region 25 with fail
  clear c1 f1 c;generalize W2.setCell ⟨g,1,none⟩ (.int .i64 ((a:Int)+1))=A at *;have c:=aJ i.out;clear i;have o:=aJ (mu w0 B g s (a+1) d lv N A c.out K.out 8 0 0);go_wp2_with fail;refine(o.out).mono ?_;rintro e _ ⟨rfl,_,k⟩;have l:=aJ k;clear k o;go_wp2_with fail;go_ret2;exact dY m.out (by decide) l.out
 ·have m:Hid (R=(bd 9 0,⟨a+1,d,0⟩)):=aJ (by
   have h:=j.out
   rw[if_neg (by decide),if_neg (by decide),if_pos (by decide)] at h
   exact(bQ h).symm)
  clear Q b1 G;obtain⟨p,c1,c2,t,f1,f2,u⟩:=c.out.cells;clear p c2 t f2 u;have i:Hid (RP w0 (W2.setCell ⟨g,1,none⟩ (.int .i64 ((a:Int)+1))) B g s (a+1) d lv N):=aJ (by
   have:=c.out.at_ (a+1)
   rw[show((a+1:Nat):Int)=(a:Int)+1 by omega] at this
   exact this)
  go_upto_region 27 with fail
  clear c1 f1 c;generalize W2.setCell ⟨g,1,none⟩ (.int .i64 ((a:Int)+1))=A at *;have c:=aJ i.out;clear i;have o:=aJ (mu w0 B g s (a+1) d lv N A c.out K.out 9 0 0);go_wp2_with fail;refine(o.out).mono ?_;rintro e _ ⟨rfl,_,k⟩;have l:=aJ k;clear k o;go_wp2_with fail;go_ret2;exact dY m.out (by decide) l.out
 ·have m:Hid (R=(bd 2 (eC (cO 0 10)),⟨a+1,d,0⟩)):=aJ (by
   have h:=j.out
   rw[if_pos (by decide)] at h
   exact(bQ h).symm)
  clear Q b1 G J;obtain⟨p,c1,c2,t,f1,f2,u⟩:=c.out.cells;clear p c2 t f2 u;have i:Hid (RP w0 (W2.setCell ⟨g,1,none⟩ (.int .i64 ((a:Int)+1))) B g s (a+1) d lv N):=aJ (by
   have:=c.out.at_ (a+1)
   rw[show((a+1:Nat):Int)=(a:Int)+1 by omega] at this
   exact this)
  go_upto_region 29 with fail
  clear c1 f1 c;generalize W2.setCell ⟨g,1,none⟩ (.int .i64 ((a:Int)+1))=A at *;have c:=aJ i.out;clear i;go_wp2_with fail;refine(rB 10 10 (by decide) (by decide) _).mono ?_;rintro e E ⟨rfl,x⟩
  rw[gI];have L:=aJ (rQ (cO 0 10));go_wp2_with fail;refine(L.out _).mono ?_;rintro e X ⟨rfl,V⟩;have C:=aJ ((c.out.up x).up V);clear x V c L;generalize eC (cO 0 10)=z at *;have o:=aJ (Cc w0 B g s (a+1) d lv N X C.out K.out z);unfold cG;go_wp2_with fail;refine(o.out).mono ?_;rintro e _ ⟨rfl,_,k⟩;have l:=aJ k;clear k o;go_wp2_with fail;go_ret2;exact dY m.out (by decide) l.out
 ·have q1:((b:Int)==42)=false:=by simp;omega
  have q2:((b:Int)==43)=false:=by simp;omega
  have q3:((b:Int)==63)=false:=by simp;omega
  have q4:((b:Int)==93)=false:=by simp;omega
  have q5:((b:Int)==40)=false:=by simp;omega
  have q6:((b:Int)==91)=false:=by simp;omega
  have q7:((b:Int)==92)=false:=by simp;omega
  have q8:((b:Int)==94)=false:=by simp;omega
  have q9:((b:Int)==36)=false:=by simp;omega
  have ae:((b:Int)==46)=false:=by simp;omega
  have m:Hid (R=(bd 2 (cO 0 b),⟨a+1,d,0⟩)):=aJ (by
   have h:=j.out
   rw[if_neg W,if_neg n8,if_neg n9,if_neg n7,if_neg n6,if_neg n4,if_neg (by omega),if_neg n5] at h
   exact(bQ h).symm)
  have P:=aJ (rB b b G G)
  clear n1 n2 n3 n4 n5 n6 n7 n8 n9 W J;obtain⟨p,c1,c2,t,f1,f2,u⟩:=c.out.cells;clear p c2 t f2 u;have i:Hid (RP w0 (W2.setCell ⟨g,1,none⟩ (.int .i64 ((a:Int)+1))) B g s (a+1) d lv N):=aJ (by
   have:=c.out.at_ (a+1)
   rw[show((a+1:Nat):Int)=(a:Int)+1 by omega] at this
   exact this)
  go_upto_region 30 with fail
  clear c1 f1 c;generalize W2.setCell ⟨g,1,none⟩ (.int .i64 ((a:Int)+1))=A at *;have c:=aJ i.out;clear i;go_wp2_with fail;refine(P.out _).mono ?_;rintro e E ⟨rfl,x⟩;rw[gI];have C:=aJ (c.out.up x);clear x c P;generalize cO 0 b=z at *;have o:=aJ (Cc w0 B g s (a+1) d lv N E C.out K.out z);unfold cG;go_wp2_with fail;refine(o.out).mono ?_;rintro e _ ⟨rfl,_,k⟩;have l:=aJ k;clear k o;go_wp2_with fail;go_ret2;exact dY m.out (by decide) l.out
theorem jR (N l:List Nd) (k:Int):gz N (az k l [])=gz N l+1:=by unfold gz;rw[cJ];simp;omega
theorem jw {B:List Nat} {f:Nat} {l:List Nd} {q:Ps} {R:List Nd×Ps} (h:ar B f l q=some R) (a:eF B q=false):R=(l,q):=by
 cases f with
 |zero=>simp[ar] at h
 |succ f=>
  rw[ar,if_neg (by rw[a];decide)] at h
  exact(bQ h).symm
def CY (w0:World) (B g:Nat) (s:ByteArray) (a d:Nat) (N:List Nd) (R:List Nd×Ps) (v:Value) (wr:World):Prop:=
 ∃(f:Nat) (l:List Nd) (b:Nat) (lv:Value),v= .int .i64 (gz N l)∧0<l.length∧l.length+2≤2*(b-a)+1∧a≤b∧b≤s.size∧Hid (RP w0 wr B g s b d lv (N++l.map (ai (N.length:Int))))∧Hid (ar (bs s) f l ⟨b,d,0⟩=some R)
theorem Cx (f:Nat) (hA:xC f):xk (f+1):=by
 intro w0 B g s a d ac N w R h hs ha hd hN I ab Q;rw[dT] at I;cases X:ef (bs s) f ⟨a,d,0⟩ with
 |none=>rw[X] at I;cases I
 |some lq=>
 rw[X] at I;obtain⟨Y,⟨a0,S,e0⟩⟩:=lq;simp only at I;obtain rfl:e0=0:=by
  by_cases he:e0=0
  ·exact he
  ·rw[jw I (by unfold eF;simp[he])] at Q
   exact Q
 have hG:Good (bs s).length ⟨a,d,0⟩ Y ⟨a0,S,0⟩ 2:=(cR (bs s) f).2.2.2.2.2.2 ⟨a,d,0⟩ (Y,⟨a0,S,0⟩) ⟨rfl,by rw[af];show a≤_;omega,hd⟩ (by rw[af];exact ha) X
 rw[af] at hG;have HG:=aJ hG;have HC:=aJ (hA w0 B g s a d ac N w (Y,⟨a0,S,0⟩) h hs ha hd hN X ab rfl);have U:=aJ I;have HL:Hid (∀(b:Nat) (l:List Nd),l.length+2≤2*(b-a)+1→b≤s.size→N.length+l.length≤100000):=aJ (fun b l h1 h2=>by unfold Room at hN;omega)
 clear h I hG X Q;go_enter Tryz.func211,Tryz.ntmps211
 ·obtain⟨E,g2,g3,g4,g5⟩:=HG.out.ok rfl
  replace E:S=d:=E
  replace g2:a≤a0:=g2
  replace g3:a0≤s.size:=g3
  replace g5:Y.length+2≤2*(a0-a)+1:=g5
  subst E;have T:=aJ (HC.out.mono fun e w' h=>h.ok rfl)
  clear HC;go_wp2_with fail;refine(T.out).mono ?_;rintro e _ ⟨rfl,ad,A⟩;have c:=aJ A;clear A T;go_wp2_with fail;go_loopw [4] (fun s4 wr=>CY w0 B g s a S N R s4 wr) (fun s4 _=>(200000-intOf s4).toNat)
  case atStart=>exact⟨f,Y,a0,ad,rfl,g4,by omega,g2,g3,c,U⟩
  case round=>
   clear c U HG g2 g3 g4 g5;obtain⟨f,l,b,lv,rfl,_,G,_,F,i,C⟩:=hrel;generalize S=d at *;have o:=gP w0 B g s b d lv _ wr i.out (by omega)
   have J:Hid (gz N l≤120000∧0≤gz N l):=aJ (by have:=HL.out b l G F;unfold gz;omega)
   by_cases n:b=s.size
   ·have HE:Hid (R=(l,⟨b,d,0⟩)):=aJ (jw C.out (by unfold eF;rw[af];simp;omega))
    rw[decide_eq_true n] at o;have D:=aJ o;clear o n C;go_wp2_with fail;refine(D.out).mono ?_;rintro e _ ⟨rfl,Z,rfl⟩;have m:=aJ (i.out.drewN Z);generalize wr.drewN Z=W6 at *;clear i;have i:=aJ m.out;have K:=aJ i.out;go_wp2_with fail;go_ret2;rw[HE.out];exact⟨fun _=>⟨rfl,lv,K.out⟩⟩
   ·have y:b<s.size:=by omega
    have p:=aJ (dP s b y)
    have i3:(0:Int)≤(b:Int):=by omega
    have i4:(b:Int)<(s.size:Int):=by omega
    have i5:(s.size:Int)≤10000:=by omega
    rw[decide_eq_false n] at o;have D:=aJ o;clear o n;go_wp2_with fail;refine(D.out).mono ?_;rintro e _ ⟨rfl,Z,rfl⟩;have m:=aJ (i.out.drewN Z);generalize wr.drewN Z=W5' at *;clear i D;have i:=aJ m.out;clear m;obtain⟨L,c1,c2,M,f1,f2,O⟩:=i.out.cells;clear c2 M f1 f2 O;go_wp2_with fail;go_quiet (fail);have m:=aJ (i.out.drewN nq);generalize W5'.drewN nq=W6 at *;clear i L c1;have i:=aJ m.out;clear m;have P:s[b].toNat=42∨s[b].toNat=43∨s[b].toNat=63∨(s[b].toNat≠42∧s[b].toNat≠43∧s[b].toNat≠63):=by omega
    rcases P with x|x|x|⟨n1,n2,n3⟩
    ·obtain⟨u,q⟩:∃u,Hid (ar (bs s) u (az 5 l []) ⟨b+1,d,0⟩=some R):=by
      have h:=C.out
      cases f with
      |zero=>simp[ar] at h
      |succ f=>
       rw[ar,if_pos ((aw _ _).2 ⟨rfl,by rw[af];exact y⟩)] at h
       rw[show iO (bs s) ⟨b,d,0⟩=42 from p.out.trans x] at h
       exact⟨f,h⟩
     have j:=aJ (ii 5 l N.length (by decide))
     have z:=jR N l 5
     have W:(az 5 l []).length=l.length+1:=by rw[cJ];simp
     have E:s[b].toNat=42:=x
     clear C;rw[E];clear x;obtain⟨L,c1,c2,M,f1,f2,O⟩:=i.out.cells;clear L c2 M f2 O;have c:Hid (RP w0 (W6.setCell ⟨g,1,none⟩ (.int .i64 ((b:Int)+1))) B g s (b+1) d lv (N++l.map (ai (N.length:Int)))):=aJ (by
      have:=i.out.at_ (b+1)
      rw[show((b+1:Nat):Int)=(b:Int)+1 by omega] at this
      exact this)
     go_upto_region 15 with fail
     clear c1 f1 i;generalize W6.setCell ⟨g,1,none⟩ (.int .i64 ((b:Int)+1))=W7 at *;have H:=aJ (mu w0 B g s (b+1) d lv _ W7 c.out (by rw[bF,bL];exact HL.out b l G F) 5 (gz N l) 0)
     go_wp2_with fail;refine(H.out).mono ?_;rintro e V ⟨rfl,k,A⟩;have r:Hid (RP w0 V B g s (b+1) d k (N++(az 5 l []).map (ai (N.length:Int)))):=aJ (by
      rw[j.out,←List.append_assoc];exact A)
     have t:Hid (Value.int .i64 ((N.length:Int)+(l.length:Int))= .int .i64 (gz N (az 5 l []))):=aJ (by
      rw[z];unfold gz
      congr 1
      omega)
     clear A H c j;go_wp2_with fail;go_roundw
     case rel=>exact⟨u,az 5 l [],b+1,k,t.out,by omega,by omega,by omega,by omega,r,q⟩
     case measure=>
      have h1:=J.out
      simp[intOf];unfold gz at h1 ⊢;omega
    ·obtain⟨u,q⟩:∃u,Hid (ar (bs s) u (az 6 l []) ⟨b+1,d,0⟩=some R):=by
      have h:=C.out
      cases f with
      |zero=>simp[ar] at h
      |succ f=>
       rw[ar,if_pos ((aw _ _).2 ⟨rfl,by rw[af];exact y⟩)] at h
       rw[show iO (bs s) ⟨b,d,0⟩=43 from p.out.trans x] at h
       exact⟨f,h⟩
     have j:=aJ (ii 6 l N.length (by decide))
     have z:=jR N l 6
     have W:(az 6 l []).length=l.length+1:=by rw[cJ];simp
     have E:s[b].toNat=43:=x
     clear C;rw[E];clear x;obtain⟨L,c1,c2,M,f1,f2,O⟩:=i.out.cells;clear L c2 M f2 O;have c:Hid (RP w0 (W6.setCell ⟨g,1,none⟩ (.int .i64 ((b:Int)+1))) B g s (b+1) d lv (N++l.map (ai (N.length:Int)))):=aJ (by
      have:=i.out.at_ (b+1)
      rw[show((b+1:Nat):Int)=(b:Int)+1 by omega] at this
      exact this)
     go_upto_region 15 with fail
     clear c1 f1 i;generalize W6.setCell ⟨g,1,none⟩ (.int .i64 ((b:Int)+1))=W7 at *;have H:=aJ (mu w0 B g s (b+1) d lv _ W7 c.out (by rw[bF,bL];exact HL.out b l G F) 6 (gz N l) 0)
     go_wp2_with fail;refine(H.out).mono ?_;rintro e V ⟨rfl,k,A⟩;have r:Hid (RP w0 V B g s (b+1) d k (N++(az 6 l []).map (ai (N.length:Int)))):=aJ (by
      rw[j.out,←List.append_assoc];exact A)
     have t:Hid (Value.int .i64 ((N.length:Int)+(l.length:Int))= .int .i64 (gz N (az 6 l []))):=aJ (by
      rw[z];unfold gz
      congr 1
      omega)
     clear A H c j;go_wp2_with fail;go_roundw
     case rel=>exact⟨u,az 6 l [],b+1,k,t.out,by omega,by omega,by omega,by omega,r,q⟩
     case measure=>
      have h1:=J.out
      simp[intOf];unfold gz at h1 ⊢;omega
    ·obtain⟨u,q⟩:∃u,Hid (ar (bs s) u (az 7 l []) ⟨b+1,d,0⟩=some R):=by
      have h:=C.out
      cases f with
      |zero=>simp[ar] at h
      |succ f=>
       rw[ar,if_pos ((aw _ _).2 ⟨rfl,by rw[af];exact y⟩)] at h
       rw[show iO (bs s) ⟨b,d,0⟩=63 from p.out.trans x] at h
       exact⟨f,h⟩
     have j:=aJ (ii 7 l N.length (by decide))
     have z:=jR N l 7
     have W:(az 7 l []).length=l.length+1:=by rw[cJ];simp
     have E:s[b].toNat=63:=x
     clear C;rw[E];clear x;obtain⟨L,c1,c2,M,f1,f2,O⟩:=i.out.cells;clear L c2 M f2 O;have c:Hid (RP w0 (W6.setCell ⟨g,1,none⟩ (.int .i64 ((b:Int)+1))) B g s (b+1) d lv (N++l.map (ai (N.length:Int)))):=aJ (by
      have:=i.out.at_ (b+1)
      rw[show((b+1:Nat):Int)=(b:Int)+1 by omega] at this
      exact this)
     go_upto_region 15 with fail
     clear c1 f1 i;generalize W6.setCell ⟨g,1,none⟩ (.int .i64 ((b:Int)+1))=W7 at *;have H:=aJ (mu w0 B g s (b+1) d lv _ W7 c.out (by rw[bF,bL];exact HL.out b l G F) 7 (gz N l) 0)
     go_wp2_with fail;refine(H.out).mono ?_;rintro e V ⟨rfl,k,A⟩;have r:Hid (RP w0 V B g s (b+1) d k (N++(az 7 l []).map (ai (N.length:Int)))):=aJ (by
      rw[j.out,←List.append_assoc];exact A)
     have t:Hid (Value.int .i64 ((N.length:Int)+(l.length:Int))= .int .i64 (gz N (az 7 l []))):=aJ (by
      rw[z];unfold gz
      congr 1
      omega)
     clear A H c j;go_wp2_with fail;go_roundw
     case rel=>exact⟨u,az 7 l [],b+1,k,t.out,by omega,by omega,by omega,by omega,r,q⟩
     case measure=>
      have h1:=J.out
      simp[intOf];unfold gz at h1 ⊢;omega
    ·have HE:Hid (R=(l,⟨b,d,0⟩)):=aJ (by
      have h:=C.out
      cases f with
      |zero=>simp[ar] at h
      |succ f=>
       have e:iO (bs s) ⟨b,d,0⟩=s[b].toNat:=p.out
       rw[ar,if_pos ((aw _ _).2 ⟨rfl,by rw[af];exact y⟩),e,if_neg n1,if_neg n2,if_neg n3] at h
       exact(bQ h).symm)
     have q1:(((s[b].toNat:Nat):Int)==42)=false:=by simp;omega
     have q2:(((s[b].toNat:Nat):Int)==43)=false:=by simp;omega
     have q3:(((s[b].toNat:Nat):Int)==63)=false:=by simp;omega
     clear n1 n2 n3 C p;have K:=aJ i.out;go_wp2_with fail;go_ret2;rw[HE.out];exact⟨fun _=>⟨rfl,lv,K.out⟩⟩
def xG (N l:List Nd):Int:=if l.length=0 then-1 else gz N l
theorem yG (N:List Nd):xG N []= -1:=rfl
theorem gN {N l:List Nd} (h:0<l.length):xG N l=gz N l∧0≤gz N l:=by
 unfold xG gz;rw[if_neg (by omega)]
 exact⟨rfl,by omega⟩
def Da (F:Nat) (w0:World) (B g:Nat) (s:ByteArray) (a d:Nat) (N:List Nd) (R:List Nd×Ps) (v:Value) (wr:World):Prop:=
 ∃(f:Nat) (l:List Nd) (b:Nat) (lv:Value),f≤F∧v= .int .i64 (xG N l)∧(l=[]∧b=a∨0<l.length∧l.length+2≤2*(b-a)+1∧a≤b)∧b≤s.size∧Hid (RP w0 wr B g s b d lv (N++l.map (ai (N.length:Int))))∧Hid (aI (bs s) f l ⟨b,d,0⟩=some R)
theorem DC (F:Nat) (hA:∀k,k≤F→xk k):Cj (F+1):=by
 intro w0 B g s a d aA N w R h hs ha hd hN Y ax ak;have aq:=aJ ak;rw[fK] at Y;have ag:=aJ h;have J:=aJ Y;have au:=aJ (fun k hk w0 B g s a d lv N w R h1 h2 h3 h4 h5 h6=>hA k hk w0 B g s a d lv N w R h1 h2 h3 h4 h5 h6)
 have ab:Hid (N.length≤100000):=aJ hN.len
 clear h Y hA ak;go_enter Tryz.func164,Tryz.ntmps164;go_wp2_with fail;go_loopw [4] (fun s4 wr=>Da F w0 B g s a d N R s4 wr) (fun s4 _=>(200000-intOf s4).toNat)
 case atStart=>exact⟨F,[],a,aA,bM _,rfl,bX ⟨rfl,rfl⟩,ha,aJ (by have:=ag.out;simpa using this),J⟩
 case round=>
  clear ag J;obtain⟨f,l,b,lv,_,rfl,hl,_,c,X⟩:=hrel;have A:=fun n=>gP w0 B g s b d lv _ (wr.drewN n) (c.out.drewN n) (by omega)
  by_cases y:b=s.size
  ·have u:Hid (R=(if l.length=0 then bd 1 0 else l,⟨b,d,0⟩)):=aJ (by
    have h:=X.out
    cases f with
    |zero=>simp[aI] at h
    |succ f=>
     rw[aI,if_neg (fun h=>by have h2:=((aw _ _).1 h.1).2;rw[af] at h2;simp only at h2;omega)] at h
     exact(bQ h).symm)
   rw[decide_eq_true y] at A;have m:=aJ A;clear A y X;go_wp2_with fail;go_quiet ((go_at_call 104;exact Calls.quiet_of (m.out _)));have j:=aJ (c.out.drewN nq);generalize wr.drewN nq=W6 at *;clear c m;have c:=aJ j.out;clear j;rcases hl with⟨rfl,rfl⟩|⟨r,T,U⟩
   ·have i:Hid (R=(bd 1 0,⟨b,d,0⟩)):=aJ u.out
    have o:Hid (RP w0 W6 B g s b d lv N):=aJ (by have:=c.out;simpa using this)
    have C:=aJ (fun W (h:RP w0 W B g s b d lv N)=>mu w0 B g s b d lv N W h ab.out 1 0 0)
    have D:Hid (xG N []= -1):=aJ rfl
    clear u c;go_wp2_with fail;refine(C.out _ o.out).mono ?_;rintro e _ ⟨rfl,_,z⟩;have H:=aJ z;clear z C o;go_wp2_with fail;go_ret2;exact dY i.out (by decide) H.out
   ·have i:Hid (R=(l,⟨b,d,0⟩)):=aJ (by rw[u.out,if_neg (by omega)])
    obtain⟨K,_⟩:=gN (N:=N) r;rw[K];clear u K;have G:=aJ c.out;clear c;go_wp2_with fail;go_ret2;rw[i.out];exact⟨fun _=>⟨rfl,lv,G.out⟩⟩
  ·have V:b<s.size:=by omega
   have t:=aJ (dP s b V)
   have i3:(0:Int)≤(b:Int):=by omega
   have i4:(b:Int)<(s.size:Int):=by omega
   have i5:(s.size:Int)≤10000:=by omega
   have am:eF (bs s) ⟨b,d,0⟩=true:=(aw _ _).2 ⟨rfl,by rw[af];exact V⟩
   have P:=aJ am
   rw[decide_eq_false y] at A;have m:=aJ A;clear A y am;obtain⟨c0,c1,c2,c3,f1,f2,f3⟩:=c.out.cells;clear c2 c3 f1 f2 f3
   by_cases p:s[b].toNat=124
   ·have u:Hid (R=(if l.length=0 then bd 1 0 else l,⟨b,d,0⟩)):=aJ (by
     have h:=X.out
     cases f with
     |zero=>simp[aI] at h
     |succ f=>
      rw[aI,if_neg (fun h=>h.2.1 (t.out.trans p))] at h
      exact(bQ h).symm)
    have q1:(((s[b].toNat:Nat):Int) !=124)=false:=by simp;omega
    clear p X t P;go_wp2_with fail;go_quiet ((go_at_call 104;exact Calls.quiet_of (m.out _)));have j:=aJ (c.out.drewN nq);generalize wr.drewN nq=W6 at *;clear c m;have c:=aJ j.out;clear j;clear q1 c0 c1;rcases hl with⟨rfl,rfl⟩|⟨r,T,U⟩
    ·have i:Hid (R=(bd 1 0,⟨b,d,0⟩)):=aJ u.out
     have o:Hid (RP w0 W6 B g s b d lv N):=aJ (by have:=c.out;simpa using this)
     have C:=aJ (fun W (h:RP w0 W B g s b d lv N)=>mu w0 B g s b d lv N W h ab.out 1 0 0)
     have D:Hid (xG N []= -1):=aJ rfl
     clear u c;go_wp2_with fail;refine(C.out _ o.out).mono ?_;rintro e _ ⟨rfl,_,z⟩;have H:=aJ z;clear z C o;go_wp2_with fail;go_ret2;exact dY i.out (by decide) H.out
    ·have i:Hid (R=(l,⟨b,d,0⟩)):=aJ (by rw[u.out,if_neg (by omega)])
     obtain⟨K,_⟩:=gN (N:=N) r;rw[K];clear u K;have G:=aJ c.out;clear c;go_wp2_with fail;go_ret2;rw[i.out];exact⟨fun _=>⟨rfl,lv,G.out⟩⟩
   by_cases S:s[b].toNat=41
   ·have u:Hid (R=(if l.length=0 then bd 1 0 else l,⟨b,d,0⟩)):=aJ (by
     have h:=X.out
     cases f with
     |zero=>simp[aI] at h
     |succ f=>
      rw[aI,if_neg (fun h=>h.2.2 (t.out.trans S))] at h
      exact(bQ h).symm)
    have q1:(((s[b].toNat:Nat):Int) !=124)=true:=by simp;omega
    have q2:(((s[b].toNat:Nat):Int) !=41)=false:=by simp;omega
    clear p S X t P;go_wp2_with fail;go_quiet ((go_at_call 104;exact Calls.quiet_of (m.out _)));have j:=aJ (c.out.drewN nq);generalize wr.drewN nq=W6 at *;clear c m;have c:=aJ j.out;clear j;clear q1 q2 c0 c1;rcases hl with⟨rfl,rfl⟩|⟨r,T,U⟩
    ·have i:Hid (R=(bd 1 0,⟨b,d,0⟩)):=aJ u.out
     have o:Hid (RP w0 W6 B g s b d lv N):=aJ (by have:=c.out;simpa using this)
     have C:=aJ (fun W (h:RP w0 W B g s b d lv N)=>mu w0 B g s b d lv N W h ab.out 1 0 0)
     have D:Hid (xG N []= -1):=aJ rfl
     clear u c;go_wp2_with fail;refine(C.out _ o.out).mono ?_;rintro e _ ⟨rfl,_,z⟩;have H:=aJ z;clear z C o;go_wp2_with fail;go_ret2;exact dY i.out (by decide) H.out
    ·have i:Hid (R=(l,⟨b,d,0⟩)):=aJ (by rw[u.out,if_neg (by omega)])
     obtain⟨K,_⟩:=gN (N:=N) r;rw[K];clear u K;have G:=aJ c.out;clear c;go_wp2_with fail;go_ret2;rw[i.out];exact⟨fun _=>⟨rfl,lv,G.out⟩⟩
   ·obtain⟨L,ac,x,q,hq,Y⟩:∃L,L≤F∧∃x q,dT (bs s) L ⟨b,d,0⟩=some (x,q)∧(if q.e=0 then aI (bs s) L (if l.length=0 then x else az 3 l x) q else some ([],q))=some R:=by
     have h:=X.out
     cases f with
     |zero=>simp[aI] at h
     |succ f=>
      rw[aI,if_pos ⟨P.out,fun e=>p (t.out.symm.trans e),fun e=>S (t.out.symm.trans e)⟩] at h
      cases hq:dT (bs s) f ⟨b,d,0⟩ with
      |none=>rw[hq] at h;cases h
      |some xq=>
       rw[hq] at h;exact⟨f,by omega,xq.1,xq.2,hq,h⟩
    have q1:(((s[b].toNat:Nat):Int) !=124)=true:=by simp;omega
    have q2:(((s[b].toNat:Nat):Int) !=41)=true:=by simp;omega
    obtain⟨a1,O,K⟩:=q;obtain rfl:K=0:=by
     by_cases he:K=0
     ·exact he
     ·rw[if_neg he] at Y;have h2:=aq.out;rw[←bQ Y] at h2;exact h2
    have hG:Good (bs s).length ⟨b,d,0⟩ x ⟨a1,O,0⟩ 2:=(cR (bs s) L).2.2.2.2.1 ⟨b,d,0⟩ (x,⟨a1,O,0⟩) ⟨rfl,by rw[af];show b≤_;omega,hd⟩ (by rw[af];exact V) hq
    rw[af] at hG;have HG:=aJ hG;have M:Room s b (N++l.map (ai (N.length:Int))):=by
     unfold Room at hN ⊢;rw[bF,bL];rcases hl with⟨rfl,rfl⟩|⟨r,T,U⟩
     ·simp;omega
     ·omega
    have HC:=aJ (fun W h=>au.out L ac w0 B g s b d lv (N++l.map (ai (N.length:Int))) W (x,⟨a1,O,0⟩) h hs V hd M hq ax rfl)
    have J:=aJ Y
    clear p S X t P hq hG M Y;go_wp2_with fail;go_quiet ((go_at_call 104;exact Calls.quiet_of (m.out _)));have j:=aJ (c.out.drewN nq);generalize wr.drewN nq=W6 at *;clear c m;have c:=aJ j.out;clear j;clear q1 q2 c0 c1
    ·obtain⟨g1,g2,g3,g4,g5⟩:=HG.out.ok rfl
     replace g1:O=d:=g1
     replace g2:b≤a1:=g2
     replace g3:a1≤s.size:=g3
     replace g5:x.length+2≤2*(a1-b)+1:=g5
     subst g1;have ae:=aJ ((HC.out W6 c.out).mono fun e w' h=>h.ok rfl)
     have Q:Hid (aI (bs s) L (if l.length=0 then x else az 3 l x) ⟨a1,O,0⟩=some R):=aJ (by have:=J.out;rwa [if_pos (by first|rfl|trivial)] at this)
     clear HC J c HG;go_wp2_with fail;refine(ae.out).mono ?_;rintro e W7 ⟨rfl,ad,z⟩;have E:=aJ z;clear z ae;rcases hl with⟨rfl,rfl⟩|⟨r,T,U⟩
     ·have D:xG N []= -1:=rfl
      rw[D];have ar:Hid (RP w0 W7 B g s a1 O ad (N++x.map (ai (N.length:Int)))):=aJ (by have:=E.out;simpa using this)
      have aj:Hid (gz (N++([]:List Nd).map (ai (N.length:Int))) x=xG N x):=aJ (by rw[(gN g4).1];simp)
      have I:Hid (aI (bs s) L x ⟨a1,O,0⟩=some R):=aJ Q.out
      rw[aj.out];have hb:=gN (N:=N) g4;clear E Q D;go_wp2_with fail;go_roundw
      case rel=>exact⟨L,x,a1,ad,ac,by rw[hb.1],bY ⟨g4,g5,g2⟩,g3,ar,I⟩
      case measure=>
       simp[intOf];have h7:=yG N;have h8:=hb.1;have h9:=hb.2;omega
     ·obtain⟨u1,_⟩:=gN (N:=N) r;rw[u1];have ah:=aJ (kq 3 l x N.length (by decide) g4)
      have Z:(N++l.map (ai (N.length:Int))).length=N.length+l.length:=by rw[bF,bL]
      have ao:gz (N++l.map (ai (N.length:Int))) x=(N.length:Int)+l.length+x.length-1:=by unfold gz;rw[Z];push_cast;rfl
      rw[Z] at E;have ay:(az 3 l x).length=l.length+x.length+1:=cJ _ _ _;have an:gz N (az 3 l x)=(N.length:Int)+l.length+x.length:=by unfold gz;rw[ay];omega
      have al:=gN (N:=N) (l:=az 3 l x) (by omega)
      have C:=aJ (mu w0 B g s a1 O ad _ W7 E.out (by
       rw[bF,bF,bL,bL];unfold Room at hN
       omega) 3 (gz N l) ((N.length:Int)+l.length+x.length-1))
      rw[ao];have aB:gz N l=(N.length:Int)+l.length-1:=rfl;have I:Hid (aI (bs s) L (az 3 l x) ⟨a1,O,0⟩=some R):=aJ (by have:=Q.out;rwa [if_neg (by omega)] at this)
      clear ao Q;go_wp2_with fail;refine(C.out).mono ?_;rintro e W8 ⟨rfl,ap,z⟩;have av:Hid (RP w0 W8 B g s a1 O ap (N++(az 3 l x).map (ai (N.length:Int)))):=aJ (by
       rw[ah.out,←List.append_assoc,←List.append_assoc];exact z)
      have aj:Hid ((((N++l.map (ai (N.length:Int)))++x.map (ai ((N.length+l.length:Nat):Int))).length:Int)=xG N (az 3 l x)):=aJ (by
       rw[al.1,an,bF,bF,bL,bL]
       push_cast
       rfl)
      clear z C E ah;go_wp2_with fail;go_roundw
      case rel=>exact⟨L,az 3 l x,a1,ap,ac,(by rw[al.1,an];congr 1;omega),bY ⟨by omega,by omega,by omega⟩,g3,av,I⟩
      case measure=>
       simp[intOf];unfold Room at hN;omega
def CZ (F:Nat) (w0:World) (B g:Nat) (s:ByteArray) (a d:Nat) (N:List Nd) (R:List Nd×Ps) (v v5:Value) (wr:World):Prop:=
 ∃(f:Nat) (l:List Nd) (b:Nat) (lv:Value),f≤F∧v= .int .i64 (gz N l)∧v5= .int .i64 0∧0<l.length∧l.length≤2*(b-a)+1∧a≤b∧b≤s.size∧Hid (RP w0 wr B g s b d lv (N++l.map (ai (N.length:Int))))∧Hid (aX (bs s) f l ⟨b,d,0⟩=some R)
theorem iz {B:List Nat} {f:Nat} {l:List Nd} {q:Ps} {R:List Nd×Ps} (h:aX B f l q=some R) (a:¬(eF B q=true∧iO B q=124)):R=(l,q):=by
 cases f with
 |zero=>simp[aX] at h
 |succ f=>
  rw[aX,if_neg a] at h;exact(bQ h).symm
theorem Dn (F:Nat) (hA:∀k,k≤F→Cj k):zG (F+1):=by
 intro w0 B g s a d ao N w R h hs ha hd Z r ab E;have ah:=aJ E;rw[fM] at r;cases u:fK (bs s) F ⟨a,d,0⟩ with
 |none=>rw[u] at r;cases r
 |some lq=>
 rw[u] at r;obtain⟨l0,⟨a0,X,e0⟩⟩:=lq;simp only at r;obtain rfl:e0=0:=by
  by_cases he:e0=0
  ·exact he
  ·rw[iz r (fun h=>he ((aw _ _).1 h.1).1)] at E
   exact E
 have O:Good (bs s).length ⟨a,d,0⟩ l0 ⟨a0,X,0⟩ 0:=(cR (bs s) F).2.2.1 ⟨a,d,0⟩ (l0,⟨a0,X,0⟩) ⟨rfl,by rw[af];exact ha,hd⟩ u
 rw[af] at O;have T:=aJ O;have S:=aJ (hA F (bM _) w0 B g s a d ao N w (l0,⟨a0,X,0⟩) h hs ha hd Z u ab rfl);have z:=aJ r;have aj:=aJ (fun k hk w0 B g s a d lv N w R h1 h2 h3 h4 h5 h6=>hA k hk w0 B g s a d lv N w R h1 h2 h3 h4 h5 h6)
 have ar:Hid (N.length≤100000):=aJ Z.len
 clear h r O u hA E;go_enter Tryz.func103,Tryz.ntmps103;have m:Hid (∀e w',GPost w0 B g s d N (l0,⟨a0,X,0⟩) e w'→∃v v5,e= .returned (.tuple #[v,v5])∧CZ F w0 B g s a d N R v v5 w'):=aJ (by
  intro e w' hp;obtain⟨M,g2,Y,g4,g5⟩:=T.out.ok rfl
  replace M:X=d:=M
  subst M;obtain⟨rfl,ap,P⟩:=hp.ok rfl;exact⟨_,_,rfl,F,l0,a0,ap,bM _,rfl,rfl,g4,g5,g2,Y,P,z.out⟩)
 have y:=aJ (S.out.mono fun e w' h=>m.out e w' h)
 clear S m z T;go_wp2_with fail;refine(y.out).mono ?_;rintro e _ ⟨v4,v5,rfl,A⟩;have G:=aJ A;clear A y;go_wp2_with fail;go_loopw [4,5] (fun s4 s5 wr=>CZ F w0 B g s a d N R s4 s5 wr) (fun s4 s5 _=>2*(200000-intOf s4).toNat+(if intOf s5=0 then 1 else 0))
 case atStart=>exact G.out
 case round=>
  clear G;obtain⟨f,l,b,lv,_,rfl,rfl,_,_,_,_,c,Q⟩:=hrel
  ·have t:=fun n=>gP w0 B g s b d lv _ (wr.drewN n) (c.out.drewN n) (by omega)
   by_cases p:b=s.size
   ·have HE:Hid (R=(l,⟨b,d,0⟩)):=aJ (iz Q.out (fun h=>by have h2:=((aw _ _).1 h.1).2;rw[af] at h2;simp only at h2;omega))
    rw[decide_eq_true p] at t;have j:=aJ t;clear t p Q;go_wp2_with fail;go_quiet ((go_at_call 104;exact Calls.quiet_of (j.out _)));have i:=aJ (c.out.drewN nq);generalize wr.drewN nq=W6 at *;clear c j;have c:=aJ i.out;clear i;have K:=aJ c.out;clear c;go_wp2_with fail;go_ret2;rw[HE.out];exact⟨fun _=>⟨rfl,lv,K.out⟩⟩
   ·have ad:b<s.size:=by omega
    have D:=aJ (dP s b ad)
    have i3:(0:Int)≤(b:Int):=by omega
    have i4:(b:Int)<(s.size:Int):=by omega
    have i5:(s.size:Int)≤10000:=by omega
    rw[decide_eq_false p] at t;have j:=aJ t;clear t p;obtain⟨c0,c1,c2,c3,f1,f2,f3⟩:=c.out.cells;clear c2 c3 f1 f2 f3
    by_cases o:s[b].toNat=124
    ·obtain⟨H,ac,x,q,u,r⟩:∃H,H≤F∧∃x q,fK (bs s) H ⟨b+1,d,0⟩=some (x,q)∧(if q.e=0 then aX (bs s) H (az 4 l x) q else some ([],q))=some R:=by
      have h:=Q.out
      cases f with
      |zero=>simp[aX] at h
      |succ f=>
       rw[aX,if_pos ⟨(aw _ _).2 ⟨rfl,by rw[af];exact ad⟩,D.out.trans o⟩,show fc ⟨b,d,0⟩=(⟨b+1,d,0⟩:Ps) from rfl] at h
       cases u:fK (bs s) f ⟨b+1,d,0⟩ with
       |none=>rw[u] at h;cases h
       |some xq=>
        rw[u] at h;exact⟨f,by omega,xq.1,xq.2,u,h⟩
     have q1:(((s[b].toNat:Nat):Int)==124)=true:=by simp;omega
     obtain⟨a1,L,e1⟩:=q;obtain rfl:e1=0:=by
      by_cases he:e1=0
      ·exact he
      ·rw[if_neg he] at r;have h2:=ah.out;rw[←bQ r] at h2;exact h2
     have O:Good (bs s).length ⟨b+1,d,0⟩ x ⟨a1,L,0⟩ 0:=(cR (bs s) H).2.2.1 ⟨b+1,d,0⟩ (x,⟨a1,L,0⟩) ⟨rfl,by rw[af];show b+1≤_;omega,hd⟩ u
     rw[af] at O;have T:=aJ O;have C:Room s (b+1) (N++l.map (ai (N.length:Int))):=by
      unfold Room at Z ⊢;rw[bF,bL];omega
     have S:=aJ (fun W h=>aj.out H ac w0 B g s (b+1) d lv (N++l.map (ai (N.length:Int))) W (x,⟨a1,L,0⟩) h hs (by omega) hd C u ab rfl)
     have z:=aJ r
     clear o Q D u O C r;go_wp2_with fail;go_quiet ((go_at_call 104;exact Calls.quiet_of (j.out _)));have i:=aJ (c.out.drewN nq);generalize wr.drewN nq=W6 at *;clear c j;have c:=aJ i.out;clear i;clear q1 c0 c1;obtain⟨c0,c1,c2,c3,f1,f2,f3⟩:=c.out.cells;clear c0 c2 c3 f2 f3;have U:Hid (RP w0 (W6.setCell ⟨g,1,none⟩ (.int .i64 ((b:Int)+1))) B g s (b+1) d lv (N++l.map (ai (N.length:Int)))):=aJ (by
      have:=c.out.at_ (b+1)
      rw[show((b+1:Nat):Int)=(b:Int)+1 by omega] at this
      exact this)
     go_upto_region 4 with fail
     clear c1 f1 c;generalize W6.setCell ⟨g,1,none⟩ (.int .i64 ((b:Int)+1))=W5 at *
     ·obtain⟨M,g2,Y,g4,g5⟩:=T.out.ok rfl
      replace M:L=d:=M
      replace g2:b+1≤a1:=g2
      replace Y:a1≤s.size:=Y
      replace g5:x.length+0≤2*(a1-(b+1))+1:=g5
      subst M;have y:=aJ ((S.out W5 U.out).mono fun e w' h=>h.ok rfl)
      have al:Hid (aX (bs s) H (az 4 l x) ⟨a1,L,0⟩=some R):=aJ (by have:=z.out;rwa [if_pos (by first|rfl|trivial)] at this)
      clear S z U T;go_wp2_with fail;refine(y.out).mono ?_;rintro e W7 ⟨rfl,aq,P⟩;have J:=aJ P;clear P y;have V:=aJ (kq 4 l x N.length (by decide) g4)
      have I:(N++l.map (ai (N.length:Int))).length=N.length+l.length:=by rw[bF,bL]
      have ae:gz (N++l.map (ai (N.length:Int))) x=(N.length:Int)+l.length+x.length-1:=by unfold gz;rw[I];push_cast;rfl
      rw[I] at J;have am:(az 4 l x).length=l.length+x.length+1:=cJ _ _ _;have an:gz N (az 4 l x)=(N.length:Int)+l.length+x.length:=by unfold gz;rw[am];omega
      have HA:=aJ (mu w0 B g s a1 L aq _ W7 J.out (by
       rw[bF,bF,bL,bL];unfold Room at Z
       omega) 4 (gz N l) ((N.length:Int)+l.length+x.length-1))
      rw[ae];have au:gz N l=(N.length:Int)+l.length-1:=rfl;clear ae;go_wp2_with fail;refine(HA.out).mono ?_;rintro e W8 ⟨rfl,ag,P⟩;have ak:Hid (RP w0 W8 B g s a1 L ag (N++(az 4 l x).map (ai (N.length:Int)))):=aJ (by
       rw[V.out,←List.append_assoc,←List.append_assoc];exact P)
      clear P HA J V;go_wp2_with fail;go_roundw
      case rel=>exact⟨H,az 4 l x,a1,ag,ac,(by rw[an];congr 1;omega),rfl,by omega,by omega,by omega,Y,ak,al⟩
      case measure=>
       simp[intOf];unfold Room at Z;omega
    ·have HE:Hid (R=(l,⟨b,d,0⟩)):=aJ (iz Q.out (fun h=>o (D.out.symm.trans h.2)))
     have q1:(((s[b].toNat:Nat):Int)==124)=false:=by simp;omega
     clear o Q D;go_wp2_with fail;go_quiet ((go_at_call 104;exact Calls.quiet_of (j.out _)));have i:=aJ (c.out.drewN nq);generalize wr.drewN nq=W6 at *;clear c j;have c:=aJ i.out;clear i;clear q1 c0 c1;have K:=aJ c.out;clear c;go_wp2_with fail;go_ret2;rw[HE.out];exact⟨fun _=>⟨rfl,lv,K.out⟩⟩
def ur (w:World) (r:List Nd×Int) (e:Ending) (w':World):Prop:=∃v,e= .returned (.tuple #[v,.int .i64 r.2])∧Own w' w.heap.size 276 7 v r.1.length (cI r.1)∧Old w w'
def ClN (l:List Nd):Prop:=∀x∈l,ai 0 x=x
theorem ClN.nil_:ClN []:=fun x h=>by cases h
theorem ClN.leaf (k:Int) (z:BSet) (hk:fT k=0):ClN (bd k z):=by
 intro x hx;simp[bd] at hx;subst hx;simp[ai,dO,hk]
theorem ClN.join1 {k:Int} {l:List Nd} (hk:fT k=1) (a:ClN l):ClN (az k l []):=by
 intro x hx;unfold az at hx;rcases List.mem_append.mp hx with hx|hx
 ·rcases List.mem_append.mp hx with hx|hx
  ·exact a x hx
  ·simp at hx
 ·simp at hx
  subst hx;simp[ai,dO,hk]
theorem ClN.join2 {k:Int} {l r:List Nd} (hk:fT k=2) (a:ClN l):ClN (az k l r):=by
 intro x hx;unfold az at hx;rcases List.mem_append.mp hx with hx|hx
 ·rcases List.mem_append.mp hx with hx|hx
  ·exact a x hx
  ·obtain⟨y,hy,rfl⟩:=List.mem_map.mp hx;rw[hM]
   congr 1
   omega
 ·simp at hx
  subst hx;simp[ai,dO,hk]
theorem oY (B:List Nat):∀f:Nat,
  (∀p R,fM B f p=some R→ClN R.1)∧(∀l p R,ClN l→aX B f l p=some R→ClN R.1)∧(∀p R,fK B f p=some R→ClN R.1)∧
  (∀l p R,ClN l→aI B f l p=some R→ClN R.1)∧(∀p R,dT B f p=some R→ClN R.1)∧(∀l p R,ClN l→ar B f l p=some R→ClN R.1)∧
  (∀p R,ef B f p=some R→ClN R.1):=by
 intro f
 induction f with
 |zero=>
  refine⟨?_,?_,?_,?_,?_,?_,?_⟩
  ·intro p R h;simp[fM] at h
  ·intro l p R _ h;simp[aX] at h
  ·intro p R h;simp[fK] at h
  ·intro l p R _ h;simp[aI] at h
  ·intro p R h;simp[dT] at h
  ·intro l p R _ h;simp[ar] at h
  ·intro p R h;simp[ef] at h
 |succ f ih=>
  obtain⟨j,c,k,d,i,a,g⟩:=ih;refine⟨?_,?_,?_,?_,?_,?_,?_⟩
  ·intro p R h;rw[fM] at h;split at h
   ·cases h
   ·rename_i l q e
    exact c l q R (k p (l,q) e) h
  ·intro l p R b h;rw[aX] at h;split at h
   ·split at h
    ·cases h
    ·rename_i x q e
     split at h
     ·exact c _ q R (ClN.join2 (by decide) b) h
     ·injection h with h;subst h;exact ClN.nil_
   ·injection h with h;subst h;exact b
  ·intro p R h;rw[fK] at h;exact d [] p R ClN.nil_ h
  ·intro l p R b h;rw[aI] at h;split at h
   ·split at h
    ·cases h
    ·rename_i x q e
     split at h
     ·refine d _ q R ?_ h;split
      ·exact i _ (x,q) e
      ·exact ClN.join2 (by decide) b
     ·injection h with h;subst h;exact ClN.nil_
   ·injection h with h;subst h
    show ClN (if l.length=0 then bd 1 0 else l)
    split
    ·exact ClN.leaf _ _ (by decide)
    ·exact b
  ·intro p R h;rw[dT] at h;split at h
   ·cases h
   ·rename_i l q e
    exact a l q R (g p (l,q) e) h
  ·intro l p R b h;rw[ar] at h;split at h
   ·split at h
    ·exact a _ _ R (ClN.join1 (by decide) b) h
    ·split at h
     ·exact a _ _ R (ClN.join1 (by decide) b) h
     ·split at h
      ·exact a _ _ R (ClN.join1 (by decide) b) h
      ·injection h with h;subst h;exact b
   ·injection h with h;subst h;exact b
  ·intro p R h;rw[ef] at h;simp only at h;split at h
   ·injection h with h;subst h;exact ClN.leaf _ _ (by decide)
   split at h
   ·injection h with h;subst h;exact ClN.leaf _ _ (by decide)
   split at h
   ·injection h with h;subst h;exact ClN.leaf _ _ (by decide)
   split at h
   ·injection h with h;subst h;exact ClN.leaf _ _ (by decide)
   split at h
   ·split at h
    ·cases h
    ·rename_i s r e
     injection h with h;subst h;exact ClN.leaf _ _ (by decide)
   split at h
   ·injection h with h;subst h;exact ClN.leaf _ _ (by decide)
   split at h
   ·injection h with h;subst h;exact ClN.leaf _ _ (by decide)
   split at h
   ·split at h
    ·injection h with h;subst h;exact ClN.nil_
    ·split at h
     ·cases h
     ·rename_i l r e
      injection h with h;subst h;exact j _ (l,r) e
   ·injection h with h;subst h;exact ClN.leaf _ _ (by decide)
theorem ClN.map_ {l:List Nd} (h:ClN l):l.map (ai 0)=l:=by
 rw[List.map_congr_left (g:=id) (fun x hx=>h x hx),List.map_id]
theorem CQ:∀f:Nat,zG f∧Cj f∧xk f∧xC f:=by
 intro f
 induction f using Nat.strongRecOn with
 |_ f ih=>
  cases f with
  |zero=>
   refine⟨?_,?_,?_,?_⟩
   ·intro w0 B g s a d lv N w R _ _ _ _ _ h _ _;simp[fM] at h
   ·intro w0 B g s a d lv N w R _ _ _ _ _ h _ _;simp[fK] at h
   ·intro w0 B g s a d lv N w R _ _ _ _ _ h _ _;simp[dT] at h
   ·intro w0 B g s a d lv N w R _ _ _ _ _ h _ _;simp[ef] at h
  |succ f=>
   exact⟨Dn f (fun k hk=>(ih k (by omega)).2.1),DC f (fun k hk=>(ih k (by omega)).2.2.1),Cx f (ih f (by omega)).2.2.2,CP f (ih f (by omega)).1⟩
theorem RP.begin (s:ByteArray) (w:World):RP w (w.alloc (Cv s 0 0 (.slice none 0 0))) (w.heap.size+1) w.heap.size s 0 0 (.slice none 0 0) []:=
 ⟨(Old.refl w).alloc _,aM w _,Own.nil_ _ _ _ _,bM _,by omega,by simp⟩
theorem nG (f:Nat) (s:ByteArray) (r:List Nd×Int) (w:World) (g:eo f (bs s)=some r) (B:NoB s) (b:r.2=0):Calls Tryz.prog 51 #[.string s] w (ur w r):=by
 unfold eo at g;rw[af] at g
 by_cases C:128<s.size
 ·rw[if_pos C] at g;rw[←bQ g] at b;exact absurd b (by decide)
 rw[if_neg C] at g;cases m:fM (bs s) f ⟨0,0,0⟩ with
 |none=>rw[m] at g;cases g
 |some lp=>
 rw[m] at g;obtain⟨l,⟨a,d,e⟩⟩:=lp;have y:Good (bs s).length ⟨0,0,0⟩ l ⟨a,d,e⟩ 0:=(cR (bs s) f).1 ⟨0,0,0⟩ (l,⟨a,d,e⟩) ⟨rfl,bO _,bO _⟩ m;rw[af] at y;have t:=((oY (bs s) f).1 ⟨0,0,0⟩ (l,⟨a,d,e⟩) m).map_;have J:¬(128:Int)<(s.size:Int):=by omega
 have c:r=(if(if(if e=0∧a<s.size then ay ⟨a,d,e⟩ 83 else⟨a,d,e⟩:Ps).e=0∧256<l.length then ay (if e=0∧a<s.size then ay ⟨a,d,e⟩ 83 else⟨a,d,e⟩) 1 else(if e=0∧a<s.size then ay ⟨a,d,e⟩ 83 else⟨a,d,e⟩):Ps).e=0 then(l,0) else([],(if(if e=0∧a<s.size then ay ⟨a,d,e⟩ 83 else⟨a,d,e⟩:Ps).e=0∧256<l.length then ay (if e=0∧a<s.size then ay ⟨a,d,e⟩ 83 else⟨a,d,e⟩) 1 else(if e=0∧a<s.size then ay ⟨a,d,e⟩ 83 else⟨a,d,e⟩):Ps).e)):=(bQ g).symm
 obtain rfl:e=0:=by
  by_cases F:e=0
  ·exact F
  ·rw[c] at b;simp[F] at b
 obtain rfl:a=s.size:=by
  by_cases u:a=s.size
  ·exact u
  ·have h1:=(y.ok rfl).2.2.1
   have h2:a<s.size:=by
    replace h1:a≤s.size:=h1
    omega
   rw[c] at b;simp[h2,ay] at b
 have i:¬256<l.length:=fun i=>by
  rw[c] at b;simp[i,ay] at b
 have E:=(CQ f).1 w (w.heap.size+1) w.heap.size s 0 0 (.slice none 0 0) [] (w.alloc (Cv s 0 0 (.slice none 0 0))) (l,⟨s.size,d,0⟩) (RP.begin s w) (by omega) (bO _) (bO _) (by unfold Room;simp;omega) m B rfl
 have q:=aJ c
 have z:=aJ E
 have D:=aJ y
 have o:=aJ t
 have hsz:s.size≤128:=by omega
 clear E g c y m C t b;unfold Cv at z;go_enter Tryz.func51,Tryz.ntmps51
 ·obtain⟨A,_,_,_,_⟩:=D.out.ok rfl
  replace A:d=0:=A
  subst A;have n:=aJ (z.out.mono fun e w' h=>h.ok rfl)
  clear z;go_wp2_with fail;refine(n.out).mono ?_;rintro e V ⟨rfl,lv,G⟩;have x:Hid (RP w V (w.heap.size+1) w.heap.size s s.size 0 lv l):=aJ (by
   have h2:l.map (ai 0)=l:=o.out
   have:=G
   simp only[List.nil_append,List.length_nil] at this;rw[show(((0:Nat):Int))=0 from rfl,h2] at this
   exact this)
  have k:=gP w (w.heap.size+1) w.heap.size s s.size 0 lv l V x.out (by omega)
  clear G n o D;rw[decide_eq_true (rfl:s.size=s.size)] at k;have p:=aJ k;clear k;obtain⟨_,_,rfl,_,_,_⟩:=x.out.own.shape;have H:Hid (r=(l,0)):=aJ (by rw[q.out];simp[i])
  have K:¬(256:Int)<(l.length:Int):=by omega
  clear q i;go_wp2_with fail;refine(p.out).mono ?_;rintro e W2 ⟨rfl,n2,rfl⟩;have j:=aJ (x.out.drewN n2);generalize V.drewN n2=W3 at *;have I:=aJ j.out.old;obtain⟨_,_,_,_,_,_,_⟩:=j.out.cells;clear x p;go_wp2_with fail;go_ret2;rw[H.out];exact⟨_,rfl,j.out.own.base (by omega),I.out⟩
theorem yN:(Tryz.prog.info? 213).map (fun i=>(i.zero,i.size,i.bytes))=some (some (.agg #[.int .i64 0,.int .i64 0,.int .i64 0,.int .u64 0,.int .u64 0,.int .u64 0,.int .u64 0]),7,56):=by kernel_rfl
theorem lG {w:World} {B:Nat} {e:TypeId} {s:Nat} {v:Value} {n:Nat} {xs:List Value} (h:Own w B e s v n xs) {k:Nat} (hk:k<B):some k≠v.ownBlock:=by
 intro e;have:=(bU h k e.symm).1;omega
theorem yx (w:World) (g i:Nat) (v:Value):w.grownBy (w.setCell ⟨g,i,none⟩ v) (some g):=⟨rfl,rfl,rfl,by simp,fun k _ hk=>aL w ⟨g,i,none⟩ k _ (fun e=>hk (by simp[e]))⟩
def DN (An:Option Addr) (ln cn:Nat) (sv:Value):Obj:= .cells #[.slice An ln cn,sv] 208 (0,0)
structure NB (w0 w:World) (B g:Nat) (An:Option Addr) (ln cn:Nat) (sv:Value) (S:List Nd):Prop where
 old:Old w0 w
 blk:w.heap[g]? =some (DN An ln cn sv)
 own:Own w B 213 7 sv S.length (cI S)
 bg:w0.heap.size≤g
 lg:g<B
 lB:B≤w.heap.size
def Far (w w':World) (g:Nat) (sv a:Value):Prop:=w.heap.size≤w'.heap.size∧∀k,k<w.heap.size→k≠g→sv.ownBlock≠some k→w'.heap[k]? =w.heap[k]?∧a.ownBlock≠some k
theorem Far.trans {a b c:World} {g:Nat} {s1 f j:Value} (h:Far a b g s1 f) (k:Far b c g f j):Far a c g s1 j:=by
 refine⟨bN h.1 k.1,fun i e d hs=>?_⟩
 obtain⟨l,m⟩:=h.2 i e d hs;obtain⟨n,o⟩:=k.2 i (Nat.lt_of_lt_of_le e h.1) d m;exact⟨n.trans l,o⟩
theorem Far.of_old {a b:World} (h:Old a b) (g:Nat) (sv:Value):Far a b g sv sv:=⟨h.size,fun k hk _ hs=>⟨h.out.block k hk,hs⟩⟩
theorem Far.old_ {a b c:World} {g:Nat} {s1 d:Value} (h:Old a b) (k:Far b c g s1 d):Far a c g s1 d:=(Far.of_old h g s1).trans k
theorem Far.blk {a b:World} {g:Nat} {s1 c:Value} (h:Far a b g s1 c) {k:Nat} {o:Obj} (hk:a.heap[k]? =some o) (d:k≠g) (hs:s1.ownBlock≠some k):b.heap[k]? =some o∧c.ownBlock≠some k:=by
 obtain⟨e,f⟩:=h.2 k (aQ hk) d hs;exact⟨e.trans hk,f⟩
theorem NB.up {w0 w w':World} {B g ln cn:Nat} {An:Option Addr} {sv:Value} {S:List Nd} (h:NB w0 w B g An ln cn sv S) (a:Old w w'):NB w0 w' B g An ln cn sv S:=
 ⟨h.old.up a,a.block h.blk,h.own.up a,h.bg,h.lg,bN h.lB a.size⟩
theorem NB.cells {w0 w:World} {B g ln cn:Nat} {An:Option Addr} {sv:Value} {S:List Nd} (h:NB w0 w B g An ln cn sv S):
  w.cell? ⟨g,0,none⟩=some (.slice An ln cn)∧w.cell? ⟨g,1,none⟩=some sv∧w.frozen? ⟨g,1,none⟩=false:=
 ⟨by rw[aK w g 0 _ _ _ h.blk];rfl,by rw[aK w g 1 _ _ _ h.blk];rfl,aN w g 1 _ _ h.blk⟩
theorem vt (S:List Nd) (x:Nd):cI (S++[x])=cI S++ao x:=by unfold cI;rw[List.flatMap_append];simp
structure NF (w0:World) (B g ko:Nat) (An:Option Addr) (ln cn:Nat) (lv v12:Value) (N:List Nd) (x:Nd) (b6 b7 b10:Bool) (W ww:World):Prop where
 base:b7=false→NB w0 ww B g An ln cn lv N∧Old W ww
 row:b6=true→b7=false→ww.heap[ko]? =some (.cells (ao x).toArray 213 (0,0))
 app:b7=true→b10=false→(w0.heap.size≤g∧g<B∧B≤ww.heap.size∧Old w0 ww∧ww.heap[g]? =some (DN An ln cn lv)∧Own ww B 213 7 v12 (N.length+1) (cI (N++[x])))∧Far W ww g lv v12
 fin:b10=true→NB w0 ww B g An ln cn v12 (N++[x])∧Far W ww g lv v12
theorem NF.mk6 {w0:World} {B g ko ln cn:Nat} {An:Option Addr} {lv v12:Value} {N:List Nd} {x:Nd} {W ww:World} (h:NF w0 B g ko An ln cn lv v12 N x false false false W ww):
  NF w0 B g ww.heap.size An ln cn lv v12 N x true false false W (ww.alloc (.cells (ao x).toArray 213)):=
 ⟨fun _=>⟨(h.base rfl).1.up ((Old.refl ww).alloc _),(h.base rfl).2.alloc _⟩,fun _ _=>aM _ _,fun e=>(by cases e),fun e=>(by cases e)⟩
theorem NF.mk7 {w0:World} {B g ko ln cn:Nat} {An:Option Addr} {lv v12:Value} {N:List Nd} {x:Nd} {W ww w':World} {v':Value} (h:NF w0 B g ko An ln cn lv v12 N x true false false W ww)
  (m:Own w' B 213 7 v' (N.length+1) (cI N++ao x)) (c:ww.grownBy w' lv.ownBlock) (b:v'.ownBlock=lv.ownBlock∨∃j,v'.ownBlock=some j∧ww.heap.size≤j):NF w0 B g ko An ln cn lv v' N x true true false W w':=by
 have a:=(h.base rfl).1
 have f:=(h.base rfl).2
 refine⟨fun e=>(by cases e),fun _ e=>(by cases e),fun _ _=>⟨⟨a.bg,a.lg,bN a.lB c.size,Own.grown_old a.old a.own (bN a.bg (Nat.le_of_lt a.lg)) c,(c.block g (aQ a.blk) (lG a.own a.lg)).trans a.blk,?_⟩,?_⟩,fun e=>(by cases e)⟩
 ·rw[vt];exact m
 ·refine⟨bN f.size c.size,fun k hk l d=>⟨(c.block k (Nat.lt_of_lt_of_le hk f.size) (fun e=>d e.symm)).trans (f.out.block k hk),fun e=>?_⟩⟩
  rcases b with b|⟨j,hj,i⟩
  ·exact d (b.symm.trans e)
  ·rw[hj] at e;injection e with e
   have:=f.size
   omega
theorem NF.mk10 {w0:World} {B g ko ln cn:Nat} {An:Option Addr} {lv v12:Value} {N:List Nd} {x:Nd} {b6:Bool} {W ww:World} (h:NF w0 B g ko An ln cn lv v12 N x b6 true false W ww):NF w0 B g ko An ln cn lv v12 N x b6 true true W (ww.setCell ⟨g,1,none⟩ v12):=by
 obtain⟨⟨h1,h2,f,i,j,c⟩,d⟩:=h.app rfl rfl;have l:(N++[x]).length=N.length+1:=by simp
 refine⟨fun e=>(by cases e),fun _ e=>(by cases e),fun _ e=>(by cases e),fun _=>⟨⟨i.setCell h1 _,aO ww g 1 _ _ _ j,?_,h1,h2,by simpa using f⟩,?_⟩⟩
 ·rw[l];exact bT c (yx ww g 1 _) (bY (fun e=>lG c h2 e.symm))
 ·refine⟨by simpa using d.1,fun k hk a b=>?_⟩
  obtain⟨m,n⟩:=d.2 k hk a b;exact⟨(aL ww ⟨g,1,none⟩ k _ (fun e=>a e)).trans m,n⟩
def NDI (w0 W:World) (B g k5:Nat) (An:Option Addr) (ln cn:Nat) (lv:Value) (N:List Nd) (x:Nd) (a:Array Bool) (e:Act) (ww:World):Prop:=
 ∃(b b1 b2 b3 b4 c b6 b7 d b9 b10:Bool) (ko:Nat) (v12:Value),a=#[b,b1,b2,b3,b4,c,b6,b7,d,b9,b10]∧
  e={tmps:=#[.pointer (some ⟨g,0,none⟩),.agg #[.int .i64 x.kind,.int .i64 x.left,.int .i64 x.right,.int .u64 (ab x.set 0),.int .u64 (ab x.set 1),.int .u64 (ab x.set 2),.int .u64 (ab x.set 3)],aR,.pointer (some ⟨k5,0,none⟩),.int .i64 0,cond b (.pointer (some ⟨g,0,none⟩)) (aR),cond b1 (.pointer (some ⟨g,0,none⟩)) (aR),cond b2 (.pointer (some ⟨g,0,none⟩)) (aR),cond b3 (.pointer (some ⟨g,1,none⟩)) (aR),cond b4 (lv) (aR),cond c (.agg #[.int .i64 x.kind,.int .i64 x.left,.int .i64 x.right,.int .u64 (ab x.set 0),.int .u64 (ab x.set 1),.int .u64 (ab x.set 2),.int .u64 (ab x.set 3)]) (aR),cond b6 (.slice (some ⟨ko,0,none⟩) 1 1) (aR),cond b7 (v12) (aR),cond d (.pointer (some ⟨g,0,none⟩)) (aR),cond b9 (.pointer (some ⟨g,1,none⟩)) (aR),aR,aR,aR,aR,aR,aR],defers:=[]}∧NF w0 B g ko An ln cn lv v12 N x b6 b7 b10 W ww
def DI (w0 w:World) (B g:Nat) (An:Option Addr) (ln cn:Nat) (lv:Value) (N:List Nd) (x:Nd) (e:Ending) (w':World):Prop:=e= .returned (.int .i64 (N.length:Int))∧∃lv',NB w0 w' B g An ln cn lv' (N++[x])∧Far w w' g lv lv'
def uN (x:Nd):Value:= .agg #[.int .i64 x.kind,.int .i64 x.left,.int .i64 x.right,.int .u64 (ab x.set 0),.int .u64 (ab x.set 1),.int .u64 (ab x.set 2),.int .u64 (ab x.set 3)]
theorem jy (w0:World) (B g:Nat) (An:Option Addr) (ln cn:Nat) (lv:Value) (N:List Nd) (w:World) (h:NB w0 w B g An ln cn lv N) (hn:N.length≤100000) (x:Nd):
  Calls Tryz.prog 106 #[.pointer (some ⟨g,0,none⟩),uN x] w (DI w0 w B g An ln cn lv N x):=by
 unfold uN;obtain⟨i,lf,rt,st⟩:=x;obtain⟨q,r,rfl,z,_,_⟩:=h.own.shape;have E:=aM w (.cells #[.int .i64 i,.int .i64 lf,.int .i64 rt,.int .u64 (ab st 0),.int .u64 (ab st 1),.int .u64 (ab st 2),.int .u64 (ab st 3)] 213);have n:=(Old.refl w).alloc (.cells #[.int .i64 i,.int .i64 lf,.int .i64 rt,.int .u64 (ab st 0),.int .u64 (ab st 1),.int .u64 (ab st 2),.int .u64 (ab st 3)] 213);have F:=aJ (h.up n);have s:=aJ E;have t:=aJ n;simp only;clear h z n E;go_enter Tryz.func106,Tryz.ntmps106;go_upto_region 1 with fail
 generalize P:w.alloc (.cells #[.int .i64 i,.int .i64 lf,.int .i64 rt,.int .u64 (ab st 0),.int .u64 (ab st 1),.int .u64 (ab st 2),.int .u64 (ab st 3)] 213)=W at *;have k:NF w0 B g 0 An ln cn (.slice q N.length r) aR N ⟨i,lf,rt,st⟩ false false false W W.drew:=⟨fun _=>⟨F.out.up (Old.refl W).drew,(Old.refl W).drew⟩,(fun e=>by cases e),(fun e=>by cases e),(fun e=>by cases e)⟩
 generalize I:w.heap.size=k5 at *;refine ah [([],[8,9,10]),([],[2,8,9,10,3,4,7]),([1],[3,8,9,10,4,7]),([2,1],[4,8,9,10,7]),([3,2,1],[7,8,9,10]),([],[6,8,9,10,7]),([5],[7,8,9,10]),([4,6,3,5,2,1],[8,9,10]),([0,1,2,3,4,5,6,7],[9,10]),([8,0,1,2,3,4,5,6,7],[10]),([9,7,0,1,2,3,4,5,6,8],[])] (NDI w0 W B g k5 An ln cn (.slice q N.length r) N ⟨i,lf,rt,st⟩) ?_ ?_ ⟨?_,?_,?_,?_,?_,?_,?_,?_,?_,?_,?_,trivial⟩
 ·exact⟨false,false,false,false,false,false,false,false,false,false,false,0,aR,rfl,rfl,k⟩
 ·rintro _ a ⟨_,b1,b2,b3,b4,_,b6,b7,_,b9,b10,ko,v12,l,rfl,c⟩;have m:=congrArg Array.toList l;simp at m;obtain⟨rfl,rfl,rfl,rfl,rfl,rfl,rfl,rfl,rfl,rfl,rfl⟩:=m;clear l;have f:=aJ (c.fin rfl);clear c k;obtain⟨A,C,rfl,_,_,_⟩:=f.out.1.own.shape;obtain⟨_,G,_⟩:=f.out.1.cells;have l:(N++[(⟨i,lf,rt,st⟩:Nd)]).length=N.length+1:=by simp
  rw[l] at G;clear l;go_wp2_with fail;go_ret;exact⟨rfl,_,f.out.1,Far.old_ t.out f.out.2⟩
 rotate_left 4
 ·rintro _ _ a K ⟨_,b1,b2,b3,b4,_,b6,b7,_,b9,b10,ko,v12,rfl,h2,c⟩ h d
  repeat obtain⟨rfl,h⟩:=h
  subst h2;have L:=(c.base rfl).1.cells.2.1;go_simp;apply d;iterate 11 apply bW
  exact⟨ko,v12,rfl,rfl,c⟩
 ·rintro _ _ a K ⟨_,b1,b2,b3,b4,_,b6,b7,_,b9,b10,ko,v12,rfl,h2,c⟩ h d
  repeat obtain⟨rfl,h⟩:=h
  subst h2;have b:=(c.base rfl).2.block s.out;have Q:a.cell? ⟨k5,0,none⟩=some (.int .i64 i):=by rw[aK a _ 0 _ _ _ b];rfl
  have L:a.cell? ⟨k5,1,none⟩=some (.int .i64 lf):=by rw[aK a _ 1 _ _ _ b];rfl
  have R:a.cell? ⟨k5,2,none⟩=some (.int .i64 rt):=by rw[aK a _ 2 _ _ _ b];rfl
  have S:a.cell? ⟨k5,3,none⟩=some (.int .u64 (ab st 0)):=by rw[aK a _ 3 _ _ _ b];rfl
  have T:a.cell? ⟨k5,4,none⟩=some (.int .u64 (ab st 1)):=by rw[aK a _ 4 _ _ _ b];rfl
  have U:a.cell? ⟨k5,5,none⟩=some (.int .u64 (ab st 2)):=by rw[aK a _ 5 _ _ _ b];rfl
  have V:a.cell? ⟨k5,6,none⟩=some (.int .u64 (ab st 3)):=by rw[aK a _ 6 _ _ _ b];rfl
  clear b;go_simp;apply d;iterate 11 apply bW
  exact⟨ko,v12,rfl,rfl,c⟩
 ·rintro _ _ a K ⟨_,b1,b2,b3,b4,_,b6,b7,_,b9,b10,ko,v12,rfl,h2,c⟩ h d
  repeat obtain⟨rfl,h⟩:=h
  subst h2;go_simp;apply d;iterate 11 apply bW
  exact⟨a.heap.size,v12,rfl,rfl,c.mk6⟩
 ·rintro _ _ a K ⟨_,b1,b2,b3,b4,_,b6,b7,_,b9,b10,ko,v12,rfl,h2,c⟩ h d
  repeat obtain⟨rfl,h⟩:=h
  subst h2;have D:=(c.base rfl).1;have p:=c.row rfl rfl;refine jN a (by rfl) _ _ 132 (by rfl) B 213 (.agg #[.int .i64 0,.int .i64 0,.int .i64 0,.int .u64 0,.int .u64 0,.int .u64 0,.int .u64 0]) 7 56 Tryz.underlying132 yN rfl (by decide) (by decide) (.slice q N.length r) N.length (cI N) (by rfl) D.own (some ⟨ko,0,none⟩) 1 1 (ao ⟨i,lf,rt,st⟩) (by rfl) (bY ⟨ko,0,rfl,fun j u J=>by rw[Nat.zero_add,aK a ko j _ _ _ p,List.getElem?_toArray];exact J⟩) rfl rfl (by omega) D.lB ?_
  intro v' w' n H y;apply d;iterate 11 apply bW
  exact⟨ko,v',rfl,rfl,c.mk7 n H y⟩
 rotate_left 2
 ·rintro _ _ a K ⟨_,b1,b2,b3,b4,_,b6,b7,_,b9,b10,ko,v12,rfl,h2,c⟩ h d
  repeat obtain⟨rfl,h⟩:=h
  subst h2;obtain⟨⟨_,_,_,_,b,o⟩,_⟩:=c.app rfl rfl;obtain⟨A,C,rfl,_,_,_⟩:=o.shape;have O:a.frozen? ⟨g,1,none⟩=false:=aN a g 1 _ _ b;have M:a.cell? ⟨g,1,none⟩=some (.slice q N.length r):=by rw[aK a g 1 _ _ _ b];rfl
  clear b o;go_simp;exact d _ _ ⟨true,true,true,true,true,true,true,true,true,true,true,ko,.slice A (N.length+1) C,rfl,rfl,c.mk10⟩
 all_goals
  rintro _ _ a K ⟨_,b1,b2,b3,b4,_,b6,b7,_,b9,b10,ko,v12,rfl,h2,c⟩ h d
  repeat obtain⟨rfl,h⟩:=h
  subst h2;go_simp;apply d;iterate 11 apply bW
  exact⟨ko,v12,rfl,rfl,c⟩
def Cf (w0 w:World) (B g:Nat) (An:Option Addr) (ln cn:Nat) (lv:Value) (r:List Nd×Nat) (e:Ending) (w':World):Prop:=e= .returned (.int .i64 (r.2:Int))∧∃lv',NB w0 w' B g An ln cn lv' r.1∧Far w w' g lv lv'
def NdAt (w:World) (k:Nat) (x:Nd):Prop:=w.heap[k]? =some (.cells (ao x).toArray 276 (0,0))
theorem NdAt.cells {w:World} {k:Nat} {x:Nd} (h:NdAt w k x):w.cell? ⟨k,0,none⟩=some (.int .i64 x.kind)∧w.cell? ⟨k,1,none⟩=some (.int .i64 x.left)∧w.cell? ⟨k,2,none⟩=some (.int .i64 x.right)∧
  w.cell? ⟨k,3,none⟩=some (.int .u64 (ab x.set 0))∧w.cell? ⟨k,4,none⟩=some (.int .u64 (ab x.set 1))∧w.cell? ⟨k,5,none⟩=some (.int .u64 (ab x.set 2))∧w.cell? ⟨k,6,none⟩=some (.int .u64 (ab x.set 3)):=
 ⟨by rw[aK w k 0 _ _ _ h];rfl,by rw[aK w k 1 _ _ _ h];rfl,by rw[aK w k 2 _ _ _ h];rfl,by rw[aK w k 3 _ _ _ h];rfl,by rw[aK w k 4 _ _ _ h];rfl,by rw[aK w k 5 _ _ _ h];rfl,by rw[aK w k 6 _ _ _ h];rfl⟩
theorem r7:∀(l:List Nd) (j:Nat) (x x':Nd) (i:Nat) (v:Value),l[j]? =some x→i<7→(ao x).set i v=ao x'→(cI l).set (j*7+i) v=cI (l.set j x')
 |[],j,x,x',i,v,h,_,_=>by simp at h
 |a::l,0,x,x',i,v,h,b,hv=>by
  simp at h;subst h
  have e:∀(a:Nd) l,cI (a::l)=ao a++cI l:=fun _ _=>rfl
  rw[List.set_cons_zero,e,e,←hv,Nat.zero_mul,Nat.zero_add,List.set_append_left _ _ (by simpa [ao] using b)]
 |a::l,j+1,x,x',i,v,h,b,hv=>by
  have ih:=r7 l j x x' i v (by simpa using h) b hv
  have e:∀(a:Nd) l,cI (a::l)=ao a++cI l:=fun _ _=>rfl
  have c:(ao a).length=7:=rfl
  rw[List.set_cons_succ,e,e,List.set_append_right _ _ (by rw[c];omega),c,show(j+1)*7+i-7=j*7+i by omega,ih]
theorem NB.put_ {w0 w:World} {B g ln cn a d i c:Nat} {An:Option Addr} {S:List Nd} {x x':Nd} (h:NB w0 w B g An ln cn (.slice (some ⟨a,0,none⟩) S.length d) S) (hx:S[i]? =some x) (v:Value) (hc:c<7) (hv:(ao x).set c v=ao x'):
  NB w0 (w.setCell ⟨a,i*7+c,none⟩ v) B g An ln cn (.slice (some ⟨a,0,none⟩) S.length d) (S.set i x')∧Far w (w.setCell ⟨a,i*7+c,none⟩ v) g (.slice (some ⟨a,0,none⟩) S.length d) (.slice (some ⟨a,0,none⟩) S.length d):=by
 obtain⟨h1,h2⟩:=h.own.set_ (i*7+c) v;rw[r7 S i x x' c v hx hc hv] at h1;have f:B≤a:=(bU h.own a rfl).1;have hne:a≠g:=by have:=h.lg;omega
 refine⟨⟨h.old.setCell (by have:=h.bg;have:=h.lg;simp only;omega) _,?_,by rw[bK];exact h1,h.bg,h.lg,by simpa using h.lB⟩,?_⟩
 ·rw[aL w ⟨a,i*7+c,none⟩ g v (fun e=>hne e.symm)]
  exact h.blk
 ·refine⟨by simp,fun k hk j b=>⟨aL w ⟨a,i*7+c,none⟩ k v (fun e=>b (by rw[e];rfl)),b⟩⟩
theorem NB.fresh {w0 w:World} {B g ln cn:Nat} {An:Option Addr} {sv:Value} {S:List Nd} (h:NB w0 w B g An ln cn sv S):w.heap.size≠g∧sv.ownBlock≠some w.heap.size:=
 ⟨by have:=h.lg;have:=h.lB;omega,fun e=>by have:=(bU h.own _ e).2;omega⟩
theorem Far.nd {a b:World} {g k:Nat} {s1 d:Value} {x:Nd} (h:Far a b g s1 d) (hk:NdAt a k x) (c:k≠g∧s1.ownBlock≠some k):NdAt b k x∧(k≠g∧d.ownBlock≠some k):=by
 obtain⟨e,f⟩:=h.blk hk c.1 c.2;exact⟨e,c.1,f⟩
theorem yz (w0:World) (B g:Nat) (An:Option Addr) (cn:Nat) (l:List Nd) (hr:Rs w0 An (cI l)) (hl:l.length≤256) (aD:∀x∈l,cg x.set) {a n:Nat} (hs:Sub l a n):
  ∀(f x:Nat) (S:List Nd) (lv:Value) (w:World),n<f→S.length+(n+1-a)≤1000→x≤1000→NB w0 w B g An l.length cn lv S→
  Calls Tryz.prog 107 #[.pointer (some ⟨g,0,none⟩),.int .i64 (n:Int),.int .i64 (x:Int)] w (Cf w0 w B g An l.length cn lv (cV l f n x S)):=by
 have HR:=aJ hr
 have aL:=aJ hl
 have aN:=aJ aD
 clear hr hl aD
 induction hs with
 |leaf n h hk h1 h2 h3=>
  intro f x S lv w hf hsz ai Y;obtain⟨f,rfl⟩:∃g,f=g+1:=⟨f-1,by omega⟩
  have hP:cV l (f+1) n x S=if(nd l n).kind=2 then(S++[⟨1,x,0,(nd l n).set⟩],S.length) else if(nd l n).kind=8 then(S++[⟨3,x,0,0⟩],S.length) else if(nd l n).kind=9 then(S++[⟨4,x,0,0⟩],S.length) else(S,x):=by
   rw[cV,if_neg (show¬(nd l n).kind=3 by omega),if_neg (show¬(nd l n).kind=4 by omega),if_neg (show¬(nd l n).kind=7 by omega),if_neg (show¬((nd l n).kind=5∨(nd l n).kind=6) by omega)]
  have L:=aJ hP
  have s:Hid (S.length≤100000):=aJ (by omega)
  clear hP hf h1 h2 h3;have HB:=aJ Y;have hx:l[n]? =some (nd l n):=by unfold nd;rw[bD,bE h];rfl
  obtain⟨b,off,rfl,al,i⟩:=(HR.out.up Y.old).at_ (by rw[aV];omega)
  have J:=cd l n _ hx
  have V:=i _ _ (J 0 (by omega))
  have c1:=i _ _ (J 1 (by omega))
  have c2:=i _ _ (J 2 (by omega))
  have c3:=i _ _ (J 3 (by omega))
  have c4:=i _ _ (J 4 (by omega))
  have c5:=i _ _ (J 5 (by omega))
  have c6:=i _ _ (J 6 (by omega))
  rw[←Nat.add_assoc] at V c1 c2 c3 c4 c5 c6;rw[Nat.add_zero] at V;obtain⟨e0,e1,_⟩:=Y.cells;have i0:(0:Int)≤((n:Nat):Int):=by omega
  have i1:((n:Nat):Int)<(l.length:Int):=by omega
  have P:=aJ Y.fresh
  clear hx J i al Y;generalize nd l n=y at *;obtain⟨M,lf,rt,st⟩:=y;simp only at hk L
  replace V:w.cell? ⟨b,off+n*7,none⟩=some (.int .i64 M):=V
  replace c1:w.cell? ⟨b,off+n*7+1,none⟩=some (.int .i64 lf):=c1
  replace c2:w.cell? ⟨b,off+n*7+2,none⟩=some (.int .i64 rt):=c2
  replace c3:w.cell? ⟨b,off+n*7+3,none⟩=some (.int .u64 (ab st 0)):=c3
  replace c4:w.cell? ⟨b,off+n*7+4,none⟩=some (.int .u64 (ab st 1)):=c4
  replace c5:w.cell? ⟨b,off+n*7+5,none⟩=some (.int .u64 (ab st 2)):=c5
  replace c6:w.cell? ⟨b,off+n*7+6,none⟩=some (.int .u64 (ab st 3)):=c6
  go_enter Tryz.func107,Tryz.ntmps107
  go_upto_region 2 with fail
  have G:NdAt (w.alloc (.cells (ao ⟨M,lf,rt,st⟩).toArray 276)) w.heap.size ⟨M,lf,rt,st⟩:=aM w _
  have q:=aJ ((Old.refl w).alloc (.cells (ao ⟨M,lf,rt,st⟩).toArray 276))
  have o:=aJ (HB.out.up q.out)
  generalize X:w.alloc (.cells #[.int .i64 M,.int .i64 lf,.int .i64 rt,.int .u64 (ab st 0),.int .u64 (ab st 1),.int .u64 (ab st 2),.int .u64 (ab st 3)] 276)=W;have I:w.alloc (.cells (ao ⟨M,lf,rt,st⟩).toArray 276)=W:=X;rw[I] at G q o;clear X I V c1 c2 c3 c4 c5 c6 e0 e1 HB;obtain⟨d0,d1,d2,d3,d4,d5,d6⟩:=G.cells;simp only at d0 d1 d2 d3 d4 d5 d6;have HK:=aJ G;clear G;generalize w.heap.size=k7 at *;rcases hk with rfl|rfl|rfl|rfl
  ·have T:Hid (cV l (f+1) n x S=(S,x)):=aJ (by rw[L.out];rfl)
   clear L;go_wp2_with fail;go_ret;rw[T.out];exact⟨rfl,lv,o.out,Far.of_old q.out g lv⟩
  ·have T:Hid (cV l (f+1) n x S=(S++[⟨1,x,0,st⟩],S.length)):=aJ (by rw[L.out];rfl)
   clear L;have C:=jy w0 B g (some ⟨b,off,none⟩) l.length cn lv S W o.out s.out ⟨1,x,0,st⟩;unfold uN at C;have p:=aJ C;clear C o;go_wp2_with fail;refine(p.out).mono ?_;rintro e w2 ⟨rfl,A,k,d⟩;have aj:=aJ k;have E:=aJ d;clear k d p;go_wp2_with fail;go_ret;rw[T.out];exact⟨rfl,A,aj.out,Far.old_ q.out E.out⟩
  ·have T:Hid (cV l (f+1) n x S=(S++[⟨3,x,0,0⟩],S.length)):=aJ (by rw[L.out];rfl)
   clear L;have C:=jy w0 B g (some ⟨b,off,none⟩) l.length cn lv S W o.out s.out ⟨3,x,0,0⟩;unfold uN at C;simp only[cy] at C;have p:=aJ C;clear C o;go_wp2_with fail;refine(p.out).mono ?_;rintro e w2 ⟨rfl,A,k,d⟩;have aj:=aJ k;have E:=aJ d;clear k d p;go_wp2_with fail;go_ret;rw[T.out];exact⟨rfl,A,aj.out,Far.old_ q.out E.out⟩
  ·have T:Hid (cV l (f+1) n x S=(S++[⟨4,x,0,0⟩],S.length)):=aJ (by rw[L.out];rfl)
   clear L;have C:=jy w0 B g (some ⟨b,off,none⟩) l.length cn lv S W o.out s.out ⟨4,x,0,0⟩;unfold uN at C;simp only[cy] at C;have p:=aJ C;clear C o;go_wp2_with fail;refine(p.out).mono ?_;rintro e w2 ⟨rfl,A,k,d⟩;have aj:=aJ k;have E:=aJ d;clear k d p;go_wp2_with fail;go_ret;rw[T.out];exact⟨rfl,A,aj.out,Far.old_ q.out E.out⟩
 |one a n h hk h1 h2 h3 hs ih=>
  intro f x S lv w hf hsz ai Y;obtain⟨f,rfl⟩:∃g,f=g+1:=⟨f-1,by omega⟩
  have aH:=hs.le
  have hL:(nd l (n+1)).left.toNat=n:=by omega
  have hP:cV l (f+1) (n+1) x S=if(nd l (n+1)).kind=7 then((cV l f n x S).1++[⟨2,(cV l f n x S).2,x,0⟩],(cV l f n x S).1.length) else((cV l f n S.length (S++[⟨2,0,x,0⟩])).1.set S.length ⟨2,(cV l f n S.length (S++[⟨2,0,x,0⟩])).2,x,0⟩,if(nd l (n+1)).kind=6 then(cV l f n S.length (S++[⟨2,0,x,0⟩])).2 else S.length):=by
   rw[cV,if_neg (show¬(nd l (n+1)).kind=2 by omega),if_neg (show¬(nd l (n+1)).kind=8 by omega),if_neg (show¬(nd l (n+1)).kind=9 by omega),if_neg (show¬(nd l (n+1)).kind=3 by omega),if_neg (show¬(nd l (n+1)).kind=4 by omega),hL]
   by_cases k7:(nd l (n+1)).kind=7
   ·rw[if_pos k7,if_pos k7]
   ·rw[if_neg k7,if_neg k7,if_pos (by omega)]
  have L:=aJ hP
  have ag:=aJ ih
  have ah:=aJ (fun x S=>ip hs f x S (by omega))
  have s:Hid (S.length+(n+1+1-a)≤1000):=aJ hsz
  have H:Hid (n<f):=aJ (by omega)
  have aO:=aH.1
  have H1:=aJ h1
  clear hP hf hL ih h1 h2 h3;have HB:=aJ Y;have hx:l[(n+1)]? =some (nd l (n+1)):=by unfold nd;rw[bD,bE h];rfl
  obtain⟨b,off,rfl,al,i⟩:=(HR.out.up Y.old).at_ (by rw[aV];omega)
  have J:=cd l (n+1) _ hx
  have V:=i _ _ (J 0 (by omega))
  have c1:=i _ _ (J 1 (by omega))
  have c2:=i _ _ (J 2 (by omega))
  have c3:=i _ _ (J 3 (by omega))
  have c4:=i _ _ (J 4 (by omega))
  have c5:=i _ _ (J 5 (by omega))
  have c6:=i _ _ (J 6 (by omega))
  rw[←Nat.add_assoc] at V c1 c2 c3 c4 c5 c6;rw[Nat.add_zero] at V;obtain⟨e0,e1,_⟩:=Y.cells;have i0:(0:Int)≤(((n+1):Nat):Int):=by omega
  have i1:(((n+1):Nat):Int)<(l.length:Int):=by omega
  have P:=aJ Y.fresh
  clear hx J i al Y;generalize nd l (n+1)=y at *;obtain⟨M,lf,rt,st⟩:=y;simp only at hk L
  replace V:w.cell? ⟨b,off+(n+1)*7,none⟩=some (.int .i64 M):=V
  replace c1:w.cell? ⟨b,off+(n+1)*7+1,none⟩=some (.int .i64 lf):=c1
  replace c2:w.cell? ⟨b,off+(n+1)*7+2,none⟩=some (.int .i64 rt):=c2
  replace c3:w.cell? ⟨b,off+(n+1)*7+3,none⟩=some (.int .u64 (ab st 0)):=c3
  replace c4:w.cell? ⟨b,off+(n+1)*7+4,none⟩=some (.int .u64 (ab st 1)):=c4
  replace c5:w.cell? ⟨b,off+(n+1)*7+5,none⟩=some (.int .u64 (ab st 2)):=c5
  replace c6:w.cell? ⟨b,off+(n+1)*7+6,none⟩=some (.int .u64 (ab st 3)):=c6
  go_enter Tryz.func107,Tryz.ntmps107
  go_upto_region 2 with fail
  have G:NdAt (w.alloc (.cells (ao ⟨M,lf,rt,st⟩).toArray 276)) w.heap.size ⟨M,lf,rt,st⟩:=aM w _
  have q:=aJ ((Old.refl w).alloc (.cells (ao ⟨M,lf,rt,st⟩).toArray 276))
  have o:=aJ (HB.out.up q.out)
  generalize X:w.alloc (.cells #[.int .i64 M,.int .i64 lf,.int .i64 rt,.int .u64 (ab st 0),.int .u64 (ab st 1),.int .u64 (ab st 2),.int .u64 (ab st 3)] 276)=W;have I:w.alloc (.cells (ao ⟨M,lf,rt,st⟩).toArray 276)=W:=X;rw[I] at G q o;clear X I V c1 c2 c3 c4 c5 c6 e0 e1 HB;obtain⟨d0,d1,d2,d3,d4,d5,d6⟩:=G.cells;simp only at d0 d1 d2 d3 d4 d5 d6;have HK:=aJ G;clear G;generalize w.heap.size=k7 at *;have h1:lf=(n:Int):=H1.out;subst h1;rcases hk with rfl|rfl|rfl
  ·have K:Hid (∀R v,cV l f n S.length (S++[⟨2,0,x,0⟩])=(R,v)→cV l (f+1) (n+1) x S=(R.set S.length ⟨2,v,x,0⟩,S.length)):=aJ (fun R v e=>by rw[L.out,e];rfl)
   clear L;have C:=jy w0 B g (some ⟨b,off,none⟩) l.length cn lv S W o.out (by have:=s.out;omega) ⟨2,0,x,0⟩
   unfold uN at C;simp only[cy] at C;have p:=aJ C;clear C o;go_wp2_with fail;refine(p.out).mono ?_;rintro e w2 ⟨rfl,A,k,d⟩;have hm:=ah.out S.length (S++[⟨2,0,x,0⟩]);have Q:=ag.out f S.length (S++[⟨2,0,x,0⟩]) A w2 H.out (by have:=s.out;rw[bF,bG];omega) (by have:=s.out;omega) k
   obtain⟨hk2,D⟩:=d.nd HK.out P.out;have E:=aJ d;have ad:=aJ hk2;have U:=aJ D;clear k d p ag ah hk2 D HK P d0 d1 d2 d3 d4 d5 d6;have he:=K.out;generalize cV l f n S.length (S++[⟨2,0,x,0⟩])=r at *;obtain⟨R,v⟩:=r;have T:=aJ (he R v rfl);have HM:=aJ hm;have t:=aJ Q;clear hm Q he K;obtain⟨_,d1,_⟩:=ad.out.cells;simp only at d1;go_wp2_with fail;refine(t.out).mono ?_;rintro e w3 ⟨rfl,ar,z,F⟩;have ax:S.length+1≤R.length:=by have h5:=HM.out.len;rw[bF,bG] at h5;exact h5
   obtain⟨_,_,rfl,_,_,_,_⟩:=z.own.form (show 0<R.length by omega)
   have af:R[S.length]? =some ⟨2,0,x,0⟩:=by
    have h5:=HM.out.old S.length (by simp)
    have h6:nd R S.length=nd (S++[⟨2,0,x,0⟩]) S.length:=h5
    rw[cC] at h6;unfold nd at h6;have aq:S.length<R.length:=ax;rw[bD,bE aq] at h6;rw[bE aq];exact congrArg some h6
   obtain⟨q1,q2⟩:=z.own.cellAt (j:=S.length*7+1) (u:= .int .i64 0) (by rw[cd R S.length _ af 1 (by omega)];rfl)
   obtain⟨ak,ae⟩:=z.put_ af (x':=⟨2,v,x,0⟩) (.int .i64 (v:Int)) (c:=1) (by omega) rfl
   obtain⟨_,e1,_⟩:=z.cells;obtain⟨an,ac⟩:=F.nd ad.out U.out;obtain⟨ap,am⟩:=ae.nd an ac;obtain⟨d0,_⟩:=ap.cells;simp only at d0;have j0:(0:Int)≤(S.length:Int):=by omega
   have j1:(S.length:Int)<(R.length:Int):=by omega
   have N:=aJ ak
   have O:=aJ (Far.old_ q.out (E.out.trans (F.trans ae)))
   clear z F ak ae an ac ap am ad U E t HM q af d1;go_wp2_with fail;go_ret;rw[T.out];exact⟨rfl,_,N.out,O.out⟩
  ·have K:Hid (∀R v,cV l f n S.length (S++[⟨2,0,x,0⟩])=(R,v)→cV l (f+1) (n+1) x S=(R.set S.length ⟨2,v,x,0⟩,v)):=aJ (fun R v e=>by rw[L.out,e];rfl)
   clear L;have C:=jy w0 B g (some ⟨b,off,none⟩) l.length cn lv S W o.out (by have:=s.out;omega) ⟨2,0,x,0⟩
   unfold uN at C;simp only[cy] at C;have p:=aJ C;clear C o;go_wp2_with fail;refine(p.out).mono ?_;rintro e w2 ⟨rfl,A,k,d⟩;have hm:=ah.out S.length (S++[⟨2,0,x,0⟩]);have Q:=ag.out f S.length (S++[⟨2,0,x,0⟩]) A w2 H.out (by have:=s.out;rw[bF,bG];omega) (by have:=s.out;omega) k
   obtain⟨hk2,D⟩:=d.nd HK.out P.out;have E:=aJ d;have ad:=aJ hk2;have U:=aJ D;clear k d p ag ah hk2 D HK P d0 d1 d2 d3 d4 d5 d6;have he:=K.out;generalize cV l f n S.length (S++[⟨2,0,x,0⟩])=r at *;obtain⟨R,v⟩:=r;have T:=aJ (he R v rfl);have HM:=aJ hm;have t:=aJ Q;clear hm Q he K;obtain⟨_,d1,_⟩:=ad.out.cells;simp only at d1;go_wp2_with fail;refine(t.out).mono ?_;rintro e w3 ⟨rfl,ar,z,F⟩;have ax:S.length+1≤R.length:=by have h5:=HM.out.len;rw[bF,bG] at h5;exact h5
   obtain⟨_,_,rfl,_,_,_,_⟩:=z.own.form (show 0<R.length by omega)
   have af:R[S.length]? =some ⟨2,0,x,0⟩:=by
    have h5:=HM.out.old S.length (by simp)
    have h6:nd R S.length=nd (S++[⟨2,0,x,0⟩]) S.length:=h5
    rw[cC] at h6;unfold nd at h6;have aq:S.length<R.length:=ax;rw[bD,bE aq] at h6;rw[bE aq];exact congrArg some h6
   obtain⟨q1,q2⟩:=z.own.cellAt (j:=S.length*7+1) (u:= .int .i64 0) (by rw[cd R S.length _ af 1 (by omega)];rfl)
   obtain⟨ak,ae⟩:=z.put_ af (x':=⟨2,v,x,0⟩) (.int .i64 (v:Int)) (c:=1) (by omega) rfl
   obtain⟨_,e1,_⟩:=z.cells;obtain⟨an,ac⟩:=F.nd ad.out U.out;obtain⟨ap,am⟩:=ae.nd an ac;obtain⟨d0,_⟩:=ap.cells;simp only at d0;have j0:(0:Int)≤(S.length:Int):=by omega
   have j1:(S.length:Int)<(R.length:Int):=by omega
   have N:=aJ ak
   have O:=aJ (Far.old_ q.out (E.out.trans (F.trans ae)))
   clear z F ak ae an ac ap am ad U E t HM q af d1;go_wp2_with fail;go_ret;rw[T.out];exact⟨rfl,_,N.out,O.out⟩
  ·have hm:=ah.out x S
   have Q:=ag.out f x S lv W H.out (by have:=s.out;omega) ai o.out
   have T:Hid (cV l (f+1) (n+1) x S=((cV l f n x S).1++[⟨2,(cV l f n x S).2,x,0⟩],(cV l f n x S).1.length)):=aJ (by rw[L.out];rfl)
   clear L ag ah;generalize cV l f n x S=r at *;obtain⟨R,v⟩:=r;have HM:=aJ hm;have t:=aJ Q;clear hm Q;go_wp2_with fail;refine(t.out).mono ?_;rintro e w2 ⟨rfl,A,k,d⟩;have C:=jy w0 B g (some ⟨b,off,none⟩) l.length cn A R w2 k (by have h5:=HM.out.few;have:=s.out;have h6:R.length≤S.length+(n+1-a):=h5;omega) ⟨2,v,x,0⟩
   unfold uN at C;simp only[cy] at C;have p:=aJ C;have E:=aJ d;clear C k d t o;go_wp2_with fail;refine(p.out).mono ?_;rintro e w9 ⟨rfl,az,Z,aa⟩;clear p;have N:=aJ Z;have O:=aJ aa;clear Z aa;go_wp2_with fail;go_ret;rw[T.out];exact⟨rfl,az,N.out,Far.old_ q.out (E.out.trans O.out)⟩
 |two a m n h hk h1 h2 h3 aB aC i1 i2=>
  intro f x S lv w hf hsz ai Y;obtain⟨f,rfl⟩:∃g,f=g+1:=⟨f-1,by omega⟩
  have aI:=aB.le
  have aK:=aC.le
  have hL:(nd l (n+1)).left.toNat=m:=by omega
  have hR:(nd l (n+1)).right.toNat=n:=by omega
  have hP:cV l (f+1) (n+1) x S=if(nd l (n+1)).kind=3 then cV l f m (cV l f n x S).2 (cV l f n x S).1 else((cV l f n x (cV l f m x S).1).1++[⟨2,(cV l f m x S).2,(cV l f n x (cV l f m x S).1).2,0⟩],(cV l f n x (cV l f m x S).1).1.length):=by
   rw[cV,if_neg (show¬(nd l (n+1)).kind=2 by omega),if_neg (show¬(nd l (n+1)).kind=8 by omega),if_neg (show¬(nd l (n+1)).kind=9 by omega),hL,hR]
   by_cases k7:(nd l (n+1)).kind=3
   ·rw[if_pos k7,if_pos k7]
   ·rw[if_neg k7,if_neg k7,if_pos (by omega)]
  have L:=aJ hP
  have au:=aJ i1
  have av:=aJ i2
  have ay:=aJ (fun x S=>ip aB f x S (by omega))
  have aw:=aJ (fun x S=>ip aC f x S (by omega))
  have s:Hid (S.length+(n+1+1-a)≤1000):=aJ hsz
  have H:Hid (n<f∧m<f∧a≤m∧m<n):=aJ (by omega)
  have H1:=aJ h1
  have H2:=aJ h2
  clear hP hf hL hR i1 i2 h1 h2 h3;have HB:=aJ Y;have hx:l[(n+1)]? =some (nd l (n+1)):=by unfold nd;rw[bD,bE h];rfl
  obtain⟨b,off,rfl,al,i⟩:=(HR.out.up Y.old).at_ (by rw[aV];omega)
  have J:=cd l (n+1) _ hx
  have V:=i _ _ (J 0 (by omega))
  have c1:=i _ _ (J 1 (by omega))
  have c2:=i _ _ (J 2 (by omega))
  have c3:=i _ _ (J 3 (by omega))
  have c4:=i _ _ (J 4 (by omega))
  have c5:=i _ _ (J 5 (by omega))
  have c6:=i _ _ (J 6 (by omega))
  rw[←Nat.add_assoc] at V c1 c2 c3 c4 c5 c6;rw[Nat.add_zero] at V;obtain⟨e0,e1,_⟩:=Y.cells;have i0:(0:Int)≤(((n+1):Nat):Int):=by omega
  have i1:(((n+1):Nat):Int)<(l.length:Int):=by omega
  have P:=aJ Y.fresh
  clear hx J i al Y;generalize nd l (n+1)=y at *;obtain⟨M,lf,rt,st⟩:=y;simp only at hk L
  replace V:w.cell? ⟨b,off+(n+1)*7,none⟩=some (.int .i64 M):=V
  replace c1:w.cell? ⟨b,off+(n+1)*7+1,none⟩=some (.int .i64 lf):=c1
  replace c2:w.cell? ⟨b,off+(n+1)*7+2,none⟩=some (.int .i64 rt):=c2
  replace c3:w.cell? ⟨b,off+(n+1)*7+3,none⟩=some (.int .u64 (ab st 0)):=c3
  replace c4:w.cell? ⟨b,off+(n+1)*7+4,none⟩=some (.int .u64 (ab st 1)):=c4
  replace c5:w.cell? ⟨b,off+(n+1)*7+5,none⟩=some (.int .u64 (ab st 2)):=c5
  replace c6:w.cell? ⟨b,off+(n+1)*7+6,none⟩=some (.int .u64 (ab st 3)):=c6
  go_enter Tryz.func107,Tryz.ntmps107
  go_upto_region 2 with fail
  have G:NdAt (w.alloc (.cells (ao ⟨M,lf,rt,st⟩).toArray 276)) w.heap.size ⟨M,lf,rt,st⟩:=aM w _
  have q:=aJ ((Old.refl w).alloc (.cells (ao ⟨M,lf,rt,st⟩).toArray 276))
  have o:=aJ (HB.out.up q.out)
  generalize X:w.alloc (.cells #[.int .i64 M,.int .i64 lf,.int .i64 rt,.int .u64 (ab st 0),.int .u64 (ab st 1),.int .u64 (ab st 2),.int .u64 (ab st 3)] 276)=W;have I:w.alloc (.cells (ao ⟨M,lf,rt,st⟩).toArray 276)=W:=X;rw[I] at G q o;clear X I V c1 c2 c3 c4 c5 c6 e0 e1 HB;obtain⟨d0,d1,d2,d3,d4,d5,d6⟩:=G.cells;simp only at d0 d1 d2 d3 d4 d5 d6;have HK:=aJ G;clear G;generalize w.heap.size=k7 at *;have h1:lf=(m:Int):=H1.out;have h2:rt=(n:Int):=H2.out;subst h1;subst h2;rcases hk with rfl|rfl
  ·have hm:=aw.out x S
   have Q:=fun w' (h:Old W w')=>av.out f x S lv w' H.out.1 (by have:=s.out;have:=H.out;omega) ai (o.out.up h)
   have K:Hid (cV l (f+1) (n+1) x S=cV l f m (cV l f n x S).2 (cV l f n x S).1):=aJ (by rw[L.out];rfl)
   clear L av ay aw;generalize cV l f n x S=r at *;obtain⟨R,v⟩:=r;have HM:=aJ hm;have t:=aJ Q;clear hm Q;have hv:v≤1000:=by
    have h5:R.length≤S.length+(n+1-(m+1)):=HM.out.few
    have h6:v=x∨v<R.length:=HM.out.out
    have:=s.out
    have:=H.out
    omega
   have aA:=aJ (fun A w2 k=>au.out f v R A w2 H.out.2.1 (by have h5:R.length≤S.length+(n+1-(m+1)):=HM.out.few;have:=s.out;have:=H.out;omega) hv k)
   have T:Hid (cV l (f+1) (n+1) x S=cV l f m v R):=K
   have aF:Hid (NdAt W.drew k7 ⟨3,(m:Int),(n:Int),st⟩):=aJ HK.out
   clear K au hv HK;go_upto_region 10 with fail
   go_region_held3 (fun w'=>w'.cell? ⟨k7,1,none⟩=some (.int .i64 (m:Int))∧w'.cell? ⟨k7,2,none⟩=some (.int .i64 (n:Int))) (first|exact⟨d1,d2⟩|exact⟨q1,q2⟩|exact⟨q3,q4⟩) (first|(go_at_call_of 107 n;refine(t.out _ (Old.refl W).drew).mono ?_;rintro e w2 ⟨rfl,A,k,d⟩;obtain⟨hk2,D⟩:=d.nd aF.out P.out;obtain⟨_,q1,q2,_⟩:=hk2.cells;simp only at q1 q2)|(go_at_call_of 107 m;refine(aA.out A w2 k).mono ?_;rintro e w3 ⟨rfl,ar,z,F⟩;obtain⟨_,q3,q4,_⟩:=(F.nd hk2 D).1.cells;simp only at q3 q4))
   have Z:=z
   have aa:=Far.old_ (q.out.up (Old.refl W).drew) (d.trans F)
   clear z F k d hk2 D q1 q2 q3 q4 t aA d0 d1 d2 d3 d4 d5 d6;have N:=aJ Z;have O:=aJ aa;clear Z aa;go_wp2_with fail;go_ret;rw[T.out];exact⟨rfl,ar,N.out,O.out⟩
  ·have hm:=ay.out x S
   have Q:=au.out f x S lv W H.out.2.1 (by have:=s.out;have:=H.out;omega) ai o.out
   have K:Hid (cV l (f+1) (n+1) x S=((cV l f n x (cV l f m x S).1).1++[⟨2,(cV l f m x S).2,(cV l f n x (cV l f m x S).1).2,0⟩],(cV l f n x (cV l f m x S).1).1.length)):=aJ (by rw[L.out];rfl)
   clear L au ay;generalize cV l f m x S=r at *;obtain⟨R,v⟩:=r;have HM:=aJ hm;have t:=aJ Q;clear hm Q;go_wp2_with fail;refine(t.out).mono ?_;rintro e w2 ⟨rfl,A,k,d⟩;have ax:R.length≤S.length+(m+1-a):=HM.out.few;have hm:=aw.out x R;have Q:=av.out f x R A w2 H.out.1 (by have:=s.out;have:=H.out;omega) ai k
   obtain⟨hk2,D⟩:=d.nd HK.out P.out;have E:=aJ d;clear k d t av aw o HK P d0 d1 d2 d3 d4 d5 d6 D;generalize cV l f n x R=r at *;obtain⟨R2,v2⟩:=r;have T:Hid (cV l (f+1) (n+1) x S=(R2++[⟨2,v,v2,0⟩],R2.length)):=K;have aG:=aJ hm;have t:=aJ Q;clear hm Q K;obtain⟨_,_,d2,_⟩:=hk2.cells;simp only at d2;clear hk2;go_wp2_with fail;refine(t.out).mono ?_;rintro e w3 ⟨rfl,ar,z,F⟩;have C:=jy w0 B g (some ⟨b,off,none⟩) l.length cn ar R2 w3 z (by have h5:R2.length≤R.length+(n+1-(m+1)):=aG.out.few;have:=s.out;omega) ⟨2,v,v2,0⟩
   unfold uN at C;simp only[cy] at C;have p:=aJ C;have aE:=aJ F;clear C z F t d2;go_wp2_with fail;refine(p.out).mono ?_;rintro e w9 ⟨rfl,az,Z,aa⟩;clear p;have N:=aJ Z;have O:=aJ aa;clear Z aa;go_wp2_with fail;go_ret;rw[T.out];exact⟨rfl,az,N.out,Far.old_ q.out (E.out.trans (aE.out.trans O.out))⟩
theorem jP {P:Program} (n:Nat) (t u:TypeId) (p:P.underlying t=some (.array 4 u)) (hsz:∀W:World,(sizeOf u).run P W= .ok 1 W) (i:∀W:World,(isAgg u).run P W= .ok false W)
  (j:∀(x y:Int) (W:World),(Op.equalIn n u (.int .u64 x) (.int .u64 y)).run P W= .ok (x==y) W) (a b c d e f g h:Int) (W:World):
  (Op.equalIn (n+1) t (.agg #[.int .u64 a,.int .u64 b,.int .u64 c,.int .u64 d]) (.agg #[.int .u64 e,.int .u64 f,.int .u64 g,.int .u64 h])).run P W= .ok (a==e&&(b==f&&(c==g&&d==h))) W:=by
 simp only[Op.equalIn,Sem.run_bind,run_underlying p,Result.andThen_ok,hsz];rw[Std.Legacy.Range.forIn_eq_forIn_range'];simp only[Std.Legacy.Range.size,show(4-0+1-1)/1=4 by rfl,show List.range' 0 4 1=[0,1,2,3] by rfl,List.forIn_cons,List.forIn_nil,part,Sem.run_bind,i,Result.andThen_ok,Bool.false_eq_true,if_false]
 have k0:∀(v0 v1 v2 v3:Value),#[v0,v1,v2,v3][0*1]? =some v0:=fun _ _ _ _=>rfl
 have k1:∀(v0 v1 v2 v3:Value),#[v0,v1,v2,v3][1*1]? =some v1:=fun _ _ _ _=>rfl
 have k2:∀(v0 v1 v2 v3:Value),#[v0,v1,v2,v3][2*1]? =some v2:=fun _ _ _ _=>rfl
 have k3:∀(v0 v1 v2 v3:Value),#[v0,v1,v2,v3][3*1]? =some v3:=fun _ _ _ _=>rfl
 simp only[k0,k1,k2,k3,Sem.run_pure,Result.andThen_ok,j];cases k:(a==e)
 ·simp
 simp only[Bool.not_true,Bool.false_eq_true,if_false,Sem.run_pure,Result.andThen_ok,Sem.run_bind,i,j];cases l:(b==f)
 ·simp
 simp only[Bool.not_true,Bool.false_eq_true,if_false,Sem.run_pure,Result.andThen_ok,Sem.run_bind,i,j];cases m:(c==g)
 ·simp
 simp only[Bool.not_true,Bool.false_eq_true,if_false,Sem.run_pure,Result.andThen_ok,Sem.run_bind,i,j];cases o:(d==h)
 ·simp
 simp
theorem AV (a b c d e f g h:Int) (W:World):(Op.equalIn 10000 211 (.agg #[.int .u64 a,.int .u64 b,.int .u64 c,.int .u64 d]) (.agg #[.int .u64 e,.int .u64 f,.int .u64 g,.int .u64 h])).run Tryz.prog W= .ok (a==e&&(b==f&&(c==g&&d==h))) W:=
 jP 9999 _ _ Tryz.underlying210 (fun _=>by kernel_rfl) (fun _=>by kernel_rfl) (fun x y W=>run_equalIn_int W 9998 _ .u64 .u64 x y Tryz.underlying29) a b c d e f g h W
theorem uR (s:BSet) (hs:cg s) (W:World):(Op.equalIn 10000 211 (.agg #[.int .u64 (ab s 0),.int .u64 (ab s 1),.int .u64 (ab s 2),.int .u64 (ab s 3)]) (.agg #[.int .u64 0,.int .u64 0,.int .u64 0,.int .u64 0])).run Tryz.prog W= .ok (decide (s=0)) W:=by
 rw[AV]
 congr 1
 rw[Bool.eq_iff_iff];simp only[Bool.and_eq_true,beq_iff_eq,decide_eq_true_eq];constructor
 ·rintro⟨_,h1,h2,_⟩;refine yc hs (by decide) (fun i a=>?_)
  rw[cy];have:i=0∨i=1∨i=2∨i=3:=by omega
  rcases this with rfl|rfl|rfl|rfl<;>omega
 ·rintro rfl;rw[cy,cy,cy,cy];exact⟨rfl,rfl,rfl,rfl⟩
theorem jX:(Tryz.prog.info? 3).map (fun i=>(i.zero,i.size,i.bytes))=some (some (.int .i64 0),1,8):=by kernel_rfl
def hY (l:List Int):List Value:=l.map (Value.int .i64)
theorem iv (l:List Int):(hY l).length=l.length:=by simp[hY]
theorem Bv (k:Int) (w:World):Calls Tryz.prog 166 #[.int .i64 k] w (gT (.int .i64 (cD k)) w):=by
 have hk:k=1∨k=2∨k=8∨k=9∨k=3∨k=4∨k=5∨k=6∨k=7∨(k≠3∧k≠4∧k≠5∧k≠6∧k≠7∧k≠1∧k≠2∧k≠8∧k≠9):=by omega
 rcases hk with rfl|rfl|rfl|rfl|rfl|rfl|rfl|rfl|rfl|⟨n3,n4,a,b,c,n1,n2,d,f⟩
 case inr.inr.inr.inr.inr.inr.inr.inr.inr=>
  have e:cD k= -1:=by unfold cD;rw[if_neg (by omega),if_neg (by omega),if_neg (by omega)]
  rw[e];have b3:(k==3)=false:=by simpa using n3
  have b4:(k==4)=false:=by simpa using n4
  have g:(k==5)=false:=by simpa using a
  have b6:(k==6)=false:=by simpa using b
  have b7:(k==7)=false:=by simpa using c
  have b1:(k==1)=false:=by simpa using n1
  have b2:(k==2)=false:=by simpa using n2
  have h:(k==8)=false:=by simpa using d
  have b9:(k==9)=false:=by simpa using f
  clear e n3 n4 a b c n1 n2 d f;go_enter Tryz.func166,Tryz.ntmps166;go_wp2_with fail;go_ret;exact⟨rfl,rfl⟩
 all_goals
  go_enter Tryz.func166,Tryz.ntmps166
  go_wp2_with fail;go_ret;exact⟨rfl,rfl⟩
theorem pz (l:List Int) (i:Nat):(hY l)[i]? =(l[i]?).map (Value.int .i64):=by simp[hY]
theorem oK (L:List Int) (h:L.length≤2):splice [Value.int .i64 0,Value.int .i64 0] 0 (hY L)=[Value.int .i64 (L.getD 0 0),Value.int .i64 (L.getD 1 0)]:=by
 rcases L with _|⟨a,_|⟨b,_|⟨c,L⟩⟩⟩
 ·rfl
 ·rfl
 ·rfl
 ·simp at h
theorem uL {W:World} {B b m q:Nat} {a:Option Addr} {rs:List Int} (h:Own W B 3 1 (.slice a rs.length b) rs.length (hY rs)) (hn:rs.length=m+q) (hc:rs.length≤b) (W':World) (i:Old W W'):
  0<(hY (rs.drop m)).length→∃ad,(if b=m then a else Option.map (fun x=>x.add m) a)=some ad∧∀j v,(hY (rs.drop m))[j]? =some v→W'.cell? (ad.add j)=some v:=by
 intro f;rw[iv,List.length_drop] at f;obtain⟨g,c',hv,_,_,_,_⟩:=h.form (by omega)
 injection hv with hA hn' hc'
 subst hA;rw[if_neg (by omega)]
 refine⟨_,rfl,fun j v hv=>?_⟩
 have hj:(hY rs)[m+j]? =some v:=by
  rw[←hv,pz,pz,List.getElem?_drop]
 have:=(h.cellAt (by subst hc';exact hj)).1
 have:=i.cell this
 have e:(((fun x:Addr=>x.add m) ⟨g,0,none⟩).add j)=⟨g,m+j,none⟩:=by
  by_cases c:m=0<;>by_cases d:j=0<;>simp[Addr.add,c,d]
 rw[e];exact this
def pQ (w:World) (l:List Nd) (v ix:Value) (wr:World):Prop:=
 ∃(k:Nat) (rs:List Int),ix= .int .i64 k∧k≤l.length∧Hid (eS l k=some rs)∧rs.length≤k∧Hid (Own wr w.heap.size 3 1 v rs.length (hY rs))∧Hid (Old w wr)
theorem uC (A:Option Addr) (c:Nat) (l:List Nd) (w:World) (hr:Rs w A (cI l)) (hm:l.length≤maxLen) (al:∀x∈l,cg x.set):
  Calls Tryz.prog 105 #[.slice A l.length c] w (iA (.bool (bh l)) w):=by
 have HR:=aJ hr
 unfold maxLen at hm;clear hr
 by_cases r:l.length≤256
 ·have ai:¬(256:Int)<(l.length:Int):=by omega
  go_enter Tryz.func105,Tryz.ntmps105
  go_wp2_with fail;go_loopw [3,14] (fun s3 H wr=>pQ w l s3 H wr) (fun _ H _=>l.length-(intOf H).toNat)
  case atStart=>exact⟨0,[],rfl,bO _,rfl,bO _,Own.nil_ _ _ _ _,Old.refl _⟩
  case round=>
   obtain⟨k,rs,rfl,hk,HV,_,HO,I⟩:=hrel
   by_cases ah:k<l.length
   ·obtain⟨b,off,rfl,_,g⟩:=(HR.out.up I.out).at_ (by rw[aV];omega)
    have hx:l[k]? =some (nd l k):=by unfold nd;rw[bD,bE ah];rfl
    have t:=cd l k _ hx
    obtain⟨Ar,cr,rfl,Z,C,_⟩:=HO.out.shape;have aa:eS l (k+1)=fv rs k (nd l k):=by rw[eS,HV.out]
    have p:=aJ aa
    have P:=g _ _ (t 0 (by omega))
    have c1:=g _ _ (t 1 (by omega))
    have c2:=g _ _ (t 2 (by omega))
    have c3:=g _ _ (t 3 (by omega))
    have c4:=g _ _ (t 4 (by omega))
    have c5:=g _ _ (t 5 (by omega))
    have c6:=g _ _ (t 6 (by omega))
    rw[←Nat.add_assoc] at P c1 c2 c3 c4 c5 c6;rw[Nat.add_zero] at P;have X:=al _ (List.mem_of_getElem? hx);have HX:=aJ hx;clear hx t g aa;generalize nd l k=x at *;obtain⟨n,lf,rt,st⟩:=x
    replace P:wr.cell? ⟨b,off+k*7,none⟩=some (.int .i64 n):=P
    replace c1:wr.cell? ⟨b,off+k*7+1,none⟩=some (.int .i64 lf):=c1
    replace c2:wr.cell? ⟨b,off+k*7+2,none⟩=some (.int .i64 rt):=c2
    replace c3:wr.cell? ⟨b,off+k*7+3,none⟩=some (.int .u64 (ab st 0)):=c3
    replace c4:wr.cell? ⟨b,off+k*7+4,none⟩=some (.int .u64 (ab st 1)):=c4
    replace c5:wr.cell? ⟨b,off+k*7+5,none⟩=some (.int .u64 (ab st 2)):=c5
    replace c6:wr.cell? ⟨b,off+k*7+6,none⟩=some (.int .u64 (ab st 3)):=c6
    have i1:(0:Int)≤(k:Int):=by omega
    have i2:(k:Int)<(l.length:Int):=by omega
    go_upto_region 7 with fail
    have a:=aM wr (.cells #[.int .i64 n,.int .i64 lf,.int .i64 rt,.int .u64 (ab st 0),.int .u64 (ab st 1),.int .u64 (ab st 2),.int .u64 (ab st 3)] 276)
    have oW:=(Old.refl wr).alloc (.cells #[.int .i64 n,.int .i64 lf,.int .i64 rt,.int .u64 (ab st 0),.int .u64 (ab st 1),.int .u64 (ab st 2),.int .u64 (ab st 3)] 276)
    generalize wr.alloc (.cells #[.int .i64 n,.int .i64 lf,.int .i64 rt,.int .u64 (ab st 0),.int .u64 (ab st 1),.int .u64 (ab st 2),.int .u64 (ab st 3)] 276)=W at *;clear P c1 c2 c3 c4 c5 c6;have d0:W.cell? ⟨wr.heap.size,0,none⟩=some (.int .i64 n):=by rw[aK W _ 0 _ _ _ a];rfl
    have d1:W.cell? ⟨wr.heap.size,1,none⟩=some (.int .i64 lf):=by rw[aK W _ 1 _ _ _ a];rfl
    have d2:W.cell? ⟨wr.heap.size,2,none⟩=some (.int .i64 rt):=by rw[aK W _ 2 _ _ _ a];rfl
    have d3:W.cell? ⟨wr.heap.size,3,none⟩=some (.int .u64 (ab st 0)):=by rw[aK W _ 3 _ _ _ a];rfl
    have d4:W.cell? ⟨wr.heap.size,4,none⟩=some (.int .u64 (ab st 1)):=by rw[aK W _ 4 _ _ _ a];rfl
    have d5:W.cell? ⟨wr.heap.size,5,none⟩=some (.int .u64 (ab st 2)):=by rw[aK W _ 5 _ _ _ a];rfl
    have d6:W.cell? ⟨wr.heap.size,6,none⟩=some (.int .u64 (ab st 3)):=by rw[aK W _ 6 _ _ _ a];rfl
    have am:=aJ a
    have z:=aJ oW
    clear a oW;have Y:cg st:=X;have hz:=fun W=>uR st Y W
    clear X
    by_cases f:n≠2∧st≠0
    ·have n2:(n !=2)=true:=by simpa using f.1
     have n3:decide (st=0)=false:=decide_eq_false f.2
     simp only[n3] at hz;have u:Hid (bh l=false):=aJ (by
      unfold bh;rw[gc (k:=k+1) (m:=l.length) (by rw[p.out,fv,if_pos f]) (by omega)]
      simp)
     go_wp2_with fail;go_ret;rw[u.out];exact⟨rfl,I.out.up z.out⟩
    have F:(n !=2)=false∨((n !=2)=true∧decide (st=0)=true):=by
     by_cases e:n=2
     ·exact bX (by simp[e])
     ·exact bY ⟨by simpa using e,by
       by_cases Q:st=0
       ·simp[Q]
       ·exact absurd ⟨e,Q⟩ f⟩
    have y:=aJ f
    clear f;have O:=HO.out.up z.out;have L:=I.out.up z.out;have ac:=I.out.size;have N:=aJ O;have o:=aJ L;have an:=aJ ac;clear O L ac HO I HR Z;generalize s:cD n=q;have hq:q≤2:=by subst s;unfold cD;split;omega;split;omega;split<;>omega
    rcases F with n2|⟨n2,n3⟩
    all_goals
     try simp only[n3] at hz
     go_upto_region 9 with fail
     go_wp2_with fail;refine(Bv n _).mono ?_;rintro e _ ⟨rfl,rfl⟩
     by_cases V:q<0
     ·have u:Hid (bh l=false):=aJ (by
       unfold bh;rw[gc (k:=k+1) (m:=l.length) (by rw[p.out,fv,if_neg y.out,if_pos (bX (by rw[s];exact V))]) (by omega)]
       simp)
      go_wp2_with fail;go_ret;rw[u.out];exact⟨rfl,o.out⟩
     ·by_cases U:(rs.length:Int)<q
      ·have u:Hid (bh l=false):=aJ (by
        unfold bh;rw[gc (k:=k+1) (m:=l.length) (by rw[p.out,fv,if_neg y.out,if_pos (bY (by rw[s];exact U))]) (by omega)]
        simp)
       go_wp2_with fail;go_ret;rw[u.out];exact⟨rfl,o.out⟩
      ·obtain⟨G,rfl⟩:∃G:Nat,q=(G:Int):=⟨q.toNat,by omega⟩
       obtain⟨m,aj⟩:∃m,rs.length=m+G:=⟨rs.length-G,by omega⟩
       have hE:(rs.length:Int)-(G:Int)=(m:Int):=by omega
       have j1:(0:Int)≤(m:Int):=by omega
       have j2:(m:Int)≤(rs.length:Int):=by omega
       have j3:(m:Int)≤(m:Int)+(G:Int):=by omega
       have ak:G≤2:=by omega
       have hH:=aM W (.cells #[.int .i64 0,.int .i64 0] 277)
       have S:=(Old.refl W).alloc (.cells #[.int .i64 0,.int .i64 0] 277)
       go_upto_region 14 with fail
       generalize ag:W.alloc (.cells #[.int .i64 0,.int .i64 0] 277)=W1 at *;have HH:=aJ hH;have M:=aJ S;have d:=aJ aj;have J:=aJ C;clear hH S ag C;go_region_law (refine step_copy_splice rfl (.tmp 43) (.tmp 46) 22 22 rfl 3 Tryz.underlying22 (by kernel_rfl) _ _ _ _ _ _ rfl rfl W.heap.size 0 [.int .i64 0,.int .i64 0] 277 HH.out (hY (rs.drop m)) (by rw[iv,List.length_drop,d.out,Nat.add_sub_cancel_left];exact(Nat.min_eq_left ak).symm) (fun h0=>⟨rfl,uL N.out d.out J.out _ M.out.drew h0⟩) (by rw[iv,List.length_drop,d.out];simp;omega) (by intro v hv;obtain⟨x,_,rfl⟩:=List.mem_map.mp hv;rfl) W.heap.size W M.out.drew (bM _) ?_;intro w4 D T)
       generalize (if cr=m then Ar else Option.map (fun x=>x.add m) Ar)=As
       rw[oK _ (by rw[List.length_drop,d.out];omega)] at D
       have E:=D.out
       have a:Old W w4:=T
       clear D T;have e1:=a.cell d1;have Q:=a.cell d2;have f0:w4.cell? ⟨W.heap.size,0,none⟩=some (.int .i64 ((rs.drop m).getD 0 0)):=by rw[aK w4 _ 0 _ _ _ E];rfl
       have f1:w4.cell? ⟨W.heap.size,1,none⟩=some (.int .i64 ((rs.drop m).getD 1 0)):=by rw[aK w4 _ 1 _ _ _ E];rfl
       have B:Hid (∀b:Bool,b=(lf !=(rs.drop m).getD 0 0||rt !=(rs.drop m).getD 1 0)→eS l (k+1)=if b then none else some (rs.take m++[(k:Int)])):=aJ (by
        rintro b rfl;rw[p.out,fv,if_neg y.out,if_neg (by rw[s];omega)]
        simp only[s,Int.toNat_natCast,d.out,Nat.add_sub_cancel];simp)
       generalize (rs.drop m).getD 0 0=p0 at *;generalize (rs.drop m).getD 1 0=p1 at *;have j:=aJ a;clear d0 d1 d2 d3 d4 d5 d6 E a hz p
       by_cases R:lf=p0
       ·have b0:(lf !=p0)=false:=by simp[R]
        by_cases g1:rt=p1
        ·have b1:(rt !=p1)=false:=by simp[g1]
         have af:Hid (eS l (k+1)=some (rs.take m++[(k:Int)])):=aJ (by rw[B.out false (by rw[b0,b1];rfl)];rfl)
         clear R g1;have ad:Hid (Own w4 w.heap.size 3 1 (.slice Ar m cr) m (hY (rs.take m))):=aJ (by
          have h:=(N.out.up j.out).shrink (i:=m) (by rw[d.out];omega)
          rw[Nat.mul_one] at h;have e:(hY rs).take m=hY (rs.take m):=by unfold hY;rw[List.map_take]
          rw[e] at h;exact h)
         have K:Hid (Old w w4):=aJ (o.out.up j.out)
         have ae:Hid (w.heap.size≤w4.heap.size):=aJ K.out.size
         have ao:m≤256:=by have:=d.out;omega
         have j4:(m:Int)≤(cr:Int):=by have:=d.out;have:=J.out;omega
         go_upto_region 17 with fail
         go_wp2_with (at_builtin;refine aE (wr:=w4) rfl _ _ 22 rfl _ 3 (.int .i64 0) 1 8 Tryz.underlying22 jX rfl (by decide) (by decide) _ _ _ rfl ad.out 1 1 [.int .i64 (k:Int)] rfl rfl rfl rfl ?pn1 ae.out ?_)
         case pn1=>omega
         intro v' w5 ho t hd;have HF:Hid (pQ w l v' (.int .i64 ((k+1:Nat):Int)) w5):=aJ ⟨k+1,rs.take m++[(k:Int)],rfl,by omega,af,by have:=d.out;simp;omega,aJ (by
          have e:hY (rs.take m++[(k:Int)])=hY (rs.take m)++[.int .i64 (k:Int)]:=by unfold hY;rw[List.map_append];rfl
          have Q:(rs.take m++[(k:Int)]).length=m+1:=by have:=d.out;simp;omega
          rw[e,Q];exact ho),aJ (hd w K.out (bM _))⟩
         clear ho t hd;go_wp2_with fail;go_roundw
         case rel=>exact HF.out
         case measure=>simp[intOf];omega
        ·have b1:(rt !=p1)=true:=by simpa using g1
         have u:Hid (bh l=false):=aJ (by
          unfold bh;rw[gc (k:=k+1) (m:=l.length) (by rw[B.out true (by rw[b0,b1];rfl)];rfl) (by omega)]
          simp)
         clear R g1;go_wp2_with fail;go_ret;rw[u.out];exact⟨rfl,o.out.up j.out⟩
       ·have b0:(lf !=p0)=true:=by simpa using R
        have u:Hid (bh l=false):=aJ (by
         unfold bh;rw[gc (k:=k+1) (m:=l.length) (by rw[B.out true (by rw[b0];rfl)];rfl) (by omega)]
         simp)
        clear R;go_wp2_with fail;go_ret;rw[u.out];exact⟨rfl,o.out.up j.out⟩
   ·obtain rfl:k=l.length:=by omega
    obtain⟨Ar,cr,rfl,Z,C,_⟩:=HO.out.shape;have HE:Hid (bh l=(rs.length==1)):=aJ (by unfold bh;rw[HV.out,decide_eq_true r];rfl)
    go_wp2_with fail;go_ret;rw[HE.out];exact⟨mG (by rw[Bool.eq_iff_iff];simp;omega),I.out⟩
 ·have ai:(256:Int)<(l.length:Int):=by omega
  have HE:Hid (bh l=false):=aJ (by unfold bh;rw[decide_eq_false r];rfl)
  clear r;go_enter Tryz.func105,Tryz.ntmps105;go_wp2_with fail;go_ret;rw[HE.out];exact⟨rfl,Old.refl _⟩
def C2 (w:World) (l:List Nd) (e:Ending) (w':World):Prop:=
 (bh l=true→∃v,e= .returned (.tuple #[v,.int .i64 0])∧Own w' w.heap.size 213 7 v (bw l).length (cI (bw l)))∧(bh l=false→e= .returned (.tuple #[.slice none 0 0,.int .i64 3]))∧Old w w'
theorem qG (A:Option Addr) (c:Nat) (l:List Nd) (w:World) (O:Rs w A (cI l)) (hm:l.length≤maxLen) (m:∀x∈l,cg x.set):
  Calls Tryz.prog 52 #[.slice A l.length c] w (C2 w l):=by
 have s:=uC A c l w O hm m
 cases hv:bh l with
 |false=>
  rw[hv] at s;have E:=aJ s;have HE:Hid (bh l=true→False):=aJ (by rw[hv];intro h;cases h)
  clear s O m hm;go_enter Tryz.func52,Tryz.ntmps52;go_wp2_with fail;refine(E.out).mono ?_;rintro e V ⟨rfl,t⟩;have M:=aJ t;clear t E;go_wp2_with fail;refine aP (v:= .tuple #[.slice none 0 0,.int .i64 3]) (by simp[results,Tryz.results52,go_sem]) rfl ?_
  exact⟨fun h=>(HE.out h).elim,fun _=>rfl,M.out⟩
 |true=>
  rw[hv] at s;have E:=aJ s;have P:=aJ (gA hv);have C:=aJ (kT hv);have U:=aJ hv;have HR:=aJ O;have D:=aJ m;clear s O m hm hv;go_enter Tryz.func52,Tryz.ntmps52;go_wp2_with fail;refine(E.out).mono ?_;rintro e V ⟨rfl,t⟩;have M:=aJ t;have B:=aJ (HR.out.up t);clear t E HR;go_upto_region 4 with fail
  have G:NB V (V.alloc (.cells #[.slice A l.length c,.slice none 0 0] 208)) (V.heap.size+1) V.heap.size A l.length c (.slice none 0 0) []:=
   ⟨(Old.refl V).alloc _,aM V _,Own.nil_ _ _ _ _,bM _,Nat.lt_succ_self _,by simp⟩
  have g:=jy V (V.heap.size+1) V.heap.size A l.length c (.slice none 0 0) [] _ G (by simp) ⟨2,0,0,0⟩
  unfold uN at g;simp only[cy] at g;have y:=aJ g;clear g G;generalize V.alloc (.cells #[.slice A l.length c,.slice none 0 0] 208)=W at *;go_wp2_with fail;refine(y.out).mono ?_;rintro e w2 ⟨rfl,ad,H,Y⟩;have g:=jy V (V.heap.size+1) V.heap.size A l.length c ad [⟨2,0,0,0⟩] w2 H (by simp) ⟨5,0,0,0⟩
  unfold uN at g;simp only[cy] at g;have n:=aJ g;clear g H Y y;go_wp2_with fail;refine(n.out).mono ?_;rintro e w3 ⟨rfl,ae,I,Z⟩;have ah:=P.out;obtain⟨k,hk⟩:∃k,l.length=k+1:=⟨l.length-1,by omega⟩
  have p:l.length-1=k:=by omega
  have a:=C.out
  rw[p] at a;have HC:=yz V (V.heap.size+1) V.heap.size A c l B.out (by omega) D.out a l.length 1 [⟨2,0,0,0⟩,⟨5,0,0,0⟩] ae w3 (by omega) (by simp;omega) (by omega) I
  have hm:=ip a l.length 1 [⟨2,0,0,0⟩,⟨5,0,0,0⟩] (by omega)
  have T:Hid (bw l=(cV l l.length k 1 [⟨2,0,0,0⟩,⟨5,0,0,0⟩]).1.set 0 ⟨2,(cV l l.length k 1 [⟨2,0,0,0⟩,⟨5,0,0,0⟩]).2,(cV l l.length k 1 [⟨2,0,0,0⟩,⟨5,0,0,0⟩]).2,0⟩):=aJ (by unfold bw;rw[p])
  generalize cV l l.length k 1 [⟨2,0,0,0⟩,⟨5,0,0,0⟩]=r at *;obtain⟨R,v⟩:=r;have HM:=aJ hm;have z:=aJ HC;have ag:(l.length:Int)-1=(k:Int):=by omega
  clear hm HC I Z n a B D C p;generalize l.length=L at *;subst hk;go_wp2_with fail;refine(z.out).mono ?_;rintro e w4 ⟨rfl,_,b,aa⟩;have ai:2≤R.length:=HM.out.len;have K:R[0]? =some ⟨2,0,0,0⟩:=by
   have X:nd R 0=⟨2,0,0,0⟩:=HM.out.old 0 (by simp)
   have J:0<R.length:=by omega
   unfold nd at X;rw[bD,bE J] at X;rw[bE J];exact congrArg some X
  obtain⟨N,cb,rfl,_,_,_,_⟩:=b.own.form (show 0<R.length by omega)
  obtain⟨q1,q2⟩:=b.own.cellAt (j:=1) (u:= .int .i64 0) (by have:=cd R 0 _ K 1 (by omega);rw[Nat.zero_mul,Nat.zero_add] at this;rw[this];rfl)
  obtain⟨i,ab⟩:=b.put_ K (x':=⟨2,v,0,0⟩) (.int .i64 (v:Int)) (c:=1) (by omega) rfl
  rw[Nat.zero_mul,Nat.zero_add] at i;obtain⟨_,F,_⟩:=b.cells;have q:(R.set 0 ⟨2,v,0,0⟩)[0]? =some ⟨2,v,0,0⟩:=List.getElem?_set_self (by omega)
  have af:=aJ b
  clear b aa ab z;have j1:(0:Int)<(R.length:Int):=by omega
  go_upto_region 8 with fail
  generalize w4.setCell ⟨N,1,none⟩ (.int .i64 (v:Int))=w5 at *;clear q1 q2 F;have f:NB V w5 (V.heap.size+1) V.heap.size A (k+1) c (.slice (some ⟨N,0,none⟩) (R.set 0 ⟨2,v,0,0⟩).length cb) (R.set 0 ⟨2,v,0,0⟩):=by rw[bK];exact i
  obtain⟨q1,q2⟩:=f.own.cellAt (j:=2) (u:= .int .i64 0) (by have:=cd _ 0 _ q 2 (by omega);rw[Nat.zero_mul,Nat.zero_add] at this;rw[this];rfl)
  obtain⟨d,ac⟩:=f.put_ q (x':=⟨2,v,v,0⟩) (.int .i64 (v:Int)) (c:=2) (by omega) rfl
  rw[Nat.zero_mul,Nat.zero_add] at d;obtain⟨_,F,_⟩:=i.cells;rw[List.set_set] at d;clear i f ac q;go_upto_region 9 with fail
  generalize w5.setCell ⟨N,2,none⟩ (.int .i64 (v:Int))=w6 at *;clear q1 q2 F;obtain⟨_,F,_⟩:=d.cells;rw[bK] at F;have o:=d.own;have S:=aJ (o.base (base':=w.heap.size) (by have:=M.out.size;omega))
  have Q:=aJ (M.out.up d.old)
  clear d o;go_wp2_with fail;refine aP (v:= .tuple #[.slice (some ⟨N,0,none⟩) R.length cb,.int .i64 0]) (by simp[results,Tryz.results52,go_sem]) rfl ?_
  refine⟨fun _=>⟨_,rfl,?_⟩,fun h=>?_,Q.out⟩
  ·rw[T.out];have:=S.out;simp only[bK] at this ⊢;exact this
  ·rw[U.out] at h;cases h
def gy:List (List Nat)→Nat→Nat
 |[],_=>0
 |c::cs,p=>if p<c.length then 0 else 1+gy cs (p-c.length)
def cL (cs:List (List Nat)) (j:Nat):Nat:=(cs.take j).flatten.length
theorem qZ (cs:List (List Nat)) (j:Nat) (hj:j<cs.length):cL cs (j+1)=cL cs j+(cs.getD j []).length:=by
 unfold cL;rw[List.take_add_one,bE hj,List.flatten_append,bF,bD,bE hj];simp
theorem uk (cs:List (List Nat)):cL cs cs.length=cs.flatten.length:=by unfold cL;rw[List.take_length]
theorem pK:∀(cs:List (List Nat)) (j k:Nat),j<cs.length→k<(cs.getD j []).length→cs.flatten.getD (cL cs j+k) 0=(cs.getD j []).getD k 0∧gy cs (cL cs j+k)=j∧cL cs j+k<cs.flatten.length
 |[],j,k,h,_=>by simp at h
 |c::cs,0,k,_,hk=>by
  have a:k<c.length:=hk
  have e:cL (c::cs) 0=0:=rfl
  rw[e,Nat.zero_add,gy,if_pos a,List.flatten_cons];refine⟨?_,rfl,by simp;omega⟩
  rw[bD,bJ a,bD];rfl
 |c::cs,j+1,k,hj,hk=>by
  have b:j<cs.length:=by simpa using hj
  have a:k<(cs.getD j []).length:=by simpa using hk
  obtain⟨h1,h2,_⟩:=pK cs j k b a;have e:cL (c::cs) (j+1)=c.length+cL cs j:=by simp[cL]
  rw[e,List.flatten_cons];refine⟨?_,?_,by rw[bF];omega⟩
  ·rw[bD,List.getElem?_append_right (by omega),show c.length+cL cs j+k-c.length=cL cs j+k by omega,←bD,h1]
   simp
  ·rw[gy,if_neg (by omega),show c.length+cL cs j+k-c.length=cL cs j+k by omega,h2]
   omega
def jv (R:Int) (cs:List (List Nat)):Int×Int:=if R=0 then(-1,0) else if R<0 then((cs.length:Int),-1) else((gy cs (R-1).toNat:Int),R)
def Bp (st:List Nd) (bol:Bool) (ch:Nat) (L:List Nat):List Nat:=if ch=10 then be st bol true L else L
def Dr (st:List Nd) (bol:Bool) (ch:Nat) (L:List Nat):List Nat:=be st (ch==10) false (ag (nstep st ch (Bp st bol ch L)) 0)
def it (st:List Nd) (t:List Nat) (f i:Nat) (a:List Nat):Int:=
 if ce st a=true then i
 else if i=t.length then-1
 else if t.getD i 0=10 then
  if ce st (be st (bi t i) true a)=true then(i:Int)+1 else fR st t f (i+1) (nstep st (t.getD i 0) (be st (bi t i) true a))
 else fR st t f (i+1) (nstep st (t.getD i 0) a)
theorem r6 (st:List Nd) (t:List Nat) (f i:Nat) (L:List Nat):fR st t (f+1) i L=it st t f i (be st (bi t i) false (ag L 0)):=rfl
theorem iN (t:List Nat) (i:Nat):bi t (i+1)=(t.getD i 0==10):=by unfold bi;simp
theorem uc {st:List Nd} {t:List Nat} {f i:Nat} {L:List Nat} {R:Int} (b:ce st L=false) (c:i<t.length) (a:it st t (f+1) i L=R):
  (ce st (Bp st (bi t i) (t.getD i 0) L)=true→R=(i:Int)+1)∧
  (ce st (Bp st (bi t i) (t.getD i 0) L)=false→it st t f (i+1) (Dr st (bi t i) (t.getD i 0) L)=R∧(ce st (Dr st (bi t i) (t.getD i 0) L)=true→R=(i:Int)+1)):=by
 unfold it at a;rw[if_neg (by rw[b];simp),if_neg (by omega)] at a
 have key:ce st (Bp st (bi t i) (t.getD i 0) L)=false→fR st t (f+1) (i+1) (nstep st (t.getD i 0) (Bp st (bi t i) (t.getD i 0) L))=R:=by
  intro h1;unfold Bp at h1 ⊢
  by_cases hc:t.getD i 0=10
  ·rw[if_pos hc] at h1 a ⊢;rw[if_neg (by rw[h1];simp)] at a
   exact a
  ·rw[if_neg hc] at a ⊢;exact a
 refine⟨fun h1=>?_,fun h1=>?_⟩
 ·unfold Bp at h1
  by_cases hc:t.getD i 0=10
  ·rw[if_pos hc] at h1 a;rw[if_pos h1] at a;exact a.symm
  ·rw[if_neg hc] at h1;rw[h1] at b;cases b
 ·have k:=key h1
  rw[r6,iN] at k;have k2:it st t f (i+1) (Dr st (bi t i) (t.getD i 0) L)=R:=k;refine⟨k2,fun h2=>?_⟩
  unfold it at k2;rw[if_pos h2] at k2;omega
theorem wA {st:List Nd} {t:List Nat} {f:Nat} {L:List Nat} {R:Int} (b:ce st L=false) (a:it st t f t.length L=R):R= -1:=by
 unfold it at a;rw[if_neg (by rw[b];simp),if_pos rfl] at a
 exact a.symm
structure Sp where
 s:Nat
 b:Bool
 e:Bool
 deriving DecidableEq
structure Og where
 from_:Sp
 root:Bool
 over:Bool
 c:Nat
def dt (st:List Nd) (s:Nat):Nat:=(nd st s).left.toNat
def o8 (st:List Nd) (s:Nat):Nat:=(nd st s).right.toNat
def SE (st:List Nd) (p q:Sp):Prop:=
 ((nd st p.s).kind=2∧(q=⟨dt st p.s,p.b,p.e⟩∨q=⟨o8 st p.s,p.b,p.e⟩))∨((nd st p.s).kind=3∧p.b=true∧q=⟨dt st p.s,p.b,p.e⟩)∨((nd st p.s).kind=4∧q=⟨dt st p.s,p.b,true⟩)
def SB (st:List Nd) (p:Sp) (c:Nat) (q:Sp):Prop:=
 (nd st p.s).kind=1∧hasB (nd st p.s).set c=true∧c<256∧((c=10∧q=⟨dt st p.s,true,false⟩)∨(c≠10∧p.e=false∧q=⟨dt st p.s,false,false⟩))
def gF:Sp:=⟨0,true,false⟩
inductive SR (st:List Nd):List Nat→Sp→Prop
 |start:SR st [] gF
 |eps (t:List Nat) (p q:Sp):SR st t p→SE st p q→SR st t q
 |byt (t:List Nat) (p q:Sp) (c:Nat):SR st t p→SB st p c q→SR st (t++[c]) q
def SAcc (st:List Nd) (t:List Nat):Prop:=
 (∃p,SR st t p∧(nd st p.s).kind=5∧p.e=false)∨∃t' p,t=t'++[10]∧SR st t' p∧(nd st p.s).kind=5∧p.e=true
def pT (st:List Nd):Option (List Nat)→Prop
 |some a=>SAcc st a∧(∀t,SAcc st t→a.length≤t.length)
 |none=>∀t,¬SAcc st t
theorem wL (t u:List Nat):bi (t++u) t.length=bi t t.length:=by
 unfold bi;rcases Nat.eq_zero_or_pos t.length with h|h
 ·rw[h];rfl
 ·have e:(t++u).getD (t.length-1) 0=t.getD (t.length-1) 0:=by
   rw[bD,bJ (by omega),←bD]
  rw[e]
theorem m9 (t:List Nat) (c:Nat):bi (t++[c]) (t++[c]).length=(c==10):=by
 have e:(t++[c]).length=t.length+1:=by simp
 rw[e,iN];have:(t++[c]).getD t.length 0=c:=by
  rw[bD,List.getElem?_append_right (by omega)]
  simp
 rw[this]
theorem ud (t u:List Nat) (h:u.head?=some 10):fG (t++u) t.length=true:=by
 cases u with
 |nil=>simp at h
 |cons x u=>
  simp at h
  subst h;unfold fG;have e:(t++10::u).getD t.length 0=10:=by
   rw[bD,List.getElem?_append_right (by omega)]
   simp
  rw[e,decide_eq_true (by simp)]
  rfl
theorem SR.bytes {st:List Nd} {t:List Nat} {p:Sp} (h:SR st t p):∀x∈t,x<256:=by
 induction h with
 |start=>intro x hx;simp at hx
 |eps t p q _ _ ih=>exact ih
 |byt t p q c _ a ih=>
  intro x hx;rcases List.mem_append.mp hx with hx|hx
  ·exact ih x hx
  ·simp at hx;subst hx;exact a.2.2.1
theorem SAcc.bytes {st:List Nd} {t:List Nat} (h:SAcc st t):∀x∈t,x<256:=by
 rcases h with⟨p,h,_⟩|⟨t',p,rfl,h,_⟩
 ·exact h.bytes
 ·intro x hx;rcases List.mem_append.mp hx with hx|hx
  ·exact h.bytes x hx
  ·simp at hx;omega
section
variable {st : List Nd} (hv : bt st = true)
include hv
theorem SR.lt {t:List Nat} {p:Sp} (h:SR st t p):p.s<st.length:=by
 obtain⟨h1,_,b⟩:=a7 hv;have key:∀p q:Sp,p.s<st.length→SE st p q→q.s<st.length:=by
  intro p q f d;obtain⟨k1,k2,k3,k4⟩:=b p.s f;rcases d with⟨a,rfl|rfl⟩|⟨a,_,rfl⟩|⟨a,rfl⟩
  ·have:=k3 (by omega);show dt st p.s<_;unfold dt;omega
  ·have:=k4 a;show o8 st p.s<_;unfold o8;omega
  ·have:=k3 (by omega);show dt st p.s<_;unfold dt;omega
  ·have:=k3 (by omega);show dt st p.s<_;unfold dt;omega
 induction h with
 |start=>exact h1
 |eps t p q _ d ih=>exact key p q ih d
 |byt t p q c _ e ih=>
  obtain⟨k1,k2,k3,k4⟩:=b p.s ih;have g:q.s=dt st p.s:=by rcases e.2.2.2 with⟨_,rfl⟩|⟨_,_,rfl⟩<;>rfl
  have:=k3 (by rw[e.1];decide)
  rw[g];unfold dt;omega
theorem SR.way {t:List Nat} {p:Sp} (h:SR st t p):p.b=bi t t.length∧∀u:List Nat,(p.e=true→u.head?=some 10)→GWay (fB st) (t++u) p.s t.length:=by
 obtain⟨_,_,l⟩:=a7 hv;have k:=fun {t p} (h:SR st t p)=>SR.lt hv h
 induction h with
 |start=>exact⟨rfl,fun u _=> .start 0 (bO _)⟩
 |eps t p q r o ih=>
  obtain⟨d,f⟩:=ih;obtain⟨k1,k2,k3,k4⟩:=l p.s (k r);rcases o with⟨a,rfl|rfl⟩|⟨a,n,rfl⟩|⟨a,rfl⟩
  ·refine⟨d,fun u i=> .eps _ _ _ (f u i) (bX ⟨a,bX ?_⟩)⟩
   have:=k3 (by omega);show((dt st p.s:Nat):Int)=_;unfold dt;omega
  ·refine⟨d,fun u i=> .eps _ _ _ (f u i) (bX ⟨a,bY ?_⟩)⟩
   have:=k4 a;show((o8 st p.s:Nat):Int)=_;unfold o8;omega
  ·refine⟨d,fun u i=> .eps _ _ _ (f u i) (bY (bX ⟨a,?_,?_⟩))⟩
   ·rw[wL,←d];exact n
   ·have:=k3 (by omega);show((dt st p.s:Nat):Int)=_;unfold dt;omega
  ·refine⟨d,fun u i=> .eps _ _ _ (f u (fun _=>i rfl)) (bY (bY ⟨a,ud _ _ (i rfl),?_⟩))⟩
   have:=k3 (by omega);show((dt st p.s:Nat):Int)=_;unfold dt;omega
 |byt t p q c r n ih=>
  obtain⟨d,f⟩:=ih;obtain⟨k1,k2,k3,k4⟩:=l p.s (k r);obtain⟨a,hc,_,x⟩:=n;have m:((dt st p.s:Nat):Int)=(nd st p.s).left:=by have:=k3 (by omega);unfold dt;omega
  have j:∀u:List Nat,(t++c::u).getD t.length 0=c:=fun u=>by
   rw[bD,List.getElem?_append_right (by omega)]
   simp
  have g:∀u:List Nat,(p.e=true→c=10)→GWay (fB st) (t++[c]++u) (dt st p.s) (t++[c]).length:=by
   intro u o;have h1:=f (c::u) (fun h=>by rw[o h];rfl)
   have h2:=GWay.byte p.s (dt st p.s) t.length h1 (by simp) (by rw[j];exact⟨a,hc,m⟩)
   rw[List.append_assoc];simpa using h2
  rcases x with⟨rfl,rfl⟩|⟨hne,w,rfl⟩
  ·exact⟨by rw[m9];rfl,fun u _=>g u (fun _=>rfl)⟩
  ·refine⟨?_,fun u _=>g u (fun h=>by rw[w] at h;cases h)⟩
   rw[m9]
   show false=(c==10)
   simpa using hne
theorem SAcc.acc {t:List Nat} (h:SAcc st t):rn (fB st) t t.length:=by
 rcases h with⟨p,h,hk,a⟩|⟨t',p,rfl,h,hk,a⟩
 ·refine⟨p.s,t.length,?_,hk⟩;have:=(h.way hv).2 [] (fun h=>by rw[a] at h;cases h)
  rw[List.append_nil] at this
  rwa [List.take_length]
 ·refine⟨p.s,t'.length,?_,hk⟩;have:=(h.way hv).2 [10] (fun _=>rfl)
  rwa [List.take_length]
omit hv in
theorem AI {t:List Nat} {s k:Nat} (h:GWay (fB st) t s k) (q:∀x∈t,x<256):∃t' p,SR st t' p∧p.s=s∧t'.length≤k∧(bi t k=true→p.b=true)∧(p.e=true→fG t k=true):=by
 induction h with
 |start i n=>exact⟨[],gF,.start,rfl,bO _,fun _=>rfl,fun h=>by cases h⟩
 |eps s s' i u m ih=>
  obtain⟨t',p,h1,rfl,f,d,g⟩:=ih;rcases m with⟨a,o|w⟩|⟨a,j,o⟩|⟨a,j,o⟩
  ·exact⟨t',⟨dt st p.s,p.b,p.e⟩,.eps _ _ _ h1 (bX ⟨a,bX rfl⟩),by show dt st p.s=s';unfold dt;omega,f,d,g⟩
  ·exact⟨t',⟨o8 st p.s,p.b,p.e⟩,.eps _ _ _ h1 (bX ⟨a,bY rfl⟩),by show o8 st p.s=s';unfold o8;omega,f,d,g⟩
  ·exact⟨t',⟨dt st p.s,p.b,p.e⟩,.eps _ _ _ h1 (bY (bX ⟨a,d j,rfl⟩)),by show dt st p.s=s';unfold dt;omega,f,d,g⟩
  ·exact⟨t',⟨dt st p.s,p.b,true⟩,.eps _ _ _ h1 (bY (bY ⟨a,rfl⟩)),by show dt st p.s=s';unfold dt;omega,f,d,fun _=>j⟩
 |byte s s' i u n j ih=>
  obtain⟨t',p,h1,rfl,f,d,g⟩:=ih;obtain⟨a,hc,o⟩:=j;have l:t.getD i 0<256:=by rw[bD,bE n];exact q _ (bH n)
  by_cases c:t.getD i 0=10
  ·refine⟨t'++[10],⟨dt st p.s,true,false⟩,.byt _ _ _ _ h1 ⟨a,by rw[←c];exact hc,by omega,bX ⟨rfl,rfl⟩⟩,by show dt st p.s=s';unfold dt;omega,by rw[bF,bG];omega,fun _=>rfl,fun h=>by cases h⟩
  ·have m:p.e=false:=by
    cases r:p.e with
    |false=>rfl
    |true=>
     have:=g r
     unfold fG at this;rw[Bool.and_eq_true,beq_iff_eq] at this;exact absurd this.2 c
   refine⟨t'++[t.getD i 0],⟨dt st p.s,false,false⟩,.byt _ _ _ _ h1 ⟨a,hc,l,bY ⟨c,m,rfl⟩⟩,by show dt st p.s=s';unfold dt;omega,by rw[bF,bG];omega,fun h=>?_,fun h=>by cases h⟩
   rw[iN,beq_iff_eq] at h;exact absurd h c
omit hv in
theorem jH {t:List Nat} {n:Nat} (hn:n≤t.length) (f:∀x∈t,x<256) (h:rn (fB st) t n):∃t',SAcc st t'∧t'.length≤n:=by
 obtain⟨s,k,c,g⟩:=h;have hk:=c.len;rw[List.length_take] at hk;obtain⟨t',p,h1,h2,_,_,d⟩:=AI c (fun x hx=>f x (List.mem_of_mem_take hx))
 have a:(nd st p.s).kind=5:=by rw[h2];exact g
 cases b:p.e with
 |false=>exact⟨t',bX ⟨p,h1,a,b⟩,by omega⟩
 |true=>
  have:=d b
  unfold fG at this;rw[Bool.and_eq_true,decide_eq_true_iff,List.length_take] at this;exact⟨t'++[10],bY ⟨t',p,rfl,h1,a,b⟩,by rw[bF,bG];omega⟩
theorem uP {a:List Nat} (h:pT st (some a)):dh st a=a.length:=by
 refine GLeast.one (gM hv a) (bX ⟨a.length,bM _,rfl,SAcc.acc hv h.1,fun m hm ha=>?_⟩)
 obtain⟨t',h1,h2⟩:=jH (by omega) h.1.bytes ha
 have:=h.2 t' h1
 omega
end
def lk:List (Sp×Og)→Sp→Option Og
 |[],_=>none
 |(q,o)::r,p=>if q=p then some o else lk r p
theorem kP (al:List (Sp×Og)) (q:Sp) (o:Og) (p:Sp):lk (al++[(q,o)]) p=(lk al p).or (if q=p then some o else none):=by
 induction al with
 |nil=>simp[lk]
 |cons x r ih=>
  obtain⟨_,_⟩:=x;rw[List.cons_append,lk,lk,ih];split<;>rfl
theorem lk_keys {al:List (Sp×Og)} {p:Sp}:(lk al p).isSome=true↔p∈al.map Prod.fst:=by
 induction al with
 |nil=>simp[lk]
 |cons x r ih=>
  obtain⟨q,o⟩:=x;rw[lk,List.map_cons,List.mem_cons];split
  ·rename_i e;exact⟨fun _=>bX e.symm,fun _=>rfl⟩
  ·rename_i e;rw[ih];exact⟨bY,fun h=>h.resolve_left (fun h=>e h.symm)⟩
def code (p:Sp):Nat:=4*p.s+(if p.b then 2 else 0)+(if p.e then 1 else 0)
theorem wH {p q:Sp} (h:code p=code q):p=q:=by
 obtain⟨s,b,e⟩:=p;obtain⟨s',a,c⟩:=q;unfold code at h;cases b<;>cases e<;>cases a<;>cases c<;>simp at h ⊢ <;>omega
theorem sy {p:Sp} {n:Nat} (h:p.s<n):code p<4*n:=by
 obtain⟨s,b,e⟩:=p;unfold code;simp only at h ⊢;cases b<;>cases e<;>simp<;>omega
inductive Bk (al:List (Sp×Og)):Sp→List Nat→Nat→Prop
 |root (p:Sp) (o:Og):lk al p=some o→o.root=true→Bk al p [] 0
 |eps (p:Sp) (o:Og) (t:List Nat) (n:Nat):lk al p=some o→o.root=false→o.over=false→Bk al o.from_ t n→Bk al p t (n+1)
 |over (p:Sp) (o:Og) (t:List Nat) (n:Nat):lk al p=some o→o.root=false→o.over=true→Bk al o.from_ t n→Bk al p (t++[o.c]) (n+1)
def Ext (al a:List (Sp×Og)):Prop:=∀p o,lk al p=some o→lk a p=some o
theorem Ext.refl (al:List (Sp×Og)):Ext al al:=fun _ _ h=>h
theorem Ext.trans {a b c:List (Sp×Og)} (h:Ext a b) (k:Ext b c):Ext a c:=fun p o e=>k p o (h p o e)
theorem Ext.some {a b:List (Sp×Og)} (h:Ext a b) {p:Sp} (k:(lk a p).isSome=true):(lk b p).isSome=true:=by
 obtain⟨o,c⟩:=Option.isSome_iff_exists.mp k;rw[h p o c];rfl
theorem Bk.mono {a b:List (Sp×Og)} (h:Ext a b) {p:Sp} {t:List Nat} {n:Nat} (k:Bk a p t n):Bk b p t n:=by
 induction k with
 |root p o h1 h2=>exact .root p o (h p o h1) h2
 |eps p o t n h1 h2 c _ ih=>exact .eps p o t n (h p o h1) h2 c ih
 |over p o t n h1 h2 c _ ih=>exact .over p o t n (h p o h1) h2 c ih
def bv (al:List (Sp×Og)) (L:List Sp) (q:Sp) (o:Og):List (Sp×Og)×List Sp:=if(lk al q).isSome=true then(al,L) else(al++[(q,o)],L++[q])
structure Srch (st:List Nd) (P:Sp→Prop) (D:Nat) (al:List (Sp×Og)) (L:List Sp):Prop where
 k1:∀p,(lk al p).isSome=true↔(P p∨p∈L)
 k2:∀p∈L,¬P p
 k3:∀p,(lk al p).isSome=true→∃t n,Bk al p t n∧SR st t p∧t.length≤D
 k4:Spots (4*st.length) (al.map fun x=>code x.1)
 k5:L.length≤al.length
theorem Srch.few {st:List Nd} {P:Sp→Prop} {D:Nat} {al:List (Sp×Og)} {L:List Sp} (h:Srch st P D al L):al.length≤4*st.length:=by
 have:=h.k4.len
 rwa [bL] at this
theorem Srch.reach {st:List Nd} {P:Sp→Prop} {D:Nat} {al:List (Sp×Og)} {L:List Sp} (h:Srch st P D al L) {q:Sp} (B:q.s<st.length) (o:Og)
  (A:lk al q=none→∃t n,Bk al o.from_ t n∧o.root=false∧((o.over=false∧SR st t q∧t.length≤D)∨(o.over=true∧SR st (t++[o.c]) q∧t.length+1≤D))):
  Srch st P D (bv al L q o).1 (bv al L q o).2∧(lk (bv al L q o).1 q).isSome=true∧Ext al (bv al L q o).1∧∃e,(bv al L q o).2=L++e:=by
 unfold bv
 by_cases hs:(lk al q).isSome=true
 ·rw[if_pos hs];exact⟨h,hs,Ext.refl _,[],by simp⟩
 ·rw[if_neg hs];have hn:lk al q=none:=by cases z:lk al q with
   |none=>rfl
   |some x=>rw[z] at hs;exact absurd rfl hs
  have hx:Ext al (al++[(q,o)]):=fun p x d=>by rw[kP,d];rfl
  have i:lk (al++[(q,o)]) q=some o:=by rw[kP,hn,if_pos rfl];rfl
  have g:∀p,(lk (al++[(q,o)]) p).isSome=true↔((lk al p).isSome=true∨p=q):=by
   intro p;rw[lk_keys,lk_keys,List.map_append,List.mem_append];simp
  have r:¬P q:=fun d=>hs ((h.k1 q).2 (bX d))
  refine⟨⟨fun p=>?_,fun p d=>?_,fun p d=>?_,?_,?_⟩,by rw[i];rfl,hx,[q],rfl⟩
  ·rw[g,h.k1,List.mem_append,List.mem_singleton,or_assoc]
  ·rcases List.mem_append.mp d with d|d
   ·exact h.k2 p d
   ·simp at d;subst d;exact r
  ·rcases (g p).1 d with d|rfl
   ·obtain⟨t,n,h1,h2,m⟩:=h.k3 p d;exact⟨t,n,h1.mono hx,h2,m⟩
   ·obtain⟨t,n,h1,h2,m⟩:=A hn;rcases m with⟨j,k,l⟩|⟨j,k,l⟩
    ·exact⟨t,n+1,.eps p o t n i h2 j (h1.mono hx),k,l⟩
    ·exact⟨t++[o.c],n+1,.over p o t n i h2 j (h1.mono hx),k,by rw[bF,bG];exact l⟩
  ·rw[List.map_append];refine⟨List.nodup_append.mpr ⟨h.k4.1,by simp,?_⟩,fun s f=>?_⟩
   ·intro a ha b y e;simp at y;subst y;subst e;obtain⟨x,u,w⟩:=List.mem_map.mp ha;have:=wH w;exact hs (lk_keys.2 (List.mem_map.mpr ⟨x,u,this⟩))
   ·rcases List.mem_append.mp f with f|f
    ·exact h.k4.2 s f
    ·simp at f;subst f;exact sy B
  ·rw[bF,bF,bG,bG];have:=h.k5;omega
def gV (st:List Nd) (d:Nat) (p:Sp):Prop:=∃t,SR st t p∧t.length<d
structure Head (st:List Nd) (d:Nat) (al:List (Sp×Og)) (L:List Sp):Prop where
 srch:Srch st (gV st d) d al L
 seed:(lk al gF).isSome=true
 byt:∀p q c,gV st d p→SB st p c q→(lk al q).isSome=true
 nofin:∀p,gV st d p→(nd st p.s).kind≠5
theorem Head.start {st:List Nd} (h1:1≤st.length) (o:Og) (d:o.root=true):Head st 0 [(gF,o)] [gF]:=by
 have a:∀p,¬gV st 0 p:=by rintro p ⟨t,_,h⟩;omega
 have b:lk [(gF,o)] gF=some o:=by rw[lk,if_pos rfl]
 have hk:∀p,(lk [(gF,o)] p).isSome=true↔p=gF:=by intro p;rw[lk_keys];simp
 refine⟨⟨fun p=>?_,fun p _=>a p,fun p e=>?_,?_,bM _⟩,by rw[b];rfl,fun p q c h=>absurd h (a p),fun p h=>absurd h (a p)⟩
 ·rw[hk];simp[a p]
 ·obtain rfl:=(hk p).1 e;exact⟨[],0,.root _ _ b d,.start,bM _⟩
 ·refine⟨by simp,fun s hs=>?_⟩
  simp at hs
  subst hs;exact sy h1
theorem Head.fwd {st:List Nd} (hv:bt st=true) {d:Nat} {al:List (Sp×Og)} {L:List Sp} (h:Head st d al L) {p q:Sp} (r:p∈L) (o:SE st p q):
  q.s<st.length∧Head st d (bv al L q ⟨p,false,false,0⟩).1 (bv al L q ⟨p,false,false,0⟩).2∧(lk (bv al L q ⟨p,false,false,0⟩).1 q).isSome=true∧Ext al (bv al L q ⟨p,false,false,0⟩).1∧∃e,(bv al L q ⟨p,false,false,0⟩).2=L++e:=by
 obtain⟨t,n,h1,h2,m⟩:=h.srch.k3 p ((h.srch.k1 p).2 (bY r));have f:=SR.eps t p q h2 o;have i:=SR.lt hv f;obtain⟨j,k,g,l⟩:=h.srch.reach i ⟨p,false,false,0⟩ (fun _=>⟨t,n,h1,rfl,bX ⟨rfl,f,m⟩⟩)
 exact⟨i,⟨j,g.some h.seed,fun p q c a b=>g.some (h.byt p q c a b),h.nofin⟩,k,g,l⟩
theorem Head.full {st:List Nd} {d:Nat} {al:List (Sp×Og)} {L:List Sp} (h:Head st d al L) (hc:∀p∈L,∀q,SE st p q→(lk al q).isSome=true) (p:Sp):(lk al p).isSome=true↔gV st (d+1) p:=by
 constructor
 ·intro b;obtain⟨t,n,_,h2,_⟩:=h.srch.k3 p b;exact⟨t,h2,by omega⟩
 ·rintro⟨t,f,a⟩
  suffices hs:∀{t p},SR st t p→t.length<d+1→(lk al p).isSome=true from hs f a
  intro t p f
  induction f with
  |start=>intro _;exact h.seed
  |eps t p q b i ih=>
   intro a;rcases (h.srch.k1 p).1 (ih a) with e|e
   ·obtain⟨u,k,g⟩:=e;exact(h.srch.k1 q).2 (bX ⟨u,.eps u p q k i,g⟩)
   ·exact hc p e q i
  |byt t p q c b j ih=>
   intro a;rw[bF,bG] at a;exact h.byt p q c ⟨t,b,by omega⟩ j
structure Nxt (st:List Nd) (d:Nat) (L:List Sp) (k:Nat) (al:List (Sp×Og)) (N:List Sp):Prop where
 srch:Srch st (gV st (d+1)) (d+1) al N
 seed:(lk al gF).isSome=true
 byt:∀p q c,gV st d p→SB st p c q→(lk al q).isSome=true
 done:∀j,j<k→∀c q,SB st (L.getD j gF) c q→(lk al q).isSome=true
 old:∀p,gV st (d+1) p→∃t n,Bk al p t n∧SR st t p∧t.length≤d
theorem Head.nxt {st:List Nd} {d:Nat} {al:List (Sp×Og)} {L:List Sp} (h:Head st d al L) (hc:∀p∈L,∀q,SE st p q→(lk al q).isSome=true):Nxt st d L 0 al []:=by
 refine⟨⟨fun p=>?_,fun p a=>by simp at a,fun p a=>?_,h.srch.k4,bO _⟩,h.seed,h.byt,fun j hj=>by omega,fun p a=>h.srch.k3 p ((h.full hc p).2 a)⟩
 ·rw[h.full hc];simp
 ·obtain⟨t,n,h1,h2,_⟩:=h.srch.k3 p a;exact⟨t,n,h1,h2,by omega⟩
theorem Nxt.put {st:List Nd} (hv:bt st=true) {d:Nat} {L:List Sp} {k:Nat} {al:List (Sp×Og)} {N:List Sp} (h:Nxt st d L k al N) {p q:Sp} {c:Nat} (g:gV st (d+1) p) (o:SB st p c q):
  q.s<st.length∧Nxt st d L k (bv al N q ⟨p,false,true,c⟩).1 (bv al N q ⟨p,false,true,c⟩).2∧(lk (bv al N q ⟨p,false,true,c⟩).1 q).isSome=true∧Ext al (bv al N q ⟨p,false,true,c⟩).1:=by
 obtain⟨t,n,h1,h2,_⟩:=h.old p g;have f:=SR.byt t p q c h2 o;have i:=SR.lt hv f;obtain⟨l,m,e,_⟩:=h.srch.reach i ⟨p,false,true,c⟩ (fun _=>⟨t,n,h1,rfl,bY ⟨rfl,f,by omega⟩⟩)
 refine⟨i,⟨l,e.some h.seed,fun p q c a b=>e.some (h.byt p q c a b),fun j hj c q hs=>e.some (h.done j hj c q hs),fun p g=>?_⟩,m,e⟩
 obtain⟨t,n,a1,a2,a3⟩:=h.old p g;exact⟨t,n,a1.mono e,a2,a3⟩
theorem Nxt.next {st:List Nd} {d:Nat} {L:List Sp} {k:Nat} {al:List (Sp×Og)} {N:List Sp} (h:Nxt st d L k al N) (hk:∀c q,SB st (L.getD k gF) c q→(lk al q).isSome=true):Nxt st d L (k+1) al N:=
 ⟨h.srch,h.seed,h.byt,fun j hj c q hs=>by
  by_cases e:j=k
  ·subst e;exact hk c q hs
  ·exact h.done j (by omega) c q hs,h.old⟩
theorem Nxt.head {st:List Nd} {d:Nat} {L:List Sp} {al:List (Sp×Og)} {N:List Sp} (h:Nxt st d L L.length al N) (b:∀p,gV st (d+1) p→gV st d p∨p∈L) (g:∀p,gV st d p→(nd st p.s).kind≠5) (f:∀p∈L,(nd st p.s).kind≠5):Head st (d+1) al N:=by
 refine⟨h.srch,h.seed,fun p q c a e=>?_,fun p a=>?_⟩
 ·rcases b p a with a|a
  ·exact h.byt p q c a e
  ·obtain⟨j,hj,rfl⟩:=List.mem_iff_getElem.mp a;refine h.done j hj c q ?_;rw[bD,bE hj];exact e
 ·rcases b p a with a|a
  ·exact g p a
  ·exact f p a
theorem Head.found {st:List Nd} {d:Nat} {al:List (Sp×Og)} {L:List Sp} (h:Head st d al L) {p:Sp} (j:p∈L) (hk:(nd st p.s).kind=5) (c:p.e=false) {t:List Nat} (f:SR st t p) (i:t.length≤d):pT st (some t):=by
 refine⟨bX ⟨p,f,hk,c⟩,fun u g=>?_⟩
 rcases g with⟨q,h1,h2,_⟩|⟨b,q,rfl,h1,h2,_⟩
 ·by_cases a:u.length<d
  ·exact absurd h2 (h.nofin q ⟨u,h1,a⟩)
  ·omega
 ·by_cases a:b.length<d
  ·exact absurd h2 (h.nofin q ⟨b,h1,a⟩)
  ·rw[bF,bG];omega
theorem Head.late {st:List Nd} {d:Nat} {al:List (Sp×Og)} {L:List Sp} (h:Head st d al L) (hc:∀p,gV st (d+1) p→gV st d p∨p∈L) (b:∀p∈L,(nd st p.s).kind=5→p.e=true) {p:Sp} (m:p∈L) (hk:(nd st p.s).kind=5) (i:p.e=true) {t:List Nat} (j:SR st t p) (l:t.length≤d):pT st (some (t++[10])):=by
 refine⟨bY ⟨t,p,rfl,j,hk,i⟩,fun u k=>?_⟩
 rw[bF,bG];rcases k with⟨q,h1,h2,g⟩|⟨f,q,rfl,h1,h2,_⟩
 ·by_cases a:u.length<d+1
  ·rcases hc q ⟨u,h1,a⟩ with c|c
   ·exact absurd h2 (h.nofin q c)
   ·have:=b q c h2;rw[g] at this;cases this
  ·omega
 ·by_cases a:f.length<d
  ·exact absurd h2 (h.nofin q ⟨f,h1,a⟩)
  ·rw[bF,bG];omega
theorem Head.part {st:List Nd} {d:Nat} {al:List (Sp×Og)} {L:List Sp} (h:Head st d al L) (hc:∀p∈L,∀q,SE st p q→(lk al q).isSome=true) (p:Sp) (a:gV st (d+1) p):gV st d p∨p∈L:=
 (h.srch.k1 p).1 ((h.full hc p).2 a)
theorem Head.none_ {st:List Nd} {d:Nat} {al:List (Sp×Og)} (h:Head st d al []):pT st none:=by
 have key:∀{t p},SR st t p→gV st d p:=by
  intro t p a;have hs:∀{t p},SR st t p→(lk al p).isSome=true:=by
   intro t p a
   induction a with
   |start=>exact h.seed
   |eps t p q g f ih=>
    obtain⟨u,i,b⟩:=((h.srch.k1 p).1 ih).resolve_right (by simp)
    exact(h.srch.k1 q).2 (bX ⟨u,.eps u p q i f,b⟩)
   |byt t p q c g e ih=>
    exact h.byt p q c (((h.srch.k1 p).1 ih).resolve_right (by simp)) e
  exact((h.srch.k1 p).1 (hs a)).resolve_right (by simp)
 rintro t (⟨p,h1,h2,_⟩|⟨t',p,_,h1,h2,_⟩)
 ·exact h.nofin p (key h1) h2
 ·exact h.nofin p (key h1) h2
section
variable {P : Program} {w : World} {ops : Array Oper} {rest : List Oper} {o : Oper} {a : Act} {Q : Exit → Act → World → Prop}
theorem eI (base:Nat) (t x e:TypeId) (i:TypeInfo) (z:Value) (size bytes:Nat) (D:P.underlying t=some (.slice e)) (C:P.info? e=some i) (hz:i.zero=some z)
  (o:i.size=size) (A:i.bytes=bytes) (K:z.cells.size=size) (hsz:0<size)
  (v:Value) (n:Nat) (xs:List Value) (h:w.ownsRow base e size v n xs)
  (ad:Addr) (m c:Nat) (a:List Value) (r:a.length=m*size) (d:∀j u,a[j]? =some u→w.cell? (ad.add j)=some u) (h1:∀u∈a,u.oneCell'=true)
  (y:n+m≤maxLen) (f:(n+m)*bytes≤140737488355328) (hm:0<m) (v':Value) (w':World) (b:(Builtin.append_ #[t,t] x #[v,.slice (some ad) m c]).run P w= .ok v' w'):
  v'.ownBlock=v.ownBlock∨v'.ownBlock=some w.heap.size:=by
 subst o;subst A;have s:n+m≤9223372036854775807:=by simp only[maxLen] at y;omega
 rcases h.2 with⟨rfl,rfl⟩|⟨g,cap,cur,rfl,G,I,J,H,B,E⟩
 ·have q:=run_append_nil (P:=P) w t x e i z D C hz ad m c a r d hm (by omega) (by have F:=f;simp only[Nat.zero_add] at F;omega)
  rw[q] at b;injection b with e1 e2
  subst e1;exact bY rfl
 ·by_cases k:n+m≤cap
  ·have p:n*i.size+a.length≤cur.size:=by rw[r,B,←Nat.add_mul];exact Nat.mul_le_mul_right _ k
   have q:=run_append_room (P:=P) w t x e i D C g n cap cur I ad m c a r d h1 k p
   rw[q] at b;injection b with e1 e2
   subst e1;exact bX rfl
  ·have l:∀j u,xs[j]? =some u→w.cell? ((⟨g,0,none⟩:Addr).add j)=some u:=h.cells (g:=g) rfl
   have q:=run_append_grow (P:=P) w t x e i z D C hz ⟨g,0,none⟩ n cap xs h.1 l ad m c a r d (by omega) (by omega) (growslice_fits (by omega) f)
   rw[q] at b;injection b with e1 e2
   subst e1;exact bY rfl
def mc (w:World) (v v':Value):Prop:=v'.ownBlock=v.ownBlock∨∃k,v'.ownBlock=some k∧w.heap.size≤k
theorem fk {wr:World} (r:o.guard=none) (s x:Operand) (t:TypeId)
  (I:o.op= .call {callee:= .builtin .append,args:=#[s,x],argTypes:=#[t,t]})
  (base:Nat) (e:TypeId) (z:Value) (size bytes:Nat) (C:P.underlying t=some (.slice e))
  (H:(P.info? e).map (fun i=>(i.zero,i.size,i.bytes))=some (some z,size,bytes)) (k:z.cells.size=size) (hsz:0<size) (q:bytes≤1024)
  (v:Value) (n:Nat) (xs:List Value) (hs:a.eval s=v) (f:Own wr base e size v n xs)
  (m c:Nat) (b:List Value) (hx:a.eval x= .slice (some ⟨wr.heap.size,0,none⟩) m c) (J:w=wr.alloc (.cells b.toArray e)) (A:b.length=m*size) (h1:b.all Value.oneCell'=true)
  (hn:n+m≤68719476736) (p:base≤wr.heap.size) (hm:0<m)
  (h:∀v' w',Own w' base e size v' (n+m) (xs++b)→wr.grownBy w' v.ownBlock→mc wr v v'→wpList P ops Q rest (a.put o.dst v') w'):wpList P ops Q (o::rest) a w:=by
 subst J;obtain⟨i,j,hz,d,g⟩:=info_parts H;have F:(n+m)*bytes≤68719476736*1024:=Nat.mul_le_mul hn q;refine wpList_plain r fun K E=>?_
 obtain⟨v',w',B,h2,D,_⟩:=run_append_own (P:=P) (wr.alloc (.cells b.toArray e)) base t o.type e i z size bytes C j hz d g k hsz v n xs (Own.alloc f _) ⟨wr.heap.size,0,none⟩ m c b A (ed wr b e) (by simpa using h1)
  (by unfold maxLen;omega) (by omega) (by simp;omega)
 have y:=eI (P:=P) (w:=wr.alloc (.cells b.toArray e)) base t o.type e i z size bytes C j hz d g k hsz v n xs (Own.alloc f _) ⟨wr.heap.size,0,none⟩ m c b A (ed wr b e) (by simpa using h1)
  (by unfold maxLen;omega) (by omega) hm v' w' B
 have u:mc wr v v':=by
  rcases y with l|l
  ·exact bX l
  ·exact bY ⟨_,l,by simp⟩
 have G:wr.grownBy w' v.ownBlock:=World.grownBy.trans (World.grownBy_alloc wr _ _) D
 unfold Oper.wp execOp;simp only[I,resolve,invoke,builtin,Sem.run_bind,Sem.run_pure,Result.andThen_ok,List.map_toArray,List.map_cons,List.map_nil,hs,hx,B];exact E _ _ (h v' w' h2 G u)
end
def zT (L:List Nat):List Value:=L.map (fun s:Nat=>Value.int .i64 (s:Int))
theorem rA (L:List Nat) (i:Nat) (h:i<L.length):(zT L)[i]? =some (.int .i64 (L.getD i 0:Nat)):=by
 simp[zT,h,bD]
def vv (n:Nat) (M:List Nat):List Value:=(List.range n).map (fun i=>Value.bool (decide (i∈M)))
theorem fE (n:Nat) (M:List Nat):(vv n M).length=n:=by simp[vv]
theorem jz (n:Nat) (M:List Nat) (i:Nat) (h:i<n):(vv n M)[i]? =some (.bool (decide (i∈M))):=by simp[vv,h]
theorem yC (n:Nat) (M:List Nat) (s:Nat):(vv n M).set s (.bool true)=vv n (M++[s]):=by
 apply List.ext_getElem?;intro i
 by_cases a:i<n
 ·rw[jz _ _ _ a]
  by_cases e:s=i
  ·subst e;rw[List.getElem?_set_self (by rw[fE];exact a)]
   simp
  ·rw[List.getElem?_set_ne e,jz _ _ _ a];simp[Ne.symm e]
 ·rw[bI (by simp[fE];omega),bI (by simp[fE];omega)]
def DO (A:Option Addr) (n c gm:Nat) (lv:Value) (bol:Bool) (cnt:Nat) (fd:Bool):Obj:= .cells #[.slice A n c,.slice (some ⟨gm,0,none⟩) n n,lv,.bool bol,.int .i64 (cnt:Int),.bool fd] 308 (0,0)
structure MK (w0 w:World) (B g gm:Nat) (st:List Nd) (A:Option Addr) (c:Nat) (lv:Value) (bol:Bool) (cnt:Nat) (fd:Bool) (M L:List Nat):Prop where
 old:Old w0 w
 nodes:Rs w0 A (cI st)
 blk:w.heap[g]? =some (DO A st.length c gm lv bol cnt fd)
 mks:w.heap[gm]? =some (.cells (vv st.length M).toArray 4 (0,0))
 own:Own w B 3 1 lv L.length (zT L)
 bg:w0.heap.size≤g
 bm:w0.heap.size≤gm
 lg:g<B
 lm:gm<B
 n2:g≠gm
 lB:B≤w.heap.size
theorem dU {w:World} {B:Nat} {e:TypeId} {s:Nat} {v:Value} {n:Nat} {xs:List Value} (h:Own w B e s v n xs) {k:Nat} (hk:k<B):some k≠v.ownBlock:=by
 intro e;have:=(bU h k e.symm).1;omega
theorem iM (w:World) (g i:Nat) (v:Value):w.grownBy (w.setCell ⟨g,i,none⟩ v) (some g):=⟨rfl,rfl,rfl,by simp,fun k _ hk=>aL w ⟨g,i,none⟩ k _ (fun e=>hk (by simp[e]))⟩
section
variable {w0 w w2 w' : World} {B g gm c cnt : Nat} {st : List Nd} {A : Option Addr} {lv v' : Value} {bol fd : Bool} {M L L' : List Nat}
theorem MK.up (h:MK w0 w B g gm st A c lv bol cnt fd M L) (a:Old w w'):MK w0 w' B g gm st A c lv bol cnt fd M L:=
 ⟨h.old.up a,h.nodes,a.block h.blk,a.block h.mks,h.own.up a,h.bg,h.bm,h.lg,h.lm,h.n2,bN h.lB a.size⟩
theorem MK.mark (h:MK w0 w B g gm st A c lv bol cnt fd M L) (s:Nat):MK w0 (w.setCell ⟨gm,s,none⟩ (.bool true)) B g gm st A c lv bol cnt fd (M++[s]) L:=by
 refine⟨h.old.setCell h.bm _,h.nodes,?_,?_,bT h.own (iM w gm s _) (bY (fun e=>dU h.own h.lm e.symm)),h.bg,h.bm,h.lg,h.lm,h.n2,by simpa using h.lB⟩
 ·rw[aL w ⟨gm,s,none⟩ g _ h.n2];exact h.blk
 ·rw[aO w gm s _ _ _ h.mks,List.setIfInBounds_toArray,yC]
theorem MK.list (h:MK w0 w B g gm st A c lv bol cnt fd M L) (b:Own w2 B 3 1 v' L'.length (zT L')) (a:w.grownBy w2 lv.ownBlock):MK w0 (w2.setCell ⟨g,2,none⟩ v') B g gm st A c v' bol cnt fd M L':=by
 have d:w0.heap.size≤B:=bN h.bg (Nat.le_of_lt h.lg)
 have b1:w2.heap[g]? =_:=(a.block g (aQ h.blk) (dU h.own h.lg)).trans h.blk
 have b3:w2.heap[gm]? =_:=(a.block gm (aQ h.mks) (dU h.own h.lm)).trans h.mks
 refine⟨(Own.grown_old h.old h.own d a).setCell h.bg _,h.nodes,?_,?_,bT b (iM w2 g 2 _) (bY (fun e=>dU b h.lg e.symm)),h.bg,h.bm,h.lg,h.lm,h.n2,by simpa using bN h.lB a.size⟩
 ·exact aO w2 g 2 _ _ _ b1
 ·rw[aL w2 ⟨g,2,none⟩ gm _ (Ne.symm h.n2)];exact b3
theorem MK.field {i:Nat} {v:Value} {a d:Bool} {b:Nat} (h:MK w0 w B g gm st A c lv bol cnt fd M L) (f:(w.setCell ⟨g,i,none⟩ v).heap[g]? =some (DO A st.length c gm lv a b d)):MK w0 (w.setCell ⟨g,i,none⟩ v) B g gm st A c lv a b d M L:=by
 refine⟨h.old.setCell h.bg _,h.nodes,f,?_,bT h.own (iM w g i _) (bY (fun e=>dU h.own h.lg e.symm)),h.bg,h.bm,h.lg,h.lm,h.n2,by simpa using h.lB⟩
 rw[aL w ⟨g,i,none⟩ gm _ (Ne.symm h.n2)];exact h.mks
theorem MK.bol_ (h:MK w0 w B g gm st A c lv bol cnt fd M L) (b:Bool):MK w0 (w.setCell ⟨g,3,none⟩ (.bool b)) B g gm st A c lv b cnt fd M L:=h.field (aO w g 3 _ _ _ h.blk)
theorem MK.cnt_ (h:MK w0 w B g gm st A c lv bol cnt fd M L) (k:Nat):MK w0 (w.setCell ⟨g,4,none⟩ (.int .i64 (k:Int))) B g gm st A c lv bol k fd M L:=h.field (aO w g 4 _ _ _ h.blk)
theorem MK.found (h:MK w0 w B g gm st A c lv bol cnt fd M L) (b:Bool):MK w0 (w.setCell ⟨g,5,none⟩ (.bool b)) B g gm st A c lv bol cnt b M L:=h.field (aO w g 5 _ _ _ h.blk)
theorem MK.cells (h:MK w0 w B g gm st A c lv bol cnt fd M L):w.cell? ⟨g,0,none⟩=some (.slice A st.length c)∧w.cell? ⟨g,1,none⟩=some (.slice (some ⟨gm,0,none⟩) st.length st.length)∧w.cell? ⟨g,2,none⟩=some lv∧w.cell? ⟨g,3,none⟩=some (.bool bol)∧w.cell? ⟨g,4,none⟩=some (.int .i64 (cnt:Int))∧w.cell? ⟨g,5,none⟩=some (.bool fd):=
 ⟨by rw[aK w g 0 _ _ _ h.blk];rfl,by rw[aK w g 1 _ _ _ h.blk];rfl,by rw[aK w g 2 _ _ _ h.blk];rfl,by rw[aK w g 3 _ _ _ h.blk];rfl,by rw[aK w g 4 _ _ _ h.blk];rfl,by rw[aK w g 5 _ _ _ h.blk];rfl⟩
theorem MK.frz (h:MK w0 w B g gm st A c lv bol cnt fd M L) (i:Nat):w.frozen? ⟨g,i,none⟩=false:=aN w g i _ _ h.blk
theorem MK.mk_ (h:MK w0 w B g gm st A c lv bol cnt fd M L) {s:Nat} (hs:s<st.length):w.cell? ⟨gm,s,none⟩=some (.bool (decide (s∈M)))∧w.frozen? ⟨gm,s,none⟩=false:=
 ⟨by rw[aK w gm s _ _ _ h.mks,List.getElem?_toArray,jz _ _ _ hs],aN w gm s _ _ h.mks⟩
end
structure MKept (w w':World) (g gm:Nat) (lv lv':Value):Prop where
 size:w.heap.size≤w'.heap.size
 far:∀k,k<w.heap.size→k≠g→k≠gm→some k≠lv.ownBlock→w'.heap[k]? =w.heap[k]?
 row:∀k,lv'.ownBlock=some k→lv.ownBlock=some k∨w.heap.size≤k
theorem MKept.refl (w:World) (g gm:Nat) (lv:Value):MKept w w g gm lv lv:=⟨bM _,fun _ _ _ _ _=>rfl,fun _ h=>bX h⟩
theorem MKept.of_old {w w':World} (h:Old w w') (g gm:Nat) (lv:Value):MKept w w' g gm lv lv:=⟨h.size,fun k hk _ _ _=>h.out.block k hk,fun _ h=>bX h⟩
theorem MKept.trans {w i w2:World} {g gm:Nat} {a b d:Value} (h:MKept w i g gm a b) (k:MKept i w2 g gm b d):MKept w w2 g gm a d:=by
 refine⟨bN h.size k.size,fun j hj h1 h2 f=>?_,fun j hj=>?_⟩
 ·rw[k.far j (Nat.lt_of_lt_of_le hj h.size) h1 h2 (fun e=>?_),h.far j hj h1 h2 f]
  rcases h.row j e.symm with c|c
  ·exact f c.symm
  ·omega
 ·rcases k.row j hj with c|c
  ·exact h.row j c
  ·exact bY (bN h.size c)
theorem MKept.block {w w':World} {g gm:Nat} {a b:Value} (h:MKept w w' g gm a b) {k:Nat} {o:Obj} (hk:w.heap[k]? =some o) (h1:k≠g) (h2:k≠gm) (c:some k≠a.ownBlock):w'.heap[k]? =some o∧some k≠b.ownBlock:=by
 refine⟨(h.far k (aQ hk) h1 h2 c).trans hk,fun e=>?_⟩
 rcases h.row k e.symm with d|d
 ·exact c d.symm
 ·have:=aQ hk;omega
theorem MKept.mark (w:World) (g gm s:Nat) (lv v:Value):MKept w (w.setCell ⟨gm,s,none⟩ v) g gm lv lv:=
 ⟨by simp,fun k _ _ h2 _=>aL w ⟨gm,s,none⟩ k _ h2,fun _ h=>bX h⟩
theorem MKept.fld (w:World) (g gm i:Nat) (lv v:Value):MKept w (w.setCell ⟨g,i,none⟩ v) g gm lv lv:=
 ⟨by simp,fun k _ h2 _ _=>aL w ⟨g,i,none⟩ k _ h2,fun _ h=>bX h⟩
theorem MKept.list {w w2:World} {lv v':Value} (a:w.grownBy w2 lv.ownBlock) (hs:mc w lv v') (g gm:Nat):MKept w (w2.setCell ⟨g,2,none⟩ v') g gm lv v':=by
 refine⟨by simpa using a.size,fun k hk h1 _ b=>?_,fun k hk=>?_⟩
 ·rw[aL w2 ⟨g,2,none⟩ k _ h1];exact a.block k hk b
 ·rcases hs with e|⟨j,e,hj⟩
  ·rw[←e];exact bX hk
  ·rw[e] at hk;injection hk with hk;subst hk;exact bY hj
def CG (st:List Nd) (L:List Nat) (s:Nat) (fd:Bool):Bool:=if s∈L then fd else fd||decide ((nd st s).kind=5)
def Cg (w:World) (lv:Value) (w0:World) (B g gm:Nat) (st:List Nd) (A:Option Addr) (c:Nat) (bol:Bool) (cnt:Nat) (fd:Bool) (L:List Nat) (e:Ending) (w':World):Prop:=
 e= .returned (.tuple #[])∧∃lv',MK w0 w' B g gm st A c lv' bol cnt fd L L∧MKept w w' g gm lv lv'
theorem yD (w0:World) (B g gm:Nat) (st:List Nd) (A:Option Addr) (c:Nat) (lv:Value) (bol:Bool) (cnt:Nat) (fd:Bool) (L:List Nat) (w:World) (h:MK w0 w B g gm st A c lv bol cnt fd L L) (T:st.length≤1000) (O:Spots st.length L) (s:Nat) (hs:s<st.length):
  Calls Tryz.prog 228 #[.pointer (some ⟨g,0,none⟩),.int .i64 (s:Int)] w (Cg w lv w0 B g gm st A c bol cnt (CG st L s fd) (ag L s)):=by
 obtain⟨_,R,_,_,_,_⟩:=h.cells;obtain⟨y,N⟩:=h.mk_ hs;have U:(0:Int)≤(s:Int):=by omega
 have V:(s:Int)<(st.length:Int):=by omega
 have H:=aJ h
 have P:=O.len
 by_cases hm:s∈L
 ·have e:ag L s=L:=by unfold ag;rw[if_pos hm]
  have f:CG st L s fd=fd:=if_pos hm
  rw[e,f];rw[decide_eq_true hm] at y;clear e f h;go_enter Tryz.func228,Tryz.ntmps228;go_wp2_with fail;go_end0;exact⟨rfl,lv,H.out,MKept.refl _ _ _ _⟩
 ·have e:ag L s=L++[s]:=by unfold ag;rw[if_neg hm]
  have f:CG st L s fd=(fd||decide ((nd st s).kind=5)):=if_neg hm
  rw[e,f];rw[decide_eq_false hm] at y;have h1:=h.mark s;have j:=aJ h1;have n:=aJ (MKept.mark w g gm s lv (.bool true));obtain⟨b,off,rfl,_,d⟩:=(h.nodes.up h.old).at_ (by rw[aV];omega)
  generalize Q:w.setCell ⟨gm,s,none⟩ (.bool true)=w1 at *;obtain⟨_,_,S,_,_,_⟩:=h1.cells;have K:=h1.frz 2;have o:=aQ h1.blk;have E:Hid (B≤w1.heap.size):=aJ h1.lB;obtain⟨G,J,rfl,_,_,_⟩:=h1.own.shape;clear e f h h1 d;go_enter Tryz.func228,Tryz.ntmps228;go_upto_region 2 with fail
  go_wp2_with (at_builtin;refine fk (wr:=w1) rfl _ _ 22 rfl _ 3 (.int .i64 0) 1 8 Tryz.underlying22 jX rfl (by decide) (by decide) _ _ _ rfl j.out.own 1 1 [.int .i64 (s:Int)] rfl rfl rfl rfl ?pn1 E.out (by decide) ?_)
  case pn1=>omega
  intro v' w2 D t r;have b2:w2.heap[g]? =_:=(t.block g o (dU j.out.own j.out.lg)).trans j.out.blk;have M:w2.frozen? ⟨g,2,none⟩=false:=aN w2 g 2 _ _ b2;have c4:w2.cell? ⟨g,2,none⟩=some (.slice G L.length J):=by rw[aK w2 g 2 _ _ _ b2];rfl
  have p:=aQ b2
  obtain⟨u,z,rfl,_,_,_⟩:=D.shape;have q:Own w2 B 3 1 (.slice u (L.length+1) z) (L++[s]).length (zT (L++[s])):=by
   have e:zT (L++[s])=zT L++[.int .i64 (s:Int)]:=by unfold zT;rw[List.map_append];rfl
   have f:(L++[s]).length=L.length+1:=by simp
   rw[e,f];exact D
  have i:=aJ (j.out.list q t)
  have m:=aJ (n.out.trans (MKept.list t r g gm))
  clear D q t r b2 R S y N K;go_upto_region 3 with fail
  generalize w2.setCell ⟨g,2,none⟩ (.slice u (L.length+1) z)=w3 at *;clear M c4 o p;obtain⟨_,_,_,_,_,_⟩:=i.out.cells;have z5:=i.out.frz 5;have l:=aJ (i.out.found (fd||decide ((nd st s).kind=5)));have a:=aJ (m.out.trans (MKept.fld w3 g gm 5 (.slice u (L.length+1) z) (.bool (fd||decide ((nd st s).kind=5)))));obtain⟨_,_,C,_,d⟩:=(i.out.nodes.up i.out.old).at_ (by rw[aV];omega)
  injection C with C
  injection C with he1 he2
  subst he1;subst he2;have hx:st[s]? =some (nd st s):=by unfold nd;rw[bD,bE hs];rfl
  have k0:=d _ _ (cd st s _ hx 0 (by omega))
  rw[Nat.add_zero] at k0
  replace k0:w3.cell? ⟨b,off+s*7,none⟩=some (.int .i64 (nd st s).kind):=k0
  clear d hx i m j n E;generalize (nd st s).kind=kd at *;cases fd with
  |true=>
   go_wp2_with fail;go_end0;exact⟨rfl,_,l.out,a.out⟩
  |false=>
   have F:(kd==5)=decide (kd=5):=by rw[Bool.eq_iff_iff,beq_iff_eq,decide_eq_true_iff]
   by_cases k:kd=5
   ·have I:(kd==5)=true:=by simpa using k
    have x:Hid ((false||decide (kd=5))=true):=aJ (by simp[k])
    rw[x.out] at l a ⊢;clear F k;go_wp2_with fail;go_end0;exact⟨rfl,_,l.out,a.out⟩
   ·have I:(kd==5)=false:=by simpa using k
    have x:Hid ((false||decide (kd=5))=false):=aJ (by simp[k])
    rw[x.out] at l a ⊢;clear F k;go_wp2_with fail;go_end0;exact⟨rfl,_,l.out,a.out⟩
theorem wQ (st:List Nd) (L:List Nat) (s:Nat):ce st (L++[s])=(ce st L||decide ((nd st s).kind=5)):=by
 unfold ce;rw[List.any_append];simp
theorem wq (st:List Nd) (L:List Nat) (s:Nat):CG st L s (ce st L)=ce st (ag L s):=by
 unfold CG ag
 by_cases h:s∈L
 ·rw[if_pos h,if_pos h]
 ·rw[if_neg h,if_neg h,wQ]
theorem nK (st:List Nd) (bol eol:Bool) (f i:Nat) (L:List Nat) (h:L.length≤i):nspreadF st bol eol f i L=L:=by
 cases f with
 |zero=>rfl
 |succ f=>rw[nspreadF,if_neg (by omega)]
def xo (w:World) (lv:Value) (w0:World) (B g gm:Nat) (st:List Nd) (A:Option Addr) (c:Nat) (bol:Bool) (cnt:Nat) (L:List Nat) (e:Ending) (w':World):Prop:=
 e= .returned (.tuple #[])∧∃lv',MK w0 w' B g gm st A c lv' bol cnt (ce st L) L L∧MKept w w' g gm lv lv'
theorem iJ (w0:World) (B g gm:Nat) (st:List Nd) (A:Option Addr) (c:Nat) (lv:Value) (bol:Bool) (cnt:Nat) (L:List Nat) (w:World) (h:MK w0 w B g gm st A c lv bol cnt (ce st L) L L) (b:st.length≤1000) (a:Spots st.length L) (s:Nat) (hs:s<st.length):
  Calls Tryz.prog 228 #[.pointer (some ⟨g,0,none⟩),.int .i64 (s:Int)] w (xo w lv w0 B g gm st A c bol cnt (ag L s)):=by
 have:=yD w0 B g gm st A c lv bol cnt (ce st L) L w h b a s hs
 rw[wq] at this;exact this
def C3 (w w0:World) (B g gm:Nat) (st:List Nd) (A:Option Addr) (c:Nat) (lv:Value) (bol eol:Bool) (cnt:Nat) (L:List Nat) (v:Value) (wr:World):Prop:=
 ∃(k:Nat) (a:List Nat) (b:Value),v= .int .i64 k∧k≤st.length∧Hid (MK w0 wr B g gm st A c b bol cnt (ce st a) a a)∧Hid (MKept w wr g gm lv b)∧Hid (Spots st.length a)∧Hid (nspreadF st bol eol (st.length-k) k a=nspreadF st bol eol st.length 0 L)
def StAt (w:World) (k:Nat) (x:Nd):Prop:=w.heap[k]? =some (.cells (ao x).toArray 213 (0,0))
theorem StAt.cells {w:World} {k:Nat} {x:Nd} (h:StAt w k x):w.cell? ⟨k,0,none⟩=some (.int .i64 x.kind)∧w.cell? ⟨k,1,none⟩=some (.int .i64 x.left)∧w.cell? ⟨k,2,none⟩=some (.int .i64 x.right)∧
  w.cell? ⟨k,3,none⟩=some (.int .u64 (ab x.set 0))∧w.cell? ⟨k,4,none⟩=some (.int .u64 (ab x.set 1))∧w.cell? ⟨k,5,none⟩=some (.int .u64 (ab x.set 2))∧w.cell? ⟨k,6,none⟩=some (.int .u64 (ab x.set 3)):=
 ⟨by rw[aK w k 0 _ _ _ h];rfl,by rw[aK w k 1 _ _ _ h];rfl,by rw[aK w k 2 _ _ _ h];rfl,by rw[aK w k 3 _ _ _ h];rfl,by rw[aK w k 4 _ _ _ h];rfl,by rw[aK w k 5 _ _ _ h];rfl,by rw[aK w k 6 _ _ _ h];rfl⟩
theorem pq (w0:World) (B g gm:Nat) (st:List Nd) (A:Option Addr) (c:Nat) (lv:Value) (bol:Bool) (cnt:Nat) (L:List Nat) (w:World) (h:MK w0 w B g gm st A c lv bol cnt (ce st L) L L) (hv:bt st=true) (hL:Spots st.length L) (eol:Bool):
  Calls Tryz.prog 227 #[.pointer (some ⟨g,0,none⟩),.bool eol] w (xo w lv w0 B g gm st A c bol cnt (be st bol eol L)):=by
 unfold be;have HH:=aJ h;have ad:=aJ hL;have HV:=aJ hv;have hsz:=(a7 hv).2.1;have ah:=aJ hsz;clear h hL hv hsz;go_enter Tryz.func227,Tryz.ntmps227;go_wp2_with fail;go_loopw [4] (fun s4 wr=>C3 w w0 B g gm st A c lv bol eol cnt L s4 wr) (fun s4 _=>st.length-(intOf s4).toNat)
 case atStart=>exact⟨0,L,lv,rfl,bO _,HH,aJ (MKept.refl _ _ _ _),ad,aJ rfl⟩
 case round=>
  obtain⟨k,d,_,rfl,hk,t,K,r,HE⟩:=hrel;have am:=r.out.len;have hsz:=ah.out;obtain⟨_,cl,rfl,_,_,_⟩:=t.out.own.shape;obtain⟨e0,_,e2,e3,_,_⟩:=t.out.cells
  by_cases E:k<d.length
  ·obtain⟨ga,_,hv,_,_,_,_⟩:=t.out.own.form (by omega)
   injection hv with hA _ hc
   subst hA;subst hc;have es:=(t.out.own.cellAt (rA d k E)).1;have i1:(0:Int)≤(k:Int):=by omega
   have i2:(k:Int)<(d.length:Int):=by omega
   have F:d.getD k 0<st.length:=r.out.2 _ (by rw[bD,bE E];exact bH E)
   have Z:nspreadF st bol eol (st.length-k) k d=nspreadF st bol eol (st.length-(k+1)) (k+1) (nvisit st bol eol (d.getD k 0) d):=by
    obtain⟨f,hf⟩:∃f,st.length-k=f+1:=⟨st.length-k-1,by omega⟩
    rw[hf,nspreadF,if_pos E,show st.length-(k+1)=f by omega]
   have N:=aJ (Z.symm.trans HE.out)
   clear HE Z;generalize d.getD k 0=s at *;have ak:=(a7 HV.out).2.2 s F;have hx:st[s]? =some (nd st s):=by unfold nd;rw[bD,bE F];rfl
   obtain⟨b,off,rfl,_,m⟩:=(t.out.nodes.up t.out.old).at_ (by rw[aV];omega)
   have H:=cd st s _ hx
   have R:=m _ _ (H 0 (by omega))
   have c1:=m _ _ (H 1 (by omega))
   have c2:=m _ _ (H 2 (by omega))
   have c3:=m _ _ (H 3 (by omega))
   have c4:=m _ _ (H 4 (by omega))
   have c5:=m _ _ (H 5 (by omega))
   have c6:=m _ _ (H 6 (by omega))
   rw[←Nat.add_assoc] at R c1 c2 c3 c4 c5 c6;rw[Nat.add_zero] at R;have s1:(0:Int)≤(s:Int):=by omega
   have s2:(s:Int)<(st.length:Int):=by omega
   have i:Hid (nvisit st bol eol s d=if(nd st s).kind=2 then ag (ag d (nd st s).left.toNat) (nd st s).right.toNat
 else if((nd st s).kind=3∧bol=true)∨((nd st s).kind=4∧eol=true) then ag d (nd st s).left.toNat else d):=aJ rfl
   have an:=aJ F
   clear hx m H F;generalize nd st s=y at *;obtain⟨q,lf,rt,o⟩:=y
   replace R:wr.cell? ⟨b,off+s*7,none⟩=some (.int .i64 q):=R
   replace c1:wr.cell? ⟨b,off+s*7+1,none⟩=some (.int .i64 lf):=c1
   replace c2:wr.cell? ⟨b,off+s*7+2,none⟩=some (.int .i64 rt):=c2
   replace c3:wr.cell? ⟨b,off+s*7+3,none⟩=some (.int .u64 (ab o 0)):=c3
   replace c4:wr.cell? ⟨b,off+s*7+4,none⟩=some (.int .u64 (ab o 1)):=c4
   replace c5:wr.cell? ⟨b,off+s*7+5,none⟩=some (.int .u64 (ab o 2)):=c5
   replace c6:wr.cell? ⟨b,off+s*7+6,none⟩=some (.int .u64 (ab o 3)):=c6
   have n0:=World.new_ne wr _ e0
   have n1:=World.new_ne wr _ es
   have n2:=World.new_ne wr _ R
   go_upto_region 3 with fail
   go_region_held3 (fun w'=>w'.cell? ⟨g,0,none⟩=some (.slice (some ⟨b,off,none⟩) st.length c)∧w'.cell? ⟨g,2,none⟩=some (.slice (some ⟨ga,0,none⟩) d.length cl)∧w'.cell? ⟨ga,k,none⟩=some (.int .i64 (s:Int))∧w'.cell? ⟨b,off+s*7,none⟩=some (.int .i64 q)∧w'.cell? ⟨b,off+s*7+1,none⟩=some (.int .i64 lf)∧w'.cell? ⟨b,off+s*7+2,none⟩=some (.int .i64 rt)∧w'.cell? ⟨b,off+s*7+3,none⟩=some (.int .u64 (ab o 0))∧w'.cell? ⟨b,off+s*7+4,none⟩=some (.int .u64 (ab o 1))∧w'.cell? ⟨b,off+s*7+5,none⟩=some (.int .u64 (ab o 2))∧w'.cell? ⟨b,off+s*7+6,none⟩=some (.int .u64 (ab o 3))) (go_keep) (fail)
   have O:StAt (wr.alloc (.cells (ao ⟨q,lf,rt,o⟩).toArray 213)).drew wr.heap.size ⟨q,lf,rt,o⟩:=aM wr _
   have P:Old wr (wr.alloc (.cells (ao ⟨q,lf,rt,o⟩).toArray 213)).drew:=((Old.refl wr).alloc _).drew
   have U:(wr.alloc (.cells #[.int .i64 q,.int .i64 lf,.int .i64 rt,.int .u64 (ab o 0),.int .u64 (ab o 1),.int .u64 (ab o 2),.int .u64 (ab o 3)] 213)).drew=(wr.alloc (.cells (ao ⟨q,lf,rt,o⟩).toArray 213)).drew:=rfl
   rw[U];have l:=aJ (t.out.up P);have j:=aJ (K.out.trans (MKept.of_old P g gm (.slice (some ⟨ga,0,none⟩) d.length cl)));have J:Hid (wr.heap.size≠g∧wr.heap.size≠gm∧some wr.heap.size≠(Value.slice (some ⟨ga,0,none⟩) d.length cl).ownBlock):=aJ ⟨by have:=aQ t.out.blk;omega,by have:=aQ t.out.mks;omega,fun e=>by have:=(bU t.out.own _ e.symm).2;omega⟩
   generalize (wr.alloc (.cells (ao ⟨q,lf,rt,o⟩).toArray 213)).drew=W at *;generalize wr.heap.size=k7 at *;clear R c1 c2 c3 c4 c5 c6 e0 e2 e3 es n0 n1 n2 U P t K s1 s2;have ac:=aJ O;obtain⟨d0,d1,d2,_⟩:=O.cells;simp only at d0 d1 d2;clear O;obtain⟨_,_,_,_,_,_⟩:=l.out.cells;obtain⟨o1,o2,u,I⟩:=ak;simp only at o1 o2 u I i;have aj:q=1∨q=2∨q=3∨q=4∨q=5:=by omega
   rcases aj with rfl|rfl|rfl|rfl|rfl
   ·have p:Hid (nvisit st bol eol s d=d):=aJ (by rw[i.out];simp)
    go_wp2_with fail;go_roundw
    case rel=>exact⟨k+1,_,_,rfl,by omega,l,j,r,aJ (by rw[←p.out];exact N.out)⟩
    case measure=>simp[intOf];omega
   ·obtain⟨a,rfl⟩:=Int.eq_ofNat_of_zero_le (u (by decide)).1
    obtain⟨e,rfl⟩:=Int.eq_ofNat_of_zero_le (I rfl).1;have ha:a<st.length:=by have:=(u (by decide)).2;omega
    have he:e<st.length:=by have:=(I rfl).2;omega
    have p:Hid (nvisit st bol eol s d=ag (ag d a) e):=aJ (by rw[i.out];simp)
    have G:=aJ (iJ w0 B g gm st _ c _ bol cnt d W l.out (by omega) r.out a ha)
    have x:=aJ ha
    have T:=aJ he
    clear i ha he u I;go_wp2_with fail;refine(G.out).mono ?_;rintro e w2 ⟨rfl,D,n,hk2⟩;obtain⟨V,ai⟩:=hk2.block ac.out J.out.1 J.out.2.1 J.out.2.2;have Q:=r.out.enter x.out;have S:=aJ (iJ w0 B g gm st _ c D bol cnt (ag d a) w2 n (by omega) Q e T.out)
    have z:=aJ (j.out.trans hk2)
    have C:=aJ Q
    obtain⟨_,_,d2,_⟩:=(show StAt w2 k7 _ from V).cells
    simp only at d2
    clear n hk2 V ai Q G;go_wp2_with fail;refine(S.out).mono ?_;rintro e _ ⟨rfl,al,Y,X⟩;have ae:=aJ Y;have aa:=aJ (z.out.trans X);have af:=aJ (C.out.enter T.out);clear Y X S;go_wp2_with fail;go_roundw
    case rel=>exact⟨k+1,_,al,rfl,by omega,ae,aa,af,aJ (by rw[←p.out];exact N.out)⟩
    case measure=>simp[intOf];omega
   ·obtain⟨a,rfl⟩:=Int.eq_ofNat_of_zero_le (u (by decide)).1
    have ha:a<st.length:=by have:=(u (by decide)).2;omega
    have x:=aJ ha
    cases bol with
    |false=>
     have p:Hid (nvisit st false eol s d=d):=aJ (by rw[i.out];simp)
     clear i ha u I;go_wp2_with fail;go_roundw
     case rel=>exact⟨k+1,_,_,rfl,by omega,l,j,r,aJ (by rw[←p.out];exact N.out)⟩
     case measure=>simp[intOf];omega
    |true=>
     have p:Hid (nvisit st true eol s d=ag d a):=aJ (by rw[i.out];simp)
     have G:=aJ (iJ w0 B g gm st _ c _ _ cnt d W l.out (by omega) r.out a ha)
     clear i ha u I;go_wp2_with fail;refine(G.out).mono ?_;rintro e w2 ⟨rfl,D,n,hk2⟩;have M:=aJ n;have z:=aJ (j.out.trans hk2);have C:=aJ (r.out.enter x.out);clear n hk2 G;go_wp2_with fail;go_roundw
     case rel=>exact⟨k+1,_,D,rfl,by omega,M,z,C,aJ (by rw[←p.out];exact N.out)⟩
     case measure=>simp[intOf];omega
   ·obtain⟨a,rfl⟩:=Int.eq_ofNat_of_zero_le (u (by decide)).1
    have ha:a<st.length:=by have:=(u (by decide)).2;omega
    have x:=aJ ha
    cases eol with
    |false=>
     have p:Hid (nvisit st bol false s d=d):=aJ (by rw[i.out];simp)
     clear i ha u I;go_wp2_with fail;go_roundw
     case rel=>exact⟨k+1,_,_,rfl,by omega,l,j,r,aJ (by rw[←p.out];exact N.out)⟩
     case measure=>simp[intOf];omega
    |true=>
     have p:Hid (nvisit st bol true s d=ag d a):=aJ (by rw[i.out];simp)
     have G:=aJ (iJ w0 B g gm st _ c _ _ cnt d W l.out (by omega) r.out a ha)
     clear i ha u I;go_wp2_with fail;refine(G.out).mono ?_;rintro e w2 ⟨rfl,D,n,hk2⟩;have M:=aJ n;have z:=aJ (j.out.trans hk2);have C:=aJ (r.out.enter x.out);clear n hk2 G;go_wp2_with fail;go_roundw
     case rel=>exact⟨k+1,_,D,rfl,by omega,M,z,C,aJ (by rw[←p.out];exact N.out)⟩
     case measure=>simp[intOf];omega
   ·have p:Hid (nvisit st bol eol s d=d):=aJ (by rw[i.out];simp)
    go_wp2_with fail;go_roundw
    case rel=>exact⟨k+1,_,_,rfl,by omega,l,j,r,aJ (by rw[←p.out];exact N.out)⟩
    case measure=>simp[intOf];omega
  ·have HR:Hid (nspreadF st bol eol st.length 0 L=d):=aJ (by rw[←HE.out];exact nK _ _ _ _ _ _ (by omega))
   go_wp2_with fail;go_end0;rw[HR.out];exact⟨rfl,_,t.out,K.out⟩
theorem iu {g:Nat} {t:TypeId}:∀(c:List Value) (w:World) (a old:List Value),w.heap[g]? =some (.cells (a++old).toArray t (0,0))→old.length=c.length→(w.setCells g a.length c).heap[g]? =some (.cells (a++c).toArray t (0,0))
 |[],w,a,old,h,b=>by
  obtain rfl:=List.eq_nil_of_length_eq_zero b;exact h
 |v::r,w,a,old,h,b=>by
  cases old with
  |nil=>simp at b
  |cons x old=>
   have h1:=aO w g a.length _ _ v h
   rw[List.setIfInBounds_toArray,List.set_append_right _ _ (bM _),Nat.sub_self,List.set_cons_zero] at h1;have h2:=iu (t:=t) r (w.setCell ⟨g,a.length,none⟩ v) (a++[v]) old (by rw[h1];simp) (by simpa using b)
   rw[bF,bG] at h2
   show((w.setCell ⟨g,a.length,none⟩ v).setCells g (a.length+1) r).heap[g]? =_
   rw[h2];simp
theorem dw (g:Nat):∀(a:List Value) (o:Nat) (w:World),w.grownBy (w.setCells g o a) (some g)
 |[],o,w=>World.grownBy.refl _ _
 |v::r,o,w=>World.grownBy.trans (show w.grownBy (w.setCell ⟨g,o,none⟩ v) (some g) from⟨rfl,rfl,rfl,by simp,fun k _ hk=>aL w ⟨g,o,none⟩ k _ (fun e=>hk (by simp[e]))⟩) (dw g r (o+1) _)
theorem MK.clear {w0 w:World} {B g gm c cnt:Nat} {st:List Nd} {A:Option Addr} {lv:Value} {bol fd:Bool} {M L:List Nat} (h:MK w0 w B g gm st A c lv bol cnt fd M L):MK w0 (w.setCells gm 0 (List.replicate st.length (.bool false))) B g gm st A c lv bol cnt fd [] L:=by
 have a:=dw gm (List.replicate st.length (.bool false)) 0 w
 have d:Old w0 (w.setCells gm 0 (List.replicate st.length (.bool false))):=Below.grown h.old a h.old.size (by intro k hk;injection hk with hk;subst hk;exact h.bm)
 have hz:List.replicate st.length (Value.bool false)=vv st.length []:=by
  apply List.ext_getElem?;intro i
  by_cases b:i<st.length
  ·rw[jz _ _ _ b,List.getElem?_replicate,if_pos b];simp
  ·rw[bI (by simp;omega),bI (by simp[fE];omega)]
 refine⟨d,h.nodes,?_,?_,bT h.own a (bY (fun e=>dU h.own h.lm e.symm)),h.bg,h.bm,h.lg,h.lm,h.n2,bN h.lB a.size⟩
 ·exact(a.block g (aQ h.blk) (by intro e;injection e with e;exact h.n2 e)).trans h.blk
 ·have:=iu (t:=4) (List.replicate st.length (.bool false)) w [] (vv st.length M) h.mks (by simp[fE])
  rw[List.nil_append,hz] at this;rw[hz];exact this
theorem MKept.clear (w:World) (g gm n:Nat) (lv:Value):MKept w (w.setCells gm 0 (List.replicate n (.bool false))) g gm lv lv:=
 ⟨(dw gm _ 0 w).size,fun k hk _ h2 _=>(dw gm _ 0 w).block k hk (by intro e;injection e with e;exact h2 e),fun _ h=>bX h⟩
theorem MKept.drop {w:World} {g gm:Nat} {lv:Value}:MKept w (w.setCell ⟨g,2,none⟩ (.slice none 0 0)) g gm lv (.slice none 0 0):=
 ⟨by simp,fun k _ h1 _ _=>aL w ⟨g,2,none⟩ k _ h1,fun k h=>by cases h⟩
theorem mv (s:BSet) (i b:Nat) (c:b<256) (f:b/64=i):(bits BinOp.and IntKind.u64 (((ab s i:Nat):Int)/2^(b%64)) 1 !=0)=hasB s b:=by
 rw[←oz s i b c f];have e:((ab s i:Nat):Int)/2^(b%64)=((ab s i/2^(b%64):Nat):Int):=by push_cast;rfl
 have g:=aG s i
 have d:ab s i/2^(b%64)<18446744073709551616:=Nat.lt_of_le_of_lt (Nat.div_le_self _ _) g
 have h1:=u64_and_nat (ab s i/2^(b%64)) 1 d (by decide)
 rw[nat_mask1] at h1;rw[e];have a:bits BinOp.and IntKind.u64 ((ab s i/2^(b%64):Nat):Int) 1=((ab s i/2^(b%64)%2:Nat):Int):=h1;rw[a];rw[Bool.eq_iff_iff,bne_iff_ne,beq_iff_eq];omega
theorem r8 (w0:World) (B g gm:Nat) (st:List Nd) (A:Option Addr) (c:Nat) (lv:Value) (bol:Bool) (cnt:Nat) (L:List Nat) (w:World) (h:MK w0 w B g gm st A c lv bol cnt (ce st L) L L) (hv:bt st=true) (b:Spots st.length L):
  Calls Tryz.prog 226 #[.pointer (some ⟨g,0,none⟩)] w (xo w lv w0 B g gm st A c bol cnt (be st bol false (ag L 0))):=by
 obtain⟨h1,h2,_⟩:=a7 hv;have j:=aJ (iJ w0 B g gm st A c lv bol cnt L w h (by omega) b 0 (by omega))
 have m:=aJ (b.enter (s:=0) (by omega))
 have n:=aJ hv
 clear h b hv h1 h2;go_enter Tryz.func226,Tryz.ntmps226;go_wp2_with fail;refine(j.out).mono ?_;rintro e o ⟨rfl,d,hm,hk⟩;have i:=aJ (pq w0 B g gm st A c d bol cnt (ag L 0) o hm n.out m.out false);have k:=aJ hk;clear hm hk j;go_wp2_with fail;refine(i.out).mono ?_;rintro e w2 ⟨rfl,f,hm,hk⟩;have l:=aJ hm;have a:=aJ (k.out.trans hk);clear hm hk i;go_wp2_with fail;go_end0;exact⟨rfl,f,l.out,a.out⟩
def mL1 (st:List Nd) (bol:Bool) (ch:Nat) (L:List Nat):List Nat:=if ch=10 then be st bol true L else L
def yE (st:List Nd) (bol:Bool) (ch:Nat) (L:List Nat):List Nat:=be st (ch==10) false (ag (nstep st ch (mL1 st bol ch L)) 0)
theorem Spots.mL1 {st:List Nd} (hv:bt st=true) {bol:Bool} {ch:Nat} {L:List Nat} (h:Spots st.length L):Spots st.length (mL1 st bol ch L):=by
 unfold Go.Proofs.YtfchjdnpbgpfpaaGreatDoor.mL1;split
 ·exact Spots.nspreadF hv _ _ _ h
 ·exact h
def xn (w:World) (lv:Value) (w0:World) (B g gm:Nat) (st:List Nd) (A:Option Addr) (c:Nat) (bol:Bool) (cnt ch:Nat) (L:List Nat) (e:Ending) (w':World):Prop:=
 e= .returned (.tuple #[])∧(ce st (mL1 st bol ch L)=true→∃lv',MK w0 w' B g gm st A c lv' bol (cnt+1) true (mL1 st bol ch L) (mL1 st bol ch L)∧MKept w w' g gm lv lv')∧
  (ce st (mL1 st bol ch L)=false→∃lv',MK w0 w' B g gm st A c lv' (ch==10) (cnt+1) (ce st (yE st bol ch L)) (yE st bol ch L) (yE st bol ch L)∧MKept w w' g gm lv lv')
def C4 (w w2 w0:World) (B g gm:Nat) (st:List Nd) (A:Option Addr) (c:Nat) (lv:Value) (bol:Bool) (cnt ch:Nat) (L:List Nat) (v:Value) (wr:World):Prop:=
 ∃(k:Nat) (b:List Nat) (a:Value),v= .int .i64 k∧k≤L.length∧Hid (MK w0 wr B g gm st A c a bol cnt (ce st b) b b)∧Hid (MKept w wr g gm lv a)∧Hid (MKept w2 wr g gm (.slice none 0 0) a)∧Hid (Spots st.length b)∧Hid ((L.take k).foldl (fun acc s=>eX st ch s acc) []=b)
theorem Bo (w0:World) (B g gm:Nat) (st:List Nd) (A:Option Addr) (c:Nat) (lv:Value) (bol:Bool) (cnt:Nat) (L:List Nat) (w:World) (h:MK w0 w B g gm st A c lv bol cnt (ce st L) L L) (hv:bt st=true) (hL:Spots st.length L) (aq:cnt<1000000000) (ch:Nat) (aD:ch<256):
  Calls Tryz.prog 195 #[.pointer (some ⟨g,0,none⟩),.int .u8 ch] w (xn w lv w0 B g gm st A c bol cnt ch L):=by
 obtain⟨_,_,_,_,x4,_⟩:=h.cells;have z4:=h.frz 4;have HH:=aJ (h.cnt_ (cnt+1));have ad:=aJ (MKept.fld w g gm 4 lv (.int .i64 ((cnt+1:Nat):Int)));have HV:=aJ hv;have HL:=aJ hL;have hsz:=(a7 hv).2.1;have am:=aJ hsz;have aA:=aJ aD;have aQ:(0:Int)≤(ch:Int):=by omega
 have aR:(ch:Int)<256:=by omega
 clear h hv hL hsz;go_enter Tryz.func195,Tryz.ntmps195;go_upto_region 1 with fail
 have O:w.setCell ⟨g,4,none⟩ (.int .i64 ((cnt:Int)+1))=w.setCell ⟨g,4,none⟩ (.int .i64 ((cnt+1:Nat):Int)):=rfl
 rw[O];generalize w.setCell ⟨g,4,none⟩ (.int .i64 ((cnt+1:Nat):Int))=W at *;clear O x4 z4 aq;have E:Hid (∀e w',(e= .returned (.tuple #[])∧(ce st (mL1 st bol ch L)=true→∃lv',MK w0 w' B g gm st A c lv' bol (cnt+1) true (mL1 st bol ch L) (mL1 st bol ch L)∧MKept w w' g gm lv lv')∧
  (ce st (mL1 st bol ch L)=false→∃lv',MK w0 w' B g gm st A c lv' (ch==10) (cnt+1) (ce st (yE st bol ch L)) (yE st bol ch L) (yE st bol ch L)∧MKept w w' g gm lv lv'))→xn w lv w0 B g gm st A c bol cnt ch L e w'):=aJ (fun _ _ h=>h)
 have al:=aJ (HL.out.mL1 HV.out (bol:=bol) (ch:=ch))
 have aB:Hid (((ch:Int)==10)=(ch==10)):=aJ (by rw[Bool.eq_iff_iff,beq_iff_eq,beq_iff_eq];omega)
 go_upto_if 18 with fail
 go_cut [] (fun wx=>∃l,Hid (MK w0 wx B g gm st A c l bol (cnt+1) (ce st (mL1 st bol ch L)) (mL1 st bol ch L) (mL1 st bol ch L))∧Hid (MKept w wx g gm lv l))
 case first=>
  clear E al
  by_cases ae:ch=10
  ·subst ae;have HN:Hid (mL1 st bol 10 L=be st bol true L):=aJ (if_pos rfl);have HC:=aJ (pq w0 B g gm st A c lv bol (cnt+1) L W HH.out HV.out HL.out true);clear HH;go_wp2_with fail;refine(HC.out).mono ?_;rintro e w2 ⟨rfl,aH,ax,hk2⟩;have aC:=aJ ax;have M:=aJ (ad.out.trans hk2);clear ax hk2 HC;go_wp2_with fail;go_meet;exact⟨aH,by rw[HN.out];exact aC,M⟩
  ·have b10:((ch:Int)==10)=false:=by simp;omega
   have HN:Hid (mL1 st bol ch L=L):=aJ (if_neg ae)
   clear ae;go_wp2_with fail;go_meet;exact⟨lv,by rw[HN.out];exact HH,ad⟩
 case rest=>
  clear HH ad HL;obtain⟨l,o,V⟩:=hcut;have Z:Hid (yE st bol ch L=be st (ch==10) false (ag (nstep st ch (mL1 st bol ch L)) 0)):=aJ rfl;generalize yE st bol ch L=R2 at *;generalize mL1 st bol ch L=Q at *;obtain⟨_,y1,y2,_,_,y5⟩:=o.out.cells;cases hd:ce st Q with
  |true=>
   rw[hd] at o E y5;have HX:=aJ (E.out _ wc ⟨rfl,fun _=>⟨l,o.out,V.out⟩,fun h=>by cases h⟩)
   clear hd E o V Z y1 y2;go_wp2_with fail;go_end0;exact HX.out
  |false=>
   rw[hd] at o E y5;have HX:Hid (∀w' lv',MK w0 w' B g gm st A c lv' (ch==10) (cnt+1) (ce st R2) R2 R2→MKept w w' g gm lv lv'→xn w lv w0 B g gm st A c bol cnt ch L (.returned (.tuple #[])) w'):=aJ (fun w' lv' h1 h2=>E.out _ w' ⟨rfl,(fun h=>by cases h),fun _=>⟨lv',h1,h2⟩⟩)
   clear hd E;obtain⟨Al,cl,rfl,_,_,_⟩:=o.out.own.shape;have f2:=o.out.frz 2;have R:=o.out.list (L':=[]) (Own.nil_ _ _ _ _) (World.grownBy.refl wc _);have ar:MKept wc (wc.setCell ⟨g,2,none⟩ (.slice none 0 0)) g gm (.slice Al Q.length cl) (.slice none 0 0):=MKept.drop;generalize S:wc.setCell ⟨g,2,none⟩ (.slice none 0 0)=w1 at *;obtain⟨_,g1,_⟩:=R.cells;have hsz:=am.out;have q:∀ty,(Builtin.clear_ #[124] ty #[.slice (some ⟨gm,0,none⟩) st.length st.length]).run Tryz.prog w1= .ok (.tuple #[]) _:=
    fun ty=>Lib.run_clear_slice w1 _ _ ty _ Tryz.underlying124 Tryz.zeroValue4 rfl rfl gm 0 st.length st.length (by have:=(a7 HV.out).1;omega)
     (fun t ht=>by rw[Nat.zero_add,aK w1 gm t _ _ _ R.mks,List.getElem?_toArray,jz _ _ _ ht];rfl) (fun t ht=>aN w1 gm _ _ _ R.mks)
   have ai:Hid (∀j,j<wc.heap.size→j≠g→j≠gm→(w1.setCells gm 0 (List.replicate st.length (.bool false))).heap[j]? =wc.heap[j]?):=aJ (fun j hj j1 j2=>by
    rw[(dw gm _ 0 w1).block j (by rw[←S];simpa using hj) (by intro e;injection e with e;exact j2 e),←S]
    exact aL wc ⟨g,2,none⟩ j _ j1)
   have an:=aJ R.clear
   have M:=aJ (ar.trans (MKept.clear w1 g gm st.length (.slice none 0 0)))
   clear ar R;go_upto_region 8 with fail
   generalize w1.setCells gm 0 (List.replicate st.length (.bool false))=w2 at *;clear q g1 y1 y2 y5 f2 S hsz;have ak:=al;go_wp2_with fail;go_loopw [38] (fun ah wr=>C4 wc w2 w0 B g gm st A c (.slice Al Q.length cl) bol (cnt+1) ch Q ah wr) (fun ah _=>Q.length-(intOf ah).toNat)
   case atStart=>exact⟨0,[],_,rfl,bO _,an,M,aJ (MKept.refl _ _ _ _),aJ (Spots.nil _),aJ rfl⟩
   case round=>
    obtain⟨k,x,l,rfl,hk,HW,Y,X,N,HE⟩:=hrel;have aO:=ak.out.len;obtain⟨e0,_⟩:=HW.out.cells;have hsz:=am.out
    by_cases J:k<Q.length
    ·obtain⟨ga,_,aF,_,aw,_,_⟩:=o.out.own.form (by omega)
     injection aF with hA _ hc
     subst hA;subst hc;have ec:=(o.out.own.cellAt (rA Q k J)).1;have eg:wr.heap[ga]? =wc.heap[ga]?:=by
      have n1:ga≠g:=fun e=>by have:=o.out.lg;omega
      have n2:ga≠gm:=fun e=>by have:=o.out.lm;omega
      rw[X.out.far ga (Nat.lt_of_lt_of_le aw M.out.size) n1 n2 (by simp[Value.ownBlock]),ai.out ga aw n1 n2]
     have es:wr.cell? ⟨ga,k,none⟩=some (.int .i64 (Q.getD k 0:Nat)):=by rw[World.cell?_of_block (a:=⟨ga,k,none⟩) eg];exact ec
     have af:Q.getD k 0<st.length:=ak.out.2 _ (by rw[bD,bE J];exact bH J)
     have az:(Q.take (k+1)).foldl (fun acc s=>eX st ch s acc) []=eX st ch (Q.getD k 0) x:=by
      rw[List.take_add_one,bE J,List.foldl_append,HE.out,bD,bE J];rfl
     have HU:=aJ az
     clear az ec eg;have i1:(0:Int)≤(k:Int):=by omega
     have i2:(k:Int)<(Q.length:Int):=by omega
     generalize Q.getD k 0=s at *;have aE:=(a7 HV.out).2.2 s af;have hx:st[s]? =some (nd st s):=by unfold nd;rw[bD,bE af];rfl
     obtain⟨b,off,rfl,_,q⟩:=(HW.out.nodes.up HW.out.old).at_ (by rw[aV];omega)
     have hg:=cd st s _ hx
     have c0:=q _ _ (hg 0 (by omega))
     have c1:=q _ _ (hg 1 (by omega))
     have c2:=q _ _ (hg 2 (by omega))
     have c3:=q _ _ (hg 3 (by omega))
     have c4:=q _ _ (hg 4 (by omega))
     have c5:=q _ _ (hg 5 (by omega))
     have c6:=q _ _ (hg 6 (by omega))
     rw[←Nat.add_assoc] at c0 c1 c2 c3 c4 c5 c6;rw[Nat.add_zero] at c0;have s1:(0:Int)≤(s:Int):=by omega
     have s2:(s:Int)<(st.length:Int):=by omega
     have G:Hid (eX st ch s x=if(nd st s).kind=1∧hasB (nd st s).set ch=true then ag x (nd st s).left.toNat else x):=aJ rfl
     clear hx q hg af;generalize nd st s=y at *;obtain⟨kd,lf,rt,u⟩:=y
     replace c0:wr.cell? ⟨b,off+s*7,none⟩=some (.int .i64 kd):=c0
     replace c1:wr.cell? ⟨b,off+s*7+1,none⟩=some (.int .i64 lf):=c1
     replace c2:wr.cell? ⟨b,off+s*7+2,none⟩=some (.int .i64 rt):=c2
     replace c3:wr.cell? ⟨b,off+s*7+3,none⟩=some (.int .u64 (ab u 0)):=c3
     replace c4:wr.cell? ⟨b,off+s*7+4,none⟩=some (.int .u64 (ab u 1)):=c4
     replace c5:wr.cell? ⟨b,off+s*7+5,none⟩=some (.int .u64 (ab u 2)):=c5
     replace c6:wr.cell? ⟨b,off+s*7+6,none⟩=some (.int .u64 (ab u 3)):=c6
     go_upto_region 12 with fail
     have av:StAt (wr.alloc (.cells (ao ⟨kd,lf,rt,u⟩).toArray 213)) wr.heap.size ⟨kd,lf,rt,u⟩:=aM wr _
     have ac:Old wr (wr.alloc (.cells (ao ⟨kd,lf,rt,u⟩).toArray 213)):=(Old.refl wr).alloc _
     have O:wr.alloc (.cells #[.int .i64 kd,.int .i64 lf,.int .i64 rt,.int .u64 (ab u 0),.int .u64 (ab u 1),.int .u64 (ab u 2),.int .u64 (ab u 3)] 213)=wr.alloc (.cells (ao ⟨kd,lf,rt,u⟩).toArray 213):=rfl
     rw[O];have H:=aJ (HW.out.up ac);have n:=aJ (Y.out.trans (MKept.of_old ac g gm l));have m:=aJ (X.out.trans (MKept.of_old ac g gm l));generalize wr.alloc (.cells (ao ⟨kd,lf,rt,u⟩).toArray 213)=V0 at *;generalize wr.heap.size=k7 at *;clear c0 c1 c2 c3 c4 c5 c6 e0 es O ac HW Y X s1 s2;obtain⟨d0,d1,_,d3,d4,d5,d6⟩:=av.cells;simp only at d0 d1 d3 d4 d5 d6;clear av;obtain⟨o1,o2,o3,o4⟩:=aE;simp only at o1 o2 o3 o4 G
     by_cases aa:kd=1
     ·subst aa;obtain⟨a,rfl⟩:=Int.eq_ofNat_of_zero_le (o3 (by decide)).1
      have ha:a<st.length:=by have:=(o3 (by decide)).2;omega
      have U:=aJ ha
      have K:=aJ (iJ w0 B g gm st _ c l bol (cnt+1) x V0 H.out (by omega) N.out a ha)
      clear ha o1 o2 o3 o4;have q0:=aG u 0;have q1:=aG u 1;have q2:=aG u 2;have q3:=aG u 3;have T:(ch:Int)/64=0∨(ch:Int)/64=1∨(ch:Int)/64=2∨(ch:Int)/64=3:=by omega
      have z:=aJ (fun i hi=>mv u i ch aA.out hi)
      cases I:hasB u ch with
      |false=>
       have p:Hid (eX st ch s x=x):=aJ (by rw[G.out,if_neg (fun h=>by rw[I] at h;cases h.2)])
       have r:=aJ I
       clear G I K;rcases T with T|T|T|T
       ·have f:=z.out 0 (by omega)
        rw[r.out] at f;go_wp2_with fail;go_roundw
        case rel=>exact⟨k+1,x,l,rfl,by omega,H,n,m,N,aJ (HU.out.trans p.out)⟩
        case measure=>simp[intOf];omega
       ·have f:=z.out 1 (by omega)
        rw[r.out] at f;go_wp2_with fail;go_roundw
        case rel=>exact⟨k+1,x,l,rfl,by omega,H,n,m,N,aJ (HU.out.trans p.out)⟩
        case measure=>simp[intOf];omega
       ·have f:=z.out 2 (by omega)
        rw[r.out] at f;go_wp2_with fail;go_roundw
        case rel=>exact⟨k+1,x,l,rfl,by omega,H,n,m,N,aJ (HU.out.trans p.out)⟩
        case measure=>simp[intOf];omega
       ·have f:=z.out 3 (by omega)
        rw[r.out] at f;go_wp2_with fail;go_roundw
        case rel=>exact⟨k+1,x,l,rfl,by omega,H,n,m,N,aJ (HU.out.trans p.out)⟩
        case measure=>simp[intOf];omega
      |true=>
       have p:Hid (eX st ch s x=ag x a):=aJ (by rw[G.out,if_pos ⟨rfl,I⟩];rfl)
       have r:=aJ I
       clear G I;rcases T with T|T|T|T
       ·have f:=z.out 0 (by omega)
        rw[r.out] at f;go_wp2_with fail;refine(K.out).mono ?_;rintro e _ ⟨rfl,lv',P,d⟩;have F:=aJ P;have D:=aJ (n.out.trans d);have C:=aJ (m.out.trans d);clear P d;go_wp2_with fail;go_roundw
        case rel=>exact⟨k+1,_,lv',rfl,by omega,F,D,C,aJ (N.out.enter U.out),aJ (HU.out.trans p.out)⟩
        case measure=>simp[intOf];omega
       ·have f:=z.out 1 (by omega)
        rw[r.out] at f;go_wp2_with fail;refine(K.out).mono ?_;rintro e _ ⟨rfl,lv',P,d⟩;have F:=aJ P;have D:=aJ (n.out.trans d);have C:=aJ (m.out.trans d);clear P d;go_wp2_with fail;go_roundw
        case rel=>exact⟨k+1,_,lv',rfl,by omega,F,D,C,aJ (N.out.enter U.out),aJ (HU.out.trans p.out)⟩
        case measure=>simp[intOf];omega
       ·have f:=z.out 2 (by omega)
        rw[r.out] at f;go_wp2_with fail;refine(K.out).mono ?_;rintro e _ ⟨rfl,lv',P,d⟩;have F:=aJ P;have D:=aJ (n.out.trans d);have C:=aJ (m.out.trans d);clear P d;go_wp2_with fail;go_roundw
        case rel=>exact⟨k+1,_,lv',rfl,by omega,F,D,C,aJ (N.out.enter U.out),aJ (HU.out.trans p.out)⟩
        case measure=>simp[intOf];omega
       ·have f:=z.out 3 (by omega)
        rw[r.out] at f;go_wp2_with fail;refine(K.out).mono ?_;rintro e _ ⟨rfl,lv',P,d⟩;have F:=aJ P;have D:=aJ (n.out.trans d);have C:=aJ (m.out.trans d);clear P d;go_wp2_with fail;go_roundw
        case rel=>exact⟨k+1,_,lv',rfl,by omega,F,D,C,aJ (N.out.enter U.out),aJ (HU.out.trans p.out)⟩
        case measure=>simp[intOf];omega
     ·have aP:(kd==1)=false:=by simpa using aa
      have p:Hid (eX st ch s x=x):=aJ (by rw[G.out,if_neg (fun h=>aa h.1)])
      clear G aa o1 o2 o3 o4;go_wp2_with fail;go_roundw
      case rel=>exact⟨k+1,x,l,rfl,by omega,H,n,m,N,aJ (HU.out.trans p.out)⟩
      case measure=>simp[intOf];omega
    ·obtain rfl:k=Q.length:=by omega
     have HN:Hid (nstep st ch Q=x):=aJ (by have:=HE.out;rw[List.take_length] at this;exact this)
     obtain⟨_,_,_,e3,_,_⟩:=HW.out.cells;have z3:=HW.out.frz 3;have HB:=aJ (HW.out.bol_ (ch==10));have aj:=aJ (V.out.trans (Y.out.trans (MKept.fld wr g gm 3 l (.bool (ch==10)))));have ap:=aB.out;clear HE X an M ai o V Y J;rw[HN.out] at Z;go_upto_region 16 with fail
     rw[ap];have HC:=aJ (r8 w0 B g gm st A c l (ch==10) (cnt+1) x _ HB.out HV.out N.out);rw[←Z.out] at HC;clear ap e3 z3 HB HN Z hsz;go_wp2_with fail;refine(HC.out).mono ?_;rintro e w5 ⟨rfl,aI,ay,au⟩;have HY:=aJ (HX.out w5 aI ay (aj.out.trans au));clear ay au HC HX aj;go_wp2_with fail;go_end0;exact HY.out
theorem zX (s:BSet) (b:Nat) (d:b<256) (w:World):Calls Tryz.prog 172 #[cG s,.int .u8 b] w (iA (.bool (hasB s b)) w):=by
 have f:(0:Int)≤b:=by omega
 have g:(b:Int)<256:=by omega
 have h:=aG s 0
 have h1:=aG s 1
 have h2:=aG s 2
 have j:=aG s 3
 have c:=aJ (fun i e=>mv s i b d e)
 unfold cG;have a:(b:Int)/64=0∨(b:Int)/64=1∨(b:Int)/64=2∨(b:Int)/64=3:=by omega
 rcases a with a|a|a|a
 all_goals
  go_enter Tryz.func172,Tryz.ntmps172
  go_wp2_with fail;go_ret;exact⟨mG (c.out _ (by omega)),(Old.refl w).alloc _⟩
end Go.Proofs.YtfchjdnpbgpfpaaGreatDoor
namespace Go.Proofs.YtfchjdnpbgpfpaaGreatDoor
open Go.RowKit Go.Maps Go.WideMaps
set_option linter.unusedVariables false
theorem vG:laidOutB Tryz.prog=true:=by kernel_rfl
theorem oJ:(222:TypeId)<Tryz.prog.types.size:=of_decide_eq_true (by kernel_rfl)
theorem tg:(match Tryz.prog.underlying 222 with|some (.array _ _)|some (.struct _)=>true|_=>false)=true:=by rw[Tryz.underlying222]
theorem spot_law:Keyed Tryz.prog 222:=Keyed.of_law (deep_law_laid vG (m:=2) (by omega) oJ (by kernel_rfl) tg)
def mj (p:Sp):Value:= .agg #[.int .i64 (p.s:Int),.bool p.b,.bool p.e]
def yI (p:Sp):Lit:= .string (keyBytes [.int .i64 (p.s:Int),.bool p.b,.bool p.e])
theorem vf {n k:Nat} (h:k<n):∃m,n=m+1:=⟨n-1,by omega⟩
theorem qi:∃m,Tryz.prog.types.size=m+1:=vf oJ
theorem kZ:Tryz.prog.cellsOf 222=3:=by kernel_rfl
theorem xV:Tryz.prog.keyType 222=true:=by kernel_rfl
theorem tW:Tryz.prog.cellsOf 3=1:=by kernel_rfl
theorem qX:Tryz.prog.cellsOf 4=1:=by kernel_rfl
theorem eK (p:Sp) (a:p.s<1000000):keyOf Tryz.prog 222 (mj p)=some (yI p):=by
 obtain⟨s,b,e⟩:=p;simp only at a;have c:(Lit.int .i64 (s:Int)).wf=true:=WalkArith.wf_i64 (by omega)
 obtain⟨m,hm⟩:=qi;unfold keyOf mj yI;simp only[Tryz.underlying222];rw[if_pos (by simp[xV,Value.formed,Tryz.underlying222,kZ]),hm]
 unfold Program.keyLits;simp only[Tryz.underlying222,Value.cells];rw[if_pos (by rw[kZ];exact⟨rfl,by decide+kernel⟩)]
 simp[Program.keyLits,tW,qX,Tryz.underlying3,Tryz.underlying4,c]
theorem yH {p q:Sp} (c:p.s<1000000) (d:q.s<1000000) (h:yI p=yI q):p=q:=by
 have h1:=eK p c
 rw[h] at h1;have:=spot_law.inj h1 (eK q d);obtain⟨s,b,e⟩:=p;obtain⟨s',_,_⟩:=q;unfold mj at this;simp at this;obtain⟨h1,h2,a⟩:=this;rw[h2,a,show s=s' by omega]
def pW (o:Og):Value:= .agg #[.int .i64 (o.from_.s:Int),.bool o.from_.b,.bool o.from_.e,.bool o.root,.bool o.over,.int .u8 (o.c:Int)]
def Bl (o:Og):DataW Unit:= .agg [.lit (.int .i64 (o.from_.s:Int)),.lit (.bool o.from_.b),.lit (.bool o.from_.e),.lit (.bool o.root),.lit (.bool o.over),.lit (.int .u8 (o.c:Int))]
def Dp:List Value→Option (DataW Unit×List MemPlace)
 |[.int .i64 s,.bool b,.bool e,.bool r,.bool v,.int .u8 c]=>some (.agg [.lit (.int .i64 s),.lit (.bool b),.lit (.bool e),.lit (.bool r),.lit (.bool v),.lit (.int .u8 c)],[])
 |_=>none
def Do:Value→Option (DataW Unit×List MemPlace)
 | .agg cs=>Dp cs.toList
 |_=>none
theorem qw (o:Og):Do (pW o)=some (Bl o,[]):=rfl
theorem rR {v:Value} {z:DataW Unit×List MemPlace} (h:Do v=some z):∃s b e r o c,v= .agg #[.int .i64 s,.bool b,.bool e,.bool r,.bool o,.int .u8 c]∧z=(.agg [.lit (.int .i64 s),.lit (.bool b),.lit (.bool e),.lit (.bool r),.lit (.bool o),.lit (.int .u8 c)],[]):=by
 cases v<;>try (cases h;done)
 rename_i cs
 obtain⟨l⟩:=cs
 change Dp l=some z at h
 unfold Dp at h;split at h
 ·cases h;exact⟨_,_,_,_,_,_,rfl,rfl⟩
 ·cases h
def SMap (w:World) (b:Nat) (al:List (Sp×Og)):Prop:=
 ∃D:DataW Unit,w.ownsMap Tryz.prog 222 Do b al.length D∧∀p:Sp,p.s<1000000→Maps.has D (yI p)=(lk al p).isSome∧∀o,lk al p=some o→D.atKey (yI p) (Bl ⟨⟨0,false,false⟩,false,false,0⟩)=Bl o
theorem SMap.up {w w':World} {b:Nat} {al:List (Sp×Og)} (h:SMap w b al) (a:Old w w'):SMap w' b al:=by
 obtain⟨D,h1,h2⟩:=h;refine⟨D,h1.kept (row:=none) ⟨a.out.os,a.out.tape,a.out.output,a.out.size,fun k hk _=>a.out.block k hk⟩ (by simp),h2⟩
theorem SMap.made (w:World):SMap (w.alloc (.map #[] 0)) w.heap.size []:=⟨.map [],World.ownsMap_made w _ _ _,fun p _=>⟨rfl,fun o h=>by cases h⟩⟩
theorem ki (w:World):(zeroValue 224).run Tryz.prog w= .ok (pW ⟨⟨0,false,false⟩,false,false,0⟩) w:=by kernel_rfl
theorem SMap.look {w:World} {b:Nat} {al:List (Sp×Og)} (h:SMap w b al) {p:Sp} (d:p.s<1000000) {o:Og} (f:lk al p=some o):
  (Instr.lookup 216 (.map (some b)) (mj p) false).run Tryz.prog w= .ok (pW o) w:=by
 obtain⟨D,h1,h2⟩:=h;obtain⟨v,ps,a,hv⟩:=h1.lookup spot_law Tryz.underlying216 (ki w) (qw _) (eK p d);obtain⟨s,bb,e,r,_,c,rfl,hz⟩:=rR hv;rw[(h2 p d).2 o f] at hz;unfold Bl at hz;simp at hz;obtain⟨⟨g,i,j,k,l,m⟩,_⟩:=hz;rw[a];unfold pW;rw[g,i,j,k,l,m]
theorem SMap.put {w:World} {b:Nat} {al:List (Sp×Og)} (h:SMap w b al) (hn:al.length<1000000) {p:Sp} (f:p.s<1000000) (o:Og) (d:lk al p=none):
  ∃w',(Instr.mapUpdate 216 (.map (some b)) (mj p) (pW o)).run Tryz.prog w= .ok () w'∧SMap w' b (al++[(p,o)])∧w.grownBy w' (some b):=by
 obtain⟨D,h1,h2⟩:=h;obtain⟨w',c,j,k⟩:=h1.update spot_law Tryz.underlying216 (by unfold maxLen;omega) (eK p f) (qw o)
 refine⟨w',c,⟨_,by simpa using j,fun q g=>?_⟩,k⟩
 by_cases e:p=q
 ·subst e;have hk:=spot_law.key (eK p f);rw[has_put_same h1.isMap hk,kP,d,if_pos rfl];refine⟨rfl,fun i a=>?_⟩
  simp at a
  subst a;exact atKey_put_same h1.isMap hk _ _
 ·have hne:yI q≠yI p:=fun h=>e (yH f g h.symm)
  rw[has_put_other hne,kP,if_neg e,(h2 q g).1];refine⟨by simp,fun i a=>?_⟩
  rw[atKey_put_other hne];exact(h2 q g).2 i (by simpa using a)
end Go.Proofs.YtfchjdnpbgpfpaaGreatDoor
namespace Go.Proofs.YtfchjdnpbgpfpaaGreatDoor
open Go.RowKit Go.Shelf
set_option linter.unusedVariables false
section
variable {P : Program} {ops : Array Oper} {w : World} {Q : Act → Prop} {a : Act} {o : Oper} {rest : List Oper}
theorem qf (c:Region.wanted o (yielded ops a.tmps)=true) (h:∀K:Act→Prop,(∀a,wpStill P ops w Q rest a→K a)→o.still P a w K):wpStill P ops w Q (o::rest) a:=
 wpStill_step fun K b=>by rw[if_pos c];exact h K b
theorem qg (c:Region.wanted o (yielded ops a.tmps)=false) (h:∀K:Act→Prop,(∀a,wpStill P ops w Q rest a→K a)→K (a.put o.dst aR)):wpStill P ops w Q (o::rest) a:=
 wpStill_step fun K b=>by rw[if_neg (by rw[c];exact Bool.false_ne_true)];exact h K b
theorem kY {l:List Oper} (h:∀S:List Oper→Act→Prop,
  Hid (∀o rest a,Region.wanted o (yielded ops a.tmps)=true→(∀K:Act→Prop,(∀a,S rest a→K a)→o.still P a w K)→S (o::rest) a)→
  Hid (∀o rest a,Region.wanted o (yielded ops a.tmps)=false→(∀K:Act→Prop,(∀a,S rest a→K a)→K (a.put o.dst aR))→S (o::rest) a)→
  Hid (∀a,Q a→S [] a)→S l a):wpStill P ops w Q l a:=
 h (wpStill P ops w Q) (aJ fun _ _ _ b k=>qf b k) (aJ fun _ _ _ b k=>qg b k) (aJ fun _ k=>wpStill_nil k)
end
def da (p:Sp):List Value:=[.int .i64 (p.s:Int),.bool p.b,.bool p.e]
def eH (L:List Sp):List Value:=L.flatMap da
theorem Dc (w:World) (o:Obj):(w.alloc o).heap.size=w.heap.size+1:=by simp
theorem tf (L:List Sp) (p:Sp):eH (L++[p])=eH L++da p:=by unfold eH;rw[List.flatMap_append];simp
theorem cQ (L:List Sp) (i:Nat) (h:i<L.length) (j:Nat) (hj:j<3):(eH L)[i*3+j]? =(da (L.getD i gF))[j]?:=by
 induction L generalizing i with
 |nil=>simp at h
 |cons p L ih=>
  have e:eH (p::L)=da p++eH L:=by unfold eH;rw[List.flatMap_cons]
  rw[e];cases i with
  |zero=>
   rw[Nat.zero_mul,Nat.zero_add,bJ (by simp[da];omega)]
   rfl
  |succ i=>
   have a:(da p).length=3:=rfl
   rw[List.getElem?_append_right (by rw[a];omega),a,show(i+1)*3+j-3=i*3+j by omega,ih i (by simpa using h)]
   simp
structure SK (w0 w:World) (B g b:Nat) (st:List Nd) (A:Option Addr) (c:Nat) (al:List (Sp×Og)):Prop where
 old:Old w0 w
 nodes:Rs w0 A (cI st)
 blk:w.heap[g]? =some (.cells #[.slice A st.length c,.map (some b)] 218 (0,0))
 map:SMap w b al
 bg:w0.heap.size≤g
 bb:w0.heap.size≤b
 lg:g<B
 lb:b<B
 ne:g≠b
 lB:B≤w.heap.size
section
variable {w0 w w' : World} {B g b c : Nat} {st : List Nd} {A : Option Addr} {al : List (Sp × Og)}
theorem SK.up (h:SK w0 w B g b st A c al) (a:Old w w'):SK w0 w' B g b st A c al:=
 ⟨h.old.up a,h.nodes,a.block h.blk,h.map.up a,h.bg,h.bb,h.lg,h.lb,h.ne,bN h.lB a.size⟩
theorem SK.cells (h:SK w0 w B g b st A c al):w.cell? ⟨g,0,none⟩=some (.slice A st.length c)∧w.cell? ⟨g,1,none⟩=some (.map (some b)):=
 ⟨by rw[aK w g 0 _ _ _ h.blk];rfl,by rw[aK w g 1 _ _ _ h.blk];rfl⟩
theorem SMap.kept {row:Option Nat} (h:SMap w b al) (a:w.grownBy w' row) (hne:some b≠row):SMap w' b al:=by
 obtain⟨D,h1,h2⟩:=h;exact⟨D,h1.kept a hne,h2⟩
theorem SK.put {a:List (Sp×Og)} (h:SK w0 w B g b st A c al) (hm:SMap w' b a) (d:w.grownBy w' (some b)):SK w0 w' B g b st A c a:=
 ⟨Below.grown h.old d h.old.size (by intro k hk;injection hk with hk;subst hk;exact h.bb),h.nodes,(d.block g (aQ h.blk) (by intro e;injection e with e;exact h.ne e)).trans h.blk,hm,h.bg,h.bb,h.lg,h.lb,h.ne,bN h.lB d.size⟩
theorem SK.row {lv:Value} {n:Nat} {xs:List Value} (h:SK w0 w B g b st A c al) (d:Own w B 222 3 lv n xs) (a:w.grownBy w' lv.ownBlock):SK w0 w' B g b st A c al:=
 ⟨Own.grown_old h.old d (bN h.bg (Nat.le_of_lt h.lg)) a,h.nodes,(a.block g (aQ h.blk) (dU d h.lg)).trans h.blk,h.map.kept a (dU d h.lb),h.bg,h.bb,h.lg,h.lb,h.ne,bN h.lB a.size⟩
end
theorem MKept.map_ {w w':World} {b:Nat} (a:w.grownBy w' (some b)) (lv:Value):MKept w w' b b lv lv:=
 ⟨a.size,fun k hk h1 _ _=>a.block k hk (by intro e;injection e with e;exact h1 e),fun _ h=>bX h⟩
theorem MKept.row_ {w w':World} {lv v':Value} (a:w.grownBy w' lv.ownBlock) (hs:mc w lv v') (b:Nat):MKept w w' b b lv v':=by
 refine⟨a.size,fun k hk _ _ c=>a.block k hk c,fun k hk=>?_⟩
 rcases hs with e|⟨j,e,hj⟩
 ·rw[←e];exact bX hk
 ·rw[e] at hk;injection hk with hk;subst hk;exact bY hj
def Cd (w:World) (lv:Value) (w0:World) (B g b:Nat) (st:List Nd) (A:Option Addr) (c:Nat) (r:List (Sp×Og)×List Sp) (e:Ending) (w':World):Prop:=
 ∃lv',e= .returned lv'∧SK w0 w' B g b st A c r.1∧Own w' B 222 3 lv' r.2.length (eH r.2)∧MKept w w' b b lv lv'
theorem vO:(Tryz.prog.info? 222).map (fun i=>(i.zero,i.size,i.bytes))=some (some (.agg #[.int .i64 0,.bool false,.bool false]),3,16):=by kernel_rfl
def tB (al:List (Sp×Og)) (p:Sp):Og:=(lk al p).getD ⟨⟨0,false,false⟩,false,false,0⟩
theorem SMap.look2 {w:World} {b:Nat} {al:List (Sp×Og)} (h:SMap w b al) {p:Sp} (i:p.s<1000000):
  (Instr.lookup 216 (.map (some b)) (mj p) true).run Tryz.prog w= .ok (.tuple #[pW (tB al p),.bool (lk al p).isSome]) w:=by
 obtain⟨D,h1,h2⟩:=h;obtain⟨v,ps,a,hv⟩:=h1.look_ok spot_law Tryz.underlying216 (ki w) (qw _) (eK p i);obtain⟨s,bb,e,r,_,c,rfl,hz⟩:=rR hv;obtain⟨d,f⟩:=h2 p i;have j:D.atKey (yI p) (Bl ⟨⟨0,false,false⟩,false,false,0⟩)=Bl (tB al p):=by
  unfold tB;cases g:lk al p with
  |none=>rw[g] at d;exact Maps.atKey_of_not_has d _
  |some o=>exact f o g
 rw[j] at hz;rw[d] at a;unfold Bl at hz;simp at hz;obtain⟨⟨d,f,k,l,m,n⟩,_⟩:=hz;rw[a];unfold pW;rw[d,f,k,l,m,n]
theorem kM (w0:World) (B g b:Nat) (st:List Nd) (A:Option Addr) (c:Nat) (lv:Value) (al:List (Sp×Og)) (L:List Sp) (w:World) (h:SK w0 w B g b st A c al) (hl:Own w B 222 3 lv L.length (eH L)) (hn:al.length≤100000) (hL:L.length≤100000) (q:Sp) (hq:q.s<1000000) (o:Og) (hc:o.c<256):
  Calls Tryz.prog 109 #[.pointer (some ⟨g,0,none⟩),lv,mj q,pW o] w (Cd w lv w0 B g b st A c (bv al L q o)):=by
 have HH:=aJ h
 have Z:=aJ hl
 obtain⟨V,cl,rfl,aC,_,_⟩:=hl.shape;have HP:Hid (bv al L q o=if(lk al q).isSome=true then(al,L) else(al++[(q,o)],L++[q])):=aJ rfl
 have ao:=aJ hq
 have ad:=aM w (.cells (da q).toArray 222)
 have ah:=(Old.refl w).alloc (.cells (da q).toArray 222)
 have R:=aM (w.alloc (.cells (da q).toArray 222)) (.cells #[.int .i64 (o.from_.s:Int),.bool o.from_.b,.bool o.from_.e,.bool o.root,.bool o.over,.int .u8 (o.c:Int)] 224)
 have z:=ah.alloc (.cells #[.int .i64 (o.from_.s:Int),.bool o.from_.b,.bool o.from_.e,.bool o.root,.bool o.over,.int .u8 (o.c:Int)] 224)
 have G:=((Old.refl (w.alloc (.cells (da q).toArray 222))).alloc (.cells #[.int .i64 (o.from_.s:Int),.bool o.from_.b,.bool o.from_.e,.bool o.root,.bool o.over,.int .u8 (o.c:Int)] 224)).block ad
 have T:=fun W (h:SMap W b al)=>h.look2 hq
 have aa:=aJ (rfl:tB al q=tB al q)
 generalize aB:tB al q=oa at T;clear aa aB aC h hl ad ah;obtain⟨i,d,f⟩:=q;obtain⟨⟨fs,E,F⟩,rt,H,ch⟩:=o;obtain⟨⟨zs,zb,ze⟩,zr,zo,zc⟩:=oa;unfold mj pW da at *;simp only at *;go_enter Tryz.func109,Tryz.ntmps109;go_upto_region 1 with fail
 rw[Dc] at R;have Q:Hid (Own ((w.alloc (.cells #[.int .i64 (i:Int),.bool d,.bool f] 222)).alloc (.cells #[.int .i64 (fs:Int),.bool E,.bool F,.bool rt,.bool H,.int .u8 (ch:Int)] 224)) B 222 3 (.slice V L.length cl) L.length (eH L)):=aJ (Z.out.up z);have N:Hid (MKept w ((w.alloc (.cells #[.int .i64 (i:Int),.bool d,.bool f] 222)).alloc (.cells #[.int .i64 (fs:Int),.bool E,.bool F,.bool rt,.bool H,.int .u8 (ch:Int)] 224)) b b (.slice V L.length cl) (.slice V L.length cl)):=aJ (MKept.of_old z b b _);have n:=aJ (HH.out.up z);generalize (w.alloc (.cells #[.int .i64 (i:Int),.bool d,.bool f] 222)).alloc (.cells #[.int .i64 (fs:Int),.bool E,.bool F,.bool rt,.bool H,.int .u8 (ch:Int)] 224)=W at *;have k:=aJ G;have I:=aJ R;have O:=aJ T;have Y:Hid (b<w.heap.size):=aJ (by have:=HH.out.lb;have:=HH.out.lB;omega)
 generalize w.heap.size=k6 at *;clear G R z T HH Z;have D:Hid (∀w',Old W w'→Old W w'∧w'.cell? ⟨g,1,none⟩=some (.map (some b))∧w'.cell? ⟨k6,0,none⟩=some (.int .i64 (i:Int))∧w'.cell? ⟨k6,1,none⟩=some (.bool d)∧w'.cell? ⟨k6,2,none⟩=some (.bool f)∧
   (Instr.lookup 216 (.map (some b)) (.agg #[.int .i64 (i:Int),.bool d,.bool f]) true).run Tryz.prog w'= .ok (.tuple #[.agg #[.int .i64 (zs:Int),.bool zb,.bool ze,.bool zr,.bool zo,.int .u8 (zc:Int)],.bool (lk al ⟨i,d,f⟩).isSome]) w'):=aJ (fun w' y=>
  ⟨y,(n.out.up y).cells.2,by rw[aK w' k6 0 _ _ _ (y.block k.out)];rfl,by rw[aK w' k6 1 _ _ _ (y.block k.out)];rfl,by rw[aK w' k6 2 _ _ _ (y.block k.out)];rfl,O.out w' (n.out.up y).map⟩)
 generalize a:(lk al ⟨i,d,f⟩).isSome=sm at *;go_cut [10] (fun v wx=>v= .bool sm∧Hid (Old W wx))
 case first=>
  clear HP Q N n k I O a Y;go_region_held3 (fun w'=>Old W w'∧w'.cell? ⟨g,1,none⟩=some (.map (some b))∧w'.cell? ⟨k6,0,none⟩=some (.int .i64 (i:Int))∧w'.cell? ⟨k6,1,none⟩=some (.bool d)∧w'.cell? ⟨k6,2,none⟩=some (.bool f)∧
   (Instr.lookup 216 (.map (some b)) (.agg #[.int .i64 (i:Int),.bool d,.bool f]) true).run Tryz.prog w'= .ok (.tuple #[.agg #[.int .i64 (zs:Int),.bool zb,.bool ze,.bool zr,.bool zo,.int .u8 (zc:Int)],.bool sm]) w') ((refine D.out _ ?_;first|exact(Old.refl _).drew|exact((Old.refl _).alloc _).drew)) (fail)
  all_goals (go_wp2_with fail;go_meet;exact⟨rfl,aJ (((Old.refl _).alloc _).drew)⟩)
 case rest=>
  clear D O;obtain⟨rfl,U⟩:=hcut;have m:=aJ (n.out.up U.out);have t:=aJ (Q.out.up U.out);have M:=aJ (N.out.trans (MKept.of_old U.out b b _));have l:=aJ (U.out.block k.out);have j:=aJ (U.out.block I.out);clear n Q N k I U;cases sm with
  |true=>
   have HE:Hid (bv al L ⟨i,d,f⟩ ⟨⟨fs,E,F⟩,rt,H,ch⟩=(al,L)):=aJ (by rw[HP.out];rfl)
   clear HP a;go_wp2_with fail;go_ret;rw[HE.out];exact⟨_,rfl,m.out,t.out,M.out⟩
  |false=>
   have HE:Hid (bv al L ⟨i,d,f⟩ ⟨⟨fs,E,F⟩,rt,H,ch⟩=(al++[(⟨i,d,f⟩,⟨⟨fs,E,F⟩,rt,H,ch⟩)],L++[⟨i,d,f⟩])):=aJ (by rw[HP.out];rfl)
   have af:lk al ⟨i,d,f⟩=none:=by
    cases hh:lk al ⟨i,d,f⟩ with
    |none=>rfl
    |some x=>rw[hh] at a;cases a
   obtain⟨C,r,ae,p⟩:=(m.out.up (Old.refl _).drew).map.put (by omega) ao.out ⟨⟨fs,E,F⟩,rt,H,ch⟩ af
   unfold mj pW at r;simp only at r;obtain⟨_,c1⟩:=m.out.cells;have aq:wc.cell? ⟨k6,0,none⟩=some (.int .i64 (i:Int)):=by rw[aK wc k6 0 _ _ _ l.out];rfl
   have ar:wc.cell? ⟨k6,1,none⟩=some (.bool d):=by rw[aK wc k6 1 _ _ _ l.out];rfl
   have au:wc.cell? ⟨k6,2,none⟩=some (.bool f):=by rw[aK wc k6 2 _ _ _ l.out];rfl
   have av:wc.cell? ⟨k6+1,0,none⟩=some (.int .i64 (fs:Int)):=by rw[aK wc (k6+1) 0 _ _ _ j.out];rfl
   have aw:wc.cell? ⟨k6+1,1,none⟩=some (.bool E):=by rw[aK wc (k6+1) 1 _ _ _ j.out];rfl
   have ax:wc.cell? ⟨k6+1,2,none⟩=some (.bool F):=by rw[aK wc (k6+1) 2 _ _ _ j.out];rfl
   have ay:wc.cell? ⟨k6+1,3,none⟩=some (.bool rt):=by rw[aK wc (k6+1) 3 _ _ _ j.out];rfl
   have az:wc.cell? ⟨k6+1,4,none⟩=some (.bool H):=by rw[aK wc (k6+1) 4 _ _ _ j.out];rfl
   have aA:wc.cell? ⟨k6+1,5,none⟩=some (.int .u8 (ch:Int)):=by rw[aK wc (k6+1) 5 _ _ _ j.out];rfl
   have J:=aJ (SK.put (m.out.up (Old.refl _).drew) ae p)
   have P:Hid (Own C B 222 3 (.slice V L.length cl) L.length (eH L)):=aJ (bT (t.out.up (Old.refl _).drew) p (bY (fun e=>dU t.out m.out.lb e.symm)))
   have X:=aJ (M.out.trans ((MKept.of_old (Old.refl _).drew b b _).trans (MKept.map_ p (.slice V L.length cl))))
   have u:C.heap[k6]? =some (.cells #[.int .i64 (i:Int),.bool d,.bool f] 222 (0,0)):=(p.block k6 (aQ l.out) (by intro e;injection e with e;have:=Y.out;omega)).trans l.out
   have d0:C.cell? ⟨k6,0,none⟩=some (.int .i64 (i:Int)):=by rw[aK C k6 0 _ _ _ u];rfl
   have d1:C.cell? ⟨k6,1,none⟩=some (.bool d):=by rw[aK C k6 1 _ _ _ u];rfl
   have d2:C.cell? ⟨k6,2,none⟩=some (.bool f):=by rw[aK C k6 2 _ _ _ u];rfl
   have aj:=aJ J.out.lB
   clear HP a af ae p u m t M l j;go_upto_region 4 with fail
   refine wp_region_still_tail 6 (by kernel_rfl) (by kernel_rfl) ?_
   simp only[List.take_succ_cons,List.take_zero,List.drop_succ_cons,List.drop_zero];refine kY (fun S ac ap ab=>?_)
   iterate 6 (refine ac.out _ _ _ (by kernel_rfl) (fun K hK=>?_);go_simp;refine hK _ ?_;clear hK K)
   refine ab.out _ ?_;clear ac ap ab;go_upto_region 5 with fail
   clear r c1 aq ar au av aw ax ay az aA;go_wp2_with (at_builtin;refine fk (wr:=C) rfl _ _ 219 rfl _ 222 (.agg #[.int .i64 0,.bool false,.bool false]) 3 16 Tryz.underlying219 vO rfl (by decide) (by decide) _ _ _ rfl P.out 1 1 [.int .i64 (i:Int),.bool d,.bool f] rfl rfl rfl rfl ?pn1 aj.out (by decide) ?_)
   case pn1=>omega
   intro v' w6 y hg ai;have ag:Own w6 B 222 3 v' (L.length+1) (eH (L++[⟨i,d,f⟩])):=by rw[tf];exact y
   have an:=aJ ag
   have ak:=aJ (J.out.row P.out hg)
   have am:=aJ (X.out.trans (MKept.row_ hg ai b))
   clear y ag hg ai P J X d0 d1 d2;go_wp2_with fail;go_ret;rw[HE.out];exact⟨_,rfl,ak.out,by rw[bF,bG];exact an.out,am.out⟩
theorem eu {w:World} {B:Nat} {e b:TypeId} {s:Nat} {v:Value} {n k:Nat} {xs:List Value} {cs:Array Value} {fz:Nat×Nat} (h:Own w B e s v n xs) (hk:w.heap[k]? =some (.cells cs b fz)) (hne:b≠e):some k≠v.ownBlock:=by
 rcases h with⟨_,⟨rfl,_⟩|⟨g,cap,c,rfl,_,a,_⟩⟩
 ·simp[Value.ownBlock]
 ·intro h;simp[Value.ownBlock] at h;subst h;rw[hk] at a;simp at a;exact hne a.2.1
theorem SK.box {w0 w:World} {B g b c k:Nat} {st:List Nd} {A:Option Addr} {al:List (Sp×Og)} (h:SK w0 w B g b st A c al) (hk:w0.heap.size≤k) (h1:k≠g) (h2:k≠b) (i:Nat) (v:Value):SK w0 (w.setCell ⟨k,i,none⟩ v) B g b st A c al:=
 ⟨h.old.setCell hk _,h.nodes,by rw[aL w ⟨k,i,none⟩ g v (Ne.symm h1)];exact h.blk,h.map.kept (iM w k i v) (by intro e;injection e with e;exact h2 e.symm),h.bg,h.bb,h.lg,h.lb,h.ne,by simpa using h.lB⟩
theorem MKept.wide {w w':World} {b k:Nat} {lv lv':Value} (h:MKept w w' b b lv lv'):MKept w w' b k lv lv':=⟨h.size,fun j hj h1 _ a=>h.far j hj h1 h1 a,h.row⟩
def DE (w:World) (lv:Value) (w0:World) (B g b k3:Nat) (st:List Nd) (A:Option Addr) (c:Nat) (r:List (Sp×Og)×List Sp) (e:Ending) (w':World):Prop:=
 e= .returned (.tuple #[])∧∃lv',SK w0 w' B g b st A c r.1∧Own w' B 222 3 lv' r.2.length (eH r.2)∧w'.heap[k3]? =some (.cells #[lv'] 219 (0,0))∧MKept w w' b k3 lv lv'
theorem rF (w0:World) (B g b k2 k3 k6:Nat) (st:List Nd) (A:Option Addr) (c:Nat) (lv:Value) (al:List (Sp×Og)) (L:List Sp) (w:World) (h:SK w0 w B g b st A c al) (o:Own w B 222 3 lv L.length (eH L))
  (j:w.heap[k2]? =some (.cells #[.pointer (some ⟨g,0,none⟩)] 215 (0,0))) (a:w.heap[k3]? =some (.cells #[lv] 219 (0,0))) (p:Sp) (d:w.heap[k6]? =some (.cells (da p).toArray 222 (0,0)))
  (l:w0.heap.size≤k3) (hn:al.length≤100000) (M:L.length≤100000) (x:Nat) (hx:x<1000000) (e:Bool):
  Calls Tryz.prog 168 #[.int .i64 (x:Int),.bool e,.pointer (some ⟨k2,0,none⟩),.pointer (some ⟨k3,0,none⟩),.pointer (some ⟨k6,0,none⟩)] w (DE w lv w0 B g b k3 st A c (bv al L ⟨x,p.b,e⟩ ⟨p,false,false,0⟩)):=by
 obtain⟨H,I,rfl,_,_,_⟩:=o.shape;have u:=aJ (kM w0 B g b st A c _ al L w h o hn M ⟨x,p.b,e⟩ hx ⟨p,false,false,0⟩ (show(0:Nat)<256 by decide))
 have f:=eu o a (by decide)
 have n1:k3≠g:=fun e=>by have:=h.blk;rw[←e,a] at this;simp at this
 have n2:k3≠b:=fun e=>by
  obtain⟨D,⟨es,_,h1,_⟩,_⟩:=h.map;rw[←e,a] at h1;cases h1
 have N:=aJ (And.intro f (And.intro n1 n2))
 have q:=aJ a
 have y:=aJ l
 have a2:w.cell? ⟨k2,0,none⟩=some (.pointer (some ⟨g,0,none⟩)):=by rw[aK w k2 0 _ _ _ j];rfl
 have a3:w.cell? ⟨k3,0,none⟩=some (.slice H L.length I):=by rw[aK w k3 0 _ _ _ a];rfl
 have C:w.cell? ⟨k6,0,none⟩=some (.int .i64 (p.s:Int)):=by rw[aK w k6 0 _ _ _ d];rfl
 have E:w.cell? ⟨k6,1,none⟩=some (.bool p.b):=by rw[aK w k6 1 _ _ _ d];rfl
 have F:w.cell? ⟨k6,2,none⟩=some (.bool p.e):=by rw[aK w k6 2 _ _ _ d];rfl
 obtain⟨ps,pb,O⟩:=p;unfold mj pW at u;simp only at *;clear h o j a d f n1 n2 l;generalize bv al L ⟨x,pb,e⟩ ⟨⟨ps,pb,O⟩,false,false,0⟩=r at *;go_enter Tryz.func168,Tryz.ntmps168;go_wp2_with fail;refine(u.out).mono ?_;rintro e w2 ⟨_,rfl,m,i,hk2⟩;obtain⟨A2,c2,rfl,_,_,_⟩:=i.shape;have G:=hk2.block q.out N.out.2.2 N.out.2.2 N.out.1;have n:=G.1;have Q:w2.frozen? ⟨k3,0,none⟩=false:=aN w2 k3 0 _ _ n;have P:w2.cell? ⟨k3,0,none⟩=some (.slice H L.length I):=by rw[aK w2 k3 0 _ _ _ n];rfl
 have K:=aJ (m.box y.out N.out.2.1 N.out.2.2 0 (.slice A2 r.2.length c2))
 have J:=aJ (bT i (iM w2 k3 0 (.slice A2 r.2.length c2)) (bY (fun e=>G.2 e.symm)))
 have t:=aJ (aO w2 k3 0 _ _ (.slice A2 r.2.length c2) n)
 have z:=aJ ((hk2.wide (k:=k3)).trans (MKept.mark w2 b k3 0 (.slice A2 r.2.length c2) (.slice A2 r.2.length c2)))
 clear m i hk2 G n u a2 a3 C E F;go_wp2_with fail;go_end0;exact⟨rfl,_,K.out,J.out,t.out,z.out⟩
def Af (st:List Nd) (al:List (Sp×Og)) (L:List Sp):Prop:=∀p∈L,∀q,SE st p q→(lk al q).isSome=true
def sH (w:World) (w0:World) (B g b:Nat) (st:List Nd) (A:Option Addr) (c d:Nat) (n0:Nat) (e:Ending) (w':World):Prop:=
 ∃lv' al L,e= .returned lv'∧SK w0 w' B g b st A c al∧Own w' B 222 3 lv' L.length (eH L)∧Head st d al L∧Af st al L∧L≠[]∧n0≤al.length
def SsRel (w0:World) (B g b k2 k3:Nat) (st:List Nd) (A:Option Addr) (c d n0:Nat) (v:Value) (wr:World):Prop:=
 ∃(i:Nat) (al:List (Sp×Og)) (L:List Sp) (lv:Value),v= .int .i64 i∧i≤L.length∧Hid (SK w0 wr B g b st A c al)∧Hid (Own wr B 222 3 lv L.length (eH L))∧
  Hid (wr.heap[k2]? =some (.cells #[.pointer (some ⟨g,0,none⟩)] 215 (0,0)))∧Hid (wr.heap[k3]? =some (.cells #[lv] 219 (0,0)))∧
  Hid (Head st d al L)∧Hid (∀j,j<i→∀q,SE st (L.getD j gF) q→(lk al q).isSome=true)∧Hid (1≤L.length∧n0≤al.length)
theorem gH (al:List (Sp×Og)) (L:List Sp) (q:Sp) (o:Og):al.length≤(bv al L q o).1.length:=by
 unfold bv;split
 ·exact bM _
 ·simp
theorem wg {L L' e:List Sp} (h:L'=L++e) {j:Nat} (hj:j<L.length):L'.getD j gF=L.getD j gF:=by
 rw[h,bD,bJ hj,←bD]
theorem nC {st:List Nd} {p:Sp} (h1:(nd st p.s).kind≠2) (h2:(nd st p.s).kind=3→p.b=false) (c:(nd st p.s).kind≠4) (q:Sp):¬SE st p q:=by
 rintro(⟨a,_⟩|⟨a,b,_⟩|⟨a,_⟩)
 ·exact h1 a
 ·rw[h2 a] at b;cases b
 ·exact c a
theorem SsRel.next {w0 w':World} {B g b k2 k3 c d n0 i:Nat} {st:List Nd} {A:Option Addr} {al a:List (Sp×Og)} {L L':List Sp} {lv:Value} (hs:SK w0 w' B g b st A c a) (u:Own w' B 222 3 lv L'.length (eH L'))
  (h2:w'.heap[k2]? =some (.cells #[.pointer (some ⟨g,0,none⟩)] 215 (0,0))) (p:w'.heap[k3]? =some (.cells #[lv] 219 (0,0))) (r:Head st d a L') (hx:Ext al a) (f:∃e,L'=L++e) (s:i<L.length)
  (l:∀j,j<i→∀q,SE st (L.getD j gF) q→(lk al q).isSome=true) (k:∀q,SE st (L.getD i gF) q→(lk a q).isSome=true) (m:1≤L.length∧n0≤al.length) (h:al.length≤a.length):
  SsRel w0 B g b k2 k3 st A c d n0 (.int .i64 ((i+1:Nat):Int)) w':=by
 obtain⟨o,f⟩:=f;have t:L'.length=L.length+o.length:=by rw[f,bF]
 refine⟨i+1,a,L',lv,rfl,by omega,aJ hs,aJ u,aJ h2,aJ p,aJ r,aJ (fun j hj q n=>?_),aJ ⟨by omega,bN m.2 h⟩⟩
 rw[wg f (by omega)] at n
 by_cases e:j=i
 ·subst e;exact k q n
 ·exact hx.some (l j (by omega) q n)
theorem eJ {w w':World} {b k3 k:Nat} {lv lv':Value} {o:Obj} (h:MKept w w' b k3 lv lv') (hk:w.heap[k]? =some o) (h1:k≠b) (h2:k≠k3) (a:some k≠lv.ownBlock):w'.heap[k]? =some o:=(h.block hk h1 h2 a).1
theorem uS {st:List Nd} {p:Sp} {y:Nd} (hy:nd st p.s=y) (hk:y.kind=2) (q:Sp):SE st p q↔(q=⟨y.left.toNat,p.b,p.e⟩∨q=⟨y.right.toNat,p.b,p.e⟩):=by
 subst hy;constructor
 ·rintro(⟨_,h⟩|⟨a,_⟩|⟨a,_⟩)
  ·exact h
  ·omega
  ·omega
 ·intro h;exact bX ⟨hk,h⟩
theorem AX {st:List Nd} {p:Sp} {y:Nd} (hy:nd st p.s=y) (hk:y.kind=3) (c:p.b=true) (q:Sp):SE st p q↔q=⟨y.left.toNat,p.b,p.e⟩:=by
 subst hy;constructor
 ·rintro(⟨a,_⟩|⟨_,_,h⟩|⟨a,_⟩)
  ·omega
  ·exact h
  ·omega
 ·intro h;exact bY (bX ⟨hk,c,h⟩)
theorem AW {st:List Nd} {p:Sp} {y:Nd} (hy:nd st p.s=y) (hk:y.kind=4) (q:Sp):SE st p q↔q=⟨y.left.toNat,p.b,true⟩:=by
 subst hy;constructor
 ·rintro(⟨a,_⟩|⟨a,_⟩|⟨_,h⟩)
  ·omega
  ·omega
  ·exact h
 ·intro h;exact bY (bY ⟨hk,h⟩)
theorem uO (w0:World) (B g b:Nat) (st:List Nd) (A:Option Addr) (c d:Nat) (lv:Value) (al:List (Sp×Og)) (L:List Sp) (w:World) (h:SK w0 w B g b st A c al) (hl:Own w B 222 3 lv L.length (eH L)) (hv:bt st=true) (hh:Head st d al L) (h1:1≤L.length):
  Calls Tryz.prog 110 #[.pointer (some ⟨g,0,none⟩),lv] w (sH w w0 B g b st A c d al.length):=by
 have HV:=aJ hv
 have bg:=aJ (a7 hv).2.1
 obtain⟨Al,cl,rfl,_,_,_⟩:=hl.shape;have a9:=aM w (.cells #[.pointer (some ⟨g,0,none⟩)] 215);have aF:=aM (w.alloc (.cells #[.pointer (some ⟨g,0,none⟩)] 215)) (.cells #[.slice Al L.length cl] 219);have H:=(Old.refl w).alloc (.cells #[.pointer (some ⟨g,0,none⟩)] 215);have ae:=H.alloc (.cells #[.slice Al L.length cl] 219);have av:=((Old.refl (w.alloc (.cells #[.pointer (some ⟨g,0,none⟩)] 215))).alloc (.cells #[.slice Al L.length cl] 219)).block a9;rw[Dc] at aF;have HI:Hid (SsRel w0 B g b w.heap.size (w.heap.size+1) st A c d al.length (.int .i64 0) ((w.alloc (.cells #[.pointer (some ⟨g,0,none⟩)] 215)).alloc (.cells #[.slice Al L.length cl] 219))):=
  aJ ⟨0,al,L,_,rfl,bO _,aJ (h.up ae),aJ (hl.up ae),aJ av,aJ aF,aJ hh,aJ (fun j hj=>by omega),aJ ⟨h1,bM _⟩⟩
 have am:Hid (w0.heap.size≤w.heap.size+1):=aJ (by have:=h.old.size;omega)
 have R:Hid (w.heap.size≠b∧w.heap.size≠w.heap.size+1):=aJ ⟨by have:=h.lb;have:=h.lB;omega,by omega⟩
 clear a9 aF av H ae hv;go_enter Tryz.func110,Tryz.ntmps110;go_upto_region 1 with fail
 generalize (w.alloc (.cells #[.pointer (some ⟨g,0,none⟩)] 215)).alloc (.cells #[.slice Al L.length cl] 219)=w1 at *;generalize a':w.heap.size+1=k3 at *;generalize w.heap.size=k2 at *;clear h hl hh h1 a';have U:Hid (∀lv' ad L' w',SK w0 w' B g b st A c ad→Own w' B 222 3 lv' L'.length (eH L')→Head st d ad L'→Af st ad L'→L'≠[]→al.length≤ad.length→sH w w0 B g b st A c d al.length (.returned lv') w'):=
  aJ (fun lv' ad L' w' a1 a2 a3 a4 a5 a6=>⟨lv',ad,L',rfl,a1,a2,a3,a4,a5,a6⟩)
 generalize al.length=n0 at *;clear al;go_wp2_with fail;go_loopw [5] (fun s5 wr=>SsRel w0 B g b k2 k3 st A c d n0 s5 wr) (fun s5 _=>4*st.length-(intOf s5).toNat)
 case atStart=>exact HI.out
 case round=>
  clear HI;obtain⟨i,al,L,lv,rfl,_,HS,HO,H2,H3,F,Z,S⟩:=hrel;obtain⟨Al,cl,rfl,_,_,_⟩:=HO.out.shape;have bq:=F.out.srch.few;have bu:=F.out.srch.k5;have hsz:=bg.out;have a2:wr.cell? ⟨k2,0,none⟩=some (.pointer (some ⟨g,0,none⟩)):=by rw[aK wr k2 0 _ _ _ H2.out];rfl
  have a3:wr.cell? ⟨k3,0,none⟩=some (.slice Al L.length cl):=by rw[aK wr k3 0 _ _ _ H3.out];rfl
  by_cases G:i<L.length
  ·have i1:(i:Int)<(L.length:Int):=by omega
   have i0:(0:Int)≤(i:Int):=by omega
   obtain⟨ga,_,bp,_,bn,_,_⟩:=HO.out.form (by omega)
   injection bp with hA _ hc
   subst hA;subst hc;have q0:=(HO.out.cellAt ((cQ L i G 0 (by omega)).trans rfl)).1
   have q1:=(HO.out.cellAt ((cQ L i G 1 (by omega)).trans rfl)).1
   have q2:=(HO.out.cellAt ((cQ L i G 2 (by omega)).trans rfl)).1
   rw[Nat.add_zero] at q0;have an:L.getD i gF∈L:=by rw[bD,bE G];exact bH G
   obtain⟨p,aL⟩:∃p,L.getD i gF=p:=⟨_,rfl⟩
   rw[aL] at q0 q1 q2 an;have ac:=aJ aL;have aN:p.s<st.length:=by
    obtain⟨t,n,_,bo,_⟩:=F.out.srch.k3 p ((F.out.srch.k1 p).2 (bY an));exact SR.lt HV.out bo
   have ak:=aJ an
   clear aL an;obtain⟨ps,pb,k⟩:=p;simp only at q0 q1 q2 aN;have aG:=aM wr (.cells #[.int .i64 (ps:Int),.bool pb,.bool k] 222);have ai:=(Old.refl wr).alloc (.cells #[.int .i64 (ps:Int),.bool pb,.bool k] 222);have aD:Hid (wr.heap.size≠b∧wr.heap.size≠k3∧some wr.heap.size≠(Value.slice (some ⟨ga,0,none⟩) L.length cl).ownBlock):=aJ ⟨by have:=HS.out.lb;have:=HS.out.lB;omega,by have:=aQ H3.out;omega,fun e=>by have:=(bU HO.out _ e.symm).2;omega⟩
   go_upto_region 5 with fail
   generalize wr.alloc (.cells #[.int .i64 (ps:Int),.bool pb,.bool k] 222)=W6 at *;have aa:=aJ (HS.out.up ai);have aU:=aJ (HO.out.up ai);have ay:=aJ (ai.block H2.out);have az:=aJ (ai.block H3.out);have aA:=aJ aG;have br:Hid (wr.heap.size<W6.heap.size):=aJ (aQ aG);generalize wr.heap.size=k6 at *;clear HS HO H2 H3 a2 a3 q0 q1 q2 aG ai bn;have bb:=(a7 HV.out).2.2 ps aN;have hx:st[ps]? =some (nd st ps):=by unfold nd;rw[bD,bE aN];rfl
   obtain⟨bs,off,rfl,_,X⟩:=(aa.out.nodes.up aa.out.old).at_ (by rw[aV];omega)
   have hg:=cd st ps _ hx
   have c0:=X _ _ (hg 0 (by omega))
   have c1:=X _ _ (hg 1 (by omega))
   have c2:=X _ _ (hg 2 (by omega))
   have c3:=X _ _ (hg 3 (by omega))
   have c4:=X _ _ (hg 4 (by omega))
   have c5:=X _ _ (hg 5 (by omega))
   have c6:=X _ _ (hg 6 (by omega))
   rw[←Nat.add_assoc] at c0 c1 c2 c3 c4 c5 c6;rw[Nat.add_zero] at c0;have s1:(0:Int)≤(ps:Int):=by omega
   have s2:(ps:Int)<(st.length:Int):=by omega
   have be:Hid (nd st ps=nd st ps):=aJ rfl
   obtain⟨y,hy⟩:∃y,nd st ps=y:=⟨_,rfl⟩
   rw[hy] at bb c0 c1 c2 c3 c4 c5 c6;have HY:=aJ hy;clear hx X hg hy be;obtain⟨kd,lf,rt,K⟩:=y
   replace c0:W6.cell? ⟨bs,off+ps*7,none⟩=some (.int .i64 kd):=c0
   replace c1:W6.cell? ⟨bs,off+ps*7+1,none⟩=some (.int .i64 lf):=c1
   replace c2:W6.cell? ⟨bs,off+ps*7+2,none⟩=some (.int .i64 rt):=c2
   replace c3:W6.cell? ⟨bs,off+ps*7+3,none⟩=some (.int .u64 (ab K 0)):=c3
   replace c4:W6.cell? ⟨bs,off+ps*7+4,none⟩=some (.int .u64 (ab K 1)):=c4
   replace c5:W6.cell? ⟨bs,off+ps*7+5,none⟩=some (.int .u64 (ab K 2)):=c5
   replace c6:W6.cell? ⟨bs,off+ps*7+6,none⟩=some (.int .u64 (ab K 3)):=c6
   have ap:Hid (∀w',Old W6 w'→Old W6 w'∧w'.cell? ⟨k2,0,none⟩=some (.pointer (some ⟨g,0,none⟩))∧w'.cell? ⟨g,0,none⟩=some (.slice (some ⟨bs,off,none⟩) st.length c)∧w'.cell? ⟨k6,0,none⟩=some (.int .i64 (ps:Int))∧
     w'.cell? ⟨bs,off+ps*7,none⟩=some (.int .i64 kd)∧w'.cell? ⟨bs,off+ps*7+1,none⟩=some (.int .i64 lf)∧w'.cell? ⟨bs,off+ps*7+2,none⟩=some (.int .i64 rt)∧w'.cell? ⟨bs,off+ps*7+3,none⟩=some (.int .u64 (ab K 0))∧w'.cell? ⟨bs,off+ps*7+4,none⟩=some (.int .u64 (ab K 1))∧w'.cell? ⟨bs,off+ps*7+5,none⟩=some (.int .u64 (ab K 2))∧w'.cell? ⟨bs,off+ps*7+6,none⟩=some (.int .u64 (ab K 3))):=aJ (fun w' ho=>
    ⟨ho,by rw[aK w' k2 0 _ _ _ (ho.block ay.out)];rfl,(aa.out.up ho).cells.1,by rw[aK w' k6 0 _ _ _ (ho.block aA.out)];rfl,ho.cell c0,ho.cell c1,ho.cell c2,ho.cell c3,ho.cell c4,ho.cell c5,ho.cell c6⟩)
   clear c0 c1 c2 c3 c4 c5 c6;go_region_held3 (fun w'=>Old W6 w'∧w'.cell? ⟨k2,0,none⟩=some (.pointer (some ⟨g,0,none⟩))∧w'.cell? ⟨g,0,none⟩=some (.slice (some ⟨bs,off,none⟩) st.length c)∧w'.cell? ⟨k6,0,none⟩=some (.int .i64 (ps:Int))∧
     w'.cell? ⟨bs,off+ps*7,none⟩=some (.int .i64 kd)∧w'.cell? ⟨bs,off+ps*7+1,none⟩=some (.int .i64 lf)∧w'.cell? ⟨bs,off+ps*7+2,none⟩=some (.int .i64 rt)∧w'.cell? ⟨bs,off+ps*7+3,none⟩=some (.int .u64 (ab K 0))∧w'.cell? ⟨bs,off+ps*7+4,none⟩=some (.int .u64 (ab K 1))∧w'.cell? ⟨bs,off+ps*7+5,none⟩=some (.int .u64 (ab K 2))∧w'.cell? ⟨bs,off+ps*7+6,none⟩=some (.int .u64 (ab K 3))) ((refine ap.out _ ?_;first|exact(Old.refl _).drew|exact((Old.refl _).alloc _).drew)) (fail)
   have aI:StAt (W6.alloc (.cells (ao ⟨kd,lf,rt,K⟩).toArray 213)).drew W6.heap.size ⟨kd,lf,rt,K⟩:=aM W6 _
   have af:Old W6 (W6.alloc (.cells (ao ⟨kd,lf,rt,K⟩).toArray 213)).drew:=((Old.refl W6).alloc _).drew
   have a8:(W6.alloc (.cells #[.int .i64 kd,.int .i64 lf,.int .i64 rt,.int .u64 (ab K 0),.int .u64 (ab K 1),.int .u64 (ab K 2),.int .u64 (ab K 3)] 213)).drew=(W6.alloc (.cells (ao ⟨kd,lf,rt,K⟩).toArray 213)).drew:=rfl
   rw[a8];have E:=aJ (aa.out.up af);have m:=aJ (aU.out.up af);have l:=aJ (af.block ay.out);have D:=aJ (af.block az.out);have u:=aJ (af.block aA.out);have aS:Hid (W6.heap.size≠b∧W6.heap.size≠k3):=aJ ⟨by have:=aa.out.lb;have:=aa.out.lB;omega,by have:=aQ az.out;omega⟩
   generalize (W6.alloc (.cells (ao ⟨kd,lf,rt,K⟩).toArray 213)).drew=W at *;generalize W6.heap.size=k7 at *;have P:=aJ aI;obtain⟨d0,d1,d2,_⟩:=aI.cells;simp only at d0 d1 d2;have e0:W.cell? ⟨k6,0,none⟩=some (.int .i64 (ps:Int)):=by rw[aK W k6 0 _ _ _ u.out];rfl
   have e1:W.cell? ⟨k6,1,none⟩=some (.bool pb):=by rw[aK W k6 1 _ _ _ u.out];rfl
   have e2:W.cell? ⟨k6,2,none⟩=some (.bool k):=by rw[aK W k6 2 _ _ _ u.out];rfl
   clear a8 af aa aU ay az aA aI s1 s2 ap;obtain⟨o1,o2,o3,o4⟩:=bb;simp only at o1 o2 o3 o4;have bm:kd=1∨kd=2∨kd=3∨kd=4∨kd=5:=by omega
   rcases bm with rfl|rfl|rfl|rfl|rfl
   ·have T:Hid (∀q,¬SE st (L.getD i gF) q):=aJ (fun q=>by rw[ac.out];exact nC (by rw[HY.out];intro h;cases h) (by rw[HY.out];intro h;cases h) (by rw[HY.out];intro h;cases h) q)
    have HW:=aJ (SsRel.next (k2:=k2) (k3:=k3) (n0:=n0) (i:=i) E.out m.out l.out D.out F.out (Ext.refl al) ⟨[],by simp⟩ G Z.out (fun q I=>absurd I (T.out q)) S.out (bM _))
    clear E m l D u P T U;go_wp2_with fail;go_roundw
    case rel=>exact HW.out
    case measure=>simp[intOf];omega
   ·obtain⟨a,rfl⟩:=Int.eq_ofNat_of_zero_le (o3 (by decide)).1
    obtain⟨z,rfl⟩:=Int.eq_ofNat_of_zero_le (o4 rfl).1;have N:=aJ (uS (p:=⟨ps,pb,k⟩) HY.out rfl);have ag:Hid (∀q,SE st ⟨ps,pb,k⟩ q→q=⟨a,pb,k⟩∨q=⟨z,pb,k⟩):=aJ (fun q I=>by have:=(N.out q).1 I;simpa using this)
    have bf:Hid (SE st ⟨ps,pb,k⟩ ⟨a,pb,k⟩):=aJ ((N.out _).2 (bX (by simp)))
    have aX:Hid (SE st ⟨ps,pb,k⟩ ⟨z,pb,k⟩):=aJ ((N.out _).2 (bY (by simp)))
    have f:=aJ (F.out.fwd HV.out ak.out (q:=⟨a,pb,k⟩) (bf.out))
    have HC:=aJ (rF w0 B g b k2 k3 k6 st _ c _ al L W E.out m.out l.out D.out ⟨ps,pb,k⟩ u.out am.out (by omega) (by omega) a (by have:=f.out.1;simp only at this;omega) k)
    have Q:=aJ (gH al L ⟨a,pb,k⟩ ⟨⟨ps,pb,k⟩,false,false,0⟩)
    generalize bv al L ⟨a,pb,k⟩ ⟨⟨ps,pb,k⟩,false,false,0⟩=r at *;obtain⟨ah,L2⟩:=r;simp only at HC f Q;go_wp2_with fail;refine(HC.out).mono ?_;rintro e w2 ⟨rfl,aO,Y,H,C,o⟩;have V:=aJ Y;have M:=aJ H;have O:=aJ C;have J:=aJ (eJ o l.out R.out.1 R.out.2 (eu m.out l.out (by decide)))
    obtain⟨aE,bi⟩:=o.block u.out aD.out.1 aD.out.2.1 aD.out.2.2;have a0:=eJ o P.out aS.out.1 aS.out.2 (eu m.out P.out (by decide))
    obtain⟨_,_,aZ,_⟩:=(show StAt w2 k7 _ from a0).cells
    simp only at aZ
    have bh:w2.cell? ⟨k6,2,none⟩=some (.bool k):=by rw[aK w2 k6 2 _ _ _ aE];rfl
    have aY:=aJ f.out.2.2.2.1
    have aC:=aJ f.out.2.2.2.2
    have au:=aJ f.out.2.2.1
    have aj:=aJ f.out.2.1
    have aH:=aj.out.srch.few
    have ba:=aj.out.srch.k5
    have aq:Hid ((⟨ps,pb,k⟩:Sp)∈L2):=aJ (by obtain⟨_,bl⟩:=aC.out;rw[bl];exact List.mem_append_left _ ak.out)
    have x:=aJ (aj.out.fwd HV.out aq.out aX.out)
    have aB:=aJ (rF w0 B g b k2 k3 k6 st _ c aO ah L2 w2 V.out M.out J.out O.out ⟨ps,pb,k⟩ aE am.out (by omega) (by omega) z (by have:=x.out.1;simp only at this;omega) k)
    have ar:=aJ (gH ah L2 ⟨z,pb,k⟩ ⟨⟨ps,pb,k⟩,false,false,0⟩)
    generalize bv ah L2 ⟨z,pb,k⟩ ⟨⟨ps,pb,k⟩,false,false,0⟩=r at *;obtain⟨_,L3⟩:=r;simp only at aB x ar;clear Y H C o HC aE bi a0;go_wp2_with fail;refine(aB.out).mono ?_;rintro e _ ⟨rfl,_,bc,ae,aw,ax⟩;have aW:=aJ bc;have aT:=aJ ae;have aR:=aJ aw;have aP:=aJ (eJ ax J.out R.out.1 R.out.2 (eu M.out J.out (by decide)))
    have bd:Hid (∃e,L3=L++e):=aJ (by
     obtain⟨e1,bj⟩:=aC.out;obtain⟨e2,bk⟩:=x.out.2.2.2.2;exact⟨e1++e2,by rw[bk,bj,List.append_assoc]⟩)
    have HW:=aJ (SsRel.next (k2:=k2) (k3:=k3) (n0:=n0) (i:=i) aW.out aT.out aP.out aR.out x.out.2.1 (aY.out.trans x.out.2.2.2.1) bd.out G Z.out (fun q I=>by
     rw[ac.out] at I;rcases ag.out q I with e|e
     ·rw[e];exact x.out.2.2.2.1.some au.out
     ·rw[e];exact x.out.2.2.1) S.out (bN Q.out ar.out))
    clear bc ae aw ax aB V M O J f x aW aT aR aP E m l D u P U aY aC au aj aq aZ bh aH ba;go_wp2_with fail;go_roundw
    case rel=>exact HW.out
    case measure=>simp[intOf];omega
   ·obtain⟨a,rfl⟩:=Int.eq_ofNat_of_zero_le (o3 (by decide)).1
    cases pb with
    |false=>
     have T:Hid (∀q,¬SE st (L.getD i gF) q):=aJ (fun q=>by rw[ac.out];exact nC (by rw[HY.out];intro h;cases h) (fun _=>rfl) (by rw[HY.out];intro h;cases h) q)
     have HW:=aJ (SsRel.next (k2:=k2) (k3:=k3) (n0:=n0) (i:=i) E.out m.out l.out D.out F.out (Ext.refl al) ⟨[],by simp⟩ G Z.out (fun q I=>absurd I (T.out q)) S.out (bM _))
     clear E m l D u P T U;go_wp2_with fail;go_roundw
     case rel=>exact HW.out
     case measure=>simp[intOf];omega
    |true=>
     have N:=aJ (AX (p:=⟨ps,true,k⟩) HY.out rfl rfl)
     have ag:Hid (∀q,SE st ⟨ps,true,k⟩ q→q=⟨a,true,k⟩):=aJ (fun q I=>by have:=(N.out q).1 I;simpa using this)
     have f:=aJ (F.out.fwd HV.out ak.out (q:=⟨a,true,k⟩) ((N.out _).2 (by simp)))
     have HC:=aJ (rF w0 B g b k2 k3 k6 st _ c _ al L W E.out m.out l.out D.out ⟨ps,true,k⟩ u.out am.out (by omega) (by omega) a (by have:=f.out.1;simp only at this;omega) k)
     have Q:=aJ (gH al L ⟨a,true,k⟩ ⟨⟨ps,true,k⟩,false,false,0⟩)
     generalize bv al L ⟨a,true,k⟩ ⟨⟨ps,true,k⟩,false,false,0⟩=r at *;obtain⟨ah,L2⟩:=r;simp only at HC f Q;go_wp2_with fail;refine(HC.out).mono ?_;rintro e w2 ⟨rfl,aO,Y,H,C,o⟩;have V:=aJ Y;have M:=aJ H;have O:=aJ C;have J:=aJ (eJ o l.out R.out.1 R.out.2 (eu m.out l.out (by decide)))
     have HW:=aJ (SsRel.next (k2:=k2) (k3:=k3) (n0:=n0) (i:=i) V.out M.out J.out O.out f.out.2.1 f.out.2.2.2.1 f.out.2.2.2.2 G Z.out (fun q I=>by rw[ac.out] at I;rw[ag.out q I];exact f.out.2.2.1) S.out Q.out)
     clear Y H C o HC V M O J f E m l D u P U;go_wp2_with fail;go_roundw
     case rel=>exact HW.out
     case measure=>simp[intOf];omega
   ·obtain⟨a,rfl⟩:=Int.eq_ofNat_of_zero_le (o3 (by decide)).1
    have N:=aJ (AW (p:=⟨ps,pb,k⟩) HY.out rfl)
    have ag:Hid (∀q,SE st ⟨ps,pb,k⟩ q→q=⟨a,pb,true⟩):=aJ (fun q I=>by have:=(N.out q).1 I;simpa using this)
    have f:=aJ (F.out.fwd HV.out ak.out (q:=⟨a,pb,true⟩) ((N.out _).2 (by simp)))
    have HC:=aJ (rF w0 B g b k2 k3 k6 st _ c _ al L W E.out m.out l.out D.out ⟨ps,pb,k⟩ u.out am.out (by omega) (by omega) a (by have:=f.out.1;simp only at this;omega) true)
    have Q:=aJ (gH al L ⟨a,pb,true⟩ ⟨⟨ps,pb,k⟩,false,false,0⟩)
    generalize bv al L ⟨a,pb,true⟩ ⟨⟨ps,pb,k⟩,false,false,0⟩=r at *;obtain⟨ah,L2⟩:=r;simp only at HC f Q;go_wp2_with fail;refine(HC.out).mono ?_;rintro e w2 ⟨rfl,aO,Y,H,C,o⟩;have V:=aJ Y;have M:=aJ H;have O:=aJ C;have J:=aJ (eJ o l.out R.out.1 R.out.2 (eu m.out l.out (by decide)))
    have HW:=aJ (SsRel.next (k2:=k2) (k3:=k3) (n0:=n0) (i:=i) V.out M.out J.out O.out f.out.2.1 f.out.2.2.2.1 f.out.2.2.2.2 G Z.out (fun q I=>by rw[ac.out] at I;rw[ag.out q I];exact f.out.2.2.1) S.out Q.out)
    clear Y H C o HC V M O J f E m l D u P U;go_wp2_with fail;go_roundw
    case rel=>exact HW.out
    case measure=>simp[intOf];omega
   ·have T:Hid (∀q,¬SE st (L.getD i gF) q):=aJ (fun q=>by rw[ac.out];exact nC (by rw[HY.out];intro h;cases h) (by rw[HY.out];intro h;cases h) (by rw[HY.out];intro h;cases h) q)
    have HW:=aJ (SsRel.next (k2:=k2) (k3:=k3) (n0:=n0) (i:=i) E.out m.out l.out D.out F.out (Ext.refl al) ⟨[],by simp⟩ G Z.out (fun q I=>absurd I (T.out q)) S.out (bM _))
    clear E m l D u P T U;go_wp2_with fail;go_roundw
    case rel=>exact HW.out
    case measure=>simp[intOf];omega
  ·have HE:=aJ (U.out (.slice Al L.length cl) al L wr HS.out HO.out F.out (fun p hp q I=>by
    obtain⟨j,hj,rfl⟩:=List.mem_iff_getElem.mp hp;refine Z.out j (by omega) q ?_
    rw[bD,bE hj];exact I) (fun e=>by have:=S.out.1;rw[e] at this;simp at this) S.out.2)
   clear U;go_wp2_with fail;go_ret;exact HE.out
end Go.Proofs.YtfchjdnpbgpfpaaGreatDoor
