/- Part 1: walks and plain laws. -/
import Derived.WalkKit
import Derived.Lib.Hide
import Derived.Deep.QuietTactic
import Derived.Maps.AppendAt
import Derived.Deep.AppendLies
import Derived.Deep.Slices
import Derived.Deep.Fields
import Derived.ProofKit
import Derived.ChangeSame
import Derived.Test.YtfchjdnpbgpfpaaGreatDoorRows
import Derived.OpenShut
import Derived.ShutString
import Derived.ChangeOld
import Derived.Below
import Derived.Test.YtfchjdnpbgpfpaaGreatDoorProg
import Derived.WalkSpells
import Derived.WalkLawsBesides
import Derived.Laws.IdiomStrings
import Derived.Laws.BytesArg
import Derived.BigQuiet
import Derived.IntWalk
import Derived.Lib.BitFns
import Derived.RowKit
import Derived.Shelf.Small.Bits
import Derived.Shelf.Strconv.Itoa0
import Derived.Shelf.Spec.BitsCarry
import Derived.MapKept
import Derived.Lib.SlicesCompact
import Derived.Sort.Row
import Derived.Sort.Grow
import Derived.Shelf.Sort.Plain
import Derived.Shelf.Slices.CompactI
import Derived.Shelf.Slices.In.SortNone
import Derived.Deep.DeepCutAuto
import Derived.Deep.CutBlock
import Derived.Handy
import Derived.ScopeJumps
import Derived.WalkMore
import Derived.Laws.BitsAllLaws
import Derived.RegionTactic
import Derived.Deep.RegionHeld3
import Derived.Orders
set_option maxHeartbeats 16000000
set_option maxRecDepth 100000
open Go.Lib renaming hid → aJ
open Go renaming cell_of_row → aK, heap_setCell_other → aL, heap_alloc_new → aM, frozen_of_row → aN, heap_setCell_same → aO, bodyPost_ret → aP, lt_of_block → aQ, undef → aR
open List renaming getD_eq_getElem?_getD → bD, getElem?_eq_getElem → bE, length_append → bF, length_singleton → bG, getElem_mem → bH, getElem?_eq_none → bI, getElem?_append_left → bJ, length_set → bK, length_map → bL
open Nat renaming le_refl → bM, le_trans → bN, zero_le → bO
open Option.some renaming inj → bQ
open Go.World.ownsRow renaming kept → bT, lt → bU
open Go.IntWalk renaming i64_in → bV
open Exists renaming intro → bW
open Or renaming inl → bX, inr → bY
namespace Go.Proofs.YtfchjdnpbgpfpaaGreatDoor
open Go.RowKit Go.Shelf
set_option linter.unusedVariables false
def Old (w w':World):Prop:=Below w.heap.size w w'
theorem Old.out {w w':World} (h:Old w w'):Below w.heap.size w w':=h
theorem Old.refl (w:World):Old w w:=Below.refl _ _
theorem Old.size {w w':World} (h:Old w w'):w.heap.size≤w'.heap.size:=Below.size h
theorem Old.up {a b c:World} (h:Old a b) (k:Old b c):Old a c:=Below.trans h (Below.mono k h.size)
theorem Old.drewN {a b:World} (h:Old a b) (n:Nat):Old a (b.drewN n):=⟨h.out.os,h.out.tape,h.out.output,h.out.size,h.out.block⟩
theorem Old.drew {a b:World} (h:Old a b):Old a b.drew:=Below.drew h
theorem Old.alloc {a b:World} (h:Old a b) (o:Obj):Old a (b.alloc o):=Below.alloc h h.size o
theorem Old.setCell {a b:World} (h:Old a b) {p:Addr} (c:a.heap.size≤p.block) (u:Value):Old a (b.setCell p u):=Below.setCell h c u
theorem Old.cell {w w':World} (h:Old w w') {p:Addr} {u:Value} (hc:w.cell? p=some u):w'.cell? p=some u:=
 (Below.cell h (block_lt_of_cell hc)).trans hc
theorem Old.block {w w':World} (h:Old w w') {b:Nat} {o:Obj} (hc:w.heap[b]? =some o):w'.heap[b]? =some o:=
 (Below.block h b (aQ hc)).trans hc
theorem fW {B:Nat} {a w:World} (h:Below B a w) (n:Nat):Below B a (w.drewN n):=⟨h.os,h.tape,h.output,h.size,h.block⟩
def Rs (w:World) (A:Option Addr) (xs:List Value):Prop:=
 xs=[]∨∃b off,A=some ⟨b,off,none⟩∧∀j u,xs[j]? =some u→w.cell? ⟨b,off+j,none⟩=some u
theorem Rs.nil_ {w:World} {A:Option Addr}:Rs w A []:=bX rfl
theorem Rs.at_ {w:World} {A:Option Addr} {xs:List Value} (h:Rs w A xs) (hne:0<xs.length):
  ∃b off,A=some ⟨b,off,none⟩∧b<w.heap.size∧∀j u,xs[j]? =some u→w.cell? ⟨b,off+j,none⟩=some u:=by
 rcases h with rfl|⟨b,off,a,hc⟩
 ·simp at hne
 ·refine⟨b,off,a,?_,hc⟩;have:=hc 0 _ (bE hne);exact block_lt_of_cell this
theorem Rs.keep {w w':World} {A:Option Addr} {xs:List Value} (h:Rs w A xs) (hk:∀p:Addr,∀u,w.cell? p=some u→w'.cell? p=some u):Rs w' A xs:=by
 rcases h with rfl|⟨b,off,a,hc⟩
 ·exact Rs.nil_
 ·exact bY ⟨b,off,a,fun j u c=>hk _ _ (hc j u c)⟩
theorem Rs.up {w w':World} {A:Option Addr} {xs:List Value} (h:Rs w A xs) (a:Old w w'):Rs w' A xs:=h.keep fun _ _ b=>a.cell b
theorem Rs.alloc {w:World} {A:Option Addr} {xs:List Value} (h:Rs w A xs) (o:Obj):Rs (w.alloc o) A xs:=h.up ((Old.refl w).alloc o)
theorem Rs.nil_iff {w:World} {xs:List Value} (h:Rs w none xs):xs=[]:=by
 rcases h with h|⟨b,off,a,_⟩
 ·exact h
 ·cases a
theorem Rs.cellAt {w:World} {b off:Nat} {xs:List Value} (h:Rs w (some ⟨b,off,none⟩) xs) {j:Nat} {u:Value} (c:xs[j]? =some u):w.cell? ⟨b,off+j,none⟩=some u:=by
 rcases h with rfl|⟨b,off,a,hc⟩
 ·simp at c
 ·simp only[Option.some.injEq,Addr.mk.injEq,and_true] at a;obtain⟨rfl,rfl⟩:=a;exact hc _ _ c
def Ts (w:World) (e:TypeId) (A:Option Addr) (xs:List Value):Prop:=
 xs=[]∨∃b off cur fz,A=some ⟨b,off,none⟩∧w.heap[b]? =some (.cells cur e fz)∧∀j u,xs[j]? =some u→cur[off+j]? =some u
theorem Ts.nil_ {w:World} {e:TypeId} {A:Option Addr}:Ts w e A []:=bX rfl
theorem Ts.rs {w:World} {e:TypeId} {A:Option Addr} {xs:List Value} (h:Ts w e A xs):Rs w A xs:=by
 rcases h with rfl|⟨b,off,cur,fz,a,c,hc⟩
 ·exact Rs.nil_
 ·refine bY ⟨b,off,a,fun j u d=>?_⟩
  rw[aK w b (off+j) cur e fz c];exact hc j u d
theorem Ts.up {w w':World} {e:TypeId} {A:Option Addr} {xs:List Value} (h:Ts w e A xs) (c:Old w w'):Ts w' e A xs:=by
 rcases h with rfl|⟨b,off,cur,fz,a,d,hc⟩
 ·exact Ts.nil_
 ·exact bY ⟨b,off,cur,fz,a,c.block d,hc⟩
def Own (w:World) (base:Nat) (e:TypeId) (size:Nat) (v:Value) (n:Nat) (xs:List Value):Prop:=w.ownsRow base e size v n xs
theorem Own.out {w:World} {base:Nat} {e:TypeId} {size:Nat} {v:Value} {n:Nat} {xs:List Value} (h:Own w base e size v n xs):w.ownsRow base e size v n xs:=h
theorem Own.nil_ (w:World) (base:Nat) (e:TypeId) (size:Nat):Own w base e size (.slice none 0 0) 0 []:=World.ownsRow_nil w base e size
theorem Own.len {w:World} {base:Nat} {e:TypeId} {size:Nat} {v:Value} {n:Nat} {xs:List Value} (h:Own w base e size v n xs):xs.length=n*size:=h.out.1
theorem Own.base {w:World} {base base':Nat} {e:TypeId} {size:Nat} {v:Value} {n:Nat} {xs:List Value} (h:Own w base e size v n xs) (c:base'≤base):
  Own w base' e size v n xs:=by
 rcases h with⟨h1,⟨h2,a⟩|⟨g,cap,cur,h2,d,b⟩⟩
 ·exact⟨h1,bX ⟨h2,a⟩⟩
 ·exact⟨h1,bY ⟨g,cap,cur,h2,by omega,b⟩⟩
theorem Own.up {w w':World} {base:Nat} {e:TypeId} {size:Nat} {v:Value} {n:Nat} {xs:List Value} (h:Own w base e size v n xs) (a:Old w w'):Own w' base e size v n xs:=by
 refine bT (row:=none) h ⟨a.out.os,a.out.tape,a.out.output,a.out.size,fun k hk _=>a.out.block k hk⟩ ?_
 cases hv:v.ownBlock with
 |none=>exact bX rfl
 |some k=>exact bY (by simp)
theorem Own.alloc {w:World} {base:Nat} {e:TypeId} {size:Nat} {v:Value} {n:Nat} {xs:List Value} (h:Own w base e size v n xs) (o:Obj):Own (w.alloc o) base e size v n xs:=h.up ((Old.refl w).alloc o)
theorem Own.shape {w:World} {base:Nat} {e:TypeId} {size:Nat} {v:Value} {n:Nat} {xs:List Value} (h:Own w base e size v n xs):
  ∃A c,v= .slice A n c∧Ts w e A xs∧n≤c∧c≤maxLen:=by
 rcases h with⟨h1,⟨rfl,rfl⟩|⟨g,cap,cur,rfl,d,b,hn,hm,hs,hx⟩⟩
 ·refine⟨none,0,rfl,bX (List.eq_nil_of_length_eq_zero (by simpa using h1)),bM _,bO _⟩
 ·refine⟨_,cap,rfl,bY ⟨g,0,cur,(0,0),rfl,b,fun j u a=>?_⟩,hn,hm⟩
  rw[←hx,List.getElem?_take] at a;split at a
  ·simpa using a
  ·cases a
theorem Own.form {w:World} {base:Nat} {e:TypeId} {size:Nat} {v:Value} {n:Nat} {xs:List Value} (h:Own w base e size v n xs) (hn:0<n):
  ∃g c,v= .slice (some ⟨g,0,none⟩) n c∧base≤g∧g<w.heap.size∧n≤c∧c≤maxLen:=by
 rcases h with⟨h1,⟨rfl,rfl⟩|⟨g,cap,cur,rfl,b,d,a,hm,hs,hx⟩⟩
 ·omega
 ·exact⟨g,cap,rfl,b,aQ d,a,hm⟩
theorem grown_old {w0 w w':World} {row:Option Nat} (h:Old w0 w) (a:w.grownBy w' row) (b:∀g,row=some g→w0.heap.size≤g):Old w0 w':=
 Below.grown h a h.size b
theorem Own.grown_old {w0 w w':World} {base:Nat} {e:TypeId} {size:Nat} {v:Value} {n:Nat} {xs:List Value} (h:Old w0 w) (a:Own w base e size v n xs) (b:w0.heap.size≤base)
  (c:w.grownBy w' v.ownBlock):Old w0 w':=
 Below.grown h c h.size (fun k hk=>bN b (bU a k hk).1)
theorem Ts.grown {w w':World} {e f:TypeId} {A:Option Addr} {xs:List Value} {base size n:Nat} {v:Value} {j:List Value} (h:Ts w e A xs) (c:Own w base f size v n j) (hne:e≠f) (i:w.grownBy w' v.ownBlock):Ts w' e A xs:=by
 rcases h with rfl|⟨b,off,cur,fz,rfl,d,hc⟩
 ·exact Ts.nil_
 ·refine bY ⟨b,off,cur,fz,rfl,?_,hc⟩;rw[i.block b (aQ d) ?_]
  ·exact d
  ·intro hk;rcases c with⟨_,⟨rfl,_⟩|⟨g,cap,k,rfl,_,a,_⟩⟩
   ·simp[Value.ownBlock] at hk
   ·simp[Value.ownBlock] at hk;subst hk;rw[d] at a;simp at a;exact hne a.2.1
theorem Own.grown {w w':World} {base base':Nat} {e i:TypeId} {size b:Nat} {v v':Value} {n l:Nat} {xs m:List Value} (h:Own w base e size v n xs) (c:Own w base' i b v' l m) (hne:e≠i)
  (k:w.grownBy w' v'.ownBlock):Own w' base e size v n xs:=by
 refine bT h k ?_;rcases h with⟨_,⟨rfl,_⟩|⟨g,cap,o,rfl,_,d,_⟩⟩
 ·exact bX rfl
 ·rcases c with⟨_,⟨rfl,_⟩|⟨p,f,j,rfl,_,a,_⟩⟩
  ·exact bY (by simp[Value.ownBlock])
  ·refine bY ?_;intro hk;simp[Value.ownBlock] at hk;subst hk;rw[d] at a;simp at a;exact hne a.2
theorem ed (w:World) (cs:List Value) (e:TypeId):∀j u,cs[j]? =some u→(w.alloc (.cells cs.toArray e)).cell? ((⟨w.heap.size,0,none⟩:Addr).add j)=some u:=by
 intro j u h;rw[Addr.add_lit,Nat.zero_add,aK _ w.heap.size j cs.toArray e (0,0) (aM w _)];simpa using h
theorem fg (w:World) (cs:List Value) (e:TypeId):Rs (w.alloc (.cells cs.toArray e)) (some ⟨w.heap.size,0,none⟩) cs:=
 bY ⟨_,_,rfl,fun j u h=>by have:=ed w cs e j u h;rwa [Addr.add_lit] at this⟩
theorem yo (w:World) (cs:Array Value) (n size:Nat) (e:TypeId) (hm:n≤maxLen) (hs:cs.size=n*size):
  Own (w.alloc (.cells cs e)) w.heap.size e size (.slice (some ⟨w.heap.size,0,none⟩) n n) n cs.toList:=by
 refine⟨by simpa using hs,bY ⟨_,n,cs,rfl,bM _,aM w _,bM _,hm,hs,?_⟩⟩
 exact List.take_of_length_le (by simp;omega)
theorem Own.shrink {w:World} {base:Nat} {e:TypeId} {size:Nat} {A:Option Addr} {n c:Nat} {xs:List Value} (h:Own w base e size (.slice A n c) n xs) {i:Nat} (f:i≤n):
  Own w base e size (.slice A i c) i (xs.take (i*size)):=by
 have hm:i*size≤n*size:=Nat.mul_le_mul_right _ f
 rcases h with⟨h1,⟨h2,rfl⟩|⟨g,cap,cur,h2,b,d,hn,a,hs,hx⟩⟩
 ·obtain rfl:i=0:=by omega
  have:xs=[]:=List.eq_nil_of_length_eq_zero (by simpa using h1)
  subst this;exact⟨by simp,bX ⟨h2,rfl⟩⟩
 ·simp only[Value.slice.injEq] at h2;obtain⟨rfl,_,rfl⟩:=h2;refine⟨by rw[List.length_take,h1];omega,bY ⟨g,c,cur,rfl,b,d,by omega,a,hs,?_⟩⟩
  rw[←hx,List.take_take,Nat.min_eq_left hm]
theorem Own.set_ {w:World} {base:Nat} {e:TypeId} {size g n c:Nat} {xs:List Value} (h:Own w base e size (.slice (some ⟨g,0,none⟩) n c) n xs) (j:Nat) (u:Value):
  Own (w.setCell ⟨g,j,none⟩ u) base e size (.slice (some ⟨g,0,none⟩) n c) n (xs.set j u)∧w.grownBy (w.setCell ⟨g,j,none⟩ u) (some g):=World.ownsRow.stored h j u
theorem Own.cellAt {w:World} {base:Nat} {e:TypeId} {size g n c:Nat} {xs:List Value} (h:Own w base e size (.slice (some ⟨g,0,none⟩) n c) n xs) {j:Nat} {u:Value} (a:xs[j]? =some u):
  w.cell? ⟨g,j,none⟩=some u∧w.frozen? ⟨g,j,none⟩=false:=by
 have hj:j<n*size:=by rw[←h.len];exact(List.getElem?_eq_some_iff.mp a).1
 exact⟨(World.ownsRow.cellAt h j hj).trans a,World.ownsRow.frozenAt h j⟩
theorem Own.setCells {base:Nat} {e:TypeId} {size g n c:Nat}:∀(a:List Value) (o:Nat) (w:World) (xs:List Value),Own w base e size (.slice (some ⟨g,0,none⟩) n c) n xs→
  ∃b,Own (w.setCells g o a) base e size (.slice (some ⟨g,0,none⟩) n c) n b∧w.grownBy (w.setCells g o a) (some g)∧b.take o=xs.take o:=by
 intro a
 induction a with
 |nil=>intro o w xs h;exact⟨xs,h,World.grownBy.refl _ _,rfl⟩
 |cons v r ih=>
  intro o w xs h;obtain⟨h1,h2⟩:=h.set_ o v;obtain⟨b,f,i,j⟩:=ih (o+1) _ _ h1;refine⟨b,f,h2.trans i,?_⟩;have d:=congrArg (List.take o) j;rw[List.take_take,List.take_take,Nat.min_eq_left (by omega)] at d
  rw[d,List.take_set_of_le (by omega)]
section
variable {P : Program} {w : World} {ops : Array Oper} {rest : List Oper} {o : Oper} {a : Act} {Q : Exit → Act → World → Prop}
theorem aE {wr:World} (l:o.guard=none) (s x:Operand) (t:TypeId)
  (E:o.op= .call {callee:= .builtin .append,args:=#[s,x],argTypes:=#[t,t]})
  (base:Nat) (e:TypeId) (z:Value) (size bytes:Nat) (F:P.underlying t=some (.slice e))
  (C:(P.info? e).map (fun i=>(i.zero,i.size,i.bytes))=some (some z,size,bytes)) (q:z.cells.size=size) (hsz:0<size) (k:bytes≤1024)
  (v:Value) (n:Nat) (xs:List Value) (hs:a.eval s=v) (d:Own wr base e size v n xs)
  (m c:Nat) (b:List Value) (hx:a.eval x= .slice (some ⟨wr.heap.size,0,none⟩) m c) (G:w=wr.alloc (.cells b.toArray e)) (D:b.length=m*size) (h1:b.all Value.oneCell'=true)
  (hn:n+m≤68719476736) (g:base≤wr.heap.size)
  (h:∀v' w',Own w' base e size v' (n+m) (xs++b)→wr.grownBy w' v.ownBlock→(∀w0,Old w0 wr→w0.heap.size≤base→Old w0 w')→wpList P ops Q rest (a.put o.dst v') w'):wpList P ops Q (o::rest) a w:=by
 subst G;obtain⟨i,p,hz,f,j⟩:=info_parts C;have B:(n+m)*bytes≤68719476736*1024:=Nat.mul_le_mul hn k;refine wpList_append_own _ l s x t E base e i z size bytes F p hz f j q hsz v n xs hs (Own.alloc d _) ⟨wr.heap.size,0,none⟩ m c b hx D (ed wr b e) (by simpa using h1)
  (by unfold maxLen;omega) (by omega) (by simp;omega) ?_
 intro v' w' h2 y _;have r:wr.grownBy w' v.ownBlock:=World.grownBy.trans (World.grownBy_alloc wr _ _) y;exact h v' w' h2 r (fun w0 u A=>Own.grown_old u d A r)
theorem dn (base:Nat) (t h e:TypeId) (i:TypeInfo) (size:Nat) (f:P.underlying t=some (.slice e)) (d:P.info? e=some i)
  (v:Value) (n:Nat) (xs:List Value) (a:w.ownsRow base e size v n xs) (c:Nat):(Builtin.append_ #[t,t] h #[v,.slice none 0 c]).run P w= .ok v w:=by
 rcases a.2 with⟨rfl,rfl⟩|⟨g,cap,cur,rfl,_,_,b,_⟩
 ·simp[Builtin.append_,run_underlying f,sizeOf,typeInfo,d,Builtin.lenOf,Builtin.firstCells]
 ·simp[Builtin.append_,run_underlying f,sizeOf,typeInfo,d,Builtin.lenOf,Builtin.firstCells,b,storeCells]
theorem kS (p:o.guard=none) (s x:Operand) (t:TypeId)
  (F:o.op= .call {callee:= .builtin .append,args:=#[s,x],argTypes:=#[t,t]})
  (base:Nat) (e:TypeId) (z:Value) (size bytes:Nat) (H:P.underlying t=some (.slice e))
  (O:(P.info? e).map (fun i=>(i.zero,i.size,i.bytes))=some (some z,size,bytes)) (C:z.cells.size=size) (hsz:0<size) (B:bytes≤1024)
  (v:Value) (n:Nat) (xs:List Value) (hs:a.eval s=v) (f:Own w base e size v n xs)
  (A:Option Addr) (m c:Nat) (d:List Value) (hx:a.eval x= .slice A m c) (G:Rs w A d) (E:d.length=m*size) (h1:d.all Value.oneCell'=true)
  (hn:n+m≤68719476736) (k:base≤w.heap.size)
  (h:∀v' w',Own w' base e size v' (n+m) (xs++d)→w.grownBy w' v.ownBlock→(∀w0,Old w0 w→w0.heap.size≤base→Old w0 w')→wpList P ops Q rest (a.put o.dst v') w'):wpList P ops Q (o::rest) a w:=by
 obtain⟨i,q,hz,l,y⟩:=info_parts O;have N:(n+m)*bytes≤68719476736*1024:=Nat.mul_le_mul hn B;cases A with
 |none=>
  obtain rfl:=G.nil_iff;obtain rfl:m=0:=by
   rcases Nat.eq_zero_or_pos m with g|g
   ·exact g
   ·have:=Nat.mul_pos g hsz;simp at E;omega
  refine wpList_plain p fun K L=>?_
  have r:=dn (P:=P) (w:=w) base t o.type e i size H q v n xs f c
  unfold Oper.wp;simp[execOp,F,resolve,invoke,builtin,hs,hx,r,Result.andThen];exact L _ _ (h v w (by simpa using f) (World.grownBy.refl _ _) (fun w0 g _=>g))
 |some ad=>
  refine wpList_append_own _ p s x t F base e i z size bytes H q hz l y C hsz v n xs hs f ad m c d hx E ?_ (by simpa using h1) (by unfold maxLen;omega) (by omega) k ?_
  ·intro j u I;rcases G with rfl|⟨b,off,J,hc⟩
   ·simp at I
   ·obtain rfl:=bQ J;rw[Addr.add_lit];exact hc j u I
  ·intro v' w' h2 D _;exact h v' w' h2 D (fun w0 g M=>Own.grown_old g f M D)
theorem dj (g:o.guard=none) (l c:Operand) (t:TypeId) (y:o.op=Op.makeSlice t l c)
  (e:TypeId) (z:Value) (size bytes:Nat) (A:P.underlying t=some (.slice e)) (u:(P.info? e).map (fun i=>(i.zero,i.size,i.bytes))=some (some z,size,bytes)) (f:bytes≤1024)
  (m kc:IntKind) (L C:Int) (n:Nat) (x:a.eval l= .int m L) (hc:a.eval c= .int kc C) (r:L=(n:Int)) (q:C=(n:Int)) (hn:n≤68719476736)
  (h:∀w',Own w' w.heap.size e size (.slice (some ⟨w.heap.size,0,none⟩) n n) n (madeCells z.cells (n*size)).toList→Old w w'→wpList P ops Q rest (a.put o.dst (.slice (some ⟨w.heap.size,0,none⟩) n n)) w'):wpList P ops Q (o::rest) a w:=by
 obtain⟨i,j,hz,b,d⟩:=info_parts u;have s:bytes*n≤1024*68719476736:=Nat.mul_le_mul f hn;refine wpList_make_full _ g l c t y w.heap.size e i z size A j hz b m kc L C n x hc r q (by rw[d];omega) (by unfold maxLen;omega) (bM _) ?_
 intro w' h2 p;exact h w' h2 (Below.grown (Below.refl _ _) p (bM _) (by intro k hk;cases hk))
end
theorem gJ {P:Program} {f:FuncId} {args:Array Value} {w:World} {n:Nat} {v:Value}
  (h:Calls P f args (w.drewN n) fun e w'=>e= .returned v∧w.drewN n=w'):Calls P f args (w.drewN n) fun e a=>e= .returned v∧∃m,a=w.drewN m:=
 h.mono fun _ _ ⟨b,hm⟩=>⟨b,n,hm.symm⟩
def me (w:World) (e:TypeId) (size n:Nat) (xs:List Value) (d:Ending) (w':World):Prop:=
 ∃v,d= .returned v∧Own w' w.heap.size e size v n xs∧Old w w'
theorem ik {a b:Bool} (h:a=b):Ending.returned (.bool a)= .returned (.bool b):=by rw[h]
theorem aS {w w' : World} (h : Old w w' := by (repeat (first | exact Old.refl _ | refine Old.drew ?_ | refine Old.drewN ?_ _ | refine Old.alloc ?_ _))) : Old w w' := h
end Go.Proofs.YtfchjdnpbgpfpaaGreatDoor
namespace Go.Proofs.YtfchjdnpbgpfpaaGreatDoor
open Go.RowKit Go.ChangeShapes Go.WideShapes Go.Deep
theorem qQ {α:Type} {C:Nat} (d:0<C):∀(cells:List (List α)),(∀cs∈cells,cs.length=C)→∀j u,cells.flatten[j]? =some u→∃cs,cells[j/C]? =some cs∧cs[j%C]? =some u:=by
 intro cells
 induction cells with
 |nil=>intro _ j u h;simp at h
 |cons a cells ih=>
  intro c j u h;have ha:a.length=C:=c a (by simp)
  rw[List.flatten_cons,List.getElem?_append] at h
  by_cases hj:j<C
  ·rw[ha,if_pos hj] at h;rw[Nat.div_eq_of_lt hj,Nat.mod_eq_of_lt hj];exact⟨a,rfl,h⟩
  ·rw[ha,if_neg hj] at h;obtain⟨cs,h1,h2⟩:=ih (fun cs b=>c cs (by simp[b])) _ _ h
   obtain⟨i,rfl⟩:∃i,j=i+C:=⟨j-C,by omega⟩
   rw[Nat.add_sub_cancel] at h1 h2;rw[Nat.add_div_right _ d,Nat.add_mod_right];exact⟨cs,by simpa using h1,h2⟩
theorem kD {α β:Type} (f:β→α) (p:β→Prop):∀(l:List α),(∀a∈l,∃b,a=f b∧p b)→∃m:List β,l=m.map f∧∀b∈m,p b:=by
 intro l
 induction l with
 |nil=>intro _;exact⟨[],rfl,by simp⟩
 |cons a l ih=>
  intro h;obtain⟨b,c,d⟩:=h a (by simp)
  obtain⟨m,hm,e⟩:=ih (fun x hx=>h x (by simp[hx]))
  refine⟨b::m,by rw[c,hm];rfl,fun x hx=>?_⟩
  rcases List.mem_cons.mp hx with rfl|hx
  ·exact d
  ·exact e x hx
section
variable {H : Type} {enc : TypeId × Value → H} {P : Program} {w : World} {base : Nat} {spare : Nat → Bool} {held : Bool}
theorem lF {t e:TypeId} {a:Option Addr} {len cap:Nat} {d:DataW H} {p:List MemPlace} (L:P.underlying t=some (.slice e)) (F:0<P.cellsOf e)
  (h:DataW.Trod enc P w base spare held t (.slice a len cap) d p):
  ∃cells:List (List Value),cells.length=len∧len≤cap∧cap≤maxLen∧Rs w a cells.flatten∧∀cs∈cells,cs.length=P.cellsOf e∧∃n y,DataW.trod enc P w base spare held n e cs=some y:=by
 obtain⟨fuel,G⟩:=h;rcases open_slice L G with⟨g,_⟩|⟨x,l,c,m,n,D,Pl,g,_,J,hm,B,_,I⟩
 ·simp[Value.cells] at g;obtain⟨rfl,rfl,rfl⟩:=g;exact⟨[],rfl,bO _,bO _,Rs.nil_,by simp⟩
 ·simp[Value.cells] at g;obtain⟨rfl,rfl,rfl⟩:=g;have K:len≤m:=by rw[B];split<;>omega
  obtain⟨f,r⟩:=choose_lt (n:=len) (p:=fun i s=>w.cells? base (x.add (i*P.cellsOf e)) (P.cellsOf e)=some s∧DataW.trod enc P w base spare held n e s=some (D i,Pl i)) (fun i o=>I i (by omega))
  have q:∀cs∈(List.range len).map f,cs.length=P.cellsOf e:=by
   intro cs g;simp only[List.mem_map,List.mem_range] at g;obtain⟨i,o,rfl⟩:=g;exact(World.cells?_some (r i o).1).2.1
  refine⟨(List.range len).map f,by simp,J,hm,?_,fun cs g=>⟨q cs g,?_⟩⟩
  ·have k:∀j u,((List.range len).map f).flatten[j]? =some u→w.cell? (x.add j)=some u:=by
    intro j u C;obtain⟨cs,h1,h2⟩:=qQ F _ q j u C;have hj:j/P.cellsOf e<len:=by
     have:=(List.getElem?_eq_some_iff.mp h1).1
     simpa using this
    rw[List.getElem?_map,List.getElem?_range hj] at h1;simp at h1;subst h1;have E:=(World.cells?_some (r _ hj).1).2.2 (j%P.cellsOf e) (Nat.mod_lt _ F);rw[add_add,h2,show j/P.cellsOf e*P.cellsOf e+j%P.cellsOf e=j from by rw[Nat.mul_comm];exact Nat.div_add_mod _ _] at E
    exact E
   rcases Nat.eq_zero_or_pos ((List.range len).map f).flatten.length with A|A
   ·exact bX (List.eq_nil_of_length_eq_zero A)
   ·have h1:=k 0 _ (bE A)
    have z:x.spot=none:=by
     have:=World.cell?_spot h1
     simpa [Addr.add] using this
    obtain⟨b,off,_⟩:=x;simp at z;subst z;refine bY ⟨b,off,rfl,fun j u C=>?_⟩
    have:=k j u C
    rwa [Addr.add_lit] at this
  ·simp only[List.mem_map,List.mem_range] at g;obtain⟨i,o,rfl⟩:=g;exact⟨n,_,(r i o).2⟩
theorem o9 {t:TypeId} {k:IntKind} {cs:List Value} {n:Nat} {y:DataW H×List MemPlace} (b:P.underlying t=some (.int k)) (h:DataW.trod enc P w base spare held n t cs=some y):
  ∃x:Int,cs=[.int k x]∧(Lit.int k x).wf=true:=by
 obtain⟨a,ha,_,c⟩:=DataW.trod_int b h;exact⟨a,ha,c⟩
end
end Go.Proofs.YtfchjdnpbgpfpaaGreatDoor
namespace Go.Proofs.YtfchjdnpbgpfpaaGreatDoor
open Go.ChangeShapes Go.WideShapes Go.ChangeAt Go.RowKit
set_option linter.unusedVariables false
namespace Rw
theorem own:ownKnob Tryz.prog.godebug=none:=by kernel_rfl
theorem sa:laidOutB Tryz.prog=true:=by kernel_rfl
theorem u64 {x:Int} (h:(Lit.int .u64 x).wf=true):0≤x∧x≤18446744073709551615:=by
 simp[Lit.wf,IntKind.min,IntKind.max,IntKind.signed,IntKind.bits] at h;exact⟨by omega,by omega⟩
theorem i64 {x:Int} (h:(Lit.int .i64 x).wf=true): -9223372036854775808≤x∧x≤9223372036854775807:=by
 simp[Lit.wf,IntKind.min,IntKind.max,IntKind.signed,IntKind.bits] at h;exact⟨by omega,by omega⟩
theorem u8 {x:Int} (h:(Lit.int .u8 x).wf=true):0≤x∧x≤255:=by
 simp[Lit.wf,IntKind.min,IntKind.max,IntKind.signed,IntKind.bits] at h;exact⟨by omega,by omega⟩
end Rw
end Go.Proofs.YtfchjdnpbgpfpaaGreatDoor
namespace Go.Proofs.YtfchjdnpbgpfpaaGreatDoor
open Go.RowKit Go.Shelf
set_option linter.unusedVariables false
theorem uH {v n:Int} (h:0≤v.tmod n) (hn:1≤n):v.tmod n=v%n:=by
 by_cases a:0≤v
 ·exact Int.tmod_eq_emod_of_nonneg a
 ·have e:=Int.neg_tmod (-v) n
  rw[Int.neg_neg,Int.tmod_eq_emod_of_nonneg (show 0≤ -v by omega)] at e
  have h1:=Int.emod_nonneg (-v) (show n≠0 by omega)
  have h2:(-v)%n=0:=by omega
  rw[e,h2];have b:n ∣ -v:=Int.dvd_of_emod_eq_zero h2;have c:n ∣ v:=by
   have:=Int.dvd_neg.mpr b
   rwa [Int.neg_neg] at this
  rw[Int.emod_eq_zero_of_dvd c];rfl
theorem uI {v n:Int} (h:v.tmod n<0) (hn:1≤n):v.tmod n+n=v%n∧ -n<v.tmod n:=by
 have a:¬0≤v:=by
  intro a;rw[Int.tmod_eq_emod_of_nonneg a] at h;have:=Int.emod_nonneg v (show n≠0 by omega)
  omega
 have e:=Int.neg_tmod (-v) n
 rw[Int.neg_neg,Int.tmod_eq_emod_of_nonneg (show 0≤ -v by omega)] at e
 have h1:=Int.emod_nonneg (-v) (show n≠0 by omega)
 have h2:=Int.emod_lt_of_pos (-v) (show 0<n by omega)
 rw[e] at h ⊢;refine⟨?_,by omega⟩
 have b:v=(n-(-v)%n)+n*(-((-v)/n)-1):=by
  have f:=Int.emod_add_mul_ediv (-v) n
  have d:n*(-((-v)/n)-1)= -(n*((-v)/n))-n:=by rw[Int.mul_sub,Int.mul_neg,Int.mul_one]
  rw[d];generalize n*((-v)/n)=X at *;generalize (-v)%n=Y at *;omega
 have c:v%n=(n-(-v)%n)%n:=by
  conv=>lhs;rw[b]
  rw[Int.add_mul_emod_self_left]
 rw[c];generalize (-v)%n=Y at *;rw[Int.emod_eq_of_lt (by omega) (by omega)]
 omega
theorem yA (v n:Int) (hn:1≤n) (c:n≤9223372036854775807) (w:World):
  Calls Tryz.prog 17 #[.int .i64 v,.int .i64 n] w fun e w'=>e= .returned (.int .i64 (v%n))∧w=w':=by
 by_cases h:v.tmod n<0
 ·obtain⟨e,_⟩:=uI h hn;have b:(n==0)=false:=by simp;omega
  rw[←e];clear e;go_enter Tryz.func17,Tryz.ntmps17;go_wp2;go_ret;exact⟨rfl,rfl⟩
 ·have a:0≤v.tmod n:=by omega
  have e:=uH a hn
  have b:(n==0)=false:=by simp;omega
  rw[←e];clear e h;go_enter Tryz.func17,Tryz.ntmps17;go_wp2;go_ret;exact⟨rfl,rfl⟩
theorem pG {a w:World} {row:Option Nat} (h:a.grownBy w row) (n:Nat):a.grownBy (w.drewN n) row:=⟨h.os,h.tape,h.output,h.size,h.block⟩
theorem fF {a w w':World} {row:Option Nat} (h:a.grownBy w row) (k:Old w w'):a.grownBy w' row:=
 h.trans ⟨k.out.os,k.out.tape,k.out.output,k.out.size,fun i b _=>k.out.block i b⟩
def bytes (l:List UInt8):List Value:=l.map fun b=> .int .u8 (b.toNat:Int)
def aY (l:List Int):List Value:=l.map (Value.int .i64)
theorem eZ (l:List Int):(aY l).length=l.length:=by simp[aY]
theorem jA (l:List Int) (i:Nat) (h:i<l.length):(aY l)[i]? =some (.int .i64 (l.getD i 0)):=by
 simp[aY,List.getElem?_map,bE h,bD]
def nx (l:List Int) (n:Int):Int×List Int:=match l with|[]=>(0,[])|v::r=>(v%n,r)
theorem fQ (l:List Int) {n:Int} (hn:1≤n):0≤(nx l n).1∧(nx l n).1<n:=by
 cases l with
 |nil=>exact⟨Int.le_refl _,by show(0:Int)<n;omega⟩
 |cons v r=>exact⟨Int.emod_nonneg _ (by omega),Int.emod_lt_of_pos _ (by omega)⟩
def Dk (w:World) (B g:Nat) (l:List Int):Prop:=
 B≤g∧∃(A:Option Addr) (c:Nat) (at_:Nat) (full:List Int),w.heap[g]? =some (.cells #[.slice A full.length c,.int .i64 at_] 64 (0,0))∧at_≤full.length∧full.length≤maxLen∧l=full.drop at_∧
  (full=[]∨∃b off,A=some ⟨b,off,none⟩∧b<B∧∀j u,(aY full)[j]? =some u→w.cell? ⟨b,off+j,none⟩=some u)
theorem Dk.lt {w:World} {B g:Nat} {l:List Int} (h:Dk w B g l):g<w.heap.size:=by
 obtain⟨_,A,c,at_,full,h1,_⟩:=h;exact aQ h1
theorem Dk.up {w w':World} {B g:Nat} {l:List Int} (h:Dk w B g l) (e:Old w w'):Dk w' B g l:=by
 obtain⟨f,A,c,at_,full,h1,h2,i,k,a⟩:=h;refine⟨f,A,c,at_,full,e.block h1,h2,i,k,?_⟩;rcases a with a|⟨b,off,m,d,hc⟩
 ·exact bX a
 ·exact bY ⟨b,off,m,d,fun j u n=>e.cell (hc j u n)⟩
theorem Dk.far {w w':World} {B g:Nat} {l:List Int} (h:Dk w B g l) {row:Option Nat} (f:w.grownBy w' row) (hne:row≠some g) (hB:∀k,row=some k→B≤k):Dk w' B g l:=by
 obtain⟨i,A,c,at_,full,h1,h2,m,n,a⟩:=h;refine⟨i,A,c,at_,full,(f.block g (aQ h1) (fun e=>hne e.symm)).trans h1,h2,m,n,?_⟩
 rcases a with a|⟨b,off,o,d,hc⟩
 ·exact bX a
 ·exact bY ⟨b,off,o,d,fun j u p=>f.cell (hc j u p) (fun e=>by have:=hB b e.symm;omega)⟩
theorem Dk.push {w w':World} {B g:Nat} {l:List Int} (h:Dk w B g l) {base size n:Nat} {e:TypeId} {v:Value} {xs:List Value} (a:Own w base e size v n xs) (hne:e≠64) (hB:B≤base) (d:w.grownBy w' v.ownBlock):Dk w' B g l:=by
 refine h.far d ?_ (fun k hk=>bN hB (bU a k hk).1)
 intro hk;obtain⟨_,A,c,at_,full,h1,_⟩:=h;rcases a with⟨_,⟨rfl,_⟩|⟨i,cap,f,rfl,_,b,_⟩⟩
 ·simp[Value.ownBlock] at hk
 ·simp[Value.ownBlock] at hk;subst hk;rw[b] at h1;simp at h1;exact hne h1.2
theorem Dk.own {w w':World} {B g:Nat} {l:List Int} (h:Dk w B g l) (d:w.grownBy w' (some g)) {base size n:Nat} {e:TypeId} {v:Value} {xs:List Value} (a:Own w base e size v n xs) (hne:e≠64):Own w' base e size v n xs:=by
 obtain⟨_,A,c,at_,full,h1,_⟩:=h;refine bT a d ?_;rcases a with⟨_,⟨rfl,_⟩|⟨i,cap,f,rfl,_,b,_⟩⟩
 ·exact bX rfl
 ·refine bY ?_;intro hk;simp[Value.ownBlock] at hk;subst hk;rw[b] at h1;simp at h1;exact hne h1.2
theorem Dk.ts {w w':World} {B g:Nat} {l:List Int} (h:Dk w B g l) (d:w.grownBy w' (some g)) {e:TypeId} {A:Option Addr} {xs:List Value} (f:Ts w e A xs) (hne:e≠64):Ts w' e A xs:=by
 obtain⟨_,A',c,at_,full,h1,_⟩:=h;rcases f with rfl|⟨b,off,cur,fz,rfl,a,hc⟩
 ·exact Ts.nil_
 ·refine bY ⟨b,off,cur,fz,rfl,?_,hc⟩;rw[d.block b (aQ a) ?_]
  ·exact a
  ·intro hk;injection hk with hk
   subst hk;rw[a] at h1;simp at h1;exact hne h1.2.1
theorem Dk.old {w0 w w':World} {g:Nat} (a:Old w0 w) (b:w.grownBy w' (some g)) (c:w0.heap.size≤g):Old w0 w':=
 Below.grown a b a.size (by intro k hk;injection hk with hk;omega)
theorem yy (A:Option Addr) (c:Nat) (l:List Int) (w:World) (i:Rs w A (aY l)) (hm:l.length≤maxLen):
  Calls Tryz.prog 5 #[.slice A l.length c] w fun e w'=>e= .returned (.pointer (some ⟨w.heap.size,0,none⟩))∧Dk w' w.heap.size w.heap.size l∧Old w w':=by
 go_enter Tryz.func5,Tryz.ntmps5
 go_wp2_with fail;go_ret;refine⟨rfl,⟨bM _,A,c,0,l,aM w _,bO _,hm,rfl,?_⟩,(Old.refl w).alloc _⟩;rcases (i.alloc (.cells #[.slice A l.length c,.int .i64 0] 64)) with h|⟨b,off,g,hc⟩
 ·left;simpa [aY] using h
 ·rcases Nat.eq_zero_or_pos l.length with d|d
  ·left;exact List.eq_nil_of_length_eq_zero d
  ·obtain⟨_,_,a,f,_⟩:=i.at_ (by rw[eZ];exact d)
   rw[g] at a;simp only[Option.some.injEq,Addr.mk.injEq,and_true] at a;obtain⟨rfl,rfl⟩:=a;exact bY ⟨b,off,g,f,hc⟩
theorem vF (B g:Nat) (l:List Int) (w:World) (h:Dk w B g l):
  Calls Tryz.prog 16 #[.pointer (some ⟨g,0,none⟩)] w fun e w'=>e= .returned (.bool (!l.isEmpty))∧∃k,w'=w.drewN k:=by
 obtain⟨_,A,c,at_,full,h1,h2,d,rfl,_⟩:=h;unfold maxLen at d;have f:w.cell? ⟨g,0,none⟩=some (.slice A full.length c):=by rw[aK w g 0 _ _ _ h1];rfl
 have c1:w.cell? ⟨g,1,none⟩=some (.int .i64 at_):=by rw[aK w g 1 _ _ _ h1];rfl
 have a:(!(full.drop at_).isEmpty)=decide (at_<full.length):=by
  by_cases b:at_<full.length
  ·have:full.drop at_≠[]:=by simp;omega
   simp[b]
  ·simp[b];omega
 rw[a];clear a h1;go_enter Tryz.func16,Tryz.ntmps16;go_wp2_with fail;go_quiet (fail);go_wp2_with fail;go_ret;exact⟨rfl,_,rfl⟩
def pV (w:World) (B g:Nat) (r:Int×List Int) (e:Ending) (w':World):Prop:=e= .returned (.int .i64 r.1)∧Dk w' B g r.2∧w.grownBy w' (some g)
theorem du (B g:Nat) (l:List Int) (n:Int) (w:World) (h:Dk w B g l) (hn:1≤n) (E:n≤9223372036854775807):
  Calls Tryz.prog 7 #[.pointer (some ⟨g,0,none⟩),.int .i64 n] w (pV w B g (nx l n)):=by
 have m:=vF B g l w h
 obtain⟨G,A,c,at_,full,h1,h2,H,rfl,y⟩:=h;have o:=H;unfold maxLen at H
 by_cases q:at_<full.length
 ·have i:(!(full.drop at_).isEmpty)=true:=by
   have:full.drop at_≠[]:=by simp;omega
   simp;omega
  rw[i] at m;have s:=aJ m;have r:nx (full.drop at_) n=((full.getD at_ 0)%n,full.drop (at_+1)):=by
   rw[List.drop_eq_getElem_cons q,bD,bE q];rfl
  rw[r];have I:full≠[]:=by intro h;rw[h] at q;simp at q
  obtain⟨b,off,rfl,D,hc⟩:=y.resolve_left I;have p:b≠g:=by omega
  have hx:=hc _ _ (jA full at_ q)
  have L:=aQ h1
  have K:w.cell? ⟨g,0,none⟩=some (.slice (some ⟨b,off,none⟩) full.length c):=by rw[aK w g 0 _ _ _ h1];rfl
  have c1:w.cell? ⟨g,1,none⟩=some (.int .i64 at_):=by rw[aK w g 1 _ _ _ h1];rfl
  have f1:w.frozen? ⟨g,1,none⟩=false:=aN w g 1 _ _ h1
  have f:=aO w g 1 _ _ (.int .i64 ((at_:Int)+1)) h1
  have a:w.grownBy (w.setCell ⟨g,1,none⟩ (.int .i64 ((at_:Int)+1))) (some g):=
   ⟨rfl,rfl,rfl,by simp,fun k _ hk=>aL w ⟨g,1,none⟩ k _ (fun e=>hk (by simp[e]))⟩
  have F:=aJ hc
  have t:=aJ f
  have J:=aJ i
  clear i m r I hc f y;generalize full.getD at_ 0=x at *;go_enter Tryz.func7,Tryz.ntmps7;go_wp2_with fail;refine(s.out).mono ?_;rintro e w' ⟨rfl,d,rfl⟩;go_wp2_with fail;have O:((w.drewN d).setCell ⟨g,1,none⟩ (.int .i64 ((at_:Int)+1))).cell? ⟨g,0,none⟩=some (.slice (some ⟨b,off,none⟩) full.length c):=by
   rw[aK _ g 0 _ _ _ (show((w.drewN d).setCell ⟨g,1,none⟩ (.int .i64 ((at_:Int)+1))).heap[g]? =_ from t.out)];rfl
  have P:((w.drewN d).setCell ⟨g,1,none⟩ (.int .i64 ((at_:Int)+1))).cell? ⟨g,1,none⟩=some (.int .i64 ((at_:Int)+1)):=by
   rw[aK _ g 1 _ _ _ (show((w.drewN d).setCell ⟨g,1,none⟩ (.int .i64 ((at_:Int)+1))).heap[g]? =_ from t.out)];rfl
  have Q:((w.drewN d).setCell ⟨g,1,none⟩ (.int .i64 ((at_:Int)+1))).cell? ⟨b,off+at_,none⟩=some (.int .i64 x):=by
   rw[World.cell?_setCell_other _ _ _ _ (by intro h;injection h with h;exact p h.symm)];exact hx
  have z:Dk ((w.drewN d).setCell ⟨g,1,none⟩ (.int .i64 ((at_:Int)+1))) B g (full.drop (at_+1)):=by
   refine⟨G,some ⟨b,off,none⟩,c,at_+1,full,t.out,by omega,o,rfl,bY ⟨b,off,rfl,D,fun j u M=>?_⟩⟩
   rw[World.cell?_setCell_other _ _ _ _ (by intro h;injection h with h;exact p h.symm)];exact F.out j u M
  have C:w.grownBy ((w.drewN d).setCell ⟨g,1,none⟩ (.int .i64 ((at_:Int)+1))) (some g):=⟨a.os,a.tape,a.output,a.size,a.block⟩
  have N:IntKind.i64.wrap ((at_:Int)+1-1)=(at_:Int):=by rw[bV _ (by omega)];omega
  have R:(0:Int)≤(at_:Int):=by omega
  have S:(at_:Int)<(full.length:Int):=by omega
  clear h1 K c1 hx f1 a F t J s;generalize (w.drewN d).setCell ⟨g,1,none⟩ (.int .i64 ((at_:Int)+1))=W at *;go_quiet ((go_at_call 17;exact gJ (yA x n hn E _)));clear N;go_wp2_with fail;go_ret;exact⟨rfl,z,pG C _⟩
 ·have i:full.drop at_=[]:=List.drop_eq_nil_of_le (by omega)
  rw[i] at m;rw[i];have s:=aJ m;clear m;go_enter Tryz.func7,Tryz.ntmps7;go_wp2_with fail;refine(s.out).mono ?_;rintro e w' ⟨rfl,d,rfl⟩;go_wp2_with fail;go_ret;exact⟨rfl,⟨G,A,c,at_,full,h1,h2,o,i.symm,y⟩,⟨rfl,rfl,rfl,bM _,fun _ _ _=>rfl⟩⟩
theorem gi (B g:Nat) (l:List Int) (lo a:Int) (w:World) (h:Dk w B g l) (j:0≤lo) (h1:lo≤a) (h2:a≤1000000):
  Calls Tryz.prog 14 #[.pointer (some ⟨g,0,none⟩),.int .i64 lo,.int .i64 a] w (pV w B g (lo+(nx l (a-lo+1)).1,(nx l (a-lo+1)).2)):=by
 have c:=du B g l (a-lo+1) w h (by omega) (by omega)
 have b:=fQ l (show 1≤a-lo+1 by omega)
 have d:=aJ c
 clear c;generalize nx l (a-lo+1)=r at *;obtain⟨_,b1⟩:=b;go_enter Tryz.func14,Tryz.ntmps14;go_wp2_with fail;refine(d.out).mono ?_;rintro e w' ⟨rfl,f,i⟩;go_wp2_with fail;go_ret;exact⟨rfl,f,i⟩
end Go.Proofs.YtfchjdnpbgpfpaaGreatDoor
namespace Go.Proofs.YtfchjdnpbgpfpaaGreatDoor
open Go.ChangeShapes Go.WideShapes Go.ChangeAt Go.RowKit Rw
set_option linter.unusedVariables false
theorem jD {α:Type} (f:α→Value) (l:List α):(l.map fun x=>[f x]).flatten=l.map f:=by
 induction l with
 |nil=>rfl
 |cons x l ih=>simp only[List.map_cons,List.flatten_cons,ih];rfl
theorem tu {H:Type} {enc:TypeId×Value→H} {w:World} {base:Nat} {spare:Nat→Bool} {held:Bool} {a:Option Addr} {len cap:Nat} {d:DataW H} {p:List MemPlace}
  (h:DataW.Trod enc Tryz.prog w base spare held 22 (.slice a len cap) d p):
  ∃l:List Int,l.length=len∧len≤maxLen∧Rs w a (aY l):=by
 obtain⟨cells,e,_,_,c,hc⟩:=lF Tryz.underlying22 (show 0<Tryz.prog.cellsOf 3 by decide+kernel) h
 obtain⟨l,rfl,_⟩:=kD (fun x:Int=>[Value.int .i64 x]) (fun _=>True) cells (fun cs b=>by
  obtain⟨_,n,y,hy⟩:=hc cs b;obtain⟨x,h1,h2⟩:=o9 Tryz.underlying3 hy;exact⟨x,h1,trivial⟩)
 refine⟨l,by simpa using e,by omega,?_⟩
 rw[jD] at c;exact c
end Go.Proofs.YtfchjdnpbgpfpaaGreatDoor
namespace Go.Proofs.YtfchjdnpbgpfpaaGreatDoor
open Go.RowKit Go.Shelf
set_option linter.unusedVariables false
namespace Tk
def M:Int:=18446744073709551615
def U (x:Int):Prop:=0≤x∧x≤18446744073709551615
def add (a b:Int):Int:=if a+b≤18446744073709551615 then a+b else 18446744073709551615
def sub (a b:Int):Int:=if a<b then 0 else a-b
def dblN:Nat→Int→Int
 |0,a=>a
 |n+1,a=>dblN n (add a a)
def dbl (a n:Int):Int:=dblN n.toNat a
def low (a b:Int):Int:=if b<a then b else a
def delay (base a n jitter:Int):Int:=add (low a (dbl base n)) jitter
theorem U_add {a b:Int} (ha:U a) (c:U b):U (add a b):=by
 unfold U add at *;split<;>omega
theorem U_dblN (n:Nat):∀{a:Int},U a→U (dblN n a):=by
 induction n with
 |zero=>intro a h;exact h
 |succ n ih=>intro a h;exact ih (U_add h h)
theorem U_dbl {a:Int} (n:Int) (h:U a):U (dbl a n):=U_dblN _ h
theorem U_low {a b:Int} (ha:U a) (c:U b):U (low a b):=by
 unfold U low at *;split<;>omega
theorem U_delay {a b c:Int} (n:Int) (ha:U a) (d:U b) (hc:U c):U (delay a b n c):=U_add (U_low d (U_dbl n ha)) hc
theorem sx (n:Nat):∀{a:Int},U a→dblN n a=if a*2^n≤18446744073709551615 then a*2^n else 18446744073709551615:=by
 induction n with
 |zero=>intro a h;unfold U at h;simp[dblN];omega
 |succ n ih=>
  intro a h;have c:(1:Int)≤2^n:=by
   have:=Int.pow_pos (n:=2) (m:=n) (by omega)
   omega
  rw[dblN,ih (U_add h h)];have e:a*2^(n+1)=(a+a)*2^n:=by rw[Int.pow_succ,Int.add_mul,←Int.mul_assoc];omega
  rw[e];unfold U at h;unfold add
  by_cases h1:a+a≤18446744073709551615
  ·rw[if_pos h1]
  ·rw[if_neg h1];have h2:(18446744073709551615:Int)*1≤18446744073709551615*2^n:=Int.mul_le_mul_of_nonneg_left c (by omega)
   have f:(a+a)*1≤(a+a)*2^n:=Int.mul_le_mul_of_nonneg_left c (by omega)
   have d:¬(a+a)*2^n≤18446744073709551615:=by omega
   rw[if_neg d]
   by_cases b:(18446744073709551615:Int)*2^n≤18446744073709551615
   ·rw[if_pos b];omega
   ·rw[if_neg b]
theorem mY (n:Nat):dblN n 0=0:=by
 induction n with
 |zero=>rfl
 |succ n ih=>exact ih
theorem wG (n:Nat):dblN n 18446744073709551615=18446744073709551615:=by
 induction n with
 |zero=>rfl
 |succ n ih=>
  have:add 18446744073709551615 18446744073709551615=18446744073709551615:=rfl
  rw[dblN,this];exact ih
theorem pM (n m:Nat):∀a:Int,dblN (n+m) a=dblN m (dblN n a):=by
 induction n with
 |zero=>intro a;simp[dblN]
 |succ n ih=>intro a;rw[Nat.succ_add,dblN,ih];rfl
theorem dblN_succ (n:Nat) (a:Int):dblN (n+1) a=add (dblN n a) (dblN n a):=by
 rw[pM n 1 a];rfl
theorem mo:∀(f x:Nat),x<2^f→x≠0→1≤Lib.bitLenAux f x∧2^(Lib.bitLenAux f x-1)≤x∧x<2^Lib.bitLenAux f x∧Lib.bitLenAux f x≤f:=by
 intro f
 induction f with
 |zero=>intro x h a;simp at h;omega
 |succ f ih=>
  intro x h a;rw[Lib.bitLenAux,if_neg a]
  by_cases h1:x/2=0
  ·have hx:x=1:=by omega
   subst hx;have hz:Lib.bitLenAux f 0=0:=by cases f<;>simp[Lib.bitLenAux]
   have:(1:Nat)/2=0:=rfl
   rw[this,hz];simp
  ·obtain⟨a1,a2,a3,_⟩:=ih (x/2) (by rw[Nat.pow_succ] at h;omega) h1
   generalize Lib.bitLenAux f (x/2)=L at *;obtain⟨l,rfl⟩:∃l,L=l+1:=⟨L-1,by omega⟩
   have b:1+(l+1)-1=l+1:=by omega
   have c:l+1-1=l:=by omega
   rw[b];rw[c] at a2;have d:(2:Nat)^(1+(l+1))=2*2^(l+1):=by rw[Nat.add_comm,Nat.pow_succ];omega
   have e:(2:Nat)^(l+1)=2*2^l:=by rw[Nat.pow_succ];omega
   rw[d];omega
theorem iT {a:Int} (h:U a) (d:¬a=0):1≤Lib.bitLen a.toNat∧(2:Int)^(Lib.bitLen a.toNat-1)≤a∧a<(2:Int)^Lib.bitLen a.toNat∧Lib.bitLen a.toNat≤64:=by
 obtain⟨h1,h2⟩:=h;obtain⟨n,rfl⟩:=Int.eq_ofNat_of_zero_le h1;have b:=mo 64 n (by omega) (by omega)
 have c:=b.2.2.2
 rw[Int.toNat_natCast];refine⟨b.1,?_,?_,c⟩
 ·have:=b.2.1
  exact_mod_cast this
 ·have:=b.2.2.1
  exact_mod_cast this
theorem dbl_big {a n:Int} (h:U a) (c:¬a=0) (hn:64-(Lib.bitLen a.toNat:Int)<n):dbl a n=18446744073709551615:=by
 obtain⟨b1,b2,b3,b4⟩:=iT h c;unfold dbl;rw[sx n.toNat h,if_neg ?_];have hk:65-Lib.bitLen a.toNat≤n.toNat:=by omega
 have b:(2:Int)^(65-Lib.bitLen a.toNat)≤2^n.toNat:=by
  have:=Nat.pow_le_pow_right (n:=2) (by omega) hk
  exact_mod_cast this
 have e:(2:Int)^(Lib.bitLen a.toNat-1)*2^(65-Lib.bitLen a.toNat)=18446744073709551616:=by
  rw[←Int.pow_add,show Lib.bitLen a.toNat-1+(65-Lib.bitLen a.toNat)=64 from by omega];rfl
 have d:(0:Int)≤2^(65-Lib.bitLen a.toNat):=Int.le_of_lt (Int.pow_pos (by omega))
 have f:=Int.mul_le_mul_of_nonneg_right b2 d
 have g:=Int.mul_le_mul_of_nonneg_left b h.1
 omega
theorem dbl_fit {a n:Int} (h:U a) (e:¬a=0) (h1:0<n) (hn:n≤64-(Lib.bitLen a.toNat:Int)):a*2^n.toNat=dbl a n∧U (a*2^n.toNat):=by
 obtain⟨b1,b2,b3,b4⟩:=iT h e;have hk:n.toNat≤64-Lib.bitLen a.toNat:=by omega
 have c:(2:Int)^n.toNat≤2^(64-Lib.bitLen a.toNat):=by
  have:=Nat.pow_le_pow_right (n:=2) (by omega) hk
  exact_mod_cast this
 have g:(2:Int)^Lib.bitLen a.toNat*2^(64-Lib.bitLen a.toNat)=18446744073709551616:=by
  rw[←Int.pow_add,show Lib.bitLen a.toNat+(64-Lib.bitLen a.toNat)=64 from by omega];rfl
 have f:(0:Int)<2^(64-Lib.bitLen a.toNat):=Int.pow_pos (by omega)
 have i:=Int.mul_lt_mul_of_pos_right b3 f
 have j:=Int.mul_le_mul_of_nonneg_left c h.1
 have d:0≤a*2^n.toNat:=Int.mul_nonneg h.1 (Int.le_of_lt (Int.pow_pos (by omega)))
 have b:U (a*2^n.toNat):=⟨d,by omega⟩
 refine⟨?_,b⟩;unfold dbl;rw[sx n.toNat h,if_pos b.2]
theorem dbl_low {a n:Int} (hn:n≤0):dbl a n=a:=by
 unfold dbl;rw[Int.toNat_of_nonpos hn];rfl
theorem dbl_zero (n:Int):dbl 0 n=0:=mY _
theorem pL {a n:Int} (k:Nat) (hk:(k:Int)≤max n 0):dbl a n=dblN (n.toNat-k) (dblN k a):=by
 unfold dbl;rw[←pM,show k+(n.toNat-k)=n.toNat by omega]
theorem dbl_end {a n:Int} (k:Nat) (hk:(k:Int)≤max n 0) (b:¬(k:Int)<n):dblN k a=dbl a n:=by
 unfold dbl;rw[show n.toNat=k by omega]
theorem dbl_end0 {a n:Int} (k:Nat) (hk:(k:Int)≤max n 0) (h:dblN k a=0):dbl a n=0:=by
 rw[pL k hk,h,mY]
theorem dbl_endM {a n:Int} (k:Nat) (hk:(k:Int)≤max n 0) (h:dblN k a=18446744073709551615):dbl a n=18446744073709551615:=by
 rw[pL k hk,h,wG]
theorem low_eq {a b:Int}:low a b=min a b:=by unfold low;split<;>omega
end Tk
namespace Ld
def next (l:List (Int×Int)) (a at_:Int):Int×Int×Bool:=
 if a<0∨(l.length:Int)<a then(0,0,false)
 else if a=l.length then(9,0,false)
 else((l.getD a.toNat (0,0)).1,Tk.add at_ (l.getD a.toNat (0,0)).2,true)
def upTo (l:List (Int×Int)) (a:Int):Nat→List (Int×Int)×Int
 |0=>([],a)
 |k+1=>let p:=upTo l a k;(p.1++[(p.2,(next l k p.2).1)],(next l k p.2).2.1)
def Ok (l:List (Int×Int)):Prop:=∀i,Tk.U (l.getD i (0,0)).2
theorem next_out {l:List (Int×Int)} {a at_:Int} (h:a<0∨(l.length:Int)<a):next l a at_=(0,0,false):=by
 unfold next;rw[if_pos h]
theorem next_end {l:List (Int×Int)} {at_:Int}:next l l.length at_=(9,0,false):=by
 unfold next;rw[if_neg (by omega),if_pos rfl]
theorem next_in {l:List (Int×Int)} {a at_:Int} (b:0≤a) (h1:a<l.length):next l a at_=((l.getD a.toNat (0,0)).1,Tk.add at_ (l.getD a.toNat (0,0)).2,true):=by
 unfold next;rw[if_neg (by omega),if_neg (by omega)]
theorem U_next {l:List (Int×Int)} (h:Ok l) (a:Int) {at_:Int} (ha:Tk.U at_):Tk.U (next l a at_).2.1:=by
 unfold next;split
 ·exact⟨by decide,by decide⟩
 ·split
  ·exact⟨by decide,by decide⟩
  ·exact Tk.U_add ha (h _)
end Ld
namespace Bu
def trim (l:List Int) (now win:Int):List Int:=l.filter fun t=>decide (Tk.sub now t<win)
def allow (l:List Int) (most now win:Int):List Int×Bool:=
 if((trim l now win).length:Int)<most then(trim l now win++[now],true) else(trim l now win,false)
theorem uG {l:List Int} (h:∀t∈l,Tk.U t) (now win:Int):∀t∈trim l now win,Tk.U t:=fun t a=>h t (List.mem_filter.mp a).1
theorem trim_le (l:List Int) (now win:Int):(trim l now win).length≤l.length:=List.length_filter_le _ _
theorem allow_yes {l:List Int} {most now win:Int} (h:((trim l now win).length:Int)<most):allow l most now win=(trim l now win++[now],true):=by unfold allow;rw[if_pos h]
theorem allow_no {l:List Int} {most now win:Int} (h:¬((trim l now win).length:Int)<most):allow l most now win=(trim l now win,false):=by unfold allow;rw[if_neg h]
theorem allow_U {l:List Int} (h:∀t∈l,Tk.U t) {most now win:Int} (hn:Tk.U now):∀t∈(allow l most now win).1,Tk.U t:=by
 intro t a
 by_cases hc:((trim l now win).length:Int)<most
 ·rw[allow_yes hc,List.mem_append] at a;rcases a with a|a
  ·exact uG h _ _ t a
  ·simp at a;subst a;exact hn
 ·rw[allow_no hc] at a;exact uG h _ _ t a
theorem allow_le (l:List Int) (most now win:Int):(allow l most now win).1.length≤l.length+1:=by
 have:=trim_le l now win
 by_cases hc:((trim l now win).length:Int)<most
 ·rw[allow_yes hc];simp;omega
 ·rw[allow_no hc];simp only;omega
def vi (most win:Int) (l:List Int):Nat→List Int×Int×List Bool
 |0=>([],0,[])
 |k+1=>let p:=vi most win l k
  ((allow p.1 most (max p.2.1 (l.getD k 0)) win).1,max p.2.1 (l.getD k 0),p.2.2++[(allow p.1 most (max p.2.1 (l.getD k 0)) win).2])
def play (most win:Int) (l:List Int):List Bool:=(vi most win l l.length).2.2
theorem max_U {a b:Int} (ha:Tk.U a) (c:Tk.U b):Tk.U (max a b):=by
 unfold Tk.U at *;omega
def keepTo (q:Int→Bool) (l:List Int) (j:Nat):List Int:=(l.take j).filter q
def now_ (q:Int→Bool) (l:List Int) (j:Nat):List Int:=keepTo q l j++l.drop (keepTo q l j).length
theorem keepTo_le (q:Int→Bool) (l:List Int) (j:Nat):(keepTo q l j).length≤j:=by
 unfold keepTo;have:=List.length_filter_le q (l.take j);have:=List.length_take_le j l;omega
theorem keepTo_le' (q:Int→Bool) (l:List Int) (j:Nat):(keepTo q l j).length≤l.length:=by
 unfold keepTo;have:=List.length_filter_le q (l.take j);simp at this;omega
theorem keepTo_lt {q:Int→Bool} {l:List Int} {k j:Nat} (hk:k<j) (hj:j≤l.length) (a:q (l.getD k 0)=false):(keepTo q l j).length<j:=by
 have h:(keepTo q l j).length<(l.take j).length:=by
  unfold keepTo;rw[List.length_filter_lt_length_iff_exists];refine⟨l.getD k 0,?_,by rw[a];simp⟩
  rw[bD,bE (by omega),List.mem_take_iff_getElem]
  exact⟨k,by omega,rfl⟩
 have:=List.length_take_le j l
 omega
theorem now_length (q:Int→Bool) (l:List Int) (j:Nat):(now_ q l j).length=l.length:=by
 have:=keepTo_le' q l j
 simp[now_];omega
theorem mz (l:List Int) (j:Nat) (h:j<l.length):l.take (j+1)=l.take j++[l.getD j 0]:=by
 rw[List.take_succ_eq_append_getElem h,bD,bE h];rfl
theorem now_get (q:Int→Bool) (l:List Int) (j:Nat) (h:j<l.length):(now_ q l j).getD j 0=l.getD j 0:=by
 have h1:=keepTo_le q l j
 rw[bD,now_,List.getElem?_append_right h1,List.getElem?_drop,bD]
 congr 2;omega
theorem keepTo_yes {q:Int→Bool} {l:List Int} {j:Nat} (h:j<l.length) (a:q (l.getD j 0)=true):keepTo q l (j+1)=keepTo q l j++[l.getD j 0]:=by
 unfold keepTo;rw[mz l j h,List.filter_append];generalize l.getD j 0=x at *;simp[a]
theorem keepTo_no {q:Int→Bool} {l:List Int} {j:Nat} (h:j<l.length) (a:q (l.getD j 0)=false):keepTo q l (j+1)=keepTo q l j:=by
 unfold keepTo;rw[mz l j h,List.filter_append];generalize l.getD j 0=x at *;simp[a]
theorem now_yes {q:Int→Bool} {l:List Int} {j:Nat} (h:j<l.length) (a:q (l.getD j 0)=true):(now_ q l j).set (keepTo q l j).length (l.getD j 0)=now_ q l (j+1):=by
 have h1:=keepTo_le q l j
 unfold now_;have h2:l.drop (keepTo q l j).length=l[(keepTo q l j).length]'(by omega)::l.drop ((keepTo q l j).length+1):=List.drop_eq_getElem_cons (by omega)
 rw[keepTo_yes h a,List.set_append_right _ _ (bM _),Nat.sub_self,h2,List.set_cons_zero,List.append_assoc,bF];rfl
theorem now_no {q:Int→Bool} {l:List Int} {j:Nat} (h:j<l.length) (a:q (l.getD j 0)=false):now_ q l j=now_ q l (j+1):=by
 unfold now_;rw[keepTo_no h a]
theorem keepTo_all (q:Int→Bool) (l:List Int):keepTo q l l.length=l.filter q:=by unfold keepTo;rw[List.take_length]
theorem keepTo_start {q:Int→Bool} {l:List Int} {k:Nat} (h:k<l.length) (d:q (l.getD k 0)=false) (a:∀j,j<k→q (l.getD j 0)=true):keepTo q l (k+1)=l.take k:=by
 rw[keepTo_no h d];unfold keepTo;rw[List.filter_eq_self];intro x hx;obtain⟨i,c,rfl⟩:=List.mem_iff_getElem.mp hx;have b:i<k:=by simp at c;omega
 have:=a i b
 rw[bD,bE (by omega)] at this
 simpa using this
theorem now_start {q:Int→Bool} {l:List Int} {k:Nat} (h:k<l.length) (b:q (l.getD k 0)=false) (a:∀j,j<k→q (l.getD j 0)=true):now_ q l (k+1)=l:=by
 unfold now_;rw[keepTo_start h b a,List.length_take,Nat.min_eq_left (by omega),List.take_append_drop]
theorem now_take (q:Int→Bool) (l:List Int) (j:Nat):(now_ q l j).take (keepTo q l j).length=keepTo q l j:=by unfold now_;exact List.take_left
theorem filter_all {q:Int→Bool} {l:List Int} (a:∀j,j<l.length→q (l.getD j 0)=true):l.filter q=l:=by
 rw[List.filter_eq_self];intro x hx;obtain⟨i,b,rfl⟩:=List.mem_iff_getElem.mp hx;have:=a i b;rw[bD,bE b] at this;simpa using this
end Bu
namespace Lf
structure T where
 ph:Int
 inc:Int
 runs:Int
 since:Int
 times:List Int
 due:Int
 armed:Bool
 rung:Int
 halt:Bool
 again:Bool
structure J where
 restart:Int
 base:Int
 cap:Int
 stable:Int
 burst:Int
 win:Int
 lad:List (Int×Int)
def new:T:=⟨1,0,0,0,[],0,false,0,false,false⟩
def rest (x:T) (p:Int):T:={x with ph:=p,due:=0,rung:=0,armed:=false,halt:=false,again:=false}
def spawn (x:T):T×Bool:=if x.ph=1 then({x with ph:=2,inc:=wrap64 (x.inc+1)},true) else(x,false)
def ended (x:T):T:=if x.again=true then rest {x with runs:=0} 1 else rest x 9
def climb (j:J) (x:T) (now:Int):T×Int:=
 let r:=Ld.next j.lad x.rung now
 ({x with due:=r.2.1,armed:=r.2.2,rung:=wrap64 (x.rung+1)},r.1)
def halt_ (j:J) (x:T) (now:Int):T×Int:=climb j {x with ph:=6,rung:=0} now
def over (j:J) (x:T) (now jit:Int):T×Bool:=
 let r:=Bu.allow x.times j.burst now j.win
 if r.2=true then({x with times:=r.1,ph:=5,due:=Tk.add now (Tk.delay j.base j.cap x.runs jit),runs:=wrap64 (x.runs+1)},true)
 else(rest {x with times:=r.1} 8,false)
def unb (j:J) (x:T) (now jit:Int):T×Bool:=if x.halt=true then(ended x,false) else if j.restart=1 then(rest x 8,false) else over j x now jit
def spawned (j:J) (x:T) (ok ready:Bool) (now jit:Int):T×Int×Bool:=
 if x.ph≠2 then(x,0,false)
 else if ok=false then
  if x.halt=true then(ended x,0,false)
  else if j.restart=1 then(rest x 8,0,false)
  else((over j x now jit).1,0,(over j x now jit).2)
 else if x.halt=true then((halt_ j {x with since:=now} now).1,(halt_ j {x with since:=now} now).2,false)
 else({x with since:=now,ph:=if ready=true then 4 else 3},0,false)
def matched (x:T):T:=if x.ph=3 then {x with ph:=4} else x
def exit (j:J) (x:T) (code now jit:Int):T×Bool:=
 if x.ph=3∨x.ph=4 then
  let y:T:=if j.stable≤Tk.sub now x.since then {x with runs:=0} else x
  if j.restart=3∨j.restart=2∧code≠0 then over j y now jit
  else if code=0 then(rest y 7,false) else(rest y 8,false)
 else if x.ph=6 then(ended x,false)
 else(x,false)
def fire (j:J) (x:T):T×Int:=
 if x.ph=5 then(rest x 1,0)
 else if x.ph=6∧x.armed=true then climb j x x.due
 else(x,0)
def start (x:T):T:=if x.ph=7∨x.ph=8∨x.ph=9 then {rest x 1 with runs:=0,times:=[]} else x
def stop (j:J) (x:T) (now:Int):T×Int:=
 if x.ph=1∨x.ph=5 then(rest x 9,0)
 else if x.ph=2 then({x with halt:=true,again:=false},0)
 else if x.ph=6 then({x with again:=false},0)
 else if x.ph=3∨x.ph=4 then halt_ j {x with again:=false} now
 else(x,0)
def restart (j:J) (x:T) (now:Int):T×Int:=
 if x.ph=5 then(rest x 1,0)
 else if x.ph=2 then({x with halt:=true,again:=true},0)
 else if x.ph=6 then({x with again:=true},0)
 else if x.ph=3∨x.ph=4 then halt_ j {x with again:=true} now
 else(start x,0)
theorem spawned_no {j:J} {x:T} {ready:Bool} {now jit:Int} (h:x.ph=2):spawned j x false ready now jit=((unb j x now jit).1,0,(unb j x now jit).2):=by
 unfold spawned unb;rw[if_neg (by simp[h]),if_pos rfl]
 split
 ·rfl
 ·split<;>rfl
theorem exit_run {j:J} {x:T} {code now jit:Int} (h:x.ph=3∨x.ph=4):exit j x code now jit=if j.restart=3∨j.restart=2∧code≠0 then over j {x with runs:=if j.stable≤Tk.sub now x.since then 0 else x.runs} now jit
  else if code=0 then(rest {x with runs:=if j.stable≤Tk.sub now x.since then 0 else x.runs} 7,false) else(rest {x with runs:=if j.stable≤Tk.sub now x.since then 0 else x.runs} 8,false):=by
 unfold exit;rw[if_pos h];simp only;have e:(if j.stable≤Tk.sub now x.since then {x with runs:=0} else x)={x with runs:=if j.stable≤Tk.sub now x.since then 0 else x.runs}:=by split<;>rfl
 rw[e]
def Ok (x:T):Prop:=Tk.U x.since∧Tk.U x.due∧∀t∈x.times,Tk.U t
theorem U0:Tk.U 0:=⟨by decide,by decide⟩
theorem ok_new:Ok new:=⟨U0,U0,fun t h=>by cases h⟩
theorem nI {x:T} (h:Ok x) (p:Int):Ok (rest x p):=⟨h.1,U0,h.2.2⟩
theorem ok_spawn {x:T} (h:Ok x):Ok (spawn x).1:=by unfold spawn;split<;>exact h
theorem pf {x:T} (h:Ok x):Ok (ended x):=by unfold ended;split<;>exact⟨h.1,U0,h.2.2⟩
theorem pg {j:J} {x:T} {now:Int} (h:Ok x) (hj:Ld.Ok j.lad) (hn:Tk.U now):Ok (climb j x now).1:=⟨h.1,Ld.U_next hj _ hn,h.2.2⟩
theorem yt {j:J} {x:T} {now:Int} (h:Ok x) (hj:Ld.Ok j.lad) (hn:Tk.U now):Ok (halt_ j x now).1:=pg (x:={x with ph:=6,rung:=0}) h hj hn
theorem rU {j:J} {x:T} {now jit:Int} (h:Ok x) (a:Tk.U j.base) (hc:Tk.U j.cap) (hn:Tk.U now) (b:Tk.U jit):Ok (over j x now jit).1:=by
 unfold over;have h1:=Bu.allow_U h.2.2 (most:=j.burst) (win:=j.win) hn;simp only;split
 ·exact⟨h.1,Tk.U_add hn (Tk.U_delay _ a hc b),h1⟩
 ·exact⟨h.1,U0,h1⟩
theorem ok_spawned {j:J} {x:T} {ok ready:Bool} {now jit:Int} (h:Ok x) (hj:Ld.Ok j.lad) (a:Tk.U j.base) (hc:Tk.U j.cap) (hn:Tk.U now) (b:Tk.U jit):Ok (spawned j x ok ready now jit).1:=by
 unfold spawned;split
 ·exact h
 ·split
  ·split
   ·exact pf h
   ·split
    ·exact nI h _
    ·exact rU h a hc hn b
  ·split
   ·exact yt (x:={x with since:=now}) ⟨hn,h.2⟩ hj hn
   ·exact⟨hn,h.2⟩
theorem ok_matched {x:T} (h:Ok x):Ok (matched x):=by unfold matched;split<;>exact h
theorem ok_exit {j:J} {x:T} {code now jit:Int} (h:Ok x) (a:Tk.U j.base) (hc:Tk.U j.cap) (hn:Tk.U now) (b:Tk.U jit):Ok (exit j x code now jit).1:=by
 unfold exit;have hy:Ok (if j.stable≤Tk.sub now x.since then {x with runs:=0} else x):=by split<;>exact h
 split
 ·simp only
  split
  ·exact rU hy a hc hn b
  ·split<;>exact nI hy _
 ·split
  ·exact pf h
  ·exact h
theorem ok_fire {j:J} {x:T} (h:Ok x) (hj:Ld.Ok j.lad):Ok (fire j x).1:=by
 unfold fire;split
 ·exact nI h _
 ·split
  ·exact pg h hj h.2.1
  ·exact h
theorem lJ (j:J) (x:T) (now jit:Int):(over j x now jit).1.times.length≤x.times.length+1:=by
 have:=Bu.allow_le x.times j.burst now j.win
 unfold over;simp only;split<;>exact this
theorem len_ended (x:T):(ended x).times=x.times:=by unfold ended;split<;>rfl
theorem len_spawn (x:T):(spawn x).1.times=x.times:=by unfold spawn;split<;>rfl
theorem len_spawned (j:J) (x:T) (ok ready:Bool) (now jit:Int):(spawned j x ok ready now jit).1.times.length≤x.times.length+1:=by
 have h:=lJ j x now jit
 unfold spawned;split
 ·exact Nat.le_succ _
 ·split
  ·split
   ·rw[len_ended];exact Nat.le_succ _
   ·split
    ·exact Nat.le_succ _
    ·exact h
  ·split<;>exact Nat.le_succ _
theorem len_matched (x:T):(matched x).times=x.times:=by unfold matched;split<;>rfl
theorem len_exit (j:J) (x:T) (code now jit:Int):(exit j x code now jit).1.times.length≤x.times.length+1:=by
 have a:=lJ j x now jit
 have h1:=lJ j {x with runs:=0} now jit
 unfold exit;split
 ·simp only
  split
  ·split
   ·exact h1
   ·exact a
  ·split<;>split<;>exact Nat.le_succ _
 ·split
  ·rw[len_ended];exact Nat.le_succ _
  ·exact Nat.le_succ _
theorem len_fire (j:J) (x:T):(fire j x).1.times=x.times:=by unfold fire;split<;>(try split)<;>rfl
def sig (l:List (Int×Int)) (now:Int) (i:Nat):Int:=(Ld.next l i (Ld.upTo l now i).2).1
theorem kW {a b c:Int} (h:a≤b):Tk.sub a c≤Tk.sub b c:=by unfold Tk.sub;split<;>split<;>omega
theorem mx (l:List Int) {a b win:Int} (h:a≤b):Bu.trim (Bu.trim l a win) b win=Bu.trim l b win:=by
 unfold Bu.trim;rw[List.filter_filter]
 congr 1
 funext x
 by_cases hx:Tk.sub b x<win
 ·have:=kW (c:=x) h
  simp[hx];omega
 ·simp[hx]
theorem trim_app (l m:List Int) (a win:Int):Bu.trim (l++m) a win=Bu.trim l a win++Bu.trim m a win:=by unfold Bu.trim;rw[List.filter_append]
def wt (k:Nat) (since:Int) (l:List Int):T:=⟨1,k,k,since,l,0,false,0,false,false⟩
theorem oy {k:Nat} (hk:k<1000) (since:Int) (l:List Int):spawn (wt k since l)=(⟨2,k+1,k,since,l,0,false,0,false,false⟩,true):=by
 unfold spawn;rw[if_pos (show(wt k since l).ph=1 from rfl)]
 have e:wrap64 ((wt k since l).inc+1)=(k:Int)+1:=(by show wrap64 ((k:Int)+1)=_;unfold wrap64;omega)
 rw[e];rfl
theorem ro (j:J) (k:Nat) (now:Int) (l:List Int) (due:Int):fire j ⟨5,k+1,k+1,now,l,due,false,0,false,false⟩=(wt (k+1) now l,0):=by
 unfold fire;rw[if_pos (show(5:Int)=5 from rfl)]
 unfold rest wt;simp
end Lf
end Go.Proofs.YtfchjdnpbgpfpaaGreatDoor
namespace Go.Proofs
open Go.Shelf
def Tryz.lays134_ren:Go.Shelf.Ren:=⟨fun|134=>218|129=>184|n=>n,fun|53=>29|3=>3|4=>4|46=>232|5=>5|9=>9|n=>n,fun|n=>n⟩
theorem Tryz.lays134:Go.Proofs.Lays.n134 Tryz.prog Tryz.lays134_ren:={
 mixed:=by kernel_rfl
 f129:=Tryz.func184.trans (congrArg some (by kernel_rfl))
 f134:=Tryz.func218.trans (congrArg some (by kernel_rfl))
 t3:=Tryz.underlying3
 a3:=Tryz.isAgg3
 z3:=Tryz.sizeOf3
 v3:=Tryz.zeroValue3
 t4:=Tryz.underlying4
 a4:=Tryz.isAgg4
 z4:=Tryz.sizeOf4
 v4:=Tryz.zeroValue4
 t5:=Tryz.underlying5
 a5:=Tryz.isAgg5
 z5:=Tryz.sizeOf5
 v5:=Tryz.zeroValue5
 t9:=Tryz.underlying9
 a9:=Tryz.isAgg9
 z9:=Tryz.sizeOf9
 v9:=Tryz.zeroValue9
 t46:=Tryz.underlying232
 a46:=Tryz.isAgg232
 z46:=Tryz.sizeOf232
 v46:=Tryz.zeroValue232
 t53:=Tryz.underlying29
 a53:=Tryz.isAgg29
 z53:=Tryz.sizeOf29
 v53:=Tryz.zeroValue29}
theorem Tryz.bits_LeadingZeros64 (x:Int) (w:World) (a:0≤x) (h1:x≤18446744073709551615):
  Calls Tryz.prog 218 #[.int .u64 x] w fun e w'=>e= .returned (.int .i64 (64-(Lib.bitLen x.toNat:Int)))∧w'=w:=Any.bits_LeadingZeros64 Tryz.lays134 x w a h1
end Go.Proofs
namespace Go.Proofs.YtfchjdnpbgpfpaaGreatDoor
open Go.RowKit Go.Shelf
set_option linter.unusedVariables false
theorem kv (x y:Int) (hx:0≤x) (hy:0≤y) (w:World):(callFunc 24 #[.int .u64 x,.int .u64 y,.int .u64 0]).run Tryz.prog w=
  .ok (.value (.tuple #[.int .u64 ((x+y)%18446744073709551616),.int .u64 ((x+y)/18446744073709551616)])) w:=by
 rw[run_callFunc_extern Tryz.func24 (by kernel_rfl) (by kernel_rfl) (by kernel_rfl) (e:=add64Entry) (by kernel_rfl),run_add64 x y 0 hx hy (by omega) (by omega)]
 simp[Result.andThen]
theorem oP (x y:Int) (hx:0≤x) (hy:0≤y) (c:y<18446744073709551616) (w:World):(callFunc 185 #[.int .u64 x,.int .u64 y,.int .u64 0]).run Tryz.prog w=
  .ok (.value (.tuple #[.int .u64 ((x-y)%18446744073709551616),.int .u64 (if x<y then 1 else 0)])) w:=by
 obtain⟨x,rfl⟩:=Int.eq_ofNat_of_zero_le hx;obtain⟨y,rfl⟩:=Int.eq_ofNat_of_zero_le hy;have a:(((x+18446744073709551616-y-0)%18446744073709551616:Nat):Int)=((x:Int)-y)%18446744073709551616:=by omega
 have b:((if x<y+0 then 1 else 0:Nat):Int)=if(x:Int)<y then 1 else 0:=by split<;>split<;>omega
 have h:=@run_sub64 Tryz.prog x y 0 (by omega) w
 rw[a,b] at h;rw[run_callFunc_extern Tryz.func185 (by kernel_rfl) (by kernel_rfl) (by kernel_rfl) (e:=sub64Entry) (by kernel_rfl)]
 exact(congrArg (fun r=>r.andThen fun v w'=> .ok (Next.value v) w') h)
theorem jr {a b:Int} (h:a=b):Ending.returned (.int .u64 a)= .returned (.int .u64 b):=by rw[h]
theorem AO (a b:Int) (ha:Tk.U a) (d:Tk.U b) (w:World):
  Calls Tryz.prog 119 #[.int .u64 a,.int .u64 b] w fun e w'=>e= .returned (.int .u64 (Tk.add a b))∧w=w':=by
 obtain⟨a0,a1⟩:=ha;obtain⟨c,b1⟩:=d;have hs:∀W,_:=kv a b a0 c
 unfold Tk.add
 by_cases h:a+b≤18446744073709551615
 ·have h1:(a+b)/18446744073709551616=0:=by omega
  have h2:(a+b)%18446744073709551616=a+b:=by omega
  simp only[h1,h2] at hs;rw[if_pos h];clear h1 h2;go_enter Tryz.func119,Tryz.ntmps119;go_wp2;go_ret;exact⟨rfl,rfl⟩
 ·have h1:(a+b)/18446744073709551616=1:=by omega
  simp only[h1] at hs;rw[if_neg h];clear h1;go_enter Tryz.func119,Tryz.ntmps119;go_wp2;go_ret;exact⟨rfl,rfl⟩
theorem Bc (a b:Int) (ha:Tk.U a) (d:Tk.U b) (w:World):
  Calls Tryz.prog 9 #[.int .u64 a,.int .u64 b] w fun e w'=>e= .returned (.int .u64 (Tk.add a b))∧w=w':=by
 obtain⟨a0,a1⟩:=ha;obtain⟨c,b1⟩:=d;have hs:∀W,_:=kv a b a0 c
 unfold Tk.add
 by_cases h:a+b≤18446744073709551615
 ·have h1:(a+b)/18446744073709551616=0:=by omega
  have h2:(a+b)%18446744073709551616=a+b:=by omega
  simp only[h1,h2] at hs;rw[if_pos h];clear h1 h2;go_enter Tryz.func9,Tryz.ntmps9;go_wp2;go_ret;exact⟨rfl,rfl⟩
 ·have h1:(a+b)/18446744073709551616=1:=by omega
  simp only[h1] at hs;rw[if_neg h];clear h1;go_enter Tryz.func9,Tryz.ntmps9;go_wp2;go_ret;exact⟨rfl,rfl⟩
theorem Cq (a b:Int) (ha:Tk.U a) (d:Tk.U b) (w:World):
  Calls Tryz.prog 118 #[.int .u64 a,.int .u64 b] w fun e w'=>e= .returned (.int .u64 (Tk.sub a b))∧w=w':=by
 obtain⟨a0,a1⟩:=ha;obtain⟨c,b1⟩:=d;have hs:∀W,_:=oP a b a0 c (by omega)
 unfold Tk.sub
 by_cases h:a<b
 ·simp only[if_pos h] at hs;rw[if_pos h];clear h;go_enter Tryz.func118,Tryz.ntmps118;go_wp2;go_ret;exact⟨rfl,rfl⟩
 ·have h2:(a-b)%18446744073709551616=a-b:=by omega
  simp only[if_neg h,h2] at hs;rw[if_neg h];clear h h2;go_enter Tryz.func118,Tryz.ntmps118;go_wp2;go_ret;exact⟨rfl,rfl⟩
theorem uz {x:Int} (h:Tk.U x):IntKind.u64.wrap x=x:=by
 obtain⟨_,h1⟩:=h;simp[IntKind.wrap,IntKind.signed,IntKind.bits];omega
theorem Dj (a n:Int) (ha:Tk.U a) (w:World):
  Calls Tryz.prog 186 #[.int .u64 a,.int .i64 n] w fun e w'=>e= .returned (.int .u64 (Tk.dbl a n))∧w=w':=by
 obtain⟨a0,a1⟩:=ha
 by_cases b:a=0
 ·subst b;rw[Tk.dbl_zero];go_enter Tryz.func186,Tryz.ntmps186;go_wp2;go_ret;exact⟨rfl,rfl⟩
 ·by_cases h1:n≤0
  ·rw[Tk.dbl_low h1];go_enter Tryz.func186,Tryz.ntmps186;go_wp2;go_ret;exact⟨rfl,rfl⟩
  ·go_enter Tryz.func186,Tryz.ntmps186
   go_wp2_with (go_at_call 218;refine(Tryz.bits_LeadingZeros64 a _ a0 a1).mono ?_;rintro e w' ⟨rfl,rfl⟩)
   ·have c:=Tk.dbl_big ⟨a0,a1⟩ b (by assumption)
    go_ret;exact⟨jr c.symm,rfl⟩
   ·obtain⟨c,d⟩:=Tk.dbl_fit ⟨a0,a1⟩ b (by omega) (by assumption)
    go_ret;exact⟨jr ((uz d).trans c),rfl⟩
theorem Dl (a n:Int) (ha:Tk.U a) (hn:n≤9223372036854775807) (w:World):
  Calls Tryz.prog 25 #[.int .u64 a,.int .i64 n] w fun e w'=>e= .returned (.int .u64 (Tk.dbl a n))∧w=w':=by
 go_enter Tryz.func25,Tryz.ntmps25
 go_wp2
 go_loop [0,5] (fun x i=>∃k:Nat,(k:Int)≤max n 0∧i= .int .i64 k∧x= .int .u64 (Tk.dblN k a)) (fun _ i=>(max n 0-intOf i).toNat)
 case atStart=>exact⟨0,by omega,rfl,rfl⟩
 case round=>
  obtain⟨k,hk,rfl,rfl⟩:=hrel;have c:=Tk.U_dblN k ha;have hs:=aJ (Tk.dblN_succ k a);have d:=aJ (fun h=>(Tk.dbl_end0 (a:=a) (n:=n) k hk h))
  have g:=aJ (fun h=>(Tk.dbl_endM (a:=a) (n:=n) k hk h))
  have f:=aJ (fun h=>(Tk.dbl_end (a:=a) (n:=n) k hk h))
  generalize Tk.dblN k a=x at *
  by_cases b:(k:Int)<n
  ·by_cases j:x=0
   ·obtain rfl:=j;go_wp2;go_ret;exact⟨jr (d.out (by trivial)).symm,rfl⟩
   ·by_cases hm:x=18446744073709551615
    ·obtain rfl:=hm;go_wp2;go_ret;exact⟨jr (g.out (by trivial)).symm,rfl⟩
    ·go_wp2_with (go_at_call 9;refine(Bc x x c c _).mono ?_;rintro e w' ⟨rfl,rfl⟩)
     go_round
     case rel=>exact⟨k+1,by omega,by go_num,by rw[hs.out]⟩
     case measure=>simp[intOf];omega
  ·go_wp2
   go_ret;exact⟨jr (f.out b),rfl⟩
theorem ni {a b:Int}:Tk.low a b=min a b:=by unfold Tk.low;split<;>omega
theorem AN (base a n jitter:Int) (b:Tk.U base) (f:Tk.U a) (hj:Tk.U jitter) (w:World):
  Calls Tryz.prog 120 #[.int .u64 base,.int .u64 a,.int .i64 n,.int .u64 jitter] w fun e w'=>e= .returned (.int .u64 (Tk.delay base a n jitter))∧w=w':=by
 unfold Tk.delay;have c:=Tk.U_dbl n b;have hc:∀W,Calls Tryz.prog 186 _ W _:=fun W=>Dj base n b W
 generalize Tk.dbl base n=d at *;have g:=Tk.U_low f c;rw[ni] at *;go_enter Tryz.func120,Tryz.ntmps120;go_wp2_with (first|(go_at_call 186;refine(hc _).mono ?_;rintro e w' ⟨rfl,rfl⟩)|(go_at_call 119;refine(AO _ _ g hj _).mono ?_;rintro e w' ⟨rfl,rfl⟩))
 go_ret;exact⟨rfl,rfl⟩
theorem Bb (base a n jitter:Int) (b:Tk.U base) (f:Tk.U a) (hj:Tk.U jitter) (hn:n≤9223372036854775807) (w:World):
  Calls Tryz.prog 10 #[.int .u64 base,.int .u64 a,.int .i64 n,.int .u64 jitter] w fun e w'=>e= .returned (.int .u64 (Tk.delay base a n jitter))∧w=w':=by
 unfold Tk.delay;have c:=Tk.U_dbl n b;have hc:∀W,Calls Tryz.prog 25 _ W _:=fun W=>Dl base n b hn W
 generalize Tk.dbl base n=d at *;have g:=Tk.U_low f c;rw[ni] at *;go_enter Tryz.func10,Tryz.ntmps10;go_wp2_with (first|(go_at_call 25;refine(hc _).mono ?_;rintro e w' ⟨rfl,rfl⟩)|(go_at_call 9;refine(Bc _ _ g hj _).mono ?_;rintro e w' ⟨rfl,rfl⟩))
 go_ret;exact⟨rfl,rfl⟩
def dC (l:List (Int×Int)):List Value:=l.flatMap fun r=>[.int .i64 r.1,.int .u64 r.2]
theorem Cr (a b:Int) (ha:Tk.U a) (c:Tk.U b) (w:World) (n:Nat):
  Calls Tryz.prog 119 #[.int .u64 a,.int .u64 b] (w.drewN n) fun e w'=>e= .returned (.int .u64 (Tk.add a b))∧∃m,w'=w.drewN m:=gJ (AO a b ha c _)
theorem jo (l:List (Int×Int)):(dC l).length=2*l.length:=by
 unfold dC
 induction l with
 |nil=>rfl
 |cons a l ih=>simp only[List.flatMap_cons,bF,List.length_cons,ih];simp;omega
theorem mF (l:List (Int×Int)):∀i,i<l.length→(dC l)[i*2]? =some (.int .i64 (l.getD i (0,0)).1)∧(dC l)[i*2+1]? =some (.int .u64 (l.getD i (0,0)).2):=by
 induction l with
 |nil=>intro i h;simp at h
 |cons a l ih=>
  intro i h;cases i with
  |zero=>exact⟨rfl,rfl⟩
  |succ i=>
   have b:(i+1)*2=i*2+1+1:=by omega
   rw[b];exact ih i (by simpa using h)
theorem vH (b off c:Nat) (n:Nat) (a at_:Int) (s t:Int) (w:World) (g:0≤a) (h1:a<n) (hn:n≤maxLen) (ha:Tk.U at_) (d:Tk.U t)
  (hs:w.cell? ⟨b,off+a.toNat*2,none⟩=some (.int .i64 s)) (h:w.cell? ⟨b,off+a.toNat*2+1,none⟩=some (.int .u64 t)):
  Calls Tryz.prog 188 #[.slice (some ⟨b,off,none⟩) n c,.int .i64 a,.int .u64 at_] w fun e w'=>
   e= .returned (.tuple #[.int .i64 s,.int .u64 (Tk.add at_ t),.bool true])∧∃k,w'=w.drewN k:=by
 unfold maxLen at hn;have f:(a==(n:Int))=false:=by simp;omega
 go_enter Tryz.func188,Tryz.ntmps188
 go_wp2_with fail;go_quiet ((go_at_call 119;exact Cr _ _ ha d _ _));go_wp2;go_ret3;exact⟨rfl,_,rfl⟩
theorem tO (A:Option Addr) (c n:Nat) (at_:Int) (w:World) (hn:n≤maxLen):
  Calls Tryz.prog 188 #[.slice A n c,.int .i64 n,.int .u64 at_] w fun e w'=>
   e= .returned (.tuple #[.int .i64 9,.int .u64 0,.bool false])∧∃k,w'=w.drewN k:=by
 unfold maxLen at hn;go_enter Tryz.func188,Tryz.ntmps188;go_wp2_with fail;go_ret3;exact⟨rfl,0,rfl⟩
theorem tN (A:Option Addr) (c n:Nat) (a at_:Int) (w:World) (hn:n≤maxLen) (h:a<0∨(n:Int)<a):
  Calls Tryz.prog 188 #[.slice A n c,.int .i64 a,.int .u64 at_] w fun e w'=>
   e= .returned (.tuple #[.int .i64 0,.int .u64 0,.bool false])∧∃k,w'=w.drewN k:=by
 unfold maxLen at hn
 by_cases b:a<0
 ·clear h;go_enter Tryz.func188,Tryz.ntmps188;go_wp2_with fail;go_ret3;exact⟨rfl,0,rfl⟩
 ·have h1:(n:Int)<a:=by omega
  clear h;go_enter Tryz.func188,Tryz.ntmps188;go_wp2_with fail;go_ret3;exact⟨rfl,0,rfl⟩
theorem tP (A:Option Addr) (c:Nat) (l:List (Int×Int)) (a at_:Int) (w:World) (j:Rs w A (dC l)) (d:l.length≤maxLen) (i:Ld.Ok l) (ha:Tk.U at_):
  Calls Tryz.prog 188 #[.slice A l.length c,.int .i64 a,.int .u64 at_] w fun e w'=>
   e= .returned (.tuple #[.int .i64 (Ld.next l a at_).1,.int .u64 (Ld.next l a at_).2.1,.bool (Ld.next l a at_).2.2])∧∃k,w'=w.drewN k:=by
 by_cases h:a<0∨(l.length:Int)<a
 ·rw[Ld.next_out h];exact tN A c l.length a at_ w d h
 ·by_cases h1:a=l.length
  ·subst h1;rw[Ld.next_end];exact tO A c l.length at_ w d
  ·rw[Ld.next_in (by omega) (by omega)]
   obtain⟨b,off,rfl,_,hc⟩:=j.at_ (by rw[jo];omega)
   obtain⟨f,g⟩:=mF l a.toNat (by omega)
   exact vH b off c l.length a at_ _ _ w (by omega) (by omega) d ha (i _) (hc _ _ f) (by rw[Nat.add_assoc];exact hc _ _ g)
theorem pA:(Tryz.prog.info? 29).map (fun i=>(i.zero,i.size,i.bytes))=some (some (.int .u64 0),1,8):=by kernel_rfl
def ax (l:List Int):List Value:=l.map (Value.int .u64)
theorem eT (l:List Int):(ax l).length=l.length:=by simp[ax]
theorem eU (l:List Int) (i:Nat) (h:i<l.length):(ax l)[i]? =some (.int .u64 (l.getD i 0)):=by
 simp[ax,List.getElem?_map,bE h,bD]
theorem uE (l:List Int):(ax l).all Value.oneCell'=true:=by simp[ax,Value.oneCell']
theorem wI (A:Option Addr) (c:Nat) (l:List Int) (w:World) (d:Rs w A (ax l)) (i:l.length≤68719476736):
  Calls Tryz.prog 193 #[.slice A l.length c] w (me w 29 1 l.length (ax l)):=by
 have j:=fun W a n c=>Lib.run_eql_slice_nil (P:=Tryz.prog) W 23 29 a n c 0 0 Tryz.underlying23
 cases A with
 |none=>
  have e:=d.nil_iff
  have h1:l=[]:=by simpa [ax] using e
  subst h1;go_enter Tryz.func193,Tryz.ntmps193;go_wp2_with fail;go_ret;exact⟨_,rfl,Own.nil_ _ _ _ _,Old.refl _⟩
 |some ad=>
  go_enter Tryz.func193,Tryz.ntmps193
  have b:Own (w.alloc (.cells #[] 29)) w.heap.size 29 1 (.slice (some ⟨w.heap.size,0,none⟩) 0 0) 0 []:=yo w #[] 0 1 _ (by decide) rfl
  go_wp2_with (at_builtin;refine kS rfl _ _ 23 rfl _ 29 (.int .u64 0) 1 8 Tryz.underlying23 pA rfl (by decide) (by decide) _ _ _ (by rfl) b _ _ _ _ (by rfl) (d.alloc _) (by rw[eT,Nat.mul_one]) (uE _) ?pn1 (by simp) ?_)
  case pn1=>omega
  intro v' w' g h f;go_wp2_with fail;go_ret;refine⟨_,rfl,?_,f w ((Old.refl w).alloc _) (bM _)⟩;simpa using g
theorem zQ (b1 b2:Nat) (now win t:Int) (w:World) (hn:Tk.U now) (c:Tk.U win) (b:Tk.U t) (h1:w.cell? ⟨b1,0,none⟩=some (.int .u64 now)) (h2:w.cell? ⟨b2,0,none⟩=some (.int .u64 win)):
  Calls Tryz.prog 245 #[.int .u64 t,.pointer (some ⟨b1,0,none⟩),.pointer (some ⟨b2,0,none⟩)] w fun e w'=>e= .returned (.bool (decide (win≤Tk.sub now t)))∧∃k,w'=w.drewN k:=by
 have hs:=fun n=>Cq now t hn b (w.drewN n)
 have a:=aJ hs
 clear hs;go_enter Tryz.func245,Tryz.ntmps245;go_wp2_with fail;go_quiet ((go_at_call 118;exact gJ (a.out _)));go_wp2_with fail;go_ret;exact⟨rfl,_,rfl⟩
def zK (p:Int→Bool) (l:List Int) (w:World) (e:Ending) (w':World):Prop:=
 ((e= .returned (.int .i64 (-1))∧∀j,j<l.length→p (l.getD j 0)=false)∨
  ∃k,k<l.length∧e= .returned (.int .i64 k)∧p (l.getD k 0)=true∧∀j,j<k→p (l.getD j 0)=false)∧∃n,w'=w.drewN n
theorem Bz (b1 b2:Nat) (now win:Int) (A:Option Addr) (c:Nat) (l:List Int) (w:World) (hn:Tk.U now) (C:Tk.U win) (y:∀t∈l,Tk.U t) (hm:l.length≤68719476736)
  (h1:w.cell? ⟨b1,0,none⟩=some (.int .u64 now)) (h2:w.cell? ⟨b2,0,none⟩=some (.int .u64 win)) (B:Rs w A (ax l)):
  Calls Tryz.prog 260 #[.slice A l.length c,.func (.func 245) #[] #[.pointer (some ⟨b1,0,none⟩),.pointer (some ⟨b2,0,none⟩)]] w
   (zK (fun t=>decide (win≤Tk.sub now t)) l w):=by
 have z:=aJ y
 clear y;go_enter Tryz.func260,Tryz.ntmps260;go_wp2_with fail;go_loopw [8] (fun i wr=>∃k m:Nat,k≤l.length∧i= .int .i64 k∧wr=w.drewN m∧Hid (∀j,j<k→decide (win≤Tk.sub now (l.getD j 0))=false)) (fun i _=>l.length-(intOf i).toNat)
 case atStart=>exact⟨0,0,bO _,rfl,rfl,fun j hj=>by omega⟩
 case round=>
  obtain⟨k,m,hk,rfl,rfl,o⟩:=hrel
  by_cases a:k<l.length
  ·obtain⟨b,off,rfl,_,hc⟩:=B.at_ (by rw[eT];omega)
   have c1:=hc _ _ (eU l k a)
   have s:=z.out (l.getD k 0) (by rw[bD,bE a];exact bH a)
   have u:l.getD k 0=l.getD k 0:=rfl
   generalize hx:l.getD k 0=x at c1 s u;have r:=aJ hx;clear hc hx u;have f:=zQ b1 b2 now win x (w.drewN m) hn C s h1 h2
   by_cases g:win≤Tk.sub now x
   ·have d:decide (win≤Tk.sub now x)=true:=by simpa using g
    rw[d] at f;have p:=aJ f;have h:=aJ d;clear f d g;go_wp2_with fail;refine(p.out).mono ?_;rintro e w' ⟨rfl,n,rfl⟩;go_wp2_with fail;go_ret;exact⟨bY ⟨k,a,rfl,by simp only[r.out];exact h.out,o.out⟩,_,rfl⟩
   ·have d:decide (win≤Tk.sub now x)=false:=by simpa using g
    rw[d] at f;have p:=aJ f;have h:=aJ d;clear f d g;go_wp2_with fail;refine(p.out).mono ?_;rintro e w' ⟨rfl,n,rfl⟩;go_wp2_with fail;go_roundw
    case rel=>
     refine⟨k+1,m+n,by omega,by go_num,rfl,?_⟩
     intro j hj
     by_cases q:j<k
     ·exact o.out j q
     ·obtain rfl:j=k:=by omega
      rw[r.out];exact h.out
    case measure=>simp[intOf];omega
  ·obtain rfl:k=l.length:=by omega
   go_wp2_with fail;go_ret;exact⟨bX ⟨rfl,o.out⟩,_,rfl⟩
theorem zh (b1 b2:Nat) (now win:Int) (v:Value) (l:List Int) (w:World) (hn:Tk.U now) (hw:Tk.U win) (hl:∀t∈l,Tk.U t) (hm:l.length≤68719476736)
  (B:Nat) (h1:w.cell? ⟨b1,0,none⟩=some (.int .u64 now)) (h2:w.cell? ⟨b2,0,none⟩=some (.int .u64 win)) (ah:b1<B) (ai:b2<B)
  (r:Own w B 29 1 v l.length (ax l)):
  Calls Tryz.prog 244 #[v,.func (.func 245) #[] #[.pointer (some ⟨b1,0,none⟩),.pointer (some ⟨b2,0,none⟩)]] w fun e w'=>
   ∃v,e= .returned v∧Own w' B 29 1 v (Bu.trim l now win).length (ax (Bu.trim l now win))∧Below B w w':=by
 obtain⟨A,c,rfl,hr,_,_⟩:=r.shape;have hI:=Bz b1 b2 now win _ c l w hn hw hl hm h1 h2 hr.rs;have HI:=aJ hI;have HL:=aJ hl;clear hI hl hr;go_enter Tryz.func244,Tryz.ntmps244;go_wp2_with fail;refine(HI.out).mono ?_;rintro e w' ⟨⟨rfl,o⟩|⟨k,hk,rfl,H,o⟩,n,rfl⟩
 ·go_wp2_with fail;go_ret;have he:Bu.trim l now win=l:=Bu.filter_all fun j hj=>by
   have:=o j hj
   simp only[decide_eq_false_iff_not,decide_eq_true_eq] at this ⊢;omega
  exact⟨_,rfl,by rw[he];exact r,fW (Below.refl _ _) n⟩
 ·have f:decide (Tk.sub now (l.getD k 0)<win)=false:=by simp only[decide_eq_true_eq,decide_eq_false_iff_not] at H ⊢;omega
  have I:∀j,j<k→decide (Tk.sub now (l.getD j 0)<win)=true:=fun j hj=>by
   have:=o j hj
   simp only[decide_eq_true_eq,decide_eq_false_iff_not] at this ⊢;omega
  have Z:=Bu.now_start (q:=fun t=>decide (Tk.sub now t<win)) hk f I
  have J:=congrArg List.length (Bu.keepTo_start (q:=fun t=>decide (Tk.sub now t<win)) hk f I)
  rw[List.length_take,Nat.min_eq_left (by omega)] at J
  have HQ:∀t,(decide (Tk.sub now t<win))= !(decide (win≤Tk.sub now t)):=fun t=>by
   by_cases h:Tk.sub now t<win
   ·simp[h]
   ·simp[h];omega
  have N:=aJ Z
  have O:=aJ J
  have HQ:=aJ HQ
  have an:((k:Int)== -1)=false:=by simp
  have b:=aJ f
  clear H o f I Z J;obtain⟨q,hq⟩:∃q:Int→Bool,q=fun t=>decide (Tk.sub now t<win):=⟨_,rfl⟩
  rw[←hq] at N O;have X:=Bu.keepTo_lt (q:=q) (l:=l) (k:=k) (j:=l.length) hk (bM _) (by rw[hq];exact b.out)
  have M:=aJ hq
  clear hq b;obtain⟨g,c',T,aj,_,_,_⟩:=r.form (by omega)
  simp only[Value.slice.injEq,true_and] at T;obtain⟨rfl,rfl⟩:=T;go_wp2_with fail;go_loopw [5,6] (fun i j wr=>∃m:Nat,k+1≤m∧m≤l.length∧j= .int .i64 m∧i= .int .i64 (Bu.keepTo q l m).length∧Own wr B 29 1 (.slice (some ⟨g,0,none⟩) l.length c) l.length (ax (Bu.now_ q l m))∧Below B w wr) (fun _ j _=>l.length-(intOf j).toNat)
  case atStart=>exact⟨k+1,by omega,by omega,by go_num,by rw[O.out],by rw[N.out];exact r,fW (Below.refl _ _) n⟩
  case round=>
   obtain⟨m,_,_,rfl,rfl,a,L⟩:=hrel;have ak:=Bu.keepTo_le q l m;have W:=Bu.keepTo_le' q l m;have G:=Bu.now_length q l m;have af:wr.cell? ⟨b1,0,none⟩=some (.int .u64 now):=(L.cell (p:=⟨b1,0,none⟩) ah).trans h1;have ag:wr.cell? ⟨b2,0,none⟩=some (.int .u64 win):=(L.cell (p:=⟨b2,0,none⟩) ai).trans h2
   by_cases d:m<l.length
   ·have hx:=Bu.now_get q l m d
    have u:=eU (Bu.now_ q l m) m (by omega)
    rw[hx] at u;have c1:=(a.cellAt u).1;obtain⟨c2,_⟩:=a.cellAt (eU (Bu.now_ q l m) (Bu.keepTo q l m).length (by omega))
    have hU:=HL.out (l.getD m 0) (by rw[bD,bE d];exact bH d)
    have D:=fun x=>a.set_ (Bu.keepTo q l m).length (.int .u64 x)
    have P:=aJ D
    have E:=Bu.now_yes (q:=q) d
    have Y:=Bu.now_no (q:=q) d
    have F:=Bu.keepTo_yes (q:=q) d
    have ad:=Bu.keepTo_no (q:=q) d
    have HY:=aJ E
    have HN:=aJ Y
    have KY:=aJ F
    have KN:=aJ ad
    have am:=aJ G
    have f:q (l.getD m 0)= !(decide (win≤Tk.sub now (l.getD m 0))):=by rw[M.out];exact HQ.out _
    have b:=aJ f
    clear hx u D E Y F ad f G;generalize (Bu.now_ q l m).getD (Bu.keepTo q l m).length 0=y at *;generalize l.getD m 0=x at *;have K:=zQ b1 b2 now win x wr hn hw hU af ag
    by_cases H:win≤Tk.sub now x
    ·have S:decide (win≤Tk.sub now x)=true:=by simpa using H
     rw[S] at K b;have HT:=aJ K;clear K S H;go_wp2_with fail;refine(HT.out).mono ?_;rintro e w' ⟨rfl,n',rfl⟩;go_wp2_with fail;go_roundw
     case rel=>exact⟨m+1,by omega,by omega,by go_num,by rw[KN.out b.out],by rw[←HN.out b.out];exact a,fW L n'⟩
     case measure=>simp[intOf];omega
    ·have S:decide (win≤Tk.sub now x)=false:=by simpa using H
     rw[S] at K b;have HT:=aJ K;clear K S H;go_wp2_with fail;refine(HT.out).mono ?_;rintro e w' ⟨rfl,n',rfl⟩;go_wp2_with fail;go_roundw
     case rel=>
      refine⟨m+1,by omega,by omega,by go_num,by rw[KY.out b.out];simp,?_,?_⟩
      ·have h:=(P.out x).1
       rw[←HY.out b.out];unfold ax at h ⊢;rw[List.map_set];exact h
      ·exact(fW L n').setCell aj _
     case measure=>simp[intOf];omega
   ·obtain rfl:m=l.length:=by omega
    have z:Bu.keepTo q l l.length=Bu.trim l now win:=by rw[Bu.keepTo_all,M.out];rfl
    have C:∀ty,(Builtin.clear_ #[23] ty #[.slice (some ⟨g,0+(Bu.keepTo q l l.length).length,none⟩) (l.length-(Bu.keepTo q l l.length).length) (c-(Bu.keepTo q l l.length).length)]).run Tryz.prog wr= .ok (.tuple #[]) _:=
     fun ty=>Lib.run_clear_slice wr _ _ ty _ Tryz.underlying23 Tryz.zeroValue29 rfl rfl g _ _ _ (by omega)
      (fun t ht=>by rw[Nat.zero_add,(a.cellAt (eU _ _ (by omega))).1];rfl) (fun t ht=>by rw[Nat.zero_add];exact(a.cellAt (eU _ _ (by omega))).2)
    rw[Nat.zero_add] at C;obtain⟨_,ac,V,aa⟩:=a.setCells (List.replicate (l.length-(Bu.keepTo q l l.length).length) (.int .u64 0)) (Bu.keepTo q l l.length).length wr;have Q:=L.grown V (by have:=(a.form (by omega)).choose_spec;have:=L.size;omega) (by intro k hk;injection hk with hk;omega)
    have s:=ac.shrink (i:=(Bu.keepTo q l l.length).length) (by omega)
    rw[Nat.mul_one,aa] at s;have ab:(ax (Bu.now_ q l l.length)).take (Bu.keepTo q l l.length).length=ax (Bu.keepTo q l l.length):=by
     unfold ax;rw[←List.map_take,Bu.now_take]
    rw[ab,z] at s;rw[z] at C Q X;have ae:=aJ s;have al:=C;rw[z];have hne:¬c=(Bu.trim l now win).length:=by omega
    clear s ab aa ac V a C ak W G;generalize hR:Bu.trim l now win=R at *;have HR:=aJ hR;clear hR;go_wp2_with fail;go_ret;exact⟨_,rfl,by rw[HR.out];exact ae.out,Q⟩
theorem CN (A:Option Addr) (c:Nat) (l:List Int) (now win:Int) (w:World) (k:Rs w A (ax l)) (hm:l.length≤68719476736) (i:∀t∈l,Tk.U t) (hn:Tk.U now) (m:Tk.U win):
  Calls Tryz.prog 229 #[.slice A l.length c,.int .u64 now,.int .u64 win] w (me w 29 1 (Bu.trim l now win).length (ax (Bu.trim l now win))):=by
 have j:=aJ i
 clear i;go_enter Tryz.func229,Tryz.ntmps229;go_wp2_with fail;refine(wI A c l _ ((k.alloc _).alloc _) hm).mono ?_;rintro e g ⟨v,rfl,a,f⟩;have k1:g.cell? ⟨w.heap.size,0,none⟩=some (.int .u64 now):=f.cell (by simp)
 have k2:g.cell? ⟨w.heap.size+1,0,none⟩=some (.int .u64 win):=f.cell (by simp)
 have hsz:(((w.alloc (.cells #[.int .u64 now] 29)).alloc (.cells #[.int .u64 win] 29)).heap.size)=w.heap.size+2:=by simp
 rw[hsz] at a;have d:Old w g:=(((Old.refl w).alloc _).alloc _).up f;clear hsz f;go_wp2_with fail;refine(zh w.heap.size (w.heap.size+1) now win v l g hn m j.out hm (w.heap.size+2) k1 k2 (by omega) (by omega) a).mono ?_;rintro e w2 ⟨v',rfl,b,h⟩
 go_wp2_with fail;go_ret;exact⟨_,rfl,b.base (by omega),Below.trans d (h.mono (by omega))⟩
def us (w:World) (r:List Int×Bool) (e:Ending) (w':World):Prop:=
 ∃v,e= .returned (.tuple #[v,.bool r.2])∧Own w' w.heap.size 29 1 v r.1.length (ax r.1)∧Old w w'
theorem B4 (A:Option Addr) (c:Nat) (l:List Int) (most now win:Int) (w:World) (o:Rs w A (ax l)) (hm:l.length≤68719476734) (i:∀t∈l,Tk.U t) (hn:Tk.U now) (p:Tk.U win):
  Calls Tryz.prog 196 #[.slice A l.length c,.int .i64 most,.int .u64 now,.int .u64 win] w (us w (Bu.allow l most now win)):=by
 have h:=CN A c l now win w o (by omega) i hn p
 have n:=Bu.trim_le l now win
 have g:=aJ h
 clear h i
 by_cases j:((Bu.trim l now win).length:Int)<most
 ·rw[Bu.allow_yes j];generalize Bu.trim l now win=R at *;go_enter Tryz.func196,Tryz.ntmps196;go_wp2_with fail;refine(g.out).mono ?_;rintro e k ⟨v,rfl,a,d⟩;obtain⟨A1,c1,rfl,_,_,_⟩:=a.shape;go_wp2_with (at_builtin;refine aE (wr:=k) rfl _ _ 23 rfl _ 29 (.int .u64 0) 1 8 Tryz.underlying23 pA rfl (by decide) (by decide) _ _ _ rfl a 1 1 [.int .u64 now] rfl rfl rfl rfl ?pn2 d.size ?_)
  case pn2=>omega
  intro v' w2 b m f;go_wp2_with fail;go_ret2;refine⟨_,rfl,?_,f w d (bM _)⟩;unfold ax at b ⊢;rw[List.map_append,bF];exact b
 ·rw[Bu.allow_no j];generalize Bu.trim l now win=R at *;go_enter Tryz.func196,Tryz.ntmps196;go_wp2_with fail;refine(g.out).mono ?_;rintro e k ⟨v,rfl,a,d⟩;obtain⟨A1,c1,rfl,_,_,_⟩:=a.shape;go_wp2_with fail;go_ret2;exact⟨_,rfl,a,d⟩
structure Jd where
 nm:ByteArray
 run:ByteArray
 eA:Option Addr
 env:List (ByteArray×ByteArray)
 ec:Nat
 nA:Option Addr
 needs:List ByteArray
 nc:Nat
 hasR:Bool
 ready:ByteArray
 restart:Int
 base:Int
 cap:Int
 stable:Int
 burst:Int
 win:Int
 lA:Option Addr
 lad:List (Int×Int)
 lc:Nat
 line:Int
 col:Int
def Jd.j (x:Jd):Lf.J:=⟨x.restart,x.base,x.cap,x.stable,x.burst,x.win,x.lad⟩
def fU (x:Jd):Value:= .agg #[.string x.nm,.string x.run,.slice x.eA x.env.length x.ec,.slice x.nA x.needs.length x.nc,.bool x.hasR,.string x.ready,.int .i64 x.restart,.int .u64 x.base,.int .u64 x.cap,.int .u64 x.stable,.int .i64 x.burst,.int .u64 x.win,.slice x.lA x.lad.length x.lc,.int .i64 x.line,.int .i64 x.col]
def bZ (x:Lf.T) (A:Option Addr) (c:Nat):Value:= .agg #[.int .i64 x.ph,.int .i64 x.inc,.int .i64 x.runs,.int .u64 x.since,.slice A x.times.length c,.int .u64 x.due,.bool x.armed,.int .i64 x.rung,.bool x.halt,.bool x.again]
structure JdOk (w:World) (x:Jd):Prop where
 lad:Ts w 70 x.lA (dC x.lad)
 few:x.lad.length≤1000
 ok:Ld.Ok x.lad
 base:Tk.U x.base
 cap:Tk.U x.cap
 stable:Tk.U x.stable
 win:Tk.U x.win
theorem JdOk.up {w w':World} {x:Jd} (h:JdOk w x) (a:Old w w'):JdOk w' x:=⟨h.lad.up a,h.few,h.ok,h.base,h.cap,h.stable,h.win⟩
theorem bq {w:World} {k:Nat} {v0 v1 v2 v3 v4 v5 v6 v7 v8 v9:Value} {t:TypeId} (h:w.heap[k]? =some (.cells #[v0,v1,v2,v3,v4,v5,v6,v7,v8,v9] t (0,0))):(w.cell? ⟨k,0,none⟩=some v0∧w.cell? ⟨k,1,none⟩=some v1∧w.cell? ⟨k,2,none⟩=some v2∧w.cell? ⟨k,3,none⟩=some v3∧w.cell? ⟨k,4,none⟩=some v4∧w.cell? ⟨k,5,none⟩=some v5∧w.cell? ⟨k,6,none⟩=some v6∧w.cell? ⟨k,7,none⟩=some v7∧w.cell? ⟨k,8,none⟩=some v8∧w.cell? ⟨k,9,none⟩=some v9)∧(w.frozen? ⟨k,0,none⟩=false∧w.frozen? ⟨k,1,none⟩=false∧w.frozen? ⟨k,2,none⟩=false∧w.frozen? ⟨k,3,none⟩=false∧w.frozen? ⟨k,4,none⟩=false∧w.frozen? ⟨k,5,none⟩=false∧w.frozen? ⟨k,6,none⟩=false∧w.frozen? ⟨k,7,none⟩=false∧w.frozen? ⟨k,8,none⟩=false∧w.frozen? ⟨k,9,none⟩=false):=
 ⟨⟨(aK w k 0 _ _ _ h).trans rfl,(aK w k 1 _ _ _ h).trans rfl,(aK w k 2 _ _ _ h).trans rfl,(aK w k 3 _ _ _ h).trans rfl,(aK w k 4 _ _ _ h).trans rfl,(aK w k 5 _ _ _ h).trans rfl,(aK w k 6 _ _ _ h).trans rfl,(aK w k 7 _ _ _ h).trans rfl,(aK w k 8 _ _ _ h).trans rfl,(aK w k 9 _ _ _ h).trans rfl⟩,⟨aN w k 0 _ _ h,aN w k 1 _ _ h,aN w k 2 _ _ h,aN w k 3 _ _ h,aN w k 4 _ _ h,aN w k 5 _ _ h,aN w k 6 _ _ h,aN w k 7 _ _ h,aN w k 8 _ _ h,aN w k 9 _ _ h⟩⟩
theorem ij {w:World} {k:Nat} {v0 v1 v2 v3 v4 v5 v6 v7 v8 v9 a v11 v12 b c:Value} {t:TypeId} (h:w.heap[k]? =some (.cells #[v0,v1,v2,v3,v4,v5,v6,v7,v8,v9,a,v11,v12,b,c] t (0,0))):(w.cell? ⟨k,0,none⟩=some v0∧w.cell? ⟨k,1,none⟩=some v1∧w.cell? ⟨k,2,none⟩=some v2∧w.cell? ⟨k,3,none⟩=some v3∧w.cell? ⟨k,4,none⟩=some v4∧w.cell? ⟨k,5,none⟩=some v5∧w.cell? ⟨k,6,none⟩=some v6∧w.cell? ⟨k,7,none⟩=some v7∧w.cell? ⟨k,8,none⟩=some v8∧w.cell? ⟨k,9,none⟩=some v9∧w.cell? ⟨k,10,none⟩=some a∧w.cell? ⟨k,11,none⟩=some v11∧w.cell? ⟨k,12,none⟩=some v12∧w.cell? ⟨k,13,none⟩=some b∧w.cell? ⟨k,14,none⟩=some c)∧(w.frozen? ⟨k,0,none⟩=false∧w.frozen? ⟨k,1,none⟩=false∧w.frozen? ⟨k,2,none⟩=false∧w.frozen? ⟨k,3,none⟩=false∧w.frozen? ⟨k,4,none⟩=false∧w.frozen? ⟨k,5,none⟩=false∧w.frozen? ⟨k,6,none⟩=false∧w.frozen? ⟨k,7,none⟩=false∧w.frozen? ⟨k,8,none⟩=false∧w.frozen? ⟨k,9,none⟩=false∧w.frozen? ⟨k,10,none⟩=false∧w.frozen? ⟨k,11,none⟩=false∧w.frozen? ⟨k,12,none⟩=false∧w.frozen? ⟨k,13,none⟩=false∧w.frozen? ⟨k,14,none⟩=false):=
 ⟨⟨(aK w k 0 _ _ _ h).trans rfl,(aK w k 1 _ _ _ h).trans rfl,(aK w k 2 _ _ _ h).trans rfl,(aK w k 3 _ _ _ h).trans rfl,(aK w k 4 _ _ _ h).trans rfl,(aK w k 5 _ _ _ h).trans rfl,(aK w k 6 _ _ _ h).trans rfl,(aK w k 7 _ _ _ h).trans rfl,(aK w k 8 _ _ _ h).trans rfl,(aK w k 9 _ _ _ h).trans rfl,(aK w k 10 _ _ _ h).trans rfl,(aK w k 11 _ _ _ h).trans rfl,(aK w k 12 _ _ _ h).trans rfl,(aK w k 13 _ _ _ h).trans rfl,(aK w k 14 _ _ _ h).trans rfl⟩,⟨aN w k 0 _ _ h,aN w k 1 _ _ h,aN w k 2 _ _ h,aN w k 3 _ _ h,aN w k 4 _ _ h,aN w k 5 _ _ h,aN w k 6 _ _ h,aN w k 7 _ _ h,aN w k 8 _ _ h,aN w k 9 _ _ h,aN w k 10 _ _ h,aN w k 11 _ _ h,aN w k 12 _ _ h,aN w k 13 _ _ h,aN w k 14 _ _ h⟩⟩
theorem sR {w w2:World} {a b:Obj} (h:Old ((w.alloc a).alloc b) w2):w2.heap[w.heap.size]? =some a∧w2.heap[w.heap.size+1]? =some b∧Old w w2:=by
 have a1:=((Old.refl (w.alloc a)).alloc b).block (aM w a)
 have a2:=aM (w.alloc a) b
 have e:(w.alloc a).heap.size=w.heap.size+1:=by simp
 rw[e] at a2;exact⟨h.block a1,h.block a2,(((Old.refl w).alloc _).alloc _).up h⟩
theorem gD {w w2:World} {a b c:Obj} (h:Old (((w.alloc a).alloc b).alloc c) w2):w2.heap[w.heap.size]? =some a∧w2.heap[w.heap.size+1]? =some b∧w2.heap[w.heap.size+1+1]? =some c∧Old w w2:=by
 have a3:=aM ((w.alloc a).alloc b) c
 have e:((w.alloc a).alloc b).heap.size=w.heap.size+1+1:=by simp
 rw[e] at a3;obtain⟨b1,b2,b3⟩:=sR (((Old.refl ((w.alloc a).alloc b)).alloc c).up h);exact⟨b1,b2,h.block a3,b3⟩
def Tn (w:World) (e:TypeId) (A:Option Addr) (xs:List Value) (K:List Nat):Prop:=
 xs=[]∨∃b off cur fz,A=some ⟨b,off,none⟩∧b∉K∧w.heap[b]? =some (.cells cur e fz)∧∀j u,xs[j]? =some u→cur[off+j]? =some u
theorem Tn.ts {w:World} {e:TypeId} {A:Option Addr} {xs:List Value} {K:List Nat} (h:Tn w e A xs K):Ts w e A xs:=by
 rcases h with h|⟨b,off,cur,fz,h1,_,h2,a⟩
 ·exact bX h
 ·exact bY ⟨b,off,cur,fz,h1,h2,a⟩
theorem Tn.set {w:World} {e:TypeId} {A:Option Addr} {xs:List Value} {K:List Nat} (h:Tn w e A xs K) {k i:Nat} (hk:k∈K) (v:Value):Tn (w.setCell ⟨k,i,none⟩ v) e A xs K:=by
 rcases h with h|⟨b,off,cur,fz,h1,a,h2,c⟩
 ·exact bX h
 ·exact bY ⟨b,off,cur,fz,h1,a,(aL w ⟨k,i,none⟩ b _ (fun e=>a (e▸hk))).trans h2,c⟩
theorem Tn.alloc {w:World} {e:TypeId} {A:Option Addr} {xs:List Value} {K:List Nat} (h:Tn w e A xs K) (o:Obj):Tn (w.alloc o) e A xs K:=by
 rcases h with h|⟨b,off,cur,fz,h1,a,h2,c⟩
 ·exact bX h
 ·exact bY ⟨b,off,cur,fz,h1,a,((Old.refl w).alloc o).block h2,c⟩
theorem Ts.tn2 {w:World} {e c d:TypeId} {A:Option Addr} {xs:List Value} {k1 k2:Nat} {c1 c2:Array Value} {g i:Nat×Nat} (h:Ts w e A xs) (h1:w.heap[k1]? =some (.cells c1 c g)) (n1:e≠c) (h2:w.heap[k2]? =some (.cells c2 d i)) (n2:e≠d):Tn w e A xs [k1,k2]:=by
 rcases h with h|⟨b,off,cur,fz,f,a,hc⟩
 ·exact bX h
 ·refine bY ⟨b,off,cur,fz,f,?_,a,hc⟩;intro hm;simp only[List.mem_cons,List.not_mem_nil,or_false] at hm;rcases hm with rfl|rfl
  ·rw[a] at h1;simp at h1;exact n1 h1.2.1
  ·rw[a] at h2;simp at h2;exact n2 h2.2.1
def xu (w:World) (x:Lf.T) (e:Ending) (w':World):Prop:=∃A c,e= .returned (bZ x A c)∧Ts w' 29 A (ax x.times)∧Old w w'
def C5 (w:World) (x:Lf.T) (s:Int) (e:Ending) (w':World):Prop:=∃A c,e= .returned (.tuple #[bZ x A c,.int .i64 s])∧Ts w' 29 A (ax x.times)∧Old w w'
def mf (w:World) (x:Lf.T) (b:Bool) (e:Ending) (w':World):Prop:=∃A c,e= .returned (.tuple #[bZ x A c,.bool b])∧Ts w' 29 A (ax x.times)∧Old w w'
def Aw (w:World) (x:Lf.T) (s:Int) (b:Bool) (e:Ending) (w':World):Prop:=∃A c,e= .returned (.tuple #[bZ x A c,.int .i64 s,.bool b])∧Ts w' 29 A (ax x.times)∧Old w w'
def DQ (x:Lf.T) (A:Option Addr) (c:Nat):Obj:= .cells #[.int .i64 x.ph,.int .i64 x.inc,.int .i64 x.runs,.int .u64 x.since,.slice A x.times.length c,.int .u64 x.due,.bool x.armed,.int .i64 x.rung,.bool x.halt,.bool x.again] 105 (0,0)
def DP:Obj:= .cells #[.int .i64 0,.int .i64 0,.int .i64 0,.int .u64 0,.slice none 0 0,.int .u64 0,.bool false,.int .i64 0,.bool false,.bool false] 105 (0,0)
def sf (x:Jd):Obj:= .cells #[.string x.nm,.string x.run,.slice x.eA x.env.length x.ec,.slice x.nA x.needs.length x.nc,.bool x.hasR,.string x.ready,.int .i64 x.restart,.int .u64 x.base,.int .u64 x.cap,.int .u64 x.stable,.int .i64 x.burst,.int .u64 x.win,.slice x.lA x.lad.length x.lc,.int .i64 x.line,.int .i64 x.col] 32 (0,0)
structure LS3 (w wx:World) (j:Jd) (x:Lf.T) (A:Option Addr) (c:Nat):Prop where
 bj:wx.heap[w.heap.size]? =some (sf j)
 bl:wx.heap[w.heap.size+1]? =some (DQ x A c)
 br:wx.heap[w.heap.size+1+1]? =some DP
 old:Old w wx
 ts:Ts wx 29 A (ax x.times)
structure LS2 (w wx:World) (x:Lf.T) (A:Option Addr) (c:Nat):Prop where
 bl:wx.heap[w.heap.size]? =some (DQ x A c)
 br:wx.heap[w.heap.size+1]? =some DP
 old:Old w wx
 ts:Ts wx 29 A (ax x.times)
def iP (w:World) (k:Nat) (v0 v1 v2 v3 v4 v5 v6 v7 v8 v9:Value):World:=
 (((((((((w.setCell ⟨k,0,none⟩ v0).setCell ⟨k,1,none⟩ v1).setCell ⟨k,2,none⟩ v2).setCell ⟨k,3,none⟩ v3).setCell ⟨k,4,none⟩ v4).setCell ⟨k,5,none⟩ v5).setCell ⟨k,6,none⟩ v6).setCell ⟨k,7,none⟩ v7).setCell ⟨k,8,none⟩ v8).setCell ⟨k,9,none⟩ v9
section
variable {w : World} {k : Nat} {v0 v1 v2 v3 v4 v5 v6 v7 v8 v9 : Value}
theorem dg {j:Nat} (hj:j≠k):(iP w k v0 v1 v2 v3 v4 v5 v6 v7 v8 v9).heap[j]? =w.heap[j]?:=by
 unfold iP;iterate 10 rw[aL _ _ j _ hj]
theorem gj {r i g f e d c b u8 a:Value} {t:TypeId} (h:w.heap[k]? =some (.cells #[r,i,g,f,e,d,c,b,u8,a] t (0,0))):(iP w k v0 v1 v2 v3 v4 v5 v6 v7 v8 v9).heap[k]? =some (.cells #[v0,v1,v2,v3,v4,v5,v6,v7,v8,v9] t (0,0)):=by
 have j:(w.setCell ⟨k,0,none⟩ v0).heap[k]? =some (.cells #[v0,i,g,f,e,d,c,b,u8,a] t (0,0)):=aO _ k 0 _ _ v0 h
 have h1:((w.setCell ⟨k,0,none⟩ v0).setCell ⟨k,1,none⟩ v1).heap[k]? =some (.cells #[v0,v1,g,f,e,d,c,b,u8,a] t (0,0)):=aO _ k 1 _ _ v1 j
 have h2:(((w.setCell ⟨k,0,none⟩ v0).setCell ⟨k,1,none⟩ v1).setCell ⟨k,2,none⟩ v2).heap[k]? =some (.cells #[v0,v1,v2,f,e,d,c,b,u8,a] t (0,0)):=aO _ k 2 _ _ v2 h1
 have l:((((w.setCell ⟨k,0,none⟩ v0).setCell ⟨k,1,none⟩ v1).setCell ⟨k,2,none⟩ v2).setCell ⟨k,3,none⟩ v3).heap[k]? =some (.cells #[v0,v1,v2,v3,e,d,c,b,u8,a] t (0,0)):=aO _ k 3 _ _ v3 h2
 have m:(((((w.setCell ⟨k,0,none⟩ v0).setCell ⟨k,1,none⟩ v1).setCell ⟨k,2,none⟩ v2).setCell ⟨k,3,none⟩ v3).setCell ⟨k,4,none⟩ v4).heap[k]? =some (.cells #[v0,v1,v2,v3,v4,d,c,b,u8,a] t (0,0)):=aO _ k 4 _ _ v4 l
 have n:((((((w.setCell ⟨k,0,none⟩ v0).setCell ⟨k,1,none⟩ v1).setCell ⟨k,2,none⟩ v2).setCell ⟨k,3,none⟩ v3).setCell ⟨k,4,none⟩ v4).setCell ⟨k,5,none⟩ v5).heap[k]? =some (.cells #[v0,v1,v2,v3,v4,v5,c,b,u8,a] t (0,0)):=aO _ k 5 _ _ v5 m
 have o:(((((((w.setCell ⟨k,0,none⟩ v0).setCell ⟨k,1,none⟩ v1).setCell ⟨k,2,none⟩ v2).setCell ⟨k,3,none⟩ v3).setCell ⟨k,4,none⟩ v4).setCell ⟨k,5,none⟩ v5).setCell ⟨k,6,none⟩ v6).heap[k]? =some (.cells #[v0,v1,v2,v3,v4,v5,v6,b,u8,a] t (0,0)):=aO _ k 6 _ _ v6 n
 have p:((((((((w.setCell ⟨k,0,none⟩ v0).setCell ⟨k,1,none⟩ v1).setCell ⟨k,2,none⟩ v2).setCell ⟨k,3,none⟩ v3).setCell ⟨k,4,none⟩ v4).setCell ⟨k,5,none⟩ v5).setCell ⟨k,6,none⟩ v6).setCell ⟨k,7,none⟩ v7).heap[k]? =some (.cells #[v0,v1,v2,v3,v4,v5,v6,v7,u8,a] t (0,0)):=aO _ k 7 _ _ v7 o
 have q:(((((((((w.setCell ⟨k,0,none⟩ v0).setCell ⟨k,1,none⟩ v1).setCell ⟨k,2,none⟩ v2).setCell ⟨k,3,none⟩ v3).setCell ⟨k,4,none⟩ v4).setCell ⟨k,5,none⟩ v5).setCell ⟨k,6,none⟩ v6).setCell ⟨k,7,none⟩ v7).setCell ⟨k,8,none⟩ v8).heap[k]? =some (.cells #[v0,v1,v2,v3,v4,v5,v6,v7,v8,a] t (0,0)):=aO _ k 8 _ _ v8 p
 exact aO _ k 9 _ _ v9 q
theorem gn {w0:World} (h:Old w0 w) (hk:w0.heap.size≤k):Old w0 (iP w k v0 v1 v2 v3 v4 v5 v6 v7 v8 v9):=
 (((((((((h.setCell hk v0).setCell hk v1).setCell hk v2).setCell hk v3).setCell hk v4).setCell hk v5).setCell hk v6).setCell hk v7).setCell hk v8).setCell hk v9
theorem il {e:TypeId} {A:Option Addr} {xs:List Value} {K:List Nat} (h:Tn w e A xs K) (hk:k∈K):Tn (iP w k v0 v1 v2 v3 v4 v5 v6 v7 v8 v9) e A xs K:=
 (((((((((h.set hk v0).set hk v1).set hk v2).set hk v3).set hk v4).set hk v5).set hk v6).set hk v7).set hk v8).set hk v9
end
def aT (l:List ByteArray):List Value:=l.map Value.string
def ib (l:List (ByteArray×ByteArray)):List Value:=l.flatMap fun p=>[.string p.1,.string p.2]
def ae (x:Jd):List Value:=[.string x.nm,.string x.run,.slice x.eA x.env.length x.ec,.slice x.nA x.needs.length x.nc,.bool x.hasR,.string x.ready,.int .i64 x.restart,.int .u64 x.base,.int .u64 x.cap,.int .u64 x.stable,.int .i64 x.burst,.int .u64 x.win,.slice x.lA x.lad.length x.lc,.int .i64 x.line,.int .i64 x.col]
theorem By (x:Jd):sf x= .cells (ae x).toArray 32 (0,0):=rfl
def dG:Jd:=⟨⟨#[]⟩,⟨#[]⟩,none,[],0,none,[],0,false,⟨#[]⟩,0,0,0,0,0,0,none,[],0,0,0⟩
theorem Own.keeps {w w':World} {base:Nat} {e t:TypeId} {size n:Nat} {v:Value} {xs:List Value} {cs:Array Value} {fz:Nat×Nat} {k:Nat} (b:Own w base e size v n xs) (d:w.grownBy w' v.ownBlock) (c:w.heap[k]? =some (.cells cs t fz)) (hne:e≠t):w'.heap[k]? =some (.cells cs t fz):=by
 rw[d.block k (aQ c) ?_]
 ·exact c
 ·intro hk;rcases b with⟨_,⟨rfl,_⟩|⟨g,cap,f,rfl,_,a,_⟩⟩
  ·simp[Value.ownBlock] at hk
  ·simp[Value.ownBlock] at hk;subst hk;rw[c] at a;simp at a;exact hne a.2.1.symm
structure JC (w0 w:World) (B g k k6:Nat) (l:List Int) (j:Jd):Prop where
 gw:w0.grownBy w (some g)
 gl:g<w0.heap.size
 kk:w0.heap.size≤k
 row:w.heap[k]? =some (sf j)
 k66:w0.heap.size≤k6
 res:w.heap[k6]? =some (sf dG)
 ne:k6≠k
 dk:Dk w B g l
 env:Ts w 67 j.eA (ib j.env)
 needs:Own w w0.heap.size 9 1 (.slice j.nA j.needs.length j.nc) j.needs.length (aT j.needs)
def LO (w0 w:World) (v:Value) (l:List (Int×Int)):Prop:=Own w w0.heap.size 70 2 v l.length (dC l)
theorem kE {a b c:World} {row:Option Nat} (h:a.grownBy b row) (k:b.grownBy c row):a.grownBy c row:=
 ⟨k.os.trans h.os,k.tape.trans h.tape,k.output.trans h.output,bN h.size k.size,fun i d e=>(k.block i (Nat.lt_of_lt_of_le d h.size) e).trans (h.block i d e)⟩
theorem eL {a b c:World} {g:Nat} {row:Option Nat} (h:a.grownBy b (some g)) (k:b.grownBy c row) (f:∀q,row=some q→a.heap.size≤q):a.grownBy c (some g):=
 ⟨k.os.trans h.os,k.tape.trans h.tape,k.output.trans h.output,bN h.size k.size,fun i d hne=>(k.block i (Nat.lt_of_lt_of_le d h.size) (fun e=>by have:=f i e.symm;omega)).trans (h.block i d hne)⟩
theorem jT {a b:World} (h:Old a b):a.grownBy b none:=⟨h.out.os,h.out.tape,h.out.output,h.out.size,fun k hk _=>h.out.block k hk⟩
section
variable {w0 w w' : World} {B g k k6 : Nat} {l l' : List Int} {j j' : Jd}
theorem JC.up (h:JC w0 w B g k k6 l j) (a:Old w w'):JC w0 w' B g k k6 l j:=
 ⟨eL h.gw (jT a) (fun q e=>by cases e),h.gl,h.kk,a.block h.row,h.k66,a.block h.res,h.ne,h.dk.up a,h.env.up a,h.needs.up a⟩
theorem JC.turn (h:JC w0 w B g k k6 l j) (b:Dk w' B g l') (a:w.grownBy w' (some g)):JC w0 w' B g k k6 l' j:=
 ⟨kE h.gw a,h.gl,h.kk,(a.block k (aQ h.row) (fun e=>by injection e with e;have:=h.kk;have:=h.gl;omega)).trans h.row,h.k66,(a.block k6 (aQ h.res) (fun e=>by injection e with e;have:=h.k66;have:=h.gl;omega)).trans h.res,h.ne,b,h.dk.ts a h.env (by decide),h.dk.own a h.needs (by decide)⟩
theorem JC.mk_ (gw:w0.grownBy w (some g)) (gl:g<w0.heap.size) (kk:w0.heap.size≤k) (row:w.heap[k]? =some (sf j)) (k66:w0.heap.size≤k6) (res:w.heap[k6]? =some (sf dG)) (ne:k6≠k) (dk:Dk w B g l) (i:Nat) (v:Value) (hv:(ae j).set i v=ae j')
  (f:Ts w 67 j'.eA (ib j'.env)) (a:Own w w0.heap.size 9 1 (.slice j'.nA j'.needs.length j'.nc) j'.needs.length (aT j'.needs)):JC w0 (w.setCell ⟨k,i,none⟩ v) B g k k6 l j':=by
 have d:w.grownBy (w.setCell ⟨k,i,none⟩ v) (some k):=⟨rfl,rfl,rfl,by simp,fun q _ r=>aL w ⟨k,i,none⟩ q _ (fun e=>r (by simp[e]))⟩
 have h:=aO w k i _ _ v (show w.heap[k]? =some (.cells (ae j).toArray 32 (0,0)) from row)
 have hB:=dk.1
 refine⟨eL gw d (fun q e=>by injection e with e;omega),gl,kk,?_,k66,(aL w ⟨k,i,none⟩ k6 _ ne).trans res,ne,dk.far d (fun e=>by injection e with e;omega) (fun q e=>by injection e with e;omega),?_,?_⟩
 ·rw[h,By,←hv];simp
 ·rcases f with q|⟨b,off,cur,fz,p,o,hc⟩
  ·exact bX q
  ·refine bY ⟨b,off,cur,fz,p,(aL w ⟨k,i,none⟩ b _ (fun e=>?_)).trans o,hc⟩
   subst e;rw[show sf j= .cells (ae j).toArray 32 (0,0) from rfl,o] at row
   simp at row
 ·refine bT a d ?_;cases c:(Value.slice j'.nA j'.needs.length j'.nc).ownBlock with
  |none=>exact bX rfl
  |some q=>
   refine bY (fun e=>?_)
   injection e with e
   subst e;rcases a with⟨_,⟨m,_⟩|⟨t,cap,s,m,_,n,_⟩⟩
   ·rw[m] at c;simp[Value.ownBlock] at c
   ·rw[m] at c;simp[Value.ownBlock] at c;subst c;rw[show sf j= .cells (ae j).toArray 32 (0,0) from rfl,n] at row
    simp at row
theorem JC.put (h:JC w0 w B g k k6 l j) (i:Nat) (v:Value) (hv:(ae j).set i v=ae j') (a:j'.eA=j.eA∧j'.env=j.env) (hn:j'.nA=j.nA∧j'.needs=j.needs∧j'.nc=j.nc):JC w0 (w.setCell ⟨k,i,none⟩ v) B g k k6 l j':=
 JC.mk_ h.gw h.gl h.kk h.row h.k66 h.res h.ne h.dk i v hv (by rw[a.1,a.2];exact h.env) (by rw[hn.1,hn.2.1,hn.2.2];exact h.needs)
theorem JC.putE (h:JC w0 w B g k k6 l j) {A:Option Addr} {c:Nat} {env:List (ByteArray×ByteArray)} (a:Ts w 67 A (ib env)):JC w0 (w.setCell ⟨k,2,none⟩ (.slice A env.length c)) B g k k6 l {j with eA:=A,env:=env,ec:=c}:=
 JC.mk_ h.gw h.gl h.kk h.row h.k66 h.res h.ne h.dk 2 _ rfl a h.needs
theorem JC.pushL (h:JC w0 w B g k k6 l j) {v:Value} {n:Nat} {xs:List Value} (b:Own w w0.heap.size 70 2 v n xs) (a:w.grownBy w' v.ownBlock):JC w0 w' B g k k6 l j:=
 ⟨eL h.gw a (fun q e=>(bU b q e).1),h.gl,h.kk,b.keeps a h.row (by decide),h.k66,b.keeps a h.res (by decide),h.ne,h.dk.push b (by decide) (by have:=h.dk.1;have:=h.gl;omega) a,h.env.grown b (by decide) a,h.needs.grown b (by decide) a⟩
theorem LO.up {v:Value} {r:List (Int×Int)} (h:LO w0 w v r) (a:Old w w'):LO w0 w' v r:=Own.up h a
theorem LO.turn {v:Value} {r:List (Int×Int)} (h:LO w0 w v r) (hc:JC w0 w B g k k6 l j) (a:w.grownBy w' (some g)):LO w0 w' v r:=hc.dk.own a h (by decide)
theorem LO.put {v:Value} {r:List (Int×Int)} (h:LO w0 w v r) (hc:JC w0 w B g k k6 l j) (i:Nat) (u:Value):LO w0 (w.setCell ⟨k,i,none⟩ u) v r:=by
 have b:w.grownBy (w.setCell ⟨k,i,none⟩ u) (some k):=⟨rfl,rfl,rfl,by simp,fun q _ c=>aL w ⟨k,i,none⟩ q _ (fun e=>c (by simp[e]))⟩
 refine bT h b ?_;cases hv:v.ownBlock with
 |none=>exact bX rfl
 |some q=>
  refine bY (fun e=>?_)
  injection e with e
  subst e;rcases h with⟨_,⟨rfl,_⟩|⟨f,cap,d,rfl,_,a,_⟩⟩
  ·simp[Value.ownBlock] at hv
  ·simp[Value.ownBlock] at hv;subst hv;have:=hc.row;rw[show sf j= .cells (ae j).toArray 32 (0,0) from rfl,a] at this
   simp at this
end
theorem Ae {p q:ByteArray} (h:p≠q):(p.toList==q.toList)=false:=by
 rw[beq_eq_false_iff_ne];intro e;rw[ByteArray.toList_eq,ByteArray.toList_eq] at e;exact h (ByteArray.ext (Array.toList_inj.mp e))
theorem gE (l:List ByteArray):(aT l).length=l.length:=by simp[aT]
theorem jL (l:List ByteArray) (i:Nat) (h:i<l.length):(aT l)[i]? =some (.string (l.getD i ⟨#[]⟩)):=by
 unfold aT;rw[List.getElem?_map,bD,bE h];rfl
structure JM (w:World) (j:Jd):Prop where
 env:Rs w j.eA (ib j.env)
 needs:Rs w j.nA (aT j.needs)
 lad:Rs w j.lA (dC j.lad)
 eb:j.env.length≤9223372036854775807
 nb:j.needs.length≤9223372036854775807
 lb:j.lad.length≤9223372036854775807
theorem JM.up {w w':World} {j:Jd} (h:JM w j) (a:Old w w'):JM w' j:=⟨h.env.up a,h.needs.up a,h.lad.up a,h.eb,h.nb,h.lb⟩
theorem CM (p q:ByteArray):(p.toList==q.toList)=decide (p=q):=by
 by_cases h:p=q
 ·subst h;simp
 ·rw[Ae h,decide_eq_false h]
def i7 (l:List Jd):List Value:=l.flatMap ae
theorem cf (j:Jd):(ae j).length=15:=rfl
theorem pv (l:List Jd):(i7 l).length=15*l.length:=by
 unfold i7
 induction l with
 |nil=>rfl
 |cons a l ih=>simp only[List.flatMap_cons,bF,List.length_cons,ih,cf];omega
theorem vK:∀(l:List Jd) (i n:Nat) (v:Value),i<l.length→(ae (l.getD i dG))[n]? =some v→(i7 l)[i*15+n]? =some v:=by
 intro l
 induction l with
 |nil=>intro i n v h;simp at h
 |cons a l ih=>
  intro i n v h hv;unfold i7 at *;cases i with
  |zero=>
   have hn:n<15:=(List.getElem?_eq_some_iff.mp hv).1
   rw[List.flatMap_cons,Nat.zero_mul,Nat.zero_add,bJ (by rw[cf];exact hn)]
   exact hv
  |succ i=>
   rw[List.flatMap_cons,List.getElem?_append_right (by rw[cf];omega),cf,show(i+1)*15+n-15=i*15+n by omega]
   exact ih i n v (by simpa using h) hv
structure JL (w:World) (A:Option Addr) (l:List Jd):Prop where
 cells:Rs w A (i7 l)
 mem:∀j∈l,JM w j
 few:l.length≤68719476736
theorem JL.up {w w':World} {A:Option Addr} {l:List Jd} (h:JL w A l) (a:Old w w'):JL w' A l:=⟨h.cells.up a,fun j hj=>(h.mem j hj).up a,h.few⟩
theorem JL.at_ {w:World} {A:Option Addr} {l:List Jd} (h:JL w A l) {i:Nat} (a:i<l.length):JM w (l.getD i dG):=
 h.mem _ (by rw[bD,bE a];exact bH a)
def Ci (w:World) (b o:Nat) (j:Jd):Prop:=w.cell? ⟨b,o,none⟩=some (.string j.nm)∧w.cell? ⟨b,o+1,none⟩=some (.string j.run)∧w.cell? ⟨b,o+2,none⟩=some (.slice j.eA j.env.length j.ec)∧w.cell? ⟨b,o+3,none⟩=some (.slice j.nA j.needs.length j.nc)∧w.cell? ⟨b,o+4,none⟩=some (.bool j.hasR)∧w.cell? ⟨b,o+5,none⟩=some (.string j.ready)∧w.cell? ⟨b,o+6,none⟩=some (.int .i64 j.restart)∧w.cell? ⟨b,o+7,none⟩=some (.int .u64 j.base)∧w.cell? ⟨b,o+8,none⟩=some (.int .u64 j.cap)∧w.cell? ⟨b,o+9,none⟩=some (.int .u64 j.stable)∧w.cell? ⟨b,o+10,none⟩=some (.int .i64 j.burst)∧w.cell? ⟨b,o+11,none⟩=some (.int .u64 j.win)∧w.cell? ⟨b,o+12,none⟩=some (.slice j.lA j.lad.length j.lc)∧w.cell? ⟨b,o+13,none⟩=some (.int .i64 j.line)∧w.cell? ⟨b,o+14,none⟩=some (.int .i64 j.col)
theorem JL.row {w:World} {A:Option Addr} {l:List Jd} (h:JL w A l) (e:0<l.length):
  ∃b off,A=some ⟨b,off,none⟩∧b<w.heap.size∧∀i,i<l.length→Ci w b (off+i*15) (l.getD i dG):=by
 obtain⟨b,off,rfl,c,hc⟩:=h.cells.at_ (by rw[pv];omega)
 have a:b<w.heap.size:=c
 refine⟨b,off,rfl,a,fun i d=>?_⟩
 have k:=fun n v (hv:(ae (l.getD i dG))[n]? =some v)=>hc _ _ (vK l i n v d hv)
 exact⟨k 0 _ rfl,k 1 _ rfl,k 2 _ rfl,k 3 _ rfl,k 4 _ rfl,k 5 _ rfl,k 6 _ rfl,k 7 _ rfl,k 8 _ rfl,k 9 _ rfl,k 10 _ rfl,k 11 _ rfl,k 12 _ rfl,k 13 _ rfl,k 14 _ rfl⟩
def Dg (l:List Jd) (nm:ByteArray) (r:Int):Prop:=
 (r= -1∧∀j,j<l.length→(l.getD j dG).nm≠nm)∨∃k:Nat,k<l.length∧r=(k:Int)∧(l.getD k dG).nm=nm∧∀j,j<k→(l.getD j dG).nm≠nm
def om (l:List Jd) (nm:ByteArray) (w:World) (e:Ending) (w':World):Prop:=∃r:Int,e= .returned (.int .i64 r)∧Dg l nm r∧Old w w'
namespace Gp
theorem zw:∀{l m:List Int},l.Pairwise (· < ·)→m.Pairwise (· < ·)→(∀x,x∈l↔x∈m)→l=m:=by
 intro l
 induction l with
 |nil=>
  intro m _ _ h;cases m with
  |nil=>rfl
  |cons b m=>exact absurd ((h b).mpr (List.mem_cons_self ..)) (List.not_mem_nil)
 |cons a l ih=>
  intro m c hm h;cases m with
  |nil=>exact absurd ((h a).mp (List.mem_cons_self ..)) (List.not_mem_nil)
  |cons b m=>
   rw[List.pairwise_cons] at c hm;have f:a=b:=by
    rcases List.mem_cons.mp ((h a).mp (List.mem_cons_self ..)) with e|e
    ·exact e
    ·rcases List.mem_cons.mp ((h b).mpr (List.mem_cons_self ..)) with d|d
     ·exact d.symm
     ·have h1:=hm.1 a e
      have h2:=c.1 b d
      omega
   subst f;rw[ih c.2 hm.2 (fun x=>?_)]
   constructor
   ·intro hx;rcases List.mem_cons.mp ((h x).mp (List.mem_cons_of_mem _ hx)) with e|e
    ·subst e;exact absurd (c.1 x hx) (by omega)
    ·exact e
   ·intro hx;rcases List.mem_cons.mp ((h x).mpr (List.mem_cons_of_mem _ hx)) with e|e
    ·subst e;exact absurd (hm.1 x hx) (by omega)
    ·exact e
open Go.Lib in
theorem ue (d:Array Int) (hs:∀i j,i≤j→j<d.size→d[i]!≤d[j]!):∀m,m≤d.size→(compactUpTo d m).Pairwise (· < ·)∧∀x,x∈compactUpTo d m↔ ∃j,j<m∧d[j]! =x:=by
 intro m
 induction m with
 |zero=>intro _;exact⟨by simp[compactUpTo],fun x=>by simp[compactUpTo]⟩
 |succ m ih=>
  intro hm;obtain⟨h1,h2⟩:=ih (by omega)
  rw[compactUpTo_succ]
  by_cases hk:keeps d m=true
  ·rw[if_pos hk];refine⟨?_,fun x=>?_⟩
   ·rw[List.pairwise_append];refine⟨h1,List.pairwise_singleton _ _,fun x hx y hy=>?_⟩
    rw[List.mem_singleton] at hy;subst hy;obtain⟨j,hj,rfl⟩:=(h2 x).mp hx;have hne:d[m]!≠d[m-1]!:=by
     unfold keeps at hk;rw[decide_eq_true_eq] at hk;rcases hk with h|h
     ·omega
     ·exact h
    have a1:=hs j (m-1) (by omega) (by omega)
    have a2:=hs (m-1) m (by omega) (by omega)
    omega
   ·rw[List.mem_append,List.mem_singleton,h2];constructor
    ·rintro(⟨j,hj,e⟩|e)
     ·exact⟨j,by omega,e⟩
     ·exact⟨m,by omega,e.symm⟩
    ·rintro⟨j,hj,e⟩
     by_cases hjm:j<m
     ·exact bX ⟨j,hjm,e⟩
     ·obtain rfl:j=m:=by omega
      exact bY e.symm
  ·rw[if_neg hk,List.append_nil];refine⟨h1,fun x=>?_⟩
   rw[h2];constructor
   ·rintro⟨j,hj,e⟩;exact⟨j,by omega,e⟩
   ·rintro⟨j,hj,e⟩
    by_cases hjm:j<m
    ·exact⟨j,hjm,e⟩
    ·obtain rfl:j=m:=by omega
     have hk2:j≠0∧d[j]! =d[j-1]!:=by
      unfold keeps at hk;rw[decide_eq_true_eq] at hk;constructor
      ·exact fun e=>hk (bX e)
      ·exact Decidable.of_not_not (fun e=>hk (bY e))
     exact⟨j-1,by omega,by rw[←hk2.2];exact e⟩
theorem th {l:List Int} (h:l.Pairwise (· ≤ ·)):∀i j,i≤j→j<l.toArray.size→l.toArray[i]!≤l.toArray[j]!:=by
 intro i j b hj;have a:j<l.length:=by simpa using hj
 rw[getElem!_pos l.toArray i (by simp;omega),getElem!_pos l.toArray j hj]
 simp only[List.getElem_toArray]
 by_cases e:i=j
 ·subst e;exact Int.le_refl _
 ·exact(List.pairwise_iff_getElem.mp h) i j (by omega) a (by omega)
open Go.Lib in
theorem nY {zs as_:List Int} (ha:as_.Pairwise (· < ·)) (hm:∀x,x∈zs↔x∈as_):compact (zs.mergeSort fun x y=>decide (x≤y))=as_:=by
 have hs:(zs.mergeSort fun x y=>decide (x≤y)).Pairwise (· ≤ ·):=by
  have:=List.pairwise_mergeSort (le:=fun x y:Int=>decide (x≤y)) (by intro a b c h1 h2;simp at h1 h2 ⊢;omega) (by intro a b;simp;omega) zs
  exact this.imp (by intro a b h;simpa using h)
 obtain⟨h1,h2⟩:=ue (zs.mergeSort fun x y=>decide (x≤y)).toArray (th hs) _ (bM _)
 have hsz:(zs.mergeSort fun x y=>decide (x≤y)).toArray.size=(zs.mergeSort fun x y=>decide (x≤y)).length:=by simp
 unfold compact;rw[hsz] at h1 h2;refine zw h1 ha (fun x=>?_)
 rw[h2,←hm x,←(List.mergeSort_perm zs _).mem_iff];constructor
 ·rintro⟨j,hj,rfl⟩;rw[getElem!_pos _ j (by simpa using hj),List.getElem_toArray]
  exact bH _
 ·intro hx;obtain⟨j,hj,e⟩:=List.getElem_of_mem hx;exact⟨j,hj,by rw[getElem!_pos _ j (by simpa using hj)];simpa using e⟩
def ix (l:List Jd) (nm:ByteArray):Option Nat:=l.findIdx? fun j=>decide (j.nm=nm)
def raw (l:List Jd) (i:Nat):List Nat:=(l.getD i dG).needs.filterMap (ix l)
def needs (l:List Jd) (i:Nat):List Nat:=(List.range l.length).filter fun k=>(raw l i).contains k
theorem ix_of {l:List Jd} {nm:ByteArray} {r:Int} (h:Dg l nm r):(r= -1∧ix l nm=none)∨∃k:Nat,k<l.length∧r=(k:Int)∧ix l nm=some k:=by
 rcases h with⟨h1,h2⟩|⟨k,h1,h2,a,b⟩
 ·refine bX ⟨h1,?_⟩;unfold ix;rw[List.findIdx?_eq_none_iff];intro x hx;obtain⟨j,hj,rfl⟩:=List.getElem_of_mem hx;have:=h2 j hj;rw[bD,bE hj] at this;simpa using this
 ·refine bY ⟨k,h1,h2,?_⟩;unfold ix;rw[List.findIdx?_eq_some_iff_getElem];refine⟨h1,?_,?_⟩
  ·rw[bD,bE h1] at a;simpa using a
  ·intro j hj;have:=b j hj;rw[bD,bE (by omega)] at this
   simpa using this
theorem ix_lt {l:List Jd} {nm:ByteArray} {k:Nat} (h:ix l nm=some k):k<l.length:=by
 unfold ix at h;rw[List.findIdx?_eq_some_iff_getElem] at h;exact h.1
theorem Ba {l:List Jd} {i k:Nat} (h:k∈raw l i):k<l.length:=by
 unfold raw at h;obtain⟨nm,_,e⟩:=List.mem_filterMap.mp h;exact ix_lt e
theorem tG (l:List Jd) (i:Nat):((needs l i).map fun k:Nat=>(k:Int)).Pairwise (· < ·):=by
 rw[List.pairwise_map];exact(List.pairwise_lt_range.filter _).imp (by intro a b h;omega)
theorem tF {l:List Jd} {i:Nat} (x:Int):x∈(raw l i).map (fun k:Nat=>(k:Int))↔x∈(needs l i).map fun k:Nat=>(k:Int):=by
 simp only[List.mem_map];constructor
 ·rintro⟨k,hk,rfl⟩;exact⟨k,by unfold needs;rw[List.mem_filter,List.mem_range];exact⟨Ba hk,by simpa using hk⟩,rfl⟩
 ·rintro⟨k,hk,rfl⟩;unfold needs at hk;rw[List.mem_filter] at hk;exact⟨k,by simpa using hk.2,rfl⟩
open Go.Lib in
theorem needs_eq (l:List Jd) (i:Nat):compact (((raw l i).map fun k:Nat=>(k:Int)).mergeSort fun x y=>decide (x≤y))=(needs l i).map fun k:Nat=>(k:Int):=
 nY (tG l i) (fun x=>tF x)
end Gp
end Go.Proofs.YtfchjdnpbgpfpaaGreatDoor
namespace Go.Proofs.YtfchjdnpbgpfpaaGreatDoor
open Go.RowKit Go.Sort
set_option linter.unusedVariables false
theorem mJ {w:World} {base g n c:Nat} {e:TypeId} {l:List Int} (h:Own w base e 1 (.slice (some ⟨g,0,none⟩) n c) n (aY l)):Holds (Value.int .i64) w g 0 l.toArray:=by
 intro j hj;have a:j<l.length:=by simpa using hj
 have b:(aY l)[j]? =some (.int .i64 l.toArray[j]!):=by
  rw[jA l j a,getElem!_pos l.toArray j hj,bD,bE a];simp
 have:=h.cellAt b
 rw[Nat.zero_add];exact this
theorem rN {w:World} {base g n c:Nat} {e:TypeId} {l l':List Int} (h:Own w base e 1 (.slice (some ⟨g,0,none⟩) n c) n (aY l)) (p:l'.length=n) (k:Nat) (os:Array Obj):
  Own (grow (putRow (Value.int .i64) (Sort.ahead w k) g 0 l'.toArray) os) base e 1 (.slice (some ⟨g,0,none⟩) n c) n (aY l')∧w.grownBy (grow (putRow (Value.int .i64) (Sort.ahead w k) g 0 l'.toArray) os) (some g):=by
 rcases h with⟨h1,⟨h2,_⟩|⟨q,cap,cur,h2,r,m,hn,hm,hs,hx⟩⟩
 ·cases h2
 ·injection h2 with e1 e2 e3
  injection e1 with e1
  injection e1 with e1
  subst e1;subst e3;have i:=aQ m;have o:(grow (putRow (Value.int .i64) (Sort.ahead w k) g 0 l'.toArray) os).heap[g]? =some (.cells (putCells (Value.int .i64) 0 l'.toArray cur) e (0,0)):=by
   rw[heap_grow_old _ _ (by simp[putRow,mapBlock,Sort.ahead];exact i)]
   unfold putRow mapBlock Sort.ahead;simp only[Array.getElem?_modify,if_true,m,Option.map_some,onCells]
  refine⟨⟨by simp[aY,p],bY ⟨g,c,_,rfl,r,o,hn,hm,by simp[putCells,hs],?_⟩⟩,rfl,rfl,rfl,by simp[putRow,mapBlock,Sort.ahead],fun b d hne=>?_⟩
  ·apply List.ext_getElem?;intro j;rw[List.getElem?_take]
   by_cases hj:j<n*1
   ·rw[if_pos hj];have a:j<l'.length:=by omega
    have f:j<cur.size:=by rw[hs];omega
    rw[jA l' j a];simp only[putCells,Array.getElem?_toList,Array.getElem?_mapIdx,Array.getElem?_eq_getElem f,Option.map_some];rw[if_pos ⟨bO _,by simp;exact a⟩,Nat.sub_zero,getElem!_pos l'.toArray j (by simpa using a),bD,bE a]
    simp
   ·rw[if_neg hj,bI (by simp[aY];omega)]
  ·rw[heap_grow_old _ _ (by simp[putRow,mapBlock,Sort.ahead];exact d)]
   unfold putRow mapBlock Sort.ahead;simp only[Array.getElem?_modify];rw[if_neg (fun e=>hne (by rw[e]))]
end Go.Proofs.YtfchjdnpbgpfpaaGreatDoor
namespace Go.Proofs
open Go.Shelf
def Tryz.lays189_ren:Go.Shelf.Ren:=⟨fun|189=>55|125=>117|257=>116|128=>183|129=>184|294=>174|295=>175|296=>176|297=>177|298=>178|299=>179|216=>180|300=>181|301=>182|328=>212|329=>213|330=>214|331=>215|332=>216|215=>217|343=>238|n=>n,fun|28=>22|3=>3|46=>232|0=>0|51=>294|53=>29|4=>4|183=>287|182=>286|131=>109|5=>5|9=>9|218=>325|222=>328|228=>346|229=>347|n=>n,fun|n=>n⟩
theorem Tryz.lays189:Go.Proofs.Lays.n189 Tryz.prog Tryz.lays189_ren:={
 mixed:=by kernel_rfl
 f125:=Tryz.func117.trans (congrArg some (by kernel_rfl))
 f128:=Tryz.func183.trans (congrArg some (by kernel_rfl))
 f129:=Tryz.func184.trans (congrArg some (by kernel_rfl))
 f189:=Tryz.func55.trans (congrArg some (by kernel_rfl))
 f215:=Tryz.func217.trans (congrArg some (by kernel_rfl))
 f216:=Tryz.func180.trans (congrArg some (by kernel_rfl))
 f257:=Tryz.func116.trans (congrArg some (by kernel_rfl))
 f294:=Tryz.func174.trans (congrArg some (by kernel_rfl))
 f295:=Tryz.func175.trans (congrArg some (by kernel_rfl))
 f296:=Tryz.func176.trans (congrArg some (by kernel_rfl))
 f297:=Tryz.func177.trans (congrArg some (by kernel_rfl))
 f298:=Tryz.func178.trans (congrArg some (by kernel_rfl))
 f299:=Tryz.func179.trans (congrArg some (by kernel_rfl))
 f300:=Tryz.func181.trans (congrArg some (by kernel_rfl))
 f301:=Tryz.func182.trans (congrArg some (by kernel_rfl))
 f328:=Tryz.func212.trans (congrArg some (by kernel_rfl))
 f329:=Tryz.func213.trans (congrArg some (by kernel_rfl))
 f330:=Tryz.func214.trans (congrArg some (by kernel_rfl))
 f331:=Tryz.func215.trans (congrArg some (by kernel_rfl))
 f332:=Tryz.func216.trans (congrArg some (by kernel_rfl))
 f343:=Tryz.func238.trans (congrArg some (by kernel_rfl))
 t0:=Tryz.underlying0
 a0:=Tryz.isAgg0
 z0:=Tryz.sizeOf0
 v0:=Tryz.zeroValue0
 t3:=Tryz.underlying3
 a3:=Tryz.isAgg3
 z3:=Tryz.sizeOf3
 v3:=Tryz.zeroValue3
 t4:=Tryz.underlying4
 a4:=Tryz.isAgg4
 z4:=Tryz.sizeOf4
 v4:=Tryz.zeroValue4
 t5:=Tryz.underlying5
 a5:=Tryz.isAgg5
 z5:=Tryz.sizeOf5
 v5:=Tryz.zeroValue5
 t9:=Tryz.underlying9
 a9:=Tryz.isAgg9
 z9:=Tryz.sizeOf9
 v9:=Tryz.zeroValue9
 t28:=Tryz.underlying22
 a28:=Tryz.isAgg22
 z28:=Tryz.sizeOf22
 v28:=Tryz.zeroValue22
 t46:=Tryz.underlying232
 a46:=Tryz.isAgg232
 z46:=Tryz.sizeOf232
 v46:=Tryz.zeroValue232
 t51:=Tryz.underlying294
 a51:=Tryz.isAgg294
 z51:=Tryz.sizeOf294
 v51:=Tryz.zeroValue294
 t53:=Tryz.underlying29
 a53:=Tryz.isAgg29
 z53:=Tryz.sizeOf29
 v53:=Tryz.zeroValue29
 t131:=Tryz.underlying109
 a131:=Tryz.isAgg109
 z131:=Tryz.sizeOf109
 v131:=Tryz.zeroValue109
 t182:=Tryz.underlying286
 a182:=Tryz.isAgg286
 z182:=Tryz.sizeOf286
 v182:=Tryz.zeroValue286
 t183:=Tryz.underlying287
 a183:=Tryz.isAgg287
 z183:=Tryz.sizeOf287
 v183:=Tryz.zeroValue287
 t218:=Tryz.underlying325
 a218:=Tryz.isAgg325
 z218:=Tryz.sizeOf325
 v218:=Tryz.zeroValue325
 t222:=Tryz.underlying328
 a222:=Tryz.isAgg328
 z222:=Tryz.sizeOf328
 v222:=Tryz.zeroValue328
 t228:=Tryz.underlying346
 a228:=Tryz.isAgg346
 z228:=Tryz.sizeOf346
 v228:=Tryz.zeroValue346
 t229:=Tryz.underlying347
 a229:=Tryz.isAgg347
 z229:=Tryz.sizeOf347
 v229:=Tryz.zeroValue347}
open Go.Sort Go.RowKit in
theorem Tryz.slices_Sort_int (blk off cap:Nat) (zs:List Int) (w:World) (hH:Holds (Value.int .i64) w blk off zs.toArray) (hblk:blk<w.heap.size) (hsz:zs.length<4611686018427387904):
  Calls Tryz.prog 55 #[.slice (some ⟨blk,off,none⟩) zs.length cap] w fun e w'=>
   e= .returned (.tuple #[])∧∃n os,w'=grow (putRow (Value.int .i64) (Sort.ahead w n) blk off (zs.mergeSort fun x y=>decide (x≤y)).toArray) os:=Any.slices_Sort_int Tryz.lays189 blk off cap zs w hH hblk hsz
def Tryz.laysNm220_ren:Go.Shelf.Ren:=⟨fun|20=>56|n=>n,fun|22=>22|3=>3|4=>4|0=>0|n=>n,fun|n=>n⟩
theorem Tryz.laysNm220:Go.Proofs.Lays2.n20 Tryz.prog Tryz.laysNm220_ren:={
 mixed:=by kernel_rfl
 f20:=Tryz.func56.trans (congrArg some (by kernel_rfl))
 t0:=Tryz.underlying0
 a0:=Tryz.isAgg0
 z0:=Tryz.sizeOf0
 v0:=Tryz.zeroValue0
 t3:=Tryz.underlying3
 a3:=Tryz.isAgg3
 z3:=Tryz.sizeOf3
 v3:=Tryz.zeroValue3
 t4:=Tryz.underlying4
 a4:=Tryz.isAgg4
 z4:=Tryz.sizeOf4
 v4:=Tryz.zeroValue4
 t22:=Tryz.underlying22
 a22:=Tryz.isAgg22
 z22:=Tryz.sizeOf22
 v22:=Tryz.zeroValue22
 i3:=by kernel_rfl}
open Go.RowKit Go.Lib Go.Sort in
theorem Tryz.slices_Compact_int (blk off cap:Nat) (zs:List Int) (w:World) (hH:Holds (Value.int .i64) w blk off zs.toArray) (hsz:zs.length≤9223372036854775807) (hcap:zs.length≤cap):
  Calls Tryz.prog 56 #[.slice (some ⟨blk,off,none⟩) zs.length cap] w fun e w'=>e= .returned (.slice (some ⟨blk,off,none⟩) (Lib.compact zs).length cap)∧∃q,w'=putRow (Value.int .i64) (Sort.ahead w q) blk off (Lib.compact zs++List.replicate (zs.length-(Lib.compact zs).length) 0).toArray:=Any.slices_Compact_int Tryz.laysNm220 blk off cap zs w hH hsz hcap
open Go.RowKit Go.Lib Go.Sort in
theorem Tryz.slices_Compact_int_empty (a:Option Addr) (cap:Nat) (w:World):
  Calls Tryz.prog 56 #[.slice a 0 cap] w fun e w'=>e= .returned (.slice a 0 cap)∧w'=w:=Any.slices_Compact_int_empty Tryz.laysNm220 a cap w
open Go.RowKit Go.Sort in
theorem Tryz.slices_Sort_int_none (p:Option Addr) (cap:Nat) (w:World):
  Calls Tryz.prog 55 #[.slice p 0 cap] w fun e w'=>e= .returned (.tuple #[])∧w'=w:=Any.slices_Sort_int_none Tryz.lays189 p cap w
end Go.Proofs
namespace Go.Proofs.YtfchjdnpbgpfpaaGreatDoor
open Go.RowKit Go.Shelf
set_option linter.unusedVariables false
theorem iK:(Tryz.prog.info? 3).map (fun i=>(i.zero,i.size,i.bytes))=some (some (.int .i64 0),1,8):=by kernel_rfl
theorem wd (j:Jd) (nm:ByteArray) (b:Nat) (w:World) (h1:w.cell? ⟨b,0,none⟩=some (.string nm)):
  Calls Tryz.prog 115 #[fU j,.pointer (some ⟨b,0,none⟩)] w fun e w'=>e= .returned (.bool (decide (j.nm=nm)))∧Old w w':=by
 have a:=aJ (CM j.nm nm)
 have c:b<w.heap.size:=World.block_lt_of_cell? _ _ h1
 unfold fU;go_enter Tryz.func115,Tryz.ntmps115;go_wp2_with fail;go_ret;exact⟨ik a.out,(Old.refl w).alloc _⟩
theorem yW (A:Option Addr) (c:Nat) (l:List Jd) (nm:ByteArray) (b1:Nat) (w:World) (G:JL w A l) (h1:w.cell? ⟨b1,0,none⟩=some (.string nm)):
  Calls Tryz.prog 114 #[.slice A l.length c,.func (.func 115) #[] #[.pointer (some ⟨b1,0,none⟩)]] w (om l nm w):=by
 have Q:=aJ G
 have P:=aJ h1
 have O:=G.few
 have p:Hid (∀r w',Dg l nm r→Old w w'→om l nm w (.returned (.int .i64 r)) w'):=aJ (fun r w' a b=>⟨r,rfl,a,b⟩)
 clear G h1;go_enter Tryz.func114,Tryz.ntmps114;go_wp2_with fail;go_loopw [8] (fun i wr=>∃k:Nat,k≤l.length∧i= .int .i64 k∧Hid (Old w wr)∧Hid (∀j,j<k→(l.getD j dG).nm≠nm)) (fun i _=>l.length-(intOf i).toNat)
 case atStart=>exact⟨0,bO _,rfl,aJ (Old.refl _),aJ (fun j hj=>by omega)⟩
 case round=>
  obtain⟨k,hk,rfl,o,D⟩:=hrel
  by_cases B:k<l.length
  ·obtain⟨b,off,rfl,_,d⟩:=(Q.out.up o.out).row (by omega)
   obtain⟨H,c1,c2,I,c4,J,K,L,M,N,q,s,t,u,y⟩:=d k B;have f:=wd (l.getD k dG) nm b1 wr (o.out.cell P.out);have n:Hid (∀j,j=k→(l.getD j dG).nm=(l.getD k dG).nm):=aJ (fun j h=>by rw[h])
   clear d;generalize l.getD k dG=x at *;unfold fU at f
   by_cases m:x.nm=nm
   ·rw[decide_eq_true m] at f;have E:=aJ f;have C:=aJ m;clear f m;go_wp2_with fail;refine(E.out).mono ?_;rintro e w' ⟨rfl,z⟩;have g:=o.out.up z;clear H c1 c2 I c4 J K L M N q s t u y z;go_wp2_with fail;go_ret;exact p.out _ _ (bY ⟨k,B,rfl,(n.out k rfl).trans C.out,D.out⟩) g
   ·rw[decide_eq_false m] at f;have E:=aJ f;have C:=aJ m;clear f m;go_wp2_with fail;refine(E.out).mono ?_;rintro e w' ⟨rfl,z⟩;have g:=aJ (o.out.up z);clear H c1 c2 I c4 J K L M N q s t u y z;go_wp2_with fail;go_roundw
    case rel=>
     refine⟨k+1,by omega,by go_num,g,aJ ?_⟩
     intro j hj
     by_cases F:j<k
     ·exact D.out j F
     ·rw[n.out j (by omega)]
      exact C.out
    case measure=>simp[intOf];omega
  ·obtain rfl:k=l.length:=by omega
   go_wp2_with fail;go_ret;exact p.out _ _ (bX ⟨rfl,D.out⟩) o.out
theorem nS (A:Option Addr) (c:Nat) (l:List Jd) (nm:ByteArray) (w:World) (h:JL w A l):
  Calls Tryz.prog 54 #[.slice A l.length c,.string nm] w (om l nm w):=by
 have f:=(Old.refl w).alloc (.cells #[.string nm] 9)
 have g:=yW A c l nm w.heap.size (w.alloc (.cells #[.string nm] 9)) (h.up f) (aK _ _ 0 _ _ _ (aM w _))
 have j:=aJ g
 have k:=aJ f
 have d:Hid (∀r w',Dg l nm r→Old w w'→om l nm w (.returned (.int .i64 r)) w'):=aJ (fun r w' a b=>⟨r,rfl,a,b⟩)
 clear g h f;go_enter Tryz.func54,Tryz.ntmps54;go_wp2_with fail;refine(j.out).mono ?_;rintro e w2 ⟨r,rfl,i,n⟩;have m:=aJ i;clear i;go_wp2_with fail;go_ret;exact d.out r _ m.out (k.out.up n)
def aW (l:List Nat):List Int:=l.map fun k:Nat=>(k:Int)
def hX (l:List Jd) (a:List ByteArray) (k:Nat):List Int:=aW ((a.take k).filterMap (Gp.ix l))
theorem yi {l:List Jd} {a:List ByteArray} {k:Nat} (hk:k<a.length) (h:Gp.ix l (a.getD k ⟨#[]⟩)=none):hX l a (k+1)=hX l a k:=by
 have e:a.take (k+1)=a.take k++[a.getD k ⟨#[]⟩]:=by
  rw[List.take_succ_eq_append_getElem hk,bD,bE hk];rfl
 unfold hX;rw[e,List.filterMap_append,List.filterMap_cons,h];simp
theorem uZ {l:List Jd} {a:List ByteArray} {k p:Nat} (hk:k<a.length) (h:Gp.ix l (a.getD k ⟨#[]⟩)=some p):hX l a (k+1)=hX l a k++[(p:Int)]:=by
 have e:a.take (k+1)=a.take k++[a.getD k ⟨#[]⟩]:=by
  rw[List.take_succ_eq_append_getElem hk,bD,bE hk];rfl
 unfold hX;rw[e,List.filterMap_append,List.filterMap_cons,h];simp[aW]
theorem oU (l:List Jd) (a:List ByteArray) (k:Nat):(hX l a k).length≤k:=by
 unfold hX aW;rw[bL];have h1:=List.length_filterMap_le (Gp.ix l) (a.take k);have h2:=List.length_take_le k a;omega
theorem mQ (l:List Int) (x:Int):aY l++[.int .i64 x]=aY (l++[x]):=by simp[aY]
theorem pN (zs:List Int):(Go.Lib.compact zs).length≤zs.length:=by
 unfold Go.Lib.compact Go.Lib.compactUpTo;rw[bL];have h:=List.length_filter_le (Go.Lib.keeps zs.toArray) (List.range zs.length);rw[List.length_range] at h;exact h
def xm (w:World) (l:List Jd) (a:List ByteArray) (v i:Value) (wr:World):Prop:=
 ∃(k:Nat) (v1:Value),v1=v∧k≤a.length∧i= .int .i64 (k:Int)∧Hid (Own wr w.heap.size 3 1 v1 (hX l a k).length (aY (hX l a k)))∧Hid (Old w wr)
theorem nR (A:Option Addr) (c:Nat) (l:List Jd) (i:Nat) (w:World) (T:JL w A l) (hi:i<l.length) (hb:(l.getD i dG).needs.length≤1000000):
  Calls Tryz.prog 29 #[.slice A l.length c,.int .i64 (i:Int)] w (me w 3 1 (Gp.needs l i).length (aY (aW (Gp.needs l i)))):=by
 have aa:=aJ (fun W nm (h:Old w W)=>nS A c l nm W (T.up h))
 have ae:=T.few
 obtain⟨b,off,rfl,_,D⟩:=T.row (by omega)
 obtain⟨Q,c1,c2,_,_⟩:=D i hi;have ab:=aJ (T.at_ hi).needs;have j:Hid (hX l (l.getD i dG).needs (l.getD i dG).needs.length=aW (Gp.raw l i)):=aJ (by unfold hX Gp.raw;rw[List.take_length])
 have t:Hid (Go.Lib.compact ((aW (Gp.raw l i)).mergeSort fun x y=>decide (x≤y))=aW (Gp.needs l i)):=aJ (Gp.needs_eq l i)
 clear D T Q c1 c2;generalize (l.getD i dG).nA=NA at *;generalize (l.getD i dG).needs=ns at *;generalize (l.getD i dG).nc=nc at *;generalize Gp.needs l i=nd at *;generalize aW (Gp.raw l i)=zs at *;have af:(i:Int)<(l.length:Int):=by omega
 have ag:decide ((i:Int)<0)=false:=by rw[decide_eq_false_iff_not];omega
 have ah:decide (l.length≤i)=false:=by rw[decide_eq_false_iff_not];omega
 go_enter Tryz.func29,Tryz.ntmps29
 go_wp2_with fail;go_loopw [5,23] (fun v i wr=>xm w l ns v i wr) (fun _ i _=>ns.length-(intOf i).toNat)
 case atStart=>exact⟨0,_,rfl,bO _,rfl,aJ (Own.nil_ w _ _ _),aJ (Old.refl _)⟩
 case round=>
  obtain⟨k,v1,rfl,hk,rfl,HW,C⟩:=hrel
  by_cases I:k<ns.length
  ·obtain⟨b2,_,rfl,_,hc⟩:=(ab.out.up C.out).at_ (by rw[gE];omega)
   have d1:=hc _ _ (jL ns k I)
   have G:Hid (Gp.ix l (ns.getD k ⟨#[]⟩)=none→hX l ns (k+1)=hX l ns k):=aJ (fun h=>yi I h)
   have m:Hid (∀p,Gp.ix l (ns.getD k ⟨#[]⟩)=some p→hX l ns (k+1)=hX l ns k++[(p:Int)]):=aJ (fun p h=>uZ I h)
   have V:=oU l ns k
   clear hc;generalize ns.getD k ⟨#[]⟩=nm at *;go_wp2_with fail;refine(aa.out _ nm C.out).mono ?_;rintro e w1 ⟨r,rfl,hp,hd⟩;have F:=aJ (Gp.ix_of hp);have f:=aJ (C.out.up hd);have u:=aJ (HW.out.up hd);have hsz:=f.out.size;clear hp hd d1 C HW;rcases F.out with⟨rfl,hx⟩|⟨p,hp,rfl,hx⟩
   ·have H:Hid (xm w l ns v1 (.int .i64 ((k+1:Nat):Int)) w1):=aJ ⟨k+1,_,rfl,by omega,rfl,aJ (by rw[G.out hx];exact u.out),f⟩
    clear hx u f F G m;go_wp2_with fail;go_roundw
    case rel=>exact H.out
    case measure=>simp[intOf];omega
   ·have HR:=aJ (m.out p hx)
    clear hx F G m;have ai:decide ((0:Int)≤(p:Int))=true:=by rw[decide_eq_true_eq];omega
    go_wp2_with (at_builtin;refine aE (wr:=w1) rfl _ _ 22 rfl _ 3 (.int .i64 0) 1 8 Tryz.underlying22 iK rfl (by decide) (by decide) _ _ _ rfl u.out 1 1 [.int .i64 (p:Int)] rfl rfl rfl rfl ?pn1 hsz ?_)
    case pn1=>omega
    intro v2 w2 K ac S;rw[mQ,←HR.out] at K;have H:Hid (xm w l ns v2 (.int .i64 ((k+1:Nat):Int)) w2):=aJ ⟨k+1,_,rfl,by omega,rfl,aJ (by rw[show(hX l ns (k+1)).length=(hX l ns k).length+1 by rw[HR.out,bF];rfl];exact K),aJ (S _ f.out (bM _))⟩
    clear K ac S u f HR;go_wp2_with fail;go_roundw
    case rel=>exact H.out
    case measure=>simp[intOf];omega
  ·obtain rfl:k=ns.length:=by omega
   have E:=HW.out
   rw[j.out] at E;have V:=oU l ns ns.length;rw[j.out] at V;clear HW j
   by_cases h0:zs.length=0
   ·obtain rfl:zs=[]:=List.eq_nil_of_length_eq_zero h0;obtain⟨A0,Q,rfl,_,_,_⟩:=E.shape;have J:aW nd=[]:=by rw[←t.out];simp[Go.Lib.compact,Go.Lib.compactUpTo]
    have H:Hid (me w 3 1 nd.length (aY (aW nd)) (.returned (.slice A0 0 Q)) wr):=aJ ⟨_,rfl,by rw[J,show nd.length=0 by simpa [aW] using congrArg List.length J];exact E,C.out⟩
    clear E J C t h0;go_wp2_with fail;refine(Tryz.slices_Sort_int_none A0 Q _).mono ?_;rintro e w2 ⟨rfl,rfl⟩;go_wp2_with fail;refine(Tryz.slices_Compact_int_empty A0 Q _).mono ?_;rintro e w2 ⟨rfl,rfl⟩;go_wp2_with fail;go_ret;exact H.out
   ·obtain⟨g,c2,rfl,_,ad,_,_⟩:=E.form (by omega)
    have B:(zs.mergeSort fun x y=>decide (x≤y)).length=zs.length:=List.length_mergeSort zs
    have O:=aJ (fun n os=>rN (l':=zs.mergeSort fun x y=>decide (x≤y)) E B n os)
    have HS:=aJ (Tryz.slices_Sort_int g 0 c2 zs wr (mJ E) ad (by omega))
    have N:=C
    clear C;go_wp2_with fail;refine(HS.out).mono ?_;rintro e w2 ⟨rfl,n,os,Y⟩;obtain⟨a,o⟩:=O.out n os;rw[←Y] at a o;have M:=aJ (grown_old N.out o (fun q e=>by injection e with e;omega))
    clear Y o O HS E N;have z:=Tryz.slices_Compact_int g 0 c2 (zs.mergeSort fun x y=>decide (x≤y)) w2 (mJ a) (by omega) (by omega)
    have R:=pN (zs.mergeSort fun x y=>decide (x≤y))
    generalize X:(zs.mergeSort fun x y=>decide (x≤y))=srt at *
    rw[t.out] at z R;have U:(aW nd++List.replicate (srt.length-(aW nd).length) (0:Int)).length=zs.length:=by
     rw[bF,List.length_replicate];omega
    have O:=aJ (fun n=>rN (l':=aW nd++List.replicate (srt.length-(aW nd).length) (0:Int)) a U n #[])
    rw[B] at z;have HC:=aJ z;have P:=aJ B;clear z X B a R U h0;go_wp2_with fail;refine(HC.out).mono ?_;rintro e w3 ⟨rfl,q,Z⟩;obtain⟨d,s⟩:=O.out q;rw[Go.Sort.grow_empty,P.out,←Z] at d s;have L:=d.shrink (i:=(aW nd).length) (by have:=d.len;simp[aY] at this;omega)
    rw[Nat.mul_one,show(aY (aW nd++List.replicate (zs.length-(aW nd).length) (0:Int))).take (aW nd).length=aY (aW nd) by unfold aY;rw[List.map_append,List.take_left' (by simp)]] at L
    have H:Hid (me w 3 1 nd.length (aY (aW nd)) (.returned (.slice (some ⟨g,0,none⟩) (aW nd).length c2)) w3):=aJ ⟨_,rfl,by rw[show nd.length=(aW nd).length by simp[aW]];exact L,grown_old M.out s (fun q e=>by injection e with e;omega)⟩
    clear d s L Z O HC M t P;go_wp2_with fail;go_ret;exact H.out
theorem vS:(Tryz.prog.info? 22).map (fun i=>(i.zero,i.size,i.bytes))=some (some (.slice none 0 0),1,24):=by kernel_rfl
theorem Ts.setOtherG {w:World} {e t:TypeId} {A:Option Addr} {xs:List Value} {k i:Nat} {cs:Array Value} {z:Nat×Nat} (h:Ts w e A xs) (hk:w.heap[k]? =some (.cells cs t z)) (hne:e≠t) (v:Value):Ts (w.setCell ⟨k,i,none⟩ v) e A xs:=by
 rcases h with q|⟨b,off,cur,fz,c,a,hc⟩
 ·exact bX q
 ·refine bY ⟨b,off,cur,fz,c,(aL w ⟨k,i,none⟩ b _ (fun e=>?_)).trans a,hc⟩
  subst e;rw[a] at hk;simp at hk;exact hne hk.2.1
def NLs (w:World) (l:List Jd) (cells:List Value) (k:Nat):Prop:=∀i,i<k→∃A c,cells[i]? =some (.slice A (Gp.needs l i).length c)∧Ts w 3 A (aY (aW (Gp.needs l i)))
theorem NLs.up {w w':World} {l:List Jd} {cells:List Value} {k:Nat} (h:NLs w l cells k) (b:Old w w'):NLs w' l cells k:=fun i a=>by
 obtain⟨A,c,h1,h2⟩:=h i a;exact⟨A,c,h1,h2.up b⟩
theorem NLs.put {w:World} {l:List Jd} {cells:List Value} {k g:Nat} {A:Option Addr} {c:Nat} {cs:Array Value} {z:Nat×Nat} (h:NLs w l cells k) (hk:k<cells.length) (a:w.heap[g]? =some (.cells cs 22 z)) (d:Ts w 3 A (aY (aW (Gp.needs l k)))):
  NLs (w.setCell ⟨g,k,none⟩ (.slice A (Gp.needs l k).length c)) l (cells.set k (.slice A (Gp.needs l k).length c)) (k+1):=fun i f=>by
 by_cases e:i=k
 ·subst e;exact⟨A,c,by rw[List.getElem?_set_self hk],d.setOtherG a (by decide) _⟩
 ·obtain⟨A1,c1,h1,h2⟩:=h i (by omega)
  exact⟨A1,c1,by rw[List.getElem?_set_ne (fun b=>e b.symm)];exact h1,h2.setOtherG a (by decide) _⟩
def sM (w:World) (l:List Jd) (e:Ending) (w':World):Prop:=
 ∃(g c:Nat) (cells:List Value),e= .returned (.slice (some ⟨g,0,none⟩) l.length c)∧Own w' w.heap.size 22 1 (.slice (some ⟨g,0,none⟩) l.length c) l.length cells∧NLs w' l cells l.length∧Old w w'
def xD (w:World) (l:List Jd) (g:Nat) (i:Value) (wr:World):Prop:=
 ∃(k:Nat) (cells:List Value),k≤l.length∧i= .int .i64 (k:Int)∧Hid (Own wr w.heap.size 22 1 (.slice (some ⟨g,0,none⟩) l.length l.length) l.length cells)∧Hid (NLs wr l cells k)∧Hid (Old w wr)
theorem wh (A:Option Addr) (c:Nat) (l:List Jd) (w:World) (J:JL w A l) (hn:l.length≤1000000) (H:∀j∈l,j.needs.length≤1000000):
  Calls Tryz.prog 50 #[.slice A l.length c] w (sM w l):=by
 have D:=aJ (fun W i (h:Old w W) (C:i<l.length)=>nR A c l i W (J.up h) C (H _ (by rw[bD,bE C];exact bH C)))
 have t:Hid (∀g c cells w',Own w' w.heap.size 22 1 (.slice (some ⟨g,0,none⟩) l.length c) l.length cells→NLs w' l cells l.length→Old w w'→sM w l (.returned (.slice (some ⟨g,0,none⟩) l.length c)) w'):=aJ (fun g c cells w' h1 h2 O=>⟨g,c,cells,rfl,h1,h2,O⟩)
 clear J H;go_enter Tryz.func50,Tryz.ntmps50;go_wp2_with (at_make;refine dj rfl _ _ 127 rfl 22 (.slice none 0 0) 1 24 Tryz.underlying127 vS (by decide) .i64 .i64 _ _ l.length rfl rfl ?pl1 ?pc1 ?pn1 ?_)
 case pl1=>omega
 case pc1=>omega
 case pn1=>omega
 intro P z y;have a:Hid (xD w l w.heap.size (.int .i64 ((0:Nat):Int)) P):=aJ ⟨0,_,bO _,rfl,aJ z,aJ (fun i C=>by omega),aJ y⟩
 clear z y;obtain⟨g,I⟩:∃g,g=w.heap.size:=⟨_,rfl⟩
 rw[←I] at a ⊢;clear I;go_wp2_with fail;go_loopw [10] (fun i wr=>xD w l g i wr) (fun i _=>l.length-(intOf i).toNat)
 case atStart=>exact a.out
 case round=>
  clear a;obtain⟨k,cells,hk,rfl,x,d,o⟩:=hrel
  by_cases G:k<l.length
  ·have K:(k:Int)<(l.length:Int):=by omega
   go_wp2_with fail;refine(D.out _ k o.out G).mono ?_;rintro e w2 ⟨v,rfl,m,B⟩;obtain⟨A2,c2,rfl,L,_,_⟩:=m.shape;have b:=aJ (x.out.up B);have s:=aJ (d.out.up B);have r:=aJ (o.out.up B);have F:cells.length=l.length:=by have:=x.out.len;omega
   obtain⟨u,M⟩:∃u,cells[k]? =some u:=⟨_,bE (by omega)⟩
   obtain⟨_,fz⟩:=b.out.cellAt M;have hblk:∃cs,w2.heap[g]? =some (.cells cs 22 (0,0)):=by
    rcases b.out with⟨_,⟨e,_⟩|⟨q,cap,N,e,_,f,_⟩⟩
    ·cases e
    ·injection e with e1 e2 e3
     injection e1 with e1
     injection e1 with e1
     subst e1;exact⟨N,f⟩
   obtain⟨cs,f⟩:=hblk;have n:w.heap.size≤g:=(bU b.out g rfl).1;have E:Hid (xD w l g (.int .i64 ((k+1:Nat):Int)) (w2.setCell ⟨g,k,none⟩ (.slice A2 (Gp.needs l k).length c2))):=aJ ⟨k+1,_,by omega,rfl,aJ (b.out.set_ k _).1,aJ (s.out.put (by omega) f L),aJ (r.out.setCell (p:=⟨g,k,none⟩) n _)⟩
   clear x d o b s r m L B f M F;go_wp2_with fail;go_roundw
   case rel=>exact E.out
   case measure=>simp[intOf];omega
  ·obtain rfl:k=l.length:=by omega
   have E:=aJ (t.out g l.length cells wr x.out d.out o.out)
   clear x d o t;go_wp2_with fail;go_ret;exact E.out
def jF (l:List Bool):List Value:=l.map Value.bool
theorem jf (l:List Bool):(jF l).length=l.length:=by simp[jF]
theorem ob (l:List Bool) (i:Nat) (h:i<l.length):(jF l)[i]? =some (.bool (l.getD i false)):=by
 simp[jF,bD,bE h]
theorem eY (l:List Nat):(aW l).length=l.length:=by simp[aW]
theorem gu (l:List Nat) (i:Nat) (h:i<l.length):(aY (aW l))[i]? =some (.int .i64 ((l.getD i 0:Nat):Int)):=by
 rw[jA _ _ (by rw[eY];exact h)]
 simp[aW,bD,bE h]
def Dd (w:World) (b:Nat) (tk:List Bool):Prop:=∃A c,w.cell? ⟨b,0,none⟩=some (.slice A tk.length c)∧Rs w A (jF tk)
def FdR (a:List Nat) (tk:List Bool) (r:Int):Prop:=
 (r= -1∧∀j,j<a.length→tk.getD (a.getD j 0) false=true)∨∃k:Nat,k<a.length∧r=k∧tk.getD (a.getD k 0) false=false∧∀j,j<k→tk.getD (a.getD j 0) false=true
def xB (a:List Nat) (tk:List Bool) (w:World) (e:Ending) (w':World):Prop:=∃r:Int,e= .returned (.int .i64 r)∧FdR a tk r∧w'=w
theorem qO (k:Nat) (tk:List Bool) (b:Nat) (w:World) (h1:Dd w b tk) (hk:k<tk.length) (g:tk.length≤1000000):
  Calls Tryz.prog 101 #[.int .i64 (k:Int),.pointer (some ⟨b,0,none⟩)] w fun e w'=>e= .returned (.bool (!tk.getD k false))∧w'=w:=by
 obtain⟨A,c,_,a⟩:=h1;obtain⟨b2,off,rfl,_,hc⟩:=a.at_ (by rw[jf];omega)
 have f:=hc _ _ (ob tk k hk)
 clear hc a;generalize tk.getD k false=v at *;generalize tk.length=n at *;have d:(k:Int)<(n:Int):=by omega
 go_enter Tryz.func101,Tryz.ntmps101
 go_wp2_with fail;go_ret;exact⟨rfl,rfl⟩
theorem qP (A:Option Addr) (c:Nat) (d:List Nat) (tk:List Bool) (b:Nat) (w:World) (o:Ts w 3 A (aY (aW d))) (h1:Dd w b tk) (u:∀j,j<d.length→d.getD j 0<tk.length) (y:tk.length≤1000000) (E:d.length≤1000000):
  Calls Tryz.prog 131 #[.slice A d.length c,.func (.func 101) #[] #[.pointer (some ⟨b,0,none⟩)]] w (xB d tk w):=by
 have p:=aJ o.rs
 have B:=aJ (fun k hk=>qO k tk b w h1 hk y)
 have z:=aJ u
 have n:Hid (∀r,FdR d tk r→xB d tk w (.returned (.int .i64 r)) w):=aJ (fun r a=>⟨r,rfl,a,rfl⟩)
 clear o h1 u y;go_enter Tryz.func131,Tryz.ntmps131;go_wp2_with fail;go_loopw [8] (fun i wr=>∃k:Nat,k≤d.length∧i= .int .i64 k∧wr=w∧Hid (∀j,j<k→tk.getD (d.getD j 0) false=true)) (fun i _=>d.length-(intOf i).toNat)
 case atStart=>exact⟨0,bO _,rfl,rfl,aJ (fun j hj=>by omega)⟩
 case round=>
  obtain⟨k,hk,rfl,rfl,q⟩:=hrel
  by_cases g:k<d.length
  ·obtain⟨b2,off,rfl,_,hc⟩:=p.out.at_ (by rw[eZ,eY];omega)
   have D:=hc _ _ (gu d k g)
   have l:=B.out _ (z.out k g)
   have f:Hid (∀j,j=k→tk.getD (d.getD j 0) false=tk.getD (d.getD k 0) false):=aJ (fun j h=>by rw[h])
   clear hc;generalize d.getD k 0=x at *
   by_cases m:tk.getD x false=true
   ·rw[m] at l f;have s:=aJ l;clear l m;go_wp2_with fail;refine(s.out).mono ?_;rintro e w' ⟨rfl,rfl⟩;go_wp2_with fail;go_roundw
    case rel=>
     refine⟨k+1,by omega,by go_num,by trivial,aJ ?_⟩
     intro j hj
     by_cases t:j<k
     ·exact q.out j t
     ·exact f.out j (by omega)
    case measure=>simp[intOf];omega
   ·rw[Bool.not_eq_true] at m;rw[m] at l f;have s:=aJ l;have C:=aJ m;clear l m;go_wp2_with fail;refine(s.out).mono ?_;rintro e w' ⟨rfl,rfl⟩;go_wp2_with fail;go_ret;exact n.out _ (bY ⟨k,g,rfl,f.out k rfl,q.out⟩)
  ·obtain rfl:k=d.length:=by omega
   go_wp2_with fail;go_ret;exact n.out _ (bX ⟨rfl,q.out⟩)
theorem FdR.any {a:List Nat} {tk:List Bool} {r:Int} (h:FdR a tk r):decide (0≤r)=a.any fun k=> !tk.getD k false:=by
 rcases h with⟨rfl,h⟩|⟨k,hk,rfl,h,_⟩
 ·rw[show decide ((0:Int)≤ -1)=false from rfl]
  symm
  rw[List.any_eq_false];intro x hx;obtain⟨j,hj,rfl⟩:=List.mem_iff_getElem.mp hx;have:=h j hj;rw[show a.getD j 0=a[j] by simp[bD,bE hj]] at this
  simp only[this,Bool.not_true,Bool.false_eq_true,not_false_eq_true]
 ·rw[decide_eq_true (by omega)]
  symm
  rw[List.any_eq_true];rw[show a.getD k 0=a[k] by simp[bD,bE hk]] at h
  exact⟨a[k],bH hk,by simp only[h,Bool.not_false]⟩
theorem BH (A:Option Addr) (c:Nat) (a:List Nat) (tk:List Bool) (b:Nat) (w:World) (d:Ts w 3 A (aY (aW a))) (h1:Dd w b tk) (g:∀j,j<a.length→a.getD j 0<tk.length) (h:tk.length≤1000000) (m:a.length≤1000000):
  Calls Tryz.prog 102 #[.slice A a.length c,.func (.func 101) #[] #[.pointer (some ⟨b,0,none⟩)]] w fun e w'=>e= .returned (.bool (a.any fun k=> !tk.getD k false))∧w'=w:=by
 have f:=aJ (qP A c a tk b w d h1 g h m)
 clear d h1 g h;go_enter Tryz.func102,Tryz.ntmps102;go_wp2_with fail;refine(f.out).mono ?_;rintro e w' ⟨r,rfl,i,rfl⟩;have l:=aJ i;clear i f;go_wp2_with fail;go_ret;exact⟨ik l.out.any,rfl⟩
namespace Gp
def lacks (a:List Nat) (tk:List Bool):Bool:=a.any fun k=> !tk.getD k false
def fre (a:List (List Nat)) (tk:List Bool) (i:Nat):Bool:= !tk.getD i false&& !lacks (a.getD i []) tk
def ordF (a:List (List Nat)):Nat→List Nat→List Bool→List Nat×List Bool
 |0,l,tk=>(l,tk)
 |f+1,l,tk=>match (List.range a.length).find? (fre a tk) with
  |none=>(l,tk)
  |some i=>ordF a f (l++[i]) (tk.set i true)
def ord (a:List (List Nat)):List Nat×List Bool:=ordF a a.length [] (List.replicate a.length false)
theorem ordF_none {a:List (List Nat)} {tk:List Bool} (h:∀i,i<a.length→fre a tk i=false) (f:Nat) (l:List Nat):ordF a f l tk=(l,tk):=by
 cases f with
 |zero=>rfl
 |succ f=>
  have e:(List.range a.length).find? (fre a tk)=none:=by
   rw[List.find?_range_eq_none];intro i b;rw[h i b];rfl
  rw[ordF,e]
theorem ordF_some {a:List (List Nat)} {tk:List Bool} {i:Nat} (c:i<a.length) (h:fre a tk i=true) (b:∀j,j<i→fre a tk j=false) (f:Nat) (l:List Nat):
  ordF a (f+1) l tk=ordF a f (l++[i]) (tk.set i true):=by
 have e:(List.range a.length).find? (fre a tk)=some i:=by
  rw[List.find?_range_eq_some];refine⟨h,List.mem_range.mpr c,fun j hj=>?_⟩
  rw[b j hj];rfl
 rw[ordF,e]
def wait (tk:List Bool):Nat:=tk.count false
theorem wait_set {tk:List Bool} {i:Nat} (a:i<tk.length) (h:tk.getD i false=false):wait tk=wait (tk.set i true)+1:=by
 unfold wait;have e:tk[i]=false:=by
  rw[bD,bE a] at h;exact h
 rw[List.count_set (h:=a)];have b:0<tk.count false:=List.count_pos_iff.mpr (e▸bH a);simp[e];omega
theorem wait_start (n:Nat):wait (List.replicate n false)=n:=by simp[wait]
end Gp
def NRow (w:World) (A:Option Addr) (a:List (List Nat)):Prop:=∃cells:List Value,cells.length=a.length∧Rs w A cells∧∀i,i<a.length→∃A' c',cells[i]? =some (.slice A' (a.getD i []).length c')∧Ts w 3 A' (aY (aW (a.getD i [])))
theorem NRow.up {w w':World} {A:Option Addr} {b:List (List Nat)} (h:NRow w A b) (a:Old w w'):NRow w' A b:=by
 obtain⟨cells,h1,h2,c⟩:=h;refine⟨cells,h1,h2.up a,fun i f=>?_⟩
 obtain⟨A',c',d,e⟩:=c i f;exact⟨A',c',d,e.up a⟩
structure OJ (w0 w:World) (b g:Nat) (l:List Nat) (tk:List Bool) (v:Value):Prop where
 box:∃fz,w.heap[b]? =some (.cells #[.slice (some ⟨g,0,none⟩) tk.length tk.length] 124 fz)
 row:Own w w0.heap.size 4 1 (.slice (some ⟨g,0,none⟩) tk.length tk.length) tk.length (jF tk)
 lst:Own w w0.heap.size 3 1 v l.length (aY (aW l))
 old:Old w0 w
theorem OJ.tkb {w0 w:World} {b g:Nat} {l:List Nat} {tk:List Bool} {v:Value} (h:OJ w0 w b g l tk v):Dd w b tk:=by
 obtain⟨fz,d⟩:=h.box;refine⟨_,_,aK _ _ 0 _ _ _ d,?_⟩
 by_cases a:tk.length=0
 ·rw[List.eq_nil_of_length_eq_zero a];exact Rs.nil_
 ·obtain⟨A,c,e,t,_,_⟩:=h.row.shape;injection e with e _ _
  rw[e];exact t.rs
theorem OJ.take {w0 w:World} {b g:Nat} {l:List Nat} {tk:List Bool} {v:Value} (h:OJ w0 w b g l tk v) (i:Nat):OJ w0 (w.setCell ⟨g,i,none⟩ (.bool true)) b g l (tk.set i true) v:=by
 have hs:=h.row.set_ i (.bool true)
 obtain⟨fz,a⟩:=h.box;have e:(jF tk).set i (.bool true)=jF (tk.set i true):=by simp[jF,List.map_set]
 refine⟨⟨fz,?_⟩,?_,Own.grown h.lst h.row (by decide) hs.2,Own.grown_old h.old h.row (bM _) hs.2⟩
 ·rw[bK];exact h.row.keeps hs.2 a (by decide)
 ·rw[bK,←e];exact hs.1
theorem OJ.push {w0 w w':World} {b g:Nat} {l:List Nat} {tk:List Bool} {v v':Value} {i:Nat} (h:OJ w0 w b g l tk v) (a:w.grownBy w' v.ownBlock) (d:Own w' w0.heap.size 3 1 v' (l.length+1) (aY (aW l)++[.int .i64 (i:Int)])):
  OJ w0 w' b g (l++[i]) tk v':=by
 obtain⟨fz,c⟩:=h.box;refine⟨⟨fz,h.lst.keeps a c (by decide)⟩,Own.grown h.row h.lst (by decide) a,?_,Own.grown_old h.old h.lst (bM _) a⟩
 rw[bF,show aW (l++[i])=aW l++[(i:Int)] by simp[aW],←mQ]
 exact d
theorem kI {P:Program} {a:Act} {w:World} {Q:Exit→Act→World→Prop} {c rest:Code} (l:Nat) (J:Act→World→Prop) (μ:Act→World→Nat) (d:findLabel c l=some (Code.skip.seq rest))
  (pass:∀a w,J a w→rest.wp P (Exit.jump l (fun a' w'=>J a' w'∧μ a' w'<μ a w) Q) a w)
  (first:(∀a w,J a w→rest.wp P (Exit.jump l J Q) a w)→c.wp P (Exit.jump l J Q) a w):(Code.scope c).wp P Q a w:=
 wp_scope_jumps l J μ d (first (fun a w h=>wp_mono (pass a w h) (fun e a' w' b=>by cases e<;>first|exact b|exact⟨b.1,b.2.1⟩)))
  (fun a w h=>wp_seq (wp_skip (pass a w h)))
def vE:Value→Nat| .slice _ n _=>n|_=>0
def GJ (w:World) (A:Option Addr) (c:Nat) (d:List (List Nat)) (a:Act) (wr:World):Prop:=
 ∃(b g:Nat) (l:List Nat) (tk:List Bool) (A1:Option Addr) (c1:Nat) (O u8 P e f h i j k m n o p q r s t u x y z B C D E F G H I J K L M N:Value),a={tmps:=#[.slice A d.length c,aR,.slice none 0 0,.slice none 0 0,.slice A1 l.length c1,.pointer (some ⟨b,0,none⟩),.func (.func 101) #[] #[.pointer (some ⟨b,0,none⟩)],O,u8,P,e,f,h,i,j,k,m,n,o,p,q,r,s,t,u,x,y,z,B,C,D,E,F,G,H,I,J,K,L,M,N],defers:=[]}∧
  Hid (OJ w wr b g l tk (.slice A1 l.length c1))∧tk.length=d.length∧Hid (Gp.ordF d (Gp.wait tk) l tk=Gp.ord d)∧l.length+Gp.wait tk=d.length
def kQ (w:World) (a:List (List Nat)) (e:Ending) (w':World):Prop:=
 ∃(g:Nat) (A1:Option Addr) (c1:Nat),e= .returned (.tuple #[.slice A1 (Gp.ord a).1.length c1,.slice (some ⟨g,0,none⟩) a.length a.length])∧Own w' w.heap.size 4 1 (.slice (some ⟨g,0,none⟩) a.length a.length) a.length (jF (Gp.ord a).2)∧Own w' w.heap.size 3 1 (.slice A1 (Gp.ord a).1.length c1) (Gp.ord a).1.length (aY (aW (Gp.ord a).1))∧Old w w'
theorem pD:(Tryz.prog.info? 4).map (fun i=>(i.zero,i.size,i.bytes))=some (some (.bool false),1,1):=by kernel_rfl
theorem yV (A:Option Addr) (c:Nat) (d:List (List Nat)) (w:World) (L:NRow w A d) (hn:d.length≤1000000)
  (hk:∀i,i<d.length→(d.getD i []).length≤1000000∧∀j,j<(d.getD i []).length→(d.getD i []).getD j 0<d.length):
  Calls Tryz.prog 49 #[.slice A d.length c] w (kQ w d):=by
 have Q:=aJ L
 have HK:=aJ hk
 clear L hk;go_enter Tryz.func49,Tryz.ntmps49;go_wp2_with fail;refine kI 0 (GJ w A c d) (fun a _=>d.length-vE (a.tmps.getD 4 aR)) rfl ?pass ?first
 case first=>
  intro again;go_wp2_with (at_make;refine dj rfl _ _ 124 rfl 4 (.bool false) 1 1 Tryz.underlying124 pD (by decide) .i64 .i64 _ _ d.length rfl rfl ?pl2 ?pc2 ?pn2 ?_)
  case pl2=>omega
  case pc2=>omega
  case pn2=>omega
  intro w1 Z W;go_wp2_with fail;go_step3
  rename_i hK
  refine hK _ _ (again _ _ ?_);clear hK again;have e1:jF (List.replicate d.length false)=(madeCells #[Value.bool false] d.length).toList:=by
   unfold madeCells;rw[Array.toList_map,Array.toList_range];apply List.ext_getElem
   ·simp[jF]
   ·intro i h1 h2;simp[jF,Nat.mod_one]
  refine⟨_,_,[],List.replicate d.length false,none,0,_,_,_,_,_,_,_,_,_,_,_,_,_,_,_,_,_,_,_,_,_,_,_,_,_,_,_,_,_,_,_,_,_,_,rfl,aJ ⟨⟨_,by rw[List.length_replicate];exact aM w1 _⟩,?_,(Own.nil_ _ _ _ _),W.alloc _⟩,List.length_replicate,aJ (by rw[Gp.wait_start];rfl),by rw[Gp.wait_start];simp⟩
  rw[List.length_replicate,e1];exact Z.alloc _
 case pass=>
  rintro a' w' ⟨b,g,l,tk,A1,c1,u7,u8,u9,ac,ad,ae,af,ag,ah,ai,aj,ak,al,am,an,ao,ap,aq,ar,au,av,aw,ax,ay,az,aA,aB,aC,aD,aF,aG,aH,aI,aL,rfl,q,s,S,aa⟩;obtain⟨fz,F⟩:=q.out.box;have U:=aK _ _ 0 _ _ _ F;have B:=aJ q.out.tkb;rw[s] at U;clear F;go_wp2_with fail;go_loopw [4,14] (fun v4 i wr=>∃k:Nat,v4= .slice A1 l.length c1∧k≤d.length∧i= .int .i64 k∧wr=w'∧Hid (∀j,j<k→Gp.fre d tk j=false)) (fun _ i _=>d.length-(intOf i).toNat)
  case atStart=>exact⟨0,rfl,bO _,rfl,rfl,aJ (fun j hj=>by omega)⟩
  case round=>
   obtain⟨k,rfl,hk,rfl,rfl,t⟩:=hrel
   by_cases u:k<d.length
   ·have d1:=q.out.row.cellAt (ob tk k (by omega))
    obtain⟨cells,V,H,I⟩:=Q.out.up q.out.old;obtain⟨A',c',G,M⟩:=I k u;obtain⟨b2,off,rfl,_,hc⟩:=H.at_ (by omega)
    have d2:=hc _ _ G
    obtain⟨C,D⟩:=HK.out k u;have y:=aJ (BH A' c' (d.getD k []) tk b wr M B.out (fun j hj=>by rw[s];exact D j hj) (by omega) C)
    have o:Hid (Gp.fre d tk k=false→∀j,j<k+1→Gp.fre d tk j=false):=aJ (fun h j hj=>by
     by_cases e:j=k
     ·rw[e];exact h
     ·exact t.out j (by omega))
    have HF:Hid (∀v f,tk.getD k false=v→Gp.lacks (d.getD k []) tk=f→Gp.fre d tk k=(!v&& !f)):=aJ (fun v f h1 h2=>by rw[Gp.fre,h1,h2])
    have E:((d.getD k []).any fun k=> !tk.getD k false)=Gp.lacks (d.getD k []) tk:=rfl
    have p:Hid (Gp.fre d tk k=true→tk.getD k false=false→Gp.wait tk=Gp.wait (tk.set k true)+1∧Gp.ordF d (Gp.wait (tk.set k true)) (l++[k]) (tk.set k true)=Gp.ord d):=aJ (fun h hv=>by
     have e:=Gp.wait_set (by omega) hv
     refine⟨e,?_⟩;rw[←S.out,e,Gp.ordF_some u h t.out])
    rw[E] at y;clear V H I G M hc C D E;obtain⟨f,Y⟩:∃f,Gp.lacks (d.getD k []) tk=f:=⟨_,rfl⟩
    obtain⟨v,hv⟩:∃v,tk.getD k false=v:=⟨_,rfl⟩
    have N:=aJ hv
    have m:=aJ (HF.out v f hv Y)
    rw[Y] at y;rw[hv] at d1;clear Y hv HF;generalize (d.getD k []).length=nk at *;cases v with
    |true=>
     have T:=aJ (o.out m.out)
     clear y m N o p t;go_wp2_with fail;go_roundw
     case rel=>exact⟨k+1,rfl,by omega,by go_num,by trivial,T⟩
     case measure=>simp[intOf];omega
    |false=>
     go_wp2_with fail;refine(y.out).mono ?_;rintro e w2 ⟨rfl,rfl⟩;cases f with
     |true=>
      have T:=aJ (o.out m.out)
      clear y m N o p t;go_wp2_with fail;go_roundw
      case rel=>exact⟨k+1,rfl,by omega,by go_num,by trivial,T⟩
      case measure=>simp[intOf];omega
     |false=>
      obtain⟨ab,K⟩:=p.out m.out N.out;have O:=aJ K;clear K;have r:=aJ (q.out.take k);have hsz:w.heap.size≤(w2.setCell ⟨g,k,none⟩ (.bool true)).heap.size:=r.out.old.size;clear y m N o p t;go_upto_region 9 with fail
      generalize (w2.setCell ⟨g,k,none⟩ (.bool true))=W2 at *;go_wp2_with (at_builtin;refine aE (wr:=W2) rfl _ _ 22 rfl _ 3 (.int .i64 0) 1 8 Tryz.underlying22 iK rfl (by decide) (by decide) _ _ _ rfl r.out.lst 1 1 [.int .i64 (k:Int)] rfl rfl rfl rfl ?pn1 hsz ?_)
      case pn1=>omega
      intro v3 w3 x J X;have z:=r.out.push J x;obtain⟨A3,c3,rfl,_,_,_⟩:=x.shape;have P:=aJ z;clear x J X r z;go_wp2_with fail;go_step3;refine⟨rfl,⟨b,g,l++[k],tk.set k true,A3,c3,_,_,_,_,_,_,_,_,_,_,_,_,_,_,_,_,_,_,_,_,_,_,_,_,_,_,_,_,_,_,_,_,_,_,by rw[bF];rfl,aJ ?_,by rw[bK];exact s,O,?_⟩,?_⟩
      ·rw[bF];exact P.out
      ·rw[bF,bG];omega
      ·simp[vE];omega
   ·obtain rfl:k=d.length:=by omega
    have HE:=aJ ((Gp.ordF_none t.out (Gp.wait tk) l).symm.trans S.out)
    have R:Hid (∀n,kQ w d (.returned (.tuple #[.slice A1 l.length c1,.slice (some ⟨g,0,none⟩) d.length d.length])) (wr.drewN n)):=aJ (fun n=>by
     have hr:=q.out.row
     rw[s] at hr;unfold kQ;rw[←HE.out];exact⟨g,A1,c1,rfl,hr.up ((Old.refl _).drewN n),q.out.lst.up ((Old.refl _).drewN n),q.out.old.drewN n⟩)
    clear t B HE S q;go_wp2_with fail;go_quiet (fail);go_wp2_with fail;simp only[Exit.jump];refine aP (by first|(simp[results,Tryz.results49,go_sem];done)|(simp[results,Tryz.results49,go_sem];rfl)) rfl (R.out _)
namespace Gp
def allN (l:List Jd):List (List Nat):=(List.range l.length).map (needs l)
theorem allN_len (l:List Jd):(allN l).length=l.length:=by simp[allN]
theorem allN_get (l:List Jd) (i:Nat) (h:i<l.length):(allN l).getD i []=needs l i:=by
 simp[allN,bD,h]
theorem needs_len (l:List Jd) (i:Nat):(needs l i).length≤l.length:=by
 have h:=List.length_filter_le (fun k=>(raw l i).contains k) (List.range l.length)
 rw[List.length_range] at h;exact h
theorem needs_lt (l:List Jd) (i j:Nat) (hj:j<(needs l i).length):(needs l i).getD j 0<l.length:=by
 have e:(needs l i).getD j 0=(needs l i)[j]:=by simp[bD,bE hj]
 rw[e];have h:(needs l i)[j]∈needs l i:=bH hj;unfold needs at h;exact List.mem_range.mp (List.mem_filter.mp h).1
def order (l:List Jd):List Nat:=(ord (allN l)).1
def acyclic (l:List Jd):Prop:=∀i,i<l.length→(ord (allN l)).2.getD i false=true
end Gp
theorem Own.rs0 {w:World} {base:Nat} {e:TypeId} {size g n c:Nat} {xs:List Value} (h:Own w base e size (.slice (some ⟨g,0,none⟩) n c) n xs):Rs w (some ⟨g,0,none⟩) xs:=by
 obtain⟨A,c,e,t,_,_⟩:=h.shape;injection e with e _ _
 rw[e];exact t.rs
theorem NLs.row {w:World} {l:List Jd} {cells:List Value} {base g c:Nat} (h:NLs w l cells l.length) (b:Own w base 22 1 (.slice (some ⟨g,0,none⟩) l.length c) l.length cells):NRow w (some ⟨g,0,none⟩) (Gp.allN l):=by
 refine⟨cells,?_,b.rs0,fun i a=>?_⟩
 ·rw[Gp.allN_len];have:=b.len;omega
 ·rw[Gp.allN_len] at a;rw[Gp.allN_get l i a];exact h i a
theorem wR (l:List Jd) (hn:l.length≤1000000):∀i,i<(Gp.allN l).length→((Gp.allN l).getD i []).length≤1000000∧∀j,j<((Gp.allN l).getD i []).length→((Gp.allN l).getD i []).getD j 0<(Gp.allN l).length:=fun i a=>by
 have b:=Gp.allN_len l
 rw[b] at a ⊢;rw[Gp.allN_get l i a];exact⟨bN (Gp.needs_len l i) hn,Gp.needs_lt l i⟩
theorem sl (l:List Jd) (hn:l.length≤1000000) (g c:Nat) (w:World) (h:NRow w (some ⟨g,0,none⟩) (Gp.allN l)):
  Calls Tryz.prog 49 #[.slice (some ⟨g,0,none⟩) l.length c] w (kQ w (Gp.allN l)):=by
 have:=yV (some ⟨g,0,none⟩) c (Gp.allN l) w h (by rw[Gp.allN_len];exact hn) (wR l hn)
 rw[Gp.allN_len] at this;exact this
theorem sq (A:Option Addr) (c:Nat) (l:List Jd) (w:World) (b:JL w A l) (hn:l.length≤1000000) (n:∀j∈l,j.needs.length≤1000000):
  Calls Tryz.prog 27 #[.slice A l.length c] w (me w 3 1 (Gp.order l).length (aY (aW (Gp.order l)))):=by
 have i:=aJ (wh A c l w b hn n)
 have m:=aJ (fun g c w (h:NRow w (some ⟨g,0,none⟩) (Gp.allN l))=>sl l hn g c w h)
 clear b n;go_enter Tryz.func27,Tryz.ntmps27;go_wp2_with fail;refine(i.out).mono ?_;rintro e r ⟨g,c1,cells,rfl,o,d,a⟩;have k:=aJ (d.row o);have f:=aJ a;clear d o a;go_wp2_with fail;refine(m.out g c1 r k.out).mono ?_;rintro e w2 ⟨_,A1,c2,rfl,q,b,a⟩;have p:Hid (me w 3 1 (Gp.order l).length (aY (aW (Gp.order l))) (.returned (.slice A1 (Gp.order l).length c2)) w2):=aJ ⟨_,rfl,b.base f.out.size,f.out.up a⟩;clear q b a k f i m;rw[show(Gp.ord (Gp.allN l)).1=Gp.order l from rfl]
 go_wp2_with fail;go_ret;exact p.out
abbrev BSet:=Nat
def Cp:Nat:=18446744073709551616
def ab (s:BSet) (i:Nat):Nat:=s/Cp^i%Cp
def hasB (s:BSet) (b:Nat):Bool:=s.testBit b
def cO (s:BSet) (b:Nat):BSet:=s|||2^b
def dz (lo a:Nat):BSet:=(List.range (a+1-lo)).foldl (fun s k=>cO s (lo+k)) 0
def eC (s:BSet):BSet:=s^^^(2^256-1)
def ir (s:BSet):Nat→Nat→Nat
 |0,_=>0
 |f+1,b=>if hasB s b then b else ir s f (b+1)
def eD (s:BSet):Nat:=ir s 256 0
def CA (b:Nat):Bool:=(33≤b&&b≤47)||(58≤b&&b≤64)||(91≤b&&b≤96)||(123≤b&&b≤126)
def iZ (b:Nat):BSet×Bool×Bool:=
 if b=110 then(cO 0 10,true,true)
 else if b=116 then(cO 0 9,true,true)
 else if b=114 then(cO 0 13,true,true)
 else if b=100 then(dz 48 57,false,true)
 else if b=119 then((dz 97 122|||dz 65 90)|||(dz 48 57|||cO 0 95),false,true)
 else if b=115 then((cO 0 32|||dz 9 10)|||cO 0 13,false,true)
 else if CA b=true then(cO 0 b,true,true)
 else(0,false,false)
structure Nd where
 kind:Int
 left:Int
 right:Int
 set:BSet
deriving DecidableEq
def fT (k:Int):Int:=if k=3∨k=4 then 2 else if k=5∨k=6∨k=7 then 1 else 0
def dO (k b a n:Int):Int:=if b<fT k then a+n else 0
def ai (n:Int) (x:Nd):Nd:=⟨x.kind,dO x.kind 0 x.left n,dO x.kind 1 x.right n,x.set⟩
def az (k:Int) (l r:List Nd):List Nd:=
 l++r.map (ai l.length)++[⟨k,(l.length:Int)-1,if 0<r.length then(l.length:Int)+r.length-1 else 0,0⟩]
structure Ps where
 at_:Nat
 deep:Nat
 e:Int
deriving DecidableEq
def ay (p:Ps) (c:Int):Ps:=if p.e=0 then {p with e:=c} else p
def eF (B:List Nat) (p:Ps):Bool:=p.e==0&&decide (p.at_<B.length)
def fc (p:Ps):Ps:={p with at_:=p.at_+1}
def iO (B:List Nat) (p:Ps):Nat:=B.getD p.at_ 0
def mr (B:List Nat) (p:Ps):(BSet×Bool)×Ps:=
 if p.at_<B.length then
  let r:=iZ (iO B p)
  ((r.1,r.2.1),fc (if r.2.2=true then p else ay p 82))
 else((0,false),ay p 82)
def aC (B:List Nat) (p:Ps):(BSet×Bool)×Ps:=
 if iO B p=92 then mr B (fc p)
 else if iO B p=94∨iO B p=45∨iO B p=93 then((0,false),ay (fc p) 80)
 else((cO 0 (iO B p),true),fc p)
def eB (B:List Nat) (p:Ps):BSet×Ps:=
 let a:=aC B p
 if eF B a.2=true∧iO B a.2=45 then
  let q:=fc a.2
  if a.1.2=false∨B.length≤q.at_ then(a.1.1,ay q 80)
  else
   let b:=aC B q
   (dz (eD a.1.1) (eD b.1.1),if b.2.e=0∧(b.1.2=false∨eD b.1.1<eD a.1.1) then ay b.2 80 else b.2)
 else(a.1.1,a.2)
def aF (B:List Nat) (a:Bool):Nat→Bool→BSet→Ps→Option (BSet×Ps)
 |0,_,_,_=>none
 |f+1,first,s,p=>
  if eF B p=true then
   if iO B p=93 then some (if a=true then eC s else s,fc (if first=true then ay p 80 else p))
   else aF B a f false (s|||(eB B p).1) (eB B p).2
  else some (s,ay p 80)
def fI (B:List Nat) (f:Nat) (p:Ps):Option (BSet×Ps):=
 if eF B p=true∧iO B p=94 then aF B true f true 0 (fc p) else aF B false f true 0 p
def bd (k:Int) (s:BSet):List Nd:=[⟨k,0,0,s⟩]
mutual
def fM (B:List Nat):Nat→Ps→Option (List Nd×Ps)
 |0,_=>none
 |f+1,p=>match fK B f p with
  |none=>none
  |some (l,q)=>aX B f l q
def aX (B:List Nat):Nat→List Nd→Ps→Option (List Nd×Ps)
 |0,_,_=>none
 |f+1,l,p=>
  if eF B p=true∧iO B p=124 then match fK B f (fc p) with
   |none=>none
   |some (x,q)=>if q.e=0 then aX B f (az 4 l x) q else some ([],q)
  else some (l,p)
def fK (B:List Nat):Nat→Ps→Option (List Nd×Ps)
 |0,_=>none
 |f+1,p=>aI B f [] p
def aI (B:List Nat):Nat→List Nd→Ps→Option (List Nd×Ps)
 |0,_,_=>none
 |f+1,l,p=>
  if eF B p=true∧iO B p≠124∧iO B p≠41 then match dT B f p with
   |none=>none
   |some (x,q)=>if q.e=0 then aI B f (if l.length=0 then x else az 3 l x) q else some ([],q)
  else some (if l.length=0 then bd 1 0 else l,p)
def dT (B:List Nat):Nat→Ps→Option (List Nd×Ps)
 |0,_=>none
 |f+1,p=>match ef B f p with
  |none=>none
  |some (l,q)=>ar B f l q
def ar (B:List Nat):Nat→List Nd→Ps→Option (List Nd×Ps)
 |0,_,_=>none
 |f+1,l,p=>
  if eF B p=true then
   if iO B p=42 then ar B f (az 5 l []) (fc p)
   else if iO B p=43 then ar B f (az 6 l []) (fc p)
   else if iO B p=63 then ar B f (az 7 l []) (fc p)
   else some (l,p)
  else some (l,p)
def ef (B:List Nat):Nat→Ps→Option (List Nd×Ps)
 |0,_=>none
 |f+1,p=>
  let b:=iO B p
  let q:=fc p
  if b=46 then some (bd 2 (eC (cO 0 10)),q)
  else if b=94 then some (bd 8 0,q)
  else if b=36 then some (bd 9 0,q)
  else if b=92 then some (bd 2 (mr B q).1.1,(mr B q).2)
  else if b=91 then match fI B f q with
   |none=>none
   |some (s,r)=>some (bd 2 s,r)
  else if b=93 then some (bd 2 (cO 0 b),ay q 80)
  else if b=42∨b=43∨b=63 then some (bd 2 (cO 0 b),ay q 81)
  else if b=40 then
   let a:Ps:={q with deep:=q.deep+1}
   if 24<a.deep then some ([],ay a 84)
   else match fM B f a with
    |none=>none
    |some (l,r)=>
     let c:=if r.e=0∧B.length≤r.at_ then ay r 83 else r
     some (l,{c with at_:=c.at_+1,deep:=c.deep-1})
  else some (bd 2 (cO 0 b),q)
end
def eo (f:Nat) (B:List Nat):Option (List Nd×Int):=
 if 128<B.length then some ([],1)
 else match fM B f ⟨0,0,0⟩ with
  |none=>none
  |some (l,p)=>
   let q:=if p.e=0∧p.at_<B.length then ay p 83 else p
   let r:=if q.e=0∧256<l.length then ay q 1 else q
   some (if r.e=0 then(l,0) else([],r.e))
example:eo 100 [97,42,98]=some ([⟨2,0,0,2^97⟩,⟨5,0,0,0⟩,⟨2,0,0,2^98⟩,⟨3,1,2,0⟩],0):=by decide+kernel
def nd (l:List Nd) (n:Nat):Nd:=l.getD n ⟨0,0,0,0⟩
inductive Sub (l:List Nd):Nat→Nat→Prop
 |leaf (n:Nat):n<l.length→((nd l n).kind=1∨(nd l n).kind=2∨(nd l n).kind=8∨(nd l n).kind=9)→(nd l n).left=0→(nd l n).right=0→((nd l n).kind≠2→(nd l n).set=0)→Sub l n n
 |one (a n:Nat):n+1<l.length→((nd l (n+1)).kind=5∨(nd l (n+1)).kind=6∨(nd l (n+1)).kind=7)→(nd l (n+1)).left=n→(nd l (n+1)).right=0→(nd l (n+1)).set=0→Sub l a n→Sub l a (n+1)
 |two (a m n:Nat):n+1<l.length→((nd l (n+1)).kind=3∨(nd l (n+1)).kind=4)→(nd l (n+1)).left=m→(nd l (n+1)).right=n→(nd l (n+1)).set=0→Sub l a m→Sub l (m+1) n→Sub l a (n+1)
theorem Sub.le {l:List Nd} {a n:Nat} (h:Sub l a n):a≤n∧n<l.length:=by
 induction h with
 |leaf n h=>exact⟨bM _,h⟩
 |one a n h _ _ _ _ _ ih=>omega
 |two a m n h _ _ _ _ _ _ b c=>omega
def bi (t:List Nat) (i:Nat):Bool:=i==0||t.getD (i-1) 0==10
def fG (t:List Nat) (i:Nat):Bool:=decide (i<t.length)&&t.getD i 0==10
structure Gr where
 eps:Bool→Bool→Nat→Nat→Prop
 byt:Nat→Nat→Nat→Prop
 s0:Nat
 fin:Nat→Prop
inductive GWay (g:Gr) (t:List Nat):Nat→Nat→Prop
 |start (i:Nat):i≤t.length→GWay g t g.s0 i
 |eps (s s' i:Nat):GWay g t s i→g.eps (bi t i) (fG t i) s s'→GWay g t s' i
 |byte (s s' i:Nat):GWay g t s i→i<t.length→g.byt (t.getD i 0) s s'→GWay g t s' (i+1)
theorem GWay.len {g:Gr} {t:List Nat} {s i:Nat} (h:GWay g t s i):i≤t.length:=by
 induction h with
 |start i h=>exact h
 |eps s s' i _ _ ih=>exact ih
 |byte s s' i _ h _ ih=>omega
inductive Clo (g:Gr) (bol eol:Bool) (S:Nat→Prop):Nat→Prop
 |here (s:Nat):S s→Clo g bol eol S s
 |step (s s':Nat):Clo g bol eol S s→g.eps bol eol s s'→Clo g bol eol S s'
def rn (g:Gr) (t:List Nat) (n:Nat):Prop:=∃s k,GWay g (t.take n) s k∧g.fin s
def np (g:Gr):Prop:=∀bol s s',g.eps bol false s s'→g.eps bol true s s'
def GLeast (g:Gr) (t:List Nat) (r:Int):Prop:=
 (∃n:Nat,n≤t.length∧r=n∧rn g t n∧∀m,m<n→¬rn g t m)∨(r= -1∧∀n,n≤t.length→¬rn g t n)
theorem GLeast.one {g:Gr} {t:List Nat} {r j:Int} (h:GLeast g t r) (i:GLeast g t j):r=j:=by
 rcases h with⟨n,hn,rfl,ha,f⟩|⟨rfl,f⟩
 ·rcases i with⟨d,c,rfl,b,a⟩|⟨rfl,a⟩
  ·rcases Nat.lt_trichotomy n d with e|e|e
   ·exact absurd ha (a n e)
   ·rw[e]
   ·exact absurd b (f d e)
  ·exact absurd ha (a n hn)
 ·rcases i with⟨d,c,rfl,b,a⟩|⟨rfl,a⟩
  ·exact absurd b (f d c)
  ·rfl
theorem dN {t:List Nat} {n i:Nat} (h:i<n):(t.take n).getD i 0=t.getD i 0:=by
 rw[bD,bD,List.getElem?_take,if_pos h]
theorem ee {t:List Nat} {n i:Nat} (h:i≤n):bi (t.take n) i=bi t i:=by
 unfold bi;rcases Nat.eq_zero_or_pos i with e|e
 ·subst e;rfl
 ·rw[dN (by omega)]
theorem ft {t:List Nat} {n i:Nat} (h:i<n):fG (t.take n) i=fG t i:=by
 unfold fG;rw[dN h,List.length_take];have:decide (i<min n t.length)=decide (i<t.length):=by
  rw[Bool.eq_iff_iff,decide_eq_true_iff,decide_eq_true_iff];omega
 rw[this]
theorem lS (t:List Nat) (n:Nat):fG (t.take n) n=false:=by
 unfold fG;rw[List.length_take,decide_eq_false (by omega)]
 rfl
theorem GWay.more {g:Gr} {t:List Nat} {n m s i:Nat} (h:GWay g (t.take n) s i) (b:i<n) (a:i<m):GWay g (t.take m) s i:=by
 have e:=h.len
 rw[List.length_take] at e
 induction h with
 |start i h=>exact .start i (by rw[List.length_take];omega)
 |eps s s' i h d ih=>
  rw[ee (by omega),ft b] at d
  refine .eps s s' i (ih b a e) ?_;rw[ee (by omega),ft a]
  exact d
 |byte s s' i h f c ih=>
  rw[dN (by omega)] at c
  refine .byte s s' i (ih (by omega) (by omega) (by omega)) (by rw[List.length_take];omega) ?_
  rw[dN (by omega)]
  exact c
theorem GWay.grow {g:Gr} (hm:np g) {t:List Nat} {n s i:Nat} (h:GWay g (t.take n) s i):GWay g (t.take (n+1)) s i:=by
 have c:=h.len
 rw[List.length_take] at c
 induction h with
 |start i h=>exact .start i (by rw[List.length_take];omega)
 |eps s s' i h a ih=>
  rw[ee (by omega)] at a
  refine .eps s s' i (ih c) ?_;rw[ee (by omega)]
  by_cases e:i<n
  ·rw[ft e] at a;rw[ft (by omega)]
   exact a
  ·obtain rfl:i=n:=by omega
   rw[lS] at a;cases fG (t.take (i+1)) i
   ·exact a
   ·exact hm _ _ _ a
 |byte s s' i h d b ih=>
  rw[dN (by omega)] at b
  refine .byte s s' i (ih (by omega)) (by rw[List.length_take];omega) ?_
  rw[dN (by omega)]
  exact b
def zL (g:Gr) (t:List Nat) (i s:Nat):Prop:=∃j s1,i=j+1∧GWay g (t.take i) s1 j∧g.byt (t.getD j 0) s1 s
theorem xI {g:Gr} {t:List Nat} {i s:Nat} (e:i≤t.length):GWay g (t.take i) s i↔Clo g (bi t i) false (fun s=>zL g t i s∨s=g.s0) s:=by
 constructor
 ·intro h
  suffices b:∀{s k:Nat},GWay g (t.take i) s k→i=k→Clo g (bi t i) false (fun s=>zL g t i s∨s=g.s0) s from b h rfl
  intro s k b;intro hk
  induction b with
  |start k h=>exact .here _ (bY rfl)
  |eps s s' k h a ih=>
   subst hk;refine .step s s' (ih rfl) ?_;rw[ee (by omega),lS] at a
   exact a
  |byte s s' k h d c ih=>
   subst hk;refine .here _ (bX ⟨k,s,rfl,h,?_⟩);rw[dN (by omega)] at c
   exact c
 ·intro h
  induction h with
  |here s h=>
   rcases h with⟨j,s1,rfl,h1,h2⟩|rfl
   ·refine .byte s1 s j h1 (by rw[List.length_take];omega) ?_
    rw[dN (by omega)]
    exact h2
   ·exact .start i (by rw[List.length_take];omega)
  |step s s' _ a ih=>
   refine .eps s s' i ih ?_;rw[ee (by omega),lS]
   exact a
theorem uB {g:Gr} (hm:np g) {t:List Nat} {i s:Nat} (e:i<t.length):GWay g (t.take (i+1)) s i↔Clo g (bi t i) (fG t i) (fun s=>GWay g (t.take i) s i) s:=by
 constructor
 ·intro h
  suffices b:∀{s k:Nat},GWay g (t.take (i+1)) s k→i=k→Clo g (bi t i) (fG t i) (fun s=>GWay g (t.take i) s i) s from b h rfl
  intro s k b;intro hk
  induction b with
  |start k h=>subst hk;exact .here _ (.start i (by rw[List.length_take];omega))
  |eps s s' k h a ih=>
   subst hk;refine .step s s' (ih rfl) ?_;rw[ee (by omega),ft (by omega)] at a
   exact a
  |byte s s' k h d c ih=>
   subst hk;refine .here _ ?_;have:=h.more (m:=k+1) (by omega) (by omega)
   refine .byte s s' k this (by rw[List.length_take];omega) ?_
   rw[dN (by omega)] at c ⊢
   exact c
 ·intro h
  induction h with
  |here s h=>exact h.grow hm
  |step s s' _ a ih=>
   refine .eps s s' i ih ?_;rw[ee (by omega),ft (by omega)]
   exact a
def GClean (g:Gr) (t:List Nat) (i:Nat):Prop:=∀s k,k<i→GWay g (t.take (k+1)) s k→¬g.fin s
theorem GClean.acc {g:Gr} (hm:np g) {t:List Nat} {i m:Nat} (h:GClean g t i) (a:m<i):¬rn g t m:=by
 rintro⟨s,k,b,c⟩;have d:=b.len;rw[List.length_take] at d
 by_cases e:k<m
 ·exact h s k (by omega) (b.more e (by omega)) c
 ·obtain rfl:k=m:=by omega
  exact h s k a (b.grow hm) c
theorem GClean.at_ {g:Gr} {t:List Nat} {i:Nat} (h:GClean g t i):rn g t i↔ ∃s,GWay g (t.take i) s i∧g.fin s:=by
 constructor
 ·rintro⟨s,k,a,b⟩;have c:=a.len;rw[List.length_take] at c
  by_cases e:k<i
  ·exact absurd b (h s k e (a.more e (by omega)))
  ·obtain rfl:k=i:=by omega
   exact⟨s,a,b⟩
 ·rintro⟨s,a,b⟩;exact⟨s,i,a,b⟩
inductive Runs (g:Gr) (t:List Nat):Nat→(Nat→Prop)→Int→Prop
 |done (i:Nat) (S A:Nat→Prop):(∀s,A s↔Clo g (bi t i) false (fun s=>S s∨s=g.s0) s)→(∃s,A s∧g.fin s)→Runs g t i S i
 |stop (i:Nat) (S A:Nat→Prop):(∀s,A s↔Clo g (bi t i) false (fun s=>S s∨s=g.s0) s)→(∀s,A s→¬g.fin s)→i=t.length→Runs g t i S (-1)
 |late (i:Nat) (S A B:Nat→Prop):(∀s,A s↔Clo g (bi t i) false (fun s=>S s∨s=g.s0) s)→(∀s,A s→¬g.fin s)→i<t.length→
   (∀s,B s↔Clo g (bi t i) (fG t i) A s)→(∃s,B s∧g.fin s)→Runs g t i S (i+1)
 |step (i:Nat) (S A B S':Nat→Prop) (r:Int):(∀s,A s↔Clo g (bi t i) false (fun s=>S s∨s=g.s0) s)→(∀s,A s→¬g.fin s)→i<t.length→
   (∀s,B s↔Clo g (bi t i) (fG t i) A s)→(∀s,B s→¬g.fin s)→(∀s,S' s↔ ∃s1,B s1∧g.byt (t.getD i 0) s1 s)→Runs g t (i+1) S' r→Runs g t i S r
theorem Clo.congr {g:Gr} {bol eol:Bool} {S T:Nat→Prop} (h:∀s,S s→T s) {s:Nat} (hc:Clo g bol eol S s):Clo g bol eol T s:=by
 induction hc with
 |here s hs=>exact .here s (h s hs)
 |step s s' _ a ih=>exact .step s s' ih a
theorem Clo.iff_ {g:Gr} {bol eol:Bool} {S T:Nat→Prop} (h:∀s,S s↔T s) (s:Nat):Clo g bol eol S s↔Clo g bol eol T s:=
 ⟨Clo.congr fun s hs=>(h s).1 hs,Clo.congr fun s hs=>(h s).2 hs⟩
theorem Clo.closed {g:Gr} {bol eol:Bool} {S:Nat→Prop} (h:∀s s',S s→g.eps bol eol s s'→S s') (s:Nat):S s↔Clo g bol eol S s:=by
 constructor
 ·exact .here s
 ·intro hc
  induction hc with
  |here s hs=>exact hs
  |step s s' _ a ih=>exact h s s' ih a
theorem Runs.law {g:Gr} (hm:np g) {t:List Nat} {i:Nat} {S:Nat→Prop} {r:Int} (h:Runs g t i S r):i≤t.length→(∀s,S s↔zL g t i s)→GClean g t i→GLeast g t r:=by
 have key:∀{i:Nat} {S A:Nat→Prop},i≤t.length→(∀s,S s↔zL g t i s)→(∀s,A s↔Clo g (bi t i) false (fun s=>S s∨s=g.s0) s)→∀s,A s↔GWay g (t.take i) s i:=by
  intro i S A a f b s;rw[b,xI a];exact Clo.iff_ (fun s=>by rw[f]) s
 have o:∀{i:Nat} {A B:Nat→Prop},i<t.length→(∀s,A s↔GWay g (t.take i) s i)→(∀s,B s↔Clo g (bi t i) (fG t i) A s)→∀s,B s↔GWay g (t.take (i+1)) s i:=by
  intro i A B a b hB s;rw[hB,uB hm a];exact Clo.iff_ (fun s=>b s) s
 have w:∀{i:Nat} {B:Nat→Prop},GClean g t i→(∀s,B s↔GWay g (t.take (i+1)) s i)→(∀s,B s→¬g.fin s)→GClean g t (i+1):=by
  intro i B hc hB l s k hk y
  by_cases e:k<i
  ·exact hc s k e y
  ·obtain rfl:k=i:=by omega
   exact l s ((hB s).2 y)
 induction h with
 |done i S A b l=>
  intro a f hc;obtain⟨s,h1,h2⟩:=l;exact bX ⟨i,a,rfl,hc.at_.2 ⟨s,(key a f b s).1 h1,h2⟩,fun m u=>hc.acc hm u⟩
 |stop i S A b l z=>
  intro a f hc;refine bY ⟨rfl,fun n hn ha=>?_⟩
  by_cases e:n<i
  ·exact hc.acc hm e ha
  ·obtain rfl:n=i:=by omega
   obtain⟨s,h1,h2⟩:=hc.at_.1 ha;exact l s ((key a f b s).2 h1) h2
 |late i S A B b l q hB p=>
  intro a f hc;have d:=key a f b;have c:=o q d hB;obtain⟨s,h1,h2⟩:=p;refine bX ⟨i+1,by omega,by omega,⟨s,i,(c s).1 h1,h2⟩,fun m u=>?_⟩
  by_cases e:m<i
  ·exact hc.acc hm e
  ·obtain rfl:m=i:=by omega
   rintro ha;obtain⟨s,h1,h2⟩:=hc.at_.1 ha;exact l s ((d s).2 h1) h2
 |step i S A B S' r b l q hB p x _ ih=>
  intro a f hc;have d:=key a f b;have c:=o q d hB;refine ih (by omega) (fun s=>?_) (w hc c p)
  rw[x];constructor
  ·rintro⟨s1,h1,h2⟩;exact⟨i,s1,rfl,(c s1).1 h1,h2⟩
  ·rintro⟨j,s1,hj,h1,h2⟩;obtain rfl:i=j:=by omega
   exact⟨s1,(c s1).2 h1,h2⟩
theorem Runs.law0 {g:Gr} (hm:np g) {t:List Nat} {r:Int} (h:Runs g t 0 (fun _=>False) r):GLeast g t r:=by
 refine h.law hm (bO _) (fun s=>⟨fun h=>h.elim,?_⟩) (fun s k hk=>by omega)
 rintro⟨j,s1,hj,_⟩;omega
def cD (k:Int):Int:=if k=1∨k=2∨k=8∨k=9 then 0 else if k=5∨k=6∨k=7 then 1 else if k=3∨k=4 then 2 else-1
def fv (rs:List Int) (i:Nat) (x:Nd):Option (List Int):=
 if x.kind≠2∧x.set≠0 then none
 else if cD x.kind<0∨(rs.length:Int)<cD x.kind then none
 else if x.left≠(rs.drop (rs.length-(cD x.kind).toNat)).getD 0 0∨x.right≠(rs.drop (rs.length-(cD x.kind).toNat)).getD 1 0 then none
 else some (rs.take (rs.length-(cD x.kind).toNat)++[(i:Int)])
def eS (l:List Nd):Nat→Option (List Int)
 |0=>some []
 |k+1=>match eS l k with
  |none=>none
  |some rs=>fv rs k (nd l k)
def bh (l:List Nd):Bool:=decide (l.length≤256)&&(match eS l l.length with
 |none=>false
 |some rs=>rs.length==1)
theorem gc {l : List Nd} {k m : Nat} (h : eS l k = none) (hm : k ≤ m) : eS l m = none := by
  induction m with
  | zero => obtain rfl : k = 0 := by omega
            exact h
  | succ m ih =>
    by_cases e : k = m + 1
    · subst e; exact h
    · rw [eS, ih (by omega)]
theorem sP {rs a:List Int} {i:Nat} {x:Nd} (h:fv rs i x=some a):a.length≤rs.length+1:=by
 unfold fv at h;split at h
 ·cases h
 split at h
 ·cases h
 split at h
 ·cases h
 injection h with h
 subst h;simp
theorem oD {l:List Nd}:∀{k:Nat} {rs:List Int},eS l k=some rs→rs.length≤k
 |0,rs,h=>by injection h with h;subst h;simp
 |k+1,rs,h=>by
  rw[eS] at h;cases a:eS l k with
  |none=>rw[a] at h;cases h
  |some r0=>
   rw[a] at h;have:=sP h;have:=oD a;omega
theorem iU {l:List Nd} (h:bh l=true):l.length≤256∧∃r,eS l l.length=some [r]:=by
 unfold bh at h;rw[Bool.and_eq_true] at h;refine⟨of_decide_eq_true h.1,?_⟩;cases a:eS l l.length with
 |none=>rw[a] at h;exact absurd h.2 (by decide)
 |some rs=>
  rw[a] at h;have h2:rs.length=1:=by simpa using h.2
  obtain⟨r,rfl⟩:=List.length_eq_one_iff.mp h2;exact⟨r,rfl⟩
theorem gA {l:List Nd} (h:bh l=true):1≤l.length∧l.length≤256:=by
 obtain⟨h1,r,h2⟩:=iU h;have:=oD h2;exact⟨by simpa using this,h1⟩
inductive Stk (l:List Nd):List Int→Nat→Prop
 |nil:Stk l [] 0
 |cons (R:List Int) (a n:Nat):Stk l R a→Sub l a n→Stk l ((n:Int)::R) (n+1)
theorem qa {rs a:List Int} {i:Nat} {x:Nd} (h:fv rs i x=some a):(x.kind≠2→x.set=0)∧0≤cD x.kind∧cD x.kind≤rs.length∧
  x.left=(rs.drop (rs.length-(cD x.kind).toNat)).getD 0 0∧x.right=(rs.drop (rs.length-(cD x.kind).toNat)).getD 1 0∧a=rs.take (rs.length-(cD x.kind).toNat)++[(i:Int)]:=by
 unfold fv at h;split at h
 ·cases h
 rename_i h1
 split at h
 ·cases h
 rename_i h2
 split at h
 ·cases h
 rename_i b
 injection h with h
 refine⟨fun e=>?_,by omega,by omega,Classical.not_not.mp (fun e=>b (bX e)),Classical.not_not.mp (fun e=>b (bY e)),h.symm⟩
 exact Classical.not_not.mp (fun c=>h1 ⟨e,c⟩)
theorem pt (k:Int) (h:0≤cD k):(cD k=0∧(k=1∨k=2∨k=8∨k=9))∨(cD k=1∧(k=5∨k=6∨k=7))∨(cD k=2∧(k=3∨k=4)):=by
 unfold cD at h ⊢;split
 ·exact bX ⟨rfl,by assumption⟩
 ·split
  ·exact bY (bX ⟨rfl,by assumption⟩)
  ·split
   ·exact bY (bY ⟨rfl,by assumption⟩)
   ·rename_i a b c
    rw[if_neg a,if_neg b,if_neg c] at h;omega
theorem sO {l:List Nd} {rs p:List Int} {k:Nat} (hk:k<l.length) (h:fv rs k (nd l k)=some p) (hs:Stk l rs.reverse k):Stk l p.reverse (k+1):=by
 obtain⟨h1,h2,g,b,c,rfl⟩:=qa h;rcases pt _ h2 with⟨e,d⟩|⟨e,d⟩|⟨e,d⟩
 ·rw[e] at b c ⊢;simp at b c ⊢;rw[show l=l from rfl]
  exact .cons _ k k hs (.leaf k hk d b c h1)
 ·rw[e] at g b c ⊢;have hne:rs≠[]:=by intro e;rw[e] at g;simp at g
  obtain⟨q,r,rfl⟩:∃q r,rs=q++[r]:=⟨rs.dropLast,rs.getLast hne,(List.dropLast_concat_getLast hne).symm⟩
  simp at b c ⊢
  rw[List.reverse_append] at hs;simp at hs;generalize t:q.reverse=R at *;cases hs with
  |cons _ a n hs f=>
   exact .cons _ a (n+1) hs (.one a n hk d b c (h1 (by omega)) f)
 ·rw[e] at g b c ⊢;have hne:rs≠[]:=by intro e;rw[e] at g;simp at g
  obtain⟨q,r,rfl⟩:∃q r,rs=q++[r]:=⟨rs.dropLast,rs.getLast hne,(List.dropLast_concat_getLast hne).symm⟩
  have i:q≠[]:=by intro e;rw[e] at g;simp at g
  obtain⟨o,s,rfl⟩:∃o s,q=o++[s]:=⟨q.dropLast,q.getLast i,(List.dropLast_concat_getLast i).symm⟩
  have u:((o++[s]++[r]).length-(2:Int).toNat)=o.length:=by simp
  rw[u] at b c ⊢;rw[List.append_assoc,List.drop_left] at b c;rw[List.append_assoc,List.take_left];simp at b c ⊢;simp at hs;generalize t:o.reverse=R at *;cases hs with
  |cons _ a n hs f=>
   cases hs with
   |cons _ a2 m hs j=>
    exact .cons _ a2 (n+1) hs (.two a2 m n hk d b c (h1 (by omega)) j f)
theorem oC {l:List Nd}:∀(k:Nat) (rs:List Int),k≤l.length→eS l k=some rs→Stk l rs.reverse k
 |0,rs,_,h=>by injection h with h;subst h;exact .nil
 |k+1,rs,hk,h=>by
  rw[eS] at h;cases a:eS l k with
  |none=>rw[a] at h;cases h
  |some r0=>
   rw[a] at h;exact sO (by omega) h (oC k r0 (by omega) a)
theorem kT {l:List Nd} (h:bh l=true):Sub l 0 (l.length-1):=by
 obtain⟨h1,r,h2⟩:=iU h;have:=oC _ _ (bM _) h2;simp at this;generalize hn:l.length=n at this;cases this with
 |cons _ a m hs b=>
  cases hs with
  |nil=>exact b
def fB (st:List Nd):Gr where
 eps:=fun bol eol s s'=>((nd st s).kind=2∧(((s':Int)=(nd st s).left)∨((s':Int)=(nd st s).right)))∨((nd st s).kind=3∧bol=true∧(s':Int)=(nd st s).left)∨((nd st s).kind=4∧eol=true∧(s':Int)=(nd st s).left)
 byt:=fun c s s'=>(nd st s).kind=1∧hasB (nd st s).set c=true∧(s':Int)=(nd st s).left
 s0:=0
 fin:=fun s=>(nd st s).kind=5
theorem tE (st:List Nd):np (fB st):=by
 intro bol s s' h;rcases h with h|h|⟨_,h,_⟩
 ·exact bX h
 ·exact bY (bX h)
 ·cases h
def Goes (S:Nat→Nd) (P:Nat→Prop) (a b:Nat):Prop:=a=b∨(P a∧(S a).kind=2∧(S a).left=b∧(S a).right=b)
inductive Frag (l:List Nd) (S:Nat→Nd) (P:Nat→Prop):Nat→Nat→Nat→Prop
 |empty (n f x:Nat):(nd l n).kind=1→Goes S P f x→Frag l S P n f x
 |set (n f x:Nat):(nd l n).kind=2→P f→(S f).kind=1→(S f).left=x→(S f).set=(nd l n).set→Frag l S P n f x
 |bol (n f x:Nat):(nd l n).kind=8→P f→(S f).kind=3→(S f).left=x→Frag l S P n f x
 |eol (n f x:Nat):(nd l n).kind=9→P f→(S f).kind=4→(S f).left=x→Frag l S P n f x
 |cat (n a b f y x:Nat):(nd l n).kind=3→(nd l n).left=a→(nd l n).right=b→Frag l S P a f y→Frag l S P b y x→Frag l S P n f x
 |alt (n a b f f1 f2 n1 n2 x:Nat):(nd l n).kind=4→(nd l n).left=a→(nd l n).right=b→P f→(S f).kind=2→(S f).left=f1→(S f).right=f2→Frag l S P a f1 n1→Goes S P n1 x→Frag l S P b f2 n2→Goes S P n2 x→Frag l S P n f x
 |star (n a f f1 n1 x:Nat):(nd l n).kind=5→(nd l n).left=a→P f→(S f).kind=2→(S f).left=f1→(S f).right=x→Frag l S P a f1 n1→Goes S P n1 f→Frag l S P n f x
 |plus (n a f n1 x:Nat):(nd l n).kind=6→(nd l n).left=a→Frag l S P a f n1→P n1→(S n1).kind=2→(S n1).left=f→(S n1).right=x→Frag l S P n f x
 |opt (n a f f1 x:Nat):(nd l n).kind=7→(nd l n).left=a→P f→(S f).kind=2→(S f).left=f1→(S f).right=x→Frag l S P a f1 x→Frag l S P n f x
theorem Goes.congr {S S':Nat→Nd} {P c:Nat→Prop} {a b:Nat} (h:Goes S P a b) (hc:∀i,P i→S i=S' i∧c i):Goes S' c a b:=by
 rcases h with h|⟨h1,h2,d,f⟩
 ·exact bX h
 ·obtain⟨e,p⟩:=hc _ h1;exact bY ⟨p,e▸h2,e▸d,e▸f⟩
theorem Frag.congr {l:List Nd} {S S':Nat→Nd} {P o:Nat→Prop} {n f x:Nat} (h:Frag l S P n f x) (hc:∀i,P i→S i=S' i∧o i):Frag l S' o n f x:=by
 induction h with
 |empty n f x hk r=>exact .empty n f x hk (r.congr hc)
 |set n f x hk c h1 h2 d=>obtain⟨e,p⟩:=hc _ c;exact .set n f x hk p (e▸h1) (e▸h2) (e▸d)
 |bol n f x hk c h1 h2=>obtain⟨e,p⟩:=hc _ c;exact .bol n f x hk p (e▸h1) (e▸h2)
 |eol n f x hk c h1 h2=>obtain⟨e,p⟩:=hc _ c;exact .eol n f x hk p (e▸h1) (e▸h2)
 |cat n a b f y x hk ha k _ _ g m=>exact .cat n a b f y x hk ha k g m
 |alt n a b f f1 f2 n1 n2 x hk ha k c h1 h2 d _ j _ q g m=>obtain⟨e,p⟩:=hc _ c;exact .alt n a b f f1 f2 n1 n2 x hk ha k p (e▸h1) (e▸h2) (e▸d) g (j.congr hc) m (q.congr hc)
 |star n a f f1 n1 x hk ha c h1 h2 d _ j g=>obtain⟨e,p⟩:=hc _ c;exact .star n a f f1 n1 x hk ha p (e▸h1) (e▸h2) (e▸d) g (j.congr hc)
 |plus n a f n1 x hk ha _ c h1 h2 d g=>obtain⟨e,p⟩:=hc _ c;exact .plus n a f n1 x hk ha g p (e▸h1) (e▸h2) (e▸d)
 |opt n a f f1 x hk ha c h1 h2 d _ g=>obtain⟨e,p⟩:=hc _ c;exact .opt n a f f1 x hk ha p (e▸h1) (e▸h2) (e▸d) g
section
variable {l st : List Nd} {P : Nat → Prop} {t : List Nat}
end
structure Wired (l st:List Nd):Prop where
 wired:∃P f x,Goes (nd st) P 0 f∧Frag l (nd st) P (l.length-1) f x∧(nd st x).kind=5
def ag (L:List Nat) (s:Nat):List Nat:=if s∈L then L else L++[s]
def vC (l:List Nd) (x:Nat):Nat:=(nd l x).left.toNat
def ut (l:List Nd) (x:Nat):Nat:=(nd l x).right.toNat
def intoM (l:List Nd) (x:Nat) (bol eol:Bool) (L:List Nat):List Nat:=
 if(nd l x).kind=1 then ag L (2*x+1)
 else if(nd l x).kind=8 then(if bol=true then ag L (2*x+1) else L)
 else if(nd l x).kind=9 then(if eol=true then ag L (2*x+1) else L)
 else if(nd l x).kind=5∨(nd l x).kind=7 then ag (ag L (2*x+1)) (2*vC l x)
 else if(nd l x).kind=3∨(nd l x).kind=6 then ag L (2*vC l x)
 else if(nd l x).kind=4 then ag (ag L (2*vC l x)) (2*ut l x)
 else L
def outOfM (l:List Nd) (up x:Nat) (L:List Nat):List Nat:=
 if(nd l up).kind=3 then(if(x:Int)=(nd l up).left then ag L (2*ut l up) else ag L (2*up+1))
 else if(nd l up).kind=5 then ag L (2*up)
 else if(nd l up).kind=6 then ag (ag L (2*up+1)) (2*x)
 else ag L (2*up+1)
def cx (l:List Nd):Nat→List Nat
 |0=>List.replicate l.length 0
 |k+1=>
  if(nd l k).kind=3∨(nd l k).kind=4 then((cx l k).set (ut l k) k).set (vC l k) k
  else if(nd l k).kind=5∨(nd l k).kind=6∨(nd l k).kind=7 then(cx l k).set (vC l k) k
  else cx l k
theorem cW (l:List Nd) (k:Nat):(cx l k).length=l.length:=by
 induction k with
 |zero=>simp[cx]
 |succ k ih=>
  rw[cx];split
  ·simp[ih]
  ·split
   ·simp[ih]
   ·exact ih
def hZ (l:List Nd) (ps:List Nat) (bol eol:Bool) (s:Nat) (L:List Nat):List Nat:=
 if s%2=0 then intoM l (s/2) bol eol L
 else if s/2≠l.length-1 then outOfM l (ps.getD (s/2) 0) (s/2) L else L
def spreadF (l:List Nd) (ps:List Nat) (bol eol:Bool):Nat→Nat→List Nat→List Nat
 |0,_,L=>L
 |f+1,i,L=>if i<L.length then spreadF l ps bol eol f (i+1) (hZ l ps bol eol (L.getD i 0) L) else L
def dM (l:List Nd) (bol eol:Bool) (L:List Nat):List Nat:=spreadF l (cx l l.length) bol eol (2*l.length) 0 L
def hQ (l:List Nd) (c:Nat) (s:Nat) (L:List Nat):List Nat:=
 if s%2=0∧(nd l (s/2)).kind=2∧hasB (nd l (s/2)).set c=true then ag L (2*(s/2)+1) else L
def km (l:List Nd) (c:Nat) (L:List Nat):List Nat:=L.foldl (fun acc s=>hQ l c s acc) []
def kG (l:List Nd) (L:List Nat):Bool:=decide (2*(l.length-1)+1∈L)
def fZ (l:List Nd) (t:List Nat):Nat→Nat→List Nat→Int
 |0,_,_=> -1
 |f+1,i,L=>
  let a:=dM l (bi t i) false (ag L (2*(l.length-1)))
  if kG l a=true then i
  else if i=t.length then-1
  else if t.getD i 0=10 then
   let b:=dM l (bi t i) true a
   if kG l b=true then(i:Int)+1 else fZ l t f (i+1) (km l (t.getD i 0) b)
  else fZ l t f (i+1) (km l (t.getD i 0) a)
def ez (l:List Nd) (t:List Nat):Int:=if bh l=true then fZ l t (t.length+1) 0 [] else-1
def Spots (n:Nat) (L:List Nat):Prop:=L.Nodup∧∀s∈L,s<n
theorem jW:∀(n:Nat) (L:List Nat),L.Nodup→(∀s∈L,s<n)→L.length≤n
 |0,L,_,h=>by
  cases L with
  |nil=>exact bM _
  |cons a L=>exact absurd (h a (by simp)) (by omega)
 |n+1,L,hn,h=>by
  by_cases hm:n∈L
  ·have:=jW n (L.erase n) (hn.erase n) (fun s hs=>by
    have h1:=(List.Nodup.mem_erase_iff hn).mp hs
    have:=h s h1.2
    have:=h1.1
    omega)
   rw[List.length_erase_of_mem hm] at this;omega
  ·have:=jW n L hn (fun s hs=>by
    have:=h s hs
    have:s≠n:=fun e=>hm (e▸hs)
    omega)
   omega
theorem Spots.len {n:Nat} {L:List Nat} (h:Spots n L):L.length≤n:=jW n L h.1 h.2
theorem Spots.nil (n:Nat):Spots n []:=⟨List.nodup_nil,fun s h=>by cases h⟩
theorem Spots.enter {n:Nat} {L:List Nat} (h:Spots n L) {s:Nat} (hs:s<n):Spots n (ag L s):=by
 unfold ag;split
 ·exact h
 ·rename_i hn
  refine⟨?_,fun x hx=>?_⟩
  ·rw[List.nodup_append];exact⟨h.1,by simp,fun a ha b c=>by simp at c;subst c;intro e;subst e;exact hn ha⟩
  ·rcases List.mem_append.mp hx with hx|hx
   ·exact h.2 x hx
   ·simp at hx;omega
def jx (n:Nat) (x:Nd):Prop:=1≤x.kind∧x.kind≤5∧(x.kind≠5→0≤x.left∧x.left<n)∧(x.kind=2→0≤x.right∧x.right<n)
instance (n:Nat) (x:Nd):Decidable (jx n x):=by unfold jx;infer_instance
def bt (st:List Nd):Bool:=decide (1≤st.length∧st.length≤513∧∀x∈st,jx st.length x)
theorem a7 {st:List Nd} (h:bt st=true):1≤st.length∧st.length≤513∧∀s,s<st.length→jx st.length (nd st s):=by
 obtain⟨h1,h2,a⟩:=of_decide_eq_true h;refine⟨h1,h2,fun s hs=>a _ ?_⟩
 unfold nd;rw[bD,bE hs];exact bH hs
def nvisit (st:List Nd) (bol eol:Bool) (s:Nat) (L:List Nat):List Nat:=
 if(nd st s).kind=2 then ag (ag L (nd st s).left.toNat) (nd st s).right.toNat
 else if((nd st s).kind=3∧bol=true)∨((nd st s).kind=4∧eol=true) then ag L (nd st s).left.toNat else L
def nspreadF (st:List Nd) (bol eol:Bool):Nat→Nat→List Nat→List Nat
 |0,_,L=>L
 |f+1,i,L=>if i<L.length then nspreadF st bol eol f (i+1) (nvisit st bol eol (L.getD i 0) L) else L
def be (st:List Nd) (bol eol:Bool) (L:List Nat):List Nat:=nspreadF st bol eol st.length 0 L
def eX (st:List Nd) (c s:Nat) (L:List Nat):List Nat:=if(nd st s).kind=1∧hasB (nd st s).set c=true then ag L (nd st s).left.toNat else L
def nstep (st:List Nd) (c:Nat) (L:List Nat):List Nat:=L.foldl (fun acc s=>eX st c s acc) []
def ce (st:List Nd) (L:List Nat):Bool:=L.any fun s=>decide ((nd st s).kind=5)
def fR (st:List Nd) (t:List Nat):Nat→Nat→List Nat→Int
 |0,_,_=> -1
 |f+1,i,L=>
  let a:=be st (bi t i) false (ag L 0)
  if ce st a=true then i
  else if i=t.length then-1
  else if t.getD i 0=10 then
   let b:=be st (bi t i) true a
   if ce st b=true then(i:Int)+1 else fR st t f (i+1) (nstep st (t.getD i 0) b)
  else fR st t f (i+1) (nstep st (t.getD i 0) a)
def dh (st:List Nd) (t:List Nat):Int:=if bt st=true then fR st t (t.length+1) 0 [] else-1
theorem fH (L:List Nat) (s x:Nat):x∈ag L s↔x∈L∨x=s:=by
 unfold ag;split
 ·rename_i h
  exact⟨bX,fun a=>a.elim id (fun e=>e▸h)⟩
 ·rw[List.mem_append,List.mem_singleton]
theorem i8 (L:List Nat) (s:Nat):∃e,ag L s=L++e:=by
 unfold ag;split
 ·exact⟨[],by simp⟩
 ·exact⟨[s],rfl⟩
section
variable {st : List Nd} (hv : bt st = true)
include hv
theorem qH (bol eol:Bool) {s:Nat} (hs:s<st.length) (L:List Nat) (s':Nat):s'∈nvisit st bol eol s L↔s'∈L∨(fB st).eps bol eol s s':=by
 obtain⟨_,_,e⟩:=a7 hv;obtain⟨k1,k2,k3,k4⟩:=e s hs;unfold nvisit
 show _↔_∨(((nd st s).kind=2∧(((s':Int)=(nd st s).left)∨((s':Int)=(nd st s).right)))∨((nd st s).kind=3∧bol=true∧(s':Int)=(nd st s).left)∨((nd st s).kind=4∧eol=true∧(s':Int)=(nd st s).left))
 by_cases h2:(nd st s).kind=2
 ·rw[if_pos h2,fH,fH];have:=k3 (by omega)
  have:=k4 h2
  constructor
  ·rintro((h|h)|h)
   ·exact bX h
   ·exact bY (bX ⟨h2,bX (by omega)⟩)
   ·exact bY (bX ⟨h2,bY (by omega)⟩)
  ·rintro(h|⟨_,h|h⟩|⟨h,_⟩|⟨h,_⟩)
   ·exact bX (bX h)
   ·exact bX (bY (by omega))
   ·exact bY (by omega)
   ·omega
   ·omega
 ·rw[if_neg h2]
  by_cases c:((nd st s).kind=3∧bol=true)∨((nd st s).kind=4∧eol=true)
  ·rw[if_pos c,fH];have:=k3 (by omega)
   constructor
   ·rintro(h|h)
    ·exact bX h
    ·rcases c with⟨a,b⟩|⟨a,b⟩
     ·exact bY (bY (bX ⟨a,b,by omega⟩))
     ·exact bY (bY (bY ⟨a,b,by omega⟩))
   ·rintro(h|⟨h,_⟩|⟨_,_,h⟩|⟨_,_,h⟩)
    ·exact bX h
    ·omega
    ·exact bY (by omega)
    ·exact bY (by omega)
  ·rw[if_neg c];constructor
   ·exact bX
   ·rintro(h|⟨h,_⟩|⟨h,d,_⟩|⟨h,d,_⟩)
    ·exact h
    ·omega
    ·exact absurd (bX ⟨h,d⟩) c
    ·exact absurd (bY ⟨h,d⟩) c
omit hv in
theorem qC (bol eol:Bool) (s:Nat) (L:List Nat):∃e,nvisit st bol eol s L=L++e:=by
 unfold nvisit;split
 ·obtain⟨a,h1⟩:=i8 L (nd st s).left.toNat;obtain⟨b,h2⟩:=i8 (ag L (nd st s).left.toNat) (nd st s).right.toNat;exact⟨a++b,by rw[h2,h1,List.append_assoc]⟩
 split
 ·exact i8 _ _
 ·exact⟨[],by simp⟩
theorem Spots.nvisit {bol eol:Bool} {s:Nat} (hs:s<st.length) {L:List Nat} (h:Spots st.length L):Spots st.length (nvisit st bol eol s L):=by
 obtain⟨_,_,a⟩:=a7 hv;obtain⟨k1,k2,k3,k4⟩:=a s hs;unfold Go.Proofs.YtfchjdnpbgpfpaaGreatDoor.nvisit;split
 ·rename_i h2
  have:=k3 (by omega)
  have:=k4 h2
  exact(h.enter (by omega)).enter (by omega)
 split
 ·have:=k3 (by omega)
  exact h.enter (by omega)
 ·exact h
theorem Spots.nspreadF {bol eol:Bool}:∀(f i:Nat) (L:List Nat),Spots st.length L→Spots st.length (nspreadF st bol eol f i L)
 |0,_,_,h=>h
 |f+1,i,L,h=>by
  rw[Go.Proofs.YtfchjdnpbgpfpaaGreatDoor.nspreadF];split
  ·rename_i a
   refine Spots.nspreadF f _ _ (Spots.nvisit hv ?_ h);rw[bD,bE a];exact h.2 _ (bH a)
  ·exact h
theorem iQ (bol eol:Bool):∀(f i:Nat) (L:List Nat),Spots st.length L→st.length≤f+i→
  (∀j,j<i→∀h:j<L.length,∀s',(fB st).eps bol eol L[j] s'→s'∈L)→
  (∀s∈L,s∈nspreadF st bol eol f i L)∧
  (∀s∈nspreadF st bol eol f i L,∀s',(fB st).eps bol eol s s'→s'∈nspreadF st bol eol f i L)∧
  (∀P:Nat→Prop,(∀s s',P s→(fB st).eps bol eol s s'→P s')→(∀s∈L,P s)→∀s∈nspreadF st bol eol f i L,P s)
 |0,i,L,c,r,hc=>by
  have l:=c.len
  refine⟨fun s h=>h,fun s hs s' d=>?_,fun P _ b=>b⟩
  rw[Go.Proofs.YtfchjdnpbgpfpaaGreatDoor.nspreadF] at hs ⊢;obtain⟨j,hj,rfl⟩:=List.mem_iff_getElem.mp hs;exact hc j (by omega) hj s' d
 |f+1,i,L,c,r,hc=>by
  have l:=c.len
  rw[nspreadF]
  by_cases g:i<L.length
  ·rw[if_pos g];have t:L.getD i 0=L[i]:=by rw[bD,bE g];rfl
   have m:L[i]<st.length:=c.2 _ (bH g)
   rw[t];obtain⟨e,d⟩:=qC (st:=st) bol eol L[i] L;have hm:=fun s'=>qH hv bol eol m L s'
   have n:=Spots.nvisit hv (bol:=bol) (eol:=eol) m c
   obtain⟨u,w,x⟩:=iQ bol eol f (i+1) (nvisit st bol eol L[i] L) n (by omega) (by
    intro j hj h s' a
    by_cases k:j<L.length
    ·have p:(nvisit st bol eol L[i] L)[j]=L[j]:=by
      simp only[d];exact List.getElem_append_left k
     rw[p] at a;rw[hm]
     by_cases o:j=i
     ·subst o;exact bY a
     ·exact bX (hc j (by omega) k s' a)
    ·omega)
   refine⟨fun s h=>u s ((hm s).2 (bX h)),w,fun P b q=>x P b (fun s hs=>?_)⟩
   rcases (hm s).1 hs with h|h
   ·exact q s h
   ·exact b _ _ (q _ (bH g)) h
  ·rw[if_neg g];refine⟨fun s h=>h,fun s hs s' d=>?_,fun P _ b=>b⟩
   obtain⟨j,hj,rfl⟩:=List.mem_iff_getElem.mp hs;exact hc j (by omega) hj s' d
theorem kA (bol eol:Bool) {L:List Nat} (b:Spots st.length L) (s:Nat):s∈be st bol eol L↔Clo (fB st) bol eol (fun s=>s∈L) s:=by
 obtain⟨c,d,e⟩:=iQ hv bol eol st.length 0 L b (by omega) (fun j hj=>by omega)
 constructor
 ·exact e _ (fun s s' h a=> .step s s' h a) (fun s h=> .here s h) s
 ·intro h
  induction h with
  |here s h=>exact c s h
  |step s s' _ a ih=>exact d s ih s' a
end
theorem jV {st:List Nd} (hv:bt st=true) (c:Nat):∀(S acc:List Nat),(∀s∈S,s<st.length)→Spots st.length acc→
  Spots st.length (S.foldl (fun acc s=>eX st c s acc) acc)∧∀s',s'∈S.foldl (fun acc s=>eX st c s acc) acc↔s'∈acc∨∃s∈S,(fB st).byt c s s'
 |[],acc,_,h=>⟨h,fun s'=>by simp⟩
 |s::S,acc,b,h=>by
  have hs:s<st.length:=b s (by simp)
  obtain⟨_,_,a⟩:=a7 hv;obtain⟨k1,k2,k3,k4⟩:=a s hs;have h1:Spots st.length (eX st c s acc)∧∀s',s'∈eX st c s acc↔s'∈acc∨(fB st).byt c s s':=by
   unfold eX
   show _∧∀s':Nat,_↔_∨((nd st s).kind=1∧hasB (nd st s).set c=true∧(s':Int)=(nd st s).left)
   split
   ·rename_i hc
    have:=k3 (by omega)
    refine⟨h.enter (by omega),fun s'=>?_⟩
    rw[fH];exact⟨fun h=>h.imp id (fun e=>⟨hc.1,hc.2,by omega⟩),fun h=>h.imp id (fun e=>by have:=e.2.2;omega)⟩
   ·rename_i hc
    exact⟨h,fun s'=>⟨bX,fun h=>h.elim id (fun e=>absurd ⟨e.1,e.2.1⟩ hc)⟩⟩
  obtain⟨d,f⟩:=jV hv c S (eX st c s acc) (fun x hx=>b x (by simp[hx])) h1.1
  refine⟨d,fun s'=>?_⟩
  rw[List.foldl_cons,f,h1.2];constructor
  ·rintro((h|h)|⟨x,hx,h⟩)
   ·exact bX h
   ·exact bY ⟨s,by simp,h⟩
   ·exact bY ⟨x,by simp[hx],h⟩
  ·rintro(h|⟨x,hx,h⟩)
   ·exact bX (bX h)
   ·rcases List.mem_cons.mp hx with rfl|hx
    ·exact bX (bY h)
    ·exact bY ⟨x,hx,h⟩
theorem Spots.nstep {st:List Nd} (hv:bt st=true) (c:Nat) {L:List Nat} (h:Spots st.length L):Spots st.length (nstep st c L):=(jV hv c L [] h.2 (Spots.nil _)).1
theorem mM {st:List Nd} (hv:bt st=true) (c:Nat) {L:List Nat} (h:Spots st.length L) (s':Nat):s'∈nstep st c L↔ ∃s,s∈L∧(fB st).byt c s s':=by
 unfold nstep;rw[(jV hv c L [] h.2 (Spots.nil _)).2];simp
theorem iH (st:List Nd) (L:List Nat):ce st L=true↔ ∃s,s∈L∧(fB st).fin s:=by
 unfold ce;rw[List.any_eq_true]
 show _↔ ∃s,s∈L∧(nd st s).kind=5
 simp only[decide_eq_true_eq]
theorem wu {t:List Nat} {i:Nat} (a:i<t.length) (h:t.getD i 0=10):fG t i=true:=by
 unfold fG;rw[h,decide_eq_true a];rfl
theorem wv {t:List Nat} {i:Nat} (h:t.getD i 0≠10):fG t i=false:=by
 unfold fG;rw[Bool.and_eq_false_iff]
 right
 simpa using h
theorem iY {st:List Nd} (hv:bt st=true) (t:List Nat):∀(f i:Nat) (L:List Nat),Spots st.length L→i≤t.length→t.length<f+i→Runs (fB st) t i (fun s=>s∈L) (fR st t f i L)
 |0,i,L,m,o,n=>by omega
 |f+1,i,L,m,o,n=>by
  have h1:=(a7 hv).1
  have g:Spots st.length (ag L 0):=m.enter (by omega)
  have b:Spots st.length (be st (bi t i) false (ag L 0)):=Spots.nspreadF hv _ _ _ g
  have e:∀s,s∈be st (bi t i) false (ag L 0)↔Clo (fB st) (bi t i) false (fun s=>s∈L∨s=(fB st).s0) s:=by
   intro s;rw[kA hv _ _ g];exact Clo.iff_ (fun s=>fH L 0 s) s
  rw[fR];generalize be st (bi t i) false (ag L 0)=L1 at *;simp only;split
  ·rename_i k
   exact .done i _ (fun s=>s∈L1) e ((iH st L1).1 k)
  rename_i k
  have a:∀s,s∈L1→¬(fB st).fin s:=fun s h1 h2=>k ((iH st L1).2 ⟨s,h1,h2⟩)
  split
  ·rename_i l
   exact .stop i _ (fun s=>s∈L1) e a l
  rename_i hne
  have c:i<t.length:=by omega
  split
  ·rename_i hc
   have h:Spots st.length (be st (bi t i) true L1):=Spots.nspreadF hv _ _ _ b
   have hB:∀s,s∈be st (bi t i) true L1↔Clo (fB st) (bi t i) (fG t i) (fun s=>s∈L1) s:=by
    intro s;rw[wu c hc];exact kA hv _ _ b s
   generalize be st (bi t i) true L1=L2 at *;split
   ·rename_i d
    exact .late i _ (fun s=>s∈L1) (fun s=>s∈L2) e a c hB ((iH st L2).1 d)
   ·rename_i d
    have j:∀s,s∈L2→¬(fB st).fin s:=fun s h1 h2=>d ((iH st L2).2 ⟨s,h1,h2⟩)
    exact .step i _ (fun s=>s∈L1) (fun s=>s∈L2) (fun s=>s∈nstep st (t.getD i 0) L2) _ e a c hB j (mM hv _ h) (iY hv t f (i+1) _ (Spots.nstep hv _ h) (by omega) (by omega))
  ·rename_i hc
   have hB:∀s,s∈L1↔Clo (fB st) (bi t i) (fG t i) (fun s=>s∈L1) s:=by
    rw[wv hc];refine Clo.closed (fun s s' hs l=>?_)
    rw[e] at hs ⊢;exact .step s s' hs l
   exact .step i _ (fun s=>s∈L1) (fun s=>s∈L1) (fun s=>s∈nstep st (t.getD i 0) L1) _ e a c hB a (mM hv _ b) (iY hv t f (i+1) _ (Spots.nstep hv _ b) (by omega) (by omega))
theorem gM {st:List Nd} (hv:bt st=true) (t:List Nat):GLeast (fB st) t (dh st t):=by
 unfold dh;rw[if_pos hv];refine Runs.law0 (tE st) ?_;have:=iY hv t (t.length+1) 0 [] (Spots.nil _) (bO _) (by omega)
 simpa using this
theorem cP (q:Ps) (c:Int):(ay q c).at_=q.at_:=by unfold ay;split<;>rfl
theorem bC (q:Ps) (c:Int):(ay q c).deep=q.deep:=by unfold ay;split<;>rfl
theorem nV (q:Ps) (c:Int) (hc:c≠0):(ay q c).e≠0:=by
 unfold ay;split
 ·exact hc
 ·assumption
theorem aB (q:Ps):(fc q).at_=q.at_+1:=rfl
theorem ba (q:Ps):(fc q).deep=q.deep:=rfl
theorem aw (B:List Nat) (p:Ps):eF B p=true↔p.e=0∧p.at_<B.length:=by
 unfold eF;simp
theorem su (B:List Nat) (p:Ps) (h:p.at_≤B.length):(mr B p).2.at_≤B.length∧p.at_≤(mr B p).2.at_∧(mr B p).2.deep=p.deep:=by
 unfold mr;split
 ·have key:∀c:Bool,(fc (if c=true then p else ay p 82)).at_=p.at_+1∧(fc (if c=true then p else ay p 82)).deep=p.deep:=by
   intro c;cases c
   ·exact⟨by show(ay p 82).at_+1=_;rw[cP],by show(ay p 82).deep=_;rw[bC]⟩
   ·exact⟨rfl,rfl⟩
  obtain⟨k1,k2⟩:=key (iZ (iO B p)).2.2
  show(fc (if(iZ (iO B p)).2.2=true then p else ay p 82)).at_≤_∧_≤(fc (if(iZ (iO B p)).2.2=true then p else ay p 82)).at_∧(fc (if(iZ (iO B p)).2.2=true then p else ay p 82)).deep=_
  rw[k1,k2];omega
 ·show(ay p 82).at_≤_∧_≤(ay p 82).at_∧(ay p 82).deep=_
  rw[cP,bC];omega
theorem iV (B:List Nat) (p:Ps) (h:p.at_<B.length):(aC B p).2.at_≤B.length∧p.at_<(aC B p).2.at_∧(aC B p).2.deep=p.deep:=by
 unfold aC;split
 ·have:=su B (fc p) (by rw[aB];omega)
  rw[aB,ba] at this;omega
 ·split
  ·show(ay (fc p) 80).at_≤_∧_<(ay (fc p) 80).at_∧(ay (fc p) 80).deep=_
   rw[cP,bC,aB,ba];omega
  ·show(fc p).at_≤_∧_<(fc p).at_∧(fc p).deep=_
   rw[aB,ba];omega
theorem lT (B:List Nat) (p:Ps) (h:p.at_<B.length):(eB B p).2.at_≤B.length∧p.at_<(eB B p).2.at_∧(eB B p).2.deep=p.deep:=by
 obtain⟨h1,h2,a⟩:=iV B p h;unfold eB;simp only
 by_cases hm:eF B (aC B p).2=true∧iO B (aC B p).2=45
 ·rw[if_pos hm];have c:=((aw _ _).1 hm.1).2
  by_cases hc:(aC B p).1.2=false∨B.length≤(fc (aC B p).2).at_
  ·rw[if_pos hc];simp only[cP,bC,aB,ba];omega
  ·rw[if_neg hc];rw[aB] at hc;have b:=iV B (fc (aC B p).2) (by rw[aB];omega)
   rw[aB,ba] at b;simp only;split
   ·rw[cP,bC];omega
   ·omega
 ·rw[if_neg hm];exact⟨h1,h2,a⟩
theorem gS (B:List Nat) (d:Bool):∀(f:Nat) (b:Bool) (z:BSet) (p:Ps) (R:BSet×Ps),p.at_≤B.length→aF B d f b z p=some R→R.2.at_≤B.length∧p.at_≤R.2.at_∧R.2.deep=p.deep
 |0,b,z,p,R,h,a=>by cases a
 |f+1,b,z,p,R,h,a=>by
  rw[aF] at a;split at a
  ·rename_i hm
   have e:=((aw _ _).1 hm).2
   split at a
   ·injection a with a
    subst a;have key:∀c:Bool,(fc (if c=true then ay p 80 else p)).at_=p.at_+1∧(fc (if c=true then ay p 80 else p)).deep=p.deep:=by
     intro c;cases c
     ·exact⟨rfl,rfl⟩
     ·exact⟨by show(ay p 80).at_+1=_;rw[cP],by show(ay p 80).deep=_;rw[bC]⟩
    obtain⟨k1,k2⟩:=key b
    show(fc (if b=true then ay p 80 else p)).at_≤_∧_≤(fc (if b=true then ay p 80 else p)).at_∧(fc (if b=true then ay p 80 else p)).deep=_
    rw[k1,k2];omega
   ·have g:=lT B p e
    have:=gS B d f false _ _ R g.1 a
    omega
  ·injection a with a
   subst a
   show(ay p 80).at_≤_∧_≤(ay p 80).at_∧(ay p 80).deep=_
   rw[cP,bC];omega
theorem ug (B:List Nat) (f:Nat) (p:Ps) (R:BSet×Ps) (h:p.at_≤B.length) (a:fI B f p=some R):R.2.at_≤B.length∧p.at_≤R.2.at_∧R.2.deep=p.deep:=by
 unfold fI at a;split at a
 ·rename_i hm
  have b:=((aw _ _).1 hm.1).2
  have:=gS B true f true 0 (fc p) R (by rw[aB];omega) a
  rw[aB,ba] at this;omega
 ·exact gS B false f true 0 p R h a
def Nb (l:List Nd):Prop:=∀x∈l,(0≤x.left∧(x.left:Int)<l.length)∧0≤x.right∧(x.right:Int)<l.length
theorem Nb.nil_:Nb []:=fun x h=>by cases h
theorem Nb.leaf (k:Int) (s:BSet):Nb (bd k s):=by
 intro x hx;simp[bd] at hx;subst hx;simp[bd]
theorem Nb.join {k:Int} {l r:List Nd} (b:Nb l) (c:Nb r) (d:0<l.length):Nb (az k l r):=by
 have a:(az k l r).length=l.length+r.length+1:=by simp[az];omega
 intro x hx;rw[a];unfold az at hx;simp only[List.mem_append,List.mem_map,List.mem_singleton] at hx;rcases hx with(hx|⟨y,hy,rfl⟩)|rfl
 ·obtain⟨h1,h2⟩:=b x hx;omega
 ·obtain⟨h1,h2⟩:=c y hy;unfold ai dO;simp only;constructor
  ·split<;>omega
  ·split<;>omega
 ·simp only
  constructor
  ·omega
  ·split<;>omega
theorem cJ (k:Int) (l r:List Nd):(az k l r).length=l.length+r.length+1:=by simp[az];omega
structure Good (n:Nat) (p:Ps) (l:List Nd) (q:Ps) (k:Nat):Prop where
 dp:p.deep≤q.deep
 nb:Nb l
 ok:q.e=0→q.deep=p.deep∧p.at_≤q.at_∧q.at_≤n∧0<l.length∧l.length+k≤2*(q.at_-p.at_)+1
 er:q.e≠0→q.at_+q.deep≤n+26∧q.deep≤25∧l.length≤2*n+1
def dJ (n:Nat) (p:Ps):Prop:=p.e=0∧p.at_≤n∧p.deep≤24
theorem cR (B:List Nat):∀f:Nat,
  (∀p R,dJ B.length p→fM B f p=some R→Good B.length p R.1 R.2 0)∧
  (∀c l p R,dJ B.length c→Good B.length c l p 0→aX B f l p=some R→Good B.length c R.1 R.2 0)∧
  (∀p R,dJ B.length p→fK B f p=some R→Good B.length p R.1 R.2 0)∧
  (∀c l p R,dJ B.length c→(l=[]∧p=c∨Good B.length c l p 2∧p.e=0)→aI B f l p=some R→Good B.length c R.1 R.2 0)∧
  (∀p R,dJ B.length p→p.at_<B.length→dT B f p=some R→Good B.length p R.1 R.2 2)∧
  (∀c l p R,dJ B.length c→Good B.length c l p 2→ar B f l p=some R→Good B.length c R.1 R.2 2)∧
  (∀p R,dJ B.length p→p.at_<B.length→ef B f p=some R→Good B.length p R.1 R.2 2):=by
 intro f
 induction f with
 |zero=>
  refine⟨?_,?_,?_,?_,?_,?_,?_⟩
  ·intro p R _ h;simp[fM] at h
  ·intro c l p R _ _ h;simp[aX] at h
  ·intro p R _ h;simp[fK] at h
  ·intro c l p R _ _ h;simp[aI] at h
  ·intro p R _ _ h;simp[dT] at h
  ·intro c l p R _ _ h;simp[ar] at h
  ·intro p R _ _ h;simp[ef] at h
 |succ f ih=>
  obtain⟨C,m,o,n,u,g,t⟩:=ih;refine⟨?_,?_,?_,?_,?_,?_,?_⟩
  ·intro p R hs h;rw[fM] at h;split at h
   ·cases h
   ·rename_i l q s
    exact m p l q R hs (o p (l,q) hs s) h
  ·intro c l p R hs i h;rw[aX] at h;split at h
   ·rename_i hm
    obtain⟨b,j⟩:=(aw _ _).1 hm.1;obtain⟨w,J,K,y,L⟩:=i.ok b;have A:dJ B.length (fc p):=⟨b,by rw[aB];omega,by rw[ba,w];exact hs.2.2⟩
    split at h
    ·cases h
    ·rename_i x q s
     have hx:Good B.length (fc p) x q 0:=o (fc p) (x,q) A s
     split at h
     ·rename_i d
      obtain⟨E,F,G,H,I⟩:=hx.ok d;rw[aB] at F I;rw[ba] at E;refine m c _ q R hs ⟨by omega,i.nb.join hx.nb y,fun _=>⟨by omega,by omega,G,by rw[cJ];omega,by rw[cJ];omega⟩,fun b=>absurd d b⟩ h
     ·rename_i d
      injection h with h
      subst h;have:=hx.er d;exact⟨by have:=hx.dp;rw[ba] at this;simp only at this ⊢;omega,Nb.nil_,fun b=>absurd b d,fun _=>⟨this.1,this.2.1,by simp⟩⟩
   ·injection h with h
    subst h;exact i
  ·intro p R hs h;rw[fK] at h;exact n p [] p R hs (bX ⟨rfl,rfl⟩) h
  ·intro c l p R hs i h;have O:p.e=0:=by
    rcases i with⟨_,rfl⟩|⟨_,b⟩
    ·exact hs.1
    ·exact b
   have Q:p.deep=c.deep∧c.at_≤p.at_∧p.at_≤B.length∧Nb l∧(l.length=0∧p.at_=c.at_∨0<l.length∧l.length+2≤2*(p.at_-c.at_)+1):=by
    rcases i with⟨rfl,rfl⟩|⟨i,b⟩
    ·exact⟨rfl,bM _,hs.2.1,Nb.nil_,bX ⟨rfl,rfl⟩⟩
    ·obtain⟨w,J,K,y,L⟩:=i.ok b;exact⟨w,J,K,i.nb,bY ⟨y,L⟩⟩
   obtain⟨s1,X,T,U,Z⟩:=Q;rw[aI] at h;split at h
   ·rename_i hm
    obtain⟨b,j⟩:=(aw _ _).1 hm.1;split at h
    ·cases h
    ·rename_i x q s
     have hx:Good B.length p x q 2:=u p (x,q) ⟨b,T,by rw[s1];exact hs.2.2⟩ j s
     split at h
     ·rename_i d
      obtain⟨E,F,G,H,I⟩:=hx.ok d;refine n c _ q R hs (bY ⟨⟨by omega,?_,fun _=>⟨by omega,by omega,G,?_,?_⟩,fun b=>absurd d b⟩,d⟩) h
      ·split
       ·exact hx.nb
       ·exact U.join hx.nb (by omega)
      ·split
       ·exact H
       ·rw[cJ];omega
      ·split
       ·omega
       ·rw[cJ];omega
     ·rename_i d
      injection h with h
      subst h;have D:=hx.er d;exact⟨by have:=hx.dp;simp only at this ⊢;omega,Nb.nil_,fun b=>absurd b d,fun _=>⟨D.1,D.2.1,by simp⟩⟩
   ·injection h with h
    subst h;refine⟨by simp only;omega,?_,fun _=>⟨s1,X,T,?_,?_⟩,fun b=>absurd O b⟩
    ·simp only
     split
     ·exact Nb.leaf _ _
     ·exact U
    ·simp only
     split
     ·simp[bd]
     ·omega
    ·simp only
     split
     ·simp[bd]
     ·omega
  ·intro p R hs j h;rw[dT] at h;split at h
   ·cases h
   ·rename_i l q s
    exact g p l q R hs (t p (l,q) hs j s) h
  ·intro c l p R hs i h;rw[ar] at h;split at h
   ·rename_i hm
    obtain⟨b,j⟩:=(aw _ _).1 hm;obtain⟨w,J,K,y,L⟩:=i.ok b;have key:∀k,Good B.length c (az k l []) (fc p) 2:=fun k=>
     ⟨by rw[ba];omega,i.nb.join Nb.nil_ y,fun _=>⟨by rw[ba];exact w,by rw[aB];omega,by rw[aB];omega,by rw[cJ];omega,by rw[cJ,aB];simp;omega⟩,fun h=>absurd b h⟩
    split at h
    ·exact g c _ _ R hs (key 5) h
    ·split at h
     ·exact g c _ _ R hs (key 6) h
     ·split at h
      ·exact g c _ _ R hs (key 7) h
      ·injection h with h
       subst h;exact i
   ·injection h with h
    subst h;exact i
  ·intro p R hs j h;obtain⟨P,A,W⟩:=hs;have a:∀(k:Int) (z:BSet) (q:Ps),q.at_≤B.length→p.at_+1≤q.at_→q.deep=p.deep→Good B.length p (bd k z) q 2:=fun k z q h1 h2 D=>
    ⟨by omega,Nb.leaf _ _,fun _=>⟨D,by omega,h1,by simp[bd],by simp[bd];omega⟩,fun _=>⟨by omega,by omega,by simp[bd]⟩⟩
   rw[ef] at h;simp only at h;split at h
   ·injection h with h;subst h;exact a _ _ _ (by rw[aB];omega) (by rw[aB];omega) rfl
   split at h
   ·injection h with h;subst h;exact a _ _ _ (by rw[aB];omega) (by rw[aB];omega) rfl
   split at h
   ·injection h with h;subst h;exact a _ _ _ (by rw[aB];omega) (by rw[aB];omega) rfl
   split at h
   ·injection h with h;subst h
    have:=su B (fc p) (by rw[aB];omega)
    rw[aB,ba] at this;exact a _ _ _ this.1 this.2.1 this.2.2
   split at h
   ·split at h
    ·cases h
    ·rename_i z r hz
     injection h with h;subst h
     have:=ug B f (fc p) (z,r) (by rw[aB];omega) hz
     rw[aB,ba] at this;exact a _ _ _ this.1 this.2.1 this.2.2
   split at h
   ·injection h with h;subst h;exact a _ _ _ (by rw[cP,aB];omega) (by rw[cP,aB];omega) (by rw[bC];rfl)
   split at h
   ·injection h with h;subst h;exact a _ _ _ (by rw[cP,aB];omega) (by rw[cP,aB];omega) (by rw[bC];rfl)
   split at h
   ·split at h
    ·rename_i M
     injection h with h;subst h
     simp only[ba] at M;refine⟨by simp only[bC,ba];omega,Nb.nil_,fun b=>absurd b (nV _ _ (by decide)),fun _=>⟨?_,?_,by simp⟩⟩
     ·simp only[bC,cP,ba,aB];omega
     ·simp only[bC,ba];omega
    ·rename_i M
     simp only[ba] at M;split at h
     ·cases h
     ·rename_i l r V
      injection h with h;subst h
      have hx:Good B.length {fc p with deep:=(fc p).deep+1} l r 0:=C _ (l,r) ⟨P,by simp only[aB];omega,by simp only[ba];omega⟩ V
      have N:=hx.dp
      simp only[ba] at N
      by_cases b:r.e=0
      ·obtain⟨E,F,G,H,I⟩:=hx.ok b;simp only[aB,ba] at E F I
       by_cases S:B.length≤r.at_
       ·rw[if_pos ⟨b,S⟩];refine⟨by simp only[bC];omega,hx.nb,fun h=>absurd h (nV _ _ (by decide)),fun _=>⟨by simp only[bC,cP];omega,by simp only[bC];omega,by simp only;omega⟩⟩
       ·rw[if_neg (fun h=>S h.2)]
        exact⟨by simp only;omega,hx.nb,fun _=>⟨by simp only;omega,by simp only;omega,by simp only;omega,H,by simp only;omega⟩,fun h=>absurd b h⟩
      ·rw[if_neg (fun h=>b h.1)]
       obtain⟨y1,y2,Y⟩:=hx.er b;exact⟨by simp only;omega,hx.nb,fun h=>absurd h b,fun _=>⟨by simp only;omega,by simp only;omega,Y⟩⟩
   ·injection h with h;subst h;exact a _ _ _ (by rw[aB];omega) (by rw[aB];omega) rfl
theorem aG (s:BSet) (i:Nat):ab s i<18446744073709551616:=Nat.mod_lt _ (by decide)
theorem xK (i:Nat):Cp^i=2^(64*i):=by rw[show Cp=2^64 by decide,←Nat.pow_mul]
theorem eV (s:BSet) (i k:Nat):(ab s i).testBit k=(decide (k<64)&&s.testBit (64*i+k)):=by
 unfold ab;rw[xK,show Cp=2^64 by decide,Nat.testBit_mod_two_pow,Nat.testBit_div_two_pow,Nat.add_comm]
theorem rG (s t:BSet) (i:Nat):ab (s|||t) i=ab s i|||ab t i:=by
 apply Nat.eq_of_testBit_eq;intro k;rw[Nat.testBit_or,eV,eV,eV,Nat.testBit_or];cases decide (k<64)<;>simp
theorem iD (s:BSet) (b i:Nat):ab (cO s b) i=if i=b/64 then ab s i|||2^(b%64) else ab s i:=by
 have a:ab (2^b) i=if i=b/64 then 2^(b%64) else 0:=by
  apply Nat.eq_of_testBit_eq;intro k;rw[eV,Nat.testBit_two_pow]
  by_cases h:i=b/64
  ·rw[if_pos h,Nat.testBit_two_pow]
   by_cases hk:k<64
   ·rw[decide_eq_true hk,Bool.true_and];apply decide_eq_decide.2;omega
   ·rw[decide_eq_false hk,Bool.false_and]
    symm
    apply decide_eq_false;omega
  ·rw[if_neg h,Nat.zero_testBit]
   by_cases hk:k<64
   ·rw[decide_eq_true hk,Bool.true_and];apply decide_eq_false;omega
   ·rw[decide_eq_false hk,Bool.false_and]
 unfold cO;rw[rG,a];split
 ·rfl
 ·rw[Nat.or_zero]
theorem cy (i:Nat):ab 0 i=0:=by unfold ab;simp
theorem yc {s t:BSet} (hs:s<2^256) (a:t<2^256) (h:∀i,i<4→ab s i=ab t i):s=t:=by
 apply Nat.eq_of_testBit_eq;intro k
 by_cases hk:k<256
 ·have:=congrArg (fun x=>x.testBit (k%64)) (h (k/64) (by omega))
  simp only[eV] at this;rw[decide_eq_true (show k%64<64 by omega),Bool.true_and,Bool.true_and,show 64*(k/64)+k%64=k by omega] at this
  exact this
 ·rw[Nat.testBit_lt_two_pow (Nat.lt_of_lt_of_le hs (Nat.pow_le_pow_right (by decide) (by omega))),Nat.testBit_lt_two_pow (Nat.lt_of_lt_of_le a (Nat.pow_le_pow_right (by decide) (by omega)))]
theorem t7 (s:BSet) (b:Nat) (a:b<256):hasB s b=decide (ab s (b/64)/2^(b%64)%2=1):=by
 have h:=eV s (b/64) (b%64)
 rw[decide_eq_true (show b%64<64 by omega),Bool.true_and,show 64*(b/64)+b%64=b by omega] at h
 unfold hasB;rw[←h,Nat.testBit_eq_decide_div_mod_eq]
def cg (s:BSet):Prop:=s<2^256
theorem aq:cg 0:=by unfold cg;decide
theorem gh {s t:BSet} (hs:cg s) (a:cg t):cg (s|||t):=Nat.or_lt_two_pow hs a
theorem cz {s:BSet} {b:Nat} (hs:cg s) (a:b<256):cg (cO s b):=
 Nat.or_lt_two_pow hs (Nat.pow_lt_pow_right (by decide) a)
theorem mD {s:BSet} (hs:cg s):cg (eC s):=Nat.xor_lt_two_pow hs (by decide)
theorem kF (lo:Nat):∀(L:List Nat) (s:BSet),cg s→(∀k∈L,lo+k<256)→cg (L.foldl (fun s k=>cO s (lo+k)) s)
 |[],s,h,_=>h
 |k::L,s,h,a=>kF lo L _ (cz h (a k (by simp))) (fun x hx=>a x (by simp[hx]))
theorem fp (lo a:Nat) (h:a<256):cg (dz lo a):=by
 unfold dz;refine kF lo _ _ aq (fun k hk=>?_)
 have:=List.mem_range.mp hk
 omega
theorem kz (s:BSet):∀(f b:Nat),b+f≤256→ir s f b<256
 |0,b,_=>by unfold ir;decide
 |f+1,b,h=>by
  unfold ir;split
  ·omega
  ·exact kz s f (b+1) (by omega)
theorem jS (s:BSet):eD s<256:=kz s 256 0 (by decide)
theorem tH (b:Nat) (a:b<256):cg (iZ b).1:=by
 unfold iZ
 repeat' split
 ·exact cz aq (by decide)
 ·exact cz aq (by decide)
 ·exact cz aq (by decide)
 ·exact fp _ _ (by decide)
 ·exact gh (gh (fp _ _ (by decide)) (fp _ _ (by decide))) (gh (fp _ _ (by decide)) (cz aq (by decide)))
 ·exact gh (gh (cz aq (by decide)) (fp _ _ (by decide))) (cz aq (by decide))
 ·exact cz aq a
 ·exact aq
section
variable {B : List Nat} (hB : ∀ x ∈ B, x < 256)
include hB
theorem lX (p:Ps):iO B p<256:=by
 unfold iO;rw[bD]
 by_cases h:p.at_<B.length
 ·rw[bE h];exact hB _ (bH h)
 ·rw[bI (by omega)];decide
theorem ss (p:Ps):cg (mr B p).1.1:=by
 unfold mr;split
 ·exact tH _ (lX hB p)
 ·exact aq
theorem lh (p:Ps):cg (aC B p).1.1:=by
 unfold aC;split
 ·exact ss hB _
 ·split
  ·exact aq
  ·exact cz aq (lX hB p)
theorem wD (p:Ps):cg (eB B p).1:=by
 unfold eB;simp only;split
 ·split
  ·exact lh hB p
  ·exact fp _ _ (jS _)
 ·exact lh hB p
theorem gQ (a:Bool):∀(f:Nat) (b:Bool) (s:BSet) (p:Ps) (R:BSet×Ps),cg s→aF B a f b s p=some R→cg R.1
 |0,b,s,p,R,hs,h=>by simp[aF] at h
 |f+1,b,s,p,R,hs,h=>by
  rw[aF] at h;split at h
  ·split at h
   ·injection h with h
    subst h
    show cg (if a=true then eC s else s)
    split
    ·exact mD hs
    ·exact hs
   ·exact gQ a f false _ _ R (gh hs (wD hB p)) h
  ·injection h with h
   subst h;exact hs
theorem uf (f:Nat) (p:Ps) (R:BSet×Ps) (h:fI B f p=some R):cg R.1:=by
 unfold fI at h;split at h
 ·exact gQ hB true f true 0 _ R aq h
 ·exact gQ hB false f true 0 _ R aq h
end
def SOk (l:List Nd):Prop:=∀x∈l,cg x.set
theorem SOk.nil_:SOk []:=fun x h=>by cases h
theorem SOk.leaf (k:Int) {s:BSet} (h:cg s):SOk (bd k s):=by
 intro x hx;simp[bd] at hx;subst hx;exact h
theorem SOk.join (k:Int) {l r:List Nd} (a:SOk l) (b:SOk r):SOk (az k l r):=by
 intro x hx;unfold az at hx;rcases List.mem_append.mp hx with hx|hx
 ·rcases List.mem_append.mp hx with hx|hx
  ·exact a x hx
  ·obtain⟨y,hy,rfl⟩:=List.mem_map.mp hx;exact b y hy
 ·simp at hx
  subst hx;exact aq
theorem qv {B:List Nat} (hB:∀x∈B,x<256):∀f:Nat,
  (∀p R,fM B f p=some R→SOk R.1)∧(∀l p R,SOk l→aX B f l p=some R→SOk R.1)∧(∀p R,fK B f p=some R→SOk R.1)∧
  (∀l p R,SOk l→aI B f l p=some R→SOk R.1)∧(∀p R,dT B f p=some R→SOk R.1)∧(∀l p R,SOk l→ar B f l p=some R→SOk R.1)∧
  (∀p R,ef B f p=some R→SOk R.1):=by
 intro f
 induction f with
 |zero=>
  refine⟨?_,?_,?_,?_,?_,?_,?_⟩
  ·intro p R h;simp[fM] at h
  ·intro l p R _ h;simp[aX] at h
  ·intro p R h;simp[fK] at h
  ·intro l p R _ h;simp[aI] at h
  ·intro p R h;simp[dT] at h
  ·intro l p R _ h;simp[ar] at h
  ·intro p R h;simp[ef] at h
 |succ f ih=>
  obtain⟨k,d,i,e,g,a,j⟩:=ih;refine⟨?_,?_,?_,?_,?_,?_,?_⟩
  ·intro p R h;rw[fM] at h;split at h
   ·cases h
   ·rename_i l q b
    exact d l q R (i p (l,q) b) h
  ·intro l p R c h;rw[aX] at h;split at h
   ·split at h
    ·cases h
    ·rename_i x q b
     split at h
     ·exact d _ q R (SOk.join 4 c (i _ (x,q) b)) h
     ·injection h with h;subst h;exact SOk.nil_
   ·injection h with h;subst h;exact c
  ·intro p R h;rw[fK] at h;exact e [] p R SOk.nil_ h
  ·intro l p R c h;rw[aI] at h;split at h
   ·split at h
    ·cases h
    ·rename_i x q b
     split at h
     ·refine e _ q R ?_ h;split
      ·exact g _ (x,q) b
      ·exact SOk.join 3 c (g _ (x,q) b)
     ·injection h with h;subst h;exact SOk.nil_
   ·injection h with h;subst h
    show SOk (if l.length=0 then bd 1 0 else l)
    split
    ·exact SOk.leaf _ aq
    ·exact c
  ·intro p R h;rw[dT] at h;split at h
   ·cases h
   ·rename_i l q b
    exact a l q R (j p (l,q) b) h
  ·intro l p R c h;rw[ar] at h;split at h
   ·split at h
    ·exact a _ _ R (SOk.join 5 c SOk.nil_) h
    ·split at h
     ·exact a _ _ R (SOk.join 6 c SOk.nil_) h
     ·split at h
      ·exact a _ _ R (SOk.join 7 c SOk.nil_) h
      ·injection h with h;subst h;exact c
   ·injection h with h;subst h;exact c
  ·intro p R h;rw[ef] at h;simp only at h;split at h
   ·injection h with h;subst h;exact SOk.leaf _ (mD (cz aq (by decide)))
   split at h
   ·injection h with h;subst h;exact SOk.leaf _ aq
   split at h
   ·injection h with h;subst h;exact SOk.leaf _ aq
   split at h
   ·injection h with h;subst h;exact SOk.leaf _ (ss hB _)
   split at h
   ·split at h
    ·cases h
    ·rename_i s r b
     injection h with h;subst h;exact SOk.leaf _ (uf hB _ _ _ b)
   split at h
   ·injection h with h;subst h;exact SOk.leaf _ (cz aq (lX hB p))
   split at h
   ·injection h with h;subst h;exact SOk.leaf _ (cz aq (lX hB p))
   split at h
   ·split at h
    ·injection h with h;subst h;exact SOk.nil_
    ·split at h
     ·cases h
     ·rename_i l r b
      injection h with h;subst h;exact k _ (l,r) b
   ·injection h with h;subst h;exact SOk.leaf _ (cz aq (lX hB p))
theorem iq {B:List Nat} (hB:∀x∈B,x<256) {f:Nat} {R:List Nd×Int} (h:eo f B=some R):∀x∈R.1,cg x.set:=by
 unfold eo at h;split at h
 ·injection h with h;subst h;exact SOk.nil_
 ·split at h
  ·cases h
  ·rename_i l p a
   simp only at h
   injection h with h
   subst h;have key:∀(c:Prop) [Decidable c] (e:Int),SOk (if c then(l,(0:Int)) else([],e)).1:=by
    intro c _ e
    by_cases hc:c
    ·rw[if_pos hc];exact(qv hB f).1 _ _ a
    ·rw[if_neg hc];exact SOk.nil_
   exact key _ _
theorem fJ (B:List Nat) (a:Bool):∀(f:Nat) (b:Bool) (s:BSet) (p:Ps),p.at_≤B.length→B.length-p.at_+1≤f→∃R,aF B a f b s p=some R
 |0,b,s,p,_,h=>by omega
 |f+1,b,s,p,ha,h=>by
  rw[aF];split
  ·rename_i hm
   have c:=((aw _ _).1 hm).2
   have:=lT B p c
   split
   ·exact⟨_,rfl⟩
   ·exact fJ B a f false _ _ this.1 (by omega)
  ·exact⟨_,rfl⟩
theorem pO (B:List Nat) (f:Nat) (p:Ps) (ha:p.at_≤B.length) (h:B.length-p.at_+1≤f):∃R,fI B f p=some R:=by
 unfold fI;split
 ·rename_i hm
  have a:=((aw _ _).1 hm.1).2
  exact fJ B true f true 0 _ (by rw[aB];omega) (by rw[aB];omega)
 ·exact fJ B false f true 0 _ ha h
theorem oX (B:List Nat):∀(r:Nat),
  (∀f p,dJ B.length p→B.length-p.at_≤r→6*r+6≤f→∃R,fM B f p=some R)∧
  (∀f l p,(p.e=0→dJ B.length p∧B.length-p.at_≤r)→6*r+1≤f→∃R,aX B f l p=some R)∧
  (∀f p,dJ B.length p→B.length-p.at_≤r→6*r+5≤f→∃R,fK B f p=some R)∧
  (∀f l p,(p.e=0→dJ B.length p∧B.length-p.at_≤r)→6*r+4≤f→∃R,aI B f l p=some R)∧
  (∀f p,dJ B.length p→p.at_<B.length→B.length-p.at_≤r→6*r+3≤f→∃R,dT B f p=some R)∧
  (∀f p,dJ B.length p→p.at_<B.length→B.length-p.at_≤r→6*r+2≤f→∃R,ef B f p=some R):=by
 have pl:∀(f:Nat) (l:List Nd) (p:Ps),B.length-p.at_+1≤f→∃R,ar B f l p=some R:=by
  intro f
  induction f with
  |zero=>intro l p h;omega
  |succ f ih=>
   intro l p h;rw[ar];split
   ·rename_i hm
    have a:=((aw _ _).1 hm).2
    split
    ·exact ih _ _ (by rw[aB];omega)
    ·split
     ·exact ih _ _ (by rw[aB];omega)
     ·split
      ·exact ih _ _ (by rw[aB];omega)
      ·exact⟨_,rfl⟩
   ·exact⟨_,rfl⟩
 intro r
 induction r using Nat.strongRecOn with
 |_ r ih=>
  have j:∀f p,dJ B.length p→p.at_<B.length→B.length-p.at_≤r→6*r+2≤f→∃R,ef B f p=some R:=by
   intro f p hs a u y;obtain⟨f,rfl⟩:∃g,f=g+1:=⟨f-1,by omega⟩
   rw[ef];simp only;split
   ·exact⟨_,rfl⟩
   split
   ·exact⟨_,rfl⟩
   split
   ·exact⟨_,rfl⟩
   split
   ·exact⟨_,rfl⟩
   split
   ·obtain⟨R,b⟩:=pO B f (fc p) (by rw[aB];omega) (by rw[aB];omega)
    rw[b];exact⟨_,rfl⟩
   split
   ·exact⟨_,rfl⟩
   split
   ·exact⟨_,rfl⟩
   split
   ·split
    ·exact⟨_,rfl⟩
    ·rename_i D
     have c:dJ B.length {fc p with deep:=(fc p).deep+1}:=⟨hs.1,by show p.at_+1≤_;omega,by simp only[ba] at D ⊢;omega⟩
     obtain⟨R,b⟩:=(ih (r-1) (by omega)).1 f _ c (by show B.length-(p.at_+1)≤_;omega) (by omega)
     rw[b];exact⟨_,rfl⟩
   ·exact⟨_,rfl⟩
  have o:∀f p,dJ B.length p→p.at_<B.length→B.length-p.at_≤r→6*r+3≤f→∃R,dT B f p=some R:=by
   intro f p hs a u y;obtain⟨f,rfl⟩:∃g,f=g+1:=⟨f-1,by omega⟩
   obtain⟨R,b⟩:=j f p hs a u (by omega)
   rw[dT,b];have n:=(cR B f).2.2.2.2.2.2 p R hs a b
   by_cases d:R.2.e=0
   ·have:=n.ok d
    exact pl f R.1 R.2 (by omega)
   ·obtain⟨g,rfl⟩:∃g,f=g+1:=⟨f-1,by omega⟩
    show∃x,ar B (g+1) R.1 R.2=some x
    rw[ar,if_neg (by intro h;exact d ((aw _ _).1 h).1)]
    exact⟨_,rfl⟩
  have next:∀{p:Ps} {l:List Nd} {q:Ps} {k:Nat},dJ B.length p→Good B.length p l q k→q.e=0→dJ B.length q∧p.at_+k/2≤q.at_:=by
   intro p l q k hs n d;obtain⟨A,E,C,F,G⟩:=n.ok d;exact⟨⟨d,C,by rw[A];exact hs.2.2⟩,by omega⟩
  have m:∀f l p,(p.e=0→dJ B.length p∧B.length-p.at_≤r)→6*r+4≤f→∃R,aI B f l p=some R:=by
   intro f l p hs y;obtain⟨f,rfl⟩:∃g,f=g+1:=⟨f-1,by omega⟩
   rw[aI];split
   ·rename_i hm
    obtain⟨d,a⟩:=(aw _ _).1 hm.1;obtain⟨c,u⟩:=hs d;obtain⟨R,b⟩:=o f p c a u (by omega)
    have n:=(cR B f).2.2.2.2.1 p R c a b
    rw[b]
    show∃x,(if R.2.e=0 then aI B f (if l.length=0 then R.1 else az 3 l R.1) R.2 else some ([],R.2))=some x
    split
    ·rename_i t
     have hn:=next c n t
     exact(ih (r-1) (by omega)).2.2.2.1 f _ R.2 (fun _=>⟨hn.1,by omega⟩) (by omega)
    ·exact⟨_,rfl⟩
   ·exact⟨_,rfl⟩
  have w:∀f p,dJ B.length p→B.length-p.at_≤r→6*r+5≤f→∃R,fK B f p=some R:=by
   intro f p hs u y;obtain⟨f,rfl⟩:∃g,f=g+1:=⟨f-1,by omega⟩
   rw[fK];exact m f [] p (fun _=>⟨hs,u⟩) (by omega)
  have i:∀f l p,(p.e=0→dJ B.length p∧B.length-p.at_≤r)→6*r+1≤f→∃R,aX B f l p=some R:=by
   intro f l p hs y;obtain⟨f,rfl⟩:∃g,f=g+1:=⟨f-1,by omega⟩
   rw[aX];split
   ·rename_i hm
    obtain⟨d,a⟩:=(aw _ _).1 hm.1;obtain⟨c,u⟩:=hs d;have s:dJ B.length (fc p):=⟨d,by rw[aB];omega,by rw[ba];exact c.2.2⟩
    obtain⟨R,b⟩:=(ih (r-1) (by omega)).2.2.1 f (fc p) s (by rw[aB];omega) (by omega)
    have n:=(cR B f).2.2.1 (fc p) R s b
    rw[b]
    show∃x,(if R.2.e=0 then aX B f (az 4 l R.1) R.2 else some ([],R.2))=some x
    split
    ·rename_i t
     have hn:=next s n t
     have z:=(n.ok t).2.1
     rw[aB] at z;exact(ih (r-1) (by omega)).2.1 f _ R.2 (fun _=>⟨hn.1,by omega⟩) (by omega)
    ·exact⟨_,rfl⟩
   ·exact⟨_,rfl⟩
  refine⟨?_,i,w,m,o,j⟩;intro f p hs u y;obtain⟨f,rfl⟩:∃g,f=g+1:=⟨f-1,by omega⟩
  obtain⟨R,b⟩:=w f p hs u (by omega)
  have n:=(cR B f).2.2.1 p R hs b
  rw[fM,b];refine i f R.1 R.2 (fun d=>?_) (by omega)
  have z:=(n.ok d).2.1
  exact⟨(next hs n d).1,by omega⟩
theorem o6 (B:List Nat):∃R,eo (6*B.length+6) B=some R:=by
 unfold eo;split
 ·exact⟨_,rfl⟩
 ·obtain⟨R,a⟩:=(oX B B.length).1 (6*B.length+6) ⟨0,0,0⟩ ⟨rfl,bO _,bO _⟩ (by show B.length-0≤_;omega) (by omega)
  rw[a];exact⟨_,rfl⟩
def bz (B:List Nat):List Nd×Int:=(eo (6*B.length+6) B).getD ([],0)
theorem fq (B:List Nat):eo (6*B.length+6) B=some (bz B):=by
 obtain⟨R,a⟩:=o6 B;unfold bz;rw[a];rfl
theorem oZ {B:List Nat} (hB:∀x∈B,x<256):∀x∈(bz B).1,cg x.set:=iq hB (fq B)
theorem aU {l r:List Nd} {n:Nat} (h:n<l.length):nd (l++r) n=nd l n:=by
 unfold nd;rw[bD,bD,bJ h]
theorem Sub.ext_ {l:List Nd} (r:List Nd) {a n:Nat} (h:Sub l a n):Sub (l++r) a n:=by
 induction h with
 |leaf n h hk h1 h2 b=>
  have e:=aU (r:=r) h
  exact .leaf n (by rw[bF];omega) (by rw[e];exact hk) (by rw[e];exact h1) (by rw[e];exact h2) (by rw[e];exact b)
 |one a n h hk h1 h2 b hs ih=>
  have e:=aU (r:=r) h
  exact .one a n (by rw[bF];omega) (by rw[e];exact hk) (by rw[e];exact h1) (by rw[e];exact h2) (by rw[e];exact b) ih
 |two a m n h hk h1 h2 b c d f g=>
  have e:=aU (r:=r) h
  exact .two a m n (by rw[bF];omega) (by rw[e];exact hk) (by rw[e];exact h1) (by rw[e];exact h2) (by rw[e];exact b) f g
theorem lH {l r:List Nd} {n:Nat} (h:n<r.length):nd (l++r.map (ai l.length)) (l.length+n)=ai l.length (nd r n):=by
 unfold nd;rw[bD,bD,List.getElem?_append_right (by omega),Nat.add_sub_cancel_left,List.getElem?_map,bE h]
 rfl
theorem Sub.shift_ {l r:List Nd} {a n:Nat} (h:Sub r a n):Sub (l++r.map (ai l.length)) (l.length+a) (l.length+n):=by
 induction h with
 |leaf n h hk h1 h2 c=>
  have e:=lH (l:=l) h
  have b:fT (nd r n).kind=0:=by unfold fT;rw[if_neg (by omega),if_neg (by omega)]
  refine .leaf _ (by simp;omega) (by rw[e];exact hk) (by rw[e];simp[ai,dO,b]) (by rw[e];simp[ai,dO,b]) (by rw[e];exact c)
 |one a n h hk h1 h2 c hs ih=>
  have e:=lH (l:=l) h
  have b:fT (nd r (n+1)).kind=1:=by unfold fT;rw[if_neg (by omega),if_pos (by omega)]
  rw[←Nat.add_assoc] at e ⊢;refine .one _ _ (by simp;omega) (by rw[e];exact hk) (by rw[e];simp[ai,dO,b,h1];omega) (by rw[e];simp[ai,dO,b]) (by rw[e];exact c) ih
 |two a m n h hk h1 h2 c f g i d=>
  have e:=lH (l:=l) h
  have b:fT (nd r (n+1)).kind=2:=by unfold fT;rw[if_pos (by omega)]
  rw[←Nat.add_assoc] at e ⊢;refine .two _ (l.length+m) _ (by simp;omega) (by rw[e];exact hk) (by rw[e];simp[ai,dO,b,h1];omega) (by rw[e];simp[ai,dO,b,h2];omega) (by rw[e];exact c) i (by rw[←Nat.add_assoc] at d;exact d)
def Tr (l:List Nd):Prop:=0<l.length∧Sub l 0 (l.length-1)
theorem cC (l:List Nd) (x:Nd):nd (l++[x]) l.length=x:=by
 unfold nd;rw[bD];simp
theorem Tr.leaf (k:Int) (z:BSet) (hk:k=1∨k=2∨k=8∨k=9) (hz:k≠2→z=0):Tr (bd k z):=
 ⟨by simp[bd],.leaf 0 (by simp[bd]) hk rfl rfl hz⟩
theorem Tr.join1 {k:Int} {l:List Nd} (hk:k=5∨k=6∨k=7) (b:Tr l):Tr (az k l []):=by
 obtain⟨_,h1⟩:=b;refine⟨by rw[cJ];omega,?_⟩
 have e:az k l []=l++[⟨k,(l.length:Int)-1,0,0⟩]:=by unfold az;simp
 have a:(az k l []).length-1=(l.length-1)+1:=by rw[cJ];simp;omega
 rw[a,e];have hn:nd (l++[(⟨k,(l.length:Int)-1,0,0⟩:Nd)]) (l.length-1+1)=⟨k,(l.length:Int)-1,0,0⟩:=by
  rw[show l.length-1+1=l.length by omega];exact cC _ _
 exact .one 0 (l.length-1) (by simp;omega) (by rw[hn];exact hk) (by rw[hn];simp only;omega) (by rw[hn]) (by rw[hn]) (h1.ext_ _)
theorem Tr.join2 {k:Int} {l r:List Nd} (hk:k=3∨k=4) (c:Tr l) (d:Tr r):Tr (az k l r):=by
 obtain⟨_,h1⟩:=c;obtain⟨r0,f⟩:=d;refine⟨by rw[cJ];omega,?_⟩
 have e:az k l r=(l++r.map (ai l.length))++[⟨k,(l.length:Int)-1,(l.length:Int)+r.length-1,0⟩]:=by unfold az;rw[if_pos r0]
 have a:(az k l r).length-1=(l.length+(r.length-1))+1:=by rw[cJ];omega
 rw[a,e];have b:(l++r.map (ai l.length)).length=l.length+r.length:=by simp
 have hn:nd ((l++r.map (ai l.length))++[(⟨k,(l.length:Int)-1,(l.length:Int)+r.length-1,0⟩:Nd)]) (l.length+(r.length-1)+1)=⟨k,(l.length:Int)-1,(l.length:Int)+r.length-1,0⟩:=by
  rw[show l.length+(r.length-1)+1=(l++r.map (ai l.length)).length by rw[b];omega];exact cC _ _
 have s1:Sub ((l++r.map (ai l.length))++[(⟨k,(l.length:Int)-1,(l.length:Int)+r.length-1,0⟩:Nd)]) 0 (l.length-1):=by
  rw[List.append_assoc];exact h1.ext_ _
 have g:Sub ((l++r.map (ai l.length))++[(⟨k,(l.length:Int)-1,(l.length:Int)+r.length-1,0⟩:Nd)]) (l.length-1+1) (l.length+(r.length-1)):=by
  rw[show l.length-1+1=l.length+0 by omega]
  exact(f.shift_).ext_ _
 exact .two 0 (l.length-1) _ (by simp;omega) (by rw[hn];exact hk) (by rw[hn];simp only;omega) (by rw[hn];simp only;omega) (by rw[hn]) s1 g
theorem qu (B:List Nat):∀f:Nat,
  (∀p R,fM B f p=some R→R.2.e=0→Tr R.1)∧(∀l p R,Tr l→aX B f l p=some R→R.2.e=0→Tr R.1)∧(∀p R,fK B f p=some R→R.2.e=0→Tr R.1)∧
  (∀l p R,(l=[]∨Tr l)→aI B f l p=some R→R.2.e=0→Tr R.1)∧(∀p R,dT B f p=some R→R.2.e=0→Tr R.1)∧(∀l p R,Tr l→ar B f l p=some R→R.2.e=0→Tr R.1)∧
  (∀p R,ef B f p=some R→R.2.e=0→Tr R.1):=by
 intro f;have s:∀(f:Nat) (l:List Nd) (q:Ps) (R:List Nd×Ps),aX B f l q=some R→q.e≠0→R.2.e≠0:=by
  intro f l q R h b;cases f with
  |zero=>simp[aX] at h
  |succ f=>
   rw[aX,if_neg (fun h=>b ((aw _ _).1 h.1).1)] at h
   rw[←bQ h];exact b
 have t:∀(f:Nat) (l:List Nd) (q:Ps) (R:List Nd×Ps),ar B f l q=some R→q.e≠0→R.2.e≠0:=by
  intro f l q R h b;cases f with
  |zero=>simp[ar] at h
  |succ f=>
   rw[ar,if_neg (fun h=>b ((aw _ _).1 h).1)] at h
   rw[←bQ h];exact b
 induction f with
 |zero=>
  refine⟨?_,?_,?_,?_,?_,?_,?_⟩
  ·intro p R h;simp[fM] at h
  ·intro l p R _ h;simp[aX] at h
  ·intro p R h;simp[fK] at h
  ·intro l p R _ h;simp[aI] at h
  ·intro p R h;simp[dT] at h
  ·intro l p R _ h;simp[ar] at h
  ·intro p R h;simp[ef] at h
 |succ f ih=>
  obtain⟨w,g,m,i,j,c,o⟩:=ih;refine⟨?_,?_,?_,?_,?_,?_,?_⟩
  ·intro p R h b;rw[fM] at h;split at h
   ·cases h
   ·rename_i l q k
    by_cases a:q.e=0
    ·exact g l q R (m p (l,q) k a) h b
    ·exact absurd b (s f l q R h a)
  ·intro l p R d h b;rw[aX] at h;split at h
   ·split at h
    ·cases h
    ·rename_i x q k
     split at h
     ·rename_i a
      exact g _ q R (Tr.join2 (bY rfl) d (m _ (x,q) k a)) h b
     ·rename_i a
      injection h with h;subst h;exact absurd b a
   ·injection h with h;subst h;exact d
  ·intro p R h b;rw[fK] at h;exact i [] p R (bX rfl) h b
  ·intro l p R d h b;rw[aI] at h;split at h
   ·split at h
    ·cases h
    ·rename_i x q k
     split at h
     ·rename_i a
      refine i _ q R (bY ?_) h b;split
      ·exact j _ (x,q) k a
      ·rename_i n
       rcases d with rfl|d
       ·exact absurd rfl n
       ·exact Tr.join2 (bX rfl) d (j _ (x,q) k a)
     ·rename_i a
      injection h with h;subst h;exact absurd b a
   ·injection h with h;subst h
    show Tr (if l.length=0 then bd 1 0 else l)
    split
    ·exact Tr.leaf _ _ (bX rfl) (fun _=>rfl)
    ·rename_i n
     rcases d with rfl|d
     ·exact absurd rfl n
     ·exact d
  ·intro p R h b;rw[dT] at h;split at h
   ·cases h
   ·rename_i l q k
    by_cases a:q.e=0
    ·exact c l q R (o p (l,q) k a) h b
    ·exact absurd b (t f l q R h a)
  ·intro l p R d h b;rw[ar] at h;split at h
   ·split at h
    ·exact c _ _ R (Tr.join1 (by decide) d) h b
    ·split at h
     ·exact c _ _ R (Tr.join1 (by decide) d) h b
     ·split at h
      ·exact c _ _ R (Tr.join1 (by decide) d) h b
      ·injection h with h;subst h;exact d
   ·injection h with h;subst h;exact d
  ·intro p R h b;have two:∀z,Tr (bd 2 z):=fun z=>Tr.leaf _ _ (bY (bX rfl)) (fun h=>absurd rfl h)
   rw[ef] at h;simp only at h;split at h
   ·injection h with h;subst h;exact two _
   split at h
   ·injection h with h;subst h;exact Tr.leaf _ _ (by decide) (fun _=>rfl)
   split at h
   ·injection h with h;subst h;exact Tr.leaf _ _ (by decide) (fun _=>rfl)
   split at h
   ·injection h with h;subst h;exact two _
   split at h
   ·split at h
    ·cases h
    ·injection h with h;subst h;exact two _
   split at h
   ·injection h with h;subst h;exact two _
   split at h
   ·injection h with h;subst h;exact two _
   split at h
   ·split at h
    ·injection h with h;subst h
     exact absurd b (nV _ _ (by decide))
    ·split at h
     ·cases h
     ·rename_i l r k
      injection h with h;subst h
      refine w _ (l,r) k ?_
      by_cases u:r.e=0
      ·exact u
      ·simp[u] at b
   ·injection h with h;subst h;exact two _
theorem vj {B:List Nat} {f:Nat} {l:List Nd} (h:eo f B=some (l,0)):Tr l∧l.length≤256∧l.length≤2*B.length+1:=by
 unfold eo at h;split at h
 ·injection h with h
  injection h with h1 h2
  exact absurd h2 (by decide)
 split at h
 ·cases h
 rename_i l' p j
 obtain⟨a,d,e⟩:=p;simp only at h;have k:Good B.length ⟨0,0,0⟩ l' ⟨a,d,e⟩ 0:=(cR B f).1 ⟨0,0,0⟩ (l',⟨a,d,e⟩) ⟨rfl,bO _,bO _⟩ j
 by_cases g:e=0
 ·subst g;have m:=(qu B f).1 _ _ j rfl
  by_cases ha:a<B.length
  ·simp[ha,ay] at h
  ·by_cases i:256<l'.length
   ·simp[ha,i,ay] at h
   ·simp[ha,i] at h;subst h;obtain⟨n,o,b,q,c⟩:=k.ok rfl
    replace b:a≤B.length:=b
    replace c:l'.length+0≤2*(a-0)+1:=c
    exact⟨m,by omega,by omega⟩
 ·simp[g] at h
theorem Sub.vrun_ {l:List Nd} {a n:Nat} (h:Sub l a n):∀rs,eS l a=some rs→eS l (n+1)=some (rs++[(n:Int)]):=by
 induction h with
 |leaf n h hk h1 h2 c=>
  intro rs d;have b:cD (nd l n).kind=0:=by unfold cD;rw[if_pos hk]
  rw[eS,d];simp only;unfold fv;rw[if_neg (fun h=>h.2 (c h.1)),b,if_neg (by omega)]
  simp[h1,h2]
 |one a n h hk h1 h2 c hs ih=>
  intro rs d;have b:cD (nd l (n+1)).kind=1:=by unfold cD;rw[if_neg (by omega),if_pos hk]
  rw[eS,ih rs d];simp only;unfold fv;rw[if_neg (fun h=>h.2 c),b,if_neg (by simp;omega)]
  simp[h1,h2]
 |two a m n h hk h1 h2 c f g i j=>
  intro rs d;have b:cD (nd l (n+1)).kind=2:=by unfold cD;rw[if_neg (by omega),if_neg (by omega),if_pos hk]
  rw[eS,j _ (i rs d)];simp only;unfold fv;have e:(rs++[(m:Int)]++[(n:Int)]).length-(2:Int).toNat=rs.length:=by simp
  rw[if_neg (fun h=>h.2 c),b,if_neg (by simp;omega),e,List.append_assoc,List.drop_left,List.take_left]
  simp[h1,h2]
theorem Tr.valid {l:List Nd} (h:Tr l) (a:l.length≤256):bh l=true:=by
 have:=h.2.vrun_ [] rfl
 rw[show l.length-1+1=l.length by have:=h.1;omega] at this
 unfold bh;rw[this,decide_eq_true a];rfl
def cV (l:List Nd):Nat→Nat→Nat→List Nd→List Nd×Nat
 |0,_,x,S=>(S,x)
 |f+1,n,x,S=>
  if(nd l n).kind=2 then(S++[⟨1,x,0,(nd l n).set⟩],S.length)
  else if(nd l n).kind=8 then(S++[⟨3,x,0,0⟩],S.length)
  else if(nd l n).kind=9 then(S++[⟨4,x,0,0⟩],S.length)
  else if(nd l n).kind=3 then cV l f (nd l n).left.toNat (cV l f (nd l n).right.toNat x S).2 (cV l f (nd l n).right.toNat x S).1
  else if(nd l n).kind=4 then
   ((cV l f (nd l n).right.toNat x (cV l f (nd l n).left.toNat x S).1).1++[⟨2,(cV l f (nd l n).left.toNat x S).2,(cV l f (nd l n).right.toNat x (cV l f (nd l n).left.toNat x S).1).2,0⟩],
    (cV l f (nd l n).right.toNat x (cV l f (nd l n).left.toNat x S).1).1.length)
  else if(nd l n).kind=7 then((cV l f (nd l n).left.toNat x S).1++[⟨2,(cV l f (nd l n).left.toNat x S).2,x,0⟩],(cV l f (nd l n).left.toNat x S).1.length)
  else if(nd l n).kind=5∨(nd l n).kind=6 then
   ((cV l f (nd l n).left.toNat S.length (S++[⟨2,0,x,0⟩])).1.set S.length ⟨2,(cV l f (nd l n).left.toNat S.length (S++[⟨2,0,x,0⟩])).2,x,0⟩,
    if(nd l n).kind=6 then(cV l f (nd l n).left.toNat S.length (S++[⟨2,0,x,0⟩])).2 else S.length)
  else(S,x)
theorem kC {l:List Nd} {i:Nat} (h:i<l.length) (x:Nd):nd (l.set i x) i=x:=by
 unfold nd;rw[bD,List.getElem?_set_self h];rfl
theorem fr {l:List Nd} {i j:Nat} (h:i≠j) (x:Nd):nd (l.set i x) j=nd l j:=by
 unfold nd;rw[bD,bD,List.getElem?_set_ne h]
theorem gL {B:Nat} {k b:Int} {a:Nat} {z:BSet} (h1:1≤k) (h2:k≤5) (ha:a<B) (c:k=2→0≤b∧b<B):jx B ⟨k,(a:Int),b,z⟩:=
 ⟨h1,h2,fun _=>⟨by simp only;omega,by simp only;omega⟩,c⟩
theorem qx {B:Nat}:jx B ⟨5,0,0,0⟩:=⟨by simp,by simp,fun h=>absurd rfl h,fun h=>by simp at h⟩
structure Made_ (l S:List Nd) (n x:Nat) (w:Nat) (r:List Nd×Nat):Prop where
 len:S.length≤r.1.length
 few:r.1.length≤S.length+w
 old:∀i,i<S.length→nd r.1 i=nd S i
 frag:Frag l (nd r.1) (fun i=>S.length≤i∧i<r.1.length) n r.2 x
 out:r.2=x∨r.2<r.1.length
 ok:∀B:Nat,r.1.length≤B→x<B→∀i,S.length≤i→i<r.1.length→jx B (nd r.1 i)
 sets:(∀y∈l,cg y.set)→(∀y∈S,cg y.set)→∀y∈r.1,cg y.set
theorem Bm {l:List Nd} {n:Nat} (h:n<l.length):nd l n∈l:=by
 unfold nd;rw[bD,bE h];exact bH h
theorem lI {l S:List Nd} {n x:Nat} {y:Nd} (h1:Frag l (nd (S++[y])) (fun i=>S.length≤i∧i<(S++[y]).length) n S.length x) (h2:∀B:Nat,S.length+1≤B→x<B→jx B y) (b:(∀z∈l,cg z.set)→cg y.set):Made_ l S n x 1 (S++[y],S.length):=by
 refine⟨by simp,by simp,fun i d=>aU d,h1,bY (by simp),fun B hB hx i e a=>?_,fun f c z hz=>?_⟩
 ·have:i=S.length:=by simp at a;omega
  subst this;rw[cC];exact h2 B (by simpa using hB) hx
 ·rcases List.mem_append.mp hz with hz|hz
  ·exact c z hz
  ·simp at hz;subst hz;exact b f
theorem ip {l:List Nd} {a n:Nat} (h:Sub l a n):∀(f x:Nat) (S:List Nd),n<f→Made_ l S n x (n+1-a) (cV l f n x S):=by
 induction h with
 |leaf n h hk h1 h2 V=>
  intro f x S W;obtain⟨f,rfl⟩:∃g,f=g+1:=⟨f-1,by omega⟩
  rw[show n+1-n=1 by omega,cV]
  have hP:S.length≤S.length∧S.length<(S++[(⟨1,x,0,(nd l n).set⟩:Nd)]).length:=⟨bM _,by simp⟩
  by_cases k2:(nd l n).kind=2
  ·rw[if_pos k2];refine lI (.set n _ x k2 ⟨bM _,by simp⟩ (by rw[cC]) (by rw[cC]) (by rw[cC])) (fun B hB hx=>gL (by decide) (by decide) (by omega) (fun e=>absurd e (by decide))) (fun o=>o (nd l n) (Bm h))
  rw[if_neg k2]
  by_cases G:(nd l n).kind=8
  ·rw[if_pos G];refine lI (.bol n _ x G ⟨bM _,by simp⟩ (by rw[cC]) (by rw[cC])) (fun B hB hx=>gL (by decide) (by decide) (by omega) (fun e=>absurd e (by decide))) (fun _=>aq)
  rw[if_neg G]
  by_cases H:(nd l n).kind=9
  ·rw[if_pos H];refine lI (.eol n _ x H ⟨bM _,by simp⟩ (by rw[cC]) (by rw[cC])) (fun B hB hx=>gL (by decide) (by decide) (by omega) (fun e=>absurd e (by decide))) (fun _=>aq)
  rw[if_neg H,if_neg (by omega),if_neg (by omega),if_neg (by omega),if_neg (by omega)]
  exact⟨bM _,by simp,fun _ _=>rfl,.empty n x x (by omega) (bX rfl),bX rfl,fun B _ _ i j d=>by simp only at d;omega,fun _ t=>t⟩
 |one a n h hk h1 h2 V hs ih=>
  intro f x S W;obtain⟨f,rfl⟩:∃g,f=g+1:=⟨f-1,by omega⟩
  have aa:=hs.le
  have C:(nd l (n+1)).left.toNat=n:=by omega
  rw[cV,if_neg (by omega),if_neg (by omega),if_neg (by omega),if_neg (by omega),if_neg (by omega),C]
  by_cases F:(nd l (n+1)).kind=7
  ·rw[if_pos F];have m:=ih f x S (by omega)
   generalize cV l f n x S=r at *;obtain⟨R,v⟩:=r;obtain⟨m1,m2,m3,I,w,J,K⟩:=m;simp only at *;refine⟨by simp;omega,by simp;omega,fun i c=>by rw[aU (by omega)];exact m3 i c,?_,bY (by simp),fun B hB hx i j d=>?_,fun o t z hz=>?_⟩
   ·refine .opt (n+1) n R.length v x F h1 ⟨m1,by simp⟩ (by rw[cC]) (by rw[cC]) (by rw[cC]) (I.congr (fun i c=>⟨(aU c.2).symm,c.1,by simp;omega⟩))
   ·simp at hB d
    by_cases e:i=R.length
    ·subst e;rw[cC];exact gL (by decide) (by decide) (by rcases w with w|w<;>omega) (fun _=>⟨by omega,by omega⟩)
    ·rw[aU (by omega)]
     exact J B (by omega) hx i j (by omega)
   ·rcases List.mem_append.mp hz with hz|hz
    ·exact K o t z hz
    ·simp at hz;subst hz;exact aq
  rw[if_neg F,if_pos (by omega)]
  have m:=ih f S.length (S++[⟨2,0,x,0⟩]) (by omega)
  generalize cV l f n S.length (S++[⟨2,0,x,0⟩])=r at *;obtain⟨R,v⟩:=r;obtain⟨m1,m2,m3,I,w,J,K⟩:=m;simp only[bF,bG] at *;have b:nd (R.set S.length ⟨2,v,x,0⟩) S.length=⟨2,v,x,0⟩:=kC (by omega) _
  have k:Frag l (nd (R.set S.length ⟨2,v,x,0⟩)) (fun i=>S.length≤i∧i<(R.set S.length ⟨2,v,x,0⟩).length) n v S.length:=
   I.congr (fun i c=>⟨(fr (by omega) _).symm,by omega,by rw[bK];exact c.2⟩)
  have ab:v<R.length:=by rcases w with w|w<;>omega
  refine⟨by rw[bK];omega,by rw[bK];omega,fun i c=>?_,?_,bY ?_,fun B hB hx i j d=>?_,fun o t z hz=>?_⟩
  ·rw[fr (by omega),m3 i (by omega),aU c]
  ·by_cases k6:(nd l (n+1)).kind=6
   ·rw[if_pos k6];exact .plus (n+1) n v S.length x k6 h1 k ⟨bM _,by rw[bK];omega⟩ (by rw[b]) (by rw[b]) (by rw[b])
   ·rw[if_neg k6];exact .star (n+1) n S.length v S.length x (by omega) h1 ⟨bM _,by rw[bK];omega⟩ (by rw[b]) (by rw[b]) (by rw[b]) k (bX rfl)
  ·rw[bK];split<;>omega
  ·rw[bK] at hB d
   by_cases e:i=S.length
   ·subst e;rw[b];exact gL (by decide) (by decide) (by omega) (fun _=>⟨by omega,by omega⟩)
   ·rw[fr (by omega)]
    exact J B hB (by omega) i (by omega) d
  ·rcases List.mem_or_eq_of_mem_set hz with hz|hz
   ·refine K o (fun y hy=>?_) z hz
    rcases List.mem_append.mp hy with hy|hy
    ·exact t y hy
    ·simp at hy;subst hy;exact aq
   ·subst hz;exact aq
 |two a m n h hk h1 h2 V D E Z i2=>
  intro f x S W;obtain⟨f,rfl⟩:∃g,f=g+1:=⟨f-1,by omega⟩
  have X:=D.le
  have Y:=E.le
  have C:(nd l (n+1)).left.toNat=m:=by omega
  have hR:(nd l (n+1)).right.toNat=n:=by omega
  rw[cV,if_neg (by omega),if_neg (by omega),if_neg (by omega),C,hR]
  by_cases k3:(nd l (n+1)).kind=3
  ·rw[if_pos k3];have p:=i2 f x S (by omega)
   generalize cV l f n x S=r at *;obtain⟨R,v⟩:=r;have q:=Z f v R (by omega)
   simp only at *
   generalize cV l f m v R=r2 at *;obtain⟨R2,v2⟩:=r2;obtain⟨_,_,L,M,s,N,O⟩:=p;obtain⟨_,_,A,P,u,Q,T⟩:=q;simp only at *;refine⟨by simp only;omega,by simp only;omega,fun i c=>by rw[A i (by omega)];exact L i c,?_,?_,fun B hB hx i j d=>?_,fun o t=>T o (O o t)⟩
   ·exact .cat (n+1) m n v2 v x k3 h1 h2 (P.congr (fun i c=>⟨rfl,by omega,c.2⟩)) (M.congr (fun i c=>⟨(A i c.2).symm,c.1,by show i<R2.length;have:=c.2;omega⟩))
   ·simp only
    rcases u with u|u
    ·rcases s with s|s
     ·exact bX (by omega)
     ·exact bY (by omega)
    ·exact bY u
   ·simp only at hB d
    by_cases e:i<R.length
    ·rw[A i e];exact N B (by omega) hx i j e
    ·refine Q B hB ?_ i (by omega) d
     rcases s with s|s<;>omega
  ·rw[if_neg k3,if_pos (by omega)]
   have p:=Z f x S (by omega)
   generalize cV l f m x S=r at *;obtain⟨R,v⟩:=r;have q:=i2 f x R (by omega)
   simp only at *
   generalize cV l f n x R=r2 at *;obtain⟨R2,v2⟩:=r2;obtain⟨_,_,L,M,s,N,O⟩:=p;obtain⟨_,_,A,P,u,Q,T⟩:=q;simp only at *;refine⟨by simp;omega,by simp;omega,fun i c=>by rw[aU (by omega),A i (by omega)];exact L i c,?_,bY (by simp),fun B hB hx i j d=>?_,fun o t z hz=>?_⟩
   ·refine .alt (n+1) m n R2.length v v2 x x x (by omega) h1 h2 ⟨by omega,by simp⟩ (by rw[cC]) (by rw[cC]) (by rw[cC]) (M.congr (fun i c=>⟨?_,c.1,by simp;omega⟩)) (bX rfl) (P.congr (fun i c=>⟨(aU c.2).symm,by omega,by simp;omega⟩)) (bX rfl)
    rw[aU (by omega),A i c.2]
   ·simp at hB d
    by_cases e:i=R2.length
    ·subst e;rw[cC];exact gL (by decide) (by decide) (by rcases s with s|s<;>omega) (fun _=>⟨by omega,by rcases u with u|u<;>omega⟩)
    ·rw[aU (by omega)]
     by_cases U:i<R.length
     ·rw[A i U];exact N B (by omega) hx i j U
     ·exact Q B (by omega) hx i (by omega) (by omega)
   ·rcases List.mem_append.mp hz with hz|hz
    ·exact T o (O o t) z hz
    ·simp at hz;subst hz;exact aq
def bw (l:List Nd):List Nd:=(cV l l.length (l.length-1) 1 [⟨2,0,0,0⟩,⟨5,0,0,0⟩]).1.set 0 ⟨2,(cV l l.length (l.length-1) 1 [⟨2,0,0,0⟩,⟨5,0,0,0⟩]).2,(cV l l.length (l.length-1) 1 [⟨2,0,0,0⟩,⟨5,0,0,0⟩]).2,0⟩
theorem io {l:List Nd} (hv:bh l=true):Wired l (bw l)∧bt (bw l)=true∧(bw l).length≤l.length+2∧2≤(bw l).length∧((∀y∈l,cg y.set)→∀y∈bw l,cg y.set):=by
 have d:=gA hv
 have m:=ip (kT hv) l.length 1 [⟨2,0,0,0⟩,⟨5,0,0,0⟩] (by omega)
 unfold bw;generalize cV l l.length (l.length-1) 1 [⟨2,0,0,0⟩,⟨5,0,0,0⟩]=r at *;obtain⟨R,v⟩:=r;obtain⟨m1,m2,m3,k,c,n,o⟩:=m;simp only[List.length_cons,List.length_nil] at *;have b:nd (R.set 0 ⟨2,v,v,0⟩) 0=⟨2,v,v,0⟩:=kC (by omega) _
 have h1:nd (R.set 0 ⟨2,v,v,0⟩) 1=⟨5,0,0,0⟩:=by rw[fr (by omega),m3 1 (by omega)];rfl
 have j:v<R.length:=by rcases c with c|c<;>omega
 refine⟨⟨fun _=>True,v,1,bY ⟨trivial,by rw[b],by rw[b],by rw[b]⟩,k.congr (fun i a=>⟨(fr (by omega) _).symm,trivial⟩),by rw[h1]⟩,?_,by rw[bK];omega,by rw[bK];omega,fun h z hz=>?_⟩
 ·refine decide_eq_true ⟨by rw[bK];omega,by rw[bK];omega,fun x hx=>?_⟩
  rw[bK];obtain⟨i,a,rfl⟩:=List.mem_iff_getElem.mp hx;rw[bK] at a;have e:(R.set 0 ⟨2,v,v,0⟩)[i]'(by rw[bK];exact a)=nd (R.set 0 ⟨2,v,v,0⟩) i:=by
   unfold nd;rw[bD,bE (by rw[bK];exact a)]
   rfl
  rw[e]
  by_cases f:i=0
  ·subst f;rw[b];exact gL (by decide) (by decide) (by omega) (fun _=>⟨by omega,by omega⟩)
  ·by_cases g:i=1
   ·subst g;rw[h1];exact qx
   ·rw[fr (by omega)]
    exact n R.length (bM _) (by omega) i (by omega) a
 ·rcases List.mem_or_eq_of_mem_set hz with hz|hz
  ·refine o h (fun y hy=>?_) z hz
   simp at hy
   rcases hy with rfl|rfl<;>exact aq
  ·subst hz;exact aq
def cG (s:BSet):Value:= .agg #[.int .u64 (ab s 0),.int .u64 (ab s 1),.int .u64 (ab s 2),.int .u64 (ab s 3)]
def iA (v:Value) (w:World) (e:Ending) (w':World):Prop:=e= .returned v∧Old w w'
theorem mG {a b:Bool} (h:a=b):Ending.returned (.bool a)= .returned (.bool b):=by rw[h]
theorem ve (b:Nat):2^(b%64)<18446744073709551616:=by
 rw[show 18446744073709551616=2^64 by decide]
 exact Nat.pow_lt_pow_right (by decide) (Nat.mod_lt _ (by decide))
theorem xH (s:BSet) (i b:Nat):bits .or .u64 ((ab s i:Nat):Int) (IntKind.u64.wrap (2^(b%64)))=((ab s i|||2^(b%64):Nat):Int):=by
 have a:=ve b
 have e:IntKind.u64.wrap (2^(b%64))=((2^(b%64):Nat):Int):=by
  rw[IntWalk.u64_in]
  ·push_cast;rfl
  ·have:((2^(b%64):Nat):Int)<18446744073709551616:=by omega
   push_cast at this
   have c:(0:Int)≤2^(b%64):=Int.pow_nonneg (by decide)
   omega
 rw[e,u64_or_nat _ _ (aG s i) a]
theorem oz (s:BSet) (i b:Nat) (a:b<256) (d:b/64=i):(bits BinOp.and IntKind.u64 (((ab s i:Nat):Int)/2^(b%64)) 1==1)=hasB s b:=by
 rw[t7 s b a,d];have e:((ab s i:Nat):Int)/2^(b%64)=((ab s i/2^(b%64):Nat):Int):=by push_cast;rfl
 have f:=aG s i
 have c:ab s i/2^(b%64)<18446744073709551616:=Nat.lt_of_le_of_lt (Nat.div_le_self _ _) f
 have h1:=u64_and_nat (ab s i/2^(b%64)) 1 c (by decide)
 rw[nat_mask1] at h1;rw[e];have h2:((1:Nat):Int)=1:=rfl;rw[h2] at h1;rw[h1];generalize ab s i/2^(b%64)%2=q;rw[Bool.eq_iff_iff];simp;omega
def eh (s:BSet):Obj:= .cells #[.int .u64 (ab s 0),.int .u64 (ab s 1),.int .u64 (ab s 2),.int .u64 (ab s 3)] 211 (0,0)
theorem an {w:World} {g:Nat} {s:BSet} (h:w.heap[g]? =some (eh s)):
  w.cell? ⟨g,0,none⟩=some (.int .u64 (ab s 0))∧w.cell? ⟨g,1,none⟩=some (.int .u64 (ab s 1))∧w.cell? ⟨g,2,none⟩=some (.int .u64 (ab s 2))∧w.cell? ⟨g,3,none⟩=some (.int .u64 (ab s 3))∧
  w.frozen? ⟨g,0,none⟩=false∧w.frozen? ⟨g,1,none⟩=false∧w.frozen? ⟨g,2,none⟩=false∧w.frozen? ⟨g,3,none⟩=false:=
 ⟨by rw[aK w g 0 _ _ _ h];rfl,by rw[aK w g 1 _ _ _ h];rfl,by rw[aK w g 2 _ _ _ h];rfl,by rw[aK w g 3 _ _ _ h];rfl,
  aN w g 0 _ _ h,aN w g 1 _ _ h,aN w g 2 _ _ h,aN w g 3 _ _ h⟩
theorem lu {w:World} {g:Nat} {s:BSet} (h:w.heap[g]? =some (eh s)) (t:BSet):
  ((((w.setCell ⟨g,0,none⟩ (.int .u64 (ab t 0))).setCell ⟨g,1,none⟩ (.int .u64 (ab t 1))).setCell ⟨g,2,none⟩ (.int .u64 (ab t 2))).setCell ⟨g,3,none⟩ (.int .u64 (ab t 3))).heap[g]? =some (eh t):=by
 have a:=aO w g 0 _ _ (.int .u64 (ab t 0)) h
 have b:=aO _ g 1 _ _ (.int .u64 (ab t 1)) a
 have c:=aO _ g 2 _ _ (.int .u64 (ab t 2)) b
 have d:=aO _ g 3 _ _ (.int .u64 (ab t 3)) c
 exact d
theorem iW (w:World) (g k:Nat) (a b c d:Value) (hk:k≠g):
  ((((w.setCell ⟨g,0,none⟩ a).setCell ⟨g,1,none⟩ b).setCell ⟨g,2,none⟩ c).setCell ⟨g,3,none⟩ d).heap[k]? =w.heap[k]?:=by
 rw[aL _ ⟨g,3,none⟩ k _ hk,aL _ ⟨g,2,none⟩ k _ hk,aL _ ⟨g,1,none⟩ k _ hk,aL _ ⟨g,0,none⟩ k _ hk]
def fY (lo k:Nat):BSet:=(List.range k).foldl (fun s j=>cO s (lo+j)) 0
theorem oV (lo k:Nat):fY lo (k+1)=cO (fY lo k) (lo+k):=by
 unfold fY;rw[List.range_succ,List.foldl_append];rfl
def c4 (a b c d:Nat):Obj:= .cells #[.int .u64 a,.int .u64 b,.int .u64 c,.int .u64 d] 211 (0,0)
theorem dX {w:World} {g a b c d:Nat} (h:w.heap[g]? =some (c4 a b c d)):
  w.cell? ⟨g,0,none⟩=some (.int .u64 a)∧w.cell? ⟨g,1,none⟩=some (.int .u64 b)∧w.cell? ⟨g,2,none⟩=some (.int .u64 c)∧w.cell? ⟨g,3,none⟩=some (.int .u64 d)∧
  w.frozen? ⟨g,0,none⟩=false∧w.frozen? ⟨g,1,none⟩=false∧w.frozen? ⟨g,2,none⟩=false∧w.frozen? ⟨g,3,none⟩=false:=
 ⟨by rw[aK w g 0 _ _ _ h];rfl,by rw[aK w g 1 _ _ _ h];rfl,by rw[aK w g 2 _ _ _ h];rfl,by rw[aK w g 3 _ _ _ h];rfl,
  aN w g 0 _ _ h,aN w g 1 _ _ h,aN w g 2 _ _ h,aN w g 3 _ _ h⟩
def Aq (w:World) (s:BSet) (f:Nat→Nat) (g a:Nat) (ix:Value) (wr:World):Prop:=
 Old w wr∧wr.heap[a]? =some (eh 0)∧((ix= .int .i64 0∧wr.heap[g]? =some (c4 (ab s 0) (ab s 1) (ab s 2) (ab s 3)))∨
  (ix= .int .i64 1∧wr.heap[g]? =some (c4 (f 0) (ab s 1) (ab s 2) (ab s 3)))∨
  (ix= .int .i64 2∧wr.heap[g]? =some (c4 (f 0) (f 1) (ab s 2) (ab s 3)))∨
  (ix= .int .i64 3∧wr.heap[g]? =some (c4 (f 0) (f 1) (f 2) (ab s 3)))∨
  (ix= .int .i64 4∧wr.heap[g]? =some (c4 (f 0) (f 1) (f 2) (f 3))))
theorem ti (s:BSet) (i:Nat) (a:i<4):ab (eC s) i=18446744073709551615^^^ab s i:=by
 apply Nat.eq_of_testBit_eq;intro k;unfold eC;rw[Nat.testBit_xor,eV,eV,Nat.testBit_xor,Nat.testBit_two_pow_sub_one,show 18446744073709551615=2^64-1 by decide,Nat.testBit_two_pow_sub_one]
 by_cases hk:k<64
 ·rw[decide_eq_true hk,Bool.true_and,Bool.true_and,decide_eq_true (show 64*i+k<256 by omega)]
  cases s.testBit (64*i+k)<;>rfl
 ·rw[decide_eq_false hk];simp
theorem uA (s:BSet) (i:Nat) (a:i<4):bits BinOp.xor IntKind.u64 (if IntKind.u64.signed=true then-1 else IntKind.u64.max) ((ab s i:Nat):Int)=((ab (eC s) i:Nat):Int):=by
 rw[ti s i a,show(if IntKind.u64.signed=true then-1 else IntKind.u64.max:Int)=((18446744073709551615:Nat):Int) by decide]
 exact u64_xor_nat _ _ (by decide) (aG s i)
theorem fa {w:World} {g a b c d:Nat} (h:w.heap[g]? =some (c4 a b c d)) (u:Nat):
  (w.setCell ⟨g,0,none⟩ (.int .u64 u)).heap[g]? =some (c4 u b c d)∧(w.setCell ⟨g,1,none⟩ (.int .u64 u)).heap[g]? =some (c4 a u c d)∧
  (w.setCell ⟨g,2,none⟩ (.int .u64 u)).heap[g]? =some (c4 a b u d)∧(w.setCell ⟨g,3,none⟩ (.int .u64 u)).heap[g]? =some (c4 a b c u):=
 ⟨aO w g 0 _ _ _ h,aO w g 1 _ _ _ h,aO w g 2 _ _ _ h,aO w g 3 _ _ _ h⟩
theorem fj (w:World) (g k i:Nat) (u:Value) (h:k≠g):(w.setCell ⟨g,i,none⟩ u).heap[k]? =w.heap[k]?:=aL w ⟨g,i,none⟩ k u h
theorem pZ (s t:BSet) (i:Nat):bits BinOp.or IntKind.u64 ((ab s i:Nat):Int) ((ab t i:Nat):Int)=((ab (s|||t) i:Nat):Int):=by
 rw[rG];exact u64_or_nat _ _ (aG s i) (aG t i)
def Ch (w:World) (s t:BSet) (f:Nat→Nat) (g:Nat) (ix:Value) (wr:World):Prop:=Aq w s f g (g+2) ix wr∧wr.heap[g+1]? =some (eh t)
def gT (v:Value) (w:World) (e:Ending) (w':World):Prop:=e= .returned v∧w=w'
section
variable {P : Program} {ops : Array Oper} {Q : Exit → Act → World → Prop}
def fL (ops:Array Oper):Bool:=(List.range ops.size).all fun i=>((ops[i]?).map (·.after.all fun e=> !Region.binds .any e||decide (e.on<i))).getD true
def gY (ops:Array Oper) (a:Array Bool):Prop:=
 ∀(i:Nat) (o:Oper),ops[i]? =some o→a.getD i false=true→∀e∈o.after,Region.binds .any e=true→a.getD e.on false=true
theorem pY (K:fL ops=true) (I:Array Bool→Act→World→Prop)
  (g:∀a w,I (Array.replicate ops.size true) a w→Q .normal a w)
  (s:∀(i:Nat) (o:Oper) (b:Array Bool) (a:Act) (w:World),ops[i]? =some o→b.size=ops.size→gY ops b→b.getD i false=false→
   (∀e∈o.after,Region.binds .any e=true→b.getD e.on false=true)→I b a w→
   if Region.wanted o (yielded ops a.tmps)=true then o.wp P a w (I (b.setIfInBounds i true)) Q else I (b.setIfInBounds i true) (a.put o.dst aR) w):
  ∀(fuel:Nat) (b:Array Bool) (a:Act) (w:World),b.size=ops.size→b.toList.count false≤fuel→gY ops b→I b a w→wpAny P .any ops Q fuel b a w:=by
 have f:∀(b:Array Bool),b.size=ops.size→Region.ready .any ops b=[]→b=Array.replicate ops.size true:=by
  intro b hs O;have key:∀i,i<ops.size→b.getD i false=true:=by
   intro i
   induction i using Nat.strongRecOn with
   |_ i ih=>
    intro p;rcases M:b.getD i false with _|_
    ·exfalso;have:i∈Region.ready .any ops b:=by
      rw[mem_ready];refine⟨?_,ops[i],by simp[p],?_⟩
      ·simp[Array.getD,hs,p] at M ⊢;exact M
      ·intro e F G;have h1:=(List.all_eq_true.1 K) i (List.mem_range.2 p);simp only[Array.getElem?_eq_getElem p,Option.map_some,Option.getD_some] at h1;rw[Array.all_eq_true_iff_forall_mem] at h1;have h2:=h1 e F;rw[G] at h2;have h2:=of_decide_eq_true (by simpa using h2:decide (e.on<i)=true)
       exact ih e.on h2 (by omega)
     rw[O] at this;exact absurd this (by simp)
    ·rfl
  apply Array.ext
  ·simp[hs]
  ·intro i h1 h2;have:=key i (by omega)
   simp[Array.getD,h1] at this;simp[this]
 intro fuel
 induction fuel with
 |zero=>
  intro b a w hs hc q E;have D:Region.ready .any ops b=[]:=by
   apply List.eq_nil_iff_forall_not_mem.2;intro i p;have c:=(mem_ready.1 p).1;have:b.toList.count false=0:=by omega
   rw[List.count_eq_zero] at this;apply this;have d:i<b.size:=by
    by_cases h:i<b.size
    ·exact h
    ·simp[Array.getD,h] at c
   simp[Array.getD,d] at c;rw[←c];simp
  refine⟨D,g a w ?_⟩;rw[←f b hs D];exact E
 |succ fuel ih=>
  intro b a w hs hc q E;refine⟨fun D=>g a w (by rw[←f b hs D];exact E),?_⟩
  intro i p;obtain⟨c,o,J,n⟩:=mem_ready.1 p;have d:i<b.size:=by
   by_cases h:i<b.size
   ·exact h
   ·simp[Array.getD,h] at c
  have H:b.getD i false=false:=by
   simp[Array.getD,d] at c ⊢;exact c
  have u:gY ops (b.setIfInBounds i true):=by
   intro j R hj m e F t;have C:∀k,b.getD k false=true→(b.setIfInBounds i true).getD k false=true:=by
    intro k hk
    by_cases A:k=i
    ·subst A;simp[Array.getD,d]
    ·have B:k<b.size:=by
      by_cases h:k<b.size
      ·exact h
      ·simp[Array.getD,h] at hk
     simp[Array.getD,B] at hk ⊢;rw[Array.getElem_setIfInBounds_ne]
     ·exact hk
     ·exact fun e=>A e.symm
   by_cases y:j=i
   ·subst y;rw[J] at hj;injection hj with hj
    subst hj;exact C _ (n e F t)
   ·refine C _ (q j R hj ?_ e F t);have z:j<b.size:=by
     by_cases h:j<b.size
     ·exact h
     ·simp[Array.getD,h] at m
    simp[Array.getD,z] at m ⊢;rw[Array.getElem_setIfInBounds_ne] at m
    ·exact m
    ·exact fun e=>y e.symm
  have l:(b.setIfInBounds i true).toList.count false≤fuel:=by
   rw[Array.toList_setIfInBounds,List.count_set (by simpa using d)]
   simp only[Array.getD,d,dite_true] at H;have x:b.toList[i]'(by simpa using d)=false:=by simpa using H
   have:0<b.toList.count false:=List.count_pos_iff.2 (by rw[←x];exact bH _)
   rw[x];simp only[beq_self_eq_true,if_true,show((true:Bool)==false)=false from rfl,Bool.false_eq_true,if_false]
   omega
  have hk:∀a' w',I (b.setIfInBounds i true) a' w'→wpAny P .any ops Q fuel (b.setIfInBounds i true) a' w':=
   fun a' w' N=>ih _ a' w' (by simp[hs]) l u N
  have r:=s i o b a w J hs q H n E
  unfold wpOp;rw[J];simp only;split at r
  ·rename_i L
   rw[if_pos L];exact bX (Oper.wp_mono hk r)
  ·rename_i L
   rw[if_neg L];exact hk _ _ r
theorem kR {id:Nat} {a:Act} {w:World} (hm:P.follows .mixedOrders=true) (f:fL ops=true) (I:Array Bool→Act→World→Prop)
  (g:I (Array.replicate ops.size false) a {w with drawn:=w.drawn+1})
  (d:∀(i:Nat) (o:Oper) (b:Array Bool) (a:Act) (w:World),ops[i]? =some o→b.size=ops.size→gY ops b→b.getD i false=false→
   (∀e∈o.after,Region.binds .any e=true→b.getD e.on false=true)→I b a w→
   if Region.wanted o (yielded ops a.tmps)=true then o.wp P a w (I (b.setIfInBounds i true)) Q else I (b.setIfInBounds i true) (a.put o.dst aR) w)
  (c:∀a w,I (Array.replicate ops.size true) a w→Q .normal a w):
  (Code.region id ops true).wp P Q a w:=by
 refine wp_region_any hm (pY f I c d _ _ _ _ (by simp) ?_ ?_ g)
 ·simp
 ·intro i o j h;simp[Array.getD] at h
def Steps2 (p:Nat→Oper→Prop):Nat→List Oper→Prop
 |_,[]=>True
 |i,o::os=>p i o∧Steps2 p (i+1) os
theorem Steps2.at_ {p:Nat→Oper→Prop}:∀(os:List Oper) (k:Nat),Steps2 p k os→∀i o,os[i]? =some o→p (k+i) o
 |[],_,_,i,o,h=>by simp at h
 |x::os,k,hs,0,o,h=>by simp at h;subst h;exact hs.1
 |x::os,k,hs,i+1,o,h=>by
  have:=Steps2.at_ os (k+1) hs.2 i o (by simpa using h)
  rw[show k+(i+1)=k+1+i by omega]
  exact this
def pR (P:Program) (ops:Array Oper) (Q:Exit→Act→World→Prop) (I:Array Bool→Act→World→Prop) (i:Nat) (o:Oper):Prop:=
 ∀(b:Array Bool) (a:Act) (w:World) (K:Act→World→Prop),b.size=ops.size→gY ops b→b.getD i false=false→
   (∀e∈o.after,Region.binds .any e=true→b.getD e.on false=true)→I b a w→(∀a' w',I (b.setIfInBounds i true) a' w'→K a' w')→
   if Region.wanted o (yielded ops a.tmps)=true then o.wp P a w K Q else K (a.put o.dst aR) w
theorem jJ {id:Nat} {a:Act} {w:World} (hm:P.follows .mixedOrders=true) (g:fL ops=true) (I:Array Bool→Act→World→Prop)
  (j:I (Array.replicate ops.size false) a {w with drawn:=w.drawn+1})
  (c:∀a w,I (Array.replicate ops.size true) a w→Q .normal a w)
  (d:Steps2 (pR P ops Q I) 0 ops.toList):
  (Code.region id ops true).wp P Q a w:=by
 refine kR hm g I j ?_ c;intro i o b a w m hs f l e k;have:=Steps2.at_ ops.toList 0 d i o (by simpa using m)
 rw[Nat.zero_add] at this;exact this b a w _ hs f l e k (fun _ _ h=>h)
end
theorem yP:(Tryz.prog.info? 276).map (fun i=>(i.zero,i.size,i.bytes))=some (some (.agg #[.int .i64 0,.int .i64 0,.int .i64 0,.int .u64 0,.int .u64 0,.int .u64 0,.int .u64 0]),7,56):=by kernel_rfl
def ao (x:Nd):List Value:=[.int .i64 x.kind,.int .i64 x.left,.int .i64 x.right,.int .u64 (ab x.set 0),.int .u64 (ab x.set 1),.int .u64 (ab x.set 2),.int .u64 (ab x.set 3)]
def cI (l:List Nd):List Value:=l.flatMap ao
theorem aV (l:List Nd):(cI l).length=l.length*7:=by
 induction l with
 |nil=>rfl
 |cons a l ih=>simp[cI,ao] at ih ⊢;omega
theorem vu (a b:List Nd):cI (a++b)=cI a++cI b:=by simp[cI]
theorem cd:∀(l:List Nd) (i:Nat) (x:Nd),l[i]? =some x→∀j,j<7→(cI l)[i*7+j]? =(ao x)[j]?
 |[],i,x,h,j,hj=>by simp at h
 |a::l,0,x,h,j,hj=>by
  simp at h;subst h
  have e:cI (a::l)=ao a++cI l:=rfl
  rw[e,Nat.zero_mul,Nat.zero_add,bJ (by simpa [ao] using hj)]
 |a::l,i+1,x,h,j,hj=>by
  have:=cd l i x (by simpa using h) j hj
  have e:cI (a::l)=ao a++cI l:=rfl
  have b:(ao a).length=7:=rfl
  rw[e,List.getElem?_append_right (by rw[b];omega),b,show(i+1)*7+j-7=i*7+j by omega]
  exact this
def bs (s:ByteArray):List Nat:=s.data.toList.map UInt8.toNat
theorem af (s:ByteArray):(bs s).length=s.size:=by unfold bs;rw[bL,Array.length_toList];rfl
theorem dP (s:ByteArray) (k:Nat) (h:k<s.size):(bs s).getD k 0=s[k].toNat:=by
 unfold bs;rw[bD,List.getElem?_map];have:s.data.toList[k]? =some s[k]:=by
  rw[bE (by rw[Array.length_toList];exact h)];rfl
 rw[this];rfl
def Ay (b:Bool) (w:World) (e:Ending) (w':World):Prop:=e= .returned (.bool b)∧∃n,w'=w.drewN n
theorem sk:(Tryz.prog.info? 5).map (fun i=>(i.zero,i.size,i.bytes))=some (some (.int .u8 0),1,1):=by kernel_rfl
def cZ (t:List Nat):List Value:=t.map (fun x:Nat=>Value.int .u8 (x:Int))
theorem gC (t:List Nat):(cZ t).length=t.length:=by simp[cZ]
theorem iB (t:List Nat) (i:Nat) (h:i<t.length):(cZ t)[i]? =some (.int .u8 (t.getD i 0:Nat)):=by
 simp[cZ,h,bD]
theorem yX {t:List Nat} (a:∀x∈t,x<256) (i:Nat):t.getD i 0<256:=by
 rw[bD]
 by_cases h:i<t.length
 ·rw[bE h];exact a _ (bH h)
 ·rw[bI (by omega)];decide
def ak (l:List Nat):ByteArray:=⟨(l.map UInt8.ofNat).toArray⟩
theorem sQ (s:List Nat) (h:∀x∈s,x<256):cZ s=bytes (s.map UInt8.ofNat):=by
 unfold cZ bytes;rw[List.map_map];refine List.map_congr_left (fun x hx=>?_)
 have:=h x hx
 simp;omega
theorem lV (s:List Nat) (h:∀x∈s,x<256):bs (ak s)=s:=by
 unfold bs ak;simp only[List.map_map];have:∀x∈s,(UInt8.toNat∘UInt8.ofNat) x=id x:=fun x hx=>by
  have:=h x hx
  simp;omega
 rw[List.map_congr_left this,List.map_id]
theorem uF (L:List Nat) (s:Nat):cZ (L++[s])=cZ L++[.int .u8 (s:Int)]:=by unfold cZ;rw[List.map_append];rfl
namespace Oc
structure Pl where
 j:Jd
 x:Lf.T
 out:List Nat
structure Ac where
 kind:Int
 job:ByteArray
 n:Int
structure Sta where
 name:ByteArray
 ph:Int
 inc:Int
 runs:Int
structure Ev where
 kind:Int
 job:ByteArray
 ok:Bool
 code:Int
 data:List Nat
 at_:Int
structure St where
 pl:List Pl
 now:Int
 draws:List Int
 acts:List Ac
def pl0:Pl:=⟨dG,Lf.new,[]⟩
def jobs (s:St):List Jd:=s.pl.map Pl.j
def p (s:St) (i:Nat):Pl:=s.pl.getD i pl0
def order (s:St):List Nat:=Gp.order (jobs s)
def lj (j:Jd):Lf.J:=⟨j.restart,j.base,j.cap,j.stable,j.burst,j.win,j.lad⟩
def found (j:Jd) (out:List Nat):Bool:= !j.hasR||decide (0≤dh (bw (bz (bs j.ready)).1) out)
def setX (s:St) (i:Nat) (x:Lf.T):St:={s with pl:=s.pl.set i {p s i with x:=x}}
def spawnable (s:St) (i:Nat):Bool:=(p s i).x.ph==1&&(Gp.needs (jobs s) i).all (fun k=>(p s k).x.ph==4)
def spawnAt (s:St) (i:Nat):St:=
 {s with pl:=s.pl.set i ⟨(p s i).j,(Lf.spawn (p s i).x).1,[]⟩,acts:=s.acts++[⟨1,(p s i).j.nm,(Lf.spawn (p s i).x).1.inc⟩]}
def settle:Nat→St→St
 |0,s=>s
 |f+1,s=>match (order s).find? (spawnable s) with
  |none=>s
  |some i=>settle f (spawnAt s i)
def idle (s:St):Nat:=(s.pl.filter (fun q=>q.x.ph==1)).length
def calm (s:St):St:=settle (idle s) s
def send (s:St) (i:Nat) (n:Int):St:=if n=0 then s else {s with acts:=s.acts++[⟨2,(p s i).j.nm,n⟩]}
def jitter (s:St):Int:=s.draws.headD 0
def use (s:St) (b:Bool):St:=if b=true then {s with draws:=s.draws.tail} else s
def waits (q:Pl):Bool:=q.x.ph==5||(q.x.ph==6&&q.x.armed)
def early (s:St) (t:Int):Nat→Option Nat
 |0=>none
 |k+1=>match early s t k with
  |none=>if waits (p s k)=true∧(p s k).x.due≤t then some k else none
  |some b=>if waits (p s k)=true∧(p s k).x.due≤t∧(p s k).x.due<(p s b).x.due then some k else some b
def fireAt (s:St) (i:Nat):St:=
 let s1:St:={s with now:=max s.now (p s i).x.due}
 calm (send (setX s1 i (Lf.fire (lj (p s i).j) (p s i).x).1) i (Lf.fire (lj (p s i).j) (p s i).x).2)
def ig (t:Int):Nat→St→St
 |0,s=>s
 |f+1,s=>match early s t s.pl.length with
  |none=>{s with now:=t}
  |some i=>ig t f (fireAt s i)
def wt (q:Pl):Nat:=
 if q.x.ph=5 then q.j.lad.length+8 else if q.x.ph=1 then q.j.lad.length+7 else if q.x.ph=6∧q.x.armed=true then q.j.lad.length+2-q.x.rung.toNat else 0
def wtS (s:St):Nat:=(s.pl.map wt).sum
def tick (s:St) (t:Int):St:=ig t (wtS s+1) s
def about (s:St) (i:Nat) (e:Ev):St:=
 let q:=p s i
 if e.kind=1 then
  let r:=Lf.spawned (lj q.j) q.x e.ok (found q.j []) s.now (jitter s)
  use (send (setX s i r.1) i r.2.1) r.2.2
 else if e.kind=2 then
  let r:=Lf.exit (lj q.j) q.x e.code s.now (jitter s)
  use (setX s i r.1) r.2
 else if e.kind=3 then
  let o:=if q.x.ph=3∨q.x.ph=4∨q.x.ph=6 then q.out++e.data else q.out
  let s1:St:={s with pl:=s.pl.set i {q with out:=o}}
  if q.x.ph=3∧found q.j o=true then setX s1 i (Lf.matched q.x) else s1
 else s
def handle (s:St) (e:Ev):St:=
 if e.kind=1∨e.kind=2∨e.kind=3 then(match Gp.ix (jobs s) e.job with|none=>s|some i=>about s i e)
 else if e.kind=4 then(if s.now<e.at_ then tick s e.at_ else s)
 else if e.kind=5 then(if s.draws.length<64 then {s with draws:=s.draws++[e.at_]} else s)
 else s
def step (s:St) (e:Ev):St:=calm (handle {s with acts:=[]} e)
def install (l:List Jd):St:=⟨l.map (fun j=>⟨j,Lf.new,[]⟩),0,[],[]⟩
def status (s:St):List Sta:=s.pl.map (fun q=>⟨q.j.nm,q.x.ph,q.x.inc,q.x.runs⟩)
def run (l:List Jd) (es:List Ev):St:=es.foldl step (calm (install l))
def my:St→List Ev→List St
 |s,[]=>[s]
 |s,e::es=>s::my (step s e) es
def play (l:List Jd) (es:List Ev):List St:=my (calm (install l)) es
end Oc
namespace Oc
def S1 (j:Jd) (x:Lf.T) (o:List Nat) (now:Int) (dr:List Int) (ac:List Ac):St:=⟨[⟨j,x,o⟩],now,dr,ac⟩
theorem yp (J:Lf.J) (x:Lf.T) (now jit:Int):(Lf.over J x now jit).1.ph=5∨(Lf.over J x now jit).1.ph=8:=by
 unfold Lf.over;simp only;split
 ·exact bX rfl
 ·exact bY rfl
theorem eN {j:Jd} (a:j.needs=[]) (x:Lf.T) (o:List Nat) (now:Int) (dr:List Int) (ac:List Ac) (h:x.ph≠1):calm (S1 j x o now dr ac)=S1 j x o now dr ac:=by
 unfold calm idle;simp[S1,h,settle]
section
variable {j : Jd} (hn : j.needs = [])
include hn
theorem qF:Gp.needs [j] 0=[]:=by
 unfold Gp.needs Gp.raw;simp[hn]
theorem Bj:Gp.order [j]=[0]:=by
 unfold Gp.order Gp.allN;simp only[bG,List.range_one,List.map_cons,List.map_nil,qF hn];rfl
theorem acyc1:Gp.acyclic [j]:=by
 unfold Gp.acyclic Gp.allN;simp only[bG,List.range_one,List.map_cons,List.map_nil,qF hn];intro i a;obtain rfl:i=0:=by omega
 rfl
theorem qj (x:Lf.T) (o:List Nat) (now:Int) (dr:List Int) (ac:List Ac):spawnable (S1 j x o now dr ac) 0=(x.ph==1):=by
 unfold spawnable;rw[show jobs (S1 j x o now dr ac)=[j] from rfl,qF hn]
 simp[p,S1]
theorem mZ (x:Lf.T) (o:List Nat) (now:Int) (dr:List Int) (ac:List Ac) (h:x.ph=1):calm (S1 j x o now dr ac)=S1 j (Lf.spawn x).1 [] now dr (ac++[⟨1,j.nm,(Lf.spawn x).1.inc⟩]):=by
 have a:idle (S1 j x o now dr ac)=1:=by simp[idle,S1,h]
 have b:(order (S1 j x o now dr ac)).find? (spawnable (S1 j x o now dr ac))=some 0:=by
  rw[show order (S1 j x o now dr ac)=Gp.order [j] from rfl,Bj hn,List.find?_cons_of_pos]
  rw[qj hn,h];rfl
 unfold calm;rw[a,settle,b];rfl
end
section
variable {j : Jd} (hn : j.needs = []) (x : Lf.T) (o : List Nat) (now : Int) (dr : List Int) (ac : List Ac)
theorem ix1 (j:Jd):Gp.ix [j] j.nm=some 0:=by simp[Gp.ix]
include hn
theorem sY (h:x.ph≠1) (b:dr.length<64) (v:Int) (e:Ev) (a:e.kind=5) (ha:e.at_=v):step (S1 j x o now dr ac) e=S1 j x o now (dr++[v]) []:=by
 unfold step handle;subst ha;rw[a];rw[if_neg (by decide),if_neg (by decide),if_pos rfl,if_pos (show(S1 j x o now dr ac).draws.length<64 from b)]
 exact eN hn x o now (dr++[e.at_]) [] h
theorem xS (h:x.ph=2) (f:x.halt=false) (e:Ev) (c:e.kind=1) (hj:e.job=j.nm) (a:e.ok=true):
  step (S1 j x o now dr ac) e=S1 j {x with since:=now,ph:=if found j []=true then 4 else 3} o now dr []:=by
 unfold step handle;rw[c];rw[if_pos (bX rfl)];have d:Gp.ix (jobs (⟨[⟨j,x,o⟩],now,dr,[]⟩:St)) e.job=some 0:=by rw[hj];exact ix1 j
 rw[show({S1 j x o now dr ac with acts:=[]}:St)=⟨[⟨j,x,o⟩],now,dr,[]⟩ from rfl,d]
 simp only
 unfold about;rw[c,if_pos rfl];have b:Lf.spawned (lj (p (⟨[⟨j,x,o⟩],now,dr,[]⟩:St) 0).j) (p (⟨[⟨j,x,o⟩],now,dr,[]⟩:St) 0).x e.ok (found (p (⟨[⟨j,x,o⟩],now,dr,[]⟩:St) 0).j []) now (jitter (⟨[⟨j,x,o⟩],now,dr,[]⟩:St))=({x with since:=now,ph:=if found j []=true then 4 else 3},0,false):=by
  show Lf.spawned (lj j) x e.ok (found j []) now _=_
  unfold Lf.spawned;rw[if_neg (by rw[h];simp),a,if_neg (by simp),f,if_neg (by simp)]
 simp only[b];have:use (send (setX (⟨[⟨j,x,o⟩],now,dr,[]⟩:St) 0 {x with since:=now,ph:=if found j []=true then 4 else 3}) 0 0) false=S1 j {x with since:=now,ph:=if found j []=true then 4 else 3} o now dr []:=by
  unfold use send setX;rfl
 rw[this];refine eN hn _ o now dr [] ?_
 show(if found j []=true then(4:Int) else 3)≠1
 split<;>decide
theorem sW (h:x.ph≠1) (e:Ev) (a:e.kind=4) (b:e.at_≤now):step (S1 j x o now dr ac) e=S1 j x o now dr []:=by
 unfold step handle;rw[a];rw[if_neg (by decide),if_pos rfl,if_neg (by show¬now<e.at_;omega)]
 exact eN hn x o now dr [] h
theorem mA (h:x.ph≠1) (g:x.ph≠6) (e:Ev) (k:e.kind=4) (d:now<e.at_) (i:x.ph=5→e.at_<x.due):step (S1 j x o now dr ac) e=S1 j x o e.at_ dr []:=by
 unfold step handle;rw[k];have b:({S1 j x o now dr ac with acts:=[]}:St).now<e.at_:=d
 rw[if_neg (by decide),if_pos rfl,if_pos b]
 have l:tick ({S1 j x o now dr ac with acts:=[]}:St) e.at_=S1 j x o e.at_ dr []:=by
  have c:early ({S1 j x o now dr ac with acts:=[]}:St) e.at_ 1=none:=by
   simp only[early];rw[if_neg];rintro⟨h1,h2⟩;have a:waits ⟨j,x,o⟩=true:=h1;have f:x.due≤e.at_:=h2;unfold waits at a;simp[g] at a;have:=i a;omega
  unfold tick;rw[ig,show({S1 j x o now dr ac with acts:=[]}:St).pl.length=1 from rfl,c]
  rfl
 rw[l];exact eN hn x o e.at_ dr [] h
theorem oH (h:x.ph=5) (e:Ev) (l:e.kind=4) (i:now<e.at_) (k:x.due≤e.at_):
  step (S1 j x o now dr ac) e=S1 j (Lf.spawn (Lf.rest x 1)).1 [] e.at_ dr [⟨1,j.nm,(Lf.spawn (Lf.rest x 1)).1.inc⟩]:=by
 unfold step handle;rw[l];have d:({S1 j x o now dr ac with acts:=[]}:St).now<e.at_:=i
 rw[if_neg (by decide),if_pos rfl,if_pos d]
 have m:Lf.fire (lj j) x=(Lf.rest x 1,0):=by unfold Lf.fire;rw[if_pos h]
 have f:(Lf.spawn (Lf.rest x 1)).1.ph=2:=by unfold Lf.spawn;rw[if_pos (show(Lf.rest x 1).ph=1 from rfl)]
 have n:tick ({S1 j x o now dr ac with acts:=[]}:St) e.at_=S1 j (Lf.spawn (Lf.rest x 1)).1 [] e.at_ dr [⟨1,j.nm,(Lf.spawn (Lf.rest x 1)).1.inc⟩]:=by
  have g:early ({S1 j x o now dr ac with acts:=[]}:St) e.at_ 1=some 0:=by
   simp only[early];rw[if_pos];refine⟨?_,k⟩
   show waits ⟨j,x,o⟩=true
   unfold waits;simp[h]
  have a:fireAt ({S1 j x o now dr ac with acts:=[]}:St) 0=S1 j (Lf.spawn (Lf.rest x 1)).1 [] (max now x.due) dr [⟨1,j.nm,(Lf.spawn (Lf.rest x 1)).1.inc⟩]:=by
   have:fireAt ({S1 j x o now dr ac with acts:=[]}:St) 0=calm (send (setX (S1 j x o (max now x.due) dr []) 0 (Lf.fire (lj j) x).1) 0 (Lf.fire (lj j) x).2):=rfl
   rw[this,m];exact mZ hn (Lf.rest x 1) o (max now x.due) dr [] rfl
  have p:wtS ({S1 j x o now dr ac with acts:=[]}:St)=j.lad.length+8:=by
   simp[wtS,S1,wt,h]
  have c:early (S1 j (Lf.spawn (Lf.rest x 1)).1 [] (max now x.due) dr [⟨1,j.nm,(Lf.spawn (Lf.rest x 1)).1.inc⟩]) e.at_ 1=none:=by
   simp only[early];rw[if_neg];rintro⟨h1,_⟩;have b:waits ⟨j,(Lf.spawn (Lf.rest x 1)).1,[]⟩=true:=h1;unfold waits at b;simp[f] at b
  unfold tick;rw[p,ig,show({S1 j x o now dr ac with acts:=[]}:St).pl.length=1 from rfl,g]
  simp only
  rw[a,ig,show(S1 j (Lf.spawn (Lf.rest x 1)).1 [] (max now x.due) dr [⟨1,j.nm,(Lf.spawn (Lf.rest x 1)).1.inc⟩]).pl.length=1 from rfl,c]
  rfl
 rw[n];exact eN hn _ [] e.at_ dr _ (by rw[f];decide)
theorem sX (h:x.ph=3∨x.ph=4) (g:j.restart=3) (e:Ev) (d:e.kind=2) (hj:e.job=j.nm):
  step (S1 j x o now dr ac) e=S1 j (Lf.over (lj j) {x with runs:=if j.stable≤Tk.sub now x.since then 0 else x.runs} now (dr.headD 0)).1 o now
   (if(Lf.over (lj j) {x with runs:=if j.stable≤Tk.sub now x.since then 0 else x.runs} now (dr.headD 0)).2=true then dr.tail else dr) []:=by
 unfold step handle;rw[d];rw[if_pos (bY (bX rfl))];have f:Gp.ix (jobs (⟨[⟨j,x,o⟩],now,dr,[]⟩:St)) e.job=some 0:=by rw[hj];exact ix1 j
 rw[show({S1 j x o now dr ac with acts:=[]}:St)=⟨[⟨j,x,o⟩],now,dr,[]⟩ from rfl,f]
 simp only
 unfold about;rw[d,if_neg (by decide),if_pos rfl]
 have a:Lf.exit (lj (p (⟨[⟨j,x,o⟩],now,dr,[]⟩:St) 0).j) (p (⟨[⟨j,x,o⟩],now,dr,[]⟩:St) 0).x e.code now (jitter (⟨[⟨j,x,o⟩],now,dr,[]⟩:St))=Lf.over (lj j) {x with runs:=if j.stable≤Tk.sub now x.since then 0 else x.runs} now (dr.headD 0):=by
  show Lf.exit (lj j) x e.code now (dr.headD 0)=_
  rw[Lf.exit_run h,if_pos (bX (show(lj j).restart=3 from g))]
  rfl
 simp only[a];generalize b:Lf.over (lj j) {x with runs:=if j.stable≤Tk.sub now x.since then 0 else x.runs} now (dr.headD 0)=r
 have c:r.1.ph≠1:=by
  rw[←b];rcases yp (lj j) {x with runs:=if j.stable≤Tk.sub now x.since then 0 else x.runs} now (dr.headD 0) with e|e
  ·rw[e];decide
  ·rw[e];decide
 have:use (setX (⟨[⟨j,x,o⟩],now,dr,[]⟩:St) 0 r.1) r.2=S1 j r.1 o now (if r.2=true then dr.tail else dr) []:=by
  unfold use
  by_cases hz:r.2=true
  ·rw[if_pos hz,if_pos hz];rfl
  ·rw[if_neg hz,if_neg hz];rfl
 rw[this];exact eN hn r.1 o now _ [] c
end
end Oc
namespace Oc
theorem trace_len (es:List Ev):∀s,(my s es).length=es.length+1:=by
 induction es with
 |nil=>intro s;rfl
 |cons e es ih=>intro s;simp[my,ih]
theorem sS (es:List Ev):∀s k,k≤es.length→(my s es)[k]? =some ((es.take k).foldl step s):=by
 induction es with
 |nil=>intro s k hk;simp at hk;subst hk;rfl
 |cons e es ih=>
  intro s k hk;cases k with
  |zero=>rfl
  |succ k=>
   simp only[my,List.getElem?_cons_succ,List.take_succ_cons,List.foldl_cons];exact ih _ _ (by simpa using hk)
theorem fx (l:List Jd) (es:List Ev) (e:Ev):run l (es++[e])=step (run l es) e:=by
 unfold run;rw[List.foldl_append];rfl
theorem play_get (l:List Jd) (es:List Ev) (k:Nat) (hk:k≤es.length):(play l es)[k]? =some (run l (es.take k)):=sS es _ k hk
def evUp (j:Jd):Ev:=⟨1,j.nm,true,0,[],0⟩
def evTick (t:Int):Ev:=⟨4,⟨#[]⟩,false,0,[],t⟩
def evExit (j:Jd):Ev:=⟨2,j.nm,false,1,[],0⟩
def evDraw (t:Int):Ev:=⟨5,⟨#[]⟩,false,0,[],t⟩
def lW (k:Nat) (falls:Nat) (since:Int) (T:List Int):Lf.T:=⟨2,k+1,falls,since,T,0,false,0,false,false⟩
theorem AR:(Lf.spawn Lf.new).1=lW 0 0 0 []:=by
 unfold Lf.spawn;rw[if_pos (show Lf.new.ph=1 from rfl)]
 have e:wrap64 (Lf.new.inc+1)=((0:Nat):Int)+1:=(by show wrap64 ((0:Int)+1)=_;unfold wrap64;omega)
 simp only[e];rfl
structure JTd (j:Jd):Prop where
 needs:j.needs=[]
 rs:j.restart=3
 b:0≤j.base∧j.base≤5
 c:0≤j.cap∧j.cap≤24
theorem uK {j:Jd} (h:JTd j) (dr:List Int) (c:dr.length≤12):∃ac,run [j] (dr.map evDraw)=S1 j (lW 0 0 0 []) [] 0 dr ac:=by
 have a:run [j] []=S1 j (lW 0 0 0 []) [] 0 [] [⟨1,j.nm,1⟩]:=by
  unfold run install;simp only[List.foldl_nil,List.map_cons,List.map_nil];rw[show(⟨[⟨j,Lf.new,[]⟩],0,[],[]⟩:St)=S1 j Lf.new [] 0 [] [] from rfl,mZ h.needs _ _ _ _ _ rfl,AR]
  rfl
 have key:∀n,n≤dr.length→∃ac,run [j] ((dr.take n).map evDraw)=S1 j (lW 0 0 0 []) [] 0 (dr.take n) ac:=by
  intro n
  induction n with
  |zero=>intro _;exact⟨_,a⟩
  |succ n ih=>
   intro hn;obtain⟨ac,b⟩:=ih (by omega)
   rw[List.take_succ_eq_append_getElem (by omega),List.map_append,List.map_cons,List.map_nil,fx,b]
   exact⟨[],sY h.needs _ _ _ _ _ (by decide) (by simp;omega) _ _ rfl rfl⟩
 have:=key dr.length (bM _)
 rwa [List.take_length] at this
theorem xO {j : Jd} (h : JTd j) {es : List Ev} {k falls : Nat} {now since : Int} {T back dr : List Int} {ac : List Ac} {run_ : Nat}
    (f : run [j] es = S1 j (lW k falls since T) [] now dr ac) (l : 0 ≤ now) (hk : k < 1000) (m : falls < 1000) :
    let a : Int := now + run_
    let b : Nat := if j.stable ≤ (run_ : Int) then 0 else falls
    run [j] (es ++ [evUp j, evTick a, evExit j]) = S1 j
      (if ((Bu.trim T a j.win).length : Int) < j.burst then ⟨5, k + 1, (b : Int) + 1, now, Bu.trim T a j.win ++ [a], Tk.add a (Tk.delay j.base j.cap b (dr.headD 0)), false, 0, false, false⟩
       else ⟨8, k + 1, (b : Int), now, Bu.trim T a j.win, 0, false, 0, false, false⟩) [] a (if ((Bu.trim T a j.win).length : Int) < j.burst then dr.tail else dr) [] := by
  intro a b
  rw [show es ++ [evUp j, evTick a, evExit j] = ((es ++ [evUp j]) ++ [evTick a]) ++ [evExit j] by simp, fx, fx, fx, f,
    xS h.needs (lW k falls since T) _ _ _ _ rfl rfl (evUp j) rfl rfl rfl]
  generalize hy : ({ lW k falls since T with since := now, ph := if found j [] = true then 4 else 3 } : Lf.T) = y
  have d : y.ph = 3 ∨ y.ph = 4 := by
    rw [← hy]
    show (if found j [] = true then (4 : Int) else 3) = 3 ∨ (if found j [] = true then (4 : Int) else 3) = 4
    split
    · exact bY rfl
    · exact bX rfl
  have i : step (S1 j y [] now dr []) (evTick a) = S1 j y [] a dr [] := by
    by_cases n : run_ = 0
    · have e : a = now := by show now + (run_ : Int) = now; omega
      rw [e]
      exact sW h.needs y [] now dr [] (by omega) (evTick now) rfl (Int.le_refl _)
    · exact mA h.needs y [] now dr [] (by omega) (by omega) (evTick a) rfl (by show now < now + (run_ : Int); omega) (fun e => by omega)
  rw [i, sX h.needs y [] a dr [] d h.rs (evExit j) rfl rfl]
  have hs : Tk.sub a y.since = (run_ : Int) := by
    rw [← hy]
    show Tk.sub (now + (run_ : Int)) now = _
    unfold Tk.sub
    rw [if_neg (by omega)]
    omega
  rw [hs]
  have hz : ({ y with runs := if j.stable ≤ (run_ : Int) then 0 else y.runs } : Lf.T) = ⟨y.ph, k + 1, (b : Int), now, T, 0, false, 0, false, false⟩ := by
    rw [← hy]
    show (⟨_, (k : Int) + 1, (if j.stable ≤ (run_ : Int) then 0 else (falls : Int)), now, T, 0, false, 0, false, false⟩ : Lf.T) = ⟨_, (k : Int) + 1, ((if j.stable ≤ (run_ : Int) then 0 else falls : Nat) : Int), now, T, 0, false, 0, false, false⟩
    by_cases hc : j.stable ≤ (run_ : Int)
    · rw [if_pos hc, if_pos hc]; rfl
    · rw [if_neg hc, if_neg hc]
  have g : b < 1000 := by show (if j.stable ≤ (run_ : Int) then 0 else falls) < 1000; split <;> omega
  rw [hz]
  unfold Lf.over
  simp only [lj]
  have e : wrap64 ((b : Int) + 1) = (b : Int) + 1 := (by unfold wrap64; omega)
  by_cases c : ((Bu.trim T a j.win).length : Int) < j.burst
  · have ha : Bu.allow T j.burst a j.win = (Bu.trim T a j.win ++ [a], true) := Bu.allow_yes c
    simp only [ha, e, if_true, if_pos c]
  · have ha : Bu.allow T j.burst a j.win = (Bu.trim T a j.win, false) := Bu.allow_no c
    simp only [ha, e, if_neg c, Lf.rest]
    simp
theorem xP {j:Jd} (h:JTd j) {es:List Ev} {k falls:Nat} {now since due:Int} {T dr:List Int} {ac:List Ac}
  (a:run [j] es=S1 j ⟨5,k+1,falls,since,T,due,false,0,false,false⟩ [] now dr ac) (hk:k<1000) (c:now≤due):
  let t:Int:=max due (now+1)
  (now+1<due→run [j] (es++[evTick (due-1)])=S1 j ⟨5,k+1,falls,since,T,due,false,0,false,false⟩ [] (due-1) dr [])∧
  run [j] (es++(if now+1<due then [evTick (due-1)] else [])++[evTick t])=S1 j (lW (k+1) falls since T) [] t dr [⟨1,j.nm,(k:Int)+2⟩]:=by
 intro t;have h1:now+1<due→run [j] (es++[evTick (due-1)])=S1 j ⟨5,k+1,falls,since,T,due,false,0,false,false⟩ [] (due-1) dr []:=fun hc=>by
  rw[fx,a];exact mA h.needs _ [] now dr ac (by show(5:Int)≠1;decide) (by show(5:Int)≠6;decide) (evTick (due-1)) rfl (by show now<due-1;omega) (fun _=>by show due-1<due;omega)
 have hx:(Lf.spawn (Lf.rest (⟨5,k+1,falls,since,T,due,false,0,false,false⟩:Lf.T) 1)).1=lW (k+1) falls since T:=by
  unfold Lf.spawn;rw[if_pos (show(Lf.rest (⟨5,k+1,falls,since,T,due,false,0,false,false⟩:Lf.T) 1).ph=1 from rfl)]
  have e:wrap64 ((Lf.rest (⟨5,k+1,falls,since,T,due,false,0,false,false⟩:Lf.T) 1).inc+1)=(((k+1:Nat):Int)+1):=(by show wrap64 ((k:Int)+1+1)=_;unfold wrap64;omega)
  simp only[e];rfl
 have b:(lW (k+1) falls since T).inc=(k:Int)+2:=by show(((k+1:Nat):Int)+1)=_;omega
 refine⟨h1,?_⟩
 by_cases hc:now+1<due
 ·rw[if_pos hc,fx,h1 hc,oH h.needs _ [] _ dr [] rfl (evTick t) rfl (by show due-1<max due (now+1);omega) (by show due≤max due (now+1);omega),hx,b]
  rfl
 ·rw[if_neg hc,List.append_nil,fx,a,oH h.needs _ [] _ dr ac rfl (evTick t) rfl (by show now<max due (now+1);omega) (by show due≤max due (now+1);omega),hx,b]
  rfl
end Oc
namespace Oc
theorem kW {a b t:Int} (h:a≤b):Tk.sub a t≤Tk.sub b t:=by unfold Tk.sub;split<;>split<;>omega
theorem mx (L:List Int) {a b:Int} (win:Int) (h:a≤b):Bu.trim (Bu.trim L a win) b win=Bu.trim L b win:=by
 unfold Bu.trim;rw[List.filter_filter];apply List.filter_congr;intro t _;have:=kW (t:=t) h
 by_cases h1:Tk.sub b t<win
 ·have h2:Tk.sub a t<win:=by omega
  simp[h1,h2]
 ·simp[h1]
theorem trim_app (L M:List Int) (n win:Int):Bu.trim (L++M) n win=Bu.trim L n win++Bu.trim M n win:=List.filter_append ..
structure TdI (j:Jd) (es:List Ev) (k falls:Nat) (now:Int) (back D:List Int):Prop where
 st:∃since T ac,run [j] es=S1 j (lW k falls since T) [] now (D.drop back.length) ac∧∀n,now≤n→Bu.trim T n j.win=Bu.trim back n j.win
 n0:0≤now
 n1:now≤100*(k:Int)
 k1:k≤10
 f1:falls≤k
theorem tdI_start {j:Jd} (h:JTd j) (D:List Int) (a:D.length≤12):TdI j (D.map evDraw) 0 0 0 [] D:=by
 obtain⟨ac,b⟩:=uK h D a;exact⟨⟨0,[],ac,by rw[b];rfl,fun _ _=>rfl⟩,Int.le_refl _,Int.le_refl _,by omega,bM _⟩
def falls1 (j:Jd) (falls run_:Nat):Nat:=if j.stable≤(run_:Int) then 0 else falls
def due1 (j:Jd) (falls:Nat) (now:Int) (back D:List Int):Int:=Tk.add now (Tk.delay j.base j.cap falls (D.getD back.length 0))
def es1 (j:Jd) (es:List Ev) (now:Int):List Ev:=es++[evUp j,evTick now,evExit j]
def es2 (j:Jd) (es:List Ev) (now due:Int):List Ev:=es1 j es now++(if now+1<due then [evTick (due-1)] else [])++[evTick (max due (now+1))]
theorem qL (D:List Int) (n:Nat):(D.drop n).headD 0=D.getD n 0:=by
 rw[bD,←List.head?_drop];cases D.drop n<;>rfl
theorem td_round {j : Jd} (h : JTd j) {es : List Ev} {k falls : Nat} {now : Int} {back D : List Int} (f : TdI j es k falls now back D) (hk : k < 10) (w : ∀ v ∈ D, 0 ≤ v ∧ v ≤ 6) {run_ : Nat} (H : run_ ≤ 29) :
    (¬ ((Bu.trim back (now + run_) j.win).length : Int) < j.burst → ∃ x, run [j] (es1 j es (now + run_)) = S1 j x [] (now + run_) (D.drop back.length) [] ∧ x.ph = 8) ∧
    (((Bu.trim back (now + run_) j.win).length : Int) < j.burst →
      (∃ x, run [j] (es1 j es (now + run_)) = S1 j x [] (now + run_) (D.drop (back.length + 1)) [] ∧ x.ph = 5) ∧
      (let due := due1 j (falls1 j falls run_) (now + run_) back D
       now + run_ ≤ due ∧ due ≤ now + run_ + 30 ∧
       (now + run_ + 1 < due → (run [j] (es1 j es (now + run_) ++ [evTick (due - 1)])).acts = []) ∧
       (run [j] (es2 j es (now + run_) due)).acts = [⟨1, j.nm, (k : Int) + 2⟩] ∧
       TdI j (es2 j es (now + run_) due) (k + 1) (falls1 j falls run_ + 1) (max due (now + run_ + 1)) (back ++ [now + run_]) D)) := by
  obtain ⟨since, T, ac, y, z⟩ := f.st
  have d := xO (run_ := run_) (back := []) h y f.n0 (by omega) (by have := f.f1; omega)
  simp only at d
  have E := f.n0
  have F := f.n1
  have q : now ≤ now + (run_ : Int) := by omega
  rw [z _ q, qL] at d
  refine ⟨fun g => ?_, fun g => ?_⟩
  · rw [if_neg g, if_neg g] at d
    exact ⟨_, d, rfl⟩
  · rw [if_pos g, if_pos g, List.tail_drop] at d
    refine ⟨⟨_, d, rfl⟩, ?_⟩
    intro due
    have p : (if j.stable ≤ (run_ : Int) then 0 else falls) = falls1 j falls run_ := rfl
    have t : 0 ≤ D.getD back.length 0 ∧ D.getD back.length 0 ≤ 6 := by
      rw [bD]
      by_cases u : back.length < D.length
      · rw [bE u]
        exact w _ (bH u)
      · rw [bI (by omega)]
        exact ⟨by decide, by decide⟩
    have r : 0 ≤ Tk.delay j.base j.cap (falls1 j falls run_ : Nat) (D.getD back.length 0) ∧ Tk.delay j.base j.cap (falls1 j falls run_ : Nat) (D.getD back.length 0) ≤ 30 := by
      have m := h.b
      have B := h.c
      have A := Tk.U_dbl (a := j.base) ((falls1 j falls run_ : Nat) : Int) ⟨m.1, by omega⟩
      have G := A.1
      unfold Tk.delay
      have e := Tk.low_eq (a := j.cap) (b := Tk.dbl j.base ((falls1 j falls run_ : Nat) : Int))
      rw [e]
      unfold Tk.add
      split <;> omega
    have s : due = now + run_ + Tk.delay j.base j.cap (falls1 j falls run_ : Nat) (D.getD back.length 0) := by
      show Tk.add _ _ = _
      unfold Tk.add
      rw [if_pos (by omega)]
    have l : now + (run_ : Int) ≤ due := by omega
    obtain ⟨o, i⟩ := xP (k := k) (falls := falls1 j falls run_ + 1) (due := due) h (by
      rw [d]
      rw [p]
      rfl) (by omega) l
    have C : falls1 j falls run_ ≤ k := by
      have := f.f1
      unfold falls1
      split <;> omega
    refine ⟨l, by omega, fun hc => ?_, ?_, ⟨⟨now, Bu.trim back (now + run_) j.win ++ [now + run_], [⟨1, j.nm, (k : Int) + 2⟩], ?_, fun n hn => ?_⟩, ?_, ?_, by omega, by omega⟩⟩
    · have := o hc
      unfold es1
      rw [this]
      rfl
    · unfold es2 es1
      rw [i]
      rfl
    · unfold es2 es1
      rw [i]
      rw [bF, bG]
    · rw [trim_app, trim_app, mx _ _ (by omega)]
    · omega
    · have : ((k + 1 : Nat) : Int) = (k : Int) + 1 := by omega
      rw [this]
      omega
end Oc
namespace Gp
def key (j:Jd):ByteArray×List ByteArray:=(j.nm,j.needs)
theorem nN {l m:List Jd} (h:l.map key=m.map key):l.length=m.length:=by
 have:=congrArg List.length h
 simpa using this
theorem Bw {l m:List Jd} (h:l.map key=m.map key) (i:Nat):key (l.getD i dG)=key (m.getD i dG):=by
 have h1:(l.map key)[i]? =(m.map key)[i]?:=by rw[h]
 rw[List.getElem?_map,List.getElem?_map] at h1;rw[bD,bD];cases c:l[i]? with
 |none=>
  rw[c] at h1;cases hm:m[i]? with
  |none=>rfl
  |some b=>rw[hm] at h1;cases h1
 |some a=>
  rw[c] at h1;cases hm:m[i]? with
  |none=>rw[hm] at h1;cases h1
  |some b=>rw[hm] at h1;injection h1
theorem vL (l:List Jd) (nm:ByteArray):ix l nm=(l.map key).findIdx? fun k=>decide (k.1=nm):=by
 unfold ix;rw[List.findIdx?_map];rfl
theorem key_ix {l m:List Jd} (h:l.map key=m.map key) (nm:ByteArray):ix l nm=ix m nm:=by rw[vL,vL,h]
theorem yJ {l m:List Jd} (h:l.map key=m.map key) (i:Nat):raw l i=raw m i:=by
 unfold raw;have e:(l.getD i dG).needs=(m.getD i dG).needs:=congrArg Prod.snd (Bw h i);have a:ix l=ix m:=by funext nm;exact key_ix h nm
 rw[e,a]
theorem tQ {l m:List Jd} (h:l.map key=m.map key) (i:Nat):needs l i=needs m i:=by
 unfold needs;rw[yJ h,nN h]
theorem pu {l m:List Jd} (h:l.map key=m.map key):allN l=allN m:=by
 unfold allN;rw[nN h];apply List.map_congr_left;intro i _;exact tQ h i
theorem key_order {l m:List Jd} (h:l.map key=m.map key):order l=order m:=by unfold order;rw[pu h]
theorem key_acyclic {l m:List Jd} (h:l.map key=m.map key):acyclic l↔acyclic m:=by unfold acyclic;rw[pu h,nN h]
end Gp
def FiR (a:List Nat) (x:Nat) (r:Int):Prop:=
 (r= -1∧∀j,j<a.length→a.getD j 0≠x)∨∃k:Nat,k<a.length∧r=k∧a.getD k 0=x∧∀j,j<k→a.getD j 0≠x
def xA (a:List Nat) (x:Nat) (w:World) (e:Ending) (w':World):Prop:=∃r:Int,e= .returned (.int .i64 r)∧FiR a x r∧w'=w
theorem Dz (A:Option Addr) (c:Nat) (b:List Nat) (x:Nat) (w:World) (g:Ts w 3 A (aY (aW b))) (u:b.length≤1000000):
  Calls Tryz.prog 129 #[.slice A b.length c,.int .i64 (x:Int)] w (xA b x w):=by
 have n:=aJ g.rs
 have e:Hid (∀r,FiR b x r→xA b x w (.returned (.int .i64 r)) w):=aJ (fun r a=>⟨r,rfl,a,rfl⟩)
 clear g;go_enter Tryz.func129,Tryz.ntmps129;go_wp2_with fail;go_loopw [8] (fun i wr=>∃k:Nat,k≤b.length∧i= .int .i64 k∧wr=w∧Hid (∀j,j<k→b.getD j 0≠x)) (fun i _=>b.length-(intOf i).toNat)
 case atStart=>exact⟨0,bO _,rfl,rfl,aJ (fun j hj=>by omega)⟩
 case round=>
  obtain⟨k,hk,rfl,rfl,f⟩:=hrel
  by_cases l:k<b.length
  ·obtain⟨b2,off,rfl,_,hc⟩:=n.out.at_ (by rw[eZ,eY];omega)
   have t:=hc _ _ (gu b k l)
   have d:Hid (∀j,j=k→b.getD j 0=b.getD k 0):=aJ (fun j h=>by rw[h])
   clear hc;generalize b.getD k 0=y at *
   by_cases m:y=x
   ·have q:((x:Int)==(y:Int))=true:=by rw[beq_iff_eq];omega
    have o:=aJ (e.out _ (bY ⟨k,l,rfl,(d.out k rfl).trans m,f.out⟩))
    have s:=aJ m
    clear m d f e;go_wp2_with fail;go_ret;exact o.out
   ·have q:((x:Int)==(y:Int))=false:=by rw[beq_eq_false_iff_ne];omega
    have o:Hid (∀j,j<k+1→b.getD j 0≠x):=aJ (fun j hj=>by
     by_cases p:j<k
     ·exact f.out j p
     ·rw[d.out j (by omega)];exact m)
    clear m d f;go_wp2_with fail;go_roundw
    case rel=>exact⟨k+1,by omega,by go_num,by trivial,o⟩
    case measure=>simp[intOf];omega
  ·obtain rfl:k=b.length:=by omega
   go_wp2_with fail;go_ret;exact e.out _ (bX ⟨rfl,f.out⟩)
theorem FiR.has {a:List Nat} {x:Nat} {r:Int} (h:FiR a x r):decide (0≤r)=a.contains x:=by
 rcases h with⟨rfl,h⟩|⟨k,hk,rfl,h,_⟩
 ·rw[show decide ((0:Int)≤ -1)=false from rfl]
  symm
  rw[←Bool.not_eq_true,List.contains_iff_mem];intro hx;obtain⟨j,hj,e⟩:=List.mem_iff_getElem.mp hx;exact h j hj (by rw[bD,bE hj];exact e)
 ·rw[decide_eq_true (by omega)]
  symm
  rw[List.contains_iff_mem];rw[bD,bE hk] at h;exact h▸bH hk
theorem CF (A:Option Addr) (c:Nat) (b:List Nat) (x:Nat) (w:World) (a:Ts w 3 A (aY (aW b))) (h:b.length≤1000000):
  Calls Tryz.prog 69 #[.slice A b.length c,.int .i64 (x:Int)] w fun e w'=>e= .returned (.bool (b.contains x))∧w'=w:=by
 have d:=aJ (Dz A c b x w a h)
 clear a;go_enter Tryz.func69,Tryz.ntmps69;go_wp2_with fail;refine(d.out).mono ?_;rintro e w' ⟨r,rfl,f,rfl⟩;have g:=aJ f;clear f d;go_wp2_with fail;go_ret;exact⟨ik g.out.has,rfl⟩
def ll (n:Int):Prop:=n=1∨n=2∨n=3∨n=10∨n=12∨n=15
theorem CI (n:Int) (w:World) (h:ll n):
  Calls Tryz.prog 192 #[.int .i64 n] w fun e w'=>e= .returned (.bool true)∧w'=w:=by
 rcases h with rfl|rfl|rfl|rfl|rfl|rfl
 all_goals
  go_enter Tryz.func192,Tryz.ntmps192
  go_wp2_with fail;go_ret;exact⟨rfl,rfl⟩
theorem zi (r:Int×Int) (w:World) (h:ll r.1):
  Calls Tryz.prog 191 #[.agg #[.int .i64 r.1,.int .u64 r.2]] w fun e w'=>e= .returned (.bool false)∧Old w w':=by
 obtain⟨n,d⟩:=r;have a:=aJ (fun W=>CI n W h)
 clear h;go_enter Tryz.func191,Tryz.ntmps191;go_wp2_with fail;refine(a.out _).mono ?_;rintro e _ ⟨rfl,rfl⟩;go_wp2_with fail;go_ret;exact⟨rfl,(Old.refl w).alloc _⟩
theorem BO (A:Option Addr) (c:Nat) (l:List (Int×Int)) (w:World) (j:Rs w A (dC l)) (hs:∀i,i<l.length→ll (l.getD i (0,0)).1) (r:l.length≤1000000):
  Calls Tryz.prog 225 #[.slice A l.length c,.func (.func 191) #[] #[]] w fun e w'=>e= .returned (.int .i64 (-1))∧Old w w':=by
 have n:=aJ j
 have o:=aJ hs
 clear j hs;go_enter Tryz.func225,Tryz.ntmps225;go_wp2_with fail;go_loopw [8] (fun i wr=>∃k:Nat,k≤l.length∧i= .int .i64 k∧Hid (Old w wr)) (fun i _=>l.length-(intOf i).toNat)
 case atStart=>exact⟨0,bO _,rfl,aJ (Old.refl _)⟩
 case round=>
  obtain⟨k,hk,rfl,d⟩:=hrel
  by_cases a:k<l.length
  ·obtain⟨b,off,rfl,_,hc⟩:=(n.out.up d.out).at_ (by rw[jo];omega)
   obtain⟨f,g⟩:=mF l k a;have q:=hc _ _ f;have c1:wr.cell? ⟨b,off+k*2+1,none⟩=some (.int .u64 (l.getD k (0,0)).2):=by rw[Nat.add_assoc];exact hc _ _ g
   have p:=aJ (zi (l.getD k (0,0)) wr (o.out k a))
   clear hc f g;generalize l.getD k (0,0)=x at *;go_wp2_with fail;refine(p.out).mono ?_;rintro e w' ⟨rfl,h⟩;have m:=aJ (d.out.up h);clear h q c1;go_wp2_with fail;go_roundw
   case rel=>exact⟨k+1,by omega,by go_num,m⟩
   case measure=>simp[intOf];omega
  ·obtain rfl:k=l.length:=by omega
   go_wp2_with fail;go_ret;exact⟨rfl,d.out⟩
theorem BQ (A:Option Addr) (c:Nat) (l:List (Int×Int)) (w:World) (d:Rs w A (dC l)) (hs:∀i,i<l.length→ll (l.getD i (0,0)).1) (g:l.length≤1000000):
  Calls Tryz.prog 190 #[.slice A l.length c,.func (.func 191) #[] #[]] w fun e w'=>e= .returned (.bool false)∧Old w w':=by
 have a:=aJ (BO A c l w d hs g)
 clear d hs;go_enter Tryz.func190,Tryz.ntmps190;go_wp2_with fail;refine(a.out).mono ?_;rintro e w' ⟨rfl,b⟩;have f:=aJ b;clear b a;go_wp2_with fail;go_ret;exact⟨rfl,f.out⟩
structure RgOk (j:Jd):Prop where
 cap:j.base≤j.cap
 win:0<j.win
 b1:1≤j.burst
 b2:j.burst≤16
 rs:j.restart=1∨j.restart=2∨j.restart=3
 few:j.lad.length≤5
 sig:∀i,i<j.lad.length→ll (j.lad.getD i (0,0)).1
theorem uh (j:Jd) (w:World) (b:Rs w j.lA (dC j.lad)) (h:RgOk j):
  Calls Tryz.prog 125 #[fU j] w fun e w'=>e= .returned (.bool true)∧Old w w':=by
 have d:=aJ (fun W (f:Old w W)=>BQ j.lA j.lc j.lad W (b.up f) h.sig (by have:=h.few;omega))
 obtain⟨k1,k2,k3,k4,k5,k6,_⟩:=h;have g:decide (j.cap<j.base)=false:=by rw[decide_eq_false_iff_not];omega
 have i:(j.win==0)=false:=by rw[beq_eq_false_iff_ne];omega
 have k:decide (j.burst<1)=false:=by rw[decide_eq_false_iff_not];omega
 have l:decide (16<j.burst)=false:=by rw[decide_eq_false_iff_not];omega
 clear b k1 k2 k3 k4;unfold fU;generalize j.lad.length=n at *;generalize j.restart=r at *;rcases k5 with rfl|rfl|rfl
 all_goals
  go_enter Tryz.func125,Tryz.ntmps125
  go_wp2_with fail;refine(d.out _ ((Old.refl w).alloc _)).mono ?_;rintro e w2 ⟨rfl,a⟩;have c:=aJ (((Old.refl w).alloc _).up a);clear a;go_wp2_with fail;go_ret;exact⟨rfl,c.out⟩
end Go.Proofs.YtfchjdnpbgpfpaaGreatDoor
