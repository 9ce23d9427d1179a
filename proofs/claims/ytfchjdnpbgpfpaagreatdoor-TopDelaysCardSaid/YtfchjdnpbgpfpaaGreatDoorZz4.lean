/- Part 4: walks and plain laws. -/
import Derived.Test.YtfchjdnpbgpfpaaGreatDoorZz3
import Derived.Deep.MidRow
set_option maxHeartbeats 16000000
set_option maxRecDepth 100000
open Go.Lib renaming hid → aJ
open Go renaming cell_of_row → aK, heap_setCell_other → aL, heap_alloc_new → aM, frozen_of_row → aN, heap_setCell_same → aO, bodyPost_ret → aP, lt_of_block → aQ, undef → aR
open List renaming getD_eq_getElem?_getD → bD, getElem?_eq_getElem → bE, length_append → bF, length_singleton → bG, getElem_mem → bH, getElem?_eq_none → bI, getElem?_append_left → bJ, length_set → bK, length_map → bL
open Nat renaming le_refl → bM, le_trans → bN, zero_le → bO
open Option.some renaming inj → bQ
open Go.World.ownsRow renaming kept → bT, lt → bU
open Go.IntWalk renaming i64_in → bV
open Exists renaming intro → bW
open Or renaming inl → bX, inr → bY
namespace Go.Proofs.YtfchjdnpbgpfpaaGreatDoor
open Go.RowKit Go.Shelf
set_option linter.unusedVariables false
structure Pm where
 tA:Option Addr
 tc:Nat
 oA:Option Addr
 oc:Nat
 nA:Option Addr
 nc:Nat
 nl:List Nat
 dA:Option Addr
 dc:Nat
 dl:List Nat
def bf (x:Lf.T) (A:Option Addr) (c:Nat):List Value:=[.int .i64 x.ph,.int .i64 x.inc,.int .i64 x.runs,.int .u64 x.since,.slice A x.times.length c,.int .u64 x.due,.bool x.armed,.int .i64 x.rung,.bool x.halt,.bool x.again]
theorem Bs (x:Lf.T) (A:Option Addr) (c:Nat):bZ x A c= .agg (bf x A c).toArray:=rfl
def aH (q:Oc.Pl) (m:Pm):List Value:=ae q.j++(bf q.x m.tA m.tc++[.slice m.oA q.out.length m.oc,.slice m.nA m.nl.length m.nc,.slice m.dA m.dl.length m.dc])
theorem im (q:Oc.Pl) (m:Pm):(aH q m).length=28:=rfl
def cF (a:Oc.Ac):List Value:=[.int .i64 a.kind,.string a.job,.int .i64 a.n,.slice none 0 0,.int .i64 0,.int .i64 0,.int .i64 0,.int .i64 0]
def ej (l:List Oc.Ac):List Value:=l.flatMap cF
structure JT (w:World) (j:Jd):Prop where
 env:Ts w 67 j.eA (ib j.env)
 needs:Ts w 9 j.nA (aT j.needs)
 lad:Ts w 70 j.lA (dC j.lad)
 eb:j.env.length≤9223372036854775807
 nb:j.needs.length≤9223372036854775807
 lb:j.lad.length≤9223372036854775807
theorem JT.up {w w':World} {j:Jd} (h:JT w j) (a:Old w w'):JT w' j:=⟨h.env.up a,h.needs.up a,h.lad.up a,h.eb,h.nb,h.lb⟩
theorem JT.jm {w:World} {j:Jd} (h:JT w j):JM w j:=⟨h.env.rs,h.needs.rs,h.lad.rs,h.eb,h.nb,h.lb⟩
def oB (A:Option Addr):Option Nat:=A.map (·.block)
structure SgR (w0 w:World) (oA:Option Addr) (dv:Value) (m:Nat→Pm) (s:Oc.St):Prop where
 ord:Ts w 3 oA (aY (aW (Oc.order s)))
 jm:∀i,i<s.pl.length→JT w (Oc.p s i).j
 times:∀i,i<s.pl.length→Ts w 29 (m i).tA (ax (Oc.p s i).x.times)
 needs:∀i,i<s.pl.length→(m i).nl=Gp.needs (Oc.jobs s) i∧Ts w 3 (m i).nA (aY (aW (m i).nl))
 deps:∀i,i<s.pl.length→Ts w 3 (m i).dA (aY (aW (m i).dl))
 outs:∀i,i<s.pl.length→Own w w0.heap.size 5 1 (.slice (m i).oA (Oc.p s i).out.length (m i).oc) (Oc.p s i).out.length (cZ (Oc.p s i).out)
 draws:Qw w w0.heap.size 29 dv s.draws.length (ax s.draws)
 ap:∀i k,i<s.pl.length→k<s.pl.length→i≠k→∀q,oB (m i).oA=some q→oB (m k).oA≠some q
structure BP where
 n:Nat
 pa:List (Option Addr×List Value)
 ps:List (Option Addr×List Value)
structure SG (w0 w:World) (B:BP) (g pb pc:Nat) (oA:Option Addr) (oc:Nat) (mp dv av:Value) (m:Nat→Pm) (s:Oc.St):Prop where
 old:Old w0 w
 gB:w0.heap.size≤g
 pB:w0.heap.size≤pb
 st:w.heap[g]? =some (.cells #[.slice (some ⟨pb,0,none⟩) s.pl.length pc,.slice oA (Oc.order s).length oc,mp,.int .u64 s.now,dv,.bool false,.bool false,.bool false,.slice none 0 0,.map none,av] 76 (0,0))
 pl:∃cur,w.heap[pb]? =some (.cells cur 108 (0,0))∧cur.size=s.pl.length*28∧∀i,i<s.pl.length→∀k,k<28→cur[i*28+k]? =(aH (Oc.p s i) (m i))[k]?
 pc:s.pl.length≤pc
 rows:SgR w0 w oA dv m s
 acts:Own w B.n 54 8 av s.acts.length (ej s.acts)
 BB:w0.heap.size≤B.n∧B.n≤w.heap.size
 few:s.pl.length≤32
 map:∃q k,mp= .map (some q)∧IMap w q k (Gp.ix (Oc.jobs s))
 pastA:∀r∈B.pa,Ts w 54 r.1 r.2∧∀q off fz,r.1=some ⟨q,off,fz⟩→q<B.n
 pastS:∀r∈B.ps,Ts w 46 r.1 r.2
section
variable {w0 w w' : World} {B : BP} {g pb pc : Nat} {oA : Option Addr} {oc : Nat} {mp dv av : Value} {m : Nat → Pm} {s : Oc.St}
theorem SgR.up (h:SgR w0 w oA dv m s) (b:Old w w'):SgR w0 w' oA dv m s:=
 ⟨h.ord.up b,fun i a=>(h.jm i a).up b,fun i a=>(h.times i a).up b,fun i a=>⟨(h.needs i a).1,(h.needs i a).2.up b⟩,fun i a=>(h.deps i a).up b,fun i a=>(h.outs i a).up b,h.draws.up b,h.ap⟩
theorem SG.up (h:SG w0 w B g pb pc oA oc mp dv av m s) (a:Old w w'):SG w0 w' B g pb pc oA oc mp dv av m s:=
 ⟨h.old.up a,h.gB,h.pB,a.block h.st,h.pl.elim fun cur hc=>⟨cur,a.block hc.1,hc.2⟩,h.pc,h.rows.up a,h.acts.up a,⟨h.BB.1,bN h.BB.2 a.size⟩,h.few,h.map.elim fun q c=>c.elim fun k hk=>⟨q,k,hk.1,hk.2.up a⟩,fun r b=>⟨(h.pastA r b).1.up a,(h.pastA r b).2⟩,fun r b=>(h.pastS r b).up a⟩
theorem Ts.farG {e t:TypeId} {A:Option Addr} {xs:List Value} {k:Nat} {cs:Array Value} {z:Nat×Nat} (h:Ts w e A xs) (hk:w.heap[k]? =some (.cells cs t z)) (d:w.grownBy w' (some k)) (hne:e≠t):Ts w' e A xs:=by
 rcases h with q|⟨b,off,cur,fz,c,a,hc⟩
 ·exact bX q
 ·refine bY ⟨b,off,cur,fz,c,(d.block b (aQ a) (fun e=>?_)).trans a,hc⟩
  injection e with e
  subst e;rw[a] at hk;have hk2:=bQ hk;injection hk2 with e1 e2 e3
  exact hne e2
theorem Own.farG {a:Nat} {e t:TypeId} {sz:Nat} {v:Value} {n:Nat} {xs:List Value} {k:Nat} {cs:Array Value} {z:Nat×Nat} (h:Own w a e sz v n xs) (hk:w.heap[k]? =some (.cells cs t z)) (b:w.grownBy w' (some k)) (hne:e≠t):Own w' a e sz v n xs:=
 bT h b (by
  cases hv:v.ownBlock with
  |none=>exact bX rfl
  |some q=>right;rw[←hv];exact fun e=>dq h hk hne e.symm)
theorem Qw.farG {a:Nat} {e t:TypeId} {v:Value} {n:Nat} {xs:List Value} {k:Nat} {cs:Array Value} {z:Nat×Nat} (h:Qw w a e v n xs) (hk:w.heap[k]? =some (.cells cs t z)) (c:w.grownBy w' (some k)) (hne:e≠t):Qw w' a e v n xs:=by
 refine Qw.kept h c ?_;rcases h.2 with⟨rfl,_⟩|⟨q,off,cap,cur,rfl,_,d,_⟩
 ·exact bX rfl
 ·right
  intro b;simp[Value.ownBlock] at b;subst b;rw[d] at hk;have hk2:=bQ hk;injection hk2 with e1 e3 e4
  exact hne e3
theorem JT.farG {t:TypeId} {j:Jd} {k:Nat} {cs:Array Value} {z:Nat×Nat} (h:JT w j) (hk:w.heap[k]? =some (.cells cs t z)) (a:w.grownBy w' (some k)) (h1:67≠t) (h2:9≠t) (b:70≠t):JT w' j:=
 ⟨h.env.farG hk a h1,h.needs.farG hk a h2,h.lad.farG hk a b,h.eb,h.nb,h.lb⟩
theorem Ts.other {e:TypeId} {A:Option Addr} {xs:List Value} {k:Option Nat} (h:Ts w e A xs) (d:w.grownBy w' k) (hne:∀q off fz,A=some ⟨q,off,fz⟩→some q≠k):Ts w' e A xs:=by
 rcases h with q|⟨b,off,cur,fz,a,c,hc⟩
 ·exact bX q
 ·exact bY ⟨b,off,cur,fz,a,(d.block b (aQ c) (hne b off none a)).trans c,hc⟩
theorem SgR.farG {t:TypeId} {k:Nat} {cs:Array Value} {z:Nat×Nat} (h:SgR w0 w oA dv m s) (hk:w.heap[k]? =some (.cells cs t z)) (b:w.grownBy w' (some k)) (d:t=108∨t=76∨t=54):SgR w0 w' oA dv m s:=by
 have hn:∀e:TypeId,e≠108→e≠76→e≠54→e≠t:=fun e h1 h2 f=>by rcases d with c|c|c<;>rw[c]<;>assumption
 exact⟨h.ord.farG hk b (hn _ (by decide) (by decide) (by decide)),fun i a=>(h.jm i a).farG hk b (hn _ (by decide) (by decide) (by decide)) (hn _ (by decide) (by decide) (by decide)) (hn _ (by decide) (by decide) (by decide)),fun i a=>(h.times i a).farG hk b (hn _ (by decide) (by decide) (by decide)),fun i a=>⟨(h.needs i a).1,(h.needs i a).2.farG hk b (hn _ (by decide) (by decide) (by decide))⟩,fun i a=>(h.deps i a).farG hk b (hn _ (by decide) (by decide) (by decide)),fun i a=>(h.outs i a).farG hk b (hn _ (by decide) (by decide) (by decide)),h.draws.farG hk b (hn _ (by decide) (by decide) (by decide)),h.ap⟩
theorem SG.cell (h:SG w0 w B g pb pc oA oc mp dv av m s) (k:Nat) {v:Value} (hv: #[Value.slice (some ⟨pb,0,none⟩) s.pl.length pc,.slice oA (Oc.order s).length oc,mp,.int .u64 s.now,dv,.bool false,.bool false,.bool false,.slice none 0 0,.map none,av][k]? =some v):w.cell? ⟨g,k,none⟩=some v∧w.frozen? ⟨g,k,none⟩=false:=
 ⟨(aK w g k _ _ _ h.st).trans hv,aN w g k _ _ h.st⟩
theorem SG.pcell (h:SG w0 w B g pb pc oA oc mp dv av m s) {i:Nat} (b:i<s.pl.length) (k:Nat) {v:Value} (hk:k<28) (hv:(aH (Oc.p s i) (m i))[k]? =some v):w.cell? ⟨pb,i*28+k,none⟩=some v∧w.frozen? ⟨pb,i*28+k,none⟩=false:=by
 obtain⟨cur,a,hs,hc⟩:=h.pl;exact⟨(aK w pb _ _ _ _ a).trans ((hc i b k hk).trans hv),aN w pb _ _ _ a⟩
end
theorem gv (s:Oc.St):(Oc.jobs s).length=s.pl.length:=by simp[Oc.jobs]
theorem qy (s:Oc.St) (i j:Nat) (hj:j<(Gp.needs (Oc.jobs s) i).length):(Gp.needs (Oc.jobs s) i).getD j 0<s.pl.length:=by
 rw[←gv];exact Gp.needs_lt _ _ _ hj
theorem Cb {f:Nat→Bool} {l:List Nat} {k:Nat} (hk:k<l.length) (h:f (l.getD k 0)=false):l.all f=false:=by
 rw[List.all_eq_false];refine⟨l[k],bH hk,?_⟩;rw[bD,bE hk] at h;simpa using h
theorem zx {f:Nat→Bool} {l:List Nat} (h:∀j,j<l.length→f (l.getD j 0)=true):l.all f=true:=by
 rw[List.all_eq_true];intro x hx;obtain⟨j,hj,rfl⟩:=List.mem_iff_getElem.mp hx;have:=h j hj;rw[bD,bE hj] at this;exact this
theorem Ca {P:Nat→Int} {l:List Nat} {k:Nat} {v:Int} (h:∀j,j<k→P (l.getD j 0)=v) (e:P (l.getD k 0)=v):∀j,j<k+1→P (l.getD j 0)=v:=fun j hj=>by
 rcases Nat.lt_or_ge j k with h2|h2
 ·exact h j h2
 ·obtain rfl:j=k:=by omega
  exact e
theorem nJ {w0 w:World} {B:BP} {g pb pc:Nat} {oA:Option Addr} {oc:Nat} {mp dv av:Value} {m:Nat→Pm} {s:Oc.St} (h:SG w0 w B g pb pc oA oc mp dv av m s) (i:Nat) (A:i<s.pl.length):
  Calls Tryz.prog 76 #[.pointer (some ⟨g,0,none⟩),.int .i64 (i:Int)] w fun e w'=>e= .returned (.bool (Oc.spawnable s i))∧w'=w:=by
 obtain⟨_,_⟩:=h.cell 0 (v:= .slice (some ⟨pb,0,none⟩) s.pl.length pc) rfl;obtain⟨_,_⟩:=h.pcell A 15 (v:= .int .i64 (Oc.p s i).x.ph) (by decide) rfl
 obtain⟨_,_⟩:=h.pcell A 26 (v:= .slice (m i).nA (m i).nl.length (m i).nc) (by decide) rfl
 obtain⟨a,o⟩:=h.rows.needs i A;have F:(0:Int)≤(i:Int):=by omega
 have G:(i:Int)<(s.pl.length:Int):=by omega
 have H:(s.pl.length:Int)≤32:=by have:=h.few;omega
 have u:=aJ h
 unfold Oc.spawnable
 by_cases t:(Oc.p s i).x.ph=1
 ·have D:((Oc.p s i).x.ph !=1)=false:=by rw[t];rfl
  rw[show((Oc.p s i).x.ph==1)=true by rw[t];rfl,Bool.true_and,←a]
  have C:(m i).nl.length≤32:=by have:=Gp.needs_len (Oc.jobs s) i;rw[gv] at this;have:=h.few;rw[a];omega
  have c:=aJ a
  have d:=aJ o.rs
  clear t a o h;generalize (Oc.p s i).x.ph=ph at *;generalize m i=mi at *;go_enter Tryz.func76,Tryz.ntmps76;go_wp2_with fail;go_loopw [26] (fun x wr=>∃k:Nat,k≤mi.nl.length∧x= .int .i64 k∧wr=w∧Hid (∀j,j<k→(Oc.p s (mi.nl.getD j 0)).x.ph=4)) (fun x _=>mi.nl.length-(intOf x).toNat)
  case atStart=>exact⟨0,bO _,rfl,rfl,aJ (fun j hj=>absurd hj (Nat.not_lt_zero _))⟩
  case round=>
   obtain⟨k,hk,rfl,rfl,y⟩:=hrel
   by_cases l:k<mi.nl.length
   ·obtain⟨b,off,_,_,hc⟩:=d.out.at_ (by rw[eZ,eY];omega)
    have n0:=hc k _ (gu mi.nl k l)
    have hn:mi.nl.getD k 0<s.pl.length:=by have:=qy s i k (by rw[←c.out];exact l);rwa [←c.out] at this
    obtain⟨_,_⟩:=u.out.pcell hn 15 (v:= .int .i64 (Oc.p s (mi.nl.getD k 0)).x.ph) (by decide) rfl
    have q:=aJ (fun(e:(Oc.p s (mi.nl.getD k 0)).x.ph≠4)=>Cb (f:=fun n=>(Oc.p s n).x.ph==4) l (by simpa using e))
    have z:=aJ (fun(e:(Oc.p s (mi.nl.getD k 0)).x.ph=4)=>Ca (P:=fun n=>(Oc.p s n).x.ph) y.out e)
    clear hc y u c d;generalize (Oc.p s (mi.nl.getD k 0)).x.ph=pk at *;generalize mi.nl.getD k 0=nk at *;have I:(0:Int)≤(nk:Int):=by omega
    have J:(nk:Int)<(s.pl.length:Int):=by omega
    by_cases r:pk=4
    ·have E:(pk !=4)=false:=by rw[r];rfl
     have z:=aJ (z.out r)
     clear r q;go_wp2_with fail;go_roundw
     case rel=>exact⟨k+1,by omega,by go_num,trivial,z⟩
     case measure=>simp[intOf];omega
    ·have E:(pk !=4)=true:=by rw[bne_iff_ne];exact r
     have q:=aJ (q.out r)
     clear r z;go_wp2_with fail;go_ret;exact⟨by rw[q.out];rfl,rfl⟩
   ·obtain rfl:k=mi.nl.length:=by omega
    have q:=aJ (zx (f:=fun n=>(Oc.p s n).x.ph==4) (fun j hj=>by simpa using y.out j hj))
    clear y u c d;go_wp2_with fail;go_ret;exact⟨by rw[q.out];rfl,rfl⟩
 ·have D:((Oc.p s i).x.ph !=1)=true:=by rw[bne_iff_ne];exact t
  rw[show((Oc.p s i).x.ph==1)=false by rw[beq_eq_false_iff_ne];exact t,Bool.false_and]
  clear t a o h u;generalize (Oc.p s i).x.ph=ph at *;go_enter Tryz.func76,Tryz.ntmps76;go_wp2_with fail;go_ret;exact⟨rfl,rfl⟩
namespace Gp
theorem yq (a:List (List Nat)):∀(f:Nat) (l:List Nat) (tk:List Bool),(∀x∈l,x<a.length)→(∀x∈(ordF a f l tk).1,x<a.length)∧(ordF a f l tk).1.length≤l.length+f:=by
 intro f
 induction f with
 |zero=>intro l tk h;exact⟨h,by simp[ordF]⟩
 |succ f ih=>
  intro l tk h;rw[ordF];cases b:(List.range a.length).find? (fre a tk) with
  |none=>exact⟨h,by simp⟩
  |some i=>
   have c:i<a.length:=List.mem_range.mp (List.mem_of_find?_eq_some b)
   obtain⟨h1,h2⟩:=ih (l++[i]) (tk.set i true) (fun x hx=>by
    rcases List.mem_append.1 hx with hx|hx
    ·exact h x hx
    ·rw[List.mem_singleton] at hx;omega)
   exact⟨h1,by simp at h2 ⊢;omega⟩
theorem order_lt (l:List Jd):(∀x∈order l,x<l.length)∧(order l).length≤l.length:=by
 have:=yq (allN l) (allN l).length [] (List.replicate (allN l).length false) (fun x hx=>by cases hx)
 rw[allN_len] at this;unfold order ord;rw[allN_len];simpa using this
end Gp
def qR (o:Option Nat):Int:=match o with|none=> -1|some i=>(i:Int)
theorem yZ {f:Nat→Bool} {l:List Nat} (h:∀j,j<l.length→f (l.getD j 0)=false):l.find? f=none:=by
 rw[List.find?_eq_none];intro x hx;obtain⟨j,hj,rfl⟩:=List.mem_iff_getElem.mp hx;have:=h j hj;rw[bD,bE hj] at this;rw[show f l[j]=false from this]
 decide
theorem wo {f:Nat→Bool}:∀{l:List Nat} {k:Nat},k<l.length→(∀j,j<k→f (l.getD j 0)=false)→f (l.getD k 0)=true→l.find? f=some (l.getD k 0):=by
 intro l
 induction l with
 |nil=>intro k hk;simp at hk
 |cons x l ih=>
  intro k hk h e;cases k with
  |zero=>rw[List.find?_cons_of_pos (by simpa using e)];rfl
  |succ k=>
   have a:=h 0 (by omega)
   rw[List.find?_cons_of_neg (by simpa using a)]
   exact ih (by simpa using hk) (fun j hj=>h (j+1) (by omega)) e
theorem CL {f:Nat→Bool} {l:List Nat} {k:Nat} {v:Bool} (h:∀j,j<k→f (l.getD j 0)=v) (e:f (l.getD k 0)=v):∀j,j<k+1→f (l.getD j 0)=v:=fun j hj=>by
 rcases Nat.lt_or_ge j k with h2|h2
 ·exact h j h2
 ·obtain rfl:j=k:=by omega
  exact e
theorem vo {w0 w:World} {B:BP} {g pb pc:Nat} {oA:Option Addr} {oc:Nat} {mp dv av:Value} {m:Nat→Pm} {s:Oc.St} (h:SG w0 w B g pb pc oA oc mp dv av m s):
  Calls Tryz.prog 70 #[.pointer (some ⟨g,0,none⟩),.func (.func 76) #[.pointer (some ⟨g,0,none⟩)] #[]] w fun e w'=>e= .returned (.int .i64 (qR ((Oc.order s).find? (Oc.spawnable s))))∧w'=w:=by
 obtain⟨c1,_⟩:=h.cell 1 (v:= .slice oA (Oc.order s).length oc) rfl;have r:(Oc.order s).length≤32:=by have:=(Gp.order_lt (Oc.jobs s)).2;rw[gv] at this;have:=h.few;unfold Oc.order;omega
 have o:=aJ h.rows.ord.rs
 have i:=aJ (fun k (hk:k<(Oc.order s).length)=>nJ h ((Oc.order s).getD k 0) (by have:=(Gp.order_lt (Oc.jobs s)).1 _ (bH hk);rw[gv] at this;rwa [bD,bE hk]))
 clear h;generalize Oc.order s=l at *;go_enter Tryz.func70,Tryz.ntmps70;go_wp2_with fail;go_loopw [12] (fun x wr=>∃k:Nat,k≤l.length∧x= .int .i64 k∧wr=w∧Hid (∀j,j<k→Oc.spawnable s (l.getD j 0)=false)) (fun x _=>l.length-(intOf x).toNat)
 case atStart=>exact⟨0,bO _,rfl,rfl,aJ (fun j hj=>absurd hj (Nat.not_lt_zero _))⟩
 case round=>
  obtain⟨k,hk,rfl,rfl,f⟩:=hrel
  by_cases a:k<l.length
  ·obtain⟨b,off,rfl,_,hc⟩:=o.out.at_ (by rw[eZ,eY];omega)
   have n0:=hc k _ (gu l k a)
   have c:=aJ (i.out k a)
   have d:=aJ (fun(e:Oc.spawnable s (l.getD k 0)=true)=>wo a f.out e)
   have p:=aJ (fun(e:Oc.spawnable s (l.getD k 0)=false)=>CL f.out e)
   clear hc f i o;generalize Oc.spawnable s (l.getD k 0)=pk at *;generalize l.getD k 0=nk at *;go_wp2_with fail;refine(c.out).mono ?_;rintro e w' ⟨rfl,rfl⟩;clear c;cases pk with
   |false=>
    have q:=aJ (p.out rfl)
    clear d p;go_wp2_with fail;go_roundw
    case rel=>exact⟨k+1,by omega,by go_num,trivial,q⟩
    case measure=>simp[intOf];omega
   |true=>
    have n:=aJ (d.out rfl)
    clear p d;go_wp2_with fail;go_ret;exact⟨by rw[n.out];rfl,rfl⟩
  ·obtain rfl:k=l.length:=by omega
   have d:=aJ (yZ f.out)
   clear f i o;go_wp2_with fail;go_ret;exact⟨by rw[d.out];rfl,rfl⟩
def kK:Array Value→Nat→List Value→Array Value
 |cur,_,[]=>cur
 |cur,i,v::l=>kK (cur.setIfInBounds i v) (i+1) l
theorem jO:∀(l:List Value) (cur:Array Value) (i:Nat),(kK cur i l).size=cur.size:=by
 intro l
 induction l with
 |nil=>intro cur i;rfl
 |cons v l ih=>intro cur i;rw[kK,ih];simp
theorem jn:∀(l:List Value) (cur:Array Value) (i j:Nat),(j<i∨i+l.length≤j)→(kK cur i l)[j]? =cur[j]?:=by
 intro l
 induction l with
 |nil=>intro cur i j h;rfl
 |cons v l ih=>
  intro cur i j h;rw[kK,ih _ _ _ (by simp at h;omega)]
  simp at h
  rw[Array.getElem?_setIfInBounds_ne (by omega)]
theorem nB:∀(l:List Value) (cur:Array Value) (i d:Nat),d<l.length→i+l.length≤cur.size→(kK cur i l)[i+d]? =l[d]?:=by
 intro l
 induction l with
 |nil=>intro cur i d h;simp at h
 |cons v l ih=>
  intro cur i d h hs;simp at h hs;cases d with
  |zero=>
   rw[kK,jn _ _ _ _ (bX (by omega))]
   simp[show i<cur.size by omega]
  |succ d=>
   rw[kK,show i+(d+1)=i+1+d by omega,ih _ _ _ (by omega) (by simp;omega)]
   simp
theorem lC {w:World} {k:Nat} {t:TypeId}:∀(l:List Value) (w:World) (cur:Array Value) (i:Nat),w.heap[k]? =some (.cells cur t (0,0))→(putN w k i l).heap[k]? =some (.cells (kK cur i l) t (0,0)):=by
 intro l
 induction l with
 |nil=>intro w cur i h;exact h
 |cons v l ih=>intro w cur i h;exact ih _ _ _ (aO w k i _ _ v h)
theorem Old.putN {a b:World} {k:Nat} (h:Old a b) (hk:a.heap.size≤k):∀(l:List Value) (i:Nat),Old a (Proofs.YtfchjdnpbgpfpaaGreatDoor.putN b k i l):=by
 intro l i;exact grown_old h (fO k l b i) (fun q e=>by injection e with e;omega)
def xL (m:Nat→Pm) (i:Nat) (x:Pm):Nat→Pm:=fun k=>if k=i then x else m k
theorem cw (m:Nat→Pm) (i:Nat) (x:Pm):xL m i x i=x:=if_pos rfl
theorem aZ {m:Nat→Pm} {i k:Nat} {x:Pm} (h:k≠i):xL m i x k=m k:=if_neg h
def setP (s:Oc.St) (i:Nat) (q:Oc.Pl):Oc.St:={s with pl:=s.pl.set i q}
theorem dR (s:Oc.St) (i:Nat) (q:Oc.Pl):(setP s i q).pl.length=s.pl.length:=by simp[setP]
theorem cU (s:Oc.St) {i:Nat} (q:Oc.Pl) (h:i<s.pl.length):Oc.p (setP s i q) i=q:=by simp[setP,Oc.p,h]
theorem dF (s:Oc.St) {i k:Nat} (q:Oc.Pl) (h:k≠i):Oc.p (setP s i q) k=Oc.p s k:=by
 simp only[setP,Oc.p,bD];rw[List.getElem?_set_ne (by omega)]
theorem iE (s:Oc.St) {i:Nat} {q:Oc.Pl} (h:q.j=(Oc.p s i).j):Oc.jobs (setP s i q)=Oc.jobs s:=by
 unfold Oc.jobs setP;simp only;rw[List.map_set,h];apply List.ext_getElem?;intro k;rw[List.getElem?_set];split
 ·next e=>
  subst e;split
  ·next hk=>rw[List.getElem?_map];simp[Oc.p,bE (by simpa using hk:i<s.pl.length)]
  ·next hk=>rw[bI (by omega)]
 ·rfl
section
variable {w0 w w' : World} {B : BP} {g pb pc : Nat} {oA : Option Addr} {oc : Nat} {mp dv av : Value} {m : Nat → Pm} {s : Oc.St}
theorem SG.setP (h:SG w0 w B g pb pc oA oc mp dv av m s) {i:Nat} (u:i<s.pl.length) (k0:Nat) (l:List Value) (N:k0+l.length≤28) {q:Oc.Pl} {x:Pm} (hj:q.j=(Oc.p s i).j)
  (F:∀d,d<l.length→(aH q x)[k0+d]? =l[d]?) (A:∀k,k<28→(k<k0∨k0+l.length≤k)→(aH q x)[k]? =(aH (Oc.p s i) (m i))[k]?)
  (L:Ts w 29 x.tA (ax q.x.times)) (hn:x.nl=(m i).nl∧x.nA=(m i).nA) (H:x.dl=(m i).dl∧x.dA=(m i).dA) (K:Own w w0.heap.size 5 1 (.slice x.oA q.out.length x.oc) q.out.length (cZ q.out)) (z:∀k,k<s.pl.length→k≠i→∀r,oB x.oA=some r→oB (m k).oA≠some r):
  SG w0 (putN w pb (i*28+k0) l) B g pb pc oA oc mp dv av (xL m i x) (Proofs.YtfchjdnpbgpfpaaGreatDoor.setP s i q):=by
 obtain⟨cur,o,hs,hc⟩:=h.pl;have c:=fO pb l w (i*28+k0);have E:g≠pb:=fun e=>by
  have h1:=h.st
  rw[e,o] at h1;have h2:=bQ h1;injection h2 with e1 n e3
  exact absurd n (by decide)
 have f:=h.rows.farG o c (bX rfl)
 have J:=h.acts.farG o c (by decide)
 have y:Oc.order (Proofs.YtfchjdnpbgpfpaaGreatDoor.setP s i q)=Oc.order s:=by unfold Oc.order;rw[iE s hj]
 have b:=dR s i q
 refine⟨h.old.putN h.pB _ _,h.gB,h.pB,?_,⟨kK cur (i*28+k0) l,lC (w:=w) l w cur _ o,by rw[jO,b];exact hs,?_⟩,by rw[b];exact h.pc,⟨?_,?_,?_,?_,?_,?_,f.draws,?_⟩,J,⟨h.BB.1,bN h.BB.2 c.size⟩,by rw[b];exact h.few,?_,fun r D=>⟨(h.pastA r D).1.farG o c (by decide),(h.pastA r D).2⟩,fun r D=>(h.pastS r D).farG o c (by decide)⟩
 ·rw[fy E,b,y];exact h.st
 ·intro C t k hk;rw[b] at t
  by_cases e:C=i
  ·subst e;rw[cU s q u,cw]
   by_cases G:k<k0∨k0+l.length≤k
   ·rw[jn _ _ _ _ (by omega),A k hk G]
    exact hc C u k hk
   ·have n:C*28+k=C*28+k0+(k-k0):=by omega
    rw[n,nB _ _ _ _ (by omega) (by omega),←F (k-k0) (by omega)]
    congr 1
    omega
  ·rw[dF s q e,aZ e,jn _ _ _ _ (by omega)]
   exact hc C t k hk
 ·rw[y];exact f.ord
 ·intro k hk;rw[b] at hk
  by_cases e:k=i
  ·subst e;rw[cU s q u,hj];exact f.jm k u
  ·rw[dF s q e];exact f.jm k hk
 ·intro k hk;rw[b] at hk
  by_cases e:k=i
  ·subst e;rw[cU s q u,cw];exact L.farG o c (by decide)
  ·rw[dF s q e,aZ e];exact f.times k hk
 ·intro k hk;rw[b] at hk;rw[iE s hj]
  by_cases e:k=i
  ·subst e;rw[cw,hn.1,hn.2];exact f.needs k u
  ·rw[aZ e];exact f.needs k hk
 ·intro k hk;rw[b] at hk
  by_cases e:k=i
  ·subst e;rw[cw,H.1,H.2];exact f.deps k u
  ·rw[aZ e];exact f.deps k hk
 ·intro k hk;rw[b] at hk
  by_cases e:k=i
  ·subst e;rw[cU s q u,cw];exact K.farG o c (by decide)
  ·rw[dF s q e,aZ e];exact f.outs k hk
 ·intro a k ha hk hne r h1;rw[b] at ha hk
  by_cases e:a=i
  ·subst e;rw[cw] at h1;rw[aZ (fun n=>hne n.symm)]
   exact z k hk (fun n=>hne n.symm) r h1
  ·rw[aZ e] at h1
   by_cases n:k=i
   ·subst n;rw[cw];intro I;exact z a ha e r I h1
   ·rw[aZ n];exact f.ap a k ha hk hne r h1
 ·rw[iE s hj];obtain⟨M,k2,hm,t⟩:=h.map;exact⟨M,k2,hm,t.farG o c⟩
theorem df {a:Nat} {e:TypeId} {sz:Nat} {v:Value} {n:Nat} {xs:List Value} (h:Own w a e sz v n xs):v.ownBlock=none∨∃q cur,v.ownBlock=some q∧a≤q∧w.heap[q]? =some (.cells cur e (0,0)):=by
 rcases h with⟨_,⟨rfl,_⟩|⟨q,cap,cur,rfl,c,b,_⟩⟩
 ·exact bX rfl
 ·exact bY ⟨q,cur,by simp[Value.ownBlock],c,b⟩
theorem cX (a:w.grownBy w' none):Old w w':=grown_old (Old.refl w) a (fun q e=>by cases e)
theorem SG.gk (h:SG w0 w B g pb pc oA oc mp dv av m s):pb≠g:=fun e=>by
 obtain⟨cur,a,_⟩:=h.pl;have h1:=h.st;rw[←e,a] at h1;have h2:=bQ h1;injection h2 with e1 e2 e3
 exact absurd e2 (by decide)
theorem SG.act (h:SG w0 w B g pb pc oA oc mp dv av m s) {v':Value} {a:Oc.Ac} (A:Own w' B.n 54 8 v' (s.acts.length+1) (ej s.acts++cF a)) (c:w.grownBy w' av.ownBlock):
  w'.cell? ⟨g,10,none⟩=some av∧w'.frozen? ⟨g,10,none⟩=false∧SG w0 (w'.setCell ⟨g,10,none⟩ v') B g pb pc oA oc mp dv v' m {s with acts:=s.acts++[a]}:=by
 have u:w'.heap[g]? =w.heap[g]?:=c.block g (aQ h.st) (dq h.acts h.st (by decide))
 obtain⟨cur,l,hs,hc⟩:=h.pl;have o:w'.heap[pb]? =w.heap[pb]?:=c.block pb (aQ l) (dq h.acts l (by decide))
 have b:=u.trans h.st
 have z:SgR w0 w' oA dv m s:=by
  rcases df h.acts with e|⟨q,f,e,_,j⟩
  ·rw[e] at c;exact h.rows.up (cX c)
  ·rw[e] at c;exact h.rows.farG j c (bY (bY rfl))
 have y:Old w0 w':=grown_old h.old c (fun q e=>bN h.BB.1 (bU h.acts q e).1)
 have d:=aD w' g 10 v'
 refine⟨(aK w' g 10 _ _ _ b).trans rfl,aN w' g 10 _ _ b,⟨y.setCell (p:=⟨g,10,none⟩) h.gB _,h.gB,h.pB,?_,⟨cur,((aL w' ⟨g,10,none⟩ pb _ h.gk).trans o).trans l,hs,hc⟩,h.pc,?_,?_,⟨h.BB.1,bN (bN h.BB.2 c.size) d.size⟩,h.few,?_,?_,?_⟩⟩
 ·rw[aO w' g 10 _ _ _ b];rfl
 ·have:=z.farG b d (bY (bX rfl))
  exact⟨this.ord,this.jm,this.times,this.needs,this.deps,this.outs,this.draws,this.ap⟩
 ·show Own _ _ _ _ _ (s.acts++[a]).length (ej (s.acts++[a]))
  rw[show(s.acts++[a]).length=s.acts.length+1 by simp,show ej (s.acts++[a])=ej s.acts++cF a by simp[ej]]
  exact A.farG b d (by decide)
 ·obtain⟨D,k2,hm,i⟩:=h.map;refine⟨D,k2,hm,IMap.farG ?_ b d⟩;rcases df h.acts with e|⟨q,f,e,_,j⟩
  ·rw[e] at c;exact i.up (cX c)
  ·rw[e] at c;exact i.farG j c
 ·intro r t;obtain⟨h1,h2⟩:=h.pastA r t;refine⟨Ts.farG (h1.other c (fun q off fz e=>?_)) b d (by decide),h2⟩
  rcases df h.acts with k|⟨E,f,k,C,_⟩
  ·rw[k];simp
  ·rw[k];intro x;injection x with x;have:=h2 q off fz e;omega
 ·intro r t;have h1:=h.pastS r t;refine Ts.farG ?_ b d (by decide)
  rcases df h.acts with e|⟨q,f,e,_,j⟩
  ·rw[e] at c;exact h1.up (cX c)
  ·rw[e] at c;exact h1.farG j c (by decide)
end
theorem CC (w:World):Calls Tryz.prog 35 #[] w (xu w Lf.new):=by
 have a:Hid (∀(q:Lf.T) A' c' w',Lf.new=q→Ts w' 29 A' (ax q.times)→Old w w'→xu w Lf.new (.returned (bZ q A' c')) w'):=aJ (fun q A' c' w' h1 h2 b=>by subst h1;exact⟨A',c',rfl,h2,b⟩)
 go_enter Tryz.func35,Tryz.ntmps35
 go_wp2_with fail;refine aP (by first|(simp[results,Tryz.results35,go_sem,bZ];done)|(simp[results,Tryz.results35,go_sem,bZ];rfl)) rfl (a.out ⟨1,0,0,0,[],0,false,0,false,false⟩ none 0 _ rfl (bX rfl) ?_)
 repeat with_reducible first|exact Old.refl _|assumption|refine Old.setCell ?_ (by first|omega|(simp<;>omega)) _|refine Old.drewN ?_ _|refine Old.alloc ?_ _|refine Old.drew ?_
theorem yF (x:Lf.T) (A:Option Addr) (c:Nat) (w:World) (D:Ts w 29 A (ax x.times)) (H:x.times.length≤68719476000):
  Calls Tryz.prog 77 #[bZ x A c] w (mf w (Lf.spawn x).1 (Lf.spawn x).2):=by
 have g:Hid (∀(q:Lf.T×Bool) A' c' w',Lf.spawn x=q→Ts w' 29 A' (ax q.1.times)→Old w w'→mf w (Lf.spawn x).1 (Lf.spawn x).2 (.returned (.tuple #[bZ q.1 A' c',.bool q.2])) w'):=aJ (fun q A' c' w' h1 h2 G=>by subst h1;exact⟨A',c',rfl,h2,G⟩)
 have b:=aJ (fun W (h:Old w W)=>pr x A c W (D.up h) H)
 clear D;unfold xu bZ at b;unfold bZ;go_enter Tryz.func77,Tryz.ntmps77;go_upto_region 1 with fail
 go_cut [] (fun wx=>∃(A':Option Addr) (c':Nat),LS2 w wx x A' c')
 case first=>
  go_wp2_with fail;refine(b.out _ (((Old.refl w).alloc _).alloc _)).mono ?_;rintro e w2 ⟨A2,c2,rfl,E,C⟩;obtain⟨b2,b3,B⟩:=sR C;obtain⟨⟨_,c1,_,_,c4,_,_,_,_,_⟩,_,f1,f2,_,_,_,_,_,_,_⟩:=bq b2;have F:Hid (LS2 w (iP w2 w.heap.size (.int .i64 x.ph) (.int .i64 x.inc) (.int .i64 x.runs) (.int .u64 x.since) (.slice A2 x.times.length c2) (.int .u64 x.due) (.bool x.armed) (.int .i64 x.rung) (.bool x.halt) (.bool x.again)) x A2 c2):=
   aJ ⟨gj b2,(dg (by omega)).trans b3,gn B (by omega),(il (E.tn2 b2 (by decide) b3 (by decide)) (by simp)).ts⟩
  clear E C b2 b3 b;go_wp2_with fail;go_meet
  case rel=>exact⟨A2,c2,F.out⟩
 case rest=>
  obtain⟨A',c',t⟩:=hcut;have a:=aJ t;clear t;obtain⟨ph,inc,runs,since,times,due,armed,rung,halt,again⟩:=x;have b2:wc.heap[w.heap.size]? =some (.cells #[.int .i64 ph,.int .i64 inc,.int .i64 runs,.int .u64 since,.slice A' times.length c',.int .u64 due,.bool armed,.int .i64 rung,.bool halt,.bool again] 105 (0,0)):=a.out.bl;have b3:wc.heap[w.heap.size+1]? =some (.cells #[.int .i64 0,.int .i64 0,.int .i64 0,.int .u64 0,.slice none 0 0,.int .u64 0,.bool false,.int .i64 0,.bool false,.bool false] 105 (0,0)):=a.out.br;have u:Ts wc 29 A' (ax times):=a.out.ts;have B:Old w wc:=a.out.old;obtain⟨⟨_,c1,c2,_,c4,_,_,_,_,_⟩,_,f1,f2,_,_,_,_,_,_,_⟩:=bq b2;have y:=aJ b2;have f:=aJ b3;have d:=aJ u;clear b2 b3 u a
  by_cases h1:ph=1
  ·subst h1;have z:=aJ (d.out.tn2 y.out (by decide) f.out (by decide))
   obtain⟨⟨i,j,k,l,m,n,o,p,r,s⟩,_,_,_,_,_,_,_,_,_,_⟩:=bq f.out;clear d y f;go_wp2_with fail;refine aP (by first|(simp[results,Tryz.results77,go_sem,bZ,i,j,k,l,m,n,o,p,r,s];done)|(simp[results,Tryz.results77,go_sem,bZ,i,j,k,l,m,n,o,p,r,s];first|rfl|exact⟨rfl,rfl⟩)) rfl (g.out (⟨2,wrap64 (inc+1),runs,since,times,due,armed,rung,halt,again⟩,true) A' c' _ rfl ?_ ?_)
   ·refine Tn.ts (K:=[w.heap.size,w.heap.size+1]) ?_
    repeat with_reducible refine Tn.set ?_ (by simp) _
    exact z.out
   ·repeat with_reducible first|exact Old.refl _|assumption|refine Old.setCell ?_ (by first|omega|(simp<;>omega)) _|refine Old.drewN ?_ _|refine Old.alloc ?_ _|refine Old.drew ?_
  have n1:(ph==1)=false:=by simpa using h1
  have z:=aJ (d.out.tn2 y.out (by decide) f.out (by decide))
  obtain⟨⟨i,j,k,l,m,n,o,p,r,s⟩,_,_,_,_,_,_,_,_,_,_⟩:=bq f.out;clear d y f;go_wp2_with fail;refine aP (by first|(simp[results,Tryz.results77,go_sem,bZ,i,j,k,l,m,n,o,p,r,s];done)|(simp[results,Tryz.results77,go_sem,bZ,i,j,k,l,m,n,o,p,r,s];first|rfl|exact⟨rfl,rfl⟩)) rfl (g.out (⟨ph,inc,runs,since,times,due,armed,rung,halt,again⟩,false) A' c' _ (by unfold Lf.spawn;rw[if_neg h1]) ?_ ?_)
  ·refine Tn.ts (K:=[w.heap.size,w.heap.size+1]) ?_
   repeat with_reducible refine Tn.set ?_ (by simp) _
   exact z.out
  ·repeat with_reducible first|exact Old.refl _|assumption|refine Old.setCell ?_ (by first|omega|(simp<;>omega)) _|refine Old.drewN ?_ _|refine Old.alloc ?_ _|refine Old.drew ?_
theorem tL (j:Jd) (x:Lf.T) (A:Option Addr) (c:Nat) (ok ready:Bool) (now jit:Int) (w:World) (hj:JdOk w j) (hn:Tk.U now) (hi:Tk.U jit) (hx:Lf.Ok x) (hr:Ts w 29 A (ax x.times)) (hl:x.times.length≤68719476000):
  Calls Tryz.prog 79 #[fU j,bZ x A c,.bool ok,.bool ready,.int .u64 now,.int .u64 jit] w (Aw w (Lf.spawned j.j x ok ready now jit).1 (Lf.spawned j.j x ok ready now jit).2.1 (Lf.spawned j.j x ok ready now jit).2.2):=by
 have S:Hid (∀(q:Lf.T×Int×Bool) A' c' w',Lf.spawned j.j x ok ready now jit=q→Ts w' 29 A' (ax q.1.times)→Old w w'→Aw w (Lf.spawned j.j x ok ready now jit).1 (Lf.spawned j.j x ok ready now jit).2.1 (Lf.spawned j.j x ok ready now jit).2.2 (.returned (.tuple #[bZ q.1 A' c',.int .i64 q.2.1,.bool q.2.2])) w'):=aJ (fun q A' c' w' h1 h2 h3=>by subst h1;exact⟨A',c',rfl,h2,h3⟩)
 have R:=aJ (fun W (h:Old w W)=>pr x A c W (hr.up h) hl)
 clear hr;have HJ:=aJ hj;clear hj;unfold xu bZ at R;unfold bZ fU;go_enter Tryz.func79,Tryz.ntmps79;go_upto_region 1 with fail
 go_cut [] (fun wx=>∃(A':Option Addr) (c':Nat),LS3 w wx j x A' c')
 case first=>
  go_wp2_with fail;refine(R.out _ ((((Old.refl w).alloc _).alloc _).alloc _)).mono ?_;rintro e w2 ⟨A2,c2,rfl,ht,hd⟩;obtain⟨b1,b2,b3,hO⟩:=gD hd;obtain⟨⟨_,c1,_,_,c4,_,_,_,_,_⟩,_,f1,f2,_,_,_,_,_,_,_⟩:=bq b2;have HX:Hid (LS3 w (iP w2 (w.heap.size+1) (.int .i64 x.ph) (.int .i64 x.inc) (.int .i64 x.runs) (.int .u64 x.since) (.slice A2 x.times.length c2) (.int .u64 x.due) (.bool x.armed) (.int .i64 x.rung) (.bool x.halt) (.bool x.again)) j x A2 c2):=
   aJ ⟨(dg (by omega)).trans b1,gj b2,(dg (by omega)).trans b3,gn hO (by omega),(il (ht.tn2 b2 (by decide) b3 (by decide)) (by simp)).ts⟩
  clear ht hd b1 b2 b3 R;go_wp2_with fail;go_meet
  case rel=>exact⟨A2,c2,HX.out⟩
 case rest=>
  obtain⟨A',c',ac⟩:=hcut;have L:=aJ ac;clear ac;obtain⟨nm,run,eA,env,ec,nA,needs,nc,hasR,a,restart,base,cap,stable,burst,win,lA,lad,lc,line,col⟩:=j;obtain⟨ph,inc,runs,since,times,due,armed,rung,halt,again⟩:=x;have b1:wc.heap[w.heap.size]? =some (.cells #[.string nm,.string run,.slice eA env.length ec,.slice nA needs.length nc,.bool hasR,.string a,.int .i64 restart,.int .u64 base,.int .u64 cap,.int .u64 stable,.int .i64 burst,.int .u64 win,.slice lA lad.length lc,.int .i64 line,.int .i64 col] 32 (0,0)):=L.out.bj;have b2:wc.heap[w.heap.size+1]? =some (.cells #[.int .i64 ph,.int .i64 inc,.int .i64 runs,.int .u64 since,.slice A' times.length c',.int .u64 due,.bool armed,.int .i64 rung,.bool halt,.bool again] 105 (0,0)):=L.out.bl;have b3:wc.heap[w.heap.size+1+1]? =some (.cells #[.int .i64 0,.int .i64 0,.int .i64 0,.int .u64 0,.slice none 0 0,.int .u64 0,.bool false,.int .i64 0,.bool false,.bool false] 105 (0,0)):=L.out.br;have ae:Ts wc 29 A' (ax times):=L.out.ts;have hO:Old w wc:=L.out.old;obtain⟨⟨_,_,_,_,_,_,_,_,_,_,_,_,_,_,_⟩,_⟩:=ij b1;obtain⟨⟨_,c1,c2,_,c4,_,_,_,_,_⟩,_,f1,f2,_,_,_,_,_,_,_⟩:=bq b2;have ah:=b1;have N:=aJ b2;have y:=aJ b3;have o:=aJ ae;clear b1 b2 b3 ae L
  by_cases h2:ph=2
  ·subst h2;cases ok with
   |false=>
    have X:=aJ (fun W (h:Old wc W)=>vz ⟨nm,run,eA,env,ec,nA,needs,nc,hasR,a,restart,base,cap,stable,burst,win,lA,lad,lc,line,col⟩ ⟨2,inc,runs,since,times,due,armed,rung,halt,again⟩ A' c' now jit W (HJ.out.up (hO.up h)) hn hi (o.out.up h) hl hx)
    have aa:Hid (Lf.spawned (Jd.j ⟨nm,run,eA,env,ec,nA,needs,nc,hasR,a,restart,base,cap,stable,burst,win,lA,lad,lc,line,col⟩) ⟨2,inc,runs,since,times,due,armed,rung,halt,again⟩ false ready now jit=((Lf.unb (Jd.j ⟨nm,run,eA,env,ec,nA,needs,nc,hasR,a,restart,base,cap,stable,burst,win,lA,lad,lc,line,col⟩) ⟨2,inc,runs,since,times,due,armed,rung,halt,again⟩ now jit).1,0,(Lf.unb (Jd.j ⟨nm,run,eA,env,ec,nA,needs,nc,hasR,a,restart,base,cap,stable,burst,win,lA,lad,lc,line,col⟩) ⟨2,inc,runs,since,times,due,armed,rung,halt,again⟩ now jit).2)):=aJ (Lf.spawned_no rfl)
    generalize Lf.unb _ _ now jit=q at *;obtain⟨⟨V,t,n,f,g,s,d,m,l,b⟩,b'⟩:=q;unfold mf bZ fU at X;simp only at X;go_wp2_with fail;refine(X.out _ (Old.refl _)).mono ?_;rintro e w3 ⟨A3,ab,rfl,ag,r⟩;have P:=N.out;have Q:=y.out;have M:=hO;have O:=aJ (r.block P);have u:=aJ (r.block Q);have af:=M.up r;have Y:=aJ ((ag).tn2 O.out (by decide) u.out (by decide))
    clear r hO X o N y M P Q;obtain⟨⟨z,B,C,D,E,F,G,H,I,J⟩,_,_,_,_,_,_,_,_,_,_⟩:=bq (((Old.refl w3).alloc (.cells #[.int .i64 V,.int .i64 t,.int .i64 n,.int .u64 f,.slice A3 g.length ab,.int .u64 s,.bool d,.int .i64 m,.bool l,.bool b] 105)).block u.out);clear O u;go_wp2_with fail;refine aP (by first|(simp[results,Tryz.results79,go_sem,bZ,z,B,C,D,E,F,G,H,I,J];done)|(simp[results,Tryz.results79,go_sem,bZ,z,B,C,D,E,F,G,H,I,J];first|rfl|exact⟨rfl,rfl⟩)) rfl (S.out (⟨V,t,n,f,g,s,d,m,l,b⟩,0,b') A3 ab _ aa.out ?_ ?_)
    ·refine Tn.ts (K:=[w.heap.size+1,w.heap.size+1+1]) ?_
     repeat with_reducible refine Tn.set ?_ (by simp) _
     refine Tn.alloc ?_ _;exact Y.out
    ·repeat with_reducible first|exact Old.refl _|assumption|refine Old.setCell ?_ (by first|omega|(simp<;>omega)) _|refine Old.drewN ?_ _|refine Old.alloc ?_ _|refine Old.drew ?_
   |true=>
    cases halt with
    |true=>
     have X:=aJ (fun W (h:Old w W)=>Bq ⟨nm,run,eA,env,ec,nA,needs,nc,hasR,a,restart,base,cap,stable,burst,win,lA,lad,lc,line,col⟩ ⟨2,inc,runs,now,times,due,armed,rung,true,again⟩ A' c' now W (HJ.out.up h) hn)
     have ad:(Lf.halt_ (Jd.j ⟨nm,run,eA,env,ec,nA,needs,nc,hasR,a,restart,base,cap,stable,burst,win,lA,lad,lc,line,col⟩) ⟨2,inc,runs,now,times,due,armed,rung,true,again⟩ now).1.times=times:=rfl
     have aa:Hid (Lf.spawned (Jd.j ⟨nm,run,eA,env,ec,nA,needs,nc,hasR,a,restart,base,cap,stable,burst,win,lA,lad,lc,line,col⟩) ⟨2,inc,runs,since,times,due,armed,rung,true,again⟩ true ready now jit=((Lf.halt_ (Jd.j ⟨nm,run,eA,env,ec,nA,needs,nc,hasR,a,restart,base,cap,stable,burst,win,lA,lad,lc,line,col⟩) ⟨2,inc,runs,now,times,due,armed,rung,true,again⟩ now).1,(Lf.halt_ (Jd.j ⟨nm,run,eA,env,ec,nA,needs,nc,hasR,a,restart,base,cap,stable,burst,win,lA,lad,lc,line,col⟩) ⟨2,inc,runs,now,times,due,armed,rung,true,again⟩ now).2,false)):=aJ rfl
     generalize Lf.halt_ _ _ now=q at *;obtain⟨⟨V,t,n,f,g,s,d,m,l,b⟩,s'⟩:=q;simp only at ad;subst ad;unfold bZ fU at X;simp only at X;have P:=aO wc (w.heap.size+1) 3 _ _ (.int .u64 now) N.out;have Q:=(aL wc ⟨w.heap.size+1,3,none⟩ (w.heap.size+1+1) (.int .u64 now) (by simp)).trans y.out
     have M:=hO.setCell (p:=⟨w.heap.size+1,3,none⟩) (by simp only;omega) (.int .u64 now)
     have Z:=((o.out.tn2 N.out (by decide) y.out (by decide)).set (k:=w.heap.size+1) (i:=3) (by simp) (.int .u64 now)).ts
     go_wp2_with fail;refine(X.out _ M).mono ?_;rintro e w3 ⟨rfl,r⟩;have O:=aJ (r.block P);have u:=aJ (r.block Q);have af:=M.up r;have Y:=aJ ((Z.up r).tn2 O.out (by decide) u.out (by decide))
     clear r Z hO X o N y M P Q;obtain⟨⟨z,B,C,D,E,F,G,H,I,J⟩,_,_,_,_,_,_,_,_,_,_⟩:=bq (((Old.refl w3).alloc (.cells #[.int .i64 V,.int .i64 t,.int .i64 n,.int .u64 f,.slice A' g.length c',.int .u64 s,.bool d,.int .i64 m,.bool l,.bool b] 105)).block u.out);clear O u;go_wp2_with fail;refine aP (by first|(simp[results,Tryz.results79,go_sem,bZ,z,B,C,D,E,F,G,H,I,J];done)|(simp[results,Tryz.results79,go_sem,bZ,z,B,C,D,E,F,G,H,I,J];first|rfl|exact⟨rfl,rfl⟩)) rfl (S.out (⟨V,t,n,f,g,s,d,m,l,b⟩,s',false) A' c' _ aa.out ?_ ?_)
     ·refine Tn.ts (K:=[w.heap.size+1,w.heap.size+1+1]) ?_
      repeat with_reducible refine Tn.set ?_ (by simp) _
      refine Tn.alloc ?_ _;exact Y.out
     ·repeat with_reducible first|exact Old.refl _|assumption|refine Old.setCell ?_ (by first|omega|(simp<;>omega)) _|refine Old.drewN ?_ _|refine Old.alloc ?_ _|refine Old.drew ?_
    |false=>
     cases ready with
     |true=>
      have r1:=aO wc (w.heap.size+1) 3 _ _ (.int .u64 now) N.out
      have r2:=aO _ (w.heap.size+1) 0 _ _ (.int .i64 3) r1
      have r3:=aO _ (w.heap.size+1) 0 _ _ (.int .i64 4) r2
      have z0:(((wc.setCell ⟨w.heap.size+1,3,none⟩ (.int .u64 now)).setCell ⟨w.heap.size+1,0,none⟩ (.int .i64 3)).setCell ⟨w.heap.size+1,0,none⟩ (.int .i64 4)).cell? ⟨w.heap.size+1,0,none⟩=some (.int .i64 4):=by rw[aK _ (w.heap.size+1) 0 _ _ _ r3];rfl
      clear r1 r2 r3;have Y:=aJ (o.out.tn2 N.out (by decide) y.out (by decide))
      obtain⟨⟨z,B,C,D,E,F,G,H,I,J⟩,_,_,_,_,_,_,_,_,_,_⟩:=bq y.out;clear o N y;go_wp2_with fail;refine aP (by first|(simp[results,Tryz.results79,go_sem,bZ,z,B,C,D,E,F,G,H,I,J];done)|(simp[results,Tryz.results79,go_sem,bZ,z,B,C,D,E,F,G,H,I,J];first|rfl|exact⟨rfl,rfl⟩)) rfl (S.out (⟨4,inc,runs,now,times,due,armed,rung,false,again⟩,0,false) A' c' _ rfl ?_ ?_)
      ·refine Tn.ts (K:=[w.heap.size+1,w.heap.size+1+1]) ?_
       repeat with_reducible refine Tn.set ?_ (by simp) _
       exact Y.out
      ·repeat with_reducible first|exact Old.refl _|assumption|refine Old.setCell ?_ (by first|omega|(simp<;>omega)) _|refine Old.drewN ?_ _|refine Old.alloc ?_ _|refine Old.drew ?_
     |false=>
      have Y:=aJ (o.out.tn2 N.out (by decide) y.out (by decide))
      obtain⟨⟨z,B,C,D,E,F,G,H,I,J⟩,_,_,_,_,_,_,_,_,_,_⟩:=bq y.out;clear o N y;go_wp2_with fail;refine aP (by first|(simp[results,Tryz.results79,go_sem,bZ,z,B,C,D,E,F,G,H,I,J];done)|(simp[results,Tryz.results79,go_sem,bZ,z,B,C,D,E,F,G,H,I,J];first|rfl|exact⟨rfl,rfl⟩)) rfl (S.out (⟨3,inc,runs,now,times,due,armed,rung,false,again⟩,0,false) A' c' _ rfl ?_ ?_)
      ·refine Tn.ts (K:=[w.heap.size+1,w.heap.size+1+1]) ?_
       repeat with_reducible refine Tn.set ?_ (by simp) _
       exact Y.out
      ·repeat with_reducible first|exact Old.refl _|assumption|refine Old.setCell ?_ (by first|omega|(simp<;>omega)) _|refine Old.drewN ?_ _|refine Old.alloc ?_ _|refine Old.drew ?_
  have n2:(ph==2)=false:=by simpa using h2
  have Y:=aJ (o.out.tn2 N.out (by decide) y.out (by decide))
  obtain⟨⟨z,B,C,D,E,F,G,H,I,J⟩,_,_,_,_,_,_,_,_,_,_⟩:=bq y.out;clear o N y;go_wp2_with fail;refine aP (by first|(simp[results,Tryz.results79,go_sem,bZ,z,B,C,D,E,F,G,H,I,J];done)|(simp[results,Tryz.results79,go_sem,bZ,z,B,C,D,E,F,G,H,I,J];first|rfl|exact⟨rfl,rfl⟩)) rfl (S.out (⟨ph,inc,runs,since,times,due,armed,rung,halt,again⟩,0,false) A' c' _ (by show Lf.spawned (Jd.j ⟨nm,run,eA,env,ec,nA,needs,nc,hasR,a,restart,base,cap,stable,burst,win,lA,lad,lc,line,col⟩) ⟨ph,inc,runs,since,times,due,armed,rung,halt,again⟩ ok ready now jit=_;unfold Lf.spawned;rw[if_pos (by simp only;omega)]) ?_ ?_)
  ·refine Tn.ts (K:=[w.heap.size+1,w.heap.size+1+1]) ?_
   repeat with_reducible refine Tn.set ?_ (by simp) _
   exact Y.out
  ·repeat with_reducible first|exact Old.refl _|assumption|refine Old.setCell ?_ (by first|omega|(simp<;>omega)) _|refine Old.drewN ?_ _|refine Old.alloc ?_ _|refine Old.drew ?_
theorem mT:(Tryz.prog.info? 54).map (fun i=>(i.zero,i.size,i.bytes))=some (some (.agg #[.int .i64 0,.string ⟨#[]⟩,.int .i64 0,.slice none 0 0,.int .i64 0,.int .i64 0,.int .i64 0,.int .i64 0]),8,88):=by kernel_rfl
def rh (w0 w:World) (B:BP) (g pb pc:Nat) (oA:Option Addr) (oc:Nat) (mp dv av:Value) (m:Nat→Pm) (s:Oc.St) (e:Ending) (w':World):Prop:=
 match (Oc.order s).find? (Oc.spawnable s) with
 |none=>e= .returned (.bool false)∧w'=w
 |some i=>e= .returned (.bool true)∧∃b a,SG w0 w' B g pb pc oA oc mp dv a b (Oc.spawnAt s i)
theorem vm {w0 w:World} {B:BP} {g pb pc:Nat} {oA:Option Addr} {oc:Nat} {mp dv av:Value} {m:Nat→Pm} {s:Oc.St} (h:SG w0 w B g pb pc oA oc mp dv av m s) (S:∀i,i<s.pl.length→(Oc.p s i).x.times.length≤68719476000) (ha:s.acts.length≤1000000):
  Calls Tryz.prog 39 #[.pointer (some ⟨g,0,none⟩)] w (rh w0 w B g pb pc oA oc mp dv av m s):=by
 have aa:∀(fn:Fn) (first cap:Array Value) (w:World),(Instr.makeFunc fn first cap).run Tryz.prog w= .ok (.func fn first cap) w:=fun _ _ _ _=>rfl
 have t:=aJ (vo h)
 obtain⟨c0,_⟩:=h.cell 0 (v:= .slice (some ⟨pb,0,none⟩) s.pl.length pc) rfl;obtain⟨c5,_⟩:=h.cell 5 (v:= .bool false) rfl;obtain⟨c7,_⟩:=h.cell 7 (v:= .bool false) rfl;unfold rh;cases J:(Oc.order s).find? (Oc.spawnable s) with
 |none=>
  rw[J] at t;clear h S ha J;unfold qR at t;simp only at t;go_enter Tryz.func39,Tryz.ntmps39;go_wp2_with fail;refine(t.out).mono ?_;rintro e w' ⟨rfl,rfl⟩;clear t;go_wp2_with fail;go_ret;exact⟨rfl,rfl⟩
 |some i=>
  rw[J] at t;unfold qR at t;simp only at t;have N:i<s.pl.length:=by
   have:=(Gp.order_lt (Oc.jobs s)).1 i (List.mem_of_find?_eq_some J)
   rwa [gv] at this
  have i0:(0:Int)≤(i:Int):=by omega
  have i1:(i:Int)<(s.pl.length:Int):=by omega
  have i2:(s.pl.length:Int)≤32:=by have:=h.few;omega
  obtain⟨z,ac,rfl,_,_⟩:=h.acts.shape;have o:=aJ h;have HL:=aJ (fun W (hW:SG w0 W B g pb pc oA oc mp dv (.slice z s.acts.length ac) m s)=>yF (Oc.p s i).x (m i).tA (m i).tc W (hW.rows.times i N) (S i N))
  have b:=aJ N
  have O:=aJ ha
  clear h S J ha N;go_enter Tryz.func39,Tryz.ntmps39;go_wp2_with fail;refine(t.out).mono ?_;rintro e w' ⟨rfl,rfl⟩;clear t;go_upto_region 7 with fail
  obtain⟨F,_⟩:=o.out.pcell b.out 15 (v:= .int .i64 (Oc.p s i).x.ph) (by decide) rfl
  obtain⟨T,_⟩:=o.out.pcell b.out 16 (v:= .int .i64 (Oc.p s i).x.inc) (by decide) rfl
  obtain⟨V,_⟩:=o.out.pcell b.out 17 (v:= .int .i64 (Oc.p s i).x.runs) (by decide) rfl
  obtain⟨X,_⟩:=o.out.pcell b.out 18 (v:= .int .u64 (Oc.p s i).x.since) (by decide) rfl
  obtain⟨l4,_⟩:=o.out.pcell b.out 19 (v:= .slice (m i).tA (Oc.p s i).x.times.length (m i).tc) (by decide) rfl
  obtain⟨Y,_⟩:=o.out.pcell b.out 20 (v:= .int .u64 (Oc.p s i).x.due) (by decide) rfl
  obtain⟨Z,_⟩:=o.out.pcell b.out 21 (v:= .bool (Oc.p s i).x.armed) (by decide) rfl
  obtain⟨l7,_⟩:=o.out.pcell b.out 22 (v:= .int .i64 (Oc.p s i).x.rung) (by decide) rfl
  obtain⟨l8,_⟩:=o.out.pcell b.out 23 (v:= .bool (Oc.p s i).x.halt) (by decide) rfl
  obtain⟨l9,_⟩:=o.out.pcell b.out 24 (v:= .bool (Oc.p s i).x.again) (by decide) rfl
  have Q:=aJ (HL.out w' o.out)
  clear HL;unfold bZ at Q;go_wp2_with fail;refine(Q.out).mono ?_;rintro e w2 ⟨A2,c2,rfl,L,I⟩;have c:=aJ (o.out.up I);have y:=aJ L;clear I L o Q c0 c5 c7 F T V X l4 Y Z l7 l8 l9;unfold bZ;obtain⟨f,E⟩:∃f,(Lf.spawn (Oc.p s i).x).1=f:=⟨_,rfl⟩
  have H:=aJ E
  rw[E] at y ⊢;clear E;obtain⟨F,z0⟩:=c.out.pcell b.out 15 (v:= .int .i64 (Oc.p s i).x.ph) (by decide) rfl
  obtain⟨T,z1⟩:=c.out.pcell b.out 16 (v:= .int .i64 (Oc.p s i).x.inc) (by decide) rfl
  obtain⟨V,z2⟩:=c.out.pcell b.out 17 (v:= .int .i64 (Oc.p s i).x.runs) (by decide) rfl
  obtain⟨X,z3⟩:=c.out.pcell b.out 18 (v:= .int .u64 (Oc.p s i).x.since) (by decide) rfl
  obtain⟨l4,z4⟩:=c.out.pcell b.out 19 (v:= .slice (m i).tA (Oc.p s i).x.times.length (m i).tc) (by decide) rfl
  obtain⟨Y,z5⟩:=c.out.pcell b.out 20 (v:= .int .u64 (Oc.p s i).x.due) (by decide) rfl
  obtain⟨Z,z6⟩:=c.out.pcell b.out 21 (v:= .bool (Oc.p s i).x.armed) (by decide) rfl
  obtain⟨l7,z7⟩:=c.out.pcell b.out 22 (v:= .int .i64 (Oc.p s i).x.rung) (by decide) rfl
  obtain⟨l8,z8⟩:=c.out.pcell b.out 23 (v:= .bool (Oc.p s i).x.halt) (by decide) rfl
  obtain⟨l9,z9⟩:=c.out.pcell b.out 24 (v:= .bool (Oc.p s i).x.again) (by decide) rfl
  obtain⟨U,M⟩:=c.out.pcell b.out 25 (v:= .slice (m i).oA (Oc.p s i).out.length (m i).oc) (by decide) rfl
  go_upto_region 9 with fail
  obtain⟨u,D⟩:∃u,(((((((((((w2).setCell ⟨pb,i*28+15,none⟩ (.int .i64 f.ph)).setCell ⟨pb,i*28+16,none⟩ (.int .i64 f.inc)).setCell ⟨pb,i*28+17,none⟩ (.int .i64 f.runs)).setCell ⟨pb,i*28+18,none⟩ (.int .u64 f.since)).setCell ⟨pb,i*28+19,none⟩ (.slice A2 f.times.length c2)).setCell ⟨pb,i*28+20,none⟩ (.int .u64 f.due)).setCell ⟨pb,i*28+21,none⟩ (.bool f.armed)).setCell ⟨pb,i*28+22,none⟩ (.int .i64 f.rung)).setCell ⟨pb,i*28+23,none⟩ (.bool f.halt)).setCell ⟨pb,i*28+24,none⟩ (.bool f.again)).setCell ⟨pb,i*28+25,none⟩ (.slice none 0 0)=u:=⟨_,rfl⟩
  rw[D];have l:Hid (SG w0 u B g pb pc oA oc mp dv (.slice z s.acts.length ac) (xL m i {m i with tA:=A2,tc:=c2,oA:=none,oc:=0}) (setP s i ⟨(Oc.p s i).j,f,[]⟩)):=aJ (by
   rw[←D];have:=c.out.setP b.out 15 (bf f A2 c2++[.slice none 0 0]) (by simp[bf]) (q:=⟨(Oc.p s i).j,f,[]⟩) (x:={m i with tA:=A2,tc:=c2,oA:=none,oc:=0}) rfl
    (fun d I=>by
     have I:d<11:=I
     rcases d with _|_|_|_|_|_|_|_|_|_|_|d<;>first|rfl|omega)
    (fun k hk hk2=>by
     have hk2:k<15∨26≤k:=hk2
     rcases hk2 with h|h
     ·unfold aH;rw[bJ (by exact h),bJ (by exact h)]
     ·obtain rfl|rfl:k=26∨k=27:=by omega
      ·rfl
      ·rfl)
    y.out ⟨rfl,rfl⟩ ⟨rfl,rfl⟩ (Own.nil_ _ _ _ _) (fun k _ _ r h=>by cases h)
   exact this)
  clear D c y F T V X l4 Y Z l7 l8 l9 U z0 z1 z2 z3 z4 z5 z6 z7 z8 z9 M;have C:i<(setP s i ⟨(Oc.p s i).j,f,[]⟩).pl.length:=by rw[dR];exact b.out
  obtain⟨_,M⟩:=l.out.cell 10 (v:= .slice z s.acts.length ac) rfl;obtain⟨F,_⟩:=l.out.pcell C 0 (v:= .string (Oc.p s i).j.nm) (by decide) (by rw[cU s _ b.out];rfl)
  replace F:u.cell? ⟨pb,i*28,none⟩=some (.string (Oc.p s i).j.nm):=F
  obtain⟨_,_⟩:=l.out.pcell C 16 (v:= .int .i64 f.inc) (by decide) (by rw[cU s _ b.out];rfl)
  have P:Hid (∀(W:World) (v':Value) (w':World),Old u W→Own w' B.n 54 8 v' (s.acts.length+1) (ej s.acts++[.int .i64 1,.string (Oc.p s i).j.nm,.int .i64 f.inc,.slice none 0 0,.int .i64 0,.int .i64 0,.int .i64 0,.int .i64 0])→W.grownBy w' (Value.slice z s.acts.length ac).ownBlock→
    ∃A' c',v'= .slice A' (s.acts.length+1) c'∧w'.cell? ⟨g,10,none⟩=some (.slice z s.acts.length ac)∧w'.frozen? ⟨g,10,none⟩=false∧Hid (∃m' A,SG w0 (w'.setCell ⟨g,10,none⟩ (.slice A' (s.acts.length+1) c')) B g pb pc oA oc mp dv A m' (Oc.spawnAt s i))):=aJ (fun W v' w' h1 h2 h3=>by
   obtain⟨A',c',rfl,_,_⟩:=h2.shape;obtain⟨e1,e2,e3⟩:=(l.out.up h1).act (a:=⟨1,(Oc.p s i).j.nm,f.inc⟩) h2 h3;have e5:Oc.spawnAt s i={setP s i ⟨(Oc.p s i).j,f,[]⟩ with acts:=s.acts++[⟨1,(Oc.p s i).j.nm,f.inc⟩]}:=by unfold Oc.spawnAt;rw[H.out];rfl
   have e6:∃m' A,SG w0 (w'.setCell ⟨g,10,none⟩ (.slice A' (s.acts.length+1) c')) B g pb pc oA oc mp dv A m' (Oc.spawnAt s i):=by rw[e5];exact⟨_,_,e3⟩
   exact⟨A',c',rfl,e1,e2,aJ e6⟩)
  have G:Hid (∀W,Old u W→Own W B.n 54 8 (.slice z s.acts.length ac) s.acts.length (ej s.acts)∧B.n≤W.heap.size):=aJ (fun W K=>⟨(l.out.up K).acts,(l.out.up K).BB.2⟩)
  have gl:g<u.heap.size:=aQ l.out.st
  have pl:pb<u.heap.size:=l.out.pl.elim fun cur hc=>aQ hc.1
  clear l C H b;generalize (Oc.p s i).j.nm=nm at *;go_region_law ((refine eG _ (by rfl) _ _ 49 (by rfl) B.n 54 (.agg #[.int .i64 0,.string ⟨#[]⟩,.int .i64 0,.slice none 0 0,.int .i64 0,.int .i64 0,.int .i64 0,.int .i64 0]) 8 88 Tryz.underlying49 mT rfl (by decide) (by decide) (.slice z s.acts.length ac) s.acts.length (ej s.acts) (by rfl) (G.out _ aS).1 u.heap.size 0 1 1 [.int .i64 1,.string nm,.int .i64 f.inc,.slice none 0 0,.int .i64 0,.int .i64 0,.int .i64 0,.int .i64 0] (by rfl) (by first|exact fg _ _ _|exact(fg _ _ _).drew) rfl rfl (by have:=O.out;omega) (G.out _ aS).2 ?_;intro v' w' K hg R;obtain⟨A',c',rfl,e3,_,HX⟩:=P.out _ _ _ aS K hg;clear K hg R))
  all_goals (go_wp2_with fail;go_ret;exact⟨rfl,HX.out⟩)
theorem qT {α:Type} {P:α→Bool}:∀{l:List α} {i:Nat} {v:α} (h:i<l.length),P l[i]=true→P v=false→((l.set i v).filter P).length+1=(l.filter P).length:=by
 intro l
 induction l with
 |nil=>intro i v h;simp at h
 |cons x l ih=>
  intro i v h h1 h2;cases i with
  |zero=>simp at h1;simp[h1,h2]
  |succ i=>
   simp at h h1
   have:=ih (v:=v) h h1 h2
   by_cases hx:P x=true
   ·simp[hx];omega
   ·simp[hx];omega
def C1 (s:Oc.St):Prop:=∀i,i<s.pl.length→(Oc.p s i).x.times.length≤68719476000
theorem qS {s:Oc.St} {i:Nat} (h:(Oc.order s).find? (Oc.spawnable s)=some i):i<s.pl.length∧(Oc.p s i).x.ph=1:=by
 have h1:=(Gp.order_lt (Oc.jobs s)).1 i (List.mem_of_find?_eq_some h)
 rw[gv] at h1;have h2:=List.find?_some h;unfold Oc.spawnable at h2;simp at h2;exact⟨h1,h2.1⟩
theorem lN {s:Oc.St} {i:Nat} (h:(Oc.order s).find? (Oc.spawnable s)=some i):Oc.idle (Oc.spawnAt s i)+1=Oc.idle s:=by
 obtain⟨b,a⟩:=qS h;have e:Oc.p s i=s.pl[i]:=by unfold Oc.p;rw[bD,bE b];rfl
 unfold Oc.idle Oc.spawnAt;refine qT b ?_ ?_
 ·rw[e] at a;simp[a]
 ·simp[Lf.spawn,a]
theorem uj {s:Oc.St} (h:(Oc.order s).find? (Oc.spawnable s)=none):Oc.calm s=s:=by
 unfold Oc.calm;cases Oc.idle s with
 |zero=>rfl
 |succ k=>rw[Oc.settle,h]
theorem ui {s:Oc.St} {i:Nat} (h:(Oc.order s).find? (Oc.spawnable s)=some i):Oc.calm s=Oc.calm (Oc.spawnAt s i):=by
 have e:=lN h
 unfold Oc.calm;rw[←e,Oc.settle,h]
theorem tD {s:Oc.St} (b:C1 s) (i:Nat):C1 (Oc.spawnAt s i):=by
 intro k hk;have a:k<s.pl.length:=by simpa [Oc.spawnAt] using hk
 by_cases e:k=i
 ·subst e;rw[show Oc.p (Oc.spawnAt s k) k=⟨(Oc.p s k).j,(Lf.spawn (Oc.p s k).x).1,[]⟩ by simp[Oc.spawnAt,Oc.p,a]]
  have:=b k a
  unfold Lf.spawn;simp only;split
  ·exact this
  ·exact this
 ·rw[show Oc.p (Oc.spawnAt s i) k=Oc.p s k by
   simp only[Oc.spawnAt,Oc.p,bD];rw[List.getElem?_set_ne (by omega)]]
  exact b k a
def pE (w:World) (pb n:Nat):Nat:=((List.range n).filter (fun i=>match w.cell? ⟨pb,i*28+15,none⟩ with|some v=>decide (intOf v=1)|none=>false)).length
theorem SG.idle {w0 w:World} {B:BP} {g pb pc:Nat} {oA:Option Addr} {oc:Nat} {mp dv av:Value} {m:Nat→Pm} {s:Oc.St} (h:SG w0 w B g pb pc oA oc mp dv av m s):pE w pb s.pl.length=Oc.idle s:=by
 have e:s.pl=(List.range s.pl.length).map (Oc.p s):=by
  apply List.ext_getElem
  ·simp
  ·intro i h1 h2;simp[Oc.p,bD,bE h1]
 have a:Oc.idle s=((List.range s.pl.length).filter ((fun q:Oc.Pl=>q.x.ph==1)∘Oc.p s)).length:=by
  unfold Oc.idle
  conv=>lhs;rw[e]
  rw[List.filter_map,bL]
 rw[a];unfold pE
 congr 1
 apply List.filter_congr;intro i b;rw[(h.pcell (List.mem_range.mp b) 15 (v:= .int .i64 (Oc.p s i).x.ph) (by decide) rfl).1]
 show decide ((Oc.p s i).x.ph=1)=((Oc.p s i).x.ph==1)
 by_cases h1:(Oc.p s i).x.ph=1<;>simp[h1]
theorem qz (g:Nat) (w:World) (h:w.cell? ⟨g,7,none⟩=some (.bool false)):Calls Tryz.prog 37 #[.pointer (some ⟨g,0,none⟩)] w fun e w'=>e= .returned (.bool false)∧w'=w:=by
 go_enter Tryz.func37,Tryz.ntmps37
 go_wp2_with fail;go_ret;exact⟨rfl,rfl⟩
theorem yv (g:Nat) (w:World) (h:w.cell? ⟨g,5,none⟩=some (.bool false)):Calls Tryz.prog 38 #[.pointer (some ⟨g,0,none⟩)] w fun e w'=>e= .returned (.bool false)∧w'=w:=by
 go_enter Tryz.func38,Tryz.ntmps38
 go_wp2_with fail;go_ret;exact⟨rfl,rfl⟩
theorem tz (g:Nat) (w:World) (h:w.cell? ⟨g,5,none⟩=some (.bool false)):Calls Tryz.prog 40 #[.pointer (some ⟨g,0,none⟩)] w fun e w'=>e= .returned (.bool false)∧w'=w:=by
 go_enter Tryz.func40,Tryz.ntmps40
 go_wp2_with fail;go_ret;exact⟨rfl,rfl⟩
def xd (w0:World) (B:BP) (g pb pc:Nat) (oA:Option Addr) (oc:Nat) (mp dv:Value) (n:Nat) (R:Oc.St) (W:World):Prop:=
 ∃m av s,SG w0 W B g pb pc oA oc mp dv av m s∧Oc.calm s=R∧C1 s∧s.acts.length+Oc.idle s≤1000000∧s.pl.length=n
theorem jU {w0 w:World} {B:BP} {g pb pc:Nat} {oA:Option Addr} {oc:Nat} {mp dv av:Value} {m:Nat→Pm} {s:Oc.St} (h:SG w0 w B g pb pc oA oc mp dv av m s) (l:C1 s) (ha:s.acts.length+Oc.idle s≤1000000):
  Calls Tryz.prog 20 #[.pointer (some ⟨g,0,none⟩)] w fun e w'=>e= .returned (.tuple #[])∧∃f b,SG w0 w' B g pb pc oA oc mp dv b f (Oc.calm s):=by
 have r:Hid (xd w0 B g pb pc oA oc mp dv s.pl.length (Oc.calm s) w):=aJ ⟨m,av,s,h,rfl,l,ha,rfl⟩
 clear h l ha;generalize Oc.calm s=R at *;generalize s.pl.length=n at *;go_enter Tryz.func20,Tryz.ntmps20;go_wp2_with fail;go_loopw [] (fun wr=>xd w0 B g pb pc oA oc mp dv n R wr) (fun wr=>pE wr pb n)
 case atStart=>exact r.out
 case round=>
  obtain⟨m,av,s,h,q,l,ha,hn⟩:=hrel;clear r;have d:=aJ (qz g wr (h.cell 7 rfl).1);have c:=aJ (yv g wr (h.cell 5 rfl).1);have a:=aJ (vm h l (by omega))
  unfold rh at a;cases j:(Oc.order s).find? (Oc.spawnable s) with
  |none=>
   rw[j] at a;simp only at a;have o:=aJ (tz g wr (h.cell 5 rfl).1);have p:Hid (∃f b,SG w0 wr B g pb pc oA oc mp dv b f R):=aJ (by rw[←q,uj j];exact⟨_,_,h⟩)
   clear h q l ha hn j;go_wp2_with fail;refine(d.out).mono ?_;rintro e w' ⟨rfl,rfl⟩;go_wp2_with fail;refine(c.out).mono ?_;rintro e w' ⟨rfl,rfl⟩;go_wp2_with fail;refine(a.out).mono ?_;rintro e w' ⟨rfl,rfl⟩;go_wp2_with fail;refine(o.out).mono ?_;rintro e w' ⟨rfl,rfl⟩;clear d c a o;go_wp2_with fail;go_end0;exact⟨rfl,p.out⟩
  |some i=>
   rw[j] at a;simp only at a;have p:Hid (∀W f b,SG w0 W B g pb pc oA oc mp dv b f (Oc.spawnAt s i)→xd w0 B g pb pc oA oc mp dv n R W∧pE W pb n<pE wr pb n):=aJ (fun W f b h2=>by
    have k:(Oc.spawnAt s i).pl.length=n:=by rw[←hn];simp[Oc.spawnAt]
    have e:=lN j
    refine⟨⟨f,b,_,h2,by rw[←ui j];exact q,tD l i,?_,k⟩,?_⟩
    ·have:(Oc.spawnAt s i).acts.length=s.acts.length+1:=by simp[Oc.spawnAt]
     omega
    ·rw[←k,h2.idle,k,←hn,h.idle];omega)
   clear h q l ha hn j;go_wp2_with fail;refine(d.out).mono ?_;rintro e w' ⟨rfl,rfl⟩;go_wp2_with fail;refine(c.out).mono ?_;rintro e w' ⟨rfl,rfl⟩;go_wp2_with fail;refine(a.out).mono ?_;rintro e w' ⟨rfl,f,b,h2⟩;have t:=aJ (p.out _ _ _ h2);clear d c a p h2;go_wp2_with fail;go_roundw
   case rel=>exact t.out.1
   case measure=>exact t.out.2
section
variable {w0 w w' : World} {B : BP} {g pb pc : Nat} {oA : Option Addr} {oc : Nat} {mp dv av : Value} {m : Nat → Pm} {s : Oc.St}
theorem vn (g:Nat) (i:Int) (w:World):Calls Tryz.prog 86 #[.pointer (some ⟨g,0,none⟩),.int .i64 i,.int .i64 0] w fun e w'=>e= .returned (.tuple #[])∧w'=w:=by
 go_enter Tryz.func86,Tryz.ntmps86
 go_wp2_with fail;go_end0;exact⟨rfl,rfl⟩
theorem mL (h:SG w0 w B g pb pc oA oc mp dv av m s):Calls Tryz.prog 81 #[.pointer (some ⟨g,0,none⟩)] w fun e w'=>e= .returned (.int .u64 (Oc.jitter s))∧w'=w:=by
 obtain⟨A,c,rfl,a,_,_⟩:=h.rows.draws.shape;obtain⟨c4,_⟩:=h.cell 4 (v:= .slice A s.draws.length c) rfl;unfold Oc.jitter;cases i:s.draws with
 |nil=>
  rw[i] at c4;clear h a;simp only[List.length_nil] at c4;go_enter Tryz.func81,Tryz.ntmps81;go_wp2_with fail;go_ret;exact⟨rfl,rfl⟩
 |cons d l=>
  rw[i] at c4 a;obtain⟨b,off,rfl,_,hc⟩:=a.rs.at_ (by simp[ax])
  have f:=hc 0 (.int .u64 d) rfl
  replace f:w.cell? ⟨b,off,none⟩=some (.int .u64 d):=f
  have j:(((l.length:Int)+1)==0)=false:=by rw[beq_eq_false_iff_ne];omega
  have k:(0:Int)<(l.length:Int)+1:=by omega
  clear hc a h;rw[List.headD_cons];rw[List.length_cons] at c4;go_enter Tryz.func81,Tryz.ntmps81;go_wp2_with fail;go_ret;exact⟨rfl,rfl⟩
theorem SG.taken (h:SG w0 w B g pb pc oA oc mp dv av m s) {A:Option Addr} {c:Nat} (o:av= .slice A s.acts.length c):SG w0 (w.setCell ⟨g,10,none⟩ (.slice none 0 0)) ⟨w.heap.size,B.pa++[(A,ej s.acts)],B.ps⟩ g pb pc oA oc mp dv (.slice none 0 0) m {s with acts:=[]}:=by
 obtain⟨cur,t,hs,hc⟩:=h.pl;have b:=aD w g 10 (.slice none 0 0);refine⟨h.old.setCell (p:=⟨g,10,none⟩) h.gB _,h.gB,h.pB,?_,⟨cur,(aL w ⟨g,10,none⟩ pb _ h.gk).trans t,hs,hc⟩,h.pc,?_,Own.nil_ _ _ _ _,⟨h.old.size,b.size⟩,h.few,?_,?_,fun r j=>(h.pastS r j).farG h.st b (by decide)⟩
 ·rw[aO w g 10 _ _ _ h.st];rfl
 ·have:=h.rows.farG h.st b (bY (bX rfl))
  exact⟨this.ord,this.jm,this.times,this.needs,this.deps,this.outs,this.draws,this.ap⟩
 ·obtain⟨u,k2,hm,i⟩:=h.map;exact⟨u,k2,hm,i.farG h.st b⟩
 ·intro r j;rcases List.mem_append.mp j with h1|h1
  ·obtain⟨h2,n⟩:=h.pastA r h1;exact⟨h2.farG h.st b (by decide),fun q off fz e=>Nat.lt_of_lt_of_le (n q off fz e) h.BB.2⟩
  ·obtain rfl:r=(A,ej s.acts):=by simpa using h1
   obtain⟨A2,c2,f,k,_,_⟩:=h.acts.shape;have a:=h.acts;rw[o] at a f;simp only[Value.slice.injEq] at f;obtain⟨rfl,_,_⟩:=f;refine⟨k.farG h.st b (by decide),fun q off fz e=>?_⟩
   simp only at e
   subst e;rcases df a with d|⟨x,l,d,_,y⟩
   ·simp[Value.ownBlock] at d
   ·have:=(bU a x d).2
    simp[Value.ownBlock] at d
    show q<w.heap.size
    omega
theorem SG.stat (h:SG w0 w B g pb pc oA oc mp dv av m s) {A:Option Addr} {xs:List Value} (a:Ts w 46 A xs):SG w0 w ⟨B.n,B.pa,B.ps++[(A,xs)]⟩ g pb pc oA oc mp dv av m s:=
 ⟨h.old,h.gB,h.pB,h.st,h.pl,h.pc,h.rows,h.acts,h.BB,h.few,h.map,h.pastA,fun r b=>by
  rcases List.mem_append.mp b with h1|h1
  ·exact h.pastS r h1
  ·obtain rfl:r=(A,xs):=by simpa using h1
   exact a⟩
theorem pi (h:SG w0 w B g pb pc oA oc mp dv av m s):Calls Tryz.prog 21 #[.pointer (some ⟨g,0,none⟩)] w fun e w'=>e= .returned av∧w'=w.setCell ⟨g,10,none⟩ (.slice none 0 0):=by
 obtain⟨A,c,rfl,_,_⟩:=h.acts.shape;obtain⟨_,_⟩:=h.cell 10 (v:= .slice A s.acts.length c) rfl;clear h;go_enter Tryz.func21,Tryz.ntmps21;go_wp2_with fail;go_ret;exact⟨rfl,rfl⟩
end
namespace Oc
structure JOk (j:Jd):Prop where
 few:j.lad.length≤5
 lad:Ld.Ok j.lad
 base:Tk.U j.base
 cap:Tk.U j.cap
 stable:Tk.U j.stable
 win:Tk.U j.win
 pat:j.hasR=true→(bz (bs j.ready)).2=0∧NoB j.ready
 nm:j.nm.size≤1000000
structure PlOk (K:Nat) (q:Pl):Prop where
 j:JOk q.j
 x:Lf.Ok q.x
 t:q.x.times.length≤K
 rung:q.x.armed=true→0≤q.x.rung∧q.x.rung≤q.j.lad.length
 o:(∀b∈q.out,b<256)∧q.out.length≤K
structure I (K:Nat) (s:St):Prop where
 pl:∀i,i<s.pl.length→PlOk K (p s i)
 now:Tk.U s.now
 dr:(∀v∈s.draws,Tk.U v)∧s.draws.length≤64
theorem PlOk.mono {K a:Nat} {q:Pl} (h:PlOk K q) (hk:K≤a):PlOk a q:=⟨h.j,h.x,bN h.t hk,h.rung,h.o.1,bN h.o.2 hk⟩
theorem I.mono {K a:Nat} {s:St} (h:I K s) (hk:K≤a):I a s:=⟨fun i b=>(h.pl i b).mono hk,h.now,h.dr⟩
theorem U_jit {K:Nat} {s:St} (h:I K s):Tk.U (jitter s):=by
 unfold jitter;cases a:s.draws with
 |nil=>exact Lf.U0
 |cons v l=>exact h.dr.1 v (by rw[a];simp)
theorem I.set {K:Nat} {s s':St} {i:Nat} {q:Pl} (h:I K s) (b:s'.pl=s.pl.set i q) (d:PlOk K q) (hn:Tk.U s'.now) (c:(∀v∈s'.draws,Tk.U v)∧s'.draws.length≤64):I K s':=by
 refine⟨fun k hk=>?_,hn,c⟩
 have a:k<s.pl.length:=by rw[b] at hk;simpa using hk
 unfold p;rw[b,bD]
 by_cases e:k=i
 ·subst e;simp[a,d]
 ·rw[List.getElem?_set_ne (by omega),←bD]
  exact h.pl k a
theorem I.same {K:Nat} {s s':St} (h:I K s) (a:s'.pl=s.pl) (hn:Tk.U s'.now) (b:(∀v∈s'.draws,Tk.U v)∧s'.draws.length≤64):I K s':=by
 refine⟨fun k hk=>?_,hn,b⟩
 unfold p;rw[a];exact h.pl k (by rw[a] at hk;exact hk)
def Rg (J:Lf.J) (x:Lf.T):Prop:=x.armed=true→0≤x.rung∧x.rung≤J.lad.length
theorem jq {J:Lf.J} (x:Lf.T) (v:Int):Rg J (Lf.rest x v):=fun h=>by cases h
theorem oS {J:Lf.J} (x:Lf.T):Rg J (Lf.ended x):=by unfold Lf.ended;split<;>exact jq _ _
theorem vr {l:List (Int×Int)} {n at_:Int} (h:(Ld.next l n at_).2.2=true):0≤n∧n<l.length:=by
 unfold Ld.next at h;split at h
 ·cases h
 ·split at h
  ·cases h
  ·omega
theorem oT {J:Lf.J} (a:J.lad.length≤5) (x:Lf.T) (now:Int):Rg J (Lf.climb J x now).1:=by
 intro h;have h2:(Ld.next J.lad x.rung now).2.2=true:=h;obtain⟨_,_⟩:=vr h2
 show 0≤wrap64 (x.rung+1)∧wrap64 (x.rung+1)≤J.lad.length
 have e:wrap64 (x.rung+1)=x.rung+1:=by unfold wrap64;omega
 rw[e];omega
theorem rH {J:Lf.J} {x:Lf.T} (h:Rg J x) (now jit:Int):Rg J (Lf.over J x now jit).1:=by
 unfold Lf.over;simp only;split
 ·exact h
 ·exact jq _ _
theorem qp {J:Lf.J} (a:J.lad.length≤5) {x:Lf.T} (h:Rg J x) (ok ready:Bool) (now jit:Int):Rg J (Lf.spawned J x ok ready now jit).1:=by
 unfold Lf.spawned;split
 ·exact h
 ·split
  ·split
   ·exact oS _
   ·split
    ·exact jq _ _
    ·exact rH h _ _
  ·split
   ·exact oT a _ _
   ·exact h
theorem yh {J:Lf.J} {x:Lf.T} (h:Rg J x) (code now jit:Int):Rg J (Lf.exit J x code now jit).1:=by
 unfold Lf.exit;split
 ·simp only
  split
  ·refine rH ?_ _ _;split<;>exact h
  ·split<;>exact jq _ _
 ·split
  ·exact oS _
  ·exact h
theorem qr {J:Lf.J} {x:Lf.T} (h:Rg J x):Rg J (Lf.matched x):=by unfold Lf.matched;split<;>exact h
theorem rI {J:Lf.J} (a:J.lad.length≤5) {x:Lf.T} (h:Rg J x):Rg J (Lf.fire J x).1:=by
 unfold Lf.fire;split
 ·exact jq _ _
 ·split
  ·exact oT a _ _
  ·exact h
theorem uX {J:Lf.J} {x:Lf.T} (h:Rg J x):Rg J (Lf.spawn x).1:=by unfold Lf.spawn;split<;>exact h
theorem ok_spawn {K:Nat} {q:Pl} (h:PlOk K q):PlOk K ⟨q.j,(Lf.spawn q.x).1,[]⟩:=
 ⟨h.j,Lf.ok_spawn h.x,by rw[Lf.len_spawn];exact h.t,uX (J:=lj q.j) h.rung,⟨fun b a=>by simp at a,bO _⟩⟩
theorem ok_spawned {K:Nat} {q:Pl} (h:PlOk K q) (ok ready:Bool) {now jit:Int} (hn:Tk.U now) (a:Tk.U jit):PlOk (K+1) ⟨q.j,(Lf.spawned (lj q.j) q.x ok ready now jit).1,q.out⟩:=
 ⟨h.j,Lf.ok_spawned h.x h.j.lad h.j.base h.j.cap hn a,bN (Lf.len_spawned _ _ _ _ _ _) (Nat.succ_le_succ h.t),qp (J:=lj q.j) h.j.few h.rung _ _ _ _,h.o.1,Nat.le_succ_of_le h.o.2⟩
theorem ok_exit {K:Nat} {q:Pl} (h:PlOk K q) (code:Int) {now jit:Int} (hn:Tk.U now) (a:Tk.U jit):PlOk (K+1) ⟨q.j,(Lf.exit (lj q.j) q.x code now jit).1,q.out⟩:=
 ⟨h.j,Lf.ok_exit h.x h.j.base h.j.cap hn a,bN (Lf.len_exit _ _ _ _ _) (Nat.succ_le_succ h.t),yh (J:=lj q.j) h.rung _ _ _,h.o.1,Nat.le_succ_of_le h.o.2⟩
theorem ok_fire {K:Nat} {q:Pl} (h:PlOk K q):PlOk K ⟨q.j,(Lf.fire (lj q.j) q.x).1,q.out⟩:=
 ⟨h.j,Lf.ok_fire h.x h.j.lad,by rw[Lf.len_fire];exact h.t,rI (J:=lj q.j) h.j.few h.rung,h.o⟩
theorem qo:∀(f:Nat) (s:St),(settle f s).pl.length=s.pl.length:=by
 intro f
 induction f with
 |zero=>intro s;rfl
 |succ f ih=>
  intro s;unfold settle;split
  ·rfl
  ·rw[ih];simp[spawnAt]
theorem wJ (s:St):(calm s).pl.length=s.pl.length:=qo _ _
theorem I.spawnAt {K:Nat} {s:St} (h:I K s) {i:Nat} (a:i<s.pl.length):I K (spawnAt s i):=h.set (i:=i) rfl (ok_spawn (h.pl i a)) h.now h.dr
theorem I.settle {K:Nat}:∀(f:Nat) {s:St},I K s→I K (settle f s):=by
 intro f
 induction f with
 |zero=>intro s h;exact h
 |succ f ih=>
  intro s h;unfold Oc.settle;split
  ·exact h
  ·next i hf=>
   refine ih (h.spawnAt ?_);have h1:=(Gp.order_lt (jobs s)).1 i (List.mem_of_find?_eq_some hf);simpa [jobs] using h1
theorem I.calm {K:Nat} {s:St} (h:I K s):I K (calm s):=h.settle _
theorem xR {l:List Nat}:∀{i v:Nat} (h:i<l.length),(l.set i v).sum+l[i]=l.sum+v:=by
 induction l with
 |nil=>intro i v h;simp at h
 |cons x l ih=>
  intro i v h;cases i with
  |zero=>simp;omega
  |succ i=>
   simp at h
   have:=ih (v:=v) h
   simp;omega
theorem rq {s s':St} {i:Nat} {q:Pl} (b:s'.pl=s.pl.set i q) (a:i<s.pl.length):wtS s'+wt (p s i)=wtS s+wt q:=by
 unfold wtS;rw[b,List.map_set];have:=xR (l:=s.pl.map wt) (i:=i) (v:=wt q) (by simpa using a)
 rw[List.getElem_map] at this;have e:p s i=s.pl[i]:=by unfold p;rw[bD,bE a];rfl
 rw[e];exact this
theorem oy (q:Pl) (h:q.x.ph=1):wt ⟨q.j,(Lf.spawn q.x).1,[]⟩≤wt q:=by
 unfold Lf.spawn;rw[if_pos h];unfold wt;simp
theorem pX:∀(f:Nat) (s:St),wtS (settle f s)≤wtS s:=by
 intro f
 induction f with
 |zero=>intro s;exact bM _
 |succ f ih=>
  intro s;unfold settle;split
  ·exact bM _
  ·next i hf=>
   refine bN (ih _) ?_;have h1:=(Gp.order_lt (jobs s)).1 i (List.mem_of_find?_eq_some hf);have a:i<s.pl.length:=by simpa [jobs] using h1
   have h2:=List.find?_some hf
   unfold spawnable at h2;simp at h2;have b:=rq (s:=s) (s':=spawnAt s i) (i:=i) rfl a;have c:=oy (p s i) h2.1;omega
theorem early_some {s:St} {t:Int}:∀{k i:Nat},early s t k=some i→i<k∧waits (p s i)=true∧(p s i).x.due≤t:=by
 intro k
 induction k with
 |zero=>intro i h;cases h
 |succ k ih=>
  intro i h;unfold early at h;split at h
  ·split at h
   ·next h2=>cases h;exact⟨Nat.lt_succ_self _,h2.1,h2.2⟩
   ·cases h
  ·next b hb=>
   split at h
   ·next h2=>cases h;exact⟨Nat.lt_succ_self _,h2.1,h2.2.1⟩
   ·cases h;have:=ih hb
    exact⟨by omega,this.2⟩
theorem ro {K:Nat} {q:Pl} (h:PlOk K q) (f:waits q=true):wt ⟨q.j,(Lf.fire (lj q.j) q.x).1,q.out⟩<wt q:=by
 unfold waits at f
 by_cases b:q.x.ph=5
 ·unfold Lf.fire;rw[if_pos b];unfold wt;simp[Lf.rest,b]
 ·have a:q.x.ph=6∧q.x.armed=true:=by simpa [b] using f
  have k:=h.rung a.2
  have c:=rI (J:=lj q.j) h.j.few (x:=q.x) h.rung
  unfold Lf.fire at c ⊢;rw[if_neg b,if_pos a] at c ⊢;have d:(Lf.climb (lj q.j) q.x q.x.due).1.ph=6:=a.1;have e:(Lf.climb (lj q.j) q.x q.x.due).1.rung=q.x.rung+1:=by
   show wrap64 (q.x.rung+1)=_
   have:=h.j.few
   unfold wrap64;omega
  unfold wt
  by_cases ha:(Lf.climb (lj q.j) q.x q.x.due).1.armed=true
  ·have g:=c ha
   rw[e] at g;have i:(lj q.j).lad.length=q.j.lad.length:=rfl;simp[d,e,a.1,a.2,ha];omega
  ·simp[d,a.1,a.2,ha];omega
theorem nz (s:St) (i:Nat) (n:Int):(send s i n).pl=s.pl:=by unfold send;split<;>rfl
theorem oO (s:St) (i:Nat) (n:Int):(send s i n).now=s.now:=by unfold send;split<;>rfl
theorem lw (s:St) (i:Nat) (n:Int):(send s i n).draws=s.draws:=by unfold send;split<;>rfl
def fired (s:St) (i:Nat):St:=
 let s1:St:={s with now:=max s.now (p s i).x.due}
 send (setX s1 i (Lf.fire (lj (p s i).j) (p s i).x).1) i (Lf.fire (lj (p s i).j) (p s i).x).2
theorem mV (s:St) (i:Nat):fireAt s i=calm (fired s i):=rfl
theorem lP (s:St) (i:Nat):(fired s i).pl=s.pl.set i ⟨(p s i).j,(Lf.fire (lj (p s i).j) (p s i).x).1,(p s i).out⟩:=by
 unfold fired;simp only[nz];rfl
theorem I.fired {K:Nat} {s:St} (h:I K s) {i:Nat} (a:i<s.pl.length):I K (fired s i):=by
 refine h.set (lP s i) (ok_fire (h.pl i a)) ?_ ?_
 ·unfold Oc.fired;simp only[oO];exact Bu.max_U h.now (h.pl i a).x.2.1
 ·unfold Oc.fired;simp only[lw];exact h.dr
theorem I.fireAt {K:Nat} {s:St} (h:I K s) {i:Nat} (a:i<s.pl.length):I K (fireAt s i):=(h.fired a).calm
theorem wtS_fire {K:Nat} {s:St} (h:I K s) {t:Int} {i:Nat} (b:early s t s.pl.length=some i):wtS (fireAt s i)<wtS s:=by
 obtain⟨a,c,_⟩:=early_some b;have h1:=rq (lP s i) a;have h2:=ro (h.pl i a) c;have d:=pX (idle (fired s i)) (fired s i);have e:wtS (fireAt s i)=wtS (settle (idle (fired s i)) (fired s i)):=rfl;omega
theorem uJ {K:Nat} {t:Int}:∀(f a:Nat) {s:St},I K s→wtS s<f→wtS s<a→ig t f s=ig t a s:=by
 intro f
 induction f with
 |zero=>intro a s h c;omega
 |succ f ih=>
  intro a s h c d;cases a with
  |zero=>omega
  |succ a=>
   rw[ig,ig];cases b:early s t s.pl.length with
   |none=>rfl
   |some i=>
    simp only
    obtain⟨e,_⟩:=early_some b;have h1:=wtS_fire h b;exact ih a (h.fireAt e) (by omega) (by omega)
theorem tick_none {s:St} {t:Int} (a:early s t s.pl.length=none):tick s t={s with now:=t}:=by
 unfold tick;rw[ig,a]
theorem tick_some {K:Nat} {s:St} (h:I K s) {t:Int} {i:Nat} (a:early s t s.pl.length=some i):tick s t=tick (fireAt s i) t:=by
 have h1:=wtS_fire h a
 unfold tick;rw[ig,a];exact uJ _ _ (h.fireAt (early_some a).1) h1 (by omega)
end Oc
theorem dS:∀(l:List Value) (w:World) (k i:Nat),w.setCells k i l=putN w k i l:=by
 intro l
 induction l with
 |nil=>intro w k i;rfl
 |cons v l ih=>intro w k i;exact ih _ _ _
theorem yd (l:List Value) (cur:Array Value) (hs:cur.size=l.length):kK cur 0 l=l.toArray:=by
 apply Array.ext_getElem?;intro j
 by_cases hj:j<l.length
 ·have:=nB l cur 0 j hj (by omega)
  rw[Nat.zero_add] at this;rw[this];simp
 ·rw[Array.getElem?_eq_none (by rw[jO];omega),Array.getElem?_eq_none (by simp;omega)]
theorem zl {w:World} {k:Nat} {t:TypeId} {cur:Array Value} {l:List Value} (h:w.heap[k]? =some (.cells cur t (0,0))) (hs:cur.size=l.length):(w.setCells k 0 l).heap[k]? =some (.cells l.toArray t (0,0)):=by
 rw[dS,lC (w:=w) l w cur 0 h,yd l cur hs]
theorem sU {w:World} {cur:Array Value} {t:TypeId} {n:Nat} (hn:n≤cur.size):(w.alloc (.cells cur t)).there w.heap.size 0 n:=fun j hj=>by
 have h:=aM w (.cells cur t)
 rw[Nat.zero_add];exact⟨by rw[aK _ _ j _ _ _ h,Array.getElem?_eq_getElem (by omega)];rfl,aN _ _ j _ _ h⟩
section
variable {P : Program} {w : World} {ops : Array Oper} {rest : List Oper} {o : Oper} {a : Act} {Q : Exit → Act → World → Prop}
theorem dm {wr:World} (c:o.guard=none) (b:TypeId) (x y:Operand) (f:o.op= .store b x y) (cur:Array Value) (g:w=wr.alloc (.cells cur b)) (cells:List Value) (hx:a.eval x= .pointer (some ⟨wr.heap.size,0,none⟩)) (hy:a.eval y= .agg cells.toArray)
  (e:(P.info? b).map (·.size)=some cells.length) (hs:cur.size=cells.length) (h1:cells.toArray.all (·.oneCell')=true)
  (h:∀d,Old wr d→d.heap[wr.heap.size]? =some (.cells cells.toArray b (0,0))→wpList P ops Q rest (a.put o.dst aR) d):wpList P ops Q (o::rest) a w:=by
 subst g;refine wpList_store_mid c b x y f wr.heap.size 0 cells.toArray hx hy (sU (by simp;omega)) (by simpa using e) h1 ?_
 refine h _ ?_ (zl (aM wr _) hs)
 show Old wr ((wr.alloc (.cells cur b)).setCells wr.heap.size 0 cells)
 rw[dS];exact((Old.refl wr).alloc _).putN (bM _) _ _
end
section
variable {w0 w w' : World} {B : BP} {g pb pc : Nat} {oA : Option Addr} {oc : Nat} {mp dv av : Value} {m : Nat → Pm} {s : Oc.St}
def zS (pb pc:Nat) (oA:Option Addr) (oc:Nat) (mp dv av:Value) (s:Oc.St):Array Value:=#[.slice (some ⟨pb,0,none⟩) s.pl.length pc,.slice oA (Oc.order s).length oc,mp,.int .u64 s.now,dv,.bool false,.bool false,.bool false,.slice none 0 0,.map none,av]
theorem SG.gset {dv' b:Value} {s':Oc.St} (h:SG w0 w B g pb pc oA oc mp dv av m s) (k:Nat) (v:Value) (f:s'.pl=s.pl) (j:Qw w w0.heap.size 29 dv' s'.draws.length (ax s'.draws)) (ha:Own w B.n 54 8 b s'.acts.length (ej s'.acts))
  (hc:(zS pb pc oA oc mp dv av s).setIfInBounds k v=zS pb pc oA oc mp dv' b s'):SG w0 (w.setCell ⟨g,k,none⟩ v) B g pb pc oA oc mp dv' b m s':=by
 obtain⟨pl,now,dr,ac⟩:=s;obtain⟨_,_,_,_⟩:=s';simp only at f;subst f;obtain⟨cur,i,hs,d⟩:=h.pl;have a:=aD w g k v;have R:=h.rows.farG h.st a (bY (bX rfl));refine⟨h.old.setCell (p:=⟨g,k,none⟩) h.gB _,h.gB,h.pB,?_,⟨cur,(aL w ⟨g,k,none⟩ pb _ h.gk).trans i,hs,d⟩,h.pc,⟨R.ord,R.jm,R.times,R.needs,R.deps,R.outs,j.farG h.st a (by decide),R.ap⟩,ha.farG h.st a (by decide),⟨h.BB.1,bN h.BB.2 a.size⟩,h.few,?_,fun r c=>⟨(h.pastA r c).1.farG h.st a (by decide),(h.pastA r c).2⟩,fun r c=>(h.pastS r c).farG h.st a (by decide)⟩
 ·rw[aO w g k _ _ _ h.st];exact congrArg (fun z=>some (Obj.cells z _ _)) hc
 ·obtain⟨l,k2,hm,e⟩:=h.map;exact⟨l,k2,hm,e.farG h.st a⟩
theorem SG.now (h:SG w0 w B g pb pc oA oc mp dv av m s) (t:Int):SG w0 (w.setCell ⟨g,3,none⟩ (.int .u64 t)) B g pb pc oA oc mp dv av m {s with now:=t}:=
 h.gset (s':={s with now:=t}) 3 _ rfl h.rows.draws h.acts rfl
theorem SG.cut (h:SG w0 w B g pb pc oA oc mp dv av m s) {dv':Value} {l:List Int} (a:Qw w w0.heap.size 29 dv' l.length (ax l)):SG w0 (w.setCell ⟨g,4,none⟩ dv') B g pb pc oA oc mp dv' av m {s with draws:=l}:=
 h.gset (s':={s with draws:=l}) 4 _ rfl a h.acts rfl
theorem ju {a:Nat} {e:TypeId} {v:Value} {n:Nat} {xs:List Value} (h:Qw w a e v n xs):v.ownBlock=none∨∃q cur,v.ownBlock=some q∧a≤q∧w.heap[q]? =some (.cells cur e (0,0)):=by
 rcases h.2 with⟨rfl,_⟩|⟨q,off,cap,cur,rfl,c,b,_⟩
 ·exact bX rfl
 ·exact bY ⟨q,cur,by simp[Value.ownBlock],c,b⟩
theorem SG.draw (h:SG w0 w B g pb pc oA oc mp dv av m s) (O:∀i,i<s.pl.length→(Oc.p s i).x.times=[]) {dv':Value} {t:Int} (P:Qw w' w0.heap.size 29 dv' (s.draws.length+1) (ax s.draws++[.int .u64 t])) (c:w.grownBy w' dv.ownBlock):
  w'.cell? ⟨g,4,none⟩=some dv∧w'.frozen? ⟨g,4,none⟩=false∧SG w0 (w'.setCell ⟨g,4,none⟩ dv') B g pb pc oA oc mp dv' av m {s with draws:=s.draws++[t]}:=by
 have I:Qw w' w0.heap.size 29 dv' (s.draws++[t]).length (ax (s.draws++[t])):=by
  have K:(s.draws++[t]).length=s.draws.length+1:=by simp
  have b:ax (s.draws++[t])=ax s.draws++[.int .u64 t]:=by simp[ax]
  rw[K,b];exact P
 have hs:=h.st
 obtain⟨cur,L,hsz,G⟩:=h.pl;have hne:∀{k:Nat} {cs:Array Value} {t:TypeId} {z:Nat×Nat},w.heap[k]? =some (.cells cs t z)→29≠t→w'.heap[k]? =w.heap[k]?:=by
  intro k cs t z hk hn;refine c.block k (aQ hk) ?_;rcases ju h.rows.draws with e|⟨q,j,e,_,d⟩
  ·rw[e];simp
  ·rw[e];intro D;injection D with D
   subst D;rw[d] at hk;have hk2:=bQ hk;injection hk2 with K b D
   exact hn b
 have far:∀{e:TypeId} {A:Option Addr} {xs:List Value},Ts w e A xs→29≠e→Ts w' e A xs:=by
  intro e A xs C hn;rcases ju h.rows.draws with b|⟨q,j,b,_,d⟩
  ·rw[b] at c;exact C.up (cX c)
  ·rw[b] at c;exact C.farG d c hn.symm
 have u:∀{F:Nat} {e:TypeId} {sz:Nat} {v:Value} {n:Nat} {xs:List Value},Own w F e sz v n xs→29≠e→Own w' F e sz v n xs:=by
  intro F e sz v n xs C hn;rcases ju h.rows.draws with b|⟨q,j,b,_,d⟩
  ·rw[b] at c;exact C.up (cX c)
  ·rw[b] at c;exact C.farG d c hn.symm
 have M:Old w0 w':=grown_old h.old c (fun q e=>(h.rows.draws.lt q e).1)
 have y:∃q k,mp= .map (some q)∧IMap w' q k (Gp.ix (Oc.jobs s)):=by
  obtain⟨J,k2,hm,o⟩:=h.map;refine⟨J,k2,hm,?_⟩;rcases ju h.rows.draws with b|⟨q,j,b,_,d⟩
  ·rw[b] at c;exact o.up (cX c)
  ·rw[b] at c;exact o.farG d c
 have a:=(hne h.st (by decide)).trans h.st
 have f:=aD w' g 4 dv'
 refine⟨(aK w' g 4 _ _ _ a).trans rfl,aN w' g 4 _ _ a,?_⟩;have H:=h.gk;have N:SgR w0 w' oA dv' m {s with draws:=s.draws++[t]}:=by
  refine⟨far h.rows.ord (by decide),fun i l=>?_,fun i l=>?_,fun i l=>⟨(h.rows.needs i l).1,far (h.rows.needs i l).2 (by decide)⟩,fun i l=>far (h.rows.deps i l) (by decide),fun i l=>u (h.rows.outs i l) (by decide),I,h.rows.ap⟩
  ·have hj:=h.rows.jm i l
   exact⟨far hj.env (by decide),far hj.needs (by decide),far hj.lad (by decide),hj.eb,hj.nb,hj.lb⟩
  ·have e:=O i l
   show Ts w' _ _ (ax (Oc.p s i).x.times)
   rw[e];exact bX rfl
 have R:=N.farG a f (bY (bX rfl))
 refine⟨M.setCell (p:=⟨g,4,none⟩) h.gB _,h.gB,h.pB,?_,⟨cur,((aL w' ⟨g,4,none⟩ pb _ H).trans (hne L (by decide))).trans L,hsz,G⟩,h.pc,R,(u h.acts (by decide)).farG a f (by decide),⟨h.BB.1,bN (bN h.BB.2 c.size) f.size⟩,h.few,?_,fun r E=>⟨(far (h.pastA r E).1 (by decide)).farG a f (by decide),(h.pastA r E).2⟩,fun r E=>(far (h.pastS r E) (by decide)).farG a f (by decide)⟩
 ·rw[aO w' g 4 _ _ _ a];rfl
 ·obtain⟨J,k2,hm,o⟩:=y;exact⟨J,k2,hm,o.farG a f⟩
theorem SG.range (h:SG w0 w B g pb pc oA oc mp dv av m s) {i:Nat} (a:i<s.pl.length):w.rangeAt pb (i*28) (aH (Oc.p s i) (m i)):=fun j v hv=>by
 have hj:j<28:=by have:=(List.getElem?_eq_some_iff.mp hv).1;rw[im] at this;exact this
 exact(h.pcell a j hj hv).1
theorem jB:(Tryz.prog.info? 108).map (·.size)=some 28:=by kernel_rfl
theorem qt (q:Oc.Pl) (m:Pm):(aH q m).toArray.all (·.oneCell')=true:=by
 simp[aH,ae,bf,Value.oneCell']
theorem jd {w:World} {k:Nat} {q:Oc.Pl} {m:Pm} {z:Nat×Nat} (h:w.heap[k]? =some (.cells (aH q m).toArray 108 z)) {d:Nat} {v:Value} (hv:(aH q m)[d]? =some v):w.cell? ⟨k,d,none⟩=some v:=
 (aK w k d _ _ _ h).trans (by rw[List.getElem?_toArray];exact hv)
end
theorem vh (R:Int) (t:List Nat):decide (0≤(jv R [t]).2)=decide (0≤R):=by
 unfold jv;split
 ·next h=>subst h;rfl
 ·split
  ·simp;omega
  ·simp
theorem zk {w:World} {A:Option Addr} {n c:Nat} {t:List Nat} (hn:t.length=n) (a:Rs w A (cZ t)) (k:Nat) (hk:w.cell? ⟨k,0,none⟩=some (.slice A n c)):ChR w (some ⟨k,0,none⟩) [t] (fun _=>A) (fun _=>c):=by
 subst hn;refine⟨bY ⟨k,0,rfl,fun j u hj=>?_⟩,fun j hj=>?_⟩
 ·cases j with
  |zero=>simp at hj;subst hj;exact hk
  |succ j=>simp at hj
 ·have:j=0:=by simpa using hj
  subst this;exact a
theorem pj (j:Jd) (A:Option Addr) (c:Nat) (out:List Nat) (w:World) (hj:Oc.JOk j) (B:Rs w A (cZ out)) (u:∀x∈out,x<256) (z:out.length<1000000000):
  Calls Tryz.prog 80 #[fU j,.slice A out.length c] w fun e w'=>e= .returned (.bool (Oc.found j out))∧Old w w':=by
 have q:=aJ (fun W k (s:Old w W) (hk:W.cell? ⟨k,0,none⟩=some (.slice A out.length c)) (o:(bz (bs j.ready)).2=0∧NoB j.ready)=>Bn j.ready (some ⟨k,0,none⟩) 1 [out] (fun _=>A) (fun _=>c) W (zk rfl (B.up s) k hk) (by simpa using u) (by simpa using z) (by simp) o.2 o.1)
 have p:=aJ hj.pat
 clear hj B u z;cases l:j.hasR with
 |false=>
  have i:Hid (Oc.found j out=true):=aJ (by unfold Oc.found;rw[l];rfl)
  rw[i.out];have a:=aJ ((Old.refl w).alloc (.cells (ae j).toArray 32));clear q p i;unfold ae at a;rw[l] at a;unfold fU;go_enter Tryz.func80,Tryz.ntmps80;go_wp2_with fail;go_ret;exact⟨rfl,a.out⟩
 |true=>
  obtain⟨n,g⟩:∃n,bz (bs j.ready)=(n,0):=⟨(bz (bs j.ready)).1,by rw[←(p.out l).1]⟩
  have i:Hid (Oc.found j out=decide (0≤(jv (dh (bw n) [out].flatten) [out]).2)):=aJ (by unfold Oc.found;rw[l,g,vh];simp)
  rw[i.out];have d:=aJ (fun W k s hk=>(q.out W k s hk (p.out l)).mono (fun e w' o=>And.intro (o.1 n 0 g) o.2))
  clear q p i g;unfold fU;rw[if_pos rfl,if_pos rfl] at d;generalize jv (dh (bw n) [out].flatten) [out]=r at *;go_enter Tryz.func80,Tryz.ntmps80;go_upto_region 3 with fail
  generalize h:w.alloc _=w1;have f:Hid (Old w w1):=aJ (by rw[←h];exact(Old.refl w).alloc _)
  have b:Hid (w1.heap[w.heap.size]? =some (.cells #[.string j.nm,.string j.run,.slice j.eA j.env.length j.ec,.slice j.nA j.needs.length j.nc,.bool true,.string j.ready,.int .i64 j.restart,.int .u64 j.base,.int .u64 j.cap,.int .u64 j.stable,.int .i64 j.burst,.int .u64 j.win,.slice j.lA j.lad.length j.lc,.int .i64 j.line,.int .i64 j.col] 32 (0,0))):=aJ (by rw[←h];exact aM _ _)
  clear h;obtain⟨kb,m⟩:∃kb,w.heap.size=kb:=⟨_,rfl⟩
  rw[m] at b ⊢;clear m;have C:w1.cell? ⟨kb,5,none⟩=some (.string j.ready):=(aK w1 kb 5 _ _ _ b.out).trans rfl;have t:=aJ (d.out (w1.alloc (.cells #[.slice A out.length c] 35)) w1.heap.size (f.out.alloc _) (ed w1 [.slice A out.length c] 35 0 _ rfl));clear d b;go_wp2_with fail;refine(t.out).mono ?_;rintro e w2 ⟨rfl,y⟩;have a:Hid (Old w w2):=aJ ((f.out.alloc _).up y);clear y t f;go_wp2_with fail;go_ret;exact⟨rfl,a.out⟩
theorem rV {w0 w:World} {B:BP} {g pb pc:Nat} {oA:Option Addr} {oc:Nat} {mp dv av:Value} {m:Nat→Pm} {s:Oc.St} (h:SG w0 w B g pb pc oA oc mp dv av m s) (i:Nat) (y:i<s.pl.length) (sg:Int) (ha:s.acts.length≤1000000):
  Calls Tryz.prog 86 #[.pointer (some ⟨g,0,none⟩),.int .i64 (i:Int),.int .i64 sg] w fun e w'=>e= .returned (.tuple #[])∧∃d,SG w0 w' B g pb pc oA oc mp dv d m (Oc.send s i sg):=by
 by_cases o:sg=0
 ·subst o;exact(vn g i w).mono (fun e w' z=>⟨z.1,av,by rw[z.2];unfold Oc.send;rw[if_pos rfl];exact h⟩)
 ·have J:(sg !=0)=true:=by simpa using o
  obtain⟨k,ac,rfl,_,_⟩:=h.acts.shape;obtain⟨_,_⟩:=h.cell 0 (v:= .slice (some ⟨pb,0,none⟩) s.pl.length pc) rfl;obtain⟨_,_⟩:=h.cell 10 (v:= .slice k s.acts.length ac) rfl;obtain⟨A,_⟩:=h.pcell y 0 (v:= .string (Oc.p s i).j.nm) (by decide) rfl
  replace A:w.cell? ⟨pb,i*28,none⟩=some (.string (Oc.p s i).j.nm):=A
  have G:(0:Int)≤(i:Int):=by omega
  have H:(i:Int)<(s.pl.length:Int):=by omega
  have I:(s.pl.length:Int)≤32:=by have:=h.few;omega
  have b:=aJ h
  have c:Oc.send s i sg={s with acts:=s.acts++[⟨2,(Oc.p s i).j.nm,sg⟩]}:=by unfold Oc.send;rw[if_neg o]
  rw[c];have r:Hid (∀(W:World) (v':Value) (w':World),Old w W→Own w' B.n 54 8 v' (s.acts.length+1) (ej s.acts++[.int .i64 2,.string (Oc.p s i).j.nm,.int .i64 sg,.slice none 0 0,.int .i64 0,.int .i64 0,.int .i64 0,.int .i64 0])→W.grownBy w' (Value.slice k s.acts.length ac).ownBlock→
    ∃A' c',v'= .slice A' (s.acts.length+1) c'∧w'.cell? ⟨g,10,none⟩=some (.slice k s.acts.length ac)∧w'.frozen? ⟨g,10,none⟩=false∧Hid (∃d,SG w0 (w'.setCell ⟨g,10,none⟩ (.slice A' (s.acts.length+1) c')) B g pb pc oA oc mp dv d m {s with acts:=s.acts++[⟨2,(Oc.p s i).j.nm,sg⟩]})):=aJ (fun W v' w' h1 h2 F=>by
   obtain⟨A',c',rfl,_,_⟩:=h2.shape;obtain⟨D,E,u⟩:=(b.out.up h1).act (a:=⟨2,(Oc.p s i).j.nm,sg⟩) h2 F;exact⟨A',c',rfl,D,E,aJ ⟨_,u⟩⟩)
  have f:Hid (∀W,Old w W→Own W B.n 54 8 (.slice k s.acts.length ac) s.acts.length (ej s.acts)∧B.n≤W.heap.size):=aJ (fun W l=>⟨(b.out.up l).acts,(b.out.up l).BB.2⟩)
  have gl:g<w.heap.size:=aQ b.out.st
  have pl:pb<w.heap.size:=b.out.pl.elim fun cur hc=>aQ hc.1
  have q:=aJ ha
  clear b h y c o;generalize (Oc.p s i).j.nm=nm at *;go_enter Tryz.func86,Tryz.ntmps86;go_upto_region 1 with fail
  go_region_law ((refine eG _ (by rfl) _ _ 49 (by rfl) B.n 54 (.agg #[.int .i64 0,.string ⟨#[]⟩,.int .i64 0,.slice none 0 0,.int .i64 0,.int .i64 0,.int .i64 0,.int .i64 0]) 8 88 Tryz.underlying49 mT rfl (by decide) (by decide) (.slice k s.acts.length ac) s.acts.length (ej s.acts) (by rfl) (f.out _ aS).1 w.heap.size 0 1 1 [.int .i64 2,.string nm,.int .i64 sg,.slice none 0 0,.int .i64 0,.int .i64 0,.int .i64 0,.int .i64 0] (by rfl) (by first|exact fg _ _ _|exact(fg _ _ _).drew) rfl rfl (by have:=q.out;omega) (f.out _ aS).2 ?_;intro v' w' l x t;obtain⟨A',c',rfl,u,_,C⟩:=r.out _ _ _ aS l x;clear l x t))
  all_goals (go_wp2_with fail;go_end0;exact⟨rfl,C.out⟩)
structure SamOk (j:Jd) (t:List Nat):Prop where
 bytes:∀b∈t,b<256
 none_:j.hasR=false→t=[]
 hit:j.hasR=true→0≤dh (bw (bz (bs j.ready)).1) t
 least:j.hasR=true→∀t',SAcc (bw (bz (bs j.ready)).1) t'→t.length≤t'.length
def uq (j:Jd):Prop:=j.hasR=true→∃n,PatOk j.ready n∧bz (bs j.ready)=(n,0)
theorem ux (j:Jd) (w:World) (K:uq j):
  Calls Tryz.prog 28 #[fU j] w fun e w'=>∃A c t,e= .returned (.slice A t.length c)∧Ts w' 5 A (cZ t)∧SamOk j t∧Old w w':=by
 cases x:j.hasR with
 |false=>
  have F:Hid (SamOk j []):=aJ ⟨fun b Y=>by simp at Y,fun _=>rfl,fun e=>(by rw[x] at e;cases e),fun e=>(by rw[x] at e;cases e)⟩
  have m:=aJ ((Old.refl w).alloc (.cells (ae j).toArray 32))
  unfold ae at m;rw[x] at m;clear K;unfold fU;go_enter Tryz.func28,Tryz.ntmps28;go_wp2_with fail;go_ret;exact⟨none,0,[],rfl,bX rfl,F.out,m.out⟩
 |true=>
  obtain⟨l,L,n⟩:=K x;obtain⟨_,hv,B,_,hs,J⟩:=L;obtain⟨_,o,H,G,I⟩:=io hv;have P:=aJ (fun W=>nG (6*(bs j.ready).length+6) j.ready (l,0) W (by rw[fq,n]) J rfl)
  have O:=aJ (fun W A c (M:Rs W A (cI l))=>qG A c l W M (by unfold maxLen;omega) B)
  have V:=aJ hv
  have Q:=aJ (fun W A c (M:Rs W A (cI (bw l)))=>pn A c (bw l) W M (by unfold maxLen;omega))
  have k:=aJ o
  have q:=aJ hs
  have u:Hid (∀t,pT (bw l) (some t)→SamOk j t):=aJ (fun t f=>by
   have e:(bz (bs j.ready)).1=l:=by rw[n]
   refine⟨f.1.bytes,fun S=>(by rw[x] at S;cases S),fun _=>?_,fun _=>by rw[e];exact f.2⟩
   rw[e,uP o f]
   omega)
  clear K hv B hs o H G I n;unfold fU;go_enter Tryz.func28,Tryz.ntmps28;go_upto_region 3 with fail
  generalize p:w.alloc _=w1;have s:Hid (Old w w1):=aJ (by rw[←p];exact(Old.refl w).alloc _)
  have i:Hid (w1.heap[w.heap.size]? =some (.cells #[.string j.nm,.string j.run,.slice j.eA j.env.length j.ec,.slice j.nA j.needs.length j.nc,.bool true,.string j.ready,.int .i64 j.restart,.int .u64 j.base,.int .u64 j.cap,.int .u64 j.stable,.int .i64 j.burst,.int .u64 j.win,.slice j.lA j.lad.length j.lc,.int .i64 j.line,.int .i64 j.col] 32 (0,0))):=aJ (by rw[←p];exact aM _ _)
  clear p;obtain⟨kb,y⟩:∃kb,w.heap.size=kb:=⟨_,rfl⟩
  rw[y] at i ⊢;clear y;have Z:w1.cell? ⟨kb,5,none⟩=some (.string j.ready):=(aK w1 kb 5 _ _ _ i.out).trans rfl;clear i;go_wp2_with fail;refine(P.out w1).mono ?_;rintro e w2 ⟨v,rfl,z,g⟩;obtain⟨A,c,rfl,f,_,_⟩:=z.shape;have R:=aJ f.rs;have U:=aJ (s.out.up g);clear z f g P s;simp only at R;go_wp2_with fail;refine(O.out w2 A c R.out).mono ?_;rintro e T ⟨hx,_,g⟩;obtain⟨v,rfl,z⟩:=hx V.out;obtain⟨A2,c2,rfl,f,_,_⟩:=z.shape;have E:=aJ f.rs;have D:=aJ (U.out.up g);clear z f g hx O;go_wp2_with fail;refine(Q.out T A2 c2 E.out).mono ?_;rintro e w4 ⟨v,r,rfl,h,hm,_,g⟩;obtain⟨t,rfl⟩:∃t,r=some t:=by
   cases r with
   |some a=>exact⟨a,rfl⟩
   |none=>
    obtain⟨t,f⟩:=q.out;exact absurd f (hm k.out t)
  have d:Own w4 T.heap.size 5 1 v t.length (cZ t):=h
  obtain⟨N,X,rfl,C,_,_⟩:=d.shape;have F:Hid (Ts w4 5 N (cZ t)∧SamOk j t∧Old w w4):=aJ ⟨C,u.out t (hm k.out),D.out.up g⟩;clear g hm h d C Q u q k;go_wp2_with fail;go_ret;exact⟨N,X,t,rfl,F.out⟩
theorem lO {α:Type} {n:Nat} {f:α→List Value} (b:∀x,(f x).length=n) (l:List α):(l.flatMap f).length=l.length*n:=by
 induction l with
 |nil=>simp
 |cons a l ih=>rw[List.flatMap_cons,bF,ih,b,List.length_cons,Nat.succ_mul];omega
theorem nT {α:Type} {n:Nat} {f:α→List Value} (b:∀x,(f x).length=n):∀{l:List α} {i d:Nat} {x:α},l[i]? =some x→d<n→(l.flatMap f)[i*n+d]? =(f x)[d]?:=by
 intro l
 induction l with
 |nil=>intro i d x h;simp at h
 |cons a l ih=>
  intro i d x h c;cases i with
  |zero=>
   simp at h
   subst h;rw[List.flatMap_cons,Nat.zero_mul,Nat.zero_add,bJ (by rw[b];exact c)]
  |succ i=>
   rw[List.flatMap_cons,List.getElem?_append_right (by rw[b,Nat.succ_mul];omega),b,show(i+1)*n+d-n=i*n+d by rw[Nat.succ_mul];omega]
   exact ih (by simpa using h) c
structure E3 where
 e:Oc.Ev
 A:Option Addr
 c:Nat
def cj (x:E3):List Value:=[.int .i64 x.e.kind,.string x.e.job,.bool x.e.ok,.int .i64 x.e.code,.slice x.A x.e.data.length x.c,.int .u64 x.e.at_,.int .i64 0,.int .i64 0]
def zZ (x:E3):Value:= .agg #[.int .i64 x.e.kind,.string x.e.job,.bool x.e.ok,.int .i64 x.e.code,.slice x.A x.e.data.length x.c,.int .u64 x.e.at_,.int .i64 0,.int .i64 0]
theorem iy (x:E3):(cj x).length=8:=rfl
def fh (l:List E3):List Value:=l.flatMap cj
structure EvL (w:World) (A:Option Addr) (l:List E3):Prop where
 outer:Rs w A (fh l)
 rows:∀x∈l,Rs w x.A (cZ x.e.data)
theorem EvL.up {w w':World} {A:Option Addr} {l:List E3} (h:EvL w A l) (a:Old w w'):EvL w' A l:=⟨h.outer.up a,fun x hx=>(h.rows x hx).up a⟩
theorem EvL.cell {w:World} {A:Option Addr} {l:List E3} (h:EvL w A l) {i:Nat} {x:E3} (hx:l[i]? =some x):∃b off,A=some ⟨b,off,none⟩∧∀d v,d<8→(cj x)[d]? =some v→w.cell? ⟨b,off+(i*8+d),none⟩=some v:=by
 have e:i<l.length:=(List.getElem?_eq_some_iff.mp hx).1
 obtain⟨b,off,a,_,hc⟩:=h.outer.at_ (by unfold fh;rw[lO iy];omega)
 exact⟨b,off,a,fun d v c hv=>hc _ _ (by unfold fh;rw[nT iy hx c];exact hv)⟩
theorem mW (l:List E3) (x:E3):fh l++cj x=fh (l++[x]):=by simp[fh]
theorem tM (x:Lf.T) (A:Option Addr) (c:Nat) (w:World) (D:Ts w 29 A (ax x.times)) (H:x.times.length≤68719476000):
  Calls Tryz.prog 145 #[bZ x A c] w (xu w (Lf.matched x)):=by
 have g:Hid (∀(q:Lf.T) A' c' w',Lf.matched x=q→Ts w' 29 A' (ax q.times)→Old w w'→xu w (Lf.matched x) (.returned (bZ q A' c')) w'):=aJ (fun q A' c' w' h1 h2 G=>by subst h1;exact⟨A',c',rfl,h2,G⟩)
 have b:=aJ (fun W (h:Old w W)=>pr x A c W (D.up h) H)
 clear D;unfold xu bZ at b;unfold bZ;go_enter Tryz.func145,Tryz.ntmps145;go_upto_region 1 with fail
 go_cut [] (fun wx=>∃(A':Option Addr) (c':Nat),LS2 w wx x A' c')
 case first=>
  go_wp2_with fail;refine(b.out _ (((Old.refl w).alloc _).alloc _)).mono ?_;rintro e w2 ⟨A2,c2,rfl,E,C⟩;obtain⟨b2,b3,B⟩:=sR C;obtain⟨⟨_,c1,_,_,c4,_,_,_,_,_⟩,_,f1,f2,_,_,_,_,_,_,_⟩:=bq b2;have F:Hid (LS2 w (iP w2 w.heap.size (.int .i64 x.ph) (.int .i64 x.inc) (.int .i64 x.runs) (.int .u64 x.since) (.slice A2 x.times.length c2) (.int .u64 x.due) (.bool x.armed) (.int .i64 x.rung) (.bool x.halt) (.bool x.again)) x A2 c2):=
   aJ ⟨gj b2,(dg (by omega)).trans b3,gn B (by omega),(il (E.tn2 b2 (by decide) b3 (by decide)) (by simp)).ts⟩
  clear E C b2 b3 b;go_wp2_with fail;go_meet
  case rel=>exact⟨A2,c2,F.out⟩
 case rest=>
  obtain⟨A',c',t⟩:=hcut;have a:=aJ t;clear t;obtain⟨ph,inc,runs,since,times,due,armed,rung,halt,again⟩:=x;have b2:wc.heap[w.heap.size]? =some (.cells #[.int .i64 ph,.int .i64 inc,.int .i64 runs,.int .u64 since,.slice A' times.length c',.int .u64 due,.bool armed,.int .i64 rung,.bool halt,.bool again] 105 (0,0)):=a.out.bl;have b3:wc.heap[w.heap.size+1]? =some (.cells #[.int .i64 0,.int .i64 0,.int .i64 0,.int .u64 0,.slice none 0 0,.int .u64 0,.bool false,.int .i64 0,.bool false,.bool false] 105 (0,0)):=a.out.br;have u:Ts wc 29 A' (ax times):=a.out.ts;have B:Old w wc:=a.out.old;obtain⟨⟨_,c1,c2,_,c4,_,_,_,_,_⟩,_,f1,f2,_,_,_,_,_,_,_⟩:=bq b2;have y:=aJ b2;have f:=aJ b3;have d:=aJ u;clear b2 b3 u a
  by_cases h1:ph=3
  ·subst h1;have z:=aJ (d.out.tn2 y.out (by decide) f.out (by decide))
   obtain⟨⟨i,j,k,l,m,n,o,p,r,s⟩,_,_,_,_,_,_,_,_,_,_⟩:=bq f.out;clear d y f;go_wp2_with fail;refine aP (by first|(simp[results,Tryz.results145,go_sem,bZ,i,j,k,l,m,n,o,p,r,s];done)|(simp[results,Tryz.results145,go_sem,bZ,i,j,k,l,m,n,o,p,r,s];first|rfl|exact⟨rfl,rfl⟩)) rfl (g.out ⟨4,inc,runs,since,times,due,armed,rung,halt,again⟩ A' c' _ rfl ?_ ?_)
   ·refine Tn.ts (K:=[w.heap.size,w.heap.size+1]) ?_
    repeat with_reducible refine Tn.set ?_ (by simp) _
    exact z.out
   ·repeat with_reducible first|exact Old.refl _|assumption|refine Old.setCell ?_ (by first|omega|(simp<;>omega)) _|refine Old.drewN ?_ _|refine Old.alloc ?_ _|refine Old.drew ?_
  have n1:(ph==3)=false:=by simpa using h1
  have z:=aJ (d.out.tn2 y.out (by decide) f.out (by decide))
  obtain⟨⟨i,j,k,l,m,n,o,p,r,s⟩,_,_,_,_,_,_,_,_,_,_⟩:=bq f.out;clear d y f;go_wp2_with fail;refine aP (by first|(simp[results,Tryz.results145,go_sem,bZ,i,j,k,l,m,n,o,p,r,s];done)|(simp[results,Tryz.results145,go_sem,bZ,i,j,k,l,m,n,o,p,r,s];first|rfl|exact⟨rfl,rfl⟩)) rfl (g.out ⟨ph,inc,runs,since,times,due,armed,rung,halt,again⟩ A' c' _ (by unfold Lf.matched;rw[if_neg h1]) ?_ ?_)
  ·refine Tn.ts (K:=[w.heap.size,w.heap.size+1]) ?_
   repeat with_reducible refine Tn.set ?_ (by simp) _
   exact z.out
  ·repeat with_reducible first|exact Old.refl _|assumption|refine Old.setCell ?_ (by first|omega|(simp<;>omega)) _|refine Old.drewN ?_ _|refine Old.alloc ?_ _|refine Old.drew ?_
theorem Bt (j:Jd) (x:Lf.T) (A:Option Addr) (c:Nat) (code now jit:Int) (w:World) (hj:JdOk w j) (hn:Tk.U now) (hi:Tk.U jit) (hx:Lf.Ok x) (hr:Ts w 29 A (ax x.times)) (hl:x.times.length≤68719476000):
  Calls Tryz.prog 82 #[fU j,bZ x A c,.int .i64 code,.int .u64 now,.int .u64 jit] w (mf w (Lf.exit j.j x code now jit).1 (Lf.exit j.j x code now jit).2):=by
 have ad:Hid (∀(q:Lf.T×Bool) A' c' w',Lf.exit j.j x code now jit=q→Ts w' 29 A' (ax q.1.times)→Old w w'→mf w (Lf.exit j.j x code now jit).1 (Lf.exit j.j x code now jit).2 (.returned (.tuple #[bZ q.1 A' c',.bool q.2])) w'):=aJ (fun q A' c' w' h1 h2 h3=>by subst h1;exact⟨A',c',rfl,h2,h3⟩)
 have ac:=aJ (fun W (h:Old w W)=>pr x A c W (hr.up h) hl)
 clear hr;have HJ:=aJ hj;clear hj;unfold xu bZ at ac;unfold bZ fU;go_enter Tryz.func82,Tryz.ntmps82;go_upto_region 1 with fail
 go_cut [] (fun wx=>∃(A':Option Addr) (c':Nat),LS3 w wx j x A' c')
 case first=>
  go_wp2_with fail;refine(ac.out _ ((((Old.refl w).alloc _).alloc _).alloc _)).mono ?_;rintro e w2 ⟨A2,c2,rfl,ht,hd⟩;obtain⟨b1,b2,b3,u⟩:=gD hd;obtain⟨⟨c0,c1,_,c3,c4,c5,c6,c7,c8,c9⟩,f0,f1,f2,f3,f4,f5,f6,f7,f8,f9⟩:=bq b2;have HX:Hid (LS3 w (iP w2 (w.heap.size+1) (.int .i64 x.ph) (.int .i64 x.inc) (.int .i64 x.runs) (.int .u64 x.since) (.slice A2 x.times.length c2) (.int .u64 x.due) (.bool x.armed) (.int .i64 x.rung) (.bool x.halt) (.bool x.again)) j x A2 c2):=
   aJ ⟨(dg (by omega)).trans b1,gj b2,(dg (by omega)).trans b3,gn u (by omega),(il (ht.tn2 b2 (by decide) b3 (by decide)) (by simp)).ts⟩
  clear ht hd b1 b2 b3 ac;go_wp2_with fail;go_meet
  case rel=>exact⟨A2,c2,HX.out⟩
 case rest=>
  obtain⟨A',c',t⟩:=hcut;have a:=aJ t;clear t;obtain⟨nm,run,eA,env,ec,nA,needs,nc,hasR,b,restart,base,cap,stable,burst,win,lA,lad,lc,line,col⟩:=j;obtain⟨ph,inc,runs,since,times,due,armed,rung,halt,again⟩:=x;have E:=a;have b1:wc.heap[w.heap.size]? =some (.cells #[.string nm,.string run,.slice eA env.length ec,.slice nA needs.length nc,.bool hasR,.string b,.int .i64 restart,.int .u64 base,.int .u64 cap,.int .u64 stable,.int .i64 burst,.int .u64 win,.slice lA lad.length lc,.int .i64 line,.int .i64 col] 32 (0,0)):=a.out.bj;have b2:wc.heap[w.heap.size+1]? =some (.cells #[.int .i64 ph,.int .i64 inc,.int .i64 runs,.int .u64 since,.slice A' times.length c',.int .u64 due,.bool armed,.int .i64 rung,.bool halt,.bool again] 105 (0,0)):=a.out.bl;have b3:wc.heap[w.heap.size+1+1]? =some (.cells #[.int .i64 0,.int .i64 0,.int .i64 0,.int .u64 0,.slice none 0 0,.int .u64 0,.bool false,.int .i64 0,.bool false,.bool false] 105 (0,0)):=a.out.br;have l:Ts wc 29 A' (ax times):=a.out.ts;have u:Old w wc:=a.out.old;obtain⟨⟨e0,e1,e2,e3,e4,e5,e6,e7,e8,e9,F,G,H,I,J⟩,_⟩:=ij b1;obtain⟨⟨c0,c1,c2,c3,c4,c5,c6,c7,c8,c9⟩,f0,f1,f2,f3,f4,f5,f6,f7,f8,f9⟩:=bq b2;have s:=b1;have p:=aJ b2;have o:=aJ b3;have d:=aJ l;clear b1 b2 b3 l a;go_upto_if 16 with fail
  go_cut [16] (fun av wx=>∃bb:Bool,av= .bool bb∧Hid (bb=decide (ph=3∨ph=4))∧LS3 w wx ⟨nm,run,eA,env,ec,nA,needs,nc,hasR,b,restart,base,cap,stable,burst,win,lA,lad,lc,line,col⟩ ⟨ph,inc,runs,since,times,due,armed,rung,halt,again⟩ A' c')
  case first=>
   by_cases h3:ph=3
   ·have n3:(ph==3)=true:=by simpa using h3
    have H3:=aJ h3
    clear h3;go_wp2_with fail;go_meet
    case rel=>exact⟨true,rfl,aJ (by simp[H3.out]),E.out⟩
   ·have n3:(ph==3)=false:=by simpa using h3
    go_wp2_with fail;go_meet
    case rel=>exact⟨_,rfl,aJ (by by_cases h4:ph=4<;>simp[h3,h4]),E.out⟩
  case rest=>
  obtain⟨ao,rfl,N,t⟩:=hcut;have a:=aJ t;clear t E u d p o c0 c1 c2 c3 c4 c5 c6 c7 c8 c9 f0 f1 f2 f3 f4 f5 f6 f7 f8 f9 e0 e1 e2 e3 e4 e5 e6 e7 e8 e9 F G H I J s;have b1:wc.heap[w.heap.size]? =some (.cells #[.string nm,.string run,.slice eA env.length ec,.slice nA needs.length nc,.bool hasR,.string b,.int .i64 restart,.int .u64 base,.int .u64 cap,.int .u64 stable,.int .i64 burst,.int .u64 win,.slice lA lad.length lc,.int .i64 line,.int .i64 col] 32 (0,0)):=a.out.bj;have b2:wc.heap[w.heap.size+1]? =some (.cells #[.int .i64 ph,.int .i64 inc,.int .i64 runs,.int .u64 since,.slice A' times.length c',.int .u64 due,.bool armed,.int .i64 rung,.bool halt,.bool again] 105 (0,0)):=a.out.bl;have b3:wc.heap[w.heap.size+1+1]? =some (.cells #[.int .i64 0,.int .i64 0,.int .i64 0,.int .u64 0,.slice none 0 0,.int .u64 0,.bool false,.int .i64 0,.bool false,.bool false] 105 (0,0)):=a.out.br;have l:Ts wc 29 A' (ax times):=a.out.ts;have u:Old w wc:=a.out.old;obtain⟨⟨e0,e1,e2,e3,e4,e5,e6,e7,e8,e9,F,G,H,I,J⟩,_⟩:=ij b1;obtain⟨⟨c0,c1,c2,c3,c4,c5,c6,c7,c8,c9⟩,f0,f1,f2,f3,f4,f5,f6,f7,f8,f9⟩:=bq b2;have s:=b1;have p:=aJ b2;have o:=aJ b3;have d:=aJ l;clear b1 b2 b3 l a
  by_cases ag:ph=3∨ph=4
  ·obtain rfl:ao=true:=N.out.trans (decide_eq_true ag);have am:=aJ (fun(W:World) (n:Nat)=>gJ (Cq now since hn hx.1 (W.drewN n)))
   have ah:Hid (Lf.exit (Jd.j ⟨nm,run,eA,env,ec,nA,needs,nc,hasR,b,restart,base,cap,stable,burst,win,lA,lad,lc,line,col⟩) ⟨ph,inc,runs,since,times,due,armed,rung,halt,again⟩ code now jit=if restart=3∨restart=2∧code≠0 then Lf.over (Jd.j ⟨nm,run,eA,env,ec,nA,needs,nc,hasR,b,restart,base,cap,stable,burst,win,lA,lad,lc,line,col⟩) ⟨ph,inc,(if stable≤Tk.sub now since then 0 else runs),since,times,due,armed,rung,halt,again⟩ now jit else if code=0 then(Lf.rest ⟨ph,inc,(if stable≤Tk.sub now since then 0 else runs),since,times,due,armed,rung,halt,again⟩ 7,false) else(Lf.rest ⟨ph,inc,(if stable≤Tk.sub now since then 0 else runs),since,times,due,armed,rung,halt,again⟩ 8,false)):=aJ (Lf.exit_run (j:=(Jd.j ⟨nm,run,eA,env,ec,nA,needs,nc,hasR,b,restart,base,cap,stable,burst,win,lA,lad,lc,line,col⟩)) (x:=⟨ph,inc,runs,since,times,due,armed,rung,halt,again⟩) (code:=code) (now:=now) (jit:=jit) ag)
   have an:Hid (∀n,LS3 w (wc.drewN n) ⟨nm,run,eA,env,ec,nA,needs,nc,hasR,b,restart,base,cap,stable,burst,win,lA,lad,lc,line,col⟩ ⟨ph,inc,runs,since,times,due,armed,rung,halt,again⟩ A' c'):=aJ (fun n=>⟨s,p.out,o.out,u.drewN n,d.out⟩)
   clear s ag N;generalize Tk.sub now since=sb at *;go_upto_region 5 with fail
   go_cut [25] (fun aw wx=>aw= .bool (decide (stable≤sb))∧LS3 w wx ⟨nm,run,eA,env,ec,nA,needs,nc,hasR,b,restart,base,cap,stable,burst,win,lA,lad,lc,line,col⟩ ⟨ph,inc,runs,since,times,due,armed,rung,halt,again⟩ A' c')
   case first=>
    go_quiet ((go_at_call 118;exact am.out _ _))
    go_wp2_with fail;go_meet
    case rel=>exact⟨rfl,an.out _⟩
   case rest=>
    obtain⟨rfl,t⟩:=hcut;have a:=aJ t;clear t an am u d p o c0 c1 c2 c3 c4 c5 c6 c7 c8 c9 f0 f1 f2 f3 f4 f5 f6 f7 f8 f9 e0 e1 e2 e3 e4 e5 e6 e7 e8 e9 F G H I J;have b1:wc.heap[w.heap.size]? =some (.cells #[.string nm,.string run,.slice eA env.length ec,.slice nA needs.length nc,.bool hasR,.string b,.int .i64 restart,.int .u64 base,.int .u64 cap,.int .u64 stable,.int .i64 burst,.int .u64 win,.slice lA lad.length lc,.int .i64 line,.int .i64 col] 32 (0,0)):=a.out.bj;have b2:wc.heap[w.heap.size+1]? =some (.cells #[.int .i64 ph,.int .i64 inc,.int .i64 runs,.int .u64 since,.slice A' times.length c',.int .u64 due,.bool armed,.int .i64 rung,.bool halt,.bool again] 105 (0,0)):=a.out.bl;have b3:wc.heap[w.heap.size+1+1]? =some (.cells #[.int .i64 0,.int .i64 0,.int .i64 0,.int .u64 0,.slice none 0 0,.int .u64 0,.bool false,.int .i64 0,.bool false,.bool false] 105 (0,0)):=a.out.br;have l:Ts wc 29 A' (ax times):=a.out.ts;have u:Old w wc:=a.out.old;obtain⟨⟨e0,e1,e2,e3,e4,e5,e6,e7,e8,e9,F,G,H,I,J⟩,_⟩:=ij b1;obtain⟨⟨c0,c1,c2,c3,c4,c5,c6,c7,c8,c9⟩,f0,f1,f2,f3,f4,f5,f6,f7,f8,f9⟩:=bq b2;have s:=b1;have p:=aJ b2;have o:=aJ b3;have d:=aJ l;clear b1 b2 b3 l a;go_upto_if 25 with fail
    go_cut [] (fun wx=>LS3 w wx ⟨nm,run,eA,env,ec,nA,needs,nc,hasR,b,restart,base,cap,stable,burst,win,lA,lad,lc,line,col⟩ ⟨ph,inc,(if stable≤sb then 0 else runs),since,times,due,armed,rung,halt,again⟩ A' c')
    case first=>
     by_cases aq:stable≤sb
     ·have aj:Hid (LS3 w (wc.setCell ⟨w.heap.size+1,2,none⟩ (.int .i64 0)) ⟨nm,run,eA,env,ec,nA,needs,nc,hasR,b,restart,base,cap,stable,burst,win,lA,lad,lc,line,col⟩ ⟨ph,inc,(if stable≤sb then 0 else runs),since,times,due,armed,rung,halt,again⟩ A' c'):=aJ (by
       rw[if_pos aq];exact⟨(aL wc ⟨w.heap.size+1,2,none⟩ w.heap.size _ (by simp)).trans s,aO wc (w.heap.size+1) 2 _ _ (.int .i64 0) p.out,(aL wc ⟨w.heap.size+1,2,none⟩ (w.heap.size+1+1) _ (by simp)).trans o.out,u.setCell (by simp only;omega) _,((d.out.tn2 p.out (by decide) o.out (by decide)).set (k:=w.heap.size+1) (i:=2) (by simp) _).ts⟩)
      clear d p o;go_wp2_with fail;go_meet
      case rel=>exact aj.out
     ·have aj:Hid (LS3 w wc ⟨nm,run,eA,env,ec,nA,needs,nc,hasR,b,restart,base,cap,stable,burst,win,lA,lad,lc,line,col⟩ ⟨ph,inc,(if stable≤sb then 0 else runs),since,times,due,armed,rung,halt,again⟩ A' c'):=aJ (by
       rw[if_neg aq];exact⟨s,p.out,o.out,u,d.out⟩)
      clear d p o;go_wp2_with fail;go_meet
      case rel=>exact aj.out
    case rest=>
     have aa:=ah
     have a:=aJ hcut
     clear ah hcut u d p o c0 c1 c2 c3 c4 c5 c6 c7 c8 c9 f0 f1 f2 f3 f4 f5 f6 f7 f8 f9 e0 e1 e2 e3 e4 e5 e6 e7 e8 e9 F G H I J s;generalize (if stable≤sb then 0 else runs)=R at *
     have E:=a
     have b1:wc.heap[w.heap.size]? =some (.cells #[.string nm,.string run,.slice eA env.length ec,.slice nA needs.length nc,.bool hasR,.string b,.int .i64 restart,.int .u64 base,.int .u64 cap,.int .u64 stable,.int .i64 burst,.int .u64 win,.slice lA lad.length lc,.int .i64 line,.int .i64 col] 32 (0,0)):=a.out.bj
     have b2:wc.heap[w.heap.size+1]? =some (.cells #[.int .i64 ph,.int .i64 inc,.int .i64 R,.int .u64 since,.slice A' times.length c',.int .u64 due,.bool armed,.int .i64 rung,.bool halt,.bool again] 105 (0,0)):=a.out.bl
     have b3:wc.heap[w.heap.size+1+1]? =some (.cells #[.int .i64 0,.int .i64 0,.int .i64 0,.int .u64 0,.slice none 0 0,.int .u64 0,.bool false,.int .i64 0,.bool false,.bool false] 105 (0,0)):=a.out.br
     have l:Ts wc 29 A' (ax times):=a.out.ts
     have u:Old w wc:=a.out.old
     obtain⟨⟨e0,e1,e2,e3,e4,e5,e6,e7,e8,e9,F,G,H,I,J⟩,_⟩:=ij b1;obtain⟨⟨c0,c1,c2,c3,c4,c5,c6,c7,c8,c9⟩,f0,f1,f2,f3,f4,f5,f6,f7,f8,f9⟩:=bq b2;have s:=b1;have p:=aJ b2;have o:=aJ b3;have d:=aJ l;clear b1 b2 b3 l a;generalize Lf.exit _ _ code now jit=ex at *;go_upto_if 27 with fail
     go_cut [27] (fun ay wx=>∃bb:Bool,ay= .bool bb∧Hid (bb=decide (restart=3∨restart=2∧code≠0))∧LS3 w wx ⟨nm,run,eA,env,ec,nA,needs,nc,hasR,b,restart,base,cap,stable,burst,win,lA,lad,lc,line,col⟩ ⟨ph,inc,R,since,times,due,armed,rung,halt,again⟩ A' c')
     case first=>
      by_cases r3:restart=3
      ·have n3:(restart==3)=true:=by simpa using r3
       have H3:=aJ r3
       clear r3;go_wp2_with fail;go_meet
       case rel=>exact⟨true,rfl,aJ (by simp[H3.out]),E.out⟩
      ·have n3:(restart==3)=false:=by simpa using r3
       by_cases r2:restart=2
       ·have n2:(restart==2)=true:=by simpa using r2
        have H2:=aJ r2
        clear r2;go_wp2_with fail;go_meet
        case rel=>exact⟨_,rfl,aJ (by by_cases k0:code=0<;>simp[H2.out,k0]),E.out⟩
       ·have n2:(restart==2)=false:=by simpa using r2
        go_wp2_with fail;go_meet
        case rel=>exact⟨_,rfl,aJ (by simp[r2,r3]),E.out⟩
     case rest=>
     obtain⟨ap,rfl,N,t⟩:=hcut;have a:=aJ t;clear t E u d p o c0 c1 c2 c3 c4 c5 c6 c7 c8 c9 f0 f1 f2 f3 f4 f5 f6 f7 f8 f9 e0 e1 e2 e3 e4 e5 e6 e7 e8 e9 F G H I J s;have b1:wc.heap[w.heap.size]? =some (.cells #[.string nm,.string run,.slice eA env.length ec,.slice nA needs.length nc,.bool hasR,.string b,.int .i64 restart,.int .u64 base,.int .u64 cap,.int .u64 stable,.int .i64 burst,.int .u64 win,.slice lA lad.length lc,.int .i64 line,.int .i64 col] 32 (0,0)):=a.out.bj;have b2:wc.heap[w.heap.size+1]? =some (.cells #[.int .i64 ph,.int .i64 inc,.int .i64 R,.int .u64 since,.slice A' times.length c',.int .u64 due,.bool armed,.int .i64 rung,.bool halt,.bool again] 105 (0,0)):=a.out.bl;have b3:wc.heap[w.heap.size+1+1]? =some (.cells #[.int .i64 0,.int .i64 0,.int .i64 0,.int .u64 0,.slice none 0 0,.int .u64 0,.bool false,.int .i64 0,.bool false,.bool false] 105 (0,0)):=a.out.br;have l:Ts wc 29 A' (ax times):=a.out.ts;have u:Old w wc:=a.out.old;obtain⟨⟨e0,e1,e2,e3,e4,e5,e6,e7,e8,e9,F,G,H,I,J⟩,_⟩:=ij b1;obtain⟨⟨c0,c1,c2,c3,c4,c5,c6,c7,c8,c9⟩,f0,f1,f2,f3,f4,f5,f6,f7,f8,f9⟩:=bq b2;have s:=b1;have p:=aJ b2;have o:=aJ b3;have d:=aJ l;clear b1 b2 b3 l a
     by_cases ab:restart=3∨restart=2∧code≠0
     ·obtain rfl:ap=true:=N.out.trans (decide_eq_true ab);have y:=aJ (fun W (h:Old wc W)=>vB ⟨nm,run,eA,env,ec,nA,needs,nc,hasR,b,restart,base,cap,stable,burst,win,lA,lad,lc,line,col⟩ ⟨ph,inc,R,since,times,due,armed,rung,halt,again⟩ A' c' now jit W (HJ.out.up (u.up h)) hn hi (d.out.up h) hl hx)
      have L:Hid (ex=Lf.over (Jd.j ⟨nm,run,eA,env,ec,nA,needs,nc,hasR,b,restart,base,cap,stable,burst,win,lA,lad,lc,line,col⟩) ⟨ph,inc,R,since,times,due,armed,rung,halt,again⟩ now jit):=aJ (aa.out.trans (if_pos ab))
      clear aa ab N;generalize Lf.over _ _ now jit=q at *;obtain⟨⟨al,af,P,C,D,ae,B,O,M,z⟩,b'⟩:=q;unfold mf bZ fU at y;simp only at y;go_wp2_with fail;refine(y.out _ (Old.refl _)).mono ?_;rintro e _ ⟨A3,au,rfl,ar,f⟩;have r:=aJ (f.block p.out);have g:=aJ (f.block o.out);have ak:=u.up f;have HT:=aJ (ar.tn2 r.out (by decide) g.out (by decide))
      clear f u y d p o ar;obtain⟨⟨Q,S,V,X,Y,Z,d6,d7,d8,d9⟩,_,_,_,_,_,_,_,_,_,_⟩:=bq g.out;clear r g;go_wp2_with fail;refine aP (by first|(simp[results,Tryz.results82,go_sem,bZ,Q,S,V,X,Y,Z,d6,d7,d8,d9];done)|(simp[results,Tryz.results82,go_sem,bZ,Q,S,V,X,Y,Z,d6,d7,d8,d9];first|rfl|exact⟨rfl,rfl⟩)) rfl (ad.out (⟨al,af,P,C,D,ae,B,O,M,z⟩,b') A3 au _ L.out ?_ ?_)
      ·refine Tn.ts (K:=[w.heap.size+1,w.heap.size+1+1]) ?_
       repeat with_reducible refine Tn.set ?_ (by simp) _
       exact HT.out
      ·repeat with_reducible first|exact Old.refl _|assumption|refine Old.setCell ?_ (by first|omega|(simp<;>omega)) _|refine Old.drewN ?_ _|refine Old.alloc ?_ _|refine Old.drew ?_
     ·obtain rfl:ap=false:=N.out.trans (decide_eq_false ab)
      by_cases k0:code=0
      ·have m0:(code==0)=true:=by simpa using k0
       have K0:=aJ k0
       clear k0;have L:Hid (ex=(⟨7,inc,R,since,times,0,false,0,false,false⟩,false)):=aJ (aa.out.trans ((if_neg ab).trans (if_pos K0.out)));clear aa;have y:=aJ (fun W=>i6 ⟨ph,inc,R,since,times,due,armed,rung,halt,again⟩ A' c' 7 W)
       rw[show Lf.rest ⟨ph,inc,R,since,times,due,armed,rung,halt,again⟩ 7=⟨7,inc,R,since,times,0,false,0,false,false⟩ from rfl] at y
       unfold bZ at y;simp only at y;go_wp2_with fail;refine(y.out _).mono ?_;rintro e _ ⟨rfl,f⟩;have m:=aJ (d.out.up f);have r:=aJ (f.block p.out);have g:=aJ (f.block o.out);have ak:=u.up f;clear f u y d p o;have HT:=aJ (m.out.tn2 r.out (by decide) g.out (by decide))
       obtain⟨⟨Q,S,V,X,Y,Z,d6,d7,d8,d9⟩,_,_,_,_,_,_,_,_,_,_⟩:=bq g.out;clear m r g;go_wp2_with fail;refine aP (by first|(simp[results,Tryz.results82,go_sem,bZ,Q,S,V,X,Y,Z,d6,d7,d8,d9];done)|(simp[results,Tryz.results82,go_sem,bZ,Q,S,V,X,Y,Z,d6,d7,d8,d9];first|rfl|exact⟨rfl,rfl⟩)) rfl (ad.out (⟨7,inc,R,since,times,0,false,0,false,false⟩,false) A' c' _ L.out ?_ ?_)
       ·refine Tn.ts (K:=[w.heap.size+1,w.heap.size+1+1]) ?_
        repeat with_reducible refine Tn.set ?_ (by simp) _
        exact HT.out
       ·repeat with_reducible first|exact Old.refl _|assumption|refine Old.setCell ?_ (by first|omega|(simp<;>omega)) _|refine Old.drewN ?_ _|refine Old.alloc ?_ _|refine Old.drew ?_
      ·have m0:(code==0)=false:=by simpa using k0
       have L:Hid (ex=(⟨8,inc,R,since,times,0,false,0,false,false⟩,false)):=aJ (aa.out.trans ((if_neg ab).trans (if_neg k0)))
       clear aa;have y:=aJ (fun W=>i6 ⟨ph,inc,R,since,times,due,armed,rung,halt,again⟩ A' c' 8 W)
       rw[show Lf.rest ⟨ph,inc,R,since,times,due,armed,rung,halt,again⟩ 8=⟨8,inc,R,since,times,0,false,0,false,false⟩ from rfl] at y
       unfold bZ at y;simp only at y;go_wp2_with fail;refine(y.out _).mono ?_;rintro e _ ⟨rfl,f⟩;have m:=aJ (d.out.up f);have r:=aJ (f.block p.out);have g:=aJ (f.block o.out);have ak:=u.up f;clear f u y d p o;have HT:=aJ (m.out.tn2 r.out (by decide) g.out (by decide))
       obtain⟨⟨Q,S,V,X,Y,Z,d6,d7,d8,d9⟩,_,_,_,_,_,_,_,_,_,_⟩:=bq g.out;clear m r g;go_wp2_with fail;refine aP (by first|(simp[results,Tryz.results82,go_sem,bZ,Q,S,V,X,Y,Z,d6,d7,d8,d9];done)|(simp[results,Tryz.results82,go_sem,bZ,Q,S,V,X,Y,Z,d6,d7,d8,d9];first|rfl|exact⟨rfl,rfl⟩)) rfl (ad.out (⟨8,inc,R,since,times,0,false,0,false,false⟩,false) A' c' _ L.out ?_ ?_)
       ·refine Tn.ts (K:=[w.heap.size+1,w.heap.size+1+1]) ?_
        repeat with_reducible refine Tn.set ?_ (by simp) _
        exact HT.out
       ·repeat with_reducible first|exact Old.refl _|assumption|refine Old.setCell ?_ (by first|omega|(simp<;>omega)) _|refine Old.drewN ?_ _|refine Old.alloc ?_ _|refine Old.drew ?_
  obtain rfl:ao=false:=N.out.trans (decide_eq_false ag)
  by_cases h6:ph=6
  ·subst h6;have ai:(Lf.ended ⟨6,inc,runs,since,times,due,armed,rung,halt,again⟩).times=times:=Lf.len_ended _;have y:=aJ (fun W=>mN ⟨6,inc,runs,since,times,due,armed,rung,halt,again⟩ A' c' W)
   have L:Hid (Lf.exit (Jd.j ⟨nm,run,eA,env,ec,nA,needs,nc,hasR,b,restart,base,cap,stable,burst,win,lA,lad,lc,line,col⟩) ⟨6,inc,runs,since,times,due,armed,rung,halt,again⟩ code now jit=(Lf.ended ⟨6,inc,runs,since,times,due,armed,rung,halt,again⟩,false)):=aJ rfl
   generalize Lf.ended _=q at *;obtain⟨al,af,P,C,D,ae,B,O,M,z⟩:=q;simp only at ai;subst ai;unfold bZ at y;simp only at y;go_wp2_with fail;refine(y.out _).mono ?_;rintro e _ ⟨rfl,f⟩;have m:=aJ (d.out.up f);have r:=aJ (f.block p.out);have g:=aJ (f.block o.out);have ak:=u.up f;clear f u y d p o;have HT:=aJ (m.out.tn2 r.out (by decide) g.out (by decide))
   obtain⟨⟨Q,S,V,X,Y,Z,d6,d7,d8,d9⟩,_,_,_,_,_,_,_,_,_,_⟩:=bq g.out;clear m r g;go_wp2_with fail;refine aP (by first|(simp[results,Tryz.results82,go_sem,bZ,Q,S,V,X,Y,Z,d6,d7,d8,d9];done)|(simp[results,Tryz.results82,go_sem,bZ,Q,S,V,X,Y,Z,d6,d7,d8,d9];first|rfl|exact⟨rfl,rfl⟩)) rfl (ad.out (⟨al,af,P,C,D,ae,B,O,M,z⟩,false) A' c' _ L.out ?_ ?_)
   ·refine Tn.ts (K:=[w.heap.size+1,w.heap.size+1+1]) ?_
    repeat with_reducible refine Tn.set ?_ (by simp) _
    exact HT.out
   ·repeat with_reducible first|exact Old.refl _|assumption|refine Old.setCell ?_ (by first|omega|(simp<;>omega)) _|refine Old.drewN ?_ _|refine Old.alloc ?_ _|refine Old.drew ?_
  have n6:(ph==6)=false:=by simpa using h6
  have HT:=aJ (d.out.tn2 p.out (by decide) o.out (by decide))
  obtain⟨⟨Q,S,V,X,Y,Z,d6,d7,d8,d9⟩,_,_,_,_,_,_,_,_,_,_⟩:=bq o.out;clear d p o;go_wp2_with fail;refine aP (by first|(simp[results,Tryz.results82,go_sem,bZ,Q,S,V,X,Y,Z,d6,d7,d8,d9];done)|(simp[results,Tryz.results82,go_sem,bZ,Q,S,V,X,Y,Z,d6,d7,d8,d9];first|rfl|exact⟨rfl,rfl⟩)) rfl (ad.out (⟨ph,inc,runs,since,times,due,armed,rung,halt,again⟩,false) A' c' _ (by show Lf.exit (Jd.j ⟨nm,run,eA,env,ec,nA,needs,nc,hasR,b,restart,base,cap,stable,burst,win,lA,lad,lc,line,col⟩) ⟨ph,inc,runs,since,times,due,armed,rung,halt,again⟩ code now jit=_;unfold Lf.exit;rw[if_neg (by simp only;omega),if_neg (by simp only;omega)]) ?_ ?_)
  ·refine Tn.ts (K:=[w.heap.size+1,w.heap.size+1+1]) ?_
   repeat with_reducible refine Tn.set ?_ (by simp) _
   exact HT.out
  ·repeat with_reducible first|exact Old.refl _|assumption|refine Old.setCell ?_ (by first|omega|(simp<;>omega)) _|refine Old.drewN ?_ _|refine Old.alloc ?_ _|refine Old.drew ?_
theorem Br (j:Jd) (x:Lf.T) (A:Option Addr) (c:Nat) (w:World) (hj:JdOk w j) (hx:Lf.Ok x) (hr:Ts w 29 A (ax x.times)) (hl:x.times.length≤68719476000):
  Calls Tryz.prog 88 #[fU j,bZ x A c] w (C5 w (Lf.fire j.j x).1 (Lf.fire j.j x).2):=by
 have D:Hid (∀(q:Lf.T×Int) A' c' w',Lf.fire j.j x=q→Ts w' 29 A' (ax q.1.times)→Old w w'→C5 w (Lf.fire j.j x).1 (Lf.fire j.j x).2 (.returned (.tuple #[bZ q.1 A' c',.int .i64 q.2])) w'):=aJ (fun q A' c' w' h1 h2 h3=>by subst h1;exact⟨A',c',rfl,h2,h3⟩)
 have m:=aJ (fun W (h:Old w W)=>pr x A c W (hr.up h) hl)
 clear hr;have HJ:=aJ hj;clear hj;unfold xu bZ at m;unfold bZ fU;go_enter Tryz.func88,Tryz.ntmps88;go_upto_region 1 with fail
 go_cut [] (fun wx=>∃(A':Option Addr) (c':Nat),LS3 w wx j x A' c')
 case first=>
  go_wp2_with fail;refine(m.out _ ((((Old.refl w).alloc _).alloc _).alloc _)).mono ?_;rintro e w2 ⟨A2,c2,rfl,ht,hd⟩;obtain⟨b1,b2,b3,L⟩:=gD hd;obtain⟨⟨_,c1,_,_,c4,_,_,_,_,_⟩,_,f1,f2,_,_,_,_,_,_,_⟩:=bq b2;have HX:Hid (LS3 w (iP w2 (w.heap.size+1) (.int .i64 x.ph) (.int .i64 x.inc) (.int .i64 x.runs) (.int .u64 x.since) (.slice A2 x.times.length c2) (.int .u64 x.due) (.bool x.armed) (.int .i64 x.rung) (.bool x.halt) (.bool x.again)) j x A2 c2):=
   aJ ⟨(dg (by omega)).trans b1,gj b2,(dg (by omega)).trans b3,gn L (by omega),(il (ht.tn2 b2 (by decide) b3 (by decide)) (by simp)).ts⟩
  clear ht hd b1 b2 b3 m;go_wp2_with fail;go_meet
  case rel=>exact⟨A2,c2,HX.out⟩
 case rest=>
  obtain⟨A',c',Q⟩:=hcut;have i:=aJ Q;clear Q;obtain⟨nm,run,eA,env,ec,nA,needs,nc,hasR,a,restart,base,cap,stable,burst,win,lA,lad,lc,line,col⟩:=j;obtain⟨ph,inc,runs,since,times,due,armed,rung,halt,again⟩:=x;have b1:wc.heap[w.heap.size]? =some (.cells #[.string nm,.string run,.slice eA env.length ec,.slice nA needs.length nc,.bool hasR,.string a,.int .i64 restart,.int .u64 base,.int .u64 cap,.int .u64 stable,.int .i64 burst,.int .u64 win,.slice lA lad.length lc,.int .i64 line,.int .i64 col] 32 (0,0)):=i.out.bj;have b2:wc.heap[w.heap.size+1]? =some (.cells #[.int .i64 ph,.int .i64 inc,.int .i64 runs,.int .u64 since,.slice A' times.length c',.int .u64 due,.bool armed,.int .i64 rung,.bool halt,.bool again] 105 (0,0)):=i.out.bl;have b3:wc.heap[w.heap.size+1+1]? =some (.cells #[.int .i64 0,.int .i64 0,.int .i64 0,.int .u64 0,.slice none 0 0,.int .u64 0,.bool false,.int .i64 0,.bool false,.bool false] 105 (0,0)):=i.out.br;have S:Ts wc 29 A' (ax times):=i.out.ts;have L:Old w wc:=i.out.old;obtain⟨⟨_,_,_,_,_,_,_,_,_,_,_,_,_,_,_⟩,_⟩:=ij b1;obtain⟨⟨_,c1,c2,_,c4,_,_,_,_,_⟩,_,f1,f2,_,_,_,_,_,_,_⟩:=bq b2;have aa:=b1;have I:=aJ b2;have C:=aJ b3;have d:=aJ S;clear b1 b2 b3 S i
  by_cases Z:ph=5
  ·subst Z;have l:=aJ (fun W=>i6 ⟨5,inc,runs,since,times,due,armed,rung,halt,again⟩ A' c' 1 W)
   rw[show Lf.rest ⟨5,inc,runs,since,times,due,armed,rung,halt,again⟩ 1=⟨1,inc,runs,since,times,0,false,0,false,false⟩ from rfl] at l
   unfold bZ at l;simp only at l;go_wp2_with fail;refine(l.out _).mono ?_;rintro e _ ⟨rfl,b⟩;have f:=aJ (d.out.up b);have k:=aJ (b.block I.out);have g:=aJ (b.block C.out);have X:=L.up b;clear b L l d I C;have J:=aJ (f.out.tn2 k.out (by decide) g.out (by decide))
   obtain⟨⟨n,o,p,r,s,t,u,y,z,B⟩,_,_,_,_,_,_,_,_,_,_⟩:=bq g.out;clear f k g;go_wp2_with fail;refine aP (by first|(simp[results,Tryz.results88,go_sem,bZ,n,o,p,r,s,t,u,y,z,B];done)|(simp[results,Tryz.results88,go_sem,bZ,n,o,p,r,s,t,u,y,z,B];first|rfl|exact⟨rfl,rfl⟩)) rfl (D.out (⟨1,inc,runs,since,times,0,false,0,false,false⟩,0) A' c' _ rfl ?_ ?_)
   ·refine Tn.ts (K:=[w.heap.size+1,w.heap.size+1+1]) ?_
    repeat with_reducible refine Tn.set ?_ (by simp) _
    exact J.out
   ·repeat with_reducible first|exact Old.refl _|assumption|refine Old.setCell ?_ (by first|omega|(simp<;>omega)) _|refine Old.drewN ?_ _|refine Old.alloc ?_ _|refine Old.drew ?_
  have n5:(ph==5)=false:=by simpa using Z
  by_cases h6:ph=6
  ·subst h6;cases armed with
   |true=>
    have l:=aJ (fun W (h:Old w W)=>r9 ⟨nm,run,eA,env,ec,nA,needs,nc,hasR,a,restart,base,cap,stable,burst,win,lA,lad,lc,line,col⟩ ⟨6,inc,runs,since,times,due,true,rung,halt,again⟩ A' c' due W (HJ.out.up h) hx.2.1)
    have R:(Lf.climb (Jd.j ⟨nm,run,eA,env,ec,nA,needs,nc,hasR,a,restart,base,cap,stable,burst,win,lA,lad,lc,line,col⟩) ⟨6,inc,runs,since,times,due,true,rung,halt,again⟩ due).1.times=times:=rfl
    have V:Hid (Lf.fire (Jd.j ⟨nm,run,eA,env,ec,nA,needs,nc,hasR,a,restart,base,cap,stable,burst,win,lA,lad,lc,line,col⟩) ⟨6,inc,runs,since,times,due,true,rung,halt,again⟩=((Lf.climb (Jd.j ⟨nm,run,eA,env,ec,nA,needs,nc,hasR,a,restart,base,cap,stable,burst,win,lA,lad,lc,line,col⟩) ⟨6,inc,runs,since,times,due,true,rung,halt,again⟩ due).1,(Lf.climb (Jd.j ⟨nm,run,eA,env,ec,nA,needs,nc,hasR,a,restart,base,cap,stable,burst,win,lA,lad,lc,line,col⟩) ⟨6,inc,runs,since,times,due,true,rung,halt,again⟩ due).2)):=aJ (rfl)
    generalize Lf.climb (Jd.j ⟨nm,run,eA,env,ec,nA,needs,nc,hasR,a,restart,base,cap,stable,burst,win,lA,lad,lc,line,col⟩) ⟨6,inc,runs,since,times,due,true,rung,halt,again⟩ due=q at *;obtain⟨⟨Y,U,O,G,H,P,F,N,M,E⟩,s'⟩:=q;simp only at R;subst R;unfold bZ at l
    try unfold fU at l
    simp only at l
    go_wp2_with fail;refine(l.out _ L).mono ?_;rintro e _ ⟨rfl,b⟩;have f:=aJ (d.out.up b);have k:=aJ (b.block I.out);have g:=aJ (b.block C.out);have X:=L.up b;clear b L l d I C;have J:=aJ (f.out.tn2 k.out (by decide) g.out (by decide))
    obtain⟨⟨n,o,p,r,s,t,u,y,z,B⟩,_,_,_,_,_,_,_,_,_,_⟩:=bq g.out;clear f k g;go_wp2_with fail;refine aP (by first|(simp[results,Tryz.results88,go_sem,bZ,n,o,p,r,s,t,u,y,z,B];done)|(simp[results,Tryz.results88,go_sem,bZ,n,o,p,r,s,t,u,y,z,B];first|rfl|exact⟨rfl,rfl⟩)) rfl (D.out (⟨Y,U,O,G,H,P,F,N,M,E⟩,s') A' c' _ V.out ?_ ?_)
    ·refine Tn.ts (K:=[w.heap.size+1,w.heap.size+1+1]) ?_
     repeat with_reducible refine Tn.set ?_ (by simp) _
     exact J.out
    ·repeat with_reducible first|exact Old.refl _|assumption|refine Old.setCell ?_ (by first|omega|(simp<;>omega)) _|refine Old.drewN ?_ _|refine Old.alloc ?_ _|refine Old.drew ?_
   |false=>
    have J:=aJ (d.out.tn2 I.out (by decide) C.out (by decide))
    obtain⟨⟨n,o,p,r,s,t,u,y,z,B⟩,_,_,_,_,_,_,_,_,_,_⟩:=bq C.out;clear d I C;go_wp2_with fail;refine aP (by first|(simp[results,Tryz.results88,go_sem,bZ,n,o,p,r,s,t,u,y,z,B];done)|(simp[results,Tryz.results88,go_sem,bZ,n,o,p,r,s,t,u,y,z,B];first|rfl|exact⟨rfl,rfl⟩)) rfl (D.out (⟨6,inc,runs,since,times,due,false,rung,halt,again⟩,0) A' c' _ rfl ?_ ?_)
    ·refine Tn.ts (K:=[w.heap.size+1,w.heap.size+1+1]) ?_
     repeat with_reducible refine Tn.set ?_ (by simp) _
     exact J.out
    ·repeat with_reducible first|exact Old.refl _|assumption|refine Old.setCell ?_ (by first|omega|(simp<;>omega)) _|refine Old.drewN ?_ _|refine Old.alloc ?_ _|refine Old.drew ?_
  have n6:(ph==6)=false:=by simpa using h6
  have J:=aJ (d.out.tn2 I.out (by decide) C.out (by decide))
  obtain⟨⟨n,o,p,r,s,t,u,y,z,B⟩,_,_,_,_,_,_,_,_,_,_⟩:=bq C.out;clear d I C;go_wp2_with fail;refine aP (by first|(simp[results,Tryz.results88,go_sem,bZ,n,o,p,r,s,t,u,y,z,B];done)|(simp[results,Tryz.results88,go_sem,bZ,n,o,p,r,s,t,u,y,z,B];first|rfl|exact⟨rfl,rfl⟩)) rfl (D.out (⟨ph,inc,runs,since,times,due,armed,rung,halt,again⟩,0) A' c' _ (by show Lf.fire (Jd.j ⟨nm,run,eA,env,ec,nA,needs,nc,hasR,a,restart,base,cap,stable,burst,win,lA,lad,lc,line,col⟩) ⟨ph,inc,runs,since,times,due,armed,rung,halt,again⟩=_;unfold Lf.fire;rw[if_neg (by simp only;omega),if_neg (by simp only;omega)]) ?_ ?_)
  ·refine Tn.ts (K:=[w.heap.size+1,w.heap.size+1+1]) ?_
   repeat with_reducible refine Tn.set ?_ (by simp) _
   exact J.out
  ·repeat with_reducible first|exact Old.refl _|assumption|refine Old.setCell ?_ (by first|omega|(simp<;>omega)) _|refine Old.drewN ?_ _|refine Old.alloc ?_ _|refine Old.drew ?_
def uw (w0:World) (B:BP) (g pb pc:Nat) (oA:Option Addr) (oc:Nat) (mp:Value) (s:Oc.St) (e:Ending) (w':World):Prop:=
 e= .returned (.tuple #[])∧∃dv' a b,SG w0 w' B g pb pc oA oc mp dv' a b s
section
variable {w0 w w' : World} {B : BP} {g pb pc : Nat} {oA : Option Addr} {oc : Nat} {mp dv av : Value} {m : Nat → Pm} {s : Oc.St}
theorem JT.ok {j:Jd} (h:JT w j) (hj:Oc.JOk j):JdOk w j:=⟨h.lad,by have:=hj.few;omega,hj.lad,hj.base,hj.cap,hj.stable,hj.win⟩
theorem SG.setX (h:SG w0 w B g pb pc oA oc mp dv av m s) {i:Nat} (a:i<s.pl.length) {x:Lf.T} {A:Option Addr} {c:Nat} (f:Ts w 29 A (ax x.times)):
  SG w0 (w.setCells pb (i*28+15) (bf x A c)) B g pb pc oA oc mp dv av (xL m i {m i with tA:=A,tc:=c}) (Oc.setX s i x):=by
 rw[dS];exact h.setP a 15 (bf x A c) (by simp[bf]) (q:={Oc.p s i with x:=x}) (x:={m i with tA:=A,tc:=c}) rfl
  (fun d b=>by
   have b:d<10:=b
   rcases d with _|_|_|_|_|_|_|_|_|_|d<;>first|rfl|omega)
  (fun k hk hk2=>by
   have hk2:k<15∨25≤k:=hk2
   rcases hk2 with h|h
   ·unfold aH;rw[bJ (by exact h),bJ (by exact h)]
   ·obtain rfl|rfl|rfl:k=25∨k=26∨k=27:=by omega
    ·rfl
    ·rfl
    ·rfl)
  f ⟨rfl,rfl⟩ ⟨rfl,rfl⟩ (h.rows.outs i a) (fun k hk hne r h1=>h.rows.ap i k a hk (fun e=>hne e.symm) r h1)
theorem SG.thereX (h:SG w0 w B g pb pc oA oc mp dv av m s) {i:Nat} (a:i<s.pl.length) (k0 n:Nat) (hk:k0+n≤28):w.there pb (i*28+k0) n:=fun j hj=>by
 have b:k0+j<(aH (Oc.p s i) (m i)).length:=by rw[im];omega
 have h2:=h.pcell a (k0+j) (by omega) (bE b)
 rw[Nat.add_assoc];exact⟨by rw[h2.1];rfl,h2.2⟩
theorem SG.rngJ (h:SG w0 w B g pb pc oA oc mp dv av m s) {i:Nat} (a:i<s.pl.length):w.rangeAt pb (i*28) (ae (Oc.p s i).j):=fun j v hv=>by
 have hj:j<15:=by have:=(List.getElem?_eq_some_iff.mp hv).1;rw[cf] at this;exact this
 exact(h.pcell a j (by omega) (by unfold aH;rw[bJ (by rw[cf];exact hj)];exact hv)).1
theorem SG.rngL (h:SG w0 w B g pb pc oA oc mp dv av m s) {i:Nat} (a:i<s.pl.length):w.rangeAt pb (i*28+15) (bf (Oc.p s i).x (m i).tA (m i).tc):=fun j v hv=>by
 have hj:j<10:=(List.getElem?_eq_some_iff.mp hv).1
 rw[Nat.add_assoc];refine(h.pcell a (15+j) (by omega) ?_).1
 unfold aH;rw[List.getElem?_append_right (by rw[cf];omega),cf,show 15+j-15=j by omega,bJ (by exact hj)]
 exact hv
theorem cB:(Tryz.prog.info? 32).map (·.size)=some 15:=by kernel_rfl
theorem dZ:(Tryz.prog.info? 105).map (·.size)=some 10:=by kernel_rfl
theorem nM (x:Lf.T) (A:Option Addr) (c:Nat):(bf x A c).toArray.all (·.oneCell')=true:=by simp[bf,Value.oneCell']
end
def RgA (w9:World) (pb i:Nat) (X:Lf.T) (b bs:Bool) (va:Value) (W:World):Prop:=
 (b=false→Old w9 W)∧(b=true→bs=false→Old w9 W∧∃A c,va=bZ X A c∧Ts W 29 A (ax X.times))∧(bs=true→∃a A c,Old w9 a∧Ts a 29 A (ax X.times)∧W=a.setCells pb (i*28+15) (bf X A c))
section
variable {w9 W W2 : World} {pb i : Nat} {X : Lf.T} {va : Value}
theorem RgA.start (w9:World) (pb i:Nat) (X:Lf.T) (va:Value):RgA w9 pb i X false false va {w9 with drawn:=w9.drawn+1}:=
 ⟨fun _=>(Old.refl w9).drew,(fun e=>by cases e),(fun e=>by cases e)⟩
theorem RgA.grow (h:RgA w9 pb i X false false va W) (a:Old W W2):RgA w9 pb i X false false va W2:=
 ⟨fun _=>(h.1 rfl).up a,(fun e=>by cases e),(fun e=>by cases e)⟩
theorem RgA.call (h:RgA w9 pb i X false false va W) (a:Old W W2) {A:Option Addr} {c:Nat} (b:Ts W2 29 A (ax X.times)):RgA w9 pb i X true false (bZ X A c) W2:=
 ⟨(fun e=>by cases e),fun _ _=>⟨(h.1 rfl).up a,A,c,rfl,b⟩,(fun e=>by cases e)⟩
theorem RgA.st {A:Option Addr} {c:Nat} (va:Value) (a:Old w9 W) (b:Ts W 29 A (ax X.times)):RgA w9 pb i X true true va (W.setCells pb (i*28+15) (bf X A c)):=
 ⟨(fun e=>by cases e),(fun _ e=>by cases e),fun _=>⟨W,A,c,a,b,rfl⟩⟩
end
namespace Gp
def fresh (l:List Jd) (F:Nat→Bool) (j k:Nat):List Nat:=(List.range k).filter fun i=> !F i&&(needs l i).contains j
def mark (F:Nat→Bool) (N:List Nat):Nat→Bool:=fun i=>F i||N.contains i
def depsF (l:List Jd):Nat→List Nat→(Nat→Bool)→(Nat→Bool)
 |0,_,F=>F
 |_+1,[],F=>F
 |f+1,j::o,F=>depsF l f (o++fresh l F j l.length) (mark F (fresh l F j l.length))
def deps (l:List Jd) (i:Nat):List Nat:=(List.range l.length).filter (depsF l (l.length+1) [i] (fun _=>false))
def left_ (n:Nat) (F:Nat→Bool):Nat:=((List.range n).filter fun i=> !F i).length
theorem fresh_succ (l:List Jd) (F:Nat→Bool) (j k:Nat):fresh l F j (k+1)=fresh l F j k++(if(!F k&&(needs l k).contains j)=true then [k] else []):=by
 unfold fresh;rw[List.range_succ,List.filter_append]
 congr 1
 simp only[List.filter_cons,List.filter_nil]
theorem tI {l:List Jd} {F:Nat→Bool} {j k i:Nat} (h:i∈fresh l F j k):i<k∧F i=false:=by
 unfold fresh at h;obtain⟨h1,h2⟩:=List.mem_filter.mp h;simp at h2;exact⟨List.mem_range.mp h1,h2.1⟩
theorem mark_late {l:List Jd} {F:Nat→Bool} {j k:Nat}:mark F (fresh l F j k) k=F k:=by
 unfold mark;have:(fresh l F j k).contains k=false:=by
  rw[Bool.eq_false_iff];intro h;have h2:=(tI (List.contains_iff_mem.mp h)).1;omega
 rw[this,Bool.or_false]
theorem mark_nil (F:Nat→Bool):mark F []=F:=by funext i;simp[mark]
theorem fresh_zero (l:List Jd) (F:Nat→Bool) (j:Nat):fresh l F j 0=[]:=rfl
theorem nU {α:Type} (P Q:α→Bool) (l:List α):(l.filter P).length=(l.filter (fun x=>P x&&Q x)).length+(l.filter (fun x=>P x&& !Q x)).length:=by
 induction l with
 |nil=>rfl
 |cons x l ih=>
  simp only[List.filter_cons];cases P x<;>cases Q x<;>simp<;>omega
theorem left_mark (l:List Jd) (F:Nat→Bool) (j:Nat):left_ l.length (mark F (fresh l F j l.length))+(fresh l F j l.length).length=left_ l.length F:=by
 unfold left_;rw[nU (fun i=> !F i) (fun i=>(needs l i).contains j) (List.range l.length)]
 have e:(List.range l.length).filter (fun i=> !F i&&(needs l i).contains j)=fresh l F j l.length:=rfl
 rw[e];have a:(List.range l.length).filter (fun i=> !mark F (fresh l F j l.length) i)=(List.range l.length).filter (fun i=> !F i&& !(needs l i).contains j):=by
  apply List.filter_congr;intro i b;unfold mark;have:(fresh l F j l.length).contains i=(!F i&&(needs l i).contains j):=by
   rw[Bool.eq_iff_iff,List.contains_iff_mem];unfold fresh;rw[List.mem_filter];simp[List.mem_range.mp b]
  rw[this];cases F i<;>cases (needs l i).contains j<;>rfl
 rw[a];omega
end Gp
def qY (F:Nat→Bool) (n:Nat):List Bool:=(List.range n).map F
theorem jG (F:Nat→Bool) {n i:Nat} (h:i<n):(jF (qY F n))[i]? =some (.bool (F i)):=by simp[jF,qY,h]
theorem tJ (F:Nat→Bool) (N:List Nat) (n k:Nat):(jF (qY (Gp.mark F N) n)).set k (.bool true)=jF (qY (Gp.mark F (N++[k])) n):=by
 apply List.ext_getElem?;intro i;rw[List.getElem?_set]
 by_cases a:i<n
 ·rw[jG _ a]
  by_cases e:k=i
  ·subst e;rw[if_pos rfl,if_pos (by simp[jF,qY,a]),jG _ a]
   simp[Gp.mark]
  ·rw[if_neg e,jG _ a];have:Gp.mark F (N++[k]) i=Gp.mark F N i:=by
    unfold Gp.mark;rw[Bool.eq_iff_iff];simp[show¬i=k from fun h=>e h.symm]
   rw[this]
 ·rw[bI (l:=jF (qY (Gp.mark F (N++[k])) n)) (by simp[jF,qY];omega)]
  split
  ·rw[if_neg (by simp[jF,qY];omega)]
  ·rw[bI (by simp[jF,qY];omega)]
def DT (a:World) (l:List Jd) (b:Nat) (o:List Nat) (F:Nat→Bool) (v7:Value) (wr:World):Prop:=
 Qw wr a.heap.size 3 v7 o.length (aY (aW o))∧Own wr a.heap.size 4 1 (.slice (some ⟨b,0,none⟩) l.length l.length) l.length (jF (qY F l.length))∧Old a wr
def DM (b:World) (l:List Jd) (a:Nat) (R:Nat→Bool) (gk:Nat) (v7:Value) (wr:World):Prop:=
 ∃o F,gk=o.length+Gp.left_ l.length F∧Hid (DT b l a o F v7 wr)∧Hid (Gp.depsF l gk o F=R)∧gk≤l.length+1
def C8 (c:World) (l:List Jd) (b:Nat) (j:Nat) (o:List Nat) (F:Nat→Bool) (v7 a:Value) (wr:World):Prop:=
 ∃k:Nat,k≤l.length∧a= .int .i64 k∧Hid (DT c l b (o++Gp.fresh l F j k) (Gp.mark F (Gp.fresh l F j k)) v7 wr)
def Dh (c:World) (l:List Jd) (d:Nat) (R:Nat→Bool) (a b:Value) (wr:World):Prop:=
 ∃k:Nat,k≤l.length∧b= .int .i64 k∧Hid (Own wr c.heap.size 3 1 a ((List.range k).filter R).length (aY (aW ((List.range k).filter R))))∧Hid (Own wr c.heap.size 4 1 (.slice (some ⟨d,0,none⟩) l.length l.length) l.length (jF (qY R l.length)))∧Hid (Old c wr)
theorem za (R:Nat→Bool) (k:Nat):((List.range k).filter R).length≤k:=bN (List.length_filter_le _ _) (by simp)
theorem wj (l:List Jd) (F:Nat→Bool) (j k:Nat):(Gp.fresh l F j k).length≤k:=bN (List.length_filter_le _ _) (by simp)
theorem po (a b:List Nat):aY (aW (a++b))=aY (aW a)++aY (aW b):=by simp[aY,aW]
theorem pd {w w':World} (a:w.grownBy w' none):Old w w':=grown_old (Old.refl w) a (fun q e=>by cases e)
theorem Be {w:World} {a:Nat} {e:TypeId} {v:Value} {n:Nat} {xs:List Value} (h:Qw w a e v n xs):v.ownBlock=none∨∃q cur,v.ownBlock=some q∧w.heap[q]? =some (.cells cur e (0,0)):=by
 rcases h.2 with⟨rfl,_⟩|⟨q,off,cap,cur,rfl,c,b,_⟩
 ·exact bX rfl
 ·exact bY ⟨q,cur,by simp[Value.ownBlock],b⟩
theorem BJ (A:Option Addr) (c:Nat) (l:List Jd) (i:Nat) (w:World) (hl:JL w A l) (hi:i<l.length) (hn:l.length≤1000000) (hb:∀j∈l,j.needs.length≤1000000):
  Calls Tryz.prog 36 #[.slice A l.length c,.int .i64 (i:Int)] w (me w 3 1 (Gp.deps l i).length (aY (aW (Gp.deps l i)))):=by
 have X:=aJ (wh A c l w hl hn hb)
 have aa:Hid (∀k,(Gp.needs l k).length≤1000000):=aJ (fun k=>bN (bN (List.length_filter_le _ _) (by simp)) hn)
 clear hl hb;go_enter Tryz.func36,Tryz.ntmps36;go_wp2_with fail;refine(X.out).mono ?_;rintro e d ⟨ga,_,cells,rfl,al,aj,ag⟩;have ab:=aJ al;have Z:=aJ aj;have Y:=aJ ag;clear al aj ag X;go_wp2_with (at_make;refine dj rfl _ _ 124 rfl 4 (.bool false) 1 1 Tryz.underlying124 pD (by decide) .i64 .i64 _ _ l.length rfl rfl ?pl3 ?pc3 ?pn3 ?_)
 case pl3=>omega
 case pc3=>omega
 case pn3=>omega
 intro w2 Q af;have M:=aJ af;have J:jF (qY (fun _=>false) l.length)=(madeCells #[Value.bool false] l.length).toList:=by
  unfold madeCells;rw[Array.toList_map,Array.toList_range];apply List.ext_getElem
  ·simp[jF,qY]
  ·intro i h1 h2;simp[jF,qY,Nat.mod_one]
 rw[←J] at Q;have r:=aJ Q;clear Q af J;have b:Hid (DM d l d.heap.size (Gp.depsF l (l.length+1) [i] (fun _=>false)) (l.length+1) (.slice (some ⟨w2.heap.size,0,none⟩) 1 1) (w2.alloc (.cells #[.int .i64 (i:Int)] 3))):=aJ (by
  have P:Gp.left_ l.length (fun _=>false)=l.length:=by
   unfold Gp.left_;have e:(List.range l.length).filter (fun i=> !(fun x:Nat=>false) i)=List.range l.length:=List.filter_eq_self.mpr (fun x _=>rfl)
   rw[e,List.length_range]
  refine⟨[i],fun _=>false,by rw[P];simp;omega,aJ ⟨⟨by simp[aY,aW],bY ⟨w2.heap.size,0,1,_,rfl,M.out.size,aM _ _,bM _,by simp,by decide,fun j hj=>?_⟩⟩,r.out.alloc _,M.out.alloc _⟩,aJ rfl,bM _⟩
  have:j=0:=by simpa using hj
  subst this
  rfl)
 obtain⟨f,ah⟩:∃g,g=d.heap.size:=⟨_,rfl⟩
 have aq:Hid (Gp.deps l i=(List.range l.length).filter (Gp.depsF l (l.length+1) [i] (fun _=>false))):=aJ rfl
 generalize Gp.depsF l (l.length+1) [i] (fun _=>false)=R at *
 rw[←ah] at b ⊢;clear r M ah;go_wp2_with fail;go_loopg [7] (l.length+1) (fun gk v7 wr=>DM d l f R gk v7 wr)
 case atStart=>exact b.out
 case round=>
  clear b;obtain⟨o,F,y,B,z,P⟩:=hrel;obtain⟨C,u,s⟩:=B.out;obtain⟨V,E,rfl,T,_,_⟩:=C.shape;cases o with
  |nil=>
   clear T Z ab aa;rw[show([]:List Nat).length=0 from rfl]
   have ar:F=R:=by
    have h:=z.out
    rw[y] at h;simp only[List.length_nil,Nat.zero_add] at h;cases ai:Gp.left_ l.length F with
    |zero=>rw[ai] at h;exact h
    |succ n=>rw[ai] at h;exact h
   subst ar;have b:Hid (Dh d l f F (.slice none 0 0) (.int .i64 ((0:Nat):Int)) wr):=aJ ⟨0,bO _,rfl,aJ (Own.nil_ _ _ _ _),aJ u,aJ s⟩;clear B z C u s y P;go_upto_block 4 with fail
   go_wp2_with fail;go_loopw [10,56] (fun ax az wr=>Dh d l f F ax az wr) (fun _ x _=>l.length-(intOf x).toNat)
   case atStart=>exact b.out
   case round=>
    clear b;obtain⟨k,hk,rfl,G,H,z⟩:=hrel
    by_cases L:k<l.length
    ·obtain⟨N,_⟩:=H.out.cellAt (jG F L);have aB:=za F k;cases hv:F k with
     |false=>
      rw[hv] at N;have e:(List.range (k+1)).filter F=(List.range k).filter F:=by rw[List.range_succ,List.filter_append];simp[hv]
      have t:Hid (Dh d l f F u10 (.int .i64 ((k+1:Nat):Int)) wr):=aJ ⟨k+1,by omega,rfl,by rw[e];exact G,H,z⟩
      clear G H z e;go_wp2_with fail;go_roundw
      case rel=>exact t.out
      case measure=>simp[intOf];omega
     |true=>
      rw[hv] at N;have e:(List.range (k+1)).filter F=(List.range k).filter F++[k]:=by rw[List.range_succ,List.filter_append];simp[hv]
      have D:Hid (d.heap.size≤wr.heap.size):=aJ z.out.size
      go_wp2_with (at_builtin;refine aE (wr:=wr) rfl _ _ 22 rfl _ 3 (.int .i64 0) 1 8 Tryz.underlying22 iK rfl (by decide) (by decide) _ _ _ rfl G.out 1 1 [.int .i64 (k:Int)] rfl rfl rfl rfl ?pn1 D.out ?_)
      case pn1=>omega
      intro v' w' s K hd;have t:Hid (Dh d l f F v' (.int .i64 ((k+1:Nat):Int)) w'):=aJ ⟨k+1,by omega,rfl,by rw[e,po];simp only[bF,List.length_cons,List.length_nil];exact aJ s,aJ (H.out.grown G.out (by decide) K),aJ (hd _ z.out (bM _))⟩
      clear G H z e s K hd D;go_wp2_with fail;go_roundw
      case rel=>exact t.out
      case measure=>simp[intOf];omega
    ·obtain rfl:k=l.length:=by omega
     have t:Hid (me w 3 1 (Gp.deps l i).length (aY (aW (Gp.deps l i))) (.returned u10) wr):=aJ ⟨u10,rfl,by rw[aq.out];exact G.out.base Y.out.size,Y.out.up z.out⟩
     clear G H z;go_wp2_with fail;go_ret;exact t.out
  |cons j o=>
   have an:Qw wr d.heap.size 3 (.slice (if E=1 then V else V.map (·.add 1)) (o.length+1-1) (E-1)) o.length (aY (aW o)):=Qw.tail (x:= .int .i64 (j:Int)) C
   obtain⟨b7,o7,rfl,_,ad⟩:=T.rs.at_ (by simp[aY,aW])
   have d0:=ad 0 (.int .i64 (j:Int)) rfl
   replace d0:wr.cell? ⟨b7,o7,none⟩=some (.int .i64 (j:Int)):=d0
   have ac:=aJ an
   have H:=aJ u
   have G:=aJ s
   have ap:Hid (Gp.depsF l (o.length+Gp.left_ l.length F) (o++Gp.fresh l F j l.length) (Gp.mark F (Gp.fresh l F j l.length))=R):=aJ (by
    rw[←z.out,y,List.length_cons,show o.length+1+Gp.left_ l.length F=(o.length+Gp.left_ l.length F)+1 by omega]
    rfl)
   have aC:o.length≤1000000:=by simp at y;omega
   have q2:(0:Int)<(o.length:Int)+1:=by omega
   have q3:1≤E:=by
    rcases C.2 with⟨h,_⟩|⟨_,_,cap,_,h,_,_,h2,_⟩
    ·cases h
    ·injection h with h1 h3 h4
     simp at h2
     omega
   clear B z C u s an T ad;rw[List.length_cons];go_upto_region 7 with fail
   have m:Hid (Qw wr d.heap.size 3 (.slice (if E=1 then some ⟨b7,o7,none⟩ else some ⟨b7,o7+1,none⟩) o.length (E-1)) o.length (aY (aW o))):=aJ (by
    have h:=ac.out
    rw[Option.map_some,Addr.add_lit,Nat.add_sub_cancel] at h;exact h)
   clear ac d0 q3;generalize (if E=1 then some (⟨b7,o7,none⟩:Addr) else some ⟨b7,o7+1,none⟩)=A8 at *
   generalize E-1=c8 at *;have b:Hid (C8 d l f j o F (.slice A8 o.length c8) (.int .i64 ((0:Nat):Int)) wr):=aJ ⟨0,bO _,rfl,aJ ⟨by rw[Gp.fresh_zero,List.append_nil];exact m.out,by rw[Gp.fresh_zero,Gp.mark_nil];exact H.out,G.out⟩⟩
   clear m H G;go_wp2_with fail;go_loopw [7,30] (fun v7 ay wr=>C8 d l f j o F v7 ay wr) (fun _ x _=>l.length-(intOf x).toNat)
   case atStart=>exact b.out
   case round=>
    clear b;obtain⟨k,hk,rfl,B⟩:=hrel
    by_cases L:k<l.length
    ·obtain⟨C,u,s⟩:=B.out;obtain⟨N,z1⟩:=u.cellAt (jG _ L);rw[Gp.mark_late] at N;obtain⟨V,E,rfl,_,_,_⟩:=C.shape;have a:=Gp.fresh_succ l F j k;have aA:(o++Gp.fresh l F j k).length≤68719476735:=by rw[bF];have:=wj l F j k;omega
     generalize ak:(o++Gp.fresh l F j k).length=no at *;cases hv:F k with
     |true=>
      rw[hv] at N;rw[hv] at a;simp only[Bool.not_true,Bool.false_and,Bool.false_eq_true,if_false,List.append_nil] at a;have t:Hid (C8 d l f j o F (.slice V no E) (.int .i64 ((k+1:Nat):Int)) wr):=aJ ⟨k+1,by omega,rfl,by rw[a];exact B⟩
      clear B C u s a z1;go_wp2_with fail;go_roundw
      case rel=>exact t.out
      case measure=>simp[intOf];omega
     |false=>
      rw[hv] at N;rw[hv] at a;simp only[Bool.not_false,Bool.true_and] at a;obtain⟨Ak,ck,O,U⟩:=Z.out.up s k L;obtain⟨d2,_⟩:=(ab.out.up s).cellAt O;have W:=aJ (CF Ak ck (Gp.needs l k) j wr U (aa.out k));cases hc:(Gp.needs l k).contains j with
      |false=>
       rw[hc] at W a;simp only[Bool.false_eq_true,if_false,List.append_nil] at a;have t:Hid (C8 d l f j o F (.slice V no E) (.int .i64 ((k+1:Nat):Int)) wr):=aJ ⟨k+1,by omega,rfl,by rw[a];exact B⟩
       clear B C u s a z1 O U;go_wp2_with fail;refine(W.out).mono ?_;rintro e w' ⟨rfl,rfl⟩;clear W;go_wp2_with fail;go_roundw
       case rel=>exact t.out
       case measure=>simp[intOf];omega
      |true=>
       rw[hc] at W a;simp only[if_true] at a;have au:=(bU u f rfl).1;have I:Hid (Own (wr.setCell ⟨f,k,none⟩ (.bool true)) d.heap.size 4 1 (.slice (some ⟨f,0,none⟩) l.length l.length) l.length (jF (qY (Gp.mark F (Gp.fresh l F j (k+1))) l.length))):=aJ (by rw[a,←tJ];exact(u.set_ k _).1)
       have m:Hid (Qw (wr.setCell ⟨f,k,none⟩ (.bool true)) d.heap.size 3 (.slice V no E) no (aY (aW (o++Gp.fresh l F j k)))):=aJ (by
        obtain⟨cs,ae⟩:∃cs,wr.heap[f]? =some (.cells cs 4 (0,0)):=by
         rcases u with⟨_,⟨e,_⟩|⟨q,cap,cu,e,_,av,_⟩⟩
         ·cases e
         ·injection e with J e2 e3
          injection J with J
          injection J with J
          subst J;exact⟨cu,av⟩
        refine C.kept (u.set_ k _).2 ?_;rcases C.2 with⟨e,_⟩|⟨q,off,cap,cur,e,_,S,_⟩
        ·rw[e];exact bX rfl
        ·right
         rw[e];intro e2;simp[Value.ownBlock] at e2;subst e2;rw[S] at ae;have hk2:=bQ ae;injection hk2 with J e3 e4
         exact absurd e3 (by decide))
       have r:Hid (Old d (wr.setCell ⟨f,k,none⟩ (.bool true))):=aJ (s.setCell (p:=⟨f,k,none⟩) au _)
       clear B C u s O U;go_wp2_with fail;refine(W.out).mono ?_;rintro e w' ⟨rfl,rfl⟩;clear W;go_upto_region 12 with fail
       obtain⟨w3,ao⟩:∃w3,w'.setCell ⟨f,k,none⟩ (.bool true)=w3:=⟨_,rfl⟩
       rw[ao] at I m r ⊢;clear ao N z1 d2;have D:Hid (d.heap.size≤w3.heap.size):=aJ r.out.size;go_wp2_with (at_builtin;refine nr (wr:=w3) rfl _ _ 22 rfl _ 3 (.int .i64 0) 8 Tryz.underlying22 iK rfl (by decide) _ _ _ rfl m.out 1 (.int .i64 (k:Int)) rfl rfl rfl ?pn2 D.out ?_)
       case pn2=>omega
       intro v' w5 am K;have aw:(o++Gp.fresh l F j (k+1)).length=no+1:=by rw[a,←List.append_assoc,bF,ak];rfl
       have t:Hid (C8 d l f j o F v' (.int .i64 ((k+1:Nat):Int)) w5):=aJ ⟨k+1,by omega,rfl,aJ ⟨by rw[aw,a,←List.append_assoc,po];exact am,by
        rcases Be m.out with e|⟨q,cur,e,S⟩
        ·rw[e] at K;exact I.out.up (pd K)
        ·rw[e] at K;exact I.out.kept_ K S (by decide),grown_old r.out K (fun q e=>(m.out.lt q e).1)⟩⟩
       clear I m r D am K a ak;go_wp2_with fail;go_roundw
       case rel=>exact t.out
       case measure=>simp[intOf];omega
    ·obtain rfl:k=l.length:=by omega
     have t:Hid (DM d l f R (o.length+Gp.left_ l.length F) u7 wr):=aJ ⟨_,_,by rw[bF];have:=Gp.left_mark l F j;omega,B,ap,by simp at y;omega⟩
     clear B;go_wp2_with fail;go_roundg (o.length+Gp.left_ l.length F)
     case rel=>exact t.out
     case measure=>simp at y;omega
theorem sh {l:List Jd} {nm:ByteArray} {i:Nat} (h:Gp.ix l nm=some i):(l.getD i dG).nm=nm:=by
 unfold Gp.ix at h;obtain⟨h1,h2,_⟩:=List.findIdx?_eq_some_iff_getElem.mp h;rw[bD,bE h1];simpa using h2
def vM (l:List Jd) (k:Nat) (nm:ByteArray):Option Nat:=(Gp.ix l nm).filter (fun i=>decide (i<k))
theorem pw (l:List Jd) (nm:ByteArray):vM l 0 nm=none:=by
 unfold vM;cases Gp.ix l nm<;>simp[Option.filter]
theorem sj {l:List Jd} (nm:ByteArray):vM l l.length nm=Gp.ix l nm:=by
 unfold vM;cases h:Gp.ix l nm with
 |none=>rfl
 |some i=>simp[Option.filter,Gp.ix_lt h]
theorem px {l:List Jd} {k:Nat} (hk:Gp.ix l (l.getD k dG).nm=some k) (nm:ByteArray):vM l (k+1) nm=if nm=(l.getD k dG).nm then some k else vM l k nm:=by
 unfold vM
 by_cases e:nm=(l.getD k dG).nm
 ·rw[if_pos e,e,hk];simp[Option.filter]
 ·rw[if_neg e];cases h:Gp.ix l nm with
  |none=>rfl
  |some i=>
   have hne:i≠k:=fun b=>e (by rw[←sh h,b])
   by_cases a:i<k
   ·simp[Option.filter,a,show i<k+1 by omega]
   ·simp[Option.filter,a,show¬i<k+1 by omega]
def ml (l:List Jd) (i:Nat):Oc.Pl:=⟨l.getD i dG,Lf.new,[]⟩
structure InM (w:World) (l:List Jd) (gp gm k k2:Nat) (m:Nat→Pm) (wr:World):Prop where
 old:Old w wr
 gpB:w.heap.size≤gp
 gmB:w.heap.size≤gm
 pl:∃cur,wr.heap[gp]? =some (.cells cur 108 (0,0))∧cur.size=l.length*28∧∀i,i<k→∀d,d<28→cur[i*28+d]? =(aH (ml l i) (m i))[d]?
 map:IMap wr gm k2 (vM l k2)
 needs:∀i,i<k→(m i).nl=Gp.needs l i∧Ts wr 3 (m i).nA (aY (aW (m i).nl))
 deps:∀i,i<k→Ts wr 3 (m i).dA (aY (aW (m i).dl))
 oa:∀i,i<k→(m i).oA=none∧(m i).oc=0
section
variable {w wr wr' : World} {l : List Jd} {gp gm k k2 : Nat} {m : Nat → Pm}
theorem InM.up (h:InM w l gp gm k k2 m wr) (a:Old wr wr'):InM w l gp gm k k2 m wr':=
 ⟨h.old.up a,h.gpB,h.gmB,h.pl.elim fun cur hc=>⟨cur,a.block hc.1,hc.2⟩,h.map.up a,fun i b=>⟨(h.needs i b).1,(h.needs i b).2.up a⟩,fun i b=>(h.deps i b).up a,h.oa⟩
theorem InM.there (h:InM w l gp gm k k2 m wr) {i:Nat} (b:i<l.length):wr.there gp (i*28) 28:=fun j hj=>by
 obtain⟨cur,a,hs,_⟩:=h.pl;exact⟨by rw[aK _ _ _ _ _ _ a,Array.getElem?_eq_getElem (by rw[hs];omega)];rfl,aN _ _ _ _ _ a⟩
theorem InM.st (h:InM w l gp gm k k m wr) (hk:k<l.length) {x:Pm} (hn:x.nl=Gp.needs l k∧Ts wr 3 x.nA (aY (aW x.nl))) (g:Ts wr 3 x.dA (aY (aW x.dl))) (j:x.oA=none∧x.oc=0):
  InM w l gp gm (k+1) k (xL m k x) (wr.setCells gp (k*28) (aH (ml l k) x)):=by
 obtain⟨cur,b,hs,hc⟩:=h.pl;rw[dS];have a:=fO gp (aH (ml l k) x) wr (k*28);have n:(aH (ml l k) x).length=28:=rfl;refine⟨h.old.putN h.gpB _ _,h.gpB,h.gmB,⟨kK cur (k*28) (aH (ml l k) x),lC (w:=wr) _ wr cur _ b,by rw[jO];exact hs,?_⟩,h.map.farG b a,?_,?_,?_⟩
 ·intro i f d c
  by_cases e:i=k
  ·subst e;rw[cw,nB _ _ _ _ (by omega) (by omega)]
  ·rw[aZ e,jn _ _ _ _ (by omega)]
   exact hc i (by omega) d c
 ·intro i f
  by_cases e:i=k
  ·subst e;rw[cw];exact⟨hn.1,hn.2.farG b a (by decide)⟩
  ·rw[aZ e];exact⟨(h.needs i (by omega)).1,(h.needs i (by omega)).2.farG b a (by decide)⟩
 ·intro i f
  by_cases e:i=k
  ·subst e;rw[cw];exact g.farG b a (by decide)
  ·rw[aZ e];exact(h.deps i (by omega)).farG b a (by decide)
 ·intro i f
  by_cases e:i=k
  ·subst e;rw[cw];exact j
  ·rw[aZ e];exact h.oa i (by omega)
theorem InM.put (h:InM w l gp gm (k+1) k m wr) (hk:k<l.length) (hn:l.length≤32) (o:Gp.ix l (l.getD k dG).nm=some k) (hs:(l.getD k dG).nm.size≤maxLen):
  ∃w',(Instr.mapUpdate 74 (.map (some gm)) (.string (l.getD k dG).nm) (.int .i64 k)).run Tryz.prog wr= .ok () w'∧InM w l gp gm (k+1) (k+1) m w'∧∀{q:Nat} {cs:Array Value} {t:TypeId} {z:Nat×Nat},wr.heap[q]? =some (.cells cs t z)→w'.heap[q]? =some (.cells cs t z):=by
 obtain⟨w',d,n,r⟩:=h.map.put (by omega) hs k (by omega)
 obtain⟨cur,j,hsz,hc⟩:=h.pl;have a:∀{q:Nat} {cs:Array Value} {t:TypeId} {z:Nat×Nat},wr.heap[q]? =some (.cells cs t z)→w'.heap[q]? =some (.cells cs t z):=by
  intro q cs t z p;refine(r.block q (aQ p) (fun e=>?_)).trans p
  injection e with e
  obtain⟨D,⟨es,_,c,_⟩,_⟩:=h.map;rw[←e,p] at c;exact absurd (bQ c) (by simp)
 have f:∀{e:TypeId} {A:Option Addr} {xs:List Value},Ts wr e A xs→Ts w' e A xs:=by
  intro e A xs x;rcases x with h1|⟨b,off,cur,fz,u,j,hc⟩
  ·exact bX h1
  ·exact bY ⟨b,off,cur,fz,u,a j,hc⟩
 exact⟨w',d,⟨grown_old h.old r (fun q e=>by injection e with e;rw[←e];exact h.gmB),h.gpB,h.gmB,⟨cur,a j,hsz,hc⟩,n.same (fun s=>px o s),fun i g=>⟨(h.needs i g).1,f (h.needs i g).2⟩,fun i g=>f (h.deps i g),h.oa⟩,a⟩
theorem InM.sg {w0 W':World} {g c:Nat} {oA:Option Addr} {oc:Nat} {z:Array Value} (h:InM w l gp gm l.length l.length m wr) (D:Old w0 w) (F:w0.heap.size≤g) (hj:∀j∈l,JT w j) (G:Ts wr 3 oA (aY (aW (Gp.order l)))) (hn:l.length≤32)
  (f:wr.heap[g]? =some (.cells z 76 (0,0))) (o:wr.grownBy W' (some g)) (C:Old w0 W') (B:W'.heap[g]? =some (.cells #[.slice (some ⟨gp,0,none⟩) l.length c,.slice oA (Gp.order l).length oc,.map (some gm),.int .u64 0,.slice none 0 0,.bool false,.bool false,.bool false,.slice none 0 0,.map none,.slice none 0 0] 76 (0,0))) (hc:l.length≤c):
  SG w0 W' ⟨W'.heap.size,[],[]⟩ g gp c oA oc (.map (some gm)) (.slice none 0 0) (.slice none 0 0) m (Oc.install l):=by
 have a:(Oc.install l).pl.length=l.length:=by simp[Oc.install]
 have x:∀i,i<l.length→Oc.p (Oc.install l) i=ml l i:=fun i b=>by
  unfold Oc.p Oc.install ml;simp[bD,b]
 have n:Oc.jobs (Oc.install l)=l:=by
  unfold Oc.jobs Oc.install;simp[Function.comp_def]
 have t:Oc.order (Oc.install l)=Gp.order l:=by unfold Oc.order;rw[n]
 refine⟨C,F,bN D.size h.gpB,?_,?_,by rw[a];exact hc,⟨by rw[t];exact G.farG f o (by decide),?_,?_,?_,?_,?_,Qw.nil_ _ _ _,?_⟩,Own.nil_ _ _ _ _,⟨C.size,bM _⟩,by rw[a];exact hn,⟨gm,l.length,rfl,by rw[n];exact(h.map.farG f o).same (fun s=>(sj s).symm)⟩,fun r A=>by simp at A,fun r A=>by simp at A⟩
 ·rw[a,t];exact B
 ·obtain⟨cur,u,hs,y⟩:=h.pl;have hne:gp≠g:=fun e=>by
   rw[e,f] at u;have h2:=bQ u;injection h2 with e1 e2 e3
   exact absurd e2 (by decide)
  refine⟨cur,(o.block gp (aQ u) (fun e=>by injection e with e;exact hne e)).trans u,by rw[a];exact hs,fun i b d E=>?_⟩
  rw[a] at b;rw[x i b];exact y i b d E
 ·intro i b;rw[a] at b;rw[x i b];exact(hj _ (by show l.getD i dG∈l;rw[bD,bE b];exact bH b)).up h.old|>.farG f o (by decide) (by decide) (by decide)
 ·intro i b;rw[a] at b;rw[x i b];exact bX rfl
 ·intro i b;rw[a] at b;rw[n];exact⟨(h.needs i b).1,(h.needs i b).2.farG f o (by decide)⟩
 ·intro i b;rw[a] at b;exact(h.deps i b).farG f o (by decide)
 ·intro i b;rw[a] at b;rw[x i b,(h.oa i b).1,(h.oa i b).2];exact Own.nil_ _ _ _ _
 ·intro i k b hk _ q h1;rw[a] at b;rw[(h.oa i b).1] at h1;cases h1
end
def RgI (w9:World) (l:List Jd) (gp k:Nat) (b3 b6 b9 b12:Bool) (vT vN vD:Value) (W:World):Prop:=
 (b12=false→Old w9 W)∧(b3=true→∃A c,vT= .slice A 0 c)∧(b6=true→∃A c,vN= .slice A (Gp.needs l k).length c∧(b12=false→Ts W 3 A (aY (aW (Gp.needs l k)))))∧
 (b9=true→∃A c,vD= .slice A (Gp.deps l k).length c∧(b12=false→Ts W 3 A (aY (aW (Gp.deps l k)))))∧
 (b12=true→∃a A2 c2 b e d c4,Old w9 a∧Ts a 3 b (aY (aW (Gp.needs l k)))∧Ts a 3 d (aY (aW (Gp.deps l k)))∧W=a.setCells gp (k*28) (aH (ml l k) ⟨A2,c2,none,0,b,e,Gp.needs l k,d,c4,Gp.deps l k⟩))
section
variable {w9 W W2 : World} {l : List Jd} {gp k : Nat} {b3 b6 b9 : Bool} {vT vN vD : Value}
theorem RgI.start (w9:World) (l:List Jd) (gp k:Nat) (vT vN vD:Value):RgI w9 l gp k false false false false vT vN vD {w9 with drawn:=w9.drawn+1}:=
 ⟨fun _=>(Old.refl w9).drew,(fun e=>by cases e),(fun e=>by cases e),(fun e=>by cases e),(fun e=>by cases e)⟩
theorem RgI.up (h:RgI w9 l gp k b3 b6 b9 false vT vN vD W) (a:Old W W2):RgI w9 l gp k b3 b6 b9 false vT vN vD W2:=
 ⟨fun _=>(h.1 rfl).up a,h.2.1,fun e=>(h.2.2.1 e).elim fun A h1=>h1.elim fun c h2=>⟨A,c,h2.1,fun _=>(h2.2 rfl).up a⟩,fun e=>(h.2.2.2.1 e).elim fun A h1=>h1.elim fun c h2=>⟨A,c,h2.1,fun _=>(h2.2 rfl).up a⟩,(fun e=>by cases e)⟩
theorem RgI.t (h:RgI w9 l gp k false b6 b9 false vT vN vD W) (a:Old W W2) (A:Option Addr) (c:Nat):RgI w9 l gp k true b6 b9 false (.slice A 0 c) vN vD W2:=
 ⟨(h.up a).1,fun _=>⟨A,c,rfl⟩,(h.up a).2.2.1,(h.up a).2.2.2.1,(fun e=>by cases e)⟩
theorem RgI.n (h:RgI w9 l gp k b3 false b9 false vT vN vD W) (a:Old W W2) {A:Option Addr} {c:Nat} (b:Ts W2 3 A (aY (aW (Gp.needs l k)))):RgI w9 l gp k b3 true b9 false vT (.slice A (Gp.needs l k).length c) vD W2:=
 ⟨(h.up a).1,h.2.1,fun _=>⟨A,c,rfl,fun _=>b⟩,(h.up a).2.2.2.1,(fun e=>by cases e)⟩
theorem RgI.d (h:RgI w9 l gp k b3 b6 false false vT vN vD W) (a:Old W W2) {A:Option Addr} {c:Nat} (b:Ts W2 3 A (aY (aW (Gp.deps l k)))):RgI w9 l gp k b3 b6 true false vT vN (.slice A (Gp.deps l k).length c) W2:=
 ⟨(h.up a).1,h.2.1,(h.up a).2.2.1,fun _=>⟨A,c,rfl,fun _=>b⟩,(fun e=>by cases e)⟩
theorem RgI.st {A2:Option Addr} {c2:Nat} {a:Option Addr} {c:Nat} {b:Option Addr} {c4:Nat} (h:RgI w9 l gp k true true true false (.slice A2 0 c2) (.slice a (Gp.needs l k).length c) (.slice b (Gp.deps l k).length c4) W):
  RgI w9 l gp k true true true true (.slice A2 0 c2) (.slice a (Gp.needs l k).length c) (.slice b (Gp.deps l k).length c4) (W.setCells gp (k*28) (aH (ml l k) ⟨A2,c2,none,0,a,c,Gp.needs l k,b,c4,Gp.deps l k⟩)):=by
 obtain⟨_,_,d,g⟩:=h.2.2.1 rfl;obtain⟨_,_,f,i⟩:=h.2.2.2.1 rfl;injection d with e31 e32 e33
 injection f with e41 e42 e43
 subst e31 e41;exact⟨(fun e=>by cases e),fun _=>⟨A2,c2,rfl⟩,fun _=>⟨a,c,rfl,fun e=>by cases e⟩,fun _=>⟨b,c4,rfl,fun e=>by cases e⟩,fun _=>⟨W,A2,c2,a,c,b,c4,h.1 rfl,g rfl,i rfl,rfl⟩⟩
end
theorem vR:(Tryz.prog.info? 108).map (fun i=>(i.zero,i.size,i.bytes))=some (some (.agg #[.string ⟨#[]⟩,.string ⟨#[]⟩,.slice none 0 0,.slice none 0 0,.bool false,.string ⟨#[]⟩,.int .i64 0,.int .u64 0,.int .u64 0,.int .u64 0,.int .i64 0,.int .u64 0,.slice none 0 0,.int .i64 0,.int .i64 0,.int .i64 0,.int .i64 0,.int .i64 0,.int .u64 0,.slice none 0 0,.int .u64 0,.bool false,.int .i64 0,.bool false,.bool false,.slice none 0 0,.slice none 0 0,.slice none 0 0]),28,352):=by kernel_rfl
theorem nE (n:Int) (w:World):(Instr.makeMap 74 (some (.int .i64 n))).run Tryz.prog w= .ok (.map (some w.heap.size)) (w.alloc (.map #[] 0)):=by kernel_rfl
theorem nP (j:Jd):(ae j).toArray.all (·.oneCell')=true:=by simp[ae,Value.oneCell']
def CV (w9:World) (l:List Jd) (b off c gp gm k kj:Nat) (j:Jd) (p0 p2 p3 p8 p9 f g h i m n o p q r s t u w x y z A B C D E F G H I J K L M N O P Q R S T U V W X Y Z aa ab ac ad ae af ag ah ai aj ak al am an ao ap aq ar au av aw ax ay az aA aB aC aD aE aF aG aH aI aJ aK aL aM aN aO aP aQ aR aS aT aU:Value) (d:Array Bool) (a:Act) (ww:World):Prop:=
 ∃(b0 b1 b2 b3 b4 b5 b6 b7 b8 b9 b10 b11 b12:Bool) (e:Nat) (vT vN vD:Value),d=#[b0,b1,b2,b3,b4,b5,b6,b7,b8,b9,b10,b11,b12]∧
  a={tmps:=#[p0,.slice (some ⟨b,off,none⟩) l.length c,p2,p3,.slice (some ⟨gp,0,none⟩) l.length l.length,.map (some gm),.int .i64 (k:Int),.pointer (some ⟨kj,0,none⟩),p8,p9,f,g,h,i,m,n,o,p,q,r,s,t,u,cond b0 (.slice (some ⟨gp,0,none⟩) l.length l.length) (w),cond b1 (.int .i64 (k:Int)) (x),cond b2 (.agg #[.string j.nm,.string j.run,.slice j.eA j.env.length j.ec,.slice j.nA j.needs.length j.nc,.bool j.hasR,.string j.ready,.int .i64 j.restart,.int .u64 j.base,.int .u64 j.cap,.int .u64 j.stable,.int .i64 j.burst,.int .u64 j.win,.slice j.lA j.lad.length j.lc,.int .i64 j.line,.int .i64 j.col]) (y),cond b3 (.agg #[.int .i64 1,.int .i64 0,.int .i64 0,.int .u64 0,vT,.int .u64 0,.bool false,.int .i64 0,.bool false,.bool false]) (z),cond b4 (.slice (some ⟨b,off,none⟩) l.length c) (A),cond b5 (.int .i64 (k:Int)) (B),cond b6 (vN) (C),cond b7 (.slice (some ⟨b,off,none⟩) l.length c) (D),cond b8 (.int .i64 (k:Int)) (E),cond b9 (vD) (F),cond b10 (.agg #[.string j.nm,.string j.run,.slice j.eA j.env.length j.ec,.slice j.nA j.needs.length j.nc,.bool j.hasR,.string j.ready,.int .i64 j.restart,.int .u64 j.base,.int .u64 j.cap,.int .u64 j.stable,.int .i64 j.burst,.int .u64 j.win,.slice j.lA j.lad.length j.lc,.int .i64 j.line,.int .i64 j.col,.int .i64 1,.int .i64 0,.int .i64 0,.int .u64 0,vT,.int .u64 0,.bool false,.int .i64 0,.bool false,.bool false,.slice none 0 0,vN,vD]) (G),cond b11 (.pointer (some ⟨gp,k*28,none⟩)) (H),I,J,K,L,M,N,O,P,Q,R,S,T,U,V,W,X,Y,Z,aa,ab,ac,ad,ae,af,ag,ah,ai,aj,ak,al,am,an,ao,ap,aq,ar,au,av,aw,ax,ay,az,aA,aB,aC,aD,aE,aF,aG,aH,aI,aJ,aK,aL,aM,aN,aO,aP,aQ,aR,aS,aT,aU],defers:=[]}∧RgI w9 l gp k b3 b6 b9 b12 vT vN vD ww
theorem lL {w:World} {k:Nat} {j:Jd} {z:Nat×Nat} (h:w.heap[k]? =some (.cells (ae j).toArray 32 z)):w.rangeAt k 0 (ae j):=fun i v hv=>by
 rw[Nat.zero_add];exact(aK w k i _ _ _ h).trans (by rw[List.getElem?_toArray];exact hv)
section
theorem qA {w0 w:World} {A:Option Addr} {c g:Nat} {l:List Jd} (hl:JL w A l) (hj:∀j∈l,JT w j) (ai:CksOk l) (aF:∀j∈l,j.nm.size≤1000000) (h0:Old w0 w) (hg:w0.heap.size≤g) (aI:w.heap[g]? =some (.cells #[.slice none 0 0,.slice none 0 0,.map none,.int .u64 0,.slice none 0 0,.bool false,.bool false,.bool false,.slice none 0 0,.map none,.slice none 0 0] 76 (0,0))):
  Calls Tryz.prog 19 #[.pointer (some ⟨g,0,none⟩),.slice A l.length c] w fun e w'=>e= .returned (.tuple #[])∧∃pb pc oA oc mp m,SG w0 w' ⟨w'.heap.size,[],[]⟩ g pb pc oA oc mp (.slice none 0 0) (.slice none 0 0) m (Oc.install l):=by
 have aS:=fun W=>nE (l.length:Int) W
 have hn:=ai.few
 go_enter Tryz.func19,Tryz.ntmps19
 go_wp2_with (at_make;refine dj rfl _ _ 73 rfl 108 (.agg #[.string ⟨#[]⟩,.string ⟨#[]⟩,.slice none 0 0,.slice none 0 0,.bool false,.string ⟨#[]⟩,.int .i64 0,.int .u64 0,.int .u64 0,.int .u64 0,.int .i64 0,.int .u64 0,.slice none 0 0,.int .i64 0,.int .i64 0,.int .i64 0,.int .i64 0,.int .i64 0,.int .u64 0,.slice none 0 0,.int .u64 0,.bool false,.int .i64 0,.bool false,.bool false,.slice none 0 0,.slice none 0 0,.slice none 0 0]) 28 352 Tryz.underlying73 vR (by decide) .i64 .i64 _ _ l.length rfl rfl ?pl1 ?pc1 ?pn1 ?_)
 case pl1=>omega
 case pc1=>omega
 case pn1=>omega
 intro u aG aj;go_upto_region 2 with fail
 have ad:Hid (InM w l w.heap.size u.heap.size 0 0 (fun _=>⟨none,0,none,0,none,0,[],none,0,[]⟩) (u.alloc (.map #[] 0))):=aJ (by
  refine⟨aj.alloc _,bM _,aj.size,?_,?_,fun i hi=>by omega,fun i hi=>by omega,fun i hi=>by omega⟩
  ·rcases aG with⟨aV,⟨e,_⟩|⟨q,cap,cur,e,_,hh,_,_,hs,_⟩⟩
   ·cases e
   ·injection e with Y e2 e3
    injection Y with Y
    injection Y with Y
    subst Y e3;exact⟨cur,((Old.refl u).alloc _).block hh,by rw[hs],fun i hi=>by omega⟩
  ·exact(IMap.made u).same (fun s=>pw l s))
 have Q:=aJ aI
 have E:=aJ hl
 have aq:=aJ hj
 have L:=aJ ai
 have av:=aJ aF
 have H0:=aJ h0
 have D:=aJ hg
 generalize u.alloc (.map #[] 0)=w2 at *;obtain⟨gp,al⟩:∃gp,w.heap.size=gp:=⟨_,rfl⟩
 obtain⟨gm,ak⟩:∃gm,u.heap.size=gm:=⟨_,rfl⟩
 rw[al,ak] at ad;rw[al,ak];clear aI hl hj ai aF h0 hg aG aj aS al ak;have HB:Hid (∀j∈l,j.needs.length≤1000000):=aJ (fun j hj=>by
  obtain⟨i,hi,e⟩:=List.getElem_of_mem hj;have:=(L.out.each i hi).few;rw[bD,bE hi] at this;rw[←e];exact this)
 have ax:=aJ (fun W (B:Old w W)=>sq A c l W (E.out.up B) (by omega) HB.out)
 go_wp2_with fail;go_loopw [18] (fun aU wr=>∃k m,k≤l.length∧aU= .int .i64 (k:Nat)∧Hid (InM w l gp gm k k m wr)) (fun x _=>l.length-(intOf x).toNat)
 case atStart=>exact⟨0,_,bO _,rfl,ad⟩
 case round=>
  clear ad;obtain⟨k,m,hk,rfl,U⟩:=hrel
  by_cases z:k<l.length
  ·have HH:=aJ z
   obtain⟨b,off,rfl,_,aa⟩:=(E.out.up U.out.old).row (by omega)
   have aA:=aa k z
   have ar:Hid ((l.getD k dG).needs.length≤1000000):=aJ (L.out.each k z).few
   have au:=aJ (fun W (B:Old wr W)=>nR (some ⟨b,off,none⟩) c l k W (E.out.up (U.out.old.up B)) z ar.out)
   have ap:=aJ (fun W (B:Old wr W)=>BJ (some ⟨b,off,none⟩) c l k W (E.out.up (U.out.old.up B)) z (by omega) HB.out)
   have k0:(0:Int)≤(k:Int):=by omega
   have k1:(k:Int)<(l.length:Int):=by omega
   have k2:(l.length:Int)≤32:=by omega
   have M:Hid (Gp.ix l (l.getD k dG).nm=some k∧(l.getD k dG).nm.size≤maxLen):=aJ ⟨(L.out.each k z).own,by
    have:=av.out (l.getD k dG) (by rw[bD,bE z];exact bH z)
    unfold maxLen;omega⟩
   have an:wr.rangeAt b (off+k*15) (ae (l.getD k dG)):=by
    obtain⟨_,c1,c2,G,c4,_,_,c7,_,_,_,_,_,_,_⟩:=aA;intro j v hv;rcases j with _|_|_|_|_|_|_|_|_|_|_|_|_|_|_|j<;>first|(injection hv with hv;subst hv;assumption)|(simp[ae] at hv)
   obtain⟨j,am⟩:∃j,l.getD k dG=j:=⟨_,rfl⟩
   have N:=aJ am
   rw[am] at an M;clear aa aA am ar;go_upto_region 5 with(first|(refine wpList_load_mid rfl 32 _ rfl b (off+k*15) rfl (ae j) _ an Tryz.underlying32 rfl cB ?_)|(refine dm rfl 32 _ _ rfl _ rfl (ae j) rfl rfl cB rfl (nP j) ?_;intro w3 R ay))
   simp only[Act.put];have O:=aJ (U.out.up R);have V:=aJ (fun W (B:Old w3 W)=>au.out W (R.up B))
   have T:=aJ (fun W (B:Old w3 W)=>ap.out W (R.up B))
   have J:=aJ ay
   obtain⟨kj,aB⟩:∃kj,wr.heap.size=kj:=⟨_,rfl⟩
   rw[aB] at J ⊢;clear aB ay R U au ap an;refine ah [([],[]),([],[]),([],[10,11,12]),([],[6,10,11,12,9]),([],[]),([],[]),([4,5,3],[9,10,11,12]),([],[]),([],[]),([7,8,6,4,5,3],[10,11,12]),([2,3,6,9,4,5,7,8],[11,12]),([0,1,2,3,4,5,6,7,8,9,10],[12]),([11,10,9,0,1,2,3,4,5,6,7,8],[])] (CV w3 l b off c gp gm k kj j _ _ _ _ _ _ _ _ _ _ _ _ _ _ _ _ _ _ _ _ _ _ _ _ _ _ _ _ _ _ _ _ _ _ _ _ _ _ _ _ _ _ _ _ _ _ _ _ _ _ _ _ _ _ _ _ _ _ _ _ _ _ _ _ _ _ _ _ _ _ _ _ _ _ _ _ _ _ _ _ _ _ _ _ _ _ _ _ _ _ _ _ _) (⟨false,false,false,false,false,false,false,false,false,false,false,false,false,0,aR,aR,aR,rfl,rfl,RgI.start w3 l gp k aR aR aR⟩) ?_ ⟨?_,?_,?_,?_,?_,?_,?_,?_,?_,?_,?_,?_,?_,trivial⟩
   ·rintro a u ⟨F,b1,b2,b3,b4,_,b6,b7,X,b9,b10,b11,b12,f,vT,vN,vD,hl,rfl,o⟩;have aC:=congrArg Array.toList hl;simp at aC;obtain⟨rfl,rfl,rfl,rfl,rfl,rfl,rfl,rfl,rfl,rfl,rfl,rfl,rfl⟩:=aC;clear hl;obtain⟨_,A2,c2,H,G,I,c4,B,aL,aM,hw⟩:=o.2.2.2.2 rfl;have af:=aJ ((O.out.up B).st HH.out (x:=⟨A2,c2,none,0,H,G,Gp.needs l k,I,c4,Gp.deps l k⟩) ⟨rfl,aL⟩ aM ⟨rfl,rfl⟩);have ac:Hid (u.heap[kj]? =some (.cells (ae j).toArray 32 (0,0))):=aJ (by
     have h1:=B.block J.out
     obtain⟨cur,hb,_⟩:=(O.out.up B).pl;rw[hw,dS,fy (fun e=>by
      rw[e,hb] at h1;have h2:=bQ h1;injection h2 with Y e2 e3
      exact absurd e2 (by decide))]
     exact h1)
    rw[←hw] at af;clear o B aL aM hw O V T J;have aY:u.cell? ⟨kj,0,none⟩=some (.string j.nm):=(aK u kj 0 _ _ _ ac.out).trans rfl;obtain⟨w5,ab,aE,az⟩:=af.out.put HH.out (by omega) (by rw[N.out];exact M.out.1) (by rw[N.out];exact M.out.2)
    rw[N.out] at ab;have ag:=aJ aE;have j5:w5.cell? ⟨kj,0,none⟩=some (.string j.nm):=(aK w5 kj 0 _ _ _ (az ac.out)).trans rfl;have s5:=ag.out.old.block Q.out;have aX:w5.cell? ⟨g,2,none⟩=some (.map none):=(aK w5 g 2 _ _ _ s5).trans rfl;have aW:∀W,(Instr.lookup 74 (.map none) (.string j.nm) true).run Tryz.prog W= .ok (.tuple #[.int .i64 0,.bool false]) W:=fun W=>nL W j.nm M.out.2
    clear aE az af ac s5;go_upto_region 7 with fail
    go_quiet (fail)
    go_upto_region 8 with fail
    go_quiet (fail)
    clear ab;have HX:Hid (∀W,Old w5 W→InM w l gp gm (k+1) (k+1) (xL m k ⟨A2,c2,none,0,H,G,Gp.needs l k,I,c4,Gp.deps l k⟩) W):=aJ (fun W B=>ag.out.up B)
    clear ag;go_wp2_with fail;go_roundw
    case rel=>exact⟨k+1,_,by omega,by go_num,aJ (HX.out _ (by(repeat (first|exact Old.refl _|refine Old.drewN ?_ _|refine Old.drew ?_))))⟩
    case measure=>simp[intOf];omega
   rotate_left 2
   ·rintro _ _ u K ⟨F,b1,b2,b3,b4,_,b6,b7,X,b9,b10,b11,b12,f,vT,vN,vD,rfl,h2,o⟩ h C
    repeat obtain⟨rfl,h⟩:=h
    subst h2;rw[if_pos (by rfl)]
    refine wp_load_mid 32 _ rfl kj 0 rfl (ae j) _ (lL ((o.1 rfl).block J.out)) Tryz.underlying32 rfl cB ?_;apply C;iterate 13 apply bW
    exact⟨f,vT,vN,vD,rfl,rfl,o⟩
   ·rintro _ _ u K ⟨F,b1,b2,b3,b4,_,b6,b7,X,b9,b10,b11,b12,f,vT,vN,vD,rfl,h2,o⟩ h C
    repeat obtain⟨rfl,h⟩:=h
    subst h2;go_simp;refine(CC u).mono ?_;rintro e w2 ⟨A2,c2,rfl,_,Z⟩;apply C;iterate 13 apply bW
    exact⟨f,.slice A2 0 c2,vN,vD,rfl,rfl,o.t Z A2 c2⟩
   rotate_left 2
   ·rintro _ _ u K ⟨F,b1,b2,b3,b4,_,b6,b7,X,b9,b10,b11,b12,f,vT,vN,vD,rfl,h2,o⟩ h C
    repeat obtain⟨rfl,h⟩:=h
    subst h2;go_simp;refine(V.out u (o.1 rfl)).mono ?_;rintro e w2 ⟨v,rfl,r,Z⟩;obtain⟨H,G,rfl,ao,_,_⟩:=r.shape;exact C _ _ ⟨F,b1,b2,true,true,true,true,b7,X,false,false,false,false,f,vT,.slice H (Gp.needs l k).length G,vD,rfl,rfl,o.n Z ao⟩
   rotate_left 2
   ·rintro _ _ u K ⟨F,b1,b2,b3,b4,_,b6,b7,X,b9,b10,b11,b12,f,vT,vN,vD,rfl,h2,o⟩ h C
    repeat obtain⟨rfl,h⟩:=h
    subst h2;go_simp;refine(T.out u (o.1 rfl)).mono ?_;rintro e w2 ⟨v,rfl,r,Z⟩;obtain⟨I,c4,rfl,ao,_,_⟩:=r.shape;exact C _ _ ⟨F,b1,b2,true,true,true,true,true,true,true,false,false,false,f,vT,vN,.slice I (Gp.deps l k).length c4,rfl,rfl,o.d Z ao⟩
   ·rintro _ _ u K ⟨F,b1,b2,b3,b4,_,b6,b7,X,b9,b10,b11,b12,f,vT,vN,vD,rfl,h2,o⟩ h C
    repeat obtain⟨rfl,h⟩:=h
    subst h2;obtain⟨A2,c2,rfl⟩:=o.2.1 rfl;obtain⟨H,G,rfl,_⟩:=o.2.2.1 rfl;obtain⟨I,c4,rfl,_⟩:=o.2.2.2.1 rfl;go_simp;exact C _ _ ⟨F,b1,true,true,true,true,true,true,true,true,true,false,false,f,.slice A2 0 c2,.slice H (Gp.needs l k).length G,.slice I (Gp.deps l k).length c4,rfl,rfl,o⟩
   rotate_left 1
   ·rintro _ _ u K ⟨F,b1,b2,b3,b4,_,b6,b7,X,b9,b10,b11,b12,f,vT,vN,vD,rfl,h2,o⟩ h C
    repeat obtain⟨rfl,h⟩:=h
    subst h2;obtain⟨A2,c2,rfl⟩:=o.2.1 rfl;obtain⟨H,G,rfl,_⟩:=o.2.2.1 rfl;obtain⟨I,c4,rfl,_⟩:=o.2.2.2.1 rfl;rw[if_pos (by rfl)]
    have aT:=(O.out.up (o.1 rfl)).there HH.out
    refine wp_store_mid 108 _ _ rfl gp (k*28) (aH ⟨j,Lf.new,[]⟩ ⟨A2,c2,none,0,H,G,Gp.needs l k,I,c4,Gp.deps l k⟩).toArray rfl rfl aT jB (qt _ _) ?_;have hG:=o.st;unfold ml at hG;rw[N.out] at hG;exact C _ _ ⟨true,true,true,true,true,true,true,true,true,true,true,true,true,f,.slice A2 0 c2,.slice H (Gp.needs l k).length G,.slice I (Gp.deps l k).length c4,rfl,rfl,hG⟩
   all_goals
    rintro _ _ u K ⟨F,b1,b2,b3,b4,_,b6,b7,X,b9,b10,b11,b12,f,vT,vN,vD,rfl,h2,o⟩ h C
    repeat obtain⟨rfl,h⟩:=h
    subst h2;go_simp;apply C;iterate 13 apply bW
    exact⟨f,vT,vN,vD,rfl,rfl,o⟩
  ·obtain rfl:k=l.length:=by omega
   have aw:=aJ (ax.out wr U.out.old)
   have gl:g<w.heap.size:=aQ Q.out
   clear ax;go_wp2_with fail;refine(aw.out).mono ?_;rintro e S ⟨v,rfl,r,Z⟩;obtain⟨A7,c7,rfl,aP,_,_⟩:=r.shape;have P:=aJ (U.out.up Z);have y:=P.out.old.block Q.out;obtain⟨_,_⟩:=And.intro ((aK S g 0 _ _ _ y).trans (rfl:_=some (Value.slice none 0 0))) (aN S g 0 _ _ y);obtain⟨_,_⟩:=And.intro ((aK S g 1 _ _ _ y).trans (rfl:_=some (Value.slice none 0 0))) (aN S g 1 _ _ y);obtain⟨_,_⟩:=And.intro ((aK S g 2 _ _ _ y).trans (rfl:_=some (Value.map none))) (aN S g 2 _ _ y);have HX:Hid (∃pb pc oA oc mp m,SG w0 (((S.setCell ⟨g,0,none⟩ (.slice (some ⟨gp,0,none⟩) l.length l.length)).setCell ⟨g,2,none⟩ (.map (some gm))).setCell ⟨g,1,none⟩ (.slice A7 (Gp.order l).length c7)) ⟨(((S.setCell ⟨g,0,none⟩ (.slice (some ⟨gp,0,none⟩) l.length l.length)).setCell ⟨g,2,none⟩ (.map (some gm))).setCell ⟨g,1,none⟩ (.slice A7 (Gp.order l).length c7)).heap.size,[],[]⟩ g pb pc oA oc mp (.slice none 0 0) (.slice none 0 0) m (Oc.install l)):=aJ (by
    have Y:=aO S g 0 _ _ (.slice (some ⟨gp,0,none⟩) l.length l.length) y
    have e2:=aO _ g 2 _ _ (.map (some gm)) Y
    have e3:=aO _ g 1 _ _ (.slice A7 (Gp.order l).length c7) e2
    exact⟨_,_,_,_,_,_,P.out.sg H0.out D.out aq.out aP hn y (((aD _ g 0 _).trans (aD _ g 2 _)).trans (aD _ g 1 _)) ((((H0.out.up P.out.old).setCell (p:=⟨g,0,none⟩) D.out _).setCell (p:=⟨g,2,none⟩) D.out _).setCell (p:=⟨g,1,none⟩) D.out _) e3 (bM _)⟩)
   clear U P aw r aP Z y Q E aq L av H0 D HB;go_wp2_with fail;go_end0;exact⟨rfl,HX.out⟩
end
theorem gx:(Tryz.prog.info? 37).map (fun i=>(i.zero,i.size,i.bytes))=some (some (.agg #[.int .i64 0,.string ⟨#[]⟩,.bool false,.int .i64 0,.slice none 0 0,.int .u64 0,.int .i64 0,.int .i64 0]),8,88):=by kernel_rfl
def Db (j:Jd) (t:List Nat):List Oc.Ev:=⟨1,j.nm,true,0,[],0⟩::(if t=[] then [] else [⟨3,j.nm,false,0,t,0⟩])
def mg (l:List Jd):List Nat→List (List Nat)→List Oc.Ev
 |i::o,t::ts=>Db (l.getD i dG) t++mg l o ts
 |_,_=>[]
theorem mw (l:List Jd):∀(o:List Nat) (ts:List (List Nat)) (i:Nat) (t:List Nat),o.length=ts.length→mg l (o++[i]) (ts++[t])=mg l o ts++Db (l.getD i dG) t:=by
 intro o
 induction o with
 |nil=>
  intro ts i t h;have:ts=[]:=List.eq_nil_of_length_eq_zero h.symm;subst this;simp[mg]
 |cons a o ih=>
  intro ts i t h;cases ts with
  |nil=>simp at h
  |cons b ts=>
   simp at h
   show Db _ b++mg l (o++[i]) (ts++[t])=_
   rw[ih ts i t h];simp[mg]
structure WsM (w:World) (l:List Jd) (k:Nat) (v:Value) (wr:World) (xs:List E3) (ts:List (List Nat)):Prop where
 own:Own wr w.heap.size 37 8 v xs.length (fh xs)
 rows:∀x∈xs,Ts wr 5 x.A (cZ x.e.data)
 som:∀x∈xs,x.A=none∨0<x.e.data.length
 evs:xs.map E3.e=mg l ((Gp.order l).take k) ts
 len:ts.length=k
 sam:∀i t,ts[i]? =some t→SamOk (l.getD ((Gp.order l).getD i 0) dG) t
 old:Old w wr
 few:xs.length≤2*k
theorem WsM.up {w wr wr':World} {l:List Jd} {k:Nat} {v:Value} {xs:List E3} {ts:List (List Nat)} (h:WsM w l k v wr xs ts) (a:Old wr wr'):WsM w l k v wr' xs ts:=
 ⟨h.own.up a,fun x hx=>(h.rows x hx).up a,h.som,h.evs,h.len,h.sam,h.old.up a,h.few⟩
def wW (w:World) (l:List Jd) (e:Ending) (w':World):Prop:=
 ∃A c xs ts,e= .returned (.tuple #[.slice A xs.length c,cT])∧EvL w' A xs∧(∀x∈xs,x.A=none∨0<x.e.data.length)∧xs.map E3.e=mg l (Gp.order l) ts∧ts.length=(Gp.order l).length∧(∀i t,ts[i]? =some t→SamOk (l.getD ((Gp.order l).getD i 0) dG) t)∧xs.length≤2*(Gp.order l).length∧Old w w'
theorem WsM.row {w wr w':World} {l:List Jd} {k:Nat} {v v':Value} {xs:List E3} {ts:List (List Nat)} (h:WsM w l k v wr xs ts) (x:E3) (b:Own w' w.heap.size 37 8 v' (xs.length+1) (fh xs++cj x)) (a:wr.grownBy w' v.ownBlock) (hx:Ts wr 5 x.A (cZ x.e.data)):
  Own w' w.heap.size 37 8 v' (xs++[x]).length (fh (xs++[x]))∧(∀y∈xs++[x],Ts w' 5 y.A (cZ y.e.data))∧Old w w':=by
 have far:∀{A:Option Addr} {zs:List Value},Ts wr 5 A zs→Ts w' 5 A zs:=fun c=>c.grown h.own (by decide) a
 refine⟨by rw[bF,←mW];exact b,fun y hy=>?_,Own.grown_old h.old h.own (bM _) a⟩
 rcases List.mem_append.mp hy with h1|h1
 ·exact far (h.rows y h1)
 ·rw[List.mem_singleton.mp h1];exact far hx
def sG (w:World) (l:List Jd) (v5 a:Value) (wr:World):Prop:=∃(k:Nat) (xs:List E3) (ts:List (List Nat)),k≤(Gp.order l).length∧a= .int .i64 (k:Nat)∧Hid (WsM w l k v5 wr xs ts)
theorem xJ (A:Option Addr) (c:Nat) (l:List Jd) (w:World) (hl:JL w A l) (J:CksOk l) (hp:∀j∈l,uq j):
  Calls Tryz.prog 12 #[.slice A l.length c] w (wW w l):=by
 have hn:=J.few
 have X:=aJ (fun W (ho:Old w W)=>nZ A c l W (hl.up ho) J)
 have HB:Hid (∀j∈l,j.needs.length≤1000000):=aJ (fun j hj=>by
  obtain⟨i,hi,e⟩:=List.getElem_of_mem hj;have:=(J.each i hi).few;rw[bD,bE hi] at this;rw[←e];exact this)
 have aq:=aJ (fun W (ho:Old w W)=>sq A c l W (hl.up ho) (by omega) HB.out)
 have HL:=aJ hl
 have ar:=aJ hp
 have bb:(Gp.order l).length≤32:=bN (Gp.order_lt l).2 hn
 have au:=aJ (aM w (.cells #[.int .i64 0,.int .i64 0,.int .i64 0] 52))
 have Y:=aJ ((Old.refl w).alloc (.cells #[.int .i64 0,.int .i64 0,.int .i64 0] 52))
 clear hl J hp HB;unfold cT at X;go_enter Tryz.func12,Tryz.ntmps12;go_upto_region 1 with fail
 generalize w.alloc (.cells #[.int .i64 0,.int .i64 0,.int .i64 0] 52)=w0 at *;go_wp2_with fail;refine(X.out _ Y.out).mono ?_;rintro e w1 ⟨rfl,ai⟩;have av:=aJ (ai.block au.out);have ao:=aJ (Y.out.up ai);clear X au Y ai;go_upto_region 5 with fail
 generalize aU:w1.alloc _=w2;have ag:Old w1 w2:=by rw[←aU];exact(Old.refl w1).alloc _
 have aw:=aJ (ag.block av.out)
 have Z:=aJ (ao.out.up ag)
 clear aU ag av ao;go_wp2_with fail;refine(aq.out _ Z.out).mono ?_;rintro e T ⟨v,rfl,Q,aj⟩;obtain⟨oA,oc,rfl,aS,_,_⟩:=Q.shape;have ay:=aJ aS;have ad:=aJ (aj.block aw.out);have aa:=aJ (Z.out.up aj);clear Q aS aj aq aw Z;have P:Hid (sG T l (.slice none 0 0) (.int .i64 ((0:Nat):Int)) T):=aJ ⟨0,[],[],bO _,rfl,aJ ⟨Own.nil_ _ _ _ _,fun x hx=>by simp at hx,fun x hx=>by simp at hx,rfl,rfl,fun i t h=>by simp at h,Old.refl _,bM _⟩⟩
 have a4:w.heap.size<T.heap.size:=aQ ad.out
 obtain⟨kr,s⟩:∃kr,w.heap.size=kr:=⟨_,rfl⟩
 rw[s] at ad a4;have aZ:=aJ s;clear s;go_wp2_with fail;go_loopw [5,19] (fun v5 a7 wr=>sG T l v5 a7 wr) (fun _ x _=>(Gp.order l).length-(intOf x).toNat)
 case atStart=>exact P.out
 case round=>
  clear P;obtain⟨k,xs,ts,hk,rfl,O⟩:=hrel;have F:=aJ O.out.old
  by_cases z:k<(Gp.order l).length
  ·have M:(Gp.order l).getD k 0<l.length:=(Gp.order_lt l).1 _ (by rw[bD,bE z];exact bH z)
   obtain⟨_,_,rfl,_,aF⟩:=(ay.out.up F.out).rs.at_ (by simp[aY,aW];omega)
   have d0:=aF k _ (gu (Gp.order l) k z)
   obtain⟨b,off,rfl,_,R⟩:=(HL.out.up (aa.out.up O.out.old)).row (by omega)
   have aG:=R _ M
   have N:wr.rangeAt b (off+(Gp.order l).getD k 0*15) (ae (l.getD ((Gp.order l).getD k 0) dG)):=by
    obtain⟨c0,c1,c2,_,c4,c5,c6,_,_,_,_,_,_,_,_⟩:=aG;intro j v hv;rcases j with _|_|_|_|_|_|_|_|_|_|_|_|_|_|_|j<;>first|(injection hv with hv;subst hv;assumption)|(simp[ae] at hv)
   have ac:=aJ (ar.out (l.getD ((Gp.order l).getD k 0) dG) (by rw[bD,bE M];exact bH M))
   have ab:Hid ((Gp.order l).take (k+1)=(Gp.order l).take k++[(Gp.order l).getD k 0]):=aJ (by
    rw[List.take_add_one,bE z,bD,bE z]
    rfl)
   have ax:Hid (((Gp.order l).take k).length=ts.length):=aJ (by rw[List.length_take,O.out.len];omega)
   have k0:(0:Int)≤(k:Int):=by omega
   have k1:(k:Int)<((Gp.order l).length:Int):=by omega
   have k2:((Gp.order l).length:Int)≤32:=by omega
   have k3:(((Gp.order l).getD k 0:Nat):Int)<(l.length:Int):=by omega
   have k4:(0:Int)≤(((Gp.order l).getD k 0:Nat):Int):=by omega
   have k5:(l.length:Int)≤32:=by omega
   have aX:Hid ((Gp.order l).getD k 0=(Gp.order l).getD k 0):=aJ rfl
   obtain⟨i,hi⟩:∃i,(Gp.order l).getD k 0=i:=⟨_,rfl⟩
   have ap:=aJ hi
   rw[hi] at d0 N ac ab k3 k4;obtain⟨j,hj⟩:∃j,l.getD i dG=j:=⟨_,rfl⟩
   have E:=aJ hj
   rw[hj] at N ac;clear aF R aG M hi hj aX;go_upto_region 9 with(first|(refine wpList_load_mid rfl 32 _ rfl b (off+i*15) rfl (ae j) _ N Tryz.underlying32 rfl cB ?_)|(refine dm rfl 32 _ _ rfl _ rfl (ae j) rfl rfl cB rfl (nP j) ?_;intro w4 ak aC))
   simp only[Act.put];have a:=aJ (O.out.up ak);have g:=aJ aC;have a0:=aJ (F.out.up ak);obtain⟨kj,aH⟩:∃kj,wr.heap.size=kj:=⟨_,rfl⟩
   rw[aH] at g ⊢;clear aH aC ak O F N d0;have a3:w4.cell? ⟨kj,0,none⟩=some (.string j.nm):=(aK w4 kj 0 _ _ _ g.out).trans rfl;have a':=a.out.few;have aV:Hid (T.heap.size≤w4.heap.size):=aJ a.out.old.size;go_wp2_with (at_builtin;refine aE (wr:=w4) rfl _ _ 34 rfl _ 37 (.agg #[.int .i64 0,.string ⟨#[]⟩,.bool false,.int .i64 0,.slice none 0 0,.int .u64 0,.int .i64 0,.int .i64 0]) 8 88 Tryz.underlying34 gx rfl (by decide) (by decide) _ _ _ rfl a.out.own 1 1 [.int .i64 1,.string j.nm,.bool true,.int .i64 0,.slice none 0 0,.int .u64 0,.int .i64 0,.int .i64 0] rfl rfl rfl rfl ?pn1 aV.out ?_)
   case pn1=>omega
   intro v' w5 ho K hd;obtain⟨ah,aA,aB⟩:=a.out.row ⟨⟨1,j.nm,true,0,[],0⟩,none,0⟩ ho K (bX rfl);have U:Hid (w5.heap[kj]? =some (.cells (ae j).toArray 32 (0,0))):=aJ (by
    rcases df a.out.own with e|⟨q,cur,e,_,hq⟩
    ·rw[e] at K;exact(cX K).block g.out
    ·rw[e] at K;refine(K.block kj (aQ g.out) (fun e2=>?_)).trans g.out
     injection e2 with e2
     have h1:=g.out
     rw[e2,hq] at h1;have h2:=bQ h1;injection h2 with e1 e3 e4
     exact absurd e3 (by decide))
   obtain⟨A5,c5,rfl,_,_,_⟩:=ah.shape;have C:=aJ (And.intro ah (And.intro aA aB));have D:=aJ a.out.evs;have I:=aJ a.out.sam;have m:=aJ a.out.som;have n:=a.out.len;have al:(xs++[(⟨⟨1,j.nm,true,0,[],0⟩,none,0⟩:E3)]).length=xs.length+1:=by simp
   clear ah aA aB ho K hd a a0 g a3;have aR:=lL U.out;have az:=aJ (show Calls Tryz.prog 28 #[.agg (ae j).toArray] w5 _ from ux j w5 ac.out)
   go_wp2_with (refine wpList_load_mid rfl 32 _ rfl kj 0 rfl (ae j) _ aR Tryz.underlying32 rfl cB ?_)
   refine az.out.mono ?_;rintro e w6 ⟨A6,c6,t,rfl,aT,S,r⟩;have o:=aJ (C.out.2.2.up r);have f:=aJ (C.out.1.up r);have G:=aJ (fun y hy=>(C.out.2.1 y hy).up r)
   have V:=aJ (r.block U.out)
   have af:=aJ aT
   have H:=aJ S
   clear aT S r az aR C U
   by_cases ht:t=[]
   ·subst ht;have HX:Hid (sG T l (.slice A5 (xs++[(⟨⟨1,j.nm,true,0,[],0⟩,none,0⟩:E3)]).length c5) (.int .i64 ((k+1:Nat):Int)) w6):=aJ ⟨k+1,xs++[⟨⟨1,j.nm,true,0,[],0⟩,none,0⟩],ts++[[]],by omega,rfl,aJ ⟨f.out,G.out,fun y hy=>by
      rcases List.mem_append.mp hy with h1|h1
      ·exact m.out y h1
      ·rw[List.mem_singleton.mp h1];exact bX rfl,by
      rw[ab.out,mw _ _ _ _ _ ax.out,List.map_append,D.out,E.out]
      rfl,by simp[n],fun q u d=>by
      rw[List.getElem?_append] at d;split at d
      ·exact I.out q u d
      ·next hq=>
       have am:q=k:=by
        rcases Nat.lt_or_ge q (k+1) with h|h
        ·omega
        ·rw[bI (by simp;omega)] at d;cases d
       subst am;rw[n,Nat.sub_self] at d;injection d with d
       subst d;rw[ap.out,E.out];exact H.out,o.out,by rw[al];omega⟩⟩
    rw[al] at HX;clear f G D I m af H V o;go_wp2_with fail;go_roundw
    case rel=>exact HX.out
    case measure=>simp[intOf];omega
   ·have a6:0<t.length:=List.length_pos_iff.mpr ht
    have ba:w6.cell? ⟨kj,0,none⟩=some (.string j.nm):=(aK w6 kj 0 _ _ _ V.out).trans rfl
    have an:Hid (T.heap.size≤w6.heap.size):=aJ o.out.size
    have a9:(0:Int)<(t.length:Int):=by omega
    rw[al] at f;go_wp2_with (at_builtin;refine aE (wr:=w6) rfl _ _ 34 rfl _ 37 (.agg #[.int .i64 0,.string ⟨#[]⟩,.bool false,.int .i64 0,.slice none 0 0,.int .u64 0,.int .i64 0,.int .i64 0]) 8 88 Tryz.underlying34 gx rfl (by decide) (by decide) _ _ _ rfl f.out 1 1 [.int .i64 3,.string j.nm,.bool false,.int .i64 0,.slice A6 t.length c6,.int .u64 0,.int .i64 0,.int .i64 0] rfl rfl rfl rfl ?pn2 an.out ?_)
    case pn2=>omega
    intro v7 w7 aL L a2;have aI:(xs++[(⟨⟨1,j.nm,true,0,[],0⟩,none,0⟩:E3)]++[(⟨⟨3,j.nm,false,0,t,0⟩,A6,c6⟩:E3)]).length=xs.length+1+1:=by simp
    have HX:Hid (sG T l v7 (.int .i64 ((k+1:Nat):Int)) w7):=aJ ⟨k+1,xs++[⟨⟨1,j.nm,true,0,[],0⟩,none,0⟩]++[⟨⟨3,j.nm,false,0,t,0⟩,A6,c6⟩],ts++[t],by omega,rfl,aJ ⟨by rw[aI,←mW];exact aL,fun y hy=>by
      rcases List.mem_append.mp hy with h1|h1
      ·exact(G.out y h1).grown f.out (by decide) L
      ·rw[List.mem_singleton.mp h1];exact af.out.grown f.out (by decide) L,fun y hy=>by
      rcases List.mem_append.mp hy with h1|h1
      ·rcases List.mem_append.mp h1 with h2|h2
       ·exact m.out y h2
       ·rw[List.mem_singleton.mp h2];exact bX rfl
      ·rw[List.mem_singleton.mp h1];exact bY a6,by
      rw[ab.out,mw _ _ _ _ _ ax.out,List.map_append,List.map_append,D.out,E.out];unfold Db;rw[if_neg ht,List.append_assoc]
      rfl,by simp[n],fun q u d=>by
      rw[List.getElem?_append] at d;split at d
      ·exact I.out q u d
      ·next hq=>
       have am:q=k:=by
        rcases Nat.lt_or_ge q (k+1) with h|h
        ·omega
        ·rw[bI (by simp;omega)] at d;cases d
       subst am;rw[n,Nat.sub_self] at d;injection d with d
       subst d;rw[ap.out,E.out];exact H.out,Own.grown_old o.out f.out (bM _) L,by rw[aI];omega⟩⟩
    clear f G D I m af H V o aL L a2;go_wp2_with fail;go_roundw
    case rel=>exact HX.out
    case measure=>simp[intOf];omega
  ·obtain rfl:k=(Gp.order l).length:=by omega
   have a1:=aZ.out
   subst a1;have B:=F.out.block ad.out;obtain⟨c0,_⟩:=And.intro ((aK wr w.heap.size 0 _ _ _ B).trans (rfl:_=some (Value.int .i64 0))) (aN wr w.heap.size 0 _ _ B);obtain⟨c1,f1⟩:=And.intro ((aK wr w.heap.size 1 _ _ _ B).trans (rfl:_=some (Value.int .i64 0))) (aN wr w.heap.size 1 _ _ B);obtain⟨c2,f2⟩:=And.intro ((aK wr w.heap.size 2 _ _ _ B).trans (rfl:_=some (Value.int .i64 0))) (aN wr w.heap.size 2 _ _ B);obtain⟨A5,c5,rfl,_,_,_⟩:=O.out.own.shape;have HX:Hid (wW w l (.returned (.tuple #[.slice A5 xs.length c5,.agg #[.int .i64 0,.int .i64 0,.int .i64 0]])) (((wr.setCell ⟨w.heap.size,0,none⟩ (.int .i64 0)).setCell ⟨w.heap.size,1,none⟩ (.int .i64 0)).setCell ⟨w.heap.size,2,none⟩ (.int .i64 0))):=aJ (by
    have a8:∀{W:World} {cs:Array Value},W.heap[w.heap.size]? =some (.cells cs 52 (0,0))→∀i,W.grownBy (W.setCell ⟨w.heap.size,i,none⟩ (.int .i64 0)) (some w.heap.size):=fun h i=>aD _ w.heap.size i _
    have e1:=aO wr w.heap.size 0 _ _ (.int .i64 0) B
    have e2:=aO _ w.heap.size 1 _ _ (.int .i64 0) e1
    have K:=((aD wr w.heap.size 0 (.int .i64 0)).trans (aD _ w.heap.size 1 (.int .i64 0))).trans (aD _ w.heap.size 2 (.int .i64 0))
    have hm:=O.out
    obtain⟨A6,c6,e6,a5,_,_⟩:=(hm.own.farG B K (by decide)).shape
    injection e6 with e61 e62 e63
    subst e61;refine⟨A5,c5,xs,ts,rfl,⟨a5.rs,fun x hx=>((hm.rows x hx).farG B K (by decide)).rs⟩,hm.som,by rw[hm.evs,List.take_length],hm.len,hm.sam,hm.few,?_⟩
    exact(((aa.out.up hm.old).setCell (p:=⟨w.heap.size,0,none⟩) (bM _) _).setCell (p:=⟨w.heap.size,1,none⟩) (bM _) _).setCell (p:=⟨w.heap.size,2,none⟩) (bM _) _)
   clear O ay HL ar B aa;go_wp2_with fail;refine aP (v:= .tuple #[.slice A5 xs.length c5,.agg #[.int .i64 0,.int .i64 0,.int .i64 0]]) (by simp[results,Tryz.results12,go_sem,c0,c1,c2]) rfl ?_
   exact HX.out
namespace Au
structure R where
 st:Nat
 out:List Nat
 shown:Bool
def r0:R:=⟨0,[],false⟩
def get (s:List R) (k:Nat):R:=s.getD k r0
def job (l:List Jd) (k:Nat):Jd:=l.getD k dG
def see (l:List Jd) (s:List R) (e:Oc.Ev):List R:=
 match Gp.ix l e.job with
 |none=>s
 |some k=>if e.kind=1 then(if(get s k).st=1 then s.set k ⟨2,(get s k).out,(get s k).shown⟩ else s)
  else if(get s k).st=2 then s.set k ⟨2,(get s k).out++e.data,(get s k).shown⟩ else s
def hits (j:Jd) (r:R):Bool:= !j.hasR||r.shown||decide (0≤ez (bz (bs j.ready)).1 r.out)
def show_ (j:Jd) (r:R):R:=⟨r.st,r.out,r.shown||(j.hasR&&decide (0≤ez (bz (bs j.ready)).1 r.out))⟩
def chk (l:List Jd):List R→List Nat→Option (List R)
 |s,[]=>some s
 |s,k::a=>if(get s k).st=2∧hits (job l k) (get s k)=true then chk l (s.set k (show_ (job l k) (get s k))) a else none
def judge (l:List Jd) (s:List R) (a:Oc.Ac):Option (List R):=
 match Gp.ix l a.job with
 |none=>some s
 |some k=>if(get s k).st≠0 then none else(chk l s (Gp.needs l k)).map fun s'=>s'.set k ⟨1,[],false⟩
def judges (l:List Jd):List R→List Oc.Ac→Option (List R)
 |s,[]=>some s
 |s,a::al=>match judge l s a with
  |none=>none
  |some s'=>judges l s' al
def go (l:List Jd):List R→List Oc.Ev→List (List Oc.Ac)→Option (List R)
 |s,e::es,al::a=>match judges l (see l s e) al with
  |none=>none
  |some s'=>go l s' es a
 |s,_,_=>some s
def start (l:List Jd):List R:=l.map fun _=>r0
def fine (l:List Jd) (es:List Oc.Ev) (al:List (List Oc.Ac)):Prop:=
 ∃s s',judges l (start l) (al.getD 0 [])=some s∧go l s es al.tail=some s'
theorem chk_len {l:List Jd}:∀{a:List Nat} {s s':List R},chk l s a=some s'→s'.length=s.length:=by
 intro a
 induction a with
 |nil=>intro s s' h;cases h;rfl
 |cons k a ih=>
  intro s s' h;unfold chk at h;split at h
  ·rw[ih h];simp
  ·cases h
end Au
section
variable {P : Program} {w : World} {ops : Array Oper} {rest : List Oper} {o : Oper} {a : Act} {Q : Exit → Act → World → Prop}
theorem ff (y:o.guard=none) (s x:Operand) (t:TypeId)
  (O:o.op= .call {callee:= .builtin .append,args:=#[s,x],argTypes:=#[t,t]})
  (base:Nat) (e:TypeId) (z:Value) (size bytes:Nat) (M:P.underlying t=some (.slice e))
  (V:(P.info? e).map (fun i=>(i.zero,i.size,i.bytes))=some (some z,size,bytes)) (D:z.cells.size=size) (hsz:0<size) (H:bytes≤1024)
  (v:Value) (n:Nat) (xs:List Value) (hs:a.eval s=v) (f:Own w base e size v n xs)
  (A:Option Addr) (m c:Nat) (d:List Value) (hx:a.eval x= .slice A m c) (R:Rs w A d) (I:d.length=m*size) (h1:d.all Value.oneCell'=true)
  (hn:n+m≤68719476736) (p:base≤w.heap.size) (hm:A=none∨0<m)
  (h:∀v' w',Own w' base e size v' (n+m) (xs++d)→w.grownBy w' v.ownBlock→mc w v v'→wpList P ops Q rest (a.put o.dst v') w'):wpList P ops Q (o::rest) a w:=by
 obtain⟨i,q,hz,k,r⟩:=info_parts V;have U:(n+m)*bytes≤68719476736*1024:=Nat.mul_le_mul hn H;cases A with
 |none=>
  obtain rfl:=R.nil_iff;obtain rfl:m=0:=by
   rcases Nat.eq_zero_or_pos m with l|l
   ·exact l
   ·have:=Nat.mul_pos l hsz;simp at I;omega
  refine wpList_plain y fun K G=>?_
  have C:=dn (P:=P) (w:=w) base t o.type e i size M q v n xs f c
  unfold Oper.wp;simp[execOp,O,resolve,invoke,builtin,hs,hx,C,Result.andThen];exact G _ _ (h v w (by simpa using f) (World.grownBy.refl _ _) (bX rfl))
 |some ad=>
  have J:0<m:=by rcases hm with l|l;cases l;exact l
  have g:∀j u,d[j]? =some u→w.cell? (ad.add j)=some u:=by
   intro j u S;rcases R with rfl|⟨b,off,F,hc⟩
   ·simp at S
   ·injection F with F
    subst F;rw[Addr.add_lit];exact hc j u S
  refine wpList_plain y fun K G=>?_
  obtain⟨v',w',B,h2,T,_⟩:=run_append_own (P:=P) w base t o.type e i z size bytes M q hz k r D hsz v n xs f ad m c d I g (by simpa using h1)
   (by unfold maxLen;omega) (by omega) p
  have N:=eI (P:=P) (w:=w) base t o.type e i z size bytes M q hz k r D hsz v n xs f ad m c d I g (by simpa using h1)
   (by unfold maxLen;omega) (by omega) J v' w' B
  have L:mc w v v':=by
   rcases N with E|E
   ·exact bX E
   ·exact bY ⟨_,E,bM _⟩
  unfold Oper.wp execOp;simp only[O,resolve,invoke,builtin,Sem.run_bind,Sem.run_pure,Result.andThen_ok,List.map_toArray,List.map_cons,List.map_nil,hs,hx,B];exact G _ _ (h v' w' h2 T L)
end
theorem jC:(Tryz.prog.info? 5).map (fun i=>(i.zero,i.size,i.bytes))=some (some (.int .u8 0),1,1):=by kernel_rfl
section
variable {w0 w w' : World} {B : BP} {g pb pc : Nat} {oA : Option Addr} {oc : Nat} {mp dv av : Value} {m : Nat → Pm} {s : Oc.St}
theorem cH (A:Option Addr) (n c:Nat):(Value.slice A n c).ownBlock=oB A:=by cases A<;>rfl
theorem SG.outp (h:SG w0 w B g pb pc oA oc mp dv av m s) {i:Nat} (F:i<s.pl.length) {A':Option Addr} {c':Nat} {t:List Nat}
  (ho:Own w' w0.heap.size 5 1 (.slice A' ((Oc.p s i).out.length+t.length) c') ((Oc.p s i).out.length+t.length) (cZ (Oc.p s i).out++cZ t)) (o:w.grownBy w' (Value.slice (m i).oA (Oc.p s i).out.length (m i).oc).ownBlock)
  (X:mc w (.slice (m i).oA (Oc.p s i).out.length (m i).oc) (.slice A' ((Oc.p s i).out.length+t.length) c')):
  w'.cell? ⟨pb,i*28+25,none⟩=some (.slice (m i).oA (Oc.p s i).out.length (m i).oc)∧w'.frozen? ⟨pb,i*28+25,none⟩=false∧
  SG w0 (w'.setCell ⟨pb,i*28+25,none⟩ (.slice A' ((Oc.p s i).out.length+t.length) c')) B g pb pc oA oc mp dv av (xL m i {m i with oA:=A',oc:=c'}) (Proofs.YtfchjdnpbgpfpaaGreatDoor.setP s i {Oc.p s i with out:=(Oc.p s i).out++t}):=by
 have W:=h.rows.outs i F
 have d:=df W
 rw[cH] at o d;obtain⟨cur,Y,hs,hc⟩:=h.pl;have far:∀{e:TypeId} {A:Option Addr} {xs:List Value},Ts w e A xs→5≠e→Ts w' e A xs:=by
  intro e A xs C hn;rcases d with f|⟨q,y,f,_,u⟩
  ·rw[f] at o;exact C.up (cX o)
  ·rw[f] at o;exact C.farG u o hn.symm
 have N:∀{T:Nat} {e:TypeId} {sz:Nat} {v:Value} {n:Nat} {xs:List Value},Own w T e sz v n xs→5≠e→Own w' T e sz v n xs:=by
  intro T e sz v n xs C hn;rcases d with f|⟨q,y,f,_,u⟩
  ·rw[f] at o;exact C.up (cX o)
  ·rw[f] at o;exact C.farG u o hn.symm
 have hne:∀{k:Nat} {cs:Array Value} {t:TypeId} {z:Nat×Nat},w.heap[k]? =some (.cells cs t z)→5≠t→w'.heap[k]? =w.heap[k]?:=by
  intro k cs t z hk hn;refine o.block k (aQ hk) ?_;rcases d with e|⟨q,y,e,_,u⟩
  ·rw[e];simp
  ·rw[e];intro R;injection R with R
   subst R;rw[u] at hk;have hk2:=bQ hk;injection hk2 with M f R
   exact hn f
 have hO:Old w0 w':=grown_old h.old o (fun q e=>by
  rcases d with f|⟨Z,y,f,aa,u⟩
  ·rw[f] at e;cases e
  ·rw[f] at e;injection e with e;omega)
 have c:=(hne Y (by decide)).trans Y
 have P:=(hne h.st (by decide)).trans h.st
 have l:=aD w' pb (i*28+25) (.slice A' ((Oc.p s i).out.length+t.length) c')
 have b:=dR s i {Oc.p s i with out:=(Oc.p s i).out++t}
 have K:Oc.jobs (Proofs.YtfchjdnpbgpfpaaGreatDoor.setP s i {Oc.p s i with out:=(Oc.p s i).out++t})=Oc.jobs s:=iE s rfl
 have I:Oc.order (Proofs.YtfchjdnpbgpfpaaGreatDoor.setP s i {Oc.p s i with out:=(Oc.p s i).out++t})=Oc.order s:=by unfold Oc.order;rw[K]
 have J:=(hc i F 25 (by decide))
 refine⟨(aK w' pb _ _ _ _ c).trans (J.trans rfl),aN w' pb _ _ _ c,?_⟩;have G:∀k,k<s.pl.length→k≠i→Own w' w0.heap.size 5 1 (.slice (m k).oA (Oc.p s k).out.length (m k).oc) (Oc.p s k).out.length (cZ (Oc.p s k).out):=by
  intro k hk L;refine bT (h.rows.outs k hk) o ?_;rw[cH];cases hv:oB (m k).oA with
  |none=>exact bX rfl
  |some q=>exact bY (fun e=>h.rows.ap k i hk F L q hv e.symm)
 refine⟨hO.setCell (p:=⟨pb,i*28+25,none⟩) h.pB _,h.gB,h.pB,?_,⟨cur.setIfInBounds (i*28+25) (.slice A' ((Oc.p s i).out.length+t.length) c'),aO w' pb _ _ _ _ c,by rw[Array.size_setIfInBounds,b];exact hs,?_⟩,by rw[b];exact h.pc,⟨?_,?_,?_,?_,?_,?_,?_,?_⟩,(N h.acts (by decide)).farG c l (by decide),⟨h.BB.1,bN (bN h.BB.2 o.size) l.size⟩,by rw[b];exact h.few,?_,fun r S=>⟨(far (h.pastA r S).1 (by decide)).farG c l (by decide),(h.pastA r S).2⟩,fun r S=>(far (h.pastS r S) (by decide)).farG c l (by decide)⟩
 ·rw[aL w' ⟨pb,i*28+25,none⟩ g _ (fun e=>h.gk e.symm),b,I]
  exact P
 ·intro Q D k hk;rw[b] at D
  by_cases e:Q=i
  ·subst e;rw[cU s _ F,cw]
   by_cases V:k=25
   ·subst V;rw[Array.getElem?_setIfInBounds_self];rw[if_pos (by rw[hs];omega)]
    show some (Value.slice A' ((Oc.p s Q).out.length+t.length) c')=some (Value.slice A' ((Oc.p s Q).out++t).length c')
    rw[bF]
   ·rw[Array.getElem?_setIfInBounds_ne (by omega),hc Q F k hk]
    rcases Nat.lt_or_ge k 25 with h1|h1
    ·have M:∀q:Oc.Pl,∀x:Pm,(aH q x)[k]? =(ae q.j++bf q.x x.tA x.tc)[k]?:=fun q x=>by
      unfold aH;rw[←List.append_assoc,bJ (by simp[cf,bf];omega)]
     rw[M,M]
    ·obtain rfl|rfl:k=26∨k=27:=by omega
     ·rfl
     ·rfl
  ·rw[dF s _ e,aZ e,Array.getElem?_setIfInBounds_ne (by omega)]
   exact hc Q D k hk
 ·rw[I];exact(far h.rows.ord (by decide)).farG c l (by decide)
 ·intro k hk;rw[b] at hk;have hj:=h.rows.jm k hk;have U:JT w' (Oc.p s k).j:=⟨far hj.env (by decide),far hj.needs (by decide),far hj.lad (by decide),hj.eb,hj.nb,hj.lb⟩
  have O:=U.farG c l (by decide) (by decide) (by decide)
  by_cases e:k=i
  ·subst e;rw[cU s _ F];exact O
  ·rw[dF s _ e];exact O
 ·intro k hk;rw[b] at hk;have C:=(far (h.rows.times k hk) (by decide)).farG c l (by decide)
  by_cases e:k=i
  ·subst e;rw[cU s _ F,cw];exact C
  ·rw[dF s _ e,aZ e];exact C
 ·intro k hk;rw[b] at hk;rw[K];have C:=(far (h.rows.needs k hk).2 (by decide)).farG c l (by decide)
  by_cases e:k=i
  ·subst e;rw[cw];exact⟨(h.rows.needs k hk).1,C⟩
  ·rw[aZ e];exact⟨(h.rows.needs k hk).1,C⟩
 ·intro k hk;rw[b] at hk;have C:=(far (h.rows.deps k hk) (by decide)).farG c l (by decide)
  by_cases e:k=i
  ·subst e;rw[cw];exact C
  ·rw[aZ e];exact C
 ·intro k hk;rw[b] at hk
  by_cases e:k=i
  ·subst e;rw[cU s _ F,cw];have M:((Oc.p s k).out++t).length=(Oc.p s k).out.length+t.length:=bF;have f:cZ ((Oc.p s k).out++t)=cZ (Oc.p s k).out++cZ t:=by simp[cZ]
   show Own _ _ _ _ (.slice A' ((Oc.p s k).out++t).length c') ((Oc.p s k).out++t).length (cZ ((Oc.p s k).out++t))
   rw[M,f];exact ho.farG c l (by decide)
  ·rw[dF s _ e,aZ e];exact(G k hk e).farG c l (by decide)
 ·refine Qw.farG ?_ c l (by decide)
  show Qw w' _ _ dv s.draws.length (ax s.draws)
  rcases d with f|⟨q,y,f,_,u⟩
  ·rw[f] at o;exact h.rows.draws.up (cX o)
  ·rw[f] at o;exact h.rows.draws.farG u o (by decide)
 ·intro a k ha hk E r h1;rw[b] at ha hk;have H:∀k,k<s.pl.length→k≠i→∀r,oB A'=some r→oB (m k).oA≠some r:=by
   intro k hk L r h1 h2;rcases X with e|⟨r2,e,ab⟩
   ·rw[cH,cH,h1] at e;exact h.rows.ap i k F hk (fun e=>L e.symm) r e.symm h2
   ·rw[cH,h1] at e;injection e with e
    have:=bU (h.rows.outs k hk) r (by rw[cH];exact h2)
    omega
  by_cases e:a=i
  ·subst e;rw[cw] at h1;rw[aZ (fun f=>E f.symm)]
   exact H k hk (fun f=>E f.symm) r h1
  ·rw[aZ e] at h1
   by_cases f:k=i
   ·subst f;rw[cw];intro h3;exact H a ha e r h3 h1
   ·rw[aZ f];exact h.rows.ap a k ha hk E r h1
 ·rw[K];obtain⟨Z,k2,hm,D⟩:=h.map;refine⟨Z,k2,hm,IMap.farG ?_ c l⟩;rcases d with f|⟨q,y,f,_,u⟩
  ·rw[f] at o;exact D.up (cX o)
  ·rw[f] at o;exact D.farG u o
end
def CS (w9:World) (s1:Oc.St) (m':Nat→Pm) (i g pb:Nat) (p2 p3 p4 p5 p7 p8 p9 h k l m n o q r s t u w x y z A B C D E F G H I J K L M N O P Q R S T U V W X Y Z aa ab ac ad ae:Value) (b:Array Bool) (a:Act) (ww:World):Prop:=
 ∃(b0 b1 b2 b3 b4 b5 b6 b7 b8 b9 b10 b11 b12 c b14 d e:Bool) (f:Nat) (af:Value),b=#[b0,b1,b2,b3,b4,b5,b6,b7,b8,b9,b10,b11,b12,c,b14,d,e]∧
  a={tmps:=#[.pointer (some ⟨g,0,none⟩),.int .i64 (i:Int),p2,p3,p4,p5,.pointer (some ⟨pb,i*28,none⟩),p7,p8,p9,h,k,l,m,n,o,q,r,s,t,u,w,x,y,z,A,B,C,D,E,F,cond b0 (.pointer (some ⟨pb,i*28,none⟩)) (G),cond b1 (.pointer (some ⟨pb,i*28,none⟩)) (H),cond b2 (.pointer (some ⟨pb,i*28+15,none⟩)) (I),cond b3 (.pointer (some ⟨pb,i*28+15,none⟩)) (J),cond b4 (.int .i64 3) (K),cond b5 (.bool true) (L),cond b6 (.bool true) (M),cond b7 (.pointer (some ⟨pb,i*28,none⟩)) (N),cond b8 (.pointer (some ⟨pb,i*28,none⟩)) (O),cond b9 (.pointer (some ⟨pb,i*28,none⟩)) (P),cond b10 (fU (Oc.p s1 i).j) (Q),cond b11 (.pointer (some ⟨pb,i*28,none⟩)) (R),cond b12 (.pointer (some ⟨pb,i*28,none⟩)) (S),cond c (.pointer (some ⟨pb,i*28+25,none⟩)) (T),cond b14 (.slice (m' i).oA (Oc.p s1 i).out.length (m' i).oc) (U),cond d (.bool (Oc.found (Oc.p s1 i).j (Oc.p s1 i).out)) (V),cond e (.bool (Oc.found (Oc.p s1 i).j (Oc.p s1 i).out)) (W),X,Y,Z,aa,ab,ac,ad,ae],defers:=[]}∧Old w9 ww
section
variable {w0 w w' : World} {B : BP} {g pb pc : Nat} {oA : Option Addr} {oc : Nat} {mp dv av : Value} {m : Nat → Pm} {s : Oc.St}
def dD (s:Oc.St) (i:Nat) (t:List Nat):List Nat:=if(Oc.p s i).x.ph=3∨(Oc.p s i).x.ph=4∨(Oc.p s i).x.ph=6 then(Oc.p s i).out++t else(Oc.p s i).out
def outp (s:Oc.St) (i:Nat) (t:List Nat):Oc.St:=
 if(Oc.p s i).x.ph=3∧Oc.found (Oc.p s i).j (dD s i t)=true then Oc.setX (setP s i {Oc.p s i with out:=dD s i t}) i (Lf.matched (Oc.p s i).x) else setP s i {Oc.p s i with out:=dD s i t}
theorem tj (s:Oc.St) {i:Nat} (a:i<s.pl.length):setP s i (Oc.p s i)=s:=by
 have e:s.pl.set i (Oc.p s i)=s.pl:=by
  apply List.ext_getElem?;intro k;rw[List.getElem?_set];split
  ·next h=>subst h;simp[a,Oc.p]
  ·rfl
 unfold setP;rw[e]
theorem tw {K:Nat} (h:SG w0 w B g pb pc oA oc mp dv av m s) (hI:Oc.I K s) (M:K≤10000000) (i:Nat) (hi:i<s.pl.length) (A:Option Addr) (c:Nat) (t:List Nat) (hd:Rs w A (cZ t)) (hb:∀b∈t,b<256) (hl:t.length≤10000000) (hm:A=none∨0<t.length):
  Calls Tryz.prog 83 #[.pointer (some ⟨g,0,none⟩),.int .i64 (i:Int),.slice A t.length c] w fun e w'=>e= .returned (.tuple #[])∧∃u,SG w0 w' B g pb pc oA oc mp dv av u (outp s i t):=by
 obtain⟨c0,_⟩:=h.cell 0 (v:= .slice (some ⟨pb,0,none⟩) s.pl.length pc) rfl;obtain⟨an,_⟩:=h.pcell hi 15 (v:= .int .i64 (Oc.p s i).x.ph) (by decide) rfl
 have i0:(0:Int)≤(i:Int):=by omega
 have i1:(i:Int)<(s.pl.length:Int):=by omega
 have i2:(s.pl.length:Int)≤32:=by have:=h.few;omega
 have l:=aJ h
 have N:=aJ hI
 have f:=aJ hi
 have HD:=aJ hd
 have HB:=aJ hb
 have HL:=aJ hl
 have HK:=aJ M
 clear h hI hd hb hi M;go_enter Tryz.func83,Tryz.ntmps83;go_upto_block 0 with fail
 go_cut [] (fun wx=>∃u,SG w0 wx B g pb pc oA oc mp dv av u (setP s i {Oc.p s i with out:=dD s i t}))
 case first=>
  by_cases L:(Oc.p s i).x.ph=3
  ·have O:Hid (dD s i t=(Oc.p s i).out++t):=aJ (by unfold dD;rw[if_pos (by rw[L];decide)])
   have q3:((Oc.p s i).x.ph==3)=true:=by rw[L];rfl
   have y:=aJ (fun A' c' w' n G k=>l.out.outp (w':=w') (A':=A') (c':=c') (t:=t) f.out n G k)
   have z:=aJ (l.out.rows.outs i f.out)
   have P:=aJ l.out.old.size
   have ak:=(l.out.pcell f.out 25 (v:= .slice (m i).oA (Oc.p s i).out.length (m i).oc) (by decide) rfl).1
   have af:(Oc.p s i).out.length≤10000000:=bN (N.out.pl i f.out).o.2 HK.out
   clear l N L;have C:(cZ t).all Value.oneCell'=true:=by simp[cZ,List.all_eq_true,Value.oneCell']
   have T:(cZ t).length=t.length*1:=by simp[cZ]
   go_wp2_with (at_builtin;refine ff rfl _ _ 35 rfl _ 5 (.int .u8 0) 1 1 Tryz.underlying35 jC rfl (by decide) (by decide) _ _ _ (by rfl) z.out _ _ _ _ (by rfl) HD.out T C ?pnx P.out hm ?_)
   case pnx=>omega
   intro v' w' n G k;obtain⟨A',c',rfl,_,_,_⟩:=n.shape;obtain⟨_,_,q⟩:=y.out A' c' w' n G k;have J:=aJ q;clear n G k q y z;go_wp2_with fail;go_meet
   case rel=>exact⟨_,by rw[O.out];exact J.out⟩
  have n3:((Oc.p s i).x.ph==3)=false:=by simpa using L
  by_cases h4:(Oc.p s i).x.ph=4
  ·have O:Hid (dD s i t=(Oc.p s i).out++t):=aJ (by unfold dD;rw[if_pos (by rw[h4];decide)])
   have q3:((Oc.p s i).x.ph==4)=true:=by rw[h4];rfl
   have y:=aJ (fun A' c' w' n G k=>l.out.outp (w':=w') (A':=A') (c':=c') (t:=t) f.out n G k)
   have z:=aJ (l.out.rows.outs i f.out)
   have P:=aJ l.out.old.size
   have ak:=(l.out.pcell f.out 25 (v:= .slice (m i).oA (Oc.p s i).out.length (m i).oc) (by decide) rfl).1
   have af:(Oc.p s i).out.length≤10000000:=bN (N.out.pl i f.out).o.2 HK.out
   clear l N h4;have C:(cZ t).all Value.oneCell'=true:=by simp[cZ,List.all_eq_true,Value.oneCell']
   have T:(cZ t).length=t.length*1:=by simp[cZ]
   go_wp2_with (at_builtin;refine ff rfl _ _ 35 rfl _ 5 (.int .u8 0) 1 1 Tryz.underlying35 jC rfl (by decide) (by decide) _ _ _ (by rfl) z.out _ _ _ _ (by rfl) HD.out T C ?pnx P.out hm ?_)
   case pnx=>omega
   intro v' w' n G k;obtain⟨A',c',rfl,_,_,_⟩:=n.shape;obtain⟨_,_,q⟩:=y.out A' c' w' n G k;have J:=aJ q;clear n G k q y z;go_wp2_with fail;go_meet
   case rel=>exact⟨_,by rw[O.out];exact J.out⟩
  have n4:((Oc.p s i).x.ph==4)=false:=by simpa using h4
  by_cases h6:(Oc.p s i).x.ph=6
  ·have O:Hid (dD s i t=(Oc.p s i).out++t):=aJ (by unfold dD;rw[if_pos (by rw[h6];decide)])
   have q3:((Oc.p s i).x.ph==6)=true:=by rw[h6];rfl
   have y:=aJ (fun A' c' w' n G k=>l.out.outp (w':=w') (A':=A') (c':=c') (t:=t) f.out n G k)
   have z:=aJ (l.out.rows.outs i f.out)
   have P:=aJ l.out.old.size
   have ak:=(l.out.pcell f.out 25 (v:= .slice (m i).oA (Oc.p s i).out.length (m i).oc) (by decide) rfl).1
   have af:(Oc.p s i).out.length≤10000000:=bN (N.out.pl i f.out).o.2 HK.out
   clear l N h6;have C:(cZ t).all Value.oneCell'=true:=by simp[cZ,List.all_eq_true,Value.oneCell']
   have T:(cZ t).length=t.length*1:=by simp[cZ]
   go_wp2_with (at_builtin;refine ff rfl _ _ 35 rfl _ 5 (.int .u8 0) 1 1 Tryz.underlying35 jC rfl (by decide) (by decide) _ _ _ (by rfl) z.out _ _ _ _ (by rfl) HD.out T C ?pnx P.out hm ?_)
   case pnx=>omega
   intro v' w' n G k;obtain⟨A',c',rfl,_,_,_⟩:=n.shape;obtain⟨_,_,q⟩:=y.out A' c' w' n G k;have J:=aJ q;clear n G k q y z;go_wp2_with fail;go_meet
   case rel=>exact⟨_,by rw[O.out];exact J.out⟩
  have n6:((Oc.p s i).x.ph==6)=false:=by simpa using h6
  have J:Hid (SG w0 w B g pb pc oA oc mp dv av m (setP s i {Oc.p s i with out:=dD s i t})):=aJ (by
   unfold dD;rw[if_neg (by rintro(e|e|e)<;>contradiction)]
   rw[tj s f.out];exact l.out)
  clear l N L h4 h6;go_wp2_with fail;go_meet
  case rel=>exact⟨_,J.out⟩
 case rest=>
  clear c0 an l;obtain⟨u,q⟩:=hcut;have l:=aJ q;clear q;have Y:i<(setP s i {Oc.p s i with out:=dD s i t}).pl.length:=by rw[dR];exact f.out
  have F:=cU s {Oc.p s i with out:=dD s i t} f.out
  have V:Hid ((∀b∈dD s i t,b<256)∧(dD s i t).length≤20000000):=aJ (by
   have h1:=(N.out.pl i f.out).o
   have h2:=HK.out
   unfold dD;split
   ·refine⟨fun b hb=>?_,by rw[bF];omega⟩
    rcases List.mem_append.mp hb with h|h
    ·exact h1.1 b h
    ·exact HB.out b h
   ·exact⟨h1.1,by omega⟩)
  have X:=aJ (N.out.pl i f.out)
  obtain⟨s1,S⟩:∃s1,setP s i {Oc.p s i with out:=dD s i t}=s1:=⟨_,rfl⟩
  rw[S] at l Y F;have HC:=aJ (fun W (n:Old wc W)=>l.out.up n)
  have E:=aJ Y
  have R:(aH (Oc.p s1 i) (u i))[15]? =some (.int .i64 (Oc.p s i).x.ph):=by rw[F];rfl
  have Z:(Oc.p s1 i).j=(Oc.p s i).j:=by rw[F]
  have Q:(Oc.p s1 i).out=dD s i t:=by rw[F]
  have aa:(Oc.p s1 i).x=(Oc.p s i).x:=by rw[F]
  by_cases L:(Oc.p s i).x.ph=3
  ·have ac:=aJ (fun W (n:Old wc W)=>pj (Oc.p s1 i).j (u i).oA (u i).oc (Oc.p s1 i).out W (by rw[Z];exact X.out.j) ((l.out.rows.outs i Y).shape.elim fun A0 h0=>h0.elim fun c0 h1=>by
    obtain⟨e,ht,_⟩:=h1;injection e with e1 e2 e3
    subst e1;exact(ht.up n).rs) (by rw[Q];exact V.out.1) (by rw[Q];have:=V.out.2;omega))
   rw[L] at R;have ad:=aJ R;have HR:Hid (outp s i t=if Oc.found (Oc.p s1 i).j (Oc.p s1 i).out=true then Oc.setX s1 i (Lf.matched (Oc.p s1 i).x) else s1):=aJ (by
    unfold outp;rw[S,Z,Q,aa]
    by_cases hf:Oc.found (Oc.p s i).j (dD s i t)=true
    ·rw[if_pos ⟨L,hf⟩,if_pos hf]
    ·rw[if_neg (fun e=>hf e.2),if_neg hf])
   have al:Hid ((Oc.p s1 i).x.times.length≤68719476000):=aJ (by rw[aa];have:=X.out.t;have:=HK.out;omega)
   clear F S R Z Q aa X L hl hm N V;go_upto_region 6 with fail
   refine ah [([],[]),([0],[]),([1],[]),([2],[]),([3,2,1,0],[5,6,7,8,9,10,11,12,13,14,15,16]),([4,3,2,1,0],[6,7,8,9,10,11,12,13,14,15,16]),([5],[]),([6],[]),([7,6],[]),([8,6],[]),([9,6,8,5,7,4,3,2,1,0],[15,16]),([6],[]),([11,6],[]),([12,6],[]),([13,6,12,5,11,4,3,2,1,0],[15,16]),([10,14,6,9,13,5,8,12,4,7,11,3,2,1,0],[16]),([6,15],[])] (CS wc s1 u i g pb _ _ _ _ _ _ _ _ _ _ _ _ _ _ _ _ _ _ _ _ _ _ _ _ _ _ _ _ _ _ _ _ _ _ _ _ _ _ _ _ _ _ _ _ _ _ _ _ _ _ _ _ _) (⟨false,false,false,false,false,false,false,false,false,false,false,false,false,false,false,false,false,0,aR,rfl,rfl,(Old.refl wc).drew⟩) ?_ ⟨?_,?_,?_,?_,?_,?_,?_,?_,?_,?_,?_,?_,?_,?_,?_,?_,?_,trivial⟩
   ·rintro a H ⟨_,b1,b2,b3,b4,_,b6,b7,_,b9,b10,b11,b12,_,b14,_,_,d,r,hl,rfl,D⟩;have ai:=congrArg Array.toList hl;simp at ai;obtain⟨rfl,rfl,rfl,rfl,rfl,rfl,rfl,rfl,rfl,rfl,rfl,rfl,rfl,rfl,rfl,rfl,rfl⟩:=ai;clear hl;have HF:=aJ D;clear D ac ad;cases ag:Oc.found (Oc.p s1 i).j (Oc.p s1 i).out with
    |false=>
     have J:Hid (SG w0 H B g pb pc oA oc mp dv av u (outp s i t)):=aJ (by rw[HR.out,ag,if_neg (by decide)];exact HC.out H HF.out)
     clear HC HR;go_wp2_with fail;go_end0;exact⟨rfl,_,J.out⟩
    |true=>
     have U:=aJ (HC.out H HF.out)
     have aj:=U.out.rngL E.out
     have HM:=aJ (show Calls Tryz.prog 145 #[.agg (bf (Oc.p s1 i).x (u i).tA (u i).tc).toArray] H _ from tM (Oc.p s1 i).x (u i).tA (u i).tc H (U.out.rows.times i E.out) al.out)
     clear HC l;go_wp2_with (refine wpList_load_mid rfl 105 _ rfl pb (i*28+15) rfl (bf (Oc.p s1 i).x (u i).tA (u i).tc) _ aj Tryz.underlying105 rfl dZ ?_);refine HM.out.mono ?_;rintro e w2 ⟨A2,c2,rfl,ht,hd⟩;have ab:=aJ (U.out.up hd);have am:=ab.out.thereX E.out 15 10 (by omega)
     have J:Hid (SG w0 (w2.setCells pb (i*28+15) (bf (Lf.matched (Oc.p s1 i).x) A2 c2)) B g pb pc oA oc mp dv av (xL u i {u i with tA:=A2,tc:=c2}) (outp s i t)):=aJ (by rw[HR.out,ag,if_pos rfl];exact ab.out.setX E.out ht)
     clear HM U ab ht hd aj HR;rw[Bs];go_wp2_with (refine wpList_store_mid rfl 105 _ _ rfl pb (i*28+15) (bf (Lf.matched (Oc.p s1 i).x) A2 c2).toArray rfl rfl am dZ (nM _ _ _) ?_);go_end0;exact⟨rfl,_,J.out⟩
   rotate_left 4
   ·rintro _ _ H K ⟨_,b1,b2,b3,b4,_,b6,b7,_,b9,b10,b11,b12,_,b14,_,_,d,r,rfl,h2,D⟩ h M
    repeat obtain⟨rfl,h⟩:=h
    subst h2;have hc:=((HC.out H D).pcell E.out 15 (v:= .int .i64 3) (by decide) ad.out).1
    go_simp;apply M;iterate 17 apply bW
    exact⟨d,r,rfl,rfl,D⟩
   rotate_left 5
   ·rintro _ _ H K ⟨_,b1,b2,b3,b4,_,b6,b7,_,b9,b10,b11,b12,_,b14,_,_,d,r,rfl,h2,D⟩ h M
    repeat obtain⟨rfl,h⟩:=h
    subst h2;rw[if_pos (by rfl)]
    refine wp_load_mid 32 _ rfl pb (i*28) rfl (ae (Oc.p s1 i).j) _ ((HC.out H D).rngJ E.out) Tryz.underlying32 rfl cB ?_;apply M;iterate 17 apply bW
    exact⟨d,r,rfl,rfl,D⟩
   rotate_left 3
   ·rintro _ _ H K ⟨_,b1,b2,b3,b4,_,b6,b7,_,b9,b10,b11,b12,_,b14,_,_,d,r,rfl,h2,D⟩ h M
    repeat obtain⟨rfl,h⟩:=h
    subst h2;have hc:=((HC.out H D).pcell E.out 25 (v:= .slice (u i).oA (Oc.p s1 i).out.length (u i).oc) (by decide) rfl).1
    go_simp;apply M;iterate 17 apply bW
    exact⟨d,r,rfl,rfl,D⟩
   ·rintro _ _ H K ⟨_,b1,b2,b3,b4,_,b6,b7,_,b9,b10,b11,b12,_,b14,_,_,d,r,rfl,h2,D⟩ h M
    repeat obtain⟨rfl,h⟩:=h
    subst h2;go_simp;refine(ac.out H D).mono ?_;rintro e w2 ⟨rfl,hd⟩;apply M;iterate 17 apply bW
    exact⟨d,r,rfl,rfl,D.up hd⟩
   all_goals
    rintro _ _ H K ⟨_,b1,b2,b3,b4,_,b6,b7,_,b9,b10,b11,b12,_,b14,_,_,d,r,rfl,h2,D⟩ h M
    repeat obtain⟨rfl,h⟩:=h
    subst h2;go_simp;apply M;iterate 17 apply bW
    exact⟨d,r,rfl,rfl,D⟩
  ·have n3:((Oc.p s i).x.ph==3)=false:=by simpa using L
   have ao:=(l.out.pcell Y 15 (v:= .int .i64 (Oc.p s i).x.ph) (by decide) R).1
   have HR:Hid (outp s i t=s1):=aJ (by unfold outp;rw[if_neg (fun e=>L e.1)];exact S)
   clear F S R Z Q aa X L HC hl hm N V;go_upto_region 6 with fail
   go_quiet (fail)
   have J:Hid (∀W,Old wc W→SG w0 W B g pb pc oA oc mp dv av u (outp s i t)):=aJ (fun W n=>by rw[HR.out];exact l.out.up n)
   clear l HR;go_wp2_with fail;go_end0;exact⟨rfl,_,J.out _ (Old.drewN (Old.refl _) _)⟩
end
def CW (w9:World) (s:Oc.St) (m:Nat→Pm) (i g pb pc ke:Nat) (x:E3) (R:Lf.T×Bool) (p3 p4 aM aN aO aP aQ aR aS aT aU aV aW aX aY aZ a0 a1 a2 a3 a4 a5 a6 a7 a8 a9 a' ba bb bc bd be bf bg bh bi bj bk bl bm bn bo bp bq br bt bu bv bw bx bz bA bB bC bD bE bF bG bH bI bJ bK bL bM bN bO bP bQ bR bS bT bU bV bW bX bY b' ca cb cc cd ce cf cg ch w y z B C D E F G H I J K L M N O P Q S U V W X Y Z aa ab ac ad ae af ag ah ai aj ak al am an ao ap aq ar au av aw ax ay az aA aB aC aD aE aF aG aH aI aJ aK:Value) (b:Array Bool) (a:Act) (ww:World):Prop:=
 ∃(b0 b1 b2 b3 b4 b5 b6 b7 b8 b9 b10 b11 b12 f b14 h k d l n o q r t u:Bool) (aL:Nat) (va:Value),b=#[b0,b1,b2,b3,b4,b5,b6,b7,b8,b9,b10,b11,b12,f,b14,h,k,d,l,n,o,q,r,t,u]∧
  a={tmps:=#[.pointer (some ⟨g,0,none⟩),.int .i64 (i:Int),.agg #[.int .i64 x.e.kind,.string x.e.job,.bool x.e.ok,.int .i64 x.e.code,.slice x.A x.e.data.length x.c,.int .u64 x.e.at_,.int .i64 0,.int .i64 0],p3,p4,.pointer (some ⟨ke,0,none⟩),.pointer (some ⟨pb,i*28,none⟩),.int .i64 0,cond u (.bool R.2) (.bool false),.pointer (some ⟨g,0,none⟩),.pointer (some ⟨g,0,none⟩),.pointer (some ⟨g,0,none⟩),.slice (some ⟨pb,0,none⟩) s.pl.length pc,.int .i64 (i:Int),.pointer (some ⟨pb,i*28,none⟩),.pointer (some ⟨ke,0,none⟩),.int .i64 x.e.kind,aM,aN,aO,aP,aQ,aR,aS,aT,aU,aV,aW,aX,aY,aZ,a0,a1,a2,a3,a4,a5,a6,a7,a8,a9,a',ba,bb,bc,bd,be,bf,bg,bh,cond l (.tuple #[va,.bool R.2]) (bi),cond b0 (.pointer (some ⟨pb,i*28,none⟩)) (bj),cond b1 (.pointer (some ⟨pb,i*28,none⟩)) (bk),cond b2 (.pointer (some ⟨pb,i*28,none⟩)) (bl),cond b3 (.pointer (some ⟨pb,i*28,none⟩)) (bm),cond b4 (fU (Oc.p s i).j) (bn),cond b5 (.pointer (some ⟨pb,i*28,none⟩)) (bo),cond b6 (.pointer (some ⟨pb,i*28,none⟩)) (bp),cond b7 (.pointer (some ⟨pb,i*28+15,none⟩)) (bq),cond b8 (bZ (Oc.p s i).x (m i).tA (m i).tc) (br),cond b9 (.pointer (some ⟨ke,3,none⟩)) (bt),cond b10 (.int .i64 x.e.code) (bu),cond b11 (.pointer (some ⟨g,0,none⟩)) (bv),cond b12 (.pointer (some ⟨g,0,none⟩)) (bw),cond f (.pointer (some ⟨g,3,none⟩)) (bx),cond b14 (.int .u64 s.now) (bz),cond h (.pointer (some ⟨g,0,none⟩)) (bA),cond k (.int .u64 (Oc.jitter s)) (bB),cond d (.tuple #[va,.bool R.2]) (bC),cond n (va) (bD),cond o (.bool R.2) (bE),cond q (.pointer (some ⟨pb,i*28,none⟩)) (bF),cond r (.pointer (some ⟨pb,i*28+15,none⟩)) (bG),bH,bI,bJ,bK,bL,bM,bN,bO,bP,bQ,bR,bS,bT,bU,bV,bW,bX,bY,b',ca,cb,cc,cd,ce,cf,cg,ch,w,y,z,B,C,D,E,F,G,H,I,J,K,L,M,N,O,P,Q,S,U,V,W,X,Y,Z,aa,ab,ac,ad,ae,af,ag,ah,ai,aj,ak,al,am,an,ao,ap,aq,ar,au,av,aw,ax,ay,az,aA,aB,aC,aD,aE,aF,aG,aH,aI,aJ,aK],defers:=[]}∧RgA w9 pb i R.1 d t va ww
def CX (w9:World) (s:Oc.St) (m:Nat→Pm) (i g pb pc ke:Nat) (x:E3) (R:Lf.T×Int×Bool) (p3 p4 aT aU aV aW aX aY aZ a0 a1 a2 a3 a4 a5 a6 a7 a8 a9 a' ba bb bc bd be bf bg bh bi bj bk bl bm bn bo bp bq br bt bu bv bw bx bz bA bB bC bD bE bF bG bH bI bJ bK bL bM bN bO bP bQ bR bS bT bU bV bW bX bY b' ca cb cc cd ce cf cg ch ci cj ck cl cm cn co F G H I J K L M N O P Q S U V W X Y Z aa ab ac ad ae af ag ah ai aj ak al am an ao ap aq ar au av aw ax ay az aA aB aC aD aE aF aG aH aI aJ aK aL aM aN aO aP aQ aR:Value) (b:Array Bool) (a:Act) (ww:World):Prop:=
 ∃(b0 b1 b2 b3 b4 b5 b6 b7 b8 b9 b10 b11 b12 f b14 h k l n o q r d t u w y z B C D E:Bool) (aS:Nat) (va:Value),b=#[b0,b1,b2,b3,b4,b5,b6,b7,b8,b9,b10,b11,b12,f,b14,h,k,l,n,o,q,r,d,t,u,w,y,z,B,C,D,E]∧
  a={tmps:=#[.pointer (some ⟨g,0,none⟩),.int .i64 (i:Int),.agg #[.int .i64 x.e.kind,.string x.e.job,.bool x.e.ok,.int .i64 x.e.code,.slice x.A x.e.data.length x.c,.int .u64 x.e.at_,.int .i64 0,.int .i64 0],p3,p4,.pointer (some ⟨ke,0,none⟩),.pointer (some ⟨pb,i*28,none⟩),cond D (.int .i64 R.2.1) (.int .i64 0),cond E (.bool R.2.2) (.bool false),.pointer (some ⟨g,0,none⟩),.pointer (some ⟨g,0,none⟩),.pointer (some ⟨g,0,none⟩),.slice (some ⟨pb,0,none⟩) s.pl.length pc,.int .i64 (i:Int),.pointer (some ⟨pb,i*28,none⟩),.pointer (some ⟨ke,0,none⟩),.int .i64 x.e.kind,aT,aU,cond t (.tuple #[va,.int .i64 R.2.1,.bool R.2.2]) (aV),cond b0 (.pointer (some ⟨pb,i*28,none⟩)) (aW),cond b1 (.pointer (some ⟨pb,i*28,none⟩)) (aX),cond b2 (.pointer (some ⟨pb,i*28,none⟩)) (aY),cond b3 (.pointer (some ⟨pb,i*28,none⟩)) (aZ),cond b4 (fU (Oc.p s i).j) (a0),cond b5 (.pointer (some ⟨pb,i*28,none⟩)) (a1),cond b6 (.pointer (some ⟨pb,i*28,none⟩)) (a2),cond b7 (.pointer (some ⟨pb,i*28+15,none⟩)) (a3),cond b8 (bZ (Oc.p s i).x (m i).tA (m i).tc) (a4),cond b9 (.pointer (some ⟨ke,2,none⟩)) (a5),cond b10 (.bool x.e.ok) (a6),cond b11 (.pointer (some ⟨pb,i*28,none⟩)) (a7),cond b12 (.pointer (some ⟨pb,i*28,none⟩)) (a8),cond f (.pointer (some ⟨pb,i*28,none⟩)) (a9),cond b14 (fU (Oc.p s i).j) (a'),cond h (.bool (Oc.found (Oc.p s i).j [])) (ba),cond k (.pointer (some ⟨g,0,none⟩)) (bb),cond l (.pointer (some ⟨g,0,none⟩)) (bc),cond n (.pointer (some ⟨g,3,none⟩)) (bd),cond o (.int .u64 s.now) (be),cond q (.pointer (some ⟨g,0,none⟩)) (bf),cond r (.int .u64 (Oc.jitter s)) (bg),cond d (.tuple #[va,.int .i64 R.2.1,.bool R.2.2]) (bh),cond u (va) (bi),cond w (.int .i64 R.2.1) (bj),cond y (.bool R.2.2) (bk),cond z (.pointer (some ⟨pb,i*28,none⟩)) (bl),cond B (.pointer (some ⟨pb,i*28+15,none⟩)) (bm),bn,bo,bp,bq,br,bt,bu,bv,bw,bx,bz,bA,bB,bC,bD,bE,bF,bG,bH,bI,bJ,bK,bL,bM,bN,bO,bP,bQ,bR,bS,bT,bU,bV,bW,bX,bY,b',ca,cb,cc,cd,ce,cf,cg,ch,ci,cj,ck,cl,cm,cn,co,F,G,H,I,J,K,L,M,N,O,P,Q,S,U,V,W,X,Y,Z,aa,ab,ac,ad,ae,af,ag,ah,ai,aj,ak,al,am,an,ao,ap,aq,ar,au,av,aw,ax,ay,az,aA,aB,aC,aD,aE,aF,aG,aH,aI,aJ,aK,aL,aM,aN,aO,aP,aQ,aR],defers:=[]}∧RgA w9 pb i R.1 d C va ww
section
variable {w0 w w' : World} {B : BP} {g pb pc : Nat} {oA : Option Addr} {oc : Nat} {mp dv av : Value} {m : Nat → Pm} {s : Oc.St}
def Di (w0:World) (B:BP) (g pb pc:Nat) (oA:Option Addr) (oc:Nat) (mp dv av:Value) (s c:Oc.St) (i:Nat) (v7 v8:Value) (wr:World):Prop:=
 ∃b s1 sg a,Hid (SG w0 wr B g pb pc oA oc mp dv av b s1)∧v7= .int .i64 sg∧v8= .bool a∧s1.pl.length=s.pl.length∧s1.acts=s.acts∧s1.draws=s.draws∧Hid (Oc.use (Oc.send s1 i sg) a=c)
theorem rO (s:Oc.St) (i:Nat) (a:i<s.pl.length) (t:List Nat):outp s i t=
  (let q:=Oc.p s i
  let o:=if q.x.ph=3∨q.x.ph=4∨q.x.ph=6 then q.out++t else q.out
  let s1:Oc.St:={s with pl:=s.pl.set i {q with out:=o}}
  if q.x.ph=3∧Oc.found q.j o=true then Oc.setX s1 i (Lf.matched q.x) else s1):=rfl
theorem vq {K:Nat} (h:SG w0 w B g pb pc oA oc mp dv av m s) (hI:Oc.I K s) (o:K≤10000000) (i:Nat) (hi:i<s.pl.length) (x:E3) (hk:x.e.kind=1∨x.e.kind=2∨x.e.kind=3) (T:Rs w x.A (cZ x.e.data)) (hb:∀b∈x.e.data,b<256) (U:x.e.data.length≤10000000) (hm:x.A=none∨0<x.e.data.length) (ha:s.acts.length≤1000000):
  Calls Tryz.prog 41 #[.pointer (some ⟨g,0,none⟩),.int .i64 (i:Int),zZ x] w (uw w0 B g pb pc oA oc mp (Oc.about s i x.e)):=by
 have i0:(0:Int)≤(i:Int):=by omega
 have i1:(i:Int)<(s.pl.length:Int):=by omega
 have i2:(s.pl.length:Int)≤32:=by have:=h.few;omega
 have HG:=aJ h
 have J:=aJ hI
 have q:=aJ hi
 have HD:=aJ T
 have HB:=aJ hb
 have HL:=aJ U
 have HA:=aJ ha
 have HK:=aJ o
 clear h hI T hb U ha hi o;unfold zZ;go_enter Tryz.func41,Tryz.ntmps41;go_upto_region 1 with fail
 generalize ad:w.alloc _=n;have X:Hid (Old w n):=aJ (by rw[←ad];exact(Old.refl w).alloc _)
 have z:Hid (n.heap[w.heap.size]? =some (.cells #[.int .i64 x.e.kind,.string x.e.job,.bool x.e.ok,.int .i64 x.e.code,.slice x.A x.e.data.length x.c,.int .u64 x.e.at_,.int .i64 0,.int .i64 0] 37 (0,0))):=aJ (by rw[←ad];exact aM _ _)
 clear ad;obtain⟨Q,ak⟩:∃Q,w.heap.size=Q:=⟨_,rfl⟩
 rw[ak] at z ⊢;clear ak;have r:=aJ (HG.out.up X.out);have V:=aJ (HD.out.up X.out);clear HG HD X;obtain⟨c0,_⟩:=r.out.cell 0 (v:= .slice (some ⟨pb,0,none⟩) s.pl.length pc) rfl;have y:n.cell? ⟨Q,0,none⟩=some (.int .i64 x.e.kind):=(aK n Q 0 _ _ _ z.out).trans rfl;go_upto_block 0 with fail
 clear c0 y;go_cut [7,8] (fun v7 v8 wx=>Di w0 B g pb pc oA oc mp dv av s (Oc.about s i x.e) i v7 v8 wx)
 case first=>
  rcases hk with hk|hk|hk
  ·have q1:(x.e.kind==1)=true:=by rw[hk];rfl
   have u:=aJ (J.out.pl i q.out)
   have L:=aJ ((r.out.rows.jm i q.out).ok u.out.j)
   have HT:=aJ (r.out.rows.times i q.out)
   have G:=aJ (fun W (D:Old n W)=>r.out.up D)
   have ao:=aJ (fun W (D:Old n W)=>(show Calls Tryz.prog 80 #[fU (Oc.p s i).j,.slice none 0 0] W _ from pj (Oc.p s i).j none 0 [] W u.out.j Rs.nil_ (fun b hb=>by simp at hb) (by simp)))
   have E:=aJ (fun W (D:Old n W)=>tL (Oc.p s i).j (Oc.p s i).x (m i).tA (m i).tc x.e.ok (Oc.found (Oc.p s i).j []) s.now (Oc.jitter s) W (L.out.up D) J.out.now (Oc.U_jit J.out) u.out.x (HT.out.up D) (by have:=u.out.t;have:=HK.out;omega))
   obtain⟨R,Z⟩:∃R,Lf.spawned (Oc.p s i).j.j (Oc.p s i).x x.e.ok (Oc.found (Oc.p s i).j []) s.now (Oc.jitter s)=R:=⟨_,rfl⟩
   rw[Z] at E;have H:Hid (∀A' c' W,Old n W→Ts W 29 A' (ax R.1.times)→Di w0 B g pb pc oA oc mp dv av s (Oc.about s i x.e) i (.int .i64 R.2.1) (.bool R.2.2) (W.setCells pb (i*28+15) (bf R.1 A' c'))):=aJ (fun A' c' W hW O=>by
    refine⟨_,_,_,_,aJ ((r.out.up hW).setX q.out O),rfl,rfl,dR s i _,rfl,rfl,aJ ?_⟩;subst Z;unfold Oc.about;rw[if_pos hk]
    rfl)
   clear Z u L HT J;clear hk;go_upto_region 5 with fail
   clear q1;refine ah [([],[]),([],[]),([1],[]),([2],[]),([3,2,1],[22,27,28,29,30,31,23,24,25,26]),([],[]),([5],[]),([6],[]),([7,6,5],[22,27,28,29,30,31,23,24,25,26]),([],[]),([9],[22,27,28,29,30,31,23,24,25,26]),([],[]),([11],[]),([12],[]),([13,12,11],[15,27,28,29,30,31,21,22,23,24,25,26]),([14,13,12,11],[21,22,27,28,29,30,31,23,24,25,26]),([],[]),([16],[]),([17],[]),([18,17,16],[22,27,28,29,30,31,23,24,25,26]),([],[]),([20,15,14,13,12,11],[22,27,28,29,30,31,23,24,25,26]),([4,8,10,15,19,21,3,7,9,14,18,20,2,6,13,17,1,5,12,16,11],[23,27,28,29,30,31,24,25,26]),([22],[]),([23],[]),([23],[]),([23],[]),([0,1,2,3,4,5,6,7,8,9,10,11,12,13,14,15,16,17,18,19,20,21,22,23,24],[]),([27,0,1,2,3,4,5,6,7,8,9,10,11,12,13,14,15,16,17,18,19,20,21,22,23,24],[]),([28,24,22,0,1,2,3,4,5,6,7,8,9,10,11,12,13,14,15,16,17,18,19,20,21,23,27],[30,31]),([25,29,0,1,2,3,4,5,6,7,8,9,10,11,12,13,14,15,16,17,18,19,20,21,22,23,24,27,28],[]),([26,30],[])] (CX n s m i g pb pc Q x R _ _ _ _ _ _ _ _ _ _ _ _ _ _ _ _ _ _ _ _ _ _ _ _ _ _ _ _ _ _ _ _ _ _ _ _ _ _ _ _ _ _ _ _ _ _ _ _ _ _ _ _ _ _ _ _ _ _ _ _ _ _ _ _ _ _ _ _ _ _ _ _ _ _ _ _ _ _ _ _ _ _ _ _ _ _ _ _ _ _ _ _ _ _ _ _ _ _ _ _ _ _ _ _ _ _ _ _ _ _ _ _ _ _ _ _ _ _ _ _ _ _ _ _ _ _ _ _ _ _ _ _ _ _ _ _ _ _ _ _ _ _ _ _ _ _) (⟨false,false,false,false,false,false,false,false,false,false,false,false,false,false,false,false,false,false,false,false,false,false,false,false,false,false,false,false,false,false,false,false,0,aR,rfl,rfl,RgA.start n pb i R.1 aR⟩) ?_ ⟨?_,?_,?_,?_,?_,?_,?_,?_,?_,?_,?_,?_,?_,?_,?_,?_,?_,?_,?_,?_,?_,?_,?_,?_,?_,?_,?_,?_,?_,?_,?_,?_,trivial⟩
   ·rintro a n ⟨y,b1,b2,b3,b4,_,b6,b7,_,b9,b10,b11,b12,_,b14,_,_,_,_,_,_,_,_,_,_,_,_,_,_,_,_,_,f,va,U,rfl,k⟩;have M:=congrArg Array.toList U;simp at M;obtain⟨rfl,rfl,rfl,rfl,rfl,rfl,rfl,rfl,rfl,rfl,rfl,rfl,rfl,rfl,rfl,rfl,rfl,rfl,rfl,rfl,rfl,rfl,rfl,rfl,rfl,rfl,rfl,rfl,rfl,rfl,rfl,rfl⟩:=M;clear U;obtain⟨W0,A2,c2,aa,ab,rfl⟩:=k.2.2 rfl;clear k G E z;go_wp2_with fail;go_meet
    case rel=>exact H.out A2 c2 W0 aa ab
   rotate_left 4
   ·rintro _ _ n K ⟨y,b1,b2,b3,b4,_,b6,b7,_,b9,b10,b11,b12,_,b14,_,_,_,_,_,_,_,_,_,_,_,_,_,_,_,_,_,f,va,rfl,h2,k⟩ h o
    repeat obtain⟨rfl,h⟩:=h
    subst h2;rw[if_pos (by rfl)]
    refine wp_load_mid 32 _ rfl pb (i*28) rfl (ae (Oc.p s i).j) _ ((G.out n (k.1 rfl)).rngJ q.out) Tryz.underlying32 rfl cB ?_;apply o;iterate 32 apply bW
    exact⟨f,va,rfl,rfl,k⟩
   rotate_left 3
   ·rintro _ _ n K ⟨y,b1,b2,b3,b4,_,b6,b7,_,b9,b10,b11,b12,_,b14,_,_,_,_,_,_,_,_,_,_,_,_,_,_,_,_,_,f,va,rfl,h2,k⟩ h o
    repeat obtain⟨rfl,h⟩:=h
    subst h2;rw[if_pos (by rfl)]
    refine wp_load_mid 105 _ rfl pb (i*28+15) rfl (bf (Oc.p s i).x (m i).tA (m i).tc) _ ((G.out n (k.1 rfl)).rngL q.out) Tryz.underlying105 rfl dZ ?_;apply o;iterate 32 apply bW
    exact⟨f,va,rfl,rfl,k⟩
   rotate_left 1
   ·rintro _ _ n K ⟨y,b1,b2,b3,b4,_,b6,b7,_,b9,b10,b11,b12,_,b14,_,_,_,_,_,_,_,_,_,_,_,_,_,_,_,_,_,f,va,rfl,h2,k⟩ h o
    repeat obtain⟨rfl,h⟩:=h
    subst h2;have hc:=(aK n Q 2 _ _ _ ((k.1 rfl).block z.out)).trans (rfl:_=some (Value.bool x.e.ok));go_simp;apply o;iterate 32 apply bW
    exact⟨f,va,rfl,rfl,k⟩
   rotate_left 3
   ·rintro _ _ n K ⟨y,b1,b2,b3,b4,_,b6,b7,_,b9,b10,b11,b12,_,b14,_,_,_,_,_,_,_,_,_,_,_,_,_,_,_,_,_,f,va,rfl,h2,k⟩ h o
    repeat obtain⟨rfl,h⟩:=h
    subst h2;rw[if_pos (by rfl)]
    refine wp_load_mid 32 _ rfl pb (i*28) rfl (ae (Oc.p s i).j) _ ((G.out n (k.1 rfl)).rngJ q.out) Tryz.underlying32 rfl cB ?_;apply o;iterate 32 apply bW
    exact⟨f,va,rfl,rfl,k⟩
   ·rintro _ _ n K ⟨y,b1,b2,b3,b4,_,b6,b7,_,b9,b10,b11,b12,_,b14,_,_,_,_,_,_,_,_,_,_,_,_,_,_,_,_,_,f,va,rfl,h2,k⟩ h o
    repeat obtain⟨rfl,h⟩:=h
    subst h2;go_simp;refine(ao.out n (k.1 rfl)).mono ?_;rintro e w2 ⟨rfl,T⟩;apply o;iterate 32 apply bW
    exact⟨f,va,rfl,rfl,k.grow T⟩
   rotate_left 3
   ·rintro _ _ n K ⟨y,b1,b2,b3,b4,_,b6,b7,_,b9,b10,b11,b12,_,b14,_,_,_,_,_,_,_,_,_,_,_,_,_,_,_,_,_,f,va,rfl,h2,k⟩ h o
    repeat obtain⟨rfl,h⟩:=h
    subst h2;have hc:=((G.out n (k.1 rfl)).cell 3 (v:= .int .u64 s.now) rfl).1;go_simp;apply o;iterate 32 apply bW
    exact⟨f,va,rfl,rfl,k⟩
   rotate_left 1
   ·rintro _ _ n K ⟨y,b1,b2,b3,b4,_,b6,b7,_,b9,b10,b11,b12,_,b14,_,_,_,_,_,_,_,_,_,_,_,_,_,_,_,_,_,f,va,rfl,h2,k⟩ h o
    repeat obtain⟨rfl,h⟩:=h
    subst h2;go_simp;refine(mL (G.out n (k.1 rfl))).mono ?_;rintro e w2 ⟨rfl,rfl⟩;apply o;iterate 32 apply bW
    exact⟨f,va,rfl,rfl,k⟩
   ·rintro _ _ n K ⟨y,b1,b2,b3,b4,_,b6,b7,_,b9,b10,b11,b12,_,b14,_,_,_,_,_,_,_,_,_,_,_,_,_,_,_,_,_,f,va,rfl,h2,k⟩ h o
    repeat obtain⟨rfl,h⟩:=h
    subst h2;go_simp;refine(E.out n (k.1 rfl)).mono ?_;rintro e w2 ⟨A2,c2,rfl,O,T⟩;apply o;iterate 32 apply bW
    exact⟨f,bZ R.1 A2 c2,rfl,rfl,k.call T O⟩
   rotate_left 6
   ·rintro _ _ n K ⟨y,b1,b2,b3,b4,_,b6,b7,_,b9,b10,b11,b12,_,b14,_,_,_,_,_,_,_,_,_,_,_,_,_,_,_,_,_,f,va,rfl,h2,k⟩ h o
    repeat obtain⟨rfl,h⟩:=h
    subst h2;obtain⟨D,A2,c2,ac,O⟩:=k.2.1 rfl rfl;subst ac;rw[if_pos (by rfl)]
    refine wp_store_mid 105 _ _ rfl pb (i*28+15) (bf R.1 A2 c2).toArray rfl rfl ((G.out n D).thereX q.out 15 10 (by omega)) dZ (nM _ _ _) ?_
    apply o;iterate 32 apply bW
    exact⟨f,bZ R.1 A2 c2,rfl,rfl,RgA.st _ D O⟩
   all_goals
    rintro _ _ n K ⟨y,b1,b2,b3,b4,_,b6,b7,_,b9,b10,b11,b12,_,b14,_,_,_,_,_,_,_,_,_,_,_,_,_,_,_,_,_,f,va,rfl,h2,k⟩ h o
    repeat obtain⟨rfl,h⟩:=h
    subst h2;go_simp;apply o;iterate 32 apply bW
    exact⟨f,va,rfl,rfl,k⟩
  ·have q1:(x.e.kind==1)=false:=by rw[hk];rfl
   have q2:(x.e.kind==2)=true:=by rw[hk];rfl
   have u:=aJ (J.out.pl i q.out)
   have L:=aJ ((r.out.rows.jm i q.out).ok u.out.j)
   have HT:=aJ (r.out.rows.times i q.out)
   have G:=aJ (fun W (D:Old n W)=>r.out.up D)
   have E:=aJ (fun W (D:Old n W)=>Bt (Oc.p s i).j (Oc.p s i).x (m i).tA (m i).tc x.e.code s.now (Oc.jitter s) W (L.out.up D) J.out.now (Oc.U_jit J.out) u.out.x (HT.out.up D) (by have:=u.out.t;have:=HK.out;omega))
   obtain⟨R,Z⟩:∃R,Lf.exit (Oc.p s i).j.j (Oc.p s i).x x.e.code s.now (Oc.jitter s)=R:=⟨_,rfl⟩
   rw[Z] at E;have H:Hid (∀A' c' W,Old n W→Ts W 29 A' (ax R.1.times)→Di w0 B g pb pc oA oc mp dv av s (Oc.about s i x.e) i (.int .i64 0) (.bool R.2) (W.setCells pb (i*28+15) (bf R.1 A' c'))):=aJ (fun A' c' W hW O=>by
    refine⟨_,_,_,_,aJ ((r.out.up hW).setX q.out O),rfl,rfl,dR s i _,rfl,rfl,aJ ?_⟩;subst Z;unfold Oc.about;unfold Oc.send;rw[if_pos rfl,if_neg (by rw[hk];decide),if_pos hk]
    rfl)
   clear Z u L HT J;clear hk;go_upto_region 7 with fail
   clear q1 q2;refine ah [([],[]),([],[]),([1],[]),([2],[]),([3,2,1],[17,21,22,23,24,18,19,20]),([],[]),([5],[]),([6],[]),([7,6,5],[17,21,22,23,24,18,19,20]),([],[]),([9],[17,21,22,23,24,18,19,20]),([],[]),([11],[]),([12],[]),([13,12,11],[17,21,22,23,24,18,19,20]),([],[]),([15],[17,21,22,23,24,18,19,20]),([4,8,10,14,16,3,7,9,13,15,2,6,12,1,5,11],[18,21,22,23,24,19,20]),([17],[]),([18],[]),([18],[]),([0,1,2,3,4,5,6,7,8,9,10,11,12,13,14,15,16,17,18,19],[]),([21,0,1,2,3,4,5,6,7,8,9,10,11,12,13,14,15,16,17,18,19],[]),([22,19,17,0,1,2,3,4,5,6,7,8,9,10,11,12,13,14,15,16,18,21],[24]),([20,23],[])] (CW n s m i g pb pc Q x R _ _ _ _ _ _ _ _ _ _ _ _ _ _ _ _ _ _ _ _ _ _ _ _ _ _ _ _ _ _ _ _ _ _ _ _ _ _ _ _ _ _ _ _ _ _ _ _ _ _ _ _ _ _ _ _ _ _ _ _ _ _ _ _ _ _ _ _ _ _ _ _ _ _ _ _ _ _ _ _ _ _ _ _ _ _ _ _ _ _ _ _ _ _ _ _ _ _ _ _ _ _ _ _ _ _ _ _ _ _ _ _ _ _ _ _ _ _ _ _ _ _ _ _ _ _ _ _ _ _ _ _ _ _ _ _ _ _ _ _ _ _ _ _ _ _) (⟨false,false,false,false,false,false,false,false,false,false,false,false,false,false,false,false,false,false,false,false,false,false,false,false,false,0,aR,rfl,rfl,RgA.start n pb i R.1 aR⟩) ?_ ⟨?_,?_,?_,?_,?_,?_,?_,?_,?_,?_,?_,?_,?_,?_,?_,?_,?_,?_,?_,?_,?_,?_,?_,?_,?_,trivial⟩
   ·rintro a n ⟨y,b1,b2,b3,b4,_,b6,b7,_,b9,b10,b11,b12,_,b14,_,_,_,_,_,_,_,_,_,_,f,va,U,rfl,k⟩;have M:=congrArg Array.toList U;simp at M;obtain⟨rfl,rfl,rfl,rfl,rfl,rfl,rfl,rfl,rfl,rfl,rfl,rfl,rfl,rfl,rfl,rfl,rfl,rfl,rfl,rfl,rfl,rfl,rfl,rfl,rfl⟩:=M;clear U;obtain⟨W0,A2,c2,aa,ab,rfl⟩:=k.2.2 rfl;clear k G E z;go_wp2_with fail;go_meet
    case rel=>exact H.out A2 c2 W0 aa ab
   rotate_left 4
   ·rintro _ _ n K ⟨y,b1,b2,b3,b4,_,b6,b7,_,b9,b10,b11,b12,_,b14,_,_,_,_,_,_,_,_,_,_,f,va,rfl,h2,k⟩ h o
    repeat obtain⟨rfl,h⟩:=h
    subst h2;rw[if_pos (by rfl)]
    refine wp_load_mid 32 _ rfl pb (i*28) rfl (ae (Oc.p s i).j) _ ((G.out n (k.1 rfl)).rngJ q.out) Tryz.underlying32 rfl cB ?_;apply o;iterate 25 apply bW
    exact⟨f,va,rfl,rfl,k⟩
   rotate_left 3
   ·rintro _ _ n K ⟨y,b1,b2,b3,b4,_,b6,b7,_,b9,b10,b11,b12,_,b14,_,_,_,_,_,_,_,_,_,_,f,va,rfl,h2,k⟩ h o
    repeat obtain⟨rfl,h⟩:=h
    subst h2;rw[if_pos (by rfl)]
    refine wp_load_mid 105 _ rfl pb (i*28+15) rfl (bf (Oc.p s i).x (m i).tA (m i).tc) _ ((G.out n (k.1 rfl)).rngL q.out) Tryz.underlying105 rfl dZ ?_;apply o;iterate 25 apply bW
    exact⟨f,va,rfl,rfl,k⟩
   rotate_left 1
   ·rintro _ _ n K ⟨y,b1,b2,b3,b4,_,b6,b7,_,b9,b10,b11,b12,_,b14,_,_,_,_,_,_,_,_,_,_,f,va,rfl,h2,k⟩ h o
    repeat obtain⟨rfl,h⟩:=h
    subst h2;have hc:=(aK n Q 3 _ _ _ ((k.1 rfl).block z.out)).trans (rfl:_=some (Value.int .i64 x.e.code));go_simp;apply o;iterate 25 apply bW
    exact⟨f,va,rfl,rfl,k⟩
   rotate_left 3
   ·rintro _ _ n K ⟨y,b1,b2,b3,b4,_,b6,b7,_,b9,b10,b11,b12,_,b14,_,_,_,_,_,_,_,_,_,_,f,va,rfl,h2,k⟩ h o
    repeat obtain⟨rfl,h⟩:=h
    subst h2;have hc:=((G.out n (k.1 rfl)).cell 3 (v:= .int .u64 s.now) rfl).1;go_simp;apply o;iterate 25 apply bW
    exact⟨f,va,rfl,rfl,k⟩
   rotate_left 1
   ·rintro _ _ n K ⟨y,b1,b2,b3,b4,_,b6,b7,_,b9,b10,b11,b12,_,b14,_,_,_,_,_,_,_,_,_,_,f,va,rfl,h2,k⟩ h o
    repeat obtain⟨rfl,h⟩:=h
    subst h2;go_simp;refine(mL (G.out n (k.1 rfl))).mono ?_;rintro e w2 ⟨rfl,rfl⟩;apply o;iterate 25 apply bW
    exact⟨f,va,rfl,rfl,k⟩
   ·rintro _ _ n K ⟨y,b1,b2,b3,b4,_,b6,b7,_,b9,b10,b11,b12,_,b14,_,_,_,_,_,_,_,_,_,_,f,va,rfl,h2,k⟩ h o
    repeat obtain⟨rfl,h⟩:=h
    subst h2;go_simp;refine(E.out n (k.1 rfl)).mono ?_;rintro e w2 ⟨A2,c2,rfl,O,T⟩;apply o;iterate 25 apply bW
    exact⟨f,bZ R.1 A2 c2,rfl,rfl,k.call T O⟩
   rotate_left 5
   ·rintro _ _ n K ⟨y,b1,b2,b3,b4,_,b6,b7,_,b9,b10,b11,b12,_,b14,_,_,_,_,_,_,_,_,_,_,f,va,rfl,h2,k⟩ h o
    repeat obtain⟨rfl,h⟩:=h
    subst h2;obtain⟨D,A2,c2,ac,O⟩:=k.2.1 rfl rfl;subst ac;rw[if_pos (by rfl)]
    refine wp_store_mid 105 _ _ rfl pb (i*28+15) (bf R.1 A2 c2).toArray rfl rfl ((G.out n D).thereX q.out 15 10 (by omega)) dZ (nM _ _ _) ?_
    apply o;iterate 25 apply bW
    exact⟨f,bZ R.1 A2 c2,rfl,rfl,RgA.st _ D O⟩
   all_goals
    rintro _ _ n K ⟨y,b1,b2,b3,b4,_,b6,b7,_,b9,b10,b11,b12,_,b14,_,_,_,_,_,_,_,_,_,_,f,va,rfl,h2,k⟩ h o
    repeat obtain⟨rfl,h⟩:=h
    subst h2;go_simp;apply o;iterate 25 apply bW
    exact⟨f,va,rfl,rfl,k⟩
  ·have q1:(x.e.kind==1)=false:=by rw[hk];rfl
   have q2:(x.e.kind==2)=false:=by rw[hk];rfl
   have q3:(x.e.kind==3)=true:=by rw[hk];rfl
   have af:=aJ (tw r.out J.out HK.out i q.out x.A x.c x.e.data V.out HB.out HL.out hm)
   have b4:n.cell? ⟨Q,4,none⟩=some (.slice x.A x.e.data.length x.c):=(aK n Q 4 _ _ _ z.out).trans rfl
   have H:Hid (∀m' W,SG w0 W B g pb pc oA oc mp dv av m' (outp s i x.e.data)→Di w0 B g pb pc oA oc mp dv av s (Oc.about s i x.e) i (.int .i64 0) (.bool false) W):=aJ (fun m' W hW=>by
    have al:(outp s i x.e.data).pl.length=s.pl.length:=by
     unfold outp;split
     ·show((setP (setP s i _) i _).pl.length)=_
      rw[dR,dR]
     ·rw[dR]
    refine⟨m',outp s i x.e.data,0,false,aJ hW,rfl,rfl,al,by unfold outp;split<;>rfl,by unfold outp;split<;>rfl,aJ ?_⟩
    unfold Oc.about Oc.send Oc.use;rw[if_pos rfl,if_neg (by decide),if_neg (by rw[hk];decide),if_neg (by rw[hk];decide),if_pos hk]
    exact rO s i q.out x.e.data)
   clear hk J z r V;go_upto_region 9 with fail
   clear q1 q2 q3;go_wp2_with fail;refine(af.out).mono ?_;rintro e w2 ⟨rfl,m2,N⟩;have P:=aJ (H.out m2 w2 N);clear af H N;go_wp2_with fail;go_meet
   case rel=>exact P.out
 case rest=>
  clear hk r V z J;obtain⟨m',s1,sg,an,ai,rfl,rfl,hn,ap,_,HR⟩:=hcut;have aj:=aJ (rV ai.out i (by rw[hn];exact q.out) sg (by rw[ap];exact HA.out))
  clear ai;go_wp2_with fail;refine(aj.out).mono ?_;rintro e w2 ⟨rfl,_,N⟩;have C:=aJ N;clear N aj;cases an with
  |false=>
   have P:Hid (uw w0 B g pb pc oA oc mp (Oc.about s i x.e) (.returned (.tuple #[])) w2):=aJ ⟨rfl,_,_,_,by rw[←HR.out];unfold Oc.use;rw[if_neg (by decide)];exact C.out⟩
   clear C HR;go_wp2_with fail;go_end0;exact P.out
  |true=>
   obtain⟨dA,dc,rfl,_,_,_⟩:=C.out.rows.draws.shape;have c4:=(C.out.cell 4 (v:= .slice dA (Oc.send s1 i sg).draws.length dc) rfl);have z4:=c4.2
   replace c4:=c4.1
   cases F:(Oc.send s1 i sg).draws with
   |nil=>
    have P:Hid (uw w0 B g pb pc oA oc mp (Oc.about s i x.e) (.returned (.tuple #[])) w2):=aJ ⟨rfl,_,_,_,by
     rw[←HR.out];have e:Oc.use (Oc.send s1 i sg) true=Oc.send s1 i sg:=by
      unfold Oc.use;rw[if_pos rfl,F];have:=F;generalize Oc.send s1 i sg=s2 at this;obtain⟨_,n2,_,a2⟩:=s2;simp only at this;rw[this];rfl
     rw[e];exact C.out⟩
    rw[F] at c4;clear C HR F;go_wp2_with fail;go_end0;exact P.out
   |cons d l=>
    have hq:=C.out.rows.draws
    rw[F] at hq c4;have am:=Qw.tail (x:= .int .u64 d) (xs:=ax l) hq;have P:=aJ (fun dv' (h:Qw w2 w0.heap.size 29 dv' l.length (ax l))=>C.out.cut (dv':=dv') (l:=l) h)
    have aq:1≤dc:=by
     rcases hq.2 with⟨_,h⟩|⟨_,_,cap,_,h,_,_,h2,_⟩
     ·cases h
     ·injection h with h1 h3 h4
      simp at h2
      omega
    have ag:Hid ({Oc.send s1 i sg with draws:=l}=Oc.about s i x.e):=aJ (by rw[←HR.out];unfold Oc.use;rw[if_pos rfl,F];rfl)
    have S:=aJ am
    have q2:(0:Int)<(l.length:Int)+1:=by omega
    clear C HR F hq am;rw[List.length_cons] at c4
    by_cases h1:dc=1
    ·subst h1;have Y:=aJ (P.out (.slice dA l.length 0) (by have h:=S.out;rw[if_pos rfl] at h;exact h))
     clear P S;go_wp2_with fail;go_end0;exact⟨rfl,_,_,_,by rw[←ag.out];exact Y.out⟩
    ·have Y:=aJ (P.out (.slice (Option.map (fun x=>{block:=x.block,off:=x.off+1}) dA) l.length (dc-1)) (by
      have h:=S.out
      rw[if_neg h1] at h;have e:(fun x:Addr=>x.add 1)=(fun x=>{block:=x.block,off:=x.off+1}):=by funext x;simp[Addr.add]
      rw[e,Nat.add_sub_cancel] at h;exact h))
     clear P S;go_wp2_with fail;go_end0;exact⟨rfl,_,_,_,by rw[←ag.out];exact Y.out⟩
end
def cE (o:Option Nat):Int:=match o with|none=> -1|some b=>(b:Int)
def ew (k:Nat) (q:Oc.Pl) (t a:Int) (o:Option Nat):Option Nat:=match o with
 |none=>if Oc.waits q=true∧q.x.due≤t then some k else none
 |some b=>if Oc.waits q=true∧q.x.due≤t∧q.x.due<a then some k else some b
theorem qV {s:Oc.St} {t:Int} {k:Nat} (h:Oc.early s t k=none) (a:Int):Oc.early s t (k+1)=ew k (Oc.p s k) t a none:=by
 rw[Oc.early,h];rfl
theorem qW {s:Oc.St} {t:Int} {k b:Nat} (h:Oc.early s t k=some b):Oc.early s t (k+1)=ew k (Oc.p s k) t (Oc.p s b).x.due (some b):=by
 rw[Oc.early,h];rfl
theorem vp {w0 w:World} {B:BP} {g pb pc:Nat} {oA:Option Addr} {oc:Nat} {mp dv av:Value} {m:Nat→Pm} {s:Oc.St} (h:SG w0 w B g pb pc oA oc mp dv av m s) (t:Int):
  Calls Tryz.prog 87 #[.pointer (some ⟨g,0,none⟩),.int .u64 t] w fun e w'=>e= .returned (.int .i64 (cE (Oc.early s t s.pl.length)))∧Old w w':=by
 obtain⟨R,_⟩:=h.cell 0 (v:= .slice (some ⟨pb,0,none⟩) s.pl.length pc) rfl;have W:(s.pl.length:Int)≤32:=by have:=h.few;omega
 have G:=aJ h
 clear h;go_enter Tryz.func87,Tryz.ntmps87;go_wp2_with fail;go_loopw [5,14] (fun v x wr=>∃k:Nat,k≤s.pl.length∧x= .int .i64 k∧v= .int .i64 (cE (Oc.early s t k))∧Old w wr) (fun _ x _=>s.pl.length-(intOf x).toNat)
 case atStart=>exact⟨0,bO _,rfl,rfl,Old.refl _⟩
 case round=>
  obtain⟨k,hk,rfl,rfl,C⟩:=hrel
  by_cases J:k<s.pl.length
  ·have P:=aJ C
   have O:=G.out.up C
   have D:=O.range J
   have Q:=aJ J
   have M:wr.cell? ⟨g,0,none⟩=some (.slice (some ⟨pb,0,none⟩) s.pl.length pc):=(O.cell 0 (v:= .slice (some ⟨pb,0,none⟩) s.pl.length pc) rfl).1
   obtain⟨q,K⟩:∃q,Oc.p s k=q:=⟨_,rfl⟩
   have F:Hid (∀o,Oc.early s t k=o→∀b,(∀c,o=some c→b=c)→Oc.early s t (k+1)=ew k q t (Oc.p s b).x.due o):=aJ (fun o S b u=>by
    cases o with
    |none=>rw[qV S (Oc.p s b).x.due,K]
    |some c=>rw[qW S,K,u c rfl])
   have E:Hid (∀b,Oc.early s t k=some b→b<k):=aJ (fun b u=>(Oc.early_some u).1)
   rw[K] at D;generalize m k=mm at D;clear C O R K;go_upto_region 5 with(first|(refine wpList_load_mid rfl 108 _ rfl pb (k*28) rfl (aH q mm) _ D Tryz.underlying108 rfl jB ?_)|(refine dm rfl 108 _ _ rfl _ rfl (aH q mm) rfl rfl jB rfl (qt q mm) ?_;intro w1 H A))
   have a:=aJ (P.out.up H)
   have n:=jd A (d:=15) (v:= .int .i64 q.x.ph) rfl
   have L:=jd A (d:=20) (v:= .int .u64 q.x.due) rfl
   have r:=jd A (d:=21) (v:= .bool q.x.armed) rfl
   clear H A D P M;obtain⟨kp,I⟩:∃kp,wr.heap.size=kp:=⟨_,rfl⟩
   rw[I] at n L r ⊢;clear I;have R:=((G.out.up a.out).cell 0 (v:= .slice (some ⟨pb,0,none⟩) s.pl.length pc) rfl).1;have z:=aJ (F.out _ rfl);cases u:Oc.early s t k with
   |none=>
    have f:Hid (Oc.early s t (k+1)=ew k q t (Oc.p s 0).x.due none):=aJ (by have:=z.out 0 (fun c h=>by rw[u] at h;cases h);rw[u] at this;exact this)
    clear F z E G u;rw[show cE none= -1 from rfl]
    by_cases l:q.x.ph=5
    ·rw[l] at n
     by_cases C:t<q.x.due
     ·have nd:¬q.x.due≤t:=by omega
      have i:Hid (cE (Oc.early s t (k+1))= -1):=aJ (by rw[f.out];simp[ew,cE,Oc.waits,l,nd])
      clear f;go_wp2_with fail;go_roundw
      case rel=>exact⟨k+1,by omega,by go_num,by rw[i.out],a.out⟩
      case measure=>simp[intOf];omega
     ·have nd:q.x.due≤t:=by omega
      have i:Hid (cE (Oc.early s t (k+1))=k):=aJ (by rw[f.out];simp[ew,cE,Oc.waits,l,nd])
      clear f;go_upto_region 7 with fail
      go_quiet (fail)
      go_wp2_with fail;go_roundw
      case rel=>exact⟨k+1,by omega,by go_num,by rw[i.out],a.out.drewN _⟩
      case measure=>simp[intOf];omega
    ·have U:(q.x.ph==5)=false:=by simpa using l
     by_cases j:q.x.ph=6
     ·rw[j] at n;cases ha:q.x.armed with
      |true=>
       rw[ha] at r
       by_cases C:t<q.x.due
       ·have nd:¬q.x.due≤t:=by omega
        have i:Hid (cE (Oc.early s t (k+1))= -1):=aJ (by rw[f.out];simp[ew,cE,Oc.waits,j,ha,nd])
        clear f;go_wp2_with fail;go_roundw
        case rel=>exact⟨k+1,by omega,by go_num,by rw[i.out],a.out⟩
        case measure=>simp[intOf];omega
       ·have nd:q.x.due≤t:=by omega
        have i:Hid (cE (Oc.early s t (k+1))=k):=aJ (by rw[f.out];simp[ew,cE,Oc.waits,j,ha,nd])
        clear f;go_upto_region 7 with fail
        go_quiet (fail)
        go_wp2_with fail;go_roundw
        case rel=>exact⟨k+1,by omega,by go_num,by rw[i.out],a.out.drewN _⟩
        case measure=>simp[intOf];omega
      |false=>
       rw[ha] at r;have i:Hid (cE (Oc.early s t (k+1))= -1):=aJ (by rw[f.out];simp[ew,cE,Oc.waits,j,ha])
       clear f;go_wp2_with fail;go_roundw
       case rel=>exact⟨k+1,by omega,by go_num,by rw[i.out],a.out⟩
       case measure=>simp[intOf];omega
     ·have V:(q.x.ph==6)=false:=by simpa using j
      have i:Hid (cE (Oc.early s t (k+1))= -1):=aJ (by rw[f.out];simp[ew,cE,Oc.waits,l,j])
      clear f;go_wp2_with fail;go_roundw
      case rel=>exact⟨k+1,by omega,by go_num,by rw[i.out],a.out⟩
      case measure=>simp[intOf];omega
   |some b=>
    have f:Hid (Oc.early s t (k+1)=ew k q t (Oc.p s b).x.due (some b)):=aJ (by have:=z.out b (fun c h=>by rw[u] at h;cases h;rfl);rw[u] at this;exact this)
    have N:=E.out b u
    have T:=((G.out.up a.out).pcell (show b<s.pl.length by have:=Q.out;omega) 20 (v:= .int .u64 (Oc.p s b).x.due) (by decide) rfl).1
    have X:(0:Int)≤(b:Int):=by omega
    have Y:(b:Int)<(s.pl.length:Int):=by have:=Q.out;omega
    have Z:decide ((b:Int)<0)=false:=by rw[decide_eq_false_iff_not];omega
    clear F z E G u N;generalize (Oc.p s b).x.due=db at *;rw[show cE (some b)=(b:Int) from rfl]
    by_cases l:q.x.ph=5
    ·rw[l] at n
     by_cases C:t<q.x.due
     ·have nd:¬q.x.due≤t:=by omega
      have i:Hid (cE (Oc.early s t (k+1))=b):=aJ (by rw[f.out];simp[ew,cE,Oc.waits,l,nd])
      clear f;go_wp2_with fail;go_roundw
      case rel=>exact⟨k+1,by omega,by go_num,by rw[i.out],a.out⟩
      case measure=>simp[intOf];omega
     ·have nd:q.x.due≤t:=by omega
      by_cases y:q.x.due<db
      ·have i:Hid (cE (Oc.early s t (k+1))=k):=aJ (by rw[f.out];simp[ew,cE,Oc.waits,l,nd,y])
       clear f;go_upto_region 7 with fail
       go_quiet (fail)
       go_wp2_with fail;go_roundw
       case rel=>exact⟨k+1,by omega,by go_num,by rw[i.out],a.out.drewN _⟩
       case measure=>simp[intOf];omega
      ·have i:Hid (cE (Oc.early s t (k+1))=b):=aJ (by rw[f.out];simp[ew,cE,Oc.waits,l,nd,y])
       clear f;go_upto_region 7 with fail
       go_quiet (fail)
       go_wp2_with fail;go_roundw
       case rel=>exact⟨k+1,by omega,by go_num,by rw[i.out],a.out.drewN _⟩
       case measure=>simp[intOf];omega
    ·have U:(q.x.ph==5)=false:=by simpa using l
     by_cases j:q.x.ph=6
     ·rw[j] at n;cases ha:q.x.armed with
      |true=>
       rw[ha] at r
       by_cases C:t<q.x.due
       ·have nd:¬q.x.due≤t:=by omega
        have i:Hid (cE (Oc.early s t (k+1))=b):=aJ (by rw[f.out];simp[ew,cE,Oc.waits,j,ha,nd])
        clear f;go_wp2_with fail;go_roundw
        case rel=>exact⟨k+1,by omega,by go_num,by rw[i.out],a.out⟩
        case measure=>simp[intOf];omega
       ·have nd:q.x.due≤t:=by omega
        by_cases y:q.x.due<db
        ·have i:Hid (cE (Oc.early s t (k+1))=k):=aJ (by rw[f.out];simp[ew,cE,Oc.waits,j,ha,nd,y])
         clear f;go_upto_region 7 with fail
         go_quiet (fail)
         go_wp2_with fail;go_roundw
         case rel=>exact⟨k+1,by omega,by go_num,by rw[i.out],a.out.drewN _⟩
         case measure=>simp[intOf];omega
        ·have i:Hid (cE (Oc.early s t (k+1))=b):=aJ (by rw[f.out];simp[ew,cE,Oc.waits,j,ha,nd,y])
         clear f;go_upto_region 7 with fail
         go_quiet (fail)
         go_wp2_with fail;go_roundw
         case rel=>exact⟨k+1,by omega,by go_num,by rw[i.out],a.out.drewN _⟩
         case measure=>simp[intOf];omega
      |false=>
       rw[ha] at r;have i:Hid (cE (Oc.early s t (k+1))=b):=aJ (by rw[f.out];simp[ew,cE,Oc.waits,j,ha])
       clear f;go_wp2_with fail;go_roundw
       case rel=>exact⟨k+1,by omega,by go_num,by rw[i.out],a.out⟩
       case measure=>simp[intOf];omega
     ·have V:(q.x.ph==6)=false:=by simpa using j
      have i:Hid (cE (Oc.early s t (k+1))=b):=aJ (by rw[f.out];simp[ew,cE,Oc.waits,l,j])
      clear f;go_wp2_with fail;go_roundw
      case rel=>exact⟨k+1,by omega,by go_num,by rw[i.out],a.out⟩
      case measure=>simp[intOf];omega
  ·obtain rfl:k=s.pl.length:=by omega
   have i:=aJ C
   clear C G;go_wp2_with fail;go_ret;exact⟨rfl,i.out⟩
namespace Oc
theorem oM:∀(f:Nat) (s:St),(settle f s).acts.length≤s.acts.length+f:=by
 intro f
 induction f with
 |zero=>intro s;exact bM _
 |succ f ih=>
  intro s;unfold settle;split
  ·omega
  ·refine bN (ih _) ?_;simp[spawnAt];omega
theorem idle_le (s:St):idle s≤s.pl.length:=List.length_filter_le _ _
theorem mE (s:St) (i:Nat) (n:Int):(send s i n).acts.length≤s.acts.length+1:=by unfold send;split<;>simp
theorem fired_acts (s:St) (i:Nat):(fired s i).acts.length≤s.acts.length+1:=by
 unfold fired;exact bN (mE _ _ _) (bM _)
theorem fired_len (s:St) (i:Nat):(fired s i).pl.length=s.pl.length:=by rw[lP];simp
theorem fireAt_acts (s:St) (i:Nat):(fireAt s i).acts.length≤s.acts.length+1+s.pl.length:=by
 rw[mV];unfold calm;have h1:=oM (idle (fired s i)) (fired s i);have h2:=idle_le (fired s i);rw[fired_len] at h2;have a:=fired_acts s i;omega
theorem lQ (s:St) (i:Nat):(fireAt s i).pl.length=s.pl.length:=by rw[mV,wJ,fired_len]
theorem Co {K:Nat} {q:Pl} (h:PlOk K q):wt q≤13:=by
 have:=h.j.few
 unfold wt;split
 ·omega
 ·split
  ·omega
  ·split
   ·omega
   ·omega
theorem AP {l:List Nat} {c:Nat} (h:∀x∈l,x≤c):l.sum≤l.length*c:=by
 induction l with
 |nil=>simp
 |cons x l ih=>
  have h1:=h x (by simp)
  have h2:=ih (fun y hy=>h y (by simp[hy]))
  simp only[List.sum_cons,List.length_cons,Nat.succ_mul];omega
theorem wtS_le {K:Nat} {s:St} (h:I K s):wtS s≤s.pl.length*13:=by
 unfold wtS;have:=AP (l:=s.pl.map wt) (c:=13) (fun x hx=>by
  obtain⟨q,d,rfl⟩:=List.mem_map.mp hx;obtain⟨i,a,e⟩:=List.getElem_of_mem d;have h1:=h.pl i a;have b:p s i=q:=by unfold p;rw[bD,bE a];exact e
  rw[b] at h1;exact Co h1)
 simpa using this
theorem I.ocT {K:Nat} {s:St} (h:I K s) (b:K≤10000000):C1 s:=fun i a=>by have:=(h.pl i a).t;omega
end Oc
def RgN (w9:World) (g:Nat) (v:Int) (bs:Bool) (W:World):Prop:=
 (bs=false→Old w9 W)∧(bs=true→∃a,Old w9 a∧W=a.setCell ⟨g,3,none⟩ (.int .u64 v))
theorem RgN.start (w9:World) (g:Nat) (v:Int):RgN w9 g v false {w9 with drawn:=w9.drawn+1}:=⟨fun _=>(Old.refl w9).drew,(fun e=>by cases e)⟩
theorem RgN.st {w9 W:World} {g:Nat} {v:Int} (h:RgN w9 g v false W):RgN w9 g v true (W.setCell ⟨g,3,none⟩ (.int .u64 v)):=⟨(fun e=>by cases e),fun _=>⟨W,h.1 rfl,rfl⟩⟩
def CU (w9:World) (s:Oc.St) (i g pb pc:Nat) (t:Int) (p2 p3 p6 e f h j k l m n o q r u w y z A B C D E F G H I J K L M N O P Q R S T U V W:Value) (b:Array Bool) (a:Act) (ww:World):Prop:=
 ∃(X b1 b2 b3 b4 Y b6 b7 Z b9 b10 b11 b12 c:Bool) (d:Nat) (aa:Value),b=#[X,b1,b2,b3,b4,Y,b6,b7,Z,b9,b10,b11,b12,c]∧
  a={tmps:=#[.pointer (some ⟨g,0,none⟩),.int .u64 t,p2,p3,.int .i64 (i:Int),.pointer (some ⟨pb,i*28,none⟩),p6,.pointer (some ⟨g,0,none⟩),.int .u64 t,.int .i64 (i:Int),.int .i64 (i:Int),.bool false,.pointer (some ⟨g,0,none⟩),.pointer (some ⟨g,0,none⟩),.pointer (some ⟨g,0,none⟩),.slice (some ⟨pb,0,none⟩) s.pl.length pc,.int .i64 (i:Int),.pointer (some ⟨pb,i*28,none⟩),cond X (.pointer (some ⟨g,0,none⟩)) (e),cond b1 (.pointer (some ⟨g,0,none⟩)) (f),cond b2 (.pointer (some ⟨g,0,none⟩)) (h),cond b3 (.pointer (some ⟨g,3,none⟩)) (j),cond b4 (.int .u64 s.now) (k),cond Y (.pointer (some ⟨pb,i*28,none⟩)) (l),cond b6 (.pointer (some ⟨pb,i*28,none⟩)) (m),cond b7 (.pointer (some ⟨pb,i*28+15,none⟩)) (n),cond Z (.pointer (some ⟨pb,i*28+15+5,none⟩)) (o),cond b9 (.int .u64 (Oc.p s i).x.due) (q),cond b10 (.int .u64 (max s.now (Oc.p s i).x.due)) (r),cond b11 (.pointer (some ⟨g,0,none⟩)) (u),cond b12 (.pointer (some ⟨g,3,none⟩)) (w),y,z,A,B,C,D,E,F,G,H,I,J,K,L,M,N,O,P,Q,R,S,T,U,V,W],defers:=[]}∧RgN w9 g (max s.now (Oc.p s i).x.due) c ww
def CT (w9:World) (s:Oc.St) (m:Nat→Pm) (i g pb:Nat) (t:Int) (R2:Lf.T×Int) (p2 p3 p9 h k l n o q r u w y z A B C D E F G H I J K L M N O P Q R S U V W X Y Z aa ab ac ad ae af ag ah ai aj:Value) (b:Array Bool) (a:Act) (ww:World):Prop:=
 ∃(b0 b1 b2 b3 b4 b5 b6 b7 b8 b9 b10 b11 b12 c b14 d e:Bool) (f:Nat) (va:Value),b=#[b0,b1,b2,b3,b4,b5,b6,b7,b8,b9,b10,b11,b12,c,b14,d,e]∧
  a={tmps:=#[.pointer (some ⟨g,0,none⟩),.int .u64 t,p2,p3,.int .i64 (i:Int),.pointer (some ⟨pb,i*28,none⟩),cond e (.int .i64 R2.2) (.int .i64 0),.pointer (some ⟨g,0,none⟩),.int .u64 t,p9,h,k,l,n,o,q,r,u,w,y,z,A,B,C,D,E,F,G,H,I,J,cond b10 (.tuple #[va,.int .i64 R2.2]) (K),cond b0 (.pointer (some ⟨pb,i*28,none⟩)) (L),cond b1 (.pointer (some ⟨pb,i*28,none⟩)) (M),cond b2 (.pointer (some ⟨pb,i*28,none⟩)) (N),cond b3 (.pointer (some ⟨pb,i*28,none⟩)) (O),cond b4 (fU (Oc.p s i).j) (P),cond b5 (.pointer (some ⟨pb,i*28,none⟩)) (Q),cond b6 (.pointer (some ⟨pb,i*28,none⟩)) (R),cond b7 (.pointer (some ⟨pb,i*28+15,none⟩)) (S),cond b8 (bZ (Oc.p s i).x (m i).tA (m i).tc) (U),cond b9 (.tuple #[va,.int .i64 R2.2]) (V),cond b11 (va) (W),cond b12 (.int .i64 R2.2) (X),cond c (.pointer (some ⟨pb,i*28,none⟩)) (Y),cond b14 (.pointer (some ⟨pb,i*28+15,none⟩)) (Z),aa,ab,ac,ad,ae,af,ag,ah,ai,aj],defers:=[]}∧RgA w9 pb i R2.1 b9 d va ww
section
variable {w0 w w' : World} {B : BP} {g pb pc : Nat} {oA : Option Addr} {oc : Nat} {mp dv av : Value} {m : Nat → Pm} {s : Oc.St}
def wY (w0:World) (B:BP) (g pb pc:Nat) (oA:Option Addr) (oc:Nat) (mp:Value) (K:Nat) (t:Int) (R:Oc.St) (gk:Nat) (wr:World):Prop:=
 ∃dv av m s,Hid (SG w0 wr B g pb pc oA oc mp dv av m s)∧Hid (Oc.I K s)∧gk=Oc.wtS s∧Hid (Oc.tick s t=R)∧s.acts.length+40*gk≤900000
theorem yu {K:Nat} (h:SG w0 w B g pb pc oA oc mp dv av m s) (hI:Oc.I K s) (k:K≤10000000) (t:Int) (ha:s.acts.length≤800000):
  Calls Tryz.prog 42 #[.pointer (some ⟨g,0,none⟩),.int .u64 t] w (uw w0 B g pb pc oA oc mp (Oc.tick s t)):=by
 have ap:=Oc.wtS_le hI
 have ab:=h.few
 have F:Hid (wY w0 B g pb pc oA oc mp K t (Oc.tick s t) (Oc.wtS s) w):=aJ ⟨dv,av,m,s,aJ h,aJ hI,rfl,aJ rfl,by omega⟩
 clear h hI ha ap ab;generalize Oc.tick s t=R at *;generalize Oc.wtS s=n0 at *;go_enter Tryz.func42,Tryz.ntmps42;go_wp2_with fail;go_loopg [] n0 (fun gk wr=>wY w0 B g pb pc oA oc mp K t R gk wr)
 case atStart=>exact F.out
 case round=>
  clear F;obtain⟨dv,av,m,s,N,O,ac,HR,af⟩:=hrel;have E:=aJ (vp N.out t);cases G:Oc.early s t s.pl.length with
  |none=>
   rw[G] at E;have ag:cE none= -1:=rfl;rw[ag] at E;go_wp2_with fail;refine(E.out).mono ?_;rintro e w2 ⟨rfl,S⟩;have o:=aJ (N.out.up S);have c3:=o.out.cell 3 (v:= .int .u64 s.now) rfl;have z3:=c3.2
   replace c3:=c3.1
   have HX:Hid (uw w0 B g pb pc oA oc mp R (.returned (.tuple #[])) (w2.setCell ⟨g,3,none⟩ (.int .u64 t))):=aJ ⟨rfl,dv,av,m,by rw[←HR.out,Oc.tick_none G];exact o.out.now t⟩
   clear N O HR E S o af ac G;go_wp2_with fail;go_end0;exact HX.out
  |some i=>
   rw[G] at E;rw[show cE (some i)=(i:Int) from rfl] at E
   obtain⟨hi,_⟩:=Oc.early_some G;have C:Hid (Oc.tick (Oc.fireAt s i) t=R∧Oc.wtS (Oc.fireAt s i)<Oc.wtS s∧(Oc.fireAt s i).acts.length≤s.acts.length+33):=aJ ⟨by rw[←Oc.tick_some O.out G];exact HR.out,Oc.wtS_fire O.out G,by have:=Oc.fireAt_acts s i;have:=N.out.few;omega⟩
   have i0:(0:Int)≤(i:Int):=by omega
   have i1:(i:Int)<(s.pl.length:Int):=by omega
   have i2:(s.pl.length:Int)≤32:=by have:=N.out.few;omega
   have i3:decide ((i:Int)<0)=false:=by rw[decide_eq_false_iff_not];omega
   have f:=aJ hi
   clear G hi HR;go_wp2_with fail;refine(E.out).mono ?_;rintro e w2 ⟨rfl,S⟩;have o:=aJ (N.out.up S);clear E S N;obtain⟨c0,_⟩:=o.out.cell 0 (v:= .slice (some ⟨pb,0,none⟩) s.pl.length pc) rfl;have T:=aJ (fun W (D:Old w2 W)=>o.out.up D)
   go_upto_region 3 with fail
   refine ah [([],[]),([],[]),([1],[]),([2],[]),([3,2,1],[10,11,12,13]),([],[]),([5],[]),([6],[]),([7],[]),([8,7,6,5],[10,11,12,13]),([4,9,3,8,2,7,1,6,5],[11,12,13]),([0,1,2,3,4,5,6,7,8,9,10],[]),([11,0,1,2,3,4,5,6,7,8,9,10],[]),([12,10,0,1,2,3,4,5,6,7,8,9,11],[])] (CU w2 s i g pb pc t _ _ _ _ _ _ _ _ _ _ _ _ _ _ _ _ _ _ _ _ _ _ _ _ _ _ _ _ _ _ _ _ _ _ _ _ _ _ _ _ _) (⟨false,false,false,false,false,false,false,false,false,false,false,false,false,false,0,aR,rfl,rfl,RgN.start _ _ _⟩) ?_ ⟨?_,?_,?_,?_,?_,?_,?_,?_,?_,?_,?_,?_,?_,?_,trivial⟩
   ·rintro a l ⟨_,b1,b2,b3,b4,_,b6,b7,_,b9,b10,b11,b12,_,b,n,hl,rfl,d⟩;have u:=congrArg Array.toList hl;simp at u;obtain⟨rfl,rfl,rfl,rfl,rfl,rfl,rfl,rfl,rfl,rfl,rfl,rfl,rfl,rfl⟩:=u;clear hl;obtain⟨W0,al,rfl⟩:=d.2 rfl;have r:=aJ ((T.out W0 al).now (max s.now (Oc.p s i).x.due));clear d T o c0;obtain⟨L,ad⟩:∃L,W0.setCell ⟨g,3,none⟩ (.int .u64 (max s.now (Oc.p s i).x.due))=L:=⟨_,rfl⟩
    rw[ad] at r ⊢;clear ad;have q:=aJ (fun W (D:Old L W)=>r.out.up D)
    have z:=aJ (O.out.pl i f.out)
    have Y:Hid (JdOk L (Oc.p s i).j):=aJ ((r.out.rows.jm i f.out).ok z.out.j)
    have HT:Hid (Ts L 29 (m i).tA (ax (Oc.p s i).x.times)):=aJ (r.out.rows.times i f.out)
    have M:=aJ (fun W (D:Old L W)=>Br (Oc.p s i).j (Oc.p s i).x (m i).tA (m i).tc W (Y.out.up D) z.out.x (HT.out.up D) (by have:=z.out.t;omega))
    obtain⟨R2,Q⟩:∃R2,Lf.fire (Oc.p s i).j.j (Oc.p s i).x=R2:=⟨_,rfl⟩
    rw[Q] at M;have Z:=aJ Q;clear Q z Y HT r;go_upto_region 5 with fail
    refine ah [([],[]),([],[]),([1],[]),([2],[]),([3,2,1],[9,13,14,15,16,10,11,12]),([],[]),([5],[]),([6],[]),([7,6,5],[9,13,14,15,16,10,11,12]),([4,8,3,7,2,6,1,5],[10,13,14,15,16,11,12]),([9],[]),([10],[]),([10],[]),([0,1,2,3,4,5,6,7,8,9,10,11],[]),([13,0,1,2,3,4,5,6,7,8,9,10,11],[]),([14,11,9,0,1,2,3,4,5,6,7,8,10,13],[16]),([12,15],[])] (CT L s m i g pb t R2 _ _ _ _ _ _ _ _ _ _ _ _ _ _ _ _ _ _ _ _ _ _ _ _ _ _ _ _ _ _ _ _ _ _ _ _ _ _ _ _ _ _ _ _ _ _ _ _ _) (⟨false,false,false,false,false,false,false,false,false,false,false,false,false,false,false,false,false,0,aR,rfl,rfl,RgA.start L pb i R2.1 aR⟩) ?_ ⟨?_,?_,?_,?_,?_,?_,?_,?_,?_,?_,?_,?_,?_,?_,?_,?_,?_,trivial⟩
    ·rintro a l ⟨_,b1,b2,b3,b4,_,b6,b7,_,b9,b10,b11,b12,_,b14,_,_,b,va,hl,rfl,d⟩;have u:=congrArg Array.toList hl;simp at u;obtain⟨rfl,rfl,rfl,rfl,rfl,rfl,rfl,rfl,rfl,rfl,rfl,rfl,rfl,rfl,rfl,rfl,rfl⟩:=u;clear hl;obtain⟨W1,A2,c2,am,an,rfl⟩:=d.2.2 rfl;have V:=aJ ((q.out W1 am).setX f.out (x:=R2.1) (A:=A2) (c:=c2) an);clear d q M;have y:(Oc.setX {s with now:=max s.now (Oc.p s i).x.due} i R2.1).pl.length=s.pl.length:=dR {s with now:=max s.now (Oc.p s i).x.due} i _
     have P:=aJ (rV V.out i (by rw[y];exact f.out) R2.2 (by show s.acts.length≤_;omega))
     have U:Hid (Oc.send (Oc.setX {s with now:=max s.now (Oc.p s i).x.due} i R2.1) i R2.2=Oc.fired s i):=aJ (by rw[←Z.out];rfl)
     rw[U.out] at P;clear V U Z y;go_wp2_with fail;refine(P.out).mono ?_;rintro e _ ⟨rfl,_,H⟩;have X:=aJ H;clear H P;have ai:=Oc.fired_acts s i;have ak:=Oc.fired_len s i;have aj:=Oc.idle_le (Oc.fired s i);have aa:=aJ (jU X.out ((O.out.fired f.out).ocT k) (by omega))
     clear X ai ak aj;go_wp2_with fail;refine(aa.out).mono ?_;rintro e w6 ⟨rfl,_,_,J⟩;have HX:Hid (wY w0 B g pb pc oA oc mp K t R (Oc.wtS (Oc.fireAt s i)) w6):=aJ ⟨_,_,_,Oc.fireAt s i,aJ J,aJ (O.out.fireAt f.out),rfl,aJ C.out.1,by have:=C.out.2.1;have:=C.out.2.2;omega⟩
     clear aa J O;go_wp2_with fail;go_roundg (Oc.wtS (Oc.fireAt s i))
     case rel=>exact HX.out
     case measure=>rw[ac];exact C.out.2.1
    rotate_left 4
    ·rintro _ _ l K ⟨_,b1,b2,b3,b4,_,b6,b7,_,b9,b10,b11,b12,_,b14,_,_,b,va,rfl,h2,d⟩ h k
     repeat obtain⟨rfl,h⟩:=h
     subst h2;rw[if_pos (by rfl)]
     refine wp_load_mid 32 _ rfl pb (i*28) rfl (ae (Oc.p s i).j) _ ((q.out l (d.1 rfl)).rngJ f.out) Tryz.underlying32 rfl cB ?_;apply k;iterate 17 apply bW
     exact⟨b,va,rfl,rfl,d⟩
    rotate_left 3
    ·rintro _ _ l K ⟨_,b1,b2,b3,b4,_,b6,b7,_,b9,b10,b11,b12,_,b14,_,_,b,va,rfl,h2,d⟩ h k
     repeat obtain⟨rfl,h⟩:=h
     subst h2;rw[if_pos (by rfl)]
     refine wp_load_mid 105 _ rfl pb (i*28+15) rfl (bf (Oc.p s i).x (m i).tA (m i).tc) _ ((q.out l (d.1 rfl)).rngL f.out) Tryz.underlying105 rfl dZ ?_;apply k;iterate 17 apply bW
     exact⟨b,va,rfl,rfl,d⟩
    ·rintro _ _ l K ⟨_,b1,b2,b3,b4,_,b6,b7,_,b9,b10,b11,b12,_,b14,_,_,b,va,rfl,h2,d⟩ h k
     repeat obtain⟨rfl,h⟩:=h
     subst h2;go_simp;refine(M.out l (d.1 rfl)).mono ?_;rintro e w2 ⟨A2,c2,rfl,ht,S⟩;apply k;iterate 17 apply bW
     exact⟨b,bZ R2.1 A2 c2,rfl,rfl,d.call S ht⟩
    rotate_left 5
    ·rintro _ _ l K ⟨_,b1,b2,b3,b4,_,b6,b7,_,b9,b10,b11,b12,_,b14,_,_,b,va,rfl,h2,d⟩ h k
     repeat obtain⟨rfl,h⟩:=h
     subst h2;obtain⟨D,A2,c2,ao,ht⟩:=d.2.1 rfl rfl;subst ao;rw[if_pos (by rfl)]
     refine wp_store_mid 105 _ _ rfl pb (i*28+15) (bf R2.1 A2 c2).toArray rfl rfl ((q.out l D).thereX f.out 15 10 (by omega)) dZ (nM _ _ _) ?_
     apply k;iterate 17 apply bW
     exact⟨b,bZ R2.1 A2 c2,rfl,rfl,RgA.st _ D ht⟩
    all_goals
     rintro _ _ l K ⟨_,b1,b2,b3,b4,_,b6,b7,_,b9,b10,b11,b12,_,b14,_,_,b,va,rfl,h2,d⟩ h k
     repeat obtain⟨rfl,h⟩:=h
     subst h2;go_simp;apply k;iterate 17 apply bW
     exact⟨b,va,rfl,rfl,d⟩
   rotate_left 4
   ·rintro _ _ l K ⟨_,b1,b2,b3,b4,_,b6,b7,_,b9,b10,b11,b12,_,b,n,rfl,h2,d⟩ h k
    repeat obtain⟨rfl,h⟩:=h
    subst h2;have hc:=((T.out l (d.1 rfl)).cell 3 (v:= .int .u64 s.now) rfl).1;go_simp;apply k;iterate 14 apply bW
    exact⟨b,n,rfl,rfl,d⟩
   rotate_left 4
   ·rintro _ _ l K ⟨_,b1,b2,b3,b4,_,b6,b7,_,b9,b10,b11,b12,_,b,n,rfl,h2,d⟩ h k
    repeat obtain⟨rfl,h⟩:=h
    subst h2;have hc:l.cell? ⟨pb,i*28+15+5,none⟩=some (.int .u64 (Oc.p s i).x.due):=((T.out l (d.1 rfl)).pcell f.out 20 (v:= .int .u64 (Oc.p s i).x.due) (by decide) rfl).1
    go_simp;apply k;iterate 14 apply bW
    exact⟨b,n,rfl,rfl,d⟩
   rotate_left 3
   ·rintro _ _ l K ⟨_,b1,b2,b3,b4,_,b6,b7,_,b9,b10,b11,b12,_,b,n,rfl,h2,d⟩ h k
    repeat obtain⟨rfl,h⟩:=h
    subst h2;obtain⟨hc,hz⟩:=(T.out l (d.1 rfl)).cell 3 (v:= .int .u64 s.now) rfl;go_simp;apply k;iterate 14 apply bW
    exact⟨b,n,rfl,rfl,d.st⟩
   all_goals
    rintro _ _ l K ⟨_,b1,b2,b3,b4,_,b6,b7,_,b9,b10,b11,b12,_,b,n,rfl,h2,d⟩ h k
    repeat obtain⟨rfl,h⟩:=h
    subst h2;go_simp;apply k;iterate 14 apply bW
    exact⟨b,n,rfl,rfl,d⟩
end
theorem jY:(Tryz.prog.info? 29).map (fun i=>(i.zero,i.size,i.bytes))=some (some (.int .u64 0),1,8):=by kernel_rfl
def rl (w9:World) (g ke mq i:Nat) (x:E3) (p1 p2 p4 p5 p6 p7 p8 p9 f h j k l m n o p q r s t u w y z A B C D E F G H I J K L M N O P Q R S T U V W X Y Z aa ab ac ad ae af ag ah ai aj ak al am an ao ap aq ar au av aw ax ay az aA aB aC aD aE aF aG aH aI aJ aK:Value) (b:Array Bool) (a:Act) (ww:World):Prop:=
 ∃(b0 b1 b2 b3 b4 b5 b6 b7 b8 b9 b10 b11:Bool) (d:Nat) (c:Value),b=#[b0,b1,b2,b3,b4,b5,b6,b7,b8,b9,b10,b11]∧
  a={tmps:=#[.pointer (some ⟨g,0,none⟩),p1,p2,.pointer (some ⟨ke,0,none⟩),cond b10 (c) (p4),cond b11 (.bool false) (p5),p6,p7,p8,p9,f,h,j,k,l,cond b7 (.tuple #[c,.bool false]) (m),cond b0 (.pointer (some ⟨g,0,none⟩)) (n),cond b1 (.pointer (some ⟨g,0,none⟩)) (o),cond b2 (.pointer (some ⟨g,2,none⟩)) (p),cond b3 (.map (some mq)) (q),cond b4 (.pointer (some ⟨ke,1,none⟩)) (r),cond b5 (.string x.e.job) (s),cond b6 (.tuple #[c,.bool false]) (t),cond b8 (c) (u),cond b9 (.bool false) (w),y,z,A,B,C,D,E,F,G,H,I,J,K,L,M,N,O,P,Q,R,S,T,U,V,W,X,Y,Z,aa,ab,ac,ad,ae,af,ag,ah,ai,aj,ak,al,am,an,ao,ap,aq,ar,au,av,aw,ax,ay,az,aA,aB,aC,aD,aE,aF,aG,aH,aI,aJ,aK],defers:=[]}∧Old w9 ww
def rj (w9:World) (g ke mq i:Nat) (x:E3) (p1 p2 p4 p5 p6 p7 p8 p9 d f h j k l m n o p q r s t u w y z A B C D E F G H I J K L M N O P Q R S T U V W X Y Z aa ab ac ad ae af ag ah ai aj ak al am an ao ap aq ar au av aw ax ay az aA aB aC aD aE aF aG aH aI aJ:Value) (b:Array Bool) (a:Act) (ww:World):Prop:=
 ∃(b0 b1 b2 b3 b4 b5 b6 b7 b8 b9 b10 b11:Bool) (c:Nat) (aK:Value),b=#[b0,b1,b2,b3,b4,b5,b6,b7,b8,b9,b10,b11]∧
  a={tmps:=#[.pointer (some ⟨g,0,none⟩),p1,p2,.pointer (some ⟨ke,0,none⟩),cond b10 (.int .i64 (i:Int)) (p4),cond b11 (.bool true) (p5),p6,p7,p8,p9,d,f,h,j,k,cond b7 (.tuple #[.int .i64 (i:Int),.bool true]) (l),cond b0 (.pointer (some ⟨g,0,none⟩)) (m),cond b1 (.pointer (some ⟨g,0,none⟩)) (n),cond b2 (.pointer (some ⟨g,2,none⟩)) (o),cond b3 (.map (some mq)) (p),cond b4 (.pointer (some ⟨ke,1,none⟩)) (q),cond b5 (.string x.e.job) (r),cond b6 (.tuple #[.int .i64 (i:Int),.bool true]) (s),cond b8 (.int .i64 (i:Int)) (t),cond b9 (.bool true) (u),w,y,z,A,B,C,D,E,F,G,H,I,J,K,L,M,N,O,P,Q,R,S,T,U,V,W,X,Y,Z,aa,ab,ac,ad,ae,af,ag,ah,ai,aj,ak,al,am,an,ao,ap,aq,ar,au,av,aw,ax,ay,az,aA,aB,aC,aD,aE,aF,aG,aH,aI,aJ],defers:=[]}∧Old w9 ww
section
variable {w0 w w' : World} {B : BP} {g pb pc : Nat} {oA : Option Addr} {oc : Nat} {mp dv av : Value} {m : Nat → Pm} {s : Oc.St}
theorem gO:(Tryz.prog.info? 37).map (·.size)=some 8:=by kernel_rfl
theorem BM (x:E3):(cj x).toArray.all (·.oneCell')=true:=by simp[cj,Value.oneCell']
theorem nX {w:World} {k:Nat} {x:E3} {z:Nat×Nat} (h:w.heap[k]? =some (.cells (cj x).toArray 37 z)):w.rangeAt k 0 (cj x):=fun j v hv=>by
 rw[Nat.zero_add];exact(aK w k j _ _ _ h).trans (by rw[List.getElem?_toArray];exact hv)
structure EvOk (s:Oc.St) (x:E3) (w:World):Prop where
 kind:x.e.kind=1∨x.e.kind=2∨x.e.kind=3∨x.e.kind=4∨x.e.kind=5
 rd:Rs w x.A (cZ x.e.data)
 bytes:∀b∈x.e.data,b<256
 few:x.e.data.length≤10000000
 some_:x.A=none∨0<x.e.data.length
 job:x.e.job.size≤1000000
 draw:x.e.kind=5→∀i,i<s.pl.length→(Oc.p s i).x.times=[]
theorem tx {K:Nat} (h:SG w0 w B g pb pc oA oc mp dv av m s) (hI:Oc.I K s) (k:K≤10000000) (x:E3) (hx:EvOk s x w) (ha:s.acts.length≤800000):
  Calls Tryz.prog 23 #[.pointer (some ⟨g,0,none⟩),zZ x] w (uw w0 B g pb pc oA oc mp (Oc.handle s x.e)):=by
 obtain⟨D,mk,rfl,ae⟩:=h.map;have HG:=aJ h;have R:=aJ hI;have O:=aJ hx;have hjm:x.e.job.size≤maxLen:=by have:=hx.job;unfold maxLen;omega
 have ai:=aJ hjm
 have S:Hid (∀W,Old w W→∃c:Int,(Instr.lookup 74 (.map (some D)) (.string x.e.job) true).run Tryz.prog W= .ok (.tuple #[.int .i64 c,.bool (Gp.ix (Oc.jobs s) x.e.job).isSome]) W∧∀i:Nat,Gp.ix (Oc.jobs s) x.e.job=some i→c=(i:Int)):=aJ (fun W E=>(ae.up E).look_ok hjm)
 have T:=hx.kind
 clear h hI hx hjm ae;unfold zZ;go_enter Tryz.func23,Tryz.ntmps23;go_upto_region 1 with fail
 generalize Z:w.alloc _=d;have N:Hid (Old w d):=aJ (by rw[←Z];exact(Old.refl w).alloc _)
 have l:Hid (d.heap[w.heap.size]? =some (.cells (cj x).toArray 37 (0,0))):=aJ (by rw[←Z];exact aM _ _)
 clear Z;obtain⟨C,ac⟩:∃C,w.heap.size=C:=⟨_,rfl⟩
 rw[ac] at l ⊢;clear ac;have o:=aJ (HG.out.up N.out);have y:=aJ (O.out.rd.up N.out);have q:d.cell? ⟨C,0,none⟩=some (.int .i64 x.e.kind):=(aK d C 0 _ _ _ l.out).trans rfl;clear HG;have u:=aJ (fun W (E:Old d W)=>o.out.up E)
 by_cases p:x.e.kind=1∨x.e.kind=2∨x.e.kind=3
 ·have G:=aJ p
  clear T;cases J:Gp.ix (Oc.jobs s) x.e.job with
  |none=>
   have P:Hid (Oc.handle s x.e=s):=aJ (by unfold Oc.handle;rw[if_pos G.out,J])
   have t:Hid (∀W,Old d W→∃c:Int,(Instr.lookup 74 (.map (some D)) (.string x.e.job) true).run Tryz.prog W= .ok (.tuple #[.int .i64 c,.bool false]) W):=aJ (fun W E=>by
    obtain⟨c,h1,_⟩:=S.out W (N.out.up E);rw[J] at h1;exact⟨c,h1⟩)
   clear J S N;rcases p with k1|k1|k1
   ·have q1:(x.e.kind==1)=true:=by rw[k1];rfl
    clear k1 G;go_upto_region 8 with fail
    refine ah [([],[]),([0],[]),([1],[]),([2,1,0],[6,10,11,7,8,9]),([],[]),([4],[6,10,11,7,8,9]),([3,5,2,4,1,0],[7,10,11,8,9]),([6],[]),([7],[]),([7],[]),([8,0,1,2,3,4,5,6,7],[]),([9,10],[])] (rl d g C D 0 x _ _ _ _ _ _ _ _ _ _ _ _ _ _ _ _ _ _ _ _ _ _ _ _ _ _ _ _ _ _ _ _ _ _ _ _ _ _ _ _ _ _ _ _ _ _ _ _ _ _ _ _ _ _ _ _ _ _ _ _ _ _ _ _ _ _ _ _ _ _ _ _ _ _ _ _ _ _ _ _ _ _ _ _ _ _) (⟨false,false,false,false,false,false,false,false,false,false,false,false,0,aR,rfl,rfl,(Old.refl d).drew⟩) ?_ ⟨?_,?_,?_,?_,?_,?_,?_,?_,?_,?_,?_,?_,trivial⟩
    ·rintro a d ⟨q,b1,b2,b3,b4,r,b6,b7,_,b9,b10,b11,b,A,L,rfl,f⟩;have n:=congrArg Array.toList L;simp at n;obtain⟨rfl,rfl,rfl,rfl,rfl,rfl,rfl,rfl,rfl,rfl,rfl,rfl⟩:=n;clear L;have z:Hid (uw w0 B g pb pc oA oc (.map (some D)) (Oc.handle s x.e) (.returned (.tuple #[])) d):=aJ ⟨rfl,_,_,_,by rw[P.out];exact u.out d f⟩
     clear f u R O y o P t l;go_wp2_with fail;go_end0;exact z.out
    rotate_left 3
    ·rintro _ _ d K ⟨q,b1,b2,b3,b4,r,b6,b7,_,b9,b10,b11,b,A,rfl,h2,f⟩ h k
     repeat obtain⟨rfl,h⟩:=h
     subst h2;have hc:=((u.out d f).cell 2 (v:= .map (some D)) rfl).1;go_simp;apply k;iterate 12 apply bW
     exact⟨b,A,rfl,rfl,f⟩
    rotate_left 1
    ·rintro _ _ d K ⟨q,b1,b2,b3,b4,r,b6,b7,_,b9,b10,b11,b,A,rfl,h2,f⟩ h k
     repeat obtain⟨rfl,h⟩:=h
     subst h2;have hc:=(aK d C 1 _ _ _ (f.block l.out)).trans (rfl:_=some (Value.string x.e.job));go_simp;apply k;iterate 12 apply bW
     exact⟨b,A,rfl,rfl,f⟩
    ·rintro _ _ d K ⟨q,b1,b2,b3,b4,r,b6,b7,_,b9,b10,b11,b,A,rfl,h2,f⟩ h k
     repeat obtain⟨rfl,h⟩:=h
     subst h2;obtain⟨c,U⟩:=t.out d f;go_simp;apply k;iterate 12 apply bW
     exact⟨b,.int .i64 c,rfl,rfl,f⟩
    all_goals
     rintro _ _ d K ⟨q,b1,b2,b3,b4,r,b6,b7,_,b9,b10,b11,b,A,rfl,h2,f⟩ h k
     repeat obtain⟨rfl,h⟩:=h
     subst h2;go_simp;apply k;iterate 12 apply bW
     exact⟨b,A,rfl,rfl,f⟩
   ·have q1:(x.e.kind==1)=false:=by rw[k1];rfl
    have q2:(x.e.kind==2)=true:=by rw[k1];rfl
    clear k1 G;go_upto_region 8 with fail
    refine ah [([],[]),([0],[]),([1],[]),([2,1,0],[6,10,11,7,8,9]),([],[]),([4],[6,10,11,7,8,9]),([3,5,2,4,1,0],[7,10,11,8,9]),([6],[]),([7],[]),([7],[]),([8,0,1,2,3,4,5,6,7],[]),([9,10],[])] (rl d g C D 0 x _ _ _ _ _ _ _ _ _ _ _ _ _ _ _ _ _ _ _ _ _ _ _ _ _ _ _ _ _ _ _ _ _ _ _ _ _ _ _ _ _ _ _ _ _ _ _ _ _ _ _ _ _ _ _ _ _ _ _ _ _ _ _ _ _ _ _ _ _ _ _ _ _ _ _ _ _ _ _ _ _ _ _ _ _ _) (⟨false,false,false,false,false,false,false,false,false,false,false,false,0,aR,rfl,rfl,(Old.refl d).drew⟩) ?_ ⟨?_,?_,?_,?_,?_,?_,?_,?_,?_,?_,?_,?_,trivial⟩
    ·rintro a d ⟨q,b1,b2,b3,b4,r,b6,b7,_,b9,b10,b11,b,A,L,rfl,f⟩;have n:=congrArg Array.toList L;simp at n;obtain⟨rfl,rfl,rfl,rfl,rfl,rfl,rfl,rfl,rfl,rfl,rfl,rfl⟩:=n;clear L;have z:Hid (uw w0 B g pb pc oA oc (.map (some D)) (Oc.handle s x.e) (.returned (.tuple #[])) d):=aJ ⟨rfl,_,_,_,by rw[P.out];exact u.out d f⟩
     clear f u R O y o P t l;go_wp2_with fail;go_end0;exact z.out
    rotate_left 3
    ·rintro _ _ d K ⟨q,b1,b2,b3,b4,r,b6,b7,_,b9,b10,b11,b,A,rfl,h2,f⟩ h k
     repeat obtain⟨rfl,h⟩:=h
     subst h2;have hc:=((u.out d f).cell 2 (v:= .map (some D)) rfl).1;go_simp;apply k;iterate 12 apply bW
     exact⟨b,A,rfl,rfl,f⟩
    rotate_left 1
    ·rintro _ _ d K ⟨q,b1,b2,b3,b4,r,b6,b7,_,b9,b10,b11,b,A,rfl,h2,f⟩ h k
     repeat obtain⟨rfl,h⟩:=h
     subst h2;have hc:=(aK d C 1 _ _ _ (f.block l.out)).trans (rfl:_=some (Value.string x.e.job));go_simp;apply k;iterate 12 apply bW
     exact⟨b,A,rfl,rfl,f⟩
    ·rintro _ _ d K ⟨q,b1,b2,b3,b4,r,b6,b7,_,b9,b10,b11,b,A,rfl,h2,f⟩ h k
     repeat obtain⟨rfl,h⟩:=h
     subst h2;obtain⟨c,U⟩:=t.out d f;go_simp;apply k;iterate 12 apply bW
     exact⟨b,.int .i64 c,rfl,rfl,f⟩
    all_goals
     rintro _ _ d K ⟨q,b1,b2,b3,b4,r,b6,b7,_,b9,b10,b11,b,A,rfl,h2,f⟩ h k
     repeat obtain⟨rfl,h⟩:=h
     subst h2;go_simp;apply k;iterate 12 apply bW
     exact⟨b,A,rfl,rfl,f⟩
   ·have q1:(x.e.kind==1)=false:=by rw[k1];rfl
    have q2:(x.e.kind==2)=false:=by rw[k1];rfl
    have q3:(x.e.kind==3)=true:=by rw[k1];rfl
    clear k1 G;go_upto_region 8 with fail
    refine ah [([],[]),([0],[]),([1],[]),([2,1,0],[6,10,11,7,8,9]),([],[]),([4],[6,10,11,7,8,9]),([3,5,2,4,1,0],[7,10,11,8,9]),([6],[]),([7],[]),([7],[]),([8,0,1,2,3,4,5,6,7],[]),([9,10],[])] (rl d g C D 0 x _ _ _ _ _ _ _ _ _ _ _ _ _ _ _ _ _ _ _ _ _ _ _ _ _ _ _ _ _ _ _ _ _ _ _ _ _ _ _ _ _ _ _ _ _ _ _ _ _ _ _ _ _ _ _ _ _ _ _ _ _ _ _ _ _ _ _ _ _ _ _ _ _ _ _ _ _ _ _ _ _ _ _ _ _ _) (⟨false,false,false,false,false,false,false,false,false,false,false,false,0,aR,rfl,rfl,(Old.refl d).drew⟩) ?_ ⟨?_,?_,?_,?_,?_,?_,?_,?_,?_,?_,?_,?_,trivial⟩
    ·rintro a d ⟨q,b1,b2,b3,b4,r,b6,b7,_,b9,b10,b11,b,A,L,rfl,f⟩;have n:=congrArg Array.toList L;simp at n;obtain⟨rfl,rfl,rfl,rfl,rfl,rfl,rfl,rfl,rfl,rfl,rfl,rfl⟩:=n;clear L;have z:Hid (uw w0 B g pb pc oA oc (.map (some D)) (Oc.handle s x.e) (.returned (.tuple #[])) d):=aJ ⟨rfl,_,_,_,by rw[P.out];exact u.out d f⟩
     clear f u R O y o P t l;go_wp2_with fail;go_end0;exact z.out
    rotate_left 3
    ·rintro _ _ d K ⟨q,b1,b2,b3,b4,r,b6,b7,_,b9,b10,b11,b,A,rfl,h2,f⟩ h k
     repeat obtain⟨rfl,h⟩:=h
     subst h2;have hc:=((u.out d f).cell 2 (v:= .map (some D)) rfl).1;go_simp;apply k;iterate 12 apply bW
     exact⟨b,A,rfl,rfl,f⟩
    rotate_left 1
    ·rintro _ _ d K ⟨q,b1,b2,b3,b4,r,b6,b7,_,b9,b10,b11,b,A,rfl,h2,f⟩ h k
     repeat obtain⟨rfl,h⟩:=h
     subst h2;have hc:=(aK d C 1 _ _ _ (f.block l.out)).trans (rfl:_=some (Value.string x.e.job));go_simp;apply k;iterate 12 apply bW
     exact⟨b,A,rfl,rfl,f⟩
    ·rintro _ _ d K ⟨q,b1,b2,b3,b4,r,b6,b7,_,b9,b10,b11,b,A,rfl,h2,f⟩ h k
     repeat obtain⟨rfl,h⟩:=h
     subst h2;obtain⟨c,U⟩:=t.out d f;go_simp;apply k;iterate 12 apply bW
     exact⟨b,.int .i64 c,rfl,rfl,f⟩
    all_goals
     rintro _ _ d K ⟨q,b1,b2,b3,b4,r,b6,b7,_,b9,b10,b11,b,A,rfl,h2,f⟩ h k
     repeat obtain⟨rfl,h⟩:=h
     subst h2;go_simp;apply k;iterate 12 apply bW
     exact⟨b,A,rfl,rfl,f⟩
  |some i=>
   have P:Hid (Oc.handle s x.e=Oc.about s i x.e):=aJ (by unfold Oc.handle;rw[if_pos G.out,J])
   have hi:i<s.pl.length:=by
    have:=Gp.ix_lt J
    simpa [Oc.jobs] using this
   have t:Hid (∀W,Old d W→(Instr.lookup 74 (.map (some D)) (.string x.e.job) true).run Tryz.prog W= .ok (.tuple #[.int .i64 (i:Int),.bool true]) W):=aJ (fun W E=>by
    obtain⟨c,h1,h2⟩:=S.out W (N.out.up E);rw[J] at h1;rw[h2 i J] at h1;exact h1)
   have Q:=aJ (fun W (E:Old d W)=>show Calls Tryz.prog 41 #[.pointer (some ⟨g,0,none⟩),.int .i64 (i:Int),.agg (cj x).toArray] W _ from vq (u.out W E) R.out k i hi x G.out (y.out.up E) O.out.bytes O.out.few O.out.some_ (by omega))
   clear J S N hi;rcases p with k1|k1|k1
   ·have q1:(x.e.kind==1)=true:=by rw[k1];rfl
    clear k1 G;go_upto_region 8 with fail
    refine ah [([],[]),([0],[]),([1],[]),([2,1,0],[6,10,11,7,8,9]),([],[]),([4],[6,10,11,7,8,9]),([3,5,2,4,1,0],[7,10,11,8,9]),([6],[]),([7],[]),([7],[]),([8,0,1,2,3,4,5,6,7],[]),([9,10],[])] (rj d g C D i x _ _ _ _ _ _ _ _ _ _ _ _ _ _ _ _ _ _ _ _ _ _ _ _ _ _ _ _ _ _ _ _ _ _ _ _ _ _ _ _ _ _ _ _ _ _ _ _ _ _ _ _ _ _ _ _ _ _ _ _ _ _ _ _ _ _ _ _ _ _ _ _ _ _ _ _ _ _ _ _ _ _ _ _ _ _) (⟨false,false,false,false,false,false,false,false,false,false,false,false,0,aR,rfl,rfl,(Old.refl d).drew⟩) ?_ ⟨?_,?_,?_,?_,?_,?_,?_,?_,?_,?_,?_,?_,trivial⟩
    ·rintro a d ⟨q,b1,b2,b3,b4,r,b6,b7,_,b9,b10,b11,b,j,L,rfl,f⟩;have n:=congrArg Array.toList L;simp at n;obtain⟨rfl,rfl,rfl,rfl,rfl,rfl,rfl,rfl,rfl,rfl,rfl,rfl⟩:=n;clear L;have H:=aJ (Q.out d f);have M:=nX (f.block l.out);clear f u R O y o t l Q;go_wp2_with (refine wpList_load_mid rfl 37 _ rfl C 0 rfl (cj x) _ M Tryz.underlying37 rfl gO ?_);refine H.out.mono ?_;rintro e _ X;have Y:=aJ X;obtain⟨rfl,_⟩:=X;clear H M;go_wp2_with fail;go_end0;rw[P.out];exact Y.out
    rotate_left 3
    ·rintro _ _ d K ⟨q,b1,b2,b3,b4,r,b6,b7,_,b9,b10,b11,b,j,rfl,h2,f⟩ h k
     repeat obtain⟨rfl,h⟩:=h
     subst h2;have hc:=((u.out d f).cell 2 (v:= .map (some D)) rfl).1;go_simp;apply k;iterate 12 apply bW
     exact⟨b,j,rfl,rfl,f⟩
    rotate_left 1
    ·rintro _ _ d K ⟨q,b1,b2,b3,b4,r,b6,b7,_,b9,b10,b11,b,j,rfl,h2,f⟩ h k
     repeat obtain⟨rfl,h⟩:=h
     subst h2;have hc:=(aK d C 1 _ _ _ (f.block l.out)).trans (rfl:_=some (Value.string x.e.job));go_simp;apply k;iterate 12 apply bW
     exact⟨b,j,rfl,rfl,f⟩
    ·rintro _ _ d K ⟨q,b1,b2,b3,b4,r,b6,b7,_,b9,b10,b11,b,j,rfl,h2,f⟩ h k
     repeat obtain⟨rfl,h⟩:=h
     subst h2;have U:=t.out d f;go_simp;apply k;iterate 12 apply bW
     exact⟨b,j,rfl,rfl,f⟩
    all_goals
     rintro _ _ d K ⟨q,b1,b2,b3,b4,r,b6,b7,_,b9,b10,b11,b,j,rfl,h2,f⟩ h k
     repeat obtain⟨rfl,h⟩:=h
     subst h2;go_simp;apply k;iterate 12 apply bW
     exact⟨b,j,rfl,rfl,f⟩
   ·have q1:(x.e.kind==1)=false:=by rw[k1];rfl
    have q2:(x.e.kind==2)=true:=by rw[k1];rfl
    clear k1 G;go_upto_region 8 with fail
    refine ah [([],[]),([0],[]),([1],[]),([2,1,0],[6,10,11,7,8,9]),([],[]),([4],[6,10,11,7,8,9]),([3,5,2,4,1,0],[7,10,11,8,9]),([6],[]),([7],[]),([7],[]),([8,0,1,2,3,4,5,6,7],[]),([9,10],[])] (rj d g C D i x _ _ _ _ _ _ _ _ _ _ _ _ _ _ _ _ _ _ _ _ _ _ _ _ _ _ _ _ _ _ _ _ _ _ _ _ _ _ _ _ _ _ _ _ _ _ _ _ _ _ _ _ _ _ _ _ _ _ _ _ _ _ _ _ _ _ _ _ _ _ _ _ _ _ _ _ _ _ _ _ _ _ _ _ _ _) (⟨false,false,false,false,false,false,false,false,false,false,false,false,0,aR,rfl,rfl,(Old.refl d).drew⟩) ?_ ⟨?_,?_,?_,?_,?_,?_,?_,?_,?_,?_,?_,?_,trivial⟩
    ·rintro a d ⟨q,b1,b2,b3,b4,r,b6,b7,_,b9,b10,b11,b,j,L,rfl,f⟩;have n:=congrArg Array.toList L;simp at n;obtain⟨rfl,rfl,rfl,rfl,rfl,rfl,rfl,rfl,rfl,rfl,rfl,rfl⟩:=n;clear L;have H:=aJ (Q.out d f);have M:=nX (f.block l.out);clear f u R O y o t l Q;go_wp2_with (refine wpList_load_mid rfl 37 _ rfl C 0 rfl (cj x) _ M Tryz.underlying37 rfl gO ?_);refine H.out.mono ?_;rintro e _ X;have Y:=aJ X;obtain⟨rfl,_⟩:=X;clear H M;go_wp2_with fail;go_end0;rw[P.out];exact Y.out
    rotate_left 3
    ·rintro _ _ d K ⟨q,b1,b2,b3,b4,r,b6,b7,_,b9,b10,b11,b,j,rfl,h2,f⟩ h k
     repeat obtain⟨rfl,h⟩:=h
     subst h2;have hc:=((u.out d f).cell 2 (v:= .map (some D)) rfl).1;go_simp;apply k;iterate 12 apply bW
     exact⟨b,j,rfl,rfl,f⟩
    rotate_left 1
    ·rintro _ _ d K ⟨q,b1,b2,b3,b4,r,b6,b7,_,b9,b10,b11,b,j,rfl,h2,f⟩ h k
     repeat obtain⟨rfl,h⟩:=h
     subst h2;have hc:=(aK d C 1 _ _ _ (f.block l.out)).trans (rfl:_=some (Value.string x.e.job));go_simp;apply k;iterate 12 apply bW
     exact⟨b,j,rfl,rfl,f⟩
    ·rintro _ _ d K ⟨q,b1,b2,b3,b4,r,b6,b7,_,b9,b10,b11,b,j,rfl,h2,f⟩ h k
     repeat obtain⟨rfl,h⟩:=h
     subst h2;have U:=t.out d f;go_simp;apply k;iterate 12 apply bW
     exact⟨b,j,rfl,rfl,f⟩
    all_goals
     rintro _ _ d K ⟨q,b1,b2,b3,b4,r,b6,b7,_,b9,b10,b11,b,j,rfl,h2,f⟩ h k
     repeat obtain⟨rfl,h⟩:=h
     subst h2;go_simp;apply k;iterate 12 apply bW
     exact⟨b,j,rfl,rfl,f⟩
   ·have q1:(x.e.kind==1)=false:=by rw[k1];rfl
    have q2:(x.e.kind==2)=false:=by rw[k1];rfl
    have q3:(x.e.kind==3)=true:=by rw[k1];rfl
    clear k1 G;go_upto_region 8 with fail
    refine ah [([],[]),([0],[]),([1],[]),([2,1,0],[6,10,11,7,8,9]),([],[]),([4],[6,10,11,7,8,9]),([3,5,2,4,1,0],[7,10,11,8,9]),([6],[]),([7],[]),([7],[]),([8,0,1,2,3,4,5,6,7],[]),([9,10],[])] (rj d g C D i x _ _ _ _ _ _ _ _ _ _ _ _ _ _ _ _ _ _ _ _ _ _ _ _ _ _ _ _ _ _ _ _ _ _ _ _ _ _ _ _ _ _ _ _ _ _ _ _ _ _ _ _ _ _ _ _ _ _ _ _ _ _ _ _ _ _ _ _ _ _ _ _ _ _ _ _ _ _ _ _ _ _ _ _ _ _) (⟨false,false,false,false,false,false,false,false,false,false,false,false,0,aR,rfl,rfl,(Old.refl d).drew⟩) ?_ ⟨?_,?_,?_,?_,?_,?_,?_,?_,?_,?_,?_,?_,trivial⟩
    ·rintro a d ⟨q,b1,b2,b3,b4,r,b6,b7,_,b9,b10,b11,b,j,L,rfl,f⟩;have n:=congrArg Array.toList L;simp at n;obtain⟨rfl,rfl,rfl,rfl,rfl,rfl,rfl,rfl,rfl,rfl,rfl,rfl⟩:=n;clear L;have H:=aJ (Q.out d f);have M:=nX (f.block l.out);clear f u R O y o t l Q;go_wp2_with (refine wpList_load_mid rfl 37 _ rfl C 0 rfl (cj x) _ M Tryz.underlying37 rfl gO ?_);refine H.out.mono ?_;rintro e _ X;have Y:=aJ X;obtain⟨rfl,_⟩:=X;clear H M;go_wp2_with fail;go_end0;rw[P.out];exact Y.out
    rotate_left 3
    ·rintro _ _ d K ⟨q,b1,b2,b3,b4,r,b6,b7,_,b9,b10,b11,b,j,rfl,h2,f⟩ h k
     repeat obtain⟨rfl,h⟩:=h
     subst h2;have hc:=((u.out d f).cell 2 (v:= .map (some D)) rfl).1;go_simp;apply k;iterate 12 apply bW
     exact⟨b,j,rfl,rfl,f⟩
    rotate_left 1
    ·rintro _ _ d K ⟨q,b1,b2,b3,b4,r,b6,b7,_,b9,b10,b11,b,j,rfl,h2,f⟩ h k
     repeat obtain⟨rfl,h⟩:=h
     subst h2;have hc:=(aK d C 1 _ _ _ (f.block l.out)).trans (rfl:_=some (Value.string x.e.job));go_simp;apply k;iterate 12 apply bW
     exact⟨b,j,rfl,rfl,f⟩
    ·rintro _ _ d K ⟨q,b1,b2,b3,b4,r,b6,b7,_,b9,b10,b11,b,j,rfl,h2,f⟩ h k
     repeat obtain⟨rfl,h⟩:=h
     subst h2;have U:=t.out d f;go_simp;apply k;iterate 12 apply bW
     exact⟨b,j,rfl,rfl,f⟩
    all_goals
     rintro _ _ d K ⟨q,b1,b2,b3,b4,r,b6,b7,_,b9,b10,b11,b,j,rfl,h2,f⟩ h k
     repeat obtain⟨rfl,h⟩:=h
     subst h2;go_simp;apply k;iterate 12 apply bW
     exact⟨b,j,rfl,rfl,f⟩
 ·have n1:x.e.kind≠1:=fun e=>p (bX e)
  have n2:x.e.kind≠2:=fun e=>p (bY (bX e))
  have n3:x.e.kind≠3:=fun e=>p (bY (bY e))
  have q1:(x.e.kind==1)=false:=by simpa using n1
  have q2:(x.e.kind==2)=false:=by simpa using n2
  have q3:(x.e.kind==3)=false:=by simpa using n3
  have r:d.cell? ⟨C,5,none⟩=some (.int .u64 x.e.at_):=(aK d C 5 _ _ _ l.out).trans rfl
  clear S N ai;rcases T with e|e|e|k4|k5
  ·exact absurd e n1
  ·exact absurd e n2
  ·exact absurd e n3
  ·have q6:(x.e.kind==6)=false:=by rw[k4];rfl
   have q7:(x.e.kind==7)=false:=by rw[k4];rfl
   have q8:(x.e.kind==8)=false:=by rw[k4];rfl
   have q4:(x.e.kind==4)=true:=by rw[k4];rfl
   have c3:=(o.out.cell 3 (v:= .int .u64 s.now) rfl).1
   have F:Hid (Oc.handle s x.e=if s.now<x.e.at_ then Oc.tick s x.e.at_ else s):=aJ (by unfold Oc.handle;rw[if_neg p,if_pos k4])
   clear n1 n2 n3 k4 p;go_upto_region 12 with fail
   go_quiet (fail)
   by_cases V:s.now<x.e.at_
   ·have ab:=aJ (fun W (E:Old d W)=>yu (u.out W E) R.out k x.e.at_ ha)
    have P:Hid (Oc.handle s x.e=Oc.tick s x.e.at_):=aJ (by rw[F.out,if_pos V])
    clear o R O y u F;go_wp2_with fail;refine(ab.out _ (Old.drewN (Old.refl _) _)).mono ?_;rintro e _ X;have Y:=aJ X;obtain⟨rfl,_⟩:=X;clear ab;go_wp2_with fail;go_end0;rw[P.out];exact Y.out
   ·have z:Hid (∀W,Old d W→uw w0 B g pb pc oA oc (.map (some D)) (Oc.handle s x.e) (.returned (.tuple #[])) W):=aJ (fun W E=>⟨rfl,_,_,_,by rw[F.out,if_neg V];exact u.out W E⟩)
    clear o R O y u F;go_wp2_with fail;go_end0;exact z.out _ (Old.drewN (Old.refl _) _)
  ·have q6:(x.e.kind==6)=false:=by rw[k5];rfl
   have q7:(x.e.kind==7)=false:=by rw[k5];rfl
   have q8:(x.e.kind==8)=false:=by rw[k5];rfl
   have q4:(x.e.kind==4)=false:=by rw[k5];rfl
   have q5:(x.e.kind==5)=true:=by rw[k5];rfl
   have F:Hid (Oc.handle s x.e=if s.draws.length<64 then {s with draws:=s.draws++[x.e.at_]} else s):=aJ (by unfold Oc.handle;rw[if_neg p,if_neg (by rw[k5];decide),if_pos k5])
   have ag:=aJ (O.out.draw k5)
   obtain⟨dA,dc,rfl,_,_,_⟩:=o.out.rows.draws.shape;obtain⟨c4,_⟩:=o.out.cell 4 (v:= .slice dA s.draws.length dc) rfl;have i64:(s.draws.length:Int)≤64:=by have:=R.out.dr.2;omega
   clear n1 n2 n3 k5 p
   by_cases V:s.draws.length<64
   ·have ad:(s.draws.length:Int)<64:=by omega
    have P:Hid (Oc.handle s x.e={s with draws:=s.draws++[x.e.at_]}):=aJ (by rw[F.out,if_pos V])
    have af:Hid (∀(W:World) (v':Value) (w':World),Old d W→Qw w' w0.heap.size 29 v' (s.draws.length+1) (ax s.draws++[.int .u64 x.e.at_])→W.grownBy w' (Value.slice dA s.draws.length dc).ownBlock→
      ∃A' c',v'= .slice A' (s.draws.length+1) c'∧w'.cell? ⟨g,4,none⟩=some (.slice dA s.draws.length dc)∧w'.frozen? ⟨g,4,none⟩=false∧Hid (uw w0 B g pb pc oA oc (.map (some D)) (Oc.handle s x.e) (.returned (.tuple #[])) (w'.setCell ⟨g,4,none⟩ (.slice A' (s.draws.length+1) c')))):=aJ (fun W v' w' h1 h2 h3=>by
     obtain⟨A',c',rfl,_,_⟩:=h2.shape;obtain⟨e1,e2,e3⟩:=(u.out W h1).draw ag.out h2 h3;exact⟨A',c',rfl,e1,e2,aJ ⟨rfl,_,_,_,by rw[P.out];exact e3⟩⟩)
    have aa:Hid (∀W,Old d W→Qw W w0.heap.size 29 (.slice dA s.draws.length dc) s.draws.length (ax s.draws)∧w0.heap.size≤W.heap.size):=aJ (fun W E=>⟨(u.out W E).rows.draws,(u.out W E).old.size⟩)
    have gl:g<d.heap.size:=aQ o.out.st
    have kl:C<d.heap.size:=aQ l.out
    clear o R O y u F l;go_upto_region 16 with fail
    go_region_law ((refine sZ _ (by rfl) _ _ 23 (by rfl) w0.heap.size 29 (.int .u64 0) 8 Tryz.underlying23 jY rfl (by decide) (.slice dA s.draws.length dc) s.draws.length (ax s.draws) (by rfl) (aa.out _ aS).1 d.heap.size 0 1 (.int .u64 x.e.at_) (by rfl) (by first|exact ed _ [.int .u64 x.e.at_] _ 0 _ rfl|exact ed _ [.int .u64 x.e.at_] _ 0 _ rfl) rfl (by omega) (aa.out _ aS).2 ?_;intro v' w' E hg;obtain⟨A',c',rfl,e3,_,z⟩:=af.out _ _ _ aS E hg;clear E hg))
    all_goals (go_wp2_with fail;go_end0;exact z.out)
   ·have ad:decide ((s.draws.length:Int)<64)=false:=by rw[decide_eq_false_iff_not];omega
    have z:Hid (uw w0 B g pb pc oA oc (.map (some D)) (Oc.handle s x.e) (.returned (.tuple #[])) d):=aJ ⟨rfl,_,_,_,by rw[F.out,if_neg V];exact o.out⟩
    clear o R O y u F;go_wp2_with fail;go_end0;exact z.out
end
namespace Oc
structure EOk (e:Ev):Prop where
 kind:e.kind=1∨e.kind=2∨e.kind=3∨e.kind=4∨e.kind=5
 bytes:∀b∈e.data,b<256
 at_:Tk.U e.at_
 job:e.job.size≤1000000
theorem nt (s:St) (b:Bool):(use s b).pl=s.pl:=by unfold use;split<;>rfl
theorem rr (s:St) (b:Bool):(use s b).now=s.now:=by unfold use;split<;>rfl
theorem uD (s:St) (b:Bool) (h:(∀v∈s.draws,Tk.U v)∧s.draws.length≤64):(∀v∈(use s b).draws,Tk.U v)∧(use s b).draws.length≤64:=by
 unfold use;split
 ·exact⟨fun v hv=>h.1 v (List.mem_of_mem_tail hv),by simp;omega⟩
 ·exact h
theorem kH {s:St} {i:Nat} {e:Ev} (h1:e.kind≠1) (h2:e.kind≠2) (a:e.kind=3) (b:i<s.pl.length):about s i e=outp s i e.data:=by
 unfold about;rw[rO s i b];simp only[if_neg h1,if_neg h2,if_pos a]
theorem I.outp {K:Nat} {s:St} (h:I K s) {i:Nat} (d:i<s.pl.length) {t:List Nat} (f:∀b∈t,b<256):I (K+1+t.length) (outp s i t):=by
 have a:=h.pl i d
 have e:(∀b∈dD s i t,b<256)∧(dD s i t).length≤K+1+t.length:=by
  unfold dD;split
  ·refine⟨fun b c=>?_,by rw[bF];have:=a.o.2;omega⟩
   rcases List.mem_append.mp c with h1|h1
   ·exact a.o.1 b h1
   ·exact f b h1
  ·exact⟨a.o.1,by have:=a.o.2;omega⟩
 have h1:I (K+1+t.length) (setP s i {p s i with out:=dD s i t}):=
  (h.mono (show K≤K+1+t.length by omega)).set (i:=i) rfl ⟨a.j,a.x,by have:=a.t;simp only;omega,a.rung,e⟩ h.now h.dr
 unfold Go.Proofs.YtfchjdnpbgpfpaaGreatDoor.outp;split
 ·refine h1.set (i:=i) rfl ?_ h.now h.dr;rw[cU s _ d];exact⟨a.j,Lf.ok_matched a.x,by simp only[Lf.len_matched];have:=a.t;omega,qr (J:=lj (p s i).j) a.rung,e⟩
 ·exact h1
theorem nh {s:St} {i:Nat} {e:Ev} (h1:e.kind=1):about s i e=use (send (setX s i (Lf.spawned (lj (p s i).j) (p s i).x e.ok (found (p s i).j []) s.now (jitter s)).1) i (Lf.spawned (lj (p s i).j) (p s i).x e.ok (found (p s i).j []) s.now (jitter s)).2.1) (Lf.spawned (lj (p s i).j) (p s i).x e.ok (found (p s i).j []) s.now (jitter s)).2.2:=by
 unfold about;rw[if_pos h1]
theorem nf {s:St} {i:Nat} {e:Ev} (h1:e.kind≠1) (h2:e.kind=2):about s i e=use (setX s i (Lf.exit (lj (p s i).j) (p s i).x e.code s.now (jitter s)).1) (Lf.exit (lj (p s i).j) (p s i).x e.code s.now (jitter s)).2:=by
 unfold about;rw[if_neg h1,if_pos h2]
theorem I.about {K:Nat} {s:St} (h:I K s) {i:Nat} (a:i<s.pl.length) {e:Ev} (hk:e.kind=1∨e.kind=2∨e.kind=3) (d:∀b∈e.data,b<256):I (K+1+e.data.length) (about s i e):=by
 have hj:=U_jit h
 by_cases h1:e.kind=1
 ·rw[nh h1];refine I.set (i:=i) (s:=s) (q:=⟨(p s i).j,(Lf.spawned (lj (p s i).j) (p s i).x e.ok (found (p s i).j []) s.now (jitter s)).1,(p s i).out⟩) (h.mono (show K≤K+1+e.data.length by omega)) ?_ ((ok_spawned (h.pl i a) _ _ h.now hj).mono (by omega)) ?_ (uD _ _ ?_)
  ·rw[nt,nz];rfl
  ·rw[rr,oO];exact h.now
  ·rw[lw];exact h.dr
 ·by_cases h2:e.kind=2
  ·rw[nf h1 h2];refine I.set (i:=i) (s:=s) (q:=⟨(p s i).j,(Lf.exit (lj (p s i).j) (p s i).x e.code s.now (jitter s)).1,(p s i).out⟩) (h.mono (show K≤K+1+e.data.length by omega)) ?_ ((ok_exit (h.pl i a) _ h.now hj).mono (by omega)) ?_ (uD _ _ h.dr)
   ·rw[nt];rfl
   ·rw[rr];exact h.now
  ·have c:e.kind=3:=by omega
   rw[kH h1 h2 c a];exact h.outp a d
theorem I.tick {K:Nat}:∀(n:Nat) {s:St},wtS s≤n→I K s→∀{t:Int},Tk.U t→I K (tick s t):=by
 intro n
 induction n with
 |zero=>
  intro s hn h t b;cases a:early s t s.pl.length with
  |none=>rw[tick_none a];exact h.same (s':={s with now:=t}) rfl b h.dr
  |some i=>have:=wtS_fire h a;omega
 |succ n ih=>
  intro s hn h t b;cases a:early s t s.pl.length with
  |none=>rw[tick_none a];exact h.same (s':={s with now:=t}) rfl b h.dr
  |some i=>
   rw[tick_some h a];exact ih (by have:=wtS_fire h a;omega) (h.fireAt (early_some a).1) b
theorem sT {K:Nat}:∀(n:Nat) {s:St},wtS s≤n→I K s→s.pl.length≤32→∀{t:Int},(tick s t).acts.length≤s.acts.length+33*n∧(tick s t).pl.length=s.pl.length:=by
 intro n
 induction n with
 |zero=>
  intro s hn h b t;cases a:early s t s.pl.length with
  |none=>rw[tick_none a];exact⟨by simp,rfl⟩
  |some i=>have:=wtS_fire h a;omega
 |succ n ih=>
  intro s hn h b t;cases a:early s t s.pl.length with
  |none=>rw[tick_none a];exact⟨by simp,rfl⟩
  |some i=>
   rw[tick_some h a];have h1:=ih (s:=fireAt s i) (by have:=wtS_fire h a;omega) (h.fireAt (early_some a).1) (by rw[lQ];exact b) (t:=t)
   have h2:=fireAt_acts s i
   rw[lQ] at h1;exact⟨by omega,h1.2⟩
theorem I.handle {K:Nat} {s:St} (h:I K s) {e:Ev} (a:EOk e):I (K+1+e.data.length) (handle s e):=by
 unfold Oc.handle;split
 ·next hk=>
  split
  ·exact h.mono (by omega)
  ·next i hi=>exact h.about (by have:=Gp.ix_lt hi;simpa [jobs] using this) hk a.bytes
 ·split
  ·split
   ·exact(I.tick _ (bM _) h a.at_).mono (by omega)
   ·exact h.mono (by omega)
  ·split
   ·split
    ·next h5 hlt=>
     refine(h.same (s':={s with draws:=s.draws++[e.at_]}) rfl h.now ⟨fun v hv=>?_,by simp;omega⟩).mono (by omega)
     rcases List.mem_append.mp hv with h1|h1
     ·exact h.dr.1 v h1
     ·rw[List.mem_singleton.mp h1];exact a.at_
    ·exact h.mono (by omega)
   ·exact h.mono (by omega)
theorem re {s:St} {i:Nat} {e:Ev} (hk:e.kind=1∨e.kind=2∨e.kind=3) (a:i<s.pl.length):(about s i e).acts.length≤s.acts.length+1∧(about s i e).pl.length=s.pl.length:=by
 by_cases h1:e.kind=1
 ·rw[nh h1];refine⟨?_,by rw[nt,nz];simp[setX]⟩
  have:∀s b,(use s b).acts=s.acts:=fun s b=>by unfold use;split<;>rfl
  rw[this];exact mE _ _ _
 ·by_cases h2:e.kind=2
  ·rw[nf h1 h2];refine⟨?_,by rw[nt];simp[setX]⟩
   have:∀s b,(use s b).acts=s.acts:=fun s b=>by unfold use;split<;>rfl
   rw[this]
   show s.acts.length≤_
   omega
  ·rw[kH h1 h2 (by omega) a]
   unfold Go.Proofs.YtfchjdnpbgpfpaaGreatDoor.outp;split
   ·exact⟨by show s.acts.length≤_;omega,by simp[setX,setP]⟩
   ·exact⟨by show s.acts.length≤_;omega,by simp[setP]⟩
theorem handle_acts {K:Nat} {s:St} (h:I K s) (a:s.pl.length≤32) {e:Ev} (b:EOk e):(handle s e).acts.length≤s.acts.length+13728∧(handle s e).pl.length=s.pl.length:=by
 unfold Oc.handle;split
 ·next hk=>
  split
  ·exact⟨by omega,rfl⟩
  ·next i hi=>
   have:=re (s:=s) (i:=i) hk (by have:=Gp.ix_lt hi;simpa [jobs] using this)
   exact⟨by omega,this.2⟩
 ·split
  ·split
   ·have h1:=sT _ (bM _) h a (t:=e.at_)
    have h2:=wtS_le h
    exact⟨by omega,h1.2⟩
   ·exact⟨by omega,rfl⟩
  ·split
   ·split
    ·exact⟨by simp,rfl⟩
    ·exact⟨by omega,rfl⟩
   ·exact⟨by omega,rfl⟩
theorem mR {l:List Jd} {i:Nat} (a:i<l.length):p (install l) i=⟨l.getD i dG,Lf.new,[]⟩:=by
 unfold p install;simp[bD,a]
theorem I.install {l:List Jd} (h:∀j∈l,JOk j):I 0 (install l):=by
 refine⟨fun i d=>?_,Lf.U0,fun v hv=>by simp[Oc.install] at hv,by simp[Oc.install]⟩
 have a:i<l.length:=by simpa [Oc.install] using d
 rw[mR a];refine⟨h _ (by show l.getD i dG∈l;rw[bD,bE a];exact bH a),Lf.ok_new,bM _,(fun e=>by cases e),⟨fun b c=>by simp at c,bM _⟩⟩
def NoT (s:St):Prop:=∀i,i<s.pl.length→(p s i).x.times=[]
theorem NoT.install (l:List Jd):NoT (install l):=fun i b=>by
 have a:i<l.length:=by simpa [Oc.install] using b
 rw[mR a];rfl
theorem NoT.settle:∀(f:Nat) {s:St},NoT s→NoT (settle f s):=by
 intro f
 induction f with
 |zero=>intro s h;exact h
 |succ f ih=>
  intro s h;unfold Oc.settle;split
  ·exact h
  ·next i hf=>
   refine ih (fun k hk=>?_)
   have h1:=(Gp.order_lt (jobs s)).1 i (List.mem_of_find?_eq_some hf)
   have b:i<s.pl.length:=by simpa [jobs] using h1
   have hk2:k<s.pl.length:=by simpa [spawnAt] using hk
   have e:p (spawnAt s i) k=if k=i then⟨(p s i).j,(Lf.spawn (p s i).x).1,[]⟩ else p s k:=by
    unfold p spawnAt;simp only;rw[bD,List.getElem?_set]
    by_cases a:i=k
    ·subst a;simp[b,p]
    ·simp[a,show¬k=i from fun c=>a c.symm,bD]
   rw[e];split
   ·simp only[Lf.len_spawn];exact h i b
   ·exact h k hk2
theorem NoT.calm {s:St} (h:NoT s):NoT (calm s):=h.settle _
theorem NoT.draw {s:St} (h:NoT s) {e:Ev} (a:e.kind=5):NoT (handle s e):=by
 unfold Oc.handle;rw[if_neg (by rw[a];decide),if_neg (by rw[a];decide),if_pos a]
 split
 ·exact h
 ·exact h
end Oc
theorem lz {s:List Au.R} {k:Nat} (r:Au.R) (h:k<s.length):Au.get (s.set k r) k=r:=by simp[Au.get,h]
theorem kw {s:List Au.R} {k i:Nat} (r:Au.R) (h:i≠k):Au.get (s.set k r) i=Au.get s i:=by
 simp only[Au.get,bD];rw[List.getElem?_set_ne (by omega)]
def kh (s:List Au.R):Prop:=∀k,(∀b∈(Au.get s k).out,b<256)∧(Au.get s k).out.length≤1000000
def Cu (l:List Jd) (s:List Au.R) (e:Oc.Ev):Prop:=∃k,Gp.ix l e.job=some k∧((e.kind=1∧e.ok=true∧(Au.get s k).st=1)∨(e.kind=3∧(Au.get s k).st=2))∧(Au.get s k).out=[]
def og (l:List Jd) (al:List Oc.Ac):Prop:=∀a∈al,a.kind=1∧∃k,Gp.ix l a.job=some k
def xz (l:List Jd):List Au.R→List Oc.Ev→List (List Oc.Ac)→Prop
 |_,[],[]=>True
 |s,e::es,al::a=>Cu l s e∧kh (Au.see l s e)∧og l al∧∃s',Au.judges l (Au.see l s e) al=some s'∧xz l s' es a
 |_,_,_=>False
def zM (l:List Jd) (es:List Oc.Ev) (b:List (List Oc.Ac)):Prop:=∃al a s,b=al::a∧og l al∧kh (Au.start l)∧Au.judges l (Au.start l) al=some s∧xz l s es a
end Go.Proofs.YtfchjdnpbgpfpaaGreatDoor
