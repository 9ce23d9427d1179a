/- Part 8: walks and plain laws. -/
import Derived.Test.YtfchjdnpbgpfpaaGreatDoorZz7
import Derived.Test.YtfchjdnpbgpfpaaGreatDoorCards
import Derived.Test.YtfchjdnpbgpfpaaGreatDoorTie
import Derived.LaidMore
import Derived.SevenTiedAt
set_option maxHeartbeats 16000000
set_option maxRecDepth 100000
open Go.Lib renaming hid → aJ
open Go renaming cell_of_row → aK, heap_setCell_other → aL, heap_alloc_new → aM, frozen_of_row → aN, heap_setCell_same → aO, bodyPost_ret → aP, lt_of_block → aQ, undef → aR
open List renaming getD_eq_getElem?_getD → bD, getElem?_eq_getElem → bE, length_append → bF, length_singleton → bG, getElem_mem → bH, getElem?_eq_none → bI, getElem?_append_left → bJ, length_set → bK, length_map → bL
open Nat renaming le_refl → bM, le_trans → bN, zero_le → bO
open Option.some renaming inj → bQ
open Go.World.ownsRow renaming kept → bT, lt → bU
open Go.IntWalk renaming i64_in → bV
open Exists renaming intro → bW
open Or renaming inl → bX, inr → bY
namespace Go.Proofs.YtfchjdnpbgpfpaaGreatDoor
open Go.ChangeShapes Go.WideShapes Go.ChangeAt Go.RowKit Rw
set_option linter.unusedVariables false
theorem tt {H:Type} {enc:TypeId×Value→H} {w:World} {base:Nat} {spare:Nat→Bool} {held:Bool} {a:Option Addr} {len cap:Nat} {d:DataW H} {p:List MemPlace}
  (h:DataW.Trod enc Tryz.prog w base spare held 23 (.slice a len cap) d p):
  ∃l:List Int,l.length=len∧len≤maxLen∧Rs w a (ax l)∧∀t∈l,Tk.U t:=by
 obtain⟨cells,c,_,_,g,hc⟩:=lF Tryz.underlying23 (show 0<Tryz.prog.cellsOf 29 by decide+kernel) h
 obtain⟨l,rfl,f⟩:=kD (fun x:Int=>[Value.int .u64 x]) Tk.U cells (fun cs b=>by
  obtain⟨_,n,y,hy⟩:=hc cs b;obtain⟨x,h1,h2⟩:=o9 Tryz.underlying29 hy;exact⟨x,h1,u64 h2⟩)
 refine⟨l,by simpa using c,by omega,?_,f⟩
 have e:ax l=(l.map fun x:Int=>[Value.int .u64 x]).flatten:=by rw[jD];rfl
 rw[e];exact g
theorem mh {A1 A2:Option Addr} {n1 c1 n2 c2:Nat} {W:World} (h:∃l:List Int,l.length=n1∧n1≤maxLen∧Rs W A1 (aY l)) (h2:∃l:List Int,l.length=n2∧n2≤maxLen∧Rs W A2 (ax l)∧∀t∈l,Tk.U t):
  Calls Tryz.prog 3 #[.slice A1 n1 c1,.slice A2 n2 c2] W fun e w'=>e= .returned (.bool true)∧Below W.heap.size W w':=by
 obtain⟨l,rfl,hm,f⟩:=h;obtain⟨c,rfl,a,b,d⟩:=h2;exact(topDelaysC A1 c1 l A2 c2 c W f hm b d a).mono fun e w' h=>⟨h.1,h.2.out⟩
theorem wF (os:Os) (args:Array Value):laidMetH Tryz.prog Rows.topDelaysRow.laid ((World.doorLaid Tryz.prog 212 os).forCall (fun _ _=>0) ⟨#[],args,[]⟩).memory:=
 laidMetH_of_parts3 (fuel:=8) (laidMet_of_run' 8 (by kernel_rfl) (by kernel_rfl)) (by kernel_rfl) (by kernel_rfl)
theorem jK (os:Os) (c:os.Started) (H:Type) (enc:TypeId×Value→H):
  ReturnsInHanded {} Tryz.checked os 3 .any (fun w args=>(Rows.topDelaysSpec.pre enc Tryz.prog Tryz.f3 [] false w args∧laidMetH Tryz.prog Rows.topDelaysRow.laid w)∧sizedMet enc Tryz.prog Tryz.f3 (OpenSpec.ofChange Rows.topDelaysSpec) false w args) (Rows.topDelaysSpec.post enc Tryz.prog Tryz.f3 false true false false):=by
 refine returnsInHanded_of_change_and (C:=Tryz.checked) (X:=fun w _=>laidMetH Tryz.prog Rows.topDelaysRow.laid w) (fun _ _ _ z h=>h.of_heap z) own c (by kernel_rfl) Tryz.func3
  (ChangeSpec.witness_shaped (enc:=enc) (C:=Tryz.checked) (os:=os) (X:=fun w _=>laidMetH Tryz.prog Rows.topDelaysRow.laid w) false (World.doorLaid Tryz.prog 212 os) #[.slice none 0 0,.slice none 0 0] 8 rfl (World.shaped_of_RefB (by kernel_rfl) (by kernel_rfl)) (by kernel_rfl) (by kernel_rfl) (by kernel_rfl) (wF os _)) ?_
 intro W base args s gs g b r _ _ _ _;have a:∀(j:Nat) t v,Tryz.f3.params[j]? =some t→args[j]? =some v→Value.okWide Tryz.prog W .any base t v:=b
 have k:=r
 obtain⟨p,q,f,u,rfl,_,_⟩:=r;have o:DataW.TrodAll enc Tryz.prog W 0 (fun _=>true) true Tryz.f3.params.toList args.toList s p:=f
 rw[Tryz.params3] at o a;obtain⟨v0,_,_,_,A,_,_,rfl,rfl,i,r0⟩:=trodAll_cons o;obtain⟨v1,_,_,_,B,_,rfl,rfl,rfl,h1,D⟩:=trodAll_cons r0;obtain⟨rfl,rfl,rfl⟩:=trodAll_nil D;obtain rfl:args=#[v0,v1]:=by cases args;simp_all
 obtain⟨rfl,rfl⟩:=trodVars_none u;obtain⟨a0,_,_,rfl⟩:=okWide_slice Tryz.underlying22 (a 0 22 v0 rfl rfl);have l:∀x∈A,x.block<W.heap.size:=by obtain⟨m,hm⟩:=i;exact DataW.trod_lt m _ _ _ hm
 have w0:=tu i
 obtain⟨a1,_,_,rfl⟩:=okWide_slice Tryz.underlying23 (a 1 23 v1 rfl rfl);have n:∀x∈B,x.block<W.heap.size:=by obtain⟨m,hm⟩:=h1;exact DataW.trod_lt m _ _ _ hm
 have E:=tt h1
 clear f b;refine(mh w0 E).mono fun e W' ⟨y,d⟩=>?_
 subst y;exact⟨_,rfl,_,_,_,[],_,[],k,trodAll_mk1 (shut_bool Tryz.underlying4 _),(trodAll_cons_mk (Below.trod sa (by kernel_rfl) (of_decide_eq_true (by kernel_rfl)) i d l) (trodAll_cons_mk (Below.trod sa (by kernel_rfl) (of_decide_eq_true (by kernel_rfl)) h1 d n) trodAll_mk0)),rfl,d.frame _,fun h=>by cases h⟩
end Go.Proofs.YtfchjdnpbgpfpaaGreatDoor
