/- Part 10: walks and plain laws. -/
import Derived.Test.YtflccikncbhpdaaGreatDoorZy9
import Derived.Test.YtflccikncbhpdaaGreatDoorCards
import Derived.Test.YtflccikncbhpdaaGreatDoorTie
import Derived.LaidMore
import Derived.SevenTiedAt
set_option maxHeartbeats 16000000
set_option maxRecDepth 100000
namespace Go.Proofs.YtflccikncbhpdaaGreatDoor
open Go.ChangeShapes Go.WideShapes Go.ChangeAt Go.RowKit Rw
set_option linter.unusedVariables false
theorem nU{A1:Option Addr}{n1 c1:Nat}{W:World}(h:∃l:List Int,l.length=n1∧n1≤maxLen∧Rs W A1 (aW l)):
  Calls Tryz.prog 3 #[.slice A1 n1 c1] W fun e w'=>e= .returned (.bool true)∧Below W.heap.size W w':=by
 obtain⟨l,rfl,hm,a⟩:=h;exact(topStartsC A1 c1 l W a hm).mono fun e w' h=>⟨h.1,h.2.out⟩
theorem Aw(os:Os)(args:Array Value):laidMetH Tryz.prog Rows.topStartsRow.laid ((World.doorLaid Tryz.prog 212 os).forCall (fun _ _=>0) ⟨#[],args,[]⟩).memory:=
 laidMetH_of_parts3 (fuel:=8) (laidMet_of_run' 8 (by kernel_rfl) (by kernel_rfl)) (by kernel_rfl) (by kernel_rfl)
theorem lF(os:Os)(b:os.Started)(H:Type)(enc:TypeId×Value→H):
  ReturnsInHanded {} Tryz.checked os 3 .any (fun w args=>(Rows.topStartsSpec.pre enc Tryz.prog Tryz.f3 [] false w args∧laidMetH Tryz.prog Rows.topStartsRow.laid w)∧sizedMet enc Tryz.prog Tryz.f3 (OpenSpec.ofChange Rows.topStartsSpec) false w args) (Rows.topStartsSpec.post enc Tryz.prog Tryz.f3 false true false false):=by
 refine returnsInHanded_of_change_and (C:=Tryz.checked) (X:=fun w _=>laidMetH Tryz.prog Rows.topStartsRow.laid w) (fun _ _ _ y h=>h.of_heap y) own b (by kernel_rfl) Tryz.func3
  (ChangeSpec.witness_shaped (enc:=enc) (C:=Tryz.checked) (os:=os) (X:=fun w _=>laidMetH Tryz.prog Rows.topStartsRow.laid w) false (World.doorLaid Tryz.prog 212 os) #[.slice none 0 0] 8 rfl (World.shaped_of_RefB (by kernel_rfl) (by kernel_rfl)) (by kernel_rfl) (by kernel_rfl) (by kernel_rfl) (Aw os _)) ?_
 intro W base args r gs g a o _ _ _ _;have c:∀(j:Nat) t v,Tryz.f3.params[j]? =some t→args[j]? =some v→Value.okWide Tryz.prog W .any base t v:=a
 have k:=o
 obtain⟨p,q,f,s,rfl,_,_⟩:=o;have n:DataW.TrodAll enc Tryz.prog W 0 (fun _=>true) true Tryz.f3.params.toList args.toList r p:=f
 rw[Tryz.params3] at n c;obtain⟨v0,_,_,_,z,_,_,rfl,rfl,i,r0⟩:=trodAll_cons n;obtain⟨rfl,rfl,rfl⟩:=trodAll_nil r0;obtain rfl:args=#[v0]:=by cases args;simp_all
 obtain⟨rfl,rfl⟩:=trodVars_none s;obtain⟨a0,_,_,rfl⟩:=okWide_slice Tryz.underlying22 (c 0 22 v0 rfl rfl);have l:∀x∈z,x.block<W.heap.size:=by obtain⟨m,hm⟩:=i;exact DataW.trod_lt m _ _ _ hm
 have w0:=wA i
 clear f a;refine(nU w0).mono fun e W' ⟨u,d⟩=>?_
 subst u;exact⟨_,rfl,_,_,_,[],_,[],k,trodAll_mk1 (shut_bool Tryz.underlying4 _),(trodAll_cons_mk (Below.trod CP (by kernel_rfl) (of_decide_eq_true (by kernel_rfl)) i d l) trodAll_mk0),rfl,d.frame _,fun h=>by cases h⟩
end Go.Proofs.YtflccikncbhpdaaGreatDoor
