/- Texts of one claim, joined: Bz0, Za1. -/
import Derived.Test.YthjbidjmgbjkiaaGreatDoorQPH6
import Derived.Test.YthjbidjmgbjkiaaGreatDoorQPH8
import Derived.Test.YthjbidjmgbjkiaaGreatDoorQPH14
import Derived.Test.YthjbidjmgbjkiaaGreatDoorRows
import Derived.OpenShut
import Derived.ChangeArms
import Derived.ProofKit
import Derived.Handed
import Derived.JoinedOf
import Derived.RowKit
import Derived.WalkKit
import Derived.ShutString
import Derived.ChangeOld
import Derived.Below
import Derived.SizedLaws
import Derived.ChangeSame
import Derived.ChangeVars
set_option linter.unnecessarySimpa false
set_option linter.unusedSimpArgs false
set_option linter.unusedVariables false
namespace Go.Proofs.YthjbidjmgbjkiaaGreatDoor
open Go Go.SL
theorem Ix{P:Program}{H:Type}{enc:TypeId × Value→H}{W:World}{base:Nat}{spare:Nat→Bool}{held:Bool}{fuel n:Nat}{t e:TypeId}{k:IntKind}{l:List Value}{x:DataW H × List MemPlace}(ht:P.underlying t=some (.array n e))(he:P.underlying e=some (.int k))(hc:P.cellsOf e=1)(xr:P.cellsOf t=n)(h:DataW.trod enc P W base spare held fuel t l=some x)(ns:List Int)(hx:x.1 = .agg (ns.map fun z => .lit (.int k z))):l=ns.map (Value.int k):=by
 obtain⟨xs,m,_,OF,hlen,Jf,hf⟩:=DataW.trod_array ht h
 rw[xr]at hlen
 rw[OF]at hx
 simp only[DataW.agg.injEq]at hx
 apply List.ext_getElem?
 intro i
 rcases Nat.lt_or_ge i n with hi|hi
 ·have h1:=hf i hi
  obtain⟨y,hy⟩:∃y,xs[i]?=some y:=⟨xs[i]' (by rw[Jf];exact hi),by simp⟩
  rw[hy,hc,Nat.mul_one]at h1
  obtain⟨z,r,hz,w⟩:=DataW.trod_int he h1
  have h2:=congrArg (fun l:List Value=>l[0]?) r
  have h3:l[i]?=some (.int k z):=by simpa using h2
  have h4:=congrArg (fun l=>l[i]?) hx
  simp only[List.getElem?_map,hy,Option.map_some,hz]at h4
  rw[h3,List.getElem?_map]
  cases hn:ns[i]? with
  | none=>rw[hn]at h4;cases h4
  | some z2 =>
   rw[hn]at h4
   simp only[Option.map_some,Option.some.injEq,DataW.lit.injEq,Lit.int.injEq]at h4
   rw[h4.2]
   rfl
 ·have F5:ns.length=n:=by have:=congrArg List.length hx;simpa[Jf]using this.symm
  rw[List.getElem?_eq_none ai,List.getElem?_eq_none (by simp;omega)]
def MB:List Int:=Sha.ks.map fun w=>(w.toNat:Int)
theorem UJ:wV Sha.ks=MB.map (Value.int .u32):=by unfold wV MB;rw[List.map_map];rfl
theorem SD:Rows.laid_starling_digest_constants (H:=Unit) = .agg (MB.map fun z => .lit (.int .u32 z)):=by
 unfold Rows.laid_starling_digest_constants MB Sha.ks
 simp only[List.map_cons,List.map_nil,BitVec.toNat_ofNat]
 rfl
theorem pC:Tryz.prog.globalNamed "starling/digest.constants" = some 0:=by kernel_rfl
theorem FT:(Tryz.prog.globals[0]?).map (·.type)=some 206:=by kernel_rfl
theorem KH:Tryz.prog.cellsOf 206=64:=by kernel_rfl
theorem GN:Tryz.prog.cellsOf 143=1:=by kernel_rfl
theorem xQ{W:World}(h:laidMet Tryz.prog [("starling/digest.constants", Rows.laid_starling_digest_constants)] W):W.var? Tryz.prog "starling/digest.constants" = some (wV Sha.ks).toArray:=by
 obtain⟨ps,⟨g,t,cs,fuel,p,q,hg,ht,ZN,hd,_,_⟩,_⟩:=h
 obtain rfl:=Option.some.inj (pC.symm.trans hg)
 obtain rfl:=Option.some.inj (FT.symm.trans ht)
 rw[ZN,UJ]
 congr 1
 have:=Ix Tryz.underlying206 Tryz.underlying143 GN KH hd MB SD
 rw[← this]
theorem CU{W:World}(h:laidMet Tryz.prog [("starling/digest.constants", Rows.laid_starling_digest_constants)] W):mX (old W):=by
 have hv:=xQ h
 refine⟨some ⟨0,0,none⟩,64,rfl,.inr ⟨_,0,rfl,fun hp ho j c hj=>?_⟩⟩
 rw[Nat.zero_add]
 refine l9 ho ?_
 rw[World.var?_cell pC hv j]
 simpa using hj
noncomputable def s9(os:Os):World :=
  { World.holding Tryz.prog os ⟨#[],#[],[]⟩with heap:=(World.holding Tryz.prog os ⟨#[],#[],[]⟩).heap.modify 0 fun
      | .cells _ t frozen => .cells (MB.map (Value.int .u32)).toArray t frozen
      | o=>o }
theorem xC(os:Os)(args:Array Value):((s9 os).forCall (fun _ _=>0) ⟨#[],args,[]⟩).memory.heap[0]?=some (.cells (MB.map (Value.int .u32)).toArray 206 (0,0)):=by kernel_rfl
set_option maxRecDepth 20000 in
theorem xD(os:Os)(args:Array Value):laidMet Tryz.prog [("starling/digest.constants", Rows.laid_starling_digest_constants)] ((s9 os).forCall (fun _ _=>0) ⟨#[],args,[]⟩).memory:=by
 have xG:=xC os args
 refine⟨_,⟨0,206,(MB.map (Value.int .u32)).toArray,8,[],[],pC,FT,?_,?_,rfl,rfl⟩,?_,?_⟩
 ·unfold World.var?
  rw[pC]
  simp only[Option.bind_some,xG]
 ·kernel_rfl
 ·rw[List.append_nil,List.append_nil]
  unfold MemPlace.row
  refine List.Pairwise.map (R:=fun a b=>a≠b) _ (fun i j B9 e=>B9 ?_) List.nodup_range
  exact Nat.add_left_cancel (MemPlace.cell.inj e).2
 ·intro b off h
  have hb:b=0:=by
   simp only[List.append_nil,MemPlace.row,List.mem_map]at h
   obtain⟨i,_,hi⟩:=h
   simp[MemPlace.cell.injEq]at hi
   exact hi.1.symm
  subst hb
  refine⟨⟨_,_,xG⟩,fun u v hc=>?_⟩
  simp only[World.cell?,xG]at hc
  exfalso
  have h2:∀x∈MB.map (Value.int .u32),∀u v,x ≠ .iface u v:=by
   intro x hx u v
   obtain⟨z,_,rfl⟩:=List.mem_map.1 hx
   simp
  have h3:(MB.map (Value.int .u32))[off]?=some (.iface u v):=by simpa using hc
  exact h2 _ (List.mem_of_getElem? h3) u v rfl
end Go.Proofs.YthjbidjmgbjkiaaGreatDoor
namespace Go.Proofs.YthjbidjmgbjkiaaGreatDoor.piecesHas
open Go Go.SL
open Go.ChangeShapes Go.WideShapes Go.ChangeAt Go.RowKit
open Go.ChangeMaps (open_string shut_string)
theorem own:ownKnob Tryz.prog.godebug=none:=by kernel_rfl
theorem laidOut:laidOutB Tryz.prog=true:=by kernel_rfl
set_option maxRecDepth 100000 in
theorem lifted(os:Os)(started:os.Started)(H:Type)(enc:TypeId × Value→H) :
  ReturnsInHanded {} Tryz.checked os 3 .any (fun w args=>(Rows.piecesHasSpec.pre enc Tryz.prog Tryz.f3 Rows.piecesHasRow.domain false w args∧laidMet Tryz.prog [("starling/digest.constants", Rows.laid_starling_digest_constants)] w)∧sizedMet enc Tryz.prog Tryz.f3 (OpenSpec.ofChange Rows.piecesHasSpec) false w args) (Rows.piecesHasSpec.post enc Tryz.prog Tryz.f3 false true false false):=by
 refine returnsInHanded_of_change_and (C:=Tryz.checked) (X:=fun w _=>laidMet Tryz.prog [("starling/digest.constants", Rows.laid_starling_digest_constants)] w) (fun _ _ _ hh h=>h.of_heap hh) own started ak Tryz.func3
  (ChangeSpec.witness_at (enc:=enc) (C:=Tryz.checked) (os:=os) (X:=fun w _=>laidMet Tryz.prog [("starling/digest.constants", Rows.laid_starling_digest_constants)] w) false (s9 os) #[.slice none 0 0] 8 rfl ak ak ak ak ak (xD os #[.slice none 0 0])) ?_
 intro W base args ds gs before OH hW abB _ hL _
 have Wp:∀(j:Nat) t v,Tryz.f3.params[j]?=some t→args[j]?=some v→Value.okWide Tryz.prog W .any base t v:=OH
 have hW':=hW
 obtain⟨p,q,hA0,hV,rfl,hfz,kf⟩:=hW
 have hA:DataW.TrodAll enc Tryz.prog W 0 (fun _=>true) true Tryz.f3.params.toList args.toList ds p:=hA0
 rw[Tryz.params3]at hA Wp
 obtain⟨v0,vs0,d0,ds0,p0,q0,je,rfl,rfl,h0,r0⟩:=trodAll_cons hA
 obtain⟨rfl,rfl,rfl⟩:=trodAll_nil r0
 obtain rfl:args = #[v0]:=by cases args;simp_all
 obtain⟨rfl,rfl⟩:=trodVars_none hV
 obtain⟨a0,Zq,aa2,rfl⟩:=okWide_slice Tryz.underlying22 (Wp 0 22 v0 rfl rfl)
 have k0:=h0
 have lt0:∀x∈p0,x.block<W.heap.size:=by obtain⟨m,hm⟩:=k0;exact DataW.trod_lt m _ _ _ hm
 obtain⟨bs0,lD⟩:∃l:List xS,E0 (old W) (.slice a0 Zq aa2) l:=by
  obtain⟨fuel,hf⟩:=h0
  exact By (by simpa[Value.cells]using hf)
 clear hA0 OH
 refine(JZ (Mu (old W) (CU hL) _ bs0 lD)).mono fun e W' ⟨he,bel⟩=>?_
 subst he
 exact⟨_,rfl,_,_,_,[],_,[],hW',trodAll_mk1 (shut_bool Tryz.underlying4 _),(trodAll_cons_mk (Below.trod laidOut ak (of_decide_eq_true ak) k0 bel lt0) trodAll_mk0),rfl,bel.frame _,fun h=>by cases h⟩
theorem k10:(Rows.piecesHasRow.inPlace == (Tryz.pinned.checked.prog).inPlace 3)=true:=by kernel_rfl
theorem k11:(Rows.piecesHasRow.unfollowed == (Tryz.pinned.checked.prog).unfollowed 3)=true:=by kernel_rfl
theorem k12:(Rows.piecesHasRow.recurses == (Tryz.pinned.checked.prog).recurses 3)=true:=by kernel_rfl
theorem k13:(Rows.piecesHasRow.named == (Tryz.pinned.checked.prog).varsNamed 3)=true:=by kernel_rfl
theorem closed:joinedFacts Tryz.pinned.checked.prog 3 Tryz.f3 Rows.piecesHasSpec Rows.piecesHasRow=true:=by
 unfold joinedFacts
 rw[k10,k11,k12,k13]
 kernel_rfl
theorem proved:Rows.PiecesHasSaid :=
 OpenClaim.holds_of_wide 3 Tryz.f3 zr zr zr zr zr zr zr ⟨rfl,rfl,rfl,rfl,rfl⟩ zr zr zr zr zr ak Tryz.func3 closed
  (of_decide_eq_true ak) (by unfold Func.isWrapper;(rw[if_neg (by decide +kernel)];exact⟨rfl,rfl⟩))
  (fun os started H enc _=>lifted os started H enc)
#print axioms proved
end Go.Proofs.YthjbidjmgbjkiaaGreatDoor.piecesHas
