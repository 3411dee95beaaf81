import Derived.Test.YtnkfkabokmcgoaaGreatDoorQNQ2
import Derived.Test.YtnkfkabokmcgoaaGreatDoorQNQ3
import Derived.Test.YtnkfkabokmcgoaaGreatDoorQNQ4
import Derived.Test.YtnkfkabokmcgoaaGreatDoorQNQ5
import Derived.Test.YtnkfkabokmcgoaaGreatDoorQNQ7
import Derived.Test.YtnkfkabokmcgoaaGreatDoorQNQ10
import Derived.Test.YtnkfkabokmcgoaaGreatDoorQNQ11
import Derived.Shelf.SlSortCmp.NoneTotal
import Derived.Shelf.SortG.Plain
import Derived.Shelf.SortG.SortNone
import Derived.Test.YtnkfkabokmcgoaaGreatDoorChecked
import Derived.Deep.Slices
import Derived.DataElems
import Derived.Test.YtnkfkabokmcgoaaGreatDoorRows
import Derived.OpenShut
import Derived.ChangeArms
import Derived.ProofKit
import Derived.Handed
import Derived.JoinedOf
import Derived.RowKit
import Derived.WalkKit
import Derived.ShutString
import Derived.ChangeOld
import Derived.Below
import Derived.SizedLaws
import Derived.ChangeSame
import Derived.ChangeVars
import Derived.Test.YtnkfkabokmcgoaaGreatDoorProg
import GoSem.ClaimSeven
import Derived.KernelRfl
import Derived.Test.YtnkfkabokmcgoaaGreatDoorTie
import Derived.Test.YtnkfkabokmcgoaaGreatDoorCards
import Derived.SevenTiedAt
set_option linter.unnecessarySimpa false
set_option linter.unusedSectionVars false
set_option linter.unusedSimpArgs false
set_option linter.unusedVariables false
set_option maxHeartbeats 2000000
set_option maxRecDepth 100000
set_option linter.defProp false
namespace Go.Proofs.YtnkfkabokmcgoaaGreatDoor
open Go Go.Shelf
def wS:Go.Shelf.Ren:=⟨fun|6=>255|15=>250|14=>344|28=>339|29=>340|20=>398|21=>399|22=>400|23=>401|24=>402|25=>403|26=>404|27=>405|46=>425|47=>394|48=>395|49=>426|50=>427|57=>433|n=>n,fun|22=>155|24=>163|25=>357|3=>3|39=>323|0=>0|53=>319|55=>43|4=>4|46=>419|45=>418|50=>97|5=>5|9=>9|66=>466|70=>469|76=>489|77=>490|n=>n,fun|n=>n⟩
def Yw:Go.Proofs.SlLaysF0.n6 Tryz.prog wS:={
  mixed:=by kernel_rfl,
  f6:=⟨Tryz.f255.name,by decide,Tryz.func255.trans (congrArg some (by kernel_rfl))⟩,
  f14:=⟨Tryz.f344.name,by decide,Tryz.func344.trans (congrArg some (by kernel_rfl))⟩,
  f15:=Tryz.func250.trans (congrArg some (by kernel_rfl)),
  f20:=⟨Tryz.f398.name,by decide,Tryz.func398.trans (congrArg some (by kernel_rfl))⟩,
  f21:=⟨Tryz.f399.name,by decide,Tryz.func399.trans (congrArg some (by kernel_rfl))⟩,
  f22:=⟨Tryz.f400.name,by decide,Tryz.func400.trans (congrArg some (by kernel_rfl))⟩,
  f23:=⟨Tryz.f401.name,by decide,Tryz.func401.trans (congrArg some (by kernel_rfl))⟩,
  f24:=⟨Tryz.f402.name,by decide,Tryz.func402.trans (congrArg some (by kernel_rfl))⟩,
  f25:=⟨Tryz.f403.name,by decide,Tryz.func403.trans (congrArg some (by kernel_rfl))⟩,
  f26:=⟨Tryz.f404.name,by decide,Tryz.func404.trans (congrArg some (by kernel_rfl))⟩,
  f27:=⟨Tryz.f405.name,by decide,Tryz.func405.trans (congrArg some (by kernel_rfl))⟩,
  f28:=Tryz.func339.trans (congrArg some (by kernel_rfl)),
  f29:=Tryz.func340.trans (congrArg some (by kernel_rfl)),
  f46:=⟨Tryz.f425.name,by decide,Tryz.func425.trans (congrArg some (by kernel_rfl))⟩,
  f47:=Tryz.func394.trans (congrArg some (by kernel_rfl)),
  f48:=Tryz.func395.trans (congrArg some (by kernel_rfl)),
  f49:=⟨Tryz.f426.name,by decide,Tryz.func426.trans (congrArg some (by kernel_rfl))⟩,
  f50:=⟨Tryz.f427.name,by decide,Tryz.func427.trans (congrArg some (by kernel_rfl))⟩,
  f57:=⟨Tryz.f433.name,by decide,Tryz.func433.trans (congrArg some (by kernel_rfl))⟩,
  t0:=Tryz.underlying0,
  a0:=Tryz.isAgg0,
  z0:=Tryz.sizeOf0,
  v0:=Tryz.zeroValue0,
  t3:=Tryz.underlying3,
  a3:=Tryz.isAgg3,
  z3:=Tryz.sizeOf3,
  v3:=Tryz.zeroValue3,
  t4:=Tryz.underlying4,
  a4:=Tryz.isAgg4,
  z4:=Tryz.sizeOf4,
  v4:=Tryz.zeroValue4,
  t5:=Tryz.underlying5,
  a5:=Tryz.isAgg5,
  z5:=Tryz.sizeOf5,
  v5:=Tryz.zeroValue5,
  t9:=Tryz.underlying9,
  a9:=Tryz.isAgg9,
  z9:=Tryz.sizeOf9,
  v9:=Tryz.zeroValue9,
  t22:=Tryz.underlying155,
  a22:=Tryz.isAgg155,
  z22:=Tryz.sizeOf155,
  v22:=Tryz.zeroValue155,
  t25:=Tryz.underlying357,
  a25:=Tryz.isAgg357,
  z25:=Tryz.sizeOf357,
  v25:=Tryz.zeroValue357,
  t39:=Tryz.underlying323,
  a39:=Tryz.isAgg323,
  z39:=Tryz.sizeOf323,
  v39:=Tryz.zeroValue323,
  t45:=Tryz.underlying418,
  a45:=Tryz.isAgg418,
  z45:=Tryz.sizeOf418,
  v45:=Tryz.zeroValue418,
  t46:=Tryz.underlying419,
  a46:=Tryz.isAgg419,
  z46:=Tryz.sizeOf419,
  v46:=Tryz.zeroValue419,
  t50:=Tryz.underlying97,
  a50:=Tryz.isAgg97,
  z50:=Tryz.sizeOf97,
  v50:=Tryz.zeroValue97,
  t53:=Tryz.underlying319,
  a53:=Tryz.isAgg319,
  z53:=Tryz.sizeOf319,
  v53:=Tryz.zeroValue319,
  t55:=Tryz.underlying43,
  a55:=Tryz.isAgg43,
  z55:=Tryz.sizeOf43,
  v55:=Tryz.zeroValue43,
  t66:=Tryz.underlying466,
  a66:=Tryz.isAgg466,
  z66:=Tryz.sizeOf466,
  v66:=Tryz.zeroValue466,
  t70:=Tryz.underlying469,
  a70:=Tryz.isAgg469,
  z70:=Tryz.sizeOf469,
  v70:=Tryz.zeroValue469,
  t76:=Tryz.underlying489,
  a76:=Tryz.isAgg489,
  z76:=Tryz.sizeOf489,
  v76:=Tryz.zeroValue489,
  t77:=Tryz.underlying490,
  a77:=Tryz.isAgg490,
  z77:=Tryz.sizeOf490,
  v77:=Tryz.zeroValue490 }
end Go.Proofs.YtnkfkabokmcgoaaGreatDoor
namespace Go.SL
open Go.Proofs Go.Shelf Go.RowKit Go.Lib Go.Sort
variable{P:Program}{ρ:Ren}{α:Type}[Inhabited α]
def D5{g:FuncId}{cb:Array Value}{enc:α→List Value}{k:Nat}{cf:α→α→Int}(blk off size:Nat)(w:World)(hc:∀x y,aq P g (.agg (enc x).toArray :: .agg (enc y).toArray::cb.toList) [] (fun r H=>r = .int .i64 (cf x y)∧H=[])):CmpLays P g cb enc k cf blk off size w:=by
 intro m os dk hs x y
 generalize sortWorldK enc k w blk off m dk os=W
 have h1:Sat { tape:=W.tape,os:=W.os,output:=W.output,lo:=W.drawn } W ([]++[old W]):=⟨⟨rfl,Nat.le_refl _⟩,rfl,rfl,fun b=>W.heap[b]?,fun _ _ h=>h,cV fun _=>rfl⟩
 have h2:=(hc x y).2 _ W [old W] h1
 have he:(Value.agg (enc x).toArray::Value.agg (enc y).toArray::cb.toList).toArray = #[.agg (enc x).toArray,.agg (enc y).toArray]++cb:=by
  apply Array.ext';simp
 rw[he]at h2
 refine h2.mono ?_
 rintro e w'⟨v,H,rfl,⟨rfl,rfl⟩,N4⟩
 exact⟨rfl,Bm N4⟩
def uL(enc:α→List Value)(k:Nat)(hk:∀x,(enc x).length=k)(d:Array α):Sort.flatK enc k d=(d.toList.flatMap enc).toArray:=by
 refine Sort.ext_get! (by simp[bI hk]) fun t ht=>?_
 have ht':t<d.size*k:=by simpa using ht
 rw[Sort.get_flatK _ _ _ _ ht']
 have WV:0<k:=by
  rcases Nat.eq_zero_or_pos k with h|h
  ·subst h;simp at ht'
  ·exact h
 have hq:t/k<d.size:=Nat.div_lt_of_lt_mul (by rw[Nat.mul_comm];exact ht')
 have hx:d.toList[t/k]?=some d[t/k]! := by
  rw[getElem!_pos d (t/k) hq];simp[hq]
 have h1:=ck hk hx (t%k) (Nat.mod_lt _ WV)
 rw[Nat.div_add_mod' t k]at h1
 have cq:t%k<(enc d[t/k]!).length:=by rw[hk];exact Nat.mod_lt _ WV
 have MR:t<(d.toList.flatMap enc).length:=by rw[bI hk];simpa using ht'
 rw[getElem!_pos (enc d[t/k]!) (t%k) cq,getElem!_pos (d.toList.flatMap enc).toArray t (by simpa using MR)]
 rw[List.getElem?_eq_getElem MR,List.getElem?_eq_getElem cq]at h1
 exact(Option.some.inj h1).symm
def yx(L:SlLaysF0.n6 P ρ)(k:Nat)(aE:∀w,(isAgg (ρ.t 24)).run P w = .ok true w)(zE:∀w,(Go.sizeOf (ρ.t 24)).run P w = .ok k w)(enc:α→List Value)(hk:∀x,(enc x).length=k)(h1:∀x,∀v∈enc x,v.oneCell'=true)(cf:α→α→Int)(hO:SWO (ltOf cf))(g:FuncId)(e:TypeId)(v:Value)(l:List α)(Oe:P.funcs[ρ.f 6]?.map ix=some true)(eg:∀args w,(callFunc g args).run P w = .ok (.enter g args) w)(hc:∀x y,aq P g [.agg (enc x).toArray,.agg (enc y).toArray] [] (fun r H=>r = .int .i64 (cf x y)∧H=[]))(iF:l.length<4611686018427387904)(hT:∀x y,(ltOf cf) x y=false→(ltOf cf) y x=false→x=y) :
  aq P (ρ.f 6) [v,.func (.func g) #[] #[]] [aI e k v l.length (l.flatMap enc)] (fun r H=>r = .tuple #[]∧H=[aI e k v l.length ((l.mergeSort fun x y => !(ltOf cf) y x).flatMap enc)]):=by
 refine⟨Oe,fun G w F hs=>?_⟩
 obtain⟨t,o,u,hp,zU,hA,hB,⟨hl,gB⟩,Hd,hd,he⟩:=hs
 rcases gB with⟨a0,rfl,hn,uE⟩|⟨b,oo,cap,pre,bL,rfl,jq,hn,gg,uA⟩
 ·have VO:l=[]:=List.eq_nil_of_length_eq_zero hn
  subst VO
  refine(AnyF.slices_SortFunc_none (P:=P) (ρ:=ρ) { L with } a0 0 (.func (.func g) #[] #[]) w).mono ?_
  rintro e' w'⟨rfl,rfl⟩
  exact⟨_,_,rfl,⟨rfl,rfl⟩,t,o,u,hp,zU,hA,hB,⟨by simp,.inl ⟨a0,rfl,rfl,uE⟩⟩,Hd,hd,he⟩
 ·have vI:Sat G w (ag b (cl (pre++l.flatMap enc++bL) e)::F):=⟨t,o,u,hp,zU,hA,hB,uA,Hd,hd,he⟩
  have hb:=vI.get (i:=0) rfl
  have cq:=vI.lt (i:=0) rfl
  subst jq
  have hH:Sort.HoldsK enc k w b pre.length l.toArray:=by
   unfold Sort.HoldsK
   rw[uL enc k hk]
   exact qX hb
  have hS:=AnyQ.slices_SortFunc_total L k aE zE enc hk h1 cf hO g #[] b pre.length cap l.toArray w eg (D5 b pre.length l.toArray.size w hc) hH cq (by simpa using iF) hT
  refine(by simpa using hS:Calls P (ρ.f 6) #[.slice (some ⟨b,pre.length,none⟩) l.length cap,.func (.func g) #[] #[]] w _).mono ?_
  rintro e' w'⟨rfl,n,os,rfl⟩
  refine⟨_,_,rfl,⟨rfl,rfl⟩,?_⟩
  have sE:(l.mergeSort fun x y => !(ltOf cf) y x).length=l.length:=List.length_mergeSort _
  have h3:=(vI.ahead n).Vf (Sort.putCells id pre.length (Sort.flatK enc k (l.mergeSort fun x y => !(ltOf cf) y x).toArray)) (l':=pre++(l.mergeSort fun x y => !(ltOf cf) y x).flatMap enc++bL) (by
   rw[uL enc k hk]
   exact lY _ _ _ _ (by rw[bI hk,bI hk,sE]))
  have h4:=h3.grown os
  refine h4.cn ?_
  exact gN rfl hn (by rw[bI hk,sE,← hl];exact gg) (by rw[bI hk,sE]) F
end Go.SL
namespace Go.Proofs.YtnkfkabokmcgoaaGreatDoor
open Go Go.SL
structure Wt where
 id:Int
 sl:Int
deriving DecidableEq
instance:Inhabited Wt:=⟨⟨0,0⟩⟩
def Wt.rt(x:Wt):Rt:=⟨x.id,x.sl,true⟩
def wC(x:Wt):List Value:=rC x.rt
def IH(x:Wt):(wC x).length=3:=rfl
def cfW(x y:Wt):Int:=cfR x.rt y.rt
def before(x y:Wt):Bool:=decide (y.sl<x.sl∨(x.sl=y.sl∧x.id<y.id))
def Wn(a b c d:Int):Ik [iG b a,iG c d]<0↔(b<a∨(a=b∧c<d)):=by
 simp only[Ik,iG]
 by_cases h1:b<a
 ·simp[h1]
 ·by_cases h2:a<b
  ·simp[h1,h2];omega
  ·have h3:a=b:=by omega
   by_cases h4:c<d
   ·simp[h3,h4]
   ·by_cases h5:d<c
    ·simp[h3,h4,h5]
    ·simp[h3,h4,h5]
def D6:Go.Proofs.ltOf cfW=before:=by
 funext x y
 exact decide_eq_decide.2 (Wn x.sl y.sl x.id y.id)
def Ef:Go.Sort.SWO before where
 irrefl x:=by simp[before]
 trans x y z h1 h2:=by simp[before]at *;omega
 ntrans x y z h1 h2:=by simp[before]at *;omega
def Ee(x y:Wt)(h1:before x y=false)(h2:before y x=false):x=y:=by
 cases x;cases y;simp[before]at *;omega
def mY(l:List Rt):List Wt:=(l.filter (·.w)).map fun x=>⟨x.id,x.sl⟩
def zZ(l:List Rt):rV (l.filter fun x => !!x.w)=(mY l).flatMap wC∧(l.filter fun x => !!x.w).length=(mY l).length:=by
 simp only[Bool.not_not]
 refine⟨?_,by simp[mY]⟩
 unfold rV mY
 rw[List.flatMap_map]
 induction l with
 | nil=>rfl
 | cons x l ih =>
  rw[List.filter_cons]
  split
  ·rename_i h
   rw[List.flatMap_cons,List.flatMap_cons,ih]
   congr 1
   unfold wC Wt.rt rC
   simp only
   rw[h]
  ·exact ih
def eR(l:List Rt):List Wt:=(mY l).mergeSort fun x y => !before y x
def tX(l:List Rt):(eR l).length=(mY l).length:=List.length_mergeSort _
def wH(l:List Rt):(mY l).length≤l.length:=by unfold mY;rw[List.length_map];exact List.length_filter_le _ _
def NQ(s:List Wt):s.flatMap wC=rV (s.map Wt.rt):=by unfold rV;rw[List.flatMap_map];rfl
def toNat_lt{z:Int}(h:0≤z∧z<18446744073709551616):z.toNat<18446744073709551616:=by omega
def Mx(z:Int):(nx z).toNat<18446744073709551616:=toNat_lt (l4 z)
abbrev Res:=List Int × Int × Int
def nK(l:List Rt)(bD:Int):List Int:=gy (((eR l).take (min (bD-1) (eR l).length).toNat).map Wt.id)
def gH(l:List Rt)(bD:Int):List Int:=gy (((eR l).drop (min (bD-1) (eR l).length).toNat).map Wt.id)
def Fv(seed:Int)(n:Nat):Nat:=gq (nx (fN seed)).toNat n
def kW(o:List Int)(eZ:Int)(turn:Bool)(seed:Int):Int:=if turn=true∨eZ ∉ o then o.getD (Fv seed o.length) 0 else eZ
def cE(l:List Rt)(bD eZ:Int)(turn:Bool)(seed:Int):Res :=
 if bD<1∨16<bD then([],0,1)else if fE l≠0 then([],0,fE l)else
 if gH l bD=[]then(nK l bD,0,0)else
 (gy (nK l bD++[kW (gH l bD) eZ turn seed]),kW (gH l bD) eZ turn seed,0)
attribute [local irreducible] J K aq Ends ag aI aC bF aW aP a6 aZ bN gq nx fN
def zu(v:Value)(l:List Wt)(hl:l.length≤1000000000) :
  aq Tryz.prog 255 [v,.func (.func 256) #[] #[]] [aI 163 3 v l.length (l.flatMap wC)] (fun r H=>r = .tuple #[]∧H=[aI 163 3 v l.length ((l.mergeSort fun x y => !before y x).flatMap wC)]):=by
 have h:=yx (ρ:=wS) Yw 3 Tryz.isAgg163 Tryz.sizeOf163 wC (fun _=>rfl) (fun x v hv=>by simp[wC,rC]at hv;rcases hv with rfl|rfl|rfl <;> rfl) cfW (by rw[D6];exact Ef) 256 163 v l ae (enters_of Tryz.func256 ae rfl) (fun x y=>Cf x.rt y.rt) ai (by rw[D6];exact Ee)
 rw[D6]at h
 exact h
def ED(A:HP)(v:Value)(l:List Rt)(bD eZ:Int)(turn:Bool)(seed:Int)(hv:Vw A v l.length (rV l))(hl:l.length≤9223372036854775807)(hs:i64 bD)(ht:i64 eZ) :
  aq Tryz.prog 153 [v,.int .i64 bD,.int .i64 eZ,.bool turn,.int .u64 seed] [A]
   (fun r H=>∃w,r = .tuple #[w,.int .i64 (cE l bD eZ turn seed).2.1,.int .i64 (cE l bD eZ turn seed).2.2]∧H=[aI 3 1 w (cE l bD eZ turn seed).1.length (iV (cE l bD eZ turn seed).1),A]):=by
 obtain⟨a,c0,rfl⟩:=hv.shape
 obtain⟨res,kj⟩:∃res,res=cE l bD eZ turn seed:=⟨_,rfl⟩
 rw[← kj]
 unfold cE at kj
 refine aq.aj Tryz.func153 Tryz.ntmps153 fun G F R hE=>?_
 refine go ?_
 refine dw zr zr zr zr ?_ ?_
 ·intro h
  rw[if_pos (.inl h)]at kj
  subst kj
  refine go ?_
  refine ak (bj 3 1 none _) ?_
  refine ad hE Tryz.func153 zr zr ⟨_,rfl,rfl⟩
 intro h1
 refine go ?_
 refine au zr zr ?_ ?_
 ·intro h
  rw[if_pos (.inr h)]at kj
  subst kj
  refine go ?_
  refine ak (bj 3 1 none _) ?_
  refine ad hE Tryz.func153 zr zr ⟨_,rfl,rfl⟩
 intro h2
 rw[if_neg ai]at kj
 refine go ?_
 refine aw (D3 A (.slice a l.length c0) l hv hl) ?_
 refine go ?_
 refine au zr zr ?_ ?_
 ·intro h
  rw[if_pos h]at kj
  subst kj
  refine go ?_
  refine ak (bj 3 1 none _) ?_
  refine ad hE Tryz.func153 zr zr ⟨_,rfl,rfl⟩
 intro h3
 rw[if_neg h3]at kj
 have On:l.length≤64:=by
  rcases Nat.lt_or_ge 64 l.length with h|h
  ·exact absurd (show fE l≠0 from by unfold fE;rw[if_pos (.inl h)];decide) h3
  ·exact h
 have lg:=wH l
 refine go ?_
 refine aF (LJ A (.slice a l.length c0) l hv ai) ?_
 rintro w1 _ rfl
 refine aL 0 rfl ?_
 rintro wa wc rfl
 refine go ?_
 refine aS (ao.jw _) ?_
 refine aF (wA (.slice wa l.length wc) l emp 254 [] (fun x => !x.w) ai (fun x _=>aq.DS emp (Cg x))) ?_
 rintro w2 _ rfl
 rw[(zZ l).1,(zZ l).2]
 refine aL 0 rfl ?_
 rintro va vc rfl
 refine go ?_
 refine aw (zu (.slice va (mY l).length vc) (mY l) ai) ?_
 change J _ _ _ _ _ _ _ _ _ _ (aI _ 3 _ _ ((eR l).flatMap wC)::_)
 refine go ?_
 rw[← tX l]
 have Iu:=tX l
 refine NI 0 rfl ?_
 intro hle mF dt
 obtain⟨k,hk⟩:∃k:Nat,(k:Int)=min (bD-1) (eR l).length:=⟨(min (bD-1) (eR l).length).toNat,ai⟩
 have MW:k≤(eR l).length:=by omega
 have hf:nK l bD=gy (((eR l).take k).map Wt.id):=by unfold nK;rw[← hk,Int.toNat_natCast]
 have ho:gH l bD=gy (((eR l).drop k).map Wt.id):=by unfold gH;rw[← hk,Int.toNat_natCast]
 have lB:Vw (aI 163 3 (.slice va (eR l).length vc) (eR l).length ((eR l).flatMap wC)) (.slice (sliceAt va vc 0 3) k vc) (((eR l).take k).map Wt.rt).length (rV (((eR l).take k).map Wt.rt)):=by
  have:=dt.aaa (s:=3) k
  rw[← po IH (eR l) k MW,NQ ((eR l).take k)]at this
  rwa[List.length_map,List.length_take,Nat.min_eq_left MW]
 have p5:Vw (aI 163 3 (.slice va (eR l).length vc) (eR l).length ((eR l).flatMap wC)) (.slice (sliceAt va vc k 3) ((eR l).length-k) (vc-k)) (((eR l).drop k).map Wt.rt).length (rV (((eR l).drop k).map Wt.rt)):=by
  have:=dt.Hr mF hle k MW
  have hd:((eR l).flatMap wC).drop (k*3)=((eR l).drop k).flatMap wC:=by
   have h1:(eR l).flatMap wC=((eR l).take k).flatMap wC++((eR l).drop k).flatMap wC:=by rw[← List.flatMap_append,List.take_append_drop]
   have h2:(((eR l).take k).flatMap wC).length=k*3:=by rw[bI IH,List.length_take,Nat.min_eq_left MW]
   rw[h1,← h2,List.drop_left]
  rw[hd,NQ ((eR l).drop k)]at this
  rwa[List.length_map,List.length_drop]
 have xF:=E9 _ _ _ lB (by rw[List.length_map,List.length_take];omega)
 have L1:=E9 _ _ _ p5 (by rw[List.length_map,List.length_drop];omega)
 rw[List.map_map,show Rt.id ∘ Wt.rt=Wt.id from rfl,List.length_map]at xF L1
 rw[← hf]at xF
 rw[← ho]at L1
 have qD:(nK l bD).length=((eR l).take k).length:=by rw[hf,eP,List.length_map]
 have Zb:(gH l bD).length=((eR l).drop k).length:=by rw[ho,eP,List.length_map]
 rw[← qD]at xF
 rw[← Zb]at L1
 rw[List.length_take]at qD
 rw[List.length_drop]at Zb
 clear hf ho
 generalize nK l bD=first at *
 generalize gH l bD=others at *
 refine aV 15 ((.int .i64 (k:Int))) rfl ((congrArg (Value.int .i64) ai)) ?_
 refine aJ (fun w=>Sat G w ([aI 163 3 (.slice va (eR l).length vc) (eR l).length ((eR l).flatMap wC)])) (cM 0 3 (cM 4 3 (.act 3 (.act 7 (.st 8 (.st 9 .nil)))))) rfl ae ae ae cY ?_
 refine go ?_
 refine bu zr zr zr zr zr zr zr ai ai (.inr ai) ?_
 ((refine aD 41 ((.slice (sliceAt va vc 0 3) k vc)) rfl ((by simp;rfl)) ?_))
 refine go ?_
 refine bu zr zr zr zr zr zr zr ai ai (.inl rfl) ?_
 ((refine aD 45 ((.slice (sliceAt va vc k 3) ((eR l).length-k) (vc-k))) rfl ((by simp;rfl)) ?_))
 refine go ?_
 refine dx xF ?_
 rintro q1 _ rfl
 refine go ?_
 refine dx L1 ?_
 rintro q2 _ rfl
 refine aL 0 rfl ?_
 rintro oa oc rfl
 refine aL 2 rfl ?_
 rintro fa fc rfl
 refine go ?_
 refine au zr zr ?_ ?_
 ·intro h0
  have ho0:others=[]:=List.eq_nil_of_length_eq_zero ai
  rw[if_pos ho0]at kj
  subst kj
  refine go ?_
  refine ad hE Tryz.func153 zr zr ⟨_,rfl,rfl⟩
 intro h0
 have Kh:0<others.length:=by omega
 rw[if_neg (fun e=>by rw[e]at Kh;simp at Kh)]at kj
 refine gT rfl ?_
 refine yk 2 (fun t:Int=>t=kW others eZ turn seed) (fun t=>[(2,.int .i64 t),(16,.slice fa first.length fc)]) (fun t=>aI 3 1 (.slice fa first.length fc) first.length (iV first)::A::F) rfl ?_ ?_
 ·rintro t rfl
  generalize kW others eZ turn seed=t at *
  subst kj
  refine go ?_
  refine al (cs:=iV [t]) zr zr zr zr zr zr zr zr zr bh ?_
  intro b1
  refine go ?_
  refine aO (mm:=1) (news:=iV [t]) 1 0 zr zr zr zr zr zr zr zr zr zr zr zr (Vw.ag rfl) rfl (qU _) ai (by show(_+1)*8≤_;omega) (fun _=>rfl) bh ?_
  intro v1
  rw[show iV first++iV [t]=iV (first++[t])from by simp[iV],show first.length+1=(first++[t]).length from by simp]
  refine aL 1 rfl ?_
  rintro Ih Ig rfl
  refine go ?_
  have Ke:=xW (.slice Ih (first++[t]).length Ig) (first++[t]) (by simp;omega)
  rw[← eP (first++[t])]at Ke
  rw[← eP (first++[t])]
  refine aw Ke ?_
  refine go ?_
  refine ad hE Tryz.func153 zr zr ⟨_,rfl,rfl⟩
 ·intro tail
  have nA:=rp (x:=(nx (fN seed)).toNat) (n:=others.length) (Mx _) Kh
  have G9:=fun b=>rH b seed others.length ai
  generalize hd:gq (nx (fN seed)).toNat others.length=d at nA G9
  obtain⟨x,hx⟩:∃x,others[d]?=some x:=⟨others[d],by simp[nA]⟩
  have hxd:others.getD (Fv seed others.length) 0=x:=by
   rw[show Fv seed others.length=d from hd,List.getD_eq_getElem?_getD,hx];rfl
  have Og:turn=true∨eZ ∉ others→x=kW others eZ turn seed:=fun h=>by unfold kW;rw[if_pos h,hxd]
  refine rA 0 rfl Kh ?_
  intro ob oo YA he MS Bi DA
  simp only[Value.slice.injEq,true_and]at he
  obtain⟨rfl,rfl⟩:=he
  cases turn with
  | true =>
   have Is:=Og (.inl rfl)
   refine go ?_
   refine aF (kK seed) ?_
   rintro _ _⟨bs,rfl,rfl⟩
   refine go ?_
   refine aw (G9 bs) ?_
   refine go ?_
   refine bC d zr zr zr zr zr zr zr zr nA ?_
   refine aN 1 d zr zr zr DA rfl (iP hx) zr zr ?_
   refine qE ?_
   refine ml tail x rfl Is bQ ah
  | false =>
   refine go ?_
   refine aw (oT _ (.slice (some ⟨ob,oo,none⟩) others.length oc) others eZ DA ai) ?_
   by_cases dF:eZ∈others
   ·rw[decide_eq_true dF]
    have Is:eZ=kW others eZ false seed:=by unfold kW;rw[if_neg (by rintro(h|h);cases h;exact h dF)]
    refine qE ?_
    refine iU zr zr ?_
    refine ml tail eZ rfl Is bQ ah
   ·rw[decide_eq_false dF]
    have Is:=Og (.inr dF)
    refine go ?_
    refine aF (kK seed) ?_
    rintro _ _⟨bs,rfl,rfl⟩
    refine go ?_
    refine aw (G9 bs) ?_
    refine go ?_
    refine bC d zr zr zr zr zr zr zr zr nA ?_
    refine aN 1 d zr zr zr DA rfl (iP hx) zr zr ?_
    refine qE ?_
    refine ml tail x rfl Is bQ ah
end Go.Proofs.YtnkfkabokmcgoaaGreatDoor
namespace Go.Proofs.YtnkfkabokmcgoaaGreatDoor
open Go Go.SL
def whM(mo:Option Nat)(may:List Int):HP:=match mo with
 | none=>emp
 | some bm=>aC (Value.int .i64) bm (Ai may)
def wh(b:Nat)(s e r t:Int)(mo:Option Nat)(may:List Int):HP:=star (ag b (cl [.int .i64 s,.int .i64 e,.int .i64 r,.int .i64 t,.map mo] 149)) (whM mo may)
def yT(s e:Int):Int:=if s<1∨16<s∨e<1∨1000<e then 1 else 0
def Gg{l:List Rt}(h:fE l=0):l.length≤64:=by
 unfold fE at h
 split at h
 ·cases h
 ·rename_i h1
  omega
def Hv{l:List Rt}{bD eZ:Int}{turn:Bool}{seed:Int}(h:(cE l bD eZ turn seed).2.2=0):fE l=0:=by
 unfold cE at h
 split at h
 ·cases h
 ·rename_i h1
  split at h
  ·rename_i h2;exact absurd h h2
  ·rename_i h2;exact Decidable.not_not.1 h2
def DT(l:List Rt)(bD:Int):(nK l bD).length≤l.length:=by
 have h:=tX l
 have h2:=wH l
 unfold nK
 rw[eP,List.length_map,List.length_take]
 omega
def Bx(l:List Rt)(bD eZ:Int)(turn:Bool)(seed:Int):(cE l bD eZ turn seed).1.length≤l.length+1:=by
 have h:=DT l bD
 unfold cE
 split
 ·simp
 ·split
  ·simp
  ·split
   ·simp only;omega
   ·simp only[eP,List.length_append,List.length_singleton];omega
attribute [local irreducible] J K aq Ends ag aI aC bF aW aP a6 aZ bN gq nx fN cE eR
def KR(s e:Int):aq Tryz.prog 26 [.int .i64 s,.int .i64 e] [] (fun r H=>(yT s e=1∧r = .tuple #[.pointer none,.int .i64 1]∧H=[])∨(yT s e=0∧∃b,r = .tuple #[ptr b,.int .i64 0]∧H=[wh b s e 0 0 none []])):=by
 refine aq.aj Tryz.func26 Tryz.ntmps26 fun G F R hE=>?_
 repeat'(first|(with_reducible intro iI)|refine fq ?_|refine dw zr zr zr zr ?_ ?_|refine au zr zr ?_ ?_)
 ·((refine ad hE Tryz.func26 zr zr (.inl ⟨by unfold yT;rw[if_pos ai],rfl,rfl⟩)))
 ·((refine ad hE Tryz.func26 zr zr (.inl ⟨by unfold yT;rw[if_pos ai],rfl,rfl⟩)))
 ·((refine ad hE Tryz.func26 zr zr (.inl ⟨by unfold yT;rw[if_pos ai],rfl,rfl⟩)))
 ·((refine ad hE Tryz.func26 zr zr (.inl ⟨by unfold yT;rw[if_pos ai],rfl,rfl⟩)))
 refine bp zr zr bh ?_
 intro b
 refine go ?_
 refine ak (ao.jw _) ?_
 refine ak (ao.pick [1,0] rfl) ?_
 refine ak (ao.join _ _ _) ?_
 ((refine ad hE Tryz.func26 zr zr (.inr ⟨by unfold yT;rw[if_neg ai],b,rfl,rfl⟩)))
def HJ(A:HP)(v:Value)(l:List Rt)(b:Nat)(s e r t seed:Int)(mo:Option Nat)(may:List Int)(hv:Vw A v l.length (rV l))(hl:l.length≤9223372036854775807)(hs:i64 s)(ht:i64 t)(he:1≤e)(hr:0≤r∧r≤1000000000) :
  aq Tryz.prog 71 [ptr b,v,.int .u64 seed] [wh b s e r t mo may,A]
   (fun u H=>((cE l s t (decide (r%e=0)) seed).2.2≠0∧u = .tuple #[.slice none 0 0,.int .i64 (cE l s t (decide (r%e=0)) seed).2.2]∧H=[wh b s e r t mo may,A]) ∨
    ((cE l s t (decide (r%e=0)) seed).2.2=0∧∃w bm,u = .tuple #[w,.int .i64 0]∧H=[wh b s e (r+1) (cE l s t (decide (r%e=0)) seed).2.1 (some bm) (cE l s t (decide (r%e=0)) seed).1,aI 3 1 w (cE l s t (decide (r%e=0)) seed).1.length (iV (cE l s t (decide (r%e=0)) seed).1),A])):=by
 have Zj:iz Tryz.prog 3 (Value.int .i64):=pg Tryz.underlying3
 obtain⟨a,c0,rfl⟩:=hv.shape
 have h1:=ED A (.slice a l.length c0) l s t (decide (r%e=0)) seed hv hl hs ht
 have h65:(cE l s t (decide (r%e=0)) seed).2.2=0→(cE l s t (decide (r%e=0)) seed).1.length≤65:=fun h=>by
  have h3:=Gg (Hv h)
  have h4:=Bx l s t (decide (r%e=0)) seed
  omega
 generalize cE l s t (decide (r%e=0)) seed=res at h1 h65 ⊢
 obtain⟨rl,rt,re⟩:=res
 simp only at h1 h65 ⊢
 refine aq.aj Tryz.func71 Tryz.ntmps71 fun G F R hE=>?_
 refine ak (ao.part _ _ _) (go ?_)
 refine aJ (fun w=>Sat G w ([ag b (cl [.int .i64 s,.int .i64 e,.int .i64 r,.int .i64 t,.map mo] 149)])) (cM 0 20 (.act 20 (cM 21 7 .nil))) rfl ae ae ae cY ?_
 (repeat(first|refine fq ?_|refine sw zr zr zr ai ai ?_))
 ((refine cP zr zr zr zr (h1) ah ?_ (fun _ _ w hp hw=>by obtain⟨_,rfl,rfl⟩:=hp;exact hw.cn ah)))
 rintro _ _⟨w,rfl,rfl⟩
 refine go ?_
 by_cases hz:re=0
 case neg =>
  refine aV 39 ((.bool true)) rfl ((congrArg Value.bool (decide_eq_true hz))) (go ?_)
  refine ak (ao.pick [2,3] rfl) ?_
  refine ak (ao.join _ _ _) ?_
  refine ad hE Tryz.func71 zr zr (.inl ⟨hz,rfl,rfl⟩)
 subst hz
 have acy:=h65 rfl
 refine cL 0 rfl ?_
 rintro wa wc rfl
 refine go ?_
 refine dN rfl bh ?_
 intro bm
 refine aS (ao.fold (B:=[_]) (A:=aC (Value.int .i64) bm (Ai [])) (fun h hs=>⟨h,sub.refl h,fO (Value.int .i64) bm h (cW hs)⟩)) ?_
 refine aS (ao.pick [3,0,1,2] rfl) (go ?_)
 refine bn (fun i:Nat=>i≤rl.length) (fun i=>rl.length-i) (fun i=>[(0,ptr b),(8,.slice wa rl.length wc),(56,.slice wa rl.length wc),(57,.int .i64 rl.length),(58,.int .i64 (i:Int))]) (fun i=>ag b (cl [.int .i64 s,.int .i64 e,.int .i64 (r+1),.int .i64 rt,.map (some bm)] 149)::aC (Value.int .i64) bm (Ai (rl.take i))::aI 3 1 (.slice wa rl.length wc) rl.length (iV rl)::A::F) 0 (Nat.zero_le _) rfl bQ ah ?_
 rintro i hi ih
 refine go ?_
 refine au zr zr ?_ ?_
 ·intro cq
  have dq:i<rl.length:=by omega
  obtain⟨x,hx⟩:∃x,rl[i]?=some x:=⟨rl[i],by simp[dq]⟩
  refine rA 2 rfl ai ?_
  intro ob oo YA he MS Bi DA
  simp only[Value.slice.injEq,true_and]at he
  obtain⟨rfl,rfl⟩:=he
  refine go ?_
  refine bC i zr zr zr zr zr zr zr zr dq ?_
  refine aN 2 i zr zr zr DA rfl (iP hx) zr zr (go ?_)
  refine cy (key:=x) 1 Zj eW zr zr zr zr zr zr zr zr ?_
  rw[← sL,show rl.take i++[x]=rl.take (i+1)from by rw[List.take_add_one,hx];rfl]
  refine go ?_
  refine aK ih (i+1) rfl ai ai bQ ah
 intro ek
 have ko:i=rl.length:=by omega
 subst ko
 rw[List.take_length]
 refine go ?_
 refine ak (ao.join _ _ _) ?_
 refine ad hE Tryz.func71 zr zr (.inr ⟨rfl,_,bm,rfl,rfl⟩)
end Go.Proofs.YtnkfkabokmcgoaaGreatDoor
namespace Go.Proofs.YtnkfkabokmcgoaaGreatDoor
open Go Go.SL
structure Wl where
 t:Int
 mo:Option Nat
 may:List Int
def pB(hb:Nat)(s r:Int):HP:=fun h=>∃y:Wl,(i64 y.t∧(y.mo=none→y.may=[]))∧Sep [wh hb s 3 r y.t y.mo y.may] h
def IF(hb:Nat)(s r:Int):∀h,pB hb s r h→∃y:Wl,(i64 y.t∧(y.mo=none→y.may=[]))∧Sep [wh hb s 3 r y.t y.mo y.may] h:=fun h hs=>hs
def og(hb:Nat)(s r t:Int)(mo:Option Nat)(may:List Int)(ht:i64 t)(hm:mo=none→may=[])(H:List HP):ao (wh hb s 3 r t mo may::H) (pB hb s r::H) :=
 ao.fold (A:=pB hb s r) (B:=[_]) fun h hs=>⟨h,sub.refl h,⟨t,mo,may⟩,⟨ht,hm⟩,hs⟩
def Mp{l:List Rt}{u:Wt}(h:u∈eR l):∃x∈l,x.id=u.id:=by
 unfold eR mY at h
 rw[List.mem_mergeSort]at h
 obtain⟨x,hx,rfl⟩:=List.mem_map.1 h
 exact⟨x,(List.mem_filter.1 hx).1,rfl⟩
def By{l:List Rt}{s t:Int}{turn:Bool}{seed:Int}(ht:i64 t)(hl:∀x∈l,i64 x.id):i64 (cE l s t turn seed).2.1:=by
 have hz:i64 0:=by decide
 have ho:∀z∈gH l s,i64 z:=fun z h=>by
  unfold gH at h
  obtain⟨u,hu,rfl⟩:=List.mem_map.1 ((show(gy _).Perm _ from List.mergeSort_perm _ _).mem_iff.1 h)
  obtain⟨x,hx,he⟩:=Mp (List.mem_of_mem_drop hu)
  exact he ▸ hl x hx
 unfold cE
 split
 ·exact hz
 split
 ·exact hz
 split
 ·exact hz
 show i64 (kW (gH l s) t turn seed)
 unfold kW
 split
 ·rw[List.getD_eq_getElem?_getD]
  cases hx:(gH l s)[Fv seed (gH l s).length]? with
  | none=>exact hz
  | some z=>exact ho z (List.mem_of_getElem? hx)
 ·exact ht
def CR(l:List Int):List Rt:=l.map fun k=>⟨k,0,true⟩
def Jc{l:List Int}{i:Nat}{x:Int}(h:l[i]?=some x):rV (CR (l.take i))++rC ⟨x,0,true⟩=rV (CR (l.take (i+1))):=by
 rw[List.take_add_one,h]
 simp[rV,CR]
def Mi(l:List Int):(CR l).length=l.length:=List.length_map _
attribute [local irreducible] J K aq Ends ag aI aC bF aW aP a6 aZ bN aB kP bM jN pB cE eR wh
section
variable(nb:Nat)(id:Int)(S:Cs)(st tb bv kb hb ms mg:Nat)(pv:Value)(br:Bool)
def Dd(g:List Int)(hgn:g.Nodup)(hgl:g.length≤64)(Co:∀k∈g,i64 k)(r seed:Int)(hr:0≤r∧r≤1000000)(hs:i64 S.bD) :
  aq Tryz.prog 31 [ptr nb,.int .u64 seed] [ag nb (cl (dG id S st tb bv kb hb pv ms mg br) 73),aC (Value.int .i64) mg (gE g),pB hb S.bD r]
  (fun u H=>∃r':Int,u = .tuple #[]∧r≤r'∧r'≤r+1∧H=[ag nb (cl (dG id S st tb bv kb hb pv ms mg br) 73),aC (Value.int .i64) mg (gE []),pB hb S.bD r']):=by
 have hgk:=Ft g
 have acq:=KE g
 refine aq.aj Tryz.func31 Tryz.ntmps31 fun G F R hE=>?_
 refine go ?_
 refine aF (Hk mg) ?_
 rintro _ _⟨bx,rfl,rfl⟩
 refine go ?_
 ((refine aF (kO 152 [ptr bx] (gE g).length [ag bx (cl [.map (some mg)] 65),aC (Value.int .i64) mg (gE g)] [aC (Value.int .i64) mg (gE g)] (fun xs=>xs.Perm ((gE g).map (·.1))) ai (DR bx mg (gE g) (by rw[hgk];exact hgn)) (fun xs hx=>by rw[hx.length_eq,List.length_map];omega)) ?_))
 rintro w _⟨xs,GM,rfl⟩
 rw[hgk]at GM
 obtain⟨L,hL⟩:∃L,L=gy xs:=⟨_,rfl⟩
 have hLl:xs.length=L.length:=by rw[hL,eP]
 have Dz:=GM.length_eq
 have hLg:∀x∈L,x∈g:=fun x hx=>GM.mem_iff.1 ((show(gy xs).Perm xs from List.mergeSort_perm _ _).mem_iff.1 (hL ▸ hx))
 rw[← hL,hLl]
 refine aL 0 rfl ?_
 rintro wa wc rfl
 refine go ?_
 refine bn (fun y:Nat × Option Addr × Nat=>y.1≤L.length) (fun y=>L.length-y.1)
  (fun y=>[(0,ptr nb),(1,.int .u64 seed),(4,.slice y.2.1 y.1 y.2.2),(13,.slice wa L.length wc),(14,.int .i64 (L.length:Int)),(15,.int .i64 (y.1:Int))])
  (fun y=>aI 163 3 (.slice y.2.1 y.1 y.2.2) y.1 (rV (CR (L.take y.1)))::ag nb (cl (dG id S st tb bv kb hb pv ms mg br) 73)::aC (Value.int .i64) mg (gE g)::aI 3 1 (.slice wa L.length wc) L.length (iV L)::pB hb S.bD r::F) (0,none,0) (Nat.zero_le _) rfl bQ (ao.trans (bj 163 3 none _) ah) ?_
 rintro⟨i,ra,rc⟩ hi ih
 simp only at hi
 refine go ?_
 refine au zr zr ?_ ?_
 case' refine_2 =>
  intro ek
  simp only at ek
  have hiL:i=L.length:=by omega
  subst hiL
  simp only[List.take_length]
  refine ak (H':=pB hb S.bD r::aI 163 3 (.slice ra L.length rc) L.length (rV (CR L))::ag nb (cl (dG id S st tb bv kb hb pv ms mg br) 73)::aC (Value.int .i64) mg (gE g)::F) ah ?_
  refine cI (IF hb S.bD r) ?_
  rintro⟨t,mo,may⟩⟨ht,hm⟩
  simp only at ht hm ⊢
  refine eu 1 rfl ?_
  intro hv
  have Iu:(CR L).length=L.length:=Mi L
  have hci:=By (l:=CR L) (s:=S.bD) (t:=t) (turn:=decide (r%3=0)) (seed:=seed) ht (fun x hx=>by
   obtain⟨k,hk,rfl⟩:=List.mem_map.1 hx
   exact Co k (hLg k hk))
  have p5:Vw (aI 163 3 (.slice ra L.length rc) L.length (rV (CR L))) (.slice ra L.length rc) (CR L).length (rV (CR L)):=by rw[Iu];exact hv
  have GP:=HJ _ (.slice ra L.length rc) (CR L) hb S.bD 3 r t seed mo may p5 ai hs ht ai ai
  refine go ?_
  refine aF GP ?_
  rintro _ _ (⟨fy,rfl,rfl⟩|⟨h0,w',bm,rfl,rfl⟩)
  ·refine aS (H':=pB hb S.bD r::aC (Value.int .i64) mg (gE g)::ag nb (cl (dG id S st tb bv kb hb pv ms mg br) 73)::F) (ao.trans (H2:=wh hb S.bD 3 r t mo may::aC (Value.int .i64) mg (gE g)::ag nb (cl (dG id S st tb bv kb hb pv ms mg br) 73)::F) ah (og hb S.bD r t mo may ht hm _)) (go ?_)
   refine vv (U:=aU) (kv:=Value.int .i64) (es:=gE g) 1 eW zr zr zr zr zr (go ?_)
   refine bB hE Tryz.func31 rfl _ rfl ⟨r,rfl,ai,ai,rfl⟩ ah
  ·refine aS (H':=pB hb S.bD (r+1)::aC (Value.int .i64) mg (gE g)::ag nb (cl (dG id S st tb bv kb hb pv ms mg br) 73)::F) (ao.trans (H2:=wh hb S.bD 3 (r+1) (cE (CR L) S.bD t (decide (r%3=0)) seed).2.1 (some bm) (cE (CR L) S.bD t (decide (r%3=0)) seed).1::aC (Value.int .i64) mg (gE g)::ag nb (cl (dG id S st tb bv kb hb pv ms mg br) 73)::F) ah (og hb S.bD (r+1) _ (some bm) _ hci (fun h=>by cases h) _)) ?_
   refine go ?_
   refine vv (U:=aU) (kv:=Value.int .i64) (es:=gE g) 1 eW zr zr zr zr zr (go ?_)
   refine bB hE Tryz.func31 rfl _ rfl ⟨r+1,rfl,ai,ai,rfl⟩ ah
 intro cq
 simp only at cq
 have dq:i<L.length:=by omega
 obtain⟨x,hx⟩:∃x,L[i]?=some x:=⟨L[i],by simp⟩
 have hxg:=hLg x (List.mem_of_getElem? hx)
 have ki:=Jc hx
 have A9:=Fs g x
 rw[if_pos hxg]at A9
 refine rA 3 rfl ai ?_
 intro ob oo YA he MS Bi DA
 simp only[Value.slice.injEq,true_and]at he
 obtain⟨rfl,rfl⟩:=he
 refine go ?_
 refine bC i zr zr zr zr zr zr zr zr dq ?_
 refine aN 3 i zr zr zr DA rfl (iP hx) zr zr (go ?_)
 refine iR (es:=gE g) (key:=x) 2 rfl fu zr zr zr zr zr zr zr zr ?_
 rw[A9]
 simp only[Option.getD_some]
 refine go ?_
 refine az zr zr zr bh ?_
 intro b7
 refine go ?_
 refine al (cs:=rC ⟨x,0,true⟩) zr zr zr zr zr zr zr zr zr bh ?_
 intro row
 refine go ?_
 refine aS (H':=ag row (cl (rC ⟨x,0,true⟩) 163)::aI 163 3 (.slice ra i rc) i (rV (CR (L.take i)))::ag nb (cl (dG id S st tb bv kb hb pv ms mg br) 73)::aC (Value.int .i64) mg (gE g)::aI 3 1 (.slice (some ⟨ob,oo,none⟩) L.length wc) L.length (iV L)::pB hb S.bD r::F) ah ?_
 refine aO (mm:=1) (news:=rC ⟨x,0,true⟩) 1 0 rfl rfl rfl rfl rfl rfl rfl rfl rfl rfl rfl rfl (Vw.ag rfl) rfl (by intro v hv;simp[rC]at hv;rcases hv with rfl|rfl|rfl <;> rfl) ai (by show(_+_)*24≤_;omega) (fun _=>rfl) bh ?_
 intro v1
 rw[ki]
 refine aL 1 rfl ?_
 rintro ja jc rfl
 refine go ?_
 refine aK ih (i+1,ja,jc) rfl (by simp only;omega) (by simp only;omega) bQ ah
end
end Go.Proofs.YtnkfkabokmcgoaaGreatDoor
namespace Go.Proofs.YtnkfkabokmcgoaaGreatDoor
open Go Go.SL
structure TkM where
 n:Nat
 a:Option Addr
 c:Nat
 co:List Value
 la:Option Addr
 ln:Nat
 lc:Nat
def abS(op:Option NF)(y:TkM):Prop:=y.n=U9 op∧y.co=plO op∧(op=none→y.la=none∧y.ln=0∧y.lc=0)
attribute [local irreducible] J K aq Ends ag aI aC bF aW aP a6 aZ bN aB kP bM jN pB
section
variable(nb:Nat)(id:Int)(S:Cs)(st tb bv kb hb ms mg:Nat)
def yf(op:Option NF)(bd:Nat)(q:Int)(mb:Nat)(bk:Bool)(A:Ab)(Kh:∀p,op=some p→gn A p.d=none)(V:VM)(hV:qi V)(g:List Int)(hgn:g.Nodup)(hgl:g.length≤64)(Co:∀k∈g,i64 k)(r now seed:Int)(hr:0≤r∧r≤1000000)(hs:i64 S.bD)(uA:0≤S.pat∧S.pat≤1048576) :
  aq Tryz.prog 9 [ptr nb,.int .i64 now,.int .u64 seed] [ag nb (cl (dG id S st tb bv kb hb (Ij op) ms mg false) 73),bM bv V,jN kb S.lim S.gL S.bt,pB hb S.bD r,aC (Value.int .i64) mg (gE g),ag st (cl (cF bd q mb bk) 120),aB bd A,U' op]
  (fun u H=>∃(y:TkM) (e:Int) (V':VM) (r':Int) (g':List Int) (pv':Value),u = .tuple #[.slice y.a y.n y.c,.int .i64 e]∧(gK now 0 1099511627776=true→e=0)∧(V'.ks=[]→e=0→y.n=U9 op∧y.co=plO op)∧qi V'∧V'.bK=V.bK∧V'.ks.length≤V.ks.length∧(r≤r'∧r'≤r+1)∧(g'=g∨g'=[])∧(op=none→pv' = .slice none 0 0) ∧
   H=[aI 56 40 (.slice y.a y.n y.c) y.n y.co,ag nb (cl (dG id S st tb bv kb hb pv' ms mg false) 73),bM bv V',jN kb S.lim S.gL S.bt,pB hb S.bD r',aC (Value.int .i64) mg (gE g'),ag st (cl (cF bd q mb bk) 120),aB bd A]):=by
 refine aq.aj Tryz.func9 Tryz.ntmps9 fun G F R hE=>?_
 refine go ?_
 refine aw (kA now 0 1099511627776) ?_
 cases hw:gK now 0 1099511627776 with
 | false =>
  refine go ?_
  refine ak (bj 56 40 none _) ?_
  ((refine ad hE Tryz.func9 zr zr ⟨⟨0,none,0,[],none,0,0⟩,1,V,r,g,Ij op,rfl,fun h=>absurd (hw.symm.trans h) (by decide),fun _ h=>absurd h (by decide),hV,rfl,Nat.le_refl _,ai,.inl rfl,fun h=>by subst h;rfl,rfl⟩))
 | true =>
 have VD:0≤now∧now≤1099511627776:=by
  unfold gK at hw
  rw[Bool.and_eq_true]at hw
  exact⟨of_decide_eq_true hw.1,of_decide_eq_true hw.2⟩
 refine go ?_
 refine aF (B8 kb S.lim S.gL S.bt now) ?_
 rintro _ _⟨rv,e0,rfl,rfl⟩
 refine aS (H':=ag nb (cl (dG id S st tb bv kb hb (Ij op) ms mg false) 73)::bM bv V::jN kb S.lim S.gL S.bt::pB hb S.bD r::aC (Value.int .i64) mg (gE g)::ag st (cl (cF bd q mb bk) 120)::aB bd A::U' op::F) ah (go ?_)
 refine aJ (fun w=>Sat G w ([ag nb (cl (dG id S st tb bv kb hb (Ij op) ms mg false) 73)])) (cM 0 12 (.act 12 .nil)) rfl ae ae ae cY ?_
 (repeat(first|refine fq ?_|refine hG zr zr zr (by simp only[gm];omega) ?_))
 refine aF (HV bv V hV now (min (4*S.pat) 1048576)) ?_
 rintro _ _⟨rv1,e1,V1,rfl,rfl,W3,MQ,y5⟩
 (repeat(first|refine fq ?_|refine sw zr zr zr ai ai ?_))
 refine gT rfl ?_
 refine yk 1 (fun y:Int × List Int=>(r≤y.1∧y.1≤r+1)∧(y.2=g∨y.2=[])) (fun y=>[(0,ptr nb),(1,.int .i64 now),(2,.int .u64 seed)]) (fun y=>ag nb (cl (dG id S st tb bv kb hb (Ij op) ms mg false) 73)::bM bv V1::jN kb S.lim S.gL S.bt::pB hb S.bD y.1::aC (Value.int .i64) mg (gE y.2)::ag st (cl (cF bd q mb bk) 120)::aB bd A::U' op::F) rfl ?_ ?_
 case refine_2 =>
  intro tail
  refine au zr zr ?_ ?_
  ·intro _
   refine go ?_
   refine aF (Dd nb id S st tb bv kb hb ms mg (Ij op) false g hgn hgl Co r seed hr hs) ?_
   rintro _ _⟨r1,rfl,h1,h2,rfl⟩
   refine qE ?_
   refine ml tail (r1,[]) rfl ⟨⟨h1,h2⟩,.inr rfl⟩ bQ ah
  ·intro _
   refine ml tail (r,g) rfl ⟨⟨ai,ai⟩,.inl rfl⟩ bQ ah
 rintro⟨r1,g1⟩⟨y3,L3⟩
 simp only at y3 L3 ⊢
 refine go ?_
 refine gT rfl ?_
 refine yk 1 (abS op) (fun y=>[(0,ptr nb),(1,.int .i64 now),(2,.int .u64 seed),(8,.slice y.a y.n y.c),(9,.slice y.la y.ln y.lc)]) (fun y=>aI 56 40 (.slice y.a y.n y.c) y.n y.co::ag nb (cl (dG id S st tb bv kb hb (Ij op) ms mg false) 73)::bM bv V1::jN kb S.lim S.gL S.bt::pB hb S.bD r1::aC (Value.int .i64) mg (gE g1)::ag st (cl (cF bd q mb bk) 120)::aB bd A::F) rfl ?_ ?_
 case refine_2 =>
  intro tail
  cases op with
  | none =>
   refine oG rfl ?_
   simp only[Ij,plA,U9,plK]
   (refine aH rfl ?_;refine qE ?_)
   refine iU zr zr ?_
   refine ak (bj 56 40 none _) ?_
   refine ml tail ⟨0,none,0,[],none,0,0⟩ rfl ⟨rfl,rfl,fun _=>⟨rfl,rfl,rfl⟩⟩ bQ ah
  | some p =>
   obtain⟨ra,rc,pb,d⟩:=p
   have oK:=Kh _ rfl
   refine ak (H':=U' (some ⟨ra,rc,pb,d⟩)::ag nb (cl (dG id S st tb bv kb hb (Ij (some ⟨ra,rc,pb,d⟩)) ms mg false) 73)::bM bv V1::jN kb S.lim S.gL S.bt::pB hb S.bD r1::aC (Value.int .i64) mg (gE g1)::ag st (cl (cF bd q mb bk) 120)::aB bd A::F) ah ?_
   refine ak (ao.part (aI 93 1 (.slice ra 1 rc) 1 [ptr pb]) (ag pb (cl (NU d (-1)) 116)) _) ?_
   unfold Ij
   refine rA 0 rfl ai ?_
   intro ob oo YA he MS Bi DA
   simp only[Value.slice.injEq,true_and]at he
   obtain⟨rfl,rfl⟩:=he
   refine oG rfl (go ?_)
   refine bC 0 zr zr zr zr zr zr zr zr (by show 0<1;omega) ?_
   refine aN 0 0 zr zr zr DA zr zr zr zr (go ?_)
   refine aF (FZ nb id S st tb bv kb hb ms mg (.slice (some ⟨ob,oo,none⟩) 1 rc) false pb d now seed bd q mb bk A oK) ?_
   rintro _ _⟨rb,rfl,rfl⟩
   refine go ?_
   refine aS (bj 56 40 none _) ?_
   refine aO (mm:=1) (news:=KX d) 0 1 zr zr zr zr zr zr zr zr zr zr zr zr (Vw.ag rfl) rfl (EZ 0 WI _ zr zr zr zr) ai (by decide) (fun _=>rfl) bh ?_
   intro v1
   refine aL 0 rfl ?_
   rintro oa oc rfl
   refine go ?_
   refine al (cs:=[ptr pb]) zr zr zr zr zr zr zr zr zr bh ?_
   intro row
   refine go ?_
   refine aS (bj 93 1 none _) ?_
   refine aO (mm:=1) (news:=[ptr pb]) 0 1 rfl rfl rfl rfl rfl rfl rfl rfl rfl rfl rfl rfl (Vw.ag rfl) rfl (by intro v hv;simp at hv;subst hv;rfl) ai (by decide) (fun _=>rfl) bh ?_
   intro v2
   refine aL 0 rfl ?_
   rintro la lc rfl
   refine go ?_
   refine j8 rfl ?_
   (refine aH rfl ?_;refine qE ?_)
   refine iU zr zr ?_
   refine ml tail ⟨1,oa,oc,KX d,la,1,lc⟩ rfl ⟨rfl,rfl,fun h=>by cases h⟩ bQ ah
 rintro⟨n,oa,oc,co,la,ln,lc⟩⟨hn,hco,GV⟩
 simp only at hn hco GV ⊢
 have hn1:n≤1:=by rw[hn];cases op <;> simp[U9]
 have hpv:op=none→Value.slice la ln lc = .slice none 0 0:=fun h=>by obtain⟨h1,h2,h3⟩:=GV h;rw[h1,h2,h3]
 have Kw:g1=g∨g1=[]:=L3
 refine go ?_
 refine aF (HM bv V1 W3 seed) ?_
 rintro _ _⟨pid,pb,rfl,rfl,GR⟩
 refine aS (H':=ag nb (cl (dG id S st tb bv kb hb (.slice la ln lc) ms mg false) 73)::bM bv V1::aI 56 40 (.slice oa n oc) n co::jN kb S.lim S.gL S.bt::pB hb S.bD r1::aC (Value.int .i64) mg (gE g1)::ag st (cl (cF bd q mb bk) 120)::aB bd A::F) ah ?_
 cases pb with
 | false =>
  refine go ?_
  refine ad hE Tryz.func9 zr zr ⟨⟨n,oa,oc,co,none,0,0⟩,0,V1,r1,g1,.slice la ln lc,rfl,fun _=>rfl,fun _ _=>⟨hn,hco⟩,W3,MQ,y5,y3,Kw,hpv,rfl⟩
 | true =>
 have fy:V1.ks≠[]:=fun h=>by cases GR h
 refine go ?_
 ((refine aF (Gossip_any bv V1 W3.nd (by have:=W3.small;omega) 3 seed) ?_))
 rintro rg _ rfl
 obtain⟨gs,hgs⟩:∃gs,gs=oB V1 3 seed:=⟨_,rfl⟩
 have acp:gs.length≤100:=by
  have:=W3.small
  rw[hgs]
  unfold oB
  rw[List.length_append,List.length_map,qO,eP,List.length_map]
  unfold Bu
  simp only[List.length_cons,List.length_nil]
  omega
 rw[← hgs]
 refine aL 0 rfl ?_
 rintro ga gc rfl
 refine go ?_
 refine az zr zr zr bh ?_
 intro b17
 refine go ?_
 refine bn (fun y:Nat × List Value=>y.1≤gs.length∧y.2.length=gs.length*4) (fun y=>gs.length-y.1)
  (fun y=>[(0,ptr nb),(8,.slice oa n oc),(15,.int .i64 pid),(17,ptr b17),(109,.int .i64 (gs.length:Int)),(110,.int .i64 (y.1:Int))])
  (fun y=>ag b17 (cl (mC ⟨.slice none 0 0,.slice none 0 0,.slice none 0 0,.slice ga gs.length gc⟩ { mQ.zero with kind:=8 }) 42)::aI 101 4 (.slice ga gs.length gc) gs.length y.2::aI 56 40 (.slice oa n oc) n co::ag nb (cl (dG id S st tb bv kb hb (.slice la ln lc) ms mg false) 73)::bM bv V1::jN kb S.lim S.gL S.bt::pB hb S.bD r1::aC (Value.int .i64) mg (gE g1)::ag st (cl (cF bd q mb bk) 120)::aB bd A::F) (0,mV gs) ⟨Nat.zero_le _,bI fh gs⟩ rfl bQ ah ?_
 rintro⟨i,cs⟩⟨hi,jA⟩ ih
 simp only at hi jA
 refine go ?_
 refine au zr zr ?_ ?_
 ·intro cq
  simp only at cq
  have dq:i<gs.length:=by omega
  refine rA 1 rfl ai ?_
  intro ob oo YA he MS Bi DA
  simp only[Value.slice.injEq,true_and]at he
  obtain⟨rfl,rfl⟩:=he
  refine go ?_
  refine bX i 4 zr zr zr zr zr zr zr zr dq (go ?_)
  refine BW (U:=aU) (q:=i*4+3) 1 eW rfl (Nat.add_assoc _ _ _) zr zr zr zr zr zr ai ai rfl (go ?_)
  refine aK ih (i+1,cs.set (i*4+3) (.int .i64 0)) rfl ⟨by simp only;omega,by simp only[List.length_set];exact jA⟩ (by simp only;omega) bQ ah
 ·intro ek
  refine go ?_
  refine aM (U:=aU) (l:=mC ⟨.slice none 0 0,.slice none 0 0,.slice none 0 0,.slice ga gs.length gc⟩ { mQ.zero with kind:=8 }) 0 rfl rfl rfl rfl rfl rfl (go ?_)
  refine al (cs := .int .i64 pid::mC ⟨.slice none 0 0,.slice none 0 0,.slice none 0 0,.slice ga gs.length gc⟩ { mQ.zero with kind:=8 }) rfl rfl rfl rfl rfl rfl rfl rfl rfl bh ?_
  intro row
  refine go ?_
  refine aS (H':=ag row (cl (.int .i64 pid::mC ⟨.slice none 0 0,.slice none 0 0,.slice none 0 0,.slice ga gs.length gc⟩ { mQ.zero with kind:=8 }) 56)::aI 56 40 (.slice oa n oc) n co::ag nb (cl (dG id S st tb bv kb hb (.slice la ln lc) ms mg false) 73)::bM bv V1::jN kb S.lim S.gL S.bt::pB hb S.bD r1::aC (Value.int .i64) mg (gE g1)::ag st (cl (cF bd q mb bk) 120)::aB bd A::F) ah ?_
  refine aO (mm:=1) (news := .int .i64 pid::mC ⟨.slice none 0 0,.slice none 0 0,.slice none 0 0,.slice ga gs.length gc⟩ { mQ.zero with kind:=8 }) 1 0 rfl rfl rfl rfl rfl rfl rfl rfl rfl rfl rfl rfl (Vw.ag rfl) rfl (EZ pid _ _ rfl rfl rfl rfl) ai (by show(_+1)*160≤_;omega) (fun _=>rfl) bh ?_
  intro v1
  refine aL 1 rfl ?_
  rintro ja jc rfl
  refine go ?_
  refine ad hE Tryz.func9 zr zr ⟨⟨n+1,ja,jc,_,none,0,0⟩,0,V1,r1,g1,.slice la ln lc,rfl,fun _=>rfl,fun h=>absurd h fy,W3,MQ,y5,y3,Kw,hpv,rfl⟩
end
end Go.Proofs.YtnkfkabokmcgoaaGreatDoor
namespace Go.SL
open Go Go.RowKit Go.ChangeShapes Go.WideShapes
section
variable{P:Program}{H:Type}{enc:TypeId × Value→H}{W:World}{base:Nat}{spare:Nat→Bool}{held:Bool}
theorem qR{α:Type}[Inhabited α]{t e:TypeId}(ht:P.underlying t=some (.slice e))(g:α→List Value)(s:Nat)(hs0:0<s)(hs:∀x,(g x).length=s)(hc:P.cellsOf e=s)(Q:α→Prop)(jZ:∀(fuel:Nat) (cs:List Value) (x:DataW H × List MemPlace),DataW.trod enc P W base spare held fuel e cs=some x→∃y,cs=g y∧Q y){fuel:Nat}{cs:List Value}{x:DataW H × List MemPlace}(h:DataW.trod enc P W base spare held fuel t cs=some x):∃(l:List α) (a:Option Addr) (c:Nat),cs=[.slice a l.length c]∧Vw (old W) (.slice a l.length c) l.length (l.flatMap g)∧(∀x∈l,Q x)∧l.length≤9223372036854775807:=by
 have hmx:maxLen=9223372036854775807:=by decide
 rcases Go.Deep.open_slice ht h with⟨jA,_⟩|⟨a,len,cap,m,n,D,Pl,jA,hb,hl,hm,WS,_,hx⟩
 ·subst jA
  exact⟨[],none,0,rfl,⟨none,0,rfl,.inl rfl⟩,by simp,by simp⟩
 ·subst jA
  have sE:len≤m:=by rw[WS];split <;> omega
  have AW:∀i,i<len→∃y:α,(∀k,k<s→W.cell? (a.add (i*s+k))=(g y)[k]?)∧Q y:=fun i hi=>by
   obtain⟨vM,h1,h2⟩:=hx i ai
   obtain⟨y,rfl,hy⟩:=jZ _ _ _ h2
   rw[hc]at h1
   obtain⟨_,_,h3⟩:=World.cells?_some h1
   refine⟨y,fun k hk=>?_,hy⟩
   rw[← h3 k hk,Addr.add_add]
  obtain⟨f,Zz⟩:=Go.Deep.choose_lt AW
  refine⟨(List.range len).map f,some a,cap,by simp,⟨some a,cap,by simp,?_⟩,?_,by simp;omega⟩
  ·rcases Nat.eq_zero_or_pos len with h0|h0
   ·grind
   ·right
    obtain⟨b,o,spot⟩:=a
    have AZ:spot=none:=by
     have:=(Zz 0 h0).1 0 hs0
     rw[Nat.zero_mul,Nat.zero_add,List.getElem?_eq_getElem (by rw[hs];exact hs0)]at this
     simpa[Addr.add]using World.cell?_spot (this.trans rfl)
    subst AZ
    refine⟨b,o,rfl,fun h ho j c hj=>?_⟩
    have Fh:j<len*s:=by
     rcases Nat.lt_or_ge j (len*s)with h|h
     ·exact h
     ·rw[List.getElem?_eq_none (by rw[bI hs];simpa using h)]at hj;cases hj
    have hd:j/s<len:=Nat.div_lt_of_lt_mul (by rw[Nat.mul_comm];exact Fh)
    have hk:j%s<s:=Nat.mod_lt _ hs0
    have hjj:j/s*s+j%s=j:=by rw[Nat.mul_comm];exact Nat.div_add_mod _ _
    have h1:=ck hs (l:=(List.range len).map f) (i:=j/s) (x:=f (j/s)) (by simp[hd]) (j%s) hk
    rw[hjj,hj]at h1
    have h2:=(Zz _ hd).1 _ hk
    rw[hjj,Addr.add_eq]at h2
    grind [iT]
  grind
inductive kQ(enc:TypeId × Value→H)(P:Program)(W:World)(base:Nat)(spare:Nat→Bool)(held:Bool)(n:Nat):List TypeId→List Value→Prop where
 | nil:kQ enc P W base spare held n [] []
 | cons {t:TypeId} {ts:List TypeId} {cs rest:List Value} {x:DataW H × List MemPlace} (h:DataW.trod enc P W base spare held n t cs=some x) (hr:kQ enc P W base spare held n ts rest):kQ enc P W base spare held n (t::ts) (cs++rest)
def Gs(P:Program):Nat→List TypeId→List Nat
 | _,[]=>[]
 | o,t::ts=>o::Gs P (o+P.cellsOf t) ts
theorem nu{t:TypeId}{fs:Array Field}(ht:P.underlying t=some (.struct fs))(ho:fs.toList.map Field.offset=Gs P 0 (fs.toList.map Field.type))(hn:P.cellsOf t=(fs.toList.map fun f:Field=>P.cellsOf f.type).sum){fuel:Nat}{cs:List Value}{x:DataW H × List MemPlace}(h:DataW.trod enc P W base spare held fuel t cs=some x):∃n,kQ enc P W base spare held n (fs.toList.map Field.type) cs:=by
 obtain⟨xs,n,_,_,hlen,Dz,hf⟩:=DataW.trod_struct ht h
 refine⟨n,?_⟩
 have key:∀(l:List Field) (o k:Nat) (cs:List Value),cs.length=(l.map fun f:Field=>P.cellsOf f.type).sum→l.map Field.offset=Gs P o (l.map Field.type) →
   (∀(j:Nat) (f:Field),l[j]?=some f→∃y,DataW.trod enc P W base spare held n f.type ((cs.drop (f.offset-o)).take (P.cellsOf f.type))=some y)→kQ enc P W base spare held n (l.map Field.type) cs:=by
  intro l
  induction l with
  | nil=>intro o k cs hl _ _;simp at hl;subst hl;exact .nil
  | cons f l ih =>
   intro o k cs hl iq dX
   simp only[List.map_cons,List.sum_cons]at hl
   simp only[List.map_cons,Gs,List.cons.injEq]at iq
   obtain⟨h1,h2⟩:=iq
   obtain⟨y,hy⟩:=dX 0 f rfl
   rw[h1,Nat.sub_self,List.drop_zero]at hy
   have cu:=ih (o+P.cellsOf f.type) 0 (cs.drop (P.cellsOf f.type)) (by rw[List.length_drop];omega) h2 (fun j f' hj=>by
    obtain⟨y',hy'⟩:=dX (j+1) f' (by simpa using hj)
    have ek:o+P.cellsOf f.type≤f'.offset:=by
     have dF:f'.offset∈Gs P (o+P.cellsOf f.type) (l.map Field.type):=by rw[← h2];exact List.mem_map.2 ⟨f',List.mem_of_getElem? hj,rfl⟩
     have abY:∀(ts:List TypeId) (p q:Nat),q∈Gs P p ts→p≤q:=by
      intro ts
      induction ts with
      | nil=>intro p q hq;cases hq
      | cons t ts ih=>intro p q hq;rcases List.mem_cons.1 hq with rfl|hq;exact Nat.le_refl _;have:=ih _ _ hq;omega
     grind
    refine⟨y',?_⟩
    rw[List.drop_drop,show P.cellsOf f.type+(f'.offset-(o+P.cellsOf f.type))=f'.offset-o from by omega]
    exact hy')
   have:=kQ.cons hy cu
   simp_all
 refine key fs.toList 0 0 cs (by rw[hlen,hn]) ho fun j f hj=>?_
 grind
def kQ.inv{n:Nat}{t:TypeId}{ts:List TypeId}{cs:List Value}(h:kQ enc P W base spare held n (t::ts) cs):∃c0 rest x,cs=c0++rest∧DataW.trod enc P W base spare held n t c0=some x∧kQ enc P W base spare held n ts rest:=by
 cases h with
 | cons h hr=>exact⟨_,_,_,rfl,h,hr⟩
def kQ.Vj{n:Nat}{cs:List Value}(h:kQ enc P W base spare held n [] cs):cs=[]:=by cases h;rfl
theorem kQ.int{n:Nat}{t:TypeId}{ts:List TypeId}{cs:List Value}{k:IntKind}(h:kQ enc P W base spare held n (t::ts) cs)(ht:P.underlying t=some (.int k)):∃(z:Int) (rest:List Value),cs = .int k z::rest∧(Lit.int k z).wf=true∧kQ enc P W base spare held n ts rest:=by
 obtain⟨c0,rest,x,rfl,h0,hr⟩:=h.inv
 obtain⟨z,rfl,_,hw⟩:=DataW.trod_int ht h0
 grind
end
end Go.SL
namespace Go.Proofs.YtnkfkabokmcgoaaGreatDoor
open Go Go.SL Go.RowKit Go.ChangeShapes Go.WideShapes
section
variable{H:Type}{enc:TypeId × Value→H}{W:World}{base:Nat}{spare:Nat→Bool}{held:Bool}
def KK:Tryz.prog.cellsOf 36=32:=by kernel_rfl
def IP:Tryz.prog.cellsOf 5=1:=by kernel_rfl
theorem yQ(fuel:Nat)(cs:List Value)(x:DataW H × List MemPlace)(h:DataW.trod enc Tryz.prog W base spare held fuel 36 cs=some x):∃d:Dg,cs=dC d:=by
 obtain⟨xs,m,_,_,hlen,Dz,hf⟩:=DataW.trod_array Tryz.underlying36 h
 rw[KK]at hlen
 have key:∀i,i<32→∃t:UInt8,cs[i]?=some (u8 t):=fun i hi=>by
  have h1:=hf i hi
  obtain⟨y,hy⟩:∃y,xs[i]?=some y:=⟨xs[i]' (by rw[Dz];exact hi),by simp⟩
  rw[hy,IP,Nat.mul_one]at h1
  obtain⟨z,r,_,w⟩:=DataW.trod_int Tryz.underlying5 h1
  have hw:0≤z∧z<256:=by
   have hw:=w
   simp only[Lit.wf,Bool.and_eq_true,decide_eq_true_eq]at hw
   have e1:IntKind.u8.min=0:=by decide
   have e2:IntKind.u8.max=255:=by decide
   omega
  obtain⟨t,ht⟩:=F1 hw.1 hw.2
  refine⟨t,?_⟩
  rw[← ht]
  have h2:=congrArg (fun l:List Value=>l[0]?) r
  grind
 obtain⟨f,Zz⟩:=Go.Deep.choose_lt key
 refine⟨⟨(List.range 32).map f,by simp⟩,?_⟩
 rw[eG]
 apply List.ext_getElem?
 grind [bV]
instance:Inhabited Bl:=⟨Bl.zero⟩
def rQ(fuel:Nat)(cs:List Value)(x:DataW H × List MemPlace)(h:DataW.trod enc Tryz.prog W base spare held fuel 38 cs=some x):∃(bs:List UInt8) (a:Option Addr) (c:Nat),cs=[.slice a bs.length c]∧bs.length≤9223372036854775807∧fb (old W) (.slice a bs.length c) bs:=by
 have hmx:maxLen=9223372036854775807:=by decide
 rcases open_ints Tryz.underlying38 Tryz.underlying5 ae h with⟨jA,_⟩|⟨x,l,c,zs,jA,_,hl,hm,hz,_,cG,hwz⟩
 ·subst jA
  exact⟨[],none,0,rfl,by simp,JO W,none,0,rfl,Nat.le_refl _⟩
 ·subst jA
  obtain⟨bs,h1,h2⟩:=D8 (len:=l) (cap:=c) (by split at hz <;> omega) cG hwz
  subst h1
  exact⟨bs,some x,c,rfl,ai,h2,_,c,rfl,hl⟩
end
end Go.Proofs.YtnkfkabokmcgoaaGreatDoor
namespace Go.Proofs.YtnkfkabokmcgoaaGreatDoor
open Go Go.SL Go.RowKit Go.ChangeShapes Go.WideShapes
structure mP where
 d:Int
 from_:Int
 now:Int
 i:Int
 n:Int
 cut:Int
 v:MV
 m:mQ
 h:Dg
 ba:Option Addr
 bc:Nat
 b:List UInt8
 seed:Int
def jR(s:mP):List Value:=[.int .i64 s.d,.int .i64 s.from_,.int .i64 s.now,.int .i64 s.i,.int .i64 s.n,.int .i64 s.cut]++(mC s.v s.m++(dC s.h++[.slice s.ba s.b.length s.bc,.int .u64 s.seed]))
def lq(s:mP):(jR s).length=79:=rfl
instance:Inhabited mP:=⟨⟨0,0,0,0,0,0,⟨.slice none 0 0,.slice none 0 0,.slice none 0 0,.slice none 0 0⟩,mQ.zero,Dg.zero,none,0,[],0⟩⟩
instance:Inhabited Mem:=⟨⟨0,0,0,0⟩⟩
instance:Inhabited Dg:=⟨Dg.zero⟩
structure FI(X:HP)(v:MV)(m:mQ):Prop where
 vi:Vw X v.i m.ids.length (iV m.ids)
 vb:fb X v.b m.bytes
 vp:LH X v.p m.proof
 vm:Vw X v.m m.eT.length (m.eT.flatMap ef)
 li:m.ids.length≤9223372036854775807
 lb:m.bytes.length≤9223372036854775807
 lp:m.proof.length≤9223372036854775807
 lm:m.eT.length≤9223372036854775807
 k:SL.i64 m.kind
 p:SL.i64 m.piece
structure zw(X:HP)(s:mP):Prop where
 d:SL.i64 s.d
 from_:SL.i64 s.from_
 now:SL.i64 s.now
 i:SL.i64 s.i
 n:SL.i64 s.n
 cut:SL.i64 s.cut
 m:FI X s.v s.m
 b:fb X (.slice s.ba s.b.length s.bc) s.b
 bl:s.b.length≤9223372036854775807
def zt(X:HP)(v:Value)(l:List mP):Prop:=Vw X v l.length (l.flatMap jR)∧l.length≤9223372036854775807∧∀s∈l,zw X s
section
variable{H:Type}{enc:TypeId × Value→H}{W:World}{base:Nat}{spare:Nat→Bool}{held:Bool}
def JI{P:Program}{t e:TypeId}(ht:P.underlying t=some (.slice e)){fuel:Nat}{a:Option Addr}{n c:Nat}{x:DataW H × List MemPlace}(h:DataW.trod enc P W base spare held fuel t [.slice a n c]=some x):n≤c:=by
 rcases Go.Deep.open_slice ht h with⟨jA,_⟩|⟨a',len,cap,m,k,D,Pl,jA,hb,hl,_⟩
 ·simp only[List.cons.injEq,Value.slice.injEq,and_true]at jA;omega
 ·simp only[List.cons.injEq,Value.slice.injEq,and_true]at jA;omega
def C7(fuel:Nat)(cs:List Value)(x:DataW H × List MemPlace)(h:DataW.trod enc Tryz.prog W base spare held fuel 101 cs=some x):∃y:Mem,cs=ef y∧True:=by
 obtain⟨n,hp⟩:=nu (Tryz.underlying101:_=some (TypeDesc.struct _)) ae ae h
 obtain⟨z0,r0,rfl,w0,hp⟩:=hp.int Tryz.underlying3
 obtain⟨z1,r1,rfl,w1,hp⟩:=hp.int Tryz.underlying3
 obtain⟨z2,r2,rfl,w2,hp⟩:=hp.int Tryz.underlying3
 obtain⟨z3,r3,rfl,w3,hp⟩:=hp.int Tryz.underlying3
 have:=hp.Vj
 subst this
 exact⟨⟨z0,z1,z2,z3⟩,rfl,trivial⟩
def JH(fuel:Nat)(cs:List Value)(x:DataW H × List MemPlace)(h:DataW.trod enc Tryz.prog W base spare held fuel 36 cs=some x):∃d:Dg,cs=dC d∧True:=by
 obtain⟨d,hd⟩:=yQ _ _ _ h
 exact⟨d,hd,trivial⟩
def JG(fuel:Nat)(cs:List Value)(x:DataW H × List MemPlace)(h:DataW.trod enc Tryz.prog W base spare held fuel 42 cs=some x):∃(v:MV) (m:mQ),cs=mC v m∧FI (old W) v m:=by
 obtain⟨n,hp⟩:=nu (Tryz.underlying42:_=some (TypeDesc.struct _)) ae ae h
 obtain⟨z0,r0,rfl,w0,hp⟩:=hp.int Tryz.underlying3
 obtain⟨c1,r1,x1,rfl,h1,hp⟩:=hp.inv
 obtain⟨z2,r2,rfl,w2,hp⟩:=hp.int Tryz.underlying3
 obtain⟨c3,r3,x3,rfl,h3,hp⟩:=hp.inv
 obtain⟨c4,r4,x4,rfl,h4,hp⟩:=hp.inv
 obtain⟨c5,r5,x5,rfl,h5,hp⟩:=hp.inv
 obtain⟨c6,r6,x6,rfl,h6,hp⟩:=hp.inv
 obtain⟨c7,r7,x7,rfl,h7,hp⟩:=hp.inv
 have:=hp.Vj
 subst this
 obtain⟨d,rfl⟩:=yQ _ _ _ h1
 obtain⟨zi,rfl,_⟩:∃v:Value,c3=[v]∧True:=by
  rcases Go.Deep.open_slice Tryz.underlying37 h3 with⟨jA,_⟩|⟨a',len,cap,m,k,D,Pl,jA,_⟩ <;> exact⟨_,jA,trivial⟩
 obtain⟨li,xF,L1,_⟩:=C8 Tryz.underlying37 Tryz.underlying3 ae h3
 obtain⟨lb,ba,bc,rfl,oR,mN⟩:=rQ _ _ _ h4
 obtain⟨lp,pa,pc,rfl,hp1,_,hp3⟩:=qR Tryz.underlying39 dC 32 ai nP ae (fun _=>True) JH h5
 have MM:=JI Tryz.underlying39 h5
 obtain⟨lm,ma,mc,rfl,MQ,_,hm3⟩:=qR Tryz.underlying40 ef 4 ai fh ae (fun _=>True) C7 h6
 obtain⟨zb,rfl,_⟩:=DataW.trod_bool Tryz.underlying4 h7
 exact⟨⟨zi,.slice ba lb.length bc,.slice pa lp.length pc,.slice ma lm.length mc⟩,⟨z0,d,z2,li,lb,lp,lm,zb⟩,by simp[mC],xF,mN,⟨hp1,pa,pc,rfl,MM⟩,MQ,L1,oR,hp3,hm3,gf w0,gf w2⟩
def AH(fuel:Nat)(cs:List Value)(x:DataW H × List MemPlace)(h:DataW.trod enc Tryz.prog W base spare held fuel 45 cs=some x):∃y:mP,cs=jR y∧zw (old W) y:=by
 obtain⟨n,hp⟩:=nu (Tryz.underlying45:_=some (TypeDesc.struct _)) ae ae h
 obtain⟨z0,r0,rfl,w0,hp⟩:=hp.int Tryz.underlying3
 obtain⟨z1,r1,rfl,w1,hp⟩:=hp.int Tryz.underlying3
 obtain⟨z2,r2,rfl,w2,hp⟩:=hp.int Tryz.underlying3
 obtain⟨z3,r3,rfl,w3,hp⟩:=hp.int Tryz.underlying3
 obtain⟨z4,r4,rfl,w4,hp⟩:=hp.int Tryz.underlying3
 obtain⟨z5,r5,rfl,w5,hp⟩:=hp.int Tryz.underlying3
 obtain⟨c6,r6,x6,rfl,h6,hp⟩:=hp.inv
 obtain⟨c7,r7,x7,rfl,h7,hp⟩:=hp.inv
 obtain⟨c8,r8,x8,rfl,h8,hp⟩:=hp.inv
 obtain⟨z9,r9,rfl,w9,hp⟩:=hp.int Tryz.underlying43
 have:=hp.Vj
 subst this
 obtain⟨v,m,rfl,hm⟩:=JG _ _ _ h6
 obtain⟨d,rfl⟩:=yQ _ _ _ h7
 obtain⟨b,ba,bc,rfl,oR,mN⟩:=rQ _ _ _ h8
 exact⟨⟨z0,z1,z2,z3,z4,z5,v,m,d,ba,bc,b,z9⟩,by simp[jR],gf w0,gf w1,gf w2,gf w3,gf w4,gf w5,hm,mN,oR⟩
def yP{fuel:Nat}{v:Value}{x:DataW H × List MemPlace}(h:DataW.trod enc Tryz.prog W base spare held fuel 22 [v]=some x):∃l:List mP,zt (old W) v l:=by
 obtain⟨l,a,c,jA,h1,h2,h3⟩:=qR Tryz.underlying22 jR 79 ai lq ae (zw (old W)) AH h
 simp only[List.cons.injEq,and_true]at jA
 subst jA
 exact⟨l,h1,h3,h2⟩
end
def tH{l:List mP}{i:Nat}{s:mP}(h:l[i]?=some s)(q:Nat)(hq:q<79):(l.flatMap jR)[i*79+q]?=(jR s)[q]? := ck lq h q hq
end Go.Proofs.YtnkfkabokmcgoaaGreatDoor
namespace Go.Proofs.YtnkfkabokmcgoaaGreatDoor
open Go Go.SL
def FI.at_{X:HP}{v:MV}{m:mQ}(h:FI X v m)(h1:m.ids.length≤100)(h2:m.bytes.length≤3000)(h3:m.proof.length≤50)(h4:m.eT.length≤100):yj X v m :=
 ⟨h.vi,h.vb,h.vp,h.vm,ai,ai,ai,ai⟩
structure sX(s:mP):Prop where
 ids:s.m.ids.length≤100
 bytes:s.m.bytes.length≤3000
 proof:s.m.proof.length≤50
 eT:s.m.eT.length≤100
def dU:Cs:=⟨1048576,5,4,2,5,2,20,2⟩
def I1{l:List mP}{i:Nat}{s:mP}(h:l[i]?=some s)(j:Nat)(v:Value)(hj:(mC s.v s.m)[j]?=some v):(l.flatMap jR)[i*79+6+j]?=some v:=by
 have hl:(mC s.v s.m).length=39:=rfl
 have nC:j<39:=by
  rcases Nat.lt_or_ge j 39 with h|h
  ·exact h
  ·rw[List.getElem?_eq_none (by rw[hl];exact h)]at hj;cases hj
 rw[show i*79+6+j=i*79+(6+j)from by omega,tH h (6+j) ai]
 unfold jR
 rw[List.getElem?_append_right (by simp)]
 show(mC s.v s.m++_)[6+j-6]?=_
 rw[Nat.add_sub_cancel_left,List.getElem?_append_left (by rw[hl];exact nC)]
 exact hj
def d5:Dg:=⟨5::List.replicate 31 0,by simp⟩
attribute [local irreducible] J K aq Ends ag aI aC bF aW aP a6 aZ bN 
def wX:aq Tryz.prog 8 [] [] (fun r H=>r = .agg (yz dU).toArray∧H=[]):=by
 refine aq.aj Tryz.func8 Tryz.ntmps8 fun G F R hE=>?_
 refine aH rfl ?_
 refine az zr zr zr bh ?_
 intro b0
 refine go ?_
 (refine bg hE ?_;apply a7 (U:=aU) hE Tryz.func8 rfl (ao.refl _);(repeat(first|exact aQ.nil|apply aQ.agg 0 zr zr zr zr zr));exact⟨rfl,rfl⟩;exact ah)
def Dr(X:HP)(v:Value)(l:List mP)(hv:Vw X v l.length (l.flatMap jR))(hl:l.length≤9223372036854775807)(hs:∀s∈l,zw X s) :
  aq Tryz.prog 5 [v] [X] (fun r H=>∃b:Bool,r = .bool b∧H=[X]∧(b=false→∀(i:Nat) (s:mP),i<150→l[i]?=some s→sX s)):=by
 obtain⟨a,c,rfl⟩:=hv.shape
 refine aq.aj Tryz.func5 Tryz.ntmps5 fun G F R hE=>?_
 refine go ?_
 refine bn (fun y:Nat × Nat=>y.1≤l.length∧y.1≤150∧y.2≤40000∧∀(i:Nat) (s:mP),i<y.1→l[i]?=some s→sX s) (fun y=>l.length-y.1)
  (fun y=>[(0,.slice a l.length c),(3,.int .i64 (y.2:Int)),(4,.int .i64 (y.1:Int))]) (fun _=>X::F) (0,0) ⟨ai,ai,ai,fun i s h=>by simp at h⟩ rfl bQ ah ?_
 rintro⟨i,n⟩⟨hi,L1,hn,pj⟩ ih
 simp only at hi L1 hn pj
 by_cases gR:i<l.length∧i<150
 case neg =>
  have jt:∀(j:Nat) (s:mP),j<150→l[j]?=some s→sX s:=fun j s hj hs=>pj j s (by
   rcases Nat.lt_or_ge j l.length with h|h
   ·omega
   ·rw[List.getElem?_eq_none h]at hs;cases hs) hs
  refine go ?_
  by_cases h1:i<l.length
  ·refine aD 10 ((.bool true)) rfl ((congrArg Value.bool (decide_eq_true ai))) (go ?_)
   ((refine aV 13 ((.bool false)) rfl ((congrArg Value.bool (decide_eq_false (by simp only;omega)))) ?_))
   refine go ?_
   refine ad hE Tryz.func5 zr zr ⟨false,rfl,rfl,fun _=>jt⟩
  ·refine aD 10 ((.bool false)) rfl ((congrArg Value.bool (decide_eq_false ai))) (go ?_)
   refine ad hE Tryz.func5 zr zr ⟨false,rfl,rfl,fun _=>jt⟩
 obtain⟨xF,ab1⟩:=gR
 obtain⟨s,hx⟩:∃s,l[i]?=some s:=⟨l[i],by simp⟩
 have hJ:=hs _ (List.mem_of_getElem? hx)
 have hme:=I1 hx
 have s77:(l.flatMap jR)[i*79+77]?=some (.slice s.ba s.b.length s.bc):=tH hx 77 ai
 have hm:=hJ.m
 have sT:=hJ.bl
 obtain⟨sd,sf,sn,si,sN,sc,⟨wi,wb,wp,wm⟩,m,sh,ba,bc,b,seed⟩:=s
 simp only at hme s77 hm sT
 obtain⟨Ir,Vr,N1,vH,LZ,hlb,hlp,hlm,-,-⟩:=hm
 simp only at Ir Vr N1 vH
 obtain⟨ia,ic,rfl⟩:=Ir.shape
 obtain⟨xa,xc,rfl⟩:=Vr.1.shape
 obtain⟨pa,pc,rfl⟩:=N1.1.shape
 obtain⟨ma,mc,rfl⟩:=vH.shape
 obtain⟨bb,oo,cc,dW⟩:=hv.some (by rw[← List.length_pos_iff,bI lq];omega)
 simp only[Value.slice.injEq,true_and]at dW
 obtain⟨rfl,rfl⟩:=dW
 refine go ?_
 refine aD 10 ((.bool true)) rfl ((congrArg Value.bool (decide_eq_true ai))) (go ?_)
 ((refine aV 13 ((.bool true)) rfl ((congrArg Value.bool (decide_eq_true (by simp only;omega)))) ?_))
 refine go ?_
 refine bX i 79 zr zr zr zr zr zr zr zr xF (go ?_)
 refine bW (U:=aU) (es:=mC ⟨.slice ia m.ids.length ic,.slice xa m.bytes.length xc,.slice pa m.proof.length pc,.slice ma m.eT.length mc⟩ m) 0 (i*79+6) zr zr zr hv (Nat.add_assoc _ _ _) hme zr zr zr (go ?_)
 refine az zr zr zr bh ?_
 intro b5
 repeat'(first|(with_reducible intro iI)|refine fq ?_|refine dw zr zr zr zr ?_ ?_|refine au zr zr ?_ ?_|refine bX i 79 zr zr zr zr zr zr zr zr xF ?_|(refine aT ?_;refine aN 1 (i*79+77) zr zr zr hv (Nat.add_assoc _ _ _) s77 zr zr ?_))
 any_goals ((refine ad hE Tryz.func5 zr zr ⟨true,rfl,rfl,fun h=>by cases h⟩))
 all_goals(
  have yZ:sX ⟨sd,sf,sn,si,sN,sc,⟨.slice ia m.ids.length ic,.slice xa m.bytes.length xc,.slice pa m.proof.length pc,.slice ma m.eT.length mc⟩,m,sh,ba,bc,b,seed⟩:=⟨by simp only;omega,by simp only;omega,by simp only;omega,by simp only;omega⟩
  refine go ?_
  refine aJ (fun w=>Sat G w ([X,ag b5 (cl (mC ⟨.slice ia m.ids.length ic,.slice xa m.bytes.length xc,.slice pa m.proof.length pc,.slice ma m.eT.length mc⟩ m) 42)])) (cM 0 13 .nil) rfl ae ae ae cY ?_
  (repeat(first|refine fq ?_|refine bX i 79 zr zr zr zr zr zr zr zr xF ?_|(refine aT ?_;refine dp 0 (i*79+77) zr zr zr hv (Nat.add_assoc _ _ _) s77 zr zr ?_)))
  refine au zr zr ?_ ?_
  ·intro q5
   refine go ?_
   (refine ad hE Tryz.func5 zr zr ⟨true,rfl,rfl,fun h=>by cases h⟩)
  ·intro hle
   refine go ?_
   refine aK ih (i+1,n+b.length+m.bytes.length) rfl ⟨by simp only;omega,by simp only;omega,by simp only at hle ⊢;omega,fun q z hq hz=>?_⟩ (by simp only;omega) bQ ah
   rcases Nat.lt_or_ge q i with h|h
   ·exact pj q z h hz
   ·have:q=i:=by simp only at hq;omega
    subst this
    rw[hx]at hz;cases hz;exact yZ)
end Go.Proofs.YtnkfkabokmcgoaaGreatDoor
namespace Go.Proofs.YtnkfkabokmcgoaaGreatDoor
open Go Go.SL
structure Wv where
 V:VM
 g:List Int
 r:Int
structure qo(bt:Int)(i:Nat)(y:Wv):Prop where
 v:qi y.V
 nd:y.g.Nodup
 len:(y.g.length:Int)≤bt
 bd:∀k∈y.g,1≤k∧k≤65536
 r:0≤y.r∧y.r≤i
def qo.i64{bt:Int}{i:Nat}{y:Wv}(h:qo bt i y):∀k∈y.g,i64 k:=fun k hk=>by
 have:=h.bd k hk
 unfold SL.i64
 omega
def qo.aax{bt:Int}{i:Nat}{y:Wv}{V':VM}{g':List Int}{k:Int}(h:qo bt i y)(ht:BJ y.V V' y.g g' k bt)(hk:g'=y.g∨(1≤k∧k≤65536)):qo bt (i+1) ⟨V',g',y.r⟩:=by
 obtain⟨h1,h2,h3⟩:=ht
 have hr:=h.r
 have hlen:=h.len
 have xD:g'=y.g→qo bt (i+1) ⟨V',g',y.r⟩:=fun e=>by subst e;exact⟨h1,h.nd,h.len,h.bd,hr.1,by simp only;omega⟩
 rcases h3 with h3|h3
 ·exact xD h3
 rcases hk with hk|hk
 ·exact xD hk
 unfold mA at h3
 split at h3
 ·exact xD h3
 rename_i js
 split at h3
 ·exact xD h3
 rename_i cq
 subst h3
 refine⟨h1,?_,?_,fun x hx=>?_,hr.1,by simp only;omega⟩
 ·refine List.nodup_append.2 ⟨h.nd,by simp,fun a ha b hb e=>?_⟩
  rw[List.mem_singleton.1 hb]at e
  exact js (e ▸ ha)
 ·simp only[List.length_append,List.length_cons,List.length_nil];omega
 ·rcases List.mem_append.1 hx with hx|hx
  ·exact h.bd x hx
  ·rw[List.mem_singleton.1 hx];exact hk
def qo.tick{bt:Int}{i:Nat}{y:Wv}{V':VM}{g':List Int}{r':Int}(h:qo bt i y)(hv:qi V')(hp:0≤bt)(hr:y.r≤r'∧r'≤y.r+1)(hg:g'=y.g∨g'=[]):qo bt (i+1) ⟨V',g',r'⟩:=by
 have Y5:=h.r
 rcases hg with rfl|rfl
 ·exact⟨hv,h.nd,h.len,h.bd,by simp only;omega,by simp only;omega⟩
 ·exact⟨hv,by simp,by simp only[List.length_nil];omega,fun k hk=>by simp at hk,by simp only;omega,by simp only;omega⟩
def qo.skip{bt:Int}{i:Nat}{y:Wv}(h:qo bt i y):qo bt (i+1) y:=by
 have hr:=h.r
 exact⟨h.v,h.nd,h.len,h.bd,hr.1,ai⟩
def qi.new(id bK:Int)(h:1≤bK∧bK≤64):qi ⟨⟨id,0,1,0⟩,bK,[]⟩:=⟨by simp,by simp only[List.length_nil];omega,h,by simp only;omega,fun x hx=>by simp at hx⟩
def I7:NC dU:=⟨by decide,by decide,by decide,by decide,by decide,by decide,by decide,by decide⟩
def zS(id:Int)(S:Cs)(v1 v2 v3 v4 v5 pv:Value)(ms mg:Nat)(br:Bool):List Value := .int .i64 id::(yz S++[v1,v2,v3,v4,v5,pv,.map (some ms),.map (some mg),.bool br])
attribute [local irreducible] J K aq Ends ag aI aC bF aW aP a6 aZ bN aB kP bM jN bZ
section
variable(nb nB dB sB iB bd:Nat)(id:Int)(S:Cs)(hS:NC S)(v1 v2 v3 v4 v5 pv:Value)(ms mg:Nat)(br:Bool)
include hS
def Dc:aq Tryz.prog 28 [ptr nb,.int .i64 1] [ag nb (cl (zS id S v1 v2 v3 v4 v5 pv ms mg br) 73)]
  (fun r H=>∃b,r = .tuple #[ptr b,.int .i64 0]∧H=[ag nb (cl (zS id S v1 v2 v3 v4 v5 pv ms mg br) 73)]):=by
 have hc:=Bv 1 S.bt S.bK S.each S.pat ai hS.bt (lf hS.bK) (lf hS.each) (lf hS.pat)
 refine aq.aj Tryz.func28 Tryz.ntmps28 fun G F R hE=>?_
 refine go ?_
 refine aJ (fun w=>Sat G w ([ag nb (cl (zS id S v1 v2 v3 v4 v5 pv ms mg br) 73)])) (cM 0 21 (.act 21 (cM 22 4 .nil))) rfl ae ae ae cY ?_
 refine go ?_
 ((refine cP zr zr zr zr (hc) ah ?_ (fun _ _ w hp hw=>by obtain⟨_,rfl,rfl⟩:=hp;exact hw.cn ah)))
 rintro _ _⟨b,rfl,rfl⟩
 refine go ?_
 refine ad hE Tryz.func28 zr zr ⟨b,rfl,rfl⟩
def De:aq Tryz.prog 27 [ptr nB] [ag nB (cl [ptr nb] 29),ag nb (cl (zS id S v1 v2 v3 v4 v5 pv ms mg br) 73)]
  (fun r H=>r = .int .i64 0∧H=[ag nB (cl [ptr nb] 29),ag nb (cl (zS id S v1 v2 v3 v4 v5 pv ms mg br) 73)]):=by
 have hc:=Dc nb id S hS v1 v2 v3 v4 v5 pv ms mg br
 refine aq.aj Tryz.func27 Tryz.ntmps27 fun G F R hE=>?_
 refine go ?_
 refine aF hc ?_
 rintro _ _⟨b,rfl,rfl⟩
 refine go ?_
 refine ad hE Tryz.func27 zr zr ⟨rfl,rfl⟩
def Dh:aq Tryz.prog 23 [ptr sB,ptr nB] [ag nB (cl [ptr nb] 29),ag nb (cl (zS id S v1 v2 v3 v4 v5 pv ms mg br) 73),ag sB (cl (yz S) 33)]
  (fun r H=>∃kb,r = .int .i64 0∧H=[ag nB (cl [ptr nb] 29),ag nb (cl (zS id S v1 v2 v3 (ptr kb) v5 pv ms mg br) 73),ag sB (cl (yz S) 33),jN kb S.lim S.gL S.bt]):=by
 have hc:=BC S.lim S.gL S.bt (lf hS.lim) (lf hS.gL) (lf hS.bt)
 refine aq.aj Tryz.func23 Tryz.ntmps23 fun G F R hE=>?_
 refine go ?_
 refine aJ (fun w=>Sat G w ([ag nB (cl [ptr nb] 29),ag sB (cl (yz S) 33)])) (cM 0 7 (.act 7 (cM 8 5 (.act 13 (.st 14 .nil))))) rfl ae ae ae cY ?_
 refine go ?_
 ((refine cP zr zr zr zr (hc) ah ?_ (fun _ _ w hp hw=>by obtain⟨_,rfl,rfl⟩:=hp;exact hw.cn ah)))
 rintro _ _⟨kb,rfl,rfl⟩
 refine go ?_
 (refine aY ?_;(refine bG 2 cY zr zr zr zr zr zr zr zr zr ?_))
 refine go ?_
 refine ad hE Tryz.func23 zr zr ⟨kb,rfl,rfl⟩
def Di(hi:1≤id∧id≤65536):aq Tryz.prog 21 [ptr iB,ptr sB,ptr nB] [ag nB (cl [ptr nb] 29),ag nb (cl (zS id S v1 v2 v3 v4 v5 pv ms mg br) 73),ag sB (cl (yz S) 33),ag iB (cl [.int .i64 id] 3)]
  (fun r H=>∃bv,r = .int .i64 0∧H=[ag nB (cl [ptr nb] 29),ag nb (cl (zS id S v1 v2 (ptr bv) v4 v5 pv ms mg br) 73),ag sB (cl (yz S) 33),ag iB (cl [.int .i64 id] 3),bM bv ⟨⟨id,0,1,0⟩,S.bt,[]⟩]):=by
 have hc:=JY id S.bt (lf hi) (lf hS.bt)
 refine aq.aj Tryz.func21 Tryz.ntmps21 fun G F R hE=>?_
 refine go ?_
 refine aJ (fun w=>Sat G w ([ag nB (cl [ptr nb] 29),ag sB (cl (yz S) 33),ag iB (cl [.int .i64 id] 3)])) (cM 0 4 (.act 4 (cM 5 5 (.act 10 (.st 11 .nil))))) rfl ae ae ae cY ?_
 refine go ?_
 ((refine cP zr zr zr zr (hc) ah ?_ (fun _ _ w hp hw=>by obtain⟨_,rfl,rfl⟩:=hp;exact hw.cn ah)))
 rintro _ _⟨bv,rfl,rfl⟩
 refine go ?_
 (refine aY ?_;(refine bG 2 cY zr zr zr zr zr zr zr zr zr ?_))
 refine go ?_
 refine ad hE Tryz.func21 zr zr ⟨bv,rfl,rfl⟩
def Dl(X:HP)(hK:pt X)(room:Nat):aq Tryz.prog 17 [ptr dB,ptr sB,ptr nB] [ag nB (cl [ptr nb] 29),ag nb (cl (zS id S v1 v2 v3 v4 v5 pv ms mg br) 73),ag sB (cl (yz S) 33),ag dB (cl [ptr bd] 25),aB bd (Ab.new room),X]
  (fun r H=>∃bs mb,nU (Ab.new room) 0 (Ab.new room)∧r = .int .i64 0∧H=[ag nB (cl [ptr nb] 29),ag nb (cl (zS id S (ptr bs) v2 v3 v4 v5 pv ms mg br) 73),ag sB (cl (yz S) 33),ag dB (cl [ptr bd] 25),ag bs (cl (cF bd S.dZ mb false) 120),aC dV mb (dP []),aB bd (Ab.new room),X]):=by
 have hc:=zn X hK bd S.dZ hS.q room
 refine aq.aj Tryz.func17 Tryz.ntmps17 fun G F R hE=>?_
 refine go ?_
 refine aJ (fun w=>Sat G w ([ag nB (cl [ptr nb] 29),ag sB (cl (yz S) 33),ag dB (cl [ptr bd] 25)])) (cM 0 4 (.act 4 (cM 5 5 (.act 10 (.st 11 .nil))))) rfl ae ae ae cY ?_
 refine go ?_
 refine dx hc ?_
 rintro _ _⟨bs,mb,ho,rfl,rfl⟩
 refine aS (H':=ag nB (cl [ptr nb] 29)::ag nb (cl (zS id S v1 v2 v3 v4 v5 pv ms mg br) 73)::ag sB (cl (yz S) 33)::ag dB (cl [ptr bd] 25)::ag bs (cl (cF bd S.dZ mb false) 120)::aC dV mb (dP [])::aB bd (Ab.new room)::X::F) ah (go ?_)
 (refine aY ?_;(refine bG 1 cY zr zr zr zr zr zr zr zr zr ?_))
 refine go ?_
 refine ad hE Tryz.func17 zr zr ⟨bs,mb,ho,rfl,rfl⟩
def Dj(X:HP)(hK:pt X)(room:Nat)(hr:64≤room)(ho:nU (Ab.new room) 0 (Ab.new room))(bs mb:Nat):aq Tryz.prog 19 [ptr dB,ptr nB] [ag nB (cl [ptr nb] 29),ag nb (cl (zS id S (ptr bs) v2 v3 v4 v5 pv ms mg br) 73),ag dB (cl [ptr bd] 25),ag bs (cl (cF bd S.dZ mb false) 120),aC dV mb (dP []),aB bd (Ab.new room),X]
  (fun r H=>∃(t:SJ) (tb jb:Nat) (tv:Value),QD t∧r = .int .i64 0∧H=ag nB (cl [ptr nb] 29)::ag nb (cl (zS id S (ptr bs) (ptr tb) v3 v4 v5 pv ms mg br) 73)::ag dB (cl [ptr bd] 25)::kP bs bd jb S.dZ mb [] t::X::ff tb bs jb tv [] false):=by
 have hc:=yN X hK bs bd S.dZ hS.q mb room hr ho
 unfold ff at hc ⊢
 refine aq.aj Tryz.func19 Tryz.ntmps19 fun G F R hE=>?_
 refine go ?_
 refine aJ (fun w=>Sat G w ([ag nB (cl [ptr nb] 29),ag dB (cl [ptr bd] 25)])) (cM 0 5 (.act 5 (.act 6 (cM 7 5 (.act 12 (.st 13 .nil)))))) rfl ae ae ae cY ?_
 refine go ?_
 refine dx hc ?_
 rintro _ _⟨t,tb,jb,tv,hq,rfl,rfl⟩
 refine aS (H':=ag nB (cl [ptr nb] 29)::ag nb (cl (zS id S (ptr bs) v2 v3 v4 v5 pv ms mg br) 73)::ag dB (cl [ptr bd] 25)::kP bs bd jb S.dZ mb [] t::X::ag tb (cl [ptr bs,ptr jb,tv,.bool false] 131)::aI 133 1 tv ([]:List Tk).length (([]:List Tk).map eK)::bZ []::F) ah (go ?_)
 (refine aY ?_;(refine bG 1 cY zr zr zr zr zr zr zr zr zr ?_))
 refine go ?_
 refine ad hE Tryz.func19 zr zr ⟨t,tb,jb,tv,hq,rfl,rfl⟩
end
end Go.Proofs.YtnkfkabokmcgoaaGreatDoor
namespace Go.Proofs.YtnkfkabokmcgoaaGreatDoor
open Go Go.SL
attribute [local irreducible] J K aq Ends ag aI aC bF aW aP a6 aZ bN aB kP bM jN pB wh bZ
section
variable(nb nB dB sB iB bd:Nat)(id:Int)(S:Cs)(hS:NC S)(v1 v2 v3 v4 v5 pv:Value)(ms mg:Nat)(br:Bool)
include hS
def Df:aq Tryz.prog 25 [ptr sB,ptr nB] [ag nB (cl [ptr nb] 29),ag nb (cl (zS id S v1 v2 v3 v4 v5 pv ms mg br) 73),ag sB (cl (yz S) 33)]
  (fun r H=>∃hb,r = .int .i64 0∧H=[ag nB (cl [ptr nb] 29),ag nb (cl (zS id S v1 v2 v3 v4 (ptr hb) pv ms mg br) 73),ag sB (cl (yz S) 33),wh hb S.bD 3 0 0 none [] ]):=by
 have h1:=hS.bD
 have h0:yT S.bD 3=0:=by unfold yT;rw[if_neg ai]
 have hc:aq Tryz.prog 26 [.int .i64 S.bD,.int .i64 3] [] (fun r H=>∃b,r = .tuple #[ptr b,.int .i64 0]∧H=[wh b S.bD 3 0 0 none [] ]):=aq.post (KR S.bD 3) fun v H h=>by
  rcases h with⟨h,_⟩|⟨_,b,h1,h2⟩
  ·exact absurd (h0.symm.trans h) (by decide)
  ·exact⟨b,h1,h2⟩
 refine aq.aj Tryz.func25 Tryz.ntmps25 fun G F R hE=>?_
 refine go ?_
 refine aJ (fun w=>Sat G w ([ag nB (cl [ptr nb] 29),ag sB (cl (yz S) 33)])) (cM 0 3 (.act 3 (cM 4 5 (.act 9 (.st 10 .nil))))) rfl ae ae ae cY ?_
 refine go ?_
 ((refine cP zr zr zr zr (hc) ah ?_ (fun _ _ w hp hw=>by obtain⟨_,rfl,rfl⟩:=hp;exact hw.cn ah)))
 rintro _ _⟨hb,rfl,rfl⟩
 refine go ?_
 (refine aY ?_;(refine bG 2 cY zr zr zr zr zr zr zr zr zr ?_))
 refine go ?_
 refine ad hE Tryz.func25 zr zr ⟨hb,rfl,rfl⟩
end
end Go.Proofs.YtnkfkabokmcgoaaGreatDoor
namespace Go.Proofs.YtnkfkabokmcgoaaGreatDoor
open Go Go.SL
attribute [local irreducible] J K aq Ends ag aI aC bF aW aP a6 aZ bN aB kP bM jN pB wh bZ
def yi(X:HP)(hK:pt X)(bd:Nat)(id:Int)(S:Cs)(hS:NC S)(hi:1≤id∧id≤65536)(room:Nat)(hr:64≤room) :
  aq Tryz.prog 7 [.int .i64 id,ptr bd,.agg (yz S).toArray] [aB bd (Ab.new room),X]
  (fun r H=>∃(nb st tb bv kb hb ms mg jb mb:Nat) (tv:Value) (t:SJ),QD t∧r = .tuple #[ptr nb,.int .i64 0] ∧
   H=ag nb (cl (dG id S st tb bv kb hb (.slice none 0 0) ms mg false) 73)::aC dV ms []::bM bv ⟨⟨id,0,1,0⟩,S.bt,[]⟩::aC (Value.int .i64) mg []::jN kb S.lim S.gL S.bt::wh hb S.bD 3 0 0 none []::kP st bd jb S.dZ mb [] t::X::ff tb st jb tv [] false):=by
 refine aq.aj Tryz.func7 Tryz.ntmps7 fun G F R hE=>?_
 refine aH rfl ?_
 refine bp zr zr bh ?_
 intro iB
 refine bp zr zr bh ?_
 intro dB
 refine bp zr zr bh ?_
 intro sB
 refine go ?_
 refine aw (kA id 1 65536) ?_
 rw[lf hi]
 refine go ?_
 refine aM (U:=aU) (l:=yz S) 0 zr zr zr zr zr zr (go ?_)
 refine dN rfl bh ?_
 intro ms
 refine aS (ao.fold (B:=[_]) (A:=aC dV ms []) (fun h hs=>⟨h,sub.refl h,fO dV ms h (cW hs)⟩)) ?_
 refine go ?_
 refine dN rfl bh ?_
 intro mg
 refine aS (ao.fold (B:=[_]) (A:=aC (Value.int .i64) mg []) (fun h hs=>⟨h,sub.refl h,fO (Value.int .i64) mg h (cW hs)⟩)) ?_
 refine go ?_
 refine bp zr zr bh ?_
 intro nb
 refine go ?_
 refine az zr zr zr bh ?_
 intro nB
 refine go ?_
 refine my (U:=aU) zr zr zr zr zr zr (go ?_)
 refine az zr zr zr bh ?_
 intro b9
 refine go ?_
 refine aM (U:=aU) (l:=[.func (.func 17) #[] #[ptr dB,ptr sB,ptr nB],.func (.func 19) #[] #[ptr dB,ptr nB],.func (.func 21) #[] #[ptr iB,ptr sB,ptr nB],.func (.func 23) #[] #[ptr sB,ptr nB],.func (.func 25) #[] #[ptr sB,ptr nB],.func (.func 27) #[] #[ptr nB] ]) 0 zr zr zr zr zr zr (go ?_)
 refine oG rfl (go ?_)
 refine ez zr zr zr zr zr zr zr zr (by simp) (by simp) rfl (go ?_)
 refine iC zr zr zr zr (Dl nb nB dB sB bd id S hS (.pointer none) (.pointer none) (.pointer none) (.pointer none) (.pointer none) (.slice none 0 0) ms mg false X hK room) ah ?_ iE
 rintro _ _⟨st,mb,ho,rfl,rfl⟩
 refine go ?_
 refine j8 rfl (go ?_)
 refine ez zr zr zr zr zr zr zr zr (by simp) (by simp) rfl (go ?_)
 refine iC zr zr zr zr (Dj nb nB dB bd id S hS (.pointer none) (.pointer none) (.pointer none) (.pointer none) (.slice none 0 0) ms mg false X hK room hr ho st mb) ah ?_ iE
 rintro _ _⟨t,tb,jb,tv,hq,rfl,rfl⟩
 unfold ff
 refine aS (H':=ag nB (cl [ptr nb] 29)::ag nb (cl (zS id S (ptr st) (ptr tb) (.pointer none) (.pointer none) (.pointer none) (.slice none 0 0) ms mg false) 73)::ag sB (cl (yz S) 33)::ag iB (cl [.int .i64 id] 3)::aC dV ms []::aC (Value.int .i64) mg []::kP st bd jb S.dZ mb [] t::X::ag tb (cl [ptr st,ptr jb,tv,.bool false] 131)::aI 133 1 tv ([]:List Tk).length (([]:List Tk).map eK)::bZ []::F) ah (go ?_)
 refine j8 rfl (go ?_)
 refine ez zr zr zr zr zr zr zr zr (by simp) (by simp) rfl (go ?_)
 refine iC zr zr zr zr (Di nb nB sB iB id S hS (ptr st) (ptr tb) (.pointer none) (.pointer none) (.pointer none) (.slice none 0 0) ms mg false hi) ah ?_ iE
 rintro _ _⟨bv,rfl,rfl⟩
 refine go ?_
 refine j8 rfl (go ?_)
 refine ez zr zr zr zr zr zr zr zr (by simp) (by simp) rfl (go ?_)
 refine iC zr zr zr zr (Dh nb nB sB id S hS (ptr st) (ptr tb) (ptr bv) (.pointer none) (.pointer none) (.slice none 0 0) ms mg false) ah ?_ iE
 rintro _ _⟨kb,rfl,rfl⟩
 refine go ?_
 refine j8 rfl (go ?_)
 refine ez zr zr zr zr zr zr zr zr (by simp) (by simp) rfl (go ?_)
 refine iC zr zr zr zr (Df nb nB sB id S hS (ptr st) (ptr tb) (ptr bv) (ptr kb) (.pointer none) (.slice none 0 0) ms mg false) ah ?_ iE
 rintro _ _⟨hb,rfl,rfl⟩
 refine go ?_
 refine j8 rfl (go ?_)
 refine ez zr zr zr zr zr zr zr zr (by simp) (by simp) rfl (go ?_)
 refine iC zr zr zr zr (De nb nB id S hS (ptr st) (ptr tb) (ptr bv) (ptr kb) (ptr hb) (.slice none 0 0) ms mg false) ah ?_ iE
 rintro _ _⟨rfl,rfl⟩
 refine go ?_
 refine j8 rfl (go ?_)
 refine ak (H':=ag nb (cl (dG id S st tb bv kb hb (.slice none 0 0) ms mg false) 73)::aC dV ms []::bM bv ⟨⟨id,0,1,0⟩,S.bt,[]⟩::aC (Value.int .i64) mg []::jN kb S.lim S.gL S.bt::wh hb S.bD 3 0 0 none []::kP st bd jb S.dZ mb [] t::X::ag tb (cl [ptr st,ptr jb,tv,.bool false] 131)::aI 133 1 tv ([]:List Tk).length (([]:List Tk).map eK)::bZ []::F) ah ?_
 refine ad hE Tryz.func7 zr zr ⟨nb,st,tb,bv,kb,hb,ms,mg,jb,mb,tv,t,hq,rfl,rfl⟩
end Go.Proofs.YtnkfkabokmcgoaaGreatDoor
namespace Go.Proofs.YtnkfkabokmcgoaaGreatDoor
open Go Go.SL
def FG(bs bd jb:Nat)(q:Int)(mb:Nat)(x:SJ)(F:List HP):ao (kP bs bd jb q mb [] x::F) (ag bs (cl (cF bd q mb x.1.brk) 120)::aB bd x.1.A::F):=by
 unfold kP oW
 refine(ao.cX _ _).trans ?_
 simp only[List.cons_append,List.nil_append]
 exact ah
attribute [local irreducible] J K aq Ends ag aI aC bF aW aP a6 aZ bN aB kP bM jN pB wh bZ
def BG(X:HP)(hK:pt X):aq Tryz.prog 4 [] [X] (fun r H=>r = .bool true∧H=[X]):=by
 refine aq.aj Tryz.func4 Tryz.ntmps4 fun G F R hE=>?_
 refine go ?_
 refine aF (Er 1048576 ai ai) ?_
 rintro _ _⟨bd,rfl,rfl⟩
 refine go ?_
 refine aw wX ?_
 refine go ?_
 refine aF (yi X hK bd 7 dU I7 ai 1048576 ai) ?_
 rintro _ _⟨nb,st,tb,bv,kb,hb,ms,mg,jb,mb,tv,t,hq,rfl,rfl⟩
 have hN:=hq.nil
 refine aS (H':=ag nb (cl (dG 7 dU st tb bv kb hb (.slice none 0 0) ms mg false) 73)::bM bv ⟨⟨7,0,1,0⟩,dU.bt,[]⟩::jN kb dU.lim dU.gL dU.bt::pB hb dU.bD 0::aC (Value.int .i64) mg (gE [])::ag st (cl (cF bd dU.dZ mb t.1.brk) 120)::aB bd t.1.A::X::F) (ao.trans (H2:=kP st bd jb dU.dZ mb [] t::wh hb dU.bD 3 0 0 none []::ag nb (cl (dG 7 dU st tb bv kb hb (.slice none 0 0) ms mg false) 73)::bM bv ⟨⟨7,0,1,0⟩,dU.bt,[]⟩::jN kb dU.lim dU.gL dU.bt::aC (Value.int .i64) mg []::X::F) ah ((FG st bd jb dU.dZ mb t _).trans (ao.trans (H2:=wh hb dU.bD 3 0 0 none []::ag st (cl (cF bd dU.dZ mb t.1.brk) 120)::aB bd t.1.A::ag nb (cl (dG 7 dU st tb bv kb hb (.slice none 0 0) ms mg false) 73)::bM bv ⟨⟨7,0,1,0⟩,dU.bt,[]⟩::jN kb dU.lim dU.gL dU.bt::aC (Value.int .i64) mg []::X::F) ah ((og hb dU.bD 0 0 none [] (by decide) (fun _=>rfl) _).trans ah)))) ?_
 refine go ?_
 refine my (U:=aU) (cs:=dC d5) zr zr zr zr zr zr (go ?_)
 refine aF (HL nb 7 dU st tb bv kb hb ms mg bd dU.dZ mb t.1.brk t.1.A d5 (hN.noI d5)) ?_
 rintro _ _⟨p,hpd,rfl,rfl⟩
 refine go ?_
 refine aF (yf nb 7 dU st tb bv kb hb ms mg (some p) bd dU.dZ mb t.1.brk t.1.A (fun _ _=>hN.noI _) ⟨⟨7,0,1,0⟩,dU.bt,[]⟩ (qi.new 7 5 ai) [] (by simp) (by simp) (fun k hk=>by simp at hk) 0 1 0 ai (by decide) (by decide)) ?_
 rintro _ _⟨⟨n,oa,oc,co,la,ln,lc⟩,e,V',r',g',pv',rfl,he,qC,hV',hm',Iw,Iv,hg',Y7,rfl⟩
 obtain rfl:=he (by decide)
 have WV:V'.ks=[]:=List.eq_nil_of_length_eq_zero (Nat.le_zero.1 Iw)
 obtain⟨hn,hc⟩:=qC WV rfl
 simp only[U9,plO]at hn hc
 subst hn hc
 refine NL 0 rfl (by show 0<1;omega) ?_
 intro ob oo YA dW DA
 simp only[Value.slice.injEq,true_and]at dW
 obtain⟨rfl,rfl⟩:=dW
 refine go ?_
 refine bX 0 40 zr zr zr zr zr zr zr zr (by show 0<1;omega) ?_
 refine go ?_
 refine aT ?_
 refine aN 0 (0*40+1) zr zr zr DA (Nat.add_assoc _ _ _) zr zr zr (go ?_)
 refine ak (H':=X::F) ah ?_
 refine ad hE Tryz.func4 zr zr ⟨rfl,rfl⟩
def wo(X:HP)(hK:pt X)(v:Value)(l:List mP)(hs:zt X v l):aq Tryz.prog 3 [v] [X] (fun r H=>r = .bool true∧H=[X]):=by
 obtain⟨hv,hl,Ke⟩:=hs
 obtain⟨a,c,rfl⟩:=hv.shape
 refine aq.aj Tryz.func3 Tryz.ntmps3 fun G F R hE=>?_
 refine go ?_
 refine aw (BG X hK) ?_
 refine go ?_
 refine aF (Dr X _ l hv hl Ke) ?_
 rintro _ _⟨many,rfl,rfl,pj⟩
 refine go ?_
 refine aF (Er 16777216 ai ai) ?_
 rintro _ _⟨bd,rfl,rfl⟩
 cases many with
 | true =>
  refine go ?_
  refine ak (H':=X::F) ah ?_
  refine ad hE Tryz.func3 zr zr ⟨rfl,rfl⟩
 | false =>
 have pj:=pj rfl
 refine go ?_
 refine aw wX ?_
 refine go ?_
 refine aF (yi X hK bd 7 dU I7 ai 16777216 ai) ?_
 rintro _ _⟨nb,st,tb,bv,kb,hb,ms,mg,jb,mb,tv,t,hq,rfl,rfl⟩
 have hN:=hq.nil
 unfold ff
 refine aS (H':=ag nb (cl (dG 7 dU st tb bv kb hb (.slice none 0 0) ms mg false) 73)::bM bv ⟨⟨7,0,1,0⟩,dU.bt,[]⟩::jN kb dU.lim dU.gL dU.bt::pB hb dU.bD 0::aC (Value.int .i64) mg (gE [])::aC dV ms []::ag st (cl (cF bd dU.dZ mb t.1.brk) 120)::aB bd t.1.A::X::ag tb (cl [ptr st,ptr jb,tv,.bool false] 131)::aI 133 1 tv ([]:List Tk).length (([]:List Tk).map eK)::bZ []::F) (ao.trans (H2:=kP st bd jb dU.dZ mb [] t::wh hb dU.bD 3 0 0 none []::ag nb (cl (dG 7 dU st tb bv kb hb (.slice none 0 0) ms mg false) 73)::bM bv ⟨⟨7,0,1,0⟩,dU.bt,[]⟩::jN kb dU.lim dU.gL dU.bt::aC (Value.int .i64) mg []::aC dV ms []::X::ag tb (cl [ptr st,ptr jb,tv,.bool false] 131)::aI 133 1 tv ([]:List Tk).length (([]:List Tk).map eK)::bZ []::F) ah ((FG st bd jb dU.dZ mb t _).trans (ao.trans (H2:=wh hb dU.bD 3 0 0 none []::ag st (cl (cF bd dU.dZ mb t.1.brk) 120)::aB bd t.1.A::ag nb (cl (dG 7 dU st tb bv kb hb (.slice none 0 0) ms mg false) 73)::bM bv ⟨⟨7,0,1,0⟩,dU.bt,[]⟩::jN kb dU.lim dU.gL dU.bt::aC (Value.int .i64) mg []::aC dV ms []::X::ag tb (cl [ptr st,ptr jb,tv,.bool false] 131)::aI 133 1 tv ([]:List Tk).length (([]:List Tk).map eK)::bZ []::F) ah ((og hb dU.bD 0 0 none [] (by decide) (fun _=>rfl) _).trans ah)))) ?_
 refine go ?_
 refine bn (fun y:Nat × Wv=>y.1≤l.length∧y.1≤100∧qo dU.bt y.1 y.2) (fun y=>l.length-y.1)
  (fun y=>[(0,.slice a l.length c),(7,ptr nb),(8,.int .i64 (y.1:Int))])
  (fun y=>ag nb (cl (dG 7 dU st tb bv kb hb (.slice none 0 0) ms mg false) 73)::bM bv y.2.V::jN kb dU.lim dU.gL dU.bt::pB hb dU.bD y.2.r::aC (Value.int .i64) mg (gE y.2.g)::aC dV ms []::ag st (cl (cF bd dU.dZ mb t.1.brk) 120)::aB bd t.1.A::X::ag tb (cl [ptr st,ptr jb,tv,.bool false] 131)::aI 133 1 tv ([]:List Tk).length (([]:List Tk).map eK)::bZ []::F)
  (0,⟨⟨⟨7,0,1,0⟩,dU.bt,[]⟩,[],0⟩) ⟨Nat.zero_le _,ai,⟨qi.new 7 5 ai,by simp,by simp[dU],fun k hk=>by simp at hk,by simp⟩⟩ rfl bQ ah ?_
 rintro⟨i,V,g,r⟩⟨hi,L1,hJ⟩ ih
 simp only at hi L1 hJ
 by_cases gR:i<l.length∧i<100
 case neg =>
  refine go ?_
  by_cases h1:i<l.length
  ·refine aD 53 ((.bool true)) rfl ((congrArg Value.bool (decide_eq_true ai))) (go ?_)
   ((refine aV 56 ((.bool false)) rfl ((congrArg Value.bool (decide_eq_false (by simp only;omega)))) ?_))
   refine go ?_
   refine ak (H':=X::F) ah ?_
   refine ad hE Tryz.func3 zr zr ⟨rfl,rfl⟩
  ·refine aD 53 ((.bool false)) rfl ((congrArg Value.bool (decide_eq_false ai))) (go ?_)
   refine ak (H':=X::F) ah ?_
   refine ad hE Tryz.func3 zr zr ⟨rfl,rfl⟩
 obtain⟨xF,ab2⟩:=gR
 obtain⟨s,hx⟩:∃s,l[i]?=some s:=⟨l[i],by simp⟩
 have rZ:=Ke _ (List.mem_of_getElem? hx)
 have iF:=pj i s ai hx
 have Hc:=rZ.m.at_ iF.ids iF.bytes iF.proof iF.eT
 obtain⟨sd,sf,sn,si,sN,sc,⟨wi,wb,wp,wm⟩,m,sh,ba,bc,b,seed⟩:=s
 have Ir:=Hc.vi
 have Vr:=Hc.vb.1
 have N1:=Hc.vp.1
 have vH:=Hc.vm
 simp only at Ir Vr N1 vH
 obtain⟨ia,ic,rfl⟩:=Ir.shape
 obtain⟨xa,xc,rfl⟩:=Vr.shape
 obtain⟨pa,pc,rfl⟩:=N1.shape
 obtain⟨ma,mc,rfl⟩:=vH.shape
 simp only at Hc
 have dX:∀(j:Nat) (u:Value),(jR ⟨sd,sf,sn,si,sN,sc,⟨.slice ia m.ids.length ic,.slice xa m.bytes.length xc,.slice pa m.proof.length pc,.slice ma m.eT.length mc⟩,m,sh,ba,bc,b,seed⟩)[j]?=some u→(l.flatMap jR)[i*79+j]?=some u:=fun j u hj=>by
  have vJ:j<79:=by
   rcases Nat.lt_or_ge j 79 with h|h
   ·exact h
   ·rw[List.getElem?_eq_none (by rw[lq];exact h)]at hj;cases hj
  rw[tH hx j vJ];exact hj
 obtain⟨bb,oo,cc,dW⟩:=hv.some (by rw[← List.length_pos_iff,bI lq];omega)
 simp only[Value.slice.injEq,true_and]at dW
 obtain⟨rfl,rfl⟩:=dW
 refine go ?_
 refine aD 53 ((.bool true)) rfl ((congrArg Value.bool (decide_eq_true ai))) (go ?_)
 ((refine aV 56 ((.bool true)) rfl ((congrArg Value.bool (decide_eq_true (by simp only;omega)))) ?_))
 refine ak (H':=X::ag nb (cl (dG 7 dU st tb bv kb hb (.slice none 0 0) ms mg false) 73)::bM bv V::jN kb dU.lim dU.gL dU.bt::pB hb dU.bD r::aC (Value.int .i64) mg (gE g)::aC dV ms []::ag st (cl (cF bd dU.dZ mb t.1.brk) 120)::aB bd t.1.A::ag tb (cl [ptr st,ptr jb,tv,.bool false] 131)::aI 133 1 tv ([]:List Tk).length (([]:List Tk).map eK)::bZ []::F) ah (go ?_)
 refine bX i 79 zr zr zr zr zr zr zr zr xF (go ?_)
 refine bW (U:=aU) (es:=jR ⟨sd,sf,sn,si,sN,sc,⟨.slice ia m.ids.length ic,.slice xa m.bytes.length xc,.slice pa m.proof.length pc,.slice ma m.eT.length mc⟩,m,sh,ba,bc,b,seed⟩) 0 (i*79) zr zr zr hv rfl dX zr zr zr (go ?_)
 refine az zr zr zr bh ?_
 intro b9
 refine go ?_
 refine gT rfl ?_
 refine ak (H':=ag b9 (cl (jR ⟨sd,sf,sn,si,sN,sc,⟨.slice ia m.ids.length ic,.slice xa m.bytes.length xc,.slice pa m.proof.length pc,.slice ma m.eT.length mc⟩,m,sh,ba,bc,b,seed⟩) 45)::ag nb (cl (dG 7 dU st tb bv kb hb (.slice none 0 0) ms mg false) 73)::bM bv V::jN kb dU.lim dU.gL dU.bt::pB hb dU.bD r::aC (Value.int .i64) mg (gE g)::aC dV ms []::ag st (cl (cF bd dU.dZ mb t.1.brk) 120)::aB bd t.1.A::X::ag tb (cl [ptr st,ptr jb,tv,.bool false] 131)::aI 133 1 tv ([]:List Tk).length (([]:List Tk).map eK)::bZ []::F) ah ?_
 refine yk 1 (fun y:Wv=>qo dU.bt (i+1) y) (fun _=>[(0,.slice (some ⟨bb,oo,none⟩) l.length c),(7,ptr nb),(8,.int .i64 (i:Int))]) (fun y=>ag nb (cl (dG 7 dU st tb bv kb hb (.slice none 0 0) ms mg false) 73)::bM bv y.V::jN kb dU.lim dU.gL dU.bt::pB hb dU.bD y.r::aC (Value.int .i64) mg (gE y.g)::aC dV ms []::ag st (cl (cF bd dU.dZ mb t.1.brk) 120)::aB bd t.1.A::X::ag tb (cl [ptr st,ptr jb,tv,.bool false] 131)::aI 133 1 tv ([]:List Tk).length (([]:List Tk).map eK)::bZ []::F) rfl ?_ ?_
 ·rintro⟨V1,g1,r1⟩ Kk
  simp only at Kk ⊢
  have hta:=BR nb 7 dU st tb bv kb hb ms mg (.slice none 0 0) false jb tv false
  unfold ff at hta
  refine go ?_
  refine aF (zC nb 7 dU st tb bv kb hb ms mg (.slice none 0 0) false bd dU.dZ mb t.1.brk t.1.A hN.im) ?_
  rintro _ _⟨ra,rc,rfl,rfl⟩
  refine go ?_
  refine aF hta ?_
  rintro _ _⟨ra1,rc1,rfl,rfl⟩
  refine go ?_
  refine aw (BS nb 7 dU st tb bv kb hb ms mg (.slice none 0 0) false) ?_
  refine go ?_
  refine aK ih (i+1,⟨V1,g1,r1⟩) rfl ⟨by simp only;omega,by simp only;omega,Kk⟩ (by simp only;omega) bQ ah
 intro tail
 by_cases h0:sd=0
 ·refine aV 65 ((.bool true)) rfl ((congrArg Value.bool (decide_eq_true h0))) ?_
  have hlen:=hJ.len
  have hrr:=hJ.r
  have hp5:dU.bt=5:=rfl
  simp only at hlen hrr
  have ki:=yf nb 7 dU st tb bv kb hb ms mg none bd dU.dZ mb t.1.brk t.1.A (fun p h=>by cases h) V hJ.v g hJ.nd ai hJ.i64 r sn seed ai (by decide) (by decide)
  simp only[Ij,U',U9,plO]at ki
  refine go ?_
  refine aS (ao.jw _) ?_
  refine aF ki ?_
  rintro _ _⟨⟨n,oa,oc,co,la,ln,lc⟩,e,V',r',g',pv',rfl,he,qC,hV',hm',Iw,Iv,hg',Y7,rfl⟩
  obtain rfl:=Y7 trivial
  have DG:=hJ.tick hV' (by decide) Iv hg'
  simp only at qC
  refine go ?_
  by_cases vL:e=0
  ·subst vL
   refine aD 78 ((.bool true)) rfl ((congrArg Value.bool (decide_eq_true rfl))) (go ?_)
   refine aF (zB nb 7 dU st tb bv kb hb ms mg (.slice none 0 0) false V' hV') ?_
   rintro rm _⟨L,hL,rfl⟩
   refine aL 0 rfl ?_
   rintro ra rc rfl
   refine go ?_
   by_cases hL0:L.length=0
   ·have MU:V'.ks=[]:=List.eq_nil_of_length_eq_zero ai
    obtain⟨rfl,-⟩:=qC MU rfl
    refine aD 84 ((.bool true)) rfl ((congrArg Value.bool (decide_eq_true ai))) ?_
    refine qE ?_
    refine iU zr zr ?_
    refine ml tail ⟨V',g',r'⟩ rfl DG bQ ah
   ·refine aD 84 ((.bool false)) rfl ((congrArg Value.bool (decide_eq_false ai))) ?_
    refine qE ?_
    refine iU zr zr ?_
    refine ml tail ⟨V',g',r'⟩ rfl DG bQ ah
  ·refine aD 78 ((.bool false)) rfl ((congrArg Value.bool (decide_eq_false vL))) ?_
   refine qE ?_
   refine iU zr zr ?_
   refine ml tail ⟨V',g',r'⟩ rfl DG bQ ah
 refine aV 65 ((.bool false)) rfl ((congrArg Value.bool (decide_eq_false h0))) (go ?_)
 by_cases h1:sd=1
 ·refine aV 89 ((.bool true)) rfl ((congrArg Value.bool (decide_eq_true h1))) ?_
  have ki:=HG nb 7 dU st tb bv kb hb ms mg (.slice none 0 0) bd jb dU.dZ mb t.1.brk t.1.A tv false X ⟨.slice ia m.ids.length ic,.slice xa m.bytes.length xc,.slice pa m.proof.length pc,.slice ma m.eT.length mc⟩ m Hc (hN.noF m.hash) V hJ.v g sf sn none 0 rfl
  unfold ff at ki
  refine go ?_
  refine bq (cs:=mC ⟨.slice ia m.ids.length ic,.slice xa m.bytes.length xc,.slice pa m.proof.length pc,.slice ma m.eT.length mc⟩ m) 0 zr zr zr zr zr zr (go ?_)
  refine aF ki ?_
  rintro _ _⟨V',g',hT,hk,rfl⟩
  refine qE ?_
  refine ml tail ⟨V',g',r⟩ rfl (hJ.aax hT hk) bQ ah
 ·refine aV 89 ((.bool false)) rfl ((congrArg Value.bool (decide_eq_false h1))) ?_
  refine iU zr zr ?_
  refine ml tail ⟨V,g,r⟩ rfl hJ.skip bQ ah
end Go.Proofs.YtnkfkabokmcgoaaGreatDoor
namespace Go.Proofs.YtnkfkabokmcgoaaGreatDoor
open Go Go.SL
def J3:List (String × DataW Unit):=[("math/bits.deBruijn64tab", Rows.laid_math_bits_deBruijn64tab),("starling/digest.constants", Rows.laid_starling_digest_constants)]
theorem Hz{P:Program}{H:Type}{enc:TypeId × Value→H}{W:World}{base:Nat}{spare:Nat→Bool}{held:Bool}{fuel n:Nat}{t e:TypeId}{k:IntKind}{l:List Value}{x:DataW H × List MemPlace}(ht:P.underlying t=some (.array n e))(he:P.underlying e=some (.int k))(hc:P.cellsOf e=1)(Fm:P.cellsOf t=n)(h:DataW.trod enc P W base spare held fuel t l=some x)(ns:List Int)(hx:x.1 = .agg (ns.map fun z => .lit (.int k z))):l=ns.map (Value.int k):=by
 obtain⟨xs,m,_,Io,hlen,Dz,hf⟩:=DataW.trod_array ht h
 rw[Fm]at hlen
 rw[Io]at hx
 simp only[DataW.agg.injEq]at hx
 apply List.ext_getElem?
 intro i
 rcases Nat.lt_or_ge i n with hi|hi
 ·have h1:=hf i hi
  obtain⟨y,hy⟩:∃y,xs[i]?=some y:=⟨xs[i]' (by rw[Dz];exact hi),by simp⟩
  rw[hy,hc,Nat.mul_one]at h1
  obtain⟨z,r,hz,w⟩:=DataW.trod_int he h1
  have h2:=congrArg (fun l:List Value=>l[0]?) r
  have h3:l[i]?=some (.int k z):=by simpa using h2
  have h4:=congrArg (fun l=>l[i]?) hx
  grind
 ·have LY:ns.length=n:=by have:=congrArg List.length hx;simpa[Dz]using this.symm
  grind
def NW:List Int:=Sha.ks.map fun w=>(w.toNat:Int)
def Xc:wV Sha.ks=NW.map (Value.int .u32):=by unfold wV NW;rw[List.map_map];rfl
def Vh:Rows.laid_starling_digest_constants (H:=Unit) = .agg (NW.map fun z => .lit (.int .u32 z)):=by
 unfold Rows.laid_starling_digest_constants NW Sha.ks
 simp_all
theorem oy:Tryz.prog.globalNamed "starling/digest.constants" = some 0:=by kernel_rfl
def E7:(Tryz.prog.globals[0]?).map (·.type)=some 402:=by kernel_rfl
def J4:Tryz.prog.cellsOf 402=64:=by kernel_rfl
def F3:Tryz.prog.cellsOf 319=1:=by kernel_rfl
theorem xS:Tryz.prog.globalNamed "math/bits.deBruijn64tab" = some 2:=by kernel_rfl
def Nr:(Tryz.prog.globals[2]?).map (·.type)=some 494:=by kernel_rfl
theorem wg{W:World}(h:laidMet Tryz.prog J3 W):W.var? Tryz.prog "starling/digest.constants" = some (wV Sha.ks).toArray:=by
 obtain⟨ps,⟨g0,t0,cs0,ab5,p0,q0,_,_,_,_,⟨g,t,cs,fuel,p,q,hg,ht,aaT,hd,_,_⟩,_⟩,_⟩:=h
 obtain rfl:=Option.some.inj (oy.symm.trans hg)
 obtain rfl:=Option.some.inj (E7.symm.trans ht)
 rw[aaT,Xc]
 congr 1
 have:=Hz Tryz.underlying402 Tryz.underlying319 F3 J4 hd NW Vh
 grind
theorem BV{W:World}(h:laidMet Tryz.prog J3 W):pt (old W):=by
 have hv:=wg h
 refine⟨some ⟨0,0,none⟩,64,rfl,.inr ⟨_,0,rfl,fun hp ho j c hj=>?_⟩⟩
 rw[Nat.zero_add]
 refine iT ho ?_
 rw[World.var?_cell oy hv j]
 grind
def dbI:List Int:=match Rows.laid_math_bits_deBruijn64tab (H:=Unit)with
 | .agg l=>l.map fun d=>match d with
  | .lit (.int _ z)=>z
  | _=>0
 | _=>[]
def setRow(cs:List Value):Obj→Obj
 | .cells _ t frozen => .cells cs.toArray t frozen
 | o=>o
noncomputable def ox(os:Os):World :=
 { World.holding Tryz.prog os ⟨#[],#[],[]⟩with heap:=((World.holding Tryz.prog os ⟨#[],#[],[]⟩).heap.modify 0 (setRow (NW.map (Value.int .u32)))).modify 2 (setRow (dbI.map (Value.int .u8))) }
def vW(os:Os)(args:Array Value):((ox os).forCall (fun _ _=>0) ⟨#[],args,[]⟩).memory.heap[0]?=some (.cells (NW.map (Value.int .u32)).toArray 402 (0,0)):=by kernel_rfl
def uo(os:Os)(args:Array Value):((ox os).forCall (fun _ _=>0) ⟨#[],args,[]⟩).memory.heap[2]?=some (.cells (dbI.map (Value.int .u8)).toArray 494 (0,0)):=by kernel_rfl
theorem wY(g n:Nat):(MemPlace.row ⟨g,0,none⟩ n).Nodup:=by
 unfold MemPlace.row
 refine List.Pairwise.map (R:=fun a b=>a≠b) _ (fun i j G1 e=>G1 ?_) List.nodup_range
 grind
theorem wZ{g n b off:Nat}(h:MemPlace.cell b off∈MemPlace.row ⟨g,0,none⟩ n):b=g:=by
 simp only[MemPlace.row,List.mem_map]at h
 grind
theorem As{g n:Nat}{x:MemPlace}(h:x∈MemPlace.row ⟨g,0,none⟩ n):∃off,x = .cell g off:=by
 simp only[MemPlace.row,List.mem_map]at h
 grind
theorem vX(os:Os)(args:Array Value):laidMet Tryz.prog J3 ((ox os).forCall (fun _ _=>0) ⟨#[],args,[]⟩).memory:=by
 have Y3:=vW os args
 have N5:=uo os args
 refine⟨_,⟨2,494,(dbI.map (Value.int .u8)).toArray,8,[],_,xS,Nr,?_,?_,⟨0,402,(NW.map (Value.int .u32)).toArray,8,[],[],oy,E7,?_,?_,rfl,rfl⟩,rfl⟩,?_,?_⟩
 ·unfold World.var?
  grind [xS]
 ·kernel_rfl
 ·unfold World.var?
  grind [oy]
 ·kernel_rfl
 ·rw[List.append_nil,List.append_nil,List.append_nil]
  refine List.nodup_append.2 ⟨wY _ _,wY _ _,fun a ha b hb e=>?_⟩
  obtain⟨o1,rfl⟩:=As ha
  obtain⟨o2,rfl⟩:=As hb
  simp at e
 ·intro b off h
  simp only[List.append_nil,List.mem_append]at h
  rcases h with h|h
  ·have hb:=wZ h
   subst hb
   refine⟨⟨_,_,N5⟩,fun u v hc=>?_⟩
   simp only[World.cell?,N5]at hc
   grind
  ·have hb:=wZ h
   subst hb
   refine⟨⟨_,_,Y3⟩,fun u v hc=>?_⟩
   simp only[World.cell?,Y3]at hc
   grind
end Go.Proofs.YtnkfkabokmcgoaaGreatDoor
namespace Go.Proofs.YtnkfkabokmcgoaaGreatDoor.nodeQuiet
open Go Go.SL
open Go.ChangeShapes Go.WideShapes Go.ChangeAt Go.RowKit
open Go.ChangeMaps (open_string shut_string)
def own:ownKnob Tryz.prog.godebug=none:=by kernel_rfl
def laidOut:laidOutB Tryz.prog=true:=by kernel_rfl
def lifted(os:Os)(started:os.Started)(H:Type)(enc:TypeId × Value→H) :
  ReturnsInHanded {} Tryz.checked os 3 .any (fun w args=>(Rows.nodeQuietSpec.pre enc Tryz.prog Tryz.f3 Rows.nodeQuietRow.domain false w args∧laidMet Tryz.prog [("math/bits.deBruijn64tab", Rows.laid_math_bits_deBruijn64tab),("starling/digest.constants", Rows.laid_starling_digest_constants)] w)∧sizedMet enc Tryz.prog Tryz.f3 (OpenSpec.ofChange Rows.nodeQuietSpec) false w args) (Rows.nodeQuietSpec.post enc Tryz.prog Tryz.f3 false true false false):=by
 refine returnsInHanded_of_change_and (C:=Tryz.checked) (X:=fun w _=>laidMet Tryz.prog [("math/bits.deBruijn64tab", Rows.laid_math_bits_deBruijn64tab),("starling/digest.constants", Rows.laid_starling_digest_constants)] w) (fun _ _ _ hh h=>h.of_heap hh) own started ae Tryz.func3
  (ChangeSpec.witness_at (enc:=enc) (C:=Tryz.checked) (os:=os) (X:=fun w _=>laidMet Tryz.prog [("math/bits.deBruijn64tab", Rows.laid_math_bits_deBruijn64tab),("starling/digest.constants", Rows.laid_starling_digest_constants)] w) false (ox os) #[.slice none 0 0] 8 rfl ae ae ae ae ae (vX os #[.slice none 0 0])) ?_
 intro W base args ds gs before N2 hW acv _ hL _
 have YN:∀(j:Nat) t v,Tryz.f3.params[j]?=some t→args[j]?=some v→Value.okWide Tryz.prog W .any base t v:=N2
 have hW':=hW
 obtain⟨p,q,hA0,hV,rfl,hfz,gp⟩:=hW
 have hA:DataW.TrodAll enc Tryz.prog W 0 (fun _=>true) true Tryz.f3.params.toList args.toList ds p:=hA0
 rw[Tryz.params3]at hA YN
 obtain⟨v0,vs0,d0,ds0,p0,q0,e9,rfl,rfl,h0,r0⟩:=trodAll_cons hA
 obtain⟨rfl,rfl,rfl⟩:=trodAll_nil r0
 obtain rfl:args = #[v0]:=by cases args;simp_all
 obtain⟨rfl,rfl⟩:=trodVars_none hV
 obtain⟨a0,aaK,abO,rfl⟩:=okWide_slice Tryz.underlying22 (YN 0 22 v0 rfl rfl)
 have k0:=h0
 have lt0:∀x∈p0,x.block<W.heap.size:=by obtain⟨m,hm⟩:=k0;exact DataW.trod_lt m _ _ _ hm
 obtain⟨bs0,l8⟩:∃l:List mP,zt (old W) (.slice a0 aaK abO) l:=by
  obtain⟨fuel,hf⟩:=h0
  exact yP (by simpa[Value.cells]using hf)
 clear hA0 N2
 refine(Jd (wo (old W) (BV hL) _ bs0 l8)).mono fun e W' ⟨he,bel⟩=>?_
 subst he
 exact⟨_,rfl,_,_,_,[],_,[],hW',trodAll_mk1 (shut_bool Tryz.underlying4 _),(trodAll_cons_mk (Below.trod laidOut ae (of_decide_eq_true ae) k0 bel lt0) trodAll_mk0),rfl,bel.frame _,fun h=>by cases h⟩
def k10:(Rows.nodeQuietRow.inPlace == (Tryz.pinned.checked.prog).inPlace 3)=true:=by kernel_rfl
def k11:(Rows.nodeQuietRow.unfollowed == (Tryz.pinned.checked.prog).unfollowed 3)=true:=by kernel_rfl
def k12:(Rows.nodeQuietRow.recurses == (Tryz.pinned.checked.prog).recurses 3)=true:=by kernel_rfl
def k13:(Rows.nodeQuietRow.named == (Tryz.pinned.checked.prog).varsNamed 3)=true:=by kernel_rfl
def closed:joinedFacts Tryz.pinned.checked.prog 3 Tryz.f3 Rows.nodeQuietSpec Rows.nodeQuietRow=true:=by
 unfold joinedFacts
 rw[k10,k11,k12,k13]
 kernel_rfl
def proved:Rows.NodeQuietSaid :=
 OpenClaim.holds_of_wide 3 Tryz.f3 zr zr zr zr zr zr zr ⟨rfl,rfl,rfl,rfl,rfl⟩ zr zr zr zr zr ae Tryz.func3 closed
  (of_decide_eq_true ae) (by unfold Func.isWrapper;first|(rw[if_pos (by decide +kernel)];kernel_rfl)|(rw[if_neg (by decide +kernel)];exact⟨rfl,rfl⟩))
  (fun os started H enc _=>lifted os started H enc)
#print axioms proved
end Go.Proofs.YtnkfkabokmcgoaaGreatDoor.nodeQuiet
namespace Go.Proofs.YtnkfkabokmcgoaaGreatDoor
open Go
def Hh{P:Program}{c:OpenClaim}(hs:c.start = .entering)(h:P.funcs.any Func.goes=false):false=c.goesBy P:=by
 have dX:∀g:FuncId,((P.funcs[g]?).any Func.goes)=false:=fun g=>by
  cases hg:P.funcs[g]? with
  | none=>rfl
  | some fn =>
   show Func.goes fn=false
   cases hx:Func.goes fn with
   | false=>rfl
   | true =>
    have:P.funcs.any Func.goes=true:=Array.any_eq_true.2 (by
     obtain⟨cq,he⟩:=Array.getElem?_eq_some_iff.1 hg
     exact⟨g,cq,by rw[he];exact hx⟩)
    rw[h]at this;cases this
 unfold OpenClaim.goesBy Program.goesAt Program.goesFrom
 rw[hs]
 cases hf:P.funcNamed c.func with
 | none=>rfl
 | some f =>
  show false=(P.goes f || false)
  unfold Program.goes
  rw[h,Bool.and_false,Bool.or_false,Bool.or_false]
  symm
  rw[List.any_eq_false]
  intro g _
  rw[dX g]
  simp
end Go.Proofs.YtnkfkabokmcgoaaGreatDoor
namespace Go.Proofs.YtnkfkabokmcgoaaGreatDoor.nodeQuiet
open Go
def kh:(Tryz.pinned.checked.prog).funcs.any Func.goes=false:=by kernel_rfl
def kg:false=Rows.nodeQuietRow.goesBy Tryz.pinned.checked.prog:=Hh rfl kh
end Go.Proofs.YtnkfkabokmcgoaaGreatDoor.nodeQuiet
