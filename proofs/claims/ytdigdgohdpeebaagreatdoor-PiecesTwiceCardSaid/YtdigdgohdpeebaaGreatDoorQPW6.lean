import Derived.Test.YtdigdgohdpeebaaGreatDoorQPW2
import Derived.Test.YtdigdgohdpeebaaGreatDoorQPW3
import Derived.Test.YtdigdgohdpeebaaGreatDoorQPW4
import Derived.Test.YtdigdgohdpeebaaGreatDoorQPW5
import Derived.WideKeyRuns
import Derived.Laws.StructEq
set_option linter.unusedSectionVars false
set_option linter.unusedSimpArgs false
set_option linter.unusedVariables false
set_option maxRecDepth 20000
set_option linter.defProp false
namespace Go.SL
open Go
def P8{P:Program}{f:FuncId}{n:Nat}{R:Ending→World→Prop}{G:cI}{ds:List Nat}{k k0:List Item}{L:fD}{H H':List HP}{fn:Func}{F:List HP}{Post:Value→List HP→Prop}{v:Value}{Hq:List HP}(hR:Ends R G F Post)(hf:P.funcs[f]?=some fn)(hk:ir 1000 k0 = .mk (.code .ret::k))(he:ao H (ds.map (fun r=>ae r (.deferred (some [])))++H'))(Ho:∀a w,Has n L a→Sat { G with ds:=ds } w H'→(results fn a.tmps).run P w = .ok v w)(fJ:Post v Hq)(yF:ao H' (Hq++F)):K P f n R { G with ds:=ds } k0 L H:=by
 refine gL 1000 hk ?_
 intro a w ha hw cs
 have OM:({ G with ds:=ds }:cI).ro=none:=hR.1.1
 rw[OM]
 obtain⟨w',mR,hs⟩:=qb (P:=P) ds { bf none f a (.code .ret::k)with mode := .returning } cs w rfl ha.2 ⟨H',hw.cN he,rfl⟩
 exact⟨_,w',_,hR.2 _ _ w' fJ (by have:=mR.cN yF;exact this),Steps.trans (.one (stepR_ret rfl)) hs,rfl,rfl,rfl,rfl,fn,hf,Ho a w' ha.1 mR⟩
def xP{P:Program}{U:Tr}[hU:fV P U]{n:Nat}{L:fD}{a:Act}{p b:Nat}{t e:TypeId}{bQ:Ty}{u:Value}{G:cI}{w:World}{H:List HP}(i:Nat)(ha:Has n L a)(hw:Sat G w H)(hp:dT L p=some (.pointer (some ⟨b,0,none⟩)))(ht:U.get t=some bQ)(hg:bQ.isAgg=false)(hi:cE H i=some (ae b (cl [u] e))):(BV a.tmps (.cell p t)).run P w = .ok u w:=by
 have hc:w.cell? ⟨b,0,none⟩=some u:=by rw[dG (hw.tS hi)];rfl
 have O0:=oL (P:=P) (w:=w) ht hg hc
 have g1:a.tmps.getD p undef = .pointer (some ⟨b,0,none⟩):=by simp[Array.getD_eq_getD_getElem?,ha.2.2 p _ hp]
 simp only[BV,g1,asAddr,Sem.run_bind,Sem.run_pure,Result.andThen_ok]
 simpa[Instr.loadAt,Instr.sureAddr]using O0
def sN{P:Program}{U:Tr}[hU:fV P U]{f:FuncId}{n:Nat}{R:Ending→World→Prop}{G:cI}{ds:List Nat}{k k0:List Item}{L:fD}{H H':List HP}{fn:Func}{F:List HP}{Post:Value→List HP→Prop}{p q b1 b2:Nat}{t1 t2 e1 e2:TypeId}{ty1 ty2:Ty}{u1 u2:Value}{Hq:List HP}(i j:Nat)(hR:Ends R G F Post)(hf:P.funcs[f]?=some fn)(hk:ir 1000 k0 = .mk (.code .ret::k))(wO:fn.results.toList=[.cell p t1,.cell q t2])(hp:dT L p=some (.pointer (some ⟨b1,0,none⟩)))(hq:dT L q=some (.pointer (some ⟨b2,0,none⟩)))(K7:U.get t1=some ty1)(z8:ty1.isAgg=false)(ht2:U.get t2=some ty2)(EK:ty2.isAgg=false)(he:ao H (ds.map (fun r=>ae r (.deferred (some [])))++H'))(hi:cE H' i=some (ae b1 (cl [u1] e1)))(hj:cE H' j=some (ae b2 (cl [u2] e2)))(fJ:Post (.tuple #[u1,u2]) Hq)(yF:ao H' (Hq++F)):K P f n R { G with ds:=ds } k0 L H:=by
 refine P8 hR hf hk he (fun a w ha hw=>?_) fJ yF
 have h1:=xP (P:=P) i ha hw hp K7 z8 hi
 have h2:=xP (P:=P) j ha hw hq ht2 EK hj
 rw[oN,Array.mapM_eq_mapM_toList,wO]
 simp only[Sem.run_bind,Sem.run_map,List.mapM_cons,List.mapM_nil,h1,h2,Sem.run_pure,Result.andThen_ok]
 simp
def bg{P:Program}{f:FuncId}{n:Nat}{R:Ending→World→Prop}{G:cI}{k:List Item}{L:fD}{H F:List HP}{Post:Value→List HP→Prop}(hE:Ends R G F Post)(h:K P f n R { G with ds:=[] } k L H):K P f n R G k L H:=by
 have:({ G with ds:=[] }:cI)=G:=by have:=hE.1.2;cases G;simp_all
 rw[this]at h
 exact h
def qy{P:Program}{f:FuncId}{n:Nat}{R:Ending→World→Prop}{G:cI}{k:List Item}{L:fD}{H:List HP}{ps:Array Tmp}{assign body:Code}{k0:List Item}{g:Operand}{gid:FuncId}{cap:Array Value}{Pre:Nat→Nat→List HP}{Fr:List HP}(Post:Nat→Nat→(LoopState→Option Code→HP)→Value→List HP→Prop)(hk:ir 1000 k0 = .mk (.code (.rangeFunc g ps assign body)::k))(OM:G.ro=none)(hg:ev L g=some (.func (.func gid) #[] cap))(c:∀l r,aE P gid (.func (.yield l) #[] #[]::cap.toList) (bp l .ready none f n L ps assign body r::Pre l r) (Post l r (fun st pd=>bp l st pd f n L ps assign body r)))(he:∀l r,ao H (Pre l r++Fr))(gP:∀l r v H',Post l r (fun st pd=>bp l st pd f n L ps assign body r) v H'→∃st pd Yy,H'=bp l st pd f n L ps assign body r::Yy∧st ≠ .busy ∧
   K P f n R { G with ds:=r::G.ds } ((pd.map Item.code).toList++k) L (Yy++(ae r (.deferred (some []))::Fr))):K P f n R G k0 L H :=
 wX hk OM hg c he gP
def cV{P:Program}{f:FuncId}{n:Nat}{R:Ending→World→Prop}{G:cI}{k:List Item}{L:fD}{H:List HP}{e:TypeId}{sz nn:Nat}{v:Value}{cs:List Value}(i:Nat)(hi:cE H i=some (az e sz v nn cs))(h:Vw (az e sz v nn cs) v nn cs→K P f n R G k L H):K P f n R G k L H :=
 rX fun⟨w,hw⟩=>by
  obtain⟨h1,_,hA⟩:=hw.lj hi
  exact h (Vw.oR e sz v nn cs ⟨h1,hA⟩)
def BM{e:TypeId}{sz nn c:Nat}{a:Option Addr}{cs:List Value}{h:Hp}(hs:az e sz (.slice a nn c) nn cs h):nn≤c:=by
 obtain⟨_,⟨a',hv,hn,_⟩|⟨b,o,cap,pre,bR,hv,hp,hn,hc,_⟩⟩:=hs
 ·omega
 ·simp only[Value.slice.injEq]at hv;omega
def Su{P:Program}{f:FuncId}{n:Nat}{R:Ending→World→Prop}{G:cI}{k:List Item}{L:fD}{H:List HP}{S:World→Prop}{all:Array Oper}{rest:Pl}{e:TypeId}{sz nn c:Nat}{a:Option Addr}{cs:List Value}(i:Nat)(hi:cE H i=some (az e sz (.slice a nn c) nn cs))(h:Vw (az e sz (.slice a nn c) nn cs) (.slice a nn c) nn cs→nn≤c→J P f n R G S all rest k L H):J P f n R G S all rest k L H :=
 zA fun w hw=>by
  obtain⟨h1,_,hA⟩:=hw.lj hi
  exact h (Vw.oR e sz _ nn cs ⟨h1,hA⟩) (BM hA)
def Kr{P:Program}{U:Tr}[hU:fV P U]{n:Nat}{G:cI}{L:fD}{H:List HP}{fn:Func}{p b:Nat}{t e:TypeId}{bQ:Ty}{cs:List Value}{a:Act}{w:World}(i:Nat)(ha:sP G n L a)(hw:Sat G w H)(wO:fn.results.toList=[.cell p t])(hp:dT L p=some (.pointer (some ⟨b,0,none⟩)))(ht:U.get t=some bQ)(hg:bQ.isAgg=true)(hl:cs.length=bQ.info.size)(hi:cE H i=some (ae b (cl cs e))):(results fn a.tmps).run P w = .ok (.agg cs.toArray) w:=by
 have hc:∀j v,cs[j]?=some v→w.cell? ⟨b,0+j,none⟩=some v:=fun j v hj=>by rw[dG (hw.tS hi),Nat.zero_add];exact hj
 have O0:=iG (P:=P) (w:=w) ht hg hl hc
 have Xv:(loadVar t ⟨b,0,none⟩).run P w = .ok (.agg cs.toArray) w:=by simpa[Instr.loadAt,Instr.sureAddr]using O0
 have g1:a.tmps.getD p undef = .pointer (some ⟨b,0,none⟩):=by simp[Array.getD_eq_getD_getElem?,ha.get hp]
 rw[oN,Array.mapM_eq_mapM_toList,wO]
 simp only[Sem.run_bind,Sem.run_map,List.mapM_cons,List.mapM_nil,BV,g1,asAddr,Sem.run_pure,Result.andThen_ok,Xv]
 simp
def jA{P:Program}{U:Tr}[hU:fV P U]{f:FuncId}{n:Nat}{R:Ending→World→Prop}{G:cI}{k k0:List Item}{L:fD}{H:List HP}{fn:Func}{F:List HP}{Post:Value→List HP→Prop}{p b:Nat}{t e:TypeId}{bQ:Ty}{cs:List Value}(i:Nat)(hR:Ends R G F Post)(hf:P.funcs[f]?=some fn)(hk:ir 1000 k0 = .mk (.code .ret::k))(wO:fn.results.toList=[.cell p t])(hp:dT L p=some (.pointer (some ⟨b,0,none⟩)))(ht:U.get t=some bQ)(hg:bQ.isAgg=true)(hl:cs.length=bQ.info.size)(hi:cE H i=some (ae b (cl cs e))){Hq:List HP}(fJ:Post (.agg cs.toArray) Hq)(he:ao H (Hq++F)):K P f n R G k0 L H:=by
 refine gL 1000 hk ?_
 intro a w ha hw j9
 have iR:=Kr (P:=P) i ha hw wO hp ht hg hl hi
 rw[hR.1.1]
 exact⟨_,w,_,hR.2 _ _ w fJ (hw.cN he),.one (stepR_ret rfl),rfl,rfl,by show a.defers=[];rw[ha.2,hR.1.2];rfl,rfl,fn,hf,iR⟩
end Go.SL
namespace Go.Proofs.YtdigdgohdpeebaaGreatDoor
open Go Go.SL
attribute [local irreducible] J K aE Ends ae az aQ bP bj aT aU bp bW
def NA(n:Nat)(h1:1≤n)(h2:n≤31):IntKind.u64.wrap ((BitVec.ofInt IntKind.u64.bits (IntKind.u64.wrap (-(n:Int))) &&& BitVec.ofInt IntKind.u64.bits 31).toNat:Int)=((32-n:Nat):Int):=by
 have:∀n:Nat,n<32→1≤n→IntKind.u64.wrap ((BitVec.ofInt 64 (IntKind.u64.wrap (-(n:Int))) &&& BitVec.ofInt 64 31).toNat:Int)=((32-n:Nat):Int):=by decide
 exact this n ag h1
def vr(x:jt)(n:Nat)(h1:1≤n)(h2:n≤31):aE Tryz.prog 233 [u32 x,.int .i64 (-(n:Int))] [] (fun r H=>r=u32 (Sha.uE x n)∧H=[]):=by
 unfold u32
 refine aE.au Tryz.func233 Tryz.ntmps233 fun G F R hE=>?_
 refine go ?_
 refine eP ?_
 refine iV zr zr zr zr zr zr ?_
 refine pz ?_
 refine bu 5 ((.int .u64 ((32-n:Nat):Int))) rfl ((congrArg (Value.int .u64) (NA n h1 h2))) (go ?_)
 refine Iq (32-n) zr zr zr zr ag ?_
 (repeat(first|refine gO ?_|refine qA n zr zr zr ag ag ?_|refine FO zr zr zr ?_))
 refine ad hE Tryz.func233 zr zr ⟨rfl,rfl⟩
def jf(x:jt)(n:Nat)(h1:1≤n)(h2:n≤31):aE Tryz.prog 209 [u32 x,.int .i64 (n:Int)] [] (fun r H=>r=u32 (Sha.uE x n)∧H=[]):=by
 refine aE.au Tryz.func209 Tryz.ntmps209 fun G F R hE=>?_
 refine go ?_
 refine Yt zr zr (by simp only[gn];omega) ?_
 refine aO (vr x n h1 h2) ?_
 refine go ?_
 refine ad hE Tryz.func209 zr zr ⟨rfl,rfl⟩
def GF(A:HP)(v:Value)(b:List UInt8)(hv:eM A v b)(MW:64≤b.length) :
  aE Tryz.prog 208 [v] [A] (fun r H=>r = .agg (wV (Sha.sched b 64)).toArray∧H=[A]):=by
 obtain⟨a,c,rfl,hc⟩:=hv.2
 have hf:=hv.front 64 MW
 refine aE.au Tryz.func208 Tryz.ntmps208 fun G F R hE=>?_
 refine aG rfl ?_
 refine aC zr zr zr bD ?_
 intro b2
 refine pz ?_
 (refine aG rfl ?_;refine pz ?_)
 refine aC zr zr zr bD ?_
 intro b3
 refine go ?_
 refine bB (p:=0) (q:=64) zr zr zr zr zr zr zr ag ag (.inr ag) ?_
 refine aB 10 ((.slice (sliceAt a c 0 1) 64 c)) rfl (rfl) (go ?_)
 refine bz (fun i:Nat=>i≤64) (fun i=>64-i)
  (fun i=>[(2,ptr b2),(3,ptr b3),(10,.slice (sliceAt a c 0 1) 64 c),(11,.int .i64 64),(12,.int .i64 (i:Int))])
  (fun i=>ae b3 (cl (wV (Sha.ng b i)) 211)::ae b2 (cl (wV (List.replicate 64 0)) 211)::A::F) 0 (Nat.zero_le _) rfl cm (by rw[Sha.HI];exact ah) ?_
 rintro i hi ih
 refine go ?_
 refine aq zr zr ?_ ?_
 ·intro cW
  have Gk:i<64:=by omega
  obtain⟨x,hx⟩:∃x,b[i]?=some x:=⟨b[i]' ag,by simp⟩
  have hxd:b.getD i 0=x:=by rw[List.getD_eq_getElem?_getD,hx];rfl
  have ru:(bV (b.take 64))[i]?=some (u8 x):=by
   refine nC ?_
   rw[List.getElem?_take,if_pos Gk,hx]
  obtain⟨bb,oo,cc,fO⟩:=hf.1.some (by intro e;rw[e]at ru;simp at ru)
  simp only[Value.slice.injEq,true_and]at fO
  obtain⟨fO,-,rfl⟩:=fO
  have hlen:(b.take 64).length=64:=by rw[List.length_take];omega
  have hf2:=hf.1
  rw[fO,hlen]at hf2
  rw[fO]
  refine go ?_
  refine bI i zr zr zr zr zr zr zr zr Gk ?_
  refine aK ?_
  refine aX 2 i zr zr zr hf2 rfl ru zr zr (go ?_)
  refine aH (fun w=>Sat G w ([ae b3 (cl (wV (Sha.ng b i)) 211)])) (df 0 13 (.act 13 .nil)) rfl ak ak ak eo ?_
  refine go ?_
  have hg:=Sha.lW b i (i/4) ag
  have hq:(i:Int)/4=((i/4:Nat):Int):=by omega
  have hr:24-8*((i:Int)%4)=((24-8*(i%4):Nat):Int):=by omega
  have aev:(wV (Sha.ng b i)).length=64:=by rw[lx,Sha.kE]
  (repeat(first|refine gO ?_|refine lI zr zr zr ag ag (by simp only[gn];omega) ?_|refine ou zr zr zr ag ag ?_|refine ib zr zr zr (by simp only[gn];omega) ?_|refine ew (U:=aS) (i/4) zr zr zr zr zr zr zr hq ag ?_|(refine aK ?_;refine eO (U:=aS) 0 (i/4) zr zr zr (Nat.zero_add _) (iC hg) zr zr ?_)|(refine eP ?_;refine qz (U:=aS) zr zr zr zr zr zr ?_)|refine Iq (24-8*(i%4)) zr zr zr hr ag ?_|refine FO zr zr zr ?_))
  refine aV ?_
  refine gV (U:=aS) 0 gB zr zr zr zr zr zr zr (by rw[lx,Sha.kE];omega) rfl ?_
  rw[show 0+i/4=i/4 from Nat.zero_add _]
  refine go ?_
  have cL:=Sha.HK b i Gk
  rw[hxd]at cL
  have iq:(wV (Sha.ng b i)).set (i/4) (.int .u32 (((Sha.part b (i/4) (min 4 (i-4*(i/4))) ||| wB x <<< (24-8*(i%4))).toNat:Nat):Int))=wV (Sha.ng b (i+1)):=by
   rw[← cL,show min 4 (i-4*(i/4))=i%4 from by omega]
   exact xk _ _ _
  rw[iq,← fO]
  refine aM ih (i+1) rfl ag ag cm ah
 intro fg
 have Lm:i=64:=by omega
 subst Lm
 clear ih
 refine go ?_
 refine bz (fun t:Nat=>16≤t∧t≤64) (fun t=>64-t)
  (fun t=>[(2,ptr b2),(3,ptr b3),(6,.int .i64 (t:Int))])
  (fun t=>ae b3 (cl (wV (Sha.eN b t)) 211)::ae b2 (cl (wV (List.replicate 64 0)) 211)::A::F) 16 ⟨ag,ag⟩ rfl cm (by rw[Sha.LC];exact ah) ?_
 rintro t⟨K7,ht2⟩ ih
 have hlen:=Sha.sh b t ht2
 refine go ?_
 refine aq zr zr ?_ ?_
 ·intro cW
  have ht:t<64:=by omega
  have g2:=Sha.iF b t (t-2) ag
  have g7:=Sha.iF b t (t-7) ag
  have g15:=Sha.iF b t (t-15) ag
  have g16:=Sha.iF b t (t-16) ag
  refine go ?_
  refine aH (fun w=>Sat G w ([ae b3 (cl (wV (Sha.eN b t)) 211)])) (df 0 10 .nil) rfl ak ak ak eo ?_
  refine go ?_
  (repeat(first|refine gO ?_|refine ew (U:=aS) (t-2) zr zr zr zr zr zr zr ag ag ?_|refine ew (U:=aS) (t-15) zr zr zr zr zr zr zr ag ag ?_|(refine aK ?_;first|refine eO (U:=aS) 0 (t-2) zr zr zr (Nat.zero_add _) (iC g2) zr zr ?_|refine eO (U:=aS) 0 (t-15) zr zr zr (Nat.zero_add _) (iC g15) zr zr ?_)))
  refine aO (jf _ 17 ag ag) ?_
  refine go ?_
  refine aO (jf _ 19 ag ag) ?_
  (repeat(first|refine gO ?_|refine je zr zr zr ?_|refine qA 10 zr zr zr zr ag ?_))
  refine aO (jf _ 7 ag ag) ?_
  refine go ?_
  refine aO (jf _ 18 ag ag) ?_
  (repeat(first|refine gO ?_|refine je zr zr zr ?_|refine qA 3 zr zr zr zr ag ?_))
  refine aH (fun w=>Sat G w ([ae b3 (cl (wV (Sha.eN b t)) 211)])) (df 0 15 (.act 15 .nil)) rfl ak ak ak eo ?_
  refine go ?_
  (repeat(first|refine gO ?_|refine ew (U:=aS) (t-16) zr zr zr zr zr zr zr ag ag ?_|refine ew (U:=aS) (t-7) zr zr zr zr zr zr zr ag ag ?_|refine ew (U:=aS) t zr zr zr zr zr zr zr zr ht ?_|(refine aK ?_;first|refine eO (U:=aS) 0 (t-16) zr zr zr (Nat.zero_add _) (iC g16) zr zr ?_|refine eO (U:=aS) 0 (t-7) zr zr zr (Nat.zero_add _) (iC g7) zr zr ?_)|refine j4 zr zr zr ?_))
  refine aV ?_
  refine gV (U:=aS) 0 gB zr zr zr zr zr zr zr (by rw[lx,hlen];omega) rfl ?_
  rw[show 0+t=t from Nat.zero_add _]
  refine go ?_
  have iq:=(xk (Sha.eN b t) t _).trans (congrArg wV (Sha.vG b t K7 ht))
  refine ai (H':=ae b3 (cl (wV (Sha.eN b (t+1))) 211)::ae b2 (cl (wV (List.replicate 64 0)) 211)::A::F) (by rw[← iq];exact ao.refl _) ?_
  refine aM ih (t+1) rfl ⟨ag,ag⟩ ag cm ah
 intro fg
 have Hn:t=64:=by omega
 subst Hn
 rw[Sha.xM]
 have E3:(wV (Sha.sched b 64)).length=64:=by rw[lx,Sha.dO]
 have gI:iL (wV (Sha.sched b 64))=true:=fA _
 generalize wV (Sha.sched b 64)=W at E3 gI hE ⊢
 refine go ?_
 refine aJ (U:=aS) 0 zr zr zr zr zr E3 ?_
 refine cK (U:=aS) 1 gB rfl rfl rfl E3 (by intro e;rw[e]at E3;cases E3) gI rfl (by rw[E3];simp[lx]) rfl ?_
 refine go ?_
 refine jA (U:=aS) 1 hE Tryz.func208 zr zr zr zr zr E3 rfl ⟨rfl,rfl⟩ ah
def oD(X:HP):Prop:=Vw X (.slice (some ⟨0,0,none⟩) 64 64) 64 (wV Sha.ks)
def oD.mono{A B:HP}(h:oD A)(X0:∀h,B h→∃h',sub h' h∧A h'):oD B:=Vw.mono h X0
def Ot{t:Nat}(h:t<64):Sha.ks[t]?=some (Sha.ks.getD t 0):=by
 rw[List.getD_eq_getElem?_getD,List.getElem?_eq_getElem (show t<Sha.ks.length from h)];rfl
def Qp(s:Sha.St):Value := .agg (wV s.l).toArray
def Dt(A:HP)(hK:oD A)(v:Value)(b:List UInt8)(hv:eM A v b)(MW:64≤b.length)(s:Sha.St) :
  aE Tryz.prog 175 [Qp s,v] [A] (fun r H=>r=Qp (Sha.chunk s b)∧H=[A]):=by
 have iQ:=GF A v b hv MW
 obtain⟨a,c,rfl,hc⟩:=hv.2
 unfold oD at hK
 have eQ:(Sha.sched b 64).length=64:=Sha.dO b 64
 have EU:Sha.chunk s b=Sha.plus s (Sha.rounds s (Sha.sched b 64) 64):=rfl
 rw[EU]
 generalize Sha.sched b 64=W at iQ eQ ⊢
 obtain⟨s1,s2,s3,s4,s5,s6,s7,s8⟩:=s
 dsimp only [Qp,Sha.St.l,wV,List.map_cons,List.map_nil]
 refine aE.au Tryz.func175 Tryz.ntmps175 fun G F R hE=>?_
 refine go ?_
 refine bG zr zr bD ?_
 intro b2
 refine go ?_
 refine aC zr zr zr bD ?_
 intro b4
 refine go ?_
 refine aH (fun w=>Sat G w ([ae b2 (cl [u32 s1,u32 s2,u32 s3,u32 s4,u32 s5,u32 s6,u32 s7,u32 s8] 219)])) (df 0 24 .nil) rfl ak ak ak eo ?_
 refine go ?_
 (repeat(first|refine gO ?_|refine iU zr zr zr zr zr zr ag ag ?_))
 refine aO iQ ?_
 refine go ?_
 generalize hs:(⟨s1,s2,s3,s4,s5,s6,s7,s8⟩:Sha.St)=s at hE
 refine bz (fun t:Nat=>t≤64) (fun t=>64-t)
  (fun t=>[(2,ptr b2),(4,ptr b4),(34,.agg (wV W).toArray),(35,.int .i64 (t:Int)),(5,u32 (Sha.rounds s W t).a),(6,u32 (Sha.rounds s W t).b),(7,u32 (Sha.rounds s W t).c),(8,u32 (Sha.rounds s W t).d),(9,u32 (Sha.rounds s W t).e),(10,u32 (Sha.rounds s W t).f),(11,u32 (Sha.rounds s W t).g),(12,u32 (Sha.rounds s W t).h)])
  (fun _=>ae b4 (cl (wV (List.replicate 8 0)) 219)::ae b2 (cl [u32 s1,u32 s2,u32 s3,u32 s4,u32 s5,u32 s6,u32 s7,u32 s8] 219)::A::F) 0 (Nat.zero_le _) rfl (by subst hs;repeat(first|exact Er|refine AT rfl ?_)) ah ?_
 rintro t ht ih
 refine go ?_
 refine aq zr zr ?_ ?_
 ·intro cW
  have K7:t<64:=by omega
  have hr:Sha.rounds s W (t+1)=Sha.round (Sha.rounds s W t) (Sha.ks.getD t 0) (W.getD t 0):=rfl
  generalize Sha.rounds s W t=T at hr ⊢
  obtain⟨ta,tb,tc,td,te,tf,tg,th⟩:=T
  have Ro:(wV W).toArray.toList[((t:Nat):Int).toNat]?=some (u32 (W.getD t 0)):=by
   rw[Int.toNat_natCast]
   exact iC (by rw[List.getD_eq_getElem?_getD,List.getElem?_eq_getElem ag];rfl)
  have hkg:=iC (Ot K7)
  generalize Sha.ks.getD t 0=kt at hr hkg
  generalize W.getD t 0=wt at hr Ro
  simp only
  refine go ?_
  refine zD (U:=aS) zr zr zr zr zr zr zr zr ag ag Ro (go ?_)
  refine aH (fun w=>Sat G w ([A])) (.st 0 (.st 1 (.st 3 (.st 6 (df 10 7 (df 18 3 (.st 22 (.act 2 (.act 4 (.st 5 (.act 7 (.st 8 (.st 9 (.st 17 (.st 21 (.st 23 (.st 24 .nil))))))))))))))))) rfl ak ak ak eo ?_
  refine go ?_
  (repeat(first|refine gO ?_|refine ew (U:=aS) t zr zr zr zr zr zr zr zr K7 ?_|(refine aK ?_;refine bX 0 t zr zr zr hK rfl hkg zr zr ?_)|refine je zr zr zr ?_|refine C3 zr zr zr ?_))
  refine bC ((jf _ 6 ag ag)) ?_
  refine go ?_
  refine bC ((jf _ 11 ag ag)) ?_
  refine go ?_
  (repeat((refine je zr zr zr ?_)))
  refine bC ((jf _ 25 ag ag)) ?_
  (repeat(first|refine gO ?_|refine je zr zr zr ?_|refine j4 zr zr zr ?_))
  refine aO (jf _ 2 ag ag) ?_
  refine go ?_
  refine aO (jf _ 13 ag ag) ?_
  (repeat(first|refine gO ?_|refine je zr zr zr ?_))
  refine aO (jf _ 22 ag ag) ?_
  (repeat(first|refine gO ?_|refine je zr zr zr ?_|refine C3 zr zr zr ?_|refine FO zr zr zr ?_|refine j4 zr zr zr ?_))
  ((refine bu 5 ((u32 (Sha.rounds s W (t+1)).a)) rfl ((by rw[hr];rfl)) ?_))
  ((refine bu 6 ((u32 (Sha.rounds s W (t+1)).b)) rfl ((by rw[hr];rfl)) ?_))
  ((refine bu 7 ((u32 (Sha.rounds s W (t+1)).c)) rfl ((by rw[hr];rfl)) ?_))
  ((refine bu 8 ((u32 (Sha.rounds s W (t+1)).d)) rfl ((by rw[hr];rfl)) ?_))
  ((refine bu 9 ((u32 (Sha.rounds s W (t+1)).e)) rfl ((by rw[hr];rfl)) ?_))
  ((refine bu 10 ((u32 (Sha.rounds s W (t+1)).f)) rfl ((by rw[hr];rfl)) ?_))
  ((refine bu 11 ((u32 (Sha.rounds s W (t+1)).g)) rfl ((by rw[hr];rfl)) ?_))
  ((refine bu 12 ((u32 (Sha.rounds s W (t+1)).h)) rfl ((by rw[hr];rfl)) ?_))
  refine aM ih (t+1) rfl ag ag cm ah
 intro fg
 have Hn:t=64:=by omega
 subst Hn
 have qX:Qp (Sha.plus s (Sha.rounds s W 64)) = .agg (List.map u32 [(Sha.plus s (Sha.rounds s W 64)).a,(Sha.plus s (Sha.rounds s W 64)).b,(Sha.plus s (Sha.rounds s W 64)).c,(Sha.plus s (Sha.rounds s W 64)).d,(Sha.plus s (Sha.rounds s W 64)).e,(Sha.plus s (Sha.rounds s W 64)).f,(Sha.plus s (Sha.rounds s W 64)).g,(Sha.plus s (Sha.rounds s W 64)).h]).toArray:=rfl
 rw[← qX]at hE
 clear qX EU ih
 generalize Sha.rounds s W 64=T at hE ⊢
 obtain⟨ta,tb,tc,td,te,tf,tg,th⟩:=T
 subst hs
 simp only
 refine go ?_
 (repeat(first|refine gO ?_|refine iU zr zr zr zr zr zr ag ag ?_|refine j4 zr zr zr ?_))
 refine mN (U:=aS) zr zr zr zr zr zr (go ?_)
 refine jA (U:=aS) 0 hE Tryz.func175 zr zr zr zr zr zr zr ⟨rfl,rfl⟩ ah
end Go.Proofs.YtdigdgohdpeebaaGreatDoor
namespace Go.SL
open Go
def dV(x:Dg):Value := .agg (dC x).toArray
def X8{a b:Dg}(h:dV a=dV b):a=b:=by
 simp only[dV,Value.agg.injEq]at h
 exact X9 (by simpa using congrArg Array.toList h)
section
variable{P:Program}
def R'{kt e:TypeId}(hu:P.underlying kt=some (.array 32 e))(he:P.underlying e=some (.int .u8))(hc:P.cellsOf e=1)(em:Bool)(k:Dg)(w:World):(Instr.checkKey em 10000 kt (dV k)).run P w = .ok () w:=by
 obtain⟨i,hi⟩:=info_of_underlying he
 have Gh:P.plainKey e=true:=by unfold Program.plainKey;rw[he]
 have iY:(sizeOf e).run P w = .ok 1 w:=by
  rw[Go.run_sizeOf w hi];congr 1
 rw[show(10000:Nat)=9999+1 from rfl,Instr.checkKey]
 simp only[Sem.run_bind,Go.run_underlying hu,Result.andThen_ok,dV]
 simp only[Std.Legacy.Range.forIn_eq_forIn_range',Std.Legacy.Range.size,Nat.sub_zero,Nat.add_one_sub_one,Nat.div_one]
 have each:∀j∈List.range' 0 32,j<32:=fun j hj=>by simp[List.mem_range']at hj;omega
 generalize List.range' 0 32=is at each
 induction is with
 | nil=>simp
 | cons j is ih =>
  have hj:=each j (by simp)
  have dm:(dC k).toArray[j*1]?=some (u8 (k.at j)):=by
   rw[Nat.mul_one,dz]
   simp only[List.getElem?_toArray]
   rw[show bV k.bs=k.bs.map u8 from rfl,List.getElem?_map,List.getElem?_eq_getElem (by rw[k.len];exact hj)]
   simp[Dg.at,k.len,hj]
  have p1:(part e (dC k).toArray (j*1)).run P w = .ok (u8 (k.at j)) w:=run_part_plain w Gh dm
  have p2:(Instr.checkKey em 9999 e (u8 (k.at j))).run P w = .ok () w:=by
   rw[show(9999:Nat)=9998+1 from rfl,Instr.checkKey]
   simp[Go.run_underlying he,u8]
  simp only[List.forIn_cons,Sem.run_bind,iY,Result.andThen_ok,p1,p2,Sem.run_pure]
  exact ih (fun y hy=>each y (by simp[hy]))
def DF{kt e:TypeId}(hu:P.underlying kt=some (.array 32 e))(he:P.underlying e=some (.int .u8))(hc:P.cellsOf e=1)(a b:Dg)(w:World):(Op.equal kt (dV a) (dV b)).run P w = .ok (decide (a=b)) w :=
 sj hu he hc a b 9998 w
def aaH{kt e:TypeId}(hu:P.underlying kt=some (.array 32 e))(he:P.underlying e=some (.int .u8))(hc:P.cellsOf e=1):mI P kt dV where
 inj _ _:=X8
 check em k w:=R' hu he hc em k w
 find k l ks w h:=by
  rw[run_findKey_eq (w:=w) (by rw[hu])]
  have key:∀(l:List MapEntry) (ks:List Dg) (o:Nat),l.map (·.key)=ks.map dV →
    ∃r,(Instr.findAsking kt (dV k) l o).run P w = .ok r w∧((r=none∧k ∉ ks)∨∃i e,r=some (o+i,e.val)∧l[i]?=some e∧ks[i]?=some k∧∀j,j<i→ks[j]? ≠ some k):=by
   intro l
   induction l with
   | nil =>
    intro ks o h
    have:ks=[]:=by simpa using h.symm
    subst this
    exact⟨none,by simp[Instr.findAsking],.inl ⟨rfl,by simp⟩⟩
   | cons en l ih =>
    intro ks o h
    cases ks with
    | nil=>simp at h
    | cons c ks =>
     simp only[List.map_cons,List.cons.injEq]at h
     obtain⟨h1,h2⟩:=h
     have hq:(Op.equal kt (dV k) en.key).run P w = .ok (decide (k=c)) w:=by rw[h1];exact DF hu he hc k c w
     by_cases MQ:k=c
     ·subst MQ
      refine⟨some (o+0,en.val),by simp[Instr.findAsking,hq],.inr ⟨0,en,rfl,by simp,by simp,fun j hj=>absurd hj ag⟩⟩
     ·obtain⟨r,hr,iJ⟩:=ih ks (o+1) h2
      refine⟨r,by simp[Instr.findAsking,hq,MQ,hr],?_⟩
      rcases iJ with⟨rfl,hn⟩|⟨i,e',rfl,hi,hk,hj⟩
      ·exact .inl ⟨rfl,by simp[MQ,hn]⟩
      ·refine .inr ⟨i+1,e',by congr 2;omega,by simpa using hi,by simpa using hk,fun j nF=>?_⟩
       cases j with
       | zero=>simp;exact fun h=>MQ h.symm
       | succ j=>simpa using hj j ag
  obtain⟨r,hr,iJ⟩:=key l ks 0 h
  refine⟨r,hr,?_⟩
  rcases iJ with h|⟨i,e,hr,hi,hk,hj⟩
  ·exact .inl h
  ·exact .inr ⟨i,e,by rw[hr];simp,hi,hk,hj⟩
 bits k:=by
  rw[show(10000:Nat)=9999+1 from rfl]
  simp only[dV,Instr.sameBits,beq_self_eq_true,Bool.true_and,List.all_eq_true]
  have:∀(l:List UInt8),∀x∈((bV l).zip (bV l)),Instr.sameBits 9999 x.1 x.2=true:=by
   intro l
   induction l with
   | nil=>simp[bV]
   | cons c l ih =>
    intro x hx
    simp only[bV,List.map_cons,List.zip_cons_cons,List.mem_cons]at hx
    rcases hx with rfl|hx
    ·simp[u8,Instr.sameBits]
    ·exact ih x hx
  intro x hx
  rw[dz]at hx
  exact this k.bs x hx
end
end Go.SL
namespace Go.Proofs.YtdigdgohdpeebaaGreatDoor
open Go Go.SL
attribute [local irreducible] J K aE Ends ae az aQ bP bj aT aU bp bW Sha.chunks Sha.chunk Sha.rounds Sha.sched dW
def zc(A:HP)(v:Value)(b:List UInt8)(hv:eM A v b)(hl:b.length≤1000000000):aE Tryz.prog 176 [v] [A] (fun r H=>H=[az 5 1 r b.length (bV b),A]):=by
 obtain⟨a,c,rfl,hc⟩:=hv.2
 refine aE.au Tryz.func176 Tryz.ntmps176 fun G F R hE=>?_
 cases a with
 | none =>
  have hb:b=[]:=by
   obtain⟨a,cap,h1,h2|⟨x,o,h2,_⟩⟩:=hv.1
   ·simpa[bV]using h2
   ·simp only[Value.slice.injEq]at h1;rw[← h1.1]at h2;cases h2
  subst hb
  refine go ?_
  refine ai (bO 5 1 none _) ?_
  refine aL hE Tryz.func176 rfl _ zr zr ah
 | some a =>
  refine go ?_
  refine aj zr zr zr zr zr zr zr zr zr bD ?_
  intro b0
  refine go ?_
  (refine aI (dR 5 1 b0 0 0 [] [] _ rfl (Nat.le_refl _) (by simp)) ?_;refine aR (mm:=(b).length) (news:=bV (b)) 0 1 zr zr zr zr zr zr zr zr zr zr zr zr (hv.1) (by show _=_*1;rw[bt];omega) (cO _) ag (by show(_+_)*1≤_;omega) (fun _=>rfl) bD ?_;intro vA;rw[Nat.zero_add,List.nil_append];((refine aN 0 rfl ?_));rintro aA cA rfl)
  refine go ?_
  refine aL hE Tryz.func176 rfl _ zr zr ah
def wW(A:HP)(hK:oD A)(v:Value)(b:List UInt8)(hv:eM A v b)(hl:b.length≤1000000000) :
    aE Tryz.prog 111 [v] [A] (fun r H=>r=dV (dW b)∧H=[A]):=by
  obtain⟨a,c,rfl,hc⟩:=hv.2
  refine aE.au Tryz.func111 Tryz.ntmps111 fun G F R hE=>?_
  refine aG rfl ?_
  refine aC zr zr zr bD ?_
  intro b2
  refine pz ?_
  refine aG rfl ?_
  refine mN (U:=aS) (cs:=wV Sha.start.l) zr zr zr zr zr zr ?_
  refine aC zr zr zr bD ?_
  intro b3
  refine cK (U:=aS) (l':=wV Sha.start.l) 0 gB zr zr zr zr (by decide) (fA _) zr zr zr ?_
  refine aI (H':=ae b3 (cl (wV (Sha.chunks Sha.start b 0).l) 219)::ae b2 (cl (dC Dg.zero) 36)::A::F) (by unfold Sha.chunks;exact ah) ?_
  refine go ?_
  refine lI zr zr zr ag ag (by simp only[gn];omega) ?_
  refine go ?_
  refine ib zr zr zr (by simp only[gn];omega) ?_
  refine aB 15 ((.int .i64 ((64*(b.length/64):Nat):Int))) rfl ((congrArg (Value.int .i64) ag)) (go ?_)
  refine bz (fun q:Nat=>q≤b.length/64) (fun q=>b.length/64-q)
    (fun q=>[(0,.slice a b.length c),(2,ptr b2),(3,ptr b3),(4,.int .i64 ((64*(b.length/64):Nat):Int)),(5,.int .i64 ((64*q:Nat):Int))])
    (fun q=>ae b3 (cl (wV (Sha.chunks Sha.start b q).l) 219)::ae b2 (cl (dC Dg.zero) 36)::A::F) 0 (Nat.zero_le _) rfl cm ah ?_
  rintro q hq ih
  refine go ?_
  refine aq zr zr ?_ ?_
  · intro cW
    have hq1:q<b.length/64:=by omega
    have lN:=hv.cut (64*q) ag
    have j8:=Dt A hK _ _ lN (by rw[List.length_drop];omega) (Sha.chunks Sha.start b q)
    have px:Sha.chunk (Sha.chunks Sha.start b q) (b.drop (64*q))=Sha.chunks Sha.start b (q+1):=by conv=>rhs;unfold Sha.chunks
    rw[px]at j8
    have Lh:∀s:Sha.St,(wV s.l).length=8:=fun s=>rfl
    refine go ?_
    refine aH (fun w=>Sat G w ([ae b3 (cl (wV (Sha.chunks Sha.start b q).l) 219)])) (df 0 4 (.act 4 (.act 5 .nil))) rfl ak ak ak eo ?_
    refine go ?_
    refine bY (U:=aS) 0 zr zr zr zr zr zr (go ?_)
    refine bB (p:=((64*q:Nat):Int)) (q:=(b.length:Int)) zr zr zr zr zr zr zr ag ag (.inl rfl) ?_
    refine aB 24 ((.slice (sliceAt a c (64*q) 1) (b.length-64*q) (c-64*q))) rfl (rfl) ?_
    refine bC j8 ?_
    unfold Qp
    refine aV ?_
    refine cK (U:=aS) 1 gB rfl rfl rfl rfl (by intro e;have:=congrArg List.length e;rw[Lh]at this;cases this) (fA _) rfl (by rw[Lh,Lh]) rfl ?_
    refine go ?_
    refine bu 5 ((.int .i64 ((64*(q+1):Nat):Int))) rfl ((congrArg (Value.int .i64) ag)) ?_
    refine aM ih (q+1) rfl ag ag cm ah
  intro fg
  have Xc:q=b.length/64:=by omega
  subst Xc
  clear ih
  have lN:=hv.cut (64*(b.length/64)) ag
  obtain⟨B1,Y0⟩:∃B1,B1=b.drop (64*(b.length/64)):=⟨_,rfl⟩
  have XZ:B1.length=b.length-64*(b.length/64):=by rw[Y0,List.length_drop]
  rw[← Y0,← XZ]at lN
  refine go ?_
  refine bB (p:=((64*(b.length/64):Nat):Int)) (q:=(b.length:Int)) zr zr zr zr zr zr zr ag ag (.inl rfl) ?_
  ((refine aB 28 ((.slice (sliceAt a c (64*(b.length/64)) 1) B1.length (c-64*(b.length/64)))) rfl ((by rw[XZ];rfl)) ?_))
  refine go ?_
  refine aF (zc A _ B1 lN ag) ?_
  rintro r _ rfl
  refine aN 0 rfl ?_
  rintro ra rc rfl
  refine go ?_
  (refine aj (cs:=bV [(128:UInt8)]) zr zr zr zr zr zr zr zr zr bD ?_;intro bA;refine aR (mm:=1) (news:=bV [(128:UInt8)]) 1 0 zr zr zr zr zr zr zr zr zr zr zr zr (Vw.ae rfl) rfl (cO _) ag (by show(_+_)*1≤_;omega) (fun _=>rfl) bD ?_;intro vA;rw[show bV (B1)++bV [(128:UInt8)]=bV ((B1)++[(128:UInt8)])from by simp[bV],show(B1).length+1=((B1)++[(128:UInt8)]).length from(@List.length_append _ (B1) [(128:UInt8)]).symm];((refine aN 1 rfl ?_));rintro aA cA rfl)
  refine go ?_
  obtain⟨z,hz⟩:∃z,z=(119-b.length%64)%64:=⟨_,rfl⟩
  have SK:(B1.length+1+z)%64=56:=by omega
  have SH:z<64:=by omega
  have abP:B1.length<64:=by omega
  have rA:∀j:Nat,(B1++128::List.replicate j (0:UInt8)).length=B1.length+1+j:=fun j=>by simp;omega
  obtain⟨S1,hS1⟩:∃S1,S1=Sha.chunks Sha.start b (b.length/64):=⟨_,rfl⟩
  rw[← hS1]
  refine bz (fun y:Nat × Option Addr × Nat=>y.1≤z) (fun y=>z-y.1)
    (fun y=>[(0,.slice a b.length c),(2,ptr b2),(3,ptr b3),(6,.slice y.2.1 (B1++128::List.replicate y.1 (0:UInt8)).length y.2.2)])
    (fun y=>az 5 1 (.slice y.2.1 (B1++128::List.replicate y.1 (0:UInt8)).length y.2.2) (B1++128::List.replicate y.1 (0:UInt8)).length (bV (B1++128::List.replicate y.1 (0:UInt8)))::A::ae b3 (cl (wV S1.l) 219)::ae b2 (cl (dC Dg.zero) 36)::F) (0,aA,cA) (Nat.zero_le _) rfl cm ah ?_
  rintro⟨j,a2,c2⟩ hj ih
  simp only at hj
  have wx:=rA j
  dsimp only
  refine go ?_
  refine ou zr zr zr ag ag (go ?_)
  refine aq zr zr ?_ ?_
  · intro bZ
    have hjz : j < z := by rcases Nat.lt_or_ge j z with h | h; exact h; exfalso; apply bZ; rw [wx]; have : j = z := by omega
                           subst this;omega
    refine go ?_
    (refine aj (cs:=bV [(0:UInt8)]) zr zr zr zr zr zr zr zr zr bD ?_;intro bA;refine aR (mm:=1) (news:=bV [(0:UInt8)]) 1 0 zr zr zr zr zr zr zr zr zr zr zr zr (Vw.ae rfl) rfl (cO _) (by(rw[wx];omega)) (by show(_+_)*1≤_;(rw[wx];omega)) (fun _=>rfl) bD ?_;intro vA;rw[show bV ((B1++128::List.replicate j (0:UInt8)))++bV [(0:UInt8)]=bV (((B1++128::List.replicate j (0:UInt8)))++[(0:UInt8)])from by simp[bV],show((B1++128::List.replicate j (0:UInt8))).length+1=(((B1++128::List.replicate j (0:UInt8)))++[(0:UInt8)]).length from(@List.length_append _ ((B1++128::List.replicate j (0:UInt8))) [(0:UInt8)]).symm];((refine aN 1 rfl ?_));rintro aA cA rfl)
    rw[show B1++128::List.replicate j (0:UInt8)++[0]=B1++128::List.replicate (j+1) (0:UInt8)from by rw[List.replicate_succ'];simp]
    refine go ?_
    refine aM ih (j+1,aA,cA) rfl (by simp only;omega) (by simp only;omega) cm ah
  intro heq
  have hjz:j=z:=by
    have adG:((B1.length+1+j:Nat):Int)%64=56:=by rw[← wx];exact Decidable.not_not.1 heq
    omega
  subst hjz
  clear ih
  obtain⟨T0,Pg⟩:∃T0,T0=B1++128::List.replicate j (0:UInt8):=⟨_,rfl⟩
  rw[← Pg]at wx ⊢
  have Hy:∀i:Nat,i≤8→(T0++(Sha.pe (8*b.length)).take i).length=T0.length+i:=fun i hi=>by
    rw[List.length_append,List.length_take];simp only[Sha.pe,List.length_map,List.length_range];omega
  refine go ?_
  refine bz (fun y:Nat × Option Addr × Nat=>y.1≤8) (fun y=>8-y.1)
    (fun y=>[(0,.slice a b.length c),(2,ptr b2),(3,ptr b3),(6,.slice y.2.1 (T0++(Sha.pe (8*b.length)).take y.1).length y.2.2),(39,.int .i64 (y.1:Int))])
    (fun y=>az 5 1 (.slice y.2.1 (T0++(Sha.pe (8*b.length)).take y.1).length y.2.2) (T0++(Sha.pe (8*b.length)).take y.1).length (bV (T0++(Sha.pe (8*b.length)).take y.1))::A::ae b3 (cl (wV S1.l) 219)::ae b2 (cl (dC Dg.zero) 36)::F) (0,a2,c2) (Nat.zero_le _) rfl (by simp only[List.take_zero,List.append_nil];exact cm) (by simp only[List.take_zero,List.append_nil];exact ah) ?_
  rintro⟨i,a3,c3⟩ hi ih
  simp only at hi
  have MP:=Hy i hi
  dsimp only
  refine go ?_
  refine aq zr zr ?_ ?_
  · intro cW
    have Gj:i<8:=by omega
    have Ls:(Sha.pe (8*b.length)).take (i+1)=(Sha.pe (8*b.length)).take i++[UInt8.ofNat (8*b.length/2 ^ (56-8*i))]:=by
      rw[List.take_add_one];simp[Sha.pe,Gj]
    refine go ?_
    refine mK zr zr zr ag ?_
    refine aB 46 ((.int .u64 ((8*b.length:Nat):Int))) rfl ((AD (x:=b.length) (q:=3) ag ag ag)) (go ?_)
    refine ib zr zr zr (by simp only[gn];omega) ?_
    refine go ?_
    refine aB 49 ((.int .i64 ((56-8*i:Nat):Int))) rfl ((congrArg (Value.int .i64) ag)) ?_
    refine jo zr zr zr ag ?_
    ((refine aB 50 ((.int .u64 ((8*b.length/2 ^ (56-8*i):Nat):Int))) rfl ((congrArg (Value.int .u64) (by rw[Int.toNat_natCast,show min (56-8*i) IntKind.u64.bits=56-8*i from by show min (56-8*i) 64=_;omega];simp))) ?_))
    refine eP ?_
    refine iV zr zr zr zr zr zr ?_
    refine aB 51 ((u8 (UInt8.ofNat (8*b.length/2 ^ (56-8*i))))) rfl ((lP _)) ?_
    (refine aj (cs:=bV [(UInt8.ofNat (8*b.length/2 ^ (56-8*i)))]) zr zr zr zr zr zr zr zr zr bD ?_;intro bA;refine aR (mm:=1) (news:=bV [(UInt8.ofNat (8*b.length/2 ^ (56-8*i)))]) 1 0 zr zr zr zr zr zr zr zr zr zr zr zr (Vw.ae rfl) rfl (cO _) (by(rw[MP];omega)) (by show(_+_)*1≤_;(rw[MP];omega)) (fun _=>rfl) bD ?_;intro vA;rw[show bV ((T0++(Sha.pe (8*b.length)).take i))++bV [(UInt8.ofNat (8*b.length/2 ^ (56-8*i)))]=bV (((T0++(Sha.pe (8*b.length)).take i))++[(UInt8.ofNat (8*b.length/2 ^ (56-8*i)))])from by simp[bV],show((T0++(Sha.pe (8*b.length)).take i)).length+1=(((T0++(Sha.pe (8*b.length)).take i))++[(UInt8.ofNat (8*b.length/2 ^ (56-8*i)))]).length from(@List.length_append _ ((T0++(Sha.pe (8*b.length)).take i)) [(UInt8.ofNat (8*b.length/2 ^ (56-8*i)))]).symm];((refine aN 1 rfl ?_));rintro aA cA rfl)
    rw[show T0++(Sha.pe (8*b.length)).take i++[UInt8.ofNat (8*b.length/2 ^ (56-8*i))]=T0++(Sha.pe (8*b.length)).take (i+1)from by rw[Ls,List.append_assoc]]
    refine go ?_
    refine aM ih (i+1,aA,cA) rfl (by simp only;omega) (by simp only;omega) cm ah
  intro fg
  have Gj:i=8:=by omega
  subst Gj
  clear ih
  have EG:=Sha.Kj b
  rw[← hS1,← Y0]at EG
  have aa1:B1++Sha.pad b.length=T0++(Sha.pe (8*b.length)).take 8:=by
    rw[Pg,List.take_of_length_le (by simp[Sha.pe])]
    unfold Sha.pad
    rw[← hz];simp
  rw[aa1]at EG
  generalize T0++(Sha.pe (8*b.length)).take 8=T at MP EG ⊢
  have adX:T.length%64=0:=by omega
  have hTl:T.length≤1000000200:=by omega
  clear wx Hy aa1 Pg rA Y0 XZ lN hz SK SH abP hS1 MP
  have Lh:∀s:Sha.St,(wV s.l).length=8:=fun s=>rfl
  refine qx (bs:=T) 0 rfl ?_
  intro Rp
  have W4:eM (Sep [az 5 1 (.slice a3 T.length c3) T.length (bV T),A]) (.slice a3 T.length c3) T:=Rp.mono (bh (i:=0) rfl)
  have hK2:oD (Sep [az 5 1 (.slice a3 T.length c3) T.length (bV T),A]):=hK.mono (bh (i:=1) rfl)
  refine ai (ao.bS [_,_] _) (go ?_)
  refine bz (fun q:Nat=>q≤T.length/64) (fun q=>T.length/64-q)
    (fun q=>[(2,ptr b2),(3,ptr b3),(6,.slice a3 T.length c3),(8,.int .i64 ((64*q:Nat):Int))])
    (fun q=>Sep [az 5 1 (.slice a3 T.length c3) T.length (bV T),A]::ae b3 (cl (wV (Sha.chunks S1 T q).l) 219)::ae b2 (cl (dC Dg.zero) 36)::F) 0 (Nat.zero_le _) rfl cm (by unfold Sha.chunks;exact ah) ?_
  rintro q hq ih
  refine go ?_
  refine aq zr zr ?_ ?_
  · intro cW
    have hq1:q<T.length/64:=by omega
    have lN:=W4.cut (64*q) ag
    have j8:=Dt _ hK2 _ _ lN (by rw[List.length_drop];omega) (Sha.chunks S1 T q)
    have px:Sha.chunk (Sha.chunks S1 T q) (T.drop (64*q))=Sha.chunks S1 T (q+1):=by conv=>rhs;unfold Sha.chunks
    rw[px]at j8
    refine go ?_
    refine aH (fun w=>Sat G w ([ae b3 (cl (wV (Sha.chunks S1 T q).l) 219)])) (df 0 4 (.act 4 (.act 5 .nil))) rfl ak ak ak eo ?_
    refine go ?_
    refine bY (U:=aS) 0 zr zr zr zr zr zr (go ?_)
    refine bB (p:=((64*q:Nat):Int)) (q:=(T.length:Int)) zr zr zr zr zr zr zr ag ag (.inl rfl) ?_
    refine aB 64 ((.slice (sliceAt a3 c3 (64*q) 1) (T.length-64*q) (c3-64*q))) rfl (rfl) ?_
    refine bC j8 ?_
    unfold Qp
    refine aV ?_
    refine cK (U:=aS) 1 gB rfl rfl rfl rfl (by intro e;have:=congrArg List.length e;rw[Lh]at this;cases this) (fA _) rfl (by rw[Lh,Lh]) rfl ?_
    refine go ?_
    refine bu 8 ((.int .i64 ((64*(q+1):Nat):Int))) rfl ((congrArg (Value.int .i64) ag)) ?_
    refine aM ih (q+1) rfl ag ag cm ah
  intro fg
  have Xc:q=T.length/64:=by omega
  subst Xc
  rw[← EG]
  have oZ:(dW b).bs=Sha.out (Sha.chunks Sha.start (Sha.msg b) ((Sha.msg b).length/64)):=IL b
  clear EG ih
  generalize Sha.chunks Sha.start (Sha.msg b) ((Sha.msg b).length/64)=S2 at oZ ⊢
  refine ai (ao.cJ _ _) (go ?_)
  refine aC zr zr zr bD ?_
  intro b9
  refine go ?_
  have Rx:=Sha.B8 S2
  have Gm:∀i,i≤32→((Sha.out S2).take i++List.replicate (32-i) (0:UInt8)).length=32:=fun i hi=>by
    rw[List.length_append,List.length_take,List.length_replicate,Rx];omega
  refine bz (fun i:Nat=>i≤32) (fun i=>32-i)
    (fun i=>[(2,ptr b2),(3,ptr b3),(9,ptr b9),(66,.int .i64 (i:Int))])
    (fun i=>ae b9 (cl (bV ((Sha.out S2).take i++List.replicate (32-i) (0:UInt8))) 36)::ae b3 (cl (wV S2.l) 219)::ae b2 (cl (dC Dg.zero) 36)::A::F) 0 (Nat.zero_le _) rfl cm ah ?_
  rintro i hi ih
  refine go ?_
  refine aq zr zr ?_ ?_
  · intro cW
    have tM:i<32:=by omega
    have hq4:(i:Int)/4=((i/4:Nat):Int):=by omega
    have hr4:24-8*((i:Int)%4)=((24-8*(i%4):Nat):Int):=by omega
    have Ro:(wV S2.l)[i/4]?=some (u32 (S2.l.getD (i/4) 0)):=iC (by rw[List.getD_eq_getElem?_getD,List.getElem?_eq_getElem (show i/4<S2.l.length from by show i/4<8;omega)];rfl)
    have rz:(Sha.out S2)[i]?=some (UInt8.ofNat ((S2.l.getD (i/4) 0) >>> (24-8*(i%4))).toNat):=by simp[Sha.out,tM]
    (repeat(first|refine gO ?_|refine lI zr zr zr ag ag (by simp only[gn];omega) ?_|refine ou zr zr zr ag ag ?_|refine ib zr zr zr (by simp only[gn];omega) ?_|refine ew (U:=aS) (i/4) zr zr zr zr zr zr zr hq4 ag ?_|(refine aK ?_;refine mL (U:=aS) 1 (i/4) zr zr zr (Nat.zero_add _) Ro zr zr ?_)|refine qA (24-8*(i%4)) zr zr zr hr4 ag ?_|(refine eP ?_;refine Bx (U:=aS) zr zr zr zr zr zr ?_)|refine ew (U:=aS) i zr zr zr zr zr zr zr zr tM ?_))
    refine aV ?_
    refine gV (U:=aS) 0 gB zr zr zr zr zr zr zr (by rw[bt,Gm i ag];omega) rfl ?_
    rw[show 0+i=i from Nat.zero_add _,DZ Rx rz]
    refine go ?_
    refine aM ih (i+1) rfl ag ag cm ah
  intro fg
  have tM:i=32:=by omega
  subst tM
  rw[List.take_of_length_le ag,show 32-32=0 from rfl,List.replicate_zero,List.append_nil,← oZ,← dz]
  clear ih Gm Rx oZ
  have hd:(dC (dW b)).length=32:=rfl
  have gI:iL (dC (dW b))=true:=by rw[dz];exact jH _
  have hdv:dV (dW b) = .agg (dC (dW b)).toArray:=rfl
  rw[hdv]at hE
  generalize dC (dW b)=cs at hd gI hE ⊢
  refine go ?_
  refine aJ (U:=aS) 0 zr zr zr zr zr hd ?_
  refine cK (U:=aS) 2 gB rfl rfl rfl hd (by intro e;rw[e]at hd;cases hd) gI rfl (by rw[hd];rfl) rfl ?_
  refine go ?_
  refine jA (U:=aS) 2 hE Tryz.func111 zr zr zr zr zr hd rfl ⟨rfl,rfl⟩ ah
end Go.Proofs.YtdigdgohdpeebaaGreatDoor
namespace Go.Proofs.YtdigdgohdpeebaaGreatDoor
open Go Go.SL
def qv(A:HP)(v:Value)(ls:List (List UInt8)):Prop:=∃cs:List Value,Vw A v ls.length cs∧cs.length=ls.length∧(∃a c,v = .slice a ls.length c∧ls.length≤c)∧∀(i:Nat) (x:List UInt8),ls[i]?=some x→∃cv,cs[i]?=some cv∧eM A cv x
def qv.row{X:HP}{b:Nat}{e:TypeId}{n:Nat}{cs:List Value}{ls:List (List UInt8)}(hn:ls.length=n)(hc:cs.length=n)(h:∀(i:Nat) (x:List UInt8),ls[i]?=some x→∃cv,cs[i]?=some cv∧eM X cv x) :
  qv (Sep [ae b (cl cs e),X]) (.slice (some ⟨b,0,none⟩) n n) ls:=by
 subst hn
 refine⟨cs,(Vw.ae (by rw[List.drop_zero,List.take_length])).mono (bh (i:=0) rfl),hc,⟨_,_,rfl,Nat.le_refl _⟩,fun i x hx=>?_⟩
 obtain⟨cv,h1,h2⟩:=h i x hx
 exact⟨cv,h1,h2.mono (bh (i:=1) rfl)⟩
end Go.Proofs.YtdigdgohdpeebaaGreatDoor
namespace Go.SL
open Go
inductive aP(P:Program)(U:Tr)(L:fD)(H:List HP):List ResultVar→List Value→Prop where
 | nil:aP P U L H [] []
 | tmp {q:Nat} {u:Value} {rs:List ResultVar} {us:List Value} (hq:dT L q=some u) (h:aP P U L H rs us):aP P U L H (.tmp q::rs) (u::us)
 | agg {p b:Nat} {t e:TypeId} {bQ:Ty} {cs:List Value} {rs:List ResultVar} {us:List Value} (i:Nat) (hp:dT L p=some (.pointer (some ⟨b,0,none⟩))) (ht:U.get t=some bQ) (hg:bQ.isAgg=true) (hi:cE H i=some (ae b (cl cs e))) (hl:cs.length=bQ.info.size) (h:aP P U L H rs us):aP P U L H (.cell p t::rs) (.agg cs.toArray::us)
 | one {p b:Nat} {t e:TypeId} {bQ:Ty} {u:Value} {rs:List ResultVar} {us:List Value} (i:Nat) (hp:dT L p=some (.pointer (some ⟨b,0,none⟩))) (ht:U.get t=some bQ) (hg:bQ.isAgg=false) (hi:cE H i=some (ae b (cl [u] e))) (h:aP P U L H rs us):aP P U L H (.cell p t::rs) (u::us)
def aP.run{P:Program}{U:Tr}[hU:fV P U]{n:Nat}{G:cI}{L:fD}{H:List HP}{a:Act}{w:World}(ha:Has n L a)(hw:Sat G w H):∀ {rs us},aP P U L H rs us→(rs.mapM (BV a.tmps)).run P w = .ok us w:=by
 intro rs us h
 induction h with
 | nil=>simp
 | @tmp q u rs us hq h ih =>
  have g2:a.tmps.getD q undef=u:=by rw[Array.getD_eq_getD_getElem?,ha.2.2 _ _ hq];rfl
  simp only[List.mapM_cons,Sem.run_bind,BV,g2,Sem.run_pure,Result.andThen_ok,ih]
 | @agg p b t e bQ cs rs us i hp ht hg hi hl h ih =>
  have hc:∀j v,cs[j]?=some v→w.cell? ⟨b,0+j,none⟩=some v:=fun j v hj=>by rw[dG (hw.tS hi),Nat.zero_add];exact hj
  have O0:=iG (P:=P) (w:=w) ht hg hl hc
  have Xv:(loadVar t ⟨b,0,none⟩).run P w = .ok (.agg cs.toArray) w:=by simpa[Instr.loadAt,Instr.sureAddr]using O0
  have g1:a.tmps.getD p undef = .pointer (some ⟨b,0,none⟩):=by simp[Array.getD_eq_getD_getElem?,ha.2.2 p _ hp]
  simp only[List.mapM_cons,Sem.run_bind,BV,g1,asAddr,Sem.run_pure,Result.andThen_ok,Xv,ih]
 | @one p b t e bQ u rs us i hp ht hg hi h ih =>
  have g1:=xP (P:=P) i ha hw hp ht hg hi
  simp only[List.mapM_cons,Sem.run_bind,g1,Sem.run_pure,Result.andThen_ok,ih]
def aY{P:Program}{U:Tr}[hU:fV P U]{f:FuncId}{n:Nat}{R:Ending→World→Prop}{G:cI}{ds:List Nat}{k k0:List Item}{L:fD}{H H':List HP}{fn:Func}{F:List HP}{Post:Value→List HP→Prop}{us:List Value}{Hq:List HP}(hR:Ends R G F Post)(hf:P.funcs[f]?=some fn)(hk:ir 1000 k0 = .mk (.code .ret::k))(he:ao H (ds.map (fun r=>ae r (.deferred (some [])))++H'))(hr:aP P U L H' fn.results.toList us)(fJ:Post (eG us) Hq)(yF:ao H' (Hq++F)):K P f n R { G with ds:=ds } k0 L H:=by
 refine P8 hR hf hk he (fun a w ha hw=>?_) fJ yF
 have h1:=hr.run (P:=P) ha hw
 rw[oN,Array.mapM_eq_mapM_toList]
 simp only[Sem.run_bind,Sem.run_map,h1,Sem.run_pure,Result.andThen_ok]
 match us with
 | []=>simp[eG]
 | [v]=>simp[eG]
 | v::u::vs=>simp[eG]
section
variable{P:Program}{U:Tr}[hU:fV P U]{f:FuncId}{n:Nat}{R:Ending→World→Prop}{G:cI}{k:List Item}{L:fD}{H H':List HP}{S:World→Prop}{all:Array Oper}{rest:Pl}{ty:TypeId}{pos:String}{af:Array Edge}{gd:Option (Nat × Bool)}{m:Bool}{d:Tmp}
def Mp{t elem:TypeId}{bQ te:Ty}{x lo hi mx:Operand}{a0:Option Addr}{len cap:Nat}{p q r:Int}{j1 j2 j3:IntKind}(hd:Nat.blt d n=true)(ht:U.get t=some bQ)(hu:bQ.gy = .slice elem)(he:U.get elem=some te)(hx:ev L x=some (.slice a0 len cap))(AZ:ev L lo=some (.int j1 p))(Gl:ev L hi=some (.int j2 q))(hmx:ev L mx=some (.int j3 r))(h0:0≤p)(ED:p≤q)(hqr:q≤r)(OO:r≤(cap:Int))(h:J P f n R G S all rest k ((d,.slice (sliceAt a0 r.toNat p.toNat te.info.size) (q.toNat-p.toNat) (r.toNat-p.toNat))::L) H) :
  J P f n R G S all (.cons m true ⟨some d,.slice t x (some lo) (some hi) (some mx),ty,pos,af,gd⟩ rest) k L H:=by
 refine du hd (fun a ha w=>?_) h
 have hb:(Instr.sliceBounds true len cap (some (a.eval lo)) (some (a.eval hi)) (some (a.eval mx))).run P w = .ok (p.toNat,q.toNat,r.toNat) w:=by
  unfold Instr.sliceBounds
  have e1:0≤r∧r≤(cap:Int):=⟨ag,OO⟩
  have e2:0≤q∧q≤((r.toNat:Nat):Int):=⟨ag,ag⟩
  have e3:0≤p∧p≤((q.toNat:Nat):Int):=⟨ag,ag⟩
  have e4:q≤max r 0:=by omega
  have e5:p≤max q 0:=by omega
  have e6:0≤q:=by omega
  simp[ha.ev AZ,ha.ev Gl,ha.ev hmx,Instr.sliceBound,asIntOf,e1,e2,e3,e4,e5,e6,h0]
 simp only[execOp,ha.ev hx,Instr.sliceAt,Sem.run_bind,run_underlying ht,Result.andThen_ok,hu,Instr.slice,Option.map_some,hb,run_sizeOf he,Sem.run_pure,sliceAt]
 by_cases hc:p.toNat=r.toNat
 ·simp[hc]
 ·simp[hc]
  intro hr0
  exfalso;omega
end
end Go.SL
namespace Go.Proofs.YtdigdgohdpeebaaGreatDoor
open Go Go.SL
attribute [local irreducible] J K aE Ends ae az aQ bP bj aT aU bp bW Sha.chunks Sha.chunk Sha.rounds Sha.sched dW
def vN{tag:UInt8}{ps:List (List UInt8)}{i:Nat}{p:List UInt8}(h:ps[i]?=some p):cX tag (ps.take (i+1))=cX tag (ps.take i)++(lM p.length++p):=by
 unfold cX
 rw[List.take_add_one,h]
 simp
def AM(tag:UInt8)(ps:List (List UInt8))(i:Nat):(cX tag (ps.take i)).length≤(cX tag ps).length:=by
 conv=>rhs;rw[← List.take_append_drop i ps]
 unfold cX
 rw[List.flatMap_append]
 simp only[List.length_cons,List.length_append];omega
def tB(tag:UInt8)(ps:List (List UInt8)):ps.length≤(cX tag ps).length:=by
 unfold cX
 induction ps with
 | nil=>simp
 | cons p ps ih =>
  have h8:(lM p.length).length=8:=by simp[lM]
  simp only[List.flatMap_cons,List.length_cons,List.length_append,h8]at ih ⊢
  omega
def I9(n:Nat):(lM n).length=8:=by simp[lM]
def Eo{n i:Nat}(h:i<8):(lM n).take (i+1)=(lM n).take i++[UInt8.ofNat (n/2 ^ (8*i))]:=by
 rw[List.take_add_one];simp[lM,h]
def zm(A:HP)(hK:oD A)(tag:UInt8)(v:Value)(ps:List (List UInt8))(hv:qv A v ps)(hl:(cX tag ps).length≤1000000000) :
  aE Tryz.prog 150 [u8 tag,v] [A] (fun r H=>r=dV (cH tag ps)∧H=[A]):=by
 obtain⟨cs,dM,lH,⟨a,c,rfl,hc⟩,py⟩:=hv
 have ET:=tB tag ps
 refine aE.au Tryz.func150 Tryz.ntmps150 fun G F R hE=>?_
 refine aG rfl ?_
 refine aC zr zr zr bD ?_
 intro b4
 refine pz ?_
 refine aG rfl ?_
 refine pz ?_
 refine aj (cs:=bV [tag]) zr zr zr zr zr zr zr zr zr bD ?_
 intro b0
 refine go ?_
 refine ai (dR 5 1 b0 1 1 (bV [tag]) [] _ rfl (Nat.le_refl _) (by simp[bV])) ?_
 refine bz (fun y:Nat × Option Addr × Nat=>y.1≤ps.length) (fun y=>ps.length-y.1)
  (fun y=>[(4,ptr b4),(11,.slice a ps.length c),(12,.int .i64 (ps.length:Int)),(13,.int .i64 (y.1:Int)),(5,.slice y.2.1 (cX tag (ps.take y.1)).length y.2.2)])
  (fun y=>az 5 1 (.slice y.2.1 (cX tag (ps.take y.1)).length y.2.2) (cX tag (ps.take y.1)).length (bV (cX tag (ps.take y.1)))::A::ae b4 (cl (dC Dg.zero) 36)::F) (0,some ⟨b0,0,none⟩,1) (Nat.zero_le _) rfl cm ah ?_
 rintro⟨i,a1,c1⟩ hi ih
 simp only at hi
 dsimp only
 refine go ?_
 refine aq zr zr ?_ ?_
 ·intro cW
  have lB:i<ps.length:=by omega
  obtain⟨p,hp⟩:∃p,ps[i]?=some p:=⟨ps[i],List.getElem?_eq_getElem lB⟩
  obtain⟨cv,oC,hb⟩:=py i p hp
  obtain⟨b1,o1,c0,qZ⟩:=dM.some (by intro h;rw[h]at oC;simp at oC)
  simp only[Value.slice.injEq]at qZ
  obtain⟨rfl,-,rfl⟩:=qZ
  have j8:=vN (tag:=tag) hp
  have hle:=AM tag ps (i+1)
  have abb:=I9 p.length
  rw[j8]at hle
  simp only[List.length_append]at hle
  obtain⟨T0,Pg⟩:∃T0,T0=cX tag (ps.take i):=⟨_,rfl⟩
  rw[← Pg]at j8 hle ⊢
  obtain⟨ax,cx,rfl,Tj⟩:=hb.2
  have Hy:∀j:Nat,j≤8→(T0++(lM p.length).take j).length=T0.length+j:=fun j hj=>by
   rw[List.length_append,List.length_take];omega
  refine go ?_
  refine bI i zr zr zr zr zr zr zr zr lB ?_
  refine aK ?_
  refine aX 1 i zr zr zr dM rfl oC zr zr (go ?_)
  refine bz (fun y:Nat × Option Addr × Nat=>y.1≤8) (fun y=>8-y.1)
   (fun y=>[(4,ptr b4),(7,.slice ax p.length cx),(11,.slice (some ⟨b1,o1,none⟩) ps.length c),(12,.int .i64 (ps.length:Int)),(13,.int .i64 (i:Int)),(5,.slice y.2.1 (T0++(lM p.length).take y.1).length y.2.2),(17,.int .i64 (y.1:Int))])
   (fun y=>az 5 1 (.slice y.2.1 (T0++(lM p.length).take y.1).length y.2.2) (T0++(lM p.length).take y.1).length (bV (T0++(lM p.length).take y.1))::A::ae b4 (cl (dC Dg.zero) 36)::F) (0,a1,c1) (Nat.zero_le _) rfl (by simp only[List.take_zero,List.append_nil];exact cm) (by simp only[List.take_zero,List.append_nil];exact ah) ?_
  rintro⟨j,a2,c2⟩ hj Hl
  simp only at hj
  have wx:=Hy j hj
  dsimp only
  refine go ?_
  refine aq zr zr ?_ ?_
  ·intro hj8
   have Xy:j<8:=by omega
   have htj:=Eo (n:=p.length) Xy
   refine go ?_
   refine ib zr zr zr (by simp only[gn];omega) ?_
   refine aB 25 ((.int .i64 ((8*j:Nat):Int))) rfl ((congrArg (Value.int .i64) ag)) ?_
   refine jo zr zr zr ag ?_
   ((refine aB 26 ((.int .u64 ((p.length/2 ^ (8*j):Nat):Int))) rfl ((congrArg (Value.int .u64) (by rw[Int.toNat_natCast,show min (8*j) IntKind.u64.bits=8*j from by show min (8*j) 64=_;omega];simp))) ?_))
   refine eP ?_
   refine iV zr zr zr zr zr zr ?_
   refine aB 27 ((u8 (UInt8.ofNat (p.length/2 ^ (8*j))))) rfl ((lP _)) ?_
   (refine aj (cs:=bV [(UInt8.ofNat (p.length/2 ^ (8*j)))]) zr zr zr zr zr zr zr zr zr bD ?_;intro bA;refine aR (mm:=1) (news:=bV [(UInt8.ofNat (p.length/2 ^ (8*j)))]) 1 0 zr zr zr zr zr zr zr zr zr zr zr zr (Vw.ae rfl) rfl (cO _) (by(rw[wx];omega)) (by show(_+_)*1≤_;(rw[wx];omega)) (fun _=>rfl) bD ?_;intro vA;rw[show bV ((T0++(lM p.length).take j))++bV [(UInt8.ofNat (p.length/2 ^ (8*j)))]=bV (((T0++(lM p.length).take j))++[(UInt8.ofNat (p.length/2 ^ (8*j)))])from by simp[bV],show((T0++(lM p.length).take j)).length+1=(((T0++(lM p.length).take j))++[(UInt8.ofNat (p.length/2 ^ (8*j)))]).length from(@List.length_append _ ((T0++(lM p.length).take j)) [(UInt8.ofNat (p.length/2 ^ (8*j)))]).symm];((refine aN 1 rfl ?_));rintro aA cA rfl)
   rw[show T0++(lM p.length).take j++[UInt8.ofNat (p.length/2 ^ (8*j))]=T0++(lM p.length).take (j+1)from by rw[htj,List.append_assoc]]
   refine go ?_
   refine aM Hl (j+1,aA,cA) rfl (by simp only;omega) (by simp only;omega) cm ah
  intro fg
  have hj8:j=8:=by omega
  subst hj8
  rw[List.take_of_length_le ag]at wx ⊢
  refine go ?_
  (refine aR (mm:=(p).length) (news:=bV (p)) 0 1 zr zr zr zr zr zr zr zr zr zr zr zr (hb.1) (by show _=_*1;rw[bt];omega) (cO _) (by(rw[wx];omega)) (by show(_+_)*1≤_;(rw[wx];omega)) (fun _=>rfl) bD ?_;intro vA;rw[show bV ((T0++lM p.length))++bV (p)=bV (((T0++lM p.length))++(p))from by simp[bV],show((T0++lM p.length)).length+(p).length=(((T0++lM p.length))++(p)).length from(@List.length_append _ ((T0++lM p.length)) (p)).symm];((refine aN 0 rfl ?_));rintro aA cA rfl)
  rw[show T0++lM p.length++p=cX tag (ps.take (i+1))from by rw[j8,List.append_assoc]]
  refine go ?_
  refine aM ih (i+1,aA,cA) rfl (by simp only;omega) (by simp only;omega) cm ah
 intro fg
 have gh:i=ps.length:=by omega
 subst gh
 rw[List.take_length]
 refine qx (bs:=cX tag ps) 0 rfl ?_
 intro Rp
 refine ai (ao.bS [_,_] _) (go ?_)
 refine aO (wW _ (hK.mono (bh (i:=1) rfl)) _ (cX tag ps) (Rp.mono (bh (i:=0) rfl)) hl) ?_
 refine aI (ao.cJ _ _) (go ?_)
 refine jA (U:=aS) 2 hE Tryz.func150 zr zr zr zr zr zr zr ⟨rfl,rfl⟩ ah
def PK(x:Nat)(hx:x<256):IntKind.u8.wrap ((BitVec.ofInt IntKind.u8.bits (x:Int) &&& BitVec.ofInt IntKind.u8.bits 15).toNat:Int)=((x%16:Nat):Int):=by
 have e2:(BitVec.ofInt IntKind.u8.bits (15:Int)).toNat=2 ^ 4-1:=by decide
 rw[BitVec.toNat_and,tD hx,e2,Nat.and_two_pow_sub_one_eq_mod]
 exact cQ (by simp only[gn];omega)
def OB(n:Nat)(h:n<16):vo ⟨#[48,49,50,51,52,53,54,55,56,57,97,98,99,100,101,102]⟩ n=BP n:=by
 have:∀n:Nat,n<16→vo ⟨#[48,49,50,51,52,53,54,55,56,57,97,98,99,100,101,102]⟩ n=BP n:=by decide
 exact this n h
def GA{d:Dg}{i:Nat}(h:i<32):(g9 d).take (2*(i+1))=(g9 d).take (2*i)++[BP ((d.at i).toNat/16),BP ((d.at i).toNat%16)]:=by
 have e1:vF d (2*i)=BP ((d.at i).toNat/16):=by unfold vF;rw[if_pos ag,show 2*i/2=i from by omega]
 have e2:vF d (2*i+1)=BP ((d.at i).toNat%16):=by unfold vF;rw[if_neg ag,show(2*i+1)/2=i from by omega]
 rw[show 2*(i+1)=2*i+1+1 from by omega,List.take_add_one,List.take_add_one,nH d ag,nH d ag,e1,e2]
 simp
def HS(d:Dg){i:Nat}(h:i<32):(dC d)[i]?=some (u8 (d.at i)):=by
 rw[dz]
 exact nC (d.PG h)
def PO(d:Dg):aE Tryz.prog 134 [dV d] [] (fun r H=>r = .string (strOf (g9 d))∧H=[]):=by
 unfold dV
 refine aE.au Tryz.func134 Tryz.ntmps134 fun G F R hE=>?_
 refine aG rfl ?_
 refine bG zr zr bD ?_
 intro b1
 refine go ?_
 refine ij (p:=0) (q:=64) zr zr zr zr zr zr zr zr zr ag ag (by decide) bD ?_
 intro b3
 refine go ?_
 have adH:=dR 5 1 b3 0 64 [] (List.replicate 64 (u8 0)) (ae b1 (cl (dC d) 36)::F) rfl ag (by rw[List.length_replicate];exact Nat.le_add_left _ _)
 refine aI adH ?_
 refine aJ (U:=aS) 1 zr zr zr zr zr zr (go ?_)
 refine bz (fun y:Nat × Option Addr × Nat=>y.1≤32) (fun y=>32-y.1)
  (fun y=>[(3,.slice y.2.1 ((g9 d).take (2*y.1)).length y.2.2),(7,dV d),(8,.int .i64 (y.1:Int))])
  (fun y=>az 5 1 (.slice y.2.1 ((g9 d).take (2*y.1)).length y.2.2) ((g9 d).take (2*y.1)).length (bV ((g9 d).take (2*y.1)))::F) (0,some ⟨b3,0,none⟩,64) (Nat.zero_le _) rfl cm ah ?_
 rintro⟨i,a1,c1⟩ hi ih
 simp only at hi
 dsimp only
 have hlen:((g9 d).take (2*i)).length=2*i:=by rw[List.length_take,jB];omega
 refine go ?_
 refine aq zr zr ?_ ?_
 ·intro cW
  have tM:i<32:=by omega
  have hg:=HS d tM
  have j8:=GA (d:=d) tM
  have hx:=(d.at i).toNat_lt
  unfold dV
  refine go ?_
  refine zD (U:=aS) zr zr zr zr zr zr zr zr ag ag (show(dC d).toArray.toList[((i:Nat):Int).toNat]?=some (u8 (d.at i))from by rw[Int.toNat_natCast];exact hg) ?_
  generalize d.at i=x at j8 hx
  refine go ?_
  refine aH (fun w=>Sat G w ([])) (df 0 7 (.act 7 (.act 8 (.st 9 .nil)))) rfl ak ak ak eo ?_
  refine go ?_
  refine jo zr zr zr ag ?_
  ((refine aB 13 ((.int .u8 ((x.toNat/16:Nat):Int))) rfl ((congrArg (Value.int .u8) (by show(x.toNat:Int)/2 ^ 4=_;omega))) ?_))
  refine sO (U:=aS) zr zr zr zr zr ag (by show((x.toNat/16:Nat):Int)<16;omega) ?_
  refine aB 14 ((u8 (BP (x.toNat/16)))) rfl ((congrArg u8 (OB (x.toNat/16) ag))) (go ?_)
  refine go ?_
  refine aB 16 ((.int .u8 ((x.toNat%16:Nat):Int))) rfl ((congrArg (Value.int .u8) (PK x.toNat hx))) ?_
  refine sO (U:=aS) zr zr zr zr zr ag (by show((x.toNat%16:Nat):Int)<16;omega) ?_
  refine aB 17 ((u8 (BP (x.toNat%16)))) rfl ((congrArg u8 (OB (x.toNat%16) ag))) ?_
  refine aj (cs:=bV [BP (x.toNat/16),BP (x.toNat%16)]) zr zr zr zr zr zr zr zr zr (fun _ _ hw=>hw.cN ah) ?_
  intro bA
  refine aR (mm:=2) (news:=bV [BP (x.toNat/16),BP (x.toNat%16)]) 1 0 zr zr zr zr zr zr zr zr zr zr zr zr (Vw.ae rfl) rfl (cO _) (by rw[hlen];omega) (by show(_+_)*1≤_;rw[hlen];omega) (fun _=>rfl) (fun _ _ hw=>hw.cN ah) ?_
  intro vA
  rw[show bV ((g9 d).take (2*i))++bV [BP (x.toNat/16),BP (x.toNat%16)]=bV ((g9 d).take (2*(i+1)))from by rw[j8];simp[bV],show((g9 d).take (2*i)).length+2=((g9 d).take (2*(i+1))).length from by rw[j8,List.length_append];rfl]
  refine aN 1 rfl ?_
  rintro aA cA rfl
  refine go ?_
  refine aM ih (i+1,aA,cA) rfl (by simp only;omega) (by simp only;omega) cm ah
 intro fg
 have tM:i=32:=by omega
 subst tM
 rw[List.take_of_length_le (by rw[jB];omega)]
 refine qx (bs:=g9 d) 0 rfl ?_
 intro Rp
 refine go ?_
 refine CX (U:=aS) 0 zr zr zr zr zr zr zr zr zr Rp.1 (go ?_)
 refine ad hE Tryz.func134 zr zr ⟨rfl,rfl⟩
def Ka(c:UInt8):aE Tryz.prog 207 [u8 c] [] (fun r H=>r = .tuple #[.int .u8 (((lC c).getD 0:Nat):Int),.bool (lC c).isSome]∧H=[]):=by
 have hx:=c.toNat_lt
 have h1:(48≤c.toNat∧c.toNat≤57)→Value.tuple #[.int .u8 ((c.toNat:Int)-48),.bool true] = .tuple #[.int .u8 (((lC c).getD 0:Nat):Int),.bool (lC c).isSome]:=fun h=>by
  unfold lC;rw[if_pos h];simp only[Option.getD_some,Option.isSome_some];rw[show((c.toNat-48:Nat):Int)=(c.toNat:Int)-48 from by omega]
 have h2:(97≤c.toNat∧c.toNat≤102)→Value.tuple #[.int .u8 ((c.toNat:Int)-97+10),.bool true] = .tuple #[.int .u8 (((lC c).getD 0:Nat):Int),.bool (lC c).isSome]:=fun h=>by
  unfold lC;rw[if_neg ag,if_pos h];simp only[Option.getD_some,Option.isSome_some];rw[show((c.toNat-87:Nat):Int)=(c.toNat:Int)-97+10 from by omega]
 have h3:¬(48≤c.toNat∧c.toNat≤57)∧¬(97≤c.toNat∧c.toNat≤102)→Value.tuple #[.int .u8 0,.bool false] = .tuple #[.int .u8 (((lC c).getD 0:Nat):Int),.bool (lC c).isSome]:=fun h=>by
  unfold lC;rw[if_neg h.1,if_neg h.2];rfl
 unfold u8
 refine aE.au Tryz.func207 Tryz.ntmps207 fun G F R hE=>?_
 repeat'(first|(with_reducible intro pH)|refine gO ?_|refine iy zr zr zr zr ?_ ?_|refine aq zr zr ?_ ?_)
 all_goals(first|((refine ad hE Tryz.func207 zr zr ⟨h1 ⟨ag,ag⟩,rfl⟩))|((refine ad hE Tryz.func207 zr zr ⟨h2 ⟨ag,ag⟩,rfl⟩))|((refine ad hE Tryz.func207 zr zr ⟨h3 ag,rfl⟩)))
def Q3(s:List UInt8){i:Nat}(h:i<64):(Gf s i)[i/2]?=some (UInt8.ofNat (if i%2=0 then 0 else lq s (i-1))):=by
 rw[qO s i ag]
 by_cases hm:i%2=0
 ·rw[if_neg ag,if_neg ag,if_pos hm]
 ·rw[if_neg ag,if_pos ag,if_neg hm,show 2*(i/2)=i-1 from by omega]
def NZ(s:List UInt8){i:Nat}(h:i<64):(Gf s i).set (i/2) (UInt8.ofNat (16*(if i%2=0 then 0 else lq s (i-1))+lq s i))=Gf s (i+1):=by
 apply List.ext_getElem?
 intro j
 rw[List.getElem?_set,kP]
 rcases Nat.lt_or_ge j 32 with hj|hj
 ·rw[qO s i hj,qO s (i+1) hj]
  by_cases e:i/2=j
  ·subst e
   rw[if_pos rfl,if_pos hj]
   congr 2
   by_cases hm:i%2=0
   ·rw[if_pos hm,if_neg ag,if_pos ag,show 2*(i/2)=i from by omega];omega
   ·rw[if_neg hm,if_pos ag,show 2*(i/2)=i-1 from by omega,show i-1+1=i from by omega]
  ·rw[if_neg e]
   congr 2
   have e1:(2*j+1<i)↔(2*j+1<i+1):=by omega
   have e2:¬2*j+1<i→((2*j<i)↔(2*j<i+1)):=by omega
   by_cases h1:2*j+1<i
   ·rw[if_pos h1,if_pos (e1.1 h1)]
   ·rw[if_neg h1,if_neg (fun h=>h1 (e1.2 h))]
    by_cases h2:2*j<i
    ·rw[if_pos h2,if_pos ((e2 h1).1 h2)]
    ·rw[if_neg h2,if_neg (fun h=>h2 ((e2 h1).2 h))]
 ·rw[if_neg ag,List.getElem?_eq_none (by rw[kP];exact hj),List.getElem?_eq_none (by rw[kP];exact hj)]
def WT(x y:Nat)(hx:x<16)(hy:y<16):IntKind.u8.wrap ((BitVec.ofInt IntKind.u8.bits ((16*x:Nat):Int) ||| BitVec.ofInt IntKind.u8.bits (y:Int)).toNat:Int)=((16*x+y:Nat):Int):=by
 have h:=oQ (a:=y) (c:=x) (k:=4) ag
 rw[BitVec.toNat_or,tD ag,tD ag,Nat.or_comm,show 16*x=x*2 ^ 4 from by omega,h]
 exact(cQ (by simp only[gn];omega)).trans (congrArg _ ag)
def Mf(s:ByteArray):aE Tryz.prog 174 [.string s] [] (fun r H=>r=(match jU s.data.toList with
    | some d => .tuple #[dV d,.int .i64 0]
    | none => .tuple #[dV Dg.zero,.int .i64 2])∧H=[]):=by
  obtain⟨l,hl⟩:∃l,l=s.data.toList:=⟨_,rfl⟩
  have iY:s.size=l.length:=by rw[hl];rfl
  rw[← hl]
  refine aE.au Tryz.func174 Tryz.ntmps174 fun G F R hE=>?_
  refine aG rfl ?_
  refine aC zr zr zr bD ?_
  intro b2
  refine pz ?_
  refine aG rfl ?_
  refine aC zr zr zr bD ?_
  intro b4
  refine go ?_
  refine aq zr zr ?_ ?_
  · intro bZ
    have hp:jU l=none:=by unfold jU;rw[if_neg (by intro h;apply bZ;rw[iY,h.1];rfl)]
    rw[hp]at hE
    refine aG rfl ?_
    refine aJ (U:=aS) 0 zr zr zr zr zr zr (go ?_)
    (refine bg hE ?_;apply aY (U:=aS) hE Tryz.func174 rfl (ao.refl _);(repeat(first|exact aP.nil|apply aP.tmp rfl|apply aP.agg 1 zr zr zr zr zr));exact⟨rfl,rfl⟩;exact ah)
  intro heq
  have MW:l.length=64:=by rw[iY]at heq;omega
  have h8:∀x:UInt8,x.toNat<256:=fun x=>x.toNat_lt
  refine go ?_
  ((refine bu 13 ((.int .i64 64)) rfl ((congrArg (Value.int .i64) (by rw[iY];omega))) ?_))
  refine bz (fun i:Nat=>i≤64∧∀j,j<i→lC (l.getD j 0)≠none) (fun i=>64-i)
    (fun i=>[(0,.string s),(2,ptr b2),(3,.int .i64 0),(4,ptr b4),(13,.int .i64 64),(14,.int .i64 (i:Int))])
    (fun i=>ae b4 (cl (bV (Gf l i)) 36)::ae b2 (cl (dC Dg.zero) 36)::F) 0 ⟨Nat.zero_le _,fun j hj=>by omega⟩ rfl cm (by rw[NY];exact ah) ?_
  rintro i⟨hi,m9⟩ ih
  refine go ?_
  refine aq zr zr ?_ ?_
  · intro cW
    have Lm:i<64:=by omega
    have hold:=Q3 l Lm
    have zW:=NZ l Lm
    have acN:=Cg l i
    have hvp:=Cg l (i-1)
    refine go ?_
    refine sO (U:=aS) zr zr zr zr zr ag (by rw[iY];omega) ?_
    ((refine aB 20 ((u8 (l.getD i 0))) rfl ((by rw[Int.toNat_natCast];unfold vo;rw[← hl];rfl)) ?_))
    refine go ?_
    refine aO (Ka (l.getD i 0)) ?_
    have hh0:(lC (l.getD i 0)).getD 0=lq l i:=rfl
    cases hx:lC (l.getD i 0)with
    | none =>
      have hp:jU l=none:=by
        unfold jU;rw[if_neg]
        intro h
        have hm:l.getD i 0∈l:=by rw[List.getD_eq_getElem?_getD,List.getElem?_eq_getElem ag];exact List.getElem_mem _
        exact h.2 _ hm hx
      rw[hp]at hE
      refine go ?_
      refine j0 (U:=aS) zr zr zr zr zr (go ?_)
      (refine bg hE ?_;apply aY (U:=aS) hE Tryz.func174 rfl (ao.refl _);(repeat(first|exact aP.nil|apply aP.tmp rfl|apply aP.agg 1 zr zr zr zr zr));exact⟨rfl,rfl⟩;exact ah)
    | some v =>
      have hv:v=lq l i:=by rw[hx]at hh0;exact hh0
      simp only[Option.getD_some,Option.isSome_some]
      rw[hv]
      obtain⟨o,ho⟩:∃o,o=(if i%2=0 then 0 else lq l (i-1)):=⟨_,rfl⟩
      have adh:o<16:=by rw[ho];split <;> omega
      rw[← ho]at hold zW
      have hq:(i:Int)/2=((i/2:Nat):Int):=by omega
      refine go ?_
      (repeat(first|refine gO ?_|refine lI zr zr zr ag ag (by simp only[gn];omega) ?_|refine ew (U:=aS) (i/2) zr zr zr zr zr zr zr hq ag ?_|(refine aK ?_;refine mL (U:=aS) 0 (i/2) zr zr zr (Nat.zero_add _) (nC hold) zr zr ?_)))
      refine mK zr zr zr ag ?_
      ((refine aB 33 ((.int .u8 ((16*o:Nat):Int))) rfl ((congrArg (Value.int .u8) (by rw[show(UInt8.ofNat o).toNat=o from by rw[UInt8.toNat_ofNat'];omega];exact(cQ (by show 0≤(o:Int)*2 ^ 4∧_;simp only[show min ((4:Int).toNat) IntKind.u8.bits=4 from rfl];omega)).trans (by show(o:Int)*2 ^ 4=_;omega)))) ?_))
      refine go ?_
      ((refine aB 35 ((u8 (UInt8.ofNat (16*o+lq l i)))) rfl ((congrArg (Value.int .u8) (by rw[WT o (lq l i) adh acN,UInt8.toNat_ofNat'];omega))) ?_))
      (repeat((refine ew (U:=aS) (i/2) zr zr zr zr zr zr zr hq ag ?_)))
      refine aV ?_
      refine gV (U:=aS) 0 gB zr zr zr zr zr zr zr (by rw[bt,kP];omega) rfl ?_
      rw[show 0+i/2=i/2 from Nat.zero_add _,show(bV (Gf l i)).set (i/2) (u8 (UInt8.ofNat (16*o+lq l i)))=bV (Gf l (i+1))from by rw[← zW];simp[bV]]
      refine go ?_
      refine aM ih (i+1) rfl ⟨ag,fun j hj=>by
        rcases Nat.lt_or_ge j i with h|h
        · exact m9 j h
        · rw[show j=i from by omega,hx];simp⟩ ag cm ah
  intro fg
  have Lm:i=64:=by omega
  subst Lm
  have hp:jU l=some ⟨Gf l 64,kP l 64⟩:=by
    unfold jU
    rw[if_pos ⟨MW,fun c hc=>by
      obtain⟨j,hj,rfl⟩:=List.mem_iff_getElem.1 hc
      have:=m9 j ag
      rwa[List.getD_eq_getElem?_getD,List.getElem?_eq_getElem hj]at this⟩]
  rw[hp]at hE
  obtain⟨d,hd⟩:∃d:Dg,d=⟨Gf l 64,kP l 64⟩:=⟨_,rfl⟩
  rw[← hd]at hE
  have XS:bV (Gf l 64)=dC d:=by rw[dz,hd]
  rw[XS]
  clear ih
  refine go ?_
  refine aJ (U:=aS) 0 zr zr zr zr zr zr (go ?_)
  (refine bg hE ?_;apply aY (U:=aS) hE Tryz.func174 rfl (ao.refl _);(repeat(first|exact aP.nil|apply aP.tmp rfl|apply aP.agg 1 zr zr zr zr zr));exact⟨rfl,rfl⟩;exact ah)
end Go.Proofs.YtdigdgohdpeebaaGreatDoor
namespace Go.Proofs.YtdigdgohdpeebaaGreatDoor
open Go Go.SL
def gR(l:List Dg)(i:Nat):List Dg:=(bH l).take i++l.drop i
def qM(l:List Dg){i:Nat}(h:i≤l.length/2):(gR l i).length=l.length:=by
 unfold gR
 rw[List.length_append,List.length_take,List.length_drop,cY];omega
def uV(l:List Dg){i j:Nat}(h:i≤l.length/2)(hj:i≤j):(gR l i)[j]?=l[j]? := by
 unfold gR
 have h1:((bH l).take i).length=i:=by rw[List.length_take,cY];omega
 rw[List.getElem?_append_right ag,h1,List.getElem?_drop,show i+(j-i)=j from by omega]
def Bq{l:List Dg}{i:Nat}{a b:Dg}(ha:l[2*i]?=some a)(hb:l[2*i+1]?=some b):(bH l)[i]?=some (iv a b):=by
 rw[sJ,ha,hb]
def v8{l:List Dg}{i:Nat}{a:Dg}(ha:l[2*i]?=some a)(hb:l.length≤2*i+1):(bH l)[i]?=some a:=by
 rw[sJ,ha,List.getElem?_eq_none hb]
def Kt(l:List Dg){i:Nat}(h:i<l.length/2){x:Dg}(hx:(bH l)[i]?=some x):(gR l i).set i x=gR l (i+1):=by
 unfold gR
 have h1:((bH l).take i).length=i:=by rw[List.length_take,cY];omega
 rw[List.set_append_right _ _ ag,h1,Nat.sub_self,List.take_add_one,hx]
 have h2:l.drop i=l[i]::l.drop (i+1):=List.drop_eq_getElem_cons ag
 rw[h2,List.set_cons_zero]
 simp
def GS(l:List Dg)(h:l.length%2=0):(gR l (l.length/2)).take ((l.length+1)/2)=bH l:=by
 unfold gR
 have h1:(bH l).length=(l.length+1)/2:=cY l
 rw[List.take_of_length_le (l:=bH l) ag,List.take_append_of_le_length ag,List.take_of_length_le ag]
def Ku(l:List Dg)(h:l.length%2=1){x:Dg}(hx:l[l.length-1]?=some x):((gR l (l.length/2)).set (l.length/2) x).take ((l.length+1)/2)=bH l:=by
 have h1:(bH l).length=(l.length+1)/2:=cY l
 have h2:(bH l)[l.length/2]?=some x:=v8 (by rw[← hx];congr 1;omega) ag
 apply List.ext_getElem?
 intro j
 rw[List.getElem?_take]
 rcases Nat.lt_or_ge j ((l.length+1)/2)with hj|hj
 ·rw[if_pos hj,List.getElem?_set]
  by_cases uG:l.length/2=j
  ·rw[if_pos uG,if_pos (by rw[qM l (Nat.le_refl _)];omega),← uG,h2]
  ·rw[if_neg uG]
   unfold gR
   rw[List.getElem?_append_left (by rw[List.length_take];omega),List.getElem?_take,if_pos ag]
 ·rw[if_neg ag,List.getElem?_eq_none ag]
def dr:Nat→List Dg→List Dg
 | 0,l=>l
 | j+1,l=>bH (dr j l)
def oM(l:List Dg):∀j,dr j (bH l)=dr (j+1) l
 | 0=>rfl
 | j+1=>by
  show bH (dr j (bH l))=_
  rw[oM l j];rfl
def BU(l:List Dg):∀j,(dr j l).length≤l.length
 | 0=>Nat.le_refl _
 | j+1=>by
  have:=BU l j
  simp only[dr,cY];omega
def tt(l:List Dg)(h:1≤l.length):∀j,1≤(dr j l).length
 | 0=>h
 | j+1=>by
  have:=tt l h j
  simp only[dr,cY];omega
def IH:∀(f:Nat) (l:List Dg) (j:Nat),l.length≤f+1→(∀i,i<j→1<(dr i l).length)→(dr j l).length≤1→upL f l=dr j l
 | 0,l,j,hf,hi,hj=>by
  cases j with
  | zero=>rfl
  | succ j =>
   have:=hi 0 ag
   simp only[dr]at this;omega
 | f+1,l,j,hf,hi,hj=>by
  unfold upL
  cases j with
  | zero=>rw[if_pos (show l.length≤1 from hj)];rfl
  | succ j =>
   have h0:=hi 0 ag
   simp only[dr]at h0
   rw[if_neg ag,IH f (bH l) j (by rw[cY];omega) (fun i h=>by rw[oM];exact hi (i+1) ag) (by rw[oM];exact hj),oM]
def DL{l:List Dg}{j:Nat}(h1:l≠[])(hi:∀i,i<j→1<(dr i l).length){x:Dg}(hj:dr j l=[x]):xR l=x:=by
 unfold xR
 rw[if_neg h1,IH _ l j ag hi (by rw[hj];simp),hj]
 rfl
def kY(k:Nat)(hk:0<k):∀(f:Nat) (b:List UInt8) (j:Nat),b.length≤f→(gz k f b)[j]?=if j*k<b.length then some ((b.drop (j*k)).take k)else none
 | 0,b,j,h=>by
  have:b=[]:=List.eq_nil_of_length_eq_zero ag
  subst this;simp[gz]
 | f+1,b,j,h=>by
  unfold gz
  by_cases hb:b=[]
  ·subst hb;simp
  ·rw[if_neg hb]
   have lA:0<b.length:=List.length_pos_iff.2 hb
   cases j with
   | zero=>simp[lA]
   | succ j =>
    rw[List.getElem?_cons_succ,kY k hk f (b.drop k) j (by rw[List.length_drop];omega),List.length_drop,List.drop_drop]
    have e:(j+1)*k=j*k+k:=by rw[Nat.add_mul,Nat.one_mul]
    rw[e,show k+j*k=j*k+k from Nat.add_comm _ _]
    by_cases cW:j*k<b.length-k
    ·rw[if_pos cW,if_pos ag]
    ·rw[if_neg cW,if_neg ag]
def m8(k:Nat)(hk:0<k)(b:List UInt8):(gz k b.length b).length=(b.length+k-1)/k:=by
 have hg:=kY k hk b.length b
 have h1:∀j,j<(gz k b.length b).length↔j<(b.length+k-1)/k:=by
  intro j
  have h2:=hg j (Nat.le_refl _)
  have h3:j<(b.length+k-1)/k↔j*k<b.length:=by
   rw[show j<(b.length+k-1)/k↔j+1≤(b.length+k-1)/k from Iff.rfl,Nat.le_div_iff_mul_le hk,Nat.add_mul,Nat.one_mul]
   omega
  rw[h3]
  constructor
  ·intro h
   rw[List.getElem?_eq_getElem h]at h2
   split at h2
   ·assumption
   ·cases h2
  ·intro h
   rw[if_pos h]at h2
   exact(List.getElem?_eq_some_iff.1 h2).1
 rcases Nat.lt_trichotomy (gz k b.length b).length ((b.length+k-1)/k)with h|h|h
 ·have:=(h1 _).2 h;omega
 ·exact h
 ·have:=(h1 _).1 h;omega
attribute [local irreducible] J K aE Ends ae az aQ bP bj aT aU bp bW Sha.chunks Sha.chunk Sha.rounds Sha.sched dW cH
def eM.block{b n:Nat}{bs:List UInt8}{l:List Value}{e:TypeId}(hn:bs.length=n)(hl:l=bV bs):eM (ae b (cl l e)) (.slice (some ⟨b,0,none⟩) n n) bs:=by
 subst hn hl
 exact⟨Vw.ae (by rw[List.drop_zero,List.take_length]),_,_,rfl,Nat.le_refl _⟩
def FJ(A:HP)(hK:oD A)(v:Value)(b:List UInt8)(hv:eM A v b)(hl:b.length≤900000000):aE Tryz.prog 89 [v] [A] (fun r H=>r=dV (db b)∧H=[A]):=by
 obtain⟨a,c,rfl,hc⟩:=hv.2
 refine aE.au Tryz.func89 Tryz.ntmps89 fun G F R hE=>?_
 refine aG rfl ?_
 refine aC zr zr zr bD ?_
 intro b2
 refine pz ?_
 (refine aG rfl ?_;refine pz ?_)
 refine aj (cs:=[.slice a b.length c]) zr zr zr zr zr zr zr zr zr bD ?_
 intro b0
 refine aI (ao.trans (ao.pick [0,2] rfl) (ao.bS [_,_] _)) ?_
 ((refine aF (zm (Sep [ae b0 (cl [.slice a b.length c] 39),A]) (hK.mono (bh (i:=1) rfl)) 0 _ [b] (qv.row rfl rfl (fun i x hx=>by cases i with|zero=>(simp at hx;subst hx;exact⟨_,rfl,hv⟩)|succ i=>simp at hx)) (by simp[cX,lM];omega)) ?_))
 rintro _ _⟨rfl,rfl⟩
 refine aI (ao.cJ _ _) (go ?_)
 (refine bg hE ?_;apply aY (U:=aS) hE Tryz.func89 rfl (ao.refl _);(repeat(first|exact aP.nil|apply aP.agg 2 zr zr zr zr zr));exact⟨rfl,rfl⟩;exact ah)
def zu(A:HP)(hK:oD A)(l r:Dg):aE Tryz.prog 149 [dV l,dV r] [A] (fun x H=>x=dV (iv l r)∧H=[A]):=by
 unfold dV
 refine aE.au Tryz.func149 Tryz.ntmps149 fun G F R hE=>?_
 refine aG rfl ?_
 refine bG zr zr bD ?_
 intro b2
 refine bG zr zr bD ?_
 intro b3
 refine aC zr zr zr bD ?_
 intro b4
 refine go ?_
 refine aH (fun w=>Sat G w ([])) (.st 0 (.st 1 (.act 2 (.act 3 (.act 4 .nil))))) rfl ak ak ak eo ?_
 refine go ?_
 refine g8 (U:=aS) zr zr zr zr zr (go ?_)
 refine g8 (U:=aS) zr zr zr zr zr ?_
 refine aj (cs:=[.slice (some ⟨b2,0,none⟩) 32 32,.slice (some ⟨b3,0,none⟩) 32 32]) zr zr zr zr zr zr zr zr zr (fun _ _ hw=>hw.cN ah) ?_
 intro b0
 refine aI (ao.trans (ao.pick [3,2,4] rfl) (ao.trans (ao.bS [_,_,_] _) (ao.trans (ao.pick [1,0] rfl) (ao.bS [_,_] _)))) ?_
 have mW:qv (Sep [ae b0 (cl [.slice (some ⟨b2,0,none⟩) 32 32,.slice (some ⟨b3,0,none⟩) 32 32] 39),Sep [ae b2 (cl (dC l) 36),ae b3 (cl (dC r) 36),A] ]) (.slice (some ⟨b0,0,none⟩) 2 2) [l.bs,r.bs]:=by
  refine qv.row zr zr (fun i x hx=>?_)
  match i,hx with
  | 0,hx =>
   simp at hx
   subst hx
   exact⟨_,rfl,(eM.block l.len (dz l)).mono (bh (i:=0) rfl)⟩
  | 1,hx =>
   simp at hx
   subst hx
   exact⟨_,rfl,(eM.block r.len (dz r)).mono (bh (i:=1) rfl)⟩
  | i+2,hx=>simp at hx
 have W5:=zm _ ((hK.mono (bh (H:=[ae b2 (cl (dC l) 36),ae b3 (cl (dC r) 36),A]) (i:=2) rfl)).mono (bh (i:=1) rfl)) 1 _ [l.bs,r.bs] mW (by simp[cX,lM,l.len,r.len])
 refine bC W5 ?_
 refine aI (ao.trans (ao.cJ _ _) (ao.trans (ao.pick [1] rfl) (ao.cJ _ _))) (go ?_)
 refine aV ?_
 refine cK (U:=aS) (l':=dC (cH 1 [l.bs,r.bs])) 4 gB rfl rfl rfl rfl (by intro e;cases e) (by rw[dz];exact jH _) rfl rfl rfl ?_
 refine go ?_
 (refine bg hE ?_;apply aY (U:=aS) hE Tryz.func149 rfl (ao.refl _);(repeat(first|exact aP.nil|apply aP.agg 4 zr zr zr zr zr));exact⟨rfl,rfl⟩;exact ah)
def Pv(l:List Dg):∀v∈l.flatMap dC,v.oneCell'=true:=by
 intro v hv
 obtain⟨d,_,hd⟩:=List.mem_flatMap.1 hv
 rw[dz]at hd
 exact cO _ v hd
def F8(A:HP)(v:Value)(W:List Dg)(hv:Vw A v W.length (W.flatMap dC))(hlen:W.length≤1000000) :
  aE Tryz.prog 97 [v] [A] (fun r H=>H=[az 36 32 r W.length (W.flatMap dC),A]):=by
 obtain⟨a,c0,rfl⟩:=hv.shape
 cases a with
 | none =>
  have hb:W=[]:=by
   obtain⟨a,cap,h1,h2|⟨b,o,h2,_⟩⟩:=hv
   ·have:=congrArg List.length h2
    rw[cu cT]at this
    exact List.eq_nil_of_length_eq_zero (by simp at this;omega)
   ·simp only[Value.slice.injEq]at h1;rw[← h1.1]at h2;cases h2
  subst hb
  refine aE.enter Tryz.func97 ak rfl Tryz.ntmps97 zr zr ?_
  intro G F R hR
  refine go ?_
  refine ai (bO 36 32 none _) ?_
  refine aL hR Tryz.func97 rfl _ zr zr (ao.fin [0,1] 0 zr zr)
 | some a =>
  refine aE.enter Tryz.func97 ak rfl Tryz.ntmps97 zr zr ?_
  intro G F R hR
  refine go ?_
  refine aj (cs:=[]) zr zr zr zr zr zr zr zr zr bD ?_
  intro b0
  refine go ?_
  refine aI (dR 36 32 b0 0 0 [] [] _ rfl (Nat.le_refl _) (by simp)) ?_
  refine aR (mm:=W.length) (news:=W.flatMap dC) 0 1 zr zr zr zr zr zr zr zr zr zr zr zr hv (by rw[cu cT];rfl) (Pv W) ag (by show _*32≤_;omega) (fun _=>rfl) bD ?_
  intro v'
  have e1:(0:Nat)+W.length=W.length:=by omega
  rw[e1,List.nil_append]
  refine go ?_
  refine aL hR Tryz.func97 rfl _ zr zr (ao.fin [0,1] 0 zr zr)
def Nx(a:Option Addr)(n c:Nat):aE Tryz.prog 221 [.slice a n c] [] (fun r H=>∃b,r = .func (.func 241) #[] #[ptr b]∧H=[ae b (cl [.slice a n c] 40)]):=by
 refine aE.au Tryz.func221 Tryz.ntmps221 fun G F R hE=>?_
 refine go ?_
 refine bG zr zr bD ?_
 intro bx
 refine go ?_
 refine ad hE Tryz.func221 zr zr ⟨bx,rfl,rfl⟩
def E2(n:Nat):(n:Int)/2 ^ (min ((1:Int).toNat) IntKind.i64.bits)=((n/2:Nat):Int):=by
 show(n:Int)/2 ^ 1=_
 omega
def Jy(n:Nat)(h:n<1000000000):IntKind.i64.wrap ((n:Int)*2 ^ (min ((1:Int).toNat) IntKind.i64.bits))=((2*n:Nat):Int):=by
 show IntKind.i64.wrap ((n:Int)*2 ^ 1)=_
 rw[cQ (by simp only[gn];omega)];omega
def Q8(n:Nat)(h:n<1000000000):IntKind.i64.wrap ((BitVec.ofInt IntKind.i64.bits ((2*n:Nat):Int) ||| BitVec.ofInt IntKind.i64.bits 1).toNat:Int)=((2*n+1:Nat):Int):=by
 have h1:=oQ (a:=1) (c:=n) (k:=1) (by decide)
 have e1:(BitVec.ofInt IntKind.i64.bits (1:Int)).toNat=1:=by decide
 rw[BitVec.toNat_or,wJ ag,e1,Nat.or_comm,show 2*n=n*2 ^ 1 from by omega,h1]
 exact(cQ (by simp only[gn];omega)).trans (congrArg _ ag)
def ue(n:Nat)(h:n<1000000000):IntKind.i64.wrap ((BitVec.ofInt IntKind.i64.bits (n:Int) &&& BitVec.ofInt IntKind.i64.bits 1).toNat:Int)=((n%2:Nat):Int):=pg n 1 ag ag
def iO{b o c m m':Nat}(h:0<c)(hm:m'=m):Value.slice (sliceAt (some ⟨b,o,none⟩) c (0:Int).toNat 32) (((m:Nat):Int).toNat-(0:Int).toNat) (c-(0:Int).toNat) = .slice (some ⟨b,o,none⟩) m' c:=by
 subst hm
 unfold sliceAt
 rw[if_neg (by show ¬(0=c);omega)]
 simp[Addr.add]
def DK{b o c n:Nat}{pre bR:List Value}{aaC W:List Dg}{e:TypeId}(hp:pre.length=o)(hn:n≤c)(hc:c*32≤(aaC.flatMap dC).length+bR.length)(hl:(aaC.flatMap dC).length=n*32)(V:List Dg)(hV:V.length=n)(hW:W=V.take W.length)(H:List HP) :
  ao (ae b (cl (pre++V.flatMap dC++bR) e)::H) (az e 32 (.slice (some ⟨b,o,none⟩) W.length c) W.length (W.flatMap dC)::H):=by
 have h1:V.flatMap dC=W.flatMap dC++(V.drop W.length).flatMap dC:=by
  conv=>lhs;rw[← List.take_append_drop W.length V]
  rw[List.flatMap_append,← hW]
 have eQ:W.length≤n:=by
  have:=congrArg List.length hW
  rw[List.length_take]at this;omega
 have h2:((V.drop W.length).flatMap dC).length=(n-W.length)*32:=by rw[cu cT,List.length_drop,hV]
 have h3:=cu cT W
 rw[h1,List.append_assoc,List.append_assoc,← List.append_assoc]
 refine l7 hp ag ?_ h3 H
 rw[List.length_append,h2,h3];omega
set_option maxHeartbeats 1000000 in
def Ks(A:HP)(hK:oD A)(bx:Nat)(v:Value)(l0:List Dg)(hv:Vw A v l0.length (l0.flatMap dC))(O1:l0.length≤1000000)(l:Nat)(Lp:HP)(Inv:Nat→HP)(hy:∀j va vc,(∀i,i<j→1<(dr i l0).length)→bW Tryz.prog l [.slice va (dr j l0).length vc] [Lp,Inv j,az 36 32 (.slice va (dr j l0).length vc) (dr j l0).length ((dr j l0).flatMap dC)] (fun r H=>r = .bool true∧H=[Lp,Inv (j+1),az 36 32 (.slice va (dr j l0).length vc) (dr j l0).length ((dr j l0).flatMap dC)])) :
  aE Tryz.prog 241 [.func (.yield l) #[] #[],ptr bx] [Lp,Inv 0,ae bx (cl [v] 40),A] (fun _ H=>∃j,(∀i,i<j→1<(dr i l0).length)∧(dr j l0).length≤1∧H=[Lp,Inv (j+1),A]):=by
 refine aE.au Tryz.func241 Tryz.ntmps241 fun G F R hE=>?_
 refine go ?_
 refine aF (F8 A v l0 hv O1) ?_
 rintro r _ rfl
 refine aN 0 rfl ?_
 rintro ra rc rfl
 refine go ?_
 refine bz (fun y:Nat × Option Addr × Nat=>∀i,i<y.1→1<(dr i l0).length) (fun y=>(dr y.1 l0).length)
  (fun y=>[(0,.func (.yield l) #[] #[]),(3,.slice y.2.1 (dr y.1 l0).length y.2.2)])
  (fun y=>az 36 32 (.slice y.2.1 (dr y.1 l0).length y.2.2) (dr y.1 l0).length ((dr y.1 l0).flatMap dC)::Lp::Inv y.1::A::F) (0,ra,rc) (fun i h=>by omega) rfl cm ah ?_
 rintro⟨j,a1,c1⟩ hI ih
 simp only at hI
 dsimp only
 have hle:=BU l0 j
 refine go ?_
 refine aq zr zr ?_ ?_
 ·intro QC
  have z7:1<(dr j l0).length:=by omega
  have hI2:∀i,i<j+1→1<(dr i l0).length:=fun i hi=>by
   rcases Nat.lt_or_ge i j with h|h
   ·exact hI i h
   ·rw[show i=j from by omega];exact z7
  have px:dr (j+1) l0=bH (dr j l0):=rfl
  have hyj:=hy j a1 c1 hI
  obtain⟨row,zV⟩:∃row,row=dr j l0:=⟨_,rfl⟩
  rw[← zV]at hle QC z7 px hyj ⊢
  have pG:=cY row
  refine go ?_
  refine kT zr zr zr hyj ah ?_ mO
  rintro _ _⟨rfl,rfl⟩
  refine go ?_
  refine jo zr zr zr ag ?_
  refine aB 16 ((.int .i64 ((row.length/2:Nat):Int))) rfl ((congrArg (Value.int .i64) (E2 row.length))) (go ?_)
  refine ai (ao.pick [2,0,1] rfl) ?_
  refine sM (fun a lq hn _=>by omega) ?_
  rintro b o cc pre bR oY mV hnc jx lH
  simp only[Value.slice.injEq,true_and]at oY
  obtain⟨rfl,rfl⟩:=oY
  have nX:∀i,i≤row.length/2→((gR row i).flatMap dC).length=row.length*32:=fun i hi=>by rw[cu cT,qM row hi]
  refine bz (fun i:Nat=>i≤row.length/2) (fun i=>row.length/2-i)
   (fun i=>[(0,.func (.yield l) #[] #[]),(3,.slice (some ⟨b,o,none⟩) row.length c1),(16,.int .i64 ((row.length/2:Nat):Int)),(17,.int .i64 (i:Int))])
   (fun i=>ae b (cl (pre++(gR row i).flatMap dC++bR) 36)::Lp::Inv (j+1)::A::F) 0 (Nat.zero_le _) rfl cm ah ?_
  rintro i hi Hl
  have EB:=qM row hi
  refine go ?_
  refine aq zr zr ?_ ?_
  ·intro cW
   have Tc:i<row.length/2:=by omega
   obtain⟨x,hx⟩:∃x,row[2*i]?=some x:=⟨row[2*i]' ag,by simp⟩
   obtain⟨y,AW⟩:∃x,row[2*i+1]?=some x:=⟨row[2*i+1]' ag,by simp⟩
   have A8:=(uV row hi (show i≤2*i by omega)).trans hx
   have hgy:=(uV row hi (show i≤2*i+1 by omega)).trans AW
   have iq:=Kt row Tc (Bq hx AW)
   have dM:Vw (ae b (cl (pre++(gR row i).flatMap dC++bR) 36)) (.slice (some ⟨b,o,none⟩) row.length c1) row.length ((gR row i).flatMap dC):=Vw.ae (by rw[← mV,List.append_assoc,List.drop_left,List.take_left])
   refine go ?_
   refine aH (fun w=>Sat G w ([ae b (cl (pre++(gR row i).flatMap dC++bR) 36)])) (df 0 13 (.act 13 (.st 14 (.act 15 .nil)))) rfl ak ak ak eo ?_
   refine go ?_
   refine mK zr zr zr ag ?_
   refine aB 24 ((.int .i64 ((2*i:Nat):Int))) rfl ((congrArg (Value.int .i64) (Jy i ag))) ?_
   refine cG (2*i) 32 zr zr zr zr zr zr zr zr ag ?_
   refine aK ?_
   refine gW (U:=aS) (es:=dC x) 0 ((2*i)*32) zr zr zr dM rfl (fun q v hq=>?_) zr zr zr ?_
   ·rw[cP cT A8 q (by rcases Nat.lt_or_ge q 32 with h|h;exact h;rw[List.getElem?_eq_none (by rw[cT];exact h)]at hq;cases hq)];exact hq
   refine go ?_
   refine mK zr zr zr ag ?_
   refine aB 29 ((.int .i64 ((2*i:Nat):Int))) rfl ((congrArg (Value.int .i64) (Jy i ag))) (go ?_)
   refine aB 30 ((.int .i64 ((2*i+1:Nat):Int))) rfl ((congrArg (Value.int .i64) (Q8 i ag))) ?_
   refine cG (2*i+1) 32 zr zr zr zr zr zr zr zr ag ?_
   refine aK ?_
   refine gW (U:=aS) (es:=dC y) 0 ((2*i+1)*32) zr zr zr dM rfl (fun q v hq=>?_) zr zr zr ?_
   ·rw[cP cT hgy q (by rcases Nat.lt_or_ge q 32 with h|h;exact h;rw[List.getElem?_eq_none (by rw[cT];exact h)]at hq;cases hq)];exact hq
   refine go ?_
   refine bC ((zu A hK x y)) ?_
   refine go ?_
   refine cG i 32 zr zr zr zr zr zr zr zr ag ?_
   refine aV ?_
   refine kK (U:=aS) (l':=pre++(gR row (i+1)).flatMap dC++bR) 1 gB zr zr zr zr zr zr zr ?_ ?_ rfl ?_
   ·show o+i*32+32≤_
    rw[List.length_append,List.length_append,nX i hi];omega
   ·show _=List.take (o+i*32) (pre++(gR row i).flatMap dC++bR)++dC (iv x y)++List.drop (o+i*32+(dC (iv x y)).length) (pre++(gR row i).flatMap dC++bR)
    rw[← mV,oJ _ _ _ _ _ (by rw[cT,nX i hi];omega),← iq,vk cT ag]
    rfl
   refine go ?_
   refine aM Hl (i+1) rfl ag ag cm ah
  intro fg
  have rB:i=row.length/2:=by omega
  subst rB
  clear Hl
  have abv:=nX (row.length/2) (Nat.le_refl _)
  have EB:=qM row (Nat.le_refl (row.length/2))
  refine go ?_
  refine bu 38 ((.int .i64 ((row.length%2:Nat):Int))) rfl ((congrArg (Value.int .i64) (ue row.length ag))) ?_
  refine aq zr zr ?_ ?_
  ·intro adg
   have aa3:row.length%2=1:=by rw[ue _ ag]at adg;omega
   obtain⟨x,hx⟩:∃x,row[row.length-1]?=some x:=⟨row[row.length-1]' ag,by simp⟩
   have A8:=(uV row (Nat.le_refl (row.length/2)) (show row.length/2≤row.length-1 by omega)).trans hx
   have dM:Vw (ae b (cl (pre++(gR row (row.length/2)).flatMap dC++bR) 36)) (.slice (some ⟨b,o,none⟩) row.length c1) row.length ((gR row (row.length/2)).flatMap dC):=Vw.ae (by rw[← mV,List.append_assoc,List.drop_left,List.take_left])
   have gP:=Ku row aa3 hx
   refine go ?_
   refine jo zr zr zr ag ?_
   refine aB 43 ((.int .i64 ((row.length/2:Nat):Int))) rfl ((congrArg (Value.int .i64) (E2 row.length))) (go ?_)
   refine aB 47 ((.int .i64 ((row.length-1:Nat):Int))) rfl ((congrArg (Value.int .i64) ag)) ?_
   refine cG (row.length-1) 32 zr zr zr zr zr zr zr zr ag ?_
   refine aK ?_
   refine cR (U:=aS) (es:=dC x) 0 ((row.length-1)*32) zr zr zr dM rfl (fun q v hq=>?_) zr zr zr ?_
   ·rw[cP cT A8 q (by rcases Nat.lt_or_ge q 32 with h|h;exact h;rw[List.getElem?_eq_none (by rw[cT];exact h)]at hq;cases hq)];exact hq
   refine cG (row.length/2) 32 zr zr zr zr zr zr zr zr ag ?_
   refine aV ?_
   refine kK (U:=aS) (l':=pre++((gR row (row.length/2)).set (row.length/2) x).flatMap dC++bR) 0 gB zr zr zr zr zr zr zr ?_ ?_ rfl ?_
   ·show o+row.length/2*32+32≤_
    rw[List.length_append,List.length_append,abv];omega
   ·show _=List.take (o+row.length/2*32) (pre++(gR row (row.length/2)).flatMap dC++bR)++dC x++List.drop (o+row.length/2*32+(dC x).length) (pre++(gR row (row.length/2)).flatMap dC++bR)
    rw[← mV,oJ _ _ _ _ _ (by rw[cT,abv];omega),vk cT ag]
    rfl
   (refine go ?_;refine jo zr zr zr ag ?_;((refine aB 55 ((.int .i64 (((row.length+1)/2:Nat):Int))) rfl ((congrArg (Value.int .i64) (by show((row.length:Int)+1)/2 ^ 1=_;omega))) ?_));refine bB (p:=0) (q:=(((row.length+1)/2:Nat):Int)) zr zr zr zr zr zr zr ag ag (.inr ag) ?_;((refine aB 56 ((.slice (some ⟨b,o,none⟩) (dr (j+1) l0).length c1)) rfl ((iO ag (by rw[px,pG]))) ?_));((refine aI (DK (W:=dr (j+1) l0) mV hnc jx lH ((gR row (row.length/2)).set (row.length/2) x) (by rw[List.length_set];exact EB) (by rw[px,pG];exact gP.symm) _) ?_));refine go ?_;refine aM ih (j+1,some ⟨b,o,none⟩,c1) rfl hI2 (by simp only;rw[px,← zV];omega) cm ah)
  ·intro abx
   have XF:row.length%2=0:=by rw[ue _ ag]at abx;omega
   have gP:=GS row XF
   (refine go ?_;refine jo zr zr zr ag ?_;((refine aB 55 ((.int .i64 (((row.length+1)/2:Nat):Int))) rfl ((congrArg (Value.int .i64) (by show((row.length:Int)+1)/2 ^ 1=_;omega))) ?_));refine bB (p:=0) (q:=(((row.length+1)/2:Nat):Int)) zr zr zr zr zr zr zr ag ag (.inr ag) ?_;((refine aB 56 ((.slice (some ⟨b,o,none⟩) (dr (j+1) l0).length c1)) rfl ((iO ag (by rw[px,pG]))) ?_));((refine aI (DK (W:=dr (j+1) l0) mV hnc jx lH (gR row (row.length/2)) EB (by rw[px,pG];exact gP.symm) _) ?_));refine go ?_;refine aM ih (j+1,some ⟨b,o,none⟩,c1) rfl hI2 (by simp only;rw[px,← zV];omega) cm ah)
 ·intro abd
  have abc:(dr j l0).length≤1:=by omega
  refine go ?_
  refine kT zr zr zr (hy j a1 c1 hI) ah ?_ mO
  rintro _ _⟨rfl,rfl⟩
  refine go ?_
  refine bU hE Tryz.func241 rfl _ rfl ⟨j,hI,abc,rfl⟩ ah
def PW(A:HP)(hK:oD A)(v:Value)(l0:List Dg)(hv:Vw A v l0.length (l0.flatMap dC))(O1:l0.length≤1000000)(bZ:l0≠[]):aE Tryz.prog 201 [v] [A] (fun r H=>r=dV (xR l0)∧H=[A]):=by
 obtain⟨a,c,rfl⟩:=hv.shape
 have lA:0<l0.length:=List.length_pos_iff.2 bZ
 refine aE.au Tryz.func201 Tryz.ntmps201 fun G F R hE=>?_
 refine aG rfl ?_
 refine aC zr zr zr bD ?_
 intro b2
 refine go ?_
 refine aq zr zr ?_ ?_
 ·intro h0;exfalso;omega
 intro _
 (refine aG rfl ?_;refine pz ?_)
 refine aC zr zr zr bD ?_
 intro b3
 refine go ?_
 refine aF (Nx a l0.length c) ?_
 rintro _ _⟨bx,rfl,rfl⟩
 refine go ?_
 refine iN rfl ?_
 let rt:Nat→Dg:=fun j=>match j with|0=>Dg.zero|j+1=>((dr j l0).head?).getD Dg.zero
 refine ai (ao.trans (ao.pick [2,1] rfl) (ao.bS [ae b2 (cl (dC Dg.zero) 36),ae b3 (cl (dC (rt 0)) 36)] _)) ?_
 refine qy (Fr:=F) (Pre:=fun _ _=>[Sep [ae b2 (cl (dC Dg.zero) 36),ae b3 (cl (dC (rt 0)) 36)],ae bx (cl [.slice a l0.length c] 40),A]) (fun _ _ Lp v H=>∃j,(∀i,i<j→1<(dr i l0).length)∧(dr j l0).length≤1∧H=[Lp .ready none,Sep [ae b2 (cl (dC Dg.zero) 36),ae b3 (cl (dC (rt (j+1))) 36)],A]) rfl hE.1.1 rfl ?c (fun l r=>ah) ?gP
 case c =>
  intro l r
  refine Ks A hK bx _ l0 hv O1 l _ (fun j=>Sep [ae b2 (cl (dC Dg.zero) 36),ae b3 (cl (dC (rt j)) 36)]) ?_
  intro j va vc hI
  refine bW.Ea zr zr ?_
  intro G2 F2 R2 hY
  have Xh:=tt l0 lA j
  have hrt:rt (j+1)=((dr j l0).head?).getD Dg.zero:=rfl
  obtain⟨x,row,zV⟩:∃x row,dr j l0=x::row:=by
   cases h:dr j l0 with
   | nil=>rw[h]at Xh;simp at Xh
   | cons x row=>exact⟨x,row,rfl⟩
  rw[zV]at hrt Xh
  simp only[List.head?_cons,Option.getD_some]at hrt
  rw[zV]at hY ⊢
  rw[hrt]at hY
  clear_value rt
  refine go ?_
  refine gl rfl hY ?_
  refine ai (ao.trans (ao.pick [1] rfl) (ao.cJ [_,_] _)) ?_
  refine cV 3 rfl ?_
  intro dM
  obtain⟨b,o,cc,qZ⟩:=dM.some (by rw[List.flatMap_cons];intro h;simp[dC]at h)
  simp only[Value.slice.injEq,true_and]at qZ
  obtain⟨rfl,rfl⟩:=qZ
  refine go ?_
  refine cG 0 32 zr zr zr zr zr zr zr zr (by simp) ?_
  refine aK ?_
  refine cR (U:=aS) (es:=dC x) 3 0 zr zr zr dM rfl (fun q v hq=>?_) zr zr zr ?_
  ·rw[Nat.zero_add,List.flatMap_cons,List.getElem?_append_left]
   ·exact hq
   ·exact(List.getElem?_eq_some_iff.1 hq).1
  refine aV ?_
  refine cK (U:=aS) (l':=dC x) 1 gB rfl rfl rfl rfl (by intro e;cases e) (by rw[dz];exact jH _) rfl rfl rfl ?_
  refine go ?_
  refine ai (ao.bS [_,_] _) ?_
  refine fK hY rfl ah ⟨rfl,rfl⟩
 rintro l r v H'⟨j,hI,hj,rfl⟩
 refine⟨_,_,_,rfl,by decide,?_⟩
 have Xh:=tt l0 lA j
 obtain⟨x,hx⟩:∃x,dr j l0=[x]:=by
  match h:dr j l0,Xh,hj with
  | [x],_,_=>exact⟨x,rfl⟩
 have EA:=DL bZ hI hx
 have hrt:rt (j+1)=x:=by show((dr j l0).head?).getD Dg.zero=x;rw[hx];rfl
 rw[hrt,hE.1.2]
 rw[EA]at hE
 clear_value rt
 refine ai (ao.cJ [_,_] _) (go ?_)
 refine aJ (U:=aS) 1 zr zr zr zr zr zr ?_
 refine cK (U:=aS) (l':=dC x) 0 gB rfl rfl rfl rfl (by intro e;cases e) (by rw[dz];exact jH _) rfl rfl rfl ?_
 refine go ?_
 (apply aY (U:=aS) hE Tryz.func201 rfl ah;(repeat(first|exact aP.nil|apply aP.agg 0 zr zr zr zr zr));exact⟨rfl,rfl⟩;exact ah)
end Go.Proofs.YtdigdgohdpeebaaGreatDoor
namespace Go.Proofs.YtdigdgohdpeebaaGreatDoor
open Go Go.SL
def eS(x:Bl):Value := .agg (bJ x).toArray
def Qj(g:FuncId)(cap:List Value)(ds:List Dg)(Pre Post:List HP):Prop :=
 ∀(l:Nat) (Lp:HP) (Inv:Nat→HP),(∀j d,ds[j]?=some d→bW Tryz.prog l [dV d] [Lp,Inv j] (fun v H=>v = .bool true∧H=[Lp,Inv (j+1)])) →
  aE Tryz.prog g (.func (.yield l) #[] #[]::cap) (Lp::Inv 0::Pre) (fun _ H=>H=Lp::Inv ds.length::Post)
def GI(bs:Nat)(ks:List Dg):HP:=fun h=>∃v:Value,True∧Sep [ae bs (cl [v] 40),az 36 32 v ks.length (ks.flatMap dC)] h
def J4(bs:Nat)(ks:List Dg):∀h,GI bs ks h→∃v,True∧Sep [ae bs (cl [v] 40),az 36 32 v ks.length (ks.flatMap dC)] h:=fun h hs=>hs
def FW(bs:Nat)(ks:List Dg)(v:Value)(H:List HP):ao (ae bs (cl [v] 40)::az 36 32 v ks.length (ks.flatMap dC)::H) (GI bs ks::H) :=
 ao.fold (A:=GI bs ks) (B:=[ae bs (cl [v] 40),az 36 32 v ks.length (ks.flatMap dC)]) fun h hs=>⟨h,sub.refl h,v,trivial,hs⟩
attribute [local irreducible] J K aE Ends ae az aQ bP bj aT aU bp bW Sha.chunks Sha.chunk Sha.rounds Sha.sched dW cH GI
def zJ(g:FuncId)(cap:List Value)(ds:List Dg)(Pre Post:List HP)(hN:ds.length≤1000000)(hi:Qj g cap ds Pre Post) :
  aE Tryz.prog 238 [.slice none 0 0,.func (.func g) #[] cap.toArray] Pre (fun r H=>H=az 36 32 r ds.length (ds.flatMap dC)::Post):=by
 refine aE.au Tryz.func238 Tryz.ntmps238 fun G F R hE=>?_
 refine aG rfl ?_
 refine bG zr zr bD ?_
 intro bs
 refine go ?_
 refine iN rfl ?_
 refine ai (ao.trans (ao.cons _ (bO 36 32 none _)) (FW bs [] (.slice none 0 0) _)) ?_
 refine wX (Fr:=F) (Pre:=fun _ _=>GI bs []::Pre) (Post:=?Po) rfl hE.1.1 rfl ?c (fun l r=>ao.refl _) ?gP
 case c =>
  intro l r
  refine hi l _ (fun j=>GI bs (ds.take j)) ?_
  intro j k A5
  have uG:=(List.getElem?_eq_some_iff.1 A5).1
  have tJ:(ds.take j).length=j:=by rw[List.length_take];omega
  have j8:ds.take (j+1)=ds.take j++[k]:=by rw[List.take_add_one,A5];rfl
  refine bW.Ea zr zr ?_
  intro G2 F2 R2 hY
  refine aG rfl ?_
  refine aC zr zr zr bD ?_
  intro b5
  refine go ?_
  refine ai (ao.pick [1] rfl) ?_
  refine gl rfl hY ?_
  refine ai (ao.pick [2] rfl) ?_
  refine er (J4 bs (ds.take j)) ?_
  rintro v -
  refine dg 1 rfl ?_
  rintro va vc rfl
  refine go ?_
  refine aJ (U:=aS) 3 zr zr zr zr zr zr ?_
  refine aj (cs:=dC k) zr zr zr zr zr zr zr zr zr bD ?_
  intro row
  refine go ?_
  refine aR (mm:=1) (news:=dC k) 2 0 zr zr zr zr zr zr zr zr zr zr zr zr (Vw.ae rfl) rfl (by rw[dz];exact cO _) (by rw[tJ];omega) (by show(_+1)*32≤_;rw[tJ];omega) (fun _=>rfl) bD ?_
  intro v1
  rw[show(ds.take j).flatMap dC++dC k=(ds.take (j+1)).flatMap dC from by rw[j8];simp,show(ds.take j).length+1=(ds.take (j+1)).length from by rw[j8];simp]
  refine aN 2 rfl ?_
  rintro va2 vc2 rfl
  refine go ?_
  refine ai (ao.trans ah (FW bs (ds.take (j+1)) (.slice va2 (ds.take (j+1)).length vc2) _)) ?_
  refine fK hY rfl ah ⟨rfl,rfl⟩
 intro l r v H fJ
 subst fJ
 refine⟨_,_,_,rfl,by decide,?_⟩
 rw[hE.1.2,List.take_length]
 refine er (J4 bs ds) ?_
 rintro w -
 refine go ?_
 refine rk hE Tryz.func238 rfl _ zr zr ?_
 exact(ao.drop _ _).trans (ao.perm (((List.perm_middle (a:=ae r (.deferred (some []))) (l₁:=Post) (l₂:=F)).cons _).trans (List.Perm.swap _ _ _)))
def C6(g:FuncId)(cap:List Value)(ds:List Dg)(Pre Post:List HP)(hN:ds.length≤1000000)(hi:Qj g cap ds Pre Post) :
  aE Tryz.prog 219 [.func (.func g) #[] cap.toArray] Pre (fun r H=>H=az 36 32 r ds.length (ds.flatMap dC)::Post):=by
 refine aE.au Tryz.func219 Tryz.ntmps219 fun G F R hE=>?_
 refine go ?_
 refine aF (zJ g cap ds Pre Post hN hi) ?_
 rintro w _ rfl
 refine go ?_
 refine aL hE Tryz.func219 rfl _ zr zr ah
def Bh(s p:Int)(hs:1≤s∧s≤1048576)(hp:1≤p∧p≤16384):aE Tryz.prog 133 [.int .i64 s,.int .i64 p] [] (fun r H=>r = .int .i64 ((s+p-1)/p)∧H=[]):=by
 have h1:0≤(s+p-1)/p:=Int.ediv_nonneg ag ag
 have h2:(s+p-1)/p≤s+p-1:=Int.ediv_le_self _ ag
 refine aE.au Tryz.func133 Tryz.ntmps133 fun G F R hE=>?_
 refine go ?_
 refine lI zr zr zr ag ag (by simp only[gn];omega) ?_
 refine go ?_
 refine ad hE Tryz.func133 zr zr ⟨rfl,rfl⟩
def om(x:Bl):aE Tryz.prog 72 [eS x] [] (fun r H=>r = .bool (bF x)∧H=[]):=by
 have hF:¬(1≤x.size∧x.size≤1048576∧16≤x.piece∧x.piece≤16384)→Value.bool false = .bool (bF x):=fun h=>congrArg Value.bool (by unfold bF;rw[decide_eq_false (by rintro⟨a,b,c,e,_⟩;exact h ⟨a,b,c,e⟩)])
 have hT:(1≤x.size∧x.size≤1048576∧16≤x.piece∧x.piece≤16384)→Value.bool (decide ((x.size+x.piece-1)/x.piece≤1024)) = .bool (bF x):=fun h=>congrArg Value.bool (by unfold bF;rw[decide_eq_decide];exact⟨fun g=>⟨h.1,h.2.1,h.2.2.1,h.2.2.2,g⟩,fun g=>g.2.2.2.2⟩)
 unfold eS
 refine aE.au Tryz.func72 Tryz.ntmps72 fun G F R hE=>?_
 refine aG rfl ?_
 refine bG zr zr bD ?_
 intro b1
 repeat'(first|(with_reducible intro pH)|refine gO ?_|refine iy zr zr zr zr ?_ ?_|(refine aF (Bh x.size x.piece ag ag) ?_;rintro _ _⟨rfl,rfl⟩))
 all_goals(first|((refine ad hE Tryz.func72 zr zr ⟨hF ag,rfl⟩))|((refine ad hE Tryz.func72 zr zr ⟨hT ag,rfl⟩)))
def vy(x:Bl):aE Tryz.prog 86 [eS x] [] (fun r H=>r = .int .i64 (cq x)∧H=[]):=by
 unfold eS
 refine aE.au Tryz.func86 Tryz.ntmps86 fun G F R hE=>?_
 refine aG rfl ?_
 refine bG zr zr bD ?_
 intro b1
 refine go ?_
 refine aJ (U:=aS) 0 zr zr zr zr zr zr ?_
 refine aO (om x) ?_
 cases hr:bF x with
 | false =>
  have hc:cq x=0:=by unfold cq;rw[if_neg (by rw[hr];simp)]
  rw[hc]at hE
  refine go ?_
  refine ad hE Tryz.func86 zr zr ⟨rfl,rfl⟩
 | true =>
  have hc:cq x=(x.size+x.piece-1)/x.piece:=by unfold cq;rw[if_pos hr]
  rw[hc]at hE
  simp only[bF,decide_eq_true_eq]at hr
  refine go ?_
  refine aO (Bh x.size x.piece ag ag) ?_
  refine go ?_
  refine ad hE Tryz.func86 zr zr ⟨rfl,rfl⟩
def oe(x:Bl):0≤cq x∧cq x≤1024:=by
 unfold cq
 split
 ·rename_i hr
  simp only[bF,decide_eq_true_eq]at hr
  exact⟨Int.ediv_nonneg ag ag,hr.2.2.2.2⟩
 ·omega
def wH{x:Bl}{i:Int}(h0:0≤i)(h1:i<cq x):bF x=true∧0≤i*x.piece∧i*x.piece<x.size:=by
 unfold cq at h1
 split at h1
 ·rename_i hr
  have Hr:=hr
  simp only[bF,decide_eq_true_eq]at hr
  refine⟨Hr,Int.mul_nonneg h0 ag,?_⟩
  have h2:(i+1)*x.piece≤x.size+x.piece-1:=by
   have:=(Int.le_ediv_iff_mul_le (a:=i+1) (b:=x.size+x.piece-1) (c:=x.piece) ag).1 ag
   exact this
  rw[Int.add_mul,Int.one_mul]at h2
  omega
 ·omega
def zo(x:Bl)(i:Int):aE Tryz.prog 87 [eS x,.int .i64 i] [] (fun r H=>r=(match dJ x i with
  | none => .tuple #[.int .i64 0,.int .i64 0,.int .i64 1]
  | some (a,n) => .tuple #[.int .i64 a,.int .i64 n,.int .i64 0])∧H=[]):=by
 unfold eS
 refine aE.au Tryz.func87 Tryz.ntmps87 fun G F R hE=>?_
 refine aG rfl ?_
 refine bG zr zr bD ?_
 intro b1
 have hN:(i<0∨cq x≤i)→dJ x i=none:=fun h=>by unfold dJ;rw[if_pos h]
 repeat'(first|(with_reducible intro pH)|refine gO ?_|refine iy zr zr zr zr ?_ ?_|refine aq zr zr ?_ ?_|refine aJ (U:=aS) 0 zr zr zr zr zr zr ?_|(refine aF (vy x) ?_;rintro _ _⟨rfl,rfl⟩))
 all_goals(first|(rw[hN ag]at hE;((refine ad hE Tryz.func87 zr zr ⟨rfl,rfl⟩)))|skip)
 have hs:dJ x i=some (i*x.piece,min x.piece (x.size-i*x.piece)):=by unfold dJ;rw[if_neg ag]
 rw[hs]at hE
 obtain⟨hr,zN,S7⟩:=wH (x:=x) (i:=i) ag ag
 simp only[bF,decide_eq_true_eq]at hr
 obtain⟨q,hq⟩:∃q,q=i*x.piece:=⟨_,rfl⟩
 rw[← hq]at zN S7 hE
 refine aH (fun w=>Sat G w ([ae b1 (cl (bJ x) 38)])) (df 0 17 .nil) rfl ak ak ak eo ?_
 (repeat(first|refine gO ?_|(refine lQ ?_;refine ib zr zr zr (by rw[← hq];simp only[gn];omega) ?_;rw[← hq])))
 refine ad hE Tryz.func87 zr zr ⟨rfl,rfl⟩
def MC(a:Option Addr)(n c:Nat)(k:Int)(hk:1≤k):aE Tryz.prog 240 [.slice a n c,.int .i64 k] [] (fun r H=>∃b1 b2,r = .func (.func 248) #[] #[ptr b1,ptr b2]∧H=[ae b1 (cl [.slice a n c] 39),ae b2 (cl [.int .i64 k] 3)]):=by
 refine aE.au Tryz.func240 Tryz.ntmps240 fun G F R hE=>?_
 refine aG rfl ?_
 refine bG zr zr bD ?_
 intro b1
 refine bG zr zr bD ?_
 intro b2
 refine go ?_
 refine aq zr zr ?_ ?_
 ·intro h;exfalso;omega
 intro _
 refine go ?_
 refine ad hE Tryz.func240 zr zr ⟨b1,b2,rfl,rfl⟩
def IB(A:HP)(b1 b2:Nat)(v:Value)(b:List UInt8)(hv:eM A v b)(hl:b.length≤1000000000)(k:Nat)(hk:1≤k)(yz:k≤1000000000)(l:Nat)(Lp:HP)(Inv:Nat→HP)(hy:∀j p rv,(gz k b.length b)[j]?=some p→eM A rv p→bW Tryz.prog l [rv] [Lp,Inv j,A] (fun r H=>r = .bool true∧H=[Lp,Inv (j+1),A])) :
  aE Tryz.prog 248 [.func (.yield l) #[] #[],ptr b1,ptr b2] [Lp,Inv 0,ae b1 (cl [v] 39),ae b2 (cl [.int .i64 (k:Int)] 3),A] (fun _ H=>H=[Lp,Inv (gz k b.length b).length,A]):=by
 obtain⟨a,c,rfl,hc⟩:=hv.2
 have hpg:=kY k hk b.length b
 have qX:=m8 k hk b
 refine aE.au Tryz.func248 Tryz.ntmps248 fun G F R hE=>?_
 refine go ?_
 refine bz (fun j:Nat=>j≤(b.length+k-1)/k) (fun j=>(b.length+k-1)/k-j)
  (fun j=>[(0,.func (.yield l) #[] #[]),(1,ptr b1),(2,ptr b2),(4,.int .i64 ((j*k:Nat):Int))])
  (fun j=>Lp::Inv j::ae b1 (cl [.slice a b.length c] 39)::ae b2 (cl [.int .i64 (k:Int)] 3)::A::F) 0 (Nat.zero_le _) rfl (by rw[Nat.zero_mul];exact cm) ah ?_
 rintro j hj ih
 have A5:j*k≤b.length+k-1:=by
  have:=(Nat.le_div_iff_mul_le hk).1 hj
  exact this
 refine go ?_
 refine aq zr zr ?_ ?_
 ·intro cW
  have tL:j*k<b.length:=by omega
  have sV:j+1≤(b.length+k-1)/k:=by
   rw[Nat.le_div_iff_mul_le hk,Nat.add_mul,Nat.one_mul];omega
  have hp:=hpg j (Nat.le_refl _)
  rw[if_pos tL]at hp
  obtain⟨p,SZ⟩:∃p,p=(b.drop (j*k)).take k:=⟨_,rfl⟩
  rw[← SZ]at hp
  have yv:p.length=min k (b.length-j*k):=by rw[SZ,List.length_take,List.length_drop]
  obtain⟨jk,abj⟩:∃jk,jk=j*k:=⟨_,rfl⟩
  rw[← abj]at tL SZ yv A5 ⊢
  refine go ?_
  refine aH (fun w=>Sat G w ([ae b1 (cl [.slice a b.length c] 39),ae b2 (cl [.int .i64 (k:Int)] 3)])) (df 0 7 .nil) rfl ak ak ak eo ?_
  refine go ?_
  refine bB (p:=((jk:Nat):Int)) (q:=(b.length:Int)) zr zr zr zr zr zr zr ag ag (.inl rfl) (go ?_)
  have Le:(jk:Int)+min (k:Int) (((((b.length:Int)).toNat-((jk:Nat):Int).toNat:Nat)):Int)=((jk+p.length:Nat):Int):=by rw[yv];omega
  refine Mp (U:=aS) zr zr zr zr zr zr zr zr ag ag ag ag ?_
  have Jq:=hv.piece jk (jk+p.length) ag ag
  rw[show jk+p.length-jk=p.length from by omega]at Jq
  have Xi:(b.drop jk).take p.length=p:=by
   rw[yv,SZ,List.take_eq_take_iff,List.length_drop];omega
  rw[Xi]at Jq
  have adS:eM A (.slice (sliceAt a (jk+p.length) jk 1) p.length p.length) p:=by
   obtain⟨lz,a2,c2,yF,mT⟩:=Jq
   refine⟨?_,_,_,rfl,Nat.le_refl _⟩
   obtain⟨a3,c3,Th,iJ⟩:=lz
   simp only[Value.slice.injEq,true_and]at Th
   have e:sliceAt a (jk+p.length) jk 1=sliceAt a c jk 1:=by
    unfold sliceAt
    rw[if_neg ag,if_neg ag]
   rw[e]
   exact⟨_,_,rfl,by rw[Th.1];exact iJ⟩
  refine aB 28 (.slice (sliceAt a (jk+p.length) jk 1) p.length p.length) rfl (by rw[Le,Int.toNat_natCast,Int.toNat_natCast,show jk+p.length-jk=p.length from by omega];rfl) ?_
  refine go ?_
  refine kT zr zr zr (hy j p _ hp adS) ah ?_ mO
  rintro _ _⟨rfl,rfl⟩
  refine go ?_
  ((refine bu 4 ((.int .i64 (((j+1)*k:Nat):Int))) rfl ((congrArg (Value.int .i64) (by rw[Nat.add_mul,Nat.one_mul,← abj];omega))) ?_))
  refine aM ih (j+1) rfl sV ag cm ah
 intro fg
 have Lj:j=(b.length+k-1)/k:=by
  rcases Nat.lt_or_ge j ((b.length+k-1)/k)with h|h
  ·exfalso
   have h2:=(Nat.le_div_iff_mul_le (x:=j+1) hk).1 h
   rw[Nat.add_mul,Nat.one_mul]at h2
   omega
  ·omega
 refine go ?_
 rw[qX,← Lj]at hE
 refine bU hE Tryz.func248 rfl _ zr zr ah
end Go.Proofs.YtdigdgohdpeebaaGreatDoor
namespace Go.SL
open Go
section
variable{P:Program}
def wI{t e:TypeId}(hu:P.underlying t=some (.array 32 e))(hc:P.cellsOf t=32)(xs:List Value)(off:Nat)(d:Dg)(h:(xs.drop off).take 32=dC d)(w:World):(part t xs.toArray off).run P w = .ok (dV d) w:=by
 obtain⟨i,hi⟩:=info_of_underlying hu
 have hs:=Go.run_sizeOf w hi
 rw[hc]at hs
 simp only[part,isAgg,Sem.run_bind,Go.run_underlying hu,Result.andThen_ok,Sem.run_pure,if_true,hs]
 have:xs.toArray.extract off (off+32)=(dC d).toArray:=by
  apply Array.ext'
  rw[← h]
  simp
 rw[this]
 rfl
def Kq{t:TypeId}(hu:P.underlying t=some (.int .i64))(a b:Int)(D:Nat)(w:World):(Op.equalIn (D+1) t (.int .i64 a) (.int .i64 b)).run P w = .ok (decide (a=b)) w:=by
 simp only[Op.equalIn,Sem.run_bind,Go.run_underlying hu,Result.andThen_ok,if_true,Sem.run_pure]
 rfl
def zP{td ti:TypeId}{f1 f2 f3 f4:Field}(n1:f1.name ≠ "_")(n2:f2.name ≠ "_")(n3:f3.name ≠ "_")(n4:f4.name ≠ "_")(E:Nat)(w:World)(c1 c2:List Value)(d1 d2 r1 r2:Dg)(s1 s2 p1 p2:Int)(eD:∀a b:Dg,(Op.equalIn E td (dV a) (dV b)).run P w = .ok (decide (a=b)) w)(eI:∀a b:Int,(Op.equalIn E ti (.int .i64 a) (.int .i64 b)).run P w = .ok (decide (a=b)) w)(t1:f1.type=td)(t2:f2.type=ti)(t3:f3.type=ti)(t4:f4.type=td)(p01:(part td c1.toArray f1.offset).run P w = .ok (dV d1) w)(p02:(part td c2.toArray f1.offset).run P w = .ok (dV d2) w)(p11:(part ti c1.toArray f2.offset).run P w = .ok (.int .i64 s1) w)(p12:(part ti c2.toArray f2.offset).run P w = .ok (.int .i64 s2) w)(p21:(part ti c1.toArray f3.offset).run P w = .ok (.int .i64 p1) w)(p22:(part ti c2.toArray f3.offset).run P w = .ok (.int .i64 p2) w)(p31:(part td c1.toArray f4.offset).run P w = .ok (dV r1) w)(p32:(part td c2.toArray f4.offset).run P w = .ok (dV r2) w) :
  (Op.eqFields E c1.toArray c2.toArray [f1,f2,f3,f4]).run P w = .ok (decide (d1=d2∧s1=s2∧p1=p2∧r1=r2)) w:=by
 by_cases h1:d1=d2
 ·by_cases h2:s1=s2
  ·by_cases h3:p1=p2
   ·simp[Op.eqFields,n1,n2,n3,n4,t1,t2,t3,t4,p01,p02,p11,p12,p21,p22,p31,p32,eD,eI,h1,h2,h3]
    by_cases h4:r1=r2 <;> simp[h4]
   ·simp[Op.eqFields,n1,n2,n3,n4,t1,t2,t3,t4,p01,p02,p11,p12,p21,p22,p31,p32,eD,eI,h1,h2,h3]
  ·simp[Op.eqFields,n1,n2,n3,n4,t1,t2,t3,t4,p01,p02,p11,p12,p21,p22,p31,p32,eD,eI,h1,h2]
 ·simp[Op.eqFields,n1,n2,n3,n4,t1,t2,t3,t4,p01,p02,p11,p12,p21,p22,p31,p32,eD,eI,h1]
end
end Go.SL
