import Derived.Test.YtedjnjkijiddlaaGreatDoorQPT2
import Derived.Test.YtedjnjkijiddlaaGreatDoorQPT3
import Derived.Test.YtedjnjkijiddlaaGreatDoorQPT4
import Derived.Test.YtedjnjkijiddlaaGreatDoorQPT5
import Derived.WideKeyRuns
import Derived.Laws.StructEq
set_option linter.unusedSectionVars false
set_option linter.unusedSimpArgs false
set_option linter.unusedVariables false
set_option maxRecDepth 20000
set_option linter.defProp false
namespace Go.SL
open Go
def fC(l:List jt):iN (wV l)=true:=by
 induction l with
 | nil=>rfl
 | cons x l ih =>
  show(Value.oneCell' (u32 x) && iN (wV l))=true
  rw[ih];rfl
section
variable{P:Program}{U:Tr}[hU:fX P U]{f:FuncId}{n:Nat}{R:Ending→World→Prop}{G:cJ}{k:List Item}{L:fJ}{H H':List HP}{S:World→Prop}{all:Array Oper}{rest:Pl}{ty:TypeId}{pos:String}{af:Array Edge}{gd:Option (Nat × Bool)}{m:Bool}{d:Tmp}
def YQ{t:TypeId}{x:Operand}{j:IntKind}{p:Int}(hd:Nat.blt d n=true)(hx:ev L x=some (.int j p))(hr:gq j (-p))(h:J P f n R G S all rest k ((d,.int j (-p))::L) H):J P f n R G S all (.cons m true ⟨some d,.unOp .neg t x,ty,pos,af,gd⟩ rest) k L H :=
 dA hd (fun a ha w=>by
  have e:j.wrap (0-p) = -p:=by rw[Int.zero_sub];exact cS hr
  simp only[execOp,ha.ev hx,Sem.run_bind,Result.andThen_ok,Op.unary,Op.intArith]
  simp
  simpa using e) h
def aG{t:TypeId}{x:Operand}{b:Nat}{bR:Ty}{l:List Value}{e:TypeId}(i:Nat)(hd:Nat.blt d n=true)(hx:ev L x=some (.pointer (some ⟨b,0,none⟩)))(hi:cE H i=some (ae b (cl l e)))(ht:U.get t=some bR)(hg:bR.isAgg=true)(hl:l.length=bR.info.size)(h:J P f n R G S all rest k ((d,.agg l.toArray)::L) H):J P f n R G S all (.cons false true ⟨some d,.load t x,ty,pos,af,gd⟩ rest) k L H :=
 zL (U:=U) hd hx ht hg (by rw[hl];exact Nat.beq_refl _) (fun w hw j v hj=>by rw[dJ (hw.tW hi),Nat.zero_add];exact hj) h
def bQ{Hs:List HP}{t:TypeId}{x:Operand}{b:Nat}{bR:Ty}{l:List Value}{e:TypeId}(i:Nat)(hd:Nat.blt d n=true)(hx:ev L x=some (.pointer (some ⟨b,0,none⟩)))(hi:cE Hs i=some (ae b (cl l e)))(ht:U.get t=some bR)(hg:bR.isAgg=true)(hl:l.length=bR.info.size)(h:J P f n R G (fun w=>Sat G w Hs) all rest k ((d,.agg l.toArray)::L) H):J P f n R G (fun w=>Sat G w Hs) all (.cons true true ⟨some d,.load t x,ty,pos,af,gd⟩ rest) k L H :=
 kR hd (fun a w ha hw=>by
  have hw:Sat G w Hs:=hw
  simp[execOp,ha.ev hx,iH (P:=P) ht hg hl (fun j v hj=>by rw[dJ (hw.tW hi),Nat.zero_add];exact hj)]) h
def ct{t:TypeId}{x y:Operand}{b:Nat}{bR:Ty}{l l':List Value}{e:TypeId}(i:Nat)(hS:∀w,Sat G w H'→Sx rest S w)(hx:ev L x=some (.pointer (some ⟨b,0,none⟩)))(hy:ev L y=some (.agg l'.toArray))(ht:U.get t=some bR)(iB:l'.length=bR.info.size)(bY:l'≠[])(gw:iN l'=true)(hi:cE H i=some (ae b (cl l e)))(hll:l.length=l'.length)(hp:lH i (ae b (cl l' e)) H [] = .mk H')(h:J P f n R G S all rest k L H'):J P f n R G S all (.cons false true ⟨none,.store t x y,ty,pos,af,gd⟩ rest) k L H:=by
 have hc:bp (.agg l'.toArray)=l':=by simp[bp]
 refine kH (U:=U) (l':=l') i hS hx hy ht (by rw[hc,iB];exact Nat.beq_refl _) (by rw[hc];cases l' with|nil=>exact absurd rfl bY|cons _ _=>rfl) (by rw[hc];exact gw) hi (by rw[hc];omega) (by rw[hc];simp[hll]) hp h
def gV{t:TypeId}{x y:Operand}{b off:Nat}{bR:Ty}{l:List Value}{u:Value}{e:TypeId}(i:Nat)(hS:∀w,Sat G w H'→Sx rest S w)(hx:ev L x=some (.pointer (some ⟨b,off,none⟩)))(hy:ev L y=some u)(ht:U.get t=some bR)(iB:Nat.beq bR.info.size 1=true)(hc:bp u=[u])(gw:iN [u]=true)(hi:cE H i=some (ae b (cl l e)))(hq:off<l.length)(hp:lH i (ae b (cl (l.set off u) e)) H [] = .mk H')(h:J P f n R G S all rest k L H'):J P f n R G S all (.cons false true ⟨none,.store t x y,ty,pos,af,gd⟩ rest) k L H:=by
 refine kH (U:=U) (l':=l.set off u) i hS hx hy ht (by rw[hc,Nat.eq_of_beq_eq_true iB];rfl) (by rw[hc];rfl) (by rw[hc];exact gw) hi (by rw[hc];simp;omega) ?_ hp h
 rw[hc,List.set_eq_take_append_cons_drop,if_pos hq]
 simp
def ep{t elem:TypeId}{bR te:Ty}{x y:Operand}{j:IntKind}{b o len:Nat}{p:Int}(q:Nat)(hd:Nat.blt d n=true)(ht:U.get t=some bR)(hu:bR.gA = .array len elem)(he:U.get elem=some te)(hs:Nat.beq te.info.size 1=true)(hx:ev L x=some (.pointer (some ⟨b,o,none⟩)))(hy:ev L y=some (.int j p))(hq:p=(q:Int))(de:q<len)(h:J P f n R G S all rest k ((d,.pointer (some ⟨b,o+q,none⟩))::L) H):J P f n R G S all (.cons m true ⟨some d,.indexAddr t x y,ty,pos,af,gd⟩ rest) k L H:=by
 subst hq
 refine zM hd ht hu he hx hy ag ag ?_
 rw[Nat.eq_of_beq_eq_true hs,Int.toNat_natCast,Nat.mul_one]
 exact h
def mJ{t:TypeId}{x:Operand}{b off:Nat}{bR:Ty}{l:List Value}{e:TypeId}{v:Value}(i q:Nat)(hd:Nat.blt d n=true)(hx:ev L x=some (.pointer (some ⟨b,off,none⟩)))(hi:cE H i=some (ae b (cl l e)))(hq:off=q)(hv:l[q]?=some v)(ht:U.get t=some bR)(hg:bR.isAgg=false)(h:J P f n R G S all rest k ((d,v)::L) H):J P f n R G S all (.cons false true ⟨some d,.load t x,ty,pos,af,gd⟩ rest) k L H:=by
 subst hq
 exact eY (U:=U) i hd hx hi (by rw[dM];exact hv) ht hg h
def eR{Hs:List HP}{t:TypeId}{x:Operand}{b off:Nat}{bR:Ty}{l:List Value}{e:TypeId}{v:Value}(i q:Nat)(hd:Nat.blt d n=true)(hx:ev L x=some (.pointer (some ⟨b,off,none⟩)))(hi:cE Hs i=some (ae b (cl l e)))(hq:off=q)(hv:l[q]?=some v)(ht:U.get t=some bR)(hg:bR.isAgg=false)(h:J P f n R G (fun w=>Sat G w Hs) all rest k ((d,v)::L) H):J P f n R G (fun w=>Sat G w Hs) all (.cons true true ⟨some d,.load t x,ty,pos,af,gd⟩ rest) k L H:=by
 subst hq
 exact iz (U:=U) i hd hx hi (by rw[dM];exact hv) ht hg h
def mL{t e:TypeId}{bR te:Ty}{nn:Nat}{z:Array Value}{parts:Array (Nat × Operand)}{cs:List Value}(hd:Nat.blt d n=true)(ht:U.get t=some bR)(hu:bR.gA = .array nn e)(he:U.get e=some te)(hz:bR.info.zero=some (.agg z))(hb:vt L te.info.size z.toList parts.toList = .mk cs)(h:J P f n R G S all rest k ((d,.agg cs.toArray)::L) H):J P f n R G S all (.cons m true ⟨some d,.build t parts,ty,pos,af,gd⟩ rest) k L H:=by
 have jy:∀a w,Has n L a→(execOp a.eval ⟨some d,.build t parts,ty,pos,af,gd⟩).run P w = .ok (.value (.agg cs.toArray)) w:=fun a w ha=>by
  have hf:=wg ha te.info.size parts.toList z.toList cs hb
  rw[Array.toArray_toList]at hf
  simp only[execOp,Instr.build,Sem.run_bind,dU ht hz,run_underlying ht,Result.andThen_ok,hu,run_sizeOf he,Value.cells,Array.toList_map,hf,Sem.run_pure]
 cases m with
 | false=>exact kJ hd (fun a w ha _=>jy a w ha) h
 | true=>exact kR hd (fun a w ha _=>jy a w ha) h
end
end Go.SL
namespace Go.SL
open Go
def P2{P:Program}{f:FuncId}{n:Nat}{R:Ending→World→Prop}{G:cJ}{ds:List Nat}{k k0:List Item}{L:fJ}{H H':List HP}{fn:Func}{F:List HP}{Post:Value→List HP→Prop}{v:Value}{Hq:List HP}(hR:Ends R G F Post)(hf:P.funcs[f]?=some fn)(hk:iA 1000 k0 = .mk (.code .ret::k))(he:al H (ds.map (fun r=>ae r (.deferred (some [])))++H'))(Hl:∀a w,Has n L a→Sat { G with ds:=ds } w H'→(results fn a.tmps).run P w = .ok v w)(fG:Post v Hq)(Al:al H' (Hq++F)):K P f n R { G with ds:=ds } k0 L H:=by
 refine gP 1000 hk ?_
 intro a w ha hw cs
 have OE:({ G with ds:=ds }:cJ).ro=none:=hR.1.1
 rw[OE]
 obtain⟨w',mO,hs⟩:=qh (P:=P) ds { bf none f a (.code .ret::k)with mode := .returning } cs w rfl ha.2 ⟨H',hw.cV he,rfl⟩
 exact⟨_,w',_,hR.2 _ _ w' fG (by have:=mO.cV Al;exact this),Steps.trans (.one (stepR_ret rfl)) hs,rfl,rfl,rfl,rfl,fn,hf,Hl a w' ha.1 mO⟩
def yc{P:Program}{U:Tr}[hU:fX P U]{n:Nat}{L:fJ}{a:Act}{p b:Nat}{t e:TypeId}{bR:Ty}{u:Value}{G:cJ}{w:World}{H:List HP}(i:Nat)(ha:Has n L a)(hw:Sat G w H)(hp:ej L p=some (.pointer (some ⟨b,0,none⟩)))(ht:U.get t=some bR)(hg:bR.isAgg=false)(hi:cE H i=some (ae b (cl [u] e))):(B3 a.tmps (.cell p t)).run P w = .ok u w:=by
 have hc:w.cell? ⟨b,0,none⟩=some u:=by rw[dJ (hw.tW hi)];rfl
 have OS:=oN (P:=P) (w:=w) ht hg hc
 have g1:a.tmps.getD p undef = .pointer (some ⟨b,0,none⟩):=by simp[Array.getD_eq_getD_getElem?,ha.2.2 p _ hp]
 simp only[B3,g1,asAddr,Sem.run_bind,Sem.run_pure,Result.andThen_ok]
 simpa[Instr.loadAt,Instr.sureAddr]using OS
def sX{P:Program}{U:Tr}[hU:fX P U]{f:FuncId}{n:Nat}{R:Ending→World→Prop}{G:cJ}{ds:List Nat}{k k0:List Item}{L:fJ}{H H':List HP}{fn:Func}{F:List HP}{Post:Value→List HP→Prop}{p q b1 b2:Nat}{t1 t2 e1 e2:TypeId}{ty1 ty2:Ty}{u1 u2:Value}{Hq:List HP}(i j:Nat)(hR:Ends R G F Post)(hf:P.funcs[f]?=some fn)(hk:iA 1000 k0 = .mk (.code .ret::k))(xg:fn.results.toList=[.cell p t1,.cell q t2])(hp:ej L p=some (.pointer (some ⟨b1,0,none⟩)))(hq:ej L q=some (.pointer (some ⟨b2,0,none⟩)))(K0:U.get t1=some ty1)(Ak:ty1.isAgg=false)(ht2:U.get t2=some ty2)(EO:ty2.isAgg=false)(he:al H (ds.map (fun r=>ae r (.deferred (some [])))++H'))(hi:cE H' i=some (ae b1 (cl [u1] e1)))(hj:cE H' j=some (ae b2 (cl [u2] e2)))(fG:Post (.tuple #[u1,u2]) Hq)(Al:al H' (Hq++F)):K P f n R { G with ds:=ds } k0 L H:=by
 refine P2 hR hf hk he (fun a w ha hw=>?_) fG Al
 have h1:=yc (P:=P) i ha hw hp K0 Ak hi
 have h2:=yc (P:=P) j ha hw hq ht2 EO hj
 rw[oP,Array.mapM_eq_mapM_toList,xg]
 simp only[Sem.run_bind,Sem.run_map,List.mapM_cons,List.mapM_nil,h1,h2,Sem.run_pure,Result.andThen_ok]
 simp
def aY{P:Program}{f:FuncId}{n:Nat}{R:Ending→World→Prop}{G:cJ}{k:List Item}{L:fJ}{H F:List HP}{Post:Value→List HP→Prop}(hE:Ends R G F Post)(h:K P f n R { G with ds:=[] } k L H):K P f n R G k L H:=by
 have:({ G with ds:=[] }:cJ)=G:=by have:=hE.1.2;cases G;simp_all
 rw[this]at h
 exact h
def qF{P:Program}{f:FuncId}{n:Nat}{R:Ending→World→Prop}{G:cJ}{k:List Item}{L:fJ}{H:List HP}{ps:Array Tmp}{assign body:Code}{k0:List Item}{g:Operand}{gid:FuncId}{cap:Array Value}{Pre:Nat→Nat→List HP}{Fr:List HP}(Post:Nat→Nat→(LoopState→Option Code→HP)→Value→List HP→Prop)(hk:iA 1000 k0 = .mk (.code (.rangeFunc g ps assign body)::k))(OE:G.ro=none)(hg:ev L g=some (.func (.func gid) #[] cap))(c:∀l r,aE P gid (.func (.yield l) #[] #[]::cap.toList) (bu l .ready none f n L ps assign body r::Pre l r) (Post l r (fun st pd=>bu l st pd f n L ps assign body r)))(he:∀l r,al H (Pre l r++Fr))(iK:∀l r v H',Post l r (fun st pd=>bu l st pd f n L ps assign body r) v H'→∃st pd YV,H'=bu l st pd f n L ps assign body r::YV∧st ≠ .busy ∧
   K P f n R { G with ds:=r::G.ds } ((pd.map Item.code).toList++k) L (YV++(ae r (.deferred (some []))::Fr))):K P f n R G k0 L H :=
 xr hk OE hg c he iK
def dy{P:Program}{f:FuncId}{n:Nat}{R:Ending→World→Prop}{G:cJ}{k:List Item}{L:fJ}{H:List HP}{e:TypeId}{sz nn:Nat}{v:Value}{cs:List Value}(i:Nat)(hi:cE H i=some (aB e sz v nn cs))(h:Vw (aB e sz v nn cs) v nn cs→K P f n R G k L H):K P f n R G k L H :=
 sk fun⟨w,hw⟩=>by
  obtain⟨h1,_,hA⟩:=hw.lf hi
  exact h (Vw.oT e sz v nn cs ⟨h1,hA⟩)
def II{e:TypeId}{sz nn c:Nat}{a:Option Addr}{cs:List Value}{h:Hp}(hs:aB e sz (.slice a nn c) nn cs h):nn≤c:=by
 obtain⟨_,⟨a',hv,hn,_⟩|⟨b,o,cap,pre,bT,hv,hp,hn,hc,_⟩⟩:=hs
 ·omega
 ·simp only[Value.slice.injEq]at hv;omega
def SC{P:Program}{f:FuncId}{n:Nat}{R:Ending→World→Prop}{G:cJ}{k:List Item}{L:fJ}{H:List HP}{S:World→Prop}{all:Array Oper}{rest:Pl}{e:TypeId}{sz nn c:Nat}{a:Option Addr}{cs:List Value}(i:Nat)(hi:cE H i=some (aB e sz (.slice a nn c) nn cs))(h:Vw (aB e sz (.slice a nn c) nn cs) (.slice a nn c) nn cs→nn≤c→J P f n R G S all rest k L H):J P f n R G S all rest k L H :=
 zK fun w hw=>by
  obtain⟨h1,_,hA⟩:=hw.lf hi
  exact h (Vw.oT e sz _ nn cs ⟨h1,hA⟩) (II hA)
def Km{P:Program}{U:Tr}[hU:fX P U]{n:Nat}{G:cJ}{L:fJ}{H:List HP}{fn:Func}{p b:Nat}{t e:TypeId}{bR:Ty}{cs:List Value}{a:Act}{w:World}(i:Nat)(ha:sZ G n L a)(hw:Sat G w H)(xg:fn.results.toList=[.cell p t])(hp:ej L p=some (.pointer (some ⟨b,0,none⟩)))(ht:U.get t=some bR)(hg:bR.isAgg=true)(hl:cs.length=bR.info.size)(hi:cE H i=some (ae b (cl cs e))):(results fn a.tmps).run P w = .ok (.agg cs.toArray) w:=by
 have hc:∀j v,cs[j]?=some v→w.cell? ⟨b,0+j,none⟩=some v:=fun j v hj=>by rw[dJ (hw.tW hi),Nat.zero_add];exact hj
 have OS:=iH (P:=P) (w:=w) ht hg hl hc
 have XO:(loadVar t ⟨b,0,none⟩).run P w = .ok (.agg cs.toArray) w:=by simpa[Instr.loadAt,Instr.sureAddr]using OS
 have g1:a.tmps.getD p undef = .pointer (some ⟨b,0,none⟩):=by simp[Array.getD_eq_getD_getElem?,ha.get hp]
 rw[oP,Array.mapM_eq_mapM_toList,xg]
 simp only[Sem.run_bind,Sem.run_map,List.mapM_cons,List.mapM_nil,B3,g1,asAddr,Sem.run_pure,Result.andThen_ok,XO]
 simp
def jC{P:Program}{U:Tr}[hU:fX P U]{f:FuncId}{n:Nat}{R:Ending→World→Prop}{G:cJ}{k k0:List Item}{L:fJ}{H:List HP}{fn:Func}{F:List HP}{Post:Value→List HP→Prop}{p b:Nat}{t e:TypeId}{bR:Ty}{cs:List Value}(i:Nat)(hR:Ends R G F Post)(hf:P.funcs[f]?=some fn)(hk:iA 1000 k0 = .mk (.code .ret::k))(xg:fn.results.toList=[.cell p t])(hp:ej L p=some (.pointer (some ⟨b,0,none⟩)))(ht:U.get t=some bR)(hg:bR.isAgg=true)(hl:cs.length=bR.info.size)(hi:cE H i=some (ae b (cl cs e))){Hq:List HP}(fG:Post (.agg cs.toArray) Hq)(he:al H (Hq++F)):K P f n R G k0 L H:=by
 refine gP 1000 hk ?_
 intro a w ha hw j9
 have jy:=Km (P:=P) i ha hw xg hp ht hg hl hi
 rw[hR.1.1]
 exact⟨_,w,_,hR.2 _ _ w fG (hw.cV he),.one (stepR_ret rfl),rfl,rfl,by show a.defers=[];rw[ha.2,hR.1.2];rfl,rfl,fn,hf,jy⟩
end Go.SL
namespace Go.Proofs.YtedjnjkijiddlaaGreatDoor
open Go Go.SL
attribute [local irreducible] J K aE Ends ae aB aP bP bq aS aZ bu bX
def Np(n:Nat)(h1:1≤n)(h2:n≤31):IntKind.u64.wrap ((BitVec.ofInt IntKind.u64.bits (IntKind.u64.wrap (-(n:Int))) &&& BitVec.ofInt IntKind.u64.bits 31).toNat:Int)=((32-n:Nat):Int):=by
 have:∀n:Nat,n<32→1≤n→IntKind.u64.wrap ((BitVec.ofInt 64 (IntKind.u64.wrap (-(n:Int))) &&& BitVec.ofInt 64 31).toNat:Int)=((32-n:Nat):Int):=by decide
 exact this n ag h1
def vv(x:jt)(n:Nat)(h1:1≤n)(h2:n≤31):aE Tryz.prog 239 [u32 x,.int .i64 (-(n:Int))] [] (fun r H=>r=u32 (Sha.uG x n)∧H=[]):=by
 unfold u32
 refine aE.ao Tryz.func239 Tryz.ntmps239 fun G F R hE=>?_
 refine go ?_
 refine ez ?_
 refine il zr zr zr zr zr zr ?_
 refine ld ?_
 refine aX 5 ((.int .u64 ((32-n:Nat):Int))) rfl ((congrArg (Value.int .u64) (Np n h1 h2))) (go ?_)
 refine Io (32-n) zr zr zr zr ag ?_
 (repeat(first|refine gy ?_|refine qH n zr zr zr ag ag ?_|refine FK zr zr zr ?_))
 refine ad hE Tryz.func239 zr zr ⟨rfl,rfl⟩
def jf(x:jt)(n:Nat)(h1:1≤n)(h2:n≤31):aE Tryz.prog 215 [u32 x,.int .i64 (n:Int)] [] (fun r H=>r=u32 (Sha.uG x n)∧H=[]):=by
 refine aE.ao Tryz.func215 Tryz.ntmps215 fun G F R hE=>?_
 refine go ?_
 refine YQ zr zr (by simp only[gq];omega) ?_
 refine aJ (vv x n h1 h2) ?_
 refine go ?_
 refine ad hE Tryz.func215 zr zr ⟨rfl,rfl⟩
def Gw(A:HP)(v:Value)(b:List UInt8)(hv:eM A v b)(HD:64≤b.length) :
  aE Tryz.prog 214 [v] [A] (fun r H=>r = .agg (wV (Sha.sched b 64)).toArray∧H=[A]):=by
 obtain⟨a,c,rfl,hc⟩:=hv.2
 have hf:=hv.front 64 HD
 refine aE.ao Tryz.func214 Tryz.ntmps214 fun G F R hE=>?_
 refine aD rfl ?_
 refine az zr zr zr bD ?_
 intro b2
 refine ld ?_
 (refine aD rfl ?_;refine ld ?_)
 refine az zr zr zr bD ?_
 intro b3
 refine go ?_
 refine bh (p:=0) (q:=64) zr zr zr zr zr zr zr ag ag (.inr ag) ?_
 refine au 10 ((.slice (sliceAt a c 0 1) 64 c)) rfl (rfl) (go ?_)
 refine bB (fun i:Nat=>i≤64) (fun i=>64-i)
  (fun i=>[(2,ptr b2),(3,ptr b3),(10,.slice (sliceAt a c 0 1) 64 c),(11,.int .i64 64),(12,.int .i64 (i:Int))])
  (fun i=>ae b3 (cl (wV (Sha.na b i)) 196)::ae b2 (cl (wV (List.replicate 64 0)) 196)::A::F) 0 (Nat.zero_le _) rfl cg (by rw[Sha.HH];exact ah) ?_
 rintro i hi ih
 refine go ?_
 refine aq zr zr ?_ ?_
 ·intro de
  have RM:i<64:=by omega
  obtain⟨x,hx⟩:∃x,b[i]?=some x:=⟨b[i]' ag,by simp⟩
  have hxd:b.getD i 0=x:=by rw[List.getD_eq_getElem?_getD,hx];rfl
  have rE:(bV (b.take 64))[i]?=some (u8 x):=by
   refine pk ?_
   rw[List.getElem?_take,if_pos RM,hx]
  obtain⟨bb,oo,cc,gk⟩:=hf.1.some (by intro e;rw[e]at rE;simp at rE)
  simp only[Value.slice.injEq,true_and]at gk
  obtain⟨gk,-,rfl⟩:=gk
  have hlen:(b.take 64).length=64:=by rw[List.length_take];omega
  have hf2:=hf.1
  rw[gk,hlen]at hf2
  rw[gk]
  refine go ?_
  refine bM i zr zr zr zr zr zr zr zr RM ?_
  refine aK ?_
  refine bj 2 i zr zr zr hf2 rfl rE zr zr (go ?_)
  refine aF (fun w=>Sat G w ([ae b3 (cl (wV (Sha.na b i)) 196)])) (cZ 0 13 (.act 13 .nil)) rfl ak ak ak dT ?_
  refine go ?_
  have hg:=Sha.lR b i (i/4) ag
  have hq:(i:Int)/4=((i/4:Nat):Int):=by omega
  have hr:24-8*((i:Int)%4)=((24-8*(i%4):Nat):Int):=by omega
  have aeJ:(wV (Sha.na b i)).length=64:=by rw[lq,Sha.kF]
  (repeat(first|refine gy ?_|refine lj zr zr zr ag ag (by simp only[gq];omega) ?_|refine mI zr zr zr ag ag ?_|refine ib zr zr zr (by simp only[gq];omega) ?_|refine ep (U:=aQ) (i/4) zr zr zr zr zr zr zr hq ag ?_|(refine aK ?_;refine eR (U:=aQ) 0 (i/4) zr zr zr (Nat.zero_add _) (iE hg) zr zr ?_)|(refine ez ?_;refine qG (U:=aQ) zr zr zr zr zr zr ?_)|refine Io (24-8*(i%4)) zr zr zr hr ag ?_|refine FK zr zr zr ?_))
  refine aT ?_
  refine gV (U:=aQ) 0 gB zr zr zr zr zr zr zr (by rw[lq,Sha.kF];omega) rfl ?_
  rw[show 0+i/4=i/4 from Nat.zero_add _]
  refine go ?_
  have cK:=Sha.HI b i RM
  rw[hxd]at cK
  have ir:(wV (Sha.na b i)).set (i/4) (.int .u32 (((Sha.part b (i/4) (min 4 (i-4*(i/4))) ||| wB x <<< (24-8*(i%4))).toNat:Nat):Int))=wV (Sha.na b (i+1)):=by
   rw[← cK,show min 4 (i-4*(i/4))=i%4 from by omega]
   exact xE _ _ _
  rw[ir,← gk]
  refine aM ih (i+1) rfl ag ag cg ah
 intro fA
 have Lh:i=64:=by omega
 subst Lh
 clear ih
 refine go ?_
 refine bB (fun t:Nat=>16≤t∧t≤64) (fun t=>64-t)
  (fun t=>[(2,ptr b2),(3,ptr b3),(6,.int .i64 (t:Int))])
  (fun t=>ae b3 (cl (wV (Sha.eN b t)) 196)::ae b2 (cl (wV (List.replicate 64 0)) 196)::A::F) 16 ⟨ag,ag⟩ rfl cg (by rw[Sha.Lw];exact ah) ?_
 rintro t⟨K0,ht2⟩ ih
 have hlen:=Sha.sB b t ht2
 refine go ?_
 refine aq zr zr ?_ ?_
 ·intro de
  have ht:t<64:=by omega
  have g2:=Sha.iG b t (t-2) ag
  have g7:=Sha.iG b t (t-7) ag
  have g15:=Sha.iG b t (t-15) ag
  have g16:=Sha.iG b t (t-16) ag
  refine go ?_
  refine aF (fun w=>Sat G w ([ae b3 (cl (wV (Sha.eN b t)) 196)])) (cZ 0 10 .nil) rfl ak ak ak dT ?_
  refine go ?_
  (repeat(first|refine gy ?_|refine ep (U:=aQ) (t-2) zr zr zr zr zr zr zr ag ag ?_|refine ep (U:=aQ) (t-15) zr zr zr zr zr zr zr ag ag ?_|(refine aK ?_;first|refine eR (U:=aQ) 0 (t-2) zr zr zr (Nat.zero_add _) (iE g2) zr zr ?_|refine eR (U:=aQ) 0 (t-15) zr zr zr (Nat.zero_add _) (iE g15) zr zr ?_)))
  refine aJ (jf _ 17 ag ag) ?_
  refine go ?_
  refine aJ (jf _ 19 ag ag) ?_
  (repeat(first|refine gy ?_|refine je zr zr zr ?_|refine qH 10 zr zr zr zr ag ?_))
  refine aJ (jf _ 7 ag ag) ?_
  refine go ?_
  refine aJ (jf _ 18 ag ag) ?_
  (repeat(first|refine gy ?_|refine je zr zr zr ?_|refine qH 3 zr zr zr zr ag ?_))
  refine aF (fun w=>Sat G w ([ae b3 (cl (wV (Sha.eN b t)) 196)])) (cZ 0 15 (.act 15 .nil)) rfl ak ak ak dT ?_
  refine go ?_
  (repeat(first|refine gy ?_|refine ep (U:=aQ) (t-16) zr zr zr zr zr zr zr ag ag ?_|refine ep (U:=aQ) (t-7) zr zr zr zr zr zr zr ag ag ?_|refine ep (U:=aQ) t zr zr zr zr zr zr zr zr ht ?_|(refine aK ?_;first|refine eR (U:=aQ) 0 (t-16) zr zr zr (Nat.zero_add _) (iE g16) zr zr ?_|refine eR (U:=aQ) 0 (t-7) zr zr zr (Nat.zero_add _) (iE g7) zr zr ?_)|refine jZ zr zr zr ?_))
  refine aT ?_
  refine gV (U:=aQ) 0 gB zr zr zr zr zr zr zr (by rw[lq,hlen];omega) rfl ?_
  rw[show 0+t=t from Nat.zero_add _]
  refine go ?_
  have ir:=(xE (Sha.eN b t) t _).trans (congrArg wV (Sha.vI b t K0 ht))
  refine ai (H':=ae b3 (cl (wV (Sha.eN b (t+1))) 196)::ae b2 (cl (wV (List.replicate 64 0)) 196)::A::F) (by rw[← ir];exact al.refl _) ?_
  refine aM ih (t+1) rfl ⟨ag,ag⟩ ag cg ah
 intro fA
 have Hk:t=64:=by omega
 subst Hk
 rw[Sha.x7]
 have E4:(wV (Sha.sched b 64)).length=64:=by rw[lq,Sha.dP]
 have gw:iN (wV (Sha.sched b 64))=true:=fC _
 generalize wV (Sha.sched b 64)=W at E4 gw hE ⊢
 refine go ?_
 refine aG (U:=aQ) 0 zr zr zr zr zr E4 ?_
 refine ct (U:=aQ) 1 gB rfl rfl rfl E4 (by intro e;rw[e]at E4;cases E4) gw rfl (by rw[E4];simp[lq]) rfl ?_
 refine go ?_
 refine jC (U:=aQ) 1 hE Tryz.func214 zr zr zr zr zr E4 rfl ⟨rfl,rfl⟩ ah
def oG(X:HP):Prop:=Vw X (.slice (some ⟨0,0,none⟩) 64 64) 64 (wV Sha.ks)
def oG.mono{A B:HP}(h:oG A)(Yi:∀h,B h→∃h',sub h' h∧A h'):oG B:=Vw.mono h Yi
def Oh{t:Nat}(h:t<64):Sha.ks[t]?=some (Sha.ks.getD t 0):=by
 rw[List.getD_eq_getElem?_getD,List.getElem?_eq_getElem (show t<Sha.ks.length from h)];rfl
def Ql(s:Sha.St):Value := .agg (wV s.l).toArray
def DA(A:HP)(hK:oG A)(v:Value)(b:List UInt8)(hv:eM A v b)(HD:64≤b.length)(s:Sha.St) :
  aE Tryz.prog 182 [Ql s,v] [A] (fun r H=>r=Ql (Sha.chunk s b)∧H=[A]):=by
 have e7:=Gw A v b hv HD
 obtain⟨a,c,rfl,hc⟩:=hv.2
 unfold oG at hK
 have fb:(Sha.sched b 64).length=64:=Sha.dP b 64
 have EY:Sha.chunk s b=Sha.plus s (Sha.rounds s (Sha.sched b 64) 64):=rfl
 rw[EY]
 generalize Sha.sched b 64=W at e7 fb ⊢
 obtain⟨s1,s2,s3,s4,s5,s6,s7,s8⟩:=s
 dsimp only [Ql,Sha.St.l,wV,List.map_cons,List.map_nil]
 refine aE.ao Tryz.func182 Tryz.ntmps182 fun G F R hE=>?_
 refine go ?_
 refine bG zr zr bD ?_
 intro b2
 refine go ?_
 refine az zr zr zr bD ?_
 intro b4
 refine go ?_
 refine aF (fun w=>Sat G w ([ae b2 (cl [u32 s1,u32 s2,u32 s3,u32 s4,u32 s5,u32 s6,u32 s7,u32 s8] 225)])) (cZ 0 24 .nil) rfl ak ak ak dT ?_
 refine go ?_
 (repeat(first|refine gy ?_|refine gp zr zr zr zr zr zr ag ag ?_))
 refine aJ e7 ?_
 refine go ?_
 generalize hs:(⟨s1,s2,s3,s4,s5,s6,s7,s8⟩:Sha.St)=s at hE
 refine bB (fun t:Nat=>t≤64) (fun t=>64-t)
  (fun t=>[(2,ptr b2),(4,ptr b4),(34,.agg (wV W).toArray),(35,.int .i64 (t:Int)),(5,u32 (Sha.rounds s W t).a),(6,u32 (Sha.rounds s W t).b),(7,u32 (Sha.rounds s W t).c),(8,u32 (Sha.rounds s W t).d),(9,u32 (Sha.rounds s W t).e),(10,u32 (Sha.rounds s W t).f),(11,u32 (Sha.rounds s W t).g),(12,u32 (Sha.rounds s W t).h)])
  (fun _=>ae b4 (cl (wV (List.replicate 8 0)) 225)::ae b2 (cl [u32 s1,u32 s2,u32 s3,u32 s4,u32 s5,u32 s6,u32 s7,u32 s8] 225)::A::F) 0 (Nat.zero_le _) rfl (by subst hs;repeat(first|exact Ex|refine A6 rfl ?_)) ah ?_
 rintro t ht ih
 refine go ?_
 refine aq zr zr ?_ ?_
 ·intro de
  have K0:t<64:=by omega
  have hr:Sha.rounds s W (t+1)=Sha.round (Sha.rounds s W t) (Sha.ks.getD t 0) (W.getD t 0):=rfl
  generalize Sha.rounds s W t=T at hr ⊢
  obtain⟨ta,tb,tc,td,te,tf,tg,th⟩:=T
  have Rt:(wV W).toArray.toList[((t:Nat):Int).toNat]?=some (u32 (W.getD t 0)):=by
   rw[Int.toNat_natCast]
   exact iE (by rw[List.getD_eq_getElem?_getD,List.getElem?_eq_getElem ag];rfl)
  have hkg:=iE (Oh K0)
  generalize Sha.ks.getD t 0=kt at hr hkg
  generalize W.getD t 0=wt at hr Rt
  simp only
  refine go ?_
  refine zN (U:=aQ) zr zr zr zr zr zr zr zr ag ag Rt (go ?_)
  refine aF (fun w=>Sat G w ([A])) (.st 0 (.st 1 (.st 3 (.st 6 (cZ 10 7 (cZ 18 3 (.st 22 (.act 2 (.act 4 (.st 5 (.act 7 (.st 8 (.st 9 (.st 17 (.st 21 (.st 23 (.st 24 .nil))))))))))))))))) rfl ak ak ak dT ?_
  refine go ?_
  (repeat(first|refine gy ?_|refine ep (U:=aQ) t zr zr zr zr zr zr zr zr K0 ?_|(refine aK ?_;refine cO 0 t zr zr zr hK rfl hkg zr zr ?_)|refine je zr zr zr ?_|refine C8 zr zr zr ?_))
  refine bo ((jf _ 6 ag ag)) ?_
  refine go ?_
  refine bo ((jf _ 11 ag ag)) ?_
  refine go ?_
  (repeat((refine je zr zr zr ?_)))
  refine bo ((jf _ 25 ag ag)) ?_
  (repeat(first|refine gy ?_|refine je zr zr zr ?_|refine jZ zr zr zr ?_))
  refine aJ (jf _ 2 ag ag) ?_
  refine go ?_
  refine aJ (jf _ 13 ag ag) ?_
  (repeat(first|refine gy ?_|refine je zr zr zr ?_))
  refine aJ (jf _ 22 ag ag) ?_
  (repeat(first|refine gy ?_|refine je zr zr zr ?_|refine C8 zr zr zr ?_|refine FK zr zr zr ?_|refine jZ zr zr zr ?_))
  ((refine aX 5 ((u32 (Sha.rounds s W (t+1)).a)) rfl ((by rw[hr];rfl)) ?_))
  ((refine aX 6 ((u32 (Sha.rounds s W (t+1)).b)) rfl ((by rw[hr];rfl)) ?_))
  ((refine aX 7 ((u32 (Sha.rounds s W (t+1)).c)) rfl ((by rw[hr];rfl)) ?_))
  ((refine aX 8 ((u32 (Sha.rounds s W (t+1)).d)) rfl ((by rw[hr];rfl)) ?_))
  ((refine aX 9 ((u32 (Sha.rounds s W (t+1)).e)) rfl ((by rw[hr];rfl)) ?_))
  ((refine aX 10 ((u32 (Sha.rounds s W (t+1)).f)) rfl ((by rw[hr];rfl)) ?_))
  ((refine aX 11 ((u32 (Sha.rounds s W (t+1)).g)) rfl ((by rw[hr];rfl)) ?_))
  ((refine aX 12 ((u32 (Sha.rounds s W (t+1)).h)) rfl ((by rw[hr];rfl)) ?_))
  refine aM ih (t+1) rfl ag ag cg ah
 intro fA
 have Hk:t=64:=by omega
 subst Hk
 have nV:Ql (Sha.plus s (Sha.rounds s W 64)) = .agg (List.map u32 [(Sha.plus s (Sha.rounds s W 64)).a,(Sha.plus s (Sha.rounds s W 64)).b,(Sha.plus s (Sha.rounds s W 64)).c,(Sha.plus s (Sha.rounds s W 64)).d,(Sha.plus s (Sha.rounds s W 64)).e,(Sha.plus s (Sha.rounds s W 64)).f,(Sha.plus s (Sha.rounds s W 64)).g,(Sha.plus s (Sha.rounds s W 64)).h]).toArray:=rfl
 rw[← nV]at hE
 clear nV EY ih
 generalize Sha.rounds s W 64=T at hE ⊢
 obtain⟨ta,tb,tc,td,te,tf,tg,th⟩:=T
 subst hs
 simp only
 refine go ?_
 (repeat(first|refine gy ?_|refine gp zr zr zr zr zr zr ag ag ?_|refine jZ zr zr zr ?_))
 refine mL (U:=aQ) zr zr zr zr zr zr (go ?_)
 refine jC (U:=aQ) 0 hE Tryz.func182 zr zr zr zr zr zr zr ⟨rfl,rfl⟩ ah
end Go.Proofs.YtedjnjkijiddlaaGreatDoor
namespace Go.SL
open Go
def dV(x:Dg):Value := .agg (dC x).toArray
def Yq{a b:Dg}(h:dV a=dV b):a=b:=by
 simp only[dV,Value.agg.injEq]at h
 exact Yr (by simpa using congrArg Array.toList h)
section
variable{P:Program}
def Si{kt e:TypeId}(hu:P.underlying kt=some (.array 32 e))(he:P.underlying e=some (.int .u8))(hc:P.cellsOf e=1)(em:Bool)(k:Dg)(w:World):(Instr.checkKey em 10000 kt (dV k)).run P w = .ok () w:=by
 obtain⟨i,hi⟩:=info_of_underlying he
 have Ga:P.plainKey e=true:=by unfold Program.plainKey;rw[he]
 have iB:(sizeOf e).run P w = .ok 1 w:=by
  rw[Go.run_sizeOf w hi];congr 1
 rw[show(10000:Nat)=9999+1 from rfl,Instr.checkKey]
 simp only[Sem.run_bind,Go.run_underlying hu,Result.andThen_ok,dV]
 simp only[Std.Legacy.Range.forIn_eq_forIn_range',Std.Legacy.Range.size,Nat.sub_zero,Nat.add_one_sub_one,Nat.div_one]
 have each:∀j∈List.range' 0 32,j<32:=fun j hj=>by simp[List.mem_range']at hj;omega
 generalize List.range' 0 32=is at each
 induction is with
 | nil=>simp
 | cons j is ih =>
  have hj:=each j (by simp)
  have dF:(dC k).toArray[j*1]?=some (u8 (k.at j)):=by
   rw[Nat.mul_one,dG]
   simp only[List.getElem?_toArray]
   rw[show bV k.bs=k.bs.map u8 from rfl,List.getElem?_map,List.getElem?_eq_getElem (by rw[k.len];exact hj)]
   simp[Dg.at,k.len,hj]
  have p1:(part e (dC k).toArray (j*1)).run P w = .ok (u8 (k.at j)) w:=run_part_plain w Ga dF
  have p2:(Instr.checkKey em 9999 e (u8 (k.at j))).run P w = .ok () w:=by
   rw[show(9999:Nat)=9998+1 from rfl,Instr.checkKey]
   simp[Go.run_underlying he,u8]
  simp only[List.forIn_cons,Sem.run_bind,iB,Result.andThen_ok,p1,p2,Sem.run_pure]
  exact ih (fun y hy=>each y (by simp[hy]))
def DN{kt e:TypeId}(hu:P.underlying kt=some (.array 32 e))(he:P.underlying e=some (.int .u8))(hc:P.cellsOf e=1)(a b:Dg)(w:World):(Op.equal kt (dV a) (dV b)).run P w = .ok (decide (a=b)) w :=
 sC hu he hc a b 9998 w
def aaY{kt e:TypeId}(hu:P.underlying kt=some (.array 32 e))(he:P.underlying e=some (.int .u8))(hc:P.cellsOf e=1):mG P kt dV where
 inj _ _:=Yq
 check em k w:=Si hu he hc em k w
 find k l ks w h:=by
  rw[run_findKey_eq (w:=w) (by rw[hu])]
  have key:∀(l:List MapEntry) (ks:List Dg) (o:Nat),l.map (·.key)=ks.map dV →
    ∃r,(Instr.findAsking kt (dV k) l o).run P w = .ok r w∧((r=none∧k ∉ ks)∨∃i e,r=some (o+i,e.val)∧l[i]?=some e∧ks[i]?=some k∧∀j,j<i→ks[j]? ≠ some k):=by
   intro l
   induction l with
   | nil =>
    intro ks o h
    have:ks=[]:=by simpa using h.symm
    subst this
    exact⟨none,by simp[Instr.findAsking],.inl ⟨rfl,by simp⟩⟩
   | cons en l ih =>
    intro ks o h
    cases ks with
    | nil=>simp at h
    | cons c ks =>
     simp only[List.map_cons,List.cons.injEq]at h
     obtain⟨h1,h2⟩:=h
     have hq:(Op.equal kt (dV k) en.key).run P w = .ok (decide (k=c)) w:=by rw[h1];exact DN hu he hc k c w
     by_cases Jl:k=c
     ·subst Jl
      refine⟨some (o+0,en.val),by simp[Instr.findAsking,hq],.inr ⟨0,en,rfl,by simp,by simp,fun j hj=>absurd hj ag⟩⟩
     ·obtain⟨r,hr,iL⟩:=ih ks (o+1) h2
      refine⟨r,by simp[Instr.findAsking,hq,Jl,hr],?_⟩
      rcases iL with⟨rfl,hn⟩|⟨i,e',rfl,hi,hk,hj⟩
      ·exact .inl ⟨rfl,by simp[Jl,hn]⟩
      ·refine .inr ⟨i+1,e',by congr 2;omega,by simpa using hi,by simpa using hk,fun j rf=>?_⟩
       cases j with
       | zero=>simp;exact fun h=>Jl h.symm
       | succ j=>simpa using hj j ag
  obtain⟨r,hr,iL⟩:=key l ks 0 h
  refine⟨r,hr,?_⟩
  rcases iL with h|⟨i,e,hr,hi,hk,hj⟩
  ·exact .inl h
  ·exact .inr ⟨i,e,by rw[hr];simp,hi,hk,hj⟩
 bits k:=by
  rw[show(10000:Nat)=9999+1 from rfl]
  simp only[dV,Instr.sameBits,beq_self_eq_true,Bool.true_and,List.all_eq_true]
  have:∀(l:List UInt8),∀x∈((bV l).zip (bV l)),Instr.sameBits 9999 x.1 x.2=true:=by
   intro l
   induction l with
   | nil=>simp[bV]
   | cons c l ih =>
    intro x hx
    simp only[bV,List.map_cons,List.zip_cons_cons,List.mem_cons]at hx
    rcases hx with rfl|hx
    ·simp[u8,Instr.sameBits]
    ·exact ih x hx
  intro x hx
  rw[dG]at hx
  exact this k.bs x hx
end
end Go.SL
namespace Go.Proofs.YtedjnjkijiddlaaGreatDoor
open Go Go.SL
attribute [local irreducible] J K aE Ends ae aB aP bP bq aS aZ bu bX Sha.chunks Sha.chunk Sha.rounds Sha.sched dK
def zo(A:HP)(v:Value)(b:List UInt8)(hv:eM A v b)(hl:b.length≤1000000000):aE Tryz.prog 183 [v] [A] (fun r H=>H=[aB 5 1 r b.length (bV b),A]):=by
 obtain⟨a,c,rfl,hc⟩:=hv.2
 refine aE.ao Tryz.func183 Tryz.ntmps183 fun G F R hE=>?_
 cases a with
 | none =>
  have hb:b=[]:=by
   obtain⟨a,cap,h1,h2|⟨x,o,h2,_⟩⟩:=hv.1
   ·simpa[bV]using h2
   ·simp only[Value.slice.injEq]at h1;rw[← h1.1]at h2;cases h2
  subst hb
  refine go ?_
  refine ai (bN 5 1 none _) ?_
  refine aL hE Tryz.func183 rfl _ zr zr ah
 | some a =>
  refine go ?_
  refine aj zr zr zr zr zr zr zr zr zr bD ?_
  intro b0
  refine go ?_
  (refine aI (eJ 5 1 b0 0 0 [] [] _ rfl (Nat.le_refl _) (by simp)) ?_;refine aR (mm:=(b).length) (news:=bV (b)) 0 1 zr zr zr zr zr zr zr zr zr zr zr zr (hv.1) (by show _=_*1;rw[bC];omega) (cX _) ag (by show(_+_)*1≤_;omega) (fun _=>rfl) bD ?_;intro vA;rw[Nat.zero_add,List.nil_append];((refine aO 0 rfl ?_));rintro aA cA rfl)
  refine go ?_
  refine aL hE Tryz.func183 rfl _ zr zr ah
def xo(A:HP)(hK:oG A)(v:Value)(b:List UInt8)(hv:eM A v b)(hl:b.length≤1000000000) :
    aE Tryz.prog 123 [v] [A] (fun r H=>r=dV (dK b)∧H=[A]):=by
  obtain⟨a,c,rfl,hc⟩:=hv.2
  refine aE.ao Tryz.func123 Tryz.ntmps123 fun G F R hE=>?_
  refine aD rfl ?_
  refine az zr zr zr bD ?_
  intro b2
  refine ld ?_
  refine aD rfl ?_
  refine mL (U:=aQ) (cs:=wV Sha.start.l) zr zr zr zr zr zr ?_
  refine az zr zr zr bD ?_
  intro b3
  refine ct (U:=aQ) (l':=wV Sha.start.l) 0 gB zr zr zr zr (by decide) (fC _) zr zr zr ?_
  refine aI (H':=ae b3 (cl (wV (Sha.chunks Sha.start b 0).l) 225)::ae b2 (cl (dC Dg.zero) 35)::A::F) (by unfold Sha.chunks;exact ah) ?_
  refine go ?_
  refine lj zr zr zr ag ag (by simp only[gq];omega) ?_
  refine go ?_
  refine ib zr zr zr (by simp only[gq];omega) ?_
  refine au 15 ((.int .i64 ((64*(b.length/64):Nat):Int))) rfl ((congrArg (Value.int .i64) ag)) (go ?_)
  refine bB (fun q:Nat=>q≤b.length/64) (fun q=>b.length/64-q)
    (fun q=>[(0,.slice a b.length c),(2,ptr b2),(3,ptr b3),(4,.int .i64 ((64*(b.length/64):Nat):Int)),(5,.int .i64 ((64*q:Nat):Int))])
    (fun q=>ae b3 (cl (wV (Sha.chunks Sha.start b q).l) 225)::ae b2 (cl (dC Dg.zero) 35)::A::F) 0 (Nat.zero_le _) rfl cg ah ?_
  rintro q hq ih
  refine go ?_
  refine aq zr zr ?_ ?_
  · intro de
    have Y5:q<b.length/64:=by omega
    have lK:=hv.cut (64*q) ag
    have j8:=DA A hK _ _ lK (by rw[List.length_drop];omega) (Sha.chunks Sha.start b q)
    have pK:Sha.chunk (Sha.chunks Sha.start b q) (b.drop (64*q))=Sha.chunks Sha.start b (q+1):=by conv=>rhs;unfold Sha.chunks
    rw[pK]at j8
    have La:∀s:Sha.St,(wV s.l).length=8:=fun s=>rfl
    refine go ?_
    refine aF (fun w=>Sat G w ([ae b3 (cl (wV (Sha.chunks Sha.start b q).l) 225)])) (cZ 0 4 (.act 4 (.act 5 .nil))) rfl ak ak ak dT ?_
    refine go ?_
    refine bQ (U:=aQ) 0 zr zr zr zr zr zr (go ?_)
    refine bh (p:=((64*q:Nat):Int)) (q:=(b.length:Int)) zr zr zr zr zr zr zr ag ag (.inl rfl) ?_
    refine au 24 ((.slice (sliceAt a c (64*q) 1) (b.length-64*q) (c-64*q))) rfl (rfl) ?_
    refine bo j8 ?_
    unfold Ql
    refine aT ?_
    refine ct (U:=aQ) 1 gB rfl rfl rfl rfl (by intro e;have:=congrArg List.length e;rw[La]at this;cases this) (fC _) rfl (by rw[La,La]) rfl ?_
    refine go ?_
    refine aX 5 ((.int .i64 ((64*(q+1):Nat):Int))) rfl ((congrArg (Value.int .i64) ag)) ?_
    refine aM ih (q+1) rfl ag ag cg ah
  intro fA
  have Xw:q=b.length/64:=by omega
  subst Xw
  clear ih
  have lK:=hv.cut (64*(b.length/64)) ag
  obtain⟨B1,R1⟩:∃B1,B1=b.drop (64*(b.length/64)):=⟨_,rfl⟩
  have Yh:B1.length=b.length-64*(b.length/64):=by rw[R1,List.length_drop]
  rw[← R1,← Yh]at lK
  refine go ?_
  refine bh (p:=((64*(b.length/64):Nat):Int)) (q:=(b.length:Int)) zr zr zr zr zr zr zr ag ag (.inl rfl) ?_
  ((refine au 28 ((.slice (sliceAt a c (64*(b.length/64)) 1) B1.length (c-64*(b.length/64)))) rfl ((by rw[Yh];rfl)) ?_))
  refine go ?_
  refine aH (zo A _ B1 lK ag) ?_
  rintro r _ rfl
  refine aO 0 rfl ?_
  rintro ra rc rfl
  refine go ?_
  (refine aj (cs:=bV [(128:UInt8)]) zr zr zr zr zr zr zr zr zr bD ?_;intro bA;refine aR (mm:=1) (news:=bV [(128:UInt8)]) 1 0 zr zr zr zr zr zr zr zr zr zr zr zr (Vw.ae rfl) rfl (cX _) ag (by show(_+_)*1≤_;omega) (fun _=>rfl) bD ?_;intro vA;rw[show bV (B1)++bV [(128:UInt8)]=bV ((B1)++[(128:UInt8)])from by simp[bV],show(B1).length+1=((B1)++[(128:UInt8)]).length from(@List.length_append _ (B1) [(128:UInt8)]).symm];((refine aO 1 rfl ?_));rintro aA cA rfl)
  refine go ?_
  obtain⟨z,hz⟩:∃z,z=(119-b.length%64)%64:=⟨_,rfl⟩
  have SV:(B1.length+1+z)%64=56:=by omega
  have SU:z<64:=by omega
  have ab4:B1.length<64:=by omega
  have rI:∀j:Nat,(B1++128::List.replicate j (0:UInt8)).length=B1.length+1+j:=fun j=>by simp;omega
  obtain⟨S1,hS1⟩:∃S1,S1=Sha.chunks Sha.start b (b.length/64):=⟨_,rfl⟩
  rw[← hS1]
  refine bB (fun y:Nat × Option Addr × Nat=>y.1≤z) (fun y=>z-y.1)
    (fun y=>[(0,.slice a b.length c),(2,ptr b2),(3,ptr b3),(6,.slice y.2.1 (B1++128::List.replicate y.1 (0:UInt8)).length y.2.2)])
    (fun y=>aB 5 1 (.slice y.2.1 (B1++128::List.replicate y.1 (0:UInt8)).length y.2.2) (B1++128::List.replicate y.1 (0:UInt8)).length (bV (B1++128::List.replicate y.1 (0:UInt8)))::A::ae b3 (cl (wV S1.l) 225)::ae b2 (cl (dC Dg.zero) 35)::F) (0,aA,cA) (Nat.zero_le _) rfl cg ah ?_
  rintro⟨j,a2,c2⟩ hj ih
  simp only at hj
  have wJ:=rI j
  dsimp only
  refine go ?_
  refine mI zr zr zr ag ag (go ?_)
  refine aq zr zr ?_ ?_
  · intro bY
    have hjz : j < z := by rcases Nat.lt_or_ge j z with h | h; exact h; exfalso; apply bY; rw [wJ]; have : j = z := by omega
                           subst this;omega
    refine go ?_
    (refine aj (cs:=bV [(0:UInt8)]) zr zr zr zr zr zr zr zr zr bD ?_;intro bA;refine aR (mm:=1) (news:=bV [(0:UInt8)]) 1 0 zr zr zr zr zr zr zr zr zr zr zr zr (Vw.ae rfl) rfl (cX _) (by(rw[wJ];omega)) (by show(_+_)*1≤_;(rw[wJ];omega)) (fun _=>rfl) bD ?_;intro vA;rw[show bV ((B1++128::List.replicate j (0:UInt8)))++bV [(0:UInt8)]=bV (((B1++128::List.replicate j (0:UInt8)))++[(0:UInt8)])from by simp[bV],show((B1++128::List.replicate j (0:UInt8))).length+1=(((B1++128::List.replicate j (0:UInt8)))++[(0:UInt8)]).length from(@List.length_append _ ((B1++128::List.replicate j (0:UInt8))) [(0:UInt8)]).symm];((refine aO 1 rfl ?_));rintro aA cA rfl)
    rw[show B1++128::List.replicate j (0:UInt8)++[0]=B1++128::List.replicate (j+1) (0:UInt8)from by rw[List.replicate_succ'];simp]
    refine go ?_
    refine aM ih (j+1,aA,cA) rfl (by simp only;omega) (by simp only;omega) cg ah
  intro heq
  have hjz:j=z:=by
    have adT:((B1.length+1+j:Nat):Int)%64=56:=by rw[← wJ];exact Decidable.not_not.1 heq
    omega
  subst hjz
  clear ih
  obtain⟨T0,O'⟩:∃T0,T0=B1++128::List.replicate j (0:UInt8):=⟨_,rfl⟩
  rw[← O']at wJ ⊢
  have Lb:∀i:Nat,i≤8→(T0++(Sha.pj (8*b.length)).take i).length=T0.length+i:=fun i hi=>by
    rw[List.length_append,List.length_take];simp only[Sha.pj,List.length_map,List.length_range];omega
  refine go ?_
  refine bB (fun y:Nat × Option Addr × Nat=>y.1≤8) (fun y=>8-y.1)
    (fun y=>[(0,.slice a b.length c),(2,ptr b2),(3,ptr b3),(6,.slice y.2.1 (T0++(Sha.pj (8*b.length)).take y.1).length y.2.2),(39,.int .i64 (y.1:Int))])
    (fun y=>aB 5 1 (.slice y.2.1 (T0++(Sha.pj (8*b.length)).take y.1).length y.2.2) (T0++(Sha.pj (8*b.length)).take y.1).length (bV (T0++(Sha.pj (8*b.length)).take y.1))::A::ae b3 (cl (wV S1.l) 225)::ae b2 (cl (dC Dg.zero) 35)::F) (0,a2,c2) (Nat.zero_le _) rfl (by simp only[List.take_zero,List.append_nil];exact cg) (by simp only[List.take_zero,List.append_nil];exact ah) ?_
  rintro⟨i,a3,c3⟩ hi ih
  simp only at hi
  have Jk:=Lb i hi
  dsimp only
  refine go ?_
  refine aq zr zr ?_ ?_
  · intro de
    have Gc:i<8:=by omega
    have Ln:(Sha.pj (8*b.length)).take (i+1)=(Sha.pj (8*b.length)).take i++[UInt8.ofNat (8*b.length/2 ^ (56-8*i))]:=by
      rw[List.take_add_one];simp[Sha.pj,Gc]
    refine go ?_
    refine nB zr zr zr ag ?_
    refine au 46 ((.int .u64 ((8*b.length:Nat):Int))) rfl ((AN (x:=b.length) (q:=3) ag ag ag)) (go ?_)
    refine ib zr zr zr (by simp only[gq];omega) ?_
    refine go ?_
    refine au 49 ((.int .i64 ((56-8*i:Nat):Int))) rfl ((congrArg (Value.int .i64) ag)) ?_
    refine jl zr zr zr ag ?_
    ((refine au 50 ((.int .u64 ((8*b.length/2 ^ (56-8*i):Nat):Int))) rfl ((congrArg (Value.int .u64) (by rw[Int.toNat_natCast,show min (56-8*i) IntKind.u64.bits=56-8*i from by show min (56-8*i) 64=_;omega];simp))) ?_))
    refine ez ?_
    refine il zr zr zr zr zr zr ?_
    refine au 51 ((u8 (UInt8.ofNat (8*b.length/2 ^ (56-8*i))))) rfl ((lN _)) ?_
    (refine aj (cs:=bV [(UInt8.ofNat (8*b.length/2 ^ (56-8*i)))]) zr zr zr zr zr zr zr zr zr bD ?_;intro bA;refine aR (mm:=1) (news:=bV [(UInt8.ofNat (8*b.length/2 ^ (56-8*i)))]) 1 0 zr zr zr zr zr zr zr zr zr zr zr zr (Vw.ae rfl) rfl (cX _) (by(rw[Jk];omega)) (by show(_+_)*1≤_;(rw[Jk];omega)) (fun _=>rfl) bD ?_;intro vA;rw[show bV ((T0++(Sha.pj (8*b.length)).take i))++bV [(UInt8.ofNat (8*b.length/2 ^ (56-8*i)))]=bV (((T0++(Sha.pj (8*b.length)).take i))++[(UInt8.ofNat (8*b.length/2 ^ (56-8*i)))])from by simp[bV],show((T0++(Sha.pj (8*b.length)).take i)).length+1=(((T0++(Sha.pj (8*b.length)).take i))++[(UInt8.ofNat (8*b.length/2 ^ (56-8*i)))]).length from(@List.length_append _ ((T0++(Sha.pj (8*b.length)).take i)) [(UInt8.ofNat (8*b.length/2 ^ (56-8*i)))]).symm];((refine aO 1 rfl ?_));rintro aA cA rfl)
    rw[show T0++(Sha.pj (8*b.length)).take i++[UInt8.ofNat (8*b.length/2 ^ (56-8*i))]=T0++(Sha.pj (8*b.length)).take (i+1)from by rw[Ln,List.append_assoc]]
    refine go ?_
    refine aM ih (i+1,aA,cA) rfl (by simp only;omega) (by simp only;omega) cg ah
  intro fA
  have Gc:i=8:=by omega
  subst Gc
  clear ih
  have EK:=Sha.Kc b
  rw[← hS1,← R1]at EK
  have abh:B1++Sha.pad b.length=T0++(Sha.pj (8*b.length)).take 8:=by
    rw[O',List.take_of_length_le (by simp[Sha.pj])]
    unfold Sha.pad
    rw[← hz];simp
  rw[abh]at EK
  generalize T0++(Sha.pj (8*b.length)).take 8=T at Jk EK ⊢
  have aeb:T.length%64=0:=by omega
  have hTl:T.length≤1000000200:=by omega
  clear wJ Lb abh O' rI R1 Yh lK hz SV SU ab4 hS1 Jk
  have La:∀s:Sha.St,(wV s.l).length=8:=fun s=>rfl
  refine qE (bs:=T) 0 rfl ?_
  intro Rv
  have Xl:eM (Sep [aB 5 1 (.slice a3 T.length c3) T.length (bV T),A]) (.slice a3 T.length c3) T:=Rv.mono (bg (i:=0) rfl)
  have hK2:oG (Sep [aB 5 1 (.slice a3 T.length c3) T.length (bV T),A]):=hK.mono (bg (i:=1) rfl)
  refine ai (al.bS [_,_] _) (go ?_)
  refine bB (fun q:Nat=>q≤T.length/64) (fun q=>T.length/64-q)
    (fun q=>[(2,ptr b2),(3,ptr b3),(6,.slice a3 T.length c3),(8,.int .i64 ((64*q:Nat):Int))])
    (fun q=>Sep [aB 5 1 (.slice a3 T.length c3) T.length (bV T),A]::ae b3 (cl (wV (Sha.chunks S1 T q).l) 225)::ae b2 (cl (dC Dg.zero) 35)::F) 0 (Nat.zero_le _) rfl cg (by unfold Sha.chunks;exact ah) ?_
  rintro q hq ih
  refine go ?_
  refine aq zr zr ?_ ?_
  · intro de
    have Y5:q<T.length/64:=by omega
    have lK:=Xl.cut (64*q) ag
    have j8:=DA _ hK2 _ _ lK (by rw[List.length_drop];omega) (Sha.chunks S1 T q)
    have pK:Sha.chunk (Sha.chunks S1 T q) (T.drop (64*q))=Sha.chunks S1 T (q+1):=by conv=>rhs;unfold Sha.chunks
    rw[pK]at j8
    refine go ?_
    refine aF (fun w=>Sat G w ([ae b3 (cl (wV (Sha.chunks S1 T q).l) 225)])) (cZ 0 4 (.act 4 (.act 5 .nil))) rfl ak ak ak dT ?_
    refine go ?_
    refine bQ (U:=aQ) 0 zr zr zr zr zr zr (go ?_)
    refine bh (p:=((64*q:Nat):Int)) (q:=(T.length:Int)) zr zr zr zr zr zr zr ag ag (.inl rfl) ?_
    refine au 64 ((.slice (sliceAt a3 c3 (64*q) 1) (T.length-64*q) (c3-64*q))) rfl (rfl) ?_
    refine bo j8 ?_
    unfold Ql
    refine aT ?_
    refine ct (U:=aQ) 1 gB rfl rfl rfl rfl (by intro e;have:=congrArg List.length e;rw[La]at this;cases this) (fC _) rfl (by rw[La,La]) rfl ?_
    refine go ?_
    refine aX 8 ((.int .i64 ((64*(q+1):Nat):Int))) rfl ((congrArg (Value.int .i64) ag)) ?_
    refine aM ih (q+1) rfl ag ag cg ah
  intro fA
  have Xw:q=T.length/64:=by omega
  subst Xw
  rw[← EK]
  have o5:(dK b).bs=Sha.out (Sha.chunks Sha.start (Sha.msg b) ((Sha.msg b).length/64)):=IG b
  clear EK ih
  generalize Sha.chunks Sha.start (Sha.msg b) ((Sha.msg b).length/64)=S2 at o5 ⊢
  refine ai (al.cD _ _) (go ?_)
  refine az zr zr zr bD ?_
  intro b9
  refine go ?_
  have QA:=Sha.Cg S2
  have Dj:∀i,i≤32→((Sha.out S2).take i++List.replicate (32-i) (0:UInt8)).length=32:=fun i hi=>by
    rw[List.length_append,List.length_take,List.length_replicate,QA];omega
  refine bB (fun i:Nat=>i≤32) (fun i=>32-i)
    (fun i=>[(2,ptr b2),(3,ptr b3),(9,ptr b9),(66,.int .i64 (i:Int))])
    (fun i=>ae b9 (cl (bV ((Sha.out S2).take i++List.replicate (32-i) (0:UInt8))) 35)::ae b3 (cl (wV S2.l) 225)::ae b2 (cl (dC Dg.zero) 35)::A::F) 0 (Nat.zero_le _) rfl cg ah ?_
  rintro i hi ih
  refine go ?_
  refine aq zr zr ?_ ?_
  · intro de
    have tP:i<32:=by omega
    have hq4:(i:Int)/4=((i/4:Nat):Int):=by omega
    have hr4:24-8*((i:Int)%4)=((24-8*(i%4):Nat):Int):=by omega
    have Rt:(wV S2.l)[i/4]?=some (u32 (S2.l.getD (i/4) 0)):=iE (by rw[List.getD_eq_getElem?_getD,List.getElem?_eq_getElem (show i/4<S2.l.length from by show i/4<8;omega)];rfl)
    have rH:(Sha.out S2)[i]?=some (UInt8.ofNat ((S2.l.getD (i/4) 0) >>> (24-8*(i%4))).toNat):=by simp[Sha.out,tP]
    (repeat(first|refine gy ?_|refine lj zr zr zr ag ag (by simp only[gq];omega) ?_|refine mI zr zr zr ag ag ?_|refine ib zr zr zr (by simp only[gq];omega) ?_|refine ep (U:=aQ) (i/4) zr zr zr zr zr zr zr hq4 ag ?_|(refine aK ?_;refine mJ (U:=aQ) 1 (i/4) zr zr zr (Nat.zero_add _) Rt zr zr ?_)|refine qH (24-8*(i%4)) zr zr zr hr4 ag ?_|(refine ez ?_;refine BG (U:=aQ) zr zr zr zr zr zr ?_)|refine ep (U:=aQ) i zr zr zr zr zr zr zr zr tP ?_))
    refine aT ?_
    refine gV (U:=aQ) 0 gB zr zr zr zr zr zr zr (by rw[bC,Dj i ag];omega) rfl ?_
    rw[show 0+i=i from Nat.zero_add _,D6 QA rH]
    refine go ?_
    refine aM ih (i+1) rfl ag ag cg ah
  intro fA
  have tP:i=32:=by omega
  subst tP
  rw[List.take_of_length_le ag,show 32-32=0 from rfl,List.replicate_zero,List.append_nil,← o5,← dG]
  clear ih Dj QA o5
  have hd:(dC (dK b)).length=32:=rfl
  have gw:iN (dC (dK b))=true:=by rw[dG];exact gO _
  have hdv:dV (dK b) = .agg (dC (dK b)).toArray:=rfl
  rw[hdv]at hE
  generalize dC (dK b)=cs at hd gw hE ⊢
  refine go ?_
  refine aG (U:=aQ) 0 zr zr zr zr zr hd ?_
  refine ct (U:=aQ) 2 gB rfl rfl rfl hd (by intro e;rw[e]at hd;cases hd) gw rfl (by rw[hd];rfl) rfl ?_
  refine go ?_
  refine jC (U:=aQ) 2 hE Tryz.func123 zr zr zr zr zr hd rfl ⟨rfl,rfl⟩ ah
end Go.Proofs.YtedjnjkijiddlaaGreatDoor
namespace Go.Proofs.YtedjnjkijiddlaaGreatDoor
open Go Go.SL
def sj(A:HP)(v:Value)(ls:List (List UInt8)):Prop:=∃cs:List Value,Vw A v ls.length cs∧cs.length=ls.length∧(∃a c,v = .slice a ls.length c∧ls.length≤c)∧∀(i:Nat) (x:List UInt8),ls[i]?=some x→∃cv,cs[i]?=some cv∧eM A cv x
def sj.row{X:HP}{b:Nat}{e:TypeId}{n:Nat}{cs:List Value}{ls:List (List UInt8)}(hn:ls.length=n)(hc:cs.length=n)(h:∀(i:Nat) (x:List UInt8),ls[i]?=some x→∃cv,cs[i]?=some cv∧eM X cv x) :
  sj (Sep [ae b (cl cs e),X]) (.slice (some ⟨b,0,none⟩) n n) ls:=by
 subst hn
 refine⟨cs,(Vw.ae (by rw[List.drop_zero,List.take_length])).mono (bg (i:=0) rfl),hc,⟨_,_,rfl,Nat.le_refl _⟩,fun i x hx=>?_⟩
 obtain⟨cv,h1,h2⟩:=h i x hx
 exact⟨cv,h1,h2.mono (bg (i:=1) rfl)⟩
end Go.Proofs.YtedjnjkijiddlaaGreatDoor
namespace Go.SL
open Go
inductive aN(P:Program)(U:Tr)(L:fJ)(H:List HP):List ResultVar→List Value→Prop where
 | nil:aN P U L H [] []
 | tmp {q:Nat} {u:Value} {rs:List ResultVar} {us:List Value} (hq:ej L q=some u) (h:aN P U L H rs us):aN P U L H (.tmp q::rs) (u::us)
 | agg {p b:Nat} {t e:TypeId} {bR:Ty} {cs:List Value} {rs:List ResultVar} {us:List Value} (i:Nat) (hp:ej L p=some (.pointer (some ⟨b,0,none⟩))) (ht:U.get t=some bR) (hg:bR.isAgg=true) (hi:cE H i=some (ae b (cl cs e))) (hl:cs.length=bR.info.size) (h:aN P U L H rs us):aN P U L H (.cell p t::rs) (.agg cs.toArray::us)
 | one {p b:Nat} {t e:TypeId} {bR:Ty} {u:Value} {rs:List ResultVar} {us:List Value} (i:Nat) (hp:ej L p=some (.pointer (some ⟨b,0,none⟩))) (ht:U.get t=some bR) (hg:bR.isAgg=false) (hi:cE H i=some (ae b (cl [u] e))) (h:aN P U L H rs us):aN P U L H (.cell p t::rs) (u::us)
def aN.run{P:Program}{U:Tr}[hU:fX P U]{n:Nat}{G:cJ}{L:fJ}{H:List HP}{a:Act}{w:World}(ha:Has n L a)(hw:Sat G w H):∀ {rs us},aN P U L H rs us→(rs.mapM (B3 a.tmps)).run P w = .ok us w:=by
 intro rs us h
 induction h with
 | nil=>simp
 | @tmp q u rs us hq h ih =>
  have g2:a.tmps.getD q undef=u:=by rw[Array.getD_eq_getD_getElem?,ha.2.2 _ _ hq];rfl
  simp only[List.mapM_cons,Sem.run_bind,B3,g2,Sem.run_pure,Result.andThen_ok,ih]
 | @agg p b t e bR cs rs us i hp ht hg hi hl h ih =>
  have hc:∀j v,cs[j]?=some v→w.cell? ⟨b,0+j,none⟩=some v:=fun j v hj=>by rw[dJ (hw.tW hi),Nat.zero_add];exact hj
  have OS:=iH (P:=P) (w:=w) ht hg hl hc
  have XO:(loadVar t ⟨b,0,none⟩).run P w = .ok (.agg cs.toArray) w:=by simpa[Instr.loadAt,Instr.sureAddr]using OS
  have g1:a.tmps.getD p undef = .pointer (some ⟨b,0,none⟩):=by simp[Array.getD_eq_getD_getElem?,ha.2.2 p _ hp]
  simp only[List.mapM_cons,Sem.run_bind,B3,g1,asAddr,Sem.run_pure,Result.andThen_ok,XO,ih]
 | @one p b t e bR u rs us i hp ht hg hi h ih =>
  have g1:=yc (P:=P) i ha hw hp ht hg hi
  simp only[List.mapM_cons,Sem.run_bind,g1,Sem.run_pure,Result.andThen_ok,ih]
def aU{P:Program}{U:Tr}[hU:fX P U]{f:FuncId}{n:Nat}{R:Ending→World→Prop}{G:cJ}{ds:List Nat}{k k0:List Item}{L:fJ}{H H':List HP}{fn:Func}{F:List HP}{Post:Value→List HP→Prop}{us:List Value}{Hq:List HP}(hR:Ends R G F Post)(hf:P.funcs[f]?=some fn)(hk:iA 1000 k0 = .mk (.code .ret::k))(he:al H (ds.map (fun r=>ae r (.deferred (some [])))++H'))(hr:aN P U L H' fn.results.toList us)(fG:Post (eC us) Hq)(Al:al H' (Hq++F)):K P f n R { G with ds:=ds } k0 L H:=by
 refine P2 hR hf hk he (fun a w ha hw=>?_) fG Al
 have h1:=hr.run (P:=P) ha hw
 rw[oP,Array.mapM_eq_mapM_toList]
 simp only[Sem.run_bind,Sem.run_map,h1,Sem.run_pure,Result.andThen_ok]
 match us with
 | []=>simp[eC]
 | [v]=>simp[eC]
 | v::u::vs=>simp[eC]
section
variable{P:Program}{U:Tr}[hU:fX P U]{f:FuncId}{n:Nat}{R:Ending→World→Prop}{G:cJ}{k:List Item}{L:fJ}{H H':List HP}{S:World→Prop}{all:Array Oper}{rest:Pl}{ty:TypeId}{pos:String}{af:Array Edge}{gd:Option (Nat × Bool)}{m:Bool}{d:Tmp}
def Mg{t elem:TypeId}{bR te:Ty}{x lo hi mx:Operand}{a0:Option Addr}{len cap:Nat}{p q r:Int}{j1 j2 j3:IntKind}(hd:Nat.blt d n=true)(ht:U.get t=some bR)(hu:bR.gA = .slice elem)(he:U.get elem=some te)(hx:ev L x=some (.slice a0 len cap))(Bc:ev L lo=some (.int j1 p))(Gd:ev L hi=some (.int j2 q))(hmx:ev L mx=some (.int j3 r))(h0:0≤p)(EH:p≤q)(hqr:q≤r)(OG:r≤(cap:Int))(h:J P f n R G S all rest k ((d,.slice (sliceAt a0 r.toNat p.toNat te.info.size) (q.toNat-p.toNat) (r.toNat-p.toNat))::L) H) :
  J P f n R G S all (.cons m true ⟨some d,.slice t x (some lo) (some hi) (some mx),ty,pos,af,gd⟩ rest) k L H:=by
 refine dA hd (fun a ha w=>?_) h
 have hb:(Instr.sliceBounds true len cap (some (a.eval lo)) (some (a.eval hi)) (some (a.eval mx))).run P w = .ok (p.toNat,q.toNat,r.toNat) w:=by
  unfold Instr.sliceBounds
  have e1:0≤r∧r≤(cap:Int):=⟨ag,OG⟩
  have e2:0≤q∧q≤((r.toNat:Nat):Int):=⟨ag,ag⟩
  have e3:0≤p∧p≤((q.toNat:Nat):Int):=⟨ag,ag⟩
  have e4:q≤max r 0:=by omega
  have e5:p≤max q 0:=by omega
  have e6:0≤q:=by omega
  simp[ha.ev Bc,ha.ev Gd,ha.ev hmx,Instr.sliceBound,asIntOf,e1,e2,e3,e4,e5,e6,h0]
 simp only[execOp,ha.ev hx,Instr.sliceAt,Sem.run_bind,run_underlying ht,Result.andThen_ok,hu,Instr.slice,Option.map_some,hb,run_sizeOf he,Sem.run_pure,sliceAt]
 by_cases hc:p.toNat=r.toNat
 ·simp[hc]
 ·simp[hc]
  intro hr0
  exfalso;omega
end
end Go.SL
namespace Go.Proofs.YtedjnjkijiddlaaGreatDoor
open Go Go.SL
attribute [local irreducible] J K aE Ends ae aB aP bP bq aS aZ bu bX Sha.chunks Sha.chunk Sha.rounds Sha.sched dK
def vP{tag:UInt8}{ps:List (List UInt8)}{i:Nat}{p:List UInt8}(h:ps[i]?=some p):dg tag (ps.take (i+1))=dg tag (ps.take i)++(lI p.length++p):=by
 unfold dg
 rw[List.take_add_one,h]
 simp
def AW(tag:UInt8)(ps:List (List UInt8))(i:Nat):(dg tag (ps.take i)).length≤(dg tag ps).length:=by
 conv=>rhs;rw[← List.take_append_drop i ps]
 unfold dg
 rw[List.flatMap_append]
 simp only[List.length_cons,List.length_append];omega
def tH(tag:UInt8)(ps:List (List UInt8)):ps.length≤(dg tag ps).length:=by
 unfold dg
 induction ps with
 | nil=>simp
 | cons p ps ih =>
  have h8:(lI p.length).length=8:=by simp[lI]
  simp only[List.flatMap_cons,List.length_cons,List.length_append,h8]at ih ⊢
  omega
def I5(n:Nat):(lI n).length=8:=by simp[lI]
def Ev{n i:Nat}(h:i<8):(lI n).take (i+1)=(lI n).take i++[UInt8.ofNat (n/2 ^ (8*i))]:=by
 rw[List.take_add_one];simp[lI,h]
def zA(A:HP)(hK:oG A)(tag:UInt8)(v:Value)(ps:List (List UInt8))(hv:sj A v ps)(hl:(dg tag ps).length≤1000000000) :
  aE Tryz.prog 163 [u8 tag,v] [A] (fun r H=>r=dV (cm tag ps)∧H=[A]):=by
 obtain⟨cs,dE,lA,⟨a,c,rfl,hc⟩,pL⟩:=hv
 have yS:=tH tag ps
 refine aE.ao Tryz.func163 Tryz.ntmps163 fun G F R hE=>?_
 refine aD rfl ?_
 refine az zr zr zr bD ?_
 intro b4
 refine ld ?_
 refine aD rfl ?_
 refine ld ?_
 refine aj (cs:=bV [tag]) zr zr zr zr zr zr zr zr zr bD ?_
 intro b0
 refine go ?_
 refine ai (eJ 5 1 b0 1 1 (bV [tag]) [] _ rfl (Nat.le_refl _) (by simp[bV])) ?_
 refine bB (fun y:Nat × Option Addr × Nat=>y.1≤ps.length) (fun y=>ps.length-y.1)
  (fun y=>[(4,ptr b4),(11,.slice a ps.length c),(12,.int .i64 (ps.length:Int)),(13,.int .i64 (y.1:Int)),(5,.slice y.2.1 (dg tag (ps.take y.1)).length y.2.2)])
  (fun y=>aB 5 1 (.slice y.2.1 (dg tag (ps.take y.1)).length y.2.2) (dg tag (ps.take y.1)).length (bV (dg tag (ps.take y.1)))::A::ae b4 (cl (dC Dg.zero) 35)::F) (0,some ⟨b0,0,none⟩,1) (Nat.zero_le _) rfl cg ah ?_
 rintro⟨i,a1,c1⟩ hi ih
 simp only at hi
 dsimp only
 refine go ?_
 refine aq zr zr ?_ ?_
 ·intro de
  have lx:i<ps.length:=by omega
  obtain⟨p,hp⟩:∃p,ps[i]?=some p:=⟨ps[i],List.getElem?_eq_getElem lx⟩
  obtain⟨cv,nt,hb⟩:=pL i p hp
  obtain⟨b1,o1,c0,pG⟩:=dE.some (by intro h;rw[h]at nt;simp at nt)
  simp only[Value.slice.injEq]at pG
  obtain⟨rfl,-,rfl⟩:=pG
  have j8:=vP (tag:=tag) hp
  have hle:=AW tag ps (i+1)
  have abr:=I5 p.length
  rw[j8]at hle
  simp only[List.length_append]at hle
  obtain⟨T0,O'⟩:∃T0,T0=dg tag (ps.take i):=⟨_,rfl⟩
  rw[← O']at j8 hle ⊢
  obtain⟨ax,cx,rfl,hcx⟩:=hb.2
  have Lb:∀j:Nat,j≤8→(T0++(lI p.length).take j).length=T0.length+j:=fun j hj=>by
   rw[List.length_append,List.length_take];omega
  refine go ?_
  refine bM i zr zr zr zr zr zr zr zr lx ?_
  refine aK ?_
  refine bj 1 i zr zr zr dE rfl nt zr zr (go ?_)
  refine bB (fun y:Nat × Option Addr × Nat=>y.1≤8) (fun y=>8-y.1)
   (fun y=>[(4,ptr b4),(7,.slice ax p.length cx),(11,.slice (some ⟨b1,o1,none⟩) ps.length c),(12,.int .i64 (ps.length:Int)),(13,.int .i64 (i:Int)),(5,.slice y.2.1 (T0++(lI p.length).take y.1).length y.2.2),(17,.int .i64 (y.1:Int))])
   (fun y=>aB 5 1 (.slice y.2.1 (T0++(lI p.length).take y.1).length y.2.2) (T0++(lI p.length).take y.1).length (bV (T0++(lI p.length).take y.1))::A::ae b4 (cl (dC Dg.zero) 35)::F) (0,a1,c1) (Nat.zero_le _) rfl (by simp only[List.take_zero,List.append_nil];exact cg) (by simp only[List.take_zero,List.append_nil];exact ah) ?_
  rintro⟨j,a2,c2⟩ hj Hh
  simp only at hj
  have wJ:=Lb j hj
  dsimp only
  refine go ?_
  refine aq zr zr ?_ ?_
  ·intro hj8
   have XR:j<8:=by omega
   have htj:=Ev (n:=p.length) XR
   refine go ?_
   refine ib zr zr zr (by simp only[gq];omega) ?_
   refine au 25 ((.int .i64 ((8*j:Nat):Int))) rfl ((congrArg (Value.int .i64) ag)) ?_
   refine jl zr zr zr ag ?_
   ((refine au 26 ((.int .u64 ((p.length/2 ^ (8*j):Nat):Int))) rfl ((congrArg (Value.int .u64) (by rw[Int.toNat_natCast,show min (8*j) IntKind.u64.bits=8*j from by show min (8*j) 64=_;omega];simp))) ?_))
   refine ez ?_
   refine il zr zr zr zr zr zr ?_
   refine au 27 ((u8 (UInt8.ofNat (p.length/2 ^ (8*j))))) rfl ((lN _)) ?_
   (refine aj (cs:=bV [(UInt8.ofNat (p.length/2 ^ (8*j)))]) zr zr zr zr zr zr zr zr zr bD ?_;intro bA;refine aR (mm:=1) (news:=bV [(UInt8.ofNat (p.length/2 ^ (8*j)))]) 1 0 zr zr zr zr zr zr zr zr zr zr zr zr (Vw.ae rfl) rfl (cX _) (by(rw[wJ];omega)) (by show(_+_)*1≤_;(rw[wJ];omega)) (fun _=>rfl) bD ?_;intro vA;rw[show bV ((T0++(lI p.length).take j))++bV [(UInt8.ofNat (p.length/2 ^ (8*j)))]=bV (((T0++(lI p.length).take j))++[(UInt8.ofNat (p.length/2 ^ (8*j)))])from by simp[bV],show((T0++(lI p.length).take j)).length+1=(((T0++(lI p.length).take j))++[(UInt8.ofNat (p.length/2 ^ (8*j)))]).length from(@List.length_append _ ((T0++(lI p.length).take j)) [(UInt8.ofNat (p.length/2 ^ (8*j)))]).symm];((refine aO 1 rfl ?_));rintro aA cA rfl)
   rw[show T0++(lI p.length).take j++[UInt8.ofNat (p.length/2 ^ (8*j))]=T0++(lI p.length).take (j+1)from by rw[htj,List.append_assoc]]
   refine go ?_
   refine aM Hh (j+1,aA,cA) rfl (by simp only;omega) (by simp only;omega) cg ah
  intro fA
  have hj8:j=8:=by omega
  subst hj8
  rw[List.take_of_length_le ag]at wJ ⊢
  refine go ?_
  (refine aR (mm:=(p).length) (news:=bV (p)) 0 1 zr zr zr zr zr zr zr zr zr zr zr zr (hb.1) (by show _=_*1;rw[bC];omega) (cX _) (by(rw[wJ];omega)) (by show(_+_)*1≤_;(rw[wJ];omega)) (fun _=>rfl) bD ?_;intro vA;rw[show bV ((T0++lI p.length))++bV (p)=bV (((T0++lI p.length))++(p))from by simp[bV],show((T0++lI p.length)).length+(p).length=(((T0++lI p.length))++(p)).length from(@List.length_append _ ((T0++lI p.length)) (p)).symm];((refine aO 0 rfl ?_));rintro aA cA rfl)
  rw[show T0++lI p.length++p=dg tag (ps.take (i+1))from by rw[j8,List.append_assoc]]
  refine go ?_
  refine aM ih (i+1,aA,cA) rfl (by simp only;omega) (by simp only;omega) cg ah
 intro fA
 have gl:i=ps.length:=by omega
 subst gl
 rw[List.take_length]
 refine qE (bs:=dg tag ps) 0 rfl ?_
 intro Rv
 refine ai (al.bS [_,_] _) (go ?_)
 refine aJ (xo _ (hK.mono (bg (i:=1) rfl)) _ (dg tag ps) (Rv.mono (bg (i:=0) rfl)) hl) ?_
 refine aI (al.cD _ _) (go ?_)
 refine jC (U:=aQ) 2 hE Tryz.func163 zr zr zr zr zr zr zr ⟨rfl,rfl⟩ ah
def PE(x:Nat)(hx:x<256):IntKind.u8.wrap ((BitVec.ofInt IntKind.u8.bits (x:Int) &&& BitVec.ofInt IntKind.u8.bits 15).toNat:Int)=((x%16:Nat):Int):=by
 have e2:(BitVec.ofInt IntKind.u8.bits (15:Int)).toNat=2 ^ 4-1:=by decide
 rw[BitVec.toNat_and,tJ hx,e2,Nat.and_two_pow_sub_one_eq_mod]
 exact cS (by simp only[gq];omega)
def Ot(n:Nat)(h:n<16):vr ⟨#[48,49,50,51,52,53,54,55,56,57,97,98,99,100,101,102]⟩ n=BV n:=by
 have:∀n:Nat,n<16→vr ⟨#[48,49,50,51,52,53,54,55,56,57,97,98,99,100,101,102]⟩ n=BV n:=by decide
 exact this n h
def Gt{d:Dg}{i:Nat}(h:i<32):(g8 d).take (2*(i+1))=(g8 d).take (2*i)++[BV ((d.at i).toNat/16),BV ((d.at i).toNat%16)]:=by
 have e1:vH d (2*i)=BV ((d.at i).toNat/16):=by unfold vH;rw[if_pos ag,show 2*i/2=i from by omega]
 have e2:vH d (2*i+1)=BV ((d.at i).toNat%16):=by unfold vH;rw[if_neg ag,show(2*i+1)/2=i from by omega]
 rw[show 2*(i+1)=2*i+1+1 from by omega,List.take_add_one,List.take_add_one,nE d ag,nE d ag,e1,e2]
 simp
def Yt(d:Dg){i:Nat}(h:i<32):(dC d)[i]?=some (u8 (d.at i)):=by
 rw[dG]
 exact pk (d.PB h)
def PJ(d:Dg):aE Tryz.prog 119 [dV d] [] (fun r H=>r = .string (strOf (g8 d))∧H=[]):=by
 unfold dV
 refine aE.ao Tryz.func119 Tryz.ntmps119 fun G F R hE=>?_
 refine aD rfl ?_
 refine bG zr zr bD ?_
 intro b1
 refine go ?_
 refine nh (U:=aQ) (p:=0) (q:=64) zr zr zr zr zr zr zr zr zr ag ag (by decide) bD ?_
 intro b3
 refine go ?_
 have adU:=eJ 5 1 b3 0 64 [] (List.replicate 64 (u8 0)) (ae b1 (cl (dC d) 35)::F) rfl ag (by rw[List.length_replicate];exact Nat.le_add_left _ _)
 refine aI adU ?_
 refine aG (U:=aQ) 1 zr zr zr zr zr zr (go ?_)
 refine bB (fun y:Nat × Option Addr × Nat=>y.1≤32) (fun y=>32-y.1)
  (fun y=>[(3,.slice y.2.1 ((g8 d).take (2*y.1)).length y.2.2),(7,dV d),(8,.int .i64 (y.1:Int))])
  (fun y=>aB 5 1 (.slice y.2.1 ((g8 d).take (2*y.1)).length y.2.2) ((g8 d).take (2*y.1)).length (bV ((g8 d).take (2*y.1)))::F) (0,some ⟨b3,0,none⟩,64) (Nat.zero_le _) rfl cg ah ?_
 rintro⟨i,a1,c1⟩ hi ih
 simp only at hi
 dsimp only
 have hlen:((g8 d).take (2*i)).length=2*i:=by rw[List.length_take,jD];omega
 refine go ?_
 refine aq zr zr ?_ ?_
 ·intro de
  have tP:i<32:=by omega
  have hg:=Yt d tP
  have j8:=Gt (d:=d) tP
  have hx:=(d.at i).toNat_lt
  unfold dV
  refine go ?_
  refine zN (U:=aQ) zr zr zr zr zr zr zr zr ag ag (show(dC d).toArray.toList[((i:Nat):Int).toNat]?=some (u8 (d.at i))from by rw[Int.toNat_natCast];exact hg) ?_
  generalize d.at i=x at j8 hx
  refine go ?_
  refine aF (fun w=>Sat G w ([])) (cZ 0 7 (.act 7 (.act 8 (.st 9 .nil)))) rfl ak ak ak dT ?_
  refine go ?_
  refine jl zr zr zr ag ?_
  ((refine au 13 ((.int .u8 ((x.toNat/16:Nat):Int))) rfl ((congrArg (Value.int .u8) (by show(x.toNat:Int)/2 ^ 4=_;omega))) ?_))
  refine sY (U:=aQ) zr zr zr zr zr ag (by show((x.toNat/16:Nat):Int)<16;omega) ?_
  refine au 14 ((u8 (BV (x.toNat/16)))) rfl ((congrArg u8 (Ot (x.toNat/16) ag))) (go ?_)
  refine go ?_
  refine au 16 ((.int .u8 ((x.toNat%16:Nat):Int))) rfl ((congrArg (Value.int .u8) (PE x.toNat hx))) ?_
  refine sY (U:=aQ) zr zr zr zr zr ag (by show((x.toNat%16:Nat):Int)<16;omega) ?_
  refine au 17 ((u8 (BV (x.toNat%16)))) rfl ((congrArg u8 (Ot (x.toNat%16) ag))) ?_
  refine aj (cs:=bV [BV (x.toNat/16),BV (x.toNat%16)]) zr zr zr zr zr zr zr zr zr (fun _ _ hw=>hw.cV ah) ?_
  intro bA
  refine aR (mm:=2) (news:=bV [BV (x.toNat/16),BV (x.toNat%16)]) 1 0 zr zr zr zr zr zr zr zr zr zr zr zr (Vw.ae rfl) rfl (cX _) (by rw[hlen];omega) (by show(_+_)*1≤_;rw[hlen];omega) (fun _=>rfl) (fun _ _ hw=>hw.cV ah) ?_
  intro vA
  rw[show bV ((g8 d).take (2*i))++bV [BV (x.toNat/16),BV (x.toNat%16)]=bV ((g8 d).take (2*(i+1)))from by rw[j8];simp[bV],show((g8 d).take (2*i)).length+2=((g8 d).take (2*(i+1))).length from by rw[j8,List.length_append];rfl]
  refine aO 1 rfl ?_
  rintro aA cA rfl
  refine go ?_
  refine aM ih (i+1,aA,cA) rfl (by simp only;omega) (by simp only;omega) cg ah
 intro fA
 have tP:i=32:=by omega
 subst tP
 rw[List.take_of_length_le (by rw[jD];omega)]
 refine qE (bs:=g8 d) 0 rfl ?_
 intro Rv
 refine go ?_
 refine ox 0 zr zr zr zr zr zr zr zr zr Rv.1 (go ?_)
 refine ad hE Tryz.func119 zr zr ⟨rfl,rfl⟩
def J4(c:UInt8):aE Tryz.prog 213 [u8 c] [] (fun r H=>r = .tuple #[.int .u8 (((ly c).getD 0:Nat):Int),.bool (ly c).isSome]∧H=[]):=by
 have hx:=c.toNat_lt
 have h1:(48≤c.toNat∧c.toNat≤57)→Value.tuple #[.int .u8 ((c.toNat:Int)-48),.bool true] = .tuple #[.int .u8 (((ly c).getD 0:Nat):Int),.bool (ly c).isSome]:=fun h=>by
  unfold ly;rw[if_pos h];simp only[Option.getD_some,Option.isSome_some];rw[show((c.toNat-48:Nat):Int)=(c.toNat:Int)-48 from by omega]
 have h2:(97≤c.toNat∧c.toNat≤102)→Value.tuple #[.int .u8 ((c.toNat:Int)-97+10),.bool true] = .tuple #[.int .u8 (((ly c).getD 0:Nat):Int),.bool (ly c).isSome]:=fun h=>by
  unfold ly;rw[if_neg ag,if_pos h];simp only[Option.getD_some,Option.isSome_some];rw[show((c.toNat-87:Nat):Int)=(c.toNat:Int)-97+10 from by omega]
 have h3:¬(48≤c.toNat∧c.toNat≤57)∧¬(97≤c.toNat∧c.toNat≤102)→Value.tuple #[.int .u8 0,.bool false] = .tuple #[.int .u8 (((ly c).getD 0:Nat):Int),.bool (ly c).isSome]:=fun h=>by
  unfold ly;rw[if_neg h.1,if_neg h.2];rfl
 unfold u8
 refine aE.ao Tryz.func213 Tryz.ntmps213 fun G F R hE=>?_
 repeat'(first|(with_reducible intro pM)|refine gy ?_|refine ie zr zr zr zr ?_ ?_|refine aq zr zr ?_ ?_)
 all_goals(first|((refine ad hE Tryz.func213 zr zr ⟨h1 ⟨ag,ag⟩,rfl⟩))|((refine ad hE Tryz.func213 zr zr ⟨h2 ⟨ag,ag⟩,rfl⟩))|((refine ad hE Tryz.func213 zr zr ⟨h3 ag,rfl⟩)))
def Q6(s:List UInt8){i:Nat}(h:i<64):(F9 s i)[i/2]?=some (UInt8.ofNat (if i%2=0 then 0 else lJ s (i-1))):=by
 rw[qT s i ag]
 by_cases hm:i%2=0
 ·rw[if_neg ag,if_neg ag,if_pos hm]
 ·rw[if_neg ag,if_pos ag,if_neg hm,show 2*(i/2)=i-1 from by omega]
def NQ(s:List UInt8){i:Nat}(h:i<64):(F9 s i).set (i/2) (UInt8.ofNat (16*(if i%2=0 then 0 else lJ s (i-1))+lJ s i))=F9 s (i+1):=by
 apply List.ext_getElem?
 intro j
 rw[List.getElem?_set,kO]
 rcases Nat.lt_or_ge j 32 with hj|hj
 ·rw[qT s i hj,qT s (i+1) hj]
  by_cases e:i/2=j
  ·subst e
   rw[if_pos rfl,if_pos hj]
   congr 2
   by_cases hm:i%2=0
   ·rw[if_pos hm,if_neg ag,if_pos ag,show 2*(i/2)=i from by omega];omega
   ·rw[if_neg hm,if_pos ag,show 2*(i/2)=i-1 from by omega,show i-1+1=i from by omega]
  ·rw[if_neg e]
   congr 2
   have e1:(2*j+1<i)↔(2*j+1<i+1):=by omega
   have e2:¬2*j+1<i→((2*j<i)↔(2*j<i+1)):=by omega
   by_cases h1:2*j+1<i
   ·rw[if_pos h1,if_pos (e1.1 h1)]
   ·rw[if_neg h1,if_neg (fun h=>h1 (e1.2 h))]
    by_cases h2:2*j<i
    ·rw[if_pos h2,if_pos ((e2 h1).1 h2)]
    ·rw[if_neg h2,if_neg (fun h=>h2 ((e2 h1).2 h))]
 ·rw[if_neg ag,List.getElem?_eq_none (by rw[kO];exact hj),List.getElem?_eq_none (by rw[kO];exact hj)]
def Xa(x y:Nat)(hx:x<16)(hy:y<16):IntKind.u8.wrap ((BitVec.ofInt IntKind.u8.bits ((16*x:Nat):Int) ||| BitVec.ofInt IntKind.u8.bits (y:Int)).toNat:Int)=((16*x+y:Nat):Int):=by
 have h:=oS (a:=y) (c:=x) (k:=4) ag
 rw[BitVec.toNat_or,tJ ag,tJ ag,Nat.or_comm,show 16*x=x*2 ^ 4 from by omega,h]
 exact(cS (by simp only[gq];omega)).trans (congrArg _ ag)
def L6(s:ByteArray):aE Tryz.prog 181 [.string s] [] (fun r H=>r=(match jS s.data.toList with
    | some d => .tuple #[dV d,.int .i64 0]
    | none => .tuple #[dV Dg.zero,.int .i64 2])∧H=[]):=by
  obtain⟨l,hl⟩:∃l,l=s.data.toList:=⟨_,rfl⟩
  have iB:s.size=l.length:=by rw[hl];rfl
  rw[← hl]
  refine aE.ao Tryz.func181 Tryz.ntmps181 fun G F R hE=>?_
  refine aD rfl ?_
  refine az zr zr zr bD ?_
  intro b2
  refine ld ?_
  refine aD rfl ?_
  refine az zr zr zr bD ?_
  intro b4
  refine go ?_
  refine aq zr zr ?_ ?_
  · intro bY
    have hp:jS l=none:=by unfold jS;rw[if_neg (by intro h;apply bY;rw[iB,h.1];rfl)]
    rw[hp]at hE
    refine aD rfl ?_
    refine aG (U:=aQ) 0 zr zr zr zr zr zr (go ?_)
    (refine aY hE ?_;apply aU (U:=aQ) hE Tryz.func181 rfl (al.refl _);(repeat(first|exact aN.nil|apply aN.tmp rfl|apply aN.agg 1 zr zr zr zr zr));exact⟨rfl,rfl⟩;exact ah)
  intro heq
  have HD:l.length=64:=by rw[iB]at heq;omega
  have h8:∀x:UInt8,x.toNat<256:=fun x=>x.toNat_lt
  refine go ?_
  ((refine aX 13 ((.int .i64 64)) rfl ((congrArg (Value.int .i64) (by rw[iB];omega))) ?_))
  refine bB (fun i:Nat=>i≤64∧∀j,j<i→ly (l.getD j 0)≠none) (fun i=>64-i)
    (fun i=>[(0,.string s),(2,ptr b2),(3,.int .i64 0),(4,ptr b4),(13,.int .i64 64),(14,.int .i64 (i:Int))])
    (fun i=>ae b4 (cl (bV (F9 l i)) 35)::ae b2 (cl (dC Dg.zero) 35)::F) 0 ⟨Nat.zero_le _,fun j hj=>by omega⟩ rfl cg (by rw[NP];exact ah) ?_
  rintro i⟨hi,lE⟩ ih
  refine go ?_
  refine aq zr zr ?_ ?_
  · intro de
    have Lh:i<64:=by omega
    have hold:=Q6 l Lh
    have wG:=NQ l Lh
    have ac0:=Cn l i
    have hvp:=Cn l (i-1)
    refine go ?_
    refine sY (U:=aQ) zr zr zr zr zr ag (by rw[iB];omega) ?_
    ((refine au 20 ((u8 (l.getD i 0))) rfl ((by rw[Int.toNat_natCast];unfold vr;rw[← hl];rfl)) ?_))
    refine go ?_
    refine aJ (J4 (l.getD i 0)) ?_
    have hh0:(ly (l.getD i 0)).getD 0=lJ l i:=rfl
    cases hx:ly (l.getD i 0)with
    | none =>
      have hp:jS l=none:=by
        unfold jS;rw[if_neg]
        intro h
        have hm:l.getD i 0∈l:=by rw[List.getD_eq_getElem?_getD,List.getElem?_eq_getElem ag];exact List.getElem_mem _
        exact h.2 _ hm hx
      rw[hp]at hE
      refine go ?_
      refine jY (U:=aQ) zr zr zr zr zr (go ?_)
      (refine aY hE ?_;apply aU (U:=aQ) hE Tryz.func181 rfl (al.refl _);(repeat(first|exact aN.nil|apply aN.tmp rfl|apply aN.agg 1 zr zr zr zr zr));exact⟨rfl,rfl⟩;exact ah)
    | some v =>
      have hv:v=lJ l i:=by rw[hx]at hh0;exact hh0
      simp only[Option.getD_some,Option.isSome_some]
      rw[hv]
      obtain⟨o,ho⟩:∃o,o=(if i%2=0 then 0 else lJ l (i-1)):=⟨_,rfl⟩
      have adw:o<16:=by rw[ho];split <;> omega
      rw[← ho]at hold wG
      have hq:(i:Int)/2=((i/2:Nat):Int):=by omega
      refine go ?_
      (repeat(first|refine gy ?_|refine lj zr zr zr ag ag (by simp only[gq];omega) ?_|refine ep (U:=aQ) (i/2) zr zr zr zr zr zr zr hq ag ?_|(refine aK ?_;refine mJ (U:=aQ) 0 (i/2) zr zr zr (Nat.zero_add _) (pk hold) zr zr ?_)))
      refine nB zr zr zr ag ?_
      ((refine au 33 ((.int .u8 ((16*o:Nat):Int))) rfl ((congrArg (Value.int .u8) (by rw[show(UInt8.ofNat o).toNat=o from by rw[UInt8.toNat_ofNat'];omega];exact(cS (by show 0≤(o:Int)*2 ^ 4∧_;simp only[show min ((4:Int).toNat) IntKind.u8.bits=4 from rfl];omega)).trans (by show(o:Int)*2 ^ 4=_;omega)))) ?_))
      refine go ?_
      ((refine au 35 ((u8 (UInt8.ofNat (16*o+lJ l i)))) rfl ((congrArg (Value.int .u8) (by rw[Xa o (lJ l i) adw ac0,UInt8.toNat_ofNat'];omega))) ?_))
      (repeat((refine ep (U:=aQ) (i/2) zr zr zr zr zr zr zr hq ag ?_)))
      refine aT ?_
      refine gV (U:=aQ) 0 gB zr zr zr zr zr zr zr (by rw[bC,kO];omega) rfl ?_
      rw[show 0+i/2=i/2 from Nat.zero_add _,show(bV (F9 l i)).set (i/2) (u8 (UInt8.ofNat (16*o+lJ l i)))=bV (F9 l (i+1))from by rw[← wG];simp[bV]]
      refine go ?_
      refine aM ih (i+1) rfl ⟨ag,fun j hj=>by
        rcases Nat.lt_or_ge j i with h|h
        · exact lE j h
        · rw[show j=i from by omega,hx];simp⟩ ag cg ah
  intro fA
  have Lh:i=64:=by omega
  subst Lh
  have hp:jS l=some ⟨F9 l 64,kO l 64⟩:=by
    unfold jS
    rw[if_pos ⟨HD,fun c hc=>by
      obtain⟨j,hj,rfl⟩:=List.mem_iff_getElem.1 hc
      have:=lE j ag
      rwa[List.getD_eq_getElem?_getD,List.getElem?_eq_getElem hj]at this⟩]
  rw[hp]at hE
  obtain⟨d,hd⟩:∃d:Dg,d=⟨F9 l 64,kO l 64⟩:=⟨_,rfl⟩
  rw[← hd]at hE
  have O5:bV (F9 l 64)=dC d:=by rw[dG,hd]
  rw[O5]
  clear ih
  refine go ?_
  refine aG (U:=aQ) 0 zr zr zr zr zr zr (go ?_)
  (refine aY hE ?_;apply aU (U:=aQ) hE Tryz.func181 rfl (al.refl _);(repeat(first|exact aN.nil|apply aN.tmp rfl|apply aN.agg 1 zr zr zr zr zr));exact⟨rfl,rfl⟩;exact ah)
end Go.Proofs.YtedjnjkijiddlaaGreatDoor
namespace Go.Proofs.YtedjnjkijiddlaaGreatDoor
open Go Go.SL
def gR(l:List Dg)(i:Nat):List Dg:=(bF l).take i++l.drop i
def qR(l:List Dg){i:Nat}(h:i≤l.length/2):(gR l i).length=l.length:=by
 unfold gR
 rw[List.length_append,List.length_take,List.length_drop,cU];omega
def uZ(l:List Dg){i j:Nat}(h:i≤l.length/2)(hj:i≤j):(gR l i)[j]?=l[j]? := by
 unfold gR
 have h1:((bF l).take i).length=i:=by rw[List.length_take,cU];omega
 rw[List.getElem?_append_right ag,h1,List.getElem?_drop,show i+(j-i)=j from by omega]
def BB{l:List Dg}{i:Nat}{a b:Dg}(ha:l[2*i]?=some a)(hb:l[2*i+1]?=some b):(bF l)[i]?=some (e8 a b):=by
 rw[pt,ha,hb]
def wi{l:List Dg}{i:Nat}{a:Dg}(ha:l[2*i]?=some a)(hb:l.length≤2*i+1):(bF l)[i]?=some a:=by
 rw[pt,ha,List.getElem?_eq_none hb]
def Ko(l:List Dg){i:Nat}(h:i<l.length/2){x:Dg}(hx:(bF l)[i]?=some x):(gR l i).set i x=gR l (i+1):=by
 unfold gR
 have h1:((bF l).take i).length=i:=by rw[List.length_take,cU];omega
 rw[List.set_append_right _ _ ag,h1,Nat.sub_self,List.take_add_one,hx]
 have h2:l.drop i=l[i]::l.drop (i+1):=List.drop_eq_getElem_cons ag
 rw[h2,List.set_cons_zero]
 simp
def GK(l:List Dg)(h:l.length%2=0):(gR l (l.length/2)).take ((l.length+1)/2)=bF l:=by
 unfold gR
 have h1:(bF l).length=(l.length+1)/2:=cU l
 rw[List.take_of_length_le (l:=bF l) ag,List.take_append_of_le_length ag,List.take_of_length_le ag]
def Kp(l:List Dg)(h:l.length%2=1){x:Dg}(hx:l[l.length-1]?=some x):((gR l (l.length/2)).set (l.length/2) x).take ((l.length+1)/2)=bF l:=by
 have h1:(bF l).length=(l.length+1)/2:=cU l
 have h2:(bF l)[l.length/2]?=some x:=wi (by rw[← hx];congr 1;omega) ag
 apply List.ext_getElem?
 intro j
 rw[List.getElem?_take]
 rcases Nat.lt_or_ge j ((l.length+1)/2)with hj|hj
 ·rw[if_pos hj,List.getElem?_set]
  by_cases wK:l.length/2=j
  ·rw[if_pos wK,if_pos (by rw[qR l (Nat.le_refl _)];omega),← wK,h2]
  ·rw[if_neg wK]
   unfold gR
   rw[List.getElem?_append_left (by rw[List.length_take];omega),List.getElem?_take,if_pos ag]
 ·rw[if_neg ag,List.getElem?_eq_none ag]
def dw:Nat→List Dg→List Dg
 | 0,l=>l
 | j+1,l=>bF (dw j l)
def oO(l:List Dg):∀j,dw j (bF l)=dw (j+1) l
 | 0=>rfl
 | j+1=>by
  show bF (dw j (bF l))=_
  rw[oO l j];rfl
def B0(l:List Dg):∀j,(dw j l).length≤l.length
 | 0=>Nat.le_refl _
 | j+1=>by
  have:=B0 l j
  simp only[dw,cU];omega
def tA(l:List Dg)(h:1≤l.length):∀j,1≤(dw j l).length
 | 0=>h
 | j+1=>by
  have:=tA l h j
  simp only[dw,cU];omega
def IC:∀(f:Nat) (l:List Dg) (j:Nat),l.length≤f+1→(∀i,i<j→1<(dw i l).length)→(dw j l).length≤1→SM f l=dw j l
 | 0,l,j,hf,hi,hj=>by
  cases j with
  | zero=>rfl
  | succ j =>
   have:=hi 0 ag
   simp only[dw]at this;omega
 | f+1,l,j,hf,hi,hj=>by
  unfold SM
  cases j with
  | zero=>rw[if_pos (show l.length≤1 from hj)];rfl
  | succ j =>
   have h0:=hi 0 ag
   simp only[dw]at h0
   rw[if_neg ag,IC f (bF l) j (by rw[cU];omega) (fun i h=>by rw[oO];exact hi (i+1) ag) (by rw[oO];exact hj),oO]
def DT{l:List Dg}{j:Nat}(h1:l≠[])(hi:∀i,i<j→1<(dw i l).length){x:Dg}(hj:dw j l=[x]):rO l=x:=by
 unfold rO
 rw[if_neg h1,IC _ l j ag hi (by rw[hj];simp),hj]
 rfl
def jF(k:Nat)(hk:0<k):∀(f:Nat) (b:List UInt8) (j:Nat),b.length≤f→(gC k f b)[j]?=if j*k<b.length then some ((b.drop (j*k)).take k)else none
 | 0,b,j,h=>by
  have:b=[]:=List.eq_nil_of_length_eq_zero ag
  subst this;simp[gC]
 | f+1,b,j,h=>by
  unfold gC
  by_cases hb:b=[]
  ·subst hb;simp
  ·rw[if_neg hb]
   have lu:0<b.length:=List.length_pos_iff.2 hb
   cases j with
   | zero=>simp[lu]
   | succ j =>
    rw[List.getElem?_cons_succ,jF k hk f (b.drop k) j (by rw[List.length_drop];omega),List.length_drop,List.drop_drop]
    have e:(j+1)*k=j*k+k:=by rw[Nat.add_mul,Nat.one_mul]
    rw[e,show k+j*k=j*k+k from Nat.add_comm _ _]
    by_cases de:j*k<b.length-k
    ·rw[if_pos de,if_pos ag]
    ·rw[if_neg de,if_neg ag]
def mX(k:Nat)(hk:0<k)(b:List UInt8):(gC k b.length b).length=(b.length+k-1)/k:=by
 have hg:=jF k hk b.length b
 have h1:∀j,j<(gC k b.length b).length↔j<(b.length+k-1)/k:=by
  intro j
  have h2:=hg j (Nat.le_refl _)
  have h3:j<(b.length+k-1)/k↔j*k<b.length:=by
   rw[show j<(b.length+k-1)/k↔j+1≤(b.length+k-1)/k from Iff.rfl,Nat.le_div_iff_mul_le hk,Nat.add_mul,Nat.one_mul]
   omega
  rw[h3]
  constructor
  ·intro h
   rw[List.getElem?_eq_getElem h]at h2
   split at h2
   ·assumption
   ·cases h2
  ·intro h
   rw[if_pos h]at h2
   exact(List.getElem?_eq_some_iff.1 h2).1
 rcases Nat.lt_trichotomy (gC k b.length b).length ((b.length+k-1)/k)with h|h|h
 ·have:=(h1 _).2 h;omega
 ·exact h
 ·have:=(h1 _).1 h;omega
attribute [local irreducible] J K aE Ends ae aB aP bP bq aS aZ bu bX Sha.chunks Sha.chunk Sha.rounds Sha.sched dK cm
def eM.block{b n:Nat}{bs:List UInt8}{l:List Value}{e:TypeId}(hn:bs.length=n)(hl:l=bV bs):eM (ae b (cl l e)) (.slice (some ⟨b,0,none⟩) n n) bs:=by
 subst hn hl
 exact⟨Vw.ae (by rw[List.drop_zero,List.take_length]),_,_,rfl,Nat.le_refl _⟩
def FF(A:HP)(hK:oG A)(v:Value)(b:List UInt8)(hv:eM A v b)(hl:b.length≤900000000):aE Tryz.prog 99 [v] [A] (fun r H=>r=dV (cQ b)∧H=[A]):=by
 obtain⟨a,c,rfl,hc⟩:=hv.2
 refine aE.ao Tryz.func99 Tryz.ntmps99 fun G F R hE=>?_
 refine aD rfl ?_
 refine az zr zr zr bD ?_
 intro b2
 refine ld ?_
 (refine aD rfl ?_;refine ld ?_)
 refine aj (cs:=[.slice a b.length c]) zr zr zr zr zr zr zr zr zr bD ?_
 intro b0
 refine aI (al.trans (al.pick [0,2] rfl) (al.bS [_,_] _)) ?_
 ((refine aH (zA (Sep [ae b0 (cl [.slice a b.length c] 22),A]) (hK.mono (bg (i:=1) rfl)) 0 _ [b] (sj.row rfl rfl (fun i x hx=>by cases i with|zero=>(simp at hx;subst hx;exact⟨_,rfl,hv⟩)|succ i=>simp at hx)) (by simp[dg,lI];omega)) ?_))
 rintro _ _⟨rfl,rfl⟩
 refine aI (al.cD _ _) (go ?_)
 (refine aY hE ?_;apply aU (U:=aQ) hE Tryz.func99 rfl (al.refl _);(repeat(first|exact aN.nil|apply aN.agg 2 zr zr zr zr zr));exact⟨rfl,rfl⟩;exact ah)
def zF(A:HP)(hK:oG A)(l r:Dg):aE Tryz.prog 162 [dV l,dV r] [A] (fun x H=>x=dV (e8 l r)∧H=[A]):=by
 unfold dV
 refine aE.ao Tryz.func162 Tryz.ntmps162 fun G F R hE=>?_
 refine aD rfl ?_
 refine bG zr zr bD ?_
 intro b2
 refine bG zr zr bD ?_
 intro b3
 refine az zr zr zr bD ?_
 intro b4
 refine go ?_
 refine aF (fun w=>Sat G w ([])) (.st 0 (.st 1 (.act 2 (.act 3 (.act 4 .nil))))) rfl ak ak ak dT ?_
 refine go ?_
 refine iP (U:=aQ) zr zr zr zr zr (go ?_)
 refine iP (U:=aQ) zr zr zr zr zr ?_
 refine aj (cs:=[.slice (some ⟨b2,0,none⟩) 32 32,.slice (some ⟨b3,0,none⟩) 32 32]) zr zr zr zr zr zr zr zr zr (fun _ _ hw=>hw.cV ah) ?_
 intro b0
 refine aI (al.trans (al.pick [3,2,4] rfl) (al.trans (al.bS [_,_,_] _) (al.trans (al.pick [1,0] rfl) (al.bS [_,_] _)))) ?_
 have mR:sj (Sep [ae b0 (cl [.slice (some ⟨b2,0,none⟩) 32 32,.slice (some ⟨b3,0,none⟩) 32 32] 22),Sep [ae b2 (cl (dC l) 35),ae b3 (cl (dC r) 35),A] ]) (.slice (some ⟨b0,0,none⟩) 2 2) [l.bs,r.bs]:=by
  refine sj.row zr zr (fun i x hx=>?_)
  match i,hx with
  | 0,hx =>
   simp at hx
   subst hx
   exact⟨_,rfl,(eM.block l.len (dG l)).mono (bg (i:=0) rfl)⟩
  | 1,hx =>
   simp at hx
   subst hx
   exact⟨_,rfl,(eM.block r.len (dG r)).mono (bg (i:=1) rfl)⟩
  | i+2,hx=>simp at hx
 have Xm:=zA _ ((hK.mono (bg (H:=[ae b2 (cl (dC l) 35),ae b3 (cl (dC r) 35),A]) (i:=2) rfl)).mono (bg (i:=1) rfl)) 1 _ [l.bs,r.bs] mR (by simp[dg,lI,l.len,r.len])
 refine bo Xm ?_
 refine aI (al.trans (al.cD _ _) (al.trans (al.pick [1] rfl) (al.cD _ _))) (go ?_)
 refine aT ?_
 refine ct (U:=aQ) (l':=dC (cm 1 [l.bs,r.bs])) 4 gB rfl rfl rfl rfl (by intro e;cases e) (by rw[dG];exact gO _) rfl rfl rfl ?_
 refine go ?_
 (refine aY hE ?_;apply aU (U:=aQ) hE Tryz.func162 rfl (al.refl _);(repeat(first|exact aN.nil|apply aN.agg 4 zr zr zr zr zr));exact⟨rfl,rfl⟩;exact ah)
def Pn(l:List Dg):∀v∈l.flatMap dC,v.oneCell'=true:=by
 intro v hv
 obtain⟨d,_,hd⟩:=List.mem_flatMap.1 hv
 rw[dG]at hd
 exact cX _ v hd
def F3(A:HP)(v:Value)(W:List Dg)(hv:Vw A v W.length (W.flatMap dC))(hlen:W.length≤1000000) :
  aE Tryz.prog 107 [v] [A] (fun r H=>H=[aB 35 32 r W.length (W.flatMap dC),A]):=by
 obtain⟨a,c0,rfl⟩:=hv.shape
 cases a with
 | none =>
  have hb:W=[]:=by
   obtain⟨a,cap,h1,h2|⟨b,o,h2,_⟩⟩:=hv
   ·have:=congrArg List.length h2
    rw[cI dk]at this
    exact List.eq_nil_of_length_eq_zero (by simp at this;omega)
   ·simp only[Value.slice.injEq]at h1;rw[← h1.1]at h2;cases h2
  subst hb
  refine aE.enter Tryz.func107 ak rfl Tryz.ntmps107 zr zr ?_
  intro G F R hR
  refine go ?_
  refine ai (bN 35 32 none _) ?_
  refine aL hR Tryz.func107 rfl _ zr zr (al.fin [0,1] 0 zr zr)
 | some a =>
  refine aE.enter Tryz.func107 ak rfl Tryz.ntmps107 zr zr ?_
  intro G F R hR
  refine go ?_
  refine aj (cs:=[]) zr zr zr zr zr zr zr zr zr bD ?_
  intro b0
  refine go ?_
  refine aI (eJ 35 32 b0 0 0 [] [] _ rfl (Nat.le_refl _) (by simp)) ?_
  refine aR (mm:=W.length) (news:=W.flatMap dC) 0 1 zr zr zr zr zr zr zr zr zr zr zr zr hv (by rw[cI dk];rfl) (Pn W) ag (by show _*32≤_;omega) (fun _=>rfl) bD ?_
  intro v'
  have e1:(0:Nat)+W.length=W.length:=by omega
  rw[e1,List.nil_append]
  refine go ?_
  refine aL hR Tryz.func107 rfl _ zr zr (al.fin [0,1] 0 zr zr)
def Nn(a:Option Addr)(n c:Nat):aE Tryz.prog 227 [.slice a n c] [] (fun r H=>∃b,r = .func (.func 247) #[] #[ptr b]∧H=[ae b (cl [.slice a n c] 42)]):=by
 refine aE.ao Tryz.func227 Tryz.ntmps227 fun G F R hE=>?_
 refine go ?_
 refine bG zr zr bD ?_
 intro bx
 refine go ?_
 refine ad hE Tryz.func227 zr zr ⟨bx,rfl,rfl⟩
def E3(n:Nat):(n:Int)/2 ^ (min ((1:Int).toNat) IntKind.i64.bits)=((n/2:Nat):Int):=by
 show(n:Int)/2 ^ 1=_
 omega
def Jv(n:Nat)(h:n<1000000000):IntKind.i64.wrap ((n:Int)*2 ^ (min ((1:Int).toNat) IntKind.i64.bits))=((2*n:Nat):Int):=by
 show IntKind.i64.wrap ((n:Int)*2 ^ 1)=_
 rw[cS (by simp only[gq];omega)];omega
def Ra(n:Nat)(h:n<1000000000):IntKind.i64.wrap ((BitVec.ofInt IntKind.i64.bits ((2*n:Nat):Int) ||| BitVec.ofInt IntKind.i64.bits 1).toNat:Int)=((2*n+1:Nat):Int):=by
 have h1:=oS (a:=1) (c:=n) (k:=1) (by decide)
 have e1:(BitVec.ofInt IntKind.i64.bits (1:Int)).toNat=1:=by decide
 rw[BitVec.toNat_or,wZ ag,e1,Nat.or_comm,show 2*n=n*2 ^ 1 from by omega,h1]
 exact(cS (by simp only[gq];omega)).trans (congrArg _ ag)
def ug(n:Nat)(h:n<1000000000):IntKind.i64.wrap ((BitVec.ofInt IntKind.i64.bits (n:Int) &&& BitVec.ofInt IntKind.i64.bits 1).toNat:Int)=((n%2:Nat):Int):=pn n 1 ag ag
def iR{b o c m m':Nat}(h:0<c)(hm:m'=m):Value.slice (sliceAt (some ⟨b,o,none⟩) c (0:Int).toNat 32) (((m:Nat):Int).toNat-(0:Int).toNat) (c-(0:Int).toNat) = .slice (some ⟨b,o,none⟩) m' c:=by
 subst hm
 unfold sliceAt
 rw[if_neg (by show ¬(0=c);omega)]
 simp[Addr.add]
def DS{b o c n:Nat}{pre bT:List Value}{aaT W:List Dg}{e:TypeId}(hp:pre.length=o)(hn:n≤c)(hc:c*32≤(aaT.flatMap dC).length+bT.length)(hl:(aaT.flatMap dC).length=n*32)(V:List Dg)(hV:V.length=n)(hW:W=V.take W.length)(H:List HP) :
  al (ae b (cl (pre++V.flatMap dC++bT) e)::H) (aB e 32 (.slice (some ⟨b,o,none⟩) W.length c) W.length (W.flatMap dC)::H):=by
 have h1:V.flatMap dC=W.flatMap dC++(V.drop W.length).flatMap dC:=by
  conv=>lhs;rw[← List.take_append_drop W.length V]
  rw[List.flatMap_append,← hW]
 have fb:W.length≤n:=by
  have:=congrArg List.length hW
  rw[List.length_take]at this;omega
 have h2:((V.drop W.length).flatMap dC).length=(n-W.length)*32:=by rw[cI dk,List.length_drop,hV]
 have h3:=cI dk W
 rw[h1,List.append_assoc,List.append_assoc,← List.append_assoc]
 refine lZ hp ag ?_ h3 H
 rw[List.length_append,h2,h3];omega
set_option maxHeartbeats 1000000 in
def Kn(A:HP)(hK:oG A)(bx:Nat)(v:Value)(l0:List Dg)(hv:Vw A v l0.length (l0.flatMap dC))(OT:l0.length≤1000000)(l:Nat)(Lp:HP)(Inv:Nat→HP)(hy:∀j va vc,(∀i,i<j→1<(dw i l0).length)→bX Tryz.prog l [.slice va (dw j l0).length vc] [Lp,Inv j,aB 35 32 (.slice va (dw j l0).length vc) (dw j l0).length ((dw j l0).flatMap dC)] (fun r H=>r = .bool true∧H=[Lp,Inv (j+1),aB 35 32 (.slice va (dw j l0).length vc) (dw j l0).length ((dw j l0).flatMap dC)])) :
  aE Tryz.prog 247 [.func (.yield l) #[] #[],ptr bx] [Lp,Inv 0,ae bx (cl [v] 42),A] (fun _ H=>∃j,(∀i,i<j→1<(dw i l0).length)∧(dw j l0).length≤1∧H=[Lp,Inv (j+1),A]):=by
 refine aE.ao Tryz.func247 Tryz.ntmps247 fun G F R hE=>?_
 refine go ?_
 refine aH (F3 A v l0 hv OT) ?_
 rintro r _ rfl
 refine aO 0 rfl ?_
 rintro ra rc rfl
 refine go ?_
 refine bB (fun y:Nat × Option Addr × Nat=>∀i,i<y.1→1<(dw i l0).length) (fun y=>(dw y.1 l0).length)
  (fun y=>[(0,.func (.yield l) #[] #[]),(3,.slice y.2.1 (dw y.1 l0).length y.2.2)])
  (fun y=>aB 35 32 (.slice y.2.1 (dw y.1 l0).length y.2.2) (dw y.1 l0).length ((dw y.1 l0).flatMap dC)::Lp::Inv y.1::A::F) (0,ra,rc) (fun i h=>by omega) rfl cg ah ?_
 rintro⟨j,a1,c1⟩ hI ih
 simp only at hI
 dsimp only
 have hle:=B0 l0 j
 refine go ?_
 refine aq zr zr ?_ ?_
 ·intro MG
  have Aj:1<(dw j l0).length:=by omega
  have hI2:∀i,i<j+1→1<(dw i l0).length:=fun i hi=>by
   rcases Nat.lt_or_ge i j with h|h
   ·exact hI i h
   ·rw[show i=j from by omega];exact Aj
  have pK:dw (j+1) l0=bF (dw j l0):=rfl
  have hyj:=hy j a1 c1 hI
  obtain⟨row,Ag⟩:∃row,row=dw j l0:=⟨_,rfl⟩
  rw[← Ag]at hle MG Aj pK hyj ⊢
  have m8:=cU row
  refine go ?_
  refine kQ zr zr zr hyj ah ?_ mM
  rintro _ _⟨rfl,rfl⟩
  refine go ?_
  refine jl zr zr zr ag ?_
  refine au 16 ((.int .i64 ((row.length/2:Nat):Int))) rfl ((congrArg (Value.int .i64) (E3 row.length))) (go ?_)
  refine ai (al.pick [2,0,1] rfl) ?_
  refine sW (fun a lJ hn _=>by omega) ?_
  rintro b o cc pre bT o4 mQ hnc jz lA
  simp only[Value.slice.injEq,true_and]at o4
  obtain⟨rfl,rfl⟩:=o4
  have nW:∀i,i≤row.length/2→((gR row i).flatMap dC).length=row.length*32:=fun i hi=>by rw[cI dk,qR row hi]
  refine bB (fun i:Nat=>i≤row.length/2) (fun i=>row.length/2-i)
   (fun i=>[(0,.func (.yield l) #[] #[]),(3,.slice (some ⟨b,o,none⟩) row.length c1),(16,.int .i64 ((row.length/2:Nat):Int)),(17,.int .i64 (i:Int))])
   (fun i=>ae b (cl (pre++(gR row i).flatMap dC++bT) 35)::Lp::Inv (j+1)::A::F) 0 (Nat.zero_le _) rfl cg ah ?_
  rintro i hi Hh
  have EF:=qR row hi
  refine go ?_
  refine aq zr zr ?_ ?_
  ·intro de
   have hi2:i<row.length/2:=by omega
   obtain⟨x,hx⟩:∃x,row[2*i]?=some x:=⟨row[2*i]' ag,by simp⟩
   obtain⟨y,yF⟩:∃x,row[2*i+1]?=some x:=⟨row[2*i+1]' ag,by simp⟩
   have Bi:=(uZ row hi (show i≤2*i by omega)).trans hx
   have hgy:=(uZ row hi (show i≤2*i+1 by omega)).trans yF
   have ir:=Ko row hi2 (BB hx yF)
   have dE:Vw (ae b (cl (pre++(gR row i).flatMap dC++bT) 35)) (.slice (some ⟨b,o,none⟩) row.length c1) row.length ((gR row i).flatMap dC):=Vw.ae (by rw[← mQ,List.append_assoc,List.drop_left,List.take_left])
   refine go ?_
   refine aF (fun w=>Sat G w ([ae b (cl (pre++(gR row i).flatMap dC++bT) 35)])) (cZ 0 13 (.act 13 (.st 14 (.act 15 .nil)))) rfl ak ak ak dT ?_
   refine go ?_
   refine nB zr zr zr ag ?_
   refine au 24 ((.int .i64 ((2*i:Nat):Int))) rfl ((congrArg (Value.int .i64) (Jv i ag))) ?_
   refine cL (2*i) 32 zr zr zr zr zr zr zr zr ag ?_
   refine aK ?_
   refine fq (U:=aQ) (es:=dC x) 0 ((2*i)*32) zr zr zr dE rfl (fun q v hq=>?_) zr zr zr ?_
   ·rw[cR dk Bi q (by rcases Nat.lt_or_ge q 32 with h|h;exact h;rw[List.getElem?_eq_none (by rw[dk];exact h)]at hq;cases hq)];exact hq
   refine go ?_
   refine nB zr zr zr ag ?_
   refine au 29 ((.int .i64 ((2*i:Nat):Int))) rfl ((congrArg (Value.int .i64) (Jv i ag))) (go ?_)
   refine au 30 ((.int .i64 ((2*i+1:Nat):Int))) rfl ((congrArg (Value.int .i64) (Ra i ag))) ?_
   refine cL (2*i+1) 32 zr zr zr zr zr zr zr zr ag ?_
   refine aK ?_
   refine fq (U:=aQ) (es:=dC y) 0 ((2*i+1)*32) zr zr zr dE rfl (fun q v hq=>?_) zr zr zr ?_
   ·rw[cR dk hgy q (by rcases Nat.lt_or_ge q 32 with h|h;exact h;rw[List.getElem?_eq_none (by rw[dk];exact h)]at hq;cases hq)];exact hq
   refine go ?_
   refine bo ((zF A hK x y)) ?_
   refine go ?_
   refine cL i 32 zr zr zr zr zr zr zr zr ag ?_
   refine aT ?_
   refine kH (U:=aQ) (l':=pre++(gR row (i+1)).flatMap dC++bT) 1 gB zr zr zr zr zr zr zr ?_ ?_ rfl ?_
   ·show o+i*32+32≤_
    rw[List.length_append,List.length_append,nW i hi];omega
   ·show _=List.take (o+i*32) (pre++(gR row i).flatMap dC++bT)++dC (e8 x y)++List.drop (o+i*32+(dC (e8 x y)).length) (pre++(gR row i).flatMap dC++bT)
    rw[← mQ,oL _ _ _ _ _ (by rw[dk,nW i hi];omega),← ir,vo dk ag]
    rfl
   refine go ?_
   refine aM Hh (i+1) rfl ag ag cg ah
  intro fA
  have tl:i=row.length/2:=by omega
  subst tl
  clear Hh
  have abL:=nW (row.length/2) (Nat.le_refl _)
  have EF:=qR row (Nat.le_refl (row.length/2))
  refine go ?_
  refine aX 38 ((.int .i64 ((row.length%2:Nat):Int))) rfl ((congrArg (Value.int .i64) (ug row.length ag))) ?_
  refine aq zr zr ?_ ?_
  ·intro adv
   have abj:row.length%2=1:=by rw[ug _ ag]at adv;omega
   obtain⟨x,hx⟩:∃x,row[row.length-1]?=some x:=⟨row[row.length-1]' ag,by simp⟩
   have Bi:=(uZ row (Nat.le_refl (row.length/2)) (show row.length/2≤row.length-1 by omega)).trans hx
   have dE:Vw (ae b (cl (pre++(gR row (row.length/2)).flatMap dC++bT) 35)) (.slice (some ⟨b,o,none⟩) row.length c1) row.length ((gR row (row.length/2)).flatMap dC):=Vw.ae (by rw[← mQ,List.append_assoc,List.drop_left,List.take_left])
   have iK:=Kp row abj hx
   refine go ?_
   refine jl zr zr zr ag ?_
   refine au 43 ((.int .i64 ((row.length/2:Nat):Int))) rfl ((congrArg (Value.int .i64) (E3 row.length))) (go ?_)
   refine au 47 ((.int .i64 ((row.length-1:Nat):Int))) rfl ((congrArg (Value.int .i64) ag)) ?_
   refine cL (row.length-1) 32 zr zr zr zr zr zr zr zr ag ?_
   refine aK ?_
   refine dm (U:=aQ) (es:=dC x) 0 ((row.length-1)*32) zr zr zr dE rfl (fun q v hq=>?_) zr zr zr ?_
   ·rw[cR dk Bi q (by rcases Nat.lt_or_ge q 32 with h|h;exact h;rw[List.getElem?_eq_none (by rw[dk];exact h)]at hq;cases hq)];exact hq
   refine cL (row.length/2) 32 zr zr zr zr zr zr zr zr ag ?_
   refine aT ?_
   refine kH (U:=aQ) (l':=pre++((gR row (row.length/2)).set (row.length/2) x).flatMap dC++bT) 0 gB zr zr zr zr zr zr zr ?_ ?_ rfl ?_
   ·show o+row.length/2*32+32≤_
    rw[List.length_append,List.length_append,abL];omega
   ·show _=List.take (o+row.length/2*32) (pre++(gR row (row.length/2)).flatMap dC++bT)++dC x++List.drop (o+row.length/2*32+(dC x).length) (pre++(gR row (row.length/2)).flatMap dC++bT)
    rw[← mQ,oL _ _ _ _ _ (by rw[dk,abL];omega),vo dk ag]
    rfl
   (refine go ?_;refine jl zr zr zr ag ?_;((refine au 55 ((.int .i64 (((row.length+1)/2:Nat):Int))) rfl ((congrArg (Value.int .i64) (by show((row.length:Int)+1)/2 ^ 1=_;omega))) ?_));refine bh (p:=0) (q:=(((row.length+1)/2:Nat):Int)) zr zr zr zr zr zr zr ag ag (.inr ag) ?_;((refine au 56 ((.slice (some ⟨b,o,none⟩) (dw (j+1) l0).length c1)) rfl ((iR ag (by rw[pK,m8]))) ?_));((refine aI (DS (W:=dw (j+1) l0) mQ hnc jz lA ((gR row (row.length/2)).set (row.length/2) x) (by rw[List.length_set];exact EF) (by rw[pK,m8];exact iK.symm) _) ?_));refine go ?_;refine aM ih (j+1,some ⟨b,o,none⟩,c1) rfl hI2 (by simp only;rw[pK,← Ag];omega) cg ah)
  ·intro abN
   have XY:row.length%2=0:=by rw[ug _ ag]at abN;omega
   have iK:=GK row XY
   (refine go ?_;refine jl zr zr zr ag ?_;((refine au 55 ((.int .i64 (((row.length+1)/2:Nat):Int))) rfl ((congrArg (Value.int .i64) (by show((row.length:Int)+1)/2 ^ 1=_;omega))) ?_));refine bh (p:=0) (q:=(((row.length+1)/2:Nat):Int)) zr zr zr zr zr zr zr ag ag (.inr ag) ?_;((refine au 56 ((.slice (some ⟨b,o,none⟩) (dw (j+1) l0).length c1)) rfl ((iR ag (by rw[pK,m8]))) ?_));((refine aI (DS (W:=dw (j+1) l0) mQ hnc jz lA (gR row (row.length/2)) EF (by rw[pK,m8];exact iK.symm) _) ?_));refine go ?_;refine aM ih (j+1,some ⟨b,o,none⟩,c1) rfl hI2 (by simp only;rw[pK,← Ag];omega) cg ah)
 ·intro abu
  have abt:(dw j l0).length≤1:=by omega
  refine go ?_
  refine kQ zr zr zr (hy j a1 c1 hI) ah ?_ mM
  rintro _ _⟨rfl,rfl⟩
  refine go ?_
  refine bW hE Tryz.func247 rfl _ rfl ⟨j,hI,abt,rfl⟩ ah
def PO(A:HP)(hK:oG A)(v:Value)(l0:List Dg)(hv:Vw A v l0.length (l0.flatMap dC))(OT:l0.length≤1000000)(bY:l0≠[]):aE Tryz.prog 208 [v] [A] (fun r H=>r=dV (rO l0)∧H=[A]):=by
 obtain⟨a,c,rfl⟩:=hv.shape
 have lu:0<l0.length:=List.length_pos_iff.2 bY
 refine aE.ao Tryz.func208 Tryz.ntmps208 fun G F R hE=>?_
 refine aD rfl ?_
 refine az zr zr zr bD ?_
 intro b2
 refine go ?_
 refine aq zr zr ?_ ?_
 ·intro h0;exfalso;omega
 intro _
 (refine aD rfl ?_;refine ld ?_)
 refine az zr zr zr bD ?_
 intro b3
 refine go ?_
 refine aH (Nn a l0.length c) ?_
 rintro _ _⟨bx,rfl,rfl⟩
 refine go ?_
 refine fL rfl ?_
 let rt:Nat→Dg:=fun j=>match j with|0=>Dg.zero|j+1=>((dw j l0).head?).getD Dg.zero
 refine ai (al.trans (al.pick [2,1] rfl) (al.bS [ae b2 (cl (dC Dg.zero) 35),ae b3 (cl (dC (rt 0)) 35)] _)) ?_
 refine qF (Fr:=F) (Pre:=fun _ _=>[Sep [ae b2 (cl (dC Dg.zero) 35),ae b3 (cl (dC (rt 0)) 35)],ae bx (cl [.slice a l0.length c] 42),A]) (fun _ _ Lp v H=>∃j,(∀i,i<j→1<(dw i l0).length)∧(dw j l0).length≤1∧H=[Lp .ready none,Sep [ae b2 (cl (dC Dg.zero) 35),ae b3 (cl (dC (rt (j+1))) 35)],A]) rfl hE.1.1 rfl ?c (fun l r=>ah) ?iK
 case c =>
  intro l r
  refine Kn A hK bx _ l0 hv OT l _ (fun j=>Sep [ae b2 (cl (dC Dg.zero) 35),ae b3 (cl (dC (rt j)) 35)]) ?_
  intro j va vc hI
  refine bX.Eg zr zr ?_
  intro G2 F2 R2 hY
  have Xz:=tA l0 lu j
  have hrt:rt (j+1)=((dw j l0).head?).getD Dg.zero:=rfl
  obtain⟨x,row,Ag⟩:∃x row,dw j l0=x::row:=by
   cases h:dw j l0 with
   | nil=>rw[h]at Xz;simp at Xz
   | cons x row=>exact⟨x,row,rfl⟩
  rw[Ag]at hrt Xz
  simp only[List.head?_cons,Option.getD_some]at hrt
  rw[Ag]at hY ⊢
  rw[hrt]at hY
  clear_value rt
  refine go ?_
  refine gn rfl hY ?_
  refine ai (al.trans (al.pick [1] rfl) (al.cD [_,_] _)) ?_
  refine dy 3 rfl ?_
  intro dE
  obtain⟨b,o,cc,pG⟩:=dE.some (by rw[List.flatMap_cons];intro h;simp[dC]at h)
  simp only[Value.slice.injEq,true_and]at pG
  obtain⟨rfl,rfl⟩:=pG
  refine go ?_
  refine cL 0 32 zr zr zr zr zr zr zr zr (by simp) ?_
  refine aK ?_
  refine dm (U:=aQ) (es:=dC x) 3 0 zr zr zr dE rfl (fun q v hq=>?_) zr zr zr ?_
  ·rw[Nat.zero_add,List.flatMap_cons,List.getElem?_append_left]
   ·exact hq
   ·exact(List.getElem?_eq_some_iff.1 hq).1
  refine aT ?_
  refine ct (U:=aQ) (l':=dC x) 1 gB rfl rfl rfl rfl (by intro e;cases e) (by rw[dG];exact gO _) rfl rfl rfl ?_
  refine go ?_
  refine ai (al.bS [_,_] _) ?_
  refine fK hY rfl ah ⟨rfl,rfl⟩
 rintro l r v H'⟨j,hI,hj,rfl⟩
 refine⟨_,_,_,rfl,by decide,?_⟩
 have Xz:=tA l0 lu j
 obtain⟨x,hx⟩:∃x,dw j l0=[x]:=by
  match h:dw j l0,Xz,hj with
  | [x],_,_=>exact⟨x,rfl⟩
 have yG:=DT bY hI hx
 have hrt:rt (j+1)=x:=by show((dw j l0).head?).getD Dg.zero=x;rw[hx];rfl
 rw[hrt,hE.1.2]
 rw[yG]at hE
 clear_value rt
 refine ai (al.cD [_,_] _) (go ?_)
 refine aG (U:=aQ) 1 zr zr zr zr zr zr ?_
 refine ct (U:=aQ) (l':=dC x) 0 gB rfl rfl rfl rfl (by intro e;cases e) (by rw[dG];exact gO _) rfl rfl rfl ?_
 refine go ?_
 (apply aU (U:=aQ) hE Tryz.func208 rfl ah;(repeat(first|exact aN.nil|apply aN.agg 0 zr zr zr zr zr));exact⟨rfl,rfl⟩;exact ah)
end Go.Proofs.YtedjnjkijiddlaaGreatDoor
namespace Go.Proofs.YtedjnjkijiddlaaGreatDoor
open Go Go.SL
def eL(x:Bl):Value := .agg (bH x).toArray
def Qe(g:FuncId)(cap:List Value)(ds:List Dg)(Pre Post:List HP):Prop :=
 ∀(l:Nat) (Lp:HP) (Inv:Nat→HP),(∀j d,ds[j]?=some d→bX Tryz.prog l [dV d] [Lp,Inv j] (fun v H=>v = .bool true∧H=[Lp,Inv (j+1)])) →
  aE Tryz.prog g (.func (.yield l) #[] #[]::cap) (Lp::Inv 0::Pre) (fun _ H=>H=Lp::Inv ds.length::Post)
def GI(bs:Nat)(ks:List Dg):HP:=fun h=>∃v:Value,True∧Sep [ae bs (cl [v] 42),aB 35 32 v ks.length (ks.flatMap dC)] h
def JY(bs:Nat)(ks:List Dg):∀h,GI bs ks h→∃v,True∧Sep [ae bs (cl [v] 42),aB 35 32 v ks.length (ks.flatMap dC)] h:=fun h hs=>hs
def FQ(bs:Nat)(ks:List Dg)(v:Value)(H:List HP):al (ae bs (cl [v] 42)::aB 35 32 v ks.length (ks.flatMap dC)::H) (GI bs ks::H) :=
 al.fold (A:=GI bs ks) (B:=[ae bs (cl [v] 42),aB 35 32 v ks.length (ks.flatMap dC)]) fun h hs=>⟨h,sub.refl h,v,trivial,hs⟩
attribute [local irreducible] J K aE Ends ae aB aP bP bq aS aZ bu bX Sha.chunks Sha.chunk Sha.rounds Sha.sched dK cm GI
def zU(g:FuncId)(cap:List Value)(ds:List Dg)(Pre Post:List HP)(hN:ds.length≤1000000)(hi:Qe g cap ds Pre Post) :
  aE Tryz.prog 244 [.slice none 0 0,.func (.func g) #[] cap.toArray] Pre (fun r H=>H=aB 35 32 r ds.length (ds.flatMap dC)::Post):=by
 refine aE.ao Tryz.func244 Tryz.ntmps244 fun G F R hE=>?_
 refine aD rfl ?_
 refine bG zr zr bD ?_
 intro bs
 refine go ?_
 refine fL rfl ?_
 refine ai (al.trans (al.cons _ (bN 35 32 none _)) (FQ bs [] (.slice none 0 0) _)) ?_
 refine xr (Fr:=F) (Pre:=fun _ _=>GI bs []::Pre) (Post:=?Po) rfl hE.1.1 rfl ?c (fun l r=>al.refl _) ?iK
 case c =>
  intro l r
  refine hi l _ (fun j=>GI bs (ds.take j)) ?_
  intro j k Be
  have wK:=(List.getElem?_eq_some_iff.1 Be).1
  have rF:(ds.take j).length=j:=by rw[List.length_take];omega
  have j8:ds.take (j+1)=ds.take j++[k]:=by rw[List.take_add_one,Be];rfl
  refine bX.Eg zr zr ?_
  intro G2 F2 R2 hY
  refine aD rfl ?_
  refine az zr zr zr bD ?_
  intro b5
  refine go ?_
  refine ai (al.pick [1] rfl) ?_
  refine gn rfl hY ?_
  refine ai (al.pick [2] rfl) ?_
  refine eG (JY bs (ds.take j)) ?_
  rintro v -
  refine dz 1 rfl ?_
  rintro va vc rfl
  refine go ?_
  refine aG (U:=aQ) 3 zr zr zr zr zr zr ?_
  refine aj (cs:=dC k) zr zr zr zr zr zr zr zr zr bD ?_
  intro row
  refine go ?_
  refine aR (mm:=1) (news:=dC k) 2 0 zr zr zr zr zr zr zr zr zr zr zr zr (Vw.ae rfl) rfl (by rw[dG];exact cX _) (by rw[rF];omega) (by show(_+1)*32≤_;rw[rF];omega) (fun _=>rfl) bD ?_
  intro v1
  rw[show(ds.take j).flatMap dC++dC k=(ds.take (j+1)).flatMap dC from by rw[j8];simp,show(ds.take j).length+1=(ds.take (j+1)).length from by rw[j8];simp]
  refine aO 2 rfl ?_
  rintro va2 vc2 rfl
  refine go ?_
  refine ai (al.trans ah (FQ bs (ds.take (j+1)) (.slice va2 (ds.take (j+1)).length vc2) _)) ?_
  refine fK hY rfl ah ⟨rfl,rfl⟩
 intro l r v H fG
 subst fG
 refine⟨_,_,_,rfl,by decide,?_⟩
 rw[hE.1.2,List.take_length]
 refine eG (JY bs ds) ?_
 rintro w -
 refine go ?_
 refine rz hE Tryz.func244 rfl _ zr zr ?_
 exact(al.drop _ _).trans (al.perm (((List.perm_middle (a:=ae r (.deferred (some []))) (l₁:=Post) (l₂:=F)).cons _).trans (List.Perm.swap _ _ _)))
def Dc(g:FuncId)(cap:List Value)(ds:List Dg)(Pre Post:List HP)(hN:ds.length≤1000000)(hi:Qe g cap ds Pre Post) :
  aE Tryz.prog 225 [.func (.func g) #[] cap.toArray] Pre (fun r H=>H=aB 35 32 r ds.length (ds.flatMap dC)::Post):=by
 refine aE.ao Tryz.func225 Tryz.ntmps225 fun G F R hE=>?_
 refine go ?_
 refine aH (zU g cap ds Pre Post hN hi) ?_
 rintro w _ rfl
 refine go ?_
 refine aL hE Tryz.func225 rfl _ zr zr ah
def Bt(s p:Int)(hs:1≤s∧s≤1048576)(hp:1≤p∧p≤16384):aE Tryz.prog 147 [.int .i64 s,.int .i64 p] [] (fun r H=>r = .int .i64 ((s+p-1)/p)∧H=[]):=by
 have h1:0≤(s+p-1)/p:=Int.ediv_nonneg ag ag
 have h2:(s+p-1)/p≤s+p-1:=Int.ediv_le_self _ ag
 refine aE.ao Tryz.func147 Tryz.ntmps147 fun G F R hE=>?_
 refine go ?_
 refine lj zr zr zr ag ag (by simp only[gq];omega) ?_
 refine go ?_
 refine ad hE Tryz.func147 zr zr ⟨rfl,rfl⟩
def oq(x:Bl):aE Tryz.prog 84 [eL x] [] (fun r H=>r = .bool (bz x)∧H=[]):=by
 have hF:¬(1≤x.size∧x.size≤1048576∧16≤x.piece∧x.piece≤16384)→Value.bool false = .bool (bz x):=fun h=>congrArg Value.bool (by unfold bz;rw[decide_eq_false (by rintro⟨a,b,c,e,_⟩;exact h ⟨a,b,c,e⟩)])
 have hT:(1≤x.size∧x.size≤1048576∧16≤x.piece∧x.piece≤16384)→Value.bool (decide ((x.size+x.piece-1)/x.piece≤1024)) = .bool (bz x):=fun h=>congrArg Value.bool (by unfold bz;rw[decide_eq_decide];exact⟨fun g=>⟨h.1,h.2.1,h.2.2.1,h.2.2.2,g⟩,fun g=>g.2.2.2.2⟩)
 unfold eL
 refine aE.ao Tryz.func84 Tryz.ntmps84 fun G F R hE=>?_
 refine aD rfl ?_
 refine bG zr zr bD ?_
 intro b1
 repeat'(first|(with_reducible intro pM)|refine gy ?_|refine ie zr zr zr zr ?_ ?_|(refine aH (Bt x.size x.piece ag ag) ?_;rintro _ _⟨rfl,rfl⟩))
 all_goals(first|((refine ad hE Tryz.func84 zr zr ⟨hF ag,rfl⟩))|((refine ad hE Tryz.func84 zr zr ⟨hT ag,rfl⟩)))
def vC(x:Bl):aE Tryz.prog 96 [eL x] [] (fun r H=>r = .int .i64 (bO x)∧H=[]):=by
 unfold eL
 refine aE.ao Tryz.func96 Tryz.ntmps96 fun G F R hE=>?_
 refine aD rfl ?_
 refine bG zr zr bD ?_
 intro b1
 refine go ?_
 refine aG (U:=aQ) 0 zr zr zr zr zr zr ?_
 refine aJ (oq x) ?_
 cases hr:bz x with
 | false =>
  have hc:bO x=0:=by unfold bO;rw[if_neg (by rw[hr];simp)]
  rw[hc]at hE
  refine go ?_
  refine ad hE Tryz.func96 zr zr ⟨rfl,rfl⟩
 | true =>
  have hc:bO x=(x.size+x.piece-1)/x.piece:=by unfold bO;rw[if_pos hr]
  rw[hc]at hE
  simp only[bz,decide_eq_true_eq]at hr
  refine go ?_
  refine aJ (Bt x.size x.piece ag ag) ?_
  refine go ?_
  refine ad hE Tryz.func96 zr zr ⟨rfl,rfl⟩
def lS(x:Bl):0≤bO x∧bO x≤1024:=by
 unfold bO
 split
 ·rename_i hr
  simp only[bz,decide_eq_true_eq]at hr
  exact⟨Int.ediv_nonneg ag ag,hr.2.2.2.2⟩
 ·omega
def wU{x:Bl}{i:Int}(h0:0≤i)(h1:i<bO x):bz x=true∧0≤i*x.piece∧i*x.piece<x.size:=by
 unfold bO at h1
 split at h1
 ·rename_i hr
  have Hm:=hr
  simp only[bz,decide_eq_true_eq]at hr
  refine⟨Hm,Int.mul_nonneg h0 ag,?_⟩
  have h2:(i+1)*x.piece≤x.size+x.piece-1:=by
   have:=(Int.le_ediv_iff_mul_le (a:=i+1) (b:=x.size+x.piece-1) (c:=x.piece) ag).1 ag
   exact this
  rw[Int.add_mul,Int.one_mul]at h2
  omega
 ·omega
def zB(x:Bl)(i:Int):aE Tryz.prog 97 [eL x,.int .i64 i] [] (fun r H=>r=(match cC x i with
  | none => .tuple #[.int .i64 0,.int .i64 0,.int .i64 1]
  | some (a,n) => .tuple #[.int .i64 a,.int .i64 n,.int .i64 0])∧H=[]):=by
 unfold eL
 refine aE.ao Tryz.func97 Tryz.ntmps97 fun G F R hE=>?_
 refine aD rfl ?_
 refine bG zr zr bD ?_
 intro b1
 have hN:(i<0∨bO x≤i)→cC x i=none:=fun h=>by unfold cC;rw[if_pos h]
 repeat'(first|(with_reducible intro pM)|refine gy ?_|refine ie zr zr zr zr ?_ ?_|refine aq zr zr ?_ ?_|refine aG (U:=aQ) 0 zr zr zr zr zr zr ?_|(refine aH (vC x) ?_;rintro _ _⟨rfl,rfl⟩))
 all_goals(first|(rw[hN ag]at hE;((refine ad hE Tryz.func97 zr zr ⟨rfl,rfl⟩)))|skip)
 have hs:cC x i=some (i*x.piece,min x.piece (x.size-i*x.piece)):=by unfold cC;rw[if_neg ag]
 rw[hs]at hE
 obtain⟨hr,zY,Tf⟩:=wU (x:=x) (i:=i) ag ag
 simp only[bz,decide_eq_true_eq]at hr
 obtain⟨q,hq⟩:∃q,q=i*x.piece:=⟨_,rfl⟩
 rw[← hq]at zY Tf hE
 refine aF (fun w=>Sat G w ([ae b1 (cl (bH x) 37)])) (cZ 0 17 .nil) rfl ak ak ak dT ?_
 (repeat(first|refine gy ?_|(refine lO ?_;refine ib zr zr zr (by rw[← hq];simp only[gq];omega) ?_;rw[← hq])))
 refine ad hE Tryz.func97 zr zr ⟨rfl,rfl⟩
def Mu(a:Option Addr)(n c:Nat)(k:Int)(hk:1≤k):aE Tryz.prog 246 [.slice a n c,.int .i64 k] [] (fun r H=>∃b1 b2,r = .func (.func 254) #[] #[ptr b1,ptr b2]∧H=[ae b1 (cl [.slice a n c] 22),ae b2 (cl [.int .i64 k] 3)]):=by
 refine aE.ao Tryz.func246 Tryz.ntmps246 fun G F R hE=>?_
 refine aD rfl ?_
 refine bG zr zr bD ?_
 intro b1
 refine bG zr zr bD ?_
 intro b2
 refine go ?_
 refine aq zr zr ?_ ?_
 ·intro h;exfalso;omega
 intro _
 refine go ?_
 refine ad hE Tryz.func246 zr zr ⟨b1,b2,rfl,rfl⟩
def Ix(A:HP)(b1 b2:Nat)(v:Value)(b:List UInt8)(hv:eM A v b)(hl:b.length≤1000000000)(k:Nat)(hk:1≤k)(sM:k≤1000000000)(l:Nat)(Lp:HP)(Inv:Nat→HP)(hy:∀j p rv,(gC k b.length b)[j]?=some p→eM A rv p→bX Tryz.prog l [rv] [Lp,Inv j,A] (fun r H=>r = .bool true∧H=[Lp,Inv (j+1),A])) :
  aE Tryz.prog 254 [.func (.yield l) #[] #[],ptr b1,ptr b2] [Lp,Inv 0,ae b1 (cl [v] 22),ae b2 (cl [.int .i64 (k:Int)] 3),A] (fun _ H=>H=[Lp,Inv (gC k b.length b).length,A]):=by
 obtain⟨a,c,rfl,hc⟩:=hv.2
 have hpg:=jF k hk b.length b
 have nV:=mX k hk b
 refine aE.ao Tryz.func254 Tryz.ntmps254 fun G F R hE=>?_
 refine go ?_
 refine bB (fun j:Nat=>j≤(b.length+k-1)/k) (fun j=>(b.length+k-1)/k-j)
  (fun j=>[(0,.func (.yield l) #[] #[]),(1,ptr b1),(2,ptr b2),(4,.int .i64 ((j*k:Nat):Int))])
  (fun j=>Lp::Inv j::ae b1 (cl [.slice a b.length c] 22)::ae b2 (cl [.int .i64 (k:Int)] 3)::A::F) 0 (Nat.zero_le _) rfl (by rw[Nat.zero_mul];exact cg) ah ?_
 rintro j hj ih
 have Be:j*k≤b.length+k-1:=by
  have:=(Nat.le_div_iff_mul_le hk).1 hj
  exact this
 refine go ?_
 refine aq zr zr ?_ ?_
 ·intro de
  have wH:j*k<b.length:=by omega
  have pO:j+1≤(b.length+k-1)/k:=by
   rw[Nat.le_div_iff_mul_le hk,Nat.add_mul,Nat.one_mul];omega
  have hp:=hpg j (Nat.le_refl _)
  rw[if_pos wH]at hp
  obtain⟨p,Ta⟩:∃p,p=(b.drop (j*k)).take k:=⟨_,rfl⟩
  rw[← Ta]at hp
  have yI:p.length=min k (b.length-j*k):=by rw[Ta,List.length_take,List.length_drop]
  obtain⟨jk,abA⟩:∃jk,jk=j*k:=⟨_,rfl⟩
  rw[← abA]at wH Ta yI Be ⊢
  refine go ?_
  refine aF (fun w=>Sat G w ([ae b1 (cl [.slice a b.length c] 22),ae b2 (cl [.int .i64 (k:Int)] 3)])) (cZ 0 7 .nil) rfl ak ak ak dT ?_
  refine go ?_
  refine bh (p:=((jk:Nat):Int)) (q:=(b.length:Int)) zr zr zr zr zr zr zr ag ag (.inl rfl) (go ?_)
  have K8:(jk:Int)+min (k:Int) (((((b.length:Int)).toNat-((jk:Nat):Int).toNat:Nat)):Int)=((jk+p.length:Nat):Int):=by rw[yI];omega
  refine Mg (U:=aQ) zr zr zr zr zr zr zr zr ag ag ag ag ?_
  have Jo:=hv.piece jk (jk+p.length) ag ag
  rw[show jk+p.length-jk=p.length from by omega]at Jo
  have XA:(b.drop jk).take p.length=p:=by
   rw[yI,Ta,List.take_eq_take_iff,List.length_drop];omega
  rw[XA]at Jo
  have ad6:eM A (.slice (sliceAt a (jk+p.length) jk 1) p.length p.length) p:=by
   obtain⟨mf,a2,c2,Al,mT⟩:=Jo
   refine⟨?_,_,_,rfl,Nat.le_refl _⟩
   obtain⟨a3,c3,Tq,iL⟩:=mf
   simp only[Value.slice.injEq,true_and]at Tq
   have e:sliceAt a (jk+p.length) jk 1=sliceAt a c jk 1:=by
    unfold sliceAt
    rw[if_neg ag,if_neg ag]
   rw[e]
   exact⟨_,_,rfl,by rw[Tq.1];exact iL⟩
  refine au 28 (.slice (sliceAt a (jk+p.length) jk 1) p.length p.length) rfl (by rw[K8,Int.toNat_natCast,Int.toNat_natCast,show jk+p.length-jk=p.length from by omega];rfl) ?_
  refine go ?_
  refine kQ zr zr zr (hy j p _ hp ad6) ah ?_ mM
  rintro _ _⟨rfl,rfl⟩
  refine go ?_
  ((refine aX 4 ((.int .i64 (((j+1)*k:Nat):Int))) rfl ((congrArg (Value.int .i64) (by rw[Nat.add_mul,Nat.one_mul,← abA];omega))) ?_))
  refine aM ih (j+1) rfl pO ag cg ah
 intro fA
 have OX:j=(b.length+k-1)/k:=by
  rcases Nat.lt_or_ge j ((b.length+k-1)/k)with h|h
  ·exfalso
   have h2:=(Nat.le_div_iff_mul_le (x:=j+1) hk).1 h
   rw[Nat.add_mul,Nat.one_mul]at h2
   omega
  ·omega
 refine go ?_
 rw[nV,← OX]at hE
 refine bW hE Tryz.func254 rfl _ zr zr ah
end Go.Proofs.YtedjnjkijiddlaaGreatDoor
namespace Go.SL
open Go
section
variable{P:Program}
def wY{t e:TypeId}(hu:P.underlying t=some (.array 32 e))(hc:P.cellsOf t=32)(xs:List Value)(off:Nat)(d:Dg)(h:(xs.drop off).take 32=dC d)(w:World):(part t xs.toArray off).run P w = .ok (dV d) w:=by
 obtain⟨i,hi⟩:=info_of_underlying hu
 have hs:=Go.run_sizeOf w hi
 rw[hc]at hs
 simp only[part,isAgg,Sem.run_bind,Go.run_underlying hu,Result.andThen_ok,Sem.run_pure,if_true,hs]
 have:xs.toArray.extract off (off+32)=(dC d).toArray:=by
  apply Array.ext'
  rw[← h]
  simp
 rw[this]
 rfl
def Kl{t:TypeId}(hu:P.underlying t=some (.int .i64))(a b:Int)(D:Nat)(w:World):(Op.equalIn (D+1) t (.int .i64 a) (.int .i64 b)).run P w = .ok (decide (a=b)) w:=by
 simp only[Op.equalIn,Sem.run_bind,Go.run_underlying hu,Result.andThen_ok,if_true,Sem.run_pure]
 rfl
def zZ{td ti:TypeId}{f1 f2 f3 f4:Field}(n1:f1.name ≠ "_")(n2:f2.name ≠ "_")(n3:f3.name ≠ "_")(n4:f4.name ≠ "_")(E:Nat)(w:World)(c1 c2:List Value)(d1 d2 r1 r2:Dg)(s1 s2 p1 p2:Int)(eD:∀a b:Dg,(Op.equalIn E td (dV a) (dV b)).run P w = .ok (decide (a=b)) w)(eI:∀a b:Int,(Op.equalIn E ti (.int .i64 a) (.int .i64 b)).run P w = .ok (decide (a=b)) w)(t1:f1.type=td)(t2:f2.type=ti)(t3:f3.type=ti)(t4:f4.type=td)(p01:(part td c1.toArray f1.offset).run P w = .ok (dV d1) w)(p02:(part td c2.toArray f1.offset).run P w = .ok (dV d2) w)(p11:(part ti c1.toArray f2.offset).run P w = .ok (.int .i64 s1) w)(p12:(part ti c2.toArray f2.offset).run P w = .ok (.int .i64 s2) w)(p21:(part ti c1.toArray f3.offset).run P w = .ok (.int .i64 p1) w)(p22:(part ti c2.toArray f3.offset).run P w = .ok (.int .i64 p2) w)(p31:(part td c1.toArray f4.offset).run P w = .ok (dV r1) w)(p32:(part td c2.toArray f4.offset).run P w = .ok (dV r2) w) :
  (Op.eqFields E c1.toArray c2.toArray [f1,f2,f3,f4]).run P w = .ok (decide (d1=d2∧s1=s2∧p1=p2∧r1=r2)) w:=by
 by_cases h1:d1=d2
 ·by_cases h2:s1=s2
  ·by_cases h3:p1=p2
   ·simp[Op.eqFields,n1,n2,n3,n4,t1,t2,t3,t4,p01,p02,p11,p12,p21,p22,p31,p32,eD,eI,h1,h2,h3]
    by_cases h4:r1=r2 <;> simp[h4]
   ·simp[Op.eqFields,n1,n2,n3,n4,t1,t2,t3,t4,p01,p02,p11,p12,p21,p22,p31,p32,eD,eI,h1,h2,h3]
  ·simp[Op.eqFields,n1,n2,n3,n4,t1,t2,t3,t4,p01,p02,p11,p12,p21,p22,p31,p32,eD,eI,h1,h2]
 ·simp[Op.eqFields,n1,n2,n3,n4,t1,t2,t3,t4,p01,p02,p11,p12,p21,p22,p31,p32,eD,eI,h1]
end
end Go.SL
