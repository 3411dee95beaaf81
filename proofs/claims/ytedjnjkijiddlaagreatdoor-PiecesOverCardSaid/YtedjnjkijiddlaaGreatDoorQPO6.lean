import Derived.Test.YtedjnjkijiddlaaGreatDoorQPO2
import Derived.Test.YtedjnjkijiddlaaGreatDoorQPO3
import Derived.Test.YtedjnjkijiddlaaGreatDoorQPO4
import Derived.Test.YtedjnjkijiddlaaGreatDoorQPO5
import Derived.WideKeyRuns
set_option linter.unusedSectionVars false
set_option linter.unusedSimpArgs false
set_option linter.unusedVariables false
namespace Go.SL
open Go
theorem fh(l:List je):ix (wV l)=true:=by
 induction l with
 | nil=>rfl
 | cons x l ih =>
  show(Value.oneCell' (u32 x) && ix (wV l))=true
  rw[ih];rfl
section
variable{P:Program}{U:Tr}[hU:fT P U]{f:FuncId}{n:Nat}{R:Ending→World→Prop}{G:cC}{k:List Item}{L:fC}{H H':List HP}{S:World→Prop}{all:Array Oper}{rest:Pl}{ty:TypeId}{pos:String}{af:Array Edge}{gd:Option (Nat × Bool)}{m:Bool}{d:Tmp}
theorem X0{t:TypeId}{x:Operand}{j:IntKind}{p:Int}(hd:Nat.blt d n=true)(hx:ev L x=some (.int j p))(hr:gg j (-p))(h:J P f n R G S all rest k ((d,.int j (-p))::L) H):J P f n R G S all (.cons m true ⟨some d,.unOp .neg t x,ty,pos,af,gd⟩ rest) k L H :=
 dk hd (fun a ha w=>by
  have e:j.wrap (0-p) = -p:=by rw[Int.zero_sub];exact cK hr
  simp only[execOp,ha.ev hx,Sem.run_bind,Result.andThen_ok,Op.unary,Op.intArith]
  simp
  simpa using e) h
theorem aH{t:TypeId}{x:Operand}{b:Nat}{bM:Ty}{l:List Value}{e:TypeId}(i:Nat)(hd:Nat.blt d n=true)(hx:ev L x=some (.pointer (some ⟨b,0,none⟩)))(hi:cq H i=some (ag b (cl l e)))(ht:U.get t=some bM)(hg:bM.isAgg=true)(hl:l.length=bM.info.size)(h:J P f n R G S all rest k ((d,.agg l.toArray)::L) H):J P f n R G S all (.cons false true ⟨some d,.load t x,ty,pos,af,gd⟩ rest) k L H :=
 zf (U:=U) hd hx ht hg (by rw[hl];exact Nat.beq_refl _) (fun w hw j v hj=>by rw[dy (hw.tD hi),Nat.zero_add];exact hj) h
theorem bL{Hs:List HP}{t:TypeId}{x:Operand}{b:Nat}{bM:Ty}{l:List Value}{e:TypeId}(i:Nat)(hd:Nat.blt d n=true)(hx:ev L x=some (.pointer (some ⟨b,0,none⟩)))(hi:cq Hs i=some (ag b (cl l e)))(ht:U.get t=some bM)(hg:bM.isAgg=true)(hl:l.length=bM.info.size)(h:J P f n R G (fun w=>Sat G w Hs) all rest k ((d,.agg l.toArray)::L) H):J P f n R G (fun w=>Sat G w Hs) all (.cons true true ⟨some d,.load t x,ty,pos,af,gd⟩ rest) k L H :=
 lr hd (fun a w ha hw=>by
  have hw:Sat G w Hs:=hw
  simp[execOp,ha.ev hx,im (P:=P) ht hg hl (fun j v hj=>by rw[dy (hw.tD hi),Nat.zero_add];exact hj)]) h
theorem cD{t:TypeId}{x y:Operand}{b:Nat}{bM:Ty}{l l':List Value}{e:TypeId}(i:Nat)(hS:∀w,Sat G w H'→Sx rest S w)(hx:ev L x=some (.pointer (some ⟨b,0,none⟩)))(hy:ev L y=some (.agg l'.toArray))(ht:U.get t=some bM)(ir:l'.length=bM.info.size)(bT:l'≠[])(gu:ix l'=true)(hi:cq H i=some (ag b (cl l e)))(hll:l.length=l'.length)(hp:lh i (ag b (cl l' e)) H [] = .mk H')(h:J P f n R G S all rest k L H'):J P f n R G S all (.cons false true ⟨none,.store t x y,ty,pos,af,gd⟩ rest) k L H:=by
 have hc:aX (.agg l'.toArray)=l':=by simp[aX]
 refine kr (U:=U) (l':=l') i hS hx hy ht (by rw[hc,ir];exact Nat.beq_refl _) (by rw[hc];cases l' with|nil=>exact absurd rfl bT|cons _ _=>rfl) (by rw[hc];exact gu) hi (by rw[hc];omega) (by rw[hc];simp[hll]) hp h
theorem gH{t:TypeId}{x y:Operand}{b off:Nat}{bM:Ty}{l:List Value}{u:Value}{e:TypeId}(i:Nat)(hS:∀w,Sat G w H'→Sx rest S w)(hx:ev L x=some (.pointer (some ⟨b,off,none⟩)))(hy:ev L y=some u)(ht:U.get t=some bM)(ir:Nat.beq bM.info.size 1=true)(hc:aX u=[u])(gu:ix [u]=true)(hi:cq H i=some (ag b (cl l e)))(hq:off<l.length)(hp:lh i (ag b (cl (l.set off u) e)) H [] = .mk H')(h:J P f n R G S all rest k L H'):J P f n R G S all (.cons false true ⟨none,.store t x y,ty,pos,af,gd⟩ rest) k L H:=by
 refine kr (U:=U) (l':=l.set off u) i hS hx hy ht (by rw[hc,Nat.eq_of_beq_eq_true ir];rfl) (by rw[hc];rfl) (by rw[hc];exact gu) hi (by rw[hc];simp;omega) ?_ hp h
 rw[hc,List.set_eq_take_append_cons_drop,if_pos hq]
 simp
theorem ed{t elem:TypeId}{bM te:Ty}{x y:Operand}{j:IntKind}{b o len:Nat}{p:Int}(q:Nat)(hd:Nat.blt d n=true)(ht:U.get t=some bM)(hu:bM.gC = .array len elem)(he:U.get elem=some te)(hs:Nat.beq te.info.size 1=true)(hx:ev L x=some (.pointer (some ⟨b,o,none⟩)))(hy:ev L y=some (.int j p))(hq:p=(q:Int))(cW:q<len)(h:J P f n R G S all rest k ((d,.pointer (some ⟨b,o+q,none⟩))::L) H):J P f n R G S all (.cons m true ⟨some d,.indexAddr t x y,ty,pos,af,gd⟩ rest) k L H:=by
 subst hq
 refine zg hd ht hu he hx hy ah ah ?_
 rw[Nat.eq_of_beq_eq_true hs,Int.toNat_natCast,Nat.mul_one]
 exact h
theorem mj{t:TypeId}{x:Operand}{b off:Nat}{bM:Ty}{l:List Value}{e:TypeId}{v:Value}(i q:Nat)(hd:Nat.blt d n=true)(hx:ev L x=some (.pointer (some ⟨b,off,none⟩)))(hi:cq H i=some (ag b (cl l e)))(hq:off=q)(hv:l[q]?=some v)(ht:U.get t=some bM)(hg:bM.isAgg=false)(h:J P f n R G S all rest k ((d,v)::L) H):J P f n R G S all (.cons false true ⟨some d,.load t x,ty,pos,af,gd⟩ rest) k L H:=by
 subst hq
 exact eS (U:=U) i hd hx hi (by rw[dA];exact hv) ht hg h
theorem eF{Hs:List HP}{t:TypeId}{x:Operand}{b off:Nat}{bM:Ty}{l:List Value}{e:TypeId}{v:Value}(i q:Nat)(hd:Nat.blt d n=true)(hx:ev L x=some (.pointer (some ⟨b,off,none⟩)))(hi:cq Hs i=some (ag b (cl l e)))(hq:off=q)(hv:l[q]?=some v)(ht:U.get t=some bM)(hg:bM.isAgg=false)(h:J P f n R G (fun w=>Sat G w Hs) all rest k ((d,v)::L) H):J P f n R G (fun w=>Sat G w Hs) all (.cons true true ⟨some d,.load t x,ty,pos,af,gd⟩ rest) k L H:=by
 subst hq
 exact hD (U:=U) i hd hx hi (by rw[dA];exact hv) ht hg h
theorem mo{t e:TypeId}{bM te:Ty}{nn:Nat}{z:Array Value}{parts:Array (Nat × Operand)}{cs:List Value}(hd:Nat.blt d n=true)(ht:U.get t=some bM)(hu:bM.gC = .array nn e)(he:U.get e=some te)(hz:bM.info.zero=some (.agg z))(hb:uW L te.info.size z.toList parts.toList = .mk cs)(h:J P f n R G S all rest k ((d,.agg cs.toArray)::L) H):J P f n R G S all (.cons m true ⟨some d,.build t parts,ty,pos,af,gd⟩ rest) k L H:=by
 have iH:∀a w,Has n L a→(execOp a.eval ⟨some d,.build t parts,ty,pos,af,gd⟩).run P w = .ok (.value (.agg cs.toArray)) w:=fun a w ha=>by
  have hf:=vE ha te.info.size parts.toList z.toList cs hb
  rw[Array.toArray_toList]at hf
  simp only[execOp,Instr.build,Sem.run_bind,dN ht hz,run_underlying ht,Result.andThen_ok,hu,run_sizeOf he,Value.cells,Array.toList_map,hf,Sem.run_pure]
 cases m with
 | false=>exact ku hd (fun a w ha _=>iH a w ha) h
 | true=>exact lr hd (fun a w ha _=>iH a w ha) h
end
end Go.SL
namespace Go.SL
open Go
theorem Pg{P:Program}{f:FuncId}{n:Nat}{R:Ending→World→Prop}{G:cC}{ds:List Nat}{k k0:List Item}{L:fC}{H H':List HP}{fn:Func}{F:List HP}{Post:Value→List HP→Prop}{v:Value}{Hq:List HP}(hR:Ends R G F Post)(hf:P.funcs[f]?=some fn)(hk:iy 1000 k0 = .mk (.code .ret::k))(he:ao H (ds.map (fun r=>ag r (.deferred (some [])))++H'))(GS:∀a w,Has n L a→Sat { G with ds:=ds } w H'→(results fn a.tmps).run P w = .ok v w)(fp:Post v Hq)(zM:ao H' (Hq++F)):K P f n R { G with ds:=ds } k0 L H:=by
 refine gA 1000 hk ?_
 intro a w ha hw cs
 have NT:({ G with ds:=ds }:cC).ro=none:=hR.1.1
 rw[NT]
 obtain⟨w',mu,hs⟩:=pO (P:=P) ds { bf none f a (.code .ret::k)with mode := .returning } cs w rfl ha.2 ⟨H',hw.cy he,rfl⟩
 exact⟨_,w',_,hR.2 _ _ w' fp (by have:=mu.cy zM;exact this),Steps.trans (.one (stepR_ret rfl)) hs,rfl,rfl,rfl,rfl,fn,hf,GS a w' ha.1 mu⟩
theorem xB{P:Program}{U:Tr}[hU:fT P U]{n:Nat}{L:fC}{a:Act}{p b:Nat}{t e:TypeId}{bM:Ty}{u:Value}{G:cC}{w:World}{H:List HP}(i:Nat)(ha:Has n L a)(hw:Sat G w H)(hp:dX L p=some (.pointer (some ⟨b,0,none⟩)))(ht:U.get t=some bM)(hg:bM.isAgg=false)(hi:cq H i=some (ag b (cl [u] e))):(Bz a.tmps (.cell p t)).run P w = .ok u w:=by
 have hc:w.cell? ⟨b,0,none⟩=some u:=by rw[dy (hw.tD hi)];rfl
 have N8:=ov (P:=P) (w:=w) ht hg hc
 have g1:a.tmps.getD p undef = .pointer (some ⟨b,0,none⟩):=by simp[Array.getD_eq_getD_getElem?,ha.2.2 p _ hp]
 simp only[Bz,g1,asAddr,Sem.run_bind,Sem.run_pure,Result.andThen_ok]
 simpa[Instr.loadAt,Instr.sureAddr]using N8
theorem sB{P:Program}{U:Tr}[hU:fT P U]{f:FuncId}{n:Nat}{R:Ending→World→Prop}{G:cC}{ds:List Nat}{k k0:List Item}{L:fC}{H H':List HP}{fn:Func}{F:List HP}{Post:Value→List HP→Prop}{p q b1 b2:Nat}{t1 t2 e1 e2:TypeId}{ty1 ty2:Ty}{u1 u2:Value}{Hq:List HP}(i j:Nat)(hR:Ends R G F Post)(hf:P.funcs[f]?=some fn)(hk:iy 1000 k0 = .mk (.code .ret::k))(wu:fn.results.toList=[.cell p t1,.cell q t2])(hp:dX L p=some (.pointer (some ⟨b1,0,none⟩)))(hq:dX L q=some (.pointer (some ⟨b2,0,none⟩)))(Ku:U.get t1=some ty1)(zL:ty1.isAgg=false)(Ya:U.get t2=some ty2)(Ee:ty2.isAgg=false)(he:ao H (ds.map (fun r=>ag r (.deferred (some [])))++H'))(hi:cq H' i=some (ag b1 (cl [u1] e1)))(hj:cq H' j=some (ag b2 (cl [u2] e2)))(fp:Post (.tuple #[u1,u2]) Hq)(zM:ao H' (Hq++F)):K P f n R { G with ds:=ds } k0 L H:=by
 refine Pg hR hf hk he (fun a w ha hw=>?_) fp zM
 have h1:=xB (P:=P) i ha hw hp Ku zL hi
 have h2:=xB (P:=P) j ha hw hq Ya Ee hj
 rw[oy,Array.mapM_eq_mapM_toList,wu]
 simp only[Sem.run_bind,Sem.run_map,List.mapM_cons,List.mapM_nil,h1,h2,Sem.run_pure,Result.andThen_ok]
 simp
theorem aS{P:Program}{f:FuncId}{n:Nat}{R:Ending→World→Prop}{G:cC}{k:List Item}{L:fC}{H F:List HP}{Post:Value→List HP→Prop}(hE:Ends R G F Post)(h:K P f n R { G with ds:=[] } k L H):K P f n R G k L H:=by
 have:({ G with ds:=[] }:cC)=G:=by have:=hE.1.2;cases G;simp_all
 rw[this]at h
 exact h
theorem qm{P:Program}{f:FuncId}{n:Nat}{R:Ending→World→Prop}{G:cC}{k:List Item}{L:fC}{H:List HP}{ps:Array Tmp}{assign body:Code}{k0:List Item}{g:Operand}{gid:FuncId}{cap:Array Value}{Pre:Nat→Nat→List HP}{Fr:List HP}(Post:Nat→Nat→(LoopState→Option Code→HP)→Value→List HP→Prop)(hk:iy 1000 k0 = .mk (.code (.rangeFunc g ps assign body)::k))(NT:G.ro=none)(hg:ev L g=some (.func (.func gid) #[] cap))(c:∀l r,aD P gid (.func (.yield l) #[] #[]::cap.toList) (bh l .ready none f n L ps assign body r::Pre l r) (Post l r (fun st pd=>bh l st pd f n L ps assign body r)))(he:∀l r,ao H (Pre l r++Fr))(hG:∀l r v H',Post l r (fun st pd=>bh l st pd f n L ps assign body r) v H'→∃st pd X5,H'=bh l st pd f n L ps assign body r::X5∧st ≠ .busy ∧
   K P f n R { G with ds:=r::G.ds } ((pd.map Item.code).toList++k) L (X5++(ag r (.deferred (some []))::Fr))):K P f n R G k0 L H :=
 wD hk NT hg c he hG
theorem dB{P:Program}{f:FuncId}{n:Nat}{R:Ending→World→Prop}{G:cC}{k:List Item}{L:fC}{H:List HP}{e:TypeId}{sz nn:Nat}{v:Value}{cs:List Value}(i:Nat)(hi:cq H i=some (aB e sz v nn cs))(h:Vw (aB e sz v nn cs) v nn cs→K P f n R G k L H):K P f n R G k L H :=
 rN fun⟨w,hw⟩=>by
  obtain⟨h1,_,hA⟩:=hw.kQ hi
  exact h (Vw.oD e sz v nn cs ⟨h1,hA⟩)
theorem H8{e:TypeId}{sz nn c:Nat}{a:Option Addr}{cs:List Value}{h:Hp}(hs:aB e sz (.slice a nn c) nn cs h):nn≤c:=by
 obtain⟨_,⟨a',hv,hn,_⟩|⟨b,o,cap,pre,bQ,hv,hp,hn,hc,_⟩⟩:=hs
 ·omega
 ·simp only[Value.slice.injEq]at hv;omega
theorem RI{P:Program}{f:FuncId}{n:Nat}{R:Ending→World→Prop}{G:cC}{k:List Item}{L:fC}{H:List HP}{S:World→Prop}{all:Array Oper}{rest:Pl}{e:TypeId}{sz nn c:Nat}{a:Option Addr}{cs:List Value}(i:Nat)(hi:cq H i=some (aB e sz (.slice a nn c) nn cs))(h:Vw (aB e sz (.slice a nn c) nn cs) (.slice a nn c) nn cs→nn≤c→J P f n R G S all rest k L H):J P f n R G S all rest k L H :=
 ze fun w hw=>by
  obtain⟨h1,_,hA⟩:=hw.kQ hi
  exact h (Vw.oD e sz _ nn cs ⟨h1,hA⟩) (H8 hA)
theorem JR{P:Program}{U:Tr}[hU:fT P U]{n:Nat}{G:cC}{L:fC}{H:List HP}{fn:Func}{p b:Nat}{t e:TypeId}{bM:Ty}{cs:List Value}{a:Act}{w:World}(i:Nat)(ha:sE G n L a)(hw:Sat G w H)(wu:fn.results.toList=[.cell p t])(hp:dX L p=some (.pointer (some ⟨b,0,none⟩)))(ht:U.get t=some bM)(hg:bM.isAgg=true)(hl:cs.length=bM.info.size)(hi:cq H i=some (ag b (cl cs e))):(results fn a.tmps).run P w = .ok (.agg cs.toArray) w:=by
 have hc:∀j v,cs[j]?=some v→w.cell? ⟨b,0+j,none⟩=some v:=fun j v hj=>by rw[dy (hw.tD hi),Nat.zero_add];exact hj
 have N8:=im (P:=P) (w:=w) ht hg hl hc
 have WV:(loadVar t ⟨b,0,none⟩).run P w = .ok (.agg cs.toArray) w:=by simpa[Instr.loadAt,Instr.sureAddr]using N8
 have g1:a.tmps.getD p undef = .pointer (some ⟨b,0,none⟩):=by simp[Array.getD_eq_getD_getElem?,ha.get hp]
 rw[oy,Array.mapM_eq_mapM_toList,wu]
 simp only[Sem.run_bind,Sem.run_map,List.mapM_cons,List.mapM_nil,Bz,g1,asAddr,Sem.run_pure,Result.andThen_ok,WV]
 simp
theorem jq{P:Program}{U:Tr}[hU:fT P U]{f:FuncId}{n:Nat}{R:Ending→World→Prop}{G:cC}{k k0:List Item}{L:fC}{H:List HP}{fn:Func}{F:List HP}{Post:Value→List HP→Prop}{p b:Nat}{t e:TypeId}{bM:Ty}{cs:List Value}(i:Nat)(hR:Ends R G F Post)(hf:P.funcs[f]?=some fn)(hk:iy 1000 k0 = .mk (.code .ret::k))(wu:fn.results.toList=[.cell p t])(hp:dX L p=some (.pointer (some ⟨b,0,none⟩)))(ht:U.get t=some bM)(hg:bM.isAgg=true)(hl:cs.length=bM.info.size)(hi:cq H i=some (ag b (cl cs e))){Hq:List HP}(fp:Post (.agg cs.toArray) Hq)(he:ao H (Hq++F)):K P f n R G k0 L H:=by
 refine gA 1000 hk ?_
 intro a w ha hw j6
 have iH:=JR (P:=P) i ha hw wu hp ht hg hl hi
 rw[hR.1.1]
 exact⟨_,w,_,hR.2 _ _ w fp (hw.cy he),.one (stepR_ret rfl),rfl,rfl,by show a.defers=[];rw[ha.2,hR.1.2];rfl,rfl,fn,hf,iH⟩
end Go.SL
namespace Go.Proofs.YtedjnjkijiddlaaGreatDoor
open Go Go.SL
attribute [local irreducible] J K aD Ends ag aB aM bN aZ aP aV bh bW
theorem MK(n:Nat)(h1:1≤n)(h2:n≤31):IntKind.u64.wrap ((BitVec.ofInt IntKind.u64.bits (IntKind.u64.wrap (-(n:Int))) &&& BitVec.ofInt IntKind.u64.bits 31).toNat:Int)=((32-n:Nat):Int):=by
 have:∀n:Nat,n<32→1≤n→IntKind.u64.wrap ((BitVec.ofInt 64 (IntKind.u64.wrap (-(n:Int))) &&& BitVec.ofInt 64 31).toNat:Int)=((32-n:Nat):Int):=by decide
 exact this n ah h1
theorem uY(x:je)(n:Nat)(h1:1≤n)(h2:n≤31):aD Tryz.prog 239 [u32 x,.int .i64 (-(n:Int))] [] (fun r H=>r=u32 (Sha.ug x n)∧H=[]):=by
 unfold u32
 refine aD.enter Tryz.func239 ak rfl Tryz.ntmps239 zr zr ?_
 intro G F R hE
 refine go ?_
 refine eG ?_
 refine iN zr zr zr zr zr zr ?_
 (refine rG ?_)
 ((refine bB 5 ((.int .u64 ((32-n:Nat):Int))) rfl ((congrArg (Value.int .u64) (MK n h1 h2))) ?_))
 refine go ?_
 refine HK (32-n) zr zr zr zr ah ?_
 (repeat(first|refine gO ?_|refine qo n zr zr zr ah ah ?_|refine Fb zr zr zr ?_))
 ((refine ae hE Tryz.func239 rfl _ rfl ⟨rfl,rfl⟩ ad))
theorem iT(x:je)(n:Nat)(h1:1≤n)(h2:n≤31):aD Tryz.prog 215 [u32 x,.int .i64 (n:Int)] [] (fun r H=>r=u32 (Sha.ug x n)∧H=[]):=by
 refine aD.enter Tryz.func215 ak rfl Tryz.ntmps215 zr zr ?_
 intro G F R hE
 refine go ?_
 refine X0 zr zr (by simp only[gg];omega) ?_
 ((refine ai zr zr zr zr (uY x n h1 h2) ad ?_ bG))
 rintro _ _⟨rfl,rfl⟩
 refine go ?_
 ((refine ae hE Tryz.func215 rfl _ rfl ⟨rfl,rfl⟩ ad))
set_option maxRecDepth 20000 in
theorem F7(A:HP)(v:Value)(b:List UInt8)(hv:eJ A v b)(Et:64≤b.length) :
  aD Tryz.prog 214 [v] [A] (fun r H=>r = .agg (wV (Sha.sched b 64)).toArray∧H=[A]):=by
 obtain⟨a,c,rfl,hc⟩:=hv.2
 have hf:=hv.front 64 Et
 refine aD.enter Tryz.func214 ak rfl Tryz.ntmps214 zr zr ?_
 intro G F R hE
 refine aE rfl ?_
 refine aw zr zr zr bz ?_
 intro b2
 (refine rG ?_)
 (refine aE rfl ?_;refine rG ?_)
 refine aw zr zr zr bz ?_
 intro b3
 refine go ?_
 refine bj (p:=0) (q:=64) zr zr zr zr zr zr zr ah ah (.inr ah) ?_
 ((refine az 10 ((.slice (sliceAt a c 0 1) 64 c)) rfl (rfl) ?_))
 refine go ?_
 refine bu (fun i:Nat=>i≤64) (fun i=>64-i)
  (fun i=>[(2,ptr b2),(3,ptr b3),(10,.slice (sliceAt a c 0 1) 64 c),(11,.int .i64 64),(12,.int .i64 (i:Int))])
  (fun i=>ag b3 (cl (wV (Sha.mS b i)) 196)::ag b2 (cl (wV (List.replicate 64 0)) 196)::A::F) 0 (Nat.zero_le _) rfl cu (by rw[Sha.G7];exact ad) ?_
 rintro i hi ih
 refine go ?_
 refine au zr zr ?_ ?_
 ·intro cW
  have Sf:i<64:=by omega
  obtain⟨x,hx⟩:∃x,b[i]?=some x:=⟨b[i]' ah,by simp⟩
  have hxd:b.getD i 0=x:=by rw[List.getD_eq_getElem?_getD,hx];rfl
  have sg:(bV (b.take 64))[i]?=some (u8 x):=by
   refine oU ?_
   rw[List.getElem?_take,if_pos Sf,hx]
  obtain⟨bb,oo,cc,gb⟩:=hf.1.some (by intro e;rw[e]at sg;simp at sg)
  simp only[Value.slice.injEq,true_and]at gb
  obtain⟨gb,-,rfl⟩:=gb
  have hlen:(b.take 64).length=64:=by rw[List.length_take];omega
  have hf2:=hf.1
  rw[gb,hlen]at hf2
  rw[gb]
  refine go ?_
  refine bK i zr zr zr zr zr zr zr zr Sf ?_
  refine aK ?_
  refine bg 2 i zr zr zr hf2 rfl sg zr zr ?_
  refine go ?_
  refine aF (fun w=>Sat G w ([ag b3 (cl (wV (Sha.mS b i)) 196)])) (.st 0 (.st 1 (.st 2 (.st 3 (.st 4 (.st 5 (.st 6 (.st 7 (.st 8 (.st 9 (.st 10 (.st 11 (.st 12 (.act 13 .nil)))))))))))))) rfl ak ak ak ei ?_
  refine go ?_
  have hg:=Sha.lD b i (i/4) ah
  have hq:(i:Int)/4=((i/4:Nat):Int):=by omega
  have hr:24-8*((i:Int)%4)=((24-8*(i%4):Nat):Int):=by omega
  have adN:(wV (Sha.mS b i)).length=64:=by rw[kW,Sha.kp]
  (repeat(first|refine gO ?_|refine nZ zr zr zr ah ah (by simp only[gg];omega) ?_|refine o8 zr zr zr ah ah ?_|refine gT zr zr zr (by simp only[gg];omega) ?_|refine ed (U:=aN) (i/4) zr zr zr zr zr zr zr hq ah ?_|(refine aK ?_;refine eF (U:=aN) 0 (i/4) zr zr zr (Nat.zero_add _) (ie hg) zr zr ?_)|(refine eG ?_;refine qn (U:=aN) zr zr zr zr zr zr ?_)|refine HK (24-8*(i%4)) zr zr zr hr ah ?_|refine Fb zr zr zr ?_))
  refine aT ?_
  refine gH (U:=aN) 0 gE zr zr zr zr zr zr zr (by rw[kW,Sha.kp];omega) rfl ?_
  rw[show 0+i/4=i/4 from Nat.zero_add _]
  refine go ?_
  have cF:=Sha.G8 b i Sf
  rw[hxd]at cF
  have gY:(wV (Sha.mS b i)).set (i/4) (.int .u32 (((Sha.part b (i/4) (min 4 (i-4*(i/4))) ||| wB x <<< (24-8*(i%4))).toNat:Nat):Int))=wV (Sha.mS b (i+1)):=by
   rw[← cF,show min 4 (i-4*(i/4))=i%4 from by omega]
   exact wP _ _ _
  rw[gY,← gb]
  refine aL ih (i+1) rfl ah ah cu ad
 intro fq
 have KK:i=64:=by omega
 subst KK
 clear ih
 refine go ?_
 refine bu (fun t:Nat=>16≤t∧t≤64) (fun t=>64-t)
  (fun t=>[(2,ptr b2),(3,ptr b3),(6,.int .i64 (t:Int))])
  (fun t=>ag b3 (cl (wV (Sha.ez b t)) 196)::ag b2 (cl (wV (List.replicate 64 0)) 196)::A::F) 16 ⟨ah,ah⟩ rfl cu (by rw[Sha.K4];exact ad) ?_
 rintro t⟨Ku,Ya⟩ ih
 have hlen:=Sha.rV b t Ya
 refine go ?_
 refine au zr zr ?_ ?_
 ·intro cW
  have ht:t<64:=by omega
  have g2:=Sha.il b t (t-2) ah
  have g7:=Sha.il b t (t-7) ah
  have g15:=Sha.il b t (t-15) ah
  have g16:=Sha.il b t (t-16) ah
  refine go ?_
  refine aF (fun w=>Sat G w ([ag b3 (cl (wV (Sha.ez b t)) 196)])) (.st 0 (.st 1 (.st 2 (.st 3 (.st 4 (.st 5 (.st 6 (.st 7 (.st 8 (.st 9 .nil)))))))))) rfl ak ak ak ei ?_
  refine go ?_
  (repeat(first|refine gO ?_|refine ed (U:=aN) (t-2) zr zr zr zr zr zr zr ah ah ?_|refine ed (U:=aN) (t-15) zr zr zr zr zr zr zr ah ah ?_|(refine aK ?_;first|refine eF (U:=aN) 0 (t-2) zr zr zr (Nat.zero_add _) (ie g2) zr zr ?_|refine eF (U:=aN) 0 (t-15) zr zr zr (Nat.zero_add _) (ie g15) zr zr ?_)))
  ((refine ai zr zr zr zr (iT _ 17 ah ah) ad ?_ bG))
  rintro _ _⟨rfl,rfl⟩
  refine go ?_
  ((refine ai zr zr zr zr (iT _ 19 ah ah) ad ?_ bG))
  rintro _ _⟨rfl,rfl⟩
  (repeat(first|refine gO ?_|refine iS zr zr zr ?_|refine qo 10 zr zr zr zr ah ?_))
  ((refine ai zr zr zr zr (iT _ 7 ah ah) ad ?_ bG))
  rintro _ _⟨rfl,rfl⟩
  refine go ?_
  ((refine ai zr zr zr zr (iT _ 18 ah ah) ad ?_ bG))
  rintro _ _⟨rfl,rfl⟩
  (repeat(first|refine gO ?_|refine iS zr zr zr ?_|refine qo 3 zr zr zr zr ah ?_))
  refine aF (fun w=>Sat G w ([ag b3 (cl (wV (Sha.ez b t)) 196)])) (.st 0 (.st 1 (.st 2 (.st 3 (.st 4 (.st 5 (.st 6 (.st 7 (.st 8 (.st 9 (.st 10 (.st 11 (.st 12 (.st 13 (.st 14 (.act 15 .nil)))))))))))))))) rfl ak ak ak ei ?_
  refine go ?_
  (repeat(first|refine gO ?_|refine ed (U:=aN) (t-16) zr zr zr zr zr zr zr ah ah ?_|refine ed (U:=aN) (t-7) zr zr zr zr zr zr zr ah ah ?_|refine ed (U:=aN) t zr zr zr zr zr zr zr zr ht ?_|(refine aK ?_;first|refine eF (U:=aN) 0 (t-16) zr zr zr (Nat.zero_add _) (ie g16) zr zr ?_|refine eF (U:=aN) 0 (t-7) zr zr zr (Nat.zero_add _) (ie g7) zr zr ?_)|refine jU zr zr zr ?_))
  refine aT ?_
  refine gH (U:=aN) 0 gE zr zr zr zr zr zr zr (by rw[kW,hlen];omega) rfl ?_
  rw[show 0+t=t from Nat.zero_add _]
  refine go ?_
  have gY:=(wP (Sha.ez b t) t _).trans (congrArg wV (Sha.vf b t Ku ht))
  refine aj (H':=ag b3 (cl (wV (Sha.ez b (t+1))) 196)::ag b2 (cl (wV (List.replicate 64 0)) 196)::A::F) (by rw[← gY];exact ao.refl _) ?_
  refine aL ih (t+1) rfl ⟨ah,ah⟩ ah cu ad
 intro fq
 have GR:t=64:=by omega
 subst GR
 rw[Sha.xy]
 have Er:(wV (Sha.sched b 64)).length=64:=by rw[kW,Sha.dF]
 have gu:ix (wV (Sha.sched b 64))=true:=fh _
 generalize wV (Sha.sched b 64)=W at Er gu hE ⊢
 refine go ?_
 refine aH (U:=aN) 0 zr zr zr zr zr Er ?_
 refine cD (U:=aN) 1 gE rfl rfl rfl Er (by intro e;rw[e]at Er;cases Er) gu rfl (by rw[Er];simp[kW]) rfl ?_
 refine go ?_
 refine jq (U:=aN) 1 hE Tryz.func214 zr zr zr zr zr Er rfl ⟨rfl,rfl⟩ ad
def oe(X:HP):Prop:=Vw X (.slice (some ⟨0,0,none⟩) 64 64) 64 (wV Sha.ks)
theorem oe.mono{A B:HP}(h:oe A)(Xv:∀h,B h→∃h',sub h' h∧A h'):oe B:=Vw.mono h Xv
theorem NA{t:Nat}(h:t<64):Sha.ks[t]?=some (Sha.ks.getD t 0):=by
 rw[List.getD_eq_getElem?_getD,List.getElem?_eq_getElem (show t<Sha.ks.length from h)];rfl
def PB(s:Sha.St):Value := .agg (wV s.l).toArray
set_option maxRecDepth 20000 in
theorem CZ(A:HP)(hK:oe A)(v:Value)(b:List UInt8)(hv:eJ A v b)(Et:64≤b.length)(s:Sha.St) :
  aD Tryz.prog 182 [PB s,v] [A] (fun r H=>r=PB (Sha.chunk s b)∧H=[A]):=by
 have fW:=F7 A v b hv Et
 obtain⟨a,c,rfl,hc⟩:=hv.2
 unfold oe at hK
 have eH:(Sha.sched b 64).length=64:=Sha.dF b 64
 have Ek:Sha.chunk s b=Sha.plus s (Sha.rounds s (Sha.sched b 64) 64):=rfl
 rw[Ek]
 generalize Sha.sched b 64=W at fW eH ⊢
 obtain⟨s1,s2,s3,s4,s5,s6,s7,s8⟩:=s
 dsimp only [PB,Sha.St.l,wV,List.map_cons,List.map_nil]
 refine aD.enter Tryz.func182 ak rfl Tryz.ntmps182 zr zr ?_
 intro G F R hE
 refine go ?_
 refine bC zr zr bz ?_
 intro b2
 refine go ?_
 refine aw zr zr zr bz ?_
 intro b4
 refine go ?_
 refine aF (fun w=>Sat G w ([ag b2 (cl [u32 s1,u32 s2,u32 s3,u32 s4,u32 s5,u32 s6,u32 s7,u32 s8] 225)])) (.st 0 (.st 1 (.st 2 (.st 3 (.st 4 (.st 5 (.st 6 (.st 7 (.st 8 (.st 9 (.st 10 (.st 11 (.st 12 (.st 13 (.st 14 (.st 15 (.st 16 (.st 17 (.st 18 (.st 19 (.st 20 (.st 21 (.st 22 (.st 23 .nil)))))))))))))))))))))))) rfl ak ak ak ei ?_
 refine go ?_
 (repeat(first|refine gO ?_|refine iM zr zr zr zr zr zr ah ah ?_))
 ((refine ai zr zr zr zr (fW) ad ?_ bG))
 rintro _ _⟨rfl,rfl⟩
 refine go ?_
 generalize hs:(⟨s1,s2,s3,s4,s5,s6,s7,s8⟩:Sha.St)=s at hE
 refine bu (fun t:Nat=>t≤64) (fun t=>64-t)
  (fun t=>[(2,ptr b2),(4,ptr b4),(34,.agg (wV W).toArray),(35,.int .i64 (t:Int)),(5,u32 (Sha.rounds s W t).a),(6,u32 (Sha.rounds s W t).b),(7,u32 (Sha.rounds s W t).c),(8,u32 (Sha.rounds s W t).d),(9,u32 (Sha.rounds s W t).e),(10,u32 (Sha.rounds s W t).f),(11,u32 (Sha.rounds s W t).g),(12,u32 (Sha.rounds s W t).h)])
  (fun _=>ag b4 (cl (wV (List.replicate 8 0)) 225)::ag b2 (cl [u32 s1,u32 s2,u32 s3,u32 s4,u32 s5,u32 s6,u32 s7,u32 s8] 225)::A::F) 0 (Nat.zero_le _) rfl (by subst hs;repeat(first|exact DY|refine AB rfl ?_)) ad ?_
 rintro t ht ih
 refine go ?_
 refine au zr zr ?_ ?_
 ·intro cW
  have Ku:t<64:=by omega
  have hr:Sha.rounds s W (t+1)=Sha.round (Sha.rounds s W t) (Sha.ks.getD t 0) (W.getD t 0):=rfl
  generalize Sha.rounds s W t=T at hr ⊢
  obtain⟨ta,tb,tc,td,te,tf,tg,th⟩:=T
  have QJ:(wV W).toArray.toList[((t:Nat):Int).toNat]?=some (u32 (W.getD t 0)):=by
   rw[Int.toNat_natCast]
   exact ie (by rw[List.getD_eq_getElem?_getD,List.getElem?_eq_getElem ah];rfl)
  have hkg:=ie (NA Ku)
  generalize Sha.ks.getD t 0=kt at hr hkg
  generalize W.getD t 0=wt at hr QJ
  simp only
  refine go ?_
  refine zh (U:=aN) zr zr zr zr zr zr zr zr ah ah QJ ?_
  refine go ?_
  refine aF (fun w=>Sat G w ([A])) (.st 0 (.st 1 (.st 3 (.st 6 (.st 10 (.st 11 (.st 12 (.st 13 (.st 14 (.st 15 (.st 16 (.st 18 (.st 19 (.st 20 (.st 22 (.act 2 (.act 4 (.st 5 (.act 7 (.st 8 (.st 9 (.st 17 (.st 21 (.st 23 (.st 24 .nil))))))))))))))))))))))))) rfl ak ak ak ei ?_
  refine go ?_
  (repeat(first|refine gO ?_|refine ed (U:=aN) t zr zr zr zr zr zr zr zr Ku ?_|(refine aK ?_;refine cJ 0 t zr zr zr hK rfl hkg zr zr ?_)|refine iS zr zr zr ?_|refine Cx zr zr zr ?_))
  ((refine ai rfl rfl rfl rfl ((iT _ 6 ah ah)) ad ?_ jg))
  rintro _ _⟨rfl,rfl⟩
  refine go ?_
  ((refine ai rfl rfl rfl rfl ((iT _ 11 ah ah)) ad ?_ jg))
  rintro _ _⟨rfl,rfl⟩
  refine go ?_
  (repeat((refine iS zr zr zr ?_)))
  ((refine ai rfl rfl rfl rfl ((iT _ 25 ah ah)) ad ?_ jg))
  rintro _ _⟨rfl,rfl⟩
  (repeat(first|refine gO ?_|refine iS zr zr zr ?_|refine jU zr zr zr ?_))
  ((refine ai zr zr zr zr (iT _ 2 ah ah) ad ?_ bG))
  rintro _ _⟨rfl,rfl⟩
  refine go ?_
  ((refine ai zr zr zr zr (iT _ 13 ah ah) ad ?_ bG))
  rintro _ _⟨rfl,rfl⟩
  (repeat(first|refine gO ?_|refine iS zr zr zr ?_))
  ((refine ai zr zr zr zr (iT _ 22 ah ah) ad ?_ bG))
  rintro _ _⟨rfl,rfl⟩
  (repeat(first|refine gO ?_|refine iS zr zr zr ?_|refine Cx zr zr zr ?_|refine Fb zr zr zr ?_|refine jU zr zr zr ?_))
  ((refine bB 5 ((u32 (Sha.rounds s W (t+1)).a)) rfl ((by rw[hr];rfl)) ?_))
  ((refine bB 6 ((u32 (Sha.rounds s W (t+1)).b)) rfl ((by rw[hr];rfl)) ?_))
  ((refine bB 7 ((u32 (Sha.rounds s W (t+1)).c)) rfl ((by rw[hr];rfl)) ?_))
  ((refine bB 8 ((u32 (Sha.rounds s W (t+1)).d)) rfl ((by rw[hr];rfl)) ?_))
  ((refine bB 9 ((u32 (Sha.rounds s W (t+1)).e)) rfl ((by rw[hr];rfl)) ?_))
  ((refine bB 10 ((u32 (Sha.rounds s W (t+1)).f)) rfl ((by rw[hr];rfl)) ?_))
  ((refine bB 11 ((u32 (Sha.rounds s W (t+1)).g)) rfl ((by rw[hr];rfl)) ?_))
  ((refine bB 12 ((u32 (Sha.rounds s W (t+1)).h)) rfl ((by rw[hr];rfl)) ?_))
  refine aL ih (t+1) rfl ah ah cu ad
 intro fq
 have GR:t=64:=by omega
 subst GR
 have pT:PB (Sha.plus s (Sha.rounds s W 64)) = .agg (List.map u32 [(Sha.plus s (Sha.rounds s W 64)).a,(Sha.plus s (Sha.rounds s W 64)).b,(Sha.plus s (Sha.rounds s W 64)).c,(Sha.plus s (Sha.rounds s W 64)).d,(Sha.plus s (Sha.rounds s W 64)).e,(Sha.plus s (Sha.rounds s W 64)).f,(Sha.plus s (Sha.rounds s W 64)).g,(Sha.plus s (Sha.rounds s W 64)).h]).toArray:=rfl
 rw[← pT]at hE
 clear pT Ek ih
 generalize Sha.rounds s W 64=T at hE ⊢
 obtain⟨ta,tb,tc,td,te,tf,tg,th⟩:=T
 subst hs
 simp only
 refine go ?_
 (repeat(first|refine gO ?_|refine iM zr zr zr zr zr zr ah ah ?_|refine jU zr zr zr ?_))
 refine mo (U:=aN) zr zr zr zr zr zr ?_
 refine go ?_
 refine jq (U:=aN) 0 hE Tryz.func182 zr zr zr zr zr zr zr ⟨rfl,rfl⟩ ad
end Go.Proofs.YtedjnjkijiddlaaGreatDoor
namespace Go.SL
open Go
def dV(x:Dg):Value := .agg (dC x).toArray
theorem XD{a b:Dg}(h:dV a=dV b):a=b:=by
 simp only[dV,Value.agg.injEq]at h
 exact XE (by simpa using congrArg Array.toList h)
section
variable{P:Program}
theorem Ru{kt e:TypeId}(hu:P.underlying kt=some (.array 32 e))(he:P.underlying e=some (.int .u8))(hc:P.cellsOf e=1)(em:Bool)(k:Dg)(w:World):(Instr.checkKey em 10000 kt (dV k)).run P w = .ok () w:=by
 obtain⟨i,hi⟩:=info_of_underlying he
 have FF:P.plainKey e=true:=by unfold Program.plainKey;rw[he]
 have ir:(sizeOf e).run P w = .ok 1 w:=by
  rw[Go.run_sizeOf w hi];congr 1
 rw[show(10000:Nat)=9999+1 from rfl,Instr.checkKey]
 simp only[Sem.run_bind,Go.run_underlying hu,Result.andThen_ok,dV]
 simp only[Std.Legacy.Range.forIn_eq_forIn_range',Std.Legacy.Range.size,Nat.sub_zero,Nat.add_one_sub_one,Nat.div_one]
 have each:∀j∈List.range' 0 32,j<32:=fun j hj=>by simp[List.mem_range']at hj;omega
 generalize List.range' 0 32=is at each
 induction is with
 | nil=>simp
 | cons j is ih =>
  have hj:=each j (by simp)
  have dL:(dC k).toArray[j*1]?=some (u8 (k.at j)):=by
   rw[Nat.mul_one,dG]
   simp only[List.getElem?_toArray]
   rw[show bV k.bs=k.bs.map u8 from rfl,List.getElem?_map,List.getElem?_eq_getElem (by rw[k.len];exact hj)]
   simp[Dg.at,k.len,hj]
  have p1:(part e (dC k).toArray (j*1)).run P w = .ok (u8 (k.at j)) w:=run_part_plain w FF dL
  have p2:(Instr.checkKey em 9999 e (u8 (k.at j))).run P w = .ok () w:=by
   rw[show(9999:Nat)=9998+1 from rfl,Instr.checkKey]
   simp[Go.run_underlying he,u8]
  simp only[List.forIn_cons,Sem.run_bind,ir,Result.andThen_ok,p1,p2,Sem.run_pure]
  exact ih (fun y hy=>each y (by simp[hy]))
theorem Db{kt e:TypeId}(hu:P.underlying kt=some (.array 32 e))(he:P.underlying e=some (.int .u8))(hc:P.cellsOf e=1)(a b:Dg)(w:World):(Op.equal kt (dV a) (dV b)).run P w = .ok (decide (a=b)) w :=
 rW hu he hc a b 9998 w
theorem aaa{kt e:TypeId}(hu:P.underlying kt=some (.array 32 e))(he:P.underlying e=some (.int .u8))(hc:P.cellsOf e=1):mh P kt dV where
 inj _ _:=XD
 check em k w:=Ru hu he hc em k w
 find k l ks w h:=by
  rw[run_findKey_eq (w:=w) (by rw[hu])]
  have key:∀(l:List MapEntry) (ks:List Dg) (o:Nat),l.map (·.key)=ks.map dV →
    ∃r,(Instr.findAsking kt (dV k) l o).run P w = .ok r w∧((r=none∧k ∉ ks)∨∃i e,r=some (o+i,e.val)∧l[i]?=some e∧ks[i]?=some k∧∀j,j<i→ks[j]? ≠ some k):=by
   intro l
   induction l with
   | nil =>
    intro ks o h
    have:ks=[]:=by simpa using h.symm
    subst this
    exact⟨none,by simp[Instr.findAsking],.inl ⟨rfl,by simp⟩⟩
   | cons en l ih =>
    intro ks o h
    cases ks with
    | nil=>simp at h
    | cons c ks =>
     simp only[List.map_cons,List.cons.injEq]at h
     obtain⟨h1,h2⟩:=h
     have hq:(Op.equal kt (dV k) en.key).run P w = .ok (decide (k=c)) w:=by rw[h1];exact Db hu he hc k c w
     by_cases IT:k=c
     ·subst IT
      refine⟨some (o+0,en.val),by simp[Instr.findAsking,hq],.inr ⟨0,en,rfl,by simp,by simp,fun j hj=>absurd hj ah⟩⟩
     ·obtain⟨r,hr,iv⟩:=ih ks (o+1) h2
      refine⟨r,by simp[Instr.findAsking,hq,IT,hr],?_⟩
      rcases iv with⟨rfl,hn⟩|⟨i,e',rfl,hi,hk,hj⟩
      ·exact .inl ⟨rfl,by simp[IT,hn]⟩
      ·refine .inr ⟨i+1,e',by congr 2;omega,by simpa using hi,by simpa using hk,fun j qL=>?_⟩
       cases j with
       | zero=>simp;exact fun h=>IT h.symm
       | succ j=>simpa using hj j ah
  obtain⟨r,hr,iv⟩:=key l ks 0 h
  refine⟨r,hr,?_⟩
  rcases iv with h|⟨i,e,hr,hi,hk,hj⟩
  ·exact .inl h
  ·exact .inr ⟨i,e,by rw[hr];simp,hi,hk,hj⟩
 bits k:=by
  rw[show(10000:Nat)=9999+1 from rfl]
  simp only[dV,Instr.sameBits,beq_self_eq_true,Bool.true_and,List.all_eq_true]
  have:∀(l:List UInt8),∀x∈((bV l).zip (bV l)),Instr.sameBits 9999 x.1 x.2=true:=by
   intro l
   induction l with
   | nil=>simp[bV]
   | cons c l ih =>
    intro x hx
    simp only[bV,List.map_cons,List.zip_cons_cons,List.mem_cons]at hx
    rcases hx with rfl|hx
    ·simp[u8,Instr.sameBits]
    ·exact ih x hx
  intro x hx
  rw[dG]at hx
  exact this k.bs x hx
end
end Go.SL
namespace Go.Proofs.YtedjnjkijiddlaaGreatDoor
open Go Go.SL
attribute [local irreducible] J K aD Ends ag aB aM bN aZ aP aV bh bW Sha.chunks Sha.chunk Sha.rounds Sha.sched dM
theorem yN(A:HP)(v:Value)(b:List UInt8)(hv:eJ A v b)(hl:b.length≤1000000000):aD Tryz.prog 183 [v] [A] (fun r H=>H=[aB 5 1 r b.length (bV b),A]):=by
 obtain⟨a,c,rfl,hc⟩:=hv.2
 refine aD.enter Tryz.func183 ak rfl Tryz.ntmps183 zr zr ?_
 intro G F R hE
 cases a with
 | none =>
  have hb:b=[]:=by
   obtain⟨a,cap,h1,h2|⟨x,o,h2,_⟩⟩:=hv.1
   ·simpa[bV]using h2
   ·simp only[Value.slice.injEq]at h1;rw[← h1.1]at h2;cases h2
  subst hb
  refine go ?_
  refine aj (bJ 5 1 none _) ?_
  ((refine ae hE Tryz.func183 rfl _ zr zr ad))
 | some a =>
  refine go ?_
  refine al zr zr zr zr zr zr zr zr zr bz ?_
  intro b0
  refine go ?_
  (refine aG (eL 5 1 b0 0 0 [] [] _ rfl (Nat.le_refl _) (by simp)) ?_;refine aO (mm:=(b).length) (news:=bV (b)) 0 1 zr zr zr zr zr zr zr zr zr zr zr zr (hv.1) (by show _=_*1;rw[bt];omega) (cR _) ah (by show(_+_)*1≤_;omega) (fun _=>rfl) bz ?_;intro vA;rw[Nat.zero_add,List.nil_append];((refine aJ 0 rfl ?_));rintro aA cA rfl)
  refine go ?_
  ((refine ae hE Tryz.func183 rfl _ zr zr ad))
set_option maxRecDepth 20000 in
theorem wA(A:HP)(hK:oe A)(v:Value)(b:List UInt8)(hv:eJ A v b)(hl:b.length≤1000000000) :
    aD Tryz.prog 123 [v] [A] (fun r H=>r=dV (dM b)∧H=[A]):=by
  obtain⟨a,c,rfl,hc⟩:=hv.2
  refine aD.enter Tryz.func123 ak rfl Tryz.ntmps123 zr zr ?_
  intro G F R hE
  refine aE rfl ?_
  refine aw zr zr zr bz ?_
  intro b2
  (refine rG ?_)
  refine aE rfl ?_
  refine mo (U:=aN) (cs:=wV Sha.start.l) zr zr zr zr zr zr ?_
  refine aw zr zr zr bz ?_
  intro b3
  refine cD (U:=aN) (l':=wV Sha.start.l) 0 gE zr zr zr zr (by decide) (fh _) zr zr zr ?_
  refine aG (H':=ag b3 (cl (wV (Sha.chunks Sha.start b 0).l) 225)::ag b2 (cl (dC Dg.zero) 35)::A::F) (by unfold Sha.chunks;exact ad) ?_
  refine go ?_
  refine nZ zr zr zr ah ah (by simp only[gg];omega) ?_
  refine go ?_
  refine gT zr zr zr (by simp only[gg];omega) ?_
  ((refine az 15 ((.int .i64 ((64*(b.length/64):Nat):Int))) rfl ((congrArg (Value.int .i64) ah)) ?_))
  refine go ?_
  refine bu (fun q:Nat=>q≤b.length/64) (fun q=>b.length/64-q)
    (fun q=>[(0,.slice a b.length c),(2,ptr b2),(3,ptr b3),(4,.int .i64 ((64*(b.length/64):Nat):Int)),(5,.int .i64 ((64*q:Nat):Int))])
    (fun q=>ag b3 (cl (wV (Sha.chunks Sha.start b q).l) 225)::ag b2 (cl (dC Dg.zero) 35)::A::F) 0 (Nat.zero_le _) rfl cu ad ?_
  rintro q hq ih
  refine go ?_
  refine au zr zr ?_ ?_
  · intro cW
    have hq1:q<b.length/64:=by omega
    have ll:=hv.cut (64*q) ah
    have jY:=CZ A hK _ _ ll (by rw[List.length_drop];omega) (Sha.chunks Sha.start b q)
    have ph:Sha.chunk (Sha.chunks Sha.start b q) (b.drop (64*q))=Sha.chunks Sha.start b (q+1):=by conv=>rhs;unfold Sha.chunks
    rw[ph]at jY
    have KE:∀s:Sha.St,(wV s.l).length=8:=fun s=>rfl
    refine go ?_
    refine aF (fun w=>Sat G w ([ag b3 (cl (wV (Sha.chunks Sha.start b q).l) 225)])) (.st 0 (.st 1 (.st 2 (.st 3 (.act 4 (.act 5 .nil)))))) rfl ak ak ak ei ?_
    refine go ?_
    refine bL (U:=aN) 0 zr zr zr zr zr zr ?_
    refine go ?_
    refine bj (p:=((64*q:Nat):Int)) (q:=(b.length:Int)) zr zr zr zr zr zr zr ah ah (.inl rfl) ?_
    ((refine az 24 ((.slice (sliceAt a c (64*q) 1) (b.length-64*q) (c-64*q))) rfl (rfl) ?_))
    ((refine ai rfl rfl rfl rfl (jY) ad ?_ jg))
    rintro _ _⟨rfl,rfl⟩
    unfold PB
    refine aT ?_
    refine cD (U:=aN) 1 gE rfl rfl rfl rfl (by intro e;have:=congrArg List.length e;rw[KE]at this;cases this) (fh _) rfl (by rw[KE,KE]) rfl ?_
    refine go ?_
    ((refine bB 5 ((.int .i64 ((64*(q+1):Nat):Int))) rfl ((congrArg (Value.int .i64) ah)) ?_))
    refine aL ih (q+1) rfl ah ah cu ad
  intro fq
  have WA:q=b.length/64:=by omega
  subst WA
  clear ih
  have ll:=hv.cut (64*(b.length/64)) ah
  obtain⟨B1,Re⟩:∃B1,B1=b.drop (64*(b.length/64)):=⟨_,rfl⟩
  have Xu:B1.length=b.length-64*(b.length/64):=by rw[Re,List.length_drop]
  rw[← Re,← Xu]at ll
  refine go ?_
  refine bj (p:=((64*(b.length/64):Nat):Int)) (q:=(b.length:Int)) zr zr zr zr zr zr zr ah ah (.inl rfl) ?_
  ((refine az 28 ((.slice (sliceAt a c (64*(b.length/64)) 1) B1.length (c-64*(b.length/64)))) rfl ((by rw[Xu];rfl)) ?_))
  refine go ?_
  ((refine ai zr zr zr zr (yN A _ B1 ll ah) ad ?_ bG))
  rintro r _ rfl
  ((refine aJ 0 rfl ?_))
  rintro ra rc rfl
  refine go ?_
  (refine al (cs:=bV [(128:UInt8)]) zr zr zr zr zr zr zr zr zr bz ?_;intro bA;refine aO (mm:=1) (news:=bV [(128:UInt8)]) 1 0 zr zr zr zr zr zr zr zr zr zr zr zr (Vw.ag rfl) rfl (cR _) ah (by show(_+_)*1≤_;omega) (fun _=>rfl) bz ?_;intro vA;rw[show bV (B1)++bV [(128:UInt8)]=bV ((B1)++[(128:UInt8)])from by simp[bV],show(B1).length+1=((B1)++[(128:UInt8)]).length from(@List.length_append _ (B1) [(128:UInt8)]).symm];((refine aJ 1 rfl ?_));rintro aA cA rfl)
  refine go ?_
  obtain⟨z,hz⟩:∃z,z=(119-b.length%64)%64:=⟨_,rfl⟩
  have RV:(B1.length+1+z)%64=56:=by omega
  have RU:z<64:=by omega
  have abc:B1.length<64:=by omega
  have rf:∀j:Nat,(B1++128::List.replicate j (0:UInt8)).length=B1.length+1+j:=fun j=>by simp;omega
  obtain⟨S1,hS1⟩:∃S1,S1=Sha.chunks Sha.start b (b.length/64):=⟨_,rfl⟩
  rw[← hS1]
  refine bu (fun y:Nat × Option Addr × Nat=>y.1≤z) (fun y=>z-y.1)
    (fun y=>[(0,.slice a b.length c),(2,ptr b2),(3,ptr b3),(6,.slice y.2.1 (B1++128::List.replicate y.1 (0:UInt8)).length y.2.2)])
    (fun y=>aB 5 1 (.slice y.2.1 (B1++128::List.replicate y.1 (0:UInt8)).length y.2.2) (B1++128::List.replicate y.1 (0:UInt8)).length (bV (B1++128::List.replicate y.1 (0:UInt8)))::A::ag b3 (cl (wV S1.l) 225)::ag b2 (cl (dC Dg.zero) 35)::F) (0,aA,cA) (Nat.zero_le _) rfl cu ad ?_
  rintro⟨j,a2,c2⟩ hj ih
  simp only at hj
  have vT:=rf j
  dsimp only
  refine go ?_
  refine o8 zr zr zr ah ah ?_
  refine go ?_
  refine au zr zr ?_ ?_
  · intro bT
    have hjz : j < z := by rcases Nat.lt_or_ge j z with h | h; exact h; exfalso; apply bT; rw [vT]; have : j = z := by omega
                           subst this;omega
    refine go ?_
    (refine al (cs:=bV [(0:UInt8)]) zr zr zr zr zr zr zr zr zr bz ?_;intro bA;refine aO (mm:=1) (news:=bV [(0:UInt8)]) 1 0 zr zr zr zr zr zr zr zr zr zr zr zr (Vw.ag rfl) rfl (cR _) (by(rw[vT];omega)) (by show(_+_)*1≤_;(rw[vT];omega)) (fun _=>rfl) bz ?_;intro vA;rw[show bV ((B1++128::List.replicate j (0:UInt8)))++bV [(0:UInt8)]=bV (((B1++128::List.replicate j (0:UInt8)))++[(0:UInt8)])from by simp[bV],show((B1++128::List.replicate j (0:UInt8))).length+1=(((B1++128::List.replicate j (0:UInt8)))++[(0:UInt8)]).length from(@List.length_append _ ((B1++128::List.replicate j (0:UInt8))) [(0:UInt8)]).symm];((refine aJ 1 rfl ?_));rintro aA cA rfl)
    rw[show B1++128::List.replicate j (0:UInt8)++[0]=B1++128::List.replicate (j+1) (0:UInt8)from by rw[List.replicate_succ'];simp]
    refine go ?_
    refine aL ih (j+1,aA,cA) rfl (by simp only;omega) (by simp only;omega) cu ad
  intro heq
  have hjz:j=z:=by
    have ac0:((B1.length+1+j:Nat):Int)%64=56:=by rw[← vT];exact Decidable.not_not.1 heq
    omega
  subst hjz
  clear ih
  obtain⟨T0,Ow⟩:∃T0,T0=B1++128::List.replicate j (0:UInt8):=⟨_,rfl⟩
  rw[← Ow]at vT ⊢
  have KF:∀i:Nat,i≤8→(T0++(Sha.oT (8*b.length)).take i).length=T0.length+i:=fun i hi=>by
    rw[List.length_append,List.length_take];simp only[Sha.oT,List.length_map,List.length_range];omega
  refine go ?_
  refine bu (fun y:Nat × Option Addr × Nat=>y.1≤8) (fun y=>8-y.1)
    (fun y=>[(0,.slice a b.length c),(2,ptr b2),(3,ptr b3),(6,.slice y.2.1 (T0++(Sha.oT (8*b.length)).take y.1).length y.2.2),(39,.int .i64 (y.1:Int))])
    (fun y=>aB 5 1 (.slice y.2.1 (T0++(Sha.oT (8*b.length)).take y.1).length y.2.2) (T0++(Sha.oT (8*b.length)).take y.1).length (bV (T0++(Sha.oT (8*b.length)).take y.1))::A::ag b3 (cl (wV S1.l) 225)::ag b2 (cl (dC Dg.zero) 35)::F) (0,a2,c2) (Nat.zero_le _) rfl (by simp only[List.take_zero,List.append_nil];exact cu) (by simp only[List.take_zero,List.append_nil];exact ad) ?_
  rintro⟨i,a3,c3⟩ hi ih
  simp only at hi
  have IS:=KF i hi
  dsimp only
  refine go ?_
  refine au zr zr ?_ ?_
  · intro cW
    have FI:i<8:=by omega
    have KT:(Sha.oT (8*b.length)).take (i+1)=(Sha.oT (8*b.length)).take i++[UInt8.ofNat (8*b.length/2 ^ (56-8*i))]:=by
      rw[List.take_add_one];simp[Sha.oT,FI]
    refine go ?_
    refine np zr zr zr ah ?_
    ((refine az 46 ((.int .u64 ((8*b.length:Nat):Int))) rfl ((Al (x:=b.length) (q:=3) ah ah ah)) ?_))
    refine go ?_
    refine gT zr zr zr (by simp only[gg];omega) ?_
    refine go ?_
    ((refine az 49 ((.int .i64 ((56-8*i:Nat):Int))) rfl ((congrArg (Value.int .i64) ah)) ?_))
    refine iW zr zr zr ah ?_
    ((refine az 50 ((.int .u64 ((8*b.length/2 ^ (56-8*i):Nat):Int))) rfl ((congrArg (Value.int .u64) (by rw[Int.toNat_natCast,show min (56-8*i) IntKind.u64.bits=56-8*i from by show min (56-8*i) 64=_;omega];simp))) ?_))
    refine eG ?_
    refine iN zr zr zr zr zr zr ?_
    ((refine az 51 ((u8 (UInt8.ofNat (8*b.length/2 ^ (56-8*i))))) rfl ((lq _)) ?_))
    (refine al (cs:=bV [(UInt8.ofNat (8*b.length/2 ^ (56-8*i)))]) zr zr zr zr zr zr zr zr zr bz ?_;intro bA;refine aO (mm:=1) (news:=bV [(UInt8.ofNat (8*b.length/2 ^ (56-8*i)))]) 1 0 zr zr zr zr zr zr zr zr zr zr zr zr (Vw.ag rfl) rfl (cR _) (by(rw[IS];omega)) (by show(_+_)*1≤_;(rw[IS];omega)) (fun _=>rfl) bz ?_;intro vA;rw[show bV ((T0++(Sha.oT (8*b.length)).take i))++bV [(UInt8.ofNat (8*b.length/2 ^ (56-8*i)))]=bV (((T0++(Sha.oT (8*b.length)).take i))++[(UInt8.ofNat (8*b.length/2 ^ (56-8*i)))])from by simp[bV],show((T0++(Sha.oT (8*b.length)).take i)).length+1=(((T0++(Sha.oT (8*b.length)).take i))++[(UInt8.ofNat (8*b.length/2 ^ (56-8*i)))]).length from(@List.length_append _ ((T0++(Sha.oT (8*b.length)).take i)) [(UInt8.ofNat (8*b.length/2 ^ (56-8*i)))]).symm];((refine aJ 1 rfl ?_));rintro aA cA rfl)
    rw[show T0++(Sha.oT (8*b.length)).take i++[UInt8.ofNat (8*b.length/2 ^ (56-8*i))]=T0++(Sha.oT (8*b.length)).take (i+1)from by rw[KT,List.append_assoc]]
    refine go ?_
    refine aL ih (i+1,aA,cA) rfl (by simp only;omega) (by simp only;omega) cu ad
  intro fq
  have FI:i=8:=by omega
  subst FI
  clear ih
  have Ea:=Sha.JI b
  rw[← hS1,← Re]at Ea
  have aar:B1++Sha.pad b.length=T0++(Sha.oT (8*b.length)).take 8:=by
    rw[Ow,List.take_of_length_le (by simp[Sha.oT])]
    unfold Sha.pad
    rw[← hz];simp
  rw[aar]at Ea
  generalize T0++(Sha.oT (8*b.length)).take 8=T at IS Ea ⊢
  have adk:T.length%64=0:=by omega
  have hTl:T.length≤1000000200:=by omega
  clear vT KF aar Ow rf Re Xu ll hz RV RU abc hS1 IS
  have KE:∀s:Sha.St,(wV s.l).length=8:=fun s=>rfl
  refine ql (bs:=T) 0 rfl ?_
  intro QL
  have Wn:eJ (Sep [aB 5 1 (.slice a3 T.length c3) T.length (bV T),A]) (.slice a3 T.length c3) T:=QL.mono (aW (i:=0) rfl)
  have hK2:oe (Sep [aB 5 1 (.slice a3 T.length c3) T.length (bV T),A]):=hK.mono (aW (i:=1) rfl)
  refine aj (ao.bP [_,_] _) ?_
  refine go ?_
  refine bu (fun q:Nat=>q≤T.length/64) (fun q=>T.length/64-q)
    (fun q=>[(2,ptr b2),(3,ptr b3),(6,.slice a3 T.length c3),(8,.int .i64 ((64*q:Nat):Int))])
    (fun q=>Sep [aB 5 1 (.slice a3 T.length c3) T.length (bV T),A]::ag b3 (cl (wV (Sha.chunks S1 T q).l) 225)::ag b2 (cl (dC Dg.zero) 35)::F) 0 (Nat.zero_le _) rfl cu (by unfold Sha.chunks;exact ad) ?_
  rintro q hq ih
  refine go ?_
  refine au zr zr ?_ ?_
  · intro cW
    have hq1:q<T.length/64:=by omega
    have ll:=Wn.cut (64*q) ah
    have jY:=CZ _ hK2 _ _ ll (by rw[List.length_drop];omega) (Sha.chunks S1 T q)
    have ph:Sha.chunk (Sha.chunks S1 T q) (T.drop (64*q))=Sha.chunks S1 T (q+1):=by conv=>rhs;unfold Sha.chunks
    rw[ph]at jY
    refine go ?_
    refine aF (fun w=>Sat G w ([ag b3 (cl (wV (Sha.chunks S1 T q).l) 225)])) (.st 0 (.st 1 (.st 2 (.st 3 (.act 4 (.act 5 .nil)))))) rfl ak ak ak ei ?_
    refine go ?_
    refine bL (U:=aN) 0 zr zr zr zr zr zr ?_
    refine go ?_
    refine bj (p:=((64*q:Nat):Int)) (q:=(T.length:Int)) zr zr zr zr zr zr zr ah ah (.inl rfl) ?_
    ((refine az 64 ((.slice (sliceAt a3 c3 (64*q) 1) (T.length-64*q) (c3-64*q))) rfl (rfl) ?_))
    ((refine ai rfl rfl rfl rfl (jY) ad ?_ jg))
    rintro _ _⟨rfl,rfl⟩
    unfold PB
    refine aT ?_
    refine cD (U:=aN) 1 gE rfl rfl rfl rfl (by intro e;have:=congrArg List.length e;rw[KE]at this;cases this) (fh _) rfl (by rw[KE,KE]) rfl ?_
    refine go ?_
    ((refine bB 8 ((.int .i64 ((64*(q+1):Nat):Int))) rfl ((congrArg (Value.int .i64) ah)) ?_))
    refine aL ih (q+1) rfl ah ah cu ad
  intro fq
  have WA:q=T.length/64:=by omega
  subst WA
  rw[← Ea]
  have oL:(dM b).bs=Sha.out (Sha.chunks Sha.start (Sha.msg b) ((Sha.msg b).length/64)):=H6 b
  clear Ea ih
  generalize Sha.chunks Sha.start (Sha.msg b) ((Sha.msg b).length/64)=S2 at oL ⊢
  refine aj (ao.cB _ _) ?_
  refine go ?_
  refine aw zr zr zr bz ?_
  intro b9
  refine go ?_
  have QT:=Sha.BJ S2
  have FK:∀i,i≤32→((Sha.out S2).take i++List.replicate (32-i) (0:UInt8)).length=32:=fun i hi=>by
    rw[List.length_append,List.length_take,List.length_replicate,QT];omega
  refine bu (fun i:Nat=>i≤32) (fun i=>32-i)
    (fun i=>[(2,ptr b2),(3,ptr b3),(9,ptr b9),(66,.int .i64 (i:Int))])
    (fun i=>ag b9 (cl (bV ((Sha.out S2).take i++List.replicate (32-i) (0:UInt8))) 35)::ag b3 (cl (wV S2.l) 225)::ag b2 (cl (dC Dg.zero) 35)::A::F) 0 (Nat.zero_le _) rfl cu ad ?_
  rintro i hi ih
  refine go ?_
  refine au zr zr ?_ ?_
  · intro cW
    have tu:i<32:=by omega
    have WC:(i:Int)/4=((i/4:Nat):Int):=by omega
    have hr4:24-8*((i:Int)%4)=((24-8*(i%4):Nat):Int):=by omega
    have QJ:(wV S2.l)[i/4]?=some (u32 (S2.l.getD (i/4) 0)):=ie (by rw[List.getD_eq_getElem?_getD,List.getElem?_eq_getElem (show i/4<S2.l.length from by show i/4<8;omega)];rfl)
    have re:(Sha.out S2)[i]?=some (UInt8.ofNat ((S2.l.getD (i/4) 0) >>> (24-8*(i%4))).toNat):=by simp[Sha.out,tu]
    (repeat(first|refine gO ?_|refine nZ zr zr zr ah ah (by simp only[gg];omega) ?_|refine o8 zr zr zr ah ah ?_|refine gT zr zr zr (by simp only[gg];omega) ?_|refine ed (U:=aN) (i/4) zr zr zr zr zr zr zr WC ah ?_|(refine aK ?_;refine mj (U:=aN) 1 (i/4) zr zr zr (Nat.zero_add _) QJ zr zr ?_)|refine qo (24-8*(i%4)) zr zr zr hr4 ah ?_|(refine eG ?_;refine Bd (U:=aN) zr zr zr zr zr zr ?_)|refine ed (U:=aN) i zr zr zr zr zr zr zr zr tu ?_))
    refine aT ?_
    refine gH (U:=aN) 0 gE zr zr zr zr zr zr zr (by rw[bt,FK i ah];omega) rfl ?_
    rw[show 0+i=i from Nat.zero_add _,Dx QT re]
    refine go ?_
    refine aL ih (i+1) rfl ah ah cu ad
  intro fq
  have tu:i=32:=by omega
  subst tu
  rw[List.take_of_length_le ah,show 32-32=0 from rfl,List.replicate_zero,List.append_nil,← oL,← dG]
  clear ih FK QT oL
  have hd:(dC (dM b)).length=32:=rfl
  have gu:ix (dC (dM b))=true:=by rw[dG];exact jy _
  have hdv:dV (dM b) = .agg (dC (dM b)).toArray:=rfl
  rw[hdv]at hE
  generalize dC (dM b)=cs at hd gu hE ⊢
  refine go ?_
  refine aH (U:=aN) 0 zr zr zr zr zr hd ?_
  refine cD (U:=aN) 2 gE rfl rfl rfl hd (by intro e;rw[e]at hd;cases hd) gu rfl (by rw[hd];rfl) rfl ?_
  refine go ?_
  refine jq (U:=aN) 2 hE Tryz.func123 zr zr zr zr zr hd rfl ⟨rfl,rfl⟩ ad
end Go.Proofs.YtedjnjkijiddlaaGreatDoor
namespace Go.Proofs.YtedjnjkijiddlaaGreatDoor
open Go Go.SL
def rM(A:HP)(v:Value)(ls:List (List UInt8)):Prop:=∃cs:List Value,Vw A v ls.length cs∧cs.length=ls.length∧(∃a c,v = .slice a ls.length c∧ls.length≤c)∧∀(i:Nat) (x:List UInt8),ls[i]?=some x→∃cv,cs[i]?=some cv∧eJ A cv x
theorem rM.row{X:HP}{b:Nat}{e:TypeId}{n:Nat}{cs:List Value}{ls:List (List UInt8)}(hn:ls.length=n)(hc:cs.length=n)(h:∀(i:Nat) (x:List UInt8),ls[i]?=some x→∃cv,cs[i]?=some cv∧eJ X cv x) :
  rM (Sep [ag b (cl cs e),X]) (.slice (some ⟨b,0,none⟩) n n) ls:=by
 subst hn
 refine⟨cs,(Vw.ag (by rw[List.drop_zero,List.take_length])).mono (aW (i:=0) rfl),hc,⟨_,_,rfl,Nat.le_refl _⟩,fun i x hx=>?_⟩
 obtain⟨cv,h1,h2⟩:=h i x hx
 exact⟨cv,h1,h2.mono (aW (i:=1) rfl)⟩
end Go.Proofs.YtedjnjkijiddlaaGreatDoor
namespace Go.SL
open Go
inductive aI(P:Program)(U:Tr)(L:fC)(H:List HP):List ResultVar→List Value→Prop where
 | nil:aI P U L H [] []
 | tmp {q:Nat} {u:Value} {rs:List ResultVar} {us:List Value} (hq:dX L q=some u) (h:aI P U L H rs us):aI P U L H (.tmp q::rs) (u::us)
 | agg {p b:Nat} {t e:TypeId} {bM:Ty} {cs:List Value} {rs:List ResultVar} {us:List Value} (i:Nat) (hp:dX L p=some (.pointer (some ⟨b,0,none⟩))) (ht:U.get t=some bM) (hg:bM.isAgg=true) (hi:cq H i=some (ag b (cl cs e))) (hl:cs.length=bM.info.size) (h:aI P U L H rs us):aI P U L H (.cell p t::rs) (.agg cs.toArray::us)
 | one {p b:Nat} {t e:TypeId} {bM:Ty} {u:Value} {rs:List ResultVar} {us:List Value} (i:Nat) (hp:dX L p=some (.pointer (some ⟨b,0,none⟩))) (ht:U.get t=some bM) (hg:bM.isAgg=false) (hi:cq H i=some (ag b (cl [u] e))) (h:aI P U L H rs us):aI P U L H (.cell p t::rs) (u::us)
theorem aI.run{P:Program}{U:Tr}[hU:fT P U]{n:Nat}{G:cC}{L:fC}{H:List HP}{a:Act}{w:World}(ha:Has n L a)(hw:Sat G w H):∀ {rs us},aI P U L H rs us→(rs.mapM (Bz a.tmps)).run P w = .ok us w:=by
 intro rs us h
 induction h with
 | nil=>simp
 | @tmp q u rs us hq h ih =>
  have g2:a.tmps.getD q undef=u:=by rw[Array.getD_eq_getD_getElem?,ha.2.2 _ _ hq];rfl
  simp only[List.mapM_cons,Sem.run_bind,Bz,g2,Sem.run_pure,Result.andThen_ok,ih]
 | @agg p b t e bM cs rs us i hp ht hg hi hl h ih =>
  have hc:∀j v,cs[j]?=some v→w.cell? ⟨b,0+j,none⟩=some v:=fun j v hj=>by rw[dy (hw.tD hi),Nat.zero_add];exact hj
  have N8:=im (P:=P) (w:=w) ht hg hl hc
  have WV:(loadVar t ⟨b,0,none⟩).run P w = .ok (.agg cs.toArray) w:=by simpa[Instr.loadAt,Instr.sureAddr]using N8
  have g1:a.tmps.getD p undef = .pointer (some ⟨b,0,none⟩):=by simp[Array.getD_eq_getD_getElem?,ha.2.2 p _ hp]
  simp only[List.mapM_cons,Sem.run_bind,Bz,g1,asAddr,Sem.run_pure,Result.andThen_ok,WV,ih]
 | @one p b t e bM u rs us i hp ht hg hi h ih =>
  have g1:=xB (P:=P) i ha hw hp ht hg hi
  simp only[List.mapM_cons,Sem.run_bind,g1,Sem.run_pure,Result.andThen_ok,ih]
theorem aQ{P:Program}{U:Tr}[hU:fT P U]{f:FuncId}{n:Nat}{R:Ending→World→Prop}{G:cC}{ds:List Nat}{k k0:List Item}{L:fC}{H H':List HP}{fn:Func}{F:List HP}{Post:Value→List HP→Prop}{us:List Value}{Hq:List HP}(hR:Ends R G F Post)(hf:P.funcs[f]?=some fn)(hk:iy 1000 k0 = .mk (.code .ret::k))(he:ao H (ds.map (fun r=>ag r (.deferred (some [])))++H'))(hr:aI P U L H' fn.results.toList us)(fp:Post (eR us) Hq)(zM:ao H' (Hq++F)):K P f n R { G with ds:=ds } k0 L H:=by
 refine Pg hR hf hk he (fun a w ha hw=>?_) fp zM
 have h1:=hr.run (P:=P) ha hw
 rw[oy,Array.mapM_eq_mapM_toList]
 simp only[Sem.run_bind,Sem.run_map,h1,Sem.run_pure,Result.andThen_ok]
 match us with
 | []=>simp[eR]
 | [v]=>simp[eR]
 | v::u::vs=>simp[eR]
section
variable{P:Program}{U:Tr}[hU:fT P U]{f:FuncId}{n:Nat}{R:Ending→World→Prop}{G:cC}{k:List Item}{L:fC}{H H':List HP}{S:World→Prop}{all:Array Oper}{rest:Pl}{ty:TypeId}{pos:String}{af:Array Edge}{gd:Option (Nat × Bool)}{m:Bool}{d:Tmp}
theorem LK{t elem:TypeId}{bM te:Ty}{x lo hi mx:Operand}{a0:Option Addr}{len cap:Nat}{p q r:Int}{j1 j2 j3:IntKind}(hd:Nat.blt d n=true)(ht:U.get t=some bM)(hu:bM.gC = .slice elem)(he:U.get elem=some te)(hx:ev L x=some (.slice a0 len cap))(AH:ev L lo=some (.int j1 p))(FJ:ev L hi=some (.int j2 q))(hmx:ev L mx=some (.int j3 r))(h0:0≤p)(D7:p≤q)(hqr:q≤r)(NV:r≤(cap:Int))(h:J P f n R G S all rest k ((d,.slice (sliceAt a0 r.toNat p.toNat te.info.size) (q.toNat-p.toNat) (r.toNat-p.toNat))::L) H) :
  J P f n R G S all (.cons m true ⟨some d,.slice t x (some lo) (some hi) (some mx),ty,pos,af,gd⟩ rest) k L H:=by
 refine dk hd (fun a ha w=>?_) h
 have hb:(Instr.sliceBounds true len cap (some (a.eval lo)) (some (a.eval hi)) (some (a.eval mx))).run P w = .ok (p.toNat,q.toNat,r.toNat) w:=by
  unfold Instr.sliceBounds
  have e1:0≤r∧r≤(cap:Int):=⟨ah,NV⟩
  have e2:0≤q∧q≤((r.toNat:Nat):Int):=⟨ah,ah⟩
  have e3:0≤p∧p≤((q.toNat:Nat):Int):=⟨ah,ah⟩
  have e4:q≤max r 0:=by omega
  have e5:p≤max q 0:=by omega
  have e6:0≤q:=by omega
  simp[ha.ev AH,ha.ev FJ,ha.ev hmx,Instr.sliceBound,asIntOf,e1,e2,e3,e4,e5,e6,h0]
 simp only[execOp,ha.ev hx,Instr.sliceAt,Sem.run_bind,run_underlying ht,Result.andThen_ok,hu,Instr.slice,Option.map_some,hb,run_sizeOf he,Sem.run_pure,sliceAt]
 by_cases hc:p.toNat=r.toNat
 ·simp[hc]
 ·simp[hc]
  intro hr0
  exfalso;omega
end
end Go.SL
namespace Go.Proofs.YtedjnjkijiddlaaGreatDoor
open Go Go.SL
attribute [local irreducible] J K aD Ends ag aB aM bN aZ aP aV bh bW Sha.chunks Sha.chunk Sha.rounds Sha.sched dM
theorem vo{tag:UInt8}{ps:List (List UInt8)}{i:Nat}{p:List UInt8}(h:ps[i]?=some p):cV tag (ps.take (i+1))=cV tag (ps.take i)++(lj p.length++p):=by
 unfold cV
 rw[List.take_add_one,h]
 simp
theorem Av(tag:UInt8)(ps:List (List UInt8))(i:Nat):(cV tag (ps.take i)).length≤(cV tag ps).length:=by
 conv=>rhs;rw[← List.take_append_drop i ps]
 unfold cV
 rw[List.flatMap_append]
 simp only[List.length_cons,List.length_append];omega
theorem s9(tag:UInt8)(ps:List (List UInt8)):ps.length≤(cV tag ps).length:=by
 unfold cV
 induction ps with
 | nil=>simp
 | cons p ps ih =>
  have h8:(lj p.length).length=8:=by simp[lj]
  simp only[List.flatMap_cons,List.length_cons,List.length_append,h8]at ih ⊢
  omega
theorem Iz(n:Nat):(lj n).length=8:=by simp[lj]
theorem DW{n i:Nat}(h:i<8):(lj n).take (i+1)=(lj n).take i++[UInt8.ofNat (n/2 ^ (8*i))]:=by
 rw[List.take_add_one];simp[lj,h]
set_option maxRecDepth 20000 in
theorem yW(A:HP)(hK:oe A)(tag:UInt8)(v:Value)(ps:List (List UInt8))(hv:rM A v ps)(hl:(cV tag ps).length≤1000000000) :
  aD Tryz.prog 163 [u8 tag,v] [A] (fun r H=>r=dV (ct tag ps)∧H=[A]):=by
 obtain⟨cs,dK,ln,⟨a,c,rfl,hc⟩,pj⟩:=hv
 have vU:=s9 tag ps
 refine aD.enter Tryz.func163 ak rfl Tryz.ntmps163 zr zr ?_
 intro G F R hE
 refine aE rfl ?_
 refine aw zr zr zr bz ?_
 intro b4
 (refine rG ?_)
 refine aE rfl ?_
 (refine rG ?_)
 refine al (cs:=bV [tag]) zr zr zr zr zr zr zr zr zr bz ?_
 intro b0
 refine go ?_
 refine aj (eL 5 1 b0 1 1 (bV [tag]) [] _ rfl (Nat.le_refl _) (by simp[bV])) ?_
 refine bu (fun y:Nat × Option Addr × Nat=>y.1≤ps.length) (fun y=>ps.length-y.1)
  (fun y=>[(4,ptr b4),(11,.slice a ps.length c),(12,.int .i64 (ps.length:Int)),(13,.int .i64 (y.1:Int)),(5,.slice y.2.1 (cV tag (ps.take y.1)).length y.2.2)])
  (fun y=>aB 5 1 (.slice y.2.1 (cV tag (ps.take y.1)).length y.2.2) (cV tag (ps.take y.1)).length (bV (cV tag (ps.take y.1)))::A::ag b4 (cl (dC Dg.zero) 35)::F) (0,some ⟨b0,0,none⟩,1) (Nat.zero_le _) rfl cu ad ?_
 rintro⟨i,a1,c1⟩ hi ih
 simp only at hi
 dsimp only
 refine go ?_
 refine au zr zr ?_ ?_
 ·intro cW
  have kY:i<ps.length:=by omega
  obtain⟨p,hp⟩:∃p,ps[i]?=some p:=⟨ps[i],List.getElem?_eq_getElem kY⟩
  obtain⟨cv,mO,hb⟩:=pj i p hp
  obtain⟨b1,o1,c0,pq⟩:=dK.some (by intro h;rw[h]at mO;simp at mO)
  simp only[Value.slice.injEq]at pq
  obtain⟨rfl,-,rfl⟩:=pq
  have jY:=vo (tag:=tag) hp
  have hle:=Av tag ps (i+1)
  have aaB:=Iz p.length
  rw[jY]at hle
  simp only[List.length_append]at hle
  obtain⟨T0,Ow⟩:∃T0,T0=cV tag (ps.take i):=⟨_,rfl⟩
  rw[← Ow]at jY hle ⊢
  obtain⟨ax,cx,rfl,hcx⟩:=hb.2
  have KF:∀j:Nat,j≤8→(T0++(lj p.length).take j).length=T0.length+j:=fun j hj=>by
   rw[List.length_append,List.length_take];omega
  refine go ?_
  refine bK i zr zr zr zr zr zr zr zr kY ?_
  refine aK ?_
  refine bg 1 i zr zr zr dK rfl mO zr zr ?_
  refine go ?_
  refine bu (fun y:Nat × Option Addr × Nat=>y.1≤8) (fun y=>8-y.1)
   (fun y=>[(4,ptr b4),(7,.slice ax p.length cx),(11,.slice (some ⟨b1,o1,none⟩) ps.length c),(12,.int .i64 (ps.length:Int)),(13,.int .i64 (i:Int)),(5,.slice y.2.1 (T0++(lj p.length).take y.1).length y.2.2),(17,.int .i64 (y.1:Int))])
   (fun y=>aB 5 1 (.slice y.2.1 (T0++(lj p.length).take y.1).length y.2.2) (T0++(lj p.length).take y.1).length (bV (T0++(lj p.length).take y.1))::A::ag b4 (cl (dC Dg.zero) 35)::F) (0,a1,c1) (Nat.zero_le _) rfl (by simp only[List.take_zero,List.append_nil];exact cu) (by simp only[List.take_zero,List.append_nil];exact ad) ?_
  rintro⟨j,a2,c2⟩ hj GM
  simp only at hj
  have vT:=KF j hj
  dsimp only
  refine go ?_
  refine au zr zr ?_ ?_
  ·intro hj8
   have WY:j<8:=by omega
   have htj:=DW (n:=p.length) WY
   refine go ?_
   refine gT zr zr zr (by simp only[gg];omega) ?_
   ((refine az 25 ((.int .i64 ((8*j:Nat):Int))) rfl ((congrArg (Value.int .i64) ah)) ?_))
   refine iW zr zr zr ah ?_
   ((refine az 26 ((.int .u64 ((p.length/2 ^ (8*j):Nat):Int))) rfl ((congrArg (Value.int .u64) (by rw[Int.toNat_natCast,show min (8*j) IntKind.u64.bits=8*j from by show min (8*j) 64=_;omega];simp))) ?_))
   refine eG ?_
   refine iN zr zr zr zr zr zr ?_
   ((refine az 27 ((u8 (UInt8.ofNat (p.length/2 ^ (8*j))))) rfl ((lq _)) ?_))
   (refine al (cs:=bV [(UInt8.ofNat (p.length/2 ^ (8*j)))]) zr zr zr zr zr zr zr zr zr bz ?_;intro bA;refine aO (mm:=1) (news:=bV [(UInt8.ofNat (p.length/2 ^ (8*j)))]) 1 0 zr zr zr zr zr zr zr zr zr zr zr zr (Vw.ag rfl) rfl (cR _) (by(rw[vT];omega)) (by show(_+_)*1≤_;(rw[vT];omega)) (fun _=>rfl) bz ?_;intro vA;rw[show bV ((T0++(lj p.length).take j))++bV [(UInt8.ofNat (p.length/2 ^ (8*j)))]=bV (((T0++(lj p.length).take j))++[(UInt8.ofNat (p.length/2 ^ (8*j)))])from by simp[bV],show((T0++(lj p.length).take j)).length+1=(((T0++(lj p.length).take j))++[(UInt8.ofNat (p.length/2 ^ (8*j)))]).length from(@List.length_append _ ((T0++(lj p.length).take j)) [(UInt8.ofNat (p.length/2 ^ (8*j)))]).symm];((refine aJ 1 rfl ?_));rintro aA cA rfl)
   rw[show T0++(lj p.length).take j++[UInt8.ofNat (p.length/2 ^ (8*j))]=T0++(lj p.length).take (j+1)from by rw[htj,List.append_assoc]]
   refine go ?_
   refine aL GM (j+1,aA,cA) rfl (by simp only;omega) (by simp only;omega) cu ad
  intro fq
  have hj8:j=8:=by omega
  subst hj8
  rw[List.take_of_length_le ah]at vT ⊢
  refine go ?_
  (refine aO (mm:=(p).length) (news:=bV (p)) 0 1 zr zr zr zr zr zr zr zr zr zr zr zr (hb.1) (by show _=_*1;rw[bt];omega) (cR _) (by(rw[vT];omega)) (by show(_+_)*1≤_;(rw[vT];omega)) (fun _=>rfl) bz ?_;intro vA;rw[show bV ((T0++lj p.length))++bV (p)=bV (((T0++lj p.length))++(p))from by simp[bV],show((T0++lj p.length)).length+(p).length=(((T0++lj p.length))++(p)).length from(@List.length_append _ ((T0++lj p.length)) (p)).symm];((refine aJ 0 rfl ?_));rintro aA cA rfl)
  rw[show T0++lj p.length++p=cV tag (ps.take (i+1))from by rw[jY,List.append_assoc]]
  refine go ?_
  refine aL ih (i+1,aA,cA) rfl (by simp only;omega) (by simp only;omega) cu ad
 intro fq
 have gw:i=ps.length:=by omega
 subst gw
 rw[List.take_length]
 refine ql (bs:=cV tag ps) 0 rfl ?_
 intro QL
 refine aj (ao.bP [_,_] _) ?_
 refine go ?_
 ((refine ai zr zr zr zr (wA _ (hK.mono (aW (i:=1) rfl)) _ (cV tag ps) (QL.mono (aW (i:=0) rfl)) hl) ad ?_ bG))
 rintro _ _⟨rfl,rfl⟩
 refine aG (ao.cB _ _) ?_
 refine go ?_
 refine jq (U:=aN) 2 hE Tryz.func163 zr zr zr zr zr zr zr ⟨rfl,rfl⟩ ad
theorem OW(x:Nat)(hx:x<256):IntKind.u8.wrap ((BitVec.ofInt IntKind.u8.bits (x:Int) &&& BitVec.ofInt IntKind.u8.bits 15).toNat:Int)=((x%16:Nat):Int):=by
 have e2:(BitVec.ofInt IntKind.u8.bits (15:Int)).toNat=2 ^ 4-1:=by decide
 rw[BitVec.toNat_and,tk hx,e2,Nat.and_two_pow_sub_one_eq_mod]
 exact cK (by simp only[gg];omega)
theorem NJ(n:Nat)(h:n<16):uV ⟨#[48,49,50,51,52,53,54,55,56,57,97,98,99,100,101,102]⟩ n=Bt n:=by
 have:∀n:Nat,n<16→uV ⟨#[48,49,50,51,52,53,54,55,56,57,97,98,99,100,101,102]⟩ n=Bt n:=by decide
 exact this n h
theorem F4{d:Dg}{i:Nat}(h:i<32):(gP d).take (2*(i+1))=(gP d).take (2*i)++[Bt ((d.at i).toNat/16),Bt ((d.at i).toNat%16)]:=by
 have e1:ve d (2*i)=Bt ((d.at i).toNat/16):=by unfold ve;rw[if_pos ah,show 2*i/2=i from by omega]
 have e2:ve d (2*i+1)=Bt ((d.at i).toNat%16):=by unfold ve;rw[if_neg ah,show(2*i+1)/2=i from by omega]
 rw[show 2*(i+1)=2*i+1+1 from by omega,List.take_add_one,List.take_add_one,nv d ah,nv d ah,e1,e2]
 simp
theorem XF(d:Dg){i:Nat}(h:i<32):(dC d)[i]?=some (u8 (d.at i)):=by
 rw[dG]
 exact oU (d.OT h)
set_option maxRecDepth 20000 in
theorem O0(d:Dg):aD Tryz.prog 119 [dV d] [] (fun r H=>r = .string (strOf (gP d))∧H=[]):=by
 unfold dV
 refine aD.enter Tryz.func119 ak rfl Tryz.ntmps119 zr zr ?_
 intro G F R hE
 refine aE rfl ?_
 refine bC zr zr bz ?_
 intro b1
 refine go ?_
 refine mW (U:=aN) (p:=0) (q:=64) zr zr zr zr zr zr zr zr zr ah ah (by decide) bz ?_
 intro b3
 refine go ?_
 have ac1:=eL 5 1 b3 0 64 [] (List.replicate 64 (u8 0)) (ag b1 (cl (dC d) 35)::F) rfl ah (by rw[List.length_replicate];exact Nat.le_add_left _ _)
 refine aG ac1 ?_
 refine aH (U:=aN) 1 zr zr zr zr zr zr ?_
 refine go ?_
 refine bu (fun y:Nat × Option Addr × Nat=>y.1≤32) (fun y=>32-y.1)
  (fun y=>[(3,.slice y.2.1 ((gP d).take (2*y.1)).length y.2.2),(7,dV d),(8,.int .i64 (y.1:Int))])
  (fun y=>aB 5 1 (.slice y.2.1 ((gP d).take (2*y.1)).length y.2.2) ((gP d).take (2*y.1)).length (bV ((gP d).take (2*y.1)))::F) (0,some ⟨b3,0,none⟩,64) (Nat.zero_le _) rfl cu ad ?_
 rintro⟨i,a1,c1⟩ hi ih
 simp only at hi
 dsimp only
 have hlen:((gP d).take (2*i)).length=2*i:=by rw[List.length_take,js];omega
 refine go ?_
 refine au zr zr ?_ ?_
 ·intro cW
  have tu:i<32:=by omega
  have hg:=XF d tu
  have jY:=F4 (d:=d) tu
  have hx:=(d.at i).toNat_lt
  unfold dV
  refine go ?_
  refine zh (U:=aN) zr zr zr zr zr zr zr zr ah ah (show(dC d).toArray.toList[((i:Nat):Int).toNat]?=some (u8 (d.at i))from by rw[Int.toNat_natCast];exact hg) ?_
  generalize d.at i=x at jY hx
  refine go ?_
  refine aF (fun w=>Sat G w ([])) (.st 0 (.st 1 (.st 2 (.st 3 (.st 4 (.st 5 (.st 6 (.act 7 (.act 8 (.st 9 .nil)))))))))) rfl ak ak ak ei ?_
  refine go ?_
  refine iW zr zr zr ah ?_
  ((refine az 13 ((.int .u8 ((x.toNat/16:Nat):Int))) rfl ((congrArg (Value.int .u8) (by show(x.toNat:Int)/2 ^ 4=_;omega))) ?_))
  refine sD (U:=aN) zr zr zr zr zr ah (by show((x.toNat/16:Nat):Int)<16;omega) ?_
  ((refine az 14 ((u8 (Bt (x.toNat/16)))) rfl ((congrArg u8 (NJ (x.toNat/16) ah))) ?_))
  refine go ?_
  refine go ?_
  ((refine az 16 ((.int .u8 ((x.toNat%16:Nat):Int))) rfl ((congrArg (Value.int .u8) (OW x.toNat hx))) ?_))
  refine sD (U:=aN) zr zr zr zr zr ah (by show((x.toNat%16:Nat):Int)<16;omega) ?_
  ((refine az 17 ((u8 (Bt (x.toNat%16)))) rfl ((congrArg u8 (NJ (x.toNat%16) ah))) ?_))
  refine al (cs:=bV [Bt (x.toNat/16),Bt (x.toNat%16)]) zr zr zr zr zr zr zr zr zr (fun _ _ hw=>hw.cy ad) ?_
  intro bA
  refine aO (mm:=2) (news:=bV [Bt (x.toNat/16),Bt (x.toNat%16)]) 1 0 zr zr zr zr zr zr zr zr zr zr zr zr (Vw.ag rfl) rfl (cR _) (by rw[hlen];omega) (by show(_+_)*1≤_;rw[hlen];omega) (fun _=>rfl) (fun _ _ hw=>hw.cy ad) ?_
  intro vA
  rw[show bV ((gP d).take (2*i))++bV [Bt (x.toNat/16),Bt (x.toNat%16)]=bV ((gP d).take (2*(i+1)))from by rw[jY];simp[bV],show((gP d).take (2*i)).length+2=((gP d).take (2*(i+1))).length from by rw[jY,List.length_append];rfl]
  ((refine aJ 1 rfl ?_))
  rintro aA cA rfl
  refine go ?_
  refine aL ih (i+1,aA,cA) rfl (by simp only;omega) (by simp only;omega) cu ad
 intro fq
 have tu:i=32:=by omega
 subst tu
 rw[List.take_of_length_le (by rw[js];omega)]
 refine ql (bs:=gP d) 0 rfl ?_
 intro QL
 refine go ?_
 refine Cs (U:=aN) 0 zr zr zr zr zr zr zr zr zr QL.1 ?_
 refine go ?_
 ((refine ae hE Tryz.func119 rfl _ rfl ⟨rfl,rfl⟩ ad))
theorem Jz(c:UInt8):aD Tryz.prog 213 [u8 c] [] (fun r H=>r = .tuple #[.int .u8 (((kZ c).getD 0:Nat):Int),.bool (kZ c).isSome]∧H=[]):=by
 have hx:=c.toNat_lt
 have h1:(48≤c.toNat∧c.toNat≤57)→Value.tuple #[.int .u8 ((c.toNat:Int)-48),.bool true] = .tuple #[.int .u8 (((kZ c).getD 0:Nat):Int),.bool (kZ c).isSome]:=fun h=>by
  unfold kZ;rw[if_pos h];simp only[Option.getD_some,Option.isSome_some];rw[show((c.toNat-48:Nat):Int)=(c.toNat:Int)-48 from by omega]
 have h2:(97≤c.toNat∧c.toNat≤102)→Value.tuple #[.int .u8 ((c.toNat:Int)-97+10),.bool true] = .tuple #[.int .u8 (((kZ c).getD 0:Nat):Int),.bool (kZ c).isSome]:=fun h=>by
  unfold kZ;rw[if_neg ah,if_pos h];simp only[Option.getD_some,Option.isSome_some];rw[show((c.toNat-87:Nat):Int)=(c.toNat:Int)-97+10 from by omega]
 have h3:¬(48≤c.toNat∧c.toNat≤57)∧¬(97≤c.toNat∧c.toNat≤102)→Value.tuple #[.int .u8 0,.bool false] = .tuple #[.int .u8 (((kZ c).getD 0:Nat):Int),.bool (kZ c).isSome]:=fun h=>by
  unfold kZ;rw[if_neg h.1,if_neg h.2];rfl
 unfold u8
 refine aD.enter Tryz.func213 ak rfl Tryz.ntmps213 zr zr ?_
 intro G F R hE
 repeat'(first|(with_reducible intro qh)|refine gO ?_|refine iC zr zr zr zr ?_ ?_|refine au zr zr ?_ ?_)
 all_goals(first|((refine ae hE Tryz.func213 rfl _ rfl ⟨h1 ⟨ah,ah⟩,rfl⟩ ad))|((refine ae hE Tryz.func213 rfl _ rfl ⟨h2 ⟨ah,ah⟩,rfl⟩ ad))|((refine ae hE Tryz.func213 rfl _ rfl ⟨h3 ah,rfl⟩ ad)))
theorem Qm(s:List UInt8){i:Nat}(h:i<64):(FE s i)[i/2]?=some (UInt8.ofNat (if i%2=0 then 0 else lk s (i-1))):=by
 rw[qD s i ah]
 by_cases hm:i%2=0
 ·rw[if_neg ah,if_neg ah,if_pos hm]
 ·rw[if_neg ah,if_pos ah,if_neg hm,show 2*(i/2)=i-1 from by omega]
theorem M9(s:List UInt8){i:Nat}(h:i<64):(FE s i).set (i/2) (UInt8.ofNat (16*(if i%2=0 then 0 else lk s (i-1))+lk s i))=FE s (i+1):=by
 apply List.ext_getElem?
 intro j
 rw[List.getElem?_set,kC]
 rcases Nat.lt_or_ge j 32 with hj|hj
 ·rw[qD s i hj,qD s (i+1) hj]
  by_cases e:i/2=j
  ·subst e
   rw[if_pos rfl,if_pos hj]
   congr 2
   by_cases hm:i%2=0
   ·rw[if_pos hm,if_neg ah,if_pos ah,show 2*(i/2)=i from by omega];omega
   ·rw[if_neg hm,if_pos ah,show 2*(i/2)=i-1 from by omega,show i-1+1=i from by omega]
  ·rw[if_neg e]
   congr 2
   have e1:(2*j+1<i)↔(2*j+1<i+1):=by omega
   have e2:¬2*j+1<i→((2*j<i)↔(2*j<i+1)):=by omega
   by_cases h1:2*j+1<i
   ·rw[if_pos h1,if_pos (e1.1 h1)]
   ·rw[if_neg h1,if_neg (fun h=>h1 (e1.2 h))]
    by_cases h2:2*j<i
    ·rw[if_pos h2,if_pos ((e2 h1).1 h2)]
    ·rw[if_neg h2,if_neg (fun h=>h2 ((e2 h1).2 h))]
 ·rw[if_neg ah,List.getElem?_eq_none (by rw[kC];exact hj),List.getElem?_eq_none (by rw[kC];exact hj)]
theorem Wd(x y:Nat)(hx:x<16)(hy:y<16):IntKind.u8.wrap ((BitVec.ofInt IntKind.u8.bits ((16*x:Nat):Int) ||| BitVec.ofInt IntKind.u8.bits (y:Int)).toNat:Int)=((16*x+y:Nat):Int):=by
 have h:=oC (a:=y) (c:=x) (k:=4) ah
 rw[BitVec.toNat_or,tk ah,tk ah,Nat.or_comm,show 16*x=x*2 ^ 4 from by omega,h]
 exact(cK (by simp only[gg];omega)).trans (congrArg _ ah)
set_option maxRecDepth 20000 in
theorem Ly(s:ByteArray):aD Tryz.prog 181 [.string s] [] (fun r H=>r=(match jJ s.data.toList with
    | some d => .tuple #[dV d,.int .i64 0]
    | none => .tuple #[dV Dg.zero,.int .i64 2])∧H=[]):=by
  obtain⟨l,hl⟩:∃l,l=s.data.toList:=⟨_,rfl⟩
  have ir:s.size=l.length:=by rw[hl];rfl
  rw[← hl]
  refine aD.enter Tryz.func181 ak rfl Tryz.ntmps181 zr zr ?_
  intro G F R hE
  refine aE rfl ?_
  refine aw zr zr zr bz ?_
  intro b2
  (refine rG ?_)
  refine aE rfl ?_
  refine aw zr zr zr bz ?_
  intro b4
  refine go ?_
  refine au zr zr ?_ ?_
  · intro bT
    have hp:jJ l=none:=by unfold jJ;rw[if_neg (by intro h;apply bT;rw[ir,h.1];rfl)]
    rw[hp]at hE
    refine aE rfl ?_
    refine aH (U:=aN) 0 zr zr zr zr zr zr ?_
    refine go ?_
    (refine aS hE ?_;apply aQ (U:=aN) hE Tryz.func181 rfl (ao.refl _);(repeat(first|exact aI.nil|apply aI.tmp rfl|apply aI.agg 1 zr zr zr zr zr));exact⟨rfl,rfl⟩;exact ad)
  intro heq
  have Et:l.length=64:=by rw[ir]at heq;omega
  have h8:∀x:UInt8,x.toNat<256:=fun x=>x.toNat_lt
  refine go ?_
  ((refine bB 13 ((.int .i64 64)) rfl ((congrArg (Value.int .i64) (by rw[ir];omega))) ?_))
  refine bu (fun i:Nat=>i≤64∧∀j,j<i→kZ (l.getD j 0)≠none) (fun i=>64-i)
    (fun i=>[(0,.string s),(2,ptr b2),(3,.int .i64 0),(4,ptr b4),(13,.int .i64 64),(14,.int .i64 (i:Int))])
    (fun i=>ag b4 (cl (bV (FE l i)) 35)::ag b2 (cl (dC Dg.zero) 35)::F) 0 ⟨Nat.zero_le _,fun j hj=>by omega⟩ rfl cu (by rw[M8];exact ad) ?_
  rintro i⟨hi,mN⟩ ih
  refine go ?_
  refine au zr zr ?_ ?_
  · intro cW
    have KK:i<64:=by omega
    have hold:=Qm l KK
    have vQ:=M9 l KK
    have ab8:=BP l i
    have hvp:=BP l (i-1)
    refine go ?_
    refine sD (U:=aN) zr zr zr zr zr ah (by rw[ir];omega) ?_
    ((refine az 20 ((u8 (l.getD i 0))) rfl ((by rw[Int.toNat_natCast];unfold uV;rw[← hl];rfl)) ?_))
    refine go ?_
    ((refine ai zr zr zr zr (Jz (l.getD i 0)) ad ?_ bG))
    rintro _ _⟨rfl,rfl⟩
    have hh0:(kZ (l.getD i 0)).getD 0=lk l i:=rfl
    cases hx:kZ (l.getD i 0)with
    | none =>
      have hp:jJ l=none:=by
        unfold jJ;rw[if_neg]
        intro h
        have hm:l.getD i 0∈l:=by rw[List.getD_eq_getElem?_getD,List.getElem?_eq_getElem ah];exact List.getElem_mem _
        exact h.2 _ hm hx
      rw[hp]at hE
      refine go ?_
      refine jT (U:=aN) zr zr zr zr zr ?_
      refine go ?_
      (refine aS hE ?_;apply aQ (U:=aN) hE Tryz.func181 rfl (ao.refl _);(repeat(first|exact aI.nil|apply aI.tmp rfl|apply aI.agg 1 zr zr zr zr zr));exact⟨rfl,rfl⟩;exact ad)
    | some v =>
      have hv:v=lk l i:=by rw[hx]at hh0;exact hh0
      simp only[Option.getD_some,Option.isSome_some]
      rw[hv]
      obtain⟨o,ho⟩:∃o,o=(if i%2=0 then 0 else lk l (i-1)):=⟨_,rfl⟩
      have acD:o<16:=by rw[ho];split <;> omega
      rw[← ho]at hold vQ
      have hq:(i:Int)/2=((i/2:Nat):Int):=by omega
      refine go ?_
      (repeat(first|refine gO ?_|refine nZ zr zr zr ah ah (by simp only[gg];omega) ?_|refine ed (U:=aN) (i/2) zr zr zr zr zr zr zr hq ah ?_|(refine aK ?_;refine mj (U:=aN) 0 (i/2) zr zr zr (Nat.zero_add _) (oU hold) zr zr ?_)))
      refine np zr zr zr ah ?_
      ((refine az 33 ((.int .u8 ((16*o:Nat):Int))) rfl ((congrArg (Value.int .u8) (by rw[show(UInt8.ofNat o).toNat=o from by rw[UInt8.toNat_ofNat'];omega];exact(cK (by show 0≤(o:Int)*2 ^ 4∧_;simp only[show min ((4:Int).toNat) IntKind.u8.bits=4 from rfl];omega)).trans (by show(o:Int)*2 ^ 4=_;omega)))) ?_))
      refine go ?_
      ((refine az 35 ((u8 (UInt8.ofNat (16*o+lk l i)))) rfl ((congrArg (Value.int .u8) (by rw[Wd o (lk l i) acD ab8,UInt8.toNat_ofNat'];omega))) ?_))
      (repeat((refine ed (U:=aN) (i/2) zr zr zr zr zr zr zr hq ah ?_)))
      refine aT ?_
      refine gH (U:=aN) 0 gE zr zr zr zr zr zr zr (by rw[bt,kC];omega) rfl ?_
      rw[show 0+i/2=i/2 from Nat.zero_add _,show(bV (FE l i)).set (i/2) (u8 (UInt8.ofNat (16*o+lk l i)))=bV (FE l (i+1))from by rw[← vQ];simp[bV]]
      refine go ?_
      refine aL ih (i+1) rfl ⟨ah,fun j hj=>by
        rcases Nat.lt_or_ge j i with h|h
        · exact mN j h
        · rw[show j=i from by omega,hx];simp⟩ ah cu ad
  intro fq
  have KK:i=64:=by omega
  subst KK
  have hp:jJ l=some ⟨FE l 64,kC l 64⟩:=by
    unfold jJ
    rw[if_pos ⟨Et,fun c hc=>by
      obtain⟨j,hj,rfl⟩:=List.mem_iff_getElem.1 hc
      have:=mN j ah
      rwa[List.getD_eq_getElem?_getD,List.getElem?_eq_getElem hj]at this⟩]
  rw[hp]at hE
  obtain⟨d,hd⟩:∃d:Dg,d=⟨FE l 64,kC l 64⟩:=⟨_,rfl⟩
  rw[← hd]at hE
  have Yv:bV (FE l 64)=dC d:=by rw[dG,hd]
  rw[Yv]
  clear ih
  refine go ?_
  refine aH (U:=aN) 0 zr zr zr zr zr zr ?_
  refine go ?_
  (refine aS hE ?_;apply aQ (U:=aN) hE Tryz.func181 rfl (ao.refl _);(repeat(first|exact aI.nil|apply aI.tmp rfl|apply aI.agg 1 zr zr zr zr zr));exact⟨rfl,rfl⟩;exact ad)
end Go.Proofs.YtedjnjkijiddlaaGreatDoor
namespace Go.Proofs.YtedjnjkijiddlaaGreatDoor
open Go Go.SL
def gF(l:List Dg)(i:Nat):List Dg:=(bq l).take i++l.drop i
theorem qB(l:List Dg){i:Nat}(h:i≤l.length/2):(gF l i).length=l.length:=by
 unfold gF
 rw[List.length_append,List.length_take,List.length_drop,cN];omega
theorem uA(l:List Dg){i j:Nat}(h:i≤l.length/2)(hj:i≤j):(gF l i)[j]?=l[j]? := by
 unfold gF
 have h1:((bq l).take i).length=i:=by rw[List.length_take,cN];omega
 rw[List.getElem?_append_right ah,h1,List.getElem?_drop,show i+(j-i)=j from by omega]
theorem A8{l:List Dg}{i:Nat}{a b:Dg}(ha:l[2*i]?=some a)(hb:l[2*i+1]?=some b):(bq l)[i]?=some (g9 a b):=by
 rw[oX,ha,hb]
theorem vG{l:List Dg}{i:Nat}{a:Dg}(ha:l[2*i]?=some a)(hb:l.length≤2*i+1):(bq l)[i]?=some a:=by
 rw[oX,ha,List.getElem?_eq_none hb]
theorem JT(l:List Dg){i:Nat}(h:i<l.length/2){x:Dg}(hx:(bq l)[i]?=some x):(gF l i).set i x=gF l (i+1):=by
 unfold gF
 have h1:((bq l).take i).length=i:=by rw[List.length_take,cN];omega
 rw[List.set_append_right _ _ ah,h1,Nat.sub_self,List.take_add_one,hx]
 have h2:l.drop i=l[i]::l.drop (i+1):=List.drop_eq_getElem_cons ah
 rw[h2,List.set_cons_zero]
 simp
theorem Gh(l:List Dg)(h:l.length%2=0):(gF l (l.length/2)).take ((l.length+1)/2)=bq l:=by
 unfold gF
 have h1:(bq l).length=(l.length+1)/2:=cN l
 rw[List.take_of_length_le (l:=bq l) ah,List.take_append_of_le_length ah,List.take_of_length_le ah]
theorem JU(l:List Dg)(h:l.length%2=1){x:Dg}(hx:l[l.length-1]?=some x):((gF l (l.length/2)).set (l.length/2) x).take ((l.length+1)/2)=bq l:=by
 have h1:(bq l).length=(l.length+1)/2:=cN l
 have h2:(bq l)[l.length/2]?=some x:=vG (by rw[← hx];congr 1;omega) ah
 apply List.ext_getElem?
 intro j
 rw[List.getElem?_take]
 rcases Nat.lt_or_ge j ((l.length+1)/2)with hj|hj
 ·rw[if_pos hj,List.getElem?_set]
  by_cases yg:l.length/2=j
  ·rw[if_pos yg,if_pos (by rw[qB l (Nat.le_refl _)];omega),← yg,h2]
  ·rw[if_neg yg]
   unfold gF
   rw[List.getElem?_append_left (by rw[List.length_take];omega),List.getElem?_take,if_pos ah]
 ·rw[if_neg ah,List.getElem?_eq_none ah]
def dj:Nat→List Dg→List Dg
 | 0,l=>l
 | j+1,l=>bq (dj j l)
theorem ox(l:List Dg):∀j,dj j (bq l)=dj (j+1) l
 | 0=>rfl
 | j+1=>by
  show bq (dj j (bq l))=_
  rw[ox l j];rfl
theorem By(l:List Dg):∀j,(dj j l).length≤l.length
 | 0=>Nat.le_refl _
 | j+1=>by
  have:=By l j
  simp only[dj,cN];omega
theorem sU(l:List Dg)(h:1≤l.length):∀j,1≤(dj j l).length
 | 0=>h
 | j+1=>by
  have:=sU l h j
  simp only[dj,cN];omega
theorem HZ:∀(f:Nat) (l:List Dg) (j:Nat),l.length≤f+1→(∀i,i<j→1<(dj i l).length)→(dj j l).length≤1→RP f l=dj j l
 | 0,l,j,hf,hi,hj=>by
  cases j with
  | zero=>rfl
  | succ j =>
   have:=hi 0 ah
   simp only[dj]at this;omega
 | f+1,l,j,hf,hi,hj=>by
  unfold RP
  cases j with
  | zero=>rw[if_pos (show l.length≤1 from hj)];rfl
  | succ j =>
   have h0:=hi 0 ah
   simp only[dj]at h0
   rw[if_neg ah,HZ f (bq l) j (by rw[cN];omega) (fun i h=>by rw[ox];exact hi (i+1) ah) (by rw[ox];exact hj),ox]
theorem Di{l:List Dg}{j:Nat}(h1:l≠[])(hi:∀i,i<j→1<(dj i l).length){x:Dg}(hj:dj j l=[x]):rl l=x:=by
 unfold rl
 rw[if_neg h1,HZ _ l j ah hi (by rw[hj];simp),hj]
 rfl
theorem ju(k:Nat)(hk:0<k):∀(f:Nat) (b:List UInt8) (j:Nat),b.length≤f→(gf k f b)[j]?=if j*k<b.length then some ((b.drop (j*k)).take k)else none
 | 0,b,j,h=>by
  have:b=[]:=List.eq_nil_of_length_eq_zero ah
  subst this;simp[gf]
 | f+1,b,j,h=>by
  unfold gf
  by_cases hb:b=[]
  ·subst hb;simp
  ·rw[if_neg hb]
   have kX:0<b.length:=List.length_pos_iff.2 hb
   cases j with
   | zero=>simp[kX]
   | succ j =>
    rw[List.getElem?_cons_succ,ju k hk f (b.drop k) j (by rw[List.length_drop];omega),List.length_drop,List.drop_drop]
    have e:(j+1)*k=j*k+k:=by rw[Nat.add_mul,Nat.one_mul]
    rw[e,show k+j*k=j*k+k from Nat.add_comm _ _]
    by_cases cW:j*k<b.length-k
    ·rw[if_pos cW,if_pos ah]
    ·rw[if_neg cW,if_neg ah]
theorem mK(k:Nat)(hk:0<k)(b:List UInt8):(gf k b.length b).length=(b.length+k-1)/k:=by
 have hg:=ju k hk b.length b
 have h1:∀j,j<(gf k b.length b).length↔j<(b.length+k-1)/k:=by
  intro j
  have h2:=hg j (Nat.le_refl _)
  have h3:j<(b.length+k-1)/k↔j*k<b.length:=by
   rw[show j<(b.length+k-1)/k↔j+1≤(b.length+k-1)/k from Iff.rfl,Nat.le_div_iff_mul_le hk,Nat.add_mul,Nat.one_mul]
   omega
  rw[h3]
  constructor
  ·intro h
   rw[List.getElem?_eq_getElem h]at h2
   split at h2
   ·assumption
   ·cases h2
  ·intro h
   rw[if_pos h]at h2
   exact(List.getElem?_eq_some_iff.1 h2).1
 rcases Nat.lt_trichotomy (gf k b.length b).length ((b.length+k-1)/k)with h|h|h
 ·have:=(h1 _).2 h;omega
 ·exact h
 ·have:=(h1 _).1 h;omega
attribute [local irreducible] J K aD Ends ag aB aM bN aZ aP aV bh bW Sha.chunks Sha.chunk Sha.rounds Sha.sched dM ct
theorem eJ.block{b n:Nat}{bs:List UInt8}{l:List Value}{e:TypeId}(hn:bs.length=n)(hl:l=bV bs):eJ (ag b (cl l e)) (.slice (some ⟨b,0,none⟩) n n) bs:=by
 subst hn hl
 exact⟨Vw.ag (by rw[List.drop_zero,List.take_length]),_,_,rfl,Nat.le_refl _⟩
set_option maxRecDepth 20000 in
theorem E6(A:HP)(hK:oe A)(v:Value)(b:List UInt8)(hv:eJ A v b)(hl:b.length≤900000000):aD Tryz.prog 99 [v] [A] (fun r H=>r=dV (cU b)∧H=[A]):=by
 obtain⟨a,c,rfl,hc⟩:=hv.2
 refine aD.enter Tryz.func99 ak rfl Tryz.ntmps99 zr zr ?_
 intro G F R hE
 refine aE rfl ?_
 refine aw zr zr zr bz ?_
 intro b2
 (refine rG ?_)
 (refine aE rfl ?_;refine rG ?_)
 refine al (cs:=[.slice a b.length c]) zr zr zr zr zr zr zr zr zr bz ?_
 intro b0
 refine aG (ao.trans (ao.pick [0,2] rfl) (ao.bP [_,_] _)) ?_
 ((refine ai rfl rfl rfl rfl (yW (Sep [ag b0 (cl [.slice a b.length c] 22),A]) (hK.mono (aW (i:=1) rfl)) 0 _ [b] (rM.row rfl rfl (fun i x hx=>by cases i with|zero=>(simp at hx;subst hx;exact⟨_,rfl,hv⟩)|succ i=>simp at hx)) (by simp[cV,lj];omega)) ad ?_ bG))
 rintro _ _⟨rfl,rfl⟩
 refine aG (ao.cB _ _) ?_
 refine go ?_
 (refine aS hE ?_;apply aQ (U:=aN) hE Tryz.func99 rfl (ao.refl _);(repeat(first|exact aI.nil|apply aI.agg 2 zr zr zr zr zr));exact⟨rfl,rfl⟩;exact ad)
set_option maxRecDepth 20000 in
theorem y9(A:HP)(hK:oe A)(l r:Dg):aD Tryz.prog 162 [dV l,dV r] [A] (fun x H=>x=dV (g9 l r)∧H=[A]):=by
 unfold dV
 refine aD.enter Tryz.func162 ak rfl Tryz.ntmps162 zr zr ?_
 intro G F R hE
 refine aE rfl ?_
 refine bC zr zr bz ?_
 intro b2
 refine bC zr zr bz ?_
 intro b3
 refine aw zr zr zr bz ?_
 intro b4
 refine go ?_
 refine aF (fun w=>Sat G w ([])) (.st 0 (.st 1 (.act 2 (.act 3 (.act 4 .nil))))) rfl ak ak ak ei ?_
 refine go ?_
 refine iB (U:=aN) zr zr zr zr zr ?_
 refine go ?_
 refine iB (U:=aN) zr zr zr zr zr ?_
 refine al (cs:=[.slice (some ⟨b2,0,none⟩) 32 32,.slice (some ⟨b3,0,none⟩) 32 32]) zr zr zr zr zr zr zr zr zr (fun _ _ hw=>hw.cy ad) ?_
 intro b0
 refine aG (ao.trans (ao.pick [3,2,4] rfl) (ao.trans (ao.bP [_,_,_] _) (ao.trans (ao.pick [1,0] rfl) (ao.bP [_,_] _)))) ?_
 have mA:rM (Sep [ag b0 (cl [.slice (some ⟨b2,0,none⟩) 32 32,.slice (some ⟨b3,0,none⟩) 32 32] 22),Sep [ag b2 (cl (dC l) 35),ag b3 (cl (dC r) 35),A] ]) (.slice (some ⟨b0,0,none⟩) 2 2) [l.bs,r.bs]:=by
  refine rM.row zr zr (fun i x hx=>?_)
  match i,hx with
  | 0,hx =>
   simp at hx
   subst hx
   exact⟨_,rfl,(eJ.block l.len (dG l)).mono (aW (i:=0) rfl)⟩
  | 1,hx =>
   simp at hx
   subst hx
   exact⟨_,rfl,(eJ.block r.len (dG r)).mono (aW (i:=1) rfl)⟩
  | i+2,hx=>simp at hx
 have Wq:=yW _ ((hK.mono (aW (H:=[ag b2 (cl (dC l) 35),ag b3 (cl (dC r) 35),A]) (i:=2) rfl)).mono (aW (i:=1) rfl)) 1 _ [l.bs,r.bs] mA (by simp[cV,lj,l.len,r.len])
 ((refine ai rfl rfl rfl rfl (Wq) ad ?_ jg))
 rintro _ _⟨rfl,rfl⟩
 refine aG (ao.trans (ao.cB _ _) (ao.trans (ao.pick [1] rfl) (ao.cB _ _))) ?_
 refine go ?_
 refine aT ?_
 refine cD (U:=aN) (l':=dC (ct 1 [l.bs,r.bs])) 4 gE rfl rfl rfl rfl (by intro e;cases e) (by rw[dG];exact jy _) rfl rfl rfl ?_
 refine go ?_
 (refine aS hE ?_;apply aQ (U:=aN) hE Tryz.func162 rfl (ao.refl _);(repeat(first|exact aI.nil|apply aI.agg 4 zr zr zr zr zr));exact⟨rfl,rfl⟩;exact ad)
theorem OH(l:List Dg):∀v∈l.flatMap dC,v.oneCell'=true:=by
 intro v hv
 obtain⟨d,_,hd⟩:=List.mem_flatMap.1 hv
 rw[dG]at hd
 exact cR _ v hd
theorem Fw(A:HP)(v:Value)(W:List Dg)(hv:Vw A v W.length (W.flatMap dC))(hlen:W.length≤1000000) :
  aD Tryz.prog 107 [v] [A] (fun r H=>H=[aB 35 32 r W.length (W.flatMap dC),A]):=by
 obtain⟨a,c0,rfl⟩:=hv.shape
 cases a with
 | none =>
  have hb:W=[]:=by
   obtain⟨a,cap,h1,h2|⟨b,o,h2,_⟩⟩:=hv
   ·have:=congrArg List.length h2
    rw[cH db]at this
    exact List.eq_nil_of_length_eq_zero (by simp at this;omega)
   ·simp only[Value.slice.injEq]at h1;rw[← h1.1]at h2;cases h2
  subst hb
  refine aD.enter Tryz.func107 ak rfl Tryz.ntmps107 zr zr ?_
  intro G F R hR
  refine go ?_
  refine aj (bJ 35 32 none _) ?_
  refine ae hR Tryz.func107 rfl _ zr zr (ao.fin [0,1] 0 zr zr)
 | some a =>
  refine aD.enter Tryz.func107 ak rfl Tryz.ntmps107 zr zr ?_
  intro G F R hR
  refine go ?_
  refine al (cs:=[]) zr zr zr zr zr zr zr zr zr bz ?_
  intro b0
  refine go ?_
  refine aG (eL 35 32 b0 0 0 [] [] _ rfl (Nat.le_refl _) (by simp)) ?_
  refine aO (mm:=W.length) (news:=W.flatMap dC) 0 1 zr zr zr zr zr zr zr zr zr zr zr zr hv (by rw[cH db];rfl) (OH W) ah (by show _*32≤_;omega) (fun _=>rfl) bz ?_
  intro v'
  have e1:(0:Nat)+W.length=W.length:=by omega
  rw[e1,List.nil_append]
  refine go ?_
  refine ae hR Tryz.func107 rfl _ zr zr (ao.fin [0,1] 0 zr zr)
theorem MI(a:Option Addr)(n c:Nat):aD Tryz.prog 227 [.slice a n c] [] (fun r H=>∃b,r = .func (.func 247) #[] #[ptr b]∧H=[ag b (cl [.slice a n c] 42)]):=by
 refine aD.enter Tryz.func227 ak rfl Tryz.ntmps227 zr zr ?_
 intro G F R hE
 refine go ?_
 refine bC zr zr bz ?_
 intro bx
 refine go ?_
 ((refine ae hE Tryz.func227 rfl _ rfl ⟨bx,rfl,rfl⟩ ad))
theorem Ep(n:Nat):(n:Int)/2 ^ (min ((1:Int).toNat) IntKind.i64.bits)=((n/2:Nat):Int):=by
 show(n:Int)/2 ^ 1=_
 omega
theorem I4(n:Nat)(h:n<1000000000):IntKind.i64.wrap ((n:Int)*2 ^ (min ((1:Int).toNat) IntKind.i64.bits))=((2*n:Nat):Int):=by
 show IntKind.i64.wrap ((n:Int)*2 ^ 1)=_
 rw[cK (by simp only[gg];omega)];omega
theorem Qs(n:Nat)(h:n<1000000000):IntKind.i64.wrap ((BitVec.ofInt IntKind.i64.bits ((2*n:Nat):Int) ||| BitVec.ofInt IntKind.i64.bits 1).toNat:Int)=((2*n+1:Nat):Int):=by
 have h1:=oC (a:=1) (c:=n) (k:=1) (by decide)
 have e1:(BitVec.ofInt IntKind.i64.bits (1:Int)).toNat=1:=by decide
 rw[BitVec.toNat_or,wj ah,e1,Nat.or_comm,show 2*n=n*2 ^ 1 from by omega,h1]
 exact(cK (by simp only[gg];omega)).trans (congrArg _ ah)
theorem tL(n:Nat)(h:n<1000000000):IntKind.i64.wrap ((BitVec.ofInt IntKind.i64.bits (n:Int) &&& BitVec.ofInt IntKind.i64.bits 1).toNat:Int)=((n%2:Nat):Int):=oV n 1 ah ah
theorem iF{b o c m m':Nat}(h:0<c)(hm:m'=m):Value.slice (sliceAt (some ⟨b,o,none⟩) c (0:Int).toNat 32) (((m:Nat):Int).toNat-(0:Int).toNat) (c-(0:Int).toNat) = .slice (some ⟨b,o,none⟩) m' c:=by
 subst hm
 unfold sliceAt
 rw[if_neg (by show ¬(0=c);omega)]
 simp[Addr.add]
theorem Dh{b o c n:Nat}{pre bQ:List Value}{Z6 W:List Dg}{e:TypeId}(hp:pre.length=o)(hn:n≤c)(hc:c*32≤(Z6.flatMap dC).length+bQ.length)(hl:(Z6.flatMap dC).length=n*32)(V:List Dg)(hV:V.length=n)(hW:W=V.take W.length)(H:List HP) :
  ao (ag b (cl (pre++V.flatMap dC++bQ) e)::H) (aB e 32 (.slice (some ⟨b,o,none⟩) W.length c) W.length (W.flatMap dC)::H):=by
 have h1:V.flatMap dC=W.flatMap dC++(V.drop W.length).flatMap dC:=by
  conv=>lhs;rw[← List.take_append_drop W.length V]
  rw[List.flatMap_append,← hW]
 have eH:W.length≤n:=by
  have:=congrArg List.length hW
  rw[List.length_take]at this;omega
 have h2:((V.drop W.length).flatMap dC).length=(n-W.length)*32:=by rw[cH db,List.length_drop,hV]
 have h3:=cH db W
 rw[h1,List.append_assoc,List.append_assoc,← List.append_assoc]
 refine lL hp ah ?_ h3 H
 rw[List.length_append,h2,h3];omega
set_option maxRecDepth 20000 in
set_option maxHeartbeats 1000000 in
theorem JS(A:HP)(hK:oe A)(bx:Nat)(v:Value)(l0:List Dg)(hv:Vw A v l0.length (l0.flatMap dC))(N9:l0.length≤1000000)(l:Nat)(Lp:HP)(Inv:Nat→HP)(hy:∀j va vc,(∀i,i<j→1<(dj i l0).length)→bW Tryz.prog l [.slice va (dj j l0).length vc] [Lp,Inv j,aB 35 32 (.slice va (dj j l0).length vc) (dj j l0).length ((dj j l0).flatMap dC)] (fun r H=>r = .bool true∧H=[Lp,Inv (j+1),aB 35 32 (.slice va (dj j l0).length vc) (dj j l0).length ((dj j l0).flatMap dC)])) :
  aD Tryz.prog 247 [.func (.yield l) #[] #[],ptr bx] [Lp,Inv 0,ag bx (cl [v] 42),A] (fun _ H=>∃j,(∀i,i<j→1<(dj i l0).length)∧(dj j l0).length≤1∧H=[Lp,Inv (j+1),A]):=by
 refine aD.enter Tryz.func247 ak rfl Tryz.ntmps247 zr zr ?_
 intro G F R hE
 refine go ?_
 ((refine ai zr zr zr zr (Fw A v l0 hv N9) ad ?_ bG))
 rintro r _ rfl
 ((refine aJ 0 rfl ?_))
 rintro ra rc rfl
 refine go ?_
 refine bu (fun y:Nat × Option Addr × Nat=>∀i,i<y.1→1<(dj i l0).length) (fun y=>(dj y.1 l0).length)
  (fun y=>[(0,.func (.yield l) #[] #[]),(3,.slice y.2.1 (dj y.1 l0).length y.2.2)])
  (fun y=>aB 35 32 (.slice y.2.1 (dj y.1 l0).length y.2.2) (dj y.1 l0).length ((dj y.1 l0).flatMap dC)::Lp::Inv y.1::A::F) (0,ra,rc) (fun i h=>by omega) rfl cu ad ?_
 rintro⟨j,a1,c1⟩ hI ih
 simp only at hI
 dsimp only
 have hle:=By l0 j
 refine go ?_
 refine au zr zr ?_ ?_
 ·intro PV
  have zK:1<(dj j l0).length:=by omega
  have hI2:∀i,i<j+1→1<(dj i l0).length:=fun i hi=>by
   rcases Nat.lt_or_ge i j with h|h
   ·exact hI i h
   ·rw[show i=j from by omega];exact zK
  have ph:dj (j+1) l0=bq (dj j l0):=rfl
  have hyj:=hy j a1 c1 hI
  obtain⟨row,zG⟩:∃row,row=dj j l0:=⟨_,rfl⟩
  rw[← zG]at hle PV zK ph hyj ⊢
  have mD:=cN row
  refine go ?_
  refine kE zr zr zr hyj ad ?_ bG
  rintro _ _⟨rfl,rfl⟩
  refine go ?_
  refine iW zr zr zr ah ?_
  ((refine az 16 ((.int .i64 ((row.length/2:Nat):Int))) rfl ((congrArg (Value.int .i64) (Ep row.length))) ?_))
  refine go ?_
  refine aj (ao.pick [2,0,1] rfl) ?_
  refine sA (fun a lk hn _=>by omega) ?_
  rintro b o cc pre bQ oK mz hnc jl ln
  simp only[Value.slice.injEq,true_and]at oK
  obtain⟨rfl,rfl⟩:=oK
  have nJ:∀i,i≤row.length/2→((gF row i).flatMap dC).length=row.length*32:=fun i hi=>by rw[cH db,qB row hi]
  refine bu (fun i:Nat=>i≤row.length/2) (fun i=>row.length/2-i)
   (fun i=>[(0,.func (.yield l) #[] #[]),(3,.slice (some ⟨b,o,none⟩) row.length c1),(16,.int .i64 ((row.length/2:Nat):Int)),(17,.int .i64 (i:Int))])
   (fun i=>ag b (cl (pre++(gF row i).flatMap dC++bQ) 35)::Lp::Inv (j+1)::A::F) 0 (Nat.zero_le _) rfl cu ad ?_
  rintro i hi GM
  have D5:=qB row hi
  refine go ?_
  refine au zr zr ?_ ?_
  ·intro cW
   have hi2:i<row.length/2:=by omega
   obtain⟨x,hx⟩:∃x,row[2*i]?=some x:=⟨row[2*i]' ah,by simp⟩
   obtain⟨y,AE⟩:∃x,row[2*i+1]?=some x:=⟨row[2*i+1]' ah,by simp⟩
   have AN:=(uA row hi (show i≤2*i by omega)).trans hx
   have hgy:=(uA row hi (show i≤2*i+1 by omega)).trans AE
   have gY:=JT row hi2 (A8 hx AE)
   have dK:Vw (ag b (cl (pre++(gF row i).flatMap dC++bQ) 35)) (.slice (some ⟨b,o,none⟩) row.length c1) row.length ((gF row i).flatMap dC):=Vw.ag (by rw[← mz,List.append_assoc,List.drop_left,List.take_left])
   refine go ?_
   refine aF (fun w=>Sat G w ([ag b (cl (pre++(gF row i).flatMap dC++bQ) 35)])) (.st 0 (.st 1 (.st 2 (.st 3 (.st 4 (.st 5 (.st 6 (.st 7 (.st 8 (.st 9 (.st 10 (.st 11 (.st 12 (.act 13 (.st 14 (.act 15 .nil)))))))))))))))) rfl ak ak ak ei ?_
   refine go ?_
   refine np zr zr zr ah ?_
   ((refine az 24 ((.int .i64 ((2*i:Nat):Int))) rfl ((congrArg (Value.int .i64) (I4 i ah))) ?_))
   refine cO (2*i) 32 zr zr zr zr zr zr zr zr ah ?_
   refine aK ?_
   refine gI (U:=aN) (es:=dC x) 0 ((2*i)*32) zr zr zr dK rfl (fun q v hq=>?_) zr zr zr ?_
   ·rw[cY db AN q (by rcases Nat.lt_or_ge q 32 with h|h;exact h;rw[List.getElem?_eq_none (by rw[db];exact h)]at hq;cases hq)];exact hq
   refine go ?_
   refine np zr zr zr ah ?_
   ((refine az 29 ((.int .i64 ((2*i:Nat):Int))) rfl ((congrArg (Value.int .i64) (I4 i ah))) ?_))
   refine go ?_
   ((refine az 30 ((.int .i64 ((2*i+1:Nat):Int))) rfl ((congrArg (Value.int .i64) (Qs i ah))) ?_))
   refine cO (2*i+1) 32 zr zr zr zr zr zr zr zr ah ?_
   refine aK ?_
   refine gI (U:=aN) (es:=dC y) 0 ((2*i+1)*32) zr zr zr dK rfl (fun q v hq=>?_) zr zr zr ?_
   ·rw[cY db hgy q (by rcases Nat.lt_or_ge q 32 with h|h;exact h;rw[List.getElem?_eq_none (by rw[db];exact h)]at hq;cases hq)];exact hq
   refine go ?_
   ((refine ai rfl rfl rfl rfl ((y9 A hK x y)) ad ?_ jg))
   rintro _ _⟨rfl,rfl⟩
   refine go ?_
   refine cO i 32 zr zr zr zr zr zr zr zr ah ?_
   refine aT ?_
   refine kr (U:=aN) (l':=pre++(gF row (i+1)).flatMap dC++bQ) 1 gE zr zr zr zr zr zr zr ?_ ?_ rfl ?_
   ·show o+i*32+32≤_
    rw[List.length_append,List.length_append,nJ i hi];omega
   ·show _=List.take (o+i*32) (pre++(gF row i).flatMap dC++bQ)++dC (g9 x y)++List.drop (o+i*32+(dC (g9 x y)).length) (pre++(gF row i).flatMap dC++bQ)
    rw[← mz,ot _ _ _ _ _ (by rw[db,nJ i hi];omega),← gY,uS db ah]
    rfl
   refine go ?_
   refine aL GM (i+1) rfl ah ah cu ad
  intro fq
  have sH:i=row.length/2:=by omega
  subst sH
  clear GM
  have aaU:=nJ (row.length/2) (Nat.le_refl _)
  have D5:=qB row (Nat.le_refl (row.length/2))
  refine go ?_
  ((refine bB 38 ((.int .i64 ((row.length%2:Nat):Int))) rfl ((congrArg (Value.int .i64) (tL row.length ah))) ?_))
  refine au zr zr ?_ ?_
  ·intro acC
   have aat:row.length%2=1:=by rw[tL _ ah]at acC;omega
   obtain⟨x,hx⟩:∃x,row[row.length-1]?=some x:=⟨row[row.length-1]' ah,by simp⟩
   have AN:=(uA row (Nat.le_refl (row.length/2)) (show row.length/2≤row.length-1 by omega)).trans hx
   have dK:Vw (ag b (cl (pre++(gF row (row.length/2)).flatMap dC++bQ) 35)) (.slice (some ⟨b,o,none⟩) row.length c1) row.length ((gF row (row.length/2)).flatMap dC):=Vw.ag (by rw[← mz,List.append_assoc,List.drop_left,List.take_left])
   have hG:=JU row aat hx
   refine go ?_
   refine iW zr zr zr ah ?_
   ((refine az 43 ((.int .i64 ((row.length/2:Nat):Int))) rfl ((congrArg (Value.int .i64) (Ep row.length))) ?_))
   refine go ?_
   ((refine az 47 ((.int .i64 ((row.length-1:Nat):Int))) rfl ((congrArg (Value.int .i64) ah)) ?_))
   refine cO (row.length-1) 32 zr zr zr zr zr zr zr zr ah ?_
   refine aK ?_
   refine de (U:=aN) (es:=dC x) 0 ((row.length-1)*32) zr zr zr dK rfl (fun q v hq=>?_) zr zr zr ?_
   ·rw[cY db AN q (by rcases Nat.lt_or_ge q 32 with h|h;exact h;rw[List.getElem?_eq_none (by rw[db];exact h)]at hq;cases hq)];exact hq
   refine cO (row.length/2) 32 zr zr zr zr zr zr zr zr ah ?_
   refine aT ?_
   refine kr (U:=aN) (l':=pre++((gF row (row.length/2)).set (row.length/2) x).flatMap dC++bQ) 0 gE zr zr zr zr zr zr zr ?_ ?_ rfl ?_
   ·show o+row.length/2*32+32≤_
    rw[List.length_append,List.length_append,aaU];omega
   ·show _=List.take (o+row.length/2*32) (pre++(gF row (row.length/2)).flatMap dC++bQ)++dC x++List.drop (o+row.length/2*32+(dC x).length) (pre++(gF row (row.length/2)).flatMap dC++bQ)
    rw[← mz,ot _ _ _ _ _ (by rw[db,aaU];omega),uS db ah]
    rfl
   (refine go ?_;refine iW zr zr zr ah ?_;((refine az 55 ((.int .i64 (((row.length+1)/2:Nat):Int))) rfl ((congrArg (Value.int .i64) (by show((row.length:Int)+1)/2 ^ 1=_;omega))) ?_));refine bj (p:=0) (q:=(((row.length+1)/2:Nat):Int)) zr zr zr zr zr zr zr ah ah (.inr ah) ?_;((refine az 56 ((.slice (some ⟨b,o,none⟩) (dj (j+1) l0).length c1)) rfl ((iF ah (by rw[ph,mD]))) ?_));((refine aG (Dh (W:=dj (j+1) l0) mz hnc jl ln ((gF row (row.length/2)).set (row.length/2) x) (by rw[List.length_set];exact D5) (by rw[ph,mD];exact hG.symm) _) ?_));refine go ?_;refine aL ih (j+1,some ⟨b,o,none⟩,c1) rfl hI2 (by simp only;rw[ph,← zG];omega) cu ad)
  ·intro aaW
   have W6:row.length%2=0:=by rw[tL _ ah]at aaW;omega
   have hG:=Gh row W6
   (refine go ?_;refine iW zr zr zr ah ?_;((refine az 55 ((.int .i64 (((row.length+1)/2:Nat):Int))) rfl ((congrArg (Value.int .i64) (by show((row.length:Int)+1)/2 ^ 1=_;omega))) ?_));refine bj (p:=0) (q:=(((row.length+1)/2:Nat):Int)) zr zr zr zr zr zr zr ah ah (.inr ah) ?_;((refine az 56 ((.slice (some ⟨b,o,none⟩) (dj (j+1) l0).length c1)) rfl ((iF ah (by rw[ph,mD]))) ?_));((refine aG (Dh (W:=dj (j+1) l0) mz hnc jl ln (gF row (row.length/2)) D5 (by rw[ph,mD];exact hG.symm) _) ?_));refine go ?_;refine aL ih (j+1,some ⟨b,o,none⟩,c1) rfl hI2 (by simp only;rw[ph,← zG];omega) cu ad)
 ·intro aaD
  have aaC:(dj j l0).length≤1:=by omega
  refine go ?_
  refine kE zr zr zr (hy j a1 c1 hI) ad ?_ bG
  rintro _ _⟨rfl,rfl⟩
  refine go ?_
  ((refine bS hE Tryz.func247 rfl _ rfl ⟨j,hI,aaC,rfl⟩ ad))
set_option maxRecDepth 20000 in
theorem O4(A:HP)(hK:oe A)(v:Value)(l0:List Dg)(hv:Vw A v l0.length (l0.flatMap dC))(N9:l0.length≤1000000)(bT:l0≠[]):aD Tryz.prog 208 [v] [A] (fun r H=>r=dV (rl l0)∧H=[A]):=by
 obtain⟨a,c,rfl⟩:=hv.shape
 have kX:0<l0.length:=List.length_pos_iff.2 bT
 refine aD.enter Tryz.func208 ak rfl Tryz.ntmps208 zr zr ?_
 intro G F R hE
 refine aE rfl ?_
 refine aw zr zr zr bz ?_
 intro b2
 refine go ?_
 refine au zr zr ?_ ?_
 ·intro h0;exfalso;omega
 intro _
 (refine aE rfl ?_;refine rG ?_)
 refine aw zr zr zr bz ?_
 intro b3
 refine go ?_
 ((refine ai zr zr zr zr (MI a l0.length c) ad ?_ bG))
 rintro _ _⟨bx,rfl,rfl⟩
 refine go ?_
 refine iR rfl ?_
 let rt:Nat→Dg:=fun j=>match j with|0=>Dg.zero|j+1=>((dj j l0).head?).getD Dg.zero
 refine aj (ao.trans (ao.pick [2,1] rfl) (ao.bP [ag b2 (cl (dC Dg.zero) 35),ag b3 (cl (dC (rt 0)) 35)] _)) ?_
 refine qm (Fr:=F) (Pre:=fun _ _=>[Sep [ag b2 (cl (dC Dg.zero) 35),ag b3 (cl (dC (rt 0)) 35)],ag bx (cl [.slice a l0.length c] 42),A]) (fun _ _ Lp v H=>∃j,(∀i,i<j→1<(dj i l0).length)∧(dj j l0).length≤1∧H=[Lp .ready none,Sep [ag b2 (cl (dC Dg.zero) 35),ag b3 (cl (dC (rt (j+1))) 35)],A]) rfl hE.1.1 rfl ?c (fun l r=>ad) ?hG
 case c =>
  intro l r
  refine JS A hK bx _ l0 hv N9 l _ (fun j=>Sep [ag b2 (cl (dC Dg.zero) 35),ag b3 (cl (dC (rt j)) 35)]) ?_
  intro j va vc hI
  refine bW.DG zr zr ?_
  intro G2 F2 R2 hY
  have WH:=sU l0 kX j
  have hrt:rt (j+1)=((dj j l0).head?).getD Dg.zero:=rfl
  obtain⟨x,row,zG⟩:∃x row,dj j l0=x::row:=by
   cases h:dj j l0 with
   | nil=>rw[h]at WH;simp at WH
   | cons x row=>exact⟨x,row,rfl⟩
  rw[zG]at hrt WH
  simp only[List.head?_cons,Option.getD_some]at hrt
  rw[zG]at hY ⊢
  rw[hrt]at hY
  clear_value rt
  refine go ?_
  refine fV rfl hY ?_
  refine aj (ao.trans (ao.pick [1] rfl) (ao.cB [_,_] _)) ?_
  refine dB 3 rfl ?_
  intro dK
  obtain⟨b,o,cc,pq⟩:=dK.some (by rw[List.flatMap_cons];intro h;simp[dC]at h)
  simp only[Value.slice.injEq,true_and]at pq
  obtain⟨rfl,rfl⟩:=pq
  refine go ?_
  refine cO 0 32 zr zr zr zr zr zr zr zr (by simp) ?_
  refine aK ?_
  refine de (U:=aN) (es:=dC x) 3 0 zr zr zr dK rfl (fun q v hq=>?_) zr zr zr ?_
  ·rw[Nat.zero_add,List.flatMap_cons,List.getElem?_append_left]
   ·exact hq
   ·exact(List.getElem?_eq_some_iff.1 hq).1
  refine aT ?_
  refine cD (U:=aN) (l':=dC x) 1 gE rfl rfl rfl rfl (by intro e;cases e) (by rw[dG];exact jy _) rfl rfl rfl ?_
  refine go ?_
  refine aj (ao.bP [_,_] _) ?_
  refine fu hY rfl ad ⟨rfl,rfl⟩
 rintro l r v H'⟨j,hI,hj,rfl⟩
 refine⟨_,_,_,rfl,by decide,?_⟩
 have WH:=sU l0 kX j
 obtain⟨x,hx⟩:∃x,dj j l0=[x]:=by
  match h:dj j l0,WH,hj with
  | [x],_,_=>exact⟨x,rfl⟩
 have x8:=Di bT hI hx
 have hrt:rt (j+1)=x:=by show((dj j l0).head?).getD Dg.zero=x;rw[hx];rfl
 rw[hrt,hE.1.2]
 rw[x8]at hE
 clear_value rt
 refine aj (ao.cB [_,_] _) ?_
 refine go ?_
 refine aH (U:=aN) 1 zr zr zr zr zr zr ?_
 refine cD (U:=aN) (l':=dC x) 0 gE rfl rfl rfl rfl (by intro e;cases e) (by rw[dG];exact jy _) rfl rfl rfl ?_
 refine go ?_
 (apply aQ (U:=aN) hE Tryz.func208 rfl ad;(repeat(first|exact aI.nil|apply aI.agg 0 zr zr zr zr zr));exact⟨rfl,rfl⟩;exact ad)
end Go.Proofs.YtedjnjkijiddlaaGreatDoor
namespace Go.Proofs.YtedjnjkijiddlaaGreatDoor
open Go Go.SL
def eg(x:Bl):Value := .agg (bD x).toArray
def Px(g:FuncId)(cap:List Value)(ds:List Dg)(Pre Post:List HP):Prop :=
 ∀(l:Nat) (Lp:HP) (Inv:Nat→HP),(∀j d,ds[j]?=some d→bW Tryz.prog l [dV d] [Lp,Inv j] (fun v H=>v = .bool true∧H=[Lp,Inv (j+1)])) →
  aD Tryz.prog g (.func (.yield l) #[] #[]::cap) (Lp::Inv 0::Pre) (fun _ H=>H=Lp::Inv ds.length::Post)
def GI(bs:Nat)(ks:List Dg):HP:=fun h=>∃v:Value,True∧Sep [ag bs (cl [v] 42),aB 35 32 v ks.length (ks.flatMap dC)] h
theorem Jt(bs:Nat)(ks:List Dg):∀h,GI bs ks h→∃v,True∧Sep [ag bs (cl [v] 42),aB 35 32 v ks.length (ks.flatMap dC)] h:=fun h hs=>hs
theorem Fi(bs:Nat)(ks:List Dg)(v:Value)(H:List HP):ao (ag bs (cl [v] 42)::aB 35 32 v ks.length (ks.flatMap dC)::H) (GI bs ks::H) :=
 ao.fold (A:=GI bs ks) (B:=[ag bs (cl [v] 42),aB 35 32 v ks.length (ks.flatMap dC)]) fun h hs=>⟨h,sub.refl h,v,trivial,hs⟩
attribute [local irreducible] J K aD Ends ag aB aM bN aZ aP aV bh bW Sha.chunks Sha.chunk Sha.rounds Sha.sched dM ct GI
theorem zq(g:FuncId)(cap:List Value)(ds:List Dg)(Pre Post:List HP)(hN:ds.length≤1000000)(hi:Px g cap ds Pre Post) :
  aD Tryz.prog 244 [.slice none 0 0,.func (.func g) #[] cap.toArray] Pre (fun r H=>H=aB 35 32 r ds.length (ds.flatMap dC)::Post):=by
 refine aD.enter Tryz.func244 ak rfl Tryz.ntmps244 zr zr ?_
 intro G F R hE
 refine aE rfl ?_
 refine bC zr zr bz ?_
 intro bs
 refine go ?_
 refine iR rfl ?_
 refine aj (ao.trans (ao.cons _ (bJ 35 32 none _)) (Fi bs [] (.slice none 0 0) _)) ?_
 refine wD (Fr:=F) (Pre:=fun _ _=>GI bs []::Pre) (Post:=?Po) rfl hE.1.1 rfl ?c (fun l r=>ao.refl _) ?hG
 case c =>
  intro l r
  refine hi l _ (fun j=>GI bs (ds.take j)) ?_
  intro j k AJ
  have yg:=(List.getElem?_eq_some_iff.1 AJ).1
  have tr:(ds.take j).length=j:=by rw[List.length_take];omega
  have jY:ds.take (j+1)=ds.take j++[k]:=by rw[List.take_add_one,AJ];rfl
  refine bW.DG zr zr ?_
  intro G2 F2 R2 hY
  refine aE rfl ?_
  refine aw zr zr zr bz ?_
  intro b5
  refine go ?_
  refine aj (ao.pick [1] rfl) ?_
  refine fV rfl hY ?_
  refine aj (ao.pick [2] rfl) ?_
  refine eE (Jt bs (ds.take j)) ?_
  rintro v -
  refine dv 1 rfl ?_
  rintro va vc rfl
  refine go ?_
  refine aH (U:=aN) 3 zr zr zr zr zr zr ?_
  refine al (cs:=dC k) zr zr zr zr zr zr zr zr zr bz ?_
  intro row
  refine go ?_
  refine aO (mm:=1) (news:=dC k) 2 0 zr zr zr zr zr zr zr zr zr zr zr zr (Vw.ag rfl) rfl (by rw[dG];exact cR _) (by rw[tr];omega) (by show(_+1)*32≤_;rw[tr];omega) (fun _=>rfl) bz ?_
  intro v1
  rw[show(ds.take j).flatMap dC++dC k=(ds.take (j+1)).flatMap dC from by rw[jY];simp,show(ds.take j).length+1=(ds.take (j+1)).length from by rw[jY];simp]
  ((refine aJ 2 rfl ?_))
  rintro va2 vc2 rfl
  refine go ?_
  refine aj (ao.trans ad (Fi bs (ds.take (j+1)) (.slice va2 (ds.take (j+1)).length vc2) _)) ?_
  refine fu hY rfl ad ⟨rfl,rfl⟩
 intro l r v H fp
 subst fp
 refine⟨_,_,_,rfl,by decide,?_⟩
 rw[hE.1.2,List.take_length]
 refine eE (Jt bs ds) ?_
 rintro w -
 refine go ?_
 refine qT hE Tryz.func244 rfl _ zr zr ?_
 exact(ao.drop _ _).trans (ao.perm (((List.perm_middle (a:=ag r (.deferred (some []))) (l₁:=Post) (l₂:=F)).cons _).trans (List.Perm.swap _ _ _)))
theorem CC(g:FuncId)(cap:List Value)(ds:List Dg)(Pre Post:List HP)(hN:ds.length≤1000000)(hi:Px g cap ds Pre Post) :
  aD Tryz.prog 225 [.func (.func g) #[] cap.toArray] Pre (fun r H=>H=aB 35 32 r ds.length (ds.flatMap dC)::Post):=by
 refine aD.enter Tryz.func225 ak rfl Tryz.ntmps225 zr zr ?_
 intro G F R hE
 refine go ?_
 ((refine ai zr zr zr zr (zq g cap ds Pre Post hN hi) ad ?_ bG))
 rintro w _ rfl
 refine go ?_
 ((refine ae hE Tryz.func225 rfl _ zr zr ad))
theorem AW(s p:Int)(hs:1≤s∧s≤1048576)(hp:1≤p∧p≤16384):aD Tryz.prog 147 [.int .i64 s,.int .i64 p] [] (fun r H=>r = .int .i64 ((s+p-1)/p)∧H=[]):=by
 have h1:0≤(s+p-1)/p:=Int.ediv_nonneg ah ah
 have h2:(s+p-1)/p≤s+p-1:=Int.ediv_le_self _ ah
 refine aD.enter Tryz.func147 ak rfl Tryz.ntmps147 zr zr ?_
 intro G F R hE
 refine go ?_
 refine nZ zr zr zr ah ah (by simp only[gg];omega) ?_
 refine go ?_
 ((refine ae hE Tryz.func147 rfl _ rfl ⟨rfl,rfl⟩ ad))
theorem nW(x:Bl):aD Tryz.prog 84 [eg x] [] (fun r H=>r = .bool (bo x)∧H=[]):=by
 have hF:¬(1≤x.size∧x.size≤1048576∧16≤x.piece∧x.piece≤16384)→Value.bool false = .bool (bo x):=fun h=>congrArg Value.bool (by unfold bo;rw[decide_eq_false (by rintro⟨a,b,c,e,_⟩;exact h ⟨a,b,c,e⟩)])
 have hT:(1≤x.size∧x.size≤1048576∧16≤x.piece∧x.piece≤16384)→Value.bool (decide ((x.size+x.piece-1)/x.piece≤1024)) = .bool (bo x):=fun h=>congrArg Value.bool (by unfold bo;rw[decide_eq_decide];exact⟨fun g=>⟨h.1,h.2.1,h.2.2.1,h.2.2.2,g⟩,fun g=>g.2.2.2.2⟩)
 unfold eg
 refine aD.enter Tryz.func84 ak rfl Tryz.ntmps84 zr zr ?_
 intro G F R hE
 refine aE rfl ?_
 refine bC zr zr bz ?_
 intro b1
 repeat'(first|(with_reducible intro qh)|refine gO ?_|refine iC zr zr zr zr ?_ ?_|(refine ai zr zr zr zr (AW x.size x.piece ah ah) ad ?_ bG;rintro _ _⟨rfl,rfl⟩))
 all_goals(first|((refine ae hE Tryz.func84 rfl _ rfl ⟨hF ah,rfl⟩ ad))|((refine ae hE Tryz.func84 rfl _ rfl ⟨hT ah,rfl⟩ ad)))
theorem u6(x:Bl):aD Tryz.prog 96 [eg x] [] (fun r H=>r = .int .i64 (bO x)∧H=[]):=by
 unfold eg
 refine aD.enter Tryz.func96 ak rfl Tryz.ntmps96 zr zr ?_
 intro G F R hE
 refine aE rfl ?_
 refine bC zr zr bz ?_
 intro b1
 refine go ?_
 refine aH (U:=aN) 0 zr zr zr zr zr zr ?_
 ((refine ai zr zr zr zr (nW x) ad ?_ bG))
 rintro _ _⟨rfl,rfl⟩
 cases hr:bo x with
 | false =>
  have hc:bO x=0:=by unfold bO;rw[if_neg (by rw[hr];simp)]
  rw[hc]at hE
  refine go ?_
  ((refine ae hE Tryz.func96 rfl _ rfl ⟨rfl,rfl⟩ ad))
 | true =>
  have hc:bO x=(x.size+x.piece-1)/x.piece:=by unfold bO;rw[if_pos hr]
  rw[hc]at hE
  simp only[bo,decide_eq_true_eq]at hr
  refine go ?_
  ((refine ai zr zr zr zr (AW x.size x.piece ah ah) ad ?_ bG))
  rintro _ _⟨rfl,rfl⟩
  refine go ?_
  ((refine ae hE Tryz.func96 rfl _ rfl ⟨rfl,rfl⟩ ad))
theorem lE(x:Bl):0≤bO x∧bO x≤1024:=by
 unfold bO
 split
 ·rename_i hr
  simp only[bo,decide_eq_true_eq]at hr
  exact⟨Int.ediv_nonneg ah ah,hr.2.2.2.2⟩
 ·omega
theorem wg{x:Bl}{i:Int}(h0:0≤i)(h1:i<bO x):bo x=true∧0≤i*x.piece∧i*x.piece<x.size:=by
 unfold bO at h1
 split at h1
 ·rename_i hr
  have GU:=hr
  simp only[bo,decide_eq_true_eq]at hr
  refine⟨GU,Int.mul_nonneg h0 ah,?_⟩
  have h2:(i+1)*x.piece≤x.size+x.piece-1:=by
   have:=(Int.le_ediv_iff_mul_le (a:=i+1) (b:=x.size+x.piece-1) (c:=x.piece) ah).1 ah
   exact this
  rw[Int.add_mul,Int.one_mul]at h2
  omega
 ·omega
theorem yX(x:Bl)(i:Int):aD Tryz.prog 97 [eg x,.int .i64 i] [] (fun r H=>r=(match cP x i with
  | none => .tuple #[.int .i64 0,.int .i64 0,.int .i64 1]
  | some (a,n) => .tuple #[.int .i64 a,.int .i64 n,.int .i64 0])∧H=[]):=by
 unfold eg
 refine aD.enter Tryz.func97 ak rfl Tryz.ntmps97 zr zr ?_
 intro G F R hE
 refine aE rfl ?_
 refine bC zr zr bz ?_
 intro b1
 have hN:(i<0∨bO x≤i)→cP x i=none:=fun h=>by unfold cP;rw[if_pos h]
 repeat'(first|(with_reducible intro qh)|refine gO ?_|refine iC zr zr zr zr ?_ ?_|refine au zr zr ?_ ?_|refine aH (U:=aN) 0 zr zr zr zr zr zr ?_|(refine ai zr zr zr zr (u6 x) ad ?_ bG;rintro _ _⟨rfl,rfl⟩))
 all_goals(first|(rw[hN ah]at hE;((refine ae hE Tryz.func97 rfl _ rfl ⟨rfl,rfl⟩ ad)))|skip)
 have hs:cP x i=some (i*x.piece,min x.piece (x.size-i*x.piece)):=by unfold cP;rw[if_neg ah]
 rw[hs]at hE
 obtain⟨hr,zu,R'⟩:=wg (x:=x) (i:=i) ah ah
 simp only[bo,decide_eq_true_eq]at hr
 obtain⟨q,hq⟩:∃q,q=i*x.piece:=⟨_,rfl⟩
 rw[← hq]at zu R' hE
 refine aF (fun w=>Sat G w ([ag b1 (cl (bD x) 37)])) (.st 0 (.st 1 (.st 2 (.st 3 (.st 4 (.st 5 (.st 6 (.st 7 (.st 8 (.st 9 (.st 10 (.st 11 (.st 12 (.st 13 (.st 14 (.st 15 (.st 16 .nil))))))))))))))))) rfl ak ak ak ei ?_
 (repeat(first|refine gO ?_|(refine lu ?_;refine gT zr zr zr (by rw[← hq];simp only[gg];omega) ?_;rw[← hq])))
 ((refine ae hE Tryz.func97 rfl _ rfl ⟨rfl,rfl⟩ ad))
theorem LY(a:Option Addr)(n c:Nat)(k:Int)(hk:1≤k):aD Tryz.prog 246 [.slice a n c,.int .i64 k] [] (fun r H=>∃b1 b2,r = .func (.func 254) #[] #[ptr b1,ptr b2]∧H=[ag b1 (cl [.slice a n c] 22),ag b2 (cl [.int .i64 k] 3)]):=by
 refine aD.enter Tryz.func246 ak rfl Tryz.ntmps246 zr zr ?_
 intro G F R hE
 refine aE rfl ?_
 refine bC zr zr bz ?_
 intro b1
 refine bC zr zr bz ?_
 intro b2
 refine go ?_
 refine au zr zr ?_ ?_
 ·intro h;exfalso;omega
 intro _
 refine go ?_
 ((refine ae hE Tryz.func246 rfl _ rfl ⟨b1,b2,rfl,rfl⟩ ad))
set_option maxRecDepth 20000 in
theorem HU(A:HP)(b1 b2:Nat)(v:Value)(b:List UInt8)(hv:eJ A v b)(hl:b.length≤1000000000)(k:Nat)(hk:1≤k)(yf:k≤1000000000)(l:Nat)(Lp:HP)(Inv:Nat→HP)(hy:∀j p rv,(gf k b.length b)[j]?=some p→eJ A rv p→bW Tryz.prog l [rv] [Lp,Inv j,A] (fun r H=>r = .bool true∧H=[Lp,Inv (j+1),A])) :
  aD Tryz.prog 254 [.func (.yield l) #[] #[],ptr b1,ptr b2] [Lp,Inv 0,ag b1 (cl [v] 22),ag b2 (cl [.int .i64 (k:Int)] 3),A] (fun _ H=>H=[Lp,Inv (gf k b.length b).length,A]):=by
 obtain⟨a,c,rfl,hc⟩:=hv.2
 have hpg:=ju k hk b.length b
 have pT:=mK k hk b
 refine aD.enter Tryz.func254 ak rfl Tryz.ntmps254 zr zr ?_
 intro G F R hE
 refine go ?_
 refine bu (fun j:Nat=>j≤(b.length+k-1)/k) (fun j=>(b.length+k-1)/k-j)
  (fun j=>[(0,.func (.yield l) #[] #[]),(1,ptr b1),(2,ptr b2),(4,.int .i64 ((j*k:Nat):Int))])
  (fun j=>Lp::Inv j::ag b1 (cl [.slice a b.length c] 22)::ag b2 (cl [.int .i64 (k:Int)] 3)::A::F) 0 (Nat.zero_le _) rfl (by rw[Nat.zero_mul];exact cu) ad ?_
 rintro j hj ih
 have AJ:j*k≤b.length+k-1:=by
  have:=(Nat.le_div_iff_mul_le hk).1 hj
  exact this
 refine go ?_
 refine au zr zr ?_ ?_
 ·intro cW
  have vR:j*k<b.length:=by omega
  have pn:j+1≤(b.length+k-1)/k:=by
   rw[Nat.le_div_iff_mul_le hk,Nat.add_mul,Nat.one_mul];omega
  have hp:=hpg j (Nat.le_refl _)
  rw[if_pos vR]at hp
  obtain⟨p,R5⟩:∃p,p=(b.drop (j*k)).take k:=⟨_,rfl⟩
  rw[← R5]at hp
  have yc:p.length=min k (b.length-j*k):=by rw[R5,List.length_take,List.length_drop]
  obtain⟨jk,aaJ⟩:∃jk,jk=j*k:=⟨_,rfl⟩
  rw[← aaJ]at vR R5 yc AJ ⊢
  refine go ?_
  refine aF (fun w=>Sat G w ([ag b1 (cl [.slice a b.length c] 22),ag b2 (cl [.int .i64 (k:Int)] 3)])) (.st 0 (.st 1 (.st 2 (.st 3 (.st 4 (.st 5 (.st 6 .nil))))))) rfl ak ak ak ei ?_
  refine go ?_
  refine bj (p:=((jk:Nat):Int)) (q:=(b.length:Int)) zr zr zr zr zr zr zr ah ah (.inl rfl) ?_
  refine go ?_
  have KC:(jk:Int)+min (k:Int) (((((b.length:Int)).toNat-((jk:Nat):Int).toNat:Nat)):Int)=((jk+p.length:Nat):Int):=by rw[yc];omega
  refine LK (U:=aN) zr zr zr zr zr zr zr zr ah ah ah ah ?_
  have IW:=hv.piece jk (jk+p.length) ah ah
  rw[show jk+p.length-jk=p.length from by omega]at IW
  have WI:(b.drop jk).take p.length=p:=by
   rw[yc,R5,List.take_eq_take_iff,List.length_drop];omega
  rw[WI]at IW
  have adb:eJ A (.slice (sliceAt a (jk+p.length) jk 1) p.length p.length) p:=by
   obtain⟨lS,a2,c2,zM,mC⟩:=IW
   refine⟨?_,_,_,rfl,Nat.le_refl _⟩
   obtain⟨a3,c3,he3,iv⟩:=lS
   simp only[Value.slice.injEq,true_and]at he3
   have e:sliceAt a (jk+p.length) jk 1=sliceAt a c jk 1:=by
    unfold sliceAt
    rw[if_neg ah,if_neg ah]
   rw[e]
   exact⟨_,_,rfl,by rw[he3.1];exact iv⟩
  refine az 28 (.slice (sliceAt a (jk+p.length) jk 1) p.length p.length) rfl (by rw[KC,Int.toNat_natCast,Int.toNat_natCast,show jk+p.length-jk=p.length from by omega];rfl) ?_
  refine go ?_
  refine kE zr zr zr (hy j p _ hp adb) ad ?_ bG
  rintro _ _⟨rfl,rfl⟩
  refine go ?_
  ((refine bB 4 ((.int .i64 (((j+1)*k:Nat):Int))) rfl ((congrArg (Value.int .i64) (by rw[Nat.add_mul,Nat.one_mul,← aaJ];omega))) ?_))
  refine aL ih (j+1) rfl pn ah cu ad
 intro fq
 have Oc:j=(b.length+k-1)/k:=by
  rcases Nat.lt_or_ge j ((b.length+k-1)/k)with h|h
  ·exfalso
   have h2:=(Nat.le_div_iff_mul_le (x:=j+1) hk).1 h
   rw[Nat.add_mul,Nat.one_mul]at h2
   omega
  ·omega
 refine go ?_
 rw[pT,← Oc]at hE
 ((refine bS hE Tryz.func254 rfl _ zr zr ad))
end Go.Proofs.YtedjnjkijiddlaaGreatDoor
