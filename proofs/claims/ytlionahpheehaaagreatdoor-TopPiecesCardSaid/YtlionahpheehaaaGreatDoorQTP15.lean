import Derived.Test.YtlionahpheehaaaGreatDoorQTP2
import Derived.Test.YtlionahpheehaaaGreatDoorQTP3
import Derived.Test.YtlionahpheehaaaGreatDoorQTP4
import Derived.Test.YtlionahpheehaaaGreatDoorQTP6
import Derived.Test.YtlionahpheehaaaGreatDoorQTP7
import Derived.Test.YtlionahpheehaaaGreatDoorQTP9
import Derived.Test.YtlionahpheehaaaGreatDoorQTP11
import Derived.Test.YtlionahpheehaaaGreatDoorQTP12
import Derived.Test.YtlionahpheehaaaGreatDoorQTP13
import Derived.Test.YtlionahpheehaaaGreatDoorQTP14
import Derived.Deep.Slices
import Derived.DataElems
import Derived.OpenShut
import Derived.Test.YtlionahpheehaaaGreatDoorRows
import Derived.ChangeArms
import Derived.ProofKit
import Derived.Handed
import Derived.JoinedOf
import Derived.RowKit
import Derived.WalkKit
import Derived.ShutString
import Derived.ChangeOld
import Derived.Below
import Derived.SizedLaws
import Derived.ChangeSame
import Derived.ChangeVars
set_option linter.unnecessarySimpa false
set_option linter.unusedSimpArgs false
set_option linter.unusedVariables false
set_option maxRecDepth 100000
set_option linter.defProp false
namespace Go.Proofs.YtlionahpheehaaaGreatDoor
open Go Go.SL
attribute [local irreducible] J K aH Ends ak aK aV bX bj aS bp bD cp Sha.chunks Sha.chunk Sha.rounds Sha.sched fz cY GI fG aJ
def vP(A:Ab)(d:Dg)(at_ n:Int):List UInt8 × Nat:=if sc A (cX kB d)then A.read (cX kB d) at_ n else([],4)
def Oz(bs bd:Nat)(q:Int)(mb:Nat)(brk:Bool)(A:Ab)(d:Dg)(at_ n:Int):aH Tryz.prog 22 [ptr bs,dV d,.int .i64 at_,.int .i64 n] [ak bs (cl (eJ bd q mb brk) 88),aJ bd A]
  (fun r H=>∃rv,r = .tuple #[rv,.int .i64 ((vP A d at_ n).2:Int)]∧H=[aK 5 1 rv (vP A d at_ n).1.length (bV (vP A d at_ n).1),ak bs (cl (eJ bd q mb brk) 88),aJ bd A]):=by
 have hf:=ny kB d (by decide)
 have u0:=Mx bs bd q mb brk A d
 unfold dV at hf u0 ⊢
 refine aH.aC Tryz.func22 Tryz.ntmps22 fun G F R hE=>?_
 refine aP rfl ?_
 refine bJ zr zr bO ?_
 intro b5
 refine go ?_
 refine aW (U:=bh) (l:=dC d) 0 zr zr zr zr zr zr ?_
 refine aeb u0 ?_
 cases hh:sc A (cX kB d)with
 | false =>
  have h1:vP A d at_ n=([],4):=by unfold vP;rw[hh];rfl
  rw[h1]at hE
  refine go ?_
  refine al (bS 5 1 none _) ?_
  refine ah hE Tryz.func22 zr zr ⟨_,rfl,rfl⟩
 | true =>
  have h1:vP A d at_ n=A.read (cX kB d) at_ n:=by unfold vP;rw[hh];rfl
  rw[h1]at hE
  have rV:=wS bd A (cX kB d) at_ n
  refine go ?_
  refine aO (fun w=>Sat G w ([ak b5 (cl (dC d) 29),ak bs (cl (eJ bd q mb brk) 88)])) (dM 0 5 (.st 6 (.st 7 (.act 5 (.act 8 (dM 9 4 .nil)))))) rfl aw aw aw dI ?_
  refine go ?_
  refine dv (U:=bh) (l:=dC d) 0 zr zr zr zr zr zr (go ?_)
  refine Vd hf ?_
  refine go ?_
  ((refine fq zr zr zr zr (rV) ad ?_ (fun _ _ w hp hw=>by obtain⟨r,rfl,rfl⟩:=hp;exact hw.cI ad)))
  rintro _ _⟨r,rfl,rfl⟩
  refine go ?_
  refine ah hE Tryz.func22 zr zr ⟨_,rfl,rfl⟩
end Go.Proofs.YtlionahpheehaaaGreatDoor
namespace Go.Proofs.YtlionahpheehaaaGreatDoor
open Go Go.SL
def Vn(x:Int × Int):List Value:=[.int .i64 x.1,.int .i64 x.2]
def zA(x:Int × Int):(Vn x).length=2:=rfl
def JD{A:Ab}{d:Dg}{a:List UInt8}(h:HA A)(hv:vw A (pS d)=some a):vP A d 0 (a.length:Int)=(a,0):=by
 have SV:vw A (cX kB d)=some a:=hv
 unfold vP
 rw[mI,SV,Option.isSome_some,if_pos rfl,EB h SV (Int.le_refl 0) aj aj]
 simp
end Go.Proofs.YtlionahpheehaaaGreatDoor
namespace Go.SL
open Go Go.RowKit Go.ChangeShapes Go.WideShapes
section
variable{P:Program}{H:Type}{enc:TypeId × Value→H}{W:World}{base:Nat}{spare:Nat→Bool}{held:Bool}
theorem Nd{α:Type}[Inhabited α]{t e:TypeId}(ht:P.underlying t=some (.slice e))(g:α→List Value)(s:Nat)(VE:0<s)(hs:∀x,(g x).length=s)(hc:P.cellsOf e=s)(Q:α→Prop)(iK:∀(fuel:Nat) (cs:List Value) (x:DataW H × List MemPlace),DataW.trod enc P W base spare held fuel e cs=some x→∃y,cs=g y∧Q y){fuel:Nat}{cs:List Value}{x:DataW H × List MemPlace}(h:DataW.trod enc P W base spare held fuel t cs=some x):∃(l:List α) (a:Option Addr) (c:Nat),cs=[.slice a l.length c]∧Vw (old W) (.slice a l.length c) l.length (l.flatMap g)∧(∀x∈l,Q x)∧l.length≤9223372036854775807:=by
 have hmx:maxLen=9223372036854775807:=by decide
 rcases Go.Deep.open_slice ht h with⟨pR,_⟩|⟨a,len,cap,m,n,D,Pl,pR,hb,hl,hm,Rg,_,hx⟩
 ·subst pR
  exact⟨[],none,0,rfl,⟨none,0,rfl,.inl rfl⟩,by simp,by simp⟩
 ·subst pR
  have EX:len≤m:=by rw[Rg];split <;> omega
  have Hc:∀i,i<len→∃y:α,(∀k,k<s→W.cell? (a.add (i*s+k))=(g y)[k]?)∧Q y:=fun i hi=>by
   obtain⟨k6,h1,h2⟩:=hx i aj
   obtain⟨y,rfl,hy⟩:=iK _ _ _ h2
   rw[hc]at h1
   obtain⟨_,_,h3⟩:=World.cells?_some h1
   refine⟨y,fun k hk=>?_,hy⟩
   rw[← h3 k hk,Addr.add_add]
  obtain⟨f,hfy⟩:=Go.Deep.choose_lt Hc
  refine⟨(List.range len).map f,some a,cap,by simp,⟨some a,cap,by simp,?_⟩,?_,by simp;omega⟩
  ·rcases Nat.eq_zero_or_pos len with h0|h0
   ·grind
   ·right
    obtain⟨b,o,spot⟩:=a
    have hX:spot=none:=by
     have:=(hfy 0 h0).1 0 VE
     rw[Nat.zero_mul,Nat.zero_add,List.getElem?_eq_getElem (by rw[hs];exact VE)]at this
     simpa[Addr.add]using World.cell?_spot (this.trans rfl)
    subst hX
    refine⟨b,o,rfl,fun h ho j c hj=>?_⟩
    have I2:j<len*s:=by
     rcases Nat.lt_or_ge j (len*s)with h|h
     ·exact h
     ·rw[List.getElem?_eq_none (by rw[bR hs];simpa using h)]at hj;cases hj
    have hd:j/s<len:=Nat.div_lt_of_lt_mul (by rw[Nat.mul_comm];exact I2)
    have hk:j%s<s:=Nat.mod_lt _ VE
    have hjj:j/s*s+j%s=j:=by rw[Nat.mul_comm];exact Nat.div_add_mod _ _
    have h1:=cM hs (l:=(List.range len).map f) (i:=j/s) (x:=f (j/s)) (by simp[hd]) (j%s) hk
    rw[hjj,hj]at h1
    have h2:=(hfy _ hd).1 _ hk
    rw[hjj,Addr.add_eq]at h2
    grind [ox]
  grind
end
end Go.SL
namespace Go.Proofs.YtlionahpheehaaaGreatDoor
open Go Go.SL
structure TpS where
 k:Nat
 D:gX
 s:SJ
 z:Tk
 bs:Nat
 mb:Nat
 tb:Nat
 jb:Nat
 tv:Value
attribute [local irreducible] J K aH Ends ak aK aV bX bj aS bp bD cp Sha.chunks Sha.chunk Sha.rounds Sha.sched fz cY GI fG kE jF er dg aJ dj bK nt ws yg pP
set_option maxHeartbeats 4000000 in
theorem U2(X:HP)(hK:qI X)(v:Value)(a:List UInt8)(ha:eU X v a)(Ck:a.length≤9223372036854775807)(piece:Int)(hpi:SL.i64 piece)(ov:Value)(ord:List (Int × Int))(hp:Vw X ov ord.length (ord.flatMap Vn))(hol:ord.length≤1000000000000000)(hor:∀x∈ord,SL.i64 x.1∧SL.i64 x.2) :
  aH Tryz.prog 3 [v,.int .i64 piece,ov] [X] (fun r H=>r = .bool true∧H=[X]):=by
 have ha0:=ha
 have zq:=hp
 obtain⟨aa,ac,rfl,hac⟩:=ha.2
 obtain⟨oa,oc,rfl⟩:=hp.shape
 refine aH.aC Tryz.func3 Tryz.ntmps3 fun G F R hE=>?_
 refine go ?_
 refine ao (FB 16777216 aj aj) ?_
 rintro _ _⟨bd,rfl,rfl⟩
 refine go ?_
 refine az (cs:=bV [7]) zr zr zr zr zr zr zr zr zr bO ?_
 intro row
 obtain⟨x0,Z'⟩:=RW
 obtain⟨hr0,aeJ,agh,af'⟩:=Fp Z'
 have zI:x0.size=1:=aeJ
 have u4:=Cf (Sep [X,ak row (cl (bV [7]) 5)]) (hK.mono (aX (i:=0) rfl)) _ [7] ((TH row 7).mono (aX (i:=1) rfl)) (by decide) 16
 rw[Z']at u4
 dsimp only at u4
 unfold ix at u4
 refine aT (aq.trans (H2:=X::ak row (cl (bV [7]) 5)::aJ bd (Ab.new 16777216)::F) ad (aq.cg [X,ak row (cl (bV [7]) 5)] _)) (go ?_)
 refine aeb u4 ?_
 refine aT (aq.cR [X,ak row (cl (bV [7]) 5)] _) (go ?_)
 refine aL zr zr zr bO ?_
 intro b9
 refine go ?_
 refine aB zr zr ?_ ?_
 ·intro h
  exact absurd zI h
 intro _
 have jx:=Cf X hK _ a ha0 Ck piece
 refine go ?_
 cases hx:jF a piece with
 | none =>
  rw[hx]at jx
  dsimp only at jx
  unfold ix at jx
  refine aeb jx ?_
  refine go ?_
  refine al (H':=X::F) ad ?_
  refine ah hE Tryz.func3 zr zr ⟨rfl,rfl⟩
 | some x =>
 obtain⟨hr,kr,J7,hwb⟩:=Fp hx
 obtain⟨ls,Dy⟩:∃l,er a piece=some l:=by
  grind [jF,er]
 obtain⟨kJ,-,-,-⟩:=qy hx Dy
 have hll:=rQ Dy
 have T4:=dB hr
 rw[hx]at jx
 dsimp only at jx
 unfold ix at jx
 refine aeb jx ?_
 refine go ?_
 by_cases af1:1000<a.length
 case pos =>
  refine aE 73 ((.bool true)) rfl ((congrArg Value.bool (decide_eq_true aj))) (go ?_)
  refine al (H':=X::F) ad ?_
  refine ah hE Tryz.func3 zr zr ⟨rfl,rfl⟩
 refine aE 73 ((.bool false)) rfl ((congrArg Value.bool (decide_eq_false aj))) (go ?_)
 refine ao (qF X hK _ a ha0 Ck piece) ?_
 rintro _ _ (⟨hn,-,-⟩|⟨ls',lv,Ud,rfl,rfl⟩)
 ·rw[Dy]at hn;cases hn
 rw[Dy]at Ud
 injection Ud with Ud
 subst Ud
 refine go ?_
 refine ao (De 2 500 aj aj aj aj) ?_
 rintro _ _⟨bn,D0,hD0,afM,rfl,rfl⟩
 refine go ?_
 ((refine ao (tG X hK bd 1048576 (Ab.new 16777216) (by show 1≤_;omega)) ?_))
 rintro _ _ (⟨h,_⟩|⟨_,h,_⟩|⟨_,_,e1,B1,J',y7⟩)
 ·exfalso;omega
 ·cases h
 obtain rfl:=Lx (fun e t cs hW=>(rj.first hW).1) J'
 rcases y7 with⟨dw,-⟩|⟨-,agE,bs,mb,rfl,rfl⟩
 ·exact absurd rfl dw
 obtain⟨o1,o2,o3,o4⟩:=RJ (HA.new 16777216) rfl (by show 0≤_;omega) B1 J'
 have hop:=D6 X hK bs bd 1048576 aj mb ⟨B1,[],false⟩ ⟨by simp,by simp⟩ (by simp) (by have h1:(Ab.new 16777216).aF.length=1:=rfl;simp only;omega) (by simp only;omega) o2 o3 o4
 refine aT (H':=ak b9 (cl (ck x) 31)::aK 29 32 lv ls.length (ls.flatMap dC)::nt bn D0::(cV bs bd 1048576 mb ⟨B1,[],false⟩++(X::F))) ad (go ?_)
 refine ao hop ?_
 rintro _ _⟨e2,t0,jn0,Md,hO,qu⟩
 have hW:wP 1048576 (Ab.new 16777216) e2 (t0,jn0) Md:=⟨0,B1,J',by rw[if_neg aj];exact⟨t0,jn0,hO,rfl⟩⟩
 obtain⟨rfl,rfl,kX,hC0⟩:=rj.first hW
 rcases qu with⟨dw,-⟩|⟨-,tb,jb,tv,ts,Cx,rfl,rfl⟩
 ·exact absurd rfl dw
 have tp:=UQ Cx
 subst tp
 unfold lN
 refine go ?_
 obtain⟨b1,b2,b3,b4,b5,b6,b7,b8⟩:=hC0.bnd aj aj
 have y8:=La tb bs jb bd tv 1048576 aj mb [] false (t0,jn0) x (by simp) aj aj b6 aj aj 10000 aj (fun t h=>hC0.sq aj aj h.2 ((sG h.1).mono aj))
 unfold lN ix at y8
 refine aW (U:=bh) (l:=ck x) 5 zr zr zr zr zr zr ?_
 refine ao y8 ?_
 rintro _ _⟨e1,ts1,Je,br1,t1,rfl,rfl,Tb⟩
 obtain⟨rfl,rfl,y1,rfl,hT1⟩:=BP.first (a:=a) hr aj hC0 kX Tb
 clear y8 Tb
 obtain⟨m1,m2,m3,-,-,-,m7⟩:=hT1.ob.mem hT1.ci
 refine zt ?_
 refine aM 6 rfl ?_
 rintro la lc rfl
 refine eE 6 rfl ?_
 intro hvl
 obtain⟨Y,hY⟩:∃Y,Y=Sep [X,aK 29 32 (.slice la ls.length lc) ls.length (ls.flatMap dC)]:=⟨_,rfl⟩
 have hKY:qI Y:=hY ▸ hK.mono (aX (i:=0) rfl)
 have haY:eU Y (.slice aa a.length ac) a:=hY ▸ ha0.mono (aX (i:=0) rfl)
 have hlY:Vw Y (.slice la ls.length lc) ls.length (ls.flatMap dC):=hY ▸ hvl.mono (aX (i:=1) rfl)
 refine al (aq.trans (H2:=X::aK 29 32 (.slice la ls.length lc) ls.length (ls.flatMap dC)::ak b9 (cl (ck x) 31)::nt bn D0::ak tb (cl [ptr bs,ptr jb,Je,.bool false] 101)::aK 103 1 Je 1 ([y1].map dm)::bK [y1]::dj bs bd jb 1048576 mb [] t1::F) ad (aq.cg [X,aK 29 32 (.slice la ls.length lc) ls.length (ls.flatMap dC)] _)) ?_
 rw[← hY]
 refine go ?_
 refine bF (fun y:Nat × gX=>y.1≤ls.length∧wU y.2 y.1∧MW y.2.a (yg x a ls) y.1 y.1 (fun _=>False)) (fun y=>ls.length-y.1)
  (fun y=>[(0,.slice aa a.length ac),(2,.slice oa ord.length oc),(7,ptr bd),(9,ptr b9),(11,.slice la ls.length lc),(13,ptr bn),(15,ptr bs),(17,ptr tb),(18,.int .i64 (y.1:Int))])
  (fun y=>Y::ak b9 (cl (ck x) 31)::nt bn y.2::ak tb (cl [ptr bs,ptr jb,Je,.bool false] 101)::aK 103 1 Je 1 ([y1].map dm)::bK [y1]::dj bs bd jb 1048576 mb [] t1::F) (0,D0) ⟨Nat.zero_le _,hD0,by simp only;rw[afM];exact MW.new _⟩ rfl cF ad ?_
 rintro⟨i,D⟩⟨hi,hD,hM⟩ ih
 simp only at hi hD hM
 dsimp only
 have agl:ls.length≤64:=by omega
 refine go ?_
 refine aB zr zr ?_ ?_
 ·intro dk
  have qX:i<ls.length:=by omega
  obtain⟨k8,ac2,at_,n,hX,I6⟩:=EJ hx Dy (i:=i) aj
  obtain⟨g0,g1,g2,g3,g4,g5,g6,gr⟩:=jL hX
  have LO:=wQ x (i:Int)
  rw[hX]at LO
  dsimp only at LO
  unfold ix at LO
  refine go ?_
  refine aW (U:=bh) (l:=ck x) 1 zr zr zr zr zr zr (go ?_)
  refine aeb LO ?_
  refine go ?_
  refine ao (D5 Y hKY _ ls hlY aj i qX) ?_
  rintro _ _⟨pv,rfl,rfl⟩
  refine aN 0 rfl ?_
  rintro pa pc rfl
  refine zt ?_
  refine zQ 0 rfl ?_
  intro hvp hcp
  have hpm:pP x a ls i=⟨4,x.d,(i:Int),[],(a.drop at_.toNat).take n.toNat,dg ls.length ls i,[],false⟩:=by
   rw[← I6];unfold pP;rfl
  have hlb:((a.drop at_.toNat).take n.toNat).length=n.toNat:=by rw[List.length_take,List.length_drop];omega
  have afU:(dg ls.length ls i).length≤10:=by
   rw[qg _ _ _ qX]
   exact tA 10 _ _ _ aj
  have heM:yg x a ls i=cU (cZ (pP x a ls i)):=by unfold yg;rfl
  have tq:=UM k8 (by rw[hpm]) (by rw[I6];omega)
  rw[← heM]at tq
  rw[hpm]at k8 heM
  have hbc:=haY.piece at_.toNat (at_+n).toNat aj aj
  rw[show(at_+n).toNat-at_.toNat=n.toNat by omega]at hbc
  obtain⟨Z,hZ⟩:∃Z,Z=Sep [aK 29 32 (.slice pa (dg ls.length ls i).length pc) (dg ls.length ls i).length ((dg ls.length ls i).flatMap dC),Y]:=⟨_,rfl⟩
  have hMA:gW Z ⟨.slice none 0 0,.slice (sliceAt aa ac at_.toNat 1) n.toNat (ac-at_.toNat),.slice pa (dg ls.length ls i).length pc,.slice none 0 0⟩ ⟨4,x.d,(i:Int),[],(a.drop at_.toNat).take n.toNat,dg ls.length ls i,[],false⟩ :=
   ⟨⟨none,0,rfl,.inl rfl⟩,hZ ▸ hbc.mono (aX (i:=1) rfl),hZ ▸ ⟨hvp.mono (aX (i:=0) rfl),pa,pc,rfl,hcp⟩,⟨none,0,rfl,.inl rfl⟩,by simp,by simp only;omega,by simp only;omega,by simp⟩
  have Rx:=K2 Z _ _ hMA k8
  rw[← heM]at Rx
  refine al (aq.cg [aK 29 32 (.slice pa (dg ls.length ls i).length pc) (dg ls.length ls i).length ((dg ls.length ls i).flatMap dC),Y] _) ?_
  rw[← hZ]
  refine aO (fun w=>Sat G w ([ak b9 (cl (ck x) 31),Z])) (dM 0 11 (.act 11 (dM 12 5 .nil))) rfl aw aw aw dI ?_
  (repeat(first|refine g9 ?_|refine cE (U:=bh) 0 zr zr zr zr zr zr ?_))
  refine aU (p:=at_) (q:=at_+n) zr zr zr zr zr zr zr aj aj (.inr aj) ?_
  ((refine au 144 ((.slice (sliceAt aa ac at_.toNat 1) n.toNat (ac-at_.toNat))) rfl ((by rw[show(at_+n).toNat-at_.toNat=n.toNat by omega];rfl)) ?_))
  refine go ?_
  ((refine fq zr zr zr zr (Rx) ad ?_ (fun _ _ w hp hw=>by obtain⟨_,rfl,rfl⟩:=hp;exact hw.cI ad)))
  rintro _ _⟨cv,rfl,rfl⟩
  refine go ?_
  refine eZ 0 rfl ?_
  intro hvc
  refine ao (Ii bn i D hD aj _ 0 1 (i:Int) cv _ hvc aj) ?_
  rintro _ _⟨D',RG,hDa,rfl,rfl⟩
  obtain⟨-,S9⟩:=hM.send aj aj aj
  rw[← hDa]at S9
  refine go ?_
  refine al (H':=Z::ak b9 (cl (ck x) 31)::nt bn D'::ak tb (cl [ptr bs,ptr jb,Je,.bool false] 101)::aK 103 1 Je 1 ([y1].map dm)::bK [y1]::dj bs bd jb 1048576 mb [] t1::F) ad ?_
  rw[hZ]
  refine al (aq.cR [aK 29 32 (.slice pa (dg ls.length ls i).length pc) (dg ls.length ls i).length ((dg ls.length ls i).flatMap dC),Y] _) ?_
  refine aQ ih (i+1,D') rfl ⟨by simp only;omega,RG,S9⟩ (by simp only;omega) cF ad
 intro fO
 have ue:i=ls.length:=by omega
 subst ue
 clear ih hi
 refine al (H':=Y::ak b9 (cl (ck x) 31)::nt bn D::ak tb (cl [ptr bs,ptr jb,Je,.bool false] 101)::aK 103 1 Je 1 ([y1].map dm)::bK [y1]::dj bs bd jb 1048576 mb [] t1::F) ad ?_
 rw[hY]
 refine al (aq.cR [X,aK 29 32 (.slice la ls.length lc) ls.length (ls.flatMap dC)] _) ?_
 clear hKY haY hlY hY
 refine go ?_
 refine bF (fun y:Nat × gX=>y.1≤40∧wU y.2 (ls.length+y.1)∧MW y.2.a (yg x a ls) ls.length (ls.length+y.1) (fun _=>False)) (fun y=>40-y.1)
  (fun y=>[(0,.slice aa a.length ac),(2,.slice oa ord.length oc),(7,ptr bd),(9,ptr b9),(13,ptr bn),(15,ptr bs),(17,ptr tb),(26,.int .i64 (y.1:Int))])
  (fun y=>X::ak b9 (cl (ck x) 31)::nt bn y.2::ak tb (cl [ptr bs,ptr jb,Je,.bool false] 101)::aK 103 1 Je 1 ([y1].map dm)::bK [y1]::dj bs bd jb 1048576 mb [] t1::F) (0,D) ⟨Nat.zero_le _,hD,hM⟩ rfl cF ad ?_
 clear hD hM
 rintro⟨i,D⟩⟨hi,hD,hM⟩ ih
 simp only at hi hD hM
 dsimp only
 refine go ?_
 by_cases eA:i<ord.length∧i<40
 case pos =>
  obtain⟨Uc,adi⟩:=eA
  obtain⟨pr,hpr⟩:∃y,ord[i]?=some y:=⟨ord[i],by simp⟩
  have age:=hor _ (List.mem_of_getElem? hpr)
  have m0:(ord.flatMap Vn)[i*2+0]?=some (.int .i64 pr.1):=(cM zA hpr 0 aj).trans rfl
  have m1:(ord.flatMap Vn)[i*2+1]?=some (.int .i64 pr.2):=(cM zA hpr 1 aj).trans rfl
  obtain⟨pb,po,pcc,hps⟩:=zq.some (by rw[← List.length_pos_iff,bR zA];omega)
  simp only[Value.slice.injEq,true_and]at hps
  obtain⟨rfl,rfl⟩:=hps
  refine au 164 ((.bool true)) rfl ((congrArg Value.bool (decide_eq_true aj))) (go ?_)
  refine aE 167 ((.bool true)) rfl ((congrArg Value.bool (decide_eq_true aj))) (go ?_)
  refine aO (fun w=>Sat G w ([X])) (dM 0 13 (.act 13 .nil)) rfl aw aw aw dI ?_
  refine go ?_
  refine cu i 2 zr zr zr zr zr zr zr zr Uc ?_
  refine jg zr zr zr zr zr zr aj aj ?_
  refine aY ?_
  refine cQ 0 (i*2+0) zr zr zr zq (Nat.add_assoc _ _ _) m0 zr zr (go ?_)
  refine cu i 2 zr zr zr zr zr zr zr zr Uc ?_
  refine jg zr zr zr zr zr zr aj aj ?_
  refine aY ?_
  refine cQ 0 (i*2+1) zr zr zr zq (Nat.add_assoc _ _ _) m1 zr zr (go ?_)
  refine ao (Ca bn (ls.length+i) D hD aj pr.1 (max 0 (min pr.2 1000))) ?_
  rintro _ _⟨D',RG,hDa,rfl,rfl⟩
  have S9:=hM.double aj pr.1 (max 0 (min pr.2 1000)) aj
  rw[← hDa]at S9
  refine go ?_
  refine aO (fun w=>Sat G w ([X])) (dM 0 13 (.act 13 .nil)) rfl aw aw aw dI ?_
  refine go ?_
  refine cu i 2 zr zr zr zr zr zr zr zr Uc ?_
  refine jg zr zr zr zr zr zr aj aj ?_
  refine aY ?_
  refine cQ 0 (i*2+1) zr zr zr zq (Nat.add_assoc _ _ _) m1 zr zr (go ?_)
  refine cu i 2 zr zr zr zr zr zr zr zr Uc ?_
  refine jg zr zr zr zr zr zr aj aj ?_
  refine aY ?_
  refine cQ 0 (i*2+0) zr zr zr zq (Nat.add_assoc _ _ _) m0 zr zr (go ?_)
  refine ao (IC bn (ls.length+i+1) D' RG pr.2 (max 0 (min pr.1 1000))) ?_
  rintro _ _⟨D2,V5,afL,rfl,rfl⟩
  have hM2:=S9.hold pr.2 (max 0 (min pr.1 1000)) aj
  rw[← afL]at hM2
  refine go ?_
  refine aQ ih (i+1,D2) rfl ⟨by simp only;omega,V5,hM2⟩ (by simp only;omega) cF ad
 clear ih
 have hk3:ls.length+i≤ls.length+40:=by omega
 have hD3:=hD.up hk3 aj
 have hM3:MW D.a (yg x a ls) ls.length (ls.length+40) (fun l=>cy y1.ws y1.n (l:Int)=true) :=
  ⟨hM.cf,hM.nodes,by have:=hM.len;omega,hM.each,fun l hl=>(hM.all l hl).elim (fun h=>h.elim) .inr⟩
 by_cases h1:i<ord.length
 case' pos =>
  refine au 164 ((.bool true)) rfl ((congrArg Value.bool (decide_eq_true aj))) (go ?_)
  refine aE 167 ((.bool false)) rfl ((congrArg Value.bool (decide_eq_false aj))) ?_
 case' neg =>
  refine au 164 ((.bool false)) rfl ((congrArg Value.bool (decide_eq_false aj))) ?_
 all_goals
  refine go ?_
  refine bF (fun g:TpS=>g.k≤23∧wU g.D (ls.length+40)∧MW g.D.a (yg x a ls) ls.length (ls.length+40) (fun l=>cy g.z.ws g.z.n (l:Int)=true)∧(21≤g.k→g.D.a.iE=[])∧BP a x g.s g.z∧g.z.n=y1.n) (fun g=>23-g.k)
   (fun g=>[(0,.slice aa a.length ac),(7,ptr bd),(9,ptr b9),(13,ptr bn),(15,ptr g.bs),(17,ptr g.tb),(27,.int .i64 (50*g.k:Int))])
   (fun g=>X::ak b9 (cl (ck x) 31)::nt bn g.D::ak g.tb (cl [ptr g.bs,ptr g.jb,g.tv,.bool false] 101)::aK 103 1 g.tv 1 ([g.z].map dm)::bK [g.z]::dj g.bs bd g.jb 1048576 g.mb [] g.s::F) ⟨0,D,t1,y1,bs,mb,tb,jb,Je⟩ ⟨Nat.zero_le _,hD3,hM3,fun h=>absurd (show 21≤0 from h) aj,hT1,rfl⟩ rfl cF ad ?_
  rintro⟨k,D,s,z,bs,mb,tb,jb,tv⟩⟨hk,hD,hM,hW0,hT,hzn⟩ ih
  simp only at hk hD hM hW0 hT hzn
  dsimp only
  refine go ?_
  refine aB zr zr ?_ ?_
  ·intro hle
   have ado:k≤22:=by omega
   have Um:=Vg bn (ls.length+40) D hD (50*(k:Int)) ⟨aj,aj⟩
   unfold ws at Um
   refine go ?_
   refine ao Um ?_
   rintro _ _⟨D',out,W,RG,hDa,⟨hWs,hWa⟩,rfl,rfl⟩
   obtain⟨Hv,S9,u3⟩:=hM.due (50*(k:Int))
   rw[← hWa]at Hv S9
   rw[← hDa]at S9 u3
   have hWv:∀y∈W,∃a' c',y.v = .slice a' y.bs.length c':=fun y hy=>hD.vs y (hWs.subset hy)
   have hWb:∀y∈W,y.bs.length≤20000:=fun y hy=>hD.bytes y (hWs.subset hy)
   have RD:W.length≤5000:=by
    have h1:=hWs.length_le
    have h2:=hD.len
    have h3:=hD.cf
    omega
   clear Um
   refine aN 1 rfl ?_
   rintro wa wc rfl
   refine zt ?_
   refine eE 1 rfl ?_
   intro hvW
   refine go ?_
   refine bF (fun g:Nat × SJ × Tk=>g.1≤W.length∧BP a x g.2.1 g.2.2∧g.2.2.n=y1.n∧(∀l:Int,cy z.ws z.n l=true→cy g.2.2.ws g.2.2.n l=true)∧(∀p,p<g.1→∀y,W[p]?=some y→∀l,l<ls.length→y.bs=yg x a ls l→cy g.2.2.ws g.2.2.n (l:Int)=true)) (fun g=>W.length-g.1)
    (fun g=>[(0,.slice aa a.length ac),(7,ptr bd),(9,ptr b9),(13,ptr bn),(15,ptr bs),(17,ptr tb),(27,.int .i64 (50*k:Int)),(28,.slice wa W.length wc),(30,.int .i64 (g.1:Int))])
    (fun g=>aS u6 W::aK 65 5 (.slice wa W.length wc) W.length (W.flatMap aR)::X::ak b9 (cl (ck x) 31)::nt bn D'::ak tb (cl [ptr bs,ptr jb,tv,.bool false] 101)::aK 103 1 tv 1 ([g.2.2].map dm)::bK [g.2.2]::dj bs bd jb 1048576 mb [] g.2.1::F) (0,s,z)
    ⟨Nat.zero_le _,hT,hzn,fun _ h=>h,fun p hp=>absurd hp (Nat.not_lt_zero _)⟩ rfl cF ad ?_
   rintro⟨q,s2,z2⟩⟨hq,DJ,VO,LZ,Ui⟩ LJ
   simp only at hq DJ VO LZ Ui
   dsimp only
   refine go ?_
   refine aB zr zr ?_ ?_
   ·intro dk
    have ae3:q<W.length:=by omega
    obtain⟨y,hy⟩:∃y,W[q]?=some y:=⟨W[q],by simp⟩
    have QV:=List.mem_of_getElem? hy
    obtain⟨ya,yc,hyv⟩:=hWv y QV
    have Bb:=hWb y QV
    obtain⟨l,hl,N1⟩:=Hv y.a (List.mem_map.2 ⟨y,QV,rfl⟩)
    have N1:y.bs=yg x a ls l:=N1
    have e4:(W.flatMap aR)[q*5+4]?=some (.slice ya y.bs.length yc):=(cM df hy 4 aj).trans (congrArg some hyv)
    obtain⟨wb,wo,wcc,hws⟩:=hvW.some (by rw[← List.length_pos_iff,bR df];omega)
    simp only[Value.slice.injEq,true_and]at hws
    obtain⟨rfl,rfl⟩:=hws
    obtain⟨k8,ac2,at_,n,hX,I6⟩:=EJ hx Dy (i:=l) aj
    have Uo:dO y.bs=some (pP x a ls l):=by rw[N1];unfold yg;exact decode_encode k8
    refine al (gN u6 hy _) ?_
    have pQ:u6 y=aK 5 1 (.slice ya y.bs.length yc) y.bs.length (bV y.bs):=by unfold u6;rw[hyv]
    rw[pQ]
    refine zQ 0 rfl ?_
    intro hvy hcy
    refine go ?_
    refine cu q 5 zr zr zr zr zr zr zr zr ae3 (go ?_)
    refine aY ?_
    refine aZ 2 (q*5+4) zr zr zr hvW (Nat.add_assoc _ _ _) e4 zr zr ?_
    refine ao (Cb _ _ y.bs ⟨hvy,ya,yc,rfl,hcy⟩ aj) ?_
    rintro _ _ (⟨hn,-,-⟩|⟨m,mv,Z,hdm,rfl,hZm,rfl⟩)
    ·rw[Uo]at hn;cases hn
    rw[Uo]at hdm
    injection hdm with hdm
    subst hdm
    obtain⟨vi,vb,vp,vm⟩:=mv
    have hZb:=hZm.vb
    have hZp:=hZm.vp
    obtain⟨ia,ic,rfl⟩:=hZm.vi.shape
    obtain⟨ba,bc,rfl,-⟩:=hZm.vb.2
    obtain⟨pa,pc,rfl,-⟩:=hZm.vp.2
    obtain⟨ma,mc,rfl⟩:=hZm.vm.shape
    refine go ?_
    refine aL zr zr zr bO ?_
    intro b31
    refine zt ?_
    have hpi:(pP x a ls l).piece=(l:Int):=by unfold pP;rfl
    obtain⟨Y2,hY2⟩:∃Y2,Y2=Sep [Z,X]:=⟨_,rfl⟩
    have afK:qI Y2:=hY2 ▸ hK.mono (aX (i:=1) rfl)
    have afD:eU Y2 (.slice ba (pP x a ls l).bytes.length bc) (pP x a ls l).bytes:=hY2 ▸ hZb.mono (aX (i:=0) rfl)
    have aeU:K4 Y2 (.slice pa (pP x a ls l).proof.length pc) (pP x a ls l).proof:=hY2 ▸ hZp.mono (aX (i:=0) rfl)
    refine al (aq.trans (H2:=Z::X::ak b31 (cl (mC ⟨.slice ia (pP x a ls l).ids.length ic,.slice ba (pP x a ls l).bytes.length bc,.slice pa (pP x a ls l).proof.length pc,.slice ma (pP x a ls l).dz.length mc⟩ (pP x a ls l)) 55)::aK 5 1 (.slice ya y.bs.length yc) y.bs.length (bV y.bs)::aS u6 (W.eraseIdx q)::aK 65 5 (.slice (some ⟨wb,wo,none⟩) W.length wc) W.length (W.flatMap aR)::ak b9 (cl (ck x) 31)::nt bn D'::ak tb (cl [ptr bs,ptr jb,tv,.bool false] 101)::aK 103 1 tv 1 ([z2].map dm)::bK [z2]::dj bs bd jb 1048576 mb [] s2::F) ad (aq.cg [Z,X] _)) ?_
    rw[← hY2]
    obtain⟨c1,c2,c3,c4,c5,c6,c7,c8⟩:=DJ.ci.bnd (by have:=pU DJ.ci DJ.ob;omega) (by have:=pU DJ.ci DJ.ob;omega)
    have Bc:=Sd Y2 afK tb bs jb bd tv 1048576 mb [z2] false s2 x (pP x a ls l).piece aj _ (pP x a ls l).bytes afD (by have:=k8;rw[I6,List.length_take,List.length_drop];omega) _ (pP x a ls l).proof aeU aj c2 c3 aj aj 10000 aj (fun t u h1 h2=>DJ.ci.sq (by have:=pU DJ.ci DJ.ob;omega) (by have:=pU DJ.ci DJ.ob;omega) (h2.2.trans h1.2) (by
     have g1:=tF h1.1
     have g2:=BQ h2.1
     have g11:=g1.1
     have g12:=g1.2
     have g21:=g2.1
     have g22:=g2.2
     exact⟨aj,aj⟩))
    unfold lN ix at Bc
    refine go ?_
    refine aW (U:=bh) (l:=ck x) 5 zr zr zr zr zr zr (go ?_)
    refine ao Bc ?_
    rintro _ _⟨e,eG,jN,t,rfl,rfl,hB⟩
    obtain⟨rfl,rfl,z3,rfl,hn3,hT3,I7⟩:=DJ.put kr.symm (by rw[hpi];exact hX) (by rw[hpi];exact ac2) I6 hB
    rw[hpi]at I7
    clear hB Bc
    refine go ?_
    refine al (H':=Y2::aK 5 1 (.slice ya y.bs.length yc) y.bs.length (bV y.bs)::aS u6 (W.eraseIdx q)::aK 65 5 (.slice (some ⟨wb,wo,none⟩) W.length wc) W.length (W.flatMap aR)::ak b9 (cl (ck x) 31)::nt bn D'::ak tb (cl [ptr bs,ptr jb,tv,.bool false] 101)::aK 103 1 tv 1 ([z3].map dm)::bK [z3]::dj bs bd jb 1048576 mb [] t::F) ad ?_
    rw[hY2]
    refine al (aq.trans (aq.cR [Z,X] _) (aq.trans (H2:=aK 5 1 (.slice ya y.bs.length yc) y.bs.length (bV y.bs)::aS u6 (W.eraseIdx q)::aK 65 5 (.slice (some ⟨wb,wo,none⟩) W.length wc) W.length (W.flatMap aR)::X::ak b9 (cl (ck x) 31)::nt bn D'::ak tb (cl [ptr bs,ptr jb,tv,.bool false] 101)::aK 103 1 tv 1 ([z3].map dm)::bK [z3]::dj bs bd jb 1048576 mb [] t::F) ad (by rw[← pQ];exact oM u6 hy _))) ?_
    refine aQ LJ (q+1,t,z3) rfl ⟨by simp only;omega,hT3,by simp only;omega,fun l' h=>by rw[I7,LZ l' h];rfl,fun p hp y' SR l' EZ L4=>?_⟩ (by simp only;omega) cF ad
    simp only at hp ⊢
    rw[I7]
    by_cases LW:p=q
    ·subst LW
     rw[hy]at SR
     injection SR with SR
     subst SR
     have hll:=RO hx Dy (i:=l) (j:=l') aj aj (N1.symm.trans L4)
     rw[hll]
     simp
    ·rw[Ui p aj y' SR l' EZ L4]
     rfl
   intro fO
   have VI:q=W.length:=by omega
   subst VI
   clear LJ
   have hM2:MW D'.a (yg x a ls) ls.length (ls.length+40) (fun l=>cy z2.ws z2.n (l:Int)=true):=S9.imp fun l hl h=>by
    rcases h with h|⟨f,hf,hfb⟩
    ·exact LZ l h
    ·obtain⟨y,hy,rfl⟩:=List.mem_map.1 hf
     obtain⟨p,hp⟩:=List.mem_iff_getElem?.1 hy
     exact Ui p ((List.getElem?_eq_some_iff.1 hp).1) y hp l hl hfb
   clear Ui LZ S9 hM hM3 Hv
   refine go ?_
   refine uy zr zr zr aj aj (go ?_)
   have hwT:=pU DJ.ci DJ.ob
   refine aB zr zr ?_ ?_
   ·intro h4
    refine al (H':=dj bs bd jb 1048576 mb [] s2::X::ak b9 (cl (ck x) 31)::nt bn D'::F) ad ?_
    refine al (Ij _ _ _ _ _ _ _) ?_
    have hq4:=DJ.ci.cs.dq
    have aga:=DJ.ci.cs.lO
    refine go ?_
    ((refine ao (IK bd s2.1.A 0 (-1) 0 X (.slice none 0 0) [] ⟨none,0,rfl,.inl rfl⟩ (by simp) aj (by rw[hq4.wr];simp) aj aj aj) ?_))
    rintro _ _ rfl
    refine go ?_
    ((refine ao (tG X hK bd 1048576 (s2.1.A.dx 0 [] (-1) 0) (by show 1≤_;omega)) ?_))
    rintro _ _ (⟨h,_⟩|⟨_,h,_⟩|⟨_,_,e4,B4,ho4,hc4⟩)
    ·exfalso;omega
    ·cases h
    obtain rfl:=Lx (fun e t cs hW=>(DJ.back hW).1) ho4
    rcases hc4 with⟨dw,-⟩|⟨-,agD,KD,mb3,rfl,rfl⟩
    ·exact absurd rfl dw
    obtain⟨p1,p2,p3,p4⟩:=DJ.ci.adK aj B4 ho4
    have ac5:=D6 X hK KD bd 1048576 aj mb3 ⟨B4,[],false⟩ ⟨by simp,by simp⟩ (by simp) (by have h1:(s2.1.A.dx 0 [] (-1) 0).aF.length=1:=rfl;simp only;omega) (by simp only;omega) p2 p3 p4
    refine aT (H':=ak b9 (cl (ck x) 31)::nt bn D'::(cV KD bd 1048576 mb3 ⟨B4,[],false⟩++(X::F))) ad (go ?_)
    refine ao ac5 ?_
    rintro _ _⟨e5,t5,jn5,cs5,hO5,hc5⟩
    have hW5:wP 1048576 (s2.1.A.dx 0 [] (-1) 0) e5 (t5,jn5) cs5:=⟨0,B4,ho4,by rw[if_neg aj];exact⟨t5,jn5,hO5,rfl⟩⟩
    obtain⟨rfl,hn5⟩:=DJ.back hW5
    rcases hc5 with⟨dw,-⟩|⟨-,tb5,jb5,tv5,ts5,afr,rfl,rfl⟩
    ·exact absurd rfl dw
    obtain⟨z5,rfl,af9,hT5,hb5⟩:=hn5 ts5 afr
    unfold lN
    refine go ?_
    refine aE 27 ((.int .i64 (50*((k+1:Nat):Int)))) rfl ((congrArg (Value.int .i64) aj)) ?_
    refine aQ ih ⟨k+1,D',(t5,jn5),z5,KD,mb3,tb5,jb5,tv5⟩ rfl ⟨by simp only;omega,RG,hM2.imp (fun l _ h=>by simp only;rw[hb5];exact h),fun h=>u3 (by simp only at h;omega),hT5,by simp only;omega⟩ (by simp only;omega) cF ad
   intro h4
   refine go ?_
   refine aE 27 ((.int .i64 (50*((k+1:Nat):Int)))) rfl ((congrArg (Value.int .i64) aj)) ?_
   refine aQ ih ⟨k+1,D',s2,z2,bs,mb,tb,jb,tv⟩ rfl ⟨by simp only;omega,RG,hM2,fun h=>u3 (by simp only at h;omega),DJ,VO⟩ (by simp only;omega) cF ad
  intro O6
  have agu:k=23:=by omega
  clear ih
  have afG:∀l:Nat,l<z.n→cy z.ws z.n (l:Int)=true:=fun l hl=>(hM.all l aj).elim id fun⟨f,hf,_⟩=>by rw[hW0 aj]at hf;cases hf
  have hwT:=pU hT.ci hT.ob
  obtain⟨c1,c2,c3,c4,c5,c6,c7,c8⟩:=hT.ci.bnd aj aj
  have S0:=IF X hK tb bs jb bd tv 1048576 mb [z] false s x aj c2 c4 aj aj 10000 aj (fun e t h=>hT.ci.sq aj aj h.2 ((uz h.1).mono aj))
  unfold lN ix at S0
  refine go ?_
  refine aW (U:=bh) (l:=ck x) 1 zr zr zr zr zr zr (go ?_)
  refine ao S0 ?_
  rintro _ _⟨ri,eG,tv3,jN,t,rfl,rfl,hB⟩
  obtain⟨rfl,rfl,hC3,rfl,hvB⟩:=hT.ob.done hT.ci kr.symm hwb aj aj afG hB
  have hrw:=JD hC3.cs.dq.ha hvB
  have rV:=Oz bs bd 1048576 mb t.1.brk t.1.A x.d 0 (a.length:Int)
  rw[hrw]at rV
  unfold dV at rV
  refine go ?_
  refine aT (H':=dj bs bd jb 1048576 mb [] t::X::ak b9 (cl (ck x) 31)::F) ad ?_
  refine aT (Ml _ _ _ _ _ _ _) (go ?_)
  refine ct 3 zr zr zr zr zr zr (go ?_)
  refine ao rV ?_
  rintro _ _⟨rv,rfl,rfl⟩
  refine go ?_
  refine aT (H':=aK 5 1 rv a.length (bV a)::X::F) ad ?_
  refine aN 0 rfl ?_
  rintro ra rc rfl
  refine eZ 0 rfl ?_
  intro Hg
  refine go ?_
  refine pK 0 zr zr zr zr zr zr zr zr zr Hg (go ?_)
  refine pK 1 zr zr zr zr zr zr zr zr zr ha0.1 (go ?_)
  refine al (H':=X::F) ad ?_
  ((refine ah hE Tryz.func3 zr zr ⟨congrArg Value.bool (by rw[tx];simp),rfl⟩))
end Go.Proofs.YtlionahpheehaaaGreatDoor
namespace Go.Proofs.YtlionahpheehaaaGreatDoor
open Go Go.SL Go.RowKit Go.ChangeShapes Go.WideShapes
section
variable{H:Type}{enc:TypeId × Value→H}{W:World}{base:Nat}{spare:Nat→Bool}{held:Bool}
def Sf(X:HP)(v:Value)(l:List (Int × Int)):Prop:=Vw X v l.length (l.flatMap Vn)∧∀x∈l,SL.i64 x.1∧SL.i64 x.2
def JO(fuel:Nat)(cs:List Value)(x:DataW H × List MemPlace)(h:DataW.trod enc Tryz.prog W base spare held fuel 58 cs=some x):∃y:Int × Int,cs=Vn y∧(SL.i64 y.1∧SL.i64 y.2):=by
 obtain⟨l,h1,h2,h3⟩:=Nf (cs:=cs.toArray) Tryz.underlying58 Tryz.underlying3 aw aw (by simpa[Value.cells]using h)
 match l,h1 with
 | [x,y],_=>exact⟨(x,y),by simpa[iV,Vn]using congrArg Array.toList h2,h3 _ (by simp),h3 _ (by simp)⟩
def GO{fuel:Nat}{v:Value}{x:DataW H × List MemPlace}(h:DataW.trod enc Tryz.prog W base spare held fuel 23 [v]=some x):∃l:List (Int × Int),Sf (old W) v l:=by
 obtain⟨l,a,c,pR,h1,h2,h3⟩:=Nd Tryz.underlying23 Vn 2 aj zA aw (fun y=>SL.i64 y.1∧SL.i64 y.2) JO h
 simp only[List.cons.injEq,and_true]at pR
 subst pR
 exact⟨l,h1,h2⟩
end
end Go.Proofs.YtlionahpheehaaaGreatDoor
namespace Go.Proofs.YtlionahpheehaaaGreatDoor
open Go Go.SL
theorem On{P:Program}{H:Type}{enc:TypeId × Value→H}{W:World}{base:Nat}{spare:Nat→Bool}{held:Bool}{fuel n:Nat}{t e:TypeId}{k:IntKind}{l:List Value}{x:DataW H × List MemPlace}(ht:P.underlying t=some (.array n e))(he:P.underlying e=some (.int k))(hc:P.cellsOf e=1)(Cx:P.cellsOf t=n)(h:DataW.trod enc P W base spare held fuel t l=some x)(ns:List Int)(hx:x.1 = .agg (ns.map fun z => .lit (.int k z))):l=ns.map (Value.int k):=by
 obtain⟨xs,m,_,SS,hlen,IX,hf⟩:=DataW.trod_array ht h
 rw[Cx]at hlen
 rw[SS]at hx
 simp only[DataW.agg.injEq]at hx
 apply List.ext_getElem?
 intro i
 rcases Nat.lt_or_ge i n with hi|hi
 ·have h1:=hf i hi
  obtain⟨y,hy⟩:∃y,xs[i]?=some y:=⟨xs[i]' (by rw[IX];exact hi),by simp⟩
  rw[hy,hc,Nat.mul_one]at h1
  obtain⟨z,r,hz,w⟩:=DataW.trod_int he h1
  have h2:=congrArg (fun l:List Value=>l[0]?) r
  have h3:l[i]?=some (.int k z):=by simpa using h2
  have h4:=congrArg (fun l=>l[i]?) hx
  grind
 ·have NN:ns.length=n:=by have:=congrArg List.length hx;simpa[IX]using this.symm
  grind
def Vq:List Int:=Sha.ks.map fun w=>(w.toNat:Int)
def abd:wV Sha.ks=Vq.map (Value.int .u32):=by unfold wV Vq;rw[List.map_map];rfl
def Z3:Rows.laid_starling_digest_constants (H:=Unit) = .agg (Vq.map fun z => .lit (.int .u32 z)):=by
 unfold Rows.laid_starling_digest_constants Vq Sha.ks
 simp_all
theorem tm:Tryz.prog.globalNamed "starling/digest.constants" = some 0:=by kernel_rfl
def LG:(Tryz.prog.globals[0]?).map (·.type)=some 234:=by kernel_rfl
def QO:Tryz.prog.cellsOf 234=64:=by kernel_rfl
def ME:Tryz.prog.cellsOf 154=1:=by kernel_rfl
theorem Cy{W:World}(h:laidMet Tryz.prog [("starling/digest.constants", Rows.laid_starling_digest_constants)] W):W.var? Tryz.prog "starling/digest.constants" = some (wV Sha.ks).toArray:=by
 obtain⟨ps,⟨g,t,cs,fuel,p,q,hg,ht,aez,hd,_,_⟩,_⟩:=h
 obtain rfl:=Option.some.inj (tm.symm.trans hg)
 obtain rfl:=Option.some.inj (LG.symm.trans ht)
 rw[aez,abd]
 congr 1
 have:=On Tryz.underlying234 Tryz.underlying154 ME QO hd Vq Z3
 grind
theorem Iv{W:World}(h:laidMet Tryz.prog [("starling/digest.constants", Rows.laid_starling_digest_constants)] W):qI (old W):=by
 have hv:=Cy h
 refine⟨some ⟨0,0,none⟩,64,rfl,.inr ⟨_,0,rfl,fun hp ho j c hj=>?_⟩⟩
 rw[Nat.zero_add]
 refine ox ho ?_
 rw[World.var?_cell tm hv j]
 grind
noncomputable def xS(os:Os):World :=
  { World.holding Tryz.prog os ⟨#[],#[],[]⟩with heap:=(World.holding Tryz.prog os ⟨#[],#[],[]⟩).heap.modify 0 fun
      | .cells _ t frozen => .cells (Vq.map (Value.int .u32)).toArray t frozen
      | o=>o }
def Ct(os:Os)(args:Array Value):((xS os).forCall (fun _ _=>0) ⟨#[],args,[]⟩).memory.heap[0]?=some (.cells (Vq.map (Value.int .u32)).toArray 234 (0,0)):=by kernel_rfl
theorem Cu(os:Os)(args:Array Value):laidMet Tryz.prog [("starling/digest.constants", Rows.laid_starling_digest_constants)] ((xS os).forCall (fun _ _=>0) ⟨#[],args,[]⟩).memory:=by
 have xU:=Ct os args
 refine⟨_,⟨0,234,(Vq.map (Value.int .u32)).toArray,8,[],[],tm,LG,?_,?_,rfl,rfl⟩,?_,?_⟩
 ·unfold World.var?
  grind [tm]
 ·kernel_rfl
 ·rw[List.append_nil,List.append_nil]
  unfold MemPlace.row
  refine List.Pairwise.map (R:=fun a b=>a≠b) _ (fun i j L1 e=>L1 ?_) List.nodup_range
  grind
 ·intro b off h
  have hb:b=0:=by
   simp only[List.append_nil,MemPlace.row,List.mem_map]at h
   grind
  subst hb
  refine⟨⟨_,_,xU⟩,fun u v hc=>?_⟩
  simp only[World.cell?,xU]at hc
  grind
end Go.Proofs.YtlionahpheehaaaGreatDoor
namespace Go.Proofs.YtlionahpheehaaaGreatDoor.topPieces
open Go Go.SL
open Go.ChangeShapes Go.WideShapes Go.ChangeAt Go.RowKit
open Go.ChangeMaps (open_string shut_string)
def own:ownKnob Tryz.prog.godebug=none:=by kernel_rfl
def laidOut:laidOutB Tryz.prog=true:=by kernel_rfl
def lifted(os:Os)(started:os.Started)(H:Type)(enc:TypeId × Value→H) :
    ReturnsInHanded {} Tryz.checked os 3 .any (fun w args=>(Rows.topPiecesSpec.pre enc Tryz.prog Tryz.f3 Rows.topPiecesRow.domain false w args∧laidMet Tryz.prog [("starling/digest.constants", Rows.laid_starling_digest_constants)] w)∧sizedMet enc Tryz.prog Tryz.f3 (OpenSpec.ofChange Rows.topPiecesSpec) false w args) (Rows.topPiecesSpec.post enc Tryz.prog Tryz.f3 false true false false):=by
  refine returnsInHanded_of_change_and (C:=Tryz.checked) (X:=fun w _=>laidMet Tryz.prog [("starling/digest.constants", Rows.laid_starling_digest_constants)] w) (fun _ _ _ hh h=>h.of_heap hh) own started aw Tryz.func3
    (ChangeSpec.witness_at (enc:=enc) (C:=Tryz.checked) (os:=os) (X:=fun w _=>laidMet Tryz.prog [("starling/digest.constants", Rows.laid_starling_digest_constants)] w) false (xS os) #[.slice none 0 0,.int .i64 0,.slice none 0 0] 8 rfl aw aw aw aw aw (Cu os #[.slice none 0 0,.int .i64 0,.slice none 0 0])) ?_
  intro W base args ds gs before Vy hW agA kr hL _
  have T2:∀(j:Nat) t v,Tryz.f3.params[j]?=some t→args[j]?=some v→Value.okWide Tryz.prog W .any base t v:=Vy
  have hW':=hW
  obtain⟨p,q,hA0,hV,rfl,hfz,lq⟩:=hW
  have hA:DataW.TrodAll enc Tryz.prog W 0 (fun _=>true) true Tryz.f3.params.toList args.toList ds p:=hA0
  rw[Tryz.params3]at hA T2
  obtain⟨v0,vs0,d0,ds0,p0,q0,gb,rfl,rfl,h0,r0⟩:=trodAll_cons hA
  obtain⟨v1,vs1,d1,ds1,p1,q1,rfl,rfl,rfl,h1,r1⟩:=trodAll_cons r0
  obtain⟨v2,vs2,d2,ds2,p2,q2,rfl,rfl,rfl,h2,r2⟩:=trodAll_cons r1
  obtain⟨rfl,rfl,rfl⟩:=trodAll_nil r2
  obtain rfl:args = #[v0,v1,v2]:=by cases args;simp_all
  obtain⟨rfl,rfl⟩:=trodVars_none hV
  obtain⟨a0,Nv,aaU,rfl⟩:=okWide_slice Tryz.underlying22 (T2 0 22 v0 rfl rfl)
  have k0:=h0
  have lt0:∀x∈p0,x.block<W.heap.size:=by obtain⟨m,hm⟩:=k0;exact DataW.trod_lt m _ _ _ hm
  obtain⟨bs0,afz,afx,kX⟩:∃bs:List UInt8,bs.length=Nv∧Nv≤9223372036854775807∧Vw (old W) (.slice a0 Nv aaU) Nv (bV bs)∧Nv≤aaU:=by
    obtain⟨fuel,hf⟩:=h0
    rcases open_ints Tryz.underlying22 Tryz.underlying5 aw hf with⟨pR,_⟩|⟨x,l,c,zs,pR,_,hl,hm,hz,_,eB,hwz⟩
    · simp[Value.cells]at pR
      obtain⟨rfl,rfl,rfl⟩:=pR
      exact⟨[],rfl,aj,Qy W,Nat.le_refl _⟩
    · simp[Value.cells]at pR
      obtain⟨rfl,rfl,rfl⟩:=pR
      obtain⟨bs,h1,h2⟩:=KC (len:=Nv) (cap:=aaU) (by simp at hz;omega) eB hwz
      exact ⟨bs, h1, by have : maxLen = 9223372036854775807 := by decide
                        omega,h2,hl⟩
  subst afz
  obtain⟨a1,rfl,rfl,rfl,w1⟩:=open_int Tryz.underlying3 (T2 1 3 v1 rfl rfl) h1
  obtain⟨a2,aeo,oB,rfl⟩:=okWide_slice Tryz.underlying23 (T2 2 23 v2 rfl rfl)
  have k2:=h2
  have lt2:∀x∈p2,x.block<W.heap.size:=by obtain⟨m,hm⟩:=k2;exact DataW.trod_lt m _ _ _ hm
  obtain⟨RV,rl⟩:∃l:List (Int × Int),Sf (old W) (.slice a2 aeo oB) l:=by
    obtain⟨fuel,hf⟩:=h2
    exact GO (by simpa[Value.cells]using hf)
  clear hA0 Vy
  have xZ:RV.length*16≤140737488351232:=by
    obtain⟨fuel,hf⟩:=k2
    have hl:=rl.1.shape
    obtain⟨_,_,ez⟩:=hl
    simp only[Value.slice.injEq]at ez
    rcases Qp (Tryz.underlying23) (by simpa[Value.cells]using hf)with h0|⟨el,sp,hd,hle⟩
    · rw[← ez.2.1,h0];omega
    · have h1:(el.length+sp.length)*Tryz.prog.bytesOf 58≤reachBytes:=sized_slice kr (j:=2) (t:=23) rfl (by rw[hd];rfl) (Tryz.underlying23)
      have h2:Tryz.prog.bytesOf 58=16:=by kernel_rfl
      have h3:reachBytes=140737488351232:=by decide
      rw[h2,h3,hle,ez.2.1]at h1
      have:=Nat.mul_le_mul_right 16 (Nat.le_add_right RV.length sp.length)
      omega
  refine(PT (U2 (old W) (Iv hL) _ bs0 ⟨kX.1,_,_,rfl,kX.2⟩ afx a1 (Dq w1) _ RV rl.1 aj rl.2)).mono fun e W' ⟨he,bel⟩=>?_
  subst he
  exact⟨_,rfl,_,_,_,[],_,[],hW',trodAll_mk1 (shut_bool Tryz.underlying4 _),(trodAll_cons_mk (Below.trod laidOut aw (of_decide_eq_true aw) k0 bel lt0) (trodAll_cons_mk (shut_int Tryz.underlying3 w1) (trodAll_cons_mk (Below.trod laidOut aw (of_decide_eq_true aw) k2 bel lt2) trodAll_mk0))),rfl,bel.frame _,fun h=>by cases h⟩
def k10:(Rows.topPiecesRow.inPlace == (Tryz.pinned.checked.prog).inPlace 3)=true:=by kernel_rfl
def k11:(Rows.topPiecesRow.unfollowed == (Tryz.pinned.checked.prog).unfollowed 3)=true:=by kernel_rfl
def k12:(Rows.topPiecesRow.recurses == (Tryz.pinned.checked.prog).recurses 3)=true:=by kernel_rfl
def k13:(Rows.topPiecesRow.named == (Tryz.pinned.checked.prog).varsNamed 3)=true:=by kernel_rfl
def closed:joinedFacts Tryz.pinned.checked.prog 3 Tryz.f3 Rows.topPiecesSpec Rows.topPiecesRow=true:=by
 unfold joinedFacts
 rw[k10,k11,k12,k13]
 kernel_rfl
def proved:Rows.TopPiecesSaid :=
 OpenClaim.holds_of_wide 3 Tryz.f3 zr zr zr zr zr zr zr ⟨rfl,rfl,rfl,rfl,rfl⟩ zr zr zr zr zr aw Tryz.func3 closed
  (of_decide_eq_true aw) (by unfold Func.isWrapper;(rw[if_neg (by decide +kernel)];exact⟨rfl,rfl⟩))
  (fun os started H enc _=>lifted os started H enc)
#print axioms proved
end Go.Proofs.YtlionahpheehaaaGreatDoor.topPieces
