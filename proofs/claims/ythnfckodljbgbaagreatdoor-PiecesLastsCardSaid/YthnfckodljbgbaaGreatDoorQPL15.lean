import Derived.Test.YthnfckodljbgbaaGreatDoorQPL2
import Derived.Test.YthnfckodljbgbaaGreatDoorQPL3
import Derived.Test.YthnfckodljbgbaaGreatDoorQPL4
import Derived.Test.YthnfckodljbgbaaGreatDoorQPL5
import Derived.Test.YthnfckodljbgbaaGreatDoorQPL7
import Derived.Test.YthnfckodljbgbaaGreatDoorQPL9
import Derived.Test.YthnfckodljbgbaaGreatDoorQPL12
import Derived.Test.YthnfckodljbgbaaGreatDoorQPL13
import Derived.Test.YthnfckodljbgbaaGreatDoorQPL14
import Derived.OpenShut
import Derived.Deep.Slices
import Derived.DataElems
import Derived.Test.YthnfckodljbgbaaGreatDoorRows
import Derived.ChangeArms
import Derived.ProofKit
import Derived.Handed
import Derived.JoinedOf
import Derived.RowKit
import Derived.WalkKit
import Derived.ShutString
import Derived.ChangeOld
import Derived.Below
import Derived.SizedLaws
import Derived.ChangeSame
import Derived.ChangeVars
set_option linter.unnecessarySimpa false
set_option linter.unusedSimpArgs false
set_option linter.unusedVariables false
set_option maxHeartbeats 4000000
set_option maxRecDepth 100000
set_option linter.defProp false
namespace Go.Proofs.YthnfckodljbgbaaGreatDoor
open Go Go.SL
theorem FF(l:List Dg)(i:Nat)(hn:1<l.length):dz l.length l i=((dS l.length i).bind fun s=>l[s]?).toList++dz (bN l).length (bN l) (i/2):=by
 grind [FE,qv,bN,dp]
attribute [local irreducible] J K aD Ends ae aF aL bU bo aU bh bq cg Sha.chunks Sha.chunk Sha.rounds Sha.sched dW cy cS eY
theorem N8(A:HP)(v:Value)(l0:List Dg)(hv:Vw A v l0.length (l0.flatMap dC))(Q3:l0.length≤1000000)(i:Int) :
    aD Tryz.prog 24 [v,.int .i64 i] [A] (fun r H=>(¬(0≤i∧i<l0.length∧l0.length≤1024)∧r = .tuple #[.slice none 0 0,.int .i64 1]∧H=[A]) ∨
      ∃rv,(0≤i∧i<l0.length∧l0.length≤1024)∧r = .tuple #[rv,.int .i64 0]∧H=[aF 37 32 rv (dz l0.length l0 i.toNat).length ((dz l0.length l0 i.toNat).flatMap dC),A]):=by
  obtain⟨a,c,rfl⟩:=hv.shape
  refine aD.aw Tryz.func24 Tryz.ntmps24 fun G F R hE=>?_
  by_cases iJ:0≤i∧i<l0.length∧l0.length≤1024
  case neg =>
    repeat'(first|(with_reducible intro p6)|refine eZ ?_|refine hJ zr zr zr zr ?_ ?_|refine au zr zr ?_ ?_|fail)
    all_goals(first|(exfalso;omega)|skip)
    all_goals(
      refine go ?_
      ((refine ad hE Tryz.func24 zr zr (.inl ⟨iJ,rfl,rfl⟩))))
  obtain⟨k0,rfl⟩:∃k:Nat,i=k:=⟨i.toNat,ag⟩
  rw[Int.toNat_natCast]at hE
  refine go ?_
  refine az 10 ((.bool false)) rfl ((congrArg Value.bool (decide_eq_false ag))) (go ?_)
  refine az 16 ((.bool false)) rfl ((congrArg Value.bool (decide_eq_false ag))) (go ?_)
  refine bj 20 ((.bool false)) rfl ((congrArg Value.bool (decide_eq_false ag))) (go ?_)
  refine ai (bK 37 32 none _) ?_
  refine bB (fun y:List Dg × HP × Option Addr × Nat × Nat × List Dg × Option Addr × Nat=>y.1.length≤l0.length∧y.2.2.2.2.1<y.1.length∧Vw y.2.1 (.slice y.2.2.1 y.1.length y.2.2.2.1) y.1.length (y.1.flatMap dC)∧(∀h,y.2.1 h→∃h',sub h' h∧A h')∧dz l0.length l0 k0=y.2.2.2.2.2.1++dz y.1.length y.1 y.2.2.2.2.1∧y.2.2.2.2.2.1.length+y.1.length≤l0.length+1) (fun y=>y.1.length)
    (fun y=>[(1,.int .i64 (y.2.2.2.2.1:Int)),(6,.slice y.2.2.2.2.2.2.1 y.2.2.2.2.2.1.length y.2.2.2.2.2.2.2),(7,.slice y.2.2.1 y.1.length y.2.2.2.1)])
    (fun y=>aF 37 32 (.slice y.2.2.2.2.2.2.1 y.2.2.2.2.2.1.length y.2.2.2.2.2.2.2) y.2.2.2.2.2.1.length (y.2.2.2.2.2.1.flatMap dC)::y.2.1::F) (l0,A,a,c,k0,[],none,0) ⟨Nat.le_refl _,by simp only;omega,hv,fun h hA=>⟨h,sub.refl h,hA⟩,rfl,by simp⟩ rfl ck ah ?_
  rintro⟨row,X,xa,xc,k,out,oa,oc⟩⟨Ew,hk,hX,hXA,QR,ZA⟩ ih
  simp only at Ew hk hX hXA QR ZA
  dsimp only
  refine go ?_
  refine au zr zr ?_ ?_
  case' refine_2 =>
    intro acP
    rw[IL row.length row k ag,List.append_nil]at QR
    rw[QR]at hE
    clear ih
    refine go ?_
    refine ai (ak.cons _ (ak.head (B:=[A]) fun h hs=>by obtain⟨h',s1,A9⟩:=hXA h hs;exact⟨h',s1,gu A9⟩)) ?_
    refine ad hE Tryz.func24 zr zr (.inr ⟨_,iJ,rfl,rfl⟩)
  intro OY
  have DH:1<row.length:=by omega
  have uJ:=FF row k DH
  have xP:=dp row
  have Uc:=CL X _ _ hX ag
  obtain⟨bb,oo,cc,he⟩:=hX.some (by intro h;have:=congrArg List.length h;rw[cE dD]at this;simp at this;omega)
  simp only[Value.slice.injEq,true_and]at he
  obtain⟨rfl,rfl⟩:=he
  have Vg:∀s,dS row.length k=some s→dz row.length row k=[row.getD s Dg.zero]++dz (bN row).length (bN row) (k/2):=fun s hs=>by
    grind [Ky]
  have aeJ:dS row.length k=none→dz row.length row k=dz (bN row).length (bN row) (k/2):=fun hs=>by rw[uJ,hs];rfl
  have Ub:∀x:Dg,out.flatMap dC++dC x=(out++[x]).flatMap dC∧out.length+1=(out++[x]).length:=fun x=>⟨by simp,by simp⟩
  have tB:∀(s:Nat) (hs:s<row.length) (q:Nat) (v:Value),(dC (row.getD s Dg.zero))[q]?=some v→(row.flatMap dC)[s*32+q]?=some v:=fun s hs q v hq=>by
    have hx:row[s]?=some (row.getD s Dg.zero):=by rw[List.getD_eq_getElem?_getD,List.getElem?_eq_getElem hs];rfl
    rw[cU dD hx q (by rcases Nat.lt_or_ge q 32 with h|h;exact h;rw[List.getElem?_eq_none (by rw[dD];exact h)]at hq;cases hq)]
    exact hq
  clear uJ
  refine gE rfl ?_
  refine xW 2 (fun y:List Dg × Option Addr × Nat=>dz l0.length l0 k0=y.1++dz (bN row).length (bN row) (k/2)∧y.1.length≤out.length+1) (fun y=>[(1,.int .i64 (k:Int)),(6,.slice y.2.1 y.1.length y.2.2),(7,.slice (some ⟨bb,oo,none⟩) row.length xc)]) (fun y=>aF 37 32 (.slice y.2.1 y.1.length y.2.2) y.1.length (y.1.flatMap dC)::X::F) rfl ?_ ?_
  rotate_left
  · intro tail
    refine go ?_
    refine nT zr zr zr ag ag ?_
    by_cases rV:k%2=1
    · have hs:dS row.length k=some (k-1):=by unfold dS;rw[if_pos rV]
      have xN:k-1<row.length:=by omega
      have hp:=Vg _ hs
      have ha:=Ub (row.getD (k-1) Dg.zero)
      refine az 26 ((.int .i64 1)) rfl ((congrArg (Value.int .i64) ag)) (go ?_)
      refine bZ (k-1) 32 zr zr zr zr zr zr zr ag xN ?_
      refine aK ?_
      refine cI (U:=aR) (es:=dC (row.getD (k-1) Dg.zero)) 1 ((k-1)*32) zr zr zr hX rfl (tB _ xN) zr zr zr ?_
      refine ao (cs:=dC (row.getD (k-1) Dg.zero)) zr zr zr zr zr zr zr zr zr bE ?_
      intro r1
      refine go ?_
      refine aT (mm:=1) (news:=dC (row.getD (k-1) Dg.zero)) 1 0 zr zr zr zr zr zr zr zr zr zr zr zr (Vw.ae rfl) rfl (by rw[dL];exact db _) ag (by show(_+_)*32≤_;omega) (fun _=>rfl) bE ?_
      intro v1
      rw[ha.1,ha.2]
      refine aP 1 rfl ?_
      rintro ja jc rfl
      refine ln ?_
      refine jX tail (out++[row.getD (k-1) Dg.zero],ja,jc) rfl ⟨by rw[QR,hp,List.append_assoc],by simp⟩ ck ah
    · refine az 26 ((.int .i64 0)) rfl ((congrArg (Value.int .i64) ag)) (go ?_)
      by_cases xN:k+1<row.length
      · have hs:dS row.length k=some (k+1):=by unfold dS;rw[if_neg rV,if_pos xN]
        have hp:=Vg _ hs
        have ha:=Ub (row.getD (k+1) Dg.zero)
        refine bj 40 ((.bool true)) rfl ((congrArg Value.bool (decide_eq_true ag))) (go ?_)
        refine bZ (k+1) 32 zr zr zr zr zr zr zr ag xN ?_
        refine aK ?_
        refine cI (U:=aR) (es:=dC (row.getD (k+1) Dg.zero)) 1 ((k+1)*32) zr zr zr hX rfl (tB _ xN) zr zr zr ?_
        refine ao (cs:=dC (row.getD (k+1) Dg.zero)) zr zr zr zr zr zr zr zr zr bE ?_
        intro r1
        refine go ?_
        refine aT (mm:=1) (news:=dC (row.getD (k+1) Dg.zero)) 1 0 zr zr zr zr zr zr zr zr zr zr zr zr (Vw.ae rfl) rfl (by rw[dL];exact db _) ag (by show(_+_)*32≤_;omega) (fun _=>rfl) bE ?_
        intro v1
        rw[ha.1,ha.2]
        refine aP 1 rfl ?_
        rintro ja jc rfl
        refine ln ?_
        refine jX tail (out++[row.getD (k+1) Dg.zero],ja,jc) rfl ⟨by rw[QR,hp,List.append_assoc],by simp⟩ ck ah
      · have hs:dS row.length k=none:=by unfold dS;rw[if_neg rV,if_neg xN]
        have hp:=aeJ hs
        refine bj 40 ((.bool false)) rfl ((congrArg Value.bool (decide_eq_false ag))) ?_
        refine nR zr zr ?_
        refine jX tail (out,oa,oc) rfl ⟨by rw[QR,hp],by simp⟩ ck ah
  rintro⟨Te,oa2,oc2⟩⟨acv,aeD⟩
  simp only at acv aeD
  dsimp only
  refine go ?_
  refine aI Uc ?_
  rintro r _ rfl
  refine aP 0 rfl ?_
  rintro ra rc rfl
  refine aJ (H':=aF 37 32 (.slice ra (bN row).length rc) (bN row).length ((bN row).flatMap dC)::X::aF 37 32 (.slice oa2 Te.length oc2) Te.length (Te.flatMap dC)::F) ah ?_
  refine vu fun dO=>?_
  refine go ?_
  refine lP zr zr zr ag ag (by simp only[gy];omega) ?_
  refine az 52 ((.int .i64 ((k/2:Nat):Int))) rfl ((congrArg (Value.int .i64) ag)) (go ?_)
  refine ai (ak.perm (List.Perm.swap ..)) ?_
  refine aM ih (bN row,Sep [aF 37 32 (.slice ra (bN row).length rc) (bN row).length ((bN row).flatMap dC),X],ra,rc,k/2,Te,oa2,oc2) rfl ⟨by simp only;omega,by simp only;omega,dO.mono (aY (i:=0) rfl),(fun h hs=>by
      obtain⟨h1,s1,A9⟩:=aY (H:=[aF 37 32 (.slice ra (bN row).length rc) (bN row).length ((bN row).flatMap dC),X]) (i:=1) rfl h hs
      obtain⟨h2,s2,yp⟩:=hXA h1 A9
      exact⟨h2,s2.trans s1,yp⟩),acv,by simp only;omega⟩ (by simp only;omega) ck ah
end Go.Proofs.YthnfckodljbgbaaGreatDoor
namespace Go.Proofs.YthnfckodljbgbaaGreatDoor
open Go Go.SL
def tT(b:List UInt8)(k:Nat)(t:UInt8):List UInt8:=b.set k (b.getD k 0 ^^^ t)
def vK(b:List UInt8)(k:Nat)(t:UInt8):(tT b k t).length=b.length:=by simp[tT]
def se(d:Dg)(k:Nat)(t:UInt8):Dg:=⟨tT d.bs k t,by rw[vK];exact d.len⟩
def tZ(p:List Dg)(k:Nat)(t:UInt8):List Dg:=p.set (k%p.length) (se (p.getD (k%p.length) Dg.zero) (k%32) t)
def LZ(p:List Dg)(k:Nat)(t:UInt8):(tZ p k t).length=p.length:=by simp[tZ]
def qz(n:Int):Nat:=(BitVec.ofInt IntKind.i64.bits n &&& BitVec.ofInt IntKind.i64.bits 63).toNat
theorem FV(n:Int):qz n<64:=by
 unfold qz
 rw[BitVec.toNat_and]
 have e1:(BitVec.ofInt IntKind.i64.bits (63:Int)).toNat=63:=by decide
 rw[e1]
 have := @Nat.and_le_right (BitVec.ofInt IntKind.i64.bits n).toNat 63
 omega
theorem IZ(n:Int):IntKind.i64.wrap ((BitVec.ofInt IntKind.i64.bits n &&& BitVec.ofInt IntKind.i64.bits 63).toNat:Int)=(qz n:Int):=by
 grind [FV,qz,cV,gy]
def kE(a:List UInt8)(m i n:Int)(t:UInt8):Bl × List UInt8 × List Dg:=match gg a m,de a m with
 | some x,some l=>match dI x i with
  | none=>(x,[],[])
  | some (at_,sz) =>
   let b:=(a.drop at_.toNat).take sz.toNat
   let p:=dz l.length l i.toNat
   if qz n<b.length then(x,tT b (qz n) t,p)else(x,b,if p=[]then p else tZ p (qz n) t)
 | _,_=>(Bl.zero,[],[])
theorem EH(p q:UInt8):IntKind.u8.wrap ((BitVec.ofInt IntKind.u8.bits (p.toNat:Int) ^^^ BitVec.ofInt IntKind.u8.bits (q.toNat:Int)).toNat:Int)=((p ^^^ q).toNat:Int):=by
 have e:∀z:UInt8,(BitVec.ofInt IntKind.u8.bits (z.toNat:Int)).toNat=z.toNat:=fun z=>by
  rw[BitVec.ofInt_natCast,BitVec.toNat_ofNat]
  have:=z.toNat_lt
  exact Nat.mod_eq_of_lt (by show z.toNat<2 ^ 8;omega)
 rw[BitVec.toNat_xor,e,e,← UInt8.toNat_xor]
 have:=(p ^^^ q).toNat_lt
 grind [cV,gy]
def JU(b:List UInt8)(k:Nat)(t:UInt8):(bV b).set k (u8 t)=bV (b.set k t):=by simp[bV,List.map_set]
theorem Nv(p:List Dg)(q j:Nat)(t:UInt8)(hq:q<p.length)(hj:j<32)(x:Dg)(hx:p[q]?=some x):(p.flatMap dC).set (q*32+j) (u8 (x.bs.getD j 0 ^^^ t))=(p.set q (se x j t)).flatMap dC:=by
 have h1:dC (se x j t)=(dC x).set j (u8 (x.bs.getD j 0 ^^^ t)):=by
  rw[dL,dL,JU]
  rfl
 refine List.ext_getElem? fun z=>?_
 have Zd:∀l:List Dg,(l.flatMap dC).length=l.length*32:=fun l=>cE dD l
 rcases Nat.lt_or_ge z (p.length*32)with hz|hz
 case inr =>
  grind
 have hzq:z/32<p.length:=by omega
 obtain⟨y,hy⟩:∃y,p[z/32]?=some y:=⟨p[z/32],by simp[hzq]⟩
 have Zf:z=z/32*32+z%32:=by omega
 have hpz:(p.flatMap dC)[z]?=(dC y)[z%32]? := by
  conv=>lhs;rw[Zf]
  exact cU dD hy _ ag
 by_cases hq2:z/32=q
 ·have Bj:y=x:=by rw[hq2,hx]at hy;injection hy with hy;exact hy.symm
  have hs:(p.set q (se x j t))[z/32]?=some (se x j t):=by rw[hq2,List.getElem?_set_self hq]
  have hrz:((p.set q (se x j t)).flatMap dC)[z]?=(dC (se x j t))[z%32]? := by
   conv=>lhs;rw[Zf]
   exact cU dD hs _ ag
  grind
 ·have hs:(p.set q (se x j t))[z/32]?=some y:=by rw[List.getElem?_set_ne (fun e=>hq2 e.symm),hy]
  have hrz:((p.set q (se x j t)).flatMap dC)[z]?=(dC y)[z%32]? := by
   conv=>lhs;rw[Zf]
   exact cU dD hs _ ag
  grind
structure Bx where
 d:Int
 aa:Option Addr
 ac:Nat
 a:List UInt8
 m:Int
 i:Int
 n:Int
 cut:Int
 t:UInt8
 ba:Option Addr
 bc:Nat
 b:List UInt8
def kf(s:Bx):List Value:=[.int .i64 s.d,.slice s.aa s.a.length s.ac,.int .i64 s.m,.int .i64 s.i,.int .i64 s.n,.int .i64 s.cut,u8 s.t,.slice s.ba s.b.length s.bc]
def qp(s:Bx):(kf s).length=8:=rfl
def Bx.g(s:Bx):Bl × List UInt8 × List Dg:=kE s.a s.m s.i s.n s.t
theorem DV{a:List UInt8}{m:Int}{x:Bl}{l:List Dg}(hx:gg a m=some x)(hl:de a m=some l):cC x=l.length∧x.size=a.length∧x.piece=m∧bI x=true:=by
 grind [nO,bI,de,nC,cC]
theorem F0{a:List UInt8}{m:Int}:(gg a m=none∧de a m=none)∨∃x l,gg a m=some x∧de a m=some l:=by
 grind [gg,de]
section
variable{P:Program}{U:Tr}[hU:gq P U]{f:FuncId}{n:Nat}{R:Ending→World→Prop}{G:cQ}{k:List Item}{L:fY}{H H':List HP}{S:World→Prop}{all:Array Oper}{rest:Pl}{ty:TypeId}{pos:String}{af:Array Edge}{gd:Option (Nat × Bool)}{m:Bool}{d:Tmp}
end
attribute [local irreducible] J K aD Ends ae aF aL bU bo aU bh bq cg Sha.chunks Sha.chunk Sha.rounds Sha.sched dW cy cS eY gg de dz
theorem Nt(X:HP)(s:Bx)(ha:eO X (.slice s.aa s.a.length s.ac) s.a)(SC:s.a.length≤1000000) :
  aD Tryz.prog 8 [.agg (kf s).toArray] [X] (fun r H=>∃bv pv,r = .tuple #[dG s.g.1,bv,pv]∧H=[aF 5 1 bv s.g.2.1.length (bV s.g.2.1),aF 37 32 pv s.g.2.2.length (s.g.2.2.flatMap dC),X]):=by
 have hac:s.a.length≤s.ac:=by
  obtain⟨a',c',he,hc⟩:=ha.2
  grind
 have adg:=HS X _ s.a ha ag s.m
 have Vr:=AO X _ s.a ha ag s.m
 refine aD.aw Tryz.func8 Tryz.ntmps8 fun G F R hE=>?_
 refine aB rfl ?_
 refine bG zr zr bE ?_
 intro b1
 refine aC zr zr zr bE ?_
 intro b2
 refine aJ (H':=ae b1 (cl (kf s) 45)::ae b2 (cl (bH Bl.zero) 39)::X::F) (ah) (go ?_)
 refine aN adg ?_
 rcases F0 (a:=s.a) (m:=s.m)with⟨wF,Q3⟩|⟨x,l,zZ,hlx⟩
 ·rw[wF]
  simp only
  have hg:s.g=(Bl.zero,[],[]):=by unfold Bx.g kE;rw[wF]
  rw[hg]at hE
  have iC:dI Bl.zero s.i=none:=by
   cases h:dI Bl.zero s.i with
   | none=>rfl
   | some w=>exact absurd (jO (a:=w.1) (n:=w.2) (by rw[h])).2.2.2.2.2.2.2 (by decide)
  have qE:=AI Bl.zero s.i
  rw[iC]at qE
  unfold dG at qE ⊢
  refine go ?_
  refine aC zr zr zr bE ?_
  intro b5
  refine go ?_
  refine aJ (H':=ae b5 (cl (bH Bl.zero) 39)::ae b1 (cl (kf s) 45)::ae b2 (cl (bH Bl.zero) 39)::X::F) (ah) (go ?_)
  refine aI Vr ?_
  rintro _ _ (⟨_,rfl,rfl⟩|⟨ls,rv,h1,rfl,rfl⟩)
  case' inr=>(rw[Q3]at h1;cases h1)
  refine aJ (H':=ae b5 (cl (bH Bl.zero) 39)::ae b1 (cl (kf s) 45)::ae b2 (cl (bH Bl.zero) 39)::X::F) (ah) (go ?_)
  refine aH (U:=aR) (l:=bH Bl.zero) 0 zr zr zr zr zr zr (go ?_)
  refine aN qE ?_
  simp only
  refine go ?_
  refine aH (U:=aR) (l:=bH Bl.zero) 0 zr zr zr zr zr zr (go ?_)
  refine ai (H':=ae b2 (cl (bH Bl.zero) 39)::X::F) (ah) ?_
  refine ai (ak.trans (bK 5 1 none _) (ak.cons _ (bK 37 32 none _))) ?_
  (refine aZ hE ?_;apply aW (U:=aR) hE Tryz.func8 rfl (ak.refl _);(repeat(first|exact aQ.nil|apply aQ.tmp rfl|apply aQ.agg 2 zr zr zr zr zr));exact⟨_,_,rfl,rfl⟩;exact ah)
 rw[zZ]
 simp only
 obtain⟨Jn,iY,ys,TH⟩:=DV zZ hlx
 have qE:=AI x s.i
 have ZL:=lI hlx
 have Co:s.g=(match dI x s.i with
  | none=>(x,[],[])
  | some (at_,sz) =>
   if qz s.n<((s.a.drop at_.toNat).take sz.toNat).length then(x,tT ((s.a.drop at_.toNat).take sz.toNat) (qz s.n) s.t,dz l.length l s.i.toNat)else(x,(s.a.drop at_.toNat).take sz.toNat,if dz l.length l s.i.toNat=[]then dz l.length l s.i.toNat else tZ (dz l.length l s.i.toNat) (qz s.n) s.t)):=by
  unfold Bx.g kE;rw[zZ,hlx] <;> rfl
 unfold dG at qE ⊢
 refine go ?_
 refine aC zr zr zr bE ?_
 intro b5
 refine go ?_
 refine aJ (H':=ae b5 (cl (bH x) 39)::ae b1 (cl (kf s) 45)::ae b2 (cl (bH Bl.zero) 39)::X::F) (ah) (go ?_)
 refine aI Vr ?_
 rintro _ _ (⟨h1,rfl,rfl⟩|⟨ls,rv,h1,rfl,rfl⟩)
 case' inl=>(rw[hlx]at h1;cases h1)
 rw[hlx]at h1
 injection h1 with h1
 subst h1
 refine aP 0 rfl ?_
 rintro la lc rfl
 refine aJ (H':=ae b5 (cl (bH x) 39)::ae b1 (cl (kf s) 45)::aF 37 32 (.slice la l.length lc) l.length (l.flatMap dC)::ae b2 (cl (bH Bl.zero) 39)::X::F) (ah) (go ?_)
 refine aH (U:=aR) (l:=bH x) 0 zr zr zr zr zr zr (go ?_)
 refine aN qE ?_
 cases iC:dI x s.i with
 | none =>
  rw[iC]at Co
  simp only at Co ⊢
  rw[Co]at hE
  refine go ?_
  refine aH (U:=aR) (l:=bH x) 0 zr zr zr zr zr zr (go ?_)
  refine ai (H':=ae b2 (cl (bH x) 39)::X::F) (ah) ?_
  refine ai (ak.trans (bK 5 1 none _) (ak.cons _ (bK 37 32 none _))) ?_
  (refine aZ hE ?_;apply aW (U:=aR) hE Tryz.func8 rfl (ak.refl _);(repeat(first|exact aQ.nil|apply aQ.tmp rfl|apply aQ.agg 2 zr zr zr zr zr));exact⟨_,_,rfl,rfl⟩;exact ah)
 | some w =>
 obtain⟨at_,sz⟩:=w
 rw[iC]at Co
 obtain⟨g0,g1,g2,g3,g4,g5,g6,g7⟩:=jO iC
 simp only at Co ⊢
 obtain⟨an,rfl⟩:∃k:Nat,at_=k:=⟨at_.toNat,ag⟩
 obtain⟨zn,rfl⟩:∃k:Nat,sz=k:=⟨sz.toNat,ag⟩
 simp only[Int.toNat_natCast]at Co
 have Ld:=ha.piece an (an+zn) ag ag
 rw[show an+zn-an=zn from by omega]at Ld
 obtain⟨b,hb⟩:∃b,b=(s.a.drop an).take zn:=⟨_,rfl⟩
 have kQ:b.length=zn:=by rw[hb,List.length_take,List.length_drop];omega
 rw[← hb]at Ld Co
 rw[← kQ]at Ld
 refine aJ (H':=ae b1 (cl (kf s) 45)::aF 37 32 (.slice la l.length lc) l.length (l.flatMap dC)::X::ae b5 (cl (bH x) 39)::ae b2 (cl (bH Bl.zero) 39)::F) (ah) (go ?_)
 refine ao (cs:=[]) zr zr zr zr zr zr zr zr zr bE ?_
 intro r0
 refine go ?_
 refine bt (p:=(an:Int)) (q:=(an:Int)+(zn:Int)) zr zr zr zr zr zr zr ag ag (.inr ag) ?_
 ((refine az 50 ((.slice (sliceAt s.aa s.ac an 1) b.length (s.ac-an))) rfl ((by rw[kQ,show((an:Int)+(zn:Int)).toNat=an+zn from by omega,Int.toNat_natCast,show an+zn-an=zn from by omega];rfl)) ?_))
 refine aJ (eS 5 1 r0 0 0 [] [] _ rfl (Nat.le_refl _) (by simp)) ?_
 refine aT (mm:=b.length) (news:=bV b) 0 3 zr zr zr zr zr zr zr zr zr zr zr zr Ld.1 (by show _=_*1;rw[bM];omega) (db _) ag (by show(_+_)*1≤_;omega) (fun _=>rfl) bE ?_
 intro v1
 rw[show(0:Nat)+b.length=b.length from Nat.zero_add _,List.nil_append]
 refine aP 0 rfl ?_
 rintro da dc rfl
 refine aJ (H':=aF 37 32 (.slice la l.length lc) l.length (l.flatMap dC)::ae b1 (cl (kf s) 45)::X::aF 5 1 (.slice da b.length dc) b.length (bV b)::ae b5 (cl (bH x) 39)::ae b2 (cl (bH Bl.zero) 39)::F) (ah) ?_
 refine ln ?_
 refine gE rfl ?_
 refine dg 0 rfl ?_
 intro hvl
 have aey:=N8 _ _ l hvl ag s.i
 refine go ?_
 refine aI aey ?_
 rintro _ _ (⟨jj,rfl,rfl⟩|⟨rv,_,rfl,rfl⟩)
 case' inl=>exact absurd ⟨g3,ag,ag⟩ jj
 obtain⟨p,hp⟩:∃p,p=dz l.length l s.i.toNat:=⟨_,rfl⟩
 have qg:p.length≤10:=by
  rw[hp,zp l.length l s.i.toNat ag]
  exact wL 10 _ _ _ ag
 rw[← hp]at Co ⊢
 refine aP 0 rfl ?_
 rintro pa0 pc0 rfl
 refine jt 0 rfl ?_
 intro aee
 refine go ?_
 refine ao (cs:=[]) zr zr zr zr zr zr zr zr zr bE ?_
 intro r1
 refine go ?_
 refine aJ (eS 37 32 r1 0 0 [] [] _ rfl (Nat.le_refl _) (by simp)) ?_
 refine aT (mm:=p.length) (news:=p.flatMap dC) 0 1 zr zr zr zr zr zr zr zr zr zr zr zr aee (by rw[cE dD];rfl) (Rr p) ag (by show(_+_)*32≤_;omega) (fun _=>rfl) bE ?_
 intro v2
 rw[show(0:Nat)+p.length=p.length from Nat.zero_add _,List.nil_append]
 refine aP 0 rfl ?_
 rintro pa pc rfl
 refine aJ (H':=ae b1 (cl (kf s) 45)::aF 5 1 (.slice da b.length dc) b.length (bV b)::aF 37 32 (.slice pa p.length pc) p.length (p.flatMap dC)::X::ae b5 (cl (bH x) 39)::ae b2 (cl (bH Bl.zero) 39)::F) (ah) ?_
 obtain⟨k,hk⟩:∃k,k=qz s.n:=⟨_,rfl⟩
 have af2:k<64:=by rw[hk];exact FV s.n
 rw[← hk]at Co
 have ZI:=IZ s.n
 rw[← hk]at ZI
 refine go ?_
 by_cases hkb:k<b.length
 ·((refine bj 68 ((.bool true)) rfl ((congrArg Value.bool (decide_eq_true (by rw[ZI];omega)))) ?_))
  refine bj 15 ((.int .i64 (k:Int))) rfl ((congrArg (Value.int .i64) ZI)) ?_
  rw[if_pos hkb]at Co
  rw[Co]at hE
  have VH:b[k]?=some (b.getD k 0):=by rw[List.getD_eq_getElem?_getD,List.getElem?_eq_getElem hkb];rfl
  have Re:(bV b)[k]?=some (u8 (b.getD k 0)):=pP VH
  have jA:(bV b).set k (u8 (b.getD k 0 ^^^ s.t))=bV (tT b k s.t):=JU b k _
  refine ai (ak.pick [1] rfl) ?_
  refine dg 0 rfl ?_
  intro KZ
  obtain⟨ob,oo,oc,he⟩:=KZ.some (by rw[← List.length_pos_iff,bM];omega)
  simp only[Value.slice.injEq,true_and]at he
  obtain⟨rfl,rfl⟩:=he
  refine go ?_
  refine aG (fun w=>Sat G w ([aF 5 1 (.slice (some ⟨ob,oo,none⟩) b.length dc) b.length (bV b),ae b1 (cl (kf s) 45)])) (dj 0 8 (.act 8 .nil)) rfl aq aq aq eo ?_
  (repeat(first|refine eZ ?_|refine bR k zr zr zr zr zr zr zr zr hkb ?_|(refine aK ?_;refine bW 0 k zr zr zr KZ rfl Re zr zr ?_)))
  refine az 75 ((u8 (b.getD k 0 ^^^ s.t))) rfl ((congrArg (Value.int .u8) (EH _ _))) ?_
  (repeat(fail))
  refine aV ?_
  refine pW (U:=aR) (q:=k) 0 gf zr zr zr zr zr zr zr hkb rfl ?_
  rw[jA]
  refine aJ (H':=ae b5 (cl (bH x) 39)::ae b2 (cl (bH Bl.zero) 39)::aF 5 1 (.slice (some ⟨ob,oo,none⟩) b.length dc) b.length (bV (tT b k s.t))::aF 37 32 (.slice pa p.length pc) p.length (p.flatMap dC)::X::F) (ah) (go ?_)
  refine aH (U:=aR) (l:=bH x) 0 zr zr zr zr zr zr (go ?_)
  ((refine ai (H':=aF 5 1 (.slice (some ⟨ob,oo,none⟩) b.length dc) (tT b k s.t).length (bV (tT b k s.t))::aF 37 32 (.slice pa p.length pc) p.length (p.flatMap dC)::X::ae b2 (cl (bH x) 39)::F) ((by rw[vK];exact ah)) ?_))
  (refine aZ hE ?_;apply aW (U:=aR) hE Tryz.func8 rfl (ak.refl _);(repeat(first|exact aQ.nil|apply aQ.tmp rfl|apply aQ.agg 3 zr zr zr zr zr));exact⟨_,_,rfl,rfl⟩;exact ah)
 ((refine bj 68 ((.bool false)) rfl ((congrArg Value.bool (decide_eq_false (by rw[ZI];omega)))) ?_))
 refine bj 15 ((.int .i64 (k:Int))) rfl ((congrArg (Value.int .i64) ZI)) ?_
 rw[if_neg hkb]at Co
 refine go ?_
 by_cases Ez:p=[]
 ·rw[if_pos Ez]at Co
  rw[Co]at hE
  have afS:p.length=0:=by rw[Ez];rfl
  refine bj 79 ((.bool false)) rfl ((congrArg Value.bool (decide_eq_false ag))) ?_
  refine ai (H':=ae b5 (cl (bH x) 39)::ae b2 (cl (bH Bl.zero) 39)::aF 5 1 (.slice da b.length dc) b.length (bV b)::aF 37 32 (.slice pa p.length pc) p.length (p.flatMap dC)::X::F) (ah) (go ?_)
  refine aH (U:=aR) (l:=bH x) 0 zr zr zr zr zr zr (go ?_)
  refine ai (H':=aF 5 1 (.slice da b.length dc) b.length (bV b)::aF 37 32 (.slice pa p.length pc) p.length (p.flatMap dC)::X::ae b2 (cl (bH x) 39)::F) (ah) ?_
  (refine aZ hE ?_;apply aW (U:=aR) hE Tryz.func8 rfl (ak.refl _);(repeat(first|exact aQ.nil|apply aQ.tmp rfl|apply aQ.agg 3 zr zr zr zr zr));exact⟨_,_,rfl,rfl⟩;exact ah)
 rw[if_neg Ez]at Co
 rw[Co]at hE
 have lY:=List.length_pos_iff.2 Ez
 obtain⟨j,hj⟩:∃j,j=k%p.length:=⟨_,rfl⟩
 have uL:j<p.length:=by rw[hj];exact Nat.mod_lt _ lY
 have hxj:p[j]?=some (p.getD j Dg.zero):=by rw[List.getD_eq_getElem?_getD,List.getElem?_eq_getElem uL];rfl
 obtain⟨d,hd⟩:∃d,d=p.getD j Dg.zero:=⟨_,rfl⟩
 rw[← hd]at hxj
 have h31:=pQ k 5 ag ag
 have TT:k%32<32:=Nat.mod_lt _ ag
 have dK:(p.flatMap dC)[j*32+k%32]?=some (u8 (d.bs.getD (k%32) 0)):=by
  rw[cU dD hxj _ TT,dL]
  refine pP ?_
  rw[List.getD_eq_getElem?_getD,List.getElem?_eq_getElem (by rw[d.len];exact TT)]
  rfl
 have jA:=Nv p j (k%32) s.t uL TT d hxj
 have htp:tZ p k s.t=p.set j (se d (k%32) s.t):=by unfold tZ;rw[← hj,← hd]
 refine bj 79 ((.bool true)) rfl ((congrArg Value.bool (decide_eq_true ag))) ?_
 refine ai (ak.pick [2] rfl) ?_
 refine dg 0 rfl ?_
 intro hvp
 obtain⟨ob,oo,oc,he⟩:=hvp.some (by rw[← List.length_pos_iff,cE dD];omega)
 simp only[Value.slice.injEq,true_and]at he
 obtain⟨rfl,rfl⟩:=he
 refine go ?_
 refine aG (fun w=>Sat G w ([aF 37 32 (.slice (some ⟨ob,oo,none⟩) p.length pc) p.length (p.flatMap dC),ae b1 (cl (kf s) 45)])) (dj 0 15 (.act 15 .nil)) rfl aq aq aq eo ?_
 refine go ?_
 refine mj ?_
 refine nT zr zr zr ag ag ?_
 ((refine az 84 ((.int .i64 (j:Int))) rfl ((congrArg (Value.int .i64) (by rw[hj];omega))) ?_))
 refine go ?_
 refine az 86 ((.int .i64 ((k%32:Nat):Int))) rfl ((congrArg (Value.int .i64) h31)) ?_
 (repeat(first|refine eZ ?_|refine bZ j 32 zr zr zr zr zr zr zr zr uL ?_|refine eE (U:=aR) (k%32) zr zr zr zr zr zr zr zr TT ?_|(refine aK ?_;refine bW 0 (j*32+k%32) zr zr zr hvp (Nat.add_assoc _ _ _) dK zr zr ?_)))
 refine az 92 ((u8 (d.bs.getD (k%32) 0 ^^^ s.t))) rfl ((congrArg (Value.int .u8) (EH _ _))) ?_
 (repeat(fail))
 refine aV ?_
 refine Hu (U:=aR) (q:=j*32+k%32) 0 gf rfl (Nat.add_assoc _ _ _) zr zr zr zr zr zr lY ag rfl ?_
 rw[jA,← htp]
 refine aJ (H':=ae b5 (cl (bH x) 39)::ae b2 (cl (bH Bl.zero) 39)::aF 37 32 (.slice (some ⟨ob,oo,none⟩) p.length pc) p.length ((tZ p k s.t).flatMap dC)::aF 5 1 (.slice da b.length dc) b.length (bV b)::X::F) (ah) (go ?_)
 refine aH (U:=aR) (l:=bH x) 0 zr zr zr zr zr zr (go ?_)
 ((refine ai (H':=aF 5 1 (.slice da b.length dc) b.length (bV b)::aF 37 32 (.slice (some ⟨ob,oo,none⟩) p.length pc) (tZ p k s.t).length ((tZ p k s.t).flatMap dC)::X::ae b2 (cl (bH x) 39)::F) ((by rw[LZ];exact ah)) ?_))
 (refine aZ hE ?_;apply aW (U:=aR) hE Tryz.func8 rfl (ak.refl _);(repeat(first|exact aQ.nil|apply aQ.tmp rfl|apply aQ.agg 3 zr zr zr zr zr));exact⟨_,_,rfl,rfl⟩;exact ah)
end Go.Proofs.YthnfckodljbgbaaGreatDoor
namespace Go.SL
open Go Go.RowKit Go.ChangeShapes Go.WideShapes
abbrev i64(x:Int):Prop := -9223372036854775808≤x∧x≤9223372036854775807
section
variable{P:Program}{H:Type}{enc:TypeId × Value→H}{W:World}{base:Nat}{spare:Nat→Bool}{held:Bool}
theorem Mx{α:Type}[Inhabited α]{t e:TypeId}(ht:P.underlying t=some (.slice e))(g:α→List Value)(s:Nat)(hs0:0<s)(hs:∀x,(g x).length=s)(hc:P.cellsOf e=s)(Q:α→Prop)(mR:∀(fuel:Nat) (cs:List Value) (x:DataW H × List MemPlace),DataW.trod enc P W base spare held fuel e cs=some x→∃y,cs=g y∧Q y){fuel:Nat}{cs:List Value}{x:DataW H × List MemPlace}(h:DataW.trod enc P W base spare held fuel t cs=some x):∃(l:List α) (a:Option Addr) (c:Nat),cs=[.slice a l.length c]∧Vw (old W) (.slice a l.length c) l.length (l.flatMap g)∧(∀x∈l,Q x)∧l.length≤9223372036854775807:=by
 have hmx:maxLen=9223372036854775807:=by decide
 rcases Go.Deep.open_slice ht h with⟨kP,_⟩|⟨a,len,cap,m,n,D,Pl,kP,hb,hl,hm,hmm,_,hx⟩
 ·subst kP
  exact⟨[],none,0,rfl,⟨none,0,rfl,.inl rfl⟩,by simp,by simp⟩
 ·subst kP
  have DF:len≤m:=by rw[hmm];split <;> omega
  have yp:∀i,i<len→∃y:α,(∀k,k<s→W.cell? (a.add (i*s+k))=(g y)[k]?)∧Q y:=fun i hi=>by
   obtain⟨lA,h1,h2⟩:=hx i ag
   obtain⟨y,rfl,hy⟩:=mR _ _ _ h2
   rw[hc]at h1
   obtain⟨_,_,h3⟩:=World.cells?_some h1
   refine⟨y,fun k hk=>?_,hy⟩
   rw[← h3 k hk,Addr.add_add]
  obtain⟨f,hfy⟩:=Go.Deep.choose_lt yp
  refine⟨(List.range len).map f,some a,cap,by simp,⟨some a,cap,by simp,?_⟩,?_,by simp;omega⟩
  ·rcases Nat.eq_zero_or_pos len with h0|h0
   ·grind
   ·right
    obtain⟨b,o,spot⟩:=a
    have iC:spot=none:=by
     have:=(hfy 0 h0).1 0 hs0
     rw[Nat.zero_mul,Nat.zero_add,List.getElem?_eq_getElem (by rw[hs];exact hs0)]at this
     simpa[Addr.add]using World.cell?_spot (this.trans rfl)
    subst iC
    refine⟨b,o,rfl,fun h ho j c hj=>?_⟩
    have uL:j<len*s:=by
     rcases Nat.lt_or_ge j (len*s)with h|h
     ·exact h
     ·rw[List.getElem?_eq_none (by rw[cE hs];simpa using h)]at hj;cases hj
    have hd:j/s<len:=Nat.div_lt_of_lt_mul (by rw[Nat.mul_comm];exact uL)
    have hk:j%s<s:=Nat.mod_lt _ hs0
    have hjj:j/s*s+j%s=j:=by rw[Nat.mul_comm];exact Nat.div_add_mod _ _
    have h1:=cU hs (l:=(List.range len).map f) (i:=j/s) (x:=f (j/s)) (by simp[hd]) (j%s) hk
    rw[hjj,hj]at h1
    have h2:=(hfy _ hd).1 _ hk
    rw[hjj,Addr.add_eq]at h2
    grind [n5]
  grind
inductive nQ(enc:TypeId × Value→H)(P:Program)(W:World)(base:Nat)(spare:Nat→Bool)(held:Bool)(n:Nat):List TypeId→List Value→Prop where
 | nil:nQ enc P W base spare held n [] []
 | cons {t:TypeId} {ts:List TypeId} {cs rest:List Value} {x:DataW H × List MemPlace} (h:DataW.trod enc P W base spare held n t cs=some x) (hr:nQ enc P W base spare held n ts rest):nQ enc P W base spare held n (t::ts) (cs++rest)
def MB(P:Program):Nat→List TypeId→List Nat
 | _,[]=>[]
 | o,t::ts=>o::MB P (o+P.cellsOf t) ts
theorem FL{t:TypeId}{fs:Array Field}(ht:P.underlying t=some (.struct fs))(ho:fs.toList.map Field.offset=MB P 0 (fs.toList.map Field.type))(hn:P.cellsOf t=(fs.toList.map fun f:Field=>P.cellsOf f.type).sum){fuel:Nat}{cs:List Value}{x:DataW H × List MemPlace}(h:DataW.trod enc P W base spare held fuel t cs=some x):∃n,nQ enc P W base spare held n (fs.toList.map Field.type) cs:=by
 obtain⟨xs,n,_,_,hlen,Ev,hf⟩:=DataW.trod_struct ht h
 refine⟨n,?_⟩
 have key:∀(l:List Field) (o k:Nat) (cs:List Value),cs.length=(l.map fun f:Field=>P.cellsOf f.type).sum→l.map Field.offset=MB P o (l.map Field.type) →
   (∀(j:Nat) (f:Field),l[j]?=some f→∃y,DataW.trod enc P W base spare held n f.type ((cs.drop (f.offset-o)).take (P.cellsOf f.type))=some y)→nQ enc P W base spare held n (l.map Field.type) cs:=by
  intro l
  induction l with
  | nil=>intro o k cs hl _ _;simp at hl;subst hl;exact .nil
  | cons f l ih =>
   intro o k cs hl iw iy
   simp only[List.map_cons,List.sum_cons]at hl
   simp only[List.map_cons,MB,List.cons.injEq]at iw
   obtain⟨h1,h2⟩:=iw
   obtain⟨y,hy⟩:=iy 0 f rfl
   rw[h1,Nat.sub_self,List.drop_zero]at hy
   have dU:=ih (o+P.cellsOf f.type) 0 (cs.drop (P.cellsOf f.type)) (by rw[List.length_drop];omega) h2 (fun j f' hj=>by
    obtain⟨y',hy'⟩:=iy (j+1) f' (by simpa using hj)
    have fO:o+P.cellsOf f.type≤f'.offset:=by
     have gp:f'.offset∈MB P (o+P.cellsOf f.type) (l.map Field.type):=by rw[← h2];exact List.mem_map.2 ⟨f',List.mem_of_getElem? hj,rfl⟩
     have afB:∀(ts:List TypeId) (p q:Nat),q∈MB P p ts→p≤q:=by
      intro ts
      induction ts with
      | nil=>intro p q hq;cases hq
      | cons t ts ih=>intro p q hq;rcases List.mem_cons.1 hq with rfl|hq;exact Nat.le_refl _;have:=ih _ _ hq;omega
     grind
    refine⟨y',?_⟩
    rw[List.drop_drop,show P.cellsOf f.type+(f'.offset-(o+P.cellsOf f.type))=f'.offset-o from by omega]
    exact hy')
   have:=nQ.cons hy dU
   simp_all
 refine key fs.toList 0 0 cs (by rw[hlen,hn]) ho fun j f hj=>?_
 grind
def nQ.inv{n:Nat}{t:TypeId}{ts:List TypeId}{cs:List Value}(h:nQ enc P W base spare held n (t::ts) cs):∃c0 rest x,cs=c0++rest∧DataW.trod enc P W base spare held n t c0=some x∧nQ enc P W base spare held n ts rest:=by
 cases h with
 | cons h hr=>exact⟨_,_,_,rfl,h,hr⟩
def nQ.ad5{n:Nat}{cs:List Value}(h:nQ enc P W base spare held n [] cs):cs=[]:=by cases h;rfl
theorem nQ.int{n:Nat}{t:TypeId}{ts:List TypeId}{cs:List Value}{k:IntKind}(h:nQ enc P W base spare held n (t::ts) cs)(ht:P.underlying t=some (.int k)):∃(z:Int) (rest:List Value),cs = .int k z::rest∧(Lit.int k z).wf=true∧nQ enc P W base spare held n ts rest:=by
 obtain⟨c0,rest,x,rfl,h0,hr⟩:=h.inv
 obtain⟨z,rfl,_,hw⟩:=DataW.trod_int ht h0
 grind
end
end Go.SL
namespace Go.Proofs.YthnfckodljbgbaaGreatDoor
open Go Go.SL Go.RowKit Go.ChangeShapes Go.WideShapes
section
variable{H:Type}{enc:TypeId × Value→H}{W:World}{base:Nat}{spare:Nat→Bool}{held:Bool}
instance:Inhabited Bl:=⟨Bl.zero⟩
def xE(fuel:Nat)(cs:List Value)(x:DataW H × List MemPlace)(h:DataW.trod enc Tryz.prog W base spare held fuel 40 cs=some x):∃(bs:List UInt8) (a:Option Addr) (c:Nat),cs=[.slice a bs.length c]∧bs.length≤9223372036854775807∧eO (old W) (.slice a bs.length c) bs:=by
 have hmx:maxLen=9223372036854775807:=by decide
 rcases open_ints Tryz.underlying40 Tryz.underlying5 aq h with⟨kP,_⟩|⟨x,l,c,zs,kP,_,hl,hm,hz,_,dK,hwz⟩
 ·subst kP
  exact⟨[],none,0,rfl,by simp,Qg W,none,0,rfl,Nat.le_refl _⟩
 ·subst kP
  obtain⟨bs,h1,h2⟩:=JP (len:=l) (cap:=c) (by split at hz <;> omega) dK hwz
  subst h1
  exact⟨bs,some x,c,rfl,ag,h2,_,c,rfl,hl⟩
end
end Go.Proofs.YthnfckodljbgbaaGreatDoor
namespace Go.Proofs.YthnfckodljbgbaaGreatDoor
open Go Go.SL Go.RowKit Go.ChangeShapes Go.WideShapes
instance:Inhabited Bx:=⟨⟨0,none,0,[],0,0,0,0,0,none,0,[]⟩⟩
structure LC(X:HP)(s:Bx):Prop where
 d:SL.i64 s.d
 m:SL.i64 s.m
 i:SL.i64 s.i
 n:SL.i64 s.n
 cut:SL.i64 s.cut
 a:eO X (.slice s.aa s.a.length s.ac) s.a
 al:s.a.length≤9223372036854775807
 b:eO X (.slice s.ba s.b.length s.bc) s.b
 bl:s.b.length≤9223372036854775807
def J0(X:HP)(v:Value)(l:List Bx):Prop:=Vw X v l.length (l.flatMap kf)∧l.length≤9223372036854775807∧∀s∈l,LC X s
section
variable{H:Type}{enc:TypeId × Value→H}{W:World}{base:Nat}{spare:Nat→Bool}{held:Bool}
def IS(fuel:Nat)(cs:List Value)(x:DataW H × List MemPlace)(h:DataW.trod enc Tryz.prog W base spare held fuel 45 cs=some x):∃y:Bx,cs=kf y∧LC (old W) y:=by
 obtain⟨n,hp⟩:=FL (Tryz.underlying45:_=some (TypeDesc.struct _)) aq aq h
 obtain⟨z0,r0,rfl,w0,hp⟩:=hp.int Tryz.underlying3
 obtain⟨c1,r1,x1,rfl,h1,hp⟩:=hp.inv
 obtain⟨z2,r2,rfl,w2,hp⟩:=hp.int Tryz.underlying3
 obtain⟨z3,r3,rfl,w3,hp⟩:=hp.int Tryz.underlying3
 obtain⟨z4,r4,rfl,w4,hp⟩:=hp.int Tryz.underlying3
 obtain⟨z5,r5,rfl,w5,hp⟩:=hp.int Tryz.underlying3
 obtain⟨z6,r6,rfl,w6,hp⟩:=hp.int Tryz.underlying5
 obtain⟨c7,r7,x7,rfl,h7,hp⟩:=hp.inv
 have:=hp.ad5
 subst this
 obtain⟨a,aa,ac,rfl,ha1,ha2⟩:=xE _ _ _ h1
 obtain⟨b,ba,bc,rfl,pZ,tC⟩:=xE _ _ _ h7
 have hw:0≤z6∧z6<256:=by
  simp only[Lit.wf,Bool.and_eq_true,decide_eq_true_eq]at w6
  have e1:IntKind.u8.min=0:=by decide
  have e2:IntKind.u8.max=255:=by decide
  omega
 obtain⟨t,ht⟩:=LX hw.1 hw.2
 exact⟨⟨z0,aa,ac,a,z2,z3,z4,z5,t,ba,bc,b⟩,by simp[kf,ht],oE w0,oE w2,oE w3,oE w4,oE w5,ha2,ha1,tC,pZ⟩
def FM{fuel:Nat}{v:Value}{x:DataW H × List MemPlace}(h:DataW.trod enc Tryz.prog W base spare held fuel 22 [v]=some x):∃l:List Bx,J0 (old W) v l:=by
 obtain⟨l,a,c,kP,h1,h2,h3⟩:=Mx Tryz.underlying22 kf 8 ag qp aq (LC (old W)) IS h
 simp only[List.cons.injEq,and_true]at kP
 subst kP
 exact⟨l,h1,h3,h2⟩
end
def lz{l:List Bx}{i:Nat}{s:Bx}(h:l[i]?=some s)(q:Nat)(hq:q<8):(l.flatMap kf)[i*8+q]?=(kf s)[q]? := cU qp h q hq
def D8(s:Bx):Prop:=s.a.length≤600∧s.b.length≤2000∧¬(3000<s.i∧s.d=6)
attribute [local irreducible] J K aD Ends ae aF aL bU bo aU bh bq cg
def ME(X:HP)(v:Value)(l:List Bx)(hv:Vw X v l.length (l.flatMap kf))(hl:l.length≤9223372036854775807)(hs:∀s∈l,LC X s) :
  aD Tryz.prog 5 [v] [X] (fun r H=>∃b:Bool,r = .bool b∧H=[X]∧(b=false→∀(i:Nat) (s:Bx),i<100→l[i]?=some s→D8 s)):=by
 obtain⟨a,c,rfl⟩:=hv.shape
 refine aD.aw Tryz.func5 Tryz.ntmps5 fun G F R hE=>?_
 refine go ?_
 refine bB (fun y:Nat × Nat=>y.1≤l.length∧y.1≤100∧y.2≤30000∧∀(i:Nat) (s:Bx),i<y.1→l[i]?=some s→D8 s) (fun y=>l.length-y.1)
  (fun y=>[(0,.slice a l.length c),(3,.int .i64 (y.2:Int)),(4,.int .i64 (y.1:Int))]) (fun _=>X::F) (0,0) ⟨ag,ag,ag,fun i s h=>by simp at h⟩ rfl ck ah ?_
 rintro⟨i,n⟩⟨hi,OW,hn,xM⟩ ih
 simp only at hi OW hn xM
 by_cases ij:i<l.length∧i<100
 case neg =>
  have lL:∀(j:Nat) (s:Bx),j<100→l[j]?=some s→D8 s:=fun j s hj hs=>xM j s (by
   rcases Nat.lt_or_ge j l.length with h|h
   ·omega
   ·rw[List.getElem?_eq_none h]at hs;cases hs) hs
  refine go ?_
  by_cases h1:i<l.length
  ·refine az 9 ((.bool true)) rfl ((congrArg Value.bool (decide_eq_true ag))) (go ?_)
   ((refine bj 12 ((.bool false)) rfl ((congrArg Value.bool (decide_eq_false (by simp only;omega)))) ?_))
   refine go ?_
   refine ad hE Tryz.func5 zr zr ⟨false,rfl,rfl,fun _=>lL⟩
  ·refine az 9 ((.bool false)) rfl ((congrArg Value.bool (decide_eq_false ag))) (go ?_)
   refine ad hE Tryz.func5 zr zr ⟨false,rfl,rfl,fun _=>lL⟩
 obtain⟨Gn,afD⟩:=ij
 obtain⟨⟨sd,saa,sac,sa,sm,si,sn,ad0,st,sba,sbc,sb⟩,hx⟩:∃s,l[i]?=some s:=⟨l[i],by simp⟩
 have iJ:=hs _ (List.mem_of_getElem? hx)
 have s0:(l.flatMap kf)[i*8+0]?=some (.int .i64 sd):=lz hx 0 ag
 have s2:(l.flatMap kf)[i*8+1]?=some (.slice saa sa.length sac):=lz hx 1 ag
 have s3:(l.flatMap kf)[i*8+3]?=some (.int .i64 si):=lz hx 3 ag
 have s6:(l.flatMap kf)[i*8+7]?=some (.slice sba sb.length sbc):=lz hx 7 ag
 have SC:=iJ.al
 have kQ:=iJ.bl
 simp only at SC kQ
 obtain⟨bb,oo,cc,fL⟩:=hv.some (by rw[← List.length_pos_iff,cE qp];omega)
 simp only[Value.slice.injEq,true_and]at fL
 obtain⟨rfl,rfl⟩:=fL
 refine go ?_
 refine az 9 ((.bool true)) rfl ((congrArg Value.bool (decide_eq_true ag))) (go ?_)
 ((refine bj 12 ((.bool true)) rfl ((congrArg Value.bool (decide_eq_true (by simp only;omega)))) ?_))
 repeat'(first|(with_reducible intro p6)|refine eZ ?_|refine hJ zr zr zr zr ?_ ?_|refine au zr zr ?_ ?_|refine bZ i 8 zr zr zr zr zr zr zr zr Gn ?_|(refine aK ?_;first|refine aX 0 (i*8+7) zr zr zr hv (Nat.add_assoc _ _ _) s6 zr zr ?_|refine aX 0 (i*8+1) zr zr zr hv (Nat.add_assoc _ _ _) s2 zr zr ?_|refine aX 0 (i*8+3) zr zr zr hv (Nat.add_assoc _ _ _) s3 zr zr ?_|refine aX 0 (i*8+0) zr zr zr hv (Nat.add_assoc _ _ _) s0 zr zr ?_))
 any_goals ((refine ad hE Tryz.func5 zr zr ⟨true,rfl,rfl,fun h=>by cases h⟩))
 all_goals(
  have DC:D8 ⟨sd,saa,sac,sa,sm,si,sn,ad0,st,sba,sbc,sb⟩:=⟨by simp only;omega,by simp only;omega,by simp only;omega⟩
  refine go ?_
  refine aG (fun w=>Sat G w ([X])) (dj 0 16 .nil) rfl aq aq aq eo ?_
  (repeat(first|refine eZ ?_|refine bZ i 8 zr zr zr zr zr zr zr zr Gn ?_|(refine aK ?_;first|refine bW 0 (i*8+7) zr zr zr hv (Nat.add_assoc _ _ _) s6 zr zr ?_|refine bW 0 (i*8+1) zr zr zr hv (Nat.add_assoc _ _ _) s2 zr zr ?_)))
  refine au zr zr ?_ ?_
  ·intro yc
   refine go ?_
   (refine ad hE Tryz.func5 zr zr ⟨true,rfl,rfl,fun h=>by cases h⟩)
  ·intro hle
   refine go ?_
   refine aM ih (i+1,n+sa.length+sb.length) rfl ⟨by simp only;omega,by simp only;omega,by simp only at hle ⊢;omega,fun q z hq hz=>?_⟩ (by simp only;omega) ck ah
   rcases Nat.lt_or_ge q i with h|h
   ·exact xM q z h hz
   ·have:q=i:=by simp only at hq;omega
    subst this
    rw[hx]at hz;cases hz;exact DC)
end Go.Proofs.YthnfckodljbgbaaGreatDoor
namespace Go.Proofs.YthnfckodljbgbaaGreatDoor
open Go Go.SL
def Rj(a:List UInt8)(m i n:Int)(t:UInt8):(0≤(kE a m i n t).1.size∧(kE a m i n t).1.size≤1000000000000)∧(0≤(kE a m i n t).1.piece∧(kE a m i n t).1.piece≤1000000000000)∧(kE a m i n t).2.1.length≤a.length:=by
 have hz:(0≤Bl.zero.size∧Bl.zero.size≤1000000000000)∧(0≤Bl.zero.piece∧Bl.zero.piece≤1000000000000):=⟨by decide,by decide⟩
 unfold kE
 split
 ·rename_i x l hx hl
  obtain⟨hr,_⟩:=nO hx
  have:=dY hr
  split
  ·exact⟨by simp only;omega,by simp only;omega,by simp⟩
  ·dsimp only
   split
   ·refine⟨by simp only;omega,by simp only;omega,?_⟩
    simp only[vK,List.length_take,List.length_drop]
    omega
   ·refine⟨by simp only;omega,by simp only;omega,?_⟩
    simp only[List.length_take,List.length_drop]
    omega
 ·exact⟨hz.1,hz.2,by simp⟩
attribute [local irreducible] J K aD Ends ae aF aL bU bo aU bh bq cg Sha.chunks Sha.chunk Sha.rounds Sha.sched dW cy GI cS eY gg de dz aE cR bD kE
end Go.Proofs.YthnfckodljbgbaaGreatDoor
namespace Go.Proofs.YthnfckodljbgbaaGreatDoor
open Go Go.SL
def RQ(bs bd jb:Nat)(q:Int)(mb:Nat)(x:SJ)(F:List HP):ak (cR bs bd jb q mb [] x::F) (aE bd x.1.A::F):=by
 unfold cR du
 refine(ak.cK _ _).trans ?_
 simp only[List.cons_append,List.nil_append]
 exact ah
attribute [local irreducible] J K aD Ends ae aF aL bU bo aU bh
def Rel.Pz{D:Dk}{A:Ab}(h:Rel D A){arrs':fW}(hs:∀x∈D.ej,x∈arrs'):Rel { D with ej:=arrs' } A :=
 ⟨h.room,h.off,h.names,h.aj,h.fs.mono fun x y tP=>⟨tP.1,tP.2.1.mono hs,tP.2.2.mono hs⟩,h.writes.mono fun x y tP=>⟨tP.1,tP.2.1,tP.2.2.mono hs⟩,h.ec.mono hs,h.ids,h.known,h.eg,h.nodup,h.gC,h.ib,h.fF,h.ie,h.kr,h.full⟩
def NF(bd:Nat)(D:Dk)(A:Ab)(hR:Rel D A)(X:HP)(bv:Value)(b:List UInt8)(hv:Vw X bv b.length (bV b))(hb:b.length≤1000000000) :
  aD Tryz.prog 13 [ptr bd,bv] [gY bd D,X] (fun v H=>∃D',Rel D' { A with ec:=b }∧v = .tuple #[]∧H=[gY bd D',X]):=by
 obtain⟨a0,c0,rfl⟩:=hv.shape
 obtain⟨room,bm,ly,ml,od,off,maps,ej,files,gI,wl⟩:=D
 refine aD.aw Tryz.func13 Tryz.ntmps13 fun G F R hE=>?_
 refine ai (iU _ _ _ _ _ _ _ _ _ _ _ _ _) (go ?_)
 refine aI (ke X _ b hv hb) ?_
 rintro v1 _ rfl
 refine aP 0 rfl ?_
 rintro a1 c1 rfl
 refine go ?_
 refine ai (ak.pick [0,4] rfl) ?_
 refine ai (ak.join _ _ _) ?_
 refine eB (CG 5 _ b _) ?_
 rintro arrs'⟨Le,dU⟩
 refine ai (ak.pick [2,3,0,4,5,6] rfl) ?_
 refine ai (ew _ _ _ _ _ _ _ _ _ _ _ _ _) ?_
 refine cd hE Tryz.func13 rfl _ rfl ⟨_,(hR.Pz dU).E6 Le hb,rfl,rfl⟩ ah
def UM(bd:Nat)(A:Ab)(X:HP)(bv:Value)(b:List UInt8)(hv:Vw X bv b.length (bV b))(hb:b.length≤1000000000) :
  aD Tryz.prog 13 [ptr bd,bv] [aE bd A,X] (fun v H=>v = .tuple #[]∧H=[aE bd { A with ec:=b },X]) :=
 iz aq (fun D hR=>NF bd D A hR X bv b hv hb) (by rintro v H⟨D',hR,rfl,rfl⟩;exact⟨_,⟨rfl,rfl⟩,gR hR _⟩)
end Go.Proofs.YthnfckodljbgbaaGreatDoor
namespace Go.Proofs.YthnfckodljbgbaaGreatDoor
open Go Go.SL
variable{A B:Ab}{br:Bool}{ts:List Tk}{m:Nat}{x:SJ}{S:Su}
def Jy(a:List UInt8)(m i n:Int)(t:UInt8):(kE a m i n t).1.size≤a.length:=by
 unfold kE
 split
 ·rename_i x l hx hl
  obtain⟨_,h2,_⟩:=nO hx
  split
  ·simp only;omega
  ·dsimp only
   split <;> (simp only;omega)
 ·show(0:Int)≤_
  omega
def pU.with{S':Su}(h:pU m x ts false S)(hs:gV S (dE ts)→((dE ts).map fun c=>c.x.d).Nodup→gV S' (dE ts)):pU m x ts false S' :=
  ⟨h.bd,h.tk,h.tl,fun _=>by
    obtain⟨K,L,h1,h2,h3,h4⟩:=h.up rfl
    exact⟨K,L,h1,h2,h3,hs h4 h3.dt.nd⟩,fun hb=>by cases hb⟩
def CN(bs bd jb:Nat)(q:Int)(mb:Nat)(x:SJ)(F:List HP):ak (cR bs bd jb q mb [] x::F) (aE bd x.1.A::ae bs (cl (eR bd q mb x.1.brk) 113)::aL dV mb (eb x.1.bz)::rT jb bd cZ x.2::F):=by
 unfold cR du
 refine(ak.cK _ _).trans ?_
 simp only[List.cons_append,List.nil_append]
 exact ah
def Hg(bs bd jb:Nat)(q:Int)(mb:Nat)(x:SJ)(F:List HP):ak (aE bd x.1.A::ae bs (cl (eR bd q mb x.1.brk) 113)::aL dV mb (eb x.1.bz)::rT jb bd cZ x.2::F) (cR bs bd jb q mb [] x::F):=by
 unfold cR du
 refine ak.trans ?_ (ak.bX _ _)
 simp only[List.cons_append,List.nil_append]
 exact ah
def sc.eqv(h:sc A)(e:r' A B):sc B:=h.same e.fs e.writes
def PU.eqv{K:List Dg}{bg:List (Dg × Bl)}{bk:Bool}{jn:JN}{T:List TC}{L:List (List UInt8)}(h:PU K (⟨A,bg,bk⟩,jn) T L)(e:r' A B):PU K (⟨B,bg,bk⟩,jn) T L:=by
 obtain⟨C,n,j1,j2,j3,j4⟩:=h.jn
 exact⟨h.di.eqv e (List.Subset.refl _),h.brk,⟨h.dt.cL,fun c hc=>(h.dt.tS c hc).eqv e,fun c hc=>(h.dt.Dw c hc).eqv e,h.dt.nd⟩,N5.same h.sb (j8.eqv e),N4.same h.ss (j8.eqv e),⟨C,n,j1.eqv e,j2,j3,j4⟩,h.lb,h.told,h.cln.eqv e,h.bg,h.kd⟩
def PB.eqv{K:List Dg}{j:Nat}{T:List TC}(h:PB K j A T)(e:r' A B):PB K j B T :=
 ⟨h.di.eqv e (List.Subset.refl _),⟨h.dt.cL,fun c hc=>(h.dt.tS c hc).eqv e,fun c hc=>(h.dt.Dw c hc).eqv e,h.dt.nd⟩,h.jn.eqv e⟩
def pU.eqv{bg:List (Dg × Bl)}{bk:Bool}{jn:JN}(h:pU m (⟨A,bg,bk⟩,jn) ts br S)(e:r' A B):pU m (⟨B,bg,bk⟩,jn) ts br S :=
  ⟨⟨by show B.aj.length≤_;rw[e.aj];exact h.bd.ly,by show B.writes.length≤_;rw[e.writes];exact h.bd.ml,h.bd.bs,h.bd.bl,h.bd.jn⟩,h.tk,h.tl,fun hb=>by
    obtain⟨K,L,h1,h2,h3,h4⟩:=h.up hb
    exact⟨K,L,h1,h2,h3.eqv e,h4⟩,fun hb=>by
    obtain⟨K,T,h1,h2,h3⟩:=h.dn hb
    exact⟨K,T,h1,h2.eqv e,h3⟩⟩
def pU.pb(h:pU m x ts br S)(hm:m≤60):∃K T,K.length≤m∧PB K m x.1.A T∧gV S T:=by
 cases br with
 | true=>exact h.dn rfl
 | false =>
  obtain⟨K,L,h1,h2,h3,h4⟩:=h.up rfl
  exact⟨K,_,h1,h3.pb h2 ag,h4⟩
def pU.files(h:pU m x ts br S)(hm:m≤60)(last:Int)(stay:List UInt8)(cq cut:Int):∀B,sH (x.1.A.dZ last stay cq cut) 0 B→B.writes.length≤700000000∧(gQ B cZ).length≤900000∧(∀y∈gQ B cZ,y.length≤1000000)∧((gQ B cZ).foldl cY []).length≤100:=by
 intro B ho
 obtain⟨K,T,h1,h2,h3⟩:=h.pb hm
 have hc:=h2.di.dZ last stay cq cut
 obtain⟨w,Jb,Vt,ZL,_⟩:=hc.tS _ _ h2.jn
 obtain⟨_,rfl⟩:=hc.dq.open ho
 have hf:gQ (x.1.A.dZ last stay cq cut) cZ=iR w:=by rw[GL hc.dq.ha Jb];rfl
 have ht:=(oh (iR w)).2
 rw[hf]
 exact⟨by show(0:Nat)≤_;omega,ag,fun y hy=>by have:=Vt y hy;omega,ag⟩
structure LsS where
 i:Nat
 s:SJ
 ts:List Tk
 tv:Value
 br:Bool
 u:List p8
 bs:Nat
 mb:Nat
 tb:Nat
 jb:Nat
structure adH(g:LsS):Prop where
 li:pU g.i g.s g.ts g.br (E0 g.u)
 nd:(g.u.map (·.b)).Nodup
 tr:SK g.u
attribute [local irreducible] J K aD Ends ae aF aL bU bo aU bh bq cg Sha.chunks Sha.chunk Sha.rounds Sha.sched dW cy GI cS eY gg de dz aE cR bD sf kE
def Oj(X:HP)(hK:oZ X)(v:Value)(l:List Bx)(hS:J0 X v l) :
  aD Tryz.prog 3 [v] [X] (fun r H=>r = .bool true∧H=[X]):=by
 obtain⟨kT,hl,iJ⟩:=hS
 have ZO:kG Tryz.prog 3 (Value.int .i64):=tw Tryz.underlying3
 obtain⟨a0,c0,rfl⟩:=kT.shape
 refine aD.aw Tryz.func3 Tryz.ntmps3 fun G F R hE=>?_
 refine go ?_
 refine aN (NN X hK) ?_
 refine go ?_
 refine aI (ME X _ l kT hl iJ) ?_
 rintro _ _⟨mu,rfl,rfl,xM⟩
 refine go ?_
 refine aI (J7 16777216 ag ag) ?_
 rintro _ _⟨bd,rfl,rfl⟩
 cases mu with
 | true =>
  refine go ?_
  refine ai (H':=X::F) ah ?_
  refine ad hE Tryz.func3 zr zr ⟨rfl,rfl⟩
 | false =>
 have aes:=xM rfl
 refine go ?_
 refine bG zr zr bE ?_
 intro wb
 refine go ?_
 ((refine aI (vN X hK wb bd (.pointer none) (.pointer none) 1048576 ag (Ab.new 16777216) rfl (by show 1≤_;omega) (GJ (HA.new _) rfl (by show 0≤_;omega))) ?_))
 rintro _ _⟨e0,t0,NH,hW,rfl,hz,-⟩
 obtain⟨rfl,_,hL0⟩:=pU.first (ts:=[]) hW (fun _=>by obtain⟨_,h,_⟩:=CIz.first hW;exact h.symm)
 obtain⟨bs,mb,tb,jb,tv,ts,zY,rfl⟩:=hz rfl
 have Lc:NH=[]:=(CIz.first hW).2.1
 subst Lc
 have Ba:=DU zY
 subst Ba
 unfold fe
 refine go ?_
 refine j9 rfl bE ?_
 intro sb
 refine aJ (ak.fold (B:=[_]) (A:=aL dG sb (jx [])) (fun h hs=>⟨h,sub.refl h,lG dG sb h (ez hs)⟩)) ?_
 refine aJ (YY _) (go ?_)
 refine bB (fun g:LsS=>g.i≤l.length∧g.i≤50∧adH g) (fun g=>l.length-g.i)
  (fun g=>[(0,.slice a0 l.length c0),(5,ptr bd),(7,ptr wb),(9,.map (some sb)),(10,.int .i64 (g.i:Int))])
  (fun g=>X::ae wb (cl [ptr bd,ptr g.bs,ptr g.tb] 33)::ae g.tb (cl [ptr g.bs,ptr g.jb,g.tv,.bool g.br] 74)::aF 76 1 g.tv g.ts.length (g.ts.map cT)::bD g.ts::cR g.bs bd g.jb 1048576 g.mb [] g.s::aL dG sb (jx g.u)::sf g.u::F) ⟨0,t0,[],tv,false,[],bs,mb,tb,jb⟩ ⟨Nat.zero_le _,by show 0≤50;omega,hL0,List.nodup_nil,fun z hz=>by cases hz⟩ rfl ck ah ?_
 rintro g⟨hi,ae0,hgk⟩ ih
 obtain⟨i,s,ts,tv,br,u,bs,mb,tb,jb⟩:=g
 simp only at hi ae0
 dsimp only
 refine go ?_
 by_cases ij:i<l.length∧i<50
 case neg =>
  by_cases h1:i<l.length
  ·refine az 62 ((.bool true)) rfl ((congrArg Value.bool (decide_eq_true ag))) (go ?_)
   refine bj 65 ((.bool false)) rfl ((congrArg Value.bool (decide_eq_false ag))) (go ?_)
   refine ai (H':=X::F) ah ?_
   refine ad hE Tryz.func3 zr zr ⟨rfl,rfl⟩
  ·refine az 62 ((.bool false)) rfl ((congrArg Value.bool (decide_eq_false ag))) (go ?_)
   refine ai (H':=X::F) ah ?_
   refine ad hE Tryz.func3 zr zr ⟨rfl,rfl⟩
 obtain⟨Gn,OW⟩:=ij
 obtain⟨st,hx⟩:∃s,l[i]?=some s:=⟨l[i],by simp⟩
 have DB:=iJ _ (List.mem_of_getElem? hx)
 obtain⟨Vi,hsb⟩:=aes i st ag hx
 obtain⟨tQ,jh,H0⟩:=hgk
 simp only at tQ jh H0
 have pJ:=tQ.bd
 have aga:=pJ.ly
 have af':=pJ.ml
 have pY:=tQ.tl
 have b2:∀y∈ts,y.n≤65536:=fun y hy=>by have:y.n≤1024:=(tQ.tk y hy).1;omega
 have b3:∀y∈ts,y.n≤y.ws.length*64:=fun y hy=>(tQ.tk y hy).2.1
 have b4:∀y∈ts,y.ws.length≤65536:=fun y hy=>(tQ.tk y hy).2.2.1
 have b6:qa s.1.bz:=⟨pJ.bs,by have:=pJ.bl;omega⟩
 obtain⟨bb,oo,cc,acq⟩:=kT.some (by rw[← List.length_pos_iff,cE qp];omega)
 simp only[Value.slice.injEq,true_and]at acq
 obtain⟨rfl,rfl⟩:=acq
 have s0:(l.flatMap kf)[i*8+0]?=some (.int .i64 st.d):=lz hx 0 ag
 have s3:(l.flatMap kf)[i*8+3]?=some (.int .i64 st.i):=lz hx 3 ag
 have s6:(l.flatMap kf)[i*8+7]?=some (.slice st.ba st.b.length st.bc):=lz hx 7 ag
 refine az 62 ((.bool true)) rfl ((congrArg Value.bool (decide_eq_true ag))) (go ?_)
 refine bj 65 ((.bool true)) rfl ((congrArg Value.bool (decide_eq_true ag))) (go ?_)
 refine bZ i 8 zr zr zr zr zr zr zr zr Gn ?_
 refine cI (U:=aR) (es:=kf st) 0 (i*8) zr zr zr kT rfl (fun j v hj=>by
  rw[lz hx j (by rcases Nat.lt_or_ge j 8 with h|h;exact h;rw[List.getElem?_eq_none (by rw[qp];exact h)]at hj;cases hj)]
  exact hj) zr zr zr ?_
 refine go ?_
 refine aI (Nt X st DB.a ag) ?_
 rintro _ _⟨bv,pv,rfl,rfl⟩
 have hgo:=Rj st.a st.m st.i st.n st.t
 have hgz:=Jy st.a st.m st.i st.n st.t
 rw[show kE st.a st.m st.i st.n st.t=st.g from rfl]at hgo hgz
 obtain⟨⟨x,b,p⟩,hgE⟩:∃z,st.g=z:=⟨_,rfl⟩
 rw[hgE]at hgo hgz ⊢
 dsimp only at hgo hgz ⊢
 obtain⟨hgs,hgp,hgl⟩:=hgo
 clear hgE
 unfold dG
 refine go ?_
 refine aC zr zr zr bE ?_
 intro tG
 refine ln ?_
 refine dN 1 rfl ?_
 rintro ba bc rfl
 refine dN 2 rfl ?_
 rintro pa pc rfl
 refine ai (H':=aF 5 1 (.slice ba b.length bc) b.length (bV b)::aF 37 32 (.slice pa p.length pc) p.length (p.flatMap dC)::X::ae tG (cl (bH x) 39)::ae wb (cl [ptr bd,ptr bs,ptr tb] 33)::ae tb (cl [ptr bs,ptr jb,tv,.bool br] 74)::aF 76 1 tv ts.length (ts.map cT)::bD ts::cR bs bd jb 1048576 mb [] s::aL dG sb (jx u)::sf u::F) ah ?_
 refine kH 0 rfl ?_
 intro Re
 refine dg 0 rfl ?_
 intro Rb
 refine kH 1 rfl ?_
 intro ys
 refine dg 1 rfl ?_
 intro Jb
 obtain⟨Y,hY⟩:∃Y,Y=Sep [aF 5 1 (.slice ba b.length bc) b.length (bV b),aF 37 32 (.slice pa p.length pc) p.length (p.flatMap dC),X]:=⟨_,rfl⟩
 have hKY:oZ Y:=hY ▸ hK.mono (aY (i:=2) rfl)
 have hbY:eO Y (.slice ba b.length bc) b:=hY ▸ eO.mono ⟨Rb,ba,bc,rfl,Re⟩ (aY (i:=0) rfl)
 have hpY:AY Y (.slice pa p.length pc) p:=hY ▸ AY.mono ⟨Jb,pa,pc,rfl,ys⟩ (aY (i:=1) rfl)
 have hv:Vw Y (.slice (some ⟨bb,oo,none⟩) l.length c0) l.length (l.flatMap kf):=hY ▸ kT.mono (aY (i:=2) rfl)
 refine ai (ak.bX [aF 5 1 (.slice ba b.length bc) b.length (bV b),aF 37 32 (.slice pa p.length pc) p.length (p.flatMap dC),X] _) ?_
 rw[← hY]
 refine gE rfl ?_
 refine xW 2 (fun g:LsS=>g.i=i+1∧adH g) (fun _=>[(0,.slice (some ⟨bb,oo,none⟩) l.length c0),(5,ptr bd),(7,ptr wb),(9,.map (some sb)),(10,.int .i64 (i:Int))]) (fun g=>Y::ae wb (cl [ptr bd,ptr g.bs,ptr g.tb] 33)::ae g.tb (cl [ptr g.bs,ptr g.jb,g.tv,.bool g.br] 74)::aF 76 1 g.tv g.ts.length (g.ts.map cT)::bD g.ts::cR g.bs bd g.jb 1048576 g.mb [] g.s::aL dG sb (jx g.u)::sf g.u::F) rfl ?_ ?_
 rotate_left
 ·intro tail
  have pI:=A0 tb bs jb bd tv 1048576 ag mb ts br s x ag hgs hgp b6 ag ag 10000 ag (fun t h=>pJ.sq ag h.2 ((lQ h.1).mono ag))
  have TZ:=HF Y hKY tb bs jb bd tv 1048576 mb ts br s x ag b2 b4 ag ag 10000 ag (fun e t h=>pJ.sq ag h.2 ((sL h.1).mono ag))
  have xP:=Kl tb bs jb bd tv 1048576 mb ts br s x ag ag ag 10000 ag (fun t h=>pJ.sq ag h.2 ((rj h.1).mono ag))
  have wD:=Hk Y hKY tb bs jb bd tv 1048576 mb ts br s x st.i DB.i _ b hbY ag _ p hpY ag b2 b3 ag ag 10000 ag (fun t w h1 h2=>pJ.sq ag (h2.2.trans h1.2) (by
   have g1:=oU h1.1
   have g2:=tI h2.1
   have g11:=g1.1
   have g12:=g1.2
   have g21:=g2.1
   have g22:=g2.2
   exact⟨ag,ag⟩))
  unfold fe dG at pI TZ xP wD
  (repeat(first|refine eZ ?_|refine bZ i 8 zr zr zr zr zr zr zr zr Gn ?_|(refine aK ?_;(refine aX 0 (i*8+0) zr zr zr hv (Nat.add_assoc _ _ _) s0 zr zr ?_))))
  refine au zr zr ?_ ?_
  ·intro h0
   refine aG (fun w=>Sat G w ([ae wb (cl [ptr bd,ptr bs,ptr tb] 33),ae tG (cl (bH x) 39),Y])) (dj 0 5 (.act 5 (.st 6 .nil))) rfl aq aq aq eo ?_
   refine go ?_
   refine bT (U:=aR) (l:=bH x) 1 zr zr zr zr zr zr (go ?_)
   refine dy pI ?_
   rintro _ _⟨e,ts',mI,iZ,t,rfl,rfl,hB⟩
   obtain⟨mT,he⟩:=tQ.begin ag (fun _=>by omega) hB
   refine go ?_
   refine au zr zr ?_ ?_
   ·intro pH
    obtain⟨rfl,OZ⟩:=he ag
    (repeat(first|refine eZ ?_|refine aH (U:=aR) (l:=bH x) 5 zr zr zr zr zr zr ?_))
    refine j9 rfl bE ?_
    intro ma
    refine aJ (ak.fold (B:=[_]) (A:=aL (Value.int .i64) ma []) (fun h hs=>⟨h,sub.refl h,lG (Value.int .i64) ma h (ez hs)⟩)) ?_
    obtain⟨u',q1,q2,q3,q4,q5⟩:=Pk jh x ma
    refine eV (key:=x) 8 nE gf zr zr zr zr zr zr zr zr ?_
    rw[← q1]
    have hq:=q5 (Y::ae wb (cl [ptr bd,ptr bs,ptr tb] 33)::ae tb (cl [ptr bs,ptr jb,mI,.bool false] 74)::aF 76 1 mI ts'.length (ts'.map cT)::bD ts'::cR bs bd jb 1048576 mb [] t::aL dG sb (jx u')::F)
    refine ln ?_
    refine jX tail ⟨i+1,t,ts',mI,false,u',bs,mb,tb,jb⟩ rfl ⟨rfl,⟨mT.with fun g1 g2=>q4 _ g1 OZ,q2,q3 H0⟩⟩ ck (ak.trans ah (hq.trans ah))
   ·intro pH
    refine ln ?_
    refine jX tail ⟨i+1,t,ts',mI,iZ,u,bs,mb,tb,jb⟩ rfl ⟨rfl,⟨mT,jh,H0⟩⟩ ck ah
  intro h0
  refine go ?_
  refine au zr zr ?_ ?_
  ·intro h1
   refine aG (fun w=>Sat G w ([ae wb (cl [ptr bd,ptr bs,ptr tb] 33),ae tG (cl (bH x) 39),Y])) (dj 0 12 (.act 12 (.st 13 .nil))) rfl aq aq aq eo ?_
   (repeat(first|refine eZ ?_|refine bT (U:=aR) (l:=bH x) 1 zr zr zr zr zr zr ?_|refine bZ i 8 zr zr zr zr zr zr zr zr Gn ?_|(refine aK ?_;(refine bW 2 (i*8+3) zr zr zr hv (Nat.add_assoc _ _ _) s3 zr zr ?_))))
   refine dy wD ?_
   rintro _ _⟨e,ts',iZ,t,rfl,rfl,hB⟩
   obtain⟨mT,he⟩:=tQ.put ag hB
   refine go ?_
   by_cases pH:e=0
   ·subst pH
    obtain⟨rfl,c,hc,OZ,hci⟩:=he rfl
    rcases oS u x with⟨h5,_⟩|⟨z,hz,QH,h5⟩
    ·(repeat(first|refine eZ ?_|refine aH (U:=aR) (l:=bH x) 5 zr zr zr zr zr zr ?_))
     refine iX (es:=jx u) (key:=x) 7 rfl nE zr zr zr zr zr zr zr zr ?_
     rw[h5,Option.getD_none]
     (repeat(first|refine eZ ?_|refine aH (U:=aR) (l:=bH x) 5 zr zr zr zr zr zr ?_))
     refine j9 rfl bE ?_
     intro ma
     refine aJ (ak.fold (B:=[_]) (A:=aL (Value.int .i64) ma []) (fun h hs=>⟨h,sub.refl h,lG (Value.int .i64) ma h (ez hs)⟩)) ?_
     obtain⟨u',q1,q2,q3,q4,q5⟩:=Pk jh x ma
     refine eV (key:=x) 8 nE gf zr zr zr zr zr zr zr zr ?_
     rw[← q1]
     have hq:=q5 (Y::ae tG (cl (bH x) 39)::aL dG sb (jx u')::ae wb (cl [ptr bd,ptr bs,ptr tb] 33)::ae tb (cl [ptr bs,ptr jb,tv,.bool false] 74)::aF 76 1 tv ts'.length (ts'.map cT)::bD ts'::cR bs bd jb 1048576 mb [] t::F)
     have K6:=mT.with fun g1 g2=>q4 _ g1 ⟨c,hc,OZ⟩
     rcases oS u' x with⟨h6,_⟩|⟨z,hz,QH,h6⟩
     ·rw[q1,AB,if_pos rfl]at h6
      cases h6
     ·refine go ?_
      refine ai (ak.trans ah hq) ?_
      obtain⟨p',q',hu⟩:=List.append_of_mem hz
      have DB:=C6 p' q' z (Y::ae tG (cl (bH x) 39)::aL dG sb (jx u')::ae wb (cl [ptr bd,ptr bs,ptr tb] 33)::ae tb (cl [ptr bs,ptr jb,tv,.bool false] 74)::aF 76 1 tv ts'.length (ts'.map cT)::bD ts'::cR bs bd jb 1048576 mb [] t::F)
      rw[← hu]at DB
      obtain⟨a1,a2,a3⟩:=Pn (p:=p') (q:=q') (z:=z) st.i
      have Zq:jx u'=jx (p'++⟨z.b,z.a,gG z.es st.i (.bool true)⟩::q'):=by rw[a1,← hu]
      refine ai (ak.trans ah DB) ?_
      refine aG (fun w=>Sat G w ([Y,ae tG (cl (bH x) 39),aL dG sb (jx u')])) (dj 0 8 (.act 8 .nil)) rfl aq aq aq eo ?_
      (repeat(first|refine eZ ?_|refine bT (U:=aR) (l:=bH x) 1 zr zr zr zr zr zr ?_|refine rP (U:=aR) (es:=jx u') (key:=x) rfl nE zr zr zr zr zr zr zr (fun w hw=>hw.l4 (i:=2) rfl) ?_|refine bZ i 8 zr zr zr zr zr zr zr zr Gn ?_|(refine aK ?_;(refine bW 0 (i*8+3) zr zr zr hv (Nat.add_assoc _ _ _) s3 zr zr ?_))))
      rw[h6,Option.getD_some]
      refine eV (es:=z.es) (key:=st.i) 0 ZO gf zr zr zr zr zr zr zr zr ?_
      have TD:=yW p' q' ⟨z.b,z.a,gG z.es st.i (.bool true)⟩ (Y::ae tG (cl (bH x) 39)::aL dG sb (jx (p'++⟨z.b,z.a,gG z.es st.i (.bool true)⟩::q'))::ae wb (cl [ptr bd,ptr bs,ptr tb] 33)::ae tb (cl [ptr bs,ptr jb,tv,.bool false] 74)::aF 76 1 tv ts'.length (ts'.map cT)::bD ts'::cR bs bd jb 1048576 mb [] t::F)
      rw[Zq]
      refine ln ?_
      refine jX tail ⟨i+1,t,ts',tv,false,p'++⟨z.b,z.a,gG z.es st.i (.bool true)⟩::q',bs,mb,tb,jb⟩ rfl ⟨rfl,⟨K6.with fun g1 g2=>a3 _ (by rw[← hu];exact g1) g2 ⟨c,hc,OZ.trans QH.symm,hci⟩,by show((p'++(⟨z.b,z.a,gG z.es st.i (.bool true)⟩:p8)::q').map (·.b)).Nodup;rw[zG (z:=z) (y:=⟨z.b,z.a,gG z.es st.i (.bool true)⟩) rfl,← hu];exact q2,a2 (by rw[← hu];exact q3 H0)⟩⟩ ck (ak.trans ah (TD.trans ah))
    ·(repeat(first|refine eZ ?_|refine aH (U:=aR) (l:=bH x) 5 zr zr zr zr zr zr ?_))
     refine iX (es:=jx u) (key:=x) 7 rfl nE zr zr zr zr zr zr zr zr ?_
     rw[h5,Option.getD_some]
     obtain⟨p',q',hu⟩:=List.append_of_mem hz
     have DB:=C6 p' q' z (Y::ae tG (cl (bH x) 39)::aL dG sb (jx u)::ae wb (cl [ptr bd,ptr bs,ptr tb] 33)::ae tb (cl [ptr bs,ptr jb,tv,.bool false] 74)::aF 76 1 tv ts'.length (ts'.map cT)::bD ts'::cR bs bd jb 1048576 mb [] t::F)
     rw[← hu]at DB
     obtain⟨a1,a2,a3⟩:=Pn (p:=p') (q:=q') (z:=z) st.i
     have Zq:jx u=jx (p'++⟨z.b,z.a,gG z.es st.i (.bool true)⟩::q'):=by rw[a1,← hu]
     refine go ?_
     refine ai (ak.trans ah DB) ?_
     refine aG (fun w=>Sat G w ([Y,ae tG (cl (bH x) 39),aL dG sb (jx u)])) (dj 0 8 (.act 8 .nil)) rfl aq aq aq eo ?_
     (repeat(first|refine eZ ?_|refine bT (U:=aR) (l:=bH x) 1 zr zr zr zr zr zr ?_|refine rP (U:=aR) (es:=jx u) (key:=x) rfl nE zr zr zr zr zr zr zr (fun w hw=>hw.l4 (i:=2) rfl) ?_|refine bZ i 8 zr zr zr zr zr zr zr zr Gn ?_|(refine aK ?_;(refine bW 0 (i*8+3) zr zr zr hv (Nat.add_assoc _ _ _) s3 zr zr ?_))))
     rw[h5,Option.getD_some]
     refine eV (es:=z.es) (key:=st.i) 0 ZO gf zr zr zr zr zr zr zr zr ?_
     have TD:=yW p' q' ⟨z.b,z.a,gG z.es st.i (.bool true)⟩ (Y::ae tG (cl (bH x) 39)::aL dG sb (jx (p'++⟨z.b,z.a,gG z.es st.i (.bool true)⟩::q'))::ae wb (cl [ptr bd,ptr bs,ptr tb] 33)::ae tb (cl [ptr bs,ptr jb,tv,.bool false] 74)::aF 76 1 tv ts'.length (ts'.map cT)::bD ts'::cR bs bd jb 1048576 mb [] t::F)
     rw[Zq]
     refine ln ?_
     refine jX tail ⟨i+1,t,ts',tv,false,p'++⟨z.b,z.a,gG z.es st.i (.bool true)⟩::q',bs,mb,tb,jb⟩ rfl ⟨rfl,⟨mT.with fun g1 g2=>a3 _ (by rw[← hu];exact g1) g2 ⟨c,hc,OZ.trans QH.symm,hci⟩,by show((p'++(⟨z.b,z.a,gG z.es st.i (.bool true)⟩:p8)::q').map (·.b)).Nodup;rw[zG (z:=z) (y:=⟨z.b,z.a,gG z.es st.i (.bool true)⟩) rfl,← hu];exact jh,a2 (by rw[← hu];exact H0)⟩⟩ ck (ak.trans ah (TD.trans ah))
   ·refine az 112 ((.bool false)) rfl ((congrArg Value.bool (decide_eq_false ag))) (go ?_)
    refine au zr zr ?_ ?_
    ·intro h9
     omega
    ·intro _
     refine ln ?_
     refine jX tail ⟨i+1,t,ts',tv,iZ,u,bs,mb,tb,jb⟩ rfl ⟨rfl,⟨mT,jh,H0⟩⟩ ck ah
  intro h1
  refine go ?_
  refine au zr zr ?_ ?_
  ·intro h2
   refine aG (fun w=>Sat G w ([ae wb (cl [ptr bd,ptr bs,ptr tb] 33),ae tG (cl (bH x) 39),Y])) (dj 0 5 (.act 5 .nil)) rfl aq aq aq eo ?_
   refine go ?_
   refine bT (U:=aR) (l:=bH x) 1 zr zr zr zr zr zr (go ?_)
   refine aI TZ ?_
   rintro _ _⟨ri,ts',mI,iZ,t,rfl,rfl,hB⟩
   have mT:=tQ.fin ag hB
   obtain⟨u',q1,q2,q3,q4,q5⟩:=Pm u x
   (repeat(first|refine eZ ?_|refine aH (U:=aR) (l:=bH x) 5 zr zr zr zr zr zr ?_))
   refine gF (es:=jx u) (key:=x) 7 nE gf zr zr zr zr zr zr zr ?_
   rw[← q1]
   have hq:=q5 (Y::ae wb (cl [ptr bd,ptr bs,ptr tb] 33)::ae tb (cl [ptr bs,ptr jb,mI,.bool iZ] 74)::aF 76 1 mI (ts').length ((ts').map cT)::bD (ts')::cR bs bd jb 1048576 mb [] t::aL dG sb (jx u')::F)
   refine ln ?_
   refine jX tail ⟨i+1,t,ts',mI,iZ,u',bs,mb,tb,jb⟩ rfl ⟨rfl,⟨by rw[q4];exact mT,q2 jh,q3 H0⟩⟩ ck (ak.trans ah (hq.trans ah))
  intro h2
  refine go ?_
  refine au zr zr ?_ ?_
  ·intro h3
   obtain⟨u',q1,q2,q3,q4,q5⟩:=Pm u x
   refine aG (fun w=>Sat G w ([ae wb (cl [ptr bd,ptr bs,ptr tb] 33),ae tG (cl (bH x) 39),Y])) (dj 0 5 (.act 5 .nil)) rfl aq aq aq eo ?_
   refine go ?_
   refine bT (U:=aR) (l:=bH x) 1 zr zr zr zr zr zr (go ?_)
   refine aI xP ?_
   rintro _ _ (⟨rfl,rfl,rfl⟩|⟨rfl,af7,rfl,rfl⟩|⟨rfl,rX,e,w,hA,⟨df,rfl,rfl⟩|⟨rfl,e',t,mI,rfl,rfl,hN⟩⟩)
   ·(repeat(first|refine eZ ?_|refine aH (U:=aR) (l:=bH x) 5 zr zr zr zr zr zr ?_))
    refine gF (es:=jx u) (key:=x) 7 nE gf zr zr zr zr zr zr zr ?_
    rw[← q1]
    have hq:=q5 (Y::ae wb (cl [ptr bd,ptr bs,ptr tb] 33)::ae tb (cl [ptr bs,ptr jb,tv,.bool true] 74)::aF 76 1 tv (ts).length ((ts).map cT)::bD (ts)::cR bs bd jb 1048576 mb [] s::aL dG sb (jx u')::F)
    refine ln ?_
    refine jX tail ⟨i+1,s,ts,tv,true,u',bs,mb,tb,jb⟩ rfl ⟨rfl,⟨by rw[q4];exact(tQ.drop x).same,q2 jh,q3 H0⟩⟩ ck (ak.trans ah (hq.trans ah))
   ·(repeat(first|refine eZ ?_|refine aH (U:=aR) (l:=bH x) 5 zr zr zr zr zr zr ?_))
    refine gF (es:=jx u) (key:=x) 7 nE gf zr zr zr zr zr zr zr ?_
    rw[← q1]
    have hq:=q5 (Y::ae wb (cl [ptr bd,ptr bs,ptr tb] 33)::ae tb (cl [ptr bs,ptr jb,tv,.bool false] 74)::aF 76 1 tv (ts).length ((ts).map cT)::bD (ts)::cR bs bd jb 1048576 mb [] s::aL dG sb (jx u')::F)
    refine ln ?_
    refine jX tail ⟨i+1,s,ts,tv,false,u',bs,mb,tb,jb⟩ rfl ⟨rfl,⟨by rw[q4];exact(tQ.drop x).same,q2 jh,q3 H0⟩⟩ ck (ak.trans ah (hq.trans ah))
   ·have mT:=(tQ.abort ag rX hA).1 df
    (repeat(first|refine eZ ?_|refine aH (U:=aR) (l:=bH x) 5 zr zr zr zr zr zr ?_))
    refine gF (es:=jx u) (key:=x) 7 nE gf zr zr zr zr zr zr zr ?_
    rw[← q1]
    have hq:=q5 (Y::ae wb (cl [ptr bd,ptr bs,ptr tb] 33)::ae tb (cl [ptr bs,ptr jb,tv,.bool (dR e)] 74)::aF 76 1 tv (ts).length ((ts).map cT)::bD (ts)::cR bs bd jb 1048576 mb [] w::aL dG sb (jx u')::F)
    refine ln ?_
    refine jX tail ⟨i+1,w,ts,tv,(dR e),u',bs,mb,tb,jb⟩ rfl ⟨rfl,⟨by rw[q4];exact mT,q2 jh,q3 H0⟩⟩ ck (ak.trans ah (hq.trans ah))
   ·have mT:=(tQ.abort ag rX hA).2 rfl e' t hN
    (repeat(first|refine eZ ?_|refine aH (U:=aR) (l:=bH x) 5 zr zr zr zr zr zr ?_))
    refine gF (es:=jx u) (key:=x) 7 nE gf zr zr zr zr zr zr zr ?_
    rw[← q1]
    have hq:=q5 (Y::ae wb (cl [ptr bd,ptr bs,ptr tb] 33)::ae tb (cl [ptr bs,ptr jb,mI,.bool (dR e')] 74)::aF 76 1 mI ((if e'=0 then sg ts x.d else ts)).length (((if e'=0 then sg ts x.d else ts)).map cT)::bD ((if e'=0 then sg ts x.d else ts))::cR bs bd jb 1048576 mb [] t::aL dG sb (jx u')::F)
    refine ln ?_
    refine jX tail ⟨i+1,t,(if e'=0 then sg ts x.d else ts),mI,(dR e'),u',bs,mb,tb,jb⟩ rfl ⟨rfl,⟨by rw[q4];exact mT,q2 jh,q3 H0⟩⟩ ck (ak.trans ah (hq.trans ah))
  intro h3
  refine go ?_
  refine au zr zr ?_ ?_
  ·intro h4
   have iC:=CN bs bd jb 1048576 mb s (Y::ae tG (cl (bH x) 39)::ae wb (cl [ptr bd,ptr bs,ptr tb] 33)::ae tb (cl [ptr bs,ptr jb,tv,.bool br] 74)::aF 76 1 tv ts.length (ts.map cT)::bD ts::aL dG sb (jx u)::sf u::F)
   refine ai (ak.trans ah iC) ?_
   have Rb:Vw Y (.slice st.ba st.b.length st.bc) st.b.length (bV st.b):=hY ▸ DB.b.1.mono (aY (i:=2) rfl)
   have hpd:=UM bd s.1.A Y (.slice st.ba st.b.length st.bc) st.b Rb ag
   (repeat(first|refine eZ ?_|refine bZ i 8 zr zr zr zr zr zr zr zr Gn ?_|(refine aK ?_;(refine aX 4 (i*8+7) zr zr zr hv (Nat.add_assoc _ _ _) s6 zr zr ?_))))
   refine aN hpd ?_
   have Zp:=Hg bs bd jb 1048576 mb (⟨{ s.1.A with ec:=st.b },s.1.bz,s.1.brk⟩,s.2) (Y::ae wb (cl [ptr bd,ptr bs,ptr tb] 33)::ae tb (cl [ptr bs,ptr jb,tv,.bool br] 74)::aF 76 1 tv ts.length (ts.map cT)::bD ts::aL dG sb (jx u)::sf u::F)
   refine ln ?_
   refine jX tail ⟨i+1,(⟨{ s.1.A with ec:=st.b },s.1.bz,s.1.brk⟩,s.2),ts,tv,br,u,bs,mb,tb,jb⟩ rfl ⟨rfl,⟨pU.eqv (A:=s.1.A) tQ.same ⟨rfl,rfl,rfl,rfl,rfl⟩,jh,H0⟩⟩ ck (ak.trans ah (Zp.trans ah))
  intro h4
  refine go ?_
  refine au zr zr ?_ ?_
  ·intro h5
   have s4:(l.flatMap kf)[i*8+4]?=some (.int .i64 st.n):=lz hx 4 ag
   have s5:(l.flatMap kf)[i*8+5]?=some (.int .i64 st.cut):=lz hx 5 ag
   have hsd:=RQ bs bd jb 1048576 mb s (Y::ae wb (cl [ptr bd,ptr bs,ptr tb] 33)::aL dG sb (jx u)::sf u::F)
   refine ai (ak.trans ah hsd) ?_
   have Rb:Vw Y (.slice st.ba st.b.length st.bc) st.b.length (bV st.b):=hY ▸ DB.b.1.mono (aY (i:=2) rfl)
   have hcd:=Sk bd s.1.A st.i st.n st.cut Y (.slice st.ba st.b.length st.bc) st.b Rb ag ag ag DB.i DB.n DB.cut
   have oH:=tQ.files ag st.i st.b st.n st.cut
   have Zz:=fun e t cs ts'=>tQ.open (t:=t) (e:=e) (cs:=cs) (ts':=ts') ag st.i st.b st.n st.cut
   have hof:(s.1.A.dZ st.i st.b st.n st.cut).off=false:=rfl
   have fL:(s.1.A.dZ st.i st.b st.n st.cut).aj.length≤600000000:=by show 1≤_;omega
   generalize s.1.A.dZ st.i st.b st.n st.cut=Ac at hcd oH Zz hof fL
   have Bm:=vN Y hKY wb bd (ptr bs) (ptr tb) 1048576 ag Ac hof fL oH
   refine aG (fun w=>Sat G w ([Y])) (dj 0 21 (.act 21 .nil)) rfl aq aq aq eo ?_
   (repeat(first|refine eZ ?_|refine bZ i 8 zr zr zr zr zr zr zr zr Gn ?_|(refine aK ?_;first|refine bW 0 (i*8+7) zr zr zr hv (Nat.add_assoc _ _ _) s6 zr zr ?_|refine bW 0 (i*8+3) zr zr zr hv (Nat.add_assoc _ _ _) s3 zr zr ?_)|(refine aK ?_;first|refine bW 0 (i*8+4) zr zr zr hv (Nat.add_assoc _ _ _) s4 zr zr ?_|refine bW 0 (i*8+5) zr zr zr hv (Nat.add_assoc _ _ _) s5 zr zr ?_)))
   refine aI hcd ?_
   rintro _ _ rfl
   refine go ?_
   refine aI Bm ?_
   rintro _ _⟨e1,t1,Uz,hW1,rfl,Ze,-⟩
   have DK:e1=0:=by
    by_cases h:e1=0
    ·exact h
    ·exact(Zz e1 t1 Uz [] hW1 fun h'=>absurd h' h).1
   subst DK
   obtain⟨SG,mb3,tb3,jb3,tv3,ts3,ae',rfl⟩:=Ze rfl
   obtain⟨_,mT⟩:=Zz 0 t1 Uz ts3 hW1 fun _=>ae'
   unfold fe
   refine ln ?_
   (refine aB rfl ?_;refine ln ?_)
   refine nR zr zr ?_
   refine jX tail ⟨i+1,t1,ts3,tv3,false,u,SG,mb3,tb3,jb3⟩ rfl ⟨rfl,⟨mT,jh,H0⟩⟩ ck ah
  intro h5
  refine jX tail ⟨i+1,s,ts,tv,br,u,bs,mb,tb,jb⟩ rfl ⟨rfl,⟨tQ.same,jh,H0⟩⟩ ck ah
 rintro g⟨Q9,hgk⟩
 obtain⟨i',s1,EK,Eu,VQ,u1,G4,U7,L4,MS⟩:=g
 simp only at Q9
 subst Q9
 obtain⟨Gl,Jf,rU⟩:=hgk
 simp only at Gl Jf rU
 dsimp only
 have iC:=CN G4 bd MS 1048576 U7 s1 (Y::ae wb (cl [ptr bd,ptr G4,ptr L4] 33)::ae L4 (cl [ptr G4,ptr MS,Eu,.bool VQ] 74)::aF 76 1 Eu EK.length (EK.map cT)::bD EK::aL dG sb (jx u1)::sf u1::F)
 refine ai (ak.trans ah iC) (go ?_)
 refine aN (J6 bd s1.1.A) ?_
 refine go ?_
 have Zp:=Hg G4 bd MS 1048576 U7 s1 (Y::ae wb (cl [ptr bd,ptr G4,ptr L4] 33)::ae L4 (cl [ptr G4,ptr MS,Eu,.bool VQ] 74)::aF 76 1 Eu EK.length (EK.map cT)::bD EK::aL dG sb (jx u1)::sf u1::F)
 have Vb:ak (Y::cR G4 bd MS 1048576 U7 [] s1::ae wb (cl [ptr bd,ptr G4,ptr L4] 33)::ae L4 (cl [ptr G4,ptr MS,Eu,.bool VQ] 74)::aF 76 1 Eu EK.length (EK.map cT)::bD EK::aL dG sb (jx u1)::sf u1::F) (X::cR G4 bd MS 1048576 U7 [] s1::ae wb (cl [ptr bd,ptr G4,ptr L4] 33)::ae L4 (cl [ptr G4,ptr MS,Eu,.bool VQ] 74)::aF 76 1 Eu EK.length (EK.map cT)::bD EK::aL dG sb (jx u1)::sf u1::F):=by
  rw[hY]
  exact(ak.cK [aF 5 1 (.slice ba b.length bc) b.length (bV b),aF 37 32 (.slice pa p.length pc) p.length (p.flatMap dC),X] _).trans ah
 obtain⟨off,iw⟩:∃o,s1.1.A.off=o:=⟨_,rfl⟩
 rw[iw]
 cases off with
 | true =>
  refine go ?_
  refine aM ih ⟨i+1,s1,EK,Eu,VQ,u1,G4,U7,L4,MS⟩ rfl ⟨by show i+1≤_;omega,by show i+1≤50;omega,⟨Gl,Jf,rU⟩⟩ (by show l.length-(i+1)<l.length-i;omega) ck (ak.trans ah (Zp.trans (ak.trans ah (Vb.trans ah))))
 | false =>
  refine go ?_
  refine aN (He L4 G4 MS Eu VQ) ?_
  cases VQ with
  | true =>
   refine go ?_
   refine aM ih ⟨i+1,s1,EK,Eu,true,u1,G4,U7,L4,MS⟩ rfl ⟨by show i+1≤_;omega,by show i+1≤50;omega,⟨Gl,Jf,rU⟩⟩ (by show l.length-(i+1)<l.length-i;omega) ck (ak.trans ah (Zp.trans (ak.trans ah (Vb.trans ah))))
  | false =>
   have hho:=Ox L4 G4 MS bd Eu 1048576 U7 s1 EK sb u1 (Gl.hold iw Jf ag)
   unfold fe at hho
   refine aJ (ak.trans ah Zp) (go ?_)
   refine aN hho ?_
   refine go ?_
   refine aM ih ⟨i+1,s1,EK,Eu,false,u1,G4,U7,L4,MS⟩ rfl ⟨by show i+1≤_;omega,by show i+1≤50;omega,⟨Gl,Jf,rU⟩⟩ (by show l.length-(i+1)<l.length-i;omega) ck (ak.trans ah (Vb.trans ah))
end Go.Proofs.YthnfckodljbgbaaGreatDoor
namespace Go.Proofs.YthnfckodljbgbaaGreatDoor
open Go Go.SL
theorem NQ{P:Program}{H:Type}{enc:TypeId × Value→H}{W:World}{base:Nat}{spare:Nat→Bool}{held:Bool}{fuel n:Nat}{t e:TypeId}{k:IntKind}{l:List Value}{x:DataW H × List MemPlace}(ht:P.underlying t=some (.array n e))(he:P.underlying e=some (.int k))(hc:P.cellsOf e=1)(zY:P.cellsOf t=n)(h:DataW.trod enc P W base spare held fuel t l=some x)(ns:List Int)(hx:x.1 = .agg (ns.map fun z => .lit (.int k z))):l=ns.map (Value.int k):=by
 obtain⟨xs,m,_,OR,hlen,Ev,hf⟩:=DataW.trod_array ht h
 rw[zY]at hlen
 rw[OR]at hx
 simp only[DataW.agg.injEq]at hx
 apply List.ext_getElem?
 intro i
 rcases Nat.lt_or_ge i n with hi|hi
 ·have h1:=hf i hi
  obtain⟨y,hy⟩:∃y,xs[i]?=some y:=⟨xs[i]' (by rw[Ev];exact hi),by simp⟩
  rw[hy,hc,Nat.mul_one]at h1
  obtain⟨z,r,hz,w⟩:=DataW.trod_int he h1
  have h2:=congrArg (fun l:List Value=>l[0]?) r
  have h3:l[i]?=some (.int k z):=by simpa using h2
  have h4:=congrArg (fun l=>l[i]?) hx
  grind
 ·have H6:ns.length=n:=by have:=congrArg List.length hx;simpa[Ev]using this.symm
  grind
def U8:List Int:=Sha.ks.map fun w=>(w.toNat:Int)
def aaH:wV Sha.ks=U8.map (Value.int .u32):=by unfold wV U8;rw[List.map_map];rfl
def Za:Rows.laid_starling_digest_constants (H:=Unit) = .agg (U8.map fun z => .lit (.int .u32 z)):=by
 unfold Rows.laid_starling_digest_constants U8 Sha.ks
 simp_all
theorem rG:Tryz.prog.globalNamed "starling/digest.constants" = some 0:=by kernel_rfl
def KU:(Tryz.prog.globals[0]?).map (·.type)=some 209:=by kernel_rfl
def QA:Tryz.prog.cellsOf 209=64:=by kernel_rfl
def LY:Tryz.prog.cellsOf 150=1:=by kernel_rfl
theorem Bu{W:World}(h:laidMet Tryz.prog [("starling/digest.constants", Rows.laid_starling_digest_constants)] W):W.var? Tryz.prog "starling/digest.constants" = some (wV Sha.ks).toArray:=by
 obtain⟨ps,⟨g,t,cs,fuel,p,q,hg,ht,aef,hd,_,_⟩,_⟩:=h
 obtain rfl:=Option.some.inj (rG.symm.trans hg)
 obtain rfl:=Option.some.inj (KU.symm.trans ht)
 rw[aef,aaH]
 congr 1
 have:=NQ Tryz.underlying209 Tryz.underlying150 LY QA hd U8 Za
 grind
theorem Ht{W:World}(h:laidMet Tryz.prog [("starling/digest.constants", Rows.laid_starling_digest_constants)] W):oZ (old W):=by
 have hv:=Bu h
 refine⟨some ⟨0,0,none⟩,64,rfl,.inr ⟨_,0,rfl,fun hp ho j c hj=>?_⟩⟩
 rw[Nat.zero_add]
 refine n5 ho ?_
 rw[World.var?_cell rG hv j]
 grind
noncomputable def wm(os:Os):World :=
  { World.holding Tryz.prog os ⟨#[],#[],[]⟩with heap:=(World.holding Tryz.prog os ⟨#[],#[],[]⟩).heap.modify 0 fun
      | .cells _ t frozen => .cells (U8.map (Value.int .u32)).toArray t frozen
      | o=>o }
def Bh(os:Os)(args:Array Value):((wm os).forCall (fun _ _=>0) ⟨#[],args,[]⟩).memory.heap[0]?=some (.cells (U8.map (Value.int .u32)).toArray 209 (0,0)):=by kernel_rfl
theorem Bi(os:Os)(args:Array Value):laidMet Tryz.prog [("starling/digest.constants", Rows.laid_starling_digest_constants)] ((wm os).forCall (fun _ _=>0) ⟨#[],args,[]⟩).memory:=by
 have DD:=Bh os args
 refine⟨_,⟨0,209,(U8.map (Value.int .u32)).toArray,8,[],[],rG,KU,?_,?_,rfl,rfl⟩,?_,?_⟩
 ·unfold World.var?
  grind [rG]
 ·kernel_rfl
 ·rw[List.append_nil,List.append_nil]
  unfold MemPlace.row
  refine List.Pairwise.map (R:=fun a b=>a≠b) _ (fun i j DG e=>DG ?_) List.nodup_range
  grind
 ·intro b off h
  have hb:b=0:=by
   simp only[List.append_nil,MemPlace.row,List.mem_map]at h
   grind
  subst hb
  refine⟨⟨_,_,DD⟩,fun u v hc=>?_⟩
  simp only[World.cell?,DD]at hc
  grind
end Go.Proofs.YthnfckodljbgbaaGreatDoor
namespace Go.Proofs.YthnfckodljbgbaaGreatDoor.piecesLasts
open Go Go.SL
open Go.ChangeShapes Go.WideShapes Go.ChangeAt Go.RowKit
open Go.ChangeMaps (open_string shut_string)
def own:ownKnob Tryz.prog.godebug=none:=by kernel_rfl
def laidOut:laidOutB Tryz.prog=true:=by kernel_rfl
def lifted(os:Os)(started:os.Started)(H:Type)(enc:TypeId × Value→H) :
  ReturnsInHanded {} Tryz.checked os 3 .any (fun w args=>(Rows.piecesLastsSpec.pre enc Tryz.prog Tryz.f3 Rows.piecesLastsRow.domain false w args∧laidMet Tryz.prog [("starling/digest.constants", Rows.laid_starling_digest_constants)] w)∧sizedMet enc Tryz.prog Tryz.f3 (OpenSpec.ofChange Rows.piecesLastsSpec) false w args) (Rows.piecesLastsSpec.post enc Tryz.prog Tryz.f3 false true false false):=by
 refine returnsInHanded_of_change_and (C:=Tryz.checked) (X:=fun w _=>laidMet Tryz.prog [("starling/digest.constants", Rows.laid_starling_digest_constants)] w) (fun _ _ _ hh h=>h.of_heap hh) own started aq Tryz.func3
  (ChangeSpec.witness_at (enc:=enc) (C:=Tryz.checked) (os:=os) (X:=fun w _=>laidMet Tryz.prog [("starling/digest.constants", Rows.laid_starling_digest_constants)] w) false (wm os) #[.slice none 0 0] 8 rfl aq aq aq aq aq (Bi os #[.slice none 0 0])) ?_
 intro W base args ds gs before Ve hW af9 _ hL _
 have acj:∀(j:Nat) t v,Tryz.f3.params[j]?=some t→args[j]?=some v→Value.okWide Tryz.prog W .any base t v:=Ve
 have hW':=hW
 obtain⟨p,q,hA0,hV,rfl,hfz,jh⟩:=hW
 have hA:DataW.TrodAll enc Tryz.prog W 0 (fun _=>true) true Tryz.f3.params.toList args.toList ds p:=hA0
 rw[Tryz.params3]at hA acj
 obtain⟨v0,vs0,d0,ds0,p0,q0,g9,rfl,rfl,h0,r0⟩:=trodAll_cons hA
 obtain⟨rfl,rfl,rfl⟩:=trodAll_nil r0
 obtain rfl:args = #[v0]:=by cases args;simp_all
 obtain⟨rfl,rfl⟩:=trodVars_none hV
 obtain⟨a0,ad3,afv,rfl⟩:=okWide_slice Tryz.underlying22 (acj 0 22 v0 rfl rfl)
 have k0:=h0
 have lt0:∀x∈p0,x.block<W.heap.size:=by obtain⟨m,hm⟩:=k0;exact DataW.trod_lt m _ _ _ hm
 obtain⟨bs0,kT⟩:∃l:List Bx,J0 (old W) (.slice a0 ad3 afv) l:=by
  obtain⟨fuel,hf⟩:=h0
  exact FM (by simpa[Value.cells]using hf)
 clear hA0 Ve
 refine(PF (Oj (old W) (Ht hL) _ bs0 kT)).mono fun e W' ⟨he,bel⟩=>?_
 subst he
 exact⟨_,rfl,_,_,_,[],_,[],hW',trodAll_mk1 (shut_bool Tryz.underlying4 _),(trodAll_cons_mk (Below.trod laidOut aq (of_decide_eq_true aq) k0 bel lt0) trodAll_mk0),rfl,bel.frame _,fun h=>by cases h⟩
def k10:(Rows.piecesLastsRow.inPlace == (Tryz.pinned.checked.prog).inPlace 3)=true:=by kernel_rfl
def k11:(Rows.piecesLastsRow.unfollowed == (Tryz.pinned.checked.prog).unfollowed 3)=true:=by kernel_rfl
def k12:(Rows.piecesLastsRow.recurses == (Tryz.pinned.checked.prog).recurses 3)=true:=by kernel_rfl
def k13:(Rows.piecesLastsRow.named == (Tryz.pinned.checked.prog).varsNamed 3)=true:=by kernel_rfl
def closed:joinedFacts Tryz.pinned.checked.prog 3 Tryz.f3 Rows.piecesLastsSpec Rows.piecesLastsRow=true:=by
 unfold joinedFacts
 rw[k10,k11,k12,k13]
 kernel_rfl
def proved:Rows.PiecesLastsSaid :=
 OpenClaim.holds_of_wide 3 Tryz.f3 zr zr zr zr zr zr zr ⟨rfl,rfl,rfl,rfl,rfl⟩ zr zr zr zr zr aq Tryz.func3 closed
  (of_decide_eq_true aq) (by unfold Func.isWrapper;(rw[if_neg (by decide +kernel)];exact⟨rfl,rfl⟩))
  (fun os started H enc _=>lifted os started H enc)
#print axioms proved
end Go.Proofs.YthnfckodljbgbaaGreatDoor.piecesLasts
