import Derived.Test.YtedjnjkijiddlaaGreatDoorQPT3
import Derived.Test.YtedjnjkijiddlaaGreatDoorQPT5
import Derived.Test.YtedjnjkijiddlaaGreatDoorQPT6
import Derived.Test.YtedjnjkijiddlaaGreatDoorQPT7
import Derived.Test.YtedjnjkijiddlaaGreatDoorQPT8
import Derived.Test.YtedjnjkijiddlaaGreatDoorQPT9
import Derived.Test.YtedjnjkijiddlaaGreatDoorQPT11
import Derived.Test.YtedjnjkijiddlaaGreatDoorQPT12
import Derived.Test.YtedjnjkijiddlaaGreatDoorQPT13
import Derived.Test.YtedjnjkijiddlaaGreatDoorQPT14
import Derived.OpenShut
import Derived.Deep.Slices
import Derived.DataElems
import Derived.Test.YtedjnjkijiddlaaGreatDoorRows
import Derived.ChangeArms
import Derived.ProofKit
import Derived.Handed
import Derived.JoinedOf
import Derived.RowKit
import Derived.WalkKit
import Derived.ShutString
import Derived.ChangeOld
import Derived.Below
import Derived.SizedLaws
import Derived.ChangeSame
import Derived.ChangeVars
set_option linter.unnecessarySimpa false
set_option linter.unusedSimpArgs false
set_option linter.unusedVariables false
set_option maxHeartbeats 4000000
set_option maxRecDepth 100000
set_option linter.defProp false
namespace Go.Proofs.YtedjnjkijiddlaaGreatDoor
open Go Go.SL
structure YK where
 d:Int
 aa:Option Addr
 ac:Nat
 a:List UInt8
 m:Int
 i:Int
 n:Int
 cut:Int
 t:UInt8
 ba:Option Addr
 bc:Nat
 b:List UInt8
def nG(s:YK):List Value:=[.int .i64 s.d,.slice s.aa s.a.length s.ac,.int .i64 s.m,.int .i64 s.i,.int .i64 s.n,.int .i64 s.cut,u8 s.t,.slice s.ba s.b.length s.bc]
def YK.g(s:YK):Bl × List UInt8 × List Dg:=o7 s.a s.m s.i s.n s.t
def pg{a:List UInt8}{m:Int}{x:Bl}{l:List Dg}(hx:eu a m=some x)(hl:cM a m=some l):bO x=l.length∧x.size=a.length∧x.piece=m∧bz x=true:=by
 obtain⟨h1,h2,h3,_⟩:=ru hx
 refine⟨?_,h2,h3,h1⟩
 have hr:=h1
 simp only[bz,decide_eq_true_eq]at hr
 unfold cM at hl
 split at hl
 ·injection hl with hl
  rw[← hl,List.length_map,mX m.toNat ag]
  unfold bO
  rw[if_pos h1,h2,h3]
  obtain⟨k,rfl⟩:∃k:Nat,m=k:=⟨m.toNat,ag⟩
  rw[Int.toNat_natCast]
  have:(((a.length+k-1)/k:Nat):Int)=((a.length:Int)+k-1)/k:=by
   rw[Int.natCast_ediv]
   congr 1
   omega
  rw[this]
 ·cases hl
def Et{a:List UInt8}{m:Int}:(eu a m=none∧cM a m=none)∨∃x l,eu a m=some x∧cM a m=some l:=by
 unfold eu
 cases h:cM a m with
 | none=>exact .inl ⟨rfl,rfl⟩
 | some l=>exact .inr ⟨_,l,rfl,rfl⟩
section
variable{P:Program}{U:Tr}[hU:fX P U]{f:FuncId}{n:Nat}{R:Ending→World→Prop}{G:cJ}{k:List Item}{L:fJ}{H H':List HP}{S:World→Prop}{all:Array Oper}{rest:Pl}{ty:TypeId}{pos:String}{af:Array Edge}{gd:Option (Nat × Bool)}{m:Bool}{d:Tmp}
end
attribute [local irreducible] J K aE Ends ae aB aP bP bq aS aZ bu bX Sha.chunks Sha.chunk Sha.rounds Sha.sched dK cm cQ e8 eu cM cT
def Lt(X:HP)(s:YK)(ha:eM X (.slice s.aa s.a.length s.ac) s.a)(O9:s.a.length≤1000000) :
  aE Tryz.prog 12 [.agg (nG s).toArray] [X] (fun r H=>∃bv pv,r = .tuple #[eL s.g.1,bv,pv]∧H=[aB 5 1 bv s.g.2.1.length (bV s.g.2.1),aB 35 32 pv s.g.2.2.length (s.g.2.2.flatMap dC),X]):=by
 have hac:s.a.length≤s.ac:=by
  obtain⟨a',c',he,hc⟩:=ha.2
  simp only[Value.slice.injEq]at he
  obtain⟨-,-,rfl⟩:=he
  exact hc
 have abV:=zR X _ s.a ha ag s.m
 have Ti:=zG X _ s.a ha ag s.m
 refine aE.ao Tryz.func12 Tryz.ntmps12 fun G F R hE=>?_
 refine aD rfl ?_
 refine bG zr zr bD ?_
 intro b1
 refine az zr zr zr bD ?_
 intro b2
 refine aI (H':=ae b1 (cl (nG s) 46)::ae b2 (cl (bH Bl.zero) 37)::X::F) (ah) (go ?_)
 refine aJ abV ?_
 rcases Et (a:=s.a) (m:=s.m)with⟨rj,OT⟩|⟨x,l,wL,hlx⟩
 ·rw[rj]
  simp only
  have hg:s.g=(Bl.zero,[],[]):=by unfold YK.g o7;rw[rj]
  rw[hg]at hE
  have e7:cC Bl.zero s.i=none:=by
   cases h:cC Bl.zero s.i with
   | none=>rfl
   | some w=>exact absurd (iQ (a:=w.1) (n:=w.2) (by rw[h])).2.2.2.2.2.2.2 (by decide)
  have pF:=uk Bl.zero s.i
  rw[e7]at pF
  unfold eL at pF ⊢
  refine go ?_
  refine az zr zr zr bD ?_
  intro b5
  refine go ?_
  refine aI (H':=ae b5 (cl (bH Bl.zero) 37)::ae b1 (cl (nG s) 46)::ae b2 (cl (bH Bl.zero) 37)::X::F) (ah) (go ?_)
  refine aH Ti ?_
  rintro _ _ (⟨_,rfl,rfl⟩|⟨ls,rv,h1,rfl,rfl⟩)
  case' inr=>(rw[OT]at h1;cases h1)
  refine aI (H':=ae b5 (cl (bH Bl.zero) 37)::ae b1 (cl (nG s) 46)::ae b2 (cl (bH Bl.zero) 37)::X::F) (ah) (go ?_)
  refine aG (U:=aQ) (l:=bH Bl.zero) 0 zr zr zr zr zr zr (go ?_)
  refine aJ pF ?_
  simp only
  refine go ?_
  refine aG (U:=aQ) (l:=bH Bl.zero) 0 zr zr zr zr zr zr (go ?_)
  refine ai (H':=ae b2 (cl (bH Bl.zero) 37)::X::F) (ah) ?_
  refine ai (al.trans (bN 5 1 none _) (al.cons _ (bN 35 32 none _))) ?_
  (refine aY hE ?_;apply aU (U:=aQ) hE Tryz.func12 rfl (al.refl _);(repeat(first|exact aN.nil|apply aN.tmp rfl|apply aN.agg 2 zr zr zr zr zr));exact⟨_,_,rfl,rfl⟩;exact ah)
 rw[wL]
 simp only
 obtain⟨yS,iB,tj,Qx⟩:=pg wL hlx
 have pF:=uk x s.i
 have hll:=kZ hlx
 have Bi:s.g=(match cC x s.i with
  | none=>(x,[],[])
  | some (at_,sz) =>
   if mY s.n<((s.a.drop at_.toNat).take sz.toNat).length then(x,pz ((s.a.drop at_.toNat).take sz.toNat) (mY s.n) s.t,cT l.length l s.i.toNat)else(x,(s.a.drop at_.toNat).take sz.toNat,if cT l.length l s.i.toNat=[]then cT l.length l s.i.toNat else pA (cT l.length l s.i.toNat) (mY s.n) s.t)):=by
  unfold YK.g o7;rw[wL,hlx] <;> rfl
 unfold eL at pF ⊢
 refine go ?_
 refine az zr zr zr bD ?_
 intro b5
 refine go ?_
 refine aI (H':=ae b5 (cl (bH x) 37)::ae b1 (cl (nG s) 46)::ae b2 (cl (bH Bl.zero) 37)::X::F) (ah) (go ?_)
 refine aH Ti ?_
 rintro _ _ (⟨h1,rfl,rfl⟩|⟨ls,rv,h1,rfl,rfl⟩)
 case' inl=>(rw[hlx]at h1;cases h1)
 rw[hlx]at h1
 injection h1 with h1
 subst h1
 refine aO 0 rfl ?_
 rintro la lc rfl
 refine aI (H':=ae b5 (cl (bH x) 37)::ae b1 (cl (nG s) 46)::aB 35 32 (.slice la l.length lc) l.length (l.flatMap dC)::ae b2 (cl (bH Bl.zero) 37)::X::F) (ah) (go ?_)
 refine aG (U:=aQ) (l:=bH x) 0 zr zr zr zr zr zr (go ?_)
 refine aJ pF ?_
 cases e7:cC x s.i with
 | none =>
  rw[e7]at Bi
  simp only at Bi ⊢
  rw[Bi]at hE
  refine go ?_
  refine aG (U:=aQ) (l:=bH x) 0 zr zr zr zr zr zr (go ?_)
  refine ai (H':=ae b2 (cl (bH x) 37)::X::F) (ah) ?_
  refine ai (al.trans (bN 5 1 none _) (al.cons _ (bN 35 32 none _))) ?_
  (refine aY hE ?_;apply aU (U:=aQ) hE Tryz.func12 rfl (al.refl _);(repeat(first|exact aN.nil|apply aN.tmp rfl|apply aN.agg 2 zr zr zr zr zr));exact⟨_,_,rfl,rfl⟩;exact ah)
 | some w =>
 obtain⟨at_,sz⟩:=w
 rw[e7]at Bi
 obtain⟨g0,g1,g2,g3,g4,g5,g6,g7⟩:=iQ e7
 simp only at Bi ⊢
 obtain⟨an,rfl⟩:∃k:Nat,at_=k:=⟨at_.toNat,ag⟩
 obtain⟨zn,rfl⟩:∃k:Nat,sz=k:=⟨sz.toNat,ag⟩
 simp only[Int.toNat_natCast]at Bi
 have Jo:=ha.piece an (an+zn) ag ag
 rw[show an+zn-an=zn from by omega]at Jo
 obtain⟨b,hb⟩:∃b,b=(s.a.drop an).take zn:=⟨_,rfl⟩
 have iC:b.length=zn:=by rw[hb,List.length_take,List.length_drop];omega
 rw[← hb]at Jo Bi
 rw[← iC]at Jo
 refine aI (H':=ae b1 (cl (nG s) 46)::aB 35 32 (.slice la l.length lc) l.length (l.flatMap dC)::X::ae b5 (cl (bH x) 37)::ae b2 (cl (bH Bl.zero) 37)::F) (ah) (go ?_)
 refine aj (cs:=[]) zr zr zr zr zr zr zr zr zr bD ?_
 intro r0
 refine go ?_
 refine bh (p:=(an:Int)) (q:=(an:Int)+(zn:Int)) zr zr zr zr zr zr zr ag ag (.inr ag) ?_
 ((refine au 50 ((.slice (sliceAt s.aa s.ac an 1) b.length (s.ac-an))) rfl ((by rw[iC,show((an:Int)+(zn:Int)).toNat=an+zn from by omega,Int.toNat_natCast,show an+zn-an=zn from by omega];rfl)) ?_))
 refine aI (eJ 5 1 r0 0 0 [] [] _ rfl (Nat.le_refl _) (by simp)) ?_
 refine aR (mm:=b.length) (news:=bV b) 0 3 zr zr zr zr zr zr zr zr zr zr zr zr Jo.1 (by show _=_*1;rw[bC];omega) (cX _) ag (by show(_+_)*1≤_;omega) (fun _=>rfl) bD ?_
 intro v1
 rw[show(0:Nat)+b.length=b.length from Nat.zero_add _,List.nil_append]
 refine aO 0 rfl ?_
 rintro da dc rfl
 refine aI (H':=aB 35 32 (.slice la l.length lc) l.length (l.flatMap dC)::ae b1 (cl (nG s) 46)::X::aB 5 1 (.slice da b.length dc) b.length (bV b)::ae b5 (cl (bH x) 37)::ae b2 (cl (bH Bl.zero) 37)::F) (ah) ?_
 refine ld ?_
 refine fL rfl ?_
 refine dy 0 rfl ?_
 intro hvl
 have adk:=L3 _ _ l hvl ag s.i
 refine go ?_
 refine aH adk ?_
 rintro _ _ (⟨lL,rfl,rfl⟩|⟨rv,_,rfl,rfl⟩)
 case' inl=>exact absurd ⟨g3,ag,ag⟩ lL
 obtain⟨p,hp⟩:∃p,p=cT l.length l s.i.toNat:=⟨_,rfl⟩
 have nV:p.length≤10:=by
  rw[hp,sG l.length l s.i.toNat ag]
  exact vm 10 _ _ _ ag
 rw[← hp]at Bi ⊢
 refine aO 0 rfl ?_
 rintro pa0 pc0 rfl
 refine iy 0 rfl ?_
 intro acW
 refine go ?_
 refine aj (cs:=[]) zr zr zr zr zr zr zr zr zr bD ?_
 intro r1
 refine go ?_
 refine aI (eJ 35 32 r1 0 0 [] [] _ rfl (Nat.le_refl _) (by simp)) ?_
 refine aR (mm:=p.length) (news:=p.flatMap dC) 0 1 zr zr zr zr zr zr zr zr zr zr zr zr acW (by rw[cI dk];rfl) (Pn p) ag (by show(_+_)*32≤_;omega) (fun _=>rfl) bD ?_
 intro v2
 rw[show(0:Nat)+p.length=p.length from Nat.zero_add _,List.nil_append]
 refine aO 0 rfl ?_
 rintro pa pc rfl
 refine aI (H':=ae b1 (cl (nG s) 46)::aB 5 1 (.slice da b.length dc) b.length (bV b)::aB 35 32 (.slice pa p.length pc) p.length (p.flatMap dC)::X::ae b5 (cl (bH x) 37)::ae b2 (cl (bH Bl.zero) 37)::F) (ah) ?_
 obtain⟨k,hk⟩:∃k,k=mY s.n:=⟨_,rfl⟩
 have aeL:k<64:=by rw[hk];exact Em s.n
 rw[← hk]at Bi
 have RI:=G9 s.n
 rw[← hk]at RI
 refine go ?_
 by_cases hkb:k<b.length
 ·((refine aX 68 ((.bool true)) rfl ((congrArg Value.bool (decide_eq_true (by rw[RI];omega)))) ?_))
  refine aX 15 ((.int .i64 (k:Int))) rfl ((congrArg (Value.int .i64) RI)) ?_
  rw[if_pos hkb]at Bi
  rw[Bi]at hE
  have hbk:b[k]?=some (b.getD k 0):=by rw[List.getD_eq_getElem?_getD,List.getElem?_eq_getElem hkb];rfl
  have MK:(bV b)[k]?=some (u8 (b.getD k 0)):=pk hbk
  have ir:(bV b).set k (u8 (b.getD k 0 ^^^ s.t))=bV (pz b k s.t):=H5 b k _
  refine ai (al.pick [1] rfl) ?_
  refine dy 0 rfl ?_
  intro hvb
  obtain⟨ob,oo,oc,he⟩:=hvb.some (by rw[← List.length_pos_iff,bC];omega)
  simp only[Value.slice.injEq,true_and]at he
  obtain⟨rfl,rfl⟩:=he
  refine go ?_
  refine aF (fun w=>Sat G w ([aB 5 1 (.slice (some ⟨ob,oo,none⟩) b.length dc) b.length (bV b),ae b1 (cl (nG s) 46)])) (cZ 0 8 (.act 8 .nil)) rfl ak ak ak dT ?_
  (repeat(first|refine gy ?_|refine bM k zr zr zr zr zr zr zr zr hkb ?_|(refine aK ?_;refine cO 0 k zr zr zr hvb rfl MK zr zr ?_)))
  refine au 75 ((u8 (b.getD k 0 ^^^ s.t))) rfl ((congrArg (Value.int .u8) (Dp _ _))) ?_
  (repeat(fail))
  refine aT ?_
  refine py (U:=aQ) (q:=k) 0 gB zr zr zr zr zr zr zr hkb rfl ?_
  rw[ir]
  refine aI (H':=ae b5 (cl (bH x) 37)::ae b2 (cl (bH Bl.zero) 37)::aB 5 1 (.slice (some ⟨ob,oo,none⟩) b.length dc) b.length (bV (pz b k s.t))::aB 35 32 (.slice pa p.length pc) p.length (p.flatMap dC)::X::F) (ah) (go ?_)
  refine aG (U:=aQ) (l:=bH x) 0 zr zr zr zr zr zr (go ?_)
  ((refine ai (H':=aB 5 1 (.slice (some ⟨ob,oo,none⟩) b.length dc) (pz b k s.t).length (bV (pz b k s.t))::aB 35 32 (.slice pa p.length pc) p.length (p.flatMap dC)::X::ae b2 (cl (bH x) 37)::F) ((by rw[uK];exact ah)) ?_))
  (refine aY hE ?_;apply aU (U:=aQ) hE Tryz.func12 rfl (al.refl _);(repeat(first|exact aN.nil|apply aN.tmp rfl|apply aN.agg 3 zr zr zr zr zr));exact⟨_,_,rfl,rfl⟩;exact ah)
 ((refine aX 68 ((.bool false)) rfl ((congrArg Value.bool (decide_eq_false (by rw[RI];omega)))) ?_))
 refine aX 15 ((.int .i64 (k:Int))) rfl ((congrArg (Value.int .i64) RI)) ?_
 rw[if_neg hkb]at Bi
 refine go ?_
 by_cases zX:p=[]
 ·rw[if_pos zX]at Bi
  rw[Bi]at hE
  have aeA:p.length=0:=by rw[zX];rfl
  refine aX 79 ((.bool false)) rfl ((congrArg Value.bool (decide_eq_false ag))) ?_
  refine ai (H':=ae b5 (cl (bH x) 37)::ae b2 (cl (bH Bl.zero) 37)::aB 5 1 (.slice da b.length dc) b.length (bV b)::aB 35 32 (.slice pa p.length pc) p.length (p.flatMap dC)::X::F) (ah) (go ?_)
  refine aG (U:=aQ) (l:=bH x) 0 zr zr zr zr zr zr (go ?_)
  refine ai (H':=aB 5 1 (.slice da b.length dc) b.length (bV b)::aB 35 32 (.slice pa p.length pc) p.length (p.flatMap dC)::X::ae b2 (cl (bH x) 37)::F) (ah) ?_
  (refine aY hE ?_;apply aU (U:=aQ) hE Tryz.func12 rfl (al.refl _);(repeat(first|exact aN.nil|apply aN.tmp rfl|apply aN.agg 3 zr zr zr zr zr));exact⟨_,_,rfl,rfl⟩;exact ah)
 rw[if_neg zX]at Bi
 rw[Bi]at hE
 have lu:=List.length_pos_iff.2 zX
 obtain⟨j,hj⟩:∃j,j=k%p.length:=⟨_,rfl⟩
 have wK:j<p.length:=by rw[hj];exact Nat.mod_lt _ lu
 have Rs:p[j]?=some (p.getD j Dg.zero):=by rw[List.getD_eq_getElem?_getD,List.getElem?_eq_getElem wK];rfl
 obtain⟨d,hd⟩:∃d,d=p.getD j Dg.zero:=⟨_,rfl⟩
 rw[← hd]at Rs
 have h31:=pn k 5 ag ag
 have RJ:k%32<32:=Nat.mod_lt _ ag
 have dF:(p.flatMap dC)[j*32+k%32]?=some (u8 (d.bs.getD (k%32) 0)):=by
  rw[cR dk Rs _ RJ,dG]
  refine pk ?_
  rw[List.getD_eq_getElem?_getD,List.getElem?_eq_getElem (by rw[d.len];exact RJ)]
  rfl
 have ir:=Lv p j (k%32) s.t wK RJ d Rs
 have htp:pA p k s.t=p.set j (pB d (k%32) s.t):=by unfold pA;rw[← hj,← hd]
 refine aX 79 ((.bool true)) rfl ((congrArg Value.bool (decide_eq_true ag))) ?_
 refine ai (al.pick [2] rfl) ?_
 refine dy 0 rfl ?_
 intro hvp
 obtain⟨ob,oo,oc,he⟩:=hvp.some (by rw[← List.length_pos_iff,cI dk];omega)
 simp only[Value.slice.injEq,true_and]at he
 obtain⟨rfl,rfl⟩:=he
 refine go ?_
 refine aF (fun w=>Sat G w ([aB 35 32 (.slice (some ⟨ob,oo,none⟩) p.length pc) p.length (p.flatMap dC),ae b1 (cl (nG s) 46)])) (cZ 0 15 (.act 15 .nil)) rfl ak ak ak dT ?_
 refine go ?_
 refine lO ?_
 refine mI zr zr zr ag ag ?_
 ((refine au 84 ((.int .i64 (j:Int))) rfl ((congrArg (Value.int .i64) (by rw[hj];omega))) ?_))
 refine go ?_
 refine au 86 ((.int .i64 ((k%32:Nat):Int))) rfl ((congrArg (Value.int .i64) h31)) ?_
 (repeat(first|refine gy ?_|refine cL j 32 zr zr zr zr zr zr zr zr wK ?_|refine ep (U:=aQ) (k%32) zr zr zr zr zr zr zr zr RJ ?_|(refine aK ?_;refine cO 0 (j*32+k%32) zr zr zr hvp (Nat.add_assoc _ _ _) dF zr zr ?_)))
 refine au 92 ((u8 (d.bs.getD (k%32) 0 ^^^ s.t))) rfl ((congrArg (Value.int .u8) (Dp _ _))) ?_
 (repeat(fail))
 refine aT ?_
 refine FJ (U:=aQ) (q:=j*32+k%32) 0 gB rfl (Nat.add_assoc _ _ _) zr zr zr zr zr zr lu ag rfl ?_
 rw[ir,← htp]
 refine aI (H':=ae b5 (cl (bH x) 37)::ae b2 (cl (bH Bl.zero) 37)::aB 35 32 (.slice (some ⟨ob,oo,none⟩) p.length pc) p.length ((pA p k s.t).flatMap dC)::aB 5 1 (.slice da b.length dc) b.length (bV b)::X::F) (ah) (go ?_)
 refine aG (U:=aQ) (l:=bH x) 0 zr zr zr zr zr zr (go ?_)
 ((refine ai (H':=aB 5 1 (.slice da b.length dc) b.length (bV b)::aB 35 32 (.slice (some ⟨ob,oo,none⟩) p.length pc) (pA p k s.t).length ((pA p k s.t).flatMap dC)::X::ae b2 (cl (bH x) 37)::F) ((by rw[J7];exact ah)) ?_))
 (refine aY hE ?_;apply aU (U:=aQ) hE Tryz.func12 rfl (al.refl _);(repeat(first|exact aN.nil|apply aN.tmp rfl|apply aN.agg 3 zr zr zr zr zr));exact⟨_,_,rfl,rfl⟩;exact ah)
end Go.Proofs.YtedjnjkijiddlaaGreatDoor
namespace Go.Proofs.YtedjnjkijiddlaaGreatDoor
open Go Go.SL
variable{b:Bl}{i m:Int}{ts:List Tk}{a:List UInt8}{e j k u w:Nat}{t x:SJ}
def PM(bs bd jb:Nat)(q:Int)(mb:Nat)(x:SJ)(F:List HP):al (cG bs bd jb q mb [] x::F) (aC bd x.1.A::F):=by
 unfold cG cH
 refine(al.cD _ _).trans ?_
 simp only[List.cons_append,List.nil_append]
 exact ah
def Su(bs bd jb:Nat)(q:Int)(mb:Nat)(x:SJ)(F:List HP):al (cG bs bd jb q mb [] x::F) (ae bs (cl (ei bd q mb x.1.brk) 123)::aC bd x.1.A::F):=by
 unfold cG cH
 refine(al.cD _ _).trans ?_
 simp only[List.cons_append,List.nil_append]
 exact ah
def DQ.wr{A:Ab}(h:DQ k A):A.writes=[]:=by
 cases hx:A.writes with
 | nil=>rfl
 | cons z l=>exact(h.cz.wr z (by rw[hx];simp)).elim
def oB.ab6(h:oB k w u j x ts)(hj:j≤100){A':Ab}(hq:DQ k A')(hv:vw A' db=vw x.1.A db):∀B,qC A' 0 B→B.writes.length≤700000000∧(fW B db).length≤900000∧(∀y∈fW B db,y.length≤1000000)∧((fW B db).foldl dB []).length≤100:=by
 intro B hB
 obtain⟨_,rfl⟩:=hq.open hB
 obtain⟨C,n,ls,h1,h2,h3,h4,h5,h6,h7⟩:=h.cj.jr
 have nW:=mq ls h6
 have hf:fW B db=ls:=by
  rw[Fb hq.ha (hv.trans h1),h2.found ag ag]
  exact pZ ls fun x hx=>by have:=h6 x hx;omega
 have ht:=(pT ls).2
 rw[hf,hq.wr]
 exact⟨by simp,ag,fun y hy=>by have:=h6 y hy;omega,ag⟩
def oB.ab5(h:oB k w u j x ts)(hj:j≤100):∀B,qC (x.1.A.du 0 [] (-1) 0) 0 B→B.writes.length≤700000000∧(fW B db).length≤900000∧(∀y∈fW B db,y.length≤1000000)∧((fW B db).foldl dB []).length≤100:=by
 obtain⟨d1,d2,d3⟩:=h.cs.dq.du
 exact h.ab6 hj d1 (d3 db fun d e=>iw d e.symm)
def Bn{a:List UInt8}{m i n:Int}{t:UInt8}{x:Bl}{l:List Dg}(hx:eu a m=some x)(hl:cM a m=some l):o7 a m i n t=match cC x i with
  | none=>(x,[],[])
  | some (at_,sz) =>
   let b:=(a.drop at_.toNat).take sz.toNat
   let p:=cT l.length l i.toNat
   if mY n<b.length then(x,pz b (mY n) t,p)else(x,b,if p=[]then p else pA p (mY n) t):=by
 unfold o7
 rw[hx,hl] <;> rfl
def M7{α:Type}(l:List α){s:Nat}(h:s=min k l.length):l.take k=l.take s:=by
 subst h
 rcases Nat.le_total k l.length with hk|hk
 ·rw[Nat.min_eq_left hk]
 ·rw[Nat.min_eq_right hk,List.take_length,List.take_of_length_le hk]
def Rm{x:Bl}{l:List Dg}(hx:eu a m=some x)(hl:cM a m=some l){i:Nat}{at_ sz:Int}(e7:cC x i=some (at_,sz)):l[i]?=some (cQ ((a.drop at_.toNat).take sz.toNat)):=by
 obtain⟨c1,c2,c3,c4⟩:=pg hx hl
 obtain⟨g0,g1,g2,g3,g4,g5,g6,gr⟩:=iQ e7
 have hp:=dp gr
 obtain⟨k,rfl⟩:∃k:Nat,m=(k:Int):=⟨m.toNat,ag⟩
 have e:at_=((i*k:Nat):Int):=by rw[g5,c3,Int.natCast_mul]
 unfold cM at hl
 split at hl
 ·injection hl with hl
  rw[← hl,List.getElem?_map,show(k:Int).toNat=k from rfl,jF k ag a.length a i (Nat.le_refl _),if_pos ag,Option.map_some]
  have e2:at_.toNat=i*k:=by omega
  rw[e2,M7 (a.drop (i*k)) (s:=sz.toNat) (by rw[List.length_drop];omega)]
 ·cases hl
def Ct{x:Bl}(hx:eu a m=some x){at_ sz:Int}(e7:cC x i=some (at_,sz)):∃p,o7 a m i 0 0=(x,(a.drop at_.toNat).take sz.toNat,p)∧cd x i ((a.drop at_.toNat).take sz.toNat) p=true:=by
 obtain⟨l,hl⟩:∃l,cM a m=some l:=by
  unfold eu at hx
  cases h:cM a m with
  | none=>rw[h]at hx;cases hx
  | some l=>exact⟨l,rfl⟩
 refine⟨cT l.length l i.toNat,?_,?_⟩
 ·rw[Bn hx hl,e7]
  simp only[xC,Gn]
  split
  ·rfl
  ·split <;> rfl
 ·obtain⟨c1,c2,c3,c4⟩:=pg hx hl
  obtain⟨g0,g1,g2,g3,g4,g5,g6,gr⟩:=iQ e7
  have hp:=dp gr
  obtain⟨i,rfl⟩:∃i':Nat,i=i':=⟨i.toNat,ag⟩
  have yG:x.root=rO l:=by
   unfold eu at hx
   rw[hl]at hx
   injection hx with hx
   rw[← hx]
  have lA:=lS x
  have Tu:=CM (l:=l) (i:=i) ag (Rm hx hl e7)
  unfold cd
  rw[e7]
  simp only[Bool.and_eq_true,decide_eq_true_eq]
  refine⟨by rw[List.length_take,List.length_drop];omega,?_⟩
  rw[yG,c1]
  exact Tu
def Sh{c:TC}(h:gz ts=[c]):∃y,ts=[y]∧y.c=c:=by
 have hl:ts.length=1:=by rw[← rq,h];rfl
 obtain⟨y,rfl⟩:=List.length_eq_one_iff.1 hl
 refine⟨y,rfl,?_⟩
 simpa[gz]using h
def acn{ed:List Tk}{jB:Bool}(hr:bz b=true)(hs:b.size≤600)(h:oB 1 0 100 0 x [])(hv:∀n,n≠db→vw x.1.A n=none)(hR:Mz 1048576 b [] x false e ed jB t) :
  jB=false∧e=0∧∃y,ed=[y]∧oB 2 1 120 1 t [y]∧kf a b t y∧(∀l:Int,cy y.ws y.n l=false)∧vw t.1.A (oF b.d)=none:=by
 obtain⟨r1,r2,r3,r4,r5⟩:=h.begin ag ag ag (fun _=>hs) hR
 rw[if_neg (by simp),if_neg (by rw[hr];simp),if_neg (by rw[hv _ (nc _)];simp)]at r3
 obtain⟨c1,c2⟩:=r5 r3
 obtain⟨y,rfl,hy⟩:=Sh (show gz ed=[cW b]from c1)
 refine⟨r1,r3,y,rfl,r2,kf.begin (x:=t) hy (by rw[c2 _ (iw _),if_pos rfl,hv _ (iw _)];rfl),fun l=>?_,?_⟩
 ·have h2:cy y.c.ws y.c.n l=false:=by rw[hy];exact tT _ _ _
  exact h2
 ·rw[c2 _ (nc _),if_neg (fun e=>jA _ _ e.symm),hv _ (nc _)]
def YJ{y:Tk}{ed:List Tk}{bs:List UInt8}{p:List Dg}{jB:Bool}(h:oB k w u j x [y])(h1:kf a b x y)(m8:(a.length:Int)=b.size)(hk:k≤180)(hj:j<100)(hR:Ii b i bs p [y] x false e ed jB t) :
  jB=false∧decide ((e:Int)=0)=(cd b i bs p || cy y.ws y.n i)∧∃y',ed=[y'] ∧
   ((cd b i bs p=true→∀at_ n,cC b i=some (at_,n)→bs=(a.drop at_.toNat).take n.toNat)→oB k 65 (u+20) (j+1) t [y']∧kf a b t y'∧y'.n=y.n∧∀l:Int,cy y'.ws y'.n l=(cy y.ws y.n l || (decide ((e:Int)=0) && decide (l=i)))):=by
 obtain⟨m1,m2,m3,m4,m5,m6,m7⟩:=h1.mem h
 obtain⟨r1,r2,r3,r4⟩:=h.put hk hj hR
 have he:e=(if i<0∨(y.n:Int)≤i then 1 else if cy y.ws y.n i=true then 0 else if cd b i bs p=true then 0 else 8):=by
  rw[r3];unfold NC;rw[kf.find h1.xb]
 refine⟨r1,?_,?_⟩
 ·by_cases hr:i<0∨(y.n:Int)≤i
  ·rw[if_pos hr]at he
   have e7:cC b i=none:=Ke ag
   have hp:cd b i bs p=false:=by unfold cd;rw[e7]
   rw[hp,nY hr,he]
   rfl
  ·rw[if_neg hr]at he
   rw[he]
   cases cy y.ws y.n i <;> cases cd b i bs p <;> rfl
 ·have gw:∃y',ed=[y']:=by
   rcases r4 with⟨rfl,_⟩|⟨q,y0,hq,_,_,_,_,_,rfl,_⟩
   ·exact⟨y,rfl⟩
   ·cases q with
    | zero=>exact⟨_,rfl⟩
    | succ q=>simp at hq
  obtain⟨y',rfl⟩:=gw
  refine⟨y',rfl,fun O5=>?_⟩
  obtain⟨_,c2,_,y2,yF,c4,c5,c6⟩:=h1.put h m8 hk hj O5 hR
  simp only[List.cons.injEq,and_true]at yF
  subst yF
  refine⟨c2.acI c5,c5,c4,fun l=>?_⟩
  rw[c6]
  congr 2
  exact decide_eq_decide.2 ag
def YI{piece:Int}{n:Nat}(hx:eu a piece=some b)(hn:(n:Int)=bO b)(h0:0≤i)(h1:i<n){bs:List UInt8}{p:List Dg}{t:UInt8}(ht:t=0)(hg:o7 a piece i 0 t=(b,bs,p)):cd b i bs p=true:=by
 subst ht
 obtain⟨at_,n,e7⟩:=Kd (b:=b) (i:=i) h0 ag
 obtain⟨p',g1,g2⟩:=Ct hx e7
 rw[g1]at hg
 simp only[Prod.mk.injEq,true_and]at hg
 obtain⟨rfl,rfl⟩:=hg
 exact g2
def HG{t:UInt8}{x:Bl}(hx:eu a m=some x):∃bs p,o7 a m i 0 t=(x,bs,p)∧bs.length≤a.length:=by
 obtain⟨l,hl⟩:∃l,cM a m=some l:=by
  unfold eu at hx
  cases h:cM a m with
  | none=>rw[h]at hx;cases hx
  | some l=>exact⟨l,rfl⟩
 rw[Bn hx hl]
 cases cC x i with
 | none=>exact⟨[],[],rfl,Nat.zero_le _⟩
 | some an =>
  obtain⟨at_,sz⟩:=an
  dsimp only
  split
  ·refine⟨_,_,rfl,?_⟩
   simp only[uK,List.length_take,List.length_drop]
   omega
  ·refine⟨_,_,rfl,?_⟩
   simp only[List.length_take,List.length_drop]
   omega
def YH{y:Tk}{cs:List TC}(h:oB 3 65 u j x [y])(h1:kf a b x y)(pO:j≤100)(hO:zy 1048576 (x.1.A.du 0 [] (-1) 0) e t cs) :
  e=0∧∀ed,gz ed=cs→∃y',ed=[y']∧oB 3 65 21 65 t [y']∧y'.n=y.n∧kf a b t y'∧∀l:Int,cy y'.ws y'.n l=cy y.ws y.n l:=by
 obtain⟨r1,r2⟩:=h1.back h ag ag pO hO
 refine⟨r1,fun ed pE=>?_⟩
 obtain⟨q1,y',rfl,q2,q3,q4⟩:=r2 ed pE
 exact⟨y',rfl,q1,q2,q3,q4⟩
def CC(f n i:Nat)(h:n≤1):eP f n i=0:=by
 cases f with
 | zero=>rfl
 | succ f=>unfold eP;rw[if_pos h]
attribute [local irreducible] J K aE Ends ae aB aP bP bq aS aZ bu bX Sha.chunks Sha.chunk Sha.rounds Sha.sched dK cm cQ e8
def Mo(n i:Int):aE Tryz.prog 117 [.int .i64 n,.int .i64 i] [] (fun r H=>r = .int .i64 (dx n i:Int)∧H=[]):=by
 have Dj:=od n i
 refine aE.ao Tryz.func117 Tryz.ntmps117 fun G F R hE=>?_
 by_cases kC:1≤n∧n≤1024∧0≤i∧i<n
 case neg =>
  have hd:dx n i=0:=by unfold dx;rw[if_neg kC]
  rw[hd]at hE
  repeat'(first|(with_reducible intro pM)|refine gy ?_|refine ie zr zr zr zr ?_ ?_|refine aq zr zr ?_ ?_|fail)
  all_goals(first|(exfalso;omega)|skip)
  all_goals(
   refine go ?_
   ((refine ad hE Tryz.func117 zr zr ⟨rfl,rfl⟩)))
 obtain⟨m,rfl⟩:∃k:Nat,n=k:=⟨n.toNat,ag⟩
 obtain⟨k,rfl⟩:∃k:Nat,i=k:=⟨i.toNat,ag⟩
 have hd:dx (m:Int) (k:Int)=eP m m k:=by unfold dx;rw[if_pos kC];rfl
 rw[hd]at hE Dj
 refine go ?_
 refine au 8 ((.bool false)) rfl ((congrArg Value.bool (decide_eq_false ag))) (go ?_)
 refine au 12 ((.bool false)) rfl ((congrArg Value.bool (decide_eq_false ag))) (go ?_)
 refine aX 16 ((.bool false)) rfl ((congrArg Value.bool (decide_eq_false ag))) (go ?_)
 refine aX 20 ((.bool false)) rfl ((congrArg Value.bool (decide_eq_false ag))) (go ?_)
 refine bB (fun g:Nat × Nat × Nat=>1≤g.1∧g.1≤m∧g.2.1<g.1∧g.2.2+eP m g.1 g.2.1=eP m m k) (fun g=>g.1)
  (fun g=>[(0,.int .i64 (g.1:Int)),(1,.int .i64 (g.2.1:Int)),(5,.int .i64 (g.2.2:Int))]) (fun _=>F) (m,k,0) ⟨by simp only;omega,Nat.le_refl _,by simp only;omega,by simp⟩ rfl cg ah ?_
 rintro⟨p,q,c⟩⟨h1,h2,h3,h4⟩ ih
 simp only at h1 h2 h3 h4
 dsimp only
 refine go ?_
 refine aq zr zr ?_ ?_
 case' refine_2 =>
  intro hle
  rw[CC m p q ag,Nat.add_zero]at h4
  rw[← h4]at hE
  clear ih
  refine go ?_
  refine ad hE Tryz.func117 zr zr ⟨rfl,rfl⟩
 intro MG
 have cK:=v7 m p q h2 ag
 refine fL rfl ?_
 refine sl 2 (fun c2:Nat=>c2+eP m ((p+1)/2) (q/2)=eP m m k) (fun c2=>[(0,.int .i64 (p:Int)),(1,.int .i64 (q:Int)),(5,.int .i64 (c2:Int))]) (fun _=>F) rfl ?_ ?_
 rotate_left
 ·intro tail
  refine go ?_
  refine mI zr zr zr ag ag ?_
  by_cases sM:q%2=1
  ·have hs:(dt p q).isSome=true:=by unfold dt;rw[if_pos sM];rfl
   rw[if_pos hs]at cK
   refine au 24 ((.int .i64 1)) rfl ((congrArg (Value.int .i64) ag)) ?_
   refine ld ?_
   refine px zr zr ?_
   (refine aD rfl ?_;refine ld ?_)
   refine lh tail (c+1) rfl ag cg ah
  ·refine au 24 ((.int .i64 0)) rfl ((congrArg (Value.int .i64) ag)) (go ?_)
   by_cases ve:q+1<p
   ·have hs:(dt p q).isSome=true:=by unfold dt;rw[if_neg sM,if_pos ve];rfl
    rw[if_pos hs]at cK
    refine aX 31 ((.bool true)) rfl ((congrArg Value.bool (decide_eq_true ag))) ?_
    refine px zr zr ?_
    (refine aD rfl ?_;refine ld ?_)
    refine lh tail (c+1) rfl ag cg ah
   ·have hs:¬(dt p q).isSome=true:=by unfold dt;rw[if_neg sM,if_neg ve];simp
    rw[if_neg hs]at cK
    refine aX 31 ((.bool false)) rfl ((congrArg Value.bool (decide_eq_false ag))) ?_
    refine ix zr zr ?_
    refine lh tail c rfl ag cg ah
 intro c2 h5
 refine go ?_
 refine lj zr zr zr ag ag (by simp only[gq];omega) ?_
 refine au 36 ((.int .i64 (((p+1)/2:Nat):Int))) rfl ((congrArg (Value.int .i64) ag)) (go ?_)
 refine lj zr zr zr ag ag (by simp only[gq];omega) ?_
 refine au 38 ((.int .i64 ((q/2:Nat):Int))) rfl ((congrArg (Value.int .i64) ag)) (go ?_)
 refine aM ih ((p+1)/2,q/2,c2) rfl ⟨by simp only;omega,by simp only;omega,by simp only;omega,h5⟩ (by simp only;omega) cg ah
end Go.Proofs.YtedjnjkijiddlaaGreatDoor
namespace Go.Proofs.YtedjnjkijiddlaaGreatDoor
open Go Go.SL
def CL(f n i:Nat)(x:Dg)(p:List Dg)(h:n≤1):fk f n i x p=x:=by
 cases f with
 | zero=>rfl
 | succ f=>unfold fk;rw[if_pos h]
attribute [local irreducible] J K aE Ends ae aB aP bP bq aS aZ bu bX Sha.chunks Sha.chunk Sha.rounds Sha.sched dK cm cQ e8
def Mv(X:HP)(root leaf:Dg)(n i:Int)(pv:Value)(proof:List Dg)(hp:As X pv proof) :
  aE Tryz.prog 59 [dV root,.int .i64 n,.int .i64 i,dV leaf,pv] [X] (fun r H=>r = .bool (gb root n i leaf proof)∧H=[X]):=by
 have zX:=hp
 obtain⟨hv,a,c,rfl,hc⟩:=hp
 unfold dV
 refine aE.ao Tryz.func59 Tryz.ntmps59 fun G F R hE=>?_
 refine aD rfl ?_
 refine bG zr zr bD ?_
 intro b5
 refine bG zr zr bD ?_
 intro b8
 by_cases kC:1≤n∧n≤1024∧0≤i∧i<n
 case neg =>
  have X8:gb root n i leaf proof=false:=by
   unfold gb
   exact decide_eq_false fun h=>kC h.1
  rw[X8]at hE
  repeat'(first|(with_reducible intro pM)|refine gy ?_|refine ie zr zr zr zr ?_ ?_|fail)
  all_goals(first|(exfalso;omega)|skip)
  all_goals(
   refine go ?_
   refine ai (H':=X::F) ah ?_
   ((refine ad hE Tryz.func59 zr zr ⟨rfl,rfl⟩)))
 obtain⟨m,rfl⟩:∃k:Nat,n=k:=⟨n.toNat,ag⟩
 obtain⟨k,rfl⟩:∃k:Nat,i=k:=⟨i.toNat,ag⟩
 have hd:dx (m:Int) (k:Int)=eP m m k:=by unfold dx;rw[if_pos kC];rfl
 refine go ?_
 refine au 15 ((.bool false)) rfl ((congrArg Value.bool (decide_eq_false ag))) (go ?_)
 refine au 19 ((.bool false)) rfl ((congrArg Value.bool (decide_eq_false ag))) (go ?_)
 refine au 23 ((.bool false)) rfl ((congrArg Value.bool (decide_eq_false ag))) (go ?_)
 refine au 28 ((.bool false)) rfl ((congrArg Value.bool (decide_eq_false ag))) (go ?_)
 refine aJ (Mo (m:Int) (k:Int)) ?_
 refine go ?_
 by_cases nV:proof.length=dx (m:Int) (k:Int)
 case neg =>
  have X8:gb root (m:Int) (k:Int) leaf proof=false:=by
   unfold gb
   exact decide_eq_false fun h=>nV h.2.1
  rw[X8]at hE
  ((refine aX 35 ((.bool true)) rfl ((congrArg Value.bool (by simp;omega))) ?_))
  refine go ?_
  refine ai (H':=X::F) ah ?_
  refine ad hE Tryz.func59 zr zr ⟨rfl,rfl⟩
 have Tv:gb root (m:Int) (k:Int) leaf proof=decide (fk m m k leaf proof=root):=by
  unfold gb
  refine decide_eq_decide.2 ⟨fun h=>h.2.2,fun h=>⟨kC,nV,h⟩⟩
 rw[Tv]at hE
 ((refine aX 35 ((.bool false)) rfl ((congrArg Value.bool (by simp;omega))) ?_))
 refine go ?_
 refine aG (U:=aQ) (l:=dC leaf) 0 zr zr zr zr zr zr (go ?_)
 refine az zr zr zr bD ?_
 intro TK
 refine aT ?_
 refine ct (U:=aQ) (l':=dC leaf) 0 gB rfl rfl rfl rfl (by intro e;cases e) (by rw[dG];exact gO _) rfl rfl rfl ?_
 refine go ?_
 refine bB (fun g:Nat × Nat × Dg × List Dg × Option Addr × Nat=>1≤g.1∧g.1≤m∧g.2.1<g.1∧g.2.2.2.1.length=eP m g.1 g.2.1∧fk m g.1 g.2.1 g.2.2.1 g.2.2.2.1=fk m m k leaf proof∧As X (.slice g.2.2.2.2.1 g.2.2.2.1.length g.2.2.2.2.2) g.2.2.2.1) (fun g=>g.1)
  (fun g=>[(1,.int .i64 (g.1:Int)),(2,.int .i64 (g.2.1:Int)),(5,ptr b5),(11,ptr TK),(12,.slice g.2.2.2.2.1 g.2.2.2.1.length g.2.2.2.2.2)])
  (fun g=>X::ae b5 (cl (dC root) 35)::ae TK (cl (dC g.2.2.1) 35)::F) (m,k,leaf,proof,a,c) ⟨by simp only;omega,Nat.le_refl _,by simp only;omega,by rw[nV,hd],rfl,zX⟩ rfl cg ah ?_
 rintro⟨p,q,x,rest,ra,rc⟩⟨h1,h2,h3,h4,h5,h6⟩ ih
 simp only at h1 h2 h3 h4 h5 h6
 dsimp only
 refine go ?_
 refine aq zr zr ?_ ?_
 case' refine_2 =>
  intro hle
  rw[CL m p q x rest ag]at h5
  rw[← h5]at hE
  clear ih
  refine go ?_
  refine aG (U:=aQ) (l:=dC x) 2 zr zr zr zr zr zr (go ?_)
  refine aG (U:=aQ) (l:=dC root) 1 zr zr zr zr zr zr (go ?_)
  refine kT (b:=decide (x=root)) zr zr zr HF (fun w=>HO x root w) ?_
  refine go ?_
  refine ai (H':=X::F) ah ?_
  refine ad hE Tryz.func59 zr zr ⟨rfl,rfl⟩
 intro MG
 have cK:=v7 m p q h2 ag
 have j7:=Fk m p q x rest h2 ag
 refine fL rfl ?_
 refine sl 2 (fun g:Dg × List Dg × Option Addr × Nat=>g.2.1.length=eP m ((p+1)/2) (q/2)∧fk m ((p+1)/2) (q/2) g.1 g.2.1=fk m m k leaf proof∧As X (.slice g.2.2.1 g.2.1.length g.2.2.2) g.2.1) (fun g=>[(1,.int .i64 (p:Int)),(2,.int .i64 (q:Int)),(5,ptr b5),(11,ptr TK),(12,.slice g.2.2.1 g.2.1.length g.2.2.2)]) (fun g=>X::ae b5 (cl (dC root) 35)::ae TK (cl (dC g.1) 35)::F) rfl ?_ ?_
 rotate_left
 ·intro tail
  refine go ?_
  refine mI zr zr zr ag ag ?_
  by_cases sM:q%2=1
  ·have hs:dt p q=some (q-1):=by unfold dt;rw[if_pos sM]
   rw[hs]at cK j7
   simp only[Option.isSome_some,if_true]at cK j7
   rw[if_pos ag]at j7
   obtain⟨p0,rest,rfl⟩:∃p0 r,rest=p0::r:=by
    cases rest with
    | nil=>rw[List.length_nil]at h4;exfalso;omega
    | cons p0 r=>exact⟨p0,r,rfl⟩
   simp only[List.headD_cons,List.tail_cons]at j7
   rw[List.length_cons]at h4
   obtain⟨dE,a1,c1,EV,Bj⟩:=h6
   obtain⟨bb,oo,cc,he⟩:=dE.some (by rw[List.flatMap_cons];intro h;simp[dC]at h)
   simp only[Value.slice.injEq]at he
   obtain⟨rfl,-,rfl⟩:=he
   simp only[Value.slice.injEq,true_and]at EV
   obtain⟨rfl,rfl⟩:=EV
   have rF:=As.tail ⟨dE,_,_,rfl,Bj⟩
   have fA:∀(q':Nat) (v:Value),(dC p0)[q']?=some v→((p0::rest).flatMap dC)[0+q']?=some v:=fun q' v hq=>by
    rw[Nat.zero_add,List.flatMap_cons,List.getElem?_append_left (List.getElem?_eq_some_iff.1 hq).1];exact hq
   refine au 41 ((.int .i64 1)) rfl ((congrArg (Value.int .i64) ag)) ?_
   refine ld ?_
   refine px zr zr ?_
   refine fL rfl ?_
   refine aF (fun w=>Sat G w ([ae TK (cl (dC x) 35),X])) (cZ 0 4 (.act 4 (.act 5 .nil))) rfl ak ak ak dT ?_
   (repeat(first|refine gy ?_|refine cL 0 32 zr zr zr zr zr zr zr zr (by simp) ?_|refine bQ (U:=aQ) (l:=dC x) 0 zr zr zr zr zr zr ?_|(refine aK ?_;refine fq (U:=aQ) (es:=dC p0) 1 0 zr zr zr dE rfl fA zr zr zr ?_)))
   refine bo (zE p0 x) ?_
   refine aT ?_
   refine ct (U:=aQ) (l':=dC (e8 p0 x)) 2 gB rfl rfl rfl rfl (by intro e;cases e) (by rw[dG];exact gO _) rfl rfl rfl ?_
   refine go ?_
   refine bh (p:=1) (q:=((p0::rest).length:Int)) zr zr zr zr zr zr zr ag (by simp only[List.length_cons];omega) (.inl rfl) ?_
   ((refine au 49 ((.slice (sliceAt (some ⟨bb,oo,none⟩) rc 1 32) rest.length (rc-1))) rfl ((by rw[show((p0::rest).length:Int).toNat=rest.length+1 from by simp[List.length_cons],show(1:Int).toNat=1 from rfl,show rest.length+1-1=rest.length by omega];rfl)) ?_))
   refine ld ?_
   refine lh tail (e8 p0 x,rest,sliceAt (some ⟨bb,oo,none⟩) rc 1 32,rc-1) rfl ⟨by simp only;omega,by rw[← h5,j7],rF⟩ cg ah
  ·refine au 41 ((.int .i64 0)) rfl ((congrArg (Value.int .i64) ag)) ?_
   refine ld ?_
   refine ix zr zr ?_
   by_cases ve:q+1<p
   ·have hs:dt p q=some (q+1):=by unfold dt;rw[if_neg sM,if_pos ve]
    rw[hs]at cK j7
    simp only[Option.isSome_some,if_true]at cK j7
    rw[if_neg ag]at j7
    obtain⟨p0,rest,rfl⟩:∃p0 r,rest=p0::r:=by
     cases rest with
     | nil=>rw[List.length_nil]at h4;exfalso;omega
     | cons p0 r=>exact⟨p0,r,rfl⟩
    simp only[List.headD_cons,List.tail_cons]at j7
    rw[List.length_cons]at h4
    obtain⟨dE,a1,c1,EV,Bj⟩:=h6
    obtain⟨bb,oo,cc,he⟩:=dE.some (by rw[List.flatMap_cons];intro h;simp[dC]at h)
    simp only[Value.slice.injEq]at he
    obtain⟨rfl,-,rfl⟩:=he
    simp only[Value.slice.injEq,true_and]at EV
    obtain⟨rfl,rfl⟩:=EV
    have rF:=As.tail ⟨dE,_,_,rfl,Bj⟩
    have fA:∀(q':Nat) (v:Value),(dC p0)[q']?=some v→((p0::rest).flatMap dC)[0+q']?=some v:=fun q' v hq=>by
     rw[Nat.zero_add,List.flatMap_cons,List.getElem?_append_left (List.getElem?_eq_some_iff.1 hq).1];exact hq
    (refine aD rfl ?_;refine ld ?_)
    refine aX 53 ((.bool true)) rfl ((congrArg Value.bool (decide_eq_true ag))) ?_
    refine px zr zr ?_
    refine fL rfl ?_
    refine aF (fun w=>Sat G w ([ae TK (cl (dC x) 35),X])) (cZ 0 4 (.act 4 (.act 5 .nil))) rfl ak ak ak dT ?_
    (repeat(first|refine gy ?_|refine cL 0 32 zr zr zr zr zr zr zr zr (by simp) ?_|refine bQ (U:=aQ) (l:=dC x) 0 zr zr zr zr zr zr ?_|(refine aK ?_;refine fq (U:=aQ) (es:=dC p0) 1 0 zr zr zr dE rfl fA zr zr zr ?_)))
    refine bo (zE x p0) ?_
    refine aT ?_
    refine ct (U:=aQ) (l':=dC (e8 x p0)) 2 gB rfl rfl rfl rfl (by intro e;cases e) (by rw[dG];exact gO _) rfl rfl rfl ?_
    refine go ?_
    refine bh (p:=1) (q:=((p0::rest).length:Int)) zr zr zr zr zr zr zr ag (by simp only[List.length_cons];omega) (.inl rfl) ?_
    ((refine au 60 ((.slice (sliceAt (some ⟨bb,oo,none⟩) rc 1 32) rest.length (rc-1))) rfl ((by rw[show((p0::rest).length:Int).toNat=rest.length+1 from by simp[List.length_cons],show(1:Int).toNat=1 from rfl,show rest.length+1-1=rest.length by omega];rfl)) ?_))
    refine ld ?_
    refine lh tail (e8 x p0,rest,sliceAt (some ⟨bb,oo,none⟩) rc 1 32,rc-1) rfl ⟨by simp only;omega,by rw[← h5,j7],rF⟩ cg ah
   ·have hs:dt p q=none:=by unfold dt;rw[if_neg sM,if_neg ve]
    rw[hs]at cK j7
    simp only[Option.isSome_none]at cK j7
    (refine aD rfl ?_;refine ld ?_)
    refine aX 53 ((.bool false)) rfl ((congrArg Value.bool (decide_eq_false ag))) ?_
    refine ix zr zr ?_
    refine lh tail (x,rest,ra,rc) rfl ⟨by simp only;simp at cK;omega,by rw[← h5,j7],h6⟩ cg ah
 rintro⟨z,r2,ra2,rc2⟩⟨g1,g2,g3⟩
 simp only at g1 g2 g3
 dsimp only
 refine go ?_
 refine lj zr zr zr ag ag (by simp only[gq];omega) ?_
 refine au 63 ((.int .i64 (((p+1)/2:Nat):Int))) rfl ((congrArg (Value.int .i64) ag)) (go ?_)
 refine lj zr zr zr ag ag (by simp only[gq];omega) ?_
 refine au 65 ((.int .i64 ((q/2:Nat):Int))) rfl ((congrArg (Value.int .i64) ag)) (go ?_)
 refine aM ih ((p+1)/2,q/2,z,r2,ra2,rc2) rfl ⟨by simp only;omega,by simp only;omega,by simp only;omega,g1,g2,g3⟩ (by simp only;omega) cg ah
def L4(X:HP)(x:Bl)(i:Int)(bv:Value)(b:List UInt8)(hb:eM X bv b)(iC:b.length≤900000000)(pv:Value)(p:List Dg)(hp:As X pv p) :
  aE Tryz.prog 20 [eL x,.int .i64 i,bv,pv] [X] (fun r H=>r = .bool (cd x i b p)∧H=[X]):=by
 have rj:=hb
 have zX:=hp
 obtain⟨ba,bc,rfl,MK⟩:=hb.2
 obtain⟨S9,pa,pc,rfl,tj⟩:=hp
 have e7:=uk x i
 have hcn:=rB x
 have hlf:=FE X _ b rj iC
 have Tu:=Mv X x.root (cQ b) (bO x) i _ p zX
 unfold eL at e7 hcn ⊢
 refine aE.ao Tryz.func20 Tryz.ntmps20 fun G F R hE=>?_
 refine aD rfl ?_
 refine bG zr zr bD ?_
 intro b4
 refine go ?_
 refine aG (U:=aQ) (l:=bH x) 0 zr zr zr zr zr zr (go ?_)
 unfold cd at hE
 cases hs:cC x i with
 | none =>
  rw[hs]at e7 hE
  dsimp only at e7 hE
  refine aJ e7 ?_
  refine go ?_
  refine aF (fun w=>Sat G w ([ae b4 (cl (bH x) 37),X])) (cZ 0 12 (.st 13 (.st 14 (.st 16 (.act 12 (.act 15 (.act 17 (.st 18 (.st 19 .nil))))))))) rfl ak ak ak dT ?_
  refine go ?_
  refine ai (H':=X::F) ah ?_
  refine ad hE Tryz.func20 zr zr ⟨rfl,rfl⟩
 | some an =>
 obtain⟨a,n⟩:=an
 rw[hs]at e7 hE
 dsimp only at e7 hE
 refine aJ e7 ?_
 refine go ?_
 refine aF (fun w=>Sat G w ([ae b4 (cl (bH x) 37),X])) (cZ 0 12 (.st 13 (.st 14 (.st 16 (.act 12 (.act 15 (.act 17 (.st 18 (.st 19 .nil))))))))) rfl ak ak ak dT ?_
 refine go ?_
 by_cases hl:(b.length:Int)=n
 case neg =>
  rw[decide_eq_false hl,Bool.false_and]at hE
  refine au 27 ((.bool false)) rfl ((congrArg Value.bool (decide_eq_false hl))) (go ?_)
  refine ai (H':=X::F) ah ?_
  refine ad hE Tryz.func20 zr zr ⟨rfl,rfl⟩
 rw[decide_eq_true hl,Bool.true_and]at hE
 refine au 27 ((.bool true)) rfl ((congrArg Value.bool (decide_eq_true hl))) ?_
 (repeat(first|refine gy ?_|refine cf (U:=aQ) 0 zr zr zr zr zr zr ?_))
 refine bo hcn ?_
 refine go ?_
 refine bo hlf ?_
 refine go ?_
 refine bo Tu ?_
 refine go ?_
 refine ai (H':=X::F) ah ?_
 refine ad hE Tryz.func20 zr zr ⟨rfl,rfl⟩
end Go.Proofs.YtedjnjkijiddlaaGreatDoor
namespace Go.Proofs.YtedjnjkijiddlaaGreatDoor
open Go Go.SL
attribute [local irreducible] J K aE Ends ae aB aP bP bq aS aZ bu bX Sha.chunks Sha.chunk Sha.rounds Sha.sched dK cm GI cQ aC
def tE(A:Ab)(d:Dg)(at_ n:Int):List UInt8 × Nat:=if qp A (df kB d)then A.read (df kB d) at_ n else([],4)
def L2(bs bd:Nat)(q:Int)(mb:Nat)(brk:Bool)(A:Ab)(d:Dg)(at_ n:Int):aE Tryz.prog 23 [ptr bs,dV d,.int .i64 at_,.int .i64 n] [ae bs (cl (ei bd q mb brk) 123),aC bd A]
  (fun r H=>∃rv,r = .tuple #[rv,.int .i64 ((tE A d at_ n).2:Int)]∧H=[aB 5 1 rv (tE A d at_ n).1.length (bV (tE A d at_ n).1),ae bs (cl (ei bd q mb brk) 123),aC bd A]):=by
 have hf:=mw kB d (by decide)
 have rJ:=JX bs bd q mb brk A d
 unfold dV at hf rJ ⊢
 refine aE.ao Tryz.func23 Tryz.ntmps23 fun G F R hE=>?_
 refine aD rfl ?_
 refine bG zr zr bD ?_
 intro b5
 refine go ?_
 refine aG (U:=aQ) (l:=dC d) 0 zr zr zr zr zr zr ?_
 refine aJ rJ ?_
 cases hh:qp A (df kB d)with
 | false =>
  have h1:tE A d at_ n=([],4):=by unfold tE;rw[hh];rfl
  rw[h1]at hE
  refine go ?_
  refine ai (bN 5 1 none _) ?_
  refine ad hE Tryz.func23 zr zr ⟨_,rfl,rfl⟩
 | true =>
  have h1:tE A d at_ n=A.read (df kB d) at_ n:=by unfold tE;rw[hh];rfl
  rw[h1]at hE
  have rY:=xq bd A (df kB d) at_ n
  refine go ?_
  refine aF (fun w=>Sat G w ([ae b5 (cl (dC d) 35),ae bs (cl (ei bd q mb brk) 123)])) (cZ 0 5 (.st 6 (.st 7 (.act 5 (.act 8 (cZ 9 4 .nil)))))) rfl ak ak ak dT ?_
  refine go ?_
  refine bQ (U:=aQ) (l:=dC d) 0 zr zr zr zr zr zr (go ?_)
  refine bo hf ?_
  refine go ?_
  ((refine gD zr zr zr zr (rY) ah ?_ (fun _ _ w hp hw=>by obtain⟨r,rfl,rfl⟩:=hp;exact hw.cV ah)))
  rintro _ _⟨r,rfl,rfl⟩
  refine go ?_
  refine ad hE Tryz.func23 zr zr ⟨_,rfl,rfl⟩
end Go.Proofs.YtedjnjkijiddlaaGreatDoor
namespace Go.SL
open Go Go.RowKit Go.ChangeShapes Go.WideShapes
def iV(l:List Int):List Value:=l.map (Value.int .i64)
abbrev i64(x:Int):Prop := -9223372036854775808≤x∧x≤9223372036854775807
def NU{H:Type}{enc:TypeId × Value→H}{P:Program}{W:World}{base:Nat}{spare:Nat→Bool}{held:Bool}{fuel:Nat}{t e:TypeId}{a:Option Addr}{len cap:Nat}{d:DataW H}{p:List MemPlace}(ht:P.underlying t=some (.slice e))(h:DataW.trod enc P W base spare held fuel t [.slice a len cap]=some (d,p)) :
  len=0∨∃el sp,d = .slice el sp∧el.length=len:=by
 rcases Go.Deep.open_slice ht h with⟨j7,_⟩|⟨a',aer,gM,m,n,D,Pl,j7,hb,hl,hm,hmm,hx,_⟩
 ·simp only[List.cons.injEq,Value.slice.injEq,and_true]at j7;exact .inl j7.2.1
 ·simp only[List.cons.injEq,Value.slice.injEq,and_true]at j7
  simp only[Prod.mk.injEq]at hx
  exact .inr ⟨_,_,hx.1,by simp[j7.2.1]⟩
def KF{P:Program}{H:Type}{enc:TypeId × Value→H}{W:World}{base:Nat}{spare:Nat→Bool}{held:Bool}{fuel n:Nat}{t e:TypeId}{cs:Array Value}{x:DataW H × List MemPlace}(ht:P.underlying t=some (.array n e))(he:P.underlying e=some (.int .i64))(hc:P.cellsOf e=1)(xh:P.cellsOf t=n)(h:DataW.trod enc P W base spare held fuel t (Value.agg cs).cells.toList=some x) :
  ∃l:List Int,l.length=n∧cs=(iV l).toArray∧∀x∈l,i64 x:=by
 obtain⟨xs,m,_,_,hlen,ME,hf⟩:=DataW.trod_array ht h
 rw[xh]at hlen
 obtain⟨l,rfl⟩:∃l:List Value,cs=l.toArray:=⟨cs.toList,by simp⟩
 simp only[Value.cells]at hlen hf
 have key:∀i,i<n→∃z:Int,l[i]?=some (.int .i64 z)∧i64 z:=fun i hi=>by
  have h1:=hf i hi
  obtain⟨y,hy⟩:∃y,xs[i]?=some y:=⟨xs[i]' (by rw[ME];exact hi),by simp⟩
  rw[hy,hc,Nat.mul_one]at h1
  obtain⟨z,r,_,w⟩:=DataW.trod_int he h1
  refine⟨z,?_,A8 w⟩
  have:=congrArg (fun l:List Value=>l[0]?) r
  simpa using this
 refine⟨(List.range n).map fun i=>match l[i]? with|Option.some (Value.int _ z)=>z|_=>0,by simp,?_,?_⟩
 ·congr 1
  apply List.ext_getElem?
  intro i
  rcases Nat.lt_or_ge i n with hi|hi
  ·obtain⟨z,hz,_⟩:=key i hi
   simp[iV,hi,hz]
  ·rw[List.getElem?_eq_none (by simpa using hlen ▸ hi),List.getElem?_eq_none (by simp[iV];exact hi)]
 ·intro x hx
  obtain⟨i,hi,rfl⟩:=List.mem_map.1 hx
  obtain⟨z,hz,hr⟩:=key i (by simpa using hi)
  rw[hz];exact hr
section
variable{P:Program}{H:Type}{enc:TypeId × Value→H}{W:World}{base:Nat}{spare:Nat→Bool}{held:Bool}
def KE{α:Type}[Inhabited α]{t e:TypeId}(ht:P.underlying t=some (.slice e))(g:α→List Value)(s:Nat)(Y2:0<s)(hs:∀x,(g x).length=s)(hc:P.cellsOf e=s)(Q:α→Prop)(k6:∀(fuel:Nat) (cs:List Value) (x:DataW H × List MemPlace),DataW.trod enc P W base spare held fuel e cs=some x→∃y,cs=g y∧Q y){fuel:Nat}{cs:List Value}{x:DataW H × List MemPlace}(h:DataW.trod enc P W base spare held fuel t cs=some x):∃(l:List α) (a:Option Addr) (c:Nat),cs=[.slice a l.length c]∧Vw (old W) (.slice a l.length c) l.length (l.flatMap g)∧(∀x∈l,Q x)∧l.length≤9223372036854775807:=by
 have hmx:maxLen=9223372036854775807:=by decide
 rcases Go.Deep.open_slice ht h with⟨j7,_⟩|⟨a,len,cap,m,n,D,Pl,j7,hb,hl,hm,hmm,_,hx⟩
 ·subst j7
  exact⟨[],none,0,rfl,⟨none,0,rfl,.inl rfl⟩,by simp,by simp⟩
 ·subst j7
  have Bb:len≤m:=by rw[hmm];split <;> omega
  have rE:∀i,i<len→∃y:α,(∀k,k<s→W.cell? (a.add (i*s+k))=(g y)[k]?)∧Q y:=fun i hi=>by
   obtain⟨j9,h1,h2⟩:=hx i ag
   obtain⟨y,rfl,hy⟩:=k6 _ _ _ h2
   rw[hc]at h1
   obtain⟨_,_,h3⟩:=World.cells?_some h1
   refine⟨y,fun k hk=>?_,hy⟩
   rw[← h3 k hk,Addr.add_add]
  obtain⟨f,hfy⟩:=Go.Deep.choose_lt rE
  refine⟨(List.range len).map f,some a,cap,by simp,⟨some a,cap,by simp,?_⟩,?_,by simp;omega⟩
  ·rcases Nat.eq_zero_or_pos len with h0|h0
   ·left;subst h0;simp
   ·right
    obtain⟨b,o,spot⟩:=a
    have e7:spot=none:=by
     have:=(hfy 0 h0).1 0 Y2
     rw[Nat.zero_mul,Nat.zero_add,List.getElem?_eq_getElem (by rw[hs];exact Y2)]at this
     simpa[Addr.add]using World.cell?_spot (this.trans rfl)
    subst e7
    refine⟨b,o,rfl,fun h ho j c hj=>?_⟩
    have wK:j<len*s:=by
     rcases Nat.lt_or_ge j (len*s)with h|h
     ·exact h
     ·rw[List.getElem?_eq_none (by rw[cI hs];simpa using h)]at hj;cases hj
    have hd:j/s<len:=Nat.div_lt_of_lt_mul (by rw[Nat.mul_comm];exact wK)
    have hk:j%s<s:=Nat.mod_lt _ Y2
    have hjj:j/s*s+j%s=j:=by rw[Nat.mul_comm];exact Nat.div_add_mod _ _
    have h1:=cR hs (l:=(List.range len).map f) (i:=j/s) (x:=f (j/s)) (by simp[hd]) (j%s) hk
    rw[hjj,hj]at h1
    have h2:=(hfy _ hd).1 _ hk
    rw[hjj,Addr.add_eq]at h2
    exact nu ho (h2.trans h1.symm)
  ·intro x hx
   obtain⟨i,hi,rfl⟩:=List.mem_map.1 hx
   exact(hfy i (by simpa using hi)).2
end
end Go.SL
namespace Go.Proofs.YtedjnjkijiddlaaGreatDoor
open Go Go.SL
def SO(x:Int × Int):List Value:=[.int .i64 x.1,.int .i64 x.2]
def wX(x:Int × Int):(SO x).length=2:=rfl
def GO{A:Ab}{d:Dg}{a:List UInt8}(h:HA A)(hv:vw A (oF d)=some a):tE A d 0 (a.length:Int)=(a,0):=by
 have S0:vw A (df kB d)=some a:=hv
 unfold tE
 rw[lM,S0,Option.isSome_some,if_pos rfl,B7 h S0 (Int.le_refl 0) ag ag]
 simp
def QM(p:Int):∃t:UInt8,Value.int .u8 (IntKind.u8.wrap p)=u8 t∧(p=0→t=0):=by
 by_cases h:p=0
 ·subst h
  exact⟨0,rfl,fun _=>rfl⟩
 ·have h1:0≤IntKind.u8.wrap p∧IntKind.u8.wrap p<256:=by
   unfold IntKind.wrap
   simp[IntKind.bits,IntKind.signed]
   omega
  obtain⟨t,ht⟩:=J5 h1.1 h1.2
  exact⟨t,ht,fun h0=>absurd h0 h⟩
structure TkS where
 i:Nat
 s:SJ
 z:Tk
 bs:Nat
 mb:Nat
 tb:Nat
 jb:Nat
 tv:Value
attribute [local irreducible] J K aE Ends ae aB aP bP bq aS aZ bu bX Sha.chunks Sha.chunk Sha.rounds Sha.sched dK cm GI cQ e8 eu cM cT aC cG aW o7
def LX(X:HP)(hK:oG X)(v:Value)(a:List UInt8)(ha:eM X v a)(O9:a.length≤9223372036854775807)(piece:Int)(Y7:SL.i64 piece)(ov:Value)(ord:List (Int × Int))(hp:Vw X ov ord.length (ord.flatMap SO))(QA:ord.length≤1000000000000000)(hor:∀x∈ord,SL.i64 x.1∧SL.i64 x.2) :
    aE Tryz.prog 4 [v,.int .i64 piece,ov] [X] (fun r H=>r = .bool true∧H=[X]):=by
  have Zj:=ha
  have zX:=hp
  obtain⟨aa,ac,rfl,hac⟩:=ha.2
  obtain⟨oa,oc,rfl⟩:=hp.shape
  refine aE.ao Tryz.func4 Tryz.ntmps4 fun G F R hE=>?_
  refine go ?_
  refine aJ (LL X hK) ?_
  refine go ?_
  refine aH (Ij 16777216 ag ag) ?_
  rintro _ _⟨bd,rfl,rfl⟩
  refine go ?_
  refine aq zr zr ?_ ?_
  · intro h5
    refine go ?_
    refine ai (H':=X::F) ah ?_
    refine ad hE Tryz.func4 zr zr ⟨rfl,rfl⟩
  intro h5
  refine go ?_
  refine bG zr zr bD ?_
  intro wb
  refine go ?_
  ((refine aH (uO X hK wb bd (.pointer none) (.pointer none) 1048576 ag (Ab.new 16777216) rfl (by show 1≤_;omega) (E9 (HA.new _) rfl (by show 0≤_;omega))) ?_))
  rintro _ _⟨e0,t0,JD,hW,rfl,hz,-⟩
  obtain⟨rfl,rfl,lJ,TB⟩:=oB.first hW
  obtain⟨bs,mb,tb,jb,tv,ts,xh,rfl⟩:=hz rfl
  have pE:=JA xh
  subst pE
  unfold eh
  refine go ?_
  have iC:=zR X _ a Zj ag piece
  cases hx:eu a piece with
  | none =>
    rw[hx]at iC
    dsimp only at iC
    unfold eL at iC
    refine aJ iC ?_
    refine go ?_
    refine az zr zr zr bD ?_
    intro wN
    refine go ?_
    refine ai (H':=X::F) ah ?_
    refine ad hE Tryz.func4 zr zr ⟨rfl,rfl⟩
  | some x =>
  obtain⟨hr,iB,tj,SY⟩:=ru hx
  rw[hx]at iC
  dsimp only at iC
  unfold eL at iC
  refine aJ iC ?_
  refine go ?_
  refine az zr zr zr bD ?_
  intro wN
  refine go ?_
  obtain⟨b1,b2,b3,b4,b5,b6,b7,b8⟩:=TB.bnd ag ag
  have Qx:=dp hr
  have uI:=zS tb bs jb bd tv 1048576 ag mb [] false t0 x (by simp) ag ag b6 ag ag 10000 ag (fun t h=>TB.sq ag ag h.2 ((ll h.1).mono ag))
  unfold eh eL at uI
  refine aF (fun w=>Sat G w ([ae wb (cl [ptr bd,ptr bs,ptr tb] 32),ae wN (cl (bH x) 37),X])) (cZ 0 5 (.act 5 (.st 6 .nil))) rfl ak ak ak dT ?_
  refine go ?_
  refine bQ (U:=aQ) (l:=bH x) 1 zr zr zr zr zr zr (go ?_)
  refine cN uI ?_
  rintro _ _⟨e1,ts1,YY,br1,t1,rfl,rfl,R1⟩
  obtain⟨rfl,rfl,y,rfl,hC1,Pc,jI,acY⟩:=acn (a:=a) hr ag TB lJ R1
  clear uI R1
  obtain⟨m1,m2,m3,m4,m5,m6,m7⟩:=Pc.mem hC1
  obtain⟨n,hn⟩:∃n,n=y.n:=⟨_,rfl⟩
  refine go ?_
  refine aG (U:=aQ) (l:=bH x) 4 zr zr zr zr zr zr (go ?_)
  have Ll:=rB x
  unfold eL at Ll
  refine aJ Ll ?_
  rw[← m3,← hn]
  refine go ?_
  refine bB (fun g:TkS=>g.i≤120∧g.z.n=n∧oB 3 65 (120+20*(g.i%5)) (65+g.i%5) g.s [g.z]∧kf a x g.s g.z∧(ord.length≤60→∀l:Nat,ord.length+l<g.i→cy g.z.ws n (l:Int)=true)) (fun g=>120-g.i)
    (fun g=>[(0,.slice aa a.length ac),(1,.int .i64 piece),(2,.slice oa ord.length oc),(8,ptr bd),(10,ptr wb),(12,ptr wN),(14,.int .i64 0),(15,.int .i64 (n:Int)),(16,.int .i64 (g.i:Int))])
    (fun g=>X::ae wN (cl (bH x) 37)::ae wb (cl [ptr bd,ptr g.bs,ptr g.tb] 32)::ae g.tb (cl [ptr g.bs,ptr g.jb,g.tv,.bool false] 88)::aB 90 1 g.tv 1 ([g.z].map cB)::aW [g.z]::cG g.bs bd g.jb 1048576 g.mb [] g.s::F) ⟨0,t1,y,bs,mb,tb,jb,YY⟩
    ⟨Nat.zero_le _,hn.symm,⟨hC1.cs.mono ag ag ag,hC1.cj.mono ag⟩,Pc,fun _ l hl=>absurd hl (Nat.not_lt_zero _)⟩ rfl cg ah ?_
  have aeE:n≤64:=by omega
  clear hC1 Pc jI m4 m5 TB b1 b2 b3 b4 b5 b6 b7 b8 hW hz acY
  rintro⟨i,s,z,bs,mb,tb,jb,tv⟩⟨hi,hzn,hC,hO,fH⟩ ih
  simp only at hi hzn hC hO fH
  dsimp only
  refine go ?_
  by_cases iK:i<ord.length+n∧i<120
  case neg =>
    obtain⟨m1,m2,m3,m4,m5,m6,m7⟩:=hO.mem hC
    obtain⟨c1,c2,c3,c4,c5,c6,c7,c8⟩:=hC.bnd ag ag
    have XJ:=wm tb bs jb tv false [z] x (by simp) c2 c4
    rw[kf.find hO.xb]at XJ
    have RO:=FR X hK tb bs jb bd tv 1048576 mb [z] false s x ag c2 c4 ag ag 10000 ag (fun e t h=>hC.sq ag ag h.2 ((sm h.1).mono ag))
    unfold IY eh eL at XJ
    unfold eh eL at RO
    by_cases h1:i<ord.length+n
    case' pos =>
      refine au 96 ((.bool true)) rfl ((congrArg Value.bool (decide_eq_true ag))) (go ?_)
      refine aX 99 ((.bool false)) rfl ((congrArg Value.bool (decide_eq_false ag))) ?_
    case' neg =>
      refine au 96 ((.bool false)) rfl ((congrArg Value.bool (decide_eq_false ag))) ?_
    all_goals
      refine go ?_
      refine aF (fun w=>Sat G w ([ae wb (cl [ptr bd,ptr bs,ptr tb] 32),ae wN (cl (bH x) 37),X])) (cZ 0 5 (.act 5 (cZ 6 5 .nil))) rfl ak ak ak dT ?_
      refine go ?_
      refine bQ (U:=aQ) (l:=bH x) 1 zr zr zr zr zr zr (go ?_)
      refine bo XJ ?_
      refine go ?_
      by_cases hN:ord.length≤60
      case neg =>
        refine au 236 ((.bool true)) rfl ((congrArg Value.bool (decide_eq_true ag))) (go ?_)
        refine ai (H':=X::F) ah ?_
        refine ad hE Tryz.func4 zr zr ⟨rfl,rfl⟩
      refine au 236 ((.bool false)) rfl ((congrArg Value.bool (decide_eq_false ag))) (go ?_)
      by_cases hN2:n≤60
      case neg =>
        refine aX 239 ((.bool true)) rfl ((congrArg Value.bool (decide_eq_true ag))) (go ?_)
        refine ai (H':=X::F) ah ?_
        refine ad hE Tryz.func4 zr zr ⟨rfl,rfl⟩
      refine aX 239 ((.bool false)) rfl ((congrArg Value.bool (decide_eq_false ag))) ?_
      have ab0:∀l:Nat,l<z.n→cy z.ws z.n (l:Int)=true:=fun l hl=>by rw[hzn];exact fH hN l ag
      have yS:oh z.ws=z.n:=m5.all m6 m7 ab0
      refine go ?_
      refine aF (fun w=>Sat G w ([ae wb (cl [ptr bd,ptr bs,ptr tb] 32),ae wN (cl (bH x) 37),X])) (cZ 0 5 (.act 5 (.st 6 .nil))) rfl ak ak ak dT ?_
      refine go ?_
      refine bQ (U:=aQ) (l:=bH x) 1 zr zr zr zr zr zr (go ?_)
      refine cN RO ?_
      rintro _ _⟨ri,ed,QP,jB,t,rfl,rfl,hB⟩
      obtain⟨rfl,rfl,hC3,rfl,hvB⟩:=hO.done hC iB.symm SY ag ag ab0 hB
      have hrw:=GO hC3.cs.dq.ha hvB
      have rY:=L2 bs bd 1048576 mb t.1.brk t.1.A x.d 0 (a.length:Int)
      rw[hrw]at rY
      unfold dV at rY
      refine go ?_
      refine ai (H':=cG bs bd jb 1048576 mb [] t::X::ae wb (cl [ptr bd,ptr bs,ptr tb] 32)::ae wN (cl (bH x) 37)::ae tb (cl [ptr bs,ptr jb,QP,.bool false] 88)::aB 90 1 QP 0 []::aW []::F) ah ?_
      refine ai (Su _ _ _ _ _ _ _) ?_
      refine aF (fun w=>Sat G w ([ae wb (cl [ptr bd,ptr bs,ptr tb] 32),ae wN (cl (bH x) 37),X])) (cZ 0 8 (.act 8 (cZ 9 5 .nil))) rfl ak ak ak dT ?_
      (repeat(first|refine gy ?_|refine cf (U:=aQ) 1 zr zr zr zr zr zr ?_))
      ((refine gD zr zr zr zr (rY) ah ?_ (fun _ _ w hp hw=>by obtain⟨_,rfl,rfl⟩:=hp;exact hw.cV ah)))
      rintro _ _⟨rv,rfl,rfl⟩
      have O5:=Iy tb bs jb QP false [] (by simp)
      unfold eh at O5
      refine go ?_
      refine aI (H':=aB 5 1 rv a.length (bV a)::X::ae wb (cl [ptr bd,ptr bs,ptr tb] 32)::ae tb (cl [ptr bs,ptr jb,QP,.bool false] 88)::aB 90 1 QP 0 []::aW []::F) ah ?_
      refine iy 0 rfl ?_
      intro F'
      refine go ?_
      refine au 266 ((.bool true)) rfl ((congrArg Value.bool (decide_eq_true ag))) (go ?_)
      refine ox 0 zr zr zr zr zr zr zr zr zr F' (go ?_)
      refine ox 1 zr zr zr zr zr zr zr zr zr Zj.1 (go ?_)
      ((refine au 281 ((.bool true)) rfl ((congrArg Value.bool (by rw[n8];simp))) ?_))
      refine go ?_
      refine aH O5 ?_
      rintro r3 _ rfl
      refine aO 0 rfl ?_
      rintro ra3 rc3 rfl
      refine go ?_
      refine ai (H':=X::F) ah ?_
      refine ad hE Tryz.func4 zr zr ⟨rfl,rfl⟩
  obtain⟨RM,hi2⟩:=iK
  have hi5:i%5<5:=Nat.mod_lt _ ag
  refine au 96 ((.bool true)) rfl ((congrArg Value.bool (decide_eq_true ag))) (go ?_)
  refine aX 99 ((.bool true)) rfl ((congrArg Value.bool (decide_eq_true ag))) (go ?_)
  refine az zr zr zr bD ?_
  intro QI
  refine ld ?_
  refine fL rfl ?_
  refine sl 2 (fun q:Int × UInt8=>SL.i64 q.1∧(ord.length≤60→ord.length≤i→q.1=(i:Int)-ord.length∧q.2=0)) (fun q=>[(0,.slice aa a.length ac),(1,.int .i64 piece),(2,.slice oa ord.length oc),(8,ptr bd),(10,ptr wb),(12,ptr wN),(14,.int .i64 0),(15,.int .i64 (n:Int)),(16,.int .i64 (i:Int)),(17,ptr QI)]) (fun q=>ae QI (cl (nG ⟨0,aa,ac,a,piece,q.1,0,0,q.2,none,0,[]⟩) 46)::X::ae wN (cl (bH x) 37)::ae wb (cl [ptr bd,ptr bs,ptr tb] 32)::ae tb (cl [ptr bs,ptr jb,tv,.bool false] 88)::aB 90 1 tv 1 ([z].map cB)::aW [z]::cG bs bd jb 1048576 mb [] s::F) rfl ?_ ?_
  rotate_left
  · intro tail
    by_cases de:i<ord.length∧i<60
    · obtain⟨abp,XL⟩:=de
      obtain⟨pr,Hn⟩:∃y,ord[i]?=some y:=⟨ord[i],by simp⟩
      have adi:=hor _ (List.mem_of_getElem? Hn)
      have m0:(ord.flatMap SO)[i*2+0]?=some (.int .i64 pr.1):=(cR wX Hn 0 ag).trans rfl
      have m1:(ord.flatMap SO)[i*2+1]?=some (.int .i64 pr.2):=(cR wX Hn 1 ag).trans rfl
      obtain⟨pb,po,pcc,Qz⟩:=zX.some (by rw[← List.length_pos_iff,cI wX];omega)
      simp only[Value.slice.injEq,true_and]at Qz
      obtain⟨rfl,rfl⟩:=Qz
      obtain⟨t8,ht8,_⟩:=QM pr.2
      refine go ?_
      refine au 114 ((.bool true)) rfl ((congrArg Value.bool (decide_eq_true ag))) (go ?_)
      refine aX 117 ((.bool true)) rfl ((congrArg Value.bool (decide_eq_true ag))) (go ?_)
      refine cL i 2 zr zr zr zr zr zr zr zr abp ?_
      refine gp zr zr zr zr zr zr ag ag (go ?_)
      refine aK ?_
      refine bj 1 (i*2+0) zr zr zr zX (Nat.add_assoc _ _ _) m0 zr zr (go ?_)
      refine cL i 2 zr zr zr zr zr zr zr zr abp ?_
      refine gp zr zr zr zr zr zr ag ag (go ?_)
      refine aK ?_
      refine bj 1 (i*2+1) zr zr zr zX (Nat.add_assoc _ _ _) m1 zr zr (go ?_)
      refine ez ?_
      refine il zr zr zr zr zr zr ?_
      rw[ht8]
      refine ld ?_
      refine lh tail (pr.1,t8) rfl ⟨adi.1,fun h1 h2=>by omega⟩ cg ah
    · refine go ?_
      by_cases h1:i<ord.length
      · refine au 114 ((.bool true)) rfl ((congrArg Value.bool (decide_eq_true ag))) (go ?_)
        refine aX 117 ((.bool false)) rfl ((congrArg Value.bool (decide_eq_false ag))) ?_
        refine ld ?_
        refine ix zr zr ?_
        refine lh tail ((i:Int)-min (ord.length:Int) 60,(0:UInt8)) rfl ⟨⟨by simp only;omega,by simp only;omega⟩,fun h1 h2=>by simp only;omega⟩ cg ah
      · refine au 114 ((.bool false)) rfl ((congrArg Value.bool (decide_eq_false ag))) ?_
        refine ld ?_
        refine ix zr zr ?_
        refine lh tail ((i:Int)-min (ord.length:Int) 60,(0:UInt8)) rfl ⟨⟨by simp only;omega,by simp only;omega⟩,fun h1 h2=>⟨by simp only;omega,rfl⟩⟩ cg ah
  intro q ⟨Y5,S8⟩
  refine go ?_
  refine aG (U:=aQ) (l:=nG ⟨0,aa,ac,a,piece,q.1,0,0,q.2,none,0,[]⟩) 0 zr zr zr zr zr zr ?_
  obtain⟨b,p,hgE,hgl⟩:=HG (i:=q.1) (t:=q.2) hx
  have hgv:=Lt X ⟨0,aa,ac,a,piece,q.1,0,0,q.2,none,0,[]⟩ Zj (by show a.length≤1000000;omega)
  refine aH hgv ?_
  rintro _ _⟨bv,pv,rfl,rfl⟩
  rw[show YK.g ⟨0,aa,ac,a,piece,q.1,0,0,q.2,none,0,[]⟩=(x,b,p)from hgE]
  dsimp only
  unfold eL
  refine go ?_
  refine az zr zr zr bD ?_
  intro b18
  refine ld ?_
  refine dz 1 rfl ?_
  rintro ba bc rfl
  refine dz 2 rfl ?_
  rintro pa pc rfl
  refine ai (H':=aB 5 1 (.slice ba b.length bc) b.length (bV b)::aB 35 32 (.slice pa p.length pc) p.length (p.flatMap dC)::ae QI (cl (nG ⟨0,aa,ac,a,piece,q.1,0,0,q.2,none,0,[]⟩) 46)::X::ae wN (cl (bH x) 37)::ae wb (cl [ptr bd,ptr bs,ptr tb] 32)::ae tb (cl [ptr bs,ptr jb,tv,.bool false] 88)::aB 90 1 tv 1 ([z].map cB)::aW [z]::cG bs bd jb 1048576 mb [] s::F) ah ?_
  refine mH 0 rfl ?_
  intro MK
  refine dy 0 rfl ?_
  intro hbv
  refine mH 1 rfl ?_
  intro RD
  refine dy 1 rfl ?_
  intro S9
  obtain⟨Y,hY⟩:∃Y,Y=Sep [aB 5 1 (.slice ba b.length bc) b.length (bV b),aB 35 32 (.slice pa p.length pc) p.length (p.flatMap dC),X]:=⟨_,rfl⟩
  have hKY:oG Y:=hY ▸ hK.mono (bg (i:=2) rfl)
  have haY:eM Y (.slice aa a.length ac) a:=hY ▸ Zj.mono (bg (i:=2) rfl)
  have hbY:eM Y (.slice ba b.length bc) b:=hY ▸ eM.mono ⟨hbv,ba,bc,rfl,MK⟩ (bg (i:=0) rfl)
  have hpY:As Y (.slice pa p.length pc) p:=hY ▸ As.mono ⟨S9,pa,pc,rfl,RD⟩ (bg (i:=1) rfl)
  refine ai (al.pick [0,1,3] rfl) ?_
  refine ai (al.bS [aB 5 1 (.slice ba b.length bc) b.length (bV b),aB 35 32 (.slice pa p.length pc) p.length (p.flatMap dC),X] _) ?_
  rw[← hY]
  obtain⟨c1,c2,c3,c4,c5,c6,c7,c8⟩:=hC.bnd ag ag
  have hzm:z∈[z]:=by simp
  have hbt:=Mx tb bs jb tv false [z] x (by simp) c4
  rw[kf.find hO.xb]at hbt
  have wA:=FC Y hKY tb bs jb bd tv 1048576 mb [z] false s x q.1 Y5 _ b hbY ag _ p hpY ag c2 c3 ag ag 10000 ag (fun t u h1 h2=>hC.sq ag ag (h2.2.trans h1.2) (by
    have g1:=ot h1.1
    have g2:=sU h2.1
    have g11:=g1.1
    have g12:=g1.2
    have g21:=g2.1
    have g22:=g2.2
    exact⟨ag,ag⟩))
  have Hn:=L4 Y x q.1 _ b hbY ag _ p hpY
  have e7:=uk x q.1
  unfold TI eh at hbt
  unfold eh at wA
  unfold eL at hbt wA Hn e7
  refine go ?_
  refine aF (fun w=>Sat G w ([ae wb (cl [ptr bd,ptr bs,ptr tb] 32),ae wN (cl (bH x) 37),Y])) (cZ 0 5 (.act 5 (cZ 6 5 .nil))) rfl ak ak ak dT ?_
  refine go ?_
  refine bQ (U:=aQ) (l:=bH x) 1 zr zr zr zr zr zr (go ?_)
  refine cN hbt ?_
  rintro _ _⟨ob,obv,rfl,rfl⟩
  refine aI (H':=ae QI (cl (nG ⟨0,aa,ac,a,piece,q.1,0,0,q.2,none,0,[]⟩) 46)::(eQ ob z.n obv z.ws++(Y::ae wN (cl (bH x) 37)::ae wb (cl [ptr bd,ptr bs,ptr tb] 32)::ae tb (cl [ptr bs,ptr jb,tv,.bool false] 88)::aB 90 1 tv 1 ([z].map cB)::aW [z]::cG bs bd jb 1048576 mb [] s::F))) ah (go ?_)
  refine aJ (uF ob z.n obv z.ws (c2 z hzm) (c3 z hzm) q.1) ?_
  refine go ?_
  refine ai (H':=ae QI (cl (nG ⟨0,aa,ac,a,piece,q.1,0,0,q.2,none,0,[]⟩) 46)::Y::ae wN (cl (bH x) 37)::ae wb (cl [ptr bd,ptr bs,ptr tb] 32)::ae tb (cl [ptr bs,ptr jb,tv,.bool false] 88)::aB 90 1 tv 1 ([z].map cB)::aW [z]::cG bs bd jb 1048576 mb [] s::F) ah ?_
  refine aF (fun w=>Sat G w ([ae wb (cl [ptr bd,ptr bs,ptr tb] 32),ae wN (cl (bH x) 37),ae QI (cl (nG ⟨0,aa,ac,a,piece,q.1,0,0,q.2,none,0,[]⟩) 46),Y])) (cZ 0 9 (.act 9 (.st 10 .nil))) rfl ak ak ak dT ?_
  (repeat(first|refine gy ?_|refine bQ (U:=aQ) (l:=bH x) 1 zr zr zr zr zr zr ?_))
  refine cN wA ?_
  rintro _ _⟨e,ed,jB,t,rfl,rfl,hB⟩
  obtain⟨rfl,hke,z',rfl,lE⟩:=YJ hC hO iB.symm ag ag hB
  clear hB
  refine go ?_
  refine aI (H':=ae QI (cl (nG ⟨0,aa,ac,a,piece,q.1,0,0,q.2,none,0,[]⟩) 46)::Y::ae wN (cl (bH x) 37)::ae wb (cl [ptr bd,ptr bs,ptr tb] 32)::ae tb (cl [ptr bs,ptr jb,tv,.bool false] 88)::aB 90 1 tv 1 ([z'].map cB)::aW [z']::cG bs bd jb 1048576 mb [] t::F) ah ?_
  (repeat(first|refine gy ?_|refine aG (U:=aQ) (l:=bH x) 2 zr zr zr zr zr zr ?_))
  refine aJ Hn ?_
  refine ld ?_
  obtain⟨ri,Qw⟩:∃r,cd x q.1 b p=r:=⟨_,rfl⟩
  obtain⟨wa,hwa⟩:∃r,cy z.ws z.n q.1=r:=⟨_,rfl⟩
  rw[Qw,hwa]
  rw[Qw,hwa]at hke
  obtain⟨sa,sn,se,Ry,ac'⟩:∃A N E:Int,aE Tryz.prog 21 [.agg (bH x).toArray,.int .i64 q.1] [] (fun r H=>r = .tuple #[.int .i64 A,.int .i64 N,.int .i64 E]∧H=[])∧(cC x q.1=none∧E=1∨cC x q.1=some (A,N)∧E=0):=by
    cases h:cC x q.1 with
    | none=>rw[h]at e7;exact⟨0,0,1,e7,.inl ⟨rfl,rfl⟩⟩
    | some an=>rw[h]at e7;exact⟨an.1,an.2,0,e7,.inr ⟨rfl,rfl⟩⟩
  refine fL rfl ?_
  refine sl 2 (fun _:Unit=>True) (fun _=>[(0,.slice aa a.length ac),(1,.int .i64 piece),(2,.slice oa ord.length oc),(8,ptr bd),(10,ptr wb),(12,ptr wN),(14,.int .i64 0),(15,.int .i64 (n:Int)),(16,.int .i64 (i:Int)),(17,ptr QI),(19,.slice ba b.length bc),(25,.bool ri)]) (fun _=>ae QI (cl (nG ⟨0,aa,ac,a,piece,q.1,0,0,q.2,none,0,[]⟩) 46)::Y::ae wN (cl (bH x) 37)::ae wb (cl [ptr bd,ptr bs,ptr tb] 32)::ae tb (cl [ptr bs,ptr jb,tv,.bool false] 88)::aB 90 1 tv 1 ([z'].map cB)::aW [z']::cG bs bd jb 1048576 mb [] t::F) rfl ?_ ?_
  rotate_left
  · intro tail
    cases ri with
    | true =>
      refine go ?_
      ((refine aX 174 ((.bool false)) rfl ((congrArg Value.bool (by rw[hke];rfl))) ?_))
      refine ld ?_
      refine ix zr zr ?_
      refine lh tail () rfl trivial cg ah
    | false =>
      cases wa with
      | true =>
        refine go ?_
        ((refine aX 174 ((.bool false)) rfl ((congrArg Value.bool (by rw[hke];rfl))) ?_))
        refine ld ?_
        refine ix zr zr ?_
        refine lh tail () rfl trivial cg ah
      | false =>
        refine go ?_
        ((refine aX 174 ((.bool false)) rfl ((congrArg Value.bool (by rw[hke];rfl))) ?_))
        refine ld ?_
        refine ix zr zr ?_
        refine lh tail () rfl trivial cg ah
  intro _ _
  (repeat(first|refine gy ?_|refine aG (U:=aQ) (l:=bH x) 2 zr zr zr zr zr zr ?_))
  refine aJ Ry ?_
  refine ld ?_
  refine fL rfl ?_
  refine sl 2 (fun _:Unit=>cd x q.1 b p=true→∀at_ n,cC x q.1=some (at_,n)→b=(a.drop at_.toNat).take n.toNat) (fun _=>[(0,.slice aa a.length ac),(1,.int .i64 piece),(2,.slice oa ord.length oc),(8,ptr bd),(10,ptr wb),(12,ptr wN),(14,.int .i64 0),(15,.int .i64 (n:Int)),(16,.int .i64 (i:Int))]) (fun _=>ae QI (cl (nG ⟨0,aa,ac,a,piece,q.1,0,0,q.2,none,0,[]⟩) 46)::Y::ae wN (cl (bH x) 37)::ae wb (cl [ptr bd,ptr bs,ptr tb] 32)::ae tb (cl [ptr bs,ptr jb,tv,.bool false] 88)::aB 90 1 tv 1 ([z'].map cB)::aW [z']::cG bs bd jb 1048576 mb [] t::F) rfl ?_ ?_
  rotate_left
  · intro tail
    cases ri with
    | false =>
      refine aF (fun w=>Sat G w ([Y])) (cZ 0 17 .nil) rfl ak ak ak dT ?_
      refine ld ?_
      refine ix zr zr ?_
      refine lh tail () rfl (fun h=>by rw[Qw]at h;cases h) cg ah
    | true =>
      have aa':cC x q.1=some (sa,sn)∧se=0:=by
        rcases ac' with⟨h1,_⟩|h1
        · unfold cd at Qw
          rw[h1]at Qw
          cases Qw
        · exact h1
      obtain⟨aa9,rfl⟩:=aa'
      obtain⟨g0,g1,g2,g3,g4,g5,g6,gr⟩:=iQ aa9
      have RD:=haY.piece sa.toNat (sa+sn).toNat ag ag
      rw[show(sa+sn).toNat-sa.toNat=sn.toNat by omega]at RD
      have nV:((a.drop sa.toNat).take sn.toNat).length=sn.toNat:=by rw[List.length_take,List.length_drop];omega
      have adn:eM Y (.slice (sliceAt aa ac sa.toNat 1) ((a.drop sa.toNat).take sn.toNat).length (ac-sa.toNat)) ((a.drop sa.toNat).take sn.toNat):=by rw[nV];exact RD
      refine aF (fun w=>Sat G w ([Y])) (cZ 0 17 .nil) rfl ak ak ak dT ?_
      refine go ?_
      refine FI (U:=aQ) 0 zr zr zr zr zr zr zr zr zr hbY.1 (go ?_)
      refine bh (p:=sa) (q:=sa+sn) zr zr zr zr zr zr zr ag ag (.inr ag) ?_
      ((refine au 196 ((.slice (sliceAt aa ac sa.toNat 1) ((a.drop sa.toNat).take sn.toNat).length (ac-sa.toNat))) rfl ((by rw[show(sa+sn).toNat-sa.toNat=sn.toNat by omega,nV];rfl)) ?_))
      refine go ?_
      refine FI (U:=aQ) 0 zr zr zr zr zr zr zr zr zr adn.1 ?_
      by_cases heq:b=(a.drop sa.toNat).take sn.toNat
      · refine ld ?_
        ((refine aX 199 ((.bool false)) rfl ((congrArg Value.bool (by rw[n8,decide_eq_true heq];rfl))) ?_))
        refine ix zr zr ?_
        refine lh tail () rfl (fun _ at_ n h=>by rw[aa9]at h;injection h with h;injection h with h1 h2;rw[← h1,← h2];exact heq) cg ah
      · refine ld ?_
        ((refine aX 199 ((.bool true)) rfl ((congrArg Value.bool (by rw[n8,decide_eq_false heq];rfl))) ?_))
        refine go ?_
        refine ai (H':=Y::F) ah ?_
        rw[hY]
        refine ai (H':=X::F) ((al.cD [aB 5 1 (.slice ba b.length bc) b.length (bV b),aB 35 32 (.slice pa p.length pc) p.length (p.flatMap dC),X] _).trans ah) ?_
        refine ad hE Tryz.func4 zr zr ⟨rfl,rfl⟩
  intro _ abd
  obtain⟨Zl,hO',aes,abW⟩:=lE abd
  have Tx:ord.length≤60→∀l:Nat,ord.length+l<i+1→cy z'.ws n (l:Int)=true:=fun ho l hl=>by
    rw[show n=z'.n by omega,abW]
    by_cases Jk:ord.length+l<i
    · have h1:=fH ho l Jk
      rw[show z.n=n from hzn,h1]
      rfl
    · obtain⟨q1,q2⟩:=S8 ho ag
      have hp:=YI hx (n:=n) ag ag ag q2 hgE
      have pG:decide ((e:Int)=0)=true:=by rw[hke,← Qw,hp];rfl
      rw[pG,show(l:Int)=q.1 by omega]
      simp
  refine go ?_
  refine mI zr zr zr ag ag (go ?_)
  refine aq zr zr ?_ ?_
  · intro h4
    refine ai (H':=cG bs bd jb 1048576 mb [] t::Y::ae wb (cl [ptr bd,ptr bs,ptr tb] 32)::ae wN (cl (bH x) 37)::F) ah ?_
    refine ai (PM _ _ _ _ _ _ _) ?_
    have hq4:=Zl.cs.dq
    have aev:=Zl.cs.kM
    refine go ?_
    ((refine aH (Qg bd t.1.A 0 (-1) 0 Y (.slice none 0 0) [] ⟨none,0,rfl,.inl rfl⟩ (by simp) ag (by rw[hq4.wr];simp) ag ag ag) ?_))
    rintro _ _ rfl
    refine go ?_
    ((refine aH (uO Y hKY wb bd (ptr bs) (ptr tb) 1048576 ag (t.1.A.du 0 [] (-1) 0) rfl (by show 1≤_;omega) (Zl.ab5 ag)) ?_))
    rintro _ _⟨e3,t3,cs3,hW3,rfl,hz3,-⟩
    obtain⟨rfl,hn3⟩:=YH Zl hO' ag hW3
    obtain⟨LG,mb3,tb3,jb3,QP,ts3,adZ,rfl⟩:=hz3 rfl
    obtain⟨z3,rfl,hC3,aet,hO3,ML⟩:=hn3 ts3 adZ
    unfold eh
    refine go ?_
    refine ai (H':=Y::ae wN (cl (bH x) 37)::ae wb (cl [ptr bd,ptr LG,ptr tb3] 32)::ae tb3 (cl [ptr LG,ptr jb3,QP,.bool false] 88)::aB 90 1 QP 1 ([z3].map cB)::aW [z3]::cG LG bd jb3 1048576 mb3 [] t3::F) ah ?_
    rw[hY]
    refine ai (al.cD [aB 5 1 (.slice ba b.length bc) b.length (bV b),aB 35 32 (.slice pa p.length pc) p.length (p.flatMap dC),X] _) ?_
    refine aM ih ⟨i+1,t3,z3,LG,mb3,tb3,jb3,QP⟩ rfl ⟨by simp only;omega,by simp only;omega,⟨hC3.cs.mono (Nat.le_refl _) (Nat.le_refl _) (by simp only;omega),hC3.cj.mono (by simp only;omega)⟩,hO3,fun ho l hl=>by
      have h1:=Tx ho l hl
      simp only
      rw[← h1,show n=z3.n by omega,ML,show z'.n=z3.n by omega]⟩ (by simp only;omega) cg ah
  intro h4
  refine go ?_
  refine ai (H':=Y::ae wN (cl (bH x) 37)::ae wb (cl [ptr bd,ptr bs,ptr tb] 32)::ae tb (cl [ptr bs,ptr jb,tv,.bool false] 88)::aB 90 1 tv 1 ([z'].map cB)::aW [z']::cG bs bd jb 1048576 mb [] t::F) ah ?_
  rw[hY]
  refine ai (al.cD [aB 5 1 (.slice ba b.length bc) b.length (bV b),aB 35 32 (.slice pa p.length pc) p.length (p.flatMap dC),X] _) ?_
  refine aM ih ⟨i+1,t,z',bs,mb,tb,jb,tv⟩ rfl ⟨by simp only;omega,by simp only;omega,⟨Zl.cs.mono (Nat.le_refl _) (Nat.le_refl _) (by simp only;omega),Zl.cj.mono (by simp only;omega)⟩,hO',Tx⟩ (by simp only;omega) cg ah
end Go.Proofs.YtedjnjkijiddlaaGreatDoor
namespace Go.Proofs.YtedjnjkijiddlaaGreatDoor
open Go Go.SL Go.RowKit Go.ChangeShapes Go.WideShapes
section
variable{H:Type}{enc:TypeId × Value→H}{W:World}{base:Nat}{spare:Nat→Bool}{held:Bool}
def PU(X:HP)(v:Value)(l:List (Int × Int)):Prop:=Vw X v l.length (l.flatMap SO)∧∀x∈l,SL.i64 x.1∧SL.i64 x.2
def G1(fuel:Nat)(cs:List Value)(x:DataW H × List MemPlace)(h:DataW.trod enc Tryz.prog W base spare held fuel 53 cs=some x):∃y:Int × Int,cs=SO y∧(SL.i64 y.1∧SL.i64 y.2):=by
 obtain⟨l,h1,h2,h3⟩:=KF (cs:=cs.toArray) Tryz.underlying53 Tryz.underlying3 ak ak (by simpa[Value.cells]using h)
 match l,h1 with
 | [x,y],_=>exact⟨(x,y),by simpa[iV,SO]using congrArg Array.toList h2,h3 _ (by simp),h3 _ (by simp)⟩
def Ee{fuel:Nat}{v:Value}{x:DataW H × List MemPlace}(h:DataW.trod enc Tryz.prog W base spare held fuel 52 [v]=some x):∃l:List (Int × Int),PU (old W) v l:=by
 obtain⟨l,a,c,j7,h1,h2,h3⟩:=KE Tryz.underlying52 SO 2 ag wX ak (fun y=>SL.i64 y.1∧SL.i64 y.2) G1 h
 simp only[List.cons.injEq,and_true]at j7
 subst j7
 exact⟨l,h1,h2⟩
end
end Go.Proofs.YtedjnjkijiddlaaGreatDoor
namespace Go.Proofs.YtedjnjkijiddlaaGreatDoor
open Go Go.SL
def LM{P:Program}{H:Type}{enc:TypeId × Value→H}{W:World}{base:Nat}{spare:Nat→Bool}{held:Bool}{fuel n:Nat}{t e:TypeId}{k:IntKind}{l:List Value}{x:DataW H × List MemPlace}(ht:P.underlying t=some (.array n e))(he:P.underlying e=some (.int k))(hc:P.cellsOf e=1)(xh:P.cellsOf t=n)(h:DataW.trod enc P W base spare held fuel t l=some x)(ns:List Int)(hx:x.1 = .agg (ns.map fun z => .lit (.int k z))):l=ns.map (Value.int k):=by
 obtain⟨xs,m,_,Ox,hlen,ME,hf⟩:=DataW.trod_array ht h
 rw[xh]at hlen
 rw[Ox]at hx
 simp only[DataW.agg.injEq]at hx
 apply List.ext_getElem?
 intro i
 rcases Nat.lt_or_ge i n with hi|hi
 ·have h1:=hf i hi
  obtain⟨y,hy⟩:∃y,xs[i]?=some y:=⟨xs[i]' (by rw[ME];exact hi),by simp⟩
  rw[hy,hc,Nat.mul_one]at h1
  obtain⟨z,r,hz,w⟩:=DataW.trod_int he h1
  have h2:=congrArg (fun l:List Value=>l[0]?) r
  have h3:l[i]?=some (.int k z):=by simpa using h2
  have h4:=congrArg (fun l=>l[i]?) hx
  simp only[List.getElem?_map,hy,Option.map_some,hz]at h4
  rw[h3,List.getElem?_map]
  cases hn:ns[i]? with
  | none=>rw[hn]at h4;cases h4
  | some z2 =>
   rw[hn]at h4
   simp only[Option.map_some,Option.some.injEq,DataW.lit.injEq,Lit.int.injEq]at h4
   rw[h4.2]
   rfl
 ·have EJ:ns.length=n:=by have:=congrArg List.length hx;simpa[ME]using this.symm
  rw[List.getElem?_eq_none ag,List.getElem?_eq_none (by simp;omega)]
def Qp:List Int:=Sha.ks.map fun w=>(w.toNat:Int)
def Zs:wV Sha.ks=Qp.map (Value.int .u32):=by unfold wV Qp;rw[List.map_map];rfl
def Xd:Rows.laid_starling_digest_constants (H:=Unit) = .agg (Qp.map fun z => .lit (.int .u32 z)):=by
 unfold Rows.laid_starling_digest_constants Qp Sha.ks
 simp only[List.map_cons,List.map_nil,BitVec.toNat_ofNat]
 rfl
def q9:Tryz.prog.globalNamed "starling/digest.constants" = some 0:=by kernel_rfl
def I6:(Tryz.prog.globals[0]?).map (·.type)=some 196:=by kernel_rfl
def Oi:Tryz.prog.cellsOf 196=64:=by kernel_rfl
def J6:Tryz.prog.cellsOf 139=1:=by kernel_rfl
def An{W:World}(h:laidMet Tryz.prog [("starling/digest.constants", Rows.laid_starling_digest_constants)] W):W.var? Tryz.prog "starling/digest.constants" = some (wV Sha.ks).toArray:=by
 obtain⟨ps,⟨g,t,cs,fuel,p,q,hg,ht,acX,hd,_,_⟩,_⟩:=h
 obtain rfl:=Option.some.inj (q9.symm.trans hg)
 obtain rfl:=Option.some.inj (I6.symm.trans ht)
 rw[acX,Zs]
 congr 1
 have:=LM Tryz.underlying196 Tryz.underlying139 J6 Oi hd Qp Xd
 rw[← this]
def FH{W:World}(h:laidMet Tryz.prog [("starling/digest.constants", Rows.laid_starling_digest_constants)] W):oG (old W):=by
 have hv:=An h
 refine⟨some ⟨0,0,none⟩,64,rfl,.inr ⟨_,0,rfl,fun hp ho j c hj=>?_⟩⟩
 rw[Nat.zero_add]
 refine nu ho ?_
 rw[World.var?_cell q9 hv j]
 simpa using hj
noncomputable def u9(os:Os):World :=
  { World.holding Tryz.prog os ⟨#[],#[],[]⟩with heap:=(World.holding Tryz.prog os ⟨#[],#[],[]⟩).heap.modify 0 fun
      | .cells _ t frozen => .cells (Qp.map (Value.int .u32)).toArray t frozen
      | o=>o }
def z8(os:Os)(args:Array Value):((u9 os).forCall (fun _ _=>0) ⟨#[],args,[]⟩).memory.heap[0]?=some (.cells (Qp.map (Value.int .u32)).toArray 196 (0,0)):=by kernel_rfl
def Aa(os:Os)(args:Array Value):laidMet Tryz.prog [("starling/digest.constants", Rows.laid_starling_digest_constants)] ((u9 os).forCall (fun _ _=>0) ⟨#[],args,[]⟩).memory:=by
 have Ag:=z8 os args
 refine⟨_,⟨0,196,(Qp.map (Value.int .u32)).toArray,8,[],[],q9,I6,?_,?_,rfl,rfl⟩,?_,?_⟩
 ·unfold World.var?
  rw[q9]
  simp only[Option.bind_some,Ag]
 ·kernel_rfl
 ·rw[List.append_nil,List.append_nil]
  unfold MemPlace.row
  refine List.Pairwise.map (R:=fun a b=>a≠b) _ (fun i j Bg e=>Bg ?_) List.nodup_range
  exact Nat.add_left_cancel (MemPlace.cell.inj e).2
 ·intro b off h
  have hb:b=0:=by
   simp only[List.append_nil,MemPlace.row,List.mem_map]at h
   obtain⟨i,_,hi⟩:=h
   simp[MemPlace.cell.injEq]at hi
   exact hi.1.symm
  subst hb
  refine⟨⟨_,_,Ag⟩,fun u v hc=>?_⟩
  simp only[World.cell?,Ag]at hc
  exfalso
  have h2:∀x∈Qp.map (Value.int .u32),∀u v,x ≠ .iface u v:=by
   intro x hx u v
   obtain⟨z,_,rfl⟩:=List.mem_map.1 hx
   simp
  have h3:(Qp.map (Value.int .u32))[off]?=some (.iface u v):=by simpa using hc
  exact h2 _ (List.mem_of_getElem? h3) u v rfl
end Go.Proofs.YtedjnjkijiddlaaGreatDoor
namespace Go.Proofs.YtedjnjkijiddlaaGreatDoor.piecesTakes
open Go Go.SL
open Go.ChangeShapes Go.WideShapes Go.ChangeAt Go.RowKit
open Go.ChangeMaps (open_string shut_string)
def own:ownKnob Tryz.prog.godebug=none:=by kernel_rfl
def laidOut:laidOutB Tryz.prog=true:=by kernel_rfl
def lifted(os:Os)(started:os.Started)(H:Type)(enc:TypeId × Value→H) :
    ReturnsInHanded {} Tryz.checked os 4 .any (fun w args=>(Rows.piecesTakesSpec.pre enc Tryz.prog Tryz.f4 Rows.piecesTakesRow.domain false w args∧laidMet Tryz.prog [("starling/digest.constants", Rows.laid_starling_digest_constants)] w)∧sizedMet enc Tryz.prog Tryz.f4 (OpenSpec.ofChange Rows.piecesTakesSpec) false w args) (Rows.piecesTakesSpec.post enc Tryz.prog Tryz.f4 false true false false):=by
  refine returnsInHanded_of_change_and (C:=Tryz.checked) (X:=fun w _=>laidMet Tryz.prog [("starling/digest.constants", Rows.laid_starling_digest_constants)] w) (fun _ _ _ hh h=>h.of_heap hh) own started ak Tryz.func4
    (ChangeSpec.witness_at (enc:=enc) (C:=Tryz.checked) (os:=os) (X:=fun w _=>laidMet Tryz.prog [("starling/digest.constants", Rows.laid_starling_digest_constants)] w) false (u9 os) #[.slice none 0 0,.int .i64 0,.slice none 0 0] 8 rfl ak ak ak ak ak (Aa os #[.slice none 0 0,.int .i64 0,.slice none 0 0])) ?_
  intro W base args ds gs before SZ hW aeS iB hL _
  have Ru:∀(j:Nat) t v,Tryz.f4.params[j]?=some t→args[j]?=some v→Value.okWide Tryz.prog W .any base t v:=SZ
  have hW':=hW
  obtain⟨p,q,hA0,hV,rfl,hfz,kj⟩:=hW
  have hA:DataW.TrodAll enc Tryz.prog W 0 (fun _=>true) true Tryz.f4.params.toList args.toList ds p:=hA0
  rw[Tryz.params4]at hA Ru
  obtain⟨v0,vs0,d0,ds0,p0,q0,gT,rfl,rfl,h0,r0⟩:=trodAll_cons hA
  obtain⟨v1,vs1,d1,ds1,p1,q1,rfl,rfl,rfl,h1,r1⟩:=trodAll_cons r0
  obtain⟨v2,vs2,d2,ds2,p2,q2,rfl,rfl,rfl,h2,r2⟩:=trodAll_cons r1
  obtain⟨rfl,rfl,rfl⟩:=trodAll_nil r2
  obtain rfl:args = #[v0,v1,v2]:=by cases args;simp_all
  obtain⟨rfl,rfl⟩:=trodVars_none hV
  obtain⟨a0,KT,Yw,rfl⟩:=okWide_slice Tryz.underlying22 (Ru 0 22 v0 rfl rfl)
  have k0:=h0
  have lt0:∀x∈p0,x.block<W.heap.size:=by obtain⟨m,hm⟩:=k0;exact DataW.trod_lt m _ _ _ hm
  obtain⟨bs0,ad7,ad5,lJ⟩:∃bs:List UInt8,bs.length=KT∧KT≤9223372036854775807∧Vw (old W) (.slice a0 KT Yw) KT (bV bs)∧KT≤Yw:=by
    obtain⟨fuel,hf⟩:=h0
    rcases open_ints Tryz.underlying22 Tryz.underlying5 ak hf with⟨j7,_⟩|⟨x,l,c,zs,j7,_,hl,hm,hz,_,dF,hwz⟩
    · simp[Value.cells]at j7
      obtain⟨rfl,rfl,rfl⟩:=j7
      exact⟨[],rfl,ag,NZ W,Nat.le_refl _⟩
    · simp[Value.cells]at j7
      obtain⟨rfl,rfl,rfl⟩:=j7
      obtain⟨bs,h1,h2⟩:=HY (len:=KT) (cap:=Yw) (by simp at hz;omega) dF hwz
      exact ⟨bs, h1, by have : maxLen = 9223372036854775807 := by decide
                        omega,h2,hl⟩
  subst ad7
  obtain⟨a1,rfl,rfl,rfl,w1⟩:=open_int Tryz.underlying3 (Ru 1 3 v1 rfl rfl) h1
  obtain⟨a2,acM,ny,rfl⟩:=okWide_slice Tryz.underlying52 (Ru 2 52 v2 rfl rfl)
  have k2:=h2
  have lt2:∀x∈p2,x.block<W.heap.size:=by obtain⟨m,hm⟩:=k2;exact DataW.trod_lt m _ _ _ hm
  obtain⟨QG,rW⟩:∃l:List (Int × Int),PU (old W) (.slice a2 acM ny) l:=by
    obtain⟨fuel,hf⟩:=h2
    exact Ee (by simpa[Value.cells]using hf)
  clear hA0 SZ
  have tQ:QG.length*16≤140737488351232:=by
    obtain⟨fuel,hf⟩:=k2
    have hl:=rW.1.shape
    obtain⟨_,_,gk⟩:=hl
    simp only[Value.slice.injEq]at gk
    rcases NU (Tryz.underlying52) (by simpa[Value.cells]using hf)with h0|⟨el,sp,hd,hle⟩
    · rw[← gk.2.1,h0];omega
    · have h1:(el.length+sp.length)*Tryz.prog.bytesOf 53≤reachBytes:=sized_slice iB (j:=2) (t:=52) rfl (by rw[hd];rfl) (Tryz.underlying52)
      have h2:Tryz.prog.bytesOf 53=16:=by kernel_rfl
      have h3:reachBytes=140737488351232:=by decide
      rw[h2,h3,hle,gk.2.1]at h1
      have:=Nat.mul_le_mul_right 16 (Nat.le_add_right QG.length sp.length)
      omega
  refine(No (LX (old W) (FH hL) _ bs0 ⟨lJ.1,_,_,rfl,lJ.2⟩ ad5 a1 (A8 w1) _ QG rW.1 ag rW.2)).mono fun e W' ⟨he,bel⟩=>?_
  subst he
  exact⟨_,rfl,_,_,_,[],_,[],hW',trodAll_mk1 (shut_bool Tryz.underlying4 _),(trodAll_cons_mk (Below.trod laidOut ak (of_decide_eq_true ak) k0 bel lt0) (trodAll_cons_mk (shut_int Tryz.underlying3 w1) (trodAll_cons_mk (Below.trod laidOut ak (of_decide_eq_true ak) k2 bel lt2) trodAll_mk0))),rfl,bel.frame _,fun h=>by cases h⟩
def k10:(Rows.piecesTakesRow.inPlace == (Tryz.pinned.checked.prog).inPlace 4)=true:=by kernel_rfl
def k11:(Rows.piecesTakesRow.unfollowed == (Tryz.pinned.checked.prog).unfollowed 4)=true:=by kernel_rfl
def k12:(Rows.piecesTakesRow.recurses == (Tryz.pinned.checked.prog).recurses 4)=true:=by kernel_rfl
def k13:(Rows.piecesTakesRow.named == (Tryz.pinned.checked.prog).varsNamed 4)=true:=by kernel_rfl
def closed:joinedFacts Tryz.pinned.checked.prog 4 Tryz.f4 Rows.piecesTakesSpec Rows.piecesTakesRow=true:=by
 unfold joinedFacts
 rw[k10,k11,k12,k13]
 kernel_rfl
def proved:Rows.PiecesTakesSaid :=
 OpenClaim.holds_of_wide 4 Tryz.f4 zr zr zr zr zr zr zr ⟨rfl,rfl,rfl,rfl,rfl⟩ zr zr zr zr zr ak Tryz.func4 closed
  (of_decide_eq_true ak) (by unfold Func.isWrapper;(rw[if_neg (by decide +kernel)];exact⟨rfl,rfl⟩))
  (fun os started H enc _=>lifted os started H enc)
#print axioms proved
end Go.Proofs.YtedjnjkijiddlaaGreatDoor.piecesTakes
