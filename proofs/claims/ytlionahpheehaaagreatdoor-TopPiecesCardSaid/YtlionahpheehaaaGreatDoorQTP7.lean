import Derived.Test.YtlionahpheehaaaGreatDoorQTP2
import Derived.Test.YtlionahpheehaaaGreatDoorQTP3
import Derived.Test.YtlionahpheehaaaGreatDoorQTP4
import Derived.Test.YtlionahpheehaaaGreatDoorQTP5
import Derived.Test.YtlionahpheehaaaGreatDoorQTP6
import Derived.Laws.StructEq
set_option linter.unusedSimpArgs false
set_option linter.unusedVariables false
set_option maxHeartbeats 1000000
set_option maxRecDepth 20000
set_option linter.defProp false
namespace Go.Proofs.YtlionahpheehaaaGreatDoor
open Go Go.SL
attribute [local irreducible] J K aH Ends ak aK aV bX bj aS bp bD cp Sha.chunks Sha.chunk Sha.rounds Sha.sched fz
def GM{tag:UInt8}{ps:List (List UInt8)}{i:Nat}{p:List UInt8}(h:ps[i]?=some p):gz tag (ps.take (i+1))=gz tag (ps.take i)++(vW p.length++p):=by
 unfold gz
 rw[List.take_add_one,h]
 simp
theorem Nb(tag:UInt8)(ps:List (List UInt8))(i:Nat):(gz tag (ps.take i)).length≤(gz tag ps).length:=by
 conv=>rhs;rw[← List.take_append_drop i ps]
 grind [gz]
theorem EK(tag:UInt8)(ps:List (List UInt8)):ps.length≤(gz tag ps).length:=by
 unfold gz
 induction ps with
 | nil=>simp
 | cons p ps ih =>
  grind [vW]
def TV(n:Nat):(vW n).length=8:=by simp[vW]
def QN{n i:Nat}(h:i<8):(vW n).take (i+1)=(vW n).take i++[UInt8.ofNat (n/2 ^ (8*i))]:=by
 rw[List.take_add_one];simp[vW,h]
theorem vf(A:HP)(hK:qI A)(tag:UInt8)(v:Value)(ps:List (List UInt8))(hv:xh A v ps)(hl:(gz tag ps).length≤1000000000) :
  aH Tryz.prog 90 [u8 tag,v] [A] (fun r H=>r=dV (cY tag ps)∧H=[A]):=by
 obtain⟨cs,dH,kJ,⟨a,c,rfl,hc⟩,tq⟩:=hv
 have Rz:=EK tag ps
 refine aH.aC Tryz.func90 Tryz.ntmps90 fun G F R hE=>?_
 refine aP rfl ?_
 refine aL zr zr zr bO ?_
 intro b4
 refine zt ?_
 refine aP rfl ?_
 refine zt ?_
 refine az (cs:=bV [tag]) zr zr zr zr zr zr zr zr zr bO ?_
 intro b0
 refine go ?_
 refine al (fp 5 1 b0 1 1 (bV [tag]) [] _ rfl (Nat.le_refl _) (by simp[bV])) ?_
 refine bF (fun y:Nat × Option Addr × Nat=>y.1≤ps.length) (fun y=>ps.length-y.1)
  (fun y=>[(4,ptr b4),(11,.slice a ps.length c),(12,.int .i64 (ps.length:Int)),(13,.int .i64 (y.1:Int)),(5,.slice y.2.1 (gz tag (ps.take y.1)).length y.2.2)])
  (fun y=>aK 5 1 (.slice y.2.1 (gz tag (ps.take y.1)).length y.2.2) (gz tag (ps.take y.1)).length (bV (gz tag (ps.take y.1)))::A::ak b4 (cl (dC Dg.zero) 29)::F) (0,some ⟨b0,0,none⟩,1) (Nat.zero_le _) rfl cF ad ?_
 rintro⟨i,a1,c1⟩ hi ih
 simp only at hi
 dsimp only
 refine go ?_
 refine aB zr zr ?_ ?_
 ·intro dk
  have l9:i<ps.length:=by omega
  obtain⟨p,hp⟩:∃p,ps[i]?=some p:=⟨ps[i],List.getElem?_eq_getElem l9⟩
  obtain⟨cv,qP,hb⟩:=tq i p hp
  obtain⟨b1,o1,c0,tT⟩:=dH.some (by intro h;rw[h]at qP;simp at qP)
  simp only[Value.slice.injEq]at tT
  obtain⟨rfl,-,rfl⟩:=tT
  have om:=GM (tag:=tag) hp
  have hle:=Nb tag ps (i+1)
  have afV:=TV p.length
  rw[om]at hle
  simp only[List.length_append]at hle
  obtain⟨T0,hT0⟩:∃T0,T0=gz tag (ps.take i):=⟨_,rfl⟩
  rw[← hT0]at om hle ⊢
  obtain⟨ax,cx,rfl,hcx⟩:=hb.2
  have hl3:∀j:Nat,j≤8→(T0++(vW p.length).take j).length=T0.length+j:=fun j hj=>by
   grind
  refine go ?_
  refine bW i zr zr zr zr zr zr zr zr l9 ?_
  refine aY ?_
  refine aZ 1 i zr zr zr dH rfl qP zr zr (go ?_)
  refine bF (fun y:Nat × Option Addr × Nat=>y.1≤8) (fun y=>8-y.1)
   (fun y=>[(4,ptr b4),(7,.slice ax p.length cx),(11,.slice (some ⟨b1,o1,none⟩) ps.length c),(12,.int .i64 (ps.length:Int)),(13,.int .i64 (i:Int)),(5,.slice y.2.1 (T0++(vW p.length).take y.1).length y.2.2),(17,.int .i64 (y.1:Int))])
   (fun y=>aK 5 1 (.slice y.2.1 (T0++(vW p.length).take y.1).length y.2.2) (T0++(vW p.length).take y.1).length (bV (T0++(vW p.length).take y.1))::A::ak b4 (cl (dC Dg.zero) 29)::F) (0,a1,c1) (Nat.zero_le _) rfl (by simp only[List.take_zero,List.append_nil];exact cF) (by simp only[List.take_zero,List.append_nil];exact ad) ?_
  rintro⟨j,a2,c2⟩ hj LJ
  simp only at hj
  have Ri:=hl3 j hj
  dsimp only
  refine go ?_
  refine aB zr zr ?_ ?_
  ·intro hj8
   have ae':j<8:=by omega
   have htj:=QN (n:=p.length) ae'
   refine go ?_
   refine nG zr zr zr (by simp only[js];omega) ?_
   refine au 25 ((.int .i64 ((8*j:Nat):Int))) rfl ((congrArg (Value.int .i64) aj)) ?_
   refine iQ zr zr zr aj ?_
   ((refine au 26 ((.int .u64 ((p.length/2 ^ (8*j):Nat):Int))) rfl ((congrArg (Value.int .u64) (by rw[Int.toNat_natCast,show min (8*j) IntKind.u64.bits=8*j from by show min (8*j) 64=_;omega];simp))) ?_))
   refine jI ?_
   refine lB zr zr zr zr zr zr ?_
   refine au 27 ((u8 (UInt8.ofNat (p.length/2 ^ (8*j))))) rfl ((lG _)) ?_
   (refine az (cs:=bV [(UInt8.ofNat (p.length/2 ^ (8*j)))]) zr zr zr zr zr zr zr zr zr bO ?_;intro bA;refine bg (mm:=1) (news:=bV [(UInt8.ofNat (p.length/2 ^ (8*j)))]) 1 0 zr zr zr zr zr zr zr zr zr zr zr zr (Vw.ak rfl) rfl (dR _) (by(rw[Ri];omega)) (by show(_+_)*1≤_;(rw[Ri];omega)) (fun _=>rfl) bO ?_;intro vA;rw[show bV ((T0++(vW p.length).take j))++bV [(UInt8.ofNat (p.length/2 ^ (8*j)))]=bV (((T0++(vW p.length).take j))++[(UInt8.ofNat (p.length/2 ^ (8*j)))])from by simp[bV],show((T0++(vW p.length).take j)).length+1=(((T0++(vW p.length).take j))++[(UInt8.ofNat (p.length/2 ^ (8*j)))]).length from(@List.length_append _ ((T0++(vW p.length).take j)) [(UInt8.ofNat (p.length/2 ^ (8*j)))]).symm];((refine aN 1 rfl ?_));rintro aA cA rfl)
   rw[show T0++(vW p.length).take j++[UInt8.ofNat (p.length/2 ^ (8*j))]=T0++(vW p.length).take (j+1)from by rw[htj,List.append_assoc]]
   refine go ?_
   refine aQ LJ (j+1,aA,cA) rfl (by simp only;omega) (by simp only;omega) cF ad
  intro fO
  have hj8:j=8:=by omega
  subst hj8
  rw[List.take_of_length_le aj]at Ri ⊢
  refine go ?_
  (refine bg (mm:=(p).length) (news:=bV (p)) 0 1 zr zr zr zr zr zr zr zr zr zr zr zr (hb.1) (by show _=_*1;rw[bN];omega) (dR _) (by(rw[Ri];omega)) (by show(_+_)*1≤_;(rw[Ri];omega)) (fun _=>rfl) bO ?_;intro vA;rw[show bV ((T0++vW p.length))++bV (p)=bV (((T0++vW p.length))++(p))from by simp[bV],show((T0++vW p.length)).length+(p).length=(((T0++vW p.length))++(p)).length from(@List.length_append _ ((T0++vW p.length)) (p)).symm];((refine aN 0 rfl ?_));rintro aA cA rfl)
  rw[show T0++vW p.length++p=gz tag (ps.take (i+1))from by rw[om,List.append_assoc]]
  refine go ?_
  refine aQ ih (i+1,aA,cA) rfl (by simp only;omega) (by simp only;omega) cF ad
 intro fO
 have e9:i=ps.length:=by omega
 subst e9
 rw[List.take_length]
 refine qG (bs:=gz tag ps) 0 rfl ?_
 intro hvT
 refine al (aq.cg [_,_] _) (go ?_)
 refine aeb (qE _ (hK.mono (aX (i:=1) rfl)) _ (gz tag ps) (hvT.mono (aX (i:=0) rfl)) hl) ?_
 refine aT (aq.cR _ _) (go ?_)
 refine qH (U:=bh) 2 hE Tryz.func90 zr zr zr zr zr zr zr ⟨rfl,rfl⟩ ad
theorem Ib(x:Nat)(hx:x<256):IntKind.u8.wrap ((BitVec.ofInt IntKind.u8.bits (x:Int) &&& BitVec.ofInt IntKind.u8.bits 15).toNat:Int)=((x%16:Nat):Int):=by
 have e2:(BitVec.ofInt IntKind.u8.bits (15:Int)).toNat=2 ^ 4-1:=by decide
 rw[BitVec.toNat_and,zD hx,e2,Nat.and_two_pow_sub_one_eq_mod]
 grind [dr,js]
def ET(n:Nat)(h:n<16):vd ⟨#[48,49,50,51,52,53,54,55,56,57,97,98,99,100,101,102]⟩ n=Cn n:=by
 have:∀n:Nat,n<16→vd ⟨#[48,49,50,51,52,53,54,55,56,57,97,98,99,100,101,102]⟩ n=Cn n:=by decide
 exact this n h
def Ji{d:Dg}{i:Nat}(h:i<32):(ib d).take (2*(i+1))=(ib d).take (2*i)++[Cn ((d.at i).toNat/16),Cn ((d.at i).toNat%16)]:=by
 have e1:yB d (2*i)=Cn ((d.at i).toNat/16):=by unfold yB;rw[if_pos aj,show 2*i/2=i from by omega]
 have e2:yB d (2*i+1)=Cn ((d.at i).toNat%16):=by unfold yB;rw[if_neg aj,show(2*i+1)/2=i from by omega]
 rw[show 2*(i+1)=2*i+1+1 from by omega,List.take_add_one,List.take_add_one,oK d aj,oK d aj,e1,e2]
 simp
def aaS(d:Dg){i:Nat}(h:i<32):(dC d)[i]?=some (u8 (d.at i)):=by
 rw[fg]
 exact yn (d.R3 h)
def R9(d:Dg):aH Tryz.prog 160 [dV d] [] (fun r H=>r = .string (strOf (ib d))∧H=[]):=by
 unfold dV
 refine aH.aC Tryz.func160 Tryz.ntmps160 fun G F R hE=>?_
 refine aP rfl ?_
 refine bJ zr zr bO ?_
 intro b1
 refine go ?_
 refine od (U:=bh) (p:=0) (q:=64) zr zr zr zr zr zr zr zr zr aj aj (by decide) bO ?_
 intro b3
 refine go ?_
 have afk:=fp 5 1 b3 0 64 [] (List.replicate 64 (u8 0)) (ak b1 (cl (dC d) 29)::F) rfl aj (by rw[List.length_replicate];exact Nat.le_add_left _ _)
 refine aT afk ?_
 refine aW (U:=bh) 1 zr zr zr zr zr zr (go ?_)
 refine bF (fun y:Nat × Option Addr × Nat=>y.1≤32) (fun y=>32-y.1)
  (fun y=>[(3,.slice y.2.1 ((ib d).take (2*y.1)).length y.2.2),(7,dV d),(8,.int .i64 (y.1:Int))])
  (fun y=>aK 5 1 (.slice y.2.1 ((ib d).take (2*y.1)).length y.2.2) ((ib d).take (2*y.1)).length (bV ((ib d).take (2*y.1)))::F) (0,some ⟨b3,0,none⟩,64) (Nat.zero_le _) rfl cF ad ?_
 rintro⟨i,a1,c1⟩ hi ih
 simp only at hi
 dsimp only
 have hlen:((ib d).take (2*i)).length=2*i:=by rw[List.length_take,jX];omega
 refine go ?_
 refine aB zr zr ?_ ?_
 ·intro dk
  have E0:i<32:=by omega
  have hg:=aaS d E0
  have om:=Ji (d:=d) E0
  have hx:=(d.at i).toNat_lt
  unfold dV
  refine go ?_
  refine B3 (U:=bh) zr zr zr zr zr zr zr zr aj aj (show(dC d).toArray.toList[((i:Nat):Int).toNat]?=some (u8 (d.at i))from by rw[Int.toNat_natCast];exact hg) ?_
  generalize d.at i=x at om hx
  refine go ?_
  refine aO (fun w=>Sat G w ([])) (dM 0 7 (.act 7 (.act 8 (.st 9 .nil)))) rfl aw aw aw dI ?_
  refine go ?_
  refine iQ zr zr zr aj ?_
  ((refine au 13 ((.int .u8 ((x.toNat/16:Nat):Int))) rfl ((congrArg (Value.int .u8) (by show(x.toNat:Int)/2 ^ 4=_;omega))) ?_))
  refine vk (U:=bh) zr zr zr zr zr aj (by show((x.toNat/16:Nat):Int)<16;omega) ?_
  refine au 14 ((u8 (Cn (x.toNat/16)))) rfl ((congrArg u8 (ET (x.toNat/16) aj))) (go ?_)
  refine go ?_
  refine au 16 ((.int .u8 ((x.toNat%16:Nat):Int))) rfl ((congrArg (Value.int .u8) (Ib x.toNat hx))) ?_
  refine vk (U:=bh) zr zr zr zr zr aj (by show((x.toNat%16:Nat):Int)<16;omega) ?_
  refine au 17 ((u8 (Cn (x.toNat%16)))) rfl ((congrArg u8 (ET (x.toNat%16) aj))) ?_
  refine az (cs:=bV [Cn (x.toNat/16),Cn (x.toNat%16)]) zr zr zr zr zr zr zr zr zr (fun _ _ hw=>hw.cI ad) ?_
  intro bA
  refine bg (mm:=2) (news:=bV [Cn (x.toNat/16),Cn (x.toNat%16)]) 1 0 zr zr zr zr zr zr zr zr zr zr zr zr (Vw.ak rfl) rfl (dR _) (by rw[hlen];omega) (by show(_+_)*1≤_;rw[hlen];omega) (fun _=>rfl) (fun _ _ hw=>hw.cI ad) ?_
  intro vA
  rw[show bV ((ib d).take (2*i))++bV [Cn (x.toNat/16),Cn (x.toNat%16)]=bV ((ib d).take (2*(i+1)))from by rw[om];simp[bV],show((ib d).take (2*i)).length+2=((ib d).take (2*(i+1))).length from by rw[om,List.length_append];rfl]
  refine aN 1 rfl ?_
  rintro aA cA rfl
  refine go ?_
  refine aQ ih (i+1,aA,cA) rfl (by simp only;omega) (by simp only;omega) cF ad
 intro fO
 have E0:i=32:=by omega
 subst E0
 rw[List.take_of_length_le (by rw[jX];omega)]
 refine qG (bs:=ib d) 0 rfl ?_
 intro hvT
 refine go ?_
 refine pK 0 zr zr zr zr zr zr zr zr zr hvT.1 (go ?_)
 refine ah hE Tryz.func160 zr zr ⟨rfl,rfl⟩
theorem CM(c:UInt8):aH Tryz.prog 226 [u8 c] [] (fun r H=>r = .tuple #[.int .u8 (((mi c).getD 0:Nat):Int),.bool (mi c).isSome]∧H=[]):=by
 have hx:=c.toNat_lt
 have h1:(48≤c.toNat∧c.toNat≤57)→Value.tuple #[.int .u8 ((c.toNat:Int)-48),.bool true] = .tuple #[.int .u8 (((mi c).getD 0:Nat):Int),.bool (mi c).isSome]:=fun h=>by
  grind [mi]
 have h2:(97≤c.toNat∧c.toNat≤102)→Value.tuple #[.int .u8 ((c.toNat:Int)-97+10),.bool true] = .tuple #[.int .u8 (((mi c).getD 0:Nat):Int),.bool (mi c).isSome]:=fun h=>by
  grind [mi]
 have h3:¬(48≤c.toNat∧c.toNat≤57)∧¬(97≤c.toNat∧c.toNat≤102)→Value.tuple #[.int .u8 0,.bool false] = .tuple #[.int .u8 (((mi c).getD 0:Nat):Int),.bool (mi c).isSome]:=fun h=>by
  grind [mi]
 unfold u8
 refine aH.aC Tryz.func226 Tryz.ntmps226 fun G F R hE=>?_
 repeat'(first|(with_reducible intro k9)|refine g9 ?_|refine dA zr zr zr zr ?_ ?_|refine aB zr zr ?_ ?_)
 all_goals(first|((refine ah hE Tryz.func226 zr zr ⟨h1 ⟨aj,aj⟩,rfl⟩))|((refine ah hE Tryz.func226 zr zr ⟨h2 ⟨aj,aj⟩,rfl⟩))|((refine ah hE Tryz.func226 zr zr ⟨h3 aj,rfl⟩)))
theorem TD(s:List UInt8){i:Nat}(h:i<64):(IW s i)[i/2]?=some (UInt8.ofNat (if i%2=0 then 0 else kX s (i-1))):=by
 grind [vR]
theorem Qj(s:List UInt8){i:Nat}(h:i<64):(IW s i).set (i/2) (UInt8.ofNat (16*(if i%2=0 then 0 else kX s (i-1))+kX s i))=IW s (i+1):=by
 apply List.ext_getElem?
 grind [nR,vR]
theorem Qn(x y:Nat)(hx:x<16)(hy:y<16):IntKind.u8.wrap ((BitVec.ofInt IntKind.u8.bits ((16*x:Nat):Int) ||| BitVec.ofInt IntKind.u8.bits (y:Int)).toNat:Int)=((16*x+y:Nat):Int):=by
 have h:=zC (a:=y) (c:=x) (k:=4) aj
 grind [zD,dr,js]
theorem OB(s:ByteArray):aH Tryz.prog 167 [.string s] [] (fun r H=>r=(match kD s.data.toList with
    | some d => .tuple #[dV d,.int .i64 0]
    | none => .tuple #[dV Dg.zero,.int .i64 2])∧H=[]):=by
  obtain⟨l,hl⟩:∃l,l=s.data.toList:=⟨_,rfl⟩
  have kr:s.size=l.length:=by rw[hl];rfl
  rw[← hl]
  refine aH.aC Tryz.func167 Tryz.ntmps167 fun G F R hE=>?_
  refine aP rfl ?_
  refine aL zr zr zr bO ?_
  intro b2
  refine zt ?_
  refine aP rfl ?_
  refine aL zr zr zr bO ?_
  intro b4
  refine go ?_
  refine aB zr zr ?_ ?_
  · intro dw
    have hp:kD l=none:=by unfold kD;rw[if_neg (by intro h;apply dw;rw[kr,h.1];rfl)]
    rw[hp]at hE
    refine aP rfl ?_
    refine aW (U:=bh) 0 zr zr zr zr zr zr (go ?_)
    (refine bL hE ?_;apply bH (U:=bh) hE Tryz.func167 rfl (aq.refl _);(repeat(first|exact ae.nil|apply ae.tmp rfl|apply ae.agg 1 zr zr zr zr zr));exact⟨rfl,rfl⟩;exact ad)
  intro heq
  have Tc:l.length=64:=by rw[kr]at heq;omega
  have h8:∀x:UInt8,x.toNat<256:=fun x=>x.toNat_lt
  refine go ?_
  ((refine aE 13 ((.int .i64 64)) rfl ((congrArg (Value.int .i64) (by rw[kr];omega))) ?_))
  refine bF (fun i:Nat=>i≤64∧∀j,j<i→mi (l.getD j 0)≠none) (fun i=>64-i)
    (fun i=>[(0,.string s),(2,ptr b2),(3,.int .i64 0),(4,ptr b4),(13,.int .i64 64),(14,.int .i64 (i:Int))])
    (fun i=>ak b4 (cl (bV (IW l i)) 29)::ak b2 (cl (dC Dg.zero) 29)::F) 0 ⟨Nat.zero_le _,fun j hj=>by omega⟩ rfl cF (by rw[Qi];exact ad) ?_
  rintro i⟨hi,nY⟩ ih
  refine go ?_
  refine aB zr zr ?_ ?_
  · intro dk
    have NT:i<64:=by omega
    have hold:=TD l NT
    have xW:=Qj l NT
    have acS:=EV l i
    have hvp:=EV l (i-1)
    refine go ?_
    refine vk (U:=bh) zr zr zr zr zr aj (by rw[kr];omega) ?_
    ((refine au 20 ((u8 (l.getD i 0))) rfl ((by rw[Int.toNat_natCast];unfold vd;rw[← hl];rfl)) ?_))
    refine go ?_
    refine aeb (CM (l.getD i 0)) ?_
    have hh0:(mi (l.getD i 0)).getD 0=kX l i:=rfl
    cases hx:mi (l.getD i 0)with
    | none =>
      have hp:kD l=none:=by
        unfold kD;rw[if_neg]
        grind
      rw[hp]at hE
      refine go ?_
      refine jJ (U:=bh) zr zr zr zr zr (go ?_)
      (refine bL hE ?_;apply bH (U:=bh) hE Tryz.func167 rfl (aq.refl _);(repeat(first|exact ae.nil|apply ae.tmp rfl|apply ae.agg 1 zr zr zr zr zr));exact⟨rfl,rfl⟩;exact ad)
    | some v =>
      have hv:v=kX l i:=by rw[hx]at hh0;exact hh0
      simp only[Option.getD_some,Option.isSome_some]
      rw[hv]
      obtain⟨o,ho⟩:∃o,o=(if i%2=0 then 0 else kX l (i-1)):=⟨_,rfl⟩
      have ac9:o<16:=by rw[ho];split <;> omega
      rw[← ho]at hold xW
      have hq:(i:Int)/2=((i/2:Nat):Int):=by omega
      refine go ?_
      (repeat(first|refine g9 ?_|refine zh zr zr zr aj aj (by simp only[js];omega) ?_|refine kT (U:=bh) (i/2) zr zr zr zr zr zr zr hq aj ?_|(refine aY ?_;refine BY (U:=bh) 0 (i/2) zr zr zr (Nat.zero_add _) (yn hold) zr zr ?_)))
      refine oD zr zr zr aj ?_
      ((refine au 33 ((.int .u8 ((16*o:Nat):Int))) rfl ((congrArg (Value.int .u8) (by rw[show(UInt8.ofNat o).toNat=o from by rw[UInt8.toNat_ofNat'];omega];exact(dr (by show 0≤(o:Int)*2 ^ 4∧_;simp only[show min ((4:Int).toNat) IntKind.u8.bits=4 from rfl];omega)).trans (by show(o:Int)*2 ^ 4=_;omega)))) ?_))
      refine go ?_
      ((refine au 35 ((u8 (UInt8.ofNat (16*o+kX l i)))) rfl ((congrArg (Value.int .u8) (by rw[Qn o (kX l i) ac9 acS,UInt8.toNat_ofNat'];omega))) ?_))
      (repeat((refine kT (U:=bh) (i/2) zr zr zr zr zr zr zr hq aj ?_)))
      refine bE ?_
      refine n9 (U:=bh) 0 eH zr zr zr zr zr zr zr (by rw[bN,nR];omega) rfl ?_
      rw[show 0+i/2=i/2 from Nat.zero_add _,show(bV (IW l i)).set (i/2) (u8 (UInt8.ofNat (16*o+kX l i)))=bV (IW l (i+1))from by rw[← xW];simp[bV]]
      refine go ?_
      refine aQ ih (i+1) rfl ⟨aj,fun j hj=>by
        rcases Nat.lt_or_ge j i with h|h
        · exact nY j h
        · rw[show j=i from by omega,hx];simp⟩ aj cF ad
  intro fO
  have NT:i=64:=by omega
  subst NT
  have hp:kD l=some ⟨IW l 64,nR l 64⟩:=by
    unfold kD
    rw[if_pos ⟨Tc,fun c hc=>by
      obtain⟨j,hj,rfl⟩:=List.mem_iff_getElem.1 hc
      have:=nY j aj
      rwa[List.getD_eq_getElem?_getD,List.getElem?_eq_getElem hj]at this⟩]
  rw[hp]at hE
  obtain⟨d,hd⟩:∃d:Dg,d=⟨IW l 64,nR l 64⟩:=⟨_,rfl⟩
  rw[← hd]at hE
  have N1:bV (IW l 64)=dC d:=by rw[fg,hd]
  rw[N1]
  clear ih
  refine go ?_
  refine aW (U:=bh) 0 zr zr zr zr zr zr (go ?_)
  (refine bL hE ?_;apply bH (U:=bh) hE Tryz.func167 rfl (aq.refl _);(repeat(first|exact ae.nil|apply ae.tmp rfl|apply ae.agg 1 zr zr zr zr zr));exact⟨rfl,rfl⟩;exact ad)
end Go.Proofs.YtlionahpheehaaaGreatDoor
namespace Go.Proofs.YtlionahpheehaaaGreatDoor
open Go Go.SL
def gK(l:List Dg)(i:Nat):List Dg:=(cP l).take i++l.drop i
theorem sR(l:List Dg){i:Nat}(h:i≤l.length/2):(gK l i).length=l.length:=by
 grind [gK,du]
theorem xE(l:List Dg){i j:Nat}(h:i≤l.length/2)(hj:i≤j):(gK l i)[j]?=l[j]? := by
 grind [gK,cP,du]
def Ou{l:List Dg}{i:Nat}{a b:Dg}(ha:l[2*i]?=some a)(hb:l[2*i+1]?=some b):(cP l)[i]?=some (kE a b):=by
 rw[qC,ha,hb]
theorem Ig{l:List Dg}{i:Nat}{a:Dg}(ha:l[2*i]?=some a)(hb:l.length≤2*i+1):(cP l)[i]?=some a:=by
 grind [qC]
theorem MS(l:List Dg){i:Nat}(h:i<l.length/2){x:Dg}(hx:(cP l)[i]?=some x):(gK l i).set i x=gK l (i+1):=by
 unfold gK
 have h1:((cP l).take i).length=i:=by rw[List.length_take,du];omega
 rw[List.set_append_right _ _ aj,h1,Nat.sub_self,List.take_add_one,hx]
 have h2:l.drop i=l[i]::l.drop (i+1):=List.drop_eq_getElem_cons aj
 grind
theorem JA(l:List Dg)(h:l.length%2=0):(gK l (l.length/2)).take ((l.length+1)/2)=cP l:=by
 grind [gK,cP,du]
theorem MT(l:List Dg)(h:l.length%2=1){x:Dg}(hx:l[l.length-1]?=some x):((gK l (l.length/2)).set (l.length/2) x).take ((l.length+1)/2)=cP l:=by
 have h1:(cP l).length=(l.length+1)/2:=du l
 have h2:(cP l)[l.length/2]?=some x:=Ig (by rw[← hx];congr 1;omega) aj
 apply List.ext_getElem?
 grind [sR,gK]
def dy:Nat→List Dg→List Dg
 | 0,l=>l
 | j+1,l=>cP (dy j l)
def qd(l:List Dg):∀j,dy j (cP l)=dy (j+1) l
 | 0=>rfl
 | j+1=>by
  show cP (dy j (cP l))=_
  rw[qd l j];rfl
theorem Ex(l:List Dg):∀j,(dy j l).length≤l.length
 | 0=>Nat.le_refl _
 | j+1=>by
  have:=Ex l j
  grind [dy,du]
theorem As(l:List Dg)(h:1≤l.length):∀j,1≤(dy j l).length
 | 0=>h
 | j+1=>by
  have:=As l h j
  grind [dy,du]
theorem Lh:∀(f:Nat) (l:List Dg) (j:Nat),l.length≤f+1→(∀i,i<j→1<(dy i l).length)→(dy j l).length≤1→Vj f l=dy j l
 | 0,l,j,hf,hi,hj=>by
  cases j with
  | zero=>rfl
  | succ j =>
   have:=hi 0 aj
   grind [dy]
 | f+1,l,j,hf,hi,hj=>by
  unfold Vj
  cases j with
  | zero=>rw[if_pos (show l.length≤1 from hj)];rfl
  | succ j =>
   have h0:=hi 0 aj
   simp only[dy]at h0
   rw[if_neg aj,Lh f (cP l) j (by rw[du];omega) (fun i h=>by rw[qd];exact hi (i+1) aj) (by rw[qd];exact hj),qd]
theorem PV{l:List Dg}{j:Nat}(h1:l≠[])(hi:∀i,i<j→1<(dy i l).length){x:Dg}(hj:dy j l=[x]):yD l=x:=by
 grind [yD,Lh]
theorem lQ(k:Nat)(hk:0<k):∀(f:Nat) (b:List UInt8) (j:Nat),b.length≤f→(iU k f b)[j]?=if j*k<b.length then some ((b.drop (j*k)).take k)else none
 | 0,b,j,h=>by
  grind [iU]
 | f+1,b,j,h=>by
  unfold iU
  by_cases hb:b=[]
  ·grind
  ·rw[if_neg hb]
   have kY:0<b.length:=List.length_pos_iff.2 hb
   cases j with
   | zero=>simp[kY]
   | succ j =>
    rw[List.getElem?_cons_succ,lQ k hk f (b.drop k) j (by rw[List.length_drop];omega),List.length_drop,List.drop_drop]
    grind
theorem rK(k:Nat)(hk:0<k)(b:List UInt8):(iU k b.length b).length=(b.length+k-1)/k:=by
 have hg:=lQ k hk b.length b
 have h1:∀j,j<(iU k b.length b).length↔j<(b.length+k-1)/k:=by
  intro j
  have h2:=hg j (Nat.le_refl _)
  have h3:j<(b.length+k-1)/k↔j*k<b.length:=by
   rw[show j<(b.length+k-1)/k↔j+1≤(b.length+k-1)/k from Iff.rfl,Nat.le_div_iff_mul_le hk,Nat.add_mul,Nat.one_mul]
   omega
  grind
 rcases Nat.lt_trichotomy (iU k b.length b).length ((b.length+k-1)/k)with h|h|h
 ·grind
 ·exact h
 grind
attribute [local irreducible] J K aH Ends ak aK aV bX bj aS bp bD cp Sha.chunks Sha.chunk Sha.rounds Sha.sched fz cY
def eU.block{b n:Nat}{bs:List UInt8}{l:List Value}{e:TypeId}(hn:bs.length=n)(hl:l=bV bs):eU (ak b (cl l e)) (.slice (some ⟨b,0,none⟩) n n) bs:=by
 subst hn hl
 exact⟨Vw.ak (by rw[List.drop_zero,List.take_length]),_,_,rfl,Nat.le_refl _⟩
def BT(A:HP)(hK:qI A)(v:Value)(b:List UInt8)(hv:eU A v b)(hl:b.length≤900000000):aH Tryz.prog 95 [v] [A] (fun r H=>r=dV (fG b)∧H=[A]):=by
 obtain⟨a,c,rfl,hc⟩:=hv.2
 refine aH.aC Tryz.func95 Tryz.ntmps95 fun G F R hE=>?_
 refine aP rfl ?_
 refine aL zr zr zr bO ?_
 intro b2
 refine zt ?_
 (refine aP rfl ?_;refine zt ?_)
 refine az (cs:=[.slice a b.length c]) zr zr zr zr zr zr zr zr zr bO ?_
 intro b0
 refine aT (aq.trans (aq.pick [0,2] rfl) (aq.cg [_,_] _)) ?_
 ((refine ao (vf (Sep [ak b0 (cl [.slice a b.length c] 22),A]) (hK.mono (aX (i:=1) rfl)) 0 _ [b] (xh.row rfl rfl (fun i x hx=>by cases i with|zero=>(simp at hx;subst hx;exact⟨_,rfl,hv⟩)|succ i=>simp at hx)) (by simp[gz,vW];omega)) ?_))
 rintro _ _⟨rfl,rfl⟩
 refine aT (aq.cR _ _) (go ?_)
 (refine bL hE ?_;apply bH (U:=bh) hE Tryz.func95 rfl (aq.refl _);(repeat(first|exact ae.nil|apply ae.agg 2 zr zr zr zr zr));exact⟨rfl,rfl⟩;exact ad)
def pF(A:HP)(hK:qI A)(l r:Dg):aH Tryz.prog 134 [dV l,dV r] [A] (fun x H=>x=dV (kE l r)∧H=[A]):=by
 unfold dV
 refine aH.aC Tryz.func134 Tryz.ntmps134 fun G F R hE=>?_
 refine aP rfl ?_
 refine bJ zr zr bO ?_
 intro b2
 refine bJ zr zr bO ?_
 intro b3
 refine aL zr zr zr bO ?_
 intro b4
 refine go ?_
 refine aO (fun w=>Sat G w ([])) (.st 0 (.st 1 (.act 2 (.act 3 (.act 4 .nil))))) rfl aw aw aw dI ?_
 refine go ?_
 refine iP (U:=bh) zr zr zr zr zr (go ?_)
 refine iP (U:=bh) zr zr zr zr zr ?_
 refine az (cs:=[.slice (some ⟨b2,0,none⟩) 32 32,.slice (some ⟨b3,0,none⟩) 32 32]) zr zr zr zr zr zr zr zr zr (fun _ _ hw=>hw.cI ad) ?_
 intro b0
 refine aT (aq.trans (aq.pick [3,2,4] rfl) (aq.trans (aq.cg [_,_,_] _) (aq.trans (aq.pick [1,0] rfl) (aq.cg [_,_] _)))) ?_
 have oq:xh (Sep [ak b0 (cl [.slice (some ⟨b2,0,none⟩) 32 32,.slice (some ⟨b3,0,none⟩) 32 32] 22),Sep [ak b2 (cl (dC l) 29),ak b3 (cl (dC r) 29),A] ]) (.slice (some ⟨b0,0,none⟩) 2 2) [l.bs,r.bs]:=by
  refine xh.row zr zr (fun i x hx=>?_)
  match i,hx with
  | 0,hx =>
   simp at hx
   subst hx
   exact⟨_,rfl,(eU.block l.len (fg l)).mono (aX (i:=0) rfl)⟩
  | 1,hx =>
   simp at hx
   subst hx
   exact⟨_,rfl,(eU.block r.len (fg r)).mono (aX (i:=1) rfl)⟩
  | i+2,hx=>simp at hx
 have acT:=vf _ ((hK.mono (aX (H:=[ak b2 (cl (dC l) 29),ak b3 (cl (dC r) 29),A]) (i:=2) rfl)).mono (aX (i:=1) rfl)) 1 _ [l.bs,r.bs] oq (by simp[gz,vW,l.len,r.len])
 refine Vd acT ?_
 refine aT (aq.trans (aq.cR _ _) (aq.trans (aq.pick [1] rfl) (aq.cR _ _))) (go ?_)
 refine bE ?_
 refine gp (U:=bh) (l':=dC (cY 1 [l.bs,r.bs])) 4 eH rfl rfl rfl rfl (by intro e;cases e) (by rw[fg];exact lz _) rfl rfl rfl ?_
 refine go ?_
 (refine bL hE ?_;apply bH (U:=bh) hE Tryz.func134 rfl (aq.refl _);(repeat(first|exact ae.nil|apply ae.agg 4 zr zr zr zr zr));exact⟨rfl,rfl⟩;exact ad)
theorem aaQ(l:List Dg):∀v∈l.flatMap dC,v.oneCell'=true:=by
 grind [fg,dR]
theorem Cc(A:HP)(v:Value)(W:List Dg)(hv:Vw A v W.length (W.flatMap dC))(hlen:W.length≤1000000) :
  aH Tryz.prog 133 [v] [A] (fun r H=>H=[aK 29 32 r W.length (W.flatMap dC),A]):=by
 obtain⟨a,c0,rfl⟩:=hv.shape
 cases a with
 | none =>
  have hb:W=[]:=by
   obtain⟨a,cap,h1,h2|⟨b,o,h2,_⟩⟩:=hv
   ·have:=congrArg List.length h2
    rw[bR ff]at this
    exact List.eq_nil_of_length_eq_zero (by simp at this;omega)
   grind
  subst hb
  refine aH.enter Tryz.func133 aw rfl Tryz.ntmps133 zr zr ?_
  intro G F R hR
  refine go ?_
  refine al (bS 29 32 none _) ?_
  refine aG hR Tryz.func133 rfl _ zr zr (aq.fin [0,1] 0 zr zr)
 | some a =>
  refine aH.enter Tryz.func133 aw rfl Tryz.ntmps133 zr zr ?_
  intro G F R hR
  refine go ?_
  refine az (cs:=[]) zr zr zr zr zr zr zr zr zr bO ?_
  intro b0
  refine go ?_
  refine aT (fp 29 32 b0 0 0 [] [] _ rfl (Nat.le_refl _) (by simp)) ?_
  refine bg (mm:=W.length) (news:=W.flatMap dC) 0 1 zr zr zr zr zr zr zr zr zr zr zr zr hv (by rw[bR ff];rfl) (aaQ W) aj (by show _*32≤_;omega) (fun _=>rfl) bO ?_
  intro v'
  have e1:(0:Nat)+W.length=W.length:=by omega
  rw[e1,List.nil_append]
  refine go ?_
  refine aG hR Tryz.func133 rfl _ zr zr (aq.fin [0,1] 0 zr zr)
def vL(a:Option Addr)(n c:Nat):aH Tryz.prog 52 [.slice a n c] [] (fun r H=>∃b,r = .func (.func 132) #[] #[ptr b]∧H=[ak b (cl [.slice a n c] 34)]):=by
 refine aH.aC Tryz.func52 Tryz.ntmps52 fun G F R hE=>?_
 refine go ?_
 refine bJ zr zr bO ?_
 intro bx
 refine go ?_
 refine ah hE Tryz.func52 zr zr ⟨bx,rfl,rfl⟩
def lW(n:Nat):(n:Int)/2 ^ (min ((1:Int).toNat) IntKind.i64.bits)=((n/2:Nat):Int):=by
 show(n:Int)/2 ^ 1=_
 omega
theorem zL(n:Nat)(h:n<1000000000):IntKind.i64.wrap ((n:Int)*2 ^ (min ((1:Int).toNat) IntKind.i64.bits))=((2*n:Nat):Int):=by
 show IntKind.i64.wrap ((n:Int)*2 ^ 1)=_
 grind [dr,js]
theorem Lw(n:Nat)(h:n<1000000000):IntKind.i64.wrap ((BitVec.ofInt IntKind.i64.bits ((2*n:Nat):Int) ||| BitVec.ofInt IntKind.i64.bits 1).toNat:Int)=((2*n+1:Nat):Int):=by
 have h1:=zC (a:=1) (c:=n) (k:=1) (by decide)
 grind [zE,dr,js]
def sl(n:Nat)(h:n<1000000000):IntKind.i64.wrap ((BitVec.ofInt IntKind.i64.bits (n:Int) &&& BitVec.ofInt IntKind.i64.bits 1).toNat:Int)=((n%2:Nat):Int):=wN n 1 aj aj
def dT{b o c m m':Nat}(h:0<c)(hm:m'=m):Value.slice (sliceAt (some ⟨b,o,none⟩) c (0:Int).toNat 32) (((m:Nat):Int).toNat-(0:Int).toNat) (c-(0:Int).toNat) = .slice (some ⟨b,o,none⟩) m' c:=by
 subst hm
 unfold sliceAt
 rw[if_neg (by show ¬(0=c);omega)]
 simp[Addr.add]
theorem vM{b o c n:Nat}{pre junk:List Value}{acE W:List Dg}{e:TypeId}(hp:pre.length=o)(hn:n≤c)(hc:c*32≤(acE.flatMap dC).length+junk.length)(hl:(acE.flatMap dC).length=n*32)(V:List Dg)(hV:V.length=n)(hW:W=V.take W.length)(H:List HP) :
  aq (ak b (cl (pre++V.flatMap dC++junk) e)::H) (aK e 32 (.slice (some ⟨b,o,none⟩) W.length c) W.length (W.flatMap dC)::H):=by
 have h1:V.flatMap dC=W.flatMap dC++(V.drop W.length).flatMap dC:=by
  conv=>lhs;rw[← List.take_append_drop W.length V]
  grind
 have fD:W.length≤n:=by
  grind
 have h2:((V.drop W.length).flatMap dC).length=(n-W.length)*32:=by rw[bR ff,List.length_drop,hV]
 have h3:=bR ff W
 rw[h1,List.append_assoc,List.append_assoc,← List.append_assoc]
 refine jP hp aj ?_ h3 H
 grind
theorem CZ(A:HP)(hK:qI A)(bx:Nat)(v:Value)(l0:List Dg)(hv:Vw A v l0.length (l0.flatMap dC))(Ue:l0.length≤1000000)(l:Nat)(Lp:HP)(Inv:Nat→HP)(hy:∀j va vc,(∀i,i<j→1<(dy i l0).length)→cp Tryz.prog l [.slice va (dy j l0).length vc] [Lp,Inv j,aK 29 32 (.slice va (dy j l0).length vc) (dy j l0).length ((dy j l0).flatMap dC)] (fun r H=>r = .bool true∧H=[Lp,Inv (j+1),aK 29 32 (.slice va (dy j l0).length vc) (dy j l0).length ((dy j l0).flatMap dC)])) :
  aH Tryz.prog 132 [.func (.yield l) #[] #[],ptr bx] [Lp,Inv 0,ak bx (cl [v] 34),A] (fun _ H=>∃j,(∀i,i<j→1<(dy i l0).length)∧(dy j l0).length≤1∧H=[Lp,Inv (j+1),A]):=by
 refine aH.aC Tryz.func132 Tryz.ntmps132 fun G F R hE=>?_
 refine go ?_
 refine ao (Cc A v l0 hv Ue) ?_
 rintro r _ rfl
 refine aN 0 rfl ?_
 rintro ra rc rfl
 refine go ?_
 refine bF (fun y:Nat × Option Addr × Nat=>∀i,i<y.1→1<(dy i l0).length) (fun y=>(dy y.1 l0).length)
  (fun y=>[(0,.func (.yield l) #[] #[]),(3,.slice y.2.1 (dy y.1 l0).length y.2.2)])
  (fun y=>aK 29 32 (.slice y.2.1 (dy y.1 l0).length y.2.2) (dy y.1 l0).length ((dy y.1 l0).flatMap dC)::Lp::Inv y.1::A::F) (0,ra,rc) (fun i h=>by omega) rfl cF ad ?_
 rintro⟨j,a1,c1⟩ hI ih
 simp only at hI
 dsimp only
 have hle:=Ex l0 j
 refine go ?_
 refine aB zr zr ?_ ?_
 ·intro O6
  have Ru:1<(dy j l0).length:=by omega
  have hI2:∀i,i<j+1→1<(dy i l0).length:=fun i hi=>by
   grind
  have rn:dy (j+1) l0=cP (dy j l0):=rfl
  have hyj:=hy j a1 c1 hI
  obtain⟨row,xU⟩:∃row,row=dy j l0:=⟨_,rfl⟩
  rw[← xU]at hle O6 Ru rn hyj ⊢
  have uh:=du row
  refine go ?_
  refine jf zr zr zr hyj ad ?_ bI
  rintro _ _⟨rfl,rfl⟩
  refine go ?_
  refine iQ zr zr zr aj ?_
  refine au 16 ((.int .i64 ((row.length/2:Nat):Int))) rfl ((congrArg (Value.int .i64) (lW row.length))) (go ?_)
  refine al (aq.pick [2,0,1] rfl) ?_
  refine vh (fun a kX hn _=>by omega) ?_
  rintro b o cc pre junk rk mH hnc jE kJ
  simp only[Value.slice.injEq,true_and]at rk
  obtain⟨rfl,rfl⟩:=rk
  have pQ:∀i,i≤row.length/2→((gK row i).flatMap dC).length=row.length*32:=fun i hi=>by rw[bR ff,sR row hi]
  refine bF (fun i:Nat=>i≤row.length/2) (fun i=>row.length/2-i)
   (fun i=>[(0,.func (.yield l) #[] #[]),(3,.slice (some ⟨b,o,none⟩) row.length c1),(16,.int .i64 ((row.length/2:Nat):Int)),(17,.int .i64 (i:Int))])
   (fun i=>ak b (cl (pre++(gK row i).flatMap dC++junk) 29)::Lp::Inv (j+1)::A::F) 0 (Nat.zero_le _) rfl cF ad ?_
  rintro i hi LJ
  have w9:=sR row hi
  refine go ?_
  refine aB zr zr ?_ ?_
  ·intro dk
   have hi2:i<row.length/2:=by omega
   obtain⟨x,hx⟩:∃x,row[2*i]?=some x:=⟨row[2*i]' aj,by simp⟩
   obtain⟨y,J1⟩:∃x,row[2*i+1]?=some x:=⟨row[2*i+1]' aj,by simp⟩
   have hgx:=(xE row hi (show i≤2*i by omega)).trans hx
   have hgy:=(xE row hi (show i≤2*i+1 by omega)).trans J1
   have nM:=MS row hi2 (Ou hx J1)
   have dH:Vw (ak b (cl (pre++(gK row i).flatMap dC++junk) 29)) (.slice (some ⟨b,o,none⟩) row.length c1) row.length ((gK row i).flatMap dC):=Vw.ak (by rw[← mH,List.append_assoc,List.drop_left,List.take_left])
   refine go ?_
   refine aO (fun w=>Sat G w ([ak b (cl (pre++(gK row i).flatMap dC++junk) 29)])) (dM 0 13 (.act 13 (.st 14 (.act 15 .nil)))) rfl aw aw aw dI ?_
   refine go ?_
   refine oD zr zr zr aj ?_
   refine au 24 ((.int .i64 ((2*i:Nat):Int))) rfl ((congrArg (Value.int .i64) (zL i aj))) ?_
   refine cu (2*i) 32 zr zr zr zr zr zr zr zr aj ?_
   refine aY ?_
   refine dP (U:=bh) (es:=dC x) 0 ((2*i)*32) zr zr zr dH rfl (fun q v hq=>?_) zr zr zr ?_
   ·rw[cM ff hgx q (by rcases Nat.lt_or_ge q 32 with h|h;exact h;rw[List.getElem?_eq_none (by rw[ff];exact h)]at hq;cases hq)];exact hq
   refine go ?_
   refine oD zr zr zr aj ?_
   refine au 29 ((.int .i64 ((2*i:Nat):Int))) rfl ((congrArg (Value.int .i64) (zL i aj))) (go ?_)
   refine au 30 ((.int .i64 ((2*i+1:Nat):Int))) rfl ((congrArg (Value.int .i64) (Lw i aj))) ?_
   refine cu (2*i+1) 32 zr zr zr zr zr zr zr zr aj ?_
   refine aY ?_
   refine dP (U:=bh) (es:=dC y) 0 ((2*i+1)*32) zr zr zr dH rfl (fun q v hq=>?_) zr zr zr ?_
   ·rw[cM ff hgy q (by rcases Nat.lt_or_ge q 32 with h|h;exact h;rw[List.getElem?_eq_none (by rw[ff];exact h)]at hq;cases hq)];exact hq
   refine go ?_
   refine Vd ((pF A hK x y)) ?_
   refine go ?_
   refine cu i 32 zr zr zr zr zr zr zr zr aj ?_
   refine bE ?_
   refine lA (U:=bh) (l':=pre++(gK row (i+1)).flatMap dC++junk) 1 eH zr zr zr zr zr zr zr ?_ ?_ rfl ?_
   ·show o+i*32+32≤_
    rw[List.length_append,List.length_append,pQ i hi];omega
   ·show _=List.take (o+i*32) (pre++(gK row i).flatMap dC++junk)++dC (kE x y)++List.drop (o+i*32+(dC (kE x y)).length) (pre++(gK row i).flatMap dC++junk)
    rw[← mH,p8 _ _ _ _ _ (by rw[ff,pQ i hi];omega),← nM,yk ff aj]
    rfl
   refine go ?_
   refine aQ LJ (i+1) rfl aj aj cF ad
  intro fO
  have ue:i=row.length/2:=by omega
  subst ue
  clear LJ
  have afi:=pQ (row.length/2) (Nat.le_refl _)
  have w9:=sR row (Nat.le_refl (row.length/2))
  refine go ?_
  refine aE 38 ((.int .i64 ((row.length%2:Nat):Int))) rfl ((congrArg (Value.int .i64) (sl row.length aj))) ?_
  refine aB zr zr ?_ ?_
  ·intro aeZ
   have ac8:row.length%2=1:=by rw[sl _ aj]at aeZ;omega
   obtain⟨x,hx⟩:∃x,row[row.length-1]?=some x:=⟨row[row.length-1]' aj,by simp⟩
   have hgx:=(xE row (Nat.le_refl (row.length/2)) (show row.length/2≤row.length-1 by omega)).trans hx
   have dH:Vw (ak b (cl (pre++(gK row (row.length/2)).flatMap dC++junk) 29)) (.slice (some ⟨b,o,none⟩) row.length c1) row.length ((gK row (row.length/2)).flatMap dC):=Vw.ak (by rw[← mH,List.append_assoc,List.drop_left,List.take_left])
   have eA:=MT row ac8 hx
   refine go ?_
   refine iQ zr zr zr aj ?_
   refine au 43 ((.int .i64 ((row.length/2:Nat):Int))) rfl ((congrArg (Value.int .i64) (lW row.length))) (go ?_)
   refine au 47 ((.int .i64 ((row.length-1:Nat):Int))) rfl ((congrArg (Value.int .i64) aj)) ?_
   refine cu (row.length-1) 32 zr zr zr zr zr zr zr zr aj ?_
   refine aY ?_
   refine cK (U:=bh) (es:=dC x) 0 ((row.length-1)*32) zr zr zr dH rfl (fun q v hq=>?_) zr zr zr ?_
   ·rw[cM ff hgx q (by rcases Nat.lt_or_ge q 32 with h|h;exact h;rw[List.getElem?_eq_none (by rw[ff];exact h)]at hq;cases hq)];exact hq
   refine cu (row.length/2) 32 zr zr zr zr zr zr zr zr aj ?_
   refine bE ?_
   refine lA (U:=bh) (l':=pre++((gK row (row.length/2)).set (row.length/2) x).flatMap dC++junk) 0 eH zr zr zr zr zr zr zr ?_ ?_ rfl ?_
   ·show o+row.length/2*32+32≤_
    grind
   ·show _=List.take (o+row.length/2*32) (pre++(gK row (row.length/2)).flatMap dC++junk)++dC x++List.drop (o+row.length/2*32+(dC x).length) (pre++(gK row (row.length/2)).flatMap dC++junk)
    rw[← mH,p8 _ _ _ _ _ (by rw[ff,afi];omega),yk ff aj]
    rfl
   (refine go ?_;refine iQ zr zr zr aj ?_;((refine au 55 ((.int .i64 (((row.length+1)/2:Nat):Int))) rfl ((congrArg (Value.int .i64) (by show((row.length:Int)+1)/2 ^ 1=_;omega))) ?_));refine aU (p:=0) (q:=(((row.length+1)/2:Nat):Int)) zr zr zr zr zr zr zr aj aj (.inr aj) ?_;((refine au 56 ((.slice (some ⟨b,o,none⟩) (dy (j+1) l0).length c1)) rfl ((dT aj (by rw[rn,uh]))) ?_));((refine aT (vM (W:=dy (j+1) l0) mH hnc jE kJ ((gK row (row.length/2)).set (row.length/2) x) (by rw[List.length_set];exact w9) (by rw[rn,uh];exact eA.symm) _) ?_));refine go ?_;refine aQ ih (j+1,some ⟨b,o,none⟩,c1) rfl hI2 (by simp only;rw[rn,← xU];omega) cF ad)
  ·intro adA
   have aay:row.length%2=0:=by rw[sl _ aj]at adA;omega
   have eA:=JA row aay
   (refine go ?_;refine iQ zr zr zr aj ?_;((refine au 55 ((.int .i64 (((row.length+1)/2:Nat):Int))) rfl ((congrArg (Value.int .i64) (by show((row.length:Int)+1)/2 ^ 1=_;omega))) ?_));refine aU (p:=0) (q:=(((row.length+1)/2:Nat):Int)) zr zr zr zr zr zr zr aj aj (.inr aj) ?_;((refine au 56 ((.slice (some ⟨b,o,none⟩) (dy (j+1) l0).length c1)) rfl ((dT aj (by rw[rn,uh]))) ?_));((refine aT (vM (W:=dy (j+1) l0) mH hnc jE kJ (gK row (row.length/2)) w9 (by rw[rn,uh];exact eA.symm) _) ?_));refine go ?_;refine aQ ih (j+1,some ⟨b,o,none⟩,c1) rfl hI2 (by simp only;rw[rn,← xU];omega) cF ad)
 ·intro agr
  have VT:(dy j l0).length≤1:=by omega
  refine go ?_
  refine jf zr zr zr (hy j a1 c1 hI) ad ?_ bI
  rintro _ _⟨rfl,rfl⟩
  refine go ?_
  refine ag hE Tryz.func132 rfl _ rfl ⟨j,hI,VT,rfl⟩ ad
theorem Il(A:HP)(hK:qI A)(v:Value)(l0:List Dg)(hv:Vw A v l0.length (l0.flatMap dC))(Ue:l0.length≤1000000)(dw:l0≠[]):aH Tryz.prog 24 [v] [A] (fun r H=>r=dV (yD l0)∧H=[A]):=by
 obtain⟨a,c,rfl⟩:=hv.shape
 have kY:0<l0.length:=List.length_pos_iff.2 dw
 refine aH.aC Tryz.func24 Tryz.ntmps24 fun G F R hE=>?_
 refine aP rfl ?_
 refine aL zr zr zr bO ?_
 intro b2
 refine go ?_
 refine aB zr zr ?_ ?_
 ·grind
 intro _
 (refine aP rfl ?_;refine zt ?_)
 refine aL zr zr zr bO ?_
 intro b3
 refine go ?_
 refine ao (vL a l0.length c) ?_
 rintro _ _⟨bx,rfl,rfl⟩
 refine go ?_
 refine jw rfl ?_
 let rt:Nat→Dg:=fun j=>match j with|0=>Dg.zero|j+1=>((dy j l0).head?).getD Dg.zero
 refine al (aq.trans (aq.pick [2,1] rfl) (aq.cg [ak b2 (cl (dC Dg.zero) 29),ak b3 (cl (dC (rt 0)) 29)] _)) ?_
 refine pJ (Fr:=F) (Pre:=fun _ _=>[Sep [ak b2 (cl (dC Dg.zero) 29),ak b3 (cl (dC (rt 0)) 29)],ak bx (cl [.slice a l0.length c] 34),A]) (fun _ _ Lp v H=>∃j,(∀i,i<j→1<(dy i l0).length)∧(dy j l0).length≤1∧H=[Lp .ready none,Sep [ak b2 (cl (dC Dg.zero) 29),ak b3 (cl (dC (rt (j+1))) 29)],A]) rfl hE.1.1 rfl ?c (fun l r=>ad) ?eA
 case c =>
  intro l r
  refine CZ A hK bx _ l0 hv Ue l _ (fun j=>Sep [ak b2 (cl (dC Dg.zero) 29),ak b3 (cl (dC (rt j)) 29)]) ?_
  intro j va vc hI
  refine cp.Cr zr zr ?_
  intro G2 F2 R2 hY
  have hpj:=As l0 kY j
  have hrt:rt (j+1)=((dy j l0).head?).getD Dg.zero:=rfl
  obtain⟨x,row,xU⟩:∃x row,dy j l0=x::row:=by
   cases h:dy j l0 with
   | nil=>rw[h]at hpj;simp at hpj
   | cons x row=>exact⟨x,row,rfl⟩
  rw[xU]at hrt hpj
  simp only[List.head?_cons,Option.getD_some]at hrt
  rw[xU]at hY ⊢
  rw[hrt]at hY
  clear_value rt
  refine go ?_
  refine eY rfl hY ?_
  refine al (aq.trans (aq.pick [1] rfl) (aq.cR [_,_] _)) ?_
  refine eE 3 rfl ?_
  intro dH
  obtain⟨b,o,cc,tT⟩:=dH.some (by rw[List.flatMap_cons];intro h;simp[dC]at h)
  simp only[Value.slice.injEq,true_and]at tT
  obtain⟨rfl,rfl⟩:=tT
  refine go ?_
  refine cu 0 32 zr zr zr zr zr zr zr zr (by simp) ?_
  refine aY ?_
  refine cK (U:=bh) (es:=dC x) 3 0 zr zr zr dH rfl (fun q v hq=>?_) zr zr zr ?_
  ·grind
  refine bE ?_
  refine gp (U:=bh) (l':=dC x) 1 eH rfl rfl rfl rfl (by intro e;cases e) (by rw[fg];exact lz _) rfl rfl rfl ?_
  refine go ?_
  refine al (aq.cg [_,_] _) ?_
  refine eF hY rfl ad ⟨rfl,rfl⟩
 rintro l r v H'⟨j,hI,hj,rfl⟩
 refine⟨_,_,_,rfl,by decide,?_⟩
 have hpj:=As l0 kY j
 obtain⟨x,hx⟩:∃x,dy j l0=[x]:=by
  match h:dy j l0,hpj,hj with
  | [x],_,_=>exact⟨x,rfl⟩
 have VG:=PV dw hI hx
 have hrt:rt (j+1)=x:=by show((dy j l0).head?).getD Dg.zero=x;rw[hx];rfl
 rw[hrt,hE.1.2]
 rw[VG]at hE
 clear_value rt
 refine al (aq.cR [_,_] _) (go ?_)
 refine aW (U:=bh) 1 zr zr zr zr zr zr ?_
 refine gp (U:=bh) (l':=dC x) 0 eH rfl rfl rfl rfl (by intro e;cases e) (by rw[fg];exact lz _) rfl rfl rfl ?_
 refine go ?_
 (apply bH (U:=bh) hE Tryz.func24 rfl ad;(repeat(first|exact ae.nil|apply ae.agg 0 zr zr zr zr zr));exact⟨rfl,rfl⟩;exact ad)
end Go.Proofs.YtlionahpheehaaaGreatDoor
namespace Go.Proofs.YtlionahpheehaaaGreatDoor
open Go Go.SL
def ix(x:Bl):Value := .agg (ck x).toArray
def SF(g:FuncId)(cap:List Value)(ds:List Dg)(Pre Post:List HP):Prop :=
 ∀(l:Nat) (Lp:HP) (Inv:Nat→HP),(∀j d,ds[j]?=some d→cp Tryz.prog l [dV d] [Lp,Inv j] (fun v H=>v = .bool true∧H=[Lp,Inv (j+1)])) →
  aH Tryz.prog g (.func (.yield l) #[] #[]::cap) (Lp::Inv 0::Pre) (fun _ H=>H=Lp::Inv ds.length::Post)
def GI(bs:Nat)(ks:List Dg):HP:=fun h=>∃v:Value,True∧Sep [ak bs (cl [v] 34),aK 29 32 v ks.length (ks.flatMap dC)] h
def My(bs:Nat)(ks:List Dg):∀h,GI bs ks h→∃v,True∧Sep [ak bs (cl [v] 34),aK 29 32 v ks.length (ks.flatMap dC)] h:=fun h hs=>hs
def IE(bs:Nat)(ks:List Dg)(v:Value)(H:List HP):aq (ak bs (cl [v] 34)::aK 29 32 v ks.length (ks.flatMap dC)::H) (GI bs ks::H) :=
 aq.fold (A:=GI bs ks) (B:=[ak bs (cl [v] 34),aK 29 32 v ks.length (ks.flatMap dC)]) fun h hs=>⟨h,sub.refl h,v,trivial,hs⟩
attribute [local irreducible] J K aH Ends ak aK aV bX bj aS bp bD cp Sha.chunks Sha.chunk Sha.rounds Sha.sched fz cY GI
def sI(g:FuncId)(cap:List Value)(ds:List Dg)(Pre Post:List HP)(hN:ds.length≤1000000)(hi:SF g cap ds Pre Post) :
  aH Tryz.prog 92 [.slice none 0 0,.func (.func g) #[] cap.toArray] Pre (fun r H=>H=aK 29 32 r ds.length (ds.flatMap dC)::Post):=by
 refine aH.aC Tryz.func92 Tryz.ntmps92 fun G F R hE=>?_
 refine aP rfl ?_
 refine bJ zr zr bO ?_
 intro bs
 refine go ?_
 refine jw rfl ?_
 refine al (aq.trans (aq.cons _ (bS 29 32 none _)) (IE bs [] (.slice none 0 0) _)) ?_
 refine wW (Fr:=F) (Pre:=fun _ _=>GI bs []::Pre) (Post:=?Po) rfl hE.1.1 rfl ?c (fun l r=>aq.refl _) ?eA
 case c =>
  intro l r
  refine hi l _ (fun j=>GI bs (ds.take j)) ?_
  intro j k FT
  have I2:=(List.getElem?_eq_some_iff.1 FT).1
  have l8:(ds.take j).length=j:=by rw[List.length_take];omega
  have om:ds.take (j+1)=ds.take j++[k]:=by rw[List.take_add_one,FT];rfl
  refine cp.Cr zr zr ?_
  intro G2 F2 R2 hY
  refine aP rfl ?_
  refine aL zr zr zr bO ?_
  intro b5
  refine go ?_
  refine al (aq.pick [1] rfl) ?_
  refine eY rfl hY ?_
  refine al (aq.pick [2] rfl) ?_
  refine dZ (My bs (ds.take j)) ?_
  rintro v -
  refine aM 1 rfl ?_
  rintro va vc rfl
  refine go ?_
  refine aW (U:=bh) 3 zr zr zr zr zr zr ?_
  refine az (cs:=dC k) zr zr zr zr zr zr zr zr zr bO ?_
  intro row
  refine go ?_
  refine bg (mm:=1) (news:=dC k) 2 0 zr zr zr zr zr zr zr zr zr zr zr zr (Vw.ak rfl) rfl (by rw[fg];exact dR _) (by rw[l8];omega) (by show(_+1)*32≤_;rw[l8];omega) (fun _=>rfl) bO ?_
  intro v1
  rw[show(ds.take j).flatMap dC++dC k=(ds.take (j+1)).flatMap dC from by rw[om];simp,show(ds.take j).length+1=(ds.take (j+1)).length from by rw[om];simp]
  refine aN 2 rfl ?_
  rintro va2 vc2 rfl
  refine go ?_
  refine al (aq.trans ad (IE bs (ds.take (j+1)) (.slice va2 (ds.take (j+1)).length vc2) _)) ?_
  refine eF hY rfl ad ⟨rfl,rfl⟩
 intro l r v H dQ
 subst dQ
 refine⟨_,_,_,rfl,by decide,?_⟩
 rw[hE.1.2,List.take_length]
 refine dZ (My bs ds) ?_
 rintro w -
 refine go ?_
 refine pI hE Tryz.func92 rfl _ zr zr ?_
 exact(aq.drop _ _).trans (aq.perm (((List.perm_middle (a:=ak r (.deferred (some []))) (l₁:=Post) (l₂:=F)).cons _).trans (List.Perm.swap _ _ _)))
def w8(g:FuncId)(cap:List Value)(ds:List Dg)(Pre Post:List HP)(hN:ds.length≤1000000)(hi:SF g cap ds Pre Post) :
  aH Tryz.prog 26 [.func (.func g) #[] cap.toArray] Pre (fun r H=>H=aK 29 32 r ds.length (ds.flatMap dC)::Post):=by
 refine aH.aC Tryz.func26 Tryz.ntmps26 fun G F R hE=>?_
 refine go ?_
 refine ao (sI g cap ds Pre Post hN hi) ?_
 rintro w _ rfl
 refine go ?_
 refine aG hE Tryz.func26 rfl _ zr zr ad
def yj(s p:Int)(hs:1≤s∧s≤1048576)(hp:1≤p∧p≤16384):aH Tryz.prog 91 [.int .i64 s,.int .i64 p] [] (fun r H=>r = .int .i64 ((s+p-1)/p)∧H=[]):=by
 have h1:0≤(s+p-1)/p:=Int.ediv_nonneg aj aj
 have h2:(s+p-1)/p≤s+p-1:=Int.ediv_le_self _ aj
 refine aH.aC Tryz.func91 Tryz.ntmps91 fun G F R hE=>?_
 refine go ?_
 refine zh zr zr zr aj aj (by simp only[js];omega) ?_
 refine go ?_
 refine ah hE Tryz.func91 zr zr ⟨rfl,rfl⟩
def km(x:Bl):aH Tryz.prog 25 [ix x] [] (fun r H=>r = .bool (bP x)∧H=[]):=by
 have hF:¬(1≤x.size∧x.size≤1048576∧16≤x.piece∧x.piece≤16384)→Value.bool false = .bool (bP x):=fun h=>congrArg Value.bool (by unfold bP;rw[decide_eq_false (by rintro⟨a,b,c,e,_⟩;exact h ⟨a,b,c,e⟩)])
 have hT:(1≤x.size∧x.size≤1048576∧16≤x.piece∧x.piece≤16384)→Value.bool (decide ((x.size+x.piece-1)/x.piece≤1024)) = .bool (bP x):=fun h=>congrArg Value.bool (by unfold bP;rw[decide_eq_decide];exact⟨fun g=>⟨h.1,h.2.1,h.2.2.1,h.2.2.2,g⟩,fun g=>g.2.2.2.2⟩)
 unfold ix
 refine aH.aC Tryz.func25 Tryz.ntmps25 fun G F R hE=>?_
 refine aP rfl ?_
 refine bJ zr zr bO ?_
 intro b1
 repeat'(first|(with_reducible intro k9)|refine g9 ?_|refine dA zr zr zr zr ?_ ?_|(refine ao (yj x.size x.piece aj aj) ?_;rintro _ _⟨rfl,rfl⟩))
 all_goals(first|((refine ah hE Tryz.func25 zr zr ⟨hF aj,rfl⟩))|((refine ah hE Tryz.func25 zr zr ⟨hT aj,rfl⟩)))
def yv(x:Bl):aH Tryz.prog 51 [ix x] [] (fun r H=>r = .int .i64 (cT x)∧H=[]):=by
 unfold ix
 refine aH.aC Tryz.func51 Tryz.ntmps51 fun G F R hE=>?_
 refine aP rfl ?_
 refine bJ zr zr bO ?_
 intro b1
 refine go ?_
 refine aW (U:=bh) 0 zr zr zr zr zr zr ?_
 refine aeb (km x) ?_
 cases hr:bP x with
 | false =>
  have hc:cT x=0:=by unfold cT;rw[if_neg (by rw[hr];simp)]
  rw[hc]at hE
  refine go ?_
  refine ah hE Tryz.func51 zr zr ⟨rfl,rfl⟩
 | true =>
  have hc:cT x=(x.size+x.piece-1)/x.piece:=by unfold cT;rw[if_pos hr]
  rw[hc]at hE
  simp only[bP,decide_eq_true_eq]at hr
  refine go ?_
  refine aeb (yj x.size x.piece aj aj) ?_
  refine go ?_
  refine ah hE Tryz.func51 zr zr ⟨rfl,rfl⟩
def py(x:Bl):0≤cT x∧cT x≤1024:=by
 unfold cT
 split
 ·rename_i hr
  simp only[bP,decide_eq_true_eq]at hr
  exact⟨Int.ediv_nonneg aj aj,hr.2.2.2.2⟩
 ·omega
theorem Eo{x:Bl}{i:Int}(h0:0≤i)(h1:i<cT x):bP x=true∧0≤i*x.piece∧i*x.piece<x.size:=by
 unfold cT at h1
 split at h1
 ·rename_i hr
  have LV:=hr
  simp only[bP,decide_eq_true_eq]at hr
  refine⟨LV,Int.mul_nonneg h0 aj,?_⟩
  have h2:(i+1)*x.piece≤x.size+x.piece-1:=by
   have:=(Int.le_ediv_iff_mul_le (a:=i+1) (b:=x.size+x.piece-1) (c:=x.piece) aj).1 aj
   exact this
  grind
 ·omega
def wQ(x:Bl)(i:Int):aH Tryz.prog 11 [ix x,.int .i64 i] [] (fun r H=>r=(match dX x i with
  | none => .tuple #[.int .i64 0,.int .i64 0,.int .i64 1]
  | some (a,n) => .tuple #[.int .i64 a,.int .i64 n,.int .i64 0])∧H=[]):=by
 unfold ix
 refine aH.aC Tryz.func11 Tryz.ntmps11 fun G F R hE=>?_
 refine aP rfl ?_
 refine bJ zr zr bO ?_
 intro b1
 have hN:(i<0∨cT x≤i)→dX x i=none:=fun h=>by unfold dX;rw[if_pos h]
 repeat'(first|(with_reducible intro k9)|refine g9 ?_|refine dA zr zr zr zr ?_ ?_|refine aB zr zr ?_ ?_|refine aW (U:=bh) 0 zr zr zr zr zr zr ?_|(refine ao (yv x) ?_;rintro _ _⟨rfl,rfl⟩))
 all_goals(first|(rw[hN aj]at hE;((refine ah hE Tryz.func11 zr zr ⟨rfl,rfl⟩)))|skip)
 have hs:dX x i=some (i*x.piece,min x.piece (x.size-i*x.piece)):=by unfold dX;rw[if_neg aj]
 rw[hs]at hE
 obtain⟨hr,yZ,hms⟩:=Eo (x:=x) (i:=i) aj aj
 simp only[bP,decide_eq_true_eq]at hr
 obtain⟨q,hq⟩:∃q,q=i*x.piece:=⟨_,rfl⟩
 rw[← hq]at yZ hms hE
 refine aO (fun w=>Sat G w ([ak b1 (cl (ck x) 31)])) (dM 0 17 .nil) rfl aw aw aw dI ?_
 (repeat(first|refine g9 ?_|(refine tH ?_;refine nG zr zr zr (by rw[← hq];simp only[js];omega) ?_;rw[← hq])))
 refine ah hE Tryz.func11 zr zr ⟨rfl,rfl⟩
theorem Eb(a:Option Addr)(n c:Nat)(k:Int)(hk:1≤k):aH Tryz.prog 94 [.slice a n c,.int .i64 k] [] (fun r H=>∃b1 b2,r = .func (.func 163) #[] #[ptr b1,ptr b2]∧H=[ak b1 (cl [.slice a n c] 22),ak b2 (cl [.int .i64 k] 3)]):=by
 refine aH.aC Tryz.func94 Tryz.ntmps94 fun G F R hE=>?_
 refine aP rfl ?_
 refine bJ zr zr bO ?_
 intro b1
 refine bJ zr zr bO ?_
 intro b2
 refine go ?_
 refine aB zr zr ?_ ?_
 ·grind
 intro _
 refine go ?_
 refine ah hE Tryz.func94 zr zr ⟨b1,b2,rfl,rfl⟩
theorem K9(A:HP)(b1 b2:Nat)(v:Value)(b:List UInt8)(hv:eU A v b)(hl:b.length≤1000000000)(k:Nat)(hk:1≤k)(Ch:k≤1000000000)(l:Nat)(Lp:HP)(Inv:Nat→HP)(hy:∀j p rv,(iU k b.length b)[j]?=some p→eU A rv p→cp Tryz.prog l [rv] [Lp,Inv j,A] (fun r H=>r = .bool true∧H=[Lp,Inv (j+1),A])) :
  aH Tryz.prog 163 [.func (.yield l) #[] #[],ptr b1,ptr b2] [Lp,Inv 0,ak b1 (cl [v] 22),ak b2 (cl [.int .i64 (k:Int)] 3),A] (fun _ H=>H=[Lp,Inv (iU k b.length b).length,A]):=by
 obtain⟨a,c,rfl,hc⟩:=hv.2
 have hpg:=lQ k hk b.length b
 have qO:=rK k hk b
 refine aH.aC Tryz.func163 Tryz.ntmps163 fun G F R hE=>?_
 refine go ?_
 refine bF (fun j:Nat=>j≤(b.length+k-1)/k) (fun j=>(b.length+k-1)/k-j)
  (fun j=>[(0,.func (.yield l) #[] #[]),(1,ptr b1),(2,ptr b2),(4,.int .i64 ((j*k:Nat):Int))])
  (fun j=>Lp::Inv j::ak b1 (cl [.slice a b.length c] 22)::ak b2 (cl [.int .i64 (k:Int)] 3)::A::F) 0 (Nat.zero_le _) rfl (by rw[Nat.zero_mul];exact cF) ad ?_
 rintro j hj ih
 have FT:j*k≤b.length+k-1:=by
  have:=(Nat.le_div_iff_mul_le hk).1 hj
  exact this
 refine go ?_
 refine aB zr zr ?_ ?_
 ·intro dk
  have qX:j*k<b.length:=by omega
  have xd:j+1≤(b.length+k-1)/k:=by
   grind
  have hp:=hpg j (Nat.le_refl _)
  rw[if_pos qX]at hp
  obtain⟨p,hpe⟩:∃p,p=(b.drop (j*k)).take k:=⟨_,rfl⟩
  rw[← hpe]at hp
  have VK:p.length=min k (b.length-j*k):=by rw[hpe,List.length_take,List.length_drop]
  obtain⟨jk,aat⟩:∃jk,jk=j*k:=⟨_,rfl⟩
  rw[← aat]at qX hpe VK FT ⊢
  refine go ?_
  refine aO (fun w=>Sat G w ([ak b1 (cl [.slice a b.length c] 22),ak b2 (cl [.int .i64 (k:Int)] 3)])) (dM 0 7 .nil) rfl aw aw aw dI ?_
  refine go ?_
  refine aU (p:=((jk:Nat):Int)) (q:=(b.length:Int)) zr zr zr zr zr zr zr aj aj (.inl rfl) (go ?_)
  have aao:(jk:Int)+min (k:Int) (((((b.length:Int)).toNat-((jk:Nat):Int).toNat:Nat)):Int)=((jk+p.length:Nat):Int):=by rw[VK];omega
  refine OI (U:=bh) zr zr zr zr zr zr zr zr aj aj aj aj ?_
  have hbp:=hv.piece jk (jk+p.length) aj aj
  rw[show jk+p.length-jk=p.length from by omega]at hbp
  have aeS:(b.drop jk).take p.length=p:=by
   simp_all
  rw[aeS]at hbp
  have afy:eU A (.slice (sliceAt a (jk+p.length) jk 1) p.length p.length) p:=by
   obtain⟨ko,a2,c2,Hu,qu⟩:=hbp
   refine⟨?_,_,_,rfl,Nat.le_refl _⟩
   obtain⟨a3,c3,he3,g8⟩:=ko
   simp only[Value.slice.injEq,true_and]at he3
   have e:sliceAt a (jk+p.length) jk 1=sliceAt a c jk 1:=by
    unfold sliceAt
    rw[if_neg aj,if_neg aj]
   rw[e]
   exact⟨_,_,rfl,by rw[he3.1];exact g8⟩
  refine au 28 (.slice (sliceAt a (jk+p.length) jk 1) p.length p.length) rfl (by rw[aao,Int.toNat_natCast,Int.toNat_natCast,show jk+p.length-jk=p.length from by omega];rfl) ?_
  refine go ?_
  refine jf zr zr zr (hy j p _ hp afy) ad ?_ bI
  rintro _ _⟨rfl,rfl⟩
  refine go ?_
  ((refine aE 4 ((.int .i64 (((j+1)*k:Nat):Int))) rfl ((congrArg (Value.int .i64) (by rw[Nat.add_mul,Nat.one_mul,← aat];omega))) ?_))
  refine aQ ih (j+1) rfl xd aj cF ad
 intro fO
 have Rq:j=(b.length+k-1)/k:=by
  rcases Nat.lt_or_ge j ((b.length+k-1)/k)with h|h
  ·exfalso
   have h2:=(Nat.le_div_iff_mul_le (x:=j+1) hk).1 h
   rw[Nat.add_mul,Nat.one_mul]at h2
   omega
  ·omega
 refine go ?_
 rw[qO,← Rq]at hE
 refine ag hE Tryz.func163 rfl _ zr zr ad
end Go.Proofs.YtlionahpheehaaaGreatDoor
namespace Go.SL
open Go
section
variable{P:Program}
theorem zB{t e:TypeId}(hu:P.underlying t=some (.array 32 e))(hc:P.cellsOf t=32)(xs:List Value)(off:Nat)(d:Dg)(h:(xs.drop off).take 32=dC d)(w:World):(part t xs.toArray off).run P w = .ok (dV d) w:=by
 obtain⟨i,hi⟩:=info_of_underlying hu
 have hs:=Go.run_sizeOf w hi
 rw[hc]at hs
 simp only[part,isAgg,Sem.run_bind,Go.run_underlying hu,Result.andThen_ok,Sem.run_pure,if_true,hs]
 have:xs.toArray.extract off (off+32)=(dC d).toArray:=by
  grind
 rw[this]
 rfl
def MQ{t:TypeId}(hu:P.underlying t=some (.int .i64))(a b:Int)(D:Nat)(w:World):(Op.equalIn (D+1) t (.int .i64 a) (.int .i64 b)).run P w = .ok (decide (a=b)) w:=by
 simp only[Op.equalIn,Sem.run_bind,Go.run_underlying hu,Result.andThen_ok,if_true,Sem.run_pure]
 rfl
theorem Co{td ti:TypeId}{f1 f2 f3 f4:Field}(n1:f1.name ≠ "_")(n2:f2.name ≠ "_")(n3:f3.name ≠ "_")(n4:f4.name ≠ "_")(E:Nat)(w:World)(c1 c2:List Value)(d1 d2 r1 r2:Dg)(s1 s2 p1 p2:Int)(eD:∀a b:Dg,(Op.equalIn E td (dV a) (dV b)).run P w = .ok (decide (a=b)) w)(eI:∀a b:Int,(Op.equalIn E ti (.int .i64 a) (.int .i64 b)).run P w = .ok (decide (a=b)) w)(t1:f1.type=td)(t2:f2.type=ti)(t3:f3.type=ti)(t4:f4.type=td)(p01:(part td c1.toArray f1.offset).run P w = .ok (dV d1) w)(p02:(part td c2.toArray f1.offset).run P w = .ok (dV d2) w)(p11:(part ti c1.toArray f2.offset).run P w = .ok (.int .i64 s1) w)(p12:(part ti c2.toArray f2.offset).run P w = .ok (.int .i64 s2) w)(p21:(part ti c1.toArray f3.offset).run P w = .ok (.int .i64 p1) w)(p22:(part ti c2.toArray f3.offset).run P w = .ok (.int .i64 p2) w)(p31:(part td c1.toArray f4.offset).run P w = .ok (dV r1) w)(p32:(part td c2.toArray f4.offset).run P w = .ok (dV r2) w) :
  (Op.eqFields E c1.toArray c2.toArray [f1,f2,f3,f4]).run P w = .ok (decide (d1=d2∧s1=s2∧p1=p2∧r1=r2)) w:=by
 by_cases h1:d1=d2
 ·by_cases h2:s1=s2
  ·by_cases h3:p1=p2
   ·simp[Op.eqFields,n1,n2,n3,n4,t1,t2,t3,t4,p01,p02,p11,p12,p21,p22,p31,p32,eD,eI,h1,h2,h3]
    grind
   ·simp[Op.eqFields,n1,n2,n3,n4,t1,t2,t3,t4,p01,p02,p11,p12,p21,p22,p31,p32,eD,eI,h1,h2,h3]
  ·simp[Op.eqFields,n1,n2,n3,n4,t1,t2,t3,t4,p01,p02,p11,p12,p21,p22,p31,p32,eD,eI,h1,h2]
 ·simp[Op.eqFields,n1,n2,n3,n4,t1,t2,t3,t4,p01,p02,p11,p12,p21,p22,p31,p32,eD,eI,h1]
end
end Go.SL
namespace Go.Proofs.YtlionahpheehaaaGreatDoor
open Go Go.SL
attribute [local irreducible] J K aH Ends ak aK aV bX bj aS bp bD cp Sha.chunks Sha.chunk Sha.rounds Sha.sched fz cY GI fG
theorem yQ(A:HP)(hK:qI A)(b1 b2:Nat)(v:Value)(b:List UInt8)(hv:eU A v b)(hl:b.length≤900000000)(k:Nat)(hk:1≤k)(Ch:k≤1000000000) :
  SF 93 [ptr b1,ptr b2] ((iU k b.length b).map fG) [ak b1 (cl [v] 22),ak b2 (cl [.int .i64 (k:Int)] 3),A] [A]:=by
 intro l Lp Inv hy
 obtain⟨a,c,rfl,hc⟩:=hv.2
 refine aH.aC Tryz.func93 Tryz.ntmps93 fun G F R hE=>?_
 refine aP rfl ?_
 refine bJ zr zr bO ?_
 intro b3
 refine go ?_
 refine ao (Eb a b.length c (k:Int) aj) ?_
 rintro _ _⟨c1,c2,rfl,rfl⟩
 refine go ?_
 refine jw rfl ?_
 refine al (aq.trans (aq.pick [3,4,2] rfl) (aq.cg [Lp,Inv 0,ak b3 (cl [.func (.yield l) #[] #[] ] 91)] _)) ?_
 refine pJ (Fr:=F) (Pre:=fun _ _=>[Sep [Lp,Inv 0,ak b3 (cl [.func (.yield l) #[] #[] ] 91)],ak c1 (cl [.slice a b.length c] 22),ak c2 (cl [.int .i64 (k:Int)] 3),A]) (fun _ _ Lp2 v H=>H=[Lp2 .ready none,Sep [Lp,Inv (iU k b.length b).length,ak b3 (cl [.func (.yield l) #[] #[] ] 91)],A]) rfl hE.1.1 rfl ?c (fun l r=>ad) ?eA
 case c =>
  intro l2 r2
  refine K9 A c1 c2 _ b hv aj k hk Ch l2 _ (fun j=>Sep [Lp,Inv j,ak b3 (cl [.func (.yield l) #[] #[] ] 91)]) ?_
  intro j p rv hp hbp
  have hyj:=hy j (fG p) (by rw[List.getElem?_map,hp];rfl)
  have qO:p.length≤900000000:=by
   grind [lQ]
  refine cp.Cr zr zr ?_
  intro G F2 R2 hY
  refine go ?_
  refine eY rfl hY ?_
  refine al (aq.trans (aq.pick [1] rfl) (aq.cR [_,_,_] _)) ?_
  refine aO (fun w=>Sat G w ([ak b3 (cl [.func (.yield l) #[] #[] ] 91)])) (.st 0 (.st 1 (.act 2 (.act 3 (.st 4 .nil))))) rfl aw aw aw dI ?_
  refine go ?_
  refine Vd ((BT A hK rv p hbp qO)) ?_
  refine go ?_
  refine jf rfl rfl rfl hyj ad ?_ xq
  rintro _ _⟨rfl,rfl⟩
  refine go ?_
  refine al (aq.trans (aq.pick [0,1,3] rfl) (aq.cg [Lp,Inv (j+1),ak b3 (cl [.func (.yield l) #[] #[] ] 91)] _)) ?_
  refine eF hY rfl ad ⟨rfl,rfl⟩
 rintro l2 r2 v2 H' rfl
 refine⟨_,_,_,rfl,by decide,?_⟩
 rw[hE.1.2]
 rw[List.length_map]at hE
 refine al (aq.cR [_,_,_] _) (go ?_)
 apply KU hE Tryz.func93 rfl _ zr zr
 exact ad
def AU(a:Option Addr)(n c:Nat)(k:Int):aH Tryz.prog 27 [.slice a n c,.int .i64 k] [] (fun r H=>∃b1 b2,r = .func (.func 93) #[] #[ptr b1,ptr b2]∧H=[ak b1 (cl [.slice a n c] 22),ak b2 (cl [.int .i64 k] 3)]):=by
 refine aH.aC Tryz.func27 Tryz.ntmps27 fun G F R hE=>?_
 refine aP rfl ?_
 refine bJ zr zr bO ?_
 intro b1
 refine bJ zr zr bO ?_
 intro b2
 refine go ?_
 refine ah hE Tryz.func27 zr zr ⟨b1,b2,rfl,rfl⟩
theorem rQ{b:List UInt8}{k:Int}{ls:List Dg}(h:er b k=some ls):1≤ls.length∧ls.length≤1024:=by
 unfold er at h
 split at h
 ·rename_i hr
  cases h
  simp only[bP,decide_eq_true_eq]at hr
  obtain⟨k,rfl⟩:∃m:Nat,k=m:=⟨k.toNat,aj⟩
  rw[List.length_map,Int.toNat_natCast,rK k aj]
  have h2:=hr.2.2.2.2
  have h3:((b.length:Int)+(k:Int)-1)/(k:Int)=(((b.length+k-1)/k:Nat):Int):=by
   grind
  rw[h3]at h2
  have h4:1≤(b.length+k-1)/k:=by rw[Nat.le_div_iff_mul_le aj];omega
  omega
 ·cases h
def qF(A:HP)(hK:qI A)(v:Value)(b:List UInt8)(hv:eU A v b)(hl:b.length≤9223372036854775807)(k:Int) :
  aH Tryz.prog 6 [v,.int .i64 k] [A] (fun r H=>(er b k=none∧r = .tuple #[.slice none 0 0,.int .i64 1]∧H=[A])∨∃ls rv,er b k=some ls∧r = .tuple #[rv,.int .i64 0]∧H=[aK 29 32 rv ls.length (ls.flatMap dC),A]):=by
 obtain⟨a,c,rfl,hc⟩:=hv.2
 refine aH.aC Tryz.func6 Tryz.ntmps6 fun G F R hE=>?_
 ((refine go ?_;(refine ao (km ⟨Dg.zero,b.length,k,Dg.zero⟩) ?_)))
 rintro _ _⟨rfl,rfl⟩
 cases hr:bP ⟨Dg.zero,b.length,k,Dg.zero⟩with
 | false =>
  have hn:er b k=none:=by unfold er;rw[if_neg (by rw[hr];simp)]
  refine go ?_
  refine ah hE Tryz.func6 zr zr (.inl ⟨hn,rfl,rfl⟩)
 | true =>
  have hs:er b k=some ((iU k.toNat b.length b).map fG):=by unfold er;rw[if_pos hr]
  have FR:=rQ hs
  simp only[bP,decide_eq_true_eq]at hr
  obtain⟨k,rfl⟩:∃m:Nat,k=m:=⟨k.toNat,aj⟩
  rw[Int.toNat_natCast]at hs FR
  refine go ?_
  refine ao (AU a b.length c (k:Int)) ?_
  rintro _ _⟨b1,b2,rfl,rfl⟩
  refine go ?_
  refine ao (w8 93 [ptr b1,ptr b2] _ [ak b1 (cl [.slice a b.length c] 22),ak b2 (cl [.int .i64 (k:Int)] 3),A] [A] aj (yQ A hK b1 b2 _ b hv aj k aj aj)) ?_
  rintro rv _ rfl
  refine go ?_
  refine ah hE Tryz.func6 zr zr (.inr ⟨_,_,hs,rfl,rfl⟩)
def Sr{P:Program}{f:FuncId}{n:Nat}{R:Ending→World→Prop}{G:cL}{k:List Item}{L:gh}{H:List HP}{S:World→Prop}{all:Array Oper}{rest:Pl}{e:TypeId}{sz nn:Nat}{v:Value}{cs:List Value}{A:HP}(h:Vw (aK e sz v nn cs) v nn cs→J P f n R G S all rest k L (Sep [aK e sz v nn cs,A]::H)):J P f n R G S all rest k L (aK e sz v nn cs::A::H) :=
 zg fun w hw=>by
  obtain⟨h1,_,hA⟩:=hw.kp (i:=0) rfl
  exact aT (aq.cg [_,_] _) (h (Vw.lj e sz v nn cs ⟨h1,hA⟩))
theorem Cf(A:HP)(hK:qI A)(v:Value)(b:List UInt8)(hv:eU A v b)(hl:b.length≤9223372036854775807)(k:Int) :
  aH Tryz.prog 5 [v,.int .i64 k] [A] (fun r H=>r=(match jF b k with
   | none => .tuple #[ix Bl.zero,.int .i64 1]
   | some x => .tuple #[ix x,.int .i64 0])∧H=[A]):=by
 have rk:=hv
 obtain⟨a,c,rfl,hc⟩:=hv.2
 refine aH.aC Tryz.func5 Tryz.ntmps5 fun G F R hE=>?_
 refine aP rfl ?_
 refine aL zr zr zr bO ?_
 intro b4
 refine go ?_
 refine ao (qF A hK _ b hv hl k) ?_
 rintro _ _ (⟨hn,rfl,rfl⟩|⟨ls,rv,hs,rfl,rfl⟩)
 ·have hb:jF b k=none:=by unfold jF;rw[hn];rfl
  rw[hb]at hE
  refine go ?_
  (refine bL hE ?_;apply bH (U:=bh) hE Tryz.func5 rfl (aq.refl _);(repeat(first|exact ae.nil|apply ae.tmp rfl|apply ae.agg 1 zr zr zr zr zr));exact⟨rfl,rfl⟩;exact ad)
 ·have hb:jF b k=some ⟨fz b,b.length,k,yD ls⟩:=by unfold jF;rw[hs];rfl
  rw[hb]at hE
  have FR:=rQ hs
  have Kb:b.length≤1048576:=by
   grind [er,bP]
  refine aN 0 rfl ?_
  rintro ra rc rfl
  refine go ?_
  refine aeb (qE A hK _ b hv aj) ?_
  refine go ?_
  refine aT (aq.pick [1,0] rfl) ?_
  refine Sr fun dH=>?_
  ((refine ao (Il _ (hK.mono (aX (i:=1) rfl)) _ ls (dH.mono (aX (i:=0) rfl)) aj (by intro e;rw[e]at FR;simp at FR)) ?_))
  rintro _ _⟨rfl,rfl⟩
  refine aT (aq.cR _ _) (go ?_)
  (refine bL hE ?_;apply bH (U:=bh) hE Tryz.func5 rfl (aq.refl _);(repeat(first|exact ae.nil|apply ae.tmp rfl|apply ae.agg 2 zr zr zr zr zr));exact⟨rfl,rfl⟩;exact ad)
def aaV(x:Bl):((ck x).drop 0).take 32=dC x.d:=rfl
def UU(x:Bl):((ck x).drop 34).take 32=dC x.root:=rfl
def adW(x:Bl):(ck x).toArray[32]?=some (.int .i64 x.size):=rfl
def adV(x:Bl):(ck x).toArray[33]?=some (.int .i64 x.piece):=rfl
def aaZ : Tryz.prog.fieldsOf 31 = #[{ name := "Digest", type := 29, offset := 0, embedded := false, tag := "", pkgPath := "", byteOffset := 0 },
        { name := "Size", type:=3,offset:=32,embedded:=false,tag := "", pkgPath := "", byteOffset:=32 },
        { name := "Piece", type:=3,offset:=33,embedded:=false,tag := "", pkgPath := "", byteOffset:=40 },
        { name := "Root", type:=29,offset:=34,embedded:=false,tag := "", pkgPath := "", byteOffset:=48 }]:=by kernel_rfl
def aaY:Tryz.prog.underlying 31=some (.struct (Tryz.prog.fieldsOf 31)):=by kernel_rfl
def UW:Tryz.prog.stoodInHeld 31=false:=by kernel_rfl
def afO:Tryz.prog.cellsOf 29=32:=by kernel_rfl
def aaW:Tryz.prog.cellsOf 5=1:=by kernel_rfl
def afN:Tryz.prog.plainKey 3=true:=by kernel_rfl
def aaK:Tryz.prog.eqGuardType Tryz.prog.depth 31=false:=by kernel_rfl
def adO{P : Program}(h1 : P.fieldsOf 31 = #[{ name := "Digest", type := 29, offset := 0, embedded := false, tag := "", pkgPath := "", byteOffset := 0 },
        { name := "Size", type:=3,offset:=32,embedded:=false,tag := "", pkgPath := "", byteOffset:=32 },
        { name := "Piece", type:=3,offset:=33,embedded:=false,tag := "", pkgPath := "", byteOffset:=40 },
        { name := "Root", type:=29,offset:=34,embedded:=false,tag := "", pkgPath := "", byteOffset:=48 }])(h2:P.underlying 31=some (.struct (P.fieldsOf 31)))(h3:P.stoodInHeld 31=false)(h4:P.cellsOf 29=32)(h5:P.cellsOf 5=1)(h6:P.plainKey 3=true)(h7:P.underlying 29=some (.array 32 5))(h8:P.underlying 5=some (.int .u8))(h9:P.underlying 3=some (.int .i64))(x y:Bl)(D:Nat)(w:World) :
    (Op.equalIn (D+2+1) 31 (ix x) (ix y)).run P w = .ok (decide (x=y)) w:=by
  unfold ix
  rw[run_equalIn_struct w (D+2) 31 _ _ h2 h3,h1]
  have h:=Co (P:=P) (td:=29) (ti:=3) (f1:={ name := "Digest", type:=29,offset:=0,embedded:=false,tag := "", pkgPath := "", byteOffset:=0 })
    (f2:={ name := "Size", type:=3,offset:=32,embedded:=false,tag := "", pkgPath := "", byteOffset:=32 }) (f3:={ name := "Piece", type:=3,offset:=33,embedded:=false,tag := "", pkgPath := "", byteOffset:=40 })
    (f4:={ name := "Root", type:=29,offset:=34,embedded:=false,tag := "", pkgPath := "", byteOffset:=48 }) (by decide) (by decide) (by decide) (by decide) (D+2) w (ck x) (ck y) x.d y.d x.root y.root x.size y.size x.piece y.piece
    (fun a b=>qc h7 h8 h5 a b D w) (fun a b=>MQ h9 a b (D+1) w) zr zr zr zr
    (zB h7 h4 _ 0 _ (aaV x) w) (zB h7 h4 _ 0 _ (aaV y) w) (Go.run_part_plain w h6 (adW x)) (Go.run_part_plain w h6 (adW y)) (Go.run_part_plain w h6 (adV x)) (Go.run_part_plain w h6 (adV y)) (zB h7 h4 _ 34 _ (UU x) w) (zB h7 h4 _ 34 _ (UU y) w)
  refine Eq.trans h ?_
  congr 1
  rw[decide_eq_decide]
  obtain⟨d1,s1,p1,r1⟩:=x
  obtain⟨d2,s2,p2,r2⟩:=y
  simp
def aaO(x y:Bl)(w:World):(Op.equal 31 (ix x) (ix y)).run Tryz.prog w = .ok (decide (x=y)) w :=
 adO aaZ aaY UW afO aaW afN Tryz.underlying29 Tryz.underlying5 Tryz.underlying3 x y 9997 w
def Ow(A:HP)(hK:qI A)(x:Bl)(v:Value)(b:List UInt8)(hv:eU A v b)(hl:b.length≤900000000) :
  aH Tryz.prog 157 [ix x,v] [A] (fun r H=>r = .bool (eo x b)∧H=[A]):=by
 have rk:=hv
 obtain⟨a,c,rfl,hc⟩:=hv.2
 have jx:=Cf A hK _ b hv aj x.piece
 unfold ix at jx ⊢
 refine aH.aC Tryz.func157 Tryz.ntmps157 fun G F R hE=>?_
 refine aP rfl ?_
 refine bJ zr zr bO ?_
 intro b2
 refine go ?_
 refine aeb jx ?_
 cases hb:jF b x.piece with
 | none =>
  have hw:eo x b=false:=by unfold eo;rw[hb];rfl
  rw[hw]at hE
  refine go ?_
  refine aL zr zr zr bO ?_
  intro b5
  refine go ?_
  refine ah hE Tryz.func157 zr zr ⟨rfl,rfl⟩
 | some y =>
  have hw:eo x b=decide (x=y):=by unfold eo;rw[hb];simp only[Option.some.injEq];rw[decide_eq_decide];exact eq_comm
  rw[hw]at hE
  simp only
  refine go ?_
  refine aL zr zr zr bO ?_
  intro b5
  refine go ?_
  (repeat(first|refine g9 ?_|refine aW (U:=bh) (l:=ck x) 2 zr zr zr zr zr zr ?_|refine aW (U:=bh) (l:=ck y) 0 zr zr zr zr zr zr ?_|refine lJ (b:=decide (x=y)) zr zr zr aaK (fun w=>aaO x y w) ?_))
  refine ah hE Tryz.func157 zr zr ⟨rfl,rfl⟩
end Go.Proofs.YtlionahpheehaaaGreatDoor
namespace Go.Proofs.YtlionahpheehaaaGreatDoor
open Go Go.SL
attribute [local irreducible] J K aH Ends ak aK aV bX bj aS bp bD cp
def sA{P:Program}{f:FuncId}{n:Nat}{R:Ending→World→Prop}{G:cL}{k:List Item}{L:gh}{H:List HP}{e:TypeId}{sz nn c:Nat}{a:Option Addr}{cs:List Value}(i:Nat)(hi:cD H i=some (aK e sz (.slice a nn c) nn cs))(h:nn≤c→K P f n R G k L H):K P f n R G k L H :=
 pH fun⟨w,hw⟩=>by
  obtain⟨h1,_,hA⟩:=hw.kp hi
  exact h (Ep hA)
theorem lD(X:HP)(v:Value)(l:List It)(hv:qM X v l)(hl:l.length≤100)(hr:fA 0 (l.map It.p)=true)(hs:(cU (l.map It.p)).length≤65536) :
    aH Tryz.prog 57 [v] [X] (fun r H=>∃rv,r = .tuple #[rv,.int .i64 0]∧H=[aK 5 1 rv (cU (l.map It.p)).length (bV (cU (l.map It.p))),X]):=by
  obtain⟨dH,hvb⟩:=hv
  obtain⟨a,c,rfl⟩:=dH.shape
  refine aH.aC Tryz.func57 Tryz.ntmps57 fun G F R hE=>?_
  refine go ?_
  refine al (bS 5 1 none _) ?_
  refine bF (fun y:Nat × List UInt8 × Option Addr × Nat=>y.1≤l.length∧y.2.1=cU ((l.map It.p).take y.1)) (fun y=>l.length-y.1)
    (fun y=>[(4,.slice y.2.2.1 y.2.1.length y.2.2.2),(5,.int .i64 (nU (l.map It.p) y.1)),(8,.slice a l.length c),(9,.int .i64 (l.length:Int)),(10,.int .i64 (y.1:Int))])
    (fun y=>aK 5 1 (.slice y.2.2.1 y.2.1.length y.2.2.2) y.2.1.length (bV y.2.1)::X::F) (0,[],none,0) ⟨Nat.zero_le _,rfl⟩ rfl cF ad ?_
  rintro⟨i,acc,a1,c1⟩⟨hi,gH⟩ ih
  simp only at hi gH
  have Ck:=C4 (l.map It.p) i
  rw[← gH]at Ck
  refine go ?_
  refine aB zr zr ?_ ?_
  case' refine_2 =>
    intro fO
    simp only at fO
    have eA:acc=cU (l.map It.p):=by rw[gH,List.take_of_length_le (by rw[List.length_map];omega)]
    subst eA
    refine go ?_
    refine ah hE Tryz.func57 zr zr ⟨_,rfl,rfl⟩
  intro dk
  simp only at dk
  have e9:i<l.length:=by omega
  obtain⟨x,hx⟩:∃x,l[i]?=some x:=⟨l[i],by simp⟩
  have O1:(l.map It.p)[i]?=some x.p:=by rw[List.getElem?_map,hx];rfl
  obtain⟨Dv,vu⟩:=PX _ 0 i x.p hr O1
  have Dv:nU (l.map It.p) i<x.n:=Dv
  have vu:x.n≤63:=vu
  have rX:=AZ O1
  have DF:=hvb x (List.mem_of_getElem? hx)
  obtain⟨xn,xv,xb⟩:=x
  simp only at Dv vu DF
  have rX:nU (l.map It.p) (i+1)=xn:=rX
  obtain⟨xa,xc,rfl,hxc⟩:=DF.2
  have ht:cU ((l.map It.p).take (i+1))=acc++ig (xn,xb):=by
    rw[List.take_add_one,O1,Option.toList_some,Gx,← gH];simp[cU,It.p]
  have afH:=C4 (l.map It.p) (i+1)
  rw[ht,List.length_append]at afH
  have NS:(ig (xn,xb)).length=1+(uv xb.length).length+xb.length:=by simp only[ig,List.length_cons,List.length_append];omega
  obtain⟨b,o,c',he⟩:=dH.some (by rw[← List.length_pos_iff,bR iy];omega)
  simp only[Value.slice.injEq,true_and]at he
  obtain⟨rfl,rfl⟩:=he
  refine go ?_
  refine cu i 2 zr zr zr zr zr zr zr zr e9 ?_
  refine cK (U:=bh) (es:=kq ⟨xn,.slice xa xb.length xc,xb⟩) 1 (i*2) zr zr zr dH rfl (fun j v hj=>?_) zr zr zr ?_
  · have I3:j<2:=by
      grind [iy]
    rw[cM iy hx j I3];exact hj
  refine aL zr zr zr bO ?_
  intro bd
  repeat'(first|(with_reducible intro k9)|refine g9 ?_|refine dA zr zr zr zr ?_ ?_|refine aB zr zr ?_ ?_)
  any_goals (exfalso;simp only at *;omega)
  rename_i h1 h2 h3
  simp only at h1 h2 h3
  obtain⟨xm,rfl⟩:∃m:Nat,xn=m:=⟨xn.toNat,by
    have:0<xn:=PW _ 0 hr (Int.le_refl _) _ (List.mem_of_getElem? O1)
    omega⟩
  refine go ?_
  refine aO (fun w=>Sat G w ([X,ak bd (cl [.int .i64 (xm:Int),.slice xa xb.length xc] 127)])) (dM 0 3 (dM 5 4 (.st 11 (.st 12 (.act 3 (.act 4 (.act 9 (.act 10 (.act 13 (.st 14 .nil)))))))))) rfl aw aw aw dI ?_
  refine IA (U:=bh) rfl ?_
  refine jI ?_
  refine lB zr zr zr zr zr zr ?_
  refine au 36 ((u8 (UInt8.ofNat xm))) rfl ((lG xm)) (go ?_)
  refine az (cs:=bV [UInt8.ofNat xm]) zr zr zr zr zr zr zr zr zr (fun _ w hw=>hw.cI ad) ?_
  intro row
  refine go ?_
  refine bg (mm:=1) (news:=bV [UInt8.ofNat xm]) 2 0 zr zr zr zr zr zr zr zr zr zr zr zr (Vw.ak rfl) rfl (dR _) (by simp only;omega) (by show(_+_)*1≤_;simp only;omega) (fun _=>rfl) (fun _ w hw=>hw.cI ad) ?_
  intro v1
  simp only
  rw[show bV acc++bV [UInt8.ofNat xm]=bV (acc++[UInt8.ofNat xm])from by simp[bV],show acc.length+1=(acc++[UInt8.ofNat xm]).length from by simp]
  refine aN 2 rfl ?_
  rintro a2 c2 rfl
  refine go ?_
  refine bz (fK xb.length aj) ?_
  rintro r _ rfl
  refine aN 0 rfl ?_
  rintro ra rc rfl
  refine eZ 0 rfl ?_
  intro r'
  refine go ?_
  refine bg (mm:=(uv xb.length).length) (news:=bV (uv xb.length)) 3 0 zr zr zr zr zr zr zr zr zr zr zr zr r' (by show _=_*1;rw[bN];omega) (dR _) (by simp only[List.length_append,List.length_singleton];omega) (by show(_+_)*1≤_;simp only[List.length_append,List.length_singleton];omega) (fun _=>rfl) (fun _ w hw=>hw.cI ad) ?_
  intro v2
  rw[show bV (acc++[UInt8.ofNat xm])++bV (uv xb.length)=bV (acc++[UInt8.ofNat xm]++uv xb.length)from by simp[bV],show(acc++[UInt8.ofNat xm]).length+(uv xb.length).length=(acc++[UInt8.ofNat xm]++uv xb.length).length from by simp;omega]
  refine aN 3 rfl ?_
  rintro a3 c3 rfl
  refine go ?_
  refine bg (mm:=xb.length) (news:=bV xb) 3 4 zr zr zr zr zr zr zr zr zr zr zr zr DF.1 (by show _=_*1;rw[bN];omega) (dR _) (by simp only[List.length_append,List.length_singleton];omega) (by show(_+_)*1≤_;simp only[List.length_append,List.length_singleton];omega) (fun _=>rfl) (fun _ w hw=>hw.cI ad) ?_
  intro v3
  rw[show bV (acc++[UInt8.ofNat xm]++uv xb.length)++bV xb=bV (acc++ig (xm,xb))from by simp[bV,ig],show(acc++[UInt8.ofNat xm]++uv xb.length).length+xb.length=(acc++ig (xm,xb)).length from by simp[ig];omega]
  refine aN 3 rfl ?_
  rintro a4 c4 rfl
  refine go ?_
  refine aB zr zr ?_ ?_
  · grind
  intro _
  refine go ?_
  refine aE 5 ((.int .i64 (nU (l.map It.p) (i+1)))) rfl ((congrArg (Value.int .i64) rX.symm)) ?_
  refine aQ ih (i+1,acc++ig (xm,xb),a4,c4) rfl ⟨by simp only;omega,by simp only;rw[ht]⟩ (by simp only;omega) cF ad
def Dn(v:Value)(h1:∃a n c,v = .slice a n c):aH Tryz.prog 146 [v] [] (fun r H=>∃b,r = .func (.func 209) #[] #[ptr b]∧H=[ak b (cl [v] 22)]):=by
 obtain⟨a,n,c,rfl⟩:=h1
 refine aH.aC Tryz.func146 Tryz.ntmps146 fun G F R hE=>?_
 refine go ?_
 refine bJ zr zr bO ?_
 intro b
 refine go ?_
 refine ah hE Tryz.func146 zr zr ⟨b,rfl,rfl⟩
theorem J0(A:HP)(bx:Nat)(v:Value)(bs:List UInt8)(hv:eU A v bs)(hl:bs.length≤1000000000)(l:Nat)(Lp LpD ad9:HP)(Inv:Nat→HP)(x7:Nat→Bool)(hy:∀i x,(eP bs)[i]?=some x→(∀j,j<i→x7 j=true)→∀r,(∃a n c,r = .slice a n c)→cp Tryz.prog l [.agg #[.int .i64 x.1,r] ] [Lp,Inv i,aK 5 1 r x.2.length (bV x.2)]
      (fun v H=>(x7 i=true∧v = .bool true∧H=[Lp,Inv (i+1)])∨(x7 i=false∧v = .bool false∧H=[LpD,ad9]))) :
    aH Tryz.prog 209 [.func (.yield l) #[] #[],ptr bx] [Lp,Inv 0,ak bx (cl [v] 22),A]
      (fun _ H=>((∀i,i<(eP bs).length→x7 i=true)∧H=[Lp,Inv (eP bs).length,A])∨((∃i,i<(eP bs).length∧x7 i=false)∧H=[LpD,ad9,A])):=by
  refine aH.aC Tryz.func209 Tryz.ntmps209 fun G F R hE=>?_
  refine bF (fun y:Value × List UInt8 × Nat=>eU A y.1 y.2.1∧y.2.1.length≤bs.length∧(eP bs).drop y.2.2=eP y.2.1∧y.2.2≤(eP bs).length∧∀j,j<y.2.2→x7 j=true) (fun y=>y.2.1.length)
    (fun _=>[(0,.func (.yield l) #[] #[]),(1,ptr bx)])
    (fun y=>Lp::Inv y.2.2::ak bx (cl [y.1] 22)::A::F) (v,bs,0) ⟨hv,Nat.le_refl _,by simp,Nat.zero_le _,fun j hj=>absurd hj (Nat.not_lt_zero j)⟩ rfl cF ad ?_
  rintro⟨v1,rest,i⟩⟨ko,Dv,vu,LU,VX⟩ ih
  simp only at ko Dv vu LU VX
  obtain⟨a,c,rfl,hc⟩:=ko.2
  refine go ?_
  match rest,vu,ko,Dv,hc,ih with
  | [],vu,ko,Dv,hc,ih =>
    have ou:i=(eP bs).length:=by
      rw[rB]at vu
      have:(eP bs).length≤i:=by simpa using vu
      omega
    subst ou
    refine go ?_
    refine ag hE Tryz.func209 rfl _ rfl (.inl ⟨VX,rfl⟩) ad
  | c0::rst,vu,ko,Dv,hc,ih =>
    have kH:=ko.cut 1 (by simp)
    rw[List.drop_succ_cons,List.drop_zero]at kH
    ((refine aE 8 ((.bool true)) rfl ((congrArg Value.bool (decide_eq_true (by simp only[List.length_cons];omega)))) ?_))
    refine go ?_
    refine aU (p:=1) (q:=((c0::rst).length:Int)) zr zr zr zr zr zr zr aj (by simp only[List.length_cons];omega) (.inl rfl) ?_
    ((refine au 11 ((.slice (sliceAt a c 1 1) rst.length (c-1))) rfl ((by rw[show((c0::rst).length:Int).toNat=rst.length+1 from by simp[List.length_cons],show(1:Int).toNat=1 from rfl,show rst.length+1-1=rst.length by omega];rfl)) ?_))
    ((refine ao (zM A _ rst kH.1 kH.2 (by simp only[List.length_cons]at Dv;omega)) ?_))
    rintro _ _⟨rv,rfl,SW,rfl⟩
    have SW:eU A rv (db rst).2.1:=SW
    have kJ:=px rst
    have w9:rst.length<1000000000:=by simp only[List.length_cons]at Dv;omega
    have Kd:∀x,eP (c0::rst)=x::eP ((db rst).2.1.drop (db rst).1)∨eP (c0::rst)=[x]→(eP bs)[i]?=some x:=by
      intro x hx
      have:=congrArg (fun l=>l[0]?) vu
      grind
    obtain⟨ra,rc,rfl,LR⟩:=SW.2
    by_cases k8:(db rst).2.2=true∧(db rst).1≤(db rst).2.1.length
    · have uf:=sL (c:=c0) k8
      have hx:=Kd _ (.inl uf)
      rw[k8.1]
      have tQ:=SW.front (db rst).1 k8.2
      have Cx:=SW.cut (db rst).1 k8.2
      have l9:=(List.getElem?_eq_some_iff.1 hx).1
      refine go ?_
      refine aB zr zr ?_ ?_
      · intro xZ;exfalso;omega
      intro _
      have kY:0<(c0::rst).length:=by simp only[List.length_cons];omega
      obtain⟨ba,oa,ca,ez⟩:=H8 ko.1 kY
      simp only[Value.slice.injEq,true_and]at ez
      obtain⟨rfl,rfl⟩:=ez
      obtain⟨n,hn⟩:∃n,n=(db rst).1:=⟨_,rfl⟩
      have IX:((db rst).2.1.take n).length=n:=by rw[hn,List.length_take];omega
      rw[← hn]at tQ Cx uf hx k8 ⊢
      have V2:c0.toNat<256:=c0.toNat_lt
      have NN:=k8.2
      have agd:rst.length+1≤bs.length:=Dv
      refine aO (fun w=>Sat G w ([A,ak bx (cl [.slice (some ⟨ba,oa,none⟩) (c0::rst).length c] 22)])) (dM 0 8 (.act 8 (.st 9 (.act 10 (.st 11 .nil))))) rfl aw aw aw dI ?_
      refine go ?_
      refine bW 0 zr zr zr zr zr zr zr zr kY (go ?_)
      refine aY ?_
      refine cQ 0 0 zr zr zr ko.1 rfl (show(bV (c0::rst))[0]?=some (u8 c0)from rfl) zr zr (go ?_)
      refine aU (p:=0) (q:=(n:Int)) zr zr zr zr zr zr zr aj aj (.inr aj) ?_
      ((refine au 35 ((.slice (sliceAt ra rc 0 1) ((db rst).2.1.take n).length rc)) rfl ((by rw[IX,show((n:Int)).toNat=n from by omega];rfl)) ?_))
      have tQ:eU A (.slice (sliceAt ra rc 0 1) ((db rst).2.1.take n).length rc) ((db rst).2.1.take n):=by rw[IX];exact tQ
      refine bz (iR A _ ((db rst).2.1.take n) tQ.1 aj) ?_
      rintro r _ rfl
      refine aN 0 rfl ?_
      rintro rr rrc rfl
      refine go ?_
      refine jf rfl rfl rfl (hy i _ hx VX (.slice rr ((db rst).2.1.take n).length rrc) ⟨_,_,_,rfl⟩) ad ?_ (fun _ _ w hp hw=>by rcases hp with⟨_,_,rfl⟩|⟨_,_,rfl⟩ <;> exact hw.cI ad)
      rintro _ _ (⟨hg,rfl,rfl⟩|⟨hg,rfl,rfl⟩)
      · refine go ?_
        refine aU (p:=(n:Int)) (q:=((db rst).2.1.length:Int)) zr zr zr zr zr zr zr aj aj (.inl rfl) ?_
        ((refine au 42 ((.slice (sliceAt ra rc n 1) ((db rst).2.1.length-n) (rc-n))) rfl ((by rw[show((n:Int)).toNat=n from by omega,show(((db rst).2.1.length:Int)).toNat=(db rst).2.1.length from by omega];rfl)) ?_))
        refine go ?_
        have rn:(eP bs).drop (i+1)=eP ((db rst).2.1.drop n):=by
          have:=congrArg (fun l=>l.drop 1) vu
          simp only[uf,List.drop_drop]at this
          grind
        refine aQ ih (.slice (sliceAt ra rc n 1) ((db rst).2.1.length-n) (rc-n),(db rst).2.1.drop n,i+1) rfl (⟨Cx,by simp only[List.length_drop];omega,rn,by simp only;omega,fun j hj=>by
          rcases Nat.lt_or_ge j i with h|h
          · exact VX j h
          · rw[show j=i by simp only at hj;omega];exact hg⟩) (by simp only[List.length_drop,List.length_cons];omega) cF ad
      · refine go ?_
        refine ah hE Tryz.func209 zr zr (.inr ⟨⟨i,l9,hg⟩,rfl⟩)
    · have ml:=Ac (c:=c0) k8
      have hx:=Kd _ (.inr ml)
      cases aeX:(db rst).2.2 with
      | false =>
        refine go ?_
        refine aT (bS 5 1 none _) ?_
        refine jf zr zr zr (hy i (0,[]) hx VX (.slice none 0 0) ⟨_,_,_,rfl⟩) ad ?_ bI
        rintro _ _ (⟨hg,rfl,rfl⟩|⟨hg,rfl,rfl⟩)
        · refine go ?_
          have ou:i+1=(eP bs).length:=by
            have:=congrArg List.length vu
            grind
          rw[ou]
          have fH:∀j,j<(eP bs).length→x7 j=true:=fun j hj=>by
            grind
          refine ah hE Tryz.func209 zr zr (.inl ⟨fH,rfl⟩)
        · refine go ?_
          have l9:=(List.getElem?_eq_some_iff.1 hx).1
          refine ah hE Tryz.func209 zr zr (.inr ⟨⟨i,l9,hg⟩,rfl⟩)
      | true =>
        have O6:¬(db rst).1≤(db rst).2.1.length:=fun h=>k8 ⟨aeX,h⟩
        refine go ?_
        refine aB zr zr ?_ ?_
        case' refine_2=>(intro h;exfalso;omega)
        intro _
        refine go ?_
        refine aT (bS 5 1 none _) ?_
        refine jf zr zr zr (hy i (0,[]) hx VX (.slice none 0 0) ⟨_,_,_,rfl⟩) ad ?_ bI
        rintro _ _ (⟨hg,rfl,rfl⟩|⟨hg,rfl,rfl⟩)
        · refine go ?_
          have ou:i+1=(eP bs).length:=by
            have:=congrArg List.length vu
            grind
          rw[ou]
          have fH:∀j,j<(eP bs).length→x7 j=true:=fun j hj=>by
            grind
          refine ah hE Tryz.func209 zr zr (.inl ⟨fH,rfl⟩)
        · refine go ?_
          have l9:=(List.getElem?_eq_some_iff.1 hx).1
          refine ah hE Tryz.func209 zr zr (.inr ⟨⟨i,l9,hg⟩,rfl⟩)
end Go.Proofs.YtlionahpheehaaaGreatDoor
namespace Go.Proofs.YtlionahpheehaaaGreatDoor
open Go Go.SL
def DI(b2 b3 b4 b5:Nat)(xs:List (Int × List UInt8))(i:Nat):HP:=fun h=>∃x:List It × HP × Value,(x.1.map It.p=xs.take i∧∀y∈x.1,eU x.2.1 y.v y.b) ∧
 Sep [ak b2 (cl [.slice none 0 0] 123),ak b3 (cl [.int .i64 0] 25),ak b4 (cl [x.2.2] 123),ak b5 (cl [.int .i64 (nU xs i)] 3),aK 127 2 x.2.2 x.1.length (x.1.flatMap kq),x.2.1] h
def MB(b2 b3 b4 b5:Nat)(xs:List (Int × List UInt8))(i:Nat):∀h,DI b2 b3 b4 b5 xs i h→∃x:List It × HP × Value,(x.1.map It.p=xs.take i∧∀y∈x.1,eU x.2.1 y.v y.b) ∧
 Sep [ak b2 (cl [.slice none 0 0] 123),ak b3 (cl [.int .i64 0] 25),ak b4 (cl [x.2.2] 123),ak b5 (cl [.int .i64 (nU xs i)] 3),aK 127 2 x.2.2 x.1.length (x.1.flatMap kq),x.2.1] h:=fun h hs=>hs
def IG(b2 b3 b4 b5:Nat)(xs:List (Int × List UInt8))(i:Nat)(eu:List It)(Z:HP)(v:Value)(h1:eu.map It.p=xs.take i)(h2:∀y∈eu,eU Z y.v y.b)(H:List HP) :
  aq (ak b2 (cl [.slice none 0 0] 123)::ak b3 (cl [.int .i64 0] 25)::ak b4 (cl [v] 123)::ak b5 (cl [.int .i64 (nU xs i)] 3)::aK 127 2 v eu.length (eu.flatMap kq)::Z::H) (DI b2 b3 b4 b5 xs i::H) :=
 aq.fold (A:=DI b2 b3 b4 b5 xs i) (B:=[ak b2 (cl [.slice none 0 0] 123),ak b3 (cl [.int .i64 0] 25),ak b4 (cl [v] 123),ak b5 (cl [.int .i64 (nU xs i)] 3),aK 127 2 v eu.length (eu.flatMap kq),Z]) fun h hs=>⟨h,sub.refl h,(eu,Z,v),⟨h1,h2⟩,hs⟩
def DE(b2 b3:Nat):HP:=Sep [ak b2 (cl [.slice none 0 0] 123),ak b3 (cl [.int .i64 2] 25)]
def IH(b2 b3:Nat)(H:List HP):aq (ak b2 (cl [.slice none 0 0] 123)::ak b3 (cl [.int .i64 2] 25)::H) (DE b2 b3::H):=aq.cg [ak b2 (cl [.slice none 0 0] 123),ak b3 (cl [.int .i64 2] 25)] H
def Vh(b2 b3:Nat)(H:List HP):aq (DE b2 b3::H) (ak b2 (cl [.slice none 0 0] 123)::ak b3 (cl [.int .i64 2] 25)::H):=aq.cR [ak b2 (cl [.slice none 0 0] 123),ak b3 (cl [.int .i64 2] 25)] H
attribute [local irreducible] J K aH Ends ak aK aV bX bj aS bp bD cp DI DE
theorem jy(A:HP)(v:Value)(bs:List UInt8)(hv:eU A v bs)(hl:bs.length≤1000000000) :
  aH Tryz.prog 67 [v] [A] (fun r H=>(nJ bs=none∧r = .tuple #[.slice none 0 0,.int .i64 2]∧H=[A])∨(∃(xs:List (Int × List UInt8)) (eu:List It) (Z:HP) (rv:Value),nJ bs=some xs∧eu.map It.p=xs∧qM Z rv eu∧r = .tuple #[rv,.int .i64 0]∧H=[Z,A]∧∃ra rc,rv = .slice ra eu.length rc∧eu.length≤rc)):=by
 obtain⟨a,c,rfl,hc⟩:=hv.2
 have l8:nJ bs=if 65536<bs.length then none else if fA 0 (eP bs)then some (eP bs)else none:=rfl
 refine aH.aC Tryz.func67 Tryz.ntmps67 fun G F R hE=>?_
 refine aP rfl ?_
 refine aL zr zr zr bO ?_
 intro b2
 refine aL zr zr zr bO ?_
 intro b3
 refine go ?_
 refine aB zr zr ?_ ?_
 ·intro xZ
  have xZ:65536<bs.length:=by omega
  rw[if_pos xZ]at l8
  refine go ?_
  refine bL hE ?_
  refine vj (U:=bh) 1 0 hE Tryz.func67 zr zr zr zr zr zr zr zr (aq.refl _) zr zr (.inl ⟨l8,rfl,rfl⟩) ad
 intro Du
 have Du:¬65536<bs.length:=by omega
 rw[if_neg Du]at l8
 refine go ?_
 refine aL zr zr zr bO ?_
 intro b4
 refine go ?_
 refine aL zr zr zr bO ?_
 intro b5
 refine go ?_
 refine ao (Dn _ ⟨a,_,c,rfl⟩) ?_
 rintro _ _⟨bx,rfl,rfl⟩
 refine go ?_
 refine jw rfl ?_
 refine al (aq.trans (aq.cg [] _) (aq.trans (bS 127 2 none _) (aq.trans ad (IG b2 b3 b4 b5 (eP bs) 0 [] (Sep []) (.slice none 0 0) rfl (by simp) (ak bx (cl [.slice a bs.length c] 22)::A::F))))) ?_
 refine pJ (Fr:=F) (Pre:=fun _ _=>[DI b2 b3 b4 b5 (eP bs) 0,ak bx (cl [.slice a bs.length c] 22),A]) (fun _ _ Lp v H=>((∀i,i<(eP bs).length→wx (eP bs) i=true)∧H=[Lp .ready none,DI b2 b3 b4 b5 (eP bs) (eP bs).length,A])∨((∃i,i<(eP bs).length∧wx (eP bs) i=false)∧H=[Lp .done (some .ret),DE b2 b3,A])) rfl hE.1.1 rfl ?c (fun l r=>ad) ?eA
 case c =>
  intro l r
  refine aH.pre (J0 A bx _ bs hv hl l _ _ (DE b2 b3) (DI b2 b3 b4 b5 (eP bs)) (wx (eP bs)) ?hy) ad
  case hy =>
   intro i x hx VX rv SW
   obtain⟨va,vn,vc,rfl⟩:=SW
   refine cp.Cr zr zr ?_
   intro G2 F2 R2 hY
   refine aP rfl ?_
   refine aL zr zr zr bO ?_
   intro b6
   refine go ?_
   refine al (aq.pick [1] rfl) ?_
   refine eY rfl hY ?_
   refine al (aq.pick [2] rfl) ?_
   refine dZ (MB b2 b3 b4 b5 (eP bs) i) ?_
   rintro⟨eu,Z,vi⟩⟨mO,vv⟩
   simp only at mO vv
   have VW:=Bn hx
   obtain⟨xn,xb⟩:=x
   simp only at VW
   have FR:=AZ hx
   refine aM 4 rfl ?_
   intro ia ic SU
   simp only at SU
   subst SU
   simp only
   refine al (aq.pick [7,0,1,2,3] rfl) ?_
   repeat'(first|(with_reducible intro k9)|refine g9 ?_|refine dA zr zr zr zr ?_ ?_|refine aB zr zr ?_ ?_)
   ·have ml:wx (eP bs) i=false:=by rw[VW,decide_eq_false aj,Bool.false_and]
    refine al (aq.trans (aq.pick [1,2] rfl) (IH b2 b3 _)) ?_
    refine BU hY rfl ad (.inr ⟨ml,rfl,rfl⟩)
   ·have ml:wx (eP bs) i=false:=by rw[VW,decide_eq_false (show ¬xn≤63 by omega),Bool.and_false]
    refine al (aq.trans (aq.pick [1,2] rfl) (IH b2 b3 _)) ?_
    refine BU hY rfl ad (.inr ⟨ml,rfl,rfl⟩)
   ·rename_i h1
    have nY:wx (eP bs) i=true:=by rw[VW,decide_eq_true aj,decide_eq_true aj];rfl
    refine bE ?_
    refine aD 4 eH zr zr zr zr zr zr zr zr zr (go ?_)
    refine ct 0 zr zr zr zr zr zr (go ?_)
    refine fY (bs:=xb) 8 rfl ?_
    intro DF
    obtain⟨_,_,hvx,hxc⟩:=DF.2
    simp only[Value.slice.injEq,true_and]at hvx
    obtain⟨-,rfl,rfl⟩:=hvx
    have l9:=(List.getElem?_eq_some_iff.1 hx).1
    have IX:=vD bs.length bs (Nat.le_refl _)
    have ads:eu.length=i:=by
     have:=congrArg List.length mO
     grind
    refine az (cs:=kq ⟨xn,.slice va xb.length vc,xb⟩) zr zr zr zr zr zr zr zr zr bO ?_
    intro row
    refine go ?_
    refine bg (mm:=1) (news:=kq ⟨xn,.slice va xb.length vc,xb⟩) 6 0 rfl rfl rfl rfl rfl rfl rfl rfl rfl rfl rfl rfl (Vw.ak rfl) rfl (by intro v hv;simp[kq]at hv;rcases hv with rfl|rfl <;> rfl) aj (by show(_+_)*32≤_;omega) (fun _=>rfl) bO ?_
    intro v1
    rw[show eu.flatMap kq++kq (⟨xn,.slice va xb.length vc,xb⟩:It)=(eu++[(⟨xn,.slice va xb.length vc,xb⟩:It)]).flatMap kq from by simp,show eu.length+1=(eu++[(⟨xn,.slice va xb.length vc,xb⟩:It)]).length from by simp]
    refine aN 6 rfl ?_
    rintro ja jc rfl
    refine go ?_
    refine bE ?_
    refine aD 4 eH zr zr zr zr zr zr zr zr zr (go ?_)
    have ae4:nU (eP bs) (i+1)=xn:=FR
    have Rs:(eu++[(⟨xn,.slice va xb.length vc,xb⟩:It)]).map It.p=(eP bs).take (i+1):=by
     rw[List.map_append,mO,List.take_add_one,hx];rfl
    have kJ:=IG b2 b3 b4 b5 (eP bs) (i+1) (eu++[(⟨xn,.slice va xb.length vc,xb⟩:It)]) (Sep [aK 5 1 (.slice va xb.length vc) xb.length (bV xb),Z]) (.slice ja (eu++[(⟨xn,.slice va xb.length vc,xb⟩:It)]).length jc) Rs (fun y hy=>by
     rcases List.mem_append.1 hy with h|h
     ·exact(vv y h).mono (aX (i:=1) rfl)
     ·rw[List.mem_singleton.1 h];exact DF.mono (aX (i:=0) rfl))
    rw[ae4]at kJ
    refine al (aq.trans (aq.pick [9,7] rfl) (aq.trans (aq.cg [_,_] _) (aq.trans ad (kJ _)))) ?_
    refine eF hY rfl ad (.inl ⟨nY,rfl,rfl⟩)
 rintro l r v H' (⟨fH,rfl⟩|⟨⟨i,hi,ml⟩,rfl⟩)
 ·refine⟨_,_,_,rfl,by decide,?_⟩
  have hr:fA 0 (eP bs)=true:=(C2 _).2 fH
  rw[if_pos hr]at l8
  rw[hE.1.2]
  refine dZ (MB b2 b3 b4 b5 (eP bs) _) ?_
  rintro⟨eu,Z,vi⟩⟨mO,vv⟩
  simp only at mO vv
  rw[List.take_length]at mO
  refine aM 4 rfl ?_
  intro ia ic SU
  simp only at SU
  subst SU
  simp only
  refine sA 4 rfl ?_
  intro jE
  refine eE 4 rfl ?_
  intro dH
  have xY:qM (Sep [aK 127 2 (.slice ia eu.length ic) eu.length (eu.flatMap kq),Z]) (.slice ia eu.length ic) eu:=⟨dH.mono (aX (i:=0) rfl),fun y hy=>(vv y hy).mono (aX (i:=1) rfl)⟩
  refine go ?_
  refine al (aq.trans (aq.pick [4,5] rfl) (aq.cg [aK 127 2 (.slice ia eu.length ic) eu.length (eu.flatMap kq),Z] _)) ?_
  refine vj (U:=bh) 1 2 hE Tryz.func67 zr zr zr zr zr zr zr zr ad zr zr (.inr ⟨eP bs,eu,_,_,l8,mO,xY,rfl,rfl,_,_,rfl,jE⟩) ad
 ·refine⟨_,_,_,rfl,by decide,?_⟩
  have hr:¬fA 0 (eP bs)=true:=fun h=>by rw[(C2 _).1 h i hi]at ml;cases ml
  rw[if_neg hr]at l8
  rw[hE.1.2]
  refine al (Vh b2 b3 _) ?_
  refine vj (U:=bh) 0 1 hE Tryz.func67 zr zr zr zr zr zr zr zr ad zr zr (.inl ⟨l8,rfl,rfl⟩) ad
end Go.Proofs.YtlionahpheehaaaGreatDoor
namespace Go.Proofs.YtlionahpheehaaaGreatDoor
open Go Go.SL
attribute [local irreducible] J K aH Ends ak aK aV bX bj aS bp bD cp Sha.chunks Sha.chunk Sha.rounds Sha.sched fz cY GI fG
def TX:nF Tryz.prog 29 dV:=acI Tryz.underlying29 Tryz.underlying5 aaW
def To(l:List Dg):List (Dg × Value):=l.map fun d=>(d,.bool true)
theorem PA(l:List Dg)(d:Dg):(fh (To l) d).getD (.bool false) = .bool (decide (d∈l)):=by
 induction l with
 | nil=>simp[To,fh]
 | cons x l ih =>
  grind [To,fh]
theorem Tn{l:List Dg}{d:Dg}(h:d ∉ l):pC (To l) d (.bool true)=To (l++[d]):=by
 grind [pC,To]
theorem CP(l:List Bl):ry l=false↔(l.map Bl.d).Nodup:=by
 induction l with
 | nil=>simp[ry]
 | cons x l ih =>
  grind [ry]
theorem UX(l:List Bl):∀v∈l.flatMap ck,v.oneCell'=true:=by
 intro v hv
 obtain⟨x,_,h⟩:=List.mem_flatMap.1 hv
 simp only[ck,List.mem_append,List.mem_cons,List.not_mem_nil,or_false]at h
 rcases h with(h|rfl|rfl)|h
 ·grind [fg,dR]
 ·rfl
 ·rfl
 grind [fg,dR]
def blE{l:List Bl}{i:Nat}{x:Bl}(hx:l[i]?=some x)(q:Nat)(v:Value)(hq:(ck x)[q]?=some v):(l.flatMap ck)[i*66+q]?=some v:=by
 rw[cM Fq hx q (by rcases Nat.lt_or_ge q 66 with h|h;exact h;rw[List.getElem?_eq_none (by rw[Fq];exact h)]at hq;cases hq)]
 exact hq
def aaX{l:List Bl}{i:Nat}(h:i<l.length):l.flatMap ck≠[]:=by
 rw[← List.length_pos_iff,bR Fq];omega
def FN(A X:HP)(v:Value)(l:List Bl)(hv:Vw A v l.length (l.flatMap ck))(hlen:l.length≤1000000)(g:FuncId)(cap:List Value)(p:Bl→Bool)(hf:∀x∈l,aH Tryz.prog g (ix x::cap) [X] (fun v H=>v = .bool (p x)∧H=[X])) :
  aH Tryz.prog 174 [v,.func (.func g) #[] cap.toArray] [A,X] (fun r H=>r = .int .i64 (jt p l)∧H=[A,X]):=by
 obtain⟨a,c0,rfl⟩:=hv.shape
 unfold ix at hf
 refine aH.enter Tryz.func174 aw rfl Tryz.ntmps174 zr zr ?_
 intro G F R hR
 refine go ?_
 refine bF (fun i:Nat=>i≤l.length∧∀y∈l.take i,p y=false) (fun i=>l.length-i) (fun i=>[(0,.slice a l.length c0),(1,.func (.func g) #[] cap.toArray),(7,.int .i64 l.length),(8,.int .i64 i)]) (fun _=>[A,X]++F) 0 ⟨by simp,by simp⟩ rfl cF (aq.refl _) ?_
 rintro i⟨hi,hb⟩ ih
 refine go ?_
 refine aB zr zr ?_ ?_
 ·intro dk
  refine go ?_
  have e9:i<l.length:=by omega
  have hx:l[i]?=some l[i]:=by simp[e9]
  generalize hxx:l[i]=x at hx
  obtain⟨b,o,gV,ez⟩:=hv.some (aaX e9)
  simp only[Value.slice.injEq]at ez
  obtain⟨rfl,_,rfl⟩:=ez
  refine cu i 66 zr zr zr zr zr zr zr zr e9 ?_
  refine cK (U:=bh) (es:=ck x) 0 (i*66) zr zr zr hv rfl (blE hx) zr zr zr ?_
  refine bM [1] zr zr zr zr (hf x (List.mem_of_getElem? hx)) rfl bI ?_
  rintro _ _⟨rfl,rfl⟩
  refine go ?_
  refine eX zr zr ?_ ?_
  ·intro hp
   refine go ?_
   refine aG hR Tryz.func174 rfl _ rfl ⟨by rw[iY hx hp hb];rfl,rfl⟩ (aq.fin [1,0] 0 zr zr)
  ·intro hp
   refine go ?_
   refine aQ ih (i+1) rfl ⟨aj,n8 hb hx hp⟩ aj cF (aq.pick [1,0] rfl)
 ·intro fO
  refine go ?_
  have:i=l.length:=by omega
  subst this
  refine aG hR Tryz.func174 rfl _ rfl ⟨by rw[j9 (fun x hx=>hb x (by simpa using hx))];rfl,rfl⟩ (aq.fin [0,1] 0 zr zr)
def mu(A X:HP)(v:Value)(l:List Bl)(hv:Vw A v l.length (l.flatMap ck))(hlen:l.length≤1000000)(g:FuncId)(cap:List Value)(p:Bl→Bool)(hf:∀x∈l,aH Tryz.prog g (ix x::cap) [X] (fun v H=>v = .bool (p x)∧H=[X])) :
  aH Tryz.prog 104 [v,.func (.func g) #[] cap.toArray] [A,X] (fun r H=>r = .bool (l.any p)∧H=[A,X]):=by
 refine aH.enter Tryz.func104 aw rfl Tryz.ntmps104 zr zr ?_
 intro G F R hR
 refine go ?_
 refine bM [0,1] zr zr zr zr (FN A X v l hv hlen g cap p hf) rfl bI ?_
 rintro _ _⟨rfl,rfl⟩
 refine go ?_
 have hb:decide (0≤jt p l)=l.any p:=by
  rw[show decide (0≤jt p l)=decide (¬jt p l<0)from by rw[decide_eq_decide];omega]
  rw[Bool.eq_iff_iff,decide_eq_true_iff,nk (p:=p) (l:=l),Bool.not_eq_false]
 refine aG hR Tryz.func104 rfl _ rfl ⟨congrArg Value.bool hb,rfl⟩ (aq.fin [0,1] 0 zr zr)
def TJ(x:Bl):aH Tryz.prog 254 [ix x] [emp] (fun r H=>r = .bool (!bP x)∧H=[emp]):=by
 unfold ix
 refine aH.aC Tryz.func254 Tryz.ntmps254 fun G F R hE=>?_
 refine aP rfl ?_
 refine bJ zr zr bO ?_
 intro b1
 refine go ?_
 refine aW (U:=bh) 0 zr zr zr zr zr zr ?_
 refine aeb (km x) ?_
 refine go ?_
 refine ah hE Tryz.func254 zr zr ⟨rfl,rfl⟩
def LH(v:Value):Value := .agg #[v]
theorem yu(A:HP)(v:Value)(l:List Bl)(hv:Vw A v l.length (l.flatMap ck))(hlen:l.length≤1000000) :
  aH Tryz.prog 231 [LH v] [A] (fun r H=>r = .int .i64 (hG l:Int)∧H=[A]):=by
 obtain⟨a,c,rfl⟩:=hv.shape
 unfold LH
 refine aH.aC Tryz.func231 Tryz.ntmps231 fun G F R hE=>?_
 refine aP rfl ?_
 refine bJ zr zr bO ?_
 intro b1
 refine aT (aq.sm _) ?_
 have h1:(l.length<1∨16<l.length∨l.any (fun x => !bP x)=true)→hG l=1:=fun h=>by unfold hG;rw[if_pos h]
 have h2:¬(l.length<1∨16<l.length∨l.any (fun x => !bP x)=true)→hG l=if ry l then 5 else 0:=fun h=>by unfold hG;rw[if_neg h]
 repeat'(first|(with_reducible intro k9)|refine g9 ?_|refine dA zr zr zr zr ?_ ?_|(refine ao (mu A emp _ l hv hlen 254 [] (fun x => !bP x) (fun x _=>TJ x)) ?_;rintro _ _⟨rfl,rfl⟩))
 ·rw[h1 (.inl aj)]at hE
  refine ah hE Tryz.func231 zr zr ⟨rfl,rfl⟩
 ·rw[h1 (.inr (.inl aj))]at hE
  refine ah hE Tryz.func231 zr zr ⟨rfl,rfl⟩
 cases mJ:l.any (fun x => !bP x)with
 | true =>
  rw[h1 (.inr (.inr mJ))]at hE
  refine go ?_
  refine ah hE Tryz.func231 zr zr ⟨rfl,rfl⟩
 | false =>
  have h3:=h2 (fun h=>by rcases h with h|h|h;exact absurd h aj;exact absurd h aj;rw[mJ]at h;cases h)
  rw[h3]at hE
  refine go ?_
  refine pL rfl bO ?_
  intro bm
  refine aT (aq.fold (B:=[_]) (A:=aV dV bm (To [])) (fun h hs=>⟨h,sub.refl h,oW dV bm h (eO hs)⟩)) ?_
  refine go ?_
  refine bF (fun i:Nat=>i≤l.length∧((l.take i).map Bl.d).Nodup) (fun i=>l.length-i)
   (fun i=>[(1,ptr b1),(4,.map (some bm)),(25,.slice a l.length c),(26,.int .i64 (l.length:Int)),(27,.int .i64 (i:Int))])
   (fun i=>aV dV bm (To ((l.take i).map Bl.d))::A::F) 0 ⟨Nat.zero_le _,by simp⟩ rfl cF ad ?_
  rintro i⟨hi,lq⟩ ih
  refine go ?_
  refine aB zr zr ?_ ?_
  ·intro dk
   have e9:i<l.length:=by omega
   obtain⟨x,hx⟩:∃x,l[i]?=some x:=⟨l[i],by simp⟩
   obtain⟨b,o,gV,ez⟩:=hv.some (aaX e9)
   simp only[Value.slice.injEq]at ez
   obtain⟨rfl,_,rfl⟩:=ez
   have om:(l.take (i+1)).map Bl.d=(l.take i).map Bl.d++[x.d]:=by rw[List.take_add_one,hx];simp
   refine go ?_
   refine cu i 66 zr zr zr zr zr zr zr zr e9 ?_
   refine aY ?_
   refine cK (U:=bh) (es:=ck x) 1 (i*66) zr zr zr hv rfl (blE hx) zr zr zr ?_
   refine aL zr zr zr bO ?_
   intro b6
   refine go ?_
   refine ct 0 zr zr zr zr zr zr ?_
   refine Sv (U:=bh) (key:=x.d) 1 rfl TX zr zr zr zr zr zr zr zr ?_
   refine au 34 (.bool (decide (x.d∈(l.take i).map Bl.d))) rfl (PA _ _) (go ?_)
   refine aB zr zr ?_ ?_
   ·intro nI
    have htw:ry l=true:=by
     cases h:ry l with
     | true=>rfl
     | false =>
      exfalso
      have hN:=(CP l).1 h
      have eg:((l.take (i+1)).map Bl.d).Nodup:=hN.sublist ((List.take_sublist _ _).map _)
      grind
    rw[htw]at hE
    refine go ?_
    refine ah hE Tryz.func231 zr zr ⟨rfl,rfl⟩
   ·intro Ua
    refine go ?_
    refine ct 0 zr zr zr zr zr zr ?_
    refine jH (key:=x.d) 1 TX eH zr zr zr zr zr zr zr zr ?_
    rw[Tn Ua,← om]
    refine go ?_
    refine aQ ih (i+1) rfl ⟨aj,by rw[om,List.nodup_append];exact⟨lq,by simp,fun p hp q hq=>by simp at hq;subst hq;exact fun e=>Ua (e ▸ hp)⟩⟩ aj cF ad
  intro fO
  have ue:i=l.length:=by omega
  subst ue
  rw[List.take_length]at lq
  rw[(CP l).2 lq]at hE
  refine go ?_
  refine ah hE Tryz.func231 zr zr ⟨rfl,rfl⟩
def eU.ZS{b o n:Nat}{bs:List UInt8}{l:List Value}{e:TypeId}(hn:bs.length=n)(hl:(l.drop o).take n=bV bs):eU (ak b (cl l e)) (.slice (some ⟨b,o,none⟩) n n) bs:=by
 subst hn
 exact⟨Vw.ak (by rw[bN];exact hl),_,_,rfl,Nat.le_refl _⟩
theorem A7:∀(l:List Bl) (i:Nat) (x:Bl),jS i (l++[x])=jS i l++[(((i+l.length:Nat):Int)+1,cU (ew x))]
 | [],i,x=>by simp[jS]
 | y::l,i,x=>by
  simp only[List.cons_append,jS,A7 l (i+1) x,List.length_cons]
  grind
theorem ud:∀(l:List Bl) (i:Nat),(jS i l).length=l.length
 | [],i=>rfl
 | y::l,i=>by simp only[jS,List.length_cons,ud l (i+1)]
structure Its where
 l:List It
 Z:HP
theorem G3(A:HP)(v:Value)(l:List Bl)(hv:Vw A v l.length (l.flatMap ck))(hlen:l.length≤1000000) :
    aH Tryz.prog 173 [LH v] [A] (fun r H=>(hG l≠0∧r = .tuple #[.slice none 0 0,.int .i64 (hG l:Int)]∧H=[A]) ∨
      ∃rv,hG l=0∧r = .tuple #[rv,.int .i64 0]∧H=[aK 5 1 rv (wH l).length (bV (wH l)),A]):=by
  have Rt:=yu A v l hv hlen
  obtain⟨a,c,rfl⟩:=hv.shape
  unfold LH at Rt ⊢
  refine aH.aC Tryz.func173 Tryz.ntmps173 fun G F R hE=>?_
  refine aP rfl ?_
  refine bJ zr zr bO ?_
  intro b1
  refine go ?_
  refine aW (U:=bh) (l:=[.slice a l.length c]) 0 zr zr zr zr zr zr ?_
  refine aeb Rt ?_
  refine go ?_
  refine aB zr zr ?_ ?_
  · intro dw
    have hJ:hG l≠0:=by omega
    refine go ?_
    refine ah hE Tryz.func173 zr zr (.inl ⟨hJ,rfl,rfl⟩)
  intro heq
  have h0:hG l=0:=by omega
  obtain⟨agt,Kb,rU⟩:=qs h0
  refine go ?_
  refine al (aq.trans (aq.cg [] _) (bS 127 2 none _)) ?_
  refine bF (fun y:Nat × Its × Option Addr × Nat=>y.1≤l.length∧y.2.1.l.map It.p=jS 0 (l.take y.1)∧∀z∈y.2.1.l,eU y.2.1.Z z.v z.b) (fun y=>l.length-y.1)
    (fun y=>[(1,ptr b1),(5,.slice y.2.2.1 y.2.1.l.length y.2.2.2),(18,.slice a l.length c),(19,.int .i64 (l.length:Int)),(20,.int .i64 (y.1:Int))])
    (fun y=>aK 127 2 (.slice y.2.2.1 y.2.1.l.length y.2.2.2) y.2.1.l.length (y.2.1.l.flatMap kq)::y.2.1.Z::A::F) (0,⟨[],Sep []⟩,none,0) ⟨Nat.zero_le _,rfl,by simp⟩ rfl cF ad ?_
  rintro⟨i,⟨eu,Z⟩,ia,ic⟩⟨hi,mO,vv⟩ ih
  simp only at hi mO vv
  dsimp only
  have ads:eu.length=i:=by
    grind [ud]
  refine go ?_
  refine aB zr zr ?_ ?_
  · intro dk
    have e9:i<l.length:=by omega
    obtain⟨x,hx⟩:∃x,l[i]?=some x:=⟨l[i],by simp⟩
    have hxr:=rU x (List.mem_of_getElem? hx)
    have aet:=hxr
    simp only[bP,decide_eq_true_eq]at aet
    obtain⟨sz,kr⟩:∃m:Nat,x.size=m:=⟨x.size.toNat,aj⟩
    obtain⟨pc,J7⟩:∃m:Nat,x.piece=m:=⟨x.piece.toNat,aj⟩
    obtain⟨b,o,gV,ez⟩:=hv.some (aaX e9)
    simp only[Value.slice.injEq]at ez
    obtain⟨rfl,_,rfl⟩:=ez
    refine go ?_
    refine cu i 66 zr zr zr zr zr zr zr zr e9 ?_
    refine aY ?_
    refine cK (U:=bh) (es:=ck x) 2 (i*66) zr zr zr hv rfl (blE hx) zr zr zr ?_
    refine aL zr zr zr bO ?_
    intro b7
    refine go ?_
    refine aO (fun w=>Sat G w ([ak b7 (cl (ck x) 31)])) (dM 0 3 (dM 4 3 (.act 3 (.act 7 (.st 8 (.st 9 .nil)))))) rfl aw aw aw dI ?_
    refine go ?_
    refine au 27 ((.int .u64 (sz:Int))) rfl ((congrArg (Value.int .u64) kr)) ?_
    refine au 31 ((.int .u64 (pc:Int))) rfl ((congrArg (Value.int .u64) J7)) ?_
    refine bz (fK sz aj) ?_
    rintro r8 _ rfl
    refine bz (fK pc aj) ?_
    rintro r9 _ rfl
    refine aN 0 rfl ?_
    rintro a9 c9 rfl
    refine aN 1 rfl ?_
    rintro a8 c8 rfl
    refine fY (bs:=uv pc) 0 rfl ?_
    intro hb9
    refine fY (bs:=uv sz) 1 rfl ?_
    intro N2
    refine go ?_
    obtain⟨SP,Rr⟩:∃SP:List It,SP=[⟨1,.slice (some ⟨b7,0,none⟩) 32 32,x.d.bs⟩,⟨2,.slice a8 (uv sz).length c8,uv sz⟩,⟨3,.slice a9 (uv pc).length c9,uv pc⟩,⟨4,.slice (some ⟨b7,34,none⟩) 32 32,x.root.bs⟩]:=⟨_,rfl⟩
    have hp4:SP.map It.p=ew x:=by rw[Rr];simp only[ew,List.map_cons,List.map_nil,It.p,kr,J7,Int.toNat_natCast]
    have w9:=A8 x hxr
    refine aO (fun w=>Sat G w ([])) (dM 0 10 (.act 10 (.act 11 (dM 12 5 .nil)))) rfl aw aw aw dI ?_
    (repeat(first|refine g9 ?_|refine iP (U:=bh) zr zr zr zr zr ?_))
    refine az (cs:=SP.flatMap kq) zr zr zr zr zr zr zr zr (by rw[Rr];rfl) (fun _ _ hw=>hw.cI ad) ?_
    intro row
    have h4:SP.length=4:=by rw[Rr];rfl
    have Ux:qM (Sep [ak row (cl (SP.flatMap kq) 127),ak b7 (cl (ck x) 31),aK 5 1 (.slice a8 (uv sz).length c8) (uv sz).length (bV (uv sz)),aK 5 1 (.slice a9 (uv pc).length c9) (uv pc).length (bV (uv pc))]) (.slice (some ⟨row,0,none⟩) 4 4) SP:=by
      refine⟨?_,fun y hy=>?_⟩
      · rw[h4]
        exact(Vw.ak (by rw[List.drop_zero,List.take_length])).mono (aX (i:=0) rfl)
      · rw[Rr]at hy
        simp only[List.mem_cons,List.not_mem_nil,or_false]at hy
        rcases hy with rfl|rfl|rfl|rfl
        · exact(eU.ZS x.d.len (by rw[← fg];exact aaV x)).mono (aX (i:=1) rfl)
        · exact N2.mono (aX (i:=2) rfl)
        · exact hb9.mono (aX (i:=3) rfl)
        · exact(eU.ZS x.root.len (by rw[← fg];exact UU x)).mono (aX (i:=1) rfl)
    have Hh:fA 0 (SP.map It.p)=true:=by rw[hp4];simp[ew,fA]
    have Bi:=lD _ _ SP Ux aj Hh (by rw[hp4];omega)
    rw[hp4]at Bi
    clear Hh Ux hp4 h4
    clear Rr
    refine aT (aq.trans (aq.pick [0,3,2,1] rfl) (aq.cg [ak row (cl (SP.flatMap kq) 127),ak b7 (cl (ck x) 31),aK 5 1 (.slice a8 (uv sz).length c8) (uv sz).length (bV (uv sz)),aK 5 1 (.slice a9 (uv pc).length c9) (uv pc).length (bV (uv pc))] _)) ?_
    refine bz Bi ?_
    rintro _ _⟨rr,rfl,rfl⟩
    refine aN 0 rfl ?_
    rintro ra rc rfl
    refine fY (bs:=cU (ew x)) 0 rfl ?_
    intro r'
    refine go ?_
    refine az (cs:=kq ⟨(i:Int)+1,.slice ra (cU (ew x)).length rc,cU (ew x)⟩) zr zr zr zr zr zr zr zr zr bO ?_
    intro PU
    refine go ?_
    refine bg (mm:=1) (news:=kq ⟨(i:Int)+1,.slice ra (cU (ew x)).length rc,cU (ew x)⟩) 3 0 rfl rfl rfl rfl rfl rfl rfl rfl rfl rfl rfl rfl (Vw.ak rfl) rfl (by intro v hv;simp[kq]at hv;rcases hv with rfl|rfl <;> rfl) aj (by show(_+_)*32≤_;omega) (fun _=>rfl) bO ?_
    intro v1
    rw[show eu.flatMap kq++kq (⟨(i:Int)+1,.slice ra (cU (ew x)).length rc,cU (ew x)⟩:It)=(eu++[(⟨(i:Int)+1,.slice ra (cU (ew x)).length rc,cU (ew x)⟩:It)]).flatMap kq from by simp,show eu.length+1=(eu++[(⟨(i:Int)+1,.slice ra (cU (ew x)).length rc,cU (ew x)⟩:It)]).length from by simp]
    refine aN 3 rfl ?_
    rintro ja jc rfl
    refine go ?_
    have Rs:(eu++[(⟨(i:Int)+1,.slice ra (cU (ew x)).length rc,cU (ew x)⟩:It)]).map It.p=jS 0 (l.take (i+1)):=by
      rw[List.take_add_one,hx,List.map_append,mO]
      grind [A7,It.p]
    refine al (aq.trans (aq.pick [1,4] rfl) (aq.cg [aK 5 1 (.slice ra (cU (ew x)).length rc) (cU (ew x)).length (bV (cU (ew x))),Z] _)) ?_
    refine aQ ih (i+1,⟨eu++[(⟨(i:Int)+1,.slice ra (cU (ew x)).length rc,cU (ew x)⟩:It)],Sep [aK 5 1 (.slice ra (cU (ew x)).length rc) (cU (ew x)).length (bV (cU (ew x))),Z]⟩,ja,jc) rfl ⟨by simp only;omega,Rs,fun z hz=>by
      rcases List.mem_append.1 hz with h|h
      · exact(vv z h).mono (aX (i:=1) rfl)
      · rw[List.mem_singleton.1 h];exact r'.mono (aX (i:=0) rfl)⟩ (by simp only;omega) cF ad
  · intro fO
    have ue:i=l.length:=by omega
    subst ue
    rw[List.take_length]at mO
    have tq:=HQ h0
    unfold wH at tq
    have Hh:=yU l 0 aj
    rw[← mO]at tq Hh
    refine eE 0 rfl ?_
    intro dH
    have Ux:qM (Sep [aK 127 2 (.slice ia eu.length ic) eu.length (eu.flatMap kq),Z]) (.slice ia eu.length ic) eu:=⟨dH.mono (aX (i:=0) rfl),fun y hy=>(vv y hy).mono (aX (i:=1) rfl)⟩
    have Bi:=lD _ _ eu Ux aj Hh aj
    have hee:cU (eu.map It.p)=wH l:=by rw[mO];rfl
    rw[hee]at Bi
    refine go ?_
    refine aT (aq.cg [_,_] _) ?_
    refine ao Bi ?_
    rintro _ _⟨rr,rfl,rfl⟩
    refine go ?_
    refine ah hE Tryz.func173 zr zr (.inr ⟨rr,h0,rfl,rfl⟩)
def Iq(A:HP)(hK:qI A)(v:Value)(l:List Bl)(hv:Vw A v l.length (l.flatMap ck))(hlen:l.length≤1000000) :
  aH Tryz.prog 102 [LH v] [A] (fun r H=>r=(if hG l=0 then .tuple #[dV (AN l),.int .i64 0]else .tuple #[dV Dg.zero,.int .i64 (hG l:Int)])∧H=[A]):=by
 have Rt:=G3 A v l hv hlen
 obtain⟨a,c,rfl⟩:=hv.shape
 unfold LH at Rt ⊢
 refine aH.aC Tryz.func102 Tryz.ntmps102 fun G F R hE=>?_
 refine aP rfl ?_
 refine bJ zr zr bO ?_
 intro b1
 refine aL zr zr zr bO ?_
 intro b2
 refine go ?_
 refine aW (U:=bh) (l:=[.slice a l.length c]) 1 zr zr zr zr zr zr ?_
 refine ao Rt ?_
 rintro _ _ (⟨h0,rfl,rfl⟩|⟨rv,h0,rfl,rfl⟩)
 ·rw[if_neg h0]at hE
  refine go ?_
  refine aB zr zr ?_ ?_
  case' refine_2=>(intro h;exfalso;omega)
  intro _
  refine go ?_
  refine jJ (U:=bh) zr zr zr zr zr (go ?_)
  (refine bL hE ?_;apply bH (U:=bh) hE Tryz.func102 rfl (aq.refl _);(repeat(first|exact ae.nil|apply ae.tmp rfl|apply ae.agg 1 zr zr zr zr zr));exact⟨rfl,rfl⟩;exact ad)
 ·rw[if_pos h0]at hE
  have tq:=HQ h0
  refine fY (bs:=wH l) 0 rfl ?_
  intro O9
  refine aT (aq.cg [_,_] _) (go ?_)
  refine aeb (qE _ (hK.mono (aX (H:=[aK 5 1 rv (wH l).length (bV (wH l)),A]) (i:=1) rfl)) rv (wH l) (O9.mono (aX (i:=0) rfl)) aj) ?_
  refine aT (aq.cR _ _) (go ?_)
  (refine bL hE ?_;apply bH (U:=bh) hE Tryz.func102 rfl (aq.refl _);(repeat(first|exact ae.nil|apply ae.tmp rfl|apply ae.agg 2 zr zr zr zr zr));exact⟨rfl,rfl⟩;exact ad)
end Go.Proofs.YtlionahpheehaaaGreatDoor
