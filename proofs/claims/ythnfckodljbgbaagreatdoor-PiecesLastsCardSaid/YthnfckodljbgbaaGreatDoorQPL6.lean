import Derived.Test.YthnfckodljbgbaaGreatDoorQPL2
import Derived.Test.YthnfckodljbgbaaGreatDoorQPL4
import Derived.Test.YthnfckodljbgbaaGreatDoorQPL5
import Derived.Laws.StructEq
set_option linter.unusedSimpArgs false
set_option linter.unusedVariables false
set_option maxHeartbeats 1000000
set_option maxRecDepth 20000
set_option linter.defProp false
namespace Go.Proofs.YthnfckodljbgbaaGreatDoor
open Go Go.SL
attribute [local irreducible] J K aD Ends ae aF aL bU bo aU bh bq cg Sha.chunks Sha.chunk Sha.rounds Sha.sched dW
def xD{tag:UInt8}{ps:List (List UInt8)}{i:Nat}{p:List UInt8}(h:ps[i]?=some p):dm tag (ps.take (i+1))=dm tag (ps.take i)++(mw p.length++p):=by
 unfold dm
 rw[List.take_add_one,h]
 simp
theorem B7(tag:UInt8)(ps:List (List UInt8))(i:Nat):(dm tag (ps.take i)).length≤(dm tag ps).length:=by
 conv=>rhs;rw[← List.take_append_drop i ps]
 grind [dm]
theorem uy(tag:UInt8)(ps:List (List UInt8)):ps.length≤(dm tag ps).length:=by
 unfold dm
 induction ps with
 | nil=>simp
 | cons p ps ih =>
  grind [mw]
def KT(n:Nat):(mw n).length=8:=by simp[mw]
def F3{n i:Nat}(h:i<8):(mw n).take (i+1)=(mw n).take i++[UInt8.ofNat (n/2 ^ (8*i))]:=by
 rw[List.take_add_one];simp[mw,h]
theorem AF(A:HP)(hK:oZ A)(tag:UInt8)(v:Value)(ps:List (List UInt8))(hv:sJ A v ps)(hl:(dm tag ps).length≤1000000000) :
  aD Tryz.prog 153 [u8 tag,v] [A] (fun r H=>r=dV (cy tag ps)∧H=[A]):=by
 obtain⟨cs,dO,ki,⟨a,c,rfl,hc⟩,tB⟩:=hv
 have Jn:=uy tag ps
 refine aD.aw Tryz.func153 Tryz.ntmps153 fun G F R hE=>?_
 refine aB rfl ?_
 refine aC zr zr zr bE ?_
 intro b4
 refine ln ?_
 refine aB rfl ?_
 refine ln ?_
 refine ao (cs:=bV [tag]) zr zr zr zr zr zr zr zr zr bE ?_
 intro b0
 refine go ?_
 refine ai (eS 5 1 b0 1 1 (bV [tag]) [] _ rfl (Nat.le_refl _) (by simp[bV])) ?_
 refine bB (fun y:Nat × Option Addr × Nat=>y.1≤ps.length) (fun y=>ps.length-y.1)
  (fun y=>[(4,ptr b4),(11,.slice a ps.length c),(12,.int .i64 (ps.length:Int)),(13,.int .i64 (y.1:Int)),(5,.slice y.2.1 (dm tag (ps.take y.1)).length y.2.2)])
  (fun y=>aF 5 1 (.slice y.2.1 (dm tag (ps.take y.1)).length y.2.2) (dm tag (ps.take y.1)).length (bV (dm tag (ps.take y.1)))::A::ae b4 (cl (dC Dg.zero) 37)::F) (0,some ⟨b0,0,none⟩,1) (Nat.zero_le _) rfl ck ah ?_
 rintro⟨i,a1,c1⟩ hi ih
 refine go ?_
 refine au zr zr ?_ ?_
 ·intro dJ
  have me:i<ps.length:=by omega
  obtain⟨p,hp⟩:∃p,ps[i]?=some p:=⟨ps[i],List.getElem?_eq_getElem me⟩
  obtain⟨cv,sw,hb⟩:=tB i p hp
  obtain⟨b1,o1,c0,pH⟩:=dO.some (by intro h;rw[h]at sw;simp at sw)
  obtain⟨rfl,-,rfl⟩:=pH
  have kU:=xD (tag:=tag) hp
  have hle:=B7 tag ps (i+1)
  have acN:=KT p.length
  rw[kU]at hle
  simp only[List.length_append]at hle
  obtain⟨T0,Rg⟩:∃T0,T0=dm tag (ps.take i):=⟨_,rfl⟩
  rw[← Rg]at kU hle ⊢
  obtain⟨ax,cx,rfl,OZ⟩:=hb.2
  have K6:∀j:Nat,j≤8→(T0++(mw p.length).take j).length=T0.length+j:=fun j hj=>by
   grind
  refine go ?_
  refine bR i zr zr zr zr zr zr zr zr me ?_
  refine aK ?_
  refine aX 1 i zr zr zr dO rfl sw zr zr (go ?_)
  refine bB (fun y:Nat × Option Addr × Nat=>y.1≤8) (fun y=>8-y.1)
   (fun y=>[(4,ptr b4),(7,.slice ax p.length cx),(11,.slice (some ⟨b1,o1,none⟩) ps.length c),(12,.int .i64 (ps.length:Int)),(13,.int .i64 (i:Int)),(5,.slice y.2.1 (T0++(mw p.length).take y.1).length y.2.2),(17,.int .i64 (y.1:Int))])
   (fun y=>aF 5 1 (.slice y.2.1 (T0++(mw p.length).take y.1).length y.2.2) (T0++(mw p.length).take y.1).length (bV (T0++(mw p.length).take y.1))::A::ae b4 (cl (dC Dg.zero) 37)::F) (0,a1,c1) (Nat.zero_le _) rfl (by simp only[List.take_zero,List.append_nil];exact ck) (by simp only[List.take_zero,List.append_nil];exact ah) ?_
  rintro⟨j,a2,c2⟩ hj Tw
  have Bb:=K6 j hj
  refine go ?_
  refine au zr zr ?_ ?_
  ·intro hj8
   have ZP:j<8:=by omega
   have htj:=F3 (n:=p.length) ZP
   refine go ?_
   refine iA zr zr zr (by simp only[gy];omega) ?_
   refine az 25 ((.int .i64 ((8*j:Nat):Int))) rfl ((congrArg (Value.int .i64) ag)) ?_
   refine jN zr zr zr ag ?_
   ((refine az 26 ((.int .u64 ((p.length/2 ^ (8*j):Nat):Int))) rfl ((congrArg (Value.int .u64) (by rw[Int.toNat_natCast,show min (8*j) IntKind.u64.bits=8*j from by show min (8*j) 64=_;omega];simp))) ?_))
   refine fb ?_
   refine jv zr zr zr zr zr zr ?_
   refine az 27 ((u8 (UInt8.ofNat (p.length/2 ^ (8*j))))) rfl ((mg _)) ?_
   (refine ao (cs:=bV [(UInt8.ofNat (p.length/2 ^ (8*j)))]) zr zr zr zr zr zr zr zr zr bE ?_;intro bA;refine aT (mm:=1) (news:=bV [(UInt8.ofNat (p.length/2 ^ (8*j)))]) 1 0 zr zr zr zr zr zr zr zr zr zr zr zr (Vw.ae rfl) rfl (db _) (by(rw[Bb];omega)) (by show(_+_)*1≤_;(rw[Bb];omega)) (fun _=>rfl) bE ?_;intro vA;rw[show bV ((T0++(mw p.length).take j))++bV [(UInt8.ofNat (p.length/2 ^ (8*j)))]=bV (((T0++(mw p.length).take j))++[(UInt8.ofNat (p.length/2 ^ (8*j)))])from by simp[bV],show((T0++(mw p.length).take j)).length+1=(((T0++(mw p.length).take j))++[(UInt8.ofNat (p.length/2 ^ (8*j)))]).length from(@List.length_append _ ((T0++(mw p.length).take j)) [(UInt8.ofNat (p.length/2 ^ (8*j)))]).symm];((refine aP 1 rfl ?_));rintro aA cA rfl)
   rw[show T0++(mw p.length).take j++[UInt8.ofNat (p.length/2 ^ (8*j))]=T0++(mw p.length).take (j+1)from by rw[htj,List.append_assoc]]
   refine go ?_
   refine aM Tw (j+1,aA,cA) rfl ag ag ck ah
  intro fO
  have hj8:j=8:=by omega
  rw[List.take_of_length_le ag]at Bb ⊢
  refine go ?_
  (refine aT (mm:=(p).length) (news:=bV (p)) 0 1 zr zr zr zr zr zr zr zr zr zr zr zr (hb.1) (by show _=_*1;rw[bM];omega) (db _) (by(rw[Bb];omega)) (by show(_+_)*1≤_;(rw[Bb];omega)) (fun _=>rfl) bE ?_;intro vA;rw[show bV ((T0++mw p.length))++bV (p)=bV (((T0++mw p.length))++(p))from by simp[bV],show((T0++mw p.length)).length+(p).length=(((T0++mw p.length))++(p)).length from(@List.length_append _ ((T0++mw p.length)) (p)).symm];((refine aP 0 rfl ?_));rintro aA cA rfl)
  rw[show T0++mw p.length++p=dm tag (ps.take (i+1))from by rw[kU,List.append_assoc]]
  refine go ?_
  refine aM ih (i+1,aA,cA) rfl ag ag ck ah
 intro fO
 have gz:i=ps.length:=by omega
 subst gz
 rw[List.take_length]
 refine qU (bs:=dm tag ps) 0 rfl ?_
 intro Tx
 refine ai (ak.bX [_,_] _) (go ?_)
 refine aN (yA _ (hK.mono (aY (i:=1) rfl)) _ (dm tag ps) (Tx.mono (aY (i:=0) rfl)) hl) ?_
 refine aJ (ak.cK _ _) (go ?_)
 refine jY (U:=aR) 2 hE Tryz.func153 zr zr zr zr zr zr zr ⟨rfl,rfl⟩ ah
theorem RJ(x:Nat)(hx:x<256):IntKind.u8.wrap ((BitVec.ofInt IntKind.u8.bits (x:Int) &&& BitVec.ofInt IntKind.u8.bits 15).toNat:Int)=((x%16:Nat):Int):=by
 have e2:(BitVec.ofInt IntKind.u8.bits (15:Int)).toNat=2 ^ 4-1:=by decide
 rw[BitVec.toNat_and,ym hx,e2,Nat.and_two_pow_sub_one_eq_mod]
 grind [cV,gy]
def QG(n:Nat)(h:n<16):wQ ⟨#[48,49,50,51,52,53,54,55,56,57,97,98,99,100,101,102]⟩ n=C9 n:=by
 have:∀n:Nat,n<16→wQ ⟨#[48,49,50,51,52,53,54,55,56,57,97,98,99,100,101,102]⟩ n=C9 n:=by decide
 exact this n h
def Im{d:Dg}{i:Nat}(h:i<32):(ir d).take (2*(i+1))=(ir d).take (2*i)++[C9 ((d.at i).toNat/16),C9 ((d.at i).toNat%16)]:=by
 have e1:xq d (2*i)=C9 ((d.at i).toNat/16):=by unfold xq;rw[if_pos ag,show 2*i/2=i from by omega]
 have e2:xq d (2*i+1)=C9 ((d.at i).toNat%16):=by unfold xq;rw[if_neg ag,show(2*i+1)/2=i from by omega]
 rw[show 2*(i+1)=2*i+1+1 from by omega,List.take_add_one,List.take_add_one,om d ag,om d ag,e1,e2]
 simp
def aal(d:Dg){i:Nat}(h:i<32):(dC d)[i]?=some (u8 (d.at i)):=by
 rw[dL]
 exact pP (d.RG h)
def RM(d:Dg):aD Tryz.prog 137 [dV d] [] (fun r H=>r = .string (strOf (ir d))∧H=[]):=by
 refine aD.aw Tryz.func137 Tryz.ntmps137 fun G F R hE=>?_
 refine aB rfl ?_
 refine bG zr zr bE ?_
 intro b1
 refine go ?_
 refine nU (U:=aR) (p:=0) (q:=64) zr zr zr zr zr zr zr zr zr ag ag (by decide) bE ?_
 intro b3
 refine go ?_
 have mf:=eS 5 1 b3 0 64 [] (List.replicate 64 (u8 0)) (ae b1 (cl (dC d) 37)::F) rfl ag (by rw[List.length_replicate];exact Nat.le_add_left _ _)
 refine aJ mf ?_
 refine aH (U:=aR) 1 zr zr zr zr zr zr (go ?_)
 refine bB (fun y:Nat × Option Addr × Nat=>y.1≤32) (fun y=>32-y.1)
  (fun y=>[(3,.slice y.2.1 ((ir d).take (2*y.1)).length y.2.2),(7,dV d),(8,.int .i64 (y.1:Int))])
  (fun y=>aF 5 1 (.slice y.2.1 ((ir d).take (2*y.1)).length y.2.2) ((ir d).take (2*y.1)).length (bV ((ir d).take (2*y.1)))::F) (0,some ⟨b3,0,none⟩,64) (Nat.zero_le _) rfl ck ah ?_
 rintro⟨i,a1,c1⟩ hi ih
 have hlen:((ir d).take (2*i)).length=2*i:=by rw[List.length_take,kZ];omega
 refine go ?_
 refine au zr zr ?_ ?_
 ·intro dJ
  have uM:i<32:=by omega
  have hg:=aal d uM
  have kU:=Im (d:=d) uM
  have hx:=(d.at i).toNat_lt
  refine go ?_
  refine AV (U:=aR) zr zr zr zr zr zr zr zr ag ag (show(dC d).toArray.toList[((i:Nat):Int).toNat]?=some (u8 (d.at i))from by rw[Int.toNat_natCast];exact hg) ?_
  generalize d.at i=x at kU hx
  refine go ?_
  refine aG (fun w=>Sat G w ([])) (dj 0 7 (.act 7 (.act 8 (.st 9 .nil)))) rfl aq aq aq eo ?_
  refine go ?_
  refine jN zr zr zr ag ?_
  ((refine az 13 ((.int .u8 ((x.toNat/16:Nat):Int))) rfl ((congrArg (Value.int .u8) (by show(x.toNat:Int)/2 ^ 4=_;omega))) ?_))
  refine tM (U:=aR) zr zr zr zr zr ag (by show((x.toNat/16:Nat):Int)<16;omega) ?_
  refine az 14 ((u8 (C9 (x.toNat/16)))) rfl ((congrArg u8 (QG (x.toNat/16) ag))) (go ?_)
  refine go ?_
  refine az 16 ((.int .u8 ((x.toNat%16:Nat):Int))) rfl ((congrArg (Value.int .u8) (RJ x.toNat hx))) ?_
  refine tM (U:=aR) zr zr zr zr zr ag (by show((x.toNat%16:Nat):Int)<16;omega) ?_
  refine az 17 ((u8 (C9 (x.toNat%16)))) rfl ((congrArg u8 (QG (x.toNat%16) ag))) ?_
  refine ao (cs:=bV [C9 (x.toNat/16),C9 (x.toNat%16)]) zr zr zr zr zr zr zr zr zr (fun _ _ hw=>hw.cL ah) ?_
  intro bA
  refine aT (mm:=2) (news:=bV [C9 (x.toNat/16),C9 (x.toNat%16)]) 1 0 zr zr zr zr zr zr zr zr zr zr zr zr (Vw.ae rfl) rfl (db _) (by rw[hlen];omega) (by show(_+_)*1≤_;rw[hlen];omega) (fun _=>rfl) (fun _ _ hw=>hw.cL ah) ?_
  intro vA
  rw[show bV ((ir d).take (2*i))++bV [C9 (x.toNat/16),C9 (x.toNat%16)]=bV ((ir d).take (2*(i+1)))from by rw[kU];simp[bV],show((ir d).take (2*i)).length+2=((ir d).take (2*(i+1))).length from by rw[kU,List.length_append];rfl]
  refine aP 1 rfl ?_
  rintro aA cA rfl
  refine go ?_
  refine aM ih (i+1,aA,cA) rfl ag ag ck ah
 intro fO
 have uM:i=32:=by omega
 subst uM
 refine qU (bs:=ir d) 0 rfl ?_
 intro Tx
 refine go ?_
 refine Eh (U:=aR) 0 zr zr zr zr zr zr zr zr zr Tx.1 (go ?_)
 refine ad hE Tryz.func137 zr zr ⟨rfl,rfl⟩
theorem LW(c:UInt8):aD Tryz.prog 211 [u8 c] [] (fun r H=>r = .tuple #[.int .u8 (((l3 c).getD 0:Nat):Int),.bool (l3 c).isSome]∧H=[]):=by
 have h1:(48≤c.toNat∧c.toNat≤57)→Value.tuple #[.int .u8 ((c.toNat:Int)-48),.bool true] = .tuple #[.int .u8 (((l3 c).getD 0:Nat):Int),.bool (l3 c).isSome]:=fun h=>by
  grind [l3]
 have h2:(97≤c.toNat∧c.toNat≤102)→Value.tuple #[.int .u8 ((c.toNat:Int)-97+10),.bool true] = .tuple #[.int .u8 (((l3 c).getD 0:Nat):Int),.bool (l3 c).isSome]:=fun h=>by
  grind [l3]
 have h3:¬(48≤c.toNat∧c.toNat≤57)∧¬(97≤c.toNat∧c.toNat≤102)→Value.tuple #[.int .u8 0,.bool false] = .tuple #[.int .u8 (((l3 c).getD 0:Nat):Int),.bool (l3 c).isSome]:=fun h=>by
  grind [l3]
 refine aD.aw Tryz.func211 Tryz.ntmps211 fun G F R hE=>?_
 repeat'(first|(with_reducible intro p6)|refine eZ ?_|refine hJ zr zr zr zr ?_ ?_|refine au zr zr ?_ ?_)
 all_goals(first|((refine ad hE Tryz.func211 zr zr ⟨h1 ⟨ag,ag⟩,rfl⟩))|((refine ad hE Tryz.func211 zr zr ⟨h2 ⟨ag,ag⟩,rfl⟩))|((refine ad hE Tryz.func211 zr zr ⟨h3 ag,rfl⟩)))
theorem Tc(s:List UInt8){i:Nat}(h:i<64):(HZ s i)[i/2]?=some (UInt8.ofNat (if i%2=0 then 0 else kT s (i-1))):=by
 grind [ux]
theorem P9(s:List UInt8){i:Nat}(h:i<64):(HZ s i).set (i/2) (UInt8.ofNat (16*(if i%2=0 then 0 else kT s (i-1))+kT s i))=HZ s (i+1):=by
 apply List.ext_getElem?
 grind [nD,ux]
theorem Y8(x y:Nat)(hx:x<16)(hy:y<16):IntKind.u8.wrap ((BitVec.ofInt IntKind.u8.bits ((16*x:Nat):Int) ||| BitVec.ofInt IntKind.u8.bits (y:Int)).toNat:Int)=((16*x+y:Nat):Int):=by
 have h:=py (a:=y) (c:=x) (k:=4) ag
 grind [ym,cV,gy]
theorem Oa(s:ByteArray):aD Tryz.prog 178 [.string s] [] (fun r H=>r=(match kx s.data.toList with
    | some d => .tuple #[dV d,.int .i64 0]
    | none => .tuple #[dV Dg.zero,.int .i64 2])∧H=[]):=by
  obtain⟨l,hl⟩:∃l,l=s.data.toList:=⟨_,rfl⟩
  have iY:s.size=l.length:=by rw[hl];rfl
  rw[← hl]
  refine aD.aw Tryz.func178 Tryz.ntmps178 fun G F R hE=>?_
  refine aB rfl ?_
  refine aC zr zr zr bE ?_
  intro b2
  refine ln ?_
  refine aB rfl ?_
  refine aC zr zr zr bE ?_
  intro b4
  refine go ?_
  refine au zr zr ?_ ?_
  · intro df
    have hp:kx l=none:=by unfold kx;rw[if_neg (by intro h;apply df;rw[iY,h.1];rfl)]
    rw[hp]at hE
    refine aB rfl ?_
    refine aH (U:=aR) 0 zr zr zr zr zr zr (go ?_)
    (refine aZ hE ?_;apply aW (U:=aR) hE Tryz.func178 rfl (ak.refl _);(repeat(first|exact aQ.nil|apply aQ.tmp rfl|apply aQ.agg 1 zr zr zr zr zr));exact⟨rfl,rfl⟩;exact ah)
  intro heq
  have SF:l.length=64:=by rw[iY]at heq;omega
  refine go ?_
  ((refine bj 13 ((.int .i64 64)) rfl ((congrArg (Value.int .i64) (by rw[iY];omega))) ?_))
  refine bB (fun i:Nat=>i≤64∧∀j,j<i→l3 (l.getD j 0)≠none) (fun i=>64-i)
    (fun i=>[(0,.string s),(2,ptr b2),(3,.int .i64 0),(4,ptr b4),(13,.int .i64 64),(14,.int .i64 (i:Int))])
    (fun i=>ae b4 (cl (bV (HZ l i)) 37)::ae b2 (cl (dC Dg.zero) 37)::F) 0 ⟨Nat.zero_le _,fun j hj=>by omega⟩ rfl ck (by rw[P8];exact ah) ?_
  rintro i⟨hi,uN⟩ ih
  refine go ?_
  refine au zr zr ?_ ?_
  · intro dJ
    have Ni:i<64:=by omega
    have hold:=Tc l Ni
    have zQ:=P9 l Ni
    have aeh:=DA l i
    have hvp:=DA l (i-1)
    refine go ?_
    refine tM (U:=aR) zr zr zr zr zr ag (by rw[iY];omega) ?_
    ((refine az 20 ((u8 (l.getD i 0))) rfl ((by rw[Int.toNat_natCast];unfold wQ;rw[← hl];rfl)) ?_))
    refine go ?_
    refine aN (LW (l.getD i 0)) ?_
    have hh0:(l3 (l.getD i 0)).getD 0=kT l i:=rfl
    cases hx:l3 (l.getD i 0)with
    | none =>
      have hp:kx l=none:=by
        unfold kx;rw[if_neg]
        grind
      rw[hp]at hE
      refine go ?_
      refine kK (U:=aR) zr zr zr zr zr (go ?_)
      (refine aZ hE ?_;apply aW (U:=aR) hE Tryz.func178 rfl (ak.refl _);(repeat(first|exact aQ.nil|apply aQ.tmp rfl|apply aQ.agg 1 zr zr zr zr zr));exact⟨rfl,rfl⟩;exact ah)
    | some v =>
      have hv:v=kT l i:=by rw[hx]at hh0;exact hh0
      simp only[Option.getD_some]
      rw[hv]
      obtain⟨o,ho⟩:∃o,o=(if i%2=0 then 0 else kT l (i-1)):=⟨_,rfl⟩
      have aeH:o<16:=by rw[ho];split <;> omega
      rw[← ho]at hold zQ
      have hq:(i:Int)/2=((i/2:Nat):Int):=by omega
      refine go ?_
      (repeat(first|refine eZ ?_|refine lP zr zr zr ag ag (by simp only[gy];omega) ?_|refine eE (U:=aR) (i/2) zr zr zr zr zr zr zr hq ag ?_|(refine aK ?_;refine ni (U:=aR) 0 (i/2) zr zr zr (Nat.zero_add _) (pP hold) zr zr ?_)))
      refine n8 zr zr zr ag ?_
      ((refine az 33 ((.int .u8 ((16*o:Nat):Int))) rfl ((congrArg (Value.int .u8) (by rw[show(UInt8.ofNat o).toNat=o from by rw[UInt8.toNat_ofNat'];omega];exact(cV (by show 0≤(o:Int)*2 ^ 4∧_;simp only[show min ((4:Int).toNat) IntKind.u8.bits=4 from rfl];omega)).trans (by show(o:Int)*2 ^ 4=_;omega)))) ?_))
      refine go ?_
      ((refine az 35 ((u8 (UInt8.ofNat (16*o+kT l i)))) rfl ((congrArg (Value.int .u8) (by rw[Y8 o (kT l i) aeH aeh,UInt8.toNat_ofNat'];omega))) ?_))
      (repeat((refine eE (U:=aR) (i/2) zr zr zr zr zr zr zr hq ag ?_)))
      refine aV ?_
      refine hG (U:=aR) 0 gf zr zr zr zr zr zr zr (by rw[bM,nD];omega) rfl ?_
      rw[show 0+i/2=i/2 from Nat.zero_add _,show(bV (HZ l i)).set (i/2) (u8 (UInt8.ofNat (16*o+kT l i)))=bV (HZ l (i+1))from by rw[← zQ];simp[bV]]
      refine go ?_
      refine aM ih (i+1) rfl ⟨ag,fun j hj=>by
        rcases Nat.lt_or_ge j i with h|h
        · exact uN j h
        · rw[show j=i from by omega,hx];simp⟩ ag ck ah
  intro fO
  have Ni:i=64:=by omega
  subst Ni
  have hp:kx l=some ⟨HZ l 64,nD l 64⟩:=by
    unfold kx
    rw[if_pos ⟨SF,fun c hc=>by
      obtain⟨j,hj,rfl⟩:=List.mem_iff_getElem.1 hc
      have:=uN j ag
      rwa[List.getD_eq_getElem?_getD,List.getElem?_eq_getElem hj]at this⟩]
  rw[hp]at hE
  obtain⟨d,hd⟩:∃d:Dg,d=⟨HZ l 64,nD l 64⟩:=⟨_,rfl⟩
  rw[← hd]at hE
  have VG:bV (HZ l 64)=dC d:=by rw[dL,hd]
  rw[VG]
  refine go ?_
  refine aH (U:=aR) 0 zr zr zr zr zr zr (go ?_)
  (refine aZ hE ?_;apply aW (U:=aR) hE Tryz.func178 rfl (ak.refl _);(repeat(first|exact aQ.nil|apply aQ.tmp rfl|apply aQ.agg 1 zr zr zr zr zr));exact⟨rfl,rfl⟩;exact ah)
end Go.Proofs.YthnfckodljbgbaaGreatDoor
namespace Go.Proofs.YthnfckodljbgbaaGreatDoor
open Go Go.SL
def g8(l:List Dg)(i:Nat):List Dg:=(bN l).take i++l.drop i
theorem vY(l:List Dg){i:Nat}(h:i≤l.length/2):(g8 l i).length=l.length:=by
 grind [g8,dp]
theorem vZ(l:List Dg){i j:Nat}(h:i≤l.length/2)(hj:i≤j):(g8 l i)[j]?=l[j]? := by
 grind [g8,bN,dp]
def CM{l:List Dg}{i:Nat}{a b:Dg}(ha:l[2*i]?=some a)(hb:l[2*i+1]?=some b):(bN l)[i]?=some (eY a b):=by
 rw[tH,ha,hb]
theorem xU{l:List Dg}{i:Nat}{a:Dg}(ha:l[2*i]?=some a)(hb:l.length≤2*i+1):(bN l)[i]?=some a:=by
 grind [tH]
theorem Mf(l:List Dg){i:Nat}(h:i<l.length/2){x:Dg}(hx:(bN l)[i]?=some x):(g8 l i).set i x=g8 l (i+1):=by
 unfold g8
 have h1:((bN l).take i).length=i:=by rw[List.length_take,dp];omega
 rw[List.set_append_right _ _ ag,h1,Nat.sub_self,List.take_add_one,hx]
 have h2:l.drop i=l[i]::l.drop (i+1):=List.drop_eq_getElem_cons ag
 grind
theorem ID(l:List Dg)(h:l.length%2=0):(g8 l (l.length/2)).take ((l.length+1)/2)=bN l:=by
 grind [g8,bN,dp]
theorem Mg(l:List Dg)(h:l.length%2=1){x:Dg}(hx:l[l.length-1]?=some x):((g8 l (l.length/2)).set (l.length/2) x).take ((l.length+1)/2)=bN l:=by
 have h1:(bN l).length=(l.length+1)/2:=dp l
 have h2:(bN l)[l.length/2]?=some x:=xU (by rw[← hx];congr 1;omega) ag
 apply List.ext_getElem?
 grind [vY,g8]
def dM:Nat→List Dg→List Dg
 | 0,l=>l
 | j+1,l=>bN (dM j l)
def pq(l:List Dg):∀j,dM j (bN l)=dM (j+1) l
 | 0=>rfl
 | j+1=>by
  show bN (dM j (bN l))=_
  rw[pq l j];rfl
theorem De(l:List Dg):∀j,(dM j l).length≤l.length
 | 0=>Nat.le_refl _
 | j+1=>by
  have:=De l j
  grind [dM,dp]
theorem um(l:List Dg)(h:1≤l.length):∀j,1≤(dM j l).length
 | 0=>h
 | j+1=>by
  have:=um l h j
  grind [dM,dp]
theorem Ko:∀(f:Nat) (l:List Dg) (j:Nat),l.length≤f+1→(∀i,i<j→1<(dM i l).length)→(dM j l).length≤1→upL f l=dM j l
 | 0,l,j,hf,hi,hj=>by
  cases j with
  | zero=>rfl
  | succ j =>
   have:=hi 0 ag
   grind [dM]
 | f+1,l,j,hf,hi,hj=>by
  unfold upL
  cases j with
  | zero=>rw[if_pos (show l.length≤1 from hj)];rfl
  | succ j =>
   have h0:=hi 0 ag
   simp only[dM]at h0
   rw[if_neg ag,Ko f (bN l) j (by rw[dp];omega) (fun i h=>by rw[pq];exact hi (i+1) ag) (by rw[pq];exact hj),pq]
theorem Fi{l:List Dg}{j:Nat}(h1:l≠[])(hi:∀i,i<j→1<(dM i l).length){x:Dg}(hj:dM j l=[x]):zh l=x:=by
 grind [zh,Ko]
theorem lF(k:Nat)(hk:0<k):∀(f:Nat) (b:List UInt8) (j:Nat),b.length≤f→(gJ k f b)[j]?=if j*k<b.length then some ((b.drop (j*k)).take k)else none
 | 0,b,j,h=>by
  grind [gJ]
 | f+1,b,j,h=>by
  unfold gJ
  by_cases hb:b=[]
  ·grind
  ·rw[if_neg hb]
   have lY:0<b.length:=List.length_pos_iff.2 hb
   cases j with
   | zero=>simp[lY]
   | succ j =>
    rw[List.getElem?_cons_succ,lF k hk f (b.drop k) j (by rw[List.length_drop];omega),List.length_drop,List.drop_drop]
    grind
theorem nC(k:Nat)(hk:0<k)(b:List UInt8):(gJ k b.length b).length=(b.length+k-1)/k:=by
 have hg:=lF k hk b.length b
 have h1:∀j,j<(gJ k b.length b).length↔j<(b.length+k-1)/k:=by
  intro j
  have h2:=hg j (Nat.le_refl _)
  have h3:j<(b.length+k-1)/k↔j*k<b.length:=by
   rw[show j<(b.length+k-1)/k↔j+1≤(b.length+k-1)/k from Iff.rfl,Nat.le_div_iff_mul_le hk,Nat.add_mul,Nat.one_mul]
   omega
  grind
 rcases Nat.lt_trichotomy (gJ k b.length b).length ((b.length+k-1)/k)with h|h|h
 ·grind
 ·exact h
 grind
attribute [local irreducible] J K aD Ends ae aF aL bU bo aU bh bq cg Sha.chunks Sha.chunk Sha.rounds Sha.sched dW cy
def eO.block{b n:Nat}{bs:List UInt8}{l:List Value}{e:TypeId}(hn:bs.length=n)(hl:l=bV bs):eO (ae b (cl l e)) (.slice (some ⟨b,0,none⟩) n n) bs:=by
 subst hn hl
 exact⟨Vw.ae (by rw[List.drop_zero,List.take_length]),_,_,rfl,Nat.le_refl _⟩
def Ho(A:HP)(hK:oZ A)(v:Value)(b:List UInt8)(hv:eO A v b)(hl:b.length≤900000000):aD Tryz.prog 92 [v] [A] (fun r H=>r=dV (cS b)∧H=[A]):=by
 obtain⟨a,c,rfl,hc⟩:=hv.2
 refine aD.aw Tryz.func92 Tryz.ntmps92 fun G F R hE=>?_
 refine aB rfl ?_
 refine aC zr zr zr bE ?_
 intro b2
 refine ln ?_
 (refine aB rfl ?_;refine ln ?_)
 refine ao (cs:=[.slice a b.length c]) zr zr zr zr zr zr zr zr zr bE ?_
 intro b0
 refine aJ (ak.trans (ak.pick [0,2] rfl) (ak.bX [_,_] _)) ?_
 ((refine aI (AF (Sep [ae b0 (cl [.slice a b.length c] 40),A]) (hK.mono (aY (i:=1) rfl)) 0 _ [b] (sJ.row rfl rfl (fun i x hx=>by cases i with|zero=>(simp at hx;subst hx;exact⟨_,rfl,hv⟩)|succ i=>simp at hx)) (by simp[dm,mw];omega)) ?_))
 rintro _ _⟨rfl,rfl⟩
 refine aJ (ak.cK _ _) (go ?_)
 (refine aZ hE ?_;apply aW (U:=aR) hE Tryz.func92 rfl (ak.refl _);(repeat(first|exact aQ.nil|apply aQ.agg 2 zr zr zr zr zr));exact⟨rfl,rfl⟩;exact ah)
def AN(A:HP)(hK:oZ A)(l r:Dg):aD Tryz.prog 152 [dV l,dV r] [A] (fun x H=>x=dV (eY l r)∧H=[A]):=by
 refine aD.aw Tryz.func152 Tryz.ntmps152 fun G F R hE=>?_
 refine aB rfl ?_
 refine bG zr zr bE ?_
 intro b2
 refine bG zr zr bE ?_
 intro b3
 refine aC zr zr zr bE ?_
 intro b4
 refine go ?_
 refine aG (fun w=>Sat G w ([])) (.st 0 (.st 1 (.act 2 (.act 3 (.act 4 .nil))))) rfl aq aq aq eo ?_
 refine go ?_
 refine iW (U:=aR) zr zr zr zr zr (go ?_)
 refine iW (U:=aR) zr zr zr zr zr ?_
 refine ao (cs:=[.slice (some ⟨b2,0,none⟩) 32 32,.slice (some ⟨b3,0,none⟩) 32 32]) zr zr zr zr zr zr zr zr zr (fun _ _ hw=>hw.cL ah) ?_
 intro b0
 refine aJ (ak.trans (ak.pick [3,2,4] rfl) (ak.trans (ak.bX [_,_,_] _) (ak.trans (ak.pick [1,0] rfl) (ak.bX [_,_] _)))) ?_
 have nw:sJ (Sep [ae b0 (cl [.slice (some ⟨b2,0,none⟩) 32 32,.slice (some ⟨b3,0,none⟩) 32 32] 40),Sep [ae b2 (cl (dC l) 37),ae b3 (cl (dC r) 37),A] ]) (.slice (some ⟨b0,0,none⟩) 2 2) [l.bs,r.bs]:=by
  refine sJ.row zr zr (fun i x hx=>?_)
  match i,hx with
  | 0,hx =>
   simp at hx
   subst hx
   exact⟨_,rfl,(eO.block l.len (dL l)).mono (aY (i:=0) rfl)⟩
  | 1,hx =>
   simp at hx
   subst hx
   exact⟨_,rfl,(eO.block r.len (dL r)).mono (aY (i:=1) rfl)⟩
  | i+2,hx=>simp at hx
 have Zm:=AF _ ((hK.mono (aY (H:=[ae b2 (cl (dC l) 37),ae b3 (cl (dC r) 37),A]) (i:=2) rfl)).mono (aY (i:=1) rfl)) 1 _ [l.bs,r.bs] nw (by simp[dm,mw,l.len,r.len])
 refine bp Zm ?_
 refine aJ (ak.trans (ak.cK _ _) (ak.trans (ak.pick [1] rfl) (ak.cK _ _))) (go ?_)
 refine aV ?_
 refine cH (U:=aR) (l':=dC (cy 1 [l.bs,r.bs])) 4 gf rfl rfl rfl rfl (by intro e;cases e) (by rw[dL];exact gU _) rfl rfl rfl ?_
 refine go ?_
 (refine aZ hE ?_;apply aW (U:=aR) hE Tryz.func152 rfl (ak.refl _);(repeat(first|exact aQ.nil|apply aQ.agg 4 zr zr zr zr zr));exact⟨rfl,rfl⟩;exact ah)
theorem Rr(l:List Dg):∀v∈l.flatMap dC,v.oneCell'=true:=by
 grind [dL,db]
theorem AZ(A:HP)(v:Value)(W:List Dg)(hv:Vw A v W.length (W.flatMap dC))(hlen:W.length≤1000000) :
  aD Tryz.prog 99 [v] [A] (fun r H=>H=[aF 37 32 r W.length (W.flatMap dC),A]):=by
 obtain⟨a,c0,rfl⟩:=hv.shape
 cases a with
 | none =>
  have hb:W=[]:=by
   obtain⟨a,cap,h1,h2|⟨b,o,h2,_⟩⟩:=hv
   ·have:=congrArg List.length h2
    rw[cE dD]at this
    exact List.eq_nil_of_length_eq_zero (by simp at this;omega)
   grind
  subst hb
  refine aD.enter Tryz.func99 aq rfl Tryz.ntmps99 zr zr ?_
  intro G F R hR
  refine go ?_
  refine ai (bK 37 32 none _) ?_
  refine aO hR Tryz.func99 rfl _ zr zr (ak.fin [0,1] 0 zr zr)
 | some a =>
  refine aD.enter Tryz.func99 aq rfl Tryz.ntmps99 zr zr ?_
  intro G F R hR
  refine go ?_
  refine ao (cs:=[]) zr zr zr zr zr zr zr zr zr bE ?_
  intro b0
  refine go ?_
  refine aJ (eS 37 32 b0 0 0 [] [] _ rfl (Nat.le_refl _) (by simp)) ?_
  refine aT (mm:=W.length) (news:=W.flatMap dC) 0 1 zr zr zr zr zr zr zr zr zr zr zr zr hv (by rw[cE dD];rfl) (Rr W) ag (by show _*32≤_;omega) (fun _=>rfl) bE ?_
  intro v'
  have e1:(0:Nat)+W.length=W.length:=by omega
  rw[e1,List.nil_append]
  refine go ?_
  refine aO hR Tryz.func99 rfl _ zr zr (ak.fin [0,1] 0 zr zr)
def PE(a:Option Addr)(n c:Nat):aD Tryz.prog 225 [.slice a n c] [] (fun r H=>∃b,r = .func (.func 245) #[] #[ptr b]∧H=[ae b (cl [.slice a n c] 41)]):=by
 refine aD.aw Tryz.func225 Tryz.ntmps225 fun G F R hE=>?_
 refine go ?_
 refine bG zr zr bE ?_
 intro bx
 refine go ?_
 refine ad hE Tryz.func225 zr zr ⟨bx,rfl,rfl⟩
def GA(n:Nat):(n:Int)/2 ^ (min ((1:Int).toNat) IntKind.i64.bits)=((n/2:Nat):Int):=by
 show(n:Int)/2 ^ 1=_
 omega
theorem Ll(n:Nat)(h:n<1000000000):IntKind.i64.wrap ((n:Int)*2 ^ (min ((1:Int).toNat) IntKind.i64.bits))=((2*n:Nat):Int):=by
 show IntKind.i64.wrap ((n:Int)*2 ^ 1)=_
 grind [cV,gy]
theorem Tf(n:Nat)(h:n<1000000000):IntKind.i64.wrap ((BitVec.ofInt IntKind.i64.bits ((2*n:Nat):Int) ||| BitVec.ofInt IntKind.i64.bits 1).toNat:Int)=((2*n+1:Nat):Int):=by
 have h1:=py (a:=1) (c:=n) (k:=1) (by decide)
 grind [yo,cV,gy]
def vg(n:Nat)(h:n<1000000000):IntKind.i64.wrap ((BitVec.ofInt IntKind.i64.bits (n:Int) &&& BitVec.ofInt IntKind.i64.bits 1).toNat:Int)=((n%2:Nat):Int):=pQ n 1 ag ag
def je{b o c m m':Nat}(h:0<c)(hm:m'=m):Value.slice (sliceAt (some ⟨b,o,none⟩) c (0:Int).toNat 32) (((m:Nat):Int).toNat-(0:Int).toNat) (c-(0:Int).toNat) = .slice (some ⟨b,o,none⟩) m' c:=by
 subst hm
 unfold sliceAt
 simp[Addr.add]
theorem Fh{b o c n:Nat}{pre cf:List Value}{ab7 W:List Dg}{e:TypeId}(hp:pre.length=o)(hn:n≤c)(hc:c*32≤(ab7.flatMap dC).length+cf.length)(hl:(ab7.flatMap dC).length=n*32)(V:List Dg)(hV:V.length=n)(hW:W=V.take W.length)(H:List HP) :
  ak (ae b (cl (pre++V.flatMap dC++cf) e)::H) (aF e 32 (.slice (some ⟨b,o,none⟩) W.length c) W.length (W.flatMap dC)::H):=by
 have h1:V.flatMap dC=W.flatMap dC++(V.drop W.length).flatMap dC:=by
  conv=>lhs;rw[← List.take_append_drop W.length V]
  grind
 have eW:W.length≤n:=by
  grind
 have h2:((V.drop W.length).flatMap dC).length=(n-W.length)*32:=by rw[cE dD,List.length_drop,hV]
 have h3:=cE dD W
 rw[h1,List.append_assoc,List.append_assoc,← List.append_assoc]
 refine mK hp ag ?_ h3 H
 grind
theorem Me(A:HP)(hK:oZ A)(bx:Nat)(v:Value)(l0:List Dg)(hv:Vw A v l0.length (l0.flatMap dC))(Q3:l0.length≤1000000)(l:Nat)(Lp:HP)(Inv:Nat→HP)(hy:∀j va vc,(∀i,i<j→1<(dM i l0).length)→cg Tryz.prog l [.slice va (dM j l0).length vc] [Lp,Inv j,aF 37 32 (.slice va (dM j l0).length vc) (dM j l0).length ((dM j l0).flatMap dC)] (fun r H=>r = .bool true∧H=[Lp,Inv (j+1),aF 37 32 (.slice va (dM j l0).length vc) (dM j l0).length ((dM j l0).flatMap dC)])) :
  aD Tryz.prog 245 [.func (.yield l) #[] #[],ptr bx] [Lp,Inv 0,ae bx (cl [v] 41),A] (fun _ H=>∃j,(∀i,i<j→1<(dM i l0).length)∧(dM j l0).length≤1∧H=[Lp,Inv (j+1),A]):=by
 refine aD.aw Tryz.func245 Tryz.ntmps245 fun G F R hE=>?_
 refine go ?_
 refine aI (AZ A v l0 hv Q3) ?_
 rintro r _ rfl
 refine aP 0 rfl ?_
 rintro ra rc rfl
 refine go ?_
 refine bB (fun y:Nat × Option Addr × Nat=>∀i,i<y.1→1<(dM i l0).length) (fun y=>(dM y.1 l0).length)
  (fun y=>[(0,.func (.yield l) #[] #[]),(3,.slice y.2.1 (dM y.1 l0).length y.2.2)])
  (fun y=>aF 37 32 (.slice y.2.1 (dM y.1 l0).length y.2.2) (dM y.1 l0).length ((dM y.1 l0).flatMap dC)::Lp::Inv y.1::A::F) (0,ra,rc) (fun i h=>by omega) rfl ck ah ?_
 rintro⟨j,a1,c1⟩ hI ih
 dsimp only
 have hle:=De l0 j
 refine go ?_
 refine au zr zr ?_ ?_
 ·intro OY
  have DH:1<(dM j l0).length:=by omega
  have hI2:∀i,i<j+1→1<(dM i l0).length:=fun i hi=>by
   grind
  have qd:dM (j+1) l0=bN (dM j l0):=rfl
  have hyj:=hy j a1 c1 hI
  obtain⟨row,DD⟩:∃row,row=dM j l0:=⟨_,rfl⟩
  rw[← DD]at hle OY DH qd hyj ⊢
  have xP:=dp row
  refine go ?_
  refine lB zr zr zr hyj ah ?_ nq
  rintro _ _⟨rfl,rfl⟩
  refine go ?_
  refine jN zr zr zr ag ?_
  refine az 16 ((.int .i64 ((row.length/2:Nat):Int))) rfl ((congrArg (Value.int .i64) (GA row.length))) (go ?_)
  refine ai (ak.pick [2,0,1] rfl) ?_
  refine tK (fun a kT hn _=>by omega) ?_
  rintro b o cc pre cf vI nv hnc kj ki
  obtain⟨rfl,rfl⟩:=vI
  have oH:∀i,i≤row.length/2→((g8 row i).flatMap dC).length=row.length*32:=fun i hi=>by rw[cE dD,vY row hi]
  refine bB (fun i:Nat=>i≤row.length/2) (fun i=>row.length/2-i)
   (fun i=>[(0,.func (.yield l) #[] #[]),(3,.slice (some ⟨b,o,none⟩) row.length c1),(16,.int .i64 ((row.length/2:Nat):Int)),(17,.int .i64 (i:Int))])
   (fun i=>ae b (cl (pre++(g8 row i).flatMap dC++cf) 37)::Lp::Inv (j+1)::A::F) 0 (Nat.zero_le _) rfl ck ah ?_
  rintro i hi Tw
  have Ew:=vY row hi
  refine go ?_
  refine au zr zr ?_ ?_
  ·intro dJ
   have OW:i<row.length/2:=by omega
   obtain⟨x,hx⟩:∃x,row[2*i]?=some x:=⟨row[2*i]' ag,by simp⟩
   obtain⟨y,Vc⟩:∃x,row[2*i+1]?=some x:=⟨row[2*i+1]' ag,by simp⟩
   have Co:=(vZ row hi (show i≤2*i by omega)).trans hx
   have hgy:=(vZ row hi (show i≤2*i+1 by omega)).trans Vc
   have jA:=Mf row OW (CM hx Vc)
   have dO:Vw (ae b (cl (pre++(g8 row i).flatMap dC++cf) 37)) (.slice (some ⟨b,o,none⟩) row.length c1) row.length ((g8 row i).flatMap dC):=Vw.ae (by rw[← nv,List.append_assoc,List.drop_left,List.take_left])
   refine go ?_
   refine aG (fun w=>Sat G w ([ae b (cl (pre++(g8 row i).flatMap dC++cf) 37)])) (dj 0 13 (.act 13 (.st 14 (.act 15 .nil)))) rfl aq aq aq eo ?_
   refine go ?_
   refine n8 zr zr zr ag ?_
   refine az 24 ((.int .i64 ((2*i:Nat):Int))) rfl ((congrArg (Value.int .i64) (Ll i ag))) ?_
   refine bZ (2*i) 32 zr zr zr zr zr zr zr zr ag ?_
   refine aK ?_
   refine e8 (U:=aR) (es:=dC x) 0 ((2*i)*32) zr zr zr dO rfl (fun q v hq=>?_) zr zr zr ?_
   ·rw[cU dD Co q (by rcases Nat.lt_or_ge q 32 with h|h;exact h;rw[List.getElem?_eq_none (by rw[dD];exact h)]at hq;cases hq)];exact hq
   refine go ?_
   refine n8 zr zr zr ag ?_
   refine az 29 ((.int .i64 ((2*i:Nat):Int))) rfl ((congrArg (Value.int .i64) (Ll i ag))) (go ?_)
   refine az 30 ((.int .i64 ((2*i+1:Nat):Int))) rfl ((congrArg (Value.int .i64) (Tf i ag))) ?_
   refine bZ (2*i+1) 32 zr zr zr zr zr zr zr zr ag ?_
   refine aK ?_
   refine e8 (U:=aR) (es:=dC y) 0 ((2*i+1)*32) zr zr zr dO rfl (fun q v hq=>?_) zr zr zr ?_
   ·rw[cU dD hgy q (by rcases Nat.lt_or_ge q 32 with h|h;exact h;rw[List.getElem?_eq_none (by rw[dD];exact h)]at hq;cases hq)];exact hq
   refine go ?_
   refine bp ((AN A hK x y)) ?_
   refine go ?_
   refine bZ i 32 zr zr zr zr zr zr zr zr ag ?_
   refine aV ?_
   refine lq (U:=aR) (l':=pre++(g8 row (i+1)).flatMap dC++cf) 1 gf zr zr zr zr zr zr zr ?_ ?_ rfl ?_
   ·show o+i*32+32≤_
    rw[List.length_append,List.length_append,oH i hi];omega
   ·show _=List.take (o+i*32) (pre++(g8 row i).flatMap dC++cf)++dC (eY x y)++List.drop (o+i*32+(dC (eY x y)).length) (pre++(g8 row i).flatMap dC++cf)
    rw[← nv,pk _ _ _ _ _ (by rw[dD,oH i hi];omega),← jA,wN dD ag]
    rfl
   refine go ?_
   refine aM Tw (i+1) rfl ag ag ck ah
  intro fO
  have tR:i=row.length/2:=by omega
  subst tR
  have ae5:=oH (row.length/2) (Nat.le_refl _)
  refine go ?_
  refine bj 38 ((.int .i64 ((row.length%2:Nat):Int))) rfl ((congrArg (Value.int .i64) (vg row.length ag))) ?_
  refine au zr zr ?_ ?_
  ·intro aeG
   have acC:row.length%2=1:=by rw[vg _ ag]at aeG;omega
   obtain⟨x,hx⟩:∃x,row[row.length-1]?=some x:=⟨row[row.length-1]' ag,by simp⟩
   have Co:=(vZ row (Nat.le_refl (row.length/2)) (show row.length/2≤row.length-1 by omega)).trans hx
   have dO:Vw (ae b (cl (pre++(g8 row (row.length/2)).flatMap dC++cf) 37)) (.slice (some ⟨b,o,none⟩) row.length c1) row.length ((g8 row (row.length/2)).flatMap dC):=Vw.ae (by rw[← nv,List.append_assoc,List.drop_left,List.take_left])
   have ij:=Mg row acC hx
   refine go ?_
   refine jN zr zr zr ag ?_
   refine az 43 ((.int .i64 ((row.length/2:Nat):Int))) rfl ((congrArg (Value.int .i64) (GA row.length))) (go ?_)
   refine az 47 ((.int .i64 ((row.length-1:Nat):Int))) rfl ((congrArg (Value.int .i64) ag)) ?_
   refine bZ (row.length-1) 32 zr zr zr zr zr zr zr zr ag ?_
   refine aK ?_
   refine cI (U:=aR) (es:=dC x) 0 ((row.length-1)*32) zr zr zr dO rfl (fun q v hq=>?_) zr zr zr ?_
   ·rw[cU dD Co q (by rcases Nat.lt_or_ge q 32 with h|h;exact h;rw[List.getElem?_eq_none (by rw[dD];exact h)]at hq;cases hq)];exact hq
   refine bZ (row.length/2) 32 zr zr zr zr zr zr zr zr ag ?_
   refine aV ?_
   refine lq (U:=aR) (l':=pre++((g8 row (row.length/2)).set (row.length/2) x).flatMap dC++cf) 0 gf zr zr zr zr zr zr zr ?_ ?_ rfl ?_
   ·show o+row.length/2*32+32≤_
    grind
   ·show _=List.take (o+row.length/2*32) (pre++(g8 row (row.length/2)).flatMap dC++cf)++dC x++List.drop (o+row.length/2*32+(dC x).length) (pre++(g8 row (row.length/2)).flatMap dC++cf)
    rw[← nv,pk _ _ _ _ _ (by rw[dD,ae5];omega),wN dD ag]
    rfl
   (refine go ?_;refine jN zr zr zr ag ?_;((refine az 55 ((.int .i64 (((row.length+1)/2:Nat):Int))) rfl ((congrArg (Value.int .i64) (by show((row.length:Int)+1)/2 ^ 1=_;omega))) ?_));refine bt (p:=0) (q:=(((row.length+1)/2:Nat):Int)) zr zr zr zr zr zr zr ag ag (.inr ag) ?_;((refine az 56 ((.slice (some ⟨b,o,none⟩) (dM (j+1) l0).length c1)) rfl ((je ag (by rw[qd,xP]))) ?_));((refine aJ (Fh (W:=dM (j+1) l0) nv hnc kj ki ((g8 row (row.length/2)).set (row.length/2) x) (by rw[List.length_set];exact Ew) (by rw[qd,xP];exact ij.symm) _) ?_));refine go ?_;refine aM ih (j+1,some ⟨b,o,none⟩,c1) rfl hI2 (by simp only;rw[qd,← DD];omega) ck ah)
  ·intro ac6
   have ZZ:row.length%2=0:=by rw[vg _ ag]at ac6;omega
   have ij:=ID row ZZ
   (refine go ?_;refine jN zr zr zr ag ?_;((refine az 55 ((.int .i64 (((row.length+1)/2:Nat):Int))) rfl ((congrArg (Value.int .i64) (by show((row.length:Int)+1)/2 ^ 1=_;omega))) ?_));refine bt (p:=0) (q:=(((row.length+1)/2:Nat):Int)) zr zr zr zr zr zr zr ag ag (.inr ag) ?_;((refine az 56 ((.slice (some ⟨b,o,none⟩) (dM (j+1) l0).length c1)) rfl ((je ag (by rw[qd,xP]))) ?_));((refine aJ (Fh (W:=dM (j+1) l0) nv hnc kj ki (g8 row (row.length/2)) Ew (by rw[qd,xP];exact ij.symm) _) ?_));refine go ?_;refine aM ih (j+1,some ⟨b,o,none⟩,c1) rfl hI2 (by simp only;rw[qd,← DD];omega) ck ah)
 ·intro acP
  have acO:(dM j l0).length≤1:=by omega
  refine go ?_
  refine lB zr zr zr (hy j a1 c1 hI) ah ?_ nq
  rintro _ _⟨rfl,rfl⟩
  refine go ?_
  refine cd hE Tryz.func245 rfl _ rfl ⟨j,hI,acO,rfl⟩ ah
theorem RS(A:HP)(hK:oZ A)(v:Value)(l0:List Dg)(hv:Vw A v l0.length (l0.flatMap dC))(Q3:l0.length≤1000000)(df:l0≠[]):aD Tryz.prog 205 [v] [A] (fun r H=>r=dV (zh l0)∧H=[A]):=by
 obtain⟨a,c,rfl⟩:=hv.shape
 have lY:0<l0.length:=List.length_pos_iff.2 df
 refine aD.aw Tryz.func205 Tryz.ntmps205 fun G F R hE=>?_
 refine aB rfl ?_
 refine aC zr zr zr bE ?_
 intro b2
 refine go ?_
 refine au zr zr ?_ ?_
 ·grind
 intro _
 (refine aB rfl ?_;refine ln ?_)
 refine aC zr zr zr bE ?_
 intro b3
 refine go ?_
 refine aI (PE a l0.length c) ?_
 rintro _ _⟨bx,rfl,rfl⟩
 refine go ?_
 refine gE rfl ?_
 let rt:Nat→Dg:=fun j=>match j with|0=>Dg.zero|j+1=>((dM j l0).head?).getD Dg.zero
 refine ai (ak.trans (ak.pick [2,1] rfl) (ak.bX [ae b2 (cl (dC Dg.zero) 37),ae b3 (cl (dC (rt 0)) 37)] _)) ?_
 refine qW (Fr:=F) (Pre:=fun _ _=>[Sep [ae b2 (cl (dC Dg.zero) 37),ae b3 (cl (dC (rt 0)) 37)],ae bx (cl [.slice a l0.length c] 41),A]) (fun _ _ Lp v H=>∃j,(∀i,i<j→1<(dM i l0).length)∧(dM j l0).length≤1∧H=[Lp .ready none,Sep [ae b2 (cl (dC Dg.zero) 37),ae b3 (cl (dC (rt (j+1))) 37)],A]) rfl hE.1.1 rfl ?c (fun l r=>ah) ?ij
 case c =>
  intro l r
  refine Me A hK bx _ l0 hv Q3 l _ (fun j=>Sep [ae b2 (cl (dC Dg.zero) 37),ae b3 (cl (dC (rt j)) 37)]) ?_
  intro j va vc hI
  refine cg.FO zr zr ?_
  intro G2 F2 R2 hY
  have Zx:=um l0 lY j
  have hrt:rt (j+1)=((dM j l0).head?).getD Dg.zero:=rfl
  obtain⟨x,row,DD⟩:∃x row,dM j l0=x::row:=by
   cases h:dM j l0 with
   | nil=>rw[h]at Zx;simp at Zx
   | cons x row=>exact⟨x,row,rfl⟩
  rw[DD]at hrt Zx
  rw[DD]at hY ⊢
  rw[hrt]at hY
  clear_value rt
  refine go ?_
  refine gx rfl hY ?_
  refine ai (ak.trans (ak.pick [1] rfl) (ak.cK [_,_] _)) ?_
  refine dg 3 rfl ?_
  intro dO
  obtain⟨b,o,cc,pH⟩:=dO.some (by rw[List.flatMap_cons];intro h;simp[dC]at h)
  obtain⟨rfl,rfl⟩:=pH
  refine go ?_
  refine bZ 0 32 zr zr zr zr zr zr zr zr (by simp) ?_
  refine aK ?_
  refine cI (U:=aR) (es:=dC x) 3 0 zr zr zr dO rfl (fun q v hq=>?_) zr zr zr ?_
  ·grind
  refine aV ?_
  refine cH (U:=aR) (l':=dC x) 1 gf rfl rfl rfl rfl (by intro e;cases e) (by rw[dL];exact gU _) rfl rfl rfl ?_
  refine go ?_
  refine ai (ak.bX [_,_] _) ?_
  refine fV hY rfl ah ⟨rfl,rfl⟩
 rintro l r v H'⟨j,hI,hj,rfl⟩
 refine⟨_,_,_,rfl,by decide,?_⟩
 have Zx:=um l0 lY j
 obtain⟨x,hx⟩:∃x,dM j l0=[x]:=by
  match h:dM j l0,Zx,hj with
  | [x],_,_=>exact⟨x,rfl⟩
 have Ge:=Fi df hI hx
 have hrt:rt (j+1)=x:=by show((dM j l0).head?).getD Dg.zero=x;rw[hx];rfl
 rw[hrt,hE.1.2]
 rw[Ge]at hE
 clear_value rt
 refine ai (ak.cK [_,_] _) (go ?_)
 refine aH (U:=aR) 1 zr zr zr zr zr zr ?_
 refine cH (U:=aR) (l':=dC x) 0 gf rfl rfl rfl rfl (by intro e;cases e) (by rw[dL];exact gU _) rfl rfl rfl ?_
 refine go ?_
 (apply aW (U:=aR) hE Tryz.func205 rfl ah;(repeat(first|exact aQ.nil|apply aQ.agg 0 zr zr zr zr zr));exact⟨rfl,rfl⟩;exact ah)
end Go.Proofs.YthnfckodljbgbaaGreatDoor
namespace Go.Proofs.YthnfckodljbgbaaGreatDoor
open Go Go.SL
def dG(x:Bl):Value := .agg (bH x).toArray
def Sg(g:FuncId)(cap:List Value)(ds:List Dg)(Pre Post:List HP):Prop :=
 ∀(l:Nat) (Lp:HP) (Inv:Nat→HP),(∀j d,ds[j]?=some d→cg Tryz.prog l [dV d] [Lp,Inv j] (fun v H=>v = .bool true∧H=[Lp,Inv (j+1)])) →
  aD Tryz.prog g (.func (.yield l) #[] #[]::cap) (Lp::Inv 0::Pre) (fun _ H=>H=Lp::Inv ds.length::Post)
def GI(bs:Nat)(ks:List Dg):HP:=fun h=>∃v:Value,True∧Sep [ae bs (cl [v] 41),aF 37 32 v ks.length (ks.flatMap dC)] h
def LP(bs:Nat)(ks:List Dg):∀h,GI bs ks h→∃v,True∧Sep [ae bs (cl [v] 41),aF 37 32 v ks.length (ks.flatMap dC)] h:=fun h hs=>hs
def HE(bs:Nat)(ks:List Dg)(v:Value)(H:List HP):ak (ae bs (cl [v] 41)::aF 37 32 v ks.length (ks.flatMap dC)::H) (GI bs ks::H) :=
 ak.fold (A:=GI bs ks) (B:=[ae bs (cl [v] 41),aF 37 32 v ks.length (ks.flatMap dC)]) fun h hs=>⟨h,sub.refl h,v,trivial,hs⟩
attribute [local irreducible] J K aD Ends ae aF aL bU bo aU bh bq cg Sha.chunks Sha.chunk Sha.rounds Sha.sched dW cy GI
def A7(g:FuncId)(cap:List Value)(ds:List Dg)(Pre Post:List HP)(hN:ds.length≤1000000)(hi:Sg g cap ds Pre Post) :
  aD Tryz.prog 242 [.slice none 0 0,.func (.func g) #[] cap.toArray] Pre (fun r H=>H=aF 37 32 r ds.length (ds.flatMap dC)::Post):=by
 refine aD.aw Tryz.func242 Tryz.ntmps242 fun G F R hE=>?_
 refine aB rfl ?_
 refine bG zr zr bE ?_
 intro bs
 refine go ?_
 refine gE rfl ?_
 refine ai (ak.trans (ak.cons _ (bK 37 32 none _)) (HE bs [] (.slice none 0 0) _)) ?_
 refine yB (Fr:=F) (Pre:=fun _ _=>GI bs []::Pre) (Post:=?Po) rfl hE.1.1 rfl ?c (fun l r=>ak.refl _) ?ij
 case c =>
  intro l r
  refine hi l _ (fun j=>GI bs (ds.take j)) ?_
  intro j k zT
  have uL:=(List.getElem?_eq_some_iff.1 zT).1
  have pY:(ds.take j).length=j:=by rw[List.length_take];omega
  have kU:ds.take (j+1)=ds.take j++[k]:=by rw[List.take_add_one,zT];rfl
  refine cg.FO zr zr ?_
  intro G2 F2 R2 hY
  refine aB rfl ?_
  refine aC zr zr zr bE ?_
  intro b5
  refine go ?_
  refine ai (ak.pick [1] rfl) ?_
  refine gx rfl hY ?_
  refine ai (ak.pick [2] rfl) ?_
  refine eB (LP bs (ds.take j)) ?_
  rintro v -
  refine dN 1 rfl ?_
  rintro va vc rfl
  refine go ?_
  refine aH (U:=aR) 3 zr zr zr zr zr zr ?_
  refine ao (cs:=dC k) zr zr zr zr zr zr zr zr zr bE ?_
  intro row
  refine go ?_
  refine aT (mm:=1) (news:=dC k) 2 0 zr zr zr zr zr zr zr zr zr zr zr zr (Vw.ae rfl) rfl (by rw[dL];exact db _) (by rw[pY];omega) (by show(_+1)*32≤_;rw[pY];omega) (fun _=>rfl) bE ?_
  intro v1
  rw[show(ds.take j).flatMap dC++dC k=(ds.take (j+1)).flatMap dC from by rw[kU];simp,show(ds.take j).length+1=(ds.take (j+1)).length from by rw[kU];simp]
  refine aP 2 rfl ?_
  rintro va2 vc2 rfl
  refine go ?_
  refine ai (ak.trans ah (HE bs (ds.take (j+1)) (.slice va2 (ds.take (j+1)).length vc2) _)) ?_
  refine fV hY rfl ah ⟨rfl,rfl⟩
 intro l r v H fU
 subst fU
 refine⟨_,_,_,rfl,by decide,?_⟩
 rw[hE.1.2,List.take_length]
 refine eB (LP bs ds) ?_
 rintro w -
 refine go ?_
 refine rO hE Tryz.func242 rfl _ zr zr ?_
 exact(ak.drop _ _).trans (ak.perm (((List.perm_middle (a:=ae r (.deferred (some []))) (l₁:=Post) (l₂:=F)).cons _).trans (List.Perm.swap _ _ _)))
def Es(g:FuncId)(cap:List Value)(ds:List Dg)(Pre Post:List HP)(hN:ds.length≤1000000)(hi:Sg g cap ds Pre Post) :
  aD Tryz.prog 223 [.func (.func g) #[] cap.toArray] Pre (fun r H=>H=aF 37 32 r ds.length (ds.flatMap dC)::Post):=by
 refine aD.aw Tryz.func223 Tryz.ntmps223 fun G F R hE=>?_
 refine go ?_
 refine aI (A7 g cap ds Pre Post hN hi) ?_
 rintro w _ rfl
 refine go ?_
 refine aO hE Tryz.func223 rfl _ zr zr ah
def CA(s p:Int)(hs:1≤s∧s≤1048576)(hp:1≤p∧p≤16384):aD Tryz.prog 136 [.int .i64 s,.int .i64 p] [] (fun r H=>r = .int .i64 ((s+p-1)/p)∧H=[]):=by
 have h1:0≤(s+p-1)/p:=Int.ediv_nonneg ag ag
 have h2:(s+p-1)/p≤s+p-1:=Int.ediv_le_self _ ag
 refine aD.aw Tryz.func136 Tryz.ntmps136 fun G F R hE=>?_
 refine go ?_
 refine lP zr zr zr ag ag (by simp only[gy];omega) ?_
 refine go ?_
 refine ad hE Tryz.func136 zr zr ⟨rfl,rfl⟩
def oT(x:Bl):aD Tryz.prog 75 [dG x] [] (fun r H=>r = .bool (bI x)∧H=[]):=by
 have hF:¬(1≤x.size∧x.size≤1048576∧16≤x.piece∧x.piece≤16384)→Value.bool false = .bool (bI x):=fun h=>congrArg Value.bool (by unfold bI;rw[decide_eq_false (by rintro⟨a,b,c,e,_⟩;exact h ⟨a,b,c,e⟩)])
 have hT:(1≤x.size∧x.size≤1048576∧16≤x.piece∧x.piece≤16384)→Value.bool (decide ((x.size+x.piece-1)/x.piece≤1024)) = .bool (bI x):=fun h=>congrArg Value.bool (by unfold bI;rw[decide_eq_decide];exact⟨fun g=>⟨h.1,h.2.1,h.2.2.1,h.2.2.2,g⟩,fun g=>g.2.2.2.2⟩)
 unfold dG
 refine aD.aw Tryz.func75 Tryz.ntmps75 fun G F R hE=>?_
 refine aB rfl ?_
 refine bG zr zr bE ?_
 intro b1
 repeat'(first|(with_reducible intro p6)|refine eZ ?_|refine hJ zr zr zr zr ?_ ?_|(refine aI (CA x.size x.piece ag ag) ?_;rintro _ _⟨rfl,rfl⟩))
 all_goals(first|((refine ad hE Tryz.func75 zr zr ⟨hF ag,rfl⟩))|((refine ad hE Tryz.func75 zr zr ⟨hT ag,rfl⟩)))
def xh(x:Bl):aD Tryz.prog 89 [dG x] [] (fun r H=>r = .int .i64 (cC x)∧H=[]):=by
 unfold dG
 refine aD.aw Tryz.func89 Tryz.ntmps89 fun G F R hE=>?_
 refine aB rfl ?_
 refine bG zr zr bE ?_
 intro b1
 refine go ?_
 refine aH (U:=aR) 0 zr zr zr zr zr zr ?_
 refine aN (oT x) ?_
 cases hr:bI x with
 | false =>
  have hc:cC x=0:=by unfold cC;rw[if_neg (by rw[hr];simp)]
  rw[hc]at hE
  refine go ?_
  refine ad hE Tryz.func89 zr zr ⟨rfl,rfl⟩
 | true =>
  have hc:cC x=(x.size+x.piece-1)/x.piece:=by unfold cC;rw[if_pos hr]
  rw[hc]at hE
  simp only[bI,decide_eq_true_eq]at hr
  refine go ?_
  refine aN (CA x.size x.piece ag ag) ?_
  refine go ?_
  refine ad hE Tryz.func89 zr zr ⟨rfl,rfl⟩
def wM(x:Bl):0≤cC x∧cC x≤1024:=by
 unfold cC
 split
 ·rename_i hr
  simp only[bI,decide_eq_true_eq]at hr
  exact⟨Int.ediv_nonneg ag ag,hr.2.2.2.2⟩
 ·omega
theorem yl{x:Bl}{i:Int}(h0:0≤i)(h1:i<cC x):bI x=true∧0≤i*x.piece∧i*x.piece<x.size:=by
 unfold cC at h1
 split at h1
 ·rename_i hr
  have QQ:=hr
  simp only[bI,decide_eq_true_eq]at hr
  refine⟨QQ,Int.mul_nonneg h0 ag,?_⟩
  have h2:(i+1)*x.piece≤x.size+x.piece-1:=by
   have:=(Int.le_ediv_iff_mul_le (a:=i+1) (b:=x.size+x.piece-1) (c:=x.piece) ag).1 ag
   exact this
  grind
 ·omega
def AJ(x:Bl)(i:Int):aD Tryz.prog 90 [dG x,.int .i64 i] [] (fun r H=>r=(match dI x i with
  | none => .tuple #[.int .i64 0,.int .i64 0,.int .i64 1]
  | some (a,n) => .tuple #[.int .i64 a,.int .i64 n,.int .i64 0])∧H=[]):=by
 unfold dG
 refine aD.aw Tryz.func90 Tryz.ntmps90 fun G F R hE=>?_
 refine aB rfl ?_
 refine bG zr zr bE ?_
 intro b1
 have hN:(i<0∨cC x≤i)→dI x i=none:=fun h=>by unfold dI;rw[if_pos h]
 repeat'(first|(with_reducible intro p6)|refine eZ ?_|refine hJ zr zr zr zr ?_ ?_|refine au zr zr ?_ ?_|refine aH (U:=aR) 0 zr zr zr zr zr zr ?_|(refine aI (xh x) ?_;rintro _ _⟨rfl,rfl⟩))
 all_goals(first|(rw[hN ag]at hE;((refine ad hE Tryz.func90 zr zr ⟨rfl,rfl⟩)))|skip)
 have hs:dI x i=some (i*x.piece,min x.piece (x.size-i*x.piece)):=by unfold dI;rw[if_neg ag]
 rw[hs]at hE
 obtain⟨hr,Cj,Vn⟩:=yl (x:=x) (i:=i) ag ag
 simp only[bI,decide_eq_true_eq]at hr
 obtain⟨q,hq⟩:∃q,q=i*x.piece:=⟨_,rfl⟩
 rw[← hq]at Cj Vn hE
 refine aG (fun w=>Sat G w ([ae b1 (cl (bH x) 39)])) (dj 0 17 .nil) rfl aq aq aq eo ?_
 (repeat(first|refine eZ ?_|(refine mj ?_;refine iA zr zr zr (by rw[← hq];simp only[gy];omega) ?_;rw[← hq])))
 refine ad hE Tryz.func90 zr zr ⟨rfl,rfl⟩
theorem OG(a:Option Addr)(n c:Nat)(k:Int)(hk:1≤k):aD Tryz.prog 244 [.slice a n c,.int .i64 k] [] (fun r H=>∃b1 b2,r = .func (.func 252) #[] #[ptr b1,ptr b2]∧H=[ae b1 (cl [.slice a n c] 40),ae b2 (cl [.int .i64 k] 3)]):=by
 refine aD.aw Tryz.func244 Tryz.ntmps244 fun G F R hE=>?_
 refine aB rfl ?_
 refine bG zr zr bE ?_
 intro b1
 refine bG zr zr bE ?_
 intro b2
 refine go ?_
 refine au zr zr ?_ ?_
 ·grind
 intro _
 refine go ?_
 refine ad hE Tryz.func244 zr zr ⟨b1,b2,rfl,rfl⟩
theorem Ki(A:HP)(b1 b2:Nat)(v:Value)(b:List UInt8)(hv:eO A v b)(hl:b.length≤1000000000)(k:Nat)(hk:1≤k)(rV:k≤1000000000)(l:Nat)(Lp:HP)(Inv:Nat→HP)(hy:∀j p rv,(gJ k b.length b)[j]?=some p→eO A rv p→cg Tryz.prog l [rv] [Lp,Inv j,A] (fun r H=>r = .bool true∧H=[Lp,Inv (j+1),A])) :
  aD Tryz.prog 252 [.func (.yield l) #[] #[],ptr b1,ptr b2] [Lp,Inv 0,ae b1 (cl [v] 40),ae b2 (cl [.int .i64 (k:Int)] 3),A] (fun _ H=>H=[Lp,Inv (gJ k b.length b).length,A]):=by
 obtain⟨a,c,rfl,hc⟩:=hv.2
 have hpg:=lF k hk b.length b
 have qg:=nC k hk b
 refine aD.aw Tryz.func252 Tryz.ntmps252 fun G F R hE=>?_
 refine go ?_
 refine bB (fun j:Nat=>j≤(b.length+k-1)/k) (fun j=>(b.length+k-1)/k-j)
  (fun j=>[(0,.func (.yield l) #[] #[]),(1,ptr b1),(2,ptr b2),(4,.int .i64 ((j*k:Nat):Int))])
  (fun j=>Lp::Inv j::ae b1 (cl [.slice a b.length c] 40)::ae b2 (cl [.int .i64 (k:Int)] 3)::A::F) 0 (Nat.zero_le _) rfl (by rw[Nat.zero_mul];exact ck) ah ?_
 rintro j hj ih
 have zT:j*k≤b.length+k-1:=by
  have:=(Nat.le_div_iff_mul_le hk).1 hj
  exact this
 refine go ?_
 refine au zr zr ?_ ?_
 ·intro dJ
  have x8:j*k<b.length:=by omega
  have EB:j+1≤(b.length+k-1)/k:=by
   grind
  have hp:=hpg j (Nat.le_refl _)
  rw[if_pos x8]at hp
  obtain⟨p,hpe⟩:∃p,p=(b.drop (j*k)).take k:=⟨_,rfl⟩
  rw[← hpe]at hp
  have Gh:p.length=min k (b.length-j*k):=by rw[hpe,List.length_take,List.length_drop]
  obtain⟨jk,acW⟩:∃jk,jk=j*k:=⟨_,rfl⟩
  rw[← acW]at x8 hpe Gh zT ⊢
  refine go ?_
  refine aG (fun w=>Sat G w ([ae b1 (cl [.slice a b.length c] 40),ae b2 (cl [.int .i64 (k:Int)] 3)])) (dj 0 7 .nil) rfl aq aq aq eo ?_
  refine go ?_
  refine bt (p:=((jk:Nat):Int)) (q:=(b.length:Int)) zr zr zr zr zr zr zr ag ag (.inl rfl) (go ?_)
  have Q0:(jk:Int)+min (k:Int) (((((b.length:Int)).toNat-((jk:Nat):Int).toNat:Nat)):Int)=((jk+p.length:Nat):Int):=by rw[Gh];omega
  refine Oo (U:=aR) zr zr zr zr zr zr zr zr ag ag ag ag ?_
  have Ld:=hv.piece jk (jk+p.length) ag ag
  rw[show jk+p.length-jk=p.length from by omega]at Ld
  have Zy:(b.drop jk).take p.length=p:=by
   simp_all
  rw[Zy]at Ld
  have afk:eO A (.slice (sliceAt a (jk+p.length) jk 1) p.length p.length) p:=by
   obtain⟨nr,a2,c2,Jl,ya⟩:=Ld
   refine⟨?_,_,_,rfl,Nat.le_refl _⟩
   obtain⟨a3,c3,VA,iF⟩:=nr
   simp only[Value.slice.injEq,true_and]at VA
   have e:sliceAt a (jk+p.length) jk 1=sliceAt a c jk 1:=by
    unfold sliceAt
    rw[if_neg ag,if_neg ag]
   rw[e]
   exact⟨_,_,rfl,by rw[VA.1];exact iF⟩
  refine az 28 (.slice (sliceAt a (jk+p.length) jk 1) p.length p.length) rfl (by rw[Q0,Int.toNat_natCast,Int.toNat_natCast,show jk+p.length-jk=p.length from by omega];rfl) ?_
  refine go ?_
  refine lB zr zr zr (hy j p _ hp afk) ah ?_ nq
  rintro _ _⟨rfl,rfl⟩
  refine go ?_
  ((refine bj 4 ((.int .i64 (((j+1)*k:Nat):Int))) rfl ((congrArg (Value.int .i64) (by rw[Nat.add_mul,Nat.one_mul,← acW];omega))) ?_))
  refine aM ih (j+1) rfl EB ag ck ah
 intro fO
 have Nd:j=(b.length+k-1)/k:=by
  rcases Nat.lt_or_ge j ((b.length+k-1)/k)with h|h
  ·exfalso
   have h2:=(Nat.le_div_iff_mul_le (x:=j+1) hk).1 h
   rw[Nat.add_mul,Nat.one_mul]at h2
   omega
  ·omega
 refine go ?_
 rw[qg,← Nd]at hE
 refine cd hE Tryz.func252 rfl _ zr zr ah
end Go.Proofs.YthnfckodljbgbaaGreatDoor
namespace Go.SL
open Go
section
variable{P:Program}
theorem rA{t e:TypeId}(hu:P.underlying t=some (.array 32 e))(hc:P.cellsOf t=32)(xs:List Value)(off:Nat)(d:Dg)(h:(xs.drop off).take 32=dC d)(w:World):(part t xs.toArray off).run P w = .ok (dV d) w:=by
 obtain⟨i,hi⟩:=info_of_underlying hu
 have hs:=Go.run_sizeOf w hi
 rw[hc]at hs
 simp only[part,isAgg,Sem.run_bind,Go.run_underlying hu,Result.andThen_ok,Sem.run_pure,if_true,hs]
 have:xs.toArray.extract off (off+32)=(dC d).toArray:=by
  grind
 rw[this]
 rfl
def Mc{t:TypeId}(hu:P.underlying t=some (.int .i64))(a b:Int)(D:Nat)(w:World):(Op.equalIn (D+1) t (.int .i64 a) (.int .i64 b)).run P w = .ok (decide (a=b)) w:=by
 simp only[Op.equalIn,Sem.run_bind,Go.run_underlying hu,Result.andThen_ok,if_true,Sem.run_pure]
 rfl
theorem Be{td ti:TypeId}{f1 f2 f3 f4:Field}(n1:f1.name ≠ "_")(n2:f2.name ≠ "_")(n3:f3.name ≠ "_")(n4:f4.name ≠ "_")(E:Nat)(w:World)(c1 c2:List Value)(d1 d2 r1 r2:Dg)(s1 s2 p1 p2:Int)(eD:∀a b:Dg,(Op.equalIn E td (dV a) (dV b)).run P w = .ok (decide (a=b)) w)(eI:∀a b:Int,(Op.equalIn E ti (.int .i64 a) (.int .i64 b)).run P w = .ok (decide (a=b)) w)(t1:f1.type=td)(t2:f2.type=ti)(t3:f3.type=ti)(t4:f4.type=td)(p01:(part td c1.toArray f1.offset).run P w = .ok (dV d1) w)(p02:(part td c2.toArray f1.offset).run P w = .ok (dV d2) w)(p11:(part ti c1.toArray f2.offset).run P w = .ok (.int .i64 s1) w)(p12:(part ti c2.toArray f2.offset).run P w = .ok (.int .i64 s2) w)(p21:(part ti c1.toArray f3.offset).run P w = .ok (.int .i64 p1) w)(p22:(part ti c2.toArray f3.offset).run P w = .ok (.int .i64 p2) w)(p31:(part td c1.toArray f4.offset).run P w = .ok (dV r1) w)(p32:(part td c2.toArray f4.offset).run P w = .ok (dV r2) w) :
  (Op.eqFields E c1.toArray c2.toArray [f1,f2,f3,f4]).run P w = .ok (decide (d1=d2∧s1=s2∧p1=p2∧r1=r2)) w:=by
 by_cases h1:d1=d2
 ·by_cases h2:s1=s2
  ·by_cases h3:p1=p2
   ·simp[Op.eqFields,n1,n2,n3,n4,t1,t2,t3,t4,p01,p02,p11,p12,p21,p22,p31,p32,eD,eI,h1,h2,h3]
    grind
   ·simp[Op.eqFields,n1,n2,n3,n4,t1,t2,t3,t4,p01,p02,p11,p12,p21,p22,p31,p32,eD,eI,h1,h2,h3]
  ·simp[Op.eqFields,n1,n2,n3,n4,t1,t2,t3,t4,p01,p02,p11,p12,p21,p22,p31,p32,eD,eI,h1,h2]
 ·simp[Op.eqFields,n1,n2,n3,n4,t1,t2,t3,t4,p01,p02,p11,p12,p21,p22,p31,p32,eD,eI,h1]
end
end Go.SL
namespace Go.Proofs.YthnfckodljbgbaaGreatDoor
open Go Go.SL
attribute [local irreducible] J K aD Ends ae aF aL bU bo aU bh bq cg Sha.chunks Sha.chunk Sha.rounds Sha.sched dW cy GI cS
theorem F1(A:HP)(hK:oZ A)(b1 b2:Nat)(v:Value)(b:List UInt8)(hv:eO A v b)(hl:b.length≤900000000)(k:Nat)(hk:1≤k)(rV:k≤1000000000) :
  Sg 243 [ptr b1,ptr b2] ((gJ k b.length b).map cS) [ae b1 (cl [v] 40),ae b2 (cl [.int .i64 (k:Int)] 3),A] [A]:=by
 intro l Lp Inv hy
 obtain⟨a,c,rfl,hc⟩:=hv.2
 refine aD.aw Tryz.func243 Tryz.ntmps243 fun G F R hE=>?_
 refine aB rfl ?_
 refine bG zr zr bE ?_
 intro b3
 refine go ?_
 refine aI (OG a b.length c (k:Int) ag) ?_
 rintro _ _⟨c1,c2,rfl,rfl⟩
 refine go ?_
 refine gE rfl ?_
 refine ai (ak.trans (ak.pick [3,4,2] rfl) (ak.bX [Lp,Inv 0,ae b3 (cl [.func (.yield l) #[] #[] ] 116)] _)) ?_
 refine qW (Fr:=F) (Pre:=fun _ _=>[Sep [Lp,Inv 0,ae b3 (cl [.func (.yield l) #[] #[] ] 116)],ae c1 (cl [.slice a b.length c] 40),ae c2 (cl [.int .i64 (k:Int)] 3),A]) (fun _ _ Lp2 v H=>H=[Lp2 .ready none,Sep [Lp,Inv (gJ k b.length b).length,ae b3 (cl [.func (.yield l) #[] #[] ] 116)],A]) rfl hE.1.1 rfl ?c (fun l r=>ah) ?ij
 case c =>
  intro l2 r2
  refine Ki A c1 c2 _ b hv ag k hk rV l2 _ (fun j=>Sep [Lp,Inv j,ae b3 (cl [.func (.yield l) #[] #[] ] 116)]) ?_
  intro j p rv hp Ld
  have hyj:=hy j (cS p) (by rw[List.getElem?_map,hp];rfl)
  have qg:p.length≤900000000:=by
   grind [lF]
  refine cg.FO zr zr ?_
  intro G F2 R2 hY
  refine go ?_
  refine gx rfl hY ?_
  refine ai (ak.trans (ak.pick [1] rfl) (ak.cK [_,_,_] _)) ?_
  refine aG (fun w=>Sat G w ([ae b3 (cl [.func (.yield l) #[] #[] ] 116)])) (.st 0 (.st 1 (.act 2 (.act 3 (.st 4 .nil))))) rfl aq aq aq eo ?_
  refine go ?_
  refine bp ((Ho A hK rv p Ld qg)) ?_
  refine go ?_
  refine lB rfl rfl rfl hyj ah ?_ tqg
  rintro _ _⟨rfl,rfl⟩
  refine go ?_
  refine ai (ak.trans (ak.pick [0,1,3] rfl) (ak.bX [Lp,Inv (j+1),ae b3 (cl [.func (.yield l) #[] #[] ] 116)] _)) ?_
  refine fV hY rfl ah ⟨rfl,rfl⟩
 rintro l2 r2 v2 H' rfl
 refine⟨_,_,_,rfl,by decide,?_⟩
 rw[hE.1.2]
 rw[List.length_map]at hE
 refine ai (ak.cK [_,_,_] _) (go ?_)
 apply J9 hE Tryz.func243 rfl _ zr zr
 exact ah
def I3(a:Option Addr)(n c:Nat)(k:Int):aD Tryz.prog 224 [.slice a n c,.int .i64 k] [] (fun r H=>∃b1 b2,r = .func (.func 243) #[] #[ptr b1,ptr b2]∧H=[ae b1 (cl [.slice a n c] 40),ae b2 (cl [.int .i64 k] 3)]):=by
 refine aD.aw Tryz.func224 Tryz.ntmps224 fun G F R hE=>?_
 refine aB rfl ?_
 refine bG zr zr bE ?_
 intro b1
 refine bG zr zr bE ?_
 intro b2
 refine go ?_
 refine ad hE Tryz.func224 zr zr ⟨b1,b2,rfl,rfl⟩
theorem lI{b:List UInt8}{k:Int}{ls:List Dg}(h:de b k=some ls):1≤ls.length∧ls.length≤1024:=by
 unfold de at h
 split at h
 ·rename_i hr
  cases h
  simp only[bI,decide_eq_true_eq]at hr
  obtain⟨k,rfl⟩:∃m:Nat,k=m:=⟨k.toNat,ag⟩
  rw[List.length_map,Int.toNat_natCast,nC k ag]
  have h2:=hr.2.2.2.2
  have h3:((b.length:Int)+(k:Int)-1)/(k:Int)=(((b.length+k-1)/k:Nat):Int):=by
   grind
  rw[h3]at h2
  have h4:1≤(b.length+k-1)/k:=by rw[Nat.le_div_iff_mul_le ag];omega
  omega
 ·cases h
def J8(A:HP)(hK:oZ A)(v:Value)(b:List UInt8)(hv:eO A v b)(hl:b.length≤9223372036854775807)(k:Int) :
  aD Tryz.prog 204 [v,.int .i64 k] [A] (fun r H=>(de b k=none∧r = .tuple #[.slice none 0 0,.int .i64 1]∧H=[A])∨∃ls rv,de b k=some ls∧r = .tuple #[rv,.int .i64 0]∧H=[aF 37 32 rv ls.length (ls.flatMap dC),A]):=by
 obtain⟨a,c,rfl,hc⟩:=hv.2
 refine aD.aw Tryz.func204 Tryz.ntmps204 fun G F R hE=>?_
 ((refine go ?_;(refine aI (oT ⟨Dg.zero,b.length,k,Dg.zero⟩) ?_)))
 rintro _ _⟨rfl,rfl⟩
 cases hr:bI ⟨Dg.zero,b.length,k,Dg.zero⟩with
 | false =>
  have hn:de b k=none:=by unfold de;rw[if_neg (by rw[hr];simp)]
  refine go ?_
  refine ad hE Tryz.func204 zr zr (.inl ⟨hn,rfl,rfl⟩)
 | true =>
  have hs:de b k=some ((gJ k.toNat b.length b).map cS):=by unfold de;rw[if_pos hr]
  have zR:=lI hs
  simp only[bI,decide_eq_true_eq]at hr
  obtain⟨k,rfl⟩:∃m:Nat,k=m:=⟨k.toNat,ag⟩
  rw[Int.toNat_natCast]at hs zR
  refine go ?_
  refine aI (I3 a b.length c (k:Int)) ?_
  rintro _ _⟨b1,b2,rfl,rfl⟩
  refine go ?_
  refine aI (Es 243 [ptr b1,ptr b2] _ [ae b1 (cl [.slice a b.length c] 40),ae b2 (cl [.int .i64 (k:Int)] 3),A] [A] ag (F1 A hK b1 b2 _ b hv ag k ag ag)) ?_
  rintro rv _ rfl
  refine go ?_
  refine ad hE Tryz.func204 zr zr (.inr ⟨_,_,hs,rfl,rfl⟩)
def vu{P:Program}{f:FuncId}{n:Nat}{R:Ending→World→Prop}{G:cQ}{k:List Item}{L:fY}{H:List HP}{S:World→Prop}{all:Array Oper}{rest:Pl}{e:TypeId}{sz nn:Nat}{v:Value}{cs:List Value}{A:HP}(h:Vw (aF e sz v nn cs) v nn cs→J P f n R G S all rest k L (Sep [aF e sz v nn cs,A]::H)):J P f n R G S all rest k L (aF e sz v nn cs::A::H) :=
 AS fun w hw=>by
  obtain⟨h1,_,hA⟩:=hw.lN (i:=0) rfl
  exact aJ (ak.bX [_,_] _) (h (Vw.pz e sz v nn cs ⟨h1,hA⟩))
theorem Sl(A:HP)(hK:oZ A)(v:Value)(b:List UInt8)(hv:eO A v b)(hl:b.length≤9223372036854775807)(k:Int) :
  aD Tryz.prog 160 [v,.int .i64 k] [A] (fun r H=>r=(match gg b k with
   | none => .tuple #[dG Bl.zero,.int .i64 1]
   | some x => .tuple #[dG x,.int .i64 0])∧H=[A]):=by
 have vI:=hv
 obtain⟨a,c,rfl,hc⟩:=hv.2
 refine aD.aw Tryz.func160 Tryz.ntmps160 fun G F R hE=>?_
 refine aB rfl ?_
 refine aC zr zr zr bE ?_
 intro b4
 refine go ?_
 refine aI (J8 A hK _ b hv hl k) ?_
 rintro _ _ (⟨hn,rfl,rfl⟩|⟨ls,rv,hs,rfl,rfl⟩)
 ·have hb:gg b k=none:=by unfold gg;rw[hn];rfl
  rw[hb]at hE
  refine go ?_
  (refine aZ hE ?_;apply aW (U:=aR) hE Tryz.func160 rfl (ak.refl _);(repeat(first|exact aQ.nil|apply aQ.tmp rfl|apply aQ.agg 1 zr zr zr zr zr));exact⟨rfl,rfl⟩;exact ah)
 ·have hb:gg b k=some ⟨dW b,b.length,k,zh ls⟩:=by unfold gg;rw[hs];rfl
  rw[hb]at hE
  have zR:=lI hs
  have Gl:b.length≤1048576:=by
   grind [de,bI]
  refine aP 0 rfl ?_
  rintro ra rc rfl
  refine go ?_
  refine aN (yA A hK _ b hv ag) ?_
  refine go ?_
  refine aJ (ak.pick [1,0] rfl) ?_
  refine vu fun dO=>?_
  ((refine aI (RS _ (hK.mono (aY (i:=1) rfl)) _ ls (dO.mono (aY (i:=0) rfl)) ag (by intro e;rw[e]at zR;simp at zR)) ?_))
  rintro _ _⟨rfl,rfl⟩
  refine aJ (ak.cK _ _) (go ?_)
  (refine aZ hE ?_;apply aW (U:=aR) hE Tryz.func160 rfl (ak.refl _);(repeat(first|exact aQ.nil|apply aQ.tmp rfl|apply aQ.agg 2 zr zr zr zr zr));exact⟨rfl,rfl⟩;exact ah)
def UD(x:Bl):((bH x).drop 0).take 32=dC x.d:=rfl
def Rx(x:Bl):((bH x).drop 34).take 32=dC x.root:=rfl
def aap(x:Bl):(bH x).toArray[32]?=some (.int .i64 x.size):=rfl
def aao(x:Bl):(bH x).toArray[33]?=some (.int .i64 x.piece):=rfl
def RB : Tryz.prog.fieldsOf 39 = #[{ name := "Digest", type := 37, offset := 0, embedded := false, tag := "", pkgPath := "", byteOffset := 0 },
        { name := "Size", type:=3,offset:=32,embedded:=false,tag := "", pkgPath := "", byteOffset:=32 },
        { name := "Piece", type:=3,offset:=33,embedded:=false,tag := "", pkgPath := "", byteOffset:=40 },
        { name := "Root", type:=37,offset:=34,embedded:=false,tag := "", pkgPath := "", byteOffset:=48 }]:=by kernel_rfl
def JS:Tryz.prog.underlying 39=some (.struct (Tryz.prog.fieldsOf 39)):=by kernel_rfl
def UG:Tryz.prog.stoodInHeld 39=false:=by kernel_rfl
def adA:Tryz.prog.cellsOf 37=32:=by kernel_rfl
def UF:Tryz.prog.cellsOf 5=1:=by kernel_rfl
def adz:Tryz.prog.plainKey 3=true:=by kernel_rfl
def aag:Tryz.prog.eqGuardType Tryz.prog.depth 39=false:=by kernel_rfl
def ads{P : Program}(h1 : P.fieldsOf 39 = #[{ name := "Digest", type := 37, offset := 0, embedded := false, tag := "", pkgPath := "", byteOffset := 0 },
        { name := "Size", type:=3,offset:=32,embedded:=false,tag := "", pkgPath := "", byteOffset:=32 },
        { name := "Piece", type:=3,offset:=33,embedded:=false,tag := "", pkgPath := "", byteOffset:=40 },
        { name := "Root", type:=37,offset:=34,embedded:=false,tag := "", pkgPath := "", byteOffset:=48 }])(h2:P.underlying 39=some (.struct (P.fieldsOf 39)))(h3:P.stoodInHeld 39=false)(h4:P.cellsOf 37=32)(h5:P.cellsOf 5=1)(h6:P.plainKey 3=true)(h7:P.underlying 37=some (.array 32 5))(h8:P.underlying 5=some (.int .u8))(h9:P.underlying 3=some (.int .i64))(x y:Bl)(D:Nat)(w:World) :
    (Op.equalIn (D+2+1) 39 (dG x) (dG y)).run P w = .ok (decide (x=y)) w:=by
  unfold dG
  rw[run_equalIn_struct w (D+2) 39 _ _ h2 h3,h1]
  have h:=Be (P:=P) (td:=37) (ti:=3) (f1:={ name := "Digest", type:=37,offset:=0,embedded:=false,tag := "", pkgPath := "", byteOffset:=0 })
    (f2:={ name := "Size", type:=3,offset:=32,embedded:=false,tag := "", pkgPath := "", byteOffset:=32 }) (f3:={ name := "Piece", type:=3,offset:=33,embedded:=false,tag := "", pkgPath := "", byteOffset:=40 })
    (f4:={ name := "Root", type:=37,offset:=34,embedded:=false,tag := "", pkgPath := "", byteOffset:=48 }) (by decide) (by decide) (by decide) (by decide) (D+2) w (bH x) (bH y) x.d y.d x.root y.root x.size y.size x.piece y.piece
    (fun a b=>sV h7 h8 h5 a b D w) (fun a b=>Mc h9 a b (D+1) w) zr zr zr zr
    (rA h7 h4 _ 0 _ (UD x) w) (rA h7 h4 _ 0 _ (UD y) w) (Go.run_part_plain w h6 (aap x)) (Go.run_part_plain w h6 (aap y)) (Go.run_part_plain w h6 (aao x)) (Go.run_part_plain w h6 (aao y)) (rA h7 h4 _ 34 _ (Rx x) w) (rA h7 h4 _ 34 _ (Rx y) w)
  refine Eq.trans h ?_
  congr 1
  rw[decide_eq_decide]
  obtain⟨d1,s1,p1,r1⟩:=x
  obtain⟨d2,s2,p2,r2⟩:=y
  simp
def Uw(x y:Bl)(w:World):(Op.equal 39 (dG x) (dG y)).run Tryz.prog w = .ok (decide (x=y)) w :=
 ads RB JS UG adA UF adz Tryz.underlying37 Tryz.underlying5 Tryz.underlying3 x y 9997 w
def NY(A:HP)(hK:oZ A)(x:Bl)(v:Value)(b:List UInt8)(hv:eO A v b)(hl:b.length≤900000000) :
  aD Tryz.prog 102 [dG x,v] [A] (fun r H=>r = .bool (jz x b)∧H=[A]):=by
 have vI:=hv
 obtain⟨a,c,rfl,hc⟩:=hv.2
 have kQ:=Sl A hK _ b hv ag x.piece
 unfold dG at kQ ⊢
 refine aD.aw Tryz.func102 Tryz.ntmps102 fun G F R hE=>?_
 refine aB rfl ?_
 refine bG zr zr bE ?_
 intro b2
 refine go ?_
 refine aN kQ ?_
 cases hb:gg b x.piece with
 | none =>
  have hw:jz x b=false:=by unfold jz;rw[hb];rfl
  rw[hw]at hE
  refine go ?_
  refine aC zr zr zr bE ?_
  intro b5
  refine go ?_
  refine ad hE Tryz.func102 zr zr ⟨rfl,rfl⟩
 | some y =>
  have hw:jz x b=decide (x=y):=by unfold jz;rw[hb];simp only[Option.some.injEq];rw[decide_eq_decide];exact eq_comm
  rw[hw]at hE
  simp only
  refine go ?_
  refine aC zr zr zr bE ?_
  intro b5
  refine go ?_
  (repeat(first|refine eZ ?_|refine aH (U:=aR) (l:=bH x) 2 zr zr zr zr zr zr ?_|refine aH (U:=aR) (l:=bH y) 0 zr zr zr zr zr zr ?_|refine lC (b:=decide (x=y)) zr zr zr aag (fun w=>Uw x y w) ?_))
  refine ad hE Tryz.func102 zr zr ⟨rfl,rfl⟩
end Go.Proofs.YthnfckodljbgbaaGreatDoor
namespace Go.Proofs.YthnfckodljbgbaaGreatDoor
open Go Go.SL
attribute [local irreducible] J K aD Ends ae aF aL bU bo aU bh bq cg
def kH{P:Program}{f:FuncId}{n:Nat}{R:Ending→World→Prop}{G:cQ}{k:List Item}{L:fY}{H:List HP}{e:TypeId}{sz nn c:Nat}{a:Option Addr}{cs:List Value}(i:Nat)(hi:cM H i=some (aF e sz (.slice a nn c) nn cs))(h:nn≤c→K P f n R G k L H):K P f n R G k L H :=
 sK fun⟨w,hw⟩=>by
  obtain⟨h1,_,hA⟩:=hw.lN hi
  exact h (Kw hA)
theorem nW(X:HP)(v:Value)(l:List It)(hv:vD X v l)(hl:l.length≤100)(hr:fT 0 (l.map It.p)=true)(hs:(eT (l.map It.p)).length≤65536) :
    aD Tryz.prog 147 [v] [X] (fun r H=>∃rv,r = .tuple #[rv,.int .i64 0]∧H=[aF 5 1 rv (eT (l.map It.p)).length (bV (eT (l.map It.p))),X]):=by
  obtain⟨dO,KZ⟩:=hv
  obtain⟨a,c,rfl⟩:=dO.shape
  refine aD.aw Tryz.func147 Tryz.ntmps147 fun G F R hE=>?_
  refine go ?_
  refine ai (bK 5 1 none _) ?_
  refine bB (fun y:Nat × List UInt8 × Option Addr × Nat=>y.1≤l.length∧y.2.1=eT ((l.map It.p).take y.1)) (fun y=>l.length-y.1)
    (fun y=>[(4,.slice y.2.2.1 y.2.1.length y.2.2.2),(5,.int .i64 (oz (l.map It.p) y.1)),(8,.slice a l.length c),(9,.int .i64 (l.length:Int)),(10,.int .i64 (y.1:Int))])
    (fun y=>aF 5 1 (.slice y.2.2.1 y.2.1.length y.2.2.2) y.2.1.length (bV y.2.1)::X::F) (0,[],none,0) ⟨Nat.zero_le _,rfl⟩ rfl ck ah ?_
  rintro⟨i,acc,a1,c1⟩⟨hi,yd⟩ ih
  simp only at hi yd
  have SC:=B0 (l.map It.p) i
  rw[← yd]at SC
  refine go ?_
  refine au zr zr ?_ ?_
  case' refine_2 =>
    intro fO
    simp only at fO
    have ij:acc=eT (l.map It.p):=by rw[yd,List.take_of_length_le (by rw[List.length_map];omega)]
    subst ij
    refine go ?_
    refine ad hE Tryz.func147 zr zr ⟨_,rfl,rfl⟩
  intro dJ
  simp only at dJ
  have gz:i<l.length:=by omega
  obtain⟨x,hx⟩:∃x,l[i]?=some x:=⟨l[i],by simp⟩
  have Sq:(l.map It.p)[i]?=some x.p:=by rw[List.getElem?_map,hx];rfl
  obtain⟨Ex,Bk⟩:=PJ _ 0 i x.p hr Sq
  have Ex:oz (l.map It.p) i<x.n:=Ex
  have Bk:x.n≤63:=Bk
  have mT:=zF Sq
  have zZ:=KZ x (List.mem_of_getElem? hx)
  obtain⟨xn,xv,xb⟩:=x
  simp only at Ex Bk zZ
  have mT:oz (l.map It.p) (i+1)=xn:=mT
  obtain⟨xa,xc,rfl,hxc⟩:=zZ.2
  have ht:eT ((l.map It.p).take (i+1))=acc++mQ (xn,xb):=by
    rw[List.take_add_one,Sq,Option.toList_some,Fz,← yd];simp[eT,It.p]
  have afp:=B0 (l.map It.p) (i+1)
  rw[ht,List.length_append]at afp
  have Ng:(mQ (xn,xb)).length=1+(uv xb.length).length+xb.length:=by simp only[mQ,List.length_cons,List.length_append];omega
  obtain⟨b,o,c',he⟩:=dO.some (by rw[← List.length_pos_iff,cE jQ];omega)
  simp only[Value.slice.injEq,true_and]at he
  obtain⟨rfl,rfl⟩:=he
  refine go ?_
  refine bZ i 2 zr zr zr zr zr zr zr zr gz ?_
  refine cI (U:=aR) (es:=my ⟨xn,.slice xa xb.length xc,xb⟩) 1 (i*2) zr zr zr dO rfl (fun j v hj=>?_) zr zr zr ?_
  · have Cm:j<2:=by
      grind [jQ]
    rw[cU jQ hx j Cm];exact hj
  refine aC zr zr zr bE ?_
  intro bd
  repeat'(first|(with_reducible intro p6)|refine eZ ?_|refine hJ zr zr zr zr ?_ ?_|refine au zr zr ?_ ?_)
  any_goals (exfalso;simp only at *;omega)
  rename_i h1 h2 h3
  simp only at h1 h2 h3
  obtain⟨xm,rfl⟩:∃m:Nat,xn=m:=⟨xn.toNat,by
    have:0<xn:=PH _ 0 hr (Int.le_refl _) _ (List.mem_of_getElem? Sq)
    omega⟩
  refine go ?_
  refine aG (fun w=>Sat G w ([X,ae bd (cl [.int .i64 (xm:Int),.slice xa xb.length xc] 192)])) (dj 0 3 (dj 5 4 (.st 11 (.st 12 (.act 3 (.act 4 (.act 9 (.act 10 (.act 13 (.st 14 .nil)))))))))) rfl aq aq aq eo ?_
  refine HD (U:=aR) rfl ?_
  refine fb ?_
  refine jv zr zr zr zr zr zr ?_
  refine az 36 ((u8 (UInt8.ofNat xm))) rfl ((mg xm)) (go ?_)
  refine ao (cs:=bV [UInt8.ofNat xm]) zr zr zr zr zr zr zr zr zr (fun _ w hw=>hw.cL ah) ?_
  intro row
  refine go ?_
  refine aT (mm:=1) (news:=bV [UInt8.ofNat xm]) 2 0 zr zr zr zr zr zr zr zr zr zr zr zr (Vw.ae rfl) rfl (db _) (by simp only;omega) (by show(_+_)*1≤_;simp only;omega) (fun _=>rfl) (fun _ w hw=>hw.cL ah) ?_
  intro v1
  simp only
  rw[show bV acc++bV [UInt8.ofNat xm]=bV (acc++[UInt8.ofNat xm])from by simp[bV],show acc.length+1=(acc++[UInt8.ofNat xm]).length from by simp]
  refine aP 2 rfl ?_
  rintro a2 c2 rfl
  refine go ?_
  refine dy (nc xb.length ag) ?_
  rintro r _ rfl
  refine aP 0 rfl ?_
  rintro ra rc rfl
  refine jt 0 rfl ?_
  intro Nn
  refine go ?_
  refine aT (mm:=(uv xb.length).length) (news:=bV (uv xb.length)) 3 0 zr zr zr zr zr zr zr zr zr zr zr zr Nn (by show _=_*1;rw[bM];omega) (db _) (by simp only[List.length_append,List.length_singleton];omega) (by show(_+_)*1≤_;simp only[List.length_append,List.length_singleton];omega) (fun _=>rfl) (fun _ w hw=>hw.cL ah) ?_
  intro v2
  rw[show bV (acc++[UInt8.ofNat xm])++bV (uv xb.length)=bV (acc++[UInt8.ofNat xm]++uv xb.length)from by simp[bV],show(acc++[UInt8.ofNat xm]).length+(uv xb.length).length=(acc++[UInt8.ofNat xm]++uv xb.length).length from by simp;omega]
  refine aP 3 rfl ?_
  rintro a3 c3 rfl
  refine go ?_
  refine aT (mm:=xb.length) (news:=bV xb) 3 4 zr zr zr zr zr zr zr zr zr zr zr zr zZ.1 (by show _=_*1;rw[bM];omega) (db _) (by simp only[List.length_append,List.length_singleton];omega) (by show(_+_)*1≤_;simp only[List.length_append,List.length_singleton];omega) (fun _=>rfl) (fun _ w hw=>hw.cL ah) ?_
  intro v3
  rw[show bV (acc++[UInt8.ofNat xm]++uv xb.length)++bV xb=bV (acc++mQ (xm,xb))from by simp[bV,mQ],show(acc++[UInt8.ofNat xm]++uv xb.length).length+xb.length=(acc++mQ (xm,xb)).length from by simp[mQ];omega]
  refine aP 3 rfl ?_
  rintro a4 c4 rfl
  refine go ?_
  refine au zr zr ?_ ?_
  · grind
  intro _
  refine go ?_
  refine bj 5 ((.int .i64 (oz (l.map It.p) (i+1)))) rfl ((congrArg (Value.int .i64) mT.symm)) ?_
  refine aM ih (i+1,acc++mQ (xm,xb),a4,c4) rfl ⟨by simp only;omega,by simp only;rw[ht]⟩ (by simp only;omega) ck ah
def MT(v:Value)(h1:∃a n c,v = .slice a n c):aD Tryz.prog 217 [v] [] (fun r H=>∃b,r = .func (.func 239) #[] #[ptr b]∧H=[ae b (cl [v] 40)]):=by
 obtain⟨a,n,c,rfl⟩:=h1
 refine aD.aw Tryz.func217 Tryz.ntmps217 fun G F R hE=>?_
 refine go ?_
 refine bG zr zr bE ?_
 intro b
 refine go ?_
 refine ad hE Tryz.func217 zr zr ⟨b,rfl,rfl⟩
theorem I6(A:HP)(bx:Nat)(v:Value)(bs:List UInt8)(hv:eO A v bs)(hl:bs.length≤1000000000)(l:Nat)(Lp LpD adN:HP)(Inv:Nat→HP)(oK:Nat→Bool)(hy:∀i x,(fm bs)[i]?=some x→(∀j,j<i→oK j=true)→∀r,(∃a n c,r = .slice a n c)→cg Tryz.prog l [.agg #[.int .i64 x.1,r] ] [Lp,Inv i,aF 5 1 r x.2.length (bV x.2)]
      (fun v H=>(oK i=true∧v = .bool true∧H=[Lp,Inv (i+1)])∨(oK i=false∧v = .bool false∧H=[LpD,adN]))) :
    aD Tryz.prog 239 [.func (.yield l) #[] #[],ptr bx] [Lp,Inv 0,ae bx (cl [v] 40),A]
      (fun _ H=>((∀i,i<(fm bs).length→oK i=true)∧H=[Lp,Inv (fm bs).length,A])∨((∃i,i<(fm bs).length∧oK i=false)∧H=[LpD,adN,A])):=by
  refine aD.aw Tryz.func239 Tryz.ntmps239 fun G F R hE=>?_
  refine bB (fun y:Value × List UInt8 × Nat=>eO A y.1 y.2.1∧y.2.1.length≤bs.length∧(fm bs).drop y.2.2=fm y.2.1∧y.2.2≤(fm bs).length∧∀j,j<y.2.2→oK j=true) (fun y=>y.2.1.length)
    (fun _=>[(0,.func (.yield l) #[] #[]),(1,ptr bx)])
    (fun y=>Lp::Inv y.2.2::ae bx (cl [y.1] 40)::A::F) (v,bs,0) ⟨hv,Nat.le_refl _,by simp,Nat.zero_le _,fun j hj=>absurd hj (Nat.not_lt_zero j)⟩ rfl ck ah ?_
  rintro⟨v1,rest,i⟩⟨nr,Ex,Bk,hr3,ZV⟩ ih
  simp only at nr Ex Bk hr3 ZV
  obtain⟨a,c,rfl,hc⟩:=nr.2
  refine go ?_
  match rest,Bk,nr,Ex,hc,ih with
  | [],Bk,nr,Ex,hc,ih =>
    have lL:i=(fm bs).length:=by
      rw[yQ]at Bk
      have:(fm bs).length≤i:=by simpa using Bk
      omega
    subst lL
    refine go ?_
    refine cd hE Tryz.func239 rfl _ rfl (.inl ⟨ZV,rfl⟩) ah
  | c0::rst,Bk,nr,Ex,hc,ih =>
    have ny:=nr.cut 1 (by simp)
    rw[List.drop_succ_cons,List.drop_zero]at ny
    ((refine bj 8 ((.bool true)) rfl ((congrArg Value.bool (decide_eq_true (by simp only[List.length_cons];omega)))) ?_))
    refine go ?_
    refine bt (p:=1) (q:=((c0::rst).length:Int)) zr zr zr zr zr zr zr ag (by simp only[List.length_cons];omega) (.inl rfl) ?_
    ((refine az 11 ((.slice (sliceAt a c 1 1) rst.length (c-1))) rfl ((by rw[show((c0::rst).length:Int).toNat=rst.length+1 from by simp[List.length_cons],show(1:Int).toNat=1 from rfl,show rst.length+1-1=rst.length by omega];rfl)) ?_))
    ((refine aI (Lm A _ rst ny.1 ny.2 (by simp only[List.length_cons]at Ex;omega)) ?_))
    rintro _ _⟨rv,rfl,Ss,rfl⟩
    have Ss:eO A rv (dH rst).2.1:=Ss
    have ki:=qN rst
    have Ew:rst.length<1000000000:=by simp only[List.length_cons]at Ex;omega
    have Jh:∀x,fm (c0::rst)=x::fm ((dH rst).2.1.drop (dH rst).1)∨fm (c0::rst)=[x]→(fm bs)[i]?=some x:=by
      intro x hx
      have:=congrArg (fun l=>l[0]?) Bk
      grind
    obtain⟨ra,rc,rfl,QP⟩:=Ss.2
    by_cases iJ:(dH rst).2.2=true∧(dH rst).1≤(dH rst).2.1.length
    · have Cq:=BM (c:=c0) iJ
      have hx:=Jh _ (.inl Cq)
      rw[iJ.1]
      have Bp:=Ss.front (dH rst).1 iJ.2
      have zY:=Ss.cut (dH rst).1 iJ.2
      have me:=(List.getElem?_eq_some_iff.1 hx).1
      refine go ?_
      refine au zr zr ?_ ?_
      · intro yc;exfalso;omega
      intro _
      have lY:0<(c0::rst).length:=by simp only[List.length_cons];omega
      obtain⟨ba,oa,ca,fL⟩:=RF nr.1 lY
      simp only[Value.slice.injEq,true_and]at fL
      obtain⟨rfl,rfl⟩:=fL
      obtain⟨n,hn⟩:∃n,n=(dH rst).1:=⟨_,rfl⟩
      have Ev:((dH rst).2.1.take n).length=n:=by rw[hn,List.length_take];omega
      rw[← hn]at Bp zY Cq hx iJ ⊢
      have VF:c0.toNat<256:=c0.toNat_lt
      have H6:=iJ.2
      have afR:rst.length+1≤bs.length:=Ex
      refine aG (fun w=>Sat G w ([A,ae bx (cl [.slice (some ⟨ba,oa,none⟩) (c0::rst).length c] 40)])) (dj 0 8 (.act 8 (.st 9 (.act 10 (.st 11 .nil))))) rfl aq aq aq eo ?_
      refine go ?_
      refine bR 0 zr zr zr zr zr zr zr zr lY (go ?_)
      refine aK ?_
      refine bW 0 0 zr zr zr nr.1 rfl (show(bV (c0::rst))[0]?=some (u8 c0)from rfl) zr zr (go ?_)
      refine bt (p:=0) (q:=(n:Int)) zr zr zr zr zr zr zr ag ag (.inr ag) ?_
      ((refine az 35 ((.slice (sliceAt ra rc 0 1) ((dH rst).2.1.take n).length rc)) rfl ((by rw[Ev,show((n:Int)).toNat=n from by omega];rfl)) ?_))
      have Bp:eO A (.slice (sliceAt ra rc 0 1) ((dH rst).2.1.take n).length rc) ((dH rst).2.1.take n):=by rw[Ev];exact Bp
      refine dy (ke A _ ((dH rst).2.1.take n) Bp.1 ag) ?_
      rintro r _ rfl
      refine aP 0 rfl ?_
      rintro rr rrc rfl
      refine go ?_
      refine lB rfl rfl rfl (hy i _ hx ZV (.slice rr ((dH rst).2.1.take n).length rrc) ⟨_,_,_,rfl⟩) ah ?_ (fun _ _ w hp hw=>by rcases hp with⟨_,_,rfl⟩|⟨_,_,rfl⟩ <;> exact hw.cL ah)
      rintro _ _ (⟨hg,rfl,rfl⟩|⟨hg,rfl,rfl⟩)
      · refine go ?_
        refine bt (p:=(n:Int)) (q:=((dH rst).2.1.length:Int)) zr zr zr zr zr zr zr ag ag (.inl rfl) ?_
        ((refine az 42 ((.slice (sliceAt ra rc n 1) ((dH rst).2.1.length-n) (rc-n))) rfl ((by rw[show((n:Int)).toNat=n from by omega,show(((dH rst).2.1.length:Int)).toNat=(dH rst).2.1.length from by omega];rfl)) ?_))
        refine go ?_
        have qd:(fm bs).drop (i+1)=fm ((dH rst).2.1.drop n):=by
          have:=congrArg (fun l=>l.drop 1) Bk
          simp only[Cq,List.drop_drop]at this
          grind
        refine aM ih (.slice (sliceAt ra rc n 1) ((dH rst).2.1.length-n) (rc-n),(dH rst).2.1.drop n,i+1) rfl (⟨zY,by simp only[List.length_drop];omega,qd,by simp only;omega,fun j hj=>by
          rcases Nat.lt_or_ge j i with h|h
          · exact ZV j h
          · rw[show j=i by simp only at hj;omega];exact hg⟩) (by simp only[List.length_drop,List.length_cons];omega) ck ah
      · refine go ?_
        refine ad hE Tryz.func239 zr zr (.inr ⟨⟨i,me,hg⟩,rfl⟩)
    · have jj:=ES (c:=c0) iJ
      have hx:=Jh _ (.inr jj)
      cases aeE:(dH rst).2.2 with
      | false =>
        refine go ?_
        refine aJ (bK 5 1 none _) ?_
        refine lB zr zr zr (hy i (0,[]) hx ZV (.slice none 0 0) ⟨_,_,_,rfl⟩) ah ?_ nq
        rintro _ _ (⟨hg,rfl,rfl⟩|⟨hg,rfl,rfl⟩)
        · refine go ?_
          have lL:i+1=(fm bs).length:=by
            have:=congrArg List.length Bk
            grind
          rw[lL]
          have iy:∀j,j<(fm bs).length→oK j=true:=fun j hj=>by
            grind
          refine ad hE Tryz.func239 zr zr (.inl ⟨iy,rfl⟩)
        · refine go ?_
          have me:=(List.getElem?_eq_some_iff.1 hx).1
          refine ad hE Tryz.func239 zr zr (.inr ⟨⟨i,me,hg⟩,rfl⟩)
      | true =>
        have OY:¬(dH rst).1≤(dH rst).2.1.length:=fun h=>iJ ⟨aeE,h⟩
        refine go ?_
        refine au zr zr ?_ ?_
        case' refine_2=>(intro h;exfalso;omega)
        intro _
        refine go ?_
        refine aJ (bK 5 1 none _) ?_
        refine lB zr zr zr (hy i (0,[]) hx ZV (.slice none 0 0) ⟨_,_,_,rfl⟩) ah ?_ nq
        rintro _ _ (⟨hg,rfl,rfl⟩|⟨hg,rfl,rfl⟩)
        · refine go ?_
          have lL:i+1=(fm bs).length:=by
            have:=congrArg List.length Bk
            grind
          rw[lL]
          have iy:∀j,j<(fm bs).length→oK j=true:=fun j hj=>by
            grind
          refine ad hE Tryz.func239 zr zr (.inl ⟨iy,rfl⟩)
        · refine go ?_
          have me:=(List.getElem?_eq_some_iff.1 hx).1
          refine ad hE Tryz.func239 zr zr (.inr ⟨⟨i,me,hg⟩,rfl⟩)
end Go.Proofs.YthnfckodljbgbaaGreatDoor
namespace Go.Proofs.YthnfckodljbgbaaGreatDoor
open Go Go.SL
def DI(b2 b3 b4 b5:Nat)(xs:List (Int × List UInt8))(i:Nat):HP:=fun h=>∃x:List It × HP × Value,(x.1.map It.p=xs.take i∧∀y∈x.1,eO x.2.1 y.v y.b) ∧
 Sep [ae b2 (cl [.slice none 0 0] 193),ae b3 (cl [.int .i64 0] 26),ae b4 (cl [x.2.2] 193),ae b5 (cl [.int .i64 (oz xs i)] 3),aF 192 2 x.2.2 x.1.length (x.1.flatMap my),x.2.1] h
def LS(b2 b3 b4 b5:Nat)(xs:List (Int × List UInt8))(i:Nat):∀h,DI b2 b3 b4 b5 xs i h→∃x:List It × HP × Value,(x.1.map It.p=xs.take i∧∀y∈x.1,eO x.2.1 y.v y.b) ∧
 Sep [ae b2 (cl [.slice none 0 0] 193),ae b3 (cl [.int .i64 0] 26),ae b4 (cl [x.2.2] 193),ae b5 (cl [.int .i64 (oz xs i)] 3),aF 192 2 x.2.2 x.1.length (x.1.flatMap my),x.2.1] h:=fun h hs=>hs
def HG(b2 b3 b4 b5:Nat)(xs:List (Int × List UInt8))(i:Nat)(fX:List It)(Z:HP)(v:Value)(h1:fX.map It.p=xs.take i)(h2:∀y∈fX,eO Z y.v y.b)(H:List HP) :
  ak (ae b2 (cl [.slice none 0 0] 193)::ae b3 (cl [.int .i64 0] 26)::ae b4 (cl [v] 193)::ae b5 (cl [.int .i64 (oz xs i)] 3)::aF 192 2 v fX.length (fX.flatMap my)::Z::H) (DI b2 b3 b4 b5 xs i::H) :=
 ak.fold (A:=DI b2 b3 b4 b5 xs i) (B:=[ae b2 (cl [.slice none 0 0] 193),ae b3 (cl [.int .i64 0] 26),ae b4 (cl [v] 193),ae b5 (cl [.int .i64 (oz xs i)] 3),aF 192 2 v fX.length (fX.flatMap my),Z]) fun h hs=>⟨h,sub.refl h,(fX,Z,v),⟨h1,h2⟩,hs⟩
def DE(b2 b3:Nat):HP:=Sep [ae b2 (cl [.slice none 0 0] 193),ae b3 (cl [.int .i64 2] 26)]
def HH(b2 b3:Nat)(H:List HP):ak (ae b2 (cl [.slice none 0 0] 193)::ae b3 (cl [.int .i64 2] 26)::H) (DE b2 b3::H):=ak.bX [ae b2 (cl [.slice none 0 0] 193),ae b3 (cl [.int .i64 2] 26)] H
def UZ(b2 b3:Nat)(H:List HP):ak (DE b2 b3::H) (ae b2 (cl [.slice none 0 0] 193)::ae b3 (cl [.int .i64 2] 26)::H):=ak.cK [ae b2 (cl [.slice none 0 0] 193),ae b3 (cl [.int .i64 2] 26)] H
attribute [local irreducible] J K aD Ends ae aF aL bU bo aU bh bq cg DI DE
theorem nX(A:HP)(v:Value)(bs:List UInt8)(hv:eO A v bs)(hl:bs.length≤1000000000) :
  aD Tryz.prog 195 [v] [A] (fun r H=>(qb bs=none∧r = .tuple #[.slice none 0 0,.int .i64 2]∧H=[A])∨(∃(xs:List (Int × List UInt8)) (fX:List It) (Z:HP) (rv:Value),qb bs=some xs∧fX.map It.p=xs∧vD Z rv fX∧r = .tuple #[rv,.int .i64 0]∧H=[Z,A]∧∃ra rc,rv = .slice ra fX.length rc∧fX.length≤rc)):=by
 obtain⟨a,c,rfl,hc⟩:=hv.2
 have pY:qb bs=if 65536<bs.length then none else if fT 0 (fm bs)then some (fm bs)else none:=rfl
 refine aD.aw Tryz.func195 Tryz.ntmps195 fun G F R hE=>?_
 refine aB rfl ?_
 refine aC zr zr zr bE ?_
 intro b2
 refine aC zr zr zr bE ?_
 intro b3
 refine go ?_
 refine au zr zr ?_ ?_
 ·intro yc
  have yc:65536<bs.length:=by omega
  rw[if_pos yc]at pY
  refine go ?_
  refine aZ hE ?_
  refine tL (U:=aR) 1 0 hE Tryz.func195 zr zr zr zr zr zr zr zr (ak.refl _) zr zr (.inl ⟨pY,rfl,rfl⟩) ah
 intro xM
 have xM:¬65536<bs.length:=by omega
 rw[if_neg xM]at pY
 refine go ?_
 refine aC zr zr zr bE ?_
 intro b4
 refine go ?_
 refine aC zr zr zr bE ?_
 intro b5
 refine go ?_
 refine aI (MT _ ⟨a,_,c,rfl⟩) ?_
 rintro _ _⟨bx,rfl,rfl⟩
 refine go ?_
 refine gE rfl ?_
 refine ai (ak.trans (ak.bX [] _) (ak.trans (bK 192 2 none _) (ak.trans ah (HG b2 b3 b4 b5 (fm bs) 0 [] (Sep []) (.slice none 0 0) rfl (by simp) (ae bx (cl [.slice a bs.length c] 40)::A::F))))) ?_
 refine qW (Fr:=F) (Pre:=fun _ _=>[DI b2 b3 b4 b5 (fm bs) 0,ae bx (cl [.slice a bs.length c] 40),A]) (fun _ _ Lp v H=>((∀i,i<(fm bs).length→uU (fm bs) i=true)∧H=[Lp .ready none,DI b2 b3 b4 b5 (fm bs) (fm bs).length,A])∨((∃i,i<(fm bs).length∧uU (fm bs) i=false)∧H=[Lp .done (some .ret),DE b2 b3,A])) rfl hE.1.1 rfl ?c (fun l r=>ah) ?ij
 case c =>
  intro l r
  refine aD.pre (I6 A bx _ bs hv hl l _ _ (DE b2 b3) (DI b2 b3 b4 b5 (fm bs)) (uU (fm bs)) ?hy) ah
  case hy =>
   intro i x hx ZV rv Ss
   obtain⟨va,vn,vc,rfl⟩:=Ss
   refine cg.FO zr zr ?_
   intro G2 F2 R2 hY
   refine aB rfl ?_
   refine aC zr zr zr bE ?_
   intro b6
   refine go ?_
   refine ai (ak.pick [1] rfl) ?_
   refine gx rfl hY ?_
   refine ai (ak.pick [2] rfl) ?_
   refine eB (LS b2 b3 b4 b5 (fm bs) i) ?_
   rintro⟨fX,Z,vi⟩⟨rW,xO⟩
   simp only at rW xO
   have Q9:=z8 hx
   obtain⟨xn,xb⟩:=x
   simp only at Q9
   have zR:=zF hx
   refine dN 4 rfl ?_
   intro ia ic Zj
   simp only at Zj
   subst Zj
   simp only
   refine ai (ak.pick [7,0,1,2,3] rfl) ?_
   repeat'(first|(with_reducible intro p6)|refine eZ ?_|refine hJ zr zr zr zr ?_ ?_|refine au zr zr ?_ ?_)
   ·have jj:uU (fm bs) i=false:=by rw[Q9,decide_eq_false ag,Bool.false_and]
    refine ai (ak.trans (ak.pick [1,2] rfl) (HH b2 b3 _)) ?_
    refine AP hY rfl ah (.inr ⟨jj,rfl,rfl⟩)
   ·have jj:uU (fm bs) i=false:=by rw[Q9,decide_eq_false (show ¬xn≤63 by omega),Bool.and_false]
    refine ai (ak.trans (ak.pick [1,2] rfl) (HH b2 b3 _)) ?_
    refine AP hY rfl ah (.inr ⟨jj,rfl,rfl⟩)
   ·rename_i h1
    have uN:uU (fm bs) i=true:=by rw[Q9,decide_eq_true ag,decide_eq_true ag];rfl
    refine aV ?_
    refine cF 4 gf zr zr zr zr zr zr zr zr zr (go ?_)
    refine dT 0 zr zr zr zr zr zr (go ?_)
    refine gX (bs:=xb) 8 rfl ?_
    intro zZ
    obtain⟨_,_,hvx,hxc⟩:=zZ.2
    simp only[Value.slice.injEq,true_and]at hvx
    obtain⟨-,rfl,rfl⟩:=hvx
    have me:=(List.getElem?_eq_some_iff.1 hx).1
    have Ev:=ub bs.length bs (Nat.le_refl _)
    have acY:fX.length=i:=by
     have:=congrArg List.length rW
     grind
    refine ao (cs:=my ⟨xn,.slice va xb.length vc,xb⟩) zr zr zr zr zr zr zr zr zr bE ?_
    intro row
    refine go ?_
    refine aT (mm:=1) (news:=my ⟨xn,.slice va xb.length vc,xb⟩) 6 0 rfl rfl rfl rfl rfl rfl rfl rfl rfl rfl rfl rfl (Vw.ae rfl) rfl (by intro v hv;simp[my]at hv;rcases hv with rfl|rfl <;> rfl) ag (by show(_+_)*32≤_;omega) (fun _=>rfl) bE ?_
    intro v1
    rw[show fX.flatMap my++my (⟨xn,.slice va xb.length vc,xb⟩:It)=(fX++[(⟨xn,.slice va xb.length vc,xb⟩:It)]).flatMap my from by simp,show fX.length+1=(fX++[(⟨xn,.slice va xb.length vc,xb⟩:It)]).length from by simp]
    refine aP 6 rfl ?_
    rintro ja jc rfl
    refine go ?_
    refine aV ?_
    refine cF 4 gf zr zr zr zr zr zr zr zr zr (go ?_)
    have aeO:oz (fm bs) (i+1)=xn:=zR
    have Q8:(fX++[(⟨xn,.slice va xb.length vc,xb⟩:It)]).map It.p=(fm bs).take (i+1):=by
     rw[List.map_append,rW,List.take_add_one,hx];rfl
    have ki:=HG b2 b3 b4 b5 (fm bs) (i+1) (fX++[(⟨xn,.slice va xb.length vc,xb⟩:It)]) (Sep [aF 5 1 (.slice va xb.length vc) xb.length (bV xb),Z]) (.slice ja (fX++[(⟨xn,.slice va xb.length vc,xb⟩:It)]).length jc) Q8 (fun y hy=>by
     rcases List.mem_append.1 hy with h|h
     ·exact(xO y h).mono (aY (i:=1) rfl)
     ·rw[List.mem_singleton.1 h];exact zZ.mono (aY (i:=0) rfl))
    rw[aeO]at ki
    refine ai (ak.trans (ak.pick [9,7] rfl) (ak.trans (ak.bX [_,_] _) (ak.trans ah (ki _)))) ?_
    refine fV hY rfl ah (.inl ⟨uN,rfl,rfl⟩)
 rintro l r v H' (⟨iy,rfl⟩|⟨⟨i,hi,jj⟩,rfl⟩)
 ·refine⟨_,_,_,rfl,by decide,?_⟩
  have hr:fT 0 (fm bs)=true:=(BY _).2 iy
  rw[if_pos hr]at pY
  rw[hE.1.2]
  refine eB (LS b2 b3 b4 b5 (fm bs) _) ?_
  rintro⟨fX,Z,vi⟩⟨rW,xO⟩
  simp only at rW xO
  rw[List.take_length]at rW
  refine dN 4 rfl ?_
  intro ia ic Zj
  simp only at Zj
  subst Zj
  simp only
  refine kH 4 rfl ?_
  intro kj
  refine dg 4 rfl ?_
  intro dO
  have K8:vD (Sep [aF 192 2 (.slice ia fX.length ic) fX.length (fX.flatMap my),Z]) (.slice ia fX.length ic) fX:=⟨dO.mono (aY (i:=0) rfl),fun y hy=>(xO y hy).mono (aY (i:=1) rfl)⟩
  refine go ?_
  refine ai (ak.trans (ak.pick [4,5] rfl) (ak.bX [aF 192 2 (.slice ia fX.length ic) fX.length (fX.flatMap my),Z] _)) ?_
  refine tL (U:=aR) 1 2 hE Tryz.func195 zr zr zr zr zr zr zr zr ah zr zr (.inr ⟨fm bs,fX,_,_,pY,rW,K8,rfl,rfl,_,_,rfl,kj⟩) ah
 ·refine⟨_,_,_,rfl,by decide,?_⟩
  have hr:¬fT 0 (fm bs)=true:=fun h=>by rw[(BY _).1 h i hi]at jj;cases jj
  rw[if_neg hr]at pY
  rw[hE.1.2]
  refine ai (UZ b2 b3 _) ?_
  refine tL (U:=aR) 0 1 hE Tryz.func195 zr zr zr zr zr zr zr zr ah zr zr (.inl ⟨pY,rfl,rfl⟩) ah
end Go.Proofs.YthnfckodljbgbaaGreatDoor
namespace Go.Proofs.YthnfckodljbgbaaGreatDoor
open Go Go.SL
attribute [local irreducible] J K aD Ends ae aF aL bU bo aU bh bq cg Sha.chunks Sha.chunk Sha.rounds Sha.sched dW cy GI cS
def Tt:kG Tryz.prog 37 dV:=aca Tryz.underlying37 Tryz.underlying5 UF
def U5(l:List Dg):List (Dg × Value):=l.map fun d=>(d,.bool true)
theorem Pr(l:List Dg)(d:Dg):(dP (U5 l) d).getD (.bool false) = .bool (decide (d∈l)):=by
 induction l with
 | nil=>simp[U5,dP]
 | cons x l ih =>
  grind [U5,dP]
theorem SV{l:List Dg}{d:Dg}(h:d ∉ l):gG (U5 l) d (.bool true)=U5 (l++[d]):=by
 grind [gG,U5]
theorem BJ(l:List Bl):qj l=false↔(l.map Bl.d).Nodup:=by
 induction l with
 | nil=>simp[qj]
 | cons x l ih =>
  grind [qj]
theorem Lx(l:List Bl):∀v∈l.flatMap bH,v.oneCell'=true:=by
 intro v hv
 obtain⟨x,_,h⟩:=List.mem_flatMap.1 hv
 simp only[bH,List.mem_append,List.mem_cons,List.not_mem_nil,or_false]at h
 rcases h with(h|rfl|rfl)|h
 ·grind [dL,db]
 ·rfl
 ·rfl
 grind [dL,db]
def SH{l:List Bl}{i:Nat}{x:Bl}(hx:l[i]?=some x)(q:Nat)(v:Value)(hq:(bH x)[q]?=some v):(l.flatMap bH)[i*66+q]?=some v:=by
 rw[cU ve hx q (by rcases Nat.lt_or_ge q 66 with h|h;exact h;rw[List.getElem?_eq_none (by rw[ve];exact h)]at hq;cases hq)]
 exact hq
def aaq{l:List Bl}{i:Nat}(h:i<l.length):l.flatMap bH≠[]:=by
 rw[← List.length_pos_iff,cE ve];omega
def Ep(A X:HP)(v:Value)(l:List Bl)(hv:Vw A v l.length (l.flatMap bH))(hlen:l.length≤1000000)(g:FuncId)(cap:List Value)(p:Bl→Bool)(hf:∀x∈l,aD Tryz.prog g (dG x::cap) [X] (fun v H=>v = .bool (p x)∧H=[X])) :
  aD Tryz.prog 183 [v,.func (.func g) #[] cap.toArray] [A,X] (fun r H=>r = .int .i64 (lK p l)∧H=[A,X]):=by
 obtain⟨a,c0,rfl⟩:=hv.shape
 unfold dG at hf
 refine aD.enter Tryz.func183 aq rfl Tryz.ntmps183 zr zr ?_
 intro G F R hR
 refine go ?_
 refine bB (fun i:Nat=>i≤l.length∧∀y∈l.take i,p y=false) (fun i=>l.length-i) (fun i=>[(0,.slice a l.length c0),(1,.func (.func g) #[] cap.toArray),(7,.int .i64 l.length),(8,.int .i64 i)]) (fun _=>[A,X]++F) 0 ⟨by simp,by simp⟩ rfl ck (ak.refl _) ?_
 rintro i⟨hi,hb⟩ ih
 refine go ?_
 refine au zr zr ?_ ?_
 ·intro dJ
  refine go ?_
  have gz:i<l.length:=by omega
  have hx:l[i]?=some l[i]:=by simp[gz]
  generalize hxx:l[i]=x at hx
  obtain⟨b,o,gZ,fL⟩:=hv.some (aaq gz)
  simp only[Value.slice.injEq]at fL
  obtain⟨rfl,_,rfl⟩:=fL
  refine bZ i 66 zr zr zr zr zr zr zr zr gz ?_
  refine cI (U:=aR) (es:=bH x) 0 (i*66) zr zr zr hv rfl (SH hx) zr zr zr ?_
  refine cO [1] zr zr zr zr (hf x (List.mem_of_getElem? hx)) rfl nq ?_
  rintro _ _⟨rfl,rfl⟩
  refine go ?_
  refine fZ zr zr ?_ ?_
  ·intro hp
   refine go ?_
   refine aO hR Tryz.func183 rfl _ rfl ⟨by rw[oC hx hp hb];rfl,rfl⟩ (ak.fin [1,0] 0 zr zr)
  ·intro hp
   refine go ?_
   refine aM ih (i+1) rfl ⟨ag,vh hb hx hp⟩ ag ck (ak.pick [1,0] rfl)
 ·intro fO
  refine go ?_
  have:i=l.length:=by omega
  subst this
  refine aO hR Tryz.func183 rfl _ rfl ⟨by rw[rH (fun x hx=>hb x (by simpa using hx))];rfl,rfl⟩ (ak.fin [0,1] 0 zr zr)
def p9(A X:HP)(v:Value)(l:List Bl)(hv:Vw A v l.length (l.flatMap bH))(hlen:l.length≤1000000)(g:FuncId)(cap:List Value)(p:Bl→Bool)(hf:∀x∈l,aD Tryz.prog g (dG x::cap) [X] (fun v H=>v = .bool (p x)∧H=[X])) :
  aD Tryz.prog 120 [v,.func (.func g) #[] cap.toArray] [A,X] (fun r H=>r = .bool (l.any p)∧H=[A,X]):=by
 refine aD.enter Tryz.func120 aq rfl Tryz.ntmps120 zr zr ?_
 intro G F R hR
 refine go ?_
 refine cO [0,1] zr zr zr zr (Ep A X v l hv hlen g cap p hf) rfl nq ?_
 rintro _ _⟨rfl,rfl⟩
 refine go ?_
 have hb:decide (0≤lK p l)=l.any p:=by
  rw[show decide (0≤lK p l)=decide (¬lK p l<0)from by rw[decide_eq_decide];omega]
  rw[Bool.eq_iff_iff,decide_eq_true_iff,oD (p:=p) (l:=l),Bool.not_eq_false]
 refine aO hR Tryz.func120 rfl _ rfl ⟨congrArg Value.bool hb,rfl⟩ (ak.fin [0,1] 0 zr zr)
def Th(x:Bl):aD Tryz.prog 238 [dG x] [emp] (fun r H=>r = .bool (!bI x)∧H=[emp]):=by
 unfold dG
 refine aD.aw Tryz.func238 Tryz.ntmps238 fun G F R hE=>?_
 refine aB rfl ?_
 refine bG zr zr bE ?_
 intro b1
 refine go ?_
 refine aH (U:=aR) 0 zr zr zr zr zr zr ?_
 refine aN (oT x) ?_
 refine go ?_
 refine ad hE Tryz.func238 zr zr ⟨rfl,rfl⟩
def Tv(v:Value):Value := .agg #[v]
theorem CV(A:HP)(v:Value)(l:List Bl)(hv:Vw A v l.length (l.flatMap bH))(hlen:l.length≤1000000) :
  aD Tryz.prog 215 [Tv v] [A] (fun r H=>r = .int .i64 (ig l:Int)∧H=[A]):=by
 obtain⟨a,c,rfl⟩:=hv.shape
 unfold Tv
 refine aD.aw Tryz.func215 Tryz.ntmps215 fun G F R hE=>?_
 refine aB rfl ?_
 refine bG zr zr bE ?_
 intro b1
 refine aJ (ak.pS _) ?_
 have h1:(l.length<1∨16<l.length∨l.any (fun x => !bI x)=true)→ig l=1:=fun h=>by unfold ig;rw[if_pos h]
 have h2:¬(l.length<1∨16<l.length∨l.any (fun x => !bI x)=true)→ig l=if qj l then 5 else 0:=fun h=>by unfold ig;rw[if_neg h]
 repeat'(first|(with_reducible intro p6)|refine eZ ?_|refine hJ zr zr zr zr ?_ ?_|(refine aI (p9 A emp _ l hv hlen 238 [] (fun x => !bI x) (fun x _=>Th x)) ?_;rintro _ _⟨rfl,rfl⟩))
 ·rw[h1 (.inl ag)]at hE
  refine ad hE Tryz.func215 zr zr ⟨rfl,rfl⟩
 ·rw[h1 (.inr (.inl ag))]at hE
  refine ad hE Tryz.func215 zr zr ⟨rfl,rfl⟩
 cases rY:l.any (fun x => !bI x)with
 | true =>
  rw[h1 (.inr (.inr rY))]at hE
  refine go ?_
  refine ad hE Tryz.func215 zr zr ⟨rfl,rfl⟩
 | false =>
  have h3:=h2 (fun h=>by rcases h with h|h|h;exact absurd h ag;exact absurd h ag;rw[rY]at h;cases h)
  rw[h3]at hE
  refine go ?_
  refine j9 rfl bE ?_
  intro bm
  refine aJ (ak.fold (B:=[_]) (A:=aL dV bm (U5 [])) (fun h hs=>⟨h,sub.refl h,lG dV bm h (ez hs)⟩)) ?_
  refine go ?_
  refine bB (fun i:Nat=>i≤l.length∧((l.take i).map Bl.d).Nodup) (fun i=>l.length-i)
   (fun i=>[(1,ptr b1),(4,.map (some bm)),(25,.slice a l.length c),(26,.int .i64 (l.length:Int)),(27,.int .i64 (i:Int))])
   (fun i=>aL dV bm (U5 ((l.take i).map Bl.d))::A::F) 0 ⟨Nat.zero_le _,by simp⟩ rfl ck ah ?_
  rintro i⟨hi,jh⟩ ih
  refine go ?_
  refine au zr zr ?_ ?_
  ·intro dJ
   have gz:i<l.length:=by omega
   obtain⟨x,hx⟩:∃x,l[i]?=some x:=⟨l[i],by simp⟩
   obtain⟨b,o,gZ,fL⟩:=hv.some (aaq gz)
   simp only[Value.slice.injEq]at fL
   obtain⟨rfl,_,rfl⟩:=fL
   have kU:(l.take (i+1)).map Bl.d=(l.take i).map Bl.d++[x.d]:=by rw[List.take_add_one,hx];simp
   refine go ?_
   refine bZ i 66 zr zr zr zr zr zr zr zr gz ?_
   refine aK ?_
   refine cI (U:=aR) (es:=bH x) 1 (i*66) zr zr zr hv rfl (SH hx) zr zr zr ?_
   refine aC zr zr zr bE ?_
   intro b6
   refine go ?_
   refine dT 0 zr zr zr zr zr zr ?_
   refine iX (key:=x.d) 1 rfl Tt zr zr zr zr zr zr zr zr ?_
   refine az 34 (.bool (decide (x.d∈(l.take i).map Bl.d))) rfl (Pr _ _) (go ?_)
   refine au zr zr ?_ ?_
   ·intro qe
    have htw:qj l=true:=by
     cases h:qj l with
     | true=>rfl
     | false =>
      exfalso
      have hN:=(BJ l).1 h
      have dU:((l.take (i+1)).map Bl.d).Nodup:=hN.sublist ((List.take_sublist _ _).map _)
      grind
    rw[htw]at hE
    refine go ?_
    refine ad hE Tryz.func215 zr zr ⟨rfl,rfl⟩
   ·intro TN
    refine go ?_
    refine dT 0 zr zr zr zr zr zr ?_
    refine eV (key:=x.d) 1 Tt gf zr zr zr zr zr zr zr zr ?_
    rw[SV TN,← kU]
    refine go ?_
    refine aM ih (i+1) rfl ⟨ag,by rw[kU,List.nodup_append];exact⟨jh,by simp,fun p hp q hq=>by simp at hq;subst hq;exact fun e=>TN (e ▸ hp)⟩⟩ ag ck ah
  intro fO
  have tR:i=l.length:=by omega
  subst tR
  rw[List.take_length]at jh
  rw[(BJ l).2 jh]at hE
  refine go ?_
  refine ad hE Tryz.func215 zr zr ⟨rfl,rfl⟩
def eO.Y3{b o n:Nat}{bs:List UInt8}{l:List Value}{e:TypeId}(hn:bs.length=n)(hl:(l.drop o).take n=bV bs):eO (ae b (cl l e)) (.slice (some ⟨b,o,none⟩) n n) bs:=by
 subst hn
 exact⟨Vw.ae (by rw[bM];exact hl),_,_,rfl,Nat.le_refl _⟩
theorem zJ:∀(l:List Bl) (i:Nat) (x:Bl),jV i (l++[x])=jV i l++[(((i+l.length:Nat):Int)+1,eT (eu x))]
 | [],i,x=>by simp[jV]
 | y::l,i,x=>by
  simp only[List.cons_append,jV,zJ l (i+1) x,List.length_cons]
  grind
theorem su:∀(l:List Bl) (i:Nat),(jV i l).length=l.length
 | [],i=>rfl
 | y::l,i=>by simp only[jV,List.length_cons,su l (i+1)]
structure Its where
 l:List It
 Z:HP
theorem FX(A:HP)(v:Value)(l:List Bl)(hv:Vw A v l.length (l.flatMap bH))(hlen:l.length≤1000000) :
    aD Tryz.prog 182 [Tv v] [A] (fun r H=>(ig l≠0∧r = .tuple #[.slice none 0 0,.int .i64 (ig l:Int)]∧H=[A]) ∨
      ∃rv,ig l=0∧r = .tuple #[rv,.int .i64 0]∧H=[aF 5 1 rv (Ag l).length (bV (Ag l)),A]):=by
  have TW:=CV A v l hv hlen
  obtain⟨a,c,rfl⟩:=hv.shape
  unfold Tv at TW ⊢
  refine aD.aw Tryz.func182 Tryz.ntmps182 fun G F R hE=>?_
  refine aB rfl ?_
  refine bG zr zr bE ?_
  intro b1
  refine go ?_
  refine aH (U:=aR) (l:=[.slice a l.length c]) 0 zr zr zr zr zr zr ?_
  refine aN TW ?_
  refine go ?_
  refine au zr zr ?_ ?_
  · intro df
    have jK:ig l≠0:=by omega
    refine go ?_
    refine ad hE Tryz.func182 zr zr (.inl ⟨jK,rfl,rfl⟩)
  intro heq
  have h0:ig l=0:=by omega
  obtain⟨af1,Gl,zO⟩:=pG h0
  refine go ?_
  refine ai (ak.trans (ak.bX [] _) (bK 192 2 none _)) ?_
  refine bB (fun y:Nat × Its × Option Addr × Nat=>y.1≤l.length∧y.2.1.l.map It.p=jV 0 (l.take y.1)∧∀z∈y.2.1.l,eO y.2.1.Z z.v z.b) (fun y=>l.length-y.1)
    (fun y=>[(1,ptr b1),(5,.slice y.2.2.1 y.2.1.l.length y.2.2.2),(18,.slice a l.length c),(19,.int .i64 (l.length:Int)),(20,.int .i64 (y.1:Int))])
    (fun y=>aF 192 2 (.slice y.2.2.1 y.2.1.l.length y.2.2.2) y.2.1.l.length (y.2.1.l.flatMap my)::y.2.1.Z::A::F) (0,⟨[],Sep []⟩,none,0) ⟨Nat.zero_le _,rfl,by simp⟩ rfl ck ah ?_
  rintro⟨i,⟨fX,Z⟩,ia,ic⟩⟨hi,rW,xO⟩ ih
  simp only at hi rW xO
  dsimp only
  have acY:fX.length=i:=by
    grind [su]
  refine go ?_
  refine au zr zr ?_ ?_
  · intro dJ
    have gz:i<l.length:=by omega
    obtain⟨x,hx⟩:∃x,l[i]?=some x:=⟨l[i],by simp⟩
    have hxr:=zO x (List.mem_of_getElem? hx)
    have ad9:=hxr
    simp only[bI,decide_eq_true_eq]at ad9
    obtain⟨sz,iY⟩:∃m:Nat,x.size=m:=⟨x.size.toNat,ag⟩
    obtain⟨pc,ys⟩:∃m:Nat,x.piece=m:=⟨x.piece.toNat,ag⟩
    obtain⟨b,o,gZ,fL⟩:=hv.some (aaq gz)
    simp only[Value.slice.injEq]at fL
    obtain⟨rfl,_,rfl⟩:=fL
    refine go ?_
    refine bZ i 66 zr zr zr zr zr zr zr zr gz ?_
    refine aK ?_
    refine cI (U:=aR) (es:=bH x) 2 (i*66) zr zr zr hv rfl (SH hx) zr zr zr ?_
    refine aC zr zr zr bE ?_
    intro b7
    refine go ?_
    refine aG (fun w=>Sat G w ([ae b7 (cl (bH x) 39)])) (dj 0 3 (dj 4 3 (.act 3 (.act 7 (.st 8 (.st 9 .nil)))))) rfl aq aq aq eo ?_
    refine go ?_
    refine az 27 ((.int .u64 (sz:Int))) rfl ((congrArg (Value.int .u64) iY)) ?_
    refine az 31 ((.int .u64 (pc:Int))) rfl ((congrArg (Value.int .u64) ys)) ?_
    refine dy (nc sz ag) ?_
    rintro r8 _ rfl
    refine dy (nc pc ag) ?_
    rintro r9 _ rfl
    refine aP 0 rfl ?_
    rintro a9 c9 rfl
    refine aP 1 rfl ?_
    rintro a8 c8 rfl
    refine gX (bs:=uv pc) 0 rfl ?_
    intro hb9
    refine gX (bs:=uv sz) 1 rfl ?_
    intro O0
    refine go ?_
    obtain⟨Sp,Q7⟩:∃Sp:List It,Sp=[⟨1,.slice (some ⟨b7,0,none⟩) 32 32,x.d.bs⟩,⟨2,.slice a8 (uv sz).length c8,uv sz⟩,⟨3,.slice a9 (uv pc).length c9,uv pc⟩,⟨4,.slice (some ⟨b7,34,none⟩) 32 32,x.root.bs⟩]:=⟨_,rfl⟩
    have hp4:Sp.map It.p=eu x:=by rw[Q7];simp only[eu,List.map_cons,List.map_nil,It.p,iY,ys,Int.toNat_natCast]
    have Ew:=zK x hxr
    refine aG (fun w=>Sat G w ([])) (dj 0 10 (.act 10 (.act 11 (dj 12 5 .nil)))) rfl aq aq aq eo ?_
    (repeat(first|refine eZ ?_|refine iW (U:=aR) zr zr zr zr zr ?_))
    refine ao (cs:=Sp.flatMap my) zr zr zr zr zr zr zr zr (by rw[Q7];rfl) (fun _ _ hw=>hw.cL ah) ?_
    intro row
    have h4:Sp.length=4:=by rw[Q7];rfl
    have Ue:vD (Sep [ae row (cl (Sp.flatMap my) 192),ae b7 (cl (bH x) 39),aF 5 1 (.slice a8 (uv sz).length c8) (uv sz).length (bV (uv sz)),aF 5 1 (.slice a9 (uv pc).length c9) (uv pc).length (bV (uv pc))]) (.slice (some ⟨row,0,none⟩) 4 4) Sp:=by
      refine⟨?_,fun y hy=>?_⟩
      · rw[h4]
        exact(Vw.ae (by rw[List.drop_zero,List.take_length])).mono (aY (i:=0) rfl)
      · rw[Q7]at hy
        simp only[List.mem_cons,List.not_mem_nil,or_false]at hy
        rcases hy with rfl|rfl|rfl|rfl
        · exact(eO.Y3 x.d.len (by rw[← dL];exact UD x)).mono (aY (i:=1) rfl)
        · exact O0.mono (aY (i:=2) rfl)
        · exact hb9.mono (aY (i:=3) rfl)
        · exact(eO.Y3 x.root.len (by rw[← dL];exact Rx x)).mono (aY (i:=1) rfl)
    have Gf:fT 0 (Sp.map It.p)=true:=by rw[hp4];simp[eu,fT]
    have Gr:=nW _ _ Sp Ue ag Gf (by rw[hp4];omega)
    rw[hp4]at Gr
    clear Gf Ue hp4 h4
    clear Q7
    refine aJ (ak.trans (ak.pick [0,3,2,1] rfl) (ak.bX [ae row (cl (Sp.flatMap my) 192),ae b7 (cl (bH x) 39),aF 5 1 (.slice a8 (uv sz).length c8) (uv sz).length (bV (uv sz)),aF 5 1 (.slice a9 (uv pc).length c9) (uv pc).length (bV (uv pc))] _)) ?_
    refine dy Gr ?_
    rintro _ _⟨rr,rfl,rfl⟩
    refine aP 0 rfl ?_
    rintro ra rc rfl
    refine gX (bs:=eT (eu x)) 0 rfl ?_
    intro Nn
    refine go ?_
    refine ao (cs:=my ⟨(i:Int)+1,.slice ra (eT (eu x)).length rc,eT (eu x)⟩) zr zr zr zr zr zr zr zr zr bE ?_
    intro SZ
    refine go ?_
    refine aT (mm:=1) (news:=my ⟨(i:Int)+1,.slice ra (eT (eu x)).length rc,eT (eu x)⟩) 3 0 rfl rfl rfl rfl rfl rfl rfl rfl rfl rfl rfl rfl (Vw.ae rfl) rfl (by intro v hv;simp[my]at hv;rcases hv with rfl|rfl <;> rfl) ag (by show(_+_)*32≤_;omega) (fun _=>rfl) bE ?_
    intro v1
    rw[show fX.flatMap my++my (⟨(i:Int)+1,.slice ra (eT (eu x)).length rc,eT (eu x)⟩:It)=(fX++[(⟨(i:Int)+1,.slice ra (eT (eu x)).length rc,eT (eu x)⟩:It)]).flatMap my from by simp,show fX.length+1=(fX++[(⟨(i:Int)+1,.slice ra (eT (eu x)).length rc,eT (eu x)⟩:It)]).length from by simp]
    refine aP 3 rfl ?_
    rintro ja jc rfl
    refine go ?_
    have Q8:(fX++[(⟨(i:Int)+1,.slice ra (eT (eu x)).length rc,eT (eu x)⟩:It)]).map It.p=jV 0 (l.take (i+1)):=by
      rw[List.take_add_one,hx,List.map_append,rW]
      grind [zJ,It.p]
    refine ai (ak.trans (ak.pick [1,4] rfl) (ak.bX [aF 5 1 (.slice ra (eT (eu x)).length rc) (eT (eu x)).length (bV (eT (eu x))),Z] _)) ?_
    refine aM ih (i+1,⟨fX++[(⟨(i:Int)+1,.slice ra (eT (eu x)).length rc,eT (eu x)⟩:It)],Sep [aF 5 1 (.slice ra (eT (eu x)).length rc) (eT (eu x)).length (bV (eT (eu x))),Z]⟩,ja,jc) rfl ⟨by simp only;omega,Q8,fun z hz=>by
      rcases List.mem_append.1 hz with h|h
      · exact(xO z h).mono (aY (i:=1) rfl)
      · rw[List.mem_singleton.1 h];exact Nn.mono (aY (i:=0) rfl)⟩ (by simp only;omega) ck ah
  · intro fO
    have tR:i=l.length:=by omega
    subst tR
    rw[List.take_length]at rW
    have tB:=GN h0
    unfold Ag at tB
    have Gf:=xK l 0 ag
    rw[← rW]at tB Gf
    refine dg 0 rfl ?_
    intro dO
    have Ue:vD (Sep [aF 192 2 (.slice ia fX.length ic) fX.length (fX.flatMap my),Z]) (.slice ia fX.length ic) fX:=⟨dO.mono (aY (i:=0) rfl),fun y hy=>(xO y hy).mono (aY (i:=1) rfl)⟩
    have Gr:=nW _ _ fX Ue ag Gf ag
    have hee:eT (fX.map It.p)=Ag l:=by rw[rW];rfl
    rw[hee]at Gr
    refine go ?_
    refine aJ (ak.bX [_,_] _) ?_
    refine aI Gr ?_
    rintro _ _⟨rr,rfl,rfl⟩
    refine go ?_
    refine ad hE Tryz.func182 zr zr (.inr ⟨rr,h0,rfl,rfl⟩)
def Hl(A:HP)(hK:oZ A)(v:Value)(l:List Bl)(hv:Vw A v l.length (l.flatMap bH))(hlen:l.length≤1000000) :
  aD Tryz.prog 118 [Tv v] [A] (fun r H=>r=(if ig l=0 then .tuple #[dV (zx l),.int .i64 0]else .tuple #[dV Dg.zero,.int .i64 (ig l:Int)])∧H=[A]):=by
 have TW:=FX A v l hv hlen
 obtain⟨a,c,rfl⟩:=hv.shape
 unfold Tv at TW ⊢
 refine aD.aw Tryz.func118 Tryz.ntmps118 fun G F R hE=>?_
 refine aB rfl ?_
 refine bG zr zr bE ?_
 intro b1
 refine aC zr zr zr bE ?_
 intro b2
 refine go ?_
 refine aH (U:=aR) (l:=[.slice a l.length c]) 1 zr zr zr zr zr zr ?_
 refine aI TW ?_
 rintro _ _ (⟨h0,rfl,rfl⟩|⟨rv,h0,rfl,rfl⟩)
 ·rw[if_neg h0]at hE
  refine go ?_
  refine au zr zr ?_ ?_
  case' refine_2=>(intro h;exfalso;omega)
  intro _
  refine go ?_
  refine kK (U:=aR) zr zr zr zr zr (go ?_)
  (refine aZ hE ?_;apply aW (U:=aR) hE Tryz.func118 rfl (ak.refl _);(repeat(first|exact aQ.nil|apply aQ.tmp rfl|apply aQ.agg 1 zr zr zr zr zr));exact⟨rfl,rfl⟩;exact ah)
 ·rw[if_pos h0]at hE
  have tB:=GN h0
  refine gX (bs:=Ag l) 0 rfl ?_
  intro hbe
  refine aJ (ak.bX [_,_] _) (go ?_)
  refine aN (yA _ (hK.mono (aY (H:=[aF 5 1 rv (Ag l).length (bV (Ag l)),A]) (i:=1) rfl)) rv (Ag l) (hbe.mono (aY (i:=0) rfl)) ag) ?_
  refine aJ (ak.cK _ _) (go ?_)
  (refine aZ hE ?_;apply aW (U:=aR) hE Tryz.func118 rfl (ak.refl _);(repeat(first|exact aQ.nil|apply aQ.tmp rfl|apply aQ.agg 2 zr zr zr zr zr));exact⟨rfl,rfl⟩;exact ah)
end Go.Proofs.YthnfckodljbgbaaGreatDoor
