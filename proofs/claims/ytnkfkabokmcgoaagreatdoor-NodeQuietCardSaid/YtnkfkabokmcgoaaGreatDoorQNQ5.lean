import Derived.Test.YtnkfkabokmcgoaaGreatDoorQNQ2
import Derived.Test.YtnkfkabokmcgoaaGreatDoorQNQ3
import Derived.Test.YtnkfkabokmcgoaaGreatDoorQNQ4
import Derived.Laws.StructEq
set_option linter.unusedSimpArgs false
set_option linter.unusedVariables false
set_option maxHeartbeats 1000000
set_option maxRecDepth 20000
set_option linter.defProp false
namespace Go.Proofs.YtnkfkabokmcgoaaGreatDoor
open Go Go.SL
attribute [local irreducible] J K aq Ends ag aI aC bF aW aP a6 aZ bN Sha.chunks Sha.chunk Sha.rounds Sha.sched fg
theorem uZ(A:HP)(v:Value)(b:List UInt8)(hv:fb A v b)(hl:b.length≤1000000000):aq Tryz.prog 217 [v] [A] (fun r H=>H=[aI 5 1 r b.length (bV b),A]):=by
 obtain⟨a,c,rfl,hc⟩:=hv.2
 refine aq.aj Tryz.func217 Tryz.ntmps217 fun G F R hE=>?_
 cases a with
 | none =>
  have hb:b=[]:=by
   obtain⟨a,cap,h1,h2|⟨x,o,h2,_⟩⟩:=hv.1
   ·simpa[bV]using h2
   grind
  subst hb
  refine go ?_
  refine ak (bj 5 1 none _) ?_
  refine aG hE Tryz.func217 rfl _ zr zr ah
 | some a =>
  refine go ?_
  refine al zr zr zr zr zr zr zr zr zr bh ?_
  intro b0
  refine go ?_
  (refine aS (eL 5 1 b0 0 0 [] [] _ rfl (Nat.le_refl _) (by simp)) ?_;refine aO (mm:=(b).length) (news:=bV (b)) 0 1 zr zr zr zr zr zr zr zr zr zr zr zr (hv.1) (by show _=_*1;rw[bJ];omega) (dm _) ai (by show(_+_)*1≤_;omega) (fun _=>rfl) bh ?_;intro vA;rw[Nat.zero_add,List.nil_append];((refine aL 0 rfl ?_));rintro aA cA rfl)
  refine go ?_
  refine aG hE Tryz.func217 rfl _ zr zr ah
theorem zq(A:HP)(hK:pt A)(v:Value)(b:List UInt8)(hv:fb A v b)(hl:b.length≤1000000000) :
    aq Tryz.prog 117 [v] [A] (fun r H=>r=dV (fg b)∧H=[A]):=by
  obtain⟨a,c,rfl,hc⟩:=hv.2
  refine aq.aj Tryz.func117 Tryz.ntmps117 fun G F R hE=>?_
  refine aH rfl ?_
  refine az zr zr zr bh ?_
  intro b2
  refine qE ?_
  refine aH rfl ?_
  refine my (U:=aU) (cs:=wV Sha.start.l) zr zr zr zr zr zr ?_
  refine az zr zr zr bh ?_
  intro b3
  refine fp (U:=aU) (l':=wV Sha.start.l) 0 eW zr zr zr zr (by decide) (oE _) zr zr zr ?_
  refine aS (H':=ag b3 (cl (wV (Sha.chunks Sha.start b 0).l) 321)::ag b2 (cl (dC Dg.zero) 36)::A::F) (by unfold Sha.chunks;exact ah) ?_
  refine go ?_
  refine sx zr zr zr ai ai (by simp only[gm];omega) ?_
  refine go ?_
  refine hG zr zr zr (by simp only[gm];omega) ?_
  refine aD 15 ((.int .i64 ((64*(b.length/64):Nat):Int))) rfl ((congrArg (Value.int .i64) ai)) (go ?_)
  refine bn (fun q:Nat=>q≤b.length/64) (fun q=>b.length/64-q)
    (fun q=>[(0,.slice a b.length c),(2,ptr b2),(3,ptr b3),(4,.int .i64 ((64*(b.length/64):Nat):Int)),(5,.int .i64 ((64*q:Nat):Int))])
    (fun q=>ag b3 (cl (wV (Sha.chunks Sha.start b q).l) 321)::ag b2 (cl (dC Dg.zero) 36)::A::F) 0 (Nat.zero_le _) rfl bQ ah ?_
  rintro q hq ih
  refine go ?_
  refine au zr zr ?_ ?_
  · intro cq
    have hq1:q<b.length/64:=by omega
    have kp:=hv.cut (64*q) ai
    have ki:=Ae A hK _ _ kp (by rw[List.length_drop];omega) (Sha.chunks Sha.start b q)
    have DH:Sha.chunk (Sha.chunks Sha.start b q) (b.drop (64*q))=Sha.chunks Sha.start b (q+1):=by conv=>rhs;unfold Sha.chunks
    rw[DH]at ki
    have VN:∀s:Sha.St,(wV s.l).length=8:=fun s=>rfl
    refine go ?_
    refine aJ (fun w=>Sat G w ([ag b3 (cl (wV (Sha.chunks Sha.start b q).l) 321)])) (cM 0 4 (.act 4 (.act 5 .nil))) rfl ae ae ae cY ?_
    refine go ?_
    refine df (U:=aU) 0 zr zr zr zr zr zr (go ?_)
    refine bu (p:=((64*q:Nat):Int)) (q:=(b.length:Int)) zr zr zr zr zr zr zr ai ai (.inl rfl) ?_
    refine aD 24 ((.slice (sliceAt a c (64*q) 1) (b.length-64*q) (c-64*q))) rfl (rfl) ?_
    refine bP ki ?_
    unfold WG
    refine aY ?_
    refine fp (U:=aU) 1 eW rfl rfl rfl rfl (by intro e;have:=congrArg List.length e;rw[VN]at this;cases this) (oE _) rfl (by rw[VN,VN]) rfl ?_
    refine go ?_
    refine aV 5 ((.int .i64 ((64*(q+1):Nat):Int))) rfl ((congrArg (Value.int .i64) ai)) ?_
    refine aK ih (q+1) rfl ai ai bQ ah
  intro ek
  have hqe:q=b.length/64:=by omega
  subst hqe
  clear ih
  have kp:=hv.cut (64*(b.length/64)) ai
  obtain⟨B1,W5⟩:∃B1,B1=b.drop (64*(b.length/64)):=⟨_,rfl⟩
  have We:B1.length=b.length-64*(b.length/64):=by rw[W5,List.length_drop]
  rw[← W5,← We]at kp
  refine go ?_
  refine bu (p:=((64*(b.length/64):Nat):Int)) (q:=(b.length:Int)) zr zr zr zr zr zr zr ai ai (.inl rfl) ?_
  ((refine aD 28 ((.slice (sliceAt a c (64*(b.length/64)) 1) B1.length (c-64*(b.length/64)))) rfl ((by rw[We];rfl)) ?_))
  refine go ?_
  refine aF (uZ A _ B1 kp ai) ?_
  rintro r _ rfl
  refine aL 0 rfl ?_
  rintro ra rc rfl
  refine go ?_
  (refine al (cs:=bV [(128:UInt8)]) zr zr zr zr zr zr zr zr zr bh ?_;intro bA;refine aO (mm:=1) (news:=bV [(128:UInt8)]) 1 0 zr zr zr zr zr zr zr zr zr zr zr zr (Vw.ag rfl) rfl (dm _) ai (by show(_+_)*1≤_;omega) (fun _=>rfl) bh ?_;intro vA;rw[show bV (B1)++bV [(128:UInt8)]=bV ((B1)++[(128:UInt8)])from by simp[bV],show(B1).length+1=((B1)++[(128:UInt8)]).length from(@List.length_append _ (B1) [(128:UInt8)]).symm];((refine aL 1 rfl ?_));rintro aA cA rfl)
  refine go ?_
  obtain⟨z,hz⟩:∃z,z=(119-b.length%64)%64:=⟨_,rfl⟩
  have hz1:(B1.length+1+z)%64=56:=by omega
  have hz2:z<64:=by omega
  have ZZ:B1.length<64:=by omega
  have qY:∀j:Nat,(B1++128::List.replicate j (0:UInt8)).length=B1.length+1+j:=fun j=>by simp;omega
  obtain⟨S1,hS1⟩:∃S1,S1=Sha.chunks Sha.start b (b.length/64):=⟨_,rfl⟩
  rw[← hS1]
  refine bn (fun y:Nat × Option Addr × Nat=>y.1≤z) (fun y=>z-y.1)
    (fun y=>[(0,.slice a b.length c),(2,ptr b2),(3,ptr b3),(6,.slice y.2.1 (B1++128::List.replicate y.1 (0:UInt8)).length y.2.2)])
    (fun y=>aI 5 1 (.slice y.2.1 (B1++128::List.replicate y.1 (0:UInt8)).length y.2.2) (B1++128::List.replicate y.1 (0:UInt8)).length (bV (B1++128::List.replicate y.1 (0:UInt8)))::A::ag b3 (cl (wV S1.l) 321)::ag b2 (cl (dC Dg.zero) 36)::F) (0,aA,cA) (Nat.zero_le _) rfl bQ ah ?_
  rintro⟨j,a2,c2⟩ hj ih
  simp only at hj
  have Kq:=qY j
  dsimp only
  refine go ?_
  refine sw zr zr zr ai ai (go ?_)
  refine au zr zr ?_ ?_
  · intro fy
    have hjz : j < z := by rcases Nat.lt_or_ge j z with h | h; exact h; exfalso; apply fy; rw [Kq]; have : j = z := by omega
                           subst this;omega
    refine go ?_
    (refine al (cs:=bV [(0:UInt8)]) zr zr zr zr zr zr zr zr zr bh ?_;intro bA;refine aO (mm:=1) (news:=bV [(0:UInt8)]) 1 0 zr zr zr zr zr zr zr zr zr zr zr zr (Vw.ag rfl) rfl (dm _) (by(rw[Kq];omega)) (by show(_+_)*1≤_;(rw[Kq];omega)) (fun _=>rfl) bh ?_;intro vA;rw[show bV ((B1++128::List.replicate j (0:UInt8)))++bV [(0:UInt8)]=bV (((B1++128::List.replicate j (0:UInt8)))++[(0:UInt8)])from by simp[bV],show((B1++128::List.replicate j (0:UInt8))).length+1=(((B1++128::List.replicate j (0:UInt8)))++[(0:UInt8)]).length from(@List.length_append _ ((B1++128::List.replicate j (0:UInt8))) [(0:UInt8)]).symm];((refine aL 1 rfl ?_));rintro aA cA rfl)
    rw[show B1++128::List.replicate j (0:UInt8)++[0]=B1++128::List.replicate (j+1) (0:UInt8)from by rw[List.replicate_succ'];simp]
    refine go ?_
    refine aK ih (j+1,aA,cA) rfl (by simp only;omega) (by simp only;omega) bQ ah
  intro heq
  have hjz:j=z:=by
    grind
  subst hjz
  clear ih
  obtain⟨T0,ZT⟩:∃T0,T0=B1++128::List.replicate j (0:UInt8):=⟨_,rfl⟩
  rw[← ZT]at Kq ⊢
  have hl3:∀i:Nat,i≤8→(T0++(Sha.xY (8*b.length)).take i).length=T0.length+i:=fun i hi=>by
    rw[List.length_append,List.length_take];simp only[Sha.xY,List.length_map,List.length_range];omega
  refine go ?_
  refine bn (fun y:Nat × Option Addr × Nat=>y.1≤8) (fun y=>8-y.1)
    (fun y=>[(0,.slice a b.length c),(2,ptr b2),(3,ptr b3),(6,.slice y.2.1 (T0++(Sha.xY (8*b.length)).take y.1).length y.2.2),(39,.int .i64 (y.1:Int))])
    (fun y=>aI 5 1 (.slice y.2.1 (T0++(Sha.xY (8*b.length)).take y.1).length y.2.2) (T0++(Sha.xY (8*b.length)).take y.1).length (bV (T0++(Sha.xY (8*b.length)).take y.1))::A::ag b3 (cl (wV S1.l) 321)::ag b2 (cl (dC Dg.zero) 36)::F) (0,a2,c2) (Nat.zero_le _) rfl (by simp only[List.take_zero,List.append_nil];exact bQ) (by simp only[List.take_zero,List.append_nil];exact ah) ?_
  rintro⟨i,a3,c3⟩ hi ih
  simp only at hi
  have LZ:=hl3 i hi
  dsimp only
  refine go ?_
  refine au zr zr ?_ ?_
  · intro cq
    have hi8:i<8:=by omega
    have ZQ:(Sha.xY (8*b.length)).take (i+1)=(Sha.xY (8*b.length)).take i++[UInt8.ofNat (8*b.length/2 ^ (56-8*i))]:=by
      rw[List.take_add_one];simp[Sha.xY,hi8]
    refine go ?_
    refine nZ zr zr zr ai ?_
    refine aD 46 ((.int .u64 ((8*b.length:Nat):Int))) rfl ((wW (x:=b.length) (q:=3) ai ai ai)) (go ?_)
    refine hG zr zr zr (by simp only[gm];omega) ?_
    refine go ?_
    refine aD 49 ((.int .i64 ((56-8*i:Nat):Int))) rfl ((congrArg (Value.int .i64) ai)) ?_
    refine iA zr zr zr ai ?_
    ((refine aD 50 ((.int .u64 ((8*b.length/2 ^ (56-8*i):Nat):Int))) rfl ((congrArg (Value.int .u64) (by rw[Int.toNat_natCast,show min (56-8*i) IntKind.u64.bits=56-8*i from by show min (56-8*i) 64=_;omega];simp))) ?_))
    refine gF ?_
    refine jO zr zr zr zr zr zr ?_
    refine aD 51 ((u8 (UInt8.ofNat (8*b.length/2 ^ (56-8*i))))) rfl ((me _)) ?_
    (refine al (cs:=bV [(UInt8.ofNat (8*b.length/2 ^ (56-8*i)))]) zr zr zr zr zr zr zr zr zr bh ?_;intro bA;refine aO (mm:=1) (news:=bV [(UInt8.ofNat (8*b.length/2 ^ (56-8*i)))]) 1 0 zr zr zr zr zr zr zr zr zr zr zr zr (Vw.ag rfl) rfl (dm _) (by(rw[LZ];omega)) (by show(_+_)*1≤_;(rw[LZ];omega)) (fun _=>rfl) bh ?_;intro vA;rw[show bV ((T0++(Sha.xY (8*b.length)).take i))++bV [(UInt8.ofNat (8*b.length/2 ^ (56-8*i)))]=bV (((T0++(Sha.xY (8*b.length)).take i))++[(UInt8.ofNat (8*b.length/2 ^ (56-8*i)))])from by simp[bV],show((T0++(Sha.xY (8*b.length)).take i)).length+1=(((T0++(Sha.xY (8*b.length)).take i))++[(UInt8.ofNat (8*b.length/2 ^ (56-8*i)))]).length from(@List.length_append _ ((T0++(Sha.xY (8*b.length)).take i)) [(UInt8.ofNat (8*b.length/2 ^ (56-8*i)))]).symm];((refine aL 1 rfl ?_));rintro aA cA rfl)
    rw[show T0++(Sha.xY (8*b.length)).take i++[UInt8.ofNat (8*b.length/2 ^ (56-8*i))]=T0++(Sha.xY (8*b.length)).take (i+1)from by rw[ZQ,List.append_assoc]]
    refine go ?_
    refine aK ih (i+1,aA,cA) rfl (by simp only;omega) (by simp only;omega) bQ ah
  intro ek
  have hi8:i=8:=by omega
  subst hi8
  clear ih
  have Ko:=Sha.F8 b
  rw[← hS1,← W5]at Ko
  have Y':B1++Sha.pad b.length=T0++(Sha.xY (8*b.length)).take 8:=by
    rw[ZT,List.take_of_length_le (by simp[Sha.xY])]
    unfold Sha.pad
    grind
  rw[Y']at Ko
  generalize T0++(Sha.xY (8*b.length)).take 8=T at LZ Ko ⊢
  have acx:T.length%64=0:=by omega
  have hTl:T.length≤1000000200:=by omega
  clear Kq hl3 Y' ZT qY W5 We kp hz hz1 hz2 ZZ hS1 LZ
  have VN:∀s:Sha.St,(wV s.l).length=8:=fun s=>rfl
  refine vj (bs:=T) 0 rfl ?_
  intro YO
  have aaU:fb (Sep [aI 5 1 (.slice a3 T.length c3) T.length (bV T),A]) (.slice a3 T.length c3) T:=YO.mono (bz (i:=0) rfl)
  have hK2:pt (Sep [aI 5 1 (.slice a3 T.length c3) T.length (bV T),A]):=hK.mono (bz (i:=1) rfl)
  refine ak (ao.cd [_,_] _) (go ?_)
  refine bn (fun q:Nat=>q≤T.length/64) (fun q=>T.length/64-q)
    (fun q=>[(2,ptr b2),(3,ptr b3),(6,.slice a3 T.length c3),(8,.int .i64 ((64*q:Nat):Int))])
    (fun q=>Sep [aI 5 1 (.slice a3 T.length c3) T.length (bV T),A]::ag b3 (cl (wV (Sha.chunks S1 T q).l) 321)::ag b2 (cl (dC Dg.zero) 36)::F) 0 (Nat.zero_le _) rfl bQ (by unfold Sha.chunks;exact ah) ?_
  rintro q hq ih
  refine go ?_
  refine au zr zr ?_ ?_
  · intro cq
    have hq1:q<T.length/64:=by omega
    have kp:=aaU.cut (64*q) ai
    have ki:=Ae _ hK2 _ _ kp (by rw[List.length_drop];omega) (Sha.chunks S1 T q)
    have DH:Sha.chunk (Sha.chunks S1 T q) (T.drop (64*q))=Sha.chunks S1 T (q+1):=by conv=>rhs;unfold Sha.chunks
    rw[DH]at ki
    refine go ?_
    refine aJ (fun w=>Sat G w ([ag b3 (cl (wV (Sha.chunks S1 T q).l) 321)])) (cM 0 4 (.act 4 (.act 5 .nil))) rfl ae ae ae cY ?_
    refine go ?_
    refine df (U:=aU) 0 zr zr zr zr zr zr (go ?_)
    refine bu (p:=((64*q:Nat):Int)) (q:=(T.length:Int)) zr zr zr zr zr zr zr ai ai (.inl rfl) ?_
    refine aD 64 ((.slice (sliceAt a3 c3 (64*q) 1) (T.length-64*q) (c3-64*q))) rfl (rfl) ?_
    refine bP ki ?_
    unfold WG
    refine aY ?_
    refine fp (U:=aU) 1 eW rfl rfl rfl rfl (by intro e;have:=congrArg List.length e;rw[VN]at this;cases this) (oE _) rfl (by rw[VN,VN]) rfl ?_
    refine go ?_
    refine aV 8 ((.int .i64 ((64*(q+1):Nat):Int))) rfl ((congrArg (Value.int .i64) ai)) ?_
    refine aK ih (q+1) rfl ai ai bQ ah
  intro ek
  have hqe:q=T.length/64:=by omega
  subst hqe
  rw[← Ko]
  have sC:(fg b).bs=Sha.out (Sha.chunks Sha.start (Sha.msg b) ((Sha.msg b).length/64)):=Ma b
  clear Ko ih
  generalize Sha.chunks Sha.start (Sha.msg b) ((Sha.msg b).length/64)=S2 at sC ⊢
  refine ak (ao.cX _ _) (go ?_)
  refine az zr zr zr bh ?_
  intro b9
  refine go ?_
  have Zb:=Sha.E0 S2
  have Oh:∀i,i≤32→((Sha.out S2).take i++List.replicate (32-i) (0:UInt8)).length=32:=fun i hi=>by
    grind
  refine bn (fun i:Nat=>i≤32) (fun i=>32-i)
    (fun i=>[(2,ptr b2),(3,ptr b3),(9,ptr b9),(66,.int .i64 (i:Int))])
    (fun i=>ag b9 (cl (bV ((Sha.out S2).take i++List.replicate (32-i) (0:UInt8))) 36)::ag b3 (cl (wV S2.l) 321)::ag b2 (cl (dC Dg.zero) 36)::A::F) 0 (Nat.zero_le _) rfl bQ ah ?_
  rintro i hi ih
  refine go ?_
  refine au zr zr ?_ ?_
  · intro cq
    have y6:i<32:=by omega
    have hq4:(i:Int)/4=((i/4:Nat):Int):=by omega
    have hr4:24-8*((i:Int)%4)=((24-8*(i%4):Nat):Int):=by omega
    have hwg:(wV S2.l)[i/4]?=some (u32 (S2.l.getD (i/4) 0)):=mZ (by rw[List.getD_eq_getElem?_getD,List.getElem?_eq_getElem (show i/4<S2.l.length from by show i/4<8;omega)];rfl)
    have MN:(Sha.out S2)[i]?=some (UInt8.ofNat ((S2.l.getD (i/4) 0) >>> (24-8*(i%4))).toNat):=by simp[Sha.out,y6]
    (repeat(first|refine fq ?_|refine sx zr zr zr ai ai (by simp only[gm];omega) ?_|refine sw zr zr zr ai ai ?_|refine hG zr zr zr (by simp only[gm];omega) ?_|refine iD (U:=aU) (i/4) zr zr zr zr zr zr zr hq4 ai ?_|(refine aT ?_;refine vr (U:=aU) 1 (i/4) zr zr zr (Nat.zero_add _) hwg zr zr ?_)|refine zJ (24-8*(i%4)) zr zr zr hr4 ai ?_|(refine gF ?_;refine H6 (U:=aU) zr zr zr zr zr zr ?_)|refine iD (U:=aU) i zr zr zr zr zr zr zr zr y6 ?_))
    refine aY ?_
    refine kR (U:=aU) 0 eW zr zr zr zr zr zr zr (by rw[bJ,Oh i ai];omega) rfl ?_
    rw[show 0+i=i from Nat.zero_add _,Jm Zb MN]
    refine go ?_
    refine aK ih (i+1) rfl ai ai bQ ah
  intro ek
  have y6:i=32:=by omega
  subst y6
  rw[List.take_of_length_le ai,show 32-32=0 from rfl,List.replicate_zero,List.append_nil,← sC,← eG]
  clear ih Oh Zb sC
  have hd:(dC (fg b)).length=32:=rfl
  have fT:gr (dC (fg b))=true:=by rw[eG];exact lJ _
  have hdv:dV (fg b) = .agg (dC (fg b)).toArray:=rfl
  rw[hdv]at hE
  generalize dC (fg b)=cs at hd fT hE ⊢
  refine go ?_
  refine aM (U:=aU) 0 zr zr zr zr zr hd ?_
  refine fp (U:=aU) 2 eW rfl rfl rfl hd (by intro e;rw[e]at hd;cases hd) fT rfl (by rw[hd];rfl) rfl ?_
  refine go ?_
  refine mq (U:=aU) 2 hE Tryz.func117 zr zr zr zr zr hd rfl ⟨rfl,rfl⟩ ah
end Go.Proofs.YtnkfkabokmcgoaaGreatDoor
namespace Go.SL
open Go
def yy(n:Nat):UInt8:=UInt8.ofNat (if n<10 then 48+n else 87+n)
def jE(c:UInt8):Option Nat:=if 48≤c.toNat∧c.toNat≤57 then some (c.toNat-48)else if 97≤c.toNat∧c.toNat≤102 then some (c.toNat-87)else none
def l8(s:List UInt8)(i:Nat):Nat:=(jE (s.getD i 0)).getD 0
def rJ(d:Dg)(i:Nat):UInt8:=yy (if i%2=0 then(d.at (i/2)).toNat/16 else(d.at (i/2)).toNat%16)
def gx(d:Dg):List UInt8:=(List.range 64).map (rJ d)
theorem lk(d:Dg):(gx d).length=64:=by simp[gx]
def ll(d:Dg){i:Nat}(h:i<64):(gx d)[i]?=some (rJ d i):=by simp[gx,h]
def Cm(s:List UInt8)(i:Nat):List UInt8:=(List.range 32).map fun j=>UInt8.ofNat (if 2*j+1<i then 16*l8 s (2*j)+l8 s (2*j+1)else if 2*j<i then l8 s (2*j)else 0)
theorem kz(s:List UInt8)(i:Nat):(Cm s i).length=32:=by simp[Cm]
theorem pV(s:List UInt8)(i:Nat){j:Nat}(h:j<32):(Cm s i)[j]?=some (UInt8.ofNat (if 2*j+1<i then 16*l8 s (2*j)+l8 s (2*j+1)else if 2*j<i then l8 s (2*j)else 0)):=by simp[Cm,h]
theorem JB(s:List UInt8):Cm s 0=List.replicate 32 0:=by
 apply List.ext_getElem?
 grind [pV,kz]
theorem M6{c:UInt8}{v:Nat}(h:jE c=some v):v<16:=by
 grind [jE]
theorem yY(s:List UInt8)(i:Nat):l8 s i<16:=by
 grind [l8,jE,M6]
def Ky{n:Nat}(h:n<16):jE (yy n)=some n:=by
 have:∀n:Nat,n<16→jE (yy n)=some n:=by decide
 exact this n h
theorem I6{c:UInt8}{v:Nat}(h:jE c=some v):yy v=c:=by
 apply UInt8.toNat.inj
 unfold jE at h
 unfold yy
 simp only[UInt8.toNat_ofNat']
 grind
def ik(s:List UInt8):Option Dg:=if s.length=64∧∀c∈s,jE c≠none then some ⟨Cm s 64,kz s 64⟩else none
theorem sU{s:List UInt8}{i:Nat}{c:UInt8}(h:s[i]?=some c):s.getD i 0=c:=by rw[List.getD_eq_getElem?_getD,h];rfl
def tN(d:Dg)(i:Nat):jE (rJ d i)=some (if i%2=0 then(d.at (i/2)).toNat/16 else(d.at (i/2)).toNat%16):=by
 have:=(d.at (i/2)).toNat_lt
 exact Ky (by split <;> omega)
def Dg.KW(d:Dg){j:Nat}(h:j<32):d.bs[j]?=some (d.at j):=by
 unfold Dg.at
 rw[List.getD_eq_getElem?_getD,List.getElem?_eq_getElem (by rw[d.len];exact h)];rfl
theorem C4(d:Dg):ik (gx d)=some d:=by
  unfold ik
  rw[if_pos ⟨lk d,fun c hc=>by
    obtain⟨i,hi,rfl⟩:=List.mem_map.1 hc
    rw[tN];simp⟩]
  congr 1
  obtain⟨bs,hl⟩:=d
  simp only[Dg.mk.injEq]
  apply List.ext_getElem?
  intro j
  rcases Nat.lt_or_ge j 32 with h|h
  · rw[pV _ _ h,if_pos ai,(⟨bs,hl⟩:Dg).KW h]
    unfold l8
    rw[sU (ll _ (show 2*j<64 by omega)),sU (ll _ (show 2*j+1<64 by omega)),tN,tN]
    simp only[Option.getD_some,Option.some.injEq]
    rw[if_pos ai,if_neg ai,show 2*j/2=j from by omega,show(2*j+1)/2=j from by omega]
    apply UInt8.toNat.inj
    simp only[UInt8.toNat_ofNat']
    have:=((⟨bs,hl⟩:Dg).at j).toNat_lt
    omega
  grind [kz]
theorem Cy{s:List UInt8}{d:Dg}(h:ik s=some d):s=gx d:=by
 unfold ik at h
 split at h
 ·rename_i hs
  cases h
  apply List.ext_getElem?
  intro i
  rcases Nat.lt_or_ge i 64 with hi|hi
  ·rw[ll _ hi]
   obtain⟨c,hc⟩:∃c,s[i]?=some c:=⟨s[i],List.getElem?_eq_getElem ai⟩
   rw[hc]
   congr 1
   obtain⟨v,hv⟩:=Option.ne_none_iff_exists'.1 (hs.2 c (List.mem_of_getElem? hc))
   rw[← I6 hv]
   unfold rJ
   congr 1
   have hat:(Dg.at ⟨Cm s 64,kz s 64⟩ (i/2))=UInt8.ofNat (16*l8 s (2*(i/2))+l8 s (2*(i/2)+1)):=by
    grind [Dg.at,sU,pV]
   rw[hat]
   have h1:=yY s (2*(i/2))
   have h2:=yY s (2*(i/2)+1)
   have h3:l8 s i=v:=by unfold l8;rw[sU hc,hv];rfl
   simp only[UInt8.toNat_ofNat']
   grind
  grind [lk]
 ·cases h
def dg(kind:List UInt8)(d:Dg):ByteArray:=strOf (kind++gx d)
def gj(kind:List UInt8)(name:ByteArray):Option Dg:=if kind.isPrefixOf name.data.toList then ik (name.data.toList.drop kind.length)else none
theorem tD(l:List UInt8):(strOf l).data.toList=l:=by simp[strOf]
theorem G'{kind:List UInt8}{name:ByteArray}{d:Dg}:gj kind name=some d↔name=dg kind d:=by
 unfold gj dg
 constructor
 ·intro h
  split at h
  ·rename_i hp
   have h2:=Cy h
   obtain⟨t,ht⟩:=List.isPrefixOf_iff_prefix.1 hp
   grind [tE]
  ·cases h
 grind [tD,C4]
end Go.SL
namespace Go.Proofs.YtnkfkabokmcgoaaGreatDoor
open Go Go.SL
def su(A:HP)(v:Value)(ls:List (List UInt8)):Prop:=∃cs:List Value,Vw A v ls.length cs∧cs.length=ls.length∧(∃a c,v = .slice a ls.length c∧ls.length≤c)∧∀(i:Nat) (x:List UInt8),ls[i]?=some x→∃cv,cs[i]?=some cv∧fb A cv x
def su.row{X:HP}{b:Nat}{e:TypeId}{n:Nat}{cs:List Value}{ls:List (List UInt8)}(hn:ls.length=n)(hc:cs.length=n)(h:∀(i:Nat) (x:List UInt8),ls[i]?=some x→∃cv,cs[i]?=some cv∧fb X cv x) :
  su (Sep [ag b (cl cs e),X]) (.slice (some ⟨b,0,none⟩) n n) ls:=by
 subst hn
 refine⟨cs,(Vw.ag (by rw[List.drop_zero,List.take_length])).mono (bz (i:=0) rfl),hc,⟨_,_,rfl,Nat.le_refl _⟩,fun i x hx=>?_⟩
 obtain⟨cv,h1,h2⟩:=h i x hx
 exact⟨cv,h1,h2.mono (bz (i:=1) rfl)⟩
end Go.Proofs.YtnkfkabokmcgoaaGreatDoor
namespace Go.SL
open Go
inductive aQ(P:Program)(U:Tr)(L:dS)(H:List HP):List ResultVar→List Value→Prop where
 | nil:aQ P U L H [] []
 | tmp {q:Nat} {u:Value} {rs:List ResultVar} {us:List Value} (hq:cR L q=some u) (h:aQ P U L H rs us):aQ P U L H (.tmp q::rs) (u::us)
 | agg {p b:Nat} {t e:TypeId} {bH:Ty} {cs:List Value} {rs:List ResultVar} {us:List Value} (i:Nat) (hp:cR L p=some (.pointer (some ⟨b,0,none⟩))) (ht:U.get t=some bH) (hg:bH.isAgg=true) (hi:bS H i=some (ag b (cl cs e))) (hl:cs.length=bH.info.size) (h:aQ P U L H rs us):aQ P U L H (.cell p t::rs) (.agg cs.toArray::us)
 | one {p b:Nat} {t e:TypeId} {bH:Ty} {u:Value} {rs:List ResultVar} {us:List Value} (i:Nat) (hp:cR L p=some (.pointer (some ⟨b,0,none⟩))) (ht:U.get t=some bH) (hg:bH.isAgg=false) (hi:bS H i=some (ag b (cl [u] e))) (h:aQ P U L H rs us):aQ P U L H (.cell p t::rs) (u::us)
def aQ.run{P:Program}{U:Tr}[hU:er P U]{n:Nat}{G:bY}{L:dS}{H:List HP}{a:Act}{w:World}(ha:Has n L a)(hw:Sat G w H):∀ {rs us},aQ P U L H rs us→(rs.mapM (yF a.tmps)).run P w = .ok us w:=by
 intro rs us h
 induction h with
 | nil=>simp
 | @tmp q u rs us hq h ih =>
  have g2:a.tmps.getD q undef=u:=by rw[Array.getD_eq_getD_getElem?,ha.2.2 _ _ hq];rfl
  simp only[List.mapM_cons,Sem.run_bind,yF,g2,Sem.run_pure,Result.andThen_ok,ih]
 | @agg p b t e bH cs rs us i hp ht hg hi hl h ih =>
  have hc:∀j v,cs[j]?=some v→w.cell? ⟨b,0+j,none⟩=some v:=fun j v hj=>by rw[cH (hw.qa hi),Nat.zero_add];exact hj
  have MT:=fK (P:=P) (w:=w) ht hg hl hc
  have VL:(loadVar t ⟨b,0,none⟩).run P w = .ok (.agg cs.toArray) w:=by simpa[Instr.loadAt,Instr.sureAddr]using MT
  have g1:a.tmps.getD p undef = .pointer (some ⟨b,0,none⟩):=by simp[Array.getD_eq_getD_getElem?,ha.2.2 p _ hp]
  simp only[List.mapM_cons,Sem.run_bind,yF,g1,asAddr,Sem.run_pure,Result.andThen_ok,VL,ih]
 | @one p b t e bH u rs us i hp ht hg hi h ih =>
  have g1:=tR (P:=P) i ha hw hp ht hg hi
  simp_all
def a7{P:Program}{U:Tr}[hU:er P U]{f:FuncId}{n:Nat}{R:Ending→World→Prop}{G:bY}{ds:List Nat}{k k0:List Item}{L:dS}{H H':List HP}{fn:Func}{F:List HP}{Post:Value→List HP→Prop}{us:List Value}{Hq:List HP}(hR:Ends R G F Post)(hf:P.funcs[f]?=some fn)(hk:fz 1000 k0 = .mk (.code .ret::k))(he:ao H (ds.map (fun r=>ag r (.deferred (some [])))++H'))(hr:aQ P U L H' fn.results.toList us)(dE:Post (dz us) Hq)(Fl:ao H' (Hq++F)):K P f n R { G with ds:=ds } k0 L H:=by
 refine Lk hR hf hk he (fun a w ha hw=>?_) dE Fl
 have h1:=hr.run (P:=P) ha hw
 rw[lV,Array.mapM_eq_mapM_toList]
 simp only[Sem.run_bind,Sem.run_map,h1,Sem.run_pure,Result.andThen_ok]
 match us with
 | []=>simp[dz]
 | [v]=>simp[dz]
 | v::u::vs=>simp[dz]
section
variable{P:Program}{U:Tr}[hU:er P U]{f:FuncId}{n:Nat}{R:Ending→World→Prop}{G:bY}{k:List Item}{L:dS}{H H':List HP}{S:World→Prop}{all:Array Oper}{rest:Pl}{ty:TypeId}{pos:String}{af:Array Edge}{gd:Option (Nat × Bool)}{m:Bool}{d:Tmp}
end
end Go.SL
namespace Go.Proofs.YtnkfkabokmcgoaaGreatDoor
open Go Go.SL
attribute [local irreducible] J K aq Ends ag aI aC bF aW aP a6 aZ bN Sha.chunks Sha.chunk Sha.rounds Sha.sched fg
def AG{tag:UInt8}{ps:List (List UInt8)}{i:Nat}{p:List UInt8}(h:ps[i]?=some p):eS tag (ps.take (i+1))=eS tag (ps.take i)++(qA p.length++p):=by
 unfold eS
 rw[List.take_add_one,h]
 simp
theorem Gn(tag:UInt8)(ps:List (List UInt8))(i:Nat):(eS tag (ps.take i)).length≤(eS tag ps).length:=by
 conv=>rhs;rw[← List.take_append_drop i ps]
 grind [eS]
theorem yM(tag:UInt8)(ps:List (List UInt8)):ps.length≤(eS tag ps).length:=by
 unfold eS
 induction ps with
 | nil=>simp
 | cons p ps ih =>
  grind [qA]
def MB(n:Nat):(qA n).length=8:=by simp[qA]
def J2{n i:Nat}(h:i<8):(qA n).take (i+1)=(qA n).take i++[UInt8.ofNat (n/2 ^ (8*i))]:=by
 rw[List.take_add_one];simp[qA,h]
theorem vd(A:HP)(hK:pt A)(tag:UInt8)(v:Value)(ps:List (List UInt8))(hv:su A v ps)(hl:(eS tag ps).length≤1000000000) :
  aq Tryz.prog 329 [u8 tag,v] [A] (fun r H=>r=dV (cD tag ps)∧H=[A]):=by
 obtain⟨cs,dt,mF,⟨a,c,rfl,hc⟩,pn⟩:=hv
 have acu:=yM tag ps
 refine aq.aj Tryz.func329 Tryz.ntmps329 fun G F R hE=>?_
 refine aH rfl ?_
 refine az zr zr zr bh ?_
 intro b4
 refine qE ?_
 refine aH rfl ?_
 refine qE ?_
 refine al (cs:=bV [tag]) zr zr zr zr zr zr zr zr zr bh ?_
 intro b0
 refine go ?_
 refine ak (eL 5 1 b0 1 1 (bV [tag]) [] _ rfl (Nat.le_refl _) (by simp[bV])) ?_
 refine bn (fun y:Nat × Option Addr × Nat=>y.1≤ps.length) (fun y=>ps.length-y.1)
  (fun y=>[(4,ptr b4),(11,.slice a ps.length c),(12,.int .i64 (ps.length:Int)),(13,.int .i64 (y.1:Int)),(5,.slice y.2.1 (eS tag (ps.take y.1)).length y.2.2)])
  (fun y=>aI 5 1 (.slice y.2.1 (eS tag (ps.take y.1)).length y.2.2) (eS tag (ps.take y.1)).length (bV (eS tag (ps.take y.1)))::A::ag b4 (cl (dC Dg.zero) 36)::F) (0,some ⟨b0,0,none⟩,1) (Nat.zero_le _) rfl bQ ah ?_
 rintro⟨i,a1,c1⟩ hi ih
 refine go ?_
 refine au zr zr ?_ ?_
 ·intro cq
  have ko:i<ps.length:=by omega
  obtain⟨p,hp⟩:∃p,ps[i]?=some p:=⟨ps[i],List.getElem?_eq_getElem ko⟩
  obtain⟨cv,q4,hb⟩:=pn i p hp
  obtain⟨b1,o1,c0,vL⟩:=dt.some (by intro h;rw[h]at q4;simp at q4)
  obtain⟨rfl,-,rfl⟩:=vL
  have ki:=AG (tag:=tag) hp
  have hle:=Gn tag ps (i+1)
  have abZ:=MB p.length
  rw[ki]at hle
  simp only[List.length_append]at hle
  obtain⟨T0,ZT⟩:∃T0,T0=eS tag (ps.take i):=⟨_,rfl⟩
  rw[← ZT]at ki hle ⊢
  obtain⟨ax,cx,rfl,hcx⟩:=hb.2
  have hl3:∀j:Nat,j≤8→(T0++(qA p.length).take j).length=T0.length+j:=fun j hj=>by
   grind
  refine go ?_
  refine bC i zr zr zr zr zr zr zr zr ko ?_
  refine aT ?_
  refine aN 1 i zr zr zr dt rfl q4 zr zr (go ?_)
  refine bn (fun y:Nat × Option Addr × Nat=>y.1≤8) (fun y=>8-y.1)
   (fun y=>[(4,ptr b4),(7,.slice ax p.length cx),(11,.slice (some ⟨b1,o1,none⟩) ps.length c),(12,.int .i64 (ps.length:Int)),(13,.int .i64 (i:Int)),(5,.slice y.2.1 (T0++(qA p.length).take y.1).length y.2.2),(17,.int .i64 (y.1:Int))])
   (fun y=>aI 5 1 (.slice y.2.1 (T0++(qA p.length).take y.1).length y.2.2) (T0++(qA p.length).take y.1).length (bV (T0++(qA p.length).take y.1))::A::ag b4 (cl (dC Dg.zero) 36)::F) (0,a1,c1) (Nat.zero_le _) rfl (by simp only[List.take_zero,List.append_nil];exact bQ) (by simp only[List.take_zero,List.append_nil];exact ah) ?_
  rintro⟨j,a2,c2⟩ hj ih2
  have Kq:=hl3 j hj
  refine go ?_
  refine au zr zr ?_ ?_
  ·intro hj8
   have abr:j<8:=by omega
   have htj:=J2 (n:=p.length) abr
   refine go ?_
   refine hG zr zr zr (by simp only[gm];omega) ?_
   refine aD 25 ((.int .i64 ((8*j:Nat):Int))) rfl ((congrArg (Value.int .i64) ai)) ?_
   refine iA zr zr zr ai ?_
   ((refine aD 26 ((.int .u64 ((p.length/2 ^ (8*j):Nat):Int))) rfl ((congrArg (Value.int .u64) (by rw[Int.toNat_natCast,show min (8*j) IntKind.u64.bits=8*j from by show min (8*j) 64=_;omega];simp))) ?_))
   refine gF ?_
   refine jO zr zr zr zr zr zr ?_
   refine aD 27 ((u8 (UInt8.ofNat (p.length/2 ^ (8*j))))) rfl ((me _)) ?_
   (refine al (cs:=bV [(UInt8.ofNat (p.length/2 ^ (8*j)))]) zr zr zr zr zr zr zr zr zr bh ?_;intro bA;refine aO (mm:=1) (news:=bV [(UInt8.ofNat (p.length/2 ^ (8*j)))]) 1 0 zr zr zr zr zr zr zr zr zr zr zr zr (Vw.ag rfl) rfl (dm _) (by(rw[Kq];omega)) (by show(_+_)*1≤_;(rw[Kq];omega)) (fun _=>rfl) bh ?_;intro vA;rw[show bV ((T0++(qA p.length).take j))++bV [(UInt8.ofNat (p.length/2 ^ (8*j)))]=bV (((T0++(qA p.length).take j))++[(UInt8.ofNat (p.length/2 ^ (8*j)))])from by simp[bV],show((T0++(qA p.length).take j)).length+1=(((T0++(qA p.length).take j))++[(UInt8.ofNat (p.length/2 ^ (8*j)))]).length from(@List.length_append _ ((T0++(qA p.length).take j)) [(UInt8.ofNat (p.length/2 ^ (8*j)))]).symm];((refine aL 1 rfl ?_));rintro aA cA rfl)
   rw[show T0++(qA p.length).take j++[UInt8.ofNat (p.length/2 ^ (8*j))]=T0++(qA p.length).take (j+1)from by rw[htj,List.append_assoc]]
   refine go ?_
   refine aK ih2 (j+1,aA,cA) rfl ai ai bQ ah
  intro ek
  rw[List.take_of_length_le ai]at Kq ⊢
  refine go ?_
  (refine aO (mm:=(p).length) (news:=bV (p)) 0 1 zr zr zr zr zr zr zr zr zr zr zr zr (hb.1) (by show _=_*1;rw[bJ];omega) (dm _) (by(rw[Kq];omega)) (by show(_+_)*1≤_;(rw[Kq];omega)) (fun _=>rfl) bh ?_;intro vA;rw[show bV ((T0++qA p.length))++bV (p)=bV (((T0++qA p.length))++(p))from by simp[bV],show((T0++qA p.length)).length+(p).length=(((T0++qA p.length))++(p)).length from(@List.length_append _ ((T0++qA p.length)) (p)).symm];((refine aL 0 rfl ?_));rintro aA cA rfl)
  rw[show T0++qA p.length++p=eS tag (ps.take (i+1))from by rw[ki,List.append_assoc]]
  refine go ?_
  refine aK ih (i+1,aA,cA) rfl ai ai bQ ah
 intro ek
 have dq:i=ps.length:=by omega
 subst dq
 rw[List.take_length]
 refine vj (bs:=eS tag ps) 0 rfl ?_
 intro YO
 refine ak (ao.cd [_,_] _) (go ?_)
 refine aw (zq _ (hK.mono (bz (i:=1) rfl)) _ (eS tag ps) (YO.mono (bz (i:=0) rfl)) hl) ?_
 refine aS (ao.cX _ _) (go ?_)
 refine mq (U:=aU) 2 hE Tryz.func329 zr zr zr zr zr zr zr ⟨rfl,rfl⟩ ah
theorem K1(x:Nat)(hx:x<256):IntKind.u8.wrap ((BitVec.ofInt IntKind.u8.bits (x:Int) &&& BitVec.ofInt IntKind.u8.bits 15).toNat:Int)=((x%16:Nat):Int):=by
 have e2:(BitVec.ofInt IntKind.u8.bits (15:Int)).toNat=2 ^ 4-1:=by decide
 rw[BitVec.toNat_and,sO hx,e2,Nat.and_two_pow_sub_one_eq_mod]
 grind [cT,gm]
def J9(n:Nat)(h:n<16):rj ⟨#[48,49,50,51,52,53,54,55,56,57,97,98,99,100,101,102]⟩ n=yy n:=by
 have:∀n:Nat,n<16→rj ⟨#[48,49,50,51,52,53,54,55,56,57,97,98,99,100,101,102]⟩ n=yy n:=by decide
 exact this n h
def Cz{d:Dg}{i:Nat}(h:i<32):(gx d).take (2*(i+1))=(gx d).take (2*i)++[yy ((d.at i).toNat/16),yy ((d.at i).toNat%16)]:=by
 have e1:rJ d (2*i)=yy ((d.at i).toNat/16):=by unfold rJ;rw[if_pos ai,show 2*i/2=i from by omega]
 have e2:rJ d (2*i+1)=yy ((d.at i).toNat%16):=by unfold rJ;rw[if_neg ai,show(2*i+1)/2=i from by omega]
 rw[show 2*(i+1)=2*i+1+1 from by omega,List.take_add_one,List.take_add_one,ll d ai,ll d ai,e1,e2]
 simp
def Wm(d:Dg){i:Nat}(h:i<32):(dC d)[i]?=some (u8 (d.at i)):=by
 rw[eG]
 exact u7 (d.KW h)
def K6(d:Dg):aq Tryz.prog 215 [dV d] [] (fun r H=>r = .string (strOf (gx d))∧H=[]):=by
 refine aq.aj Tryz.func215 Tryz.ntmps215 fun G F R hE=>?_
 refine aH rfl ?_
 refine bp zr zr bh ?_
 intro b1
 refine go ?_
 refine gD (p:=0) (q:=64) zr zr zr zr zr zr zr zr zr ai ai (by decide) bh ?_
 intro b3
 refine go ?_
 have abx:=eL 5 1 b3 0 64 [] (List.replicate 64 (u8 0)) (ag b1 (cl (dC d) 36)::F) rfl ai (by rw[List.length_replicate];exact Nat.le_add_left _ _)
 refine aS abx ?_
 refine aM (U:=aU) 1 zr zr zr zr zr zr (go ?_)
 refine bn (fun y:Nat × Option Addr × Nat=>y.1≤32) (fun y=>32-y.1)
  (fun y=>[(3,.slice y.2.1 ((gx d).take (2*y.1)).length y.2.2),(7,dV d),(8,.int .i64 (y.1:Int))])
  (fun y=>aI 5 1 (.slice y.2.1 ((gx d).take (2*y.1)).length y.2.2) ((gx d).take (2*y.1)).length (bV ((gx d).take (2*y.1)))::F) (0,some ⟨b3,0,none⟩,64) (Nat.zero_le _) rfl bQ ah ?_
 rintro⟨i,a1,c1⟩ hi ih
 have hlen:((gx d).take (2*i)).length=2*i:=by rw[List.length_take,lk];omega
 refine go ?_
 refine au zr zr ?_ ?_
 ·intro cq
  have y6:i<32:=by omega
  have hg:=Wm d y6
  have ki:=Cz (d:=d) y6
  have hx:=(d.at i).toNat_lt
  refine go ?_
  refine ez zr zr zr zr zr zr zr zr ai ai (show(dC d).toArray.toList[((i:Nat):Int).toNat]?=some (u8 (d.at i))from by rw[Int.toNat_natCast];exact hg) ?_
  generalize d.at i=x at ki hx
  refine go ?_
  refine aJ (fun w=>Sat G w ([])) (cM 0 7 (.act 7 (.act 8 (.st 9 .nil)))) rfl ae ae ae cY ?_
  refine go ?_
  refine iA zr zr zr ai ?_
  ((refine aD 13 ((.int .u8 ((x.toNat/16:Nat):Int))) rfl ((congrArg (Value.int .u8) (by show(x.toNat:Int)/2 ^ 4=_;omega))) ?_))
  refine px (U:=aU) zr zr zr zr zr ai (by show((x.toNat/16:Nat):Int)<16;omega) ?_
  refine aD 14 ((u8 (yy (x.toNat/16)))) rfl ((congrArg u8 (J9 (x.toNat/16) ai))) (go ?_)
  refine go ?_
  refine aD 16 ((.int .u8 ((x.toNat%16:Nat):Int))) rfl ((congrArg (Value.int .u8) (K1 x.toNat hx))) ?_
  refine px (U:=aU) zr zr zr zr zr ai (by show((x.toNat%16:Nat):Int)<16;omega) ?_
  refine aD 17 ((u8 (yy (x.toNat%16)))) rfl ((congrArg u8 (J9 (x.toNat%16) ai))) ?_
  refine al (cs:=bV [yy (x.toNat/16),yy (x.toNat%16)]) zr zr zr zr zr zr zr zr zr (fun _ _ hw=>hw.cn ah) ?_
  intro bA
  refine aO (mm:=2) (news:=bV [yy (x.toNat/16),yy (x.toNat%16)]) 1 0 zr zr zr zr zr zr zr zr zr zr zr zr (Vw.ag rfl) rfl (dm _) (by rw[hlen];omega) (by show(_+_)*1≤_;rw[hlen];omega) (fun _=>rfl) (fun _ _ hw=>hw.cn ah) ?_
  intro vA
  rw[show bV ((gx d).take (2*i))++bV [yy (x.toNat/16),yy (x.toNat%16)]=bV ((gx d).take (2*(i+1)))from by rw[ki];simp[bV],show((gx d).take (2*i)).length+2=((gx d).take (2*(i+1))).length from by rw[ki,List.length_append];rfl]
  refine aL 1 rfl ?_
  rintro aA cA rfl
  refine go ?_
  refine aK ih (i+1,aA,cA) rfl ai ai bQ ah
 intro ek
 have y6:i=32:=by omega
 subst y6
 refine vj (bs:=gx d) 0 rfl ?_
 intro YO
 refine go ?_
 refine zH (U:=aU) 0 zr zr zr zr zr zr zr zr zr YO.1 (go ?_)
 refine ad hE Tryz.func215 zr zr ⟨rfl,rfl⟩
theorem F0(c:UInt8):aq Tryz.prog 309 [u8 c] [] (fun r H=>r = .tuple #[.int .u8 (((jE c).getD 0:Nat):Int),.bool (jE c).isSome]∧H=[]):=by
 have h1:(48≤c.toNat∧c.toNat≤57)→Value.tuple #[.int .u8 ((c.toNat:Int)-48),.bool true] = .tuple #[.int .u8 (((jE c).getD 0:Nat):Int),.bool (jE c).isSome]:=fun h=>by
  grind [jE]
 have h2:(97≤c.toNat∧c.toNat≤102)→Value.tuple #[.int .u8 ((c.toNat:Int)-97+10),.bool true] = .tuple #[.int .u8 (((jE c).getD 0:Nat):Int),.bool (jE c).isSome]:=fun h=>by
  grind [jE]
 have h3:¬(48≤c.toNat∧c.toNat≤57)∧¬(97≤c.toNat∧c.toNat≤102)→Value.tuple #[.int .u8 0,.bool false] = .tuple #[.int .u8 (((jE c).getD 0:Nat):Int),.bool (jE c).isSome]:=fun h=>by
  grind [jE]
 refine aq.aj Tryz.func309 Tryz.ntmps309 fun G F R hE=>?_
 repeat'(first|(with_reducible intro iI)|refine fq ?_|refine dw zr zr zr zr ?_ ?_|refine au zr zr ?_ ?_)
 all_goals(first|((refine ad hE Tryz.func309 zr zr ⟨h1 ⟨ai,ai⟩,rfl⟩))|((refine ad hE Tryz.func309 zr zr ⟨h2 ⟨ai,ai⟩,rfl⟩))|((refine ad hE Tryz.func309 zr zr ⟨h3 ai,rfl⟩)))
theorem Mr(s:List UInt8){i:Nat}(h:i<64):(Cm s i)[i/2]?=some (UInt8.ofNat (if i%2=0 then 0 else l8 s (i-1))):=by
 grind [pV]
theorem JC(s:List UInt8){i:Nat}(h:i<64):(Cm s i).set (i/2) (UInt8.ofNat (16*(if i%2=0 then 0 else l8 s (i-1))+l8 s i))=Cm s (i+1):=by
 apply List.ext_getElem?
 grind [kz,pV]
theorem Vc(x y:Nat)(hx:x<16)(hy:y<16):IntKind.u8.wrap ((BitVec.ofInt IntKind.u8.bits ((16*x:Nat):Int) ||| BitVec.ofInt IntKind.u8.bits (y:Int)).toNat:Int)=((16*x+y:Nat):Int):=by
 have h:=yO (a:=y) (c:=x) (k:=4) ai
 grind [sO,cT,gm]
theorem HN(s:ByteArray):aq Tryz.prog 207 [.string s] [] (fun r H=>r=(match ik s.data.toList with
    | some d => .tuple #[dV d,.int .i64 0]
    | none => .tuple #[dV Dg.zero,.int .i64 2])∧H=[]):=by
  obtain⟨l,hl⟩:∃l,l=s.data.toList:=⟨_,rfl⟩
  have iF:s.size=l.length:=by rw[hl];rfl
  rw[← hl]
  refine aq.aj Tryz.func207 Tryz.ntmps207 fun G F R hE=>?_
  refine aH rfl ?_
  refine az zr zr zr bh ?_
  intro b2
  refine qE ?_
  refine aH rfl ?_
  refine az zr zr zr bh ?_
  intro b4
  refine go ?_
  refine au zr zr ?_ ?_
  · intro fy
    have hp:ik l=none:=by unfold ik;rw[if_neg (by intro h;apply fy;rw[iF,h.1];rfl)]
    rw[hp]at hE
    refine aH rfl ?_
    refine aM (U:=aU) 0 zr zr zr zr zr zr (go ?_)
    (refine bg hE ?_;apply a7 (U:=aU) hE Tryz.func207 rfl (ao.refl _);(repeat(first|exact aQ.nil|apply aQ.tmp rfl|apply aQ.agg 1 zr zr zr zr zr));exact⟨rfl,rfl⟩;exact ah)
  intro heq
  have On:l.length=64:=by rw[iF]at heq;omega
  refine go ?_
  ((refine aV 13 ((.int .i64 64)) rfl ((congrArg (Value.int .i64) (by rw[iF];omega))) ?_))
  refine bn (fun i:Nat=>i≤64∧∀j,j<i→jE (l.getD j 0)≠none) (fun i=>64-i)
    (fun i=>[(0,.string s),(2,ptr b2),(3,.int .i64 0),(4,ptr b4),(13,.int .i64 64),(14,.int .i64 (i:Int))])
    (fun i=>ag b4 (cl (bV (Cm l i)) 36)::ag b2 (cl (dC Dg.zero) 36)::F) 0 ⟨Nat.zero_le _,fun j hj=>by omega⟩ rfl bQ (by rw[JB];exact ah) ?_
  rintro i⟨hi,p6⟩ ih
  refine go ?_
  refine au zr zr ?_ ?_
  · intro cq
    have G3:i<64:=by omega
    have hold:=Mr l G3
    have Kn:=JC l G3
    have aaW:=yY l i
    have N1:=yY l (i-1)
    refine go ?_
    refine px (U:=aU) zr zr zr zr zr ai (by rw[iF];omega) ?_
    ((refine aD 20 ((u8 (l.getD i 0))) rfl ((by rw[Int.toNat_natCast];unfold rj;rw[← hl];rfl)) ?_))
    refine go ?_
    refine aw (F0 (l.getD i 0)) ?_
    have hh0:(jE (l.getD i 0)).getD 0=l8 l i:=rfl
    cases hx:jE (l.getD i 0)with
    | none =>
      have hp:ik l=none:=by
        unfold ik;rw[if_neg]
        grind
      rw[hp]at hE
      refine go ?_
      refine gG (U:=aU) zr zr zr zr zr (go ?_)
      (refine bg hE ?_;apply a7 (U:=aU) hE Tryz.func207 rfl (ao.refl _);(repeat(first|exact aQ.nil|apply aQ.tmp rfl|apply aQ.agg 1 zr zr zr zr zr));exact⟨rfl,rfl⟩;exact ah)
    | some v =>
      have hv:v=l8 l i:=by rw[hx]at hh0;exact hh0
      simp only[Option.getD_some]
      rw[hv]
      obtain⟨o,ho⟩:∃o,o=(if i%2=0 then 0 else l8 l (i-1)):=⟨_,rfl⟩
      have abe:o<16:=by rw[ho];split <;> omega
      rw[← ho]at hold Kn
      have hq:(i:Int)/2=((i/2:Nat):Int):=by omega
      refine go ?_
      (repeat(first|refine fq ?_|refine sx zr zr zr ai ai (by simp only[gm];omega) ?_|refine iD (U:=aU) (i/2) zr zr zr zr zr zr zr hq ai ?_|(refine aT ?_;refine vr (U:=aU) 0 (i/2) zr zr zr (Nat.zero_add _) (u7 hold) zr zr ?_)))
      refine nZ zr zr zr ai ?_
      ((refine aD 33 ((.int .u8 ((16*o:Nat):Int))) rfl ((congrArg (Value.int .u8) (by rw[show(UInt8.ofNat o).toNat=o from by rw[UInt8.toNat_ofNat'];omega];exact(cT (by show 0≤(o:Int)*2 ^ 4∧_;simp only[show min ((4:Int).toNat) IntKind.u8.bits=4 from rfl];omega)).trans (by show(o:Int)*2 ^ 4=_;omega)))) ?_))
      refine go ?_
      ((refine aD 35 ((u8 (UInt8.ofNat (16*o+l8 l i)))) rfl ((congrArg (Value.int .u8) (by rw[Vc o (l8 l i) abe aaW,UInt8.toNat_ofNat'];omega))) ?_))
      (repeat((refine iD (U:=aU) (i/2) zr zr zr zr zr zr zr hq ai ?_)))
      refine aY ?_
      refine kR (U:=aU) 0 eW zr zr zr zr zr zr zr (by rw[bJ,kz];omega) rfl ?_
      rw[show 0+i/2=i/2 from Nat.zero_add _,show(bV (Cm l i)).set (i/2) (u8 (UInt8.ofNat (16*o+l8 l i)))=bV (Cm l (i+1))from by rw[← Kn];simp[bV]]
      refine go ?_
      refine aK ih (i+1) rfl ⟨ai,fun j hj=>by
        rcases Nat.lt_or_ge j i with h|h
        · exact p6 j h
        · rw[show j=i from by omega,hx];simp⟩ ai bQ ah
  intro ek
  have G3:i=64:=by omega
  subst G3
  have hp:ik l=some ⟨Cm l 64,kz l 64⟩:=by
    unfold ik
    rw[if_pos ⟨On,fun c hc=>by
      obtain⟨j,hj,rfl⟩:=List.mem_iff_getElem.1 hc
      have:=p6 j ai
      rwa[List.getD_eq_getElem?_getD,List.getElem?_eq_getElem hj]at this⟩]
  rw[hp]at hE
  obtain⟨d,hd⟩:∃d:Dg,d=⟨Cm l 64,kz l 64⟩:=⟨_,rfl⟩
  rw[← hd]at hE
  have hbs:bV (Cm l 64)=dC d:=by rw[eG,hd]
  rw[hbs]
  refine go ?_
  refine aM (U:=aU) 0 zr zr zr zr zr zr (go ?_)
  (refine bg hE ?_;apply a7 (U:=aU) hE Tryz.func207 rfl (ao.refl _);(repeat(first|exact aQ.nil|apply aQ.tmp rfl|apply aQ.agg 1 zr zr zr zr zr));exact⟨rfl,rfl⟩;exact ah)
end Go.Proofs.YtnkfkabokmcgoaaGreatDoor
namespace Go.Proofs.YtnkfkabokmcgoaaGreatDoor
open Go Go.SL
def fR(b:List UInt8):Dg:=cD 0 [b]
def nw(l r:Dg):Dg:=cD 1 [l.bs,r.bs]
structure Bl where
 d:Dg
 size:Int
 piece:Int
 root:Dg
deriving DecidableEq
instance:Inhabited Bl:=⟨⟨Dg.zero,0,0,Dg.zero⟩⟩
def Bl.zero:Bl:=⟨Dg.zero,0,0,Dg.zero⟩
def dY(x:Bl):List Value:=dC x.d++[.int .i64 x.size,.int .i64 x.piece]++dC x.root
def zk(x:Bl):(dY x).length=66:=rfl
def cp(x:Bl):Bool:=decide (1≤x.size∧x.size≤1048576∧16≤x.piece∧x.piece≤16384∧(x.size+x.piece-1)/x.piece≤1024)
def fk(x:Bl):Int:=if cp x then(x.size+x.piece-1)/x.piece else 0
def pN(x:Bl)(i:Int):Option (Int × Int):=if i<0∨fk x≤i then none else some (i*x.piece,min x.piece (x.size-i*x.piece))
def nf:List Bl→Bool
 | []=>false
 | x::l=>l.any (fun y=>decide (y.d=x.d)) || nf l
def fj(l:List Bl):Nat:=if l.length<1∨16<l.length∨l.any (fun x => !cp x)=true then 1 else if nf l then 5 else 0
def cU(x:Bl):List (Int × List UInt8):=[(1,x.d.bs),(2,uv x.size.toNat),(3,uv x.piece.toNat),(4,x.root.bs)]
def gP:Nat→List Bl→List (Int × List UInt8)
 | _,[]=>[]
 | i,x::l=>((i:Int)+1,dM (cU x))::gP (i+1) l
def uO(l:List Bl):List UInt8:=dM (gP 0 l)
def ug(l:List Bl):Dg:=fg (uO l)
def sF(b:List UInt8):Dg:=if h:b.length=32 then⟨b,h⟩else Dg.zero
def kL(b:List UInt8):Option Bl:=match oI b with
 | some [(_,a),(_,s),(_,p),(n,r)]=>if n≠4∨a.length≠32∨r.length≠32 then none else match cO s,cO p with
  | some s,some p=>if 1048576<max s p then none else some ⟨sF a,s,p,sF r⟩
  | _,_=>none
 | _=>none
def gI:Nat→List (Int × List UInt8)→Option (List Bl)
 | _,[]=>some []
 | i,(n,b)::l=>match kL b with
  | some x=>if n≠(i:Int)+1 then none else(gI (i+1) l).map (x::·)
  | none=>none
def uS(b:List UInt8):Option (List Bl):=match oI b with
 | some l=>match gI 0 l with
  | some x=>if fj x=0 then some x else none
  | none=>none
 | none=>none
def EH{n:Nat}(h:n≤1048576):(uv n).length≤3:=tq 2 n ai
def uu(x:Bl)(h:cp x=true):(dM (cU x)).length≤78:=by
 simp only[cp,decide_eq_true_eq]at h
 have h1:=EH (n:=x.size.toNat) ai
 have h2:=EH (n:=x.piece.toNat) ai
 have h3:uv 32=[32]:=by rw[gu ai];rfl
 have h4:(uv (uv x.size.toNat).length).length=1:=by rw[gu ai];rfl
 have h5:(uv (uv x.piece.toNat).length).length=1:=by rw[gu ai];rfl
 simp only[dM,cU,kD,List.flatMap_cons,List.flatMap_nil,List.length_append,List.length_cons,List.length_nil,x.d.len,x.root.len,h3,h4,h5]
 omega
theorem rW:∀(l:List Bl) (i:Nat),i+l.length≤63→ec (i:Int) (gP i l)=true
 | [],i,_=>rfl
 | x::l,i,h=>by
  rw[List.length_cons]at h
  simp only[gP,ec,Bool.and_eq_true,decide_eq_true_eq]
  refine⟨⟨ai,ai⟩,?_⟩
  have:=rW l (i+1) ai
  grind
theorem uq:∀(l:List Bl) (i:Nat),(∀x∈l,cp x=true)→(dM (gP i l)).length≤80*l.length
 | [],i,_=>by simp[gP,dM]
 | x::l,i,h=>by
  have h1:=uu x (h x (List.mem_cons_self ..))
  have h2:=uq l (i+1) fun y hy=>h y (List.mem_cons_of_mem _ hy)
  have h3:(uv (dM (cU x)).length).length=1:=by rw[gu ai];rfl
  grind [dM,gP,kD]
theorem l7{l:List Bl}(h:fj l=0):l.length≤16∧1≤l.length∧∀x∈l,cp x=true:=by
 grind [fj]
theorem Br{l:List Bl}(h:fj l=0):(uO l).length≤1280:=by
 grind [l7,uq,uO]
theorem D1{b:List UInt8}{l:List Bl}(h:uS b=some l):fj l=0:=by
 grind [uS]
attribute [local irreducible] J K aq Ends ag aI aC bF aW aP a6 aZ bN Sha.chunks Sha.chunk Sha.rounds Sha.sched fg cD
def fb.block{b n:Nat}{bs:List UInt8}{l:List Value}{e:TypeId}(hn:bs.length=n)(hl:l=bV bs):fb (ag b (cl l e)) (.slice (some ⟨b,0,none⟩) n n) bs:=by
 subst hn hl
 exact⟨Vw.ag (by rw[List.drop_zero,List.take_length]),_,_,rfl,Nat.le_refl _⟩
def Lh(A:HP)(hK:pt A)(v:Value)(b:List UInt8)(hv:fb A v b)(hl:b.length≤900000000):aq Tryz.prog 244 [v] [A] (fun r H=>r=dV (fR b)∧H=[A]):=by
 obtain⟨a,c,rfl,hc⟩:=hv.2
 refine aq.aj Tryz.func244 Tryz.ntmps244 fun G F R hE=>?_
 refine aH rfl ?_
 refine az zr zr zr bh ?_
 intro b2
 refine qE ?_
 (refine aH rfl ?_;refine qE ?_)
 refine al (cs:=[.slice a b.length c]) zr zr zr zr zr zr zr zr zr bh ?_
 intro b0
 refine aS (ao.trans (ao.pick [0,2] rfl) (ao.cd [_,_] _)) ?_
 ((refine aF (vd (Sep [ag b0 (cl [.slice a b.length c] 38),A]) (hK.mono (bz (i:=1) rfl)) 0 _ [b] (su.row rfl rfl (fun i x hx=>by cases i with|zero=>(simp at hx;subst hx;exact⟨_,rfl,hv⟩)|succ i=>simp at hx)) (by simp[eS,qA];omega)) ?_))
 rintro _ _⟨rfl,rfl⟩
 refine aS (ao.cX _ _) (go ?_)
 (refine bg hE ?_;apply a7 (U:=aU) hE Tryz.func244 rfl (ao.refl _);(repeat(first|exact aQ.nil|apply aQ.agg 2 zr zr zr zr zr));exact⟨rfl,rfl⟩;exact ah)
def BP(A:HP)(hK:pt A)(l r:Dg):aq Tryz.prog 328 [dV l,dV r] [A] (fun x H=>x=dV (nw l r)∧H=[A]):=by
 refine aq.aj Tryz.func328 Tryz.ntmps328 fun G F R hE=>?_
 refine aH rfl ?_
 refine bp zr zr bh ?_
 intro b2
 refine bp zr zr bh ?_
 intro b3
 refine az zr zr zr bh ?_
 intro b4
 refine go ?_
 refine aJ (fun w=>Sat G w ([])) (.st 0 (.st 1 (.act 2 (.act 3 (.act 4 .nil))))) rfl ae ae ae cY ?_
 refine go ?_
 refine iQ (U:=aU) zr zr zr zr zr (go ?_)
 refine iQ (U:=aU) zr zr zr zr zr ?_
 refine al (cs:=[.slice (some ⟨b2,0,none⟩) 32 32,.slice (some ⟨b3,0,none⟩) 32 32]) zr zr zr zr zr zr zr zr zr (fun _ _ hw=>hw.cn ah) ?_
 intro b0
 refine aS (ao.trans (ao.pick [3,2,4] rfl) (ao.trans (ao.cd [_,_,_] _) (ao.trans (ao.pick [1,0] rfl) (ao.cd [_,_] _)))) ?_
 have lE:su (Sep [ag b0 (cl [.slice (some ⟨b2,0,none⟩) 32 32,.slice (some ⟨b3,0,none⟩) 32 32] 38),Sep [ag b2 (cl (dC l) 36),ag b3 (cl (dC r) 36),A] ]) (.slice (some ⟨b0,0,none⟩) 2 2) [l.bs,r.bs]:=by
  refine su.row zr zr (fun i x hx=>?_)
  match i,hx with
  | 0,hx =>
   simp at hx
   subst hx
   exact⟨_,rfl,(fb.block l.len (eG l)).mono (bz (i:=0) rfl)⟩
  | 1,hx =>
   simp at hx
   subst hx
   exact⟨_,rfl,(fb.block r.len (eG r)).mono (bz (i:=1) rfl)⟩
  | i+2,hx=>simp at hx
 have aa2:=vd _ ((hK.mono (bz (H:=[ag b2 (cl (dC l) 36),ag b3 (cl (dC r) 36),A]) (i:=2) rfl)).mono (bz (i:=1) rfl)) 1 _ [l.bs,r.bs] lE (by simp[eS,qA,l.len,r.len])
 refine bP aa2 ?_
 refine aS (ao.trans (ao.cX _ _) (ao.trans (ao.pick [1] rfl) (ao.cX _ _))) (go ?_)
 refine aY ?_
 refine fp (U:=aU) (l':=dC (cD 1 [l.bs,r.bs])) 4 eW rfl rfl rfl rfl (by intro e;cases e) (by rw[eG];exact lJ _) rfl rfl rfl ?_
 refine go ?_
 (refine bg hE ?_;apply a7 (U:=aU) hE Tryz.func328 rfl (ao.refl _);(repeat(first|exact aQ.nil|apply aQ.agg 4 zr zr zr zr zr));exact⟨rfl,rfl⟩;exact ah)
theorem KN(l:List Dg):∀v∈l.flatMap dC,v.oneCell'=true:=by
 grind [eG,dm]
theorem LK(A:HP)(v:Value)(W:List Dg)(hv:Vw A v W.length (W.flatMap dC))(hlen:W.length≤1000000) :
  aq Tryz.prog 290 [v] [A] (fun r H=>H=[aI 36 32 r W.length (W.flatMap dC),A]):=by
 obtain⟨a,c0,rfl⟩:=hv.shape
 cases a with
 | none =>
  have hb:W=[]:=by
   obtain⟨a,cap,h1,h2|⟨b,o,h2,_⟩⟩:=hv
   ·have:=congrArg List.length h2
    rw[bI nP]at this
    exact List.eq_nil_of_length_eq_zero (by simp at this;omega)
   grind
  subst hb
  refine aq.enter Tryz.func290 ae rfl Tryz.ntmps290 zr zr ?_
  intro G F R hR
  refine go ?_
  refine ak (bj 36 32 none _) ?_
  refine aG hR Tryz.func290 rfl _ zr zr (ao.fin [0,1] 0 zr zr)
 | some a =>
  refine aq.enter Tryz.func290 ae rfl Tryz.ntmps290 zr zr ?_
  intro G F R hR
  refine go ?_
  refine al (cs:=[]) zr zr zr zr zr zr zr zr zr bh ?_
  intro b0
  refine go ?_
  refine aS (eL 36 32 b0 0 0 [] [] _ rfl (Nat.le_refl _) (by simp)) ?_
  refine aO (mm:=W.length) (news:=W.flatMap dC) 0 1 zr zr zr zr zr zr zr zr zr zr zr zr hv (by rw[bI nP];rfl) (KN W) ai (by show _*32≤_;omega) (fun _=>rfl) bh ?_
  intro v'
  have e1:(0:Nat)+W.length=W.length:=by omega
  rw[e1,List.nil_append]
  refine go ?_
  refine aG hR Tryz.func290 rfl _ zr zr (ao.fin [0,1] 0 zr zr)
def jB{b o c m m':Nat}(h:0<c)(hm:m'=m):Value.slice (sliceAt (some ⟨b,o,none⟩) c (0:Int).toNat 32) (((m:Nat):Int).toNat-(0:Int).toNat) (c-(0:Int).toNat) = .slice (some ⟨b,o,none⟩) m' c:=by
 subst hm
 unfold sliceAt
 simp[Addr.add]
end Go.Proofs.YtnkfkabokmcgoaaGreatDoor
namespace Go.Proofs.YtnkfkabokmcgoaaGreatDoor
open Go Go.SL
def mH(x:Bl):Value := .agg (dY x).toArray
def GI(bs:Nat)(ks:List Dg):HP:=fun h=>∃v:Value,True∧Sep [ag bs (cl [v] 39),aI 36 32 v ks.length (ks.flatMap dC)] h
attribute [local irreducible] J K aq Ends ag aI aC bF aW aP a6 aZ bN Sha.chunks Sha.chunk Sha.rounds Sha.sched fg cD GI
def xT(s p:Int)(hs:1≤s∧s≤1048576)(hp:1≤p∧p≤16384):aq Tryz.prog 205 [.int .i64 s,.int .i64 p] [] (fun r H=>r = .int .i64 ((s+p-1)/p)∧H=[]):=by
 have h1:0≤(s+p-1)/p:=Int.ediv_nonneg ai ai
 have h2:(s+p-1)/p≤s+p-1:=Int.ediv_le_self _ ai
 refine aq.aj Tryz.func205 Tryz.ntmps205 fun G F R hE=>?_
 refine go ?_
 refine sx zr zr zr ai ai (by simp only[gm];omega) ?_
 refine go ?_
 refine ad hE Tryz.func205 zr zr ⟨rfl,rfl⟩
def oF(x:Bl):aq Tryz.prog 130 [mH x] [] (fun r H=>r = .bool (cp x)∧H=[]):=by
 have hF:¬(1≤x.size∧x.size≤1048576∧16≤x.piece∧x.piece≤16384)→Value.bool false = .bool (cp x):=fun h=>congrArg Value.bool (by unfold cp;rw[decide_eq_false (by rintro⟨a,b,c,e,_⟩;exact h ⟨a,b,c,e⟩)])
 have hT:(1≤x.size∧x.size≤1048576∧16≤x.piece∧x.piece≤16384)→Value.bool (decide ((x.size+x.piece-1)/x.piece≤1024)) = .bool (cp x):=fun h=>congrArg Value.bool (by unfold cp;rw[decide_eq_decide];exact⟨fun g=>⟨h.1,h.2.1,h.2.2.1,h.2.2.2,g⟩,fun g=>g.2.2.2.2⟩)
 unfold mH
 refine aq.aj Tryz.func130 Tryz.ntmps130 fun G F R hE=>?_
 refine aH rfl ?_
 refine bp zr zr bh ?_
 intro b1
 repeat'(first|(with_reducible intro iI)|refine fq ?_|refine dw zr zr zr zr ?_ ?_|(refine aF (xT x.size x.piece ai ai) ?_;rintro _ _⟨rfl,rfl⟩))
 all_goals(first|((refine ad hE Tryz.func130 zr zr ⟨hF ai,rfl⟩))|((refine ad hE Tryz.func130 zr zr ⟨hT ai,rfl⟩)))
def rE(x:Bl):aq Tryz.prog 106 [mH x] [] (fun r H=>r = .int .i64 (fk x)∧H=[]):=by
 unfold mH
 refine aq.aj Tryz.func106 Tryz.ntmps106 fun G F R hE=>?_
 refine aH rfl ?_
 refine bp zr zr bh ?_
 intro b1
 refine go ?_
 refine aM (U:=aU) 0 zr zr zr zr zr zr ?_
 refine aw (oF x) ?_
 cases hr:cp x with
 | false =>
  have hc:fk x=0:=by unfold fk;rw[if_neg (by rw[hr];simp)]
  rw[hc]at hE
  refine go ?_
  refine ad hE Tryz.func106 zr zr ⟨rfl,rfl⟩
 | true =>
  have hc:fk x=(x.size+x.piece-1)/x.piece:=by unfold fk;rw[if_pos hr]
  rw[hc]at hE
  simp only[cp,decide_eq_true_eq]at hr
  refine go ?_
  refine aw (xT x.size x.piece ai ai) ?_
  refine go ?_
  refine ad hE Tryz.func106 zr zr ⟨rfl,rfl⟩
def xU(x:Bl):0≤fk x∧fk x≤1024:=by
 unfold fk
 split
 ·rename_i hr
  simp only[cp,decide_eq_true_eq]at hr
  exact⟨Int.ediv_nonneg ai ai,hr.2.2.2.2⟩
 ·omega
theorem Mf{x:Bl}{i:Int}(h0:0≤i)(h1:i<fk x):cp x=true∧0≤i*x.piece∧i*x.piece<x.size:=by
 unfold fk at h1
 split at h1
 ·rename_i hr
  have Iv:=hr
  simp only[cp,decide_eq_true_eq]at hr
  refine⟨Iv,Int.mul_nonneg h0 ai,?_⟩
  have h2:(i+1)*x.piece≤x.size+x.piece-1:=by
   have:=(Int.le_ediv_iff_mul_le (a:=i+1) (b:=x.size+x.piece-1) (c:=x.piece) ai).1 ai
   exact this
  grind
 ·omega
def BK(x:Bl)(i:Int):aq Tryz.prog 242 [mH x,.int .i64 i] [] (fun r H=>r=(match pN x i with
  | none => .tuple #[.int .i64 0,.int .i64 0,.int .i64 1]
  | some (a,n) => .tuple #[.int .i64 a,.int .i64 n,.int .i64 0])∧H=[]):=by
 unfold mH
 refine aq.aj Tryz.func242 Tryz.ntmps242 fun G F R hE=>?_
 refine aH rfl ?_
 refine bp zr zr bh ?_
 intro b1
 have hN:(i<0∨fk x≤i)→pN x i=none:=fun h=>by unfold pN;rw[if_pos h]
 repeat'(first|(with_reducible intro iI)|refine fq ?_|refine dw zr zr zr zr ?_ ?_|refine au zr zr ?_ ?_|refine aM (U:=aU) 0 zr zr zr zr zr zr ?_|(refine aF (rE x) ?_;rintro _ _⟨rfl,rfl⟩))
 all_goals(first|(rw[hN ai]at hE;((refine ad hE Tryz.func242 zr zr ⟨rfl,rfl⟩)))|skip)
 have hs:pN x i=some (i*x.piece,min x.piece (x.size-i*x.piece)):=by unfold pN;rw[if_neg ai]
 rw[hs]at hE
 obtain⟨hr,A7,hms⟩:=Mf (x:=x) (i:=i) ai ai
 simp only[cp,decide_eq_true_eq]at hr
 obtain⟨q,hq⟩:∃q,q=i*x.piece:=⟨_,rfl⟩
 rw[← hq]at A7 hms hE
 refine aJ (fun w=>Sat G w ([ag b1 (cl (dY x) 107)])) (cM 0 17 .nil) rfl ae ae ae cY ?_
 (repeat(first|refine fq ?_|(refine mu ?_;refine hG zr zr zr (by rw[← hq];simp only[gm];omega) ?_;rw[← hq])))
 refine ad hE Tryz.func242 zr zr ⟨rfl,rfl⟩
end Go.Proofs.YtnkfkabokmcgoaaGreatDoor
namespace Go.SL
open Go
section
variable{P:Program}
theorem sM{t e:TypeId}(hu:P.underlying t=some (.array 32 e))(hc:P.cellsOf t=32)(xs:List Value)(off:Nat)(d:Dg)(h:(xs.drop off).take 32=dC d)(w:World):(part t xs.toArray off).run P w = .ok (dV d) w:=by
 obtain⟨i,hi⟩:=info_of_underlying hu
 have hs:=Go.run_sizeOf w hi
 rw[hc]at hs
 simp only[part,isAgg,Sem.run_bind,Go.run_underlying hu,Result.andThen_ok,Sem.run_pure,if_true,hs]
 have:xs.toArray.extract off (off+32)=(dC d).toArray:=by
  grind
 rw[this]
 rfl
def Gd{t:TypeId}(hu:P.underlying t=some (.int .i64))(a b:Int)(D:Nat)(w:World):(Op.equalIn (D+1) t (.int .i64 a) (.int .i64 b)).run P w = .ok (decide (a=b)) w:=by
 simp only[Op.equalIn,Sem.run_bind,Go.run_underlying hu,Result.andThen_ok,if_true,Sem.run_pure]
 rfl
theorem vN{td ti:TypeId}{f1 f2 f3 f4:Field}(n1:f1.name ≠ "_")(n2:f2.name ≠ "_")(n3:f3.name ≠ "_")(n4:f4.name ≠ "_")(E:Nat)(w:World)(c1 c2:List Value)(d1 d2 r1 r2:Dg)(s1 s2 p1 p2:Int)(eD:∀a b:Dg,(Op.equalIn E td (dV a) (dV b)).run P w = .ok (decide (a=b)) w)(eI:∀a b:Int,(Op.equalIn E ti (.int .i64 a) (.int .i64 b)).run P w = .ok (decide (a=b)) w)(t1:f1.type=td)(t2:f2.type=ti)(t3:f3.type=ti)(t4:f4.type=td)(p01:(part td c1.toArray f1.offset).run P w = .ok (dV d1) w)(p02:(part td c2.toArray f1.offset).run P w = .ok (dV d2) w)(p11:(part ti c1.toArray f2.offset).run P w = .ok (.int .i64 s1) w)(p12:(part ti c2.toArray f2.offset).run P w = .ok (.int .i64 s2) w)(p21:(part ti c1.toArray f3.offset).run P w = .ok (.int .i64 p1) w)(p22:(part ti c2.toArray f3.offset).run P w = .ok (.int .i64 p2) w)(p31:(part td c1.toArray f4.offset).run P w = .ok (dV r1) w)(p32:(part td c2.toArray f4.offset).run P w = .ok (dV r2) w) :
  (Op.eqFields E c1.toArray c2.toArray [f1,f2,f3,f4]).run P w = .ok (decide (d1=d2∧s1=s2∧p1=p2∧r1=r2)) w:=by
 by_cases h1:d1=d2
 ·by_cases h2:s1=s2
  ·by_cases h3:p1=p2
   ·simp[Op.eqFields,n1,n2,n3,n4,t1,t2,t3,t4,p01,p02,p11,p12,p21,p22,p31,p32,eD,eI,h1,h2,h3]
    grind
   ·simp[Op.eqFields,n1,n2,n3,n4,t1,t2,t3,t4,p01,p02,p11,p12,p21,p22,p31,p32,eD,eI,h1,h2,h3]
  ·simp[Op.eqFields,n1,n2,n3,n4,t1,t2,t3,t4,p01,p02,p11,p12,p21,p22,p31,p32,eD,eI,h1,h2]
 ·simp[Op.eqFields,n1,n2,n3,n4,t1,t2,t3,t4,p01,p02,p11,p12,p21,p22,p31,p32,eD,eI,h1]
end
end Go.SL
namespace Go.Proofs.YtnkfkabokmcgoaaGreatDoor
open Go Go.SL
attribute [local irreducible] J K aq Ends ag aI aC bF aW aP a6 aZ bN Sha.chunks Sha.chunk Sha.rounds Sha.sched fg cD GI fR
def Wo(x:Bl):((dY x).drop 0).take 32=dC x.d:=rfl
def Nw(x:Bl):((dY x).drop 34).take 32=dC x.root:=rfl
def aaf(x:Bl):(dY x).toArray[32]?=some (.int .i64 x.size):=rfl
def aae(x:Bl):(dY x).toArray[33]?=some (.int .i64 x.piece):=rfl
def Ws : Tryz.prog.fieldsOf 107 = #[{ name := "Digest", type := 36, offset := 0, embedded := false, tag := "", pkgPath := "", byteOffset := 0 },
        { name := "Size", type:=3,offset:=32,embedded:=false,tag := "", pkgPath := "", byteOffset:=32 },
        { name := "Piece", type:=3,offset:=33,embedded:=false,tag := "", pkgPath := "", byteOffset:=40 },
        { name := "Root", type:=36,offset:=34,embedded:=false,tag := "", pkgPath := "", byteOffset:=48 }]:=by kernel_rfl
def Wr:Tryz.prog.underlying 107=some (.struct (Tryz.prog.fieldsOf 107)):=by kernel_rfl
def Nx:Tryz.prog.stoodInHeld 107=false:=by kernel_rfl
def abQ:Tryz.prog.cellsOf 36=32:=by kernel_rfl
def Wp:Tryz.prog.cellsOf 5=1:=by kernel_rfl
def abP:Tryz.prog.plainKey 3=true:=by kernel_rfl
def abM:Tryz.prog.eqGuardType Tryz.prog.depth 107=false:=by kernel_rfl
def Z9{P : Program}(h1 : P.fieldsOf 107 = #[{ name := "Digest", type := 36, offset := 0, embedded := false, tag := "", pkgPath := "", byteOffset := 0 },
        { name := "Size", type:=3,offset:=32,embedded:=false,tag := "", pkgPath := "", byteOffset:=32 },
        { name := "Piece", type:=3,offset:=33,embedded:=false,tag := "", pkgPath := "", byteOffset:=40 },
        { name := "Root", type:=36,offset:=34,embedded:=false,tag := "", pkgPath := "", byteOffset:=48 }])(h2:P.underlying 107=some (.struct (P.fieldsOf 107)))(h3:P.stoodInHeld 107=false)(h4:P.cellsOf 36=32)(h5:P.cellsOf 5=1)(h6:P.plainKey 3=true)(h7:P.underlying 36=some (.array 32 5))(h8:P.underlying 5=some (.int .u8))(h9:P.underlying 3=some (.int .i64))(x y:Bl)(D:Nat)(w:World) :
    (Op.equalIn (D+2+1) 107 (mH x) (mH y)).run P w = .ok (decide (x=y)) w:=by
  unfold mH
  rw[run_equalIn_struct w (D+2) 107 _ _ h2 h3,h1]
  have h:=vN (P:=P) (td:=36) (ti:=3) (f1:={ name := "Digest", type:=36,offset:=0,embedded:=false,tag := "", pkgPath := "", byteOffset:=0 })
    (f2:={ name := "Size", type:=3,offset:=32,embedded:=false,tag := "", pkgPath := "", byteOffset:=32 }) (f3:={ name := "Piece", type:=3,offset:=33,embedded:=false,tag := "", pkgPath := "", byteOffset:=40 })
    (f4:={ name := "Root", type:=36,offset:=34,embedded:=false,tag := "", pkgPath := "", byteOffset:=48 }) (by decide) (by decide) (by decide) (by decide) (D+2) w (dY x) (dY y) x.d y.d x.root y.root x.size y.size x.piece y.piece
    (fun a b=>lU h7 h8 h5 a b D w) (fun a b=>Gd h9 a b (D+1) w) zr zr zr zr
    (sM h7 h4 _ 0 _ (Wo x) w) (sM h7 h4 _ 0 _ (Wo y) w) (Go.run_part_plain w h6 (aaf x)) (Go.run_part_plain w h6 (aaf y)) (Go.run_part_plain w h6 (aae x)) (Go.run_part_plain w h6 (aae y)) (sM h7 h4 _ 34 _ (Nw x) w) (sM h7 h4 _ 34 _ (Nw y) w)
  refine Eq.trans h ?_
  congr 1
  rw[decide_eq_decide]
  obtain⟨d1,s1,p1,r1⟩:=x
  obtain⟨d2,s2,p2,r2⟩:=y
  simp
def abN(x y:Bl)(w:World):(Op.equal 107 (mH x) (mH y)).run Tryz.prog w = .ok (decide (x=y)) w :=
 Z9 Ws Wr Nx abQ Wp abP Tryz.underlying36 Tryz.underlying5 Tryz.underlying3 x y 9997 w
end Go.Proofs.YtnkfkabokmcgoaaGreatDoor
namespace Go.Proofs.YtnkfkabokmcgoaaGreatDoor
open Go Go.SL
attribute [local irreducible] J K aq Ends ag aI aC bF aW
theorem jh(A:HP)(v:Value)(bs:List UInt8)(hv:Vw A v bs.length (bV bs))(hlen:bs.length≤1000000000) :
  aq Tryz.prog 218 [v] [A] (fun r H=>H=[aI 5 1 r bs.length (bV bs),A]):=by
 obtain⟨a,c0,rfl⟩:=hv.shape
 cases a with
 | none =>
  have hb:bs=[]:=by
   obtain⟨a,cap,h1,h2|⟨b,o,h2,_⟩⟩:=hv
   ·simpa[bV]using h2
   grind
  subst hb
  refine aq.enter Tryz.func218 ae rfl Tryz.ntmps218 zr zr ?_
  intro G F R hR
  refine go ?_
  have he:c0=c0:=rfl
  refine ak (bj 5 1 none _) ?_
  refine aG hR Tryz.func218 rfl _ zr zr (ao.fin [0,1] 0 zr zr)
 | some a =>
  refine aq.enter Tryz.func218 ae rfl Tryz.ntmps218 zr zr ?_
  intro G F R hR
  refine go ?_
  refine al zr zr zr zr zr zr zr zr zr bh ?_
  intro b0
  refine go ?_
  refine aS (eL 5 1 b0 0 0 [] [] _ rfl (Nat.le_refl _) (by simp)) ?_
  refine aO (mm:=bs.length) (news:=bV bs) 0 1 zr zr zr zr zr zr zr zr zr zr zr zr hv (by show _=_*1;rw[bJ];omega) (dm bs) ai (by show _*1≤_;omega) (fun _=>rfl) bh ?_
  intro v'
  have e1:(0:Nat)+bs.length=bs.length:=by omega
  rw[e1,List.nil_append]
  refine go ?_
  refine aG hR Tryz.func218 rfl _ zr zr (ao.fin [0,1] 0 zr zr)
attribute [local irreducible] aP a6 aZ bN
def nX{P:Program}{f:FuncId}{n:Nat}{R:Ending→World→Prop}{G:bY}{k:List Item}{L:dS}{H:List HP}{e:TypeId}{sz nn c:Nat}{a:Option Addr}{cs:List Value}(i:Nat)(hi:bS H i=some (aI e sz (.slice a nn c) nn cs))(h:nn≤c→K P f n R G k L H):K P f n R G k L H :=
 nY fun⟨w,hw⟩=>by
  obtain⟨h1,_,hA⟩:=hw.jG hi
  exact h (EO hA)
theorem kX(X:HP)(v:Value)(l:List It)(hv:qw X v l)(hl:l.length≤100)(hr:ec 0 (l.map It.p)=true)(hs:(dM (l.map It.p)).length≤65536) :
    aq Tryz.prog 276 [v] [X] (fun r H=>∃rv,r = .tuple #[rv,.int .i64 0]∧H=[aI 5 1 rv (dM (l.map It.p)).length (bV (dM (l.map It.p))),X]):=by
  obtain⟨dt,Vr⟩:=hv
  obtain⟨a,c,rfl⟩:=dt.shape
  refine aq.aj Tryz.func276 Tryz.ntmps276 fun G F R hE=>?_
  refine go ?_
  refine ak (bj 5 1 none _) ?_
  refine bn (fun y:Nat × List UInt8 × Option Addr × Nat=>y.1≤l.length∧y.2.1=dM ((l.map It.p).take y.1)) (fun y=>l.length-y.1)
    (fun y=>[(4,.slice y.2.2.1 y.2.1.length y.2.2.2),(5,.int .i64 (mD (l.map It.p) y.1)),(8,.slice a l.length c),(9,.int .i64 (l.length:Int)),(10,.int .i64 (y.1:Int))])
    (fun y=>aI 5 1 (.slice y.2.2.1 y.2.1.length y.2.2.2) y.2.1.length (bV y.2.1)::X::F) (0,[],none,0) ⟨Nat.zero_le _,rfl⟩ rfl bQ ah ?_
  rintro⟨i,acc,a1,c1⟩⟨hi,gh⟩ ih
  simp only at hi gh
  have Wc:=xd (l.map It.p) i
  refine go ?_
  refine au zr zr ?_ ?_
  case' refine_2 =>
    intro ek
    have gR:acc=dM (l.map It.p):=by rw[gh,List.take_of_length_le (by rw[List.length_map];omega)]
    subst gR
    refine go ?_
    refine ad hE Tryz.func276 zr zr ⟨_,rfl,rfl⟩
  intro cq
  have dq:i<l.length:=by omega
  obtain⟨x,hx⟩:∃x,l[i]?=some x:=⟨l[i],by simp⟩
  have LS:(l.map It.p)[i]?=some x.p:=by rw[List.getElem?_map,hx];rfl
  obtain⟨y3,y1⟩:=Jg _ 0 i x.p hr LS
  have y3:mD (l.map It.p) i<x.n:=y3
  have y1:x.n≤63:=y1
  have qY:=um LS
  have y8:=Vr x (List.mem_of_getElem? hx)
  obtain⟨xn,xv,xb⟩:=x
  simp only at y3 y1 y8
  obtain⟨xa,xc,rfl,hxc⟩:=y8.2
  have ht:dM ((l.map It.p).take (i+1))=acc++kD (xn,xb):=by
    rw[List.take_add_one,LS,Option.toList_some,Ay,← gh];simp[dM,It.p]
  have abJ:=xd (l.map It.p) (i+1)
  rw[ht,List.length_append]at abJ
  have G0:(kD (xn,xb)).length=1+(uv xb.length).length+xb.length:=by simp only[kD,List.length_cons,List.length_append];omega
  obtain⟨b,o,c',he⟩:=dt.some (by rw[← List.length_pos_iff,bI gJ];omega)
  obtain⟨rfl,rfl⟩:=he
  refine go ?_
  refine bX i 2 zr zr zr zr zr zr zr zr dq ?_
  refine bW (U:=aU) (es:=jJ ⟨xn,.slice xa xb.length xc,xb⟩) 1 (i*2) zr zr zr dt rfl (fun j v hj=>?_) zr zr zr ?_
  · have vJ:j<2:=by
      grind [gJ]
    rw[ck gJ hx j vJ];exact hj
  refine az zr zr zr bh ?_
  intro bd
  repeat'(first|(with_reducible intro iI)|refine fq ?_|refine dw zr zr zr zr ?_ ?_|refine au zr zr ?_ ?_)
  any_goals (exfalso;simp only at *;omega)
  rename_i h1 h2 h3
  obtain⟨xm,rfl⟩:∃m:Nat,xn=m:=⟨xn.toNat,by
    have:0<xn:=Jf _ 0 hr (Int.le_refl _) _ (List.mem_of_getElem? LS)
    omega⟩
  refine go ?_
  refine aJ (fun w=>Sat G w ([X,ag bd (cl [.int .i64 (xm:Int),.slice xa xb.length xc] 297)])) (cM 0 3 (cM 5 4 (.st 11 (.st 12 (.act 3 (.act 4 (.act 9 (.act 10 (.act 13 (.st 14 .nil)))))))))) rfl ae ae ae cY ?_
  refine B5 (U:=aU) rfl ?_
  refine gF ?_
  refine jO zr zr zr zr zr zr ?_
  refine aD 36 ((u8 (UInt8.ofNat xm))) rfl ((me xm)) (go ?_)
  refine al (cs:=bV [UInt8.ofNat xm]) zr zr zr zr zr zr zr zr zr (fun _ w hw=>hw.cn ah) ?_
  intro row
  refine go ?_
  refine aO (mm:=1) (news:=bV [UInt8.ofNat xm]) 2 0 zr zr zr zr zr zr zr zr zr zr zr zr (Vw.ag rfl) rfl (dm _) ai (by show(_+_)*1≤_;simp only;omega) (fun _=>rfl) (fun _ w hw=>hw.cn ah) ?_
  intro v1
  rw[show bV acc++bV [UInt8.ofNat xm]=bV (acc++[UInt8.ofNat xm])from by simp[bV],show acc.length+1=(acc++[UInt8.ofNat xm]).length from by simp]
  refine aL 2 rfl ?_
  rintro a2 c2 rfl
  refine go ?_
  refine dx (j5 xb.length ai) ?_
  rintro r _ rfl
  refine aL 0 rfl ?_
  rintro ra rc rfl
  refine dT 0 rfl ?_
  intro ZN
  refine go ?_
  refine aO (mm:=(uv xb.length).length) (news:=bV (uv xb.length)) 3 0 zr zr zr zr zr zr zr zr zr zr zr zr ZN (by show _=_*1;rw[bJ];omega) (dm _) (by simp only[List.length_append,List.length_singleton];omega) (by show(_+_)*1≤_;simp only[List.length_append,List.length_singleton];omega) (fun _=>rfl) (fun _ w hw=>hw.cn ah) ?_
  intro v2
  rw[show bV (acc++[UInt8.ofNat xm])++bV (uv xb.length)=bV (acc++[UInt8.ofNat xm]++uv xb.length)from by simp[bV],show(acc++[UInt8.ofNat xm]).length+(uv xb.length).length=(acc++[UInt8.ofNat xm]++uv xb.length).length from by simp;omega]
  refine aL 3 rfl ?_
  rintro a3 c3 rfl
  refine go ?_
  refine aO (mm:=xb.length) (news:=bV xb) 3 4 zr zr zr zr zr zr zr zr zr zr zr zr y8.1 (by show _=_*1;rw[bJ];omega) (dm _) (by simp only[List.length_append,List.length_singleton];omega) (by show(_+_)*1≤_;simp only[List.length_append,List.length_singleton];omega) (fun _=>rfl) (fun _ w hw=>hw.cn ah) ?_
  intro v3
  rw[show bV (acc++[UInt8.ofNat xm]++uv xb.length)++bV xb=bV (acc++kD (xm,xb))from by simp[bV,kD],show(acc++[UInt8.ofNat xm]++uv xb.length).length+xb.length=(acc++kD (xm,xb)).length from by simp[kD];omega]
  refine aL 3 rfl ?_
  rintro a4 c4 rfl
  refine go ?_
  refine au zr zr ?_ ?_
  · grind
  intro _
  refine go ?_
  refine aV 5 ((.int .i64 (mD (l.map It.p) (i+1)))) rfl ((congrArg (Value.int .i64) qY.symm)) ?_
  refine aK ih (i+1,acc++kD (xm,xb),a4,c4) rfl ⟨by simp only;omega,by simp only;rw[ht]⟩ ai bQ ah
def GF(v:Value)(h1:∃a n c,v = .slice a n c):aq Tryz.prog 295 [v] [] (fun r H=>∃b,r = .func (.func 369) #[] #[ptr b]∧H=[ag b (cl [v] 38)]):=by
 obtain⟨a,n,c,rfl⟩:=h1
 refine aq.aj Tryz.func295 Tryz.ntmps295 fun G F R hE=>?_
 refine go ?_
 refine bp zr zr bh ?_
 intro b
 refine go ?_
 refine ad hE Tryz.func295 zr zr ⟨b,rfl,rfl⟩
theorem Dy(A:HP)(bx:Nat)(v:Value)(bs:List UInt8)(hv:fb A v bs)(hl:bs.length≤1000000000)(l:Nat)(Lp LpD aat:HP)(Inv:Nat→HP)(uJ:Nat→Bool)(hy:∀i x,(dy bs)[i]?=some x→(∀j,j<i→uJ j=true)→∀r,(∃a n c,r = .slice a n c)→bN Tryz.prog l [.agg #[.int .i64 x.1,r] ] [Lp,Inv i,aI 5 1 r x.2.length (bV x.2)]
      (fun v H=>(uJ i=true∧v = .bool true∧H=[Lp,Inv (i+1)])∨(uJ i=false∧v = .bool false∧H=[LpD,aat]))) :
    aq Tryz.prog 369 [.func (.yield l) #[] #[],ptr bx] [Lp,Inv 0,ag bx (cl [v] 38),A]
      (fun _ H=>((∀i,i<(dy bs).length→uJ i=true)∧H=[Lp,Inv (dy bs).length,A])∨((∃i,i<(dy bs).length∧uJ i=false)∧H=[LpD,aat,A])):=by
  refine aq.aj Tryz.func369 Tryz.ntmps369 fun G F R hE=>?_
  refine bn (fun y:Value × List UInt8 × Nat=>fb A y.1 y.2.1∧y.2.1.length≤bs.length∧(dy bs).drop y.2.2=dy y.2.1∧y.2.2≤(dy bs).length∧∀j,j<y.2.2→uJ j=true) (fun y=>y.2.1.length)
    (fun _=>[(0,.func (.yield l) #[] #[]),(1,ptr bx)])
    (fun y=>Lp::Inv y.2.2::ag bx (cl [y.1] 38)::A::F) (v,bs,0) ⟨hv,Nat.le_refl _,by simp,Nat.zero_le _,fun j hj=>absurd hj (Nat.not_lt_zero j)⟩ rfl bQ ah ?_
  rintro⟨v1,rest,i⟩⟨lB,y3,y1,hr3,VV⟩ ih
  simp only at lB y3 y1 hr3 VV
  obtain⟨a,c,rfl,hc⟩:=lB.2
  refine go ?_
  match rest,y1,lB,y3,hc,ih with
  | [],y1,lB,y3,hc,ih =>
    have jt:i=(dy bs).length:=by
      rw[tx]at y1
      have:(dy bs).length≤i:=by simpa using y1
      omega
    subst jt
    refine go ?_
    refine bB hE Tryz.func369 rfl _ rfl (.inl ⟨VV,rfl⟩) ah
  | c0::rst,y1,lB,y3,hc,ih =>
    have kp:=lB.cut 1 (by simp)
    rw[List.drop_succ_cons,List.drop_zero]at kp
    ((refine aV 8 ((.bool true)) rfl ((congrArg Value.bool (decide_eq_true (by simp only[List.length_cons];omega)))) ?_))
    refine go ?_
    refine bu (p:=1) (q:=((c0::rst).length:Int)) zr zr zr zr zr zr zr ai (by simp only[List.length_cons];omega) (.inl rfl) ?_
    ((refine aD 11 ((.slice (sliceAt a c 1 1) rst.length (c-1))) rfl ((by rw[show((c0::rst).length:Int).toNat=rst.length+1 from by simp[List.length_cons],show(1:Int).toNat=1 from rfl,show rst.length+1-1=rst.length by omega];rfl)) ?_))
    ((refine aF (Fw A _ rst kp.1 kp.2 (by simp only[List.length_cons]at y3;omega)) ?_))
    rintro _ _⟨rv,rfl,LV,rfl⟩
    have LV:fb A rv (cB rst).2.1:=LV
    have mF:=nQ rst
    have Iu:rst.length<1000000000:=by simp only[List.length_cons]at y3;omega
    have DL:∀x,dy (c0::rst)=x::dy ((cB rst).2.1.drop (cB rst).1)∨dy (c0::rst)=[x]→(dy bs)[i]?=some x:=by
      intro x hx
      have:=congrArg (fun l=>l[0]?) y1
      grind
    obtain⟨ra,rc,rfl,N6⟩:=LV.2
    by_cases hJ:(cB rst).2.2=true∧(cB rst).1≤(cB rst).2.1.length
    · have Bh:=wL (c:=c0) hJ
      have hx:=DL _ (.inl Bh)
      rw[hJ.1]
      have Fk:=LV.front (cB rst).1 hJ.2
      have Fm:=LV.cut (cB rst).1 hJ.2
      have ko:=(List.getElem?_eq_some_iff.1 hx).1
      refine go ?_
      refine au zr zr ?_ ?_
      · intro q5;exfalso;omega
      intro _
      have sD:0<(c0::rst).length:=by simp only[List.length_cons];omega
      obtain⟨ba,oa,ca,dW⟩:=KV lB.1 sD
      simp only[Value.slice.injEq,true_and]at dW
      obtain⟨rfl,rfl⟩:=dW
      obtain⟨n,hn⟩:∃n,n=(cB rst).1:=⟨_,rfl⟩
      have Dz:((cB rst).2.1.take n).length=n:=by rw[hn,List.length_take];omega
      rw[← hn]at Fk Fm Bh hx hJ ⊢
      have Om:c0.toNat<256:=c0.toNat_lt
      have LY:=hJ.2
      have acg:rst.length+1≤bs.length:=y3
      refine aJ (fun w=>Sat G w ([A,ag bx (cl [.slice (some ⟨ba,oa,none⟩) (c0::rst).length c] 38)])) (cM 0 8 (.act 8 (.st 9 (.act 10 (.st 11 .nil))))) rfl ae ae ae cY ?_
      refine go ?_
      refine bC 0 zr zr zr zr zr zr zr zr sD (go ?_)
      refine aT ?_
      refine dp 0 0 zr zr zr lB.1 rfl (show(bV (c0::rst))[0]?=some (u8 c0)from rfl) zr zr (go ?_)
      refine bu (p:=0) (q:=(n:Int)) zr zr zr zr zr zr zr ai ai (.inr ai) ?_
      ((refine aD 35 ((.slice (sliceAt ra rc 0 1) ((cB rst).2.1.take n).length rc)) rfl ((by rw[Dz,show((n:Int)).toNat=n from by omega];rfl)) ?_))
      have Fk:fb A (.slice (sliceAt ra rc 0 1) ((cB rst).2.1.take n).length rc) ((cB rst).2.1.take n):=by rw[Dz];exact Fk
      refine dx (jh A _ ((cB rst).2.1.take n) Fk.1 ai) ?_
      rintro r _ rfl
      refine aL 0 rfl ?_
      rintro rr rrc rfl
      refine go ?_
      refine iW rfl rfl rfl (hy i _ hx VV (.slice rr ((cB rst).2.1.take n).length rrc) ⟨_,_,_,rfl⟩) ah ?_ (fun _ _ w hp hw=>by rcases hp with⟨_,_,rfl⟩|⟨_,_,rfl⟩ <;> exact hw.cn ah)
      rintro _ _ (⟨hg,rfl,rfl⟩|⟨hg,rfl,rfl⟩)
      · refine go ?_
        refine bu (p:=(n:Int)) (q:=((cB rst).2.1.length:Int)) zr zr zr zr zr zr zr ai ai (.inl rfl) ?_
        ((refine aD 42 ((.slice (sliceAt ra rc n 1) ((cB rst).2.1.length-n) (rc-n))) rfl ((by rw[show((n:Int)).toNat=n from by omega,show(((cB rst).2.1.length:Int)).toNat=(cB rst).2.1.length from by omega];rfl)) ?_))
        refine go ?_
        have DH:(dy bs).drop (i+1)=dy ((cB rst).2.1.drop n):=by
          have:=congrArg (fun l=>l.drop 1) y1
          simp only[List.drop_drop]at this
          grind
        refine aK ih (.slice (sliceAt ra rc n 1) ((cB rst).2.1.length-n) (rc-n),(cB rst).2.1.drop n,i+1) rfl (⟨Fm,by simp only[List.length_drop];omega,DH,by simp only;omega,fun j hj=>by
          rcases Nat.lt_or_ge j i with h|h
          · exact VV j h
          · rw[show j=i by simp only at hj;omega];exact hg⟩) (by simp only[List.length_drop,List.length_cons];omega) bQ ah
      · refine go ?_
        refine ad hE Tryz.func369 zr zr (.inr ⟨⟨i,ko,hg⟩,rfl⟩)
    · have ju:=z8 (c:=c0) hJ
      have hx:=DL _ (.inr ju)
      cases abc:(cB rst).2.2 with
      | false =>
        refine go ?_
        refine aS (bj 5 1 none _) ?_
        refine iW zr zr zr (hy i (0,[]) hx VV (.slice none 0 0) ⟨_,_,_,rfl⟩) ah ?_ iE
        rintro _ _ (⟨hg,rfl,rfl⟩|⟨hg,rfl,rfl⟩)
        · refine go ?_
          have jt:i+1=(dy bs).length:=by
            have:=congrArg List.length y1
            grind
          rw[jt]
          have dX:∀j,j<(dy bs).length→uJ j=true:=fun j hj=>by
            grind
          refine ad hE Tryz.func369 zr zr (.inl ⟨dX,rfl⟩)
        · refine go ?_
          have ko:=(List.getElem?_eq_some_iff.1 hx).1
          refine ad hE Tryz.func369 zr zr (.inr ⟨⟨i,ko,hg⟩,rfl⟩)
      | true =>
        have L2:¬(cB rst).1≤(cB rst).2.1.length:=fun h=>hJ ⟨abc,h⟩
        refine go ?_
        refine au zr zr ?_ ?_
        case' refine_2=>(intro h;exfalso;omega)
        intro _
        refine go ?_
        refine aS (bj 5 1 none _) ?_
        refine iW zr zr zr (hy i (0,[]) hx VV (.slice none 0 0) ⟨_,_,_,rfl⟩) ah ?_ iE
        rintro _ _ (⟨hg,rfl,rfl⟩|⟨hg,rfl,rfl⟩)
        · refine go ?_
          have jt:i+1=(dy bs).length:=by
            have:=congrArg List.length y1
            grind
          rw[jt]
          have dX:∀j,j<(dy bs).length→uJ j=true:=fun j hj=>by
            grind
          refine ad hE Tryz.func369 zr zr (.inl ⟨dX,rfl⟩)
        · refine go ?_
          have ko:=(List.getElem?_eq_some_iff.1 hx).1
          refine ad hE Tryz.func369 zr zr (.inr ⟨⟨i,ko,hg⟩,rfl⟩)
end Go.Proofs.YtnkfkabokmcgoaaGreatDoor
namespace Go.Proofs.YtnkfkabokmcgoaaGreatDoor
open Go Go.SL
def DI(b2 b3 b4 b5:Nat)(xs:List (Int × List UInt8))(i:Nat):HP:=fun h=>∃x:List It × HP × Value,(x.1.map It.p=xs.take i∧∀y∈x.1,fb x.2.1 y.v y.b) ∧
 Sep [ag b2 (cl [.slice none 0 0] 293),ag b3 (cl [.int .i64 0] 26),ag b4 (cl [x.2.2] 293),ag b5 (cl [.int .i64 (mD xs i)] 3),aI 297 2 x.2.2 x.1.length (x.1.flatMap jJ),x.2.1] h
def FW(b2 b3 b4 b5:Nat)(xs:List (Int × List UInt8))(i:Nat):∀h,DI b2 b3 b4 b5 xs i h→∃x:List It × HP × Value,(x.1.map It.p=xs.take i∧∀y∈x.1,fb x.2.1 y.v y.b) ∧
 Sep [ag b2 (cl [.slice none 0 0] 293),ag b3 (cl [.int .i64 0] 26),ag b4 (cl [x.2.2] 293),ag b5 (cl [.int .i64 (mD xs i)] 3),aI 297 2 x.2.2 x.1.length (x.1.flatMap jJ),x.2.1] h:=fun h hs=>hs
def B9(b2 b3 b4 b5:Nat)(xs:List (Int × List UInt8))(i:Nat)(dR:List It)(Z:HP)(v:Value)(h1:dR.map It.p=xs.take i)(h2:∀y∈dR,fb Z y.v y.b)(H:List HP) :
  ao (ag b2 (cl [.slice none 0 0] 293)::ag b3 (cl [.int .i64 0] 26)::ag b4 (cl [v] 293)::ag b5 (cl [.int .i64 (mD xs i)] 3)::aI 297 2 v dR.length (dR.flatMap jJ)::Z::H) (DI b2 b3 b4 b5 xs i::H) :=
 ao.fold (A:=DI b2 b3 b4 b5 xs i) (B:=[ag b2 (cl [.slice none 0 0] 293),ag b3 (cl [.int .i64 0] 26),ag b4 (cl [v] 293),ag b5 (cl [.int .i64 (mD xs i)] 3),aI 297 2 v dR.length (dR.flatMap jJ),Z]) fun h hs=>⟨h,sub.refl h,(dR,Z,v),⟨h1,h2⟩,hs⟩
def DE(b2 b3:Nat):HP:=Sep [ag b2 (cl [.slice none 0 0] 293),ag b3 (cl [.int .i64 2] 26)]
def Ca(b2 b3:Nat)(H:List HP):ao (ag b2 (cl [.slice none 0 0] 293)::ag b3 (cl [.int .i64 2] 26)::H) (DE b2 b3::H):=ao.cd [ag b2 (cl [.slice none 0 0] 293),ag b3 (cl [.int .i64 2] 26)] H
def NO(b2 b3:Nat)(H:List HP):ao (DE b2 b3::H) (ag b2 (cl [.slice none 0 0] 293)::ag b3 (cl [.int .i64 2] 26)::H):=ao.cX [ag b2 (cl [.slice none 0 0] 293),ag b3 (cl [.int .i64 2] 26)] H
attribute [local irreducible] J K aq Ends ag aI aC bF aW aP a6 aZ bN DI DE
theorem kY(A:HP)(v:Value)(bs:List UInt8)(hv:fb A v bs)(hl:bs.length≤1000000000) :
  aq Tryz.prog 192 [v] [A] (fun r H=>(oI bs=none∧r = .tuple #[.slice none 0 0,.int .i64 2]∧H=[A])∨(∃(xs:List (Int × List UInt8)) (dR:List It) (Z:HP) (rv:Value),oI bs=some xs∧dR.map It.p=xs∧qw Z rv dR∧r = .tuple #[rv,.int .i64 0]∧H=[Z,A]∧∃ra rc,rv = .slice ra dR.length rc∧dR.length≤rc)):=by
 obtain⟨a,c,rfl,hc⟩:=hv.2
 have zT:oI bs=if 65536<bs.length then none else if ec 0 (dy bs)then some (dy bs)else none:=rfl
 refine aq.aj Tryz.func192 Tryz.ntmps192 fun G F R hE=>?_
 refine aH rfl ?_
 refine az zr zr zr bh ?_
 intro b2
 refine az zr zr zr bh ?_
 intro b3
 refine go ?_
 refine au zr zr ?_ ?_
 ·intro q5
  have q5:65536<bs.length:=by omega
  rw[if_pos q5]at zT
  refine go ?_
  refine bg hE ?_
  refine pr (U:=aU) 1 0 hE Tryz.func192 zr zr zr zr zr zr zr zr (ao.refl _) zr zr (.inl ⟨zT,rfl,rfl⟩) ah
 intro pj
 have pj:¬65536<bs.length:=by omega
 rw[if_neg pj]at zT
 refine go ?_
 refine az zr zr zr bh ?_
 intro b4
 refine go ?_
 refine az zr zr zr bh ?_
 intro b5
 refine go ?_
 refine aF (GF _ ⟨a,_,c,rfl⟩) ?_
 rintro _ _⟨bx,rfl,rfl⟩
 refine go ?_
 refine gT rfl ?_
 refine ak (ao.trans (ao.cd [] _) (ao.trans (bj 297 2 none _) (ao.trans ah (B9 b2 b3 b4 b5 (dy bs) 0 [] (Sep []) (.slice none 0 0) rfl (by simp) (ag bx (cl [.slice a bs.length c] 38)::A::F))))) ?_
 refine vl (Fr:=F) (Pre:=fun _ _=>[DI b2 b3 b4 b5 (dy bs) 0,ag bx (cl [.slice a bs.length c] 38),A]) (fun _ _ Lp v H=>((∀i,i<(dy bs).length→p' (dy bs) i=true)∧H=[Lp .ready none,DI b2 b3 b4 b5 (dy bs) (dy bs).length,A])∨((∃i,i<(dy bs).length∧p' (dy bs) i=false)∧H=[Lp .done (some .ret),DE b2 b3,A])) rfl hE.1.1 rfl ?c (fun l r=>ah) ?gR
 case c =>
  intro l r
  refine aq.pre (Dy A bx _ bs hv hl l _ _ (DE b2 b3) (DI b2 b3 b4 b5 (dy bs)) (p' (dy bs)) ?hy) ah
  case hy =>
   intro i x hx VV rv LV
   obtain⟨va,vn,vc,rfl⟩:=LV
   refine bN.C' zr zr ?_
   intro G2 F2 R2 hY
   refine aH rfl ?_
   refine az zr zr zr bh ?_
   intro b6
   refine go ?_
   refine ak (ao.pick [1] rfl) ?_
   refine fm rfl hY ?_
   refine ak (ao.pick [2] rfl) ?_
   refine cI (FW b2 b3 b4 b5 (dy bs) i) ?_
   rintro⟨dR,Z,vi⟩⟨pk,sR⟩
   have Co:=uI hx
   obtain⟨xn,xb⟩:=x
   have VJ:=um hx
   refine cL 4 rfl ?_
   intro ia ic Ir
   simp only at Ir
   simp only
   refine ak (ao.pick [7,0,1,2,3] rfl) ?_
   repeat'(first|(with_reducible intro iI)|refine fq ?_|refine dw zr zr zr zr ?_ ?_|refine au zr zr ?_ ?_)
   ·have ju:p' (dy bs) i=false:=by rw[Co,decide_eq_false ai,Bool.false_and]
    refine ak (ao.trans (ao.pick [1,2] rfl) (Ca b2 b3 _)) ?_
    refine vk hY rfl ah (.inr ⟨ju,rfl,rfl⟩)
   ·have ju:p' (dy bs) i=false:=by rw[Co,decide_eq_false (show ¬xn≤63 by omega),Bool.and_false]
    refine ak (ao.trans (ao.pick [1,2] rfl) (Ca b2 b3 _)) ?_
    refine vk hY rfl ah (.inr ⟨ju,rfl,rfl⟩)
   ·have p6:p' (dy bs) i=true:=by rw[Co,decide_eq_true ai,decide_eq_true ai];rfl
    refine aY ?_
    refine bG 4 eW zr zr zr zr zr zr zr zr zr (go ?_)
    refine bq 0 zr zr zr zr zr zr (go ?_)
    refine gU (bs:=xb) 8 rfl ?_
    intro y8
    obtain⟨_,_,hvx,hxc⟩:=y8.2
    obtain⟨-,rfl,rfl⟩:=hvx
    have ko:=(List.getElem?_eq_some_iff.1 hx).1
    have Dz:=pH bs.length bs (Nat.le_refl _)
    have Zo:dR.length=i:=by
     have:=congrArg List.length pk
     grind
    refine al (cs:=jJ ⟨xn,.slice va xb.length vc,xb⟩) zr zr zr zr zr zr zr zr zr bh ?_
    intro row
    refine go ?_
    refine aO (mm:=1) (news:=jJ ⟨xn,.slice va xb.length vc,xb⟩) 6 0 rfl rfl rfl rfl rfl rfl rfl rfl rfl rfl rfl rfl (Vw.ag rfl) rfl (by intro v hv;simp[jJ]at hv;rcases hv with rfl|rfl <;> rfl) ai (by show(_+_)*32≤_;omega) (fun _=>rfl) bh ?_
    intro v1
    rw[show dR.flatMap jJ++jJ (⟨xn,.slice va xb.length vc,xb⟩:It)=(dR++[(⟨xn,.slice va xb.length vc,xb⟩:It)]).flatMap jJ from by simp,show dR.length+1=(dR++[(⟨xn,.slice va xb.length vc,xb⟩:It)]).length from by simp]
    refine aL 6 rfl ?_
    rintro ja jc rfl
    refine go ?_
    refine aY ?_
    refine bG 4 eW zr zr zr zr zr zr zr zr zr (go ?_)
    have abm:mD (dy bs) (i+1)=xn:=VJ
    have Ku:(dR++[(⟨xn,.slice va xb.length vc,xb⟩:It)]).map It.p=(dy bs).take (i+1):=by
     rw[List.map_append,pk,List.take_add_one,hx];rfl
    have mF:=B9 b2 b3 b4 b5 (dy bs) (i+1) (dR++[(⟨xn,.slice va xb.length vc,xb⟩:It)]) (Sep [aI 5 1 (.slice va xb.length vc) xb.length (bV xb),Z]) (.slice ja (dR++[(⟨xn,.slice va xb.length vc,xb⟩:It)]).length jc) Ku (fun y hy=>by
     rcases List.mem_append.1 hy with h|h
     ·exact(sR y h).mono (bz (i:=1) rfl)
     ·rw[List.mem_singleton.1 h];exact y8.mono (bz (i:=0) rfl))
    rw[abm]at mF
    refine ak (ao.trans (ao.pick [9,7] rfl) (ao.trans (ao.cd [_,_] _) (ao.trans ah (mF _)))) ?_
    refine eE hY rfl ah (.inl ⟨p6,rfl,rfl⟩)
 rintro l r v H' (⟨dX,rfl⟩|⟨⟨i,hi,ju⟩,rfl⟩)
 ·refine⟨_,_,_,rfl,by decide,?_⟩
  have hr:ec 0 (dy bs)=true:=(w7 _).2 dX
  rw[if_pos hr]at zT
  rw[hE.1.2]
  refine cI (FW b2 b3 b4 b5 (dy bs) _) ?_
  rintro⟨dR,Z,vi⟩⟨pk,sR⟩
  rw[List.take_length]at pk
  refine cL 4 rfl ?_
  intro ia ic Ir
  simp only at Ir
  subst Ir
  refine nX 4 rfl ?_
  intro gg
  refine eu 4 rfl ?_
  intro dt
  have Fi:qw (Sep [aI 297 2 (.slice ia dR.length ic) dR.length (dR.flatMap jJ),Z]) (.slice ia dR.length ic) dR:=⟨dt.mono (bz (i:=0) rfl),fun y hy=>(sR y hy).mono (bz (i:=1) rfl)⟩
  refine go ?_
  refine ak (ao.trans (ao.pick [4,5] rfl) (ao.cd [aI 297 2 (.slice ia dR.length ic) dR.length (dR.flatMap jJ),Z] _)) ?_
  refine pr (U:=aU) 1 2 hE Tryz.func192 zr zr zr zr zr zr zr zr ah zr zr (.inr ⟨dy bs,dR,_,_,zT,pk,Fi,rfl,rfl,_,_,rfl,gg⟩) ah
 ·refine⟨_,_,_,rfl,by decide,?_⟩
  have hr:¬ec 0 (dy bs)=true:=fun h=>by rw[(w7 _).1 h i hi]at ju;cases ju
  rw[if_neg hr]at zT
  rw[hE.1.2]
  refine ak (NO b2 b3 _) ?_
  refine pr (U:=aU) 0 1 hE Tryz.func192 zr zr zr zr zr zr zr zr ah zr zr (.inl ⟨zT,rfl,rfl⟩) ah
end Go.Proofs.YtnkfkabokmcgoaaGreatDoor
namespace Go.Proofs.YtnkfkabokmcgoaaGreatDoor
open Go Go.SL
attribute [local irreducible] J K aq Ends ag aI aC bF aW aP a6 aZ bN Sha.chunks Sha.chunk Sha.rounds Sha.sched fg cD GI fR
def J7:iz Tryz.prog 36 dV:=YD Tryz.underlying36 Tryz.underlying5 Wp
def NT(l:List Dg):List (Dg × Value):=l.map fun d=>(d,.bool true)
theorem I0(l:List Dg)(d:Dg):(cw (NT l) d).getD (.bool false) = .bool (decide (d∈l)):=by
 induction l with
 | nil=>simp[NT,cw]
 | cons x l ih =>
  grind [NT,cw]
theorem Me{l:List Dg}{d:Dg}(h:d ∉ l):iy (NT l) d (.bool true)=NT (l++[d]):=by
 grind [iy,NT]
theorem wJ(l:List Bl):nf l=false↔(l.map Bl.d).Nodup:=by
 induction l with
 | nil=>simp[nf]
 | cons x l ih =>
  grind [nf]
theorem FD(l:List Bl):∀v∈l.flatMap dY,v.oneCell'=true:=by
 intro v hv
 obtain⟨x,_,h⟩:=List.mem_flatMap.1 hv
 simp only[dY,List.mem_append,List.mem_cons,List.not_mem_nil,or_false]at h
 rcases h with(h|rfl|rfl)|h
 ·grind [eG,dm]
 ·rfl
 ·rfl
 grind [eG,dm]
def blE{l:List Bl}{i:Nat}{x:Bl}(hx:l[i]?=some x)(q:Nat)(v:Value)(hq:(dY x)[q]?=some v):(l.flatMap dY)[i*66+q]?=some v:=by
 rw[ck zk hx q (by rcases Nat.lt_or_ge q 66 with h|h;exact h;rw[List.getElem?_eq_none (by rw[zk];exact h)]at hq;cases hq)]
 exact hq
def Wq{l:List Bl}{i:Nat}(h:i<l.length):l.flatMap dY≠[]:=by
 rw[← List.length_pos_iff,bI zk];omega
def zO(A X:HP)(v:Value)(l:List Bl)(hv:Vw A v l.length (l.flatMap dY))(hlen:l.length≤1000000)(g:FuncId)(cap:List Value)(p:Bl→Bool)(hf:∀x∈l,aq Tryz.prog g (mH x::cap) [X] (fun v H=>v = .bool (p x)∧H=[X])) :
  aq Tryz.prog 161 [v,.func (.func g) #[] cap.toArray] [A,X] (fun r H=>r = .int .i64 (gQ p l)∧H=[A,X]):=by
 obtain⟨a,c0,rfl⟩:=hv.shape
 unfold mH at hf
 refine aq.enter Tryz.func161 ae rfl Tryz.ntmps161 zr zr ?_
 intro G F R hR
 refine go ?_
 refine bn (fun i:Nat=>i≤l.length∧∀y∈l.take i,p y=false) (fun i=>l.length-i) (fun i=>[(0,.slice a l.length c0),(1,.func (.func g) #[] cap.toArray),(7,.int .i64 l.length),(8,.int .i64 i)]) (fun _=>[A,X]++F) 0 ⟨by simp,by simp⟩ rfl bQ (ao.refl _) ?_
 rintro i⟨hi,hb⟩ ih
 refine go ?_
 refine au zr zr ?_ ?_
 ·intro cq
  refine go ?_
  have dq:i<l.length:=by omega
  have hx:l[i]?=some l[i]:=by simp[dq]
  generalize Vp:l[i]=x at hx
  obtain⟨b,o,eX,dW⟩:=hv.some (Wq dq)
  simp only[Value.slice.injEq]at dW
  obtain⟨rfl,_,rfl⟩:=dW
  refine bX i 66 zr zr zr zr zr zr zr zr dq ?_
  refine bW (U:=aU) (es:=dY x) 0 (i*66) zr zr zr hv rfl (blE hx) zr zr zr ?_
  refine bR [1] zr zr zr zr (hf x (List.mem_of_getElem? hx)) rfl iE ?_
  rintro _ _⟨rfl,rfl⟩
  refine go ?_
  refine dj zr zr ?_ ?_
  ·intro hp
   refine go ?_
   refine aG hR Tryz.func161 rfl _ rfl ⟨by rw[gb hx hp hb];rfl,rfl⟩ (ao.fin [1,0] 0 zr zr)
  ·intro hp
   refine go ?_
   refine aK ih (i+1) rfl ⟨ai,jH hb hx hp⟩ ai bQ (ao.pick [1,0] rfl)
 ·intro ek
  refine go ?_
  have:i=l.length:=by omega
  subst this
  refine aG hR Tryz.func161 rfl _ rfl ⟨by rw[gY (fun x hx=>hb x (by simpa using hx))];rfl,rfl⟩ (ao.fin [0,1] 0 zr zr)
def mJ(A X:HP)(v:Value)(l:List Bl)(hv:Vw A v l.length (l.flatMap dY))(hlen:l.length≤1000000)(g:FuncId)(cap:List Value)(p:Bl→Bool)(hf:∀x∈l,aq Tryz.prog g (mH x::cap) [X] (fun v H=>v = .bool (p x)∧H=[X])) :
  aq Tryz.prog 75 [v,.func (.func g) #[] cap.toArray] [A,X] (fun r H=>r = .bool (l.any p)∧H=[A,X]):=by
 refine aq.enter Tryz.func75 ae rfl Tryz.ntmps75 zr zr ?_
 intro G F R hR
 refine go ?_
 refine bR [0,1] zr zr zr zr (zO A X v l hv hlen g cap p hf) rfl iE ?_
 rintro _ _⟨rfl,rfl⟩
 refine go ?_
 have hb:decide (0≤gQ p l)=l.any p:=by
  rw[show decide (0≤gQ p l)=decide (¬gQ p l<0)from by rw[decide_eq_decide];omega]
  rw[Bool.eq_iff_iff,decide_eq_true_iff,jW (p:=p) (l:=l),Bool.not_eq_false]
 refine aG hR Tryz.func75 rfl _ rfl ⟨congrArg Value.bool hb,rfl⟩ (ao.fin [0,1] 0 zr zr)
def Mt(x:Bl):aq Tryz.prog 275 [mH x] [emp] (fun r H=>r = .bool (!cp x)∧H=[emp]):=by
 unfold mH
 refine aq.aj Tryz.func275 Tryz.ntmps275 fun G F R hE=>?_
 refine aH rfl ?_
 refine bp zr zr bh ?_
 intro b1
 refine go ?_
 refine aM (U:=aU) 0 zr zr zr zr zr zr ?_
 refine aw (oF x) ?_
 refine go ?_
 refine ad hE Tryz.func275 zr zr ⟨rfl,rfl⟩
def LR(v:Value):Value := .agg #[v]
theorem yp(A:HP)(v:Value)(l:List Bl)(hv:Vw A v l.length (l.flatMap dY))(hlen:l.length≤1000000) :
  aq Tryz.prog 162 [LR v] [A] (fun r H=>r = .int .i64 (fj l:Int)∧H=[A]):=by
 obtain⟨a,c,rfl⟩:=hv.shape
 unfold LR
 refine aq.aj Tryz.func162 Tryz.ntmps162 fun G F R hE=>?_
 refine aH rfl ?_
 refine bp zr zr bh ?_
 intro b1
 refine aS (ao.jw _) ?_
 have h1:(l.length<1∨16<l.length∨l.any (fun x => !cp x)=true)→fj l=1:=fun h=>by unfold fj;rw[if_pos h]
 have h2:¬(l.length<1∨16<l.length∨l.any (fun x => !cp x)=true)→fj l=if nf l then 5 else 0:=fun h=>by unfold fj;rw[if_neg h]
 repeat'(first|(with_reducible intro iI)|refine fq ?_|refine dw zr zr zr zr ?_ ?_|(refine aF (mJ A emp _ l hv hlen 275 [] (fun x => !cp x) (fun x _=>Mt x)) ?_;rintro _ _⟨rfl,rfl⟩))
 ·rw[h1 (.inl ai)]at hE
  refine ad hE Tryz.func162 zr zr ⟨rfl,rfl⟩
 ·rw[h1 (.inr (.inl ai))]at hE
  refine ad hE Tryz.func162 zr zr ⟨rfl,rfl⟩
 cases mO:l.any (fun x => !cp x)with
 | true =>
  rw[h1 (.inr (.inr mO))]at hE
  refine go ?_
  refine ad hE Tryz.func162 zr zr ⟨rfl,rfl⟩
 | false =>
  have h3:=h2 (fun h=>by rcases h with h|h|h;exact absurd h ai;exact absurd h ai;rw[mO]at h;cases h)
  rw[h3]at hE
  refine go ?_
  refine dN rfl bh ?_
  intro bm
  refine aS (ao.fold (B:=[_]) (A:=aC dV bm (NT [])) (fun h hs=>⟨h,sub.refl h,fO dV bm h (cW hs)⟩)) ?_
  refine go ?_
  refine bn (fun i:Nat=>i≤l.length∧((l.take i).map Bl.d).Nodup) (fun i=>l.length-i)
   (fun i=>[(1,ptr b1),(4,.map (some bm)),(25,.slice a l.length c),(26,.int .i64 (l.length:Int)),(27,.int .i64 (i:Int))])
   (fun i=>aC dV bm (NT ((l.take i).map Bl.d))::A::F) 0 ⟨Nat.zero_le _,by simp⟩ rfl bQ ah ?_
  rintro i⟨hi,gp⟩ ih
  refine go ?_
  refine au zr zr ?_ ?_
  ·intro cq
   have dq:i<l.length:=by omega
   obtain⟨x,hx⟩:∃x,l[i]?=some x:=⟨l[i],by simp⟩
   obtain⟨b,o,eX,dW⟩:=hv.some (Wq dq)
   simp only[Value.slice.injEq]at dW
   obtain⟨rfl,_,rfl⟩:=dW
   have ki:(l.take (i+1)).map Bl.d=(l.take i).map Bl.d++[x.d]:=by rw[List.take_add_one,hx];simp
   refine go ?_
   refine bX i 66 zr zr zr zr zr zr zr zr dq ?_
   refine aT ?_
   refine bW (U:=aU) (es:=dY x) 1 (i*66) zr zr zr hv rfl (blE hx) zr zr zr ?_
   refine az zr zr zr bh ?_
   intro b6
   refine go ?_
   refine bq 0 zr zr zr zr zr zr ?_
   refine iR (key:=x.d) 1 rfl J7 zr zr zr zr zr zr zr zr ?_
   refine aD 34 (.bool (decide (x.d∈(l.take i).map Bl.d))) rfl (I0 _ _) (go ?_)
   refine au zr zr ?_ ?_
   ·intro rZ
    have htw:nf l=true:=by
     cases h:nf l with
     | true=>rfl
     | false =>
      exfalso
      have hN:=(wJ l).1 h
      have cu:((l.take (i+1)).map Bl.d).Nodup:=hN.sublist ((List.take_sublist _ _).map _)
      grind
    rw[htw]at hE
    refine go ?_
    refine ad hE Tryz.func162 zr zr ⟨rfl,rfl⟩
   ·intro MP
    refine go ?_
    refine bq 0 zr zr zr zr zr zr ?_
    refine cy (key:=x.d) 1 J7 eW zr zr zr zr zr zr zr zr ?_
    rw[Me MP,← ki]
    refine go ?_
    refine aK ih (i+1) rfl ⟨ai,by rw[ki,List.nodup_append];exact⟨gp,by simp,fun p hp q hq=>by simp at hq;subst hq;exact fun e=>MP (e ▸ hp)⟩⟩ ai bQ ah
  intro ek
  have vK:i=l.length:=by omega
  subst vK
  rw[List.take_length]at gp
  rw[(wJ l).2 gp]at hE
  refine go ?_
  refine ad hE Tryz.func162 zr zr ⟨rfl,rfl⟩
end Go.Proofs.YtnkfkabokmcgoaaGreatDoor
namespace Go.Proofs.YtnkfkabokmcgoaaGreatDoor
open Go Go.SL
attribute [local irreducible] J K aq Ends ag aI aC bF aW
section
variable{P:Program}{U:Tr}[hU:er P U]{f:FuncId}{n:Nat}{R:Ending→World→Prop}{G:bY}{k:List Item}{L:dS}{H H':List HP}{all:Array Oper}{rest:Pl}{ty:TypeId}{pos:String}{af:Array Edge}{gd:Option (Nat × Bool)}{d:Tmp}
theorem bU{Hs:List HP}{t:TypeId}{x:Operand}{b off:Nat}{bH:Ty}{l:List Value}{e:TypeId}{cs:List Value}(i:Nat)(hd:Nat.blt d n=true)(hx:ev L x=some (.pointer (some ⟨b,off,none⟩)))(hi:bS Hs i=some (ag b (cl l e)))(ht:U.get t=some bH)(hg:bH.isAgg=true)(hv:pK l off bH.info.size [] = .mk cs)(h:J P f n R G (fun w=>Sat G w Hs) all rest k ((d,.agg cs.toArray)::L) H):J P f n R G (fun w=>Sat G w Hs) all (.cons true true ⟨some d,.load t x,ty,pos,af,gd⟩ rest) k L H :=
 iX hd (fun a w ha hw=>by
  obtain⟨h1,h2⟩:=Af _ _ _ _ _ hv
  simp only[List.reverse_nil,List.nil_append]at h1
  have hc:∀j v,cs[j]?=some v→w.cell? ⟨b,off+j,none⟩=some v:=fun j v hj=>by
   grind [cH,Sat.qa]
  have:=fK (P:=P) ht hg (by rw[h1];simp;omega) hc
  simp[execOp,ha.ev hx,this]) h
end
end Go.Proofs.YtnkfkabokmcgoaaGreatDoor
namespace Go.Proofs.YtnkfkabokmcgoaaGreatDoor
open Go Go.SL
def WI:MV:=⟨.slice none 0 0,.slice none 0 0,.slice none 0 0,.slice none 0 0⟩
def mA(g:List Int)(k bt:Int):List Int:=if k∈g then g else if bt≤(g.length:Int)then g else g++[k]
attribute [local irreducible] J K aq Ends ag aI aC bF aW aP a6 aZ bN
def AM(k:Int)(d:Dg):aq Tryz.prog 73 [.int .i64 k,dV d] [] (fun r H=>r = .agg (mC WI { mQ.zero with kind:=k,hash:=d }).toArray∧H=[]):=by
 unfold dV
 refine aq.aj Tryz.func73 Tryz.ntmps73 fun G F R hE=>?_
 refine aH rfl ?_
 refine bp zr zr bh ?_
 intro b3
 refine az zr zr zr bh ?_
 intro b4
 refine go ?_
 refine aM (U:=aU) (l:=dC d) 1 zr zr zr zr zr zr (go ?_)
 (refine bg hE ?_;apply a7 (U:=aU) hE Tryz.func73 rfl (ao.refl _);(repeat(first|exact aQ.nil|apply aQ.agg 0 zr zr zr zr zr));exact⟨rfl,rfl⟩;exact ah)
def xK(b:Nat)(x:Int)(w:Bool):aq Tryz.prog 102 [ptr b] [ag b (cl [.int .i64 x,.bool w] 161)] (fun r H=>r = .tuple #[]∧H=[ag b (cl [.int .i64 x,.bool true] 161)]):=by
 refine aq.aj Tryz.func102 Tryz.ntmps102 fun G F R hE=>?_
 refine go ?_
 refine bB hE Tryz.func102 rfl _ rfl ⟨rfl,rfl⟩ ah
section
variable(nb:Nat)(id:Int)(S:Cs)(st tb bv kb hb ms mg:Nat)(pv:Value)(br:Bool)
def KJ(now:Int):aq Tryz.prog 72 [ptr nb,.int .i64 (-1),.int .i64 now] [ag nb (cl (dG id S st tb bv kb hb pv ms mg br) 73)] (fun r H=>r = .bool true∧H=[ag nb (cl (dG id S st tb bv kb hb pv ms mg br) 73)]):=by
 refine aq.aj Tryz.func72 Tryz.ntmps72 fun G F R hE=>?_
 refine go ?_
 refine ad hE Tryz.func72 zr zr ⟨rfl,rfl⟩
def Gu(g:List Int)(k:Int):aq Tryz.prog 91 [ptr nb,.int .i64 k,.func (.func 102) #[] #[] ] [ag nb (cl (dG id S st tb bv kb hb pv ms mg br) 73),aC (Value.int .i64) mg (gE g)]
  (fun r H=>r = .tuple #[]∧H=[ag nb (cl (dG id S st tb bv kb hb pv ms mg br) 73),aC (Value.int .i64) mg (gE (mA g k S.bt))]):=by
 have A9:=Fs g k
 have hgl:=KE g
 refine aq.aj Tryz.func91 Tryz.ntmps91 fun G F R hE=>?_
 refine go ?_
 refine Ex (U:=aU) (es:=gE g) (key:=k) 1 rfl fu zr zr zr zr zr zr zr zr ?_
 by_cases hk:k∈g
 ·rw[A9,if_pos hk]
  simp only[Option.getD_some,Option.isSome_some]
  refine go ?_
  refine az zr zr zr bh ?_
  intro b6
  refine go ?_
  refine aJ (fun w=>Sat G w ([ag nb (cl (dG id S st tb bv kb hb pv ms mg br) 73),ag b6 (cl [.int .i64 0,.bool true] 161),aC (Value.int .i64) mg (gE g)])) (cM 0 15 .nil) rfl ae ae ae cY ?_
  refine go ?_
  refine iC zr zr zr zr (xK b6 0 true) ah ?_ iE
  rintro _ _⟨rfl,rfl⟩
  refine go ?_
  refine aJ (fun w=>Sat G w ([ag nb (cl (dG id S st tb bv kb hb pv ms mg br) 73),ag b6 (cl [.int .i64 0,.bool true] 161)])) (cM 0 6 (.act 6 .nil)) rfl ae ae ae cY ?_
  refine go ?_
  refine bU (U:=aU) 1 zr zr zr zr zr zr (go ?_)
  refine cy (es:=gE g) (key:=k) 2 fu eW zr zr zr zr zr zr zr zr ?_
  have hs:=KD g k
  rw[if_pos hk]at hs
  rw[hs]
  have hn:mA g k S.bt=g:=by unfold mA;rw[if_pos hk]
  rw[hn]at hE
  refine go ?_
  refine bB hE Tryz.func91 rfl _ rfl ⟨rfl,rfl⟩ ah
 ·rw[A9,if_neg hk]
  simp only[Option.getD_none,Option.isSome_none]
  refine go ?_
  refine az zr zr zr bh ?_
  intro b6
  refine go ?_
  refine aJ (fun w=>Sat G w ([ag nb (cl (dG id S st tb bv kb hb pv ms mg br) 73),ag b6 (cl [.int .i64 0,.bool false] 161),aC (Value.int .i64) mg (gE g)])) (cM 0 15 .nil) rfl ae ae ae cY ?_
  refine go ?_
  refine rB (U:=aU) (es:=gE g) zr zr zr zr (fun w hw=>hw.eU (i:=2) rfl) ?_
  rw[hgl]
  refine go ?_
  by_cases hp:S.bt≤(g.length:Int)
  ·have hn:mA g k S.bt=g:=by unfold mA;rw[if_neg hk,if_pos hp]
   rw[hn]at hE
   refine aV 31 ((.bool true)) rfl ((congrArg Value.bool (decide_eq_true hp))) (go ?_)
   refine ad hE Tryz.func91 zr zr ⟨rfl,rfl⟩
  ·have hn:mA g k S.bt=g++[k]:=by unfold mA;rw[if_neg hk,if_neg hp]
   rw[hn]at hE
   refine aV 31 ((.bool false)) rfl ((congrArg Value.bool (decide_eq_false hp))) (go ?_)
   refine iC zr zr zr zr (xK b6 0 false) ah ?_ iE
   rintro _ _⟨rfl,rfl⟩
   refine go ?_
   refine aJ (fun w=>Sat G w ([ag nb (cl (dG id S st tb bv kb hb pv ms mg br) 73),ag b6 (cl [.int .i64 0,.bool true] 161)])) (cM 0 6 (.act 6 .nil)) rfl ae ae ae cY ?_
   refine go ?_
   refine bU (U:=aU) 1 zr zr zr zr zr zr (go ?_)
   refine cy (es:=gE g) (key:=k) 2 fu eW zr zr zr zr zr zr zr zr ?_
   have hs:=KD g k
   rw[if_neg hk]at hs
   rw[hs]
   refine go ?_
   refine bB hE Tryz.func91 rfl _ rfl ⟨rfl,rfl⟩ ah
def DQ(from_ now:Int)(v:MV)(m:mQ):aq Tryz.prog 39 [ptr nb,.int .i64 from_,.int .i64 now,.agg (mC v m).toArray] [ag nb (cl (dG id S st tb bv kb hb pv ms mg br) 73),aC dV ms [] ]
  (fun r H=>r = .tuple #[.slice none 0 0,.int .i64 0]∧H=[ag nb (cl (dG id S st tb bv kb hb pv ms mg br) 73),aC dV ms [] ]):=by
 refine aq.aj Tryz.func39 Tryz.ntmps39 fun G F R hE=>?_
 refine aH rfl ?_
 refine bp zr zr bh ?_
 intro b7
 refine go ?_
 refine aJ (fun w=>Sat G w ([ag nb (cl (dG id S st tb bv kb hb pv ms mg br) 73),ag b7 (cl (mC v m) 42),aC dV ms [] ])) (cM 0 12 .nil) rfl ae ae ae cY ?_
 refine go ?_
 refine bU (U:=aU) (cs:=dC m.hash) 1 zr zr zr zr zr zr (go ?_)
 refine dK (es:=([]:List (Dg × Value))) (key:=m.hash) rfl J7 zr zr zr zr zr zr zr (fun w hw=>hw.eU (i:=2) rfl) ?_
 refine go ?_
 refine aJ (fun w=>Sat G w ([ag nb (cl (dG id S st tb bv kb hb pv ms mg br) 73),ag b7 (cl (mC v m) 42)])) (cM 0 10 (.act 10 (.st 11 (.st 12 .nil)))) rfl ae ae ae cY ?_
 refine go ?_
 refine ad hE Tryz.func39 zr zr ⟨rfl,rfl⟩
def C3(now:Int)(v:MV)(m:mQ):aq Tryz.prog 96 [ptr nb,.int .i64 now,.agg (mC v m).toArray] [ag nb (cl (dG id S st tb bv kb hb pv ms mg br) 73),aC dV ms [] ]
  (fun r H=>r = .slice none 0 0∧H=[ag nb (cl (dG id S st tb bv kb hb pv ms mg br) 73),aC dV ms [] ]):=by
 refine aq.aj Tryz.func96 Tryz.ntmps96 fun G F R hE=>?_
 refine aH rfl ?_
 refine bp zr zr bh ?_
 intro b5
 refine go ?_
 refine aJ (fun w=>Sat G w ([ag nb (cl (dG id S st tb bv kb hb pv ms mg br) 73),ag b5 (cl (mC v m) 42),aC dV ms [] ])) (cM 0 12 .nil) rfl ae ae ae cY ?_
 refine go ?_
 refine bU (U:=aU) (cs:=dC m.hash) 1 zr zr zr zr zr zr (go ?_)
 refine dK (es:=([]:List (Dg × Value))) (key:=m.hash) rfl J7 zr zr zr zr zr zr zr (fun w hw=>hw.eU (i:=2) rfl) ?_
 refine go ?_
 refine ad hE Tryz.func96 zr zr ⟨rfl,rfl⟩
end
end Go.Proofs.YtnkfkabokmcgoaaGreatDoor
namespace Go.Proofs.YtnkfkabokmcgoaaGreatDoor
open Go Go.SL
attribute [local irreducible] J K aq Ends ag aI aC bF aW
def sH(A X:HP)(v:Value)(bs:List UInt8)(hv:Vw A v bs.length (bV bs))(hlen:bs.length≤9223372036854775807)(g:FuncId)(cap:List Value)(p:UInt8→Bool)(hf:∀x∈bs,aq Tryz.prog g (u8 x::cap) [X] (fun v H=>v = .bool (p x)∧H=[X])) :
  aq Tryz.prog 386 [v,.func (.func g) #[] cap.toArray] [A,X] (fun r H=>r = .int .i64 (gQ p bs)∧H=[A,X]):=by
 obtain⟨a,c0,rfl⟩:=hv.shape
 refine aq.enter Tryz.func386 ae rfl Tryz.ntmps386 zr zr ?_
 intro G F R hR
 refine go ?_
 refine bn (fun i:Nat=>i≤bs.length∧∀y∈bs.take i,p y=false) (fun i=>bs.length-i) (fun i=>[(0,.slice a bs.length c0),(1,.func (.func g) #[] cap.toArray),(7,.int .i64 bs.length),(8,.int .i64 i)]) (fun _=>[A,X]++F) 0 ⟨by simp,by simp⟩ rfl bQ (ao.refl _) ?_
 rintro i⟨hi,hb⟩ ih
 refine go ?_
 refine au zr zr ?_ ?_
 ·intro cq
  refine go ?_
  have dq:i<bs.length:=by omega
  obtain⟨b,o,eX,dW⟩:=hv.some (by rw[← List.length_pos_iff,bJ];omega)
  simp only[Value.slice.injEq]at dW
  obtain⟨rfl,_,rfl⟩:=dW
  refine bC i zr zr zr zr zr zr zr zr dq ?_
  have hx:bs[i]?=some bs[i]:=by simp[dq]
  refine s9 (U:=aU) 0 zr zr zr (hv.cell (u7 hx)) zr zr ?_
  refine bR [1] zr zr zr zr (hf bs[i] (List.getElem_mem dq)) rfl iE ?_
  rintro _ _⟨rfl,rfl⟩
  refine go ?_
  refine dj zr zr ?_ ?_
  ·intro hp
   refine go ?_
   refine aG hR Tryz.func386 rfl _ rfl ⟨by rw[gb hx hp hb];rfl,rfl⟩ (ao.fin [1,0] 0 zr zr)
  ·intro hp
   refine go ?_
   refine aK ih (i+1) rfl ⟨ai,jH hb hx hp⟩ ai bQ (ao.pick [1,0] rfl)
 ·intro ek
  refine go ?_
  have:i=bs.length:=by omega
  subst this
  refine aG hR Tryz.func386 rfl _ rfl ⟨by rw[gY (fun x hx=>hb x (by simpa using hx))];rfl,rfl⟩ (ao.fin [0,1] 0 zr zr)
def okc(x:UInt8):Bool:=decide (97≤x.toNat∧x.toNat≤122∨48≤x.toNat∧x.toNat≤57∨x.toNat=45∨x.toNat=46)
def Gf(X:HP)(x:UInt8):aq Tryz.prog 312 [u8 x] [X] (fun v H=>v = .bool (!okc x)∧H=[X]):=by
 refine aq.enter Tryz.func312 ae rfl Tryz.ntmps312 zr zr ?_
 intro G F R hR
 have hx:=Xd x
 repeat'(first|(with_reducible intro iI)|refine fq ?_|refine dw zr zr zr zr ?_ ?_|fail)
 all_goals refine aG hR Tryz.func312 rfl _ rfl ⟨congrArg Value.bool (by rw[Bool.eq_iff_iff];simp[okc];omega),rfl⟩ (ao.fin [0] 0 zr zr)
theorem pA(A X:HP)(v:Value)(bs:List UInt8)(hv:Vw A v bs.length (bV bs))(hlen:bs.length≤9223372036854775807)(g:FuncId)(cap:List Value)(p:UInt8→Bool)(hf:∀x∈bs,aq Tryz.prog g (u8 x::cap) [X] (fun v H=>v = .bool (p x)∧H=[X])) :
  aq Tryz.prog 313 [v,.func (.func g) #[] cap.toArray] [A,X] (fun r H=>r = .bool (bs.any p)∧H=[A,X]):=by
 refine aq.enter Tryz.func313 ae rfl Tryz.ntmps313 zr zr ?_
 intro G F R hR
 refine go ?_
 refine bR [0,1] zr zr zr zr (sH A X v bs hv hlen g cap p hf) rfl iE ?_
 rintro _ _⟨rfl,rfl⟩
 refine go ?_
 have hb:decide (0≤gQ p bs)=bs.any p:=by
  have := @jW _ p bs
  cases h:bs.any p with
  | false=>rw[h]at this;exact decide_eq_false (by have:=this.2 rfl;omega)
  | true =>
   grind
 refine aG hR Tryz.func313 rfl _ rfl ⟨congrArg Value.bool hb,rfl⟩ (ao.fin [0,1] 0 zr zr)
def isName(s:ByteArray):Bool:=decide (1≤s.size∧s.size≤80) && s.data.toList.all okc
theorem GH{s:ByteArray}(h1:1≤s.size)(h2:s.size≤80):isName s = !(s.data.toList.any fun x => !okc x):=by
 grind [isName]
theorem yW{s:ByteArray}(h1:s.size<1):isName s=false:=by simp[isName];omega
theorem AV{s:ByteArray}(h1:80<s.size):isName s=false:=by simp[isName];omega
theorem gW(A:HP)(v:Value)(l:List ByteArray)(hv:Vw A v l.length (l.map Value.string))(hlen:l.length≤1000000) :
  aq Tryz.prog 212 [v] [A] (fun r H=>r = .bool (l.all isName)∧H=[A]):=by
 obtain⟨a,c0,rfl⟩:=hv.shape
 refine aq.enter Tryz.func212 ae rfl Tryz.ntmps212 zr zr ?_
 intro G F R hR
 refine ak (ao.jw _) (go ?_)
 refine bn (fun i:Nat=>i≤l.length∧∀y∈l.take i,isName y=true) (fun i=>l.length-i) (fun i=>[(3,.func (.func 312) #[] #[]),(6,.slice a l.length c0),(7,.int .i64 l.length),(8,.int .i64 i)]) (fun _=>emp::([A]++F)) 0 ⟨by simp,by simp⟩ rfl bQ (ao.refl _) ?_
 rintro i⟨hi,hb⟩ ih
 refine go ?_
 refine au zr zr ?_ ?_
 ·intro cq
  refine go ?_
  have dq:i<l.length:=by omega
  obtain⟨b,o,eX,dW⟩:=hv.some (by rw[← List.length_pos_iff,List.length_map];omega)
  simp only[Value.slice.injEq]at dW
  obtain⟨rfl,_,rfl⟩:=dW
  refine bC i zr zr zr zr zr zr zr zr dq ?_
  obtain⟨s,hs⟩:∃s,l[i]?=some s:=⟨l[i],by simp[dq]⟩
  refine s9 (U:=aU) 1 zr zr zr (hv.cell (c := .string s) (by simp[hs])) zr zr ?_
  have dF:s∈l:=List.mem_of_getElem? hs
  repeat'(first|(with_reducible intro iI)|refine fq ?_|refine dw zr zr zr zr ?_ ?_|fail)
  ·have hn:l.all isName=false:=by
    grind [yW]
   refine aG hR Tryz.func212 rfl _ rfl ⟨congrArg Value.bool hn.symm,rfl⟩ (ao.fin [1] 1 zr zr)
  ·have hn:l.all isName=false:=by
    grind [AV]
   refine aG hR Tryz.func212 rfl _ rfl ⟨congrArg Value.bool hn.symm,rfl⟩ (ao.fin [1] 1 zr zr)
  ·have y4:=GH (s:=s) ai ai
   refine HX (U:=aU) zr zr zr zr zr zr zr zr (fun _ _ _ _=>trivial) ?_
   intro bb cc
   refine go ?_
   refine bR [0,1] zr zr zr zr (pA (aW bb s _ cc) emp _ s.data.toList (by simpa using CL bb s _ cc cc) (by simp;omega) _ [] _ (fun x _=>Gf emp x)) rfl iE ?_
   rintro _ _⟨rfl,rfl⟩
   refine go ?_
   refine dj zr zr ?_ ?_
   ·intro ht
    refine go ?_
    have hn:l.all isName=false:=by
     grind
    refine aG hR Tryz.func212 rfl _ rfl ⟨congrArg Value.bool hn.symm,rfl⟩ (ao.fin [2] 2 zr zr)
   ·intro hf
    refine go ?_
    refine aK ih (i+1) rfl ⟨ai,jH hb hs (by rw[y4,hf];rfl)⟩ ai bQ (ao.to [1,2] 1 zr zr zr)
 ·intro ek
  refine go ?_
  have:i=l.length:=by omega
  subst this
  refine aG hR Tryz.func212 rfl _ rfl ⟨congrArg Value.bool (by rw[eq_comm,List.all_eq_true];intro x hx;exact hb x (by simpa using hx)),rfl⟩ (ao.fin [1] 1 rfl rfl)
theorem FY(A:HP)(v1 v2:Value)(old b:List UInt8)(at_:Nat)(h1:Vw A v1 old.length (bV old))(h2:Vw A v2 b.length (bV b))(hb:old.length+at_+b.length≤1000000000) :
  aq Tryz.prog 278 [v1,.int .i64 at_,v2] [A] (fun r H=>∃bl cap,r = .slice (some ⟨bl,0,none⟩) (ea old at_ b).length cap∧(ea old at_ b).length≤cap∧H=[ag bl (cl (bV (ea old at_ b)) 5),A]):=by
 obtain⟨a1,c1,rfl⟩:=h1.shape
 obtain⟨a2,c2,rfl⟩:=h2.shape
 refine aq.enter Tryz.func278 ae rfl Tryz.ntmps278 zr zr ?_
 intro G F R hR
 refine go ?_
 have hN:(max old.length (at_+b.length):Nat)=max old.length (at_+b.length):=rfl
 generalize hM:max old.length (at_+b.length)=M at *
 refine aD 14 (.int .i64 (M:Int)) rfl (congrArg (Value.int .i64) ai) ?_
 refine gD (p:=M) (q:=M) zr zr zr zr zr zr zr zr zr (Nat.le_refl _) ai (by show 1*M≤_;omega) bh ?_
 intro bl
 refine go ?_
 refine Ly (U:=aU) (src:=bV old) (mm:=old.length) (l':=bV (old++List.replicate (M-old.length) 0)) 0 1 zr zr zr zr zr zr zr zr h1 (by show _=_*1;rw[bJ];omega) (dm old) (by show 0+_*1≤_;simp;omega) ?_ rfl eW ?_
 ·show bV (old++List.replicate (M-old.length) 0)=List.take 0 (List.replicate M (Value.int .u8 0))++List.take (min old.length M*1) (bV old)++List.drop (0+min old.length M*1) (List.replicate M (Value.int .u8 0))
  have e:min old.length M*1=old.length:=by omega
  rw[e,List.take_of_length_le (l:=bV old) (by rw[bJ];omega)]
  simp[bV,u8]
 refine go ?_
 refine hD zr zr zr zr zr zr zr ai ai (.inl rfl) ?_
 intro o' Fe N'
 have hA:at_≠M→o'=at_:=fun h=>by have:=Fe (by simpa using h);rw[this];show 0+(at_:Int).toNat*1=at_;simp
 have hB:at_=M→o'=0:=fun h=>N' (by simpa using h)
 clear Fe N'
 have abk:(min b.length ((M:Int).toNat-(at_:Int).toNat))*1=b.length:=by simp;omega
 refine go ?_
 refine Ly (U:=aU) (src:=bV b) (mm:=b.length) (l':=bV (ea old at_ b)) 0 1 zr zr zr zr zr zr zr zr h2 (by show _=_*1;rw[bJ];omega) (dm b) ?_ ?_ rfl eW ?_
 ·show o'+(min b.length ((M:Int).toNat-(at_:Int).toNat))*1≤_
  grind [bJ]
 ·show bV (ea old at_ b)=List.take o' _++List.take (min b.length ((M:Int).toNat-(at_:Int).toNat)*1) (bV b)++List.drop (o'+min b.length ((M:Int).toNat-(at_:Int).toNat)*1) _
  rw[abk,List.take_of_length_le (l:=bV b) (by rw[bJ];omega)]
  have Vy:at_+b.length-old.length=M-old.length:=by omega
  unfold ea
  rw[Vy]
  by_cases h:at_=M
  ·have h3:=hB h
   have h4:b=[]:=List.eq_nil_of_length_eq_zero ai
   grind [bV]
  ·rw[hA h]
   simp[bV]
 ·have hl:(ea old at_ b).length=M:=by unfold ea;simp;omega
  rw[← hl]
  refine go ?_
  refine aG hR Tryz.func278 rfl _ rfl ⟨bl,_,rfl,Nat.le_refl _,rfl⟩ (ao.fin [0,1] 0 zr zr)
end Go.Proofs.YtnkfkabokmcgoaaGreatDoor
