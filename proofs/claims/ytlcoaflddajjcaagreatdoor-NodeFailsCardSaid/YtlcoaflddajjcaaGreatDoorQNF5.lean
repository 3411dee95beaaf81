import Derived.Test.YtlcoaflddajjcaaGreatDoorQNF2
import Derived.Test.YtlcoaflddajjcaaGreatDoorQNF3
import Derived.Test.YtlcoaflddajjcaaGreatDoorQNF4
import Derived.Laws.StructEq
set_option linter.unusedSimpArgs false
set_option linter.unusedVariables false
set_option maxRecDepth 20000
set_option linter.defProp false
namespace Go.Proofs.YtlcoaflddajjcaaGreatDoor
open Go Go.SL
attribute [local irreducible] J K au Ends ae aB aI bB aW aS a7 aX bF Sha.chunks Sha.chunk Sha.rounds Sha.sched ej
theorem xk(A:HP)(v:Value)(b:List UInt8)(hv:ew A v b)(hl:b.length≤1000000000):au Tryz.prog 227 [v] [A] (fun r H=>H=[aB 5 1 r b.length (bV b),A]):=by
 obtain⟨a,c,rfl,hc⟩:=hv.2
 refine au.ak Tryz.func227 Tryz.ntmps227 fun G F R hE=>?_
 cases a with
 | none =>
  have hb:b=[]:=by
   obtain⟨a,cap,h1,h2|⟨x,o,h2,_⟩⟩:=hv.1
   ·simpa[bV]using h2
   grind
  subst hb
  refine go ?_
  refine al (bg 5 1 none _) ?_
  refine aK hE Tryz.func227 rfl _ zr zr ag
 | some a =>
  refine go ?_
  refine aj zr zr zr zr zr zr zr zr zr bh ?_
  intro b0
  refine go ?_
  (refine aN (ef 5 1 b0 0 0 [] [] _ rfl (Nat.le_refl _) (by simp)) ?_;refine aJ (mm:=(b).length) (news:=bV (b)) 0 1 zr zr zr zr zr zr zr zr zr zr zr zr (hv.1) (by show _=_*1;rw[bD];omega) (cB _) ai (by show(_+_)*1≤_;omega) (fun _=>rfl) bh ?_;intro vA;rw[Nat.zero_add,List.nil_append];((refine aH 0 rfl ?_));rintro aA cA rfl)
  refine go ?_
  refine aK hE Tryz.func227 rfl _ zr zr ag
theorem Bi(A:HP)(hK:pY A)(v:Value)(b:List UInt8)(hv:ew A v b)(hl:b.length≤1000000000) :
    au Tryz.prog 118 [v] [A] (fun r H=>r=dV (ej b)∧H=[A]):=by
  obtain⟨a,c,rfl,hc⟩:=hv.2
  refine au.ak Tryz.func118 Tryz.ntmps118 fun G F R hE=>?_
  refine aD rfl ?_
  refine az zr zr zr bh ?_
  intro b2
  refine oe ?_
  refine aD rfl ?_
  refine iC (U:=aU) (cs:=wV Sha.start.l) zr zr zr zr zr zr ?_
  refine az zr zr zr bh ?_
  intro b3
  refine cH (U:=aU) (l':=wV Sha.start.l) 0 e8 zr zr zr zr (by decide) (eF _) zr zr zr ?_
  refine aN (H':=ae b3 (cl (wV (Sha.chunks Sha.start b 0).l) 351)::ae b2 (cl (dC Dg.zero) 32)::A::F) (by unfold Sha.chunks;exact ag) ?_
  refine go ?_
  refine mT zr zr zr ai ai (by simp only[fz];omega) ?_
  refine go ?_
  refine eN zr zr zr (by simp only[fz];omega) ?_
  refine aG 15 ((.int .i64 ((64*(b.length/64):Nat):Int))) rfl ((congrArg (Value.int .i64) ai)) (go ?_)
  refine bj (fun q:Nat=>q≤b.length/64) (fun q=>b.length/64-q)
    (fun q=>[(0,.slice a b.length c),(2,ptr b2),(3,ptr b3),(4,.int .i64 ((64*(b.length/64):Nat):Int)),(5,.int .i64 ((64*q:Nat):Int))])
    (fun q=>ae b3 (cl (wV (Sha.chunks Sha.start b q).l) 351)::ae b2 (cl (dC Dg.zero) 32)::A::F) 0 (Nat.zero_le _) rfl bS ag ?_
  rintro q hq ih
  refine go ?_
  refine aq zr zr ?_ ?_
  · intro cL
    have hq1:q<b.length/64:=by omega
    have lA:=hv.cut (64*q) ai
    have jl:=BR A hK _ _ lA (by rw[List.length_drop];omega) (Sha.chunks Sha.start b q)
    have u6:Sha.chunk (Sha.chunks Sha.start b q) (b.drop (64*q))=Sha.chunks Sha.start b (q+1):=by conv=>rhs;unfold Sha.chunks
    rw[u6]at jl
    have Jl:∀s:Sha.St,(wV s.l).length=8:=fun s=>rfl
    refine go ?_
    refine aL (fun w=>Sat G w ([ae b3 (cl (wV (Sha.chunks Sha.start b q).l) 351)])) (cJ 0 4 (.act 4 (.act 5 .nil))) rfl ah ah ah dv ?_
    refine go ?_
    refine bX (U:=aU) 0 zr zr zr zr zr zr (go ?_)
    refine bw (p:=((64*q:Nat):Int)) (q:=(b.length:Int)) zr zr zr zr zr zr zr ai ai (.inl rfl) ?_
    refine aG 24 ((.slice (sliceAt a c (64*q) 1) (b.length-64*q) (c-64*q))) rfl (rfl) ?_
    refine bE jl ?_
    unfold Of
    refine aY ?_
    refine cH (U:=aU) 1 e8 rfl rfl rfl rfl (by intro e;have:=congrArg List.length e;rw[Jl]at this;cases this) (eF _) rfl (by rw[Jl,Jl]) rfl ?_
    refine go ?_
    refine bq 5 ((.int .i64 ((64*(q+1):Nat):Int))) rfl ((congrArg (Value.int .i64) ai)) ?_
    refine aM ih (q+1) rfl ai ai bS ag
  intro ep
  have Y1:q=b.length/64:=by omega
  subst Y1
  clear ih
  have lA:=hv.cut (64*(b.length/64)) ai
  obtain⟨B1,hB1⟩:∃B1,B1=b.drop (64*(b.length/64)):=⟨_,rfl⟩
  have ZD:B1.length=b.length-64*(b.length/64):=by rw[hB1,List.length_drop]
  rw[← hB1,← ZD]at lA
  refine go ?_
  refine bw (p:=((64*(b.length/64):Nat):Int)) (q:=(b.length:Int)) zr zr zr zr zr zr zr ai ai (.inl rfl) ?_
  ((refine aG 28 ((.slice (sliceAt a c (64*(b.length/64)) 1) B1.length (c-64*(b.length/64)))) rfl ((by rw[ZD];rfl)) ?_))
  refine go ?_
  refine aF (xk A _ B1 lA ai) ?_
  rintro r _ rfl
  refine aH 0 rfl ?_
  rintro ra rc rfl
  refine go ?_
  (refine aj (cs:=bV [(128:UInt8)]) zr zr zr zr zr zr zr zr zr bh ?_;intro bA;refine aJ (mm:=1) (news:=bV [(128:UInt8)]) 1 0 zr zr zr zr zr zr zr zr zr zr zr zr (Vw.ae rfl) rfl (cB _) ai (by show(_+_)*1≤_;omega) (fun _=>rfl) bh ?_;intro vA;rw[show bV (B1)++bV [(128:UInt8)]=bV ((B1)++[(128:UInt8)])from by simp[bV],show(B1).length+1=((B1)++[(128:UInt8)]).length from(@List.length_append _ (B1) [(128:UInt8)]).symm];((refine aH 1 rfl ?_));rintro aA cA rfl)
  refine go ?_
  obtain⟨z,hz⟩:∃z,z=(119-b.length%64)%64:=⟨_,rfl⟩
  have hz1:(B1.length+1+z)%64=56:=by omega
  have QG:z<64:=by omega
  have acA:B1.length<64:=by omega
  have mW:∀j:Nat,(B1++128::List.replicate j (0:UInt8)).length=B1.length+1+j:=fun j=>by simp;omega
  obtain⟨S1,ZB⟩:∃S1,S1=Sha.chunks Sha.start b (b.length/64):=⟨_,rfl⟩
  rw[← ZB]
  refine bj (fun y:Nat × Option Addr × Nat=>y.1≤z) (fun y=>z-y.1)
    (fun y=>[(0,.slice a b.length c),(2,ptr b2),(3,ptr b3),(6,.slice y.2.1 (B1++128::List.replicate y.1 (0:UInt8)).length y.2.2)])
    (fun y=>aB 5 1 (.slice y.2.1 (B1++128::List.replicate y.1 (0:UInt8)).length y.2.2) (B1++128::List.replicate y.1 (0:UInt8)).length (bV (B1++128::List.replicate y.1 (0:UInt8)))::A::ae b3 (cl (wV S1.l) 351)::ae b2 (cl (dC Dg.zero) 32)::F) (0,aA,cA) (Nat.zero_le _) rfl bS ag ?_
  rintro⟨j,a2,c2⟩ hj ih
  simp only at hj
  have xX:=mW j
  dsimp only
  refine go ?_
  refine lT zr zr zr ai ai (go ?_)
  refine aq zr zr ?_ ?_
  · intro fu
    have hjz : j < z := by rcases Nat.lt_or_ge j z with h | h; exact h; exfalso; apply fu; rw [xX]; have : j = z := by omega
                           subst this;omega
    refine go ?_
    (refine aj (cs:=bV [(0:UInt8)]) zr zr zr zr zr zr zr zr zr bh ?_;intro bA;refine aJ (mm:=1) (news:=bV [(0:UInt8)]) 1 0 zr zr zr zr zr zr zr zr zr zr zr zr (Vw.ae rfl) rfl (cB _) (by(rw[xX];omega)) (by show(_+_)*1≤_;(rw[xX];omega)) (fun _=>rfl) bh ?_;intro vA;rw[show bV ((B1++128::List.replicate j (0:UInt8)))++bV [(0:UInt8)]=bV (((B1++128::List.replicate j (0:UInt8)))++[(0:UInt8)])from by simp[bV],show((B1++128::List.replicate j (0:UInt8))).length+1=(((B1++128::List.replicate j (0:UInt8)))++[(0:UInt8)]).length from(@List.length_append _ ((B1++128::List.replicate j (0:UInt8))) [(0:UInt8)]).symm];((refine aH 1 rfl ?_));rintro aA cA rfl)
    rw[show B1++128::List.replicate j (0:UInt8)++[0]=B1++128::List.replicate (j+1) (0:UInt8)from by rw[List.replicate_succ'];simp]
    refine go ?_
    refine aM ih (j+1,aA,cA) rfl (by simp only;omega) (by simp only;omega) bS ag
  intro heq
  have hjz:j=z:=by
    grind
  subst hjz
  clear ih
  obtain⟨T0,M8⟩:∃T0,T0=B1++128::List.replicate j (0:UInt8):=⟨_,rfl⟩
  rw[← M8]at xX ⊢
  have Pv:∀i:Nat,i≤8→(T0++(Sha.nI (8*b.length)).take i).length=T0.length+i:=fun i hi=>by
    rw[List.length_append,List.length_take];simp only[Sha.nI,List.length_map,List.length_range];omega
  refine go ?_
  refine bj (fun y:Nat × Option Addr × Nat=>y.1≤8) (fun y=>8-y.1)
    (fun y=>[(0,.slice a b.length c),(2,ptr b2),(3,ptr b3),(6,.slice y.2.1 (T0++(Sha.nI (8*b.length)).take y.1).length y.2.2),(39,.int .i64 (y.1:Int))])
    (fun y=>aB 5 1 (.slice y.2.1 (T0++(Sha.nI (8*b.length)).take y.1).length y.2.2) (T0++(Sha.nI (8*b.length)).take y.1).length (bV (T0++(Sha.nI (8*b.length)).take y.1))::A::ae b3 (cl (wV S1.l) 351)::ae b2 (cl (dC Dg.zero) 32)::F) (0,a2,c2) (Nat.zero_le _) rfl (by simp only[List.take_zero,List.append_nil];exact bS) (by simp only[List.take_zero,List.append_nil];exact ag) ?_
  rintro⟨i,a3,c3⟩ hi ih
  simp only at hi
  have Hm:=Pv i hi
  dsimp only
  refine go ?_
  refine aq zr zr ?_ ?_
  · intro cL
    have Jp:i<8:=by omega
    have PJ:(Sha.nI (8*b.length)).take (i+1)=(Sha.nI (8*b.length)).take i++[UInt8.ofNat (8*b.length/2 ^ (56-8*i))]:=by
      rw[List.take_add_one];simp[Sha.nI,Jp]
    refine go ?_
    refine pt zr zr zr ai ?_
    refine aG 46 ((.int .u64 ((8*b.length:Nat):Int))) rfl ((y5 (x:=b.length) (q:=3) ai ai ai)) (go ?_)
    refine eN zr zr zr (by simp only[fz];omega) ?_
    refine go ?_
    refine aG 49 ((.int .i64 ((56-8*i:Nat):Int))) rfl ((congrArg (Value.int .i64) ai)) ?_
    refine iI zr zr zr ai ?_
    ((refine aG 50 ((.int .u64 ((8*b.length/2 ^ (56-8*i):Nat):Int))) rfl ((congrArg (Value.int .u64) (by rw[Int.toNat_natCast,show min (56-8*i) IntKind.u64.bits=56-8*i from by show min (56-8*i) 64=_;omega];simp))) ?_))
    refine ed ?_
    refine gR zr zr zr zr zr zr ?_
    refine aG 51 ((u8 (UInt8.ofNat (8*b.length/2 ^ (56-8*i))))) rfl ((kA _)) ?_
    (refine aj (cs:=bV [(UInt8.ofNat (8*b.length/2 ^ (56-8*i)))]) zr zr zr zr zr zr zr zr zr bh ?_;intro bA;refine aJ (mm:=1) (news:=bV [(UInt8.ofNat (8*b.length/2 ^ (56-8*i)))]) 1 0 zr zr zr zr zr zr zr zr zr zr zr zr (Vw.ae rfl) rfl (cB _) (by(rw[Hm];omega)) (by show(_+_)*1≤_;(rw[Hm];omega)) (fun _=>rfl) bh ?_;intro vA;rw[show bV ((T0++(Sha.nI (8*b.length)).take i))++bV [(UInt8.ofNat (8*b.length/2 ^ (56-8*i)))]=bV (((T0++(Sha.nI (8*b.length)).take i))++[(UInt8.ofNat (8*b.length/2 ^ (56-8*i)))])from by simp[bV],show((T0++(Sha.nI (8*b.length)).take i)).length+1=(((T0++(Sha.nI (8*b.length)).take i))++[(UInt8.ofNat (8*b.length/2 ^ (56-8*i)))]).length from(@List.length_append _ ((T0++(Sha.nI (8*b.length)).take i)) [(UInt8.ofNat (8*b.length/2 ^ (56-8*i)))]).symm];((refine aH 1 rfl ?_));rintro aA cA rfl)
    rw[show T0++(Sha.nI (8*b.length)).take i++[UInt8.ofNat (8*b.length/2 ^ (56-8*i))]=T0++(Sha.nI (8*b.length)).take (i+1)from by rw[PJ,List.append_assoc]]
    refine go ?_
    refine aM ih (i+1,aA,cA) rfl (by simp only;omega) (by simp only;omega) bS ag
  intro ep
  have Jp:i=8:=by omega
  subst Jp
  clear ih
  have CO:=Sha.Im b
  rw[← ZB,← hB1]at CO
  have abY:B1++Sha.pad b.length=T0++(Sha.nI (8*b.length)).take 8:=by
    rw[M8,List.take_of_length_le (by simp[Sha.nI])]
    unfold Sha.pad
    grind
  rw[abY]at CO
  generalize T0++(Sha.nI (8*b.length)).take 8=T at Hm CO ⊢
  have aek:T.length%64=0:=by omega
  have hTl:T.length≤1000000200:=by omega
  clear xX Pv abY M8 mW hB1 ZD lA hz hz1 QG acA ZB Hm
  have Jl:∀s:Sha.St,(wV s.l).length=8:=fun s=>rfl
  refine qP (bs:=T) 0 rfl ?_
  intro Pe
  have YS:ew (Sep [aB 5 1 (.slice a3 T.length c3) T.length (bV T),A]) (.slice a3 T.length c3) T:=Pe.mono (bn (i:=0) rfl)
  have hK2:pY (Sep [aB 5 1 (.slice a3 T.length c3) T.length (bV T),A]):=hK.mono (bn (i:=1) rfl)
  refine al (ao.bK [_,_] _) (go ?_)
  refine bj (fun q:Nat=>q≤T.length/64) (fun q=>T.length/64-q)
    (fun q=>[(2,ptr b2),(3,ptr b3),(6,.slice a3 T.length c3),(8,.int .i64 ((64*q:Nat):Int))])
    (fun q=>Sep [aB 5 1 (.slice a3 T.length c3) T.length (bV T),A]::ae b3 (cl (wV (Sha.chunks S1 T q).l) 351)::ae b2 (cl (dC Dg.zero) 32)::F) 0 (Nat.zero_le _) rfl bS (by unfold Sha.chunks;exact ag) ?_
  rintro q hq ih
  refine go ?_
  refine aq zr zr ?_ ?_
  · intro cL
    have hq1:q<T.length/64:=by omega
    have lA:=YS.cut (64*q) ai
    have jl:=BR _ hK2 _ _ lA (by rw[List.length_drop];omega) (Sha.chunks S1 T q)
    have u6:Sha.chunk (Sha.chunks S1 T q) (T.drop (64*q))=Sha.chunks S1 T (q+1):=by conv=>rhs;unfold Sha.chunks
    rw[u6]at jl
    refine go ?_
    refine aL (fun w=>Sat G w ([ae b3 (cl (wV (Sha.chunks S1 T q).l) 351)])) (cJ 0 4 (.act 4 (.act 5 .nil))) rfl ah ah ah dv ?_
    refine go ?_
    refine bX (U:=aU) 0 zr zr zr zr zr zr (go ?_)
    refine bw (p:=((64*q:Nat):Int)) (q:=(T.length:Int)) zr zr zr zr zr zr zr ai ai (.inl rfl) ?_
    refine aG 64 ((.slice (sliceAt a3 c3 (64*q) 1) (T.length-64*q) (c3-64*q))) rfl (rfl) ?_
    refine bE jl ?_
    unfold Of
    refine aY ?_
    refine cH (U:=aU) 1 e8 rfl rfl rfl rfl (by intro e;have:=congrArg List.length e;rw[Jl]at this;cases this) (eF _) rfl (by rw[Jl,Jl]) rfl ?_
    refine go ?_
    refine bq 8 ((.int .i64 ((64*(q+1):Nat):Int))) rfl ((congrArg (Value.int .i64) ai)) ?_
    refine aM ih (q+1) rfl ai ai bS ag
  intro ep
  have Y1:q=T.length/64:=by omega
  subst Y1
  rw[← CO]
  have nX:(ej b).bs=Sha.out (Sha.chunks Sha.start (Sha.msg b) ((Sha.msg b).length/64)):=GL b
  clear CO ih
  generalize Sha.chunks Sha.start (Sha.msg b) ((Sha.msg b).length/64)=S2 at nX ⊢
  refine al (ao.bY _ _) (go ?_)
  refine az zr zr zr bh ?_
  intro b9
  refine go ?_
  have QS:=Sha.AJ S2
  have CV:∀i,i≤32→((Sha.out S2).take i++List.replicate (32-i) (0:UInt8)).length=32:=fun i hi=>by
    grind
  refine bj (fun i:Nat=>i≤32) (fun i=>32-i)
    (fun i=>[(2,ptr b2),(3,ptr b3),(9,ptr b9),(66,.int .i64 (i:Int))])
    (fun i=>ae b9 (cl (bV ((Sha.out S2).take i++List.replicate (32-i) (0:UInt8))) 32)::ae b3 (cl (wV S2.l) 351)::ae b2 (cl (dC Dg.zero) 32)::A::F) 0 (Nat.zero_le _) rfl bS ag ?_
  rintro i hi ih
  refine go ?_
  refine aq zr zr ?_ ?_
  · intro cL
    have rN:i<32:=by omega
    have hq4:(i:Int)/4=((i/4:Nat):Int):=by omega
    have hr4:24-8*((i:Int)%4)=((24-8*(i%4):Nat):Int):=by omega
    have Pb:(wV S2.l)[i/4]?=some (u32 (S2.l.getD (i/4) 0)):=gp (by rw[List.getD_eq_getElem?_getD,List.getElem?_eq_getElem (show i/4<S2.l.length from by show i/4<8;omega)];rfl)
    have Je:(Sha.out S2)[i]?=some (UInt8.ofNat ((S2.l.getD (i/4) 0) >>> (24-8*(i%4))).toNat):=by simp[Sha.out,rN]
    (repeat(first|refine er ?_|refine mT zr zr zr ai ai (by simp only[fz];omega) ?_|refine lT zr zr zr ai ai ?_|refine eN zr zr zr (by simp only[fz];omega) ?_|refine dI (U:=aU) (i/4) zr zr zr zr zr zr zr hq4 ai ?_|(refine aP ?_;refine lu (U:=aU) 1 (i/4) zr zr zr (Nat.zero_add _) Pb zr zr ?_)|refine pq (24-8*(i%4)) zr zr zr hr4 ai ?_|(refine ed ?_;refine Ac (U:=aU) zr zr zr zr zr zr ?_)|refine dI (U:=aU) i zr zr zr zr zr zr zr zr rN ?_))
    refine aY ?_
    refine fO (U:=aU) 0 e8 zr zr zr zr zr zr zr (by rw[bD,CV i ai];omega) rfl ?_
    rw[show 0+i=i from Nat.zero_add _,Cj QS Je]
    refine go ?_
    refine aM ih (i+1) rfl ai ai bS ag
  intro ep
  have rN:i=32:=by omega
  subst rN
  rw[List.take_of_length_le ai,show 32-32=0 from rfl,List.replicate_zero,List.append_nil,← nX,← dW]
  clear ih CV QS nX
  have hd:(dC (ej b)).length=32:=rfl
  have eM:gF (dC (ej b))=true:=by rw[dW];exact kP _
  have hdv:dV (ej b) = .agg (dC (ej b)).toArray:=rfl
  rw[hdv]at hE
  generalize dC (ej b)=cs at hd eM hE ⊢
  refine go ?_
  refine aO (U:=aU) 0 zr zr zr zr zr hd ?_
  refine cH (U:=aU) 2 e8 rfl rfl rfl hd (by intro e;rw[e]at hd;cases hd) eM rfl (by rw[hd];rfl) rfl ?_
  refine go ?_
  refine iA (U:=aU) 2 hE Tryz.func118 zr zr zr zr zr hd rfl ⟨rfl,rfl⟩ ag
end Go.Proofs.YtlcoaflddajjcaaGreatDoor
namespace Go.SL
open Go
def Ao(n:Nat):UInt8:=UInt8.ofNat (if n<10 then 48+n else 87+n)
def kz(c:UInt8):Option Nat:=if 48≤c.toNat∧c.toNat≤57 then some (c.toNat-48)else if 97≤c.toNat∧c.toNat≤102 then some (c.toNat-87)else none
def mU(s:List UInt8)(i:Nat):Nat:=(kz (s.getD i 0)).getD 0
def tZ(d:Dg)(i:Nat):UInt8:=Ao (if i%2=0 then(d.at (i/2)).toNat/16 else(d.at (i/2)).toNat%16)
def hG(d:Dg):List UInt8:=(List.range 64).map (tZ d)
theorem mw(d:Dg):(hG d).length=64:=by simp[hG]
def my(d:Dg){i:Nat}(h:i<64):(hG d)[i]?=some (tZ d i):=by simp[hG,h]
def D9(s:List UInt8)(i:Nat):List UInt8:=(List.range 32).map fun j=>UInt8.ofNat (if 2*j+1<i then 16*mU s (2*j)+mU s (2*j+1)else if 2*j<i then mU s (2*j)else 0)
theorem lI(s:List UInt8)(i:Nat):(D9 s i).length=32:=by simp[D9]
theorem rF(s:List UInt8)(i:Nat){j:Nat}(h:j<32):(D9 s i)[j]?=some (UInt8.ofNat (if 2*j+1<i then 16*mU s (2*j)+mU s (2*j+1)else if 2*j<i then mU s (2*j)else 0)):=by simp[D9,h]
theorem LW(s:List UInt8):D9 s 0=List.replicate 32 0:=by
 apply List.ext_getElem?
 grind [rF,lI]
theorem PC{c:UInt8}{v:Nat}(h:kz c=some v):v<16:=by
 grind [kz]
theorem AR(s:List UInt8)(i:Nat):mU s i<16:=by
 grind [mU,kz,PC]
def M3{n:Nat}(h:n<16):kz (Ao n)=some n:=by
 have:∀n:Nat,n<16→kz (Ao n)=some n:=by decide
 exact this n h
theorem Ln{c:UInt8}{v:Nat}(h:kz c=some v):Ao v=c:=by
 apply UInt8.toNat.inj
 unfold kz at h
 unfold Ao
 simp only[UInt8.toNat_ofNat']
 grind
def iQ(s:List UInt8):Option Dg:=if s.length=64∧∀c∈s,kz c≠none then some ⟨D9 s 64,lI s 64⟩else none
theorem u9{s:List UInt8}{i:Nat}{c:UInt8}(h:s[i]?=some c):s.getD i 0=c:=by rw[List.getD_eq_getElem?_getD,h];rfl
def vP(d:Dg)(i:Nat):kz (tZ d i)=some (if i%2=0 then(d.at (i/2)).toNat/16 else(d.at (i/2)).toNat%16):=by
 have:=(d.at (i/2)).toNat_lt
 exact M3 (by split <;> omega)
def Dg.Nu(d:Dg){j:Nat}(h:j<32):d.bs[j]?=some (d.at j):=by
 unfold Dg.at
 rw[List.getD_eq_getElem?_getD,List.getElem?_eq_getElem (by rw[d.len];exact h)];rfl
theorem ET(d:Dg):iQ (hG d)=some d:=by
  unfold iQ
  rw[if_pos ⟨mw d,fun c hc=>by
    obtain⟨i,hi,rfl⟩:=List.mem_map.1 hc
    rw[vP];simp⟩]
  congr 1
  obtain⟨bs,hl⟩:=d
  simp only[Dg.mk.injEq]
  apply List.ext_getElem?
  intro j
  rcases Nat.lt_or_ge j 32 with h|h
  · rw[rF _ _ h,if_pos ai,(⟨bs,hl⟩:Dg).Nu h]
    unfold mU
    rw[u9 (my _ (show 2*j<64 by omega)),u9 (my _ (show 2*j+1<64 by omega)),vP,vP]
    simp only[Option.getD_some,Option.some.injEq]
    rw[if_pos ai,if_neg ai,show 2*j/2=j from by omega,show(2*j+1)/2=j from by omega]
    apply UInt8.toNat.inj
    simp only[UInt8.toNat_ofNat']
    have:=((⟨bs,hl⟩:Dg).at j).toNat_lt
    omega
  grind [lI]
theorem El{s:List UInt8}{d:Dg}(h:iQ s=some d):s=hG d:=by
 unfold iQ at h
 split at h
 ·rename_i hs
  cases h
  apply List.ext_getElem?
  intro i
  rcases Nat.lt_or_ge i 64 with hi|hi
  ·rw[my _ hi]
   obtain⟨c,hc⟩:∃c,s[i]?=some c:=⟨s[i],List.getElem?_eq_getElem ai⟩
   rw[hc]
   congr 1
   obtain⟨v,hv⟩:=Option.ne_none_iff_exists'.1 (hs.2 c (List.mem_of_getElem? hc))
   rw[← Ln hv]
   unfold tZ
   congr 1
   have hat:(Dg.at ⟨D9 s 64,lI s 64⟩ (i/2))=UInt8.ofNat (16*mU s (2*(i/2))+mU s (2*(i/2)+1)):=by
    grind [Dg.at,u9,rF]
   rw[hat]
   have h1:=AR s (2*(i/2))
   have h2:=AR s (2*(i/2)+1)
   have h3:mU s i=v:=by unfold mU;rw[u9 hc,hv];rfl
   simp only[UInt8.toNat_ofNat']
   grind
  grind [mw]
 ·cases h
def eS(kind:List UInt8)(d:Dg):ByteArray:=strOf (kind++hG d)
def gT(kind:List UInt8)(name:ByteArray):Option Dg:=if kind.isPrefixOf name.data.toList then iQ (name.data.toList.drop kind.length)else none
theorem vG(l:List UInt8):(strOf l).data.toList=l:=by simp[strOf]
theorem Jx{kind:List UInt8}{name:ByteArray}{d:Dg}:gT kind name=some d↔name=eS kind d:=by
 unfold gT eS
 constructor
 ·intro h
  split at h
  ·rename_i hp
   have h2:=El h
   obtain⟨t,ht⟩:=List.isPrefixOf_iff_prefix.1 hp
   grind [vH]
  ·cases h
 grind [vG,ET]
end Go.SL
namespace Go.Proofs.YtlcoaflddajjcaaGreatDoor
open Go Go.SL
def qN(A:HP)(v:Value)(ls:List (List UInt8)):Prop:=∃cs:List Value,Vw A v ls.length cs∧cs.length=ls.length∧(∃a c,v = .slice a ls.length c∧ls.length≤c)∧∀(i:Nat) (x:List UInt8),ls[i]?=some x→∃cv,cs[i]?=some cv∧ew A cv x
def qN.row{X:HP}{b:Nat}{e:TypeId}{n:Nat}{cs:List Value}{ls:List (List UInt8)}(hn:ls.length=n)(hc:cs.length=n)(h:∀(i:Nat) (x:List UInt8),ls[i]?=some x→∃cv,cs[i]?=some cv∧ew X cv x) :
  qN (Sep [ae b (cl cs e),X]) (.slice (some ⟨b,0,none⟩) n n) ls:=by
 subst hn
 refine⟨cs,(Vw.ae (by rw[List.drop_zero,List.take_length])).mono (bn (i:=0) rfl),hc,⟨_,_,rfl,Nat.le_refl _⟩,fun i x hx=>?_⟩
 obtain⟨cv,h1,h2⟩:=h i x hx
 exact⟨cv,h1,h2.mono (bn (i:=1) rfl)⟩
end Go.Proofs.YtlcoaflddajjcaaGreatDoor
namespace Go.SL
open Go
inductive aR(P:Program)(U:Tr)(L:eH)(H:List HP):List ResultVar→List Value→Prop where
 | nil:aR P U L H [] []
 | tmp {q:Nat} {u:Value} {rs:List ResultVar} {us:List Value} (hq:dz L q=some u) (h:aR P U L H rs us):aR P U L H (.tmp q::rs) (u::us)
 | agg {p b:Nat} {t e:TypeId} {bO:Ty} {cs:List Value} {rs:List ResultVar} {us:List Value} (i:Nat) (hp:dz L p=some (.pointer (some ⟨b,0,none⟩))) (ht:U.get t=some bO) (hg:bO.isAgg=true) (hi:bZ H i=some (ae b (cl cs e))) (hl:cs.length=bO.info.size) (h:aR P U L H rs us):aR P U L H (.cell p t::rs) (.agg cs.toArray::us)
 | one {p b:Nat} {t e:TypeId} {bO:Ty} {u:Value} {rs:List ResultVar} {us:List Value} (i:Nat) (hp:dz L p=some (.pointer (some ⟨b,0,none⟩))) (ht:U.get t=some bO) (hg:bO.isAgg=false) (hi:bZ H i=some (ae b (cl [u] e))) (h:aR P U L H rs us):aR P U L H (.cell p t::rs) (u::us)
def aR.run{P:Program}{U:Tr}[hU:eT P U]{n:Nat}{G:ct}{L:eH}{H:List HP}{a:Act}{w:World}(ha:Has n L a)(hw:Sat G w H):∀ {rs us},aR P U L H rs us→(rs.mapM (Ax a.tmps)).run P w = .ok us w:=by
 intro rs us h
 induction h with
 | nil=>simp
 | @tmp q u rs us hq h ih =>
  have g2:a.tmps.getD q undef=u:=by rw[Array.getD_eq_getD_getElem?,ha.2.2 _ _ hq];rfl
  simp only[List.mapM_cons,Sem.run_bind,Ax,g2,Sem.run_pure,Result.andThen_ok,ih]
 | @agg p b t e bO cs rs us i hp ht hg hi hl h ih =>
  have hc:∀j v,cs[j]?=some v→w.cell? ⟨b,0+j,none⟩=some v:=fun j v hj=>by rw[di (hw.qF hi),Nat.zero_add];exact hj
  have Pu:=gu (P:=P) (w:=w) ht hg hl hc
  have Zc:(loadVar t ⟨b,0,none⟩).run P w = .ok (.agg cs.toArray) w:=by simpa[Instr.loadAt,Instr.sureAddr]using Pu
  have g1:a.tmps.getD p undef = .pointer (some ⟨b,0,none⟩):=by simp[Array.getD_eq_getD_getElem?,ha.2.2 p _ hp]
  simp only[List.mapM_cons,Sem.run_bind,Ax,g1,asAddr,Sem.run_pure,Result.andThen_ok,Zc,ih]
 | @one p b t e bO u rs us i hp ht hg hi h ih =>
  have g1:=vW (P:=P) i ha hw hp ht hg hi
  simp_all
def aZ{P:Program}{U:Tr}[hU:eT P U]{f:FuncId}{n:Nat}{R:Ending→World→Prop}{G:ct}{ds:List Nat}{k k0:List Item}{L:eH}{H H':List HP}{fn:Func}{F:List HP}{Post:Value→List HP→Prop}{us:List Value}{Hq:List HP}(hR:Ends R G F Post)(hf:P.funcs[f]?=some fn)(hk:fZ 1000 k0 = .mk (.code .ret::k))(he:ao H (ds.map (fun r=>ae r (.deferred (some [])))++H'))(hr:aR P U L H' fn.results.toList us)(eL:Post (eo us) Hq)(Hv:ao H' (Hq++F)):K P f n R { G with ds:=ds } k0 L H:=by
 refine NU hR hf hk he (fun a w ha hw=>?_) eL Hv
 have h1:=hr.run (P:=P) ha hw
 rw[nj,Array.mapM_eq_mapM_toList]
 simp only[Sem.run_bind,Sem.run_map,h1,Sem.run_pure,Result.andThen_ok]
 match us with
 | []=>simp[eo]
 | [v]=>simp[eo]
 | v::u::vs=>simp[eo]
section
variable{P:Program}{U:Tr}[hU:eT P U]{f:FuncId}{n:Nat}{R:Ending→World→Prop}{G:ct}{k:List Item}{L:eH}{H H':List HP}{S:World→Prop}{all:Array Oper}{rest:Pl}{ty:TypeId}{pos:String}{af:Array Edge}{gd:Option (Nat × Bool)}{m:Bool}{d:Tmp}
end
end Go.SL
namespace Go.Proofs.YtlcoaflddajjcaaGreatDoor
open Go Go.SL
attribute [local irreducible] J K au Ends ae aB aI bB aW aS a7 aX bF Sha.chunks Sha.chunk Sha.rounds Sha.sched ej
def uk{tag:UInt8}{ps:List (List UInt8)}{i:Nat}{p:List UInt8}(h:ps[i]?=some p):cK tag (ps.take (i+1))=cK tag (ps.take i)++(kJ p.length++p):=by
 unfold cK
 rw[List.take_add_one,h]
 simp
theorem ze(tag:UInt8)(ps:List (List UInt8))(i:Nat):(cK tag (ps.take i)).length≤(cK tag ps).length:=by
 conv=>rhs;rw[← List.take_append_drop i ps]
 grind [cK]
theorem rH(tag:UInt8)(ps:List (List UInt8)):ps.length≤(cK tag ps).length:=by
 unfold cK
 induction ps with
 | nil=>simp
 | cons p ps ih =>
  grind [kJ]
def G8(n:Nat):(kJ n).length=8:=by simp[kJ]
def CA{n i:Nat}(h:i<8):(kJ n).take (i+1)=(kJ n).take i++[UInt8.ofNat (n/2 ^ (8*i))]:=by
 rw[List.take_add_one];simp[kJ,h]
theorem xB(A:HP)(hK:pY A)(tag:UInt8)(v:Value)(ps:List (List UInt8))(hv:qN A v ps)(hl:(cK tag ps).length≤1000000000) :
  au Tryz.prog 349 [u8 tag,v] [A] (fun r H=>r=dV (cz tag ps)∧H=[A]):=by
 obtain⟨cs,cW,mX,⟨a,c,rfl,hc⟩,qf⟩:=hv
 have PE:=rH tag ps
 refine au.ak Tryz.func349 Tryz.ntmps349 fun G F R hE=>?_
 refine aD rfl ?_
 refine az zr zr zr bh ?_
 intro b4
 refine oe ?_
 refine aD rfl ?_
 refine oe ?_
 refine aj (cs:=bV [tag]) zr zr zr zr zr zr zr zr zr bh ?_
 intro b0
 refine go ?_
 refine al (ef 5 1 b0 1 1 (bV [tag]) [] _ rfl (Nat.le_refl _) (by simp[bV])) ?_
 refine bj (fun y:Nat × Option Addr × Nat=>y.1≤ps.length) (fun y=>ps.length-y.1)
  (fun y=>[(4,ptr b4),(11,.slice a ps.length c),(12,.int .i64 (ps.length:Int)),(13,.int .i64 (y.1:Int)),(5,.slice y.2.1 (cK tag (ps.take y.1)).length y.2.2)])
  (fun y=>aB 5 1 (.slice y.2.1 (cK tag (ps.take y.1)).length y.2.2) (cK tag (ps.take y.1)).length (bV (cK tag (ps.take y.1)))::A::ae b4 (cl (dC Dg.zero) 32)::F) (0,some ⟨b0,0,none⟩,1) (Nat.zero_le _) rfl bS ag ?_
 rintro⟨i,a1,c1⟩ hi ih
 refine go ?_
 refine aq zr zr ?_ ?_
 ·intro cL
  have jL:i<ps.length:=by omega
  obtain⟨p,hp⟩:∃p,ps[i]?=some p:=⟨ps[i],List.getElem?_eq_getElem jL⟩
  obtain⟨cv,qg,hb⟩:=qf i p hp
  obtain⟨b1,o1,c0,sN⟩:=cW.some (by intro h;rw[h]at qg;simp at qg)
  obtain⟨rfl,-,rfl⟩:=sN
  have jl:=uk (tag:=tag) hp
  have hle:=ze tag ps (i+1)
  have ab3:=G8 p.length
  rw[jl]at hle
  simp only[List.length_append]at hle
  obtain⟨T0,M8⟩:∃T0,T0=cK tag (ps.take i):=⟨_,rfl⟩
  rw[← M8]at jl hle ⊢
  obtain⟨ax,cx,rfl,hcx⟩:=hb.2
  have Pv:∀j:Nat,j≤8→(T0++(kJ p.length).take j).length=T0.length+j:=fun j hj=>by
   grind
  refine go ?_
  refine bp i zr zr zr zr zr zr zr zr jL ?_
  refine aP ?_
  refine aQ 1 i zr zr zr cW rfl qg zr zr (go ?_)
  refine bj (fun y:Nat × Option Addr × Nat=>y.1≤8) (fun y=>8-y.1)
   (fun y=>[(4,ptr b4),(7,.slice ax p.length cx),(11,.slice (some ⟨b1,o1,none⟩) ps.length c),(12,.int .i64 (ps.length:Int)),(13,.int .i64 (i:Int)),(5,.slice y.2.1 (T0++(kJ p.length).take y.1).length y.2.2),(17,.int .i64 (y.1:Int))])
   (fun y=>aB 5 1 (.slice y.2.1 (T0++(kJ p.length).take y.1).length y.2.2) (T0++(kJ p.length).take y.1).length (bV (T0++(kJ p.length).take y.1))::A::ae b4 (cl (dC Dg.zero) 32)::F) (0,a1,c1) (Nat.zero_le _) rfl (by simp only[List.take_zero,List.append_nil];exact bS) (by simp only[List.take_zero,List.append_nil];exact ag) ?_
  rintro⟨j,a2,c2⟩ hj ih2
  have xX:=Pv j hj
  refine go ?_
  refine aq zr zr ?_ ?_
  ·intro hj8
   have Zd:j<8:=by omega
   have htj:=CA (n:=p.length) Zd
   refine go ?_
   refine eN zr zr zr (by simp only[fz];omega) ?_
   refine aG 25 ((.int .i64 ((8*j:Nat):Int))) rfl ((congrArg (Value.int .i64) ai)) ?_
   refine iI zr zr zr ai ?_
   ((refine aG 26 ((.int .u64 ((p.length/2 ^ (8*j):Nat):Int))) rfl ((congrArg (Value.int .u64) (by rw[Int.toNat_natCast,show min (8*j) IntKind.u64.bits=8*j from by show min (8*j) 64=_;omega];simp))) ?_))
   refine ed ?_
   refine gR zr zr zr zr zr zr ?_
   refine aG 27 ((u8 (UInt8.ofNat (p.length/2 ^ (8*j))))) rfl ((kA _)) ?_
   (refine aj (cs:=bV [(UInt8.ofNat (p.length/2 ^ (8*j)))]) zr zr zr zr zr zr zr zr zr bh ?_;intro bA;refine aJ (mm:=1) (news:=bV [(UInt8.ofNat (p.length/2 ^ (8*j)))]) 1 0 zr zr zr zr zr zr zr zr zr zr zr zr (Vw.ae rfl) rfl (cB _) (by(rw[xX];omega)) (by show(_+_)*1≤_;(rw[xX];omega)) (fun _=>rfl) bh ?_;intro vA;rw[show bV ((T0++(kJ p.length).take j))++bV [(UInt8.ofNat (p.length/2 ^ (8*j)))]=bV (((T0++(kJ p.length).take j))++[(UInt8.ofNat (p.length/2 ^ (8*j)))])from by simp[bV],show((T0++(kJ p.length).take j)).length+1=(((T0++(kJ p.length).take j))++[(UInt8.ofNat (p.length/2 ^ (8*j)))]).length from(@List.length_append _ ((T0++(kJ p.length).take j)) [(UInt8.ofNat (p.length/2 ^ (8*j)))]).symm];((refine aH 1 rfl ?_));rintro aA cA rfl)
   rw[show T0++(kJ p.length).take j++[UInt8.ofNat (p.length/2 ^ (8*j))]=T0++(kJ p.length).take (j+1)from by rw[htj,List.append_assoc]]
   refine go ?_
   refine aM ih2 (j+1,aA,cA) rfl ai ai bS ag
  intro ep
  rw[List.take_of_length_le ai]at xX ⊢
  refine go ?_
  (refine aJ (mm:=(p).length) (news:=bV (p)) 0 1 zr zr zr zr zr zr zr zr zr zr zr zr (hb.1) (by show _=_*1;rw[bD];omega) (cB _) (by(rw[xX];omega)) (by show(_+_)*1≤_;(rw[xX];omega)) (fun _=>rfl) bh ?_;intro vA;rw[show bV ((T0++kJ p.length))++bV (p)=bV (((T0++kJ p.length))++(p))from by simp[bV],show((T0++kJ p.length)).length+(p).length=(((T0++kJ p.length))++(p)).length from(@List.length_append _ ((T0++kJ p.length)) (p)).symm];((refine aH 0 rfl ?_));rintro aA cA rfl)
  rw[show T0++kJ p.length++p=cK tag (ps.take (i+1))from by rw[jl,List.append_assoc]]
  refine go ?_
  refine aM ih (i+1,aA,cA) rfl ai ai bS ag
 intro ep
 have dA:i=ps.length:=by omega
 subst dA
 rw[List.take_length]
 refine qP (bs:=cK tag ps) 0 rfl ?_
 intro Pe
 refine al (ao.bK [_,_] _) (go ?_)
 refine aw (Bi _ (hK.mono (bn (i:=1) rfl)) _ (cK tag ps) (Pe.mono (bn (i:=0) rfl)) hl) ?_
 refine aN (ao.bY _ _) (go ?_)
 refine iA (U:=aU) 2 hE Tryz.func349 zr zr zr zr zr zr zr ⟨rfl,rfl⟩ ag
theorem Ny(x:Nat)(hx:x<256):IntKind.u8.wrap ((BitVec.ofInt IntKind.u8.bits (x:Int) &&& BitVec.ofInt IntKind.u8.bits 15).toNat:Int)=((x%16:Nat):Int):=by
 have e2:(BitVec.ofInt IntKind.u8.bits (15:Int)).toNat=2 ^ 4-1:=by decide
 rw[BitVec.toNat_and,uZ hx,e2,Nat.and_two_pow_sub_one_eq_mod]
 grind [dx,fz]
def Mz(n:Nat)(h:n<16):tJ ⟨#[48,49,50,51,52,53,54,55,56,57,97,98,99,100,101,102]⟩ n=Ao n:=by
 have:∀n:Nat,n<16→tJ ⟨#[48,49,50,51,52,53,54,55,56,57,97,98,99,100,101,102]⟩ n=Ao n:=by decide
 exact this n h
def Em{d:Dg}{i:Nat}(h:i<32):(hG d).take (2*(i+1))=(hG d).take (2*i)++[Ao ((d.at i).toNat/16),Ao ((d.at i).toNat%16)]:=by
 have e1:tZ d (2*i)=Ao ((d.at i).toNat/16):=by unfold tZ;rw[if_pos ai,show 2*i/2=i from by omega]
 have e2:tZ d (2*i+1)=Ao ((d.at i).toNat%16):=by unfold tZ;rw[if_neg ai,show(2*i+1)/2=i from by omega]
 rw[show 2*(i+1)=2*i+1+1 from by omega,List.take_add_one,List.take_add_one,my d ai,my d ai,e1,e2]
 simp
def ZL(d:Dg){i:Nat}(h:i<32):(dC d)[i]?=some (u8 (d.at i)):=by
 rw[dW]
 exact tO (d.Nu h)
def NC(d:Dg):au Tryz.prog 225 [dV d] [] (fun r H=>r = .string (strOf (hG d))∧H=[]):=by
 refine au.ak Tryz.func225 Tryz.ntmps225 fun G F R hE=>?_
 refine aD rfl ?_
 refine bu zr zr bh ?_
 intro b1
 refine go ?_
 refine il (p:=0) (q:=64) zr zr zr zr zr zr zr zr zr ai ai (by decide) bh ?_
 intro b3
 refine go ?_
 have ad7:=ef 5 1 b3 0 64 [] (List.replicate 64 (u8 0)) (ae b1 (cl (dC d) 32)::F) rfl ai (by rw[List.length_replicate];exact Nat.le_add_left _ _)
 refine aN ad7 ?_
 refine aO (U:=aU) 1 zr zr zr zr zr zr (go ?_)
 refine bj (fun y:Nat × Option Addr × Nat=>y.1≤32) (fun y=>32-y.1)
  (fun y=>[(3,.slice y.2.1 ((hG d).take (2*y.1)).length y.2.2),(7,dV d),(8,.int .i64 (y.1:Int))])
  (fun y=>aB 5 1 (.slice y.2.1 ((hG d).take (2*y.1)).length y.2.2) ((hG d).take (2*y.1)).length (bV ((hG d).take (2*y.1)))::F) (0,some ⟨b3,0,none⟩,64) (Nat.zero_le _) rfl bS ag ?_
 rintro⟨i,a1,c1⟩ hi ih
 have hlen:((hG d).take (2*i)).length=2*i:=by rw[List.length_take,mw];omega
 refine go ?_
 refine aq zr zr ?_ ?_
 ·intro cL
  have rN:i<32:=by omega
  have hg:=ZL d rN
  have jl:=Em (d:=d) rN
  have hx:=(d.at i).toNat_lt
  refine go ?_
  refine fg zr zr zr zr zr zr zr zr ai ai (show(dC d).toArray.toList[((i:Nat):Int).toNat]?=some (u8 (d.at i))from by rw[Int.toNat_natCast];exact hg) ?_
  generalize d.at i=x at jl hx
  refine go ?_
  refine aL (fun w=>Sat G w ([])) (cJ 0 7 (.act 7 (.act 8 (.st 9 .nil)))) rfl ah ah ah dv ?_
  refine go ?_
  refine iI zr zr zr ai ?_
  ((refine aG 13 ((.int .u8 ((x.toNat/16:Nat):Int))) rfl ((congrArg (Value.int .u8) (by show(x.toNat:Int)/2 ^ 4=_;omega))) ?_))
  refine qS (U:=aU) zr zr zr zr zr ai (by show((x.toNat/16:Nat):Int)<16;omega) ?_
  refine aG 14 ((u8 (Ao (x.toNat/16)))) rfl ((congrArg u8 (Mz (x.toNat/16) ai))) (go ?_)
  refine go ?_
  refine aG 16 ((.int .u8 ((x.toNat%16:Nat):Int))) rfl ((congrArg (Value.int .u8) (Ny x.toNat hx))) ?_
  refine qS (U:=aU) zr zr zr zr zr ai (by show((x.toNat%16:Nat):Int)<16;omega) ?_
  refine aG 17 ((u8 (Ao (x.toNat%16)))) rfl ((congrArg u8 (Mz (x.toNat%16) ai))) ?_
  refine aj (cs:=bV [Ao (x.toNat/16),Ao (x.toNat%16)]) zr zr zr zr zr zr zr zr zr (fun _ _ hw=>hw.cu ag) ?_
  intro bA
  refine aJ (mm:=2) (news:=bV [Ao (x.toNat/16),Ao (x.toNat%16)]) 1 0 zr zr zr zr zr zr zr zr zr zr zr zr (Vw.ae rfl) rfl (cB _) (by rw[hlen];omega) (by show(_+_)*1≤_;rw[hlen];omega) (fun _=>rfl) (fun _ _ hw=>hw.cu ag) ?_
  intro vA
  rw[show bV ((hG d).take (2*i))++bV [Ao (x.toNat/16),Ao (x.toNat%16)]=bV ((hG d).take (2*(i+1)))from by rw[jl];simp[bV],show((hG d).take (2*i)).length+2=((hG d).take (2*(i+1))).length from by rw[jl,List.length_append];rfl]
  refine aH 1 rfl ?_
  rintro aA cA rfl
  refine go ?_
  refine aM ih (i+1,aA,cA) rfl ai ai bS ag
 intro ep
 have rN:i=32:=by omega
 subst rN
 refine qP (bs:=hG d) 0 rfl ?_
 intro Pe
 refine go ?_
 refine Br (U:=aU) 0 zr zr zr zr zr zr zr zr zr Pe.1 (go ?_)
 refine ad hE Tryz.func225 zr zr ⟨rfl,rfl⟩
theorem Ih(c:UInt8):au Tryz.prog 327 [u8 c] [] (fun r H=>r = .tuple #[.int .u8 (((kz c).getD 0:Nat):Int),.bool (kz c).isSome]∧H=[]):=by
 have h1:(48≤c.toNat∧c.toNat≤57)→Value.tuple #[.int .u8 ((c.toNat:Int)-48),.bool true] = .tuple #[.int .u8 (((kz c).getD 0:Nat):Int),.bool (kz c).isSome]:=fun h=>by
  grind [kz]
 have h2:(97≤c.toNat∧c.toNat≤102)→Value.tuple #[.int .u8 ((c.toNat:Int)-97+10),.bool true] = .tuple #[.int .u8 (((kz c).getD 0:Nat):Int),.bool (kz c).isSome]:=fun h=>by
  grind [kz]
 have h3:¬(48≤c.toNat∧c.toNat≤57)∧¬(97≤c.toNat∧c.toNat≤102)→Value.tuple #[.int .u8 0,.bool false] = .tuple #[.int .u8 (((kz c).getD 0:Nat):Int),.bool (kz c).isSome]:=fun h=>by
  grind [kz]
 refine au.ak Tryz.func327 Tryz.ntmps327 fun G F R hE=>?_
 repeat'(first|(with_reducible intro jg)|refine er ?_|refine dP zr zr zr zr ?_ ?_|refine aq zr zr ?_ ?_)
 all_goals(first|((refine ad hE Tryz.func327 zr zr ⟨h1 ⟨ai,ai⟩,rfl⟩))|((refine ad hE Tryz.func327 zr zr ⟨h2 ⟨ai,ai⟩,rfl⟩))|((refine ad hE Tryz.func327 zr zr ⟨h3 ai,rfl⟩)))
theorem OV(s:List UInt8){i:Nat}(h:i<64):(D9 s i)[i/2]?=some (UInt8.ofNat (if i%2=0 then 0 else mU s (i-1))):=by
 grind [rF]
theorem LX(s:List UInt8){i:Nat}(h:i<64):(D9 s i).set (i/2) (UInt8.ofNat (16*(if i%2=0 then 0 else mU s (i-1))+mU s i))=D9 s (i+1):=by
 apply List.ext_getElem?
 grind [lI,rF]
theorem YB(x y:Nat)(hx:x<16)(hy:y<16):IntKind.u8.wrap ((BitVec.ofInt IntKind.u8.bits ((16*x:Nat):Int) ||| BitVec.ofInt IntKind.u8.bits (y:Int)).toNat:Int)=((16*x+y:Nat):Int):=by
 have h:=pG (a:=y) (c:=x) (k:=4) ai
 grind [uZ,dx,fz]
theorem Ke(s:ByteArray):au Tryz.prog 210 [.string s] [] (fun r H=>r=(match iQ s.data.toList with
    | some d => .tuple #[dV d,.int .i64 0]
    | none => .tuple #[dV Dg.zero,.int .i64 2])∧H=[]):=by
  obtain⟨l,hl⟩:∃l,l=s.data.toList:=⟨_,rfl⟩
  have iJ:s.size=l.length:=by rw[hl];rfl
  rw[← hl]
  refine au.ak Tryz.func210 Tryz.ntmps210 fun G F R hE=>?_
  refine aD rfl ?_
  refine az zr zr zr bh ?_
  intro b2
  refine oe ?_
  refine aD rfl ?_
  refine az zr zr zr bh ?_
  intro b4
  refine go ?_
  refine aq zr zr ?_ ?_
  · intro fu
    have hp:iQ l=none:=by unfold iQ;rw[if_neg (by intro h;apply fu;rw[iJ,h.1];rfl)]
    rw[hp]at hE
    refine aD rfl ?_
    refine aO (U:=aU) 0 zr zr zr zr zr zr (go ?_)
    (refine a6 hE ?_;apply aZ (U:=aU) hE Tryz.func210 rfl (ao.refl _);(repeat(first|exact aR.nil|apply aR.tmp rfl|apply aR.agg 1 zr zr zr zr zr));exact⟨rfl,rfl⟩;exact ag)
  intro heq
  have Na:l.length=64:=by rw[iJ]at heq;omega
  refine go ?_
  ((refine bq 13 ((.int .i64 64)) rfl ((congrArg (Value.int .i64) (by rw[iJ];omega))) ?_))
  refine bj (fun i:Nat=>i≤64∧∀j,j<i→kz (l.getD j 0)≠none) (fun i=>64-i)
    (fun i=>[(0,.string s),(2,ptr b2),(3,.int .i64 0),(4,ptr b4),(13,.int .i64 64),(14,.int .i64 (i:Int))])
    (fun i=>ae b4 (cl (bV (D9 l i)) 32)::ae b2 (cl (dC Dg.zero) 32)::F) 0 ⟨Nat.zero_le _,fun j hj=>by omega⟩ rfl bS (by rw[LW];exact ag) ?_
  rintro i⟨hi,rO⟩ ih
  refine go ?_
  refine aq zr zr ?_ ?_
  · intro cL
    have Jq:i<64:=by omega
    have hold:=OV l Jq
    have MR:=LX l Jq
    have ads:=AR l i
    have hvp:=AR l (i-1)
    refine go ?_
    refine qS (U:=aU) zr zr zr zr zr ai (by rw[iJ];omega) ?_
    ((refine aG 20 ((u8 (l.getD i 0))) rfl ((by rw[Int.toNat_natCast];unfold tJ;rw[← hl];rfl)) ?_))
    refine go ?_
    refine aw (Ih (l.getD i 0)) ?_
    have hh0:(kz (l.getD i 0)).getD 0=mU l i:=rfl
    cases hx:kz (l.getD i 0)with
    | none =>
      have hp:iQ l=none:=by
        unfold iQ;rw[if_neg]
        grind
      rw[hp]at hE
      refine go ?_
      refine gH (U:=aU) zr zr zr zr zr (go ?_)
      (refine a6 hE ?_;apply aZ (U:=aU) hE Tryz.func210 rfl (ao.refl _);(repeat(first|exact aR.nil|apply aR.tmp rfl|apply aR.agg 1 zr zr zr zr zr));exact⟨rfl,rfl⟩;exact ag)
    | some v =>
      have hv:v=mU l i:=by rw[hx]at hh0;exact hh0
      simp only[Option.getD_some]
      rw[hv]
      obtain⟨o,ho⟩:∃o,o=(if i%2=0 then 0 else mU l (i-1)):=⟨_,rfl⟩
      have adO:o<16:=by rw[ho];split <;> omega
      rw[← ho]at hold MR
      have hq:(i:Int)/2=((i/2:Nat):Int):=by omega
      refine go ?_
      (repeat(first|refine er ?_|refine mT zr zr zr ai ai (by simp only[fz];omega) ?_|refine dI (U:=aU) (i/2) zr zr zr zr zr zr zr hq ai ?_|(refine aP ?_;refine lu (U:=aU) 0 (i/2) zr zr zr (Nat.zero_add _) (tO hold) zr zr ?_)))
      refine pt zr zr zr ai ?_
      ((refine aG 33 ((.int .u8 ((16*o:Nat):Int))) rfl ((congrArg (Value.int .u8) (by rw[show(UInt8.ofNat o).toNat=o from by rw[UInt8.toNat_ofNat'];omega];exact(dx (by show 0≤(o:Int)*2 ^ 4∧_;simp only[show min ((4:Int).toNat) IntKind.u8.bits=4 from rfl];omega)).trans (by show(o:Int)*2 ^ 4=_;omega)))) ?_))
      refine go ?_
      ((refine aG 35 ((u8 (UInt8.ofNat (16*o+mU l i)))) rfl ((congrArg (Value.int .u8) (by rw[YB o (mU l i) adO ads,UInt8.toNat_ofNat'];omega))) ?_))
      (repeat((refine dI (U:=aU) (i/2) zr zr zr zr zr zr zr hq ai ?_)))
      refine aY ?_
      refine fO (U:=aU) 0 e8 zr zr zr zr zr zr zr (by rw[bD,lI];omega) rfl ?_
      rw[show 0+i/2=i/2 from Nat.zero_add _,show(bV (D9 l i)).set (i/2) (u8 (UInt8.ofNat (16*o+mU l i)))=bV (D9 l (i+1))from by rw[← MR];simp[bV]]
      refine go ?_
      refine aM ih (i+1) rfl ⟨ai,fun j hj=>by
        rcases Nat.lt_or_ge j i with h|h
        · exact rO j h
        · rw[show j=i from by omega,hx];simp⟩ ai bS ag
  intro ep
  have Jq:i=64:=by omega
  subst Jq
  have hp:iQ l=some ⟨D9 l 64,lI l 64⟩:=by
    unfold iQ
    rw[if_pos ⟨Na,fun c hc=>by
      obtain⟨j,hj,rfl⟩:=List.mem_iff_getElem.1 hc
      have:=rO j ai
      rwa[List.getD_eq_getElem?_getD,List.getElem?_eq_getElem hj]at this⟩]
  rw[hp]at hE
  obtain⟨d,hd⟩:∃d:Dg,d=⟨D9 l 64,lI l 64⟩:=⟨_,rfl⟩
  rw[← hd]at hE
  have hbs:bV (D9 l 64)=dC d:=by rw[dW,hd]
  rw[hbs]
  refine go ?_
  refine aO (U:=aU) 0 zr zr zr zr zr zr (go ?_)
  (refine a6 hE ?_;apply aZ (U:=aU) hE Tryz.func210 rfl (ao.refl _);(repeat(first|exact aR.nil|apply aR.tmp rfl|apply aR.agg 1 zr zr zr zr zr));exact⟨rfl,rfl⟩;exact ag)
end Go.Proofs.YtlcoaflddajjcaaGreatDoor
namespace Go.SL
open Go
namespace Sha
def An(c:UInt8)(k:Nat)(hk:k≤24):(wB c <<< k).toNat=c.toNat*2 ^ k:=by
 have:=c.toNat_lt
 rw[BitVec.toNat_shiftLeft,qn,Nat.shiftLeft_eq]
 have h2:2 ^ k≤2 ^ 24:=Nat.pow_le_pow_right ai hk
 rw[Nat.mod_eq_of_lt]
 calc c.toNat*2 ^ k<2 ^ 8*2 ^ 24:=Nat.mul_lt_mul_of_lt_of_le ai h2 (Nat.pow_pos ai)
  _=2 ^ 32:=by decide
theorem KV(a b c d:Nat)(ha:a<256)(hb:b<256)(hc:c<256)(hd:d<256):((a*2 ^ 24 ||| b*2 ^ 16) ||| c*2 ^ 8) ||| d=((a*256+b)*256+c)*256+d:=by
 have e1:a*2 ^ 24 ||| b*2 ^ 16=(a*256+b)*2 ^ 16:=by
  rw[Nat.or_comm,pG (k:=24) ai];omega
 have e2:(a*256+b)*2 ^ 16 ||| c*2 ^ 8=((a*256+b)*256+c)*2 ^ 8:=by
  rw[Nat.or_comm,pG (k:=16) ai];omega
 have e3:((a*256+b)*256+c)*2 ^ 8 ||| d=((a*256+b)*256+c)*256+d:=by
  rw[Nat.or_comm,pG (k:=8) ai];omega
 grind
theorem KW(a b c d:UInt8):wB a*16777216#32+wB b*65536#32+wB c*256#32+wB d=(wB a <<< 24 ||| wB b <<< 16 ||| wB c <<< 8 ||| wB d:iu):=by
 have ha:=a.toNat_lt;have hb:=b.toNat_lt;have hc:=c.toNat_lt;have hd:=d.toNat_lt
 apply BitVec.eq_of_toNat_eq
 rw[BitVec.toNat_or,BitVec.toNat_or,BitVec.toNat_or,An _ 24 ai,An _ 16 ai,An _ 8 ai,qn,KV _ _ _ _ ha hb hc hd,
  BitVec.toNat_add,BitVec.toNat_add,BitVec.toNat_add,BitVec.toNat_mul,BitVec.toNat_mul,BitVec.toNat_mul,qn,qn,qn,qn,BitVec.toNat_ofNat,BitVec.toNat_ofNat,BitVec.toNat_ofNat]
 grind
end Sha
end Go.SL
namespace Go.Proofs.YtlcoaflddajjcaaGreatDoor
open Go Go.SL
attribute [local irreducible] J K au Ends ae aB aI bB aW aS a7 aX bF
def fh(x:iu)(n:Nat)(h1:1≤n)(h2:n≤31):au Tryz.prog 214 [u32 x,.int .u64 (n:Int)] [] (fun r H=>r=u32 (Sha.sH x n)∧H=[]):=by
 unfold u32
 rw[← Sha.OK x n h1 h2]
 refine au.ak Tryz.func214 Tryz.ntmps214 fun G F R hE=>?_
 refine go ?_
 refine pq n zr zr zr zr ai (go ?_)
 refine aG 10 ((.int .u64 ((32-n:Nat):Int))) rfl ((congrArg (Value.int .u64) ai)) ?_
 refine Gl (32-n) zr zr zr zr ai ?_
 refine gX zr zr zr (go ?_)
 refine ad hE Tryz.func214 zr zr ⟨rfl,rfl⟩
def Ox(a b c:iu):au Tryz.prog 215 [u32 a,u32 b,u32 c] [] (fun r H=>r=u32 (Sha.maj a b c)∧H=[]):=by
 unfold u32
 rw[← Sha.O4 a b c]
 refine au.ak Tryz.func215 Tryz.ntmps215 fun G F R hE=>?_
 refine go ?_
 (repeat(first|refine er ?_|refine Bw zr zr zr ?_|refine DJ zr zr zr ?_))
 refine ad hE Tryz.func215 zr zr ⟨rfl,rfl⟩
def yw:au Tryz.prog 213 [] [] (fun r H=>r = .agg (wV Sha.ks).toArray∧H=[]):=by
 refine au.ak Tryz.func213 Tryz.ntmps213 fun G F R hE=>?_
 refine aD rfl ?_
 refine az zr zr zr bh ?_
 intro b0
 refine oe ?_
 refine aD rfl ?_
 refine iC (U:=aU) (cs:=wV Sha.ks) zr zr zr zr zr zr ?_
 refine cH (U:=aU) (l':=wV Sha.ks) 0 e8 zr zr zr zr (by decide) (eF _) zr zr zr (go ?_)
 refine iA (U:=aU) 0 hE Tryz.func213 zr zr zr zr zr zr zr ⟨rfl,rfl⟩ ag
theorem B0(b:List UInt8)(t:Nat)(h:t<16):(Sha.dZ b t).set t (Sha.word b t)=Sha.dZ b (t+1):=by
 unfold Sha.dZ
 rw[List.set_append_right _ _ (by rw[Sha.dR];exact Nat.le_refl _),Sha.dR,Nat.sub_self,show 64-t=(64-(t+1))+1 from by omega,List.replicate_succ,List.set_cons_zero]
 conv=>rhs;unfold Sha.sched
 grind
attribute [local irreducible] Sha.chunks Sha.chunk Sha.rounds Sha.sched ej
theorem Ig(A:HP)(v:Value)(b:List UInt8)(hv:ew A v b)(Na:64≤b.length) :
  au Tryz.prog 212 [v] [A] (fun r H=>r = .agg (wV (Sha.sched b 64)).toArray∧H=[A]):=by
 obtain⟨a,c,rfl,hc⟩:=hv.2
 refine au.ak Tryz.func212 Tryz.ntmps212 fun G F R hE=>?_
 refine aD rfl ?_
 refine az zr zr zr bh ?_
 intro b2
 refine oe ?_
 (refine aD rfl ?_;refine oe ?_)
 refine az zr zr zr bh ?_
 intro b3
 refine go ?_
 have hz:Sha.dZ b 0=List.replicate 64 0:=by unfold Sha.dZ;unfold Sha.sched;rfl
 refine bj (fun t:Nat=>t≤16) (fun t=>16-t)
  (fun t=>[(0,.slice a b.length c),(2,ptr b2),(3,ptr b3),(4,.int .i64 (t:Int))])
  (fun t=>ae b3 (cl (wV (Sha.dZ b t)) 337)::ae b2 (cl (wV (List.replicate 64 0)) 337)::A::F) 0 (Nat.zero_le _) rfl bS (by rw[hz];exact ag) ?_
 rintro t ht ih
 have hlen:=Sha.qs b t ai
 refine go ?_
 refine aq zr zr ?_ ?_
 ·intro cL
  have AS:t<16:=by omega
  obtain⟨bb,oo,cc,dL⟩:=hv.1.some (by intro e;have:=congrArg List.length e;rw[bD,List.length_nil]at this;omega)
  simp only[Value.slice.injEq,true_and]at dL
  obtain⟨rfl,rfl⟩:=dL
  have hg:∀j,j<4→(bV b)[4*t+j]?=some (u8 (b.getD (4*t+j) 0)):=fun j hj=>tO (by rw[List.getD_eq_getElem?_getD,List.getElem?_eq_getElem ai];rfl)
  have iW:=B0 b t AS
  have hw:wB (b.getD (4*t+0) 0)*16777216#32+wB (b.getD (4*t+1) 0)*65536#32+wB (b.getD (4*t+2) 0)*256#32+wB (b.getD (4*t+3) 0)=Sha.word b t:=Sha.KW _ _ _ _
  have g0:=hg 0 ai
  have g1:=hg 1 ai
  have g2:=hg 2 ai
  have g3:=hg 3 ai
  generalize b.getD (4*t+0) 0=x0 at hw g0
  generalize b.getD (4*t+1) 0=x1 at hw g1
  generalize b.getD (4*t+2) 0=x2 at hw g2
  generalize b.getD (4*t+3) 0=x3 at hw g3
  refine go ?_
  refine aL (fun w=>Sat G w ([A])) (cJ 0 35 (.act 35 .nil)) rfl ah ah ah dv ?_
  refine go ?_
  (refine go ?_;refine eN zr zr zr (by simp only[fz];omega) ?_;refine go ?_;refine bp (4*t+0) zr zr zr zr zr zr zr ai ai ?_;refine aP ?_;refine cO 0 (4*t+0) zr zr zr hv.1 rfl g0 zr zr ?_;refine ed ?_;refine po (U:=aU) zr zr zr zr zr zr ?_)
  refine Gn (q:=16777216#32) zr zr zr ?_
  (refine go ?_;refine eN zr zr zr (by simp only[fz];omega) ?_;refine go ?_;refine bp (4*t+1) zr zr zr zr zr zr zr ai ai ?_;refine aP ?_;refine cO 0 (4*t+1) zr zr zr hv.1 rfl g1 zr zr ?_;refine ed ?_;refine po (U:=aU) zr zr zr zr zr zr ?_)
  refine Gn (q:=65536#32) zr zr zr ?_
  refine jj zr zr zr ?_
  (refine go ?_;refine eN zr zr zr (by simp only[fz];omega) ?_;refine go ?_;refine bp (4*t+2) zr zr zr zr zr zr zr ai ai ?_;refine aP ?_;refine cO 0 (4*t+2) zr zr zr hv.1 rfl g2 zr zr ?_;refine ed ?_;refine po (U:=aU) zr zr zr zr zr zr ?_)
  refine Gn (q:=256#32) zr zr zr ?_
  refine jj zr zr zr ?_
  (refine go ?_;refine eN zr zr zr (by simp only[fz];omega) ?_;refine go ?_;refine bp (4*t+3) zr zr zr zr zr zr zr ai ai ?_;refine aP ?_;refine cO 0 (4*t+3) zr zr zr hv.1 rfl g3 zr zr ?_;refine ed ?_;refine po (U:=aU) zr zr zr zr zr zr ?_)
  refine jj zr zr zr ?_
  rw[hw]
  refine dI (U:=aU) t zr zr zr zr zr zr zr zr ai ?_
  refine aY ?_
  refine fO (U:=aU) 0 e8 zr zr zr zr zr zr zr (by rw[jX,hlen];omega) rfl ?_
  rw[show 0+t=t from Nat.zero_add _]
  refine go ?_
  have CL:=(vr (Sha.dZ b t) t _).trans (congrArg wV iW)
  refine al (H':=ae b3 (cl (wV (Sha.dZ b (t+1))) 337)::ae b2 (cl (wV (List.replicate 64 0)) 337)::A::F) (by rw[← CL];exact ao.refl _) ?_
  refine aM ih (t+1) rfl ai ai bS ag
 intro ep
 have ady:t=16:=by omega
 subst ady
 clear ih
 refine go ?_
 refine bj (fun t:Nat=>16≤t∧t≤64) (fun t=>64-t)
  (fun t=>[(2,ptr b2),(3,ptr b3),(5,.int .i64 (t:Int))])
  (fun t=>ae b3 (cl (wV (Sha.dZ b t)) 337)::ae b2 (cl (wV (List.replicate 64 0)) 337)::A::F) 16 ⟨ai,ai⟩ rfl bS ag ?_
 rintro t⟨AS,ht2⟩ ih
 have hlen:=Sha.qs b t ht2
 refine go ?_
 refine aq zr zr ?_ ?_
 ·intro cL
  have ht:t<64:=by omega
  have g2:=Sha.gr b t (t-2) ai
  have g7:=Sha.gr b t (t-7) ai
  have g15:=Sha.gr b t (t-15) ai
  have g16:=Sha.gr b t (t-16) ai
  have gS:=Sha.ub b t AS ht
  generalize (Sha.sched b t).getD (t-2) 0=y2 at g2 gS
  generalize (Sha.sched b t).getD (t-7) 0=y7 at g7 gS
  generalize (Sha.sched b t).getD (t-15) 0=y15 at g15 gS
  generalize (Sha.sched b t).getD (t-16) 0=y16 at g16 gS
  have acs:y16+y7+(Sha.sH y15 7 ^^^ Sha.sH y15 18 ^^^ y15 >>> 3)+(Sha.sH y2 17 ^^^ Sha.sH y2 19 ^^^ y2 >>> 10)=y16+y7+Sha.s1 y2+Sha.s0 y15:=by
   show y16+y7+Sha.s0 y15+Sha.s1 y2=_
   grind
  refine go ?_
  refine dI (U:=aU) (t-15) zr zr zr zr zr zr zr ai ai ?_
  refine aP ?_
  refine lu (U:=aU) 0 (t-15) zr zr zr (Nat.zero_add _) (gp g15) zr zr (go ?_)
  refine dI (U:=aU) (t-2) zr zr zr zr zr zr zr ai ai ?_
  refine aP ?_
  refine lu (U:=aU) 0 (t-2) zr zr zr (Nat.zero_add _) (gp g2) zr zr (go ?_)
  refine aL (fun w=>Sat G w ([ae b3 (cl (wV (Sha.dZ b t)) 337)])) (cJ 0 11 (.st 12 (.st 15 (.st 16 (.st 19 (.st 21 (.st 24 (.st 25 (.act 11 (.act 13 (.st 14 (.st 17 (.st 18 (.act 20 (.act 22 (.st 23 (cJ 26 3 (.act 29 .nil)))))))))))))))))) rfl ah ah ah dv ?_
  refine go ?_
  refine dI (U:=aU) (t-16) zr zr zr zr zr zr zr ai ai ?_
  refine aP ?_
  refine eb (U:=aU) 0 (t-16) zr zr zr (Nat.zero_add _) (gp g16) zr zr (go ?_)
  refine dI (U:=aU) (t-7) zr zr zr zr zr zr zr ai ai ?_
  refine aP ?_
  refine eb (U:=aU) 0 (t-7) zr zr zr (Nat.zero_add _) (gp g7) zr zr ?_
  refine jj zr zr zr (go ?_)
  refine pq 3 zr zr zr zr ai (go ?_)
  refine pq 10 zr zr zr zr ai ?_
  refine bE ((fh y15 7 ai ai)) ?_
  refine bE ((fh y15 18 ai ai)) ?_
  refine gX zr zr zr ?_
  refine gX zr zr zr ?_
  refine jj zr zr zr ?_
  refine bE ((fh y2 17 ai ai)) ?_
  refine bE ((fh y2 19 ai ai)) ?_
  refine gX zr zr zr ?_
  refine gX zr zr zr ?_
  refine jj zr zr zr ?_
  rw[acs]
  refine dI (U:=aU) t zr zr zr zr zr zr zr zr ai ?_
  refine aY ?_
  refine fO (U:=aU) 0 e8 zr zr zr zr zr zr zr (by rw[jX,hlen];omega) rfl ?_
  rw[show 0+t=t from Nat.zero_add _]
  refine go ?_
  have CL:=(vr (Sha.dZ b t) t _).trans (congrArg wV gS)
  refine al (H':=ae b3 (cl (wV (Sha.dZ b (t+1))) 337)::ae b2 (cl (wV (List.replicate 64 0)) 337)::A::F) (by rw[← CL];exact ao.refl _) ?_
  refine aM ih (t+1) rfl ⟨ai,ai⟩ ai bS ag
 intro ep
 have Fo:t=64:=by omega
 subst Fo
 rw[Sha.vS]
 have wR:(wV (Sha.sched b 64)).length=64:=by rw[jX,Sha.dR]
 have eM:gF (wV (Sha.sched b 64))=true:=eF _
 generalize wV (Sha.sched b 64)=W at wR eM hE ⊢
 refine go ?_
 refine aO (U:=aU) 0 zr zr zr zr zr wR ?_
 refine cH (U:=aU) 1 e8 rfl rfl rfl wR (by intro e;rw[e]at wR;cases wR) eM rfl (by rw[wR];simp[jX]) rfl ?_
 refine go ?_
 refine iA (U:=aU) 1 hE Tryz.func212 zr zr zr zr zr wR rfl ⟨rfl,rfl⟩ ag
end Go.Proofs.YtlcoaflddajjcaaGreatDoor
namespace Go.SL
open Go
namespace Sha
def ju(n o:List iu)(i:Nat):List iu:=(List.zipWith (· + ·) n o).take i++n.drop i
theorem J0{n o:List iu}{k i:Nat}(hn:n.length=k)(ho:o.length=k)(hi:i≤k):(ju n o i).length=k:=by
 grind [ju]
theorem J1{n o:List iu}{k i:Nat}(hn:n.length=k)(ho:o.length=k)(hi:i<k):(ju n o i)[i]?=some (n.getD i 0):=by
 grind [ju]
theorem JZ{n o:List iu}{k i:Nat}(hn:n.length=k)(ho:o.length=k)(hi:i<k):(ju n o i).set i (n.getD i 0+o.getD i 0)=ju n o (i+1):=by
 unfold ju
 have h1:((List.zipWith (· + ·) n o).take i).length=i:=by rw[List.length_take,List.length_zipWith];omega
 rw[List.set_append_right _ _ ai,h1,Nat.sub_self,List.take_add_one]
 have h2:n.drop i=n[i]::n.drop (i+1):=List.drop_eq_getElem_cons ai
 grind
def J2(s t:St):ju t.l s.l 8=(plus s t).l:=by
 unfold ju
 simp only[St.l,plus,List.zipWith_cons_cons,List.zipWith_nil_left,List.take_succ_cons,List.take_zero,List.drop_succ_cons,List.drop_zero,List.append_nil,BitVec.add_comm]
end Sha
end Go.SL
namespace Go.Proofs.YtlcoaflddajjcaaGreatDoor
open Go Go.SL
attribute [local irreducible] J K au Ends ae aB aI bB aW aS a7 aX bF Sha.chunks Sha.chunk Sha.rounds Sha.sched ej Sha.ju
def JP(A:HP)(v:Value)(b:List UInt8)(hv:ew A v b)(Na:64≤b.length)(s:Sha.St) :
  au Tryz.prog 107 [Of s,v] [A] (fun r H=>r=Of (Sha.chunk s b)∧H=[A]):=by
 have hwd:=Ig A v b hv Na
 obtain⟨a,c,rfl,hc⟩:=hv.2
 have ir:(Sha.sched b 64).length=64:=Sha.dR b 64
 have PG:Sha.chunk s b=Sha.plus s (Sha.rounds s (Sha.sched b 64) 64):=by unfold Sha.chunk;rfl
 rw[PG]
 generalize Sha.sched b 64=W at hwd ir ⊢
 have Jl:∀s:Sha.St,(wV s.l).length=8:=fun s=>rfl
 have ab6:∀s:Sha.St,s.l.length=8:=fun s=>rfl
 have hWV:(wV W).length=64:=by rw[jX];exact ir
 have Pr:∀s:Sha.St,wV s.l≠[]:=fun s e=>by have:=congrArg List.length e;rw[Jl]at this;cases this
 unfold Of
 refine au.ak Tryz.func107 Tryz.ntmps107 fun G F R hE=>?_
 refine aD rfl ?_
 refine bu zr zr bh ?_
 intro b2
 refine az zr zr zr bh ?_
 intro b4
 refine go ?_
 refine aw hwd ?_
 refine az zr zr zr bh ?_
 intro b5
 refine aY ?_
 refine cH (U:=aU) (l':=wV W) 0 e8 rfl rfl rfl hWV (by intro e;rw[e]at hWV;cases hWV) (eF _) rfl (by rw[hWV];rfl) rfl ?_
 refine go ?_
 refine aw yw ?_
 refine az zr zr zr bh ?_
 intro b6
 refine aY ?_
 refine cH (U:=aU) (l':=wV Sha.ks) 0 e8 zr zr zr zr (by decide) (eF _) zr zr zr (go ?_)
 refine aN (H':=ae b2 (cl (wV s.l) 222)::ae b6 (cl (wV Sha.ks) 337)::ae b5 (cl (wV W) 337)::ae b4 (cl (wV (List.replicate 8 0)) 222)::A::F) ag ?_
 refine aO (U:=aU) (l:=wV s.l) 0 zr zr zr zr zr zr ?_
 refine az zr zr zr bh ?_
 intro b7
 refine aY ?_
 refine cH (U:=aU) (l':=wV s.l) 0 e8 zr zr zr zr (Pr s) (eF _) zr zr zr (go ?_)
 refine bj (fun t:Nat=>t≤64) (fun t=>64-t)
  (fun t=>[(2,ptr b2),(4,ptr b4),(5,ptr b5),(6,ptr b6),(7,ptr b7),(8,.int .i64 (t:Int))])
  (fun t=>ae b7 (cl (wV (Sha.rounds s W t).l) 222)::ae b2 (cl (wV s.l) 222)::ae b6 (cl (wV Sha.ks) 337)::ae b5 (cl (wV W) 337)::ae b4 (cl (wV (List.replicate 8 0)) 222)::A::F) 0 (Nat.zero_le _) rfl bS (by unfold Sha.rounds;exact ag) ?_
 rintro t ht ih
 refine go ?_
 refine aq zr zr ?_ ?_
 ·intro cL
  have AS:t<64:=by omega
  have hr:Sha.rounds s W (t+1)=Sha.round (Sha.rounds s W t) (Sha.ks.getD t 0) (W.getD t 0):=by conv=>lhs;unfold Sha.rounds
  generalize Sha.rounds s W t=T at hr ⊢
  obtain⟨ta,tb,tc,td,te,tf,tg,th⟩:=T
  have Pb:(wV W)[t]?=some (u32 (W.getD t 0)):=gp (by rw[List.getD_eq_getElem?_getD,List.getElem?_eq_getElem ai];rfl)
  have hkg:=gp (Ms AS)
  generalize Sha.ks.getD t 0=kt at hr hkg
  generalize W.getD t 0=wt at hr Pb
  rw[show wV (Sha.St.l ⟨ta,tb,tc,td,te,tf,tg,th⟩)=[u32 ta,u32 tb,u32 tc,u32 td,u32 te,u32 tf,u32 tg,u32 th]from rfl]
  have YZ:wV (Sha.rounds s W (t+1)).l=[u32 (th+(Sha.sH te 6 ^^^ Sha.sH te 11 ^^^ Sha.sH te 25)+(te &&& tf ||| ~~~te &&& tg)+kt+wt+((Sha.sH ta 2 ^^^ Sha.sH ta 13 ^^^ Sha.sH ta 22)+Sha.maj ta tb tc)),u32 ta,u32 tb,u32 tc,u32 (td+(th+(Sha.sH te 6 ^^^ Sha.sH te 11 ^^^ Sha.sH te 25)+(te &&& tf ||| ~~~te &&& tg)+kt+wt)),u32 te,u32 tf,u32 tg]:=by
   rw[hr,Sha.ZM];rfl
  clear hr
  refine go ?_
  (repeat(first|refine er ?_|refine gP zr zr zr zr zr zr ai ai ?_))
  refine aL (fun w=>Sat G w ([ae b7 (cl [u32 ta,u32 tb,u32 tc,u32 td,u32 te,u32 tf,u32 tg,u32 th] 222),ae b6 (cl (wV Sha.ks) 337),ae b5 (cl (wV W) 337)])) (cJ 0 3 (.st 4 (.st 7 (cJ 11 10 (cJ 22 3 (cJ 26 3 (.act 3 (.act 5 (.st 6 (.act 8 (.st 9 (.st 10 (.st 21 (.st 25 (.st 29 (.st 30 .nil)))))))))))))))) rfl ah ah ah dv ?_
  refine go ?_
  (repeat(first|refine er ?_|refine dI (U:=aU) t zr zr zr zr zr zr zr zr AS ?_|refine gP zr zr zr zr zr zr ai ai ?_|refine Bw zr zr zr ?_|refine ZZ zr zr ?_|refine DJ zr zr zr ?_|(refine aP ?_;first|refine eb (U:=aU) 1 t zr zr zr (Nat.zero_add _) hkg zr zr ?_|refine eb (U:=aU) 2 t zr zr zr (Nat.zero_add _) Pb zr zr ?_)))
  refine bE ((fh te 6 ai ai)) ?_
  refine bE ((fh te 11 ai ai)) ?_
  refine gX zr zr zr ?_
  refine bE ((fh te 25 ai ai)) ?_
  (repeat(first|refine er ?_|refine gX zr zr zr ?_|refine jj zr zr zr ?_))
  refine aL (fun w=>Sat G w ([ae b7 (cl [u32 ta,u32 tb,u32 tc,u32 td,u32 te,u32 tf,u32 tg,u32 th] 222)])) (.st 0 (.st 2 (.st 5 (cJ 8 5 (.act 1 (.act 3 (.st 4 (.act 6 (.st 7 (.act 13 (.st 14 (.st 15 .nil)))))))))))) rfl ah ah ah dv ?_
  refine go ?_
  (repeat(first|refine er ?_|refine gP zr zr zr zr zr zr ai ai ?_))
  refine bE ((fh ta 2 ai ai)) ?_
  refine bE ((fh ta 13 ai ai)) ?_
  refine gX zr zr zr ?_
  refine bE ((fh ta 22 ai ai)) ?_
  refine gX zr zr zr ?_
  refine bE ((Ox ta tb tc)) ?_
  refine jj zr zr zr ?_
  (repeat(first|refine er ?_|refine gP zr zr zr zr zr zr ai ai ?_|refine jj zr zr zr ?_))
  refine iC (U:=aU) (cs:=wV (Sha.rounds s W (t+1)).l) zr zr zr zr zr (by rw[YZ];rfl) ?_
  refine aY ?_
  refine cH (U:=aU) (l':=wV (Sha.rounds s W (t+1)).l) 0 e8 zr zr zr zr (Pr _) (eF _) zr zr zr (go ?_)
  refine aM ih (t+1) rfl ai ai bS ag
 intro ep
 have Fo:t=64:=by omega
 subst Fo
 clear ih
 rw[← Sha.J2]at hE
 generalize Sha.rounds s W 64=T at hE ⊢
 refine go ?_
 have hT8:=ab6 T
 have hs8:=ab6 s
 refine bj (fun i:Nat=>i≤8) (fun i=>8-i)
  (fun i=>[(2,ptr b2),(4,ptr b4),(7,ptr b7),(13,.int .i64 (i:Int))])
  (fun i=>ae b7 (cl (wV (Sha.ju T.l s.l i)) 222)::ae b2 (cl (wV s.l) 222)::ae b4 (cl (wV (List.replicate 8 0)) 222)::A::F) 0 (Nat.zero_le _) rfl bS (by unfold Sha.ju;exact ag) ?_
 rintro i hi ih
 have KO:=Sha.J0 hT8 hs8 hi
 refine go ?_
 refine aq zr zr ?_ ?_
 ·intro cL
  have Jp:i<8:=by omega
  have Jr:=Sha.J1 hT8 hs8 Jp
  have Hu:s.l[i]?=some (s.l.getD i 0):=by rw[List.getD_eq_getElem?_getD,List.getElem?_eq_getElem ai];rfl
  have iW:=Sha.JZ hT8 hs8 Jp
  generalize T.l.getD i 0=x at Jr iW
  generalize s.l.getD i 0=y at Hu iW
  refine go ?_
  refine aL (fun w=>Sat G w ([ae b7 (cl (wV (Sha.ju T.l s.l i)) 222),ae b2 (cl (wV s.l) 222)])) (cJ 0 9 (.act 9 .nil)) rfl ah ah ah dv ?_
  refine go ?_
  (repeat(first|refine er ?_|refine dI (U:=aU) i zr zr zr zr zr zr zr zr Jp ?_|(refine aP ?_;first|refine eb (U:=aU) 0 i zr zr zr (Nat.zero_add _) (gp Jr) zr zr ?_|refine eb (U:=aU) 1 i zr zr zr (Nat.zero_add _) (gp Hu) zr zr ?_)|refine jj zr zr zr ?_))
  refine aY ?_
  refine fO (U:=aU) 0 e8 zr zr zr zr zr zr zr (by rw[jX,KO];omega) rfl ?_
  rw[show 0+i=i from Nat.zero_add _]
  refine go ?_
  have CL:=(vr (Sha.ju T.l s.l i) i _).trans (congrArg wV iW)
  refine al (H':=ae b7 (cl (wV (Sha.ju T.l s.l (i+1))) 222)::ae b2 (cl (wV s.l) 222)::ae b4 (cl (wV (List.replicate 8 0)) 222)::A::F) (by rw[← CL];exact ao.refl _) ?_
  refine aM ih (i+1) rfl ai ai bS ag
 intro ep
 have Jp:i=8:=by omega
 subst Jp
 clear ih
 have eM:=eF (Sha.ju T.l s.l 8)
 have Zx:(wV (Sha.ju T.l s.l 8)).length=8:=by rw[jX];exact KO
 generalize wV (Sha.ju T.l s.l 8)=X at eM Zx hE ⊢
 refine go ?_
 refine aO (U:=aU) 0 zr zr zr zr zr Zx ?_
 refine cH (U:=aU) 2 e8 rfl rfl rfl Zx (by intro e;rw[e]at Zx;cases Zx) eM rfl (by rw[Zx];rfl) rfl ?_
 refine go ?_
 refine iA (U:=aU) 2 hE Tryz.func107 zr zr zr zr zr Zx rfl ⟨rfl,rfl⟩ ag
end Go.Proofs.YtlcoaflddajjcaaGreatDoor
namespace Go.Proofs.YtlcoaflddajjcaaGreatDoor
open Go Go.SL
attribute [local irreducible] J K au Ends ae aB aI bB aW aS a7 aX bF Sha.chunks Sha.chunk Sha.rounds Sha.sched ej
theorem Bh(A:HP)(v:Value)(b:List UInt8)(hv:ew A v b)(hl:b.length≤1000000000) :
  au Tryz.prog 48 [v] [A] (fun r H=>r=dV (ej b)∧H=[A]):=by
 obtain⟨a,c,rfl,hc⟩:=hv.2
 refine au.ak Tryz.func48 Tryz.ntmps48 fun G F R hE=>?_
 refine aD rfl ?_
 refine az zr zr zr bh ?_
 intro b2
 refine oe ?_
 (refine aD rfl ?_;refine oe ?_)
 refine aj (cs:=[]) zr zr zr zr zr zr zr zr zr bh ?_
 intro b0
 refine go ?_
 (refine aN (ef 5 1 b0 0 0 [] [] _ rfl (Nat.le_refl _) (by simp)) ?_;refine aJ (mm:=(b).length) (news:=bV (b)) 0 2 zr zr zr zr zr zr zr zr zr zr zr zr (hv.1) (by show _=_*1;rw[bD];omega) (cB _) ai (by show(_+_)*1≤_;omega) (fun _=>rfl) bh ?_;intro vA;rw[Nat.zero_add,List.nil_append];((refine aH 0 rfl ?_));rintro aA cA rfl)
 refine go ?_
 (refine aj (cs:=bV [(128:UInt8)]) zr zr zr zr zr zr zr zr zr bh ?_;intro bA;refine aJ (mm:=1) (news:=bV [(128:UInt8)]) 1 0 zr zr zr zr zr zr zr zr zr zr zr zr (Vw.ae rfl) rfl (cB _) ai (by show(_+_)*1≤_;omega) (fun _=>rfl) bh ?_;intro vA;rw[show bV (b)++bV [(128:UInt8)]=bV ((b)++[(128:UInt8)])from by simp[bV],show(b).length+1=((b)++[(128:UInt8)]).length from(@List.length_append _ (b) [(128:UInt8)]).symm];((refine aH 1 rfl ?_));rintro aA cA rfl)
 refine go ?_
 obtain⟨z,hz⟩:∃z,z=(119-b.length%64)%64:=⟨_,rfl⟩
 have hz1:(b.length+1+z)%64=56:=by omega
 have QG:z<64:=by omega
 have mW:∀j:Nat,(b++128::List.replicate j (0:UInt8)).length=b.length+1+j:=fun j=>by simp;omega
 refine bj (fun y:Nat × Option Addr × Nat=>y.1≤z) (fun y=>z-y.1)
  (fun y=>[(0,.slice a b.length c),(2,ptr b2),(3,.slice y.2.1 (b++128::List.replicate y.1 (0:UInt8)).length y.2.2)])
  (fun y=>aB 5 1 (.slice y.2.1 (b++128::List.replicate y.1 (0:UInt8)).length y.2.2) (b++128::List.replicate y.1 (0:UInt8)).length (bV (b++128::List.replicate y.1 (0:UInt8)))::A::ae b2 (cl (dC Dg.zero) 32)::F) (0,aA,cA) (Nat.zero_le _) rfl bS ag ?_
 rintro⟨j,a2,c2⟩ hj ih
 simp only at hj
 have xX:=mW j
 dsimp only
 refine go ?_
 refine lT zr zr zr ai ai (go ?_)
 refine aq zr zr ?_ ?_
 ·intro fu
  have hjz:j<z:=by
   grind
  refine go ?_
  (refine aj (cs:=bV [(0:UInt8)]) zr zr zr zr zr zr zr zr zr bh ?_;intro bA;refine aJ (mm:=1) (news:=bV [(0:UInt8)]) 1 0 zr zr zr zr zr zr zr zr zr zr zr zr (Vw.ae rfl) rfl (cB _) (by(rw[xX];omega)) (by show(_+_)*1≤_;(rw[xX];omega)) (fun _=>rfl) bh ?_;intro vA;rw[show bV ((b++128::List.replicate j (0:UInt8)))++bV [(0:UInt8)]=bV (((b++128::List.replicate j (0:UInt8)))++[(0:UInt8)])from by simp[bV],show((b++128::List.replicate j (0:UInt8))).length+1=(((b++128::List.replicate j (0:UInt8)))++[(0:UInt8)]).length from(@List.length_append _ ((b++128::List.replicate j (0:UInt8))) [(0:UInt8)]).symm];((refine aH 1 rfl ?_));rintro aA cA rfl)
  rw[show b++128::List.replicate j (0:UInt8)++[0]=b++128::List.replicate (j+1) (0:UInt8)from by rw[List.replicate_succ'];simp]
  refine go ?_
  refine aM ih (j+1,aA,cA) rfl (by simp only;omega) (by simp only;omega) bS ag
 intro heq
 have hjz:j=z:=by
  grind
 subst hjz
 clear ih
 obtain⟨T0,M8⟩:∃T0,T0=b++128::List.replicate j (0:UInt8):=⟨_,rfl⟩
 rw[← M8]at xX ⊢
 have Pv:∀i:Nat,i≤8→(T0++(Sha.nI (8*b.length)).take i).length=T0.length+i:=fun i hi=>by
  rw[List.length_append,List.length_take];simp only[Sha.nI,List.length_map,List.length_range];omega
 refine go ?_
 refine eN zr zr zr (by simp only[fz];omega) ?_
 refine aG 24 ((.int .u64 ((8*b.length:Nat):Int))) rfl ((congrArg (Value.int .u64) ai)) (go ?_)
 refine bj (fun y:Nat × Option Addr × Nat=>y.1≤8) (fun y=>8-y.1)
  (fun y=>[(2,ptr b2),(3,.slice y.2.1 (T0++(Sha.nI (8*b.length)).take y.1).length y.2.2),(4,.int .u64 ((8*b.length:Nat):Int)),(5,.int .i64 (y.1:Int))])
  (fun y=>aB 5 1 (.slice y.2.1 (T0++(Sha.nI (8*b.length)).take y.1).length y.2.2) (T0++(Sha.nI (8*b.length)).take y.1).length (bV (T0++(Sha.nI (8*b.length)).take y.1))::A::ae b2 (cl (dC Dg.zero) 32)::F) (0,a2,c2) (Nat.zero_le _) rfl (by simp only[List.take_zero,List.append_nil];exact bS) (by simp only[List.take_zero,List.append_nil];exact ag) ?_
 rintro⟨i,a3,c3⟩ hi ih
 simp only at hi
 have Hm:=Pv i hi
 dsimp only
 refine go ?_
 refine aq zr zr ?_ ?_
 ·intro cL
  have Jp:i<8:=by omega
  have PJ:(Sha.nI (8*b.length)).take (i+1)=(Sha.nI (8*b.length)).take i++[UInt8.ofNat (8*b.length/2 ^ (56-8*i))]:=by
   rw[List.take_add_one];simp[Sha.nI,Jp]
  refine go ?_
  refine eN zr zr zr (by simp only[fz];omega) ?_
  refine go ?_
  refine aG 34 ((.int .u64 ((56-8*i:Nat):Int))) rfl ((congrArg (Value.int .u64) ai)) ?_
  refine iI zr zr zr ai ?_
  ((refine aG 35 ((.int .u64 ((8*b.length/2 ^ (56-8*i):Nat):Int))) rfl ((congrArg (Value.int .u64) (by rw[Int.toNat_natCast,show min (56-8*i) IntKind.u64.bits=56-8*i from by show min (56-8*i) 64=_;omega];simp))) ?_))
  refine ed ?_
  refine gR zr zr zr zr zr zr ?_
  refine aG 36 ((u8 (UInt8.ofNat (8*b.length/2 ^ (56-8*i))))) rfl ((kA _)) ?_
  (refine aj (cs:=bV [(UInt8.ofNat (8*b.length/2 ^ (56-8*i)))]) zr zr zr zr zr zr zr zr zr bh ?_;intro bA;refine aJ (mm:=1) (news:=bV [(UInt8.ofNat (8*b.length/2 ^ (56-8*i)))]) 1 0 zr zr zr zr zr zr zr zr zr zr zr zr (Vw.ae rfl) rfl (cB _) (by(rw[Hm];omega)) (by show(_+_)*1≤_;(rw[Hm];omega)) (fun _=>rfl) bh ?_;intro vA;rw[show bV ((T0++(Sha.nI (8*b.length)).take i))++bV [(UInt8.ofNat (8*b.length/2 ^ (56-8*i)))]=bV (((T0++(Sha.nI (8*b.length)).take i))++[(UInt8.ofNat (8*b.length/2 ^ (56-8*i)))])from by simp[bV],show((T0++(Sha.nI (8*b.length)).take i)).length+1=(((T0++(Sha.nI (8*b.length)).take i))++[(UInt8.ofNat (8*b.length/2 ^ (56-8*i)))]).length from(@List.length_append _ ((T0++(Sha.nI (8*b.length)).take i)) [(UInt8.ofNat (8*b.length/2 ^ (56-8*i)))]).symm];((refine aH 1 rfl ?_));rintro aA cA rfl)
  rw[show T0++(Sha.nI (8*b.length)).take i++[UInt8.ofNat (8*b.length/2 ^ (56-8*i))]=T0++(Sha.nI (8*b.length)).take (i+1)from by rw[PJ,List.append_assoc]]
  refine go ?_
  refine aM ih (i+1,aA,cA) rfl (by simp only;omega) (by simp only;omega) bS ag
 intro ep
 have Jp:i=8:=by omega
 subst Jp
 clear ih
 have CO:T0++(Sha.nI (8*b.length)).take 8=Sha.msg b:=by
  rw[M8,List.take_of_length_le (by simp[Sha.nI])]
  unfold Sha.msg Sha.pad
  grind
 have nX:(ej b).bs=Sha.out (Sha.chunks Sha.start (Sha.msg b) ((Sha.msg b).length/64)):=GL b
 rw[← CO]at nX
 generalize T0++(Sha.nI (8*b.length)).take 8=T at Hm nX ⊢
 have aek:T.length%64=0:=by omega
 have hTl:T.length≤1000000200:=by omega
 clear xX Pv M8 mW hz hz1 QG Hm CO
 have Jl:∀s:Sha.St,(wV s.l).length=8:=fun s=>rfl
 have Pr:∀s:Sha.St,wV s.l≠[]:=fun s e=>by have:=congrArg List.length e;rw[Jl]at this;cases this
 refine qP (bs:=T) 0 rfl ?_
 intro Pe
 have YS:ew (Sep [aB 5 1 (.slice a3 T.length c3) T.length (bV T),A]) (.slice a3 T.length c3) T:=Pe.mono (bn (i:=0) rfl)
 refine al (ao.bK [_,_] _) (go ?_)
 refine iC (U:=aU) (cs:=wV Sha.start.l) zr zr zr zr zr zr ?_
 refine az zr zr zr bh ?_
 intro b6
 refine aY ?_
 refine cH (U:=aU) (l':=wV Sha.start.l) 0 e8 zr zr zr zr (by decide) (eF _) zr zr zr (go ?_)
 refine bj (fun y:Nat × Option Addr × Nat=>64*y.1≤T.length∧ew (Sep [aB 5 1 (.slice a3 T.length c3) T.length (bV T),A]) (.slice y.2.1 (T.length-64*y.1) y.2.2) (T.drop (64*y.1))) (fun y=>T.length-64*y.1)
  (fun y=>[(2,ptr b2),(6,ptr b6),(3,.slice y.2.1 (T.length-64*y.1) y.2.2)])
  (fun y=>ae b6 (cl (wV (Sha.chunks Sha.start T y.1).l) 222)::Sep [aB 5 1 (.slice a3 T.length c3) T.length (bV T),A]::ae b2 (cl (dC Dg.zero) 32)::F) (0,a3,c3) ⟨ai,YS⟩ rfl bS (by unfold Sha.chunks;exact ag) ?_
 rintro⟨q,a4,c4⟩⟨hq,hbq⟩ ih
 simp only at hq hbq
 dsimp only
 refine go ?_
 refine aq zr zr ?_ ?_
 ·intro cL
  have hq1:64*q+64≤T.length:=by omega
  have CV:(T.drop (64*q)).length=T.length-64*q:=List.length_drop
  have BF:=hbq.front 64 (by rw[CV];omega)
  have CW:=hbq.cut 64 (by rw[CV];omega)
  have jl:((T.drop (64*q)).take 64).length=64:=by rw[List.length_take,CV];omega
  have PG:=JP _ _ _ BF (by rw[jl];omega) (Sha.chunks Sha.start T q)
  have u6:Sha.chunk (Sha.chunks Sha.start T q) ((T.drop (64*q)).take 64)=Sha.chunks Sha.start T (q+1):=by
   have h1:=Sha.zM (Sha.chunks Sha.start T q) ((T.drop (64*q)).take 64) ((T.drop (64*q)).drop 64) (by rw[jl];omega)
   rw[List.take_append_drop]at h1
   rw[← h1]
   conv=>rhs;unfold Sha.chunks
  rw[u6]at PG
  refine go ?_
  refine aL (fun w=>Sat G w ([ae b6 (cl (wV (Sha.chunks Sha.start T q).l) 222)])) (cJ 0 3 (.act 3 (.act 4 .nil))) rfl ah ah ah dv ?_
  refine go ?_
  refine bX (U:=aU) 0 zr zr zr zr zr zr (go ?_)
  refine bw (p:=0) (q:=64) rfl rfl rfl rfl rfl rfl rfl ai ai (.inr (by obtain⟨_,_,_,he,hcc⟩:=hbq;simp only[Value.slice.injEq]at he;rw[CV]at hcc;omega)) ?_
  refine aG 45 ((.slice (sliceAt a4 c4 0 1) 64 c4)) rfl (rfl) ?_
  refine bE PG ?_
  unfold Of
  refine aY ?_
  refine cH (U:=aU) 1 e8 zr zr zr zr (Pr _) (eF _) rfl (by rw[Jl,Jl]) rfl (go ?_)
  refine bw (p:=64) (q:=((T.length-64*q:Nat):Int)) zr zr zr zr zr zr zr ai ai (.inl rfl) ?_
  ((refine aG 48 ((.slice (sliceAt a4 c4 64 1) (T.length-64*(q+1)) (c4-64))) rfl ((by rw[show(((T.length-64*q:Nat):Int)).toNat-(64:Int).toNat=T.length-64*(q+1)from by omega];rfl)) ?_))
  refine go ?_
  rw[List.drop_drop,CV,show T.length-64*q-64=T.length-64*(q+1)from by omega,show 64*q+64=64*(q+1)from by omega]at CW
  refine aM ih (q+1,sliceAt a4 c4 64 1,c4-64) rfl ⟨by simp only;omega,CW⟩ (by simp only;omega) bS ag
 intro ep
 have Y1:q=T.length/64:=by omega
 subst Y1
 clear ih
 generalize Sha.chunks Sha.start T (T.length/64)=S2 at nX ⊢
 refine al (ao.trans (ao.pick [1] rfl) (ao.bY _ _)) (go ?_)
 refine az zr zr zr bh ?_
 intro b9
 refine go ?_
 have QS:=Sha.AJ S2
 have CV:∀i,i≤32→((Sha.out S2).take i++List.replicate (32-i) (0:UInt8)).length=32:=fun i hi=>by
  grind
 refine bj (fun i:Nat=>i≤32) (fun i=>32-i)
  (fun i=>[(2,ptr b2),(6,ptr b6),(7,ptr b9),(8,.int .i64 (i:Int))])
  (fun i=>ae b9 (cl (bV ((Sha.out S2).take i++List.replicate (32-i) (0:UInt8))) 32)::ae b6 (cl (wV S2.l) 222)::ae b2 (cl (dC Dg.zero) 32)::A::F) 0 (Nat.zero_le _) rfl bS ag ?_
 rintro i hi ih
 refine go ?_
 refine aq zr zr ?_ ?_
 ·intro cL
  have rN:i<32:=by omega
  have hq4:(i:Int)/4=((i/4:Nat):Int):=by omega
  have hr4:24-8*((i:Int)%4)=((24-8*(i%4):Nat):Int):=by omega
  have Pb:(wV S2.l)[i/4]?=some (u32 (S2.l.getD (i/4) 0)):=gp (by rw[List.getD_eq_getElem?_getD,List.getElem?_eq_getElem (show i/4<S2.l.length from by show i/4<8;omega)];rfl)
  have Je:(Sha.out S2)[i]?=some (UInt8.ofNat ((S2.l.getD (i/4) 0) >>> (24-8*(i%4))).toNat):=by simp[Sha.out,rN]
  (repeat(first|refine er ?_|refine mT zr zr zr ai ai (by simp only[fz];omega) ?_|refine lT zr zr zr ai ai ?_|refine eN zr zr zr (by simp only[fz];omega) ?_|refine dI (U:=aU) (i/4) zr zr zr zr zr zr zr hq4 ai ?_|(refine aP ?_;refine lu (U:=aU) 1 (i/4) zr zr zr (Nat.zero_add _) Pb zr zr ?_)|refine pq (24-8*(i%4)) zr zr zr hr4 ai ?_|(refine ed ?_;refine Ac (U:=aU) zr zr zr zr zr zr ?_)|refine dI (U:=aU) i zr zr zr zr zr zr zr zr rN ?_))
  refine aY ?_
  refine fO (U:=aU) 0 e8 zr zr zr zr zr zr zr (by rw[bD,CV i ai];omega) rfl ?_
  rw[show 0+i=i from Nat.zero_add _,Cj QS Je]
  refine go ?_
  refine aM ih (i+1) rfl ai ai bS ag
 intro ep
 have rN:i=32:=by omega
 subst rN
 rw[List.take_of_length_le ai,show 32-32=0 from rfl,List.replicate_zero,List.append_nil,← nX,← dW]
 clear ih CV QS nX
 refine go ?_
 refine aO (U:=aU) (l:=dC (ej b)) 0 zr zr zr zr zr zr ?_
 refine cH (U:=aU) (l':=dC (ej b)) 2 e8 rfl rfl rfl rfl (by intro e;cases e) (by rw[dW];exact kP _) rfl rfl rfl ?_
 refine go ?_
 (refine a6 hE ?_;apply aZ (U:=aU) hE Tryz.func48 rfl (ao.refl _);(repeat(first|exact aR.nil|apply aR.agg 2 zr zr zr zr zr));exact⟨rfl,rfl⟩;exact ag)
end Go.Proofs.YtlcoaflddajjcaaGreatDoor
namespace Go.Proofs.YtlcoaflddajjcaaGreatDoor
open Go Go.SL
def fH(x:Int × List UInt8):List UInt8:=UInt8.ofNat x.1.toNat::(uv x.2.length++x.2)
def cn(l:List (Int × List UInt8)):List UInt8:=l.flatMap fH
def q6:Nat→List UInt8→List (Int × List UInt8)
 | 0,_=>[]
 | f+1,b=>match b with
  | []=>[]
  | c::r=>if(cR r).2.2=true∧(cR r).1≤(cR r).2.1.length then((c.toNat:Int),(cR r).2.1.take (cR r).1)::q6 f ((cR r).2.1.drop (cR r).1)else [(0,[])]
def dF:Int→List (Int × List UInt8)→Bool
 | _,[]=>true
 | last,x::l=>decide (last<x.1) && decide (x.1≤63) && dF x.1 l
def nW(b:List UInt8):Option (List (Int × List UInt8)):=if 65536<b.length then none else if dF 0 (q6 b.length b)then some (q6 b.length b)else none
structure It where
 n:Int
 v:Value
 b:List UInt8
instance:Inhabited It:=⟨⟨0,.slice none 0 0,[]⟩⟩
def gY(x:It):List Value:=[.int .i64 x.n,x.v]
theorem fT(x:It):(gY x).length=2:=rfl
def It.p(x:It):Int × List UInt8:=(x.n,x.b)
def lW(X:HP)(v:Value)(l:List It):Prop:=Vw X v l.length (l.flatMap gY)∧∀x∈l,ew X x.v x.b
theorem rA(a b:List (Int × List UInt8)):cn (a++b)=cn a++cn b:=by simp[cn]
theorem pF(l:List (Int × List UInt8))(i:Nat):(cn (l.take i)).length≤(cn l).length:=by
 conv=>rhs;rw[← List.take_append_drop i l]
 grind [rA]
def kf(l:List (Int × List UInt8))(i:Nat):Int:=match (l.take i).getLast? with
 | some x=>x.1
 | none=>0
theorem Cb:∀(l:List (Int × List UInt8)) (last:Int) (i:Nat) (x:Int × List UInt8),dF last l=true→l[i]?=some x→(match (l.take i).getLast? with|some y=>y.1|none=>last)<x.1∧x.1≤63:=by
 intro l
 induction l with
 | nil=>intro last i x h hx;simp at hx
 | cons y l ih =>
  grind [dF]
theorem qx{l:List (Int × List UInt8)}{i:Nat}{x:Int × List UInt8}(h:l[i]?=some x):kf l (i+1)=x.1:=by
 grind [kf]
theorem Ca:∀(l:List (Int × List UInt8)) (last:Int),dF last l=true→0≤last→∀x∈l,0<x.1:=by
 intro l
 induction l with
 | nil=>intro last h h0 x hx;cases hx
 | cons y l ih =>
  grind [dF]
theorem Nj:∀(bs:List UInt8) (i acc n:Nat) (r:List UInt8) (ok:Bool),p9 i acc bs=some (n,r,ok)→r.length<bs.length:=by
 intro bs
 induction bs with
 | nil=>intro i acc n r ok h;simp[p9]at h
 | cons c bs ih =>
  grind [p9]
theorem o4(bs:List UInt8):(cR bs).2.1.length≤bs.length:=by
 unfold cR
 cases h:p9 0 0 bs with
 | none=>simp
 | some x =>
  have:=Nj bs 0 0 _ _ _ h
  grind
theorem yS:∀(f g:Nat) (b:List UInt8),b.length≤f→b.length≤g→q6 f b=q6 g b
 | 0,0,_,_,_=>rfl
 | 0,g+1,b,hf,_=>by
  have:b=[]:=List.eq_nil_of_length_eq_zero ai
  subst this;rfl
 | f+1,0,b,_,hg=>by
  have:b=[]:=List.eq_nil_of_length_eq_zero ai
  subst this;rfl
 | f+1,g+1,[],_,_=>rfl
 | f+1,g+1,c::r,hf,hg=>by
  rw[q6,q6]
  have:=o4 r
  rw[List.length_cons]at hf hg
  split
  ·rw[yS f g _ (by grind) (by grind)]
  ·rfl
def dQ(b:List UInt8):List (Int × List UInt8):=q6 b.length b
theorem vD:dQ []=[]:=rfl
theorem sR{c:UInt8}{r:List UInt8}(h:(cR r).2.2=true∧(cR r).1≤(cR r).2.1.length):dQ (c::r)=((c.toNat:Int),(cR r).2.1.take (cR r).1)::dQ ((cR r).2.1.drop (cR r).1):=by
 grind [o4,dQ,q6,yS]
theorem BN{c:UInt8}{r:List UInt8}(h:¬((cR r).2.2=true∧(cR r).1≤(cR r).2.1.length)):dQ (c::r)=[(0,[])]:=by
 grind [dQ,q6]
theorem q7:∀(f:Nat) (b:List UInt8),b.length≤f→(dQ b).length≤b.length
 | 0,b,h=>by
  grind [vD]
 | f+1,[],_=>by simp[vD]
 | f+1,c::r,h=>by
  have h1:=o4 r
  rw[List.length_cons]at h
  by_cases hk:(cR r).2.2=true∧(cR r).1≤(cR r).2.1.length
  ·have h2:=q7 f ((cR r).2.1.drop (cR r).1) (by grind)
   grind [sR]
  grind [BN]
def rX(xs:List (Int × List UInt8))(i:Nat):Bool:=match xs[i]? with
 | some x=>decide (kf xs i<x.1) && decide (x.1≤63)
 | none=>true
def wS{xs:List (Int × List UInt8)}{i:Nat}{x:Int × List UInt8}(h:xs[i]?=some x):rX xs i=(decide (kf xs i<x.1) && decide (x.1≤63)):=by unfold rX;rw[h]
theorem Lz:∀(l:List (Int × List UInt8)) (last:Int),(dF last l=true↔∀i x,l[i]?=some x→(match (l.take i).getLast? with|some y=>y.1|none=>last)<x.1∧x.1≤63):=by
 intro l
 induction l with
 | nil=>intro last;simp[dF]
 | cons y l ih =>
  intro last
  simp only[dF,Bool.and_eq_true,ih]
  constructor
  ·grind
  ·intro h
   refine⟨by simpa using h 0 y rfl,fun i x hx=>?_⟩
   have:=h (i+1) x (by grind)
   grind
def zb(xs:List (Int × List UInt8)):dF 0 xs=true↔∀i,i<xs.length→rX xs i=true:=by
 rw[Lz]
 constructor
 ·intro h i hi
  have hx:xs[i]?=some xs[i]:=by simp
  rw[wS hx,Bool.and_eq_true,decide_eq_true_eq,decide_eq_true_eq]
  exact h i _ hx
 ·intro h i x hx
  have:=h i (List.getElem?_eq_some_iff.1 hx).1
  rw[wS hx,Bool.and_eq_true,decide_eq_true_eq,decide_eq_true_eq]at this
  exact this
def dq(b:List UInt8):Dg:=cz 0 [b]
def iR(l r:Dg):Dg:=cz 1 [l.bs,r.bs]
def cI:List Dg→List Dg
 | a::b::r=>iR a b::cI r
 | l=>l
theorem jH:∀l:List Dg,(cI l).length=(l.length+1)/2
 | []=>rfl
 | [a]=>by simp[cI]
 | a::b::r=>by simp only[cI,List.length_cons,jH r];omega
theorem qM:∀(l:List Dg) (i:Nat),(cI l)[i]?=match l[2*i]?,l[2*i+1]? with
  | some a,some b=>some (iR a b)
  | x,_=>x
 | [],i=>by simp[cI]
 | [a],i=>by
  cases i with
  | zero=>rfl
  | succ i=>simp[cI,show 2*(i+1)=2*i+1+1 from by omega]
 | a::b::r,i=>by
  cases i with
  | zero=>rfl
  | succ i =>
   simp only[cI,List.getElem?_cons_succ,show 2*(i+1)=2*i+1+1 from by omega]
   exact qM r i
def upL:Nat→List Dg→List Dg
 | 0,l=>l
 | f+1,l=>if l.length≤1 then l else upL f (cI l)
def B9(l:List Dg):Dg:=if l=[]then cz 2 []else((upL l.length l).head?).getD Dg.zero
structure Bl where
 d:Dg
 size:Int
 piece:Int
 root:Dg
deriving DecidableEq
instance:Inhabited Bl:=⟨⟨Dg.zero,0,0,Dg.zero⟩⟩
def Bl.zero:Bl:=⟨Dg.zero,0,0,Dg.zero⟩
def ck(x:Bl):List Value:=dC x.d++[.int .i64 x.size,.int .i64 x.piece]++dC x.root
def A9(x:Bl):(ck x).length=66:=rfl
def bJ(x:Bl):Bool:=decide (1≤x.size∧x.size≤1048576∧16≤x.piece∧x.piece≤16384∧(x.size+x.piece-1)/x.piece≤1024)
def dM(x:Bl):Int:=if bJ x then(x.size+x.piece-1)/x.piece else 0
def rp(x:Bl)(i:Int):Option (Int × Int):=if i<0∨dM x≤i then none else some (i*x.piece,min x.piece (x.size-i*x.piece))
def iP(k:Nat):Nat→List UInt8→List (List UInt8)
 | 0,_=>[]
 | f+1,b=>if b=[]then []else b.take k::iP k f (b.drop k)
def iT(b:List UInt8)(piece:Int):Option (List Dg):=if bJ ⟨Dg.zero,b.length,piece,Dg.zero⟩then some ((iP piece.toNat b.length b).map dq)else none
def o7(b:List UInt8)(piece:Int):Option Bl:=(iT b piece).map fun l=>⟨ej b,b.length,piece,B9 l⟩
def KX(x:Bl)(b:List UInt8):Bool:=decide (o7 b x.piece=some x)
def jy:List Bl→Bool
 | []=>false
 | x::l=>l.any (fun y=>decide (y.d=x.d)) || jy l
def cG(l:List Bl):Nat:=if l.length<1∨16<l.length∨l.any (fun x => !bJ x)=true then 1 else if jy l then 5 else 0
def bH(x:Bl):List (Int × List UInt8):=[(1,x.d.bs),(2,uv x.size.toNat),(3,uv x.piece.toNat),(4,x.root.bs)]
def fR:Nat→List Bl→List (Int × List UInt8)
 | _,[]=>[]
 | i,x::l=>((i:Int)+1,cn (bH x))::fR (i+1) l
def dO(l:List Bl):List UInt8:=cn (fR 0 l)
def cw(l:List Bl):Dg:=ej (dO l)
def tF(b:List UInt8):Dg:=if h:b.length=32 then⟨b,h⟩else Dg.zero
def kj(b:List UInt8):Option Bl:=match nW b with
 | some [(_,a),(_,s),(_,p),(n,r)]=>if n≠4∨a.length≠32∨r.length≠32 then none else match cY s,cY p with
  | some s,some p=>if 1048576<max s p then none else some ⟨tF a,s,p,tF r⟩
  | _,_=>none
 | _=>none
def gi:Nat→List (Int × List UInt8)→Option (List Bl)
 | _,[]=>some []
 | i,(n,b)::l=>match kj b with
  | some x=>if n≠(i:Int)+1 then none else(gi (i+1) l).map (x::·)
  | none=>none
def qG(b:List UInt8):Option (List Bl):=match nW b with
 | some l=>match gi 0 l with
  | some x=>if cG x=0 then some x else none
  | none=>none
 | none=>none
theorem Ij{n:Nat}(hn:n<256)(b:List UInt8)(hb:b.length<9223372036854775808)(r:List UInt8):dQ (fH ((n:Int),b)++r)=((n:Int),b)::dQ r:=by
 have h1:fH ((n:Int),b)++r=UInt8.ofNat n::(uv b.length++(b++r)):=by simp[fH]
 have h2:=HH hb (b++r)
 rw[h1,sR (by rw[h2];simp),h2]
 simp only[List.take_left,List.drop_left,List.cons.injEq,Prod.mk.injEq,and_true]
 simp[UInt8.toNat_ofNat']
 omega
theorem Lb:∀(l:List (Int × List UInt8)) (last:Int),0≤last→dF last l=true→(∀x∈l,x.2.length<9223372036854775808)→dQ (cn l)=l:=by
 intro l
 induction l with
 | nil=>intro _ _ _ _;rfl
 | cons x l ih =>
  grind [dF,cn,fH,Ij]
theorem BO{l:List (Int × List UInt8)}(hr:dF 0 l=true)(hs:(cn l).length≤65536):nW (cn l)=some l:=by
 have hl:∀x∈l,x.2.length<9223372036854775808:=fun x hx=>by
  obtain⟨p,q,rfl⟩:=List.append_of_mem hx
  grind [rA,cn,fH]
 have h:=Lb l 0 (Int.le_refl _) hr hl
 grind [dQ,nW]
def GD{n:Nat}(h:n≤1048576):(uv n).length≤3:=vt 2 n ai
def nA(x:Bl)(h:bJ x=true):(cn (bH x)).length≤78:=by
 simp only[bJ,decide_eq_true_eq]at h
 have h1:=GD (n:=x.size.toNat) ai
 have h2:=GD (n:=x.piece.toNat) ai
 have h3:uv 32=[32]:=by rw[fX ai];rfl
 have h4:(uv (uv x.size.toNat).length).length=1:=by rw[fX ai];rfl
 have h5:(uv (uv x.piece.toNat).length).length=1:=by rw[fX ai];rfl
 simp only[cn,bH,fH,List.flatMap_cons,List.flatMap_nil,List.length_append,List.length_cons,List.length_nil,x.d.len,x.root.len,h3,h4,h5]
 omega
def JT(x:Bl)(h:bJ x=true):kj (cn (bH x))=some x:=by
 have hl:=nA x h
 have h':=h
 simp only[bJ,decide_eq_true_eq]at h'
 unfold kj
 rw[BO (by simp[bH,dF]) ai]
 simp only[bH,x.d.len,x.root.len,ne_eq,not_true_eq_false,or_self,if_false]
 rw[yR ai,yR ai]
 simp only
 rw[if_neg ai]
 obtain⟨d,s,p,r⟩:=x
 simp only at h' ⊢
 obtain⟨s,rfl⟩:∃m:Nat,s=m:=⟨s.toNat,ai⟩
 obtain⟨p,rfl⟩:∃m:Nat,p=m:=⟨p.toNat,ai⟩
 simp[tF,d.len,r.len]
theorem lK:∀(l:List Bl) (i:Nat),i+l.length≤63→dF (i:Int) (fR i l)=true
 | [],i,_=>rfl
 | x::l,i,h=>by
  rw[List.length_cons]at h
  simp only[fR,dF,Bool.and_eq_true,decide_eq_true_eq]
  refine⟨⟨ai,ai⟩,?_⟩
  have:=lK l (i+1) ai
  grind
theorem wA:∀(l:List Bl) (i:Nat),(∀x∈l,bJ x=true)→(cn (fR i l)).length≤80*l.length
 | [],i,_=>by simp[fR,cn]
 | x::l,i,h=>by
  have h1:=nA x (h x (List.mem_cons_self ..))
  have h2:=wA l (i+1) fun y hy=>h y (List.mem_cons_of_mem _ hy)
  have h3:(uv (cn (bH x)).length).length=1:=by rw[fX ai];rfl
  grind [cn,fR,fH]
theorem uw:∀(l:List Bl) (i:Nat),(∀x∈l,bJ x=true)→gi i (fR i l)=some l
 | [],i,_=>rfl
 | x::l,i,h=>by
  simp only[fR,gi,JT x (h x (List.mem_cons_self ..)),ne_eq,not_true_eq_false,if_false]
  rw[uw l (i+1) fun y hy=>h y (List.mem_cons_of_mem _ hy)]
  rfl
theorem iU{l:List Bl}(h:cG l=0):l.length≤16∧1≤l.length∧∀x∈l,bJ x=true:=by
 grind [cG]
theorem mP{l:List Bl}(h:cG l=0):(dO l).length≤1280:=by
 grind [iU,wA,dO]
theorem C5{l:List Bl}(h:cG l=0):qG (dO l)=some l:=by
 obtain⟨h1,h2,h3⟩:=iU h
 have hl:=mP h
 grind [lK,qG,dO,BO,uw]
theorem FQ{b:List UInt8}{l:List Bl}(h:qG b=some l):cG l=0:=by
 grind [qG]
def J4{l:List Dg}{i:Nat}{a b:Dg}(ha:l[2*i]?=some a)(hb:l[2*i+1]?=some b):(cI l)[i]?=some (iR a b):=by
 rw[qM,ha,hb]
theorem Ds{l:List Dg}{i:Nat}{a:Dg}(ha:l[2*i]?=some a)(hb:l.length≤2*i+1):(cI l)[i]?=some a:=by
 grind [qM]
def gJ:Nat→List Dg→List Dg
 | 0,l=>l
 | j+1,l=>cI (gJ j l)
def nh(l:List Dg):∀j,gJ j (cI l)=gJ (j+1) l
 | 0=>rfl
 | j+1=>by
  show cI (gJ j (cI l))=_
  rw[nh l j];rfl
theorem GR(l:List Dg):∀j,(gJ j l).length≤l.length
 | 0=>Nat.le_refl _
 | j+1=>by
  have:=GR l j
  grind [gJ,jH]
theorem B8(l:List Dg)(h:1≤l.length):∀j,1≤(gJ j l).length
 | 0=>h
 | j+1=>by
  have:=B8 l h j
  grind [gJ,jH]
theorem GG:∀(f:Nat) (l:List Dg) (j:Nat),l.length≤f+1→(∀i,i<j→1<(gJ i l).length)→(gJ j l).length≤1→upL f l=gJ j l
 | 0,l,j,hf,hi,hj=>by
  cases j with
  | zero=>rfl
  | succ j =>
   have:=hi 0 ai
   grind [gJ]
 | f+1,l,j,hf,hi,hj=>by
  unfold upL
  cases j with
  | zero=>rw[if_pos (show l.length≤1 from hj)];rfl
  | succ j =>
   have h0:=hi 0 ai
   simp only[gJ]at h0
   rw[if_neg ai,GG f (cI l) j (by rw[jH];omega) (fun i h=>by rw[nh];exact hi (i+1) ai) (by rw[nh];exact hj),nh]
theorem Ly{l:List Dg}{j:Nat}(h1:l≠[])(hi:∀i,i<j→1<(gJ i l).length){x:Dg}(hj:gJ j l=[x]):B9 l=x:=by
 grind [B9,GG]
theorem oD(k:Nat)(hk:0<k):∀(f:Nat) (b:List UInt8) (j:Nat),b.length≤f→(iP k f b)[j]?=if j*k<b.length then some ((b.drop (j*k)).take k)else none
 | 0,b,j,h=>by
  grind [iP]
 | f+1,b,j,h=>by
  unfold iP
  by_cases hb:b=[]
  ·grind
  ·rw[if_neg hb]
   have oO:0<b.length:=List.length_pos_iff.2 hb
   cases j with
   | zero=>simp[oO]
   | succ j =>
    rw[List.getElem?_cons_succ,oD k hk f (b.drop k) j (by rw[List.length_drop];omega),List.length_drop,List.drop_drop]
    grind
theorem uj(k:Nat)(hk:0<k)(b:List UInt8):(iP k b.length b).length=(b.length+k-1)/k:=by
 have hg:=oD k hk b.length b
 have h1:∀j,j<(iP k b.length b).length↔j<(b.length+k-1)/k:=by
  intro j
  have h2:=hg j (Nat.le_refl _)
  have h3:j<(b.length+k-1)/k↔j*k<b.length:=by
   rw[show j<(b.length+k-1)/k↔j+1≤(b.length+k-1)/k from Iff.rfl,Nat.le_div_iff_mul_le hk,Nat.add_mul,Nat.one_mul]
   omega
  grind
 rcases Nat.lt_trichotomy (iP k b.length b).length ((b.length+k-1)/k)with h|h|h
 ·grind
 ·exact h
 grind
attribute [local irreducible] J K au Ends ae aB aI bB aW aS a7 aX bF Sha.chunks Sha.chunk Sha.rounds Sha.sched ej cz
def ew.block{b n:Nat}{bs:List UInt8}{l:List Value}{e:TypeId}(hn:bs.length=n)(hl:l=bV bs):ew (ae b (cl l e)) (.slice (some ⟨b,0,none⟩) n n) bs:=by
 subst hn hl
 exact⟨Vw.ae (by rw[List.drop_zero,List.take_length]),_,_,rfl,Nat.le_refl _⟩
def NR(A:HP)(hK:pY A)(v:Value)(b:List UInt8)(hv:ew A v b)(hl:b.length≤900000000):au Tryz.prog 258 [v] [A] (fun r H=>r=dV (dq b)∧H=[A]):=by
 obtain⟨a,c,rfl,hc⟩:=hv.2
 refine au.ak Tryz.func258 Tryz.ntmps258 fun G F R hE=>?_
 refine aD rfl ?_
 refine az zr zr zr bh ?_
 intro b2
 refine oe ?_
 (refine aD rfl ?_;refine oe ?_)
 refine aj (cs:=[.slice a b.length c]) zr zr zr zr zr zr zr zr zr bh ?_
 intro b0
 refine aN (ao.trans (ao.pick [0,2] rfl) (ao.bK [_,_] _)) ?_
 ((refine aF (xB (Sep [ae b0 (cl [.slice a b.length c] 22),A]) (hK.mono (bn (i:=1) rfl)) 0 _ [b] (qN.row rfl rfl (fun i x hx=>by cases i with|zero=>(simp at hx;subst hx;exact⟨_,rfl,hv⟩)|succ i=>simp at hx)) (by simp[cK,kJ];omega)) ?_))
 rintro _ _⟨rfl,rfl⟩
 refine aN (ao.bY _ _) (go ?_)
 (refine a6 hE ?_;apply aZ (U:=aU) hE Tryz.func258 rfl (ao.refl _);(repeat(first|exact aR.nil|apply aR.agg 2 zr zr zr zr zr));exact⟨rfl,rfl⟩;exact ag)
def DB(A:HP)(hK:pY A)(l r:Dg):au Tryz.prog 348 [dV l,dV r] [A] (fun x H=>x=dV (iR l r)∧H=[A]):=by
 refine au.ak Tryz.func348 Tryz.ntmps348 fun G F R hE=>?_
 refine aD rfl ?_
 refine bu zr zr bh ?_
 intro b2
 refine bu zr zr bh ?_
 intro b3
 refine az zr zr zr bh ?_
 intro b4
 refine go ?_
 refine aL (fun w=>Sat G w ([])) (.st 0 (.st 1 (.act 2 (.act 3 (.act 4 .nil))))) rfl ah ah ah dv ?_
 refine go ?_
 refine fW (U:=aU) zr zr zr zr zr (go ?_)
 refine fW (U:=aU) zr zr zr zr zr ?_
 refine aj (cs:=[.slice (some ⟨b2,0,none⟩) 32 32,.slice (some ⟨b3,0,none⟩) 32 32]) zr zr zr zr zr zr zr zr zr (fun _ _ hw=>hw.cu ag) ?_
 intro b0
 refine aN (ao.trans (ao.pick [3,2,4] rfl) (ao.trans (ao.bK [_,_,_] _) (ao.trans (ao.pick [1,0] rfl) (ao.bK [_,_] _)))) ?_
 have lz:qN (Sep [ae b0 (cl [.slice (some ⟨b2,0,none⟩) 32 32,.slice (some ⟨b3,0,none⟩) 32 32] 22),Sep [ae b2 (cl (dC l) 32),ae b3 (cl (dC r) 32),A] ]) (.slice (some ⟨b0,0,none⟩) 2 2) [l.bs,r.bs]:=by
  refine qN.row zr zr (fun i x hx=>?_)
  match i,hx with
  | 0,hx =>
   simp at hx
   subst hx
   exact⟨_,rfl,(ew.block l.len (dW l)).mono (bn (i:=0) rfl)⟩
  | 1,hx =>
   simp at hx
   subst hx
   exact⟨_,rfl,(ew.block r.len (dW r)).mono (bn (i:=1) rfl)⟩
  | i+2,hx=>simp at hx
 have YU:=xB _ ((hK.mono (bn (H:=[ae b2 (cl (dC l) 32),ae b3 (cl (dC r) 32),A]) (i:=2) rfl)).mono (bn (i:=1) rfl)) 1 _ [l.bs,r.bs] lz (by simp[cK,kJ,l.len,r.len])
 refine bE YU ?_
 refine aN (ao.trans (ao.bY _ _) (ao.trans (ao.pick [1] rfl) (ao.bY _ _))) (go ?_)
 refine aY ?_
 refine cH (U:=aU) (l':=dC (cz 1 [l.bs,r.bs])) 4 e8 rfl rfl rfl rfl (by intro e;cases e) (by rw[dW];exact kP _) rfl rfl rfl ?_
 refine go ?_
 (refine a6 hE ?_;apply aZ (U:=aU) hE Tryz.func348 rfl (ao.refl _);(repeat(first|exact aR.nil|apply aR.agg 4 zr zr zr zr zr));exact⟨rfl,rfl⟩;exact ag)
theorem FR(l:List Dg):∀v∈l.flatMap dC,v.oneCell'=true:=by
 grind [dW,cB]
theorem N9(A:HP)(v:Value)(W:List Dg)(hv:Vw A v W.length (W.flatMap dC))(hlen:W.length≤1000000) :
  au Tryz.prog 347 [v] [A] (fun r H=>H=[aB 32 32 r W.length (W.flatMap dC),A]):=by
 obtain⟨a,c0,rfl⟩:=hv.shape
 cases a with
 | none =>
  have hb:W=[]:=by
   obtain⟨a,cap,h1,h2|⟨b,o,h2,_⟩⟩:=hv
   ·have:=congrArg List.length h2
    rw[bT mf]at this
    exact List.eq_nil_of_length_eq_zero (by simp at this;omega)
   grind
  subst hb
  refine au.enter Tryz.func347 ah rfl Tryz.ntmps347 zr zr ?_
  intro G F R hR
  refine go ?_
  refine al (bg 32 32 none _) ?_
  refine aK hR Tryz.func347 rfl _ zr zr (ao.fin [0,1] 0 zr zr)
 | some a =>
  refine au.enter Tryz.func347 ah rfl Tryz.ntmps347 zr zr ?_
  intro G F R hR
  refine go ?_
  refine aj (cs:=[]) zr zr zr zr zr zr zr zr zr bh ?_
  intro b0
  refine go ?_
  refine aN (ef 32 32 b0 0 0 [] [] _ rfl (Nat.le_refl _) (by simp)) ?_
  refine aJ (mm:=W.length) (news:=W.flatMap dC) 0 1 zr zr zr zr zr zr zr zr zr zr zr zr hv (by rw[bT mf];rfl) (FR W) ai (by show _*32≤_;omega) (fun _=>rfl) bh ?_
  intro v'
  have e1:(0:Nat)+W.length=W.length:=by omega
  rw[e1,List.nil_append]
  refine go ?_
  refine aK hR Tryz.func347 rfl _ zr zr (ao.fin [0,1] 0 zr zr)
def kp{b o c m m':Nat}(h:0<c)(hm:m'=m):Value.slice (sliceAt (some ⟨b,o,none⟩) c (0:Int).toNat 32) (((m:Nat):Int).toNat-(0:Int).toNat) (c-(0:Int).toNat) = .slice (some ⟨b,o,none⟩) m' c:=by
 subst hm
 unfold sliceAt
 simp[Addr.add]
theorem Kd(A:HP)(tag:UInt8)(v:Value)(ps:List (List UInt8))(hv:qN A v ps)(hl:(cK tag ps).length≤1000000000) :
  au Tryz.prog 216 [u8 tag,v] [A] (fun r H=>H=[aB 5 1 r (cK tag ps).length (bV (cK tag ps)),A]):=by
 obtain⟨cs,cW,mX,⟨a,c,rfl,hc⟩,qf⟩:=hv
 have PE:=rH tag ps
 refine au.ak Tryz.func216 Tryz.ntmps216 fun G F R hE=>?_
 refine go ?_
 refine aj (cs:=bV [tag]) zr zr zr zr zr zr zr zr zr bh ?_
 intro b0
 refine go ?_
 refine al (ef 5 1 b0 1 1 (bV [tag]) [] _ rfl (Nat.le_refl _) (by simp[bV])) ?_
 refine bj (fun y:Nat × Option Addr × Nat=>y.1≤ps.length) (fun y=>ps.length-y.1)
  (fun y=>[(1,.slice a ps.length c),(6,.int .i64 (y.1:Int)),(5,.slice y.2.1 (cK tag (ps.take y.1)).length y.2.2)])
  (fun y=>aB 5 1 (.slice y.2.1 (cK tag (ps.take y.1)).length y.2.2) (cK tag (ps.take y.1)).length (bV (cK tag (ps.take y.1)))::A::F) (0,some ⟨b0,0,none⟩,1) (Nat.zero_le _) rfl bS ag ?_
 rintro⟨i,a1,c1⟩ hi ih
 simp only at hi
 dsimp only
 refine go ?_
 refine aq zr zr ?_ ?_
 ·intro cL
  have jL:i<ps.length:=by omega
  obtain⟨p,hp⟩:∃p,ps[i]?=some p:=⟨ps[i],List.getElem?_eq_getElem jL⟩
  obtain⟨cv,qg,hb⟩:=qf i p hp
  obtain⟨b1,o1,c0,sN⟩:=cW.some (by intro h;rw[h]at qg;simp at qg)
  simp only[Value.slice.injEq]at sN
  obtain⟨rfl,-,rfl⟩:=sN
  have jl:=uk (tag:=tag) hp
  have hle:=ze tag ps (i+1)
  have ab3:=G8 p.length
  rw[jl]at hle
  simp only[List.length_append]at hle
  obtain⟨T0,M8⟩:∃T0,T0=cK tag (ps.take i):=⟨_,rfl⟩
  rw[← M8]at jl hle ⊢
  obtain⟨ax,cx,rfl,hcx⟩:=hb.2
  have Pv:∀j:Nat,j≤8→(T0++(kJ p.length).take j).length=T0.length+j:=fun j hj=>by
   grind
  refine go ?_
  refine bp i zr zr zr zr zr zr zr zr jL ?_
  refine aP ?_
  refine aQ 1 i zr zr zr cW rfl qg zr zr (go ?_)
  refine bj (fun y:Nat × Option Addr × Nat=>y.1≤8) (fun y=>8-y.1)
   (fun y=>[(1,.slice (some ⟨b1,o1,none⟩) ps.length c),(6,.int .i64 (i:Int)),(7,.int .u64 ((p.length/2 ^ (8*y.1):Nat):Int)),(5,.slice y.2.1 (T0++(kJ p.length).take y.1).length y.2.2),(8,.int .i64 (y.1:Int))])
   (fun y=>aB 5 1 (.slice y.2.1 (T0++(kJ p.length).take y.1).length y.2.2) (T0++(kJ p.length).take y.1).length (bV (T0++(kJ p.length).take y.1))::A::F) (0,a1,c1) (Nat.zero_le _) rfl (by simp only[List.take_zero,List.append_nil,Nat.mul_zero,Nat.pow_zero,Nat.div_one];exact bS) (by simp only[List.take_zero,List.append_nil];exact ag) ?_
  rintro⟨j,a2,c2⟩ hj ih2
  simp only at hj
  have xX:=Pv j hj
  dsimp only
  refine go ?_
  refine aq zr zr ?_ ?_
  ·intro hj8
   have Zd:j<8:=by omega
   have htj:=CA (n:=p.length) Zd
   obtain⟨m,hm⟩:∃m,m=p.length/2 ^ (8*j):=⟨_,rfl⟩
   have aeQ:m≤p.length:=by rw[hm];exact Nat.div_le_self _ _
   have hmn:p.length/2 ^ (8*(j+1))=m/256:=by
    rw[hm,Nat.div_div_eq_div_mul,show 8*(j+1)=8*j+8 from by omega,Nat.pow_add]
   rw[← hm]at htj ⊢
   refine go ?_
   refine lT zr zr zr ai ai ?_
   refine ed ?_
   refine gR zr zr zr zr zr zr ?_
   ((refine aG 30 ((u8 (UInt8.ofNat m))) rfl ((by rw[show((m:Int)%256)=((m%256:Nat):Int)from by omega,kA];congr 1;apply UInt8.toNat.inj;simp only[UInt8.toNat_ofNat'];omega)) ?_))
   (refine aj (cs:=bV [(UInt8.ofNat m)]) zr zr zr zr zr zr zr zr zr bh ?_;intro bA;refine aJ (mm:=1) (news:=bV [(UInt8.ofNat m)]) 1 0 zr zr zr zr zr zr zr zr zr zr zr zr (Vw.ae rfl) rfl (cB _) (by(rw[xX];omega)) (by show(_+_)*1≤_;(rw[xX];omega)) (fun _=>rfl) bh ?_;intro vA;rw[show bV ((T0++(kJ p.length).take j))++bV [(UInt8.ofNat m)]=bV (((T0++(kJ p.length).take j))++[(UInt8.ofNat m)])from by simp[bV],show((T0++(kJ p.length).take j)).length+1=(((T0++(kJ p.length).take j))++[(UInt8.ofNat m)]).length from(@List.length_append _ ((T0++(kJ p.length).take j)) [(UInt8.ofNat m)]).symm];((refine aH 1 rfl ?_));rintro aA cA rfl)
   rw[show T0++(kJ p.length).take j++[UInt8.ofNat m]=T0++(kJ p.length).take (j+1)from by rw[htj,List.append_assoc]]
   refine go ?_
   refine mT zr zr zr ai ai (by simp only[fz];omega) ?_
   ((refine aG 34 ((.int .u64 ((p.length/2 ^ (8*(j+1)):Nat):Int))) rfl ((congrArg (Value.int .u64) (by rw[hmn];omega))) ?_))
   refine go ?_
   refine aM ih2 (j+1,aA,cA) rfl (by simp only;omega) (by simp only;omega) bS ag
  intro ep
  have hj8:j=8:=by omega
  subst hj8
  rw[List.take_of_length_le ai]at xX ⊢
  refine go ?_
  refine bp i zr zr zr zr zr zr zr zr jL ?_
  refine aP ?_
  refine aQ 1 i zr zr zr cW rfl qg zr zr ?_
  (refine aJ (mm:=(p).length) (news:=bV (p)) 0 1 zr zr zr zr zr zr zr zr zr zr zr zr (hb.1) (by show _=_*1;rw[bD];omega) (cB _) (by(rw[xX];omega)) (by show(_+_)*1≤_;(rw[xX];omega)) (fun _=>rfl) bh ?_;intro vA;rw[show bV ((T0++kJ p.length))++bV (p)=bV (((T0++kJ p.length))++(p))from by simp[bV],show((T0++kJ p.length)).length+(p).length=(((T0++kJ p.length))++(p)).length from(@List.length_append _ ((T0++kJ p.length)) (p)).symm];((refine aH 0 rfl ?_));rintro aA cA rfl)
  rw[show T0++kJ p.length++p=cK tag (ps.take (i+1))from by rw[jl,List.append_assoc]]
  refine go ?_
  refine aM ih (i+1,aA,cA) rfl (by simp only;omega) (by simp only;omega) bS ag
 intro ep
 have dA:i=ps.length:=by omega
 subst dA
 rw[List.take_length]
 refine go ?_
 refine aK hE Tryz.func216 rfl _ zr zr ag
def xA(A:HP)(tag:UInt8)(v:Value)(ps:List (List UInt8))(hv:qN A v ps)(hl:(cK tag ps).length≤1000000000) :
  au Tryz.prog 108 [u8 tag,v] [A] (fun r H=>r=dV (cz tag ps)∧H=[A]):=by
 have Y4:=Kd A tag v ps hv hl
 obtain⟨cs,cW,mX,⟨a,c,rfl,hc⟩,qf⟩:=hv
 have htg:cz tag ps=ej (cK tag ps):=by unfold cz;rfl
 rw[htg]
 refine au.ak Tryz.func108 Tryz.ntmps108 fun G F R hE=>?_
 refine aD rfl ?_
 refine az zr zr zr bh ?_
 intro b4
 refine go ?_
 refine aF Y4 ?_
 rintro r _ rfl
 refine eZ (bs:=cK tag ps) 0 rfl ?_
 intro Pe
 refine aN (ao.bK [_,_] _) ?_
 refine aw (Bh _ _ (cK tag ps) (Pe.mono (bn (H:=[aB 5 1 r (cK tag ps).length (bV (cK tag ps)),A]) (i:=0) rfl)) hl) ?_
 refine aN (ao.bY _ _) (go ?_)
 (refine a6 hE ?_;apply aZ (U:=aU) hE Tryz.func108 rfl (ao.refl _);(repeat(first|exact aR.nil|apply aR.agg 2 zr zr zr zr zr));exact⟨rfl,rfl⟩;exact ag)
end Go.Proofs.YtlcoaflddajjcaaGreatDoor
namespace Go.Proofs.YtlcoaflddajjcaaGreatDoor
open Go Go.SL
def jU(x:Bl):Value := .agg (ck x).toArray
def GI(bs:Nat)(ks:List Dg):HP:=fun h=>∃v:Value,True∧Sep [ae bs (cl [v] 50),aB 32 32 v ks.length (ks.flatMap dC)] h
attribute [local irreducible] J K au Ends ae aB aI bB aW aS a7 aX bF Sha.chunks Sha.chunk Sha.rounds Sha.sched ej cz GI
def zJ(s p:Int)(hs:1≤s∧s≤1048576)(hp:1≤p∧p≤16384):au Tryz.prog 248 [.int .i64 s,.int .i64 p] [] (fun r H=>r = .int .i64 ((s+p-1)/p)∧H=[]):=by
 have h1:0≤(s+p-1)/p:=Int.ediv_nonneg ai ai
 have h2:(s+p-1)/p≤s+p-1:=Int.ediv_le_self _ ai
 refine au.ak Tryz.func248 Tryz.ntmps248 fun G F R hE=>?_
 refine go ?_
 refine mT zr zr zr ai ai (by simp only[fz];omega) ?_
 refine go ?_
 refine ad hE Tryz.func248 zr zr ⟨rfl,rfl⟩
def pW(x:Bl):au Tryz.prog 132 [jU x] [] (fun r H=>r = .bool (bJ x)∧H=[]):=by
 have hF:¬(1≤x.size∧x.size≤1048576∧16≤x.piece∧x.piece≤16384)→Value.bool false = .bool (bJ x):=fun h=>congrArg Value.bool (by unfold bJ;rw[decide_eq_false (by rintro⟨a,b,c,e,_⟩;exact h ⟨a,b,c,e⟩)])
 have hT:(1≤x.size∧x.size≤1048576∧16≤x.piece∧x.piece≤16384)→Value.bool (decide ((x.size+x.piece-1)/x.piece≤1024)) = .bool (bJ x):=fun h=>congrArg Value.bool (by unfold bJ;rw[decide_eq_decide];exact⟨fun g=>⟨h.1,h.2.1,h.2.2.1,h.2.2.2,g⟩,fun g=>g.2.2.2.2⟩)
 unfold jU
 refine au.ak Tryz.func132 Tryz.ntmps132 fun G F R hE=>?_
 refine aD rfl ?_
 refine bu zr zr bh ?_
 intro b1
 repeat'(first|(with_reducible intro jg)|refine er ?_|refine dP zr zr zr zr ?_ ?_|(refine aF (zJ x.size x.piece ai ai) ?_;rintro _ _⟨rfl,rfl⟩))
 all_goals(first|((refine ad hE Tryz.func132 zr zr ⟨hF ai,rfl⟩))|((refine ad hE Tryz.func132 zr zr ⟨hT ai,rfl⟩)))
def tU(x:Bl):au Tryz.prog 159 [jU x] [] (fun r H=>r = .int .i64 (dM x)∧H=[]):=by
 unfold jU
 refine au.ak Tryz.func159 Tryz.ntmps159 fun G F R hE=>?_
 refine aD rfl ?_
 refine bu zr zr bh ?_
 intro b1
 refine go ?_
 refine aO (U:=aU) 0 zr zr zr zr zr zr ?_
 refine aw (pW x) ?_
 cases hr:bJ x with
 | false =>
  have hc:dM x=0:=by unfold dM;rw[if_neg (by rw[hr];simp)]
  rw[hc]at hE
  refine go ?_
  refine ad hE Tryz.func159 zr zr ⟨rfl,rfl⟩
 | true =>
  have hc:dM x=(x.size+x.piece-1)/x.piece:=by unfold dM;rw[if_pos hr]
  rw[hc]at hE
  simp only[bJ,decide_eq_true_eq]at hr
  refine go ?_
  refine aw (zJ x.size x.piece ai ai) ?_
  refine go ?_
  refine ad hE Tryz.func159 zr zr ⟨rfl,rfl⟩
def zK(x:Bl):0≤dM x∧dM x≤1024:=by
 unfold dM
 split
 ·rename_i hr
  simp only[bJ,decide_eq_true_eq]at hr
  exact⟨Int.ediv_nonneg ai ai,hr.2.2.2.2⟩
 ·omega
theorem OF{x:Bl}{i:Int}(h0:0≤i)(h1:i<dM x):bJ x=true∧0≤i*x.piece∧i*x.piece<x.size:=by
 unfold dM at h1
 split at h1
 ·rename_i hr
  have Oj:=hr
  simp only[bJ,decide_eq_true_eq]at hr
  refine⟨Oj,Int.mul_nonneg h0 ai,?_⟩
  have h2:(i+1)*x.piece≤x.size+x.piece-1:=by
   have:=(Int.le_ediv_iff_mul_le (a:=i+1) (b:=x.size+x.piece-1) (c:=x.piece) ai).1 ai
   exact this
  grind
 ·omega
def Dw(x:Bl)(i:Int):au Tryz.prog 256 [jU x,.int .i64 i] [] (fun r H=>r=(match rp x i with
  | none => .tuple #[.int .i64 0,.int .i64 0,.int .i64 1]
  | some (a,n) => .tuple #[.int .i64 a,.int .i64 n,.int .i64 0])∧H=[]):=by
 unfold jU
 refine au.ak Tryz.func256 Tryz.ntmps256 fun G F R hE=>?_
 refine aD rfl ?_
 refine bu zr zr bh ?_
 intro b1
 have hN:(i<0∨dM x≤i)→rp x i=none:=fun h=>by unfold rp;rw[if_pos h]
 repeat'(first|(with_reducible intro jg)|refine er ?_|refine dP zr zr zr zr ?_ ?_|refine aq zr zr ?_ ?_|refine aO (U:=aU) 0 zr zr zr zr zr zr ?_|(refine aF (tU x) ?_;rintro _ _⟨rfl,rfl⟩))
 all_goals(first|(rw[hN ai]at hE;((refine ad hE Tryz.func256 zr zr ⟨rfl,rfl⟩)))|skip)
 have hs:rp x i=some (i*x.piece,min x.piece (x.size-i*x.piece)):=by unfold rp;rw[if_neg ai]
 rw[hs]at hE
 obtain⟨hr,CP,hms⟩:=OF (x:=x) (i:=i) ai ai
 simp only[bJ,decide_eq_true_eq]at hr
 obtain⟨q,hq⟩:∃q,q=i*x.piece:=⟨_,rfl⟩
 rw[← hq]at CP hms hE
 refine aL (fun w=>Sat G w ([ae b1 (cl (ck x) 77)])) (cJ 0 17 .nil) rfl ah ah ah dv ?_
 (repeat(first|refine er ?_|(refine lU ?_;refine eN zr zr zr (by rw[← hq];simp only[fz];omega) ?_;rw[← hq])))
 refine ad hE Tryz.func256 zr zr ⟨rfl,rfl⟩
end Go.Proofs.YtlcoaflddajjcaaGreatDoor
namespace Go.SL
open Go
section
variable{P:Program}
theorem uY{t e:TypeId}(hu:P.underlying t=some (.array 32 e))(hc:P.cellsOf t=32)(xs:List Value)(off:Nat)(d:Dg)(h:(xs.drop off).take 32=dC d)(w:World):(part t xs.toArray off).run P w = .ok (dV d) w:=by
 obtain⟨i,hi⟩:=info_of_underlying hu
 have hs:=Go.run_sizeOf w hi
 rw[hc]at hs
 simp only[part,isAgg,Sem.run_bind,Go.run_underlying hu,Result.andThen_ok,Sem.run_pure,if_true,hs]
 have:xs.toArray.extract off (off+32)=(dC d).toArray:=by
  grind
 rw[this]
 rfl
def Iu{t:TypeId}(hu:P.underlying t=some (.int .i64))(a b:Int)(D:Nat)(w:World):(Op.equalIn (D+1) t (.int .i64 a) (.int .i64 b)).run P w = .ok (decide (a=b)) w:=by
 simp only[Op.equalIn,Sem.run_bind,Go.run_underlying hu,Result.andThen_ok,if_true,Sem.run_pure]
 rfl
theorem x8{td ti:TypeId}{f1 f2 f3 f4:Field}(n1:f1.name ≠ "_")(n2:f2.name ≠ "_")(n3:f3.name ≠ "_")(n4:f4.name ≠ "_")(E:Nat)(w:World)(c1 c2:List Value)(d1 d2 r1 r2:Dg)(s1 s2 p1 p2:Int)(eD:∀a b:Dg,(Op.equalIn E td (dV a) (dV b)).run P w = .ok (decide (a=b)) w)(eI:∀a b:Int,(Op.equalIn E ti (.int .i64 a) (.int .i64 b)).run P w = .ok (decide (a=b)) w)(t1:f1.type=td)(t2:f2.type=ti)(t3:f3.type=ti)(t4:f4.type=td)(p01:(part td c1.toArray f1.offset).run P w = .ok (dV d1) w)(p02:(part td c2.toArray f1.offset).run P w = .ok (dV d2) w)(p11:(part ti c1.toArray f2.offset).run P w = .ok (.int .i64 s1) w)(p12:(part ti c2.toArray f2.offset).run P w = .ok (.int .i64 s2) w)(p21:(part ti c1.toArray f3.offset).run P w = .ok (.int .i64 p1) w)(p22:(part ti c2.toArray f3.offset).run P w = .ok (.int .i64 p2) w)(p31:(part td c1.toArray f4.offset).run P w = .ok (dV r1) w)(p32:(part td c2.toArray f4.offset).run P w = .ok (dV r2) w) :
  (Op.eqFields E c1.toArray c2.toArray [f1,f2,f3,f4]).run P w = .ok (decide (d1=d2∧s1=s2∧p1=p2∧r1=r2)) w:=by
 by_cases h1:d1=d2
 ·by_cases h2:s1=s2
  ·by_cases h3:p1=p2
   ·simp[Op.eqFields,n1,n2,n3,n4,t1,t2,t3,t4,p01,p02,p11,p12,p21,p22,p31,p32,eD,eI,h1,h2,h3]
    grind
   ·simp[Op.eqFields,n1,n2,n3,n4,t1,t2,t3,t4,p01,p02,p11,p12,p21,p22,p31,p32,eD,eI,h1,h2,h3]
  ·simp[Op.eqFields,n1,n2,n3,n4,t1,t2,t3,t4,p01,p02,p11,p12,p21,p22,p31,p32,eD,eI,h1,h2]
 ·simp[Op.eqFields,n1,n2,n3,n4,t1,t2,t3,t4,p01,p02,p11,p12,p21,p22,p31,p32,eD,eI,h1]
end
end Go.SL
namespace Go.Proofs.YtlcoaflddajjcaaGreatDoor
open Go Go.SL
attribute [local irreducible] J K au Ends ae aB aI bB aW aS a7 aX bF Sha.chunks Sha.chunk Sha.rounds Sha.sched ej cz GI dq
theorem ur{b:List UInt8}{k:Int}{ls:List Dg}(h:iT b k=some ls):1≤ls.length∧ls.length≤1024:=by
 unfold iT at h
 split at h
 ·rename_i hr
  cases h
  simp only[bJ,decide_eq_true_eq]at hr
  obtain⟨k,rfl⟩:∃m:Nat,k=m:=⟨k.toNat,ai⟩
  rw[List.length_map,Int.toNat_natCast,uj k ai]
  have h2:=hr.2.2.2.2
  have h3:((b.length:Int)+(k:Int)-1)/(k:Int)=(((b.length+k-1)/k:Nat):Int):=by
   grind
  rw[h3]at h2
  have h4:1≤(b.length+k-1)/k:=by rw[Nat.le_div_iff_mul_le ai];omega
  omega
 ·cases h
def DH{P:Program}{f:FuncId}{n:Nat}{R:Ending→World→Prop}{G:ct}{k:List Item}{L:eH}{H:List HP}{S:World→Prop}{all:Array Oper}{rest:Pl}{e:TypeId}{sz nn:Nat}{v:Value}{cs:List Value}{A:HP}(h:Vw (aB e sz v nn cs) v nn cs→J P f n R G S all rest k L (Sep [aB e sz v nn cs,A]::H)):J P f n R G S all rest k L (aB e sz v nn cs::A::H) :=
 xL fun w hw=>by
  obtain⟨h1,_,hA⟩:=hw.jF (i:=0) rfl
  exact aN (ao.bK [_,_] _) (h (Vw.l7 e sz v nn cs ⟨h1,hA⟩))
def P'(x:Bl):((ck x).drop 0).take 32=dC x.d:=rfl
def No(x:Bl):((ck x).drop 34).take 32=dC x.root:=rfl
def acM(x:Bl):(ck x).toArray[32]?=some (.int .i64 x.size):=rfl
def acL(x:Bl):(ck x).toArray[33]?=some (.int .i64 x.piece):=rfl
def ZR : Tryz.prog.fieldsOf 77 = #[{ name := "Digest", type := 32, offset := 0, embedded := false, tag := "", pkgPath := "", byteOffset := 0 },
        { name := "Size", type:=3,offset:=32,embedded:=false,tag := "", pkgPath := "", byteOffset:=32 },
        { name := "Piece", type:=3,offset:=33,embedded:=false,tag := "", pkgPath := "", byteOffset:=40 },
        { name := "Root", type:=32,offset:=34,embedded:=false,tag := "", pkgPath := "", byteOffset:=48 }]:=by kernel_rfl
def ZQ:Tryz.prog.underlying 77=some (.struct (Tryz.prog.fieldsOf 77)):=by kernel_rfl
def Qa:Tryz.prog.stoodInHeld 77=false:=by kernel_rfl
def aep:Tryz.prog.cellsOf 32=32:=by kernel_rfl
def ZP:Tryz.prog.cellsOf 5=1:=by kernel_rfl
def aeo:Tryz.prog.plainKey 3=true:=by kernel_rfl
def acB:Tryz.prog.eqGuardType Tryz.prog.depth 77=false:=by kernel_rfl
def acE{P : Program}(h1 : P.fieldsOf 77 = #[{ name := "Digest", type := 32, offset := 0, embedded := false, tag := "", pkgPath := "", byteOffset := 0 },
        { name := "Size", type:=3,offset:=32,embedded:=false,tag := "", pkgPath := "", byteOffset:=32 },
        { name := "Piece", type:=3,offset:=33,embedded:=false,tag := "", pkgPath := "", byteOffset:=40 },
        { name := "Root", type:=32,offset:=34,embedded:=false,tag := "", pkgPath := "", byteOffset:=48 }])(h2:P.underlying 77=some (.struct (P.fieldsOf 77)))(h3:P.stoodInHeld 77=false)(h4:P.cellsOf 32=32)(h5:P.cellsOf 5=1)(h6:P.plainKey 3=true)(h7:P.underlying 32=some (.array 32 5))(h8:P.underlying 5=some (.int .u8))(h9:P.underlying 3=some (.int .i64))(x y:Bl)(D:Nat)(w:World) :
    (Op.equalIn (D+2+1) 77 (jU x) (jU y)).run P w = .ok (decide (x=y)) w:=by
  unfold jU
  rw[run_equalIn_struct w (D+2) 77 _ _ h2 h3,h1]
  have h:=x8 (P:=P) (td:=32) (ti:=3) (f1:={ name := "Digest", type:=32,offset:=0,embedded:=false,tag := "", pkgPath := "", byteOffset:=0 })
    (f2:={ name := "Size", type:=3,offset:=32,embedded:=false,tag := "", pkgPath := "", byteOffset:=32 }) (f3:={ name := "Piece", type:=3,offset:=33,embedded:=false,tag := "", pkgPath := "", byteOffset:=40 })
    (f4:={ name := "Root", type:=32,offset:=34,embedded:=false,tag := "", pkgPath := "", byteOffset:=48 }) (by decide) (by decide) (by decide) (by decide) (D+2) w (ck x) (ck y) x.d y.d x.root y.root x.size y.size x.piece y.piece
    (fun a b=>ng h7 h8 h5 a b D w) (fun a b=>Iu h9 a b (D+1) w) zr zr zr zr
    (uY h7 h4 _ 0 _ (P' x) w) (uY h7 h4 _ 0 _ (P' y) w) (Go.run_part_plain w h6 (acM x)) (Go.run_part_plain w h6 (acM y)) (Go.run_part_plain w h6 (acL x)) (Go.run_part_plain w h6 (acL y)) (uY h7 h4 _ 34 _ (No x) w) (uY h7 h4 _ 34 _ (No y) w)
  refine Eq.trans h ?_
  congr 1
  rw[decide_eq_decide]
  obtain⟨d1,s1,p1,r1⟩:=x
  obtain⟨d2,s2,p2,r2⟩:=y
  simp
def acF(x y:Bl)(w:World):(Op.equal 77 (jU x) (jU y)).run Tryz.prog w = .ok (decide (x=y)) w :=
 acE ZR ZQ Qa aep ZP aeo Tryz.underlying32 Tryz.underlying5 Tryz.underlying3 x y 9997 w
end Go.Proofs.YtlcoaflddajjcaaGreatDoor
