import Derived.Test.YtedjnjkijiddlaaGreatDoorQPT3
import Derived.Test.YtedjnjkijiddlaaGreatDoorQPT4
import Derived.Test.YtedjnjkijiddlaaGreatDoorQPT5
import Derived.Test.YtedjnjkijiddlaaGreatDoorQPT6
import Derived.Test.YtedjnjkijiddlaaGreatDoorQPT7
set_option linter.unusedSimpArgs false
set_option linter.unusedVariables false
set_option maxHeartbeats 1000000
set_option maxRecDepth 20000
set_option linter.defProp false
namespace Go.SL
open Go
namespace Sha
def km(n o:List jt)(i:Nat):List jt:=(List.zipWith (· + ·) n o).take i++n.drop i
def LR{n o:List jt}{k i:Nat}(hn:n.length=k)(ho:o.length=k)(hi:i≤k):(km n o i).length=k:=by
 unfold km;rw[List.length_append,List.length_take,List.length_zipWith,List.length_drop];omega
def LS{n o:List jt}{k i:Nat}(hn:n.length=k)(ho:o.length=k)(hi:i<k):(km n o i)[i]?=some (n.getD i 0):=by
 unfold km
 have h1:((List.zipWith (· + ·) n o).take i).length=i:=by rw[List.length_take,List.length_zipWith];omega
 rw[List.getElem?_append_right ag,h1,Nat.sub_self,List.getElem?_drop,Nat.add_zero,List.getD_eq_getElem?_getD,List.getElem?_eq_getElem ag];rfl
def LQ{n o:List jt}{k i:Nat}(hn:n.length=k)(ho:o.length=k)(hi:i<k):(km n o i).set i (n.getD i 0+o.getD i 0)=km n o (i+1):=by
 unfold km
 have h1:((List.zipWith (· + ·) n o).take i).length=i:=by rw[List.length_take,List.length_zipWith];omega
 rw[List.set_append_right _ _ ag,h1,Nat.sub_self,List.take_add_one]
 have h2:n.drop i=n[i]::n.drop (i+1):=List.drop_eq_getElem_cons ag
 have h3:(List.zipWith (· + ·) n o)[i]?=some (n.getD i 0+o.getD i 0):=by
  rw[List.getElem?_zipWith,List.getD_eq_getElem?_getD,List.getD_eq_getElem?_getD,List.getElem?_eq_getElem (show i<n.length by omega),List.getElem?_eq_getElem (show i<o.length by omega)];rfl
 rw[h2,List.set_cons_zero,h3];simp
def LU(s t:St):km t.l s.l 8=(plus s t).l:=by
 unfold km
 simp only[St.l,plus,List.zipWith_cons_cons,List.zipWith_nil_left,List.take_succ_cons,List.take_zero,List.drop_succ_cons,List.drop_zero,List.append_nil,BitVec.add_comm]
end Sha
end Go.SL
namespace Go.Proofs.YtedjnjkijiddlaaGreatDoor
open Go Go.SL
attribute [local irreducible] J K aE Ends ae aB aP bP bq aS aZ bu bX Sha.chunks Sha.chunk Sha.rounds Sha.sched dK Sha.km
def LF(A:HP)(v:Value)(b:List UInt8)(hv:eM A v b)(HD:64≤b.length)(s:Sha.St) :
  aE Tryz.prog 80 [Ql s,v] [A] (fun r H=>r=Ql (Sha.chunk s b)∧H=[A]):=by
 have hwd:=J2 A v b hv HD
 obtain⟨a,c,rfl,hc⟩:=hv.2
 have fb:(Sha.sched b 64).length=64:=Sha.dP b 64
 have EY:Sha.chunk s b=Sha.plus s (Sha.rounds s (Sha.sched b 64) 64):=by unfold Sha.chunk;rfl
 rw[EY]
 generalize Sha.sched b 64=W at hwd fb ⊢
 have La:∀s:Sha.St,(wV s.l).length=8:=fun s=>rfl
 have abx:∀s:Sha.St,s.l.length=8:=fun s=>rfl
 have hWV:(wV W).length=64:=by rw[lq];exact fb
 have RG:∀s:Sha.St,wV s.l≠[]:=fun s e=>by have:=congrArg List.length e;rw[La]at this;cases this
 unfold Ql
 refine aE.ao Tryz.func80 Tryz.ntmps80 fun G F R hE=>?_
 refine aD rfl ?_
 refine bG zr zr bD ?_
 intro b2
 refine az zr zr zr bD ?_
 intro b4
 refine go ?_
 refine aJ hwd ?_
 refine az zr zr zr bD ?_
 intro b5
 refine aT ?_
 refine ct (U:=aQ) (l':=wV W) 0 gB rfl rfl rfl hWV (by intro e;rw[e]at hWV;cases hWV) (fC _) rfl (by rw[hWV];rfl) rfl ?_
 refine go ?_
 refine aJ Am ?_
 refine az zr zr zr bD ?_
 intro b6
 refine aT ?_
 refine ct (U:=aQ) (l':=wV Sha.ks) 0 gB zr zr zr zr (by decide) (fC _) zr zr zr (go ?_)
 refine aI (H':=ae b2 (cl (wV s.l) 140)::ae b6 (cl (wV Sha.ks) 196)::ae b5 (cl (wV W) 196)::ae b4 (cl (wV (List.replicate 8 0)) 140)::A::F) ah ?_
 refine aG (U:=aQ) (l:=wV s.l) 0 zr zr zr zr zr zr ?_
 refine az zr zr zr bD ?_
 intro b7
 refine aT ?_
 refine ct (U:=aQ) (l':=wV s.l) 0 gB zr zr zr zr (RG s) (fC _) zr zr zr (go ?_)
 refine bB (fun t:Nat=>t≤64) (fun t=>64-t)
  (fun t=>[(2,ptr b2),(4,ptr b4),(5,ptr b5),(6,ptr b6),(7,ptr b7),(8,.int .i64 (t:Int))])
  (fun t=>ae b7 (cl (wV (Sha.rounds s W t).l) 140)::ae b2 (cl (wV s.l) 140)::ae b6 (cl (wV Sha.ks) 196)::ae b5 (cl (wV W) 196)::ae b4 (cl (wV (List.replicate 8 0)) 140)::A::F) 0 (Nat.zero_le _) rfl cg (by unfold Sha.rounds;exact ah) ?_
 rintro t ht ih
 refine go ?_
 refine aq zr zr ?_ ?_
 ·intro de
  have K0:t<64:=by omega
  have hr:Sha.rounds s W (t+1)=Sha.round (Sha.rounds s W t) (Sha.ks.getD t 0) (W.getD t 0):=by conv=>lhs;unfold Sha.rounds
  generalize Sha.rounds s W t=T at hr ⊢
  obtain⟨ta,tb,tc,td,te,tf,tg,th⟩:=T
  have Rt:(wV W)[t]?=some (u32 (W.getD t 0)):=iE (by rw[List.getD_eq_getElem?_getD,List.getElem?_eq_getElem ag];rfl)
  have hkg:=iE (Oh K0)
  generalize Sha.ks.getD t 0=kt at hr hkg
  generalize W.getD t 0=wt at hr Rt
  rw[show wV (Sha.St.l ⟨ta,tb,tc,td,te,tf,tg,th⟩)=[u32 ta,u32 tb,u32 tc,u32 td,u32 te,u32 tf,u32 tg,u32 th]from rfl]
  have Xu:wV (Sha.rounds s W (t+1)).l=[u32 (th+(Sha.uG te 6 ^^^ Sha.uG te 11 ^^^ Sha.uG te 25)+(te &&& tf ||| ~~~te &&& tg)+kt+wt+((Sha.uG ta 2 ^^^ Sha.uG ta 13 ^^^ Sha.uG ta 22)+Sha.maj ta tb tc)),u32 ta,u32 tb,u32 tc,u32 (td+(th+(Sha.uG te 6 ^^^ Sha.uG te 11 ^^^ Sha.uG te 25)+(te &&& tf ||| ~~~te &&& tg)+kt+wt)),u32 te,u32 tf,u32 tg]:=by
   rw[hr,Sha.Yu];rfl
  clear hr
  refine go ?_
  (repeat(first|refine gy ?_|refine gp zr zr zr zr zr zr ag ag ?_))
  refine aF (fun w=>Sat G w ([ae b7 (cl [u32 ta,u32 tb,u32 tc,u32 td,u32 te,u32 tf,u32 tg,u32 th] 140),ae b6 (cl (wV Sha.ks) 196),ae b5 (cl (wV W) 196)])) (cZ 0 3 (.st 4 (.st 7 (cZ 11 10 (cZ 22 3 (cZ 26 3 (.act 3 (.act 5 (.st 6 (.act 8 (.st 9 (.st 10 (.st 21 (.st 25 (.st 29 (.st 30 .nil)))))))))))))))) rfl ak ak ak dT ?_
  refine go ?_
  (repeat(first|refine gy ?_|refine ep (U:=aQ) t zr zr zr zr zr zr zr zr K0 ?_|refine gp zr zr zr zr zr zr ag ag ?_|refine C8 zr zr zr ?_|refine YP zr zr ?_|refine FK zr zr zr ?_|(refine aK ?_;first|refine eR (U:=aQ) 1 t zr zr zr (Nat.zero_add _) hkg zr zr ?_|refine eR (U:=aQ) 2 t zr zr zr (Nat.zero_add _) Rt zr zr ?_)))
  refine bo ((gu te 6 ag ag)) ?_
  refine bo ((gu te 11 ag ag)) ?_
  refine je zr zr zr ?_
  refine bo ((gu te 25 ag ag)) ?_
  (repeat(first|refine gy ?_|refine je zr zr zr ?_|refine jZ zr zr zr ?_))
  refine aF (fun w=>Sat G w ([ae b7 (cl [u32 ta,u32 tb,u32 tc,u32 td,u32 te,u32 tf,u32 tg,u32 th] 140)])) (.st 0 (.st 2 (.st 5 (cZ 8 5 (.act 1 (.act 3 (.st 4 (.act 6 (.st 7 (.act 13 (.st 14 (.st 15 .nil)))))))))))) rfl ak ak ak dT ?_
  refine go ?_
  (repeat(first|refine gy ?_|refine gp zr zr zr zr zr zr ag ag ?_))
  refine bo ((gu ta 2 ag ag)) ?_
  refine bo ((gu ta 13 ag ag)) ?_
  refine je zr zr zr ?_
  refine bo ((gu ta 22 ag ag)) ?_
  refine je zr zr zr ?_
  refine bo ((QO ta tb tc)) ?_
  refine jZ zr zr zr ?_
  (repeat(first|refine gy ?_|refine gp zr zr zr zr zr zr ag ag ?_|refine jZ zr zr zr ?_))
  refine mL (U:=aQ) (cs:=wV (Sha.rounds s W (t+1)).l) zr zr zr zr zr (by rw[Xu];rfl) ?_
  refine aT ?_
  refine ct (U:=aQ) (l':=wV (Sha.rounds s W (t+1)).l) 0 gB zr zr zr zr (RG _) (fC _) zr zr zr (go ?_)
  refine aM ih (t+1) rfl ag ag cg ah
 intro fA
 have Hk:t=64:=by omega
 subst Hk
 clear ih
 rw[← Sha.LU]at hE
 generalize Sha.rounds s W 64=T at hE ⊢
 refine go ?_
 have hT8:=abx T
 have hs8:=abx s
 refine bB (fun i:Nat=>i≤8) (fun i=>8-i)
  (fun i=>[(2,ptr b2),(4,ptr b4),(7,ptr b7),(13,.int .i64 (i:Int))])
  (fun i=>ae b7 (cl (wV (Sha.km T.l s.l i)) 140)::ae b2 (cl (wV s.l) 140)::ae b4 (cl (wV (List.replicate 8 0)) 140)::A::F) 0 (Nat.zero_le _) rfl cg (by unfold Sha.km;exact ah) ?_
 rintro i hi ih
 have O9:=Sha.LR hT8 hs8 hi
 refine go ?_
 refine aq zr zr ?_ ?_
 ·intro de
  have Gc:i<8:=by omega
  have Ak:=Sha.LS hT8 hs8 Gc
  have EO:s.l[i]?=some (s.l.getD i 0):=by rw[List.getD_eq_getElem?_getD,List.getElem?_eq_getElem ag];rfl
  have ir:=Sha.LQ hT8 hs8 Gc
  generalize T.l.getD i 0=x at Ak ir
  generalize s.l.getD i 0=y at EO ir
  refine go ?_
  refine aF (fun w=>Sat G w ([ae b7 (cl (wV (Sha.km T.l s.l i)) 140),ae b2 (cl (wV s.l) 140)])) (cZ 0 9 (.act 9 .nil)) rfl ak ak ak dT ?_
  refine go ?_
  (repeat(first|refine gy ?_|refine ep (U:=aQ) i zr zr zr zr zr zr zr zr Gc ?_|(refine aK ?_;first|refine eR (U:=aQ) 0 i zr zr zr (Nat.zero_add _) (iE Ak) zr zr ?_|refine eR (U:=aQ) 1 i zr zr zr (Nat.zero_add _) (iE EO) zr zr ?_)|refine jZ zr zr zr ?_))
  refine aT ?_
  refine gV (U:=aQ) 0 gB zr zr zr zr zr zr zr (by rw[lq,O9];omega) rfl ?_
  rw[show 0+i=i from Nat.zero_add _]
  refine go ?_
  have EE:=(xE (Sha.km T.l s.l i) i _).trans (congrArg wV ir)
  refine ai (H':=ae b7 (cl (wV (Sha.km T.l s.l (i+1))) 140)::ae b2 (cl (wV s.l) 140)::ae b4 (cl (wV (List.replicate 8 0)) 140)::A::F) (by rw[← EE];exact al.refl _) ?_
  refine aM ih (i+1) rfl ag ag cg ah
 intro fA
 have Gc:i=8:=by omega
 subst Gc
 clear ih
 have gw:=fC (Sha.km T.l s.l 8)
 have Yd:(wV (Sha.km T.l s.l 8)).length=8:=by rw[lq];exact O9
 generalize wV (Sha.km T.l s.l 8)=X at gw Yd hE ⊢
 refine go ?_
 refine aG (U:=aQ) 0 zr zr zr zr zr Yd ?_
 refine ct (U:=aQ) 2 gB rfl rfl rfl Yd (by intro e;rw[e]at Yd;cases Yd) gw rfl (by rw[Yd];rfl) rfl ?_
 refine go ?_
 refine jC (U:=aQ) 2 hE Tryz.func80 zr zr zr zr zr Yd rfl ⟨rfl,rfl⟩ ah
end Go.Proofs.YtedjnjkijiddlaaGreatDoor
namespace Go.Proofs.YtedjnjkijiddlaaGreatDoor
open Go Go.SL
attribute [local irreducible] J K aE Ends ae aB aP bP bq aS aZ bu bX Sha.chunks Sha.chunk Sha.rounds Sha.sched dK
def JL(A:HP)(v:Value)(b:List UInt8)(hv:eM A v b)(hl:b.length≤1000000000) :
  aE Tryz.prog 30 [v] [A] (fun r H=>r=dV (dK b)∧H=[A]):=by
 obtain⟨a,c,rfl,hc⟩:=hv.2
 refine aE.ao Tryz.func30 Tryz.ntmps30 fun G F R hE=>?_
 refine aD rfl ?_
 refine az zr zr zr bD ?_
 intro b2
 refine ld ?_
 (refine aD rfl ?_;refine ld ?_)
 refine aj (cs:=[]) zr zr zr zr zr zr zr zr zr bD ?_
 intro b0
 refine go ?_
 (refine aI (eJ 5 1 b0 0 0 [] [] _ rfl (Nat.le_refl _) (by simp)) ?_;refine aR (mm:=(b).length) (news:=bV (b)) 0 2 zr zr zr zr zr zr zr zr zr zr zr zr (hv.1) (by show _=_*1;rw[bC];omega) (cX _) ag (by show(_+_)*1≤_;omega) (fun _=>rfl) bD ?_;intro vA;rw[Nat.zero_add,List.nil_append];((refine aO 0 rfl ?_));rintro aA cA rfl)
 refine go ?_
 (refine aj (cs:=bV [(128:UInt8)]) zr zr zr zr zr zr zr zr zr bD ?_;intro bA;refine aR (mm:=1) (news:=bV [(128:UInt8)]) 1 0 zr zr zr zr zr zr zr zr zr zr zr zr (Vw.ae rfl) rfl (cX _) ag (by show(_+_)*1≤_;omega) (fun _=>rfl) bD ?_;intro vA;rw[show bV (b)++bV [(128:UInt8)]=bV ((b)++[(128:UInt8)])from by simp[bV],show(b).length+1=((b)++[(128:UInt8)]).length from(@List.length_append _ (b) [(128:UInt8)]).symm];((refine aO 1 rfl ?_));rintro aA cA rfl)
 refine go ?_
 obtain⟨z,hz⟩:∃z,z=(119-b.length%64)%64:=⟨_,rfl⟩
 have SV:(b.length+1+z)%64=56:=by omega
 have SU:z<64:=by omega
 have rI:∀j:Nat,(b++128::List.replicate j (0:UInt8)).length=b.length+1+j:=fun j=>by simp;omega
 refine bB (fun y:Nat × Option Addr × Nat=>y.1≤z) (fun y=>z-y.1)
  (fun y=>[(0,.slice a b.length c),(2,ptr b2),(3,.slice y.2.1 (b++128::List.replicate y.1 (0:UInt8)).length y.2.2)])
  (fun y=>aB 5 1 (.slice y.2.1 (b++128::List.replicate y.1 (0:UInt8)).length y.2.2) (b++128::List.replicate y.1 (0:UInt8)).length (bV (b++128::List.replicate y.1 (0:UInt8)))::A::ae b2 (cl (dC Dg.zero) 35)::F) (0,aA,cA) (Nat.zero_le _) rfl cg ah ?_
 rintro⟨j,a2,c2⟩ hj ih
 simp only at hj
 have wJ:=rI j
 dsimp only
 refine go ?_
 refine mI zr zr zr ag ag (go ?_)
 refine aq zr zr ?_ ?_
 ·intro bY
  have hjz:j<z:=by
   rcases Nat.lt_or_ge j z with h|h
   ·exact h
   ·exfalso
    apply bY
    rw[wJ]
    have:j=z:=by omega
    subst this
    omega
  refine go ?_
  (refine aj (cs:=bV [(0:UInt8)]) zr zr zr zr zr zr zr zr zr bD ?_;intro bA;refine aR (mm:=1) (news:=bV [(0:UInt8)]) 1 0 zr zr zr zr zr zr zr zr zr zr zr zr (Vw.ae rfl) rfl (cX _) (by(rw[wJ];omega)) (by show(_+_)*1≤_;(rw[wJ];omega)) (fun _=>rfl) bD ?_;intro vA;rw[show bV ((b++128::List.replicate j (0:UInt8)))++bV [(0:UInt8)]=bV (((b++128::List.replicate j (0:UInt8)))++[(0:UInt8)])from by simp[bV],show((b++128::List.replicate j (0:UInt8))).length+1=(((b++128::List.replicate j (0:UInt8)))++[(0:UInt8)]).length from(@List.length_append _ ((b++128::List.replicate j (0:UInt8))) [(0:UInt8)]).symm];((refine aO 1 rfl ?_));rintro aA cA rfl)
  rw[show b++128::List.replicate j (0:UInt8)++[0]=b++128::List.replicate (j+1) (0:UInt8)from by rw[List.replicate_succ'];simp]
  refine go ?_
  refine aM ih (j+1,aA,cA) rfl (by simp only;omega) (by simp only;omega) cg ah
 intro heq
 have hjz:j=z:=by
  have adT:((b.length+1+j:Nat):Int)%64=56:=by rw[← wJ];exact Decidable.not_not.1 heq
  omega
 subst hjz
 clear ih
 obtain⟨T0,O'⟩:∃T0,T0=b++128::List.replicate j (0:UInt8):=⟨_,rfl⟩
 rw[← O']at wJ ⊢
 have Lb:∀i:Nat,i≤8→(T0++(Sha.pj (8*b.length)).take i).length=T0.length+i:=fun i hi=>by
  rw[List.length_append,List.length_take];simp only[Sha.pj,List.length_map,List.length_range];omega
 refine go ?_
 refine ib zr zr zr (by simp only[gq];omega) ?_
 refine au 24 ((.int .u64 ((8*b.length:Nat):Int))) rfl ((congrArg (Value.int .u64) ag)) (go ?_)
 refine bB (fun y:Nat × Option Addr × Nat=>y.1≤8) (fun y=>8-y.1)
  (fun y=>[(2,ptr b2),(3,.slice y.2.1 (T0++(Sha.pj (8*b.length)).take y.1).length y.2.2),(4,.int .u64 ((8*b.length:Nat):Int)),(5,.int .i64 (y.1:Int))])
  (fun y=>aB 5 1 (.slice y.2.1 (T0++(Sha.pj (8*b.length)).take y.1).length y.2.2) (T0++(Sha.pj (8*b.length)).take y.1).length (bV (T0++(Sha.pj (8*b.length)).take y.1))::A::ae b2 (cl (dC Dg.zero) 35)::F) (0,a2,c2) (Nat.zero_le _) rfl (by simp only[List.take_zero,List.append_nil];exact cg) (by simp only[List.take_zero,List.append_nil];exact ah) ?_
 rintro⟨i,a3,c3⟩ hi ih
 simp only at hi
 have Jk:=Lb i hi
 dsimp only
 refine go ?_
 refine aq zr zr ?_ ?_
 ·intro de
  have Gc:i<8:=by omega
  have Ln:(Sha.pj (8*b.length)).take (i+1)=(Sha.pj (8*b.length)).take i++[UInt8.ofNat (8*b.length/2 ^ (56-8*i))]:=by
   rw[List.take_add_one];simp[Sha.pj,Gc]
  refine go ?_
  refine ib zr zr zr (by simp only[gq];omega) ?_
  refine go ?_
  refine au 34 ((.int .u64 ((56-8*i:Nat):Int))) rfl ((congrArg (Value.int .u64) ag)) ?_
  refine jl zr zr zr ag ?_
  ((refine au 35 ((.int .u64 ((8*b.length/2 ^ (56-8*i):Nat):Int))) rfl ((congrArg (Value.int .u64) (by rw[Int.toNat_natCast,show min (56-8*i) IntKind.u64.bits=56-8*i from by show min (56-8*i) 64=_;omega];simp))) ?_))
  refine ez ?_
  refine il zr zr zr zr zr zr ?_
  refine au 36 ((u8 (UInt8.ofNat (8*b.length/2 ^ (56-8*i))))) rfl ((lN _)) ?_
  (refine aj (cs:=bV [(UInt8.ofNat (8*b.length/2 ^ (56-8*i)))]) zr zr zr zr zr zr zr zr zr bD ?_;intro bA;refine aR (mm:=1) (news:=bV [(UInt8.ofNat (8*b.length/2 ^ (56-8*i)))]) 1 0 zr zr zr zr zr zr zr zr zr zr zr zr (Vw.ae rfl) rfl (cX _) (by(rw[Jk];omega)) (by show(_+_)*1≤_;(rw[Jk];omega)) (fun _=>rfl) bD ?_;intro vA;rw[show bV ((T0++(Sha.pj (8*b.length)).take i))++bV [(UInt8.ofNat (8*b.length/2 ^ (56-8*i)))]=bV (((T0++(Sha.pj (8*b.length)).take i))++[(UInt8.ofNat (8*b.length/2 ^ (56-8*i)))])from by simp[bV],show((T0++(Sha.pj (8*b.length)).take i)).length+1=(((T0++(Sha.pj (8*b.length)).take i))++[(UInt8.ofNat (8*b.length/2 ^ (56-8*i)))]).length from(@List.length_append _ ((T0++(Sha.pj (8*b.length)).take i)) [(UInt8.ofNat (8*b.length/2 ^ (56-8*i)))]).symm];((refine aO 1 rfl ?_));rintro aA cA rfl)
  rw[show T0++(Sha.pj (8*b.length)).take i++[UInt8.ofNat (8*b.length/2 ^ (56-8*i))]=T0++(Sha.pj (8*b.length)).take (i+1)from by rw[Ln,List.append_assoc]]
  refine go ?_
  refine aM ih (i+1,aA,cA) rfl (by simp only;omega) (by simp only;omega) cg ah
 intro fA
 have Gc:i=8:=by omega
 subst Gc
 clear ih
 have EK:T0++(Sha.pj (8*b.length)).take 8=Sha.msg b:=by
  rw[O',List.take_of_length_le (by simp[Sha.pj])]
  unfold Sha.msg Sha.pad
  rw[← hz];simp
 have o5:(dK b).bs=Sha.out (Sha.chunks Sha.start (Sha.msg b) ((Sha.msg b).length/64)):=IG b
 rw[← EK]at o5
 generalize T0++(Sha.pj (8*b.length)).take 8=T at Jk o5 ⊢
 have aeb:T.length%64=0:=by omega
 have hTl:T.length≤1000000200:=by omega
 clear wJ Lb O' rI hz SV SU Jk EK
 have La:∀s:Sha.St,(wV s.l).length=8:=fun s=>rfl
 have RG:∀s:Sha.St,wV s.l≠[]:=fun s e=>by have:=congrArg List.length e;rw[La]at this;cases this
 refine qE (bs:=T) 0 rfl ?_
 intro Rv
 have Xl:eM (Sep [aB 5 1 (.slice a3 T.length c3) T.length (bV T),A]) (.slice a3 T.length c3) T:=Rv.mono (bg (i:=0) rfl)
 refine ai (al.bS [_,_] _) (go ?_)
 refine mL (U:=aQ) (cs:=wV Sha.start.l) zr zr zr zr zr zr ?_
 refine az zr zr zr bD ?_
 intro b6
 refine aT ?_
 refine ct (U:=aQ) (l':=wV Sha.start.l) 0 gB zr zr zr zr (by decide) (fC _) zr zr zr (go ?_)
 refine bB (fun y:Nat × Option Addr × Nat=>64*y.1≤T.length∧eM (Sep [aB 5 1 (.slice a3 T.length c3) T.length (bV T),A]) (.slice y.2.1 (T.length-64*y.1) y.2.2) (T.drop (64*y.1))) (fun y=>T.length-64*y.1)
  (fun y=>[(2,ptr b2),(6,ptr b6),(3,.slice y.2.1 (T.length-64*y.1) y.2.2)])
  (fun y=>ae b6 (cl (wV (Sha.chunks Sha.start T y.1).l) 140)::Sep [aB 5 1 (.slice a3 T.length c3) T.length (bV T),A]::ae b2 (cl (dC Dg.zero) 35)::F) (0,a3,c3) ⟨ag,Xl⟩ rfl cg (by unfold Sha.chunks;exact ah) ?_
 rintro⟨q,a4,c4⟩⟨hq,hbq⟩ ih
 simp only at hq hbq
 dsimp only
 refine go ?_
 refine aq zr zr ?_ ?_
 ·intro de
  have Y5:64*q+64≤T.length:=by omega
  have Dj:(T.drop (64*q)).length=T.length-64*q:=List.length_drop
  have xg:=hbq.front 64 (by rw[Dj];omega)
  have xh:=hbq.cut 64 (by rw[Dj];omega)
  have j8:((T.drop (64*q)).take 64).length=64:=by rw[List.length_take,Dj];omega
  have EY:=LF _ _ _ xg (by rw[j8];omega) (Sha.chunks Sha.start T q)
  have pK:Sha.chunk (Sha.chunks Sha.start T q) ((T.drop (64*q)).take 64)=Sha.chunks Sha.start T (q+1):=by
   have h1:=Sha.Bu (Sha.chunks Sha.start T q) ((T.drop (64*q)).take 64) ((T.drop (64*q)).drop 64) (by rw[j8];omega)
   rw[List.take_append_drop]at h1
   rw[← h1]
   conv=>rhs;unfold Sha.chunks
  rw[pK]at EY
  refine go ?_
  refine aF (fun w=>Sat G w ([ae b6 (cl (wV (Sha.chunks Sha.start T q).l) 140)])) (cZ 0 3 (.act 3 (.act 4 .nil))) rfl ak ak ak dT ?_
  refine go ?_
  refine bQ (U:=aQ) 0 zr zr zr zr zr zr (go ?_)
  refine bh (p:=0) (q:=64) rfl rfl rfl rfl rfl rfl rfl ag ag (.inr (by obtain⟨_,_,_,he,hcc⟩:=hbq;simp only[Value.slice.injEq]at he;rw[Dj]at hcc;omega)) ?_
  refine au 45 ((.slice (sliceAt a4 c4 0 1) 64 c4)) rfl (rfl) ?_
  refine bo EY ?_
  unfold Ql
  refine aT ?_
  refine ct (U:=aQ) 1 gB zr zr zr zr (RG _) (fC _) rfl (by rw[La,La]) rfl (go ?_)
  refine bh (p:=64) (q:=((T.length-64*q:Nat):Int)) zr zr zr zr zr zr zr ag ag (.inl rfl) ?_
  ((refine au 48 ((.slice (sliceAt a4 c4 64 1) (T.length-64*(q+1)) (c4-64))) rfl ((by rw[show(((T.length-64*q:Nat):Int)).toNat-(64:Int).toNat=T.length-64*(q+1)from by omega];rfl)) ?_))
  refine go ?_
  rw[List.drop_drop,Dj,show T.length-64*q-64=T.length-64*(q+1)from by omega,show 64*q+64=64*(q+1)from by omega]at xh
  refine aM ih (q+1,sliceAt a4 c4 64 1,c4-64) rfl ⟨by simp only;omega,xh⟩ (by simp only;omega) cg ah
 intro fA
 have Xw:q=T.length/64:=by omega
 subst Xw
 clear ih
 generalize Sha.chunks Sha.start T (T.length/64)=S2 at o5 ⊢
 refine ai (al.trans (al.pick [1] rfl) (al.cD _ _)) (go ?_)
 refine az zr zr zr bD ?_
 intro b9
 refine go ?_
 have QA:=Sha.Cg S2
 have Dj:∀i,i≤32→((Sha.out S2).take i++List.replicate (32-i) (0:UInt8)).length=32:=fun i hi=>by
  rw[List.length_append,List.length_take,List.length_replicate,QA];omega
 refine bB (fun i:Nat=>i≤32) (fun i=>32-i)
  (fun i=>[(2,ptr b2),(6,ptr b6),(7,ptr b9),(8,.int .i64 (i:Int))])
  (fun i=>ae b9 (cl (bV ((Sha.out S2).take i++List.replicate (32-i) (0:UInt8))) 35)::ae b6 (cl (wV S2.l) 140)::ae b2 (cl (dC Dg.zero) 35)::A::F) 0 (Nat.zero_le _) rfl cg ah ?_
 rintro i hi ih
 refine go ?_
 refine aq zr zr ?_ ?_
 ·intro de
  have tP:i<32:=by omega
  have hq4:(i:Int)/4=((i/4:Nat):Int):=by omega
  have hr4:24-8*((i:Int)%4)=((24-8*(i%4):Nat):Int):=by omega
  have Rt:(wV S2.l)[i/4]?=some (u32 (S2.l.getD (i/4) 0)):=iE (by rw[List.getD_eq_getElem?_getD,List.getElem?_eq_getElem (show i/4<S2.l.length from by show i/4<8;omega)];rfl)
  have rH:(Sha.out S2)[i]?=some (UInt8.ofNat ((S2.l.getD (i/4) 0) >>> (24-8*(i%4))).toNat):=by simp[Sha.out,tP]
  (repeat(first|refine gy ?_|refine lj zr zr zr ag ag (by simp only[gq];omega) ?_|refine mI zr zr zr ag ag ?_|refine ib zr zr zr (by simp only[gq];omega) ?_|refine ep (U:=aQ) (i/4) zr zr zr zr zr zr zr hq4 ag ?_|(refine aK ?_;refine mJ (U:=aQ) 1 (i/4) zr zr zr (Nat.zero_add _) Rt zr zr ?_)|refine qH (24-8*(i%4)) zr zr zr hr4 ag ?_|(refine ez ?_;refine BG (U:=aQ) zr zr zr zr zr zr ?_)|refine ep (U:=aQ) i zr zr zr zr zr zr zr zr tP ?_))
  refine aT ?_
  refine gV (U:=aQ) 0 gB zr zr zr zr zr zr zr (by rw[bC,Dj i ag];omega) rfl ?_
  rw[show 0+i=i from Nat.zero_add _,D6 QA rH]
  refine go ?_
  refine aM ih (i+1) rfl ag ag cg ah
 intro fA
 have tP:i=32:=by omega
 subst tP
 rw[List.take_of_length_le ag,show 32-32=0 from rfl,List.replicate_zero,List.append_nil,← o5,← dG]
 clear ih Dj QA o5
 refine go ?_
 refine aG (U:=aQ) (l:=dC (dK b)) 0 zr zr zr zr zr zr ?_
 refine ct (U:=aQ) (l':=dC (dK b)) 2 gB rfl rfl rfl rfl (by intro e;cases e) (by rw[dG];exact gO _) rfl rfl rfl ?_
 refine go ?_
 (refine aY hE ?_;apply aU (U:=aQ) hE Tryz.func30 rfl (al.refl _);(repeat(first|exact aN.nil|apply aN.agg 2 zr zr zr zr zr));exact⟨rfl,rfl⟩;exact ah)
attribute [local irreducible] cm
def L5(A:HP)(tag:UInt8)(v:Value)(ps:List (List UInt8))(hv:sj A v ps)(hl:(dg tag ps).length≤1000000000) :
  aE Tryz.prog 146 [u8 tag,v] [A] (fun r H=>H=[aB 5 1 r (dg tag ps).length (bV (dg tag ps)),A]):=by
 obtain⟨cs,dE,lA,⟨a,c,rfl,hc⟩,pL⟩:=hv
 have yS:=tH tag ps
 refine aE.ao Tryz.func146 Tryz.ntmps146 fun G F R hE=>?_
 refine go ?_
 refine aj (cs:=bV [tag]) zr zr zr zr zr zr zr zr zr bD ?_
 intro b0
 refine go ?_
 refine ai (eJ 5 1 b0 1 1 (bV [tag]) [] _ rfl (Nat.le_refl _) (by simp[bV])) ?_
 refine bB (fun y:Nat × Option Addr × Nat=>y.1≤ps.length) (fun y=>ps.length-y.1)
  (fun y=>[(1,.slice a ps.length c),(6,.int .i64 (y.1:Int)),(5,.slice y.2.1 (dg tag (ps.take y.1)).length y.2.2)])
  (fun y=>aB 5 1 (.slice y.2.1 (dg tag (ps.take y.1)).length y.2.2) (dg tag (ps.take y.1)).length (bV (dg tag (ps.take y.1)))::A::F) (0,some ⟨b0,0,none⟩,1) (Nat.zero_le _) rfl cg ah ?_
 rintro⟨i,a1,c1⟩ hi ih
 simp only at hi
 dsimp only
 refine go ?_
 refine aq zr zr ?_ ?_
 ·intro de
  have lx:i<ps.length:=by omega
  obtain⟨p,hp⟩:∃p,ps[i]?=some p:=⟨ps[i],List.getElem?_eq_getElem lx⟩
  obtain⟨cv,nt,hb⟩:=pL i p hp
  obtain⟨b1,o1,c0,pG⟩:=dE.some (by intro h;rw[h]at nt;simp at nt)
  simp only[Value.slice.injEq]at pG
  obtain⟨rfl,-,rfl⟩:=pG
  have j8:=vP (tag:=tag) hp
  have hle:=AW tag ps (i+1)
  have abr:=I5 p.length
  rw[j8]at hle
  simp only[List.length_append]at hle
  obtain⟨T0,O'⟩:∃T0,T0=dg tag (ps.take i):=⟨_,rfl⟩
  rw[← O']at j8 hle ⊢
  obtain⟨ax,cx,rfl,hcx⟩:=hb.2
  have Lb:∀j:Nat,j≤8→(T0++(lI p.length).take j).length=T0.length+j:=fun j hj=>by
   rw[List.length_append,List.length_take];omega
  refine go ?_
  refine bM i zr zr zr zr zr zr zr zr lx ?_
  refine aK ?_
  refine bj 1 i zr zr zr dE rfl nt zr zr (go ?_)
  refine bB (fun y:Nat × Option Addr × Nat=>y.1≤8) (fun y=>8-y.1)
   (fun y=>[(1,.slice (some ⟨b1,o1,none⟩) ps.length c),(6,.int .i64 (i:Int)),(7,.int .u64 ((p.length/2 ^ (8*y.1):Nat):Int)),(5,.slice y.2.1 (T0++(lI p.length).take y.1).length y.2.2),(8,.int .i64 (y.1:Int))])
   (fun y=>aB 5 1 (.slice y.2.1 (T0++(lI p.length).take y.1).length y.2.2) (T0++(lI p.length).take y.1).length (bV (T0++(lI p.length).take y.1))::A::F) (0,a1,c1) (Nat.zero_le _) rfl (by simp only[List.take_zero,List.append_nil,Nat.mul_zero,Nat.pow_zero,Nat.div_one];exact cg) (by simp only[List.take_zero,List.append_nil];exact ah) ?_
  rintro⟨j,a2,c2⟩ hj Hh
  simp only at hj
  have wJ:=Lb j hj
  dsimp only
  refine go ?_
  refine aq zr zr ?_ ?_
  ·intro hj8
   have XR:j<8:=by omega
   have htj:=Ev (n:=p.length) XR
   obtain⟨m,hm⟩:∃m,m=p.length/2 ^ (8*j):=⟨_,rfl⟩
   have aeH:m≤p.length:=by rw[hm];exact Nat.div_le_self _ _
   have Za:p.length/2 ^ (8*(j+1))=m/256:=by
    rw[hm,Nat.div_div_eq_div_mul,show 8*(j+1)=8*j+8 from by omega,Nat.pow_add]
   rw[← hm]at htj ⊢
   refine go ?_
   refine mI zr zr zr ag ag ?_
   refine ez ?_
   refine il zr zr zr zr zr zr ?_
   ((refine au 30 ((u8 (UInt8.ofNat m))) rfl ((by rw[show((m:Int)%256)=((m%256:Nat):Int)from by omega,lN];congr 1;apply UInt8.toNat.inj;simp only[UInt8.toNat_ofNat'];omega)) ?_))
   (refine aj (cs:=bV [(UInt8.ofNat m)]) zr zr zr zr zr zr zr zr zr bD ?_;intro bA;refine aR (mm:=1) (news:=bV [(UInt8.ofNat m)]) 1 0 zr zr zr zr zr zr zr zr zr zr zr zr (Vw.ae rfl) rfl (cX _) (by(rw[wJ];omega)) (by show(_+_)*1≤_;(rw[wJ];omega)) (fun _=>rfl) bD ?_;intro vA;rw[show bV ((T0++(lI p.length).take j))++bV [(UInt8.ofNat m)]=bV (((T0++(lI p.length).take j))++[(UInt8.ofNat m)])from by simp[bV],show((T0++(lI p.length).take j)).length+1=(((T0++(lI p.length).take j))++[(UInt8.ofNat m)]).length from(@List.length_append _ ((T0++(lI p.length).take j)) [(UInt8.ofNat m)]).symm];((refine aO 1 rfl ?_));rintro aA cA rfl)
   rw[show T0++(lI p.length).take j++[UInt8.ofNat m]=T0++(lI p.length).take (j+1)from by rw[htj,List.append_assoc]]
   refine go ?_
   refine lj zr zr zr ag ag (by simp only[gq];omega) ?_
   ((refine au 34 ((.int .u64 ((p.length/2 ^ (8*(j+1)):Nat):Int))) rfl ((congrArg (Value.int .u64) (by rw[Za];omega))) ?_))
   refine go ?_
   refine aM Hh (j+1,aA,cA) rfl (by simp only;omega) (by simp only;omega) cg ah
  intro fA
  have hj8:j=8:=by omega
  subst hj8
  rw[List.take_of_length_le ag]at wJ ⊢
  refine go ?_
  refine bM i zr zr zr zr zr zr zr zr lx ?_
  refine aK ?_
  refine bj 1 i zr zr zr dE rfl nt zr zr ?_
  (refine aR (mm:=(p).length) (news:=bV (p)) 0 1 zr zr zr zr zr zr zr zr zr zr zr zr (hb.1) (by show _=_*1;rw[bC];omega) (cX _) (by(rw[wJ];omega)) (by show(_+_)*1≤_;(rw[wJ];omega)) (fun _=>rfl) bD ?_;intro vA;rw[show bV ((T0++lI p.length))++bV (p)=bV (((T0++lI p.length))++(p))from by simp[bV],show((T0++lI p.length)).length+(p).length=(((T0++lI p.length))++(p)).length from(@List.length_append _ ((T0++lI p.length)) (p)).symm];((refine aO 0 rfl ?_));rintro aA cA rfl)
  rw[show T0++lI p.length++p=dg tag (ps.take (i+1))from by rw[j8,List.append_assoc]]
  refine go ?_
  refine aM ih (i+1,aA,cA) rfl (by simp only;omega) (by simp only;omega) cg ah
 intro fA
 have gl:i=ps.length:=by omega
 subst gl
 rw[List.take_length]
 refine go ?_
 refine aL hE Tryz.func146 rfl _ zr zr ah
def zz(A:HP)(tag:UInt8)(v:Value)(ps:List (List UInt8))(hv:sj A v ps)(hl:(dg tag ps).length≤1000000000) :
  aE Tryz.prog 81 [u8 tag,v] [A] (fun r H=>r=dV (cm tag ps)∧H=[A]):=by
 have Qz:=L5 A tag v ps hv hl
 obtain⟨cs,dE,lA,⟨a,c,rfl,hc⟩,pL⟩:=hv
 have htg:cm tag ps=dK (dg tag ps):=by unfold cm;rfl
 rw[htg]
 refine aE.ao Tryz.func81 Tryz.ntmps81 fun G F R hE=>?_
 refine aD rfl ?_
 refine az zr zr zr bD ?_
 intro b4
 refine go ?_
 refine aH Qz ?_
 rintro r _ rfl
 refine gQ (bs:=dg tag ps) 0 rfl ?_
 intro Rv
 refine aI (al.bS [_,_] _) ?_
 refine aJ (JL _ _ (dg tag ps) (Rv.mono (bg (H:=[aB 5 1 r (dg tag ps).length (bV (dg tag ps)),A]) (i:=0) rfl)) hl) ?_
 refine aI (al.cD _ _) (go ?_)
 (refine aY hE ?_;apply aU (U:=aQ) hE Tryz.func81 rfl (al.refl _);(repeat(first|exact aN.nil|apply aN.agg 2 zr zr zr zr zr));exact⟨rfl,rfl⟩;exact ah)
def FE(A:HP)(v:Value)(b:List UInt8)(hv:eM A v b)(hl:b.length≤900000000):aE Tryz.prog 60 [v] [A] (fun r H=>r=dV (cQ b)∧H=[A]):=by
 obtain⟨a,c,rfl,hc⟩:=hv.2
 refine aE.ao Tryz.func60 Tryz.ntmps60 fun G F R hE=>?_
 refine aD rfl ?_
 refine az zr zr zr bD ?_
 intro b2
 refine ld ?_
 (refine aD rfl ?_;refine ld ?_)
 refine aj (cs:=[.slice a b.length c]) zr zr zr zr zr zr zr zr zr bD ?_
 intro b0
 refine aI (al.trans (al.pick [0,2] rfl) (al.bS [_,_] _)) ?_
 ((refine aH (zz (Sep [ae b0 (cl [.slice a b.length c] 22),A]) 0 _ [b] (sj.row rfl rfl (fun i x hx=>by cases i with|zero=>(simp at hx;subst hx;exact⟨_,rfl,hv⟩)|succ i=>simp at hx)) (by simp[dg,lI];omega)) ?_))
 rintro _ _⟨rfl,rfl⟩
 refine aI (al.cD _ _) (go ?_)
 (refine aY hE ?_;apply aU (U:=aQ) hE Tryz.func60 rfl (al.refl _);(repeat(first|exact aN.nil|apply aN.agg 2 zr zr zr zr zr));exact⟨rfl,rfl⟩;exact ah)
def zE(l r:Dg):aE Tryz.prog 118 [dV l,dV r] [] (fun x H=>x=dV (e8 l r)∧H=[]):=by
 unfold dV
 refine aE.ao Tryz.func118 Tryz.ntmps118 fun G F R hE=>?_
 refine aD rfl ?_
 refine bG zr zr bD ?_
 intro b2
 refine bG zr zr bD ?_
 intro b3
 refine az zr zr zr bD ?_
 intro b4
 refine go ?_
 refine aF (fun w=>Sat G w ([])) (.st 0 (.st 1 (.act 2 (.act 3 (.act 4 .nil))))) rfl ak ak ak dT ?_
 refine go ?_
 refine iP (U:=aQ) zr zr zr zr zr (go ?_)
 refine iP (U:=aQ) zr zr zr zr zr ?_
 refine aj (cs:=[.slice (some ⟨b2,0,none⟩) 32 32,.slice (some ⟨b3,0,none⟩) 32 32]) zr zr zr zr zr zr zr zr zr (fun _ _ hw=>hw.cV ah) ?_
 intro b0
 refine aI (al.trans (al.pick [3,2] rfl) (al.trans (al.bS [_,_] _) (al.trans (al.pick [1,0] rfl) (al.bS [_,_] _)))) ?_
 have mR:sj (Sep [ae b0 (cl [.slice (some ⟨b2,0,none⟩) 32 32,.slice (some ⟨b3,0,none⟩) 32 32] 22),Sep [ae b2 (cl (dC l) 35),ae b3 (cl (dC r) 35)] ]) (.slice (some ⟨b0,0,none⟩) 2 2) [l.bs,r.bs]:=by
  refine sj.row zr zr (fun i x hx=>?_)
  match i,hx with
  | 0,hx =>
   simp at hx
   subst hx
   exact⟨_,rfl,(eM.block l.len (dG l)).mono (bg (i:=0) rfl)⟩
  | 1,hx =>
   simp at hx
   subst hx
   exact⟨_,rfl,(eM.block r.len (dG r)).mono (bg (i:=1) rfl)⟩
  | i+2,hx=>simp at hx
 have Xm:=zz _ 1 _ [l.bs,r.bs] mR (by simp[dg,lI,l.len,r.len])
 refine bo Xm ?_
 refine aI (al.trans (al.cD _ _) (al.trans (al.pick [1] rfl) (al.cD _ _))) (go ?_)
 (refine aY hE ?_;apply aU (U:=aQ) hE Tryz.func118 rfl (al.refl _);(repeat(first|exact aN.nil|apply aN.agg 3 zr zr zr zr zr));exact⟨rfl,rfl⟩;exact ah)
def dgE{l:List Dg}{i:Nat}{x:Dg}(hx:l[i]?=some x)(q:Nat)(v:Value)(hq:(dC x)[q]?=some v):(l.flatMap dC)[i*32+q]?=some v:=by
 rw[cR dk hx q (by rcases Nat.lt_or_ge q 32 with h|h;exact h;rw[List.getElem?_eq_none (by rw[dk];exact h)]at hq;cases hq)]
 exact hq
def aee{l:List Dg}{i:Nat}(h:i<l.length):l.flatMap dC≠[]:=by
 rw[← List.length_pos_iff,cI dk];omega
def BA(A:HP)(v:Value)(l:List Dg)(hv:Vw A v l.length (l.flatMap dC))(hl:l.length≤1000000) :
  aE Tryz.prog 82 [v] [A] (fun r H=>H=[aB 35 32 r (bF l).length ((bF l).flatMap dC),A]):=by
 obtain⟨a,c,rfl⟩:=hv.shape
 have O9:=cU l
 refine aE.ao Tryz.func82 Tryz.ntmps82 fun G F R hE=>?_
 refine go ?_
 refine ai (bN 35 32 none _) ?_
 refine bB (fun y:Nat × Option Addr × Nat=>y.1≤(l.length+1)/2) (fun y=>(l.length+1)/2-y.1)
  (fun y=>[(0,.slice a l.length c),(3,.slice y.2.1 ((bF l).take y.1).length y.2.2),(4,.int .i64 ((2*y.1:Nat):Int))])
  (fun y=>aB 35 32 (.slice y.2.1 ((bF l).take y.1).length y.2.2) ((bF l).take y.1).length (((bF l).take y.1).flatMap dC)::A::F) (0,none,0) (Nat.zero_le _) rfl cg ah ?_
 rintro⟨q,oa,oc⟩ hq ih
 simp only at hq
 dsimp only
 have rF:((bF l).take q).length=q:=by rw[List.length_take];omega
 refine go ?_
 refine aq zr zr ?_ ?_
 ·intro de
  have hql:2*q<l.length:=by omega
  obtain⟨x,hx⟩:∃x,l[2*q]?=some x:=⟨l[2*q],by simp⟩
  obtain⟨b,o,gM,gk⟩:=hv.some (aee hql)
  simp only[Value.slice.injEq]at gk
  obtain⟨rfl,_,rfl⟩:=gk
  refine go ?_
  refine aq zr zr ?_ ?_
  ·intro XL
   have adg:2*q+1<l.length:=by omega
   obtain⟨y,hy⟩:∃x,l[2*q+1]?=some x:=⟨l[2*q+1],by simp⟩
   have m8:=BB hx hy
   have j8:(bF l).take (q+1)=(bF l).take q++[e8 x y]:=by rw[List.take_add_one,m8];rfl
   refine go ?_
   refine aF (fun w=>Sat G w ([A])) (cZ 0 10 (.act 10 (.act 11 (.act 12 (.st 13 .nil))))) rfl ak ak ak dT ?_
   refine go ?_
   refine cL (2*q) 32 zr zr zr zr zr zr zr zr hql ?_
   refine aK ?_
   refine fq (U:=aQ) (es:=dC x) 0 ((2*q)*32) zr zr zr hv rfl (dgE hx) zr zr zr (go ?_)
   refine cL (2*q+1) 32 zr zr zr zr zr zr zr zr adg ?_
   refine aK ?_
   refine fq (U:=aQ) (es:=dC y) 0 ((2*q+1)*32) zr zr zr hv rfl (dgE hy) zr zr zr ?_
   refine bo ((zE x y)) ?_
   refine aj (cs:=dC (e8 x y)) zr zr zr zr zr zr zr zr zr (fun _ _ hw=>hw.cV ah) ?_
   intro row
   refine go ?_
   refine aR (mm:=1) (news:=dC (e8 x y)) 1 0 zr zr zr zr zr zr zr zr zr zr zr zr (Vw.ae rfl) rfl (by rw[dG];exact cX _) (by rw[rF];omega) (by show(_+_)*32≤_;rw[rF];omega) (fun _=>rfl) (fun _ _ hw=>hw.cV ah) ?_
   intro v1
   rw[show((bF l).take q).flatMap dC++dC (e8 x y)=((bF l).take (q+1)).flatMap dC from by rw[j8];simp,show((bF l).take q).length+1=((bF l).take (q+1)).length from by rw[j8];simp]
   refine aO 1 rfl ?_
   rintro ja jc rfl
   refine go ?_
   refine aX 4 ((.int .i64 ((2*(q+1):Nat):Int))) rfl ((congrArg (Value.int .i64) ag)) ?_
   refine aM ih (q+1,ja,jc) rfl (by simp only;omega) (by simp only;omega) cg ah
  ·intro abJ
   have m8:=wi hx ag
   have j8:(bF l).take (q+1)=(bF l).take q++[x]:=by rw[List.take_add_one,m8];rfl
   refine go ?_
   refine cL (2*q) 32 zr zr zr zr zr zr zr zr hql ?_
   refine aK ?_
   refine dm (U:=aQ) (es:=dC x) 1 ((2*q)*32) zr zr zr hv rfl (dgE hx) zr zr zr ?_
   refine aj (cs:=dC x) zr zr zr zr zr zr zr zr zr bD ?_
   intro row
   refine go ?_
   refine aR (mm:=1) (news:=dC x) 1 0 zr zr zr zr zr zr zr zr zr zr zr zr (Vw.ae rfl) rfl (by rw[dG];exact cX _) (by rw[rF];omega) (by show(_+_)*32≤_;rw[rF];omega) (fun _=>rfl) bD ?_
   intro v1
   rw[show((bF l).take q).flatMap dC++dC x=((bF l).take (q+1)).flatMap dC from by rw[j8];simp,show((bF l).take q).length+1=((bF l).take (q+1)).length from by rw[j8];simp]
   refine aO 1 rfl ?_
   rintro ja jc rfl
   refine go ?_
   refine aX 4 ((.int .i64 ((2*(q+1):Nat):Int))) rfl ((congrArg (Value.int .i64) ag)) ?_
   refine aM ih (q+1,ja,jc) rfl (by simp only;omega) (by simp only;omega) cg ah
 intro fA
 have Xw:(bF l).take q=bF l:=by rw[List.take_of_length_le];omega
 rw[Xw]
 refine go ?_
 refine aL hE Tryz.func82 rfl _ zr zr ah
def PN(A:HP)(v:Value)(l0:List Dg)(hv:Vw A v l0.length (l0.flatMap dC))(OT:l0.length≤1000000)(bY:l0≠[]):aE Tryz.prog 31 [v] [A] (fun r H=>r=dV (rO l0)∧H=[A]):=by
  obtain⟨a,c,rfl⟩:=hv.shape
  have lu:0<l0.length:=List.length_pos_iff.2 bY
  refine aE.ao Tryz.func31 Tryz.ntmps31 fun G F R hE=>?_
  refine aD rfl ?_
  refine az zr zr zr bD ?_
  intro b2
  refine go ?_
  refine aq zr zr ?_ ?_
  · intro h0;exfalso;omega
  intro _
  refine go ?_
  refine bB (fun y:Nat × HP × Option Addr × Nat=>(∀i,i<y.1→1<(dw i l0).length)∧Vw y.2.1 (.slice y.2.2.1 (dw y.1 l0).length y.2.2.2) (dw y.1 l0).length ((dw y.1 l0).flatMap dC)∧∀h,y.2.1 h→∃h',sub h' h∧A h') (fun y=>(dw y.1 l0).length)
    (fun y=>[(2,ptr b2),(3,.slice y.2.2.1 (dw y.1 l0).length y.2.2.2)])
    (fun y=>y.2.1::ae b2 (cl (dC Dg.zero) 35)::F) (0,A,a,c) ⟨fun i h=>by omega,hv,fun h hA=>⟨h,sub.refl h,hA⟩⟩ rfl cg ah ?_
  rintro⟨j,X,xa,xc⟩⟨hI,hX,Ye⟩ ih
  simp only at hI hX Ye
  dsimp only
  have hle:=B0 l0 j
  refine go ?_
  refine aq zr zr ?_ ?_
  · intro MG
    have Aj:1<(dw j l0).length:=by omega
    have pK:dw (j+1) l0=bF (dw j l0):=rfl
    have m8:=cU (dw j l0)
    have RX:=BA X _ _ hX ag
    rw[← pK]at RX m8
    refine go ?_
    refine aH RX ?_
    rintro r _ rfl
    refine aO 0 rfl ?_
    rintro ra rc rfl
    refine uw fun dE=>?_
    refine go ?_
    refine aM ih (j+1,Sep [aB 35 32 (.slice ra (dw (j+1) l0).length rc) (dw (j+1) l0).length ((dw (j+1) l0).flatMap dC),X],ra,rc) rfl ⟨fun i hi=>by
      rcases Nat.lt_or_ge i j with h|h
      · exact hI i h
      · rw[show i=j from by simp only at hi;omega];exact Aj,dE.mono (bg (i:=0) rfl),fun h hs=>by
      obtain⟨h1,s1,MF⟩:=bg (H:=[aB 35 32 (.slice ra (dw (j+1) l0).length rc) (dw (j+1) l0).length ((dw (j+1) l0).flatMap dC),X]) (i:=1) rfl h hs
      obtain⟨h2,s2,rE⟩:=Ye h1 MF
      exact⟨h2,s2.trans s1,rE⟩⟩ (by simp only;omega) cg ah
  intro abu
  have Xz:=tA l0 lu j
  obtain⟨x,hx⟩:∃x,dw j l0=[x]:=by
    match h:dw j l0,Xz,(show(dw j l0).length≤1 by omega)with
    | [x],_,_=>exact⟨x,rfl⟩
  have yG:=DT bY hI hx
  rw[yG]at hE
  rw[hx]at hX ⊢
  obtain⟨b,o,gM,gk⟩:=hX.some (by simp[dC])
  simp only[Value.slice.injEq]at gk
  obtain⟨rfl,_,rfl⟩:=gk
  refine go ?_
  refine cL 0 32 zr zr zr zr zr zr zr zr (by simp) ?_
  refine aK ?_
  refine dm (U:=aQ) (es:=dC x) 0 (0*32) zr zr zr hX rfl (dgE (l:=[x]) rfl) zr zr zr ?_
  (refine aT ?_;(refine cq 1 gB zr zr zr zr zr zr zr zr zr ?_))
  refine go ?_
  refine ai (al.head (B:=[A]) fun h hs=>by obtain⟨h',s1,MF⟩:=Ye h hs;exact⟨h',s1,gm MF⟩) ?_
  (refine aY hE ?_;apply aU (U:=aQ) hE Tryz.func31 rfl (al.refl _);(repeat(first|exact aN.nil|apply aN.agg 1 zr zr zr zr zr));exact⟨rfl,rfl⟩;exact ah)
attribute [local irreducible] GI cQ
def Nw{s p:Int}(hs:1≤s∧s≤1048576)(hp:1≤p∧p≤16384):gq .i64 ((s+p-1)/p):=by
 have h1:0≤(s+p-1)/p:=Int.ediv_nonneg ag ag
 have h2:(s+p-1)/p≤s+p-1:=Int.ediv_le_self _ ag
 simp only[gq];omega
def L1(x:Bl):aE Tryz.prog 40 [eL x] [] (fun r H=>r = .bool (bz x)∧H=[]):=by
 have hF:¬(1≤x.size∧x.size≤1048576∧16≤x.piece∧x.piece≤16384)→Value.bool false = .bool (bz x):=fun h=>congrArg Value.bool (by unfold bz;rw[decide_eq_false (by rintro⟨a,b,c,e,_⟩;exact h ⟨a,b,c,e⟩)])
 have hT:(1≤x.size∧x.size≤1048576∧16≤x.piece∧x.piece≤16384)→Value.bool (decide ((x.size+x.piece-1)/x.piece≤1024)) = .bool (bz x):=fun h=>congrArg Value.bool (by unfold bz;rw[decide_eq_decide];exact⟨fun g=>⟨h.1,h.2.1,h.2.2.1,h.2.2.2,g⟩,fun g=>g.2.2.2.2⟩)
 unfold eL
 refine aE.ao Tryz.func40 Tryz.ntmps40 fun G F R hE=>?_
 refine aD rfl ?_
 refine bG zr zr bD ?_
 intro b1
 repeat'(first|(with_reducible intro pM)|refine gy ?_|refine ie zr zr zr zr ?_ ?_|(refine lO ?_;refine lj zr zr zr ag ag (Nw ag ag) ?_))
 all_goals(first|((refine ad hE Tryz.func40 zr zr ⟨hF ag,rfl⟩))|((refine ad hE Tryz.func40 zr zr ⟨hT ag,rfl⟩)))
def rB(x:Bl):aE Tryz.prog 11 [eL x] [] (fun r H=>r = .int .i64 (bO x)∧H=[]):=by
 unfold eL
 refine aE.ao Tryz.func11 Tryz.ntmps11 fun G F R hE=>?_
 refine aD rfl ?_
 refine bG zr zr bD ?_
 intro b1
 refine go ?_
 refine aG (U:=aQ) 0 zr zr zr zr zr zr ?_
 refine aJ (L1 x) ?_
 cases hr:bz x with
 | false =>
  have hc:bO x=0:=by unfold bO;rw[if_neg (by rw[hr];simp)]
  rw[hc]at hE
  refine go ?_
  refine ad hE Tryz.func11 zr zr ⟨rfl,rfl⟩
 | true =>
  have hc:bO x=(x.size+x.piece-1)/x.piece:=by unfold bO;rw[if_pos hr]
  rw[hc]at hE
  simp only[bz,decide_eq_true_eq]at hr
  refine go ?_
  refine lj zr zr zr ag ag (Nw ag ag) (go ?_)
  refine ad hE Tryz.func11 zr zr ⟨rfl,rfl⟩
def uk(x:Bl)(i:Int):aE Tryz.prog 21 [eL x,.int .i64 i] [] (fun r H=>r=(match cC x i with
  | none => .tuple #[.int .i64 0,.int .i64 0,.int .i64 1]
  | some (a,n) => .tuple #[.int .i64 a,.int .i64 n,.int .i64 0])∧H=[]):=by
 unfold eL
 refine aE.ao Tryz.func21 Tryz.ntmps21 fun G F R hE=>?_
 refine aD rfl ?_
 refine bG zr zr bD ?_
 intro b1
 have hN:(i<0∨bO x≤i)→cC x i=none:=fun h=>by unfold cC;rw[if_pos h]
 repeat'(first|(with_reducible intro pM)|refine gy ?_|refine ie zr zr zr zr ?_ ?_|refine aq zr zr ?_ ?_|refine aG (U:=aQ) 0 zr zr zr zr zr zr ?_|(refine aH (rB x) ?_;rintro _ _⟨rfl,rfl⟩))
 all_goals(first|(rw[hN ag]at hE;((refine ad hE Tryz.func21 zr zr ⟨rfl,rfl⟩)))|skip)
 have hs:cC x i=some (i*x.piece,min x.piece (x.size-i*x.piece)):=by unfold cC;rw[if_neg ag]
 rw[hs]at hE
 obtain⟨hr,zY,Tf⟩:=wU (x:=x) (i:=i) ag ag
 simp only[bz,decide_eq_true_eq]at hr
 obtain⟨q,hq⟩:∃q,q=i*x.piece:=⟨_,rfl⟩
 rw[← hq]at zY Tf hE
 refine aF (fun w=>Sat G w ([ae b1 (cl (bH x) 37)])) (cZ 0 17 .nil) rfl ak ak ak dT ?_
 (repeat(first|refine gy ?_|(refine lO ?_;refine ib zr zr zr (by rw[← hq];simp only[gq];omega) ?_;rw[← hq])))
 refine ad hE Tryz.func21 zr zr ⟨rfl,rfl⟩
def HF:Tryz.prog.eqGuardType Tryz.prog.depth 35=false:=by kernel_rfl
def HO(a b:Dg)(w:World):(Op.equal 35 (.agg (dC a).toArray) (.agg (dC b).toArray)).run Tryz.prog w = .ok (decide (a=b)) w :=
 sC Tryz.underlying35 Tryz.underlying5 Yy a b 9998 w
def zG(A:HP)(v:Value)(b:List UInt8)(hv:eM A v b)(hl:b.length≤900000000)(k:Int) :
  aE Tryz.prog 29 [v,.int .i64 k] [A] (fun r H=>(cM b k=none∧r = .tuple #[.slice none 0 0,.int .i64 1]∧H=[A])∨∃ls rv,cM b k=some ls∧r = .tuple #[rv,.int .i64 0]∧H=[aB 35 32 rv ls.length (ls.flatMap dC),A]):=by
 obtain⟨a,c,rfl,hc⟩:=hv.2
 refine aE.ao Tryz.func29 Tryz.ntmps29 fun G F R hE=>?_
 refine go ?_
 refine aJ (rB ⟨Dg.zero,b.length,k,Dg.zero⟩) ?_
 cases hr:bz ⟨Dg.zero,b.length,k,Dg.zero⟩with
 | false =>
  have hn:cM b k=none:=by unfold cM;rw[if_neg (by rw[hr];simp)]
  have sO:bO ⟨Dg.zero,b.length,k,Dg.zero⟩=0:=by unfold bO;rw[if_neg (by rw[hr];simp)]
  rw[sO]
  refine go ?_
  refine ad hE Tryz.func29 zr zr (.inl ⟨hn,rfl,rfl⟩)
 | true =>
  have hs:cM b k=some ((gC k.toNat b.length b).map cQ):=by unfold cM;rw[if_pos hr]
  have Ll:bO ⟨Dg.zero,b.length,k,Dg.zero⟩=((b.length:Int)+k-1)/k:=by unfold bO;rw[if_pos hr]
  have wI:=kZ hs
  simp only[bz,decide_eq_true_eq]at hr
  obtain⟨k,rfl⟩:∃m:Nat,k=m:=⟨k.toNat,ag⟩
  rw[Int.toNat_natCast]at hs wI
  have nV:=mX k (show 0<k by omega) b
  have hpg:=jF k (show 0<k by omega) b.length b
  rw[Ll,show((b.length:Int)+(k:Int)-1)/(k:Int)=(((gC k b.length b).length:Nat):Int)from by rw[nV,Int.natCast_ediv];congr 1;omega]
  rw[List.length_map]at wI
  obtain⟨ps,Qz⟩:∃ps,ps=gC k b.length b:=⟨_,rfl⟩
  rw[← Qz]at hs wI nV hpg ⊢
  refine go ?_
  refine aq zr zr ?_ ?_
  ·intro h;exfalso;omega
  intro _
  refine go ?_
  refine ai (bN 35 32 none _) ?_
  refine bB (fun y:Nat × Option Addr × Nat=>y.1≤ps.length) (fun y=>ps.length-y.1)
   (fun y=>[(0,.slice a b.length c),(1,.int .i64 (k:Int)),(6,.int .i64 (ps.length:Int)),(7,.slice y.2.1 ((ps.take y.1).map cQ).length y.2.2),(8,.int .i64 (y.1:Int))])
   (fun y=>aB 35 32 (.slice y.2.1 ((ps.take y.1).map cQ).length y.2.2) ((ps.take y.1).map cQ).length (((ps.take y.1).map cQ).flatMap dC)::A::F) (0,none,0) (Nat.zero_le _) rfl cg ah ?_
  rintro⟨i,oa,oc⟩ hi ih
  simp only at hi
  dsimp only
  have rF:((ps.take i).map cQ).length=i:=by rw[List.length_map,List.length_take];omega
  refine go ?_
  refine aq zr zr ?_ ?_
  ·intro de
   have gl:i<ps.length:=by omega
   obtain⟨p,hp⟩:∃p,ps[i]?=some p:=⟨ps[i],by simp⟩
   have Y7:=hpg i (Nat.le_refl _)
   rw[hp]at Y7
   have hik:i*k<b.length:=by
    rcases Nat.lt_or_ge (i*k) b.length with h|h
    ·exact h
    ·rw[if_neg ag]at Y7;cases Y7
   rw[if_pos hik]at Y7
   have Ta:p=(b.drop (i*k)).take k:=Option.some.inj Y7
   have yI:p.length=min k (b.length-i*k):=by rw[Ta,List.length_take,List.length_drop]
   have aeM:(i+1)*k=i*k+k:=by rw[Nat.add_mul,Nat.one_mul]
   have Jn:(i:Int)*(k:Int)=((i*k:Nat):Int):=(Int.natCast_mul i k).symm
   have Hz:((i:Int)+1)*(k:Int)=((i*k:Nat):Int)+k:=by rw[Int.add_mul,Int.one_mul,Jn]
   obtain⟨ik,adM⟩:∃ik,ik=i*k:=⟨_,rfl⟩
   rw[← adM]at hik Ta yI Jn Hz
   have Jo:=hv.piece ik (ik+p.length) ag ag
   rw[show ik+p.length-ik=p.length from by omega]at Jo
   have XA:(b.drop ik).take p.length=p:=by
    rw[yI,Ta,List.take_eq_take_iff,List.length_drop];omega
   rw[XA]at Jo
   have j8:(ps.take (i+1)).map cQ=(ps.take i).map cQ++[cQ p]:=by rw[List.take_add_one,hp];simp
   refine go ?_
   refine ib zr zr zr (by rw[Jn];simp only[gq];omega) ?_
   rw[Jn]
   refine go ?_
   refine ib zr zr zr (by rw[Hz];simp only[gq];omega) ?_
   rw[Hz]
   refine go ?_
   have K8:min (b.length:Int) (((ik:Nat):Int)+(k:Int))=((ik+p.length:Nat):Int):=by rw[yI];omega
   refine bh (p:=((ik:Nat):Int)) (q:=min (b.length:Int) (((ik:Nat):Int)+(k:Int))) zr zr zr zr zr zr zr ag ag (.inr ag) ?_
   ((refine au 33 ((.slice (sliceAt a c ik 1) p.length (c-ik))) rfl ((by rw[K8,Int.toNat_natCast,Int.toNat_natCast,show ik+p.length-ik=p.length from by omega];rfl)) ?_))
   refine aJ (FE A _ p Jo ag) ?_
   refine aj (cs:=dC (cQ p)) zr zr zr zr zr zr zr zr zr bD ?_
   intro row
   refine aR (mm:=1) (news:=dC (cQ p)) 2 0 zr zr zr zr zr zr zr zr zr zr zr zr (Vw.ae rfl) rfl (by rw[dG];exact cX _) (by rw[rF];omega) (by show(_+_)*32≤_;rw[rF];omega) (fun _=>rfl) bD ?_
   intro v1
   rw[show((ps.take i).map cQ).flatMap dC++dC (cQ p)=((ps.take (i+1)).map cQ).flatMap dC from by rw[j8];simp,show((ps.take i).map cQ).length+1=((ps.take (i+1)).map cQ).length from by rw[j8];simp]
   refine aO 2 rfl ?_
   rintro ja jc rfl
   refine go ?_
   refine aM ih (i+1,ja,jc) rfl (by simp only;omega) (by simp only;omega) cg ah
  ·intro fA
   have tl:i=ps.length:=by omega
   subst tl
   rw[List.take_length]
   refine go ?_
   refine ad hE Tryz.func29 zr zr (.inr ⟨_,_,hs,rfl,rfl⟩)
def zR(A:HP)(v:Value)(b:List UInt8)(hv:eM A v b)(hl:b.length≤900000000)(k:Int) :
  aE Tryz.prog 9 [v,.int .i64 k] [A] (fun r H=>r=(match eu b k with
   | none => .tuple #[eL Bl.zero,.int .i64 1]
   | some x => .tuple #[eL x,.int .i64 0])∧H=[A]):=by
 have o4:=hv
 obtain⟨a,c,rfl,hc⟩:=hv.2
 refine aE.ao Tryz.func9 Tryz.ntmps9 fun G F R hE=>?_
 refine aD rfl ?_
 refine az zr zr zr bD ?_
 intro b4
 refine go ?_
 refine aH (zG A _ b hv hl k) ?_
 rintro _ _ (⟨hn,rfl,rfl⟩|⟨ls,rv,hs,rfl,rfl⟩)
 ·have hb:eu b k=none:=by unfold eu;rw[hn];rfl
  rw[hb]at hE
  refine go ?_
  (refine aY hE ?_;apply aU (U:=aQ) hE Tryz.func9 rfl (al.refl _);(repeat(first|exact aN.nil|apply aN.tmp rfl|apply aN.agg 1 zr zr zr zr zr));exact⟨rfl,rfl⟩;exact ah)
 ·have hb:eu b k=some ⟨dK b,b.length,k,rO ls⟩:=by unfold eu;rw[hs];rfl
  rw[hb]at hE
  have wI:=kZ hs
  refine aO 0 rfl ?_
  rintro ra rc rfl
  refine go ?_
  refine aJ (JL A _ b hv ag) ?_
  refine go ?_
  refine aI (al.pick [1,0] rfl) ?_
  refine uw fun dE=>?_
  ((refine aH (PN _ _ ls (dE.mono (bg (i:=0) rfl)) ag (by intro e;rw[e]at wI;simp at wI)) ?_))
  rintro _ _⟨rfl,rfl⟩
  refine aI (al.cD _ _) (go ?_)
  (refine aY hE ?_;apply aU (U:=aQ) hE Tryz.func9 rfl (al.refl _);(repeat(first|exact aN.nil|apply aN.tmp rfl|apply aN.agg 2 zr zr zr zr zr));exact⟨rfl,rfl⟩;exact ah)
attribute [local irreducible] aC
def ph{A:Ab}(h:J0 A)(nm:ByteArray):((fm A nm).getD []).length≤1048576:=by
 unfold fm
 cases A.look nm with
 | none=>simp
 | some f =>
  cases A.off with
  | true=>simp
  | false=>simpa using h.now f
def Ay(X:HP)(hK:oG X)(bs bd:Nat)(q:Int)(mb:Nat)(brk:Bool)(A:Ab)(d:Dg):aE Tryz.prog 71 [ptr bs,dV d] [ae bs (cl (ei bd q mb brk) 123),aC bd A,X]
  (fun r H=>r = .bool (ju A d)∧H=[ae bs (cl (ei bd q mb brk) 123),aC bd A,X]):=by
 have hf:=mw kB d (by decide)
 have iC := @ph A
 unfold dV at hf ⊢
 refine aE.ao Tryz.func71 Tryz.ntmps71 fun G F R hE=>?_
 refine aD rfl ?_
 refine bG zr zr bD ?_
 intro b3
 refine JS (bd:=bd) (A:=A) 2 rfl ?_
 intro Hw
 refine go ?_
 refine aG (U:=aQ) (l:=dC d) 0 zr zr zr zr zr zr ?_
 refine aJ hf ?_
 refine aH (vq bs bd q mb brk A (df kB d)) ?_
 rintro _ _⟨rv,rfl,rfl⟩
 have hw:ju A d=match fm A (df kB d)with|none=>false|some b=>decide (dK b=d):=rfl
 have iC:=ph Hw (df kB d)
 cases hb:fm A (df kB d)with
 | none =>
  rw[hb]at hw
  rw[hw]at hE
  refine go ?_
  refine aF (fun w=>Sat G w ([])) (cZ 0 3 (.st 4 (.act 3 (cZ 5 3 .nil)))) rfl ak ak ak dT ?_
  refine go ?_
  refine ad hE Tryz.func71 zr zr ⟨rfl,rfl⟩
 | some b =>
  rw[hb]at hw iC
  rw[hw]at hE
  simp only[Option.getD_some,Option.isSome_some]at iC ⊢
  refine gQ (bs:=b) 0 rfl ?_
  intro Jp
  refine aI (al.trans (al.pick [0,4] rfl) (al.bS [aB 5 1 rv b.length (bV b),X] _)) ?_
  have o5:=xo _ (hK.mono (bg (H:=[aB 5 1 rv b.length (bV b),X]) (i:=1) rfl)) rv b (Jp.mono (bg (i:=0) rfl)) ag
  unfold dV at o5
  refine go ?_
  refine aF (fun w=>Sat G w ([ae b3 (cl (dC d) 35)])) (cZ 0 3 (.st 4 (.act 3 (cZ 5 3 .nil)))) rfl ak ak ak dT ?_
  refine go ?_
  refine bQ (U:=aQ) (l:=dC d) 0 zr zr zr zr zr zr (go ?_)
  refine bo o5 ?_
  refine go ?_
  refine kT (b:=decide (dK b=d)) zr zr zr HF (fun w=>HO (dK b) d w) ?_
  refine go ?_
  refine ai (al.cD _ _) ?_
  refine ad hE Tryz.func71 zr zr ⟨rfl,rfl⟩
def Is(bs bd:Nat)(q:Int)(mb:Nat)(brk:Bool)(A:Ab)(d:Dg):aE Tryz.prog 124 [ptr bs,dV d] [ae bs (cl (ei bd q mb brk) 123),aC bd A]
  (fun r H=>∃rv,r = .tuple #[I7 rv,.bool (nq A d).isSome]∧H=[aB 37 66 rv ((nq A d).getD []).length (((nq A d).getD []).flatMap bH),ae bs (cl (ei bd q mb brk) 123),aC bd A]):=by
 have hf:=mw kI d (by decide)
 unfold dV at hf ⊢
 refine aE.ao Tryz.func124 Tryz.ntmps124 fun G F R hE=>?_
 refine aD rfl ?_
 refine bG zr zr bD ?_
 intro b3
 refine az zr zr zr bD ?_
 intro b4
 refine JS (bd:=bd) (A:=A) 3 rfl ?_
 intro Hw
 refine go ?_
 refine aG (U:=aQ) (l:=dC d) 1 zr zr zr zr zr zr ?_
 refine aJ hf ?_
 refine aH (vq bs bd q mb brk A (df kI d)) ?_
 rintro _ _⟨rv,rfl,rfl⟩
 have hw:nq A d=(fm A (df kI d)).bind zh:=rfl
 have iC:=ph Hw (df kI d)
 cases hb:fm A (df kI d)with
 | none =>
  rw[hb]at hw
  rw[hw]at hE
  refine go ?_
  refine ai (bN 37 66 none _) ?_
  (refine aY hE ?_;apply aU (U:=aQ) hE Tryz.func124 rfl (al.refl _);(repeat(first|exact aN.nil|apply aN.tmp rfl|apply aN.agg 4 zr zr zr zr zr));exact⟨_,rfl,rfl⟩;exact ah)
 | some b =>
  rw[hb]at hw iC
  simp only[Option.getD_some,Option.isSome_some,Option.bind_some]at iC hw ⊢
  rw[hw]at hE
  refine gQ (bs:=b) 0 rfl ?_
  intro Jp
  refine go ?_
  refine aH (Ep _ rv b Jp ag) ?_
  rintro _ _ (⟨hn,⟨e,he,rfl⟩,rfl⟩|⟨l,lv,hs,rfl,rfl⟩)
  ·rw[hn]at hE
   unfold I7
   refine go ?_
   refine az zr zr zr bD ?_
   intro b8
   refine go ?_
   refine aG (U:=aQ) (l:=[.slice none 0 0]) 0 zr zr zr zr zr zr (go ?_)
   refine au 27 ((.bool false)) rfl ((congrArg Value.bool (decide_eq_false he))) (go ?_)
   (refine aT ?_;(refine cq 4 gB zr zr zr zr zr zr zr zr zr ?_))
   refine go ?_
   refine ai (bN 37 66 none _) ?_
   (refine aY hE ?_;apply aU (U:=aQ) hE Tryz.func124 rfl (al.refl _);(repeat(first|exact aN.nil|apply aN.tmp rfl|apply aN.agg 5 zr zr zr zr zr));exact⟨_,rfl,rfl⟩;exact ah)
  ·rw[hs]at hE
   unfold I7
   refine aO 0 rfl ?_
   rintro la lc rfl
   refine go ?_
   refine az zr zr zr bD ?_
   intro b8
   refine go ?_
   refine aG (U:=aQ) (l:=[.slice la l.length lc]) 0 zr zr zr zr zr zr (go ?_)
   (refine aT ?_;(refine cq 5 gB zr zr zr zr zr zr zr zr zr ?_))
   refine go ?_
   (refine aY hE ?_;apply aU (U:=aQ) hE Tryz.func124 rfl (al.refl _);(repeat(first|exact aN.nil|apply aN.tmp rfl|apply aN.agg 5 zr zr zr zr zr));exact⟨_,rfl,rfl⟩;exact ah)
def HU(X:HP)(hK:oG X)(b2 bs bd:Nat)(q:Int)(mb:Nat)(brk:Bool)(A:Ab)(y:Bl) :
  aE Tryz.prog 126 [eL y,ptr b2] [Sep [ae b2 (cl [ptr bs] 29),ae bs (cl (ei bd q mb brk) 123),aC bd A,X] ]
  (fun r H=>r = .bool (!ju A y.d)∧H=[Sep [ae b2 (cl [ptr bs] 29),ae bs (cl (ei bd q mb brk) 123),aC bd A,X] ]):=by
 have hw:=Ay X hK bs bd q mb brk A y.d
 unfold dV at hw
 unfold eL
 refine aE.ao Tryz.func126 Tryz.ntmps126 fun G F R hE=>?_
 refine aD rfl ?_
 refine bG zr zr bD ?_
 intro b0
 refine aI (al.trans (al.pick [1] rfl) (al.cD [_,_,_,_] _)) (go ?_)
 refine dH 4 zr zr zr zr zr zr ?_
 refine aJ hw ?_
 refine go ?_
 refine ai (al.trans (al.pick [3,0,1,2] rfl) (al.bS [_,_,_,_] _)) ?_
 refine ad hE Tryz.func126 zr zr ⟨rfl,rfl⟩
def zk{A:Ab}{d:Dg}(h:nq A d=none):gg A d=false:=by unfold gg;rw[h]
def zj{A:Ab}{d:Dg}{l:List Bl}(h:nq A d=some l):gg A d=(decide (yo l=d) && !l.any fun y => !ju A y.d):=by
 unfold gg;rw[h]
 simp only
 congr 1
 rw[List.not_any_eq_all_not]
 simp
def KZ{A:Ab}{d:Dg}{l:List Bl}(h:nq A d=some l):gX l=0:=by
 unfold nq at h
 obtain⟨b,_,hb⟩:=Option.bind_eq_some_iff.1 h
 exact HR hb
def CE(X:HP)(hK:oG X)(bs bd:Nat)(q:Int)(mb:Nat)(brk:Bool)(A:Ab)(d:Dg):aE Tryz.prog 74 [ptr bs,dV d] [ae bs (cl (ei bd q mb brk) 123),aC bd A,X]
  (fun r H=>r = .bool (gg A d)∧H=[ae bs (cl (ei bd q mb brk) 123),aC bd A,X]):=by
 have hi:=Is bs bd q mb brk A d
 unfold dV at hi ⊢
 refine aE.ao Tryz.func74 Tryz.ntmps74 fun G F R hE=>?_
 refine aD rfl ?_
 refine bG zr zr bD ?_
 intro b2
 refine bG zr zr bD ?_
 intro b3
 refine go ?_
 refine aG (U:=aQ) (l:=dC d) 0 zr zr zr zr zr zr ?_
 refine aH hi ?_
 rintro _ _⟨rv,rfl,rfl⟩
 unfold I7
 refine aO 0 rfl ?_
 rintro ra rc rfl
 refine go ?_
 refine az zr zr zr bD ?_
 intro b5
 refine go ?_
 cases RL:nq A d with
 | none =>
  rw[zk RL]at hE
  simp only[Option.getD_none,Option.isSome_none]
  have lD:=FD X hK (.slice ra 0 rc) [] (Vw.nil X ra rc) (by simp)
  unfold I7 at lD
  rw[if_neg (by decide)]at lD
  refine aG (U:=aQ) (l:=[.slice ra 0 rc]) 0 zr zr zr zr zr zr ?_
  refine aJ lD ?_
  unfold dV
  refine go ?_
  refine az zr zr zr bD ?_
  intro b7
  refine go ?_
  refine ad hE Tryz.func74 zr zr ⟨rfl,rfl⟩
 | some l =>
  have kC:=KZ RL
  have hlr:=oZ kC
  rw[zj RL]at hE
  simp only[Option.getD_some,Option.isSome_some]
  refine SC 1 rfl ?_
  intro dE jz
  refine aI (H':=Sep [aB 37 66 (.slice ra l.length rc) l.length (l.flatMap bH),X]::ae b5 (cl [.slice ra l.length rc] 174)::ae bs (cl (ei bd q mb brk) 123)::aC bd A::ae b3 (cl (dC d) 35)::ae b2 (cl [ptr bs] 29)::F) (al.trans (H2:=aB 37 66 (.slice ra l.length rc) l.length (l.flatMap bH)::X::ae b5 (cl [.slice ra l.length rc] 174)::ae bs (cl (ei bd q mb brk) 123)::aC bd A::ae b3 (cl (dC d) 35)::ae b2 (cl [ptr bs] 29)::F) ah (al.bS [_,_] _)) ?_
  have lD:=FD _ (hK.mono (bg (H:=[aB 37 66 (.slice ra l.length rc) l.length (l.flatMap bH),X]) (i:=1) rfl)) _ l (dE.mono (bg (i:=0) rfl)) ag
  unfold I7 at lD
  rw[if_pos kC]at lD
  refine aG (U:=aQ) (l:=[.slice ra l.length rc]) 1 zr zr zr zr zr zr ?_
  refine aJ lD ?_
  unfold dV
  refine go ?_
  refine az zr zr zr bD ?_
  intro b7
  refine go ?_
  refine aG (U:=aQ) (l:=dC (yo l)) 0 zr zr zr zr zr zr (go ?_)
  refine aG (U:=aQ) (l:=dC d) 5 zr zr zr zr zr zr (go ?_)
  refine kT (b:=decide (yo l=d)) zr zr zr HF (fun w=>HO (yo l) d w) ?_
  by_cases kj:yo l=d
  ·rw[decide_eq_true kj]at hE ⊢
   rw[Bool.true_and]at hE
   refine go ?_
   refine aI (H':=aB 37 66 (.slice ra l.length rc) l.length (l.flatMap bH)::Sep [ae b2 (cl [ptr bs] 29),ae bs (cl (ei bd q mb brk) 123),aC bd A,X]::F) (al.trans (al.trans (al.pick [1] rfl) (al.cD [_,_] _)) (al.trans (H2:=ae b2 (cl [ptr bs] 29)::ae bs (cl (ei bd q mb brk) 123)::aC bd A::X::aB 37 66 (.slice ra l.length rc) l.length (l.flatMap bH)::F) ah (al.trans (al.bS [_,_,_,_] _) ah))) ?_
   refine aJ (pH _ (Sep [ae b2 (cl [ptr bs] 29),ae bs (cl (ei bd q mb brk) 123),aC bd A,X]) _ l dE ag 126 [ptr b2] (fun y => !ju A y.d) (fun y _=>HU X hK b2 bs bd q mb brk A y)) ?_
   refine go ?_
   refine ai (al.trans (al.pick [1] rfl) (al.cD [_,_,_,_] _)) ?_
   refine ad hE Tryz.func74 zr zr ⟨rfl,rfl⟩
  ·rw[decide_eq_false kj]at hE ⊢
   rw[Bool.false_and]at hE
   refine go ?_
   refine ai (al.trans (al.pick [1] rfl) (al.cD [_,_] _)) ?_
   refine ad hE Tryz.func74 zr zr ⟨rfl,rfl⟩
def C1(g:FuncId)(fi:List Value)(Y:Ab→HP)(right:Ab→Dg→Bool):Prop:=∀(A:Ab) (d:Dg),aE Tryz.prog g (fi++[dV d]) [Y A] (fun r H=>r = .bool (right A d)∧H=[Y A])
end Go.Proofs.YtedjnjkijiddlaaGreatDoor
namespace Go.Proofs.YtedjnjkijiddlaaGreatDoor
open Go Go.SL
attribute [local irreducible] J K aE Ends ae aB aP bP bq aS aZ bu bX
def Fx{σ:Type}(I:σ→HP)(V:HP)(v:Value)(lp:List Value)(hv:Vw V v lp.length lp)(hn:lp.length≤1000000000)(ss:List (σ→Nat→σ→Prop))(hlen:ss.length=lp.length)(Q:Nat→σ→Prop)(cK:∀(i:Nat) (fv:Value) (s:σ→Nat→σ→Prop),lp[i]?=some fv→ss[i]?=some s→∃g fi cap,fv = .func (.func g) fi cap∧∀x,Q i x→aE Tryz.prog g (fi.toList++cap.toList) [I x] (fun r H=>∃(e:Nat) (x':σ),r = .int .i64 (e:Int)∧H=[I x']∧s x e x'∧(e=0→Q (i+1) x')))(x0:σ)(hQ:Q 0 x0) :
  aE Tryz.prog 68 [v] [V,I x0] (fun r H=>∃(e:Nat) (x':σ),r = .int .i64 (e:Int)∧H=[V,I x']∧iZ ss x0 e x'∧(e=0→Q lp.length x')):=by
 obtain⟨a,c,rfl⟩:=hv.shape
 refine aE.ao Tryz.func68 Tryz.ntmps68 fun G F R hE=>?_
 refine go ?_
 refine bB (fun y:Nat × σ=>y.1≤lp.length∧Q y.1 y.2∧∀e x',iZ (ss.drop y.1) y.2 e x'→iZ ss x0 e x') (fun y=>lp.length-y.1)
  (fun y=>[(0,.slice a lp.length c),(6,.slice a lp.length c),(7,.int .i64 (lp.length:Int)),(8,.int .i64 (y.1:Int))])
  (fun y=>V::I y.2::F) (0,x0) ⟨Nat.zero_le _,hQ,fun _ _ h=>h⟩ rfl cg ah ?_
 rintro⟨i,x⟩⟨hi,hq,hr⟩ ih
 simp only at hi hq hr
 refine go ?_
 refine aq zr zr ?_ ?_
 ·intro de
  simp only at de
  have lx:i<lp.length:=by omega
  obtain⟨fv,mS⟩:∃fv,lp[i]?=some fv:=⟨lp[i],List.getElem?_eq_getElem lx⟩
  obtain⟨s,hs⟩:∃s,ss[i]?=some s:=⟨ss[i],List.getElem?_eq_getElem ag⟩
  obtain⟨g,fi,cap,rfl,hc⟩:=cK i fv s mS hs
  have mj:ss.drop i=s::ss.drop (i+1):=by
   rw[List.drop_eq_getElem_cons ag]
   congr 1
   have:=List.getElem?_eq_some_iff.1 hs
   exact this.2
  obtain⟨b0,o0,c0,pG⟩:=hv.some (by intro h;rw[h]at lx;simp at lx)
  simp only[Value.slice.injEq]at pG
  obtain⟨rfl,-,rfl⟩:=pG
  refine go ?_
  refine bM i zr zr zr zr zr zr zr zr lx ?_
  refine bj 0 i zr zr zr hv rfl mS zr zr (go ?_)
  refine uC zr zr zr (by simp) (hc x hq) ah ?_ mM
  rintro _ _⟨e,x',rfl,rfl,K1,Qy⟩
  refine go ?_
  refine aq zr zr ?_ ?_
  ·intro bY
   have he:e≠0:=by omega
   refine go ?_
   ((refine ad hE Tryz.func68 zr zr ⟨e,x',rfl,rfl,hr e x' (by rw[mj];exact⟨e,x',K1,.inl ⟨he,rfl,rfl⟩⟩),fun h=>absurd h he⟩))
  ·intro heq
   have he:e=0:=by omega
   refine go ?_
   refine aM ih (i+1,x') rfl (⟨by simp only;omega,Qy he,fun e2 x2 h2=>hr e2 x2 (by rw[mj];exact⟨e,x',K1,.inr ⟨he,h2⟩⟩)⟩) (by simp only;omega) cg ah
 ·intro fA
  simp only at fA
  have gl:i=lp.length:=by omega
  subst gl
  refine go ?_
  ((refine ad hE Tryz.func68 zr zr ⟨0,x,rfl,rfl,hr 0 x (by rw[List.drop_eq_nil_of_le ag];exact⟨rfl,rfl⟩),fun _=>hq⟩))
attribute [local irreducible] Sha.chunks Sha.chunk Sha.rounds Sha.sched dK cm GI cQ
def ur(bd:Nat)(A:Ab):aE Tryz.prog 66 [ptr bd] [aC bd A] (fun r H=>H=[aB 9 1 r (fY A).length ((fY A).map Value.string),aC bd A]):=by
 have hl:(fY A).length=(eg A).length:=by unfold fY;rw[List.length_map,uV]
 have hm:(fY A).map Value.string=nS (pY (eg A)):=by unfold fY nS;rw[List.map_map];rfl
 rw[hl,hm]
 exact iM (Post:=fun v H=>∃D,Rel D A∧H=[aB 9 1 v (eg A).length (nS (pY (eg A))),hJ bd D]) ak (fun D hR=>(Mb bd D A hR).post (fun v H h=>⟨D,hR,h⟩)) (by rintro v H⟨D',hR,rfl⟩;exact⟨_,rfl,al.cons _ (hG hR [])⟩)
attribute [local irreducible] aC
def sJ{A:Ab}(h:J0 A):(fY A).length≤200:=by
 unfold fY eg
 rw[List.length_map,uV,List.length_map]
 exact h.fE _ (List.mem_cons_self ..)
def nC(bs bd:Nat)(q:Int)(mb:Nat)(brk:Bool)(X:HP)(A:Ab):HP:=Sep [ae bs (cl (ei bd q mb brk) 123),aC bd A,X]
def nv{A B:Ab}{nm:ByteArray}{e:Nat}(h:jg nm A e B):j0 A B:=by
 have:=qs A (isName nm) nm
 rw[← h]at this
 exact this
def uY(bs bd:Nat)(q:Int)(mb:Nat)(brk:Bool)(X:HP)(kind:List UInt8)(hk:kind.length≤1000)(g:FuncId)(fi:List Value)(right:Ab→Dg→Bool)(hr:C1 g fi (nC bs bd q mb brk X) right)(A:Ab)(cK:A.aw.length≤900000000) :
  aE Tryz.prog 70 [ptr bs,.string (strOf kind),.func (.func g) fi.toArray #[] ] [nC bs bd q mb brk X A]
  (fun r H=>∃(e:Nat) (B:Ab),r = .int .i64 (e:Int)∧H=[nC bs bd q mb brk X B]∧eH kind right A e B∧B.aw.length≤A.aw.length+200):=by
 refine aE.ao Tryz.func70 Tryz.ntmps70 fun G F R hE=>?_
 refine ai (al.cD [_,_,_] _) ?_
 refine uu (bd:=bd) (A:=A) 1 rfl ?_
 intro Hw
 have OP:=sJ Hw
 obtain⟨l,hl⟩:∃l,l=fY A:=⟨_,rfl⟩
 have hsd:∀e B,mF kind right l A e B→eH kind right A e B:=fun e B h=>by unfold eH;rw[← hl];exact h
 refine go ?_
 have lD:=ur bd A
 rw[← hl]at lD OP
 refine aH lD ?_
 rintro r _ rfl
 refine aO 0 rfl ?_
 rintro ra rc rfl
 refine iy 0 rfl ?_
 intro dE
 refine go ?_
 refine bB (fun y:Nat × Ab=>y.1≤l.length∧y.2.aw.length≤A.aw.length+y.1∧∀e B,mF kind right (l.drop y.1) y.2 e B→eH kind right A e B) (fun y=>l.length-y.1)
  (fun y=>[(0,ptr bs),(1,.string (strOf kind)),(2,.func (.func g) fi.toArray #[]),(16,.slice ra l.length rc),(17,.int .i64 (l.length:Int)),(18,.int .i64 (y.1:Int))])
  (fun y=>aB 9 1 (.slice ra l.length rc) l.length (l.map Value.string)::ae bs (cl (ei bd q mb brk) 123)::aC bd y.2::X::F) (0,A) ⟨Nat.zero_le _,by simp,hsd⟩ rfl cg ah ?_
 rintro⟨i,B⟩⟨hi,O5,Qs⟩ ih
 simp only at hi O5 Qs
 dsimp only
 refine go ?_
 refine aq zr zr ?_ ?_
 ·intro de
  have gl:i<l.length:=by omega
  obtain⟨nm,hx⟩:∃x,l[i]?=some x:=⟨l[i],by simp⟩
  have mj:l.drop i=nm::l.drop (i+1):=by
   rw[List.drop_eq_getElem_cons gl]
   congr 1
   exact(List.getElem?_eq_some_iff.1 hx).2
  rw[mj]at Qs
  have dF:(l.map Value.string)[i]?=some (.string nm):=by rw[List.getElem?_map,hx];rfl
  obtain⟨b,o,gM,gk⟩:=dE.some (by intro h;rw[h]at dF;simp at dF)
  simp only[Value.slice.injEq]at gk
  obtain⟨rfl,_,rfl⟩:=gk
  refine go ?_
  refine cL i 1 zr zr zr zr zr zr zr zr gl ?_
  refine aK ?_
  refine bj 0 (i*1) zr zr zr dE rfl (by rw[Nat.mul_one];exact dF) zr zr ?_
  refine go ?_
  refine aJ (E0 kind nm hk) ?_
  cases hh:jJ kind nm with
  | none =>
   have K2:∀e B',mF kind right (l.drop (i+1)) B e B'→eH kind right A e B':=fun e B' h=>Qs e B' (by unfold mF;rw[hh];exact h)
   simp only[E1]
   unfold dV
   refine go ?_
   refine az zr zr zr bD ?_
   intro b9
   refine go ?_
   refine aM ih (i+1,B) rfl ⟨by simp only;omega,by simp only;omega,K2⟩ (by simp only;omega) cg ah
  | some d =>
   have OG:=hr B d
   simp only[E1]
   unfold dV
   refine go ?_
   refine az zr zr zr bD ?_
   intro b9
   refine go ?_
   refine aG (U:=aQ) (l:=dC d) 0 zr zr zr zr zr zr (go ?_)
   refine aI (al.trans (al.pick [2,3,4] rfl) (al.bS [ae bs (cl (ei bd q mb brk) 123),aC bd B,X] _)) ?_
   refine uC zr zr zr (by simp;rfl) OG ah ?_ mM
   rintro _ _⟨rfl,rfl⟩
   refine aI (al.cD [ae bs (cl (ei bd q mb brk) 123),aC bd B,X] _) ?_
   cases Qw:right B d with
   | true =>
    have K2:∀e B',mF kind right (l.drop (i+1)) B e B'→eH kind right A e B':=fun e B' h=>Qs e B' (by unfold mF;rw[hh];simp only;rw[if_pos Qw];exact h)
    refine go ?_
    refine aM ih (i+1,B) rfl ⟨by simp only;omega,by simp only;omega,K2⟩ (by simp only;omega) cg ah
   | false =>
    have abc:=vx bd B nm ag
    obtain⟨e1,B1,Qx⟩:∃e1 B1,B.remove (isName nm) nm=(e1,B1):=⟨_,_,rfl⟩
    rw[Qx]at abc
    have Zg:=nv (A:=B) (B:=B1) (nm:=nm) (e:=e1) Qx.symm
    have K2:∀e B',((e1≠0∧e=e1∧B'=B1)∨(e1=0∧mF kind right (l.drop (i+1)) B1 e B'))→eH kind right A e B':=fun e B' h=>Qs e B' (by unfold mF;rw[hh];simp only;rw[if_neg (by rw[Qw];simp)];exact⟨e1,B1,Qx.symm,h⟩)
    have Ak:=Zg.1
    refine go ?_
    refine aJ abc ?_
    refine go ?_
    refine aq zr zr ?_ ?_
    ·intro bY
     have fT:e1≠0:=by simp only at bY;omega
     refine go ?_
     refine ai (H':=nC bs bd q mb brk X B1::F) (al.trans (H2:=ae bs (cl (ei bd q mb brk) 123)::aC bd B1::X::F) ah (al.bS [ae bs (cl (ei bd q mb brk) 123),aC bd B1,X] _)) ?_
     refine ad hE Tryz.func70 zr zr ⟨e1,B1,rfl,rfl,K2 e1 B1 (.inl ⟨fT,rfl,rfl⟩),ag⟩
    ·intro heq
     have o6:e1=0:=by simp only at heq;omega
     refine go ?_
     refine aM ih (i+1,B1) rfl ⟨by simp only;omega,by simp only;omega,fun e B' h=>K2 e B' (.inr ⟨o6,h⟩)⟩ (by simp only;omega) cg ah
 ·intro fA
  have tl:i=l.length:=by omega
  rw[tl,List.drop_length]at Qs
  refine go ?_
  refine ai (H':=nC bs bd q mb brk X B::F) (al.trans (H2:=ae bs (cl (ei bd q mb brk) 123)::aC bd B::X::F) ah (al.bS [ae bs (cl (ei bd q mb brk) 123),aC bd B,X] _)) ?_
  ((refine ad hE Tryz.func70 zr zr ⟨0,B,rfl,rfl,Qs 0 B (by unfold mF;exact⟨rfl,rfl⟩),ag⟩))
def Jz{P:Program}{f:FuncId}{args:List Value}{l:List HP}{p:Value→Prop}(h:aE P f args l (fun r H=>p r∧H=l)):aE P f args [Sep l] (fun r H=>p r∧H=[Sep l]) :=
 h.conv (by have:=al.cD l [];rwa[List.append_nil]at this) (by intro v H hh;obtain⟨hp,hH⟩:=hh;exact⟨[Sep l],⟨hp,rfl⟩,by rw[hH];have:=al.bS l [];rwa[List.append_nil]at this⟩)
def GL(X:HP)(hK:oG X)(bs bd:Nat)(q:Int)(mb:Nat)(brk:Bool):C1 71 [ptr bs] (nC bs bd q mb brk X) ju:=fun A d=>Jz (p:=fun r=>r = .bool (ju A d)) (Ay X hK bs bd q mb brk A d)
def z6(X:HP)(hK:oG X)(bs bd:Nat)(q:Int)(mb:Nat)(brk:Bool):C1 74 [ptr bs] (nC bs bd q mb brk X) gg:=fun A d=>Jz (p:=fun r=>r = .bool (gg A d)) (CE X hK bs bd q mb brk A d)
def GM(Y:Ab→HP):C1 67 [] Y (fun _ _=>false):=fun A d=>by
 show aE Tryz.prog 67 [dV d] [Y A] _
 unfold dV
 refine aE.ao Tryz.func67 Tryz.ntmps67 fun G F R hE=>?_
 refine aD rfl ?_
 refine bG zr zr bD ?_
 intro b1
 refine go ?_
 refine ad hE Tryz.func67 zr zr ⟨rfl,rfl⟩
def NV(bs bd b6 b8:Nat)(q:Int)(mb:Nat)(X:HP)(A:Ab):HP:=Sep [nC bs bd q mb false X A,ae b6 (cl [ptr bs] 29),ae b8 (cl [.func (.func 67) #[] #[] ] 120)]
def KI(X:HP)(hK:oG X)(bs bd b6 b8:Nat)(q:Int)(mb:Nat)(A:Ab)(cK:A.aw.length≤900000000):aE Tryz.prog 69 [ptr b6] [NV bs bd b6 b8 q mb X A]
  (fun r H=>∃(e:Nat) (B:Ab),r = .int .i64 (e:Int)∧H=[NV bs bd b6 b8 q mb X B]∧eH kB ju A e B∧B.aw.length≤A.aw.length+200):=by
 refine aE.ao Tryz.func69 Tryz.ntmps69 fun G F R hE=>?_
 refine ai (al.cD [_,_,_] _) (go ?_)
 refine aH (uY bs bd q mb false X kB (by decide) _ [ptr bs] ju (GL X hK bs bd q mb false) A cK) ?_
 rintro _ _⟨e,B,rfl,rfl,h1,h2⟩
 refine go ?_
 refine ai (al.bS [nC bs bd q mb false X B,_,_] _) ?_
 refine ad hE Tryz.func69 zr zr ⟨e,B,rfl,rfl,h1,h2⟩
def KH(X:HP)(bs bd b6 b8:Nat)(q:Int)(mb:Nat)(A:Ab)(cK:A.aw.length≤900000000):aE Tryz.prog 72 [ptr b6,ptr b8] [NV bs bd b6 b8 q mb X A]
  (fun r H=>∃(e:Nat) (B:Ab),r = .int .i64 (e:Int)∧H=[NV bs bd b6 b8 q mb X B]∧eH kN (fun _ _=>false) A e B∧B.aw.length≤A.aw.length+200):=by
 refine aE.ao Tryz.func72 Tryz.ntmps72 fun G F R hE=>?_
 refine ai (al.cD [_,_,_] _) (go ?_)
 refine aH (uY bs bd q mb false X kN (by decide) _ [] (fun _ _=>false) (GM _) A cK) ?_
 rintro _ _⟨e,B,rfl,rfl,h1,h2⟩
 refine go ?_
 refine ai (al.bS [nC bs bd q mb false X B,_,_] _) ?_
 refine ad hE Tryz.func72 zr zr ⟨e,B,rfl,rfl,h1,h2⟩
def KG(X:HP)(hK:oG X)(bs bd b6 b8:Nat)(q:Int)(mb:Nat)(A:Ab)(cK:A.aw.length≤900000000):aE Tryz.prog 73 [ptr b6] [NV bs bd b6 b8 q mb X A]
  (fun r H=>∃(e:Nat) (B:Ab),r = .int .i64 (e:Int)∧H=[NV bs bd b6 b8 q mb X B]∧eH kI gg A e B∧B.aw.length≤A.aw.length+200):=by
 refine aE.ao Tryz.func73 Tryz.ntmps73 fun G F R hE=>?_
 refine ai (al.cD [_,_,_] _) (go ?_)
 refine aH (uY bs bd q mb false X kI (by decide) _ [ptr bs] gg (z6 X hK bs bd q mb false) A cK) ?_
 rintro _ _⟨e,B,rfl,rfl,h1,h2⟩
 refine go ?_
 refine ai (al.bS [nC bs bd q mb false X B,_,_] _) ?_
 refine ad hE Tryz.func73 zr zr ⟨e,B,rfl,rfl,h1,h2⟩
def dD(l:List (Dg × Bl)):List (Dg × Value):=l.map fun x=>(x.1,eL x.2)
def jT(A:Ab):(fY A).length=A.names.length:=by unfold fY eg;rw[List.length_map,uV,List.length_map]
def L9(X:HP)(hK:oG X)(bd:Nat)(q:Int)(A:Ab)(cK:A.aw.length≤800000000):aE Tryz.prog 27 [ptr bd,.int .i64 q] [aC bd A,X]
  (fun r H=>((q<1∨1073741824<q)∧r = .tuple #[.pointer none,.int .i64 1]∧H=[aC bd A,X])∨(¬(q<1∨1073741824<q)∧A.off=true∧r = .tuple #[.pointer none,.int .i64 7]∧H=[aC bd A,X]) ∨
   (¬(q<1∨1073741824<q)∧A.off=false∧∃(e:Nat) (B:Ab),qC A e B∧((e≠0∧r = .tuple #[.pointer none,.int .i64 (e:Int)]∧H=[aC bd B,X]) ∨
    (e=0∧B.aw.length≤A.aw.length+601∧∃bs mb,r = .tuple #[ptr bs,.int .i64 0]∧H=[ae bs (cl (ei bd q mb false) 123),aP dV mb (dD []),aC bd B,X])))):=by
 refine aE.ao Tryz.func27 Tryz.ntmps27 fun G F R hE=>?_
 refine uu (bd:=bd) (A:=A) 0 rfl ?_
 intro Hw
 repeat'(first|(with_reducible intro pM)|refine gy ?_|refine ie zr zr zr zr ?_ ?_|refine aq zr zr ?_ ?_|(refine aH (PX bd A) ?_;rintro _ _⟨rfl,rfl⟩))
 ·refine ad hE Tryz.func27 zr zr (.inl ⟨.inl ag,rfl,rfl⟩)
 ·refine ad hE Tryz.func27 zr zr (.inl ⟨.inr ag,rfl,rfl⟩)
 have hq:¬(q<1∨1073741824<q):=by omega
 cases jV:A.off with
 | true =>
  refine go ?_
  refine ad hE Tryz.func27 zr zr (.inr (.inl ⟨hq,jV,rfl,rfl⟩))
 | false =>
  rw[jV]at hE
  refine go ?_
  refine oy rfl bD ?_
  intro mb
  refine aI (al.fold (B:=[_]) (A:=aP dV mb (dD [])) (fun h hs=>⟨h,sub.refl h,qe dV mb h (eU hs)⟩)) ?_
  refine go ?_
  refine bG zr zr bD ?_
  intro bs
  refine az zr zr zr bD ?_
  intro b6
  refine go ?_
  refine aH (ur bd A) ?_
  rintro r _ rfl
  refine aO 0 rfl ?_
  rintro ra rc rfl
  refine go ?_
  refine az zr zr zr bD ?_
  intro b8
  refine go ?_
  refine aj (cs:=[.func (.func 69) #[] #[ptr b6],.func (.func 72) #[] #[ptr b6,ptr b8],.func (.func 73) #[] #[ptr b6] ]) zr zr zr zr zr zr zr zr zr bD ?_
  intro row
  refine aI (H':=ae row (cl [.func (.func 69) #[] #[ptr b6],.func (.func 72) #[] #[ptr b6,ptr b8],.func (.func 73) #[] #[ptr b6] ] 96)::NV bs bd b6 b8 q mb X A::aP dV mb (dD [])::F) (al.trans (H2:=ae bs (cl (ei bd q mb false) 123)::aC bd A::X::ae b6 (cl [ptr bs] 29)::ae b8 (cl [.func (.func 67) #[] #[] ] 120)::ae row (cl [.func (.func 69) #[] #[ptr b6],.func (.func 72) #[] #[ptr b6,ptr b8],.func (.func 73) #[] #[ptr b6] ] 96)::aP dV mb (dD [])::F) ah (al.trans (al.bS [ae bs (cl (ei bd q mb false) 123),aC bd A,X] _) (al.trans (al.bS [nC bs bd q mb false X A,ae b6 (cl [ptr bs] 29),ae b8 (cl [.func (.func 67) #[] #[] ] 120)] _) ah))) ?_
  have vd:∀(i:Nat) (fv:Value) (sp:Ab→Nat→Ab→Prop),[.func (.func 69) #[] #[ptr b6],.func (.func 72) #[] #[ptr b6,ptr b8],.func (.func 73) #[] #[ptr b6] ][i]?=some fv→[eH kB ju,eH kN (fun _ _=>false),eH kI gg][i]?=some sp→∃g fi cap,fv = .func (.func g) fi cap∧∀x:Ab,x.aw.length≤A.aw.length+200*i→aE Tryz.prog g (fi.toList++cap.toList) [NV bs bd b6 b8 q mb X x] (fun r H=>∃(e:Nat) (x':Ab),r = .int .i64 (e:Int)∧H=[NV bs bd b6 b8 q mb X x']∧sp x e x'∧(e=0→x'.aw.length≤A.aw.length+200*(i+1))):=by
   intro i fv sp hi hs
   match i,hi,hs with
   | 0,hi,hs =>
    cases hi;cases hs
    refine⟨_,_,_,rfl,fun x hx=>(KI X hK bs bd b6 b8 q mb x ag).post ?_⟩
    rintro r H⟨e,B,rfl,rfl,h1,h2⟩
    exact⟨e,B,rfl,rfl,h1,fun _=>by omega⟩
   | 1,hi,hs =>
    cases hi;cases hs
    refine⟨_,_,_,rfl,fun x hx=>(KH X bs bd b6 b8 q mb x ag).post ?_⟩
    rintro r H⟨e,B,rfl,rfl,h1,h2⟩
    exact⟨e,B,rfl,rfl,h1,fun _=>by omega⟩
   | 2,hi,hs =>
    cases hi;cases hs
    refine⟨_,_,_,rfl,fun x hx=>(KG X hK bs bd b6 b8 q mb x ag).post ?_⟩
    rintro r H⟨e,B,rfl,rfl,h1,h2⟩
    exact⟨e,B,rfl,rfl,h1,fun _=>by omega⟩
   | k+3,hi,hs=>simp at hi
  have fH:=Fx (NV bs bd b6 b8 q mb X) (ae row (cl [.func (.func 69) #[] #[ptr b6],.func (.func 72) #[] #[ptr b6,ptr b8],.func (.func 73) #[] #[ptr b6] ] 96)) (.slice (some ⟨row,0,none⟩) 3 3) [.func (.func 69) #[] #[ptr b6],.func (.func 72) #[] #[ptr b6,ptr b8],.func (.func 73) #[] #[ptr b6] ] (Vw.ae rfl) (by show 3≤_;omega) [eH kB ju,eH kN (fun _ _=>false),eH kI gg] rfl (fun i x=>x.aw.length≤A.aw.length+200*i) vd A (by simp)
  refine aH fH ?_
  rintro _ _⟨e,B,rfl,rfl,fV,hb⟩
  refine aI (H':=ae bs (cl (ei bd q mb false) 123)::aC bd B::X::ae b6 (cl [ptr bs] 29)::aP dV mb (dD [])::F) (al.trans (H2:=NV bs bd b6 b8 q mb X B::aP dV mb (dD [])::F) ah (al.trans (al.cD [nC bs bd q mb false X B,ae b6 (cl [ptr bs] 29),ae b8 (cl [.func (.func 67) #[] #[] ] 120)] _) (al.trans (al.cD [ae bs (cl (ei bd q mb false) 123),aC bd B,X] _) ah))) ?_
  by_cases he:e=0
  ·subst he
   have Lo:=hb rfl
   simp only[List.length_cons,List.length_nil]at Lo
   refine go ?_
   refine aH (ur bd B) ?_
   rintro r2 _ rfl
   refine aO 0 rfl ?_
   rintro ra2 rc2 rfl
   refine go ?_
   refine aq zr zr ?_ ?_
   ·intro de
    have wH:B.names.length<A.names.length:=by
     have:=jT A
     have:=jT B
     omega
    have Xq:=pw bd B
    obtain⟨e2,B2,Ry⟩:∃e2 B2,B.cu=(e2,B2):=⟨_,_,rfl⟩
    rw[Ry]at Xq
    have k6:qC A e2 B2:=⟨0,B,fV,by rw[if_pos ⟨rfl,wH⟩];exact Ry.symm⟩
    refine go ?_
    refine aJ Xq ?_
    refine go ?_
    refine aq zr zr ?_ ?_
    ·intro bY
     have fT:e2≠0:=by simp only at bY;omega
     refine go ?_
     refine ad hE Tryz.func27 zr zr (.inr (.inr ⟨hq,rfl,e2,B2,k6,.inl ⟨fT,rfl,rfl⟩⟩))
    ·intro heq
     have o6:e2=0:=by simp only at heq;omega
     subst o6
     have hg:B2.aw.length≤B.aw.length+1:=by
      have h1:B2=B.cu.2:=by rw[Ry]
      rw[h1]
      exact(jW B).1
     refine go ?_
     refine ai (H':=ae bs (cl (ei bd q mb false) 123)::aP dV mb (dD [])::aC bd B2::X::F) ah ?_
     refine ad hE Tryz.func27 zr zr (.inr (.inr ⟨hq,rfl,0,B2,k6,.inr ⟨rfl,ag,bs,mb,rfl,rfl⟩⟩))
   ·intro fA
    have wH:¬B.names.length<A.names.length:=by
     have:=jT A
     have:=jT B
     omega
    have k6:qC A 0 B:=⟨0,B,fV,by rw[if_neg ag];exact⟨rfl,rfl⟩⟩
    refine go ?_
    refine ai (H':=ae bs (cl (ei bd q mb false) 123)::aP dV mb (dD [])::aC bd B::X::F) ah ?_
    refine ad hE Tryz.func27 zr zr (.inr (.inr ⟨hq,rfl,0,B,k6,.inr ⟨rfl,ag,bs,mb,rfl,rfl⟩⟩))
  ·have k6:qC A e B:=⟨e,B,fV,by rw[if_neg ag];exact⟨rfl,rfl⟩⟩
   refine go ?_
   have hd:decide ((e:Int)=0)=false:=by simp;exact he
   rw[hd]
   refine go ?_
   refine aq zr zr ?_ ?_
   ·intro _
    refine go ?_
    refine ai (H':=aC bd B::X::F) ah ?_
    refine ad hE Tryz.func27 zr zr (.inr (.inr ⟨hq,rfl,e,B,k6,.inl ⟨he,rfl,rfl⟩⟩))
   ·intro h0
    exact absurd (by omega:e=0) he
end Go.Proofs.YtedjnjkijiddlaaGreatDoor
namespace Go.Proofs.YtedjnjkijiddlaaGreatDoor
open Go Go.SL
attribute [local irreducible] J K aE Ends ae aB aP bP bq
section
variable{P:Program}{U:Tr}[hU:fX P U]{f:FuncId}{n:Nat}{R:Ending→World→Prop}{G:cJ}{k:List Item}{L:fJ}{H H':List HP}{all:Array Oper}{rest:Pl}{ty:TypeId}{pos:String}{af:Array Edge}{gd:Option (Nat × Bool)}{d:Tmp}
def cf{Hs:List HP}{t:TypeId}{x:Operand}{b off:Nat}{bR:Ty}{l:List Value}{e:TypeId}{cs:List Value}(i:Nat)(hd:Nat.blt d n=true)(hx:ev L x=some (.pointer (some ⟨b,off,none⟩)))(hi:cE Hs i=some (ae b (cl l e)))(ht:U.get t=some bR)(hg:bR.isAgg=true)(hv:pC l off bR.info.size [] = .mk cs)(h:J P f n R G (fun w=>Sat G w Hs) all rest k ((d,.agg cs.toArray)::L) H):J P f n R G (fun w=>Sat G w Hs) all (.cons true true ⟨some d,.load t x,ty,pos,af,gd⟩ rest) k L H :=
 kR hd (fun a w ha hw=>by
  obtain⟨h1,h2⟩:=DB _ _ _ _ _ hv
  simp only[List.reverse_nil,List.nil_append]at h1
  have hc:∀j v,cs[j]?=some v→w.cell? ⟨b,off+j,none⟩=some v:=fun j v hj=>by
   rw[dJ (Sat.tW hw hi)]
   rw[h1,List.getElem?_take]at hj
   split at hj
   ·simpa using hj
   ·cases hj
  have:=iH (P:=P) ht hg (by rw[h1];simp;omega) hc
  simp[execOp,ha.ev hx,this]) h
end
end Go.Proofs.YtedjnjkijiddlaaGreatDoor
namespace Go.Proofs.YtedjnjkijiddlaaGreatDoor
open Go Go.SL
attribute [local irreducible] J K aE Ends ae aB aP bP bq aS aZ bu bX Sha.chunks Sha.chunk Sha.rounds Sha.sched dK cm GI cQ aC
section
variable{P:Program}{U:Tr}[hU:fX P U]{f:FuncId}{n:Nat}{R:Ending→World→Prop}{G:cJ}{k:List Item}{L:fJ}{H H':List HP}{all:Array Oper}{rest:Pl}{ty:TypeId}{pos:String}{af:Array Edge}{gd:Option (Nat × Bool)}{d:Tmp}
end
def JX(bs bd:Nat)(q:Int)(mb:Nat)(brk:Bool)(A:Ab)(d:Dg):aE Tryz.prog 61 [ptr bs,dV d] [ae bs (cl (ei bd q mb brk) 123),aC bd A]
  (fun r H=>r = .bool (qp A (df kB d))∧H=[ae bs (cl (ei bd q mb brk) 123),aC bd A]):=by
 have hf:=mw kB d (by decide)
 unfold dV at hf ⊢
 refine aE.ao Tryz.func61 Tryz.ntmps61 fun G F R hE=>?_
 refine aD rfl ?_
 refine bG zr zr bD ?_
 intro b3
 refine go ?_
 refine aG (U:=aQ) (l:=dC d) 0 zr zr zr zr zr zr ?_
 refine aJ hf ?_
 refine aJ (Oo bs bd q mb brk A (df kB d)) ?_
 refine go ?_
 refine ad hE Tryz.func61 zr zr ⟨rfl,rfl⟩
def qb(l:List (Dg × Bl))(x:Bl):Bool:=decide (gN l x.d=some x)
def ry(l:List (Dg × Bl))(d:Dg):ew (dD l) d=(gN l d).map eL:=by
 unfold dD gN ew
 induction l with
 | nil=>rfl
 | cons y l ih =>
  simp only[List.map_cons,List.find?_cons]
  by_cases h:y.1=d
  ·simp[h]
  ·simp only[h,decide_false]
   exact ih
def Ef(bs bd:Nat)(q:Int)(mb:Nat)(brk:Bool)(l:List (Dg × Bl))(x:Bl):aE Tryz.prog 164 [ptr bs,eL x] [ae bs (cl (ei bd q mb brk) 123),aP dV mb (dD l)]
  (fun r H=>r = .bool (qb l x)∧H=[ae bs (cl (ei bd q mb brk) 123),aP dV mb (dD l)]):=by
 unfold eL
 refine aE.ao Tryz.func164 Tryz.ntmps164 fun G F R hE=>?_
 refine aD rfl ?_
 refine bG zr zr bD ?_
 intro b3
 refine go ?_
 refine aF (fun w=>Sat G w ([ae b3 (cl (bH x) 37),ae bs (cl (ei bd q mb brk) 123),aP dV mb (dD l)])) (cZ 0 10 (.act 10 (.act 11 (.st 12 .nil)))) rfl ak ak ak dT ?_
 refine go ?_
 refine cf (U:=aQ) 0 zr zr zr zr zr zr (go ?_)
 refine qJ (U:=aQ) (es:=dD l) (key:=x.d) rfl Ro zr zr zr zr zr zr zr (fun w hw=>hw.o8 (i:=2) rfl) ?_
 rw[ry]
 cases hb:gN l x.d with
 | none =>
  simp only[Option.map_none,Option.getD_none,Option.isSome_none]
  refine go ?_
  refine az zr zr zr (fun _ w hw=>hw.cV ah) ?_
  intro b5
  refine go ?_
  (refine aT ?_;(refine cq 0 dT zr zr zr zr zr zr zr zr zr ?_))
  refine go ?_
  have hw:qb l x=false:=by unfold qb;rw[hb];rfl
  rw[hw]at hE
  refine ad hE Tryz.func164 zr zr ⟨rfl,rfl⟩
 | some y =>
  simp only[Option.map_some,Option.getD_some,Option.isSome_some]
  unfold eL
  refine go ?_
  refine az zr zr zr (fun _ w hw=>hw.cV ah) ?_
  intro b5
  refine go ?_
  (refine aT ?_;(refine cq 0 dT zr zr zr zr zr zr zr zr zr ?_))
  refine go ?_
  have hw:qb l x=decide (x=y):=by unfold qb;rw[hb];simp only[Option.some.injEq];rw[decide_eq_decide];exact eq_comm
  rw[hw]at hE
  (repeat(first|refine gy ?_|refine aG (U:=aQ) (l:=bH x) 1 zr zr zr zr zr zr ?_|refine aG (U:=aQ) (l:=bH y) 0 zr zr zr zr zr zr ?_|refine kT (b:=decide (x=y)) zr zr zr Yl (fun w=>Yp x y w) ?_))
  refine ad hE Tryz.func164 zr zr ⟨rfl,rfl⟩
def oU(brk:Bool)(l:List (Dg × Bl))(x:Bl):Nat:=if brk then 10 else if qb l x then 0 else 4
def tM(bs bd:Nat)(q:Int)(mb:Nat)(brk:Bool)(l:List (Dg × Bl))(x:Bl):aE Tryz.prog 100 [ptr bs,eL x] [ae bs (cl (ei bd q mb brk) 123),aP dV mb (dD l)]
  (fun r H=>r = .int .i64 (oU brk l x:Int)∧H=[ae bs (cl (ei bd q mb brk) 123),aP dV mb (dD l)]):=by
 have ho:=Ef bs bd q mb brk l x
 unfold eL at ho ⊢
 refine aE.ao Tryz.func100 Tryz.ntmps100 fun G F R hE=>?_
 refine aD rfl ?_
 refine bG zr zr bD ?_
 intro b3
 cases brk with
 | true =>
  refine go ?_
  refine ad hE Tryz.func100 zr zr ⟨rfl,rfl⟩
 | false =>
  refine go ?_
  refine aG (U:=aQ) (l:=bH x) 0 zr zr zr zr zr zr ?_
  refine aJ ho ?_
  cases hob:qb l x with
  | true =>
   have hm:oU false l x=0:=by unfold oU;rw[hob];rfl
   rw[hm]at hE
   refine go ?_
   refine ad hE Tryz.func100 zr zr ⟨rfl,rfl⟩
  | false =>
   have hm:oU false l x=4:=by unfold oU;rw[hob];rfl
   rw[hm]at hE
   refine go ?_
   refine ad hE Tryz.func100 zr zr ⟨rfl,rfl⟩
def lg(bs bd:Nat)(q:Int)(mb:Nat)(brk:Bool)(Y:HP)(V:HP)(v:Value)(lp:List Value)(hv:Vw V v lp.length lp)(hn:lp.length≤1000000000)(ss:List BD)(hlen:ss.length=lp.length)(Q:Nat→Ab→Prop)(cK:∀(i:Nat) (fv:Value) (s:BD),lp[i]?=some fv→ss[i]?=some s→∃g fi cap,fv = .func (.func g) fi cap∧∀x,Q i x→aE Tryz.prog g (fi.toList++cap.toList) [nC bs bd q mb brk Y x] (fun r H=>∃(e:Nat) (x':Ab),r = .int .i64 (e:Int)∧H=[nC bs bd q mb brk Y x']∧s x e x'∧(e=0→Q (i+1) x')))(A:Ab)(hQ:Q 0 A) :
  aE Tryz.prog 87 [ptr bs,v] [V,nC bs bd q mb brk Y A]
   (fun r H=>∃(e:Nat) (B:Ab),r = .int .i64 (e:Int)∧H=[V,nC bs bd q mb (brk || decide (e≠0)) Y B]∧iZ ss A e B∧(e=0→Q lp.length B)):=by
 have fH:=Fx (nC bs bd q mb brk Y) V v lp hv hn ss hlen Q cK A hQ
 obtain⟨a,c,rfl⟩:=hv.shape
 refine aE.ao Tryz.func87 Tryz.ntmps87 fun G F R hE=>?_
 refine go ?_
 refine aH fH ?_
 rintro _ _⟨e,B,rfl,rfl,fV,hb⟩
 refine aI (al.trans (al.pick [1] rfl) (al.cD [ae bs (cl (ei bd q mb brk) 123),aC bd B,Y] _)) ?_
 have lA:al (ae bs (cl (ei bd q mb (brk || decide (e≠0))) 123)::aC bd B::Y::V::F) (V::nC bs bd q mb (brk || decide (e≠0)) Y B::F) :=
  al.trans (al.bS [ae bs (cl (ei bd q mb (brk || decide (e≠0))) 123),aC bd B,Y] _) ah
 cases brk with
 | true =>
  refine go ?_
  refine ai (al.trans ah lA) ?_
  refine ad hE Tryz.func87 zr zr ⟨e,B,rfl,rfl,fV,hb⟩
 | false =>
  refine go ?_
  have Ln:decide ((e:Int)≠0)=(false || decide (e≠0)):=by by_cases h:e=0 <;> simp[h]
  rw[Ln]
  refine ai (al.trans ah lA) ?_
  refine ad hE Tryz.func87 zr zr ⟨e,B,rfl,rfl,fV,hb⟩
end Go.Proofs.YtedjnjkijiddlaaGreatDoor
namespace Go.Proofs.YtedjnjkijiddlaaGreatDoor
open Go Go.SL
variable{A B:Ab}{nm:ByteArray}{e:Nat}
def zi{P:Program}{f:FuncId}{args:List Value}{Pre:List HP}{Post:Value→List HP→Prop}(X:List HP)(c:aE P f args Pre Post):aE P f args (Pre++X) (fun v H=>∃H',Post v H'∧H=H'++X) :=
 ⟨c.1,fun G w F hw=>(c.2 G w (X++F) (by rw[List.append_assoc]at hw;exact hw)).mono fun e w' h'=>let ⟨v,H,he,RC,hs⟩:=h';⟨v,H++X,he,⟨H,RC,rfl⟩,by rw[List.append_assoc];exact hs⟩⟩
attribute [local irreducible] J K aE Ends ae aB aP bP bq aS aZ bu bX Sha.chunks Sha.chunk Sha.rounds Sha.sched dK cm GI cQ aC
def oK(bs bd:Nat)(q:Int)(mb:Nat)(brk:Bool)(Xs:List HP)(A:Ab)(F:List HP):al (nC bs bd q mb brk (Sep Xs) A::F) (ae bs (cl (ei bd q mb brk) 123)::aC bd A::(Xs++F)) :=
 al.trans (al.cD [ae bs (cl (ei bd q mb brk) 123),aC bd A,Sep Xs] F) (al.cons _ (al.cons _ (al.cD Xs F)))
def uU(bs bd:Nat)(q:Int)(mb:Nat)(brk:Bool)(Xs:List HP)(A:Ab)(F:List HP):al (ae bs (cl (ei bd q mb brk) 123)::aC bd A::(Xs++F)) (nC bs bd q mb brk (Sep Xs) A::F) :=
 al.trans (al.cons _ (al.cons _ (al.bS Xs F))) (al.bS [ae bs (cl (ei bd q mb brk) 123),aC bd A,Sep Xs] F)
def pe{f:FuncId}{args:List Value}{bs bd:Nat}{q:Int}{mb:Nat}{brk:Bool}{Xs:List HP}{p:Nat→Ab→Prop}(h:aE Tryz.prog f args (ae bs (cl (ei bd q mb brk) 123)::aC bd A::Xs) (fun r H=>∃(e:Nat) (B:Ab),r = .int .i64 (e:Int)∧H=ae bs (cl (ei bd q mb brk) 123)::aC bd B::Xs∧p e B)) :
  aE Tryz.prog f args [nC bs bd q mb brk (Sep Xs) A] (fun r H=>∃(e:Nat) (B:Ab),r = .int .i64 (e:Int)∧H=[nC bs bd q mb brk (Sep Xs) B]∧p e B) :=
 h.conv (by have:=oK bs bd q mb brk Xs A [];rwa[List.append_nil]at this) (by
  rintro v H⟨e,B,rfl,rfl,hp⟩
  exact⟨_,⟨e,B,rfl,rfl,hp⟩,by have:=uU bs bd q mb brk Xs B [];rwa[List.append_nil]at this⟩)
def vk(x:Bl):aE Tryz.prog 63 [.string (strOf kS),.agg (dC x.d).toArray] [] (fun r H=>r = .string (fS x)∧H=[]):=by
 have:=mw kS x.d (by decide)
 unfold dV at this
 exact this
def Kb(bs bd b2 b3:Nat)(q:Int)(mb:Nat)(brk:Bool)(x:Bl)(A:Ab)(fb:A.writes.length≤1000000000) :
  aE Tryz.prog 103 [ptr b2,ptr b3] (ae bs (cl (ei bd q mb brk) 123)::aC bd A::[ae b2 (cl [ptr bs] 29),ae b3 (cl (bH x) 37)])
   (fun r H=>∃(e:Nat) (B:Ab),r = .int .i64 (e:Int)∧H=ae bs (cl (ei bd q mb brk) 123)::aC bd B::[ae b2 (cl [ptr bs] 29),ae b3 (cl (bH x) 37)]∧fg (fS x) A e B):=by
 refine aE.ao Tryz.func103 Tryz.ntmps103 fun G F R hE=>?_
 refine go ?_
 refine aF (fun w=>Sat G w ([ae bs (cl (ei bd q mb brk) 123),ae b2 (cl [ptr bs] 29),ae b3 (cl (bH x) 37)])) (cZ 0 6 (.act 6 (.act 7 (.st 8 .nil)))) rfl ak ak ak dT ?_
 refine go ?_
 refine cf (U:=aQ) 2 zr zr zr zr zr zr (go ?_)
 refine bo (vk x) ?_
 refine go ?_
 refine bo (uj bd A (fS x) fb) ?_
 refine go ?_
 refine ad hE Tryz.func103 zr zr ⟨_,_,rfl,rfl,rfl⟩
def H9(bs bd b2 b3:Nat)(q:Int)(mb:Nat)(brk:Bool)(x:Bl)(A:Ab)(cK:A.aw.length≤1000000000) :
  aE Tryz.prog 113 [ptr b2,ptr b3] (ae bs (cl (ei bd q mb brk) 123)::aC bd A::[ae b2 (cl [ptr bs] 29),ae b3 (cl (bH x) 37)])
   (fun r H=>∃(e:Nat) (B:Ab),r = .int .i64 (e:Int)∧H=ae bs (cl (ei bd q mb brk) 123)::aC bd B::[ae b2 (cl [ptr bs] 29),ae b3 (cl (bH x) 37)]∧jg (fS x) A e B):=by
 refine aE.ao Tryz.func113 Tryz.ntmps113 fun G F R hE=>?_
 refine go ?_
 refine aF (fun w=>Sat G w ([ae bs (cl (ei bd q mb brk) 123),ae b2 (cl [ptr bs] 29),ae b3 (cl (bH x) 37)])) (cZ 0 6 (.act 6 (.act 7 (.st 8 .nil)))) rfl ak ak ak dT ?_
 refine go ?_
 refine cf (U:=aQ) 2 zr zr zr zr zr zr (go ?_)
 refine bo (vk x) ?_
 refine go ?_
 refine bo (vx bd A (fS x) cK) ?_
 refine go ?_
 refine ad hE Tryz.func113 zr zr ⟨_,_,rfl,rfl,rfl⟩
def KL(bs bd b2 b4:Nat)(q:Int)(mb:Nat)(brk:Bool)(o:ByteArray)(A:Ab)(fb:A.writes.length≤1000000000) :
  aE Tryz.prog 171 [ptr b2,ptr b4] (ae bs (cl (ei bd q mb brk) 123)::aC bd A::[ae b2 (cl [ptr bs] 29),ae b4 (cl [.string o] 9)])
   (fun r H=>∃(e:Nat) (B:Ab),r = .int .i64 (e:Int)∧H=ae bs (cl (ei bd q mb brk) 123)::aC bd B::[ae b2 (cl [ptr bs] 29),ae b4 (cl [.string o] 9)]∧fg o A e B):=by
 refine aE.ao Tryz.func171 Tryz.ntmps171 fun G F R hE=>?_
 refine go ?_
 refine aF (fun w=>Sat G w ([ae bs (cl (ei bd q mb brk) 123),ae b2 (cl [ptr bs] 29),ae b4 (cl [.string o] 9)])) (cZ 0 5 (.act 5 (.st 6 .nil))) rfl ak ak ak dT ?_
 refine go ?_
 refine bo (uj bd A o fb) ?_
 refine go ?_
 refine ad hE Tryz.func171 zr zr ⟨_,_,rfl,rfl,rfl⟩
def KK(bs bd b2 b4 b5:Nat)(q:Int)(mb:Nat)(brk:Bool)(o n:ByteArray)(A:Ab)(cK:A.aw.length≤1000000000) :
  aE Tryz.prog 172 [ptr b2,ptr b4,ptr b5] (ae bs (cl (ei bd q mb brk) 123)::aC bd A::[ae b2 (cl [ptr bs] 29),ae b4 (cl [.string o] 9),ae b5 (cl [.string n] 9)])
   (fun r H=>∃(e:Nat) (B:Ab),r = .int .i64 (e:Int)∧H=ae bs (cl (ei bd q mb brk) 123)::aC bd B::[ae b2 (cl [ptr bs] 29),ae b4 (cl [.string o] 9),ae b5 (cl [.string n] 9)]∧kV o n A e B):=by
 refine aE.ao Tryz.func172 Tryz.ntmps172 fun G F R hE=>?_
 refine go ?_
 refine aF (fun w=>Sat G w ([ae bs (cl (ei bd q mb brk) 123),ae b2 (cl [ptr bs] 29),ae b4 (cl [.string o] 9),ae b5 (cl [.string n] 9)])) (cZ 0 6 (.act 6 (.st 7 .nil))) rfl ak ak ak dT ?_
 refine go ?_
 refine lV 3 zr zr zr zr zr zr (go ?_)
 refine bo (BE bd A o n cK) ?_
 refine go ?_
 refine ad hE Tryz.func172 zr zr ⟨_,_,rfl,rfl,rfl⟩
def H4(bs bd b2 b7:Nat)(q:Int)(mb:Nat)(brk:Bool)(n:ByteArray)(A:Ab)(cK:A.aw.length≤1000000000) :
  aE Tryz.prog 88 [ptr b2,ptr b7] (ae bs (cl (ei bd q mb brk) 123)::aC bd A::[ae b2 (cl [ptr bs] 29),ae b7 (cl [.string n] 9)])
   (fun r H=>∃(e:Nat) (B:Ab),r = .int .i64 (e:Int)∧H=ae bs (cl (ei bd q mb brk) 123)::aC bd B::[ae b2 (cl [ptr bs] 29),ae b7 (cl [.string n] 9)]∧iF n A e B):=by
 refine aE.ao Tryz.func88 Tryz.ntmps88 fun G F R hE=>?_
 refine go ?_
 refine aF (fun w=>Sat G w ([ae bs (cl (ei bd q mb brk) 123),ae b2 (cl [ptr bs] 29),ae b7 (cl [.string n] 9)])) (cZ 0 5 (.act 5 (.st 6 .nil))) rfl ak ak ak dT ?_
 refine go ?_
 refine cN (vB bd A n cK) ?_
 rintro _ _⟨f,hf,rfl,rfl⟩
 refine go ?_
 refine ad hE Tryz.func88 zr zr ⟨_,_,rfl,rfl,⟨f,hf,rfl⟩⟩
def Kv(bs bd b4 b5 Fv b7:Nat)(q:Int)(mb:Nat)(brk:Bool)(x:Bl)(at_:Int)(X:HP)(bv:Value)(b:List UInt8)(hv:Vw X bv b.length (bV b))(A:Ab)(fb:A.writes.length≤1000000000)(iC:b.length≤1000000000)(QE:0≤at_∧at_≤9223372036854775807) :
  aE Tryz.prog 101 [ptr b4,ptr b5,ptr Fv,ptr b7] (ae bs (cl (ei bd q mb brk) 123)::aC bd A::[ae b4 (cl [ptr bs] 29),ae b5 (cl (bH x) 37),ae Fv (cl [.int .i64 at_] 3),ae b7 (cl [bv] 22),X])
   (fun r H=>∃(e:Nat) (B:Ab),r = .int .i64 (e:Int)∧H=ae bs (cl (ei bd q mb brk) 123)::aC bd B::[ae b4 (cl [ptr bs] 29),ae b5 (cl (bH x) 37),ae Fv (cl [.int .i64 at_] 3),ae b7 (cl [bv] 22),X]∧fM (fS x) at_.toNat b A e B):=by
 obtain⟨a,c,rfl⟩:=hv.shape
 have hmw:fZ (fS x) at_ b=fZ (fS x) at_.toNat b:=by rw[Int.toNat_of_nonneg QE.1]
 have hw:=ui bd A (fS x) at_ X _ b hv fb iC ⟨ag,QE.2⟩
 rw[hmw]at hw
 refine aE.ao Tryz.func101 Tryz.ntmps101 fun G F R hE=>?_
 refine go ?_
 refine aF (fun w=>Sat G w ([ae bs (cl (ei bd q mb brk) 123),ae b4 (cl [ptr bs] 29),ae b5 (cl (bH x) 37),ae Fv (cl [.int .i64 at_] 3),ae b7 (cl [.slice a b.length c] 22)])) (cZ 0 6 (.st 7 (.st 8 (.act 6 (.act 9 (.st 10 .nil)))))) rfl ak ak ak dT ?_
 refine go ?_
 refine cf (U:=aQ) 2 zr zr zr zr zr zr (go ?_)
 refine lV 3 zr zr zr zr zr zr (go ?_)
 refine lV 4 zr zr zr zr zr zr (go ?_)
 refine bo (vk x) ?_
 refine go ?_
 refine bo hw ?_
 refine go ?_
 refine ad hE Tryz.func101 zr zr ⟨_,_,rfl,rfl,rfl⟩
def IX(bs bd:Nat)(q:Int)(mb:Nat)(brk:Bool)(Xs:List HP)(A:Ab):aE Tryz.prog 75 [ptr bd] [nC bs bd q mb brk (Sep Xs) A]
  (fun r H=>∃(e:Nat) (B:Ab),r = .int .i64 (e:Int)∧H=[nC bs bd q mb brk (Sep Xs) B]∧dO A e B) :=
 pe ((zi (ae bs (cl (ei bd q mb brk) 123)::Xs) (pw bd A)).conv (al.perm (List.Perm.swap ..)) (by
  rintro v H⟨H1,⟨rfl,rfl⟩,rfl⟩
  exact⟨_,⟨_,_,rfl,rfl,rfl⟩,al.perm (List.Perm.swap ..)⟩))
def cH(bs bd:Nat)(q:Int)(mb:Nat)(s:fe):List HP:=[ae bs (cl (ei bd q mb s.brk) 123),aP dV mb (dD s.bt),aC bd s.A]
def GQ(A:Ab)(i:Nat)(x:Ab):Prop:=x.aw.length≤A.aw.length+i∧x.writes.length≤A.writes.length+i
def GQ.zero(A:Ab):GQ A 0 A:=⟨Nat.le_refl _,Nat.le_refl _⟩
def GQ.next{x y:Ab}{i:Nat}(h:GQ A i x)(g:j0 x y):GQ A (i+1) y:=⟨by have:=h.1;have:=g.1;omega,by have:=h.2;have:=g.2;omega⟩
def m9(h:fg nm A e B):j0 A B:=by
 have:=kE A (isName nm) nm
 rw[← h]at this
 exact this
def r'{o n:ByteArray}(h:kV o n A e B):j0 A B:=by
 have:=qq A ([o,n].all isName) o n
 rw[← h]at this
 exact this
def iU(h:dO A e B):j0 A B:=by
 have:=jW A
 rw[← h]at this
 exact this
def tU{at_:Nat}{b:List UInt8}(h:fM nm at_ b A e B):j0 A B:=by
 have:=kD A (fZ nm at_ b) nm at_ b
 rw[← h]at this
 exact this
def sc(h:iF nm A e B):j0 A B:=by
 obtain⟨f,_,h⟩:=h
 have:=qt A (isName nm) nm f
 rw[← h]at this
 exact this
def Sr(bs bd:Nat)(q:Int)(mb:Nat)(s:fe)(x:Bl)(cK:s.A.aw.length≤900000000)(fb:s.A.writes.length≤900000000):aE Tryz.prog 48 [ptr bs,eL x] (cH bs bd q mb s)
  (fun r H=>∃(e:Nat) (t:fe),r = .int .i64 (e:Int)∧H=cH bs bd q mb t∧ko x s e t):=by
 obtain⟨A,bt,brk⟩:=s
 simp only at cK fb
 have yJ:=tM bs bd q mb brk bt x
 unfold eL at yJ ⊢
 refine aE.ao Tryz.func48 Tryz.ntmps48 fun G F R hE=>?_
 refine ai (H':=ae bs (cl (ei bd q mb brk) 123)::aP dV mb (dD bt)::aC bd A::F) (al.refl _) ?_
 refine aD rfl ?_
 refine bG zr zr bD ?_
 intro b2
 refine bG zr zr bD ?_
 intro b3
 refine go ?_
 refine aG (U:=aQ) (l:=bH x) 0 zr zr zr zr zr zr ?_
 refine aJ yJ ?_
 refine go ?_
 refine aq zr zr ?_ ?_
 ·intro bY
  have fT:oU brk bt x≠0:=by omega
  refine go ?_
  refine ai (H':=cH bs bd q mb ⟨A,bt,brk⟩++F) ah ?_
  ((refine ad hE Tryz.func48 zr zr ⟨oU brk bt x,⟨A,bt,brk⟩,rfl,rfl,by unfold ko;rw[if_pos (show jh ⟨A,bt,brk⟩ x≠0 from fT)];exact⟨rfl,rfl⟩⟩))
 ·intro heq
  have o6:oU brk bt x=0:=by omega
  refine go ?_
  refine aj (cs:=[.func (.func 103) #[] #[ptr b2,ptr b3] ]) zr zr zr zr zr zr zr zr zr bD ?_
  intro row
  have vd:∀(i:Nat) (fv:Value) (sp:BD),[.func (.func 103) #[] #[ptr b2,ptr b3] ][i]?=some fv→[fg (fS x)][i]?=some sp→∃g fi cap,fv = .func (.func g) fi cap∧∀y,GQ A i y→aE Tryz.prog g (fi.toList++cap.toList) [nC bs bd q mb brk (Sep [ae b2 (cl [ptr bs] 29),ae b3 (cl (bH x) 37)]) y] (fun r H=>∃(e:Nat) (x':Ab),r = .int .i64 (e:Int)∧H=[nC bs bd q mb brk (Sep [ae b2 (cl [ptr bs] 29),ae b3 (cl (bH x) 37)]) x']∧sp y e x'∧(e=0→GQ A (i+1) x')):=by
   intro i fv sp hi hs
   match i,hi,hs with
   | 0,hi,hs =>
    cases hi;cases hs
    refine⟨_,_,_,rfl,fun y hy=>(pe (Kb bs bd b2 b3 q mb brk x y (by have:=hy.2;omega))).post ?_⟩
    rintro r H⟨e,B,rfl,rfl,h1⟩
    exact⟨e,B,rfl,rfl,h1,fun _=>hy.next (m9 h1)⟩
   | k+1,hi,hs=>simp at hi
  have EY:=lg bs bd q mb brk (Sep [ae b2 (cl [ptr bs] 29),ae b3 (cl (bH x) 37)]) (ae row (cl [.func (.func 103) #[] #[ptr b2,ptr b3] ] 96)) (.slice (some ⟨row,0,none⟩) 1 1) [.func (.func 103) #[] #[ptr b2,ptr b3] ] (Vw.ae rfl) (by show 1≤_;omega) [fg (fS x)] rfl (GQ A) vd A (GQ.zero A)
  refine aI (H':=ae row (cl [.func (.func 103) #[] #[ptr b2,ptr b3] ] 96)::nC bs bd q mb brk (Sep [ae b2 (cl [ptr bs] 29),ae b3 (cl (bH x) 37)]) A::aP dV mb (dD bt)::F) (al.trans (H2:=ae bs (cl (ei bd q mb brk) 123)::aC bd A::([ae b2 (cl [ptr bs] 29),ae b3 (cl (bH x) 37)]++(ae row (cl [.func (.func 103) #[] #[ptr b2,ptr b3] ] 96)::aP dV mb (dD bt)::F))) ah (al.trans (uU bs bd q mb brk _ A _) ah)) ?_
  refine aH EY ?_
  rintro _ _⟨e,B,rfl,rfl,fV,-⟩
  refine go ?_
  refine ai (H':=cH bs bd q mb ⟨B,bt,brk || decide (e≠0)⟩++F) (al.trans (al.pick [1] rfl) (al.trans (oK bs bd q mb (brk || decide (e≠0)) _ B _) ah)) ?_
  ((refine ad hE Tryz.func48 zr zr ⟨e,⟨B,bt,or brk (decide (e≠0))⟩,rfl,rfl,by unfold ko;rw[if_neg (show ¬jh ⟨A,bt,brk⟩ x≠0 from by show ¬oU brk bt x≠0;omega)];exact⟨B,fV,rfl⟩⟩))
def Ft(l:List (Dg × Bl))(d:Dg):rL (dD l) d=dD (oe l d):=by
 unfold rL dD oe
 rw[List.filter_map]
 rfl
def Qj(bs bd:Nat)(q:Int)(mb:Nat)(s:fe)(x:Bl)(cK:s.A.aw.length≤900000000)(fb:s.A.writes.length≤900000000):aE Tryz.prog 56 [ptr bs,eL x] (cH bs bd q mb s)
  (fun r H=>∃(e:Nat) (t:fe),r = .int .i64 (e:Int)∧H=cH bs bd q mb t∧j6 x s e t):=by
 obtain⟨A,bt,brk⟩:=s
 simp only at cK fb
 have yJ:=tM bs bd q mb brk bt x
 unfold eL at yJ ⊢
 refine aE.ao Tryz.func56 Tryz.ntmps56 fun G F R hE=>?_
 refine ai (H':=ae bs (cl (ei bd q mb brk) 123)::aP dV mb (dD bt)::aC bd A::F) (al.refl _) ?_
 refine aD rfl ?_
 refine bG zr zr bD ?_
 intro b2
 refine bG zr zr bD ?_
 intro b3
 refine go ?_
 refine aG (U:=aQ) (l:=bH x) 0 zr zr zr zr zr zr ?_
 refine aJ yJ ?_
 refine go ?_
 refine aq zr zr ?_ ?_
 ·intro bY
  have fT:oU brk bt x≠0:=by omega
  refine go ?_
  refine ai (H':=cH bs bd q mb ⟨A,bt,brk⟩++F) ah ?_
  ((refine ad hE Tryz.func56 zr zr ⟨oU brk bt x,⟨A,bt,brk⟩,rfl,rfl,by unfold j6;rw[if_pos (show jh ⟨A,bt,brk⟩ x≠0 from fT)];exact⟨rfl,rfl⟩⟩))
 ·intro heq
  have o6:oU brk bt x=0:=by omega
  refine go ?_
  refine aj (cs:=[.func (.func 113) #[] #[ptr b2,ptr b3] ]) zr zr zr zr zr zr zr zr zr bD ?_
  intro row
  have vd:∀(i:Nat) (fv:Value) (sp:BD),[.func (.func 113) #[] #[ptr b2,ptr b3] ][i]?=some fv→[jg (fS x)][i]?=some sp→∃g fi cap,fv = .func (.func g) fi cap∧∀y,GQ A i y→aE Tryz.prog g (fi.toList++cap.toList) [nC bs bd q mb brk (Sep [ae b2 (cl [ptr bs] 29),ae b3 (cl (bH x) 37)]) y] (fun r H=>∃(e:Nat) (x':Ab),r = .int .i64 (e:Int)∧H=[nC bs bd q mb brk (Sep [ae b2 (cl [ptr bs] 29),ae b3 (cl (bH x) 37)]) x']∧sp y e x'∧(e=0→GQ A (i+1) x')):=by
   intro i fv sp hi hs
   match i,hi,hs with
   | 0,hi,hs =>
    cases hi;cases hs
    refine⟨_,_,_,rfl,fun y hy=>(pe (H9 bs bd b2 b3 q mb brk x y (by have:=hy.1;omega))).post ?_⟩
    rintro r H⟨e,B,rfl,rfl,h1⟩
    exact⟨e,B,rfl,rfl,h1,fun _=>hy.next (nv h1)⟩
   | k+1,hi,hs=>simp at hi
  have EY:=lg bs bd q mb brk (Sep [ae b2 (cl [ptr bs] 29),ae b3 (cl (bH x) 37)]) (ae row (cl [.func (.func 113) #[] #[ptr b2,ptr b3] ] 96)) (.slice (some ⟨row,0,none⟩) 1 1) [.func (.func 113) #[] #[ptr b2,ptr b3] ] (Vw.ae rfl) (by show 1≤_;omega) [jg (fS x)] rfl (GQ A) vd A (GQ.zero A)
  refine aI (H':=ae row (cl [.func (.func 113) #[] #[ptr b2,ptr b3] ] 96)::nC bs bd q mb brk (Sep [ae b2 (cl [ptr bs] 29),ae b3 (cl (bH x) 37)]) A::aP dV mb (dD bt)::F) (al.trans (H2:=ae bs (cl (ei bd q mb brk) 123)::aC bd A::([ae b2 (cl [ptr bs] 29),ae b3 (cl (bH x) 37)]++(ae row (cl [.func (.func 113) #[] #[ptr b2,ptr b3] ] 96)::aP dV mb (dD bt)::F))) ah (al.trans (uU bs bd q mb brk _ A _) ah)) ?_
  refine aH EY ?_
  rintro _ _⟨e,B,rfl,rfl,fV,-⟩
  refine aI (al.trans (al.pick [1] rfl) (oK bs bd q mb (brk || decide (e≠0)) _ B _)) ?_
  have Y2:¬jh ⟨A,bt,brk⟩ x≠0:=by show ¬oU brk bt x≠0;omega
  refine go ?_
  refine aq zr zr ?_ ?_
  ·intro XG
   have he:e≠0:=by omega
   refine go ?_
   refine ai (H':=cH bs bd q mb ⟨B,bt,brk || decide (e≠0)⟩++F) ah ?_
   ((refine ad hE Tryz.func56 zr zr ⟨e,⟨B,bt,or brk (decide (e≠0))⟩,rfl,rfl,by unfold j6;rw[if_neg Y2];exact⟨_,⟨B,fV,rfl⟩,by rw[if_pos he]⟩⟩))
  ·intro XZ
   have he:e=0:=by omega
   subst he
   refine go ?_
   refine aF (fun w=>Sat G w ([ae b2 (cl [ptr bs] 29),ae bs (cl (ei bd q mb (or brk (decide (0≠0)))) 123),ae b3 (cl (bH x) 37)])) (cZ 0 6 (.act 6 .nil)) rfl ak ak ak dT ?_
   refine go ?_
   refine cf (U:=aQ) 2 zr zr zr zr zr zr (go ?_)
   refine mK (es:=dD bt) (key:=x.d) 5 Ro (fun w hw=>by exact trivial) zr zr zr zr zr zr zr ?_
   rw[Ft]
   refine go ?_
   refine ai (H':=cH bs bd q mb ⟨B,oe bt x.d,brk || decide (0≠0)⟩++F) ah ?_
   ((refine ad hE Tryz.func56 zr zr ⟨0,⟨B,oe bt x.d,or brk (decide (0≠0))⟩,rfl,rfl,by unfold j6;rw[if_neg Y2];exact⟨_,⟨B,fV,rfl⟩,by rw[if_neg ag]⟩⟩))
def Rg(bd b3 b4 b5:Nat):List Value:=[.func (.func 171) #[] #[ptr b3,ptr b4],.func (.func 172) #[] #[ptr b3,ptr b4,ptr b5],.func (.func 75) #[ptr bd] #[] ]
def Rf(bs b3 b4 b5:Nat)(o n:ByteArray):List HP:=[ae b3 (cl [ptr bs] 29),ae b4 (cl [.string o] 9),ae b5 (cl [.string n] 9)]
def N2(bs bd:Nat)(q:Int)(mb:Nat)(brk:Bool)(o n:ByteArray):aE Tryz.prog 111 [ptr bs,.string o,.string n] [ae bs (cl (ei bd q mb brk) 123)]
  (fun r H=>∃row b3 b4 b5,r = .slice (some ⟨row,0,none⟩) 3 3∧H=ae row (cl (Rg bd b3 b4 b5) 96)::ae bs (cl (ei bd q mb brk) 123)::Rf bs b3 b4 b5 o n):=by
 refine aE.ao Tryz.func111 Tryz.ntmps111 fun G F R hE=>?_
 refine aD rfl ?_
 refine bG zr zr bD ?_
 intro b3
 refine bG zr zr bD ?_
 intro b4
 refine bG zr zr bD ?_
 intro b5
 refine go ?_
 refine aj (cs:=Rg bd b3 b4 b5) zr zr zr zr zr zr zr zr zr bD ?_
 intro row
 refine go ?_
 refine ai (H':=ae row (cl (Rg bd b3 b4 b5) 96)::ae bs (cl (ei bd q mb brk) 123)::(Rf bs b3 b4 b5 o n++F)) ah ?_
 refine ad hE Tryz.func111 zr zr ⟨row,b3,b4,b5,rfl,rfl⟩
def N1(bs bd:Nat)(q:Int)(mb:Nat)(brk:Bool)(b3 b4 b5:Nat)(o n:ByteArray)(A:Ab)(cK:A.aw.length≤900000000)(fb:A.writes.length≤900000000)(i:Nat)(fv:Value)(sp:BD)(hi:(Rg bd b3 b4 b5)[i]?=some fv)(hs:(Ej o n)[i]?=some sp) :
  ∃g fi cap,fv = .func (.func g) fi cap∧∀y,GQ A i y→aE Tryz.prog g (fi.toList++cap.toList) [nC bs bd q mb brk (Sep (Rf bs b3 b4 b5 o n)) y] (fun r H=>∃(e:Nat) (x':Ab),r = .int .i64 (e:Int)∧H=[nC bs bd q mb brk (Sep (Rf bs b3 b4 b5 o n)) x']∧sp y e x'∧(e=0→GQ A (i+1) x')):=by
 match i,hi,hs with
 | 0,hi,hs =>
  cases hi;cases hs
  refine⟨_,_,_,rfl,fun y hy=>?_⟩
  have h0:=zi [ae b5 (cl [.string n] 9)] (KL bs bd b3 b4 q mb brk o y (by have:=hy.2;omega))
  refine(pe (p:=fg o y) (Xs:=Rf bs b3 b4 b5 o n) (h0.post ?_)).post ?_
  ·rintro r H⟨_,⟨e,B,rfl,rfl,h1⟩,rfl⟩
   exact⟨e,B,rfl,rfl,h1⟩
  ·rintro r H⟨e,B,rfl,rfl,h1⟩
   exact⟨e,B,rfl,rfl,h1,fun _=>hy.next (m9 h1)⟩
 | 1,hi,hs =>
  cases hi;cases hs
  refine⟨_,_,_,rfl,fun y hy=>(pe (KK bs bd b3 b4 b5 q mb brk o n y (by have:=hy.1;omega))).post ?_⟩
  rintro r H⟨e,B,rfl,rfl,h1⟩
  exact⟨e,B,rfl,rfl,h1,fun _=>hy.next (r' h1)⟩
 | 2,hi,hs =>
  cases hi;cases hs
  refine⟨_,_,_,rfl,fun y hy=>(IX bs bd q mb brk (Rf bs b3 b4 b5 o n) y).post ?_⟩
  rintro r H⟨e,B,rfl,rfl,h1⟩
  exact⟨e,B,rfl,rfl,h1,fun _=>hy.next (iU h1)⟩
 | k+3,hi,hs=>simp[Rg]at hi
def Ir(X:HP)(hK:oG X)(bs bd:Nat)(q:Int)(mb:Nat)(s:fe)(x:Bl)(cK:s.A.aw.length≤900000000)(fb:s.A.writes.length≤900000000):aE Tryz.prog 53 [ptr bs,eL x] (cH bs bd q mb s++[X])
  (fun r H=>∃(e:Nat) (t:fe),r = .int .i64 (e:Int)∧H=cH bs bd q mb t++[X]∧dR x s e t):=by
 obtain⟨A,bt,brk⟩:=s
 simp only at cK fb
 have yJ:=tM bs bd q mb brk bt x
 have m8:=Qj bs bd q mb ⟨A,bt,brk⟩ x cK fb
 have hfb:=mw kB x.d (by decide)
 unfold dV at hfb
 unfold eL at yJ m8 ⊢
 refine aE.ao Tryz.func53 Tryz.ntmps53 fun G F R hE=>?_
 refine ai (H':=ae bs (cl (ei bd q mb brk) 123)::aP dV mb (dD bt)::aC bd A::X::F) (al.refl _) ?_
 refine uu (bd:=bd) (A:=A) 2 rfl ?_
 intro Hw
 refine aD rfl ?_
 refine bG zr zr bD ?_
 intro b3
 refine go ?_
 refine aG (U:=aQ) (l:=bH x) 0 zr zr zr zr zr zr ?_
 refine aJ yJ ?_
 refine go ?_
 refine aq zr zr ?_ ?_
 ·intro bY
  have fT:jh ⟨A,bt,brk⟩ x≠0:=by show oU brk bt x≠0;omega
  refine go ?_
  refine ai (H':=cH bs bd q mb ⟨A,bt,brk⟩++(X::F)) ah ?_
  ((refine ad hE Tryz.func53 zr zr ⟨oU brk bt x,⟨A,bt,brk⟩,rfl,rfl,by unfold dR;rw[if_pos fT];exact⟨rfl,rfl⟩⟩))
 intro heq
 have o6:¬jh ⟨A,bt,brk⟩ x≠0:=by show ¬oU brk bt x≠0;omega
 have iC:=ph Hw (fS x)
 refine go ?_
 refine dH 2 zr zr zr zr zr zr ?_
 refine aJ (vk x) ?_
 refine aH (vq bs bd q mb brk A (fS x)) ?_
 rintro _ _⟨rv,rfl,rfl⟩
 obtain⟨bb,Jp⟩:∃bb,bb=(fm A (fS x)).getD []:=⟨_,rfl⟩
 rw[← Jp]at iC ⊢
 refine gQ (bs:=bb) 0 rfl ?_
 intro hbv
 refine aI (al.trans (al.pick [0,5] rfl) (al.bS [aB 5 1 rv bb.length (bV bb),X] _)) ?_
 have Y1:=LW _ (hK.mono (bg (H:=[aB 5 1 rv bb.length (bV bb),X]) (i:=1) rfl)) x rv bb (hbv.mono (bg (i:=0) rfl)) ag
 unfold eL at Y1
 refine go ?_
 refine aG (U:=aQ) (l:=bH x) 4 zr zr zr zr zr zr ?_
 ((refine go ?_;(refine aH Y1 ?_)))
 rintro _ _⟨rfl,rfl⟩
 refine aI (al.cD [aB 5 1 rv bb.length (bV bb),X] _) ?_
 cases hw:dX x bb with
 | false =>
  have hI:∀e1 t,j6 x ⟨A,bt,brk⟩ e1 t→∀e,e=(if e1≠0 then e1 else 8)→dR x ⟨A,bt,brk⟩ e t:=fun e1 t h e he=>by
   unfold dR
   rw[if_neg o6,if_pos (by show dX x ((fm A (fS x)).getD [])=false;rw[← Jp];exact hw)]
   exact⟨e1,h,he⟩
  refine go ?_
  refine aG (U:=aQ) (l:=bH x) 5 zr zr zr zr zr zr ?_
  refine aH m8 ?_
  rintro _ _⟨e1,t,rfl,rfl,ab1⟩
  refine go ?_
  refine aq zr zr ?_ ?_
  ·intro XG
   have he:e1≠0:=by omega
   refine go ?_
   refine ai (H':=cH bs bd q mb t++(X::F)) ah ?_
   refine ad hE Tryz.func53 zr zr ⟨e1,t,rfl,rfl,hI e1 t ab1 e1 (by rw[if_pos he])⟩
  ·intro XZ
   have he:e1=0:=by omega
   refine go ?_
   refine ai (H':=cH bs bd q mb t++(X::F)) ah ?_
   refine ad hE Tryz.func53 zr zr ⟨8,t,rfl,rfl,hI e1 t ab1 8 (by rw[if_neg ag])⟩
 | true =>
  have hwn:¬dX x ((fm A (fS x)).getD [])=false:=by rw[← Jp,hw];simp
  refine go ?_
  refine aF (fun w=>Sat G w ([ae b3 (cl (bH x) 37)])) (cZ 0 4 (.st 5 (.st 6 (.act 4 (.act 7 (.act 8 (.act 9 (.st 10 .nil)))))))) rfl ak ak ak dT ?_
  refine go ?_
  refine cf (U:=aQ) 0 zr zr zr zr zr zr (go ?_)
  refine cf (U:=aQ) 0 zr zr zr zr zr zr (go ?_)
  refine bo (vk x) ?_
  refine go ?_
  refine bo hfb ?_
  refine go ?_
  refine cN (N2 bs bd q mb brk (fS x) (fB x)) ?_
  rintro _ _⟨row,c3,c4,c5,rfl,rfl⟩
  have EY:=lg bs bd q mb brk (Sep (Rf bs c3 c4 c5 (fS x) (fB x))) (ae row (cl (Rg bd c3 c4 c5) 96)) (.slice (some ⟨row,0,none⟩) 3 3) (Rg bd c3 c4 c5) (Vw.ae rfl) (by show 3≤_;omega) (Ej (fS x) (fB x)) rfl (GQ A) (N1 bs bd q mb brk c3 c4 c5 (fS x) (fB x) A cK fb) A (GQ.zero A)
  refine go ?_
  refine aI (H':=ae row (cl (Rg bd c3 c4 c5) 96)::nC bs bd q mb brk (Sep (Rf bs c3 c4 c5 (fS x) (fB x))) A::aP dV mb (dD bt)::ae b3 (cl (bH x) 37)::X::F) (al.trans (H2:=ae bs (cl (ei bd q mb brk) 123)::aC bd A::(Rf bs c3 c4 c5 (fS x) (fB x)++(ae row (cl (Rg bd c3 c4 c5) 96)::aP dV mb (dD bt)::ae b3 (cl (bH x) 37)::X::F))) ah (al.trans (uU bs bd q mb brk _ A _) ah)) ?_
  refine cN EY ?_
  rintro _ _⟨e,B,rfl,rfl,fV,-⟩
  refine aI (al.trans (al.pick [1] rfl) (oK bs bd q mb (brk || decide (e≠0)) _ B _)) ?_
  have hI:∀t,t=(if e≠0 then(⟨B,bt,brk || decide (e≠0)⟩:fe)else⟨B,oe bt x.d,brk || decide (e≠0)⟩)→dR x ⟨A,bt,brk⟩ e t:=fun t ht=>by
   unfold dR
   rw[if_neg o6,if_neg hwn]
   exact⟨_,⟨B,fV,rfl⟩,ht⟩
  refine go ?_
  refine aq zr zr ?_ ?_
  ·intro XG
   have he:e≠0:=by omega
   refine go ?_
   refine ai (H':=cH bs bd q mb ⟨B,bt,brk || decide (e≠0)⟩++(X::F)) ah ?_
   refine ad hE Tryz.func53 zr zr ⟨e,⟨B,bt,or brk (decide (e≠0))⟩,rfl,rfl,hI _ (by rw[if_pos he])⟩
  ·intro XZ
   have he:e=0:=by omega
   subst he
   refine go ?_
   refine aF (fun w=>Sat G w ([ae bs (cl (ei bd q mb (or brk (decide (0≠0)))) 123),ae b3 (cl (bH x) 37)])) (cZ 0 6 (.act 6 .nil)) rfl ak ak ak dT ?_
   refine go ?_
   refine cf (U:=aQ) 1 zr zr zr zr zr zr (go ?_)
   refine mK (es:=dD bt) (key:=x.d) 6 Ro (fun w hw=>by exact trivial) zr zr zr zr zr zr zr ?_
   rw[Ft]
   refine go ?_
   refine ai (H':=cH bs bd q mb ⟨B,oe bt x.d,brk || decide (0≠0)⟩++(X::F)) ah ?_
   refine ad hE Tryz.func53 zr zr ⟨0,⟨B,oe bt x.d,or brk (decide (0≠0))⟩,rfl,rfl,hI _ (by rw[if_neg ag])⟩
end Go.Proofs.YtedjnjkijiddlaaGreatDoor
