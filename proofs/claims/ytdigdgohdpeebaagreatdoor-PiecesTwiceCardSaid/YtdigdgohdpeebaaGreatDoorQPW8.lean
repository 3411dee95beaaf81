import Derived.Test.YtdigdgohdpeebaaGreatDoorQPW3
import Derived.Test.YtdigdgohdpeebaaGreatDoorQPW4
import Derived.Test.YtdigdgohdpeebaaGreatDoorQPW5
import Derived.Test.YtdigdgohdpeebaaGreatDoorQPW6
import Derived.Test.YtdigdgohdpeebaaGreatDoorQPW7
set_option linter.unusedSimpArgs false
set_option linter.unusedVariables false
set_option maxHeartbeats 1000000
set_option maxRecDepth 20000
set_option linter.defProp false
namespace Go.SL
open Go
namespace Sha
def kh(n o:List jt)(i:Nat):List jt:=(List.zipWith (· + ·) n o).take i++n.drop i
def L3{n o:List jt}{k i:Nat}(hn:n.length=k)(ho:o.length=k)(hi:i≤k):(kh n o i).length=k:=by
 unfold kh;rw[List.length_append,List.length_take,List.length_zipWith,List.length_drop];omega
def L4{n o:List jt}{k i:Nat}(hn:n.length=k)(ho:o.length=k)(hi:i<k):(kh n o i)[i]?=some (n.getD i 0):=by
 unfold kh
 have h1:((List.zipWith (· + ·) n o).take i).length=i:=by rw[List.length_take,List.length_zipWith];omega
 rw[List.getElem?_append_right ag,h1,Nat.sub_self,List.getElem?_drop,Nat.add_zero,List.getD_eq_getElem?_getD,List.getElem?_eq_getElem ag];rfl
def L2{n o:List jt}{k i:Nat}(hn:n.length=k)(ho:o.length=k)(hi:i<k):(kh n o i).set i (n.getD i 0+o.getD i 0)=kh n o (i+1):=by
 unfold kh
 have h1:((List.zipWith (· + ·) n o).take i).length=i:=by rw[List.length_take,List.length_zipWith];omega
 rw[List.set_append_right _ _ ag,h1,Nat.sub_self,List.take_add_one]
 have h2:n.drop i=n[i]::n.drop (i+1):=List.drop_eq_getElem_cons ag
 have h3:(List.zipWith (· + ·) n o)[i]?=some (n.getD i 0+o.getD i 0):=by
  rw[List.getElem?_zipWith,List.getD_eq_getElem?_getD,List.getD_eq_getElem?_getD,List.getElem?_eq_getElem (show i<n.length by omega),List.getElem?_eq_getElem (show i<o.length by omega)];rfl
 rw[h2,List.set_cons_zero,h3];simp
def L5(s t:St):kh t.l s.l 8=(plus s t).l:=by
 unfold kh
 simp only[St.l,plus,List.zipWith_cons_cons,List.zipWith_nil_left,List.take_succ_cons,List.take_zero,List.drop_succ_cons,List.drop_zero,List.append_nil,BitVec.add_comm]
end Sha
end Go.SL
namespace Go.Proofs.YtdigdgohdpeebaaGreatDoor
open Go Go.SL
attribute [local irreducible] J K aE Ends ae az aQ bP bj aT aU bp bW Sha.chunks Sha.chunk Sha.rounds Sha.sched dW Sha.kh
def LN(A:HP)(v:Value)(b:List UInt8)(hv:eM A v b)(MW:64≤b.length)(s:Sha.St) :
  aE Tryz.prog 106 [Qp s,v] [A] (fun r H=>r=Qp (Sha.chunk s b)∧H=[A]):=by
 have hwd:=J9 A v b hv MW
 obtain⟨a,c,rfl,hc⟩:=hv.2
 have eQ:(Sha.sched b 64).length=64:=Sha.dO b 64
 have EU:Sha.chunk s b=Sha.plus s (Sha.rounds s (Sha.sched b 64) 64):=by unfold Sha.chunk;rfl
 rw[EU]
 generalize Sha.sched b 64=W at hwd eQ ⊢
 have Lh:∀s:Sha.St,(wV s.l).length=8:=fun s=>rfl
 have abg:∀s:Sha.St,s.l.length=8:=fun s=>rfl
 have hWV:(wV W).length=64:=by rw[lx];exact eQ
 have Rz:∀s:Sha.St,wV s.l≠[]:=fun s e=>by have:=congrArg List.length e;rw[Lh]at this;cases this
 unfold Qp
 refine aE.au Tryz.func106 Tryz.ntmps106 fun G F R hE=>?_
 refine aG rfl ?_
 refine bG zr zr bD ?_
 intro b2
 refine aC zr zr zr bD ?_
 intro b4
 refine go ?_
 refine aO hwd ?_
 refine aC zr zr zr bD ?_
 intro b5
 refine aV ?_
 refine cK (U:=aS) (l':=wV W) 0 gB rfl rfl rfl hWV (by intro e;rw[e]at hWV;cases hWV) (fA _) rfl (by rw[hWV];rfl) rfl ?_
 refine go ?_
 refine aO Ac ?_
 refine aC zr zr zr bD ?_
 intro b6
 refine aV ?_
 refine cK (U:=aS) (l':=wV Sha.ks) 0 gB zr zr zr zr (by decide) (fA _) zr zr zr (go ?_)
 refine aI (H':=ae b2 (cl (wV s.l) 151)::ae b6 (cl (wV Sha.ks) 211)::ae b5 (cl (wV W) 211)::ae b4 (cl (wV (List.replicate 8 0)) 151)::A::F) ah ?_
 refine aJ (U:=aS) (l:=wV s.l) 0 zr zr zr zr zr zr ?_
 refine aC zr zr zr bD ?_
 intro b7
 refine aV ?_
 refine cK (U:=aS) (l':=wV s.l) 0 gB zr zr zr zr (Rz s) (fA _) zr zr zr (go ?_)
 refine bz (fun t:Nat=>t≤64) (fun t=>64-t)
  (fun t=>[(2,ptr b2),(4,ptr b4),(5,ptr b5),(6,ptr b6),(7,ptr b7),(8,.int .i64 (t:Int))])
  (fun t=>ae b7 (cl (wV (Sha.rounds s W t).l) 151)::ae b2 (cl (wV s.l) 151)::ae b6 (cl (wV Sha.ks) 211)::ae b5 (cl (wV W) 211)::ae b4 (cl (wV (List.replicate 8 0)) 151)::A::F) 0 (Nat.zero_le _) rfl cm (by unfold Sha.rounds;exact ah) ?_
 rintro t ht ih
 refine go ?_
 refine aq zr zr ?_ ?_
 ·intro cW
  have K7:t<64:=by omega
  have hr:Sha.rounds s W (t+1)=Sha.round (Sha.rounds s W t) (Sha.ks.getD t 0) (W.getD t 0):=by conv=>lhs;unfold Sha.rounds
  generalize Sha.rounds s W t=T at hr ⊢
  obtain⟨ta,tb,tc,td,te,tf,tg,th⟩:=T
  have Ro:(wV W)[t]?=some (u32 (W.getD t 0)):=iC (by rw[List.getD_eq_getElem?_getD,List.getElem?_eq_getElem ag];rfl)
  have hkg:=iC (Ot K7)
  generalize Sha.ks.getD t 0=kt at hr hkg
  generalize W.getD t 0=wt at hr Ro
  rw[show wV (Sha.St.l ⟨ta,tb,tc,td,te,tf,tg,th⟩)=[u32 ta,u32 tb,u32 tc,u32 td,u32 te,u32 tf,u32 tg,u32 th]from rfl]
  have Xa:wV (Sha.rounds s W (t+1)).l=[u32 (th+(Sha.uE te 6 ^^^ Sha.uE te 11 ^^^ Sha.uE te 25)+(te &&& tf ||| ~~~te &&& tg)+kt+wt+((Sha.uE ta 2 ^^^ Sha.uE ta 13 ^^^ Sha.uE ta 22)+Sha.maj ta tb tc)),u32 ta,u32 tb,u32 tc,u32 (td+(th+(Sha.uE te 6 ^^^ Sha.uE te 11 ^^^ Sha.uE te 25)+(te &&& tf ||| ~~~te &&& tg)+kt+wt)),u32 te,u32 tf,u32 tg]:=by
   rw[hr,Sha.Ya];rfl
  clear hr
  refine go ?_
  (repeat(first|refine gO ?_|refine iU zr zr zr zr zr zr ag ag ?_))
  refine aH (fun w=>Sat G w ([ae b7 (cl [u32 ta,u32 tb,u32 tc,u32 td,u32 te,u32 tf,u32 tg,u32 th] 151),ae b6 (cl (wV Sha.ks) 211),ae b5 (cl (wV W) 211)])) (df 0 3 (.st 4 (.st 7 (df 11 10 (df 22 3 (df 26 3 (.act 3 (.act 5 (.st 6 (.act 8 (.st 9 (.st 10 (.st 21 (.st 25 (.st 29 (.st 30 .nil)))))))))))))))) rfl ak ak ak eo ?_
  refine go ?_
  (repeat(first|refine gO ?_|refine ew (U:=aS) t zr zr zr zr zr zr zr zr K7 ?_|refine iU zr zr zr zr zr zr ag ag ?_|refine C3 zr zr zr ?_|refine Yr zr zr ?_|refine FO zr zr zr ?_|(refine aK ?_;first|refine eO (U:=aS) 1 t zr zr zr (Nat.zero_add _) hkg zr zr ?_|refine eO (U:=aS) 2 t zr zr zr (Nat.zero_add _) Ro zr zr ?_)))
  refine bC ((gm te 6 ag ag)) ?_
  refine bC ((gm te 11 ag ag)) ?_
  refine je zr zr zr ?_
  refine bC ((gm te 25 ag ag)) ?_
  (repeat(first|refine gO ?_|refine je zr zr zr ?_|refine j4 zr zr zr ?_))
  refine aH (fun w=>Sat G w ([ae b7 (cl [u32 ta,u32 tb,u32 tc,u32 td,u32 te,u32 tf,u32 tg,u32 th] 151)])) (.st 0 (.st 2 (.st 5 (df 8 5 (.act 1 (.act 3 (.st 4 (.act 6 (.st 7 (.act 13 (.st 14 (.st 15 .nil)))))))))))) rfl ak ak ak eo ?_
  refine go ?_
  (repeat(first|refine gO ?_|refine iU zr zr zr zr zr zr ag ag ?_))
  refine bC ((gm ta 2 ag ag)) ?_
  refine bC ((gm ta 13 ag ag)) ?_
  refine je zr zr zr ?_
  refine bC ((gm ta 22 ag ag)) ?_
  refine je zr zr zr ?_
  refine bC ((QN ta tb tc)) ?_
  refine j4 zr zr zr ?_
  (repeat(first|refine gO ?_|refine iU zr zr zr zr zr zr ag ag ?_|refine j4 zr zr zr ?_))
  refine mN (U:=aS) (cs:=wV (Sha.rounds s W (t+1)).l) zr zr zr zr zr (by rw[Xa];rfl) ?_
  refine aV ?_
  refine cK (U:=aS) (l':=wV (Sha.rounds s W (t+1)).l) 0 gB zr zr zr zr (Rz _) (fA _) zr zr zr (go ?_)
  refine aM ih (t+1) rfl ag ag cm ah
 intro fg
 have Hn:t=64:=by omega
 subst Hn
 clear ih
 rw[← Sha.L5]at hE
 generalize Sha.rounds s W 64=T at hE ⊢
 refine go ?_
 have hT8:=abg T
 have hs8:=abg s
 refine bz (fun i:Nat=>i≤8) (fun i=>8-i)
  (fun i=>[(2,ptr b2),(4,ptr b4),(7,ptr b7),(13,.int .i64 (i:Int))])
  (fun i=>ae b7 (cl (wV (Sha.kh T.l s.l i)) 151)::ae b2 (cl (wV s.l) 151)::ae b4 (cl (wV (List.replicate 8 0)) 151)::A::F) 0 (Nat.zero_le _) rfl cm (by unfold Sha.kh;exact ah) ?_
 rintro i hi ih
 have Pf:=Sha.L3 hT8 hs8 hi
 refine go ?_
 refine aq zr zr ?_ ?_
 ·intro cW
  have Gj:i<8:=by omega
  have z8:=Sha.L4 hT8 hs8 Gj
  have EK:s.l[i]?=some (s.l.getD i 0):=by rw[List.getD_eq_getElem?_getD,List.getElem?_eq_getElem ag];rfl
  have iq:=Sha.L2 hT8 hs8 Gj
  generalize T.l.getD i 0=x at z8 iq
  generalize s.l.getD i 0=y at EK iq
  refine go ?_
  refine aH (fun w=>Sat G w ([ae b7 (cl (wV (Sha.kh T.l s.l i)) 151),ae b2 (cl (wV s.l) 151)])) (df 0 9 (.act 9 .nil)) rfl ak ak ak eo ?_
  refine go ?_
  (repeat(first|refine gO ?_|refine ew (U:=aS) i zr zr zr zr zr zr zr zr Gj ?_|(refine aK ?_;first|refine eO (U:=aS) 0 i zr zr zr (Nat.zero_add _) (iC z8) zr zr ?_|refine eO (U:=aS) 1 i zr zr zr (Nat.zero_add _) (iC EK) zr zr ?_)|refine j4 zr zr zr ?_))
  refine aV ?_
  refine gV (U:=aS) 0 gB zr zr zr zr zr zr zr (by rw[lx,Pf];omega) rfl ?_
  rw[show 0+i=i from Nat.zero_add _]
  refine go ?_
  have Ez:=(xk (Sha.kh T.l s.l i) i _).trans (congrArg wV iq)
  refine ai (H':=ae b7 (cl (wV (Sha.kh T.l s.l (i+1))) 151)::ae b2 (cl (wV s.l) 151)::ae b4 (cl (wV (List.replicate 8 0)) 151)::A::F) (by rw[← Ez];exact ao.refl _) ?_
  refine aM ih (i+1) rfl ag ag cm ah
 intro fg
 have Gj:i=8:=by omega
 subst Gj
 clear ih
 have gI:=fA (Sha.kh T.l s.l 8)
 have XU:(wV (Sha.kh T.l s.l 8)).length=8:=by rw[lx];exact Pf
 generalize wV (Sha.kh T.l s.l 8)=X at gI XU hE ⊢
 refine go ?_
 refine aJ (U:=aS) 0 zr zr zr zr zr XU ?_
 refine cK (U:=aS) 2 gB rfl rfl rfl XU (by intro e;rw[e]at XU;cases XU) gI rfl (by rw[XU];rfl) rfl ?_
 refine go ?_
 refine jA (U:=aS) 2 hE Tryz.func106 zr zr zr zr zr XU rfl ⟨rfl,rfl⟩ ah
end Go.Proofs.YtdigdgohdpeebaaGreatDoor
namespace Go.Proofs.YtdigdgohdpeebaaGreatDoor
open Go Go.SL
attribute [local irreducible] J K aE Ends ae az aQ bP bj aT aU bp bW Sha.chunks Sha.chunk Sha.rounds Sha.sched dW
def JR(A:HP)(v:Value)(b:List UInt8)(hv:eM A v b)(hl:b.length≤1000000000) :
  aE Tryz.prog 51 [v] [A] (fun r H=>r=dV (dW b)∧H=[A]):=by
 obtain⟨a,c,rfl,hc⟩:=hv.2
 refine aE.au Tryz.func51 Tryz.ntmps51 fun G F R hE=>?_
 refine aG rfl ?_
 refine aC zr zr zr bD ?_
 intro b2
 refine pz ?_
 (refine aG rfl ?_;refine pz ?_)
 refine aj (cs:=[]) zr zr zr zr zr zr zr zr zr bD ?_
 intro b0
 refine go ?_
 (refine aI (dR 5 1 b0 0 0 [] [] _ rfl (Nat.le_refl _) (by simp)) ?_;refine aR (mm:=(b).length) (news:=bV (b)) 0 2 zr zr zr zr zr zr zr zr zr zr zr zr (hv.1) (by show _=_*1;rw[bt];omega) (cO _) ag (by show(_+_)*1≤_;omega) (fun _=>rfl) bD ?_;intro vA;rw[Nat.zero_add,List.nil_append];((refine aN 0 rfl ?_));rintro aA cA rfl)
 refine go ?_
 (refine aj (cs:=bV [(128:UInt8)]) zr zr zr zr zr zr zr zr zr bD ?_;intro bA;refine aR (mm:=1) (news:=bV [(128:UInt8)]) 1 0 zr zr zr zr zr zr zr zr zr zr zr zr (Vw.ae rfl) rfl (cO _) ag (by show(_+_)*1≤_;omega) (fun _=>rfl) bD ?_;intro vA;rw[show bV (b)++bV [(128:UInt8)]=bV ((b)++[(128:UInt8)])from by simp[bV],show(b).length+1=((b)++[(128:UInt8)]).length from(@List.length_append _ (b) [(128:UInt8)]).symm];((refine aN 1 rfl ?_));rintro aA cA rfl)
 refine go ?_
 obtain⟨z,hz⟩:∃z,z=(119-b.length%64)%64:=⟨_,rfl⟩
 have SK:(b.length+1+z)%64=56:=by omega
 have SH:z<64:=by omega
 have rA:∀j:Nat,(b++128::List.replicate j (0:UInt8)).length=b.length+1+j:=fun j=>by simp;omega
 refine bz (fun y:Nat × Option Addr × Nat=>y.1≤z) (fun y=>z-y.1)
  (fun y=>[(0,.slice a b.length c),(2,ptr b2),(3,.slice y.2.1 (b++128::List.replicate y.1 (0:UInt8)).length y.2.2)])
  (fun y=>az 5 1 (.slice y.2.1 (b++128::List.replicate y.1 (0:UInt8)).length y.2.2) (b++128::List.replicate y.1 (0:UInt8)).length (bV (b++128::List.replicate y.1 (0:UInt8)))::A::ae b2 (cl (dC Dg.zero) 36)::F) (0,aA,cA) (Nat.zero_le _) rfl cm ah ?_
 rintro⟨j,a2,c2⟩ hj ih
 simp only at hj
 have wx:=rA j
 dsimp only
 refine go ?_
 refine ou zr zr zr ag ag (go ?_)
 refine aq zr zr ?_ ?_
 ·intro bZ
  have hjz:j<z:=by
   rcases Nat.lt_or_ge j z with h|h
   ·exact h
   ·exfalso
    apply bZ
    rw[wx]
    have:j=z:=by omega
    subst this
    omega
  refine go ?_
  (refine aj (cs:=bV [(0:UInt8)]) zr zr zr zr zr zr zr zr zr bD ?_;intro bA;refine aR (mm:=1) (news:=bV [(0:UInt8)]) 1 0 zr zr zr zr zr zr zr zr zr zr zr zr (Vw.ae rfl) rfl (cO _) (by(rw[wx];omega)) (by show(_+_)*1≤_;(rw[wx];omega)) (fun _=>rfl) bD ?_;intro vA;rw[show bV ((b++128::List.replicate j (0:UInt8)))++bV [(0:UInt8)]=bV (((b++128::List.replicate j (0:UInt8)))++[(0:UInt8)])from by simp[bV],show((b++128::List.replicate j (0:UInt8))).length+1=(((b++128::List.replicate j (0:UInt8)))++[(0:UInt8)]).length from(@List.length_append _ ((b++128::List.replicate j (0:UInt8))) [(0:UInt8)]).symm];((refine aN 1 rfl ?_));rintro aA cA rfl)
  rw[show b++128::List.replicate j (0:UInt8)++[0]=b++128::List.replicate (j+1) (0:UInt8)from by rw[List.replicate_succ'];simp]
  refine go ?_
  refine aM ih (j+1,aA,cA) rfl (by simp only;omega) (by simp only;omega) cm ah
 intro heq
 have hjz:j=z:=by
  have adG:((b.length+1+j:Nat):Int)%64=56:=by rw[← wx];exact Decidable.not_not.1 heq
  omega
 subst hjz
 clear ih
 obtain⟨T0,Pg⟩:∃T0,T0=b++128::List.replicate j (0:UInt8):=⟨_,rfl⟩
 rw[← Pg]at wx ⊢
 have Hy:∀i:Nat,i≤8→(T0++(Sha.pe (8*b.length)).take i).length=T0.length+i:=fun i hi=>by
  rw[List.length_append,List.length_take];simp only[Sha.pe,List.length_map,List.length_range];omega
 refine go ?_
 refine ib zr zr zr (by simp only[gn];omega) ?_
 refine aB 24 ((.int .u64 ((8*b.length:Nat):Int))) rfl ((congrArg (Value.int .u64) ag)) (go ?_)
 refine bz (fun y:Nat × Option Addr × Nat=>y.1≤8) (fun y=>8-y.1)
  (fun y=>[(2,ptr b2),(3,.slice y.2.1 (T0++(Sha.pe (8*b.length)).take y.1).length y.2.2),(4,.int .u64 ((8*b.length:Nat):Int)),(5,.int .i64 (y.1:Int))])
  (fun y=>az 5 1 (.slice y.2.1 (T0++(Sha.pe (8*b.length)).take y.1).length y.2.2) (T0++(Sha.pe (8*b.length)).take y.1).length (bV (T0++(Sha.pe (8*b.length)).take y.1))::A::ae b2 (cl (dC Dg.zero) 36)::F) (0,a2,c2) (Nat.zero_le _) rfl (by simp only[List.take_zero,List.append_nil];exact cm) (by simp only[List.take_zero,List.append_nil];exact ah) ?_
 rintro⟨i,a3,c3⟩ hi ih
 simp only at hi
 have MP:=Hy i hi
 dsimp only
 refine go ?_
 refine aq zr zr ?_ ?_
 ·intro cW
  have Gj:i<8:=by omega
  have Ls:(Sha.pe (8*b.length)).take (i+1)=(Sha.pe (8*b.length)).take i++[UInt8.ofNat (8*b.length/2 ^ (56-8*i))]:=by
   rw[List.take_add_one];simp[Sha.pe,Gj]
  refine go ?_
  refine ib zr zr zr (by simp only[gn];omega) ?_
  refine go ?_
  refine aB 34 ((.int .u64 ((56-8*i:Nat):Int))) rfl ((congrArg (Value.int .u64) ag)) ?_
  refine jo zr zr zr ag ?_
  ((refine aB 35 ((.int .u64 ((8*b.length/2 ^ (56-8*i):Nat):Int))) rfl ((congrArg (Value.int .u64) (by rw[Int.toNat_natCast,show min (56-8*i) IntKind.u64.bits=56-8*i from by show min (56-8*i) 64=_;omega];simp))) ?_))
  refine eP ?_
  refine iV zr zr zr zr zr zr ?_
  refine aB 36 ((u8 (UInt8.ofNat (8*b.length/2 ^ (56-8*i))))) rfl ((lP _)) ?_
  (refine aj (cs:=bV [(UInt8.ofNat (8*b.length/2 ^ (56-8*i)))]) zr zr zr zr zr zr zr zr zr bD ?_;intro bA;refine aR (mm:=1) (news:=bV [(UInt8.ofNat (8*b.length/2 ^ (56-8*i)))]) 1 0 zr zr zr zr zr zr zr zr zr zr zr zr (Vw.ae rfl) rfl (cO _) (by(rw[MP];omega)) (by show(_+_)*1≤_;(rw[MP];omega)) (fun _=>rfl) bD ?_;intro vA;rw[show bV ((T0++(Sha.pe (8*b.length)).take i))++bV [(UInt8.ofNat (8*b.length/2 ^ (56-8*i)))]=bV (((T0++(Sha.pe (8*b.length)).take i))++[(UInt8.ofNat (8*b.length/2 ^ (56-8*i)))])from by simp[bV],show((T0++(Sha.pe (8*b.length)).take i)).length+1=(((T0++(Sha.pe (8*b.length)).take i))++[(UInt8.ofNat (8*b.length/2 ^ (56-8*i)))]).length from(@List.length_append _ ((T0++(Sha.pe (8*b.length)).take i)) [(UInt8.ofNat (8*b.length/2 ^ (56-8*i)))]).symm];((refine aN 1 rfl ?_));rintro aA cA rfl)
  rw[show T0++(Sha.pe (8*b.length)).take i++[UInt8.ofNat (8*b.length/2 ^ (56-8*i))]=T0++(Sha.pe (8*b.length)).take (i+1)from by rw[Ls,List.append_assoc]]
  refine go ?_
  refine aM ih (i+1,aA,cA) rfl (by simp only;omega) (by simp only;omega) cm ah
 intro fg
 have Gj:i=8:=by omega
 subst Gj
 clear ih
 have EG:T0++(Sha.pe (8*b.length)).take 8=Sha.msg b:=by
  rw[Pg,List.take_of_length_le (by simp[Sha.pe])]
  unfold Sha.msg Sha.pad
  rw[← hz];simp
 have oZ:(dW b).bs=Sha.out (Sha.chunks Sha.start (Sha.msg b) ((Sha.msg b).length/64)):=IL b
 rw[← EG]at oZ
 generalize T0++(Sha.pe (8*b.length)).take 8=T at MP oZ ⊢
 have adX:T.length%64=0:=by omega
 have hTl:T.length≤1000000200:=by omega
 clear wx Hy Pg rA hz SK SH MP EG
 have Lh:∀s:Sha.St,(wV s.l).length=8:=fun s=>rfl
 have Rz:∀s:Sha.St,wV s.l≠[]:=fun s e=>by have:=congrArg List.length e;rw[Lh]at this;cases this
 refine qx (bs:=T) 0 rfl ?_
 intro Rp
 have W4:eM (Sep [az 5 1 (.slice a3 T.length c3) T.length (bV T),A]) (.slice a3 T.length c3) T:=Rp.mono (bh (i:=0) rfl)
 refine ai (ao.bS [_,_] _) (go ?_)
 refine mN (U:=aS) (cs:=wV Sha.start.l) zr zr zr zr zr zr ?_
 refine aC zr zr zr bD ?_
 intro b6
 refine aV ?_
 refine cK (U:=aS) (l':=wV Sha.start.l) 0 gB zr zr zr zr (by decide) (fA _) zr zr zr (go ?_)
 refine bz (fun y:Nat × Option Addr × Nat=>64*y.1≤T.length∧eM (Sep [az 5 1 (.slice a3 T.length c3) T.length (bV T),A]) (.slice y.2.1 (T.length-64*y.1) y.2.2) (T.drop (64*y.1))) (fun y=>T.length-64*y.1)
  (fun y=>[(2,ptr b2),(6,ptr b6),(3,.slice y.2.1 (T.length-64*y.1) y.2.2)])
  (fun y=>ae b6 (cl (wV (Sha.chunks Sha.start T y.1).l) 151)::Sep [az 5 1 (.slice a3 T.length c3) T.length (bV T),A]::ae b2 (cl (dC Dg.zero) 36)::F) (0,a3,c3) ⟨ag,W4⟩ rfl cm (by unfold Sha.chunks;exact ah) ?_
 rintro⟨q,a4,c4⟩⟨hq,hbq⟩ ih
 simp only at hq hbq
 dsimp only
 refine go ?_
 refine aq zr zr ?_ ?_
 ·intro cW
  have hq1:64*q+64≤T.length:=by omega
  have Gm:(T.drop (64*q)).length=T.length-64*q:=List.length_drop
  have wO:=hbq.front 64 (by rw[Gm];omega)
  have zO:=hbq.cut 64 (by rw[Gm];omega)
  have j8:((T.drop (64*q)).take 64).length=64:=by rw[List.length_take,Gm];omega
  have EU:=LN _ _ _ wO (by rw[j8];omega) (Sha.chunks Sha.start T q)
  have px:Sha.chunk (Sha.chunks Sha.start T q) ((T.drop (64*q)).take 64)=Sha.chunks Sha.start T (q+1):=by
   have h1:=Sha.Bi (Sha.chunks Sha.start T q) ((T.drop (64*q)).take 64) ((T.drop (64*q)).drop 64) (by rw[j8];omega)
   rw[List.take_append_drop]at h1
   rw[← h1]
   conv=>rhs;unfold Sha.chunks
  rw[px]at EU
  refine go ?_
  refine aH (fun w=>Sat G w ([ae b6 (cl (wV (Sha.chunks Sha.start T q).l) 151)])) (df 0 3 (.act 3 (.act 4 .nil))) rfl ak ak ak eo ?_
  refine go ?_
  refine bY (U:=aS) 0 zr zr zr zr zr zr (go ?_)
  refine bB (p:=0) (q:=64) rfl rfl rfl rfl rfl rfl rfl ag ag (.inr (by obtain⟨_,_,_,he,hcc⟩:=hbq;simp only[Value.slice.injEq]at he;rw[Gm]at hcc;omega)) ?_
  refine aB 45 ((.slice (sliceAt a4 c4 0 1) 64 c4)) rfl (rfl) ?_
  refine bC EU ?_
  unfold Qp
  refine aV ?_
  refine cK (U:=aS) 1 gB zr zr zr zr (Rz _) (fA _) rfl (by rw[Lh,Lh]) rfl (go ?_)
  refine bB (p:=64) (q:=((T.length-64*q:Nat):Int)) zr zr zr zr zr zr zr ag ag (.inl rfl) ?_
  ((refine aB 48 ((.slice (sliceAt a4 c4 64 1) (T.length-64*(q+1)) (c4-64))) rfl ((by rw[show(((T.length-64*q:Nat):Int)).toNat-(64:Int).toNat=T.length-64*(q+1)from by omega];rfl)) ?_))
  refine go ?_
  rw[List.drop_drop,Gm,show T.length-64*q-64=T.length-64*(q+1)from by omega,show 64*q+64=64*(q+1)from by omega]at zO
  refine aM ih (q+1,sliceAt a4 c4 64 1,c4-64) rfl ⟨by simp only;omega,zO⟩ (by simp only;omega) cm ah
 intro fg
 have Xc:q=T.length/64:=by omega
 subst Xc
 clear ih
 generalize Sha.chunks Sha.start T (T.length/64)=S2 at oZ ⊢
 refine ai (ao.trans (ao.pick [1] rfl) (ao.cJ _ _)) (go ?_)
 refine aC zr zr zr bD ?_
 intro b9
 refine go ?_
 have Rx:=Sha.B8 S2
 have Gm:∀i,i≤32→((Sha.out S2).take i++List.replicate (32-i) (0:UInt8)).length=32:=fun i hi=>by
  rw[List.length_append,List.length_take,List.length_replicate,Rx];omega
 refine bz (fun i:Nat=>i≤32) (fun i=>32-i)
  (fun i=>[(2,ptr b2),(6,ptr b6),(7,ptr b9),(8,.int .i64 (i:Int))])
  (fun i=>ae b9 (cl (bV ((Sha.out S2).take i++List.replicate (32-i) (0:UInt8))) 36)::ae b6 (cl (wV S2.l) 151)::ae b2 (cl (dC Dg.zero) 36)::A::F) 0 (Nat.zero_le _) rfl cm ah ?_
 rintro i hi ih
 refine go ?_
 refine aq zr zr ?_ ?_
 ·intro cW
  have tM:i<32:=by omega
  have hq4:(i:Int)/4=((i/4:Nat):Int):=by omega
  have hr4:24-8*((i:Int)%4)=((24-8*(i%4):Nat):Int):=by omega
  have Ro:(wV S2.l)[i/4]?=some (u32 (S2.l.getD (i/4) 0)):=iC (by rw[List.getD_eq_getElem?_getD,List.getElem?_eq_getElem (show i/4<S2.l.length from by show i/4<8;omega)];rfl)
  have rz:(Sha.out S2)[i]?=some (UInt8.ofNat ((S2.l.getD (i/4) 0) >>> (24-8*(i%4))).toNat):=by simp[Sha.out,tM]
  (repeat(first|refine gO ?_|refine lI zr zr zr ag ag (by simp only[gn];omega) ?_|refine ou zr zr zr ag ag ?_|refine ib zr zr zr (by simp only[gn];omega) ?_|refine ew (U:=aS) (i/4) zr zr zr zr zr zr zr hq4 ag ?_|(refine aK ?_;refine mL (U:=aS) 1 (i/4) zr zr zr (Nat.zero_add _) Ro zr zr ?_)|refine qA (24-8*(i%4)) zr zr zr hr4 ag ?_|(refine eP ?_;refine Bx (U:=aS) zr zr zr zr zr zr ?_)|refine ew (U:=aS) i zr zr zr zr zr zr zr zr tM ?_))
  refine aV ?_
  refine gV (U:=aS) 0 gB zr zr zr zr zr zr zr (by rw[bt,Gm i ag];omega) rfl ?_
  rw[show 0+i=i from Nat.zero_add _,DZ Rx rz]
  refine go ?_
  refine aM ih (i+1) rfl ag ag cm ah
 intro fg
 have tM:i=32:=by omega
 subst tM
 rw[List.take_of_length_le ag,show 32-32=0 from rfl,List.replicate_zero,List.append_nil,← oZ,← dz]
 clear ih Gm Rx oZ
 refine go ?_
 refine aJ (U:=aS) (l:=dC (dW b)) 0 zr zr zr zr zr zr ?_
 refine cK (U:=aS) (l':=dC (dW b)) 2 gB rfl rfl rfl rfl (by intro e;cases e) (by rw[dz];exact jH _) rfl rfl rfl ?_
 refine go ?_
 (refine bg hE ?_;apply aY (U:=aS) hE Tryz.func51 rfl (ao.refl _);(repeat(first|exact aP.nil|apply aP.agg 2 zr zr zr zr zr));exact⟨rfl,rfl⟩;exact ah)
attribute [local irreducible] cH
def Me(A:HP)(tag:UInt8)(v:Value)(ps:List (List UInt8))(hv:qv A v ps)(hl:(cX tag ps).length≤1000000000) :
  aE Tryz.prog 170 [u8 tag,v] [A] (fun r H=>H=[az 5 1 r (cX tag ps).length (bV (cX tag ps)),A]):=by
 obtain⟨cs,dM,lH,⟨a,c,rfl,hc⟩,py⟩:=hv
 have ET:=tB tag ps
 refine aE.au Tryz.func170 Tryz.ntmps170 fun G F R hE=>?_
 refine go ?_
 refine aj (cs:=bV [tag]) zr zr zr zr zr zr zr zr zr bD ?_
 intro b0
 refine go ?_
 refine ai (dR 5 1 b0 1 1 (bV [tag]) [] _ rfl (Nat.le_refl _) (by simp[bV])) ?_
 refine bz (fun y:Nat × Option Addr × Nat=>y.1≤ps.length) (fun y=>ps.length-y.1)
  (fun y=>[(1,.slice a ps.length c),(6,.int .i64 (y.1:Int)),(5,.slice y.2.1 (cX tag (ps.take y.1)).length y.2.2)])
  (fun y=>az 5 1 (.slice y.2.1 (cX tag (ps.take y.1)).length y.2.2) (cX tag (ps.take y.1)).length (bV (cX tag (ps.take y.1)))::A::F) (0,some ⟨b0,0,none⟩,1) (Nat.zero_le _) rfl cm ah ?_
 rintro⟨i,a1,c1⟩ hi ih
 simp only at hi
 dsimp only
 refine go ?_
 refine aq zr zr ?_ ?_
 ·intro cW
  have lB:i<ps.length:=by omega
  obtain⟨p,hp⟩:∃p,ps[i]?=some p:=⟨ps[i],List.getElem?_eq_getElem lB⟩
  obtain⟨cv,oC,hb⟩:=py i p hp
  obtain⟨b1,o1,c0,qZ⟩:=dM.some (by intro h;rw[h]at oC;simp at oC)
  simp only[Value.slice.injEq]at qZ
  obtain⟨rfl,-,rfl⟩:=qZ
  have j8:=vN (tag:=tag) hp
  have hle:=AM tag ps (i+1)
  have abb:=I9 p.length
  rw[j8]at hle
  simp only[List.length_append]at hle
  obtain⟨T0,Pg⟩:∃T0,T0=cX tag (ps.take i):=⟨_,rfl⟩
  rw[← Pg]at j8 hle ⊢
  obtain⟨ax,cx,rfl,Tj⟩:=hb.2
  have Hy:∀j:Nat,j≤8→(T0++(lM p.length).take j).length=T0.length+j:=fun j hj=>by
   rw[List.length_append,List.length_take];omega
  refine go ?_
  refine bI i zr zr zr zr zr zr zr zr lB ?_
  refine aK ?_
  refine aX 1 i zr zr zr dM rfl oC zr zr (go ?_)
  refine bz (fun y:Nat × Option Addr × Nat=>y.1≤8) (fun y=>8-y.1)
   (fun y=>[(1,.slice (some ⟨b1,o1,none⟩) ps.length c),(6,.int .i64 (i:Int)),(7,.int .u64 ((p.length/2 ^ (8*y.1):Nat):Int)),(5,.slice y.2.1 (T0++(lM p.length).take y.1).length y.2.2),(8,.int .i64 (y.1:Int))])
   (fun y=>az 5 1 (.slice y.2.1 (T0++(lM p.length).take y.1).length y.2.2) (T0++(lM p.length).take y.1).length (bV (T0++(lM p.length).take y.1))::A::F) (0,a1,c1) (Nat.zero_le _) rfl (by simp only[List.take_zero,List.append_nil,Nat.mul_zero,Nat.pow_zero,Nat.div_one];exact cm) (by simp only[List.take_zero,List.append_nil];exact ah) ?_
  rintro⟨j,a2,c2⟩ hj Hl
  simp only at hj
  have wx:=Hy j hj
  dsimp only
  refine go ?_
  refine aq zr zr ?_ ?_
  ·intro hj8
   have Xy:j<8:=by omega
   have htj:=Eo (n:=p.length) Xy
   obtain⟨m,hm⟩:∃m,m=p.length/2 ^ (8*j):=⟨_,rfl⟩
   have aet:m≤p.length:=by rw[hm];exact Nat.div_le_self _ _
   have YM:p.length/2 ^ (8*(j+1))=m/256:=by
    rw[hm,Nat.div_div_eq_div_mul,show 8*(j+1)=8*j+8 from by omega,Nat.pow_add]
   rw[← hm]at htj ⊢
   refine go ?_
   refine ou zr zr zr ag ag ?_
   refine eP ?_
   refine iV zr zr zr zr zr zr ?_
   ((refine aB 30 ((u8 (UInt8.ofNat m))) rfl ((by rw[show((m:Int)%256)=((m%256:Nat):Int)from by omega,lP];congr 1;apply UInt8.toNat.inj;simp only[UInt8.toNat_ofNat'];omega)) ?_))
   (refine aj (cs:=bV [(UInt8.ofNat m)]) zr zr zr zr zr zr zr zr zr bD ?_;intro bA;refine aR (mm:=1) (news:=bV [(UInt8.ofNat m)]) 1 0 zr zr zr zr zr zr zr zr zr zr zr zr (Vw.ae rfl) rfl (cO _) (by(rw[wx];omega)) (by show(_+_)*1≤_;(rw[wx];omega)) (fun _=>rfl) bD ?_;intro vA;rw[show bV ((T0++(lM p.length).take j))++bV [(UInt8.ofNat m)]=bV (((T0++(lM p.length).take j))++[(UInt8.ofNat m)])from by simp[bV],show((T0++(lM p.length).take j)).length+1=(((T0++(lM p.length).take j))++[(UInt8.ofNat m)]).length from(@List.length_append _ ((T0++(lM p.length).take j)) [(UInt8.ofNat m)]).symm];((refine aN 1 rfl ?_));rintro aA cA rfl)
   rw[show T0++(lM p.length).take j++[UInt8.ofNat m]=T0++(lM p.length).take (j+1)from by rw[htj,List.append_assoc]]
   refine go ?_
   refine lI zr zr zr ag ag (by simp only[gn];omega) ?_
   ((refine aB 34 ((.int .u64 ((p.length/2 ^ (8*(j+1)):Nat):Int))) rfl ((congrArg (Value.int .u64) (by rw[YM];omega))) ?_))
   refine go ?_
   refine aM Hl (j+1,aA,cA) rfl (by simp only;omega) (by simp only;omega) cm ah
  intro fg
  have hj8:j=8:=by omega
  subst hj8
  rw[List.take_of_length_le ag]at wx ⊢
  refine go ?_
  refine bI i zr zr zr zr zr zr zr zr lB ?_
  refine aK ?_
  refine aX 1 i zr zr zr dM rfl oC zr zr ?_
  (refine aR (mm:=(p).length) (news:=bV (p)) 0 1 zr zr zr zr zr zr zr zr zr zr zr zr (hb.1) (by show _=_*1;rw[bt];omega) (cO _) (by(rw[wx];omega)) (by show(_+_)*1≤_;(rw[wx];omega)) (fun _=>rfl) bD ?_;intro vA;rw[show bV ((T0++lM p.length))++bV (p)=bV (((T0++lM p.length))++(p))from by simp[bV],show((T0++lM p.length)).length+(p).length=(((T0++lM p.length))++(p)).length from(@List.length_append _ ((T0++lM p.length)) (p)).symm];((refine aN 0 rfl ?_));rintro aA cA rfl)
  rw[show T0++lM p.length++p=cX tag (ps.take (i+1))from by rw[j8,List.append_assoc]]
  refine go ?_
  refine aM ih (i+1,aA,cA) rfl (by simp only;omega) (by simp only;omega) cm ah
 intro fg
 have gh:i=ps.length:=by omega
 subst gh
 rw[List.take_length]
 refine go ?_
 refine aL hE Tryz.func170 rfl _ zr zr ah
def zl(A:HP)(tag:UInt8)(v:Value)(ps:List (List UInt8))(hv:qv A v ps)(hl:(cX tag ps).length≤1000000000) :
  aE Tryz.prog 107 [u8 tag,v] [A] (fun r H=>r=dV (cH tag ps)∧H=[A]):=by
 have Xf:=Me A tag v ps hv hl
 obtain⟨cs,dM,lH,⟨a,c,rfl,hc⟩,py⟩:=hv
 have htg:cH tag ps=dW (cX tag ps):=by unfold cH;rfl
 rw[htg]
 refine aE.au Tryz.func107 Tryz.ntmps107 fun G F R hE=>?_
 refine aG rfl ?_
 refine aC zr zr zr bD ?_
 intro b4
 refine go ?_
 refine aF Xf ?_
 rintro r _ rfl
 refine gM (bs:=cX tag ps) 0 rfl ?_
 intro Rp
 refine aI (ao.bS [_,_] _) ?_
 refine aO (JR _ _ (cX tag ps) (Rp.mono (bh (H:=[az 5 1 r (cX tag ps).length (bV (cX tag ps)),A]) (i:=0) rfl)) hl) ?_
 refine aI (ao.cJ _ _) (go ?_)
 (refine bg hE ?_;apply aY (U:=aS) hE Tryz.func107 rfl (ao.refl _);(repeat(first|exact aP.nil|apply aP.agg 2 zr zr zr zr zr));exact⟨rfl,rfl⟩;exact ah)
def P4(A:HP)(v:Value)(b:List UInt8)(hv:eM A v b)(hl:b.length≤900000000):aE Tryz.prog 69 [v] [A] (fun r H=>r=dV (db b)∧H=[A]):=by
 obtain⟨a,c,rfl,hc⟩:=hv.2
 refine aE.au Tryz.func69 Tryz.ntmps69 fun G F R hE=>?_
 refine aG rfl ?_
 refine aC zr zr zr bD ?_
 intro b2
 refine pz ?_
 (refine aG rfl ?_;refine pz ?_)
 refine aj (cs:=[.slice a b.length c]) zr zr zr zr zr zr zr zr zr bD ?_
 intro b0
 refine aI (ao.trans (ao.pick [0,2] rfl) (ao.bS [_,_] _)) ?_
 ((refine aF (zl (Sep [ae b0 (cl [.slice a b.length c] 39),A]) 0 _ [b] (qv.row rfl rfl (fun i x hx=>by cases i with|zero=>(simp at hx;subst hx;exact⟨_,rfl,hv⟩)|succ i=>simp at hx)) (by simp[cX,lM];omega)) ?_))
 rintro _ _⟨rfl,rfl⟩
 refine aI (ao.cJ _ _) (go ?_)
 (refine bg hE ?_;apply aY (U:=aS) hE Tryz.func69 rfl (ao.refl _);(repeat(first|exact aP.nil|apply aP.agg 2 zr zr zr zr zr));exact⟨rfl,rfl⟩;exact ah)
def P2(l r:Dg):aE Tryz.prog 132 [dV l,dV r] [] (fun x H=>x=dV (iv l r)∧H=[]):=by
 unfold dV
 refine aE.au Tryz.func132 Tryz.ntmps132 fun G F R hE=>?_
 refine aG rfl ?_
 refine bG zr zr bD ?_
 intro b2
 refine bG zr zr bD ?_
 intro b3
 refine aC zr zr zr bD ?_
 intro b4
 refine go ?_
 refine aH (fun w=>Sat G w ([])) (.st 0 (.st 1 (.act 2 (.act 3 (.act 4 .nil))))) rfl ak ak ak eo ?_
 refine go ?_
 refine g8 (U:=aS) zr zr zr zr zr (go ?_)
 refine g8 (U:=aS) zr zr zr zr zr ?_
 refine aj (cs:=[.slice (some ⟨b2,0,none⟩) 32 32,.slice (some ⟨b3,0,none⟩) 32 32]) zr zr zr zr zr zr zr zr zr (fun _ _ hw=>hw.cN ah) ?_
 intro b0
 refine aI (ao.trans (ao.pick [3,2] rfl) (ao.trans (ao.bS [_,_] _) (ao.trans (ao.pick [1,0] rfl) (ao.bS [_,_] _)))) ?_
 have mW:qv (Sep [ae b0 (cl [.slice (some ⟨b2,0,none⟩) 32 32,.slice (some ⟨b3,0,none⟩) 32 32] 39),Sep [ae b2 (cl (dC l) 36),ae b3 (cl (dC r) 36)] ]) (.slice (some ⟨b0,0,none⟩) 2 2) [l.bs,r.bs]:=by
  refine qv.row zr zr (fun i x hx=>?_)
  match i,hx with
  | 0,hx =>
   simp at hx
   subst hx
   exact⟨_,rfl,(eM.block l.len (dz l)).mono (bh (i:=0) rfl)⟩
  | 1,hx =>
   simp at hx
   subst hx
   exact⟨_,rfl,(eM.block r.len (dz r)).mono (bh (i:=1) rfl)⟩
  | i+2,hx=>simp at hx
 have W5:=zl _ 1 _ [l.bs,r.bs] mW (by simp[cX,lM,l.len,r.len])
 refine bC W5 ?_
 refine aI (ao.trans (ao.cJ _ _) (ao.trans (ao.pick [1] rfl) (ao.cJ _ _))) (go ?_)
 (refine bg hE ?_;apply aY (U:=aS) hE Tryz.func132 rfl (ao.refl _);(repeat(first|exact aP.nil|apply aP.agg 3 zr zr zr zr zr));exact⟨rfl,rfl⟩;exact ah)
def dgE{l:List Dg}{i:Nat}{x:Dg}(hx:l[i]?=some x)(q:Nat)(v:Value)(hq:(dC x)[q]?=some v):(l.flatMap dC)[i*32+q]?=some v:=by
 rw[cP cT hx q (by rcases Nat.lt_or_ge q 32 with h|h;exact h;rw[List.getElem?_eq_none (by rw[cT];exact h)]at hq;cases hq)]
 exact hq
def ad0{l:List Dg}{i:Nat}(h:i<l.length):l.flatMap dC≠[]:=by
 rw[← List.length_pos_iff,cu cT];omega
def Bp(A:HP)(v:Value)(l:List Dg)(hv:Vw A v l.length (l.flatMap dC))(hl:l.length≤1000000) :
  aE Tryz.prog 70 [v] [A] (fun r H=>H=[az 36 32 r (bH l).length ((bH l).flatMap dC),A]):=by
 obtain⟨a,c,rfl⟩:=hv.shape
 have Pf:=cY l
 refine aE.au Tryz.func70 Tryz.ntmps70 fun G F R hE=>?_
 refine go ?_
 refine ai (bO 36 32 none _) ?_
 refine bz (fun y:Nat × Option Addr × Nat=>y.1≤(l.length+1)/2) (fun y=>(l.length+1)/2-y.1)
  (fun y=>[(0,.slice a l.length c),(3,.slice y.2.1 ((bH l).take y.1).length y.2.2),(4,.int .i64 ((2*y.1:Nat):Int))])
  (fun y=>az 36 32 (.slice y.2.1 ((bH l).take y.1).length y.2.2) ((bH l).take y.1).length (((bH l).take y.1).flatMap dC)::A::F) (0,none,0) (Nat.zero_le _) rfl cm ah ?_
 rintro⟨q,oa,oc⟩ hq ih
 simp only at hq
 dsimp only
 have tJ:((bH l).take q).length=q:=by rw[List.length_take];omega
 refine go ?_
 refine aq zr zr ?_ ?_
 ·intro cW
  have hql:2*q<l.length:=by omega
  obtain⟨x,hx⟩:∃x,l[2*q]?=some x:=⟨l[2*q],by simp⟩
  obtain⟨b,o,gQ,fO⟩:=hv.some (ad0 hql)
  simp only[Value.slice.injEq]at fO
  obtain⟨rfl,_,rfl⟩:=fO
  refine go ?_
  refine aq zr zr ?_ ?_
  ·intro aa'
   have ac3:2*q+1<l.length:=by omega
   obtain⟨y,hy⟩:∃x,l[2*q+1]?=some x:=⟨l[2*q+1],by simp⟩
   have pG:=Bq hx hy
   have j8:(bH l).take (q+1)=(bH l).take q++[iv x y]:=by rw[List.take_add_one,pG];rfl
   refine go ?_
   refine aH (fun w=>Sat G w ([A])) (df 0 10 (.act 10 (.act 11 (.act 12 (.st 13 .nil))))) rfl ak ak ak eo ?_
   refine go ?_
   refine cG (2*q) 32 zr zr zr zr zr zr zr zr hql ?_
   refine aK ?_
   refine gW (U:=aS) (es:=dC x) 0 ((2*q)*32) zr zr zr hv rfl (dgE hx) zr zr zr (go ?_)
   refine cG (2*q+1) 32 zr zr zr zr zr zr zr zr ac3 ?_
   refine aK ?_
   refine gW (U:=aS) (es:=dC y) 0 ((2*q+1)*32) zr zr zr hv rfl (dgE hy) zr zr zr ?_
   refine bC ((P2 x y)) ?_
   refine aj (cs:=dC (iv x y)) zr zr zr zr zr zr zr zr zr (fun _ _ hw=>hw.cN ah) ?_
   intro row
   refine go ?_
   refine aR (mm:=1) (news:=dC (iv x y)) 1 0 zr zr zr zr zr zr zr zr zr zr zr zr (Vw.ae rfl) rfl (by rw[dz];exact cO _) (by rw[tJ];omega) (by show(_+_)*32≤_;rw[tJ];omega) (fun _=>rfl) (fun _ _ hw=>hw.cN ah) ?_
   intro v1
   rw[show((bH l).take q).flatMap dC++dC (iv x y)=((bH l).take (q+1)).flatMap dC from by rw[j8];simp,show((bH l).take q).length+1=((bH l).take (q+1)).length from by rw[j8];simp]
   refine aN 1 rfl ?_
   rintro ja jc rfl
   refine go ?_
   refine bu 4 ((.int .i64 ((2*(q+1):Nat):Int))) rfl ((congrArg (Value.int .i64) ag)) ?_
   refine aM ih (q+1,ja,jc) rfl (by simp only;omega) (by simp only;omega) cm ah
  ·intro abt
   have pG:=v8 hx ag
   have j8:(bH l).take (q+1)=(bH l).take q++[x]:=by rw[List.take_add_one,pG];rfl
   refine go ?_
   refine cG (2*q) 32 zr zr zr zr zr zr zr zr hql ?_
   refine aK ?_
   refine cR (U:=aS) (es:=dC x) 1 ((2*q)*32) zr zr zr hv rfl (dgE hx) zr zr zr ?_
   refine aj (cs:=dC x) zr zr zr zr zr zr zr zr zr bD ?_
   intro row
   refine go ?_
   refine aR (mm:=1) (news:=dC x) 1 0 zr zr zr zr zr zr zr zr zr zr zr zr (Vw.ae rfl) rfl (by rw[dz];exact cO _) (by rw[tJ];omega) (by show(_+_)*32≤_;rw[tJ];omega) (fun _=>rfl) bD ?_
   intro v1
   rw[show((bH l).take q).flatMap dC++dC x=((bH l).take (q+1)).flatMap dC from by rw[j8];simp,show((bH l).take q).length+1=((bH l).take (q+1)).length from by rw[j8];simp]
   refine aN 1 rfl ?_
   rintro ja jc rfl
   refine go ?_
   refine bu 4 ((.int .i64 ((2*(q+1):Nat):Int))) rfl ((congrArg (Value.int .i64) ag)) ?_
   refine aM ih (q+1,ja,jc) rfl (by simp only;omega) (by simp only;omega) cm ah
 intro fg
 have Xc:(bH l).take q=bH l:=by rw[List.take_of_length_le];omega
 rw[Xc]
 refine go ?_
 refine aL hE Tryz.func70 rfl _ zr zr ah
def PV(A:HP)(v:Value)(l0:List Dg)(hv:Vw A v l0.length (l0.flatMap dC))(O1:l0.length≤1000000)(bZ:l0≠[]):aE Tryz.prog 52 [v] [A] (fun r H=>r=dV (xR l0)∧H=[A]):=by
  obtain⟨a,c,rfl⟩:=hv.shape
  have lA:0<l0.length:=List.length_pos_iff.2 bZ
  refine aE.au Tryz.func52 Tryz.ntmps52 fun G F R hE=>?_
  refine aG rfl ?_
  refine aC zr zr zr bD ?_
  intro b2
  refine go ?_
  refine aq zr zr ?_ ?_
  · intro h0;exfalso;omega
  intro _
  refine go ?_
  refine bz (fun y:Nat × HP × Option Addr × Nat=>(∀i,i<y.1→1<(dr i l0).length)∧Vw y.2.1 (.slice y.2.2.1 (dr y.1 l0).length y.2.2.2) (dr y.1 l0).length ((dr y.1 l0).flatMap dC)∧∀h,y.2.1 h→∃h',sub h' h∧A h') (fun y=>(dr y.1 l0).length)
    (fun y=>[(2,ptr b2),(3,.slice y.2.2.1 (dr y.1 l0).length y.2.2.2)])
    (fun y=>y.2.1::ae b2 (cl (dC Dg.zero) 36)::F) (0,A,a,c) ⟨fun i h=>by omega,hv,fun h hA=>⟨h,sub.refl h,hA⟩⟩ rfl cm ah ?_
  rintro⟨j,X,xa,xc⟩⟨hI,hX,XV⟩ ih
  simp only at hI hX XV
  dsimp only
  have hle:=BU l0 j
  refine go ?_
  refine aq zr zr ?_ ?_
  · intro QC
    have z7:1<(dr j l0).length:=by omega
    have px:dr (j+1) l0=bH (dr j l0):=rfl
    have pG:=cY (dr j l0)
    have RR:=Bp X _ _ hX ag
    rw[← px]at RR pG
    refine go ?_
    refine aF RR ?_
    rintro r _ rfl
    refine aN 0 rfl ?_
    rintro ra rc rfl
    refine uq fun dM=>?_
    refine go ?_
    refine aM ih (j+1,Sep [az 36 32 (.slice ra (dr (j+1) l0).length rc) (dr (j+1) l0).length ((dr (j+1) l0).flatMap dC),X],ra,rc) rfl ⟨fun i hi=>by
      rcases Nat.lt_or_ge i j with h|h
      · exact hI i h
      · rw[show i=j from by simp only at hi;omega];exact z7,dM.mono (bh (i:=0) rfl),fun h hs=>by
      obtain⟨h1,s1,MN⟩:=bh (H:=[az 36 32 (.slice ra (dr (j+1) l0).length rc) (dr (j+1) l0).length ((dr (j+1) l0).flatMap dC),X]) (i:=1) rfl h hs
      obtain⟨h2,s2,ru⟩:=XV h1 MN
      exact⟨h2,s2.trans s1,ru⟩⟩ (by simp only;omega) cm ah
  intro abd
  have Xh:=tt l0 lA j
  obtain⟨x,hx⟩:∃x,dr j l0=[x]:=by
    match h:dr j l0,Xh,(show(dr j l0).length≤1 by omega)with
    | [x],_,_=>exact⟨x,rfl⟩
  have EA:=DL bZ hI hx
  rw[EA]at hE
  rw[hx]at hX ⊢
  obtain⟨b,o,gQ,fO⟩:=hX.some (by simp[dC])
  simp only[Value.slice.injEq]at fO
  obtain⟨rfl,_,rfl⟩:=fO
  refine go ?_
  refine cG 0 32 zr zr zr zr zr zr zr zr (by simp) ?_
  refine aK ?_
  refine cR (U:=aS) (es:=dC x) 0 (0*32) zr zr zr hX rfl (dgE (l:=[x]) rfl) zr zr zr ?_
  (refine aV ?_;(refine cp 1 gB zr zr zr zr zr zr zr zr zr ?_))
  refine go ?_
  refine ai (ao.head (B:=[A]) fun h hs=>by obtain⟨h',s1,MN⟩:=XV h hs;exact⟨h',s1,gk MN⟩) ?_
  (refine bg hE ?_;apply aY (U:=aS) hE Tryz.func52 rfl (ao.refl _);(repeat(first|exact aP.nil|apply aP.agg 1 zr zr zr zr zr));exact⟨rfl,rfl⟩;exact ah)
attribute [local irreducible] GI db
def NI{s p:Int}(hs:1≤s∧s≤1048576)(hp:1≤p∧p≤16384):gn .i64 ((s+p-1)/p):=by
 have h1:0≤(s+p-1)/p:=Int.ediv_nonneg ag ag
 have h2:(s+p-1)/p≤s+p-1:=Int.ediv_le_self _ ag
 simp only[gn];omega
def Mb(x:Bl):aE Tryz.prog 131 [eS x] [] (fun r H=>r = .bool (bF x)∧H=[]):=by
 have hF:¬(1≤x.size∧x.size≤1048576∧16≤x.piece∧x.piece≤16384)→Value.bool false = .bool (bF x):=fun h=>congrArg Value.bool (by unfold bF;rw[decide_eq_false (by rintro⟨a,b,c,e,_⟩;exact h ⟨a,b,c,e⟩)])
 have hT:(1≤x.size∧x.size≤1048576∧16≤x.piece∧x.piece≤16384)→Value.bool (decide ((x.size+x.piece-1)/x.piece≤1024)) = .bool (bF x):=fun h=>congrArg Value.bool (by unfold bF;rw[decide_eq_decide];exact⟨fun g=>⟨h.1,h.2.1,h.2.2.1,h.2.2.2,g⟩,fun g=>g.2.2.2.2⟩)
 unfold eS
 refine aE.au Tryz.func131 Tryz.ntmps131 fun G F R hE=>?_
 refine aG rfl ?_
 refine bG zr zr bD ?_
 intro b1
 repeat'(first|(with_reducible intro pH)|refine gO ?_|refine iy zr zr zr zr ?_ ?_|(refine lQ ?_;refine lI zr zr zr ag ag (NI ag ag) ?_))
 all_goals(first|((refine ad hE Tryz.func131 zr zr ⟨hF ag,rfl⟩))|((refine ad hE Tryz.func131 zr zr ⟨hT ag,rfl⟩)))
def BB(x:Bl):aE Tryz.prog 68 [eS x] [] (fun r H=>r = .int .i64 (cq x)∧H=[]):=by
 unfold eS
 refine aE.au Tryz.func68 Tryz.ntmps68 fun G F R hE=>?_
 refine aG rfl ?_
 refine bG zr zr bD ?_
 intro b1
 refine go ?_
 refine aJ (U:=aS) 0 zr zr zr zr zr zr ?_
 refine aO (Mb x) ?_
 cases hr:bF x with
 | false =>
  have hc:cq x=0:=by unfold cq;rw[if_neg (by rw[hr];simp)]
  rw[hc]at hE
  refine go ?_
  refine ad hE Tryz.func68 zr zr ⟨rfl,rfl⟩
 | true =>
  have hc:cq x=(x.size+x.piece-1)/x.piece:=by unfold cq;rw[if_pos hr]
  rw[hc]at hE
  simp only[bF,decide_eq_true_eq]at hr
  refine go ?_
  refine lI zr zr zr ag ag (NI ag ag) (go ?_)
  refine ad hE Tryz.func68 zr zr ⟨rfl,rfl⟩
def FB(x:Bl)(i:Int):aE Tryz.prog 21 [eS x,.int .i64 i] [] (fun r H=>r=(match dJ x i with
  | none => .tuple #[.int .i64 0,.int .i64 0,.int .i64 1]
  | some (a,n) => .tuple #[.int .i64 a,.int .i64 n,.int .i64 0])∧H=[]):=by
 unfold eS
 refine aE.au Tryz.func21 Tryz.ntmps21 fun G F R hE=>?_
 refine aG rfl ?_
 refine bG zr zr bD ?_
 intro b1
 have hN:(i<0∨cq x≤i)→dJ x i=none:=fun h=>by unfold dJ;rw[if_pos h]
 repeat'(first|(with_reducible intro pH)|refine gO ?_|refine iy zr zr zr zr ?_ ?_|refine aq zr zr ?_ ?_|refine aJ (U:=aS) 0 zr zr zr zr zr zr ?_|(refine aF (BB x) ?_;rintro _ _⟨rfl,rfl⟩))
 all_goals(first|(rw[hN ag]at hE;((refine ad hE Tryz.func21 zr zr ⟨rfl,rfl⟩)))|skip)
 have hs:dJ x i=some (i*x.piece,min x.piece (x.size-i*x.piece)):=by unfold dJ;rw[if_neg ag]
 rw[hs]at hE
 obtain⟨hr,zN,S7⟩:=wH (x:=x) (i:=i) ag ag
 simp only[bF,decide_eq_true_eq]at hr
 obtain⟨q,hq⟩:∃q,q=i*x.piece:=⟨_,rfl⟩
 rw[← hq]at zN S7 hE
 refine aH (fun w=>Sat G w ([ae b1 (cl (bJ x) 38)])) (df 0 17 .nil) rfl ak ak ak eo ?_
 (repeat(first|refine gO ?_|(refine lQ ?_;refine ib zr zr zr (by rw[← hq];simp only[gn];omega) ?_;rw[← hq])))
 refine ad hE Tryz.func21 zr zr ⟨rfl,rfl⟩
def Lw:Tryz.prog.eqGuardType Tryz.prog.depth 36=false:=by kernel_rfl
def LK(a b:Dg)(w:World):(Op.equal 36 (.agg (dC a).toArray) (.agg (dC b).toArray)).run Tryz.prog w = .ok (decide (a=b)) w :=
 sj Tryz.underlying36 Tryz.underlying5 Ye a b 9998 w
def zw(A:HP)(v:Value)(b:List UInt8)(hv:eM A v b)(hl:b.length≤900000000)(k:Int) :
  aE Tryz.prog 20 [v,.int .i64 k] [A] (fun r H=>(dt b k=none∧r = .tuple #[.slice none 0 0,.int .i64 1]∧H=[A])∨∃ls rv,dt b k=some ls∧r = .tuple #[rv,.int .i64 0]∧H=[az 36 32 rv ls.length (ls.flatMap dC),A]):=by
 obtain⟨a,c,rfl,hc⟩:=hv.2
 refine aE.au Tryz.func20 Tryz.ntmps20 fun G F R hE=>?_
 refine go ?_
 refine aO (BB ⟨Dg.zero,b.length,k,Dg.zero⟩) ?_
 cases hr:bF ⟨Dg.zero,b.length,k,Dg.zero⟩with
 | false =>
  have hn:dt b k=none:=by unfold dt;rw[if_neg (by rw[hr];simp)]
  have Aa:cq ⟨Dg.zero,b.length,k,Dg.zero⟩=0:=by unfold cq;rw[if_neg (by rw[hr];simp)]
  rw[Aa]
  refine go ?_
  refine ad hE Tryz.func20 zr zr (.inl ⟨hn,rfl,rfl⟩)
 | true =>
  have hs:dt b k=some ((gz k.toNat b.length b).map db):=by unfold dt;rw[if_pos hr]
  have QD:cq ⟨Dg.zero,b.length,k,Dg.zero⟩=((b.length:Int)+k-1)/k:=by unfold cq;rw[if_pos hr]
  have wu:=k8 hs
  simp only[bF,decide_eq_true_eq]at hr
  obtain⟨k,rfl⟩:∃m:Nat,k=m:=⟨k.toNat,ag⟩
  rw[Int.toNat_natCast]at hs wu
  have qX:=m8 k (show 0<k by omega) b
  have hpg:=kY k (show 0<k by omega) b.length b
  rw[QD,show((b.length:Int)+(k:Int)-1)/(k:Int)=(((gz k b.length b).length:Nat):Int)from by rw[qX,Int.natCast_ediv];congr 1;omega]
  rw[List.length_map]at wu
  obtain⟨ps,Xf⟩:∃ps,ps=gz k b.length b:=⟨_,rfl⟩
  rw[← Xf]at hs wu qX hpg ⊢
  refine go ?_
  refine aq zr zr ?_ ?_
  ·intro h;exfalso;omega
  intro _
  refine go ?_
  refine ai (bO 36 32 none _) ?_
  refine bz (fun y:Nat × Option Addr × Nat=>y.1≤ps.length) (fun y=>ps.length-y.1)
   (fun y=>[(0,.slice a b.length c),(1,.int .i64 (k:Int)),(6,.int .i64 (ps.length:Int)),(7,.slice y.2.1 ((ps.take y.1).map db).length y.2.2),(8,.int .i64 (y.1:Int))])
   (fun y=>az 36 32 (.slice y.2.1 ((ps.take y.1).map db).length y.2.2) ((ps.take y.1).map db).length (((ps.take y.1).map db).flatMap dC)::A::F) (0,none,0) (Nat.zero_le _) rfl cm ah ?_
  rintro⟨i,oa,oc⟩ hi ih
  simp only at hi
  dsimp only
  have tJ:((ps.take i).map db).length=i:=by rw[List.length_map,List.length_take];omega
  refine go ?_
  refine aq zr zr ?_ ?_
  ·intro cW
   have gh:i<ps.length:=by omega
   obtain⟨p,hp⟩:∃p,ps[i]?=some p:=⟨ps[i],by simp⟩
   have hpi:=hpg i (Nat.le_refl _)
   rw[hp]at hpi
   have hik:i*k<b.length:=by
    rcases Nat.lt_or_ge (i*k) b.length with h|h
    ·exact h
    ·rw[if_neg ag]at hpi;cases hpi
   rw[if_pos hik]at hpi
   have SZ:p=(b.drop (i*k)).take k:=Option.some.inj hpi
   have yv:p.length=min k (b.length-i*k):=by rw[SZ,List.length_take,List.length_drop]
   have aey:(i+1)*k=i*k+k:=by rw[Nat.add_mul,Nat.one_mul]
   have Jp:(i:Int)*(k:Int)=((i*k:Nat):Int):=(Int.natCast_mul i k).symm
   have HE:((i:Int)+1)*(k:Int)=((i*k:Nat):Int)+k:=by rw[Int.add_mul,Int.one_mul,Jp]
   obtain⟨ik,ady⟩:∃ik,ik=i*k:=⟨_,rfl⟩
   rw[← ady]at hik SZ yv Jp HE
   have Jq:=hv.piece ik (ik+p.length) ag ag
   rw[show ik+p.length-ik=p.length from by omega]at Jq
   have Xi:(b.drop ik).take p.length=p:=by
    rw[yv,SZ,List.take_eq_take_iff,List.length_drop];omega
   rw[Xi]at Jq
   have j8:(ps.take (i+1)).map db=(ps.take i).map db++[db p]:=by rw[List.take_add_one,hp];simp
   refine go ?_
   refine ib zr zr zr (by rw[Jp];simp only[gn];omega) ?_
   rw[Jp]
   refine go ?_
   refine ib zr zr zr (by rw[HE];simp only[gn];omega) ?_
   rw[HE]
   refine go ?_
   have Le:min (b.length:Int) (((ik:Nat):Int)+(k:Int))=((ik+p.length:Nat):Int):=by rw[yv];omega
   refine bB (p:=((ik:Nat):Int)) (q:=min (b.length:Int) (((ik:Nat):Int)+(k:Int))) zr zr zr zr zr zr zr ag ag (.inr ag) ?_
   ((refine aB 33 ((.slice (sliceAt a c ik 1) p.length (c-ik))) rfl ((by rw[Le,Int.toNat_natCast,Int.toNat_natCast,show ik+p.length-ik=p.length from by omega];rfl)) ?_))
   refine aO (P4 A _ p Jq ag) ?_
   refine aj (cs:=dC (db p)) zr zr zr zr zr zr zr zr zr bD ?_
   intro row
   refine aR (mm:=1) (news:=dC (db p)) 2 0 zr zr zr zr zr zr zr zr zr zr zr zr (Vw.ae rfl) rfl (by rw[dz];exact cO _) (by rw[tJ];omega) (by show(_+_)*32≤_;rw[tJ];omega) (fun _=>rfl) bD ?_
   intro v1
   rw[show((ps.take i).map db).flatMap dC++dC (db p)=((ps.take (i+1)).map db).flatMap dC from by rw[j8];simp,show((ps.take i).map db).length+1=((ps.take (i+1)).map db).length from by rw[j8];simp]
   refine aN 2 rfl ?_
   rintro ja jc rfl
   refine go ?_
   refine aM ih (i+1,ja,jc) rfl (by simp only;omega) (by simp only;omega) cm ah
  ·intro fg
   have rB:i=ps.length:=by omega
   subst rB
   rw[List.take_length]
   refine go ?_
   refine ad hE Tryz.func20 zr zr (.inr ⟨_,_,hs,rfl,rfl⟩)
def F'(A:HP)(v:Value)(b:List UInt8)(hv:eM A v b)(hl:b.length≤900000000)(k:Int) :
  aE Tryz.prog 16 [v,.int .i64 k] [A] (fun r H=>r=(match gx b k with
   | none => .tuple #[eS Bl.zero,.int .i64 1]
   | some x => .tuple #[eS x,.int .i64 0])∧H=[A]):=by
 have oY:=hv
 obtain⟨a,c,rfl,hc⟩:=hv.2
 refine aE.au Tryz.func16 Tryz.ntmps16 fun G F R hE=>?_
 refine aG rfl ?_
 refine aC zr zr zr bD ?_
 intro b4
 refine go ?_
 refine aF (zw A _ b hv hl k) ?_
 rintro _ _ (⟨hn,rfl,rfl⟩|⟨ls,rv,hs,rfl,rfl⟩)
 ·have hb:gx b k=none:=by unfold gx;rw[hn];rfl
  rw[hb]at hE
  refine go ?_
  (refine bg hE ?_;apply aY (U:=aS) hE Tryz.func16 rfl (ao.refl _);(repeat(first|exact aP.nil|apply aP.tmp rfl|apply aP.agg 1 zr zr zr zr zr));exact⟨rfl,rfl⟩;exact ah)
 ·have hb:gx b k=some ⟨dW b,b.length,k,xR ls⟩:=by unfold gx;rw[hs];rfl
  rw[hb]at hE
  have wu:=k8 hs
  refine aN 0 rfl ?_
  rintro ra rc rfl
  refine go ?_
  refine aO (JR A _ b hv ag) ?_
  refine go ?_
  refine aI (ao.pick [1,0] rfl) ?_
  refine uq fun dM=>?_
  ((refine aF (PV _ _ ls (dM.mono (bh (i:=0) rfl)) ag (by intro e;rw[e]at wu;simp at wu)) ?_))
  rintro _ _⟨rfl,rfl⟩
  refine aI (ao.cJ _ _) (go ?_)
  (refine bg hE ?_;apply aY (U:=aS) hE Tryz.func16 rfl (ao.refl _);(repeat(first|exact aP.nil|apply aP.tmp rfl|apply aP.agg 2 zr zr zr zr zr));exact⟨rfl,rfl⟩;exact ah)
attribute [local irreducible] aD
def o8{A:Ab}(h:J6 A)(nm:ByteArray):((fp A nm).getD []).length≤1048576:=by
 unfold fp
 cases A.look nm with
 | none=>simp
 | some f =>
  cases A.off with
  | true=>simp
  | false=>simpa using h.now f
def An(X:HP)(hK:oD X)(bs bd:Nat)(q:Int)(mb:Nat)(brk:Bool)(A:Ab)(d:Dg):aE Tryz.prog 59 [ptr bs,dV d] [ae bs (cl (eA bd q mb brk) 113),aD bd A,X]
  (fun r H=>r = .bool (ju A d)∧H=[ae bs (cl (eA bd q mb brk) 113),aD bd A,X]):=by
 have hf:=n7 kB d (by decide)
 have jO := @o8 A
 unfold dV at hf ⊢
 refine aE.au Tryz.func59 Tryz.ntmps59 fun G F R hE=>?_
 refine aG rfl ?_
 refine bG zr zr bD ?_
 intro b3
 refine JZ (bd:=bd) (A:=A) 2 rfl ?_
 intro HC
 refine go ?_
 refine aJ (U:=aS) (l:=dC d) 0 zr zr zr zr zr zr ?_
 refine aO hf ?_
 refine aF (vm bs bd q mb brk A (dy kB d)) ?_
 rintro _ _⟨rv,rfl,rfl⟩
 have hw:ju A d=match fp A (dy kB d)with|none=>false|some b=>decide (dW b=d):=rfl
 have jO:=o8 HC (dy kB d)
 cases hb:fp A (dy kB d)with
 | none =>
  rw[hb]at hw
  rw[hw]at hE
  refine go ?_
  refine aH (fun w=>Sat G w ([])) (df 0 3 (.st 4 (.act 3 (df 5 3 .nil)))) rfl ak ak ak eo ?_
  refine go ?_
  refine ad hE Tryz.func59 zr zr ⟨rfl,rfl⟩
 | some b =>
  rw[hb]at hw jO
  rw[hw]at hE
  simp only[Option.getD_some,Option.isSome_some]at jO ⊢
  refine gM (bs:=b) 0 rfl ?_
  intro Jr
  refine aI (ao.trans (ao.pick [0,4] rfl) (ao.bS [az 5 1 rv b.length (bV b),X] _)) ?_
  have oZ:=wW _ (hK.mono (bh (H:=[az 5 1 rv b.length (bV b),X]) (i:=1) rfl)) rv b (Jr.mono (bh (i:=0) rfl)) ag
  unfold dV at oZ
  refine go ?_
  refine aH (fun w=>Sat G w ([ae b3 (cl (dC d) 36)])) (df 0 3 (.st 4 (.act 3 (df 5 3 .nil)))) rfl ak ak ak eo ?_
  refine go ?_
  refine bY (U:=aS) (l:=dC d) 0 zr zr zr zr zr zr (go ?_)
  refine bC oZ ?_
  refine go ?_
  refine lR (b:=decide (dW b=d)) zr zr zr Lw (fun w=>LK (dW b) d w) ?_
  refine go ?_
  refine ai (ao.cJ _ _) ?_
  refine ad hE Tryz.func59 zr zr ⟨rfl,rfl⟩
def Iw(bs bd:Nat)(q:Int)(mb:Nat)(brk:Bool)(A:Ab)(d:Dg):aE Tryz.prog 112 [ptr bs,dV d] [ae bs (cl (eA bd q mb brk) 113),aD bd A]
  (fun r H=>∃rv,r = .tuple #[Ja rv,.bool (nu A d).isSome]∧H=[az 38 66 rv ((nu A d).getD []).length (((nu A d).getD []).flatMap bJ),ae bs (cl (eA bd q mb brk) 113),aD bd A]):=by
 have hf:=n7 kI d (by decide)
 unfold dV at hf ⊢
 refine aE.au Tryz.func112 Tryz.ntmps112 fun G F R hE=>?_
 refine aG rfl ?_
 refine bG zr zr bD ?_
 intro b3
 refine aC zr zr zr bD ?_
 intro b4
 refine JZ (bd:=bd) (A:=A) 3 rfl ?_
 intro HC
 refine go ?_
 refine aJ (U:=aS) (l:=dC d) 1 zr zr zr zr zr zr ?_
 refine aO hf ?_
 refine aF (vm bs bd q mb brk A (dy kI d)) ?_
 rintro _ _⟨rv,rfl,rfl⟩
 have hw:nu A d=(fp A (dy kI d)).bind yX:=rfl
 have jO:=o8 HC (dy kI d)
 cases hb:fp A (dy kI d)with
 | none =>
  rw[hb]at hw
  rw[hw]at hE
  refine go ?_
  refine ai (bO 38 66 none _) ?_
  (refine bg hE ?_;apply aY (U:=aS) hE Tryz.func112 rfl (ao.refl _);(repeat(first|exact aP.nil|apply aP.tmp rfl|apply aP.agg 4 zr zr zr zr zr));exact⟨_,rfl,rfl⟩;exact ah)
 | some b =>
  rw[hb]at hw jO
  simp only[Option.getD_some,Option.isSome_some,Option.bind_some]at jO hw ⊢
  rw[hw]at hE
  refine gM (bs:=b) 0 rfl ?_
  intro Jr
  refine go ?_
  refine aF (Ei _ rv b Jr ag) ?_
  rintro _ _ (⟨hn,⟨e,he,rfl⟩,rfl⟩|⟨l,lv,hs,rfl,rfl⟩)
  ·rw[hn]at hE
   unfold Ja
   refine go ?_
   refine aC zr zr zr bD ?_
   intro b8
   refine go ?_
   refine aJ (U:=aS) (l:=[.slice none 0 0]) 0 zr zr zr zr zr zr (go ?_)
   refine aB 27 ((.bool false)) rfl ((congrArg Value.bool (decide_eq_false he))) (go ?_)
   (refine aV ?_;(refine cp 4 gB zr zr zr zr zr zr zr zr zr ?_))
   refine go ?_
   refine ai (bO 38 66 none _) ?_
   (refine bg hE ?_;apply aY (U:=aS) hE Tryz.func112 rfl (ao.refl _);(repeat(first|exact aP.nil|apply aP.tmp rfl|apply aP.agg 5 zr zr zr zr zr));exact⟨_,rfl,rfl⟩;exact ah)
  ·rw[hs]at hE
   unfold Ja
   refine aN 0 rfl ?_
   rintro la lc rfl
   refine go ?_
   refine aC zr zr zr bD ?_
   intro b8
   refine go ?_
   refine aJ (U:=aS) (l:=[.slice la l.length lc]) 0 zr zr zr zr zr zr (go ?_)
   (refine aV ?_;(refine cp 5 gB zr zr zr zr zr zr zr zr zr ?_))
   refine go ?_
   (refine bg hE ?_;apply aY (U:=aS) hE Tryz.func112 rfl (ao.refl _);(repeat(first|exact aP.nil|apply aP.tmp rfl|apply aP.agg 5 zr zr zr zr zr));exact⟨_,rfl,rfl⟩;exact ah)
def HV(X:HP)(hK:oD X)(b2 bs bd:Nat)(q:Int)(mb:Nat)(brk:Bool)(A:Ab)(y:Bl) :
  aE Tryz.prog 114 [eS y,ptr b2] [Sep [ae b2 (cl [ptr bs] 30),ae bs (cl (eA bd q mb brk) 113),aD bd A,X] ]
  (fun r H=>r = .bool (!ju A y.d)∧H=[Sep [ae b2 (cl [ptr bs] 30),ae bs (cl (eA bd q mb brk) 113),aD bd A,X] ]):=by
 have hw:=An X hK bs bd q mb brk A y.d
 unfold dV at hw
 unfold eS
 refine aE.au Tryz.func114 Tryz.ntmps114 fun G F R hE=>?_
 refine aG rfl ?_
 refine bG zr zr bD ?_
 intro b0
 refine aI (ao.trans (ao.pick [1] rfl) (ao.cJ [_,_,_,_] _)) (go ?_)
 refine dB 4 zr zr zr zr zr zr ?_
 refine aO hw ?_
 refine go ?_
 refine ai (ao.trans (ao.pick [3,0,1,2] rfl) (ao.bS [_,_,_,_] _)) ?_
 refine ad hE Tryz.func114 zr zr ⟨rfl,rfl⟩
def y8{A:Ab}{d:Dg}(h:nu A d=none):fZ A d=false:=by unfold fZ;rw[h]
def yZ{A:Ab}{d:Dg}{l:List Bl}(h:nu A d=some l):fZ A d=(decide (yd l=d) && !l.any fun y => !ju A y.d):=by
 unfold fZ;rw[h]
 simp only
 congr 1
 rw[List.not_any_eq_all_not]
 simp
def K6{A:Ab}{d:Dg}{l:List Bl}(h:nu A d=some l):gY l=0:=by
 unfold nu at h
 obtain⟨b,_,hb⟩:=Option.bind_eq_some_iff.1 h
 exact HR hb
def Cx(X:HP)(hK:oD X)(bs bd:Nat)(q:Int)(mb:Nat)(brk:Bool)(A:Ab)(d:Dg):aE Tryz.prog 62 [ptr bs,dV d] [ae bs (cl (eA bd q mb brk) 113),aD bd A,X]
  (fun r H=>r = .bool (fZ A d)∧H=[ae bs (cl (eA bd q mb brk) 113),aD bd A,X]):=by
 have hi:=Iw bs bd q mb brk A d
 unfold dV at hi ⊢
 refine aE.au Tryz.func62 Tryz.ntmps62 fun G F R hE=>?_
 refine aG rfl ?_
 refine bG zr zr bD ?_
 intro b2
 refine bG zr zr bD ?_
 intro b3
 refine go ?_
 refine aJ (U:=aS) (l:=dC d) 0 zr zr zr zr zr zr ?_
 refine aF hi ?_
 rintro _ _⟨rv,rfl,rfl⟩
 unfold Ja
 refine aN 0 rfl ?_
 rintro ra rc rfl
 refine go ?_
 refine aC zr zr zr bD ?_
 intro b5
 refine go ?_
 cases RG:nu A d with
 | none =>
  rw[y8 RG]at hE
  simp only[Option.getD_none,Option.isSome_none]
  have lG:=FH X hK (.slice ra 0 rc) [] (Vw.nil X ra rc) (by simp)
  unfold Ja at lG
  rw[if_neg (by decide)]at lG
  refine aJ (U:=aS) (l:=[.slice ra 0 rc]) 0 zr zr zr zr zr zr ?_
  refine aO lG ?_
  unfold dV
  refine go ?_
  refine aC zr zr zr bD ?_
  intro b7
  refine go ?_
  refine ad hE Tryz.func62 zr zr ⟨rfl,rfl⟩
 | some l =>
  have kQ:=K6 RG
  have hlr:=oX kQ
  rw[yZ RG]at hE
  simp only[Option.getD_some,Option.isSome_some]
  refine Su 1 rfl ?_
  intro dM jx
  refine aI (H':=Sep [az 38 66 (.slice ra l.length rc) l.length (l.flatMap bJ),X]::ae b5 (cl [.slice ra l.length rc] 161)::ae bs (cl (eA bd q mb brk) 113)::aD bd A::ae b3 (cl (dC d) 36)::ae b2 (cl [ptr bs] 30)::F) (ao.trans (H2:=az 38 66 (.slice ra l.length rc) l.length (l.flatMap bJ)::X::ae b5 (cl [.slice ra l.length rc] 161)::ae bs (cl (eA bd q mb brk) 113)::aD bd A::ae b3 (cl (dC d) 36)::ae b2 (cl [ptr bs] 30)::F) ah (ao.bS [_,_] _)) ?_
  have lG:=FH _ (hK.mono (bh (H:=[az 38 66 (.slice ra l.length rc) l.length (l.flatMap bJ),X]) (i:=1) rfl)) _ l (dM.mono (bh (i:=0) rfl)) ag
  unfold Ja at lG
  rw[if_pos kQ]at lG
  refine aJ (U:=aS) (l:=[.slice ra l.length rc]) 1 zr zr zr zr zr zr ?_
  refine aO lG ?_
  unfold dV
  refine go ?_
  refine aC zr zr zr bD ?_
  intro b7
  refine go ?_
  refine aJ (U:=aS) (l:=dC (yd l)) 0 zr zr zr zr zr zr (go ?_)
  refine aJ (U:=aS) (l:=dC d) 5 zr zr zr zr zr zr (go ?_)
  refine lR (b:=decide (yd l=d)) zr zr zr Lw (fun w=>LK (yd l) d w) ?_
  by_cases kf:yd l=d
  ·rw[decide_eq_true kf]at hE ⊢
   rw[Bool.true_and]at hE
   refine go ?_
   refine aI (H':=az 38 66 (.slice ra l.length rc) l.length (l.flatMap bJ)::Sep [ae b2 (cl [ptr bs] 30),ae bs (cl (eA bd q mb brk) 113),aD bd A,X]::F) (ao.trans (ao.trans (ao.pick [1] rfl) (ao.cJ [_,_] _)) (ao.trans (H2:=ae b2 (cl [ptr bs] 30)::ae bs (cl (eA bd q mb brk) 113)::aD bd A::X::az 38 66 (.slice ra l.length rc) l.length (l.flatMap bJ)::F) ah (ao.trans (ao.bS [_,_,_,_] _) ah))) ?_
   refine aO (pr _ (Sep [ae b2 (cl [ptr bs] 30),ae bs (cl (eA bd q mb brk) 113),aD bd A,X]) _ l dM ag 114 [ptr b2] (fun y => !ju A y.d) (fun y _=>HV X hK b2 bs bd q mb brk A y)) ?_
   refine go ?_
   refine ai (ao.trans (ao.pick [1] rfl) (ao.cJ [_,_,_,_] _)) ?_
   refine ad hE Tryz.func62 zr zr ⟨rfl,rfl⟩
  ·rw[decide_eq_false kf]at hE ⊢
   rw[Bool.false_and]at hE
   refine go ?_
   refine ai (ao.trans (ao.pick [1] rfl) (ao.cJ [_,_] _)) ?_
   refine ad hE Tryz.func62 zr zr ⟨rfl,rfl⟩
def CP(g:FuncId)(fi:List Value)(Y:Ab→HP)(right:Ab→Dg→Bool):Prop:=∀(A:Ab) (d:Dg),aE Tryz.prog g (fi++[dV d]) [Y A] (fun r H=>r = .bool (right A d)∧H=[Y A])
end Go.Proofs.YtdigdgohdpeebaaGreatDoor
namespace Go.Proofs.YtdigdgohdpeebaaGreatDoor
open Go Go.SL
attribute [local irreducible] J K aE Ends ae az aQ bP bj aT aU bp bW
def Fw{σ:Type}(I:σ→HP)(V:HP)(v:Value)(lu:List Value)(hv:Vw V v lu.length lu)(hn:lu.length≤1000000000)(ss:List (σ→Nat→σ→Prop))(hlen:ss.length=lu.length)(Q:Nat→σ→Prop)(cL:∀(i:Nat) (fv:Value) (s:σ→Nat→σ→Prop),lu[i]?=some fv→ss[i]?=some s→∃g fi cap,fv = .func (.func g) fi cap∧∀x,Q i x→aE Tryz.prog g (fi.toList++cap.toList) [I x] (fun r H=>∃(e:Nat) (x':σ),r = .int .i64 (e:Int)∧H=[I x']∧s x e x'∧(e=0→Q (i+1) x')))(x0:σ)(hQ:Q 0 x0) :
  aE Tryz.prog 56 [v] [V,I x0] (fun r H=>∃(e:Nat) (x':σ),r = .int .i64 (e:Int)∧H=[V,I x']∧iA ss x0 e x'∧(e=0→Q lu.length x')):=by
 obtain⟨a,c,rfl⟩:=hv.shape
 refine aE.au Tryz.func56 Tryz.ntmps56 fun G F R hE=>?_
 refine go ?_
 refine bz (fun y:Nat × σ=>y.1≤lu.length∧Q y.1 y.2∧∀e x',iA (ss.drop y.1) y.2 e x'→iA ss x0 e x') (fun y=>lu.length-y.1)
  (fun y=>[(0,.slice a lu.length c),(6,.slice a lu.length c),(7,.int .i64 (lu.length:Int)),(8,.int .i64 (y.1:Int))])
  (fun y=>V::I y.2::F) (0,x0) ⟨Nat.zero_le _,hQ,fun _ _ h=>h⟩ rfl cm ah ?_
 rintro⟨i,x⟩⟨hi,hq,hr⟩ ih
 simp only at hi hq hr
 refine go ?_
 refine aq zr zr ?_ ?_
 ·intro cW
  simp only at cW
  have lB:i<lu.length:=by omega
  obtain⟨fv,mX⟩:∃fv,lu[i]?=some fv:=⟨lu[i],List.getElem?_eq_getElem lB⟩
  obtain⟨s,hs⟩:∃s,ss[i]?=some s:=⟨ss[i],List.getElem?_eq_getElem ag⟩
  obtain⟨g,fi,cap,rfl,hc⟩:=cL i fv s mX hs
  have mo:ss.drop i=s::ss.drop (i+1):=by
   rw[List.drop_eq_getElem_cons ag]
   congr 1
   have:=List.getElem?_eq_some_iff.1 hs
   exact this.2
  obtain⟨b0,o0,c0,qZ⟩:=hv.some (by intro h;rw[h]at lB;simp at lB)
  simp only[Value.slice.injEq]at qZ
  obtain⟨rfl,-,rfl⟩:=qZ
  refine go ?_
  refine bI i zr zr zr zr zr zr zr zr lB ?_
  refine aX 0 i zr zr zr hv rfl mX zr zr (go ?_)
  refine uz zr zr zr (by simp) (hc x hq) ah ?_ mO
  rintro _ _⟨e,x',rfl,rfl,K8,QA⟩
  refine go ?_
  refine aq zr zr ?_ ?_
  ·intro bZ
   have he:e≠0:=by omega
   refine go ?_
   ((refine ad hE Tryz.func56 zr zr ⟨e,x',rfl,rfl,hr e x' (by rw[mo];exact⟨e,x',K8,.inl ⟨he,rfl,rfl⟩⟩),fun h=>absurd h he⟩))
  ·intro heq
   have he:e=0:=by omega
   refine go ?_
   refine aM ih (i+1,x') rfl (⟨by simp only;omega,QA he,fun e2 x2 h2=>hr e2 x2 (by rw[mo];exact⟨e,x',K8,.inr ⟨he,h2⟩⟩)⟩) (by simp only;omega) cm ah
 ·intro fg
  simp only at fg
  have gh:i=lu.length:=by omega
  subst gh
  refine go ?_
  ((refine ad hE Tryz.func56 zr zr ⟨0,x,rfl,rfl,hr 0 x (by rw[List.drop_eq_nil_of_le ag];exact⟨rfl,rfl⟩),fun _=>hq⟩))
attribute [local irreducible] Sha.chunks Sha.chunk Sha.rounds Sha.sched dW cH GI db
def um(bd:Nat)(A:Ab):aE Tryz.prog 54 [ptr bd] [aD bd A] (fun r H=>H=[az 9 1 r (fW A).length ((fW A).map Value.string),aD bd A]):=by
 have hl:(fW A).length=(ei A).length:=by unfold fW;rw[List.length_map,uR]
 have hm:(fW A).map Value.string=nS (pR (ei A)):=by unfold fW nS;rw[List.map_map];rfl
 rw[hl,hm]
 exact iK (Post:=fun v H=>∃D,Rel D A∧H=[az 9 1 v (ei A).length (nS (pR (ei A))),hJ bd D]) ak (fun D hR=>(Mk bd D A hR).post (fun v H h=>⟨D,hR,h⟩)) (by rintro v H⟨D',hR,rfl⟩;exact⟨_,rfl,ao.cons _ (hG hR [])⟩)
attribute [local irreducible] aD
def sA{A:Ab}(h:J6 A):(fW A).length≤200:=by
 unfold fW ei
 rw[List.length_map,uR,List.length_map]
 exact h.fG _ (List.mem_cons_self ..)
def nE(bs bd:Nat)(q:Int)(mb:Nat)(brk:Bool)(X:HP)(A:Ab):HP:=Sep [ae bs (cl (eA bd q mb brk) 113),aD bd A,X]
def ny{A B:Ab}{nm:ByteArray}{e:Nat}(h:jg nm A e B):j5 A B:=by
 have:=ql A (isName nm) nm
 rw[← h]at this
 exact this
def uU(bs bd:Nat)(q:Int)(mb:Nat)(brk:Bool)(X:HP)(kind:List UInt8)(hk:kind.length≤1000)(g:FuncId)(fi:List Value)(right:Ab→Dg→Bool)(hr:CP g fi (nE bs bd q mb brk X) right)(A:Ab)(cL:A.aw.length≤900000000) :
  aE Tryz.prog 58 [ptr bs,.string (strOf kind),.func (.func g) fi.toArray #[] ] [nE bs bd q mb brk X A]
  (fun r H=>∃(e:Nat) (B:Ab),r = .int .i64 (e:Int)∧H=[nE bs bd q mb brk X B]∧eJ kind right A e B∧B.aw.length≤A.aw.length+200):=by
 refine aE.au Tryz.func58 Tryz.ntmps58 fun G F R hE=>?_
 refine ai (ao.cJ [_,_,_] _) ?_
 refine uo (bd:=bd) (A:=A) 1 rfl ?_
 intro HC
 have OX:=sA HC
 obtain⟨l,hl⟩:∃l,l=fW A:=⟨_,rfl⟩
 have hsd:∀e B,mH kind right l A e B→eJ kind right A e B:=fun e B h=>by unfold eJ;rw[← hl];exact h
 refine go ?_
 have lG:=um bd A
 rw[← hl]at lG OX
 refine aF lG ?_
 rintro r _ rfl
 refine aN 0 rfl ?_
 rintro ra rc rfl
 refine iw 0 rfl ?_
 intro dM
 refine go ?_
 refine bz (fun y:Nat × Ab=>y.1≤l.length∧y.2.aw.length≤A.aw.length+y.1∧∀e B,mH kind right (l.drop y.1) y.2 e B→eJ kind right A e B) (fun y=>l.length-y.1)
  (fun y=>[(0,ptr bs),(1,.string (strOf kind)),(2,.func (.func g) fi.toArray #[]),(16,.slice ra l.length rc),(17,.int .i64 (l.length:Int)),(18,.int .i64 (y.1:Int))])
  (fun y=>az 9 1 (.slice ra l.length rc) l.length (l.map Value.string)::ae bs (cl (eA bd q mb brk) 113)::aD bd y.2::X::F) (0,A) ⟨Nat.zero_le _,by simp,hsd⟩ rfl cm ah ?_
 rintro⟨i,B⟩⟨hi,XS,Qx⟩ ih
 simp only at hi XS Qx
 dsimp only
 refine go ?_
 refine aq zr zr ?_ ?_
 ·intro cW
  have gh:i<l.length:=by omega
  obtain⟨nm,hx⟩:∃x,l[i]?=some x:=⟨l[i],by simp⟩
  have mo:l.drop i=nm::l.drop (i+1):=by
   rw[List.drop_eq_getElem_cons gh]
   congr 1
   exact(List.getElem?_eq_some_iff.1 hx).2
  rw[mo]at Qx
  have dm:(l.map Value.string)[i]?=some (.string nm):=by rw[List.getElem?_map,hx];rfl
  obtain⟨b,o,gQ,fO⟩:=dM.some (by intro h;rw[h]at dm;simp at dm)
  simp only[Value.slice.injEq]at fO
  obtain⟨rfl,_,rfl⟩:=fO
  refine go ?_
  refine cG i 1 zr zr zr zr zr zr zr zr gh ?_
  refine aK ?_
  refine aX 0 (i*1) zr zr zr dM rfl (by rw[Nat.mul_one];exact dm) zr zr ?_
  refine go ?_
  refine aO (EX kind nm hk) ?_
  cases hh:jG kind nm with
  | none =>
   have K9:∀e B',mH kind right (l.drop (i+1)) B e B'→eJ kind right A e B':=fun e B' h=>Qx e B' (by unfold mH;rw[hh];exact h)
   simp only[EY]
   unfold dV
   refine go ?_
   refine aC zr zr zr bD ?_
   intro b9
   refine go ?_
   refine aM ih (i+1,B) rfl ⟨by simp only;omega,by simp only;omega,K9⟩ (by simp only;omega) cm ah
  | some d =>
   have OO:=hr B d
   simp only[EY]
   unfold dV
   refine go ?_
   refine aC zr zr zr bD ?_
   intro b9
   refine go ?_
   refine aJ (U:=aS) (l:=dC d) 0 zr zr zr zr zr zr (go ?_)
   refine aI (ao.trans (ao.pick [2,3,4] rfl) (ao.bS [ae bs (cl (eA bd q mb brk) 113),aD bd B,X] _)) ?_
   refine uz zr zr zr (by simp;rfl) OO ah ?_ mO
   rintro _ _⟨rfl,rfl⟩
   refine aI (ao.cJ [ae bs (cl (eA bd q mb brk) 113),aD bd B,X] _) ?_
   cases hri:right B d with
   | true =>
    have K9:∀e B',mH kind right (l.drop (i+1)) B e B'→eJ kind right A e B':=fun e B' h=>Qx e B' (by unfold mH;rw[hh];simp only;rw[if_pos hri];exact h)
    refine go ?_
    refine aM ih (i+1,B) rfl ⟨by simp only;omega,by simp only;omega,K9⟩ (by simp only;omega) cm ah
   | false =>
    have aaX:=vt bd B nm ag
    obtain⟨e1,B1,Rs⟩:∃e1 B1,B.remove (isName nm) nm=(e1,B1):=⟨_,_,rfl⟩
    rw[Rs]at aaX
    have YT:=ny (A:=B) (B:=B1) (nm:=nm) (e:=e1) Rs.symm
    have K9:∀e B',((e1≠0∧e=e1∧B'=B1)∨(e1=0∧mH kind right (l.drop (i+1)) B1 e B'))→eJ kind right A e B':=fun e B' h=>Qx e B' (by unfold mH;rw[hh];simp only;rw[if_neg (by rw[hri];simp)];exact⟨e1,B1,Rs.symm,h⟩)
    have z8:=YT.1
    refine go ?_
    refine aO aaX ?_
    refine go ?_
    refine aq zr zr ?_ ?_
    ·intro bZ
     have fR:e1≠0:=by simp only at bZ;omega
     refine go ?_
     refine ai (H':=nE bs bd q mb brk X B1::F) (ao.trans (H2:=ae bs (cl (eA bd q mb brk) 113)::aD bd B1::X::F) ah (ao.bS [ae bs (cl (eA bd q mb brk) 113),aD bd B1,X] _)) ?_
     refine ad hE Tryz.func58 zr zr ⟨e1,B1,rfl,rfl,K9 e1 B1 (.inl ⟨fR,rfl,rfl⟩),ag⟩
    ·intro heq
     have o4:e1=0:=by simp only at heq;omega
     refine go ?_
     refine aM ih (i+1,B1) rfl ⟨by simp only;omega,by simp only;omega,fun e B' h=>K9 e B' (.inr ⟨o4,h⟩)⟩ (by simp only;omega) cm ah
 ·intro fg
  have rB:i=l.length:=by omega
  rw[rB,List.drop_length]at Qx
  refine go ?_
  refine ai (H':=nE bs bd q mb brk X B::F) (ao.trans (H2:=ae bs (cl (eA bd q mb brk) 113)::aD bd B::X::F) ah (ao.bS [ae bs (cl (eA bd q mb brk) 113),aD bd B,X] _)) ?_
  ((refine ad hE Tryz.func58 zr zr ⟨0,B,rfl,rfl,Qx 0 B (by unfold mH;exact⟨rfl,rfl⟩),ag⟩))
def JD{P:Program}{f:FuncId}{args:List Value}{l:List HP}{p:Value→Prop}(h:aE P f args l (fun r H=>p r∧H=l)):aE P f args [Sep l] (fun r H=>p r∧H=[Sep l]) :=
 h.conv (by have:=ao.cJ l [];rwa[List.append_nil]at this) (by intro v H hh;obtain⟨hp,hH⟩:=hh;exact⟨[Sep l],⟨hp,rfl⟩,by rw[hH];have:=ao.bS l [];rwa[List.append_nil]at this⟩)
def GU(X:HP)(hK:oD X)(bs bd:Nat)(q:Int)(mb:Nat)(brk:Bool):CP 59 [ptr bs] (nE bs bd q mb brk X) ju:=fun A d=>JD (p:=fun r=>r = .bool (ju A d)) (An X hK bs bd q mb brk A d)
def zQ(X:HP)(hK:oD X)(bs bd:Nat)(q:Int)(mb:Nat)(brk:Bool):CP 62 [ptr bs] (nE bs bd q mb brk X) fZ:=fun A d=>JD (p:=fun r=>r = .bool (fZ A d)) (Cx X hK bs bd q mb brk A d)
def GV(Y:Ab→HP):CP 55 [] Y (fun _ _=>false):=fun A d=>by
 show aE Tryz.prog 55 [dV d] [Y A] _
 unfold dV
 refine aE.au Tryz.func55 Tryz.ntmps55 fun G F R hE=>?_
 refine aG rfl ?_
 refine bG zr zr bD ?_
 intro b1
 refine go ?_
 refine ad hE Tryz.func55 zr zr ⟨rfl,rfl⟩
def N4(bs bd b6 b8:Nat)(q:Int)(mb:Nat)(X:HP)(A:Ab):HP:=Sep [nE bs bd q mb false X A,ae b6 (cl [ptr bs] 30),ae b8 (cl [.func (.func 55) #[] #[] ] 116)]
def KO(X:HP)(hK:oD X)(bs bd b6 b8:Nat)(q:Int)(mb:Nat)(A:Ab)(cL:A.aw.length≤900000000):aE Tryz.prog 57 [ptr b6] [N4 bs bd b6 b8 q mb X A]
  (fun r H=>∃(e:Nat) (B:Ab),r = .int .i64 (e:Int)∧H=[N4 bs bd b6 b8 q mb X B]∧eJ kB ju A e B∧B.aw.length≤A.aw.length+200):=by
 refine aE.au Tryz.func57 Tryz.ntmps57 fun G F R hE=>?_
 refine ai (ao.cJ [_,_,_] _) (go ?_)
 refine aF (uU bs bd q mb false X kB (by decide) _ [ptr bs] ju (GU X hK bs bd q mb false) A cL) ?_
 rintro _ _⟨e,B,rfl,rfl,h1,h2⟩
 refine go ?_
 refine ai (ao.bS [nE bs bd q mb false X B,_,_] _) ?_
 refine ad hE Tryz.func57 zr zr ⟨e,B,rfl,rfl,h1,h2⟩
def KN(X:HP)(bs bd b6 b8:Nat)(q:Int)(mb:Nat)(A:Ab)(cL:A.aw.length≤900000000):aE Tryz.prog 60 [ptr b6,ptr b8] [N4 bs bd b6 b8 q mb X A]
  (fun r H=>∃(e:Nat) (B:Ab),r = .int .i64 (e:Int)∧H=[N4 bs bd b6 b8 q mb X B]∧eJ kN (fun _ _=>false) A e B∧B.aw.length≤A.aw.length+200):=by
 refine aE.au Tryz.func60 Tryz.ntmps60 fun G F R hE=>?_
 refine ai (ao.cJ [_,_,_] _) (go ?_)
 refine aF (uU bs bd q mb false X kN (by decide) _ [] (fun _ _=>false) (GV _) A cL) ?_
 rintro _ _⟨e,B,rfl,rfl,h1,h2⟩
 refine go ?_
 refine ai (ao.bS [nE bs bd q mb false X B,_,_] _) ?_
 refine ad hE Tryz.func60 zr zr ⟨e,B,rfl,rfl,h1,h2⟩
def KM(X:HP)(hK:oD X)(bs bd b6 b8:Nat)(q:Int)(mb:Nat)(A:Ab)(cL:A.aw.length≤900000000):aE Tryz.prog 61 [ptr b6] [N4 bs bd b6 b8 q mb X A]
  (fun r H=>∃(e:Nat) (B:Ab),r = .int .i64 (e:Int)∧H=[N4 bs bd b6 b8 q mb X B]∧eJ kI fZ A e B∧B.aw.length≤A.aw.length+200):=by
 refine aE.au Tryz.func61 Tryz.ntmps61 fun G F R hE=>?_
 refine ai (ao.cJ [_,_,_] _) (go ?_)
 refine aF (uU bs bd q mb false X kI (by decide) _ [ptr bs] fZ (zQ X hK bs bd q mb false) A cL) ?_
 rintro _ _⟨e,B,rfl,rfl,h1,h2⟩
 refine go ?_
 refine ai (ao.bS [nE bs bd q mb false X B,_,_] _) ?_
 refine ad hE Tryz.func61 zr zr ⟨e,B,rfl,rfl,h1,h2⟩
def dx(l:List (Dg × Bl)):List (Dg × Value):=l.map fun x=>(x.1,eS x.2)
def jV(A:Ab):(fW A).length=A.names.length:=by unfold fW ei;rw[List.length_map,uR,List.length_map]
def Mi(X:HP)(hK:oD X)(bd:Nat)(q:Int)(A:Ab)(cL:A.aw.length≤800000000):aE Tryz.prog 18 [ptr bd,.int .i64 q] [aD bd A,X]
  (fun r H=>((q<1∨1073741824<q)∧r = .tuple #[.pointer none,.int .i64 1]∧H=[aD bd A,X])∨(¬(q<1∨1073741824<q)∧A.off=true∧r = .tuple #[.pointer none,.int .i64 7]∧H=[aD bd A,X]) ∨
   (¬(q<1∨1073741824<q)∧A.off=false∧∃(e:Nat) (B:Ab),pq A e B∧((e≠0∧r = .tuple #[.pointer none,.int .i64 (e:Int)]∧H=[aD bd B,X]) ∨
    (e=0∧B.aw.length≤A.aw.length+601∧∃bs mb,r = .tuple #[ptr bs,.int .i64 0]∧H=[ae bs (cl (eA bd q mb false) 113),aQ dV mb (dx []),aD bd B,X])))):=by
 refine aE.au Tryz.func18 Tryz.ntmps18 fun G F R hE=>?_
 refine uo (bd:=bd) (A:=A) 0 rfl ?_
 intro HC
 repeat'(first|(with_reducible intro pH)|refine gO ?_|refine iy zr zr zr zr ?_ ?_|refine aq zr zr ?_ ?_|(refine aF (P1 bd A) ?_;rintro _ _⟨rfl,rfl⟩))
 ·refine ad hE Tryz.func18 zr zr (.inl ⟨.inl ag,rfl,rfl⟩)
 ·refine ad hE Tryz.func18 zr zr (.inl ⟨.inr ag,rfl,rfl⟩)
 have hq:¬(q<1∨1073741824<q):=by omega
 cases ji:A.off with
 | true =>
  refine go ?_
  refine ad hE Tryz.func18 zr zr (.inr (.inl ⟨hq,ji,rfl,rfl⟩))
 | false =>
  rw[ji]at hE
  refine go ?_
  refine ox rfl bD ?_
  intro mb
  refine aI (ao.fold (B:=[_]) (A:=aQ dV mb (dx [])) (fun h hs=>⟨h,sub.refl h,p8 dV mb h (eU hs)⟩)) ?_
  refine go ?_
  refine bG zr zr bD ?_
  intro bs
  refine aC zr zr zr bD ?_
  intro b6
  refine go ?_
  refine aF (um bd A) ?_
  rintro r _ rfl
  refine aN 0 rfl ?_
  rintro ra rc rfl
  refine go ?_
  refine aC zr zr zr bD ?_
  intro b8
  refine go ?_
  refine aj (cs:=[.func (.func 57) #[] #[ptr b6],.func (.func 60) #[] #[ptr b6,ptr b8],.func (.func 61) #[] #[ptr b6] ]) zr zr zr zr zr zr zr zr zr bD ?_
  intro row
  refine aI (H':=ae row (cl [.func (.func 57) #[] #[ptr b6],.func (.func 60) #[] #[ptr b6,ptr b8],.func (.func 61) #[] #[ptr b6] ] 82)::N4 bs bd b6 b8 q mb X A::aQ dV mb (dx [])::F) (ao.trans (H2:=ae bs (cl (eA bd q mb false) 113)::aD bd A::X::ae b6 (cl [ptr bs] 30)::ae b8 (cl [.func (.func 55) #[] #[] ] 116)::ae row (cl [.func (.func 57) #[] #[ptr b6],.func (.func 60) #[] #[ptr b6,ptr b8],.func (.func 61) #[] #[ptr b6] ] 82)::aQ dV mb (dx [])::F) ah (ao.trans (ao.bS [ae bs (cl (eA bd q mb false) 113),aD bd A,X] _) (ao.trans (ao.bS [nE bs bd q mb false X A,ae b6 (cl [ptr bs] 30),ae b8 (cl [.func (.func 55) #[] #[] ] 116)] _) ah))) ?_
  have u5:∀(i:Nat) (fv:Value) (sp:Ab→Nat→Ab→Prop),[.func (.func 57) #[] #[ptr b6],.func (.func 60) #[] #[ptr b6,ptr b8],.func (.func 61) #[] #[ptr b6] ][i]?=some fv→[eJ kB ju,eJ kN (fun _ _=>false),eJ kI fZ][i]?=some sp→∃g fi cap,fv = .func (.func g) fi cap∧∀x:Ab,x.aw.length≤A.aw.length+200*i→aE Tryz.prog g (fi.toList++cap.toList) [N4 bs bd b6 b8 q mb X x] (fun r H=>∃(e:Nat) (x':Ab),r = .int .i64 (e:Int)∧H=[N4 bs bd b6 b8 q mb X x']∧sp x e x'∧(e=0→x'.aw.length≤A.aw.length+200*(i+1))):=by
   intro i fv sp hi hs
   match i,hi,hs with
   | 0,hi,hs =>
    cases hi;cases hs
    refine⟨_,_,_,rfl,fun x hx=>(KO X hK bs bd b6 b8 q mb x ag).post ?_⟩
    rintro r H⟨e,B,rfl,rfl,h1,h2⟩
    exact⟨e,B,rfl,rfl,h1,fun _=>by omega⟩
   | 1,hi,hs =>
    cases hi;cases hs
    refine⟨_,_,_,rfl,fun x hx=>(KN X bs bd b6 b8 q mb x ag).post ?_⟩
    rintro r H⟨e,B,rfl,rfl,h1,h2⟩
    exact⟨e,B,rfl,rfl,h1,fun _=>by omega⟩
   | 2,hi,hs =>
    cases hi;cases hs
    refine⟨_,_,_,rfl,fun x hx=>(KM X hK bs bd b6 b8 q mb x ag).post ?_⟩
    rintro r H⟨e,B,rfl,rfl,h1,h2⟩
    exact⟨e,B,rfl,rfl,h1,fun _=>by omega⟩
   | k+3,hi,hs=>simp at hi
  have gp:=Fw (N4 bs bd b6 b8 q mb X) (ae row (cl [.func (.func 57) #[] #[ptr b6],.func (.func 60) #[] #[ptr b6,ptr b8],.func (.func 61) #[] #[ptr b6] ] 82)) (.slice (some ⟨row,0,none⟩) 3 3) [.func (.func 57) #[] #[ptr b6],.func (.func 60) #[] #[ptr b6,ptr b8],.func (.func 61) #[] #[ptr b6] ] (Vw.ae rfl) (by show 3≤_;omega) [eJ kB ju,eJ kN (fun _ _=>false),eJ kI fZ] rfl (fun i x=>x.aw.length≤A.aw.length+200*i) u5 A (by simp)
  refine aF gp ?_
  rintro _ _⟨e,B,rfl,rfl,fU,hb⟩
  refine aI (H':=ae bs (cl (eA bd q mb false) 113)::aD bd B::X::ae b6 (cl [ptr bs] 30)::aQ dV mb (dx [])::F) (ao.trans (H2:=N4 bs bd b6 b8 q mb X B::aQ dV mb (dx [])::F) ah (ao.trans (ao.cJ [nE bs bd q mb false X B,ae b6 (cl [ptr bs] 30),ae b8 (cl [.func (.func 55) #[] #[] ] 116)] _) (ao.trans (ao.cJ [ae bs (cl (eA bd q mb false) 113),aD bd B,X] _) ah))) ?_
  by_cases he:e=0
  ·subst he
   have Lt:=hb rfl
   simp only[List.length_cons,List.length_nil]at Lt
   refine go ?_
   refine aF (um bd B) ?_
   rintro r2 _ rfl
   refine aN 0 rfl ?_
   rintro ra2 rc2 rfl
   refine go ?_
   refine aq zr zr ?_ ?_
   ·intro cW
    have tL:B.names.length<A.names.length:=by
     have:=jV A
     have:=jV B
     omega
    have OJ:=pj bd B
    obtain⟨e2,B2,hse⟩:∃e2 B2,B.ct=(e2,B2):=⟨_,_,rfl⟩
    rw[hse]at OJ
    have k9:pq A e2 B2:=⟨0,B,fU,by rw[if_pos ⟨rfl,tL⟩];exact hse.symm⟩
    refine go ?_
    refine aO OJ ?_
    refine go ?_
    refine aq zr zr ?_ ?_
    ·intro bZ
     have fR:e2≠0:=by simp only at bZ;omega
     refine go ?_
     refine ad hE Tryz.func18 zr zr (.inr (.inr ⟨hq,rfl,e2,B2,k9,.inl ⟨fR,rfl,rfl⟩⟩))
    ·intro heq
     have o4:e2=0:=by simp only at heq;omega
     subst o4
     have hg:B2.aw.length≤B.aw.length+1:=by
      have h1:B2=B.ct.2:=by rw[hse]
      rw[h1]
      exact(jX B).1
     refine go ?_
     refine ai (H':=ae bs (cl (eA bd q mb false) 113)::aQ dV mb (dx [])::aD bd B2::X::F) ah ?_
     refine ad hE Tryz.func18 zr zr (.inr (.inr ⟨hq,rfl,0,B2,k9,.inr ⟨rfl,ag,bs,mb,rfl,rfl⟩⟩))
   ·intro fg
    have tL:¬B.names.length<A.names.length:=by
     have:=jV A
     have:=jV B
     omega
    have k9:pq A 0 B:=⟨0,B,fU,by rw[if_neg ag];exact⟨rfl,rfl⟩⟩
    refine go ?_
    refine ai (H':=ae bs (cl (eA bd q mb false) 113)::aQ dV mb (dx [])::aD bd B::X::F) ah ?_
    refine ad hE Tryz.func18 zr zr (.inr (.inr ⟨hq,rfl,0,B,k9,.inr ⟨rfl,ag,bs,mb,rfl,rfl⟩⟩))
  ·have k9:pq A e B:=⟨e,B,fU,by rw[if_neg ag];exact⟨rfl,rfl⟩⟩
   refine go ?_
   have hd:decide ((e:Int)=0)=false:=by simp;exact he
   rw[hd]
   refine go ?_
   refine aq zr zr ?_ ?_
   ·intro _
    refine go ?_
    refine ai (H':=aD bd B::X::F) ah ?_
    refine ad hE Tryz.func18 zr zr (.inr (.inr ⟨hq,rfl,e,B,k9,.inl ⟨he,rfl,rfl⟩⟩))
   ·intro h0
    exact absurd (by omega:e=0) he
end Go.Proofs.YtdigdgohdpeebaaGreatDoor
namespace Go.Proofs.YtdigdgohdpeebaaGreatDoor
open Go Go.SL
attribute [local irreducible] J K aE Ends ae az aQ bP bj
section
variable{P:Program}{U:Tr}[hU:fV P U]{f:FuncId}{n:Nat}{R:Ending→World→Prop}{G:cI}{k:List Item}{L:fD}{H H':List HP}{all:Array Oper}{rest:Pl}{ty:TypeId}{pos:String}{af:Array Edge}{gd:Option (Nat × Bool)}{d:Tmp}
def cD{Hs:List HP}{t:TypeId}{x:Operand}{b off:Nat}{bQ:Ty}{l:List Value}{e:TypeId}{cs:List Value}(i:Nat)(hd:Nat.blt d n=true)(hx:ev L x=some (.pointer (some ⟨b,off,none⟩)))(hi:cE Hs i=some (ae b (cl l e)))(ht:U.get t=some bQ)(hg:bQ.isAgg=true)(hv:pk l off bQ.info.size [] = .mk cs)(h:J P f n R G (fun w=>Sat G w Hs) all rest k ((d,.agg cs.toArray)::L) H):J P f n R G (fun w=>Sat G w Hs) all (.cons true true ⟨some d,.load t x,ty,pos,af,gd⟩ rest) k L H :=
 kU hd (fun a w ha hw=>by
  obtain⟨h1,h2⟩:=Du _ _ _ _ _ hv
  simp only[List.reverse_nil,List.nil_append]at h1
  have hc:∀j v,cs[j]?=some v→w.cell? ⟨b,off+j,none⟩=some v:=fun j v hj=>by
   rw[dG (Sat.tS hw hi)]
   rw[h1,List.getElem?_take]at hj
   split at hj
   ·simpa using hj
   ·cases hj
  have:=iG (P:=P) ht hg (by rw[h1];simp;omega) hc
  simp[execOp,ha.ev hx,this]) h
end
end Go.Proofs.YtdigdgohdpeebaaGreatDoor
namespace Go.Proofs.YtdigdgohdpeebaaGreatDoor
open Go Go.SL
attribute [local irreducible] J K aE Ends ae az aQ bP bj aT aU bp bW Sha.chunks Sha.chunk Sha.rounds Sha.sched dW cH GI db aD
section
variable{P:Program}{U:Tr}[hU:fV P U]{f:FuncId}{n:Nat}{R:Ending→World→Prop}{G:cI}{k:List Item}{L:fD}{H H':List HP}{all:Array Oper}{rest:Pl}{ty:TypeId}{pos:String}{af:Array Edge}{gd:Option (Nat × Bool)}{d:Tmp}
end
def Sy(bs bd:Nat)(q:Int)(mb:Nat)(brk:Bool)(A:Ab)(d:Dg):aE Tryz.prog 73 [ptr bs,dV d] [ae bs (cl (eA bd q mb brk) 113),aD bd A]
  (fun r H=>r = .bool (sE A (dy kB d))∧H=[ae bs (cl (eA bd q mb brk) 113),aD bd A]):=by
 have hf:=n7 kB d (by decide)
 unfold dV at hf ⊢
 refine aE.au Tryz.func73 Tryz.ntmps73 fun G F R hE=>?_
 refine aG rfl ?_
 refine bG zr zr bD ?_
 intro b3
 refine go ?_
 refine aJ (U:=aS) (l:=dC d) 0 zr zr zr zr zr zr ?_
 refine aO hf ?_
 refine aO (Oz bs bd q mb brk A (dy kB d)) ?_
 refine go ?_
 refine ad hE Tryz.func73 zr zr ⟨rfl,rfl⟩
def pX(l:List (Dg × Bl))(x:Bl):Bool:=decide (gK l x.d=some x)
def rj(l:List (Dg × Bl))(d:Dg):ez (dx l) d=(gK l d).map eS:=by
 unfold dx gK ez
 induction l with
 | nil=>rfl
 | cons y l ih =>
  simp only[List.map_cons,List.find?_cons]
  by_cases h:y.1=d
  ·simp[h]
  ·simp only[h,decide_false]
   exact ih
def D9(bs bd:Nat)(q:Int)(mb:Nat)(brk:Bool)(l:List (Dg × Bl))(x:Bl):aE Tryz.prog 151 [ptr bs,eS x] [ae bs (cl (eA bd q mb brk) 113),aQ dV mb (dx l)]
  (fun r H=>r = .bool (pX l x)∧H=[ae bs (cl (eA bd q mb brk) 113),aQ dV mb (dx l)]):=by
 unfold eS
 refine aE.au Tryz.func151 Tryz.ntmps151 fun G F R hE=>?_
 refine aG rfl ?_
 refine bG zr zr bD ?_
 intro b3
 refine go ?_
 refine aH (fun w=>Sat G w ([ae b3 (cl (bJ x) 38),ae bs (cl (eA bd q mb brk) 113),aQ dV mb (dx l)])) (df 0 10 (.act 10 (.act 11 (.st 12 .nil)))) rfl ak ak ak eo ?_
 refine go ?_
 refine cD (U:=aS) 0 zr zr zr zr zr zr (go ?_)
 refine qC (U:=aS) (es:=dx l) (key:=x.d) rfl Rj zr zr zr zr zr zr zr (fun w hw=>hw.o5 (i:=2) rfl) ?_
 rw[rj]
 cases hb:gK l x.d with
 | none =>
  simp only[Option.map_none,Option.getD_none,Option.isSome_none]
  refine go ?_
  refine aC zr zr zr (fun _ w hw=>hw.cN ah) ?_
  intro b5
  refine go ?_
  (refine aV ?_;(refine cp 0 eo zr zr zr zr zr zr zr zr zr ?_))
  refine go ?_
  have hw:pX l x=false:=by unfold pX;rw[hb];rfl
  rw[hw]at hE
  refine ad hE Tryz.func151 zr zr ⟨rfl,rfl⟩
 | some y =>
  simp only[Option.map_some,Option.getD_some,Option.isSome_some]
  unfold eS
  refine go ?_
  refine aC zr zr zr (fun _ w hw=>hw.cN ah) ?_
  intro b5
  refine go ?_
  (refine aV ?_;(refine cp 0 eo zr zr zr zr zr zr zr zr zr ?_))
  refine go ?_
  have hw:pX l x=decide (x=y):=by unfold pX;rw[hb];simp only[Option.some.injEq];rw[decide_eq_decide];exact eq_comm
  rw[hw]at hE
  (repeat(first|refine gO ?_|refine aJ (U:=aS) (l:=bJ x) 1 zr zr zr zr zr zr ?_|refine aJ (U:=aS) (l:=bJ y) 0 zr zr zr zr zr zr ?_|refine lR (b:=decide (x=y)) zr zr zr X3 (fun w=>X7 x y w) ?_))
  refine ad hE Tryz.func151 zr zr ⟨rfl,rfl⟩
def oS(brk:Bool)(l:List (Dg × Bl))(x:Bl):Nat:=if brk then 10 else if pX l x then 0 else 4
def tG(bs bd:Nat)(q:Int)(mb:Nat)(brk:Bool)(l:List (Dg × Bl))(x:Bl):aE Tryz.prog 90 [ptr bs,eS x] [ae bs (cl (eA bd q mb brk) 113),aQ dV mb (dx l)]
  (fun r H=>r = .int .i64 (oS brk l x:Int)∧H=[ae bs (cl (eA bd q mb brk) 113),aQ dV mb (dx l)]):=by
 have ho:=D9 bs bd q mb brk l x
 unfold eS at ho ⊢
 refine aE.au Tryz.func90 Tryz.ntmps90 fun G F R hE=>?_
 refine aG rfl ?_
 refine bG zr zr bD ?_
 intro b3
 cases brk with
 | true =>
  refine go ?_
  refine ad hE Tryz.func90 zr zr ⟨rfl,rfl⟩
 | false =>
  refine go ?_
  refine aJ (U:=aS) (l:=bJ x) 0 zr zr zr zr zr zr ?_
  refine aO ho ?_
  cases hob:pX l x with
  | true =>
   have hm:oS false l x=0:=by unfold oS;rw[hob];rfl
   rw[hm]at hE
   refine go ?_
   refine ad hE Tryz.func90 zr zr ⟨rfl,rfl⟩
  | false =>
   have hm:oS false l x=4:=by unfold oS;rw[hob];rfl
   rw[hm]at hE
   refine go ?_
   refine ad hE Tryz.func90 zr zr ⟨rfl,rfl⟩
def lk(bs bd:Nat)(q:Int)(mb:Nat)(brk:Bool)(Y:HP)(V:HP)(v:Value)(lu:List Value)(hv:Vw V v lu.length lu)(hn:lu.length≤1000000000)(ss:List Bt)(hlen:ss.length=lu.length)(Q:Nat→Ab→Prop)(cL:∀(i:Nat) (fv:Value) (s:Bt),lu[i]?=some fv→ss[i]?=some s→∃g fi cap,fv = .func (.func g) fi cap∧∀x,Q i x→aE Tryz.prog g (fi.toList++cap.toList) [nE bs bd q mb brk Y x] (fun r H=>∃(e:Nat) (x':Ab),r = .int .i64 (e:Int)∧H=[nE bs bd q mb brk Y x']∧s x e x'∧(e=0→Q (i+1) x')))(A:Ab)(hQ:Q 0 A) :
  aE Tryz.prog 77 [ptr bs,v] [V,nE bs bd q mb brk Y A]
   (fun r H=>∃(e:Nat) (B:Ab),r = .int .i64 (e:Int)∧H=[V,nE bs bd q mb (brk || decide (e≠0)) Y B]∧iA ss A e B∧(e=0→Q lu.length B)):=by
 have gp:=Fw (nE bs bd q mb brk Y) V v lu hv hn ss hlen Q cL A hQ
 obtain⟨a,c,rfl⟩:=hv.shape
 refine aE.au Tryz.func77 Tryz.ntmps77 fun G F R hE=>?_
 refine go ?_
 refine aF gp ?_
 rintro _ _⟨e,B,rfl,rfl,fU,hb⟩
 refine aI (ao.trans (ao.pick [1] rfl) (ao.cJ [ae bs (cl (eA bd q mb brk) 113),aD bd B,Y] _)) ?_
 have lH:ao (ae bs (cl (eA bd q mb (brk || decide (e≠0))) 113)::aD bd B::Y::V::F) (V::nE bs bd q mb (brk || decide (e≠0)) Y B::F) :=
  ao.trans (ao.bS [ae bs (cl (eA bd q mb (brk || decide (e≠0))) 113),aD bd B,Y] _) ah
 cases brk with
 | true =>
  refine go ?_
  refine ai (ao.trans ah lH) ?_
  refine ad hE Tryz.func77 zr zr ⟨e,B,rfl,rfl,fU,hb⟩
 | false =>
  refine go ?_
  have Ls:decide ((e:Int)≠0)=(false || decide (e≠0)):=by by_cases h:e=0 <;> simp[h]
  rw[Ls]
  refine ai (ao.trans ah lH) ?_
  refine ad hE Tryz.func77 zr zr ⟨e,B,rfl,rfl,fU,hb⟩
end Go.Proofs.YtdigdgohdpeebaaGreatDoor
namespace Go.Proofs.YtdigdgohdpeebaaGreatDoor
open Go Go.SL
variable{A B:Ab}{nm:ByteArray}{e:Nat}
def yY{P:Program}{f:FuncId}{args:List Value}{Pre:List HP}{Post:Value→List HP→Prop}(X:List HP)(c:aE P f args Pre Post):aE P f args (Pre++X) (fun v H=>∃H',Post v H'∧H=H'++X) :=
 ⟨c.1,fun G w F hw=>(c.2 G w (X++F) (by rw[List.append_assoc]at hw;exact hw)).mono fun e w' h'=>let ⟨v,H,he,Rv,hs⟩:=h';⟨v,H++X,he,⟨H,Rv,rfl⟩,by rw[List.append_assoc];exact hs⟩⟩
attribute [local irreducible] J K aE Ends ae az aQ bP bj aT aU bp bW Sha.chunks Sha.chunk Sha.rounds Sha.sched dW cH GI db aD
def oH(bs bd:Nat)(q:Int)(mb:Nat)(brk:Bool)(Xs:List HP)(A:Ab)(F:List HP):ao (nE bs bd q mb brk (Sep Xs) A::F) (ae bs (cl (eA bd q mb brk) 113)::aD bd A::(Xs++F)) :=
 ao.trans (ao.cJ [ae bs (cl (eA bd q mb brk) 113),aD bd A,Sep Xs] F) (ao.cons _ (ao.cons _ (ao.cJ Xs F)))
def uQ(bs bd:Nat)(q:Int)(mb:Nat)(brk:Bool)(Xs:List HP)(A:Ab)(F:List HP):ao (ae bs (cl (eA bd q mb brk) 113)::aD bd A::(Xs++F)) (nE bs bd q mb brk (Sep Xs) A::F) :=
 ao.trans (ao.cons _ (ao.cons _ (ao.bS Xs F))) (ao.bS [ae bs (cl (eA bd q mb brk) 113),aD bd A,Sep Xs] F)
def o6{f:FuncId}{args:List Value}{bs bd:Nat}{q:Int}{mb:Nat}{brk:Bool}{Xs:List HP}{p:Nat→Ab→Prop}(h:aE Tryz.prog f args (ae bs (cl (eA bd q mb brk) 113)::aD bd A::Xs) (fun r H=>∃(e:Nat) (B:Ab),r = .int .i64 (e:Int)∧H=ae bs (cl (eA bd q mb brk) 113)::aD bd B::Xs∧p e B)) :
  aE Tryz.prog f args [nE bs bd q mb brk (Sep Xs) A] (fun r H=>∃(e:Nat) (B:Ab),r = .int .i64 (e:Int)∧H=[nE bs bd q mb brk (Sep Xs) B]∧p e B) :=
 h.conv (by have:=oH bs bd q mb brk Xs A [];rwa[List.append_nil]at this) (by
  rintro v H⟨e,B,rfl,rfl,hp⟩
  exact⟨_,⟨e,B,rfl,rfl,hp⟩,by have:=uQ bs bd q mb brk Xs B [];rwa[List.append_nil]at this⟩)
def vf(x:Bl):aE Tryz.prog 75 [.string (strOf kS),.agg (dC x.d).toArray] [] (fun r H=>r = .string (fS x)∧H=[]):=by
 have:=n7 kS x.d (by decide)
 unfold dV at this
 exact this
def Ki(bs bd b2 b3:Nat)(q:Int)(mb:Nat)(brk:Bool)(x:Bl)(A:Ab)(eQ:A.writes.length≤1000000000) :
  aE Tryz.prog 93 [ptr b2,ptr b3] (ae bs (cl (eA bd q mb brk) 113)::aD bd A::[ae b2 (cl [ptr bs] 30),ae b3 (cl (bJ x) 38)])
   (fun r H=>∃(e:Nat) (B:Ab),r = .int .i64 (e:Int)∧H=ae bs (cl (eA bd q mb brk) 113)::aD bd B::[ae b2 (cl [ptr bs] 30),ae b3 (cl (bJ x) 38)]∧fj (fS x) A e B):=by
 refine aE.au Tryz.func93 Tryz.ntmps93 fun G F R hE=>?_
 refine go ?_
 refine aH (fun w=>Sat G w ([ae bs (cl (eA bd q mb brk) 113),ae b2 (cl [ptr bs] 30),ae b3 (cl (bJ x) 38)])) (df 0 6 (.act 6 (.act 7 (.st 8 .nil)))) rfl ak ak ak eo ?_
 refine go ?_
 refine cD (U:=aS) 2 zr zr zr zr zr zr (go ?_)
 refine bC (vf x) ?_
 refine go ?_
 refine bC (uh bd A (fS x) eQ) ?_
 refine go ?_
 refine ad hE Tryz.func93 zr zr ⟨_,_,rfl,rfl,rfl⟩
def Ia(bs bd b2 b3:Nat)(q:Int)(mb:Nat)(brk:Bool)(x:Bl)(A:Ab)(cL:A.aw.length≤1000000000) :
  aE Tryz.prog 103 [ptr b2,ptr b3] (ae bs (cl (eA bd q mb brk) 113)::aD bd A::[ae b2 (cl [ptr bs] 30),ae b3 (cl (bJ x) 38)])
   (fun r H=>∃(e:Nat) (B:Ab),r = .int .i64 (e:Int)∧H=ae bs (cl (eA bd q mb brk) 113)::aD bd B::[ae b2 (cl [ptr bs] 30),ae b3 (cl (bJ x) 38)]∧jg (fS x) A e B):=by
 refine aE.au Tryz.func103 Tryz.ntmps103 fun G F R hE=>?_
 refine go ?_
 refine aH (fun w=>Sat G w ([ae bs (cl (eA bd q mb brk) 113),ae b2 (cl [ptr bs] 30),ae b3 (cl (bJ x) 38)])) (df 0 6 (.act 6 (.act 7 (.st 8 .nil)))) rfl ak ak ak eo ?_
 refine go ?_
 refine cD (U:=aS) 2 zr zr zr zr zr zr (go ?_)
 refine bC (vf x) ?_
 refine go ?_
 refine bC (vt bd A (fS x) cL) ?_
 refine go ?_
 refine ad hE Tryz.func103 zr zr ⟨_,_,rfl,rfl,rfl⟩
def KT(bs bd b2 b4:Nat)(q:Int)(mb:Nat)(brk:Bool)(o:ByteArray)(A:Ab)(eQ:A.writes.length≤1000000000) :
  aE Tryz.prog 158 [ptr b2,ptr b4] (ae bs (cl (eA bd q mb brk) 113)::aD bd A::[ae b2 (cl [ptr bs] 30),ae b4 (cl [.string o] 9)])
   (fun r H=>∃(e:Nat) (B:Ab),r = .int .i64 (e:Int)∧H=ae bs (cl (eA bd q mb brk) 113)::aD bd B::[ae b2 (cl [ptr bs] 30),ae b4 (cl [.string o] 9)]∧fj o A e B):=by
 refine aE.au Tryz.func158 Tryz.ntmps158 fun G F R hE=>?_
 refine go ?_
 refine aH (fun w=>Sat G w ([ae bs (cl (eA bd q mb brk) 113),ae b2 (cl [ptr bs] 30),ae b4 (cl [.string o] 9)])) (df 0 5 (.act 5 (.st 6 .nil))) rfl ak ak ak eo ?_
 refine go ?_
 refine bC (uh bd A o eQ) ?_
 refine go ?_
 refine ad hE Tryz.func158 zr zr ⟨_,_,rfl,rfl,rfl⟩
def KS(bs bd b2 b4 b5:Nat)(q:Int)(mb:Nat)(brk:Bool)(o n:ByteArray)(A:Ab)(cL:A.aw.length≤1000000000) :
  aE Tryz.prog 159 [ptr b2,ptr b4,ptr b5] (ae bs (cl (eA bd q mb brk) 113)::aD bd A::[ae b2 (cl [ptr bs] 30),ae b4 (cl [.string o] 9),ae b5 (cl [.string n] 9)])
   (fun r H=>∃(e:Nat) (B:Ab),r = .int .i64 (e:Int)∧H=ae bs (cl (eA bd q mb brk) 113)::aD bd B::[ae b2 (cl [ptr bs] 30),ae b4 (cl [.string o] 9),ae b5 (cl [.string n] 9)]∧kW o n A e B):=by
 refine aE.au Tryz.func159 Tryz.ntmps159 fun G F R hE=>?_
 refine go ?_
 refine aH (fun w=>Sat G w ([ae bs (cl (eA bd q mb brk) 113),ae b2 (cl [ptr bs] 30),ae b4 (cl [.string o] 9),ae b5 (cl [.string n] 9)])) (df 0 6 (.act 6 (.st 7 .nil))) rfl ak ak ak eo ?_
 refine go ?_
 refine lZ 3 zr zr zr zr zr zr (go ?_)
 refine bC (Bu bd A o n cL) ?_
 refine go ?_
 refine ad hE Tryz.func159 zr zr ⟨_,_,rfl,rfl,rfl⟩
def H5(bs bd b2 b7:Nat)(q:Int)(mb:Nat)(brk:Bool)(n:ByteArray)(A:Ab)(cL:A.aw.length≤1000000000) :
  aE Tryz.prog 78 [ptr b2,ptr b7] (ae bs (cl (eA bd q mb brk) 113)::aD bd A::[ae b2 (cl [ptr bs] 30),ae b7 (cl [.string n] 9)])
   (fun r H=>∃(e:Nat) (B:Ab),r = .int .i64 (e:Int)∧H=ae bs (cl (eA bd q mb brk) 113)::aD bd B::[ae b2 (cl [ptr bs] 30),ae b7 (cl [.string n] 9)]∧iE n A e B):=by
 refine aE.au Tryz.func78 Tryz.ntmps78 fun G F R hE=>?_
 refine go ?_
 refine aH (fun w=>Sat G w ([ae bs (cl (eA bd q mb brk) 113),ae b2 (cl [ptr bs] 30),ae b7 (cl [.string n] 9)])) (df 0 5 (.act 5 (.st 6 .nil))) rfl ak ak ak eo ?_
 refine go ?_
 refine dD (vx bd A n cL) ?_
 rintro _ _⟨f,hf,rfl,rfl⟩
 refine go ?_
 refine ad hE Tryz.func78 zr zr ⟨_,_,rfl,rfl,⟨f,hf,rfl⟩⟩
def KA(bs bd b4 b5 zi b7:Nat)(q:Int)(mb:Nat)(brk:Bool)(x:Bl)(at_:Int)(X:HP)(bv:Value)(b:List UInt8)(hv:Vw X bv b.length (bV b))(A:Ab)(eQ:A.writes.length≤1000000000)(jO:b.length≤1000000000)(QG:0≤at_∧at_≤9223372036854775807) :
  aE Tryz.prog 91 [ptr b4,ptr b5,ptr zi,ptr b7] (ae bs (cl (eA bd q mb brk) 113)::aD bd A::[ae b4 (cl [ptr bs] 30),ae b5 (cl (bJ x) 38),ae zi (cl [.int .i64 at_] 3),ae b7 (cl [bv] 39),X])
   (fun r H=>∃(e:Nat) (B:Ab),r = .int .i64 (e:Int)∧H=ae bs (cl (eA bd q mb brk) 113)::aD bd B::[ae b4 (cl [ptr bs] 30),ae b5 (cl (bJ x) 38),ae zi (cl [.int .i64 at_] 3),ae b7 (cl [bv] 39),X]∧fL (fS x) at_.toNat b A e B):=by
 obtain⟨a,c,rfl⟩:=hv.shape
 have hmw:fX (fS x) at_ b=fX (fS x) at_.toNat b:=by rw[Int.toNat_of_nonneg QG.1]
 have hw:=ug bd A (fS x) at_ X _ b hv eQ jO ⟨ag,QG.2⟩
 rw[hmw]at hw
 refine aE.au Tryz.func91 Tryz.ntmps91 fun G F R hE=>?_
 refine go ?_
 refine aH (fun w=>Sat G w ([ae bs (cl (eA bd q mb brk) 113),ae b4 (cl [ptr bs] 30),ae b5 (cl (bJ x) 38),ae zi (cl [.int .i64 at_] 3),ae b7 (cl [.slice a b.length c] 39)])) (df 0 6 (.st 7 (.st 8 (.act 6 (.act 9 (.st 10 .nil)))))) rfl ak ak ak eo ?_
 refine go ?_
 refine cD (U:=aS) 2 zr zr zr zr zr zr (go ?_)
 refine lZ 3 zr zr zr zr zr zr (go ?_)
 refine lZ 4 zr zr zr zr zr zr (go ?_)
 refine bC (vf x) ?_
 refine go ?_
 refine bC hw ?_
 refine go ?_
 refine ad hE Tryz.func91 zr zr ⟨_,_,rfl,rfl,rfl⟩
def I2(bs bd:Nat)(q:Int)(mb:Nat)(brk:Bool)(Xs:List HP)(A:Ab):aE Tryz.prog 63 [ptr bd] [nE bs bd q mb brk (Sep Xs) A]
  (fun r H=>∃(e:Nat) (B:Ab),r = .int .i64 (e:Int)∧H=[nE bs bd q mb brk (Sep Xs) B]∧dN A e B) :=
 o6 ((yY (ae bs (cl (eA bd q mb brk) 113)::Xs) (pj bd A)).conv (ao.perm (List.Perm.swap ..)) (by
  rintro v H⟨H1,⟨rfl,rfl⟩,rfl⟩
  exact⟨_,⟨_,_,rfl,rfl,rfl⟩,ao.perm (List.Perm.swap ..)⟩))
def cC(bs bd:Nat)(q:Int)(mb:Nat)(s:e8):List HP:=[ae bs (cl (eA bd q mb s.brk) 113),aQ dV mb (dx s.bq),aD bd s.A]
def GQ(A:Ab)(i:Nat)(x:Ab):Prop:=x.aw.length≤A.aw.length+i∧x.writes.length≤A.writes.length+i
def GQ.zero(A:Ab):GQ A 0 A:=⟨Nat.le_refl _,Nat.le_refl _⟩
def GQ.next{x y:Ab}{i:Nat}(h:GQ A i x)(g:j5 x y):GQ A (i+1) y:=⟨by have:=h.1;have:=g.1;omega,by have:=h.2;have:=g.2;omega⟩
def nf(h:fj nm A e B):j5 A B:=by
 have:=kC A (isName nm) nm
 rw[← h]at this
 exact this
def rQ{o n:ByteArray}(h:kW o n A e B):j5 A B:=by
 have:=qk A ([o,n].all isName) o n
 rw[← h]at this
 exact this
def iS(h:dN A e B):j5 A B:=by
 have:=jX A
 rw[← h]at this
 exact this
def tQ{at_:Nat}{b:List UInt8}(h:fL nm at_ b A e B):j5 A B:=by
 have:=kA A (fX nm at_ b) nm at_ b
 rw[← h]at this
 exact this
def rR(h:iE nm A e B):j5 A B:=by
 obtain⟨f,_,h⟩:=h
 have:=qm A (isName nm) nm f
 rw[← h]at this
 exact this
def Sl(bs bd:Nat)(q:Int)(mb:Nat)(s:e8)(x:Bl)(cL:s.A.aw.length≤900000000)(eQ:s.A.writes.length≤900000000):aE Tryz.prog 38 [ptr bs,eS x] (cC bs bd q mb s)
  (fun r H=>∃(e:Nat) (t:e8),r = .int .i64 (e:Int)∧H=cC bs bd q mb t∧ki x s e t):=by
 obtain⟨A,bq,brk⟩:=s
 simp only at cL eQ
 have yw:=tG bs bd q mb brk bq x
 unfold eS at yw ⊢
 refine aE.au Tryz.func38 Tryz.ntmps38 fun G F R hE=>?_
 refine ai (H':=ae bs (cl (eA bd q mb brk) 113)::aQ dV mb (dx bq)::aD bd A::F) (ao.refl _) ?_
 refine aG rfl ?_
 refine bG zr zr bD ?_
 intro b2
 refine bG zr zr bD ?_
 intro b3
 refine go ?_
 refine aJ (U:=aS) (l:=bJ x) 0 zr zr zr zr zr zr ?_
 refine aO yw ?_
 refine go ?_
 refine aq zr zr ?_ ?_
 ·intro bZ
  have fR:oS brk bq x≠0:=by omega
  refine go ?_
  refine ai (H':=cC bs bd q mb ⟨A,bq,brk⟩++F) ah ?_
  ((refine ad hE Tryz.func38 zr zr ⟨oS brk bq x,⟨A,bq,brk⟩,rfl,rfl,by unfold ki;rw[if_pos (show jh ⟨A,bq,brk⟩ x≠0 from fR)];exact⟨rfl,rfl⟩⟩))
 ·intro heq
  have o4:oS brk bq x=0:=by omega
  refine go ?_
  refine aj (cs:=[.func (.func 93) #[] #[ptr b2,ptr b3] ]) zr zr zr zr zr zr zr zr zr bD ?_
  intro row
  have u5:∀(i:Nat) (fv:Value) (sp:Bt),[.func (.func 93) #[] #[ptr b2,ptr b3] ][i]?=some fv→[fj (fS x)][i]?=some sp→∃g fi cap,fv = .func (.func g) fi cap∧∀y,GQ A i y→aE Tryz.prog g (fi.toList++cap.toList) [nE bs bd q mb brk (Sep [ae b2 (cl [ptr bs] 30),ae b3 (cl (bJ x) 38)]) y] (fun r H=>∃(e:Nat) (x':Ab),r = .int .i64 (e:Int)∧H=[nE bs bd q mb brk (Sep [ae b2 (cl [ptr bs] 30),ae b3 (cl (bJ x) 38)]) x']∧sp y e x'∧(e=0→GQ A (i+1) x')):=by
   intro i fv sp hi hs
   match i,hi,hs with
   | 0,hi,hs =>
    cases hi;cases hs
    refine⟨_,_,_,rfl,fun y hy=>(o6 (Ki bs bd b2 b3 q mb brk x y (by have:=hy.2;omega))).post ?_⟩
    rintro r H⟨e,B,rfl,rfl,h1⟩
    exact⟨e,B,rfl,rfl,h1,fun _=>hy.next (nf h1)⟩
   | k+1,hi,hs=>simp at hi
  have EU:=lk bs bd q mb brk (Sep [ae b2 (cl [ptr bs] 30),ae b3 (cl (bJ x) 38)]) (ae row (cl [.func (.func 93) #[] #[ptr b2,ptr b3] ] 82)) (.slice (some ⟨row,0,none⟩) 1 1) [.func (.func 93) #[] #[ptr b2,ptr b3] ] (Vw.ae rfl) (by show 1≤_;omega) [fj (fS x)] rfl (GQ A) u5 A (GQ.zero A)
  refine aI (H':=ae row (cl [.func (.func 93) #[] #[ptr b2,ptr b3] ] 82)::nE bs bd q mb brk (Sep [ae b2 (cl [ptr bs] 30),ae b3 (cl (bJ x) 38)]) A::aQ dV mb (dx bq)::F) (ao.trans (H2:=ae bs (cl (eA bd q mb brk) 113)::aD bd A::([ae b2 (cl [ptr bs] 30),ae b3 (cl (bJ x) 38)]++(ae row (cl [.func (.func 93) #[] #[ptr b2,ptr b3] ] 82)::aQ dV mb (dx bq)::F))) ah (ao.trans (uQ bs bd q mb brk _ A _) ah)) ?_
  refine aF EU ?_
  rintro _ _⟨e,B,rfl,rfl,fU,-⟩
  refine go ?_
  refine ai (H':=cC bs bd q mb ⟨B,bq,brk || decide (e≠0)⟩++F) (ao.trans (ao.pick [1] rfl) (ao.trans (oH bs bd q mb (brk || decide (e≠0)) _ B _) ah)) ?_
  ((refine ad hE Tryz.func38 zr zr ⟨e,⟨B,bq,or brk (decide (e≠0))⟩,rfl,rfl,by unfold ki;rw[if_neg (show ¬jh ⟨A,bq,brk⟩ x≠0 from by show ¬oS brk bq x≠0;omega)];exact⟨B,fU,rfl⟩⟩))
def Ft(l:List (Dg × Bl))(d:Dg):rE (dx l) d=dx (n9 l d):=by
 unfold rE dx n9
 rw[List.filter_map]
 rfl
def Gd(bs bd:Nat)(q:Int)(mb:Nat)(s:e8)(x:Bl)(cL:s.A.aw.length≤900000000)(eQ:s.A.writes.length≤900000000):aE Tryz.prog 46 [ptr bs,eS x] (cC bs bd q mb s)
  (fun r H=>∃(e:Nat) (t:e8),r = .int .i64 (e:Int)∧H=cC bs bd q mb t∧gN x s e t):=by
 obtain⟨A,bq,brk⟩:=s
 simp only at cL eQ
 have yw:=tG bs bd q mb brk bq x
 unfold eS at yw ⊢
 refine aE.au Tryz.func46 Tryz.ntmps46 fun G F R hE=>?_
 refine ai (H':=ae bs (cl (eA bd q mb brk) 113)::aQ dV mb (dx bq)::aD bd A::F) (ao.refl _) ?_
 refine aG rfl ?_
 refine bG zr zr bD ?_
 intro b2
 refine bG zr zr bD ?_
 intro b3
 refine go ?_
 refine aJ (U:=aS) (l:=bJ x) 0 zr zr zr zr zr zr ?_
 refine aO yw ?_
 refine go ?_
 refine aq zr zr ?_ ?_
 ·intro bZ
  have fR:oS brk bq x≠0:=by omega
  refine go ?_
  refine ai (H':=cC bs bd q mb ⟨A,bq,brk⟩++F) ah ?_
  ((refine ad hE Tryz.func46 zr zr ⟨oS brk bq x,⟨A,bq,brk⟩,rfl,rfl,by unfold gN;rw[if_pos (show jh ⟨A,bq,brk⟩ x≠0 from fR)];exact⟨rfl,rfl⟩⟩))
 ·intro heq
  have o4:oS brk bq x=0:=by omega
  refine go ?_
  refine aj (cs:=[.func (.func 103) #[] #[ptr b2,ptr b3] ]) zr zr zr zr zr zr zr zr zr bD ?_
  intro row
  have u5:∀(i:Nat) (fv:Value) (sp:Bt),[.func (.func 103) #[] #[ptr b2,ptr b3] ][i]?=some fv→[jg (fS x)][i]?=some sp→∃g fi cap,fv = .func (.func g) fi cap∧∀y,GQ A i y→aE Tryz.prog g (fi.toList++cap.toList) [nE bs bd q mb brk (Sep [ae b2 (cl [ptr bs] 30),ae b3 (cl (bJ x) 38)]) y] (fun r H=>∃(e:Nat) (x':Ab),r = .int .i64 (e:Int)∧H=[nE bs bd q mb brk (Sep [ae b2 (cl [ptr bs] 30),ae b3 (cl (bJ x) 38)]) x']∧sp y e x'∧(e=0→GQ A (i+1) x')):=by
   intro i fv sp hi hs
   match i,hi,hs with
   | 0,hi,hs =>
    cases hi;cases hs
    refine⟨_,_,_,rfl,fun y hy=>(o6 (Ia bs bd b2 b3 q mb brk x y (by have:=hy.1;omega))).post ?_⟩
    rintro r H⟨e,B,rfl,rfl,h1⟩
    exact⟨e,B,rfl,rfl,h1,fun _=>hy.next (ny h1)⟩
   | k+1,hi,hs=>simp at hi
  have EU:=lk bs bd q mb brk (Sep [ae b2 (cl [ptr bs] 30),ae b3 (cl (bJ x) 38)]) (ae row (cl [.func (.func 103) #[] #[ptr b2,ptr b3] ] 82)) (.slice (some ⟨row,0,none⟩) 1 1) [.func (.func 103) #[] #[ptr b2,ptr b3] ] (Vw.ae rfl) (by show 1≤_;omega) [jg (fS x)] rfl (GQ A) u5 A (GQ.zero A)
  refine aI (H':=ae row (cl [.func (.func 103) #[] #[ptr b2,ptr b3] ] 82)::nE bs bd q mb brk (Sep [ae b2 (cl [ptr bs] 30),ae b3 (cl (bJ x) 38)]) A::aQ dV mb (dx bq)::F) (ao.trans (H2:=ae bs (cl (eA bd q mb brk) 113)::aD bd A::([ae b2 (cl [ptr bs] 30),ae b3 (cl (bJ x) 38)]++(ae row (cl [.func (.func 103) #[] #[ptr b2,ptr b3] ] 82)::aQ dV mb (dx bq)::F))) ah (ao.trans (uQ bs bd q mb brk _ A _) ah)) ?_
  refine aF EU ?_
  rintro _ _⟨e,B,rfl,rfl,fU,-⟩
  refine aI (ao.trans (ao.pick [1] rfl) (oH bs bd q mb (brk || decide (e≠0)) _ B _)) ?_
  have YF:¬jh ⟨A,bq,brk⟩ x≠0:=by show ¬oS brk bq x≠0;omega
  refine go ?_
  refine aq zr zr ?_ ?_
  ·intro Xo
   have he:e≠0:=by omega
   refine go ?_
   refine ai (H':=cC bs bd q mb ⟨B,bq,brk || decide (e≠0)⟩++F) ah ?_
   ((refine ad hE Tryz.func46 zr zr ⟨e,⟨B,bq,or brk (decide (e≠0))⟩,rfl,rfl,by unfold gN;rw[if_neg YF];exact⟨_,⟨B,fU,rfl⟩,by rw[if_pos he]⟩⟩))
  ·intro XG
   have he:e=0:=by omega
   subst he
   refine go ?_
   refine aH (fun w=>Sat G w ([ae b2 (cl [ptr bs] 30),ae bs (cl (eA bd q mb (or brk (decide (0≠0)))) 113),ae b3 (cl (bJ x) 38)])) (df 0 6 (.act 6 .nil)) rfl ak ak ak eo ?_
   refine go ?_
   refine cD (U:=aS) 2 zr zr zr zr zr zr (go ?_)
   refine mM (es:=dx bq) (key:=x.d) 5 Rj (fun w hw=>by exact trivial) zr zr zr zr zr zr zr ?_
   rw[Ft]
   refine go ?_
   refine ai (H':=cC bs bd q mb ⟨B,n9 bq x.d,brk || decide (0≠0)⟩++F) ah ?_
   ((refine ad hE Tryz.func46 zr zr ⟨0,⟨B,n9 bq x.d,or brk (decide (0≠0))⟩,rfl,rfl,by unfold gN;rw[if_neg YF];exact⟨_,⟨B,fU,rfl⟩,by rw[if_neg ag]⟩⟩))
def Rb(bd b3 b4 b5:Nat):List Value:=[.func (.func 158) #[] #[ptr b3,ptr b4],.func (.func 159) #[] #[ptr b3,ptr b4,ptr b5],.func (.func 63) #[ptr bd] #[] ]
def Ra(bs b3 b4 b5:Nat)(o n:ByteArray):List HP:=[ae b3 (cl [ptr bs] 30),ae b4 (cl [.string o] 9),ae b5 (cl [.string n] 9)]
def N'(bs bd:Nat)(q:Int)(mb:Nat)(brk:Bool)(o n:ByteArray):aE Tryz.prog 101 [ptr bs,.string o,.string n] [ae bs (cl (eA bd q mb brk) 113)]
  (fun r H=>∃row b3 b4 b5,r = .slice (some ⟨row,0,none⟩) 3 3∧H=ae row (cl (Rb bd b3 b4 b5) 82)::ae bs (cl (eA bd q mb brk) 113)::Ra bs b3 b4 b5 o n):=by
 refine aE.au Tryz.func101 Tryz.ntmps101 fun G F R hE=>?_
 refine aG rfl ?_
 refine bG zr zr bD ?_
 intro b3
 refine bG zr zr bD ?_
 intro b4
 refine bG zr zr bD ?_
 intro b5
 refine go ?_
 refine aj (cs:=Rb bd b3 b4 b5) zr zr zr zr zr zr zr zr zr bD ?_
 intro row
 refine go ?_
 refine ai (H':=ae row (cl (Rb bd b3 b4 b5) 82)::ae bs (cl (eA bd q mb brk) 113)::(Ra bs b3 b4 b5 o n++F)) ah ?_
 refine ad hE Tryz.func101 zr zr ⟨row,b3,b4,b5,rfl,rfl⟩
def N9(bs bd:Nat)(q:Int)(mb:Nat)(brk:Bool)(b3 b4 b5:Nat)(o n:ByteArray)(A:Ab)(cL:A.aw.length≤900000000)(eQ:A.writes.length≤900000000)(i:Nat)(fv:Value)(sp:Bt)(hi:(Rb bd b3 b4 b5)[i]?=some fv)(hs:(Ec o n)[i]?=some sp) :
  ∃g fi cap,fv = .func (.func g) fi cap∧∀y,GQ A i y→aE Tryz.prog g (fi.toList++cap.toList) [nE bs bd q mb brk (Sep (Ra bs b3 b4 b5 o n)) y] (fun r H=>∃(e:Nat) (x':Ab),r = .int .i64 (e:Int)∧H=[nE bs bd q mb brk (Sep (Ra bs b3 b4 b5 o n)) x']∧sp y e x'∧(e=0→GQ A (i+1) x')):=by
 match i,hi,hs with
 | 0,hi,hs =>
  cases hi;cases hs
  refine⟨_,_,_,rfl,fun y hy=>?_⟩
  have h0:=yY [ae b5 (cl [.string n] 9)] (KT bs bd b3 b4 q mb brk o y (by have:=hy.2;omega))
  refine(o6 (p:=fj o y) (Xs:=Ra bs b3 b4 b5 o n) (h0.post ?_)).post ?_
  ·rintro r H⟨_,⟨e,B,rfl,rfl,h1⟩,rfl⟩
   exact⟨e,B,rfl,rfl,h1⟩
  ·rintro r H⟨e,B,rfl,rfl,h1⟩
   exact⟨e,B,rfl,rfl,h1,fun _=>hy.next (nf h1)⟩
 | 1,hi,hs =>
  cases hi;cases hs
  refine⟨_,_,_,rfl,fun y hy=>(o6 (KS bs bd b3 b4 b5 q mb brk o n y (by have:=hy.1;omega))).post ?_⟩
  rintro r H⟨e,B,rfl,rfl,h1⟩
  exact⟨e,B,rfl,rfl,h1,fun _=>hy.next (rQ h1)⟩
 | 2,hi,hs =>
  cases hi;cases hs
  refine⟨_,_,_,rfl,fun y hy=>(I2 bs bd q mb brk (Ra bs b3 b4 b5 o n) y).post ?_⟩
  rintro r H⟨e,B,rfl,rfl,h1⟩
  exact⟨e,B,rfl,rfl,h1,fun _=>hy.next (iS h1)⟩
 | k+3,hi,hs=>simp[Rb]at hi
def Iv(X:HP)(hK:oD X)(bs bd:Nat)(q:Int)(mb:Nat)(s:e8)(x:Bl)(cL:s.A.aw.length≤900000000)(eQ:s.A.writes.length≤900000000):aE Tryz.prog 43 [ptr bs,eS x] (cC bs bd q mb s++[X])
  (fun r H=>∃(e:Nat) (t:e8),r = .int .i64 (e:Int)∧H=cC bs bd q mb t++[X]∧dQ x s e t):=by
 obtain⟨A,bq,brk⟩:=s
 simp only at cL eQ
 have yw:=tG bs bd q mb brk bq x
 have pG:=Gd bs bd q mb ⟨A,bq,brk⟩ x cL eQ
 have hfb:=n7 kB x.d (by decide)
 unfold dV at hfb
 unfold eS at yw pG ⊢
 refine aE.au Tryz.func43 Tryz.ntmps43 fun G F R hE=>?_
 refine ai (H':=ae bs (cl (eA bd q mb brk) 113)::aQ dV mb (dx bq)::aD bd A::X::F) (ao.refl _) ?_
 refine uo (bd:=bd) (A:=A) 2 rfl ?_
 intro HC
 refine aG rfl ?_
 refine bG zr zr bD ?_
 intro b3
 refine go ?_
 refine aJ (U:=aS) (l:=bJ x) 0 zr zr zr zr zr zr ?_
 refine aO yw ?_
 refine go ?_
 refine aq zr zr ?_ ?_
 ·intro bZ
  have fR:jh ⟨A,bq,brk⟩ x≠0:=by show oS brk bq x≠0;omega
  refine go ?_
  refine ai (H':=cC bs bd q mb ⟨A,bq,brk⟩++(X::F)) ah ?_
  ((refine ad hE Tryz.func43 zr zr ⟨oS brk bq x,⟨A,bq,brk⟩,rfl,rfl,by unfold dQ;rw[if_pos fR];exact⟨rfl,rfl⟩⟩))
 intro heq
 have o4:¬jh ⟨A,bq,brk⟩ x≠0:=by show ¬oS brk bq x≠0;omega
 have jO:=o8 HC (fS x)
 refine go ?_
 refine dB 2 zr zr zr zr zr zr ?_
 refine aO (vf x) ?_
 refine aF (vm bs bd q mb brk A (fS x)) ?_
 rintro _ _⟨rv,rfl,rfl⟩
 obtain⟨bb,Jr⟩:∃bb,bb=(fp A (fS x)).getD []:=⟨_,rfl⟩
 rw[← Jr]at jO ⊢
 refine gM (bs:=bb) 0 rfl ?_
 intro hbv
 refine aI (ao.trans (ao.pick [0,5] rfl) (ao.bS [az 5 1 rv bb.length (bV bb),X] _)) ?_
 have YE:=L7 _ (hK.mono (bh (H:=[az 5 1 rv bb.length (bV bb),X]) (i:=1) rfl)) x rv bb (hbv.mono (bh (i:=0) rfl)) ag
 unfold eS at YE
 refine go ?_
 refine aJ (U:=aS) (l:=bJ x) 4 zr zr zr zr zr zr ?_
 ((refine go ?_;(refine aF YE ?_)))
 rintro _ _⟨rfl,rfl⟩
 refine aI (ao.cJ [az 5 1 rv bb.length (bV bb),X] _) ?_
 cases hw:ej x bb with
 | false =>
  have hI:∀e1 t,gN x ⟨A,bq,brk⟩ e1 t→∀e,e=(if e1≠0 then e1 else 8)→dQ x ⟨A,bq,brk⟩ e t:=fun e1 t h e he=>by
   unfold dQ
   rw[if_neg o4,if_pos (by show ej x ((fp A (fS x)).getD [])=false;rw[← Jr];exact hw)]
   exact⟨e1,h,he⟩
  refine go ?_
  refine aJ (U:=aS) (l:=bJ x) 5 zr zr zr zr zr zr ?_
  refine aF pG ?_
  rintro _ _⟨e1,t,rfl,rfl,abM⟩
  refine go ?_
  refine aq zr zr ?_ ?_
  ·intro Xo
   have he:e1≠0:=by omega
   refine go ?_
   refine ai (H':=cC bs bd q mb t++(X::F)) ah ?_
   refine ad hE Tryz.func43 zr zr ⟨e1,t,rfl,rfl,hI e1 t abM e1 (by rw[if_pos he])⟩
  ·intro XG
   have he:e1=0:=by omega
   refine go ?_
   refine ai (H':=cC bs bd q mb t++(X::F)) ah ?_
   refine ad hE Tryz.func43 zr zr ⟨8,t,rfl,rfl,hI e1 t abM 8 (by rw[if_neg ag])⟩
 | true =>
  have hwn:¬ej x ((fp A (fS x)).getD [])=false:=by rw[← Jr,hw];simp
  refine go ?_
  refine aH (fun w=>Sat G w ([ae b3 (cl (bJ x) 38)])) (df 0 4 (.st 5 (.st 6 (.act 4 (.act 7 (.act 8 (.act 9 (.st 10 .nil)))))))) rfl ak ak ak eo ?_
  refine go ?_
  refine cD (U:=aS) 0 zr zr zr zr zr zr (go ?_)
  refine cD (U:=aS) 0 zr zr zr zr zr zr (go ?_)
  refine bC (vf x) ?_
  refine go ?_
  refine bC hfb ?_
  refine go ?_
  refine dD (N' bs bd q mb brk (fS x) (fB x)) ?_
  rintro _ _⟨row,c3,c4,c5,rfl,rfl⟩
  have EU:=lk bs bd q mb brk (Sep (Ra bs c3 c4 c5 (fS x) (fB x))) (ae row (cl (Rb bd c3 c4 c5) 82)) (.slice (some ⟨row,0,none⟩) 3 3) (Rb bd c3 c4 c5) (Vw.ae rfl) (by show 3≤_;omega) (Ec (fS x) (fB x)) rfl (GQ A) (N9 bs bd q mb brk c3 c4 c5 (fS x) (fB x) A cL eQ) A (GQ.zero A)
  refine go ?_
  refine aI (H':=ae row (cl (Rb bd c3 c4 c5) 82)::nE bs bd q mb brk (Sep (Ra bs c3 c4 c5 (fS x) (fB x))) A::aQ dV mb (dx bq)::ae b3 (cl (bJ x) 38)::X::F) (ao.trans (H2:=ae bs (cl (eA bd q mb brk) 113)::aD bd A::(Ra bs c3 c4 c5 (fS x) (fB x)++(ae row (cl (Rb bd c3 c4 c5) 82)::aQ dV mb (dx bq)::ae b3 (cl (bJ x) 38)::X::F))) ah (ao.trans (uQ bs bd q mb brk _ A _) ah)) ?_
  refine dD EU ?_
  rintro _ _⟨e,B,rfl,rfl,fU,-⟩
  refine aI (ao.trans (ao.pick [1] rfl) (oH bs bd q mb (brk || decide (e≠0)) _ B _)) ?_
  have hI:∀t,t=(if e≠0 then(⟨B,bq,brk || decide (e≠0)⟩:e8)else⟨B,n9 bq x.d,brk || decide (e≠0)⟩)→dQ x ⟨A,bq,brk⟩ e t:=fun t ht=>by
   unfold dQ
   rw[if_neg o4,if_neg hwn]
   exact⟨_,⟨B,fU,rfl⟩,ht⟩
  refine go ?_
  refine aq zr zr ?_ ?_
  ·intro Xo
   have he:e≠0:=by omega
   refine go ?_
   refine ai (H':=cC bs bd q mb ⟨B,bq,brk || decide (e≠0)⟩++(X::F)) ah ?_
   refine ad hE Tryz.func43 zr zr ⟨e,⟨B,bq,or brk (decide (e≠0))⟩,rfl,rfl,hI _ (by rw[if_pos he])⟩
  ·intro XG
   have he:e=0:=by omega
   subst he
   refine go ?_
   refine aH (fun w=>Sat G w ([ae bs (cl (eA bd q mb (or brk (decide (0≠0)))) 113),ae b3 (cl (bJ x) 38)])) (df 0 6 (.act 6 .nil)) rfl ak ak ak eo ?_
   refine go ?_
   refine cD (U:=aS) 1 zr zr zr zr zr zr (go ?_)
   refine mM (es:=dx bq) (key:=x.d) 6 Rj (fun w hw=>by exact trivial) zr zr zr zr zr zr zr ?_
   rw[Ft]
   refine go ?_
   refine ai (H':=cC bs bd q mb ⟨B,n9 bq x.d,brk || decide (0≠0)⟩++(X::F)) ah ?_
   refine ad hE Tryz.func43 zr zr ⟨0,⟨B,n9 bq x.d,or brk (decide (0≠0))⟩,rfl,rfl,hI _ (by rw[if_neg ag])⟩
end Go.Proofs.YtdigdgohdpeebaaGreatDoor
