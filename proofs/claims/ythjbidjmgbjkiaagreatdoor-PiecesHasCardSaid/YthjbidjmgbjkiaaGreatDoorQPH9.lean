/- Texts of one claim, joined: He, Hf, Hg, Hh, Hi, Bc, Ba, Bd, Be, EngBm, Bf, Bg, Bh. -/
import Derived.Test.YthjbidjmgbjkiaaGreatDoorQPH3
import Derived.Test.YthjbidjmgbjkiaaGreatDoorQPH5
import Derived.Test.YthjbidjmgbjkiaaGreatDoorQPH7
import Derived.Test.YthjbidjmgbjkiaaGreatDoorQPH8
set_option linter.unusedSimpArgs false
set_option linter.unusedVariables false
namespace Go.SL
open Go
namespace Sha
def jf(n o:List ir)(i:Nat):List ir:=(List.zipWith (· + ·) n o).take i++n.drop i
theorem IC{n o:List ir}{k i:Nat}(hn:n.length=k)(ho:o.length=k)(hi:i≤k):(jf n o i).length=k:=by
 unfold jf;rw[List.length_append,List.length_take,List.length_zipWith,List.length_drop];omega
theorem ID{n o:List ir}{k i:Nat}(hn:n.length=k)(ho:o.length=k)(hi:i<k):(jf n o i)[i]?=some (n.getD i 0):=by
 unfold jf
 have h1:((List.zipWith (· + ·) n o).take i).length=i:=by rw[List.length_take,List.length_zipWith];omega
 rw[List.getElem?_append_right ai,h1,Nat.sub_self,List.getElem?_drop,Nat.add_zero,List.getD_eq_getElem?_getD,List.getElem?_eq_getElem ai];rfl
theorem IB{n o:List ir}{k i:Nat}(hn:n.length=k)(ho:o.length=k)(hi:i<k):(jf n o i).set i (n.getD i 0+o.getD i 0)=jf n o (i+1):=by
 unfold jf
 have h1:((List.zipWith (· + ·) n o).take i).length=i:=by rw[List.length_take,List.length_zipWith];omega
 rw[List.set_append_right _ _ ai,h1,Nat.sub_self,List.take_add_one]
 have h2:n.drop i=n[i]::n.drop (i+1):=List.drop_eq_getElem_cons ai
 have h3:(List.zipWith (· + ·) n o)[i]?=some (n.getD i 0+o.getD i 0):=by
  rw[List.getElem?_zipWith,List.getD_eq_getElem?_getD,List.getD_eq_getElem?_getD,List.getElem?_eq_getElem (show i<n.length by omega),List.getElem?_eq_getElem (show i<o.length by omega)];rfl
 rw[h2,List.set_cons_zero,h3];simp
theorem IE(s t:St):jf t.l s.l 8=(plus s t).l:=by
 unfold jf
 simp only[St.l,plus,List.zipWith_cons_cons,List.zipWith_nil_left,List.take_succ_cons,List.take_zero,List.drop_succ_cons,List.drop_zero,List.append_nil,BitVec.add_comm]
end Sha
end Go.SL
namespace Go.Proofs.YthjbidjmgbjkiaaGreatDoor
open Go Go.SL
attribute [local irreducible] J K aD Ends ag az aL bK aZ aQ aV bg bQ Sha.chunks Sha.chunk Sha.rounds Sha.sched dA Sha.jf
set_option maxRecDepth 20000 in
theorem Iu(A:HP)(v:Value)(b:List UInt8)(hv:dR A v b)(Ju:64≤b.length)(s:Sha.St) :
  aD Tryz.prog 107 [My s,v] [A] (fun r H=>r=My (Sha.chunk s b)∧H=[A]):=by
 have Yv:=GJ A v b hv Ju
 obtain⟨a,c,rfl,hc⟩:=hv.2
 have eA:(Sha.sched b 64).length=64:=Sha.dm b 64
 have Cg:Sha.chunk s b=Sha.plus s (Sha.rounds s (Sha.sched b 64) 64):=by unfold Sha.chunk;rfl
 rw[Cg]
 generalize Sha.sched b 64=W at Yv eA ⊢
 have H0:∀s:Sha.St,(wV s.l).length=8:=fun s=>rfl
 have W0:∀s:Sha.St,s.l.length=8:=fun s=>rfl
 have Y1:(wV W).length=64:=by rw[j4];exact eA
 have NB:∀s:Sha.St,wV s.l≠[]:=fun s e=>by have:=congrArg List.length e;rw[H0]at this;cases this
 unfold My
 refine aD.enter Tryz.func107 ak rfl Tryz.ntmps107 zr zr ?_
 intro G F R hE
 refine aE rfl ?_
 refine bq zr zr bp ?_
 intro b2
 refine aN (U:=ao) zr zr zr bp ?_
 intro b4
 refine go ?_
 ((refine ah zr zr zr zr (Yv) ad ?_ bE))
 rintro _ _⟨rfl,rfl⟩
 refine aN (U:=ao) zr zr zr bp ?_
 intro b5
 refine aS ?_
 refine cn (U:=ao) (l':=wV W) 0 fR rfl rfl rfl Y1 (by intro e;rw[e]at Y1;cases Y1) (eC _) rfl (by rw[Y1];rfl) rfl ?_
 refine go ?_
 ((refine ah zr zr zr zr (xP) ad ?_ bE))
 rintro _ _⟨rfl,rfl⟩
 refine aN (U:=ao) zr zr zr bp ?_
 intro b6
 refine aS ?_
 refine cn (U:=ao) (l':=wV Sha.ks) 0 fR zr zr zr zr (by decide) (eC _) zr zr zr ?_
 refine go ?_
 refine aG (H':=ag b2 (cl (wV s.l) 144)::ag b6 (cl (wV Sha.ks) 206)::ag b5 (cl (wV W) 206)::ag b4 (cl (wV (List.replicate 8 0)) 144)::A::F) ad ?_
 refine aI (U:=ao) (l:=wV s.l) 0 zr zr zr zr zr zr ?_
 refine aN (U:=ao) zr zr zr bp ?_
 intro b7
 refine aS ?_
 refine cn (U:=ao) (l':=wV s.l) 0 fR zr zr zr zr (NB s) (eC _) zr zr zr ?_
 refine go ?_
 refine bo (fun t:Nat=>t≤64) (fun t=>64-t)
  (fun t=>[(2,ptr b2),(4,ptr b4),(5,ptr b5),(6,ptr b6),(7,ptr b7),(8,.int .i64 (t:Int))])
  (fun t=>ag b7 (cl (wV (Sha.rounds s W t).l) 144)::ag b2 (cl (wV s.l) 144)::ag b6 (cl (wV Sha.ks) 206)::ag b5 (cl (wV W) 206)::ag b4 (cl (wV (List.replicate 8 0)) 144)::A::F) 0 (Nat.zero_le _) rfl bY (by unfold Sha.rounds;exact ad) ?_
 rintro t ht ih
 refine go ?_
 refine aw zr zr ?_ ?_
 ·intro cO
  have HN:t<64:=by omega
  have hr:Sha.rounds s W (t+1)=Sha.round (Sha.rounds s W t) (Sha.ks.getD t 0) (W.getD t 0):=by conv=>lhs;unfold Sha.rounds
  generalize Sha.rounds s W t=T at hr ⊢
  obtain⟨ta,tb,tc,td,te,tf,tg,th⟩:=T
  have Nt:(wV W)[t]?=some (u32 (W.getD t 0)):=gA (by rw[List.getD_eq_getElem?_getD,List.getElem?_eq_getElem ai];rfl)
  have W1:=gA (KG HN)
  generalize Sha.ks.getD t 0=kt at hr W1
  generalize W.getD t 0=wt at hr Nt
  rw[show wV (Sha.St.l ⟨ta,tb,tc,td,te,tf,tg,th⟩)=[u32 ta,u32 tb,u32 tc,u32 td,u32 te,u32 tf,u32 tg,u32 th]from rfl]
  have SR:wV (Sha.rounds s W (t+1)).l=[u32 (th+(Sha.sH te 6 ^^^ Sha.sH te 11 ^^^ Sha.sH te 25)+(te &&& tf ||| ~~~te &&& tg)+kt+wt+((Sha.sH ta 2 ^^^ Sha.sH ta 13 ^^^ Sha.sH ta 22)+Sha.Wc ta tb tc)),u32 ta,u32 tb,u32 tc,u32 (td+(th+(Sha.sH te 6 ^^^ Sha.sH te 11 ^^^ Sha.sH te 25)+(te &&& tf ||| ~~~te &&& tg)+kt+wt)),u32 te,u32 tf,u32 tg]:=by
   rw[hr,Sha.TR];rfl
  clear hr
  refine go ?_
  (repeat(first|refine fk ?_|refine iC (U:=ao) zr zr zr zr zr zr ai ai ?_))
  refine aF (fun w=>Sat G w ([ag b7 (cl [u32 ta,u32 tb,u32 tc,u32 td,u32 te,u32 tf,u32 tg,u32 th] 144),ag b6 (cl (wV Sha.ks) 206),ag b5 (cl (wV W) 206)])) (.st 0 (.st 1 (.st 2 (.st 4 (.st 7 (.st 11 (.st 12 (.st 13 (.st 14 (.st 15 (.st 16 (.st 17 (.st 18 (.st 19 (.st 20 (.st 22 (.st 23 (.st 24 (.st 26 (.st 27 (.st 28 (.act 3 (.act 5 (.st 6 (.act 8 (.st 9 (.st 10 (.st 21 (.st 25 (.st 29 (.st 30 .nil))))))))))))))))))))))))))))))) rfl ak ak ak (fun w hw=>hw.aX ad) ?_
  refine go ?_
  (repeat(first|refine fk ?_|refine dF (U:=ao) t zr zr zr zr zr zr zr zr HN ?_|refine iC (U:=ao) zr zr zr zr zr zr ai ai ?_|refine AE zr zr zr ?_|refine T8 zr zr ?_|refine CW zr zr zr ?_|(refine aJ ?_;first|refine dU (U:=ao) 1 t zr zr zr (Nat.zero_add _) W1 zr zr ?_|refine dU (U:=ao) 2 t zr zr zr (Nat.zero_add _) Nt zr zr ?_)))
  ((refine ah rfl rfl rfl rfl ((fe te 6 ai ai)) ad ?_ (fun _ _ w hp hw=>by obtain⟨rfl,rfl⟩:=hp;exact hw.aX ad)))
  rintro _ _⟨rfl,rfl⟩
  ((refine ah rfl rfl rfl rfl ((fe te 11 ai ai)) ad ?_ (fun _ _ w hp hw=>by obtain⟨rfl,rfl⟩:=hp;exact hw.aX ad)))
  rintro _ _⟨rfl,rfl⟩
  refine hG zr zr zr ?_
  ((refine ah rfl rfl rfl rfl ((fe te 25 ai ai)) ad ?_ (fun _ _ w hp hw=>by obtain⟨rfl,rfl⟩:=hp;exact hw.aX ad)))
  rintro _ _⟨rfl,rfl⟩
  (repeat(first|refine fk ?_|refine hG zr zr zr ?_|refine iV zr zr zr ?_))
  refine aF (fun w=>Sat G w ([ag b7 (cl [u32 ta,u32 tb,u32 tc,u32 td,u32 te,u32 tf,u32 tg,u32 th] 144)])) (.st 0 (.st 2 (.st 5 (.st 8 (.st 9 (.st 10 (.st 11 (.st 12 (.act 1 (.act 3 (.st 4 (.act 6 (.st 7 (.act 13 (.st 14 (.st 15 .nil)))))))))))))))) rfl ak ak ak (fun w hw=>hw.aX ad) ?_
  refine go ?_
  (repeat(first|refine fk ?_|refine iC (U:=ao) zr zr zr zr zr zr ai ai ?_))
  ((refine ah rfl rfl rfl rfl ((fe ta 2 ai ai)) ad ?_ (fun _ _ w hp hw=>by obtain⟨rfl,rfl⟩:=hp;exact hw.aX ad)))
  rintro _ _⟨rfl,rfl⟩
  ((refine ah rfl rfl rfl rfl ((fe ta 13 ai ai)) ad ?_ (fun _ _ w hp hw=>by obtain⟨rfl,rfl⟩:=hp;exact hw.aX ad)))
  rintro _ _⟨rfl,rfl⟩
  refine hG zr zr zr ?_
  ((refine ah rfl rfl rfl rfl ((fe ta 22 ai ai)) ad ?_ (fun _ _ w hp hw=>by obtain⟨rfl,rfl⟩:=hp;exact hw.aX ad)))
  rintro _ _⟨rfl,rfl⟩
  refine hG zr zr zr ?_
  ((refine ah rfl rfl rfl rfl ((MW ta tb tc)) ad ?_ (fun _ _ w hp hw=>by obtain⟨rfl,rfl⟩:=hp;exact hw.aX ad)))
  rintro _ _⟨rfl,rfl⟩
  refine iV zr zr zr ?_
  (repeat(first|refine fk ?_|refine iC (U:=ao) zr zr zr zr zr zr ai ai ?_|refine iV zr zr zr ?_))
  refine lx (U:=ao) (cs:=wV (Sha.rounds s W (t+1)).l) zr zr zr zr zr (by rw[SR];rfl) ?_
  refine aS ?_
  refine cn (U:=ao) (l':=wV (Sha.rounds s W (t+1)).l) 0 fR zr zr zr zr (NB _) (eC _) zr zr zr ?_
  refine go ?_
  refine aO ih (t+1) rfl ai ai bY ad
 intro eQ
 have Eo:t=64:=by omega
 subst Eo
 clear ih
 rw[← Sha.IE]at hE
 generalize Sha.rounds s W 64=T at hE ⊢
 refine go ?_
 have hT8:=W0 T
 have Z':=W0 s
 refine bo (fun i:Nat=>i≤8) (fun i=>8-i)
  (fun i=>[(2,ptr b2),(4,ptr b4),(7,ptr b7),(13,.int .i64 (i:Int))])
  (fun i=>ag b7 (cl (wV (Sha.jf T.l s.l i)) 144)::ag b2 (cl (wV s.l) 144)::ag b4 (cl (wV (List.replicate 8 0)) 144)::A::F) 0 (Nat.zero_le _) rfl bY (by unfold Sha.jf;exact ad) ?_
 rintro i hi ih
 have MQ:=Sha.IC hT8 Z' hi
 refine go ?_
 refine aw zr zr ?_ ?_
 ·intro cO
  have H8:i<8:=by omega
  have Jp:=Sha.ID hT8 Z' H8
  have Du:s.l[i]?=some (s.l.getD i 0):=by rw[List.getD_eq_getElem?_getD,List.getElem?_eq_getElem ai];rfl
  have fM:=Sha.IB hT8 Z' H8
  generalize T.l.getD i 0=x at Jp fM
  generalize s.l.getD i 0=y at Du fM
  refine go ?_
  refine aF (fun w=>Sat G w ([ag b7 (cl (wV (Sha.jf T.l s.l i)) 144),ag b2 (cl (wV s.l) 144)])) (.st 0 (.st 1 (.st 2 (.st 3 (.st 4 (.st 5 (.st 6 (.st 7 (.st 8 (.act 9 .nil)))))))))) rfl ak ak ak (fun w hw=>hw.aX ad) ?_
  refine go ?_
  (repeat(first|refine fk ?_|refine dF (U:=ao) i zr zr zr zr zr zr zr zr H8 ?_|(refine aJ ?_;first|refine dU (U:=ao) 0 i zr zr zr (Nat.zero_add _) (gA Jp) zr zr ?_|refine dU (U:=ao) 1 i zr zr zr (Nat.zero_add _) (gA Du) zr zr ?_)|refine iV zr zr zr ?_))
  refine aS ?_
  refine fV (U:=ao) 0 fR zr zr zr zr zr zr zr (by rw[j4,MQ];omega) rfl ?_
  rw[show 0+i=i from Nat.zero_add _]
  refine go ?_
  have BY:=(u3 (Sha.jf T.l s.l i) i _).trans (congrArg wV fM)
  refine aj (H':=ag b7 (cl (wV (Sha.jf T.l s.l (i+1))) 144)::ag b2 (cl (wV s.l) 144)::ag b4 (cl (wV (List.replicate 8 0)) 144)::A::F) (by rw[← BY];exact aq.refl _) ?_
  refine aO ih (i+1) rfl ai ai bY ad
 intro eQ
 have H8:i=8:=by omega
 subst H8
 clear ih
 have fC:=eC (Sha.jf T.l s.l 8)
 have TB:(wV (Sha.jf T.l s.l 8)).length=8:=by rw[j4];exact MQ
 generalize wV (Sha.jf T.l s.l 8)=X at fC TB hE ⊢
 refine go ?_
 refine aI (U:=ao) 0 zr zr zr zr zr TB ?_
 refine cn (U:=ao) 2 fR rfl rfl rfl TB (by intro e;rw[e]at TB;cases TB) fC rfl (by rw[TB];rfl) rfl ?_
 refine go ?_
 refine iB (U:=ao) 2 hE Tryz.func107 zr zr zr zr zr TB rfl ⟨rfl,rfl⟩ ad
end Go.Proofs.YthjbidjmgbjkiaaGreatDoor
namespace Go.Proofs.YthjbidjmgbjkiaaGreatDoor
open Go Go.SL
attribute [local irreducible] J K aD Ends ag az aL bK aZ aQ aV bg bQ Sha.chunks Sha.chunk Sha.rounds Sha.sched dA
set_option maxRecDepth 20000 in
theorem Gs(A:HP)(v:Value)(b:List UInt8)(hv:dR A v b)(hl:b.length≤1000000000) :
  aD Tryz.prog 51 [v] [A] (fun r H=>r=dV (dA b)∧H=[A]):=by
 obtain⟨a,c,rfl,hc⟩:=hv.2
 refine aD.enter Tryz.func51 ak rfl Tryz.ntmps51 zr zr ?_
 intro G F R hE
 refine aE rfl ?_
 refine aN (U:=ao) zr zr zr bp ?_
 intro b2
 (refine nN ?_)
 (refine aE rfl ?_;refine nN ?_)
 refine au (U:=ao) (cs:=[]) zr zr zr zr zr zr zr zr zr bp ?_
 intro b0
 refine go ?_
 (refine aG (dZ 5 1 b0 0 0 [] [] _ rfl (Nat.le_refl _) (by simp)) ?_;refine bh (U:=ao) (mm:=(b).length) (news:=bV (b)) 0 2 zr zr zr zr zr zr zr zr zr zr zr zr (hv.1) (by show _=_*1;rw[bt];omega) (cC _) ai (by show(_+_)*1≤_;omega) (fun _=>rfl) bp ?_;intro vA;rw[Nat.zero_add,List.nil_append];((refine aM 0 rfl ?_));rintro aA cA rfl)
 refine go ?_
 (refine au (U:=ao) (cs:=bV [(128:UInt8)]) zr zr zr zr zr zr zr zr zr bp ?_;intro bA;refine bh (U:=ao) (mm:=1) (news:=bV [(128:UInt8)]) 1 0 zr zr zr zr zr zr zr zr zr zr zr zr (Vw.ag rfl) rfl (cC _) ai (by show(_+_)*1≤_;omega) (fun _=>rfl) bp ?_;intro vA;rw[show bV (b)++bV [(128:UInt8)]=bV ((b)++[(128:UInt8)])from by simp[bV],show(b).length+1=((b)++[(128:UInt8)]).length from(@List.length_append _ (b) [(128:UInt8)]).symm];((refine aM 1 rfl ?_));rintro aA cA rfl)
 refine go ?_
 obtain⟨z,hz⟩:∃z,z=(119-b.length%64)%64:=⟨_,rfl⟩
 have Zy:(b.length+1+z)%64=56:=by omega
 have Wg:z<64:=by omega
 have qC:∀j:Nat,(b++128::List.replicate j (0:UInt8)).length=b.length+1+j:=fun j=>by simp;omega
 refine bo (fun y:Nat × Option Addr × Nat=>y.1≤z) (fun y=>z-y.1)
  (fun y=>[(0,.slice a b.length c),(2,ptr b2),(3,.slice y.2.1 (b++128::List.replicate y.1 (0:UInt8)).length y.2.2)])
  (fun y=>az 5 1 (.slice y.2.1 (b++128::List.replicate y.1 (0:UInt8)).length y.2.2) (b++128::List.replicate y.1 (0:UInt8)).length (bV (b++128::List.replicate y.1 (0:UInt8)))::A::ag b2 (cl (dC Dg.zero) 36)::F) (0,aA,cA) (Nat.zero_le _) rfl bY ad ?_
 rintro⟨j,a2,c2⟩ hj ih
 simp only at hj
 have ux:=qC j
 dsimp only
 refine go ?_
 refine nI zr zr zr ai ai ?_
 refine go ?_
 refine aw zr zr ?_ ?_
 ·intro ct
  have W4:j<z:=by
   rcases Nat.lt_or_ge j z with h|h
   ·exact h
   ·exfalso
    apply ct
    rw[ux]
    have:j=z:=by omega
    subst this
    omega
  refine go ?_
  (refine au (U:=ao) (cs:=bV [(0:UInt8)]) zr zr zr zr zr zr zr zr zr bp ?_;intro bA;refine bh (U:=ao) (mm:=1) (news:=bV [(0:UInt8)]) 1 0 zr zr zr zr zr zr zr zr zr zr zr zr (Vw.ag rfl) rfl (cC _) (by(rw[ux];omega)) (by show(_+_)*1≤_;(rw[ux];omega)) (fun _=>rfl) bp ?_;intro vA;rw[show bV ((b++128::List.replicate j (0:UInt8)))++bV [(0:UInt8)]=bV (((b++128::List.replicate j (0:UInt8)))++[(0:UInt8)])from by simp[bV],show((b++128::List.replicate j (0:UInt8))).length+1=(((b++128::List.replicate j (0:UInt8)))++[(0:UInt8)]).length from(@List.length_append _ ((b++128::List.replicate j (0:UInt8))) [(0:UInt8)]).symm];((refine aM 1 rfl ?_));rintro aA cA rfl)
  rw[show b++128::List.replicate j (0:UInt8)++[0]=b++128::List.replicate (j+1) (0:UInt8)from by rw[List.replicate_succ'];simp]
  refine go ?_
  refine aO ih (j+1,aA,cA) rfl (by simp only;omega) (by simp only;omega) bY ad
 intro heq
 have W4:j=z:=by
  have aaK:((b.length+1+j:Nat):Int)%64=56:=by rw[← ux];exact Decidable.not_not.1 heq
  omega
 subst W4
 clear ih
 obtain⟨T0,Lv⟩:∃T0,T0=b++128::List.replicate j (0:UInt8):=⟨_,rfl⟩
 rw[← Lv]at ux ⊢
 have La:∀i:Nat,i≤8→(T0++(Sha.nz (8*b.length)).take i).length=T0.length+i:=fun i hi=>by
  rw[List.length_append,List.length_take];simp only[Sha.nz,List.length_map,List.length_range];omega
 refine go ?_
 refine gi zr zr zr (by simp only[fz];omega) ?_
 ((refine aB 24 ((.int .u64 ((8*b.length:Nat):Int))) rfl ((congrArg (Value.int .u64) ai)) ?_))
 refine go ?_
 refine bo (fun y:Nat × Option Addr × Nat=>y.1≤8) (fun y=>8-y.1)
  (fun y=>[(2,ptr b2),(3,.slice y.2.1 (T0++(Sha.nz (8*b.length)).take y.1).length y.2.2),(4,.int .u64 ((8*b.length:Nat):Int)),(5,.int .i64 (y.1:Int))])
  (fun y=>az 5 1 (.slice y.2.1 (T0++(Sha.nz (8*b.length)).take y.1).length y.2.2) (T0++(Sha.nz (8*b.length)).take y.1).length (bV (T0++(Sha.nz (8*b.length)).take y.1))::A::ag b2 (cl (dC Dg.zero) 36)::F) (0,a2,c2) (Nat.zero_le _) rfl (by simp only[List.take_zero,List.append_nil];exact bY) (by simp only[List.take_zero,List.append_nil];exact ad) ?_
 rintro⟨i,a3,c3⟩ hi ih
 simp only at hi
 have Jk:=La i hi
 dsimp only
 refine go ?_
 refine aw zr zr ?_ ?_
 ·intro cO
  have H8:i<8:=by omega
  have Tx:(Sha.nz (8*b.length)).take (i+1)=(Sha.nz (8*b.length)).take i++[UInt8.ofNat (8*b.length/2 ^ (56-8*i))]:=by
   rw[List.take_add_one];simp[Sha.nz,H8]
  refine go ?_
  refine gi zr zr zr (by simp only[fz];omega) ?_
  refine go ?_
  ((refine aB 34 ((.int .u64 ((56-8*i:Nat):Int))) rfl ((congrArg (Value.int .u64) ai)) ?_))
  refine jg zr zr zr ai ?_
  ((refine aB 35 ((.int .u64 ((8*b.length/2 ^ (56-8*i):Nat):Int))) rfl ((congrArg (Value.int .u64) (by rw[Int.toNat_natCast,show min (56-8*i) IntKind.u64.bits=56-8*i from by show min (56-8*i) 64=_;omega];simp))) ?_))
  refine dW ?_
  refine jJ (U:=ao) zr zr zr zr zr zr ?_
  ((refine aB 36 ((u8 (UInt8.ofNat (8*b.length/2 ^ (56-8*i))))) rfl ((kA _)) ?_))
  (refine au (U:=ao) (cs:=bV [(UInt8.ofNat (8*b.length/2 ^ (56-8*i)))]) zr zr zr zr zr zr zr zr zr bp ?_;intro bA;refine bh (U:=ao) (mm:=1) (news:=bV [(UInt8.ofNat (8*b.length/2 ^ (56-8*i)))]) 1 0 zr zr zr zr zr zr zr zr zr zr zr zr (Vw.ag rfl) rfl (cC _) (by(rw[Jk];omega)) (by show(_+_)*1≤_;(rw[Jk];omega)) (fun _=>rfl) bp ?_;intro vA;rw[show bV ((T0++(Sha.nz (8*b.length)).take i))++bV [(UInt8.ofNat (8*b.length/2 ^ (56-8*i)))]=bV (((T0++(Sha.nz (8*b.length)).take i))++[(UInt8.ofNat (8*b.length/2 ^ (56-8*i)))])from by simp[bV],show((T0++(Sha.nz (8*b.length)).take i)).length+1=(((T0++(Sha.nz (8*b.length)).take i))++[(UInt8.ofNat (8*b.length/2 ^ (56-8*i)))]).length from(@List.length_append _ ((T0++(Sha.nz (8*b.length)).take i)) [(UInt8.ofNat (8*b.length/2 ^ (56-8*i)))]).symm];((refine aM 1 rfl ?_));rintro aA cA rfl)
  rw[show T0++(Sha.nz (8*b.length)).take i++[UInt8.ofNat (8*b.length/2 ^ (56-8*i))]=T0++(Sha.nz (8*b.length)).take (i+1)from by rw[Tx,List.append_assoc]]
  refine go ?_
  refine aO ih (i+1,aA,cA) rfl (by simp only;omega) (by simp only;omega) bY ad
 intro eQ
 have H8:i=8:=by omega
 subst H8
 clear ih
 have B5:T0++(Sha.nz (8*b.length)).take 8=Sha.msg b:=by
  rw[Lv,List.take_of_length_le (by simp[Sha.nz])]
  unfold Sha.msg Sha.pad
  rw[← hz];simp
 have nq:(dA b).bs=Sha.out (Sha.chunks Sha.start (Sha.msg b) ((Sha.msg b).length/64)):=Fx b
 rw[← B5]at nq
 generalize T0++(Sha.nz (8*b.length)).take 8=T at Jk nq ⊢
 have aaX:T.length%64=0:=by omega
 have hTl:T.length≤1000000200:=by omega
 clear ux La Lv qC hz Zy Wg Jk B5
 have H0:∀s:Sha.St,(wV s.l).length=8:=fun s=>rfl
 have NB:∀s:Sha.St,wV s.l≠[]:=fun s e=>by have:=congrArg List.length e;rw[H0]at this;cases this
 refine oU (bs:=T) 0 rfl ?_
 intro Nu
 have SK:dR (Sep [az 5 1 (.slice a3 T.length c3) T.length (bV T),A]) (.slice a3 T.length c3) T:=Nu.mono (aW (i:=0) rfl)
 refine aj (aq.bL [_,_] _) ?_
 refine go ?_
 refine lx (U:=ao) (cs:=wV Sha.start.l) zr zr zr zr zr zr ?_
 refine aN (U:=ao) zr zr zr bp ?_
 intro b6
 refine aS ?_
 refine cn (U:=ao) (l':=wV Sha.start.l) 0 fR zr zr zr zr (by decide) (eC _) zr zr zr ?_
 refine go ?_
 refine bo (fun y:Nat × Option Addr × Nat=>64*y.1≤T.length∧dR (Sep [az 5 1 (.slice a3 T.length c3) T.length (bV T),A]) (.slice y.2.1 (T.length-64*y.1) y.2.2) (T.drop (64*y.1))) (fun y=>T.length-64*y.1)
  (fun y=>[(2,ptr b2),(6,ptr b6),(3,.slice y.2.1 (T.length-64*y.1) y.2.2)])
  (fun y=>ag b6 (cl (wV (Sha.chunks Sha.start T y.1).l) 144)::Sep [az 5 1 (.slice a3 T.length c3) T.length (bV T),A]::ag b2 (cl (dC Dg.zero) 36)::F) (0,a3,c3) ⟨ai,SK⟩ rfl bY (by unfold Sha.chunks;exact ad) ?_
 rintro⟨q,a4,c4⟩⟨hq,YX⟩ ih
 simp only at hq YX
 dsimp only
 refine go ?_
 refine aw zr zr ?_ ?_
 ·intro cO
  have YB:64*q+64≤T.length:=by omega
  have Dv:(T.drop (64*q)).length=T.length-64*q:=List.length_drop
  have xN:=YX.front 64 (by rw[Dv];omega)
  have xr:=YX.cut 64 (by rw[Dv];omega)
  have iZ:((T.drop (64*q)).take 64).length=64:=by rw[List.length_take,Dv];omega
  have Cg:=Iu _ _ _ xN (by rw[iZ];omega) (Sha.chunks Sha.start T q)
  have pF:Sha.chunk (Sha.chunks Sha.start T q) ((T.drop (64*q)).take 64)=Sha.chunks Sha.start T (q+1):=by
   have h1:=Sha.yW (Sha.chunks Sha.start T q) ((T.drop (64*q)).take 64) ((T.drop (64*q)).drop 64) (by rw[iZ];omega)
   rw[List.take_append_drop]at h1
   rw[← h1]
   conv=>rhs;unfold Sha.chunks
  rw[pF]at Cg
  refine go ?_
  refine aF (fun w=>Sat G w ([ag b6 (cl (wV (Sha.chunks Sha.start T q).l) 144)])) (.st 0 (.st 1 (.st 2 (.act 3 (.act 4 .nil))))) rfl ak ak ak (fun w hw=>hw.aX ad) ?_
  refine go ?_
  refine bD (U:=ao) 0 zr zr zr zr zr zr ?_
  refine go ?_
  refine bG (U:=ao) (p:=0) (q:=64) rfl rfl rfl rfl rfl rfl rfl ai ai (.inr (by obtain⟨_,_,_,he,hcc⟩:=YX;simp only[Value.slice.injEq]at he;rw[Dv]at hcc;omega)) ?_
  ((refine aB 45 ((.slice (sliceAt a4 c4 0 1) 64 c4)) rfl (rfl) ?_))
  ((refine ah rfl rfl rfl rfl (Cg) ad ?_ (fun _ _ w hp hw=>by obtain⟨rfl,rfl⟩:=hp;exact hw.aX ad)))
  rintro _ _⟨rfl,rfl⟩
  unfold My
  refine aS ?_
  refine cn (U:=ao) 1 fR zr zr zr zr (NB _) (eC _) rfl (by rw[H0,H0]) rfl ?_
  refine go ?_
  refine bG (U:=ao) (p:=64) (q:=((T.length-64*q:Nat):Int)) zr zr zr zr zr zr zr ai ai (.inl rfl) ?_
  ((refine aB 48 ((.slice (sliceAt a4 c4 64 1) (T.length-64*(q+1)) (c4-64))) rfl ((by rw[show(((T.length-64*q:Nat):Int)).toNat-(64:Int).toNat=T.length-64*(q+1)from by omega];rfl)) ?_))
  refine go ?_
  rw[List.drop_drop,Dv,show T.length-64*q-64=T.length-64*(q+1)from by omega,show 64*q+64=64*(q+1)from by omega]at xr
  refine aO ih (q+1,sliceAt a4 c4 64 1,c4-64) rfl ⟨by simp only;omega,xr⟩ (by simp only;omega) bY ad
 intro eQ
 have SU:q=T.length/64:=by omega
 subst SU
 clear ih
 generalize Sha.chunks Sha.start T (T.length/64)=S2 at nq ⊢
 refine aj (aq.trans (aq.pick [1] rfl) (aq.cg _ _)) ?_
 refine go ?_
 refine aN (U:=ao) zr zr zr bp ?_
 intro b9
 refine go ?_
 have Nz:=Sha.zL S2
 have Dv:∀i,i≤32→((Sha.out S2).take i++List.replicate (32-i) (0:UInt8)).length=32:=fun i hi=>by
  rw[List.length_append,List.length_take,List.length_replicate,Nz];omega
 refine bo (fun i:Nat=>i≤32) (fun i=>32-i)
  (fun i=>[(2,ptr b2),(6,ptr b6),(7,ptr b9),(8,.int .i64 (i:Int))])
  (fun i=>ag b9 (cl (bV ((Sha.out S2).take i++List.replicate (32-i) (0:UInt8))) 36)::ag b6 (cl (wV S2.l) 144)::ag b2 (cl (dC Dg.zero) 36)::A::F) 0 (Nat.zero_le _) rfl bY ad ?_
 rintro i hi ih
 refine go ?_
 refine aw zr zr ?_ ?_
 ·intro cO
  have rJ:i<32:=by omega
  have hq4:(i:Int)/4=((i/4:Nat):Int):=by omega
  have hr4:24-8*((i:Int)%4)=((24-8*(i%4):Nat):Int):=by omega
  have Nt:(wV S2.l)[i/4]?=some (u32 (S2.l.getD (i/4) 0)):=gA (by rw[List.getD_eq_getElem?_getD,List.getElem?_eq_getElem (show i/4<S2.l.length from by show i/4<8;omega)];rfl)
  have pU:(Sha.out S2)[i]?=some (UInt8.ofNat ((S2.l.getD (i/4) 0) >>> (24-8*(i%4))).toNat):=by simp[Sha.out,rJ]
  (repeat(first|refine fk ?_|refine mR zr zr zr ai ai (by simp only[fz];omega) ?_|refine nI zr zr zr ai ai ?_|refine gi zr zr zr (by simp only[fz];omega) ?_|refine dF (U:=ao) (i/4) zr zr zr zr zr zr zr hq4 ai ?_|(refine aJ ?_;refine lu (U:=ao) 1 (i/4) zr zr zr (Nat.zero_add _) Nt zr zr ?_)|refine oX (24-8*(i%4)) zr zr zr hr4 ai ?_|(refine dW ?_;refine zf (U:=ao) zr zr zr zr zr zr ?_)|refine dF (U:=ao) i zr zr zr zr zr zr zr zr rJ ?_))
  refine aS ?_
  refine fV (U:=ao) 0 fR zr zr zr zr zr zr zr (by rw[bt,Dv i ai];omega) rfl ?_
  rw[show 0+i=i from Nat.zero_add _,Bq Nz pU]
  refine go ?_
  refine aO ih (i+1) rfl ai ai bY ad
 intro eQ
 have rJ:i=32:=by omega
 subst rJ
 rw[List.take_of_length_le ai,show 32-32=0 from rfl,List.replicate_zero,List.append_nil,← nq,← dp]
 clear ih Dv Nz nq
 refine go ?_
 refine aI (U:=ao) (l:=dC (dA b)) 0 zr zr zr zr zr zr ?_
 refine cn (U:=ao) (l':=dC (dA b)) 2 fR rfl rfl rfl rfl (by intro e;cases e) (by rw[dp];exact iH _) rfl rfl rfl ?_
 refine go ?_
 (refine aU hE ?_;apply aR (U:=ao) hE Tryz.func51 rfl (aq.refl _);(repeat(first|exact aK.nil|apply aK.agg 2 zr zr zr zr zr));exact⟨rfl,rfl⟩;exact ad)
attribute [local irreducible] cd
set_option maxRecDepth 20000 in
theorem IL(A:HP)(tag:UInt8)(v:Value)(ps:List (List UInt8))(hv:qi A v ps)(hl:(cG tag ps).length≤1000000000) :
  aD Tryz.prog 168 [u8 tag,v] [A] (fun r H=>H=[az 5 1 r (cG tag ps).length (bV (cG tag ps)),A]):=by
 obtain⟨cs,dj,lz,⟨a,c,rfl,hc⟩,nL⟩:=hv
 have Cf:=ry tag ps
 refine aD.enter Tryz.func168 ak rfl Tryz.ntmps168 zr zr ?_
 intro G F R hE
 refine go ?_
 refine au (U:=ao) (cs:=bV [tag]) zr zr zr zr zr zr zr zr zr bp ?_
 intro b0
 refine go ?_
 refine aj (dZ 5 1 b0 1 1 (bV [tag]) [] _ rfl (Nat.le_refl _) (by simp[bV])) ?_
 refine bo (fun y:Nat × Option Addr × Nat=>y.1≤ps.length) (fun y=>ps.length-y.1)
  (fun y=>[(1,.slice a ps.length c),(6,.int .i64 (y.1:Int)),(5,.slice y.2.1 (cG tag (ps.take y.1)).length y.2.2)])
  (fun y=>az 5 1 (.slice y.2.1 (cG tag (ps.take y.1)).length y.2.2) (cG tag (ps.take y.1)).length (bV (cG tag (ps.take y.1)))::A::F) (0,some ⟨b0,0,none⟩,1) (Nat.zero_le _) rfl bY ad ?_
 rintro⟨i,a1,c1⟩ hi ih
 simp only at hi
 dsimp only
 refine go ?_
 refine aw zr zr ?_ ?_
 ·intro cO
  have kp:i<ps.length:=by omega
  obtain⟨p,hp⟩:∃p,ps[i]?=some p:=⟨ps[i],List.getElem?_eq_getElem kp⟩
  obtain⟨cv,qd,hb⟩:=nL i p hp
  obtain⟨b1,o1,c0,pG⟩:=dj.some (by intro h;rw[h]at qd;simp at qd)
  simp only[Value.slice.injEq]at pG
  obtain⟨rfl,-,rfl⟩:=pG
  have iZ:=tU (tag:=tag) hp
  have hle:=yv tag ps (i+1)
  have WV:=FR p.length
  rw[iZ]at hle
  simp only[List.length_append]at hle
  obtain⟨T0,Lv⟩:∃T0,T0=cG tag (ps.take i):=⟨_,rfl⟩
  rw[← Lv]at iZ hle ⊢
  obtain⟨ax,cx,rfl,YU⟩:=hb.2
  have La:∀j:Nat,j≤8→(T0++(ko p.length).take j).length=T0.length+j:=fun j hj=>by
   rw[List.length_append,List.length_take];omega
  refine go ?_
  refine cK (U:=ao) i zr zr zr zr zr zr zr zr kp ?_
  refine aJ ?_
  refine bB (U:=ao) 1 i zr zr zr dj rfl qd zr zr ?_
  refine go ?_
  refine bo (fun y:Nat × Option Addr × Nat=>y.1≤8) (fun y=>8-y.1)
   (fun y=>[(1,.slice (some ⟨b1,o1,none⟩) ps.length c),(6,.int .i64 (i:Int)),(7,.int .u64 ((p.length/2 ^ (8*y.1):Nat):Int)),(5,.slice y.2.1 (T0++(ko p.length).take y.1).length y.2.2),(8,.int .i64 (y.1:Int))])
   (fun y=>az 5 1 (.slice y.2.1 (T0++(ko p.length).take y.1).length y.2.2) (T0++(ko p.length).take y.1).length (bV (T0++(ko p.length).take y.1))::A::F) (0,a1,c1) (Nat.zero_le _) rfl (by simp only[List.take_zero,List.append_nil,Nat.mul_zero,Nat.pow_zero,Nat.div_one];exact bY) (by simp only[List.take_zero,List.append_nil];exact ad) ?_
  rintro⟨j,a2,c2⟩ hj MD
  simp only at hj
  have ux:=La j hj
  dsimp only
  refine go ?_
  refine aw zr zr ?_ ?_
  ·intro W7
   have Tc:j<8:=by omega
   have Yx:=BQ (n:=p.length) Tc
   obtain⟨m,hm⟩:∃m,m=p.length/2 ^ (8*j):=⟨_,rfl⟩
   have abp:m≤p.length:=by rw[hm];exact Nat.div_le_self _ _
   have Uv:p.length/2 ^ (8*(j+1))=m/256:=by
    rw[hm,Nat.div_div_eq_div_mul,show 8*(j+1)=8*j+8 from by omega,Nat.pow_add]
   rw[← hm]at Yx ⊢
   refine go ?_
   refine nI zr zr zr ai ai ?_
   refine dW ?_
   refine jJ (U:=ao) zr zr zr zr zr zr ?_
   ((refine aB 30 ((u8 (UInt8.ofNat m))) rfl ((by rw[show((m:Int)%256)=((m%256:Nat):Int)from by omega,kA];congr 1;apply UInt8.toNat.inj;simp only[UInt8.toNat_ofNat'];omega)) ?_))
   (refine au (U:=ao) (cs:=bV [(UInt8.ofNat m)]) zr zr zr zr zr zr zr zr zr bp ?_;intro bA;refine bh (U:=ao) (mm:=1) (news:=bV [(UInt8.ofNat m)]) 1 0 zr zr zr zr zr zr zr zr zr zr zr zr (Vw.ag rfl) rfl (cC _) (by(rw[ux];omega)) (by show(_+_)*1≤_;(rw[ux];omega)) (fun _=>rfl) bp ?_;intro vA;rw[show bV ((T0++(ko p.length).take j))++bV [(UInt8.ofNat m)]=bV (((T0++(ko p.length).take j))++[(UInt8.ofNat m)])from by simp[bV],show((T0++(ko p.length).take j)).length+1=(((T0++(ko p.length).take j))++[(UInt8.ofNat m)]).length from(@List.length_append _ ((T0++(ko p.length).take j)) [(UInt8.ofNat m)]).symm];((refine aM 1 rfl ?_));rintro aA cA rfl)
   rw[show T0++(ko p.length).take j++[UInt8.ofNat m]=T0++(ko p.length).take (j+1)from by rw[Yx,List.append_assoc]]
   refine go ?_
   refine mR zr zr zr ai ai (by simp only[fz];omega) ?_
   ((refine aB 34 ((.int .u64 ((p.length/2 ^ (8*(j+1)):Nat):Int))) rfl ((congrArg (Value.int .u64) (by rw[Uv];omega))) ?_))
   refine go ?_
   refine aO MD (j+1,aA,cA) rfl (by simp only;omega) (by simp only;omega) bY ad
  intro eQ
  have W7:j=8:=by omega
  subst W7
  rw[List.take_of_length_le ai]at ux ⊢
  refine go ?_
  refine cK (U:=ao) i zr zr zr zr zr zr zr zr kp ?_
  refine aJ ?_
  refine bB (U:=ao) 1 i zr zr zr dj rfl qd zr zr ?_
  (refine bh (U:=ao) (mm:=(p).length) (news:=bV (p)) 0 1 zr zr zr zr zr zr zr zr zr zr zr zr (hb.1) (by show _=_*1;rw[bt];omega) (cC _) (by(rw[ux];omega)) (by show(_+_)*1≤_;(rw[ux];omega)) (fun _=>rfl) bp ?_;intro vA;rw[show bV ((T0++ko p.length))++bV (p)=bV (((T0++ko p.length))++(p))from by simp[bV],show((T0++ko p.length)).length+(p).length=(((T0++ko p.length))++(p)).length from(@List.length_append _ ((T0++ko p.length)) (p)).symm];((refine aM 0 rfl ?_));rintro aA cA rfl)
  rw[show T0++ko p.length++p=cG tag (ps.take (i+1))from by rw[iZ,List.append_assoc]]
  refine go ?_
  refine aO ih (i+1,aA,cA) rfl (by simp only;omega) (by simp only;omega) bY ad
 intro eQ
 have fU:i=ps.length:=by omega
 subst fU
 rw[List.take_length]
 refine go ?_
 ((refine ae hE Tryz.func168 rfl _ zr zr ad))
set_option maxRecDepth 20000 in
theorem wM(A:HP)(tag:UInt8)(v:Value)(ps:List (List UInt8))(hv:qi A v ps)(hl:(cG tag ps).length≤1000000000) :
  aD Tryz.prog 108 [u8 tag,v] [A] (fun r H=>r=dV (cd tag ps)∧H=[A]):=by
 have SW:=IL A tag v ps hv hl
 obtain⟨cs,dj,lz,⟨a,c,rfl,hc⟩,nL⟩:=hv
 have htg:cd tag ps=dA (cG tag ps):=by unfold cd;rfl
 rw[htg]
 refine aD.enter Tryz.func108 ak rfl Tryz.ntmps108 zr zr ?_
 intro G F R hE
 refine aE rfl ?_
 refine aN (U:=ao) zr zr zr bp ?_
 intro b4
 refine go ?_
 ((refine ah zr zr zr zr (SW) ad ?_ bE))
 rintro r _ rfl
 refine fG (bs:=cG tag ps) 0 rfl ?_
 intro Nu
 refine aG (aq.bL [_,_] _) ?_
 ((refine ah zr zr zr zr (Gs _ _ (cG tag ps) (Nu.mono (aW (H:=[az 5 1 r (cG tag ps).length (bV (cG tag ps)),A]) (i:=0) rfl)) hl) ad ?_ bE))
 rintro _ _⟨rfl,rfl⟩
 refine aG (aq.cg _ _) ?_
 refine go ?_
 (refine aU hE ?_;apply aR (U:=ao) hE Tryz.func108 rfl (aq.refl _);(repeat(first|exact aK.nil|apply aK.agg 2 zr zr zr zr zr));exact⟨rfl,rfl⟩;exact ad)
set_option maxRecDepth 20000 in
theorem Mg(A:HP)(v:Value)(b:List UInt8)(hv:dR A v b)(hl:b.length≤900000000):aD Tryz.prog 69 [v] [A] (fun r H=>r=dV (cI b)∧H=[A]):=by
 obtain⟨a,c,rfl,hc⟩:=hv.2
 refine aD.enter Tryz.func69 ak rfl Tryz.ntmps69 zr zr ?_
 intro G F R hE
 refine aE rfl ?_
 refine aN (U:=ao) zr zr zr bp ?_
 intro b2
 (refine nN ?_)
 (refine aE rfl ?_;refine nN ?_)
 refine au (U:=ao) (cs:=[.slice a b.length c]) zr zr zr zr zr zr zr zr zr bp ?_
 intro b0
 refine aG (aq.trans (aq.pick [0,2] rfl) (aq.bL [_,_] _)) ?_
 ((refine ah rfl rfl rfl rfl (wM (Sep [ag b0 (cl [.slice a b.length c] 39),A]) 0 _ [b] (qi.row rfl rfl (fun i x hx=>by cases i with|zero=>(simp at hx;subst hx;exact⟨_,rfl,hv⟩)|succ i=>simp at hx)) (by simp[cG,ko];omega)) ad ?_ bE))
 rintro _ _⟨rfl,rfl⟩
 refine aG (aq.cg _ _) ?_
 refine go ?_
 (refine aU hE ?_;apply aR (U:=ao) hE Tryz.func69 rfl (aq.refl _);(repeat(first|exact aK.nil|apply aK.agg 2 zr zr zr zr zr));exact⟨rfl,rfl⟩;exact ad)
set_option maxRecDepth 20000 in
theorem Me(l r:Dg):aD Tryz.prog 131 [dV l,dV r] [] (fun x H=>x=dV (gn l r)∧H=[]):=by
 unfold dV
 refine aD.enter Tryz.func131 ak rfl Tryz.ntmps131 zr zr ?_
 intro G F R hE
 refine aE rfl ?_
 refine bq zr zr bp ?_
 intro b2
 refine bq zr zr bp ?_
 intro b3
 refine aN (U:=ao) zr zr zr bp ?_
 intro b4
 refine go ?_
 refine aF (fun w=>Sat G w ([])) (.st 0 (.st 1 (.act 2 (.act 3 (.act 4 .nil))))) rfl ak ak ak (fun w hw=>hw.aX ad) ?_
 refine go ?_
 refine gM (U:=ao) zr zr zr zr zr ?_
 refine go ?_
 refine gM (U:=ao) zr zr zr zr zr ?_
 refine au (U:=ao) (cs:=[.slice (some ⟨b2,0,none⟩) 32 32,.slice (some ⟨b3,0,none⟩) 32 32]) zr zr zr zr zr zr zr zr zr (fun _ _ hw=>hw.aX ad) ?_
 intro b0
 refine aG (aq.trans (aq.pick [3,2] rfl) (aq.trans (aq.bL [_,_] _) (aq.trans (aq.pick [1,0] rfl) (aq.bL [_,_] _)))) ?_
 have lG:qi (Sep [ag b0 (cl [.slice (some ⟨b2,0,none⟩) 32 32,.slice (some ⟨b3,0,none⟩) 32 32] 39),Sep [ag b2 (cl (dC l) 36),ag b3 (cl (dC r) 36)] ]) (.slice (some ⟨b0,0,none⟩) 2 2) [l.bs,r.bs]:=by
  refine qi.row zr zr (fun i x hx=>?_)
  match i,hx with
  | 0,hx =>
   simp at hx
   subst hx
   exact⟨_,rfl,(dR.block l.len (dp l)).mono (aW (i:=0) rfl)⟩
  | 1,hx =>
   simp at hx
   subst hx
   exact⟨_,rfl,(dR.block r.len (dp r)).mono (aW (i:=1) rfl)⟩
  | i+2,hx=>simp at hx
 have SN:=wM _ 1 _ [l.bs,r.bs] lG (by simp[cG,ko,l.len,r.len])
 ((refine ah rfl rfl rfl rfl (SN) ad ?_ (fun _ _ w hp hw=>by obtain⟨rfl,rfl⟩:=hp;exact hw.aX ad)))
 rintro _ _⟨rfl,rfl⟩
 refine aG (aq.trans (aq.cg _ _) (aq.trans (aq.pick [1] rfl) (aq.cg _ _))) ?_
 refine go ?_
 (refine aU hE ?_;apply aR (U:=ao) hE Tryz.func131 rfl (aq.refl _);(repeat(first|exact aK.nil|apply aK.agg 3 zr zr zr zr zr));exact⟨rfl,rfl⟩;exact ad)
theorem Y7{l:List Dg}{i:Nat}{x:Dg}(hx:l[i]?=some x)(q:Nat)(v:Value)(hq:(dC x)[q]?=some v):(l.flatMap dC)[i*32+q]?=some v:=by
 rw[cF cP hx q (by rcases Nat.lt_or_ge q 32 with h|h;exact h;rw[List.getElem?_eq_none (by rw[cP];exact h)]at hq;cases hq)]
 exact hq
theorem aa0{l:List Dg}{i:Nat}(h:i<l.length):l.flatMap dC≠[]:=by
 rw[← List.length_pos_iff,bZ cP];omega
set_option maxRecDepth 20000 in
theorem y5(A:HP)(v:Value)(l:List Dg)(hv:Vw A v l.length (l.flatMap dC))(hl:l.length≤1000000) :
  aD Tryz.prog 70 [v] [A] (fun r H=>H=[az 36 32 r (bu l).length ((bu l).flatMap dC),A]):=by
 obtain⟨a,c,rfl⟩:=hv.shape
 have MQ:=cH l
 refine aD.enter Tryz.func70 ak rfl Tryz.ntmps70 zr zr ?_
 intro G F R hE
 refine go ?_
 refine aj (bw 36 32 none _) ?_
 refine bo (fun y:Nat × Option Addr × Nat=>y.1≤(l.length+1)/2) (fun y=>(l.length+1)/2-y.1)
  (fun y=>[(0,.slice a l.length c),(3,.slice y.2.1 ((bu l).take y.1).length y.2.2),(4,.int .i64 ((2*y.1:Nat):Int))])
  (fun y=>az 36 32 (.slice y.2.1 ((bu l).take y.1).length y.2.2) ((bu l).take y.1).length (((bu l).take y.1).flatMap dC)::A::F) (0,none,0) (Nat.zero_le _) rfl bY ad ?_
 rintro⟨q,oa,oc⟩ hq ih
 simp only at hq
 dsimp only
 have rE:((bu l).take q).length=q:=by rw[List.length_take];omega
 refine go ?_
 refine aw zr zr ?_ ?_
 ·intro cO
  have hql:2*q<l.length:=by omega
  obtain⟨x,hx⟩:∃x,l[2*q]?=some x:=⟨l[2*q],by simp⟩
  obtain⟨b,o,fQ,fA⟩:=hv.some (aa0 hql)
  simp only[Value.slice.injEq]at fA
  obtain⟨rfl,_,rfl⟩:=fA
  refine go ?_
  refine aw zr zr ?_ ?_
  ·intro WT
   have aac:2*q+1<l.length:=by omega
   obtain⟨y,hy⟩:∃x,l[2*q+1]?=some x:=⟨l[2*q+1],by simp⟩
   have vZ:=y6 hx hy
   have iZ:(bu l).take (q+1)=(bu l).take q++[gn x y]:=by rw[List.take_add_one,vZ];rfl
   refine go ?_
   refine aF (fun w=>Sat G w ([A])) (.st 0 (.st 1 (.st 2 (.st 3 (.st 4 (.st 5 (.st 6 (.st 7 (.st 8 (.st 9 (.act 10 (.act 11 (.act 12 (.st 13 .nil)))))))))))))) rfl ak ak ak (fun w hw=>hw.aX ad) ?_
   refine go ?_
   refine eE (U:=ao) (2*q) 32 zr zr zr zr zr zr zr zr hql ?_
   refine aJ ?_
   refine e9 (U:=ao) (es:=dC x) 0 ((2*q)*32) zr zr zr hv rfl (Y7 hx) zr zr zr ?_
   refine go ?_
   refine eE (U:=ao) (2*q+1) 32 zr zr zr zr zr zr zr zr aac ?_
   refine aJ ?_
   refine e9 (U:=ao) (es:=dC y) 0 ((2*q+1)*32) zr zr zr hv rfl (Y7 hy) zr zr zr ?_
   ((refine ah rfl rfl rfl rfl ((Me x y)) ad ?_ (fun _ _ w hp hw=>by obtain⟨rfl,rfl⟩:=hp;exact hw.aX ad)))
   rintro _ _⟨rfl,rfl⟩
   refine au (U:=ao) (cs:=dC (gn x y)) zr zr zr zr zr zr zr zr zr (fun _ _ hw=>hw.aX ad) ?_
   intro row
   refine go ?_
   refine bh (U:=ao) (mm:=1) (news:=dC (gn x y)) 1 0 zr zr zr zr zr zr zr zr zr zr zr zr (Vw.ag rfl) rfl (by rw[dp];exact cC _) (by rw[rE];omega) (by show(_+_)*32≤_;rw[rE];omega) (fun _=>rfl) (fun _ _ hw=>hw.aX ad) ?_
   intro v1
   rw[show((bu l).take q).flatMap dC++dC (gn x y)=((bu l).take (q+1)).flatMap dC from by rw[iZ];simp,show((bu l).take q).length+1=((bu l).take (q+1)).length from by rw[iZ];simp]
   ((refine aM 1 rfl ?_))
   rintro ja jc rfl
   refine go ?_
   ((refine bj 4 ((.int .i64 ((2*(q+1):Nat):Int))) rfl ((congrArg (Value.int .i64) ai)) ?_))
   refine aO ih (q+1,ja,jc) rfl (by simp only;omega) (by simp only;omega) bY ad
  ·intro abw
   have vZ:=uj hx ai
   have iZ:(bu l).take (q+1)=(bu l).take q++[x]:=by rw[List.take_add_one,vZ];rfl
   refine go ?_
   refine eE (U:=ao) (2*q) 32 zr zr zr zr zr zr zr zr hql ?_
   refine aJ ?_
   refine cQ (U:=ao) (es:=dC x) 1 ((2*q)*32) zr zr zr hv rfl (Y7 hx) zr zr zr ?_
   refine au (U:=ao) (cs:=dC x) zr zr zr zr zr zr zr zr zr bp ?_
   intro row
   refine go ?_
   refine bh (U:=ao) (mm:=1) (news:=dC x) 1 0 zr zr zr zr zr zr zr zr zr zr zr zr (Vw.ag rfl) rfl (by rw[dp];exact cC _) (by rw[rE];omega) (by show(_+_)*32≤_;rw[rE];omega) (fun _=>rfl) bp ?_
   intro v1
   rw[show((bu l).take q).flatMap dC++dC x=((bu l).take (q+1)).flatMap dC from by rw[iZ];simp,show((bu l).take q).length+1=((bu l).take (q+1)).length from by rw[iZ];simp]
   ((refine aM 1 rfl ?_))
   rintro ja jc rfl
   refine go ?_
   ((refine bj 4 ((.int .i64 ((2*(q+1):Nat):Int))) rfl ((congrArg (Value.int .i64) ai)) ?_))
   refine aO ih (q+1,ja,jc) rfl (by simp only;omega) (by simp only;omega) bY ad
 intro eQ
 have SU:(bu l).take q=bu l:=by rw[List.take_of_length_le];omega
 rw[SU]
 refine go ?_
 ((refine ae hE Tryz.func70 rfl _ zr zr ad))
set_option maxRecDepth 20000 in
theorem L6(A:HP)(v:Value)(l0:List Dg)(hv:Vw A v l0.length (l0.flatMap dC))(Lb:l0.length≤1000000)(ct:l0≠[]):aD Tryz.prog 52 [v] [A] (fun r H=>r=dV (vv l0)∧H=[A]):=by
  obtain⟨a,c,rfl⟩:=hv.shape
  have k6:0<l0.length:=List.length_pos_iff.2 ct
  refine aD.enter Tryz.func52 ak rfl Tryz.ntmps52 zr zr ?_
  intro G F R hE
  refine aE rfl ?_
  refine aN (U:=ao) zr zr zr bp ?_
  intro b2
  refine go ?_
  refine aw zr zr ?_ ?_
  · intro h0;exfalso;omega
  intro _
  refine go ?_
  refine bo (fun y:Nat × HP × Option Addr × Nat=>(∀i,i<y.1→1<(cR i l0).length)∧Vw y.2.1 (.slice y.2.2.1 (cR y.1 l0).length y.2.2.2) (cR y.1 l0).length ((cR y.1 l0).flatMap dC)∧∀h,y.2.1 h→∃h',sub h' h∧A h') (fun y=>(cR y.1 l0).length)
    (fun y=>[(2,ptr b2),(3,.slice y.2.2.1 (cR y.1 l0).length y.2.2.2)])
    (fun y=>y.2.1::ag b2 (cl (dC Dg.zero) 36)::F) (0,A,a,c) ⟨fun i h=>by omega,hv,fun h hA=>⟨h,sub.refl h,hA⟩⟩ rfl bY ad ?_
  rintro⟨j,X,xa,xc⟩⟨hI,hX,TD⟩ ih
  simp only at hI hX TD
  dsimp only
  have hle:=zA l0 j
  refine go ?_
  refine aw zr zr ?_ ?_
  · intro ML
    have xM:1<(cR j l0).length:=by omega
    have pF:cR (j+1) l0=bu (cR j l0):=rfl
    have vZ:=cH (cR j l0)
    have NP:=y5 X _ _ hX ai
    rw[← pF]at NP vZ
    refine go ?_
    ((refine ah zr zr zr zr (NP) ad ?_ bE))
    rintro r _ rfl
    ((refine aM 0 rfl ?_))
    rintro ra rc rfl
    refine sx fun dj=>?_
    refine go ?_
    refine aO ih (j+1,Sep [az 36 32 (.slice ra (cR (j+1) l0).length rc) (cR (j+1) l0).length ((cR (j+1) l0).flatMap dC),X],ra,rc) rfl ⟨fun i hi=>by
      rcases Nat.lt_or_ge i j with h|h
      · exact hI i h
      · rw[show i=j from by simp only at hi;omega];exact xM,dj.mono (aW (i:=0) rfl),fun h hs=>by
      obtain⟨h1,s1,Jg⟩:=aW (H:=[az 36 32 (.slice ra (cR (j+1) l0).length rc) (cR (j+1) l0).length ((cR (j+1) l0).flatMap dC),X]) (i:=1) rfl h hs
      obtain⟨h2,s2,pT⟩:=TD h1 Jg
      exact⟨h2,s2.trans s1,pT⟩⟩ (by simp only;omega) bY ad
  intro WX
  have SY:=rl l0 k6 j
  obtain⟨x,hx⟩:∃x,cR j l0=[x]:=by
    match h:cR j l0,SY,(show(cR j l0).length≤1 by omega)with
    | [x],_,_=>exact⟨x,rfl⟩
  have BZ:=Bg ct hI hx
  rw[BZ]at hE
  rw[hx]at hX ⊢
  obtain⟨b,o,fQ,fA⟩:=hX.some (by simp[dC])
  simp only[Value.slice.injEq]at fA
  obtain⟨rfl,_,rfl⟩:=fA
  refine go ?_
  refine eE (U:=ao) 0 32 zr zr zr zr zr zr zr zr (by simp) ?_
  refine aJ ?_
  refine cQ (U:=ao) (es:=dC x) 0 (0*32) zr zr zr hX rfl (Y7 (l:=[x]) rfl) zr zr zr ?_
  (refine aS ?_;(refine bI (U:=ao) 1 fR zr zr zr zr zr zr zr zr zr ?_))
  refine go ?_
  refine aj (aq.head (B:=[A]) fun h hs=>by obtain⟨h',s1,Jg⟩:=TD h hs;exact⟨h',s1,fE Jg⟩) ?_
  (refine aU hE ?_;apply aR (U:=ao) hE Tryz.func52 rfl (aq.refl _);(repeat(first|exact aK.nil|apply aK.agg 1 zr zr zr zr zr));exact⟨rfl,rfl⟩;exact ad)
attribute [local irreducible] GI cI
theorem J6{s p:Int}(hs:1≤s∧s≤1048576)(hp:1≤p∧p≤16384):fz .i64 ((s+p-1)/p):=by
 have h1:0≤(s+p-1)/p:=Int.ediv_nonneg ai ai
 have h2:(s+p-1)/p≤s+p-1:=Int.ediv_le_self _ ai
 simp only[fz];omega
theorem IJ(x:Bl):aD Tryz.prog 130 [dQ x] [] (fun r H=>r = .bool (bz x)∧H=[]):=by
 have hF:¬(1≤x.size∧x.size≤1048576∧16≤x.piece∧x.piece≤16384)→Value.bool false = .bool (bz x):=fun h=>congrArg Value.bool (by unfold bz;rw[decide_eq_false (by rintro⟨a,b,c,e,_⟩;exact h ⟨a,b,c,e⟩)])
 have hT:(1≤x.size∧x.size≤1048576∧16≤x.piece∧x.piece≤16384)→Value.bool (decide ((x.size+x.piece-1)/x.piece≤1024)) = .bool (bz x):=fun h=>congrArg Value.bool (by unfold bz;rw[decide_eq_decide];exact⟨fun g=>⟨h.1,h.2.1,h.2.2.1,h.2.2.2,g⟩,fun g=>g.2.2.2.2⟩)
 unfold dQ
 refine aD.enter Tryz.func130 ak rfl Tryz.ntmps130 zr zr ?_
 intro G F R hE
 refine aE rfl ?_
 refine bq zr zr bp ?_
 intro b1
 repeat'(first|(with_reducible intro nT)|refine fk ?_|refine gN zr zr zr zr ?_ ?_|(refine kD ?_;refine mR zr zr zr ai ai (J6 ai ai) ?_))
 all_goals(first|((refine ae hE Tryz.func130 rfl _ rfl ⟨hF ai,rfl⟩ ad))|((refine ae hE Tryz.func130 rfl _ rfl ⟨hT ai,rfl⟩ ad)))
theorem zj(x:Bl):aD Tryz.prog 68 [dQ x] [] (fun r H=>r = .int .i64 (cj x)∧H=[]):=by
 unfold dQ
 refine aD.enter Tryz.func68 ak rfl Tryz.ntmps68 zr zr ?_
 intro G F R hE
 refine aE rfl ?_
 refine bq zr zr bp ?_
 intro b1
 refine go ?_
 refine aI (U:=ao) 0 zr zr zr zr zr zr ?_
 ((refine ah zr zr zr zr (IJ x) ad ?_ bE))
 rintro _ _⟨rfl,rfl⟩
 cases hr:bz x with
 | false =>
  have hc:cj x=0:=by unfold cj;rw[if_neg (by rw[hr];simp)]
  rw[hc]at hE
  refine go ?_
  ((refine ae hE Tryz.func68 rfl _ rfl ⟨rfl,rfl⟩ ad))
 | true =>
  have hc:cj x=(x.size+x.piece-1)/x.piece:=by unfold cj;rw[if_pos hr]
  rw[hc]at hE
  simp only[bz,decide_eq_true_eq]at hr
  refine go ?_
  refine mR zr zr zr ai ai (J6 ai ai) ?_
  refine go ?_
  ((refine ae hE Tryz.func68 rfl _ rfl ⟨rfl,rfl⟩ ad))
theorem CK(x:Bl)(i:Int):aD Tryz.prog 24 [dQ x,.int .i64 i] [] (fun r H=>r=(match dN x i with
  | none => .tuple #[.int .i64 0,.int .i64 0,.int .i64 1]
  | some (a,n) => .tuple #[.int .i64 a,.int .i64 n,.int .i64 0])∧H=[]):=by
 unfold dQ
 refine aD.enter Tryz.func24 ak rfl Tryz.ntmps24 zr zr ?_
 intro G F R hE
 refine aE rfl ?_
 refine bq zr zr bp ?_
 intro b1
 have hN:(i<0∨cj x≤i)→dN x i=none:=fun h=>by unfold dN;rw[if_pos h]
 repeat'(first|(with_reducible intro nT)|refine fk ?_|refine gN zr zr zr zr ?_ ?_|refine aw zr zr ?_ ?_|refine aI (U:=ao) 0 zr zr zr zr zr zr ?_|(refine ah zr zr zr zr (zj x) ad ?_ bE;rintro _ _⟨rfl,rfl⟩))
 all_goals(first|(rw[hN ai]at hE;((refine ae hE Tryz.func24 rfl _ rfl ⟨rfl,rfl⟩ ad)))|skip)
 have hs:dN x i=some (i*x.piece,min x.piece (x.size-i*x.piece)):=by unfold dN;rw[if_neg ai]
 rw[hs]at hE
 obtain⟨hr,yG,OS⟩:=re (x:=x) (i:=i) ai ai
 simp only[bz,decide_eq_true_eq]at hr
 obtain⟨q,hq⟩:∃q,q=i*x.piece:=⟨_,rfl⟩
 rw[← hq]at yG OS hE
 refine aF (fun w=>Sat G w ([ag b1 (cl (bn x) 38)])) (.st 0 (.st 1 (.st 2 (.st 3 (.st 4 (.st 5 (.st 6 (.st 7 (.st 8 (.st 9 (.st 10 (.st 11 (.st 12 (.st 13 (.st 14 (.st 15 (.st 16 .nil))))))))))))))))) rfl ak ak ak (fun w hw=>hw.aX ad) ?_
 (repeat(first|refine fk ?_|(refine kD ?_;refine gi zr zr zr (by rw[← hq];simp only[fz];omega) ?_;rw[← hq])))
 ((refine ae hE Tryz.func24 rfl _ rfl ⟨rfl,rfl⟩ ad))
theorem Ih:Tryz.prog.eqGuardType Tryz.prog.depth 36=false:=by kernel_rfl
theorem Iq(a b:Dg)(w:World):(Op.equal 36 (.agg (dC a).toArray) (.agg (dC b).toArray)).run Tryz.prog w = .ok (decide (a=b)) w :=
 qq Tryz.underlying36 Tryz.underlying5 TU a b 9998 w
set_option maxRecDepth 20000 in
theorem wU(A:HP)(v:Value)(b:List UInt8)(hv:dR A v b)(hl:b.length≤900000000)(k:Int) :
  aD Tryz.prog 23 [v,.int .i64 k] [A] (fun r H=>(cS b k=none∧r = .tuple #[.slice none 0 0,.int .i64 1]∧H=[A])∨∃ls rv,cS b k=some ls∧r = .tuple #[rv,.int .i64 0]∧H=[az 36 32 rv ls.length (ls.flatMap dC),A]):=by
 obtain⟨a,c,rfl,hc⟩:=hv.2
 refine aD.enter Tryz.func23 ak rfl Tryz.ntmps23 zr zr ?_
 intro G F R hE
 refine go ?_
 ((refine ah zr zr zr zr (zj ⟨Dg.zero,b.length,k,Dg.zero⟩) ad ?_ bE))
 rintro _ _⟨rfl,rfl⟩
 cases hr:bz ⟨Dg.zero,b.length,k,Dg.zero⟩with
 | false =>
  have hn:cS b k=none:=by unfold cS;rw[if_neg (by rw[hr];simp)]
  have Dw:cj ⟨Dg.zero,b.length,k,Dg.zero⟩=0:=by unfold cj;rw[if_neg (by rw[hr];simp)]
  rw[Dw]
  refine go ?_
  ((refine ae hE Tryz.func23 rfl _ rfl (.inl ⟨hn,rfl,rfl⟩) ad))
 | true =>
  have hs:cS b k=some ((fq k.toNat b.length b).map cI):=by unfold cS;rw[if_pos hr]
  have YV:cj ⟨Dg.zero,b.length,k,Dg.zero⟩=((b.length:Int)+k-1)/k:=by unfold cj;rw[if_pos hr]
  have tq:=jQ hs
  simp only[bz,decide_eq_true_eq]at hr
  obtain⟨k,rfl⟩:∃m:Nat,k=m:=⟨k.toNat,ai⟩
  rw[Int.toNat_natCast]at hs tq
  have sI:=lP k (show 0<k by omega) b
  have YC:=jN k (show 0<k by omega) b.length b
  rw[YV,show((b.length:Int)+(k:Int)-1)/(k:Int)=(((fq k b.length b).length:Nat):Int)from by rw[sI,Int.natCast_ediv];congr 1;omega]
  rw[List.length_map]at tq
  obtain⟨ps,SW⟩:∃ps,ps=fq k b.length b:=⟨_,rfl⟩
  rw[← SW]at hs tq sI YC ⊢
  refine go ?_
  refine aw zr zr ?_ ?_
  ·intro h;exfalso;omega
  intro _
  refine go ?_
  refine aj (bw 36 32 none _) ?_
  refine bo (fun y:Nat × Option Addr × Nat=>y.1≤ps.length) (fun y=>ps.length-y.1)
   (fun y=>[(0,.slice a b.length c),(1,.int .i64 (k:Int)),(6,.int .i64 (ps.length:Int)),(7,.slice y.2.1 ((ps.take y.1).map cI).length y.2.2),(8,.int .i64 (y.1:Int))])
   (fun y=>az 36 32 (.slice y.2.1 ((ps.take y.1).map cI).length y.2.2) ((ps.take y.1).map cI).length (((ps.take y.1).map cI).flatMap dC)::A::F) (0,none,0) (Nat.zero_le _) rfl bY ad ?_
  rintro⟨i,oa,oc⟩ hi ih
  simp only at hi
  dsimp only
  have rE:((ps.take i).map cI).length=i:=by rw[List.length_map,List.length_take];omega
  refine go ?_
  refine aw zr zr ?_ ?_
  ·intro cO
   have fU:i<ps.length:=by omega
   obtain⟨p,hp⟩:∃p,ps[i]?=some p:=⟨ps[i],by simp⟩
   have WH:=YC i (Nat.le_refl _)
   rw[hp]at WH
   have hik:i*k<b.length:=by
    rcases Nat.lt_or_ge (i*k) b.length with h|h
    ·exact h
    ·rw[if_neg ai]at WH;cases WH
   rw[if_pos hik]at WH
   have ON:p=(b.drop (i*k)).take k:=Option.some.inj WH
   have vS:p.length=min k (b.length-i*k):=by rw[ON,List.length_take,List.length_drop]
   have abv:(i+1)*k=i*k+k:=by rw[Nat.add_mul,Nat.one_mul]
   have F8:(i:Int)*(k:Int)=((i*k:Nat):Int):=(Int.natCast_mul i k).symm
   have EA:((i:Int)+1)*(k:Int)=((i*k:Nat):Int)+k:=by rw[Int.add_mul,Int.one_mul,F8]
   obtain⟨ik,aaF⟩:∃ik,ik=i*k:=⟨_,rfl⟩
   rw[← aaF]at hik ON vS F8 EA
   have F9:=hv.piece ik (ik+p.length) ai ai
   rw[show ik+p.length-ik=p.length from by omega]at F9
   have SZ:(b.drop ik).take p.length=p:=by
    rw[vS,ON,List.take_eq_take_iff,List.length_drop];omega
   rw[SZ]at F9
   have iZ:(ps.take (i+1)).map cI=(ps.take i).map cI++[cI p]:=by rw[List.take_add_one,hp];simp
   refine go ?_
   refine gi zr zr zr (by rw[F8];simp only[fz];omega) ?_
   rw[F8]
   refine go ?_
   refine gi zr zr zr (by rw[EA];simp only[fz];omega) ?_
   rw[EA]
   refine go ?_
   have HY:min (b.length:Int) (((ik:Nat):Int)+(k:Int))=((ik+p.length:Nat):Int):=by rw[vS];omega
   refine bG (U:=ao) (p:=((ik:Nat):Int)) (q:=min (b.length:Int) (((ik:Nat):Int)+(k:Int))) zr zr zr zr zr zr zr ai ai (.inr ai) ?_
   ((refine aB 33 ((.slice (sliceAt a c ik 1) p.length (c-ik))) rfl ((by rw[HY,Int.toNat_natCast,Int.toNat_natCast,show ik+p.length-ik=p.length from by omega];rfl)) ?_))
   ((refine ah zr zr zr zr (Mg A _ p F9 ai) ad ?_ bE))
   rintro _ _⟨rfl,rfl⟩
   refine au (U:=ao) (cs:=dC (cI p)) zr zr zr zr zr zr zr zr zr bp ?_
   intro row
   refine bh (U:=ao) (mm:=1) (news:=dC (cI p)) 2 0 zr zr zr zr zr zr zr zr zr zr zr zr (Vw.ag rfl) rfl (by rw[dp];exact cC _) (by rw[rE];omega) (by show(_+_)*32≤_;rw[rE];omega) (fun _=>rfl) bp ?_
   intro v1
   rw[show((ps.take i).map cI).flatMap dC++dC (cI p)=((ps.take (i+1)).map cI).flatMap dC from by rw[iZ];simp,show((ps.take i).map cI).length+1=((ps.take (i+1)).map cI).length from by rw[iZ];simp]
   ((refine aM 2 rfl ?_))
   rintro ja jc rfl
   refine go ?_
   refine aO ih (i+1,ja,jc) rfl (by simp only;omega) (by simp only;omega) bY ad
  ·intro eQ
   have sJ:i=ps.length:=by omega
   subst sJ
   rw[List.take_length]
   refine go ?_
   ((refine ae hE Tryz.func23 rfl _ rfl (.inr ⟨_,_,hs,rfl,rfl⟩) ad))
set_option maxRecDepth 20000 in
theorem De(A:HP)(v:Value)(b:List UInt8)(hv:dR A v b)(hl:b.length≤900000000)(k:Int) :
  aD Tryz.prog 20 [v,.int .i64 k] [A] (fun r H=>r=(match fm b k with
   | none => .tuple #[dQ Bl.zero,.int .i64 1]
   | some x => .tuple #[dQ x,.int .i64 0])∧H=[A]):=by
 have qP:=hv
 obtain⟨a,c,rfl,hc⟩:=hv.2
 refine aD.enter Tryz.func20 ak rfl Tryz.ntmps20 zr zr ?_
 intro G F R hE
 refine aE rfl ?_
 refine aN (U:=ao) zr zr zr bp ?_
 intro b4
 refine go ?_
 ((refine ah zr zr zr zr (wU A _ b hv hl k) ad ?_ bE))
 rintro _ _ (⟨hn,rfl,rfl⟩|⟨ls,rv,hs,rfl,rfl⟩)
 ·have hb:fm b k=none:=by unfold fm;rw[hn];rfl
  rw[hb]at hE
  refine go ?_
  (refine aU hE ?_;apply aR (U:=ao) hE Tryz.func20 rfl (aq.refl _);(repeat(first|exact aK.nil|apply aK.tmp rfl|apply aK.agg 1 zr zr zr zr zr));exact⟨rfl,rfl⟩;exact ad)
 ·have hb:fm b k=some ⟨dA b,b.length,k,vv ls⟩:=by unfold fm;rw[hs];rfl
  rw[hb]at hE
  have tq:=jQ hs
  ((refine aM 0 rfl ?_))
  rintro ra rc rfl
  refine go ?_
  ((refine ah zr zr zr zr (Gs A _ b hv ai) ad ?_ bE))
  rintro _ _⟨rfl,rfl⟩
  refine go ?_
  refine aG (aq.pick [1,0] rfl) ?_
  refine sx fun dj=>?_
  ((refine ah rfl rfl rfl rfl (L6 _ _ ls (dj.mono (aW (i:=0) rfl)) ai (by intro e;rw[e]at tq;simp at tq)) ad ?_ bE))
  rintro _ _⟨rfl,rfl⟩
  refine aG (aq.cg _ _) ?_
  refine go ?_
  (refine aU hE ?_;apply aR (U:=ao) hE Tryz.func20 rfl (aq.refl _);(repeat(first|exact aK.nil|apply aK.tmp rfl|apply aK.agg 2 zr zr zr zr zr));exact⟨rfl,rfl⟩;exact ad)
attribute [local irreducible] aC
theorem ny{A:Ab}(h:GF A)(nm:ByteArray):((eJ A nm).getD []).length≤1048576:=by
 unfold eJ
 cases A.look nm with
 | none=>simp
 | some f =>
  cases A.off with
  | true=>simp
  | false=>simpa using h.now f
set_option maxRecDepth 20000 in
theorem xY(X:HP)(hK:mX X)(bs bd:Nat)(q:Int)(mb:Nat)(brk:Bool)(A:Ab)(d:Dg):aD Tryz.prog 59 [ptr bs,dV d] [ag bs (cl (dK bd q mb brk) 108),aC bd A,X]
  (fun r H=>r = .bool (jj A d)∧H=[ag bs (cl (dK bd q mb brk) 108),aC bd A,X]):=by
 have hf:=mL kB d (by decide)
 have jV := @ny A
 unfold dV at hf ⊢
 refine aD.enter Tryz.func59 ak rfl Tryz.ntmps59 zr zr ?_
 intro G F R hE
 refine aE rfl ?_
 refine bq zr zr bp ?_
 intro b3
 refine Gy (bd:=bd) (A:=A) 2 rfl ?_
 intro Ey
 refine go ?_
 refine aI (U:=ao) (l:=dC d) 0 zr zr zr zr zr zr ?_
 ((refine ah zr zr zr zr (hf) ad ?_ bE))
 rintro _ _⟨rfl,rfl⟩
 ((refine ah zr zr zr zr (tC bs bd q mb brk A (cL kB d)) ad ?_ bE))
 rintro _ _⟨rv,rfl,rfl⟩
 have hw:jj A d=match eJ A (cL kB d)with|none=>false|some b=>decide (dA b=d):=rfl
 have jV:=ny Ey (cL kB d)
 cases hb:eJ A (cL kB d)with
 | none =>
  rw[hb]at hw
  rw[hw]at hE
  refine go ?_
  refine aF (fun w=>Sat G w ([])) (.st 0 (.st 1 (.st 2 (.st 4 (.act 3 (.st 5 (.st 6 (.st 7 .nil)))))))) rfl ak ak ak (fun w hw=>hw.aX ad) ?_
  refine go ?_
  ((refine ae hE Tryz.func59 rfl _ rfl ⟨rfl,rfl⟩ ad))
 | some b =>
  rw[hb]at hw jV
  rw[hw]at hE
  simp only[Option.getD_some,Option.isSome_some]at jV ⊢
  refine fG (bs:=b) 0 rfl ?_
  intro Ie
  refine aG (aq.trans (aq.pick [0,4] rfl) (aq.bL [az 5 1 rv b.length (bV b),X] _)) ?_
  have nq:=uT _ (hK.mono (aW (H:=[az 5 1 rv b.length (bV b),X]) (i:=1) rfl)) rv b (Ie.mono (aW (i:=0) rfl)) ai
  unfold dV at nq
  refine go ?_
  refine aF (fun w=>Sat G w ([ag b3 (cl (dC d) 36)])) (.st 0 (.st 1 (.st 2 (.st 4 (.act 3 (.st 5 (.st 6 (.st 7 .nil)))))))) rfl ak ak ak (fun w hw=>hw.aX ad) ?_
  refine go ?_
  refine bD (U:=ao) (l:=dC d) 0 zr zr zr zr zr zr ?_
  refine go ?_
  ((refine ah rfl rfl rfl rfl (nq) ad ?_ (fun _ _ w hp hw=>by obtain⟨rfl,rfl⟩:=hp;exact hw.aX ad)))
  rintro _ _⟨rfl,rfl⟩
  refine go ?_
  refine jI (b:=decide (dA b=d)) zr zr zr Ih (fun w=>Iq (dA b) d w) ?_
  refine go ?_
  refine aj (aq.cg _ _) ?_
  ((refine ae hE Tryz.func59 rfl _ rfl ⟨rfl,rfl⟩ ad))
set_option maxRecDepth 20000 in
theorem Ff(bs bd:Nat)(q:Int)(mb:Nat)(brk:Bool)(A:Ab)(d:Dg):aD Tryz.prog 113 [ptr bs,dV d] [ag bs (cl (dK bd q mb brk) 108),aC bd A]
  (fun r H=>∃rv,r = .tuple #[FU rv,.bool (l7 A d).isSome]∧H=[az 38 66 rv ((l7 A d).getD []).length (((l7 A d).getD []).flatMap bn),ag bs (cl (dK bd q mb brk) 108),aC bd A]):=by
 have hf:=mL kI d (by decide)
 unfold dV at hf ⊢
 refine aD.enter Tryz.func113 ak rfl Tryz.ntmps113 zr zr ?_
 intro G F R hE
 refine aE rfl ?_
 refine bq zr zr bp ?_
 intro b3
 refine aN (U:=ao) zr zr zr bp ?_
 intro b4
 refine Gy (bd:=bd) (A:=A) 3 rfl ?_
 intro Ey
 refine go ?_
 refine aI (U:=ao) (l:=dC d) 1 zr zr zr zr zr zr ?_
 ((refine ah zr zr zr zr (hf) ad ?_ bE))
 rintro _ _⟨rfl,rfl⟩
 ((refine ah zr zr zr zr (tC bs bd q mb brk A (cL kI d)) ad ?_ bE))
 rintro _ _⟨rv,rfl,rfl⟩
 have hw:l7 A d=(eJ A (cL kI d)).bind uC:=rfl
 have jV:=ny Ey (cL kI d)
 cases hb:eJ A (cL kI d)with
 | none =>
  rw[hb]at hw
  rw[hw]at hE
  refine go ?_
  refine aj (bw 38 66 none _) ?_
  (refine aU hE ?_;apply aR (U:=ao) hE Tryz.func113 rfl (aq.refl _);(repeat(first|exact aK.nil|apply aK.tmp rfl|apply aK.agg 4 zr zr zr zr zr));exact⟨_,rfl,rfl⟩;exact ad)
 | some b =>
  rw[hb]at hw jV
  simp only[Option.getD_some,Option.isSome_some,Option.bind_some]at jV hw ⊢
  rw[hw]at hE
  refine fG (bs:=b) 0 rfl ?_
  intro Ie
  refine go ?_
  ((refine ah zr zr zr zr (BL _ rv b Ie ai) ad ?_ bE))
  rintro _ _ (⟨hn,⟨e,he,rfl⟩,rfl⟩|⟨l,lv,hs,rfl,rfl⟩)
  ·rw[hn]at hE
   unfold FU
   refine go ?_
   refine aN (U:=ao) zr zr zr bp ?_
   intro b8
   refine go ?_
   refine aI (U:=ao) (l:=[.slice none 0 0]) 0 zr zr zr zr zr zr ?_
   refine go ?_
   ((refine aB 27 ((.bool false)) rfl ((congrArg Value.bool (decide_eq_false he))) ?_))
   refine go ?_
   (refine aS ?_;(refine bI (U:=ao) 4 fR zr zr zr zr zr zr zr zr zr ?_))
   refine go ?_
   refine aj (bw 38 66 none _) ?_
   (refine aU hE ?_;apply aR (U:=ao) hE Tryz.func113 rfl (aq.refl _);(repeat(first|exact aK.nil|apply aK.tmp rfl|apply aK.agg 5 zr zr zr zr zr));exact⟨_,rfl,rfl⟩;exact ad)
  ·rw[hs]at hE
   unfold FU
   ((refine aM 0 rfl ?_))
   rintro la lc rfl
   refine go ?_
   refine aN (U:=ao) zr zr zr bp ?_
   intro b8
   refine go ?_
   refine aI (U:=ao) (l:=[.slice la l.length lc]) 0 zr zr zr zr zr zr ?_
   refine go ?_
   (refine aS ?_;(refine bI (U:=ao) 5 fR zr zr zr zr zr zr zr zr zr ?_))
   refine go ?_
   (refine aU hE ?_;apply aR (U:=ao) hE Tryz.func113 rfl (aq.refl _);(repeat(first|exact aK.nil|apply aK.tmp rfl|apply aK.agg 5 zr zr zr zr zr));exact⟨_,rfl,rfl⟩;exact ad)
set_option maxRecDepth 20000 in
theorem EM(X:HP)(hK:mX X)(b2 bs bd:Nat)(q:Int)(mb:Nat)(brk:Bool)(A:Ab)(y:Bl) :
  aD Tryz.prog 115 [dQ y,ptr b2] [Sep [ag b2 (cl [ptr bs] 30),ag bs (cl (dK bd q mb brk) 108),aC bd A,X] ]
  (fun r H=>r = .bool (!jj A y.d)∧H=[Sep [ag b2 (cl [ptr bs] 30),ag bs (cl (dK bd q mb brk) 108),aC bd A,X] ]):=by
 have hw:=xY X hK bs bd q mb brk A y.d
 unfold dV at hw
 unfold dQ
 refine aD.enter Tryz.func115 ak rfl Tryz.ntmps115 zr zr ?_
 intro G F R hE
 refine aE rfl ?_
 refine bq zr zr bp ?_
 intro b0
 refine aG (aq.trans (aq.pick [1] rfl) (aq.cg [_,_,_,_] _)) ?_
 refine go ?_
 refine ef (U:=ao) 4 zr zr zr zr zr zr ?_
 ((refine ah zr zr zr zr (hw) ad ?_ bE))
 rintro _ _⟨rfl,rfl⟩
 refine go ?_
 refine aj (aq.trans (aq.pick [3,0,1,2] rfl) (aq.bL [_,_,_,_] _)) ?_
 ((refine ae hE Tryz.func115 rfl _ rfl ⟨rfl,rfl⟩ ad))
theorem wz{A:Ab}{d:Dg}(h:l7 A d=none):eW A d=false:=by unfold eW;rw[h]
theorem wy{A:Ab}{d:Dg}{l:List Bl}(h:l7 A d=some l):eW A d=(decide (tW l=d) && !l.any fun y => !jj A y.d):=by
 unfold eW;rw[h]
 simp only
 congr 1
 rw[List.not_any_eq_all_not]
 simp
theorem HK{A:Ab}{d:Dg}{l:List Bl}(h:l7 A d=some l):fY l=0:=by
 unfold l7 at h
 obtain⟨b,_,hb⟩:=Option.bind_eq_some_iff.1 h
 exact EL hb
set_option maxRecDepth 20000 in
set_option maxHeartbeats 1000000 in
theorem Ag(X:HP)(hK:mX X)(bs bd:Nat)(q:Int)(mb:Nat)(brk:Bool)(A:Ab)(d:Dg):aD Tryz.prog 62 [ptr bs,dV d] [ag bs (cl (dK bd q mb brk) 108),aC bd A,X]
  (fun r H=>r = .bool (eW A d)∧H=[ag bs (cl (dK bd q mb brk) 108),aC bd A,X]):=by
 have hi:=Ff bs bd q mb brk A d
 unfold dV at hi ⊢
 refine aD.enter Tryz.func62 ak rfl Tryz.ntmps62 zr zr ?_
 intro G F R hE
 refine aE rfl ?_
 refine bq zr zr bp ?_
 intro b2
 refine bq zr zr bp ?_
 intro b3
 refine go ?_
 refine aI (U:=ao) (l:=dC d) 0 zr zr zr zr zr zr ?_
 ((refine ah zr zr zr zr (hi) ad ?_ bE))
 rintro _ _⟨rv,rfl,rfl⟩
 unfold FU
 ((refine aM 0 rfl ?_))
 rintro ra rc rfl
 refine go ?_
 refine aN (U:=ao) zr zr zr bp ?_
 intro b5
 refine go ?_
 cases NH:l7 A d with
 | none =>
  rw[wz NH]at hE
  simp only[Option.getD_none,Option.isSome_none]
  have qB:=CR X hK (.slice ra 0 rc) [] (Vw.nil X ra rc) (by simp)
  unfold FU at qB
  rw[if_neg (by decide)]at qB
  refine aI (U:=ao) (l:=[.slice ra 0 rc]) 0 zr zr zr zr zr zr ?_
  ((refine ah zr zr zr zr (qB) ad ?_ bE))
  rintro _ _⟨rfl,rfl⟩
  unfold dV
  refine go ?_
  refine aN (U:=ao) zr zr zr bp ?_
  intro b7
  refine go ?_
  ((refine ae hE Tryz.func62 rfl _ rfl ⟨rfl,rfl⟩ ad))
 | some l =>
  have lF:=HK NH
  have hlr:=np lF
  rw[wy NH]at hE
  simp only[Option.getD_some,Option.isSome_some]
  refine Oo 1 rfl ?_
  intro dj iy
  refine aG (H':=Sep [az 38 66 (.slice ra l.length rc) l.length (l.flatMap bn),X]::ag b5 (cl [.slice ra l.length rc] 155)::ag bs (cl (dK bd q mb brk) 108)::aC bd A::ag b3 (cl (dC d) 36)::ag b2 (cl [ptr bs] 30)::F) (aq.trans (H2:=az 38 66 (.slice ra l.length rc) l.length (l.flatMap bn)::X::ag b5 (cl [.slice ra l.length rc] 155)::ag bs (cl (dK bd q mb brk) 108)::aC bd A::ag b3 (cl (dC d) 36)::ag b2 (cl [ptr bs] 30)::F) ad (aq.bL [_,_] _)) ?_
  have qB:=CR _ (hK.mono (aW (H:=[az 38 66 (.slice ra l.length rc) l.length (l.flatMap bn),X]) (i:=1) rfl)) _ l (dj.mono (aW (i:=0) rfl)) ai
  unfold FU at qB
  rw[if_pos lF]at qB
  refine aI (U:=ao) (l:=[.slice ra l.length rc]) 1 zr zr zr zr zr zr ?_
  ((refine ah zr zr zr zr (qB) ad ?_ bE))
  rintro _ _⟨rfl,rfl⟩
  unfold dV
  refine go ?_
  refine aN (U:=ao) zr zr zr bp ?_
  intro b7
  refine go ?_
  refine aI (U:=ao) (l:=dC (tW l)) 0 zr zr zr zr zr zr ?_
  refine go ?_
  refine aI (U:=ao) (l:=dC d) 5 zr zr zr zr zr zr ?_
  refine go ?_
  refine jI (b:=decide (tW l=d)) zr zr zr Ih (fun w=>Iq (tW l) d w) ?_
  by_cases kf:tW l=d
  ·rw[decide_eq_true kf]at hE ⊢
   rw[Bool.true_and]at hE
   refine go ?_
   refine aG (H':=az 38 66 (.slice ra l.length rc) l.length (l.flatMap bn)::Sep [ag b2 (cl [ptr bs] 30),ag bs (cl (dK bd q mb brk) 108),aC bd A,X]::F) (aq.trans (aq.trans (aq.pick [1] rfl) (aq.cg [_,_] _)) (aq.trans (H2:=ag b2 (cl [ptr bs] 30)::ag bs (cl (dK bd q mb brk) 108)::aC bd A::X::az 38 66 (.slice ra l.length rc) l.length (l.flatMap bn)::F) ad (aq.trans (aq.bL [_,_,_,_] _) ad))) ?_
   ((refine ah zr zr zr zr (nJ _ (Sep [ag b2 (cl [ptr bs] 30),ag bs (cl (dK bd q mb brk) 108),aC bd A,X]) _ l dj ai 115 [ptr b2] (fun y => !jj A y.d) (fun y _=>EM X hK b2 bs bd q mb brk A y)) ad ?_ bE))
   rintro _ _⟨rfl,rfl⟩
   refine go ?_
   refine aj (aq.trans (aq.pick [1] rfl) (aq.cg [_,_,_,_] _)) ?_
   ((refine ae hE Tryz.func62 rfl _ rfl ⟨rfl,rfl⟩ ad))
  ·rw[decide_eq_false kf]at hE ⊢
   rw[Bool.false_and]at hE
   refine go ?_
   refine aj (aq.trans (aq.pick [1] rfl) (aq.cg [_,_] _)) ?_
   ((refine ae hE Tryz.func62 rfl _ rfl ⟨rfl,rfl⟩ ad))
def Ar(g:FuncId)(fi:List Value)(Y:Ab→HP)(right:Ab→Dg→Bool):Prop:=∀(A:Ab) (d:Dg),aD Tryz.prog g (fi++[dV d]) [Y A] (fun r H=>r = .bool (right A d)∧H=[Y A])
end Go.Proofs.YthjbidjmgbjkiaaGreatDoor
namespace Go.Proofs.YthjbidjmgbjkiaaGreatDoor
open Go Go.SL
attribute [local irreducible] J K aD Ends ag az aL bK aZ aQ aV bg bQ
theorem CG{σ:Type}(I:σ→HP)(V:HP)(v:Value)(j0:List Value)(hv:Vw V v j0.length j0)(hn:j0.length≤1000000000)(ss:List (σ→Nat→σ→Prop))(hlen:ss.length=j0.length)(Q:Nat→σ→Prop)(cE:∀(i:Nat) (fv:Value) (s:σ→Nat→σ→Prop),j0[i]?=some fv→ss[i]?=some s→∃g fi cap,fv = .func (.func g) fi cap∧∀x,Q i x→aD Tryz.prog g (fi.toList++cap.toList) [I x] (fun r H=>∃(e:Nat) (x':σ),r = .int .i64 (e:Int)∧H=[I x']∧s x e x'∧(e=0→Q (i+1) x')))(x0:σ)(hQ:Q 0 x0) :
  aD Tryz.prog 56 [v] [V,I x0] (fun r H=>∃(e:Nat) (x':σ),r = .int .i64 (e:Int)∧H=[V,I x']∧gy ss x0 e x'∧(e=0→Q j0.length x')):=by
 obtain⟨a,c,rfl⟩:=hv.shape
 refine aD.enter Tryz.func56 ak rfl Tryz.ntmps56 zr zr ?_
 intro G F R hE
 refine go ?_
 refine bo (fun y:Nat × σ=>y.1≤j0.length∧Q y.1 y.2∧∀e x',gy (ss.drop y.1) y.2 e x'→gy ss x0 e x') (fun y=>j0.length-y.1)
  (fun y=>[(0,.slice a j0.length c),(6,.slice a j0.length c),(7,.int .i64 (j0.length:Int)),(8,.int .i64 (y.1:Int))])
  (fun y=>V::I y.2::F) (0,x0) ⟨Nat.zero_le _,hQ,fun _ _ h=>h⟩ rfl bY ad ?_
 rintro⟨i,x⟩⟨hi,hq,hr⟩ ih
 simp only at hi hq hr
 refine go ?_
 refine aw zr zr ?_ ?_
 ·intro cO
  simp only at cO
  have kp:i<j0.length:=by omega
  obtain⟨fv,lH⟩:∃fv,j0[i]?=some fv:=⟨j0[i],List.getElem?_eq_getElem kp⟩
  obtain⟨s,hs⟩:∃s,ss[i]?=some s:=⟨ss[i],List.getElem?_eq_getElem ai⟩
  obtain⟨g,fi,cap,rfl,hc⟩:=cE i fv s lH hs
  have k8:ss.drop i=s::ss.drop (i+1):=by
   rw[List.drop_eq_getElem_cons ai]
   congr 1
   have:=List.getElem?_eq_some_iff.1 hs
   exact this.2
  obtain⟨b0,o0,c0,pG⟩:=hv.some (by intro h;rw[h]at kp;simp at kp)
  simp only[Value.slice.injEq]at pG
  obtain⟨rfl,-,rfl⟩:=pG
  refine go ?_
  refine cK (U:=ao) i zr zr zr zr zr zr zr zr kp ?_
  refine bB (U:=ao) 0 i zr zr zr hv rfl lH zr zr ?_
  refine go ?_
  refine sD zr zr zr (by simp) (hc x hq) ad ?_ bE
  rintro _ _⟨e,x',rfl,rfl,OJ,MI⟩
  refine go ?_
  refine aw zr zr ?_ ?_
  ·intro ct
   have he:e≠0:=by omega
   refine go ?_
   ((refine ae hE Tryz.func56 rfl _ rfl ⟨e,x',rfl,rfl,hr e x' (by rw[k8];exact⟨e,x',OJ,.inl ⟨he,rfl,rfl⟩⟩),fun h=>absurd h he⟩ ad))
  ·intro heq
   have he:e=0:=by omega
   refine go ?_
   refine aO ih (i+1,x') rfl (⟨by simp only;omega,MI he,fun e2 x2 h2=>hr e2 x2 (by rw[k8];exact⟨e,x',OJ,.inr ⟨he,h2⟩⟩)⟩) (by simp only;omega) bY ad
 ·intro eQ
  simp only at eQ
  have fU:i=j0.length:=by omega
  subst fU
  refine go ?_
  ((refine ae hE Tryz.func56 rfl _ rfl ⟨0,x,rfl,rfl,hr 0 x (by rw[List.drop_eq_nil_of_le ai];exact⟨rfl,rfl⟩),fun _=>hq⟩ ad))
attribute [local irreducible] Sha.chunks Sha.chunk Sha.rounds Sha.sched dA cd GI cI
theorem su(bd:Nat)(A:Ab):aD Tryz.prog 54 [ptr bd] [aC bd A] (fun r H=>H=[az 9 1 r (fX A).length ((fX A).map Value.string),aC bd A]):=by
 have hl:(fX A).length=(dG A).length:=by unfold fX;rw[List.length_map,sQ]
 have hm:(fX A).map Value.string=nS (n6 (dG A)):=by unfold fX nS;rw[List.map_map];rfl
 rw[hl,hm]
 exact il (Post:=fun v H=>∃D,Rel D A∧H=[az 9 1 v (dG A).length (nS (n6 (dG A))),gx bd D]) ak (fun D hR=>(IT bd D A hR).post (fun v H h=>⟨D,hR,h⟩)) (by rintro v H⟨D',hR,rfl⟩;exact⟨_,rfl,aq.cons _ (gH hR [])⟩)
attribute [local irreducible] aC
theorem qy{A:Ab}(h:GF A):(fX A).length≤200:=by
 unfold fX dG
 rw[List.length_map,sQ,List.length_map]
 exact h.ff _ (List.mem_cons_self ..)
def mj(bs bd:Nat)(q:Int)(mb:Nat)(brk:Bool)(X:HP)(A:Ab):HP:=Sep [ag bs (cl (dK bd q mb brk) 108),aC bd A,X]
theorem me{A B:Ab}{nm:ByteArray}{e:Nat}(h:kT nm A e B):iW A B:=by
 have:=oG A (isName nm) nm
 rw[← h]at this
 exact this
set_option maxRecDepth 20000 in
set_option maxHeartbeats 1000000 in
theorem sU(bs bd:Nat)(q:Int)(mb:Nat)(brk:Bool)(X:HP)(kind:List UInt8)(hk:kind.length≤1000)(g:FuncId)(fi:List Value)(right:Ab→Dg→Bool)(hr:Ar g fi (mj bs bd q mb brk X) right)(A:Ab)(cE:A.aH.length≤900000000) :
  aD Tryz.prog 58 [ptr bs,.string (strOf kind),.func (.func g) fi.toArray #[] ] [mj bs bd q mb brk X A]
  (fun r H=>∃(e:Nat) (B:Ab),r = .int .i64 (e:Int)∧H=[mj bs bd q mb brk X B]∧dP kind right A e B∧B.aH.length≤A.aH.length+200):=by
 refine aD.enter Tryz.func58 ak rfl Tryz.ntmps58 zr zr ?_
 intro G F R hE
 refine aj (aq.cg [_,_,_] _) ?_
 refine sw (bd:=bd) (A:=A) 1 rfl ?_
 intro Ey
 have K6:=qy Ey
 obtain⟨l,hl⟩:∃l,l=fX A:=⟨_,rfl⟩
 have hsd:∀e B,mO kind right l A e B→dP kind right A e B:=fun e B h=>by unfold dP;rw[← hl];exact h
 refine go ?_
 have qB:=su bd A
 rw[← hl]at qB K6
 ((refine ah zr zr zr zr (qB) ad ?_ bE))
 rintro r _ rfl
 ((refine aM 0 rfl ?_))
 rintro ra rc rfl
 refine iu 0 rfl ?_
 intro dj
 refine go ?_
 refine bo (fun y:Nat × Ab=>y.1≤l.length∧y.2.aH.length≤A.aH.length+y.1∧∀e B,mO kind right (l.drop y.1) y.2 e B→dP kind right A e B) (fun y=>l.length-y.1)
  (fun y=>[(0,ptr bs),(1,.string (strOf kind)),(2,.func (.func g) fi.toArray #[]),(16,.slice ra l.length rc),(17,.int .i64 (l.length:Int)),(18,.int .i64 (y.1:Int))])
  (fun y=>az 9 1 (.slice ra l.length rc) l.length (l.map Value.string)::ag bs (cl (dK bd q mb brk) 108)::aC bd y.2::X::F) (0,A) ⟨Nat.zero_le _,by simp,hsd⟩ rfl bY ad ?_
 rintro⟨i,B⟩⟨hi,Tu,MF⟩ ih
 simp only at hi Tu MF
 dsimp only
 refine go ?_
 refine aw zr zr ?_ ?_
 ·intro cO
  have fU:i<l.length:=by omega
  obtain⟨nm,hx⟩:∃x,l[i]?=some x:=⟨l[i],by simp⟩
  have k8:l.drop i=nm::l.drop (i+1):=by
   rw[List.drop_eq_getElem_cons fU]
   congr 1
   exact(List.getElem?_eq_some_iff.1 hx).2
  rw[k8]at MF
  have cZ:(l.map Value.string)[i]?=some (.string nm):=by rw[List.getElem?_map,hx];rfl
  obtain⟨b,o,fQ,fA⟩:=dj.some (by intro h;rw[h]at cZ;simp at cZ)
  simp only[Value.slice.injEq]at fA
  obtain⟨rfl,_,rfl⟩:=fA
  refine go ?_
  refine eE (U:=ao) i 1 zr zr zr zr zr zr zr zr fU ?_
  refine aJ ?_
  refine bB (U:=ao) 0 (i*1) zr zr zr dj rfl (by rw[Nat.mul_one];exact cZ) zr zr ?_
  refine go ?_
  ((refine ah zr zr zr zr (Ch kind nm hk) ad ?_ bE))
  rintro _ _⟨rfl,rfl⟩
  cases hh:ij kind nm with
  | none =>
   have HQ:∀e B',mO kind right (l.drop (i+1)) B e B'→dP kind right A e B':=fun e B' h=>MF e B' (by unfold mO;rw[hh];exact h)
   simp only[Ci]
   unfold dV
   refine go ?_
   refine aN (U:=ao) zr zr zr bp ?_
   intro b9
   refine go ?_
   refine aO ih (i+1,B) rfl ⟨by simp only;omega,by simp only;omega,HQ⟩ (by simp only;omega) bY ad
  | some d =>
   have MH:=hr B d
   simp only[Ci]
   unfold dV
   refine go ?_
   refine aN (U:=ao) zr zr zr bp ?_
   intro b9
   refine go ?_
   refine aI (U:=ao) (l:=dC d) 0 zr zr zr zr zr zr ?_
   refine go ?_
   refine aG (aq.trans (aq.pick [2,3,4] rfl) (aq.bL [ag bs (cl (dK bd q mb brk) 108),aC bd B,X] _)) ?_
   refine sD zr zr zr (by simp;rfl) MH ad ?_ bE
   rintro _ _⟨rfl,rfl⟩
   refine aG (aq.cg [ag bs (cl (dK bd q mb brk) 108),aC bd B,X] _) ?_
   cases hri:right B d with
   | true =>
    have HQ:∀e B',mO kind right (l.drop (i+1)) B e B'→dP kind right A e B':=fun e B' h=>MF e B' (by unfold mO;rw[hh];simp only;rw[if_pos hri];exact h)
    refine go ?_
    refine aO ih (i+1,B) rfl ⟨by simp only;omega,by simp only;omega,HQ⟩ (by simp only;omega) bY ad
   | false =>
    have WB:=tH bd B nm ai
    obtain⟨e1,B1,KX⟩:∃e1 B1,B.remove (isName nm) nm=(e1,B1):=⟨_,_,rfl⟩
    rw[KX]at WB
    have Uy:=me (A:=B) (B:=B1) (nm:=nm) (e:=e1) KX.symm
    have HQ:∀e B',((e1≠0∧e=e1∧B'=B1)∨(e1=0∧mO kind right (l.drop (i+1)) B1 e B'))→dP kind right A e B':=fun e B' h=>MF e B' (by unfold mO;rw[hh];simp only;rw[if_neg (by rw[hri];simp)];exact⟨e1,B1,KX.symm,h⟩)
    have Jp:=Uy.1
    refine go ?_
    ((refine ah zr zr zr zr (WB) ad ?_ bE))
    rintro _ _⟨rfl,rfl⟩
    refine go ?_
    refine aw zr zr ?_ ?_
    ·intro ct
     have eP:e1≠0:=by simp only at ct;omega
     refine go ?_
     refine aj (H':=mj bs bd q mb brk X B1::F) (aq.trans (H2:=ag bs (cl (dK bd q mb brk) 108)::aC bd B1::X::F) ad (aq.bL [ag bs (cl (dK bd q mb brk) 108),aC bd B1,X] _)) ?_
     ((refine ae hE Tryz.func58 rfl _ rfl ⟨e1,B1,rfl,rfl,HQ e1 B1 (.inl ⟨eP,rfl,rfl⟩),ai⟩ ad))
    ·intro heq
     have nt:e1=0:=by simp only at heq;omega
     refine go ?_
     refine aO ih (i+1,B1) rfl ⟨by simp only;omega,by simp only;omega,fun e B' h=>HQ e B' (.inr ⟨nt,h⟩)⟩ (by simp only;omega) bY ad
 ·intro eQ
  have sJ:i=l.length:=by omega
  rw[sJ,List.drop_length]at MF
  refine go ?_
  refine aj (H':=mj bs bd q mb brk X B::F) (aq.trans (H2:=ag bs (cl (dK bd q mb brk) 108)::aC bd B::X::F) ad (aq.bL [ag bs (cl (dK bd q mb brk) 108),aC bd B,X] _)) ?_
  ((refine ae hE Tryz.func58 rfl _ rfl ⟨0,B,rfl,rfl,MF 0 B (by unfold mO;exact⟨rfl,rfl⟩),ai⟩ ad))
theorem Gg{P:Program}{f:FuncId}{args:List Value}{l:List HP}{p:Value→Prop}(h:aD P f args l (fun r H=>p r∧H=l)):aD P f args [Sep l] (fun r H=>p r∧H=[Sep l]) :=
 h.conv (by have:=aq.cg l [];rwa[List.append_nil]at this) (by intro v H hh;obtain⟨hp,hH⟩:=hh;exact⟨[Sep l],⟨hp,rfl⟩,by rw[hH];have:=aq.bL l [];rwa[List.append_nil]at this⟩)
theorem DY(X:HP)(hK:mX X)(bs bd:Nat)(q:Int)(mb:Nat)(brk:Bool):Ar 59 [ptr bs] (mj bs bd q mb brk X) jj:=fun A d=>Gg (p:=fun r=>r = .bool (jj A d)) (xY X hK bs bd q mb brk A d)
theorem xx(X:HP)(hK:mX X)(bs bd:Nat)(q:Int)(mb:Nat)(brk:Bool):Ar 62 [ptr bs] (mj bs bd q mb brk X) eW:=fun A d=>Gg (p:=fun r=>r = .bool (eW A d)) (Ag X hK bs bd q mb brk A d)
theorem DZ(Y:Ab→HP):Ar 55 [] Y (fun _ _=>false):=fun A d=>by
 show aD Tryz.prog 55 [dV d] [Y A] _
 unfold dV
 refine aD.enter Tryz.func55 ak rfl Tryz.ntmps55 zr zr ?_
 intro G F R hE
 refine aE rfl ?_
 refine bq zr zr bp ?_
 intro b1
 refine go ?_
 ((refine ae hE Tryz.func55 rfl _ rfl ⟨rfl,rfl⟩ ad))
def Kp(bs bd b6 b8:Nat)(q:Int)(mb:Nat)(X:HP)(A:Ab):HP:=Sep [mj bs bd q mb false X A,ag b6 (cl [ptr bs] 30),ag b8 (cl [.func (.func 55) #[] #[] ] 111)]
theorem Ht(X:HP)(hK:mX X)(bs bd b6 b8:Nat)(q:Int)(mb:Nat)(A:Ab)(cE:A.aH.length≤900000000):aD Tryz.prog 57 [ptr b6] [Kp bs bd b6 b8 q mb X A]
  (fun r H=>∃(e:Nat) (B:Ab),r = .int .i64 (e:Int)∧H=[Kp bs bd b6 b8 q mb X B]∧dP kB jj A e B∧B.aH.length≤A.aH.length+200):=by
 refine aD.enter Tryz.func57 ak rfl Tryz.ntmps57 zr zr ?_
 intro G F R hE
 refine aj (aq.cg [_,_,_] _) ?_
 refine go ?_
 ((refine ah zr zr zr zr (sU bs bd q mb false X kB (by decide) _ [ptr bs] jj (DY X hK bs bd q mb false) A cE) ad ?_ bE))
 rintro _ _⟨e,B,rfl,rfl,h1,h2⟩
 refine go ?_
 refine aj (aq.bL [mj bs bd q mb false X B,_,_] _) ?_
 ((refine ae hE Tryz.func57 rfl _ rfl ⟨e,B,rfl,rfl,h1,h2⟩ ad))
theorem Hr(X:HP)(bs bd b6 b8:Nat)(q:Int)(mb:Nat)(A:Ab)(cE:A.aH.length≤900000000):aD Tryz.prog 60 [ptr b6,ptr b8] [Kp bs bd b6 b8 q mb X A]
  (fun r H=>∃(e:Nat) (B:Ab),r = .int .i64 (e:Int)∧H=[Kp bs bd b6 b8 q mb X B]∧dP kN (fun _ _=>false) A e B∧B.aH.length≤A.aH.length+200):=by
 refine aD.enter Tryz.func60 ak rfl Tryz.ntmps60 zr zr ?_
 intro G F R hE
 refine aj (aq.cg [_,_,_] _) ?_
 refine go ?_
 ((refine ah zr zr zr zr (sU bs bd q mb false X kN (by decide) _ [] (fun _ _=>false) (DZ _) A cE) ad ?_ bE))
 rintro _ _⟨e,B,rfl,rfl,h1,h2⟩
 refine go ?_
 refine aj (aq.bL [mj bs bd q mb false X B,_,_] _) ?_
 ((refine ae hE Tryz.func60 rfl _ rfl ⟨e,B,rfl,rfl,h1,h2⟩ ad))
theorem Ho(X:HP)(hK:mX X)(bs bd b6 b8:Nat)(q:Int)(mb:Nat)(A:Ab)(cE:A.aH.length≤900000000):aD Tryz.prog 61 [ptr b6] [Kp bs bd b6 b8 q mb X A]
  (fun r H=>∃(e:Nat) (B:Ab),r = .int .i64 (e:Int)∧H=[Kp bs bd b6 b8 q mb X B]∧dP kI eW A e B∧B.aH.length≤A.aH.length+200):=by
 refine aD.enter Tryz.func61 ak rfl Tryz.ntmps61 zr zr ?_
 intro G F R hE
 refine aj (aq.cg [_,_,_] _) ?_
 refine go ?_
 ((refine ah zr zr zr zr (sU bs bd q mb false X kI (by decide) _ [ptr bs] eW (xx X hK bs bd q mb false) A cE) ad ?_ bE))
 rintro _ _⟨e,B,rfl,rfl,h1,h2⟩
 refine go ?_
 refine aj (aq.bL [mj bs bd q mb false X B,_,_] _) ?_
 ((refine ae hE Tryz.func61 rfl _ rfl ⟨e,B,rfl,rfl,h1,h2⟩ ad))
def cW(l:List (Dg × Bl)):List (Dg × Value):=l.map fun x=>(x.1,dQ x.2)
theorem iP(A:Ab):(fX A).length=A.names.length:=by unfold fX dG;rw[List.length_map,sQ,List.length_map]
set_option maxRecDepth 20000 in
set_option maxHeartbeats 1000000 in
theorem IQ(X:HP)(hK:mX X)(bd:Nat)(q:Int)(A:Ab)(cE:A.aH.length≤800000000):aD Tryz.prog 21 [ptr bd,.int .i64 q] [aC bd A,X]
  (fun r H=>((q<1∨1073741824<q)∧r = .tuple #[.pointer none,.int .i64 1]∧H=[aC bd A,X])∨(¬(q<1∨1073741824<q)∧A.off=true∧r = .tuple #[.pointer none,.int .i64 7]∧H=[aC bd A,X]) ∨
   (¬(q<1∨1073741824<q)∧A.off=false∧∃(e:Nat) (B:Ab),um A e B∧((e≠0∧r = .tuple #[.pointer none,.int .i64 (e:Int)]∧H=[aC bd B,X]) ∨
    (e=0∧B.aH.length≤A.aH.length+601∧∃bs mb,r = .tuple #[ptr bs,.int .i64 0]∧H=[ag bs (cl (dK bd q mb false) 108),aL dV mb (cW []),aC bd B,X])))):=by
 refine aD.enter Tryz.func21 ak rfl Tryz.ntmps21 zr zr ?_
 intro G F R hE
 refine sw (bd:=bd) (A:=A) 0 rfl ?_
 intro Ey
 repeat'(first|(with_reducible intro nT)|refine fk ?_|refine gN zr zr zr zr ?_ ?_|refine aw zr zr ?_ ?_|(refine ah zr zr zr zr (Md bd A) ad ?_ bE;rintro _ _⟨rfl,rfl⟩))
 ·((refine ae hE Tryz.func21 rfl _ rfl (.inl ⟨.inl ai,rfl,rfl⟩) ad))
 ·((refine ae hE Tryz.func21 rfl _ rfl (.inl ⟨.inr ai,rfl,rfl⟩) ad))
 have hq:¬(q<1∨1073741824<q):=by omega
 cases ie:A.off with
 | true =>
  refine go ?_
  ((refine ae hE Tryz.func21 rfl _ rfl (.inr (.inl ⟨hq,ie,rfl,rfl⟩)) ad))
 | false =>
  rw[ie]at hE
  refine go ?_
  refine mS rfl bp ?_
  intro mb
  refine aG (aq.fold (B:=[_]) (A:=aL dV mb (cW [])) (fun h hs=>⟨h,sub.refl h,ot dV mb h (ed hs)⟩)) ?_
  refine go ?_
  refine bq zr zr bp ?_
  intro bs
  refine aN (U:=ao) zr zr zr bp ?_
  intro b6
  refine go ?_
  ((refine ah zr zr zr zr (su bd A) ad ?_ bE))
  rintro r _ rfl
  ((refine aM 0 rfl ?_))
  rintro ra rc rfl
  refine go ?_
  refine aN (U:=ao) zr zr zr bp ?_
  intro b8
  refine go ?_
  refine au (U:=ao) (cs:=[.func (.func 57) #[] #[ptr b6],.func (.func 60) #[] #[ptr b6,ptr b8],.func (.func 61) #[] #[ptr b6] ]) zr zr zr zr zr zr zr zr zr bp ?_
  intro row
  refine aG (H':=ag row (cl [.func (.func 57) #[] #[ptr b6],.func (.func 60) #[] #[ptr b6,ptr b8],.func (.func 61) #[] #[ptr b6] ] 86)::Kp bs bd b6 b8 q mb X A::aL dV mb (cW [])::F) (aq.trans (H2:=ag bs (cl (dK bd q mb false) 108)::aC bd A::X::ag b6 (cl [ptr bs] 30)::ag b8 (cl [.func (.func 55) #[] #[] ] 111)::ag row (cl [.func (.func 57) #[] #[ptr b6],.func (.func 60) #[] #[ptr b6,ptr b8],.func (.func 61) #[] #[ptr b6] ] 86)::aL dV mb (cW [])::F) ad (aq.trans (aq.bL [ag bs (cl (dK bd q mb false) 108),aC bd A,X] _) (aq.trans (aq.bL [mj bs bd q mb false X A,ag b6 (cl [ptr bs] 30),ag b8 (cl [.func (.func 55) #[] #[] ] 111)] _) ad))) ?_
  have tn:∀(i:Nat) (fv:Value) (sp:Ab→Nat→Ab→Prop),[.func (.func 57) #[] #[ptr b6],.func (.func 60) #[] #[ptr b6,ptr b8],.func (.func 61) #[] #[ptr b6] ][i]?=some fv→[dP kB jj,dP kN (fun _ _=>false),dP kI eW][i]?=some sp→∃g fi cap,fv = .func (.func g) fi cap∧∀x:Ab,x.aH.length≤A.aH.length+200*i→aD Tryz.prog g (fi.toList++cap.toList) [Kp bs bd b6 b8 q mb X x] (fun r H=>∃(e:Nat) (x':Ab),r = .int .i64 (e:Int)∧H=[Kp bs bd b6 b8 q mb X x']∧sp x e x'∧(e=0→x'.aH.length≤A.aH.length+200*(i+1))):=by
   intro i fv sp hi hs
   match i,hi,hs with
   | 0,hi,hs =>
    cases hi;cases hs
    refine⟨_,_,_,rfl,fun x hx=>(Ht X hK bs bd b6 b8 q mb x ai).post ?_⟩
    rintro r H⟨e,B,rfl,rfl,h1,h2⟩
    exact⟨e,B,rfl,rfl,h1,fun _=>by omega⟩
   | 1,hi,hs =>
    cases hi;cases hs
    refine⟨_,_,_,rfl,fun x hx=>(Hr X bs bd b6 b8 q mb x ai).post ?_⟩
    rintro r H⟨e,B,rfl,rfl,h1,h2⟩
    exact⟨e,B,rfl,rfl,h1,fun _=>by omega⟩
   | 2,hi,hs =>
    cases hi;cases hs
    refine⟨_,_,_,rfl,fun x hx=>(Ho X hK bs bd b6 b8 q mb x ai).post ?_⟩
    rintro r H⟨e,B,rfl,rfl,h1,h2⟩
    exact⟨e,B,rfl,rfl,h1,fun _=>by omega⟩
   | k+3,hi,hs=>simp at hi
  have fO:=CG (Kp bs bd b6 b8 q mb X) (ag row (cl [.func (.func 57) #[] #[ptr b6],.func (.func 60) #[] #[ptr b6,ptr b8],.func (.func 61) #[] #[ptr b6] ] 86)) (.slice (some ⟨row,0,none⟩) 3 3) [.func (.func 57) #[] #[ptr b6],.func (.func 60) #[] #[ptr b6,ptr b8],.func (.func 61) #[] #[ptr b6] ] (Vw.ag rfl) (by show 3≤_;omega) [dP kB jj,dP kN (fun _ _=>false),dP kI eW] rfl (fun i x=>x.aH.length≤A.aH.length+200*i) tn A (by simp)
  ((refine ah zr zr zr zr (fO) ad ?_ bE))
  rintro _ _⟨e,B,rfl,rfl,eY,hb⟩
  refine aG (H':=ag bs (cl (dK bd q mb false) 108)::aC bd B::X::ag b6 (cl [ptr bs] 30)::aL dV mb (cW [])::F) (aq.trans (H2:=Kp bs bd b6 b8 q mb X B::aL dV mb (cW [])::F) ad (aq.trans (aq.cg [mj bs bd q mb false X B,ag b6 (cl [ptr bs] 30),ag b8 (cl [.func (.func 55) #[] #[] ] 111)] _) (aq.trans (aq.cg [ag bs (cl (dK bd q mb false) 108),aC bd B,X] _) ad))) ?_
  by_cases he:e=0
  ·subst he
   have NO:=hb rfl
   simp only[List.length_cons,List.length_nil]at NO
   refine go ?_
   ((refine ah zr zr zr zr (su bd B) ad ?_ bE))
   rintro r2 _ rfl
   ((refine aM 0 rfl ?_))
   rintro ra2 rc2 rfl
   refine go ?_
   refine aw zr zr ?_ ?_
   ·intro cO
    have zV:B.names.length<A.names.length:=by
     have:=iP A
     have:=iP B
     omega
    have Yy:=nB bd B
    obtain⟨e2,B2,Z9⟩:∃e2 B2,B.cp=(e2,B2):=⟨_,_,rfl⟩
    rw[Z9]at Yy
    have k7:um A e2 B2:=⟨0,B,eY,by rw[if_pos ⟨rfl,zV⟩];exact Z9.symm⟩
    refine go ?_
    ((refine ah zr zr zr zr (Yy) ad ?_ bE))
    rintro _ _⟨rfl,rfl⟩
    refine go ?_
    refine aw zr zr ?_ ?_
    ·intro ct
     have eP:e2≠0:=by simp only at ct;omega
     refine go ?_
     ((refine ae hE Tryz.func21 rfl _ rfl (.inr (.inr ⟨hq,rfl,e2,B2,k7,.inl ⟨eP,rfl,rfl⟩⟩)) ad))
    ·intro heq
     have nt:e2=0:=by simp only at heq;omega
     subst nt
     have hg:B2.aH.length≤B.aH.length+1:=by
      have h1:B2=B.cp.2:=by rw[Z9]
      rw[h1]
      exact(iR B).1
     refine go ?_
     refine aj (H':=ag bs (cl (dK bd q mb false) 108)::aL dV mb (cW [])::aC bd B2::X::F) ad ?_
     ((refine ae hE Tryz.func21 rfl _ rfl (.inr (.inr ⟨hq,rfl,0,B2,k7,.inr ⟨rfl,ai,bs,mb,rfl,rfl⟩⟩)) ad))
   ·intro eQ
    have zV:¬B.names.length<A.names.length:=by
     have:=iP A
     have:=iP B
     omega
    have k7:um A 0 B:=⟨0,B,eY,by rw[if_neg ai];exact⟨rfl,rfl⟩⟩
    refine go ?_
    refine aj (H':=ag bs (cl (dK bd q mb false) 108)::aL dV mb (cW [])::aC bd B::X::F) ad ?_
    ((refine ae hE Tryz.func21 rfl _ rfl (.inr (.inr ⟨hq,rfl,0,B,k7,.inr ⟨rfl,ai,bs,mb,rfl,rfl⟩⟩)) ad))
  ·have k7:um A e B:=⟨e,B,eY,by rw[if_neg ai];exact⟨rfl,rfl⟩⟩
   refine go ?_
   have hd:decide ((e:Int)=0)=false:=by simp;exact he
   rw[hd]
   refine go ?_
   refine aw zr zr ?_ ?_
   ·intro _
    refine go ?_
    refine aj (H':=aC bd B::X::F) ad ?_
    ((refine ae hE Tryz.func21 rfl _ rfl (.inr (.inr ⟨hq,rfl,e,B,k7,.inl ⟨he,rfl,rfl⟩⟩)) ad))
   ·intro h0
    exact absurd (by omega:e=0) he
end Go.Proofs.YthjbidjmgbjkiaaGreatDoor
namespace Go.Proofs.YthjbidjmgbjkiaaGreatDoor
open Go Go.SL
attribute [local irreducible] J K aD Ends ag az aL bK aZ
section
variable{P:Program}{U:Tr}[hU:e7 P U]{f:FuncId}{n:Nat}{R:Ending→World→Prop}{G:cm}{k:List Item}{L:eN}{H H':List HP}{all:Array Oper}{rest:Pl}{ty:TypeId}{pos:String}{af:Array Edge}{gd:Option (Nat × Bool)}{d:Tmp}
theorem bW{Hs:List HP}{t:TypeId}{x:Operand}{b off:Nat}{bJ:Ty}{l:List Value}{e:TypeId}{cs:List Value}(i:Nat)(hd:Nat.blt d n=true)(hx:ev L x=some (.pointer (some ⟨b,off,none⟩)))(hi:cf Hs i=some (ag b (cl l e)))(ht:U.get t=some bJ)(hg:bJ.isAgg=true)(hv:nD l off bJ.info.size [] = .mk cs)(h:J P f n R G (fun w=>Sat G w Hs) all rest k ((d,.agg cs.toArray)::L) H):J P f n R G (fun w=>Sat G w Hs) all (.cons true true ⟨some d,.load t x,ty,pos,af,gd⟩ rest) k L H :=
 kC hd (fun a w ha hw=>by
  obtain⟨h1,h2⟩:=AX _ _ _ _ _ hv
  simp only[List.reverse_nil,List.nil_append]at h1
  have hc:∀j v,cs[j]?=some v→w.cell? ⟨b,off+j,none⟩=some v:=fun j v hj=>by
   rw[de (Sat.rR hw hi)]
   rw[h1,List.getElem?_take]at hj
   split at hj
   ·simpa using hj
   ·cases hj
  have:=gE (P:=P) ht hg (by rw[h1];simp;omega) hc
  simp[execOp,ha.ev hx,this]) h
end
end Go.Proofs.YthjbidjmgbjkiaaGreatDoor
namespace Go.Proofs.YthjbidjmgbjkiaaGreatDoor
open Go Go.SL
attribute [local irreducible] J K aD Ends ag az aL bK aZ aQ aV bg bQ Sha.chunks Sha.chunk Sha.rounds Sha.sched dA cd GI cI aC
section
variable{P:Program}{U:Tr}[hU:e7 P U]{f:FuncId}{n:Nat}{R:Ending→World→Prop}{G:cm}{k:List Item}{L:eN}{H H':List HP}{all:Array Oper}{rest:Pl}{ty:TypeId}{pos:String}{af:Array Edge}{gd:Option (Nat × Bool)}{d:Tmp}
end
theorem Ot(bs bd:Nat)(q:Int)(mb:Nat)(brk:Bool)(A:Ab)(d:Dg):aD Tryz.prog 73 [ptr bs,dV d] [ag bs (cl (dK bd q mb brk) 108),aC bd A]
  (fun r H=>r = .bool (pW A (cL kB d))∧H=[ag bs (cl (dK bd q mb brk) 108),aC bd A]):=by
 have hf:=mL kB d (by decide)
 unfold dV at hf ⊢
 refine aD.enter Tryz.func73 ak rfl Tryz.ntmps73 zr zr ?_
 intro G F R hE
 refine aE rfl ?_
 refine bq zr zr bp ?_
 intro b3
 refine go ?_
 refine aI (U:=ao) (l:=dC d) 0 zr zr zr zr zr zr ?_
 ((refine ah zr zr zr zr (hf) ad ?_ bE))
 rintro _ _⟨rfl,rfl⟩
 ((refine ah zr zr zr zr (KM bs bd q mb brk A (cL kB d)) ad ?_ bE))
 rintro _ _⟨rfl,rfl⟩
 refine go ?_
 ((refine ae hE Tryz.func73 rfl _ rfl ⟨rfl,rfl⟩ ad))
def p6(l:List (Dg × Bl))(x:Bl):Bool:=decide (di l x.d=some x)
theorem pO(l:List (Dg × Bl))(d:Dg):dI (cW l) d=(di l d).map dQ:=by
 unfold cW di dI
 induction l with
 | nil=>rfl
 | cons y l ih =>
  simp only[List.map_cons,List.find?_cons]
  by_cases h:y.1=d
  ·simp[h]
  ·simp only[h,decide_false]
   exact ih
set_option maxRecDepth 20000 in
theorem Bz(bs bd:Nat)(q:Int)(mb:Nat)(brk:Bool)(l:List (Dg × Bl))(x:Bl):aD Tryz.prog 105 [ptr bs,dQ x] [ag bs (cl (dK bd q mb brk) 108),aL dV mb (cW l)]
  (fun r H=>r = .bool (p6 l x)∧H=[ag bs (cl (dK bd q mb brk) 108),aL dV mb (cW l)]):=by
 unfold dQ
 refine aD.enter Tryz.func105 ak rfl Tryz.ntmps105 zr zr ?_
 intro G F R hE
 refine aE rfl ?_
 refine bq zr zr bp ?_
 intro b3
 refine go ?_
 refine aF (fun w=>Sat G w ([ag b3 (cl (bn x) 38),ag bs (cl (dK bd q mb brk) 108),aL dV mb (cW l)])) (.st 0 (.st 1 (.st 2 (.st 3 (.st 4 (.st 5 (.st 6 (.st 7 (.st 8 (.st 9 (.act 10 (.act 11 (.st 12 .nil))))))))))))) rfl ak ak ak (fun w hw=>hw.aX ad) ?_
 refine go ?_
 refine bW (U:=ao) 0 zr zr zr zr zr zr ?_
 refine go ?_
 refine oZ (U:=ao) (es:=cW l) (key:=x.d) rfl Nq zr zr zr zr zr zr zr (fun w hw=>hw.nv (i:=2) rfl) ?_
 rw[pO]
 cases hb:di l x.d with
 | none =>
  simp only[Option.map_none,Option.getD_none,Option.isSome_none]
  refine go ?_
  refine aN (U:=ao) zr zr zr (fun _ w hw=>hw.aX ad) ?_
  intro b5
  refine go ?_
  (refine aS ?_;(refine bI (U:=ao) 0 (fun w hw=>hw.aX ad) zr zr zr zr zr zr zr zr zr ?_))
  refine go ?_
  have hw:p6 l x=false:=by unfold p6;rw[hb];rfl
  rw[hw]at hE
  ((refine ae hE Tryz.func105 rfl _ rfl ⟨rfl,rfl⟩ ad))
 | some y =>
  simp only[Option.map_some,Option.getD_some,Option.isSome_some]
  unfold dQ
  refine go ?_
  refine aN (U:=ao) zr zr zr (fun _ w hw=>hw.aX ad) ?_
  intro b5
  refine go ?_
  (refine aS ?_;(refine bI (U:=ao) 0 (fun w hw=>hw.aX ad) zr zr zr zr zr zr zr zr zr ?_))
  refine go ?_
  have hw:p6 l x=decide (x=y):=by unfold p6;rw[hb];simp only[Option.some.injEq];rw[decide_eq_decide];exact eq_comm
  rw[hw]at hE
  (repeat(first|refine fk ?_|refine aI (U:=ao) (l:=bn x) 1 zr zr zr zr zr zr ?_|refine aI (U:=ao) (l:=bn y) 0 zr zr zr zr zr zr ?_|refine jI (b:=decide (x=y)) zr zr zr NY (fun w=>N7 x y w) ?_))
  ((refine ae hE Tryz.func105 rfl _ rfl ⟨rfl,rfl⟩ ad))
def ni(brk:Bool)(l:List (Dg × Bl))(x:Bl):Nat:=if brk then 10 else if p6 l x then 0 else 4
set_option maxRecDepth 20000 in
theorem rC(bs bd:Nat)(q:Int)(mb:Nat)(brk:Bool)(l:List (Dg × Bl))(x:Bl):aD Tryz.prog 90 [ptr bs,dQ x] [ag bs (cl (dK bd q mb brk) 108),aL dV mb (cW l)]
  (fun r H=>r = .int .i64 (ni brk l x:Int)∧H=[ag bs (cl (dK bd q mb brk) 108),aL dV mb (cW l)]):=by
 have ho:=Bz bs bd q mb brk l x
 unfold dQ at ho ⊢
 refine aD.enter Tryz.func90 ak rfl Tryz.ntmps90 zr zr ?_
 intro G F R hE
 refine aE rfl ?_
 refine bq zr zr bp ?_
 intro b3
 cases brk with
 | true =>
  refine go ?_
  ((refine ae hE Tryz.func90 rfl _ rfl ⟨rfl,rfl⟩ ad))
 | false =>
  refine go ?_
  refine aI (U:=ao) (l:=bn x) 0 zr zr zr zr zr zr ?_
  ((refine ah zr zr zr zr (ho) ad ?_ bE))
  rintro _ _⟨rfl,rfl⟩
  cases hob:p6 l x with
  | true =>
   have hm:ni false l x=0:=by unfold ni;rw[hob];rfl
   rw[hm]at hE
   refine go ?_
   ((refine ae hE Tryz.func90 rfl _ rfl ⟨rfl,rfl⟩ ad))
  | false =>
   have hm:ni false l x=4:=by unfold ni;rw[hob];rfl
   rw[hm]at hE
   refine go ?_
   ((refine ae hE Tryz.func90 rfl _ rfl ⟨rfl,rfl⟩ ad))
theorem jW(bs bd:Nat)(q:Int)(mb:Nat)(brk:Bool)(Y:HP)(V:HP)(v:Value)(j0:List Value)(hv:Vw V v j0.length j0)(hn:j0.length≤1000000000)(ss:List y9)(hlen:ss.length=j0.length)(Q:Nat→Ab→Prop)(cE:∀(i:Nat) (fv:Value) (s:y9),j0[i]?=some fv→ss[i]?=some s→∃g fi cap,fv = .func (.func g) fi cap∧∀x,Q i x→aD Tryz.prog g (fi.toList++cap.toList) [mj bs bd q mb brk Y x] (fun r H=>∃(e:Nat) (x':Ab),r = .int .i64 (e:Int)∧H=[mj bs bd q mb brk Y x']∧s x e x'∧(e=0→Q (i+1) x')))(A:Ab)(hQ:Q 0 A) :
  aD Tryz.prog 77 [ptr bs,v] [V,mj bs bd q mb brk Y A]
   (fun r H=>∃(e:Nat) (B:Ab),r = .int .i64 (e:Int)∧H=[V,mj bs bd q mb (brk || decide (e≠0)) Y B]∧gy ss A e B∧(e=0→Q j0.length B)):=by
 have fO:=CG (mj bs bd q mb brk Y) V v j0 hv hn ss hlen Q cE A hQ
 obtain⟨a,c,rfl⟩:=hv.shape
 refine aD.enter Tryz.func77 ak rfl Tryz.ntmps77 zr zr ?_
 intro G F R hE
 refine go ?_
 ((refine ah zr zr zr zr (fO) ad ?_ bE))
 rintro _ _⟨e,B,rfl,rfl,eY,hb⟩
 refine aG (aq.trans (aq.pick [1] rfl) (aq.cg [ag bs (cl (dK bd q mb brk) 108),aC bd B,Y] _)) ?_
 have lz:aq (ag bs (cl (dK bd q mb (brk || decide (e≠0))) 108)::aC bd B::Y::V::F) (V::mj bs bd q mb (brk || decide (e≠0)) Y B::F) :=
  aq.trans (aq.bL [ag bs (cl (dK bd q mb (brk || decide (e≠0))) 108),aC bd B,Y] _) ad
 cases brk with
 | true =>
  refine go ?_
  refine aj (aq.trans ad lz) ?_
  ((refine ae hE Tryz.func77 rfl _ rfl ⟨e,B,rfl,rfl,eY,hb⟩ ad))
 | false =>
  refine go ?_
  have Tx:decide ((e:Int)≠0)=(false || decide (e≠0)):=by by_cases h:e=0 <;> simp[h]
  rw[Tx]
  refine aj (aq.trans ad lz) ?_
  ((refine ae hE Tryz.func77 rfl _ rfl ⟨e,B,rfl,rfl,eY,hb⟩ ad))
end Go.Proofs.YthjbidjmgbjkiaaGreatDoor
namespace Go.Proofs.YthjbidjmgbjkiaaGreatDoor
open Go Go.SL
theorem wu{P:Program}{f:FuncId}{args:List Value}{Pre:List HP}{Post:Value→List HP→Prop}(X:List HP)(c:aD P f args Pre Post):aD P f args (Pre++X) (fun v H=>∃H',Post v H'∧H=H'++X) :=
 ⟨c.1,fun G w F hw=>(c.2 G w (X++F) (by rw[List.append_assoc]at hw;exact hw)).mono fun e w' h'=>let ⟨v,H,he,Nx,hs⟩:=h';⟨v,H++X,he,⟨H,Nx,rfl⟩,by rw[List.append_assoc];exact hs⟩⟩
attribute [local irreducible] J K aD Ends ag az aL bK aZ aQ aV bg bQ Sha.chunks Sha.chunk Sha.rounds Sha.sched dA cd GI cI aC
theorem m6(bs bd:Nat)(q:Int)(mb:Nat)(brk:Bool)(Xs:List HP)(A:Ab)(F:List HP):aq (mj bs bd q mb brk (Sep Xs) A::F) (ag bs (cl (dK bd q mb brk) 108)::aC bd A::(Xs++F)) :=
 aq.trans (aq.cg [ag bs (cl (dK bd q mb brk) 108),aC bd A,Sep Xs] F) (aq.cons _ (aq.cons _ (aq.cg Xs F)))
theorem sP(bs bd:Nat)(q:Int)(mb:Nat)(brk:Bool)(Xs:List HP)(A:Ab)(F:List HP):aq (ag bs (cl (dK bd q mb brk) 108)::aC bd A::(Xs++F)) (mj bs bd q mb brk (Sep Xs) A::F) :=
 aq.trans (aq.cons _ (aq.cons _ (aq.bL Xs F))) (aq.bL [ag bs (cl (dK bd q mb brk) 108),aC bd A,Sep Xs] F)
theorem nw{f:FuncId}{args:List Value}{bs bd:Nat}{q:Int}{mb:Nat}{brk:Bool}{Xs:List HP}{A:Ab}{p:Nat→Ab→Prop}(h:aD Tryz.prog f args (ag bs (cl (dK bd q mb brk) 108)::aC bd A::Xs) (fun r H=>∃(e:Nat) (B:Ab),r = .int .i64 (e:Int)∧H=ag bs (cl (dK bd q mb brk) 108)::aC bd B::Xs∧p e B)) :
  aD Tryz.prog f args [mj bs bd q mb brk (Sep Xs) A] (fun r H=>∃(e:Nat) (B:Ab),r = .int .i64 (e:Int)∧H=[mj bs bd q mb brk (Sep Xs) B]∧p e B) :=
 h.conv (by have:=m6 bs bd q mb brk Xs A [];rwa[List.append_nil]at this) (by
  rintro v H⟨e,B,rfl,rfl,hp⟩
  exact⟨_,⟨e,B,rfl,rfl,hp⟩,by have:=sP bs bd q mb brk Xs B [];rwa[List.append_nil]at this⟩)
theorem tu(x:Bl):aD Tryz.prog 75 [.string (strOf kS),.agg (dC x.d).toArray] [] (fun r H=>r = .string (fS x)∧H=[]):=by
 have:=mL kS x.d (by decide)
 unfold dV at this
 exact this
theorem GV(bs bd b2 b3:Nat)(q:Int)(mb:Nat)(brk:Bool)(x:Bl)(A:Ab)(eA:A.writes.length≤1000000000) :
  aD Tryz.prog 93 [ptr b2,ptr b3] (ag bs (cl (dK bd q mb brk) 108)::aC bd A::[ag b2 (cl [ptr bs] 30),ag b3 (cl (bn x) 38)])
   (fun r H=>∃(e:Nat) (B:Ab),r = .int .i64 (e:Int)∧H=ag bs (cl (dK bd q mb brk) 108)::aC bd B::[ag b2 (cl [ptr bs] 30),ag b3 (cl (bn x) 38)]∧kR (fS x) A e B):=by
 refine aD.enter Tryz.func93 ak rfl Tryz.ntmps93 zr zr ?_
 intro G F R hE
 refine go ?_
 refine aF (fun w=>Sat G w ([ag bs (cl (dK bd q mb brk) 108),ag b2 (cl [ptr bs] 30),ag b3 (cl (bn x) 38)])) (.st 0 (.st 1 (.st 2 (.st 3 (.st 4 (.st 5 (.act 6 (.act 7 (.st 8 .nil))))))))) rfl ak ak ak (fun w hw=>hw.aX ad) ?_
 refine go ?_
 refine bW (U:=ao) 2 zr zr zr zr zr zr ?_
 refine go ?_
 ((refine ah rfl rfl rfl rfl (tu x) ad ?_ (fun _ _ w hp hw=>by obtain⟨rfl,rfl⟩:=hp;exact hw.aX ad)))
 rintro _ _⟨rfl,rfl⟩
 refine go ?_
 ((refine ah rfl rfl rfl rfl (sg bd A (fS x) eA) ad ?_ (fun _ _ w hp hw=>by obtain⟨rfl,rfl⟩:=hp;exact hw.aX ad)))
 rintro _ _⟨rfl,rfl⟩
 refine go ?_
 ((refine ae hE Tryz.func93 rfl _ rfl ⟨_,_,rfl,rfl,rfl⟩ ad))
theorem EZ(bs bd b2 b3:Nat)(q:Int)(mb:Nat)(brk:Bool)(x:Bl)(A:Ab)(cE:A.aH.length≤1000000000) :
  aD Tryz.prog 101 [ptr b2,ptr b3] (ag bs (cl (dK bd q mb brk) 108)::aC bd A::[ag b2 (cl [ptr bs] 30),ag b3 (cl (bn x) 38)])
   (fun r H=>∃(e:Nat) (B:Ab),r = .int .i64 (e:Int)∧H=ag bs (cl (dK bd q mb brk) 108)::aC bd B::[ag b2 (cl [ptr bs] 30),ag b3 (cl (bn x) 38)]∧kT (fS x) A e B):=by
 refine aD.enter Tryz.func101 ak rfl Tryz.ntmps101 zr zr ?_
 intro G F R hE
 refine go ?_
 refine aF (fun w=>Sat G w ([ag bs (cl (dK bd q mb brk) 108),ag b2 (cl [ptr bs] 30),ag b3 (cl (bn x) 38)])) (.st 0 (.st 1 (.st 2 (.st 3 (.st 4 (.st 5 (.act 6 (.act 7 (.st 8 .nil))))))))) rfl ak ak ak (fun w hw=>hw.aX ad) ?_
 refine go ?_
 refine bW (U:=ao) 2 zr zr zr zr zr zr ?_
 refine go ?_
 ((refine ah rfl rfl rfl rfl (tu x) ad ?_ (fun _ _ w hp hw=>by obtain⟨rfl,rfl⟩:=hp;exact hw.aX ad)))
 rintro _ _⟨rfl,rfl⟩
 refine go ?_
 ((refine ah rfl rfl rfl rfl (tH bd A (fS x) cE) ad ?_ (fun _ _ w hp hw=>by obtain⟨rfl,rfl⟩:=hp;exact hw.aX ad)))
 rintro _ _⟨rfl,rfl⟩
 refine go ?_
 ((refine ae hE Tryz.func101 rfl _ rfl ⟨_,_,rfl,rfl,rfl⟩ ad))
theorem Hy(bs bd b2 b4:Nat)(q:Int)(mb:Nat)(brk:Bool)(o:ByteArray)(A:Ab)(eA:A.writes.length≤1000000000) :
  aD Tryz.prog 157 [ptr b2,ptr b4] (ag bs (cl (dK bd q mb brk) 108)::aC bd A::[ag b2 (cl [ptr bs] 30),ag b4 (cl [.string o] 9)])
   (fun r H=>∃(e:Nat) (B:Ab),r = .int .i64 (e:Int)∧H=ag bs (cl (dK bd q mb brk) 108)::aC bd B::[ag b2 (cl [ptr bs] 30),ag b4 (cl [.string o] 9)]∧kR o A e B):=by
 refine aD.enter Tryz.func157 ak rfl Tryz.ntmps157 zr zr ?_
 intro G F R hE
 refine go ?_
 refine aF (fun w=>Sat G w ([ag bs (cl (dK bd q mb brk) 108),ag b2 (cl [ptr bs] 30),ag b4 (cl [.string o] 9)])) (.st 0 (.st 1 (.st 2 (.st 3 (.st 4 (.act 5 (.st 6 .nil))))))) rfl ak ak ak (fun w hw=>hw.aX ad) ?_
 refine go ?_
 ((refine ah rfl rfl rfl rfl (sg bd A o eA) ad ?_ (fun _ _ w hp hw=>by obtain⟨rfl,rfl⟩:=hp;exact hw.aX ad)))
 rintro _ _⟨rfl,rfl⟩
 refine go ?_
 ((refine ae hE Tryz.func157 rfl _ rfl ⟨_,_,rfl,rfl,rfl⟩ ad))
theorem Hx(bs bd b2 b4 b5:Nat)(q:Int)(mb:Nat)(brk:Bool)(o n:ByteArray)(A:Ab)(cE:A.aH.length≤1000000000) :
  aD Tryz.prog 158 [ptr b2,ptr b4,ptr b5] (ag bs (cl (dK bd q mb brk) 108)::aC bd A::[ag b2 (cl [ptr bs] 30),ag b4 (cl [.string o] 9),ag b5 (cl [.string n] 9)])
   (fun r H=>∃(e:Nat) (B:Ab),r = .int .i64 (e:Int)∧H=ag bs (cl (dK bd q mb brk) 108)::aC bd B::[ag b2 (cl [ptr bs] 30),ag b4 (cl [.string o] 9),ag b5 (cl [.string n] 9)]∧q9 o n A e B):=by
 refine aD.enter Tryz.func158 ak rfl Tryz.ntmps158 zr zr ?_
 intro G F R hE
 refine go ?_
 refine aF (fun w=>Sat G w ([ag bs (cl (dK bd q mb brk) 108),ag b2 (cl [ptr bs] 30),ag b4 (cl [.string o] 9),ag b5 (cl [.string n] 9)])) (.st 0 (.st 1 (.st 2 (.st 3 (.st 4 (.st 5 (.act 6 (.st 7 .nil)))))))) rfl ak ak ak (fun w hw=>hw.aX ad) ?_
 refine go ?_
 refine eu (U:=ao) 3 zr zr zr zr zr zr ?_
 refine go ?_
 ((refine ah rfl rfl rfl rfl (za bd A o n cE) ad ?_ (fun _ _ w hp hw=>by obtain⟨rfl,rfl⟩:=hp;exact hw.aX ad)))
 rintro _ _⟨rfl,rfl⟩
 refine go ?_
 ((refine ae hE Tryz.func158 rfl _ rfl ⟨_,_,rfl,rfl,rfl⟩ ad))
theorem EU(bs bd b2 b7:Nat)(q:Int)(mb:Nat)(brk:Bool)(n:ByteArray)(A:Ab)(cE:A.aH.length≤1000000000) :
  aD Tryz.prog 78 [ptr b2,ptr b7] (ag bs (cl (dK bd q mb brk) 108)::aC bd A::[ag b2 (cl [ptr bs] 30),ag b7 (cl [.string n] 9)])
   (fun r H=>∃(e:Nat) (B:Ab),r = .int .i64 (e:Int)∧H=ag bs (cl (dK bd q mb brk) 108)::aC bd B::[ag b2 (cl [ptr bs] 30),ag b7 (cl [.string n] 9)]∧iN n A e B):=by
 refine aD.enter Tryz.func78 ak rfl Tryz.ntmps78 zr zr ?_
 intro G F R hE
 refine go ?_
 refine aF (fun w=>Sat G w ([ag bs (cl (dK bd q mb brk) 108),ag b2 (cl [ptr bs] 30),ag b7 (cl [.string n] 9)])) (.st 0 (.st 1 (.st 2 (.st 3 (.st 4 (.act 5 (.st 6 .nil))))))) rfl ak ak ak (fun w hw=>hw.aX ad) ?_
 refine go ?_
 ((refine ah rfl rfl rfl rfl (tJ bd A n cE) ad ?_ (fun _ _ w hp hw=>by obtain⟨f,hf,rfl,rfl⟩:=hp;exact hw.aX ad)))
 rintro _ _⟨f,hf,rfl,rfl⟩
 refine go ?_
 ((refine ae hE Tryz.func78 rfl _ rfl ⟨_,_,rfl,rfl,⟨f,hf,rfl⟩⟩ ad))
theorem Hd(bs bd b4 b5 nO b7:Nat)(q:Int)(mb:Nat)(brk:Bool)(x:Bl)(at_:Int)(X:HP)(bv:Value)(b:List UInt8)(hv:Vw X bv b.length (bV b))(A:Ab)(eA:A.writes.length≤1000000000)(jV:b.length≤1000000000)(MP:0≤at_∧at_≤9223372036854775807) :
  aD Tryz.prog 91 [ptr b4,ptr b5,ptr nO,ptr b7] (ag bs (cl (dK bd q mb brk) 108)::aC bd A::[ag b4 (cl [ptr bs] 30),ag b5 (cl (bn x) 38),ag nO (cl [.int .i64 at_] 3),ag b7 (cl [bv] 39),X])
   (fun r H=>∃(e:Nat) (B:Ab),r = .int .i64 (e:Int)∧H=ag bs (cl (dK bd q mb brk) 108)::aC bd B::[ag b4 (cl [ptr bs] 30),ag b5 (cl (bn x) 38),ag nO (cl [.int .i64 at_] 3),ag b7 (cl [bv] 39),X]∧lN (fS x) at_.toNat b A e B):=by
 obtain⟨a,c,rfl⟩:=hv.shape
 have hmw:fL (fS x) at_ b=fL (fS x) at_.toNat b:=by rw[Int.toNat_of_nonneg MP.1]
 have hw:=sf bd A (fS x) at_ X _ b hv eA jV ⟨ai,MP.2⟩
 rw[hmw]at hw
 refine aD.enter Tryz.func91 ak rfl Tryz.ntmps91 zr zr ?_
 intro G F R hE
 refine go ?_
 refine aF (fun w=>Sat G w ([ag bs (cl (dK bd q mb brk) 108),ag b4 (cl [ptr bs] 30),ag b5 (cl (bn x) 38),ag nO (cl [.int .i64 at_] 3),ag b7 (cl [.slice a b.length c] 39)])) (.st 0 (.st 1 (.st 2 (.st 3 (.st 4 (.st 5 (.st 7 (.st 8 (.act 6 (.act 9 (.st 10 .nil))))))))))) rfl ak ak ak (fun w hw=>hw.aX ad) ?_
 refine go ?_
 refine bW (U:=ao) 2 zr zr zr zr zr zr ?_
 refine go ?_
 refine eu (U:=ao) 3 zr zr zr zr zr zr ?_
 refine go ?_
 refine eu (U:=ao) 4 zr zr zr zr zr zr ?_
 refine go ?_
 ((refine ah rfl rfl rfl rfl (tu x) ad ?_ (fun _ _ w hp hw=>by obtain⟨rfl,rfl⟩:=hp;exact hw.aX ad)))
 rintro _ _⟨rfl,rfl⟩
 refine go ?_
 ((refine ah rfl rfl rfl rfl (hw) ad ?_ (fun _ _ w hp hw=>by obtain⟨rfl,rfl⟩:=hp;exact hw.aX ad)))
 rintro _ _⟨rfl,rfl⟩
 refine go ?_
 ((refine ae hE Tryz.func91 rfl _ rfl ⟨_,_,rfl,rfl,rfl⟩ ad))
theorem FN(bs bd:Nat)(q:Int)(mb:Nat)(brk:Bool)(Xs:List HP)(A:Ab):aD Tryz.prog 63 [ptr bd] [mj bs bd q mb brk (Sep Xs) A]
  (fun r H=>∃(e:Nat) (B:Ab),r = .int .i64 (e:Int)∧H=[mj bs bd q mb brk (Sep Xs) B]∧ew A e B) :=
 nw ((wu (ag bs (cl (dK bd q mb brk) 108)::Xs) (nB bd A)).conv (aq.perm (List.Perm.swap ..)) (by
  rintro v H⟨H1,⟨rfl,rfl⟩,rfl⟩
  exact⟨_,⟨_,_,rfl,rfl,rfl⟩,aq.perm (List.Perm.swap ..)⟩))
def bT(bs bd:Nat)(q:Int)(mb:Nat)(s:ek):List HP:=[ag bs (cl (dK bd q mb s.brk) 108),aL dV mb (cW s.aT),aC bd s.A]
def GQ(A:Ab)(i:Nat)(x:Ab):Prop:=x.aH.length≤A.aH.length+i∧x.writes.length≤A.writes.length+i
theorem GQ.zero(A:Ab):GQ A 0 A:=⟨Nat.le_refl _,Nat.le_refl _⟩
theorem GQ.next{A x y:Ab}{i:Nat}(h:GQ A i x)(g:iW x y):GQ A (i+1) y:=⟨by have:=h.1;have:=g.1;omega,by have:=h.2;have:=g.2;omega⟩
theorem lS{A B:Ab}{nm:ByteArray}{e:Nat}(h:kR nm A e B):iW A B:=by
 have:=jA A (isName nm) nm
 rw[← h]at this
 exact this
theorem qf{A B:Ab}{o n:ByteArray}{e:Nat}(h:q9 o n A e B):iW A B:=by
 have:=oF A ([o,n].all isName) o n
 rw[← h]at this
 exact this
theorem gT{A B:Ab}{e:Nat}(h:ew A e B):iW A B:=by
 have:=iR A
 rw[← h]at this
 exact this
theorem rP{A B:Ab}{nm:ByteArray}{at_:Nat}{b:List UInt8}{e:Nat}(h:lN nm at_ b A e B):iW A B:=by
 have:=jz A (fL nm at_ b) nm at_ b
 rw[← h]at this
 exact this
theorem qg{A B:Ab}{nm:ByteArray}{e:Nat}(h:iN nm A e B):iW A B:=by
 obtain⟨f,_,h⟩:=h
 have:=oH A (isName nm) nm f
 rw[← h]at this
 exact this
set_option maxRecDepth 20000 in
theorem Og(bs bd:Nat)(q:Int)(mb:Nat)(s:ek)(x:Bl)(cE:s.A.aH.length≤900000000)(eA:s.A.writes.length≤900000000):aD Tryz.prog 39 [ptr bs,dQ x] (bT bs bd q mb s)
  (fun r H=>∃(e:Nat) (t:ek),r = .int .i64 (e:Int)∧H=bT bs bd q mb t∧kh x s e t):=by
 obtain⟨A,aT,brk⟩:=s
 simp only at cE eA
 have vT:=rC bs bd q mb brk aT x
 unfold dQ at vT ⊢
 refine aD.enter Tryz.func39 ak rfl Tryz.ntmps39 zr zr ?_
 intro G F R hE
 refine aj (H':=ag bs (cl (dK bd q mb brk) 108)::aL dV mb (cW aT)::aC bd A::F) (aq.refl _) ?_
 refine aE rfl ?_
 refine bq zr zr bp ?_
 intro b2
 refine bq zr zr bp ?_
 intro b3
 refine go ?_
 refine aI (U:=ao) (l:=bn x) 0 zr zr zr zr zr zr ?_
 ((refine ah zr zr zr zr (vT) ad ?_ bE))
 rintro _ _⟨rfl,rfl⟩
 refine go ?_
 refine aw zr zr ?_ ?_
 ·intro ct
  have eP:ni brk aT x≠0:=by omega
  refine go ?_
  refine aj (H':=bT bs bd q mb ⟨A,aT,brk⟩++F) ad ?_
  ((refine ae hE Tryz.func39 rfl _ rfl ⟨ni brk aT x,⟨A,aT,brk⟩,rfl,rfl,by unfold kh;rw[if_pos (show jO ⟨A,aT,brk⟩ x≠0 from eP)];exact⟨rfl,rfl⟩⟩ ad))
 ·intro heq
  have nt:ni brk aT x=0:=by omega
  refine go ?_
  refine au (U:=ao) (cs:=[.func (.func 93) #[] #[ptr b2,ptr b3] ]) zr zr zr zr zr zr zr zr zr bp ?_
  intro row
  have tn:∀(i:Nat) (fv:Value) (sp:y9),[.func (.func 93) #[] #[ptr b2,ptr b3] ][i]?=some fv→[kR (fS x)][i]?=some sp→∃g fi cap,fv = .func (.func g) fi cap∧∀y,GQ A i y→aD Tryz.prog g (fi.toList++cap.toList) [mj bs bd q mb brk (Sep [ag b2 (cl [ptr bs] 30),ag b3 (cl (bn x) 38)]) y] (fun r H=>∃(e:Nat) (x':Ab),r = .int .i64 (e:Int)∧H=[mj bs bd q mb brk (Sep [ag b2 (cl [ptr bs] 30),ag b3 (cl (bn x) 38)]) x']∧sp y e x'∧(e=0→GQ A (i+1) x')):=by
   intro i fv sp hi hs
   match i,hi,hs with
   | 0,hi,hs =>
    cases hi;cases hs
    refine⟨_,_,_,rfl,fun y hy=>(nw (GV bs bd b2 b3 q mb brk x y (by have:=hy.2;omega))).post ?_⟩
    rintro r H⟨e,B,rfl,rfl,h1⟩
    exact⟨e,B,rfl,rfl,h1,fun _=>hy.next (lS h1)⟩
   | k+1,hi,hs=>simp at hi
  have Cg:=jW bs bd q mb brk (Sep [ag b2 (cl [ptr bs] 30),ag b3 (cl (bn x) 38)]) (ag row (cl [.func (.func 93) #[] #[ptr b2,ptr b3] ] 86)) (.slice (some ⟨row,0,none⟩) 1 1) [.func (.func 93) #[] #[ptr b2,ptr b3] ] (Vw.ag rfl) (by show 1≤_;omega) [kR (fS x)] rfl (GQ A) tn A (GQ.zero A)
  refine aG (H':=ag row (cl [.func (.func 93) #[] #[ptr b2,ptr b3] ] 86)::mj bs bd q mb brk (Sep [ag b2 (cl [ptr bs] 30),ag b3 (cl (bn x) 38)]) A::aL dV mb (cW aT)::F) (aq.trans (H2:=ag bs (cl (dK bd q mb brk) 108)::aC bd A::([ag b2 (cl [ptr bs] 30),ag b3 (cl (bn x) 38)]++(ag row (cl [.func (.func 93) #[] #[ptr b2,ptr b3] ] 86)::aL dV mb (cW aT)::F))) ad (aq.trans (sP bs bd q mb brk _ A _) ad)) ?_
  ((refine ah zr zr zr zr (Cg) ad ?_ bE))
  rintro _ _⟨e,B,rfl,rfl,eY,-⟩
  refine go ?_
  refine aj (H':=bT bs bd q mb ⟨B,aT,brk || decide (e≠0)⟩++F) (aq.trans (aq.pick [1] rfl) (aq.trans (m6 bs bd q mb (brk || decide (e≠0)) _ B _) ad)) ?_
  ((refine ae hE Tryz.func39 rfl _ rfl ⟨e,⟨B,aT,or brk (decide (e≠0))⟩,rfl,rfl,by unfold kh;rw[if_neg (show ¬jO ⟨A,aT,brk⟩ x≠0 from by show ¬ni brk aT x≠0;omega)];exact⟨B,eY,rfl⟩⟩ ad))
theorem CE(l:List (Dg × Bl))(d:Dg):pY (cW l) d=cW (gI l d):=by
 unfold pY cW gI
 rw[List.filter_map]
 rfl
set_option maxRecDepth 20000 in
theorem Dl(bs bd:Nat)(q:Int)(mb:Nat)(s:ek)(x:Bl)(cE:s.A.aH.length≤900000000)(eA:s.A.writes.length≤900000000):aD Tryz.prog 46 [ptr bs,dQ x] (bT bs bd q mb s)
  (fun r H=>∃(e:Nat) (t:ek),r = .int .i64 (e:Int)∧H=bT bs bd q mb t∧eL x s e t):=by
 obtain⟨A,aT,brk⟩:=s
 simp only at cE eA
 have vT:=rC bs bd q mb brk aT x
 unfold dQ at vT ⊢
 refine aD.enter Tryz.func46 ak rfl Tryz.ntmps46 zr zr ?_
 intro G F R hE
 refine aj (H':=ag bs (cl (dK bd q mb brk) 108)::aL dV mb (cW aT)::aC bd A::F) (aq.refl _) ?_
 refine aE rfl ?_
 refine bq zr zr bp ?_
 intro b2
 refine bq zr zr bp ?_
 intro b3
 refine go ?_
 refine aI (U:=ao) (l:=bn x) 0 zr zr zr zr zr zr ?_
 ((refine ah zr zr zr zr (vT) ad ?_ bE))
 rintro _ _⟨rfl,rfl⟩
 refine go ?_
 refine aw zr zr ?_ ?_
 ·intro ct
  have eP:ni brk aT x≠0:=by omega
  refine go ?_
  refine aj (H':=bT bs bd q mb ⟨A,aT,brk⟩++F) ad ?_
  ((refine ae hE Tryz.func46 rfl _ rfl ⟨ni brk aT x,⟨A,aT,brk⟩,rfl,rfl,by unfold eL;rw[if_pos (show jO ⟨A,aT,brk⟩ x≠0 from eP)];exact⟨rfl,rfl⟩⟩ ad))
 ·intro heq
  have nt:ni brk aT x=0:=by omega
  refine go ?_
  refine au (U:=ao) (cs:=[.func (.func 101) #[] #[ptr b2,ptr b3] ]) zr zr zr zr zr zr zr zr zr bp ?_
  intro row
  have tn:∀(i:Nat) (fv:Value) (sp:y9),[.func (.func 101) #[] #[ptr b2,ptr b3] ][i]?=some fv→[kT (fS x)][i]?=some sp→∃g fi cap,fv = .func (.func g) fi cap∧∀y,GQ A i y→aD Tryz.prog g (fi.toList++cap.toList) [mj bs bd q mb brk (Sep [ag b2 (cl [ptr bs] 30),ag b3 (cl (bn x) 38)]) y] (fun r H=>∃(e:Nat) (x':Ab),r = .int .i64 (e:Int)∧H=[mj bs bd q mb brk (Sep [ag b2 (cl [ptr bs] 30),ag b3 (cl (bn x) 38)]) x']∧sp y e x'∧(e=0→GQ A (i+1) x')):=by
   intro i fv sp hi hs
   match i,hi,hs with
   | 0,hi,hs =>
    cases hi;cases hs
    refine⟨_,_,_,rfl,fun y hy=>(nw (EZ bs bd b2 b3 q mb brk x y (by have:=hy.1;omega))).post ?_⟩
    rintro r H⟨e,B,rfl,rfl,h1⟩
    exact⟨e,B,rfl,rfl,h1,fun _=>hy.next (me h1)⟩
   | k+1,hi,hs=>simp at hi
  have Cg:=jW bs bd q mb brk (Sep [ag b2 (cl [ptr bs] 30),ag b3 (cl (bn x) 38)]) (ag row (cl [.func (.func 101) #[] #[ptr b2,ptr b3] ] 86)) (.slice (some ⟨row,0,none⟩) 1 1) [.func (.func 101) #[] #[ptr b2,ptr b3] ] (Vw.ag rfl) (by show 1≤_;omega) [kT (fS x)] rfl (GQ A) tn A (GQ.zero A)
  refine aG (H':=ag row (cl [.func (.func 101) #[] #[ptr b2,ptr b3] ] 86)::mj bs bd q mb brk (Sep [ag b2 (cl [ptr bs] 30),ag b3 (cl (bn x) 38)]) A::aL dV mb (cW aT)::F) (aq.trans (H2:=ag bs (cl (dK bd q mb brk) 108)::aC bd A::([ag b2 (cl [ptr bs] 30),ag b3 (cl (bn x) 38)]++(ag row (cl [.func (.func 101) #[] #[ptr b2,ptr b3] ] 86)::aL dV mb (cW aT)::F))) ad (aq.trans (sP bs bd q mb brk _ A _) ad)) ?_
  ((refine ah zr zr zr zr (Cg) ad ?_ bE))
  rintro _ _⟨e,B,rfl,rfl,eY,-⟩
  refine aG (aq.trans (aq.pick [1] rfl) (m6 bs bd q mb (brk || decide (e≠0)) _ B _)) ?_
  have Un:¬jO ⟨A,aT,brk⟩ x≠0:=by show ¬ni brk aT x≠0;omega
  refine go ?_
  refine aw zr zr ?_ ?_
  ·intro K5
   have he:e≠0:=by omega
   refine go ?_
   refine aj (H':=bT bs bd q mb ⟨B,aT,brk || decide (e≠0)⟩++F) ad ?_
   ((refine ae hE Tryz.func46 rfl _ rfl ⟨e,⟨B,aT,or brk (decide (e≠0))⟩,rfl,rfl,by unfold eL;rw[if_neg Un];exact⟨_,⟨B,eY,rfl⟩,by rw[if_pos he]⟩⟩ ad))
  ·intro Tj
   have he:e=0:=by omega
   subst he
   refine go ?_
   refine aF (fun w=>Sat G w ([ag b2 (cl [ptr bs] 30),ag bs (cl (dK bd q mb (or brk (decide (0≠0)))) 108),ag b3 (cl (bn x) 38)])) (.st 0 (.st 1 (.st 2 (.st 3 (.st 4 (.st 5 (.act 6 .nil))))))) rfl ak ak ak (fun w hw=>hw.aX ad) ?_
   refine go ?_
   refine bW (U:=ao) 2 zr zr zr zr zr zr ?_
   refine go ?_
   refine o6 (U:=ao) (es:=cW aT) (key:=x.d) 5 Nq (fun w hw=>by exact trivial) zr zr zr zr zr zr zr ?_
   rw[CE]
   refine go ?_
   refine aj (H':=bT bs bd q mb ⟨B,gI aT x.d,brk || decide (0≠0)⟩++F) ad ?_
   ((refine ae hE Tryz.func46 rfl _ rfl ⟨0,⟨B,gI aT x.d,or brk (decide (0≠0))⟩,rfl,rfl,by unfold eL;rw[if_neg Un];exact⟨_,⟨B,eY,rfl⟩,by rw[if_neg ai]⟩⟩ ad))
end Go.Proofs.YthjbidjmgbjkiaaGreatDoor
