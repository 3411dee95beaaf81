import Derived.Test.YtedjnjkijiddlaaGreatDoorQPO3
import Derived.Test.YtedjnjkijiddlaaGreatDoorQPO4
import Derived.Test.YtedjnjkijiddlaaGreatDoorQPO5
import Derived.Test.YtedjnjkijiddlaaGreatDoorQPO6
import Derived.Test.YtedjnjkijiddlaaGreatDoorQPO7
set_option linter.unusedSimpArgs false
set_option linter.unusedVariables false
set_option maxHeartbeats 1000000
namespace Go.SL
open Go
namespace Sha
theorem Bs(c:UInt8)(k:Nat)(hk:k≤24):(wB c <<< k).toNat=c.toNat*2 ^ k:=by
 have:=c.toNat_lt
 rw[BitVec.toNat_shiftLeft,rO,Nat.shiftLeft_eq]
 have h2:2 ^ k≤2 ^ 24:=Nat.pow_le_pow_right ah hk
 rw[Nat.mod_eq_of_lt]
 calc c.toNat*2 ^ k<2 ^ 8*2 ^ 24:=Nat.mul_lt_mul_of_lt_of_le ah h2 (Nat.pow_pos ah)
  _=2 ^ 32:=by decide
theorem Mg(a b c d:Nat)(ha:a<256)(hb:b<256)(hc:c<256)(hd:d<256):((a*2 ^ 24 ||| b*2 ^ 16) ||| c*2 ^ 8) ||| d=((a*256+b)*256+c)*256+d:=by
 have e1:a*2 ^ 24 ||| b*2 ^ 16=(a*256+b)*2 ^ 16:=by
  rw[Nat.or_comm,oC (k:=24) ah];omega
 have e2:(a*256+b)*2 ^ 16 ||| c*2 ^ 8=((a*256+b)*256+c)*2 ^ 8:=by
  rw[Nat.or_comm,oC (k:=16) ah];omega
 have e3:((a*256+b)*256+c)*2 ^ 8 ||| d=((a*256+b)*256+c)*256+d:=by
  rw[Nat.or_comm,oC (k:=8) ah];omega
 rw[e1,e2,e3]
theorem Mh(a b c d:UInt8):wB a*16777216#32+wB b*65536#32+wB c*256#32+wB d=(wB a <<< 24 ||| wB b <<< 16 ||| wB c <<< 8 ||| wB d:je):=by
 have ha:=a.toNat_lt;have hb:=b.toNat_lt;have hc:=c.toNat_lt;have hd:=d.toNat_lt
 apply BitVec.eq_of_toNat_eq
 rw[BitVec.toNat_or,BitVec.toNat_or,BitVec.toNat_or,Bs _ 24 ah,Bs _ 16 ah,Bs _ 8 ah,rO,Mg _ _ _ _ ha hb hc hd,
  BitVec.toNat_add,BitVec.toNat_add,BitVec.toNat_add,BitVec.toNat_mul,BitVec.toNat_mul,BitVec.toNat_mul,rO,rO,rO,rO,BitVec.toNat_ofNat,BitVec.toNat_ofNat,BitVec.toNat_ofNat]
 generalize a.toNat=p at *
 generalize b.toNat=q at *
 generalize c.toNat=r at *
 generalize d.toNat=u at *
 omega
end Sha
end Go.SL
namespace Go.Proofs.YtedjnjkijiddlaaGreatDoor
open Go Go.SL
attribute [local irreducible] J K aD Ends ag aB aM bN aZ aP aV bh bW
theorem fX(x:je)(n:Nat)(h1:1≤n)(h2:n≤31):aD Tryz.prog 144 [u32 x,.int .u64 (n:Int)] [] (fun r H=>r=u32 (Sha.ug x n)∧H=[]):=by
 unfold u32
 rw[← Sha.Qe x n h1 h2]
 refine aD.enter Tryz.func144 ak rfl Tryz.ntmps144 zr zr ?_
 intro G F R hE
 refine go ?_
 refine qo n zr zr zr zr ah ?_
 refine go ?_
 ((refine az 10 ((.int .u64 ((32-n:Nat):Int))) rfl ((congrArg (Value.int .u64) ah)) ?_))
 refine HK (32-n) zr zr zr zr ah ?_
 refine iS zr zr zr ?_
 refine go ?_
 ((refine ae hE Tryz.func144 rfl _ rfl ⟨rfl,rfl⟩ ad))
theorem P5(a b c:je):aD Tryz.prog 145 [u32 a,u32 b,u32 c] [] (fun r H=>r=u32 (Sha.Z' a b c)∧H=[]):=by
 unfold u32
 rw[← Sha.QB a b c]
 refine aD.enter Tryz.func145 ak rfl Tryz.ntmps145 zr zr ?_
 intro G F R hE
 refine go ?_
 (repeat(first|refine gO ?_|refine Cx zr zr zr ?_|refine Fb zr zr zr ?_))
 ((refine ae hE Tryz.func145 rfl _ rfl ⟨rfl,rfl⟩ ad))
set_option maxRecDepth 20000 in
theorem zN:aD Tryz.prog 143 [] [] (fun r H=>r = .agg (wV Sha.ks).toArray∧H=[]):=by
 refine aD.enter Tryz.func143 ak rfl Tryz.ntmps143 zr zr ?_
 intro G F R hE
 refine aE rfl ?_
 refine aw zr zr zr bz ?_
 intro b0
 (refine rG ?_)
 refine aE rfl ?_
 refine mo (U:=aN) (cs:=wV Sha.ks) zr zr zr zr zr zr ?_
 refine cD (U:=aN) (l':=wV Sha.ks) 0 gE zr zr zr zr (by decide) (fh _) zr zr zr ?_
 refine go ?_
 refine jq (U:=aN) 0 hE Tryz.func143 zr zr zr zr zr zr zr ⟨rfl,rfl⟩ ad
theorem C9(b:List UInt8)(t:Nat)(h:t<16):(Sha.ez b t).set t (Sha.word b t)=Sha.ez b (t+1):=by
 unfold Sha.ez
 rw[List.set_append_right _ _ (by rw[Sha.dF];exact Nat.le_refl _),Sha.dF,Nat.sub_self,show 64-t=(64-(t+1))+1 from by omega,List.replicate_succ,List.set_cons_zero]
 conv=>rhs;unfold Sha.sched
 rw[if_pos h]
 simp
attribute [local irreducible] Sha.chunks Sha.chunk Sha.rounds Sha.sched dM
set_option maxRecDepth 20000 in
theorem Jx(A:HP)(v:Value)(b:List UInt8)(hv:eJ A v b)(Et:64≤b.length) :
  aD Tryz.prog 142 [v] [A] (fun r H=>r = .agg (wV (Sha.sched b 64)).toArray∧H=[A]):=by
 obtain⟨a,c,rfl,hc⟩:=hv.2
 refine aD.enter Tryz.func142 ak rfl Tryz.ntmps142 zr zr ?_
 intro G F R hE
 refine aE rfl ?_
 refine aw zr zr zr bz ?_
 intro b2
 (refine rG ?_)
 (refine aE rfl ?_;refine rG ?_)
 refine aw zr zr zr bz ?_
 intro b3
 refine go ?_
 have hz:Sha.ez b 0=List.replicate 64 0:=by unfold Sha.ez;unfold Sha.sched;rfl
 refine bu (fun t:Nat=>t≤16) (fun t=>16-t)
  (fun t=>[(0,.slice a b.length c),(2,ptr b2),(3,ptr b3),(4,.int .i64 (t:Int))])
  (fun t=>ag b3 (cl (wV (Sha.ez b t)) 196)::ag b2 (cl (wV (List.replicate 64 0)) 196)::A::F) 0 (Nat.zero_le _) rfl cu (by rw[hz];exact ad) ?_
 rintro t ht ih
 have hlen:=Sha.rV b t ah
 refine go ?_
 refine au zr zr ?_ ?_
 ·intro cW
  have Ku:t<16:=by omega
  obtain⟨bb,oo,cc,gb⟩:=hv.1.some (by intro e;have:=congrArg List.length e;rw[bt,List.length_nil]at this;omega)
  simp only[Value.slice.injEq,true_and]at gb
  obtain⟨rfl,rfl⟩:=gb
  have hg:∀j,j<4→(bV b)[4*t+j]?=some (u8 (b.getD (4*t+j) 0)):=fun j hj=>oU (by rw[List.getD_eq_getElem?_getD,List.getElem?_eq_getElem ah];rfl)
  have gY:=C9 b t Ku
  have hw:wB (b.getD (4*t+0) 0)*16777216#32+wB (b.getD (4*t+1) 0)*65536#32+wB (b.getD (4*t+2) 0)*256#32+wB (b.getD (4*t+3) 0)=Sha.word b t:=Sha.Mh _ _ _ _
  have g0:=hg 0 ah
  have g1:=hg 1 ah
  have g2:=hg 2 ah
  have g3:=hg 3 ah
  generalize b.getD (4*t+0) 0=x0 at hw g0
  generalize b.getD (4*t+1) 0=x1 at hw g1
  generalize b.getD (4*t+2) 0=x2 at hw g2
  generalize b.getD (4*t+3) 0=x3 at hw g3
  refine go ?_
  refine aF (fun w=>Sat G w ([A])) (.st 0 (.st 1 (.st 2 (.st 3 (.st 4 (.st 5 (.st 6 (.st 7 (.st 8 (.st 9 (.st 10 (.st 11 (.st 12 (.st 13 (.st 14 (.st 15 (.st 16 (.st 17 (.st 18 (.st 19 (.st 20 (.st 21 (.st 22 (.st 23 (.st 24 (.st 25 (.st 26 (.st 27 (.st 28 (.st 29 (.st 30 (.st 31 (.st 32 (.st 33 (.st 34 (.act 35 .nil)))))))))))))))))))))))))))))))))))) rfl ak ak ak ei ?_
  refine go ?_
  (refine go ?_;refine gT zr zr zr (by simp only[gg];omega) ?_;refine go ?_;refine bK (4*t+0) zr zr zr zr zr zr zr ah ah ?_;refine aK ?_;refine cJ 0 (4*t+0) zr zr zr hv.1 rfl g0 zr zr ?_;refine eG ?_;refine qn (U:=aN) zr zr zr zr zr zr ?_)
  refine HM (q:=16777216#32) zr zr zr ?_
  (refine go ?_;refine gT zr zr zr (by simp only[gg];omega) ?_;refine go ?_;refine bK (4*t+1) zr zr zr zr zr zr zr ah ah ?_;refine aK ?_;refine cJ 0 (4*t+1) zr zr zr hv.1 rfl g1 zr zr ?_;refine eG ?_;refine qn (U:=aN) zr zr zr zr zr zr ?_)
  refine HM (q:=65536#32) zr zr zr ?_
  refine jU zr zr zr ?_
  (refine go ?_;refine gT zr zr zr (by simp only[gg];omega) ?_;refine go ?_;refine bK (4*t+2) zr zr zr zr zr zr zr ah ah ?_;refine aK ?_;refine cJ 0 (4*t+2) zr zr zr hv.1 rfl g2 zr zr ?_;refine eG ?_;refine qn (U:=aN) zr zr zr zr zr zr ?_)
  refine HM (q:=256#32) zr zr zr ?_
  refine jU zr zr zr ?_
  (refine go ?_;refine gT zr zr zr (by simp only[gg];omega) ?_;refine go ?_;refine bK (4*t+3) zr zr zr zr zr zr zr ah ah ?_;refine aK ?_;refine cJ 0 (4*t+3) zr zr zr hv.1 rfl g3 zr zr ?_;refine eG ?_;refine qn (U:=aN) zr zr zr zr zr zr ?_)
  refine jU zr zr zr ?_
  rw[hw]
  refine ed (U:=aN) t zr zr zr zr zr zr zr zr ah ?_
  refine aT ?_
  refine gH (U:=aN) 0 gE zr zr zr zr zr zr zr (by rw[kW,hlen];omega) rfl ?_
  rw[show 0+t=t from Nat.zero_add _]
  refine go ?_
  have D4:=(wP (Sha.ez b t) t _).trans (congrArg wV gY)
  refine aj (H':=ag b3 (cl (wV (Sha.ez b (t+1))) 196)::ag b2 (cl (wV (List.replicate 64 0)) 196)::A::F) (by rw[← D4];exact ao.refl _) ?_
  refine aL ih (t+1) rfl ah ah cu ad
 intro fq
 have acf:t=16:=by omega
 subst acf
 clear ih
 refine go ?_
 refine bu (fun t:Nat=>16≤t∧t≤64) (fun t=>64-t)
  (fun t=>[(2,ptr b2),(3,ptr b3),(5,.int .i64 (t:Int))])
  (fun t=>ag b3 (cl (wV (Sha.ez b t)) 196)::ag b2 (cl (wV (List.replicate 64 0)) 196)::A::F) 16 ⟨ah,ah⟩ rfl cu ad ?_
 rintro t⟨Ku,Ya⟩ ih
 have hlen:=Sha.rV b t Ya
 refine go ?_
 refine au zr zr ?_ ?_
 ·intro cW
  have ht:t<64:=by omega
  have g2:=Sha.il b t (t-2) ah
  have g7:=Sha.il b t (t-7) ah
  have g15:=Sha.il b t (t-15) ah
  have g16:=Sha.il b t (t-16) ah
  have k9:=Sha.vf b t Ku ht
  generalize (Sha.sched b t).getD (t-2) 0=y2 at g2 k9
  generalize (Sha.sched b t).getD (t-7) 0=y7 at g7 k9
  generalize (Sha.sched b t).getD (t-15) 0=y15 at g15 k9
  generalize (Sha.sched b t).getD (t-16) 0=y16 at g16 k9
  have aa2:y16+y7+(Sha.ug y15 7 ^^^ Sha.ug y15 18 ^^^ y15 >>> 3)+(Sha.ug y2 17 ^^^ Sha.ug y2 19 ^^^ y2 >>> 10)=y16+y7+Sha.s1 y2+Sha.s0 y15:=by
   show y16+y7+Sha.s0 y15+Sha.s1 y2=_
   rw[BitVec.add_assoc,BitVec.add_comm (Sha.s0 y15),← BitVec.add_assoc]
  refine go ?_
  refine ed (U:=aN) (t-15) zr zr zr zr zr zr zr ah ah ?_
  refine aK ?_
  refine mj (U:=aN) 0 (t-15) zr zr zr (Nat.zero_add _) (ie g15) zr zr ?_
  refine go ?_
  refine ed (U:=aN) (t-2) zr zr zr zr zr zr zr ah ah ?_
  refine aK ?_
  refine mj (U:=aN) 0 (t-2) zr zr zr (Nat.zero_add _) (ie g2) zr zr ?_
  refine go ?_
  refine aF (fun w=>Sat G w ([ag b3 (cl (wV (Sha.ez b t)) 196)])) (.st 0 (.st 1 (.st 2 (.st 3 (.st 4 (.st 5 (.st 6 (.st 7 (.st 8 (.st 9 (.st 10 (.st 12 (.st 15 (.st 16 (.st 19 (.st 21 (.st 24 (.st 25 (.act 11 (.act 13 (.st 14 (.st 17 (.st 18 (.act 20 (.act 22 (.st 23 (.st 26 (.st 27 (.st 28 (.act 29 .nil)))))))))))))))))))))))))))))) rfl ak ak ak ei ?_
  refine go ?_
  refine ed (U:=aN) (t-16) zr zr zr zr zr zr zr ah ah ?_
  refine aK ?_
  refine eF (U:=aN) 0 (t-16) zr zr zr (Nat.zero_add _) (ie g16) zr zr ?_
  refine go ?_
  refine ed (U:=aN) (t-7) zr zr zr zr zr zr zr ah ah ?_
  refine aK ?_
  refine eF (U:=aN) 0 (t-7) zr zr zr (Nat.zero_add _) (ie g7) zr zr ?_
  refine jU zr zr zr ?_
  refine go ?_
  refine qo 3 zr zr zr zr ah ?_
  refine go ?_
  refine qo 10 zr zr zr zr ah ?_
  ((refine ai rfl rfl rfl rfl ((fX y15 7 ah ah)) ad ?_ jg))
  rintro _ _⟨rfl,rfl⟩
  ((refine ai rfl rfl rfl rfl ((fX y15 18 ah ah)) ad ?_ jg))
  rintro _ _⟨rfl,rfl⟩
  refine iS zr zr zr ?_
  refine iS zr zr zr ?_
  refine jU zr zr zr ?_
  ((refine ai rfl rfl rfl rfl ((fX y2 17 ah ah)) ad ?_ jg))
  rintro _ _⟨rfl,rfl⟩
  ((refine ai rfl rfl rfl rfl ((fX y2 19 ah ah)) ad ?_ jg))
  rintro _ _⟨rfl,rfl⟩
  refine iS zr zr zr ?_
  refine iS zr zr zr ?_
  refine jU zr zr zr ?_
  rw[aa2]
  refine ed (U:=aN) t zr zr zr zr zr zr zr zr ah ?_
  refine aT ?_
  refine gH (U:=aN) 0 gE zr zr zr zr zr zr zr (by rw[kW,hlen];omega) rfl ?_
  rw[show 0+t=t from Nat.zero_add _]
  refine go ?_
  have D4:=(wP (Sha.ez b t) t _).trans (congrArg wV k9)
  refine aj (H':=ag b3 (cl (wV (Sha.ez b (t+1))) 196)::ag b2 (cl (wV (List.replicate 64 0)) 196)::A::F) (by rw[← D4];exact ao.refl _) ?_
  refine aL ih (t+1) rfl ⟨ah,ah⟩ ah cu ad
 intro fq
 have GR:t=64:=by omega
 subst GR
 rw[Sha.xy]
 have Er:(wV (Sha.sched b 64)).length=64:=by rw[kW,Sha.dF]
 have gu:ix (wV (Sha.sched b 64))=true:=fh _
 generalize wV (Sha.sched b 64)=W at Er gu hE ⊢
 refine go ?_
 refine aH (U:=aN) 0 zr zr zr zr zr Er ?_
 refine cD (U:=aN) 1 gE rfl rfl rfl Er (by intro e;rw[e]at Er;cases Er) gu rfl (by rw[Er];simp[kW]) rfl ?_
 refine go ?_
 refine jq (U:=aN) 1 hE Tryz.func142 zr zr zr zr zr Er rfl ⟨rfl,rfl⟩ ad
end Go.Proofs.YtedjnjkijiddlaaGreatDoor
namespace Go.SL
open Go
namespace Sha
def j7(n o:List je)(i:Nat):List je:=(List.zipWith (· + ·) n o).take i++n.drop i
theorem Ln{n o:List je}{k i:Nat}(hn:n.length=k)(ho:o.length=k)(hi:i≤k):(j7 n o i).length=k:=by
 unfold j7;rw[List.length_append,List.length_take,List.length_zipWith,List.length_drop];omega
theorem Lo{n o:List je}{k i:Nat}(hn:n.length=k)(ho:o.length=k)(hi:i<k):(j7 n o i)[i]?=some (n.getD i 0):=by
 unfold j7
 have h1:((List.zipWith (· + ·) n o).take i).length=i:=by rw[List.length_take,List.length_zipWith];omega
 rw[List.getElem?_append_right ah,h1,Nat.sub_self,List.getElem?_drop,Nat.add_zero,List.getD_eq_getElem?_getD,List.getElem?_eq_getElem ah];rfl
theorem Lm{n o:List je}{k i:Nat}(hn:n.length=k)(ho:o.length=k)(hi:i<k):(j7 n o i).set i (n.getD i 0+o.getD i 0)=j7 n o (i+1):=by
 unfold j7
 have h1:((List.zipWith (· + ·) n o).take i).length=i:=by rw[List.length_take,List.length_zipWith];omega
 rw[List.set_append_right _ _ ah,h1,Nat.sub_self,List.take_add_one]
 have h2:n.drop i=n[i]::n.drop (i+1):=List.drop_eq_getElem_cons ah
 have h3:(List.zipWith (· + ·) n o)[i]?=some (n.getD i 0+o.getD i 0):=by
  rw[List.getElem?_zipWith,List.getD_eq_getElem?_getD,List.getD_eq_getElem?_getD,List.getElem?_eq_getElem (show i<n.length by omega),List.getElem?_eq_getElem (show i<o.length by omega)];rfl
 rw[h2,List.set_cons_zero,h3];simp
theorem Lq(s t:St):j7 t.l s.l 8=(plus s t).l:=by
 unfold j7
 simp only[St.l,plus,List.zipWith_cons_cons,List.zipWith_nil_left,List.take_succ_cons,List.take_zero,List.drop_succ_cons,List.drop_zero,List.append_nil,BitVec.add_comm]
end Sha
end Go.SL
namespace Go.Proofs.YtedjnjkijiddlaaGreatDoor
open Go Go.SL
attribute [local irreducible] J K aD Ends ag aB aM bN aZ aP aV bh bW Sha.chunks Sha.chunk Sha.rounds Sha.sched dM Sha.j7
set_option maxRecDepth 20000 in
theorem Lc(A:HP)(v:Value)(b:List UInt8)(hv:eJ A v b)(Et:64≤b.length)(s:Sha.St) :
  aD Tryz.prog 80 [PB s,v] [A] (fun r H=>r=PB (Sha.chunk s b)∧H=[A]):=by
 have hwd:=Jx A v b hv Et
 obtain⟨a,c,rfl,hc⟩:=hv.2
 have eH:(Sha.sched b 64).length=64:=Sha.dF b 64
 have Ek:Sha.chunk s b=Sha.plus s (Sha.rounds s (Sha.sched b 64) 64):=by unfold Sha.chunk;rfl
 rw[Ek]
 generalize Sha.sched b 64=W at hwd eH ⊢
 have KE:∀s:Sha.St,(wV s.l).length=8:=fun s=>rfl
 have aaG:∀s:Sha.St,s.l.length=8:=fun s=>rfl
 have hWV:(wV W).length=64:=by rw[kW];exact eH
 have QV:∀s:Sha.St,wV s.l≠[]:=fun s e=>by have:=congrArg List.length e;rw[KE]at this;cases this
 unfold PB
 refine aD.enter Tryz.func80 ak rfl Tryz.ntmps80 zr zr ?_
 intro G F R hE
 refine aE rfl ?_
 refine bC zr zr bz ?_
 intro b2
 refine aw zr zr zr bz ?_
 intro b4
 refine go ?_
 ((refine ai zr zr zr zr (hwd) ad ?_ bG))
 rintro _ _⟨rfl,rfl⟩
 refine aw zr zr zr bz ?_
 intro b5
 refine aT ?_
 refine cD (U:=aN) (l':=wV W) 0 gE rfl rfl rfl hWV (by intro e;rw[e]at hWV;cases hWV) (fh _) rfl (by rw[hWV];rfl) rfl ?_
 refine go ?_
 ((refine ai zr zr zr zr (zN) ad ?_ bG))
 rintro _ _⟨rfl,rfl⟩
 refine aw zr zr zr bz ?_
 intro b6
 refine aT ?_
 refine cD (U:=aN) (l':=wV Sha.ks) 0 gE zr zr zr zr (by decide) (fh _) zr zr zr ?_
 refine go ?_
 refine aG (H':=ag b2 (cl (wV s.l) 140)::ag b6 (cl (wV Sha.ks) 196)::ag b5 (cl (wV W) 196)::ag b4 (cl (wV (List.replicate 8 0)) 140)::A::F) ad ?_
 refine aH (U:=aN) (l:=wV s.l) 0 zr zr zr zr zr zr ?_
 refine aw zr zr zr bz ?_
 intro b7
 refine aT ?_
 refine cD (U:=aN) (l':=wV s.l) 0 gE zr zr zr zr (QV s) (fh _) zr zr zr ?_
 refine go ?_
 refine bu (fun t:Nat=>t≤64) (fun t=>64-t)
  (fun t=>[(2,ptr b2),(4,ptr b4),(5,ptr b5),(6,ptr b6),(7,ptr b7),(8,.int .i64 (t:Int))])
  (fun t=>ag b7 (cl (wV (Sha.rounds s W t).l) 140)::ag b2 (cl (wV s.l) 140)::ag b6 (cl (wV Sha.ks) 196)::ag b5 (cl (wV W) 196)::ag b4 (cl (wV (List.replicate 8 0)) 140)::A::F) 0 (Nat.zero_le _) rfl cu (by unfold Sha.rounds;exact ad) ?_
 rintro t ht ih
 refine go ?_
 refine au zr zr ?_ ?_
 ·intro cW
  have Ku:t<64:=by omega
  have hr:Sha.rounds s W (t+1)=Sha.round (Sha.rounds s W t) (Sha.ks.getD t 0) (W.getD t 0):=by conv=>lhs;unfold Sha.rounds
  generalize Sha.rounds s W t=T at hr ⊢
  obtain⟨ta,tb,tc,td,te,tf,tg,th⟩:=T
  have QJ:(wV W)[t]?=some (u32 (W.getD t 0)):=ie (by rw[List.getD_eq_getElem?_getD,List.getElem?_eq_getElem ah];rfl)
  have hkg:=ie (NA Ku)
  generalize Sha.ks.getD t 0=kt at hr hkg
  generalize W.getD t 0=wt at hr QJ
  rw[show wV (Sha.St.l ⟨ta,tb,tc,td,te,tf,tg,th⟩)=[u32 ta,u32 tb,u32 tc,u32 td,u32 te,u32 tf,u32 tg,u32 th]from rfl]
  have Wy:wV (Sha.rounds s W (t+1)).l=[u32 (th+(Sha.ug te 6 ^^^ Sha.ug te 11 ^^^ Sha.ug te 25)+(te &&& tf ||| ~~~te &&& tg)+kt+wt+((Sha.ug ta 2 ^^^ Sha.ug ta 13 ^^^ Sha.ug ta 22)+Sha.Z' ta tb tc)),u32 ta,u32 tb,u32 tc,u32 (td+(th+(Sha.ug te 6 ^^^ Sha.ug te 11 ^^^ Sha.ug te 25)+(te &&& tf ||| ~~~te &&& tg)+kt+wt)),u32 te,u32 tf,u32 tg]:=by
   rw[hr,Sha.XG];rfl
  clear hr
  refine go ?_
  (repeat(first|refine gO ?_|refine iM zr zr zr zr zr zr ah ah ?_))
  refine aF (fun w=>Sat G w ([ag b7 (cl [u32 ta,u32 tb,u32 tc,u32 td,u32 te,u32 tf,u32 tg,u32 th] 140),ag b6 (cl (wV Sha.ks) 196),ag b5 (cl (wV W) 196)])) (.st 0 (.st 1 (.st 2 (.st 4 (.st 7 (.st 11 (.st 12 (.st 13 (.st 14 (.st 15 (.st 16 (.st 17 (.st 18 (.st 19 (.st 20 (.st 22 (.st 23 (.st 24 (.st 26 (.st 27 (.st 28 (.act 3 (.act 5 (.st 6 (.act 8 (.st 9 (.st 10 (.st 21 (.st 25 (.st 29 (.st 30 .nil))))))))))))))))))))))))))))))) rfl ak ak ak ei ?_
  refine go ?_
  (repeat(first|refine gO ?_|refine ed (U:=aN) t zr zr zr zr zr zr zr zr Ku ?_|refine iM zr zr zr zr zr zr ah ah ?_|refine Cx zr zr zr ?_|refine XZ zr zr ?_|refine Fb zr zr zr ?_|(refine aK ?_;first|refine eF (U:=aN) 1 t zr zr zr (Nat.zero_add _) hkg zr zr ?_|refine eF (U:=aN) 2 t zr zr zr (Nat.zero_add _) QJ zr zr ?_)))
  ((refine ai rfl rfl rfl rfl ((fX te 6 ah ah)) ad ?_ jg))
  rintro _ _⟨rfl,rfl⟩
  ((refine ai rfl rfl rfl rfl ((fX te 11 ah ah)) ad ?_ jg))
  rintro _ _⟨rfl,rfl⟩
  refine iS zr zr zr ?_
  ((refine ai rfl rfl rfl rfl ((fX te 25 ah ah)) ad ?_ jg))
  rintro _ _⟨rfl,rfl⟩
  (repeat(first|refine gO ?_|refine iS zr zr zr ?_|refine jU zr zr zr ?_))
  refine aF (fun w=>Sat G w ([ag b7 (cl [u32 ta,u32 tb,u32 tc,u32 td,u32 te,u32 tf,u32 tg,u32 th] 140)])) (.st 0 (.st 2 (.st 5 (.st 8 (.st 9 (.st 10 (.st 11 (.st 12 (.act 1 (.act 3 (.st 4 (.act 6 (.st 7 (.act 13 (.st 14 (.st 15 .nil)))))))))))))))) rfl ak ak ak ei ?_
  refine go ?_
  (repeat(first|refine gO ?_|refine iM zr zr zr zr zr zr ah ah ?_))
  ((refine ai rfl rfl rfl rfl ((fX ta 2 ah ah)) ad ?_ jg))
  rintro _ _⟨rfl,rfl⟩
  ((refine ai rfl rfl rfl rfl ((fX ta 13 ah ah)) ad ?_ jg))
  rintro _ _⟨rfl,rfl⟩
  refine iS zr zr zr ?_
  ((refine ai rfl rfl rfl rfl ((fX ta 22 ah ah)) ad ?_ jg))
  rintro _ _⟨rfl,rfl⟩
  refine iS zr zr zr ?_
  ((refine ai rfl rfl rfl rfl ((P5 ta tb tc)) ad ?_ jg))
  rintro _ _⟨rfl,rfl⟩
  refine jU zr zr zr ?_
  (repeat(first|refine gO ?_|refine iM zr zr zr zr zr zr ah ah ?_|refine jU zr zr zr ?_))
  refine mo (U:=aN) (cs:=wV (Sha.rounds s W (t+1)).l) zr zr zr zr zr (by rw[Wy];rfl) ?_
  refine aT ?_
  refine cD (U:=aN) (l':=wV (Sha.rounds s W (t+1)).l) 0 gE zr zr zr zr (QV _) (fh _) zr zr zr ?_
  refine go ?_
  refine aL ih (t+1) rfl ah ah cu ad
 intro fq
 have GR:t=64:=by omega
 subst GR
 clear ih
 rw[← Sha.Lq]at hE
 generalize Sha.rounds s W 64=T at hE ⊢
 refine go ?_
 have hT8:=aaG T
 have hs8:=aaG s
 refine bu (fun i:Nat=>i≤8) (fun i=>8-i)
  (fun i=>[(2,ptr b2),(4,ptr b4),(7,ptr b7),(13,.int .i64 (i:Int))])
  (fun i=>ag b7 (cl (wV (Sha.j7 T.l s.l i)) 140)::ag b2 (cl (wV s.l) 140)::ag b4 (cl (wV (List.replicate 8 0)) 140)::A::F) 0 (Nat.zero_le _) rfl cu (by unfold Sha.j7;exact ad) ?_
 rintro i hi ih
 have Ov:=Sha.Ln hT8 hs8 hi
 refine go ?_
 refine au zr zr ?_ ?_
 ·intro cW
  have FI:i<8:=by omega
  have zL:=Sha.Lo hT8 hs8 FI
  have Ee:s.l[i]?=some (s.l.getD i 0):=by rw[List.getD_eq_getElem?_getD,List.getElem?_eq_getElem ah];rfl
  have gY:=Sha.Lm hT8 hs8 FI
  generalize T.l.getD i 0=x at zL gY
  generalize s.l.getD i 0=y at Ee gY
  refine go ?_
  refine aF (fun w=>Sat G w ([ag b7 (cl (wV (Sha.j7 T.l s.l i)) 140),ag b2 (cl (wV s.l) 140)])) (.st 0 (.st 1 (.st 2 (.st 3 (.st 4 (.st 5 (.st 6 (.st 7 (.st 8 (.act 9 .nil)))))))))) rfl ak ak ak ei ?_
  refine go ?_
  (repeat(first|refine gO ?_|refine ed (U:=aN) i zr zr zr zr zr zr zr zr FI ?_|(refine aK ?_;first|refine eF (U:=aN) 0 i zr zr zr (Nat.zero_add _) (ie zL) zr zr ?_|refine eF (U:=aN) 1 i zr zr zr (Nat.zero_add _) (ie Ee) zr zr ?_)|refine jU zr zr zr ?_))
  refine aT ?_
  refine gH (U:=aN) 0 gE zr zr zr zr zr zr zr (by rw[kW,Ov];omega) rfl ?_
  rw[show 0+i=i from Nat.zero_add _]
  refine go ?_
  have D4:=(wP (Sha.j7 T.l s.l i) i _).trans (congrArg wV gY)
  refine aj (H':=ag b7 (cl (wV (Sha.j7 T.l s.l (i+1))) 140)::ag b2 (cl (wV s.l) 140)::ag b4 (cl (wV (List.replicate 8 0)) 140)::A::F) (by rw[← D4];exact ao.refl _) ?_
  refine aL ih (i+1) rfl ah ah cu ad
 intro fq
 have FI:i=8:=by omega
 subst FI
 clear ih
 have gu:=fh (Sha.j7 T.l s.l 8)
 have Xn:(wV (Sha.j7 T.l s.l 8)).length=8:=by rw[kW];exact Ov
 generalize wV (Sha.j7 T.l s.l 8)=X at gu Xn hE ⊢
 refine go ?_
 refine aH (U:=aN) 0 zr zr zr zr zr Xn ?_
 refine cD (U:=aN) 2 gE rfl rfl rfl Xn (by intro e;rw[e]at Xn;cases Xn) gu rfl (by rw[Xn];rfl) rfl ?_
 refine go ?_
 refine jq (U:=aN) 2 hE Tryz.func80 zr zr zr zr zr Xn rfl ⟨rfl,rfl⟩ ad
end Go.Proofs.YtedjnjkijiddlaaGreatDoor
namespace Go.Proofs.YtedjnjkijiddlaaGreatDoor
open Go Go.SL
attribute [local irreducible] J K aD Ends ag aB aM bN aZ aP aV bh bW Sha.chunks Sha.chunk Sha.rounds Sha.sched dM
set_option maxRecDepth 20000 in
theorem Ji(A:HP)(v:Value)(b:List UInt8)(hv:eJ A v b)(hl:b.length≤1000000000) :
  aD Tryz.prog 30 [v] [A] (fun r H=>r=dV (dM b)∧H=[A]):=by
 obtain⟨a,c,rfl,hc⟩:=hv.2
 refine aD.enter Tryz.func30 ak rfl Tryz.ntmps30 zr zr ?_
 intro G F R hE
 refine aE rfl ?_
 refine aw zr zr zr bz ?_
 intro b2
 (refine rG ?_)
 (refine aE rfl ?_;refine rG ?_)
 refine al (cs:=[]) zr zr zr zr zr zr zr zr zr bz ?_
 intro b0
 refine go ?_
 (refine aG (eL 5 1 b0 0 0 [] [] _ rfl (Nat.le_refl _) (by simp)) ?_;refine aO (mm:=(b).length) (news:=bV (b)) 0 2 zr zr zr zr zr zr zr zr zr zr zr zr (hv.1) (by show _=_*1;rw[bt];omega) (cR _) ah (by show(_+_)*1≤_;omega) (fun _=>rfl) bz ?_;intro vA;rw[Nat.zero_add,List.nil_append];((refine aJ 0 rfl ?_));rintro aA cA rfl)
 refine go ?_
 (refine al (cs:=bV [(128:UInt8)]) zr zr zr zr zr zr zr zr zr bz ?_;intro bA;refine aO (mm:=1) (news:=bV [(128:UInt8)]) 1 0 zr zr zr zr zr zr zr zr zr zr zr zr (Vw.ag rfl) rfl (cR _) ah (by show(_+_)*1≤_;omega) (fun _=>rfl) bz ?_;intro vA;rw[show bV (b)++bV [(128:UInt8)]=bV ((b)++[(128:UInt8)])from by simp[bV],show(b).length+1=((b)++[(128:UInt8)]).length from(@List.length_append _ (b) [(128:UInt8)]).symm];((refine aJ 1 rfl ?_));rintro aA cA rfl)
 refine go ?_
 obtain⟨z,hz⟩:∃z,z=(119-b.length%64)%64:=⟨_,rfl⟩
 have RV:(b.length+1+z)%64=56:=by omega
 have RU:z<64:=by omega
 have rf:∀j:Nat,(b++128::List.replicate j (0:UInt8)).length=b.length+1+j:=fun j=>by simp;omega
 refine bu (fun y:Nat × Option Addr × Nat=>y.1≤z) (fun y=>z-y.1)
  (fun y=>[(0,.slice a b.length c),(2,ptr b2),(3,.slice y.2.1 (b++128::List.replicate y.1 (0:UInt8)).length y.2.2)])
  (fun y=>aB 5 1 (.slice y.2.1 (b++128::List.replicate y.1 (0:UInt8)).length y.2.2) (b++128::List.replicate y.1 (0:UInt8)).length (bV (b++128::List.replicate y.1 (0:UInt8)))::A::ag b2 (cl (dC Dg.zero) 35)::F) (0,aA,cA) (Nat.zero_le _) rfl cu ad ?_
 rintro⟨j,a2,c2⟩ hj ih
 simp only at hj
 have vT:=rf j
 dsimp only
 refine go ?_
 refine o8 zr zr zr ah ah ?_
 refine go ?_
 refine au zr zr ?_ ?_
 ·intro bT
  have hjz:j<z:=by
   rcases Nat.lt_or_ge j z with h|h
   ·exact h
   ·exfalso
    apply bT
    rw[vT]
    have:j=z:=by omega
    subst this
    omega
  refine go ?_
  (refine al (cs:=bV [(0:UInt8)]) zr zr zr zr zr zr zr zr zr bz ?_;intro bA;refine aO (mm:=1) (news:=bV [(0:UInt8)]) 1 0 zr zr zr zr zr zr zr zr zr zr zr zr (Vw.ag rfl) rfl (cR _) (by(rw[vT];omega)) (by show(_+_)*1≤_;(rw[vT];omega)) (fun _=>rfl) bz ?_;intro vA;rw[show bV ((b++128::List.replicate j (0:UInt8)))++bV [(0:UInt8)]=bV (((b++128::List.replicate j (0:UInt8)))++[(0:UInt8)])from by simp[bV],show((b++128::List.replicate j (0:UInt8))).length+1=(((b++128::List.replicate j (0:UInt8)))++[(0:UInt8)]).length from(@List.length_append _ ((b++128::List.replicate j (0:UInt8))) [(0:UInt8)]).symm];((refine aJ 1 rfl ?_));rintro aA cA rfl)
  rw[show b++128::List.replicate j (0:UInt8)++[0]=b++128::List.replicate (j+1) (0:UInt8)from by rw[List.replicate_succ'];simp]
  refine go ?_
  refine aL ih (j+1,aA,cA) rfl (by simp only;omega) (by simp only;omega) cu ad
 intro heq
 have hjz:j=z:=by
  have ac0:((b.length+1+j:Nat):Int)%64=56:=by rw[← vT];exact Decidable.not_not.1 heq
  omega
 subst hjz
 clear ih
 obtain⟨T0,Ow⟩:∃T0,T0=b++128::List.replicate j (0:UInt8):=⟨_,rfl⟩
 rw[← Ow]at vT ⊢
 have KF:∀i:Nat,i≤8→(T0++(Sha.oT (8*b.length)).take i).length=T0.length+i:=fun i hi=>by
  rw[List.length_append,List.length_take];simp only[Sha.oT,List.length_map,List.length_range];omega
 refine go ?_
 refine gT zr zr zr (by simp only[gg];omega) ?_
 ((refine az 24 ((.int .u64 ((8*b.length:Nat):Int))) rfl ((congrArg (Value.int .u64) ah)) ?_))
 refine go ?_
 refine bu (fun y:Nat × Option Addr × Nat=>y.1≤8) (fun y=>8-y.1)
  (fun y=>[(2,ptr b2),(3,.slice y.2.1 (T0++(Sha.oT (8*b.length)).take y.1).length y.2.2),(4,.int .u64 ((8*b.length:Nat):Int)),(5,.int .i64 (y.1:Int))])
  (fun y=>aB 5 1 (.slice y.2.1 (T0++(Sha.oT (8*b.length)).take y.1).length y.2.2) (T0++(Sha.oT (8*b.length)).take y.1).length (bV (T0++(Sha.oT (8*b.length)).take y.1))::A::ag b2 (cl (dC Dg.zero) 35)::F) (0,a2,c2) (Nat.zero_le _) rfl (by simp only[List.take_zero,List.append_nil];exact cu) (by simp only[List.take_zero,List.append_nil];exact ad) ?_
 rintro⟨i,a3,c3⟩ hi ih
 simp only at hi
 have IS:=KF i hi
 dsimp only
 refine go ?_
 refine au zr zr ?_ ?_
 ·intro cW
  have FI:i<8:=by omega
  have KT:(Sha.oT (8*b.length)).take (i+1)=(Sha.oT (8*b.length)).take i++[UInt8.ofNat (8*b.length/2 ^ (56-8*i))]:=by
   rw[List.take_add_one];simp[Sha.oT,FI]
  refine go ?_
  refine gT zr zr zr (by simp only[gg];omega) ?_
  refine go ?_
  ((refine az 34 ((.int .u64 ((56-8*i:Nat):Int))) rfl ((congrArg (Value.int .u64) ah)) ?_))
  refine iW zr zr zr ah ?_
  ((refine az 35 ((.int .u64 ((8*b.length/2 ^ (56-8*i):Nat):Int))) rfl ((congrArg (Value.int .u64) (by rw[Int.toNat_natCast,show min (56-8*i) IntKind.u64.bits=56-8*i from by show min (56-8*i) 64=_;omega];simp))) ?_))
  refine eG ?_
  refine iN zr zr zr zr zr zr ?_
  ((refine az 36 ((u8 (UInt8.ofNat (8*b.length/2 ^ (56-8*i))))) rfl ((lq _)) ?_))
  (refine al (cs:=bV [(UInt8.ofNat (8*b.length/2 ^ (56-8*i)))]) zr zr zr zr zr zr zr zr zr bz ?_;intro bA;refine aO (mm:=1) (news:=bV [(UInt8.ofNat (8*b.length/2 ^ (56-8*i)))]) 1 0 zr zr zr zr zr zr zr zr zr zr zr zr (Vw.ag rfl) rfl (cR _) (by(rw[IS];omega)) (by show(_+_)*1≤_;(rw[IS];omega)) (fun _=>rfl) bz ?_;intro vA;rw[show bV ((T0++(Sha.oT (8*b.length)).take i))++bV [(UInt8.ofNat (8*b.length/2 ^ (56-8*i)))]=bV (((T0++(Sha.oT (8*b.length)).take i))++[(UInt8.ofNat (8*b.length/2 ^ (56-8*i)))])from by simp[bV],show((T0++(Sha.oT (8*b.length)).take i)).length+1=(((T0++(Sha.oT (8*b.length)).take i))++[(UInt8.ofNat (8*b.length/2 ^ (56-8*i)))]).length from(@List.length_append _ ((T0++(Sha.oT (8*b.length)).take i)) [(UInt8.ofNat (8*b.length/2 ^ (56-8*i)))]).symm];((refine aJ 1 rfl ?_));rintro aA cA rfl)
  rw[show T0++(Sha.oT (8*b.length)).take i++[UInt8.ofNat (8*b.length/2 ^ (56-8*i))]=T0++(Sha.oT (8*b.length)).take (i+1)from by rw[KT,List.append_assoc]]
  refine go ?_
  refine aL ih (i+1,aA,cA) rfl (by simp only;omega) (by simp only;omega) cu ad
 intro fq
 have FI:i=8:=by omega
 subst FI
 clear ih
 have Ea:T0++(Sha.oT (8*b.length)).take 8=Sha.msg b:=by
  rw[Ow,List.take_of_length_le (by simp[Sha.oT])]
  unfold Sha.msg Sha.pad
  rw[← hz];simp
 have oL:(dM b).bs=Sha.out (Sha.chunks Sha.start (Sha.msg b) ((Sha.msg b).length/64)):=H6 b
 rw[← Ea]at oL
 generalize T0++(Sha.oT (8*b.length)).take 8=T at IS oL ⊢
 have adk:T.length%64=0:=by omega
 have hTl:T.length≤1000000200:=by omega
 clear vT KF Ow rf hz RV RU IS Ea
 have KE:∀s:Sha.St,(wV s.l).length=8:=fun s=>rfl
 have QV:∀s:Sha.St,wV s.l≠[]:=fun s e=>by have:=congrArg List.length e;rw[KE]at this;cases this
 refine ql (bs:=T) 0 rfl ?_
 intro QL
 have Wn:eJ (Sep [aB 5 1 (.slice a3 T.length c3) T.length (bV T),A]) (.slice a3 T.length c3) T:=QL.mono (aW (i:=0) rfl)
 refine aj (ao.bP [_,_] _) ?_
 refine go ?_
 refine mo (U:=aN) (cs:=wV Sha.start.l) zr zr zr zr zr zr ?_
 refine aw zr zr zr bz ?_
 intro b6
 refine aT ?_
 refine cD (U:=aN) (l':=wV Sha.start.l) 0 gE zr zr zr zr (by decide) (fh _) zr zr zr ?_
 refine go ?_
 refine bu (fun y:Nat × Option Addr × Nat=>64*y.1≤T.length∧eJ (Sep [aB 5 1 (.slice a3 T.length c3) T.length (bV T),A]) (.slice y.2.1 (T.length-64*y.1) y.2.2) (T.drop (64*y.1))) (fun y=>T.length-64*y.1)
  (fun y=>[(2,ptr b2),(6,ptr b6),(3,.slice y.2.1 (T.length-64*y.1) y.2.2)])
  (fun y=>ag b6 (cl (wV (Sha.chunks Sha.start T y.1).l) 140)::Sep [aB 5 1 (.slice a3 T.length c3) T.length (bV T),A]::ag b2 (cl (dC Dg.zero) 35)::F) (0,a3,c3) ⟨ah,Wn⟩ rfl cu (by unfold Sha.chunks;exact ad) ?_
 rintro⟨q,a4,c4⟩⟨hq,hbq⟩ ih
 simp only at hq hbq
 dsimp only
 refine go ?_
 refine au zr zr ?_ ?_
 ·intro cW
  have hq1:64*q+64≤T.length:=by omega
  have FK:(T.drop (64*q)).length=T.length-64*q:=List.length_drop
  have wu:=hbq.front 64 (by rw[FK];omega)
  have zv:=hbq.cut 64 (by rw[FK];omega)
  have jY:((T.drop (64*q)).take 64).length=64:=by rw[List.length_take,FK];omega
  have Ek:=Lc _ _ _ wu (by rw[jY];omega) (Sha.chunks Sha.start T q)
  have ph:Sha.chunk (Sha.chunks Sha.start T q) ((T.drop (64*q)).take 64)=Sha.chunks Sha.start T (q+1):=by
   have h1:=Sha.AX (Sha.chunks Sha.start T q) ((T.drop (64*q)).take 64) ((T.drop (64*q)).drop 64) (by rw[jY];omega)
   rw[List.take_append_drop]at h1
   rw[← h1]
   conv=>rhs;unfold Sha.chunks
  rw[ph]at Ek
  refine go ?_
  refine aF (fun w=>Sat G w ([ag b6 (cl (wV (Sha.chunks Sha.start T q).l) 140)])) (.st 0 (.st 1 (.st 2 (.act 3 (.act 4 .nil))))) rfl ak ak ak ei ?_
  refine go ?_
  refine bL (U:=aN) 0 zr zr zr zr zr zr ?_
  refine go ?_
  refine bj (p:=0) (q:=64) rfl rfl rfl rfl rfl rfl rfl ah ah (.inr (by obtain⟨_,_,_,he,hcc⟩:=hbq;simp only[Value.slice.injEq]at he;rw[FK]at hcc;omega)) ?_
  ((refine az 45 ((.slice (sliceAt a4 c4 0 1) 64 c4)) rfl (rfl) ?_))
  ((refine ai rfl rfl rfl rfl (Ek) ad ?_ jg))
  rintro _ _⟨rfl,rfl⟩
  unfold PB
  refine aT ?_
  refine cD (U:=aN) 1 gE zr zr zr zr (QV _) (fh _) rfl (by rw[KE,KE]) rfl ?_
  refine go ?_
  refine bj (p:=64) (q:=((T.length-64*q:Nat):Int)) zr zr zr zr zr zr zr ah ah (.inl rfl) ?_
  ((refine az 48 ((.slice (sliceAt a4 c4 64 1) (T.length-64*(q+1)) (c4-64))) rfl ((by rw[show(((T.length-64*q:Nat):Int)).toNat-(64:Int).toNat=T.length-64*(q+1)from by omega];rfl)) ?_))
  refine go ?_
  rw[List.drop_drop,FK,show T.length-64*q-64=T.length-64*(q+1)from by omega,show 64*q+64=64*(q+1)from by omega]at zv
  refine aL ih (q+1,sliceAt a4 c4 64 1,c4-64) rfl ⟨by simp only;omega,zv⟩ (by simp only;omega) cu ad
 intro fq
 have WA:q=T.length/64:=by omega
 subst WA
 clear ih
 generalize Sha.chunks Sha.start T (T.length/64)=S2 at oL ⊢
 refine aj (ao.trans (ao.pick [1] rfl) (ao.cB _ _)) ?_
 refine go ?_
 refine aw zr zr zr bz ?_
 intro b9
 refine go ?_
 have QT:=Sha.BJ S2
 have FK:∀i,i≤32→((Sha.out S2).take i++List.replicate (32-i) (0:UInt8)).length=32:=fun i hi=>by
  rw[List.length_append,List.length_take,List.length_replicate,QT];omega
 refine bu (fun i:Nat=>i≤32) (fun i=>32-i)
  (fun i=>[(2,ptr b2),(6,ptr b6),(7,ptr b9),(8,.int .i64 (i:Int))])
  (fun i=>ag b9 (cl (bV ((Sha.out S2).take i++List.replicate (32-i) (0:UInt8))) 35)::ag b6 (cl (wV S2.l) 140)::ag b2 (cl (dC Dg.zero) 35)::A::F) 0 (Nat.zero_le _) rfl cu ad ?_
 rintro i hi ih
 refine go ?_
 refine au zr zr ?_ ?_
 ·intro cW
  have tu:i<32:=by omega
  have WC:(i:Int)/4=((i/4:Nat):Int):=by omega
  have hr4:24-8*((i:Int)%4)=((24-8*(i%4):Nat):Int):=by omega
  have QJ:(wV S2.l)[i/4]?=some (u32 (S2.l.getD (i/4) 0)):=ie (by rw[List.getD_eq_getElem?_getD,List.getElem?_eq_getElem (show i/4<S2.l.length from by show i/4<8;omega)];rfl)
  have re:(Sha.out S2)[i]?=some (UInt8.ofNat ((S2.l.getD (i/4) 0) >>> (24-8*(i%4))).toNat):=by simp[Sha.out,tu]
  (repeat(first|refine gO ?_|refine nZ zr zr zr ah ah (by simp only[gg];omega) ?_|refine o8 zr zr zr ah ah ?_|refine gT zr zr zr (by simp only[gg];omega) ?_|refine ed (U:=aN) (i/4) zr zr zr zr zr zr zr WC ah ?_|(refine aK ?_;refine mj (U:=aN) 1 (i/4) zr zr zr (Nat.zero_add _) QJ zr zr ?_)|refine qo (24-8*(i%4)) zr zr zr hr4 ah ?_|(refine eG ?_;refine Bd (U:=aN) zr zr zr zr zr zr ?_)|refine ed (U:=aN) i zr zr zr zr zr zr zr zr tu ?_))
  refine aT ?_
  refine gH (U:=aN) 0 gE zr zr zr zr zr zr zr (by rw[bt,FK i ah];omega) rfl ?_
  rw[show 0+i=i from Nat.zero_add _,Dx QT re]
  refine go ?_
  refine aL ih (i+1) rfl ah ah cu ad
 intro fq
 have tu:i=32:=by omega
 subst tu
 rw[List.take_of_length_le ah,show 32-32=0 from rfl,List.replicate_zero,List.append_nil,← oL,← dG]
 clear ih FK QT oL
 refine go ?_
 refine aH (U:=aN) (l:=dC (dM b)) 0 zr zr zr zr zr zr ?_
 refine cD (U:=aN) (l':=dC (dM b)) 2 gE rfl rfl rfl rfl (by intro e;cases e) (by rw[dG];exact jy _) rfl rfl rfl ?_
 refine go ?_
 (refine aS hE ?_;apply aQ (U:=aN) hE Tryz.func30 rfl (ao.refl _);(repeat(first|exact aI.nil|apply aI.agg 2 zr zr zr zr zr));exact⟨rfl,rfl⟩;exact ad)
attribute [local irreducible] ct
set_option maxRecDepth 20000 in
theorem Lx(A:HP)(tag:UInt8)(v:Value)(ps:List (List UInt8))(hv:rM A v ps)(hl:(cV tag ps).length≤1000000000) :
  aD Tryz.prog 146 [u8 tag,v] [A] (fun r H=>H=[aB 5 1 r (cV tag ps).length (bV (cV tag ps)),A]):=by
 obtain⟨cs,dK,ln,⟨a,c,rfl,hc⟩,pj⟩:=hv
 have vU:=s9 tag ps
 refine aD.enter Tryz.func146 ak rfl Tryz.ntmps146 zr zr ?_
 intro G F R hE
 refine go ?_
 refine al (cs:=bV [tag]) zr zr zr zr zr zr zr zr zr bz ?_
 intro b0
 refine go ?_
 refine aj (eL 5 1 b0 1 1 (bV [tag]) [] _ rfl (Nat.le_refl _) (by simp[bV])) ?_
 refine bu (fun y:Nat × Option Addr × Nat=>y.1≤ps.length) (fun y=>ps.length-y.1)
  (fun y=>[(1,.slice a ps.length c),(6,.int .i64 (y.1:Int)),(5,.slice y.2.1 (cV tag (ps.take y.1)).length y.2.2)])
  (fun y=>aB 5 1 (.slice y.2.1 (cV tag (ps.take y.1)).length y.2.2) (cV tag (ps.take y.1)).length (bV (cV tag (ps.take y.1)))::A::F) (0,some ⟨b0,0,none⟩,1) (Nat.zero_le _) rfl cu ad ?_
 rintro⟨i,a1,c1⟩ hi ih
 simp only at hi
 dsimp only
 refine go ?_
 refine au zr zr ?_ ?_
 ·intro cW
  have kY:i<ps.length:=by omega
  obtain⟨p,hp⟩:∃p,ps[i]?=some p:=⟨ps[i],List.getElem?_eq_getElem kY⟩
  obtain⟨cv,mO,hb⟩:=pj i p hp
  obtain⟨b1,o1,c0,pq⟩:=dK.some (by intro h;rw[h]at mO;simp at mO)
  simp only[Value.slice.injEq]at pq
  obtain⟨rfl,-,rfl⟩:=pq
  have jY:=vo (tag:=tag) hp
  have hle:=Av tag ps (i+1)
  have aaB:=Iz p.length
  rw[jY]at hle
  simp only[List.length_append]at hle
  obtain⟨T0,Ow⟩:∃T0,T0=cV tag (ps.take i):=⟨_,rfl⟩
  rw[← Ow]at jY hle ⊢
  obtain⟨ax,cx,rfl,hcx⟩:=hb.2
  have KF:∀j:Nat,j≤8→(T0++(lj p.length).take j).length=T0.length+j:=fun j hj=>by
   rw[List.length_append,List.length_take];omega
  refine go ?_
  refine bK i zr zr zr zr zr zr zr zr kY ?_
  refine aK ?_
  refine bg 1 i zr zr zr dK rfl mO zr zr ?_
  refine go ?_
  refine bu (fun y:Nat × Option Addr × Nat=>y.1≤8) (fun y=>8-y.1)
   (fun y=>[(1,.slice (some ⟨b1,o1,none⟩) ps.length c),(6,.int .i64 (i:Int)),(7,.int .u64 ((p.length/2 ^ (8*y.1):Nat):Int)),(5,.slice y.2.1 (T0++(lj p.length).take y.1).length y.2.2),(8,.int .i64 (y.1:Int))])
   (fun y=>aB 5 1 (.slice y.2.1 (T0++(lj p.length).take y.1).length y.2.2) (T0++(lj p.length).take y.1).length (bV (T0++(lj p.length).take y.1))::A::F) (0,a1,c1) (Nat.zero_le _) rfl (by simp only[List.take_zero,List.append_nil,Nat.mul_zero,Nat.pow_zero,Nat.div_one];exact cu) (by simp only[List.take_zero,List.append_nil];exact ad) ?_
  rintro⟨j,a2,c2⟩ hj GM
  simp only at hj
  have vT:=KF j hj
  dsimp only
  refine go ?_
  refine au zr zr ?_ ?_
  ·intro hj8
   have WY:j<8:=by omega
   have htj:=DW (n:=p.length) WY
   obtain⟨m,hm⟩:∃m,m=p.length/2 ^ (8*j):=⟨_,rfl⟩
   have adL:m≤p.length:=by rw[hm];exact Nat.div_le_self _ _
   have Yj:p.length/2 ^ (8*(j+1))=m/256:=by
    rw[hm,Nat.div_div_eq_div_mul,show 8*(j+1)=8*j+8 from by omega,Nat.pow_add]
   rw[← hm]at htj ⊢
   refine go ?_
   refine o8 zr zr zr ah ah ?_
   refine eG ?_
   refine iN zr zr zr zr zr zr ?_
   ((refine az 30 ((u8 (UInt8.ofNat m))) rfl ((by rw[show((m:Int)%256)=((m%256:Nat):Int)from by omega,lq];congr 1;apply UInt8.toNat.inj;simp only[UInt8.toNat_ofNat'];omega)) ?_))
   (refine al (cs:=bV [(UInt8.ofNat m)]) zr zr zr zr zr zr zr zr zr bz ?_;intro bA;refine aO (mm:=1) (news:=bV [(UInt8.ofNat m)]) 1 0 zr zr zr zr zr zr zr zr zr zr zr zr (Vw.ag rfl) rfl (cR _) (by(rw[vT];omega)) (by show(_+_)*1≤_;(rw[vT];omega)) (fun _=>rfl) bz ?_;intro vA;rw[show bV ((T0++(lj p.length).take j))++bV [(UInt8.ofNat m)]=bV (((T0++(lj p.length).take j))++[(UInt8.ofNat m)])from by simp[bV],show((T0++(lj p.length).take j)).length+1=(((T0++(lj p.length).take j))++[(UInt8.ofNat m)]).length from(@List.length_append _ ((T0++(lj p.length).take j)) [(UInt8.ofNat m)]).symm];((refine aJ 1 rfl ?_));rintro aA cA rfl)
   rw[show T0++(lj p.length).take j++[UInt8.ofNat m]=T0++(lj p.length).take (j+1)from by rw[htj,List.append_assoc]]
   refine go ?_
   refine nZ zr zr zr ah ah (by simp only[gg];omega) ?_
   ((refine az 34 ((.int .u64 ((p.length/2 ^ (8*(j+1)):Nat):Int))) rfl ((congrArg (Value.int .u64) (by rw[Yj];omega))) ?_))
   refine go ?_
   refine aL GM (j+1,aA,cA) rfl (by simp only;omega) (by simp only;omega) cu ad
  intro fq
  have hj8:j=8:=by omega
  subst hj8
  rw[List.take_of_length_le ah]at vT ⊢
  refine go ?_
  refine bK i zr zr zr zr zr zr zr zr kY ?_
  refine aK ?_
  refine bg 1 i zr zr zr dK rfl mO zr zr ?_
  (refine aO (mm:=(p).length) (news:=bV (p)) 0 1 zr zr zr zr zr zr zr zr zr zr zr zr (hb.1) (by show _=_*1;rw[bt];omega) (cR _) (by(rw[vT];omega)) (by show(_+_)*1≤_;(rw[vT];omega)) (fun _=>rfl) bz ?_;intro vA;rw[show bV ((T0++lj p.length))++bV (p)=bV (((T0++lj p.length))++(p))from by simp[bV],show((T0++lj p.length)).length+(p).length=(((T0++lj p.length))++(p)).length from(@List.length_append _ ((T0++lj p.length)) (p)).symm];((refine aJ 0 rfl ?_));rintro aA cA rfl)
  rw[show T0++lj p.length++p=cV tag (ps.take (i+1))from by rw[jY,List.append_assoc]]
  refine go ?_
  refine aL ih (i+1,aA,cA) rfl (by simp only;omega) (by simp only;omega) cu ad
 intro fq
 have gw:i=ps.length:=by omega
 subst gw
 rw[List.take_length]
 refine go ?_
 ((refine ae hE Tryz.func146 rfl _ zr zr ad))
set_option maxRecDepth 20000 in
theorem yV(A:HP)(tag:UInt8)(v:Value)(ps:List (List UInt8))(hv:rM A v ps)(hl:(cV tag ps).length≤1000000000) :
  aD Tryz.prog 81 [u8 tag,v] [A] (fun r H=>r=dV (ct tag ps)∧H=[A]):=by
 have WE:=Lx A tag v ps hv hl
 obtain⟨cs,dK,ln,⟨a,c,rfl,hc⟩,pj⟩:=hv
 have htg:ct tag ps=dM (cV tag ps):=by unfold ct;rfl
 rw[htg]
 refine aD.enter Tryz.func81 ak rfl Tryz.ntmps81 zr zr ?_
 intro G F R hE
 refine aE rfl ?_
 refine aw zr zr zr bz ?_
 intro b4
 refine go ?_
 ((refine ai zr zr zr zr (WE) ad ?_ bG))
 rintro r _ rfl
 refine gB (bs:=cV tag ps) 0 rfl ?_
 intro QL
 refine aG (ao.bP [_,_] _) ?_
 ((refine ai zr zr zr zr (Ji _ _ (cV tag ps) (QL.mono (aW (H:=[aB 5 1 r (cV tag ps).length (bV (cV tag ps)),A]) (i:=0) rfl)) hl) ad ?_ bG))
 rintro _ _⟨rfl,rfl⟩
 refine aG (ao.cB _ _) ?_
 refine go ?_
 (refine aS hE ?_;apply aQ (U:=aN) hE Tryz.func81 rfl (ao.refl _);(repeat(first|exact aI.nil|apply aI.agg 2 zr zr zr zr zr));exact⟨rfl,rfl⟩;exact ad)
set_option maxRecDepth 20000 in
theorem Pc(A:HP)(v:Value)(b:List UInt8)(hv:eJ A v b)(hl:b.length≤900000000):aD Tryz.prog 60 [v] [A] (fun r H=>r=dV (cU b)∧H=[A]):=by
 obtain⟨a,c,rfl,hc⟩:=hv.2
 refine aD.enter Tryz.func60 ak rfl Tryz.ntmps60 zr zr ?_
 intro G F R hE
 refine aE rfl ?_
 refine aw zr zr zr bz ?_
 intro b2
 (refine rG ?_)
 (refine aE rfl ?_;refine rG ?_)
 refine al (cs:=[.slice a b.length c]) zr zr zr zr zr zr zr zr zr bz ?_
 intro b0
 refine aG (ao.trans (ao.pick [0,2] rfl) (ao.bP [_,_] _)) ?_
 ((refine ai rfl rfl rfl rfl (yV (Sep [ag b0 (cl [.slice a b.length c] 22),A]) 0 _ [b] (rM.row rfl rfl (fun i x hx=>by cases i with|zero=>(simp at hx;subst hx;exact⟨_,rfl,hv⟩)|succ i=>simp at hx)) (by simp[cV,lj];omega)) ad ?_ bG))
 rintro _ _⟨rfl,rfl⟩
 refine aG (ao.cB _ _) ?_
 refine go ?_
 (refine aS hE ?_;apply aQ (U:=aN) hE Tryz.func60 rfl (ao.refl _);(repeat(first|exact aI.nil|apply aI.agg 2 zr zr zr zr zr));exact⟨rfl,rfl⟩;exact ad)
set_option maxRecDepth 20000 in
theorem Pa(l r:Dg):aD Tryz.prog 118 [dV l,dV r] [] (fun x H=>x=dV (g9 l r)∧H=[]):=by
 unfold dV
 refine aD.enter Tryz.func118 ak rfl Tryz.ntmps118 zr zr ?_
 intro G F R hE
 refine aE rfl ?_
 refine bC zr zr bz ?_
 intro b2
 refine bC zr zr bz ?_
 intro b3
 refine aw zr zr zr bz ?_
 intro b4
 refine go ?_
 refine aF (fun w=>Sat G w ([])) (.st 0 (.st 1 (.act 2 (.act 3 (.act 4 .nil))))) rfl ak ak ak ei ?_
 refine go ?_
 refine iB (U:=aN) zr zr zr zr zr ?_
 refine go ?_
 refine iB (U:=aN) zr zr zr zr zr ?_
 refine al (cs:=[.slice (some ⟨b2,0,none⟩) 32 32,.slice (some ⟨b3,0,none⟩) 32 32]) zr zr zr zr zr zr zr zr zr (fun _ _ hw=>hw.cy ad) ?_
 intro b0
 refine aG (ao.trans (ao.pick [3,2] rfl) (ao.trans (ao.bP [_,_] _) (ao.trans (ao.pick [1,0] rfl) (ao.bP [_,_] _)))) ?_
 have mA:rM (Sep [ag b0 (cl [.slice (some ⟨b2,0,none⟩) 32 32,.slice (some ⟨b3,0,none⟩) 32 32] 22),Sep [ag b2 (cl (dC l) 35),ag b3 (cl (dC r) 35)] ]) (.slice (some ⟨b0,0,none⟩) 2 2) [l.bs,r.bs]:=by
  refine rM.row zr zr (fun i x hx=>?_)
  match i,hx with
  | 0,hx =>
   simp at hx
   subst hx
   exact⟨_,rfl,(eJ.block l.len (dG l)).mono (aW (i:=0) rfl)⟩
  | 1,hx =>
   simp at hx
   subst hx
   exact⟨_,rfl,(eJ.block r.len (dG r)).mono (aW (i:=1) rfl)⟩
  | i+2,hx=>simp at hx
 have Wq:=yV _ 1 _ [l.bs,r.bs] mA (by simp[cV,lj,l.len,r.len])
 ((refine ai rfl rfl rfl rfl (Wq) ad ?_ jg))
 rintro _ _⟨rfl,rfl⟩
 refine aG (ao.trans (ao.cB _ _) (ao.trans (ao.pick [1] rfl) (ao.cB _ _))) ?_
 refine go ?_
 (refine aS hE ?_;apply aQ (U:=aN) hE Tryz.func118 rfl (ao.refl _);(repeat(first|exact aI.nil|apply aI.agg 3 zr zr zr zr zr));exact⟨rfl,rfl⟩;exact ad)
theorem dgE{l:List Dg}{i:Nat}{x:Dg}(hx:l[i]?=some x)(q:Nat)(v:Value)(hq:(dC x)[q]?=some v):(l.flatMap dC)[i*32+q]?=some v:=by
 rw[cY db hx q (by rcases Nat.lt_or_ge q 32 with h|h;exact h;rw[List.getElem?_eq_none (by rw[db];exact h)]at hq;cases hq)]
 exact hq
theorem adn{l:List Dg}{i:Nat}(h:i<l.length):l.flatMap dC≠[]:=by
 rw[← List.length_pos_iff,cH db];omega
set_option maxRecDepth 20000 in
theorem A7(A:HP)(v:Value)(l:List Dg)(hv:Vw A v l.length (l.flatMap dC))(hl:l.length≤1000000) :
  aD Tryz.prog 82 [v] [A] (fun r H=>H=[aB 35 32 r (bq l).length ((bq l).flatMap dC),A]):=by
 obtain⟨a,c,rfl⟩:=hv.shape
 have Ov:=cN l
 refine aD.enter Tryz.func82 ak rfl Tryz.ntmps82 zr zr ?_
 intro G F R hE
 refine go ?_
 refine aj (bJ 35 32 none _) ?_
 refine bu (fun y:Nat × Option Addr × Nat=>y.1≤(l.length+1)/2) (fun y=>(l.length+1)/2-y.1)
  (fun y=>[(0,.slice a l.length c),(3,.slice y.2.1 ((bq l).take y.1).length y.2.2),(4,.int .i64 ((2*y.1:Nat):Int))])
  (fun y=>aB 35 32 (.slice y.2.1 ((bq l).take y.1).length y.2.2) ((bq l).take y.1).length (((bq l).take y.1).flatMap dC)::A::F) (0,none,0) (Nat.zero_le _) rfl cu ad ?_
 rintro⟨q,oa,oc⟩ hq ih
 simp only at hq
 dsimp only
 have tr:((bq l).take q).length=q:=by rw[List.length_take];omega
 refine go ?_
 refine au zr zr ?_ ?_
 ·intro cW
  have hql:2*q<l.length:=by omega
  obtain⟨x,hx⟩:∃x,l[2*q]?=some x:=⟨l[2*q],by simp⟩
  obtain⟨b,o,gD,gb⟩:=hv.some (adn hql)
  simp only[Value.slice.injEq]at gb
  obtain⟨rfl,_,rfl⟩:=gb
  refine go ?_
  refine au zr zr ?_ ?_
  ·intro aaz
   have aco:2*q+1<l.length:=by omega
   obtain⟨y,hy⟩:∃x,l[2*q+1]?=some x:=⟨l[2*q+1],by simp⟩
   have mD:=A8 hx hy
   have jY:(bq l).take (q+1)=(bq l).take q++[g9 x y]:=by rw[List.take_add_one,mD];rfl
   refine go ?_
   refine aF (fun w=>Sat G w ([A])) (.st 0 (.st 1 (.st 2 (.st 3 (.st 4 (.st 5 (.st 6 (.st 7 (.st 8 (.st 9 (.act 10 (.act 11 (.act 12 (.st 13 .nil)))))))))))))) rfl ak ak ak ei ?_
   refine go ?_
   refine cO (2*q) 32 zr zr zr zr zr zr zr zr hql ?_
   refine aK ?_
   refine gI (U:=aN) (es:=dC x) 0 ((2*q)*32) zr zr zr hv rfl (dgE hx) zr zr zr ?_
   refine go ?_
   refine cO (2*q+1) 32 zr zr zr zr zr zr zr zr aco ?_
   refine aK ?_
   refine gI (U:=aN) (es:=dC y) 0 ((2*q+1)*32) zr zr zr hv rfl (dgE hy) zr zr zr ?_
   ((refine ai rfl rfl rfl rfl ((Pa x y)) ad ?_ jg))
   rintro _ _⟨rfl,rfl⟩
   refine al (cs:=dC (g9 x y)) zr zr zr zr zr zr zr zr zr (fun _ _ hw=>hw.cy ad) ?_
   intro row
   refine go ?_
   refine aO (mm:=1) (news:=dC (g9 x y)) 1 0 zr zr zr zr zr zr zr zr zr zr zr zr (Vw.ag rfl) rfl (by rw[dG];exact cR _) (by rw[tr];omega) (by show(_+_)*32≤_;rw[tr];omega) (fun _=>rfl) (fun _ _ hw=>hw.cy ad) ?_
   intro v1
   rw[show((bq l).take q).flatMap dC++dC (g9 x y)=((bq l).take (q+1)).flatMap dC from by rw[jY];simp,show((bq l).take q).length+1=((bq l).take (q+1)).length from by rw[jY];simp]
   ((refine aJ 1 rfl ?_))
   rintro ja jc rfl
   refine go ?_
   ((refine bB 4 ((.int .i64 ((2*(q+1):Nat):Int))) rfl ((congrArg (Value.int .i64) ah)) ?_))
   refine aL ih (q+1,ja,jc) rfl (by simp only;omega) (by simp only;omega) cu ad
  ·intro aaS
   have mD:=vG hx ah
   have jY:(bq l).take (q+1)=(bq l).take q++[x]:=by rw[List.take_add_one,mD];rfl
   refine go ?_
   refine cO (2*q) 32 zr zr zr zr zr zr zr zr hql ?_
   refine aK ?_
   refine de (U:=aN) (es:=dC x) 1 ((2*q)*32) zr zr zr hv rfl (dgE hx) zr zr zr ?_
   refine al (cs:=dC x) zr zr zr zr zr zr zr zr zr bz ?_
   intro row
   refine go ?_
   refine aO (mm:=1) (news:=dC x) 1 0 zr zr zr zr zr zr zr zr zr zr zr zr (Vw.ag rfl) rfl (by rw[dG];exact cR _) (by rw[tr];omega) (by show(_+_)*32≤_;rw[tr];omega) (fun _=>rfl) bz ?_
   intro v1
   rw[show((bq l).take q).flatMap dC++dC x=((bq l).take (q+1)).flatMap dC from by rw[jY];simp,show((bq l).take q).length+1=((bq l).take (q+1)).length from by rw[jY];simp]
   ((refine aJ 1 rfl ?_))
   rintro ja jc rfl
   refine go ?_
   ((refine bB 4 ((.int .i64 ((2*(q+1):Nat):Int))) rfl ((congrArg (Value.int .i64) ah)) ?_))
   refine aL ih (q+1,ja,jc) rfl (by simp only;omega) (by simp only;omega) cu ad
 intro fq
 have WA:(bq l).take q=bq l:=by rw[List.take_of_length_le];omega
 rw[WA]
 refine go ?_
 ((refine ae hE Tryz.func82 rfl _ zr zr ad))
set_option maxRecDepth 20000 in
theorem O3(A:HP)(v:Value)(l0:List Dg)(hv:Vw A v l0.length (l0.flatMap dC))(N9:l0.length≤1000000)(bT:l0≠[]):aD Tryz.prog 31 [v] [A] (fun r H=>r=dV (rl l0)∧H=[A]):=by
  obtain⟨a,c,rfl⟩:=hv.shape
  have kX:0<l0.length:=List.length_pos_iff.2 bT
  refine aD.enter Tryz.func31 ak rfl Tryz.ntmps31 zr zr ?_
  intro G F R hE
  refine aE rfl ?_
  refine aw zr zr zr bz ?_
  intro b2
  refine go ?_
  refine au zr zr ?_ ?_
  · intro h0;exfalso;omega
  intro _
  refine go ?_
  refine bu (fun y:Nat × HP × Option Addr × Nat=>(∀i,i<y.1→1<(dj i l0).length)∧Vw y.2.1 (.slice y.2.2.1 (dj y.1 l0).length y.2.2.2) (dj y.1 l0).length ((dj y.1 l0).flatMap dC)∧∀h,y.2.1 h→∃h',sub h' h∧A h') (fun y=>(dj y.1 l0).length)
    (fun y=>[(2,ptr b2),(3,.slice y.2.2.1 (dj y.1 l0).length y.2.2.2)])
    (fun y=>y.2.1::ag b2 (cl (dC Dg.zero) 35)::F) (0,A,a,c) ⟨fun i h=>by omega,hv,fun h hA=>⟨h,sub.refl h,hA⟩⟩ rfl cu ad ?_
  rintro⟨j,X,xa,xc⟩⟨hI,hX,Xo⟩ ih
  simp only at hI hX Xo
  dsimp only
  have hle:=By l0 j
  refine go ?_
  refine au zr zr ?_ ?_
  · intro PV
    have zK:1<(dj j l0).length:=by omega
    have ph:dj (j+1) l0=bq (dj j l0):=rfl
    have mD:=cN (dj j l0)
    have Q9:=A7 X _ _ hX ah
    rw[← ph]at Q9 mD
    refine go ?_
    ((refine ai zr zr zr zr (Q9) ad ?_ bG))
    rintro r _ rfl
    ((refine aJ 0 rfl ?_))
    rintro ra rc rfl
    refine tV fun dK=>?_
    refine go ?_
    refine aL ih (j+1,Sep [aB 35 32 (.slice ra (dj (j+1) l0).length rc) (dj (j+1) l0).length ((dj (j+1) l0).flatMap dC),X],ra,rc) rfl ⟨fun i hi=>by
      rcases Nat.lt_or_ge i j with h|h
      · exact hI i h
      · rw[show i=j from by simp only at hi;omega];exact zK,dK.mono (aW (i:=0) rfl),fun h hs=>by
      obtain⟨h1,s1,L5⟩:=aW (H:=[aB 35 32 (.slice ra (dj (j+1) l0).length rc) (dj (j+1) l0).length ((dj (j+1) l0).flatMap dC),X]) (i:=1) rfl h hs
      obtain⟨h2,s2,sg⟩:=Xo h1 L5
      exact⟨h2,s2.trans s1,sg⟩⟩ (by simp only;omega) cu ad
  intro aaD
  have WH:=sU l0 kX j
  obtain⟨x,hx⟩:∃x,dj j l0=[x]:=by
    match h:dj j l0,WH,(show(dj j l0).length≤1 by omega)with
    | [x],_,_=>exact⟨x,rfl⟩
  have x8:=Di bT hI hx
  rw[x8]at hE
  rw[hx]at hX ⊢
  obtain⟨b,o,gD,gb⟩:=hX.some (by simp[dC])
  simp only[Value.slice.injEq]at gb
  obtain⟨rfl,_,rfl⟩:=gb
  refine go ?_
  refine cO 0 32 zr zr zr zr zr zr zr zr (by simp) ?_
  refine aK ?_
  refine de (U:=aN) (es:=dC x) 0 (0*32) zr zr zr hX rfl (dgE (l:=[x]) rfl) zr zr zr ?_
  (refine aT ?_;(refine bZ 1 gE zr zr zr zr zr zr zr zr zr ?_))
  refine go ?_
  refine aj (ao.head (B:=[A]) fun h hs=>by obtain⟨h',s1,L5⟩:=Xo h hs;exact⟨h',s1,fU L5⟩) ?_
  (refine aS hE ?_;apply aQ (U:=aN) hE Tryz.func31 rfl (ao.refl _);(repeat(first|exact aI.nil|apply aI.agg 1 zr zr zr zr zr));exact⟨rfl,rfl⟩;exact ad)
attribute [local irreducible] GI cU
theorem MR{s p:Int}(hs:1≤s∧s≤1048576)(hp:1≤p∧p≤16384):gg .i64 ((s+p-1)/p):=by
 have h1:0≤(s+p-1)/p:=Int.ediv_nonneg ah ah
 have h2:(s+p-1)/p≤s+p-1:=Int.ediv_le_self _ ah
 simp only[gg];omega
theorem Lv(x:Bl):aD Tryz.prog 40 [eg x] [] (fun r H=>r = .bool (bo x)∧H=[]):=by
 have hF:¬(1≤x.size∧x.size≤1048576∧16≤x.piece∧x.piece≤16384)→Value.bool false = .bool (bo x):=fun h=>congrArg Value.bool (by unfold bo;rw[decide_eq_false (by rintro⟨a,b,c,e,_⟩;exact h ⟨a,b,c,e⟩)])
 have hT:(1≤x.size∧x.size≤1048576∧16≤x.piece∧x.piece≤16384)→Value.bool (decide ((x.size+x.piece-1)/x.piece≤1024)) = .bool (bo x):=fun h=>congrArg Value.bool (by unfold bo;rw[decide_eq_decide];exact⟨fun g=>⟨h.1,h.2.1,h.2.2.1,h.2.2.2,g⟩,fun g=>g.2.2.2.2⟩)
 unfold eg
 refine aD.enter Tryz.func40 ak rfl Tryz.ntmps40 zr zr ?_
 intro G F R hE
 refine aE rfl ?_
 refine bC zr zr bz ?_
 intro b1
 repeat'(first|(with_reducible intro qh)|refine gO ?_|refine iC zr zr zr zr ?_ ?_|(refine lu ?_;refine nZ zr zr zr ah ah (MR ah ah) ?_))
 all_goals(first|((refine ae hE Tryz.func40 rfl _ rfl ⟨hF ah,rfl⟩ ad))|((refine ae hE Tryz.func40 rfl _ rfl ⟨hT ah,rfl⟩ ad)))
theorem u5(x:Bl):aD Tryz.prog 11 [eg x] [] (fun r H=>r = .int .i64 (bO x)∧H=[]):=by
 unfold eg
 refine aD.enter Tryz.func11 ak rfl Tryz.ntmps11 zr zr ?_
 intro G F R hE
 refine aE rfl ?_
 refine bC zr zr bz ?_
 intro b1
 refine go ?_
 refine aH (U:=aN) 0 zr zr zr zr zr zr ?_
 ((refine ai zr zr zr zr (Lv x) ad ?_ bG))
 rintro _ _⟨rfl,rfl⟩
 cases hr:bo x with
 | false =>
  have hc:bO x=0:=by unfold bO;rw[if_neg (by rw[hr];simp)]
  rw[hc]at hE
  refine go ?_
  ((refine ae hE Tryz.func11 rfl _ rfl ⟨rfl,rfl⟩ ad))
 | true =>
  have hc:bO x=(x.size+x.piece-1)/x.piece:=by unfold bO;rw[if_pos hr]
  rw[hc]at hE
  simp only[bo,decide_eq_true_eq]at hr
  refine go ?_
  refine nZ zr zr zr ah ah (MR ah ah) ?_
  refine go ?_
  ((refine ae hE Tryz.func11 rfl _ rfl ⟨rfl,rfl⟩ ad))
theorem EY(x:Bl)(i:Int):aD Tryz.prog 21 [eg x,.int .i64 i] [] (fun r H=>r=(match cP x i with
  | none => .tuple #[.int .i64 0,.int .i64 0,.int .i64 1]
  | some (a,n) => .tuple #[.int .i64 a,.int .i64 n,.int .i64 0])∧H=[]):=by
 unfold eg
 refine aD.enter Tryz.func21 ak rfl Tryz.ntmps21 zr zr ?_
 intro G F R hE
 refine aE rfl ?_
 refine bC zr zr bz ?_
 intro b1
 have hN:(i<0∨bO x≤i)→cP x i=none:=fun h=>by unfold cP;rw[if_pos h]
 repeat'(first|(with_reducible intro qh)|refine gO ?_|refine iC zr zr zr zr ?_ ?_|refine au zr zr ?_ ?_|refine aH (U:=aN) 0 zr zr zr zr zr zr ?_|(refine ai zr zr zr zr (u5 x) ad ?_ bG;rintro _ _⟨rfl,rfl⟩))
 all_goals(first|(rw[hN ah]at hE;((refine ae hE Tryz.func21 rfl _ rfl ⟨rfl,rfl⟩ ad)))|skip)
 have hs:cP x i=some (i*x.piece,min x.piece (x.size-i*x.piece)):=by unfold cP;rw[if_neg ah]
 rw[hs]at hE
 obtain⟨hr,zu,R'⟩:=wg (x:=x) (i:=i) ah ah
 simp only[bo,decide_eq_true_eq]at hr
 obtain⟨q,hq⟩:∃q,q=i*x.piece:=⟨_,rfl⟩
 rw[← hq]at zu R' hE
 refine aF (fun w=>Sat G w ([ag b1 (cl (bD x) 37)])) (.st 0 (.st 1 (.st 2 (.st 3 (.st 4 (.st 5 (.st 6 (.st 7 (.st 8 (.st 9 (.st 10 (.st 11 (.st 12 (.st 13 (.st 14 (.st 15 (.st 16 .nil))))))))))))))))) rfl ak ak ak ei ?_
 (repeat(first|refine gO ?_|(refine lu ?_;refine gT zr zr zr (by rw[← hq];simp only[gg];omega) ?_;rw[← hq])))
 ((refine ae hE Tryz.func21 rfl _ rfl ⟨rfl,rfl⟩ ad))
theorem KY:Tryz.prog.eqGuardType Tryz.prog.depth 35=false:=by kernel_rfl
theorem La(a b:Dg)(w:World):(Op.equal 35 (.agg (dC a).toArray) (.agg (dC b).toArray)).run Tryz.prog w = .ok (decide (a=b)) w :=
 rW Tryz.underlying35 Tryz.underlying5 XK a b 9998 w
set_option maxRecDepth 20000 in
theorem za(A:HP)(v:Value)(b:List UInt8)(hv:eJ A v b)(hl:b.length≤900000000)(k:Int) :
  aD Tryz.prog 29 [v,.int .i64 k] [A] (fun r H=>(cI b k=none∧r = .tuple #[.slice none 0 0,.int .i64 1]∧H=[A])∨∃ls rv,cI b k=some ls∧r = .tuple #[rv,.int .i64 0]∧H=[aB 35 32 rv ls.length (ls.flatMap dC),A]):=by
 obtain⟨a,c,rfl,hc⟩:=hv.2
 refine aD.enter Tryz.func29 ak rfl Tryz.ntmps29 zr zr ?_
 intro G F R hE
 refine go ?_
 ((refine ai zr zr zr zr (u5 ⟨Dg.zero,b.length,k,Dg.zero⟩) ad ?_ bG))
 rintro _ _⟨rfl,rfl⟩
 cases hr:bo ⟨Dg.zero,b.length,k,Dg.zero⟩with
 | false =>
  have hn:cI b k=none:=by unfold cI;rw[if_neg (by rw[hr];simp)]
  have sj:bO ⟨Dg.zero,b.length,k,Dg.zero⟩=0:=by unfold bO;rw[if_neg (by rw[hr];simp)]
  rw[sj]
  refine go ?_
  ((refine ae hE Tryz.func29 rfl _ rfl (.inl ⟨hn,rfl,rfl⟩) ad))
 | true =>
  have hs:cI b k=some ((gf k.toNat b.length b).map cU):=by unfold cI;rw[if_pos hr]
  have KR:bO ⟨Dg.zero,b.length,k,Dg.zero⟩=((b.length:Int)+k-1)/k:=by unfold bO;rw[if_pos hr]
  have vS:=kL hs
  simp only[bo,decide_eq_true_eq]at hr
  obtain⟨k,rfl⟩:∃m:Nat,k=m:=⟨k.toNat,ah⟩
  rw[Int.toNat_natCast]at hs vS
  have pT:=mK k (show 0<k by omega) b
  have hpg:=ju k (show 0<k by omega) b.length b
  rw[KR,show((b.length:Int)+(k:Int)-1)/(k:Int)=(((gf k b.length b).length:Nat):Int)from by rw[pT,Int.natCast_ediv];congr 1;omega]
  rw[List.length_map]at vS
  obtain⟨ps,WE⟩:∃ps,ps=gf k b.length b:=⟨_,rfl⟩
  rw[← WE]at hs vS pT hpg ⊢
  refine go ?_
  refine au zr zr ?_ ?_
  ·intro h;exfalso;omega
  intro _
  refine go ?_
  refine aj (bJ 35 32 none _) ?_
  refine bu (fun y:Nat × Option Addr × Nat=>y.1≤ps.length) (fun y=>ps.length-y.1)
   (fun y=>[(0,.slice a b.length c),(1,.int .i64 (k:Int)),(6,.int .i64 (ps.length:Int)),(7,.slice y.2.1 ((ps.take y.1).map cU).length y.2.2),(8,.int .i64 (y.1:Int))])
   (fun y=>aB 35 32 (.slice y.2.1 ((ps.take y.1).map cU).length y.2.2) ((ps.take y.1).map cU).length (((ps.take y.1).map cU).flatMap dC)::A::F) (0,none,0) (Nat.zero_le _) rfl cu ad ?_
  rintro⟨i,oa,oc⟩ hi ih
  simp only at hi
  dsimp only
  have tr:((ps.take i).map cU).length=i:=by rw[List.length_map,List.length_take];omega
  refine go ?_
  refine au zr zr ?_ ?_
  ·intro cW
   have gw:i<ps.length:=by omega
   obtain⟨p,hp⟩:∃p,ps[i]?=some p:=⟨ps[i],by simp⟩
   have Yf:=hpg i (Nat.le_refl _)
   rw[hp]at Yf
   have hik:i*k<b.length:=by
    rcases Nat.lt_or_ge (i*k) b.length with h|h
    ·exact h
    ·rw[if_neg ah]at Yf;cases Yf
   rw[if_pos hik]at Yf
   have R5:p=(b.drop (i*k)).take k:=Option.some.inj Yf
   have yc:p.length=min k (b.length-i*k):=by rw[R5,List.length_take,List.length_drop]
   have adQ:(i+1)*k=i*k+k:=by rw[Nat.add_mul,Nat.one_mul]
   have IV:(i:Int)*(k:Int)=((i*k:Nat):Int):=(Int.natCast_mul i k).symm
   have G3:((i:Int)+1)*(k:Int)=((i*k:Nat):Int)+k:=by rw[Int.add_mul,Int.one_mul,IV]
   obtain⟨ik,acT⟩:∃ik,ik=i*k:=⟨_,rfl⟩
   rw[← acT]at hik R5 yc IV G3
   have IW:=hv.piece ik (ik+p.length) ah ah
   rw[show ik+p.length-ik=p.length from by omega]at IW
   have WI:(b.drop ik).take p.length=p:=by
    rw[yc,R5,List.take_eq_take_iff,List.length_drop];omega
   rw[WI]at IW
   have jY:(ps.take (i+1)).map cU=(ps.take i).map cU++[cU p]:=by rw[List.take_add_one,hp];simp
   refine go ?_
   refine gT zr zr zr (by rw[IV];simp only[gg];omega) ?_
   rw[IV]
   refine go ?_
   refine gT zr zr zr (by rw[G3];simp only[gg];omega) ?_
   rw[G3]
   refine go ?_
   have KC:min (b.length:Int) (((ik:Nat):Int)+(k:Int))=((ik+p.length:Nat):Int):=by rw[yc];omega
   refine bj (p:=((ik:Nat):Int)) (q:=min (b.length:Int) (((ik:Nat):Int)+(k:Int))) zr zr zr zr zr zr zr ah ah (.inr ah) ?_
   ((refine az 33 ((.slice (sliceAt a c ik 1) p.length (c-ik))) rfl ((by rw[KC,Int.toNat_natCast,Int.toNat_natCast,show ik+p.length-ik=p.length from by omega];rfl)) ?_))
   ((refine ai zr zr zr zr (Pc A _ p IW ah) ad ?_ bG))
   rintro _ _⟨rfl,rfl⟩
   refine al (cs:=dC (cU p)) zr zr zr zr zr zr zr zr zr bz ?_
   intro row
   refine aO (mm:=1) (news:=dC (cU p)) 2 0 zr zr zr zr zr zr zr zr zr zr zr zr (Vw.ag rfl) rfl (by rw[dG];exact cR _) (by rw[tr];omega) (by show(_+_)*32≤_;rw[tr];omega) (fun _=>rfl) bz ?_
   intro v1
   rw[show((ps.take i).map cU).flatMap dC++dC (cU p)=((ps.take (i+1)).map cU).flatMap dC from by rw[jY];simp,show((ps.take i).map cU).length+1=((ps.take (i+1)).map cU).length from by rw[jY];simp]
   ((refine aJ 2 rfl ?_))
   rintro ja jc rfl
   refine go ?_
   refine aL ih (i+1,ja,jc) rfl (by simp only;omega) (by simp only;omega) cu ad
  ·intro fq
   have sH:i=ps.length:=by omega
   subst sH
   rw[List.take_length]
   refine go ?_
   ((refine ae hE Tryz.func29 rfl _ rfl (.inr ⟨_,_,hs,rfl,rfl⟩) ad))
set_option maxRecDepth 20000 in
theorem zm(A:HP)(v:Value)(b:List UInt8)(hv:eJ A v b)(hl:b.length≤900000000)(k:Int) :
  aD Tryz.prog 9 [v,.int .i64 k] [A] (fun r H=>r=(match eC b k with
   | none => .tuple #[eg Bl.zero,.int .i64 1]
   | some x => .tuple #[eg x,.int .i64 0])∧H=[A]):=by
 have oK:=hv
 obtain⟨a,c,rfl,hc⟩:=hv.2
 refine aD.enter Tryz.func9 ak rfl Tryz.ntmps9 zr zr ?_
 intro G F R hE
 refine aE rfl ?_
 refine aw zr zr zr bz ?_
 intro b4
 refine go ?_
 ((refine ai zr zr zr zr (za A _ b hv hl k) ad ?_ bG))
 rintro _ _ (⟨hn,rfl,rfl⟩|⟨ls,rv,hs,rfl,rfl⟩)
 ·have hb:eC b k=none:=by unfold eC;rw[hn];rfl
  rw[hb]at hE
  refine go ?_
  (refine aS hE ?_;apply aQ (U:=aN) hE Tryz.func9 rfl (ao.refl _);(repeat(first|exact aI.nil|apply aI.tmp rfl|apply aI.agg 1 zr zr zr zr zr));exact⟨rfl,rfl⟩;exact ad)
 ·have hb:eC b k=some ⟨dM b,b.length,k,rl ls⟩:=by unfold eC;rw[hs];rfl
  rw[hb]at hE
  have vS:=kL hs
  ((refine aJ 0 rfl ?_))
  rintro ra rc rfl
  refine go ?_
  ((refine ai zr zr zr zr (Ji A _ b hv ah) ad ?_ bG))
  rintro _ _⟨rfl,rfl⟩
  refine go ?_
  refine aG (ao.pick [1,0] rfl) ?_
  refine tV fun dK=>?_
  ((refine ai rfl rfl rfl rfl (O3 _ _ ls (dK.mono (aW (i:=0) rfl)) ah (by intro e;rw[e]at vS;simp at vS)) ad ?_ bG))
  rintro _ _⟨rfl,rfl⟩
  refine aG (ao.cB _ _) ?_
  refine go ?_
  (refine aS hE ?_;apply aQ (U:=aN) hE Tryz.func9 rfl (ao.refl _);(repeat(first|exact aI.nil|apply aI.tmp rfl|apply aI.agg 2 zr zr zr zr zr));exact⟨rfl,rfl⟩;exact ad)
attribute [local irreducible] aC
theorem oR{A:Ab}(h:Jv A)(nm:ByteArray):((e9 A nm).getD []).length≤1048576:=by
 unfold e9
 cases A.look nm with
 | none=>simp
 | some f =>
  cases A.off with
  | true=>simp
  | false=>simpa using h.now f
set_option maxRecDepth 20000 in
theorem zY(X:HP)(hK:oe X)(bs bd:Nat)(q:Int)(mb:Nat)(brk:Bool)(A:Ab)(d:Dg):aD Tryz.prog 71 [ptr bs,dV d] [ag bs (cl (ej bd q mb brk) 123),aC bd A,X]
  (fun r H=>r = .bool (jf A d)∧H=[ag bs (cl (ej bd q mb brk) 123),aC bd A,X]):=by
 have hf:=nP kB d (by decide)
 have iD := @oR A
 unfold dV at hf ⊢
 refine aD.enter Tryz.func71 ak rfl Tryz.ntmps71 zr zr ?_
 intro G F R hE
 refine aE rfl ?_
 refine bC zr zr bz ?_
 intro b3
 refine Jo (bd:=bd) (A:=A) 2 rfl ?_
 intro G0
 refine go ?_
 refine aH (U:=aN) (l:=dC d) 0 zr zr zr zr zr zr ?_
 ((refine ai zr zr zr zr (hf) ad ?_ bG))
 rintro _ _⟨rfl,rfl⟩
 ((refine ai zr zr zr zr (uU bs bd q mb brk A (du kB d)) ad ?_ bG))
 rintro _ _⟨rv,rfl,rfl⟩
 have hw:jf A d=match e9 A (du kB d)with|none=>false|some b=>decide (dM b=d):=rfl
 have iD:=oR G0 (du kB d)
 cases hb:e9 A (du kB d)with
 | none =>
  rw[hb]at hw
  rw[hw]at hE
  refine go ?_
  refine aF (fun w=>Sat G w ([])) (.st 0 (.st 1 (.st 2 (.st 4 (.act 3 (.st 5 (.st 6 (.st 7 .nil)))))))) rfl ak ak ak ei ?_
  refine go ?_
  ((refine ae hE Tryz.func71 rfl _ rfl ⟨rfl,rfl⟩ ad))
 | some b =>
  rw[hb]at hw iD
  rw[hw]at hE
  simp only[Option.getD_some,Option.isSome_some]at iD ⊢
  refine gB (bs:=b) 0 rfl ?_
  intro IX
  refine aG (ao.trans (ao.pick [0,4] rfl) (ao.bP [aB 5 1 rv b.length (bV b),X] _)) ?_
  have oL:=wA _ (hK.mono (aW (H:=[aB 5 1 rv b.length (bV b),X]) (i:=1) rfl)) rv b (IX.mono (aW (i:=0) rfl)) ah
  unfold dV at oL
  refine go ?_
  refine aF (fun w=>Sat G w ([ag b3 (cl (dC d) 35)])) (.st 0 (.st 1 (.st 2 (.st 4 (.act 3 (.st 5 (.st 6 (.st 7 .nil)))))))) rfl ak ak ak ei ?_
  refine go ?_
  refine bL (U:=aN) (l:=dC d) 0 zr zr zr zr zr zr ?_
  refine go ?_
  ((refine ai rfl rfl rfl rfl (oL) ad ?_ jg))
  rintro _ _⟨rfl,rfl⟩
  refine go ?_
  refine lx (b:=decide (dM b=d)) zr zr zr KY (fun w=>La (dM b) d w) ?_
  refine go ?_
  refine aj (ao.cB _ _) ?_
  ((refine ae hE Tryz.func71 rfl _ rfl ⟨rfl,rfl⟩ ad))
set_option maxRecDepth 20000 in
theorem HO(bs bd:Nat)(q:Int)(mb:Nat)(brk:Bool)(A:Ab)(d:Dg):aD Tryz.prog 124 [ptr bs,dV d] [ag bs (cl (ej bd q mb brk) 123),aC bd A]
  (fun r H=>∃rv,r = .tuple #[IB rv,.bool (na A d).isSome]∧H=[aB 37 66 rv ((na A d).getD []).length (((na A d).getD []).flatMap bD),ag bs (cl (ej bd q mb brk) 123),aC bd A]):=by
 have hf:=nP kI d (by decide)
 unfold dV at hf ⊢
 refine aD.enter Tryz.func124 ak rfl Tryz.ntmps124 zr zr ?_
 intro G F R hE
 refine aE rfl ?_
 refine bC zr zr bz ?_
 intro b3
 refine aw zr zr zr bz ?_
 intro b4
 refine Jo (bd:=bd) (A:=A) 3 rfl ?_
 intro G0
 refine go ?_
 refine aH (U:=aN) (l:=dC d) 1 zr zr zr zr zr zr ?_
 ((refine ai zr zr zr zr (hf) ad ?_ bG))
 rintro _ _⟨rfl,rfl⟩
 ((refine ai zr zr zr zr (uU bs bd q mb brk A (du kI d)) ad ?_ bG))
 rintro _ _⟨rv,rfl,rfl⟩
 have hw:na A d=(e9 A (du kI d)).bind yH:=rfl
 have iD:=oR G0 (du kI d)
 cases hb:e9 A (du kI d)with
 | none =>
  rw[hb]at hw
  rw[hw]at hE
  refine go ?_
  refine aj (bJ 37 66 none _) ?_
  (refine aS hE ?_;apply aQ (U:=aN) hE Tryz.func124 rfl (ao.refl _);(repeat(first|exact aI.nil|apply aI.tmp rfl|apply aI.agg 4 zr zr zr zr zr));exact⟨_,rfl,rfl⟩;exact ad)
 | some b =>
  rw[hb]at hw iD
  simp only[Option.getD_some,Option.isSome_some,Option.bind_some]at iD hw ⊢
  rw[hw]at hE
  refine gB (bs:=b) 0 rfl ?_
  intro IX
  refine go ?_
  ((refine ai zr zr zr zr (DR _ rv b IX ah) ad ?_ bG))
  rintro _ _ (⟨hn,⟨e,he,rfl⟩,rfl⟩|⟨l,lv,hs,rfl,rfl⟩)
  ·rw[hn]at hE
   unfold IB
   refine go ?_
   refine aw zr zr zr bz ?_
   intro b8
   refine go ?_
   refine aH (U:=aN) (l:=[.slice none 0 0]) 0 zr zr zr zr zr zr ?_
   refine go ?_
   ((refine az 27 ((.bool false)) rfl ((congrArg Value.bool (decide_eq_false he))) ?_))
   refine go ?_
   (refine aT ?_;(refine bZ 4 gE zr zr zr zr zr zr zr zr zr ?_))
   refine go ?_
   refine aj (bJ 37 66 none _) ?_
   (refine aS hE ?_;apply aQ (U:=aN) hE Tryz.func124 rfl (ao.refl _);(repeat(first|exact aI.nil|apply aI.tmp rfl|apply aI.agg 5 zr zr zr zr zr));exact⟨_,rfl,rfl⟩;exact ad)
  ·rw[hs]at hE
   unfold IB
   ((refine aJ 0 rfl ?_))
   rintro la lc rfl
   refine go ?_
   refine aw zr zr zr bz ?_
   intro b8
   refine go ?_
   refine aH (U:=aN) (l:=[.slice la l.length lc]) 0 zr zr zr zr zr zr ?_
   refine go ?_
   (refine aT ?_;(refine bZ 5 gE zr zr zr zr zr zr zr zr zr ?_))
   refine go ?_
   (refine aS hE ?_;apply aQ (U:=aN) hE Tryz.func124 rfl (ao.refl _);(repeat(first|exact aI.nil|apply aI.tmp rfl|apply aI.agg 5 zr zr zr zr zr));exact⟨_,rfl,rfl⟩;exact ad)
set_option maxRecDepth 20000 in
theorem Hh(X:HP)(hK:oe X)(b2 bs bd:Nat)(q:Int)(mb:Nat)(brk:Bool)(A:Ab)(y:Bl) :
  aD Tryz.prog 126 [eg y,ptr b2] [Sep [ag b2 (cl [ptr bs] 29),ag bs (cl (ej bd q mb brk) 123),aC bd A,X] ]
  (fun r H=>r = .bool (!jf A y.d)∧H=[Sep [ag b2 (cl [ptr bs] 29),ag bs (cl (ej bd q mb brk) 123),aC bd A,X] ]):=by
 have hw:=zY X hK bs bd q mb brk A y.d
 unfold dV at hw
 unfold eg
 refine aD.enter Tryz.func126 ak rfl Tryz.ntmps126 zr zr ?_
 intro G F R hE
 refine aE rfl ?_
 refine bC zr zr bz ?_
 intro b0
 refine aG (ao.trans (ao.pick [1] rfl) (ao.cB [_,_,_,_] _)) ?_
 refine go ?_
 refine dw 4 zr zr zr zr zr zr ?_
 ((refine ai zr zr zr zr (hw) ad ?_ bG))
 rintro _ _⟨rfl,rfl⟩
 refine go ?_
 refine aj (ao.trans (ao.pick [3,0,1,2] rfl) (ao.bP [_,_,_,_] _)) ?_
 ((refine ae hE Tryz.func126 rfl _ rfl ⟨rfl,rfl⟩ ad))
theorem yK{A:Ab}{d:Dg}(h:na A d=none):fM A d=false:=by unfold fM;rw[h]
theorem yJ{A:Ab}{d:Dg}{l:List Bl}(h:na A d=some l):fM A d=(decide (xM l=d) && !l.any fun y => !jf A y.d):=by
 unfold fM;rw[h]
 simp only
 congr 1
 rw[List.not_any_eq_all_not]
 simp
theorem Kr{A:Ab}{d:Dg}{l:List Bl}(h:na A d=some l):gL l=0:=by
 unfold na at h
 obtain⟨b,_,hb⟩:=Option.bind_eq_some_iff.1 h
 exact Hd hb
set_option maxRecDepth 20000 in
theorem B6(X:HP)(hK:oe X)(bs bd:Nat)(q:Int)(mb:Nat)(brk:Bool)(A:Ab)(d:Dg):aD Tryz.prog 74 [ptr bs,dV d] [ag bs (cl (ej bd q mb brk) 123),aC bd A,X]
  (fun r H=>r = .bool (fM A d)∧H=[ag bs (cl (ej bd q mb brk) 123),aC bd A,X]):=by
 have hi:=HO bs bd q mb brk A d
 unfold dV at hi ⊢
 refine aD.enter Tryz.func74 ak rfl Tryz.ntmps74 zr zr ?_
 intro G F R hE
 refine aE rfl ?_
 refine bC zr zr bz ?_
 intro b2
 refine bC zr zr bz ?_
 intro b3
 refine go ?_
 refine aH (U:=aN) (l:=dC d) 0 zr zr zr zr zr zr ?_
 ((refine ai zr zr zr zr (hi) ad ?_ bG))
 rintro _ _⟨rv,rfl,rfl⟩
 unfold IB
 ((refine aJ 0 rfl ?_))
 rintro ra rc rfl
 refine go ?_
 refine aw zr zr zr bz ?_
 intro b5
 refine go ?_
 cases Q0:na A d with
 | none =>
  rw[yK Q0]at hE
  simp only[Option.getD_none,Option.isSome_none]
  have ld:=E4 X hK (.slice ra 0 rc) [] (Vw.nil X ra rc) (by simp)
  unfold IB at ld
  rw[if_neg (by decide)]at ld
  refine aH (U:=aN) (l:=[.slice ra 0 rc]) 0 zr zr zr zr zr zr ?_
  ((refine ai zr zr zr zr (ld) ad ?_ bG))
  rintro _ _⟨rfl,rfl⟩
  unfold dV
  refine go ?_
  refine aw zr zr zr bz ?_
  intro b7
  refine go ?_
  ((refine ae hE Tryz.func74 rfl _ rfl ⟨rfl,rfl⟩ ad))
 | some l =>
  have lC:=Kr Q0
  have hlr:=oJ lC
  rw[yJ Q0]at hE
  simp only[Option.getD_some,Option.isSome_some]
  refine RI 1 rfl ?_
  intro dK jl
  refine aG (H':=Sep [aB 37 66 (.slice ra l.length rc) l.length (l.flatMap bD),X]::ag b5 (cl [.slice ra l.length rc] 174)::ag bs (cl (ej bd q mb brk) 123)::aC bd A::ag b3 (cl (dC d) 35)::ag b2 (cl [ptr bs] 29)::F) (ao.trans (H2:=aB 37 66 (.slice ra l.length rc) l.length (l.flatMap bD)::X::ag b5 (cl [.slice ra l.length rc] 174)::ag bs (cl (ej bd q mb brk) 123)::aC bd A::ag b3 (cl (dC d) 35)::ag b2 (cl [ptr bs] 29)::F) ad (ao.bP [_,_] _)) ?_
  have ld:=E4 _ (hK.mono (aW (H:=[aB 37 66 (.slice ra l.length rc) l.length (l.flatMap bD),X]) (i:=1) rfl)) _ l (dK.mono (aW (i:=0) rfl)) ah
  unfold IB at ld
  rw[if_pos lC]at ld
  refine aH (U:=aN) (l:=[.slice ra l.length rc]) 1 zr zr zr zr zr zr ?_
  ((refine ai zr zr zr zr (ld) ad ?_ bG))
  rintro _ _⟨rfl,rfl⟩
  unfold dV
  refine go ?_
  refine aw zr zr zr bz ?_
  intro b7
  refine go ?_
  refine aH (U:=aN) (l:=dC (xM l)) 0 zr zr zr zr zr zr ?_
  refine go ?_
  refine aH (U:=aN) (l:=dC d) 5 zr zr zr zr zr zr ?_
  refine go ?_
  refine lx (b:=decide (xM l=d)) zr zr zr KY (fun w=>La (xM l) d w) ?_
  by_cases j4:xM l=d
  ·rw[decide_eq_true j4]at hE ⊢
   rw[Bool.true_and]at hE
   refine go ?_
   refine aG (H':=aB 37 66 (.slice ra l.length rc) l.length (l.flatMap bD)::Sep [ag b2 (cl [ptr bs] 29),ag bs (cl (ej bd q mb brk) 123),aC bd A,X]::F) (ao.trans (ao.trans (ao.pick [1] rfl) (ao.cB [_,_] _)) (ao.trans (H2:=ag b2 (cl [ptr bs] 29)::ag bs (cl (ej bd q mb brk) 123)::aC bd A::X::aB 37 66 (.slice ra l.length rc) l.length (l.flatMap bD)::F) ad (ao.trans (ao.bP [_,_,_,_] _) ad))) ?_
   ((refine ai zr zr zr zr (pb _ (Sep [ag b2 (cl [ptr bs] 29),ag bs (cl (ej bd q mb brk) 123),aC bd A,X]) _ l dK ah 126 [ptr b2] (fun y => !jf A y.d) (fun y _=>Hh X hK b2 bs bd q mb brk A y)) ad ?_ bG))
   rintro _ _⟨rfl,rfl⟩
   refine go ?_
   refine aj (ao.trans (ao.pick [1] rfl) (ao.cB [_,_,_,_] _)) ?_
   ((refine ae hE Tryz.func74 rfl _ rfl ⟨rfl,rfl⟩ ad))
  ·rw[decide_eq_false j4]at hE ⊢
   rw[Bool.false_and]at hE
   refine go ?_
   refine aj (ao.trans (ao.pick [1] rfl) (ao.cB [_,_] _)) ?_
   ((refine ae hE Tryz.func74 rfl _ rfl ⟨rfl,rfl⟩ ad))
def Cn(g:FuncId)(fi:List Value)(Y:Ab→HP)(right:Ab→Dg→Bool):Prop:=∀(A:Ab) (d:Dg),aD Tryz.prog g (fi++[dV d]) [Y A] (fun r H=>r = .bool (right A d)∧H=[Y A])
end Go.Proofs.YtedjnjkijiddlaaGreatDoor
namespace Go.Proofs.YtedjnjkijiddlaaGreatDoor
open Go Go.SL
attribute [local irreducible] J K aD Ends ag aB aM bN aZ aP aV bh bW
theorem ET{σ:Type}(I:σ→HP)(V:HP)(v:Value)(kV:List Value)(hv:Vw V v kV.length kV)(hn:kV.length≤1000000000)(ss:List (σ→Nat→σ→Prop))(hlen:ss.length=kV.length)(Q:Nat→σ→Prop)(cF:∀(i:Nat) (fv:Value) (s:σ→Nat→σ→Prop),kV[i]?=some fv→ss[i]?=some s→∃g fi cap,fv = .func (.func g) fi cap∧∀x,Q i x→aD Tryz.prog g (fi.toList++cap.toList) [I x] (fun r H=>∃(e:Nat) (x':σ),r = .int .i64 (e:Int)∧H=[I x']∧s x e x'∧(e=0→Q (i+1) x')))(x0:σ)(hQ:Q 0 x0) :
  aD Tryz.prog 68 [v] [V,I x0] (fun r H=>∃(e:Nat) (x':σ),r = .int .i64 (e:Int)∧H=[V,I x']∧iA ss x0 e x'∧(e=0→Q kV.length x')):=by
 obtain⟨a,c,rfl⟩:=hv.shape
 refine aD.enter Tryz.func68 ak rfl Tryz.ntmps68 zr zr ?_
 intro G F R hE
 refine go ?_
 refine bu (fun y:Nat × σ=>y.1≤kV.length∧Q y.1 y.2∧∀e x',iA (ss.drop y.1) y.2 e x'→iA ss x0 e x') (fun y=>kV.length-y.1)
  (fun y=>[(0,.slice a kV.length c),(6,.slice a kV.length c),(7,.int .i64 (kV.length:Int)),(8,.int .i64 (y.1:Int))])
  (fun y=>V::I y.2::F) (0,x0) ⟨Nat.zero_le _,hQ,fun _ _ h=>h⟩ rfl cu ad ?_
 rintro⟨i,x⟩⟨hi,hq,hr⟩ ih
 simp only at hi hq hr
 refine go ?_
 refine au zr zr ?_ ?_
 ·intro cW
  simp only at cW
  have kY:i<kV.length:=by omega
  obtain⟨fv,mB⟩:∃fv,kV[i]?=some fv:=⟨kV[i],List.getElem?_eq_getElem kY⟩
  obtain⟨s,hs⟩:∃s,ss[i]?=some s:=⟨ss[i],List.getElem?_eq_getElem ah⟩
  obtain⟨g,fi,cap,rfl,hc⟩:=cF i fv s mB hs
  have lX:ss.drop i=s::ss.drop (i+1):=by
   rw[List.drop_eq_getElem_cons ah]
   congr 1
   have:=List.getElem?_eq_some_iff.1 hs
   exact this.2
  obtain⟨b0,o0,c0,pq⟩:=hv.some (by intro h;rw[h]at kY;simp at kY)
  simp only[Value.slice.injEq]at pq
  obtain⟨rfl,-,rfl⟩:=pq
  refine go ?_
  refine bK i zr zr zr zr zr zr zr zr kY ?_
  refine bg 0 i zr zr zr hv rfl mB zr zr ?_
  refine go ?_
  refine wL zr zr zr (by simp) (hc x hq) ad ?_ bG
  rintro _ _⟨e,x',rfl,rfl,Kv,PR⟩
  refine go ?_
  refine au zr zr ?_ ?_
  ·intro bT
   have he:e≠0:=by omega
   refine go ?_
   ((refine ae hE Tryz.func68 rfl _ rfl ⟨e,x',rfl,rfl,hr e x' (by rw[lX];exact⟨e,x',Kv,.inl ⟨he,rfl,rfl⟩⟩),fun h=>absurd h he⟩ ad))
  ·intro heq
   have he:e=0:=by omega
   refine go ?_
   refine aL ih (i+1,x') rfl (⟨by simp only;omega,PR he,fun e2 x2 h2=>hr e2 x2 (by rw[lX];exact⟨e,x',Kv,.inr ⟨he,h2⟩⟩)⟩) (by simp only;omega) cu ad
 ·intro fq
  simp only at fq
  have gw:i=kV.length:=by omega
  subst gw
  refine go ?_
  ((refine ae hE Tryz.func68 rfl _ rfl ⟨0,x,rfl,rfl,hr 0 x (by rw[List.drop_eq_nil_of_le ah];exact⟨rfl,rfl⟩),fun _=>hq⟩ ad))
attribute [local irreducible] Sha.chunks Sha.chunk Sha.rounds Sha.sched dM ct GI cU
theorem tT(bd:Nat)(A:Ab):aD Tryz.prog 66 [ptr bd] [aC bd A] (fun r H=>H=[aB 9 1 r (fJ A).length ((fJ A).map Value.string),aC bd A]):=by
 have hl:(fJ A).length=(dU A).length:=by unfold fJ;rw[List.length_map,uw]
 have hm:(fJ A).map Value.string=nS (pC (dU A)):=by unfold fJ nS;rw[List.map_map];rfl
 rw[hl,hm]
 exact iw (Post:=fun v H=>∃D,Rel D A∧H=[aB 9 1 v (dU A).length (nS (pC (dU A))),gS bd D]) ak (fun D hR=>(LD bd D A hR).post (fun v H h=>⟨D,hR,h⟩)) (by rintro v H⟨D',hR,rfl⟩;exact⟨_,rfl,ao.cons _ (gR hR [])⟩)
attribute [local irreducible] aC
theorem se{A:Ab}(h:Jv A):(fJ A).length≤200:=by
 unfold fJ dU
 rw[List.length_map,uw,List.length_map]
 exact h.fj _ (List.mem_cons_self ..)
def nt(bs bd:Nat)(q:Int)(mb:Nat)(brk:Bool)(X:HP)(A:Ab):HP:=Sep [ag bs (cl (ej bd q mb brk) 123),aC bd A,X]
theorem nf{A B:Ab}{nm:ByteArray}{e:Nat}(h:iU nm A e B):jV A B:=by
 have:=p8 A (isName nm) nm
 rw[← h]at this
 exact this
set_option maxRecDepth 20000 in
theorem uz(bs bd:Nat)(q:Int)(mb:Nat)(brk:Bool)(X:HP)(kind:List UInt8)(hk:kind.length≤1000)(g:FuncId)(fi:List Value)(right:Ab→Dg→Bool)(hr:Cn g fi (nt bs bd q mb brk X) right)(A:Ab)(cF:A.aq.length≤900000000) :
  aD Tryz.prog 70 [ptr bs,.string (strOf kind),.func (.func g) fi.toArray #[] ] [nt bs bd q mb brk X A]
  (fun r H=>∃(e:Nat) (B:Ab),r = .int .i64 (e:Int)∧H=[nt bs bd q mb brk X B]∧eu kind right A e B∧B.aq.length≤A.aq.length+200):=by
 refine aD.enter Tryz.func70 ak rfl Tryz.ntmps70 zr zr ?_
 intro G F R hE
 refine aj (ao.cB [_,_,_] _) ?_
 refine tU (bd:=bd) (A:=A) 1 rfl ?_
 intro G0
 have N5:=se G0
 obtain⟨l,hl⟩:∃l,l=fJ A:=⟨_,rfl⟩
 have hsd:∀e B,mg kind right l A e B→eu kind right A e B:=fun e B h=>by unfold eu;rw[← hl];exact h
 refine go ?_
 have ld:=tT bd A
 rw[← hl]at ld N5
 ((refine ai zr zr zr zr (ld) ad ?_ bG))
 rintro r _ rfl
 ((refine aJ 0 rfl ?_))
 rintro ra rc rfl
 refine iL 0 rfl ?_
 intro dK
 refine go ?_
 refine bu (fun y:Nat × Ab=>y.1≤l.length∧y.2.aq.length≤A.aq.length+y.1∧∀e B,mg kind right (l.drop y.1) y.2 e B→eu kind right A e B) (fun y=>l.length-y.1)
  (fun y=>[(0,ptr bs),(1,.string (strOf kind)),(2,.func (.func g) fi.toArray #[]),(16,.slice ra l.length rc),(17,.int .i64 (l.length:Int)),(18,.int .i64 (y.1:Int))])
  (fun y=>aB 9 1 (.slice ra l.length rc) l.length (l.map Value.string)::ag bs (cl (ej bd q mb brk) 123)::aC bd y.2::X::F) (0,A) ⟨Nat.zero_le _,by simp,hsd⟩ rfl cu ad ?_
 rintro⟨i,B⟩⟨hi,Yv,PK⟩ ih
 simp only at hi Yv PK
 dsimp only
 refine go ?_
 refine au zr zr ?_ ?_
 ·intro cW
  have gw:i<l.length:=by omega
  obtain⟨nm,hx⟩:∃x,l[i]?=some x:=⟨l[i],by simp⟩
  have lX:l.drop i=nm::l.drop (i+1):=by
   rw[List.drop_eq_getElem_cons gw]
   congr 1
   exact(List.getElem?_eq_some_iff.1 hx).2
  rw[lX]at PK
  have dL:(l.map Value.string)[i]?=some (.string nm):=by rw[List.getElem?_map,hx];rfl
  obtain⟨b,o,gD,gb⟩:=dK.some (by intro h;rw[h]at dL;simp at dL)
  simp only[Value.slice.injEq]at gb
  obtain⟨rfl,_,rfl⟩:=gb
  refine go ?_
  refine cO i 1 zr zr zr zr zr zr zr zr gw ?_
  refine aK ?_
  refine bg 0 (i*1) zr zr zr dK rfl (by rw[Nat.mul_one];exact dL) zr zr ?_
  refine go ?_
  ((refine ai zr zr zr zr (Em kind nm hk) ad ?_ bG))
  rintro _ _⟨rfl,rfl⟩
  cases hh:jx kind nm with
  | none =>
   have Kx:∀e B',mg kind right (l.drop (i+1)) B e B'→eu kind right A e B':=fun e B' h=>PK e B' (by unfold mg;rw[hh];exact h)
   simp only[En]
   unfold dV
   refine go ?_
   refine aw zr zr zr bz ?_
   intro b9
   refine go ?_
   refine aL ih (i+1,B) rfl ⟨by simp only;omega,by simp only;omega,Kx⟩ (by simp only;omega) cu ad
  | some d =>
   have NV:=hr B d
   simp only[En]
   unfold dV
   refine go ?_
   refine aw zr zr zr bz ?_
   intro b9
   refine go ?_
   refine aH (U:=aN) (l:=dC d) 0 zr zr zr zr zr zr ?_
   refine go ?_
   refine aG (ao.trans (ao.pick [2,3,4] rfl) (ao.bP [ag bs (cl (ej bd q mb brk) 123),aC bd B,X] _)) ?_
   refine wL zr zr zr (by simp;rfl) NV ad ?_ bG
   rintro _ _⟨rfl,rfl⟩
   refine aG (ao.cB [ag bs (cl (ej bd q mb brk) 123),aC bd B,X] _) ?_
   cases hri:right B d with
   | true =>
    have Kx:∀e B',mg kind right (l.drop (i+1)) B e B'→eu kind right A e B':=fun e B' h=>PK e B' (by unfold mg;rw[hh];simp only;rw[if_pos hri];exact h)
    refine go ?_
    refine aL ih (i+1,B) rfl ⟨by simp only;omega,by simp only;omega,Kx⟩ (by simp only;omega) cu ad
   | false =>
    have aan:=uZ bd B nm ah
    obtain⟨e1,B1,PO⟩:∃e1 B1,B.remove (isName nm) nm=(e1,B1):=⟨_,_,rfl⟩
    rw[PO]at aan
    have Yp:=nf (A:=B) (B:=B1) (nm:=nm) (e:=e1) PO.symm
    have Kx:∀e B',((e1≠0∧e=e1∧B'=B1)∨(e1=0∧mg kind right (l.drop (i+1)) B1 e B'))→eu kind right A e B':=fun e B' h=>PK e B' (by unfold mg;rw[hh];simp only;rw[if_neg (by rw[hri];simp)];exact⟨e1,B1,PO.symm,h⟩)
    have zL:=Yp.1
    refine go ?_
    ((refine ai zr zr zr zr (aan) ad ?_ bG))
    rintro _ _⟨rfl,rfl⟩
    refine go ?_
    refine au zr zr ?_ ?_
    ·intro bT
     have fE:e1≠0:=by simp only at bT;omega
     refine go ?_
     refine aj (H':=nt bs bd q mb brk X B1::F) (ao.trans (H2:=ag bs (cl (ej bd q mb brk) 123)::aC bd B1::X::F) ad (ao.bP [ag bs (cl (ej bd q mb brk) 123),aC bd B1,X] _)) ?_
     ((refine ae hE Tryz.func70 rfl _ rfl ⟨e1,B1,rfl,rfl,Kx e1 B1 (.inl ⟨fE,rfl,rfl⟩),ah⟩ ad))
    ·intro heq
     have oM:e1=0:=by simp only at heq;omega
     refine go ?_
     refine aL ih (i+1,B1) rfl ⟨by simp only;omega,by simp only;omega,fun e B' h=>Kx e B' (.inr ⟨oM,h⟩)⟩ (by simp only;omega) cu ad
 ·intro fq
  have sH:i=l.length:=by omega
  rw[sH,List.drop_length]at PK
  refine go ?_
  refine aj (H':=nt bs bd q mb brk X B::F) (ao.trans (H2:=ag bs (cl (ej bd q mb brk) 123)::aC bd B::X::F) ad (ao.bP [ag bs (cl (ej bd q mb brk) 123),aC bd B,X] _)) ?_
  ((refine ae hE Tryz.func70 rfl _ rfl ⟨0,B,rfl,rfl,PK 0 B (by unfold mg;exact⟨rfl,rfl⟩),ah⟩ ad))
theorem I8{P:Program}{f:FuncId}{args:List Value}{l:List HP}{p:Value→Prop}(h:aD P f args l (fun r H=>p r∧H=l)):aD P f args [Sep l] (fun r H=>p r∧H=[Sep l]) :=
 h.conv (by have:=ao.cB l [];rwa[List.append_nil]at this) (by intro v H hh;obtain⟨hp,hH⟩:=hh;exact⟨[Sep l],⟨hp,rfl⟩,by rw[hH];have:=ao.bP l [];rwa[List.append_nil]at this⟩)
theorem Gi(X:HP)(hK:oe X)(bs bd:Nat)(q:Int)(mb:Nat)(brk:Bool):Cn 71 [ptr bs] (nt bs bd q mb brk X) jf:=fun A d=>I8 (p:=fun r=>r = .bool (jf A d)) (zY X hK bs bd q mb brk A d)
theorem zx(X:HP)(hK:oe X)(bs bd:Nat)(q:Int)(mb:Nat)(brk:Bool):Cn 74 [ptr bs] (nt bs bd q mb brk X) fM:=fun A d=>I8 (p:=fun r=>r = .bool (fM A d)) (B6 X hK bs bd q mb brk A d)
theorem Gj(Y:Ab→HP):Cn 67 [] Y (fun _ _=>false):=fun A d=>by
 show aD Tryz.prog 67 [dV d] [Y A] _
 unfold dV
 refine aD.enter Tryz.func67 ak rfl Tryz.ntmps67 zr zr ?_
 intro G F R hE
 refine aE rfl ?_
 refine bC zr zr bz ?_
 intro b1
 refine go ?_
 ((refine ae hE Tryz.func67 rfl _ rfl ⟨rfl,rfl⟩ ad))
def Nb(bs bd b6 b8:Nat)(q:Int)(mb:Nat)(X:HP)(A:Ab):HP:=Sep [nt bs bd q mb false X A,ag b6 (cl [ptr bs] 29),ag b8 (cl [.func (.func 67) #[] #[] ] 120)]
theorem Ka(X:HP)(hK:oe X)(bs bd b6 b8:Nat)(q:Int)(mb:Nat)(A:Ab)(cF:A.aq.length≤900000000):aD Tryz.prog 69 [ptr b6] [Nb bs bd b6 b8 q mb X A]
  (fun r H=>∃(e:Nat) (B:Ab),r = .int .i64 (e:Int)∧H=[Nb bs bd b6 b8 q mb X B]∧eu kB jf A e B∧B.aq.length≤A.aq.length+200):=by
 refine aD.enter Tryz.func69 ak rfl Tryz.ntmps69 zr zr ?_
 intro G F R hE
 refine aj (ao.cB [_,_,_] _) ?_
 refine go ?_
 ((refine ai zr zr zr zr (uz bs bd q mb false X kB (by decide) _ [ptr bs] jf (Gi X hK bs bd q mb false) A cF) ad ?_ bG))
 rintro _ _⟨e,B,rfl,rfl,h1,h2⟩
 refine go ?_
 refine aj (ao.bP [nt bs bd q mb false X B,_,_] _) ?_
 ((refine ae hE Tryz.func69 rfl _ rfl ⟨e,B,rfl,rfl,h1,h2⟩ ad))
theorem J'(X:HP)(bs bd b6 b8:Nat)(q:Int)(mb:Nat)(A:Ab)(cF:A.aq.length≤900000000):aD Tryz.prog 72 [ptr b6,ptr b8] [Nb bs bd b6 b8 q mb X A]
  (fun r H=>∃(e:Nat) (B:Ab),r = .int .i64 (e:Int)∧H=[Nb bs bd b6 b8 q mb X B]∧eu kN (fun _ _=>false) A e B∧B.aq.length≤A.aq.length+200):=by
 refine aD.enter Tryz.func72 ak rfl Tryz.ntmps72 zr zr ?_
 intro G F R hE
 refine aj (ao.cB [_,_,_] _) ?_
 refine go ?_
 ((refine ai zr zr zr zr (uz bs bd q mb false X kN (by decide) _ [] (fun _ _=>false) (Gj _) A cF) ad ?_ bG))
 rintro _ _⟨e,B,rfl,rfl,h1,h2⟩
 refine go ?_
 refine aj (ao.bP [nt bs bd q mb false X B,_,_] _) ?_
 ((refine ae hE Tryz.func72 rfl _ rfl ⟨e,B,rfl,rfl,h1,h2⟩ ad))
theorem J9(X:HP)(hK:oe X)(bs bd b6 b8:Nat)(q:Int)(mb:Nat)(A:Ab)(cF:A.aq.length≤900000000):aD Tryz.prog 73 [ptr b6] [Nb bs bd b6 b8 q mb X A]
  (fun r H=>∃(e:Nat) (B:Ab),r = .int .i64 (e:Int)∧H=[Nb bs bd b6 b8 q mb X B]∧eu kI fM A e B∧B.aq.length≤A.aq.length+200):=by
 refine aD.enter Tryz.func73 ak rfl Tryz.ntmps73 zr zr ?_
 intro G F R hE
 refine aj (ao.cB [_,_,_] _) ?_
 refine go ?_
 ((refine ai zr zr zr zr (uz bs bd q mb false X kI (by decide) _ [ptr bs] fM (zx X hK bs bd q mb false) A cF) ad ?_ bG))
 rintro _ _⟨e,B,rfl,rfl,h1,h2⟩
 refine go ?_
 refine aj (ao.bP [nt bs bd q mb false X B,_,_] _) ?_
 ((refine ae hE Tryz.func73 rfl _ rfl ⟨e,B,rfl,rfl,h1,h2⟩ ad))
def dt(l:List (Dg × Bl)):List (Dg × Value):=l.map fun x=>(x.1,eg x.2)
theorem jL(A:Ab):(fJ A).length=A.names.length:=by unfold fJ dU;rw[List.length_map,uw,List.length_map]
set_option maxRecDepth 20000 in
theorem LB(X:HP)(hK:oe X)(bd:Nat)(q:Int)(A:Ab)(cF:A.aq.length≤800000000):aD Tryz.prog 27 [ptr bd,.int .i64 q] [aC bd A,X]
  (fun r H=>((q<1∨1073741824<q)∧r = .tuple #[.pointer none,.int .i64 1]∧H=[aC bd A,X])∨(¬(q<1∨1073741824<q)∧A.off=true∧r = .tuple #[.pointer none,.int .i64 7]∧H=[aC bd A,X]) ∨
   (¬(q<1∨1073741824<q)∧A.off=false∧∃(e:Nat) (B:Ab),qj A e B∧((e≠0∧r = .tuple #[.pointer none,.int .i64 (e:Int)]∧H=[aC bd B,X]) ∨
    (e=0∧B.aq.length≤A.aq.length+601∧∃bs mb,r = .tuple #[ptr bs,.int .i64 0]∧H=[ag bs (cl (ej bd q mb false) 123),aM dV mb (dt []),aC bd B,X])))):=by
 refine aD.enter Tryz.func27 ak rfl Tryz.ntmps27 zr zr ?_
 intro G F R hE
 refine tU (bd:=bd) (A:=A) 0 rfl ?_
 intro G0
 repeat'(first|(with_reducible intro qh)|refine gO ?_|refine iC zr zr zr zr ?_ ?_|refine au zr zr ?_ ?_|(refine ai zr zr zr zr (O' bd A) ad ?_ bG;rintro _ _⟨rfl,rfl⟩))
 ·((refine ae hE Tryz.func27 rfl _ rfl (.inl ⟨.inl ah,rfl,rfl⟩) ad))
 ·((refine ae hE Tryz.func27 rfl _ rfl (.inl ⟨.inr ah,rfl,rfl⟩) ad))
 have hq:¬(q<1∨1073741824<q):=by omega
 cases jN:A.off with
 | true =>
  refine go ?_
  ((refine ae hE Tryz.func27 rfl _ rfl (.inr (.inl ⟨hq,jN,rfl,rfl⟩)) ad))
 | false =>
  rw[jN]at hE
  refine go ?_
  refine n5 rfl bz ?_
  intro mb
  refine aG (ao.fold (B:=[_]) (A:=aM dV mb (dt [])) (fun h hs=>⟨h,sub.refl h,pL dV mb h (eN hs)⟩)) ?_
  refine go ?_
  refine bC zr zr bz ?_
  intro bs
  refine aw zr zr zr bz ?_
  intro b6
  refine go ?_
  ((refine ai zr zr zr zr (tT bd A) ad ?_ bG))
  rintro r _ rfl
  ((refine aJ 0 rfl ?_))
  rintro ra rc rfl
  refine go ?_
  refine aw zr zr zr bz ?_
  intro b8
  refine go ?_
  refine al (cs:=[.func (.func 69) #[] #[ptr b6],.func (.func 72) #[] #[ptr b6,ptr b8],.func (.func 73) #[] #[ptr b6] ]) zr zr zr zr zr zr zr zr zr bz ?_
  intro row
  refine aG (H':=ag row (cl [.func (.func 69) #[] #[ptr b6],.func (.func 72) #[] #[ptr b6,ptr b8],.func (.func 73) #[] #[ptr b6] ] 96)::Nb bs bd b6 b8 q mb X A::aM dV mb (dt [])::F) (ao.trans (H2:=ag bs (cl (ej bd q mb false) 123)::aC bd A::X::ag b6 (cl [ptr bs] 29)::ag b8 (cl [.func (.func 67) #[] #[] ] 120)::ag row (cl [.func (.func 69) #[] #[ptr b6],.func (.func 72) #[] #[ptr b6,ptr b8],.func (.func 73) #[] #[ptr b6] ] 96)::aM dV mb (dt [])::F) ad (ao.trans (ao.bP [ag bs (cl (ej bd q mb false) 123),aC bd A,X] _) (ao.trans (ao.bP [nt bs bd q mb false X A,ag b6 (cl [ptr bs] 29),ag b8 (cl [.func (.func 67) #[] #[] ] 120)] _) ad))) ?_
  have uI:∀(i:Nat) (fv:Value) (sp:Ab→Nat→Ab→Prop),[.func (.func 69) #[] #[ptr b6],.func (.func 72) #[] #[ptr b6,ptr b8],.func (.func 73) #[] #[ptr b6] ][i]?=some fv→[eu kB jf,eu kN (fun _ _=>false),eu kI fM][i]?=some sp→∃g fi cap,fv = .func (.func g) fi cap∧∀x:Ab,x.aq.length≤A.aq.length+200*i→aD Tryz.prog g (fi.toList++cap.toList) [Nb bs bd b6 b8 q mb X x] (fun r H=>∃(e:Nat) (x':Ab),r = .int .i64 (e:Int)∧H=[Nb bs bd b6 b8 q mb X x']∧sp x e x'∧(e=0→x'.aq.length≤A.aq.length+200*(i+1))):=by
   intro i fv sp hi hs
   match i,hi,hs with
   | 0,hi,hs =>
    cases hi;cases hs
    refine⟨_,_,_,rfl,fun x hx=>(Ka X hK bs bd b6 b8 q mb x ah).post ?_⟩
    rintro r H⟨e,B,rfl,rfl,h1,h2⟩
    exact⟨e,B,rfl,rfl,h1,fun _=>by omega⟩
   | 1,hi,hs =>
    cases hi;cases hs
    refine⟨_,_,_,rfl,fun x hx=>(J' X bs bd b6 b8 q mb x ah).post ?_⟩
    rintro r H⟨e,B,rfl,rfl,h1,h2⟩
    exact⟨e,B,rfl,rfl,h1,fun _=>by omega⟩
   | 2,hi,hs =>
    cases hi;cases hs
    refine⟨_,_,_,rfl,fun x hx=>(J9 X hK bs bd b6 b8 q mb x ah).post ?_⟩
    rintro r H⟨e,B,rfl,rfl,h1,h2⟩
    exact⟨e,B,rfl,rfl,h1,fun _=>by omega⟩
   | k+3,hi,hs=>simp at hi
  have eZ:=ET (Nb bs bd b6 b8 q mb X) (ag row (cl [.func (.func 69) #[] #[ptr b6],.func (.func 72) #[] #[ptr b6,ptr b8],.func (.func 73) #[] #[ptr b6] ] 96)) (.slice (some ⟨row,0,none⟩) 3 3) [.func (.func 69) #[] #[ptr b6],.func (.func 72) #[] #[ptr b6,ptr b8],.func (.func 73) #[] #[ptr b6] ] (Vw.ag rfl) (by show 3≤_;omega) [eu kB jf,eu kN (fun _ _=>false),eu kI fM] rfl (fun i x=>x.aq.length≤A.aq.length+200*i) uI A (by simp)
  ((refine ai zr zr zr zr (eZ) ad ?_ bG))
  rintro _ _⟨e,B,rfl,rfl,fm,hb⟩
  refine aG (H':=ag bs (cl (ej bd q mb false) 123)::aC bd B::X::ag b6 (cl [ptr bs] 29)::aM dV mb (dt [])::F) (ao.trans (H2:=Nb bs bd b6 b8 q mb X B::aM dV mb (dt [])::F) ad (ao.trans (ao.cB [nt bs bd q mb false X B,ag b6 (cl [ptr bs] 29),ag b8 (cl [.func (.func 67) #[] #[] ] 120)] _) (ao.trans (ao.cB [ag bs (cl (ej bd q mb false) 123),aC bd B,X] _) ad))) ?_
  by_cases he:e=0
  ·subst he
   have KU:=hb rfl
   simp only[List.length_cons,List.length_nil]at KU
   refine go ?_
   ((refine ai zr zr zr zr (tT bd B) ad ?_ bG))
   rintro r2 _ rfl
   ((refine aJ 0 rfl ?_))
   rintro ra2 rc2 rfl
   refine go ?_
   refine au zr zr ?_ ?_
   ·intro cW
    have vR:B.names.length<A.names.length:=by
     have:=jL A
     have:=jL B
     omega
    have Wu:=oY bd B
    obtain⟨e2,B2,Wv⟩:∃e2 B2,B.cf=(e2,B2):=⟨_,_,rfl⟩
    rw[Wv]at Wu
    have lT:qj A e2 B2:=⟨0,B,fm,by rw[if_pos ⟨rfl,vR⟩];exact Wv.symm⟩
    refine go ?_
    ((refine ai zr zr zr zr (Wu) ad ?_ bG))
    rintro _ _⟨rfl,rfl⟩
    refine go ?_
    refine au zr zr ?_ ?_
    ·intro bT
     have fE:e2≠0:=by simp only at bT;omega
     refine go ?_
     ((refine ae hE Tryz.func27 rfl _ rfl (.inr (.inr ⟨hq,rfl,e2,B2,lT,.inl ⟨fE,rfl,rfl⟩⟩)) ad))
    ·intro heq
     have oM:e2=0:=by simp only at heq;omega
     subst oM
     have hg:B2.aq.length≤B.aq.length+1:=by
      have h1:B2=B.cf.2:=by rw[Wv]
      rw[h1]
      exact(jP B).1
     refine go ?_
     refine aj (H':=ag bs (cl (ej bd q mb false) 123)::aM dV mb (dt [])::aC bd B2::X::F) ad ?_
     ((refine ae hE Tryz.func27 rfl _ rfl (.inr (.inr ⟨hq,rfl,0,B2,lT,.inr ⟨rfl,ah,bs,mb,rfl,rfl⟩⟩)) ad))
   ·intro fq
    have vR:¬B.names.length<A.names.length:=by
     have:=jL A
     have:=jL B
     omega
    have lT:qj A 0 B:=⟨0,B,fm,by rw[if_neg ah];exact⟨rfl,rfl⟩⟩
    refine go ?_
    refine aj (H':=ag bs (cl (ej bd q mb false) 123)::aM dV mb (dt [])::aC bd B::X::F) ad ?_
    ((refine ae hE Tryz.func27 rfl _ rfl (.inr (.inr ⟨hq,rfl,0,B,lT,.inr ⟨rfl,ah,bs,mb,rfl,rfl⟩⟩)) ad))
  ·have lT:qj A e B:=⟨e,B,fm,by rw[if_neg ah];exact⟨rfl,rfl⟩⟩
   refine go ?_
   have hd:decide ((e:Int)=0)=false:=by simp;exact he
   rw[hd]
   refine go ?_
   refine au zr zr ?_ ?_
   ·intro _
    refine go ?_
    refine aj (H':=aC bd B::X::F) ad ?_
    ((refine ae hE Tryz.func27 rfl _ rfl (.inr (.inr ⟨hq,rfl,e,B,lT,.inl ⟨he,rfl,rfl⟩⟩)) ad))
   ·intro h0
    exact absurd (by omega:e=0) he
end Go.Proofs.YtedjnjkijiddlaaGreatDoor
namespace Go.Proofs.YtedjnjkijiddlaaGreatDoor
open Go Go.SL
attribute [local irreducible] J K aD Ends ag aB aM bN aZ
section
variable{P:Program}{U:Tr}[hU:fT P U]{f:FuncId}{n:Nat}{R:Ending→World→Prop}{G:cC}{k:List Item}{L:fC}{H H':List HP}{all:Array Oper}{rest:Pl}{ty:TypeId}{pos:String}{af:Array Edge}{gd:Option (Nat × Bool)}{d:Tmp}
theorem ck{Hs:List HP}{t:TypeId}{x:Operand}{b off:Nat}{bM:Ty}{l:List Value}{e:TypeId}{cs:List Value}(i:Nat)(hd:Nat.blt d n=true)(hx:ev L x=some (.pointer (some ⟨b,off,none⟩)))(hi:cq Hs i=some (ag b (cl l e)))(ht:U.get t=some bM)(hg:bM.isAgg=true)(hv:o5 l off bM.info.size [] = .mk cs)(h:J P f n R G (fun w=>Sat G w Hs) all rest k ((d,.agg cs.toArray)::L) H):J P f n R G (fun w=>Sat G w Hs) all (.cons true true ⟨some d,.load t x,ty,pos,af,gd⟩ rest) k L H :=
 lr hd (fun a w ha hw=>by
  obtain⟨h1,h2⟩:=C1 _ _ _ _ _ hv
  simp only[List.reverse_nil,List.nil_append]at h1
  have hc:∀j v,cs[j]?=some v→w.cell? ⟨b,off+j,none⟩=some v:=fun j v hj=>by
   rw[dy (Sat.tD hw hi)]
   rw[h1,List.getElem?_take]at hj
   split at hj
   ·simpa using hj
   ·cases hj
  have:=im (P:=P) ht hg (by rw[h1];simp;omega) hc
  simp[execOp,ha.ev hx,this]) h
end
end Go.Proofs.YtedjnjkijiddlaaGreatDoor
namespace Go.Proofs.YtedjnjkijiddlaaGreatDoor
open Go Go.SL
attribute [local irreducible] J K aD Ends ag aB aM bN aZ aP aV bh bW Sha.chunks Sha.chunk Sha.rounds Sha.sched dM ct GI cU aC
section
variable{P:Program}{U:Tr}[hU:fT P U]{f:FuncId}{n:Nat}{R:Ending→World→Prop}{G:cC}{k:List Item}{L:fC}{H H':List HP}{all:Array Oper}{rest:Pl}{ty:TypeId}{pos:String}{af:Array Edge}{gd:Option (Nat × Bool)}{d:Tmp}
end
theorem RL(bs bd:Nat)(q:Int)(mb:Nat)(brk:Bool)(A:Ab)(d:Dg):aD Tryz.prog 61 [ptr bs,dV d] [ag bs (cl (ej bd q mb brk) 123),aC bd A]
  (fun r H=>r = .bool (sl A (du kB d))∧H=[ag bs (cl (ej bd q mb brk) 123),aC bd A]):=by
 have hf:=nP kB d (by decide)
 unfold dV at hf ⊢
 refine aD.enter Tryz.func61 ak rfl Tryz.ntmps61 zr zr ?_
 intro G F R hE
 refine aE rfl ?_
 refine bC zr zr bz ?_
 intro b3
 refine go ?_
 refine aH (U:=aN) (l:=dC d) 0 zr zr zr zr zr zr ?_
 ((refine ai zr zr zr zr (hf) ad ?_ bG))
 rintro _ _⟨rfl,rfl⟩
 ((refine ai zr zr zr zr (NH bs bd q mb brk A (du kB d)) ad ?_ bG))
 rintro _ _⟨rfl,rfl⟩
 refine go ?_
 ((refine ae hE Tryz.func61 rfl _ rfl ⟨rfl,rfl⟩ ad))
def pI(l:List (Dg × Bl))(x:Bl):Bool:=decide (gz l x.d=some x)
theorem qS(l:List (Dg × Bl))(d:Dg):eh (dt l) d=(gz l d).map eg:=by
 unfold dt gz eh
 induction l with
 | nil=>rfl
 | cons y l ih =>
  simp only[List.map_cons,List.find?_cons]
  by_cases h:y.1=d
  ·simp[h]
  ·simp only[h,decide_false]
   exact ih
set_option maxRecDepth 20000 in
theorem DF(bs bd:Nat)(q:Int)(mb:Nat)(brk:Bool)(l:List (Dg × Bl))(x:Bl):aD Tryz.prog 164 [ptr bs,eg x] [ag bs (cl (ej bd q mb brk) 123),aM dV mb (dt l)]
  (fun r H=>r = .bool (pI l x)∧H=[ag bs (cl (ej bd q mb brk) 123),aM dV mb (dt l)]):=by
 unfold eg
 refine aD.enter Tryz.func164 ak rfl Tryz.ntmps164 zr zr ?_
 intro G F R hE
 refine aE rfl ?_
 refine bC zr zr bz ?_
 intro b3
 refine go ?_
 refine aF (fun w=>Sat G w ([ag b3 (cl (bD x) 37),ag bs (cl (ej bd q mb brk) 123),aM dV mb (dt l)])) (.st 0 (.st 1 (.st 2 (.st 3 (.st 4 (.st 5 (.st 6 (.st 7 (.st 8 (.st 9 (.act 10 (.act 11 (.st 12 .nil))))))))))))) rfl ak ak ak ei ?_
 refine go ?_
 refine ck (U:=aN) 0 zr zr zr zr zr zr ?_
 refine go ?_
 refine qq (U:=aN) (es:=dt l) (key:=x.d) rfl QE zr zr zr zr zr zr zr (fun w hw=>hw.oN (i:=2) rfl) ?_
 rw[qS]
 cases hb:gz l x.d with
 | none =>
  simp only[Option.map_none,Option.getD_none,Option.isSome_none]
  refine go ?_
  refine aw zr zr zr (fun _ w hw=>hw.cy ad) ?_
  intro b5
  refine go ?_
  (refine aT ?_;(refine bZ 0 ei zr zr zr zr zr zr zr zr zr ?_))
  refine go ?_
  have hw:pI l x=false:=by unfold pI;rw[hb];rfl
  rw[hw]at hE
  ((refine ae hE Tryz.func164 rfl _ rfl ⟨rfl,rfl⟩ ad))
 | some y =>
  simp only[Option.map_some,Option.getD_some,Option.isSome_some]
  unfold eg
  refine go ?_
  refine aw zr zr zr (fun _ w hw=>hw.cy ad) ?_
  intro b5
  refine go ?_
  (refine aT ?_;(refine bZ 0 ei zr zr zr zr zr zr zr zr zr ?_))
  refine go ?_
  have hw:pI l x=decide (x=y):=by unfold pI;rw[hb];simp only[Option.some.injEq];rw[decide_eq_decide];exact eq_comm
  rw[hw]at hE
  (repeat(first|refine gO ?_|refine aH (U:=aN) (l:=bD x) 1 zr zr zr zr zr zr ?_|refine aH (U:=aN) (l:=bD y) 0 zr zr zr zr zr zr ?_|refine lx (b:=decide (x=y)) zr zr zr Xy (fun w=>XC x y w) ?_))
  ((refine ae hE Tryz.func164 rfl _ rfl ⟨rfl,rfl⟩ ad))
def oE(brk:Bool)(l:List (Dg × Bl))(x:Bl):Nat:=if brk then 10 else if pI l x then 0 else 4
set_option maxRecDepth 20000 in
theorem tn(bs bd:Nat)(q:Int)(mb:Nat)(brk:Bool)(l:List (Dg × Bl))(x:Bl):aD Tryz.prog 100 [ptr bs,eg x] [ag bs (cl (ej bd q mb brk) 123),aM dV mb (dt l)]
  (fun r H=>r = .int .i64 (oE brk l x:Int)∧H=[ag bs (cl (ej bd q mb brk) 123),aM dV mb (dt l)]):=by
 have ho:=DF bs bd q mb brk l x
 unfold eg at ho ⊢
 refine aD.enter Tryz.func100 ak rfl Tryz.ntmps100 zr zr ?_
 intro G F R hE
 refine aE rfl ?_
 refine bC zr zr bz ?_
 intro b3
 cases brk with
 | true =>
  refine go ?_
  ((refine ae hE Tryz.func100 rfl _ rfl ⟨rfl,rfl⟩ ad))
 | false =>
  refine go ?_
  refine aH (U:=aN) (l:=bD x) 0 zr zr zr zr zr zr ?_
  ((refine ai zr zr zr zr (ho) ad ?_ bG))
  rintro _ _⟨rfl,rfl⟩
  cases hob:pI l x with
  | true =>
   have hm:oE false l x=0:=by unfold oE;rw[hob];rfl
   rw[hm]at hE
   refine go ?_
   ((refine ae hE Tryz.func100 rfl _ rfl ⟨rfl,rfl⟩ ad))
  | false =>
   have hm:oE false l x=4:=by unfold oE;rw[hob];rfl
   rw[hm]at hE
   refine go ?_
   ((refine ae hE Tryz.func100 rfl _ rfl ⟨rfl,rfl⟩ ad))
theorem kR(bs bd:Nat)(q:Int)(mb:Nat)(brk:Bool)(Y:HP)(V:HP)(v:Value)(kV:List Value)(hv:Vw V v kV.length kV)(hn:kV.length≤1000000000)(ss:List Ba)(hlen:ss.length=kV.length)(Q:Nat→Ab→Prop)(cF:∀(i:Nat) (fv:Value) (s:Ba),kV[i]?=some fv→ss[i]?=some s→∃g fi cap,fv = .func (.func g) fi cap∧∀x,Q i x→aD Tryz.prog g (fi.toList++cap.toList) [nt bs bd q mb brk Y x] (fun r H=>∃(e:Nat) (x':Ab),r = .int .i64 (e:Int)∧H=[nt bs bd q mb brk Y x']∧s x e x'∧(e=0→Q (i+1) x')))(A:Ab)(hQ:Q 0 A) :
  aD Tryz.prog 87 [ptr bs,v] [V,nt bs bd q mb brk Y A]
   (fun r H=>∃(e:Nat) (B:Ab),r = .int .i64 (e:Int)∧H=[V,nt bs bd q mb (brk || decide (e≠0)) Y B]∧iA ss A e B∧(e=0→Q kV.length B)):=by
 have eZ:=ET (nt bs bd q mb brk Y) V v kV hv hn ss hlen Q cF A hQ
 obtain⟨a,c,rfl⟩:=hv.shape
 refine aD.enter Tryz.func87 ak rfl Tryz.ntmps87 zr zr ?_
 intro G F R hE
 refine go ?_
 ((refine ai zr zr zr zr (eZ) ad ?_ bG))
 rintro _ _⟨e,B,rfl,rfl,fm,hb⟩
 refine aG (ao.trans (ao.pick [1] rfl) (ao.cB [ag bs (cl (ej bd q mb brk) 123),aC bd B,Y] _)) ?_
 have ln:ao (ag bs (cl (ej bd q mb (brk || decide (e≠0))) 123)::aC bd B::Y::V::F) (V::nt bs bd q mb (brk || decide (e≠0)) Y B::F) :=
  ao.trans (ao.bP [ag bs (cl (ej bd q mb (brk || decide (e≠0))) 123),aC bd B,Y] _) ad
 cases brk with
 | true =>
  refine go ?_
  refine aj (ao.trans ad ln) ?_
  ((refine ae hE Tryz.func87 rfl _ rfl ⟨e,B,rfl,rfl,fm,hb⟩ ad))
 | false =>
  refine go ?_
  have KT:decide ((e:Int)≠0)=(false || decide (e≠0)):=by by_cases h:e=0 <;> simp[h]
  rw[KT]
  refine aj (ao.trans ad ln) ?_
  ((refine ae hE Tryz.func87 rfl _ rfl ⟨e,B,rfl,rfl,fm,hb⟩ ad))
end Go.Proofs.YtedjnjkijiddlaaGreatDoor
namespace Go.Proofs.YtedjnjkijiddlaaGreatDoor
open Go Go.SL
theorem yI{P:Program}{f:FuncId}{args:List Value}{Pre:List HP}{Post:Value→List HP→Prop}(X:List HP)(c:aD P f args Pre Post):aD P f args (Pre++X) (fun v H=>∃H',Post v H'∧H=H'++X) :=
 ⟨c.1,fun G w F hw=>(c.2 G w (X++F) (by rw[List.append_assoc]at hw;exact hw)).mono fun e w' h'=>let ⟨v,H,he,QR,hs⟩:=h';⟨v,H++X,he,⟨H,QR,rfl⟩,by rw[List.append_assoc];exact hs⟩⟩
attribute [local irreducible] J K aD Ends ag aB aM bN aZ aP aV bh bW Sha.chunks Sha.chunk Sha.rounds Sha.sched dM ct GI cU aC
theorem oq(bs bd:Nat)(q:Int)(mb:Nat)(brk:Bool)(Xs:List HP)(A:Ab)(F:List HP):ao (nt bs bd q mb brk (Sep Xs) A::F) (ag bs (cl (ej bd q mb brk) 123)::aC bd A::(Xs++F)) :=
 ao.trans (ao.cB [ag bs (cl (ej bd q mb brk) 123),aC bd A,Sep Xs] F) (ao.cons _ (ao.cons _ (ao.cB Xs F)))
theorem uu(bs bd:Nat)(q:Int)(mb:Nat)(brk:Bool)(Xs:List HP)(A:Ab)(F:List HP):ao (ag bs (cl (ej bd q mb brk) 123)::aC bd A::(Xs++F)) (nt bs bd q mb brk (Sep Xs) A::F) :=
 ao.trans (ao.cons _ (ao.cons _ (ao.bP Xs F))) (ao.bP [ag bs (cl (ej bd q mb brk) 123),aC bd A,Sep Xs] F)
theorem oO{f:FuncId}{args:List Value}{bs bd:Nat}{q:Int}{mb:Nat}{brk:Bool}{Xs:List HP}{A:Ab}{p:Nat→Ab→Prop}(h:aD Tryz.prog f args (ag bs (cl (ej bd q mb brk) 123)::aC bd A::Xs) (fun r H=>∃(e:Nat) (B:Ab),r = .int .i64 (e:Int)∧H=ag bs (cl (ej bd q mb brk) 123)::aC bd B::Xs∧p e B)) :
  aD Tryz.prog f args [nt bs bd q mb brk (Sep Xs) A] (fun r H=>∃(e:Nat) (B:Ab),r = .int .i64 (e:Int)∧H=[nt bs bd q mb brk (Sep Xs) B]∧p e B) :=
 h.conv (by have:=oq bs bd q mb brk Xs A [];rwa[List.append_nil]at this) (by
  rintro v H⟨e,B,rfl,rfl,hp⟩
  exact⟨_,⟨e,B,rfl,rfl,hp⟩,by have:=uu bs bd q mb brk Xs B [];rwa[List.append_nil]at this⟩)
theorem uP(x:Bl):aD Tryz.prog 63 [.string (strOf kS),.agg (dC x.d).toArray] [] (fun r H=>r = .string (fS x)∧H=[]):=by
 have:=nP kS x.d (by decide)
 unfold dV at this
 exact this
theorem JH(bs bd b2 b3:Nat)(q:Int)(mb:Nat)(brk:Bool)(x:Bl)(A:Ab)(eH:A.writes.length≤1000000000) :
  aD Tryz.prog 103 [ptr b2,ptr b3] (ag bs (cl (ej bd q mb brk) 123)::aC bd A::[ag b2 (cl [ptr bs] 29),ag b3 (cl (bD x) 37)])
   (fun r H=>∃(e:Nat) (B:Ab),r = .int .i64 (e:Int)∧H=ag bs (cl (ej bd q mb brk) 123)::aC bd B::[ag b2 (cl [ptr bs] 29),ag b3 (cl (bD x) 37)]∧eX (fS x) A e B):=by
 refine aD.enter Tryz.func103 ak rfl Tryz.ntmps103 zr zr ?_
 intro G F R hE
 refine go ?_
 refine aF (fun w=>Sat G w ([ag bs (cl (ej bd q mb brk) 123),ag b2 (cl [ptr bs] 29),ag b3 (cl (bD x) 37)])) (.st 0 (.st 1 (.st 2 (.st 3 (.st 4 (.st 5 (.act 6 (.act 7 (.st 8 .nil))))))))) rfl ak ak ak ei ?_
 refine go ?_
 refine ck (U:=aN) 2 zr zr zr zr zr zr ?_
 refine go ?_
 ((refine ai rfl rfl rfl rfl (uP x) ad ?_ jg))
 rintro _ _⟨rfl,rfl⟩
 refine go ?_
 ((refine ai rfl rfl rfl rfl (tO bd A (fS x) eH) ad ?_ jg))
 rintro _ _⟨rfl,rfl⟩
 refine go ?_
 ((refine ae hE Tryz.func103 rfl _ rfl ⟨_,_,rfl,rfl,rfl⟩ ad))
theorem Hw(bs bd b2 b3:Nat)(q:Int)(mb:Nat)(brk:Bool)(x:Bl)(A:Ab)(cF:A.aq.length≤1000000000) :
  aD Tryz.prog 113 [ptr b2,ptr b3] (ag bs (cl (ej bd q mb brk) 123)::aC bd A::[ag b2 (cl [ptr bs] 29),ag b3 (cl (bD x) 37)])
   (fun r H=>∃(e:Nat) (B:Ab),r = .int .i64 (e:Int)∧H=ag bs (cl (ej bd q mb brk) 123)::aC bd B::[ag b2 (cl [ptr bs] 29),ag b3 (cl (bD x) 37)]∧iU (fS x) A e B):=by
 refine aD.enter Tryz.func113 ak rfl Tryz.ntmps113 zr zr ?_
 intro G F R hE
 refine go ?_
 refine aF (fun w=>Sat G w ([ag bs (cl (ej bd q mb brk) 123),ag b2 (cl [ptr bs] 29),ag b3 (cl (bD x) 37)])) (.st 0 (.st 1 (.st 2 (.st 3 (.st 4 (.st 5 (.act 6 (.act 7 (.st 8 .nil))))))))) rfl ak ak ak ei ?_
 refine go ?_
 refine ck (U:=aN) 2 zr zr zr zr zr zr ?_
 refine go ?_
 ((refine ai rfl rfl rfl rfl (uP x) ad ?_ jg))
 rintro _ _⟨rfl,rfl⟩
 refine go ?_
 ((refine ai rfl rfl rfl rfl (uZ bd A (fS x) cF) ad ?_ jg))
 rintro _ _⟨rfl,rfl⟩
 refine go ?_
 ((refine ae hE Tryz.func113 rfl _ rfl ⟨_,_,rfl,rfl,rfl⟩ ad))
theorem Kd(bs bd b2 b4:Nat)(q:Int)(mb:Nat)(brk:Bool)(o:ByteArray)(A:Ab)(eH:A.writes.length≤1000000000) :
  aD Tryz.prog 171 [ptr b2,ptr b4] (ag bs (cl (ej bd q mb brk) 123)::aC bd A::[ag b2 (cl [ptr bs] 29),ag b4 (cl [.string o] 9)])
   (fun r H=>∃(e:Nat) (B:Ab),r = .int .i64 (e:Int)∧H=ag bs (cl (ej bd q mb brk) 123)::aC bd B::[ag b2 (cl [ptr bs] 29),ag b4 (cl [.string o] 9)]∧eX o A e B):=by
 refine aD.enter Tryz.func171 ak rfl Tryz.ntmps171 zr zr ?_
 intro G F R hE
 refine go ?_
 refine aF (fun w=>Sat G w ([ag bs (cl (ej bd q mb brk) 123),ag b2 (cl [ptr bs] 29),ag b4 (cl [.string o] 9)])) (.st 0 (.st 1 (.st 2 (.st 3 (.st 4 (.act 5 (.st 6 .nil))))))) rfl ak ak ak ei ?_
 refine go ?_
 ((refine ai rfl rfl rfl rfl (tO bd A o eH) ad ?_ jg))
 rintro _ _⟨rfl,rfl⟩
 refine go ?_
 ((refine ae hE Tryz.func171 rfl _ rfl ⟨_,_,rfl,rfl,rfl⟩ ad))
theorem Kc(bs bd b2 b4 b5:Nat)(q:Int)(mb:Nat)(brk:Bool)(o n:ByteArray)(A:Ab)(cF:A.aq.length≤1000000000) :
  aD Tryz.prog 172 [ptr b2,ptr b4,ptr b5] (ag bs (cl (ej bd q mb brk) 123)::aC bd A::[ag b2 (cl [ptr bs] 29),ag b4 (cl [.string o] 9),ag b5 (cl [.string n] 9)])
   (fun r H=>∃(e:Nat) (B:Ab),r = .int .i64 (e:Int)∧H=ag bs (cl (ej bd q mb brk) 123)::aC bd B::[ag b2 (cl [ptr bs] 29),ag b4 (cl [.string o] 9),ag b5 (cl [.string n] 9)]∧kH o n A e B):=by
 refine aD.enter Tryz.func172 ak rfl Tryz.ntmps172 zr zr ?_
 intro G F R hE
 refine go ?_
 refine aF (fun w=>Sat G w ([ag bs (cl (ej bd q mb brk) 123),ag b2 (cl [ptr bs] 29),ag b4 (cl [.string o] 9),ag b5 (cl [.string n] 9)])) (.st 0 (.st 1 (.st 2 (.st 3 (.st 4 (.st 5 (.act 6 (.st 7 .nil)))))))) rfl ak ak ak ei ?_
 refine go ?_
 refine lH 3 zr zr zr zr zr zr ?_
 refine go ?_
 ((refine ai rfl rfl rfl rfl (Bb bd A o n cF) ad ?_ jg))
 rintro _ _⟨rfl,rfl⟩
 refine go ?_
 ((refine ae hE Tryz.func172 rfl _ rfl ⟨_,_,rfl,rfl,rfl⟩ ad))
theorem Ho(bs bd b2 b7:Nat)(q:Int)(mb:Nat)(brk:Bool)(n:ByteArray)(A:Ab)(cF:A.aq.length≤1000000000) :
  aD Tryz.prog 88 [ptr b2,ptr b7] (ag bs (cl (ej bd q mb brk) 123)::aC bd A::[ag b2 (cl [ptr bs] 29),ag b7 (cl [.string n] 9)])
   (fun r H=>∃(e:Nat) (B:Ab),r = .int .i64 (e:Int)∧H=ag bs (cl (ej bd q mb brk) 123)::aC bd B::[ag b2 (cl [ptr bs] 29),ag b7 (cl [.string n] 9)]∧ij n A e B):=by
 refine aD.enter Tryz.func88 ak rfl Tryz.ntmps88 zr zr ?_
 intro G F R hE
 refine go ?_
 refine aF (fun w=>Sat G w ([ag bs (cl (ej bd q mb brk) 123),ag b2 (cl [ptr bs] 29),ag b7 (cl [.string n] 9)])) (.st 0 (.st 1 (.st 2 (.st 3 (.st 4 (.act 5 (.st 6 .nil))))))) rfl ak ak ak ei ?_
 refine go ?_
 ((refine ai rfl rfl rfl rfl (u4 bd A n cF) ad ?_ (fun _ _ w hp hw=>by obtain⟨f,hf,rfl,rfl⟩:=hp;exact hw.cy ad)))
 rintro _ _⟨f,hf,rfl,rfl⟩
 refine go ?_
 ((refine ae hE Tryz.func88 rfl _ rfl ⟨_,_,rfl,rfl,⟨f,hf,rfl⟩⟩ ad))
theorem J0(bs bd b4 b5 ER b7:Nat)(q:Int)(mb:Nat)(brk:Bool)(x:Bl)(at_:Int)(X:HP)(bv:Value)(b:List UInt8)(hv:Vw X bv b.length (bV b))(A:Ab)(eH:A.writes.length≤1000000000)(iD:b.length≤1000000000)(PY:0≤at_∧at_≤9223372036854775807) :
  aD Tryz.prog 101 [ptr b4,ptr b5,ptr ER,ptr b7] (ag bs (cl (ej bd q mb brk) 123)::aC bd A::[ag b4 (cl [ptr bs] 29),ag b5 (cl (bD x) 37),ag ER (cl [.int .i64 at_] 3),ag b7 (cl [bv] 22),X])
   (fun r H=>∃(e:Nat) (B:Ab),r = .int .i64 (e:Int)∧H=ag bs (cl (ej bd q mb brk) 123)::aC bd B::[ag b4 (cl [ptr bs] 29),ag b5 (cl (bD x) 37),ag ER (cl [.int .i64 at_] 3),ag b7 (cl [bv] 22),X]∧fz (fS x) at_.toNat b A e B):=by
 obtain⟨a,c,rfl⟩:=hv.shape
 have hmw:fK (fS x) at_ b=fK (fS x) at_.toNat b:=by rw[Int.toNat_of_nonneg PY.1]
 have hw:=tN bd A (fS x) at_ X _ b hv eH iD ⟨ah,PY.2⟩
 rw[hmw]at hw
 refine aD.enter Tryz.func101 ak rfl Tryz.ntmps101 zr zr ?_
 intro G F R hE
 refine go ?_
 refine aF (fun w=>Sat G w ([ag bs (cl (ej bd q mb brk) 123),ag b4 (cl [ptr bs] 29),ag b5 (cl (bD x) 37),ag ER (cl [.int .i64 at_] 3),ag b7 (cl [.slice a b.length c] 22)])) (.st 0 (.st 1 (.st 2 (.st 3 (.st 4 (.st 5 (.st 7 (.st 8 (.act 6 (.act 9 (.st 10 .nil))))))))))) rfl ak ak ak ei ?_
 refine go ?_
 refine ck (U:=aN) 2 zr zr zr zr zr zr ?_
 refine go ?_
 refine lH 3 zr zr zr zr zr zr ?_
 refine go ?_
 refine lH 4 zr zr zr zr zr zr ?_
 refine go ?_
 ((refine ai rfl rfl rfl rfl (uP x) ad ?_ jg))
 rintro _ _⟨rfl,rfl⟩
 refine go ?_
 ((refine ai rfl rfl rfl rfl (hw) ad ?_ jg))
 rintro _ _⟨rfl,rfl⟩
 refine go ?_
 ((refine ae hE Tryz.func101 rfl _ rfl ⟨_,_,rfl,rfl,rfl⟩ ad))
theorem Ir(bs bd:Nat)(q:Int)(mb:Nat)(brk:Bool)(Xs:List HP)(A:Ab):aD Tryz.prog 75 [ptr bd] [nt bs bd q mb brk (Sep Xs) A]
  (fun r H=>∃(e:Nat) (B:Ab),r = .int .i64 (e:Int)∧H=[nt bs bd q mb brk (Sep Xs) B]∧dE A e B) :=
 oO ((yI (ag bs (cl (ej bd q mb brk) 123)::Xs) (oY bd A)).conv (ao.perm (List.Perm.swap ..)) (by
  rintro v H⟨H1,⟨rfl,rfl⟩,rfl⟩
  exact⟨_,⟨_,_,rfl,rfl,rfl⟩,ao.perm (List.Perm.swap ..)⟩))
end Go.Proofs.YtedjnjkijiddlaaGreatDoor
