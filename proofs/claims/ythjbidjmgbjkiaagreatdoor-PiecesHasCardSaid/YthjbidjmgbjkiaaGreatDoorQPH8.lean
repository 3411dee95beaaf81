/- Texts of one claim, joined: Te, Dj, Dk, Dl, EngZ, EngVi, EngV2, Gs0, Gg1, Bb, Hd. -/
import Derived.Test.YthjbidjmgbjkiaaGreatDoorQPH3
import Derived.Test.YthjbidjmgbjkiaaGreatDoorQPH5
import Derived.Test.YthjbidjmgbjkiaaGreatDoorQPH6
import Derived.Test.YthjbidjmgbjkiaaGreatDoorQPH7
import Derived.ProofKit
import Derived.Below
import Derived.Shelf.SortG.Plain
import Derived.Shelf.SortG.SortNone
import Derived.Test.YthjbidjmgbjkiaaGreatDoorChecked
set_option linter.unusedSectionVars false
set_option linter.unusedSimpArgs false
set_option linter.unusedVariables false
namespace Go.Proofs.YthjbidjmgbjkiaaGreatDoor
open Go Go.SL
attribute [local irreducible] J K aD Ends ag az aL bK aZ aQ aV bg bQ
theorem lr{P:Program}{f:FuncId}{n:Nat}{R:Ending→World→Prop}{G:cm}{k:List Item}{L:eN}{H:List HP}{e:TypeId}{sz nn c:Nat}{a:Option Addr}{cs:List Value}(i:Nat)(hi:cf H i=some (az e sz (.slice a nn c) nn cs))(h:nn≤c→K P f n R G k L H):K P f n R G k L H :=
 qj fun⟨w,hw⟩=>by
  obtain⟨h1,_,hA⟩:=hw.j7 hi
  exact h (Fz hA)
set_option maxRecDepth 20000 in
theorem lZ(X:HP)(v:Value)(l:List It)(hv:sE X v l)(hl:l.length≤100)(hr:eT 0 (l.map It.p)=true)(hs:(eo (l.map It.p)).length≤65536) :
    aD Tryz.prog 143 [v] [X] (fun r H=>∃rv,r = .tuple #[rv,.int .i64 0]∧H=[az 5 1 rv (eo (l.map It.p)).length (bV (eo (l.map It.p))),X]):=by
  obtain⟨dj,SH⟩:=hv
  obtain⟨a,c,rfl⟩:=dj.shape
  refine aD.enter Tryz.func143 ak rfl Tryz.ntmps143 zr zr ?_
  intro G F R hE
  refine go ?_
  refine aj (bw 5 1 none _) ?_
  refine bo (fun y:Nat × List UInt8 × Option Addr × Nat=>y.1≤l.length∧y.2.1=eo ((l.map It.p).take y.1)) (fun y=>l.length-y.1)
    (fun y=>[(4,.slice y.2.2.1 y.2.1.length y.2.2.2),(5,.int .i64 (mC (l.map It.p) y.1)),(8,.slice a l.length c),(9,.int .i64 (l.length:Int)),(10,.int .i64 (y.1:Int))])
    (fun y=>az 5 1 (.slice y.2.2.1 y.2.1.length y.2.2.2) y.2.1.length (bV y.2.1)::X::F) (0,[],none,0) ⟨Nat.zero_le _,rfl⟩ rfl bY ad ?_
  rintro⟨i,acc,a1,c1⟩⟨hi,uA⟩ ih
  simp only at hi uA
  have MQ:=ys (l.map It.p) i
  rw[← uA]at MQ
  refine go ?_
  refine aw zr zr ?_ ?_
  case' refine_2 =>
    intro eQ
    simp only at eQ
    have fN:acc=eo (l.map It.p):=by rw[uA,List.take_of_length_le (by rw[List.length_map];omega)]
    subst fN
    refine go ?_
    ((refine ae hE Tryz.func143 rfl _ rfl ⟨_,rfl,rfl⟩ ad))
  intro cO
  simp only at cO
  have fU:i<l.length:=by omega
  obtain⟨x,hx⟩:∃x,l[i]?=some x:=⟨l[i],by simp⟩
  have ME:(l.map It.p)[i]?=some x.p:=by rw[List.getElem?_map,hx];rfl
  obtain⟨uw,rG⟩:=J2 _ 0 i x.p hr ME
  have uw:mC (l.map It.p) i<x.n:=uw
  have rG:x.n≤63:=rG
  have qC:=vK ME
  have uz:=SH x (List.mem_of_getElem? hx)
  obtain⟨xn,xv,xb⟩:=x
  simp only at uw rG uz
  have qC:mC (l.map It.p) (i+1)=xn:=qC
  obtain⟨xa,xc,rfl,ZG⟩:=uz.2
  have ht:eo ((l.map It.p).take (i+1))=acc++lQ (xn,xb):=by
    rw[List.take_add_one,ME,Option.toList_some,Bm,← uA];simp[eo,It.p]
  have aaW:=ys (l.map It.p) (i+1)
  rw[ht,List.length_append]at aaW
  have H7:(lQ (xn,xb)).length=1+(uv xb.length).length+xb.length:=by simp only[lQ,List.length_cons,List.length_append];omega
  obtain⟨b,o,c',he⟩:=dj.some (by rw[← List.length_pos_iff,bZ im];omega)
  simp only[Value.slice.injEq,true_and]at he
  obtain⟨rfl,rfl⟩:=he
  refine go ?_
  refine eE (U:=ao) i 2 zr zr zr zr zr zr zr zr fU ?_
  refine cQ (U:=ao) (es:=kG ⟨xn,.slice xa xb.length xc,xb⟩) 1 (i*2) zr zr zr dj rfl (fun j v hj=>?_) zr zr zr ?_
  · have xq:j<2:=by
      rcases Nat.lt_or_ge j 2 with h|h
      · exact h
      · rw[List.getElem?_eq_none (by rw[im];exact h)]at hj;cases hj
    rw[cF im hx j xq];exact hj
  refine aN (U:=ao) zr zr zr bp ?_
  intro bd
  repeat'(first|(with_reducible intro nT)|refine fk ?_|refine gN zr zr zr zr ?_ ?_|refine aw zr zr ?_ ?_)
  any_goals (exfalso;simp only at *;omega)
  rename_i h1 h2 h3
  simp only at h1 h2 h3
  obtain⟨xm,rfl⟩:∃m:Nat,xn=m:=⟨xn.toNat,by
    have:0<xn:=J1 _ 0 hr (Int.le_refl _) _ (List.mem_of_getElem? ME)
    omega⟩
  refine go ?_
  refine aF (fun w=>Sat G w ([X,ag bd (cl [.int .i64 (xm:Int),.slice xa xb.length xc] 187)])) (.st 0 (.st 1 (.st 2 (.st 5 (.st 6 (.st 7 (.st 8 (.st 11 (.st 12 (.act 3 (.act 4 (.act 9 (.act 10 (.act 13 (.st 14 .nil))))))))))))))) rfl ak ak ak (fun w hw=>hw.aX ad) ?_
  refine C1 (U:=ao) rfl ?_
  refine dW ?_
  refine jJ (U:=ao) zr zr zr zr zr zr ?_
  ((refine aB 36 ((u8 (UInt8.ofNat xm))) rfl ((kA xm)) ?_))
  refine go ?_
  refine au (U:=ao) (cs:=bV [UInt8.ofNat xm]) zr zr zr zr zr zr zr zr zr (fun _ w hw=>hw.aX ad) ?_
  intro row
  refine go ?_
  refine bh (U:=ao) (mm:=1) (news:=bV [UInt8.ofNat xm]) 2 0 zr zr zr zr zr zr zr zr zr zr zr zr (Vw.ag rfl) rfl (cC _) (by simp only;omega) (by show(_+_)*1≤_;simp only;omega) (fun _=>rfl) (fun _ w hw=>hw.aX ad) ?_
  intro v1
  simp only
  rw[show bV acc++bV [UInt8.ofNat xm]=bV (acc++[UInt8.ofNat xm])from by simp[bV],show acc.length+1=(acc++[UInt8.ofNat xm]).length from by simp]
  ((refine aM 2 rfl ?_))
  rintro a2 c2 rfl
  refine go ?_
  ((refine ah rfl rfl rfl rfl (ll xb.length ai) ad ?_ (fun _ _ w hp hw=>by obtain rfl:=hp;exact hw.aX ad)))
  rintro r _ rfl
  ((refine aM 0 rfl ?_))
  rintro ra rc rfl
  refine iu 0 rfl ?_
  intro Jt
  refine go ?_
  refine bh (U:=ao) (mm:=(uv xb.length).length) (news:=bV (uv xb.length)) 3 0 zr zr zr zr zr zr zr zr zr zr zr zr Jt (by show _=_*1;rw[bt];omega) (cC _) (by simp only[List.length_append,List.length_singleton];omega) (by show(_+_)*1≤_;simp only[List.length_append,List.length_singleton];omega) (fun _=>rfl) (fun _ w hw=>hw.aX ad) ?_
  intro v2
  rw[show bV (acc++[UInt8.ofNat xm])++bV (uv xb.length)=bV (acc++[UInt8.ofNat xm]++uv xb.length)from by simp[bV],show(acc++[UInt8.ofNat xm]).length+(uv xb.length).length=(acc++[UInt8.ofNat xm]++uv xb.length).length from by simp;omega]
  ((refine aM 3 rfl ?_))
  rintro a3 c3 rfl
  refine go ?_
  refine bh (U:=ao) (mm:=xb.length) (news:=bV xb) 3 4 zr zr zr zr zr zr zr zr zr zr zr zr uz.1 (by show _=_*1;rw[bt];omega) (cC _) (by simp only[List.length_append,List.length_singleton];omega) (by show(_+_)*1≤_;simp only[List.length_append,List.length_singleton];omega) (fun _=>rfl) (fun _ w hw=>hw.aX ad) ?_
  intro v3
  rw[show bV (acc++[UInt8.ofNat xm]++uv xb.length)++bV xb=bV (acc++lQ (xm,xb))from by simp[bV,lQ],show(acc++[UInt8.ofNat xm]++uv xb.length).length+xb.length=(acc++lQ (xm,xb)).length from by simp[lQ];omega]
  ((refine aM 3 rfl ?_))
  rintro a4 c4 rfl
  refine go ?_
  refine aw zr zr ?_ ?_
  · intro rL;exfalso;simp only[List.length_append]at rL;omega
  intro _
  refine go ?_
  ((refine bj 5 ((.int .i64 (mC (l.map It.p) (i+1)))) rfl ((congrArg (Value.int .i64) qC.symm)) ?_))
  refine aO ih (i+1,acc++lQ (xm,xb),a4,c4) rfl ⟨by simp only;omega,by simp only;rw[ht]⟩ (by simp only;omega) bY ad
theorem HF(v:Value)(h1:∃a n c,v = .slice a n c):aD Tryz.prog 210 [v] [] (fun r H=>∃b,r = .func (.func 232) #[] #[ptr b]∧H=[ag b (cl [v] 39)]):=by
 obtain⟨a,n,c,rfl⟩:=h1
 refine aD.enter Tryz.func210 ak rfl Tryz.ntmps210 zr zr ?_
 intro G F R hE
 refine go ?_
 refine bq zr zr bp ?_
 intro b
 refine go ?_
 ((refine ae hE Tryz.func210 rfl _ rfl ⟨b,rfl,rfl⟩ ad))
set_option maxRecDepth 20000 in
set_option maxHeartbeats 1000000 in
theorem El(A:HP)(bx:Nat)(v:Value)(bs:List UInt8)(hv:dR A v bs)(hl:bs.length≤1000000000)(l:Nat)(Lp LpD X':HP)(Inv:Nat→HP)(v8:Nat→Bool)(hy:∀i x,(eg bs)[i]?=some x→(∀j,j<i→v8 j=true)→∀r,(∃a n c,r = .slice a n c)→bQ Tryz.prog l [.agg #[.int .i64 x.1,r] ] [Lp,Inv i,az 5 1 r x.2.length (bV x.2)]
      (fun v H=>(v8 i=true∧v = .bool true∧H=[Lp,Inv (i+1)])∨(v8 i=false∧v = .bool false∧H=[LpD,X']))) :
    aD Tryz.prog 232 [.func (.yield l) #[] #[],ptr bx] [Lp,Inv 0,ag bx (cl [v] 39),A]
      (fun _ H=>((∀i,i<(eg bs).length→v8 i=true)∧H=[Lp,Inv (eg bs).length,A])∨((∃i,i<(eg bs).length∧v8 i=false)∧H=[LpD,X',A])):=by
  refine aD.enter Tryz.func232 ak rfl Tryz.ntmps232 zr zr ?_
  intro G F R hE
  refine bo (fun y:Value × List UInt8 × Nat=>dR A y.1 y.2.1∧y.2.1.length≤bs.length∧(eg bs).drop y.2.2=eg y.2.1∧y.2.2≤(eg bs).length∧∀j,j<y.2.2→v8 j=true) (fun y=>y.2.1.length)
    (fun _=>[(0,.func (.yield l) #[] #[]),(1,ptr bx)])
    (fun y=>Lp::Inv y.2.2::ag bx (cl [y.1] 39)::A::F) (v,bs,0) ⟨hv,Nat.le_refl _,by simp,Nat.zero_le _,fun j hj=>absurd hj (Nat.not_lt_zero j)⟩ rfl bY ad ?_
  rintro⟨v1,rest,i⟩⟨lC,uw,rG,WC,NI⟩ ih
  simp only at lC uw rG WC NI
  obtain⟨a,c,rfl,hc⟩:=lC.2
  refine go ?_
  match rest,rG,lC,uw,hc,ih with
  | [],rG,lC,uw,hc,ih =>
    have jT:i=(eg bs).length:=by
      rw[vd]at rG
      have:(eg bs).length≤i:=by simpa using rG
      omega
    subst jT
    refine go ?_
    ((refine bO hE Tryz.func232 rfl _ rfl (.inl ⟨NI,rfl⟩) ad))
  | c0::rst,rG,lC,uw,hc,ih =>
    have kq:=lC.cut 1 (by simp)
    rw[List.drop_succ_cons,List.drop_zero]at kq
    ((refine bj 8 ((.bool true)) rfl ((congrArg Value.bool (decide_eq_true (by simp only[List.length_cons];omega)))) ?_))
    refine go ?_
    refine bG (U:=ao) (p:=1) (q:=((c0::rst).length:Int)) zr zr zr zr zr zr zr ai (by simp only[List.length_cons];omega) (.inl rfl) ?_
    ((refine aB 11 ((.slice (sliceAt a c 1 1) rst.length (c-1))) rfl ((by rw[show((c0::rst).length:Int).toNat=rst.length+1 from by simp[List.length_cons],show(1:Int).toNat=1 from rfl,show rst.length+1-1=rst.length by omega];rfl)) ?_))
    ((refine ah zr zr zr zr (Gf A _ rst kq.1 kq.2 (by simp only[List.length_cons]at uw;omega)) ad ?_ bE))
    rintro _ _⟨rv,rfl,MG,rfl⟩
    have MG:dR A rv (cV rst).2.1:=MG
    have lz:=oL rst
    have HR:rst.length<1000000000:=by simp only[List.length_cons]at uw;omega
    have Cb:∀x,eg (c0::rst)=x::eg ((cV rst).2.1.drop (cV rst).1)∨eg (c0::rst)=[x]→(eg bs)[i]?=some x:=by
      intro x hx
      have:=congrArg (fun l=>l[0]?) rG
      simp only[List.getElem?_drop,Nat.add_zero]at this
      rw[this]
      rcases hx with h|h <;> rw[h] <;> rfl
    obtain⟨ra,rc,rfl,MH⟩:=MG.2
    by_cases lF:(cV rst).2.2=true∧(cV rst).1≤(cV rst).2.1.length
    · have vY:=ye (c:=c0) lF
      have hx:=Cb _ (.inl vY)
      rw[lF.1]
      have xN:=MG.front (cV rst).1 lF.2
      have xr:=MG.cut (cV rst).1 lF.2
      have kp:=(List.getElem?_eq_some_iff.1 hx).1
      refine go ?_
      refine aw zr zr ?_ ?_
      · intro rL;exfalso;omega
      intro _
      have k6:0<(c0::rst).length:=by simp only[List.length_cons];omega
      obtain⟨ba,oa,ca,fA⟩:=LR lC.1 k6
      simp only[Value.slice.injEq,true_and]at fA
      obtain⟨rfl,rfl⟩:=fA
      obtain⟨n,hn⟩:∃n,n=(cV rst).1:=⟨_,rfl⟩
      have Jf:((cV rst).2.1.take n).length=n:=by rw[hn,List.length_take];omega
      rw[← hn]at xN xr vY hx lF ⊢
      have O6:c0.toNat<256:=c0.toNat_lt
      have F5:=lF.2
      have abj:rst.length+1≤bs.length:=uw
      refine aF (fun w=>Sat G w ([A,ag bx (cl [.slice (some ⟨ba,oa,none⟩) (c0::rst).length c] 39)])) (.st 0 (.st 1 (.st 2 (.st 3 (.st 4 (.st 5 (.st 6 (.st 7 (.act 8 (.st 9 (.act 10 (.st 11 .nil)))))))))))) rfl ak ak ak (fun w hw=>hw.aX ad) ?_
      refine go ?_
      refine cK (U:=ao) 0 zr zr zr zr zr zr zr zr k6 ?_
      refine go ?_
      refine aJ ?_
      refine cz (U:=ao) 0 0 zr zr zr lC.1 rfl (show(bV (c0::rst))[0]?=some (u8 c0)from rfl) zr zr ?_
      refine go ?_
      refine bG (U:=ao) (p:=0) (q:=(n:Int)) zr zr zr zr zr zr zr ai ai (.inr ai) ?_
      ((refine aB 35 ((.slice (sliceAt ra rc 0 1) ((cV rst).2.1.take n).length rc)) rfl ((by rw[Jf,show((n:Int)).toNat=n from by omega];rfl)) ?_))
      have xN:dR A (.slice (sliceAt ra rc 0 1) ((cV rst).2.1.take n).length rc) ((cV rst).2.1.take n):=by rw[Jf];exact xN
      ((refine ah rfl rfl rfl rfl (jY A _ ((cV rst).2.1.take n) xN.1 ai) ad ?_ (fun _ _ w hp hw=>by obtain rfl:=hp;exact hw.aX ad)))
      rintro r _ rfl
      ((refine aM 0 rfl ?_))
      rintro rr rrc rfl
      refine go ?_
      refine jH rfl rfl rfl (hy i _ hx NI (.slice rr ((cV rst).2.1.take n).length rrc) ⟨_,_,_,rfl⟩) ad ?_ (fun _ _ w hp hw=>by rcases hp with⟨_,_,rfl⟩|⟨_,_,rfl⟩ <;> exact hw.aX ad)
      rintro _ _ (⟨hg,rfl,rfl⟩|⟨hg,rfl,rfl⟩)
      · refine go ?_
        refine bG (U:=ao) (p:=(n:Int)) (q:=((cV rst).2.1.length:Int)) zr zr zr zr zr zr zr ai ai (.inl rfl) ?_
        ((refine aB 42 ((.slice (sliceAt ra rc n 1) ((cV rst).2.1.length-n) (rc-n))) rfl ((by rw[show((n:Int)).toNat=n from by omega,show(((cV rst).2.1.length:Int)).toNat=(cV rst).2.1.length from by omega];rfl)) ?_))
        refine go ?_
        have pF:(eg bs).drop (i+1)=eg ((cV rst).2.1.drop n):=by
          have:=congrArg (fun l=>l.drop 1) rG
          simp only[vY,List.drop_drop]at this
          simpa using this
        refine aO ih (.slice (sliceAt ra rc n 1) ((cV rst).2.1.length-n) (rc-n),(cV rst).2.1.drop n,i+1) rfl (⟨xr,by simp only[List.length_drop];omega,pF,by simp only;omega,fun j hj=>by
          rcases Nat.lt_or_ge j i with h|h
          · exact NI j h
          · rw[show j=i by simp only at hj;omega];exact hg⟩) (by simp only[List.length_drop,List.length_cons];omega) bY ad
      · refine go ?_
        ((refine ae hE Tryz.func232 rfl _ rfl (.inr ⟨⟨i,kp,hg⟩,rfl⟩) ad))
    · have kr:=AT (c:=c0) lF
      have hx:=Cb _ (.inr kr)
      cases aak:(cV rst).2.2 with
      | false =>
        refine go ?_
        refine aG (bw 5 1 none _) ?_
        refine jH zr zr zr (hy i (0,[]) hx NI (.slice none 0 0) ⟨_,_,_,rfl⟩) ad ?_ bE
        rintro _ _ (⟨hg,rfl,rfl⟩|⟨hg,rfl,rfl⟩)
        · refine go ?_
          have jT:i+1=(eg bs).length:=by
            have:=congrArg List.length rG
            rw[kr,List.length_drop]at this
            simp only[List.length_singleton]at this
            omega
          rw[jT]
          have fO:∀j,j<(eg bs).length→v8 j=true:=fun j hj=>by
            rcases Nat.lt_or_ge j i with h|h
            · exact NI j h
            · rw[show j=i by omega];exact hg
          ((refine ae hE Tryz.func232 rfl _ rfl (.inl ⟨fO,rfl⟩) ad))
        · refine go ?_
          have kp:=(List.getElem?_eq_some_iff.1 hx).1
          ((refine ae hE Tryz.func232 rfl _ rfl (.inr ⟨⟨i,kp,hg⟩,rfl⟩) ad))
      | true =>
        have ML:¬(cV rst).1≤(cV rst).2.1.length:=fun h=>lF ⟨aak,h⟩
        refine go ?_
        refine aw zr zr ?_ ?_
        case' refine_2=>(intro h;exfalso;omega)
        intro _
        refine go ?_
        refine aG (bw 5 1 none _) ?_
        refine jH zr zr zr (hy i (0,[]) hx NI (.slice none 0 0) ⟨_,_,_,rfl⟩) ad ?_ bE
        rintro _ _ (⟨hg,rfl,rfl⟩|⟨hg,rfl,rfl⟩)
        · refine go ?_
          have jT:i+1=(eg bs).length:=by
            have:=congrArg List.length rG
            rw[kr,List.length_drop]at this
            simp only[List.length_singleton]at this
            omega
          rw[jT]
          have fO:∀j,j<(eg bs).length→v8 j=true:=fun j hj=>by
            rcases Nat.lt_or_ge j i with h|h
            · exact NI j h
            · rw[show j=i by omega];exact hg
          ((refine ae hE Tryz.func232 rfl _ rfl (.inl ⟨fO,rfl⟩) ad))
        · refine go ?_
          have kp:=(List.getElem?_eq_some_iff.1 hx).1
          ((refine ae hE Tryz.func232 rfl _ rfl (.inr ⟨⟨i,kp,hg⟩,rfl⟩) ad))
end Go.Proofs.YthjbidjmgbjkiaaGreatDoor
namespace Go.Proofs.YthjbidjmgbjkiaaGreatDoor
open Go Go.SL
def DI(b2 b3 b4 b5:Nat)(xs:List (Int × List UInt8))(i:Nat):HP:=fun h=>∃x:List It × HP × Value,(x.1.map It.p=xs.take i∧∀y∈x.1,dR x.2.1 y.v y.b) ∧
 Sep [ag b2 (cl [.slice none 0 0] 188),ag b3 (cl [.int .i64 0] 26),ag b4 (cl [x.2.2] 188),ag b5 (cl [.int .i64 (mC xs i)] 3),az 187 2 x.2.2 x.1.length (x.1.flatMap kG),x.2.1] h
theorem GG(b2 b3 b4 b5:Nat)(xs:List (Int × List UInt8))(i:Nat):∀h,DI b2 b3 b4 b5 xs i h→∃x:List It × HP × Value,(x.1.map It.p=xs.take i∧∀y∈x.1,dR x.2.1 y.v y.b) ∧
 Sep [ag b2 (cl [.slice none 0 0] 188),ag b3 (cl [.int .i64 0] 26),ag b4 (cl [x.2.2] 188),ag b5 (cl [.int .i64 (mC xs i)] 3),az 187 2 x.2.2 x.1.length (x.1.flatMap kG),x.2.1] h:=fun h hs=>hs
theorem C4(b2 b3 b4 b5:Nat)(xs:List (Int × List UInt8))(i:Nat)(eM:List It)(Z:HP)(v:Value)(h1:eM.map It.p=xs.take i)(h2:∀y∈eM,dR Z y.v y.b)(H:List HP) :
  aq (ag b2 (cl [.slice none 0 0] 188)::ag b3 (cl [.int .i64 0] 26)::ag b4 (cl [v] 188)::ag b5 (cl [.int .i64 (mC xs i)] 3)::az 187 2 v eM.length (eM.flatMap kG)::Z::H) (DI b2 b3 b4 b5 xs i::H) :=
 aq.fold (A:=DI b2 b3 b4 b5 xs i) (B:=[ag b2 (cl [.slice none 0 0] 188),ag b3 (cl [.int .i64 0] 26),ag b4 (cl [v] 188),ag b5 (cl [.int .i64 (mC xs i)] 3),az 187 2 v eM.length (eM.flatMap kG),Z]) fun h hs=>⟨h,sub.refl h,(eM,Z,v),⟨h1,h2⟩,hs⟩
def DE(b2 b3:Nat):HP:=Sep [ag b2 (cl [.slice none 0 0] 188),ag b3 (cl [.int .i64 2] 26)]
theorem C5(b2 b3:Nat)(H:List HP):aq (ag b2 (cl [.slice none 0 0] 188)::ag b3 (cl [.int .i64 2] 26)::H) (DE b2 b3::H):=aq.bL [ag b2 (cl [.slice none 0 0] 188),ag b3 (cl [.int .i64 2] 26)] H
theorem Ou(b2 b3:Nat)(H:List HP):aq (DE b2 b3::H) (ag b2 (cl [.slice none 0 0] 188)::ag b3 (cl [.int .i64 2] 26)::H):=aq.cg [ag b2 (cl [.slice none 0 0] 188),ag b3 (cl [.int .i64 2] 26)] H
attribute [local irreducible] J K aD Ends ag az aL bK aZ aQ aV bg bQ DI DE
set_option maxRecDepth 20000 in
set_option maxHeartbeats 1000000 in
theorem l4(A:HP)(v:Value)(bs:List UInt8)(hv:dR A v bs)(hl:bs.length≤1000000000) :
  aD Tryz.prog 189 [v] [A] (fun r H=>(pS bs=none∧r = .tuple #[.slice none 0 0,.int .i64 2]∧H=[A])∨(∃(xs:List (Int × List UInt8)) (eM:List It) (Z:HP) (rv:Value),pS bs=some xs∧eM.map It.p=xs∧sE Z rv eM∧r = .tuple #[rv,.int .i64 0]∧H=[Z,A]∧∃ra rc,rv = .slice ra eM.length rc∧eM.length≤rc)):=by
 obtain⟨a,c,rfl,hc⟩:=hv.2
 have rE:pS bs=if 65536<bs.length then none else if eT 0 (eg bs)then some (eg bs)else none:=rfl
 refine aD.enter Tryz.func189 ak rfl Tryz.ntmps189 zr zr ?_
 intro G F R hE
 refine aE rfl ?_
 refine aN (U:=ao) zr zr zr bp ?_
 intro b2
 refine aN (U:=ao) zr zr zr bp ?_
 intro b3
 refine go ?_
 refine aw zr zr ?_ ?_
 ·intro rL
  have rL:65536<bs.length:=by omega
  rw[if_pos rL]at rE
  refine go ?_
  refine aU hE ?_
  refine qJ (U:=ao) 1 0 hE Tryz.func189 zr zr zr zr zr zr zr zr (aq.refl _) zr zr (.inl ⟨rE,rfl,rfl⟩) ad
 intro rF
 have rF:¬65536<bs.length:=by omega
 rw[if_neg rF]at rE
 refine go ?_
 refine aN (U:=ao) zr zr zr bp ?_
 intro b4
 refine go ?_
 refine aN (U:=ao) zr zr zr bp ?_
 intro b5
 refine go ?_
 ((refine ah zr zr zr zr (HF _ ⟨a,_,c,rfl⟩) ad ?_ bE))
 rintro _ _⟨bx,rfl,rfl⟩
 refine go ?_
 refine gL rfl ?_
 refine aj (aq.trans (aq.bL [] _) (aq.trans (bw 187 2 none _) (aq.trans ad (C4 b2 b3 b4 b5 (eg bs) 0 [] (Sep []) (.slice none 0 0) rfl (by simp) (ag bx (cl [.slice a bs.length c] 39)::A::F))))) ?_
 refine oV (Fr:=F) (Pre:=fun _ _=>[DI b2 b3 b4 b5 (eg bs) 0,ag bx (cl [.slice a bs.length c] 39),A]) (fun _ _ Lp v H=>((∀i,i<(eg bs).length→rQ (eg bs) i=true)∧H=[Lp .ready none,DI b2 b3 b4 b5 (eg bs) (eg bs).length,A])∨((∃i,i<(eg bs).length∧rQ (eg bs) i=false)∧H=[Lp .done (some .ret),DE b2 b3,A])) rfl hE.1.1 rfl ?c (fun l r=>ad) ?fN
 case c =>
  intro l r
  refine aD.pre (El A bx _ bs hv hl l _ _ (DE b2 b3) (DI b2 b3 b4 b5 (eg bs)) (rQ (eg bs)) ?hy) ad
  case hy =>
   intro i x hx NI rv MG
   obtain⟨va,vn,vc,rfl⟩:=MG
   refine bQ.BA zr zr ?_
   intro G2 F2 R2 hY
   refine aE rfl ?_
   refine aN (U:=ao) zr zr zr bp ?_
   intro b6
   refine go ?_
   refine aj (aq.pick [1] rfl) ?_
   refine e8 rfl hY ?_
   refine aj (aq.pick [2] rfl) ?_
   refine dM (GG b2 b3 b4 b5 (eg bs) i) ?_
   rintro⟨eM,Z,vi⟩⟨nR,uf⟩
   simp only at nR uf
   have O0:=v7 hx
   obtain⟨xn,xb⟩:=x
   simp only at O0
   have tq:=vK hx
   refine db 4 rfl ?_
   intro ia ic SG
   simp only at SG
   subst SG
   simp only
   refine aj (aq.pick [7,0,1,2,3] rfl) ?_
   repeat'(first|(with_reducible intro nT)|refine fk ?_|refine gN zr zr zr zr ?_ ?_|refine aw zr zr ?_ ?_)
   ·have kr:rQ (eg bs) i=false:=by rw[O0,decide_eq_false ai,Bool.false_and]
    refine aj (aq.trans (aq.pick [1,2] rfl) (C5 b2 b3 _)) ?_
    refine wW hY rfl ad (.inr ⟨kr,rfl,rfl⟩)
   ·have kr:rQ (eg bs) i=false:=by rw[O0,decide_eq_false (show ¬xn≤63 by omega),Bool.and_false]
    refine aj (aq.trans (aq.pick [1,2] rfl) (C5 b2 b3 _)) ?_
    refine wW hY rfl ad (.inr ⟨kr,rfl,rfl⟩)
   ·rename_i h1
    have qc:rQ (eg bs) i=true:=by rw[O0,decide_eq_true ai,decide_eq_true ai];rfl
    refine aS ?_
    refine bI (U:=ao) 4 fR zr zr zr zr zr zr zr zr zr ?_
    refine go ?_
    refine ef (U:=ao) 0 zr zr zr zr zr zr ?_
    refine go ?_
    refine fG (bs:=xb) 8 rfl ?_
    intro uz
    obtain⟨_,_,hvx,ZG⟩:=uz.2
    simp only[Value.slice.injEq,true_and]at hvx
    obtain⟨-,rfl,rfl⟩:=hvx
    have kp:=(List.getElem?_eq_some_iff.1 hx).1
    have Jf:=q5 bs.length bs (Nat.le_refl _)
    have W9:eM.length=i:=by
     have:=congrArg List.length nR
     rw[List.length_map,List.length_take]at this
     omega
    refine au (U:=ao) (cs:=kG ⟨xn,.slice va xb.length vc,xb⟩) zr zr zr zr zr zr zr zr zr bp ?_
    intro row
    refine go ?_
    refine bh (U:=ao) (mm:=1) (news:=kG ⟨xn,.slice va xb.length vc,xb⟩) 6 0 rfl rfl rfl rfl rfl rfl rfl rfl rfl rfl rfl rfl (Vw.ag rfl) rfl (by intro v hv;simp[kG]at hv;rcases hv with rfl|rfl <;> rfl) ai (by show(_+_)*32≤_;omega) (fun _=>rfl) bp ?_
    intro v1
    rw[show eM.flatMap kG++kG (⟨xn,.slice va xb.length vc,xb⟩:It)=(eM++[(⟨xn,.slice va xb.length vc,xb⟩:It)]).flatMap kG from by simp,show eM.length+1=(eM++[(⟨xn,.slice va xb.length vc,xb⟩:It)]).length from by simp]
    ((refine aM 6 rfl ?_))
    rintro ja jc rfl
    refine go ?_
    refine aS ?_
    refine bI (U:=ao) 4 fR zr zr zr zr zr zr zr zr zr ?_
    refine go ?_
    have aaw:mC (eg bs) (i+1)=xn:=tq
    have Lh:(eM++[(⟨xn,.slice va xb.length vc,xb⟩:It)]).map It.p=(eg bs).take (i+1):=by
     rw[List.map_append,nR,List.take_add_one,hx];rfl
    have lz:=C4 b2 b3 b4 b5 (eg bs) (i+1) (eM++[(⟨xn,.slice va xb.length vc,xb⟩:It)]) (Sep [az 5 1 (.slice va xb.length vc) xb.length (bV xb),Z]) (.slice ja (eM++[(⟨xn,.slice va xb.length vc,xb⟩:It)]).length jc) Lh (fun y hy=>by
     rcases List.mem_append.1 hy with h|h
     ·exact(uf y h).mono (aW (i:=1) rfl)
     ·rw[List.mem_singleton.1 h];exact uz.mono (aW (i:=0) rfl))
    rw[aaw]at lz
    refine aj (aq.trans (aq.pick [9,7] rfl) (aq.trans (aq.bL [_,_] _) (aq.trans ad (lz _)))) ?_
    refine eK hY rfl ad (.inl ⟨qc,rfl,rfl⟩)
 rintro l r v H' (⟨fO,rfl⟩|⟨⟨i,hi,kr⟩,rfl⟩)
 ·refine⟨_,_,_,rfl,by decide,?_⟩
  have hr:eT 0 (eg bs)=true:=(yq _).2 fO
  rw[if_pos hr]at rE
  rw[hE.1.2]
  refine dM (GG b2 b3 b4 b5 (eg bs) _) ?_
  rintro⟨eM,Z,vi⟩⟨nR,uf⟩
  simp only at nR uf
  rw[List.take_length]at nR
  refine db 4 rfl ?_
  intro ia ic SG
  simp only at SG
  subst SG
  simp only
  refine lr 4 rfl ?_
  intro iy
  refine cM 4 rfl ?_
  intro dj
  have Ds:sE (Sep [az 187 2 (.slice ia eM.length ic) eM.length (eM.flatMap kG),Z]) (.slice ia eM.length ic) eM:=⟨dj.mono (aW (i:=0) rfl),fun y hy=>(uf y hy).mono (aW (i:=1) rfl)⟩
  refine go ?_
  refine aj (aq.trans (aq.pick [4,5] rfl) (aq.bL [az 187 2 (.slice ia eM.length ic) eM.length (eM.flatMap kG),Z] _)) ?_
  refine qJ (U:=ao) 1 2 hE Tryz.func189 zr zr zr zr zr zr zr zr ad zr zr (.inr ⟨eg bs,eM,_,_,rE,nR,Ds,rfl,rfl,_,_,rfl,iy⟩) ad
 ·refine⟨_,_,_,rfl,by decide,?_⟩
  have hr:¬eT 0 (eg bs)=true:=fun h=>by rw[(yq _).1 h i hi]at kr;cases kr
  rw[if_neg hr]at rE
  rw[hE.1.2]
  refine aj (Ou b2 b3 _) ?_
  refine qJ (U:=ao) 0 1 hE Tryz.func189 zr zr zr zr zr zr zr zr ad zr zr (.inl ⟨rE,rfl,rfl⟩) ad
end Go.Proofs.YthjbidjmgbjkiaaGreatDoor
namespace Go.Proofs.YthjbidjmgbjkiaaGreatDoor
open Go Go.SL
attribute [local irreducible] J K aD Ends ag az aL bK aZ aQ aV bg bQ Sha.chunks Sha.chunk Sha.rounds Sha.sched dA cd GI cI
theorem Nq:lq Tryz.prog 36 dV:=We Tryz.underlying36 Tryz.underlying5 TU
def Mz(l:List Dg):List (Dg × Value):=l.map fun d=>(d,.bool true)
theorem JL(l:List Dg)(d:Dg):(dI (Mz l) d).getD (.bool false) = .bool (decide (d∈l)):=by
 induction l with
 | nil=>simp[Mz,dI]
 | cons x l ih =>
  simp only[Mz,dI,List.map_cons,List.find?_cons]at ih ⊢
  by_cases h:x=d
  ·simp[h]
  ·have h2:¬d=x:=fun e=>h e.symm
   simp only[h,decide_false]
   rw[ih];simp[h2]
theorem MZ{l:List Dg}{d:Dg}(h:d ∉ l):mh (Mz l) d (.bool true)=Mz (l++[d]):=by
 unfold mh
 have:d ∉ (Mz l).map (·.1):=by simpa[Mz]using h
 rw[if_neg this];simp[Mz]
theorem yc(l:List Bl):nW l=false↔(l.map Bl.d).Nodup:=by
 induction l with
 | nil=>simp[nW]
 | cons x l ih =>
  simp only[nW,Bool.or_eq_false_iff,ih,List.map_cons,List.nodup_cons]
  constructor
  ·rintro⟨h1,h2⟩
   refine⟨fun h=>?_,h2⟩
   obtain⟨y,hy,he⟩:=List.mem_map.1 h
   have:=List.any_eq_false.1 h1 y hy
   exact this (by simpa using he)
  ·rintro⟨h1,h2⟩
   refine⟨List.any_eq_false.2 fun y hy he=>h1 (List.mem_map.2 ⟨y,hy,by simpa using he⟩),h2⟩
theorem Gn(l:List Bl):∀v∈l.flatMap bn,v.oneCell'=true:=by
 intro v hv
 obtain⟨x,_,h⟩:=List.mem_flatMap.1 hv
 simp only[bn,List.mem_append,List.mem_cons,List.not_mem_nil,or_false]at h
 rcases h with(h|rfl|rfl)|h
 ·rw[dp]at h;exact cC _ v h
 ·rfl
 ·rfl
 ·rw[dp]at h;exact cC _ v h
theorem Y8{l:List Bl}{i:Nat}{x:Bl}(hx:l[i]?=some x)(q:Nat)(v:Value)(hq:(bn x)[q]?=some v):(l.flatMap bn)[i*66+q]?=some v:=by
 rw[cF uR hx q (by rcases Nat.lt_or_ge q 66 with h|h;exact h;rw[List.getElem?_eq_none (by rw[uR];exact h)]at hq;cases hq)]
 exact hq
theorem TV{l:List Bl}{i:Nat}(h:i<l.length):l.flatMap bn≠[]:=by
 rw[← List.length_pos_iff,bZ uR];omega
theorem AF(A X:HP)(v:Value)(l:List Bl)(hv:Vw A v l.length (l.flatMap bn))(hlen:l.length≤1000000)(g:FuncId)(cap:List Value)(p:Bl→Bool)(hf:∀x∈l,aD Tryz.prog g (dQ x::cap) [X] (fun v H=>v = .bool (p x)∧H=[X])) :
  aD Tryz.prog 177 [v,.func (.func g) #[] cap.toArray] [A,X] (fun r H=>r = .int .i64 (jy p l)∧H=[A,X]):=by
 obtain⟨a,c0,rfl⟩:=hv.shape
 unfold dQ at hf
 refine aD.enter Tryz.func177 ak rfl Tryz.ntmps177 zr zr ?_
 intro G F R hR
 refine go ?_
 refine bo (fun i:Nat=>i≤l.length∧∀y∈l.take i,p y=false) (fun i=>l.length-i) (fun i=>[(0,.slice a l.length c0),(1,.func (.func g) #[] cap.toArray),(7,.int .i64 l.length),(8,.int .i64 i)]) (fun _=>[A,X]++F) 0 ⟨by simp,by simp⟩ rfl bY (aq.refl _) ?_
 rintro i⟨hi,hb⟩ ih
 refine go ?_
 refine aw zr zr ?_ ?_
 ·intro cO
  refine go ?_
  have fU:i<l.length:=by omega
  have hx:l[i]?=some l[i]:=by simp[fU]
  generalize Yt:l[i]=x at hx
  obtain⟨b,o,fQ,fA⟩:=hv.some (TV fU)
  simp only[Value.slice.injEq]at fA
  obtain⟨rfl,_,rfl⟩:=fA
  refine eE (U:=ao) i 66 zr zr zr zr zr zr zr zr fU ?_
  refine cQ (U:=ao) (es:=bn x) 0 (i*66) zr zr zr hv rfl (Y8 hx) zr zr zr ?_
  refine ck [1] zr zr zr zr (hf x (List.mem_of_getElem? hx)) rfl bE ?_
  rintro _ _⟨rfl,rfl⟩
  refine go ?_
  refine eO zr zr ?_ ?_
  ·intro hp
   refine go ?_
   refine ae hR Tryz.func177 rfl _ rfl ⟨by rw[mD hx hp hb];rfl,rfl⟩ (aq.fin [1,0] 0 zr zr)
  ·intro hp
   refine go ?_
   refine aO ih (i+1) rfl ⟨ai,se hb hx hp⟩ ai bY (aq.pick [1,0] rfl)
 ·intro eQ
  refine go ?_
  have:i=l.length:=by omega
  subst this
  refine ae hR Tryz.func177 rfl _ rfl ⟨by rw[pE (fun x hx=>hb x (by simpa using hx))];rfl,rfl⟩ (aq.fin [0,1] 0 zr zr)
theorem nJ(A X:HP)(v:Value)(l:List Bl)(hv:Vw A v l.length (l.flatMap bn))(hlen:l.length≤1000000)(g:FuncId)(cap:List Value)(p:Bl→Bool)(hf:∀x∈l,aD Tryz.prog g (dQ x::cap) [X] (fun v H=>v = .bool (p x)∧H=[X])) :
  aD Tryz.prog 116 [v,.func (.func g) #[] cap.toArray] [A,X] (fun r H=>r = .bool (l.any p)∧H=[A,X]):=by
 refine aD.enter Tryz.func116 ak rfl Tryz.ntmps116 zr zr ?_
 intro G F R hR
 refine go ?_
 refine ck [0,1] zr zr zr zr (AF A X v l hv hlen g cap p hf) rfl bE ?_
 rintro _ _⟨rfl,rfl⟩
 refine go ?_
 have hb:decide (0≤jy p l)=l.any p:=by
  rw[show decide (0≤jy p l)=decide (¬jy p l<0)from by rw[decide_eq_decide];omega]
  rw[Bool.eq_iff_iff,decide_eq_true_iff,mE (p:=p) (l:=l),Bool.not_eq_false]
 refine ae hR Tryz.func116 rfl _ rfl ⟨congrArg Value.bool hb,rfl⟩ (aq.fin [0,1] 0 zr zr)
theorem Ni(x:Bl):aD Tryz.prog 231 [dQ x] [emp] (fun r H=>r = .bool (!bz x)∧H=[emp]):=by
 unfold dQ
 refine aD.enter Tryz.func231 ak rfl Tryz.ntmps231 zr zr ?_
 intro G F R hE
 refine aE rfl ?_
 refine bq zr zr bp ?_
 intro b1
 refine go ?_
 refine aI (U:=ao) 0 zr zr zr zr zr zr ?_
 ((refine ah zr zr zr zr (mP x) ad ?_ bE))
 rintro _ _⟨rfl,rfl⟩
 refine go ?_
 ((refine ae hE Tryz.func231 rfl _ rfl ⟨rfl,rfl⟩ ad))
def FU(v:Value):Value := .agg #[v]
set_option maxRecDepth 20000 in
theorem zh(A:HP)(v:Value)(l:List Bl)(hv:Vw A v l.length (l.flatMap bn))(hlen:l.length≤1000000) :
  aD Tryz.prog 208 [FU v] [A] (fun r H=>r = .int .i64 (fY l:Int)∧H=[A]):=by
 obtain⟨a,c,rfl⟩:=hv.shape
 unfold FU
 refine aD.enter Tryz.func208 ak rfl Tryz.ntmps208 zr zr ?_
 intro G F R hE
 refine aE rfl ?_
 refine bq zr zr bp ?_
 intro b1
 refine aG (aq.oQ _) ?_
 have h1:(l.length<1∨16<l.length∨l.any (fun x => !bz x)=true)→fY l=1:=fun h=>by unfold fY;rw[if_pos h]
 have h2:¬(l.length<1∨16<l.length∨l.any (fun x => !bz x)=true)→fY l=if nW l then 5 else 0:=fun h=>by unfold fY;rw[if_neg h]
 repeat'(first|(with_reducible intro nT)|refine fk ?_|refine gN zr zr zr zr ?_ ?_|(refine ah zr zr zr zr (nJ A emp _ l hv hlen 231 [] (fun x => !bz x) (fun x _=>Ni x)) ad ?_ bE;rintro _ _⟨rfl,rfl⟩))
 ·rw[h1 (.inl ai)]at hE
  ((refine ae hE Tryz.func208 rfl _ rfl ⟨rfl,rfl⟩ ad))
 ·rw[h1 (.inr (.inl ai))]at hE
  ((refine ae hE Tryz.func208 rfl _ rfl ⟨rfl,rfl⟩ ad))
 cases ku:l.any (fun x => !bz x)with
 | true =>
  rw[h1 (.inr (.inr ku))]at hE
  refine go ?_
  ((refine ae hE Tryz.func208 rfl _ rfl ⟨rfl,rfl⟩ ad))
 | false =>
  have h3:=h2 (fun h=>by rcases h with h|h|h;exact absurd h ai;exact absurd h ai;rw[ku]at h;cases h)
  rw[h3]at hE
  refine go ?_
  refine mS rfl bp ?_
  intro bm
  ((refine aG (aq.fold (B:=[_]) (A:=aL dV bm (Mz [])) (fun h hs=>⟨h,sub.refl h,ot dV bm h (ed hs)⟩)) ?_))
  refine go ?_
  refine bo (fun i:Nat=>i≤l.length∧((l.take i).map Bl.d).Nodup) (fun i=>l.length-i)
   (fun i=>[(1,ptr b1),(4,.map (some bm)),(25,.slice a l.length c),(26,.int .i64 (l.length:Int)),(27,.int .i64 (i:Int))])
   (fun i=>aL dV bm (Mz ((l.take i).map Bl.d))::A::F) 0 ⟨Nat.zero_le _,by simp⟩ rfl bY ad ?_
  rintro i⟨hi,kf⟩ ih
  refine go ?_
  refine aw zr zr ?_ ?_
  ·intro cO
   have fU:i<l.length:=by omega
   obtain⟨x,hx⟩:∃x,l[i]?=some x:=⟨l[i],by simp⟩
   obtain⟨b,o,fQ,fA⟩:=hv.some (TV fU)
   simp only[Value.slice.injEq]at fA
   obtain⟨rfl,_,rfl⟩:=fA
   have iZ:(l.take (i+1)).map Bl.d=(l.take i).map Bl.d++[x.d]:=by rw[List.take_add_one,hx];simp
   refine go ?_
   refine eE (U:=ao) i 66 zr zr zr zr zr zr zr zr fU ?_
   refine aJ ?_
   refine cQ (U:=ao) (es:=bn x) 1 (i*66) zr zr zr hv rfl (Y8 hx) zr zr zr ?_
   refine aN (U:=ao) zr zr zr bp ?_
   intro b6
   refine go ?_
   refine ef (U:=ao) 0 zr zr zr zr zr zr ?_
   refine CY (U:=ao) (key:=x.d) 1 rfl Nq zr zr zr zr zr zr zr zr ?_
   refine aB 34 (.bool (decide (x.d∈(l.take i).map Bl.d))) rfl (JL _ _) ?_
   refine go ?_
   refine aw zr zr ?_ ?_
   ·intro qR
    have htw:nW l=true:=by
     cases h:nW l with
     | true=>rfl
     | false =>
      exfalso
      have hN:=(yc l).1 h
      have dH:((l.take (i+1)).map Bl.d).Nodup:=hN.sublist ((List.take_sublist _ _).map _)
      rw[iZ,List.nodup_append]at dH
      exact dH.2.2 _ qR _ (by simp) rfl
    rw[htw]at hE
    refine go ?_
    ((refine ae hE Tryz.func208 rfl _ rfl ⟨rfl,rfl⟩ ad))
   ·intro NA
    refine go ?_
    refine ef (U:=ao) 0 zr zr zr zr zr zr ?_
    refine jX (U:=ao) (key:=x.d) 1 Nq fR zr zr zr zr zr zr zr zr ?_
    rw[MZ NA,← iZ]
    refine go ?_
    refine aO ih (i+1) rfl ⟨ai,by rw[iZ,List.nodup_append];exact⟨kf,by simp,fun p hp q hq=>by simp at hq;subst hq;exact fun e=>NA (e ▸ hp)⟩⟩ ai bY ad
  intro eQ
  have sJ:i=l.length:=by omega
  subst sJ
  rw[List.take_length]at kf
  rw[(yc l).2 kf]at hE
  refine go ?_
  ((refine ae hE Tryz.func208 rfl _ rfl ⟨rfl,rfl⟩ ad))
theorem dR.Su{b o n:Nat}{bs:List UInt8}{l:List Value}{e:TypeId}(hn:bs.length=n)(hl:(l.drop o).take n=bV bs):dR (ag b (cl l e)) (.slice (some ⟨b,o,none⟩) n n) bs:=by
 subst hn
 exact⟨Vw.ag (by rw[bt];exact hl),_,_,rfl,Nat.le_refl _⟩
theorem vO:∀(l:List Bl) (i:Nat) (x:Bl),ix i (l++[x])=ix i l++[(((i+l.length:Nat):Int)+1,eo (dx x))]
 | [],i,x=>by simp[ix]
 | y::l,i,x=>by
  simp only[List.cons_append,ix,vO l (i+1) x,List.length_cons]
  rw[show i+1+l.length=i+(l.length+1)from by omega]
theorem p9:∀(l:List Bl) (i:Nat),(ix i l).length=l.length
 | [],i=>rfl
 | y::l,i=>by simp only[ix,List.length_cons,p9 l (i+1)]
structure Its where
 l:List It
 Z:HP
set_option maxRecDepth 20000 in
set_option maxHeartbeats 1000000 in
theorem BK(A:HP)(v:Value)(l:List Bl)(hv:Vw A v l.length (l.flatMap bn))(hlen:l.length≤1000000) :
    aD Tryz.prog 176 [FU v] [A] (fun r H=>(fY l≠0∧r = .tuple #[.slice none 0 0,.int .i64 (fY l:Int)]∧H=[A]) ∨
      ∃rv,fY l=0∧r = .tuple #[rv,.int .i64 0]∧H=[az 5 1 rv (wj l).length (bV (wj l)),A]):=by
  have NH:=zh A v l hv hlen
  obtain⟨a,c,rfl⟩:=hv.shape
  unfold FU at NH ⊢
  refine aD.enter Tryz.func176 ak rfl Tryz.ntmps176 zr zr ?_
  intro G F R hE
  refine aE rfl ?_
  refine bq zr zr bp ?_
  intro b1
  refine go ?_
  refine aI (U:=ao) (l:=[.slice a l.length c]) 0 zr zr zr zr zr zr ?_
  ((refine ah zr zr zr zr (NH) ad ?_ bE))
  rintro _ _⟨rfl,rfl⟩
  refine go ?_
  refine aw zr zr ?_ ?_
  · intro ct
    have eP:fY l≠0:=by omega
    refine go ?_
    ((refine ae hE Tryz.func176 rfl _ rfl (.inl ⟨eP,rfl,rfl⟩) ad))
  intro heq
  have h0:fY l=0:=by omega
  obtain⟨abt,H4,qz⟩:=np h0
  refine go ?_
  refine aj (aq.trans (aq.bL [] _) (bw 187 2 none _)) ?_
  refine bo (fun y:Nat × Its × Option Addr × Nat=>y.1≤l.length∧y.2.1.l.map It.p=ix 0 (l.take y.1)∧∀z∈y.2.1.l,dR y.2.1.Z z.v z.b) (fun y=>l.length-y.1)
    (fun y=>[(1,ptr b1),(5,.slice y.2.2.1 y.2.1.l.length y.2.2.2),(18,.slice a l.length c),(19,.int .i64 (l.length:Int)),(20,.int .i64 (y.1:Int))])
    (fun y=>az 187 2 (.slice y.2.2.1 y.2.1.l.length y.2.2.2) y.2.1.l.length (y.2.1.l.flatMap kG)::y.2.1.Z::A::F) (0,⟨[],Sep []⟩,none,0) ⟨Nat.zero_le _,rfl,by simp⟩ rfl bY ad ?_
  rintro⟨i,⟨eM,Z⟩,ia,ic⟩⟨hi,nR,uf⟩ ih
  simp only at hi nR uf
  dsimp only
  have W9:eM.length=i:=by
    have:=congrArg List.length nR
    rw[List.length_map,p9,List.length_take]at this;omega
  refine go ?_
  refine aw zr zr ?_ ?_
  · intro cO
    have fU:i<l.length:=by omega
    obtain⟨x,hx⟩:∃x,l[i]?=some x:=⟨l[i],by simp⟩
    have Yu:=qz x (List.mem_of_getElem? hx)
    have ZD:=Yu
    simp only[bz,decide_eq_true_eq]at ZD
    obtain⟨sz,g8⟩:∃m:Nat,x.size=m:=⟨x.size.toNat,ai⟩
    obtain⟨pc,qa⟩:∃m:Nat,x.piece=m:=⟨x.piece.toNat,ai⟩
    obtain⟨b,o,fQ,fA⟩:=hv.some (TV fU)
    simp only[Value.slice.injEq]at fA
    obtain⟨rfl,_,rfl⟩:=fA
    refine go ?_
    refine eE (U:=ao) i 66 zr zr zr zr zr zr zr zr fU ?_
    refine aJ ?_
    refine cQ (U:=ao) (es:=bn x) 2 (i*66) zr zr zr hv rfl (Y8 hx) zr zr zr ?_
    refine aN (U:=ao) zr zr zr bp ?_
    intro b7
    refine go ?_
    refine aF (fun w=>Sat G w ([ag b7 (cl (bn x) 38)])) (.st 0 (.st 1 (.st 2 (.st 4 (.st 5 (.st 6 (.act 3 (.act 7 (.st 8 (.st 9 .nil)))))))))) rfl ak ak ak (fun w hw=>hw.aX ad) ?_
    refine go ?_
    ((refine aB 27 ((.int .u64 (sz:Int))) rfl ((congrArg (Value.int .u64) g8)) ?_))
    ((refine aB 31 ((.int .u64 (pc:Int))) rfl ((congrArg (Value.int .u64) qa)) ?_))
    ((refine ah rfl rfl rfl rfl (ll sz ai) ad ?_ (fun _ _ w hp hw=>by obtain rfl:=hp;exact hw.aX ad)))
    rintro r8 _ rfl
    ((refine ah rfl rfl rfl rfl (ll pc ai) ad ?_ (fun _ _ w hp hw=>by obtain rfl:=hp;exact hw.aX ad)))
    rintro r9 _ rfl
    ((refine aM 0 rfl ?_))
    rintro a9 c9 rfl
    ((refine aM 1 rfl ?_))
    rintro a8 c8 rfl
    refine fG (bs:=uv pc) 0 rfl ?_
    intro Tz
    refine fG (bs:=uv sz) 1 rfl ?_
    intro F'
    refine go ?_
    obtain⟨MC,Lg⟩:∃MC:List It,MC=[⟨1,.slice (some ⟨b7,0,none⟩) 32 32,x.d.bs⟩,⟨2,.slice a8 (uv sz).length c8,uv sz⟩,⟨3,.slice a9 (uv pc).length c9,uv pc⟩,⟨4,.slice (some ⟨b7,34,none⟩) 32 32,x.root.bs⟩]:=⟨_,rfl⟩
    have YD:MC.map It.p=dx x:=by rw[Lg];simp only[dx,List.map_cons,List.map_nil,It.p,g8,qa,Int.toNat_natCast]
    have HR:=vP x Yu
    refine aF (fun w=>Sat G w ([])) (.st 0 (.st 1 (.st 2 (.st 3 (.st 4 (.st 5 (.st 6 (.st 7 (.st 8 (.st 9 (.act 10 (.act 11 (.st 12 (.st 13 (.st 14 (.st 15 (.st 16 .nil))))))))))))))))) rfl ak ak ak (fun w hw=>hw.aX ad) ?_
    (repeat(first|refine fk ?_|refine gM (U:=ao) zr zr zr zr zr ?_))
    refine au (U:=ao) (cs:=MC.flatMap kG) zr zr zr zr zr zr zr zr (by rw[Lg];rfl) (fun _ _ hw=>hw.aX ad) ?_
    intro row
    have h4:MC.length=4:=by rw[Lg];rfl
    have NS:sE (Sep [ag row (cl (MC.flatMap kG) 187),ag b7 (cl (bn x) 38),az 5 1 (.slice a8 (uv sz).length c8) (uv sz).length (bV (uv sz)),az 5 1 (.slice a9 (uv pc).length c9) (uv pc).length (bV (uv pc))]) (.slice (some ⟨row,0,none⟩) 4 4) MC:=by
      refine⟨?_,fun y hy=>?_⟩
      · rw[h4]
        exact(Vw.ag (by rw[List.drop_zero,List.take_length])).mono (aW (i:=0) rfl)
      · rw[Lg]at hy
        simp only[List.mem_cons,List.not_mem_nil,or_false]at hy
        rcases hy with rfl|rfl|rfl|rfl
        · exact(dR.Su x.d.len (by rw[← dp];exact TT x)).mono (aW (i:=1) rfl)
        · exact F'.mono (aW (i:=2) rfl)
        · exact Tz.mono (aW (i:=3) rfl)
        · exact(dR.Su x.root.len (by rw[← dp];exact Oa x)).mono (aW (i:=1) rfl)
    have B0:eT 0 (MC.map It.p)=true:=by rw[YD];simp[dx,eT]
    have Cd:=lZ _ _ MC NS ai B0 (by rw[YD];omega)
    rw[YD]at Cd
    clear B0 NS YD h4
    clear Lg
    refine aG (aq.trans (aq.pick [0,3,2,1] rfl) (aq.bL [ag row (cl (MC.flatMap kG) 187),ag b7 (cl (bn x) 38),az 5 1 (.slice a8 (uv sz).length c8) (uv sz).length (bV (uv sz)),az 5 1 (.slice a9 (uv pc).length c9) (uv pc).length (bV (uv pc))] _)) ?_
    ((refine ah rfl rfl rfl rfl (Cd) ad ?_ (fun _ _ w hp hw=>by obtain⟨_,_,rfl⟩:=hp;exact hw.aX ad)))
    rintro _ _⟨rr,rfl,rfl⟩
    ((refine aM 0 rfl ?_))
    rintro ra rc rfl
    refine fG (bs:=eo (dx x)) 0 rfl ?_
    intro Jt
    refine go ?_
    refine au (U:=ao) (cs:=kG ⟨(i:Int)+1,.slice ra (eo (dx x)).length rc,eo (dx x)⟩) zr zr zr zr zr zr zr zr zr bp ?_
    intro M3
    refine go ?_
    refine bh (U:=ao) (mm:=1) (news:=kG ⟨(i:Int)+1,.slice ra (eo (dx x)).length rc,eo (dx x)⟩) 3 0 rfl rfl rfl rfl rfl rfl rfl rfl rfl rfl rfl rfl (Vw.ag rfl) rfl (by intro v hv;simp[kG]at hv;rcases hv with rfl|rfl <;> rfl) ai (by show(_+_)*32≤_;omega) (fun _=>rfl) bp ?_
    intro v1
    rw[show eM.flatMap kG++kG (⟨(i:Int)+1,.slice ra (eo (dx x)).length rc,eo (dx x)⟩:It)=(eM++[(⟨(i:Int)+1,.slice ra (eo (dx x)).length rc,eo (dx x)⟩:It)]).flatMap kG from by simp,show eM.length+1=(eM++[(⟨(i:Int)+1,.slice ra (eo (dx x)).length rc,eo (dx x)⟩:It)]).length from by simp]
    ((refine aM 3 rfl ?_))
    rintro ja jc rfl
    refine go ?_
    have Lh:(eM++[(⟨(i:Int)+1,.slice ra (eo (dx x)).length rc,eo (dx x)⟩:It)]).map It.p=ix 0 (l.take (i+1)):=by
      rw[List.take_add_one,hx,List.map_append,nR]
      simp only[Option.toList_some,vO,List.length_take,Nat.min_eq_left hi,Nat.zero_add,List.map_cons,List.map_nil,It.p]
    refine aj (aq.trans (aq.pick [1,4] rfl) (aq.bL [az 5 1 (.slice ra (eo (dx x)).length rc) (eo (dx x)).length (bV (eo (dx x))),Z] _)) ?_
    refine aO ih (i+1,⟨eM++[(⟨(i:Int)+1,.slice ra (eo (dx x)).length rc,eo (dx x)⟩:It)],Sep [az 5 1 (.slice ra (eo (dx x)).length rc) (eo (dx x)).length (bV (eo (dx x))),Z]⟩,ja,jc) rfl ⟨by simp only;omega,Lh,fun z hz=>by
      rcases List.mem_append.1 hz with h|h
      · exact(uf z h).mono (aW (i:=1) rfl)
      · rw[List.mem_singleton.1 h];exact Jt.mono (aW (i:=0) rfl)⟩ (by simp only;omega) bY ad
  · intro eQ
    have sJ:i=l.length:=by omega
    subst sJ
    rw[List.take_length]at nR
    have nL:=Ct h0
    unfold wj at nL
    have B0:=ub l 0 ai
    rw[← nR]at nL B0
    refine cM 0 rfl ?_
    intro dj
    have NS:sE (Sep [az 187 2 (.slice ia eM.length ic) eM.length (eM.flatMap kG),Z]) (.slice ia eM.length ic) eM:=⟨dj.mono (aW (i:=0) rfl),fun y hy=>(uf y hy).mono (aW (i:=1) rfl)⟩
    have Cd:=lZ _ _ eM NS ai B0 ai
    have UA:eo (eM.map It.p)=wj l:=by rw[nR];rfl
    rw[UA]at Cd
    refine go ?_
    refine aG (aq.bL [_,_] _) ?_
    ((refine ah zr zr zr zr (Cd) ad ?_ bE))
    rintro _ _⟨rr,rfl,rfl⟩
    refine go ?_
    ((refine ae hE Tryz.func176 rfl _ rfl (.inr ⟨rr,h0,rfl,rfl⟩) ad))
set_option maxRecDepth 20000 in
theorem CR(A:HP)(hK:mX A)(v:Value)(l:List Bl)(hv:Vw A v l.length (l.flatMap bn))(hlen:l.length≤1000000) :
  aD Tryz.prog 114 [FU v] [A] (fun r H=>r=(if fY l=0 then .tuple #[dV (tW l),.int .i64 0]else .tuple #[dV Dg.zero,.int .i64 (fY l:Int)])∧H=[A]):=by
 have NH:=BK A v l hv hlen
 obtain⟨a,c,rfl⟩:=hv.shape
 unfold FU at NH ⊢
 refine aD.enter Tryz.func114 ak rfl Tryz.ntmps114 zr zr ?_
 intro G F R hE
 refine aE rfl ?_
 refine bq zr zr bp ?_
 intro b1
 refine aN (U:=ao) zr zr zr bp ?_
 intro b2
 refine go ?_
 refine aI (U:=ao) (l:=[.slice a l.length c]) 1 zr zr zr zr zr zr ?_
 ((refine ah zr zr zr zr (NH) ad ?_ bE))
 rintro _ _ (⟨h0,rfl,rfl⟩|⟨rv,h0,rfl,rfl⟩)
 ·rw[if_neg h0]at hE
  refine go ?_
  refine aw zr zr ?_ ?_
  case' refine_2=>(intro h;exfalso;omega)
  intro _
  refine go ?_
  refine iU (U:=ao) zr zr zr zr zr ?_
  refine go ?_
  (refine aU hE ?_;apply aR (U:=ao) hE Tryz.func114 rfl (aq.refl _);(repeat(first|exact aK.nil|apply aK.tmp rfl|apply aK.agg 1 zr zr zr zr zr));exact⟨rfl,rfl⟩;exact ad)
 ·rw[if_pos h0]at hE
  have nL:=Ct h0
  refine fG (bs:=wj l) 0 rfl ?_
  intro Tx
  refine aG (aq.bL [_,_] _) ?_
  refine go ?_
  ((refine ah zr zr zr zr (uT _ (hK.mono (aW (H:=[az 5 1 rv (wj l).length (bV (wj l)),A]) (i:=1) rfl)) rv (wj l) (Tx.mono (aW (i:=0) rfl)) ai) ad ?_ bE))
  rintro _ _⟨rfl,rfl⟩
  refine aG (aq.cg _ _) ?_
  refine go ?_
  (refine aU hE ?_;apply aR (U:=ao) hE Tryz.func114 rfl (aq.refl _);(repeat(first|exact aK.nil|apply aK.tmp rfl|apply aK.agg 2 zr zr zr zr zr));exact⟨rfl,rfl⟩;exact ad)
def LM(o:Option Bl):Value:=match o with
 | none => .tuple #[dQ Bl.zero,.bool false]
 | some x => .tuple #[dQ x,.bool true]
theorem ER{b:List UInt8}(h:pS b=none):lj b=none:=by unfold lj;rw[h]
theorem Iv{b:List UInt8}{xs:List (Int × List UInt8)}(h:pS b=some xs)(hl:xs.length≠4):lj b=none:=by
 unfold lj;rw[h]
 match xs,hl with
 | [],_=>rfl
 | [_],_=>rfl
 | [_,_],_=>rfl
 | [_,_,_],_=>rfl
 | _::_::_::_::_::_,_=>rfl
 | [_,_,_,_],h=>exact absurd rfl h
theorem ES{b:List UInt8}{n1 n2 n3 n4:Int}{b1 b2 b3 b4:List UInt8}(h:pS b=some [(n1,b1),(n2,b2),(n3,b3),(n4,b4)]) :
  lj b=if n4≠4∨b1.length≠32∨b4.length≠32 then none else match dt b2,dt b3 with
  | some s,some p=>if 1048576<max s p then none else some ⟨uB b1,s,p,uB b4⟩
  | _,_=>none:=by unfold lj;rw[h];rfl
theorem wm{b:List UInt8}(h:b.length=32):bV b=dC (uB b):=by
 unfold uB;rw[dif_pos h,dp]
theorem AS:∀(f:Nat) (b:List UInt8) (x:Int × List UInt8),x∈q4 f b→x.2.length≤b.length
 | 0,b,x,h=>by simp[q4]at h
 | f+1,[],x,h=>by simp[q4]at h
 | f+1,c::r,x,h=>by
  have h1:=oL r
  rw[q4]at h
  rw[List.length_cons]
  split at h
  ·rcases List.mem_cons.1 h with rfl|h
   ·simp only[List.length_take];omega
   ·have:=AS f _ x h
    rw[List.length_drop]at this;omega
  ·simp at h;subst h;simp
theorem q6{b:List UInt8}{l:List (Int × List UInt8)}(h:pS b=some l):∀x∈l,x.2.length≤65536:=by
 unfold pS at h
 split at h
 ·cases h
 ·split at h
  ·cases h
   intro x hx
   have:=AS _ _ x hx;omega
  ·cases h
set_option maxRecDepth 20000 in
set_option maxHeartbeats 1000000 in
theorem HC(A:HP)(v:Value)(b:List UInt8)(hv:dR A v b)(hl:b.length≤1000000000) :
  aD Tryz.prog 207 [v] [A] (fun r H=>r=LM (lj b)∧H=[A]):=by
 have Ul:=l4 A v b hv hl
 obtain⟨a,c,rfl,hc⟩:=hv.2
 refine aD.enter Tryz.func207 ak rfl Tryz.ntmps207 zr zr ?_
 intro G F R hE
 refine aE rfl ?_
 refine aN (U:=ao) zr zr zr bp ?_
 intro b2
 refine go ?_
 ((refine ah zr zr zr zr (Ul) ad ?_ bE))
 rintro _ _ (⟨hn,rfl,rfl⟩|⟨xs,eM,Z,rv,hs,nR,⟨dj,uf⟩,rfl,rfl,-⟩)
 ·rw[ER hn]at hE
  repeat'(first|refine fk ?_|fail)
  all_goals((skip))
  (refine aU hE ?_;apply aR (U:=ao) hE Tryz.func207 rfl (aq.refl _);(repeat(first|exact aK.nil|apply aK.tmp rfl|apply aK.agg 1 zr zr zr zr zr));exact⟨rfl,rfl⟩;exact ad)
 obtain⟨ra,rc,rfl⟩:=dj.shape
 by_cases h4:eM.length=4
 case neg =>
  rw[Iv hs (by rw[← nR,List.length_map];exact h4)]at hE
  repeat'(first|(with_reducible intro nT)|refine fk ?_|refine gN zr zr zr zr ?_ ?_|fail)
  all_goals(first|(exfalso;omega)|skip)
  (refine aU hE ?_;apply aR (U:=ao) hE Tryz.func207 rfl (aq.refl _);(repeat(first|exact aK.nil|apply aK.tmp rfl|apply aK.agg 2 zr zr zr zr zr));exact⟨rfl,rfl⟩;exact ad)
 obtain⟨i1,i2,i3,i4,rfl⟩:∃i1 i2 i3 i4,eM=[i1,i2,i3,i4]:=by
  match eM,h4 with
  | [i1,i2,i3,i4],_=>exact⟨i1,i2,i3,i4,rfl⟩
 obtain⟨n1,v1,b1⟩:=i1
 obtain⟨n2,v2,UH⟩:=i2
 obtain⟨n3,v3,Pb⟩:=i3
 obtain⟨n4,v4,UG⟩:=i4
 have pV:dR Z v1 b1:=uf ⟨n1,v1,b1⟩ (by simp)
 have qe:dR Z v2 UH:=uf ⟨n2,v2,UH⟩ (by simp)
 have TA:dR Z v3 Pb:=uf ⟨n3,v3,Pb⟩ (by simp)
 have YY:dR Z v4 UG:=uf ⟨n4,v4,UG⟩ (by simp)
 obtain⟨a1,c1,rfl,_⟩:=pV.2
 obtain⟨a2,c2,rfl,_⟩:=qe.2
 obtain⟨a3,c3,rfl,_⟩:=TA.2
 obtain⟨a4,c4,rfl,_⟩:=YY.2
 obtain⟨rb,ro,rcc,he⟩:=dj.some (by simp[kG])
 simp only[Value.slice.injEq]at he
 obtain⟨rfl,_,rfl⟩:=he
 simp only[List.map_cons,List.map_nil,It.p]at nR
 subst nR
 have AM:=ES hs
 have BX:Vw Z (.slice (some ⟨rb,ro,none⟩) 4 rc) 4 [.int .i64 n1,.slice a1 b1.length c1,.int .i64 n2,.slice a2 UH.length c2,.int .i64 n3,.slice a3 Pb.length c3,.int .i64 n4,.slice a4 UG.length c4]:=dj
 have hN:(n4≠4∨b1.length≠32∨UG.length≠32)→lj b=none:=fun h=>by rw[AM,if_pos h]
 simp only[List.length_cons,List.length_nil,Nat.zero_add,Nat.reduceAdd]
 clear dj uf Ul h4
 repeat'(first|(with_reducible intro nT)|refine fk ?_|refine gN zr zr zr zr ?_ ?_|refine aw zr zr ?_ ?_|refine eE (U:=ao) 3 2 zr zr zr zr zr zr zr zr (by simp) ?_|refine eE (U:=ao) 0 2 zr zr zr zr zr zr zr zr (by simp) ?_|refine bB (U:=ao) 0 (3*2+0) zr zr zr BX (Nat.add_assoc _ _ _) zr zr zr ?_|refine bB (U:=ao) 0 (3*2+1) zr zr zr BX (Nat.add_assoc _ _ _) zr zr zr ?_|refine bB (U:=ao) 0 (0*2+1) zr zr zr BX (Nat.add_assoc _ _ _) zr zr zr ?_)
 ·rw[hN ai]at hE
  refine go ?_
  (refine aU hE ?_;apply aR (U:=ao) hE Tryz.func207 rfl (aq.refl _);(repeat(first|exact aK.nil|apply aK.tmp rfl|apply aK.agg 2 zr zr zr zr zr));exact⟨rfl,rfl⟩;exact ad)
 ·rw[hN ai]at hE
  refine go ?_
  (refine aU hE ?_;apply aR (U:=ao) hE Tryz.func207 rfl (aq.refl _);(repeat(first|exact aK.nil|apply aK.tmp rfl|apply aK.agg 2 zr zr zr zr zr));exact⟨rfl,rfl⟩;exact ad)
 ·rw[hN ai]at hE
  refine go ?_
  (refine aU hE ?_;apply aR (U:=ao) hE Tryz.func207 rfl (aq.refl _);(repeat(first|exact aK.nil|apply aK.tmp rfl|apply aK.agg 2 zr zr zr zr zr));exact⟨rfl,rfl⟩;exact ad)
 have hk4:n4=4:=by omega
 have H4:b1.length=32:=by omega
 have hl4:UG.length=32:=by omega
 rw[if_neg (by rintro(h|h|h) <;> exact h (by assumption))]at AM
 refine go ?_
 refine eE (U:=ao) 1 2 zr zr zr zr zr zr zr zr ai ?_
 refine go ?_
 refine aJ ?_
 refine bB (U:=ao) 0 (1*2+1) zr zr zr BX (Nat.add_assoc _ _ _) zr zr zr ?_
 have WS:=q6 hs (n2,UH) (by simp)
 have hm3:=q6 hs (n3,Pb) (by simp)
 simp only at WS hm3
 ((refine ah zr zr zr zr (ln Z _ UH qe ai) ad ?_ bE))
 rintro _ _⟨rfl,rfl⟩
 cases SM:dt UH with
 | none =>
  rw[SM]at AM
  rw[AM]at hE
  simp only
  refine go ?_
  refine eE (U:=ao) 2 2 zr zr zr zr zr zr zr zr ai ?_
  refine go ?_
  refine aJ ?_
  refine bB (U:=ao) 0 (2*2+1) zr zr zr BX (Nat.add_assoc _ _ _) zr zr zr ?_
  ((refine ah zr zr zr zr (ln Z _ Pb TA ai) ad ?_ bE))
  rintro _ _⟨rfl,rfl⟩
  cases dt Pb with
  | none =>
   simp only
   repeat'(first|refine fk ?_|fail)
   all_goals((skip))
   (refine aU hE ?_;apply aR (U:=ao) hE Tryz.func207 rfl (aq.refl _);(repeat(first|exact aK.nil|apply aK.tmp rfl|apply aK.agg 2 zr zr zr zr zr));exact⟨rfl,rfl⟩;exact ad)
  | some p =>
   simp only
   repeat'(first|refine fk ?_|fail)
   all_goals((skip))
   (refine aU hE ?_;apply aR (U:=ao) hE Tryz.func207 rfl (aq.refl _);(repeat(first|exact aK.nil|apply aK.tmp rfl|apply aK.agg 2 zr zr zr zr zr));exact⟨rfl,rfl⟩;exact ad)
 | some s =>
  rw[SM]at AM
  simp only
  refine go ?_
  refine eE (U:=ao) 2 2 zr zr zr zr zr zr zr zr ai ?_
  refine go ?_
  refine aJ ?_
  refine bB (U:=ao) 0 (2*2+1) zr zr zr BX (Nat.add_assoc _ _ _) zr zr zr ?_
  ((refine ah zr zr zr zr (ln Z _ Pb TA ai) ad ?_ bE))
  rintro _ _⟨rfl,rfl⟩
  cases hu3:dt Pb with
  | none =>
   rw[hu3]at AM
   rw[AM]at hE
   simp only
   repeat'(first|refine fk ?_|fail)
   all_goals((skip))
   (refine aU hE ?_;apply aR (U:=ao) hE Tryz.func207 rfl (aq.refl _);(repeat(first|exact aK.nil|apply aK.tmp rfl|apply aK.agg 2 zr zr zr zr zr));exact⟨rfl,rfl⟩;exact ad)
  | some p =>
   rw[hu3]at AM
   simp only at AM ⊢
   repeat'(first|(with_reducible intro nT)|refine fk ?_|refine aw zr zr ?_ ?_)
   all_goals((skip))
   ·rw[if_pos ai]at AM
    rw[AM]at hE
    refine go ?_
    (refine aU hE ?_;apply aR (U:=ao) hE Tryz.func207 rfl (aq.refl _);(repeat(first|exact aK.nil|apply aK.tmp rfl|apply aK.agg 2 zr zr zr zr zr));exact⟨rfl,rfl⟩;exact ad)
   ·rw[if_neg ai]at AM
    rw[AM]at hE
    have abh:s≤1048576:=by omega
    have abn:p≤1048576:=by omega
    obtain⟨xb1,xo1,xc1,Lm⟩:=pV.1.some (by intro h;have:=congrArg List.length h;rw[bt,H4]at this;cases this)
    simp only[Value.slice.injEq]at Lm
    obtain⟨rfl,_,rfl⟩:=Lm
    obtain⟨xb4,xo4,xc4,he4⟩:=YY.1.some (by intro h;have:=congrArg List.length h;rw[bt,hl4]at this;cases this)
    simp only[Value.slice.injEq]at he4
    obtain⟨rfl,_,rfl⟩:=he4
    have lC:=pV.1
    rw[wm H4]at lC
    have hv4:=YY.1
    rw[wm hl4]at hv4
    refine aF (fun w=>Sat G w ([Z])) (.st 0 (.st 1 (.st 2 (.st 3 (.st 4 (.st 5 (.st 6 (.st 7 (.st 8 (.st 9 (.st 10 (.st 11 (.st 12 (.st 13 (.st 14 (.st 15 (.st 16 (.act 17 (.st 18 .nil))))))))))))))))))) rfl ak ak ak (fun w hw=>hw.aX ad) ?_
    refine go ?_
    (repeat(first|refine fk ?_|refine eE (U:=ao) 0 2 zr zr zr zr zr zr zr zr ai ?_|refine eE (U:=ao) 3 2 zr zr zr zr zr zr zr zr ai ?_|(refine aJ ?_;first|refine cz (U:=ao) 0 (0*2+1) zr zr zr BX (Nat.add_assoc _ _ _) zr zr zr ?_|refine cz (U:=ao) 0 (3*2+1) zr zr zr BX (Nat.add_assoc _ _ _) zr zr zr ?_|refine e9 (U:=ao) (es:=dC (uB b1)) 0 0 zr zr zr lC rfl (fun j v hj=>by rw[Nat.zero_add];exact hj) zr zr zr ?_|refine e9 (U:=ao) (es:=dC (uB UG)) 0 0 zr zr zr hv4 rfl (fun j v hj=>by rw[Nat.zero_add];exact hj) zr zr zr ?_)|refine zg (U:=ao) zr zr zr zr ai ?_))
    refine aS ?_
    refine bI (U:=ao) 2 (fun w hw=>hw.aX ad) zr zr zr zr zr zr zr zr zr ?_
    refine go ?_
    (refine aU hE ?_;apply aR (U:=ao) hE Tryz.func207 rfl (aq.refl _);(repeat(first|exact aK.nil|apply aK.tmp rfl|apply aK.agg 2 zr zr zr zr zr));exact⟨rfl,rfl⟩;exact ad)
theorem tZ:∀(l:List (Int × List UInt8)) (i:Nat) (x:Int × List UInt8),gQ i (l++[x])=match gQ i l with
  | none=>none
  | some y=>match lj x.2 with
   | none=>none
   | some z=>if x.1≠((i+l.length:Nat):Int)+1 then none else some (y++[z])
 | [],i,(n,b)=>by
  simp only[List.nil_append,gQ,List.length_nil,Nat.add_zero]
  cases lj b with
  | none=>rfl
  | some z =>
   simp only
   split <;> simp
 | (m,c)::l,i,(n,b)=>by
  simp only[List.cons_append,gQ,tZ l (i+1) (n,b),List.length_cons]
  cases lj c with
  | none=>rfl
  | some y =>
   simp only
   split
   ·rfl
   ·cases gQ (i+1) l with
    | none=>rfl
    | some w =>
     simp only[Option.map_some]
     cases lj b with
     | none=>rfl
     | some z =>
      simp only[show i+1+l.length=i+(l.length+1)from by omega]
      split <;> simp
theorem tY:∀(l r:List (Int × List UInt8)) (i:Nat),gQ i l=none→gQ i (l++r)=none
 | [],r,i,h=>by cases h
 | (n,b)::l,r,i,h=>by
  simp only[List.cons_append,gQ]at h ⊢
  cases hb:lj b with
  | none=>rfl
  | some x =>
   rw[hb]at h
   simp only at h ⊢
   split at h
   ·rename_i hn;rw[if_pos hn]
   ·rename_i hn
    rw[if_neg hn]
    rw[tY l r (i+1) (by simpa using h)];rfl
set_option maxRecDepth 20000 in
set_option maxHeartbeats 1000000 in
theorem BL(A:HP)(v:Value)(b:List UInt8)(hv:dR A v b)(hl:b.length≤1000000000) :
  aD Tryz.prog 175 [v] [A] (fun r H=>(uC b=none∧(∃e,e≠0∧r = .tuple #[FU (.slice none 0 0),.int .i64 e])∧H=[A]) ∨
   ∃l rv,uC b=some l∧r = .tuple #[FU rv,.int .i64 0]∧H=[az 38 66 rv l.length (l.flatMap bn),A]):=by
 have Ul:=l4 A v b hv hl
 obtain⟨a,c,rfl,hc⟩:=hv.2
 refine aD.enter Tryz.func175 ak rfl Tryz.ntmps175 zr zr ?_
 intro G F R hE
 refine aE rfl ?_
 refine aN (U:=ao) zr zr zr bp ?_
 intro b2
 refine go ?_
 ((refine ah zr zr zr zr (Ul) ad ?_ bE))
 rintro _ _ (⟨hn,rfl,rfl⟩|⟨xs,eM,Z,rv,hs,nR,⟨dj,uf⟩,rfl,rfl,-⟩)
 ·have hd:uC b=none:=by unfold uC;rw[hn]
  repeat'(first|refine fk ?_|fail)
  all_goals((skip))
  (refine aU hE ?_;apply aR (U:=ao) hE Tryz.func175 rfl (aq.refl _);(repeat(first|exact aK.nil|apply aK.tmp rfl|apply aK.agg 1 zr zr zr zr zr));exact(.inl ⟨hd,⟨2,by decide,rfl⟩,rfl⟩);exact ad)
 have Tn:uC b=match gQ 0 xs with|some x=>if fY x=0 then some x else none|none=>none:=by unfold uC;rw[hs];rfl
 obtain⟨ra,rc,rfl⟩:=dj.shape
 have Jf:eM.length≤65536:=by
  have h1:xs.length≤65536:=by
   unfold pS at hs
   split at hs
   ·cases hs
   ·split at hs
    ·cases hs
     have:=q5 _ b (Nat.le_refl _)
     unfold eg at this;omega
    ·cases hs
  rw[← nR,List.length_map]at h1;exact h1
 repeat'(first|refine fk ?_|fail)
 all_goals((skip))
 refine aN (U:=ao) zr zr zr bp ?_
 intro b6
 refine go ?_
 refine aj (aq.trans (aq.bL [] _) (bw 38 66 none _)) ?_
 refine bo (fun y:Nat × List Bl × Option Addr × Nat=>y.1≤eM.length∧gQ 0 (xs.take y.1)=some y.2.1∧y.2.1.length=y.1) (fun y=>eM.length-y.1)
  (fun y=>[(2,ptr b2),(6,ptr b6),(20,.slice ra eM.length rc),(21,.int .i64 (eM.length:Int)),(22,.int .i64 (y.1:Int))])
  (fun y=>ag b6 (cl [.slice y.2.2.1 y.2.1.length y.2.2.2] 155)::az 38 66 (.slice y.2.2.1 y.2.1.length y.2.2.2) y.2.1.length (y.2.1.flatMap bn)::Z::A::ag b2 (cl [.slice none 0 0] 155)::F) (0,[],none,0) ⟨Nat.zero_le _,rfl,rfl⟩ rfl bY ad ?_
 rintro⟨i,acc,xa,xc⟩⟨hi,uA,MQ⟩ ih
 simp only at hi uA MQ
 dsimp only
 refine go ?_
 refine aw zr zr ?_ ?_
 ·intro cO
  have fU:i<eM.length:=by omega
  obtain⟨it,H7⟩:∃x,eM[i]?=some x:=⟨eM[i],by simp⟩
  have hxi:xs[i]?=some (it.n,it.b):=by rw[← nR,List.getElem?_map,H7];rfl
  have Ic:=uf it (List.mem_of_getElem? H7)
  have W8:=q6 hs _ (List.mem_of_getElem? hxi)
  have iZ:xs.take (i+1)=xs.take i++[(it.n,it.b)]:=by rw[List.take_add_one,hxi];rfl
  have EC:=tZ (xs.take i) 0 (it.n,it.b)
  have rE:(xs.take i).length=i:=by rw[List.length_take,← nR,List.length_map];omega
  rw[← iZ,uA,rE,Nat.zero_add]at EC
  simp only at EC W8
  have kr:gQ 0 (xs.take (i+1))=none→uC b=none:=fun h=>by
   have:=tY _ (xs.drop (i+1)) 0 h
   rw[List.take_append_drop]at this
   rw[Tn,this]
  obtain⟨rb,ro,rcc,he⟩:=dj.some (by rw[← List.length_pos_iff,bZ im];omega)
  simp only[Value.slice.injEq]at he
  obtain⟨rfl,_,rfl⟩:=he
  obtain⟨xn,xv,xb⟩:=it
  simp only at Ic EC W8
  obtain⟨va,vc,rfl,_⟩:=Ic.2
  refine go ?_
  refine eE (U:=ao) i 2 zr zr zr zr zr zr zr zr fU ?_
  refine aJ ?_
  refine cQ (U:=ao) (es:=kG ⟨xn,.slice va xb.length vc,xb⟩) 2 (i*2) zr zr zr dj rfl (fun j v hj=>?_) zr zr zr ?_
  ·rw[cF im H7 j (by rcases Nat.lt_or_ge j 2 with h|h;exact h;rw[List.getElem?_eq_none (by rw[im];exact h)]at hj;cases hj)];exact hj
  refine aN (U:=ao) zr zr zr bp ?_
  intro b8
  refine go ?_
  ((refine ah zr zr zr zr (HC Z _ xb Ic ai) ad ?_ bE))
  rintro _ _⟨rfl,rfl⟩
  cases AM:lj xb with
  | none =>
   rw[AM]at EC
   have yN:=kr EC
   simp only[LM]
   refine go ?_
   refine aN (U:=ao) zr zr zr bp ?_
   intro b9
   refine go ?_
   (refine aS ?_;(refine bI (U:=ao) 6 fR zr zr zr zr zr zr zr zr zr ?_))
   refine go ?_
   (refine aU hE ?_;apply aR (U:=ao) hE Tryz.func175 rfl (aq.refl _);(repeat(first|exact aK.nil|apply aK.tmp rfl|apply aK.agg 6 zr zr zr zr zr));exact(.inl ⟨yN,⟨2,by decide,rfl⟩,rfl⟩);exact ad)
  | some z =>
   rw[AM]at EC
   simp only[LM]at EC ⊢
   unfold dQ
   refine go ?_
   refine aN (U:=ao) zr zr zr bp ?_
   intro b9
   repeat'(first|(with_reducible intro nT)|refine fk ?_|refine aw zr zr ?_ ?_)
   ·rw[if_pos ai]at EC
    have yN:=kr EC
    (refine aS ?_;(refine bI (U:=ao) 6 fR zr zr zr zr zr zr zr zr zr ?_))
    refine go ?_
    (refine aU hE ?_;apply aR (U:=ao) hE Tryz.func175 rfl (aq.refl _);(repeat(first|exact aK.nil|apply aK.tmp rfl|apply aK.agg 6 zr zr zr zr zr));exact(.inl ⟨yN,⟨2,by decide,rfl⟩,rfl⟩);exact ad)
   ·rw[if_neg ai]at EC
    refine aI (U:=ao) (l:=bn z) 0 zr zr zr zr zr zr ?_
    refine au (U:=ao) (cs:=bn z) zr zr zr zr zr zr zr zr zr bp ?_
    intro row
    refine go ?_
    refine bh (U:=ao) (mm:=1) (news:=bn z) 5 0 zr zr zr zr zr zr zr zr zr zr zr zr (Vw.ag rfl) rfl (by have:=Gn [z];simpa using this) ai (by show(_+_)*80≤_;omega) (fun _=>rfl) bp ?_
    intro v1
    rw[show acc.flatMap bn++bn z=(acc++[z]).flatMap bn from by simp,show acc.length+1=(acc++[z]).length from by simp]
    ((refine aM 5 rfl ?_))
    rintro ja jc rfl
    refine go ?_
    refine aS ?_
    refine bI (U:=ao) 4 fR zr zr zr zr zr zr zr zr zr ?_
    refine go ?_
    refine aO ih (i+1,acc++[z],ja,jc) rfl ⟨by simp only;omega,EC,by simp only[List.length_append,List.length_singleton];omega⟩ (by simp only;omega) bY ad
 ·intro eQ
  have sJ:i=eM.length:=by omega
  have fO:xs.take i=xs:=by rw[List.take_of_length_le];rw[← nR,List.length_map];omega
  rw[fO]at uA
  rw[uA]at Tn
  simp only at Tn
  clear ih
  refine cM 1 rfl ?_
  intro hva
  refine go ?_
  refine aI (U:=ao) (l:=[.slice xa acc.length xc]) 0 zr zr zr zr zr zr ?_
  ((refine ah zr zr zr zr (zh _ _ acc hva ai) ad ?_ bE))
  rintro _ _⟨rfl,rfl⟩
  repeat'(first|(with_reducible intro nT)|refine fk ?_|refine aw zr zr ?_ ?_)
  ·rw[if_neg ai]at Tn
   (refine aS ?_;(refine bI (U:=ao) 4 fR zr zr zr zr zr zr zr zr zr ?_))
   refine go ?_
   (refine aU hE ?_;apply aR (U:=ao) hE Tryz.func175 rfl (aq.refl _);(repeat(first|exact aK.nil|apply aK.tmp rfl|apply aK.agg 4 zr zr zr zr zr));exact(.inl ⟨Tn,⟨2,by decide,rfl⟩,rfl⟩);exact ad)
  ·rw[if_pos ai]at Tn
   refine aI (U:=ao) (l:=[.slice xa acc.length xc]) 1 zr zr zr zr zr zr ?_
   refine go ?_
   refine aS ?_
   refine bI (U:=ao) 4 fR zr zr zr zr zr zr zr zr zr ?_
   refine go ?_
   (refine aU hE ?_;apply aR (U:=ao) hE Tryz.func175 rfl (aq.refl _);(repeat(first|exact aK.nil|apply aK.tmp rfl|apply aK.agg 4 zr zr zr zr zr));exact(.inr ⟨acc,_,Tn,rfl,rfl⟩);exact ad)
end Go.Proofs.YthjbidjmgbjkiaaGreatDoor
namespace Go.SL
open Go.RowKit
def old(W:World):HP:=fun h=>∀b,h b=W.heap[b]?
def TK(W:World):cm:={ tape:=W.tape,os:=W.os,output:=W.output }
theorem Oh(W:World):Sat (TK W) W [old W]:=⟨⟨rfl,Nat.zero_le _⟩,rfl,rfl,fun b=>W.heap[b]?,fun _ _ h=>h,fE fun _=>rfl⟩
theorem Ak{W W':World}(h:Sat (TK W) W' [old W]):Below W.heap.size W W':=by
 obtain⟨h1,h2,h3,h0,hw,hs⟩:=h
 have ho:=ed hs
 have hb:∀k,k<W.heap.size→W'.heap[k]?=W.heap[k]? := fun k hk=>by
  have e:W.heap[k]?=some W.heap[k]:=by simp[hk]
  rw[e]
  exact hw k _ (by rw[ho k,e])
 refine⟨h2,h1.1,h3,?_,hb⟩
 rcases Nat.eq_zero_or_pos W.heap.size with h0|h0
 ·omega
 ·have:=hb (W.heap.size-1) ai
  have e:W.heap[W.heap.size-1]?=some W.heap[W.heap.size-1]:=by simp[h0]
  rw[e]at this
  have:=(Array.getElem?_eq_some_iff.1 this).1
  omega
theorem JZ{P:Program}{f:FuncId}{args:List Value}{W:World}(c:aD P f args [old W] (fun v H=>v = .bool true∧H=[old W])) :
  Calls P f args.toArray W fun e W'=>e = .returned (.bool true)∧Below W.heap.size W W' :=
 (c.2 (TK W) W [] (Oh W)).mono fun e W' h=>by
  obtain⟨v,H,rfl,⟨rfl,rfl⟩,hs⟩:=h
  exact⟨rfl,Ak hs⟩
theorem l9{W:World}{h:Hp}{b off:Nat}{v:Value}(ho:old W h)(hc:W.cell? ⟨b,off,none⟩=some v):cZ h b off=some v:=by
 unfold cZ
 rw[ho b]
 unfold World.cell? at hc
 simp only at hc
 split at hc
 ·rename_i c _ _ he
  rw[he]
  simpa using hc
 ·cases hc
theorem EP{W:World}{a:Addr}{len cap:Nat}{zs:List Int}(hl:len≤zs.length)(cZ:∀i,i<zs.length→W.cell? (a.add i)=some (.int .u8 (zs.getD i 0)))(hwf:∀n∈zs,(Lit.int .u8 n).wf=true) :
  ∃bs:List UInt8,bs.length=len∧Vw (old W) (.slice (some a) len cap) len (bV bs):=by
 refine⟨(zs.take len).map fun z=>UInt8.ofNat z.toNat,by simp;omega,some a,cap,rfl,?_⟩
 rcases Nat.eq_zero_or_pos len with h0|h0
 ·left;subst h0;simp[bV]
 ·right
  obtain⟨b,o,spot⟩:=a
  have gw:spot=none:=by simpa[Addr.add]using World.cell?_spot (cZ 0 ai)
  subst gw
  refine⟨b,o,rfl,fun h ho j c hj=>?_⟩
  have uy:j<len:=by
   rcases Nat.lt_or_ge j len with h|h
   ·exact h
   ·rw[List.getElem?_eq_none (by simp[bV];omega)]at hj;cases hj
  have h1:=cZ j ai
  rw[Addr.add_eq]at h1
  have h2:=l9 ho h1
  rw[h2]
  have hm:zs[j]' ai∈zs:=List.getElem_mem _
  have hw:=hwf _ hm
  have hb:0≤zs[j]' ai∧zs[j]' ai<256:=by
   simp only[Lit.wf,Bool.and_eq_true,decide_eq_true_eq]at hw
   have e1:IntKind.u8.min=0:=by decide
   have e2:IntKind.u8.max=255:=by decide
   omega
  simp only[bV,List.map_map,List.getElem?_map,List.getElem?_take,uy,if_true]at hj
  rw[List.getElem?_eq_getElem ai]at hj
  simp only[Option.map_some,Option.some.injEq,Function.comp]at hj
  rw[← hj,List.getD_eq_getElem?_getD,List.getElem?_eq_getElem ai]
  simp only[Option.getD_some,u8,UInt8.toNat_ofNat',Option.some.injEq]
  congr 1
  omega
theorem Kt(W:World):Vw (old W) (.slice none 0 0) 0 (bV []):=⟨none,0,rfl,.inl rfl⟩
theorem mF{z:Int}(h:(Lit.int .i64 z).wf=true) : -9223372036854775808≤z∧z≤9223372036854775807:=by
 simp only[Lit.wf,Bool.and_eq_true,decide_eq_true_eq]at h
 have e1:IntKind.i64.min = -9223372036854775808:=by decide
 have e2:IntKind.i64.max=9223372036854775807:=by decide
 omega
end Go.SL
namespace Go.SL
open Go.Proofs Go.Shelf Go.RowKit Go.Lib Go.Sort
theorem Sat.grown{G:cm}{w:World}{H:List HP}(hs:Sat G w H)(os:Array Obj):Sat G (Sort.grow w os) H:=by
 obtain⟨a,b,c,h,hw,hh⟩:=hs
 refine⟨a,b,c,h,fun x o e=>?_,hh⟩
 have h1:=hw x o e
 obtain⟨h2,-⟩:=Array.getElem?_eq_some_iff.1 h1
 show(w.heap++os)[x]?=some o
 rw[Array.getElem?_append_left h2]
 exact h1
theorem Sat.ahead{G:cm}{w:World}{H:List HP}(hs:Sat G w H)(n:Nat):Sat G (Sort.ahead w n) H:=hs.draw _ (Nat.le_add_right _ _)
theorem Sat.Zo{G:cm}{w:World}{H:List HP}{b:Nat}{l l':List Value}{e:TypeId}(hs:Sat G w (ag b (cl l e)::H))(f:Array Value→Array Value)(hf:f l.toArray=l'.toArray):Sat G (Sort.mapBlock w b f) (ag b (cl l' e)::H):=by
 have hb:=hs.get (i:=0) rfl
 obtain⟨cO,qe⟩:=Array.getElem?_eq_some_iff.1 hb
 have hm:w.heap.modify b (Sort.onCells f)=w.heap.setIfInBounds b (cl l' e):=by
  apply Array.ext_getElem?
  intro i
  rw[Array.getElem?_modify,Array.getElem?_setIfInBounds]
  by_cases h:b=i
  ·subst h
   rw[if_pos rfl,if_pos rfl,if_pos cO,hb]
   simp only[Option.map_some]
   unfold cl Sort.onCells
   simp only[hf]
  ·rw[if_neg h,if_neg h]
 unfold Sort.mapBlock
 rw[hm]
 exact hs.zw
variable{P:Program}{ρ:Ren}{α:Type}[Inhabited α]
theorem zF(pre cs wx bM:List Value)(hl:wx.length=cs.length):Sort.putCells id pre.length wx.toArray (pre++cs++bM).toArray=(pre++wx++bM).toArray:=by
 apply Array.ext_getElem?
 intro i
 unfold Sort.putCells
 rw[Array.getElem?_mapIdx]
 simp only[List.getElem?_toArray,id,List.size_toArray]
 rcases Nat.lt_or_ge i pre.length with h|h
 ·rw[List.append_assoc,List.append_assoc,List.getElem?_append_left h,List.getElem?_append_left h]
  cases pre[i]? with
  | none=>rfl
  | some x=>simp only[Option.map_some];rw[if_neg ai]
 ·rw[List.append_assoc,List.append_assoc,List.getElem?_append_right h,List.getElem?_append_right h]
  rcases Nat.lt_or_ge (i-pre.length) wx.length with h2|h2
  ·rw[List.getElem?_append_left ai,List.getElem?_append_left h2,List.getElem?_eq_getElem ai,List.getElem?_eq_getElem h2]
   simp only[Option.map_some]
   rw[if_pos ⟨h,ai⟩,getElem!_pos _ _ (by simpa using h2)]
   simp
  ·rw[List.getElem?_append_right ai,List.getElem?_append_right h2,hl]
   cases bM[i-pre.length-cs.length]? with
   | none=>rfl
   | some x=>simp only[Option.map_some];rw[if_neg ai]
theorem HV{w:World}{b:Nat}{e:TypeId}{pre cs bM:List Value}(hb:w.heap[b]?=some (cl (pre++cs++bM) e)):Sort.Holds id w b pre.length cs.toArray:=by
 intro j hj
 simp only[List.size_toArray]at hj
 constructor
 ·unfold World.cell?
  simp only[hb,cl,Option.isSome_none,Bool.false_eq_true,if_false,List.getElem?_toArray]
  rw[List.append_assoc,List.getElem?_append_right ai,Nat.add_sub_cancel_left,List.getElem?_append_left hj,getElem!_pos _ _ (by simpa using hj),List.getElem?_eq_getElem hj]
  simp
 ·unfold World.frozen?
  simp only[hb,cl]
  simp
end Go.SL
namespace Go.SL
open Go.Proofs Go.Shelf Go.RowKit Go.Lib Go.Sort
variable{P:Program}{ρ:Ren}
theorem A0(L:SlLaysN.n54 P ρ)(e:TypeId)(v:Value)(l:List (List UInt8))(YR:P.funcs[ρ.f 54]?.map mN=some true)(g8:l.length<4611686018427387904) :
  aD P (ρ.f 54) [v] [az e 1 v l.length (l.map encStr)] (fun r H=>r = .tuple #[]∧H=[az e 1 v l.length ((l.mergeSort fun x y=>decide (x≤y)).map encStr)]):=by
 refine⟨YR,fun G w F hs=>?_⟩
 obtain⟨t,o,u,hp,HS,hA,hB,⟨hl,ig⟩,TF,hd,he⟩:=hs
 rcases ig with⟨a0,rfl,hn,Ce⟩|⟨b,oo,cap,pre,bM,rfl,lE,hn,iy,tp⟩
 ·have Lb:l=[]:=List.eq_nil_of_length_eq_zero hn
  subst Lb
  refine(AnyG.slices_Sort_string_none L a0 0 w).mono ?_
  rintro e' w'⟨rfl,rfl⟩
  exact⟨_,_,rfl,⟨rfl,rfl⟩,t,o,u,hp,HS,hA,hB,⟨by simp,.inl ⟨a0,rfl,rfl,Ce⟩⟩,TF,hd,he⟩
 ·have AK:Sat G w (ag b (cl (pre++l.map encStr++bM) e)::F):=⟨t,o,u,hp,HS,hA,hB,tp,TF,hd,he⟩
  have hb:=AK.get (i:=0) rfl
  have cO:=AK.lt (i:=0) rfl
  subst lE
  have hH:Sort.Holds encStr w b pre.length l.toArray:=by
   have h0:=HV hb
   intro j hj
   have:=h0 j (by simpa using hj)
   simp only[List.size_toArray]at hj
   rw[getElem!_pos (l.map encStr).toArray j (by simpa using hj)]at this
   rw[getElem!_pos l.toArray j (by simpa using hj)]
   simpa using this
  have hS:=AnyG.slices_Sort_string L b pre.length cap l w hH cO g8
  refine hS.mono ?_
  rintro e' w'⟨rfl,n,os,rfl⟩
  refine⟨_,_,rfl,⟨rfl,rfl⟩,?_⟩
  have yF:(l.mergeSort fun x y=>decide (x≤y)).length=l.length:=List.length_mergeSort _
  have h3:=(AK.ahead n).Zo (Sort.putCells encStr pre.length (l.mergeSort fun x y=>decide (x≤y)).toArray) (l':=pre++(l.mergeSort fun x y=>decide (x≤y)).map encStr++bM) (by
   refine Eq.trans ?_ (zF pre (l.map encStr) ((l.mergeSort fun x y=>decide (x≤y)).map encStr) bM (by rw[List.length_map,List.length_map,yF]))
   unfold Sort.putCells
   congr 1
   funext i x
   simp only[List.size_toArray,List.length_map,id]
   split
   ·rename_i h
    rw[getElem!_pos (List.map encStr _).toArray (i-pre.length) (by simp;omega),getElem!_pos (l.mergeSort fun x y=>decide (x≤y)).toArray (i-pre.length) (by simp;omega)]
    simp
   ·rfl)
  have h4:=h3.grown os
  refine h4.aX ?_
  exact kU rfl hn (by rw[List.length_map]at iy ⊢;rw[yF];exact iy) (by rw[List.length_map,yF,Nat.mul_one]) F
end Go.SL
namespace Go.Proofs.YthjbidjmgbjkiaaGreatDoor
open Go Go.Shelf
def ym:Go.Shelf.Ren:=⟨fun|54=>170|64=>203|65=>202|78=>228|79=>229|80=>219|81=>220|82=>221|83=>222|84=>223|85=>224|61=>225|86=>226|87=>227|93=>239|89=>240|90=>241|94=>242|95=>243|69=>244|97=>246|n=>n,fun|25=>109|26=>9|3=>3|51=>142|0=>0|67=>143|69=>102|4=>4|61=>262|60=>261|44=>170|5=>5|9=>9|75=>278|79=>282|83=>284|84=>285|n=>n,fun|n=>n⟩
theorem V6:Go.Proofs.SlLaysN.n54 Tryz.prog ym:={
  mixed:=by kernel_rfl,
  f54:=⟨Tryz.f170.name,by decide,Tryz.func170.trans (congrArg some (by kernel_rfl))⟩,
  f61:=⟨Tryz.f225.name,by decide,Tryz.func225.trans (congrArg some (by kernel_rfl))⟩,
  f64:=Tryz.func203.trans (congrArg some (by kernel_rfl)),
  f65:=⟨Tryz.f202.name,by decide,Tryz.func202.trans (congrArg some (by kernel_rfl))⟩,
  f69:=⟨Tryz.f244.name,by decide,Tryz.func244.trans (congrArg some (by kernel_rfl))⟩,
  f78:=Tryz.func228.trans (congrArg some (by kernel_rfl)),
  f79:=Tryz.func229.trans (congrArg some (by kernel_rfl)),
  f80:=⟨Tryz.f219.name,by decide,Tryz.func219.trans (congrArg some (by kernel_rfl))⟩,
  f81:=⟨Tryz.f220.name,by decide,Tryz.func220.trans (congrArg some (by kernel_rfl))⟩,
  f82:=⟨Tryz.f221.name,by decide,Tryz.func221.trans (congrArg some (by kernel_rfl))⟩,
  f83:=⟨Tryz.f222.name,by decide,Tryz.func222.trans (congrArg some (by kernel_rfl))⟩,
  f84:=⟨Tryz.f223.name,by decide,Tryz.func223.trans (congrArg some (by kernel_rfl))⟩,
  f85:=⟨Tryz.f224.name,by decide,Tryz.func224.trans (congrArg some (by kernel_rfl))⟩,
  f86:=⟨Tryz.f226.name,by decide,Tryz.func226.trans (congrArg some (by kernel_rfl))⟩,
  f87:=⟨Tryz.f227.name,by decide,Tryz.func227.trans (congrArg some (by kernel_rfl))⟩,
  f89:=Tryz.func240.trans (congrArg some (by kernel_rfl)),
  f90:=Tryz.func241.trans (congrArg some (by kernel_rfl)),
  f93:=⟨Tryz.f239.name,by decide,Tryz.func239.trans (congrArg some (by kernel_rfl))⟩,
  f94:=⟨Tryz.f242.name,by decide,Tryz.func242.trans (congrArg some (by kernel_rfl))⟩,
  f95:=⟨Tryz.f243.name,by decide,Tryz.func243.trans (congrArg some (by kernel_rfl))⟩,
  f97:=⟨Tryz.f246.name,by decide,Tryz.func246.trans (congrArg some (by kernel_rfl))⟩,
  t0:=Tryz.underlying0,
  a0:=Tryz.isAgg0,
  z0:=Tryz.sizeOf0,
  v0:=Tryz.zeroValue0,
  t3:=Tryz.underlying3,
  a3:=Tryz.isAgg3,
  z3:=Tryz.sizeOf3,
  v3:=Tryz.zeroValue3,
  t4:=Tryz.underlying4,
  a4:=Tryz.isAgg4,
  z4:=Tryz.sizeOf4,
  v4:=Tryz.zeroValue4,
  t5:=Tryz.underlying5,
  a5:=Tryz.isAgg5,
  z5:=Tryz.sizeOf5,
  v5:=Tryz.zeroValue5,
  t9:=Tryz.underlying9,
  a9:=Tryz.isAgg9,
  z9:=Tryz.sizeOf9,
  v9:=Tryz.zeroValue9,
  t25:=Tryz.underlying109,
  a25:=Tryz.isAgg109,
  z25:=Tryz.sizeOf109,
  v25:=Tryz.zeroValue109,
  t26:=Tryz.underlying9,
  a26:=Tryz.isAgg9,
  z26:=Tryz.sizeOf9,
  v26:=Tryz.zeroValue9,
  t44:=Tryz.underlying170,
  a44:=Tryz.isAgg170,
  z44:=Tryz.sizeOf170,
  v44:=Tryz.zeroValue170,
  t51:=Tryz.underlying142,
  a51:=Tryz.isAgg142,
  z51:=Tryz.sizeOf142,
  v51:=Tryz.zeroValue142,
  t60:=Tryz.underlying261,
  a60:=Tryz.isAgg261,
  z60:=Tryz.sizeOf261,
  v60:=Tryz.zeroValue261,
  t61:=Tryz.underlying262,
  a61:=Tryz.isAgg262,
  z61:=Tryz.sizeOf262,
  v61:=Tryz.zeroValue262,
  t67:=Tryz.underlying143,
  a67:=Tryz.isAgg143,
  z67:=Tryz.sizeOf143,
  v67:=Tryz.zeroValue143,
  t69:=Tryz.underlying102,
  a69:=Tryz.isAgg102,
  z69:=Tryz.sizeOf102,
  v69:=Tryz.zeroValue102,
  t75:=Tryz.underlying278,
  a75:=Tryz.isAgg278,
  z75:=Tryz.sizeOf278,
  v75:=Tryz.zeroValue278,
  t79:=Tryz.underlying282,
  a79:=Tryz.isAgg282,
  z79:=Tryz.sizeOf282,
  v79:=Tryz.zeroValue282,
  t83:=Tryz.underlying284,
  a83:=Tryz.isAgg284,
  z83:=Tryz.sizeOf284,
  v83:=Tryz.zeroValue284,
  t84:=Tryz.underlying285,
  a84:=Tryz.isAgg285,
  z84:=Tryz.sizeOf285,
  v84:=Tryz.zeroValue285 }
end Go.Proofs.YthjbidjmgbjkiaaGreatDoor
namespace Go.Proofs.YthjbidjmgbjkiaaGreatDoor
open Go Go.SL
def sS(l:List ByteArray):List Value:=l.map Value.string
theorem Sq(l:List ByteArray):∀v∈sS l,v.oneCell'=true:=by
 intro v hv
 obtain⟨x,_,rfl⟩:=List.mem_map.1 hv
 rfl
def SI(bs:Nat)(ks:List ByteArray):HP:=fun h=>∃v:Value,True∧Sep [ag bs (cl [v] 109),az 9 1 v ks.length (sS ks)] h
theorem Gu(bs:Nat)(ks:List ByteArray):∀h,SI bs ks h→∃v:Value,True∧Sep [ag bs (cl [v] 109),az 9 1 v ks.length (sS ks)] h:=fun h hs=>hs
theorem CL(bs:Nat)(ks:List ByteArray)(v:Value)(H:List HP):aq (ag bs (cl [v] 109)::az 9 1 v ks.length (sS ks)::H) (SI bs ks::H) :=
 aq.fold (A:=SI bs ks) (B:=[ag bs (cl [v] 109),az 9 1 v ks.length (sS ks)]) fun h hs=>⟨h,sub.refl h,v,trivial,hs⟩
theorem OD:lq Tryz.prog 9 Value.string:=KI Tryz.underlying9
attribute [local irreducible] J K aD Ends ag az aL bK aZ aQ aV bg bQ SI
theorem Mj(bm:Nat):aD Tryz.prog 110 [.map (some bm)] [] (fun r H=>∃bx,r = .func (.func 171) #[] #[ptr bx]∧H=[ag bx (cl [.map (some bm)] 61)]):=by
 refine aD.enter Tryz.func110 ak rfl Tryz.ntmps110 zr zr ?_
 intro G F R hE
 refine go ?_
 refine bq zr zr bp ?_
 intro bx
 refine go ?_
 ((refine ae hE Tryz.func110 rfl _ rfl ⟨bx,rfl,rfl⟩ ad))
theorem IV(l bx bm:Nat)(es:List (ByteArray × Value))(kf:(es.map (·.1)).Nodup)(Lp:HP)(Inv:List ByteArray→HP)(hy:∀dn k,k∈es.map (·.1)→dn.length<es.length→bQ Tryz.prog l [.string k] [Lp,Inv dn] (fun v H=>v = .bool true∧H=[Lp,Inv (dn++[k])])) :
  aD Tryz.prog 171 [.func (.yield l) #[] #[],ptr bx] [Lp,ag bx (cl [.map (some bm)] 61),aL Value.string bm es,Inv [] ] (fun _ H=>∃dn:List ByteArray,dn.Perm (es.map (·.1))∧H=[Lp,ag bx (cl [.map (some bm)] 61),aL Value.string bm es,Inv dn]):=by
 refine aD.enter Tryz.func171 ak rfl Tryz.ntmps171 zr zr ?_
 intro G F R hE
 refine aj (aq.pick [2,0,1] rfl) ?_
 refine go ?_
 refine Az (kv:=Value.string) (es:=es) (U:=ao) 0 zr zr zr zr zr (fun _=>rfl) bp ?_
 intro it
 refine go ?_
 refine bo (fun s:List ByteArray=>s.Nodup∧∀x∈s,x∈es.map (·.1)) (fun s=>es.length-s.length) (fun s=>[(0,.func (.yield l) #[] #[]),(5,.pointer (some ⟨it,0,none⟩))])
  (fun s=>bK Value.string bm it es s::Lp::ag bx (cl [.map (some bm)] 61)::Inv s.reverse::F) [] ⟨List.nodup_nil,by simp⟩ rfl bY ad ?_
 rintro dn⟨yN,dH⟩ ih
 refine go ?_
 refine Fb (kv:=Value.string) (es:=es) 0 rfl OD.inj zr zr (fun _=>rfl) fR bp ?_ ?_
 ·intro fO
  refine go ?_
  refine aj (aq.head (B:=[aL Value.string bm es]) (fun h hs=>by obtain⟨h',s,hm⟩:=sZ h hs;exact⟨h',s,fE hm⟩)) ?_
  have hp:dn.reverse.Perm (es.map (·.1)):=(List.reverse_perm dn).trans ((List.perm_ext_iff_of_nodup yN kf).2 fun a=>⟨dH a,fun h=>by obtain⟨y,hy,rfl⟩:=List.mem_map.1 h;exact fO y hy⟩)
  ((refine bO hE Tryz.func171 rfl _ rfl ⟨_,hp,rfl⟩ ad))
 ·intro key v g9 xH
  have hk:key∈es.map (·.1):=List.mem_map.2 ⟨_,g9,rfl⟩
  have cO:dn.length<es.length:=by
   have h1:((List.filter (fun x=>decide (x∈dn)) (es.map (·.1)))).length≤(es.map (·.1)).length:=List.length_filter_le _ _
   have h2:dn.length=(List.filter (fun x=>decide (x∈dn)) (es.map (·.1))).length:=Ed yN (kf.sublist List.filter_sublist) (fun n=>by
    simp only[List.mem_filter,decide_eq_true_eq]
    exact⟨fun h=>⟨dH n h,h⟩,fun h=>h.2⟩)
   rw[List.length_map]at h1
   rcases Nat.lt_or_ge dn.length es.length with h|h
   ·exact h
   ·exfalso
    have h3:(List.filter (fun x=>decide (x∈dn)) (es.map (·.1))).length=(es.map (·.1)).length:=by rw[List.length_map];omega
    have h4:=List.filter_eq_self.1 ((List.filter_sublist (p:=fun x=>decide (x∈dn)) (l:=es.map (·.1))).eq_of_length h3) key hk
    exact xH (of_decide_eq_true h4)
  refine go ?_
  refine AD (kv:=Value.string) (es:=es) 0 rfl OD.inj zr zr g9 ?_
  refine go ?_
  refine jH zr zr zr (hy dn.reverse key hk (by rw[List.length_reverse];exact cO)) ad ?_ bE
  rintro _ _⟨rfl,rfl⟩
  rw[show dn.reverse++[key]=(key::dn).reverse from by simp]
  refine go ?_
  refine aO ih (key::dn) rfl (⟨List.nodup_cons.2 ⟨xH,yN⟩,fun x hx=>by rcases List.mem_cons.1 hx with rfl|h;exact hk;exact dH x h⟩) (by show _-(key::dn).length<_;simp only[List.length_cons];omega) bY ad
theorem xU(bx bm:Nat)(es:List (ByteArray × Value))(kf:(es.map (·.1)).Nodup)(qT:es.length≤1000000) :
  aD Tryz.prog 201 [.slice none 0 0,.func (.func 171) #[] #[ptr bx] ] [ag bx (cl [.map (some bm)] 61),aL Value.string bm es] (fun r H=>∃dn:List ByteArray,dn.Perm (es.map (·.1))∧H=[az 9 1 r dn.length (sS dn),ag bx (cl [.map (some bm)] 61),aL Value.string bm es]):=by
 refine aD.enter Tryz.func201 ak rfl Tryz.ntmps201 zr zr ?_
 intro G F R hE
 refine aE rfl ?_
 refine bq zr zr bp ?_
 intro bs
 refine go ?_
 refine gL rfl ?_
 refine aj (aq.trans (aq.cons _ (bw 9 1 none _)) (CL bs [] (.slice none 0 0) _)) ?_
 refine uU (Fr:=F) (Pre:=fun _ _=>[ag bx (cl [.map (some bm)] 61),aL Value.string bm es,SI bs [] ]) (Post:=?Po) rfl hE.1.1 rfl ?c (fun l r=>ad) ?fN
 case c =>
  intro l r
  refine IV l bx bm es kf _ (fun dn=>SI bs dn) ?_
  intro dn k hk cO
  refine bQ.BA zr zr ?_
  intro G2 F2 R2 hY
  refine go ?_
  refine e8 rfl hY ?_
  refine aj (aq.pick [1] rfl) ?_
  refine dM (Gu bs dn) ?_
  rintro v -
  refine db 1 rfl ?_
  rintro va vc rfl
  refine go ?_
  refine au (U:=ao) (cs:=sS [k]) zr zr zr zr zr zr zr zr zr bp ?_
  intro row
  refine go ?_
  refine bh (U:=ao) (mm:=1) (news:=sS [k]) 2 0 zr zr zr zr zr zr zr zr zr zr zr zr (Vw.ag rfl) rfl (Sq _) ai (by show(_+1)*16≤_;omega) (fun _=>rfl) bp ?_
  intro v1
  rw[show sS dn++sS [k]=sS (dn++[k])from by simp[sS],show dn.length+1=(dn++[k]).length from by simp]
  ((refine aM 2 rfl ?_))
  rintro Yc Yb rfl
  refine go ?_
  refine aj (aq.trans ad (CL bs (dn++[k]) (.slice Yc (dn++[k]).length Yb) _)) ?_
  refine eK hY rfl ad ⟨rfl,rfl⟩
 intro l r v H eH
 obtain⟨dn,hp,rfl⟩:=eH
 refine⟨_,_,_,rfl,by decide,?_⟩
 rw[hE.1.2]
 refine aj (aq.pick [2] rfl) ?_
 refine dM (Gu bs dn) ?_
 rintro w -
 refine go ?_
 refine pP hE Tryz.func201 rfl _ rfl ⟨dn,hp,rfl⟩ ad
theorem Dc(bx bm:Nat)(es:List (ByteArray × Value))(kf:(es.map (·.1)).Nodup)(qT:es.length≤1000000) :
  aD Tryz.prog 169 [.func (.func 171) #[] #[ptr bx] ] [ag bx (cl [.map (some bm)] 61),aL Value.string bm es] (fun r H=>∃dn:List ByteArray,dn.Perm (es.map (·.1))∧H=[az 9 1 r dn.length (sS dn),ag bx (cl [.map (some bm)] 61),aL Value.string bm es]):=by
 refine aD.enter Tryz.func169 ak rfl Tryz.ntmps169 zr zr ?_
 intro G F R hE
 refine go ?_
 ((refine ah zr zr zr zr (xU bx bm es kf qT) ad ?_ bE))
 rintro w _⟨dn,hp,rfl⟩
 refine go ?_
 ((refine ae hE Tryz.func169 rfl _ rfl ⟨dn,hp,rfl⟩ ad))
def nS(l:List (List UInt8)):List Value:=l.map Go.Proofs.encStr
theorem V7(l:List ByteArray):sS l=nS (l.map fun b=>b.data.toList):=by
 unfold sS nS
 rw[List.map_map]
 rfl
theorem II(v:Value)(l:List ByteArray)(hl:l.length≤1000000000):aD Tryz.prog 170 [v] [az 9 1 v l.length (sS l)] (fun r H=>r = .tuple #[]∧H=[az 9 1 v l.length (nS (n6 l))]):=by
 have h:=A0 (ρ:=ym) V6 9 v (l.map fun b=>b.data.toList) ak (by rw[List.length_map];omega)
 rw[List.length_map]at h
 rw[V7]
 exact h
theorem E1(bx bm:Nat)(es:List (ByteArray × Value))(kf:(es.map (·.1)).Nodup)(qT:es.length≤1000000) :
  aD Tryz.prog 109 [.func (.func 171) #[] #[ptr bx] ] [ag bx (cl [.map (some bm)] 61),aL Value.string bm es] (fun r H=>H=[az 9 1 r es.length (nS (n6 (es.map (·.1)))),ag bx (cl [.map (some bm)] 61),aL Value.string bm es]):=by
 refine aD.enter Tryz.func109 ak rfl Tryz.ntmps109 zr zr ?_
 intro G F R hE
 refine go ?_
 ((refine ah zr zr zr zr (Dc bx bm es kf qT) ad ?_ bE))
 rintro w _⟨dn,hp,rfl⟩
 have hlen:dn.length=es.length:=by rw[hp.length_eq,List.length_map]
 ((refine aM 0 rfl ?_))
 rintro wa wc rfl
 refine go ?_
 ((refine ah zr zr zr zr (II (.slice wa dn.length wc) dn ai) ad ?_ bE))
 rintro _ _⟨rfl,rfl⟩
 rw[DN hp,hlen]
 refine go ?_
 ((refine ae hE Tryz.func109 rfl _ zr zr ad))
theorem IT(bd:Nat)(D:Dk)(A:Ab)(hR:Rel D A):aD Tryz.prog 54 [ptr bd] [gx bd D] (fun r H=>H=[az 9 1 r (dG A).length (nS (n6 (dG A))),gx bd D]):=by
 have kf:=hR.nodup _ (List.mem_cons_self ..)
 have rF:=hR.ff _ (List.mem_cons_self ..)
 have B7:(fg A.names).map (·.1)=dG A:=by simp[fg,dG,Function.comp_def]
 have ND:(fg A.names).length=(dG A).length:=by simp[fg,dG]
 have fA:(dG A).length≤200:=by unfold dG;rw[List.length_map];exact rF
 obtain⟨jm,hjm⟩:=List.getElem?_of_mem hR.names
 obtain⟨room,bm,kE,lK,oe,off,maps,fp,files,lB,wl⟩:=D
 simp only at hjm
 refine aD.enter Tryz.func54 ak rfl Tryz.ntmps54 zr zr ?_
 intro G F R hE
 refine aj (iz _ _ _ _ _ _ _ _ _ _ _ _ _) ?_
 refine go ?_
 ((refine ah zr zr zr zr (Mj bm) ad ?_ bE))
 rintro _ _⟨bx,rfl,rfl⟩
 have Wt:=E1 bx bm (fg A.names) (by rw[B7];exact kf) ai
 rw[B7,ND]at Wt
 refine aG (aq.pick [2] rfl) ?_
 refine aG (kF mB hjm _) ?_
 refine aG (aq.pick [2,0] rfl) ?_
 refine go ?_
 refine ah zr zr zr zr Wt ad ?_ bE
 rintro v _ rfl
 refine aG (aq.pick [2,3] rfl) ?_
 refine aG (q7 mB hjm _) ?_
 refine go ?_
 refine aj ((aq.pick [3,0,4,5,6,7] rfl).trans (dL _ _ _ _ _ _ _ _ _ _ _ _ _)) ?_
 ((refine ae hE Tryz.func54 rfl _ zr zr ad))
end Go.Proofs.YthjbidjmgbjkiaaGreatDoor
namespace Go.Proofs.YthjbidjmgbjkiaaGreatDoor
open Go Go.SL
attribute [local irreducible] J K aD Ends ag az aL bK aZ aQ aV bg bQ Sha.chunks Sha.chunk Sha.rounds Sha.sched dA cd GI cI
structure GF(A:Ab):Prop where
 ids:(A.fs.map (·.1)).Nodup
 known:∀st∈A.names::A.aH,∀x∈st,x.2∈A.fs.map (·.1)
 gZ:∀x∈A.writes,x.1∈A.fs.map (·.1)
 nodup:∀st∈A.names::A.aH,(st.map (·.1)).Nodup
 gl:∀x∈A.fs,x.2.1.length≤1048576∧x.2.2.length≤1048576
 iv:∀x∈A.writes,x.2.1+x.2.2.length≤1048576
 ff:∀st∈A.names::A.aH,st.length≤200
 gY:A.room≤1073741824
 full:A.aH≠[]
theorem GF.of{D:Dk}{A:Ab}(h:Rel D A):GF A:=⟨h.ids,h.known,h.gZ,h.nodup,h.gl,h.iv,h.ff,h.gY,h.full⟩
theorem GF.file{A:Ab}(h:GF A)(f:Nat):(A.file f).1.length≤1048576∧(A.file f).2.length≤1048576:=by
 unfold Ab.file
 cases hx:A.fs.find? (fun x=>decide (x.1=f))with
 | none=>simp
 | some x=>exact h.gl x (List.mem_of_find?_eq_some hx)
theorem GF.now{A:Ab}(h:GF A)(f:Nat):(A.now f).length≤1048576:=(h.file f).1
theorem z8{G:cm}{w:World}{H:List HP}(hs:Sat G w H){i:Nat}{A:HP}(hi:cf H i=some A):∃h,A h:=let ⟨h,_,hA⟩:=hs.j7 hi;⟨h,hA⟩
theorem Cu{bd:Nat}{A:Ab}{h:Hp}(hd:aC bd A h):GF A:=let ⟨_,hR,_⟩:=hd;GF.of hR
section
variable{P:Program}{f:FuncId}{n:Nat}{R:Ending→World→Prop}{G:cm}{k:List Item}{L:eN}{H:List HP}{S:World→Prop}{all:Array Oper}{rest:Pl}
theorem sw{bd:Nat}{A:Ab}(i:Nat)(hi:cf H i=some (aC bd A))(h:GF A→K P f n R G k L H):K P f n R G k L H :=
 qj fun⟨w,hw⟩=>by obtain⟨h1,hA⟩:=z8 hw hi;exact h (Cu hA)
theorem Gy{bd:Nat}{A:Ab}(i:Nat)(hi:cf H i=some (aC bd A))(h:GF A→J P f n R G S all rest k L H):J P f n R G S all rest k L H :=
 zd fun w hw=>by obtain⟨h1,hA⟩:=z8 hw hi;exact h (Cu hA)
end
attribute [local irreducible] aC
def dK(bd:Nat)(q:Int)(mb:Nat)(brk:Bool):List Value:=[ptr bd,.int .i64 q,.map (some mb),.bool brk]
theorem mL(kind:List UInt8)(d:Dg)(hk:kind.length≤1000):aD Tryz.prog 75 [.string (strOf kind),dV d] [] (fun r H=>r = .string (cL kind d)∧H=[]):=by
 have ht:=L2 d
 unfold dV at ht ⊢
 refine aD.enter Tryz.func75 ak rfl Tryz.ntmps75 zr zr ?_
 intro G F R hE
 refine aE rfl ?_
 refine bq zr zr bp ?_
 intro b3
 refine go ?_
 refine aI (U:=ao) (l:=dC d) 0 zr zr zr zr zr zr ?_
 ((refine ah zr zr zr zr (ht) ad ?_ bE))
 rintro _ _⟨rfl,rfl⟩
 refine wX zr zr zr (by show kind.length+(gb d).length≤_;rw[jl];omega) ?_
 ((refine aB 8 ((.string (cL kind d))) rfl ((congrArg Value.string (by unfold cL strOf;apply ByteArray.ext;simp))) ?_))
 refine go ?_
 ((refine ae hE Tryz.func75 rfl _ rfl ⟨rfl,rfl⟩ ad))
def Ci(o:Option Dg):Value:=match o with
 | none => .tuple #[dV Dg.zero,.bool false]
 | some d => .tuple #[dV d,.bool true]
theorem LB(s:ByteArray)(k:Nat):s.extract (0:Int).toNat (k:Int).toNat=strOf (s.data.toList.take k):=by
 unfold strOf
 apply ByteArray.ext
 apply Array.ext'
 rw[ByteArray.data_extract]
 simp
theorem LC(s:ByteArray)(k:Nat):s.extract (k:Int).toNat (s.size:Int).toNat=strOf (s.data.toList.drop k):=by
 unfold strOf
 apply ByteArray.ext
 apply Array.ext'
 have:s.size=s.data.toList.length:=rfl
 rw[ByteArray.data_extract,this]
 simp
 rw[List.take_of_length_le (by simp)]
set_option maxRecDepth 20000 in
theorem Ch(kind:List UInt8)(nm:ByteArray)(hk:kind.length≤1000):aD Tryz.prog 111 [.string (strOf kind),.string nm] [] (fun r H=>r=Ci (ij kind nm)∧H=[]):=by
 have Tb:(strOf kind).size=kind.length:=rfl
 have OR:nm.size=nm.data.toList.length:=rfl
 refine aD.enter Tryz.func111 ak rfl Tryz.ntmps111 zr zr ?_
 intro G F R hE
 refine aE rfl ?_
 refine aN (U:=ao) zr zr zr bp ?_
 intro b4
 have hN:¬kind.isPrefixOf nm.data.toList=true→ij kind nm=none:=fun h=>by unfold ij;rw[if_neg h]
 have hP:kind.isPrefixOf nm.data.toList=true→ij kind nm=iO (nm.data.toList.drop kind.length):=fun h=>by unfold ij;rw[if_pos h]
 have Li:kind.isPrefixOf nm.data.toList=true↔nm.data.toList.take kind.length=kind:=by
  rw[List.isPrefixOf_iff_prefix,List.prefix_iff_eq_take]
  exact eq_comm
 refine go ?_
 refine gN zr zr zr zr ?_ ?_
 ·intro cO
  have K4:=hN (fun h=>by rw[Li]at h;have:=congrArg List.length h;rw[List.length_take]at this;omega)
  rw[K4]at hE
  refine go ?_
  refine iU (U:=ao) zr zr zr zr zr ?_
  refine go ?_
  (refine aU hE ?_;apply aR (U:=ao) hE Tryz.func111 rfl (aq.refl _);(repeat(first|exact aK.nil|apply aK.tmp rfl|apply aK.agg 0 zr zr zr zr zr));exact⟨rfl,rfl⟩;exact ad)
 ·intro eQ
  have Uw:(kind.length:Int)≤(nm.size:Int):=by omega
  refine go ?_
  refine wY (U:=ao) (p:=0) (q:=(kind.length:Int)) zr zr zr zr zr zr (Int.le_refl _) (Int.natCast_nonneg _) Uw ?_
  ((refine aB 17 ((.string (strOf (nm.data.toList.take kind.length)))) rfl ((congrArg Value.string (LB nm kind.length))) ?_))
  refine go ?_
  refine bj 20 (.bool (!decide (nm.data.toList.take kind.length=kind))) rfl (by rw[yS]) ?_
  by_cases hp:nm.data.toList.take kind.length=kind
  ·rw[decide_eq_true hp]
   have hh:=hP (Li.2 hp)
   rw[hh]at hE
   refine go ?_
   refine wY (U:=ao) (p:=(kind.length:Int)) (q:=(nm.size:Int)) zr zr zr zr zr zr (Int.natCast_nonneg _) Uw (Int.le_refl _) ?_
   ((refine aB 26 ((.string (strOf (nm.data.toList.drop kind.length)))) rfl ((congrArg Value.string (LC nm kind.length))) ?_))
   have WI:=IM (strOf (nm.data.toList.drop kind.length))
   rw[qo]at WI
   ((refine ah zr zr zr zr (WI) ad ?_ bE))
   rintro _ _⟨rfl,rfl⟩
   cases sI:iO (nm.data.toList.drop kind.length)with
   | none =>
    rw[sI]at hE
    simp only
    unfold dV
    refine go ?_
    refine aN (U:=ao) zr zr zr bp ?_
    intro b6
    refine go ?_
    refine aI (U:=ao) (l:=dC Dg.zero) 0 zr zr zr zr zr zr ?_
    refine go ?_
    (refine aU hE ?_;apply aR (U:=ao) hE Tryz.func111 rfl (aq.refl _);(repeat(first|exact aK.nil|apply aK.tmp rfl|apply aK.agg 1 zr zr zr zr zr));exact⟨rfl,rfl⟩;exact ad)
   | some d =>
    rw[sI]at hE
    simp only
    unfold dV
    refine go ?_
    refine aN (U:=ao) zr zr zr bp ?_
    intro b6
    refine go ?_
    refine aI (U:=ao) (l:=dC d) 0 zr zr zr zr zr zr ?_
    refine go ?_
    (refine aU hE ?_;apply aR (U:=ao) hE Tryz.func111 rfl (aq.refl _);(repeat(first|exact aK.nil|apply aK.tmp rfl|apply aK.agg 1 zr zr zr zr zr));exact⟨rfl,rfl⟩;exact ad)
  ·rw[decide_eq_false hp]
   have K4:=hN (fun h=>hp (Li.1 h))
   rw[K4]at hE
   refine go ?_
   refine iU (U:=ao) zr zr zr zr zr ?_
   refine go ?_
   (refine aU hE ?_;apply aR (U:=ao) hE Tryz.func111 rfl (aq.refl _);(repeat(first|exact aK.nil|apply aK.tmp rfl|apply aK.agg 0 zr zr zr zr zr));exact⟨rfl,rfl⟩;exact ad)
theorem JP(A:Ab)(nm:ByteArray):decide (((A.size nm).2:Int)=0)=pW A nm:=by
 unfold Ab.size pW
 cases A.look nm <;> rfl
theorem KM(bs bd:Nat)(q:Int)(mb:Nat)(brk:Bool)(A:Ab)(nm:ByteArray):aD Tryz.prog 76 [ptr bs,.string nm] [ag bs (cl (dK bd q mb brk) 108),aC bd A]
  (fun r H=>r = .bool (pW A nm)∧H=[ag bs (cl (dK bd q mb brk) 108),aC bd A]):=by
 have hs:=JP A nm
 refine aD.enter Tryz.func76 ak rfl Tryz.ntmps76 zr zr ?_
 intro G F R hE
 refine go ?_
 ((refine ah zr zr zr zr (sh bd A nm) ad ?_ bE))
 rintro _ _⟨rfl,rfl⟩
 refine go ?_
 rw[← hs]at hE
 ((refine ae hE Tryz.func76 rfl _ rfl ⟨rfl,rfl⟩ ad))
theorem tC(bs bd:Nat)(q:Int)(mb:Nat)(brk:Bool)(A:Ab)(nm:ByteArray):aD Tryz.prog 97 [ptr bs,.string nm] [ag bs (cl (dK bd q mb brk) 108),aC bd A]
  (fun r H=>∃rv,r = .tuple #[rv,.bool (eJ A nm).isSome]∧H=[az 5 1 rv ((eJ A nm).getD []).length (bV ((eJ A nm).getD [])),ag bs (cl (dK bd q mb brk) 108),aC bd A]):=by
 refine aD.enter Tryz.func97 ak rfl Tryz.ntmps97 zr zr ?_
 intro G F R hE
 refine go ?_
 ((refine ah zr zr zr zr (sh bd A nm) ad ?_ bE))
 rintro _ _⟨rfl,rfl⟩
 have hn:A.look nm=none→eJ A nm=none∧A.size nm=(0,4):=fun h=>by unfold eJ Ab.size;rw[h];exact⟨rfl,rfl⟩
 have hr:∀f,A.look nm=some f→A.size nm=((A.now f).length,0)∧A.read nm 0 ((A.now f).length:Int)=((eJ A nm).getD [],if(eJ A nm).isSome then 0 else 7):=fun f h=>by
  unfold eJ Ab.size Ab.read
  rw[h]
  cases ie:A.off with
  | true=>exact⟨rfl,rfl⟩
  | false =>
   refine⟨rfl,?_⟩
   simp only[Bool.false_eq_true,if_false,Option.getD_some,Option.isSome_some,if_true]
   rw[if_neg ai]
   simp
 cases hl:A.look nm with
 | none =>
  obtain⟨h1,h2⟩:=hn hl
  rw[h2]
  rw[h1]at hE
  simp only
  refine go ?_
  refine aj (bw 5 1 none _) ?_
  ((refine ae hE Tryz.func97 rfl _ rfl ⟨_,rfl,rfl⟩ ad))
 | some f =>
  obtain⟨h1,h2⟩:=hr f hl
  rw[h1]
  simp only
  have qA:=As bd A nm 0 ((A.now f).length:Int)
  rw[h2]at qA
  refine go ?_
  ((refine ah zr zr zr zr (qA) ad ?_ bE))
  rintro _ _⟨r,rfl,rfl⟩
  generalize eJ A nm=o at hE ⊢
  cases o with
  | none =>
   refine go ?_
   ((refine ae hE Tryz.func97 rfl _ rfl ⟨_,rfl,rfl⟩ ad))
  | some b =>
   refine go ?_
   ((refine ae hE Tryz.func97 rfl _ rfl ⟨_,rfl,rfl⟩ ad))
end Go.Proofs.YthjbidjmgbjkiaaGreatDoor
namespace Go.SL
open Go
namespace Sha
theorem zu(c:UInt8)(k:Nat)(hk:k≤24):(wB c <<< k).toNat=c.toNat*2 ^ k:=by
 have:=c.toNat_lt
 rw[BitVec.toNat_shiftLeft,ql,Nat.shiftLeft_eq]
 have h2:2 ^ k≤2 ^ 24:=Nat.pow_le_pow_right ai hk
 rw[Nat.mod_eq_of_lt]
 calc c.toNat*2 ^ k<2 ^ 8*2 ^ 24:=Nat.mul_lt_mul_of_lt_of_le ai h2 (Nat.pow_pos ai)
  _=2 ^ 32:=by decide
theorem Jy(a b c d:Nat)(ha:a<256)(hb:b<256)(hc:c<256)(hd:d<256):((a*2 ^ 24 ||| b*2 ^ 16) ||| c*2 ^ 8) ||| d=((a*256+b)*256+c)*256+d:=by
 have e1:a*2 ^ 24 ||| b*2 ^ 16=(a*256+b)*2 ^ 16:=by
  rw[Nat.or_comm,nh (k:=24) ai];omega
 have e2:(a*256+b)*2 ^ 16 ||| c*2 ^ 8=((a*256+b)*256+c)*2 ^ 8:=by
  rw[Nat.or_comm,nh (k:=16) ai];omega
 have e3:((a*256+b)*256+c)*2 ^ 8 ||| d=((a*256+b)*256+c)*256+d:=by
  rw[Nat.or_comm,nh (k:=8) ai];omega
 rw[e1,e2,e3]
theorem Jz(a b c d:UInt8):wB a*16777216#32+wB b*65536#32+wB c*256#32+wB d=(wB a <<< 24 ||| wB b <<< 16 ||| wB c <<< 8 ||| wB d:ir):=by
 have ha:=a.toNat_lt;have hb:=b.toNat_lt;have hc:=c.toNat_lt;have hd:=d.toNat_lt
 apply BitVec.eq_of_toNat_eq
 rw[BitVec.toNat_or,BitVec.toNat_or,BitVec.toNat_or,zu _ 24 ai,zu _ 16 ai,zu _ 8 ai,ql,Jy _ _ _ _ ha hb hc hd,
  BitVec.toNat_add,BitVec.toNat_add,BitVec.toNat_add,BitVec.toNat_mul,BitVec.toNat_mul,BitVec.toNat_mul,ql,ql,ql,ql,BitVec.toNat_ofNat,BitVec.toNat_ofNat,BitVec.toNat_ofNat]
 generalize a.toNat=p at *
 generalize b.toNat=q at *
 generalize c.toNat=r at *
 generalize d.toNat=u at *
 omega
end Sha
end Go.SL
namespace Go.Proofs.YthjbidjmgbjkiaaGreatDoor
open Go Go.SL
attribute [local irreducible] J K aD Ends ag az aL bK aZ aQ aV bg bQ
theorem fe(x:ir)(n:Nat)(h1:1≤n)(h2:n≤31):aD Tryz.prog 166 [u32 x,.int .u64 (n:Int)] [] (fun r H=>r=u32 (Sha.sH x n)∧H=[]):=by
 unfold u32
 rw[← Sha.M4 x n h1 h2]
 refine aD.enter Tryz.func166 ak rfl Tryz.ntmps166 zr zr ?_
 intro G F R hE
 refine go ?_
 refine oX n zr zr zr zr ai ?_
 refine go ?_
 ((refine aB 10 ((.int .u64 ((32-n:Nat):Int))) rfl ((congrArg (Value.int .u64) ai)) ?_))
 refine Fa (32-n) zr zr zr zr ai ?_
 refine hG zr zr zr ?_
 refine go ?_
 ((refine ae hE Tryz.func166 rfl _ rfl ⟨rfl,rfl⟩ ad))
theorem MW(a b c:ir):aD Tryz.prog 167 [u32 a,u32 b,u32 c] [] (fun r H=>r=u32 (Sha.Wc a b c)∧H=[]):=by
 unfold u32
 rw[← Sha.No a b c]
 refine aD.enter Tryz.func167 ak rfl Tryz.ntmps167 zr zr ?_
 intro G F R hE
 refine go ?_
 (repeat(first|refine fk ?_|refine AE zr zr zr ?_|refine CW zr zr zr ?_))
 ((refine ae hE Tryz.func167 rfl _ rfl ⟨rfl,rfl⟩ ad))
set_option maxRecDepth 20000 in
theorem xP:aD Tryz.prog 165 [] [] (fun r H=>r = .agg (wV Sha.ks).toArray∧H=[]):=by
 refine aD.enter Tryz.func165 ak rfl Tryz.ntmps165 zr zr ?_
 intro G F R hE
 refine aE rfl ?_
 refine aN (U:=ao) zr zr zr bp ?_
 intro b0
 (refine nN ?_)
 refine aE rfl ?_
 refine lx (U:=ao) (cs:=wV Sha.ks) zr zr zr zr zr zr ?_
 refine cn (U:=ao) (l':=wV Sha.ks) 0 fR zr zr zr zr (by decide) (eC _) zr zr zr ?_
 refine go ?_
 refine iB (U:=ao) 0 hE Tryz.func165 zr zr zr zr zr zr zr ⟨rfl,rfl⟩ ad
theorem A8(b:List UInt8)(t:Nat)(h:t<16):(Sha.dS b t).set t (Sha.word b t)=Sha.dS b (t+1):=by
 unfold Sha.dS
 rw[List.set_append_right _ _ (by rw[Sha.dm];exact Nat.le_refl _),Sha.dm,Nat.sub_self,show 64-t=(64-(t+1))+1 from by omega,List.replicate_succ,List.set_cons_zero]
 conv=>rhs;unfold Sha.sched
 rw[if_pos h]
 simp
attribute [local irreducible] Sha.chunks Sha.chunk Sha.rounds Sha.sched dA
set_option maxRecDepth 20000 in
theorem GJ(A:HP)(v:Value)(b:List UInt8)(hv:dR A v b)(Ju:64≤b.length) :
  aD Tryz.prog 164 [v] [A] (fun r H=>r = .agg (wV (Sha.sched b 64)).toArray∧H=[A]):=by
 obtain⟨a,c,rfl,hc⟩:=hv.2
 refine aD.enter Tryz.func164 ak rfl Tryz.ntmps164 zr zr ?_
 intro G F R hE
 refine aE rfl ?_
 refine aN (U:=ao) zr zr zr bp ?_
 intro b2
 (refine nN ?_)
 (refine aE rfl ?_;refine nN ?_)
 refine aN (U:=ao) zr zr zr bp ?_
 intro b3
 refine go ?_
 have hz:Sha.dS b 0=List.replicate 64 0:=by unfold Sha.dS;unfold Sha.sched;rfl
 refine bo (fun t:Nat=>t≤16) (fun t=>16-t)
  (fun t=>[(0,.slice a b.length c),(2,ptr b2),(3,ptr b3),(4,.int .i64 (t:Int))])
  (fun t=>ag b3 (cl (wV (Sha.dS b t)) 206)::ag b2 (cl (wV (List.replicate 64 0)) 206)::A::F) 0 (Nat.zero_le _) rfl bY (by rw[hz];exact ad) ?_
 rintro t ht ih
 have hlen:=Sha.qp b t ai
 refine go ?_
 refine aw zr zr ?_ ?_
 ·intro cO
  have HN:t<16:=by omega
  obtain⟨bb,oo,cc,fA⟩:=hv.1.some (by intro e;have:=congrArg List.length e;rw[bt,List.length_nil]at this;omega)
  simp only[Value.slice.injEq,true_and]at fA
  obtain⟨rfl,rfl⟩:=fA
  have hg:∀j,j<4→(bV b)[4*t+j]?=some (u8 (b.getD (4*t+j) 0)):=fun j hj=>oP (by rw[List.getD_eq_getElem?_getD,List.getElem?_eq_getElem ai];rfl)
  have fM:=A8 b t HN
  have hw:wB (b.getD (4*t+0) 0)*16777216#32+wB (b.getD (4*t+1) 0)*65536#32+wB (b.getD (4*t+2) 0)*256#32+wB (b.getD (4*t+3) 0)=Sha.word b t:=Sha.Jz _ _ _ _
  have g0:=hg 0 ai
  have g1:=hg 1 ai
  have g2:=hg 2 ai
  have g3:=hg 3 ai
  generalize b.getD (4*t+0) 0=x0 at hw g0
  generalize b.getD (4*t+1) 0=x1 at hw g1
  generalize b.getD (4*t+2) 0=x2 at hw g2
  generalize b.getD (4*t+3) 0=x3 at hw g3
  refine go ?_
  refine aF (fun w=>Sat G w ([A])) (.st 0 (.st 1 (.st 2 (.st 3 (.st 4 (.st 5 (.st 6 (.st 7 (.st 8 (.st 9 (.st 10 (.st 11 (.st 12 (.st 13 (.st 14 (.st 15 (.st 16 (.st 17 (.st 18 (.st 19 (.st 20 (.st 21 (.st 22 (.st 23 (.st 24 (.st 25 (.st 26 (.st 27 (.st 28 (.st 29 (.st 30 (.st 31 (.st 32 (.st 33 (.st 34 (.act 35 .nil)))))))))))))))))))))))))))))))))))) rfl ak ak ak (fun w hw=>hw.aX ad) ?_
  refine go ?_
  (refine go ?_;refine gi zr zr zr (by simp only[fz];omega) ?_;refine go ?_;refine cK (U:=ao) (4*t+0) zr zr zr zr zr zr zr ai ai ?_;refine aJ ?_;refine cz (U:=ao) 0 (4*t+0) zr zr zr hv.1 rfl g0 zr zr ?_;refine dW ?_;refine oW (U:=ao) zr zr zr zr zr zr ?_)
  refine Fc (q:=16777216#32) zr zr zr ?_
  (refine go ?_;refine gi zr zr zr (by simp only[fz];omega) ?_;refine go ?_;refine cK (U:=ao) (4*t+1) zr zr zr zr zr zr zr ai ai ?_;refine aJ ?_;refine cz (U:=ao) 0 (4*t+1) zr zr zr hv.1 rfl g1 zr zr ?_;refine dW ?_;refine oW (U:=ao) zr zr zr zr zr zr ?_)
  refine Fc (q:=65536#32) zr zr zr ?_
  refine iV zr zr zr ?_
  (refine go ?_;refine gi zr zr zr (by simp only[fz];omega) ?_;refine go ?_;refine cK (U:=ao) (4*t+2) zr zr zr zr zr zr zr ai ai ?_;refine aJ ?_;refine cz (U:=ao) 0 (4*t+2) zr zr zr hv.1 rfl g2 zr zr ?_;refine dW ?_;refine oW (U:=ao) zr zr zr zr zr zr ?_)
  refine Fc (q:=256#32) zr zr zr ?_
  refine iV zr zr zr ?_
  (refine go ?_;refine gi zr zr zr (by simp only[fz];omega) ?_;refine go ?_;refine cK (U:=ao) (4*t+3) zr zr zr zr zr zr zr ai ai ?_;refine aJ ?_;refine cz (U:=ao) 0 (4*t+3) zr zr zr hv.1 rfl g3 zr zr ?_;refine dW ?_;refine oW (U:=ao) zr zr zr zr zr zr ?_)
  refine iV zr zr zr ?_
  rw[hw]
  refine dF (U:=ao) t zr zr zr zr zr zr zr zr ai ?_
  refine aS ?_
  refine fV (U:=ao) 0 fR zr zr zr zr zr zr zr (by rw[j4,hlen];omega) rfl ?_
  rw[show 0+t=t from Nat.zero_add _]
  refine go ?_
  have BY:=(u3 (Sha.dS b t) t _).trans (congrArg wV fM)
  refine aj (H':=ag b3 (cl (wV (Sha.dS b (t+1))) 206)::ag b2 (cl (wV (List.replicate 64 0)) 206)::A::F) (by rw[← BY];exact aq.refl _) ?_
  refine aO ih (t+1) rfl ai ai bY ad
 intro eQ
 have ZZ:t=16:=by omega
 subst ZZ
 clear ih
 refine go ?_
 refine bo (fun t:Nat=>16≤t∧t≤64) (fun t=>64-t)
  (fun t=>[(2,ptr b2),(3,ptr b3),(5,.int .i64 (t:Int))])
  (fun t=>ag b3 (cl (wV (Sha.dS b t)) 206)::ag b2 (cl (wV (List.replicate 64 0)) 206)::A::F) 16 ⟨ai,ai⟩ rfl bY ad ?_
 rintro t⟨HN,Ws⟩ ih
 have hlen:=Sha.qp b t Ws
 refine go ?_
 refine aw zr zr ?_ ?_
 ·intro cO
  have ht:t<64:=by omega
  have g2:=Sha.gD b t (t-2) ai
  have g7:=Sha.gD b t (t-7) ai
  have Y6:=Sha.gD b t (t-15) ai
  have Y5:=Sha.gD b t (t-16) ai
  have iF:=Sha.tN b t HN ht
  generalize (Sha.sched b t).getD (t-2) 0=y2 at g2 iF
  generalize (Sha.sched b t).getD (t-7) 0=y7 at g7 iF
  generalize (Sha.sched b t).getD (t-15) 0=y15 at Y6 iF
  generalize (Sha.sched b t).getD (t-16) 0=y16 at Y5 iF
  have XA:y16+y7+(Sha.sH y15 7 ^^^ Sha.sH y15 18 ^^^ y15 >>> 3)+(Sha.sH y2 17 ^^^ Sha.sH y2 19 ^^^ y2 >>> 10)=y16+y7+Sha.s1 y2+Sha.s0 y15:=by
   show y16+y7+Sha.s0 y15+Sha.s1 y2=_
   rw[BitVec.add_assoc,BitVec.add_comm (Sha.s0 y15),← BitVec.add_assoc]
  refine go ?_
  refine dF (U:=ao) (t-15) zr zr zr zr zr zr zr ai ai ?_
  refine aJ ?_
  refine lu (U:=ao) 0 (t-15) zr zr zr (Nat.zero_add _) (gA Y6) zr zr ?_
  refine go ?_
  refine dF (U:=ao) (t-2) zr zr zr zr zr zr zr ai ai ?_
  refine aJ ?_
  refine lu (U:=ao) 0 (t-2) zr zr zr (Nat.zero_add _) (gA g2) zr zr ?_
  refine go ?_
  refine aF (fun w=>Sat G w ([ag b3 (cl (wV (Sha.dS b t)) 206)])) (.st 0 (.st 1 (.st 2 (.st 3 (.st 4 (.st 5 (.st 6 (.st 7 (.st 8 (.st 9 (.st 10 (.st 12 (.st 15 (.st 16 (.st 19 (.st 21 (.st 24 (.st 25 (.act 11 (.act 13 (.st 14 (.st 17 (.st 18 (.act 20 (.act 22 (.st 23 (.st 26 (.st 27 (.st 28 (.act 29 .nil)))))))))))))))))))))))))))))) rfl ak ak ak (fun w hw=>hw.aX ad) ?_
  refine go ?_
  refine dF (U:=ao) (t-16) zr zr zr zr zr zr zr ai ai ?_
  refine aJ ?_
  refine dU (U:=ao) 0 (t-16) zr zr zr (Nat.zero_add _) (gA Y5) zr zr ?_
  refine go ?_
  refine dF (U:=ao) (t-7) zr zr zr zr zr zr zr ai ai ?_
  refine aJ ?_
  refine dU (U:=ao) 0 (t-7) zr zr zr (Nat.zero_add _) (gA g7) zr zr ?_
  refine iV zr zr zr ?_
  refine go ?_
  refine oX 3 zr zr zr zr ai ?_
  refine go ?_
  refine oX 10 zr zr zr zr ai ?_
  ((refine ah rfl rfl rfl rfl ((fe y15 7 ai ai)) ad ?_ (fun _ _ w hp hw=>by obtain⟨rfl,rfl⟩:=hp;exact hw.aX ad)))
  rintro _ _⟨rfl,rfl⟩
  ((refine ah rfl rfl rfl rfl ((fe y15 18 ai ai)) ad ?_ (fun _ _ w hp hw=>by obtain⟨rfl,rfl⟩:=hp;exact hw.aX ad)))
  rintro _ _⟨rfl,rfl⟩
  refine hG zr zr zr ?_
  refine hG zr zr zr ?_
  refine iV zr zr zr ?_
  ((refine ah rfl rfl rfl rfl ((fe y2 17 ai ai)) ad ?_ (fun _ _ w hp hw=>by obtain⟨rfl,rfl⟩:=hp;exact hw.aX ad)))
  rintro _ _⟨rfl,rfl⟩
  ((refine ah rfl rfl rfl rfl ((fe y2 19 ai ai)) ad ?_ (fun _ _ w hp hw=>by obtain⟨rfl,rfl⟩:=hp;exact hw.aX ad)))
  rintro _ _⟨rfl,rfl⟩
  refine hG zr zr zr ?_
  refine hG zr zr zr ?_
  refine iV zr zr zr ?_
  rw[XA]
  refine dF (U:=ao) t zr zr zr zr zr zr zr zr ai ?_
  refine aS ?_
  refine fV (U:=ao) 0 fR zr zr zr zr zr zr zr (by rw[j4,hlen];omega) rfl ?_
  rw[show 0+t=t from Nat.zero_add _]
  refine go ?_
  have BY:=(u3 (Sha.dS b t) t _).trans (congrArg wV iF)
  refine aj (H':=ag b3 (cl (wV (Sha.dS b (t+1))) 206)::ag b2 (cl (wV (List.replicate 64 0)) 206)::A::F) (by rw[← BY];exact aq.refl _) ?_
  refine aO ih (t+1) rfl ⟨ai,ai⟩ ai bY ad
 intro eQ
 have Eo:t=64:=by omega
 subst Eo
 rw[Sha.vq]
 have Cn:(wV (Sha.sched b 64)).length=64:=by rw[j4,Sha.dm]
 have fC:gJ (wV (Sha.sched b 64))=true:=eC _
 generalize wV (Sha.sched b 64)=W at Cn fC hE ⊢
 refine go ?_
 refine aI (U:=ao) 0 zr zr zr zr zr Cn ?_
 refine cn (U:=ao) 1 fR rfl rfl rfl Cn (by intro e;rw[e]at Cn;cases Cn) fC rfl (by rw[Cn];simp[j4]) rfl ?_
 refine go ?_
 refine iB (U:=ao) 1 hE Tryz.func164 zr zr zr zr zr Cn rfl ⟨rfl,rfl⟩ ad
end Go.Proofs.YthjbidjmgbjkiaaGreatDoor
