import Derived.Test.YtnkfkabokmcgoaaGreatDoorQNQ1
import Derived.Test.YtnkfkabokmcgoaaGreatDoorQNQ2
import Derived.Test.YtnkfkabokmcgoaaGreatDoorQNQ3
import Derived.Test.YtnkfkabokmcgoaaGreatDoorQNQ4
import Derived.Test.YtnkfkabokmcgoaaGreatDoorQNQ5
import Derived.Test.YtnkfkabokmcgoaaGreatDoorQNQ8
import Derived.Test.YtnkfkabokmcgoaaGreatDoorQNQ9
import Derived.Test.YtnkfkabokmcgoaaGreatDoorQNQ10
set_option linter.unusedSimpArgs false
set_option linter.unusedVariables false
set_option maxHeartbeats 1000000
set_option maxRecDepth 20000
set_option linter.defProp false
namespace Go.Proofs.YtnkfkabokmcgoaaGreatDoor
open Go Go.SL
attribute [local irreducible] J K aq Ends ag aI aC bF aW aP a6 aZ bN bM II
def Vw.Wg{A:HP}{a:Option Addr}{m c:Nat}{l:List Int}(h:Vw A (.slice a m c) m (iV l))(n:Nat)(hn:n≤l.length):Vw A (.slice (sliceAt a c 0 1) n c) n (iV (l.take n)):=by
 obtain⟨a',cap,he,h0|⟨b,o,ha,hc⟩⟩:=h
 ·have:l=[]:=by cases l with|nil=>rfl|cons x l=>simp[iV]at h0
  subst this
  exact⟨_,_,rfl,.inl (by simp[iV])⟩
 ·simp only[Value.slice.injEq]at he
  obtain⟨rfl,-,rfl⟩:=he
  subst ha
  have hs:sliceAt (some ⟨b,o,none⟩) c 0 1=some ⟨b,o,none⟩:=by
   unfold sliceAt
   split
   ·rfl
   ·simp[Addr.add]
  refine⟨_,_,rfl,.inr ⟨b,o,hs,fun h' hA j x hj=>hc h' hA j x ?_⟩⟩
  rw[show iV (l.take n)=(iV l).take n from by simp[iV,List.map_take],List.getElem?_take]at hj
  split at hj
  ·exact hj
  ·cases hj
def Ek(b:Nat)(s:Int)(A:HP)(v:Value)(l:List Int)(hv:Vw A v l.length (iV l))(hl:l.length≤1000000000)(k:Int) :
  aq Tryz.prog 83 [ptr b,v,.int .i64 k] [ag b (cl [.int .u64 s] 275),A] (fun r H=>∃(a:Option Addr) (c:Nat) (Y:HP),r = .slice a (oN s l k).length c∧Vw Y r (oN s l k).length (iV (oN s l k))∧H=[Y,ag b (cl [.int .u64 (ku s l).1] 275),A]):=by
 obtain⟨a,c,rfl⟩:=hv.shape
 have dW:=wU s l
 have ace:=qO s l k
 refine aq.aj Tryz.func83 Tryz.ntmps83 fun G F R hE=>?_
 refine go ?_
 refine aF (BL b s A _ l hv hl) ?_
 rintro r _ rfl
 refine aL 0 rfl ?_
 rintro ra rc rfl
 refine FM 0 rfl ?_
 intro yX gg
 refine go ?_
 obtain⟨n,hn⟩:∃n,n=Bu k (ku s l).2.length:=⟨_,rfl⟩
 have LY:n≤(ku s l).2.length:=by rw[hn];unfold Bu;omega
 have YX:(oN s l k)=(ku s l).2.take n:=by unfold oN;rw[hn,dW]
 ((refine aD 16 ((.int .i64 (n:Int))) rfl ((congrArg (Value.int .i64) (by rw[hn];unfold Bu;omega))) ?_))
 refine bu (p:=0) (q:=(n:Int)) zr zr zr zr zr zr zr ai ai (.inr ai) ?_
 have DB:=Vw.Wg yX n LY
 have hnn:n=(oN s l k).length:=by rw[YX,List.length_take];omega
 ((refine aD 17 ((.slice (sliceAt ra rc 0 1) n rc)) rfl ((by rw[show((n:Int)).toNat=n from by omega];rfl)) ?_))
 refine go ?_
 rw[← YX]at DB
 rw[hnn]at DB ⊢
 refine ad hE Tryz.func83 zr zr ⟨_,_,_,rfl,DB,rfl⟩
def Gossip_any(bv:Nat)(V:VM)(gp:(V.ks.map Mem.id).Nodup)(hlen:V.ks.length≤1000000)(bK:Int)(seed:Int) :
  aq Tryz.prog 35 [ptr bv,.int .i64 bK,.int .u64 seed] [bM bv V] (fun r H=>H=[aI 101 4 r (oB V bK seed).length (mV (oB V bK seed)),bM bv V]):=by
 refine aq.aj Tryz.func35 Tryz.ntmps35 fun G F R hE=>?_
 refine cI (iL bv V) ?_
 rintro bm -
 refine go ?_
 refine aJ (fun w=>Sat G w ([ag bv (cl (ef V.self++[.int .i64 V.bK,.map (some bm)]) 143)])) (.st 0 (cM 2 4 (.st 8 (.st 11 (.act 1 (.act 6 (.act 7 (.act 9 (.st 10 .nil))))))))) rfl ae ae ae cY ?_
 refine go ?_
 ((refine cP zr zr zr zr (kK seed) ah ?_ (fun _ _ w hp hw=>by obtain⟨_,rfl,rfl⟩:=hp;exact hw.cn ah)))
 rintro _ _⟨bd,rfl,rfl⟩
 refine go ?_
 ((refine cP zr zr zr zr (xr bm) ah ?_ (fun _ _ w hp hw=>by obtain⟨_,rfl,rfl⟩:=hp;exact hw.cn ah)))
 rintro _ _⟨bx,rfl,rfl⟩
 refine go ?_
 have mT:(fJ V.ks).map (·.1)=V.ks.map Mem.id:=nN V.ks
 have pn:(fJ V.ks).length=V.ks.length:=List.length_map _
 ((refine dx (kO 173 [ptr bx] (fJ V.ks).length [ag bx (cl [.map (some bm)] 141),aC (Value.int .i64) bm (fJ V.ks)] [aC (Value.int .i64) bm (fJ V.ks)] (fun xs=>xs.Perm ((fJ V.ks).map (·.1))) ai (uj bx bm (fJ V.ks) (by rw[mT];exact gp)) (fun xs hx=>by rw[hx.length_eq,List.length_map];omega)) ?_))
 rintro r _⟨xs,GM,rfl⟩
 rw[mT]at GM
 have WO:gy xs=gy (V.ks.map Mem.id):=ET GM
 rw[WO,show xs.length=(gy (V.ks.map Mem.id)).length from by rw[eP,GM.length_eq]]
 obtain⟨ids,mM⟩:∃ids,ids=gy (V.ks.map Mem.id):=⟨_,rfl⟩
 rw[← mM]
 have Zs:ids.length=V.ks.length:=by rw[mM,eP,List.length_map]
 refine aL 0 rfl ?_
 rintro ra rc rfl
 refine dT 0 rfl ?_
 intro yX
 refine go ?_
 refine dx (Ek bd seed _ _ ids yX ai bK) ?_
 rintro _ _⟨sa,sc,Y,rfl,N0,rfl⟩
 refine go ?_
 obtain⟨ss,Vu⟩:∃ss,ss=oN seed ids bK:=⟨_,rfl⟩
 have acb:ss.length≤1000000:=by rw[Vu,qO];unfold Bu;omega
 have abu:oB V bK seed=ss.map (fun id=>(i' V.ks id).getD ⟨0,0,0,0⟩)++[V.self]:=by rw[Vu,mM];rfl
 rw[← Vu]at N0 ⊢
 refine bn (fun y:Nat × List Mem × Option Addr × Nat=>y.1≤ss.length∧y.2.1=(ss.take y.1).map (fun id=>(i' V.ks id).getD ⟨0,0,0,0⟩)) (fun y=>ss.length-y.1)
  (fun y=>[(0,ptr bv),(7,.slice y.2.2.1 y.2.1.length y.2.2.2),(19,.slice sa ss.length sc),(20,.int .i64 (ss.length:Int)),(21,.int .i64 (y.1:Int))])
  (fun y=>aI 101 4 (.slice y.2.2.1 y.2.1.length y.2.2.2) y.2.1.length (mV y.2.1)::ag bv (cl (ef V.self++[.int .i64 V.bK,.map (some bm)]) 143)::aC (Value.int .i64) bm (fJ V.ks)::Y::F) (0,[],none,0) ⟨Nat.zero_le _,rfl⟩ rfl bQ (ao.trans (bj 101 4 none _) ah) ?_
 rintro⟨i,acc,a1,c1⟩⟨hi,gh⟩ ih
 simp only at hi gh
 have Wc:acc.length=i:=by rw[gh,List.length_map,List.length_take];omega
 refine go ?_
 refine au zr zr ?_ ?_
 case' refine_2 =>
  intro ek
  simp only at ek
  have gR:oB V bK seed=acc++[V.self]:=by rw[abu,gh,List.take_of_length_le ai]
  rw[gR]at hE
  refine go ?_
  refine bq 1 zr zr zr zr zr zr (go ?_)
  refine al (cs:=ef V.self) zr zr zr zr zr zr zr zr zr bh ?_
  intro row
  refine go ?_
  refine aO (mm:=1) (news:=ef V.self) 1 0 rfl rfl rfl rfl rfl rfl rfl rfl rfl rfl rfl rfl (Vw.ag rfl) rfl (by intro v hv;simp[ef]at hv;rcases hv with rfl|rfl|rfl|rfl <;> rfl) (by simp only;omega) (by show(_+_)*32≤_;simp only;omega) (fun _=>rfl) bh ?_
  intro v1
  simp only
  rw[show mV acc++ef V.self=mV (acc++[V.self])from by simp[mV],show acc.length+1=(acc++[V.self]).length from by simp]
  refine aL 1 rfl ?_
  rintro ja jc rfl
  refine go ?_
  refine ak (ao.trans (ao.pick [2,3] rfl) (cC bv bm V _)) ?_
  refine aG hE Tryz.func35 rfl _ zr zr ah
 intro cq
 simp only at cq
 have dq:i<ss.length:=by omega
 obtain⟨x,hx⟩:∃x,ss[i]?=some x:=⟨ss[i],by simp⟩
 obtain⟨b3,o3,c3,xz⟩:=N0.some (Vk dq)
 simp only[Value.slice.injEq,true_and]at xz
 obtain⟨rfl,rfl⟩:=xz
 obtain⟨y,hy⟩:∃y,y=(i' V.ks x).getD ⟨0,0,0,0⟩:=⟨_,rfl⟩
 have ht:(ss.take (i+1)).map (fun id=>(i' V.ks id).getD ⟨0,0,0,0⟩)=acc++[y]:=by
  rw[List.take_add_one,hx,Option.toList_some,List.map_append,← gh,hy];rfl
 have A8:(cw (fJ V.ks) x).getD (.agg #[.int .i64 0,.int .i64 0,.int .i64 0,.int .i64 0])=yU y:=by
  rw[qd,hy]
  all_goals(cases i' V.ks x <;> rfl)
 refine go ?_
 refine bC i zr zr zr zr zr zr zr zr dq ?_
 refine aN 3 i zr zr zr N0 rfl (iP hx) zr zr (go ?_)
 refine iR (es:=fJ V.ks) (key:=x) 2 rfl fu zr zr zr zr zr zr zr zr ?_
 rw[A8]
 refine go ?_
 refine al (cs:=ef y) zr zr zr zr zr zr zr zr zr bh ?_
 intro row
 refine go ?_
 refine aO (mm:=1) (news:=ef y) 1 0 rfl rfl rfl rfl rfl rfl rfl rfl rfl rfl rfl rfl (Vw.ag rfl) rfl (by intro v hv;simp[ef]at hv;rcases hv with rfl|rfl|rfl|rfl <;> rfl) (by simp only;omega) (by show(_+_)*32≤_;simp only;omega) (fun _=>rfl) bh ?_
 intro v1
 simp only
 rw[show mV acc++ef y=mV (acc++[y])from by simp[mV],show acc.length+1=(acc++[y]).length from by simp]
 refine aL 1 rfl ?_
 rintro ja jc rfl
 refine go ?_
 refine aK ih (i+1,acc++[y],ja,jc) rfl ⟨by simp only;omega,by simp only;rw[ht]⟩ (by simp only;omega) bQ ah
attribute [local irreducible] MI
def getM(ks:List Mem)(id:Int):Mem:=(i' ks id).getD ⟨0,0,0,0⟩
def qb{ks:List Mem}{id:Int}(h:id∈ks.map Mem.id):getM ks id∈ks∧(getM ks id).id=id:=by
 obtain⟨x,hx,rfl⟩:=List.mem_map.1 h
 unfold getM i'
 cases hf:ks.find? (fun y=>decide (y.id=x.id))with
 | none=>have:=List.find?_eq_none.1 hf x hx;simp at this
 | some y=>exact⟨List.mem_of_find?_eq_some hf,by simpa using List.find?_some hf⟩
def FX(bv:Nat)(V:VM)(gp:(V.ks.map Mem.id).Nodup)(hlen:V.ks.length≤1000000) :
  aq Tryz.prog 36 [ptr bv] [bM bv V] (fun r H=>∃L:List Mem,L.length=V.ks.length∧(∀x∈L,x∈V.ks)∧(L.map Mem.id).Nodup∧H=[aI 101 4 r L.length (mV L),bM bv V]):=by
 refine aq.aj Tryz.func36 Tryz.ntmps36 fun G F R hE=>?_
 refine cI (iL bv V) ?_
 rintro bm -
 refine go ?_
 refine aF (xr bm) ?_
 rintro _ _⟨bx,rfl,rfl⟩
 refine go ?_
 have mT:(fJ V.ks).map (·.1)=V.ks.map Mem.id:=nN V.ks
 have pn:(fJ V.ks).length=V.ks.length:=List.length_map _
 ((refine aF (kO 173 [ptr bx] (fJ V.ks).length [ag bx (cl [.map (some bm)] 141),aC (Value.int .i64) bm (fJ V.ks)] [aC (Value.int .i64) bm (fJ V.ks)] (fun xs=>xs.Perm ((fJ V.ks).map (·.1))) ai (uj bx bm (fJ V.ks) (by rw[mT];exact gp)) (fun xs h=>by rw[h.length_eq,List.length_map];omega)) ?_))
 rintro r _⟨xs,GM,rfl⟩
 rw[mT]at GM
 have WO:gy xs=gy (V.ks.map Mem.id):=ET GM
 rw[WO,show xs.length=(gy (V.ks.map Mem.id)).length from by rw[eP,GM.length_eq]]
 obtain⟨ids,mM⟩:∃ids,ids=gy (V.ks.map Mem.id):=⟨_,rfl⟩
 rw[← mM]
 have Zs:ids.length=V.ks.length:=by rw[mM,eP,List.length_map]
 have Zr:∀x∈ids,x∈V.ks.map Mem.id:=fun x hx=>(oq _).mem_iff.1 (mM ▸ hx)
 refine aL 0 rfl ?_
 rintro ra rc rfl
 refine dT 0 rfl ?_
 intro N0
 refine go ?_
 refine bn (fun y:Nat × List Mem × Option Addr × Nat=>y.1≤ids.length∧y.2.1=(ids.take y.1).map (getM V.ks)) (fun y=>ids.length-y.1)
  (fun y=>[(0,ptr bv),(3,.slice y.2.2.1 y.2.1.length y.2.2.2),(11,.slice ra ids.length rc),(12,.int .i64 (ids.length:Int)),(13,.int .i64 (y.1:Int))])
  (fun y=>aI 101 4 (.slice y.2.2.1 y.2.1.length y.2.2.2) y.2.1.length (mV y.2.1)::ag bv (cl (ef V.self++[.int .i64 V.bK,.map (some bm)]) 143)::aC (Value.int .i64) bm (fJ V.ks)::aI 3 1 (.slice ra ids.length rc) ids.length (iV ids)::F) (0,[],none,0) ⟨Nat.zero_le _,rfl⟩ rfl bQ (ao.trans (bj 101 4 none _) ah) ?_
 rintro⟨i,acc,a1,c1⟩⟨hi,gh⟩ ih
 simp only at hi gh
 have Wc:acc.length=i:=by rw[gh,List.length_map,List.length_take];omega
 refine go ?_
 refine au zr zr ?_ ?_
 case' refine_2 =>
  intro ek
  simp only at ek
  rw[List.take_of_length_le ai]at gh
  have LY:(acc.map Mem.id).Nodup:=by
   rw[gh,List.map_map]
   have:ids.map (Mem.id ∘ getM V.ks)=ids:=by
    conv=>rhs;rw[← List.map_id ids]
    exact List.map_congr_left fun z hz=>(qb (Zr z hz)).2
   rw[this,mM]
   exact(oq _).nodup_iff.2 gp
  refine go ?_
  refine ak (ao.trans (ao.pick [1,2] rfl) (cC bv bm V _)) ?_
  ((refine ad hE Tryz.func36 zr zr ⟨acc,by rw[gh,List.length_map,Zs],fun x hx=>by rw[gh]at hx;obtain⟨z,hz,rfl⟩:=List.mem_map.1 hx;exact(qb (Zr z hz)).1,LY,rfl⟩))
 intro cq
 simp only at cq
 have dq:i<ids.length:=by omega
 obtain⟨x,hx⟩:∃x,ids[i]?=some x:=⟨ids[i],by simp⟩
 obtain⟨b3,o3,c3,xz⟩:=N0.some (Vk dq)
 simp only[Value.slice.injEq,true_and]at xz
 obtain⟨rfl,rfl⟩:=xz
 obtain⟨y,hy⟩:∃y,y=getM V.ks x:=⟨_,rfl⟩
 have ht:(ids.take (i+1)).map (getM V.ks)=acc++[y]:=by
  rw[List.take_add_one,hx,Option.toList_some,List.map_append,← gh,hy];rfl
 have A8:(cw (fJ V.ks) x).getD (.agg #[.int .i64 0,.int .i64 0,.int .i64 0,.int .i64 0])=yU y:=by
  rw[qd,hy]
  unfold getM
  all_goals(cases i' V.ks x <;> rfl)
 refine go ?_
 refine bC i zr zr zr zr zr zr zr zr dq ?_
 refine aN 3 i zr zr zr N0 rfl (iP hx) zr zr (go ?_)
 refine iR (es:=fJ V.ks) (key:=x) 2 rfl fu zr zr zr zr zr zr zr zr ?_
 rw[A8]
 refine go ?_
 refine al (cs:=ef y) zr zr zr zr zr zr zr zr zr bh ?_
 intro row
 refine go ?_
 refine aO (mm:=1) (news:=ef y) 1 0 rfl rfl rfl rfl rfl rfl rfl rfl rfl rfl rfl rfl (Vw.ag rfl) rfl (by intro v hv;simp[ef]at hv;rcases hv with rfl|rfl|rfl|rfl <;> rfl) (by simp only;omega) (by show(_+_)*32≤_;simp only;omega) (fun _=>rfl) bh ?_
 intro v1
 simp only
 rw[show mV acc++ef y=mV (acc++[y])from by simp[mV],show acc.length+1=(acc++[y]).length from by simp]
 refine aL 1 rfl ?_
 rintro ja jc rfl
 refine go ?_
 refine aK ih (i+1,acc++[y],ja,jc) rfl ⟨by simp only;omega,by simp only;rw[ht]⟩ (by simp only;omega) bQ ah
def AK(a b:Mem):aq Tryz.prog 299 [yU a,yU b] [] (fun r H=>∃z:Int,r = .int .i64 z∧H=[]):=by
 unfold yU
 refine aq.aj Tryz.func299 Tryz.ntmps299 fun G F R hE=>?_
 refine aH rfl ?_
 refine bp zr zr bh ?_
 intro bx
 refine bp zr zr bh ?_
 intro sl
 refine go ?_
 refine aJ (fun w=>Sat G w ([ag bx (cl (ef a) 101),ag sl (cl (ef b) 101)])) (cM 0 4 (cM 5 4 (cM 10 4 (.act 4 (.act 9 (.act 14 (.act 15 (.act 16 (.st 17 .nil))))))))) rfl ae ae ae cY ?_
 refine go ?_
 refine bP (fW b.st a.st) ?_
 refine go ?_
 refine bP (fW a.since b.since) ?_
 refine go ?_
 refine bP (fW b.id a.id) ?_
 refine go ?_
 refine al (cs:=iV [iG b.st a.st,iG a.since b.since,iG b.id a.id]) zr zr zr zr zr zr zr zr zr (fun _ w hw=>hw.cn ah) ?_
 intro bb
 refine go ?_
 refine bP (Ep _ _ [iG b.st a.st,iG a.since b.since,iG b.id a.id] (Vw.ag rfl) (by simp)) ?_
 refine go ?_
 refine ad hE Tryz.func299 zr zr ⟨_,rfl,rfl⟩
def zD(A:HP)(v:Value)(l:List Mem)(hv:Vw A v l.length (mV l))(fy:0<l.length)(hl:l.length≤1000000000) :
  aq Tryz.prog 298 [v,.func (.func 299) #[] #[] ] [A] (fun r H=>∃y∈l,r=yU y∧H=[A]):=by
 obtain⟨a,c,rfl⟩:=hv.shape
 obtain⟨b3,o3,c3,xz⟩:=hv.some (by rw[← List.length_pos_iff,JX];omega)
 simp only[Value.slice.injEq,true_and]at xz
 obtain⟨rfl,rfl⟩:=xz
 obtain⟨y0,hy0⟩:∃x,l[0]?=some x:=⟨l[0],by simp⟩
 refine aq.aj Tryz.func298 Tryz.ntmps298 fun G F R hE=>?_
 refine aH rfl ?_
 refine az zr zr zr bh ?_
 intro b4
 refine go ?_
 refine au zr zr ?_ ?_
 ·intro h;exfalso;omega
 intro _
 refine go ?_
 refine bX 0 4 zr zr zr zr zr zr zr zr fy ?_
 refine bW (U:=aU) (es:=ef y0) 1 0 zr zr zr hv rfl (fun j v hj=>by
  have h4:j<4:=by rcases Nat.lt_or_ge j 4 with h|h;exact h;rw[List.getElem?_eq_none (by rw[fh];exact h)]at hj;cases hj
  have h1:=ck fh hy0 j h4
  rw[Nat.zero_mul]at h1
  exact h1.trans hj) zr zr zr ?_
 refine go ?_
 refine az zr zr zr bh ?_
 intro b5
 refine go ?_
 refine bn (fun y:Nat × Mem=>1≤y.1∧y.1≤l.length∧y.2∈l) (fun y=>l.length-y.1)
  (fun y=>[(0,.slice (some ⟨b3,o3,none⟩) l.length c),(0+1,.func (.func 299) #[] #[]),(4,ptr b4),(5,ptr b5),(6,.int .i64 (y.1:Int))])
  (fun y=>ag b5 (cl (ef y.2) 101)::ag b4 (cl (ef ⟨0,0,0,0⟩) 101)::A::F) (1,y0) ⟨Nat.le_refl _,by simp only;omega,List.mem_of_getElem? hy0⟩ rfl bQ ah ?_
 rintro⟨i,y⟩⟨h1,hi,hy⟩ ih
 simp only at h1 hi hy
 refine go ?_
 refine au zr zr ?_ ?_
 case' refine_2 =>
  intro ek
  refine go ?_
  refine bq 0 zr zr zr zr zr zr (go ?_)
  (refine bg hE ?_;apply a7 (U:=aU) hE Tryz.func298 rfl (ao.refl _);(repeat(first|exact aQ.nil|apply aQ.agg 1 zr zr zr zr zr));exact⟨y,hy,rfl,rfl⟩;exact ah)
 intro cq
 have dq:i<l.length:=by simp only at cq;omega
 obtain⟨x,hx⟩:∃x,l[i]?=some x:=⟨l[i],by simp⟩
 have Io:∀(j:Nat) (v:Value),(ef x)[j]?=some v→(mV l)[i*4+j]?=some v:=fun j v hj=>by
  have h4:j<4:=by rcases Nat.lt_or_ge j 4 with h|h;exact h;rw[List.getElem?_eq_none (by rw[fh];exact h)]at hj;cases hj
  exact(ck fh hx j h4).trans hj
 refine aJ (fun w=>Sat G w ([ag b5 (cl (ef y) 101),A])) (cM 0 6 (.act 6 (.st 7 .nil))) rfl ae ae ae cY ?_
 refine go ?_
 refine bX i 4 zr zr zr zr zr zr zr zr dq ?_
 refine aT ?_
 refine ew (U:=aU) (es:=ef x) 1 (i*4) zr zr zr hv rfl Io zr zr zr (go ?_)
 refine aT ?_
 refine bU (U:=aU) 0 zr zr zr zr zr zr (go ?_)
 have hf1:=AK x y
 unfold yU at hf1
 ((refine cP zr zr zr zr (hf1) ah ?_ (fun _ _ w hp hw=>by obtain⟨_,rfl,rfl⟩:=hp;exact hw.cn ah)))
 rintro _ _⟨z,rfl,rfl⟩
 refine go ?_
 refine au zr zr ?_ ?_
 ·intro _
  refine go ?_
  refine bX i 4 zr zr zr zr zr zr zr zr dq ?_
  refine bW (U:=aU) (es:=ef x) 2 (i*4) zr zr zr hv rfl Io zr zr zr (go ?_)
  refine aK ih (i+1,x) rfl ⟨by simp only;omega,by simp only;omega,List.mem_of_getElem? hx⟩ (by simp only;omega) bQ ah
 ·intro _
  refine go ?_
  refine aK ih (i+1,y) rfl ⟨by simp only;omega,by simp only;omega,hy⟩ (by simp only;omega) bQ ah
def xN(bv bm:Nat)(V:VM)(gp:(V.ks.map Mem.id).Nodup)(fy:0<V.ks.length)(hlen:V.ks.length≤1000000) :
  aq Tryz.prog 195 [ptr bv] [ag bv (cl (ef V.self++[.int .i64 V.bK,.map (some bm)]) 143),aC (Value.int .i64) bm (fJ V.ks)] (fun r H=>∃y∈V.ks,r = .int .i64 y.id∧H=[ag bv (cl (ef V.self++[.int .i64 V.bK,.map (some bm)]) 143),aC (Value.int .i64) bm (fJ V.ks)]):=by
 refine aq.aj Tryz.func195 Tryz.ntmps195 fun G F R hE=>?_
 refine go ?_
 refine aF (GA bm) ?_
 rintro _ _⟨bx,rfl,rfl⟩
 refine go ?_
 refine aF (zP 371 [ptr bx] V.ks.length [ag bx (cl [.map (some bm)] 141),aC (Value.int .i64) bm (fJ V.ks)] [aC (Value.int .i64) bm (fJ V.ks)] _ ai (Du bx bm V.ks gp)) ?_
 rintro r _⟨xs,⟨Dz,YJ⟩,rfl⟩
 refine aL 0 rfl ?_
 rintro ra rc rfl
 refine dT 0 rfl ?_
 intro yX
 refine go ?_
 refine aF (zD _ _ xs yX ai ai) ?_
 rintro _ _⟨y,hy,rfl,rfl⟩
 unfold yU
 refine go ?_
 refine ad hE Tryz.func195 zr zr ⟨y,YJ y hy,rfl,rfl⟩
end Go.Proofs.YtnkfkabokmcgoaaGreatDoor
namespace Go.Proofs.YtnkfkabokmcgoaaGreatDoor
open Go Go.SL
def sG(ks:List Mem)(id:Int):List Mem:=ks.filter fun x => !decide (x.id=id)
def ze(ks:List Mem)(id:Int):qh (fJ ks) id=fJ (sG ks id):=by
 unfold qh fJ sG
 rw[List.filter_map]
 rfl
def oY{ks:List Mem}(h:(ks.map Mem.id).Nodup)(m:Mem):((eb ks m).map Mem.id).Nodup:=by
 unfold eb
 split
 ·rw[List.map_map]
  have:(Mem.id ∘ fun x:Mem=>if x.id=m.id then m else x)=Mem.id:=by
   funext x
   simp only[Function.comp]
   split
   ·rename_i h;exact h.symm
   ·rfl
  rw[this];exact h
 ·rename_i hn
  rw[List.map_append,List.nodup_append]
  exact⟨h,by simp,fun a ha b hb e=>hn (by simp at hb;rw[← hb,← e];exact ha)⟩
def LF(V W V':VM):Prop:=(V'=W∧(W.ks.length≤V.ks.length∨(W.ks.length:Int)≤V.bK))∨∃y∈W.ks,V'={ W with ks:=sG W.ks y.id }
attribute [local irreducible] J K aq Ends ag aI aC bF aW aP a6 aZ bN bM II MI
def H8(bv:Nat)(V:VM)(m:Mem)(now:Int)(gp:(V.ks.map Mem.id).Nodup)(hlen:V.ks.length≤100000)(abX:0≤V.bK∧V.bK≤1000000)(lC : -1000000000000≤V.self.inc∧V.self.inc≤1000000000000) :
  aq Tryz.prog 99 [ptr bv,.agg (ef m).toArray,.int .i64 now] [bM bv V] (fun r H=>∃V',r = .tuple #[.bool (gA V m now).1.1,.int .i64 (gA V m now).1.2]∧H=[bM bv V']∧LF V (gA V m now).2 V'):=by
 refine aq.aj Tryz.func99 Tryz.ntmps99 fun G F R hE=>?_
 refine aH rfl ?_
 refine bp zr zr bh ?_
 intro b4
 refine go ?_
 refine aw (e8 m.id 1 65536) ?_
 have hJ:qT m now=(gK m.id 1 65536 && gK m.inc 0 1073741824 && gK m.st 1 3 && gK now 0 1099511627776):=rfl
 have ju:qT m now=false→gA V m now=((false,1),V):=fun h=>by unfold gA;rw[if_pos h]
 cases h1:gK m.id 1 65536 with
 | false =>
  rw[ju (by rw[hJ,h1];rfl)]at hE
  refine go ?_
  refine ad hE Tryz.func99 zr zr ⟨_,rfl,rfl,.inl ⟨rfl,.inl (Nat.le_refl _)⟩⟩
 | true =>
 refine go ?_
 refine aw (e8 m.inc 0 1073741824) ?_
 cases h2:gK m.inc 0 1073741824 with
 | false =>
  rw[ju (by rw[hJ,h1,h2];rfl)]at hE
  refine go ?_
  refine ad hE Tryz.func99 zr zr ⟨_,rfl,rfl,.inl ⟨rfl,.inl (Nat.le_refl _)⟩⟩
 | true =>
 refine go ?_
 refine aw (e8 m.st 1 3) ?_
 cases h3:gK m.st 1 3 with
 | false =>
  rw[ju (by rw[hJ,h1,h2,h3];rfl)]at hE
  refine go ?_
  refine ad hE Tryz.func99 zr zr ⟨_,rfl,rfl,.inl ⟨rfl,.inl (Nat.le_refl _)⟩⟩
 | true =>
 refine go ?_
 refine aw (e8 now 0 1099511627776) ?_
 cases h4:gK now 0 1099511627776 with
 | false =>
  rw[ju (by rw[hJ,h1,h2,h3,h4];rfl)]at hE
  refine go ?_
  refine ad hE Tryz.func99 zr zr ⟨_,rfl,rfl,.inl ⟨rfl,.inl (Nat.le_refl _)⟩⟩
 | true =>
 have Kk:qT m now=true:=by rw[hJ,h1,h2,h3,h4];rfl
 obtain⟨i1,i2⟩:=p4.1 h2
 refine go ?_
 refine ak (ao.pick [1] rfl) ?_
 refine cI (iL bv V) ?_
 rintro bm -
 refine aJ (fun w=>Sat G w ([ag bv (cl (ef V.self++[.int .i64 V.bK,.map (some bm)]) 143),ag b4 (cl (ef m) 101)])) (ke 0 8 .nil) rfl ae ae ae cY ?_
 refine go ?_
 refine au zr zr ?_ ?_
 ·intro heq
  have hh:gA V m now=if pe m V.self then((true,0),{ V with self:={ V.self with inc:=min (m.inc+1) 1073741824 } })else((false,0),V):=by
   unfold gA;rw[if_neg (by rw[Kk];simp),if_pos heq]
  refine aJ (fun w=>Sat G w ([ag bv (cl (ef V.self++[.int .i64 V.bK,.map (some bm)]) 143),ag b4 (cl (ef m) 101)])) (cM 0 5 (.act 5 (.st 6 .nil))) rfl ae ae ae cY ?_
  refine go ?_
  refine aT ?_
  refine ew (U:=aU) (es:=ef m) 1 0 zr zr zr (show Vw (ag b4 (cl (ef m) 101)) (.slice (some ⟨b4,0,none⟩) 4 4) 4 (ef m)from Vw.ag rfl) rfl (fun j v hj=>by rw[Nat.zero_add];exact hj) zr zr zr ?_
  refine go ?_
  refine aT ?_
  refine ew (U:=aU) (es:=ef V.self) 0 0 zr zr zr (show Vw (ag bv (cl (ef V.self++[.int .i64 V.bK,.map (some bm)]) 143)) (.slice (some ⟨bv,0,none⟩) 4 4) 4 (ef V.self)from Vw.ag rfl) rfl (fun j v hj=>by rw[Nat.zero_add];exact hj) zr zr zr ?_
  refine go ?_
  refine bP (xp m V.self) ?_
  cases hn:pe m V.self with
  | false =>
   rw[hh,if_neg (by rw[hn];simp)]at hE
   refine go ?_
   refine ak (ao.trans ah (cC bv bm V _)) ?_
   refine ad hE Tryz.func99 zr zr ⟨_,rfl,rfl,.inl ⟨rfl,.inl (Nat.le_refl _)⟩⟩
  | true =>
   rw[hh,if_pos hn]at hE
   refine go ?_
   refine ak (ao.trans ah (cC bv bm { V with self:={ V.self with inc:=min (m.inc+1) 1073741824 } } _)) ?_
   refine ad hE Tryz.func99 zr zr ⟨_,rfl,rfl,.inl ⟨rfl,.inl (Nat.le_refl _)⟩⟩
 intro fy
 have hh:gA V m now=match i' V.ks m.id with
   | some o=>if pe m o then((true,0),{ V with ks:=eb V.ks { m with since:=now } })else((false,0),V)
   | none=>if m.st=3 then((false,0),V)else((true,0),{ V with ks:=eb V.ks { m with since:=now } }):=by
  unfold gA;rw[if_neg (by rw[Kk];simp),if_neg fy]
  all_goals(cases i' V.ks m.id <;> rfl)
 have dW:=Al V.ks { m with since:=now }
 refine aJ (fun w=>Sat G w ([ag bv (cl (ef V.self++[.int .i64 V.bK,.map (some bm)]) 143),ag b4 (cl (ef m) 101),aC (Value.int .i64) bm (fJ V.ks)])) (cM 0 10 (.act 10 (.act 11 (.st 12 .nil)))) rfl ae ae ae cY ?_
 refine go ?_
 refine dK (es:=fJ V.ks) (key:=m.id) rfl fu zr zr zr zr zr zr zr (fun w hw=>hw.eU (i:=2) rfl) ?_
 rw[qd]
 cases hf:i' V.ks m.id with
 | none =>
  rw[hf]at hh
  simp only at hh
  simp only[Option.map_none,Option.getD_none,Option.isSome_none]
  refine go ?_
  refine az zr zr zr (fun _ w hw=>hw.cn ah) ?_
  intro b9
  refine go ?_
  refine aY ?_
  refine bG 0 cY zr zr zr zr zr zr zr zr zr (go ?_)
  refine au zr zr ?_ ?_
  ·intro ZJ
   rw[hh,if_pos ZJ]at hE
   refine go ?_
   refine ak (ao.trans ah (cC bv bm V _)) ?_
   refine ad hE Tryz.func99 zr zr ⟨_,rfl,rfl,.inl ⟨rfl,.inl (Nat.le_refl _)⟩⟩
  intro Wc
  rw[hh,if_neg Wc]at hE
  refine go ?_
  obtain⟨m',hm'⟩:∃m':Mem,m'={ m with since:=now }:=⟨_,rfl⟩
  refine aJ (fun w=>Sat G w ([ag bv (cl (ef V.self++[.int .i64 V.bK,.map (some bm)]) 143),ag b4 (cl (ef { m with since:=now }) 101)])) (ke 0 7 (.act 7 .nil)) rfl ae ae ae cY ?_
  refine go ?_
  refine aT ?_
  refine ew (U:=aU) (es:=ef { m with since:=now }) 1 0 rfl rfl rfl (show Vw (ag b4 (cl (ef { m with since:=now }) 101)) (.slice (some ⟨b4,0,none⟩) 4 4) 4 (ef { m with since:=now })from Vw.ag rfl) rfl (fun j v hj=>by rw[Nat.zero_add];exact hj) rfl rfl rfl ?_
  refine go ?_
  refine cy (es:=fJ V.ks) (key:=({ m with since:=now }:Mem).id) (v:=yU { m with since:=now }) 2 fu eW rfl rfl rfl rfl rfl rfl rfl rfl ?_
  rw[zd]
  refine go ?_
  have pn:(fJ (eb V.ks { m with since:=now })).length=(eb V.ks { m with since:=now }).length:=List.length_map _
  refine aJ (fun w=>Sat G w ([ag bv (cl (ef V.self++[.int .i64 V.bK,.map (some bm)]) 143),aC (Value.int .i64) bm (fJ (eb V.ks { m with since:=now }))])) (ke 0 10 .nil) rfl ae ae ae cY ?_
  refine go ?_
  refine rB (U:=aU) (es:=fJ (eb V.ks { m with since:=now })) rfl rfl rfl rfl (fun w hw=>hw.eU (i:=1) rfl) ?_
  refine go ?_
  have VE:((eb V.ks { m with since:=now }).map Mem.id).Nodup:=oY gp _
  refine au zr zr ?_ ?_
  ·intro q5
   rw[pn]at q5
   have mN:0<(eb V.ks { m with since:=now }).length:=by omega
   refine aJ (fun w=>Sat G w ([ag bv (cl (ef V.self++[.int .i64 V.bK,.map (some bm)]) 143)])) (cM 0 5 (.act 5 (.act 6 .nil))) rfl ae ae ae cY ?_
   refine go ?_
   ((refine cP zr zr zr zr (xN bv bm { V with ks:=eb V.ks { m with since:=now } } VE mN (by simp only;omega)) ah ?_ (fun _ _ w hp hw=>by obtain⟨_,_,rfl,rfl⟩:=hp;exact hw.cn ah)))
   rintro _ _⟨y,hy,rfl,rfl⟩
   refine go ?_
   refine iS (es:=fJ (eb V.ks { m with since:=now })) (key:=y.id) 1 fu eW rfl rfl rfl rfl rfl rfl rfl ?_
   rw[ze]
   refine go ?_
   refine ak (ao.trans ah (cC bv bm { V with ks:=sG (eb V.ks { m with since:=now }) y.id } _)) ?_
   refine ad hE Tryz.func99 zr zr ⟨_,rfl,rfl,.inr ⟨y,hy,rfl⟩⟩
  intro pj
  rw[pn]at pj
  refine go ?_
  refine ak (ao.trans ah (cC bv bm { V with ks:=eb V.ks { m with since:=now } } _)) ?_
  ((refine ad hE Tryz.func99 zr zr ⟨_,rfl,rfl,.inl ⟨rfl,.inr (by simp only;omega)⟩⟩))
 | some o =>
  rw[hf]at hh
  simp only at hh
  simp only[Option.map_some,Option.getD_some,Option.isSome_some]
  refine go ?_
  refine az zr zr zr (fun _ w hw=>hw.cn ah) ?_
  intro b9
  refine go ?_
  refine aY ?_
  refine bG 0 cY zr zr zr zr zr zr zr zr zr (go ?_)
  refine bq 3 zr zr zr zr zr zr (go ?_)
  refine bq 0 zr zr zr zr zr zr (go ?_)
  refine aw (xp m o) ?_
  cases hn:pe m o with
  | false =>
   rw[hh,if_neg (by rw[hn];simp)]at hE
   refine go ?_
   refine ak (ao.trans ah (cC bv bm V _)) ?_
   refine ad hE Tryz.func99 zr zr ⟨_,rfl,rfl,.inl ⟨rfl,.inl (Nat.le_refl _)⟩⟩
  | true =>
  rw[hh,if_pos hn]at hE
  refine go ?_
  obtain⟨m',hm'⟩:∃m':Mem,m'={ m with since:=now }:=⟨_,rfl⟩
  refine aJ (fun w=>Sat G w ([ag bv (cl (ef V.self++[.int .i64 V.bK,.map (some bm)]) 143),ag b4 (cl (ef { m with since:=now }) 101)])) (ke 0 7 (.act 7 .nil)) rfl ae ae ae cY ?_
  refine go ?_
  refine aT ?_
  refine ew (U:=aU) (es:=ef { m with since:=now }) 1 0 rfl rfl rfl (show Vw (ag b4 (cl (ef { m with since:=now }) 101)) (.slice (some ⟨b4,0,none⟩) 4 4) 4 (ef { m with since:=now })from Vw.ag rfl) rfl (fun j v hj=>by rw[Nat.zero_add];exact hj) rfl rfl rfl ?_
  refine go ?_
  refine cy (es:=fJ V.ks) (key:=({ m with since:=now }:Mem).id) (v:=yU { m with since:=now }) 2 fu eW rfl rfl rfl rfl rfl rfl rfl rfl ?_
  rw[zd]
  refine go ?_
  have pn:(fJ (eb V.ks { m with since:=now })).length=(eb V.ks { m with since:=now }).length:=List.length_map _
  refine aJ (fun w=>Sat G w ([ag bv (cl (ef V.self++[.int .i64 V.bK,.map (some bm)]) 143),aC (Value.int .i64) bm (fJ (eb V.ks { m with since:=now }))])) (ke 0 10 .nil) rfl ae ae ae cY ?_
  refine go ?_
  refine rB (U:=aU) (es:=fJ (eb V.ks { m with since:=now })) rfl rfl rfl rfl (fun w hw=>hw.eU (i:=1) rfl) ?_
  refine go ?_
  have VE:((eb V.ks { m with since:=now }).map Mem.id).Nodup:=oY gp _
  refine au zr zr ?_ ?_
  ·intro q5
   rw[pn]at q5
   have mN:0<(eb V.ks { m with since:=now }).length:=by omega
   refine aJ (fun w=>Sat G w ([ag bv (cl (ef V.self++[.int .i64 V.bK,.map (some bm)]) 143)])) (cM 0 5 (.act 5 (.act 6 .nil))) rfl ae ae ae cY ?_
   refine go ?_
   ((refine cP zr zr zr zr (xN bv bm { V with ks:=eb V.ks { m with since:=now } } VE mN (by simp only;omega)) ah ?_ (fun _ _ w hp hw=>by obtain⟨_,_,rfl,rfl⟩:=hp;exact hw.cn ah)))
   rintro _ _⟨y,hy,rfl,rfl⟩
   refine go ?_
   refine iS (es:=fJ (eb V.ks { m with since:=now })) (key:=y.id) 1 fu eW rfl rfl rfl rfl rfl rfl rfl ?_
   rw[ze]
   refine go ?_
   refine ak (ao.trans ah (cC bv bm { V with ks:=sG (eb V.ks { m with since:=now }) y.id } _)) ?_
   refine ad hE Tryz.func99 zr zr ⟨_,rfl,rfl,.inr ⟨y,hy,rfl⟩⟩
  intro pj
  rw[pn]at pj
  refine go ?_
  refine ak (ao.trans ah (cC bv bm { V with ks:=eb V.ks { m with since:=now } } _)) ?_
  ((refine ad hE Tryz.func99 zr zr ⟨_,rfl,rfl,.inl ⟨rfl,.inr (by simp only;omega)⟩⟩))
end Go.Proofs.YtnkfkabokmcgoaaGreatDoor
namespace Go.Proofs.YtnkfkabokmcgoaaGreatDoor
open Go Go.SL
structure qi(V:VM):Prop where
 nd:(V.ks.map Mem.id).Nodup
 len:(V.ks.length:Int)≤V.bK
 bK:1≤V.bK∧V.bK≤64
 inc : -1000000000000≤V.self.inc∧V.self.inc≤1000000000000
 sn:∀x∈V.ks,0≤x.since∧x.since≤1099511627776
def qi.small{V:VM}(h:qi V):V.ks.length≤64:=by have:=h.len;have:=h.bK;omega
def ER{ks:List Mem}{m x:Mem}(h:x∈eb ks m):x=m∨x∈ks:=by
 unfold eb at h
 split at h
 ·obtain⟨y,hy,rfl⟩:=List.mem_map.1 h
  split
  ·exact .inl rfl
  ·exact .inr hy
 ·rcases List.mem_append.1 h with h|h
  ·exact .inr h
  ·exact .inl (List.mem_singleton.1 h)
def KM{ks:List Mem}{y:Mem}(h:y∈ks):(sG ks y.id).length+1≤ks.length:=by
 unfold sG
 induction ks with
 | nil=>cases h
 | cons z l ih =>
  rw[List.filter_cons]
  rcases List.mem_cons.1 h with rfl|h
  ·rw[if_neg (by simp)]
   have:=List.length_filter_le (fun x:Mem => !decide (x.id=y.id)) l
   simp only[List.length_cons];omega
  ·have:=ih h
   split <;> simp only[List.length_cons] <;> omega
def Bf(V:VM)(m:Mem)(now:Int):(gA V m now).2=V∨(∃i,(gA V m now).2={ V with self:={ V.self with inc:=min i 1073741824 } }∧0≤i)∨((gA V m now).2={ V with ks:=eb V.ks { m with since:=now } }∧0≤now∧now≤1099511627776):=by
 unfold gA
 split
 ·exact .inl rfl
 rename_i hJ
 have DG:qT m now=true:=by simpa using hJ
 unfold qT at DG
 simp only[Bool.and_eq_true]at DG
 obtain⟨⟨⟨_,h2⟩,_⟩,h4⟩:=DG
 obtain⟨a1,a2⟩:=p4.1 h2
 obtain⟨b1,b2⟩:=p4.1 h4
 split
 ·split
  ·exact .inr (.inl ⟨m.inc+1,rfl,ai⟩)
  ·exact .inl rfl
 split
 ·split
  ·exact .inr (.inr ⟨rfl,b1,b2⟩)
  ·exact .inl rfl
 ·split
  ·exact .inl rfl
  ·exact .inr (.inr ⟨rfl,b1,b2⟩)
def qi.heard{V V':VM}{m:Mem}{now:Int}(h:qi V)(hh:LF V (gA V m now).2 V'):qi V'∧V'.bK=V.bK:=by
 have hW:((gA V m now).2.ks.map Mem.id).Nodup∧(gA V m now).2.bK=V.bK∧(-1000000000000≤(gA V m now).2.self.inc∧(gA V m now).2.self.inc≤1000000000000)∧(∀x∈(gA V m now).2.ks,0≤x.since∧x.since≤1099511627776)∧(gA V m now).2.ks.length≤V.ks.length+1:=by
  rcases Bf V m now with he|⟨i,he,hi⟩|⟨he,h1,h2⟩
  ·rw[he];exact⟨h.nd,rfl,h.inc,h.sn,ai⟩
  ·rw[he];exact⟨h.nd,rfl,by simp only;omega,h.sn,by simp only;omega⟩
  ·rw[he]
   refine⟨oY h.nd _,rfl,h.inc,fun x hx=>?_,Al _ _⟩
   rcases ER hx with rfl|hx
   ·exact⟨h1,h2⟩
   ·exact h.sn x hx
 generalize (gA V m now).2=W at hh hW
 obtain⟨w1,w2,w3,w4,w5⟩:=hW
 have hl:=h.len
 have hm:=h.bK
 rcases hh with⟨rfl,hlen⟩|⟨y,hy,rfl⟩
 ·exact⟨⟨w1,ai,ai,w3,w4⟩,w2⟩
 ·have:=KM hy
  refine⟨⟨?_,by simp only;omega,by simp only;omega,w3,fun x hx=>w4 x (List.mem_filter.1 hx).1⟩,w2⟩
  exact w1.sublist (List.Sublist.map _ List.filter_sublist)
attribute [local irreducible] J K aq Ends ag aI aC bF aW aP a6 aZ bN bM II MI
def Hj{ks:List Mem}{id:Int}:(cw (fJ ks) id).getD (.agg #[.int .i64 0,.int .i64 0,.int .i64 0,.int .i64 0]) = .agg (ef (getM ks id)).toArray:=by
 rw[qd]
 unfold getM
 cases i' ks id <;> rfl
def Gv(bv:Nat)(V:VM)(id st now:Int)(VR:id∈V.ks.map Mem.id) :
  aq Tryz.prog 68 [ptr bv,.int .i64 id,.int .i64 st,.int .i64 now] [bM bv V] (fun r H=>r = .tuple #[]∧H=[bM bv { V with ks:=eb V.ks { getM V.ks id with st:=st,since:=now } }]):=by
 have hy:=(qb VR).2
 refine aq.aj Tryz.func68 Tryz.ntmps68 fun G F R hE=>?_
 refine cI (iL bv V) ?_
 rintro bm -
 refine go ?_
 refine iR (es:=fJ V.ks) (key:=id) 1 rfl fu zr zr zr zr zr zr zr zr ?_
 rw[Hj]
 obtain⟨y,Vn⟩:∃y,y=getM V.ks id:=⟨_,rfl⟩
 rw[← Vn]at hE hy ⊢
 refine go ?_
 refine az zr zr zr bh ?_
 intro b8
 refine go ?_
 refine aJ (fun w=>Sat G w ([ag bv (cl (ef V.self++[.int .i64 V.bK,.map (some bm)]) 143),ag b8 (cl (ef { y with st:=st,since:=now }) 101)])) (cM 0 6 (.act 6 .nil)) rfl ae ae ae cY ?_
 refine go ?_
 refine aT ?_
 refine bU (U:=aU) 1 zr zr zr zr zr zr (go ?_)
 refine cy (es:=fJ V.ks) (key:=id) (v:=yU { y with st:=st,since:=now }) 2 fu eW rfl rfl rfl rfl rfl rfl rfl rfl ?_
 rw[show iy (fJ V.ks) id (yU { y with st:=st,since:=now })=fJ (eb V.ks { y with st:=st,since:=now })from by rw[← zd];simp only;rw[hy]]
 refine go ?_
 refine ak (ao.trans ah (cC bv bm { V with ks:=eb V.ks { y with st:=st,since:=now } } _)) ?_
 refine bB hE Tryz.func68 rfl _ rfl ⟨rfl,rfl⟩ ah
def CZ(x:Mem):aq Tryz.prog 80 [.agg (ef x).toArray] [] (fun r H=>∃b:Bool,r = .bool b∧H=[]):=by
 refine aq.aj Tryz.func80 Tryz.ntmps80 fun G F R hE=>?_
 refine aH rfl ?_
 refine bp zr zr bh ?_
 intro bx
 refine go ?_
 refine ad hE Tryz.func80 zr zr ⟨_,rfl,rfl⟩
end Go.Proofs.YtnkfkabokmcgoaaGreatDoor
namespace Go.Proofs.YtnkfkabokmcgoaaGreatDoor
open Go Go.SL
def qi.turn{V:VM}(h:qi V){id st now:Int}(VR:id∈V.ks.map Mem.id)(hn:0≤now∧now≤1099511627776) :
  qi { V with ks:=eb V.ks { getM V.ks id with st:=st,since:=now } }∧(eb V.ks { getM V.ks id with st:=st,since:=now }).length=V.ks.length∧(eb V.ks { getM V.ks id with st:=st,since:=now }).map Mem.id=V.ks.map Mem.id:=by
 have hy:=(qb VR).2
 obtain⟨y,Vn⟩:∃y:Mem,y={ getM V.ks id with st:=st,since:=now }:=⟨_,rfl⟩
 have hyi:y.id=id:=by rw[Vn];exact hy
 have hys:y.since=now:=by rw[Vn]
 rw[← Vn]
 have hs:eb V.ks y=V.ks.map fun x=>if x.id=y.id then y else x:=by
  unfold eb
  rw[if_pos (by rw[hyi];exact VR)]
 have mM:(eb V.ks y).map Mem.id=V.ks.map Mem.id:=by
  rw[hs,List.map_map]
  refine List.map_congr_left fun x _=>?_
  simp only[Function.comp]
  split
  ·rename_i h;exact h.symm
  ·rfl
 have hlen:(eb V.ks y).length=V.ks.length:=by rw[hs,List.length_map]
 refine⟨⟨by rw[mM];exact h.nd,by simp only;rw[hlen];exact h.len,h.bK,h.inc,fun x hx=>?_⟩,hlen,mM⟩
 rcases ER hx with rfl|hx
 ·rw[hys];exact hn
 ·exact h.sn x hx
def qi.del{V:VM}(h:qi V)(id:Int):qi { V with ks:=sG V.ks id }∧(sG V.ks id).length≤V.ks.length:=by
 have hl:=List.length_filter_le (fun x:Mem => !decide (x.id=id)) V.ks
 have hlen:=h.len
 exact⟨⟨h.nd.sublist (List.Sublist.map _ List.filter_sublist),by simp only;unfold sG;omega,h.bK,h.inc,fun x hx=>h.sn x (List.mem_filter.1 hx).1⟩,hl⟩
attribute [local irreducible] J K aq Ends ag aI aC bF aW aP a6 aZ bN bM II MI
def HV(bv:Nat)(V:VM)(hV:qi V)(now pat:Int) :
    aq Tryz.prog 30 [ptr bv,.int .i64 now,.int .i64 pat] [bM bv V] (fun r H=>∃(rv:Value) (e:Int) (V':VM),r = .tuple #[rv,.int .i64 e]∧H=[bM bv V']∧qi V'∧V'.bK=V.bK∧V'.ks.length≤V.ks.length):=by
  have pj:=hV.small
  refine aq.aj Tryz.func30 Tryz.ntmps30 fun G F R hE=>?_
  refine go ?_
  refine aw (e8 now 0 1099511627776) ?_
  cases h1:gK now 0 1099511627776 with
  | false =>
    refine go ?_
    refine ad hE Tryz.func30 zr zr ⟨_,_,V,rfl,rfl,hV,rfl,Nat.le_refl _⟩
  | true =>
  refine go ?_
  refine aw (e8 pat 1 1048576) ?_
  cases h2:gK pat 1 1048576 with
  | false =>
    refine go ?_
    refine ad hE Tryz.func30 zr zr ⟨_,_,V,rfl,rfl,hV,rfl,Nat.le_refl _⟩
  | true =>
  obtain⟨n1,n2⟩:=p4.1 h1
  obtain⟨p1,p2⟩:=p4.1 h2
  refine go ?_
  refine aF (FX bv V hV.nd ai) ?_
  rintro r _⟨L,hLl,hLm,hLn,rfl⟩
  refine aL 0 rfl ?_
  rintro la lc rfl
  refine dT 0 rfl ?_
  intro hvL
  refine go ?_
  refine bn (fun y:Nat × VM × List Int × Option Addr × Nat=>y.1≤L.length∧qi y.2.1∧y.2.1.bK=V.bK∧y.2.1.ks.length≤V.ks.length∧(∀x∈L.drop y.1,x.id∈y.2.1.ks.map Mem.id)∧y.2.2.1.length≤y.1) (fun y=>L.length-y.1)
    (fun y=>[(0,ptr bv),(0+1,.int .i64 now),(0+1+1,.int .i64 pat),(8,.slice y.2.2.2.1 y.2.2.1.length y.2.2.2.2),(21,.slice la L.length lc),(22,.int .i64 (L.length:Int)),(23,.int .i64 (y.1:Int))])
    (fun y=>aI 3 1 (.slice y.2.2.2.1 y.2.2.1.length y.2.2.2.2) y.2.2.1.length (iV y.2.2.1)::bM bv y.2.1::aI 101 4 (.slice la L.length lc) L.length (mV L)::F) (0,V,[],none,0) ⟨Nat.zero_le _,hV,rfl,Nat.le_refl _,fun x hx=>List.mem_map.2 ⟨x,hLm x hx,rfl⟩,Nat.le_refl _⟩ rfl bQ (ao.trans (bj 3 1 none _) ah) ?_
  rintro⟨i,W,acc,aa,ac⟩⟨hi,hW,KA,DP,mM,gh⟩ ih
  simp only at hi hW KA DP mM gh
  refine go ?_
  refine au zr zr ?_ ?_
  case' refine_2 =>
    intro _
    refine go ?_
    refine ad hE Tryz.func30 zr zr ⟨_,_,W,rfl,rfl,hW,KA,DP⟩
  intro cq
  have dq:i<L.length:=by simp only at cq;omega
  obtain⟨x,hx⟩:∃x,L[i]?=some x:=⟨L[i],by simp⟩
  have Io:∀(j:Nat) (v:Value),(ef x)[j]?=some v→(mV L)[i*4+j]?=some v:=fun j v hj=>by
    have h4:j<4:=by rcases Nat.lt_or_ge j 4 with h|h;exact h;rw[List.getElem?_eq_none (by rw[fh];exact h)]at hj;cases hj
    exact(ck fh hx j h4).trans hj
  obtain⟨bb,oo,cc,dW⟩:=hvL.some (by rw[← List.length_pos_iff,JX];omega)
  simp only[Value.slice.injEq,true_and]at dW
  obtain⟨rfl,rfl⟩:=dW
  obtain⟨sn1,sn2⟩:=hV.sn x (hLm x (List.mem_of_getElem? hx))
  have jz:L.drop i=x::L.drop (i+1):=by
    rw[List.drop_eq_getElem_cons dq]
    congr 1
    rw[List.getElem?_eq_getElem dq]at hx
    exact Option.some.inj hx
  have YK:x.id∈W.ks.map Mem.id:=mM x (by rw[jz];exact List.mem_cons_self ..)
  have uz:∀z∈L.drop (i+1),z.id∈W.ks.map Mem.id∧z.id≠x.id:=fun z hz=>by
    refine⟨mM z (by rw[jz];exact List.mem_cons_of_mem _ hz),fun he=>?_⟩
    have h:=hLn.sublist (List.Sublist.map Mem.id (List.drop_sublist i L))
    rw[jz,List.map_cons,List.nodup_cons]at h
    exact h.1 (by rw[← he];exact List.mem_map.2 ⟨z,hz,rfl⟩)
  refine go ?_
  refine bX i 4 zr zr zr zr zr zr zr zr dq ?_
  refine bW (U:=aU) (es:=ef x) 2 (i*4) zr zr zr hvL rfl Io zr zr zr (go ?_)
  refine az zr zr zr bh ?_
  intro b10
  refine go ?_
  refine dw zr zr zr zr ?_ ?_
  · intro hd3
    refine go ?_
    refine hG zr zr zr (by simp only[gm];omega) ?_
    refine go ?_
    refine au zr zr ?_ ?_
    · intro ZS
      refine ak (ao.pick [2] rfl) ?_
      refine cI (iL bv W) ?_
      rintro bm -
      refine aJ (fun w=>Sat G w ([ag bv (cl (ef W.self++[.int .i64 W.bK,.map (some bm)]) 143),ag b10 (cl (ef x) 101)])) (cM 0 6 (.act 6 .nil)) rfl ae ae ae cY ?_
      refine go ?_
      refine iS (es:=fJ W.ks) (key:=x.id) 1 fu eW zr zr zr zr zr zr zr ?_
      rw[ze]
      refine go ?_
      obtain⟨d1,d2⟩:=hW.del x.id
      refine ak (ao.trans ah (cC bv bm { W with ks:=sG W.ks x.id } _)) ?_
      refine aK ih (i+1,{ W with ks:=sG W.ks x.id },acc,aa,ac) rfl ⟨by simp only;omega,d1,KA,by simp only;omega,fun z hz=>by
        obtain⟨g1,g2⟩:=uz z hz
        obtain⟨w,hw,he⟩:=List.mem_map.1 g1
        exact List.mem_map.2 ⟨w,List.mem_filter.2 ⟨hw,by simpa[he]using g2⟩,he⟩,by simp only;omega⟩ (by simp only;omega) bQ ah
    · intro ZS
      refine go ?_
      refine dw zr zr zr zr ?_ ?_
      · intro h2';exfalso;omega
      · intro _
        refine go ?_
        refine aK ih (i+1,W,acc,aa,ac) rfl ⟨by simp only;omega,hW,KA,DP,fun z hz=>(uz z hz).1,by simp only;omega⟩ (by simp only;omega) bQ ah
  · intro hd3
    refine go ?_
    refine dw zr zr zr zr ?_ ?_
    · intro h2'
      refine go ?_
      refine au zr zr ?_ ?_
      · intro ZS
        obtain⟨t1,t2,t3⟩:=hW.turn (st:=3) YK ⟨n1,n2⟩
        refine go ?_
        have htn:=Gv bv W x.id 3 now YK
        refine aw htn ?_
        refine go ?_
        refine al (cs:=iV [x.id]) zr zr zr zr zr zr zr zr zr bh ?_
        intro row
        refine go ?_
        refine aS (H':=ag row (cl (iV [x.id]) 3)::aI 3 1 (.slice aa acc.length ac) acc.length (iV acc)::bM bv { W with ks:=eb W.ks { getM W.ks x.id with st:=3,since:=now } }::aI 101 4 (.slice (some ⟨bb,oo,none⟩) L.length lc) L.length (mV L)::F) ah ?_
        refine aO (mm:=1) (news:=iV [x.id]) 1 0 zr zr zr zr zr zr zr zr zr zr zr zr (Vw.ag rfl) rfl (qU _) ai (by show(_+1)*8≤_;omega) (fun _=>rfl) bh ?_
        intro v1
        rw[show iV acc++iV [x.id]=iV (acc++[x.id])from by simp[iV],show acc.length+1=(acc++[x.id]).length from by simp]
        refine aL 1 rfl ?_
        rintro ja jc rfl
        refine go ?_
        refine aK ih (i+1,{ W with ks:=eb W.ks { getM W.ks x.id with st:=3,since:=now } },acc++[x.id],ja,jc) rfl ⟨by simp only;omega,t1,KA,by have:=t2;simp only at this ⊢;omega,fun z hz=>by simp only;rw[t3];exact(uz z hz).1,by simp only[List.length_append,List.length_singleton];omega⟩ (by simp only;omega) bQ ah
      · intro _
        refine go ?_
        refine aK ih (i+1,W,acc,aa,ac) rfl ⟨by simp only;omega,hW,KA,DP,fun z hz=>(uz z hz).1,by simp only;omega⟩ (by simp only;omega) bQ ah
    · intro _
      refine go ?_
      refine aK ih (i+1,W,acc,aa,ac) rfl ⟨by simp only;omega,hW,KA,DP,fun z hz=>(uz z hz).1,by simp only;omega⟩ (by simp only;omega) bQ ah
def JQ(bv:Nat)(V:VM)(hV:qi V) :
  aq Tryz.prog 79 [ptr bv,.func (.func 80) #[] #[] ] [bM bv V] (fun r H=>∃l:List Int,l.length≤V.ks.length∧H=[aI 3 1 r l.length (iV l),bM bv V]):=by
 have pj:=hV.small
 have gp:=hV.nd
 have VZ:=nN V.ks
 refine aq.aj Tryz.func79 Tryz.ntmps79 fun G F R hE=>?_
 refine cI (iL bv V) ?_
 rintro bm -
 refine go ?_
 refine kT (kv:=Value.int .i64) (es:=fJ V.ks) (U:=aU) 1 zr zr zr zr zr (fun _=>rfl) bh ?_
 intro it
 refine go ?_
 refine bn (fun y:List Mem × List Int × Option Addr × Nat=>(y.1.map Mem.id).Nodup∧(∀x∈y.1,x∈V.ks)∧y.2.1.length≤y.1.length) (fun y=>V.ks.length-y.1.length)
  (fun y=>[(0,ptr bv),(0+1,.func (.func 80) #[] #[]),(5,.slice y.2.2.1 y.2.1.length y.2.2.2),(12,.pointer (some ⟨it,0,none⟩))])
  (fun y=>bF (Value.int .i64) bm it (fJ V.ks) (y.1.map Mem.id)::aI 3 1 (.slice y.2.2.1 y.2.1.length y.2.2.2) y.2.1.length (iV y.2.1)::ag bv (cl (ef V.self++[.int .i64 V.bK,.map (some bm)]) 143)::F) ([],[],none,0) ⟨List.nodup_nil,by simp,Nat.le_refl _⟩ rfl bQ (ao.trans (bj 3 1 none _) ah) ?_
 rintro⟨dn,acc,aa,ac⟩⟨lO,cu,gh⟩ ih
 simp only at lO cu gh
 have Oh:dn.length≤V.ks.length:=by
  have:=lO.length_le_of_subset (l₂:=V.ks.map Mem.id) fun n hn=>by
   obtain⟨x,hx,rfl⟩:=List.mem_map.1 hn
   exact List.mem_map.2 ⟨x,cu x hx,rfl⟩
  simpa using this
 refine go ?_
 refine n5 (kv:=Value.int .i64) (es:=fJ V.ks) 0 rfl fu.inj zr zr (fun _=>rfl) eW bh ?_ ?_
 ·intro dX
  refine go ?_
  refine aS (ao.head (B:=[aC (Value.int .i64) bm (fJ V.ks)]) (fun h hs=>by obtain⟨h',s,hm⟩:=gX h hs;exact⟨h',s,cV hm⟩)) ?_
  refine aw (ru _ acc ai) ?_
  refine go ?_
  refine ak (ao.trans (H2:=ag bv (cl (ef V.self++[.int .i64 V.bK,.map (some bm)]) 143)::aC (Value.int .i64) bm (fJ V.ks)::aI 3 1 (.slice aa acc.length ac) acc.length (iV (gy acc))::F) ah (cC bv bm V _)) ?_
  have Iu:=eP acc
  refine ak (H':=aI 3 1 (.slice aa acc.length ac) (gy acc).length (iV (gy acc))::bM bv V::F) (by rw[Iu];exact ah) ?_
  refine ad hE Tryz.func79 zr zr ⟨gy acc,ai,rfl⟩
 ·intro key v dF js
  obtain⟨y,YH,MF⟩:=List.mem_map.1 dF
  simp only[Prod.mk.injEq]at MF
  obtain⟨rfl,rfl⟩:=MF
  have V0:((y::dn).map Mem.id).Nodup:=List.nodup_cons.2 ⟨js,lO⟩
  have Ka:∀x∈y::dn,x∈V.ks:=fun x hx=>by
   rcases List.mem_cons.1 hx with rfl|h
   ·exact YH
   ·exact cu x h
  have cq:dn.length<V.ks.length:=by
   have h1:=V0.length_le_of_subset (l₂:=V.ks.map Mem.id) fun n hn=>by
    obtain⟨x,hx,rfl⟩:=List.mem_map.1 hn
    exact List.mem_map.2 ⟨x,Ka x hx,rfl⟩
   simp only[List.length_map,List.length_cons]at h1
   omega
  refine go ?_
  refine kU (kv:=Value.int .i64) (es:=fJ V.ks) 0 rfl fu.inj zr zr dF ?_
  unfold yU
  refine go ?_
  refine az zr zr zr bh ?_
  intro b7
  refine go ?_
  refine bq 0 zr zr zr zr zr zr (go ?_)
  refine aF (CZ y) ?_
  rintro _ _⟨b,rfl,rfl⟩
  cases b with
  | false =>
   refine go ?_
   refine aK ih (y::dn,acc,aa,ac) rfl ⟨V0,Ka,by simp only[List.length_cons];omega⟩ (by show _-(y::dn).length<_;simp only[List.length_cons];omega) bQ ah
  | true =>
   refine go ?_
   refine al (cs:=iV [y.id]) zr zr zr zr zr zr zr zr zr bh ?_
   intro row
   refine go ?_
   refine aS (H':=ag row (cl (iV [y.id]) 3)::aI 3 1 (.slice aa acc.length ac) acc.length (iV acc)::bF (Value.int .i64) bm it (fJ V.ks) (y.id::dn.map Mem.id)::ag bv (cl (ef V.self++[.int .i64 V.bK,.map (some bm)]) 143)::F) ah ?_
   refine aO (mm:=1) (news:=iV [y.id]) 1 0 zr zr zr zr zr zr zr zr zr zr zr zr (Vw.ag rfl) rfl (qU _) ai (by show(_+1)*8≤_;omega) (fun _=>rfl) bh ?_
   intro v1
   rw[show iV acc++iV [y.id]=iV (acc++[y.id])from by simp[iV],show acc.length+1=(acc++[y.id]).length from by simp]
   refine aL 1 rfl ?_
   rintro ja jc rfl
   refine go ?_
   refine aK ih (y::dn,acc++[y.id],ja,jc) rfl ⟨V0,Ka,by simp only[List.length_cons,List.length_append,List.length_nil];omega⟩ (by show _-(y::dn).length<_;simp only[List.length_cons];omega) bQ ah
def HM(bv:Nat)(V:VM)(hV:qi V)(seed:Int) :
  aq Tryz.prog 34 [ptr bv,.int .u64 seed] [bM bv V] (fun r H=>∃(id:Int) (b:Bool),r = .tuple #[.int .i64 id,.bool b]∧H=[bM bv V]∧(V.ks=[]→b=false)):=by
 have pj:=hV.small
 refine aq.aj Tryz.func34 Tryz.ntmps34 fun G F R hE=>?_
 refine go ?_
 refine aF (JQ bv V hV) ?_
 rintro r _⟨l,hl,rfl⟩
 refine aL 0 rfl ?_
 rintro la lc rfl
 refine dT 0 rfl ?_
 intro hvl
 refine go ?_
 refine au zr zr ?_ ?_
 ·intro h0
  refine go ?_
  refine ad hE Tryz.func34 zr zr ⟨_,false,rfl,rfl,fun _=>rfl⟩
 intro h0
 have Kh:0<l.length:=by omega
 have nA:=rp (x:=(nx (fN seed)).toNat) (n:=l.length) (by have:=l4 (fN seed);omega) Kh
 have G9:=fun b=>rH b seed l.length ai
 generalize hd:gq (nx (fN seed)).toNat l.length=d at nA G9
 obtain⟨x,hx⟩:∃x,l[d]?=some x:=⟨l[d],by simp[nA]⟩
 obtain⟨bb,oo,cc,dW⟩:=hvl.some (Vk Kh)
 simp only[Value.slice.injEq,true_and]at dW
 obtain⟨rfl,rfl⟩:=dW
 refine go ?_
 refine aF (kK seed) ?_
 rintro _ _⟨bs,rfl,rfl⟩
 refine go ?_
 refine aw (G9 bs) ?_
 refine go ?_
 refine bC d zr zr zr zr zr zr zr zr nA ?_
 refine aN 1 d zr zr zr hvl rfl (iP hx) zr zr (go ?_)
 ((refine ad hE Tryz.func34 zr zr ⟨_,true,rfl,rfl,fun h=>by rw[h]at hl;simp only[List.length_nil]at hl;omega⟩))
end Go.Proofs.YtnkfkabokmcgoaaGreatDoor
namespace Go.SL
section
variable{P:Program}{f:FuncId}{n:Nat}{R:Ending→World→Prop}{G:bY}{k:List Item}{L:dS}{H:List HP}
def oG{k0:List Item}{c:Code}(hk:fz 1000 k0 = .mk (.code (.loop c)::k))(h:K P f n R G (.code c :: .inLoop c::k) L H):K P f n R G k0 L H :=
 eF 1000 hk (lj (fun a cs w=>stepR_loop) h)
def j8{k0:List Item}{c:Code}(hk:fz 1000 k0 = .mk (.inLoop c::k))(h:K P f n R G (.code c :: .inLoop c::k) L H):K P f n R G k0 L H :=
 eF 1000 hk (lj (fun a cs w=>stepR_inLoop) h)
end
end Go.SL
namespace Go.Proofs.YtnkfkabokmcgoaaGreatDoor
open Go Go.SL
attribute [local irreducible] J K aq Ends ag aI aC bF aW aP a6 aZ bN bM II jN
def Et(kb:Nat)(lim gL bK:Int):aq Tryz.prog 67 [ptr kb] [jN kb lim gL bK] (fun r H=>H=[aI 3 1 r 0 [],jN kb lim gL bK]):=by
 refine aq.aj Tryz.func67 Tryz.ntmps67 fun G F R hE=>?_
 refine cI (BD kb lim gL bK) ?_
 rintro km -
 refine go ?_
 refine aF (GD km) ?_
 rintro _ _⟨bx,rfl,rfl⟩
 refine go ?_
 ((refine aF (kO 247 [ptr bx] 0 [ag bx (cl [.map (some km)] 144),aC (Value.int .i64) km [] ] [aC (Value.int .i64) km [] ] (fun xs=>xs.Perm (([]:List (Int × Value)).map (·.1))) ai (Dx bx km [] List.nodup_nil) (fun xs h=>by rw[h.length_eq];simp)) ?_))
 rintro r _⟨xs,GM,rfl⟩
 obtain rfl:xs=[]:=List.Perm.eq_nil GM
 have e:gy []=[]:=by simp[gy]
 rw[e]
 refine go ?_
 refine ak (ao.trans (H2:=ag kb (cl [.int .i64 lim,.int .i64 gL,.int .i64 bK,.map (some km)] 146)::aC (Value.int .i64) km []::aI 3 1 r 0 []::F) ah (rn kb km lim gL bK _)) ?_
 refine aG hE Tryz.func67 rfl _ zr zr ah
def B8(kb:Nat)(lim gL bK now:Int):aq Tryz.prog 29 [ptr kb,.int .i64 now] [jN kb lim gL bK] (fun r H=>∃(rv:Value) (e:Int),r = .tuple #[rv,.int .i64 e]∧H=[jN kb lim gL bK]):=by
 refine aq.aj Tryz.func29 Tryz.ntmps29 fun G F R hE=>?_
 refine go ?_
 refine aw (kq now 0 1099511627776) ?_
 cases h:gK now 0 1099511627776 with
 | false =>
  refine go ?_
  refine ad hE Tryz.func29 zr zr ⟨_,_,rfl,rfl⟩
 | true =>
  refine go ?_
  refine aF (Et kb lim gL bK) ?_
  rintro r _ rfl
  refine aL 0 rfl ?_
  rintro ra rc rfl
  refine go ?_
  refine oG rfl (go ?_)
  refine ad hE Tryz.func29 zr zr ⟨_,_,rfl,rfl⟩
def Ci(kb:Nat)(lim gL bK id now:Int):aq Tryz.prog 38 [ptr kb,.int .i64 id,.int .i64 now] [jN kb lim gL bK] (fun r H=>r = .bool false∧H=[jN kb lim gL bK]):=by
 refine aq.aj Tryz.func38 Tryz.ntmps38 fun G F R hE=>?_
 refine cI (BD kb lim gL bK) ?_
 rintro km -
 refine go ?_
 refine iR (es:=[]) (key:=id) 1 rfl fu zr zr zr zr zr zr zr zr (go ?_)
 refine ak (ao.trans ah (rn kb km lim gL bK _)) ?_
 refine ad hE Tryz.func38 zr zr ⟨rfl,rfl⟩
end Go.Proofs.YtnkfkabokmcgoaaGreatDoor
namespace Go.Proofs.YtnkfkabokmcgoaaGreatDoor
open Go Go.SL
attribute [local irreducible] J K aq Ends ag aI aC bF aW aP a6 aZ bN Sha.chunks Sha.chunk Sha.rounds Sha.sched fg cD GI fR aB
def EA(bs bd:Nat)(q:Int)(mb:Nat)(brk:Bool)(A:Ab):aq Tryz.prog 43 [ptr bs] [ag bs (cl (cF bd q mb brk) 120),aB bd A]
  (fun r H=>H=[aI 36 32 r (kE A).length ((kE A).flatMap dC),ag bs (cl (cF bd q mb brk) 120),aB bd A]):=by
 refine aq.aj Tryz.func43 Tryz.ntmps43 fun G F R hE=>?_
 refine qq (bd:=bd) (A:=A) 1 rfl ?_
 intro DN
 have A6:=l3 DN
 obtain⟨l,hl⟩:∃l,l=ed A:=⟨_,rfl⟩
 have jt:kE A=l.filterMap (gj kI):=by unfold kE;rw[hl]
 have y4:=nW bd A
 rw[← hl]at y4 A6
 rw[jt]at hE
 refine go ?_
 refine aF y4 ?_
 rintro r _ rfl
 refine aL 0 rfl ?_
 rintro ra rc rfl
 refine dT 0 rfl ?_
 intro dt
 refine go ?_
 refine ak (bj 36 32 none _) ?_
 refine bn (fun y:Nat × List Dg × Option Addr × Nat=>y.1≤l.length∧y.2.1=(l.take y.1).filterMap (gj kI)) (fun y=>l.length-y.1)
  (fun y=>[(0,ptr bs),(3,.slice y.2.2.1 y.2.1.length y.2.2.2),(12,.slice ra l.length rc),(13,.int .i64 (l.length:Int)),(14,.int .i64 (y.1:Int))])
  (fun y=>aI 36 32 (.slice y.2.2.1 y.2.1.length y.2.2.2) y.2.1.length (y.2.1.flatMap dC)::aI 9 1 (.slice ra l.length rc) l.length (l.map Value.string)::ag bs (cl (cF bd q mb brk) 120)::aB bd A::F) (0,[],none,0) ⟨Nat.zero_le _,rfl⟩ rfl bQ ah ?_
 rintro⟨i,acc,xa,xc⟩⟨hi,gh⟩ ih
 simp only at hi gh
 have Wc:acc.length≤200:=by
  have h1:=List.length_filterMap_le (gj kI) (l.take i)
  rw[← gh,List.length_take]at h1
  omega
 dsimp only
 refine go ?_
 refine au zr zr ?_ ?_
 ·intro cq
  have dq:i<l.length:=by omega
  obtain⟨nm,hx⟩:∃x,l[i]?=some x:=⟨l[i],by simp⟩
  have mE:(l.take (i+1)).filterMap (gj kI)=acc++(match gj kI nm with|none=>[]|some d=>[d]):=by
   rw[List.take_add_one,hx,List.filterMap_append,gh]
   congr 1
   cases hh:gj kI nm <;> simp[hh]
  have cG:(l.map Value.string)[i]?=some (.string nm):=by rw[List.getElem?_map,hx];rfl
  obtain⟨b,o,eX,dW⟩:=dt.some (by intro h;rw[h]at cG;simp at cG)
  simp only[Value.slice.injEq]at dW
  obtain⟨rfl,_,rfl⟩:=dW
  refine go ?_
  refine bX i 1 zr zr zr zr zr zr zr zr dq ?_
  refine aT ?_
  refine aN 1 (i*1) zr zr zr dt rfl (by rw[Nat.mul_one];exact cG) zr zr ?_
  refine go ?_
  refine aw (uF kI nm (by decide)) ?_
  cases hh:gj kI nm with
  | none =>
   rw[hh]at mE
   simp only[List.append_nil]at mE
   simp only[uG]
   unfold dV
   refine go ?_
   refine az zr zr zr bh ?_
   intro b9
   refine go ?_
   refine aK ih (i+1,acc,xa,xc) rfl ⟨by simp only;omega,mE.symm⟩ (by simp only;omega) bQ ah
  | some d =>
   rw[hh]at mE
   simp only at mE
   simp only[uG]
   unfold dV
   refine go ?_
   refine az zr zr zr bh ?_
   intro b9
   refine go ?_
   refine aM (U:=aU) (l:=dC d) 0 zr zr zr zr zr zr ?_
   refine al (cs:=dC d) zr zr zr zr zr zr zr zr zr bh ?_
   intro row
   refine go ?_
   refine aO (mm:=1) (news:=dC d) 2 0 zr zr zr zr zr zr zr zr zr zr zr zr (Vw.ag rfl) rfl (by rw[eG];exact dm _) ai (by show(_+1)*32≤_;omega) (fun _=>rfl) bh ?_
   intro v1
   rw[show acc.flatMap dC++dC d=(acc++[d]).flatMap dC from by simp,show acc.length+1=(acc++[d]).length from by simp]
   refine aL 2 rfl ?_
   rintro Ih Ig rfl
   refine go ?_
   refine aK ih (i+1,acc++[d],Ih,Ig) rfl ⟨by simp only;omega,mE.symm⟩ (by simp only;omega) bQ ah
 ·intro ek
  have vK:i=l.length:=by omega
  rw[vK,List.take_length]at gh
  rw[← gh]at hE
  clear ih
  refine go ?_
  refine aG hE Tryz.func43 rfl _ zr zr ah
end Go.Proofs.YtnkfkabokmcgoaaGreatDoor
namespace Go.Proofs.YtnkfkabokmcgoaaGreatDoor
open Go Go.SL
attribute [local irreducible] J K aq Ends ag aI aC bF aW aP a6 aZ bN aB kP
def vx(a:Option Addr)(c:Nat)(fv:Value):aq Tryz.prog 109 [.slice a 0 c,fv] [] (fun r H=>r = .int .i64 (-1)∧H=[]):=by
 refine aq.aj Tryz.func109 Tryz.ntmps109 fun G F R hE=>?_
 refine go ?_
 refine oG rfl (go ?_)
 refine ad hE Tryz.func109 zr zr ⟨rfl,rfl⟩
section
variable(nb:Nat)(id:Int)(S:Cs)(st tb bv kb hb ms mg:Nat)(pv:Value)(br:Bool)
def xO(d:Dg)(a:Option Addr)(c:Nat)(hp:pv = .slice a 0 c):aq Tryz.prog 45 [ptr nb,dV d] [ag nb (cl (dG id S st tb bv kb hb pv ms mg br) 73)] (fun r H=>r = .int .i64 (-1)∧H=[ag nb (cl (dG id S st tb bv kb hb pv ms mg br) 73)]):=by
 subst hp
 unfold dV
 refine aq.aj Tryz.func45 Tryz.ntmps45 fun G F R hE=>?_
 refine aH rfl ?_
 refine bp zr zr bh ?_
 intro b3
 refine go ?_
 refine aw (vx a c _) ?_
 refine go ?_
 refine ad hE Tryz.func45 zr zr ⟨rfl,rfl⟩
def BS:aq Tryz.prog 14 [ptr nb] [ag nb (cl (dG id S st tb bv kb hb pv ms mg br) 73)] (fun r H=>r = .bool br∧H=[ag nb (cl (dG id S st tb bv kb hb pv ms mg br) 73)]):=by
 refine aq.aj Tryz.func14 Tryz.ntmps14 fun G F R hE=>?_
 refine go ?_
 refine ad hE Tryz.func14 zr zr ⟨rfl,rfl⟩
def zB(V:VM)(hV:qi V):aq Tryz.prog 10 [ptr nb] [ag nb (cl (dG id S st tb bv kb hb pv ms mg br) 73),bM bv V] (fun r H=>∃L:List Mem,L.length=V.ks.length∧H=[aI 101 4 r L.length (mV L),ag nb (cl (dG id S st tb bv kb hb pv ms mg br) 73),bM bv V]):=by
 have pj:=hV.small
 refine aq.aj Tryz.func10 Tryz.ntmps10 fun G F R hE=>?_
 refine go ?_
 refine aF (FX bv V hV.nd ai) ?_
 rintro r _⟨L,hLl,hLm,hLn,rfl⟩
 refine go ?_
 refine ad hE Tryz.func10 zr zr ⟨L,hLl,rfl⟩
def tm(bd:Nat)(q:Int)(mb:Nat)(bk:Bool)(A:Ab)(d:Dg)(oK:jF A (dg kB d)=false):aq Tryz.prog 196 [ptr nb,dV d] [ag nb (cl (dG id S st tb bv kb hb pv ms mg br) 73),ag st (cl (cF bd q mb bk) 120),aB bd A]
  (fun r H=>r = .tuple #[.agg (dY Bl.zero).toArray,.bool false]∧H=[ag nb (cl (dG id S st tb bv kb hb pv ms mg br) 73),ag st (cl (cF bd q mb bk) 120),aB bd A]):=by
 have hh:=FT st bd q mb bk A d
 rw[oK]at hh
 unfold dV at hh ⊢
 refine aq.aj Tryz.func196 Tryz.ntmps196 fun G F R hE=>?_
 refine aH rfl ?_
 refine bp zr zr bh ?_
 intro b3
 refine az zr zr zr bh ?_
 intro b4
 refine go ?_
 refine aJ (fun w=>Sat G w ([ag nb (cl (dG id S st tb bv kb hb pv ms mg br) 73),ag b3 (cl (dC d) 36)])) (cM 0 5 (.act 5 (.st 6 .nil))) rfl ae ae ae cY ?_
 refine go ?_
 refine df (U:=aU) (l:=dC d) 1 zr zr zr zr zr zr (go ?_)
 refine bP hh ?_
 refine go ?_
 (refine bg hE ?_;apply a7 (U:=aU) hE Tryz.func196 rfl (ao.refl _);(repeat(first|exact aQ.nil|apply aQ.tmp rfl|apply aQ.agg 2 zr zr zr zr zr));exact⟨rfl,rfl⟩;exact ah)
def vz(a:Option Addr)(c:Nat)(fv:Value):aq Tryz.prog 161 [.slice a 0 c,fv] [] (fun r H=>r = .int .i64 (-1)∧H=[]):=by
 refine aq.aj Tryz.func161 Tryz.ntmps161 fun G F R hE=>?_
 refine go ?_
 refine oG rfl (go ?_)
 refine ad hE Tryz.func161 zr zr ⟨rfl,rfl⟩
def xg(jb:Nat)(tv:Value)(mR:Bool)(d:Dg):aq Tryz.prog 199 [ptr nb,dV d] (ag nb (cl (dG id S st tb bv kb hb pv ms mg br) 73)::ff tb st jb tv [] mR)
  (fun r H=>r = .tuple #[.agg (dY Bl.zero).toArray,.bool false]∧H=ag nb (cl (dG id S st tb bv kb hb pv ms mg br) 73)::ff tb st jb tv [] mR):=by
 have ZM:=vC tb st jb tv mR [] (by simp)
 unfold ff at ZM ⊢
 unfold dV
 refine aq.aj Tryz.func199 Tryz.ntmps199 fun G F R hE=>?_
 refine aH rfl ?_
 refine bp zr zr bh ?_
 intro b3
 refine az zr zr zr bh ?_
 intro b4
 refine go ?_
 refine aF ZM ?_
 rintro r _ rfl
 refine aL 0 rfl ?_
 rintro ra rc rfl
 refine go ?_
 refine aw (vz ra rc _) ?_
 refine aS (H':=ag b4 (cl (dY Bl.zero) 107)::ag nb (cl (dG id S st tb bv kb hb pv ms mg br) 73)::ag tb (cl [ptr st,ptr jb,tv,.bool mR] 131)::aI 133 1 tv ([]:List Tk).length (([]:List Tk).map eK)::bZ []::F) ah (go ?_)
 (refine bg hE ?_;apply a7 (U:=aU) hE Tryz.func199 rfl (ao.refl _);(repeat(first|exact aQ.nil|apply aQ.tmp rfl|apply aQ.agg 0 zr zr zr zr zr));exact⟨rfl,rfl⟩;exact ah)
def Hy(bd jb:Nat)(q:Int)(mb:Nat)(bk:Bool)(A:Ab)(tv:Value)(mR:Bool)(d:Dg)(oK:jF A (dg kB d)=false):aq Tryz.prog 100 [ptr nb,dV d] (ag nb (cl (dG id S st tb bv kb hb pv ms mg br) 73)::ag st (cl (cF bd q mb bk) 120)::aB bd A::ff tb st jb tv [] mR)
  (fun r H=>r = .tuple #[.pointer none,.bool false]∧H=ag nb (cl (dG id S st tb bv kb hb pv ms mg br) 73)::ag st (cl (cF bd q mb bk) 120)::aB bd A::ff tb st jb tv [] mR):=by
 have hw:=tm nb id S st tb bv kb hb ms mg pv br bd q mb bk A d oK
 have hp:=xg nb id S st tb bv kb hb ms mg pv br jb tv mR d
 unfold ff at hp ⊢
 unfold dV at hw hp ⊢
 refine aq.aj Tryz.func100 Tryz.ntmps100 fun G F R hE=>?_
 refine aH rfl ?_
 refine bp zr zr bh ?_
 intro b3
 refine go ?_
 refine aM (U:=aU) (l:=dC d) 0 zr zr zr zr zr zr (go ?_)
 refine aw hw ?_
 refine go ?_
 refine az zr zr zr bh ?_
 intro b6
 refine go ?_
 refine aS (H':=ag b3 (cl (dC d) 36)::ag nb (cl (dG id S st tb bv kb hb pv ms mg br) 73)::ag st (cl (cF bd q mb bk) 120)::aB bd A::ag tb (cl [ptr st,ptr jb,tv,.bool mR] 131)::aI 133 1 tv ([]:List Tk).length (([]:List Tk).map eK)::bZ []::F) ah ?_
 refine aM (U:=aU) (l:=dC d) 0 zr zr zr zr zr zr (go ?_)
 refine aw hp ?_
 refine go ?_
 refine az zr zr zr bh ?_
 intro b10
 refine go ?_
 refine ad hE Tryz.func100 zr zr ⟨rfl,rfl⟩
def C2(bd jb:Nat)(q:Int)(mb:Nat)(bk:Bool)(A:Ab)(tv:Value)(mR:Bool)(d:Dg)(i:Int)(oK:jF A (dg kB d)=false):aq Tryz.prog 201 [ptr nb,dV d,.int .i64 i] (ag nb (cl (dG id S st tb bv kb hb pv ms mg br) 73)::ag st (cl (cF bd q mb bk) 120)::aB bd A::ff tb st jb tv [] mR)
  (fun r H=>r = .tuple #[.slice none 0 0,.slice none 0 0,.bool false]∧H=ag nb (cl (dG id S st tb bv kb hb pv ms mg br) 73)::ag st (cl (cF bd q mb bk) 120)::aB bd A::ff tb st jb tv [] mR):=by
 have hw:=tm nb id S st tb bv kb hb ms mg pv br bd q mb bk A d oK
 have hp:=xg nb id S st tb bv kb hb ms mg pv br jb tv mR d
 unfold ff at hp ⊢
 unfold dV at hw hp ⊢
 refine aq.aj Tryz.func201 Tryz.ntmps201 fun G F R hE=>?_
 refine aH rfl ?_
 refine bp zr zr bh ?_
 intro b3
 refine go ?_
 refine aM (U:=aU) (l:=dC d) 0 zr zr zr zr zr zr (go ?_)
 refine aw hw ?_
 refine go ?_
 refine az zr zr zr bh ?_
 intro b9
 refine go ?_
 refine aS (H':=ag b9 (cl (dY Bl.zero) 107)::ag b3 (cl (dC d) 36)::ag nb (cl (dG id S st tb bv kb hb pv ms mg br) 73)::ag st (cl (cF bd q mb bk) 120)::aB bd A::ag tb (cl [ptr st,ptr jb,tv,.bool mR] 131)::aI 133 1 tv ([]:List Tk).length (([]:List Tk).map eK)::bZ []::F) ah ?_
 refine aM (U:=aU) (l:=dC d) 1 zr zr zr zr zr zr (go ?_)
 refine aw hp ?_
 refine aS (H':=ag b9 (cl (dY Bl.zero) 107)::ag nb (cl (dG id S st tb bv kb hb pv ms mg br) 73)::ag st (cl (cF bd q mb bk) 120)::aB bd A::ag tb (cl [ptr st,ptr jb,tv,.bool mR] 131)::aI 133 1 tv ([]:List Tk).length (([]:List Tk).map eK)::bZ []::F) ah (go ?_)
 refine ad hE Tryz.func201 zr zr ⟨rfl,rfl⟩
end
end Go.Proofs.YtnkfkabokmcgoaaGreatDoor
namespace Go.Proofs.YtnkfkabokmcgoaaGreatDoor
open Go Go.SL
def Ns{ts:List Tk}(h:jM ts=[]):ts=[]:=by
 unfold jM at h
 exact List.map_eq_nil_iff.1 h
theorem KF{A:Ab}(h:HA A)(hn:A.names=[])(hw:A.writes.length≤700000000):∀B,nU A 0 B→B.writes.length≤700000000∧(je B mS).length≤900000∧(∀x∈je B mS,x.length≤1000000)∧((je B mS).foldl e7 []).length≤100:=by
 grind [vg,je,mS,DY,EG]
attribute [local irreducible] J K aq Ends ag aI aC bF aW aP a6 aZ bN Sha.chunks Sha.chunk Sha.rounds Sha.sched fg cD GI fR aB kP bZ
end Go.Proofs.YtnkfkabokmcgoaaGreatDoor
namespace Go.Proofs.YtnkfkabokmcgoaaGreatDoor
open Go Go.SL
structure abW(A:Ab):Prop where
 noF:∀d,jF A (dg kB d)=false
 noI:∀d,gn A d=none
 im:kE A=[]
theorem QD.nil{t:SJ}(h:QD t):abW t.1.A:=⟨fun d=>h.noF (nL kB d),fun d=>h.image d (nL kI d),h.Vl (by
  cases hh:gj kI mS with
  | none=>rfl
  | some d=>exact absurd (G'.1 hh).symm (nL kI d))⟩
structure NC(S:Cs):Prop where
 q:1≤S.dZ∧S.dZ≤1073741824
 bt:1≤S.bt∧S.bt≤64
 bK:1≤S.bK∧S.bK≤256
 each:1≤S.each∧S.each≤S.bK
 pat:1≤S.pat∧S.pat≤1048576
 lim:1≤S.lim∧S.lim≤100
 gL:1≤S.gL∧S.gL≤1048576
 bD:1≤S.bD∧S.bD≤16
def lf{n lo hi:Int}(h:lo≤n∧n≤hi):gK n lo hi=true:=by
 unfold gK
 rw[decide_eq_true h.1,decide_eq_true h.2]
 rfl
attribute [local irreducible] J K aq Ends ag aI aC bF aW aP a6 aZ bN aB kP
def zn(X:HP)(hK:pt X)(bd:Nat)(q:Int)(hq:1≤q∧q≤1073741824)(room:Nat):aq Tryz.prog 18 [ptr bd,.int .i64 q] [aB bd (Ab.new room),X]
  (fun r H=>∃bs mb,nU (Ab.new room) 0 (Ab.new room)∧r = .tuple #[ptr bs,.int .i64 0]∧H=[ag bs (cl (cF bd q mb false) 120),aC dV mb (dP []),aB bd (Ab.new room),X]):=by
 refine aq.post (HR X hK bd q (Ab.new room) (by show 1≤_;omega)) fun v H h=>?_
 rcases h with⟨h,_⟩|⟨_,h,_⟩|⟨_,_,e,B,ho,hc⟩
 ·exfalso;omega
 ·cases h
 obtain⟨rfl,rfl⟩:=vg rfl ho
 rcases hc with⟨h,_⟩|⟨_,_,bs,mb,h1,h2⟩
 ·exact absurd rfl h
 ·exact⟨bs,mb,ho,h1,h2⟩
def yN(X:HP)(hK:pt X)(bs bd:Nat)(q:Int)(hq:1≤q∧q≤1073741824)(mb room:Nat)(hr:64≤room)(ho:nU (Ab.new room) 0 (Ab.new room)):aq Tryz.prog 20 [ptr bd,ptr bs] [ag bs (cl (cF bd q mb false) 120),aC dV mb (dP []),aB bd (Ab.new room),X]
  (fun r H=>∃(t:SJ) (tb jb:Nat) (tv:Value),QD t∧r = .tuple #[ptr tb,.int .i64 0]∧H=ff tb bs jb tv [] false++[kP bs bd jb q mb [] t,X]):=by
 obtain⟨b1,b2,b3,b4⟩:=KF (HA.new room) rfl (by show 0≤_;omega) (Ab.new room) ho
 refine aq.post (HS X hK bs bd q ⟨ai,hq.2⟩ mb ⟨Ab.new room,[],false⟩ ⟨by simp,by simp⟩ (by simp) (by show 1≤_;omega) (by show 0≤_;omega) b2 b3 b4) fun v H h=>?_
 obtain⟨e,t,jn,cs,hO,hc⟩:=h
 obtain⟨rfl,rfl,hq⟩:=QD.new (t:=(t,jn)) hr (⟨0,Ab.new room,ho,by rw[if_neg ai];exact⟨t,jn,hO,rfl⟩⟩:K4 q (Ab.new room) e (t,jn) cs)
 rcases hc with⟨h,_⟩|⟨_,tb,jb,tv,ts,Fm,h1,h2⟩
 ·exact absurd rfl h
 ·have:=Ns Fm
  subst this
  exact⟨(t,jn),tb,jb,tv,hq,h1,h2⟩
attribute [local irreducible] bM jN
section
variable(nb:Nat)(id:Int)(S:Cs)(st tb bv kb hb ms mg:Nat)(pv:Value)(br:Bool)
def tA(bd:Nat)(q:Int)(mb:Nat)(bk:Bool)(A:Ab)(d:Dg)(oK:gn A d=none):aq Tryz.prog 46 [ptr nb,dV d] [ag nb (cl (dG id S st tb bv kb hb pv ms mg br) 73),ag st (cl (cF bd q mb bk) 120),aB bd A]
  (fun r H=>r = .bool false∧H=[ag nb (cl (dG id S st tb bv kb hb pv ms mg br) 73),ag st (cl (cF bd q mb bk) 120),aB bd A]):=by
 have hi:=vB st bd q mb bk A d
 rw[oK]at hi
 unfold dV LR at hi
 unfold dV
 refine aq.aj Tryz.func46 Tryz.ntmps46 fun G F R hE=>?_
 refine aH rfl ?_
 refine bp zr zr bh ?_
 intro b3
 refine go ?_
 refine aJ (fun w=>Sat G w ([ag nb (cl (dG id S st tb bv kb hb pv ms mg br) 73),ag b3 (cl (dC d) 36)])) (cM 0 5 (.fork (.act 5 (cM 6 3 (.act 9 (.act 10 (.st 11 .nil))))) (.act 9 (.act 5 (cM 6 3 (.act 10 (.st 11 .nil))))))) rfl ae ae ae cY ?_
 refine go ?_
 refine df (U:=aU) (l:=dC d) 1 zr zr zr zr zr zr (go ?_)
 refine od ?_ ?_
 ·((refine cP zr zr zr zr (hi) ah ?_ (fun _ _ w hp hw=>by obtain⟨_,rfl,rfl⟩:=hp;exact hw.cn ah)))
  rintro _ _⟨rv,rfl,rfl⟩
  refine aL 0 rfl ?_
  rintro ra rc rfl
  refine go ?_
  refine az zr zr zr (fun _ _ hw=>hw.cn ah) ?_
  intro b5
  refine go ?_
  (refine aY ?_;(refine bG 0 cY zr zr zr zr zr zr zr zr zr ?_))
  refine go ?_
  refine ad hE Tryz.func46 zr zr ⟨rfl,rfl⟩
 ·refine az zr zr zr (fun _ _ hw=>hw.cn ah) ?_
  intro b5
  refine go ?_
  ((refine cP zr zr zr zr (hi) ah ?_ (fun _ _ w hp hw=>by obtain⟨_,rfl,rfl⟩:=hp;exact hw.cn ah)))
  rintro _ _⟨rv,rfl,rfl⟩
  refine aL 0 rfl ?_
  rintro ra rc rfl
  refine go ?_
  (refine aY ?_;(refine bG 3 cY zr zr zr zr zr zr zr zr zr ?_))
  refine go ?_
  refine ad hE Tryz.func46 zr zr ⟨rfl,rfl⟩
def vU(now:Int)(v:MV)(m:mQ)(a:Option Addr)(c:Nat)(hp:pv = .slice a 0 c):aq Tryz.prog 41 [ptr nb,.int .i64 now,.agg (mC v m).toArray] [ag nb (cl (dG id S st tb bv kb hb pv ms mg br) 73),aC dV ms [] ]
  (fun r H=>r = .slice none 0 0∧H=[ag nb (cl (dG id S st tb bv kb hb pv ms mg br) 73),aC dV ms [] ]):=by
 have hpe:=C3 nb id S st tb bv kb hb ms mg pv br now v m
 have M4:=xO nb id S st tb bv kb hb ms mg pv br m.hash a c hp
 unfold dV at M4
 refine aq.aj Tryz.func41 Tryz.ntmps41 fun G F R hE=>?_
 refine aH rfl ?_
 refine bp zr zr bh ?_
 intro b5
 refine go ?_
 refine au zr zr ?_ ?_
 ·intro _
  refine go ?_
  refine aM (U:=aU) (l:=mC v m) 0 zr zr zr zr zr zr (go ?_)
  refine aw hpe ?_
  refine go ?_
  refine ad hE Tryz.func41 zr zr ⟨rfl,rfl⟩
 ·intro _
  refine go ?_
  refine bq (cs:=dC m.hash) 0 zr zr zr zr zr zr (go ?_)
  refine aw M4 ?_
  refine go ?_
  refine ad hE Tryz.func41 zr zr ⟨rfl,rfl⟩
end
end Go.Proofs.YtnkfkabokmcgoaaGreatDoor
namespace Go.Proofs.YtnkfkabokmcgoaaGreatDoor
open Go Go.SL
def BJ(V V':VM)(g g':List Int)(k bt:Int):Prop:=qi V'∧V'.bK=V.bK∧(g'=g∨g'=mA g k bt)
attribute [local irreducible] J K aq Ends ag aI aC bF aW aP a6 aZ bN aB kP bM jN bZ
section
variable(nb:Nat)(id:Int)(S:Cs)(st tb bv kb hb ms mg:Nat)(pv:Value)(br:Bool)
variable(bd jb:Nat)(q:Int)(mb:Nat)(bk:Bool)(A:Ab)(tv:Value)(mR:Bool)
def Hi(from_:Int)(v:MV)(m:mQ)(oK:jF A (dg kB m.hash)=false):aq Tryz.prog 103 [ptr nb,.int .i64 from_,.agg (mC v m).toArray] (ag nb (cl (dG id S st tb bv kb hb pv ms mg br) 73)::ag st (cl (cF bd q mb bk) 120)::aB bd A::ff tb st jb tv [] mR)
  (fun r H=>r = .agg (mC WI { mQ.zero with kind:=5,hash:=m.hash,piece:=m.piece }).toArray∧H=ag nb (cl (dG id S st tb bv kb hb pv ms mg br) 73)::ag st (cl (cF bd q mb bk) 120)::aB bd A::ff tb st jb tv [] mR):=by
 have hp:=C2 nb id S st tb bv kb hb ms mg pv br bd jb q mb bk A tv mR m.hash m.piece oK
 unfold ff at hp ⊢
 unfold dV at hp
 refine aq.aj Tryz.func103 Tryz.ntmps103 fun G F R hE=>?_
 refine aH rfl ?_
 refine bp zr zr bh ?_
 intro b5
 refine az zr zr zr bh ?_
 intro b6
 refine go ?_
 refine bq (cs:=dC m.hash) 1 zr zr zr zr zr zr (go ?_)
 refine aw hp ?_
 refine aS (H':=ag b6 (cl (mC WI mQ.zero) 42)::ag b5 (cl (mC v m) 42)::ag nb (cl (dG id S st tb bv kb hb pv ms mg br) 73)::ag st (cl (cF bd q mb bk) 120)::aB bd A::ag tb (cl [ptr st,ptr jb,tv,.bool mR] 131)::aI 133 1 tv ([]:List Tk).length (([]:List Tk).map eK)::bZ []::F) ah (go ?_)
 refine bq (cs:=dC m.hash) 1 zr zr zr zr zr zr (go ?_)
 (refine bg hE ?_;apply a7 (U:=aU) hE Tryz.func103 rfl (ao.refl _);(repeat(first|exact aQ.nil|apply aQ.agg 0 zr zr zr zr zr));exact⟨rfl,rfl⟩;exact ah)
def Da(X:HP)(v:MV)(m:mQ)(hm:yj X v m)(oK:jF A (dg kB m.hash)=false)(V:VM)(hV:qi V)(g:List Int)(from_ now:Int) :
  aq Tryz.prog 42 [ptr nb,.int .i64 from_,.int .i64 now,.agg (mC v m).toArray] (ag nb (cl (dG id S st tb bv kb hb pv ms mg br) 73)::aC dV ms []::bM bv V::aC (Value.int .i64) mg (gE g)::X::ag st (cl (cF bd q mb bk) 120)::aB bd A::ff tb st jb tv [] mR)
  (fun r H=>∃V' g',BJ V V' g g' from_ S.bt∧H=ag nb (cl (dG id S st tb bv kb hb pv ms mg br) 73)::aC dV ms []::bM bv V'::aC (Value.int .i64) mg (gE g')::X::ag st (cl (cF bd q mb bk) 120)::aB bd A::ff tb st jb tv [] mR):=by
 have Co:=Hi nb id S st tb bv kb hb ms mg pv br bd jb q mb bk A tv mR from_ v m oK
 have hbi:=Hy nb id S st tb bv kb hb ms mg pv br bd jb q mb bk A tv mR m.hash oK
 have hni:=Gu nb id S st tb bv kb hb ms mg pv br g from_
 have vH:=hm.vm
 have hlm:=hm.lm
 obtain⟨vi,vb,vp,vm⟩:=v
 simp only at vH
 obtain⟨ma,mc,rfl⟩:=vH.shape
 have lC:BJ V V g g from_ S.bt:=⟨hV,rfl,.inl rfl⟩
 unfold ff at Co hbi ⊢
 unfold dV at hbi
 refine aq.aj Tryz.func42 Tryz.ntmps42 fun G F R hE=>?_
 refine aH rfl ?_
 refine bp zr zr bh ?_
 intro b7
 refine go ?_
 refine aJ (fun w=>Sat G w ([ag nb (cl (dG id S st tb bv kb hb pv ms mg br) 73),ag b7 (cl (mC ⟨vi,vb,vp,.slice ma m.eT.length mc⟩ m) 42),aC dV ms [] ])) (cM 0 12 .nil) rfl ae ae ae cY ?_
 refine go ?_
 refine bU (U:=aU) (cs:=dC m.hash) 1 zr zr zr zr zr zr (go ?_)
 refine dK (es:=([]:List (Dg × Value))) (key:=m.hash) rfl J7 zr zr zr zr zr zr zr (fun w hw=>hw.eU (i:=2) rfl) ?_
 refine go ?_
 by_cases h8:m.kind=8
 ·refine aV 27 ((.bool true)) rfl ((congrArg Value.bool (decide_eq_true h8))) (go ?_)
  refine bn (fun y:Nat × VM=>y.1≤m.eT.length∧qi y.2∧y.2.bK=V.bK) (fun y=>m.eT.length-y.1)
   (fun y=>[(0,ptr nb),(2,.int .i64 now),(32,.slice ma m.eT.length mc),(33,.int .i64 m.eT.length),(34,.int .i64 (y.1:Int))])
   (fun y=>X::bM bv y.2::ag nb (cl (dG id S st tb bv kb hb pv ms mg br) 73)::aC dV ms []::aC (Value.int .i64) mg (gE g)::ag st (cl (cF bd q mb bk) 120)::aB bd A::ag tb (cl [ptr st,ptr jb,tv,.bool mR] 131)::aI 133 1 tv ([]:List Tk).length (([]:List Tk).map eK)::bZ []::F) (0,V) ⟨Nat.zero_le _,hV,rfl⟩ rfl bQ ah ?_
  rintro⟨i,W⟩⟨hi,hW,KA⟩ ih
  simp only at hi hW KA
  refine go ?_
  refine au zr zr ?_ ?_
  case' refine_2 =>
   intro ek
   refine go ?_
   refine ad hE Tryz.func42 zr zr ⟨W,g,⟨hW,KA,.inl rfl⟩,rfl⟩
  intro cq
  simp only at cq
  have dq:i<m.eT.length:=by omega
  obtain⟨x,hx⟩:∃x,m.eT[i]?=some x:=⟨m.eT[i],by simp⟩
  obtain⟨b3,o3,c3,xz⟩:=vH.some (by rw[← List.length_pos_iff,bI fh];omega)
  simp only[Value.slice.injEq]at xz
  obtain⟨rfl,-,rfl⟩:=xz
  refine go ?_
  refine bX i 4 zr zr zr zr zr zr zr zr ai ?_
  refine bW (U:=aU) (es:=ef x) 0 (i*4) zr zr zr vH rfl (fun j v hj=>?_) zr zr zr ?_
  ·have vJ:j<4:=by
    rcases Nat.lt_or_ge j 4 with h|h
    ·exact h
    ·rw[List.getElem?_eq_none (by rw[fh];exact h)]at hj;cases hj
   rw[ck fh hx j vJ];exact hj
  refine go ?_
  refine az zr zr zr bh ?_
  intro b12
  refine go ?_
  refine aJ (fun w=>Sat G w ([ag nb (cl (dG id S st tb bv kb hb pv ms mg br) 73),ag b12 (cl (ef x) 101)])) (cM 0 6 (.act 6 .nil)) rfl ae ae ae cY ?_
  refine go ?_
  refine bU (U:=aU) (cs:=ef x) 1 zr zr zr zr zr zr (go ?_)
  ((refine aF (H8 bv W x now hW.nd (by have:=hW.small;omega) (by have:=hW.bK;omega) hW.inc) ?_))
  rintro _ _⟨W',rfl,rfl,hh⟩
  obtain⟨hW1,hW2⟩:=hW.heard hh
  refine go ?_
  refine aK ih (i+1,W') rfl ⟨ai,hW1,hW2.trans KA⟩ (by simp only;omega) bQ ah
 refine aV 27 ((.bool false)) rfl ((congrArg Value.bool (decide_eq_false h8))) (go ?_)
 by_cases h6:m.kind=6
 ·refine aV 46 ((.bool true)) rfl ((congrArg Value.bool (decide_eq_true h6))) (go ?_)
  refine bq (cs:=dC m.hash) 0 zr zr zr zr zr zr (go ?_)
  refine aw hbi ?_
  refine go ?_
  refine ad hE Tryz.func42 zr zr ⟨V,g,lC,rfl⟩
 refine aV 46 ((.bool false)) rfl ((congrArg Value.bool (decide_eq_false h6))) (go ?_)
 by_cases h3:m.kind=3
 ·refine aV 66 ((.bool true)) rfl ((congrArg Value.bool (decide_eq_true h3))) (go ?_)
  refine aw hni ?_
  refine aS (H':=ag b7 (cl (mC ⟨vi,vb,vp,.slice ma m.eT.length mc⟩ m) 42)::ag nb (cl (dG id S st tb bv kb hb pv ms mg br) 73)::aC dV ms []::bM bv V::aC (Value.int .i64) mg (gE (mA g from_ S.bt))::X::ag st (cl (cF bd q mb bk) 120)::aB bd A::ag tb (cl [ptr st,ptr jb,tv,.bool mR] 131)::aI 133 1 tv ([]:List Tk).length (([]:List Tk).map eK)::bZ []::F) ah (go ?_)
  refine aM (U:=aU) (l:=mC ⟨vi,vb,vp,.slice ma m.eT.length mc⟩ m) 0 zr zr zr zr zr zr (go ?_)
  refine aw Co ?_
  refine go ?_
  refine al (cs := .int .i64 from_::mC WI { mQ.zero with kind:=5,hash:=m.hash,piece:=m.piece }) rfl rfl rfl rfl rfl rfl rfl rfl rfl bh ?_
  intro row
  refine go ?_
  refine ak (H':=ag nb (cl (dG id S st tb bv kb hb pv ms mg br) 73)::aC dV ms []::bM bv V::aC (Value.int .i64) mg (gE (mA g from_ S.bt))::X::ag st (cl (cF bd q mb bk) 120)::aB bd A::ag tb (cl [ptr st,ptr jb,tv,.bool mR] 131)::aI 133 1 tv ([]:List Tk).length (([]:List Tk).map eK)::bZ []::F) ah ?_
  refine ad hE Tryz.func42 zr zr ⟨V,mA g from_ S.bt,⟨hV,rfl,.inr rfl⟩,rfl⟩
 refine aV 66 ((.bool false)) rfl ((congrArg Value.bool (decide_eq_false h3))) (go ?_)
 by_cases h2:m.kind=2
 ·refine aD 84 ((.bool true)) rfl ((congrArg Value.bool (decide_eq_true h2))) (go ?_)
  have h1:¬m.kind=1:=by omega
  refine aD 99 ((.bool false)) rfl ((congrArg Value.bool (decide_eq_false h1))) (go ?_)
  refine ad hE Tryz.func42 zr zr ⟨V,g,lC,rfl⟩
 refine aD 84 ((.bool false)) rfl ((congrArg Value.bool (decide_eq_false h2))) (go ?_)
 by_cases h1:m.kind=1
 ·refine aD 99 ((.bool true)) rfl ((congrArg Value.bool (decide_eq_true h1))) (go ?_)
  refine ad hE Tryz.func42 zr zr ⟨V,g,lC,rfl⟩
 refine aD 99 ((.bool false)) rfl ((congrArg Value.bool (decide_eq_false h1))) (go ?_)
 refine ad hE Tryz.func42 zr zr ⟨V,g,lC,rfl⟩
def HG(X:HP)(v:MV)(m:mQ)(hm:yj X v m)(oK:jF A (dg kB m.hash)=false)(V:VM)(hV:qi V)(g:List Int)(from_ now:Int)(a:Option Addr)(c:Nat)(hpv:pv = .slice a 0 c) :
  aq Tryz.prog 11 [ptr nb,.int .i64 from_,.int .i64 now,.agg (mC v m).toArray] (ag nb (cl (dG id S st tb bv kb hb pv ms mg false) 73)::aC dV ms []::bM bv V::aC (Value.int .i64) mg (gE g)::jN kb S.lim S.gL S.bt::X::ag st (cl (cF bd q mb bk) 120)::aB bd A::ff tb st jb tv [] mR)
  (fun r H=>∃V' g',BJ V V' g g' from_ S.bt∧(g'=g∨(1≤from_∧from_≤65536))∧H=ag nb (cl (dG id S st tb bv kb hb pv ms mg false) 73)::aC dV ms []::bM bv V'::aC (Value.int .i64) mg (gE g')::jN kb S.lim S.gL S.bt::X::ag st (cl (cF bd q mb bk) 120)::aB bd A::ff tb st jb tv [] mR):=by
 have hpr:=Da nb id S st tb bv kb hb ms mg pv false bd jb q mb bk A tv mR X v m hm oK V hV g from_ now
 have hor:=vU nb id S st tb bv kb hb ms mg pv false now v m a c hpv
 have Co:=DQ nb id S st tb bv kb hb ms mg pv false from_ now v m
 have Ip:=Cw X v m hm
 have lC:BJ V V g g from_ S.bt:=⟨hV,rfl,.inl rfl⟩
 unfold ff at hpr ⊢
 refine aq.aj Tryz.func11 Tryz.ntmps11 fun G F R hE=>?_
 refine aH rfl ?_
 refine bp zr zr bh ?_
 intro b7
 refine go ?_
 refine aw (kA from_ 0 65536) ?_
 by_cases ux:0≤from_∧from_≤65536
 case neg =>
  rw[show gK from_ 0 65536=false from by unfold gK;rw[← Bool.decide_and];exact decide_eq_false ux]
  refine go ?_
  refine ad hE Tryz.func11 zr zr ⟨V,g,lC,.inl rfl,rfl⟩
 rw[lf ux]
 refine go ?_
 by_cases VR:from_=id
 ·refine aD 29 ((.bool true)) rfl ((congrArg Value.bool (decide_eq_true VR))) (go ?_)
  refine ad hE Tryz.func11 zr zr ⟨V,g,lC,.inl rfl,rfl⟩
 refine aD 29 ((.bool false)) rfl ((congrArg Value.bool (decide_eq_false VR))) (go ?_)
 refine aw (kA now 0 1099511627776) ?_
 cases NZ:gK now 0 1099511627776 with
 | false =>
  refine go ?_
  refine ad hE Tryz.func11 zr zr ⟨V,g,lC,.inl rfl,rfl⟩
 | true =>
 refine go ?_
 refine aM (U:=aU) (l:=mC v m) 0 zr zr zr zr zr zr (go ?_)
 refine aw Ip ?_
 cases hw3:tS m with
 | false =>
  refine go ?_
  refine ad hE Tryz.func11 zr zr ⟨V,g,lC,.inl rfl,rfl⟩
 | true =>
 refine aS (H':=ag b7 (cl (mC v m) 42)::ag nb (cl (dG id S st tb bv kb hb pv ms mg false) 73)::aC dV ms []::bM bv V::aC (Value.int .i64) mg (gE g)::jN kb S.lim S.gL S.bt::X::ag st (cl (cF bd q mb bk) 120)::aB bd A::ag tb (cl [ptr st,ptr jb,tv,.bool mR] 131)::aI 133 1 tv ([]:List Tk).length (([]:List Tk).map eK)::bZ []::F) ah (go ?_)
 refine aw (Ci kb S.lim S.gL S.bt from_ now) ?_
 refine aS (H':=ag b7 (cl (mC v m) 42)::ag nb (cl (dG id S st tb bv kb hb pv ms mg false) 73)::aC dV ms []::bM bv V::aC (Value.int .i64) mg (gE g)::jN kb S.lim S.gL S.bt::X::ag st (cl (cF bd q mb bk) 120)::aB bd A::ag tb (cl [ptr st,ptr jb,tv,.bool mR] 131)::aI 133 1 tv ([]:List Tk).length (([]:List Tk).map eK)::bZ []::F) ah (go ?_)
 by_cases h4:m.kind=4
 ·refine aV 47 ((.bool true)) rfl ((congrArg Value.bool (decide_eq_true h4))) (go ?_)
  refine aM (U:=aU) (l:=mC v m) 0 zr zr zr zr zr zr (go ?_)
  refine aw Co ?_
  refine go ?_
  refine ad hE Tryz.func11 zr zr ⟨V,g,lC,.inl rfl,rfl⟩
 refine aV 47 ((.bool false)) rfl ((congrArg Value.bool (decide_eq_false h4))) (go ?_)
 by_cases h5:m.kind=5
 ·refine aV 58 ((.bool true)) rfl ((congrArg Value.bool (decide_eq_true h5))) (go ?_)
  refine aJ (fun w=>Sat G w ([ag nb (cl (dG id S st tb bv kb hb pv ms mg false) 73),ag b7 (cl (mC v m) 42),aC dV ms [] ])) (cM 0 12 .nil) rfl ae ae ae cY ?_
  refine go ?_
  refine bU (U:=aU) (cs:=dC m.hash) 1 zr zr zr zr zr zr (go ?_)
  refine dK (es:=([]:List (Dg × Value))) (key:=m.hash) rfl J7 zr zr zr zr zr zr zr (fun w hw=>hw.eU (i:=2) rfl) ?_
  refine go ?_
  refine ad hE Tryz.func11 zr zr ⟨V,g,lC,.inl rfl,rfl⟩
 refine aV 58 ((.bool false)) rfl ((congrArg Value.bool (decide_eq_false h5))) (go ?_)
 by_cases h0:from_=0
 ·refine aV 81 ((.bool true)) rfl ((congrArg Value.bool (decide_eq_true h0))) (go ?_)
  refine aM (U:=aU) (l:=mC v m) 0 zr zr zr zr zr zr (go ?_)
  refine aw hor ?_
  refine go ?_
  refine ad hE Tryz.func11 zr zr ⟨V,g,lC,.inl rfl,rfl⟩
 refine aV 81 ((.bool false)) rfl ((congrArg Value.bool (decide_eq_false h0))) (go ?_)
 refine aM (U:=aU) (l:=mC v m) 0 zr zr zr zr zr zr (go ?_)
 refine aF hpr ?_
 rintro _ _⟨V',g',hT,rfl⟩
 refine go ?_
 refine ad hE Tryz.func11 zr zr ⟨V',g',hT,.inr ai,rfl⟩
end
end Go.Proofs.YtnkfkabokmcgoaaGreatDoor
namespace Go.Proofs.YtnkfkabokmcgoaaGreatDoor
open Go Go.SL
def KX(d:Dg):List Value := .int .i64 0::mC WI { mQ.zero with kind:=9,hash:=d }
def EZ(t:Int)(v:MV)(m:mQ)(h1:v.i.oneCell'=true)(h2:v.b.oneCell'=true)(h3:v.p.oneCell'=true)(h4:v.m.oneCell'=true):∀u∈Value.int .i64 t::mC v m,u.oneCell'=true:=by
 intro u hu
 unfold mC at hu
 rcases List.mem_cons.1 hu with rfl|hu
 ·rfl
 rcases List.mem_cons.1 hu with rfl|hu
 ·rfl
 rcases List.mem_append.1 hu with hu|hu
 ·exact KN [m.hash] u (by simpa using hu)
 ·simp only[List.mem_cons,List.not_mem_nil,or_false]at hu
  rcases hu with rfl|rfl|rfl|rfl|rfl|rfl
  ·rfl
  ·exact h1
  ·exact h2
  ·exact h3
  ·exact h4
  ·rfl
def NU(d:Dg)(at_:Int):List Value:=dC d++[.pointer none,.int .i64 at_,.int .i64 0]
structure NF where
 a:Option Addr
 c:Nat
 pb:Nat
 d:Dg
def plA:Option NF→Option Addr
 | none=>none
 | some p=>p.a
def plK:Option NF→Nat
 | none=>0
 | some p=>p.c
def U9:Option NF→Nat
 | none=>0
 | some _=>1
def Ij(op:Option NF):Value := .slice (plA op) (U9 op) (plK op)
def U':Option NF→HP
 | none=>emp
 | some p=>star (aI 93 1 (.slice p.a 1 p.c) 1 [ptr p.pb]) (ag p.pb (cl (NU p.d (-1)) 116))
def plO:Option NF→List Value
 | none=>[]
 | some p=>KX p.d
attribute [local irreducible] J K aq Ends ag aI aC bF aW aP a6 aZ bN aB kP bM jN bZ
def HL(nb:Nat)(id:Int)(S:Cs)(st tb bv kb hb ms mg:Nat)(bd:Nat)(q:Int)(mb:Nat)(bk:Bool)(A:Ab)(d:Dg)(oK:gn A d=none) :
  aq Tryz.prog 15 [ptr nb,dV d] [ag nb (cl (dG id S st tb bv kb hb (.slice none 0 0) ms mg false) 73),ag st (cl (cF bd q mb bk) 120),aB bd A]
  (fun r H=>∃p:NF,p.d=d∧r = .int .i64 0∧H=[ag nb (cl (dG id S st tb bv kb hb (Ij (some p)) ms mg false) 73),U' (some p),ag st (cl (cF bd q mb bk) 120),aB bd A]):=by
 have YS:=tA nb id S st tb bv kb hb ms mg (.slice none 0 0) false bd q mb bk A d oK
 have M4:=xO nb id S st tb bv kb hb ms mg (.slice none 0 0) false d none 0 rfl
 unfold dV at YS M4 ⊢
 refine aq.aj Tryz.func15 Tryz.ntmps15 fun G F R hE=>?_
 refine aH rfl ?_
 refine bp zr zr bh ?_
 intro b3
 refine go ?_
 refine aM (U:=aU) (l:=dC d) 0 zr zr zr zr zr zr (go ?_)
 refine aw M4 ?_
 refine aS (H':=ag b3 (cl (dC d) 36)::ag nb (cl (dG id S st tb bv kb hb (.slice none 0 0) ms mg false) 73)::ag st (cl (cF bd q mb bk) 120)::aB bd A::F) ah (go ?_)
 refine aM (U:=aU) (l:=dC d) 0 zr zr zr zr zr zr (go ?_)
 refine aw YS ?_
 refine aS (H':=ag b3 (cl (dC d) 36)::ag nb (cl (dG id S st tb bv kb hb (.slice none 0 0) ms mg false) 73)::ag st (cl (cF bd q mb bk) 120)::aB bd A::F) ah (go ?_)
 refine aJ (fun w=>Sat G w ([ag nb (cl (dG id S st tb bv kb hb (.slice none 0 0) ms mg false) 73),ag b3 (cl (dC d) 36)])) (cM 0 7 (.act 7 (.act 8 (.act 9 (.st 10 (.st 11 (.act 12 .nil))))))) rfl ae ae ae cY ?_
 refine go ?_
 refine df (U:=aU) (l:=dC d) 1 zr zr zr zr zr zr (go ?_)
 refine bp zr zr (fun _ w hw=>hw.cn ah) ?_
 intro pb
 refine go ?_
 refine al (cs:=[ptr pb]) zr zr zr zr zr zr zr zr zr (fun _ w hw=>hw.cn ah) ?_
 intro row
 refine go ?_
 refine aS (bj 93 1 none _) ?_
 refine aO (mm:=1) (news:=[ptr pb]) 0 1 rfl rfl rfl rfl rfl rfl rfl rfl rfl rfl rfl rfl (Vw.ag rfl) rfl (by intro v hv;simp at hv;subst hv;rfl) ai (by decide) (fun _=>rfl) (fun _ w hw=>hw.cn ah) ?_
 intro v2
 refine aL 0 rfl ?_
 rintro la lc rfl
 refine go ?_
 (refine aY ?_;(refine bG 4 eW zr zr zr zr zr zr zr zr zr ?_))
 refine go ?_
 refine ak (H':=U' (some ⟨la,lc,pb,d⟩)::ag nb (cl (dG id S st tb bv kb hb (.slice la 1 lc) ms mg false) 73)::ag st (cl (cF bd q mb bk) 120)::aB bd A::F) (ao.trans (H2:=aI 93 1 (.slice la 1 lc) 1 [ptr pb]::ag pb (cl (NU d (-1)) 116)::ag nb (cl (dG id S st tb bv kb hb (.slice la 1 lc) ms mg false) 73)::ag st (cl (cF bd q mb bk) 120)::aB bd A::F) ah (ao.join _ _ _)) ?_
 refine ad hE Tryz.func15 zr zr ⟨⟨la,lc,pb,d⟩,rfl,rfl,rfl⟩
section
variable(nb:Nat)(id:Int)(S:Cs)(st tb bv kb hb ms mg:Nat)(pv:Value)(br:Bool)
def FZ(pb:Nat)(d:Dg)(now seed:Int)(bd:Nat)(q:Int)(mb:Nat)(bk:Bool)(A:Ab)(oK:gn A d=none) :
  aq Tryz.prog 32 [ptr nb,ptr pb,.int .i64 now,.int .u64 seed] [ag nb (cl (dG id S st tb bv kb hb pv ms mg br) 73),ag pb (cl (NU d (-1)) 116),ag st (cl (cF bd q mb bk) 120),aB bd A]
  (fun r H=>∃rb:Nat,r = .tuple #[.slice (some ⟨rb,0,none⟩) 1 1,.bool false,.int .i64 0]∧H=[ag rb (cl (KX d) 56),ag nb (cl (dG id S st tb bv kb hb pv ms mg br) 73),ag pb (cl (NU d now) 116),ag st (cl (cF bd q mb bk) 120),aB bd A]):=by
 have YS:=tA nb id S st tb bv kb hb ms mg pv br bd q mb bk A d oK
 have hmg:=AM 9 d
 unfold dV at YS hmg
 refine aq.aj Tryz.func32 Tryz.ntmps32 fun G F R hE=>?_
 refine aH rfl ?_
 refine bp zr zr bh ?_
 intro b4
 refine go ?_
 refine aJ (fun w=>Sat G w ([ag b4 (cl [ptr nb] 29),ag pb (cl (NU d (-1)) 116)])) (cM 0 5 (.act 5 (.st 6 .nil))) rfl ae ae ae cY ?_
 refine go ?_
 refine bU (U:=aU) (cs:=dC d) 1 zr zr zr zr zr zr (go ?_)
 refine bP YS ?_
 refine go ?_
 refine aJ (fun w=>Sat G w ([ag b4 (cl [ptr nb] 29),ag pb (cl (NU d (-1)) 116)])) (cM 0 12 (.act 12 (.st 13 (.st 14 .nil)))) rfl ae ae ae cY ?_
 refine go ?_
 refine bP (KJ nb id S st tb bv kb hb ms mg pv br now) ?_
 refine aS (H':=ag pb (cl (NU d (-1)) 116)::ag nb (cl (dG id S st tb bv kb hb pv ms mg br) 73)::ag st (cl (cF bd q mb bk) 120)::aB bd A::F) ah (go ?_)
 refine bq (cs:=dC d) 0 zr zr zr zr zr zr (go ?_)
 refine aw hmg ?_
 refine go ?_
 refine al (cs:=KX d) zr zr zr zr zr zr zr zr zr bh ?_
 intro rb
 refine go ?_
 refine ad hE Tryz.func32 zr zr ⟨rb,rfl,rfl⟩
def zC(bd:Nat)(q:Int)(mb:Nat)(bk:Bool)(A:Ab)(oK:kE A=[]):aq Tryz.prog 12 [ptr nb] [ag nb (cl (dG id S st tb bv kb hb pv ms mg br) 73),ag st (cl (cF bd q mb bk) 120),aB bd A]
  (fun r H=>∃a c,r = .slice a 0 c∧H=[ag nb (cl (dG id S st tb bv kb hb pv ms mg br) 73),ag st (cl (cF bd q mb bk) 120),aB bd A]):=by
 have hi:=EA st bd q mb bk A
 rw[oK]at hi
 refine aq.aj Tryz.func12 Tryz.ntmps12 fun G F R hE=>?_
 refine go ?_
 refine aF hi ?_
 rintro r _ rfl
 refine aL 0 rfl ?_
 rintro ra rc rfl
 refine go ?_
 refine ad hE Tryz.func12 zr zr ⟨ra,rc,rfl,rfl⟩
def BR(jb:Nat)(tv:Value)(mR:Bool):aq Tryz.prog 13 [ptr nb] (ag nb (cl (dG id S st tb bv kb hb pv ms mg br) 73)::ff tb st jb tv [] mR)
  (fun r H=>∃a c,r = .slice a 0 c∧H=ag nb (cl (dG id S st tb bv kb hb pv ms mg br) 73)::ff tb st jb tv [] mR):=by
 have ZM:=vC tb st jb tv mR [] (by simp)
 unfold ff at ZM ⊢
 refine aq.aj Tryz.func13 Tryz.ntmps13 fun G F R hE=>?_
 refine go ?_
 refine aF ZM ?_
 rintro r _ rfl
 refine aL 0 rfl ?_
 rintro ra rc rfl
 refine go ?_
 refine ad hE Tryz.func13 zr zr ⟨ra,rc,rfl,rfl⟩
end
end Go.Proofs.YtnkfkabokmcgoaaGreatDoor
namespace Go.Proofs.YtnkfkabokmcgoaaGreatDoor
open Go Go.SL
structure Rt where
 id:Int
 sl:Int
 w:Bool
deriving DecidableEq
instance:Inhabited Rt:=⟨⟨0,0,false⟩⟩
def rC(x:Rt):List Value:=[.int .i64 x.id,.int .i64 x.sl,.bool x.w]
def fL(x:Rt):(rC x).length=3:=rfl
def cfR(x y:Rt):Int:=Ik [iG y.sl x.sl,iG x.id y.id]
def Mu(x:Rt):Bool:=decide (x.id<1) || decide (65536<x.id) || decide (x.sl<0) || decide (1099511627776<x.sl)
attribute [local irreducible] J K aq Ends ag aI aC bF aW aP a6 aZ bN
def Cg(x:Rt):aq Tryz.prog 254 [.agg (rC x).toArray] [] (fun r H=>r = .bool (!x.w)∧H=[]):=by
 refine aq.aj Tryz.func254 Tryz.ntmps254 fun G F R hE=>?_
 refine aH rfl ?_
 refine bp zr zr bh ?_
 intro bx
 refine go ?_
 refine ad hE Tryz.func254 zr zr ⟨rfl,rfl⟩
def CU(x:Rt):aq Tryz.prog 341 [.agg (rC x).toArray] [] (fun r H=>r = .bool (Mu x)∧H=[]):=by
 refine aq.aj Tryz.func341 Tryz.ntmps341 fun G F R hE=>?_
 refine aH rfl ?_
 refine bp zr zr bh ?_
 intro bx
 repeat'(first|(with_reducible intro iI)|refine fq ?_|refine dw zr zr zr zr ?_ ?_|fail)
 all_goals((refine ad hE Tryz.func341 zr zr ⟨congrArg Value.bool (by(rw[Bool.eq_iff_iff];simp[Mu];omega)),rfl⟩))
def Cf(x y:Rt):aq Tryz.prog 256 [.agg (rC x).toArray,.agg (rC y).toArray] [] (fun r H=>r = .int .i64 (cfR x y)∧H=[]):=by
 refine aq.aj Tryz.func256 Tryz.ntmps256 fun G F R hE=>?_
 refine aH rfl ?_
 refine bp zr zr bh ?_
 intro bx
 refine bp zr zr bh ?_
 intro sl
 refine go ?_
 refine aJ (fun w=>Sat G w ([ag bx (cl (aX (Value.agg (rC x).toArray)) 163),ag sl (cl (aX (Value.agg (rC y).toArray)) 163)])) (cM 0 4 (cM 5 4 (.act 4 (.act 9 (.act 10 (.act 11 (.st 12 .nil))))))) rfl ae ae ae cY ?_
 refine go ?_
 refine bP (fW y.sl x.sl) ?_
 refine go ?_
 refine bP (fW x.id y.id) ?_
 refine go ?_
 refine al (cs:=iV [iG y.sl x.sl,iG x.id y.id]) zr zr zr zr zr zr zr zr zr (fun _ w hw=>hw.cn ah) ?_
 intro b
 refine go ?_
 refine bP (Ep _ _ [iG y.sl x.sl,iG x.id y.id] (Vw.ag rfl) (by simp)) ?_
 refine go ?_
 refine ad hE Tryz.func256 zr zr ⟨rfl,rfl⟩
def rV(l:List Rt):List Value:=l.flatMap rC
def np(l:List Rt):rV l=l.flatMap rC:=rfl
def yH(l:List Rt):(rV l).length=l.length*3:=bI fL l
def U5(l:List Rt):∀v∈rV l,v.oneCell'=true:=by
 intro v hv
 obtain⟨x,_,h⟩:=List.mem_flatMap.1 hv
 simp[rC]at h
 rcases h with rfl|rfl|rfl <;> rfl
def qx(A X:HP)(v:Value)(l:List Rt)(hv:Vw A v l.length (rV l))(hlen:l.length≤1000000000)(g:FuncId)(cap:List Value)(p:Rt→Bool)(hf:∀x∈l,aq Tryz.prog g (.agg (rC x).toArray::cap) [X] (fun v H=>v = .bool (p x)∧H=[X])) :
  aq Tryz.prog 343 [v,.func (.func g) #[] cap.toArray] [A,X] (fun r H=>r = .int .i64 (gQ p l)∧H=[A,X]):=by
 obtain⟨a,c0,rfl⟩:=hv.shape
 refine aq.enter Tryz.func343 ae rfl Tryz.ntmps343 zr zr ?_
 intro G F R hR
 refine go ?_
 refine bn (fun i:Nat=>i≤l.length∧∀y∈l.take i,p y=false) (fun i=>l.length-i) (fun i=>[(0,.slice a l.length c0),(1,.func (.func g) #[] cap.toArray),(7,.int .i64 l.length),(8,.int .i64 i)]) (fun _=>[A,X]++F) 0 ⟨by simp,by simp⟩ rfl bQ (ao.refl _) ?_
 rintro i⟨hi,hb⟩ ih
 refine go ?_
 refine au zr zr ?_ ?_
 ·intro cq
  refine go ?_
  have dq:i<l.length:=by omega
  have hx:l[i]?=some l[i]:=by simp[dq]
  generalize Vp:l[i]=x at hx
  obtain⟨b,o,eX,dW⟩:=hv.some (by rw[← List.length_pos_iff,np,bI fL];omega)
  simp only[Value.slice.injEq]at dW
  obtain⟨rfl,_,rfl⟩:=dW
  refine bX i 3 zr zr zr zr zr zr zr zr dq ?_
  refine bW (U:=aU) (es:=rC x) 0 (i*3) zr zr zr hv rfl (fun j v hj=>?_) zr zr zr ?_
  ·have vJ:j<3:=by
    rcases Nat.lt_or_ge j 3 with h|h
    ·exact h
    ·rw[List.getElem?_eq_none (by rw[fL];exact h)]at hj;cases hj
   rw[np,ck fL hx j vJ];exact hj
  refine bR [1] zr zr zr zr (hf x (List.mem_of_getElem? hx)) rfl iE ?_
  rintro _ _⟨rfl,rfl⟩
  refine go ?_
  refine dj zr zr ?_ ?_
  ·intro hp
   refine go ?_
   refine aG hR Tryz.func343 rfl _ rfl ⟨by rw[gb hx hp hb];rfl,rfl⟩ (ao.fin [1,0] 0 zr zr)
  ·intro hp
   refine go ?_
   refine aK ih (i+1) rfl ⟨ai,jH hb hx hp⟩ ai bQ (ao.pick [1,0] rfl)
 ·intro ek
  refine go ?_
  have:i=l.length:=by omega
  subst this
  refine aG hR Tryz.func343 rfl _ rfl ⟨by rw[gY (fun x hx=>hb x (by simpa using hx))];rfl,rfl⟩ (ao.fin [0,1] 0 zr zr)
def wA(v:Value)(l:List Rt)(X:HP)(g:FuncId)(cap:List Value)(p:Rt→Bool)(hlen:l.length≤1000000000)(hf:∀x∈l,aq Tryz.prog g (.agg (rC x).toArray::cap) [X] (fun v H=>v = .bool (p x)∧H=[X])) :
  aq Tryz.prog 252 [v,.func (.func g) #[] cap.toArray] [aI 163 3 v l.length (rV l),X]
   (fun r H=>H=[aI 163 3 r (l.filter fun x => !p x).length (rV (l.filter fun x => !p x)),X]):=by
 refine aq.aj Tryz.func252 Tryz.ntmps252 fun G F R hE=>?_
 refine cL 0 rfl ?_
 rintro a0 c rfl
 refine go ?_
 refine dT 0 rfl ?_
 intro hv
 refine bR [0,1] zr zr zr zr (qx _ X _ l hv hlen g cap p hf) rfl iE ?_
 rintro _ _⟨rfl,rfl⟩
 refine go ?_
 refine au zr zr ?_ ?_
 ·intro h0
  have mO:l.any p=false:=jW.1 ai
  have qD:(l.filter fun x => !p x)=l:=List.filter_eq_self.2 fun x hx=>by
   have:=List.any_eq_false.1 mO x hx
   simpa using this
  rw[qD]at hE
  refine go ?_
  refine aG hE Tryz.func252 rfl _ zr zr (ao.fin [0,1] 0 zr zr)
 ·intro h0
  obtain⟨i0,x0,G4,Vq,GR,Bj⟩:=ph h0
  have Zu:i0<l.length:=by
   rcases Nat.lt_or_ge i0 l.length with h|h
   ·exact h
   ·rw[List.getElem?_eq_none h]at Vq;cases Vq
  rw[G4]
  refine go ?_
  refine pq (fun a l8 hn _=>by omega) ?_
  rintro b o c' pre bL vG jq hnc gg mF
  simp only[Value.slice.injEq,true_and]at vG
  obtain⟨rfl,rfl⟩:=vG
  have h1:l.take (i0+1)=l.take i0++[x0]:=by rw[List.take_add_one,Vq];rfl
  have Cp:(l.take i0).filter (fun x => !p x)=l.take i0:=List.filter_eq_self.2 fun x hx=>by simp[Bj x hx]
  refine bn (fun s:Nat × Nat × List Rt=>s.1<s.2.1∧s.2.1≤l.length∧s.2.2.length=l.length∧s.2.2.take s.1=(l.take s.2.1).filter (fun x => !p x)∧s.2.2.drop s.2.1=l.drop s.2.1) (fun s=>l.length-s.2.1)
   (fun s=>[(0,.slice (some ⟨b,o,none⟩) l.length c),(1,.func (.func g) #[] cap.toArray),(5,.int .i64 s.1),(6,.int .i64 s.2.1)])
   (fun s=>ag b (cl (pre++rV s.2.2++bL) 163)::X::F) (i0,i0+1,l) ⟨by simp,by simp only;omega,rfl,by simp only[h1,List.filter_append,Cp];simp[GR],rfl⟩ rfl bQ (ao.refl _) ?_
  rintro⟨i,j,E⟩⟨G1,Fh,Cq,se,Fq⟩ ih
  simp only at G1 Fh Cq se Fq
  have lg:(rV E).length=l.length*3:=by rw[np,bI fL,Cq]
  have YP:Vw (ag b (cl (pre++rV E++bL) 163)) (.slice (some ⟨b,o,none⟩) l.length c) l.length (rV E):=Vw.ag (by rw[List.append_assoc,← jq,List.drop_left,List.take_left])
  refine go ?_
  refine au zr zr ?_ ?_
  ·intro cq
   simp only at cq
   have nC:j<l.length:=by omega
   obtain⟨x,hx⟩:∃x,l[j]?=some x:=⟨l[j],by simp[nC]⟩
   have ZW:E[j]?=some x:=by
    have:=congrArg (·[0]?) Fq
    simp only[List.getElem?_drop,Nat.add_zero]at this
    rw[this];exact hx
   have dF:=List.mem_of_getElem? hx
   have M1:=hf _ dF
   refine go ?_
   refine bX j 3 zr zr zr zr zr zr zr zr nC ?_
   refine bW (U:=aU) (es:=rC x) 0 (j*3) zr zr zr YP rfl (fun q v hq=>?_) zr zr zr ?_
   ·have vJ:q<3:=by
     rcases Nat.lt_or_ge q 3 with h|h
     ·exact h
     ·rw[List.getElem?_eq_none (by rw[fL];exact h)]at hq;cases hq
    rw[np,ck fL ZW q vJ];exact hq
   refine az zr zr zr bh ?_
   intro bv
   refine go ?_
   refine bq 0 zr zr zr zr zr zr ?_
   refine bR [2] zr zr zr zr (M1) rfl iE ?_
   rintro _ _⟨rfl,rfl⟩
   refine go ?_
   refine dj zr zr ?_ ?_
   ·intro hp
    have pC:p x=false:=by simpa using hp
    refine go ?_
    refine bq 1 zr zr zr zr zr zr (go ?_)
    refine bX i 3 zr zr zr zr zr zr zr zr ai ?_
    refine j9 (U:=aU) (l':=pre++rV (E.set i x)++bL) 2 eW zr zr zr zr zr zr zr ?_ ?_ rfl ?_
    ·show o+i*3+3≤_
     rw[List.length_append,List.length_append,lg];omega
    ·show _=List.take (o+i*3) (pre++rV E++bL)++rC x++List.drop (o+i*3+(rC x).length) (pre++rV E++bL)
     rw[← jq,oX _ _ _ _ _ (by rw[fL,lg];omega),np,xV fL ai]
     rfl
    refine go ?_
    refine aK ih (i+1,j+1,E.set i x) rfl ⟨by simp only;omega,by simp only;omega,by simp only[List.length_set];exact Cq,?_,?_⟩ (by simp only;omega) bQ (ao.to [2,0] 1 zr zr zr)
    ·simp only
     rw[List.take_add_one,List.take_set_of_le (Nat.le_refl i),se,List.take_add_one (l:=l),hx,List.getElem?_set_self ai]
     simp[List.filter_append,pC]
    ·simp only
     rw[List.drop_set_of_lt ai,← List.drop_drop,Fq,List.drop_drop]
   ·intro hp
    have pC:p x=true:=by simpa using hp
    refine go ?_
    refine aK ih (i,j+1,E) rfl ⟨by simp only;omega,by simp only;omega,Cq,by simp only;rw[se,List.take_add_one,hx];simp[List.filter_append,pC],by simp only;rw[← List.drop_drop,Fq,List.drop_drop]⟩ (by simp only;omega) bQ (ao.to [2,0] 1 zr zr zr)
  ·intro ek
   refine go ?_
   simp only at ek
   have Zl:j=l.length:=by omega
   subst Zl
   rw[List.take_length]at se
   have uB:(l.filter fun x => !p x).length=i:=by rw[← se,List.length_take];omega
   refine hD zr zr zr zr zr zr zr ai ai (.inl rfl) ?_
   intro o1 Fe N'
   simp only[Int.toNat_natCast]at Fe N'
   have A5:i≠c→o1=o+i*3:=Fe
   have hL:(pre++rV E++bL).length=o+l.length*3+bL.length:=by rw[List.length_append,List.length_append,lg,jq]
   obtain⟨jV,Ba,Zm⟩:∃jV,(pre++rV E++bL).take o1++(List.replicate (((l.length:Int).toNat-(i:Int).toNat)) [Value.int .i64 0,.int .i64 0,.bool false]).flatten++(pre++rV E++bL).drop (o1+((l.length:Int).toNat-(i:Int).toNat)*3)=pre++rV (E.take i)++jV∧c*3≤i*3+jV.length:=by
    have Kv:i≠c:=by omega
    rw[A5 Kv,← jq,List.append_assoc pre,List.take_length_add_append,List.take_append_of_le_length (by rw[lg];omega),np,np,po fL E i ai]
    refine⟨_,by rw[List.append_assoc],?_⟩
    rw[List.length_append,List.length_drop,iu]
    simp only[List.length_append,List.length_cons,List.length_nil,bI fL,Cq,Int.toNat_natCast]
    have:=mF
    omega
   refine zL (U:=aU) (l':=pre++rV (E.take i)++jV) 0 eW zr zr zr zr zr zr zr zr ?_ ?_ rfl ?_
   ·have Kv:i≠c:=by omega
    show o1+((l.length:Int).toNat-(i:Int).toNat)*3≤_
    rw[A5 Kv,hL];omega
   ·rw[← Ba];rfl
   refine go ?_
   refine hD zr zr zr zr zr zr zr ai ai (.inr ai) ?_
   intro o2 ho3 ho4
   have Kl:o2=o:=by
    by_cases M9:(0:Int).toNat=c
    ·exact ho4 M9
    ·have:=ho3 M9;rw[this];simp
   subst Kl
   refine go ?_
   refine ak (gN (sz:=3) (nn:=i) (c:=c) jq ai (by rw[np,bI fL,List.length_take];omega) (by rw[np,bI fL,List.length_take];omega) _) ?_
   rw[← se,se,uB,← se]at hE
   refine aG hE Tryz.func252 rfl _ zr zr (ao.fin [0,1] 0 zr zr)
def LJ(A:HP)(v:Value)(W:List Rt)(hv:Vw A v W.length (rV W))(hlen:W.length≤1000000000) :
  aq Tryz.prog 253 [v] [A] (fun r H=>H=[aI 163 3 r W.length (rV W),A]):=by
 obtain⟨a,c0,rfl⟩:=hv.shape
 cases a with
 | none =>
  have hb:W=[]:=by
   obtain⟨a,cap,h1,h2|⟨b,o,h2,_⟩⟩:=hv
   ·have:=congrArg List.length h2
    rw[yH]at this
    exact List.eq_nil_of_length_eq_zero (by simp at this;omega)
   ·simp only[Value.slice.injEq]at h1;rw[← h1.1]at h2;cases h2
  subst hb
  refine aq.enter Tryz.func253 ae rfl Tryz.ntmps253 zr zr ?_
  intro G F R hR
  refine go ?_
  have he:c0=c0:=rfl
  refine ak (bj 163 3 none _) ?_
  refine aG hR Tryz.func253 rfl _ zr zr (ao.fin [0,1] 0 zr zr)
 | some a =>
  refine aq.enter Tryz.func253 ae rfl Tryz.ntmps253 zr zr ?_
  intro G F R hR
  refine go ?_
  refine al (cs:=[]) zr zr zr zr zr zr zr zr zr bh ?_
  intro b0
  refine go ?_
  refine aS (eL 163 3 b0 0 0 [] [] _ rfl (Nat.le_refl _) (by simp)) ?_
  refine aO (mm:=W.length) (news:=rV W) 0 1 zr zr zr zr zr zr zr zr zr zr zr zr hv (by rw[yH];rfl) (U5 W) ai (by show _*24≤_;omega) (fun _=>rfl) bh ?_
  intro v'
  have e1:(0:Nat)+W.length=W.length:=by omega
  rw[e1,List.nil_append]
  refine go ?_
  refine aG hR Tryz.func253 rfl _ zr zr (ao.fin [0,1] 0 zr zr)
def sJ(A X:HP)(v:Value)(l:List Rt)(hv:Vw A v l.length (rV l))(hlen:l.length≤1000000000)(g:FuncId)(cap:List Value)(p:Rt→Bool)(hf:∀x∈l,aq Tryz.prog g (.agg (rC x).toArray::cap) [X] (fun v H=>v = .bool (p x)∧H=[X])) :
  aq Tryz.prog 342 [v,.func (.func g) #[] cap.toArray] [A,X] (fun r H=>r = .bool (l.any p)∧H=[A,X]):=by
 refine aq.aj Tryz.func342 Tryz.ntmps342 fun G F R hE=>?_
 refine go ?_
 refine aw (qx A X v l hv hlen g cap p hf) ?_
 refine go ?_
 refine aV 4 ((.bool (l.any p))) rfl ((congrArg Value.bool (sP p l))) ?_
 refine ad hE Tryz.func342 zr zr ⟨rfl,rfl⟩
end Go.Proofs.YtnkfkabokmcgoaaGreatDoor
namespace Go.Proofs.YtnkfkabokmcgoaaGreatDoor
open Go Go.SL
def Ai(l:List Int):List (Int × Value):=l.foldl (fun es k=>iy es k (.bool true)) []
def sL(l:List Int)(x:Int):Ai (l++[x])=iy (Ai l) x (.bool true):=by simp[Ai]
def ya(es:List (Int × Value))(k:Int)(v:Value):(iy es k v).map (·.1)=if k∈es.map (·.1)then es.map (·.1)else es.map (·.1)++[k]:=by
 unfold iy
 split
 ·rw[List.map_map]
  apply List.map_congr_left
  intro x hx
  simp only[Function.comp]
  split
  ·rename_i h;rw[h]
  ·rfl
 ·simp
def yE{p:List Int→Prop}(h0:p [])(h1:∀l x,p l→p (l++[x]))(l:List Int):p l:=by
 have:∀m:List Int,p m.reverse:=by
  intro m
  induction m with
  | nil=>exact h0
  | cons x m ih=>rw[List.reverse_cons];exact h1 _ _ ih
 have h2:=this l.reverse
 rwa[List.reverse_reverse]at h2
def Mc(l:List Int)(k:Int):k∈(Ai l).map (·.1)↔k∈l:=by
 induction l using yE with
 | h0=>simp[Ai]
 | h1 l x ih =>
  rw[sL,ya]
  split
  ·rename_i h
   rw[ih,List.mem_append,List.mem_singleton]
   constructor
   ·exact .inl
   ·rintro(h2|rfl)
    ·exact h2
    ·exact(by have:=h;revert this;induction l using yE with|h0=>simp[Ai]|h1=>exact fun h=>ih.1 h)
  ·rw[List.mem_append,List.mem_append,ih]
def Md(l:List Int):(Ai l).length≤l.length∧((Ai l).length=l.length↔l.Nodup):=by
 induction l using yE with
 | h0=>simp[Ai]
 | h1 l x ih =>
  have hm:=Mc l x
  have hl:(Ai (l++[x])).length=if x∈l then(Ai l).length else(Ai l).length+1:=by
   have h:=congrArg List.length (ya (Ai l) x (.bool true))
   rw[List.length_map]at h
   rw[sL,h]
   by_cases hx:x∈l
   ·rw[if_pos (hm.2 hx),if_pos hx,List.length_map]
   ·rw[if_neg (fun h=>hx (hm.1 h)),if_neg hx,List.length_append,List.length_map];rfl
  rw[hl,List.length_append,List.length_singleton,List.nodup_append]
  by_cases hx:x∈l
  ·rw[if_pos hx]
   refine⟨ai,⟨fun h=>by omega,fun h=>?_⟩⟩
   exact absurd rfl (h.2.2 x hx x (by simp))
  ·rw[if_neg hx]
   refine⟨ai,⟨fun h=>⟨ih.2.1 ai,by simp,?_⟩,fun h=>by have:=ih.2.2 h.1;omega⟩⟩
   rintro a ha b hb rfl
   simp at hb
   subst hb
   exact hx ha
def fE(l:List Rt):Int:=if 64<l.length∨l.any Mu=true then 1 else if(l.map Rt.id).Nodup then 0 else 5
attribute [local irreducible] J K aq Ends ag aI aC bF aW aP a6 aZ bN
def xW(v:Value)(l:List Int)(hl:l.length≤1000000000):aq Tryz.prog 151 [v] [aI 3 1 v l.length (iV l)] (fun r H=>r = .tuple #[]∧H=[aI 3 1 v l.length (iV (gy l))]):=ru v l hl
def E9(A:HP)(v:Value)(l:List Rt)(hv:Vw A v l.length (rV l))(hl:l.length≤1000000) :
  aq Tryz.prog 259 [v] [A] (fun r H=>H=[aI 3 1 r l.length (iV (gy (l.map Rt.id))),A]):=by
 obtain⟨a,c0,rfl⟩:=hv.shape
 refine aq.aj Tryz.func259 Tryz.ntmps259 fun G F R hE=>?_
 refine go ?_
 refine ak (bj 3 1 none _) ?_
 refine bn (fun y:Value × Nat=>y.2≤l.length) (fun y=>l.length-y.2) (fun y=>[(3,y.1),(6,.slice a l.length c0),(7,.int .i64 l.length),(8,.int .i64 (y.2:Int))]) (fun y=>aI 3 1 y.1 y.2 (iV ((l.take y.2).map Rt.id))::A::F) (.slice none 0 0,0) (Nat.zero_le _) rfl bQ ah ?_
 rintro⟨w,i⟩ hi ih
 simp only at hi
 refine cL 0 rfl ?_
 intro wa wc hw
 simp only at hw
 subst hw
 simp only
 refine go ?_
 refine au zr zr ?_ ?_
 ·intro cq
  have dq:i<l.length:=by omega
  obtain⟨x,hx⟩:∃x,l[i]?=some x:=⟨l[i],by simp[dq]⟩
  obtain⟨b,o,c',he⟩:=hv.some (by intro e;have:=congrArg List.length e;rw[yH]at this;simp at this;omega)
  simp only[Value.slice.injEq,true_and]at he
  obtain⟨rfl,rfl⟩:=he
  refine go ?_
  refine bX i 3 zr zr zr zr zr zr zr zr dq ?_
  refine bW (U:=aU) (es:=rC x) 1 (i*3) zr zr zr hv rfl (fun q v hq=>?_) zr zr zr ?_
  ·have vJ:q<3:=by
    rcases Nat.lt_or_ge q 3 with h|h
    ·exact h
    ·rw[List.getElem?_eq_none (by rw[fL];exact h)]at hq;cases hq
   rw[np,ck fL hx q vJ];exact hq
  refine az zr zr zr bh ?_
  intro bx
  refine go ?_
  refine al (cs:=iV [x.id]) zr zr zr zr zr zr zr zr zr bh ?_
  intro b1
  refine go ?_
  refine aO (mm:=1) (news:=iV [x.id]) 2 0 zr zr zr zr zr zr zr zr zr zr zr zr (Vw.ag rfl) rfl (qU _) ai (by show(_+1)*8≤_;omega) (fun _=>rfl) bh ?_
  intro v1
  rw[show iV ((l.take i).map Rt.id)++iV [x.id]=iV ((l.take (i+1)).map Rt.id)from by rw[List.take_add_one,hx];simp[iV]]
  refine aL 2 rfl ?_
  rintro Ih Ig rfl
  refine go ?_
  refine aK ih (.slice Ih (i+1) Ig,i+1) rfl (by simp only;omega) (by simp only;omega) bQ ah
 intro ek
 have ko:i=l.length:=by omega
 subst ko
 rw[List.take_length]
 have Ke:=xW (.slice wa l.length wc) (l.map Rt.id) (by rw[List.length_map];omega)
 rw[List.length_map]at Ke
 refine go ?_
 refine aw Ke ?_
 refine go ?_
 refine aG hE Tryz.func259 rfl _ zr zr ah
def D3(A:HP)(v:Value)(l:List Rt)(hv:Vw A v l.length (rV l))(hl:l.length≤9223372036854775807) :
  aq Tryz.prog 251 [v] [A] (fun r H=>r = .int .i64 (fE l)∧H=[A]):=by
 obtain⟨a,c0,rfl⟩:=hv.shape
 have Zj:iz Tryz.prog 3 (Value.int .i64):=pg Tryz.underlying3
 refine aq.aj Tryz.func251 Tryz.ntmps251 fun G F R hE=>?_
 refine go ?_
 refine dw zr zr zr zr ?_ ?_
 ·intro q5
  refine go ?_
  have:fE l=1:=by unfold fE;rw[if_pos (.inl ai)]
  ((refine ad hE Tryz.func251 zr zr ⟨by rw[this];rfl,rfl⟩))
 intro pj
 refine go ?_
 refine aS (ao.jw _) ?_
 refine aw (sJ A emp (.slice a l.length c0) l hv ai 341 [] Mu (fun x _=>aq.DS emp (CU x))) ?_
 refine go ?_
 refine dj zr zr ?_ ?_
 ·intro mO
  refine go ?_
  have:fE l=1:=by unfold fE;rw[if_pos (.inr mO)]
  ((refine ad hE Tryz.func251 zr zr ⟨by rw[this];rfl,rfl⟩))
 intro mO
 have Y5:fE l=if(l.map Rt.id).Nodup then 0 else 5:=by unfold fE;rw[if_neg (by rintro(h|h);omega;rw[mO]at h;cases h)]
 rw[Y5]at hE
 refine go ?_
 refine dN rfl bh ?_
 intro bm
 refine aS (ao.fold (B:=[_]) (A:=aC (Value.int .i64) bm []) (fun h hs=>⟨h,sub.refl h,fO (Value.int .i64) bm h (cW hs)⟩)) ?_
 refine go ?_
 refine bn (fun i:Nat=>i≤l.length) (fun i=>l.length-i) (fun i=>[(0,.slice a l.length c0),(4,.map (some bm)),(16,.slice a l.length c0),(17,.int .i64 l.length),(18,.int .i64 (i:Int))]) (fun i=>aC (Value.int .i64) bm (Ai ((l.take i).map Rt.id))::A::F) 0 (Nat.zero_le _) rfl bQ ah ?_
 rintro i hi ih
 refine go ?_
 refine au zr zr ?_ ?_
 ·intro cq
  have dq:i<l.length:=by omega
  obtain⟨x,hx⟩:∃x,l[i]?=some x:=⟨l[i],by simp[dq]⟩
  obtain⟨b,o,c',he⟩:=hv.some (by intro e;have:=congrArg List.length e;rw[yH]at this;simp at this;omega)
  simp only[Value.slice.injEq,true_and]at he
  obtain⟨rfl,rfl⟩:=he
  refine go ?_
  refine bX i 3 zr zr zr zr zr zr zr zr dq ?_
  refine bW (U:=aU) (es:=rC x) 1 (i*3) zr zr zr hv rfl (fun q v hq=>?_) zr zr zr ?_
  ·have vJ:q<3:=by
    rcases Nat.lt_or_ge q 3 with h|h
    ·exact h
    ·rw[List.getElem?_eq_none (by rw[fL];exact h)]at hq;cases hq
   rw[np,ck fL hx q vJ];exact hq
  refine az zr zr zr bh ?_
  intro bx
  refine go ?_
  refine cy (key:=x.id) 1 Zj eW zr zr zr zr zr zr zr zr ?_
  rw[← sL,show(l.take i).map Rt.id++[x.id]=(l.take (i+1)).map Rt.id from by rw[List.take_add_one,hx];simp]
  refine go ?_
  refine aK ih (i+1) rfl ai ai bQ ah
 intro ek
 have ko:i=l.length:=by omega
 subst ko
 rw[List.take_length]
 obtain⟨y5,qY⟩:=Md (l.map Rt.id)
 rw[List.length_map]at y5 qY
 refine go ?_
 refine Lw (U:=aU) 0 zr zr zr zr zr (go ?_)
 refine au zr zr ?_ ?_
 ·intro h
  have hn:¬(l.map Rt.id).Nodup:=fun hn=>by have:=qY.2 hn;omega
  rw[if_neg hn]at hE
  refine go ?_
  refine ad hE Tryz.func251 zr zr ⟨rfl,rfl⟩
 intro h
 have hn:(l.map Rt.id).Nodup:=qY.1 ai
 rw[if_pos hn]at hE
 refine go ?_
 refine ad hE Tryz.func251 zr zr ⟨rfl,rfl⟩
end Go.Proofs.YtnkfkabokmcgoaaGreatDoor
