import Derived.Test.YtjpboghdolfekaaGreatDoorQMQ1
import Derived.Test.YtjpboghdolfekaaGreatDoorQMQ2
import Derived.Test.YtjpboghdolfekaaGreatDoorQMQ3
import Derived.Test.YtjpboghdolfekaaGreatDoorQMQ6
import Derived.Test.YtjpboghdolfekaaGreatDoorQMQ7
import Derived.Test.YtjpboghdolfekaaGreatDoorQMQ8
import Derived.Test.YtjpboghdolfekaaGreatDoorQMQ10
import Derived.Test.YtjpboghdolfekaaGreatDoorQMQ11
import Derived.Shelf.SlSortCmp.NoneTotal
import Derived.Shelf.SortG.Plain
import Derived.Shelf.SortG.SortNone
import Derived.Test.YtjpboghdolfekaaGreatDoorChecked
set_option linter.unusedSectionVars false
set_option linter.unusedSimpArgs false
set_option linter.unusedVariables false
set_option maxHeartbeats 1000000
set_option maxRecDepth 20000
set_option linter.defProp false
namespace Go.Proofs.YtjpboghdolfekaaGreatDoor
open Go Go.SL
attribute [local irreducible] J K aw Ends ag aH au bE aW aJ a6 aZ bI bX II MI
def getM(ks:List Mem)(id:Int):Mem:=(mE ks id).getD ⟨0,0,0,0⟩
def rh{ks:List Mem}{id:Int}(h:id∈ks.map Mem.id):getM ks id∈ks∧(getM ks id).id=id:=by
 obtain⟨x,hx,rfl⟩:=List.mem_map.1 h
 unfold getM mE
 cases hf:ks.find? (fun y=>decide (y.id=x.id))with
 | none=>have:=List.find?_eq_none.1 hf x hx;simp at this
 | some y=>exact⟨List.mem_of_find?_eq_some hf,by simpa using List.find?_some hf⟩
def HQ(bv:Nat)(V:VM)(iJ:(V.ks.map Mem.id).Nodup)(hlen:V.ks.length≤1000000) :
  aw Tryz.prog 62 [ptr bv] [bX bv V] (fun r H=>∃L:List Mem,L.length=V.ks.length∧(∀x∈L,x∈V.ks)∧(L.map Mem.id).Nodup∧H=[aH 175 4 r L.length (mV L),bX bv V]):=by
 refine aw.ao Tryz.func62 Tryz.ntmps62 fun G F R hE=>?_
 refine cG (kz bv V) ?_
 rintro bm -
 refine go ?_
 refine az (yQ bm) ?_
 rintro _ _⟨bx,rfl,rfl⟩
 refine go ?_
 have lC:(kp V.ks).map (·.1)=V.ks.map Mem.id:=rk V.ks
 have rU:(kp V.ks).length=V.ks.length:=List.length_map _
 ((refine az (lJ 184 [ptr bx] (kp V.ks).length [ag bx (cl [.map (some bm)] 226),au (Value.int .i64) bm (kp V.ks)] [au (Value.int .i64) bm (kp V.ks)] (fun xs=>xs.Perm ((kp V.ks).map (·.1))) aj (vI bx bm (kp V.ks) (by rw[lC];exact iJ)) (fun xs h=>by rw[h.length_eq,List.length_map];omega)) ?_))
 rintro r _⟨xs,Bi,rfl⟩
 rw[lC]at Bi
 have hri:gY xs=gY (V.ks.map Mem.id):=GD Bi
 rw[hri,show xs.length=(gY (V.ks.map Mem.id)).length from by rw[fp,Bi.length_eq]]
 obtain⟨ids,nY⟩:∃ids,ids=gY (V.ks.map Mem.id):=⟨_,rfl⟩
 rw[← nY]
 have adx:ids.length=V.ks.length:=by rw[nY,fp,List.length_map]
 have adw:∀x∈ids,x∈V.ks.map Mem.id:=fun x hx=>(o8 _).mem_iff.1 (nY ▸ hx)
 refine aM 0 rfl ?_
 rintro ra rc rfl
 refine eL 0 rfl ?_
 intro Oc
 refine go ?_
 refine bj (fun y:Nat × List Mem × Option Addr × Nat=>y.1≤ids.length∧y.2.1=(ids.take y.1).map (getM V.ks)) (fun y=>ids.length-y.1)
  (fun y=>[(0,ptr bv),(3,.slice y.2.2.1 y.2.1.length y.2.2.2),(11,.slice ra ids.length rc),(12,.int .i64 (ids.length:Int)),(13,.int .i64 (y.1:Int))])
  (fun y=>aH 175 4 (.slice y.2.2.1 y.2.1.length y.2.2.2) y.2.1.length (mV y.2.1)::ag bv (cl (pD V.self++[.int .i64 V.cj,.map (some bm)]) 228)::au (Value.int .i64) bm (kp V.ks)::aH 3 1 (.slice ra ids.length rc) ids.length (iV ids)::F) (0,[],none,0) ⟨Nat.zero_le _,rfl⟩ rfl bO (ak.trans (bp 175 4 none _) ah) ?_
 rintro⟨i,acc,a1,c1⟩⟨hi,gP⟩ ih
 simp only at hi gP
 have hal:acc.length=i:=by rw[gP,List.length_map,List.length_take];omega
 refine go ?_
 refine aD zr zr ?_ ?_
 case' refine_2 =>
  intro eN
  simp only at eN
  rw[List.take_of_length_le aj]at gP
  have G9:(acc.map Mem.id).Nodup:=by
   rw[gP,List.map_map]
   have:ids.map (Mem.id ∘ getM V.ks)=ids:=by
    conv=>rhs;rw[← List.map_id ids]
    exact List.map_congr_left fun z hz=>(rh (adw z hz)).2
   rw[this,nY]
   exact(o8 _).nodup_iff.2 iJ
  refine go ?_
  refine ai (ak.trans (ak.pick [1,2] rfl) (iC bv bm V _)) ?_
  ((refine ad hE Tryz.func62 zr zr ⟨acc,by rw[gP,List.length_map,adx],fun x hx=>by rw[gP]at hx;obtain⟨z,hz,rfl⟩:=List.mem_map.1 hx;exact(rh (adw z hz)).1,G9,rfl⟩))
 intro cB
 simp only at cB
 have dP:i<ids.length:=by omega
 obtain⟨x,hx⟩:∃x,ids[i]?=some x:=⟨ids[i],by simp⟩
 obtain⟨b3,o3,c3,Cy⟩:=Oc.some (ine dP)
 simp only[Value.slice.injEq,true_and]at Cy
 obtain⟨rfl,rfl⟩:=Cy
 obtain⟨y,hy⟩:∃y,y=getM V.ks x:=⟨_,rfl⟩
 have ht:(ids.take (i+1)).map (getM V.ks)=acc++[y]:=by
  rw[List.take_add_one,hx,Option.toList_some,List.map_append,← gP,hy];rfl
 have CD:(cF (kp V.ks) x).getD (.agg #[.int .i64 0,.int .i64 0,.int .i64 0,.int .i64 0])=Qr y:=by
  rw[wy,hy]
  unfold getM
  all_goals(cases mE V.ks x <;> rfl)
 refine go ?_
 refine bD i zr zr zr zr zr zr zr zr dP ?_
 refine aP 3 i zr zr zr Oc rfl (jK hx) zr zr (go ?_)
 refine kX (es:=kp V.ks) (key:=x) 2 rfl lx zr zr zr zr zr zr zr zr ?_
 rw[CD]
 refine go ?_
 refine aq (cs:=pD y) zr zr zr zr zr zr zr zr zr bq ?_
 intro row
 refine go ?_
 refine aU (mm:=1) (news:=pD y) 1 0 rfl rfl rfl rfl rfl rfl rfl rfl rfl rfl rfl rfl (Vw.ag rfl) rfl (by intro v hv;simp[pD]at hv;rcases hv with rfl|rfl|rfl|rfl <;> rfl) (by simp only;omega) (by show(_+_)*32≤_;simp only;omega) (fun _=>rfl) bq ?_
 intro v1
 simp only
 rw[show mV acc++pD y=mV (acc++[y])from by simp[mV],show acc.length+1=(acc++[y]).length from by simp]
 refine aM 1 rfl ?_
 rintro ja jc rfl
 refine go ?_
 refine aK ih (i+1,acc++[y],ja,jc) rfl ⟨by simp only;omega,by simp only;rw[ht]⟩ (by simp only;omega) bO ah
end Go.Proofs.YtjpboghdolfekaaGreatDoor
namespace Go.Proofs.YtjpboghdolfekaaGreatDoor
open Go Go.SL
def Fy(ks:List Mem)(id:Int):List Mem:=ks.filter fun x => !decide (x.id=id)
def PT(ks:List Mem)(id:Int):rz (kp ks) id=kp (Fy ks id):=by
 unfold rz kp Fy
 rw[List.filter_map]
 rfl
attribute [local irreducible] J K aw Ends ag aH au bE aW aJ a6 aZ bI bX II MI
end Go.Proofs.YtjpboghdolfekaaGreatDoor
namespace Go.Proofs.YtjpboghdolfekaaGreatDoor
open Go Go.SL
structure AM(V:VM):Prop where
 nd:(V.ks.map Mem.id).Nodup
 len:(V.ks.length:Int)≤V.cj
 cj:1≤V.cj∧V.cj≤64
 inc : -1000000000000≤V.self.inc∧V.self.inc≤1000000000000
 sn:∀x∈V.ks,0≤x.since∧x.since≤1099511627776
def AM.small{V:VM}(h:AM V):V.ks.length≤64:=by have:=h.len;have:=h.cj;omega
def OB{ks:List Mem}{m x:Mem}(h:x∈pC ks m):x=m∨x∈ks:=by
 unfold pC at h
 split at h
 ·obtain⟨y,hy,rfl⟩:=List.mem_map.1 h
  split
  ·exact .inl rfl
  ·exact .inr hy
 ·rcases List.mem_append.1 h with h|h
  ·exact .inr h
  ·exact .inl (List.mem_singleton.1 h)
attribute [local irreducible] J K aw Ends ag aH au bE aW aJ a6 aZ bI bX II MI
def Jp{ks:List Mem}{id:Int}:(cF (kp ks) id).getD (.agg #[.int .i64 0,.int .i64 0,.int .i64 0,.int .i64 0]) = .agg (pD (getM ks id)).toArray:=by
 rw[wy]
 unfold getM
 cases mE ks id <;> rfl
def IF(bv:Nat)(V:VM)(id st now:Int)(QP:id∈V.ks.map Mem.id) :
  aw Tryz.prog 142 [ptr bv,.int .i64 id,.int .i64 st,.int .i64 now] [bX bv V] (fun r H=>r = .tuple #[]∧H=[bX bv { V with ks:=pC V.ks { getM V.ks id with st:=st,since:=now } }]):=by
 have hy:=(rh QP).2
 refine aw.ao Tryz.func142 Tryz.ntmps142 fun G F R hE=>?_
 refine cG (kz bv V) ?_
 rintro bm -
 refine go ?_
 refine kX (es:=kp V.ks) (key:=id) 1 rfl lx zr zr zr zr zr zr zr zr ?_
 rw[Jp]
 obtain⟨y,Z6⟩:∃y,y=getM V.ks id:=⟨_,rfl⟩
 rw[← Z6]at hE hy ⊢
 refine go ?_
 refine aB zr zr zr bq ?_
 intro b8
 refine go ?_
 refine aO (fun w=>Sat G w ([ag bv (cl (pD V.self++[.int .i64 V.cj,.map (some bm)]) 228),ag b8 (cl (pD { y with st:=st,since:=now }) 175)])) (cM 0 6 (.act 6 .nil)) rfl ae ae ae dv ?_
 refine go ?_
 refine aS ?_
 refine cE (U:=aY) 1 zr zr zr zr zr zr (go ?_)
 refine du (es:=kp V.ks) (key:=id) (v:=Qr { y with st:=st,since:=now }) 2 lx fE rfl rfl rfl rfl rfl rfl rfl rfl ?_
 rw[show gT (kp V.ks) id (Qr { y with st:=st,since:=now })=kp (pC V.ks { y with st:=st,since:=now })from by rw[← PR];simp only;rw[hy]]
 refine go ?_
 refine ai (ak.trans ah (iC bv bm { V with ks:=pC V.ks { y with st:=st,since:=now } } _)) ?_
 refine bB hE Tryz.func142 rfl _ rfl ⟨rfl,rfl⟩ ah
def EC(x:Mem):aw Tryz.prog 153 [.agg (pD x).toArray] [] (fun r H=>∃b:Bool,r = .bool b∧H=[]):=by
 refine aw.ao Tryz.func153 Tryz.ntmps153 fun G F R hE=>?_
 refine aN rfl ?_
 refine bC zr zr bq ?_
 intro bx
 refine go ?_
 refine ad hE Tryz.func153 zr zr ⟨_,rfl,rfl⟩
end Go.Proofs.YtjpboghdolfekaaGreatDoor
namespace Go.Proofs.YtjpboghdolfekaaGreatDoor
open Go Go.SL
def AM.turn{V:VM}(h:AM V){id st now:Int}(QP:id∈V.ks.map Mem.id)(hn:0≤now∧now≤1099511627776) :
  AM { V with ks:=pC V.ks { getM V.ks id with st:=st,since:=now } }∧(pC V.ks { getM V.ks id with st:=st,since:=now }).length=V.ks.length∧(pC V.ks { getM V.ks id with st:=st,since:=now }).map Mem.id=V.ks.map Mem.id:=by
 have hy:=(rh QP).2
 obtain⟨y,Z6⟩:∃y:Mem,y={ getM V.ks id with st:=st,since:=now }:=⟨_,rfl⟩
 have hyi:y.id=id:=by rw[Z6];exact hy
 have hys:y.since=now:=by rw[Z6]
 rw[← Z6]
 have hs:pC V.ks y=V.ks.map fun x=>if x.id=y.id then y else x:=by
  unfold pC
  rw[if_pos (by rw[hyi];exact QP)]
 have nY:(pC V.ks y).map Mem.id=V.ks.map Mem.id:=by
  rw[hs,List.map_map]
  refine List.map_congr_left fun x _=>?_
  simp only[Function.comp]
  split
  ·rename_i h;exact h.symm
  ·rfl
 have hlen:(pC V.ks y).length=V.ks.length:=by rw[hs,List.length_map]
 refine⟨⟨by rw[nY];exact h.nd,by simp only;rw[hlen];exact h.len,h.cj,h.inc,fun x hx=>?_⟩,hlen,nY⟩
 rcases OB hx with rfl|hx
 ·rw[hys];exact hn
 ·exact h.sn x hx
def AM.del{V:VM}(h:AM V)(id:Int):AM { V with ks:=Fy V.ks id }∧(Fy V.ks id).length≤V.ks.length:=by
 have hl:=List.length_filter_le (fun x:Mem => !decide (x.id=id)) V.ks
 have hlen:=h.len
 exact⟨⟨h.nd.sublist (List.Sublist.map _ List.filter_sublist),by simp only;unfold Fy;omega,h.cj,h.inc,fun x hx=>h.sn x (List.mem_filter.1 hx).1⟩,hl⟩
attribute [local irreducible] J K aw Ends ag aH au bE aW aJ a6 aZ bI bX II MI
def J2(bv:Nat)(V:VM)(hV:AM V)(now pat:Int) :
    aw Tryz.prog 84 [ptr bv,.int .i64 now,.int .i64 pat] [bX bv V] (fun r H=>∃(rv:Value) (e:Int) (V':VM),r = .tuple #[rv,.int .i64 e]∧H=[bX bv V']∧AM V'∧V'.cj=V.cj∧V'.ks.length≤V.ks.length):=by
  have nu:=hV.small
  refine aw.ao Tryz.func84 Tryz.ntmps84 fun G F R hE=>?_
  refine go ?_
  refine aF (lu now 0 1099511627776) ?_
  cases h1:pE now 0 1099511627776 with
  | false =>
    refine go ?_
    refine ad hE Tryz.func84 zr zr ⟨_,_,V,rfl,rfl,hV,rfl,Nat.le_refl _⟩
  | true =>
  refine go ?_
  refine aF (lu pat 1 1048576) ?_
  cases h2:pE pat 1 1048576 with
  | false =>
    refine go ?_
    refine ad hE Tryz.func84 zr zr ⟨_,_,V,rfl,rfl,hV,rfl,Nat.le_refl _⟩
  | true =>
  obtain⟨n1,n2⟩:=GV.1 h1
  obtain⟨p1,p2⟩:=GV.1 h2
  refine go ?_
  refine az (HQ bv V hV.nd aj) ?_
  rintro r _⟨L,hLl,hLm,hLn,rfl⟩
  refine aM 0 rfl ?_
  rintro la lc rfl
  refine eL 0 rfl ?_
  intro hvL
  refine go ?_
  refine bj (fun y:Nat × VM × List Int × Option Addr × Nat=>y.1≤L.length∧AM y.2.1∧y.2.1.cj=V.cj∧y.2.1.ks.length≤V.ks.length∧(∀x∈L.drop y.1,x.id∈y.2.1.ks.map Mem.id)∧y.2.2.1.length≤y.1) (fun y=>L.length-y.1)
    (fun y=>[(0,ptr bv),(0+1,.int .i64 now),(0+1+1,.int .i64 pat),(8,.slice y.2.2.2.1 y.2.2.1.length y.2.2.2.2),(21,.slice la L.length lc),(22,.int .i64 (L.length:Int)),(23,.int .i64 (y.1:Int))])
    (fun y=>aH 3 1 (.slice y.2.2.2.1 y.2.2.1.length y.2.2.2.2) y.2.2.1.length (iV y.2.2.1)::bX bv y.2.1::aH 175 4 (.slice la L.length lc) L.length (mV L)::F) (0,V,[],none,0) ⟨Nat.zero_le _,hV,rfl,Nat.le_refl _,fun x hx=>List.mem_map.2 ⟨x,hLm x hx,rfl⟩,Nat.le_refl _⟩ rfl bO (ak.trans (bp 3 1 none _) ah) ?_
  rintro⟨i,W,acc,aa,ac⟩⟨hi,hW,hWm,Fm,nY,gP⟩ ih
  simp only at hi hW hWm Fm nY gP
  refine go ?_
  refine aD zr zr ?_ ?_
  case' refine_2 =>
    intro _
    refine go ?_
    refine ad hE Tryz.func84 zr zr ⟨_,_,W,rfl,rfl,hW,hWm,Fm⟩
  intro cB
  have dP:i<L.length:=by simp only at cB;omega
  obtain⟨x,hx⟩:∃x,L[i]?=some x:=⟨L[i],by simp⟩
  have Kr:∀(j:Nat) (v:Value),(pD x)[j]?=some v→(mV L)[i*4+j]?=some v:=fun j v hj=>by
    have h4:j<4:=by rcases Nat.lt_or_ge j 4 with h|h;exact h;rw[List.getElem?_eq_none (by rw[uC];exact h)]at hj;cases hj
    exact(cd uC hx j h4).trans hj
  obtain⟨bb,oo,cc,eR⟩:=hvL.some (by rw[← List.length_pos_iff,Z1];omega)
  simp only[Value.slice.injEq,true_and]at eR
  obtain⟨rfl,rfl⟩:=eR
  obtain⟨sn1,sn2⟩:=hV.sn x (hLm x (List.mem_of_getElem? hx))
  have jT:L.drop i=x::L.drop (i+1):=by
    rw[List.drop_eq_getElem_cons dP]
    congr 1
    rw[List.getElem?_eq_getElem dP]at hx
    exact Option.some.inj hx
  have acT:x.id∈W.ks.map Mem.id:=nY x (by rw[jT];exact List.mem_cons_self ..)
  have vV:∀z∈L.drop (i+1),z.id∈W.ks.map Mem.id∧z.id≠x.id:=fun z hz=>by
    refine⟨nY z (by rw[jT];exact List.mem_cons_of_mem _ hz),fun he=>?_⟩
    have h:=hLn.sublist (List.Sublist.map Mem.id (List.drop_sublist i L))
    rw[jT,List.map_cons,List.nodup_cons]at h
    exact h.1 (by rw[← he];exact List.mem_map.2 ⟨z,hz,rfl⟩)
  refine go ?_
  refine bM i 4 zr zr zr zr zr zr zr zr dP ?_
  refine bZ (U:=aY) (es:=pD x) 2 (i*4) zr zr zr hvL rfl Kr zr zr zr (go ?_)
  refine aB zr zr zr bq ?_
  intro b10
  refine go ?_
  refine ew zr zr zr zr ?_ ?_
  · intro hd3
    refine go ?_
    refine iG zr zr zr (by simp only[fZ];omega) ?_
    refine go ?_
    refine aD zr zr ?_ ?_
    · intro adM
      refine ai (ak.pick [2] rfl) ?_
      refine cG (kz bv W) ?_
      rintro bm -
      refine aO (fun w=>Sat G w ([ag bv (cl (pD W.self++[.int .i64 W.cj,.map (some bm)]) 228),ag b10 (cl (pD x) 175)])) (cM 0 6 (.act 6 .nil)) rfl ae ae ae dv ?_
      refine go ?_
      refine rM (U:=aY) (es:=kp W.ks) (key:=x.id) 1 lx fE zr zr zr zr zr zr zr ?_
      rw[PT]
      refine go ?_
      obtain⟨d1,d2⟩:=hW.del x.id
      refine ai (ak.trans ah (iC bv bm { W with ks:=Fy W.ks x.id } _)) ?_
      refine aK ih (i+1,{ W with ks:=Fy W.ks x.id },acc,aa,ac) rfl ⟨by simp only;omega,d1,hWm,by simp only;omega,fun z hz=>by
        obtain⟨g1,g2⟩:=vV z hz
        obtain⟨w,hw,he⟩:=List.mem_map.1 g1
        exact List.mem_map.2 ⟨w,List.mem_filter.2 ⟨hw,by simpa[he]using g2⟩,he⟩,by simp only;omega⟩ (by simp only;omega) bO ah
    · intro adM
      refine go ?_
      refine ew zr zr zr zr ?_ ?_
      · intro h2';exfalso;omega
      · intro _
        refine go ?_
        refine aK ih (i+1,W,acc,aa,ac) rfl ⟨by simp only;omega,hW,hWm,Fm,fun z hz=>(vV z hz).1,by simp only;omega⟩ (by simp only;omega) bO ah
  · intro hd3
    refine go ?_
    refine ew zr zr zr zr ?_ ?_
    · intro h2'
      refine go ?_
      refine aD zr zr ?_ ?_
      · intro adM
        obtain⟨t1,t2,t3⟩:=hW.turn (st:=3) acT ⟨n1,n2⟩
        refine go ?_
        have htn:=IF bv W x.id 3 now acT
        refine aF htn ?_
        refine go ?_
        refine aq (cs:=iV [x.id]) zr zr zr zr zr zr zr zr zr bq ?_
        intro row
        refine go ?_
        refine aR (H':=ag row (cl (iV [x.id]) 3)::aH 3 1 (.slice aa acc.length ac) acc.length (iV acc)::bX bv { W with ks:=pC W.ks { getM W.ks x.id with st:=3,since:=now } }::aH 175 4 (.slice (some ⟨bb,oo,none⟩) L.length lc) L.length (mV L)::F) ah ?_
        refine aU (mm:=1) (news:=iV [x.id]) 1 0 zr zr zr zr zr zr zr zr zr zr zr zr (Vw.ag rfl) rfl (sC _) aj (by show(_+1)*8≤_;omega) (fun _=>rfl) bq ?_
        intro v1
        rw[show iV acc++iV [x.id]=iV (acc++[x.id])from by simp[iV],show acc.length+1=(acc++[x.id]).length from by simp]
        refine aM 1 rfl ?_
        rintro ja jc rfl
        refine go ?_
        refine aK ih (i+1,{ W with ks:=pC W.ks { getM W.ks x.id with st:=3,since:=now } },acc++[x.id],ja,jc) rfl ⟨by simp only;omega,t1,hWm,by have:=t2;simp only at this ⊢;omega,fun z hz=>by simp only;rw[t3];exact(vV z hz).1,by simp only[List.length_append,List.length_singleton];omega⟩ (by simp only;omega) bO ah
      · intro _
        refine go ?_
        refine aK ih (i+1,W,acc,aa,ac) rfl ⟨by simp only;omega,hW,hWm,Fm,fun z hz=>(vV z hz).1,by simp only;omega⟩ (by simp only;omega) bO ah
    · intro _
      refine go ?_
      refine aK ih (i+1,W,acc,aa,ac) rfl ⟨by simp only;omega,hW,hWm,Fm,fun z hz=>(vV z hz).1,by simp only;omega⟩ (by simp only;omega) bO ah
def LS(bv:Nat)(V:VM)(hV:AM V) :
  aw Tryz.prog 152 [ptr bv,.func (.func 153) #[] #[] ] [bX bv V] (fun r H=>∃l:List Int,l.length≤V.ks.length∧H=[aH 3 1 r l.length (iV l),bX bv V]):=by
 have nu:=hV.small
 have iJ:=hV.nd
 have hek:=rk V.ks
 refine aw.ao Tryz.func152 Tryz.ntmps152 fun G F R hE=>?_
 refine cG (kz bv V) ?_
 rintro bm -
 refine go ?_
 refine j0 (kv:=Value.int .i64) (es:=kp V.ks) (U:=aY) 1 zr zr zr zr zr (fun _=>rfl) bq ?_
 intro it
 refine go ?_
 refine bj (fun y:List Mem × List Int × Option Addr × Nat=>(y.1.map Mem.id).Nodup∧(∀x∈y.1,x∈V.ks)∧y.2.1.length≤y.1.length) (fun y=>V.ks.length-y.1.length)
  (fun y=>[(0,ptr bv),(0+1,.func (.func 153) #[] #[]),(5,.slice y.2.2.1 y.2.1.length y.2.2.2),(12,.pointer (some ⟨it,0,none⟩))])
  (fun y=>bE (Value.int .i64) bm it (kp V.ks) (y.1.map Mem.id)::aH 3 1 (.slice y.2.2.1 y.2.1.length y.2.2.2) y.2.1.length (iV y.2.1)::ag bv (cl (pD V.self++[.int .i64 V.cj,.map (some bm)]) 228)::F) ([],[],none,0) ⟨List.nodup_nil,by simp,Nat.le_refl _⟩ rfl bO (ak.trans (bp 3 1 none _) ah) ?_
 rintro⟨dn,acc,aa,ac⟩⟨nx,cH,gP⟩ ih
 simp only at nx cH gP
 have QV:dn.length≤V.ks.length:=by
  have:=nx.length_le_of_subset (l₂:=V.ks.map Mem.id) fun n hn=>by
   obtain⟨x,hx,rfl⟩:=List.mem_map.1 hn
   exact List.mem_map.2 ⟨x,cH x hx,rfl⟩
  simpa using this
 refine go ?_
 refine nI (kv:=Value.int .i64) (es:=kp V.ks) 0 rfl lx.inj zr zr (fun _=>rfl) fE bq ?_ ?_
 ·intro eY
  refine go ?_
  refine aR (ak.head (B:=[au (Value.int .i64) bm (kp V.ks)]) (fun h hs=>by obtain⟨h',s,hm⟩:=gM h hs;exact⟨h',s,di hm⟩)) ?_
  refine aF (sR _ acc aj) ?_
  refine go ?_
  refine ai (ak.trans (H2:=ag bv (cl (pD V.self++[.int .i64 V.cj,.map (some bm)]) 228)::au (Value.int .i64) bm (kp V.ks)::aH 3 1 (.slice aa acc.length ac) acc.length (iV (gY acc))::F) ah (iC bv bm V _)) ?_
  have E8:=fp acc
  refine ai (H':=aH 3 1 (.slice aa acc.length ac) (gY acc).length (iV (gY acc))::bX bv V::F) (by rw[E8];exact ah) ?_
  refine ad hE Tryz.func152 zr zr ⟨gY acc,aj,rfl⟩
 ·intro key v dU k8
  obtain⟨y,hy1,O6⟩:=List.mem_map.1 dU
  simp only[Prod.mk.injEq]at O6
  obtain⟨rfl,rfl⟩:=O6
  have aax:((y::dn).map Mem.id).Nodup:=List.nodup_cons.2 ⟨k8,nx⟩
  have Ml:∀x∈y::dn,x∈V.ks:=fun x hx=>by
   rcases List.mem_cons.1 hx with rfl|h
   ·exact hy1
   ·exact cH x h
  have cB:dn.length<V.ks.length:=by
   have h1:=aax.length_le_of_subset (l₂:=V.ks.map Mem.id) fun n hn=>by
    obtain⟨x,hx,rfl⟩:=List.mem_map.1 hn
    exact List.mem_map.2 ⟨x,Ml x hx,rfl⟩
   simp only[List.length_map,List.length_cons]at h1
   omega
  refine go ?_
  refine lN (kv:=Value.int .i64) (es:=kp V.ks) 0 rfl lx.inj zr zr dU ?_
  unfold Qr
  refine go ?_
  refine aB zr zr zr bq ?_
  intro b7
  refine go ?_
  refine cC 0 zr zr zr zr zr zr (go ?_)
  refine az (EC y) ?_
  rintro _ _⟨b,rfl,rfl⟩
  cases b with
  | false =>
   refine go ?_
   refine aK ih (y::dn,acc,aa,ac) rfl ⟨aax,Ml,by simp only[List.length_cons];omega⟩ (by show _-(y::dn).length<_;simp only[List.length_cons];omega) bO ah
  | true =>
   refine go ?_
   refine aq (cs:=iV [y.id]) zr zr zr zr zr zr zr zr zr bq ?_
   intro row
   refine go ?_
   refine aR (H':=ag row (cl (iV [y.id]) 3)::aH 3 1 (.slice aa acc.length ac) acc.length (iV acc)::bE (Value.int .i64) bm it (kp V.ks) (y.id::dn.map Mem.id)::ag bv (cl (pD V.self++[.int .i64 V.cj,.map (some bm)]) 228)::F) ah ?_
   refine aU (mm:=1) (news:=iV [y.id]) 1 0 zr zr zr zr zr zr zr zr zr zr zr zr (Vw.ag rfl) rfl (sC _) aj (by show(_+1)*8≤_;omega) (fun _=>rfl) bq ?_
   intro v1
   rw[show iV acc++iV [y.id]=iV (acc++[y.id])from by simp[iV],show acc.length+1=(acc++[y.id]).length from by simp]
   refine aM 1 rfl ?_
   rintro ja jc rfl
   refine go ?_
   refine aK ih (y::dn,acc++[y.id],ja,jc) rfl ⟨aax,Ml,by simp only[List.length_cons,List.length_append,List.length_nil];omega⟩ (by show _-(y::dn).length<_;simp only[List.length_cons];omega) bO ah
def JS(bv:Nat)(V:VM)(hV:AM V)(seed:Int) :
  aw Tryz.prog 88 [ptr bv,.int .u64 seed] [bX bv V] (fun r H=>∃(id:Int) (b:Bool),r = .tuple #[.int .i64 id,.bool b]∧H=[bX bv V]∧(V.ks=[]→b=false)):=by
 have nu:=hV.small
 refine aw.ao Tryz.func88 Tryz.ntmps88 fun G F R hE=>?_
 refine go ?_
 refine az (LS bv V hV) ?_
 rintro r _⟨l,hl,rfl⟩
 refine aM 0 rfl ?_
 rintro la lc rfl
 refine eL 0 rfl ?_
 intro Od
 refine go ?_
 refine aD zr zr ?_ ?_
 ·intro h0
  refine go ?_
  refine ad hE Tryz.func88 zr zr ⟨_,false,rfl,rfl,fun _=>rfl⟩
 intro h0
 have I2:0<l.length:=by omega
 have oJ:=sO (x:=(oE (gy seed)).toNat) (n:=l.length) (by have:=ni (gy seed);omega) I2
 have Jg:=fun b=>sY b seed l.length aj
 generalize hd:gS (oE (gy seed)).toNat l.length=d at oJ Jg
 obtain⟨x,hx⟩:∃x,l[d]?=some x:=⟨l[d],by simp[oJ]⟩
 obtain⟨bb,oo,cc,eR⟩:=Od.some (ine I2)
 simp only[Value.slice.injEq,true_and]at eR
 obtain⟨rfl,rfl⟩:=eR
 refine go ?_
 refine az (lG seed) ?_
 rintro _ _⟨bs,rfl,rfl⟩
 refine go ?_
 refine aF (Jg bs) ?_
 refine go ?_
 refine bD d zr zr zr zr zr zr zr zr oJ ?_
 refine aP 1 d zr zr zr Od rfl (jK hx) zr zr (go ?_)
 ((refine ad hE Tryz.func88 zr zr ⟨_,true,rfl,rfl,fun h=>by rw[h]at hl;simp only[List.length_nil]at hl;omega⟩))
end Go.Proofs.YtjpboghdolfekaaGreatDoor
namespace Go.SL
section
variable{P:Program}{f:FuncId}{n:Nat}{R:Ending→World→Prop}{G:cg}{k:List Item}{L:eC}{H:List HP}
def ik{k0:List Item}{c:Code}(hk:fU 1000 k0 = .mk (.code (.loop c)::k))(h:K P f n R G (.code c :: .inLoop c::k) L H):K P f n R G k0 L H :=
 eU 1000 hk (l3 (fun a cs w=>stepR_loop) h)
def kW{k0:List Item}{c:Code}(hk:fU 1000 k0 = .mk (.inLoop c::k))(h:K P f n R G (.code c :: .inLoop c::k) L H):K P f n R G k0 L H :=
 eU 1000 hk (l3 (fun a cs w=>stepR_inLoop) h)
end
end Go.SL
namespace Go.Proofs.YtjpboghdolfekaaGreatDoor
open Go Go.SL
attribute [local irreducible] J K aw Ends ag aH au bE aW aJ a6 aZ bI bX II mM
def F7(kb:Nat)(lim jG cj:Int):aw Tryz.prog 141 [ptr kb] [mM kb lim jG cj] (fun r H=>H=[aH 3 1 r 0 [],mM kb lim jG cj]):=by
 refine aw.ao Tryz.func141 Tryz.ntmps141 fun G F R hE=>?_
 refine cG (M9 kb lim jG cj) ?_
 rintro km -
 refine go ?_
 refine az (IT km) ?_
 rintro _ _⟨bx,rfl,rfl⟩
 refine go ?_
 ((refine az (lJ 370 [ptr bx] 0 [ag bx (cl [.map (some km)] 236),au (Value.int .i64) km [] ] [au (Value.int .i64) km [] ] (fun xs=>xs.Perm (([]:List (Int × Value)).map (·.1))) aj (E6 bx km [] List.nodup_nil) (fun xs h=>by rw[h.length_eq];simp)) ?_))
 rintro r _⟨xs,Bi,rfl⟩
 obtain rfl:xs=[]:=List.Perm.eq_nil Bi
 have e:gY []=[]:=by simp[gY]
 rw[e]
 refine go ?_
 refine ai (ak.trans (H2:=ag kb (cl [.int .i64 lim,.int .i64 jG,.int .i64 cj,.map (some km)] 238)::au (Value.int .i64) km []::aH 3 1 r 0 []::F) ah (zo kb km lim jG cj _)) ?_
 refine aL hE Tryz.func141 rfl _ zr zr ah
def DG(kb:Nat)(lim jG cj now:Int):aw Tryz.prog 83 [ptr kb,.int .i64 now] [mM kb lim jG cj] (fun r H=>∃(rv:Value) (e:Int),r = .tuple #[rv,.int .i64 e]∧H=[mM kb lim jG cj]):=by
 refine aw.ao Tryz.func83 Tryz.ntmps83 fun G F R hE=>?_
 refine go ?_
 refine aF (lh now 0 1099511627776) ?_
 cases h:pE now 0 1099511627776 with
 | false =>
  refine go ?_
  refine ad hE Tryz.func83 zr zr ⟨_,_,rfl,rfl⟩
 | true =>
  refine go ?_
  refine az (F7 kb lim jG cj) ?_
  rintro r _ rfl
  refine aM 0 rfl ?_
  rintro ra rc rfl
  refine go ?_
  refine ik rfl (go ?_)
  refine ad hE Tryz.func83 zr zr ⟨_,_,rfl,rfl⟩
end Go.Proofs.YtjpboghdolfekaaGreatDoor
namespace Go.Proofs.YtjpboghdolfekaaGreatDoor
open Go Go.SL
attribute [local irreducible] J K aw Ends ag aH au bE aW aJ a6 aZ bI Sha.chunks Sha.chunk Sha.rounds Sha.sched ff cI GI fA aG
def Gf(bs bd:Nat)(q:Int)(mb:Nat)(brk:Bool)(A:Ab):aw Tryz.prog 60 [ptr bs] [ag bs (cl (dR bd q mb brk) 209),aG bd A]
  (fun r H=>H=[aH 35 32 r (lz A).length ((lz A).flatMap dC),ag bs (cl (dR bd q mb brk) 209),aG bd A]):=by
 refine aw.ao Tryz.func60 Tryz.ntmps60 fun G F R hE=>?_
 refine rG (bd:=bd) (A:=A) 1 rfl ?_
 intro Fj
 have CB:=nh Fj
 obtain⟨l,hl⟩:∃l,l=eQ A:=⟨_,rfl⟩
 have jW:lz A=l.filterMap (gk kI):=by unfold lz;rw[hl]
 have nR:=oX bd A
 rw[← hl]at nR CB
 rw[jW]at hE
 refine go ?_
 refine az nR ?_
 rintro r _ rfl
 refine aM 0 rfl ?_
 rintro ra rc rfl
 refine eL 0 rfl ?_
 intro dt
 refine go ?_
 refine ai (bp 35 32 none _) ?_
 refine bj (fun y:Nat × List Dg × Option Addr × Nat=>y.1≤l.length∧y.2.1=(l.take y.1).filterMap (gk kI)) (fun y=>l.length-y.1)
  (fun y=>[(0,ptr bs),(3,.slice y.2.2.1 y.2.1.length y.2.2.2),(12,.slice ra l.length rc),(13,.int .i64 (l.length:Int)),(14,.int .i64 (y.1:Int))])
  (fun y=>aH 35 32 (.slice y.2.2.1 y.2.1.length y.2.2.2) y.2.1.length (y.2.1.flatMap dC)::aH 9 1 (.slice ra l.length rc) l.length (l.map Value.string)::ag bs (cl (dR bd q mb brk) 209)::aG bd A::F) (0,[],none,0) ⟨Nat.zero_le _,rfl⟩ rfl bO ah ?_
 rintro⟨i,acc,xa,xc⟩⟨hi,gP⟩ ih
 simp only at hi gP
 have hal:acc.length≤200:=by
  have h1:=List.length_filterMap_le (gk kI) (l.take i)
  rw[← gP,List.length_take]at h1
  omega
 dsimp only
 refine go ?_
 refine aD zr zr ?_ ?_
 ·intro cB
  have dP:i<l.length:=by omega
  obtain⟨nm,hx⟩:∃x,l[i]?=some x:=⟨l[i],by simp⟩
  have nQ:(l.take (i+1)).filterMap (gk kI)=acc++(match gk kI nm with|none=>[]|some d=>[d]):=by
   rw[List.take_add_one,hx,List.filterMap_append,gP]
   congr 1
   cases hh:gk kI nm <;> simp[hh]
  have dq:(l.map Value.string)[i]?=some (.string nm):=by rw[List.getElem?_map,hx];rfl
  obtain⟨b,o,fX,eR⟩:=dt.some (by intro h;rw[h]at dq;simp at dq)
  simp only[Value.slice.injEq]at eR
  obtain⟨rfl,_,rfl⟩:=eR
  refine go ?_
  refine bM i 1 zr zr zr zr zr zr zr zr dP ?_
  refine aS ?_
  refine aP 1 (i*1) zr zr zr dt rfl (by rw[Nat.mul_one];exact dq) zr zr ?_
  refine go ?_
  refine aF (v8 kI nm (by decide)) ?_
  cases hh:gk kI nm with
  | none =>
   rw[hh]at nQ
   simp only[List.append_nil]at nQ
   simp only[wb]
   unfold dV
   refine go ?_
   refine aB zr zr zr bq ?_
   intro b9
   refine go ?_
   refine aK ih (i+1,acc,xa,xc) rfl ⟨by simp only;omega,nQ.symm⟩ (by simp only;omega) bO ah
  | some d =>
   rw[hh]at nQ
   simp only at nQ
   simp only[wb]
   unfold dV
   refine go ?_
   refine aB zr zr zr bq ?_
   intro b9
   refine go ?_
   refine aV (U:=aY) (l:=dC d) 0 zr zr zr zr zr zr ?_
   refine aq (cs:=dC d) zr zr zr zr zr zr zr zr zr bq ?_
   intro row
   refine go ?_
   refine aU (mm:=1) (news:=dC d) 2 0 zr zr zr zr zr zr zr zr zr zr zr zr (Vw.ag rfl) rfl (by rw[eF];exact dL _) aj (by show(_+1)*32≤_;omega) (fun _=>rfl) bq ?_
   intro v1
   rw[show acc.flatMap dC++dC d=(acc++[d]).flatMap dC from by simp,show acc.length+1=(acc++[d]).length from by simp]
   refine aM 2 rfl ?_
   rintro Km Kl rfl
   refine go ?_
   refine aK ih (i+1,acc++[d],Km,Kl) rfl ⟨by simp only;omega,nQ.symm⟩ (by simp only;omega) bO ah
 ·intro eN
  have tK:i=l.length:=by omega
  rw[tK,List.take_length]at gP
  rw[← gP]at hE
  clear ih
  refine go ?_
  refine aL hE Tryz.func60 rfl _ zr zr ah
end Go.Proofs.YtjpboghdolfekaaGreatDoor
namespace Go.Proofs.YtjpboghdolfekaaGreatDoor
open Go Go.SL
def PY{ts:List Tk}(h:kq ts=[]):ts=[]:=by
 unfold kq at h
 exact List.map_eq_nil_iff.1 h
attribute [local irreducible] J K aw Ends ag aH au bE aW aJ a6 aZ bI Sha.chunks Sha.chunk Sha.rounds Sha.sched ff cI GI fA aG l8 cD
end Go.Proofs.YtjpboghdolfekaaGreatDoor
namespace Go.Proofs.YtjpboghdolfekaaGreatDoor
open Go Go.SL
structure afM(A:Ab):Prop where
 noF:∀d,qg A (eZ kB d)=false
 noI:∀d,iy A d=none
 im:lz A=[]
structure Nt(S:FW):Prop where
 q:1≤S.gi∧S.gi≤1073741824
 cN:1≤S.cN∧S.cN≤64
 cj:1≤S.cj∧S.cj≤256
 each:1≤S.each∧S.each≤S.cj
 pat:1≤S.pat∧S.pat≤1048576
 lim:1≤S.lim∧S.lim≤100
 jG:1≤S.jG∧S.jG≤1048576
 bJ:1≤S.bJ∧S.bJ≤16
def lX{n lo hi:Int}(h:lo≤n∧n≤hi):pE n lo hi=true:=by
 unfold pE
 rw[decide_eq_true h.1,decide_eq_true h.2]
 rfl
attribute [local irreducible] J K aw Ends ag aH au bE aW aJ a6 aZ bI aG l8
end Go.Proofs.YtjpboghdolfekaaGreatDoor
namespace Go.Proofs.YtjpboghdolfekaaGreatDoor
open Go Go.SL
def Bh(id:Int)(S:FW)(v1 v2 v3 v4 v5 pv:Value)(ms mg:Nat)(br:Bool):List Value := .int .i64 id::(xC S++[v1,v2,v3,v4,v5,pv,.map (some ms),.map (some mg),.bool br])
attribute [local irreducible] J K aw Ends ag aH au bE aW aJ a6 aZ bI aG l8 bX mM cD
section
variable(nb nB dB sB iB bd:Nat)(id:Int)(S:FW)(hS:Nt S)(v1 v2 v3 v4 v5 pv:Value)(ms mg:Nat)(br:Bool)
include hS
def EL:aw Tryz.prog 76 [ptr nb,.int .i64 1] [ag nb (cl (Bh id S v1 v2 v3 v4 v5 pv ms mg br) 131)]
  (fun r H=>∃b,r = .tuple #[ptr b,.int .i64 0]∧H=[ag nb (cl (Bh id S v1 v2 v3 v4 v5 pv ms mg br) 131)]):=by
 have hc:=C4 1 S.cN S.cj S.each S.pat aj hS.cN (lX hS.cj) (lX hS.each) (lX hS.pat)
 refine aw.ao Tryz.func76 Tryz.ntmps76 fun G F R hE=>?_
 refine go ?_
 refine aO (fun w=>Sat G w ([ag nb (cl (Bh id S v1 v2 v3 v4 v5 pv ms mg br) 131)])) (cM 0 21 (.act 21 (cM 22 4 .nil))) rfl ae ae ae dv ?_
 refine go ?_
 ((refine dM zr zr zr zr (hc) ah ?_ (fun _ _ w hp hw=>by obtain⟨_,rfl,rfl⟩:=hp;exact hw.cp ah)))
 rintro _ _⟨b,rfl,rfl⟩
 refine go ?_
 refine ad hE Tryz.func76 zr zr ⟨b,rfl,rfl⟩
def EN:aw Tryz.prog 75 [ptr nB] [ag nB (cl [ptr nb] 65),ag nb (cl (Bh id S v1 v2 v3 v4 v5 pv ms mg br) 131)]
  (fun r H=>r = .int .i64 0∧H=[ag nB (cl [ptr nb] 65),ag nb (cl (Bh id S v1 v2 v3 v4 v5 pv ms mg br) 131)]):=by
 have hc:=EL nb id S hS v1 v2 v3 v4 v5 pv ms mg br
 refine aw.ao Tryz.func75 Tryz.ntmps75 fun G F R hE=>?_
 refine go ?_
 refine az hc ?_
 rintro _ _⟨b,rfl,rfl⟩
 refine go ?_
 refine ad hE Tryz.func75 zr zr ⟨rfl,rfl⟩
def EP:aw Tryz.prog 71 [ptr sB,ptr nB] [ag nB (cl [ptr nb] 65),ag nb (cl (Bh id S v1 v2 v3 v4 v5 pv ms mg br) 131),ag sB (cl (xC S) 30)]
  (fun r H=>∃kb,r = .int .i64 0∧H=[ag nB (cl [ptr nb] 65),ag nb (cl (Bh id S v1 v2 v3 (ptr kb) v5 pv ms mg br) 131),ag sB (cl (xC S) 30),mM kb S.lim S.jG S.cN]):=by
 have hc:=Da S.lim S.jG S.cN (lX hS.lim) (lX hS.jG) (lX hS.cN)
 refine aw.ao Tryz.func71 Tryz.ntmps71 fun G F R hE=>?_
 refine go ?_
 refine aO (fun w=>Sat G w ([ag nB (cl [ptr nb] 65),ag sB (cl (xC S) 30)])) (cM 0 7 (.act 7 (cM 8 5 (.act 13 (.st 14 .nil))))) rfl ae ae ae dv ?_
 refine go ?_
 ((refine dM zr zr zr zr (hc) ah ?_ (fun _ _ w hp hw=>by obtain⟨_,rfl,rfl⟩:=hp;exact hw.cp ah)))
 rintro _ _⟨kb,rfl,rfl⟩
 refine go ?_
 (refine aX ?_;(refine bG 2 dv zr zr zr zr zr zr zr zr zr ?_))
 refine go ?_
 refine ad hE Tryz.func71 zr zr ⟨kb,rfl,rfl⟩
def ER(hi:1≤id∧id≤65536):aw Tryz.prog 69 [ptr iB,ptr sB,ptr nB] [ag nB (cl [ptr nb] 65),ag nb (cl (Bh id S v1 v2 v3 v4 v5 pv ms mg br) 131),ag sB (cl (xC S) 30),ag iB (cl [.int .i64 id] 3)]
  (fun r H=>∃bv,r = .int .i64 0∧H=[ag nB (cl [ptr nb] 65),ag nb (cl (Bh id S v1 v2 (ptr bv) v4 v5 pv ms mg br) 131),ag sB (cl (xC S) 30),ag iB (cl [.int .i64 id] 3),bX bv ⟨⟨id,0,1,0⟩,S.cN,[]⟩]):=by
 have hc:=L5 id S.cN (lX hi) (lX hS.cN)
 refine aw.ao Tryz.func69 Tryz.ntmps69 fun G F R hE=>?_
 refine go ?_
 refine aO (fun w=>Sat G w ([ag nB (cl [ptr nb] 65),ag sB (cl (xC S) 30),ag iB (cl [.int .i64 id] 3)])) (cM 0 4 (.act 4 (cM 5 5 (.act 10 (.st 11 .nil))))) rfl ae ae ae dv ?_
 refine go ?_
 ((refine dM zr zr zr zr (hc) ah ?_ (fun _ _ w hp hw=>by obtain⟨_,rfl,rfl⟩:=hp;exact hw.cp ah)))
 rintro _ _⟨bv,rfl,rfl⟩
 refine go ?_
 (refine aX ?_;(refine bG 2 dv zr zr zr zr zr zr zr zr zr ?_))
 refine go ?_
 refine ad hE Tryz.func69 zr zr ⟨bv,rfl,rfl⟩
end
end Go.Proofs.YtjpboghdolfekaaGreatDoor
namespace Go.Proofs.YtjpboghdolfekaaGreatDoor
open Go Go.SL
structure Rt where
 id:Int
 ju:Int
 w:Bool
deriving DecidableEq
instance:Inhabited Rt:=⟨⟨0,0,false⟩⟩
def rC(x:Rt):List Value:=[.int .i64 x.id,.int .i64 x.ju,.bool x.w]
def gu(x:Rt):(rC x).length=3:=rfl
def cfR(x y:Rt):Int:=LJ [pI y.ju x.ju,pI x.id y.id]
def OR(x:Rt):Bool:=decide (x.id<1) || decide (65536<x.id) || decide (x.ju<0) || decide (1099511627776<x.ju)
attribute [local irreducible] J K aw Ends ag aH au bE aW aJ a6 aZ bI
def DP(x:Rt):aw Tryz.prog 374 [.agg (rC x).toArray] [] (fun r H=>r = .bool (!x.w)∧H=[]):=by
 refine aw.ao Tryz.func374 Tryz.ntmps374 fun G F R hE=>?_
 refine aN rfl ?_
 refine bC zr zr bq ?_
 intro bx
 refine go ?_
 refine ad hE Tryz.func374 zr zr ⟨rfl,rfl⟩
def Ex(x:Rt):aw Tryz.prog 457 [.agg (rC x).toArray] [] (fun r H=>r = .bool (OR x)∧H=[]):=by
 refine aw.ao Tryz.func457 Tryz.ntmps457 fun G F R hE=>?_
 refine aN rfl ?_
 refine bC zr zr bq ?_
 intro bx
 repeat'(first|(with_reducible intro kQ)|refine eK ?_|refine ew zr zr zr zr ?_ ?_|fail)
 all_goals((refine ad hE Tryz.func457 zr zr ⟨congrArg Value.bool (by(rw[Bool.eq_iff_iff];simp[OR];omega)),rfl⟩))
def DO(x y:Rt):aw Tryz.prog 376 [.agg (rC x).toArray,.agg (rC y).toArray] [] (fun r H=>r = .int .i64 (cfR x y)∧H=[]):=by
 refine aw.ao Tryz.func376 Tryz.ntmps376 fun G F R hE=>?_
 refine aN rfl ?_
 refine bC zr zr bq ?_
 intro bx
 refine bC zr zr bq ?_
 intro ju
 refine go ?_
 refine aO (fun w=>Sat G w ([ag bx (cl (bg (Value.agg (rC x).toArray)) 278),ag ju (cl (bg (Value.agg (rC y).toArray)) 278)])) (cM 0 4 (cM 5 4 (.act 4 (.act 9 (.act 10 (.act 11 (.st 12 .nil))))))) rfl ae ae ae dv ?_
 refine go ?_
 refine bP (tV y.ju x.ju) ?_
 refine go ?_
 refine bP (tV x.id y.id) ?_
 refine go ?_
 refine aq (cs:=iV [pI y.ju x.ju,pI x.id y.id]) zr zr zr zr zr zr zr zr zr (fun _ w hw=>hw.cp ah) ?_
 intro b
 refine go ?_
 refine bP (aa0 _ _ [pI y.ju x.ju,pI x.id y.id] (Vw.ag rfl) (by simp)) ?_
 refine go ?_
 refine ad hE Tryz.func376 zr zr ⟨rfl,rfl⟩
def rV(l:List Rt):List Value:=l.flatMap rC
def oz(l:List Rt):rV l=l.flatMap rC:=rfl
def z6(l:List Rt):(rV l).length=l.length*3:=bt gu l
def ZO(l:List Rt):∀v∈rV l,v.oneCell'=true:=by
 intro v hv
 obtain⟨x,_,h⟩:=List.mem_flatMap.1 hv
 simp[rC]at h
 rcases h with rfl|rfl|rfl <;> rfl
def rO(A X:HP)(v:Value)(l:List Rt)(hv:Vw A v l.length (rV l))(hlen:l.length≤1000000000)(g:FuncId)(cap:List Value)(p:Rt→Bool)(hf:∀x∈l,aw Tryz.prog g (.agg (rC x).toArray::cap) [X] (fun v H=>v = .bool (p x)∧H=[X])) :
  aw Tryz.prog 459 [v,.func (.func g) #[] cap.toArray] [A,X] (fun r H=>r = .int .i64 (iR p l)∧H=[A,X]):=by
 obtain⟨a,c0,rfl⟩:=hv.shape
 refine aw.enter Tryz.func459 ae rfl Tryz.ntmps459 zr zr ?_
 intro G F R hR
 refine go ?_
 refine bj (fun i:Nat=>i≤l.length∧∀y∈l.take i,p y=false) (fun i=>l.length-i) (fun i=>[(0,.slice a l.length c0),(1,.func (.func g) #[] cap.toArray),(7,.int .i64 l.length),(8,.int .i64 i)]) (fun _=>[A,X]++F) 0 ⟨by simp,by simp⟩ rfl bO (ak.refl _) ?_
 rintro i⟨hi,hb⟩ ih
 refine go ?_
 refine aD zr zr ?_ ?_
 ·intro cB
  refine go ?_
  have dP:i<l.length:=by omega
  have hx:l[i]?=some l[i]:=by simp[dP]
  generalize hxx:l[i]=x at hx
  obtain⟨b,o,fX,eR⟩:=hv.some (by rw[← List.length_pos_iff,oz,bt gu];omega)
  simp only[Value.slice.injEq]at eR
  obtain⟨rfl,_,rfl⟩:=eR
  refine bM i 3 zr zr zr zr zr zr zr zr dP ?_
  refine bZ (U:=aY) (es:=rC x) 0 (i*3) zr zr zr hv rfl (fun j v hj=>?_) zr zr zr ?_
  ·have y3:j<3:=by
    rcases Nat.lt_or_ge j 3 with h|h
    ·exact h
    ·rw[List.getElem?_eq_none (by rw[gu];exact h)]at hj;cases hj
   rw[oz,cd gu hx j y3];exact hj
  refine bS [1] zr zr zr zr (hf x (List.mem_of_getElem? hx)) rfl iM ?_
  rintro _ _⟨rfl,rfl⟩
  refine go ?_
  refine ep zr zr ?_ ?_
  ·intro hp
   refine go ?_
   refine aL hR Tryz.func459 rfl _ rfl ⟨by rw[jq hx hp hb];rfl,rfl⟩ (ak.fin [1,0] 0 zr zr)
  ·intro hp
   refine go ?_
   refine aK ih (i+1) rfl ⟨aj,nE hb hx hp⟩ aj bO (ak.pick [1,0] rfl)
 ·intro eN
  refine go ?_
  have:i=l.length:=by omega
  subst this
  refine aL hR Tryz.func459 rfl _ rfl ⟨by rw[ki (fun x hx=>hb x (by simpa using hx))];rfl,rfl⟩ (ak.fin [0,1] 0 zr zr)
def yi(v:Value)(l:List Rt)(X:HP)(g:FuncId)(cap:List Value)(p:Rt→Bool)(hlen:l.length≤1000000000)(hf:∀x∈l,aw Tryz.prog g (.agg (rC x).toArray::cap) [X] (fun v H=>v = .bool (p x)∧H=[X])) :
  aw Tryz.prog 372 [v,.func (.func g) #[] cap.toArray] [aH 278 3 v l.length (rV l),X]
   (fun r H=>H=[aH 278 3 r (l.filter fun x => !p x).length (rV (l.filter fun x => !p x)),X]):=by
 refine aw.ao Tryz.func372 Tryz.ntmps372 fun G F R hE=>?_
 refine cU 0 rfl ?_
 rintro a0 c rfl
 refine go ?_
 refine eL 0 rfl ?_
 intro hv
 refine bS [0,1] zr zr zr zr (rO _ X _ l hv hlen g cap p hf) rfl iM ?_
 rintro _ _⟨rfl,rfl⟩
 refine go ?_
 refine aD zr zr ?_ ?_
 ·intro h0
  have nZ:l.any p=false:=kJ.1 aj
  have q5:(l.filter fun x => !p x)=l:=List.filter_eq_self.2 fun x hx=>by
   have:=List.any_eq_false.1 nZ x hx
   simpa using this
  rw[q5]at hE
  refine go ?_
  refine aL hE Tryz.func372 rfl _ zr zr (ak.fin [0,1] 0 zr zr)
 ·intro h0
  obtain⟨i0,x0,Jb,Z',G6,CQ⟩:=qd h0
  have adz:i0<l.length:=by
   rcases Nat.lt_or_ge i0 l.length with h|h
   ·exact h
   ·rw[List.getElem?_eq_none h]at Z';cases Z'
  rw[Jb]
  refine go ?_
  refine nG (fun a qu hn _=>by omega) ?_
  rintro b o c' pre junk vS gZ hnc fF jF
  simp only[Value.slice.injEq,true_and]at vS
  obtain⟨rfl,rfl⟩:=vS
  have h1:l.take (i0+1)=l.take i0++[x0]:=by rw[List.take_add_one,Z'];rfl
  have DX:(l.take i0).filter (fun x => !p x)=l.take i0:=List.filter_eq_self.2 fun x hx=>by simp[CQ x hx]
  refine bj (fun s:Nat × Nat × List Rt=>s.1<s.2.1∧s.2.1≤l.length∧s.2.2.length=l.length∧s.2.2.take s.1=(l.take s.2.1).filter (fun x => !p x)∧s.2.2.drop s.2.1=l.drop s.2.1) (fun s=>l.length-s.2.1)
   (fun s=>[(0,.slice (some ⟨b,o,none⟩) l.length c),(1,.func (.func g) #[] cap.toArray),(5,.int .i64 s.1),(6,.int .i64 s.2.1)])
   (fun s=>ag b (cl (pre++rV s.2.2++junk) 278)::X::F) (i0,i0+1,l) ⟨by simp,by simp only;omega,rfl,by simp only[h1,List.filter_append,DX];simp[G6],rfl⟩ rfl bO (ak.refl _) ?_
  rintro⟨i,j,E⟩⟨I',Ff,DY,tN,Hi⟩ ih
  simp only at I' Ff DY tN Hi
  have k4:(rV E).length=l.length*3:=by rw[oz,bt gu,DY]
  have hvE:Vw (ag b (cl (pre++rV E++junk) 278)) (.slice (some ⟨b,o,none⟩) l.length c) l.length (rV E):=Vw.ag (by rw[List.append_assoc,← gZ,List.drop_left,List.take_left])
  refine go ?_
  refine aD zr zr ?_ ?_
  ·intro cB
   simp only at cB
   have pG:j<l.length:=by omega
   obtain⟨x,hx⟩:∃x,l[j]?=some x:=⟨l[j],by simp[pG]⟩
   have hEx:E[j]?=some x:=by
    have:=congrArg (·[0]?) Hi
    simp only[List.getElem?_drop,Nat.add_zero]at this
    rw[this];exact hx
   have dU:=List.mem_of_getElem? hx
   have Ps:=hf _ dU
   refine go ?_
   refine bM j 3 zr zr zr zr zr zr zr zr pG ?_
   refine bZ (U:=aY) (es:=rC x) 0 (j*3) zr zr zr hvE rfl (fun q v hq=>?_) zr zr zr ?_
   ·have y3:q<3:=by
     rcases Nat.lt_or_ge q 3 with h|h
     ·exact h
     ·rw[List.getElem?_eq_none (by rw[gu];exact h)]at hq;cases hq
    rw[oz,cd gu hEx q y3];exact hq
   refine aB zr zr zr bq ?_
   intro bv
   refine go ?_
   refine cC 0 zr zr zr zr zr zr ?_
   refine bS [2] zr zr zr zr (Ps) rfl iM ?_
   rintro _ _⟨rfl,rfl⟩
   refine go ?_
   refine ep zr zr ?_ ?_
   ·intro hp
    have qv:p x=false:=by simpa using hp
    refine go ?_
    refine cC 1 zr zr zr zr zr zr (go ?_)
    refine bM i 3 zr zr zr zr zr zr zr zr aj ?_
    refine iz (U:=aY) (l':=pre++rV (E.set i x)++junk) 2 fE zr zr zr zr zr zr zr ?_ ?_ rfl ?_
    ·show o+i*3+3≤_
     rw[List.length_append,List.length_append,k4];omega
    ·show _=List.take (o+i*3) (pre++rV E++junk)++rC x++List.drop (o+i*3+(rC x).length) (pre++rV E++junk)
     rw[← gZ,kD _ _ _ _ _ (by rw[gu,k4];omega),oz,py gu aj]
     rfl
    refine go ?_
    refine aK ih (i+1,j+1,E.set i x) rfl ⟨by simp only;omega,by simp only;omega,by simp only[List.length_set];exact DY,?_,?_⟩ (by simp only;omega) bO (ak.to [2,0] 1 zr zr zr)
    ·simp only
     rw[List.take_add_one,List.take_set_of_le (Nat.le_refl i),tN,List.take_add_one (l:=l),hx,List.getElem?_set_self aj]
     simp[List.filter_append,qv]
    ·simp only
     rw[List.drop_set_of_lt aj,← List.drop_drop,Hi,List.drop_drop]
   ·intro hp
    have qv:p x=true:=by simpa using hp
    refine go ?_
    refine aK ih (i,j+1,E) rfl ⟨by simp only;omega,by simp only;omega,DY,by simp only;rw[tN,List.take_add_one,hx];simp[List.filter_append,qv],by simp only;rw[← List.drop_drop,Hi,List.drop_drop]⟩ (by simp only;omega) bO (ak.to [2,0] 1 zr zr zr)
  ·intro eN
   refine go ?_
   simp only at eN
   have hjn:j=l.length:=by omega
   subst hjn
   rw[List.take_length]at tN
   have qY:(l.filter fun x => !p x).length=i:=by rw[← tN,List.length_take];omega
   refine iF zr zr zr zr zr zr zr aj aj (.inl rfl) ?_
   intro o1 G8 QH
   simp only[Int.toNat_natCast]at G8 QH
   have CA:i≠c→o1=o+i*3:=G8
   have hL:(pre++rV E++junk).length=o+l.length*3+junk.length:=by rw[List.length_append,List.length_append,k4,gZ]
   obtain⟨kH,CG,adq⟩:∃kH,(pre++rV E++junk).take o1++(List.replicate (((l.length:Int).toNat-(i:Int).toNat)) [Value.int .i64 0,.int .i64 0,.bool false]).flatten++(pre++rV E++junk).drop (o1+((l.length:Int).toNat-(i:Int).toNat)*3)=pre++rV (E.take i)++kH∧c*3≤i*3+kH.length:=by
    have MJ:i≠c:=by omega
    rw[CA MJ,← gZ,List.append_assoc pre,List.take_length_add_append,List.take_append_of_le_length (by rw[k4];omega),oz,oz,qi gu E i aj]
    refine⟨_,by rw[List.append_assoc],?_⟩
    rw[List.length_append,List.length_drop,iU]
    simp only[List.length_append,List.length_cons,List.length_nil,bt gu,DY,Int.toNat_natCast]
    have:=jF
    omega
   refine A9 (U:=aY) (l':=pre++rV (E.take i)++kH) 0 fE zr zr zr zr zr zr zr zr ?_ ?_ rfl ?_
   ·have MJ:i≠c:=by omega
    show o1+((l.length:Int).toNat-(i:Int).toNat)*3≤_
    rw[CA MJ,hL];omega
   ·rw[← CG];rfl
   refine go ?_
   refine iF zr zr zr zr zr zr zr aj aj (.inr aj) ?_
   intro o2 ho3 ho4
   have Mu:o2=o:=by
    by_cases sF:(0:Int).toNat=c
    ·exact ho4 sF
    ·have:=ho3 sF;rw[this];simp
   subst Mu
   refine go ?_
   refine ai (fQ (sz:=3) (nn:=i) (c:=c) gZ aj (by rw[oz,bt gu,List.length_take];omega) (by rw[oz,bt gu,List.length_take];omega) _) ?_
   rw[← tN,tN,qY,← tN]at hE
   refine aL hE Tryz.func372 rfl _ zr zr (ak.fin [0,1] 0 zr zr)
def N4(A:HP)(v:Value)(W:List Rt)(hv:Vw A v W.length (rV W))(hlen:W.length≤1000000000) :
  aw Tryz.prog 373 [v] [A] (fun r H=>H=[aH 278 3 r W.length (rV W),A]):=by
 obtain⟨a,c0,rfl⟩:=hv.shape
 cases a with
 | none =>
  have hb:W=[]:=by
   obtain⟨a,cap,h1,h2|⟨b,o,h2,_⟩⟩:=hv
   ·have:=congrArg List.length h2
    rw[z6]at this
    exact List.eq_nil_of_length_eq_zero (by simp at this;omega)
   ·simp only[Value.slice.injEq]at h1;rw[← h1.1]at h2;cases h2
  subst hb
  refine aw.enter Tryz.func373 ae rfl Tryz.ntmps373 zr zr ?_
  intro G F R hR
  refine go ?_
  have he:c0=c0:=rfl
  refine ai (bp 278 3 none _) ?_
  refine aL hR Tryz.func373 rfl _ zr zr (ak.fin [0,1] 0 zr zr)
 | some a =>
  refine aw.enter Tryz.func373 ae rfl Tryz.ntmps373 zr zr ?_
  intro G F R hR
  refine go ?_
  refine aq (cs:=[]) zr zr zr zr zr zr zr zr zr bq ?_
  intro b0
  refine go ?_
  refine aR (eW 278 3 b0 0 0 [] [] _ rfl (Nat.le_refl _) (by simp)) ?_
  refine aU (mm:=W.length) (news:=rV W) 0 1 zr zr zr zr zr zr zr zr zr zr zr zr hv (by rw[z6];rfl) (ZO W) aj (by show _*24≤_;omega) (fun _=>rfl) bq ?_
  intro v'
  have e1:(0:Nat)+W.length=W.length:=by omega
  rw[e1,List.nil_append]
  refine go ?_
  refine aL hR Tryz.func373 rfl _ zr zr (ak.fin [0,1] 0 zr zr)
def uq(A X:HP)(v:Value)(l:List Rt)(hv:Vw A v l.length (rV l))(hlen:l.length≤1000000000)(g:FuncId)(cap:List Value)(p:Rt→Bool)(hf:∀x∈l,aw Tryz.prog g (.agg (rC x).toArray::cap) [X] (fun v H=>v = .bool (p x)∧H=[X])) :
  aw Tryz.prog 458 [v,.func (.func g) #[] cap.toArray] [A,X] (fun r H=>r = .bool (l.any p)∧H=[A,X]):=by
 refine aw.ao Tryz.func458 Tryz.ntmps458 fun G F R hE=>?_
 refine go ?_
 refine aF (rO A X v l hv hlen g cap p hf) ?_
 refine go ?_
 refine aQ 4 ((.bool (l.any p))) rfl ((congrArg Value.bool (GW p l))) ?_
 refine ad hE Tryz.func458 zr zr ⟨rfl,rfl⟩
end Go.Proofs.YtjpboghdolfekaaGreatDoor
namespace Go.Proofs.YtjpboghdolfekaaGreatDoor
open Go Go.SL
def BE(l:List Int):List (Int × Value):=l.foldl (fun es k=>gT es k (.bool true)) []
def ux(l:List Int)(x:Int):BE (l++[x])=gT (BE l) x (.bool true):=by simp[BE]
def zu(es:List (Int × Value))(k:Int)(v:Value):(gT es k v).map (·.1)=if k∈es.map (·.1)then es.map (·.1)else es.map (·.1)++[k]:=by
 unfold gT
 split
 ·rw[List.map_map]
  apply List.map_congr_left
  intro x hx
  simp only[Function.comp]
  split
  ·rename_i h;rw[h]
  ·rfl
 ·simp
def zW{p:List Int→Prop}(h0:p [])(h1:∀l x,p l→p (l++[x]))(l:List Int):p l:=by
 have:∀m:List Int,p m.reverse:=by
  intro m
  induction m with
  | nil=>exact h0
  | cons x m ih=>rw[List.reverse_cons];exact h1 _ _ ih
 have h2:=this l.reverse
 rwa[List.reverse_reverse]at h2
def Ov(l:List Int)(k:Int):k∈(BE l).map (·.1)↔k∈l:=by
 induction l using zW with
 | h0=>simp[BE]
 | h1 l x ih =>
  rw[ux,zu]
  split
  ·rename_i h
   rw[ih,List.mem_append,List.mem_singleton]
   constructor
   ·exact .inl
   ·rintro(h2|rfl)
    ·exact h2
    ·exact(by have:=h;revert this;induction l using zW with|h0=>simp[BE]|h1=>exact fun h=>ih.1 h)
  ·rw[List.mem_append,List.mem_append,ih]
def Ow(l:List Int):(BE l).length≤l.length∧((BE l).length=l.length↔l.Nodup):=by
 induction l using zW with
 | h0=>simp[BE]
 | h1 l x ih =>
  have hm:=Ov l x
  have hl:(BE (l++[x])).length=if x∈l then(BE l).length else(BE l).length+1:=by
   have h:=congrArg List.length (zu (BE l) x (.bool true))
   rw[List.length_map]at h
   rw[ux,h]
   by_cases hx:x∈l
   ·rw[if_pos (hm.2 hx),if_pos hx,List.length_map]
   ·rw[if_neg (fun h=>hx (hm.1 h)),if_neg hx,List.length_append,List.length_map];rfl
  rw[hl,List.length_append,List.length_singleton,List.nodup_append]
  by_cases hx:x∈l
  ·rw[if_pos hx]
   refine⟨aj,⟨fun h=>by omega,fun h=>?_⟩⟩
   exact absurd rfl (h.2.2 x hx x (by simp))
  ·rw[if_neg hx]
   refine⟨aj,⟨fun h=>⟨ih.2.1 aj,by simp,?_⟩,fun h=>by have:=ih.2.2 h.1;omega⟩⟩
   rintro a ha b hb rfl
   simp at hb
   subst hb
   exact hx ha
def gh(l:List Rt):Int:=if 64<l.length∨l.any OR=true then 1 else if(l.map Rt.id).Nodup then 0 else 5
attribute [local irreducible] J K aw Ends ag aH au bE aW aJ a6 aZ bI
def zl(v:Value)(l:List Int)(hl:l.length≤1000000000):aw Tryz.prog 183 [v] [aH 3 1 v l.length (iV l)] (fun r H=>r = .tuple #[]∧H=[aH 3 1 v l.length (iV (gY l))]):=sR v l hl
def GZ(A:HP)(v:Value)(l:List Rt)(hv:Vw A v l.length (rV l))(hl:l.length≤1000000) :
  aw Tryz.prog 377 [v] [A] (fun r H=>H=[aH 3 1 r l.length (iV (gY (l.map Rt.id))),A]):=by
 obtain⟨a,c0,rfl⟩:=hv.shape
 refine aw.ao Tryz.func377 Tryz.ntmps377 fun G F R hE=>?_
 refine go ?_
 refine ai (bp 3 1 none _) ?_
 refine bj (fun y:Value × Nat=>y.2≤l.length) (fun y=>l.length-y.2) (fun y=>[(3,y.1),(6,.slice a l.length c0),(7,.int .i64 l.length),(8,.int .i64 (y.2:Int))]) (fun y=>aH 3 1 y.1 y.2 (iV ((l.take y.2).map Rt.id))::A::F) (.slice none 0 0,0) (Nat.zero_le _) rfl bO ah ?_
 rintro⟨w,i⟩ hi ih
 simp only at hi
 refine cU 0 rfl ?_
 intro wa wc hw
 simp only at hw
 subst hw
 simp only
 refine go ?_
 refine aD zr zr ?_ ?_
 ·intro cB
  have dP:i<l.length:=by omega
  obtain⟨x,hx⟩:∃x,l[i]?=some x:=⟨l[i],by simp[dP]⟩
  obtain⟨b,o,c',he⟩:=hv.some (by intro e;have:=congrArg List.length e;rw[z6]at this;simp at this;omega)
  simp only[Value.slice.injEq,true_and]at he
  obtain⟨rfl,rfl⟩:=he
  refine go ?_
  refine bM i 3 zr zr zr zr zr zr zr zr dP ?_
  refine bZ (U:=aY) (es:=rC x) 1 (i*3) zr zr zr hv rfl (fun q v hq=>?_) zr zr zr ?_
  ·have y3:q<3:=by
    rcases Nat.lt_or_ge q 3 with h|h
    ·exact h
    ·rw[List.getElem?_eq_none (by rw[gu];exact h)]at hq;cases hq
   rw[oz,cd gu hx q y3];exact hq
  refine aB zr zr zr bq ?_
  intro bx
  refine go ?_
  refine aq (cs:=iV [x.id]) zr zr zr zr zr zr zr zr zr bq ?_
  intro b1
  refine go ?_
  refine aU (mm:=1) (news:=iV [x.id]) 2 0 zr zr zr zr zr zr zr zr zr zr zr zr (Vw.ag rfl) rfl (sC _) aj (by show(_+1)*8≤_;omega) (fun _=>rfl) bq ?_
  intro v1
  rw[show iV ((l.take i).map Rt.id)++iV [x.id]=iV ((l.take (i+1)).map Rt.id)from by rw[List.take_add_one,hx];simp[iV]]
  refine aM 2 rfl ?_
  rintro Km Kl rfl
  refine go ?_
  refine aK ih (.slice Km (i+1) Kl,i+1) rfl (by simp only;omega) (by simp only;omega) bO ah
 intro eN
 have k9:i=l.length:=by omega
 subst k9
 rw[List.take_length]
 have Qx:=zl (.slice wa l.length wc) (l.map Rt.id) (by rw[List.length_map];omega)
 rw[List.length_map]at Qx
 refine go ?_
 refine aF Qx ?_
 refine go ?_
 refine aL hE Tryz.func377 rfl _ zr zr ah
def FD(A:HP)(v:Value)(l:List Rt)(hv:Vw A v l.length (rV l))(hl:l.length≤9223372036854775807) :
  aw Tryz.prog 371 [v] [A] (fun r H=>r = .int .i64 (gh l)∧H=[A]):=by
 obtain⟨a,c0,rfl⟩:=hv.shape
 have hki:jg Tryz.prog 3 (Value.int .i64):=qc Tryz.underlying3
 refine aw.ao Tryz.func371 Tryz.ntmps371 fun G F R hE=>?_
 refine go ?_
 refine ew zr zr zr zr ?_ ?_
 ·intro Au
  refine go ?_
  have:gh l=1:=by unfold gh;rw[if_pos (.inl aj)]
  ((refine ad hE Tryz.func371 zr zr ⟨by rw[this];rfl,rfl⟩))
 intro nu
 refine go ?_
 refine aR (ak.jO _) ?_
 refine aF (uq A emp (.slice a l.length c0) l hv aj 457 [] OR (fun x _=>aw.MQ emp (Ex x))) ?_
 refine go ?_
 refine ep zr zr ?_ ?_
 ·intro nZ
  refine go ?_
  have:gh l=1:=by unfold gh;rw[if_pos (.inr nZ)]
  ((refine ad hE Tryz.func371 zr zr ⟨by rw[this];rfl,rfl⟩))
 intro nZ
 have hr0:gh l=if(l.map Rt.id).Nodup then 0 else 5:=by unfold gh;rw[if_neg (by rintro(h|h);omega;rw[nZ]at h;cases h)]
 rw[hr0]at hE
 refine go ?_
 refine dA rfl bq ?_
 intro bm
 refine aR (ak.fold (B:=[_]) (A:=au (Value.int .i64) bm []) (fun h hs=>⟨h,sub.refl h,eX (Value.int .i64) bm h (cT hs)⟩)) ?_
 refine go ?_
 refine bj (fun i:Nat=>i≤l.length) (fun i=>l.length-i) (fun i=>[(0,.slice a l.length c0),(4,.map (some bm)),(16,.slice a l.length c0),(17,.int .i64 l.length),(18,.int .i64 (i:Int))]) (fun i=>au (Value.int .i64) bm (BE ((l.take i).map Rt.id))::A::F) 0 (Nat.zero_le _) rfl bO ah ?_
 rintro i hi ih
 refine go ?_
 refine aD zr zr ?_ ?_
 ·intro cB
  have dP:i<l.length:=by omega
  obtain⟨x,hx⟩:∃x,l[i]?=some x:=⟨l[i],by simp[dP]⟩
  obtain⟨b,o,c',he⟩:=hv.some (by intro e;have:=congrArg List.length e;rw[z6]at this;simp at this;omega)
  simp only[Value.slice.injEq,true_and]at he
  obtain⟨rfl,rfl⟩:=he
  refine go ?_
  refine bM i 3 zr zr zr zr zr zr zr zr dP ?_
  refine bZ (U:=aY) (es:=rC x) 1 (i*3) zr zr zr hv rfl (fun q v hq=>?_) zr zr zr ?_
  ·have y3:q<3:=by
    rcases Nat.lt_or_ge q 3 with h|h
    ·exact h
    ·rw[List.getElem?_eq_none (by rw[gu];exact h)]at hq;cases hq
   rw[oz,cd gu hx q y3];exact hq
  refine aB zr zr zr bq ?_
  intro bx
  refine go ?_
  refine du (key:=x.id) 1 hki fE zr zr zr zr zr zr zr zr ?_
  rw[← ux,show(l.take i).map Rt.id++[x.id]=(l.take (i+1)).map Rt.id from by rw[List.take_add_one,hx];simp]
  refine go ?_
  refine aK ih (i+1) rfl aj aj bO ah
 intro eN
 have k9:i=l.length:=by omega
 subst k9
 rw[List.take_length]
 obtain⟨yZ,qZ⟩:=Ow (l.map Rt.id)
 rw[List.length_map]at yZ qZ
 refine go ?_
 refine Dx (U:=aY) 0 zr zr zr zr zr (go ?_)
 refine aD zr zr ?_ ?_
 ·intro h
  have hn:¬(l.map Rt.id).Nodup:=fun hn=>by have:=qZ.2 hn;omega
  rw[if_neg hn]at hE
  refine go ?_
  refine ad hE Tryz.func371 zr zr ⟨rfl,rfl⟩
 intro h
 have hn:(l.map Rt.id).Nodup:=qZ.1 aj
 rw[if_pos hn]at hE
 refine go ?_
 refine ad hE Tryz.func371 zr zr ⟨rfl,rfl⟩
end Go.Proofs.YtjpboghdolfekaaGreatDoor
namespace Go.Proofs.YtjpboghdolfekaaGreatDoor
open Go Go.Shelf
def yA:Go.Shelf.Ren:=⟨fun|6=>375|15=>298|14=>460|28=>419|29=>420|20=>534|21=>535|22=>536|23=>537|24=>538|25=>539|26=>540|27=>541|46=>565|47=>495|48=>496|49=>566|50=>567|57=>574|n=>n,fun|22=>273|24=>278|25=>499|3=>3|39=>196|0=>0|53=>413|55=>38|4=>4|46=>521|45=>520|50=>171|5=>5|9=>9|66=>580|70=>583|76=>619|77=>620|n=>n,fun|n=>n⟩
def acF:Go.Proofs.SlLaysF0.n6 Tryz.prog yA:={
  mixed:=by kernel_rfl,
  f6:=⟨Tryz.f375.name,by decide,Tryz.func375.trans (congrArg some (by kernel_rfl))⟩,
  f14:=⟨Tryz.f460.name,by decide,Tryz.func460.trans (congrArg some (by kernel_rfl))⟩,
  f15:=Tryz.func298.trans (congrArg some (by kernel_rfl)),
  f20:=⟨Tryz.f534.name,by decide,Tryz.func534.trans (congrArg some (by kernel_rfl))⟩,
  f21:=⟨Tryz.f535.name,by decide,Tryz.func535.trans (congrArg some (by kernel_rfl))⟩,
  f22:=⟨Tryz.f536.name,by decide,Tryz.func536.trans (congrArg some (by kernel_rfl))⟩,
  f23:=⟨Tryz.f537.name,by decide,Tryz.func537.trans (congrArg some (by kernel_rfl))⟩,
  f24:=⟨Tryz.f538.name,by decide,Tryz.func538.trans (congrArg some (by kernel_rfl))⟩,
  f25:=⟨Tryz.f539.name,by decide,Tryz.func539.trans (congrArg some (by kernel_rfl))⟩,
  f26:=⟨Tryz.f540.name,by decide,Tryz.func540.trans (congrArg some (by kernel_rfl))⟩,
  f27:=⟨Tryz.f541.name,by decide,Tryz.func541.trans (congrArg some (by kernel_rfl))⟩,
  f28:=Tryz.func419.trans (congrArg some (by kernel_rfl)),
  f29:=Tryz.func420.trans (congrArg some (by kernel_rfl)),
  f46:=⟨Tryz.f565.name,by decide,Tryz.func565.trans (congrArg some (by kernel_rfl))⟩,
  f47:=Tryz.func495.trans (congrArg some (by kernel_rfl)),
  f48:=Tryz.func496.trans (congrArg some (by kernel_rfl)),
  f49:=⟨Tryz.f566.name,by decide,Tryz.func566.trans (congrArg some (by kernel_rfl))⟩,
  f50:=⟨Tryz.f567.name,by decide,Tryz.func567.trans (congrArg some (by kernel_rfl))⟩,
  f57:=⟨Tryz.f574.name,by decide,Tryz.func574.trans (congrArg some (by kernel_rfl))⟩,
  t0:=Tryz.underlying0,
  a0:=Tryz.isAgg0,
  z0:=Tryz.sizeOf0,
  v0:=Tryz.zeroValue0,
  t3:=Tryz.underlying3,
  a3:=Tryz.isAgg3,
  z3:=Tryz.sizeOf3,
  v3:=Tryz.zeroValue3,
  t4:=Tryz.underlying4,
  a4:=Tryz.isAgg4,
  z4:=Tryz.sizeOf4,
  v4:=Tryz.zeroValue4,
  t5:=Tryz.underlying5,
  a5:=Tryz.isAgg5,
  z5:=Tryz.sizeOf5,
  v5:=Tryz.zeroValue5,
  t9:=Tryz.underlying9,
  a9:=Tryz.isAgg9,
  z9:=Tryz.sizeOf9,
  v9:=Tryz.zeroValue9,
  t22:=Tryz.underlying273,
  a22:=Tryz.isAgg273,
  z22:=Tryz.sizeOf273,
  v22:=Tryz.zeroValue273,
  t25:=Tryz.underlying499,
  a25:=Tryz.isAgg499,
  z25:=Tryz.sizeOf499,
  v25:=Tryz.zeroValue499,
  t39:=Tryz.underlying196,
  a39:=Tryz.isAgg196,
  z39:=Tryz.sizeOf196,
  v39:=Tryz.zeroValue196,
  t45:=Tryz.underlying520,
  a45:=Tryz.isAgg520,
  z45:=Tryz.sizeOf520,
  v45:=Tryz.zeroValue520,
  t46:=Tryz.underlying521,
  a46:=Tryz.isAgg521,
  z46:=Tryz.sizeOf521,
  v46:=Tryz.zeroValue521,
  t50:=Tryz.underlying171,
  a50:=Tryz.isAgg171,
  z50:=Tryz.sizeOf171,
  v50:=Tryz.zeroValue171,
  t53:=Tryz.underlying413,
  a53:=Tryz.isAgg413,
  z53:=Tryz.sizeOf413,
  v53:=Tryz.zeroValue413,
  t55:=Tryz.underlying38,
  a55:=Tryz.isAgg38,
  z55:=Tryz.sizeOf38,
  v55:=Tryz.zeroValue38,
  t66:=Tryz.underlying580,
  a66:=Tryz.isAgg580,
  z66:=Tryz.sizeOf580,
  v66:=Tryz.zeroValue580,
  t70:=Tryz.underlying583,
  a70:=Tryz.isAgg583,
  z70:=Tryz.sizeOf583,
  v70:=Tryz.zeroValue583,
  t76:=Tryz.underlying619,
  a76:=Tryz.isAgg619,
  z76:=Tryz.sizeOf619,
  v76:=Tryz.zeroValue619,
  t77:=Tryz.underlying620,
  a77:=Tryz.isAgg620,
  z77:=Tryz.sizeOf620,
  v77:=Tryz.zeroValue620 }
end Go.Proofs.YtjpboghdolfekaaGreatDoor
namespace Go.SL
open Go.Proofs Go.Shelf Go.RowKit Go.Lib Go.Sort
variable{P:Program}{ρ:Ren}{α:Type}[Inhabited α]
def FF{g:FuncId}{cb:Array Value}{enc:α→List Value}{k:Nat}{cf:α→α→Int}(blk off size:Nat)(w:World)(hc:∀x y,aw P g (.agg (enc x).toArray :: .agg (enc y).toArray::cb.toList) [] (fun r H=>r = .int .i64 (cf x y)∧H=[])):CmpLays P g cb enc k cf blk off size w:=by
 intro m os dk hs x y
 generalize sortWorldK enc k w blk off m dk os=W
 have h1:Sat { tape:=W.tape,os:=W.os,output:=W.output,lo:=W.drawn } W ([]++[old W]):=⟨⟨rfl,Nat.le_refl _⟩,rfl,rfl,fun b=>W.heap[b]?,fun _ _ h=>h,di fun _=>rfl⟩
 have h2:=(hc x y).2 _ W [old W] h1
 have he:(Value.agg (enc x).toArray::Value.agg (enc y).toArray::cb.toList).toArray = #[.agg (enc x).toArray,.agg (enc y).toArray]++cb:=by
  apply Array.ext';simp
 rw[he]at h2
 refine h2.mono ?_
 rintro e w'⟨v,H,rfl,⟨rfl,rfl⟩,Qz⟩
 exact⟨rfl,CV Qz⟩
def wk(enc:α→List Value)(k:Nat)(hk:∀x,(enc x).length=k)(d:Array α):Sort.flatK enc k d=(d.toList.flatMap enc).toArray:=by
 refine Sort.ext_get! (by simp[bt hk]) fun t ht=>?_
 have ht':t<d.size*k:=by simpa using ht
 rw[Sort.get_flatK _ _ _ _ ht']
 have hk0:0<k:=by
  rcases Nat.eq_zero_or_pos k with h|h
  ·subst h;simp at ht'
  ·exact h
 have hq:t/k<d.size:=Nat.div_lt_of_lt_mul (by rw[Nat.mul_comm];exact ht')
 have hx:d.toList[t/k]?=some d[t/k]! := by
  rw[getElem!_pos d (t/k) hq];simp[hq]
 have h1:=cd hk hx (t%k) (Nat.mod_lt _ hk0)
 rw[Nat.div_add_mod' t k]at h1
 have cB:t%k<(enc d[t/k]!).length:=by rw[hk];exact Nat.mod_lt _ hk0
 have I6:t<(d.toList.flatMap enc).length:=by rw[bt hk];simpa using ht'
 rw[getElem!_pos (enc d[t/k]!) (t%k) cB,getElem!_pos (d.toList.flatMap enc).toArray t (by simpa using I6)]
 rw[List.getElem?_eq_getElem I6,List.getElem?_eq_getElem cB]at h1
 exact(Option.some.inj h1).symm
def zQ(L:SlLaysF0.n6 P ρ)(k:Nat)(aE:∀w,(isAgg (ρ.t 24)).run P w = .ok true w)(zE:∀w,(Go.sizeOf (ρ.t 24)).run P w = .ok k w)(enc:α→List Value)(hk:∀x,(enc x).length=k)(h1:∀x,∀v∈enc x,v.oneCell'=true)(cf:α→α→Int)(hO:SWO (ltOf cf))(g:FuncId)(e:TypeId)(v:Value)(l:List α)(QR:P.funcs[ρ.f 6]?.map hG=some true)(eg:∀args w,(callFunc g args).run P w = .ok (.enter g args) w)(hc:∀x y,aw P g [.agg (enc x).toArray,.agg (enc y).toArray] [] (fun r H=>r = .int .i64 (cf x y)∧H=[]))(js:l.length<4611686018427387904)(hT:∀x y,(ltOf cf) x y=false→(ltOf cf) y x=false→x=y) :
  aw P (ρ.f 6) [v,.func (.func g) #[] #[]] [aH e k v l.length (l.flatMap enc)] (fun r H=>r = .tuple #[]∧H=[aH e k v l.length ((l.mergeSort fun x y => !(ltOf cf) y x).flatMap enc)]):=by
 refine⟨QR,fun G w F hs=>?_⟩
 obtain⟨t,o,u,hp,yV,hA,hB,⟨hl,gB⟩,Jk,hd,he⟩:=hs
 rcases gB with⟨a0,rfl,hn,vZ⟩|⟨b,oo,cap,pre,junk,rfl,gZ,hn,fF,vW⟩
 ·have I7:l=[]:=List.eq_nil_of_length_eq_zero hn
  subst I7
  refine(AnyF.slices_SortFunc_none (P:=P) (ρ:=ρ) { L with } a0 0 (.func (.func g) #[] #[]) w).mono ?_
  rintro e' w'⟨rfl,rfl⟩
  exact⟨_,_,rfl,⟨rfl,rfl⟩,t,o,u,hp,yV,hA,hB,⟨by simp,.inl ⟨a0,rfl,rfl,vZ⟩⟩,Jk,hd,he⟩
 ·have pF:Sat G w (ag b (cl (pre++l.flatMap enc++junk) e)::F):=⟨t,o,u,hp,yV,hA,hB,vW,Jk,hd,he⟩
  have hb:=pF.get (i:=0) rfl
  have cB:=pF.lt (i:=0) rfl
  subst gZ
  have hH:Sort.HoldsK enc k w b pre.length l.toArray:=by
   unfold Sort.HoldsK
   rw[wk enc k hk]
   exact sE hb
  have hS:=AnyQ.slices_SortFunc_total L k aE zE enc hk h1 cf hO g #[] b pre.length cap l.toArray w eg (FF b pre.length l.toArray.size w hc) hH cB (by simpa using js) hT
  refine(by simpa using hS:Calls P (ρ.f 6) #[.slice (some ⟨b,pre.length,none⟩) l.length cap,.func (.func g) #[] #[]] w _).mono ?_
  rintro e' w'⟨rfl,n,os,rfl⟩
  refine⟨_,_,rfl,⟨rfl,rfl⟩,?_⟩
  have uh:(l.mergeSort fun x y => !(ltOf cf) y x).length=l.length:=List.length_mergeSort _
  have h3:=(pF.ahead n).ZZ (Sort.putCells id pre.length (Sort.flatK enc k (l.mergeSort fun x y => !(ltOf cf) y x).toArray)) (l':=pre++(l.mergeSort fun x y => !(ltOf cf) y x).flatMap enc++junk) (by
   rw[wk enc k hk]
   exact ng _ _ _ _ (by rw[bt hk,bt hk,uh]))
  have h4:=h3.grown os
  refine h4.cp ?_
  exact fQ rfl hn (by rw[bt hk,uh,← hl];exact fF) (by rw[bt hk,uh]) F
end Go.SL
namespace Go.Proofs.YtjpboghdolfekaaGreatDoor
open Go Go.SL
structure Wt where
 id:Int
 ju:Int
deriving DecidableEq
instance:Inhabited Wt:=⟨⟨0,0⟩⟩
def Wt.rt(x:Wt):Rt:=⟨x.id,x.ju,true⟩
def wC(x:Wt):List Value:=rC x.rt
def KH(x:Wt):(wC x).length=3:=rfl
def cfW(x y:Wt):Int:=cfR x.rt y.rt
def before(x y:Wt):Bool:=decide (y.ju<x.ju∨(x.ju=y.ju∧x.id<y.id))
def aaS(a b c d:Int):LJ [pI b a,pI c d]<0↔(b<a∨(a=b∧c<d)):=by
 simp only[LJ,pI]
 by_cases h1:b<a
 ·simp[h1]
 ·by_cases h2:a<b
  ·simp[h1,h2];omega
  ·have h3:a=b:=by omega
   by_cases h4:c<d
   ·simp[h3,h4]
   ·by_cases h5:d<c
    ·simp[h3,h4,h5]
    ·simp[h3,h4,h5]
def FG:Go.Proofs.ltOf cfW=before:=by
 funext x y
 exact decide_eq_decide.2 (aaS x.ju y.ju x.id y.id)
def FO:Go.Sort.SWO before where
 irrefl x:=by simp[before]
 trans x y z h1 h2:=by simp[before]at *;omega
 ntrans x y z h1 h2:=by simp[before]at *;omega
def FN(x y:Wt)(h1:before x y=false)(h2:before y x=false):x=y:=by
 cases x;cases y;simp[before]at *;omega
def og(l:List Rt):List Wt:=(l.filter (·.w)).map fun x=>⟨x.id,x.ju⟩
def Bq(l:List Rt):rV (l.filter fun x => !!x.w)=(og l).flatMap wC∧(l.filter fun x => !!x.w).length=(og l).length:=by
 simp only[Bool.not_not]
 refine⟨?_,by simp[og]⟩
 unfold rV og
 rw[List.flatMap_map]
 induction l with
 | nil=>rfl
 | cons x l ih =>
  rw[List.filter_cons]
  split
  ·rename_i h
   rw[List.flatMap_cons,List.flatMap_cons,ih]
   congr 1
   unfold wC Wt.rt rC
   simp only
   rw[h]
  ·exact ih
def fu(l:List Rt):List Wt:=(og l).mergeSort fun x y => !before y x
def vp(l:List Rt):(fu l).length=(og l).length:=List.length_mergeSort _
def yq(l:List Rt):(og l).length≤l.length:=by unfold og;rw[List.length_map];exact List.length_filter_le _ _
def Qn(s:List Wt):s.flatMap wC=rV (s.map Wt.rt):=by unfold rV;rw[List.flatMap_map];rfl
def toNat_lt{z:Int}(h:0≤z∧z<18446744073709551616):z.toNat<18446744073709551616:=by omega
def OU(z:Int):(oE z).toNat<18446744073709551616:=toNat_lt (ni z)
abbrev Res:=List Int × Int × Int
def oQ(l:List Rt)(bJ:Int):List Int:=gY (((fu l).take (min (bJ-1) (fu l).length).toNat).map Wt.id)
def ie(l:List Rt)(bJ:Int):List Int:=gY (((fu l).drop (min (bJ-1) (fu l).length).toNat).map Wt.id)
def Hl(seed:Int)(n:Nat):Nat:=gS (oE (gy seed)).toNat n
def lP(o:List Int)(fH:Int)(turn:Bool)(seed:Int):Int:=if turn=true∨fH ∉ o then o.getD (Hl seed o.length) 0 else fH
def cS(l:List Rt)(bJ fH:Int)(turn:Bool)(seed:Int):Res :=
 if bJ<1∨16<bJ then([],0,1)else if gh l≠0 then([],0,gh l)else
 if ie l bJ=[]then(oQ l bJ,0,0)else
 (gY (oQ l bJ++[lP (ie l bJ) fH turn seed]),lP (ie l bJ) fH turn seed,0)
attribute [local irreducible] J K aw Ends ag aH au bE aW aJ a6 aZ bI gS oE gy
def AO(v:Value)(l:List Wt)(hl:l.length≤1000000000) :
  aw Tryz.prog 375 [v,.func (.func 376) #[] #[]] [aH 278 3 v l.length (l.flatMap wC)] (fun r H=>r = .tuple #[]∧H=[aH 278 3 v l.length ((l.mergeSort fun x y => !before y x).flatMap wC)]):=by
 have h:=zQ (ρ:=yA) acF 3 Tryz.isAgg278 Tryz.sizeOf278 wC (fun _=>rfl) (fun x v hv=>by simp[wC,rC]at hv;rcases hv with rfl|rfl|rfl <;> rfl) cfW (by rw[FG];exact FO) 376 278 v l ae (enters_of Tryz.func376 ae rfl) (fun x y=>DO x.rt y.rt) aj (by rw[FG];exact FN)
 rw[FG]at h
 exact h
def Gl(A:HP)(v:Value)(l:List Rt)(bJ fH:Int)(turn:Bool)(seed:Int)(hv:Vw A v l.length (rV l))(hl:l.length≤9223372036854775807)(hs:i64 bJ)(ht:i64 fH) :
  aw Tryz.prog 250 [v,.int .i64 bJ,.int .i64 fH,.bool turn,.int .u64 seed] [A]
   (fun r H=>∃w,r = .tuple #[w,.int .i64 (cS l bJ fH turn seed).2.1,.int .i64 (cS l bJ fH turn seed).2.2]∧H=[aH 3 1 w (cS l bJ fH turn seed).1.length (iV (cS l bJ fH turn seed).1),A]):=by
 obtain⟨a,c0,rfl⟩:=hv.shape
 obtain⟨res,k7⟩:∃res,res=cS l bJ fH turn seed:=⟨_,rfl⟩
 rw[← k7]
 unfold cS at k7
 refine aw.ao Tryz.func250 Tryz.ntmps250 fun G F R hE=>?_
 refine go ?_
 refine ew zr zr zr zr ?_ ?_
 ·intro h
  rw[if_pos (.inl h)]at k7
  subst k7
  refine go ?_
  refine ai (bp 3 1 none _) ?_
  refine ad hE Tryz.func250 zr zr ⟨_,rfl,rfl⟩
 intro h1
 refine go ?_
 refine aD zr zr ?_ ?_
 ·intro h
  rw[if_pos (.inr h)]at k7
  subst k7
  refine go ?_
  refine ai (bp 3 1 none _) ?_
  refine ad hE Tryz.func250 zr zr ⟨_,rfl,rfl⟩
 intro h2
 rw[if_neg aj]at k7
 refine go ?_
 refine aF (FD A (.slice a l.length c0) l hv hl) ?_
 refine go ?_
 refine aD zr zr ?_ ?_
 ·intro h
  rw[if_pos h]at k7
  subst k7
  refine go ?_
  refine ai (bp 3 1 none _) ?_
  refine ad hE Tryz.func250 zr zr ⟨_,rfl,rfl⟩
 intro h3
 rw[if_neg h3]at k7
 have Q0:l.length≤64:=by
  rcases Nat.lt_or_ge 64 l.length with h|h
  ·exact absurd (show gh l≠0 from by unfold gh;rw[if_pos (.inl h)];decide) h3
  ·exact h
 have k4:=yq l
 refine go ?_
 refine az (N4 A (.slice a l.length c0) l hv aj) ?_
 rintro w1 _ rfl
 refine aM 0 rfl ?_
 rintro wa wc rfl
 refine go ?_
 refine aR (ak.jO _) ?_
 refine az (yi (.slice wa l.length wc) l emp 374 [] (fun x => !x.w) aj (fun x _=>aw.MQ emp (DP x))) ?_
 rintro w2 _ rfl
 rw[(Bq l).1,(Bq l).2]
 refine aM 0 rfl ?_
 rintro va vc rfl
 refine go ?_
 refine aF (AO (.slice va (og l).length vc) (og l) aj) ?_
 change J _ _ _ _ _ _ _ _ _ _ (aH _ 3 _ _ ((fu l).flatMap wC)::_)
 refine go ?_
 rw[← vp l]
 have E8:=vp l
 refine Qd 0 rfl ?_
 intro hle jF dt
 obtain⟨k,hk⟩:∃k:Nat,(k:Int)=min (bJ-1) (fu l).length:=⟨(min (bJ-1) (fu l).length).toNat,aj⟩
 have QM:k≤(fu l).length:=by omega
 have hf:oQ l bJ=gY (((fu l).take k).map Wt.id):=by unfold oQ;rw[← hk,Int.toNat_natCast]
 have ho:ie l bJ=gY (((fu l).drop k).map Wt.id):=by unfold ie;rw[← hk,Int.toNat_natCast]
 have k6:Vw (aH 278 3 (.slice va (fu l).length vc) (fu l).length ((fu l).flatMap wC)) (.slice (sliceAt va vc 0 3) k vc) (((fu l).take k).map Wt.rt).length (rV (((fu l).take k).map Wt.rt)):=by
  have:=dt.adT (s:=3) k
  rw[← qi KH (fu l) k QM,Qn ((fu l).take k)]at this
  rwa[List.length_map,List.length_take,Nat.min_eq_left QM]
 have qX:Vw (aH 278 3 (.slice va (fu l).length vc) (fu l).length ((fu l).flatMap wC)) (.slice (sliceAt va vc k 3) ((fu l).length-k) (vc-k)) (((fu l).drop k).map Wt.rt).length (rV (((fu l).drop k).map Wt.rt)):=by
  have:=dt.JA jF hle k QM
  have hd:((fu l).flatMap wC).drop (k*3)=((fu l).drop k).flatMap wC:=by
   have h1:(fu l).flatMap wC=((fu l).take k).flatMap wC++((fu l).drop k).flatMap wC:=by rw[← List.flatMap_append,List.take_append_drop]
   have h2:(((fu l).take k).flatMap wC).length=k*3:=by rw[bt KH,List.length_take,Nat.min_eq_left QM]
   rw[h1,← h2,List.drop_left]
  rw[hd,Qn ((fu l).drop k)]at this
  rwa[List.length_map,List.length_drop]
 have xE:=GZ _ _ _ k6 (by rw[List.length_map,List.length_take];omega)
 have Kw:=GZ _ _ _ qX (by rw[List.length_map,List.length_drop];omega)
 rw[List.map_map,show Rt.id ∘ Wt.rt=Wt.id from rfl,List.length_map]at xE Kw
 rw[← hf]at xE
 rw[← ho]at Kw
 have q5:(oQ l bJ).length=((fu l).take k).length:=by rw[hf,fp,List.length_map]
 have hol:(ie l bJ).length=((fu l).drop k).length:=by rw[ho,fp,List.length_map]
 rw[← q5]at xE
 rw[← hol]at Kw
 rw[List.length_take]at q5
 rw[List.length_drop]at hol
 clear hf ho
 generalize oQ l bJ=first at *
 generalize ie l bJ=others at *
 refine aQ 15 ((.int .i64 (k:Int))) rfl ((congrArg (Value.int .i64) aj)) ?_
 refine aO (fun w=>Sat G w ([aH 278 3 (.slice va (fu l).length vc) (fu l).length ((fu l).flatMap wC)])) (cM 0 3 (cM 4 3 (.act 3 (.act 7 (.st 8 (.st 9 .nil)))))) rfl ae ae ae dv ?_
 refine go ?_
 refine bo zr zr zr zr zr zr zr aj aj (.inr aj) ?_
 ((refine aC 41 ((.slice (sliceAt va vc 0 3) k vc)) rfl ((by simp;rfl)) ?_))
 refine go ?_
 refine bo zr zr zr zr zr zr zr aj aj (.inl rfl) ?_
 ((refine aC 45 ((.slice (sliceAt va vc k 3) ((fu l).length-k) (vc-k))) rfl ((by simp;rfl)) ?_))
 refine go ?_
 refine cP xE ?_
 rintro q1 _ rfl
 refine go ?_
 refine cP Kw ?_
 rintro q2 _ rfl
 refine aM 0 rfl ?_
 rintro oa oc rfl
 refine aM 2 rfl ?_
 rintro fa fc rfl
 refine go ?_
 refine aD zr zr ?_ ?_
 ·intro h0
  have ho0:others=[]:=List.eq_nil_of_length_eq_zero aj
  rw[if_pos ho0]at k7
  subst k7
  refine go ?_
  refine ad hE Tryz.func250 zr zr ⟨_,rfl,rfl⟩
 intro h0
 have I2:0<others.length:=by omega
 rw[if_neg (fun e=>by rw[e]at I2;simp at I2)]at k7
 refine gG rfl ?_
 refine zA 2 (fun t:Int=>t=lP others fH turn seed) (fun t=>[(2,.int .i64 t),(16,.slice fa first.length fc)]) (fun t=>aH 3 1 (.slice fa first.length fc) first.length (iV first)::A::F) rfl ?_ ?_
 ·rintro t rfl
  generalize lP others fH turn seed=t at *
  subst k7
  refine go ?_
  refine aq (cs:=iV [t]) zr zr zr zr zr zr zr zr zr bq ?_
  intro b1
  refine go ?_
  refine aU (mm:=1) (news:=iV [t]) 1 0 zr zr zr zr zr zr zr zr zr zr zr zr (Vw.ag rfl) rfl (sC _) aj (by show(_+1)*8≤_;omega) (fun _=>rfl) bq ?_
  intro v1
  rw[show iV first++iV [t]=iV (first++[t])from by simp[iV],show first.length+1=(first++[t]).length from by simp]
  refine aM 1 rfl ?_
  rintro Km Kl rfl
  refine go ?_
  have Qx:=zl (.slice Km (first++[t]).length Kl) (first++[t]) (by simp;omega)
  rw[← fp (first++[t])]at Qx
  rw[← fp (first++[t])]
  refine aF Qx ?_
  refine go ?_
  refine ad hE Tryz.func250 zr zr ⟨_,rfl,rfl⟩
 ·intro tail
  have oJ:=sO (x:=(oE (gy seed)).toNat) (n:=others.length) (OU _) I2
  have Jg:=fun b=>sY b seed others.length aj
  generalize hd:gS (oE (gy seed)).toNat others.length=d at oJ Jg
  obtain⟨x,hx⟩:∃x,others[d]?=some x:=⟨others[d],by simp[oJ]⟩
  have hxd:others.getD (Hl seed others.length) 0=x:=by
   rw[show Hl seed others.length=d from hd,List.getD_eq_getElem?_getD,hx];rfl
  have QU:turn=true∨fH ∉ others→x=lP others fH turn seed:=fun h=>by unfold lP;rw[if_pos h,hxd]
  refine jP 0 rfl I2 ?_
  intro ob oo ooc he Pj CN IY
  simp only[Value.slice.injEq,true_and]at he
  obtain⟨rfl,rfl⟩:=he
  cases turn with
  | true =>
   have Ks:=QU (.inl rfl)
   refine go ?_
   refine az (lG seed) ?_
   rintro _ _⟨bs,rfl,rfl⟩
   refine go ?_
   refine aF (Jg bs) ?_
   refine go ?_
   refine bD d zr zr zr zr zr zr zr zr oJ ?_
   refine aP 1 d zr zr zr IY rfl (jK hx) zr zr ?_
   refine rW ?_
   refine pJ tail x rfl Ks bO ah
  | false =>
   refine go ?_
   refine aF (yj _ (.slice (some ⟨ob,oo,none⟩) others.length oc) others fH IY aj) ?_
   by_cases dU:fH∈others
   ·rw[decide_eq_true dU]
    have Ks:fH=lP others fH false seed:=by unfold lP;rw[if_neg (by rintro(h|h);cases h;exact h dU)]
    refine rW ?_
    refine jY zr zr ?_
    refine pJ tail fH rfl Ks bO ah
   ·rw[decide_eq_false dU]
    have Ks:=QU (.inr dU)
    refine go ?_
    refine az (lG seed) ?_
    rintro _ _⟨bs,rfl,rfl⟩
    refine go ?_
    refine aF (Jg bs) ?_
    refine go ?_
    refine bD d zr zr zr zr zr zr zr zr oJ ?_
    refine aP 1 d zr zr zr IY rfl (jK hx) zr zr ?_
    refine rW ?_
    refine pJ tail x rfl Ks bO ah
end Go.Proofs.YtjpboghdolfekaaGreatDoor
namespace Go.Proofs.YtjpboghdolfekaaGreatDoor
open Go Go.SL
def whM(mo:Option Nat)(may:List Int):HP:=match mo with
 | none=>emp
 | some bm=>au (Value.int .i64) bm (BE may)
def wh(b:Nat)(s e r t:Int)(mo:Option Nat)(may:List Int):HP:=star (ag b (cl [.int .i64 s,.int .i64 e,.int .i64 r,.int .i64 t,.map mo] 241)) (whM mo may)
def Ag(s e:Int):Int:=if s<1∨16<s∨e<1∨1000<e then 1 else 0
def Im{l:List Rt}(h:gh l=0):l.length≤64:=by
 unfold gh at h
 split at h
 ·cases h
 ·rename_i h1
  omega
def JD{l:List Rt}{bJ fH:Int}{turn:Bool}{seed:Int}(h:(cS l bJ fH turn seed).2.2=0):gh l=0:=by
 unfold cS at h
 split at h
 ·cases h
 ·rename_i h1
  split at h
  ·rename_i h2;exact absurd h h2
  ·rename_i h2;exact Decidable.not_not.1 h2
def Fp(l:List Rt)(bJ:Int):(oQ l bJ).length≤l.length:=by
 have h:=vp l
 have h2:=yq l
 unfold oQ
 rw[fp,List.length_map,List.length_take]
 omega
def C6(l:List Rt)(bJ fH:Int)(turn:Bool)(seed:Int):(cS l bJ fH turn seed).1.length≤l.length+1:=by
 have h:=Fp l bJ
 unfold cS
 split
 ·simp
 ·split
  ·simp
  ·split
   ·simp only;omega
   ·simp only[fp,List.length_append,List.length_singleton];omega
attribute [local irreducible] J K aw Ends ag aH au bE aW aJ a6 aZ bI gS oE gy cS fu
def M6(s e:Int):aw Tryz.prog 74 [.int .i64 s,.int .i64 e] [] (fun r H=>(Ag s e=1∧r = .tuple #[.pointer none,.int .i64 1]∧H=[])∨(Ag s e=0∧∃b,r = .tuple #[ptr b,.int .i64 0]∧H=[wh b s e 0 0 none []])):=by
 refine aw.ao Tryz.func74 Tryz.ntmps74 fun G F R hE=>?_
 repeat'(first|(with_reducible intro kQ)|refine eK ?_|refine ew zr zr zr zr ?_ ?_|refine aD zr zr ?_ ?_)
 ·((refine ad hE Tryz.func74 zr zr (.inl ⟨by unfold Ag;rw[if_pos aj],rfl,rfl⟩)))
 ·((refine ad hE Tryz.func74 zr zr (.inl ⟨by unfold Ag;rw[if_pos aj],rfl,rfl⟩)))
 ·((refine ad hE Tryz.func74 zr zr (.inl ⟨by unfold Ag;rw[if_pos aj],rfl,rfl⟩)))
 ·((refine ad hE Tryz.func74 zr zr (.inl ⟨by unfold Ag;rw[if_pos aj],rfl,rfl⟩)))
 refine bC zr zr bq ?_
 intro b
 refine go ?_
 refine ai (ak.jO _) ?_
 refine ai (ak.pick [1,0] rfl) ?_
 refine ai (ak.join _ _ _) ?_
 ((refine ad hE Tryz.func74 zr zr (.inr ⟨by unfold Ag;rw[if_neg aj],b,rfl,rfl⟩)))
def JP(A:HP)(v:Value)(l:List Rt)(b:Nat)(s e r t seed:Int)(mo:Option Nat)(may:List Int)(hv:Vw A v l.length (rV l))(hl:l.length≤9223372036854775807)(hs:i64 s)(ht:i64 t)(he:1≤e)(hr:0≤r∧r≤1000000000) :
  aw Tryz.prog 144 [ptr b,v,.int .u64 seed] [wh b s e r t mo may,A]
   (fun u H=>((cS l s t (decide (r%e=0)) seed).2.2≠0∧u = .tuple #[.slice none 0 0,.int .i64 (cS l s t (decide (r%e=0)) seed).2.2]∧H=[wh b s e r t mo may,A]) ∨
    ((cS l s t (decide (r%e=0)) seed).2.2=0∧∃w bm,u = .tuple #[w,.int .i64 0]∧H=[wh b s e (r+1) (cS l s t (decide (r%e=0)) seed).2.1 (some bm) (cS l s t (decide (r%e=0)) seed).1,aH 3 1 w (cS l s t (decide (r%e=0)) seed).1.length (iV (cS l s t (decide (r%e=0)) seed).1),A])):=by
 have hki:jg Tryz.prog 3 (Value.int .i64):=qc Tryz.underlying3
 obtain⟨a,c0,rfl⟩:=hv.shape
 have h1:=Gl A (.slice a l.length c0) l s t (decide (r%e=0)) seed hv hl hs ht
 have h65:(cS l s t (decide (r%e=0)) seed).2.2=0→(cS l s t (decide (r%e=0)) seed).1.length≤65:=fun h=>by
  have h3:=Im (JD h)
  have h4:=C6 l s t (decide (r%e=0)) seed
  omega
 generalize cS l s t (decide (r%e=0)) seed=res at h1 h65 ⊢
 obtain⟨rl,rt,re⟩:=res
 simp only at h1 h65 ⊢
 refine aw.ao Tryz.func144 Tryz.ntmps144 fun G F R hE=>?_
 refine ai (ak.part _ _ _) (go ?_)
 refine aO (fun w=>Sat G w ([ag b (cl [.int .i64 s,.int .i64 e,.int .i64 r,.int .i64 t,.map mo] 241)])) (cM 0 20 (.act 20 (cM 21 7 .nil))) rfl ae ae ae dv ?_
 (repeat(first|refine eK ?_|refine tT zr zr zr aj aj ?_))
 ((refine dM zr zr zr zr (h1) ah ?_ (fun _ _ w hp hw=>by obtain⟨_,rfl,rfl⟩:=hp;exact hw.cp ah)))
 rintro _ _⟨w,rfl,rfl⟩
 refine go ?_
 by_cases hz:re=0
 case neg =>
  refine aQ 39 ((.bool true)) rfl ((congrArg Value.bool (decide_eq_true hz))) (go ?_)
  refine ai (ak.pick [2,3] rfl) ?_
  refine ai (ak.join _ _ _) ?_
  refine ad hE Tryz.func144 zr zr (.inl ⟨hz,rfl,rfl⟩)
 subst hz
 have ags:=h65 rfl
 refine cU 0 rfl ?_
 rintro wa wc rfl
 refine go ?_
 refine dA rfl bq ?_
 intro bm
 refine aR (ak.fold (B:=[_]) (A:=au (Value.int .i64) bm (BE [])) (fun h hs=>⟨h,sub.refl h,eX (Value.int .i64) bm h (cT hs)⟩)) ?_
 refine aR (ak.pick [3,0,1,2] rfl) (go ?_)
 refine bj (fun i:Nat=>i≤rl.length) (fun i=>rl.length-i) (fun i=>[(0,ptr b),(8,.slice wa rl.length wc),(56,.slice wa rl.length wc),(57,.int .i64 rl.length),(58,.int .i64 (i:Int))]) (fun i=>ag b (cl [.int .i64 s,.int .i64 e,.int .i64 (r+1),.int .i64 rt,.map (some bm)] 241)::au (Value.int .i64) bm (BE (rl.take i))::aH 3 1 (.slice wa rl.length wc) rl.length (iV rl)::A::F) 0 (Nat.zero_le _) rfl bO ah ?_
 rintro i hi ih
 refine go ?_
 refine aD zr zr ?_ ?_
 ·intro cB
  have dP:i<rl.length:=by omega
  obtain⟨x,hx⟩:∃x,rl[i]?=some x:=⟨rl[i],by simp[dP]⟩
  refine jP 2 rfl aj ?_
  intro ob oo ooc he Pj CN IY
  simp only[Value.slice.injEq,true_and]at he
  obtain⟨rfl,rfl⟩:=he
  refine go ?_
  refine bD i zr zr zr zr zr zr zr zr dP ?_
  refine aP 2 i zr zr zr IY rfl (jK hx) zr zr (go ?_)
  refine du (key:=x) 1 hki fE zr zr zr zr zr zr zr zr ?_
  rw[← ux,show rl.take i++[x]=rl.take (i+1)from by rw[List.take_add_one,hx];rfl]
  refine go ?_
  refine aK ih (i+1) rfl aj aj bO ah
 intro eN
 have k9:i=rl.length:=by omega
 subst k9
 rw[List.take_length]
 refine go ?_
 refine ai (ak.join _ _ _) ?_
 refine ad hE Tryz.func144 zr zr (.inr ⟨rfl,_,bm,rfl,rfl⟩)
end Go.Proofs.YtjpboghdolfekaaGreatDoor
namespace Go.SL
section
variable{P:Program}{U:Tr}[hU:eO P U]{f:FuncId}{n:Nat}{R:Ending→World→Prop}{G:cg}{k:List Item}{L:eC}{H H':List HP}{S:World→Prop}{all:Array Oper}{rest:Pl}{ty:TypeId}{pos:String}{af:Array Edge}{gd:Option (Nat × Bool)}
variable{κ:Type}[DecidableEq κ]{kv:κ→Value}
def xq{t kt et:TypeId}{bL:Ty}{x:Operand}{b:Nat}{es:List (κ × Value)}(i:Nat)(hS:∀w,Sat G w H'→Sx rest S w)(hx:ev L x=some (.map (some b)))(ht:U.get t=some bL)(hu:bL.fe = .map kt et)(hi:bU H i=some (au kv b es))(hp:jI i (au kv b ([]:List (κ × Value))) H [] = .mk H')(h:J P f n R G S all rest k L H'):J P f n R G S all (.cons false true ⟨none,.call { callee := .builtin .clear,args := #[x],argTypes := #[t] },ty,pos,af,gd⟩ rest) k L H:=by
 intro a w ha hw _
 obtain⟨o,hm,hb⟩:=hw.jt hi
 obtain⟨entries,clock,rfl,lC,iJ,oM,He⟩:=hm
 have jL:∀o',(setObj b o').run P w = .ok () { w with heap:=w.heap.setIfInBounds b o' }:=fun o'=>by simp[setObj,Sem.run,hb]
 have hs:=hw.vq hi (o' := .map #[] clock) (es':=[]) ⟨#[],clock,rfl,rfl,by simp,by simp,by simp⟩ hp
 refine .inl ⟨.inl rfl,.inr ⟨rfl,?_⟩⟩
 have:(execOp a.eval ⟨none,.call { callee := .builtin .clear,args := #[x],argTypes := #[t] },ty,pos,af,gd⟩).run P w = .ok (.value (.tuple #[])) { w with heap:=w.heap.setIfInBounds b (.map #[] clock) }:=by
  simp only[execOp,resolve,invoke,builtin,Sem.run_bind,Sem.run_pure,Result.andThen_ok,List.map_toArray,List.map_cons,List.map_nil,ha.ev hx,Builtin.clear_,List.getElem?_toArray,List.getElem?_cons_zero,
   run_underlying ht,hu,run_getObj_map hb,jL]
 exact fM this ⟨hS _ hs,h a _ ha hs (hS _ hs)⟩
end
end Go.SL
namespace Go.Proofs.YtjpboghdolfekaaGreatDoor
open Go Go.SL
def gE(g:List Int):List (Int × Value):=g.map fun k=>(k,Value.agg #[Value.int .i64 0,Value.bool true])
def PG(g:List Int):(gE g).map (·.1)=g:=by
 unfold gE
 rw[List.map_map]
 exact List.map_id g
def aaI(g:List Int):(gE g).length=g.length:=List.length_map _
def PF(g:List Int)(k:Int):cF (gE g) k=if k∈g then some (Value.agg #[Value.int .i64 0,Value.bool true])else none:=by
 induction g with
 | nil=>rw[if_neg (fun h=>by cases h)];rfl
 | cons x g ih =>
  by_cases h:x=k
  ·subst h
   rw[if_pos (List.mem_cons_self ..)]
   unfold cF gE
   simp only[List.map_cons,List.find?_cons,decide_true,Option.map_some]
  ·have he:cF (gE (x::g)) k=cF (gE g) k:=by
    unfold cF gE
    simp only[List.map_cons,List.find?_cons,h,decide_false]
   rw[he,ih]
   by_cases hk:k∈g
   ·rw[if_pos hk,if_pos (List.mem_cons_of_mem _ hk)]
   ·rw[if_neg hk,if_neg (fun hm=>by
     rcases List.mem_cons.1 hm with e|e
     ·exact h e.symm
     ·exact hk e)]
structure Wl where
 t:Int
 mo:Option Nat
 may:List Int
def pX(hb:Nat)(s r:Int):HP:=fun h=>∃y:Wl,(i64 y.t∧(y.mo=none→y.may=[]))∧Sep [wh hb s 3 r y.t y.mo y.may] h
def KF(hb:Nat)(s r:Int):∀h,pX hb s r h→∃y:Wl,(i64 y.t∧(y.mo=none→y.may=[]))∧Sep [wh hb s 3 r y.t y.mo y.may] h:=fun h hs=>hs
def sd(hb:Nat)(s r t:Int)(mo:Option Nat)(may:List Int)(ht:i64 t)(hm:mo=none→may=[])(H:List HP):ak (wh hb s 3 r t mo may::H) (pX hb s r::H) :=
 ak.fold (A:=pX hb s r) (B:=[_]) fun h hs=>⟨h,sub.refl h,⟨t,mo,may⟩,⟨ht,hm⟩,hs⟩
def OJ{l:List Rt}{u:Wt}(h:u∈fu l):∃x∈l,x.id=u.id:=by
 unfold fu og at h
 rw[List.mem_mergeSort]at h
 obtain⟨x,hx,rfl⟩:=List.mem_map.1 h
 exact⟨x,(List.mem_filter.1 hx).1,rfl⟩
def C7{l:List Rt}{s t:Int}{turn:Bool}{seed:Int}(ht:i64 t)(hl:∀x∈l,i64 x.id):i64 (cS l s t turn seed).2.1:=by
 have hz:i64 0:=by decide
 have ho:∀z∈ie l s,i64 z:=fun z h=>by
  unfold ie at h
  obtain⟨u,hu,rfl⟩:=List.mem_map.1 ((show(gY _).Perm _ from List.mergeSort_perm _ _).mem_iff.1 h)
  obtain⟨x,hx,he⟩:=OJ (List.mem_of_mem_drop hu)
  exact he ▸ hl x hx
 unfold cS
 split
 ·exact hz
 split
 ·exact hz
 split
 ·exact hz
 show i64 (lP (ie l s) t turn seed)
 unfold lP
 split
 ·rw[List.getD_eq_getElem?_getD]
  cases hx:(ie l s)[Hl seed (ie l s).length]? with
  | none=>exact hz
  | some z=>exact ho z (List.mem_of_getElem? hx)
 ·exact ht
attribute [local irreducible] J K aw Ends ag aH au bE aW aJ a6 aZ bI aG l8 bX mM pX wh cD
section
variable(nb nB dB sB iB bd:Nat)(id:Int)(S:FW)(hS:Nt S)(v1 v2 v3 v4 v5 pv:Value)(ms mg:Nat)(br:Bool)
include hS
def EO:aw Tryz.prog 73 [ptr sB,ptr nB] [ag nB (cl [ptr nb] 65),ag nb (cl (Bh id S v1 v2 v3 v4 v5 pv ms mg br) 131),ag sB (cl (xC S) 30)]
  (fun r H=>∃hb,r = .int .i64 0∧H=[ag nB (cl [ptr nb] 65),ag nb (cl (Bh id S v1 v2 v3 v4 (ptr hb) pv ms mg br) 131),ag sB (cl (xC S) 30),wh hb S.bJ 3 0 0 none [] ]):=by
 have h1:=hS.bJ
 have h0:Ag S.bJ 3=0:=by unfold Ag;rw[if_neg aj]
 have hc:aw Tryz.prog 74 [.int .i64 S.bJ,.int .i64 3] [] (fun r H=>∃b,r = .tuple #[ptr b,.int .i64 0]∧H=[wh b S.bJ 3 0 0 none [] ]):=aw.post (M6 S.bJ 3) fun v H h=>by
  rcases h with⟨h,_⟩|⟨_,b,h1,h2⟩
  ·exact absurd (h0.symm.trans h) (by decide)
  ·exact⟨b,h1,h2⟩
 refine aw.ao Tryz.func73 Tryz.ntmps73 fun G F R hE=>?_
 refine go ?_
 refine aO (fun w=>Sat G w ([ag nB (cl [ptr nb] 65),ag sB (cl (xC S) 30)])) (cM 0 3 (.act 3 (cM 4 5 (.act 9 (.st 10 .nil))))) rfl ae ae ae dv ?_
 refine go ?_
 ((refine dM zr zr zr zr (hc) ah ?_ (fun _ _ w hp hw=>by obtain⟨_,rfl,rfl⟩:=hp;exact hw.cp ah)))
 rintro _ _⟨hb,rfl,rfl⟩
 refine go ?_
 (refine aX ?_;(refine bG 2 dv zr zr zr zr zr zr zr zr zr ?_))
 refine go ?_
 refine ad hE Tryz.func73 zr zr ⟨hb,rfl,rfl⟩
end
end Go.Proofs.YtjpboghdolfekaaGreatDoor
namespace Go.Proofs.YtjpboghdolfekaaGreatDoor
open Go Go.SL
attribute [local irreducible] J K aw Ends ag aH au bE aW aJ a6 aZ bI aG l8 bX mM pX wh cD
def FP(X:HP)(hK:lL X)(bd:Nat)(q:Int)(hq:1≤q∧q≤1073741824)(A:Ab)(hA:QS A):aw Tryz.prog 66 [ptr bd,.int .i64 q] [aG bd A,X]
  (fun r H=>∃bs mb,pU A 0 A∧r = .tuple #[ptr bs,.int .i64 0]∧H=[ag bs (cl (dR bd q mb false) 209),au dV mb (eB []),aG bd A,X]):=by
 refine aw.post (JX X hK bd q A (by rw[hA.st];show 1≤_;omega)) fun v H h=>?_
 rcases h with⟨h,_⟩|⟨_,h,_⟩|⟨_,_,e,B,ho,hc⟩
 ·exfalso;omega
 ·rw[hA.ha.on]at h;cases h
 obtain⟨rfl,rfl⟩:=hA.open ho
 rcases hc with⟨h,_⟩|⟨_,_,bs,mb,h1,h2⟩
 ·exact absurd rfl h
 ·exact⟨bs,mb,ho,h1,h2⟩
def EG(X:HP)(hK:lL X)(bs bd:Nat)(q:Int)(hq:1≤q∧q≤1073741824)(mb:Nat)(A:Ab)(hA:QS A)(ho:pU A 0 A):aw Tryz.prog 68 [ptr bd,ptr bs] [ag bs (cl (dR bd q mb false) 209),au dV mb (eB []),aG bd A,X]
  (fun r H=>∃(t:SJ) (tb jb:Nat) (tv:Value),(QD t∧QS t.1.A)∧r = .tuple #[ptr tb,.int .i64 0]∧H=kC tb bs jb tv [] false++[l8 bs bd jb q mb [] t,X]):=by
 refine aw.post (JY X hK bs bd q ⟨aj,hq.2⟩ mb ⟨A,[],false⟩ ⟨by simp,by simp⟩ (by simp) (by show A.aI.length≤_;rw[hA.st];show 1≤_;omega) (by show A.writes.length≤_;rw[hA.wr];show 0≤_;omega) (by show(kM A kZ).length≤_;rw[hA.file];show 0≤_;omega) (by show ∀x∈kM A kZ,_;rw[hA.file];simp) (by show((kM A kZ).foldl fI []).length≤_;rw[hA.file];show 0≤_;omega)) fun v H h=>?_
 obtain⟨e,t,jn,cs,hO,hc⟩:=h
 obtain⟨rfl,rfl,hq1,hq2⟩:=hA.again (t:=(t,jn)) (⟨0,A,ho,by rw[if_neg aj];exact⟨t,jn,hO,rfl⟩⟩:Q7 q A e (t,jn) cs)
 rcases hc with⟨h,_⟩|⟨_,tb,jb,tv,ts,xV,h1,h2⟩
 ·exact absurd rfl h
 ·have:=PY xV
  subst this
  exact⟨(t,jn),tb,jb,tv,⟨hq1,hq2⟩,h1,h2⟩
section
variable(nb nB dB sB iB bd:Nat)(id:Int)(S:FW)(hS:Nt S)(v1 v2 v3 v4 v5 pv:Value)(ms mg:Nat)(br:Bool)
include hS
def Cb(X:HP)(hK:lL X)(A:Ab)(hA:QS A):aw Tryz.prog 65 [ptr dB,ptr sB,ptr nB] [ag nB (cl [ptr nb] 65),ag nb (cl (Bh id S v1 v2 v3 v4 v5 pv ms mg br) 131),ag sB (cl (xC S) 30),ag dB (cl [ptr bd] 62),aG bd A,X]
  (fun r H=>∃bs mb,pU A 0 A∧r = .int .i64 0∧H=[ag nB (cl [ptr nb] 65),ag nb (cl (Bh id S (ptr bs) v2 v3 v4 v5 pv ms mg br) 131),ag sB (cl (xC S) 30),ag dB (cl [ptr bd] 62),ag bs (cl (dR bd S.gi mb false) 209),au dV mb (eB []),aG bd A,X]):=by
 have hc:=FP X hK bd S.gi hS.q A hA
 refine aw.ao Tryz.func65 Tryz.ntmps65 fun G F R hE=>?_
 refine go ?_
 refine aO (fun w=>Sat G w ([ag nB (cl [ptr nb] 65),ag sB (cl (xC S) 30),ag dB (cl [ptr bd] 62)])) (cM 0 4 (.act 4 (cM 5 5 (.act 10 (.st 11 .nil))))) rfl ae ae ae dv ?_
 refine go ?_
 refine cP hc ?_
 rintro _ _⟨bs,mb,ho,rfl,rfl⟩
 refine aR (H':=ag nB (cl [ptr nb] 65)::ag nb (cl (Bh id S v1 v2 v3 v4 v5 pv ms mg br) 131)::ag sB (cl (xC S) 30)::ag dB (cl [ptr bd] 62)::ag bs (cl (dR bd S.gi mb false) 209)::au dV mb (eB [])::aG bd A::X::F) ah (go ?_)
 (refine aX ?_;(refine bG 1 dv zr zr zr zr zr zr zr zr zr ?_))
 refine go ?_
 refine ad hE Tryz.func65 zr zr ⟨bs,mb,ho,rfl,rfl⟩
def Ca(X:HP)(hK:lL X)(A:Ab)(hA:QS A)(ho:pU A 0 A)(bs mb:Nat):aw Tryz.prog 67 [ptr dB,ptr nB] [ag nB (cl [ptr nb] 65),ag nb (cl (Bh id S (ptr bs) v2 v3 v4 v5 pv ms mg br) 131),ag dB (cl [ptr bd] 62),ag bs (cl (dR bd S.gi mb false) 209),au dV mb (eB []),aG bd A,X]
  (fun r H=>∃(t:SJ) (tb jb:Nat) (tv:Value),(QD t∧QS t.1.A)∧r = .int .i64 0∧H=ag nB (cl [ptr nb] 65)::ag nb (cl (Bh id S (ptr bs) (ptr tb) v3 v4 v5 pv ms mg br) 131)::ag dB (cl [ptr bd] 62)::l8 bs bd jb S.gi mb [] t::X::kC tb bs jb tv [] false):=by
 have hc:=EG X hK bs bd S.gi hS.q mb A hA ho
 unfold kC at hc ⊢
 refine aw.ao Tryz.func67 Tryz.ntmps67 fun G F R hE=>?_
 refine go ?_
 refine aO (fun w=>Sat G w ([ag nB (cl [ptr nb] 65),ag dB (cl [ptr bd] 62)])) (cM 0 5 (.act 5 (.act 6 (cM 7 5 (.act 12 (.st 13 .nil)))))) rfl ae ae ae dv ?_
 refine go ?_
 refine cP hc ?_
 rintro _ _⟨t,tb,jb,tv,hq,rfl,rfl⟩
 refine aR (H':=ag nB (cl [ptr nb] 65)::ag nb (cl (Bh id S (ptr bs) v2 v3 v4 v5 pv ms mg br) 131)::ag dB (cl [ptr bd] 62)::l8 bs bd jb S.gi mb [] t::X::ag tb (cl [ptr bs,ptr jb,tv,.bool false] 216)::aH 217 1 tv ([]:List Tk).length (([]:List Tk).map gn)::cD []::F) ah (go ?_)
 (refine aX ?_;(refine bG 1 dv zr zr zr zr zr zr zr zr zr ?_))
 refine go ?_
 refine ad hE Tryz.func67 zr zr ⟨t,tb,jb,tv,hq,rfl,rfl⟩
end
def F5(X:HP)(hK:lL X)(bd:Nat)(id:Int)(S:FW)(hS:Nt S)(hi:1≤id∧id≤65536)(A:Ab)(hA:QS A) :
  aw Tryz.prog 39 [.int .i64 id,ptr bd,.agg (xC S).toArray] [aG bd A,X]
  (fun r H=>∃(nb st tb bv kb hb ms mg jb mb:Nat) (tv:Value) (t:SJ),(QD t∧QS t.1.A)∧r = .tuple #[ptr nb,.int .i64 0] ∧
   H=ag nb (cl (mK id S st tb bv kb hb (.slice none 0 0) ms mg false) 131)::au dV ms []::bX bv ⟨⟨id,0,1,0⟩,S.cN,[]⟩::au (Value.int .i64) mg []::mM kb S.lim S.jG S.cN::wh hb S.bJ 3 0 0 none []::l8 st bd jb S.gi mb [] t::X::kC tb st jb tv [] false):=by
 refine aw.ao Tryz.func39 Tryz.ntmps39 fun G F R hE=>?_
 refine aN rfl ?_
 refine bC zr zr bq ?_
 intro iB
 refine bC zr zr bq ?_
 intro dB
 refine bC zr zr bq ?_
 intro sB
 refine go ?_
 refine aF (tw id 1 65536) ?_
 rw[lX hi]
 refine go ?_
 refine aV (U:=aY) (l:=xC S) 0 zr zr zr zr zr zr (go ?_)
 refine dA rfl bq ?_
 intro ms
 refine aR (ak.fold (B:=[_]) (A:=au dV ms []) (fun h hs=>⟨h,sub.refl h,eX dV ms h (cT hs)⟩)) ?_
 refine go ?_
 refine dA rfl bq ?_
 intro mg
 refine aR (ak.fold (B:=[_]) (A:=au (Value.int .i64) mg []) (fun h hs=>⟨h,sub.refl h,eX (Value.int .i64) mg h (cT hs)⟩)) ?_
 refine go ?_
 refine bC zr zr bq ?_
 intro nb
 refine go ?_
 refine aB zr zr zr bq ?_
 intro nB
 refine go ?_
 refine qp (U:=aY) zr zr zr zr zr zr (go ?_)
 refine aB zr zr zr bq ?_
 intro b9
 refine go ?_
 refine aV (U:=aY) (l:=[.func (.func 65) #[] #[ptr dB,ptr sB,ptr nB],.func (.func 67) #[] #[ptr dB,ptr nB],.func (.func 69) #[] #[ptr iB,ptr sB,ptr nB],.func (.func 71) #[] #[ptr sB,ptr nB],.func (.func 73) #[] #[ptr sB,ptr nB],.func (.func 75) #[] #[ptr nB] ]) 0 zr zr zr zr zr zr (go ?_)
 refine ik rfl (go ?_)
 refine e7 zr zr zr zr zr zr zr zr (by simp) (by simp) rfl (go ?_)
 refine il zr zr zr zr (Cb nb nB dB sB bd id S hS (.pointer none) (.pointer none) (.pointer none) (.pointer none) (.pointer none) (.slice none 0 0) ms mg false X hK A hA) ah ?_ iM
 rintro _ _⟨st,mb,ho,rfl,rfl⟩
 refine go ?_
 refine kW rfl (go ?_)
 refine e7 zr zr zr zr zr zr zr zr (by simp) (by simp) rfl (go ?_)
 refine il zr zr zr zr (Ca nb nB dB bd id S hS (.pointer none) (.pointer none) (.pointer none) (.pointer none) (.slice none 0 0) ms mg false X hK A hA ho st mb) ah ?_ iM
 rintro _ _⟨t,tb,jb,tv,hq,rfl,rfl⟩
 unfold kC
 refine aR (H':=ag nB (cl [ptr nb] 65)::ag nb (cl (Bh id S (ptr st) (ptr tb) (.pointer none) (.pointer none) (.pointer none) (.slice none 0 0) ms mg false) 131)::ag sB (cl (xC S) 30)::ag iB (cl [.int .i64 id] 3)::au dV ms []::au (Value.int .i64) mg []::l8 st bd jb S.gi mb [] t::X::ag tb (cl [ptr st,ptr jb,tv,.bool false] 216)::aH 217 1 tv ([]:List Tk).length (([]:List Tk).map gn)::cD []::F) ah (go ?_)
 refine kW rfl (go ?_)
 refine e7 zr zr zr zr zr zr zr zr (by simp) (by simp) rfl (go ?_)
 refine il zr zr zr zr (ER nb nB sB iB id S hS (ptr st) (ptr tb) (.pointer none) (.pointer none) (.pointer none) (.slice none 0 0) ms mg false hi) ah ?_ iM
 rintro _ _⟨bv,rfl,rfl⟩
 refine go ?_
 refine kW rfl (go ?_)
 refine e7 zr zr zr zr zr zr zr zr (by simp) (by simp) rfl (go ?_)
 refine il zr zr zr zr (EP nb nB sB id S hS (ptr st) (ptr tb) (ptr bv) (.pointer none) (.pointer none) (.slice none 0 0) ms mg false) ah ?_ iM
 rintro _ _⟨kb,rfl,rfl⟩
 refine go ?_
 refine kW rfl (go ?_)
 refine e7 zr zr zr zr zr zr zr zr (by simp) (by simp) rfl (go ?_)
 refine il zr zr zr zr (EO nb nB sB id S hS (ptr st) (ptr tb) (ptr bv) (ptr kb) (.pointer none) (.slice none 0 0) ms mg false) ah ?_ iM
 rintro _ _⟨hb,rfl,rfl⟩
 refine go ?_
 refine kW rfl (go ?_)
 refine e7 zr zr zr zr zr zr zr zr (by simp) (by simp) rfl (go ?_)
 refine il zr zr zr zr (EN nb nB id S hS (ptr st) (ptr tb) (ptr bv) (ptr kb) (ptr hb) (.slice none 0 0) ms mg false) ah ?_ iM
 rintro _ _⟨rfl,rfl⟩
 refine go ?_
 refine kW rfl (go ?_)
 refine ai (H':=ag nb (cl (mK id S st tb bv kb hb (.slice none 0 0) ms mg false) 131)::au dV ms []::bX bv ⟨⟨id,0,1,0⟩,S.cN,[]⟩::au (Value.int .i64) mg []::mM kb S.lim S.jG S.cN::wh hb S.bJ 3 0 0 none []::l8 st bd jb S.gi mb [] t::X::ag tb (cl [ptr st,ptr jb,tv,.bool false] 216)::aH 217 1 tv ([]:List Tk).length (([]:List Tk).map gn)::cD []::F) ah ?_
 refine ad hE Tryz.func39 zr zr ⟨nb,st,tb,bv,kb,hb,ms,mg,jb,mb,tv,t,hq,rfl,rfl⟩
end Go.Proofs.YtjpboghdolfekaaGreatDoor
namespace Go.SL
def aw.opens{P:Program}{f:FuncId}{args:List Value}{α:Type}{A:HP}{B:α→List HP}{q:α→Prop}{Pre:List HP}{Post:Value→List HP→Prop}(hA:∀h,A h→∃x,q x∧Sep (B x) h)(hc:P.funcs[f]?.map hG=some true)(c:∀x,q x→aw P f args (B x++Pre) Post):aw P f args (A::Pre) Post :=
  ⟨hc,fun G w F hw=>by
    obtain⟨t,o,u,hp,yV,h1,h2,xF,hH,hd,he⟩:=hw
    obtain⟨x,hx,hB⟩:=hA _ xF
    refine(c x hx).2 G w F ⟨t,o,u,hp,yV,?_⟩
    rw[List.append_assoc]
    exact gF ⟨h1,h2,hB,hH,hd,he⟩⟩
end Go.SL
namespace Go.Proofs.YtjpboghdolfekaaGreatDoor
open Go Go.SL
def mvN:MV:=⟨.slice none 0 0,.slice none 0 0,.slice none 0 0,.slice none 0 0⟩
attribute [local irreducible] J K aw Ends ag aH au bE aW aJ a6 aZ bI
def Ci(k:Int)(d:Dg):aw Tryz.prog 146 [.int .i64 k,dV d] [] (fun r H=>r = .agg (mC mvN { ND.zero with kind:=k,hash:=d }).toArray∧H=[]):=by
 unfold dV
 refine aw.ao Tryz.func146 Tryz.ntmps146 fun G F R hE=>?_
 refine aN rfl ?_
 refine bC zr zr bq ?_
 intro b3
 refine aB zr zr zr bq ?_
 intro b4
 refine go ?_
 refine aV (U:=aY) (l:=dC d) 1 zr zr zr zr zr zr (go ?_)
 (refine bh hE ?_;apply a7 (U:=aY) hE Tryz.func146 rfl (ak.refl _);(repeat(first|exact aT.nil|apply aT.agg 0 zr zr zr zr zr));exact⟨rfl,rfl⟩;exact ah)
section
variable(nb:Nat)(id:Int)(S:FW)(st tb bv kb hb ms mg:Nat)(pv:Value)(br:Bool)
def MZ(now:Int):aw Tryz.prog 145 [ptr nb,.int .i64 (-1),.int .i64 now] [ag nb (cl (mK id S st tb bv kb hb pv ms mg br) 131)] (fun r H=>r = .bool true∧H=[ag nb (cl (mK id S st tb bv kb hb pv ms mg br) 131)]):=by
 refine aw.ao Tryz.func145 Tryz.ntmps145 fun G F R hE=>?_
 refine go ?_
 refine ad hE Tryz.func145 zr zr ⟨rfl,rfl⟩
end
end Go.Proofs.YtjpboghdolfekaaGreatDoor
namespace Go.Proofs.YtjpboghdolfekaaGreatDoor
open Go Go.SL
attribute [local irreducible] J K aw Ends ag aH au bE aW aJ a6 aZ bI aG l8 bX mM
section
variable(nb:Nat)(id:Int)(S:FW)(st tb bv kb hb ms mg:Nat)(pv:Value)(br:Bool)
def D3(bd:Nat)(q:Int)(mb:Nat)(bk:Bool)(A:Ab)(d:Dg)(tJ:iy A d=none):aw Tryz.prog 99 [ptr nb,dV d] [ag nb (cl (mK id S st tb bv kb hb pv ms mg br) 131),ag st (cl (dR bd q mb bk) 209),aG bd A]
  (fun r H=>r = .bool false∧H=[ag nb (cl (mK id S st tb bv kb hb pv ms mg br) 131),ag st (cl (dR bd q mb bk) 209),aG bd A]):=by
 have hi:=qq st bd q mb bk A d
 rw[tJ]at hi
 unfold dV Kp at hi
 unfold dV
 refine aw.ao Tryz.func99 Tryz.ntmps99 fun G F R hE=>?_
 refine aN rfl ?_
 refine bC zr zr bq ?_
 intro b3
 refine go ?_
 refine aO (fun w=>Sat G w ([ag nb (cl (mK id S st tb bv kb hb pv ms mg br) 131),ag b3 (cl (dC d) 35)])) (cM 0 5 (.fork (.act 5 (cM 6 3 (.act 9 (.act 10 (.st 11 .nil))))) (.act 9 (.act 5 (cM 6 3 (.act 10 (.st 11 .nil))))))) rfl ae ae ae dv ?_
 refine go ?_
 refine cm (U:=aY) (l:=dC d) 1 zr zr zr zr zr zr (go ?_)
 refine nL ?_ ?_
 ·((refine dM zr zr zr zr (hi) ah ?_ (fun _ _ w hp hw=>by obtain⟨_,rfl,rfl⟩:=hp;exact hw.cp ah)))
  rintro _ _⟨rv,rfl,rfl⟩
  refine aM 0 rfl ?_
  rintro ra rc rfl
  refine go ?_
  refine aB zr zr zr (fun _ _ hw=>hw.cp ah) ?_
  intro b5
  refine go ?_
  (refine aX ?_;(refine bG 0 dv zr zr zr zr zr zr zr zr zr ?_))
  refine go ?_
  refine ad hE Tryz.func99 zr zr ⟨rfl,rfl⟩
 ·refine aB zr zr zr (fun _ _ hw=>hw.cp ah) ?_
  intro b5
  refine go ?_
  ((refine dM zr zr zr zr (hi) ah ?_ (fun _ _ w hp hw=>by obtain⟨_,rfl,rfl⟩:=hp;exact hw.cp ah)))
  rintro _ _⟨rv,rfl,rfl⟩
  refine aM 0 rfl ?_
  rintro ra rc rfl
  refine go ?_
  (refine aX ?_;(refine bG 3 dv zr zr zr zr zr zr zr zr zr ?_))
  refine go ?_
  refine ad hE Tryz.func99 zr zr ⟨rfl,rfl⟩
end
end Go.Proofs.YtjpboghdolfekaaGreatDoor
namespace Go.Proofs.YtjpboghdolfekaaGreatDoor
open Go Go.SL
def Nh(d:Dg):List Value := .int .i64 0::mC mvN { ND.zero with kind:=9,hash:=d }
def GL(t:Int)(v:MV)(m:ND)(h1:v.i.oneCell'=true)(h2:v.b.oneCell'=true)(h3:v.p.oneCell'=true)(h4:v.m.oneCell'=true):∀u∈Value.int .i64 t::mC v m,u.oneCell'=true:=by
 intro u hu
 unfold mC at hu
 rcases List.mem_cons.1 hu with rfl|hu
 ·rfl
 rcases List.mem_cons.1 hu with rfl|hu
 ·rfl
 rcases List.mem_append.1 hu with hu|hu
 ·exact FB [m.hash] u (by simpa using hu)
 ·simp only[List.mem_cons,List.not_mem_nil,or_false]at hu
  rcases hu with rfl|rfl|rfl|rfl|rfl|rfl
  ·rfl
  ·exact h1
  ·exact h2
  ·exact h3
  ·exact h4
  ·rfl
def ZT(d:Dg)(at_:Int):List Value:=dC d++[.pointer none,.int .i64 at_,.int .i64 0]
structure Q8 where
 a:Option Addr
 c:Nat
 pb:Nat
 d:Dg
def plA:Option Q8→Option Addr
 | none=>none
 | some p=>p.a
def plK:Option Q8→Nat
 | none=>0
 | some p=>p.c
def plN:Option Q8→Nat
 | none=>0
 | some _=>1
def N'(op:Option Q8):Value := .slice (plA op) (plN op) (plK op)
def plH:Option Q8→HP
 | none=>emp
 | some p=>star (aH 167 1 (.slice p.a 1 p.c) 1 [ptr p.pb]) (ag p.pb (cl (ZT p.d (-1)) 204))
def plO:Option Q8→List Value
 | none=>[]
 | some p=>Nh p.d
attribute [local irreducible] J K aw Ends ag aH au bE aW aJ a6 aZ bI aG l8 bX mM cD
section
variable(nb:Nat)(id:Int)(S:FW)(st tb bv kb hb ms mg:Nat)(pv:Value)(br:Bool)
def HR(pb:Nat)(d:Dg)(now seed:Int)(bd:Nat)(q:Int)(mb:Nat)(bk:Bool)(A:Ab)(tJ:iy A d=none) :
  aw Tryz.prog 86 [ptr nb,ptr pb,.int .i64 now,.int .u64 seed] [ag nb (cl (mK id S st tb bv kb hb pv ms mg br) 131),ag pb (cl (ZT d (-1)) 204),ag st (cl (dR bd q mb bk) 209),aG bd A]
  (fun r H=>∃rb:Nat,r = .tuple #[.slice (some ⟨rb,0,none⟩) 1 1,.bool false,.int .i64 0]∧H=[ag rb (cl (Nh d) 160),ag nb (cl (mK id S st tb bv kb hb pv ms mg br) 131),ag pb (cl (ZT d now) 204),ag st (cl (dR bd q mb bk) 209),aG bd A]):=by
 have hth:=D3 nb id S st tb bv kb hb ms mg pv br bd q mb bk A d tJ
 have hmg:=Ci 9 d
 unfold dV at hth hmg
 refine aw.ao Tryz.func86 Tryz.ntmps86 fun G F R hE=>?_
 refine aN rfl ?_
 refine bC zr zr bq ?_
 intro b4
 refine go ?_
 refine aO (fun w=>Sat G w ([ag b4 (cl [ptr nb] 65),ag pb (cl (ZT d (-1)) 204)])) (cM 0 5 (.act 5 (.st 6 .nil))) rfl ae ae ae dv ?_
 refine go ?_
 refine cE (U:=aY) (cs:=dC d) 1 zr zr zr zr zr zr (go ?_)
 refine bP hth ?_
 refine go ?_
 refine aO (fun w=>Sat G w ([ag b4 (cl [ptr nb] 65),ag pb (cl (ZT d (-1)) 204)])) (cM 0 12 (.act 12 (.st 13 (.st 14 .nil)))) rfl ae ae ae dv ?_
 refine go ?_
 refine bP (MZ nb id S st tb bv kb hb ms mg pv br now) ?_
 refine aR (H':=ag pb (cl (ZT d (-1)) 204)::ag nb (cl (mK id S st tb bv kb hb pv ms mg br) 131)::ag st (cl (dR bd q mb bk) 209)::aG bd A::F) ah (go ?_)
 refine cC (cs:=dC d) 0 zr zr zr zr zr zr (go ?_)
 refine aF hmg ?_
 refine go ?_
 refine aq (cs:=Nh d) zr zr zr zr zr zr zr zr zr bq ?_
 intro rb
 refine go ?_
 refine ad hE Tryz.func86 zr zr ⟨rb,rfl,rfl⟩
def AW(bd:Nat)(q:Int)(mb:Nat)(bk:Bool)(A:Ab)(tJ:lz A=[]):aw Tryz.prog 32 [ptr nb] [ag nb (cl (mK id S st tb bv kb hb pv ms mg br) 131),ag st (cl (dR bd q mb bk) 209),aG bd A]
  (fun r H=>∃a c,r = .slice a 0 c∧H=[ag nb (cl (mK id S st tb bv kb hb pv ms mg br) 131),ag st (cl (dR bd q mb bk) 209),aG bd A]):=by
 have hi:=Gf st bd q mb bk A
 rw[tJ]at hi
 refine aw.ao Tryz.func32 Tryz.ntmps32 fun G F R hE=>?_
 refine go ?_
 refine az hi ?_
 rintro r _ rfl
 refine aM 0 rfl ?_
 rintro ra rc rfl
 refine go ?_
 refine ad hE Tryz.func32 zr zr ⟨ra,rc,rfl,rfl⟩
end
end Go.Proofs.YtjpboghdolfekaaGreatDoor
namespace Go.Proofs.YtjpboghdolfekaaGreatDoor
open Go Go.SL
def Et(l:List Int):List Rt:=l.map fun k=>⟨k,0,true⟩
def K9{l:List Int}{i:Nat}{x:Int}(h:l[i]?=some x):rV (Et (l.take i))++rC ⟨x,0,true⟩=rV (Et (l.take (i+1))):=by
 rw[List.take_add_one,h]
 simp[rV,Et]
def OC(l:List Int):(Et l).length=l.length:=List.length_map _
attribute [local irreducible] J K aw Ends ag aH au bE aW aJ a6 aZ bI aG l8 bX mM pX cS fu wh
section
variable(nb:Nat)(id:Int)(S:FW)(st tb bv kb hb ms mg:Nat)(pv:Value)(br:Bool)
def EM(g:List Int)(hgn:g.Nodup)(hgl:g.length≤64)(ML:∀k∈g,i64 k)(r seed:Int)(hr:0≤r∧r≤1000000)(hs:i64 S.bJ) :
  aw Tryz.prog 85 [ptr nb,.int .u64 seed] [ag nb (cl (mK id S st tb bv kb hb pv ms mg br) 131),au (Value.int .i64) mg (gE g),pX hb S.bJ r]
  (fun u H=>∃r':Int,u = .tuple #[]∧r≤r'∧r'≤r+1∧H=[ag nb (cl (mK id S st tb bv kb hb pv ms mg br) 131),au (Value.int .i64) mg (gE []),pX hb S.bJ r']):=by
 have hgk:=PG g
 have agk:=aaI g
 refine aw.ao Tryz.func85 Tryz.ntmps85 fun G F R hE=>?_
 refine go ?_
 refine az (Jq mg) ?_
 rintro _ _⟨bx,rfl,rfl⟩
 refine go ?_
 ((refine az (lJ 249 [ptr bx] (gE g).length [ag bx (cl [.map (some mg)] 129),au (Value.int .i64) mg (gE g)] [au (Value.int .i64) mg (gE g)] (fun xs=>xs.Perm ((gE g).map (·.1))) aj (Fo bx mg (gE g) (by rw[hgk];exact hgn)) (fun xs hx=>by rw[hx.length_eq,List.length_map];omega)) ?_))
 rintro w _⟨xs,Bi,rfl⟩
 rw[hgk]at Bi
 obtain⟨L,hL⟩:∃L,L=gY xs:=⟨_,rfl⟩
 have hLl:xs.length=L.length:=by rw[hL,fp]
 have Cu:=Bi.length_eq
 have hLg:∀x∈L,x∈g:=fun x hx=>Bi.mem_iff.1 ((show(gY xs).Perm xs from List.mergeSort_perm _ _).mem_iff.1 (hL ▸ hx))
 rw[← hL,hLl]
 refine aM 0 rfl ?_
 rintro wa wc rfl
 refine go ?_
 refine bj (fun y:Nat × Option Addr × Nat=>y.1≤L.length) (fun y=>L.length-y.1)
  (fun y=>[(0,ptr nb),(1,.int .u64 seed),(4,.slice y.2.1 y.1 y.2.2),(13,.slice wa L.length wc),(14,.int .i64 (L.length:Int)),(15,.int .i64 (y.1:Int))])
  (fun y=>aH 278 3 (.slice y.2.1 y.1 y.2.2) y.1 (rV (Et (L.take y.1)))::ag nb (cl (mK id S st tb bv kb hb pv ms mg br) 131)::au (Value.int .i64) mg (gE g)::aH 3 1 (.slice wa L.length wc) L.length (iV L)::pX hb S.bJ r::F) (0,none,0) (Nat.zero_le _) rfl bO (ak.trans (bp 278 3 none _) ah) ?_
 rintro⟨i,ra,rc⟩ hi ih
 simp only at hi
 refine go ?_
 refine aD zr zr ?_ ?_
 case' refine_2 =>
  intro eN
  simp only at eN
  have hiL:i=L.length:=by omega
  subst hiL
  simp only[List.take_length]
  refine ai (H':=pX hb S.bJ r::aH 278 3 (.slice ra L.length rc) L.length (rV (Et L))::ag nb (cl (mK id S st tb bv kb hb pv ms mg br) 131)::au (Value.int .i64) mg (gE g)::F) ah ?_
  refine cG (KF hb S.bJ r) ?_
  rintro⟨t,mo,may⟩⟨ht,hm⟩
  simp only at ht hm ⊢
  refine dz 1 rfl ?_
  intro hv
  have E8:(Et L).length=L.length:=OC L
  have hci:=C7 (l:=Et L) (s:=S.bJ) (t:=t) (turn:=decide (r%3=0)) (seed:=seed) ht (fun x hx=>by
   obtain⟨k,hk,rfl⟩:=List.mem_map.1 hx
   exact ML k (hLg k hk))
  have qX:Vw (aH 278 3 (.slice ra L.length rc) L.length (rV (Et L))) (.slice ra L.length rc) (Et L).length (rV (Et L)):=by rw[E8];exact hv
  have I1:=JP _ (.slice ra L.length rc) (Et L) hb S.bJ 3 r t seed mo may qX aj hs ht aj aj
  refine go ?_
  refine az I1 ?_
  rintro _ _ (⟨gf,rfl,rfl⟩|⟨h0,w',bm,rfl,rfl⟩)
  ·refine aR (H':=pX hb S.bJ r::au (Value.int .i64) mg (gE g)::ag nb (cl (mK id S st tb bv kb hb pv ms mg br) 131)::F) (ak.trans (H2:=wh hb S.bJ 3 r t mo may::au (Value.int .i64) mg (gE g)::ag nb (cl (mK id S st tb bv kb hb pv ms mg br) 131)::F) ah (sd hb S.bJ r t mo may ht hm _)) (go ?_)
   refine xq (U:=aY) (kv:=Value.int .i64) (es:=gE g) 1 fE zr zr zr zr zr (go ?_)
   refine bB hE Tryz.func85 rfl _ rfl ⟨r,rfl,aj,aj,rfl⟩ ah
  ·refine aR (H':=pX hb S.bJ (r+1)::au (Value.int .i64) mg (gE g)::ag nb (cl (mK id S st tb bv kb hb pv ms mg br) 131)::F) (ak.trans (H2:=wh hb S.bJ 3 (r+1) (cS (Et L) S.bJ t (decide (r%3=0)) seed).2.1 (some bm) (cS (Et L) S.bJ t (decide (r%3=0)) seed).1::au (Value.int .i64) mg (gE g)::ag nb (cl (mK id S st tb bv kb hb pv ms mg br) 131)::F) ah (sd hb S.bJ (r+1) _ (some bm) _ hci (fun h=>by cases h) _)) ?_
   refine go ?_
   refine xq (U:=aY) (kv:=Value.int .i64) (es:=gE g) 1 fE zr zr zr zr zr (go ?_)
   refine bB hE Tryz.func85 rfl _ rfl ⟨r+1,rfl,aj,aj,rfl⟩ ah
 intro cB
 simp only at cB
 have dP:i<L.length:=by omega
 obtain⟨x,hx⟩:∃x,L[i]?=some x:=⟨L[i],by simp⟩
 have hxg:=hLg x (List.mem_of_getElem? hx)
 have l6:=K9 hx
 have CE:=PF g x
 rw[if_pos hxg]at CE
 refine jP 3 rfl aj ?_
 intro ob oo ooc he Pj CN IY
 simp only[Value.slice.injEq,true_and]at he
 obtain⟨rfl,rfl⟩:=he
 refine go ?_
 refine bD i zr zr zr zr zr zr zr zr dP ?_
 refine aP 3 i zr zr zr IY rfl (jK hx) zr zr (go ?_)
 refine kX (es:=gE g) (key:=x) 2 rfl lx zr zr zr zr zr zr zr zr ?_
 rw[CE]
 simp only[Option.getD_some]
 refine go ?_
 refine aB zr zr zr bq ?_
 intro b7
 refine go ?_
 refine aq (cs:=rC ⟨x,0,true⟩) zr zr zr zr zr zr zr zr zr bq ?_
 intro row
 refine go ?_
 refine aR (H':=ag row (cl (rC ⟨x,0,true⟩) 278)::aH 278 3 (.slice ra i rc) i (rV (Et (L.take i)))::ag nb (cl (mK id S st tb bv kb hb pv ms mg br) 131)::au (Value.int .i64) mg (gE g)::aH 3 1 (.slice (some ⟨ob,oo,none⟩) L.length wc) L.length (iV L)::pX hb S.bJ r::F) ah ?_
 refine aU (mm:=1) (news:=rC ⟨x,0,true⟩) 1 0 rfl rfl rfl rfl rfl rfl rfl rfl rfl rfl rfl rfl (Vw.ag rfl) rfl (by intro v hv;simp[rC]at hv;rcases hv with rfl|rfl|rfl <;> rfl) aj (by show(_+_)*24≤_;omega) (fun _=>rfl) bq ?_
 intro v1
 rw[l6]
 refine aM 1 rfl ?_
 rintro ja jc rfl
 refine go ?_
 refine aK ih (i+1,ja,jc) rfl (by simp only;omega) (by simp only;omega) bO ah
end
end Go.Proofs.YtjpboghdolfekaaGreatDoor
