import Derived.Test.YtlcoaflddajjcaaGreatDoorQNF2
import Derived.Test.YtlcoaflddajjcaaGreatDoorQNF3
import Derived.Test.YtlcoaflddajjcaaGreatDoorQNF4
import Derived.Test.YtlcoaflddajjcaaGreatDoorQNF5
import Derived.ProofKit
import Derived.Below
import Derived.OpenShut
import Derived.Deep.Slices
import Derived.DataElems
set_option linter.unusedSimpArgs false
set_option linter.unusedVariables false
set_option maxHeartbeats 1000000
set_option maxRecDepth 20000
set_option linter.defProp false
namespace Go.Proofs.YtlcoaflddajjcaaGreatDoor
open Go Go.SL
attribute [local irreducible] J K au Ends ae aB aI bB aW aS a7 aX bF Sha.chunks Sha.chunk Sha.rounds Sha.sched ej cz
def NQ(A:HP)(v:Value)(b:List UInt8)(hv:ew A v b)(hl:b.length≤900000000):au Tryz.prog 106 [v] [A] (fun r H=>r=dV (dq b)∧H=[A]):=by
 obtain⟨a,c,rfl,hc⟩:=hv.2
 refine au.ak Tryz.func106 Tryz.ntmps106 fun G F R hE=>?_
 refine aD rfl ?_
 refine az zr zr zr bh ?_
 intro b2
 refine oe ?_
 (refine aD rfl ?_;refine oe ?_)
 refine aj (cs:=[.slice a b.length c]) zr zr zr zr zr zr zr zr zr bh ?_
 intro b0
 refine aN (ao.trans (ao.pick [0,2] rfl) (ao.bK [_,_] _)) ?_
 ((refine aF (xA (Sep [ae b0 (cl [.slice a b.length c] 22),A]) 0 _ [b] (qN.row rfl rfl (fun i x hx=>by cases i with|zero=>(simp at hx;subst hx;exact⟨_,rfl,hv⟩)|succ i=>simp at hx)) (by simp[cK,kJ];omega)) ?_))
 rintro _ _⟨rfl,rfl⟩
 refine aN (ao.bY _ _) (go ?_)
 (refine a6 hE ?_;apply aZ (U:=aU) hE Tryz.func106 rfl (ao.refl _);(repeat(first|exact aR.nil|apply aR.agg 2 zr zr zr zr zr));exact⟨rfl,rfl⟩;exact ag)
def NN(l r:Dg):au Tryz.prog 217 [dV l,dV r] [] (fun x H=>x=dV (iR l r)∧H=[]):=by
 unfold dV
 refine au.ak Tryz.func217 Tryz.ntmps217 fun G F R hE=>?_
 refine aD rfl ?_
 refine bu zr zr bh ?_
 intro b2
 refine bu zr zr bh ?_
 intro b3
 refine az zr zr zr bh ?_
 intro b4
 refine go ?_
 refine aL (fun w=>Sat G w ([])) (.st 0 (.st 1 (.act 2 (.act 3 (.act 4 .nil))))) rfl ah ah ah dv ?_
 refine go ?_
 refine fW (U:=aU) zr zr zr zr zr (go ?_)
 refine fW (U:=aU) zr zr zr zr zr ?_
 refine aj (cs:=[.slice (some ⟨b2,0,none⟩) 32 32,.slice (some ⟨b3,0,none⟩) 32 32]) zr zr zr zr zr zr zr zr zr (fun _ _ hw=>hw.cu ag) ?_
 intro b0
 refine aN (ao.trans (ao.pick [3,2] rfl) (ao.trans (ao.bK [_,_] _) (ao.trans (ao.pick [1,0] rfl) (ao.bK [_,_] _)))) ?_
 have lz:qN (Sep [ae b0 (cl [.slice (some ⟨b2,0,none⟩) 32 32,.slice (some ⟨b3,0,none⟩) 32 32] 22),Sep [ae b2 (cl (dC l) 32),ae b3 (cl (dC r) 32)] ]) (.slice (some ⟨b0,0,none⟩) 2 2) [l.bs,r.bs]:=by
  refine qN.row zr zr (fun i x hx=>?_)
  match i,hx with
  | 0,hx =>
   simp at hx
   subst hx
   exact⟨_,rfl,(ew.block l.len (dW l)).mono (bn (i:=0) rfl)⟩
  | 1,hx =>
   simp at hx
   subst hx
   exact⟨_,rfl,(ew.block r.len (dW r)).mono (bn (i:=1) rfl)⟩
  | i+2,hx=>simp at hx
 have YU:=xA _ 1 _ [l.bs,r.bs] lz (by simp[cK,kJ,l.len,r.len])
 refine bE YU ?_
 refine aN (ao.trans (ao.bY _ _) (ao.trans (ao.pick [1] rfl) (ao.bY _ _))) (go ?_)
 (refine a6 hE ?_;apply aZ (U:=aU) hE Tryz.func217 rfl (ao.refl _);(repeat(first|exact aR.nil|apply aR.agg 3 zr zr zr zr zr));exact⟨rfl,rfl⟩;exact ag)
def dgE{l:List Dg}{i:Nat}{x:Dg}(hx:l[i]?=some x)(q:Nat)(v:Value)(hq:(dC x)[q]?=some v):(l.flatMap dC)[i*32+q]?=some v:=by
 rw[cM mf hx q (by rcases Nat.lt_or_ge q 32 with h|h;exact h;rw[List.getElem?_eq_none (by rw[mf];exact h)]at hq;cases hq)]
 exact hq
def aen{l:List Dg}{i:Nat}(h:i<l.length):l.flatMap dC≠[]:=by
 rw[← List.length_pos_iff,bT mf];omega
def J3(A:HP)(v:Value)(l:List Dg)(hv:Vw A v l.length (l.flatMap dC))(hl:l.length≤1000000) :
  au Tryz.prog 109 [v] [A] (fun r H=>H=[aB 32 32 r (cI l).length ((cI l).flatMap dC),A]):=by
 obtain⟨a,c,rfl⟩:=hv.shape
 have KO:=jH l
 refine au.ak Tryz.func109 Tryz.ntmps109 fun G F R hE=>?_
 refine go ?_
 refine al (bg 32 32 none _) ?_
 refine bj (fun y:Nat × Option Addr × Nat=>y.1≤(l.length+1)/2) (fun y=>(l.length+1)/2-y.1)
  (fun y=>[(0,.slice a l.length c),(3,.slice y.2.1 ((cI l).take y.1).length y.2.2),(4,.int .i64 ((2*y.1:Nat):Int))])
  (fun y=>aB 32 32 (.slice y.2.1 ((cI l).take y.1).length y.2.2) ((cI l).take y.1).length (((cI l).take y.1).flatMap dC)::A::F) (0,none,0) (Nat.zero_le _) rfl bS ag ?_
 rintro⟨q,oa,oc⟩ hq ih
 simp only at hq
 dsimp only
 have uz:((cI l).take q).length=q:=by rw[List.length_take];omega
 refine go ?_
 refine aq zr zr ?_ ?_
 ·intro cL
  have hql:2*q<l.length:=by omega
  obtain⟨x,hx⟩:∃x,l[2*q]?=some x:=⟨l[2*q],by simp⟩
  obtain⟨b,o,eY,dL⟩:=hv.some (aen hql)
  simp only[Value.slice.injEq]at dL
  obtain⟨rfl,_,rfl⟩:=dL
  refine go ?_
  refine aq zr zr ?_ ?_
  ·intro Jj
   have adF:2*q+1<l.length:=by omega
   obtain⟨y,hy⟩:∃x,l[2*q+1]?=some x:=⟨l[2*q+1],by simp⟩
   have hab:=J4 hx hy
   have jl:(cI l).take (q+1)=(cI l).take q++[iR x y]:=by rw[List.take_add_one,hab];rfl
   refine go ?_
   refine aL (fun w=>Sat G w ([A])) (cJ 0 10 (.act 10 (.act 11 (.act 12 (.st 13 .nil))))) rfl ah ah ah dv ?_
   refine go ?_
   refine bW (2*q) 32 zr zr zr zr zr zr zr zr hql ?_
   refine aP ?_
   refine eC (U:=aU) (es:=dC x) 0 ((2*q)*32) zr zr zr hv rfl (dgE hx) zr zr zr (go ?_)
   refine bW (2*q+1) 32 zr zr zr zr zr zr zr zr adF ?_
   refine aP ?_
   refine eC (U:=aU) (es:=dC y) 0 ((2*q+1)*32) zr zr zr hv rfl (dgE hy) zr zr zr ?_
   refine bE ((NN x y)) ?_
   refine aj (cs:=dC (iR x y)) zr zr zr zr zr zr zr zr zr (fun _ _ hw=>hw.cu ag) ?_
   intro row
   refine go ?_
   refine aJ (mm:=1) (news:=dC (iR x y)) 1 0 zr zr zr zr zr zr zr zr zr zr zr zr (Vw.ae rfl) rfl (by rw[dW];exact cB _) (by rw[uz];omega) (by show(_+_)*32≤_;rw[uz];omega) (fun _=>rfl) (fun _ _ hw=>hw.cu ag) ?_
   intro v1
   rw[show((cI l).take q).flatMap dC++dC (iR x y)=((cI l).take (q+1)).flatMap dC from by rw[jl];simp,show((cI l).take q).length+1=((cI l).take (q+1)).length from by rw[jl];simp]
   refine aH 1 rfl ?_
   rintro ja jc rfl
   refine go ?_
   refine bq 4 ((.int .i64 ((2*(q+1):Nat):Int))) rfl ((congrArg (Value.int .i64) ai)) ?_
   refine aM ih (q+1,ja,jc) rfl (by simp only;omega) (by simp only;omega) bS ag
  ·intro ad5
   have hab:=Ds hx ai
   have jl:(cI l).take (q+1)=(cI l).take q++[x]:=by rw[List.take_add_one,hab];rfl
   refine go ?_
   refine bW (2*q) 32 zr zr zr zr zr zr zr zr hql ?_
   refine aP ?_
   refine cd (U:=aU) (es:=dC x) 1 ((2*q)*32) zr zr zr hv rfl (dgE hx) zr zr zr ?_
   refine aj (cs:=dC x) zr zr zr zr zr zr zr zr zr bh ?_
   intro row
   refine go ?_
   refine aJ (mm:=1) (news:=dC x) 1 0 zr zr zr zr zr zr zr zr zr zr zr zr (Vw.ae rfl) rfl (by rw[dW];exact cB _) (by rw[uz];omega) (by show(_+_)*32≤_;rw[uz];omega) (fun _=>rfl) bh ?_
   intro v1
   rw[show((cI l).take q).flatMap dC++dC x=((cI l).take (q+1)).flatMap dC from by rw[jl];simp,show((cI l).take q).length+1=((cI l).take (q+1)).length from by rw[jl];simp]
   refine aH 1 rfl ?_
   rintro ja jc rfl
   refine go ?_
   refine bq 4 ((.int .i64 ((2*(q+1):Nat):Int))) rfl ((congrArg (Value.int .i64) ai)) ?_
   refine aM ih (q+1,ja,jc) rfl (by simp only;omega) (by simp only;omega) bS ag
 intro ep
 have Y1:(cI l).take q=cI l:=by rw[List.take_of_length_le];omega
 rw[Y1]
 refine go ?_
 refine aK hE Tryz.func109 rfl _ zr zr ag
def NI(A:HP)(v:Value)(l0:List Dg)(hv:Vw A v l0.length (l0.flatMap dC))(QW:l0.length≤1000000)(fu:l0≠[]):au Tryz.prog 49 [v] [A] (fun r H=>r=dV (B9 l0)∧H=[A]):=by
  obtain⟨a,c,rfl⟩:=hv.shape
  have oO:0<l0.length:=List.length_pos_iff.2 fu
  refine au.ak Tryz.func49 Tryz.ntmps49 fun G F R hE=>?_
  refine aD rfl ?_
  refine az zr zr zr bh ?_
  intro b2
  refine go ?_
  refine aq zr zr ?_ ?_
  · intro h0;exfalso;omega
  intro _
  refine go ?_
  refine bj (fun y:Nat × HP × Option Addr × Nat=>(∀i,i<y.1→1<(gJ i l0).length)∧Vw y.2.1 (.slice y.2.2.1 (gJ y.1 l0).length y.2.2.2) (gJ y.1 l0).length ((gJ y.1 l0).flatMap dC)∧∀h,y.2.1 h→∃h',sub h' h∧A h') (fun y=>(gJ y.1 l0).length)
    (fun y=>[(2,ptr b2),(3,.slice y.2.2.1 (gJ y.1 l0).length y.2.2.2)])
    (fun y=>y.2.1::ae b2 (cl (dC Dg.zero) 32)::F) (0,A,a,c) ⟨fun i h=>by omega,hv,fun h hA=>⟨h,sub.refl h,hA⟩⟩ rfl bS ag ?_
  rintro⟨j,X,xa,xc⟩⟨hI,hX,hXA⟩ ih
  simp only at hI hX hXA
  dsimp only
  have hle:=GR l0 j
  refine go ?_
  refine aq zr zr ?_ ?_
  · intro MZ
    have MY:1<(gJ j l0).length:=by omega
    have u6:gJ (j+1) l0=cI (gJ j l0):=rfl
    have hab:=jH (gJ j l0)
    have acx:=J3 X _ _ hX ai
    rw[← u6]at acx hab
    refine go ?_
    refine aF acx ?_
    rintro r _ rfl
    refine aH 0 rfl ?_
    rintro ra rc rfl
    refine DH fun cW=>?_
    refine go ?_
    refine aM ih (j+1,Sep [aB 32 32 (.slice ra (gJ (j+1) l0).length rc) (gJ (j+1) l0).length ((gJ (j+1) l0).flatMap dC),X],ra,rc) rfl ⟨fun i hi=>by
      rcases Nat.lt_or_ge i j with h|h
      · exact hI i h
      · rw[show i=j from by simp only at hi;omega];exact MY,cW.mono (bn (i:=0) rfl),fun h hs=>by
      obtain⟨h1,s1,QI⟩:=bn (H:=[aB 32 32 (.slice ra (gJ (j+1) l0).length rc) (gJ (j+1) l0).length ((gJ (j+1) l0).flatMap dC),X]) (i:=1) rfl h hs
      obtain⟨h2,s2,CG⟩:=hXA h1 QI
      exact⟨h2,s2.trans s1,CG⟩⟩ (by simp only;omega) bS ag
  intro aeS
  have hpj:=B8 l0 oO j
  obtain⟨x,hx⟩:∃x,gJ j l0=[x]:=by
    match h:gJ j l0,hpj,(show(gJ j l0).length≤1 by omega)with
    | [x],_,_=>exact⟨x,rfl⟩
  have abT:=Ly fu hI hx
  rw[abT]at hE
  rw[hx]at hX ⊢
  obtain⟨b,o,eY,dL⟩:=hX.some (by simp[dC])
  simp only[Value.slice.injEq]at dL
  obtain⟨rfl,_,rfl⟩:=dL
  refine go ?_
  refine bW 0 32 zr zr zr zr zr zr zr zr (by simp) ?_
  refine aP ?_
  refine cd (U:=aU) (es:=dC x) 0 (0*32) zr zr zr hX rfl (dgE (l:=[x]) rfl) zr zr zr ?_
  (refine aY ?_;(refine bN 1 e8 zr zr zr zr zr zr zr zr zr ?_))
  refine go ?_
  refine al (ao.head (B:=[A]) fun h hs=>by obtain⟨h',s1,QI⟩:=hXA h hs;exact⟨h',s1,dG QI⟩) ?_
  (refine a6 hE ?_;apply aZ (U:=aU) hE Tryz.func49 rfl (ao.refl _);(repeat(first|exact aR.nil|apply aR.agg 1 zr zr zr zr zr));exact⟨rfl,rfl⟩;exact ag)
end Go.Proofs.YtlcoaflddajjcaaGreatDoor
namespace Go.Proofs.YtlcoaflddajjcaaGreatDoor
open Go Go.SL
attribute [local irreducible] J K au Ends ae aB aI bB aW
theorem jV(A:HP)(v:Value)(bs:List UInt8)(hv:Vw A v bs.length (bV bs))(hlen:bs.length≤1000000000) :
  au Tryz.prog 228 [v] [A] (fun r H=>H=[aB 5 1 r bs.length (bV bs),A]):=by
 obtain⟨a,c0,rfl⟩:=hv.shape
 cases a with
 | none =>
  have hb:bs=[]:=by
   obtain⟨a,cap,h1,h2|⟨b,o,h2,_⟩⟩:=hv
   ·simpa[bV]using h2
   grind
  subst hb
  refine au.enter Tryz.func228 ah rfl Tryz.ntmps228 zr zr ?_
  intro G F R hR
  refine go ?_
  have he:c0=c0:=rfl
  refine al (bg 5 1 none _) ?_
  refine aK hR Tryz.func228 rfl _ zr zr (ao.fin [0,1] 0 zr zr)
 | some a =>
  refine au.enter Tryz.func228 ah rfl Tryz.ntmps228 zr zr ?_
  intro G F R hR
  refine go ?_
  refine aj zr zr zr zr zr zr zr zr zr bh ?_
  intro b0
  refine go ?_
  refine aN (ef 5 1 b0 0 0 [] [] _ rfl (Nat.le_refl _) (by simp)) ?_
  refine aJ (mm:=bs.length) (news:=bV bs) 0 1 zr zr zr zr zr zr zr zr zr zr zr zr hv (by show _=_*1;rw[bD];omega) (cB bs) ai (by show _*1≤_;omega) (fun _=>rfl) bh ?_
  intro v'
  have e1:(0:Nat)+bs.length=bs.length:=by omega
  rw[e1,List.nil_append]
  refine go ?_
  refine aK hR Tryz.func228 rfl _ zr zr (ao.fin [0,1] 0 zr zr)
end Go.Proofs.YtlcoaflddajjcaaGreatDoor
namespace Go.SL
def BI(M:fJ)(s:Nat)(v:Value)(n:Nat)(cs:List Value):Prop :=
 cs.length=n*s∧∃a cap,v = .slice a n cap∧n≤cap∧(n=0∨∃b o row,a=Option.some ⟨b,o,none⟩∧(b,row)∈M∧(row.drop o).take cs.length=cs)
def BI.mono{M M':fJ}{s n:Nat}{v:Value}{cs:List Value}(h:BI M s v n cs)(hs:∀x∈M,x∈M'):BI M' s v n cs:=by
 obtain⟨hl,a,cap,hv,hc,h0|⟨b,o,row,ha,hm,ht⟩⟩:=h
 ·exact⟨hl,a,cap,hv,hc,.inl h0⟩
 ·exact⟨hl,a,cap,hv,hc,.inr ⟨b,o,row,ha,hs _ hm,ht⟩⟩
theorem BI.nil(M:fJ)(s:Nat)(a:Option Addr)(cap:Nat):BI M s (.slice a 0 cap) 0 []:=⟨by simp,a,cap,rfl,Nat.zero_le _,.inl rfl⟩
def BI.shape{M:fJ}{s n:Nat}{v:Value}{cs:List Value}(h:BI M s v n cs):∃a cap,v = .slice a n cap∧n≤cap:=by
 obtain⟨_,a,cap,hv,hc,_⟩:=h;exact⟨a,cap,hv,hc⟩
def BI.view{M:fJ}{s n:Nat}{v:Value}{cs:List Value}(h:BI M s v n cs)(e:TypeId):Vw (a7 e M) v n cs:=by
 obtain⟨hl,a,cap,rfl,hc,h0|⟨b,o,row,ha,hm,ht⟩⟩:=h
 ·have:cs=[]:=List.eq_nil_of_length_eq_zero (by rw[hl,h0,Nat.zero_mul])
  subst h0 this;exact⟨a,cap,rfl,.inl rfl⟩
 ·have h1:Vw (ae b (cl row e)) (.slice a n cap) n cs:=by rw[ha];exact Vw.ae ht
  exact h1.mono fun h hs=>Bk (List.mem_map.2 ⟨(b,row),hm,rfl⟩) hs
theorem B6(e:TypeId)(s n:Nat)(v:Value)(cs:List Value)(M:fJ):∀h,star (aB e s v n cs) (a7 e M) h→∃M',(BI M' s v n cs∧∀x∈M,x∈M')∧Sep [a7 e M'] h:=by
 rintro h⟨h1,h2,⟨hl,⟨a,rfl,hn,he⟩|⟨b,o,cap,pre,junk,rfl,hp,hn,hc,u5⟩⟩,hM,hd,hj⟩
 ·have:cs=[]:=List.eq_nil_of_length_eq_zero (by rw[hl,hn,Nat.zero_mul])
  subst hn this
  exact⟨M,⟨BI.nil M s a 0,fun _ h=>h⟩,dG (w6 ⟨h1,h2,he,hM,hd,hj⟩)⟩
 ·refine⟨(b,pre++cs++junk)::M,⟨⟨hl,_,cap,rfl,hn,.inr ⟨b,o,pre++cs++junk,rfl,by simp,?_⟩⟩,fun x hx=>by simp[hx]⟩,dG ⟨h1,h2,u5,hM,hd,hj⟩⟩
  grind
def au.conv{P:Program}{f:FuncId}{args:List Value}{Pre Pre':List HP}{Post Post':Value→List HP→Prop}(c:au P f args Pre Post)(h:ao Pre' Pre)(hp:∀v H,Post v H→∃H',Post' v H'∧ao H H'):au P f args Pre' Post' :=
 ⟨c.1,fun G w F hw=>(c.2 G w F (hw.cu (ao.append F h))).mono fun e w' h'=>let ⟨v,H,he,Pk,hs⟩:=h';let ⟨H',hq,hE⟩:=hp v H Pk;⟨v,H',he,hq,hs.cu (ao.append F hE)⟩⟩
def au.frame{P:Program}{f:FuncId}{args:List Value}{Pre:List HP}{Post:Value→List HP→Prop}(X:List HP)(c:au P f args Pre Post):au P f args (Pre++X) (fun v H=>∃H',Post v H'∧H=H'++X) :=
 ⟨c.1,fun G w F hw=>(c.2 G w (X++F) (by rw[List.append_assoc]at hw;exact hw)).mono fun e w' h'=>let ⟨v,H,he,Pk,hs⟩:=h';⟨v,H++X,he,⟨H,Pk,rfl⟩,by rw[List.append_assoc];exact hs⟩⟩
def au.FG{P:Program}{f:FuncId}{args:List Value}{v:Value}(X:HP)(c:au P f args [] (fun r H=>r=v∧H=[])):au P f args [X] (fun r H=>r=v∧H=[X]) :=
 au.post (au.frame [X] c) (by rintro r H⟨H',⟨rfl,rfl⟩,rfl⟩;exact⟨rfl,rfl⟩)
end Go.SL
namespace Go.Proofs.YtlcoaflddajjcaaGreatDoor
open Go Go.SL
attribute [local irreducible] J K au Ends ae aB aI bB aW aS a7 aX bF
def pk{P:Program}{f:FuncId}{n:Nat}{R:Ending→World→Prop}{G:ct}{k:List Item}{L:eH}{H:List HP}{e:TypeId}{sz nn c:Nat}{a:Option Addr}{cs:List Value}(i:Nat)(hi:bZ H i=some (aB e sz (.slice a nn c) nn cs))(h:nn≤c→K P f n R G k L H):K P f n R G k L H :=
 pn fun⟨w,hw⟩=>by
  obtain⟨h1,_,hA⟩:=hw.jF hi
  exact h (GN hA)
theorem lZ(X:HP)(v:Value)(l:List It)(hv:lW X v l)(hl:l.length≤100)(hr:dF 0 (l.map It.p)=true)(hs:(cn (l.map It.p)).length≤65536) :
    au Tryz.prog 295 [v] [X] (fun r H=>∃rv,r = .tuple #[rv,.int .i64 0]∧H=[aB 5 1 rv (cn (l.map It.p)).length (bV (cn (l.map It.p))),X]):=by
  obtain⟨cW,hvb⟩:=hv
  obtain⟨a,c,rfl⟩:=cW.shape
  refine au.ak Tryz.func295 Tryz.ntmps295 fun G F R hE=>?_
  refine go ?_
  refine al (bg 5 1 none _) ?_
  refine bj (fun y:Nat × List UInt8 × Option Addr × Nat=>y.1≤l.length∧y.2.1=cn ((l.map It.p).take y.1)) (fun y=>l.length-y.1)
    (fun y=>[(4,.slice y.2.2.1 y.2.1.length y.2.2.2),(5,.int .i64 (kf (l.map It.p) y.1)),(8,.slice a l.length c),(9,.int .i64 (l.length:Int)),(10,.int .i64 (y.1:Int))])
    (fun y=>aB 5 1 (.slice y.2.2.1 y.2.1.length y.2.2.2) y.2.1.length (bV y.2.1)::X::F) (0,[],none,0) ⟨Nat.zero_le _,rfl⟩ rfl bS ag ?_
  rintro⟨i,acc,a1,c1⟩⟨hi,eX⟩ ih
  simp only at hi eX
  have KO:=pF (l.map It.p) i
  refine go ?_
  refine aq zr zr ?_ ?_
  case' refine_2 =>
    intro ep
    have jq:acc=cn (l.map It.p):=by rw[eX,List.take_of_length_le (by rw[List.length_map];omega)]
    subst jq
    refine go ?_
    refine ad hE Tryz.func295 zr zr ⟨_,rfl,rfl⟩
  intro cL
  have dA:i<l.length:=by omega
  obtain⟨x,hx⟩:∃x,l[i]?=some x:=⟨l[i],by simp⟩
  have Fl:(l.map It.p)[i]?=some x.p:=by rw[List.getElem?_map,hx];rfl
  obtain⟨uA,uQ⟩:=Cb _ 0 i x.p hr Fl
  have uA:kf (l.map It.p) i<x.n:=uA
  have uQ:x.n≤63:=uQ
  have mW:=qx Fl
  have wO:=hvb x (List.mem_of_getElem? hx)
  obtain⟨xn,xv,xb⟩:=x
  simp only at uA uQ wO
  obtain⟨xa,xc,rfl,hxc⟩:=wO.2
  have ht:cn ((l.map It.p).take (i+1))=acc++fH (xn,xb):=by
    rw[List.take_add_one,Fl,Option.toList_some,rA,← eX];simp[cn,It.p]
  have Zw:=pF (l.map It.p) (i+1)
  rw[ht,List.length_append]at Zw
  have Hr:(fH (xn,xb)).length=1+(uv xb.length).length+xb.length:=by simp only[fH,List.length_cons,List.length_append];omega
  obtain⟨b,o,c',he⟩:=cW.some (by rw[← List.length_pos_iff,bT fT];omega)
  obtain⟨rfl,rfl⟩:=he
  refine go ?_
  refine bW i 2 zr zr zr zr zr zr zr zr dA ?_
  refine cd (U:=aU) (es:=gY ⟨xn,.slice xa xb.length xc,xb⟩) 1 (i*2) zr zr zr cW rfl (fun j v hj=>?_) zr zr zr ?_
  · have BE:j<2:=by
      grind [fT]
    rw[cM fT hx j BE];exact hj
  refine az zr zr zr bh ?_
  intro bd
  repeat'(first|(with_reducible intro jg)|refine er ?_|refine dP zr zr zr zr ?_ ?_|refine aq zr zr ?_ ?_)
  any_goals (exfalso;simp only at *;omega)
  rename_i h1 h2 h3
  obtain⟨xm,rfl⟩:∃m:Nat,xn=m:=⟨xn.toNat,by
    have:0<xn:=Ca _ 0 hr (Int.le_refl _) _ (List.mem_of_getElem? Fl)
    omega⟩
  refine go ?_
  refine aL (fun w=>Sat G w ([X,ae bd (cl [.int .i64 (xm:Int),.slice xa xb.length xc] 229)])) (cJ 0 3 (cJ 5 4 (.st 11 (.st 12 (.act 3 (.act 4 (.act 9 (.act 10 (.act 13 (.st 14 .nil)))))))))) rfl ah ah ah dv ?_
  refine DP (U:=aU) rfl ?_
  refine ed ?_
  refine gR zr zr zr zr zr zr ?_
  refine aG 36 ((u8 (UInt8.ofNat xm))) rfl ((kA xm)) (go ?_)
  refine aj (cs:=bV [UInt8.ofNat xm]) zr zr zr zr zr zr zr zr zr (fun _ w hw=>hw.cu ag) ?_
  intro row
  refine go ?_
  refine aJ (mm:=1) (news:=bV [UInt8.ofNat xm]) 2 0 zr zr zr zr zr zr zr zr zr zr zr zr (Vw.ae rfl) rfl (cB _) ai (by show(_+_)*1≤_;simp only;omega) (fun _=>rfl) (fun _ w hw=>hw.cu ag) ?_
  intro v1
  rw[show bV acc++bV [UInt8.ofNat xm]=bV (acc++[UInt8.ofNat xm])from by simp[bV],show acc.length+1=(acc++[UInt8.ofNat xm]).length from by simp]
  refine aH 2 rfl ?_
  rintro a2 c2 rfl
  refine go ?_
  refine cT (lk xb.length ai) ?_
  rintro r _ rfl
  refine aH 0 rfl ?_
  rintro ra rc rfl
  refine dH 0 rfl ?_
  intro zy
  refine go ?_
  refine aJ (mm:=(uv xb.length).length) (news:=bV (uv xb.length)) 3 0 zr zr zr zr zr zr zr zr zr zr zr zr zy (by show _=_*1;rw[bD];omega) (cB _) (by simp only[List.length_append,List.length_singleton];omega) (by show(_+_)*1≤_;simp only[List.length_append,List.length_singleton];omega) (fun _=>rfl) (fun _ w hw=>hw.cu ag) ?_
  intro v2
  rw[show bV (acc++[UInt8.ofNat xm])++bV (uv xb.length)=bV (acc++[UInt8.ofNat xm]++uv xb.length)from by simp[bV],show(acc++[UInt8.ofNat xm]).length+(uv xb.length).length=(acc++[UInt8.ofNat xm]++uv xb.length).length from by simp;omega]
  refine aH 3 rfl ?_
  rintro a3 c3 rfl
  refine go ?_
  refine aJ (mm:=xb.length) (news:=bV xb) 3 4 zr zr zr zr zr zr zr zr zr zr zr zr wO.1 (by show _=_*1;rw[bD];omega) (cB _) (by simp only[List.length_append,List.length_singleton];omega) (by show(_+_)*1≤_;simp only[List.length_append,List.length_singleton];omega) (fun _=>rfl) (fun _ w hw=>hw.cu ag) ?_
  intro v3
  rw[show bV (acc++[UInt8.ofNat xm]++uv xb.length)++bV xb=bV (acc++fH (xm,xb))from by simp[bV,fH],show(acc++[UInt8.ofNat xm]++uv xb.length).length+xb.length=(acc++fH (xm,xb)).length from by simp[fH];omega]
  refine aH 3 rfl ?_
  rintro a4 c4 rfl
  refine go ?_
  refine aq zr zr ?_ ?_
  · grind
  intro _
  refine go ?_
  refine bq 5 ((.int .i64 (kf (l.map It.p) (i+1)))) rfl ((congrArg (Value.int .i64) mW.symm)) ?_
  refine aM ih (i+1,acc++fH (xm,xb),a4,c4) rfl ⟨by simp only;omega,by simp only;rw[ht]⟩ ai bS ag
def I4(v:Value)(h1:∃a n c,v = .slice a n c):au Tryz.prog 341 [v] [] (fun r H=>∃b,r = .func (.func 420) #[] #[ptr b]∧H=[ae b (cl [v] 22)]):=by
 obtain⟨a,n,c,rfl⟩:=h1
 refine au.ak Tryz.func341 Tryz.ntmps341 fun G F R hE=>?_
 refine go ?_
 refine bu zr zr bh ?_
 intro b
 refine go ?_
 refine ad hE Tryz.func341 zr zr ⟨b,rfl,rfl⟩
theorem Fk(A:HP)(bx:Nat)(v:Value)(bs:List UInt8)(hv:ew A v bs)(hl:bs.length≤1000000000)(l:Nat)(Lp LpD acZ:HP)(Inv:Nat→HP)(wT:Nat→Bool)(hy:∀i x,(dQ bs)[i]?=some x→(∀j,j<i→wT j=true)→∀r,(∃a n c,r = .slice a n c)→bF Tryz.prog l [.agg #[.int .i64 x.1,r] ] [Lp,Inv i,aB 5 1 r x.2.length (bV x.2)]
      (fun v H=>(wT i=true∧v = .bool true∧H=[Lp,Inv (i+1)])∨(wT i=false∧v = .bool false∧H=[LpD,acZ]))) :
    au Tryz.prog 420 [.func (.yield l) #[] #[],ptr bx] [Lp,Inv 0,ae bx (cl [v] 22),A]
      (fun _ H=>((∀i,i<(dQ bs).length→wT i=true)∧H=[Lp,Inv (dQ bs).length,A])∨((∃i,i<(dQ bs).length∧wT i=false)∧H=[LpD,acZ,A])):=by
  refine au.ak Tryz.func420 Tryz.ntmps420 fun G F R hE=>?_
  refine bj (fun y:Value × List UInt8 × Nat=>ew A y.1 y.2.1∧y.2.1.length≤bs.length∧(dQ bs).drop y.2.2=dQ y.2.1∧y.2.2≤(dQ bs).length∧∀j,j<y.2.2→wT j=true) (fun y=>y.2.1.length)
    (fun _=>[(0,.func (.yield l) #[] #[]),(1,ptr bx)])
    (fun y=>Lp::Inv y.2.2::ae bx (cl [y.1] 22)::A::F) (v,bs,0) ⟨hv,Nat.le_refl _,by simp,Nat.zero_le _,fun j hj=>absurd hj (Nat.not_lt_zero j)⟩ rfl bS ag ?_
  rintro⟨v1,rest,i⟩⟨mH,uA,uQ,hr3,Zj⟩ ih
  simp only at mH uA uQ hr3 Zj
  obtain⟨a,c,rfl,hc⟩:=mH.2
  refine go ?_
  match rest,uQ,mH,uA,hc,ih with
  | [],uQ,mH,uA,hc,ih =>
    have j9:i=(dQ bs).length:=by
      rw[vD]at uQ
      have:(dQ bs).length≤i:=by simpa using uQ
      omega
    subst j9
    refine go ?_
    refine bL hE Tryz.func420 rfl _ rfl (.inl ⟨Zj,rfl⟩) ag
  | c0::rst,uQ,mH,uA,hc,ih =>
    have lA:=mH.cut 1 (by simp)
    rw[List.drop_succ_cons,List.drop_zero]at lA
    ((refine bq 8 ((.bool true)) rfl ((congrArg Value.bool (decide_eq_true (by simp only[List.length_cons];omega)))) ?_))
    refine go ?_
    refine bw (p:=1) (q:=((c0::rst).length:Int)) zr zr zr zr zr zr zr ai (by simp only[List.length_cons];omega) (.inl rfl) ?_
    ((refine aG 11 ((.slice (sliceAt a c 1 1) rst.length (c-1))) rfl ((by rw[show((c0::rst).length:Int).toNat=rst.length+1 from by simp[List.length_cons],show(1:Int).toNat=1 from rfl,show rst.length+1-1=rst.length by omega];rfl)) ?_))
    ((refine aF (HF A _ rst lA.1 lA.2 (by simp only[List.length_cons]at uA;omega)) ?_))
    rintro _ _⟨rv,rfl,Oh,rfl⟩
    have Oh:ew A rv (cR rst).2.1:=Oh
    have mX:=o4 rst
    have Jd:rst.length<1000000000:=by simp only[List.length_cons]at uA;omega
    have Fy:∀x,dQ (c0::rst)=x::dQ ((cR rst).2.1.drop (cR rst).1)∨dQ (c0::rst)=[x]→(dQ bs)[i]?=some x:=by
      intro x hx
      have:=congrArg (fun l=>l[0]?) uQ
      grind
    obtain⟨ra,rc,rfl,Oi⟩:=Oh.2
    by_cases nD:(cR rst).2.2=true∧(cR rst).1≤(cR rst).2.1.length
    · have CX:=sR (c:=c0) nD
      have hx:=Fy _ (.inl CX)
      rw[nD.1]
      have BF:=Oh.front (cR rst).1 nD.2
      have CW:=Oh.cut (cR rst).1 nD.2
      have jL:=(List.getElem?_eq_some_iff.1 hx).1
      refine go ?_
      refine aq zr zr ?_ ?_
      · intro qE;exfalso;omega
      intro _
      have oO:0<(c0::rst).length:=by simp only[List.length_cons];omega
      obtain⟨ba,oa,ca,dL⟩:=Nt mH.1 oO
      simp only[Value.slice.injEq,true_and]at dL
      obtain⟨rfl,rfl⟩:=dL
      obtain⟨n,hn⟩:∃n,n=(cR rst).1:=⟨_,rfl⟩
      have MB:((cR rst).2.1.take n).length=n:=by rw[hn,List.length_take];omega
      rw[← hn]at BF CW CX hx nD ⊢
      have Q5:c0.toNat<256:=c0.toNat_lt
      have MQ:=nD.2
      have aeM:rst.length+1≤bs.length:=uA
      refine aL (fun w=>Sat G w ([A,ae bx (cl [.slice (some ⟨ba,oa,none⟩) (c0::rst).length c] 22)])) (cJ 0 8 (.act 8 (.st 9 (.act 10 (.st 11 .nil))))) rfl ah ah ah dv ?_
      refine go ?_
      refine bp 0 zr zr zr zr zr zr zr zr oO (go ?_)
      refine aP ?_
      refine cO 0 0 zr zr zr mH.1 rfl (show(bV (c0::rst))[0]?=some (u8 c0)from rfl) zr zr (go ?_)
      refine bw (p:=0) (q:=(n:Int)) zr zr zr zr zr zr zr ai ai (.inr ai) ?_
      ((refine aG 35 ((.slice (sliceAt ra rc 0 1) ((cR rst).2.1.take n).length rc)) rfl ((by rw[MB,show((n:Int)).toNat=n from by omega];rfl)) ?_))
      have BF:ew A (.slice (sliceAt ra rc 0 1) ((cR rst).2.1.take n).length rc) ((cR rst).2.1.take n):=by rw[MB];exact BF
      refine cT (jV A _ ((cR rst).2.1.take n) BF.1 ai) ?_
      rintro r _ rfl
      refine aH 0 rfl ?_
      rintro rr rrc rfl
      refine go ?_
      refine kE rfl rfl rfl (hy i _ hx Zj (.slice rr ((cR rst).2.1.take n).length rrc) ⟨_,_,_,rfl⟩) ag ?_ (fun _ _ w hp hw=>by rcases hp with⟨_,_,rfl⟩|⟨_,_,rfl⟩ <;> exact hw.cu ag)
      rintro _ _ (⟨hg,rfl,rfl⟩|⟨hg,rfl,rfl⟩)
      · refine go ?_
        refine bw (p:=(n:Int)) (q:=((cR rst).2.1.length:Int)) zr zr zr zr zr zr zr ai ai (.inl rfl) ?_
        ((refine aG 42 ((.slice (sliceAt ra rc n 1) ((cR rst).2.1.length-n) (rc-n))) rfl ((by rw[show((n:Int)).toNat=n from by omega,show(((cR rst).2.1.length:Int)).toNat=(cR rst).2.1.length from by omega];rfl)) ?_))
        refine go ?_
        have u6:(dQ bs).drop (i+1)=dQ ((cR rst).2.1.drop n):=by
          have:=congrArg (fun l=>l.drop 1) uQ
          simp only[List.drop_drop]at this
          grind
        refine aM ih (.slice (sliceAt ra rc n 1) ((cR rst).2.1.length-n) (rc-n),(cR rst).2.1.drop n,i+1) rfl (⟨CW,by simp only[List.length_drop];omega,u6,by simp only;omega,fun j hj=>by
          rcases Nat.lt_or_ge j i with h|h
          · exact Zj j h
          · rw[show j=i by simp only at hj;omega];exact hg⟩) (by simp only[List.length_drop,List.length_cons];omega) bS ag
      · refine go ?_
        refine ad hE Tryz.func420 zr zr (.inr ⟨⟨i,jL,hg⟩,rfl⟩)
    · have lB:=BN (c:=c0) nD
      have hx:=Fy _ (.inr lB)
      cases adM:(cR rst).2.2 with
      | false =>
        refine go ?_
        refine aN (bg 5 1 none _) ?_
        refine kE zr zr zr (hy i (0,[]) hx Zj (.slice none 0 0) ⟨_,_,_,rfl⟩) ag ?_ jk
        rintro _ _ (⟨hg,rfl,rfl⟩|⟨hg,rfl,rfl⟩)
        · refine go ?_
          have j9:i+1=(dQ bs).length:=by
            have:=congrArg List.length uQ
            grind
          rw[j9]
          have fI:∀j,j<(dQ bs).length→wT j=true:=fun j hj=>by
            grind
          refine ad hE Tryz.func420 zr zr (.inl ⟨fI,rfl⟩)
        · refine go ?_
          have jL:=(List.getElem?_eq_some_iff.1 hx).1
          refine ad hE Tryz.func420 zr zr (.inr ⟨⟨i,jL,hg⟩,rfl⟩)
      | true =>
        have MZ:¬(cR rst).1≤(cR rst).2.1.length:=fun h=>nD ⟨adM,h⟩
        refine go ?_
        refine aq zr zr ?_ ?_
        case' refine_2=>(intro h;exfalso;omega)
        intro _
        refine go ?_
        refine aN (bg 5 1 none _) ?_
        refine kE zr zr zr (hy i (0,[]) hx Zj (.slice none 0 0) ⟨_,_,_,rfl⟩) ag ?_ jk
        rintro _ _ (⟨hg,rfl,rfl⟩|⟨hg,rfl,rfl⟩)
        · refine go ?_
          have j9:i+1=(dQ bs).length:=by
            have:=congrArg List.length uQ
            grind
          rw[j9]
          have fI:∀j,j<(dQ bs).length→wT j=true:=fun j hj=>by
            grind
          refine ad hE Tryz.func420 zr zr (.inl ⟨fI,rfl⟩)
        · refine go ?_
          have jL:=(List.getElem?_eq_some_iff.1 hx).1
          refine ad hE Tryz.func420 zr zr (.inr ⟨⟨i,jL,hg⟩,rfl⟩)
end Go.Proofs.YtlcoaflddajjcaaGreatDoor
namespace Go.Proofs.YtlcoaflddajjcaaGreatDoor
open Go Go.SL
def DI(b2 b3 b4 b5:Nat)(xs:List (Int × List UInt8))(i:Nat):HP:=fun h=>∃x:List It × HP × Value,(x.1.map It.p=xs.take i∧∀y∈x.1,ew x.2.1 y.v y.b) ∧
 Sep [ae b2 (cl [.slice none 0 0] 226),ae b3 (cl [.int .i64 0] 25),ae b4 (cl [x.2.2] 226),ae b5 (cl [.int .i64 (kf xs i)] 3),aB 229 2 x.2.2 x.1.length (x.1.flatMap gY),x.2.1] h
def H9(b2 b3 b4 b5:Nat)(xs:List (Int × List UInt8))(i:Nat):∀h,DI b2 b3 b4 b5 xs i h→∃x:List It × HP × Value,(x.1.map It.p=xs.take i∧∀y∈x.1,ew x.2.1 y.v y.b) ∧
 Sep [ae b2 (cl [.slice none 0 0] 226),ae b3 (cl [.int .i64 0] 25),ae b4 (cl [x.2.2] 226),ae b5 (cl [.int .i64 (kf xs i)] 3),aB 229 2 x.2.2 x.1.length (x.1.flatMap gY),x.2.1] h:=fun h hs=>hs
def DT(b2 b3 b4 b5:Nat)(xs:List (Int × List UInt8))(i:Nat)(dJ:List It)(Z:HP)(v:Value)(h1:dJ.map It.p=xs.take i)(h2:∀y∈dJ,ew Z y.v y.b)(H:List HP) :
  ao (ae b2 (cl [.slice none 0 0] 226)::ae b3 (cl [.int .i64 0] 25)::ae b4 (cl [v] 226)::ae b5 (cl [.int .i64 (kf xs i)] 3)::aB 229 2 v dJ.length (dJ.flatMap gY)::Z::H) (DI b2 b3 b4 b5 xs i::H) :=
 ao.fold (A:=DI b2 b3 b4 b5 xs i) (B:=[ae b2 (cl [.slice none 0 0] 226),ae b3 (cl [.int .i64 0] 25),ae b4 (cl [v] 226),ae b5 (cl [.int .i64 (kf xs i)] 3),aB 229 2 v dJ.length (dJ.flatMap gY),Z]) fun h hs=>⟨h,sub.refl h,(dJ,Z,v),⟨h1,h2⟩,hs⟩
def DE(b2 b3:Nat):HP:=Sep [ae b2 (cl [.slice none 0 0] 226),ae b3 (cl [.int .i64 2] 25)]
def DU(b2 b3:Nat)(H:List HP):ao (ae b2 (cl [.slice none 0 0] 226)::ae b3 (cl [.int .i64 2] 25)::H) (DE b2 b3::H):=ao.bK [ae b2 (cl [.slice none 0 0] 226),ae b3 (cl [.int .i64 2] 25)] H
def Qp(b2 b3:Nat)(H:List HP):ao (DE b2 b3::H) (ae b2 (cl [.slice none 0 0] 226)::ae b3 (cl [.int .i64 2] 25)::H):=ao.bY [ae b2 (cl [.slice none 0 0] 226),ae b3 (cl [.int .i64 2] 25)] H
attribute [local irreducible] J K au Ends ae aB aI bB aW aS a7 aX bF DI DE
theorem l3(A:HP)(v:Value)(bs:List UInt8)(hv:ew A v bs)(hl:bs.length≤1000000000) :
  au Tryz.prog 244 [v] [A] (fun r H=>(nW bs=none∧r = .tuple #[.slice none 0 0,.int .i64 2]∧H=[A])∨(∃(xs:List (Int × List UInt8)) (dJ:List It) (Z:HP) (rv:Value),nW bs=some xs∧dJ.map It.p=xs∧lW Z rv dJ∧r = .tuple #[rv,.int .i64 0]∧H=[Z,A]∧∃ra rc,rv = .slice ra dJ.length rc∧dJ.length≤rc)):=by
 obtain⟨a,c,rfl,hc⟩:=hv.2
 have uz:nW bs=if 65536<bs.length then none else if dF 0 (dQ bs)then some (dQ bs)else none:=rfl
 refine au.ak Tryz.func244 Tryz.ntmps244 fun G F R hE=>?_
 refine aD rfl ?_
 refine az zr zr zr bh ?_
 intro b2
 refine az zr zr zr bh ?_
 intro b3
 refine go ?_
 refine aq zr zr ?_ ?_
 ·intro qE
  have qE:65536<bs.length:=by omega
  rw[if_pos qE]at uz
  refine go ?_
  refine a6 hE ?_
  refine qQ (U:=aU) 1 0 hE Tryz.func244 zr zr zr zr zr zr zr zr (ao.refl _) zr zr (.inl ⟨uz,rfl,rfl⟩) ag
 intro xW
 have xW:¬65536<bs.length:=by omega
 rw[if_neg xW]at uz
 refine go ?_
 refine az zr zr zr bh ?_
 intro b4
 refine go ?_
 refine az zr zr zr bh ?_
 intro b5
 refine go ?_
 refine aF (I4 _ ⟨a,_,c,rfl⟩) ?_
 rintro _ _⟨bx,rfl,rfl⟩
 refine go ?_
 refine gG rfl ?_
 refine al (ao.trans (ao.bK [] _) (ao.trans (bg 229 2 none _) (ao.trans ag (DT b2 b3 b4 b5 (dQ bs) 0 [] (Sep []) (.slice none 0 0) rfl (by simp) (ae bx (cl [.slice a bs.length c] 22)::A::F))))) ?_
 refine xI (Fr:=F) (Pre:=fun _ _=>[DI b2 b3 b4 b5 (dQ bs) 0,ae bx (cl [.slice a bs.length c] 22),A]) (fun _ _ Lp v H=>((∀i,i<(dQ bs).length→rX (dQ bs) i=true)∧H=[Lp .ready none,DI b2 b3 b4 b5 (dQ bs) (dQ bs).length,A])∨((∃i,i<(dQ bs).length∧rX (dQ bs) i=false)∧H=[Lp .done (some .ret),DE b2 b3,A])) rfl hE.1.1 rfl ?c (fun l r=>ag) ?jq
 case c =>
  intro l r
  refine au.pre (Fk A bx _ bs hv hl l _ _ (DE b2 b3) (DI b2 b3 b4 b5 (dQ bs)) (rX (dQ bs)) ?hy) ag
  case hy =>
   intro i x hx Zj rv Oh
   obtain⟨va,vn,vc,rfl⟩:=Oh
   refine bF.IN zr zr ?_
   intro G2 F2 R2 hY
   refine aD rfl ?_
   refine az zr zr zr bh ?_
   intro b6
   refine go ?_
   refine al (ao.pick [1] rfl) ?_
   refine gN rfl hY ?_
   refine al (ao.pick [2] rfl) ?_
   refine cX (H9 b2 b3 b4 b5 (dQ bs) i) ?_
   rintro⟨dJ,Z,vi⟩⟨nT,sL⟩
   have M0:=wS hx
   obtain⟨xn,xb⟩:=x
   have Hk:=qx hx
   refine db 4 rfl ?_
   intro ia ic hvi
   simp only at hvi
   simp only
   refine al (ao.pick [7,0,1,2,3] rfl) ?_
   repeat'(first|(with_reducible intro jg)|refine er ?_|refine dP zr zr zr zr ?_ ?_|refine aq zr zr ?_ ?_)
   ·have lB:rX (dQ bs) i=false:=by rw[M0,decide_eq_false ai,Bool.false_and]
    refine al (ao.trans (ao.pick [1,2] rfl) (DU b2 b3 _)) ?_
    refine xH hY rfl ag (.inr ⟨lB,rfl,rfl⟩)
   ·have lB:rX (dQ bs) i=false:=by rw[M0,decide_eq_false (show ¬xn≤63 by omega),Bool.and_false]
    refine al (ao.trans (ao.pick [1,2] rfl) (DU b2 b3 _)) ?_
    refine xH hY rfl ag (.inr ⟨lB,rfl,rfl⟩)
   ·have rO:rX (dQ bs) i=true:=by rw[M0,decide_eq_true ai,decide_eq_true ai];rfl
    refine aY ?_
    refine bN 4 e8 zr zr zr zr zr zr zr zr zr (go ?_)
    refine bP 0 zr zr zr zr zr zr (go ?_)
    refine eZ (bs:=xb) 8 rfl ?_
    intro wO
    obtain⟨_,_,hvx,hxc⟩:=wO.2
    obtain⟨-,rfl,rfl⟩:=hvx
    have jL:=(List.getElem?_eq_some_iff.1 hx).1
    have MB:=q7 bs.length bs (Nat.le_refl _)
    have Zf:dJ.length=i:=by
     have:=congrArg List.length nT
     grind
    refine aj (cs:=gY ⟨xn,.slice va xb.length vc,xb⟩) zr zr zr zr zr zr zr zr zr bh ?_
    intro row
    refine go ?_
    refine aJ (mm:=1) (news:=gY ⟨xn,.slice va xb.length vc,xb⟩) 6 0 rfl rfl rfl rfl rfl rfl rfl rfl rfl rfl rfl rfl (Vw.ae rfl) rfl (by intro v hv;simp[gY]at hv;rcases hv with rfl|rfl <;> rfl) ai (by show(_+_)*32≤_;omega) (fun _=>rfl) bh ?_
    intro v1
    rw[show dJ.flatMap gY++gY (⟨xn,.slice va xb.length vc,xb⟩:It)=(dJ++[(⟨xn,.slice va xb.length vc,xb⟩:It)]).flatMap gY from by simp,show dJ.length+1=(dJ++[(⟨xn,.slice va xb.length vc,xb⟩:It)]).length from by simp]
    refine aH 6 rfl ?_
    rintro ja jc rfl
    refine go ?_
    refine aY ?_
    refine bN 4 e8 zr zr zr zr zr zr zr zr zr (go ?_)
    have adV:kf (dQ bs) (i+1)=xn:=Hk
    have Fx:(dJ++[(⟨xn,.slice va xb.length vc,xb⟩:It)]).map It.p=(dQ bs).take (i+1):=by
     rw[List.map_append,nT,List.take_add_one,hx];rfl
    have mX:=DT b2 b3 b4 b5 (dQ bs) (i+1) (dJ++[(⟨xn,.slice va xb.length vc,xb⟩:It)]) (Sep [aB 5 1 (.slice va xb.length vc) xb.length (bV xb),Z]) (.slice ja (dJ++[(⟨xn,.slice va xb.length vc,xb⟩:It)]).length jc) Fx (fun y hy=>by
     rcases List.mem_append.1 hy with h|h
     ·exact(sL y h).mono (bn (i:=1) rfl)
     ·rw[List.mem_singleton.1 h];exact wO.mono (bn (i:=0) rfl))
    rw[adV]at mX
    refine al (ao.trans (ao.pick [9,7] rfl) (ao.trans (ao.bK [_,_] _) (ao.trans ag (mX _)))) ?_
    refine fV hY rfl ag (.inl ⟨rO,rfl,rfl⟩)
 rintro l r v H' (⟨fI,rfl⟩|⟨⟨i,hi,lB⟩,rfl⟩)
 ·refine⟨_,_,_,rfl,by decide,?_⟩
  have hr:dF 0 (dQ bs)=true:=(zb _).2 fI
  rw[if_pos hr]at uz
  rw[hE.1.2]
  refine cX (H9 b2 b3 b4 b5 (dQ bs) _) ?_
  rintro⟨dJ,Z,vi⟩⟨nT,sL⟩
  rw[List.take_length]at nT
  refine db 4 rfl ?_
  intro ia ic hvi
  simp only at hvi
  subst hvi
  refine pk 4 rfl ?_
  intro fY
  refine eh 4 rfl ?_
  intro cW
  have Ht:lW (Sep [aB 229 2 (.slice ia dJ.length ic) dJ.length (dJ.flatMap gY),Z]) (.slice ia dJ.length ic) dJ:=⟨cW.mono (bn (i:=0) rfl),fun y hy=>(sL y hy).mono (bn (i:=1) rfl)⟩
  refine go ?_
  refine al (ao.trans (ao.pick [4,5] rfl) (ao.bK [aB 229 2 (.slice ia dJ.length ic) dJ.length (dJ.flatMap gY),Z] _)) ?_
  refine qQ (U:=aU) 1 2 hE Tryz.func244 zr zr zr zr zr zr zr zr ag zr zr (.inr ⟨dQ bs,dJ,_,_,uz,nT,Ht,rfl,rfl,_,_,rfl,fY⟩) ag
 ·refine⟨_,_,_,rfl,by decide,?_⟩
  have hr:¬dF 0 (dQ bs)=true:=fun h=>by rw[(zb _).1 h i hi]at lB;cases lB
  rw[if_neg hr]at uz
  rw[hE.1.2]
  refine al (Qp b2 b3 _) ?_
  refine qQ (U:=aU) 0 1 hE Tryz.func244 zr zr zr zr zr zr zr zr ag zr zr (.inl ⟨uz,rfl,rfl⟩) ag
end Go.Proofs.YtlcoaflddajjcaaGreatDoor
namespace Go.Proofs.YtlcoaflddajjcaaGreatDoor
open Go Go.SL
attribute [local irreducible] J K au Ends ae aB aI bB aW aS a7 aX bF Sha.chunks Sha.chunk Sha.rounds Sha.sched ej cz GI dq
def YI:jv Tryz.prog 32 dV:=abE Tryz.underlying32 Tryz.underlying5 ZP
def Qv(l:List Dg):List (Dg × Value):=l.map fun d=>(d,.bool true)
theorem Li(l:List Dg)(d:Dg):(cU (Qv l) d).getD (.bool false) = .bool (decide (d∈l)):=by
 induction l with
 | nil=>simp[Qv,cU]
 | cons x l ih =>
  grind [Qv,cU]
theorem OE{l:List Dg}{d:Dg}(h:d ∉ l):jG (Qv l) d (.bool true)=Qv (l++[d]):=by
 grind [jG,Qv]
theorem yQ(l:List Bl):jy l=false↔(l.map Bl.d).Nodup:=by
 induction l with
 | nil=>simp[jy]
 | cons x l ih =>
  grind [jy]
theorem vd(l:List Bl):∀v∈l.flatMap ck,v.oneCell'=true:=by
 intro v hv
 obtain⟨x,_,h⟩:=List.mem_flatMap.1 hv
 simp only[ck,List.mem_append,List.mem_cons,List.not_mem_nil,or_false]at h
 rcases h with(h|rfl|rfl)|h
 ·grind [dW,cB]
 ·rfl
 ·rfl
 grind [dW,cB]
def ZS{l:List Bl}{i:Nat}{x:Bl}(hx:l[i]?=some x)(q:Nat)(v:Value)(hq:(ck x)[q]?=some v):(l.flatMap ck)[i*66+q]?=some v:=by
 rw[cM A9 hx q (by rcases Nat.lt_or_ge q 66 with h|h;exact h;rw[List.getElem?_eq_none (by rw[A9];exact h)]at hq;cases hq)]
 exact hq
def Nq{l:List Bl}{i:Nat}(h:i<l.length):l.flatMap ck≠[]:=by
 rw[← List.length_pos_iff,bT A9];omega
def Bx(A X:HP)(v:Value)(l:List Bl)(hv:Vw A v l.length (l.flatMap ck))(hlen:l.length≤1000000)(g:FuncId)(cap:List Value)(p:Bl→Bool)(hf:∀x∈l,au Tryz.prog g (jU x::cap) [X] (fun v H=>v = .bool (p x)∧H=[X])) :
  au Tryz.prog 165 [v,.func (.func g) #[] cap.toArray] [A,X] (fun r H=>r = .int .i64 (gM p l)∧H=[A,X]):=by
 obtain⟨a,c0,rfl⟩:=hv.shape
 unfold jU at hf
 refine au.enter Tryz.func165 ah rfl Tryz.ntmps165 zr zr ?_
 intro G F R hR
 refine go ?_
 refine bj (fun i:Nat=>i≤l.length∧∀y∈l.take i,p y=false) (fun i=>l.length-i) (fun i=>[(0,.slice a l.length c0),(1,.func (.func g) #[] cap.toArray),(7,.int .i64 l.length),(8,.int .i64 i)]) (fun _=>[A,X]++F) 0 ⟨by simp,by simp⟩ rfl bS (ao.refl _) ?_
 rintro i⟨hi,hb⟩ ih
 refine go ?_
 refine aq zr zr ?_ ?_
 ·intro cL
  refine go ?_
  have dA:i<l.length:=by omega
  have hx:l[i]?=some l[i]:=by simp[dA]
  generalize YN:l[i]=x at hx
  obtain⟨b,o,eY,dL⟩:=hv.some (Nq dA)
  simp only[Value.slice.injEq]at dL
  obtain⟨rfl,_,rfl⟩:=dL
  refine bW i 66 zr zr zr zr zr zr zr zr dA ?_
  refine cd (U:=aU) (es:=ck x) 0 (i*66) zr zr zr hv rfl (ZS hx) zr zr zr ?_
  refine cg [1] zr zr zr zr (hf x (List.mem_of_getElem? hx)) rfl jk ?_
  rintro _ _⟨rfl,rfl⟩
  refine go ?_
  refine dY zr zr ?_ ?_
  ·intro hp
   refine go ?_
   refine aK hR Tryz.func165 rfl _ rfl ⟨by rw[gL hx hp hb];rfl,rfl⟩ (ao.fin [1,0] 0 zr zr)
  ·intro hp
   refine go ?_
   refine aM ih (i+1) rfl ⟨ai,kC hb hx hp⟩ ai bS (ao.pick [1,0] rfl)
 ·intro ep
  refine go ?_
  have:i=l.length:=by omega
  subst this
  refine aK hR Tryz.func165 rfl _ rfl ⟨by rw[iF (fun x hx=>hb x (by simpa using hx))];rfl,rfl⟩ (ao.fin [0,1] 0 zr zr)
def nU(A X:HP)(v:Value)(l:List Bl)(hv:Vw A v l.length (l.flatMap ck))(hlen:l.length≤1000000)(g:FuncId)(cap:List Value)(p:Bl→Bool)(hf:∀x∈l,au Tryz.prog g (jU x::cap) [X] (fun v H=>v = .bool (p x)∧H=[X])) :
  au Tryz.prog 82 [v,.func (.func g) #[] cap.toArray] [A,X] (fun r H=>r = .bool (l.any p)∧H=[A,X]):=by
 refine au.enter Tryz.func82 ah rfl Tryz.ntmps82 zr zr ?_
 intro G F R hR
 refine go ?_
 refine cg [0,1] zr zr zr zr (Bx A X v l hv hlen g cap p hf) rfl jk ?_
 rintro _ _⟨rfl,rfl⟩
 refine go ?_
 have hb:decide (0≤gM p l)=l.any p:=by
  rw[show decide (0≤gM p l)=decide (¬gM p l<0)from by rw[decide_eq_decide];omega]
  rw[Bool.eq_iff_iff,decide_eq_true_iff,jQ (p:=p) (l:=l),Bool.not_eq_false]
 refine aK hR Tryz.func82 rfl _ rfl ⟨congrArg Value.bool hb,rfl⟩ (ao.fin [0,1] 0 zr zr)
def OX(x:Bl):au Tryz.prog 294 [jU x] [emp] (fun r H=>r = .bool (!bJ x)∧H=[emp]):=by
 unfold jU
 refine au.ak Tryz.func294 Tryz.ntmps294 fun G F R hE=>?_
 refine aD rfl ?_
 refine bu zr zr bh ?_
 intro b1
 refine go ?_
 refine aO (U:=aU) 0 zr zr zr zr zr zr ?_
 refine aw (pW x) ?_
 refine go ?_
 refine ad hE Tryz.func294 zr zr ⟨rfl,rfl⟩
def tt(v:Value):Value := .agg #[v]
theorem Af(A:HP)(v:Value)(l:List Bl)(hv:Vw A v l.length (l.flatMap ck))(hlen:l.length≤1000000) :
  au Tryz.prog 166 [tt v] [A] (fun r H=>r = .int .i64 (cG l:Int)∧H=[A]):=by
 obtain⟨a,c,rfl⟩:=hv.shape
 unfold tt
 refine au.ak Tryz.func166 Tryz.ntmps166 fun G F R hE=>?_
 refine aD rfl ?_
 refine bu zr zr bh ?_
 intro b1
 refine aN (ao.lj _) ?_
 have h1:(l.length<1∨16<l.length∨l.any (fun x => !bJ x)=true)→cG l=1:=fun h=>by unfold cG;rw[if_pos h]
 have h2:¬(l.length<1∨16<l.length∨l.any (fun x => !bJ x)=true)→cG l=if jy l then 5 else 0:=fun h=>by unfold cG;rw[if_neg h]
 repeat'(first|(with_reducible intro jg)|refine er ?_|refine dP zr zr zr zr ?_ ?_|(refine aF (nU A emp _ l hv hlen 294 [] (fun x => !bJ x) (fun x _=>OX x)) ?_;rintro _ _⟨rfl,rfl⟩))
 ·rw[h1 (.inl ai)]at hE
  refine ad hE Tryz.func166 zr zr ⟨rfl,rfl⟩
 ·rw[h1 (.inr (.inl ai))]at hE
  refine ad hE Tryz.func166 zr zr ⟨rfl,rfl⟩
 cases lC:l.any (fun x => !bJ x)with
 | true =>
  rw[h1 (.inr (.inr lC))]at hE
  refine go ?_
  refine ad hE Tryz.func166 zr zr ⟨rfl,rfl⟩
 | false =>
  have h3:=h2 (fun h=>by rcases h with h|h|h;exact absurd h ai;exact absurd h ai;rw[lC]at h;cases h)
  rw[h3]at hE
  refine go ?_
  refine eG rfl bh ?_
  intro bm
  refine aN (ao.fold (B:=[_]) (A:=aI dV bm (Qv [])) (fun h hs=>⟨h,sub.refl h,gA dV bm h (dp hs)⟩)) ?_
  refine go ?_
  refine bj (fun i:Nat=>i≤l.length∧((l.take i).map Bl.d).Nodup) (fun i=>l.length-i)
   (fun i=>[(1,ptr b1),(4,.map (some bm)),(25,.slice a l.length c),(26,.int .i64 (l.length:Int)),(27,.int .i64 (i:Int))])
   (fun i=>aI dV bm (Qv ((l.take i).map Bl.d))::A::F) 0 ⟨Nat.zero_le _,by simp⟩ rfl bS ag ?_
  rintro i⟨hi,iK⟩ ih
  refine go ?_
  refine aq zr zr ?_ ?_
  ·intro cL
   have dA:i<l.length:=by omega
   obtain⟨x,hx⟩:∃x,l[i]?=some x:=⟨l[i],by simp⟩
   obtain⟨b,o,eY,dL⟩:=hv.some (Nq dA)
   simp only[Value.slice.injEq]at dL
   obtain⟨rfl,_,rfl⟩:=dL
   have jl:(l.take (i+1)).map Bl.d=(l.take i).map Bl.d++[x.d]:=by rw[List.take_add_one,hx];simp
   refine go ?_
   refine bW i 66 zr zr zr zr zr zr zr zr dA ?_
   refine aP ?_
   refine cd (U:=aU) (es:=ck x) 1 (i*66) zr zr zr hv rfl (ZS hx) zr zr zr ?_
   refine az zr zr zr bh ?_
   intro b6
   refine go ?_
   refine bP 0 zr zr zr zr zr zr ?_
   refine jK (key:=x.d) 1 rfl YI zr zr zr zr zr zr zr zr ?_
   refine aG 34 (.bool (decide (x.d∈(l.take i).map Bl.d))) rfl (Li _ _) (go ?_)
   refine aq zr zr ?_ ?_
   ·intro tB
    have htw:jy l=true:=by
     cases h:jy l with
     | true=>rfl
     | false =>
      exfalso
      have hN:=(yQ l).1 h
      have dj:((l.take (i+1)).map Bl.d).Nodup:=hN.sublist ((List.take_sublist _ _).map _)
      grind
    rw[htw]at hE
    refine go ?_
    refine ad hE Tryz.func166 zr zr ⟨rfl,rfl⟩
   ·intro Pq
    refine go ?_
    refine bP 0 zr zr zr zr zr zr ?_
    refine eB (key:=x.d) 1 YI e8 zr zr zr zr zr zr zr zr ?_
    rw[OE Pq,← jl]
    refine go ?_
    refine aM ih (i+1) rfl ⟨ai,by rw[jl,List.nodup_append];exact⟨iK,by simp,fun p hp q hq=>by simp at hq;subst hq;exact fun e=>Pq (e ▸ hp)⟩⟩ ai bS ag
  intro ep
  have qY:i=l.length:=by omega
  subst qY
  rw[List.take_length]at iK
  rw[(yQ l).2 iK]at hE
  refine go ?_
  refine ad hE Tryz.func166 zr zr ⟨rfl,rfl⟩
def ew.LV{b o n:Nat}{bs:List UInt8}{l:List Value}{e:TypeId}(hn:bs.length=n)(hl:(l.drop o).take n=bV bs):ew (ae b (cl l e)) (.slice (some ⟨b,o,none⟩) n n) bs:=by
 subst hn
 exact⟨Vw.ae (by rw[bD];exact hl),_,_,rfl,Nat.le_refl _⟩
theorem qz:∀(l:List Bl) (i:Nat) (x:Bl),fR i (l++[x])=fR i l++[(((i+l.length:Nat):Int)+1,cn (bH x))]
 | [],i,x=>by simp[fR]
 | y::l,i,x=>by
  simp only[List.cons_append,fR,qz l (i+1) x,List.length_cons]
  grind
theorem l9:∀(l:List Bl) (i:Nat),(fR i l).length=l.length
 | [],i=>rfl
 | y::l,i=>by simp only[fR,List.length_cons,l9 l (i+1)]
structure Its where
 l:List It
 Z:HP
theorem Cy(A:HP)(v:Value)(l:List Bl)(hv:Vw A v l.length (l.flatMap ck))(hlen:l.length≤1000000) :
    au Tryz.prog 168 [tt v] [A] (fun r H=>(cG l≠0∧r = .tuple #[.slice none 0 0,.int .i64 (cG l:Int)]∧H=[A]) ∨
      ∃rv,cG l=0∧r = .tuple #[rv,.int .i64 0]∧H=[aB 5 1 rv (dO l).length (bV (dO l)),A]):=by
  have sK:=Af A v l hv hlen
  obtain⟨a,c,rfl⟩:=hv.shape
  unfold tt at sK ⊢
  refine au.ak Tryz.func168 Tryz.ntmps168 fun G F R hE=>?_
  refine aD rfl ?_
  refine bu zr zr bh ?_
  intro b1
  refine go ?_
  refine aO (U:=aU) (l:=[.slice a l.length c]) 0 zr zr zr zr zr zr ?_
  refine aw sK ?_
  refine go ?_
  refine aq zr zr ?_ ?_
  · intro fu
    have jS:cG l≠0:=by omega
    refine go ?_
    refine ad hE Tryz.func168 zr zr (.inl ⟨jS,rfl,rfl⟩)
  intro heq
  have h0:cG l=0:=by omega
  obtain⟨adX,wH,qC⟩:=iU h0
  refine go ?_
  refine al (ao.trans (ao.bK [] _) (bg 229 2 none _)) ?_
  refine bj (fun y:Nat × Its × Option Addr × Nat=>y.1≤l.length∧y.2.1.l.map It.p=fR 0 (l.take y.1)∧∀z∈y.2.1.l,ew y.2.1.Z z.v z.b) (fun y=>l.length-y.1)
    (fun y=>[(1,ptr b1),(5,.slice y.2.2.1 y.2.1.l.length y.2.2.2),(18,.slice a l.length c),(19,.int .i64 (l.length:Int)),(20,.int .i64 (y.1:Int))])
    (fun y=>aB 229 2 (.slice y.2.2.1 y.2.1.l.length y.2.2.2) y.2.1.l.length (y.2.1.l.flatMap gY)::y.2.1.Z::A::F) (0,⟨[],Sep []⟩,none,0) ⟨Nat.zero_le _,rfl,by simp⟩ rfl bS ag ?_
  rintro⟨i,⟨dJ,Z⟩,ia,ic⟩⟨hi,nT,sL⟩ ih
  simp only at hi nT sL
  dsimp only
  have Zf:dJ.length=i:=by
    grind [l9]
  refine go ?_
  refine aq zr zr ?_ ?_
  · intro cL
    have dA:i<l.length:=by omega
    obtain⟨x,hx⟩:∃x,l[i]?=some x:=⟨l[i],by simp⟩
    have YP:=qC x (List.mem_of_getElem? hx)
    have YO:=YP
    simp only[bJ,decide_eq_true_eq]at YO
    obtain⟨sz,iJ⟩:∃m:Nat,x.size=m:=⟨x.size.toNat,ai⟩
    obtain⟨pc,KI⟩:∃m:Nat,x.piece=m:=⟨x.piece.toNat,ai⟩
    obtain⟨b,o,eY,dL⟩:=hv.some (Nq dA)
    simp only[Value.slice.injEq]at dL
    obtain⟨rfl,_,rfl⟩:=dL
    refine go ?_
    refine bW i 66 zr zr zr zr zr zr zr zr dA ?_
    refine aP ?_
    refine cd (U:=aU) (es:=ck x) 2 (i*66) zr zr zr hv rfl (ZS hx) zr zr zr ?_
    refine az zr zr zr bh ?_
    intro b7
    refine go ?_
    refine aL (fun w=>Sat G w ([ae b7 (cl (ck x) 77)])) (cJ 0 3 (cJ 4 3 (.act 3 (.act 7 (.st 8 (.st 9 .nil)))))) rfl ah ah ah dv ?_
    refine go ?_
    refine aG 27 ((.int .u64 (sz:Int))) rfl ((congrArg (Value.int .u64) iJ)) ?_
    refine aG 31 ((.int .u64 (pc:Int))) rfl ((congrArg (Value.int .u64) KI)) ?_
    refine cT (lk sz ai) ?_
    rintro r8 _ rfl
    refine cT (lk pc ai) ?_
    rintro r9 _ rfl
    refine aH 0 rfl ?_
    rintro a9 c9 rfl
    refine aH 1 rfl ?_
    rintro a8 c8 rfl
    refine eZ (bs:=uv pc) 0 rfl ?_
    intro PK
    refine eZ (bs:=uv sz) 1 rfl ?_
    intro Oo
    refine go ?_
    obtain⟨wD,wK⟩:∃wD:List It,wD=[⟨1,.slice (some ⟨b7,0,none⟩) 32 32,x.d.bs⟩,⟨2,.slice a8 (uv sz).length c8,uv sz⟩,⟨3,.slice a9 (uv pc).length c9,uv pc⟩,⟨4,.slice (some ⟨b7,34,none⟩) 32 32,x.root.bs⟩]:=⟨_,rfl⟩
    have Pn:wD.map It.p=bH x:=by rw[wK];simp only[bH,List.map_cons,List.map_nil,It.p,iJ,KI,Int.toNat_natCast]
    have Jd:=nA x YP
    refine aL (fun w=>Sat G w ([])) (cJ 0 10 (.act 10 (.act 11 (cJ 12 5 .nil)))) rfl ah ah ah dv ?_
    (repeat(first|refine er ?_|refine fW (U:=aU) zr zr zr zr zr ?_))
    refine aj (cs:=wD.flatMap gY) zr zr zr zr zr zr zr zr (by rw[wK];rfl) (fun _ _ hw=>hw.cu ag) ?_
    intro row
    have h4:wD.length=4:=by rw[wK];rfl
    have AX:lW (Sep [ae row (cl (wD.flatMap gY) 229),ae b7 (cl (ck x) 77),aB 5 1 (.slice a8 (uv sz).length c8) (uv sz).length (bV (uv sz)),aB 5 1 (.slice a9 (uv pc).length c9) (uv pc).length (bV (uv pc))]) (.slice (some ⟨row,0,none⟩) 4 4) wD:=by
      refine⟨?_,fun y hy=>?_⟩
      · rw[h4]
        exact(Vw.ae (by rw[List.drop_zero,List.take_length])).mono (bn (i:=0) rfl)
      · rw[wK]at hy
        simp only[List.mem_cons,List.not_mem_nil,or_false]at hy
        rcases hy with rfl|rfl|rfl|rfl
        · exact(ew.LV x.d.len (by rw[← dW];exact P' x)).mono (bn (i:=1) rfl)
        · exact Oo.mono (bn (i:=2) rfl)
        · exact PK.mono (bn (i:=3) rfl)
        · exact(ew.LV x.root.len (by rw[← dW];exact No x)).mono (bn (i:=1) rfl)
    have oM:dF 0 (wD.map It.p)=true:=by rw[Pn];simp[bH,dF]
    have rP:=lZ _ _ wD AX ai oM (by rw[Pn];omega)
    rw[Pn]at rP
    clear oM AX Pn h4
    clear wK
    refine aN (ao.trans (ao.pick [0,3,2,1] rfl) (ao.bK [ae row (cl (wD.flatMap gY) 229),ae b7 (cl (ck x) 77),aB 5 1 (.slice a8 (uv sz).length c8) (uv sz).length (bV (uv sz)),aB 5 1 (.slice a9 (uv pc).length c9) (uv pc).length (bV (uv pc))] _)) ?_
    refine cT rP ?_
    rintro _ _⟨rr,rfl,rfl⟩
    refine aH 0 rfl ?_
    rintro ra rc rfl
    refine eZ (bs:=cn (bH x)) 0 rfl ?_
    intro zy
    refine go ?_
    refine aj (cs:=gY ⟨(i:Int)+1,.slice ra (cn (bH x)).length rc,cn (bH x)⟩) zr zr zr zr zr zr zr zr zr bh ?_
    intro Iw
    refine go ?_
    refine aJ (mm:=1) (news:=gY ⟨(i:Int)+1,.slice ra (cn (bH x)).length rc,cn (bH x)⟩) 3 0 rfl rfl rfl rfl rfl rfl rfl rfl rfl rfl rfl rfl (Vw.ae rfl) rfl (by intro v hv;simp[gY]at hv;rcases hv with rfl|rfl <;> rfl) ai (by show(_+_)*32≤_;omega) (fun _=>rfl) bh ?_
    intro v1
    rw[show dJ.flatMap gY++gY (⟨(i:Int)+1,.slice ra (cn (bH x)).length rc,cn (bH x)⟩:It)=(dJ++[(⟨(i:Int)+1,.slice ra (cn (bH x)).length rc,cn (bH x)⟩:It)]).flatMap gY from by simp,show dJ.length+1=(dJ++[(⟨(i:Int)+1,.slice ra (cn (bH x)).length rc,cn (bH x)⟩:It)]).length from by simp]
    refine aH 3 rfl ?_
    rintro ja jc rfl
    refine go ?_
    have Fx:(dJ++[(⟨(i:Int)+1,.slice ra (cn (bH x)).length rc,cn (bH x)⟩:It)]).map It.p=fR 0 (l.take (i+1)):=by
      rw[List.take_add_one,hx,List.map_append,nT]
      grind [qz,It.p]
    refine al (ao.trans (ao.pick [1,4] rfl) (ao.bK [aB 5 1 (.slice ra (cn (bH x)).length rc) (cn (bH x)).length (bV (cn (bH x))),Z] _)) ?_
    refine aM ih (i+1,⟨dJ++[(⟨(i:Int)+1,.slice ra (cn (bH x)).length rc,cn (bH x)⟩:It)],Sep [aB 5 1 (.slice ra (cn (bH x)).length rc) (cn (bH x)).length (bV (cn (bH x))),Z]⟩,ja,jc) rfl ⟨by simp only;omega,Fx,fun z hz=>by
      rcases List.mem_append.1 hz with h|h
      · exact(sL z h).mono (bn (i:=1) rfl)
      · rw[List.mem_singleton.1 h];exact zy.mono (bn (i:=0) rfl)⟩ (by simp only;omega) bS ag
  · intro ep
    have qY:i=l.length:=by omega
    subst qY
    rw[List.take_length]at nT
    have qf:=mP h0
    unfold dO at qf
    have oM:=lK l 0 ai
    rw[← nT]at qf oM
    refine eh 0 rfl ?_
    intro cW
    have AX:lW (Sep [aB 229 2 (.slice ia dJ.length ic) dJ.length (dJ.flatMap gY),Z]) (.slice ia dJ.length ic) dJ:=⟨cW.mono (bn (i:=0) rfl),fun y hy=>(sL y hy).mono (bn (i:=1) rfl)⟩
    have rP:=lZ _ _ dJ AX ai oM ai
    have hee:cn (dJ.map It.p)=dO l:=by rw[nT];rfl
    rw[hee]at rP
    refine go ?_
    refine aN (ao.bK [_,_] _) ?_
    refine aF rP ?_
    rintro _ _⟨rr,rfl,rfl⟩
    refine go ?_
    refine ad hE Tryz.func168 zr zr (.inr ⟨rr,h0,rfl,rfl⟩)
def xG(A:HP)(hK:pY A)(v:Value)(l:List Bl)(hv:Vw A v l.length (l.flatMap ck))(hlen:l.length≤1000000) :
  au Tryz.prog 119 [tt v] [A] (fun r H=>r=(if cG l=0 then .tuple #[dV (cw l),.int .i64 0]else .tuple #[dV Dg.zero,.int .i64 (cG l:Int)])∧H=[A]):=by
 have sK:=Cy A v l hv hlen
 obtain⟨a,c,rfl⟩:=hv.shape
 unfold tt at sK ⊢
 refine au.ak Tryz.func119 Tryz.ntmps119 fun G F R hE=>?_
 refine aD rfl ?_
 refine bu zr zr bh ?_
 intro b1
 refine az zr zr zr bh ?_
 intro b2
 refine go ?_
 refine aO (U:=aU) (l:=[.slice a l.length c]) 1 zr zr zr zr zr zr ?_
 refine aF sK ?_
 rintro _ _ (⟨h0,rfl,rfl⟩|⟨rv,h0,rfl,rfl⟩)
 ·rw[if_neg h0]at hE
  refine go ?_
  refine aq zr zr ?_ ?_
  case' refine_2=>(intro h;exfalso;omega)
  intro _
  refine go ?_
  refine gH (U:=aU) zr zr zr zr zr (go ?_)
  (refine a6 hE ?_;apply aZ (U:=aU) hE Tryz.func119 rfl (ao.refl _);(repeat(first|exact aR.nil|apply aR.tmp rfl|apply aR.agg 1 zr zr zr zr zr));exact⟨rfl,rfl⟩;exact ag)
 ·rw[if_pos h0]at hE
  have qf:=mP h0
  refine eZ (bs:=dO l) 0 rfl ?_
  intro PJ
  refine aN (ao.bK [_,_] _) (go ?_)
  refine aw (Bi _ (hK.mono (bn (H:=[aB 5 1 rv (dO l).length (bV (dO l)),A]) (i:=1) rfl)) rv (dO l) (PJ.mono (bn (i:=0) rfl)) ai) ?_
  refine aN (ao.bY _ _) (go ?_)
  (refine a6 hE ?_;apply aZ (U:=aU) hE Tryz.func119 rfl (ao.refl _);(repeat(first|exact aR.nil|apply aR.tmp rfl|apply aR.agg 2 zr zr zr zr zr));exact⟨rfl,rfl⟩;exact ag)
theorem LC{s p:Int}(hs:1≤s∧s≤1048576)(hp:1≤p∧p≤16384):fz .i64 ((s+p-1)/p):=by
 have h1:0≤(s+p-1)/p:=Int.ediv_nonneg ai ai
 have h2:(s+p-1)/p≤s+p-1:=Int.ediv_le_self _ ai
 grind [fz]
def zW(x:Bl):au Tryz.prog 211 [jU x] [] (fun r H=>r = .bool (bJ x)∧H=[]):=by
 have hF:¬(1≤x.size∧x.size≤1048576∧16≤x.piece∧x.piece≤16384)→Value.bool false = .bool (bJ x):=fun h=>congrArg Value.bool (by unfold bJ;rw[decide_eq_false (by rintro⟨a,b,c,e,_⟩;exact h ⟨a,b,c,e⟩)])
 have hT:(1≤x.size∧x.size≤1048576∧16≤x.piece∧x.piece≤16384)→Value.bool (decide ((x.size+x.piece-1)/x.piece≤1024)) = .bool (bJ x):=fun h=>congrArg Value.bool (by unfold bJ;rw[decide_eq_decide];exact⟨fun g=>⟨h.1,h.2.1,h.2.2.1,h.2.2.2,g⟩,fun g=>g.2.2.2.2⟩)
 unfold jU
 refine au.ak Tryz.func211 Tryz.ntmps211 fun G F R hE=>?_
 refine aD rfl ?_
 refine bu zr zr bh ?_
 intro b1
 repeat'(first|(with_reducible intro jg)|refine er ?_|refine dP zr zr zr zr ?_ ?_|(refine lU ?_;refine mT zr zr zr ai ai (LC ai ai) ?_))
 all_goals(first|((refine ad hE Tryz.func211 zr zr ⟨hF ai,rfl⟩))|((refine ad hE Tryz.func211 zr zr ⟨hT ai,rfl⟩)))
def Ku(x:Bl):au Tryz.prog 105 [jU x] [] (fun r H=>r = .int .i64 (dM x)∧H=[]):=by
 unfold jU
 refine au.ak Tryz.func105 Tryz.ntmps105 fun G F R hE=>?_
 refine aD rfl ?_
 refine bu zr zr bh ?_
 intro b1
 refine go ?_
 refine aO (U:=aU) 0 zr zr zr zr zr zr ?_
 refine aw (zW x) ?_
 cases hr:bJ x with
 | false =>
  have hc:dM x=0:=by unfold dM;rw[if_neg (by rw[hr];simp)]
  rw[hc]at hE
  refine go ?_
  refine ad hE Tryz.func105 zr zr ⟨rfl,rfl⟩
 | true =>
  have hc:dM x=(x.size+x.piece-1)/x.piece:=by unfold dM;rw[if_pos hr]
  rw[hc]at hE
  simp only[bJ,decide_eq_true_eq]at hr
  refine go ?_
  refine mT zr zr zr ai ai (LC ai ai) (go ?_)
  refine ad hE Tryz.func105 zr zr ⟨rfl,rfl⟩
def yq:Tryz.prog.eqGuardType Tryz.prog.depth 32=false:=by kernel_rfl
def yu(a b:Dg)(w:World):(Op.equal 32 (.agg (dC a).toArray) (.agg (dC b).toArray)).run Tryz.prog w = .ok (decide (a=b)) w :=
 ng Tryz.underlying32 Tryz.underlying5 ZP a b 9998 w
theorem Gh(A:HP)(v:Value)(b:List UInt8)(hv:ew A v b)(hl:b.length≤900000000)(k:Int) :
  au Tryz.prog 47 [v,.int .i64 k] [A] (fun r H=>(iT b k=none∧r = .tuple #[.slice none 0 0,.int .i64 1]∧H=[A])∨∃ls rv,iT b k=some ls∧r = .tuple #[rv,.int .i64 0]∧H=[aB 32 32 rv ls.length (ls.flatMap dC),A]):=by
 obtain⟨a,c,rfl,hc⟩:=hv.2
 refine au.ak Tryz.func47 Tryz.ntmps47 fun G F R hE=>?_
 refine go ?_
 refine aw (Ku ⟨Dg.zero,b.length,k,Dg.zero⟩) ?_
 cases hr:bJ ⟨Dg.zero,b.length,k,Dg.zero⟩with
 | false =>
  have hn:iT b k=none:=by unfold iT;rw[if_neg (by rw[hr];simp)]
  have M5:dM ⟨Dg.zero,b.length,k,Dg.zero⟩=0:=by unfold dM;rw[if_neg (by rw[hr];simp)]
  rw[M5]
  refine go ?_
  refine ad hE Tryz.func47 zr zr (.inl ⟨hn,rfl,rfl⟩)
 | true =>
  have hs:iT b k=some ((iP k.toNat b.length b).map dq):=by unfold iT;rw[if_pos hr]
  have hcr:dM ⟨Dg.zero,b.length,k,Dg.zero⟩=((b.length:Int)+k-1)/k:=by unfold dM;rw[if_pos hr]
  have Hk:=ur hs
  simp only[bJ,decide_eq_true_eq]at hr
  obtain⟨k,rfl⟩:∃m:Nat,k=m:=⟨k.toNat,ai⟩
  rw[Int.toNat_natCast]at hs Hk
  have AT:=uj k (show 0<k by omega) b
  have hpg:=oD k (show 0<k by omega) b.length b
  rw[hcr,show((b.length:Int)+(k:Int)-1)/(k:Int)=(((iP k b.length b).length:Nat):Int)from by rw[AT,Int.natCast_ediv];congr 1;omega]
  rw[List.length_map]at Hk
  obtain⟨ps,Y4⟩:∃ps,ps=iP k b.length b:=⟨_,rfl⟩
  rw[← Y4]at hs Hk AT hpg ⊢
  refine go ?_
  refine aq zr zr ?_ ?_
  ·grind
  intro _
  refine go ?_
  refine al (bg 32 32 none _) ?_
  refine bj (fun y:Nat × Option Addr × Nat=>y.1≤ps.length) (fun y=>ps.length-y.1)
   (fun y=>[(0,.slice a b.length c),(1,.int .i64 (k:Int)),(6,.int .i64 (ps.length:Int)),(7,.slice y.2.1 ((ps.take y.1).map dq).length y.2.2),(8,.int .i64 (y.1:Int))])
   (fun y=>aB 32 32 (.slice y.2.1 ((ps.take y.1).map dq).length y.2.2) ((ps.take y.1).map dq).length (((ps.take y.1).map dq).flatMap dC)::A::F) (0,none,0) (Nat.zero_le _) rfl bS ag ?_
  rintro⟨i,oa,oc⟩ hi ih
  simp only at hi
  dsimp only
  have uz:((ps.take i).map dq).length=i:=by rw[List.length_map,List.length_take];omega
  refine go ?_
  refine aq zr zr ?_ ?_
  ·intro cL
   have dA:i<ps.length:=by omega
   obtain⟨p,hp⟩:∃p,ps[i]?=some p:=⟨ps[i],by simp⟩
   have hpi:=hpg i (Nat.le_refl _)
   rw[hp]at hpi
   have hik:i*k<b.length:=by
    grind
   rw[if_pos hik]at hpi
   have hpe:p=(b.drop (i*k)).take k:=Option.some.inj hpi
   have QQ:p.length=min k (b.length-i*k):=by rw[hpe,List.length_take,List.length_drop]
   have aeV:(i+1)*k=i*k+k:=by rw[Nat.add_mul,Nat.one_mul]
   have Hw:(i:Int)*(k:Int)=((i*k:Nat):Int):=(Int.natCast_mul i k).symm
   have FD:((i:Int)+1)*(k:Int)=((i*k:Nat):Int)+k:=by rw[Int.add_mul,Int.one_mul,Hw]
   obtain⟨ik,ad2⟩:∃ik,ik=i*k:=⟨_,rfl⟩
   rw[← ad2]at hik hpe QQ Hw FD
   have hbp:=hv.piece ik (ik+p.length) ai ai
   rw[show ik+p.length-ik=p.length from by omega]at hbp
   have adI:(b.drop ik).take p.length=p:=by
    grind
   rw[adI]at hbp
   have jl:(ps.take (i+1)).map dq=(ps.take i).map dq++[dq p]:=by rw[List.take_add_one,hp];simp
   refine go ?_
   refine eN zr zr zr (by rw[Hw];simp only[fz];omega) ?_
   rw[Hw]
   refine go ?_
   refine eN zr zr zr (by rw[FD];simp only[fz];omega) ?_
   rw[FD]
   refine go ?_
   have Y8:min (b.length:Int) (((ik:Nat):Int)+(k:Int))=((ik+p.length:Nat):Int):=by rw[QQ];omega
   refine bw (p:=((ik:Nat):Int)) (q:=min (b.length:Int) (((ik:Nat):Int)+(k:Int))) zr zr zr zr zr zr zr ai ai (.inr ai) ?_
   ((refine aG 33 ((.slice (sliceAt a c ik 1) p.length (c-ik))) rfl ((by rw[Y8,Int.toNat_natCast,Int.toNat_natCast,show ik+p.length-ik=p.length from by omega];rfl)) ?_))
   refine aw (NQ A _ p hbp ai) ?_
   refine aj (cs:=dC (dq p)) zr zr zr zr zr zr zr zr zr bh ?_
   intro row
   refine aJ (mm:=1) (news:=dC (dq p)) 2 0 zr zr zr zr zr zr zr zr zr zr zr zr (Vw.ae rfl) rfl (by rw[dW];exact cB _) (by rw[uz];omega) (by show(_+_)*32≤_;rw[uz];omega) (fun _=>rfl) bh ?_
   intro v1
   rw[show((ps.take i).map dq).flatMap dC++dC (dq p)=((ps.take (i+1)).map dq).flatMap dC from by rw[jl];simp,show((ps.take i).map dq).length+1=((ps.take (i+1)).map dq).length from by rw[jl];simp]
   refine aH 2 rfl ?_
   rintro ja jc rfl
   refine go ?_
   refine aM ih (i+1,ja,jc) rfl (by simp only;omega) (by simp only;omega) bS ag
  ·intro ep
   have qY:i=ps.length:=by omega
   subst qY
   rw[List.take_length]
   refine go ?_
   refine ad hE Tryz.func47 zr zr (.inr ⟨_,_,hs,rfl,rfl⟩)
def N'(A:HP)(v:Value)(b:List UInt8)(hv:ew A v b)(hl:b.length≤900000000)(k:Int) :
  au Tryz.prog 17 [v,.int .i64 k] [A] (fun r H=>r=(match o7 b k with
   | none => .tuple #[jU Bl.zero,.int .i64 1]
   | some x => .tuple #[jU x,.int .i64 0])∧H=[A]):=by
 have sI:=hv
 obtain⟨a,c,rfl,hc⟩:=hv.2
 refine au.ak Tryz.func17 Tryz.ntmps17 fun G F R hE=>?_
 refine aD rfl ?_
 refine az zr zr zr bh ?_
 intro b4
 refine go ?_
 refine aF (Gh A _ b hv hl k) ?_
 rintro _ _ (⟨hn,rfl,rfl⟩|⟨ls,rv,hs,rfl,rfl⟩)
 ·have hb:o7 b k=none:=by unfold o7;rw[hn];rfl
  rw[hb]at hE
  refine go ?_
  (refine a6 hE ?_;apply aZ (U:=aU) hE Tryz.func17 rfl (ao.refl _);(repeat(first|exact aR.nil|apply aR.tmp rfl|apply aR.agg 1 zr zr zr zr zr));exact⟨rfl,rfl⟩;exact ag)
 ·have hb:o7 b k=some ⟨ej b,b.length,k,B9 ls⟩:=by unfold o7;rw[hs];rfl
  rw[hb]at hE
  have Hk:=ur hs
  refine aH 0 rfl ?_
  rintro ra rc rfl
  refine go ?_
  refine aw (Bh A _ b hv ai) ?_
  refine go ?_
  refine aN (ao.pick [1,0] rfl) ?_
  refine DH fun cW=>?_
  ((refine aF (NI _ _ ls (cW.mono (bn (i:=0) rfl)) ai (by intro e;rw[e]at Hk;simp at Hk)) ?_))
  rintro _ _⟨rfl,rfl⟩
  refine aN (ao.bY _ _) (go ?_)
  (refine a6 hE ?_;apply aZ (U:=aU) hE Tryz.func17 rfl (ao.refl _);(repeat(first|exact aR.nil|apply aR.tmp rfl|apply aR.agg 2 zr zr zr zr zr));exact⟨rfl,rfl⟩;exact ag)
end Go.Proofs.YtlcoaflddajjcaaGreatDoor
namespace Go.Proofs.YtlcoaflddajjcaaGreatDoor
open Go Go.SL
attribute [local irreducible] J K au Ends ae aB aI bB aW aS a7 aX bF
def vy(m:Nat)(z:Int)(h:z=((m%256:Nat):Int)):Value.int .u8 z=u8 (UInt8.ofNat m):=by
 subst h;simp[u8,UInt8.toNat_ofNat']
def ow(n:Nat)(hn:n≤1000000000000):au Tryz.prog 112 [.int .u64 (n:Int)] [] (fun r H=>H=[aB 5 1 r (uv n).length (bV (uv n))]):=by
 have MQ:=mu (n:=n) ai
 refine au.ak Tryz.func112 Tryz.ntmps112 fun G F R hE=>?_
 refine go ?_
 refine al (bg 5 1 none _) ?_
 refine bj (fun y:Value × List UInt8 × Nat=>y.2.2≤n∧y.2.1++uv y.2.2=uv n) (fun y=>y.2.2)
  (fun y=>[(0,.int .u64 (y.2.2:Int)),(3,y.1)])
  (fun y=>aB 5 1 y.1 y.2.1.length (bV y.2.1)::F) (.slice none 0 0,[],n) ⟨Nat.le_refl _,rfl⟩ rfl bS ag ?_
 rintro⟨v,acc,m⟩⟨hm,eX⟩ ih
 simp only at hm eX
 have KO:acc.length+(uv m).length=(uv n).length:=by rw[← eX,List.length_append]
 have oO:=K1 m
 refine db 0 rfl ?_
 intro va vc sI
 simp only at sI
 subst sI
 simp only
 refine go ?_
 refine aq zr zr ?_ ?_
 ·intro qE
  have zv:¬m<128:=by omega
  have Pf:=vu zv
  have hul:(uv m).length=(uv (m/128)).length+1:=by rw[Pf];simp
  (repeat(first|refine er ?_|refine lT zr zr zr ai ai ?_))
  refine aG 10 (u8 (UInt8.ofNat (m%128+128))) rfl (vy (m%128+128) _ ai) ?_
  refine aj (cs:=bV [UInt8.ofNat (m%128+128)]) zr zr zr zr zr zr zr zr zr bh ?_
  intro b
  refine go ?_
  refine aJ (mm:=1) (news:=bV [UInt8.ofNat (m%128+128)]) 1 0 zr zr zr zr zr zr zr zr zr zr zr zr (Vw.ae rfl) rfl (cB _) ai (by show(_+_)*1≤_;omega) (fun _=>rfl) bh ?_
  intro v1
  rw[show bV acc++bV [UInt8.ofNat (m%128+128)]=bV (acc++[UInt8.ofNat (m%128+128)])from by simp[bV],show acc.length+1=(acc++[UInt8.ofNat (m%128+128)]).length from by simp]
  refine aH 1 rfl ?_
  rintro va1 vc1 rfl
  (repeat(first|refine er ?_|refine mT zr zr zr ai ai (by simp only[fz];omega) ?_))
  refine bq 0 ((.int .u64 ((m/128:Nat):Int))) rfl ((congrArg (Value.int .u64) ai)) ?_
  refine aM ih (.slice va1 (acc++[UInt8.ofNat (m%128+128)]).length vc1,acc++[UInt8.ofNat (m%128+128)],m/128) rfl (⟨by simp only;omega,by simp only;rw[List.append_assoc,List.singleton_append,← Pf];exact eX⟩) (by simp only;omega) bS ag
 intro xW
 have zv:m<128:=by omega
 have Pf:=fX zv
 (repeat((refine er ?_)))
 refine aG 17 (u8 (UInt8.ofNat m)) rfl (vy m _ ai) ?_
 refine aj (cs:=bV [UInt8.ofNat m]) zr zr zr zr zr zr zr zr zr bh ?_
 intro b
 refine go ?_
 refine aJ (mm:=1) (news:=bV [UInt8.ofNat m]) 1 0 zr zr zr zr zr zr zr zr zr zr zr zr (Vw.ae rfl) rfl (cB _) ai (by show(_+_)*1≤_;omega) (fun _=>rfl) bh ?_
 intro v1
 rw[show bV acc++bV [UInt8.ofNat m]=bV (uv n)from by rw[← eX,Pf];simp[bV],show acc.length+1=(uv n).length from by rw[← eX,Pf];simp]
 refine aH 1 rfl ?_
 rintro va1 vc1 rfl
 refine go ?_
 refine aK hE Tryz.func112 rfl _ zr zr ag
def qc(X:HP)(v:Value)(l:List It)(hv:lW X v l)(hl:l.length≤63)(hr:dF 0 (l.map It.p)=true)(hs:(cn (l.map It.p)).length≤65536) :
    au Tryz.prog 111 [v] [X] (fun r H=>∃rv,r = .tuple #[rv,.int .i64 0]∧H=[aB 5 1 rv (cn (l.map It.p)).length (bV (cn (l.map It.p))),X]):=by
  obtain⟨cW,hvb⟩:=hv
  obtain⟨a,c,rfl⟩:=cW.shape
  refine au.ak Tryz.func111 Tryz.ntmps111 fun G F R hE=>?_
  refine go ?_
  refine aq zr zr ?_ ?_
  · intro h;exfalso;omega
  intro _
  refine go ?_
  refine al (bg 5 1 none _) ?_
  refine bj (fun y:Nat × List UInt8 × Option Addr × Nat=>y.1≤l.length∧y.2.1=cn ((l.map It.p).take y.1)) (fun y=>l.length-y.1)
    (fun y=>[(0,.slice a l.length c),(4,.slice y.2.2.1 y.2.1.length y.2.2.2),(5,.int .i64 (kf (l.map It.p) y.1)),(6,.int .i64 (y.1:Int))])
    (fun y=>aB 5 1 (.slice y.2.2.1 y.2.1.length y.2.2.2) y.2.1.length (bV y.2.1)::X::F) (0,[],none,0) ⟨Nat.zero_le _,rfl⟩ rfl bS ag ?_
  rintro⟨i,acc,a1,c1⟩⟨hi,eX⟩ ih
  simp only at hi eX
  dsimp only
  have KO:=pF (l.map It.p) i
  rw[← eX]at KO
  refine go ?_
  refine aq zr zr ?_ ?_
  case' refine_2 =>
    intro ep
    have jq:acc=cn (l.map It.p):=by rw[eX,List.take_of_length_le (by rw[List.length_map];omega)]
    subst jq
    refine go ?_
    refine ad hE Tryz.func111 zr zr ⟨_,rfl,rfl⟩
  intro cL
  have dA:i<l.length:=by omega
  obtain⟨x,hx⟩:∃x,l[i]?=some x:=⟨l[i],by simp⟩
  have Fl:(l.map It.p)[i]?=some x.p:=by rw[List.getElem?_map,hx];rfl
  obtain⟨uA,uQ⟩:=Cb _ 0 i x.p hr Fl
  have uA:kf (l.map It.p) i<x.n:=uA
  have uQ:x.n≤63:=uQ
  have mW:=qx Fl
  have wO:=hvb x (List.mem_of_getElem? hx)
  obtain⟨xn,xv,xb⟩:=x
  simp only at uA uQ wO
  have mW:kf (l.map It.p) (i+1)=xn:=mW
  obtain⟨xa,xc,rfl,hxc⟩:=wO.2
  have ht:cn ((l.map It.p).take (i+1))=acc++fH (xn,xb):=by
    rw[List.take_add_one,Fl,Option.toList_some,rA,← eX];simp[cn,It.p]
  have Zw:=pF (l.map It.p) (i+1)
  rw[ht,List.length_append]at Zw
  have Hr:(fH (xn,xb)).length=1+(uv xb.length).length+xb.length:=by simp only[fH,List.length_cons,List.length_append];omega
  obtain⟨b,o,c',he⟩:=cW.some (by rw[← List.length_pos_iff,bT fT];omega)
  simp only[Value.slice.injEq,true_and]at he
  obtain⟨rfl,rfl⟩:=he
  have e0:(l.flatMap gY)[i*2+0]?=some (.int .i64 xn):=cM fT hx 0 ai
  have e1:(l.flatMap gY)[i*2+1]?=some (.slice xa xb.length xc):=cM fT hx 1 ai
  obtain⟨xm,rfl⟩:∃m:Nat,xn=m:=⟨xn.toNat,by
    have:0<xn:=Ca _ 0 hr (Int.le_refl _) _ (List.mem_of_getElem? Fl)
    omega⟩
  repeat'(first|(with_reducible intro jg)|refine er ?_|refine dP zr zr zr zr ?_ ?_|refine aq zr zr ?_ ?_|refine bW i 2 zr zr zr zr zr zr zr zr dA ?_|(refine aP ?_;first|refine aQ 1 (i*2+0) zr zr zr cW (Nat.add_assoc _ _ _) e0 zr zr ?_|refine aQ 1 (i*2+1) zr zr zr cW (Nat.add_assoc _ _ _) e1 zr zr ?_))
  any_goals (exfalso;omega)
  (repeat(fail))
  refine aG 47 ((u8 (UInt8.ofNat xm))) rfl ((vy xm _ ai)) (go ?_)
  refine aj (cs:=bV [UInt8.ofNat xm]) zr zr zr zr zr zr zr zr zr bh ?_
  intro row
  refine go ?_
  refine aJ (mm:=1) (news:=bV [UInt8.ofNat xm]) 1 0 zr zr zr zr zr zr zr zr zr zr zr zr (Vw.ae rfl) rfl (cB _) ai (by show(_+_)*1≤_;omega) (fun _=>rfl) bh ?_
  intro v1
  rw[show bV acc++bV [UInt8.ofNat xm]=bV (acc++[UInt8.ofNat xm])from by simp[bV],show acc.length+1=(acc++[UInt8.ofNat xm]).length from by simp]
  refine aH 1 rfl ?_
  rintro a2 c2 rfl
  refine aN (H':=aB 5 1 (.slice a2 (acc++[UInt8.ofNat xm]).length c2) (acc++[UInt8.ofNat xm]).length (bV (acc++[UInt8.ofNat xm]))::X::F) ag ?_
  (repeat(first|refine er ?_|refine bW i 2 zr zr zr zr zr zr zr zr dA ?_|(refine aP ?_;refine aQ 1 (i*2+1) zr zr zr cW (Nat.add_assoc _ _ _) e1 zr zr ?_)))
  refine aF (ow xb.length ai) ?_
  rintro r _ rfl
  refine aH 0 rfl ?_
  rintro ra rc rfl
  refine dH 0 rfl ?_
  intro zy
  refine go ?_
  refine aJ (mm:=(uv xb.length).length) (news:=bV (uv xb.length)) 1 0 zr zr zr zr zr zr zr zr zr zr zr zr zy (by show _=_*1;rw[bD];omega) (cB _) (by simp only[List.length_append,List.length_singleton];omega) (by show(_+_)*1≤_;simp only[List.length_append,List.length_singleton];omega) (fun _=>rfl) bh ?_
  intro v2
  rw[show bV (acc++[UInt8.ofNat xm])++bV (uv xb.length)=bV (acc++[UInt8.ofNat xm]++uv xb.length)from by simp[bV],show(acc++[UInt8.ofNat xm]).length+(uv xb.length).length=(acc++[UInt8.ofNat xm]++uv xb.length).length from by simp;omega]
  refine aH 1 rfl ?_
  rintro a3 c3 rfl
  refine aN (H':=aB 5 1 (.slice a3 (acc++[UInt8.ofNat xm]++uv xb.length).length c3) (acc++[UInt8.ofNat xm]++uv xb.length).length (bV (acc++[UInt8.ofNat xm]++uv xb.length))::X::F) ag ?_
  (repeat(first|refine er ?_|refine bW i 2 zr zr zr zr zr zr zr zr dA ?_|(refine aP ?_;refine aQ 1 (i*2+1) zr zr zr cW (Nat.add_assoc _ _ _) e1 zr zr ?_)))
  refine aJ (mm:=xb.length) (news:=bV xb) 0 1 zr zr zr zr zr zr zr zr zr zr zr zr wO.1 (by show _=_*1;rw[bD];omega) (cB _) (by simp only[List.length_append,List.length_singleton];omega) (by show(_+_)*1≤_;simp only[List.length_append,List.length_singleton];omega) (fun _=>rfl) bh ?_
  intro v3
  rw[show bV (acc++[UInt8.ofNat xm]++uv xb.length)++bV xb=bV (acc++fH (xm,xb))from by simp[bV,fH],show(acc++[UInt8.ofNat xm]++uv xb.length).length+xb.length=(acc++fH (xm,xb)).length from by simp[fH];omega]
  refine aH 0 rfl ?_
  rintro a4 c4 rfl
  refine go ?_
  refine aq zr zr ?_ ?_
  · intro qE;exfalso;simp only[List.length_append]at qE;omega
  intro _
  refine go ?_
  refine bq 5 ((.int .i64 (kf (l.map It.p) (i+1)))) rfl ((congrArg (Value.int .i64) mW.symm)) ?_
  refine aM ih (i+1,acc++fH (xm,xb),a4,c4) rfl ⟨by simp only;omega,by simp only;rw[ht]⟩ (by simp only;omega) bS ag
attribute [local irreducible] Sha.chunks Sha.chunk Sha.rounds Sha.sched ej cz GI dq
def Rb{x:Bl}{q:Nat}{w:Value}(h:(dC x.d)[q]?=some w):(ck x)[q]?=some w:=by
 have hq:=(List.getElem?_eq_some_iff.1 h).1
 unfold ck
 rw[List.append_assoc,List.getElem?_append_left hq]
 exact h
def BK(l:List Bl)(x:Bl):jy (l++[x])=(jy l || l.any fun y=>decide (y.d=x.d)):=by
 induction l with
 | nil=>rfl
 | cons y l ih =>
  simp only[List.cons_append,jy,ih,List.any_append,List.any_cons,List.any_nil,Bool.or_false]
  by_cases h:x.d=y.d
  ·simp[h]
  ·have h2:¬y.d=x.d:=fun e=>h e.symm
   simp only[h,h2,decide_false,Bool.or_false,Bool.false_or]
   rw[Bool.or_assoc]
def Ay(A:HP)(v:Value)(l:List Bl)(hv:Vw A v l.length (l.flatMap ck))(hlen:l.length≤9223372036854775807) :
  au Tryz.prog 110 [tt v] [A] (fun r H=>r = .int .i64 (cG l:Int)∧H=[A]):=by
 obtain⟨a,c,rfl⟩:=hv.shape
 have hrt:=zW
 unfold jU at hrt
 unfold tt
 refine au.ak Tryz.func110 Tryz.ntmps110 fun G F R hE=>?_
 refine aD rfl ?_
 refine bu zr zr bh ?_
 intro b1
 by_cases u7:l.length<1∨16<l.length
 ·have h1:cG l=1:=by unfold cG;rw[if_pos (by rcases u7 with h|h;exact .inl h;exact .inr (.inl h))]
  rw[h1]at hE
  repeat'(first|(with_reducible intro jg)|refine er ?_|refine dP zr zr zr zr ?_ ?_|refine aq zr zr ?_ ?_)
  all_goals(first|(exfalso;omega)|skip)
  all_goals(((refine ad hE Tryz.func110 zr zr ⟨rfl,rfl⟩)))
 have lB:∀(i:Nat) x,l[i]?=some x→bJ x=false→cG l=1:=fun i x hx hr=>by
  unfold cG
  rw[if_pos (.inr (.inr (List.any_eq_true.2 ⟨x,List.mem_of_getElem? hx,by rw[hr];rfl⟩)))]
 repeat'(first|(with_reducible intro jg)|refine er ?_|refine dP zr zr zr zr ?_ ?_|refine aq zr zr ?_ ?_)
 all_goals(first|(exfalso;omega)|skip)
 refine bj (fun y:Nat × Bool=>y.1≤l.length∧y.2=jy (l.take y.1)∧∀x∈l.take y.1,bJ x=true) (fun y=>l.length-y.1)
  (fun y=>[(1,ptr b1),(3,.bool y.2),(4,.int .i64 (y.1:Int))])
  (fun y=>ae b1 (cl [.slice a l.length c] 75)::A::F) (0,false) ⟨Nat.zero_le _,rfl,by simp⟩ rfl bS ag ?_
 rintro⟨i,tw⟩⟨hi,htw,MH⟩ ih
 simp only at hi htw MH
 dsimp only
 refine go ?_
 refine aq zr zr ?_ ?_
 ·intro cL
  have dA:i<l.length:=by omega
  obtain⟨x,hx⟩:∃x,l[i]?=some x:=⟨l[i],by simp⟩
  obtain⟨b,o,eY,dL⟩:=hv.some (Nq dA)
  simp only[Value.slice.injEq]at dL
  obtain⟨rfl,_,rfl⟩:=dL
  refine go ?_
  refine bW i 66 zr zr zr zr zr zr zr zr dA ?_
  refine aP ?_
  refine cd (U:=aU) (es:=ck x) 1 (i*66) zr zr zr hv rfl (ZS hx) zr zr zr ?_
  refine aw (hrt x) ?_
  cases hr:bJ x with
  | false =>
   rw[lB i x hx hr]at hE
   refine go ?_
   refine ad hE Tryz.func110 zr zr ⟨rfl,rfl⟩
  | true =>
   have gS:jy (l.take (i+1))=(tw || (l.take i).any fun y=>decide (y.d=x.d)):=by
    rw[List.take_add_one,hx,Option.toList_some,BK,← htw]
   have adD:∀y∈l.take (i+1),bJ y=true:=fun y hy=>by
    rw[List.take_add_one,hx,Option.toList_some]at hy
    rcases List.mem_append.1 hy with h|h
    ·exact MH y h
    ·rw[List.mem_singleton.1 h];exact hr
   refine go ?_
   have ihO:=ih
   clear ih
   refine bj (fun y:Nat × Bool=>y.1≤i∧y.2=(tw || (l.take y.1).any fun z=>decide (z.d=x.d))) (fun y=>i-y.1)
    (fun y=>[(1,ptr b1),(3,.bool y.2),(4,.int .i64 (i:Int)),(6,.int .i64 (y.1:Int))])
    (fun y=>ae b1 (cl [.slice (some ⟨b,o,none⟩) l.length c] 75)::A::F) (0,tw) ⟨Nat.zero_le _,by simp⟩ rfl bS ag ?_
   rintro⟨k,tk⟩⟨hk,jl⟩ ih
   simp only at hk jl
   dsimp only
   refine go ?_
   refine aq zr zr ?_ ?_
   ·intro Jj
    have hk':k<l.length:=by omega
    have hki:k<i:=by omega
    obtain⟨y,hy⟩:∃x,l[k]?=some x:=⟨l[k],by simp⟩
    have Hn:(tw || (l.take (k+1)).any fun z=>decide (z.d=x.d))=(tk || decide (y.d=x.d)):=by
     rw[List.take_add_one,hy,Option.toList_some,List.any_append,← Bool.or_assoc,← jl];simp
    cases tk with
    | true =>
     rw[Bool.true_or]at Hn
     refine aL (fun w=>Sat G w ([ae b1 (cl [.slice (some ⟨b,o,none⟩) l.length c] 75),A])) (cJ 0 17 .nil) rfl ah ah ah dv ?_
     refine go ?_
     refine aM ih (k+1,true) rfl ⟨by simp only;omega,Hn.symm⟩ (by simp only;omega) bS ag
    | false =>
     rw[Bool.false_or]at Hn
     refine aL (fun w=>Sat G w ([ae b1 (cl [.slice (some ⟨b,o,none⟩) l.length c] 75),A])) (cJ 0 17 .nil) rfl ah ah ah dv ?_
     refine go ?_
     refine bW k 66 zr zr zr zr zr zr zr zr hk' (go ?_)
     refine aP ?_
     refine eC (U:=aU) (es:=dC y.d) 1 (k*66) zr zr zr hv rfl (fun q w hq=>ZS hy q w (Rb hq)) zr zr zr ?_
     refine go ?_
     refine bW i 66 zr zr zr zr zr zr zr zr dA (go ?_)
     refine aP ?_
     refine eC (U:=aU) (es:=dC x.d) 1 (i*66) zr zr zr hv rfl (fun q w hq=>ZS hx q w (Rb hq)) zr zr zr ?_
     refine go ?_
     refine gQ (b:=decide (y.d=x.d)) zr zr zr yq (fun w=>yu y.d x.d w) ?_
     refine go ?_
     refine aM ih (k+1,decide (y.d=x.d)) rfl ⟨by simp only;omega,Hn.symm⟩ (by simp only;omega) bS ag
   ·intro ad5
    have hke:k=i:=by omega
    rw[hke,← gS]at jl
    clear ih
    have ih:=ihO
    refine go ?_
    refine aM ih (i+1,tk) rfl ⟨by simp only;omega,jl,adD⟩ (by simp only;omega) bS ag
 ·intro ep
  have qY:i=l.length:=by omega
  rw[qY,List.take_length]at htw MH
  have j9:cG l=if tw then 5 else 0:=by
   unfold cG
   rw[if_neg (by
    rintro(h|h|h)
    ·exact u7 (.inl h)
    ·exact u7 (.inr h)
    ·obtain⟨z,hz,QG⟩:=List.any_eq_true.1 h
     rw[MH z hz]at QG
     cases QG),← htw]
  clear ih
  cases tw with
  | true =>
   rw[j9]at hE
   refine go ?_
   refine ad hE Tryz.func110 zr zr ⟨rfl,rfl⟩
  | false =>
   rw[j9]at hE
   refine go ?_
   refine ad hE Tryz.func110 zr zr ⟨rfl,rfl⟩
def ox(A:HP)(v:Value)(l:List Bl)(hv:Vw A v l.length (l.flatMap ck))(hlen:l.length≤9223372036854775807) :
    au Tryz.prog 50 [tt v] [A] (fun r H=>(cG l≠0∧r = .tuple #[.slice none 0 0,.int .i64 (cG l:Int)]∧H=[A]) ∨
      ∃rv,cG l=0∧r = .tuple #[rv,.int .i64 0]∧H=[aB 5 1 rv (dO l).length (bV (dO l)),A]):=by
  have sK:=Ay A v l hv hlen
  obtain⟨a,c,rfl⟩:=hv.shape
  unfold tt at sK ⊢
  refine au.ak Tryz.func50 Tryz.ntmps50 fun G F R hE=>?_
  refine aD rfl ?_
  refine bu zr zr bh ?_
  intro b1
  refine go ?_
  refine aO (U:=aU) (l:=[.slice a l.length c]) 0 zr zr zr zr zr zr ?_
  refine aw sK ?_
  refine go ?_
  refine aq zr zr ?_ ?_
  · intro fu
    have jS:cG l≠0:=by omega
    refine go ?_
    refine ad hE Tryz.func50 zr zr (.inl ⟨jS,rfl,rfl⟩)
  intro heq
  have h0:cG l=0:=by omega
  obtain⟨adX,wH,qC⟩:=iU h0
  refine go ?_
  refine al (ao.trans (ao.bK [] _) (bg 229 2 none _)) ?_
  refine bj (fun y:Nat × Its × Option Addr × Nat=>y.1≤l.length∧y.2.1.l.map It.p=fR 0 (l.take y.1)∧∀z∈y.2.1.l,ew y.2.1.Z z.v z.b) (fun y=>l.length-y.1)
    (fun y=>[(1,ptr b1),(5,.slice y.2.2.1 y.2.1.l.length y.2.2.2),(6,.int .i64 (y.1:Int))])
    (fun y=>aB 229 2 (.slice y.2.2.1 y.2.1.l.length y.2.2.2) y.2.1.l.length (y.2.1.l.flatMap gY)::y.2.1.Z::A::ae b1 (cl [.slice a l.length c] 75)::F) (0,⟨[],Sep []⟩,none,0) ⟨Nat.zero_le _,rfl,by simp⟩ rfl bS ag ?_
  rintro⟨i,⟨dJ,Z⟩,ia,ic⟩⟨hi,nT,sL⟩ ih
  simp only at hi nT sL
  dsimp only
  have Zf:dJ.length=i:=by
    have:=congrArg List.length nT
    rw[List.length_map,l9,List.length_take]at this;omega
  refine go ?_
  refine aq zr zr ?_ ?_
  · intro cL
    have dA:i<l.length:=by omega
    obtain⟨x,hx⟩:∃x,l[i]?=some x:=⟨l[i],by simp⟩
    have YP:=qC x (List.mem_of_getElem? hx)
    have YO:=YP
    simp only[bJ,decide_eq_true_eq]at YO
    obtain⟨sz,iJ⟩:∃m:Nat,x.size=m:=⟨x.size.toNat,ai⟩
    obtain⟨pc,KI⟩:∃m:Nat,x.piece=m:=⟨x.piece.toNat,ai⟩
    obtain⟨b,o,eY,dL⟩:=hv.some (Nq dA)
    simp only[Value.slice.injEq]at dL
    obtain⟨rfl,_,rfl⟩:=dL
    refine go ?_
    refine bW i 66 zr zr zr zr zr zr zr zr dA ?_
    refine aP ?_
    refine cd (U:=aU) (es:=ck x) 2 (i*66) zr zr zr hv rfl (ZS hx) zr zr zr ?_
    refine az zr zr zr bh ?_
    intro b7
    refine go ?_
    refine aL (fun w=>Sat G w ([ae b7 (cl (ck x) 77)])) (cJ 0 6 (cJ 8 3 (cJ 13 3 (.act 6 (.st 7 (.act 11 (.st 12 (.act 16 (.act 17 (cJ 18 5 .nil)))))))))) rfl ah ah ah dv ?_
    (repeat(first|refine er ?_|refine fW (U:=aU) zr zr zr zr zr ?_))
    refine aG 33 ((.int .u64 (sz:Int))) rfl ((congrArg (Value.int .u64) iJ)) ?_
    refine aG 38 ((.int .u64 (pc:Int))) rfl ((congrArg (Value.int .u64) KI)) ?_
    refine cT (ow sz ai) ?_
    rintro r8 _ rfl
    refine aH 0 rfl ?_
    rintro a8 c8 rfl
    refine go ?_
    refine cT (ow pc ai) ?_
    rintro r9 _ rfl
    refine aH 0 rfl ?_
    rintro a9 c9 rfl
    refine eZ (bs:=uv pc) 0 rfl ?_
    intro PK
    refine eZ (bs:=uv sz) 1 rfl ?_
    intro Oo
    refine go ?_
    obtain⟨wD,wK⟩:∃wD:List It,wD=[⟨1,.slice (some ⟨b7,0,none⟩) 32 32,x.d.bs⟩,⟨2,.slice a8 (uv sz).length c8,uv sz⟩,⟨3,.slice a9 (uv pc).length c9,uv pc⟩,⟨4,.slice (some ⟨b7,34,none⟩) 32 32,x.root.bs⟩]:=⟨_,rfl⟩
    have Pn:wD.map It.p=bH x:=by rw[wK];simp only[bH,List.map_cons,List.map_nil,It.p,iJ,KI,Int.toNat_natCast]
    have Jd:=nA x YP
    refine aj (cs:=wD.flatMap gY) zr zr zr zr zr zr zr zr (by rw[wK];rfl) (fun _ _ hw=>hw.cu ag) ?_
    intro row
    have h4:wD.length=4:=by rw[wK];rfl
    have AX:lW (Sep [ae row (cl (wD.flatMap gY) 229),ae b7 (cl (ck x) 77),aB 5 1 (.slice a8 (uv sz).length c8) (uv sz).length (bV (uv sz)),aB 5 1 (.slice a9 (uv pc).length c9) (uv pc).length (bV (uv pc))]) (.slice (some ⟨row,0,none⟩) 4 4) wD:=by
      refine⟨?_,fun y hy=>?_⟩
      · rw[h4]
        exact(Vw.ae (by rw[List.drop_zero,List.take_length])).mono (bn (i:=0) rfl)
      · rw[wK]at hy
        simp only[List.mem_cons,List.not_mem_nil,or_false]at hy
        rcases hy with rfl|rfl|rfl|rfl
        · exact(ew.LV x.d.len (by rw[← dW];exact P' x)).mono (bn (i:=1) rfl)
        · exact Oo.mono (bn (i:=2) rfl)
        · exact PK.mono (bn (i:=3) rfl)
        · exact(ew.LV x.root.len (by rw[← dW];exact No x)).mono (bn (i:=1) rfl)
    have oM:dF 0 (wD.map It.p)=true:=by rw[Pn];simp[bH,dF]
    have rP:=qc _ _ wD AX ai oM (by rw[Pn];omega)
    rw[Pn]at rP
    clear oM AX Pn h4
    clear wK
    refine aN (ao.trans (H2:=ae row (cl (wD.flatMap gY) 229)::ae b7 (cl (ck x) 77)::aB 5 1 (.slice a8 (uv sz).length c8) (uv sz).length (bV (uv sz))::aB 5 1 (.slice a9 (uv pc).length c9) (uv pc).length (bV (uv pc))::aB 229 2 (.slice ia dJ.length ic) dJ.length (dJ.flatMap gY)::Z::A::ae b1 (cl [.slice (some ⟨b,o,none⟩) l.length c] 75)::F) ag (ao.bK [ae row (cl (wD.flatMap gY) 229),ae b7 (cl (ck x) 77),aB 5 1 (.slice a8 (uv sz).length c8) (uv sz).length (bV (uv sz)),aB 5 1 (.slice a9 (uv pc).length c9) (uv pc).length (bV (uv pc))] _)) ?_
    refine de rfl rfl rfl rfl rP ag ?_ (fun _ _ w hp hw=>by obtain⟨_,_,rfl⟩:=hp;exact hw.cu (ao.trans (ao.pick [1] rfl) (ao.trans (ao.bY [ae row (cl (wD.flatMap gY) 229),ae b7 (cl (ck x) 77),aB 5 1 (.slice a8 (uv sz).length c8) (uv sz).length (bV (uv sz)),aB 5 1 (.slice a9 (uv pc).length c9) (uv pc).length (bV (uv pc))] _) ag)))
    rintro _ _⟨rr,rfl,rfl⟩
    refine aH 0 rfl ?_
    rintro ra rc rfl
    refine eZ (bs:=cn (bH x)) 0 rfl ?_
    intro zy
    refine go ?_
    refine aN (H':=aB 5 1 (.slice ra (cn (bH x)).length rc) (cn (bH x)).length (bV (cn (bH x)))::aB 229 2 (.slice ia dJ.length ic) dJ.length (dJ.flatMap gY)::Z::A::ae b1 (cl [.slice (some ⟨b,o,none⟩) l.length c] 75)::F) ag ?_
    refine aj (cs:=gY ⟨(i:Int)+1,.slice ra (cn (bH x)).length rc,cn (bH x)⟩) zr zr zr zr zr zr zr zr zr bh ?_
    intro Iw
    refine go ?_
    refine aJ (mm:=1) (news:=gY ⟨(i:Int)+1,.slice ra (cn (bH x)).length rc,cn (bH x)⟩) 2 0 rfl rfl rfl rfl rfl rfl rfl rfl rfl rfl rfl rfl (Vw.ae rfl) rfl (by intro v hv;simp[gY]at hv;rcases hv with rfl|rfl <;> rfl) ai (by show(_+_)*32≤_;omega) (fun _=>rfl) bh ?_
    intro v1
    rw[show dJ.flatMap gY++gY (⟨(i:Int)+1,.slice ra (cn (bH x)).length rc,cn (bH x)⟩:It)=(dJ++[(⟨(i:Int)+1,.slice ra (cn (bH x)).length rc,cn (bH x)⟩:It)]).flatMap gY from by simp,show dJ.length+1=(dJ++[(⟨(i:Int)+1,.slice ra (cn (bH x)).length rc,cn (bH x)⟩:It)]).length from by simp]
    refine aH 2 rfl ?_
    rintro ja jc rfl
    refine go ?_
    have Fx:(dJ++[(⟨(i:Int)+1,.slice ra (cn (bH x)).length rc,cn (bH x)⟩:It)]).map It.p=fR 0 (l.take (i+1)):=by
      rw[List.take_add_one,hx,List.map_append,nT]
      simp only[Option.toList_some,qz,List.length_take,Nat.min_eq_left hi,Nat.zero_add,List.map_cons,List.map_nil,It.p]
    refine al (ao.trans (H2:=aB 5 1 (.slice ra (cn (bH x)).length rc) (cn (bH x)).length (bV (cn (bH x)))::Z::aB 229 2 (.slice ja (dJ++[(⟨(i:Int)+1,.slice ra (cn (bH x)).length rc,cn (bH x)⟩:It)]).length jc) (dJ++[(⟨(i:Int)+1,.slice ra (cn (bH x)).length rc,cn (bH x)⟩:It)]).length ((dJ++[(⟨(i:Int)+1,.slice ra (cn (bH x)).length rc,cn (bH x)⟩:It)]).flatMap gY)::A::ae b1 (cl [.slice (some ⟨b,o,none⟩) l.length c] 75)::F) ag (ao.bK [aB 5 1 (.slice ra (cn (bH x)).length rc) (cn (bH x)).length (bV (cn (bH x))),Z] _)) ?_
    refine aM ih (i+1,⟨dJ++[(⟨(i:Int)+1,.slice ra (cn (bH x)).length rc,cn (bH x)⟩:It)],Sep [aB 5 1 (.slice ra (cn (bH x)).length rc) (cn (bH x)).length (bV (cn (bH x))),Z]⟩,ja,jc) rfl ⟨by simp only;omega,Fx,fun z hz=>by
      rcases List.mem_append.1 hz with h|h
      · exact(sL z h).mono (bn (i:=1) rfl)
      · rw[List.mem_singleton.1 h];exact zy.mono (bn (i:=0) rfl)⟩ (by simp only;omega) bS ag
  · intro ep
    have qY:i=l.length:=by omega
    subst qY
    rw[List.take_length]at nT
    have qf:=mP h0
    unfold dO at qf
    have oM:=lK l 0 ai
    rw[← nT]at qf oM
    refine eh 0 rfl ?_
    intro cW
    have AX:lW (Sep [aB 229 2 (.slice ia dJ.length ic) dJ.length (dJ.flatMap gY),Z]) (.slice ia dJ.length ic) dJ:=⟨cW.mono (bn (i:=0) rfl),fun y hy=>(sL y hy).mono (bn (i:=1) rfl)⟩
    have rP:=qc _ _ dJ AX ai oM ai
    have hee:cn (dJ.map It.p)=dO l:=by rw[nT];rfl
    rw[hee]at rP
    clear ih
    refine go ?_
    refine aN (ao.bK [_,_] _) ?_
    refine aF rP ?_
    rintro _ _⟨rr,rfl,rfl⟩
    refine go ?_
    refine ad hE Tryz.func50 zr zr (.inr ⟨rr,h0,rfl,rfl⟩)
def Cd(A:HP)(v:Value)(l:List Bl)(hv:Vw A v l.length (l.flatMap ck))(hlen:l.length≤9223372036854775807) :
  au Tryz.prog 18 [tt v] [A] (fun r H=>r=(if cG l=0 then .tuple #[dV (cw l),.int .i64 0]else .tuple #[dV Dg.zero,.int .i64 (cG l:Int)])∧H=[A]):=by
 have sK:=ox A v l hv hlen
 obtain⟨a,c,rfl⟩:=hv.shape
 unfold tt at sK ⊢
 refine au.ak Tryz.func18 Tryz.ntmps18 fun G F R hE=>?_
 refine aD rfl ?_
 refine bu zr zr bh ?_
 intro b1
 refine az zr zr zr bh ?_
 intro b2
 refine go ?_
 refine aO (U:=aU) (l:=[.slice a l.length c]) 1 zr zr zr zr zr zr ?_
 refine aF sK ?_
 rintro _ _ (⟨h0,rfl,rfl⟩|⟨rv,h0,rfl,rfl⟩)
 ·rw[if_neg h0]at hE
  refine go ?_
  refine aq zr zr ?_ ?_
  case' refine_2=>(intro h;exfalso;omega)
  intro _
  refine go ?_
  refine gH (U:=aU) zr zr zr zr zr (go ?_)
  (refine a6 hE ?_;apply aZ (U:=aU) hE Tryz.func18 rfl (ao.refl _);(repeat(first|exact aR.nil|apply aR.tmp rfl|apply aR.agg 1 zr zr zr zr zr));exact⟨rfl,rfl⟩;exact ag)
 ·rw[if_pos h0]at hE
  have qf:=mP h0
  refine eZ (bs:=dO l) 0 rfl ?_
  intro PJ
  refine go ?_
  refine aw (Bh _ rv (dO l) PJ ai) ?_
  refine go ?_
  (refine a6 hE ?_;apply aZ (U:=aU) hE Tryz.func18 rfl (ao.refl _);(repeat(first|exact aR.nil|apply aR.tmp rfl|apply aR.agg 2 zr zr zr zr zr));exact⟨rfl,rfl⟩;exact ag)
end Go.Proofs.YtlcoaflddajjcaaGreatDoor
namespace Go.Proofs.YtlcoaflddajjcaaGreatDoor
open Go Go.SL
structure Mem where
 id:Int
 inc:Int
 st:Int
 since:Int
deriving DecidableEq
instance:Inhabited Mem:=⟨⟨0,0,0,0⟩⟩
def nv(x:Mem):List Value:=[.int .i64 x.id,.int .i64 x.inc,.int .i64 x.st,.int .i64 x.since]
def nu(x:Mem):(nv x).length=4:=rfl
structure mY where
 kind:Int
 hash:Dg
 piece:Int
 ids:List Int
 bytes:List UInt8
 proof:List Dg
 p7:List Mem
 seed:Bool
def mY.zero:mY:=⟨0,Dg.zero,0,[],[],[],[],false⟩
def tD(k:Int):List Int :=
 if k=1∨k=10 then [1,2,5]else if k=2∨k=3∨k=5 then [1,2,3]else if k=4 then [1,2,3,5,6]else if k=6 then [1,2,8]else if k=7 then [1,2,4]else if k=8 then [1,7]
 else if k=9∨k=11 then [1,2]else []
def Ct(k:Int):Int:=if k=1 then 128 else if k=4 then 16384 else if k=10 then 4096 else 0
def j7(n lo hi:Int):Bool:=decide (lo≤n) && decide (n≤hi)
def AQ{n lo hi:Int}:j7 n lo hi=true↔lo≤n∧n≤hi:=by simp[j7]
def HS(m:mY)(i:Int):Bool :=
 if i=1 then false else if i=2 then decide (m.hash=Dg.zero)else if i=3 then decide (m.piece=0)else if i=4 then decide ((m.ids.length:Int)=0)else if i=5 then decide ((m.bytes.length:Int)=0)
 else if i=6 then decide ((m.proof.length:Int)=0)else if i=7 then decide ((m.p7.length:Int)=0)else !m.seed
def rJ(i:Int):Bool := !j7 i 1 65536
def qv(x:Mem):Bool:=rJ x.id || !j7 x.inc 0 1073741824 || !j7 x.st 1 3 || decide (x.since≠0)
def uF(m:mY)(i:Int):Bool :=
 if i=3 then j7 m.piece 0 1023 else if i=4 then decide ((m.ids.length:Int)≤64) && !m.ids.any rJ else if i=5 then j7 m.bytes.length 1 (Ct m.kind)else if i=6 then decide ((m.proof.length:Int)≤10)
 else if i=7 then j7 m.p7.length 1 65 && !m.p7.any qv else true
def j4(m:mY)(i:Int):Bool:=if i∈tD m.kind then uF m i else HS m i
def ni(m:mY):Bool:=j4 m 1 && j4 m 2 && j4 m 3 && j4 m 4 && j4 m 5 && j4 m 6 && j4 m 7 && j4 m 8
end Go.Proofs.YtlcoaflddajjcaaGreatDoor
namespace Go.SL
open Go.RowKit
def old(W:World):HP:=fun h=>∀b,h b=W.heap[b]?
def ZE(W:World):ct:={ tape:=W.tape,os:=W.os,output:=W.output }
def Qd(W:World):Sat (ZE W) W [old W]:=⟨⟨rfl,Nat.zero_le _⟩,rfl,rfl,fun b=>W.heap[b]?,fun _ _ h=>h,dG fun _=>rfl⟩
theorem Ba{W W':World}(h:Sat (ZE W) W' [old W]):Below W.heap.size W W':=by
 obtain⟨h1,h2,h3,h0,hw,hs⟩:=h
 have ho:=dp hs
 have hb:∀k,k<W.heap.size→W'.heap[k]?=W.heap[k]? := fun k hk=>by
  have e:W.heap[k]?=some W.heap[k]:=by simp[hk]
  rw[e]
  exact hw k _ (by rw[ho k,e])
 refine⟨h2,h1.1,h3,?_,hb⟩
 grind
theorem Lw{P:Program}{f:FuncId}{args:List Value}{W:World}(c:au P f args [old W] (fun v H=>v = .bool true∧H=[old W])) :
  Calls P f args.toArray W fun e W'=>e = .returned (.bool true)∧Below W.heap.size W W' :=
 (c.2 (ZE W) W [] (Qd W)).mono fun e W' h=>by
  grind [Ba]
theorem qi{W:World}{h:Hp}{b off:Nat}{v:Value}(ho:old W h)(hc:W.cell? ⟨b,off,none⟩=some v):dt h b off=some v:=by
 unfold dt
 rw[ho b]
 unfold World.cell? at hc
 grind
theorem FZ{W:World}{a:Addr}{len cap:Nat}{zs:List Int}(hl:len≤zs.length)(dt:∀i,i<zs.length→W.cell? (a.add i)=some (.int .u8 (zs.getD i 0)))(hwf:∀n∈zs,(Lit.int .u8 n).wf=true) :
  ∃bs:List UInt8,bs.length=len∧Vw (old W) (.slice (some a) len cap) len (bV bs):=by
 refine⟨(zs.take len).map fun z=>UInt8.ofNat z.toNat,by simp;omega,some a,cap,rfl,?_⟩
 rcases Nat.eq_zero_or_pos len with h0|h0
 ·grind [bV]
 ·right
  obtain⟨b,o,spot⟩:=a
  have Hc:spot=none:=by simpa[Addr.add]using World.cell?_spot (dt 0 ai)
  subst Hc
  refine⟨b,o,rfl,fun h ho j c hj=>?_⟩
  have KK:j<len:=by
   grind [bV]
  have h1:=dt j ai
  rw[Addr.add_eq]at h1
  have h2:=qi ho h1
  rw[h2]
  have hm:zs[j]' ai∈zs:=List.getElem_mem _
  have hw:=hwf _ hm
  have hb:0≤zs[j]' ai∧zs[j]' ai<256:=by
   simp only[Lit.wf,Bool.and_eq_true,decide_eq_true_eq]at hw
   have e1:IntKind.u8.min=0:=by decide
   have e2:IntKind.u8.max=255:=by decide
   omega
  simp only[bV,List.map_map,List.getElem?_map,List.getElem?_take,KK,if_true]at hj
  rw[List.getElem?_eq_getElem ai]at hj
  simp only[Option.map_some,Option.some.injEq,Function.comp]at hj
  rw[← hj,List.getD_eq_getElem?_getD,List.getElem?_eq_getElem ai]
  simp only[Option.getD_some,u8,UInt8.toNat_ofNat',Option.some.injEq]
  grind
def Mc(W:World):Vw (old W) (.slice none 0 0) 0 (bV []):=⟨none,0,rfl,.inl rfl⟩
end Go.SL
namespace Go.SL
open Go Go.RowKit Go.ChangeShapes Go.WideShapes
def iV(l:List Int):List Value:=l.map (Value.int .i64)
def jE{l:List Int}{i:Nat}{x:Int}(h:l[i]?=some x):(iV l)[i]?=some (.int .i64 x):=by simp[iV,h]
def MA(l:List Int):(iV l).length=l.length:=by simp[iV]
def YK{l:List Int}{i:Nat}(h:i<l.length):iV l≠[]:=fun e=>by have:=congrArg List.length e;simp[iV]at this;rw[this]at h;simp at h
abbrev i64(x:Int):Prop := -9223372036854775808≤x∧x≤9223372036854775807
end Go.SL
namespace Go.Proofs.YtlcoaflddajjcaaGreatDoor
open Go Go.SL
def p'(x y:Int):Int:=if x<y then -1 else if y<x then 1 else 0
def L1:List Int→Int
 | []=>0
 | x::l=>if x=0 then L1 l else x
def tm:∀(l:List Int) (i:Nat),(∀y∈l.take i,y=0)→L1 l=L1 (l.drop i)
 | [],i,_=>by simp
 | x::l,0,_=>rfl
 | x::l,i+1,h=>by
  have hx:x=0:=h x (by simp)
  rw[List.drop_succ_cons,← tm l i (fun y hy=>h y (by simp[hy]))]
  simp[L1,hx]
def tu(l:List Int):∀v∈iV l,v.oneCell'=true:=by
 intro v hv
 obtain⟨x,_,rfl⟩:=List.mem_map.1 hv
 rfl
attribute [local irreducible] J K au Ends ae aB aI bB aW aS a7 aX bF
def zo(x:Int):au Tryz.prog 365 [.int .i64 x] [] (fun r H=>r = .bool false∧H=[]):=by
 refine au.ak Tryz.func365 Tryz.ntmps365 fun G F R hE=>?_
 refine go ?_
 refine bq 2 ((.bool false)) rfl ((by simp)) ?_
 refine ad hE Tryz.func365 zr zr ⟨rfl,rfl⟩
def uL(x y:Int):au Tryz.prog 273 [.int .i64 x,.int .i64 y] [] (fun r H=>r = .int .i64 (p' x y)∧H=[]):=by
 refine au.ak Tryz.func273 Tryz.ntmps273 fun G F R hE=>?_
 refine go ?_
 refine aw (zo x) ?_
 refine go ?_
 refine aw (zo y) ?_
 refine go ?_
 refine aq zr zr ?_ ?_
 ·intro h
  refine go ?_
  ((refine ad hE Tryz.func273 zr zr ⟨by rw[p',if_pos h];rfl,rfl⟩))
 intro h
 refine go ?_
 refine aq zr zr ?_ ?_
 ·intro h2
  refine go ?_
  ((refine ad hE Tryz.func273 zr zr ⟨by rw[p',if_neg h,if_pos h2];rfl,rfl⟩))
 intro h2
 refine go ?_
 ((refine ad hE Tryz.func273 zr zr ⟨by rw[p',if_neg h,if_neg h2];rfl,rfl⟩))
def ZV(A:HP)(v:Value)(l:List Int)(hv:Vw A v l.length (iV l))(hl:l.length≤1000000000):au Tryz.prog 272 [v] [A] (fun r H=>r = .int .i64 (L1 l)∧H=[A]):=by
  obtain⟨a,c,rfl⟩:=hv.shape
  refine au.ak Tryz.func272 Tryz.ntmps272 fun G F R hE=>?_
  refine go ?_
  refine bj (fun i:Nat=>i≤l.length∧∀y∈l.take i,y=0) (fun i=>l.length-i) (fun i=>[(3,.int .i64 0),(6,.slice a l.length c),(7,.int .i64 l.length),(8,.int .i64 i)]) (fun _=>A::F) 0 ⟨Nat.zero_le _,by simp⟩ rfl bS ag ?_
  rintro i⟨hi,hb⟩ ih
  refine go ?_
  refine aq zr zr ?_ ?_
  · intro cL
    have dA:i<l.length:=by omega
    obtain⟨x,hx⟩:∃x,l[i]?=some x:=⟨l[i],by simp[dA]⟩
    obtain⟨b,o,c',he⟩:=hv.some (YK dA)
    simp only[Value.slice.injEq,true_and]at he
    obtain⟨rfl,rfl⟩:=he
    refine go ?_
    refine bp i zr zr zr zr zr zr zr zr dA ?_
    refine aQ 0 i zr zr zr hv rfl (show(iV l)[i]?=some (.int .i64 x)from by simp[iV,hx]) zr zr (go ?_)
    refine aq zr zr ?_ ?_
    · intro h
      refine go ?_
      have h1:L1 l=x:=by
        rw[tm l i hb,List.drop_eq_getElem_cons dA]
        have:l[i]=x:=by rw[List.getElem?_eq_getElem dA]at hx;exact Option.some.inj hx
        rw[this]
        simp only[L1]
        rw[if_neg h]
      ((refine ad hE Tryz.func272 zr zr ⟨by rw[h1];rfl,rfl⟩))
    intro h
    refine go ?_
    refine aM ih (i+1) rfl (⟨ai,fun y hy=>by
      rw[List.take_add_one,hx]at hy
      rcases List.mem_append.1 hy with h'|h'
      · exact hb y h'
      · simp at h';subst h';exact Decidable.not_not.1 h⟩) ai bS ag
  intro ep
  refine go ?_
  have h1:L1 l=0:=by
    rw[tm l i hb,List.drop_of_length_le ai];rfl
  ((refine ad hE Tryz.func272 zr zr ⟨by rw[h1];rfl,rfl⟩))
def u0{α:Type}(p:α→Bool)(l:List α):decide (0≤gM p l)=l.any p:=by
 rw[show decide (0≤gM p l)=decide (¬gM p l<0)from by rw[decide_eq_decide];omega]
 rw[Bool.eq_iff_iff,decide_eq_true_iff,jQ (p:=p) (l:=l),Bool.not_eq_false]
def O9(t:Int)(l:List Int):decide (0≤gM (fun x=>decide (x=t)) l)=decide (t∈l):=by
 rw[u0,Bool.eq_iff_iff,decide_eq_true_iff,List.any_eq_true]
 constructor
 ·rintro⟨x,hx,h⟩;have:=of_decide_eq_true h;subst this;exact hx
 ·intro h;exact⟨t,h,decide_eq_true rfl⟩
def Gs(A:HP)(v:Value)(l:List Int)(t:Int)(hv:Vw A v l.length (iV l))(hlen:l.length≤1000000000) :
  au Tryz.prog 303 [v,.int .i64 t] [A] (fun r H=>r = .int .i64 (gM (fun x=>decide (x=t)) l)∧H=[A]):=by
 obtain⟨a,c0,rfl⟩:=hv.shape
 refine au.ak Tryz.func303 Tryz.ntmps303 fun G F R hE=>?_
 refine go ?_
 refine bj (fun i:Nat=>i≤l.length∧∀y∈l.take i,decide (y=t)=false) (fun i=>l.length-i) (fun i=>[(0,.slice a l.length c0),(1,.int .i64 t),(7,.int .i64 l.length),(8,.int .i64 i)]) (fun _=>A::F) 0 ⟨by simp,by simp⟩ rfl bS ag ?_
 rintro i⟨hi,hb⟩ ih
 refine go ?_
 refine aq zr zr ?_ ?_
 ·intro cL
  have dA:i<l.length:=by omega
  obtain⟨x,hx⟩:∃x,l[i]?=some x:=⟨l[i],by simp[dA]⟩
  obtain⟨b,o,c',he⟩:=hv.some (YK dA)
  simp only[Value.slice.injEq,true_and]at he
  obtain⟨rfl,rfl⟩:=he
  refine go ?_
  refine bp i zr zr zr zr zr zr zr zr dA ?_
  refine aQ 0 i zr zr zr hv rfl (jE hx) zr zr (go ?_)
  refine aq zr zr ?_ ?_
  ·intro h
   refine go ?_
   ((refine ad hE Tryz.func303 zr zr ⟨by rw[gL hx (decide_eq_true h.symm) hb];rfl,rfl⟩))
  intro h
  refine go ?_
  refine aM ih (i+1) rfl (⟨ai,kC hb hx (decide_eq_false fun e=>h e.symm)⟩) ai bS ag
 intro ep
 refine go ?_
 have:i=l.length:=by omega
 subst this
 ((refine ad hE Tryz.func303 zr zr ⟨by rw[iF (fun x hx=>hb x (by simpa using hx))];rfl,rfl⟩))
def qm(A:HP)(v:Value)(l:List Int)(t:Int)(hv:Vw A v l.length (iV l))(hlen:l.length≤1000000000) :
  au Tryz.prog 191 [v,.int .i64 t] [A] (fun r H=>r = .bool (decide (t∈l))∧H=[A]):=by
 refine au.ak Tryz.func191 Tryz.ntmps191 fun G F R hE=>?_
 refine go ?_
 refine aw (Gs A v l t hv hlen) ?_
 refine go ?_
 refine bq 4 ((.bool (decide (t∈l)))) rfl ((congrArg Value.bool (O9 t l))) ?_
 refine ad hE Tryz.func191 zr zr ⟨rfl,rfl⟩
def yG(A X:HP)(v:Value)(l:List Int)(hv:Vw A v l.length (iV l))(hlen:l.length≤1000000000)(g:FuncId)(cap:List Value)(p:Int→Bool)(hf:∀x∈l,au Tryz.prog g (.int .i64 x::cap) [X] (fun v H=>v = .bool (p x)∧H=[X])) :
  au Tryz.prog 378 [v,.func (.func g) #[] cap.toArray] [A,X] (fun r H=>r = .int .i64 (gM p l)∧H=[A,X]):=by
 obtain⟨a,c0,rfl⟩:=hv.shape
 refine au.enter Tryz.func378 ah rfl Tryz.ntmps378 zr zr ?_
 intro G F R hR
 refine go ?_
 refine bj (fun i:Nat=>i≤l.length∧∀y∈l.take i,p y=false) (fun i=>l.length-i) (fun i=>[(0,.slice a l.length c0),(1,.func (.func g) #[] cap.toArray),(7,.int .i64 l.length),(8,.int .i64 i)]) (fun _=>[A,X]++F) 0 ⟨by simp,by simp⟩ rfl bS (ao.refl _) ?_
 rintro i⟨hi,hb⟩ ih
 refine go ?_
 refine aq zr zr ?_ ?_
 ·intro cL
  refine go ?_
  have dA:i<l.length:=by omega
  have hx:l[i]?=some l[i]:=by simp[dA]
  generalize YN:l[i]=x at hx
  obtain⟨b,o,eY,dL⟩:=hv.some (YK dA)
  simp only[Value.slice.injEq]at dL
  obtain⟨rfl,_,rfl⟩:=dL
  refine bp i zr zr zr zr zr zr zr zr dA ?_
  refine aQ 0 i zr zr zr hv rfl (jE hx) zr zr ?_
  refine cg [1] zr zr zr zr (hf x (List.mem_of_getElem? hx)) rfl jk ?_
  rintro _ _⟨rfl,rfl⟩
  refine go ?_
  refine dY zr zr ?_ ?_
  ·intro hp
   refine go ?_
   refine aK hR Tryz.func378 rfl _ rfl ⟨by rw[gL hx hp hb];rfl,rfl⟩ (ao.fin [1,0] 0 zr zr)
  ·intro hp
   refine go ?_
   refine aM ih (i+1) rfl ⟨ai,kC hb hx hp⟩ ai bS (ao.pick [1,0] rfl)
 ·intro ep
  refine go ?_
  have:i=l.length:=by omega
  subst this
  refine aK hR Tryz.func378 rfl _ rfl ⟨by rw[iF (fun x hx=>hb x (by simpa using hx))];rfl,rfl⟩ (ao.fin [0,1] 0 zr zr)
def tW(A X:HP)(v:Value)(l:List Int)(hv:Vw A v l.length (iV l))(hlen:l.length≤1000000000)(g:FuncId)(cap:List Value)(p:Int→Bool)(hf:∀x∈l,au Tryz.prog g (.int .i64 x::cap) [X] (fun v H=>v = .bool (p x)∧H=[X])) :
  au Tryz.prog 307 [v,.func (.func g) #[] cap.toArray] [A,X] (fun r H=>r = .bool (l.any p)∧H=[A,X]):=by
 refine au.ak Tryz.func307 Tryz.ntmps307 fun G F R hE=>?_
 refine go ?_
 refine aw (yG A X v l hv hlen g cap p hf) ?_
 refine go ?_
 refine bq 4 ((.bool (l.any p))) rfl ((congrArg Value.bool (u0 p l))) ?_
 refine ad hE Tryz.func307 zr zr ⟨rfl,rfl⟩
def Kz(A:HP)(v:Value)(W:List Int)(hv:Vw A v W.length (iV W))(hlen:W.length≤1000000000) :
  au Tryz.prog 300 [v] [A] (fun r H=>H=[aB 3 1 r W.length (iV W),A]):=by
 obtain⟨a,c0,rfl⟩:=hv.shape
 cases a with
 | none =>
  have hb:W=[]:=by
   obtain⟨a,cap,h1,h2|⟨b,o,h2,_⟩⟩:=hv
   ·have:=congrArg List.length h2
    rw[MA]at this
    exact List.eq_nil_of_length_eq_zero (by simpa using this)
   ·simp only[Value.slice.injEq]at h1;rw[← h1.1]at h2;cases h2
  subst hb
  refine au.enter Tryz.func300 ah rfl Tryz.ntmps300 zr zr ?_
  intro G F R hR
  refine go ?_
  have he:c0=c0:=rfl
  refine al (bg 3 1 none _) ?_
  refine aK hR Tryz.func300 rfl _ zr zr (ao.fin [0,1] 0 zr zr)
 | some a =>
  refine au.enter Tryz.func300 ah rfl Tryz.ntmps300 zr zr ?_
  intro G F R hR
  refine go ?_
  refine aj (cs:=[]) zr zr zr zr zr zr zr zr zr bh ?_
  intro b0
  refine go ?_
  refine aN (ef 3 1 b0 0 0 [] [] _ rfl (Nat.le_refl _) (by simp)) ?_
  refine aJ (mm:=W.length) (news:=iV W) 0 1 zr zr zr zr zr zr zr zr zr zr zr zr hv (by show _=_*1;rw[MA];omega) (tu W) ai (by show _*8≤_;omega) (fun _=>rfl) bh ?_
  intro v'
  have e1:(0:Nat)+W.length=W.length:=by omega
  rw[e1,List.nil_append]
  refine go ?_
  refine aK hR Tryz.func300 rfl _ zr zr (ao.fin [0,1] 0 zr zr)
def Ae(g:FuncId)(cap:List Value)(N:Nat)(Pre Post:List HP)(Q:List Int→Prop):Prop :=
 ∀(l:Nat) (Lp:HP) (Inv:List Int→HP),(∀done x,done.length<N→bF Tryz.prog l [.int .i64 x] [Lp,Inv done] (fun v H=>v = .bool true∧H=[Lp,Inv (done++[x])])) →
  au Tryz.prog g (.func (.yield l) #[] #[]::cap) (Lp::Inv []::Pre) (fun _ H=>∃xs,Q xs∧H=Lp::Inv xs::Post)
def II(bs:Nat)(ks:List Int):HP:=fun h=>∃v:Value,True∧Sep [ae bs (cl [v] 53),aB 3 1 v ks.length (iV ks)] h
def H5(bs:Nat)(ks:List Int):∀h,II bs ks h→∃v,True∧Sep [ae bs (cl [v] 53),aB 3 1 v ks.length (iV ks)] h:=fun h hs=>hs
def DR(bs:Nat)(ks:List Int)(v:Value)(H:List HP):ao (ae bs (cl [v] 53)::aB 3 1 v ks.length (iV ks)::H) (II bs ks::H) :=
 ao.fold (A:=II bs ks) (B:=[ae bs (cl [v] 53),aB 3 1 v ks.length (iV ks)]) fun h hs=>⟨h,sub.refl h,v,trivial,hs⟩
attribute [local irreducible] II
def xU(g:FuncId)(cap:List Value)(N:Nat)(Pre Post:List HP)(Q:List Int→Prop)(hN:N≤1000000000)(hi:Ae g cap N Pre Post Q) :
  au Tryz.prog 263 [.slice none 0 0,.func (.func g) #[] cap.toArray] Pre (fun r H=>∃xs,Q xs∧H=aB 3 1 r xs.length (iV xs)::Post):=by
 refine au.ak Tryz.func263 Tryz.ntmps263 fun G F R hE=>?_
 refine aD rfl ?_
 refine bu zr zr bh ?_
 intro bs
 refine go ?_
 refine gG rfl ?_
 refine al (ao.trans (ao.cons _ (bg 3 1 none _)) (DR bs [] (.slice none 0 0) _)) ?_
 refine vf (Fr:=F) (Pre:=fun _ _=>II bs []::Pre) (Post:=?Po) rfl hE.1.1 rfl ?c (fun l r=>ao.refl _) ?jq
 case c =>
  intro l r
  refine hi l _ (fun dn=>II bs dn) ?_
  intro dn k cL
  refine bF.IN zr zr ?_
  intro G2 F2 R2 hY
  refine go ?_
  refine gN rfl hY ?_
  refine al (ao.pick [1] rfl) ?_
  refine cX (H5 bs dn) ?_
  rintro v -
  refine db 1 rfl ?_
  rintro va vc rfl
  refine go ?_
  refine aj (cs:=iV [k]) zr zr zr zr zr zr zr zr zr bh ?_
  intro row
  refine go ?_
  refine aJ (mm:=1) (news:=iV [k]) 2 0 zr zr zr zr zr zr zr zr zr zr zr zr (Vw.ae rfl) rfl (tu _) ai (by show(_+1)*8≤_;omega) (fun _=>rfl) bh ?_
  intro v1
  rw[show iV dn++iV [k]=iV (dn++[k])from by simp[iV],show dn.length+1=(dn++[k]).length from by simp]
  refine aH 2 rfl ?_
  rintro Od Oc rfl
  refine go ?_
  refine al (ao.trans ag (DR bs (dn++[k]) (.slice Od (dn++[k]).length Oc) _)) ?_
  refine fV hY rfl ag ⟨rfl,rfl⟩
 intro l r v H eL
 obtain⟨xs,hq,rfl⟩:=eL
 refine⟨_,_,_,rfl,by decide,?_⟩
 rw[hE.1.2]
 refine cX (H5 bs xs) ?_
 rintro w -
 refine go ?_
 refine pX hE Tryz.func263 rfl _ rfl ⟨xs,hq,rfl⟩ ?_
 exact(ao.drop _ _).trans (ao.perm (((List.perm_middle (a:=ae r (.deferred (some []))) (l₁:=Post) (l₂:=F)).cons _).trans (List.Perm.swap _ _ _)))
def By(g:FuncId)(cap:List Value)(N:Nat)(Pre Post:List HP)(Q:List Int→Prop)(hN:N≤1000000000)(hi:Ae g cap N Pre Post Q) :
  au Tryz.prog 153 [.func (.func g) #[] cap.toArray] Pre (fun r H=>∃xs,Q xs∧H=aB 3 1 r xs.length (iV xs)::Post):=by
 refine au.ak Tryz.func153 Tryz.ntmps153 fun G F R hE=>?_
 refine go ?_
 refine aF (xU g cap N Pre Post Q hN hi) ?_
 rintro w _⟨xs,hq,rfl⟩
 refine go ?_
 refine ad hE Tryz.func153 zr zr ⟨xs,hq,rfl⟩
end Go.Proofs.YtlcoaflddajjcaaGreatDoor
namespace Go.Proofs.YtlcoaflddajjcaaGreatDoor
open Go Go.SL
structure MV where
 i:Value
 b:Value
 p:Value
 m:Value
def mC(v:MV)(m:mY):List Value := .int .i64 m.kind::(dC m.hash++[.int .i64 m.piece,v.i,v.b,v.p,v.m,.bool m.seed])
structure uJ(X:HP)(v:MV)(m:mY):Prop where
 vi:Vw X v.i m.ids.length (iV m.ids)
 vb:ew X v.b m.bytes
 vp:Ot X v.p m.proof
 vm:Vw X v.m m.p7.length (m.p7.flatMap nv)
 li:m.ids.length≤1000000000
 lb:m.bytes.length≤1000000000
 lp:m.proof.length≤1000000000
 lm:m.p7.length≤1000000000
def Lk(e:TypeId)(b:Nat)(cs:List Value)(H:List HP):ao (ae b (cl cs e)::H) (aB e 1 (.slice (some ⟨b,0,none⟩) cs.length cs.length) cs.length cs::H):=by
 have h:=ef e 1 b cs.length cs.length cs [] H ai (Nat.le_refl _) (by simp)
 rw[List.append_nil]at h
 exact h
def eqD(a b:Dg)(w:World):(Op.equal 32 (.agg (dC a).toArray) (.agg (dC b).toArray)).run Tryz.prog w = .ok (decide (a=b)) w :=
 ng Tryz.underlying32 Tryz.underlying5 ah a b 9998 w
def guD:Tryz.prog.eqGuardType Tryz.prog.depth 32=false:=by kernel_rfl
attribute [local irreducible] J K au Ends ae aB aI bB aW aS a7 aX bF
def jw(n lo hi:Int):au Tryz.prog 305 [.int .i64 n,.int .i64 lo,.int .i64 hi] [] (fun r H=>r = .bool (j7 n lo hi)∧H=[]):=by
 refine au.ak Tryz.func305 Tryz.ntmps305 fun G F R hE=>?_
 repeat'(first|(with_reducible intro jg)|refine er ?_|refine dP zr zr zr zr ?_ ?_|fail)
 ·((refine ad hE Tryz.func305 zr zr ⟨(by unfold j7;rw[decide_eq_true (show lo≤n from jg),Bool.true_and];rfl),rfl⟩))
 ·((refine ad hE Tryz.func305 zr zr ⟨(by unfold j7;rw[decide_eq_false (show ¬lo≤n from jg),Bool.false_and];rfl),rfl⟩))
def KY(k:Int):au Tryz.prog 190 [.int .i64 k] [] (fun r H=>H=[aB 3 1 r (tD k).length (iV (tD k))]):=by
 refine au.ak Tryz.func190 Tryz.ntmps190 fun G F R hE=>?_
 by_cases hk:1≤k∧k≤11
 ·have hk:k=1∨k=2∨k=3∨k=4∨k=5∨k=6∨k=7∨k=8∨k=9∨k=10∨k=11:=by omega
  rcases hk with rfl|rfl|rfl|rfl|rfl|rfl|rfl|rfl|rfl|rfl|rfl
  all_goals(
   refine go ?_
   refine aj zr zr zr zr zr zr zr zr zr bh ?_
   intro b
   refine go ?_
   refine al (Lk 3 b _ _) ?_
   ((refine aK hE Tryz.func190 rfl _ zr zr ag)))
 ·have hn:tD k=[]:=by
   unfold tD
   rw[if_neg ai,if_neg ai,if_neg ai,if_neg ai,if_neg ai,if_neg ai,if_neg ai]
  rw[hn]at hE
  refine al (bg 3 1 none _) ?_
  repeat'(first|(with_reducible intro jg)|refine er ?_|refine aq zr zr ?_ ?_)
  all_goals first|(exfalso;omega)|skip
  refine aK hE Tryz.func190 rfl _ zr zr ag
def Me(k:Int):au Tryz.prog 308 [.int .i64 k] [] (fun r H=>r = .int .i64 (Ct k)∧H=[]):=by
 refine au.ak Tryz.func308 Tryz.ntmps308 fun G F R hE=>?_
 by_cases h1:k=1
 ·subst h1;refine go ?_;((refine ad hE Tryz.func308 zr zr ⟨rfl,rfl⟩))
 by_cases h2:k=4
 ·subst h2;refine go ?_;((refine ad hE Tryz.func308 zr zr ⟨rfl,rfl⟩))
 by_cases h3:k=10
 ·subst h3;refine go ?_;((refine ad hE Tryz.func308 zr zr ⟨rfl,rfl⟩))
 have hn:Ct k=0:=by unfold Ct;rw[if_neg h1,if_neg h2,if_neg h3]
 rw[hn]at hE
 repeat'(first|(with_reducible intro jg)|refine er ?_|refine aq zr zr ?_ ?_)
 all_goals first|(exfalso;omega)|skip
 refine ad hE Tryz.func308 zr zr ⟨rfl,rfl⟩
def Dm(X:HP)(v:MV)(m:mY)(hm:uJ X v m)(i:Int)(hi:1≤i∧i≤8):au Tryz.prog 193 [.agg (mC v m).toArray,.int .i64 i] [X] (fun r H=>r = .bool (HS m i)∧H=[X]):=by
 obtain⟨vi,vb,vp,vm⟩:=v
 obtain⟨ia,ic,rfl⟩:=hm.vi.shape
 obtain⟨ba,bc,rfl,_⟩:=hm.vb.2
 obtain⟨pa,pc,rfl⟩:=hm.vp.1.shape
 obtain⟨ma,mc,rfl⟩:=hm.vm.shape
 have hi:i=1∨i=2∨i=3∨i=4∨i=5∨i=6∨i=7∨i=8:=by omega
 refine au.ak Tryz.func193 Tryz.ntmps193 fun G F R hE=>?_
 refine aD rfl ?_
 refine bu zr zr bh ?_
 intro bx
 rcases hi with rfl|rfl|rfl|rfl|rfl|rfl|rfl|rfl
 ·refine go ?_;((refine ad hE Tryz.func193 zr zr ⟨rfl,rfl⟩))
 ·refine go ?_
  refine bP 0 zr zr zr zr zr zr (go ?_)
  refine gH (U:=aU) zr zr zr zr zr ?_
  refine gQ (b:=decide (m.hash=Dg.zero)) zr zr zr guD (fun w=>eqD m.hash Dg.zero w) ?_
  refine go ?_
  refine ad hE Tryz.func193 zr zr ⟨rfl,rfl⟩
 all_goals(
  refine go ?_
  ((refine ad hE Tryz.func193 zr zr ⟨rfl,rfl⟩)))
end Go.Proofs.YtlcoaflddajjcaaGreatDoor
