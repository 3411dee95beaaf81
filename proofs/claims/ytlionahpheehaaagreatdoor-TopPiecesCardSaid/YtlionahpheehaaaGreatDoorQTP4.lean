import Derived.Test.YtlionahpheehaaaGreatDoorQTP2
import Derived.Test.YtlionahpheehaaaGreatDoorQTP3
import Derived.DeepKeys
set_option linter.unusedSectionVars false
set_option linter.unusedSimpArgs false
set_option linter.unusedVariables false
set_option maxRecDepth 20000
set_option linter.defProp false
namespace Go.Proofs.YtlionahpheehaaaGreatDoor
open Go Go.SL
attribute [local irreducible] J K aH Ends ak aK aV bX bj aS bp
structure Fl where
 num:Int
 src:Int
 dst:Int
 due:Int
 v:Value
 bs:List UInt8
def aR(x:Fl):List Value:=[.int .i64 x.num,.int .i64 x.src,.int .i64 x.dst,.int .i64 x.due,x.v]
def df(x:Fl):(aR x).length=5:=rfl
def wK(a b:Fl):Int:=if wJ a.due b.due≠0 then wJ a.due b.due else wJ a.num b.num
def U7(b:Nat)(x y:Int):aH Tryz.prog 143 [.slice (some ⟨b,0,none⟩) 2 2] [ak b (cl [.int .i64 x,.int .i64 y] 3)] (fun v H=>v = .int .i64 (if x≠0 then x else y)∧H=[ak b (cl [.int .i64 x,.int .i64 y] 3)]):=by
 refine aH.enter Tryz.func143 aw rfl Tryz.ntmps143 zr zr ?_
 intro G F R hR
 refine go ?_
 refine bF (fun i:Nat=>i≤2∧(0<i→x=0)∧(1<i→y=0)) (fun i=>2-i) (fun i=>[(3,.int .i64 0),(6,.slice (some ⟨b,0,none⟩) 2 2),(7,.int .i64 2),(8,.int .i64 i)])
  (fun _=>ak b (cl [.int .i64 x,.int .i64 y] 3)::F) 0 ⟨aj,aj,aj⟩ rfl cF (aq.refl _) ?_
 rintro i⟨hi,h0,h1⟩ ih
 refine go ?_
 refine aB zr zr ?_ ?_
 ·intro dk
  refine go ?_
  refine bW i zr zr zr zr zr zr zr zr aj ?_
  match i,dk,h0,h1 with
  | 0,_,_,_ =>
   refine go ?_
   refine aB zr zr ?_ ?_
   ·intro hx
    refine go ?_
    refine aG hR Tryz.func143 rfl _ rfl ⟨by simp[dt,hx],rfl⟩ (aq.fin [0] 0 zr zr)
   ·intro hx
    refine go ?_
    refine aQ ih 1 rfl ⟨aj,fun _=>by omega,aj⟩ aj cF (aq.refl _)
  | 1,_,h0,_ =>
   refine go ?_
   refine aB zr zr ?_ ?_
   ·intro hx
    refine go ?_
    have:=h0 aj
    refine aG hR Tryz.func143 rfl _ rfl ⟨by simp[dt,this],rfl⟩ (aq.fin [0] 0 zr zr)
   ·intro hx
    refine go ?_
    refine aQ ih 2 rfl ⟨aj,fun _=>h0 aj,fun _=>by omega⟩ aj cF (aq.refl _)
  | i+2,dk,_,_=>exfalso;omega
 ·intro fO
  refine go ?_
  have h2:i=2:=by omega
  have hx:=h0 aj
  have hy:=h1 aj
  refine aG hR Tryz.func143 rfl _ rfl ⟨by simp[dt,hx,hy],rfl⟩ (aq.fin [0] 0 zr zr)
def Db(x y:Fl):aH Tryz.prog 142 [.agg (aR x).toArray,.agg (aR y).toArray] [] (fun v H=>v = .int .i64 (wK x y)∧H=[]):=by
 refine aH.aC Tryz.func142 Tryz.ntmps142 fun G F R hE=>?_
 refine go ?_
 refine bJ zr zr bO ?_
 intro b1
 refine go ?_
 refine bJ zr zr bO ?_
 intro b2
 rw[show bC (Value.agg (aR x).toArray)=aR x from rfl,show bC (Value.agg (aR y).toArray)=aR y from rfl]
 refine go ?_
 refine aO (fun w=>Sat G w ([ak b1 (cl (aR x) 65),ak b2 (cl (aR y) 65)])) (dM 0 4 (dM 5 4 (.act 4 (.act 9 (.act 10 (.act 11 (.st 12 .nil))))))) rfl aw aw aw (fun w hw=>hw.cI (aq.aI ([1,0]) rfl)) ?_
 refine go ?_
 refine bM [] rfl rfl rfl rfl (zj x.due y.due) rfl (fun _ _ w hp hw=>by obtain⟨_,rfl⟩:=hp;exact hw.cI (aq.aI [1,0] rfl)) ?_
 rintro _ _⟨rfl,rfl⟩
 refine go ?_
 refine bM [] rfl rfl rfl rfl (zj x.num y.num) rfl (fun _ _ w hp hw=>by obtain⟨_,rfl⟩:=hp;exact hw.cI (aq.aI [1,0] rfl)) ?_
 rintro _ _⟨rfl,rfl⟩
 refine go ?_
 refine az zr zr zr zr zr zr zr zr zr (fun _ w hw=>hw.cI (aq.aI ([2,1]) rfl)) ?_
 intro b3
 refine go ?_
 refine bM [0] rfl rfl rfl rfl (U7 b3 _ _) rfl (fun _ _ w hp hw=>by obtain⟨_,rfl⟩:=hp;exact hw.cI (aq.aI [2,1] rfl)) ?_
 rintro _ _⟨rfl,rfl⟩
 refine go ?_
 refine aG hE Tryz.func142 rfl _ rfl ⟨by simp[dt,wK],rfl⟩ (aq.fin [] 3 zr zr)
def uW(x:Int):aH Tryz.prog 59 [.int .i64 x] [] (fun v H=>v = .bool (decide (0≤x∧x≤1099511627776))∧H=[]):=by
 refine aH.enter Tryz.func59 aw rfl Tryz.ntmps59 zr zr ?_
 intro G F R hR
 repeat'(first|(with_reducible intro k9)|refine g9 ?_|refine dA zr zr zr zr ?_ ?_|fail)
 ·refine aG hR Tryz.func59 rfl _ rfl ⟨congrArg Value.bool (decide_eq_decide.2 aj),rfl⟩ (aq.fin ([]) 0 zr zr)
 ·refine aG hR Tryz.func59 rfl _ rfl ⟨congrArg Value.bool (decide_eq_false aj).symm,rfl⟩ (aq.fin ([]) 0 zr zr)
def GU(bn:Nat)(nodes cf cJ lost:Int)(iE:Value)(x:Int):aH Tryz.prog 58 [ptr bn,.int .i64 x] [ak bn (cl [.int .i64 nodes,.int .i64 cf,iE,.int .i64 cJ,.int .i64 lost] 84)]
  (fun v H=>v = .bool (decide (0≤x∧x<nodes))∧H=[ak bn (cl [.int .i64 nodes,.int .i64 cf,iE,.int .i64 cJ,.int .i64 lost] 84)]):=by
 refine aH.enter Tryz.func58 aw rfl Tryz.ntmps58 zr zr ?_
 intro G F R hR
 repeat'(first|(with_reducible intro k9)|refine g9 ?_|refine dA zr zr zr zr ?_ ?_|fail)
 ·refine aG hR Tryz.func58 rfl _ rfl ⟨congrArg Value.bool (decide_eq_decide.2 aj),rfl⟩ (aq.fin ([0]) 0 zr zr)
 ·refine aG hR Tryz.func58 rfl _ rfl ⟨congrArg Value.bool (decide_eq_false aj).symm,rfl⟩ (aq.fin ([0]) 0 zr zr)
def aa2(bn:Nat)(nodes cf cJ lost:Int)(a0:Option Addr)(nw cw:Nat)(x:Int):aH Tryz.prog 140 [ptr bn,.int .i64 x] [ak bn (cl [.int .i64 nodes,.int .i64 cf,.slice a0 nw cw,.int .i64 cJ,.int .i64 lost] 84)]
  (fun v H=>v = .bool (decide (0≤x∧x<nw))∧H=[ak bn (cl [.int .i64 nodes,.int .i64 cf,.slice a0 nw cw,.int .i64 cJ,.int .i64 lost] 84)]):=by
 refine aH.enter Tryz.func140 aw rfl Tryz.ntmps140 zr zr ?_
 intro G F R hR
 repeat'(first|(with_reducible intro k9)|refine g9 ?_|refine dA zr zr zr zr ?_ ?_|fail)
 ·refine aG hR Tryz.func140 rfl _ rfl ⟨congrArg Value.bool (decide_eq_decide.2 aj),rfl⟩ (aq.fin ([0]) 0 zr zr)
 ·refine aG hR Tryz.func140 rfl _ rfl ⟨congrArg Value.bool (decide_eq_false aj).symm,rfl⟩ (aq.fin ([0]) 0 zr zr)
def pw{W:List Fl}{i:Nat}{x:Fl}(hx:W[i]?=some x)(q:Nat)(v:Value)(hq:(aR x)[q]?=some v):(W.flatMap aR)[i*5+q]?=some v:=by
 have hq5:q<5:=by
  rcases Nat.lt_or_ge q 5 with h|h
  ·exact h
  ·rw[List.getElem?_eq_none (by rw[df];exact h)]at hq;cases hq
 rw[cM df hx q hq5];exact hq
def jT{x:Fl}(q:Nat)(v:Value)(hq:(aR x)[q]?=some v):(aR x)[0+q]?=some v:=by rw[Nat.zero_add];exact hq
def Fo(x:Fl):bC (Value.agg (aR x).toArray)=aR x:=rfl
def KN(A:HP)(v:Value)(W:List Fl)(t:Fl)(hv:Vw A v W.length (W.flatMap aR))(hlen:W.length≤1000000000)(VP:∀(i j:Nat) (x y:Fl),W[i]?=some x→W[j]?=some y→i≤j→wK y t<0→wK x t<0) :
  aH Tryz.prog 141 [v,.agg (aR t).toArray,.func (.func 142) #[] #[]] [A]
   (fun r H=>∃(p:Nat) (b:Bool),(p≤W.length∧(∀(i:Nat) (x:Fl),i<p→W[i]?=some x→wK x t<0)∧(∀(i:Nat) (x:Fl),p≤i→W[i]?=some x→¬wK x t<0))∧r = .tuple #[.int .i64 (p:Int),.bool b]∧H=[A]):=by
 obtain⟨a0,c0,rfl⟩:=hv.shape
 refine aH.aC Tryz.func141 Tryz.ntmps141 fun G F R hE=>?_
 refine go ?_
 refine bJ zr zr bO ?_
 intro bt
 rw[Fo]
 refine go ?_
 refine bF (fun s:Nat × Nat=>(s.1≤s.2∧s.2≤W.length)∧(∀(i:Nat) (x:Fl),i<s.1→W[i]?=some x→wK x t<0)∧(∀(i:Nat) (x:Fl),s.2≤i→W[i]?=some x→¬wK x t<0)) (fun s=>s.2-s.1)
  (fun s=>[(0,.slice a0 W.length c0),(2,.func (.func 142) #[] #[]),(4,.pointer (some ⟨bt,0,none⟩)),(8,.int .i64 W.length),(9,.int .i64 s.1),(10,.int .i64 s.2)])
  (fun _=>ak bt (cl (aR t) 65)::A::F) (0,W.length) ⟨⟨Nat.zero_le _,Nat.le_refl _⟩,fun i x h=>by omega,fun i x h hx=>by rw[List.getElem?_eq_none h]at hx;cases hx⟩ rfl cF (aq.refl _) ?_
 rintro⟨i,j⟩⟨⟨L1,I1⟩,xX,Bh⟩ ih
 simp only at L1 I1 xX Bh
 refine go ?_
 refine aB zr zr ?_ ?_
 ·intro dk
  simp only at dk
  refine go ?_
  refine iQ zr zr zr aj ?_
  refine au 22 (.int .u64 (((i+j)/2:Nat):Int)) rfl (congrArg (Value.int .u64) (by
   have e:min (Int.toNat 1) IntKind.u64.bits=1:=by decide
   rw[e];simp only[];omega)) ?_
  refine go ?_
  have hh:(i+j)/2<W.length:=by omega
  obtain⟨x,hx⟩:∃x,W[(i+j)/2]?=some x:=⟨W[(i+j)/2],by simp⟩
  obtain⟨bb,oo,cc,ez⟩:=hv.some (by rw[← List.length_pos_iff,bR df];omega)
  simp only[Value.slice.injEq,true_and]at ez
  obtain⟨rfl,rfl⟩:=ez
  refine aO (fun w=>Sat G w ([A,ak bt (cl (aR t) 65)])) (dM 0 6 (.act 6 (.st 7 .nil))) rfl aw aw aw (fun w hw=>hw.cI (aq.aI ([1,0]) rfl)) ?_
  refine go ?_
  refine cu ((i+j)/2) 5 zr zr zr zr zr zr zr zr hh ?_
  refine dP (U:=bh) (es:=aR x) 0 ((i+j)/2*5) zr zr zr hv rfl (pw hx) zr zr zr ?_
  refine dP (U:=bh) (es:=aR t) (o:=0) (nn:=1) (cap:=1) 1 0 zr zr zr (Vw.ak rfl) rfl jT zr zr zr ?_
  refine bM [] rfl rfl rfl rfl (Db x t) rfl (fun _ _ w hp hw=>by obtain⟨_,rfl⟩:=hp;exact hw.cI (aq.aI [1,0] rfl)) ?_
  rintro _ _⟨rfl,rfl⟩
  refine go ?_
  refine aB zr zr ?_ ?_
  ·intro hc
   refine go ?_
   refine aQ ih ((i+j)/2+1,j) rfl ⟨⟨by simp only;omega,I1⟩,fun i' x' e9 hx'=>VP i' _ x' x hx' hx (by simp only at e9;omega) hc,Bh⟩ (by simp only;omega) cF (aq.refl _)
  ·intro hc
   refine go ?_
   refine aQ ih (i,(i+j)/2) rfl ⟨⟨by simp only;omega,by simp only;omega⟩,xX,fun i' x' e9 hx' qX=>hc (VP _ i' x x' hx hx' e9 qX)⟩ (by simp only;omega) cF (aq.refl _)
 ·intro fO
  simp only at fO
  have ue:i=j:=by omega
  subst ue
  refine aO (fun w=>Sat G w ([A,ak bt (cl (aR t) 65)])) (dM 0 11 (.act 11 (dM 12 4 .nil))) rfl aw aw aw (fun w hw=>hw.cI (aq.aI ([1,0]) rfl)) ?_
  refine go ?_
  refine dA zr zr zr zr ?_ ?_
  ·intro dk
   simp only at dk
   have hh:i<W.length:=by omega
   obtain⟨x,hx⟩:∃x,W[i]?=some x:=⟨W[i],by simp⟩
   obtain⟨bb,oo,cc,ez⟩:=hv.some (by rw[← List.length_pos_iff,bR df];omega)
   simp only[Value.slice.injEq,true_and]at ez
   obtain⟨rfl,rfl⟩:=ez
   refine go ?_
   refine cu i 5 zr zr zr zr zr zr zr zr hh (go ?_)
   refine dP (U:=bh) (es:=aR x) 0 (i*5) zr zr zr hv rfl (pw hx) zr zr zr (go ?_)
   refine dP (U:=bh) (es:=aR t) (o:=0) (nn:=1) (cap:=1) 1 0 zr zr zr (Vw.ak rfl) rfl jT zr zr zr (go ?_)
   refine bM [] rfl rfl rfl rfl (Db x t) rfl (fun _ _ w hp hw=>by obtain⟨_,rfl⟩:=hp;exact hw.cI (aq.aI [1,0] rfl)) ?_
   rintro _ _⟨rfl,rfl⟩
   refine go ?_
   refine aG hE Tryz.func141 rfl _ rfl ⟨i,_,⟨I1,xX,Bh⟩,rfl,rfl⟩ (aq.fin [1] 1 zr zr)
  ·intro dk
   refine go ?_
   refine aG hE Tryz.func141 rfl _ rfl ⟨i,_,⟨I1,xX,Bh⟩,rfl,rfl⟩ (aq.fin [1] 1 zr zr)
def KS(W:List Fl):Prop:=∀x∈W,x.v.oneCell'=true
def tw{x:Fl}(h:x.v.oneCell'=true):∀u∈aR x,u.oneCell'=true:=by
 intro u hu
 simp only[aR,List.mem_cons,List.not_mem_nil,or_false]at hu
 rcases hu with rfl|rfl|rfl|rfl|rfl
 ·rfl
 ·rfl
 ·rfl
 ·rfl
 ·exact h
def KS.cells{W:List Fl}(h:KS W):∀u∈W.flatMap aR,u.oneCell'=true:=by
 intro u hu
 obtain⟨x,hx,hux⟩:=List.mem_flatMap.1 hu
 exact tw (h x hx) u hux
def lx(W:List Fl)(i:Nat)(hi:i≤W.length):(W.take i).flatMap aR=(W.flatMap aR).take (i*5)∧(W.drop i).flatMap aR=(W.flatMap aR).drop (i*5):=by
 have h1:W.flatMap aR=(W.take i).flatMap aR++(W.drop i).flatMap aR:=by rw[← List.flatMap_append,List.take_append_drop]
 have h2:((W.take i).flatMap aR).length=i*5:=by rw[bR df,List.length_take,Nat.min_eq_left hi]
 constructor
 ·rw[h1,← h2,List.take_left]
 ·rw[h1,← h2,List.drop_left]
def nV(W:List Fl)(i:Nat)(x:Fl):List Fl:=W.take i++x::W.drop i
def pe(W:List Fl)(i:Nat)(x:Fl):(nV W i x).length=W.length+1:=by unfold nV;simp;omega
def KZ(s:Value)(W:List Fl)(x:Fl)(b1 i:Nat)(hi:i≤W.length)(hW:KS W)(hx:x.v.oneCell'=true)(hlen:W.length≤1000000000) :
  aH Tryz.prog 145 [s,.int .i64 (i:Int),.slice (some ⟨b1,0,none⟩) 1 1] [aK 65 5 s W.length (W.flatMap aR),ak b1 (cl (aR x) 65)]
   (fun r H=>H=[aK 65 5 r (W.length+1) ((nV W i x).flatMap aR)]):=by
 refine aH.aC Tryz.func145 Tryz.ntmps145 fun G F R hE=>?_
 refine aM 0 rfl ?_
 rintro a0 c0 rfl
 refine go ?_
 refine aU (p:=(i:Int)) (q:=(W.length:Int)) zr zr zr zr zr zr zr aj aj (.inl rfl) (go ?_)
 refine aB zr zr ?_ ?_
 ·intro nI
  have ue:i=W.length:=by omega
  refine go ?_
  refine bg (mm:=1) (news:=aR x) 0 1 zr zr zr zr zr zr zr zr zr zr zr zr (Vw.ak rfl) rfl (tw hx) aj (by show _*56≤_;omega) (fun _=>rfl) bO ?_
  intro v'
  have e1:W.flatMap aR++aR x=(nV W i x).flatMap aR:=by subst ue;simp[nV]
  rw[e1]
  refine aN 0 rfl ?_
  rintro a1 c1 rfl
  refine go ?_
  refine aG hE Tryz.func145 rfl _ zr zr (aq.fin [0] 1 zr zr)
 ·intro nI
  have dk:i<W.length:=by omega
  (repeat(first|refine g9 ?_|refine Sz (U:=bh) zr zr zr zr ?_))
  have Dz:(W.flatMap aR).length=W.length*5:=bR df W
  obtain⟨hf1,hf2⟩:=lx W i hi
  have adt:(nV W i x).flatMap aR=(W.flatMap aR).take (i*5)++aR x++(W.flatMap aR).drop (i*5):=by simp[nV,hf1,hf2]
  have gD:=hW.cells
  refine yq 0 rfl aj ?_
  rintro ba oa ca ez hca _ hvs
  simp only[Value.slice.injEq,true_and]at ez
  obtain⟨rfl,rfl⟩:=ez
  refine aB zr zr ?_ ?_
  ·intro afY
   refine go ?_
   refine aU (p:=0) (q:=(i:Int)) zr zr zr zr zr zr zr aj aj (.inr aj) ?_
   refine au 34 (.slice (some ⟨ba,oa,none⟩) i c0) rfl (by rw[show(0:Int).toNat=0 from rfl,dT];rfl) ?_
   refine go ?_
   refine au 39 (.int .i64 ((W.length+1-i:Nat):Int)) rfl (congrArg (Value.int .i64) aj) ?_
   refine D9 (U:=bh) (mm:=W.length+1-i) (cs:=(W.flatMap aR).take (i*5)) 0 zr zr zr zr zr zr zr zr zr zr zr zr (hvs.front i c0 (i*5)) (by rw[List.length_take,Dz];show min (i*5) _=i*5;omega) aj aj aj (by show _*56≤_;omega) (by show _*56≤_;omega) bO ?_
   intro v'
   rw[show i+(W.length+1-i)=W.length+1 from by omega]
   refine zR 0 rfl aj ?_
   rintro b2 o2 c2 rfl _
   refine Su (sP aj) ?_
   rintro⟨pre,junk⟩⟨hp,VO,qu,kJ⟩
   have kr:Tryz.t65.size=5:=rfl
   generalize hZ:bC (Value.agg #[Value.int IntKind.i64 0,Value.int IntKind.i64 0,Value.int IntKind.i64 0,Value.int IntKind.i64 0,Value.slice none 0 0])=Z at kJ qu
   have hZl:Z.length=5:=by rw[← hZ];rfl
   have y7:((W.flatMap aR).take (i*5)).length=i*5:=by rw[List.length_take,Dz];omega
   have hzz:(List.replicate (W.length+1-i) Z).flatten=Z++(List.replicate (W.length-i) Z).flatten:=by rw[show W.length+1-i=(W.length-i)+1 from by omega,List.replicate_succ];simp
   have w9:(List.replicate (W.length-i) Z).flatten.length=(W.length-i)*5:=by rw[kL,hZl]
   simp only at hp VO qu kJ
   have FV:c2*5≤(W.length+1)*5+junk.length:=by
    have h1:((W.flatMap aR).take (i*5)++(List.replicate (W.length+1-i) Z).flatten).length=(W.length+1)*5:=kJ
    rw[h1]at qu;exact qu
   refine go ?_
   refine aU (p:=(i:Int)) (q:=((W.length+1:Nat):Int)) zr zr zr zr zr zr zr aj aj (.inl rfl) ?_
   refine au 43 (.slice (some ⟨b2,o2+i*5,none⟩) (W.length+1-i) (c2-i)) rfl (by
    rw[show(i:Int).toNat=i from by omega,ep _ _ _ _ _ aj];rfl) ?_
   refine go ?_
   refine sF (mm:=1) (src:=aR x) (l':=pre++((W.flatMap aR).take (i*5)++aR x)++((List.replicate (W.length-i) Z).flatten++junk)) 0 2 zr zr zr zr zr zr zr zr (Vw.ak rfl) rfl (tw hx) (by
    rw[show min 1 (W.length+1-i)=1 from by omega]
    simp only[List.length_append,hp,y7,hzz,hZl,w9];show _+1*5≤_;omega) (by
    rw[show min 1 (W.length+1-i)=1 from by omega,hzz]
    have e1:pre++((W.flatMap aR).take (i*5)++(Z++(List.replicate (W.length-i) Z).flatten))++junk=pre++(W.flatMap aR).take (i*5)++Z++((List.replicate (W.length-i) Z).flatten++junk):=by simp only[List.append_assoc]
    show _=(pre++((W.flatMap aR).take (i*5)++(Z++(List.replicate (W.length-i) Z).flatten))++junk).take _++(aR x).take (1*5)++(pre++((W.flatMap aR).take (i*5)++(Z++(List.replicate (W.length-i) Z).flatten))++junk).drop _
    rw[e1,show(aR x).take (1*5)=aR x from rfl]
    exact(Vt (by rw[hp,y7]) hZl rfl).symm) rfl eH ?_
   refine go ?_
   refine aO (fun w=>Sat G w ([])) (dM 0 8 (.act 8 .nil)) rfl aw aw aw (fun w hw=>hw.cI (aq.aI ([]) rfl)) ?_
   refine go ?_
   refine aU (p:=(i:Int)+1) (q:=((W.length+1:Nat):Int)) zr zr zr zr zr zr zr aj aj (.inl rfl) ?_
   refine au 50 (.slice (some ⟨b2,o2+(i+1)*5,none⟩) (W.length-i) (c2-(i+1))) rfl (by
    rw[show((i:Int)+1).toNat=i+1 from by omega,ep _ _ _ _ _ aj,show((W.length+1:Nat):Int).toNat-(i+1)=W.length-i from by omega];rfl) ?_
   refine go ?_
   refine aU (p:=(i:Int)) (q:=(W.length:Int)) zr zr zr zr zr zr zr aj aj (.inl rfl) ?_
   refine au 53 (.slice (some ⟨ba,oa+i*5,none⟩) (W.length-i) (c0-i)) rfl (by
    rw[show(i:Int).toNat=i from by omega,ep _ _ _ _ _ aj];rfl) ?_
   refine sF (mm:=W.length-i) (src:=(W.flatMap aR).drop (i*5)) (l':=pre++((nV W i x).flatMap aR)++junk) 0 1 zr zr zr zr zr zr zr zr (hvs.back (W.length-i) (c0-i) (i*5)) (by rw[List.length_drop,Dz];show _=_*5;omega) (fun u hu=>gD u (List.mem_of_mem_drop hu)) (by
    rw[Nat.min_self]
    simp only[List.length_append,hp,y7,w9,df];show _+_*5≤_;omega) (by
    rw[Nat.min_self,adt]
    have hd:((W.flatMap aR).drop (i*5)).take ((W.length-i)*5)=(W.flatMap aR).drop (i*5):=List.take_of_length_le (by rw[List.length_drop,Dz];omega)
    show _=List.take (o2+(i+1)*5) _++((W.flatMap aR).drop (i*5)).take ((W.length-i)*5)++List.drop (o2+(i+1)*5+(W.length-i)*5) _
    rw[hd]
    have h1:List.take (o2+(i+1)*5) (pre++((W.flatMap aR).take (i*5)++aR x)++((List.replicate (W.length-i) Z).flatten++junk))=pre++((W.flatMap aR).take (i*5)++aR x):=List.take_left' (by simp only[List.length_append,hp,y7,df];omega)
    have h2:List.drop (o2+(i+1)*5+(W.length-i)*5) (pre++((W.flatMap aR).take (i*5)++aR x)++((List.replicate (W.length-i) Z).flatten++junk))=junk:=by
     rw[← List.append_assoc];exact List.drop_left' (by simp only[List.length_append,hp,y7,w9,df];omega)
    rw[h1,h2];simp only[List.append_assoc]) rfl eH ?_
   refine go ?_
   refine al (jP (nn:=W.length+1) hp aj (by rw[bR df,pe];exact FV) (by rw[bR df,pe]) _) ?_
   refine aG hE Tryz.func145 rfl _ zr zr (aq.fin [0] 2 zr zr)
  ·intro mz
   have y7:((W.flatMap aR).take (i*5)).length=i*5:=by rw[List.length_take,Dz];omega
   refine dZ (sP aj) ?_
   rintro⟨pre,junk⟩⟨hp,_,FV,_⟩
   simp only at hp FV
   rw[Dz]at FV
   have hj5:5≤junk.length:=by have:(W.length+1)*5≤c0*5:=Nat.mul_le_mul_right 5 aj;omega
   have hX:W.flatMap aR=(W.flatMap aR).take (i*5)++(((W.flatMap aR).drop (i*5)).take 5++(W.flatMap aR).drop (i*5+5)):=by
    rw[← List.drop_drop,List.take_append_drop,List.take_append_drop]
   have hd5:(((W.flatMap aR).drop (i*5)).take 5).length=5:=by rw[List.length_take,List.length_drop,Dz];omega
   have hd6:((W.flatMap aR).drop (i*5+5)).length=(W.length-i)*5-5:=by rw[List.length_drop,Dz];omega
   have hdd:((W.flatMap aR).drop (i*5)).take 5++(W.flatMap aR).drop (i*5+5)=(W.flatMap aR).drop (i*5):=by rw[← List.drop_drop,List.take_append_drop]
   have NY:((W.flatMap aR).drop (i*5)).length=(W.length-i)*5:=by rw[List.length_drop,Dz];omega
   refine go ?_
   refine aU (p:=0) (q:=(W.length:Int)+1) zr zr zr zr zr zr zr aj aj (.inr aj) ?_
   refine au 60 (.slice (some ⟨ba,oa,none⟩) (W.length+1) c0) rfl (by rw[show(0:Int).toNat=0 from rfl,dT,show((W.length:Int)+1).toNat=W.length+1 from by omega];rfl) ?_
   refine go ?_
   refine aU (p:=(i:Int)+1) (q:=((W.length+1:Nat):Int)) zr zr zr zr zr zr zr aj aj (.inl rfl) ?_
   refine au 66 (.slice (some ⟨ba,oa+(i+1)*5,none⟩) (W.length-i) (c0-(i+1))) rfl (by
    rw[show((i:Int)+1).toNat=i+1 from by omega,ep _ _ _ _ _ aj,show((W.length+1:Nat):Int).toNat-(i+1)=W.length-i from by omega];rfl) ?_
   refine KW (U:=bh) (tS:=59) (rs := #[4]) [1,0] rfl Tryz.func207 aw aw aw aw zr zr zr zr zr (go ?_)
   have hLl:(pre++W.flatMap aR++junk).length=oa+W.length*5+junk.length:=by simp only[List.length_append,hp,Dz]
   have acX:(((pre++W.flatMap aR++junk).drop (oa+i*5)).take ((W.length+1-i)*5)).length=(W.length+1-i)*5:=by rw[List.length_take,List.length_drop,hLl];omega
   have cN:(((pre++W.flatMap aR++junk).drop (oa+i*5)).take ((W.length+1-i)*5)).take ((W.length-i)*5)=(W.flatMap aR).drop (i*5):=by
    rw[List.take_take,show min ((W.length-i)*5) ((W.length+1-i)*5)=(W.length-i)*5 from by omega]
    rw[show oa+i*5=pre.length+i*5 from by omega,List.append_assoc,List.drop_length_add_append,List.drop_append_of_le_length (by rw[Dz];omega)]
    exact List.take_left' NY
   refine aO (fun w=>Sat G w ([])) (dM 0 8 (.act 8 .nil)) rfl aw aw aw (fun w hw=>hw.cI (aq.aI ([]) rfl)) ?_
   refine go ?_
   refine aU (p:=(i:Int)+1) (q:=((W.length+1:Nat):Int)) zr zr zr zr zr zr zr aj aj (.inl rfl) ?_
   refine au 73 (.slice (some ⟨ba,oa+(i+1)*5,none⟩) (W.length-i) (c0-(i+1))) rfl (by
    rw[show((i:Int)+1).toNat=i+1 from by omega,ep _ _ _ _ _ aj,show((W.length+1:Nat):Int).toNat-(i+1)=W.length-i from by omega];rfl) ?_
   refine go ?_
   refine aU (p:=(i:Int)) (q:=((W.length+1:Nat):Int)) zr zr zr zr zr zr zr aj aj (.inl rfl) ?_
   refine au 76 (.slice (some ⟨ba,oa+i*5,none⟩) (W.length+1-i) (c0-i)) rfl (by
    rw[show(i:Int).toNat=i from by omega,ep _ _ _ _ _ aj];rfl) ?_
   refine FL (U:=bh) (mm:=W.length+1-i) (src:=((pre++W.flatMap aR++junk).drop (oa+i*5)).take ((W.length+1-i)*5))
    (l':=pre++(W.flatMap aR).take (i*5)++((W.flatMap aR).drop (i*5)).take 5++((W.flatMap aR).drop (i*5)++junk.drop 5)) 0 0 zr zr zr zr zr zr zr zr (Vw.ak (by rw[acX])) acX (by
     rw[show min (W.length+1-i) (W.length-i)=W.length-i from by omega]
     show ∀u∈List.take ((W.length-i)*5) _,_
     rw[cN];exact fun u hu=>gD u (List.mem_of_mem_drop hu)) (by
     rw[show min (W.length+1-i) (W.length-i)=W.length-i from by omega]
     show _+_*5≤(pre++W.flatMap aR++junk).length
     rw[hLl];omega) (by
     rw[show min (W.length+1-i) (W.length-i)=W.length-i from by omega]
     show _=(pre++W.flatMap aR++junk).take (oa+(i+1)*5)++List.take ((W.length-i)*5) _++(pre++W.flatMap aR++junk).drop (oa+(i+1)*5+(W.length-i)*5)
     rw[cN]
     have hA:=acK (pre:=pre) (c1:=(W.flatMap aR).take (i*5)) (d:=((W.flatMap aR).drop (i*5)).take 5) (c3:=(W.flatMap aR).drop (i*5+5)) (junk:=junk) (q:=oa+i*5) (s:=5) (r:=oa+(i+1)*5+(W.length-i)*5) (by rw[hp,y7]) hd5 (by rw[hdd,NY];omega) hj5
     rw[hdd]at hA
     rw[show(W.flatMap aR).take (i*5)++(W.flatMap aR).drop (i*5)=W.flatMap aR from List.take_append_drop _ _]at hA
     rw[show oa+(i+1)*5=oa+i*5+5 from by omega]at hA ⊢
     rw[hA];simp only[List.append_assoc]) rfl eH ?_
   refine go ?_
   refine aU (p:=(i:Int)) (q:=((W.length+1:Nat):Int)) zr zr zr zr zr zr zr aj aj (.inl rfl) ?_
   refine au 80 (.slice (some ⟨ba,oa+i*5,none⟩) (W.length+1-i) (c0-i)) rfl (by
    rw[show(i:Int).toNat=i from by omega,ep _ _ _ _ _ aj];rfl) ?_
   refine go ?_
   refine sF (mm:=1) (src:=aR x) (l':=pre++((nV W i x).flatMap aR)++junk.drop 5) 0 1 zr zr zr zr zr zr zr zr (Vw.ak rfl) rfl (tw hx) (by
    rw[show min 1 (W.length+1-i)=1 from by omega]
    simp only[List.length_append,hp,y7,hd5,NY];show _+1*5≤_;omega) (by
    rw[show min 1 (W.length+1-i)=1 from by omega,adt]
    have hB:=Vt (pre:=pre) (c1:=(W.flatMap aR).take (i*5)) (d:=((W.flatMap aR).drop (i*5)).take 5) (rest:=(W.flatMap aR).drop (i*5)++junk.drop 5) (f:=aR x) (q:=oa+i*5) (s:=5) (r:=oa+i*5+1*5) (by rw[hp,y7]) hd5 rfl
    show _=List.take (oa+i*5) _++(aR x).take (1*5)++List.drop (oa+i*5+1*5) _
    rw[show(aR x).take (1*5)=aR x from rfl,hB];simp only[List.append_assoc]) rfl eH ?_
   refine go ?_
   refine al (jP (sz:=5) (e:=65) (c:=c0) (cs:=(nV W i x).flatMap aR) (junk:=junk.drop 5) (nn:=W.length+1) hp aj (by rw[bR df,pe,List.length_drop];have h9:c0*5≤W.length*5+junk.length:=FV;omega) (by rw[bR df,pe]) _) ?_
   refine aG hE Tryz.func145 rfl _ zr zr (aq.fin [0] 1 zr zr)
def Z5:List Value:=[.int .i64 0,.int .i64 0,.int .i64 0,.int .i64 0,.slice none 0 0]
def aa4:Z5.length=5:=rfl
def K3(s:Value)(W:List Fl)(i:Nat)(hi:i<W.length)(hW:KS W)(hlen:W.length≤1000000000) :
  aH Tryz.prog 62 [s,.int .i64 (i:Int),.int .i64 ((i:Int)+1)] [aK 65 5 s W.length (W.flatMap aR)]
   (fun r H=>H=[aK 65 5 r (W.length-1) ((W.take i++W.drop (i+1)).flatMap aR)]):=by
 have Dz:(W.flatMap aR).length=W.length*5:=bR df W
 have hf1:=(lx W i aj).1
 have hf2:=(lx W (i+1) aj).2
 have gD:=hW.cells
 have afo:(W.take i++W.drop (i+1)).flatMap aR=(W.flatMap aR).take (i*5)++(W.flatMap aR).drop ((i+1)*5):=by rw[List.flatMap_append,hf1,hf2]
 have u3:(W.take i++W.drop (i+1)).length=W.length-1:=by simp only[List.length_append,List.length_take,List.length_drop];omega
 have y7:((W.flatMap aR).take (i*5)).length=i*5:=by rw[List.length_take,Dz];omega
 have S6:((W.flatMap aR).drop ((i+1)*5)).length=(W.length-(i+1))*5:=by rw[List.length_drop,Dz];omega
 refine aH.aC Tryz.func62 Tryz.ntmps62 fun G F R hE=>?_
 refine yq 0 rfl aj ?_
 rintro ba oa c0 rfl hca _ hvs
 refine dZ (sP aj) ?_
 rintro⟨pre,junk⟩⟨hp,_,FV,_⟩
 simp only at hp FV
 rw[Dz]at FV
 have hlL:(pre++W.flatMap aR++junk).length=oa+W.length*5+junk.length:=by simp only[List.length_append,hp,Dz]
 have hd3:(pre++W.flatMap aR++junk).drop (oa+(W.length-1)*5)=(W.flatMap aR).drop ((W.length-1)*5)++junk:=by
  rw[← hp,List.append_assoc,List.drop_length_add_append,List.drop_append_of_le_length (by rw[Dz];omega)]
 have VA:(pre++W.flatMap aR++junk).take (oa+i*5)=pre++(W.flatMap aR).take (i*5):=by
  rw[← hp,List.append_assoc,List.take_length_add_append,List.take_append_of_le_length (by rw[Dz];omega)]
 have NZ:((pre++W.flatMap aR++junk).drop (oa+(i+1)*5)).take ((W.flatMap aR).drop ((i+1)*5)).length=(W.flatMap aR).drop ((i+1)*5):=by
  rw[← hp,List.append_assoc,List.drop_length_add_append,List.drop_append_of_le_length (by rw[Dz];omega)]
  exact List.take_left' rfl
 have Kb:((W.flatMap aR).drop ((W.length-1)*5)).length=5:=by rw[List.length_drop,Dz];omega
 refine go ?_
 refine Sq (U:=bh) (p:=(i:Int)) (q:=(i:Int)+1) (r:=(W.length:Int)) zr zr zr zr zr zr zr zr aj aj aj aj (go ?_)
 refine aB zr zr ?_ ?_
 ·intro h;exfalso;omega
 intro _
 refine go ?_
 refine aO (fun w=>Sat G w ([])) (dM 0 6 (.act 6 (.st 7 .nil))) rfl aw aw aw (fun w hw=>hw.cI (aq.aI ([]) rfl)) ?_
 refine go ?_
 refine aU (p:=0) (q:=(i:Int)) zr zr zr zr zr zr zr aj aj (.inr aj) ?_
 refine au 22 (.slice (some ⟨ba,oa,none⟩) i c0) rfl (by rw[show(0:Int).toNat=0 from rfl,dT,show(i:Int).toNat=i from by omega];rfl) ?_
 refine go ?_
 refine aU (p:=(i:Int)+1) (q:=(W.length:Int)) zr zr zr zr zr zr zr aj aj (.inl rfl) ?_
 refine au 25 (.slice (sliceAt (some ⟨ba,oa,none⟩) c0 (i+1) 5) (W.length-(i+1)) (c0-(i+1))) rfl (by
  rw[show((i:Int)+1).toNat=i+1 from by omega,show(W.length:Int).toNat=W.length from by omega];rfl) ?_
 refine KX (U:=bh) (mm:=W.length-(i+1)) (news:=(W.flatMap aR).drop ((i+1)*5)) (l':=pre++((W.take i++W.drop (i+1)).flatMap aR)++((W.flatMap aR).drop ((W.length-1)*5)++junk)) 0 0 zr zr zr zr zr zr zr zr zr zr (by
  by_cases Uh:i+1=c0
  ·have h0:W.length-(i+1)=0:=by omega
   rw[h0]
   have:(W.flatMap aR).drop ((i+1)*5)=[]:=List.eq_nil_of_length_eq_zero (by rw[S6,h0])
   rw[this];exact Vw.nil _ _ _
  ·rw[ep _ _ _ _ _ Uh]
   exact Vw.ak NZ) S6 (fun u hu=>gD u (List.mem_of_mem_drop hu)) aj (by
  show oa+(i+(W.length-(i+1)))*5≤(pre++W.flatMap aR++junk).length
  rw[hlL];omega) (by
  show _=(pre++W.flatMap aR++junk).take (oa+i*5)++(W.flatMap aR).drop ((i+1)*5)++(pre++W.flatMap aR++junk).drop (oa+(i+(W.length-(i+1)))*5)
  rw[show i+(W.length-(i+1))=W.length-1 from by omega,hd3,VA,afo];simp only[List.append_assoc]) rfl (fun w hw=>hw.cI (aq.aI [] rfl)) ?_
 refine au 26 (.slice (some ⟨ba,oa,none⟩) (W.length-1) c0) rfl (by rw[show i+(W.length-(i+1))=W.length-1 from by omega]) ?_
 have aas:(pre++((W.take i++W.drop (i+1)).flatMap aR)).length=oa+(W.length-1)*5:=by rw[List.length_append,bR df,u3,hp]
 refine go ?_
 refine aU (p:=((W.length-1:Nat):Int)) (q:=(W.length:Int)) zr zr zr zr zr zr zr aj aj (.inr aj) ?_
 refine au 31 (.slice (some ⟨ba,oa+(W.length-1)*5,none⟩) 1 (c0-(W.length-1))) rfl (by
  rw[show((W.length-1:Nat):Int).toNat=W.length-1 from by omega,ep _ _ _ _ _ aj,show(W.length:Int).toNat-(W.length-1)=1 from by omega];rfl) ?_
 refine FM (U:=bh) (l':=pre++((W.take i++W.drop (i+1)).flatMap aR)++(Z5++junk)) 0 eH zr zr zr zr zr zr zr zr (by
  show oa+(W.length-1)*5+1*5≤_
  rw[List.length_append,aas,List.length_append,Kb];omega) (by
  show _=List.take (oa+(W.length-1)*5) _++Z5++List.drop (oa+(W.length-1)*5+1*5) _
  rw[List.take_left' aas,show oa+(W.length-1)*5+1*5=(pre++((W.take i++W.drop (i+1)).flatMap aR)).length+5 from by rw[aas],List.drop_length_add_append,List.drop_left' Kb];simp only[List.append_assoc]) rfl ?_
 refine go ?_
 refine al (jP (sz:=5) (e:=65) (c:=c0) (cs:=(W.take i++W.drop (i+1)).flatMap aR) (nn:=W.length-1) hp aj (by
  rw[bR df,u3,List.length_append];have h9:c0*5≤W.length*5+junk.length:=FV;rw[aa4];omega) (by rw[bR df,u3]) _) ?_
 refine aG hE Tryz.func62 rfl _ zr zr (aq.fin [0] 0 zr zr)
def Ce(A:HP)(v:Value)(W:List Fl)(hv:Vw A v W.length (W.flatMap aR))(hW:KS W)(hlen:W.length≤1000000000) :
  aH Tryz.prog 66 [v] [A] (fun r H=>H=[aK 65 5 r W.length (W.flatMap aR),A]):=by
 obtain⟨a,c0,rfl⟩:=hv.shape
 cases a with
 | none =>
  have hb:W=[]:=by
   obtain⟨a,cap,h1,h2|⟨b,o,h2,_⟩⟩:=hv
   ·have:=congrArg List.length h2
    rw[bR df]at this
    exact List.eq_nil_of_length_eq_zero (by simp at this;omega)
   ·simp only[Value.slice.injEq]at h1;rw[← h1.1]at h2;cases h2
  subst hb
  refine aH.enter Tryz.func66 aw rfl Tryz.ntmps66 zr zr ?_
  intro G F R hR
  refine go ?_
  have he:c0=c0:=rfl
  refine al (bS 65 5 none _) ?_
  refine aG hR Tryz.func66 rfl _ zr zr (aq.fin [0,1] 0 zr zr)
 | some a =>
  refine aH.enter Tryz.func66 aw rfl Tryz.ntmps66 zr zr ?_
  intro G F R hR
  refine go ?_
  refine az (cs:=[]) zr zr zr zr zr zr zr zr zr bO ?_
  intro b0
  refine go ?_
  refine aT (fp 65 5 b0 0 0 [] [] _ rfl (Nat.le_refl _) (by simp)) ?_
  refine bg (mm:=W.length) (news:=W.flatMap aR) 0 1 zr zr zr zr zr zr zr zr zr zr zr zr hv (by rw[bR df];rfl) hW.cells aj (by show _*56≤_;omega) (fun _=>rfl) bO ?_
  intro v'
  have e1:(0:Nat)+W.length=W.length:=by omega
  rw[e1,List.nil_append]
  refine go ?_
  refine aG hR Tryz.func66 rfl _ zr zr (aq.fin [0,1] 0 zr zr)
def K8(A:HP)(v:Value)(bs:List UInt8)(hv:Vw A v bs.length (bV bs))(hlen:bs.length≤1000000000) :
  aH Tryz.prog 139 [v] [A] (fun r H=>H=[aK 5 1 r bs.length (bV bs),A]):=by
 obtain⟨a,c0,rfl⟩:=hv.shape
 cases a with
 | none =>
  have hb:bs=[]:=by
   obtain⟨a,cap,h1,h2|⟨b,o,h2,_⟩⟩:=hv
   ·simpa[bV]using h2
   ·simp only[Value.slice.injEq]at h1;rw[← h1.1]at h2;cases h2
  subst hb
  refine aH.enter Tryz.func139 aw rfl Tryz.ntmps139 zr zr ?_
  intro G F R hR
  refine go ?_
  have he:c0=c0:=rfl
  refine al (bS 5 1 none _) ?_
  refine aG hR Tryz.func139 rfl _ zr zr (aq.fin [0,1] 0 zr zr)
 | some a =>
  refine aH.enter Tryz.func139 aw rfl Tryz.ntmps139 zr zr ?_
  intro G F R hR
  refine go ?_
  refine az zr zr zr zr zr zr zr zr zr bO ?_
  intro b0
  refine go ?_
  refine aT (fp 5 1 b0 0 0 [] [] _ rfl (Nat.le_refl _) (by simp)) ?_
  refine bg (mm:=bs.length) (news:=bV bs) 0 1 zr zr zr zr zr zr zr zr zr zr zr zr hv (by show _=_*1;rw[bN];omega) (dR bs) aj (by show _*1≤_;omega) (fun _=>rfl) bO ?_
  intro v'
  have e1:(0:Nat)+bs.length=bs.length:=by omega
  rw[e1,List.nil_append]
  refine go ?_
  refine aG hR Tryz.func139 rfl _ zr zr (aq.fin [0,1] 0 zr zr)
def SG(b:Nat)(now:Int)(x:Fl):aH Tryz.prog 65 [.agg (aR x).toArray,ptr b] [ak b (cl [.int .i64 now] 3)] (fun v H=>v = .bool (decide (now<x.due))∧H=[ak b (cl [.int .i64 now] 3)]):=by
 refine aH.enter Tryz.func65 aw rfl Tryz.ntmps65 zr zr ?_
 intro G F R hR
 refine go ?_
 refine bJ zr zr bO ?_
 intro b1
 rw[Fo]
 refine go ?_
 refine aG hR Tryz.func65 rfl _ rfl ⟨by simp[dt],rfl⟩ (aq.fin [1] 1 zr zr)
def R5{W:List Fl}{i:Nat}{p:Fl→Bool}(hb:∀y∈W.take i,p y=false){x:Fl}(hx:W[i]?=some x)(hp:p x=false):∀y∈W.take (i+1),p y=false:=by
 intro y hy
 rw[List.take_add_one,hx]at hy
 rcases List.mem_append.1 hy with h|h
 ·exact hb y h
 ·simp at h;subst h;exact hp
def K0(A X:HP)(v:Value)(W:List Fl)(hv:Vw A v W.length (W.flatMap aR))(hlen:W.length≤1000000000)(g:FuncId)(cap:List Value)(p:Fl→Bool)(hf:∀x∈W,aH Tryz.prog g (.agg (aR x).toArray::cap) [X] (fun v H=>v = .bool (p x)∧H=[X])) :
  aH Tryz.prog 64 [v,.func (.func g) #[] cap.toArray] [A,X]
   (fun r H=>((∃i:Nat,i<W.length∧r = .int .i64 (i:Int)∧(∀y∈W.take i,p y=false)∧∃x,W[i]?=some x∧p x=true)∨(r = .int .i64 (-1)∧∀y∈W,p y=false))∧H=[A,X]):=by
 obtain⟨a,c0,rfl⟩:=hv.shape
 refine aH.enter Tryz.func64 aw rfl Tryz.ntmps64 zr zr ?_
 intro G F R hR
 refine go ?_
 refine bF (fun i:Nat=>i≤W.length∧∀y∈W.take i,p y=false) (fun i=>W.length-i) (fun i=>[(0,.slice a W.length c0),(1,.func (.func g) #[] cap.toArray),(7,.int .i64 W.length),(8,.int .i64 i)]) (fun _=>[A,X]++F) 0 ⟨by simp,by simp⟩ rfl cF (aq.refl _) ?_
 rintro i⟨hi,hb⟩ ih
 refine go ?_
 refine aB zr zr ?_ ?_
 ·intro dk
  refine go ?_
  have e9:i<W.length:=by omega
  obtain⟨x,hx⟩:∃x,W[i]?=some x:=⟨W[i],by simp⟩
  obtain⟨b,o,gV,ez⟩:=hv.some (by rw[← List.length_pos_iff,bR df];omega)
  simp only[Value.slice.injEq]at ez
  obtain⟨rfl,_,rfl⟩:=ez
  refine cu i 5 zr zr zr zr zr zr zr zr e9 ?_
  refine cK (U:=bh) (es:=aR x) 0 (i*5) zr zr zr hv rfl (pw hx) zr zr zr ?_
  refine bM [1] zr zr zr zr (hf x (List.mem_of_getElem? hx)) rfl bI ?_
  rintro _ _⟨rfl,rfl⟩
  refine go ?_
  refine eX zr zr ?_ ?_
  ·intro hp
   refine go ?_
   refine aG hR Tryz.func64 rfl _ rfl ⟨.inl ⟨i,e9,rfl,hb,x,hx,hp⟩,rfl⟩ (aq.fin [1,0] 0 zr zr)
  ·intro hp
   refine go ?_
   refine aQ ih (i+1) rfl ⟨aj,R5 hb hx hp⟩ aj cF (aq.pick [1,0] rfl)
 ·intro fO
  refine go ?_
  have:i=W.length:=by omega
  subst this
  refine aG hR Tryz.func64 rfl _ rfl ⟨.inr ⟨rfl,fun y hy=>hb y (by simpa using hy)⟩,rfl⟩ (aq.fin [0,1] 0 zr zr)
structure Fa where
 num:Int
 src:Int
 dst:Int
 due:Int
 bs:List UInt8
def Fl.a(x:Fl):Fa:=⟨x.num,x.src,x.dst,x.due,x.bs⟩
def xR(x y:Fa):Prop:=x.due<y.due∨(x.due=y.due∧x.num<y.num)
instance(x y:Fa):Decidable (xR x y):=by unfold xR;infer_instance
def zN(x y:Fl):wK x y<0↔xR x.a y.a:=by
 unfold wK wJ xR Fl.a
 simp only
 repeat(first|split|omega)
 all_goals omega
def qq(f:Fa)(l:List Fa):List Fa:=l.takeWhile (fun x=>decide (xR x f))++f::l.dropWhile (fun x=>decide (xR x f))
def PB{α:Type}{P:α→Bool}:∀(l:List α) (p:Nat),p≤l.length→(∀(i:Nat) (x:α),i<p→l[i]?=some x→P x=true)→(∀(i:Nat) (x:α),p≤i→l[i]?=some x→P x=false)→l.take p=l.takeWhile P∧l.drop p=l.dropWhile P:=by
 intro l
 induction l with
 | nil=>intro p hp _ _;simp
 | cons y l ih =>
  intro p hp h1 h2
  cases p with
  | zero =>
   have:=h2 0 y (Nat.le_refl _) rfl
   simp[List.takeWhile_cons,List.dropWhile_cons,this]
  | succ p =>
   have hy:=h1 0 y aj rfl
   have:=ih p (by simp at hp;omega) (fun i x hi hx=>h1 (i+1) x aj (by simpa using hx)) (fun i x hi hx=>h2 (i+1) x aj (by simpa using hx))
   simp[List.takeWhile_cons,List.dropWhile_cons,hy,this.1,this.2]
def ND{W:List Fl}{f:Fl}{p:Nat}(hp:p≤W.length)(h1:∀(i:Nat) (x:Fl),i<p→W[i]?=some x→wK x f<0)(h2:∀(i:Nat) (x:Fl),p≤i→W[i]?=some x→¬wK x f<0):(nV W p f).map Fl.a=qq f.a (W.map Fl.a):=by
 have h:=PB (P:=fun x=>decide (xR x f.a)) (W.map Fl.a) p (by simpa using hp) (fun i x hi hx=>by
  rw[List.getElem?_map]at hx
  cases hw:W[i]? with
  | none=>rw[hw]at hx;cases hx
  | some y =>
   rw[hw]at hx;cases hx
   exact decide_eq_true ((zN _ _).1 (h1 i y hi hw))) (fun i x hi hx=>by
  rw[List.getElem?_map]at hx
  cases hw:W[i]? with
  | none=>rw[hw]at hx;cases hx
  | some y =>
   rw[hw]at hx;cases hx
   exact decide_eq_false (fun hc=>h2 i y hi hw ((zN _ _).2 hc)))
 unfold nV qq
 rw[List.map_append,List.map_cons,List.map_take,List.map_drop,h.1,h.2]
abbrev yo(l:List Fa):Prop:=l.Pairwise xR
def xQ{x y z:Fa}(h1:xR x y)(h2:xR y z):xR x z:=by unfold xR at *;omega
def Gd{W:List Fl}(hs:yo (W.map Fl.a))(t:Fl)(i j:Nat)(x y:Fl)(hx:W[i]?=some x)(hy:W[j]?=some y)(L1:i≤j)(hc:wK y t<0):wK x t<0:=by
 rcases Nat.lt_or_ge i j with h|h
 ·have hi:i<W.length:=by
   rcases Nat.lt_or_ge i W.length with h|h
   ·exact h
   ·rw[List.getElem?_eq_none h]at hx;cases hx
  have hj:j<W.length:=by
   rcases Nat.lt_or_ge j W.length with h|h
   ·exact h
   ·rw[List.getElem?_eq_none h]at hy;cases hy
  have h1:=List.pairwise_iff_getElem.1 hs i j (by simpa using hi) (by simpa using hj) h
  rw[List.getElem?_eq_getElem hi]at hx
  rw[List.getElem?_eq_getElem hj]at hy
  cases hx;cases hy
  simp only[List.getElem_map]at h1
  exact(zN _ _).2 (xQ h1 ((zN _ _).1 hc))
 ·have:i=j:=by omega
  subst this
  rw[hx]at hy;cases hy;exact hc
def pn(bn:Nat)(nodes cf:Nat)(iE:Value)(cJ lost:Nat):HP:=ak bn (cl [.int .i64 (nodes:Int),.int .i64 (cf:Int),iE,.int .i64 (cJ:Int),.int .i64 (lost:Int)] 84)
def ws(iE:Value)(W:List Fl):HP:=aK 65 5 iE W.length (W.flatMap aR)
def GS(bn nodes cf cJ lost:Nat)(iE:Value)(W:List Fl)(f:Fl)(hs:yo (W.map Fl.a))(hW:KS W)(hf:f.v.oneCell'=true)(hlen:W.length≤100000000) :
  aH Tryz.prog 63 [ptr bn,.agg (aR f).toArray] [pn bn nodes cf iE cJ lost,ws iE W]
   (fun _ H=>∃way' W',(W'.Perm (f::W)∧W'.map Fl.a=qq f.a (W.map Fl.a))∧H=[pn bn nodes cf way' cJ lost,ws way' W']):=by
 refine aH.aC Tryz.func63 Tryz.ntmps63 fun G F R hE=>?_
 refine aM 1 rfl ?_
 rintro a0 c0 rfl
 refine go ?_
 refine bJ zr zr bO ?_
 intro bf
 rw[Fo]
 refine go ?_
 refine pH fun J4=>?_
 have dH:Vw (ws (.slice a0 W.length c0) W) (.slice a0 W.length c0) W.length (W.flatMap aR):=by
  obtain⟨w,hw⟩:=J4
  obtain⟨h1,_,hA⟩:=hw.kp (i:=2) rfl
  exact Vw.lj _ _ _ _ _ ⟨h1,hA⟩
 refine aO (fun w=>Sat G w ([ak bf (cl (aR f) 65),ak bn (cl [.int .i64 (nodes:Int),.int .i64 (cf:Int),.slice a0 W.length c0,.int .i64 (cJ:Int),.int .i64 (lost:Int)] 84)])) (dM 0 5 (.act 5 (dM 6 5 .nil))) rfl aw aw aw (fun w hw=>hw.cI (aq.aI ([0,1]) rfl)) ?_
 refine go ?_
 refine dP (U:=bh) (es:=aR f) (o:=0) (nn:=1) (cap:=1) 0 0 zr zr zr (Vw.ak rfl) rfl jT zr zr zr ?_
 refine bM [2] rfl rfl rfl rfl (KN (ws (.slice a0 W.length c0) W) _ W f dH aj (Gd hs f)) rfl (fun _ _ w hp hw=>by obtain⟨_,_,_,_,rfl⟩:=hp;exact hw.cI (aq.aI [1,2] rfl)) ?_
 rintro _ _⟨p,found,⟨hp,T9,I0⟩,rfl,rfl⟩
 refine go ?_
 refine aO (fun w=>Sat G w ([ak bf (cl (aR f) 65),ak bn (cl [.int .i64 (nodes:Int),.int .i64 (cf:Int),.slice a0 W.length c0,.int .i64 (cJ:Int),.int .i64 (lost:Int)] 84)])) (dM 0 7 (.act 7 (.act 8 (.st 9 (.st 10 (.act 11 .nil)))))) rfl aw aw aw (fun w hw=>hw.cI (aq.aI ([1,2]) rfl)) ?_
 refine go ?_
 refine dP (U:=bh) (es:=aR f) (o:=0) (nn:=1) (cap:=1) 0 0 zr zr zr (Vw.ak rfl) rfl jT zr zr zr (go ?_)
 refine az (cs:=aR f) zr zr zr zr zr zr zr zr zr (fun _ w hw=>hw.cI (aq.aI ([2,3]) rfl)) ?_
 intro b3
 refine bM [1,0] rfl rfl rfl rfl (KZ _ W f b3 p hp hW hf aj) rfl (fun _ _ w hp hw=>by subst hp;exact hw.cI (aq.aI [1,2] rfl)) ?_
 rintro r _ rfl
 refine aN 0 rfl ?_
 rintro a1 c1 rfl
 refine go ?_
 have fD:=pe W p f
 rw[show aK 65 5 (.slice a1 (W.length+1) c1) (W.length+1) ((nV W p f).flatMap aR)=ws (.slice a1 (W.length+1) c1) (nV W p f)from by unfold ws;rw[fD]]
 refine ag hE Tryz.func63 rfl _ rfl ⟨_,_,⟨List.perm_middle.trans (by rw[List.take_append_drop]),ND hp T9 I0⟩,rfl⟩ (aq.fin [2,0] 1 zr zr)
def u6(x:Fl):HP:=aK 5 1 x.v x.bs.length (bV x.bs)
structure gX where
 nodes:Nat
 cf:Nat
 cJ:Nat
 lost:Nat
 iE:Value
 wl:List Fl
def nt(bn:Nat)(D:gX):HP:=Sep [pn bn D.nodes D.cf D.iE D.cJ D.lost,ws D.iE D.wl,aS u6 D.wl]
def Qu(bn nodes cf cJ lost:Nat)(iE:Value)(wl:List Fl)(H:List HP):aq (nt bn ⟨nodes,cf,cJ,lost,iE,wl⟩::H) (pn bn nodes cf iE cJ lost::ws iE wl::aS u6 wl::H):=aq.cR [_,_,_] H
def xM(bn nodes cf cJ lost:Nat)(iE:Value)(wl:List Fl)(H:List HP):aq (pn bn nodes cf iE cJ lost::ws iE wl::aS u6 wl::H) (nt bn ⟨nodes,cf,cJ,lost,iE,wl⟩::H):=aq.cg [_,_,_] H
structure NA where
 nodes:Nat
 cf:Nat
 cJ:Nat
 lost:Nat
 iE:List Fa
def gX.a(D:gX):NA:=⟨D.nodes,D.cf,D.cJ,D.lost,D.wl.map Fl.a⟩
def NA.fresh(A:NA)(f:Fa):NA :=
 if A.cf<(qq { f with num:=(A.cJ:Int)+1 } A.iE).length then { A with cJ:=A.cJ+1,iE:=(qq { f with num:=(A.cJ:Int)+1 } A.iE).take A.cf,lost:=A.lost+1 }
 else { A with cJ:=A.cJ+1,iE:=qq { f with num:=(A.cJ:Int)+1 } A.iE }
structure wU(D:gX)(k:Nat):Prop where
 nodes:D.nodes≤65537
 cf:D.cf≤5000
 len:D.wl.length≤D.cf
 Vl:yo (D.wl.map Fl.a)
 cJ:D.cJ≤k
 lost:D.lost≤k
 EM:∀x∈D.wl,x.num≤D.cJ
 nodup:(D.wl.map Fl.num).Nodup
 bytes:∀x∈D.wl,x.bs.length≤20000
 vs:∀x∈D.wl,∃a c,x.v = .slice a x.bs.length c
 kk:k≤1000000
def wU.one{D:gX}{k:Nat}(h:wU D k):KS D.wl:=fun x hx=>by obtain⟨a,c,hv⟩:=h.vs x hx;rw[hv];rfl
def yW{f:Fa}{l:List Fa}(hs:yo l)(dw:∀x∈l,xR x f∨xR f x):yo (qq f l):=by
 unfold qq
 have fH:∀x∈l.takeWhile (fun x=>decide (xR x f)),xR x f:=fun x hx=>by
  have:=Cm l (P:=fun x=>decide (xR x f)) x hx;simpa using this
 have ke:∀x∈l.dropWhile (fun x=>decide (xR x f)),xR f x:=by
  have eg:=List.dropWhile_sublist (l:=l) (fun x=>decide (xR x f))
  have hsd:=hs.sublist eg
  intro x hx
  cases hd:l.dropWhile (fun x=>decide (xR x f))with
  | nil=>rw[hd]at hx;cases hx
  | cons y ys =>
   have hy:¬xR y f:=by
    have:=List.head?_dropWhile_not (fun x=>decide (xR x f)) l
    rw[hd]at this
    simpa using this
   have hyf:xR f y:=(dw y (eg.subset (by rw[hd];exact List.mem_cons_self ..))).resolve_left hy
   rw[hd]at hx hsd
   rcases List.mem_cons.1 hx with rfl|hx
   ·exact hyf
   ·exact xQ hyf ((List.pairwise_cons.1 hsd).1 x hx)
 refine List.pairwise_append.2 ⟨hs.sublist (List.takeWhile_sublist _),List.pairwise_cons.2 ⟨ke,hs.sublist (List.dropWhile_sublist _)⟩,?_⟩
 intro x hx y hy
 rcases List.mem_cons.1 hy with rfl|hy
 ·exact fH x hx
 ·exact xQ (fH x hx) (ke y hy)
def NF(f:Fa)(l:List Fa):(qq f l).Perm (f::l):=by
 unfold qq
 exact List.perm_middle.trans (by rw[List.takeWhile_append_dropWhile])
def v7(f:Fa)(l:List Fa):(qq f l).length=l.length+1:=(NF f l).length_eq
theorem wU.put{D:gX}{k:Nat}(h:wU D k)(hk:k+1≤1000000){f:Fl}(xV:f.num=(D.cJ:Int)+1)(hb:f.bs.length≤20000)(hv:∃a c,f.v = .slice a f.bs.length c){W':List Fl}(hp:W'.Perm (f::D.wl))(ha:W'.map Fl.a=qq f.a (D.wl.map Fl.a)){m lost':Nat}{way':Value}(hm:(W'.take m).length≤D.cf)(adk:lost'≤k+1):wU ⟨D.nodes,D.cf,D.cJ+1,lost',way',W'.take m⟩ (k+1):=by
  have fk:∀x∈W'.take m,x=f∨x∈D.wl:=fun x hx=>by simpa using hp.mem_iff.1 (List.mem_of_mem_take hx)
  have eg:(W'.take m).Sublist W':=List.take_sublist _ _
  have hs:yo (W'.map Fl.a):=by
    rw[ha]
    refine yW h.Vl fun x hx=>?_
    obtain⟨y,hy,rfl⟩:=List.mem_map.1 hx
    have:=h.EM y hy
    unfold xR Fl.a
    simp only
    omega
  have lq:(W'.map Fl.num).Nodup:=by
    have:(W'.map Fl.num).Perm (f.num::D.wl.map Fl.num):=by simpa using hp.map Fl.num
    refine this.nodup_iff.2 (List.nodup_cons.2 ⟨fun hc=>?_,h.nodup⟩)
    obtain⟨y,hy,he⟩:=List.mem_map.1 hc
    have:=h.EM y hy
    omega
  exact
  { nodes:=h.nodes,cf:=h.cf,len:=hm,Vl:=hs.sublist (eg.map _),cJ:=Nat.succ_le_succ h.cJ,lost:=adk
    EM:=fun x hx=>by
      show x.num≤((D.cJ+1:Nat):Int)
      rcases fk x hx with rfl|hx
      · omega
      · have:=h.EM x hx;omega
    nodup:=lq.sublist (eg.map _)
    bytes:=fun x hx=>by
      rcases fk x hx with rfl|hx
      · exact hb
      · exact h.bytes x hx
    vs:=fun x hx=>by
      rcases fk x hx with rfl|hx
      · exact hv
      · exact h.vs x hx
    kk:=hk }
def uU(bn k:Nat)(D:gX)(hD:wU D k)(hk:k+1≤1000000)(A:HP)(f:Fl)(hv:Vw (star (aS u6 D.wl) A) f.v f.bs.length (bV f.bs))(hb:f.bs.length≤20000) :
    aH Tryz.prog 60 [ptr bn,.agg (aR f).toArray] [nt bn D,A] (fun _ H=>∃D',wU D' (k+1)∧D'.a=D.a.fresh f.a∧H=[nt bn D',A]):=by
  obtain⟨nodes,cf,cJ,lost,iE,wl⟩:=D
  have hsk:=hD.cJ
  have qY:=hD.lost
  have hlen:=hD.len
  have LZ:=hD.cf
  simp only at hsk qY hlen LZ
  refine aH.aC Tryz.func60 Tryz.ntmps60 fun G F R hE=>?_
  refine al (Qu _ _ _ _ _ _ _ _) (go ?_)
  refine bJ zr zr bO ?_
  intro bf
  rw[Fo]
  refine go ?_
  refine al (aq.pick [3,4] rfl) ?_
  refine al (aq.join _ _ _) ?_
  refine aO (fun w=>Sat G w [Mg bf 4 f.v,ak bn (cl [.int .i64 (nodes:Int),.int .i64 (cf:Int),iE,.int .i64 ((cJ:Int)+1),.int .i64 (lost:Int)] 84)]) (dM 0 6 (.st 7 (.act 6 (.act 8 (.st 9 (.act 10 .nil)))))) rfl aw aw aw (fun w hw=>hw.cI ((aq.aI [1,2] rfl).trans (BG rfl _))) ?_
  refine go ?_
  refine cQ 0 0 zr zr zr (KA bf 4 f.v) zr zr zr zr (go ?_)
  refine bM [0] rfl rfl rfl rfl (K8 (star (aS u6 wl) A) f.v f.bs hv aj) rfl (fun _ _ w hp hw=>by subst hp;exact hw.cI ((aq.aI [2,3] rfl).trans (BG rfl _))) ?_
  rintro r _ rfl
  refine aN 0 rfl ?_
  rintro ra rc rfl
  refine go ?_
  refine aD 2 (fun w hw=>hw.cI ((aq.aI [2,3] rfl).trans (BG rfl _))) zr zr zr zr zr zr zr zr zr ?_
  refine go ?_
  have ac':((cJ:Int)+1)=((cJ+1:Nat):Int):=by omega
  obtain⟨f',DD⟩:∃f':Fl,f'=⟨(cJ:Int)+1,f.src,f.dst,f.due,.slice ra f.bs.length rc,f.bs⟩:=⟨_,rfl⟩
  have VZ:aR f'=[.int .i64 ((cJ:Int)+1),.int .i64 f.src,.int .i64 f.dst,.int .i64 f.due,.slice ra f.bs.length rc]:=by rw[DD];rfl
  refine cK (U:=bh) (es:=aR f') (o:=0) (nn:=1) (cap:=1) (cs:=aR f') 2 0 zr zr zr (Vw.ak (by rw[VZ];rfl)) rfl jT zr zr zr ?_
  rw[ac']
  refine bM [3,4] zr zr zr zr (GS bn nodes cf (cJ+1) lost iE wl f' hD.Vl hD.one (by rw[DD];rfl) aj) rfl bI ?_
  rintro _ _⟨way',W',⟨Bd,EY⟩,rfl⟩
  have RD:W'.length=wl.length+1:=by rw[Bd.length_eq];simp
  refine aT (aq.pick [3] rfl) ?_
  refine aT (aq.part _ _ _) ?_
  refine aT (aq.pick [2,3,4,1,5,0] rfl) ?_
  refine aN 1 rfl ?_
  rintro wa wc rfl
  refine go ?_
  have hfa:f'.a={ f.a with num:=(cJ:Int)+1 }:=by rw[DD];rfl
  have DG:f'.bs=f.bs:=by rw[DD]
  have mA:f'.v = .slice ra f.bs.length rc:=by rw[DD]
  have Vx:(qq { f.a with num:=(cJ:Int)+1 } (wl.map Fl.a)).length=wl.length+1:=by rw[v7,List.length_map]
  refine aO (fun w=>Sat G w ([ak bn (cl [.int .i64 (nodes:Int),.int .i64 (cf:Int),.slice wa W'.length wc,.int .i64 ((cJ+1:Nat):Int),.int .i64 (lost:Int)] 84)])) (dM 0 10 .nil) rfl aw aw aw (fun w hw=>hw.cI (aq.aI ([0]) rfl)) ?_
  refine go ?_
  refine al (aq.pick [2,5] rfl) ?_
  rw[show aK 5 1 (.slice ra f.bs.length rc) f.bs.length (bV f.bs)=u6 f' from by unfold u6;rw[DG,mA]]
  refine al (oN u6 f' wl _) ?_
  refine al (uJ u6 Bd.symm _) ?_
  refine aB zr zr ?_ ?_
  · intro O6
    refine yq 2 rfl aj ?_
    rintro ba oa ca ez hca _ _
    simp only[Value.slice.injEq,true_and]at ez
    obtain⟨rfl,rfl⟩:=ez
    refine aO (fun w=>Sat G w ([ak bn (cl [.int .i64 (nodes:Int),.int .i64 (cf:Int),.slice (some ⟨ba,oa,none⟩) W'.length wc,.int .i64 ((cJ+1:Nat):Int),.int .i64 (lost:Int)] 84)])) (dM 0 12 (.act 12 .nil)) rfl aw aw aw (fun w hw=>hw.cI (aq.aI ([1]) rfl)) ?_
    refine go ?_
    refine aU (p:=0) (q:=(cf:Int)) zr zr zr zr zr zr zr aj aj (.inr aj) ?_
    refine au 42 (.slice (some ⟨ba,oa,none⟩) cf wc) rfl (by rw[show(0:Int).toNat=0 from rfl,dT,show(cf:Int).toNat=cf from by omega];rfl) ?_
    refine go ?_
    have hmW:cf≤W'.length:=by omega
    have l8:(W'.take cf).length=cf:=by rw[List.length_take];omega
    refine al (aq.pick [2] rfl) ?_
    refine al (Tq (m:=cf) hmW aj _) ?_
    rw[show aK 65 5 (.slice (some ⟨ba,oa,none⟩) cf wc) cf ((W'.flatMap aR).take (cf*5))=ws (.slice (some ⟨ba,oa,none⟩) (W'.take cf).length wc) (W'.take cf)from by unfold ws;rw[l8,(lx W' cf hmW).1]]
    refine al (aq.pick [1] rfl) ?_
    refine al (Jl u6 W' cf _) ?_
    refine al (aq.pick [2,1,0] rfl) ?_
    rw[show((lost:Int)+1)=((lost+1:Nat):Int)from by omega]
    have kJ:=xM bn nodes cf (cJ+1) (lost+1) (.slice (some ⟨ba,oa,none⟩) (W'.take cf).length wc) (W'.take cf)
    rw[l8]at kJ
    rw[l8]
    refine al (kJ _) ?_
    have V5:=hD.put (lost':=lost+1) (way' := .slice (some ⟨ba,oa,none⟩) cf wc) (m:=cf) hk (by rw[DD]) (by rw[DG];exact hb) ⟨ra,rc,by rw[mA,DG]⟩ Bd EY (by rw[l8];exact Nat.le_refl _) aj
    refine ag hE Tryz.func60 rfl _ rfl ⟨_,V5,by
      simp only[gX.a,NA.fresh,Vx]
      rw[if_pos aj,List.map_take,EY,hfa],rfl⟩ (aq.fin [0,1] 1 zr zr)
  · intro hle
    refine go ?_
    refine al (aq.pick [1,2,0] rfl) ?_
    refine al (xM bn nodes cf (cJ+1) lost (.slice wa W'.length wc) W' _) ?_
    have V5:=hD.put (lost':=lost) (way' := .slice wa W'.length wc) (m:=W'.length) hk (by rw[DD]) (by rw[DG];exact hb) ⟨ra,rc,by rw[mA,DG]⟩ Bd EY (by rw[List.take_length];simp only;omega) aj
    rw[List.take_length]at V5
    refine ag hE Tryz.func60 rfl _ rfl ⟨_,V5,by
      simp only[gX.a,NA.fresh,Vx]
      rw[if_neg aj,EY,hfa],rfl⟩ (aq.fin [0,1] 1 zr zr)
def NA.new(nodes cf:Nat):NA:=⟨nodes,cf,0,0,[]⟩
def De(nodes cf:Int)(h1:1≤nodes)(h2:nodes≤65537)(h3:1≤cf)(h4:cf≤5000) :
  aH Tryz.prog 7 [.int .i64 nodes,.int .i64 cf] [] (fun v H=>∃bn D,wU D 0∧D.a=NA.new nodes.toNat cf.toNat∧v = .tuple #[ptr bn,.int .i64 0]∧H=[nt bn D]):=by
 obtain⟨nodes,rfl⟩:=Int.eq_ofNat_of_zero_le (a:=nodes) aj
 obtain⟨cf,rfl⟩:=Int.eq_ofNat_of_zero_le (a:=cf) aj
 refine aH.aC Tryz.func7 Tryz.ntmps7 fun G F R hE=>?_
 repeat'(first|(with_reducible intro k9)|refine g9 ?_|refine dA zr zr zr zr ?_ ?_|refine aB zr zr ?_ ?_)
 ·omega
 ·omega
 ·omega
 ·omega
 refine bJ zr zr bO ?_
 intro bn
 refine go ?_
 refine al (bS 65 5 none _) ?_
 refine al (xy u6 _) ?_
 refine al (aq.pick [2,1,0] rfl) ?_
 refine al (xM bn nodes cf 0 0 (.slice none 0 0) [] _) ?_
 have hD:wU ⟨nodes,cf,0,0,.slice none 0 0,[]⟩ 0 :=
  { nodes:=by simp only;omega,cf:=by simp only;omega,len:=by simp,Vl:=by simp,cJ:=Nat.le_refl _,lost:=Nat.le_refl _,EM:=by simp,nodup:=by simp,bytes:=by simp,vs:=by simp,kk:=by omega }
 refine aG hE Tryz.func7 rfl _ rfl ⟨bn,_,hD,by simp[gX.a,NA.new],rfl,rfl⟩ (aq.fin [0] 0 zr zr)
def iI(due:Int):Prop:=0≤due∧due≤1099511627776
instance(due:Int):Decidable (iI due):=by unfold iI;infer_instance
def NA.send(A:NA)(src dst due:Int)(b:List UInt8):Int × NA :=
 if(0≤src∧src<A.nodes)∧(0≤dst∧dst<A.nodes)∧iI due∧b.length≤20000 then(0,A.fresh ⟨0,src,dst,due,b⟩)else(1,A)
def wU.up{D:gX}{k k':Nat}(h:wU D k)(hk:k≤k')(hk':k'≤1000000):wU D k' :=
 ⟨h.nodes,h.cf,h.len,h.Vl,Nat.le_trans h.cJ hk,Nat.le_trans h.lost hk,h.EM,h.nodup,h.bytes,h.vs,hk'⟩
def Ii(bn k:Nat)(D:gX)(hD:wU D k)(hk:k+1≤1000000)(A:HP)(src dst due:Int)(bv:Value)(b:List UInt8)(hv:Vw A bv b.length (bV b))(hb:b.length≤9223372036854775807) :
  aH Tryz.prog 14 [ptr bn,.int .i64 src,.int .i64 dst,.int .i64 due,bv] [nt bn D,A]
   (fun v H=>∃D',wU D' (k+1)∧D'.a=(D.a.send src dst due b).2∧v = .int .i64 (D.a.send src dst due b).1∧H=[nt bn D',A]):=by
 obtain⟨nodes,cf,cJ,lost,iE,wl⟩:=D
 obtain⟨a0,c0,rfl⟩:=hv.shape
 refine aH.aC Tryz.func14 Tryz.ntmps14 fun G F R hE=>?_
 refine al (Qu _ _ _ _ _ _ _ _) ?_
 have ml:¬((0≤src∧src<(nodes:Int))∧(0≤dst∧dst<(nodes:Int))∧iI due∧b.length≤20000)→(gX.a ⟨nodes,cf,cJ,lost,iE,wl⟩).send src dst due b=(1,gX.a ⟨nodes,cf,cJ,lost,iE,wl⟩):=fun h=>if_neg h
 refine go ?_
 refine bM [0] zr zr zr zr (GU bn nodes cf cJ lost iE src) rfl bI ?_
 rintro _ _⟨rfl,rfl⟩
 by_cases h1:0≤src∧src<(nodes:Int)
 case' neg =>
  rw[ml (fun h=>h1 h.1)]at hE
  refine au 13 (.bool false) rfl (congrArg Value.bool (decide_eq_false h1)) (go ?_)
  refine al (xM bn nodes cf cJ lost iE wl _) ?_
  refine aG hE Tryz.func14 rfl _ rfl ⟨_,hD.up (Nat.le_succ _) hk,rfl,rfl,rfl⟩ (aq.fin [0,1] 0 zr zr)
 refine au 13 (.bool true) rfl (congrArg Value.bool (decide_eq_true h1)) (go ?_)
 refine bM [0] zr zr zr zr (GU bn nodes cf cJ lost iE dst) rfl bI ?_
 rintro _ _⟨rfl,rfl⟩
 by_cases h2:0≤dst∧dst<(nodes:Int)
 case' neg =>
  rw[ml (fun h=>h2 h.2.1)]at hE
  refine au 18 (.bool false) rfl (congrArg Value.bool (decide_eq_false h2)) (go ?_)
  refine al (xM bn nodes cf cJ lost iE wl _) ?_
  refine aG hE Tryz.func14 rfl _ rfl ⟨_,hD.up (Nat.le_succ _) hk,rfl,rfl,rfl⟩ (aq.fin [0,1] 0 zr zr)
 refine au 18 (.bool true) rfl (congrArg Value.bool (decide_eq_true h2)) (go ?_)
 refine bM [] zr zr zr zr (uW due) rfl bI ?_
 rintro _ _⟨rfl,rfl⟩
 by_cases h3:iI due
 case' neg =>
  rw[ml (fun h=>h3 h.2.2.1)]at hE
  refine au 23 (.bool false) rfl (congrArg Value.bool (decide_eq_false h3)) (go ?_)
  refine al (xM bn nodes cf cJ lost iE wl _) ?_
  refine aG hE Tryz.func14 rfl _ rfl ⟨_,hD.up (Nat.le_succ _) hk,rfl,rfl,rfl⟩ (aq.fin [0,1] 0 zr zr)
 refine au 23 (.bool true) rfl (congrArg Value.bool (decide_eq_true h3)) (go ?_)
 refine aB zr zr ?_ ?_
 ·intro h4
  rw[ml (fun h=>by have:=h.2.2.2;omega)]at hE
  refine go ?_
  refine al (xM bn nodes cf cJ lost iE wl _) ?_
  refine aG hE Tryz.func14 rfl _ rfl ⟨_,hD.up (Nat.le_succ _) hk,rfl,rfl,rfl⟩ (aq.fin [0,1] 0 zr zr)
 ·intro h4
  have nY:(gX.a ⟨nodes,cf,cJ,lost,iE,wl⟩).send src dst due b=(0,(gX.a ⟨nodes,cf,cJ,lost,iE,wl⟩).fresh ⟨0,src,dst,due,b⟩):=by
   have hh:(0≤src∧src<(nodes:Int))∧(0≤dst∧dst<(nodes:Int))∧iI due∧b.length≤20000:=⟨h1,h2,h3,aj⟩
   exact if_pos hh
  rw[nY]at hE
  refine al (xM bn nodes cf cJ lost iE wl _) (go ?_)
  (refine bM [0,1] zr zr zr zr (uU bn k _ hD hk A ⟨0,src,dst,due,.slice a0 b.length c0,b⟩ hv.right (by simp only;omega)) rfl bI ?_)
  rintro _ _⟨D',RG,ha,rfl⟩
  refine go ?_
  refine aG hE Tryz.func14 rfl _ rfl ⟨_,RG,ha,rfl,rfl⟩ (aq.fin [0,1] 0 zr zr)
def kG(n:Nat)(i due:Int):Int:=if ¬(0≤i∧i<(n:Int))then 4 else if ¬iI due then 1 else 0
def Dj(bn:Nat)(nodes cf cJ lost:Int)(a0:Option Addr)(nw cw:Nat)(i due:Int):aH Tryz.prog 61 [ptr bn,.int .i64 i,.int .i64 due] [ak bn (cl [.int .i64 nodes,.int .i64 cf,.slice a0 nw cw,.int .i64 cJ,.int .i64 lost] 84)]
  (fun v H=>v = .int .i64 (kG nw i due)∧H=[ak bn (cl [.int .i64 nodes,.int .i64 cf,.slice a0 nw cw,.int .i64 cJ,.int .i64 lost] 84)]):=by
 refine aH.aC Tryz.func61 Tryz.ntmps61 fun G F R hE=>?_
 refine go ?_
 refine bM [0] zr zr zr zr (aa2 bn nodes cf cJ lost a0 nw cw i) rfl bI ?_
 rintro _ _⟨rfl,rfl⟩
 by_cases h1:0≤i∧i<(nw:Int)
 case' neg =>
  refine au 10 (.bool false) rfl (congrArg Value.bool (decide_eq_false h1)) (go ?_)
  refine aG hE Tryz.func61 rfl _ rfl ⟨by unfold kG;rw[if_pos h1];rfl,rfl⟩ (aq.fin [0] 0 zr zr)
 refine au 10 (.bool true) rfl (congrArg Value.bool (decide_eq_true h1)) (go ?_)
 refine bM [] zr zr zr zr (uW due) rfl bI ?_
 rintro _ _⟨rfl,rfl⟩
 by_cases h3:iI due
 case' neg =>
  refine au 14 (.bool false) rfl (congrArg Value.bool (decide_eq_false h3)) (go ?_)
  refine aG hE Tryz.func61 rfl _ rfl ⟨by unfold kG;rw[if_neg (fun h=>h h1),if_pos h3];rfl,rfl⟩ (aq.fin [0] 0 zr zr)
 refine au 14 (.bool true) rfl (congrArg Value.bool (decide_eq_true h3)) (go ?_)
 refine aG hE Tryz.func61 rfl _ rfl ⟨by unfold kG;rw[if_neg (fun h=>h h1),if_neg (fun h=>h h3)];rfl,rfl⟩ (aq.fin [0] 0 zr zr)
def vY{n:Nat}{i due:Int}(h:kG n i due=0):(0≤i∧i<(n:Int))∧iI due:=by
 unfold kG at h
 split at h
 ·omega
 ·split at h
  ·omega
  ·rename_i h1 h2;exact⟨Decidable.not_not.1 h1,Decidable.not_not.1 h2⟩
def NA.double(A:NA)(i due:Int):Int × NA:=if kG A.iE.length i due=0 then(0,A.fresh { (A.iE.getD i.toNat ⟨0,0,0,0,[]⟩)with due:=due })else(kG A.iE.length i due,A)
def RI{G:cL}{w:World}{H:List HP}{wl:List Fl}{x:Fl}{j:Nat}(hw:Sat G w H)(hj:cD H j=some (aS u6 wl))(hx:x∈wl):Vw (aS u6 wl) x.v x.bs.length (bV x.bs):=by
 obtain⟨h,_,hA⟩:=hw.kp hj
 obtain⟨h',_,hA'⟩:=sN hx hA
 have h1:Vw (u6 x) x.v x.bs.length (bV x.bs):=Vw.lj _ _ _ _ _ ⟨h',hA'⟩
 exact h1.mono fun h hs=>sN hx hs
def Ca(bn k:Nat)(D:gX)(hD:wU D k)(hk:k+1≤1000000)(i due:Int) :
  aH Tryz.prog 15 [ptr bn,.int .i64 i,.int .i64 due] [nt bn D]
   (fun v H=>∃D',wU D' (k+1)∧D'.a=(D.a.double i due).2∧v = .int .i64 (D.a.double i due).1∧H=[nt bn D']):=by
 obtain⟨nodes,cf,cJ,lost,iE,wl⟩:=D
 refine aH.aC Tryz.func15 Tryz.ntmps15 fun G F R hE=>?_
 refine al (Qu _ _ _ _ _ _ _ _) ?_
 refine aM 1 rfl ?_
 rintro wa wc rfl
 refine go ?_
 refine bM [0] zr zr zr zr (Dj bn nodes cf cJ lost wa wl.length wc i due) rfl bI ?_
 rintro _ _⟨rfl,rfl⟩
 refine go ?_
 have Ck:(gX.a ⟨nodes,cf,cJ,lost,.slice wa wl.length wc,wl⟩).iE.length=wl.length:=by simp[gX.a]
 refine aB zr zr ?_ ?_
 ·intro dw
  have Up:(gX.a ⟨nodes,cf,cJ,lost,.slice wa wl.length wc,wl⟩).double i due=(kG wl.length i due,gX.a ⟨nodes,cf,cJ,lost,.slice wa wl.length wc,wl⟩):=by unfold NA.double;rw[Ck,if_neg dw]
  rw[Up]at hE
  refine go ?_
  refine al (xM bn nodes cf cJ lost _ wl _) ?_
  refine aG hE Tryz.func15 rfl _ rfl ⟨_,hD.up (Nat.le_succ _) hk,rfl,rfl,rfl⟩ (aq.fin [0] 0 zr zr)
 ·intro he
  have NW:kG wl.length i due=0:=Decidable.not_not.1 he
  obtain⟨⟨DC,l9⟩,LZ⟩:=vY NW
  obtain⟨q,rfl⟩:=Int.eq_ofNat_of_zero_le (a:=i) DC
  have hq:q<wl.length:=by omega
  obtain⟨x,hx⟩:∃x,wl[q]?=some x:=⟨wl[q],by simp⟩
  have Dr:=List.mem_of_getElem? hx
  have Up:(gX.a ⟨nodes,cf,cJ,lost,.slice wa wl.length wc,wl⟩).double q due=(0,(gX.a ⟨nodes,cf,cJ,lost,.slice wa wl.length wc,wl⟩).fresh { x.a with due:=due }):=by
   unfold NA.double;rw[Ck,if_pos NW]
   simp[gX.a,List.getD_eq_getElem?_getD,hx]
  rw[Up]at hE
  refine yq 1 rfl aj ?_
  rintro ba oa ca ez _ _ dH
  simp only[Value.slice.injEq,true_and]at ez
  obtain⟨rfl,rfl⟩:=ez
  obtain⟨va,vc,hxv⟩:=hD.vs x Dr
  refine go ?_
  refine cu q 5 zr zr zr zr zr zr zr zr hq ?_
  refine cK (U:=bh) (es:=aR x) 1 (q*5) zr zr zr dH rfl (pw hx) zr zr zr ?_
  refine aL zr zr zr bO ?_
  intro bf
  refine zg fun w hw=>?_
  have hvx:=RI (j:=3) hw rfl Dr
  clear hw w
  obtain⟨f,hf⟩:∃f:Fl,f=⟨x.num,x.src,x.dst,due,x.v,x.bs⟩:=⟨_,rfl⟩
  have VZ:aR f=[.int .i64 x.num,.int .i64 x.src,.int .i64 x.dst,.int .i64 due,x.v]:=by rw[hf];rfl
  rw[hxv]at VZ
  have Rv:aR x=[.int .i64 x.num,.int .i64 x.src,.int .i64 x.dst,.int .i64 x.due,.slice va x.bs.length vc]:=by unfold aR;rw[hxv]
  rw[Rv]
  refine go ?_
  refine cK (U:=bh) (es:=aR f) (o:=0) (nn:=1) (cap:=1) (cs:=aR f) 0 0 zr zr zr (Vw.ak (by rw[VZ];rfl)) rfl jT zr zr zr ?_
  refine aT (aq.pick [1,2,3] rfl) ?_
  refine aT (xM bn nodes cf cJ lost (.slice (some ⟨ba,oa,none⟩) wl.length wc) wl _) ?_
  have hfa:f.a={ x.a with due:=due }:=by rw[hf];rfl
  refine bM [0,1] zr zr zr zr (uU bn k _ hD hk (ak bf _) f (by rw[hf];exact hvx.left) (by rw[hf];exact hD.bytes x Dr)) rfl bI ?_
  rintro _ _⟨D',RG,ha,rfl⟩
  rw[hfa]at ha
  refine go ?_
  refine aG hE Tryz.func15 rfl _ rfl ⟨_,RG,ha,rfl,rfl⟩ (aq.fin [0] 1 zr zr)
def wU.sub{D:gX}{k:Nat}(h:wU D k){W':List Fl}(hs:W'.Sublist D.wl)(way':Value):wU ⟨D.nodes,D.cf,D.cJ,D.lost,way',W'⟩ k :=
 ⟨h.nodes,h.cf,Nat.le_trans hs.length_le h.len,h.Vl.sublist (hs.map _),h.cJ,h.lost,fun x hx=>h.EM x (hs.subset hx),h.nodup.sublist (hs.map _),fun x hx=>h.bytes x (hs.subset hx),fun x hx=>h.vs x (hs.subset hx),h.kk⟩
def AG{α:Type}{l:List α}{q:Nat}{x:α}(h:l[q]?=some x):(x::l.eraseIdx q).Perm l:=by
 induction l generalizing q with
 | nil=>simp at h
 | cons y l ih =>
  cases q with
  | zero=>simp at h;subst h;exact List.Perm.refl _
  | succ q =>
   simp at h
   exact(List.Perm.swap _ _ _).trans ((ih h).cons y)
def wU.hold{D:gX}{k:Nat}(h:wU D k){q:Nat}{x:Fl}(hx:D.wl[q]?=some x){f:Fl}(h1:f.num=x.num)(h2:f.bs=x.bs)(h3:f.v=x.v){W':List Fl}(hp:W'.Perm (f::D.wl.eraseIdx q))(ha:W'.map Fl.a=qq f.a ((D.wl.eraseIdx q).map Fl.a))(way':Value) :
  wU ⟨D.nodes,D.cf,D.cJ,D.lost,way',W'⟩ k:=by
 have Dr:=List.mem_of_getElem? hx
 have hs:(D.wl.eraseIdx q).Sublist D.wl:=List.eraseIdx_sublist _ _
 have hpe:=AG hx
 have fk:∀y∈W',y=f∨y∈D.wl.eraseIdx q:=fun y hy=>by simpa using hp.mem_iff.1 hy
 have lq:(x.num::(D.wl.eraseIdx q).map Fl.num).Nodup:=by
  have:(x.num::(D.wl.eraseIdx q).map Fl.num).Perm (D.wl.map Fl.num):=by simpa using hpe.map Fl.num
  exact this.nodup_iff.2 h.nodup
 have dw:=(List.nodup_cons.1 lq).1
 refine⟨h.nodes,h.cf,?_,?_,h.cJ,h.lost,?_,?_,?_,?_,h.kk⟩
 ·have e1:W'.length=(D.wl.eraseIdx q).length+1:=by rw[hp.length_eq];simp
  have e2:(D.wl.eraseIdx q).length+1=D.wl.length:=by have:=hpe.length_eq;simpa using this
  simp only;rw[e1,e2];exact h.len
 ·simp only
  rw[ha]
  refine yW (h.Vl.sublist (hs.map _)) fun z hz=>?_
  obtain⟨y,hy,rfl⟩:=List.mem_map.1 hz
  have Z8:y.num≠f.num:=fun e=>dw (List.mem_map.2 ⟨y,hy,by rw[e,h1]⟩)
  unfold xR Fl.a
  simp only
  omega
 ·intro y hy
  rcases fk y hy with rfl|hy
  ·rw[h1];exact h.EM x Dr
  ·exact h.EM y (hs.subset hy)
 ·have:(W'.map Fl.num).Perm (f.num::(D.wl.eraseIdx q).map Fl.num):=by simpa using hp.map Fl.num
  simp only
  refine this.nodup_iff.2 ?_
  rw[h1];exact lq
 ·intro y hy
  rcases fk y hy with rfl|hy
  ·rw[h2];exact h.bytes x Dr
  ·exact h.bytes y (hs.subset hy)
 ·intro y hy
  rcases fk y hy with rfl|hy
  ·rw[h2,h3];exact h.vs x Dr
  ·exact h.vs y (hs.subset hy)
def NA.hold(A:NA)(i due:Int):Int × NA:=if kG A.iE.length i due=0 then(0,{ A with iE:=qq { (A.iE.getD i.toNat ⟨0,0,0,0,[]⟩)with due:=due } (A.iE.eraseIdx i.toNat) })else(kG A.iE.length i due,A)
def Nr{α β:Type}(g:α→β)(l:List α)(q:Nat):(l.eraseIdx q).map g=(l.map g).eraseIdx q:=by rw[← lE]
def IC(bn k:Nat)(D:gX)(hD:wU D k)(i due:Int) :
  aH Tryz.prog 16 [ptr bn,.int .i64 i,.int .i64 due] [nt bn D]
   (fun v H=>∃D',wU D' k∧D'.a=(D.a.hold i due).2∧v = .int .i64 (D.a.hold i due).1∧H=[nt bn D']):=by
 obtain⟨nodes,cf,cJ,lost,iE,wl⟩:=D
 have hlen:=hD.len
 have LZ:=hD.cf
 simp only at hlen LZ
 refine aH.aC Tryz.func16 Tryz.ntmps16 fun G F R hE=>?_
 refine al (Qu _ _ _ _ _ _ _ _) ?_
 refine aM 1 rfl ?_
 rintro wa wc rfl
 refine go ?_
 refine bM [0] zr zr zr zr (Dj bn nodes cf cJ lost wa wl.length wc i due) rfl bI ?_
 rintro _ _⟨rfl,rfl⟩
 refine go ?_
 have Ck:(gX.a ⟨nodes,cf,cJ,lost,.slice wa wl.length wc,wl⟩).iE.length=wl.length:=by simp[gX.a]
 refine aB zr zr ?_ ?_
 ·intro dw
  have Up:(gX.a ⟨nodes,cf,cJ,lost,.slice wa wl.length wc,wl⟩).hold i due=(kG wl.length i due,gX.a ⟨nodes,cf,cJ,lost,.slice wa wl.length wc,wl⟩):=by unfold NA.hold;rw[Ck,if_neg dw]
  rw[Up]at hE
  refine go ?_
  refine al (xM bn nodes cf cJ lost _ wl _) ?_
  refine aG hE Tryz.func16 rfl _ rfl ⟨_,hD,rfl,rfl,rfl⟩ (aq.fin [0] 0 zr zr)
 ·intro he
  have NW:kG wl.length i due=0:=Decidable.not_not.1 he
  obtain⟨⟨DC,l9⟩,agp⟩:=vY NW
  obtain⟨q,rfl⟩:=Int.eq_ofNat_of_zero_le (a:=i) DC
  have hq:q<wl.length:=by omega
  obtain⟨x,hx⟩:∃x,wl[q]?=some x:=⟨wl[q],by simp⟩
  have Dr:=List.mem_of_getElem? hx
  have Up:(gX.a ⟨nodes,cf,cJ,lost,.slice wa wl.length wc,wl⟩).hold q due=(0,⟨nodes,cf,cJ,lost,qq { x.a with due:=due } ((wl.map Fl.a).eraseIdx q)⟩):=by
   unfold NA.hold;rw[Ck,if_pos NW]
   simp[gX.a,List.getD_eq_getElem?_getD,hx]
  rw[Up]at hE
  refine yq 1 rfl aj ?_
  rintro ba oa ca ez _ _ dH
  simp only[Value.slice.injEq,true_and]at ez
  obtain⟨rfl,rfl⟩:=ez
  obtain⟨va,vc,hxv⟩:=hD.vs x Dr
  refine go ?_
  refine cu q 5 zr zr zr zr zr zr zr zr hq ?_
  refine cK (U:=bh) (es:=aR x) 1 (q*5) zr zr zr dH rfl (pw hx) zr zr zr ?_
  refine aL zr zr zr bO ?_
  intro bf
  obtain⟨f,hf⟩:∃f:Fl,f=⟨x.num,x.src,x.dst,due,x.v,x.bs⟩:=⟨_,rfl⟩
  have VZ:aR f=[.int .i64 x.num,.int .i64 x.src,.int .i64 x.dst,.int .i64 due,x.v]:=by rw[hf];rfl
  rw[hxv]at VZ
  have Rv:aR x=[.int .i64 x.num,.int .i64 x.src,.int .i64 x.dst,.int .i64 x.due,.slice va x.bs.length vc]:=by unfold aR;rw[hxv]
  have hfa:f.a={ x.a with due:=due }:=by rw[hf];rfl
  rw[Rv]
  refine go ?_
  refine bM [2] zr zr zr zr (K3 (.slice (some ⟨ba,oa,none⟩) wl.length wc) wl q hq hD.one aj) rfl bI ?_
  rintro r _ rfl
  refine aN 0 rfl ?_
  rintro ra rc rfl
  refine go ?_
  have tq:(wl.eraseIdx q).length=wl.length-1:=by rw[List.length_eraseIdx];simp[hq]
  have hee:wl.take q++wl.drop (q+1)=wl.eraseIdx q:=(List.eraseIdx_eq_take_drop_succ _ _).symm
  refine cK (U:=bh) (es:=aR f) (o:=0) (nn:=1) (cap:=1) (cs:=aR f) 1 0 zr zr zr (Vw.ak (by rw[VZ];rfl)) rfl jT zr zr zr ?_
  rw[hee,show aK 65 5 (.slice ra (wl.length-1) rc) (wl.length-1) ((wl.eraseIdx q).flatMap aR)=ws (.slice ra (wl.length-1) rc) (wl.eraseIdx q)from by unfold ws;rw[tq]]
  have eg:(wl.eraseIdx q).Sublist wl:=List.eraseIdx_sublist _ _
  refine bM [2,0] zr zr zr zr (GS bn nodes cf cJ lost (.slice ra (wl.length-1) rc) (wl.eraseIdx q) f (hD.Vl.sublist (eg.map _)) (fun y hy=>hD.one y (eg.subset hy)) (by rw[hf];simp only;rw[hxv];rfl) (by rw[tq];omega)) rfl bI ?_
  rintro _ _⟨way',W',⟨Bd,EY⟩,rfl⟩
  refine aN 1 rfl ?_
  rintro wa2 wc2 rfl
  refine go ?_
  refine al (aq.pick [3] rfl) ?_
  refine al (uJ u6 (AG hx).symm _) ?_
  rw[show aS u6 (x::wl.eraseIdx q)=aS u6 (f::wl.eraseIdx q)from by unfold aS;simp only[List.map_cons];rw[show u6 x=u6 f from by rw[hf];rfl]]
  refine al (uJ u6 Bd.symm _) ?_
  refine al (aq.pick [1,2,0] rfl) ?_
  refine al (xM bn nodes cf cJ lost (.slice wa2 W'.length wc2) W' _) ?_
  have V5:=hD.hold (way' := .slice wa2 W'.length wc2) hx (f:=f) (by rw[hf]) (by rw[hf]) (by rw[hf]) Bd EY
  refine aG hE Tryz.func16 rfl _ rfl ⟨_,V5,by simp only[gX.a];rw[EY,Nr,hfa],rfl,rfl⟩ (aq.fin [0] 1 zr zr)
def NA.due(A:NA)(now:Int):List Fa × NA:=(A.iE.takeWhile fun x=>decide (x.due≤now),{ A with iE:=A.iE.dropWhile fun x=>decide (x.due≤now) })
def Vg(bn k:Nat)(D:gX)(hD:wU D k)(now:Int)(h:iI now) :
  aH Tryz.prog 17 [ptr bn,.int .i64 now] [nt bn D]
   (fun v H=>∃D' out W,wU D' k∧D'.a=(D.a.due now).2∧(W.Sublist D.wl∧W.map Fl.a=(D.a.due now).1)∧v = .tuple #[out,.int .i64 0]∧H=[nt bn D',ws out W,aS u6 W]):=by
 obtain⟨nodes,cf,cJ,lost,iE,wl⟩:=D
 have hlen:=hD.len
 have LZ:=hD.cf
 simp only at hlen LZ
 refine aH.aC Tryz.func17 Tryz.ntmps17 fun G F R hE=>?_
 refine al (Qu _ _ _ _ _ _ _ _) ?_
 refine aM 1 rfl ?_
 rintro wa wc rfl
 refine U9 1 rfl ?_
 intro hwc kJ dH
 refine go ?_
 refine bJ zr zr bO ?_
 intro bw
 refine go ?_
 refine bM [] zr zr zr zr (uW now) rfl bI ?_
 rintro _ _⟨rfl,rfl⟩
 refine au 9 (.bool true) rfl (congrArg Value.bool (decide_eq_true h)) (go ?_)
 refine bM [2,0] zr zr zr zr (K0 (ws (.slice wa wl.length wc) wl) (ak bw (cl [.int .i64 now] 3)) _ wl dH aj 65 [ptr bw] (fun x=>decide (now<x.due)) (fun x _=>SG bw now x)) rfl bI ?_
 rintro r _⟨hr,rfl⟩
 have key:∃q:Nat,q≤wl.length∧(∀y∈wl.take q,decide (now<y.due)=false)∧(wl.length≤q∨∃x,wl[q]?=some x∧decide (now<x.due)=true)∧(r = .int .i64 (q:Int)∨(r = .int .i64 (-1)∧q=wl.length)):=by
  rcases hr with⟨i,hi,rfl,h1,x,hx,hp⟩|⟨rfl,h1⟩
  ·exact⟨i,aj,h1,.inr ⟨x,hx,hp⟩,.inl rfl⟩
  ·exact⟨wl.length,Nat.le_refl _,fun y hy=>h1 y (by simpa using hy),.inl (Nat.le_refl _),.inr ⟨rfl,rfl⟩⟩
 obtain⟨q,hq,hq1,hq2,hqr⟩:=key
 clear hr
 have htw:=Jj (P:=fun x=>decide (x.due≤now)) (wl.map Fl.a) q (fun y hy=>by
  rw[← List.map_take]at hy
  obtain⟨z,hz,rfl⟩:=List.mem_map.1 hy
  have:=hq1 z hz
  simp only[decide_eq_false_iff_not]at this
  exact decide_eq_true (by show z.due≤now;omega)) (by
  rcases hq2 with h|⟨x,hx,hp⟩
  ·exact .inl (by simpa using h)
  ·refine .inr ⟨x.a,by rw[List.getElem?_map,hx];rfl,?_⟩
   have:=of_decide_eq_true hp
   exact decide_eq_false (by show ¬x.due≤now;omega))
 rcases hqr with rfl|⟨rfl,VI⟩
 case' inl =>
  refine go ?_
 case' inr =>
  refine go ?_
  refine au 28 (.int .i64 (q:Int)) rfl (by rw[VI]) ?_
  refine au 6 (.int .i64 (q:Int)) rfl (by rw[VI]) ?_
 all_goals(
  refine aU (p:=0) (q:=(q:Int)) zr zr zr zr zr zr zr aj aj (.inr aj) ?_
  refine au 29 (.slice (sliceAt wa wc 0 5) q wc) rfl (by rw[show(0:Int).toNat=0 from rfl,show(q:Int).toNat=q from by omega];rfl) ?_
  refine bM [0] zr zr zr zr (Ce (ws (.slice wa wl.length wc) wl) _ (wl.take q) (by
   rw[(lx wl q hq).1,List.length_take,Nat.min_eq_left hq];exact dH.adQ (s:=5) q) (fun x hx=>hD.one x (List.mem_of_mem_take hx)) (by rw[List.length_take];omega)) rfl bI ?_
  rintro out _ rfl
  refine aN 0 rfl ?_
  rintro oa oc rfl
  refine go ?_
  refine aU (p:=(q:Int)) (q:=(wl.length:Int)) zr zr zr zr zr zr zr aj aj (.inl rfl) ?_
  refine au 37 (.slice (sliceAt wa wc q 5) (wl.length-q) (wc-q)) rfl (by rw[show(q:Int).toNat=q from by omega,show(wl.length:Int).toNat=wl.length from by omega];rfl) ?_
  refine bM [1] zr zr zr zr (Ce (ws (.slice wa wl.length wc) wl) _ (wl.drop q) (by
   rw[(lx wl q hq).2,List.length_drop];exact dH.Kv (s:=5) kJ hwc q hq) (fun x hx=>hD.one x (List.mem_of_mem_drop hx)) (by rw[List.length_drop];omega)) rfl bI ?_
  rintro way' _ rfl
  refine aN 0 rfl ?_
  rintro na nc rfl
  refine go ?_
  refine bE ?_;refine aD 4 eH zr zr zr zr zr zr zr zr zr ?_
  refine go ?_
  refine al (aq.pick [5] rfl) ?_
  refine al (Gb u6 wl q _) ?_
  refine al (aq.pick [6,2,1] rfl) ?_
  refine al (xM bn nodes cf cJ lost (.slice na (wl.drop q).length nc) (wl.drop q) _) ?_
  refine aG hE Tryz.func17 rfl _ rfl ⟨_,_,wl.take q,hD.sub (List.drop_sublist _ _) _,by simp only[gX.a,NA.due,← htw.2,List.map_drop],⟨List.take_sublist _ _,by simp only[gX.a,NA.due,← htw.1,List.map_take]⟩,rfl,rfl⟩ (aq.fin [0,3,1] 2 zr zr))
end Go.Proofs.YtlionahpheehaaaGreatDoor
namespace Go.Proofs.YtlionahpheehaaaGreatDoor
open Go Go.SL
variable{m:Nat}{enc:Nat→List UInt8}{E2:Nat→Prop}
structure MW(A:NA)(enc:Nat→List UInt8)(m c:Nat)(E2:Nat→Prop):Prop where
 cf:A.cf=500
 nodes:A.nodes=2
 len:A.iE.length≤c
 each:∀x∈A.iE,(∃i,i<m∧x.bs=enc i)∧x.due≤1000
 all:∀i,i<m→E2 i∨∃x∈A.iE,x.bs=enc i
def oV{f x:Fa}{l:List Fa}:x∈qq f l↔x=f∨x∈l:=by
 unfold qq
 rw[List.mem_append,List.mem_cons]
 constructor
 ·rintro(h|h|h)
  ·exact .inr ((List.takeWhile_sublist _).subset h)
  ·exact .inl h
  ·exact .inr ((List.dropWhile_sublist _).subset h)
 ·rintro(h|h)
  ·exact .inr (.inl h)
  ·rw[← List.takeWhile_append_dropWhile (p:=fun x=>decide (xR x f)) (l:=l),List.mem_append]at h
   rcases h with h|h
   ·exact .inl h
   ·exact .inr (.inr h)
theorem MW.fresh{A:NA}{c:Nat}(h:MW A enc m c E2)(hc:c<500)(f:Fa)(m':Nat)(hm:m≤m')(hf:(∃i,i<m'∧f.bs=enc i)∧f.due≤1000)(hn:∀i,m≤i→i<m'→f.bs=enc i):MW (A.fresh f) enc m' (c+1) E2:=by
 obtain⟨h1,h2,h3,h4,h5⟩:=h
 have hl:¬A.cf<(qq { f with num:=(A.cJ:Int)+1 } A.iE).length:=by rw[v7];omega
 unfold NA.fresh
 rw[if_neg hl]
 refine⟨h1,h2,by simp only[v7];omega,fun x hx=>?_,fun i hi=>?_⟩
 ·rcases oV.1 hx with rfl|hx
  ·exact hf
  ·obtain⟨⟨i,h6,h7⟩,h8⟩:=h4 x hx
   exact⟨⟨i,aj,h7⟩,h8⟩
 ·by_cases e9:i<m
  ·rcases h5 i e9 with h6|⟨x,h6,h7⟩
   ·exact .inl h6
   ·exact .inr ⟨x,oV.2 (.inr h6),h7⟩
  ·exact .inr ⟨_,oV.2 (.inl rfl),hn i aj hi⟩
def MW.send{A:NA}{c:Nat}(h:MW A enc m c E2)(hc:c<500)(hm:m≤1000)(hb:(enc m).length≤20000):(A.send 0 1 m (enc m)).1=0∧MW (A.send 0 1 m (enc m)).2 enc (m+1) (c+1) E2:=by
 unfold NA.send iI
 rw[h.nodes,if_pos ⟨aj,aj,aj,hb⟩]
 exact⟨rfl,h.fresh hc _ (m+1) aj ⟨⟨m,aj,rfl⟩,by simp only;omega⟩ (fun i _ _=>by rw[show i=m by omega])⟩
def HH{l:List Fa}{n:Nat}(h:n<l.length)(d:Fa):l.getD n d∈l:=by
 rw[List.getD_eq_getElem?_getD,List.getElem?_eq_getElem h]
 exact List.getElem_mem h
def MW.double{A:NA}{c:Nat}(h:MW A enc m c E2)(hc:c<500)(i d:Int)(hd:d≤1000):MW (A.double i d).2 enc m (c+1) E2:=by
 unfold NA.double
 split
 ·rename_i he
  have hi:=(vY he).1
  refine h.fresh hc _ m (Nat.le_refl _) ⟨(h.each _ (HH aj _)).1,hd⟩ (fun i h1 h2=>by omega)
 ·exact⟨h.cf,h.nodes,Nat.le_succ_of_le h.len,h.each,h.all⟩
def MW.hold{A:NA}{c:Nat}(h:MW A enc m c E2)(i d:Int)(hd:d≤1000):MW (A.hold i d).2 enc m c E2:=by
 unfold NA.hold
 split
 ·rename_i he
  have hi:=(vY he).1
  have dk:i.toNat<A.iE.length:=by omega
  have fk:∀x∈A.iE,x=A.iE.getD i.toNat ⟨0,0,0,0,[]⟩∨x∈A.iE.eraseIdx i.toNat:=fun x hx=>by
   obtain⟨k,hk,rfl⟩:=List.getElem_of_mem hx
   by_cases hki:k=i.toNat
   ·subst hki
    left
    rw[List.getD_eq_getElem?_getD,List.getElem?_eq_getElem hk];rfl
   ·exact .inr (List.mem_eraseIdx_iff_getElem.2 ⟨k,hk,hki,rfl⟩)
  refine⟨h.cf,h.nodes,?_,fun x hx=>?_,fun j hj=>?_⟩
  ·have:=h.len
   simp only[v7,List.length_eraseIdx]
   rw[if_pos dk]
   omega
  ·rcases oV.1 hx with rfl|hx
   ·exact⟨(h.each _ (HH dk _)).1,hd⟩
   ·exact h.each x (List.mem_of_mem_eraseIdx hx)
  ·rcases h.all j hj with h6|⟨x,h6,h7⟩
   ·exact .inl h6
   ·rcases fk x h6 with rfl|h8
    ·exact .inr ⟨_,oV.2 (.inl rfl),h7⟩
    ·exact .inr ⟨x,oV.2 (.inr h8),h7⟩
 ·exact h
def MW.due{A:NA}{c:Nat}(h:MW A enc m c E2)(now:Int) :
  (∀x∈(A.due now).1,∃i,i<m∧x.bs=enc i)∧MW (A.due now).2 enc m c (fun i=>E2 i∨∃x∈(A.due now).1,x.bs=enc i)∧(1000≤now→(A.due now).2.iE=[]):=by
 have hX:=List.takeWhile_append_dropWhile (p:=fun x:Fa=>decide (x.due≤now)) (l:=A.iE)
 have zI:∀x∈(A.due now).1,x∈A.iE:=fun x hx=>(List.takeWhile_sublist _).subset hx
 have vt:∀x∈(A.due now).2.iE,x∈A.iE:=fun x hx=>(List.dropWhile_sublist _).subset hx
 refine⟨fun x hx=>(h.each x (zI x hx)).1,⟨h.cf,h.nodes,Nat.le_trans (List.dropWhile_sublist _).length_le h.len,fun x hx=>h.each x (vt x hx),fun i hi=>?_⟩,fun hn=>?_⟩
 ·rcases h.all i hi with h1|⟨x,h1,h2⟩
  ·exact .inl (.inl h1)
  ·rw[← hX,List.mem_append]at h1
   rcases h1 with h1|h1
   ·exact .inl (.inr ⟨x,h1,h2⟩)
   ·exact .inr ⟨x,h1,h2⟩
 ·unfold NA.due
  simp only
  have fH:∀l:List Fa,(∀x∈l,x.due≤1000)→l.dropWhile (fun x:Fa=>decide (x.due≤now))=[]:=fun l=>by
   induction l with
   | nil=>intro _;rfl
   | cons x l ih =>
    intro hx
    rw[List.dropWhile_cons_of_pos (by have:=hx x (List.mem_cons_self ..);exact decide_eq_true aj)]
    exact ih fun y hy=>hx y (List.mem_cons_of_mem _ hy)
  exact fH _ fun x hx=>(h.each x hx).2
end Go.Proofs.YtlionahpheehaaaGreatDoor
namespace Go.SL
open Go
abbrev l5:=BitVec 32
def u32(x:l5):Value := .int .u32 (x.toNat:Int)
def wV(l:List l5):List Value:=l.map u32
def z6(l:List l5):(wV l).length=l.length:=by simp[wV]
def rq{l:List l5}{i:Nat}{x:l5}(h:l[i]?=some x):(wV l)[i]?=some (u32 x):=by simp[wV,h]
def Pj(l:List l5)(i:Nat)(x:l5):(wV l).set i (u32 x)=wV (l.set i x):=by simp[wV]
def wB(c:UInt8):l5:=BitVec.ofNat 32 c.toNat
theorem Wg(c:UInt8):(wB c).toNat=c.toNat:=by
 have:=c.toNat_lt
 grind [wB]
theorem wrap32(n:Nat):IntKind.u32.wrap (n:Int)=((n%4294967296:Nat):Int):=by
 simp[IntKind.wrap,IntKind.bits,IntKind.signed]
theorem ofInt32(p:l5):BitVec.ofInt IntKind.u32.bits ((p.toNat:Nat):Int)=p:=by
 apply BitVec.eq_of_toNat_eq
 have h:IntKind.u32.bits=32:=rfl
 grind
section
variable{P:Program}{U:Tr}[hU:gF P U]{f:FuncId}{n:Nat}{R:Ending→World→Prop}{G:cL}{k:List Item}{L:gh}{H H':List HP}{S:World→Prop}{all:Array Oper}{rest:Pl}{ty:TypeId}{pos:String}{af:Array Edge}{gd:Option (Nat × Bool)}{m:Bool}{d:Tmp}
theorem qL{t yt:TypeId}{x y:Operand}{p q:l5}(hd:Nat.blt d n=true)(hx:ev L x=some (.int .u32 (p.toNat:Int)))(hy:ev L y=some (.int .u32 (q.toNat:Int)))(h:J P f n R G S all rest k ((d,.int .u32 ((p+q).toNat:Int))::L) H):J P f n R G S all (.cons m true ⟨some d,.binOp .add t x y yt,ty,pos,af,gd⟩ rest) k L H:=by
 refine SC hd hx hy ?_
 have e:IntKind.u32.wrap ((p.toNat:Int)+(q.toNat:Int))=((p+q).toNat:Int):=by
  grind [wrap32]
 rw[e];exact h
def xk(p:l5):IntKind.u32.wrap (p.toNat:Int)=(p.toNat:Int):=by
 rw[wrap32];have:=p.isLt;congr 1;omega
def qJ{t yt:TypeId}{x y:Operand}{p q:l5}(hd:Nat.blt d n=true)(hx:ev L x=some (.int .u32 (p.toNat:Int)))(hy:ev L y=some (.int .u32 (q.toNat:Int)))(h:J P f n R G S all rest k ((d,.int .u32 ((p ^^^ q).toNat:Int))::L) H):J P f n R G S all (.cons m true ⟨some d,.binOp .xor t x y yt,ty,pos,af,gd⟩ rest) k L H :=
 dK hd (fun a ha w=>by
  have e:IntKind.u32.wrap ((BitVec.ofInt IntKind.u32.bits (p.toNat:Int) ^^^ BitVec.ofInt IntKind.u32.bits (q.toNat:Int)).toNat:Int)=((p ^^^ q).toNat:Int):=by rw[ofInt32,ofInt32];exact xk (p ^^^ q)
  simp[execOp,ha.ev hx,ha.ev hy,eqGuard,binOp,Op.intBits]
  simpa using e) h
def qK{t yt:TypeId}{x y:Operand}{p q:l5}(hd:Nat.blt d n=true)(hx:ev L x=some (.int .u32 (p.toNat:Int)))(hy:ev L y=some (.int .u32 (q.toNat:Int)))(h:J P f n R G S all rest k ((d,.int .u32 ((p &&& q).toNat:Int))::L) H):J P f n R G S all (.cons m true ⟨some d,.binOp .and t x y yt,ty,pos,af,gd⟩ rest) k L H :=
 dK hd (fun a ha w=>by
  have e:IntKind.u32.wrap ((BitVec.ofInt IntKind.u32.bits (p.toNat:Int) &&& BitVec.ofInt IntKind.u32.bits (q.toNat:Int)).toNat:Int)=((p &&& q).toNat:Int):=by rw[ofInt32,ofInt32];exact xk (p &&& q)
  simp[execOp,ha.ev hx,ha.ev hy,eqGuard,binOp,Op.intBits]
  simpa using e) h
def sC{t yt:TypeId}{x y:Operand}{p q:l5}(hd:Nat.blt d n=true)(hx:ev L x=some (.int .u32 (p.toNat:Int)))(hy:ev L y=some (.int .u32 (q.toNat:Int)))(h:J P f n R G S all rest k ((d,.int .u32 ((p ||| q).toNat:Int))::L) H):J P f n R G S all (.cons m true ⟨some d,.binOp .or t x y yt,ty,pos,af,gd⟩ rest) k L H :=
 dK hd (fun a ha w=>by
  have e:IntKind.u32.wrap ((BitVec.ofInt IntKind.u32.bits (p.toNat:Int) ||| BitVec.ofInt IntKind.u32.bits (q.toNat:Int)).toNat:Int)=((p ||| q).toNat:Int):=by rw[ofInt32,ofInt32];exact xk (p ||| q)
  simp[execOp,ha.ev hx,ha.ev hy,eqGuard,binOp,Op.intBits]
  simpa using e) h
def FH{t yt:TypeId}{x y:Operand}{p:l5}{j':IntKind}{q:Int}(s:Nat)(hd:Nat.blt d n=true)(hx:ev L x=some (.int .u32 (p.toNat:Int)))(hy:ev L y=some (.int j' q))(hq:q=(s:Int))(hs:s≤32)(h:J P f n R G S all rest k ((d,.int .u32 ((p >>> s).toNat:Int))::L) H):J P f n R G S all (.cons m true ⟨some d,.binOp .shr t x y yt,ty,pos,af,gd⟩ rest) k L H:=by
 subst hq
 refine iQ hd hx hy aj ?_
 have e:(p.toNat:Int)/2 ^ (min ((s:Int).toNat) IntKind.u32.bits)=((p >>> s).toNat:Int):=by
  rw[BitVec.toNat_ushiftRight,Nat.shiftRight_eq_div_pow,Int.toNat_natCast,show min s IntKind.u32.bits=s from by show min s 32=s;omega]
  simp
 rw[e];exact h
def Ss{t yt:TypeId}{x y:Operand}{p:l5}{j':IntKind}{q:Int}(s:Nat)(hd:Nat.blt d n=true)(hx:ev L x=some (.int .u32 (p.toNat:Int)))(hy:ev L y=some (.int j' q))(hq:q=(s:Int))(hs:s≤32)(h:J P f n R G S all rest k ((d,.int .u32 ((p <<< s).toNat:Int))::L) H):J P f n R G S all (.cons m true ⟨some d,.binOp .shl t x y yt,ty,pos,af,gd⟩ rest) k L H:=by
 subst hq
 refine oD hd hx hy aj ?_
 have e:IntKind.u32.wrap ((p.toNat:Int)*2 ^ (min ((s:Int).toNat) IntKind.u32.bits))=((p <<< s).toNat:Int):=by
  rw[BitVec.toNat_shiftLeft,Nat.shiftLeft_eq,Int.toNat_natCast,show min s IntKind.u32.bits=s from by show min s 32=s;omega]
  rw[show(p.toNat:Int)*2 ^ s=((p.toNat*2 ^ s:Nat):Int)from by simp,wrap32]
 rw[e];exact h
def Sm{src dst:TypeId}{ts td:Ty}{x:Operand}{j':IntKind}{c:UInt8}(hd:Nat.blt d n=true)(hx:ev L x=some (.int .u8 (c.toNat:Int)))(hs:U.get src=some ts)(NI:ts.gx = .int j')(NX:U.get dst=some td)(Hv:td.gx = .int .u32)(h:J P f n R G S all rest k ((d,.int .u32 ((wB c).toNat:Int))::L) H):J P f n R G S all (.cons m true ⟨some d,.convert src dst x,ty,pos,af,gd⟩ rest) k L H:=by
 refine B5 hd hx hs NI NX Hv (by have:=c.toNat_lt;simp only[js];omega) ?_
 rw[Wg]at h;exact h
def ON{src dst:TypeId}{ts td:Ty}{x:Operand}{j':IntKind}{p:l5}(hd:Nat.blt d n=true)(hx:ev L x=some (.int .u32 (p.toNat:Int)))(hs:U.get src=some ts)(NI:ts.gx = .int j')(NX:U.get dst=some td)(Hv:td.gx = .int .u8)(h:J P f n R G S all rest k ((d,u8 (UInt8.ofNat p.toNat))::L) H):J P f n R G S all (.cons m true ⟨some d,.convert src dst x,ty,pos,af,gd⟩ rest) k L H:=by
 refine Mu hd hx hs NI NX Hv ?_
 have e:Value.int .u8 (IntKind.u8.wrap (p.toNat:Int))=u8 (UInt8.ofNat p.toNat):=by
  simp[u8,IntKind.wrap,IntKind.bits,IntKind.signed]
 rw[e];exact h
end
end Go.SL
namespace Go.SL
open Go
structure Dg where
 bs:List UInt8
 len:bs.length=32
deriving DecidableEq
def Dg.at(x:Dg)(i:Nat):UInt8:=x.bs.getD i 0
def Dg.zero:Dg:=⟨List.replicate 32 0,by simp⟩
instance:Inhabited Dg:=⟨Dg.zero⟩
def dC(x:Dg):List Value :=
  [u8 (x.at 0),u8 (x.at 1),u8 (x.at 2),u8 (x.at 3),u8 (x.at 4),u8 (x.at 5),u8 (x.at 6),u8 (x.at 7),u8 (x.at 8),u8 (x.at 9),u8 (x.at 10),u8 (x.at 11),u8 (x.at 12),u8 (x.at 13),u8 (x.at 14),u8 (x.at 15),
   u8 (x.at 16),u8 (x.at 17),u8 (x.at 18),u8 (x.at 19),u8 (x.at 20),u8 (x.at 21),u8 (x.at 22),u8 (x.at 23),u8 (x.at 24),u8 (x.at 25),u8 (x.at 26),u8 (x.at 27),u8 (x.at 28),u8 (x.at 29),u8 (x.at 30),u8 (x.at 31)]
def ff(x:Dg):(dC x).length=32:=rfl
theorem fg(x:Dg):dC x=bV x.bs:=by
 have h1:x.bs=(List.range 32).map (fun i=>x.at i):=by
  apply List.ext_getElem?
  intro i
  rcases Nat.lt_or_ge i 32 with h|h
  ·rw[List.getElem?_map,List.getElem?_range h]
   simp only[Dg.at,Option.map_some,List.getD_eq_getElem?_getD]
   rw[List.getElem?_eq_getElem (by rw[x.len];exact h)];rfl
  ·rw[List.getElem?_eq_none (by rw[x.len];exact h),List.getElem?_eq_none (by simpa using h)]
 conv=>rhs;rw[h1]
 rfl
def Tg{a b:UInt8}(h:u8 a=u8 b):a=b:=by
 simp only[u8,Value.int.injEq,true_and,Int.natCast_inj]at h
 exact UInt8.toNat.inj h
def aa1{a b:List UInt8}(h:bV a=bV b):a=b:=by
 induction a generalizing b with
 | nil=>cases b with
  | nil=>rfl
  | cons y b=>simp[bV]at h
 | cons x a ih=>cases b with
  | nil=>simp[bV]at h
  | cons y b =>
   simp only[bV,List.map_cons,List.cons.injEq]at h
   rw[Tg h.1,ih h.2]
theorem aaR{a b:Dg}(h:dC a=dC b):a=b:=by
 rw[fg,fg]at h
 have:=aa1 h
 cases a;cases b;simp_all
section
variable{P:Program}
theorem Ks{e:TypeId}(he:P.underlying e=some (.int .u8))(hc:P.cellsOf e=1)(d:Nat)(a b:List UInt8)(hl:a.length=b.length)(w:World):∀is:List Nat,(∀i∈is,i<a.length) →
  (Op.eqItems (d+1) e (P.cellsOf e) (bV a).toArray (bV b).toArray is).run P w = .ok (decide (∀i∈is,a[i]?=b[i]?)) w:=by
 intro is
 induction is with
 | nil=>intro _;simp[Op.eqItems]
 | cons i is ih =>
  intro hi
  have LX:P.plainKey e=true:=by unfold Program.plainKey;rw[he]
  have xY:=hi i (List.mem_cons_self ..)
  have h1:(bV a).toArray[i*P.cellsOf e]?=some (u8 (a[i]'xY)):=by rw[hc,Nat.mul_one];simp[bV,xY]
  have h2:(bV b).toArray[i*P.cellsOf e]?=some (u8 (b[i]'(hl ▸ xY))):=by rw[hc,Nat.mul_one];simp[bV,hl ▸ xY]
  simp only[Op.eqItems,Sem.run_bind,run_part_plain w LX h1,run_part_plain w LX h2,Result.andThen_ok]
  have h3:(Op.equalIn (d+1) e (u8 (a[i]'xY)) (u8 (b[i]'(hl ▸ xY)))).run P w = .ok (decide (a[i]'xY=b[i]'(hl ▸ xY))) w:=by
   simp only[Op.equalIn,Sem.run_bind,Go.run_underlying he,Result.andThen_ok,u8,if_true,Sem.run_pure]
   congr 1
   rw[Bool.eq_iff_iff]
   simp only[beq_iff_eq,decide_eq_true_iff]
   constructor
   ·intro h;exact UInt8.toNat.inj aj
   grind
  rw[h3]
  simp only[Result.andThen_ok]
  have h4:(a[i]?=b[i]?)↔a[i]'xY=b[i]'(hl ▸ xY):=by
   grind
  by_cases h5:a[i]'xY=b[i]'(hl ▸ xY)
  ·simp_all
  simp_all
theorem Jy{t e:TypeId}{n:Nat}{a b:List UInt8}(ht:P.underlying t=some (.array n e))(he:P.underlying e=some (.int .u8))(hc:P.cellsOf e=1)(ha:a.length=n)(hb:b.length=n)(d:Nat)(w:World) :
  (Op.equalIn (d+2) t (.agg (bV a).toArray) (.agg (bV b).toArray)).run P w = .ok (decide (a=b)) w:=by
 obtain⟨i,hi⟩:=info_of_underlying he
 rw[run_equalIn_array w (d+1) _ _ ht hi,Ks he hc d a b aj w _ (fun i hi=>by rw[ha];exact List.mem_range.1 hi)]
 congr 1
 rw[Bool.eq_iff_iff,decide_eq_true_iff,decide_eq_true_iff]
 constructor
 ·intro h
  apply List.ext_getElem?
  grind
 grind
theorem qc{t e:TypeId}(ht:P.underlying t=some (.array 32 e))(he:P.underlying e=some (.int .u8))(hc:P.cellsOf e=1)(a b:Dg)(d:Nat)(w:World) :
  (Op.equalIn (d+2) t (.agg (dC a).toArray) (.agg (dC b).toArray)).run P w = .ok (decide (a=b)) w:=by
 rw[fg,fg,Jy ht he hc a.len b.len]
 congr 1
 rw[Bool.eq_iff_iff,decide_eq_true_iff,decide_eq_true_iff]
 constructor
 ·intro h;cases a;cases b;simp_all
 grind
end
section
variable{P:Program}{U:Tr}[hU:gF P U]{f:FuncId}{n:Nat}{R:Ending→World→Prop}{G:cL}{k:List Item}{L:gh}{H H':List HP}{S:World→Prop}{all:Array Oper}{rest:Pl}{ty:TypeId}{pos:String}{af:Array Edge}{gd:Option (Nat × Bool)}{m:Bool}{d:Tmp}
def lJ{x y:Operand}{t yt:TypeId}{c1 c2:Array Value}{b:Bool}(hd:Nat.blt d n=true)(hx:ev L x=some (.agg c1))(hy:ev L y=some (.agg c2))(hg:P.eqGuardType P.depth t=false)(he:∀w,(Op.equal t (.agg c1) (.agg c2)).run P w = .ok b w)(h:J P f n R G S all rest k ((d,.bool b)::L) H):J P f n R G S all (.cons m true ⟨some d,.binOp .eql t x y yt,ty,pos,af,gd⟩ rest) k L H:=by
 have iJ:∀a w,Has n L a→(execOp a.eval ⟨some d,.binOp .eql t x y yt,ty,pos,af,gd⟩).run P w = .ok (.value (.bool b)) w:=fun a w ha=>by
  have hgu:(eqGuard .eql t x y (.agg c1) (.agg c2)).run P w = .ok () w:=by simp[eqGuard,hg]
  have hb:(binOp .eql t (.agg c1) (.agg c2)).run P w = .ok (.bool b) w:=by
   simp only[binOp,Sem.run_bind,he,Result.andThen_ok,Sem.run_pure]
  simp only[execOp,ha.ev hx,ha.ev hy,Sem.run_bind,hgu,hb,Result.andThen_ok,Sem.run_pure]
 cases m with
 | false=>exact kR hd (fun a w ha _=>iJ a w ha) h
 | true=>exact mK hd (fun a w ha _=>iJ a w ha) h
def jJ{t e:TypeId}{cd te:Ty}{nn:Nat}{z:Array Value}(hd:Nat.blt d n=true)(ht:U.get t=some cd)(hu:cd.gx = .array nn e)(he:U.get e=some te)(hz:cd.info.zero=some (.agg z))(h:J P f n R G S all rest k ((d,.agg z)::L) H):J P f n R G S all (.cons m true ⟨some d,.build t #[],ty,pos,af,gd⟩ rest) k L H:=by
 have iJ:∀a w,Has n L a→(execOp a.eval ⟨some d,.build t #[],ty,pos,af,gd⟩).run P w = .ok (.value (.agg z)) w:=fun a w ha=>by
  simp only[execOp,Instr.build,Sem.run_bind,ej ht hz,run_underlying ht,Result.andThen_ok,hu,run_sizeOf he,Array.map_empty,Instr.fill,Value.cells,Sem.run_pure]
 cases m with
 | false=>exact kR hd (fun a w ha _=>iJ a w ha) h
 | true=>exact mK hd (fun a w ha _=>iJ a w ha) h
def iP{t elem:TypeId}{cd te:Ty}{x:Operand}{nn b off:Nat}(hd:Nat.blt d n=true)(ht:U.get t=some cd)(hu:cd.gx = .array nn elem)(he:U.get elem=some te)(hx:ev L x=some (.pointer (some ⟨b,off,none⟩)))(h:J P f n R G S all rest k ((d,.slice (some ⟨b,off,none⟩) nn nn)::L) H) :
  J P f n R G S all (.cons m true ⟨some d,.slice t x none none none,ty,pos,af,gd⟩ rest) k L H:=by
 refine dK hd (fun a ha w=>?_) h
 simp only[execOp,ha.ev hx,Instr.sliceAt,Sem.run_bind,run_underlying ht,Result.andThen_ok,hu,Instr.sureAddr,Instr.sliceBounds,Option.map_none,run_sizeOf he,Sem.run_pure]
 simp[Addr.add,run_sizeOf he]
def tJ{t elem:TypeId}{cd:Ty}{x:Operand}{nn len cap:Nat}{a0:Option Addr}(hd:Nat.blt d n=true)(ht:U.get t=some cd)(hu:cd.gx = .array nn elem)(hx:ev L x=some (.slice a0 len cap))(hl:nn≤len)(h:J P f n R G S all rest k ((d,.pointer a0)::L) H) :
  J P f n R G S all (.cons m true ⟨some d,.sliceToArrayPointer t x,ty,pos,af,gd⟩ rest) k L H:=by
 refine dK hd (fun a ha w=>?_) h
 simp only[execOp,ha.ev hx,Instr.arrayAt,Sem.run_bind,run_underlying ht,Result.andThen_ok,hu]
 rw[if_neg aj]
 simp
def K4(X:HP)(v:Value)(l:List Dg):Prop:=Vw X v l.length (l.flatMap dC)∧∃a c,v = .slice a l.length c∧l.length≤c
def K4.mono{A B:HP}{v:Value}{l:List Dg}(h:K4 A v l)(O':∀h,B h→∃h',sub h' h∧A h'):K4 B v l:=⟨h.1.mono O',h.2⟩
end
end Go.SL
namespace Go.SL
open Go
namespace Sha
def OY(x:l5)(n:Nat):l5:=x <<< (32-n) ||| x >>> n
def ks:List l5:=[
 0x428a2f98,0x71374491,0xb5c0fbcf,0xe9b5dba5,0x3956c25b,0x59f111f1,0x923f82a4,0xab1c5ed5,
 0xd807aa98,0x12835b01,0x243185be,0x550c7dc3,0x72be5d74,0x80deb1fe,0x9bdc06a7,0xc19bf174,
 0xe49b69c1,0xefbe4786,0x0fc19dc6,0x240ca1cc,0x2de92c6f,0x4a7484aa,0x5cb0a9dc,0x76f988da,
 0x983e5152,0xa831c66d,0xb00327c8,0xbf597fc7,0xc6e00bf3,0xd5a79147,0x06ca6351,0x14292967,
 0x27b70a85,0x2e1b2138,0x4d2c6dfc,0x53380d13,0x650a7354,0x766a0abb,0x81c2c92e,0x92722c85,
 0xa2bfe8a1,0xa81a664b,0xc24b8b70,0xc76c51a3,0xd192e819,0xd6990624,0xf40e3585,0x106aa070,
 0x19a4c116,0x1e376c08,0x2748774c,0x34b0bcb5,0x391c0cb3,0x4ed8aa4a,0x5b9cca4f,0x682e6ff3,
 0x748f82ee,0x78a5636f,0x84c87814,0x8cc70208,0x90befffa,0xa4506ceb,0xbef9a3f7,0xc67178f2]
def s0(x:l5):l5:=OY x 7 ^^^ OY x 18 ^^^ x >>> 3
def s1(x:l5):l5:=OY x 17 ^^^ OY x 19 ^^^ x >>> 10
def b0(x:l5):l5:=OY x 2 ^^^ OY x 13 ^^^ OY x 22
def b1(x:l5):l5:=OY x 6 ^^^ OY x 11 ^^^ OY x 25
def ch(e f g:l5):l5:=g ^^^ e &&& (f ^^^ g)
def maj(a b c:l5):l5:=a &&& b ||| c &&& (a ||| b)
def word(b:List UInt8)(t:Nat):l5:=wB (b.getD (4*t) 0) <<< 24 ||| wB (b.getD (4*t+1) 0) <<< 16 ||| wB (b.getD (4*t+2) 0) <<< 8 ||| wB (b.getD (4*t+3) 0)
def sched(b:List UInt8):Nat→List l5
 | 0=>[]
 | t+1 =>
  let w:=sched b t
  if t<16 then w++[word b t]else w++[w.getD (t-16) 0+w.getD (t-7) 0+s1 (w.getD (t-2) 0)+s0 (w.getD (t-15) 0)]
theorem gQ(b:List UInt8)(t:Nat):(sched b t).length=t:=by
 induction t with
 | zero=>rfl
 | succ t ih=>simp only[sched];split <;> simp[ih]
theorem MO(b:List UInt8){t u:Nat}(h:t≤u)(i:Nat)(hi:i<t):(sched b u)[i]?=(sched b t)[i]? := by
 induction u with
 | zero=>omega
 | succ u ih =>
  grind [sched,gQ]
structure St where
 a:l5
 b:l5
 c:l5
 d:l5
 e:l5
 f:l5
 g:l5
 h:l5
def round(s:St)(k w:l5):St :=
 let x:=s.h+b1 s.e+ch s.e s.f s.g+k+w
 let y:=b0 s.a+maj s.a s.b s.c
 ⟨x+y,s.a,s.b,s.c,s.d+x,s.e,s.f,s.g⟩
def rounds(s:St)(w:List l5):Nat→St
 | 0=>s
 | t+1=>round (rounds s w t) (ks.getD t 0) (w.getD t 0)
def plus(s t:St):St:=⟨s.a+t.a,s.b+t.b,s.c+t.c,s.d+t.d,s.e+t.e,s.f+t.f,s.g+t.g,s.h+t.h⟩
def chunk(s:St)(b:List UInt8):St:=plus s (rounds s (sched b 64) 64)
def start:St:=⟨0x6a09e667,0xbb67ae85,0x3c6ef372,0xa54ff53a,0x510e527f,0x9b05688c,0x1f83d9ab,0x5be0cd19⟩
def chunks(s:St)(b:List UInt8):Nat→St
 | 0=>s
 | n+1=>chunk (chunks s b n) (b.drop (64*n))
def St.l(s:St):List l5:=[s.a,s.b,s.c,s.d,s.e,s.f,s.g,s.h]
def DW(n:Nat):List UInt8:=(List.range 8).map fun i=>UInt8.ofNat (n/2 ^ (56-8*i))
def pad(n:Nat):List UInt8:=128::List.replicate ((119-n%64)%64) 0++DW (8*n)
def out(s:St):List UInt8:=(List.range 32).map fun i=>UInt8.ofNat ((s.l.getD (i/4) 0) >>> (24-8*(i%4))).toNat
def Lv(s:St):(out s).length=32:=by simp[out]
def msg(b:List UInt8):List UInt8:=b++pad b.length
end Sha
def fz(b:List UInt8):Dg:=⟨Sha.out (Sha.chunks Sha.start (Sha.msg b) ((Sha.msg b).length/64)),Sha.Lv _⟩
def vW(n:Nat):List UInt8:=(List.range 8).map fun i=>UInt8.ofNat (n/2 ^ (8*i))
def gz(tag:UInt8)(ps:List (List UInt8)):List UInt8:=tag::ps.flatMap fun p=>vW p.length++p
def cY(tag:UInt8)(ps:List (List UInt8)):Dg:=fz (gz tag ps)
namespace Sha
def part(b:List UInt8)(t:Nat):Nat→l5
 | 0=>0
 | j+1=>part b t j ||| wB (b.getD (4*t+j) 0) <<< (24-8*j)
def acG(b:List UInt8)(t:Nat):part b t 4=word b t:=by
 simp[part,word]
def n6(b:List UInt8)(i:Nat):List l5:=(List.range 64).map fun t=>part b t (min 4 (i-4*t))
theorem mP(b:List UInt8)(i:Nat):(n6 b i).length=64:=by simp[n6]
theorem mQ(b:List UInt8)(i t:Nat)(ht:t<64):(n6 b i)[t]?=some (part b t (min 4 (i-4*t))):=by
 simp[n6,ht]
theorem Kn(b:List UInt8):n6 b 0=List.replicate 64 0:=by
 apply List.ext_getElem?
 grind [mQ,part,mP]
theorem Ko(b:List UInt8)(i:Nat)(hi:i<64):(n6 b i).set (i/4) (part b (i/4) (i%4) ||| wB (b.getD i 0) <<< (24-8*(i%4)))=n6 b (i+1):=by
 apply List.ext_getElem?
 intro t
 rw[List.getElem?_set,mP]
 rcases Nat.lt_or_ge t 64 with h|h
 ·rw[mQ b i t h,mQ b (i+1) t h]
  by_cases ht:i/4=t
  ·subst ht
   rw[if_pos rfl,if_pos h]
   have e1:min 4 (i+1-4*(i/4))=i%4+1:=by omega
   grind [part]
  grind
 grind [mP,n6]
theorem Jq(b:List UInt8)(t u:Nat)(h:t<u)(hu:t<16):(sched b u)[t]?=some (word b t):=by
 rw[MO b (t:=t+1) aj t aj]
 grind [sched,gQ]
theorem N'(b:List UInt8):n6 b 64=sched b 16++List.replicate 48 0:=by
 apply List.ext_getElem?
 intro t
 rcases Nat.lt_or_ge t 16 with h|h
 ·rw[mQ b 64 t aj,List.getElem?_append_left (by rw[gQ];exact h),Jq b t 16 h h,show min 4 (64-4*t)=4 from by omega,acG]
 ·rw[List.getElem?_append_right (by rw[gQ];exact h),gQ]
  rcases Nat.lt_or_ge t 64 with h2|h2
  ·rw[mQ b 64 t h2,List.getElem?_replicate,if_pos aj,show min 4 (64-4*t)=0 from by omega];rfl
  grind [mP]
def kC(b:List UInt8)(t:Nat):List l5:=sched b t++List.replicate (64-t) 0
def Jr(b:List UInt8)(t:Nat)(h:t≤64):(kC b t).length=64:=by simp[kC,gQ];omega
theorem p9(b:List UInt8)(t i:Nat)(h:i<t):(kC b t)[i]?=some ((sched b t).getD i 0):=by
 grind [kC,gQ]
theorem Gi(b:List UInt8)(t:Nat)(h1:16≤t)(h2:t<64):(kC b t).set t ((sched b t).getD (t-16) 0+(sched b t).getD (t-7) 0+s1 ((sched b t).getD (t-2) 0)+s0 ((sched b t).getD (t-15) 0))=kC b (t+1):=by
 unfold kC
 rw[List.set_append_right _ _ (by rw[gQ];exact Nat.le_refl _),gQ,Nat.sub_self,show 64-t=(64-(t+1))+1 from by omega,List.replicate_succ,List.set_cons_zero]
 grind [sched]
def Js(b:List UInt8):kC b 64=sched b 64:=by simp[kC]
end Sha
namespace Sha
theorem Gh{b b':List UInt8}(h:∀i,i<64→b.getD i 0=b'.getD i 0)(t:Nat):sched b t=sched b' t:=by
 induction t with
 | zero=>rfl
 | succ t ih =>
  grind [sched,word]
theorem Oi(s:St)(b r:List UInt8)(h:64≤b.length):chunk s (b++r)=chunk s b:=by
 grind [chunk,Gh]
theorem BE(s:St)(b r:List UInt8):∀q,64*q≤b.length→chunks s (b++r) q=chunks s b q
 | 0,_=>rfl
 | q+1,h=>by
  simp only[chunks]
  rw[BE s b r q aj,List.drop_append_of_le_length aj,Oi _ _ _ (by rw[List.length_drop];omega)]
theorem BF(s:St)(b:List UInt8)(p:Nat):∀q,chunks s b (p+q)=chunks (chunks s b p) (b.drop (64*p)) q
 | 0=>rfl
 | q+1=>by
  rw[← Nat.add_assoc]
  simp only[chunks]
  rw[BF s b p q,List.drop_drop,show 64*p+64*q=64*(p+q)from by omega]
theorem MJ(b:List UInt8):chunks start (msg b) ((msg b).length/64)=chunks (chunks start b (b.length/64)) (b.drop (64*(b.length/64))++pad b.length) ((b.drop (64*(b.length/64))++pad b.length).length/64):=by
 have h1:64*(b.length/64)≤b.length:=by omega
 have hl:(msg b).length/64=b.length/64+(b.drop (64*(b.length/64))++pad b.length).length/64:=by
  grind [msg]
 grind [BF,msg,BE]
end Sha
end Go.SL
namespace Go.SL
def Tl(b:List UInt8):(fz b).bs=Sha.out (Sha.chunks Sha.start (Sha.msg b) ((Sha.msg b).length/64)):=rfl
theorem P3{l:List UInt8}{i n:Nat}{x:UInt8}(hl:l.length=n)(h:l[i]?=some x):(bV (l.take i++List.replicate (n-i) (0:UInt8))).set i (u8 x)=bV (l.take (i+1)++List.replicate (n-(i+1)) (0:UInt8)):=by
 have hi:i<n:=by
  grind
 have e1:(l.take i).length=i:=by rw[List.length_take];omega
 show((l.take i++List.replicate (n-i) (0:UInt8)).map u8).set i (u8 x)=_
 rw[← List.map_set,List.set_append_right _ _ aj,e1,Nat.sub_self,show n-i=(n-(i+1))+1 from by omega,List.replicate_succ,List.set_cons_zero,List.take_add_one,h]
 simp[bV]
def lz(l:List UInt8):jV (bV l)=true:=by
 induction l with
 | nil=>rfl
 | cons x l ih =>
  show(Value.oneCell' (u8 x) && jV (bV l))=true
  rw[ih];rfl
end Go.SL
namespace Go.Proofs.YtlionahpheehaaaGreatDoor
open Go Go.SL
def H8{A:HP}{v:Value}{bs:List UInt8}(hv:Vw A v bs.length (bV bs))(h:0<bs.length):∃b o c,v = .slice (some ⟨b,o,none⟩) bs.length c:=hv.some (by cases bs with
 | nil=>simp at h
 | cons x l=>simp[bV])
theorem zO{bs:List UInt8}{i:Nat}(h:i<bs.length):(bV bs)[i]?=some (u8 (bs.getD i 0)):=by
 grind [bV]
theorem An{x q:Nat}(y:Nat)(h:x*2 ^ (min q 64)=y)(hy:y<9223372036854775808):Value.int .i64 (IntKind.i64.wrap ((x:Int)*2 ^ (min ((q:Int).toNat) IntKind.i64.bits))) = .int .i64 (y:Int):=by
 have e:(x:Int)*2 ^ (min ((q:Int).toNat) IntKind.i64.bits)=(y:Int):=by
  show(x:Int)*2 ^ (min q 64)=_
  grind
 grind [dr,js]
end Go.Proofs.YtlionahpheehaaaGreatDoor
