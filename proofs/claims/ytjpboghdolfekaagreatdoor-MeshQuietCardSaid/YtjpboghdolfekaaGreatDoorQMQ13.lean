import Derived.Test.YtjpboghdolfekaaGreatDoorQMQ2
import Derived.Test.YtjpboghdolfekaaGreatDoorQMQ3
import Derived.Test.YtjpboghdolfekaaGreatDoorQMQ4
import Derived.Test.YtjpboghdolfekaaGreatDoorQMQ6
import Derived.Test.YtjpboghdolfekaaGreatDoorQMQ7
import Derived.Test.YtjpboghdolfekaaGreatDoorQMQ8
import Derived.Test.YtjpboghdolfekaaGreatDoorQMQ9
import Derived.Test.YtjpboghdolfekaaGreatDoorQMQ11
import Derived.Test.YtjpboghdolfekaaGreatDoorQMQ12
import Derived.Deep.Slices
import Derived.DataElems
set_option linter.unusedSimpArgs false
set_option linter.unusedVariables false
set_option maxHeartbeats 2000000
set_option maxRecDepth 20000
set_option linter.defProp false
namespace Go.Proofs.YtjpboghdolfekaaGreatDoor
open Go Go.SL
structure TkM where
 n:Nat
 a:Option Addr
 c:Nat
 co:List Value
 la:Option Addr
 ln:Nat
 lc:Nat
def afI(op:Option Q8)(y:TkM):Prop:=y.n=plN op∧y.co=plO op∧(op=none→y.la=none∧y.ln=0∧y.lc=0)
attribute [local irreducible] J K aw Ends ag aH au bE aW aJ a6 aZ bI aG l8 bX mM pX
section
variable(nb:Nat)(id:Int)(S:FW)(st tb bv kb hb ms mg:Nat)
def JL(op:Option Q8)(bd:Nat)(q:Int)(mb:Nat)(bk:Bool)(A:Ab)(I2:∀p,op=some p→iy A p.d=none)(V:VM)(hV:AM V)(g:List Int)(hgn:g.Nodup)(hgl:g.length≤64)(ML:∀k∈g,i64 k)(r now seed:Int)(hr:0≤r∧r≤1000000)(hs:i64 S.bJ)(vW:0≤S.pat∧S.pat≤1048576) :
  aw Tryz.prog 43 [ptr nb,.int .i64 now,.int .u64 seed] [ag nb (cl (mK id S st tb bv kb hb (N' op) ms mg false) 131),bX bv V,mM kb S.lim S.jG S.cN,pX hb S.bJ r,au (Value.int .i64) mg (gE g),ag st (cl (dR bd q mb bk) 209),aG bd A,plH op]
  (fun u H=>∃(y:TkM) (e:Int) (V':VM) (r':Int) (g':List Int) (pv':Value),u = .tuple #[.slice y.a y.n y.c,.int .i64 e]∧(pE now 0 1099511627776=true→e=0)∧(V'.ks=[]→e=0→y.n=plN op∧y.co=plO op)∧AM V'∧V'.cj=V.cj∧V'.ks.length≤V.ks.length∧(r≤r'∧r'≤r+1)∧(g'=g∨g'=[])∧(op=none→pv' = .slice none 0 0) ∧
   H=[aH 160 40 (.slice y.a y.n y.c) y.n y.co,ag nb (cl (mK id S st tb bv kb hb pv' ms mg false) 131),bX bv V',mM kb S.lim S.jG S.cN,pX hb S.bJ r',au (Value.int .i64) mg (gE g'),ag st (cl (dR bd q mb bk) 209),aG bd A]):=by
 refine aw.ao Tryz.func43 Tryz.ntmps43 fun G F R hE=>?_
 refine go ?_
 refine aF (tw now 0 1099511627776) ?_
 cases hw:pE now 0 1099511627776 with
 | false =>
  refine go ?_
  refine ai (bp 160 40 none _) ?_
  ((refine ad hE Tryz.func43 zr zr ⟨⟨0,none,0,[],none,0,0⟩,1,V,r,g,N' op,rfl,fun h=>absurd (hw.symm.trans h) (by decide),fun _ h=>absurd h (by decide),hV,rfl,Nat.le_refl _,aj,.inl rfl,fun h=>by subst h;rfl,rfl⟩))
 | true =>
 have Mv:0≤now∧now≤1099511627776:=by
  unfold pE at hw
  rw[Bool.and_eq_true]at hw
  exact⟨of_decide_eq_true hw.1,of_decide_eq_true hw.2⟩
 refine go ?_
 refine az (DG kb S.lim S.jG S.cN now) ?_
 rintro _ _⟨rv,e0,rfl,rfl⟩
 refine aR (H':=ag nb (cl (mK id S st tb bv kb hb (N' op) ms mg false) 131)::bX bv V::mM kb S.lim S.jG S.cN::pX hb S.bJ r::au (Value.int .i64) mg (gE g)::ag st (cl (dR bd q mb bk) 209)::aG bd A::plH op::F) ah (go ?_)
 refine aO (fun w=>Sat G w ([ag nb (cl (mK id S st tb bv kb hb (N' op) ms mg false) 131)])) (cM 0 12 (.act 12 .nil)) rfl ae ae ae dv ?_
 (repeat(first|refine eK ?_|refine iG zr zr zr (by simp only[fZ];omega) ?_))
 refine az (J2 bv V hV now (min (4*S.pat) 1048576)) ?_
 rintro _ _⟨rv1,e1,V1,rfl,rfl,hV1,hm1,yZ⟩
 (repeat(first|refine eK ?_|refine tT zr zr zr aj aj ?_))
 refine gG rfl ?_
 refine zA 1 (fun y:Int × List Int=>(r≤y.1∧y.1≤r+1)∧(y.2=g∨y.2=[])) (fun y=>[(0,ptr nb),(1,.int .i64 now),(2,.int .u64 seed)]) (fun y=>ag nb (cl (mK id S st tb bv kb hb (N' op) ms mg false) 131)::bX bv V1::mM kb S.lim S.jG S.cN::pX hb S.bJ y.1::au (Value.int .i64) mg (gE y.2)::ag st (cl (dR bd q mb bk) 209)::aG bd A::plH op::F) rfl ?_ ?_
 case refine_2 =>
  intro tail
  refine aD zr zr ?_ ?_
  ·intro _
   refine go ?_
   refine az (EM nb id S st tb bv kb hb ms mg (N' op) false g hgn hgl ML r seed hr hs) ?_
   rintro _ _⟨r1,rfl,h1,h2,rfl⟩
   refine rW ?_
   refine pJ tail (r1,[]) rfl ⟨⟨h1,h2⟩,.inr rfl⟩ bO ah
  ·intro _
   refine pJ tail (r,g) rfl ⟨⟨aj,aj⟩,.inl rfl⟩ bO ah
 rintro⟨r1,g1⟩⟨Ao,Pr⟩
 simp only at Ao Pr ⊢
 refine go ?_
 refine gG rfl ?_
 refine zA 1 (afI op) (fun y=>[(0,ptr nb),(1,.int .i64 now),(2,.int .u64 seed),(8,.slice y.a y.n y.c),(9,.slice y.la y.ln y.lc)]) (fun y=>aH 160 40 (.slice y.a y.n y.c) y.n y.co::ag nb (cl (mK id S st tb bv kb hb (N' op) ms mg false) 131)::bX bv V1::mM kb S.lim S.jG S.cN::pX hb S.bJ r1::au (Value.int .i64) mg (gE g1)::ag st (cl (dR bd q mb bk) 209)::aG bd A::F) rfl ?_ ?_
 case refine_2 =>
  intro tail
  cases op with
  | none =>
   refine ik rfl ?_
   simp only[N',plA,plN,plK]
   (refine aN rfl ?_;refine rW ?_)
   refine jY zr zr ?_
   refine ai (bp 160 40 none _) ?_
   refine pJ tail ⟨0,none,0,[],none,0,0⟩ rfl ⟨rfl,rfl,fun _=>⟨rfl,rfl,rfl⟩⟩ bO ah
  | some p =>
   obtain⟨ra,rc,pb,d⟩:=p
   have tJ:=I2 _ rfl
   refine ai (H':=plH (some ⟨ra,rc,pb,d⟩)::ag nb (cl (mK id S st tb bv kb hb (N' (some ⟨ra,rc,pb,d⟩)) ms mg false) 131)::bX bv V1::mM kb S.lim S.jG S.cN::pX hb S.bJ r1::au (Value.int .i64) mg (gE g1)::ag st (cl (dR bd q mb bk) 209)::aG bd A::F) ah ?_
   refine ai (ak.part (aH 167 1 (.slice ra 1 rc) 1 [ptr pb]) (ag pb (cl (ZT d (-1)) 204)) _) ?_
   unfold N'
   refine jP 0 rfl aj ?_
   intro ob oo ooc he Pj CN IY
   simp only[Value.slice.injEq,true_and]at he
   obtain⟨rfl,rfl⟩:=he
   refine ik rfl (go ?_)
   refine bD 0 zr zr zr zr zr zr zr zr (by show 0<1;omega) ?_
   refine aP 0 0 zr zr zr IY zr zr zr zr (go ?_)
   refine az (HR nb id S st tb bv kb hb ms mg (.slice (some ⟨ob,oo,none⟩) 1 rc) false pb d now seed bd q mb bk A tJ) ?_
   rintro _ _⟨rb,rfl,rfl⟩
   refine go ?_
   refine aR (bp 160 40 none _) ?_
   refine aU (mm:=1) (news:=Nh d) 0 1 zr zr zr zr zr zr zr zr zr zr zr zr (Vw.ag rfl) rfl (GL 0 mvN _ zr zr zr zr) aj (by decide) (fun _=>rfl) bq ?_
   intro v1
   refine aM 0 rfl ?_
   rintro oa oc rfl
   refine go ?_
   refine aq (cs:=[ptr pb]) zr zr zr zr zr zr zr zr zr bq ?_
   intro row
   refine go ?_
   refine aR (bp 167 1 none _) ?_
   refine aU (mm:=1) (news:=[ptr pb]) 0 1 rfl rfl rfl rfl rfl rfl rfl rfl rfl rfl rfl rfl (Vw.ag rfl) rfl (by intro v hv;simp at hv;subst hv;rfl) aj (by decide) (fun _=>rfl) bq ?_
   intro v2
   refine aM 0 rfl ?_
   rintro la lc rfl
   refine go ?_
   refine kW rfl ?_
   (refine aN rfl ?_;refine rW ?_)
   refine jY zr zr ?_
   refine pJ tail ⟨1,oa,oc,Nh d,la,1,lc⟩ rfl ⟨rfl,rfl,fun h=>by cases h⟩ bO ah
 rintro⟨n,oa,oc,co,la,ln,lc⟩⟨hn,hco,I5⟩
 simp only at hn hco I5 ⊢
 have hn1:n≤1:=by rw[hn];cases op <;> simp[plN]
 have hpv:op=none→Value.slice la ln lc = .slice none 0 0:=fun h=>by obtain⟨h1,h2,h3⟩:=I5 h;rw[h1,h2,h3]
 have Pq:g1=g∨g1=[]:=Pr
 refine go ?_
 refine az (JS bv V1 hV1 seed) ?_
 rintro _ _⟨pid,pb,rfl,rfl,G6⟩
 refine aR (H':=ag nb (cl (mK id S st tb bv kb hb (.slice la ln lc) ms mg false) 131)::bX bv V1::aH 160 40 (.slice oa n oc) n co::mM kb S.lim S.jG S.cN::pX hb S.bJ r1::au (Value.int .i64) mg (gE g1)::ag st (cl (dR bd q mb bk) 209)::aG bd A::F) ah ?_
 cases pb with
 | false =>
  refine go ?_
  refine ad hE Tryz.func43 zr zr ⟨⟨n,oa,oc,co,none,0,0⟩,0,V1,r1,g1,.slice la ln lc,rfl,fun _=>rfl,fun _ _=>⟨hn,hco⟩,hV1,hm1,yZ,Ao,Pq,hpv,rfl⟩
 | true =>
 have gf:V1.ks≠[]:=fun h=>by cases G6 h
 refine go ?_
 ((refine az (Gossip_any bv V1 hV1.nd (by have:=hV1.small;omega) 3 seed) ?_))
 rintro rg _ rfl
 obtain⟨gs,hgs⟩:∃gs,gs=pw V1 3 seed:=⟨_,rfl⟩
 have agj:gs.length≤100:=by
  have:=hV1.small
  rw[hgs]
  unfold pw
  rw[List.length_append,List.length_map,sm,fp,List.length_map]
  unfold C3
  simp only[List.length_cons,List.length_nil]
  omega
 rw[← hgs]
 refine aM 0 rfl ?_
 rintro ga gc rfl
 refine go ?_
 refine aB zr zr zr bq ?_
 intro b17
 refine go ?_
 refine bj (fun y:Nat × List Value=>y.1≤gs.length∧y.2.length=gs.length*4) (fun y=>gs.length-y.1)
  (fun y=>[(0,ptr nb),(8,.slice oa n oc),(15,.int .i64 pid),(17,ptr b17),(109,.int .i64 (gs.length:Int)),(110,.int .i64 (y.1:Int))])
  (fun y=>ag b17 (cl (mC ⟨.slice none 0 0,.slice none 0 0,.slice none 0 0,.slice ga gs.length gc⟩ { ND.zero with kind:=8 }) 154)::aH 175 4 (.slice ga gs.length gc) gs.length y.2::aH 160 40 (.slice oa n oc) n co::ag nb (cl (mK id S st tb bv kb hb (.slice la ln lc) ms mg false) 131)::bX bv V1::mM kb S.lim S.jG S.cN::pX hb S.bJ r1::au (Value.int .i64) mg (gE g1)::ag st (cl (dR bd q mb bk) 209)::aG bd A::F) (0,mV gs) ⟨Nat.zero_le _,bt uC gs⟩ rfl bO ah ?_
 rintro⟨i,cs⟩⟨hi,jy⟩ ih
 simp only at hi jy
 refine go ?_
 refine aD zr zr ?_ ?_
 ·intro cB
  simp only at cB
  have dP:i<gs.length:=by omega
  refine jP 1 rfl aj ?_
  intro ob oo ooc he Pj CN IY
  simp only[Value.slice.injEq,true_and]at he
  obtain⟨rfl,rfl⟩:=he
  refine go ?_
  refine bM i 4 zr zr zr zr zr zr zr zr dP (go ?_)
  refine o5 (U:=aY) (q:=i*4+3) 1 fE rfl (Nat.add_assoc _ _ _) zr zr zr zr zr zr aj aj rfl (go ?_)
  refine aK ih (i+1,cs.set (i*4+3) (.int .i64 0)) rfl ⟨by simp only;omega,by simp only[List.length_set];exact jy⟩ (by simp only;omega) bO ah
 ·intro eN
  refine go ?_
  refine aV (U:=aY) (l:=mC ⟨.slice none 0 0,.slice none 0 0,.slice none 0 0,.slice ga gs.length gc⟩ { ND.zero with kind:=8 }) 0 rfl rfl rfl rfl rfl rfl (go ?_)
  refine aq (cs := .int .i64 pid::mC ⟨.slice none 0 0,.slice none 0 0,.slice none 0 0,.slice ga gs.length gc⟩ { ND.zero with kind:=8 }) rfl rfl rfl rfl rfl rfl rfl rfl rfl bq ?_
  intro row
  refine go ?_
  refine aR (H':=ag row (cl (.int .i64 pid::mC ⟨.slice none 0 0,.slice none 0 0,.slice none 0 0,.slice ga gs.length gc⟩ { ND.zero with kind:=8 }) 160)::aH 160 40 (.slice oa n oc) n co::ag nb (cl (mK id S st tb bv kb hb (.slice la ln lc) ms mg false) 131)::bX bv V1::mM kb S.lim S.jG S.cN::pX hb S.bJ r1::au (Value.int .i64) mg (gE g1)::ag st (cl (dR bd q mb bk) 209)::aG bd A::F) ah ?_
  refine aU (mm:=1) (news := .int .i64 pid::mC ⟨.slice none 0 0,.slice none 0 0,.slice none 0 0,.slice ga gs.length gc⟩ { ND.zero with kind:=8 }) 1 0 rfl rfl rfl rfl rfl rfl rfl rfl rfl rfl rfl rfl (Vw.ag rfl) rfl (GL pid _ _ rfl rfl rfl rfl) aj (by show(_+1)*160≤_;omega) (fun _=>rfl) bq ?_
  intro v1
  refine aM 1 rfl ?_
  rintro ja jc rfl
  refine go ?_
  refine ad hE Tryz.func43 zr zr ⟨⟨n+1,ja,jc,_,none,0,0⟩,0,V1,r1,g1,.slice la ln lc,rfl,fun _=>rfl,fun h=>absurd h gf,hV1,hm1,yZ,Ao,Pq,hpv,rfl⟩
end
end Go.Proofs.YtjpboghdolfekaaGreatDoor
namespace Go.Proofs.YtjpboghdolfekaaGreatDoor
open Go Go.SL
attribute [local irreducible] J K aw Ends ag aH au bE aW aJ a6
def Rel.K7{D:Dk}{A:Ab}(h:Rel D A){arrs':eG}(hs:∀x∈D.dg,x∈arrs'):Rel { D with dg:=arrs' } A :=
 ⟨h.room,h.off,h.names,h.aI,h.fs.mono fun x y ub=>⟨ub.1,ub.2.1.mono hs,ub.2.2.mono hs⟩,h.writes.mono fun x y ub=>⟨ub.1,ub.2.1,ub.2.2.mono hs⟩,h.cu.mono hs,h.ids,h.known,h.fC,h.nodup,h.e8,h.fN,h.ek,h.fO,h.iN,h.full⟩
def Jy(bd:Nat)(D:Dk)(A:Ab)(hR:Rel D A)(X:HP)(bv:Value)(b:List UInt8)(hv:Vw X bv b.length (bV b))(hb:b.length≤1000000000) :
  aw Tryz.prog 55 [ptr bd,bv] [fG bd D,X] (fun v H=>∃D',Rel D' { A with cu:=b }∧v = .tuple #[]∧H=[fG bd D',X]):=by
 obtain⟨a0,c0,rfl⟩:=hv.shape
 obtain⟨room,bm,k5,mJ,l5,off,maps,dg,files,fg,wl⟩:=D
 refine aw.ao Tryz.func55 Tryz.ntmps55 fun G F R hE=>?_
 refine ai (gD _ _ _ _ _ _ _ _ _ _ _ _ _) (go ?_)
 refine az (gI X _ b hv hb) ?_
 rintro v1 _ rfl
 refine aM 0 rfl ?_
 rintro a1 c1 rfl
 refine go ?_
 refine ai (ak.pick [0,4] rfl) ?_
 refine ai (ak.join _ _ _) ?_
 refine cG (zw 5 _ b _) ?_
 rintro arrs'⟨Jh,cH⟩
 refine ai (ak.pick [2,3,0,4,5,6] rfl) ?_
 refine ai (dy _ _ _ _ _ _ _ _ _ _ _ _ _) ?_
 refine bB hE Tryz.func55 rfl _ rfl ⟨_,(hR.K7 cH).BH Jh hb,rfl,rfl⟩ ah
def Qa(bd:Nat)(A:Ab)(X:HP)(bv:Value)(b:List UInt8)(hv:Vw X bv b.length (bV b))(hb:b.length≤1000000000) :
  aw Tryz.prog 55 [ptr bd,bv] [aG bd A,X] (fun v H=>v = .tuple #[]∧H=[aG bd { A with cu:=b },X]) :=
 fW ae (fun D hR=>Jy bd D A hR X bv b hv hb) (by rintro v H⟨D',hR,rfl,rfl⟩;exact⟨_,⟨rfl,rfl⟩,fD hR _⟩)
end Go.Proofs.YtjpboghdolfekaaGreatDoor
namespace Go.Proofs.YtjpboghdolfekaaGreatDoor
open Go Go.SL
def iD:FW:=⟨1048576,5,4,2,6,2,20,2⟩
def ZK:Nt iD:=⟨by decide,by decide,by decide,by decide,by decide,by decide,by decide,by decide⟩
structure NdX where
 st:Nat
 tb:Nat
 bv:Nat
 kb:Nat
 hb:Nat
 ms:Nat
 mg:Nat
 jb:Nat
 mb:Nat
 tv:Value
 V:VM
 r:Int
 A:Ab
 p:List UInt8
structure aa3(R:Int)(y:NdX):Prop where
 V:AM y.V
 ks:y.V.ks=[]
 r:0≤y.r∧y.r≤R
 s:QS y.A
def LR(nb:Nat)(id:Int)(bd:Nat)(y:NdX):List HP:=[ag nb (cl (mK id iD y.st y.tb y.bv y.kb y.hb (.slice none 0 0) y.ms y.mg false) 131),bX y.bv y.V,au (Value.int .i64) y.mg [],mM y.kb iD.lim iD.jG iD.cN,pX y.hb iD.bJ y.r,ag y.st (cl (dR bd iD.gi y.mb false) 209),aG bd { y.A with cu:=y.p },ag y.tb (cl [ptr y.st,ptr y.jb,y.tv,.bool false] 216),aH 217 1 y.tv ([]:List Tk).length (([]:List Tk).map gn),cD []]
def dD(nb:Nat)(id:Int)(bd:Nat)(R:Int):HP:=fun h=>∃y:NdX,aa3 R y∧Sep (LR nb id bd y) h
def iv(nb:Nat)(id:Int)(bd:Nat)(R:Int):∀h,dD nb id bd R h→∃y:NdX,aa3 R y∧Sep (LR nb id bd y) h:=fun h hs=>hs
def gx(nb:Nat)(id:Int)(bd:Nat)(R:Int)(y:NdX)(hy:aa3 R y)(H:List HP):ak (LR nb id bd y++H) (dD nb id bd R::H) :=
 ak.fold (A:=dD nb id bd R) (B:=LR nb id bd y) fun h hs=>⟨h,sub.refl h,y,hy,hs⟩
def LQ(nb:Nat)(id:Int)(bd:Nat){R R':Int}(hR:R≤R'):∀h,dD nb id bd R h→dD nb id bd R' h:=fun h ⟨y,hy,h1⟩=>⟨y,⟨hy.V,hy.ks,⟨hy.r.1,Int.le_trans hy.r.2 hR⟩,hy.s⟩,h1⟩
def aaZ(bs bd jb:Nat)(q:Int)(mb:Nat)(t:SJ)(F:List HP):ak (l8 bs bd jb q mb [] t::F) (ag bs (cl (dR bd q mb t.1.brk) 209)::au dV mb (eB t.1.cy)::aG bd t.1.A::Md jb bd kZ t.2::F):=by
 unfold l8 p5
 exact ak.cL _ _
def QS.acL{A:Ab}(h:QS A)(p:List UInt8):afM { A with cu:=p }:=by
 obtain⟨room,fs,names,aI,writes,cu,off⟩:=A
 have ho:=h.ha.on
 simp only at ho
 subst ho
 have hv:∀n,n≠kZ→(⟨room,fs,names,aI,writes,p,false⟩:Ab).look n=none:=fun n hn=>by
  have h1:=h.kd n hn
  unfold vw at h1
  cases hl:(⟨room,fs,names,aI,writes,cu,false⟩:Ab).look n with
  | none=>exact hl
  | some f=>rw[hl]at h1;cases h1
 refine⟨fun d=>?_,fun d=>?_,?_⟩
 ·unfold qg
  rw[hv _ (lE kB d)]
  rfl
 ·unfold iy gg
  rw[hv _ (lE kI d)]
  rfl
 ·show lz (⟨room,fs,names,aI,writes,cu,false⟩:Ab)=[]
  unfold lz
  rw[List.filterMap_eq_nil_iff]
  intro n hm
  have h1:=(vD h.ha n).1 hm
  by_cases hp:n=kZ
  ·rw[hp]
   cases hh:gk kI kZ with
   | none=>rfl
   | some d=>exact absurd (y7.1 hh).symm (lE kI d)
  ·rw[h.kd n hp]at h1;cases h1
attribute [local irreducible] J K aw Ends ag aH au bE aW aJ a6 aZ bI aG l8 bX mM pX wh cD dD
def AM.aep(id cj:Int)(h:1≤cj∧cj≤64):AM ⟨⟨id,0,1,0⟩,cj,[]⟩:=⟨by simp,by simp only[List.length_nil];omega,h,by simp only;omega,fun x hx=>by simp at hx⟩
def JZ(X:HP)(hK:lL X)(bd:Nat)(id:Int)(hi:1≤id∧id≤65536)(A:Ab)(hA:QS A)(R:Int)(hR:0≤R) :
  aw Tryz.prog 39 [.int .i64 id,ptr bd,.agg (xC iD).toArray] [aG bd A,X]
  (fun r H=>∃nb:Nat,r = .tuple #[ptr nb,.int .i64 0]∧H=[dD nb id bd R,X]):=by
 refine aw.conv (F5 X hK bd id iD ZK hi A hA) (ak.refl _) ?_
 rintro v H⟨nb,st,tb,bv,kb,hb,ms,mg,jb,mb,tv,t,⟨hq,hs⟩,rfl,rfl⟩
 refine⟨_,⟨nb,rfl,rfl⟩,?_⟩
 have hbr:=hq.brk
 have h1:=aaZ st bd jb iD.gi mb t (wh hb iD.bJ 3 0 0 none []::ag nb (cl (mK id iD st tb bv kb hb (.slice none 0 0) ms mg false) 131)::bX bv ⟨⟨id,0,1,0⟩,iD.cN,[]⟩::au (Value.int .i64) mg []::mM kb iD.lim iD.jG iD.cN::X::kC tb st jb tv [] false)
 have h2:=sd hb iD.bJ 0 0 none [] (by decide) (fun _=>rfl) (ag st (cl (dR bd iD.gi mb t.1.brk) 209)::aG bd t.1.A::ag nb (cl (mK id iD st tb bv kb hb (.slice none 0 0) ms mg false) 131)::bX bv ⟨⟨id,0,1,0⟩,iD.cN,[]⟩::au (Value.int .i64) mg []::mM kb iD.lim iD.jG iD.cN::X::kC tb st jb tv [] false)
 rw[hbr]at h1 h2
 have h3:=gx nb id bd R ⟨st,tb,bv,kb,hb,ms,mg,jb,mb,tv,⟨⟨id,0,1,0⟩,iD.cN,[]⟩,0,t.1.A,t.1.A.cu⟩ ⟨AM.aep id 5 aj,rfl,⟨Int.le_refl _,hR⟩,hs⟩ [X]
 unfold kC at h1 h2 ⊢
 exact ak.trans (H2:=l8 st bd jb iD.gi mb [] t::_) ah (ak.trans h1 (ak.trans ah (ak.trans h2 (ak.trans ah h3))))
def Gi(nb:Nat)(id:Int)(bd:Nat)(R:Int)(last dS cut:Int)(X:HP)(bv:Value)(stay:List UInt8)(hv:Vw X bv stay.length (bV stay))(eR:stay.length≤9223372036854775807)(h1 : -9223372036854775808≤last∧last≤9223372036854775807)(h2 : -9223372036854775808≤dS∧dS≤9223372036854775807)(h3 : -9223372036854775808≤cut∧cut≤9223372036854775807) :
  aw Tryz.prog 54 [ptr bd,.int .i64 last,bv,.int .i64 dS,.int .i64 cut] [dD nb id bd R,X] (fun v H=>∃A,QS A∧H=[aG bd A,X]):=by
 refine aw.opens (iv nb id bd R) ae fun y hy=>?_
 have hs:=hy.s
 refine aw.conv (N3 bd { y.A with cu:=y.p } last dS cut X bv stay hv eR (by show y.A.aI.length≤_;rw[hs.st];show 1≤_;omega) (by show y.A.writes.length≤_;rw[hs.wr];show 0≤_;omega) h1 h2 h3) (by unfold LR;exact ah) ?_
 rintro v H rfl
 rw[hs.rp]
 exact⟨_,⟨_,hs,rfl⟩,ak.refl _⟩
def JT(nb:Nat)(id:Int)(bd:Nat)(R:Int)(X:HP)(bv:Value)(b:List UInt8)(hv:Vw X bv b.length (bV b))(hb:b.length≤1000000000) :
  aw Tryz.prog 55 [ptr bd,bv] [dD nb id bd R,X] (fun v H=>v = .tuple #[]∧H=[dD nb id bd R,X]):=by
 refine aw.opens (iv nb id bd R) ae fun y hy=>?_
 refine aw.conv (aw.frame ([ag nb (cl (mK id iD y.st y.tb y.bv y.kb y.hb (.slice none 0 0) y.ms y.mg false) 131),bX y.bv y.V,au (Value.int .i64) y.mg [],mM y.kb iD.lim iD.jG iD.cN,pX y.hb iD.bJ y.r,ag y.st (cl (dR bd iD.gi y.mb false) 209),ag y.tb (cl [ptr y.st,ptr y.jb,y.tv,.bool false] 216),aH 217 1 y.tv ([]:List Tk).length (([]:List Tk).map gn),cD [] ]) (Qa bd { y.A with cu:=y.p } X bv b hv hb)) (by unfold LR;exact ah) ?_
 rintro v H⟨_,⟨rfl,rfl⟩,rfl⟩
 exact⟨_,⟨rfl,rfl⟩,ak.trans ah (gx nb id bd R { y with p:=b } ⟨hy.V,hy.ks,hy.r,hy.s⟩ [X])⟩
def JK(nb:Nat)(id:Int)(bd:Nat)(R:Int)(hR:R≤1000000)(now seed:Int)(hn:0≤now∧now≤1000000) :
  aw Tryz.prog 43 [ptr nb,.int .i64 now,.int .u64 seed] [dD nb id bd R] (fun u H=>∃a c,u = .tuple #[.slice a 0 c,.int .i64 0]∧H=[dD nb id bd (R+1)]):=by
 refine aw.opens (iv nb id bd R) ae fun y hy=>?_
 refine aw.conv (aw.frame [ag y.tb (cl [ptr y.st,ptr y.jb,y.tv,.bool false] 216),aH 217 1 y.tv ([]:List Tk).length (([]:List Tk).map gn),cD [] ] (JL nb id iD y.st y.tb y.bv y.kb y.hb y.ms y.mg none bd iD.gi y.mb false { y.A with cu:=y.p } (fun p h=>by cases h) y.V hy.V [] List.nodup_nil (by simp) (fun k h=>by cases h) y.r now seed ⟨hy.r.1,Int.le_trans hy.r.2 hR⟩ (by decide) (by decide))) (by unfold LR;exact ak.trans (ak.jO _) ah) ?_
 rintro v H⟨_,⟨z,e,V',r',g',pv',rfl,he,hz,hV,hm,hl,hr,hg,hp,rfl⟩,rfl⟩
 have e0:=he (lX aj)
 have hk:V'.ks=[]:=List.eq_nil_of_length_eq_zero (by rw[hy.ks]at hl;exact Nat.le_zero.1 hl)
 obtain⟨hz1,hz2⟩:=hz hk e0
 obtain rfl:=hp rfl
 have hg':g'=[]:=by rcases hg with h|h <;> exact h
 subst hg' e0
 refine⟨_,⟨z.a,z.c,by rw[show z.n=0 from hz1],rfl⟩,ak.trans ah (gx nb id bd (R+1) { y with V:=V',r:=r' } ⟨hV,hk,⟨Int.le_trans hy.r.1 hr.1,by have:=hy.r.2;show r'≤R+1;omega⟩,hy.s⟩ [])⟩
def DC(nb:Nat)(id:Int)(bd:Nat)(R:Int):aw Tryz.prog 32 [ptr nb] [dD nb id bd R] (fun r H=>∃a c,r = .slice a 0 c∧H=[dD nb id bd R]):=by
 refine aw.opens (iv nb id bd R) ae fun y hy=>?_
 refine aw.conv (aw.frame ([bX y.bv y.V,au (Value.int .i64) y.mg [],mM y.kb iD.lim iD.jG iD.cN,pX y.hb iD.bJ y.r,ag y.tb (cl [ptr y.st,ptr y.jb,y.tv,.bool false] 216),aH 217 1 y.tv ([]:List Tk).length (([]:List Tk).map gn),cD [] ]) (AW nb id iD y.st y.tb y.bv y.kb y.hb y.ms y.mg (.slice none 0 0) false bd iD.gi y.mb false { y.A with cu:=y.p } (hy.s.acL y.p).im)) (by unfold LR;exact ah) ?_
 rintro v H⟨_,⟨a,c,rfl,rfl⟩,rfl⟩
 exact⟨_,⟨a,c,rfl,rfl⟩,ak.trans ah (gx nb id bd R y hy [])⟩
section
variable(nb:Nat)(id:Int)(S:FW)(st tb bv kb hb ms mg:Nat)(pv:Value)(br:Bool)
def Dp(jb:Nat)(tv:Value)(tbr:Bool):aw Tryz.prog 34 [ptr nb] (ag nb (cl (mK id S st tb bv kb hb pv ms mg br) 131)::kC tb st jb tv [] tbr)
  (fun r H=>∃a c,r = .slice a 0 c∧H=ag nb (cl (mK id S st tb bv kb hb pv ms mg br) 131)::kC tb st jb tv [] tbr):=by
 have hbt:=Gm tb st jb tv tbr [] (by simp)
 unfold kC at hbt ⊢
 refine aw.ao Tryz.func34 Tryz.ntmps34 fun G F R hE=>?_
 refine go ?_
 refine az hbt ?_
 rintro r _ rfl
 refine aM 0 rfl ?_
 rintro ra rc rfl
 refine go ?_
 refine ad hE Tryz.func34 zr zr ⟨ra,rc,rfl,rfl⟩
end
def FU(nb:Nat)(id:Int)(bd:Nat)(R:Int):aw Tryz.prog 34 [ptr nb] [dD nb id bd R] (fun r H=>∃a c,r = .slice a 0 c∧H=[dD nb id bd R]):=by
 refine aw.opens (iv nb id bd R) ae fun y hy=>?_
 refine aw.conv (aw.frame ([bX y.bv y.V,au (Value.int .i64) y.mg [],mM y.kb iD.lim iD.jG iD.cN,pX y.hb iD.bJ y.r,ag y.st (cl (dR bd iD.gi y.mb false) 209),aG bd { y.A with cu:=y.p }]) (Dp nb id iD y.st y.tb y.bv y.kb y.hb y.ms y.mg (.slice none 0 0) false y.jb y.tv false)) (by unfold LR kC;exact ah) ?_
 rintro v H⟨_,⟨a,c,rfl,rfl⟩,rfl⟩
 unfold kC
 exact⟨_,⟨a,c,rfl,rfl⟩,ak.trans ah (gx nb id bd R y hy [])⟩
def AX(nb:Nat)(id:Int)(bd:Nat)(R:Int):aw Tryz.prog 36 [ptr nb] [dD nb id bd R] (fun r H=>∃a c,r = .slice a 0 c∧H=[dD nb id bd R]):=by
 refine aw.opens (iv nb id bd R) ae fun y hy=>?_
 have nu:=hy.V.small
 have Pm:=hy.ks
 refine aw.enter Tryz.func36 ae rfl Tryz.ntmps36 zr zr ?_
 intro G F R' hE
 refine ai (H':=[ag nb (cl (mK id iD y.st y.tb y.bv y.kb y.hb (.slice none 0 0) y.ms y.mg false) 131),bX y.bv y.V,au (Value.int .i64) y.mg [],mM y.kb iD.lim iD.jG iD.cN,pX y.hb iD.bJ y.r,ag y.st (cl (dR bd iD.gi y.mb false) 209),aG bd { y.A with cu:=y.p },ag y.tb (cl [ptr y.st,ptr y.jb,y.tv,.bool false] 216),aH 217 1 y.tv ([]:List Tk).length (([]:List Tk).map gn),cD []]++F) (ak.refl _) (go ?_)
 refine az (HQ y.bv y.V hy.V.nd aj) ?_
 rintro r _⟨L,hLl,hLm,hLn,rfl⟩
 rw[Pm]at hLl
 obtain rfl:=List.eq_nil_of_length_eq_zero hLl
 refine aM 0 rfl ?_
 rintro ma mc rfl
 refine go ?_
 have hc:=gx nb id bd R y hy F
 unfold LR at hc
 refine ai (H':=dD nb id bd R::F) (ak.trans ah hc) ?_
 refine ad hE Tryz.func36 zr zr ⟨ma,mc,rfl,rfl⟩
def Ke(bs bd:Nat)(q:Int)(mb:Nat)(A:Ab)(d:Dg)(tJ:iy A d=none):aw Tryz.prog 101 [ptr bs,dV d] [ag bs (cl (dR bd q mb false) 209),aG bd A]
  (fun r H=>r = .int .i64 4∧H=[ag bs (cl (dR bd q mb false) 209),aG bd A]):=by
 have aar:=qq bs bd q mb false A d
 rw[tJ]at aar
 unfold dV at aar ⊢
 refine aw.ao Tryz.func101 Tryz.ntmps101 fun G F R hE=>?_
 refine aN rfl ?_
 refine bC zr zr bq ?_
 intro b2
 refine bC zr zr bq ?_
 intro b3
 refine go ?_
 refine aV (U:=aY) (l:=dC d) 0 zr zr zr zr zr zr ?_
 refine az aar ?_
 rintro _ _⟨rv,rfl,rfl⟩
 unfold Kp
 refine aM 0 rfl ?_
 rintro ra rc rfl
 refine go ?_
 refine aB zr zr zr bq ?_
 intro b5
 refine go ?_
 refine ad hE Tryz.func101 zr zr ⟨rfl,rfl⟩
def Kd(nb:Nat)(id:Int)(bd:Nat)(R:Int)(d:Dg):aw Tryz.prog 57 [ptr nb,dV d] [dD nb id bd R] (fun r H=>r = .int .i64 4∧H=[dD nb id bd R]):=by
 refine aw.opens (iv nb id bd R) ae fun y hy=>?_
 have hd:=Ke y.st bd iD.gi y.mb { y.A with cu:=y.p } d ((hy.s.acL y.p).noI d)
 unfold dV at hd ⊢
 refine aw.enter Tryz.func57 ae rfl Tryz.ntmps57 zr zr ?_
 intro G F R' hE
 refine ai (H':=[ag nb (cl (mK id iD y.st y.tb y.bv y.kb y.hb (.slice none 0 0) y.ms y.mg false) 131),bX y.bv y.V,au (Value.int .i64) y.mg [],mM y.kb iD.lim iD.jG iD.cN,pX y.hb iD.bJ y.r,ag y.st (cl (dR bd iD.gi y.mb false) 209),aG bd { y.A with cu:=y.p },ag y.tb (cl [ptr y.st,ptr y.jb,y.tv,.bool false] 216),aH 217 1 y.tv ([]:List Tk).length (([]:List Tk).map gn),cD []]++F) (ak.refl _) ?_
 refine aN rfl ?_
 refine bC zr zr bq ?_
 intro b3
 refine go ?_
 refine aO (fun w=>Sat G w ([ag b3 (cl (dC d) 35),ag nb (cl (mK id iD y.st y.tb y.bv y.kb y.hb (.slice none 0 0) y.ms y.mg false) 131)])) (cM 0 5 (.act 5 (.st 6 .nil))) rfl ae ae ae dv ?_
 refine go ?_
 refine cm (U:=aY) (l:=dC d) 0 zr zr zr zr zr zr (go ?_)
 refine bP hd ?_
 refine go ?_
 have hc:=gx nb id bd R y hy F
 unfold LR at hc
 refine ai (H':=dD nb id bd R::F) (ak.trans ah hc) ?_
 refine ad hE Tryz.func57 zr zr ⟨rfl,rfl⟩
end Go.Proofs.YtjpboghdolfekaaGreatDoor
namespace Go.Proofs.YtjpboghdolfekaaGreatDoor
open Go Go.SL
attribute [local irreducible] J K aw Ends ag aH au bE aW aJ a6
structure Fl where
 num:Int
 src:Int
 dst:Int
 due:Int
 v:Value
 bs:List UInt8
def wx(x:Fl):List Value:=[.int .i64 x.num,.int .i64 x.src,.int .i64 x.dst,.int .i64 x.due,x.v]
def ze(x:Fl):(wx x).length=5:=rfl
def aa2(W:List Fl):Prop:=∀x∈W,x.v.oneCell'=true
def Jw{x:Fl}(h:x.v.oneCell'=true):∀u∈wx x,u.oneCell'=true:=by
 intro u hu
 simp only[wx,List.mem_cons,List.not_mem_nil,or_false]at hu
 rcases hu with rfl|rfl|rfl|rfl|rfl
 ·rfl
 ·rfl
 ·rfl
 ·rfl
 ·exact h
def aa2.cells{W:List Fl}(h:aa2 W):∀u∈W.flatMap wx,u.oneCell'=true:=by
 intro u hu
 obtain⟨x,hx,hux⟩:=List.mem_flatMap.1 hu
 exact Jw (h x hx) u hux
def xy(A:HP)(v:Value)(W:List Fl)(hv:Vw A v W.length (W.flatMap wx))(hW:aa2 W)(hlen:W.length≤1000000000) :
  aw Tryz.prog 58 [v] [A] (fun r H=>H=[aH 105 5 r W.length (W.flatMap wx),A]):=by
 obtain⟨a,c0,rfl⟩:=hv.shape
 cases a with
 | none =>
  have hb:W=[]:=by
   obtain⟨a,cap,h1,h2|⟨b,o,h2,_⟩⟩:=hv
   ·have:=congrArg List.length h2
    rw[bt ze]at this
    exact List.eq_nil_of_length_eq_zero (by simp at this;omega)
   ·simp only[Value.slice.injEq]at h1;rw[← h1.1]at h2;cases h2
  subst hb
  refine aw.enter Tryz.func58 ae rfl Tryz.ntmps58 zr zr ?_
  intro G F R hR
  refine go ?_
  have he:c0=c0:=rfl
  refine ai (bp 105 5 none _) ?_
  refine aL hR Tryz.func58 rfl _ zr zr (ak.fin [0,1] 0 zr zr)
 | some a =>
  refine aw.enter Tryz.func58 ae rfl Tryz.ntmps58 zr zr ?_
  intro G F R hR
  refine go ?_
  refine aq (cs:=[]) zr zr zr zr zr zr zr zr zr bq ?_
  intro b0
  refine go ?_
  refine aR (eW 105 5 b0 0 0 [] [] _ rfl (Nat.le_refl _) (by simp)) ?_
  refine aU (mm:=W.length) (news:=W.flatMap wx) 0 1 zr zr zr zr zr zr zr zr zr zr zr zr hv (by rw[bt ze];rfl) hW.cells aj (by show _*56≤_;omega) (fun _=>rfl) bq ?_
  intro v'
  have e1:(0:Nat)+W.length=W.length:=by omega
  rw[e1,List.nil_append]
  refine go ?_
  refine aL hR Tryz.func58 rfl _ zr zr (ak.fin [0,1] 0 zr zr)
attribute [local irreducible] aZ bI GI
def Bs(n lo hi:Int):Bool:=decide (lo≤n) && decide (n≤hi)
def mN{n lo hi:Int}(h:lo≤n∧n≤hi):Bs n lo hi=true:=by
 unfold Bs
 rw[decide_eq_true h.1,decide_eq_true h.2]
 rfl
def oq(n lo hi:Int):aw Tryz.prog 63 [.int .i64 n,.int .i64 lo,.int .i64 hi] [] (fun r H=>r = .bool (Bs n lo hi)∧H=[]):=by
 unfold Bs
 refine aw.ao Tryz.func63 Tryz.ntmps63 fun G F R hE=>?_
 refine go ?_
 by_cases h:lo≤n
 ·refine aC 10 ((.bool true)) rfl ((congrArg Value.bool (decide_eq_true aj))) (go ?_)
  ((refine ad hE Tryz.func63 zr zr ⟨by rw[decide_eq_true h];rfl,rfl⟩))
 ·refine aC 10 ((.bool false)) rfl ((congrArg Value.bool (decide_eq_false aj))) (go ?_)
  ((refine ad hE Tryz.func63 zr zr ⟨by rw[decide_eq_false h];rfl,rfl⟩))
def jV(n lo hi:Int):aw Tryz.prog 16 [.int .i64 n,.int .i64 lo,.int .i64 hi] [] (fun r H=>r = .bool (Bs n lo hi)∧H=[]):=by
 unfold Bs
 refine aw.ao Tryz.func16 Tryz.ntmps16 fun G F R hE=>?_
 refine go ?_
 by_cases h:lo≤n
 ·refine aC 10 ((.bool true)) rfl ((congrArg Value.bool (decide_eq_true aj))) (go ?_)
  ((refine ad hE Tryz.func16 zr zr ⟨by rw[decide_eq_true h];rfl,rfl⟩))
 ·refine aC 10 ((.bool false)) rfl ((congrArg Value.bool (decide_eq_false aj))) (go ?_)
  ((refine ad hE Tryz.func16 zr zr ⟨by rw[decide_eq_false h];rfl,rfl⟩))
def jH(tm:Nat):List Value:=[.int .i64 1000,.int .i64 64,.map (some tm)]
def HW:aw Tryz.prog 38 [.int .i64 1000,.int .i64 64] [] (fun r H=>∃tb tm,r = .tuple #[ptr tb,.int .i64 0]∧H=[ag tb (cl (jH tm) 134),au dV tm [] ]):=by
 refine aw.ao Tryz.func38 Tryz.ntmps38 fun G F R hE=>?_
 refine go ?_
 refine aF (oq 1000 1 1000) ?_
 rw[mN aj]
 refine go ?_
 refine aF (oq 64 1 64) ?_
 rw[mN aj]
 refine go ?_
 refine dA rfl bq ?_
 intro tm
 refine aR (ak.fold (B:=[_]) (A:=au dV tm []) (fun h hs=>⟨h,sub.refl h,eX dV tm h (cT hs)⟩)) ?_
 refine go ?_
 refine bC zr zr bq ?_
 intro tb
 refine go ?_
 refine ad hE Tryz.func38 zr zr ⟨tb,tm,rfl,rfl⟩
def Jz(bm:Nat):aw Tryz.prog 243 [.map (some bm)] [] (fun r H=>∃bx,r = .func (.func 366) #[] #[ptr bx]∧H=[ag bx (cl [.map (some bm)] 132)]):=by
 refine aw.ao Tryz.func243 Tryz.ntmps243 fun G F R hE=>?_
 refine go ?_
 refine bC zr zr bq ?_
 intro bx
 refine go ?_
 refine ad hE Tryz.func243 zr zr ⟨bx,rfl,rfl⟩
def FA(bx bm:Nat):HJ 366 [ptr bx] [] [ag bx (cl [.map (some bm)] 132),au dV bm [] ] [au dV bm [] ]:=by
 intro l Lp Inv hy
 refine aw.ao Tryz.func366 Tryz.ntmps366 fun G F R hE=>?_
 refine ai (ak.pick [3,0,2] rfl) (go ?_)
 refine j0 (kv:=dV) (es:=([]:List (Dg × Value))) (U:=aY) 0 zr zr zr zr zr (fun _=>rfl) bq ?_
 intro it
 refine go ?_
 refine ik rfl (go ?_)
 refine nI (kv:=dV) (es:=([]:List (Dg × Value))) 0 rfl Ko.inj zr zr (fun _=>rfl) fE bq ?_ ?_
 ·intro eY
  refine go ?_
  refine ai (ak.head (B:=[au dV bm [] ]) (fun h hs=>by obtain⟨h',s,hm⟩:=gM h hs;exact⟨h',s,di hm⟩)) ?_
  refine bB hE Tryz.func366 rfl _ zr zr ah
 ·intro key v dU
  cases dU
def FQ:aw Tryz.prog 420 [.int .u64 0] [] (fun r H=>r = .int .i64 0∧H=[]):=by
 refine aw.ao Tryz.func420 Tryz.ntmps420 fun G F R hE=>?_
 refine go ?_
 refine nK (U:=aY) zr zr zr zr zr (by decide) (by decide) ?_
 refine aC 22 (.int .u8 0) zr zr (go ?_)
 refine ad hE Tryz.func420 zr zr ⟨rfl,rfl⟩
def Nd:aw Tryz.prog 298 [.int .u64 0] [] (fun r H=>r = .int .i64 0∧H=[]):=by
 refine aw.ao Tryz.func298 Tryz.ntmps298 fun G F R hE=>?_
 refine go ?_
 refine aF FQ ?_
 refine go ?_
 refine ad hE Tryz.func298 zr zr ⟨rfl,rfl⟩
def Mf(a:Option Addr)(c:Nat)(fv:Value):aw Tryz.prog 518 [.slice a 0 c,.int .i64 0,.int .i64 0,fv] [] (fun r H=>H=[]):=by
 refine aw.ao Tryz.func518 Tryz.ntmps518 fun G F R hE=>?_
 refine go ?_
 refine ik rfl (go ?_)
 refine bB hE Tryz.func518 rfl _ zr zr ah
def LC(a:Option Addr)(c:Nat)(fv:Value):aw Tryz.prog 454 [.slice a 0 c,.int .i64 0,.int .i64 0,.int .i64 0,fv] [] (fun r H=>H=[]):=by
 refine aw.ao Tryz.func454 Tryz.ntmps454 fun G F R hE=>?_
 refine go ?_
 refine ik rfl (go ?_)
 refine az (Mf a c fv) ?_
 rintro _ _ rfl
 refine go ?_
 refine aL hE Tryz.func454 rfl _ zr zr ah
def Ed(a:Option Addr)(c:Nat)(fv:Value):aw Tryz.prog 365 [.slice a 0 c,fv] [] (fun r H=>H=[]):=by
 refine aw.ao Tryz.func365 Tryz.ntmps365 fun G F R hE=>?_
 refine go ?_
 refine aF Nd ?_
 refine go ?_
 refine az (LC a c fv) ?_
 rintro _ _ rfl
 refine go ?_
 refine bB hE Tryz.func365 rfl _ zr zr ah
def zP(bx bm:Nat)(fv:Value):aw Tryz.prog 242 [.func (.func 366) #[] #[ptr bx],fv] [ag bx (cl [.map (some bm)] 132),au dV bm [] ]
  (fun r H=>∃a c,r = .slice a 0 c∧H=[au dV bm [] ]):=by
 refine aw.ao Tryz.func242 Tryz.ntmps242 fun G F R hE=>?_
 refine go ?_
 refine az (rQ _ [ptr bx] [] _ _ (by simp) (FA bx bm)) ?_
 rintro r _ rfl
 refine aM 0 rfl ?_
 rintro a c rfl
 refine go ?_
 refine az (Ed a c fv) ?_
 rintro _ _ rfl
 refine go ?_
 refine ad hE Tryz.func242 zr zr ⟨a,c,rfl,rfl⟩
def zJ(tb tm:Nat):aw Tryz.prog 138 [ptr tb] [ag tb (cl (jH tm) 134),au dV tm [] ] (fun r H=>∃a c,r = .slice a 0 c∧H=[ag tb (cl (jH tm) 134),au dV tm [] ]):=by
 refine aw.ao Tryz.func138 Tryz.ntmps138 fun G F R hE=>?_
 refine go ?_
 refine az (Jz tm) ?_
 rintro _ _⟨bx,rfl,rfl⟩
 refine go ?_
 refine az (zP bx tm _) ?_
 rintro _ _⟨a,c,rfl,rfl⟩
 refine go ?_
 refine ad hE Tryz.func138 zr zr ⟨a,c,rfl,rfl⟩
def xG(tb tm:Nat)(now:Int)(hn:0≤now∧now≤1099511627776):aw Tryz.prog 82 [ptr tb,.int .i64 now] [ag tb (cl (jH tm) 134),au dV tm [] ] (fun r H=>r = .tuple #[.int .i64 0,.int .i64 0]∧H=[ag tb (cl (jH tm) 134),au dV tm [] ]):=by
 refine aw.ao Tryz.func82 Tryz.ntmps82 fun G F R hE=>?_
 refine go ?_
 refine aF (oq now 0 1099511627776) ?_
 rw[mN hn]
 refine go ?_
 refine az (zJ tb tm) ?_
 rintro _ _⟨a,c,rfl,rfl⟩
 refine go ?_
 refine ik rfl (go ?_)
 refine ad hE Tryz.func82 zr zr ⟨rfl,rfl⟩
def dm(n:Int)(a:Option Addr)(c:Nat):List Value:=[.int .i64 n,.int .i64 2000,.slice a 0 c,.int .i64 0,.int .i64 0]
def ID(n:Int)(h:1≤n∧n≤65537):aw Tryz.prog 18 [.int .i64 n,.int .i64 2000] [] (fun r H=>∃b,r = .tuple #[ptr b,.int .i64 0]∧H=[ag b (cl (dm n none 0) 92)]):=by
 refine aw.ao Tryz.func18 Tryz.ntmps18 fun G F R hE=>?_
 refine go ?_
 refine aC 8 ((.bool false)) rfl ((congrArg Value.bool (decide_eq_false aj))) (go ?_)
 refine aC 12 ((.bool false)) rfl ((congrArg Value.bool (decide_eq_false aj))) (go ?_)
 refine bC zr zr bq ?_
 intro b
 refine go ?_
 refine ad hE Tryz.func18 zr zr ⟨b,rfl,rfl⟩
section
variable(nb:Nat)(n:Int)(a:Option Addr)(c:Nat)
def vB(i:Int):aw Tryz.prog 47 [ptr nb,.int .i64 i] [ag nb (cl (dm n a c) 92)] (fun r H=>r = .bool false∧H=[ag nb (cl (dm n a c) 92)]):=by
 refine aw.ao Tryz.func47 Tryz.ntmps47 fun G F R hE=>?_
 refine go ?_
 by_cases h:0≤i
 ·refine aC 7 ((.bool true)) rfl ((congrArg Value.bool (decide_eq_true aj))) (go ?_)
  refine ad hE Tryz.func47 zr zr ⟨congrArg Value.bool (decide_eq_false aj),rfl⟩
 ·refine aC 7 ((.bool false)) rfl ((congrArg Value.bool (decide_eq_false aj))) (go ?_)
  refine ad hE Tryz.func47 zr zr ⟨rfl,rfl⟩
def EY(i:Int):aw Tryz.prog 23 [ptr nb,.int .i64 i] [ag nb (cl (dm n a c) 92)] (fun r H=>r = .int .i64 4∧H=[ag nb (cl (dm n a c) 92)]):=by
 refine aw.ao Tryz.func23 Tryz.ntmps23 fun G F R hE=>?_
 refine go ?_
 refine aF (vB nb n a c i) ?_
 refine go ?_
 refine ad hE Tryz.func23 zr zr ⟨rfl,rfl⟩
def Cf(i at_ turn:Int):aw Tryz.prog 24 [ptr nb,.int .i64 i,.int .i64 at_,.int .u8 turn] [ag nb (cl (dm n a c) 92)] (fun r H=>r = .int .i64 4∧H=[ag nb (cl (dm n a c) 92)]):=by
 refine aw.ao Tryz.func24 Tryz.ntmps24 fun G F R hE=>?_
 refine go ?_
 refine aF (vB nb n a c i) ?_
 refine go ?_
 refine ad hE Tryz.func24 zr zr ⟨rfl,rfl⟩
def tA(i due:Int):aw Tryz.prog 95 [ptr nb,.int .i64 i,.int .i64 due] [ag nb (cl (dm n a c) 92)] (fun r H=>r = .int .i64 4∧H=[ag nb (cl (dm n a c) 92)]):=by
 refine aw.ao Tryz.func95 Tryz.ntmps95 fun G F R hE=>?_
 refine go ?_
 refine aF (vB nb n a c i) ?_
 refine go ?_
 refine ad hE Tryz.func95 zr zr ⟨rfl,rfl⟩
def Ah(i due:Int):aw Tryz.prog 49 [ptr nb,.int .i64 i,.int .i64 due] [ag nb (cl (dm n a c) 92)] (fun r H=>r = .int .i64 4∧H=[ag nb (cl (dm n a c) 92)]):=by
 refine aw.ao Tryz.func49 Tryz.ntmps49 fun G F R hE=>?_
 refine go ?_
 refine aF (tA nb n a c i due) ?_
 refine go ?_
 refine ad hE Tryz.func49 zr zr ⟨rfl,rfl⟩
def EZ(i due:Int):aw Tryz.prog 50 [ptr nb,.int .i64 i,.int .i64 due] [ag nb (cl (dm n a c) 92)] (fun r H=>r = .int .i64 4∧H=[ag nb (cl (dm n a c) 92)]):=by
 refine aw.ao Tryz.func50 Tryz.ntmps50 fun G F R hE=>?_
 refine go ?_
 refine aF (tA nb n a c i due) ?_
 refine go ?_
 refine ad hE Tryz.func50 zr zr ⟨rfl,rfl⟩
def Cg(now:Int)(hn:0≤now∧now≤1099511627776):aw Tryz.prog 52 [.int .i64 now] [] (fun r H=>r = .bool true∧H=[]):=by
 refine aw.ao Tryz.func52 Tryz.ntmps52 fun G F R hE=>?_
 refine go ?_
 refine aC 5 ((.bool true)) rfl ((congrArg Value.bool (decide_eq_true aj))) (go ?_)
 refine ad hE Tryz.func52 zr zr ⟨congrArg Value.bool (decide_eq_true aj),rfl⟩
def Bd(fv:Value):aw Tryz.prog 77 [.slice a 0 c,fv] [] (fun r H=>r = .int .i64 (-1)∧H=[]):=by
 refine aw.ao Tryz.func77 Tryz.ntmps77 fun G F R hE=>?_
 refine go ?_
 refine ik rfl (go ?_)
 refine ad hE Tryz.func77 zr zr ⟨rfl,rfl⟩
def IC:aw Tryz.prog 30 [ptr nb] [ag nb (cl (dm n a c) 92)] (fun r H=>∃a' c',r = .slice a' 0 c'∧H=[ag nb (cl (dm n a c) 92)]):=by
 have jF:=xy (ag nb (cl (dm n a c) 92)) (.slice a 0 c) [] (Vw.nil _ a c) (fun x h=>by cases h) (by simp)
 refine aw.ao Tryz.func30 Tryz.ntmps30 fun G F R hE=>?_
 refine go ?_
 refine az jF ?_
 rintro r _ rfl
 refine aM 0 rfl ?_
 rintro a' c' rfl
 refine go ?_
 refine ik rfl (go ?_)
 refine ad hE Tryz.func30 zr zr ⟨a',c',rfl,rfl⟩
def IE(now:Int)(hn:0≤now∧now≤1099511627776):aw Tryz.prog 40 [ptr nb,.int .i64 now] [ag nb (cl (dm n a c) 92)] (fun r H=>∃a1 c1 a2 c2,r = .tuple #[.slice a1 0 c1,.int .i64 0]∧H=[ag nb (cl (dm n a2 c2) 92)]):=by
 have jF:=fun a' c'=>xy (ag nb (cl (dm n a c) 92)) (.slice a' 0 c') [] (Vw.nil _ a' c') (fun x h=>by cases h) (by simp)
 refine aw.ao Tryz.func40 Tryz.ntmps40 fun G F R hE=>?_
 refine aN rfl ?_
 refine bC zr zr bq ?_
 intro b3
 refine go ?_
 refine aF (Cg now hn) ?_
 refine go ?_
 refine aF (Bd a c _) ?_
 refine go ?_
 refine bo (p:=0) (q:=0) zr zr zr zr zr zr zr aj aj (.inr aj) ?_
 refine az (jF (sliceAt a c 0 5) c) ?_
 rintro r _ rfl
 refine aM 0 rfl ?_
 rintro a1 c1 rfl
 refine go ?_
 refine bo (p:=0) (q:=0) zr zr zr zr zr zr zr aj aj (.inl rfl) ?_
 refine az (jF (sliceAt a c 0 5) c) ?_
 rintro r _ rfl
 refine aM 0 rfl ?_
 rintro a2 c2 rfl
 refine go ?_
 refine ad hE Tryz.func40 zr zr ⟨a1,c1,a2,c2,rfl,rfl⟩
end
def iu(tb im bm:Nat):List Value:=[ptr tb,.int .i64 50,.map (some im),.map (some bm)]
def IA:aw Tryz.prog 17 [.int .i64 1000,.int .i64 64,.int .i64 50] [] (fun r H=>∃ob tb tm im bm,r = .tuple #[ptr ob,.int .i64 0]∧H=[ag ob (cl (iu tb im bm) 90),ag tb (cl (jH tm) 134),au dV tm [],au dV im [],au dV bm [] ]):=by
 refine aw.ao Tryz.func17 Tryz.ntmps17 fun G F R hE=>?_
 refine go ?_
 refine az HW ?_
 rintro _ _⟨tb,tm,rfl,rfl⟩
 refine go ?_
 refine dA rfl bq ?_
 intro im
 refine aR (ak.fold (B:=[_]) (A:=au dV im []) (fun h hs=>⟨h,sub.refl h,eX dV im h (cT hs)⟩)) ?_
 refine go ?_
 refine dA rfl bq ?_
 intro bm
 refine aR (ak.fold (B:=[_]) (A:=au dV bm []) (fun h hs=>⟨h,sub.refl h,eX dV bm h (cT hs)⟩)) ?_
 refine go ?_
 refine bC zr zr bq ?_
 intro ob
 refine go ?_
 refine ad hE Tryz.func17 zr zr ⟨ob,tb,tm,im,bm,rfl,rfl⟩
def EK(ob tb tm im bm:Nat)(now:Int)(hn:0≤now∧now≤1099511627776):aw Tryz.prog 42 [ptr ob,.int .i64 now] [ag ob (cl (iu tb im bm) 90),ag tb (cl (jH tm) 134),au dV tm [] ]
  (fun r H=>r = .int .i64 0∧H=[ag ob (cl (iu tb im bm) 90),ag tb (cl (jH tm) 134),au dV tm [] ]):=by
 refine aw.ao Tryz.func42 Tryz.ntmps42 fun G F R hE=>?_
 refine go ?_
 refine aF (xG tb tm now hn) ?_
 refine go ?_
 refine ad hE Tryz.func42 zr zr ⟨rfl,rfl⟩
end Go.Proofs.YtjpboghdolfekaaGreatDoor
namespace Go.Proofs.YtjpboghdolfekaaGreatDoor
open Go Go.SL
structure CT where
 x:Bl
 va:Option Addr
 vn:Nat
 vc:Nat
 wa:Option Addr
 wn:Nat
 wc:Nat
instance:Inhabited CT:=⟨⟨Bl.zero,none,0,0,none,0,0⟩⟩
def pT(c:CT):List Value:=dN c.x++[.slice c.va c.vn c.vc,.slice c.wa c.wn c.wc]
def AB(c:CT):(pT c).length=68:=rfl
def PX(c:CT):∀v∈pT c,v.oneCell'=true:=by
 intro v hv
 unfold pT at hv
 rcases List.mem_append.1 hv with h|h
 ·exact uG [c.x] v (by simpa using h)
 ·simp only[List.mem_cons,List.not_mem_nil,or_false]at h
  rcases h with rfl|rfl <;> rfl
def ctE{l:List CT}{i:Nat}{x:CT}(hx:l[i]?=some x)(q:Nat)(v:Value)(hq:(pT x)[q]?=some v):(l.flatMap pT)[i*68+q]?=some v:=by
 rw[cd AB hx q (by rcases Nat.lt_or_ge q 68 with h|h;exact h;rw[List.getElem?_eq_none (by rw[AB];exact h)]at hq;cases hq)]
 exact hq
def ImP(es:List (Dg × Value)):Prop:=∀d v,cF es d=some v→∃a n c,v = .agg #[.slice a n c]
def Rb(es:List (Dg × Value)):Prop:=∀d v,cF es d=some v→∃c:CT,v = .agg (pT c).toArray
def ImP.set{es:List (Dg × Value)}(h:ImP es)(k:Dg)(a:Option Addr)(n c:Nat):ImP (gT es k (.agg #[.slice a n c])):=fun d v hd=>by
 rw[qk]at hd
 split at hd
 ·exact⟨a,n,c,(Option.some.inj hd).symm⟩
 ·exact h d v hd
def Rb.set{es:List (Dg × Value)}(h:Rb es)(k:Dg)(c:CT):Rb (gT es k (.agg (pT c).toArray)):=fun d v hd=>by
 rw[qk]at hd
 split at hd
 ·exact⟨c,(Option.some.inj hd).symm⟩
 ·exact h d v hd
structure PuS where
 n:Nat
 ct:List CT
 xa:Option Addr
 xc:Nat
 aa:Option Addr
 ac:Nat
def IM{ls:List (List UInt8)}{k:Int}{ct:List CT}{xs:List Bl}(h:(ls.map fun b=>gl b k)=ct.map fun c=>some c.x)(hx:(ls.map fun b=>gl b k)=xs.map some):ct.map CT.x=xs:=by
 rw[hx]at h
 have h1:(ct.map CT.x).map some=xs.map some:=by rw[h,List.map_map];rfl
 exact(List.map_inj_right (fun a b e=>Option.some.inj e)).1 h1
attribute [local irreducible] J K aw Ends ag aH au bE aW aJ a6 aZ bI
def Dn(X:HP)(hK:lL X)(ob tb im bm:Nat)(fV iH:List (Dg × Value))(h1:ImP fV)(h2:Rb iH)(v:Value)(ls:List (List UInt8))(hv:qx X v ls)(hll:ls.length≤100)(hle:∀x∈ls,x.length≤100000)(k:Int) :
    aw Tryz.prog 45 [ptr ob,v,.int .i64 k] [ag ob (cl (iu tb im bm) 90),au dV im fV,au dV bm iH,X]
    (fun r H=>∃(e:Nat) (d:Dg) (wz xZ:List (Dg × Value)),r = .tuple #[dV d,.int .i64 (e:Int)]∧(ImP wz∧Rb xZ∧(e≠0→wz=fV))∧(∀xs:List Bl,(ls.map fun b=>gl b k)=xs.map some→df xs=0→fV=[]→e=0) ∧
      H=[ag ob (cl (iu tb im bm) 90),au dV im wz,au dV bm xZ,X]):=by
  obtain⟨csl,Od,jF,⟨la,lc,rfl,hlc⟩,rU⟩:=hv
  refine aw.ao Tryz.func45 Tryz.ntmps45 fun G F R hE=>?_
  refine aN rfl ?_
  refine aB zr zr zr bq ?_
  intro b6
  refine go ?_
  refine aB zr zr zr bq ?_
  intro b8
  refine go ?_
  refine ai (bp 182 66 none _) ?_
  refine ai (bp 188 68 none _) ?_
  refine bj (fun s:PuS=>s.n=s.ct.length∧s.n≤ls.length∧((ls.take s.n).map fun b=>gl b k)=s.ct.map fun c=>some c.x) (fun s=>ls.length-s.n)
    (fun s=>[(0,ptr ob),(2,.int .i64 k),(6,ptr b6),(8,ptr b8),(9,.slice s.aa s.n s.ac),(24,.slice la ls.length lc),(25,.int .i64 (ls.length:Int)),(26,.int .i64 (s.n:Int))])
    (fun s=>X::ag b6 (cl (dC Dg.zero) 35)::ag b8 (cl [.slice s.xa s.n s.xc] 179)::aH 182 66 (.slice s.xa s.n s.xc) s.n ((s.ct.map CT.x).flatMap dN)::aH 188 68 (.slice s.aa s.n s.ac) s.n (s.ct.flatMap pT)::ag ob (cl (iu tb im bm) 90)::au dV im fV::au dV bm iH::F)
    ⟨0,[],none,0,none,0⟩ ⟨rfl,Nat.zero_le _,rfl⟩ rfl bO ah ?_
  rintro⟨n,ct,xa,xc,aa,ac⟩⟨hn,hcn,xV⟩ ih
  simp only at hn hcn xV
  subst hn
  have Cu:((ct.map CT.x).length:Nat)=ct.length:=List.length_map _
  by_cases cB:ct.length<ls.length
  case pos =>
    obtain⟨b,hb⟩:∃b,ls[ct.length]?=some b:=⟨ls[ct.length],by simp⟩
    have uj:=hle b (List.mem_of_getElem? hb)
    obtain⟨cv,n5,tM⟩:=rU _ b hb
    obtain⟨b1,o1,k1,pF⟩:=Od.some (by intro e;rw[e]at n5;simp at n5)
    simp only[Value.slice.injEq,true_and]at pF
    obtain⟨rfl,rfl⟩:=pF
    obtain⟨ax,kx,rfl,hkx⟩:=tM.2
    have Hg:=N5 X hK _ b tM aj k
    refine go ?_
    ((refine aQ 27 ((.bool true)) rfl ((congrArg Value.bool (decide_eq_true (by simp only;omega)))) ?_))
    (repeat(first|refine eK ?_|refine bD ct.length zr zr zr zr zr zr zr zr cB ?_|(refine aS ?_;refine aP 0 ct.length zr zr zr Od rfl n5 zr zr ?_)))
    cases Z9:gl b k with
    | none =>
      rw[Z9]at Hg
      simp only at Hg
      unfold l7 at Hg
      have jC:∀xs:List Bl,(ls.map fun b=>gl b k)=xs.map some→df xs=0→fV=[]→1=0:=fun xs Bi _ _=>by
        have h3:=congrArg (fun l=>l[ct.length]?) Bi
        simp only[List.getElem?_map,hb,Option.map_some,Z9]at h3
        cases hq:xs[ct.length]? with
        | none=>rw[hq]at h3;cases h3
        | some z=>rw[hq]at h3;cases h3
      refine aF Hg ?_
      refine go ?_
      refine aB zr zr zr bq ?_
      intro b12
      refine go ?_
      refine fY (U:=aY) zr zr zr zr zr (go ?_)
      (refine bh hE ?_;apply a7 (U:=aY) hE Tryz.func45 rfl (ak.refl _);(repeat(first|exact aT.nil|apply aT.tmp rfl|apply aT.agg 2 zr zr zr zr zr));exact⟨1,Dg.zero,fV,iH,rfl,⟨h1,h2,fun _=>rfl⟩,jC,rfl⟩;exact ah)
    | some x =>
    rw[Z9]at Hg
    simp only at Hg
    unfold l7 at Hg
    refine aF Hg ?_
    refine go ?_
    refine aB zr zr zr bq ?_
    intro b12
    refine go ?_
    have ug:∀lf:Option (List Dg),gN b k=lf→lf≠none:=fun lf h e=>by
      subst e
      unfold gl at Z9
      rw[h]at Z9
      cases Z9
    refine az (xd X hK _ b tM aj k) ?_
    rintro _ _ (⟨h0,_⟩|⟨lf,rv,hlf,rfl,rfl⟩)
    · exact absurd rfl (ug _ h0)
    refine aM 0 rfl ?_
    rintro fa fc rfl
    refine go ?_
    refine aV (U:=aY) (l:=dN x) 2 zr zr zr zr zr zr (go ?_)
    refine aq (cs:=dN x) zr zr zr zr zr zr zr zr zr bq ?_
    intro row
    refine aR (H':=ag row (cl (dN x) 182)::aH 182 66 (.slice xa ct.length xc) ct.length ((ct.map CT.x).flatMap dN)::ag b8 (cl [.slice xa ct.length xc] 179)::ag b12 (cl (dN x) 182)::X::ag b6 (cl (dC Dg.zero) 35)::aH 188 68 (.slice aa ct.length ac) ct.length (ct.flatMap pT)::ag ob (cl (iu tb im bm) 90)::au dV im fV::au dV bm iH::F) ah (go ?_)
    refine aU (mm:=1) (news:=dN x) 1 0 zr zr zr zr zr zr zr zr zr zr zr zr (Vw.ag rfl) rfl (fun v hv=>uG [x] v (by simpa using hv)) aj (by show(_+1)*80≤_;omega) (fun _=>rfl) bq ?_
    intro v1
    refine aM 1 rfl ?_
    rintro xa1 xc1 rfl
    refine go ?_
    -- region 11
    refine aO (fun w=>Sat G w ([ag b12 (cl (dN x) 182)])) (cM 0 3 (.st 4 (.act 3 (.st 5 (.act 6 (.act 7 (.st 8 .nil))))))) rfl ae ae ae dv ?_
    refine go ?_
    refine cm (U:=aY) (l:=dN x) 0 zr zr zr zr zr zr (go ?_)
    refine cP (gI X _ b tM.1 aj) ?_
    rintro r _ rfl
    refine aM 0 rfl ?_
    rintro va vc rfl
    refine go ?_
    refine aq (cs:=pT (CT.mk x va b.length vc fa lf.length fc)) zr zr zr zr zr zr zr zr zr (fun _ w hw=>hw.cp ah) ?_
    intro Ik
    refine aR (H':=ag Ik (cl (pT (CT.mk x va b.length vc fa lf.length fc)) 188)::aH 188 68 (.slice aa ct.length ac) ct.length (ct.flatMap pT)::ag b12 (cl (dN x) 182)::X::ag b6 (cl (dC Dg.zero) 35)::ag b8 (cl [.slice xa1 (ct.length+1) xc1] 179)::aH 182 66 (.slice xa1 (ct.length+1) xc1) (ct.length+1) ((ct.map CT.x).flatMap dN++dN x)::ag ob (cl (iu tb im bm) 90)::au dV im fV::au dV bm iH::F) ah (go ?_)
    refine aU (mm:=1) (news:=pT (CT.mk x va b.length vc fa lf.length fc)) 1 0 zr zr zr zr zr zr zr zr zr zr zr zr (Vw.ag rfl) rfl (PX _) aj (by show(_+1)*128≤_;omega) (fun _=>rfl) (fun _ w hw=>hw.cp ah) ?_
    intro v2
    refine aM 1 rfl ?_
    rintro aa1 ac1 rfl
    rw[show(ct.map CT.x).flatMap dN++dN x=((ct++[(CT.mk x va b.length vc fa lf.length fc)]).map CT.x).flatMap dN from by simp,show ct.flatMap pT++pT (CT.mk x va b.length vc fa lf.length fc)=(ct++[(CT.mk x va b.length vc fa lf.length fc)]).flatMap pT from by simp]
    refine go ?_
    refine aK ih (PuS.mk (ct.length+1) (ct++[CT.mk x va b.length vc fa lf.length fc]) xa1 xc1 aa1 ac1) rfl (⟨by simp,by show ct.length+1≤_;omega,by
      show((ls.take (ct.length+1)).map fun b=>gl b k)=_
      rw[List.take_add_one,List.map_append,xV,hb]
      simp[Z9]⟩) (by show ls.length-(ct.length+1)<ls.length-ct.length;omega) bO ah
  case neg =>
    have fR:ct.length=ls.length:=by omega
    rw[fR,List.take_length]at xV
    refine go ?_
    ((refine aQ 27 ((.bool false)) rfl ((congrArg Value.bool (decide_eq_false (by simp only;omega)))) ?_))
    refine go ?_
    refine aR (H':=aH 182 66 (.slice xa ct.length xc) ct.length ((ct.map CT.x).flatMap dN)::X::ag b8 (cl [.slice xa ct.length xc] 179)::ag b6 (cl (dC Dg.zero) 35)::aH 188 68 (.slice aa ct.length ac) ct.length (ct.flatMap pT)::ag ob (cl (iu tb im bm) 90)::au dV im fV::au dV bm iH::F) ah ?_
    refine aV (U:=aY) (l:=[.slice xa ct.length xc]) 2 zr zr zr zr zr zr ?_
    refine eL 0 rfl ?_
    intro dt
    have xP:Vw (Sep [aH 182 66 (.slice xa ct.length xc) ct.length ((ct.map CT.x).flatMap dN),X]) (.slice xa ct.length xc) (ct.map CT.x).length ((ct.map CT.x).flatMap dN):=by
      rw[Cu]
      exact dt.mono (bz (i:=0) rfl)
    have nR:=w9 _ (hK.mono (bz (H:=[aH 182 66 (.slice xa ct.length xc) ct.length ((ct.map CT.x).flatMap dN),X]) (i:=1) rfl)) _ (ct.map CT.x) xP (by rw[Cu];omega)
    unfold Kp dV at nR
    refine aR (ak.bT [_,_] _) ?_
    by_cases Ha:df (ct.map CT.x)=0
    case neg =>
      rw[if_neg Ha]at nR
      have jC:∀xs:List Bl,(ls.map fun b=>gl b k)=xs.map some→df xs=0→fV=[]→df (ct.map CT.x)=0:=fun xs Bi h0 _=>by
        rw[IM xV Bi]
        exact h0
      refine aF nR ?_
      refine aR (ak.cL _ _) (go ?_)
      refine aB zr zr zr bq ?_
      intro Nf
      refine aR (H':=ag Nf (cl (dC Dg.zero) 35)::ag b6 (cl (dC Dg.zero) 35)::X::ag ob (cl (iu tb im bm) 90)::au dV im fV::au dV bm iH::F) ah (go ?_)
      refine aQ 67 ((.bool true)) rfl ((congrArg Value.bool (decide_eq_true aj))) (go ?_)
      refine fY (U:=aY) zr zr zr zr zr (go ?_)
      (refine bh hE ?_;apply a7 (U:=aY) hE Tryz.func45 rfl (ak.refl _);(repeat(first|exact aT.nil|apply aT.tmp rfl|apply aT.agg 1 zr zr zr zr zr));exact⟨df (ct.map CT.x),Dg.zero,fV,iH,rfl,⟨h1,h2,fun _=>rfl⟩,jC,rfl⟩;exact ah)
    case pos =>
    rw[if_pos Ha]at nR
    refine aF nR ?_
    refine aR (ak.cL _ _) ?_
    obtain⟨nm,ae4⟩:∃nm,tz (ct.map CT.x)=nm:=⟨_,rfl⟩
    rw[ae4]
    refine go ?_
    refine aB zr zr zr bq ?_
    intro Nf
    refine aR (H':=ag Nf (cl (dC Dg.zero) 35)::X::ag b6 (cl (dC Dg.zero) 35)::ag b8 (cl [.slice xa ct.length xc] 179)::aH 188 68 (.slice aa ct.length ac) ct.length (ct.flatMap pT)::ag ob (cl (iu tb im bm) 90)::au dV im fV::au dV bm iH::F) ah (go ?_)
    -- region 16
    refine aO (fun w=>Sat G w ([ag Nf (cl (dC nm) 35),ag ob (cl (iu tb im bm) 90),au dV im fV])) (cM 0 9 (.act 9 (.act 10 (.st 11 .nil)))) rfl ae ae ae dv ?_
    refine go ?_
    refine cm (U:=aY) (l:=dC nm) 0 zr zr zr zr zr zr ?_
    refine hX (es:=fV) (key:=nm) rfl Ko zr zr zr zr zr zr zr (fun w hw=>hw.jt (i:=2) rfl) ?_
    cases CE:cF fV nm with
    | some z =>
      obtain⟨za,zn,zc,rfl⟩:=h1 _ _ CE
      refine go ?_
      refine aB zr zr zr (fun _ w hw=>hw.cp ah) ?_
      intro b18
      refine go ?_
      (refine aX ?_;(refine bG 0 dv zr zr zr zr zr zr zr zr zr ?_))
      refine aR (H':=ag b18 (cl [.slice za zn zc] 179)::ag Nf (cl (dC nm) 35)::ag b6 (cl (dC Dg.zero) 35)::X::ag ob (cl (iu tb im bm) 90)::au dV im fV::au dV bm iH::F) ah (go ?_)
      refine aV (U:=aY) (l:=dC nm) 1 zr zr zr zr zr zr (go ?_)
      (refine bh hE ?_;apply a7 (U:=aY) hE Tryz.func45 rfl (ak.refl _);(repeat(first|exact aT.nil|apply aT.tmp rfl|apply aT.agg 2 zr zr zr zr zr));exact⟨0,nm,fV,iH,rfl,⟨h1,h2,fun _=>rfl⟩,fun _ _ _ _=>rfl,rfl⟩;exact ah)
    | none =>
    refine go ?_
    refine aB zr zr zr (fun _ w hw=>hw.cp ah) ?_
    intro b18
    refine go ?_
    (refine aX ?_;(refine bG 0 dv zr zr zr zr zr zr zr zr zr ?_))
    refine aR (H':=ag Nf (cl (dC nm) 35)::ag b6 (cl (dC Dg.zero) 35)::ag b8 (cl [.slice xa ct.length xc] 179)::X::aH 188 68 (.slice aa ct.length ac) ct.length (ct.flatMap pT)::ag ob (cl (iu tb im bm) 90)::au dV im fV::au dV bm iH::F) ah (go ?_)
    refine Dx (U:=aY) (es:=fV) 6 zr zr zr zr zr (go ?_)
    by_cases tL:64≤fV.length
    · refine aQ 86 ((.bool true)) rfl ((congrArg Value.bool (decide_eq_true aj))) (go ?_)
      refine fY (U:=aY) zr zr zr zr zr (go ?_)
      have jC:∀xs:List Bl,(ls.map fun b=>gl b k)=xs.map some→df xs=0→fV=[]→3=0:=fun xs Bi h0 he=>by
        rw[he]at tL
        simp at tL
      (refine bh hE ?_;apply a7 (U:=aY) hE Tryz.func45 rfl (ak.refl _);(repeat(first|exact aT.nil|apply aT.tmp rfl|apply aT.agg 1 zr zr zr zr zr));exact⟨3,Dg.zero,fV,iH,rfl,⟨h1,h2,fun _=>rfl⟩,jC,rfl⟩;exact ah)
    refine aQ 86 ((.bool false)) rfl ((congrArg Value.bool (decide_eq_false aj))) (go ?_)
    -- region 21
    refine aO (fun w=>Sat G w ([ag Nf (cl (dC nm) 35),ag b8 (cl [.slice xa ct.length xc] 179),ag ob (cl (iu tb im bm) 90)])) (cM 0 6 (.act 6 .nil)) rfl ae ae ae dv ?_
    refine go ?_
    refine cm (U:=aY) (l:=dC nm) 0 zr zr zr zr zr zr (go ?_)
    refine cm (U:=aY) (l:=[.slice xa ct.length xc]) 1 zr zr zr zr zr zr (go ?_)
    refine du (es:=fV) (key:=nm) (v := .agg #[.slice xa ct.length xc]) 6 Ko (fun _ _=>by exact trivial) zr zr zr zr zr zr zr zr ?_
    refine go ?_
    refine bj (fun y:Nat × List (Dg × Value)=>y.1≤ct.length∧Rb y.2) (fun y=>ct.length-y.1)
      (fun y=>[(0,ptr ob),(6,ptr b6),(8,ptr b8),(16,ptr Nf),(94,.slice aa ct.length ac),(95,.int .i64 (ct.length:Int)),(96,.int .i64 (y.1:Int))])
      (fun y=>ag b6 (cl (dC Dg.zero) 35)::ag Nf (cl (dC nm) 35)::aH 188 68 (.slice aa ct.length ac) ct.length (ct.flatMap pT)::ag ob (cl (iu tb im bm) 90)::au dV im (gT fV nm (.agg #[.slice xa ct.length xc]))::au dV bm y.2::X::F) (0,iH) ⟨Nat.zero_le _,h2⟩ rfl bO ah ?_
    rintro⟨i,es⟩⟨hi,lC⟩ ih
    simp only at hi lC
    refine go ?_
    by_cases I6:i<ct.length
    case neg =>
      ((refine aQ 97 ((.bool false)) rfl ((congrArg Value.bool (decide_eq_false (by simp only;omega)))) ?_))
      refine go ?_
      refine aV (U:=aY) (l:=dC nm) 1 zr zr zr zr zr zr (go ?_)
      (refine bh hE ?_;apply a7 (U:=aY) hE Tryz.func45 rfl (ak.refl _);(repeat(first|exact aT.nil|apply aT.tmp rfl|apply aT.agg 0 zr zr zr zr zr));exact⟨0,nm,_,es,rfl,⟨h1.set nm xa ct.length xc,lC,fun h=>absurd rfl h⟩,fun _ _ _ _=>rfl,rfl⟩;exact ah)
    case pos =>
    ((refine aQ 97 ((.bool true)) rfl ((congrArg Value.bool (decide_eq_true (by simp only;omega)))) ?_))
    obtain⟨c,hc⟩:∃c,ct[i]?=some c:=⟨ct[i],by simp⟩
    refine dz 2 rfl ?_
    intro hvc
    obtain⟨ob2,oo2,af2,eR⟩:=hvc.some (by rw[← List.length_pos_iff,bt AB];omega)
    simp only[Value.slice.injEq]at eR
    obtain⟨rfl,_,rfl⟩:=eR
    refine go ?_
    refine bM i 68 zr zr zr zr zr zr zr zr I6 ?_
    refine bZ (U:=aY) (es:=pT c) 2 (i*68) zr zr zr hvc rfl (ctE hc) zr zr zr ?_
    refine aB zr zr zr bq ?_
    intro b21
    refine go ?_
    refine ai (H':=ag b21 (cl (pT c) 188)::au dV bm es::ag b6 (cl (dC Dg.zero) 35)::ag Nf (cl (dC nm) 35)::aH 188 68 (.slice (some ⟨ob2,oo2,none⟩) ct.length ac) ct.length (ct.flatMap pT)::ag ob (cl (iu tb im bm) 90)::au dV im (gT fV nm (.agg #[.slice xa ct.length xc]))::X::F) ah ?_
    -- region 25
    refine aO (fun w=>Sat G w ([ag b21 (cl (pT c) 188),ag ob (cl (iu tb im bm) 90),au dV bm es])) (cM 0 11 (.act 11 (.act 12 (.st 13 .nil)))) rfl ae ae ae dv ?_
    refine go ?_
    refine cE (U:=aY) (cs:=dC c.x.d) 0 zr zr zr zr zr zr ?_
    refine hX (es:=es) (key:=c.x.d) rfl Ko zr zr zr zr zr zr zr (fun w hw=>hw.jt (i:=2) rfl) ?_
    cases ae':cF es c.x.d with
    | some z =>
      obtain⟨c2,rfl⟩:=lC _ _ ae'
      refine go ?_
      refine aB zr zr zr (fun _ w hw=>hw.cp ah) ?_
      intro b22
      refine go ?_
      refine eb (U:=aY) (l':=pT c2) 0 dv zr zr zr zr (by simp[pT]) zr zr zr zr (go ?_)
      refine aK ih (i+1,es) rfl (⟨by show i+1≤_;omega,lC⟩) (by show ct.length-(i+1)<ct.length-i;omega) bO ah
    | none =>
      refine go ?_
      refine aB zr zr zr (fun _ w hw=>hw.cp ah) ?_
      intro b22
      refine go ?_
      (refine aX ?_;(refine bG 0 dv zr zr zr zr zr zr zr zr zr ?_))
      refine aR (H':=ag b21 (cl (pT c) 188)::au dV bm es::ag b6 (cl (dC Dg.zero) 35)::ag Nf (cl (dC nm) 35)::aH 188 68 (.slice (some ⟨ob2,oo2,none⟩) ct.length ac) ct.length (ct.flatMap pT)::ag ob (cl (iu tb im bm) 90)::au dV im (gT fV nm (.agg #[.slice xa ct.length xc]))::X::F) ah (go ?_)
      -- region 27
      refine aO (fun w=>Sat G w ([ag b21 (cl (pT c) 188),ag ob (cl (iu tb im bm) 90)])) (cM 0 8 (.act 8 .nil)) rfl ae ae ae dv ?_
      refine go ?_
      refine cE (U:=aY) (cs:=dC c.x.d) 0 zr zr zr zr zr zr (go ?_)
      refine cm (U:=aY) (l:=pT c) 0 zr zr zr zr zr zr (go ?_)
      refine du (es:=es) (key:=c.x.d) (v := .agg (pT c).toArray) 1 Ko (fun _ _=>by exact trivial) zr zr zr zr zr zr zr zr ?_
      refine go ?_
      refine aK ih (i+1,gT es c.x.d (.agg (pT c).toArray)) rfl (⟨by show i+1≤_;omega,lC.set c.x.d c⟩) (by show ct.length-(i+1)<ct.length-i;omega) bO ah
end Go.Proofs.YtjpboghdolfekaaGreatDoor
namespace Go.Proofs.YtjpboghdolfekaaGreatDoor
open Go Go.SL
structure PL where
 id:Int
 bd:Nat
 nb:Nat
def Bg(x:PL):List Value:=[ptr x.bd,ptr x.nb]
def bF(n:Nat)(L:List PL):List Value:=[.pointer none,.pointer none]++(L.flatMap Bg++List.replicate (2*(n-L.length)) (.pointer none))
def iI(n:Nat)(ob nt:Nat)(pa:Option Addr)(pc:Nat)(now:Int)(na:Option Addr)(nn nc:Nat):List Value := .int .i64 (n:Int) :: .int .i64 16777216 :: .int .i64 1::(xC iD++[ptr ob,ptr nt,.slice pa (n+1) pc,.int .i64 now,.slice na nn nc])
structure MeX where
 ob:Nat
 tb:Nat
 tm:Nat
 im:Nat
 bm:Nat
 nt:Nat
 wa:Option Addr
 wc:Nat
 pa:Option Addr
 pc:Nat
 na:Option Addr
 nc:Nat
 ds:List Dg
 fV:List (Dg × Value)
 iH:List (Dg × Value)
 L:List PL
structure aa4(n:Nat)(k:Nat)(y:MeX):Prop where
 ll:y.L.length=n
 pid:∀(i:Nat) (x:PL),y.L[i]?=some x→x.id=(i:Int)+1
 e1:ImP y.fV
 e2:Rb y.iH
 nk:y.ds.length=k
 nil:k=0→y.fV=[]
def bQ(R:Int)(x:PL):HP:=dD x.nb x.id x.bd R
def vG(mb n:Nat)(now R:Int)(y:MeX):List HP:=[ag mb (cl (iI n y.ob y.nt y.pa y.pc now y.na y.ds.length y.nc) 57),ag y.ob (cl (iu y.tb y.im y.bm) 90),ag y.tb (cl (jH y.tm) 134),au dV y.tm [],au dV y.im y.fV,au dV y.bm y.iH,ag y.nt (cl (dm ((n:Int)+1+8) y.wa y.wc) 92),aH 67 2 (.slice y.pa (n+1) y.pc) (n+1) (bF n y.L),aH 35 32 (.slice y.na y.ds.length y.nc) y.ds.length (y.ds.flatMap dC),aJ (bQ R) y.L]
def bN(mb n:Nat)(now R:Int)(k:Nat):HP:=fun h=>∃y:MeX,aa4 n k y∧Sep (vG mb n now R y) h
def dw(mb n:Nat)(now R:Int)(k:Nat):∀h,bN mb n now R k h→∃y:MeX,aa4 n k y∧Sep (vG mb n now R y) h:=fun h hs=>hs
def ck(mb n:Nat)(now R:Int)(k:Nat)(y:MeX)(hy:aa4 n k y)(H:List HP):ak (vG mb n now R y++H) (bN mb n now R k::H) :=
 ak.fold (A:=bN mb n now R k) (B:=vG mb n now R y) fun h hs=>⟨h,sub.refl h,y,hy,hs⟩
attribute [local irreducible] J K aw Ends ag aH au bE aW aJ a6 aZ bI aG bN
def qN(x:PL):(Bg x).length=2:=rfl
def aaR(L:List PL)(j:Nat)(x:PL)(h:L[j]?=some x)(q:Nat)(hq:q<2):(L.flatMap Bg)[j*2+q]?=(Bg x)[q]? := cd qN h q hq
def iw{n:Nat}{L:List PL}{j:Nat}{x:PL}(h:L[j]?=some x)(q:Nat)(hq:q<2):(bF n L)[(j+1)*2+q]?=(Bg x)[q]? := by
 have hj:j<L.length:=(List.getElem?_eq_some_iff.1 h).1
 have hl:(L.flatMap Bg).length=L.length*2:=bt qN L
 unfold bF
 rw[List.getElem?_append_right (by simp only[List.length_cons,List.length_nil];omega),List.getElem?_append_left (by simp only[List.length_cons,List.length_nil,hl];omega),← aaR L j x h q hq]
 congr 1
 simp only[List.length_cons,List.length_nil]
 omega
section
variable(mb n:Nat)(now R:Int)(k:Nat)
def IK:aw Tryz.prog 14 [ptr mb] [bN mb n now R k] (fun r H=>r = .int .i64 now∧H=[bN mb n now R k]):=by
 refine aw.opens (dw mb n now R k) ae fun y hy=>?_
 refine aw.enter Tryz.func14 ae rfl Tryz.ntmps14 zr zr ?_
 intro G F R' hE
 refine ai (H':=[ag mb (cl (iI n y.ob y.nt y.pa y.pc now y.na y.ds.length y.nc) 57),ag y.ob (cl (iu y.tb y.im y.bm) 90),ag y.tb (cl (jH y.tm) 134),au dV y.tm [],au dV y.im y.fV,au dV y.bm y.iH,ag y.nt (cl (dm ((n:Int)+1+8) y.wa y.wc) 92),aH 67 2 (.slice y.pa (n+1) y.pc) (n+1) (bF n y.L),aH 35 32 (.slice y.na y.ds.length y.nc) y.ds.length (y.ds.flatMap dC),aJ (bQ R) y.L]++F) (ak.refl _) (go ?_)
 (have hc:=ck mb n now R k y hy F;unfold vG at hc;refine ai (H':=bN mb n now R k::F) (ak.trans ah hc) ?_)
 refine ad hE Tryz.func14 zr zr ⟨rfl,rfl⟩
def IJ:aw Tryz.prog 9 [ptr mb] [bN mb n now R k] (fun r H=>r = .int .i64 0∧H=[bN mb n now R k]):=by
 refine aw.opens (dw mb n now R k) ae fun y hy=>?_
 refine aw.enter Tryz.func9 ae rfl Tryz.ntmps9 zr zr ?_
 intro G F R' hE
 refine ai (H':=[ag mb (cl (iI n y.ob y.nt y.pa y.pc now y.na y.ds.length y.nc) 57),ag y.ob (cl (iu y.tb y.im y.bm) 90),ag y.tb (cl (jH y.tm) 134),au dV y.tm [],au dV y.im y.fV,au dV y.bm y.iH,ag y.nt (cl (dm ((n:Int)+1+8) y.wa y.wc) 92),aH 67 2 (.slice y.pa (n+1) y.pc) (n+1) (bF n y.L),aH 35 32 (.slice y.na y.ds.length y.nc) y.ds.length (y.ds.flatMap dC),aJ (bQ R) y.L]++F) (ak.refl _) (go ?_)
 refine az (IC y.nt _ y.wa y.wc) ?_
 rintro _ _⟨a',c',rfl,rfl⟩
 refine go ?_
 (have hc:=ck mb n now R k y hy F;unfold vG at hc;refine ai (H':=bN mb n now R k::F) (ak.trans ah hc) ?_)
 refine ad hE Tryz.func9 zr zr ⟨rfl,rfl⟩
def Cj(hk:k≤1000):aw Tryz.prog 13 [ptr mb] [bN mb n now R k] (fun r H=>∃a c,r = .slice a k c∧H=[bN mb n now R k]):=by
 refine aw.opens (dw mb n now R k) ae fun y hy=>?_
 have QI:=hy.nk
 refine aw.enter Tryz.func13 ae rfl Tryz.ntmps13 zr zr ?_
 intro G F R' hE
 refine ai (H':=[ag mb (cl (iI n y.ob y.nt y.pa y.pc now y.na y.ds.length y.nc) 57),ag y.ob (cl (iu y.tb y.im y.bm) 90),ag y.tb (cl (jH y.tm) 134),au dV y.tm [],au dV y.im y.fV,au dV y.bm y.iH,ag y.nt (cl (dm ((n:Int)+1+8) y.wa y.wc) 92),aH 67 2 (.slice y.pa (n+1) y.pc) (n+1) (bF n y.L),aH 35 32 (.slice y.na y.ds.length y.nc) y.ds.length (y.ds.flatMap dC),aJ (bQ R) y.L]++F) (ak.refl _) ?_
 refine dz 8 rfl ?_
 intro dt
 refine go ?_
 refine az (xx _ _ y.ds dt aj) ?_
 rintro r _ rfl
 rw[QI]
 refine aM 0 rfl ?_
 rintro a c rfl
 rw[← QI]
 refine go ?_
 (have hc:=ck mb n now R k y hy F;unfold vG at hc;refine ai (H':=bN mb n now R k::F) (ak.trans ah hc) ?_)
 rw[QI]at *
 refine ad hE Tryz.func13 zr zr ⟨a,c,rfl,rfl⟩
def CR(ob nt:Nat)(pa:Option Addr)(pc:Nat)(na:Option Addr)(nn nc:Nat)(i:Int):aw Tryz.prog 26 [ptr mb,.int .i64 i] [ag mb (cl (iI n ob nt pa pc now na nn nc) 57)] (fun r H=>r = .bool (Bs i 1 n)∧H=[ag mb (cl (iI n ob nt pa pc now na nn nc) 57)]):=by
 refine aw.enter Tryz.func26 ae rfl Tryz.ntmps26 zr zr ?_
 intro G F R' hE
 refine go ?_
 refine aF (jV i 1 n) ?_
 refine go ?_
 refine ad hE Tryz.func26 zr zr ⟨rfl,rfl⟩
def Av(i:Int):aw Tryz.prog 26 [ptr mb,.int .i64 i] [bN mb n now R k] (fun r H=>r = .bool (Bs i 1 n)∧H=[bN mb n now R k]):=by
 refine aw.opens (dw mb n now R k) ae fun y hy=>?_
 refine aw.conv (aw.frame ([ag y.ob (cl (iu y.tb y.im y.bm) 90),ag y.tb (cl (jH y.tm) 134),au dV y.tm [],au dV y.im y.fV,au dV y.bm y.iH,ag y.nt (cl (dm ((n:Int)+1+8) y.wa y.wc) 92),aH 67 2 (.slice y.pa (n+1) y.pc) (n+1) (bF n y.L),aH 35 32 (.slice y.na y.ds.length y.nc) y.ds.length (y.ds.flatMap dC),aJ (bQ R) y.L]) (CR mb n now y.ob y.nt y.pa y.pc y.na y.ds.length y.nc i)) (by unfold vG;exact ah) ?_
 rintro v H⟨_,⟨rfl,rfl⟩,rfl⟩
 exact⟨_,⟨rfl,rfl⟩,ak.trans ah (ck mb n now R k y hy [])⟩
def qb(ob nt:Nat)(pa:Option Addr)(pc:Nat)(na:Option Addr)(nn nc:Nat)(many:Int)(hn:0≤now∧now≤1000000)(hm:0≤many∧many≤1000000):aw Tryz.prog 28 [ptr mb,.int .i64 many] [ag mb (cl (iI n ob nt pa pc now na nn nc) 57)] (fun r H=>r = .int .i64 (now+many)∧H=[ag mb (cl (iI n ob nt pa pc now na nn nc) 57)]):=by
 refine aw.enter Tryz.func28 ae rfl Tryz.ntmps28 zr zr ?_
 intro G F R' hE
 refine go ?_
 refine ad hE Tryz.func28 zr zr ⟨congrArg (Value.int .i64) aj,rfl⟩
def AN(i:Int):aw Tryz.prog 15 [ptr mb,.int .i64 i] [bN mb n now R k] (fun r H=>r = .bool (Bs i 1 n)∧H=[bN mb n now R k]):=by
 refine aw.opens (dw mb n now R k) ae fun y hy=>?_
 refine aw.enter Tryz.func15 ae rfl Tryz.ntmps15 zr zr ?_
 intro G F R' hE
 refine ai (H':=[ag mb (cl (iI n y.ob y.nt y.pa y.pc now y.na y.ds.length y.nc) 57),ag y.ob (cl (iu y.tb y.im y.bm) 90),ag y.tb (cl (jH y.tm) 134),au dV y.tm [],au dV y.im y.fV,au dV y.bm y.iH,ag y.nt (cl (dm ((n:Int)+1+8) y.wa y.wc) 92),aH 67 2 (.slice y.pa (n+1) y.pc) (n+1) (bF n y.L),aH 35 32 (.slice y.na y.ds.length y.nc) y.ds.length (y.ds.flatMap dC),aJ (bQ R) y.L]++F) (ak.refl _) ?_
 refine jP 7 rfl aj ?_
 intro xb xo xc he _ _ ud
 simp only[Value.slice.injEq,true_and]at he
 obtain⟨Ap,rfl⟩:=he
 rw[Ap]at ud ⊢
 refine go ?_
 refine aF (CR mb n now y.ob y.nt _ y.pc y.na y.ds.length y.nc i) ?_
 by_cases hi:1≤i∧i≤n
 case neg =>
  have hf:Bs i 1 n=false:=by
   unfold Bs
   rw[Bool.and_eq_false_iff,decide_eq_false_iff_not,decide_eq_false_iff_not]
   omega
  rw[hf]at hE ⊢
  refine go ?_
  rw[← Ap]
  (have hc:=ck mb n now R k y hy F;unfold vG at hc;refine ai (H':=bN mb n now R k::F) (ak.trans ah hc) ?_)
  refine ad hE Tryz.func15 zr zr ⟨rfl,rfl⟩
 case pos =>
 obtain⟨j,rfl⟩:∃j:Nat,i=((j+1:Nat):Int):=⟨(i-1).toNat,aj⟩
 have hj:j<y.L.length:=by have:=hy.ll;omega
 obtain⟨x,hx⟩:∃x,y.L[j]?=some x:=⟨y.L[j],by simp⟩
 have CP:(bF n y.L)[(j+1)*2+1]?=some (ptr x.nb):=iw hx 1 aj
 rw[mN hi]at hE ⊢
 (repeat(first|refine eK ?_|refine bM (j+1) 2 zr zr zr zr zr zr zr zr aj ?_|(refine aS ?_;refine aP 7 ((j+1)*2+1) zr zr zr ud rfl CP zr zr ?_)))
 rw[← Ap]
 (have hc:=ck mb n now R k y hy F;unfold vG at hc;refine ai (H':=bN mb n now R k::F) (ak.trans ah hc) ?_)
 refine ad hE Tryz.func15 zr zr ⟨rfl,rfl⟩
def HY(i:Int)(hi:1≤i∧i≤n)(g:FuncId)(hg:∀nb id bd,aw Tryz.prog g [ptr nb] [dD nb id bd R] (fun r H=>∃a c,r = .slice a 0 c∧H=[dD nb id bd R])) :
  aw Tryz.prog 31 [ptr mb,.int .i64 i,.func (.func g) #[] #[] ] [bN mb n now R k] (fun r H=>∃a c,r = .slice a 0 c∧H=[bN mb n now R k]):=by
 refine aw.enter Tryz.func31 ae rfl Tryz.ntmps31 zr zr ?_
 intro G F R' hE
 refine go ?_
 refine aF (AN mb n now R k i) ?_
 rw[mN hi]
 refine rW ?_
 refine jY zr zr ?_
 refine cG (dw mb n now R k) ?_
 rintro y hy
 refine ai (H':=[ag mb (cl (iI n y.ob y.nt y.pa y.pc now y.na y.ds.length y.nc) 57),ag y.ob (cl (iu y.tb y.im y.bm) 90),ag y.tb (cl (jH y.tm) 134),au dV y.tm [],au dV y.im y.fV,au dV y.bm y.iH,ag y.nt (cl (dm ((n:Int)+1+8) y.wa y.wc) 92),aH 67 2 (.slice y.pa (n+1) y.pc) (n+1) (bF n y.L),aH 35 32 (.slice y.na y.ds.length y.nc) y.ds.length (y.ds.flatMap dC),aJ (bQ R) y.L]++F) (ak.refl _) ?_
 refine jP 7 rfl aj ?_
 intro xb xo xc he _ _ ud
 simp only[Value.slice.injEq,true_and]at he
 obtain⟨Ap,rfl⟩:=he
 rw[Ap]at ud ⊢
 obtain⟨j,rfl⟩:∃j:Nat,i=((j+1:Nat):Int):=⟨(i-1).toNat,aj⟩
 have hj:j<y.L.length:=by have:=hy.ll;omega
 obtain⟨x,hx⟩:∃x,y.L[j]?=some x:=⟨y.L[j],by simp⟩
 have CP:(bF n y.L)[(j+1)*2+1]?=some (ptr x.nb):=iw hx 1 aj
 (repeat(first|refine eK ?_|refine bM (j+1) 2 zr zr zr zr zr zr zr zr aj ?_|(refine aS ?_;refine aP 7 ((j+1)*2+1) zr zr zr ud rfl CP zr zr ?_)))
 refine aR (ak.trans (H2:=aJ (bQ R) y.L::([ag mb (cl (iI n y.ob y.nt (some ⟨xb,xo,none⟩) y.pc now y.na y.ds.length y.nc) 57),ag y.ob (cl (iu y.tb y.im y.bm) 90),ag y.tb (cl (jH y.tm) 134),au dV y.tm [],au dV y.im y.fV,au dV y.bm y.iH,ag y.nt (cl (dm ((n:Int)+1+8) y.wa y.wc) 92),aH 67 2 (.slice (some ⟨xb,xo,none⟩) (n+1) y.pc) (n+1) (bF n y.L),aH 35 32 (.slice y.na y.ds.length y.nc) y.ds.length (y.ds.flatMap dC)]++F)) ah (dF (bQ R) hx _)) ?_
 refine il zr zr zr zr (hg x.nb x.id x.bd) ah ?_ iM
 rintro _ _⟨ra,rc,rfl,rfl⟩
 refine aR (gp (bQ R) hx _) (go ?_)
 rw[← Ap]
 (have hc:=ck mb n now R k y hy F;unfold vG at hc;refine ai (H':=bN mb n now R k::F) (ak.trans ah hc) ?_)
 refine ad hE Tryz.func31 zr zr ⟨ra,rc,rfl,rfl⟩
def HZ(i:Int)(hi:1≤i∧i≤n)(g:FuncId)(hg:∀nb id bd,aw Tryz.prog g [ptr nb] [dD nb id bd R] (fun r H=>∃a c,r = .slice a 0 c∧H=[dD nb id bd R])) :
  aw Tryz.prog 33 [ptr mb,.int .i64 i,.func (.func g) #[] #[] ] [bN mb n now R k] (fun r H=>∃a c,r = .slice a 0 c∧H=[bN mb n now R k]):=by
 refine aw.enter Tryz.func33 ae rfl Tryz.ntmps33 zr zr ?_
 intro G F R' hE
 refine go ?_
 refine aF (AN mb n now R k i) ?_
 rw[mN hi]
 refine rW ?_
 refine jY zr zr ?_
 refine cG (dw mb n now R k) ?_
 rintro y hy
 refine ai (H':=[ag mb (cl (iI n y.ob y.nt y.pa y.pc now y.na y.ds.length y.nc) 57),ag y.ob (cl (iu y.tb y.im y.bm) 90),ag y.tb (cl (jH y.tm) 134),au dV y.tm [],au dV y.im y.fV,au dV y.bm y.iH,ag y.nt (cl (dm ((n:Int)+1+8) y.wa y.wc) 92),aH 67 2 (.slice y.pa (n+1) y.pc) (n+1) (bF n y.L),aH 35 32 (.slice y.na y.ds.length y.nc) y.ds.length (y.ds.flatMap dC),aJ (bQ R) y.L]++F) (ak.refl _) ?_
 refine jP 7 rfl aj ?_
 intro xb xo xc he _ _ ud
 simp only[Value.slice.injEq,true_and]at he
 obtain⟨Ap,rfl⟩:=he
 rw[Ap]at ud ⊢
 obtain⟨j,rfl⟩:∃j:Nat,i=((j+1:Nat):Int):=⟨(i-1).toNat,aj⟩
 have hj:j<y.L.length:=by have:=hy.ll;omega
 obtain⟨x,hx⟩:∃x,y.L[j]?=some x:=⟨y.L[j],by simp⟩
 have CP:(bF n y.L)[(j+1)*2+1]?=some (ptr x.nb):=iw hx 1 aj
 (repeat(first|refine eK ?_|refine bM (j+1) 2 zr zr zr zr zr zr zr zr aj ?_|(refine aS ?_;refine aP 7 ((j+1)*2+1) zr zr zr ud rfl CP zr zr ?_)))
 refine aR (ak.trans (H2:=aJ (bQ R) y.L::([ag mb (cl (iI n y.ob y.nt (some ⟨xb,xo,none⟩) y.pc now y.na y.ds.length y.nc) 57),ag y.ob (cl (iu y.tb y.im y.bm) 90),ag y.tb (cl (jH y.tm) 134),au dV y.tm [],au dV y.im y.fV,au dV y.bm y.iH,ag y.nt (cl (dm ((n:Int)+1+8) y.wa y.wc) 92),aH 67 2 (.slice (some ⟨xb,xo,none⟩) (n+1) y.pc) (n+1) (bF n y.L),aH 35 32 (.slice y.na y.ds.length y.nc) y.ds.length (y.ds.flatMap dC)]++F)) ah (dF (bQ R) hx _)) ?_
 refine il zr zr zr zr (hg x.nb x.id x.bd) ah ?_ iM
 rintro _ _⟨ra,rc,rfl,rfl⟩
 refine aR (gp (bQ R) hx _) (go ?_)
 rw[← Ap]
 (have hc:=ck mb n now R k y hy F;unfold vG at hc;refine ai (H':=bN mb n now R k::F) (ak.trans ah hc) ?_)
 refine ad hE Tryz.func33 zr zr ⟨ra,rc,rfl,rfl⟩
def HX(i:Int)(hi:1≤i∧i≤n)(g:FuncId)(hg:∀nb id bd,aw Tryz.prog g [ptr nb] [dD nb id bd R] (fun r H=>∃a c,r = .slice a 0 c∧H=[dD nb id bd R])) :
  aw Tryz.prog 35 [ptr mb,.int .i64 i,.func (.func g) #[] #[] ] [bN mb n now R k] (fun r H=>∃a c,r = .slice a 0 c∧H=[bN mb n now R k]):=by
 refine aw.enter Tryz.func35 ae rfl Tryz.ntmps35 zr zr ?_
 intro G F R' hE
 refine go ?_
 refine aF (AN mb n now R k i) ?_
 rw[mN hi]
 refine rW ?_
 refine jY zr zr ?_
 refine cG (dw mb n now R k) ?_
 rintro y hy
 refine ai (H':=[ag mb (cl (iI n y.ob y.nt y.pa y.pc now y.na y.ds.length y.nc) 57),ag y.ob (cl (iu y.tb y.im y.bm) 90),ag y.tb (cl (jH y.tm) 134),au dV y.tm [],au dV y.im y.fV,au dV y.bm y.iH,ag y.nt (cl (dm ((n:Int)+1+8) y.wa y.wc) 92),aH 67 2 (.slice y.pa (n+1) y.pc) (n+1) (bF n y.L),aH 35 32 (.slice y.na y.ds.length y.nc) y.ds.length (y.ds.flatMap dC),aJ (bQ R) y.L]++F) (ak.refl _) ?_
 refine jP 7 rfl aj ?_
 intro xb xo xc he _ _ ud
 simp only[Value.slice.injEq,true_and]at he
 obtain⟨Ap,rfl⟩:=he
 rw[Ap]at ud ⊢
 obtain⟨j,rfl⟩:∃j:Nat,i=((j+1:Nat):Int):=⟨(i-1).toNat,aj⟩
 have hj:j<y.L.length:=by have:=hy.ll;omega
 obtain⟨x,hx⟩:∃x,y.L[j]?=some x:=⟨y.L[j],by simp⟩
 have CP:(bF n y.L)[(j+1)*2+1]?=some (ptr x.nb):=iw hx 1 aj
 (repeat(first|refine eK ?_|refine bM (j+1) 2 zr zr zr zr zr zr zr zr aj ?_|(refine aS ?_;refine aP 7 ((j+1)*2+1) zr zr zr ud rfl CP zr zr ?_)))
 refine aR (ak.trans (H2:=aJ (bQ R) y.L::([ag mb (cl (iI n y.ob y.nt (some ⟨xb,xo,none⟩) y.pc now y.na y.ds.length y.nc) 57),ag y.ob (cl (iu y.tb y.im y.bm) 90),ag y.tb (cl (jH y.tm) 134),au dV y.tm [],au dV y.im y.fV,au dV y.bm y.iH,ag y.nt (cl (dm ((n:Int)+1+8) y.wa y.wc) 92),aH 67 2 (.slice (some ⟨xb,xo,none⟩) (n+1) y.pc) (n+1) (bF n y.L),aH 35 32 (.slice y.na y.ds.length y.nc) y.ds.length (y.ds.flatMap dC)]++F)) ah (dF (bQ R) hx _)) ?_
 refine il zr zr zr zr (hg x.nb x.id x.bd) ah ?_ iM
 rintro _ _⟨ra,rc,rfl,rfl⟩
 refine aR (gp (bQ R) hx _) (go ?_)
 rw[← Ap]
 (have hc:=ck mb n now R k y hy F;unfold vG at hc;refine ai (H':=bN mb n now R k::F) (ak.trans ah hc) ?_)
 refine ad hE Tryz.func35 zr zr ⟨ra,rc,rfl,rfl⟩
def tB(i:Int)(hi:1≤i∧i≤n):aw Tryz.prog 10 [ptr mb,.int .i64 i] [bN mb n now R k] (fun r H=>∃a c,r = .slice a 0 c∧H=[bN mb n now R k]):=by
 refine aw.enter Tryz.func10 ae rfl Tryz.ntmps10 zr zr ?_
 intro G F R' hE
 refine go ?_
 refine az (HY mb n now R k i hi _ (fun nb id bd=>DC nb id bd R)) ?_
 rintro _ _⟨a,c,rfl,rfl⟩
 refine go ?_
 refine ad hE Tryz.func10 zr zr ⟨a,c,rfl,rfl⟩
def vH(i:Int)(hi:1≤i∧i≤n):aw Tryz.prog 11 [ptr mb,.int .i64 i] [bN mb n now R k] (fun r H=>∃a c,r = .slice a 0 c∧H=[bN mb n now R k]):=by
 refine aw.enter Tryz.func11 ae rfl Tryz.ntmps11 zr zr ?_
 intro G F R' hE
 refine go ?_
 refine az (HZ mb n now R k i hi _ (fun nb id bd=>FU nb id bd R)) ?_
 rintro _ _⟨a,c,rfl,rfl⟩
 refine go ?_
 refine ad hE Tryz.func11 zr zr ⟨a,c,rfl,rfl⟩
def qU(i:Int)(hi:1≤i∧i≤n):aw Tryz.prog 12 [ptr mb,.int .i64 i] [bN mb n now R k] (fun r H=>∃a c,r = .slice a 0 c∧H=[bN mb n now R k]):=by
 refine aw.enter Tryz.func12 ae rfl Tryz.ntmps12 zr zr ?_
 intro G F R' hE
 refine go ?_
 refine az (HX mb n now R k i hi _ (fun nb id bd=>AX nb id bd R)) ?_
 rintro _ _⟨a,c,rfl,rfl⟩
 refine go ?_
 refine ad hE Tryz.func12 zr zr ⟨a,c,rfl,rfl⟩
end
end Go.Proofs.YtjpboghdolfekaaGreatDoor
namespace Go.SL
open Go Go.RowKit Go.ChangeShapes Go.WideShapes
section
variable{P:Program}{H:Type}{enc:TypeId × Value→H}{W:World}{base:Nat}{spare:Nat→Bool}{held:Bool}
theorem yM{α:Type}[Inhabited α]{t e:TypeId}(ht:P.underlying t=some (.slice e))(g:α→List Value)(s:Nat)(hs0:0<s)(hs:∀x,(g x).length=s)(hc:P.cellsOf e=s)(Q:α→Prop)(kK:∀(fuel:Nat) (cs:List Value) (x:DataW H × List MemPlace),DataW.trod enc P W base spare held fuel e cs=some x→∃y,cs=g y∧Q y){fuel:Nat}{cs:List Value}{x:DataW H × List MemPlace}(h:DataW.trod enc P W base spare held fuel t cs=some x):∃(l:List α) (a:Option Addr) (c:Nat),cs=[.slice a l.length c]∧Vw (old W) (.slice a l.length c) l.length (l.flatMap g)∧(∀x∈l,Q x)∧l.length≤9223372036854775807:=by
 have hmx:maxLen=9223372036854775807:=by decide
 rcases Go.Deep.open_slice ht h with⟨jy,_⟩|⟨a,len,cap,m,n,D,Pl,jy,hb,hl,hm,hmm,_,hx⟩
 ·subst jy
  exact⟨[],none,0,rfl,⟨none,0,rfl,.inl rfl⟩,by simp,by simp⟩
 ·subst jy
  have uh:len≤m:=by rw[hmm];split <;> omega
  have Cv:∀i,i<len→∃y:α,(∀k,k<s→W.cell? (a.add (i*s+k))=(g y)[k]?)∧Q y:=fun i hi=>by
   obtain⟨wH,h1,h2⟩:=hx i aj
   obtain⟨y,rfl,hy⟩:=kK _ _ _ h2
   rw[hc]at h1
   obtain⟨_,_,h3⟩:=World.cells?_some h1
   refine⟨y,fun k hk=>?_,hy⟩
   rw[← h3 k hk,Addr.add_add]
  obtain⟨f,hfy⟩:=Go.Deep.choose_lt Cv
  refine⟨(List.range len).map f,some a,cap,by simp,⟨some a,cap,by simp,?_⟩,?_,by simp;omega⟩
  ·rcases Nat.eq_zero_or_pos len with h0|h0
   ·grind
   ·right
    obtain⟨b,o,spot⟩:=a
    have DV:spot=none:=by
     have:=(hfy 0 h0).1 0 hs0
     rw[Nat.zero_mul,Nat.zero_add,List.getElem?_eq_getElem (by rw[hs];exact hs0)]at this
     simpa[Addr.add]using World.cell?_spot (this.trans rfl)
    subst DV
    refine⟨b,o,rfl,fun h ho j c hj=>?_⟩
    have Ff:j<len*s:=by
     rcases Nat.lt_or_ge j (len*s)with h|h
     ·exact h
     ·rw[List.getElem?_eq_none (by rw[bt hs];simpa using h)]at hj;cases hj
    have hd:j/s<len:=Nat.div_lt_of_lt_mul (by rw[Nat.mul_comm];exact Ff)
    have hk:j%s<s:=Nat.mod_lt _ hs0
    have hjj:j/s*s+j%s=j:=by rw[Nat.mul_comm];exact Nat.div_add_mod _ _
    have h1:=cd hs (l:=(List.range len).map f) (i:=j/s) (x:=f (j/s)) (by simp[hd]) (j%s) hk
    rw[hjj,hj]at h1
    have h2:=(hfy _ hd).1 _ hk
    rw[hjj,Addr.add_eq]at h2
    grind [lY]
  grind
inductive lK(enc:TypeId × Value→H)(P:Program)(W:World)(base:Nat)(spare:Nat→Bool)(held:Bool)(n:Nat):List TypeId→List Value→Prop where
 | nil:lK enc P W base spare held n [] []
 | cons {t:TypeId} {ts:List TypeId} {cs rest:List Value} {x:DataW H × List MemPlace} (h:DataW.trod enc P W base spare held n t cs=some x) (hr:lK enc P W base spare held n ts rest):lK enc P W base spare held n (t::ts) (cs++rest)
def Iz(P:Program):Nat→List TypeId→List Nat
 | _,[]=>[]
 | o,t::ts=>o::Iz P (o+P.cellsOf t) ts
theorem B6{t:TypeId}{fs:Array Field}(ht:P.underlying t=some (.struct fs))(ho:fs.toList.map Field.offset=Iz P 0 (fs.toList.map Field.type))(hn:P.cellsOf t=(fs.toList.map fun f:Field=>P.cellsOf f.type).sum){fuel:Nat}{cs:List Value}{x:DataW H × List MemPlace}(h:DataW.trod enc P W base spare held fuel t cs=some x):∃n,lK enc P W base spare held n (fs.toList.map Field.type) cs:=by
 obtain⟨xs,n,_,_,hlen,Cu,hf⟩:=DataW.trod_struct ht h
 refine⟨n,?_⟩
 have key:∀(l:List Field) (o k:Nat) (cs:List Value),cs.length=(l.map fun f:Field=>P.cellsOf f.type).sum→l.map Field.offset=Iz P o (l.map Field.type) →
   (∀(j:Nat) (f:Field),l[j]?=some f→∃y,DataW.trod enc P W base spare held n f.type ((cs.drop (f.offset-o)).take (P.cellsOf f.type))=some y)→lK enc P W base spare held n (l.map Field.type) cs:=by
  intro l
  induction l with
  | nil=>intro o k cs hl _ _;simp at hl;subst hl;exact .nil
  | cons f l ih =>
   intro o k cs hl iS eY
   simp only[List.map_cons,List.sum_cons]at hl
   simp only[List.map_cons,Iz,List.cons.injEq]at iS
   obtain⟨h1,h2⟩:=iS
   obtain⟨y,hy⟩:=eY 0 f rfl
   rw[h1,Nat.sub_self,List.drop_zero]at hy
   have cH:=ih (o+P.cellsOf f.type) 0 (cs.drop (P.cellsOf f.type)) (by rw[List.length_drop];omega) h2 (fun j f' hj=>by
    obtain⟨y',hy'⟩:=eY (j+1) f' (by simpa using hj)
    have eN:o+P.cellsOf f.type≤f'.offset:=by
     have dU:f'.offset∈Iz P (o+P.cellsOf f.type) (l.map Field.type):=by rw[← h2];exact List.mem_map.2 ⟨f',List.mem_of_getElem? hj,rfl⟩
     have afN:∀(ts:List TypeId) (p q:Nat),q∈Iz P p ts→p≤q:=by
      intro ts
      induction ts with
      | nil=>intro p q hq;cases hq
      | cons t ts ih=>intro p q hq;rcases List.mem_cons.1 hq with rfl|hq;exact Nat.le_refl _;have:=ih _ _ hq;omega
     grind
    refine⟨y',?_⟩
    rw[List.drop_drop,show P.cellsOf f.type+(f'.offset-(o+P.cellsOf f.type))=f'.offset-o from by omega]
    exact hy')
   have:=lK.cons hy cH
   simp_all
 refine key fs.toList 0 0 cs (by rw[hlen,hn]) ho fun j f hj=>?_
 grind
def lK.inv{n:Nat}{t:TypeId}{ts:List TypeId}{cs:List Value}(h:lK enc P W base spare held n (t::ts) cs):∃c0 rest x,cs=c0++rest∧DataW.trod enc P W base spare held n t c0=some x∧lK enc P W base spare held n ts rest:=by
 cases h with
 | cons h hr=>exact⟨_,_,_,rfl,h,hr⟩
def lK.aet{n:Nat}{cs:List Value}(h:lK enc P W base spare held n [] cs):cs=[]:=by cases h;rfl
theorem lK.int{n:Nat}{t:TypeId}{ts:List TypeId}{cs:List Value}{k:IntKind}(h:lK enc P W base spare held n (t::ts) cs)(ht:P.underlying t=some (.int k)):∃(z:Int) (rest:List Value),cs = .int k z::rest∧(Lit.int k z).wf=true∧lK enc P W base spare held n ts rest:=by
 obtain⟨c0,rest,x,rfl,h0,hr⟩:=h.inv
 obtain⟨z,rfl,_,hw⟩:=DataW.trod_int ht h0
 grind
end
end Go.SL
namespace Go.Proofs.YtjpboghdolfekaaGreatDoor
open Go Go.SL Go.RowKit Go.ChangeShapes Go.WideShapes
section
variable{H:Type}{enc:TypeId × Value→H}{W:World}{base:Nat}{spare:Nat→Bool}{held:Bool}
def M0:Tryz.prog.cellsOf 35=32:=by kernel_rfl
def KN:Tryz.prog.cellsOf 5=1:=by kernel_rfl
theorem OO(fuel:Nat)(cs:List Value)(x:DataW H × List MemPlace)(h:DataW.trod enc Tryz.prog W base spare held fuel 35 cs=some x):∃d:Dg,cs=dC d:=by
 obtain⟨xs,m,_,_,hlen,Cu,hf⟩:=DataW.trod_array Tryz.underlying35 h
 rw[M0]at hlen
 have key:∀i,i<32→∃t:UInt8,cs[i]?=some (u8 t):=fun i hi=>by
  have h1:=hf i hi
  obtain⟨y,hy⟩:∃y,xs[i]?=some y:=⟨xs[i]' (by rw[Cu];exact hi),by simp⟩
  rw[hy,KN,Nat.mul_one]at h1
  obtain⟨z,r,_,w⟩:=DataW.trod_int Tryz.underlying5 h1
  have hw:0≤z∧z<256:=by
   have hw:=w
   simp only[Lit.wf,Bool.and_eq_true,decide_eq_true_eq]at hw
   have e1:IntKind.u8.min=0:=by decide
   have e2:IntKind.u8.max=255:=by decide
   omega
  obtain⟨t,ht⟩:=HT hw.1 hw.2
  refine⟨t,?_⟩
  rw[← ht]
  have h2:=congrArg (fun l:List Value=>l[0]?) r
  grind
 obtain⟨f,hfy⟩:=Go.Deep.choose_lt key
 refine⟨⟨(List.range 32).map f,by simp⟩,?_⟩
 rw[eF]
 apply List.ext_getElem?
 grind [bV]
instance:Inhabited Bl:=⟨Bl.zero⟩
def B9(fuel:Nat)(cs:List Value)(x:DataW H × List MemPlace)(h:DataW.trod enc Tryz.prog W base spare held fuel 37 cs=some x):∃(bs:List UInt8) (a:Option Addr) (c:Nat),cs=[.slice a bs.length c]∧bs.length≤9223372036854775807∧fb (old W) (.slice a bs.length c) bs:=by
 have hmx:maxLen=9223372036854775807:=by decide
 rcases open_ints Tryz.underlying37 Tryz.underlying5 ae h with⟨jy,_⟩|⟨x,l,c,zs,jy,_,hl,hm,hz,_,dq,hwz⟩
 ·subst jy
  exact⟨[],none,0,rfl,by simp,Cc W,none,0,rfl,Nat.le_refl _⟩
 ·subst jy
  obtain⟨bs,h1,h2⟩:=wN (len:=l) (cap:=c) (by split at hz <;> omega) dq hwz
  subst h1
  exact⟨bs,some x,c,rfl,aj,h2,_,c,rfl,hl⟩
end
end Go.Proofs.YtjpboghdolfekaaGreatDoor
namespace Go.Proofs.YtjpboghdolfekaaGreatDoor
open Go Go.SL Go.RowKit Go.ChangeShapes Go.WideShapes
structure EV where
 d:Int
 node:Int
 i:Int
 n:Int
 turn:Int
 h:Dg
 la:Option Addr
 lc:Nat
 l:List (List UInt8)
 ba:Option Addr
 bc:Nat
 b:List UInt8
 seed:Int
def lZ(s:EV):List Value:=[.int .i64 s.d,.int .i64 s.node,.int .i64 s.i,.int .i64 s.n,.int .u8 s.turn]++(dC s.h++[.slice s.la s.l.length s.lc,.slice s.ba s.b.length s.bc,.int .u64 s.seed])
def rj(s:EV):(lZ s).length=40:=rfl
structure yg(X:HP)(s:EV):Prop where
 d:SL.i64 s.d
 node:SL.i64 s.node
 i:SL.i64 s.i
 n:SL.i64 s.n
 turn:0≤s.turn∧s.turn≤255
 l:qx X (.slice s.la s.l.length s.lc) s.l
 ll:s.l.length≤9223372036854775807
 le:∀x∈s.l,x.length≤9223372036854775807
 b:fb X (.slice s.ba s.b.length s.bc) s.b
 bl:s.b.length≤9223372036854775807
def xu(X:HP)(v:Value)(l:List EV):Prop:=Vw X v l.length (l.flatMap lZ)∧l.length≤9223372036854775807∧∀s∈l,yg X s
def Rg{z:Int}(h:(Lit.int .u8 z).wf=true):0≤z∧z≤255:=by
 simp only[Lit.wf,Bool.and_eq_true,decide_eq_true_eq]at h
 have e1:IntKind.u8.min=0:=by decide
 have e2:IntKind.u8.max=255:=by decide
 simp_all
instance:Inhabited EV:=⟨⟨0,0,0,0,0,Dg.zero,none,0,[],none,0,[],0⟩⟩
section
variable{H:Type}{enc:TypeId × Value→H}{W:World}{base:Nat}{spare:Nat→Bool}{held:Bool}
structure EBE where
 a:Option Addr
 c:Nat
 bs:List UInt8
instance:Inhabited EBE:=⟨⟨none,0,[]⟩⟩
def aaN(x:EBE):List Value:=[.slice x.a x.bs.length x.c]
def NF(X:HP)(v:Value)(l:List (List UInt8)):Prop:=qx X v l∧l.length≤9223372036854775807∧∀x∈l,x.length≤9223372036854775807
def LL(fuel:Nat)(cs:List Value)(x:DataW H × List MemPlace)(h:DataW.trod enc Tryz.prog W base spare held fuel 37 cs=some x):∃y:EBE,cs=aaN y∧(y.bs.length≤9223372036854775807∧fb (old W) (.slice y.a y.bs.length y.c) y.bs):=by
 have hmx:maxLen=9223372036854775807:=by decide
 rcases open_ints Tryz.underlying37 Tryz.underlying5 ae h with⟨jy,_⟩|⟨x,l,c,zs,jy,_,hl,hm,hz,_,dq,hwz⟩
 ·subst jy
  exact⟨⟨none,0,[]⟩,rfl,by simp,Cc W,none,0,rfl,Nat.le_refl _⟩
 ·subst jy
  obtain⟨bs,h1,h2⟩:=wN (len:=l) (cap:=c) (by split at hz <;> omega) dq hwz
  subst h1
  exact⟨⟨some x,c,bs⟩,rfl,by simp only;omega,h2,_,c,rfl,hl⟩
def qQ{fuel:Nat}{v:Value}{x:DataW H × List MemPlace}(h:DataW.trod enc Tryz.prog W base spare held fuel 36 [v]=some x):∃l:List (List UInt8),NF (old W) v l:=by
 obtain⟨l,a,c,jy,h1,h2,h3⟩:=yM Tryz.underlying36 aaN 1 aj (fun _=>rfl) ae (fun y:EBE=>y.bs.length≤9223372036854775807∧fb (old W) (.slice y.a y.bs.length y.c) y.bs) LL h
 simp only[List.cons.injEq,and_true]at jy
 subst jy
 have fF:l.length≤c:=by
  rcases Go.Deep.open_slice Tryz.underlying36 h with⟨jy,_⟩|⟨a2,len,cap,m,n,D,Pl,jy,hb,hl,hm,hmm,_,hx⟩
  ·simp only[List.cons.injEq,and_true,Value.slice.injEq]at jy;omega
  ·simp only[List.cons.injEq,and_true,Value.slice.injEq]at jy;omega
 have hf:l.flatMap aaN=l.map fun y=>Value.slice y.a y.bs.length y.c:=by
  clear h1 h2 h3 h fF
  induction l with
  | nil=>rfl
  | cons y l ih=>rw[List.flatMap_cons,ih];rfl
 refine⟨l.map EBE.bs,⟨l.map fun y=>Value.slice y.a y.bs.length y.c,?_,by simp,⟨a,c,by simp,by simpa using fF⟩,fun i z hz=>?_⟩,by simpa using h3,fun z hz=>?_⟩
 ·rw[List.length_map,← hf];exact h1
 ·rw[List.getElem?_map]at hz
  cases hy:l[i]? with
  | none=>rw[hy]at hz;cases hz
  | some y =>
   rw[hy]at hz
   cases hz
   exact⟨_,by rw[List.getElem?_map,hy];rfl,(h2 y (List.mem_of_getElem? hy)).2⟩
 ·obtain⟨y,hy,rfl⟩:=List.mem_map.1 hz
  exact(h2 y hy).1
def B7(fuel:Nat)(cs:List Value)(x:DataW H × List MemPlace)(h:DataW.trod enc Tryz.prog W base spare held fuel 36 cs=some x):∃(v:Value) (l:List (List UInt8)),cs=[v]∧NF (old W) v l:=by
 rcases Go.Deep.open_slice Tryz.underlying36 h with⟨jy,_⟩|⟨a2,len,cap,m,n,D,Pl,jy,_⟩
 ·subst jy
  obtain⟨l,hl⟩:=qQ h
  exact⟨_,l,rfl,hl⟩
 ·subst jy
  obtain⟨l,hl⟩:=qQ h
  exact⟨_,l,rfl,hl⟩
def EI(fuel:Nat)(cs:List Value)(x:DataW H × List MemPlace)(h:DataW.trod enc Tryz.prog W base spare held fuel 40 cs=some x):∃y:EV,cs=lZ y∧yg (old W) y:=by
 obtain⟨n,hp⟩:=B6 (Tryz.underlying40:_=some (TypeDesc.struct _)) ae ae h
 obtain⟨z0,r0,rfl,w0,hp⟩:=hp.int Tryz.underlying3
 obtain⟨z1,r1,rfl,w1,hp⟩:=hp.int Tryz.underlying3
 obtain⟨z2,r2,rfl,w2,hp⟩:=hp.int Tryz.underlying3
 obtain⟨z3,r3,rfl,w3,hp⟩:=hp.int Tryz.underlying3
 obtain⟨z4,r4,rfl,w4,hp⟩:=hp.int Tryz.underlying5
 obtain⟨c5,r5,x5,rfl,h5,hp⟩:=hp.inv
 obtain⟨c6,r6,x6,rfl,h6,hp⟩:=hp.inv
 obtain⟨c7,r7,x7,rfl,h7,hp⟩:=hp.inv
 obtain⟨z8,r8,rfl,w8,hp⟩:=hp.int Tryz.underlying38
 have:=hp.aet
 subst this
 obtain⟨d,rfl⟩:=OO _ _ _ h5
 obtain⟨v,l,rfl,hl,qZ,hl3⟩:=B7 _ _ _ h6
 obtain⟨b,ba,bc,rfl,pH,pR⟩:=B9 _ _ _ h7
 have MB:=hl
 obtain⟨_,_,_,⟨a,c,rfl,_⟩,_⟩:=MB
 exact⟨⟨z0,z1,z2,z3,z4,d,a,c,l,ba,bc,b,z8⟩,by simp[lZ],pq w0,pq w1,pq w2,pq w3,Rg w4,hl,qZ,hl3,pR,pH⟩
def B8{fuel:Nat}{v:Value}{x:DataW H × List MemPlace}(h:DataW.trod enc Tryz.prog W base spare held fuel 22 [v]=some x):∃l:List EV,xu (old W) v l:=by
 obtain⟨l,a,c,jy,h1,h2,h3⟩:=yM Tryz.underlying22 lZ 40 aj rj ae (yg (old W)) EI h
 simp only[List.cons.injEq,and_true]at jy
 subst jy
 exact⟨l,h1,h3,h2⟩
end
def AA{l:List EV}{i:Nat}{s:EV}(h:l[i]?=some s)(q:Nat)(hq:q<40):(l.flatMap lZ)[i*40+q]?=(lZ s)[q]? := cd rj h q hq
end Go.Proofs.YtjpboghdolfekaaGreatDoor
namespace Go.Proofs.YtjpboghdolfekaaGreatDoor
open Go Go.SL
attribute [local irreducible] J K aw Ends ag aH au bE aW aJ a6 aZ bI aG bN dD
def zp(X:HP)(hK:lL X)(mb n ob nt xb xo pc:Nat)(now:Int)(na:Option Addr)(nn nc:Nat)(cs:List Value)(j:Nat)(hj:j+1≤n)(hn:n≤16)(bd:Nat)(jF:cs.length=(n+1)*2)(hc:cs[(j+1)*2+0]?=some (ptr bd))(A:Ab)(hA:QS A)(R:Int)(hR:0≤R) :
  aw Tryz.prog 20 [ptr mb,.int .i64 ((j+1:Nat):Int)] [ag mb (cl (iI n ob nt (some ⟨xb,xo,none⟩) pc now na nn nc) 57),aH 67 2 (.slice (some ⟨xb,xo,none⟩) (n+1) pc) (n+1) cs,aG bd A,X]
  (fun r H=>∃nb:Nat,r = .int .i64 0∧H=[ag mb (cl (iI n ob nt (some ⟨xb,xo,none⟩) pc now na nn nc) 57),aH 67 2 (.slice (some ⟨xb,xo,none⟩) (n+1) pc) (n+1) (cs.set ((j+1)*2+1) (ptr nb)),dD nb ((j:Int)+1) bd R,X]):=by
 have I2:=JZ X hK bd ((j+1:Nat):Int) aj A hA R hR
 refine aw.enter Tryz.func20 ae rfl Tryz.ntmps20 zr zr ?_
 intro G F R' hE
 refine dz 1 rfl ?_
 intro ud
 (repeat(first|refine eK ?_|refine bM (j+1) 2 zr zr zr zr zr zr zr zr aj ?_))
 refine aO (fun w=>Sat G w ([ag mb (cl (iI n ob nt (some ⟨xb,xo,none⟩) pc now na nn nc) 57)])) (cM 0 5 (cM 6 5 (.act 5 (.act 11 (cM 12 5 (.act 17 (.st 18 .nil))))))) rfl ae ae ae dv ?_
 (repeat(first|refine eK ?_|(refine aS ?_;refine aP 1 ((j+1)*2+0) zr zr zr ud rfl hc zr zr ?_)|refine cE (U:=aY) (cs:=xC iD) 0 zr zr zr zr zr zr ?_))
 ((refine dM zr zr zr zr (I2) ah ?_ (fun _ _ w hp hw=>by obtain⟨_,rfl,rfl⟩:=hp;exact hw.cp ah)))
 rintro _ _⟨nb,rfl,rfl⟩
 refine go ?_
 refine o5 (U:=aY) (q:=(j+1)*2+1) 3 dv rfl (Nat.add_assoc _ _ _) zr zr zr zr zr zr aj aj rfl (go ?_)
 refine ad hE Tryz.func20 zr zr ⟨nb,rfl,rfl⟩
def Ia(mb:Nat)(i:Int)(a:Option Addr)(c:Nat):aw Tryz.prog 44 [ptr mb,.int .i64 i,.slice a 0 c] [] (fun r H=>H=[]):=by
 refine aw.enter Tryz.func44 ae rfl Tryz.ntmps44 zr zr ?_
 intro G F R' hE
 refine go ?_
 refine ik rfl (go ?_)
 refine bB hE Tryz.func44 rfl _ zr zr ah
def Ge(A:HP)(v:Value)(l:List Dg)(t:Dg)(hv:Vw A v l.length (l.flatMap dC))(hlen:l.length≤1000000) :
  aw Tryz.prog 94 [v,dV t] [A] (fun r H=>∃z:Int,r = .int .i64 z∧(l=[]→z = -1)∧H=[A]):=by
 obtain⟨a,c0,rfl⟩:=hv.shape
 unfold dV
 refine aw.ao Tryz.func94 Tryz.ntmps94 fun G F R hE=>?_
 refine aN rfl ?_
 refine bC zr zr bq ?_
 intro b3
 refine aR (H':=ag b3 (cl (dC t) 35)::A::F) ah (go ?_)
 refine bj (fun i:Nat=>i≤l.length) (fun i=>l.length-i) (fun i=>[(0,.slice a l.length c0),(3,ptr b3),(7,.int .i64 l.length),(8,.int .i64 i)]) (fun _=>ag b3 (cl (dC t) 35)::A::F) 0 (Nat.zero_le _) rfl bO ah ?_
 rintro i hi ih
 refine go ?_
 refine aD zr zr ?_ ?_
 ·intro cB
  have dP:i<l.length:=by omega
  obtain⟨x,hx⟩:∃x,l[i]?=some x:=⟨l[i],by simp[dP]⟩
  obtain⟨b,o,c',he⟩:=hv.some (by rw[← List.length_pos_iff,bt eE];omega)
  simp only[Value.slice.injEq,true_and]at he
  obtain⟨rfl,rfl⟩:=he
  refine go ?_
  refine aO (fun w=>Sat G w ([ag b3 (cl (dC t) 35),A])) (cM 0 6 .nil) rfl ae ae ae dv ?_
  refine go ?_
  refine cm (U:=aY) (l:=dC t) 0 zr zr zr zr zr zr (go ?_)
  refine bM i 32 zr zr zr zr zr zr zr zr dP ?_
  refine gH (U:=aY) (es:=dC x) 1 (i*32) zr zr zr hv rfl (dgE hx) zr zr zr ?_
  refine nM (b:=decide (t=x)) zr zr zr Jl (fun w=>Jx t x w) ?_
  refine go ?_
  by_cases htx:t=x
  ·refine aQ 16 ((.bool true)) rfl ((congrArg Value.bool (decide_eq_true htx))) (go ?_)
   ((refine ad hE Tryz.func94 zr zr ⟨i,rfl,fun h=>by rw[h]at dP;simp at dP,rfl⟩))
  ·refine aQ 16 ((.bool false)) rfl ((congrArg Value.bool (decide_eq_false htx))) (go ?_)
   refine aK ih (i+1) rfl aj aj bO ah
 intro eN
 refine go ?_
 refine ad hE Tryz.func94 zr zr ⟨-1,rfl,fun _=>rfl,rfl⟩
def yk(A:HP)(v:Value)(l:List Dg)(t:Dg)(hv:Vw A v l.length (l.flatMap dC))(hlen:l.length≤1000000) :
  aw Tryz.prog 46 [v,dV t] [A] (fun r H=>∃b:Bool,r = .bool b∧(l=[]→b=false)∧H=[A]):=by
 have hi:=Ge A v l t hv hlen
 unfold dV at hi ⊢
 refine aw.ao Tryz.func46 Tryz.ntmps46 fun G F R hE=>?_
 refine aN rfl ?_
 refine bC zr zr bq ?_
 intro b3
 refine go ?_
 refine aV (U:=aY) (l:=dC t) 0 zr zr zr zr zr zr (go ?_)
 refine az hi ?_
 rintro _ _⟨z,rfl,hz,rfl⟩
 refine go ?_
 ((refine ad hE Tryz.func46 zr zr ⟨decide (0≤z),rfl,fun h=>decide_eq_false (by have:=hz h;omega),rfl⟩))
structure PbS where
 b5:Nat
 e:Nat
 d:Dg
 fV:List (Dg × Value)
 iH:List (Dg × Value)
def BY(X:HP)(hK:lL X)(s:EV)(hs:yg X s)(hl:s.l.length≤100)(hle:∀x∈s.l,x.length≤100000)(mb n:Nat)(now R:Int)(k:Nat)(hk:k≤1000) :
  aw Tryz.prog 22 [ptr mb,.agg (lZ s).toArray] [bN mb n now R k,X]
  (fun r H=>∃(e k':Nat),r = .int .i64 (e:Int)∧(k'=k∨k'=k+1)∧(∀xs:List Bl,(s.l.map fun b=>gl b s.n)=xs.map some→df xs=0→k=0→e=0∧k'=1)∧H=[bN mb n now R k',X]):=by
 refine aw.opens (dw mb n now R k) ae fun y hy=>?_
 have hp:=Dn X hK y.ob y.tb y.im y.bm y.fV y.iH hy.e1 hy.e2 (.slice s.la s.l.length s.lc) s.l hs.l hl hle s.n
 refine aw.enter Tryz.func22 ae rfl Tryz.ntmps22 zr zr ?_
 intro G F R' hE
 refine ai (H':=ag mb (cl (iI n y.ob y.nt y.pa y.pc now y.na y.ds.length y.nc) 57)::ag y.ob (cl (iu y.tb y.im y.bm) 90)::ag y.tb (cl (jH y.tm) 134)::au dV y.tm []::au dV y.im y.fV::au dV y.bm y.iH::ag y.nt (cl (dm ((n:Int)+1+8) y.wa y.wc) 92)::aH 67 2 (.slice y.pa (n+1) y.pc) (n+1) (bF n y.L)::aH 35 32 (.slice y.na y.ds.length y.nc) y.ds.length (y.ds.flatMap dC)::aJ (bQ R) y.L::X::F) (ak.refl _) ?_
 refine aN rfl ?_
 refine bC zr zr bq ?_
 intro b3
 refine go ?_
 refine ai (H':=ag b3 (cl (lZ s) 40)::ag mb (cl (iI n y.ob y.nt y.pa y.pc now y.na y.ds.length y.nc) 57)::ag y.ob (cl (iu y.tb y.im y.bm) 90)::ag y.tb (cl (jH y.tm) 134)::au dV y.tm []::au dV y.im y.fV::au dV y.bm y.iH::ag y.nt (cl (dm ((n:Int)+1+8) y.wa y.wc) 92)::aH 67 2 (.slice y.pa (n+1) y.pc) (n+1) (bF n y.L)::aH 35 32 (.slice y.na y.ds.length y.nc) y.ds.length (y.ds.flatMap dC)::aJ (bQ R) y.L::X::F) ah ?_
 refine gG rfl ?_
 refine zA 1 (fun z:PbS=>ImP z.fV∧Rb z.iH∧(z.e≠0→z.fV=y.fV)∧(∀xs:List Bl,(s.l.map fun b=>gl b s.n)=xs.map some→df xs=0→y.fV=[]→z.e=0)) (fun z=>[(0,ptr mb),(3,ptr b3),(5,ptr z.b5),(6,.int .i64 (z.e:Int))]) (fun z=>ag z.b5 (cl (dC z.d) 35)::ag mb (cl (iI n y.ob y.nt y.pa y.pc now y.na y.ds.length y.nc) 57)::aH 35 32 (.slice y.na y.ds.length y.nc) y.ds.length (y.ds.flatMap dC)::ag y.ob (cl (iu y.tb y.im y.bm) 90)::ag y.tb (cl (jH y.tm) 134)::au dV y.tm []::au dV y.im z.fV::au dV y.bm z.iH::ag y.nt (cl (dm ((n:Int)+1+8) y.wa y.wc) 92)::aH 67 2 (.slice y.pa (n+1) y.pc) (n+1) (bF n y.L)::aJ (bQ R) y.L::X::F) rfl ?_ ?_
 case refine_2 =>
  intro tail
  refine aO (fun w=>Sat G w ([ag b3 (cl (lZ s) 40),ag mb (cl (iI n y.ob y.nt y.pa y.pc now y.na y.ds.length y.nc) 57)])) (cM 0 8 (.fork (.act 8 (cM 9 3 (.act 12 (.act 13 (.st 14 .nil))))) (.act 12 (.act 8 (cM 9 3 (.act 13 (.st 14 .nil))))))) rfl ae ae ae dv ?_
  refine go ?_
  refine nL ?_ ?_
  ·refine cP hp ?_
   rintro _ _⟨e,d,wz,xZ,rfl,⟨h1,h2,h3⟩,hx,rfl⟩
   refine go ?_
   refine aB zr zr zr (fun _ _ hw=>hw.cp ah) ?_
   intro b5
   refine go ?_
   (refine aX ?_;(refine bG 0 dv zr zr zr zr zr zr zr zr zr ?_))
   refine go ?_
   refine pJ tail ⟨b5,e,d,wz,xZ⟩ rfl ⟨h1,h2,h3,hx⟩ bO ah
  ·refine aB zr zr zr (fun _ _ hw=>hw.cp ah) ?_
   intro b5
   refine go ?_
   refine cP hp ?_
   rintro _ _⟨e,d,wz,xZ,rfl,⟨h1,h2,h3⟩,hx,rfl⟩
   refine go ?_
   (refine aX ?_;(refine bG 4 dv zr zr zr zr zr zr zr zr zr ?_))
   refine go ?_
   refine pJ tail ⟨b5,e,d,wz,xZ⟩ rfl ⟨h1,h2,h3,hx⟩ bO ah
 rintro⟨b5,e,d,wz,xZ⟩⟨h1,h2,h3,hx⟩
 simp only at h1 h2 h3 hx ⊢
 by_cases he:e=0
 case neg =>
  have sF:=ck mb n now R k { y with fV:=wz,iH:=xZ } ⟨hy.ll,hy.pid,h1,h2,hy.nk,fun h=>by rw[h3 he];exact hy.nil h⟩ (X::F)
  unfold vG at sF
  refine aO (fun w=>Sat G w ([ag b5 (cl (dC d) 35),ag mb (cl (iI n y.ob y.nt y.pa y.pc now y.na y.ds.length y.nc) 57)])) (cM 0 8 (.act 8 (.st 9 (.st 10 .nil)))) rfl ae ae ae dv ?_
  refine go ?_
  refine aC 21 ((.bool false)) rfl ((congrArg Value.bool (decide_eq_false aj))) (go ?_)
  refine ai (H':=bN mb n now R k::X::F) (ak.trans ah sF) ?_
  refine ad hE Tryz.func22 zr zr ⟨e,k,rfl,.inl rfl,fun xs h h' h0=>absurd (hx xs h h' (hy.nil h0)) he,rfl⟩
 case pos =>
 subst he
 refine dz 2 rfl ?_
 intro dt
 refine aO (fun w=>Sat G w ([ag b5 (cl (dC d) 35),ag mb (cl (iI n y.ob y.nt y.pa y.pc now y.na y.ds.length y.nc) 57)])) (cM 0 8 (.act 8 (.st 9 (.st 10 .nil)))) rfl ae ae ae dv ?_
 refine go ?_
 refine aC 21 ((.bool true)) rfl ((congrArg Value.bool (decide_eq_true aj))) (go ?_)
 refine cm (U:=aY) (l:=dC d) 0 zr zr zr zr zr zr (go ?_)
 have QI:=hy.nk
 have xV:=yk _ _ y.ds d dt aj
 refine cP xV ?_
 rintro _ _⟨b,rfl,hb,rfl⟩
 cases b with
 | true =>
  have hk0:k≠0:=fun h=>by
   have h4:=hb (List.eq_nil_of_length_eq_zero (QI.trans h))
   cases h4
  have sF:=ck mb n now R k { y with fV:=wz,iH:=xZ } ⟨hy.ll,hy.pid,h1,h2,hy.nk,fun h=>absurd h hk0⟩ (X::F)
  unfold vG at sF
  refine go ?_
  refine ai (H':=bN mb n now R k::X::F) (ak.trans ah sF) ?_
  refine ad hE Tryz.func22 zr zr ⟨0,k,rfl,.inl rfl,fun xs h h' h0=>absurd h0 hk0,rfl⟩
 | false =>
 refine go ?_
 -- region 3
 refine aO (fun w=>Sat G w ([ag b5 (cl (dC d) 35),ag mb (cl (iI n y.ob y.nt y.pa y.pc now y.na y.ds.length y.nc) 57)])) (cM 0 6 (.act 6 (.act 7 (.st 8 (.st 9 (.act 10 .nil)))))) rfl ae ae ae dv ?_
 refine go ?_
 refine cm (U:=aY) (l:=dC d) 0 zr zr zr zr zr zr (go ?_)
 refine aq (cs:=dC d) zr zr zr zr zr zr zr zr zr (fun _ w hw=>hw.cp ah) ?_
 intro row
 refine go ?_
 refine aU (mm:=1) (news:=dC d) 1 0 zr zr zr zr zr zr zr zr zr zr zr zr (Vw.ag rfl) rfl (fun v hv=>FB [d] v (by simpa using hv)) aj (by show(_+1)*32≤_;omega) (fun _=>rfl) (fun _ w hw=>hw.cp ah) ?_
 intro v1
 refine aM 1 rfl ?_
 rintro na1 nc1 rfl
 refine go ?_
 have sF:=ck mb n now R (k+1) { y with fV:=wz,iH:=xZ,ds:=y.ds++[d],na:=na1,nc:=nc1 } ⟨hy.ll,hy.pid,h1,h2,by show(y.ds++[d]).length=_;rw[List.length_append,QI];rfl,fun h=>absurd h aj⟩ (X::F)
 unfold vG at sF
 rw[show(y.ds++[d]).length=y.ds.length+1 from by simp,show(y.ds++[d]).flatMap dC=y.ds.flatMap dC++dC d from by simp]at sF
 refine ai (H':=bN mb n now R (k+1)::X::F) (ak.trans ah sF) ?_
 refine ad hE Tryz.func22 zr zr ⟨0,k+1,rfl,.inr rfl,fun xs h h' h0=>⟨rfl,aj⟩,rfl⟩
end Go.Proofs.YtjpboghdolfekaaGreatDoor
