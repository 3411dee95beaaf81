import Derived.Test.YthnfckodljbgbaaGreatDoorQPL11
set_option linter.unusedSimpArgs false
set_option linter.unusedVariables false
set_option maxHeartbeats 4000000
set_option maxRecDepth 20000
set_option linter.defProp false
namespace Go.Proofs.YthnfckodljbgbaaGreatDoor
open Go Go.SL
def fp(i:Nat)(l:List Dg):List (List UInt8):=uv i::l.map Dg.bs
def ld(i:Nat)(hi:i≤1000000000000)(l:List Dg):∀b∈fp i l,b.length≤32:=fun b hb=>by
  rcases List.mem_cons.1 hb with rfl|hb
  · have := yL 5 i (by have : (128 : Nat) ^ 6 = 4398046511104 := by decide
                       omega)
    omega
  · obtain⟨d,_,rfl⟩:=List.mem_map.1 hb
    rw[d.len];omega
def FI(i:Nat){l:List Dg}{j:Nat}{d:Dg}(h:l[j]?=some d):fp i (l.take (j+1))=fp i (l.take j)++[d.bs]:=by
 unfold fp
 rw[List.take_add_one,h]
 simp
structure Rws where
 cs:List Value
 Z:HP
def Eb(M:Rws)(ls:List (List UInt8)):Prop:=M.cs.length=ls.length∧∀(i:Nat) (x:List UInt8),ls[i]?=some x→∃cv,M.cs[i]?=some cv∧eO M.Z cv x
theorem Eb.add{M:Rws}{ls:List (List UInt8)}(h:Eb M ls){A:HP}{cv:Value}{x:List UInt8}(hx:eO A cv x):Eb ⟨M.cs++[cv],Sep [A,M.Z]⟩ (ls++[x]):=by
 obtain⟨h1,h2⟩:=h
 refine⟨by simp[h1],fun i y hy=>?_⟩
 rw[List.getElem?_append]at hy ⊢
 rw[h1]
 split at hy
 ·rename_i dJ
  rw[if_pos dJ]
  obtain⟨cv',h3,h4⟩:=h2 i y hy
  exact⟨cv',h3,h4.mono (aY (i:=1) rfl)⟩
 ·rename_i fO
  rw[if_neg fO]
  have h0:i-ls.length=0:=by
   grind
  rw[h0]at hy ⊢
  cases hy
  exact⟨cv,rfl,hx.mono (aY (i:=0) rfl)⟩
attribute [local irreducible] J K aD Ends ae aF aL bU bo aU bh bq cg aE
theorem B5(d:Dg)(i:Nat)(hi:i≤1000000000000)(P:HP)(pv:Value)(l:List Dg)(hp:Vw P pv l.length (l.flatMap dC))(hl:l.length≤16) :
  aD Tryz.prog 41 [dV d,.int .i64 (i:Int),pv] [P] (fun r H=>H=[aF 5 1 r (bS d i l).length (bV (bS d i l)),P]):=by
 obtain⟨a,c,rfl⟩:=hp.shape
 have hlen:=ld i hi l
 refine aD.aw Tryz.func41 Tryz.ntmps41 fun G F R hE=>?_
 refine aB rfl ?_
 refine bG zr zr bE ?_
 intro b3
 refine go ?_
 refine aI (nc i ag) ?_
 rintro r8 _ rfl
 refine aP 0 rfl ?_
 rintro a8 c8 rfl
 refine gX (bs:=uv i) 0 rfl ?_
 intro O0
 refine go ?_
 refine ao (cs:=[.slice a8 (uv i).length c8]) zr zr zr zr zr zr zr zr zr bE ?_
 intro row
 refine go ?_
 refine ai (eS 40 1 row 1 1 [.slice a8 (uv i).length c8] [] _ rfl (Nat.le_refl _) (by simp)) ?_
 refine bB (fun y:Nat × Rws × Option Addr × Nat=>y.1≤l.length∧Eb y.2.1 (fp i (l.take y.1))) (fun y=>l.length-y.1)
  (fun y=>[(3,ptr b3),(7,.slice y.2.2.1 (y.1+1) y.2.2.2),(14,.slice a l.length c),(15,.int .i64 (l.length:Int)),(16,.int .i64 (y.1:Int))])
  (fun y=>aF 40 1 (.slice y.2.2.1 (y.1+1) y.2.2.2) (y.1+1) y.2.1.cs::y.2.1.Z::ae b3 (cl (dC d) 37)::P::F) (0,⟨[.slice a8 (uv i).length c8],aF 5 1 (.slice a8 (uv i).length c8) (uv i).length (bV (uv i))⟩,some ⟨row,0,none⟩,1) ⟨Nat.zero_le _,?_⟩ rfl ck ah ?_
 ·refine⟨rfl,fun j x hx=>?_⟩
  grind [fp]
 rintro⟨j,M,ma,mc⟩⟨hj,hM⟩ ih
 refine go ?_
 refine au zr zr ?_ ?_
 ·intro dJ
  have oX:j<l.length:=by omega
  obtain⟨x,hx⟩:∃x,l[j]?=some x:=⟨l[j],by simp⟩
  have kU:=FI i hx
  obtain⟨bb,oo,cc,he⟩:=hp.some (by intro h;have:=congrArg List.length h;rw[cE dD]at this;simp at this;omega)
  obtain⟨rfl,rfl⟩:=he
  refine go ?_
  refine bZ j 32 zr zr zr zr zr zr zr zr oX ?_
  refine aK ?_
  refine cI (U:=aR) (es:=dC x) 3 (j*32) zr zr zr hp rfl (fun q v hq=>?_) zr zr zr ?_
  ·rw[cU dD hx q (by rcases Nat.lt_or_ge q 32 with h|h;exact h;rw[List.getElem?_eq_none (by rw[dD];exact h)]at hq;cases hq)];exact hq
  refine aC zr zr zr bE ?_
  intro b9
  refine go ?_
  refine iW (U:=aR) zr zr zr zr zr ?_
  have zZ:eO (ae b9 (cl (dC x) 37)) (.slice (some ⟨b9,0,none⟩) 32 32) x.bs:=eO.block x.len (dL x)
  have ki:=ke (ae b9 (cl (dC x) 37)) (.slice (some ⟨b9,0,none⟩) x.bs.length 32) x.bs (by have:=zZ.1;rw[x.len]at this ⊢;exact this) (by rw[x.len];omega)
  rw[x.len]at ki
  refine aI ki ?_
  rintro r9 _ rfl
  rw[← x.len]
  refine aP 0 rfl ?_
  rintro a9 c9 rfl
  refine gX (bs:=x.bs) 0 rfl ?_
  intro hb9
  refine go ?_
  refine ao (cs:=[.slice a9 x.bs.length c9]) zr zr zr zr zr zr zr zr zr bE ?_
  intro SZ
  refine go ?_
  refine aT (mm:=1) (news:=[.slice a9 x.bs.length c9]) 3 0 rfl rfl rfl rfl rfl rfl rfl rfl rfl rfl rfl rfl (Vw.ae rfl) rfl (by intro v hv;simp at hv;rw[hv];rfl) ag (by show(_+_)*24≤_;omega) (fun _=>rfl) bE ?_
  intro v1
  refine aP 3 rfl ?_
  rintro ja jc rfl
  refine go ?_
  refine ai (ak.pick [1,4,3,5,6] rfl) ?_
  refine ai (ak.bX [aF 5 1 (.slice a9 x.bs.length c9) x.bs.length (bV x.bs),M.Z] _) ?_
  have GC:=hM.add hb9
  rw[← kU]at GC
  refine aM ih (j+1,⟨M.cs++[.slice a9 x.bs.length c9],Sep [aF 5 1 (.slice a9 x.bs.length c9) x.bs.length (bV x.bs),M.Z]⟩,ja,jc) rfl ⟨by simp only;omega,GC⟩ ag ck ah
 ·intro fO
  have Nd:j=l.length:=by omega
  subst Nd
  rw[List.take_length]at hM
  have DF:(fp i l).length=l.length+1:=by simp[fp]
  refine kH 0 rfl ?_
  intro kj
  refine dg 0 rfl ?_
  intro QI
  have nw:sJ (Sep [aF 40 1 (.slice ma (l.length+1) mc) (l.length+1) M.cs,M.Z]) (.slice ma (l.length+1) mc) (fp i l):=by
   rw[← DF]at QI kj ⊢
   exact sJ.ofP QI kj hM.1 hM.2
  have TG:=sY 2 d _ _ (fp i l) nw ag hlen
  refine ai (ak.bX [aF 40 1 (.slice ma (l.length+1) mc) (l.length+1) M.cs,M.Z] _) (go ?_)
  refine aH (U:=aR) (l:=dC d) 1 zr zr zr zr zr zr ?_
  ((refine go ?_;(refine aI TG ?_)))
  rintro rr _ rfl
  refine go ?_
  refine aO hE Tryz.func41 rfl _ zr zr ah
end Go.Proofs.YthnfckodljbgbaaGreatDoor
namespace Go.Proofs.YthnfckodljbgbaaGreatDoor
open Go Go.SL
def OL(q:Int)(x:Bl)(ts:List Tk)(s:SJ)(br:Bool)(e:Nat)(ts':List Tk)(iZ:Bool)(t:SJ):Prop :=
 (br=true∧e=10∧ts'=ts∧iZ=br∧t=s)∨(br=false∧(ts.any fun y=>decide (y.x.d=x.d))=true∧e=5∧ts'=ts∧iZ=br∧t=s) ∨
 (br=false∧(ts.any fun y=>decide (y.x.d=x.d))=false∧iZ=dR e∧gi (dx (eh q x)::iQ (cD x)) s e t∧((e≠0∧ts'=ts)∨(e=0∧∃y:Tk,y.c=cN x∧ts'=ts++[y])))
attribute [local irreducible] J K aD Ends ae aF aL bU bo aU bh bq cg aE
def G6(tb bs jb bd b2 b3:Nat)(q:Int)(hq:0≤q∧q≤1073741824)(mb:Nat)(tv:Value)(s:SJ)(x:Bl)(A B C:HP)(Rc:qa s.1.bz)(bP:s.1.A.aj.length≤900000000)(eW:s.1.A.writes.length≤900000000) :
  aD Tryz.prog 27 [ptr b2,ptr b3] [jE tb bs jb tv false,cR bs bd jb q mb (A::B::C::[ae b2 (cl [ptr tb] 31),ae b3 (cl (bH x) 39)]) s]
  (fun r H=>∃(e:Nat) (t:SJ),r = .int .i64 (e:Int)∧H=[jE tb bs jb tv false,cR bs bd jb q mb (A::B::C::[ae b2 (cl [ptr tb] 31),ae b3 (cl (bH x) 39)]) t]∧dx (eh q x) s e t):=by
 have c0:=aD.frame ([rT jb bd cZ s.2]++[A,B,C]) (G5 tb bs jb bd b2 b3 q hq mb tv s.1 x Rc bP eW)
 refine c0.conv ?_ ?_
 ·exact(ak.cons _ (sO _)).trans ah
 ·rintro v H⟨H',⟨e,t,rfl,rfl,hC⟩,rfl⟩
  refine⟨[jE tb bs jb tv false,cR bs bd jb q mb _ (t,s.2)],⟨e,_,rfl,rfl,hC,rfl⟩,?_⟩
  exact ak.trans ah (ak.cons _ (sX _))
theorem PD(tb bs jb bd:Nat)(tv:Value)(q:Int)(mb:Nat)(s:SJ)(g:FuncId)(cap:List Value)(c2 c3:Nat)(Z:HP)(Ys:List HP)(S:SJ→Nat→SJ→Prop)(a:Option Addr)(c:Nat)(b:List UInt8)(hb:eO Z (.slice a b.length c) b)(hl:b.length≤1000000)(m:Nat)(hm:m≤800000000)(hx:∀t,S s 0 t→SQ m 0 t)(hc:aD Tryz.prog g cap [jE tb bs jb tv false,cR bs bd jb q mb (ae c2 (cl [ptr tb] 31)::ae c3 (cl [.slice a b.length c] 40)::Z::Ys) s] (fun r H=>∃(e:Nat) (t:SJ),r = .int .i64 (e:Int)∧H=[jE tb bs jb tv false,cR bs bd jb q mb (ae c2 (cl [ptr tb] 31)::ae c3 (cl [.slice a b.length c] 40)::Z::Ys) t]∧S s e t))(V:HP)(v:Value)(hv:Vw V v 3 (.func (.func g) #[] cap.toArray::jH c2 c3 jb)) :
  aD Tryz.prog 31 [ptr tb,v] [V,jE tb bs jb tv false,cR bs bd jb q mb (ae c2 (cl [ptr tb] 31)::ae c3 (cl [.slice a b.length c] 40)::Z::Ys) s]
  (fun r H=>∃(e:Nat) (t:SJ),r = .int .i64 (e:Int)∧H=[V,jE tb bs jb tv (dR e),cR bs bd jb q mb (ae c2 (cl [ptr tb] 31)::ae c3 (cl [.slice a b.length c] 40)::Z::Ys) t]∧gi (S::iQ b) s e t):=by
 refine ru (cR bs bd jb q mb _) tb bs jb tv V v (.func (.func g) #[] cap.toArray::jH c2 c3 jb) hv (by simp[jH]) (S::iQ b) rfl (fun i y=>(i=0→y=s)∧(i=1→SQ m 0 y)∧(i=2→SQ m 1 y)) ?_ s ⟨fun _=>rfl,fun h=>by omega,fun h=>by omega⟩
 intro i fv S' nH hs
 match i,nH,hs with
 | 0,nH,hs =>
  cases nH
  cases hs
  refine⟨_,_,_,rfl,fun y hy=>?_⟩
  have:=hy.1 rfl
  subst this
  refine aD.post hc ?_
  rintro v H⟨e,t,rfl,rfl,hS⟩
  exact⟨e,t,rfl,rfl,hS,fun h0=>⟨fun h=>absurd h ag,fun _=>hx t (by grind),fun h=>absurd h ag⟩⟩
 | 1,nH,hs =>
  cases nH
  cases hs
  refine⟨_,_,_,rfl,fun y hy=>?_⟩
  obtain⟨a1,⟨a2,a3⟩,a4,a5⟩:=hy.2.1 rfl
  refine aD.post (wi tb bs jb bd c2 c3 tv q mb y Z Ys a c b hb hl ⟨a2,ag⟩ ag) ?_
  rintro v H⟨e,x',rfl,rfl,hS⟩
  exact⟨e,x',rfl,rfl,hS,fun _=>⟨fun h=>absurd h ag,fun h=>absurd h ag,fun _=>SQ.append ⟨a1,⟨a2,a3⟩,a4,a5⟩ hS⟩⟩
 | 2,nH,hs =>
  cases nH
  cases hs
  refine⟨_,_,_,rfl,fun y hy=>?_⟩
  obtain⟨a1,⟨a2,a3⟩,a4,a5⟩:=hy.2.2 rfl
  refine aD.post (qP tb bs jb bd tv q mb y _ a1 ⟨a2,ag⟩ ag ag) ?_
  rintro v H⟨e,x',rfl,rfl,hS⟩
  exact⟨e,x',rfl,rfl,hS,fun _=>⟨fun h=>absurd h ag,fun h=>absurd h ag,fun h=>absurd h ag⟩⟩
 | n+3,nH,hs=>cases hs
def A0(tb bs jb bd:Nat)(tv:Value)(q:Int)(hq:0≤q∧q≤1073741824)(mb:Nat)(ts:List Tk)(br:Bool)(s:SJ)(x:Bl)(hl:ts.length≤1000000)(hs:0≤x.size∧x.size≤1000000000000)(hp:0≤x.piece∧x.piece≤1000000000000)(Rc:qa s.1.bz)(bP:s.1.A.aj.length≤900000000)(eW:s.1.A.writes.length≤900000000)(m:Nat)(hm:m≤800000000)(hx:∀t,dx (eh q x) s 0 t→SQ m 0 t) :
  aD Tryz.prog 9 [ptr tb,dG x] (fe tb bs jb tv ts br++[cR bs bd jb q mb [] s])
  (fun r H=>∃(e:Nat) (ts':List Tk) (mI:Value) (iZ:Bool) (t:SJ),r = .int .i64 (e:Int)∧H=fe tb bs jb mI ts' iZ++[cR bs bd jb q mb [] t]∧OL q x ts s br e ts' iZ t):=by
 have pI:=sG x hs hp
 have kQ:(cD x).length≤1000000:=by
  have:=iu 1 x.d (iD x) (by simp[iD]) (lp x hs.2 hp.2)
  unfold cD;omega
 have hnt:=fun a n c=>wh tb bs jb tv a n c
 have Bp:=Ct x
 refine aD.aw Tryz.func9 Tryz.ntmps9 fun G F R hE=>?_
 refine aB rfl ?_
 refine bG zr zr bE ?_
 intro b2
 refine bG zr zr bE ?_
 intro b3
 cases br with
 | true =>
  refine go ?_
  refine ad hE Tryz.func9 zr zr ⟨10,ts,tv,true,s,rfl,rfl,.inl ⟨rfl,rfl,rfl,rfl,rfl⟩⟩
 | false =>
 refine go ?_
 refine aP 3 rfl ?_
 rintro a c rfl
 refine aJ (ak.pick [3,2,4,5,1] rfl) ?_
 refine jt 0 rfl ?_
 intro dO
 refine aJ (ak.pick [2,5] rfl) ?_
 refine aJ (ak.bX [bD ts,ae b3 (cl (bH x) 39)] _) ?_
 refine aN (yi (aF 76 1 (.slice a ts.length c) ts.length (ts.map cT)) (Sep [bD ts,ae b3 (cl (bH x) 39)]) _ ts dO hl 26 [ptr b3] (fun y=>decide (y.x.d=x.d)) (fun y hy=>G7 ts x b3 y hy)) ?_
 refine aJ (H':=Sep [bD ts,ae b3 (cl (bH x) 39)]::aF 76 1 (.slice a ts.length c) ts.length (ts.map cT)::ae tb (cl [ptr bs,ptr jb,.slice a ts.length c,.bool false] 74)::cR bs bd jb q mb [] s::ae b2 (cl [ptr tb] 31)::F) ah ?_
 refine aJ (ak.cK [bD ts,ae b3 (cl (bH x) 39)] _) ?_
 cases rY:ts.any (fun y=>decide (y.x.d=x.d))with
 | true =>
  refine go ?_
  refine ad hE Tryz.func9 zr zr ⟨5,ts,_,false,s,rfl,rfl,.inr (.inl ⟨rfl,rY,rfl,rfl,rfl,rfl⟩)⟩
 | false =>
 refine go ?_
 refine gE rfl ?_
 refine xW 1 (fun y:(Option Addr × Nat) × (Option Addr × Nat) × Nat × Nat=>True) (fun y=>[(2,ptr b2),(3,ptr b3),(5,.slice y.1.1 3 y.1.2)]) (fun y=>aF 83 1 (.slice y.1.1 3 y.1.2) 3 ([.func (.func 27) #[] #[ptr b2,ptr b3] ]++jH y.2.2.1 y.2.2.2 jb)::aF 5 1 (.slice y.2.1.1 (cD x).length y.2.1.2) (cD x).length (bV (cD x))::ae y.2.2.1 (cl [ptr tb] 31)::ae y.2.2.2 (cl [.slice y.2.1.1 (cD x).length y.2.1.2] 40)::ae tb (cl [ptr bs,ptr jb,.slice a ts.length c,.bool false] 74)::aF 76 1 (.slice a ts.length c) ts.length (ts.map cT)::bD ts::cR bs bd jb q mb [] s::ae b2 (cl [ptr tb] 31)::ae b3 (cl (bH x) 39)::F) rfl ?_ ?_
 rotate_left
 ·intro tail
  refine aG (fun w=>Sat G w ([ae b2 (cl [ptr tb] 31),ae b3 (cl (bH x) 39)])) (.st 0 (.st 2 (.st 3 (.fork (.act 1 (.act 4 (.act 5 (.act 6 (.st 7 .nil))))) (.act 4 (.fork (.act 1 (.act 5 (.act 6 (.st 7 .nil)))) (.act 5 (.act 1 (.act 6 (.st 7 .nil)))))))))) rfl aq aq aq eo ?_
  refine go ?_
  refine bT (U:=aR) (l:=bH x) 1 zr zr zr zr zr zr ?_
  repeat'(first|refine rh ?_ ?_|(refine ao (cs:=[.func (.func 27) #[] #[ptr b2,ptr b3] ]) zr zr zr zr zr zr zr zr zr (fun _ w hw=>by exact hw.cL ah) ?_;intro r0)|(((refine dy pI ?_));rintro _ _ rfl;((refine aP 0 rfl ?_));rintro a8 c8 rfl)|(((refine dy (hnt a8 (cD x).length c8) ?_));rintro _ _⟨c2,c3,row,rfl,rfl⟩)|fail)
  all_goals(
   refine aJ (H':=ae r0 (cl [.func (.func 27) #[] #[ptr b2,ptr b3] ] 83)::ae row (cl (jH c2 c3 jb) 83)::aF 5 1 (.slice a8 (cD x).length c8) (cD x).length (bV (cD x))::ae c2 (cl [ptr tb] 31)::ae c3 (cl [.slice a8 (cD x).length c8] 40)::ae tb (cl [ptr bs,ptr jb,.slice a ts.length c,.bool false] 74)::aF 76 1 (.slice a ts.length c) ts.length (ts.map cT)::bD ts::cR bs bd jb q mb [] s::ae b2 (cl [ptr tb] 31)::ae b3 (cl (bH x) 39)::F) ah ?_
   refine aJ (eS 83 1 r0 1 1 [.func (.func 27) #[] #[ptr b2,ptr b3] ] [] _ rfl (Nat.le_refl _) (by simp)) ?_
   refine aT (mm:=2) (news:=jH c2 c3 jb) 0 1 rfl rfl rfl rfl rfl rfl rfl rfl rfl rfl rfl rfl (Vw.ae rfl) rfl (by intro v hv;simp[jH]at hv;rcases hv with rfl|rfl <;> rfl) ag (by show(_+_)*8≤_;omega) (fun _=>rfl) (fun _ w hw=>by exact hw.cL ah) ?_
   intro v1
   refine aP 0 rfl ?_
   rintro ja jc rfl
   refine ln ?_
   refine jX tail ((ja,jc),(a8,c8),c2,c3) rfl trivial ck ah)
 rintro⟨⟨ja,jc⟩,⟨a8,c8⟩,c2,c3⟩ -
 refine dg 0 rfl ?_
 intro vI
 refine qU (bs:=cD x) 1 rfl ?_
 intro O0
 have kh:=PD tb bs jb bd (.slice a ts.length c) q mb s 27 [ptr b2,ptr b3] c2 c3 _ [ae b2 (cl [ptr tb] 31),ae b3 (cl (bH x) 39)] _ a8 c8 (cD x) O0 kQ m hm hx (G6 tb bs jb bd b2 b3 q hq mb (.slice a ts.length c) s x _ _ _ Rc bP eW) _ _ vI
 refine ai (ak.pick [8] rfl) (go ?_)
 refine aJ (ak.pick [8,3,4,2,0,9] rfl) ?_
 refine aJ (AK bs bd jb q mb _ s _) ?_
 refine aI kh ?_
 rintro _ _⟨e,t,rfl,rfl,hR⟩
 refine aJ (H':=cR bs bd jb q mb [ae c2 (cl [ptr tb] 31),ae c3 (cl [.slice a8 (cD x).length c8] 40),aF 5 1 (.slice a8 (cD x).length c8) (cD x).length (bV (cD x)),ae b2 (cl [ptr tb] 31),ae b3 (cl (bH x) 39)] t::ae tb (cl [ptr bs,ptr jb,.slice a ts.length c,.bool (dR e)] 74)::aF 76 1 (.slice a ts.length c) ts.length (ts.map cT)::bD ts::F) ah ?_
 refine aJ (vo bs bd jb q mb _ t _) ?_
 by_cases he:e=0
 ·subst he
  refine aJ (H':=aF 76 1 (.slice a ts.length c) ts.length (ts.map cT)::ae tb (cl [ptr bs,ptr jb,.slice a ts.length c,.bool (dR 0)] 74)::ae b2 (cl [ptr tb] 31)::ae b3 (cl (bH x) 39)::bD ts::cR bs bd jb q mb [] t::F) ah (go ?_)
  refine aG (fun w=>Sat G w ([ae tb (cl [ptr bs,ptr jb,.slice a ts.length c,.bool (dR 0)] 74),ae b2 (cl [ptr tb] 31),ae b3 (cl (bH x) 39)])) (dj 0 6 (.act 6 (.act 7 (.act 8 (.st 9 (.st 10 (.act 11 .nil))))))) rfl aq aq aq eo ?_
  refine go ?_
  refine bT (U:=aR) (l:=bH x) 2 zr zr zr zr zr zr (go ?_)
  refine dy Bp ?_
  rintro _ _⟨y,rfl,rfl,hy1,Vc,hy3,hy4⟩
  refine go ?_
  refine ao (cs:=[ptr y.yb]) zr zr zr zr zr zr zr zr zr (fun _ w hw=>hw.cL ah) ?_
  intro r1
  refine go ?_
  refine aT (mm:=1) (news:=[ptr y.yb]) 2 0 rfl rfl rfl rfl rfl rfl rfl rfl rfl rfl rfl rfl (Vw.ae rfl) rfl (by intro v hv;simp at hv;rw[hv];rfl) ag (by show(_+_)*8≤_;omega) (fun _=>rfl) (fun _ w hw=>hw.cL ah) ?_
  intro v1
  refine aP 2 rfl ?_
  rintro ka kc rfl
  refine go ?_
  have TQ:ts.map cT++[ptr y.yb]=(ts++[y]).map cT:=by simp[cT]
  have DF:ts.length+1=(ts++[y]).length:=by simp
  have qe:=vQ ts [] y
  rw[List.append_nil]at qe
  rw[TQ,DF]
  refine ai (ak.pick [1,6,3,2,7] rfl) ?_
  refine ai (qe _) ?_
  have I7:y.c=cN x:=by
   unfold Tk.c cN
   rw[hy1,hy3,hy4,← Vc,Int.toNat_natCast]
  refine ad hE Tryz.func9 zr zr ⟨0,ts++[y],_,dR 0,t,rfl,rfl,.inr (.inr ⟨rfl,rY,rfl,hR,.inr ⟨rfl,y,I7,rfl⟩⟩)⟩
 ·refine aJ (H':=ae tb (cl [ptr bs,ptr jb,.slice a ts.length c,.bool (dR e)] 74)::aF 76 1 (.slice a ts.length c) ts.length (ts.map cT)::bD ts::cR bs bd jb q mb [] t::F) ah (go ?_)
  refine au zr zr ?_ ?_
  ·intro _
   refine go ?_
   refine ad hE Tryz.func9 zr zr ⟨e,ts,_,dR e,t,rfl,rfl,.inr (.inr ⟨rfl,rY,rfl,hR,.inl ⟨he,rfl⟩⟩)⟩
  ·intro h;exfalso;omega
end Go.Proofs.YthnfckodljbgbaaGreatDoor
namespace Go.Proofs.YthnfckodljbgbaaGreatDoor
open Go Go.SL
def N7(x:Bl)(i:Int)(b:List UInt8)(p:List Dg)(ts:List Tk)(s:SJ)(br:Bool)(e:Nat)(ts':List Tk)(iZ:Bool)(t:SJ):Prop :=
 (br=true∧e=10∧ts'=ts∧iZ=br∧t=s)∨(br=false∧fH ts x=none∧e=4∧ts'=ts∧iZ=br∧t=s) ∨
 (br=false∧∃(k:Nat) (y:Tk),fH ts x=some y∧ts[k]?=some y∧y.x=x∧(((i<0∨(y.n:Int)≤i)∧e=1∧ts'=ts∧iZ=br∧t=s)∨((0≤i∧i<y.n)∧cG y.ws y.n i=true∧e=0∧ts'=ts∧iZ=br∧t=s) ∨
  ((0≤i∧i<y.n)∧cG y.ws y.n i=false∧dw x i b p=false∧e=8∧ts'=ts∧iZ=br∧t=s) ∨
  ((0≤i∧i<y.n)∧cG y.ws y.n i=false∧dw x i b p=true∧iZ=dR e∧gi (dx (mh x i b)::dx (kY x)::iQ (bS x.d i.toNat p)) s e t∧((e≠0∧ts'=ts)∨(e=0∧ts'=ts.set k (y.put i.toNat p))))))
attribute [local irreducible] J K aD Ends ae aF aL bU bo aU bh bq cg aE
def Mq(X:HP)(tb bs jb bd b2 b3 b4 b5:Nat)(q:Int)(mb:Nat)(tv:Value)(s:SJ)(x:Bl)(i:Int)(a:Option Addr)(c:Nat)(b:List UInt8)(A B C:HP)(hv:Vw X (.slice a b.length c) b.length (bV b))(kQ:b.length≤1000000000)(hi : -9223372036854775808≤i∧i≤9223372036854775807)(bP:s.1.A.aj.length≤900000000)(eW:s.1.A.writes.length≤900000000) :
  aD Tryz.prog 37 [ptr b2,ptr b3,ptr b4,ptr b5] [jE tb bs jb tv false,cR bs bd jb q mb (A::B::C::[X,ae b2 (cl [ptr tb] 31),ae b3 (cl (bH x) 39),ae b4 (cl [.int .i64 i] 3),ae b5 (cl [.slice a b.length c] 40)]) s]
  (fun r H=>∃(e:Nat) (t:SJ),r = .int .i64 (e:Int)∧H=[jE tb bs jb tv false,cR bs bd jb q mb (A::B::C::[X,ae b2 (cl [ptr tb] 31),ae b3 (cl (bH x) 39),ae b4 (cl [.int .i64 i] 3),ae b5 (cl [.slice a b.length c] 40)]) t]∧dx (mh x i b) s e t):=by
 have c0:=aD.frame ([rT jb bd cZ s.2]++[A,B,C]) (Mr X tb bs jb bd b2 b3 b4 b5 q mb tv s.1 x i a c b hv kQ hi bP eW)
 refine c0.conv ?_ ?_
 ·exact(ak.cons _ (sO _)).trans ah
 ·rintro v H⟨H',⟨e,t,rfl,rfl,hC⟩,rfl⟩
  refine⟨[jE tb bs jb tv false,cR bs bd jb q mb _ (t,s.2)],⟨e,_,rfl,rfl,hC,rfl⟩,?_⟩
  exact ak.trans ah (ak.cons _ (sX _))
def Mo(tb bs jb bd b2 b3:Nat)(q:Int)(mb:Nat)(tv:Value)(s:SJ)(x:Bl)(A B C X D E:HP)(bP:s.1.A.aj.length≤900000000)(eW:s.1.A.writes.length≤900000000) :
  aD Tryz.prog 39 [ptr b2,ptr b3] [jE tb bs jb tv false,cR bs bd jb q mb (A::B::C::[X,ae b2 (cl [ptr tb] 31),ae b3 (cl (bH x) 39),D,E]) s]
  (fun r H=>∃(e:Nat) (t:SJ),r = .int .i64 (e:Int)∧H=[jE tb bs jb tv false,cR bs bd jb q mb (A::B::C::[X,ae b2 (cl [ptr tb] 31),ae b3 (cl (bH x) 39),D,E]) t]∧dx (kY x) s e t):=by
 have c0:=aD.frame ([rT jb bd cZ s.2]++[A,B,C,X,D,E]) (Mp tb bs jb bd b2 b3 q mb tv s.1 x bP eW)
 refine c0.conv ?_ ?_
 ·exact(ak.cons _ (sO _)).trans ah
 ·rintro v H⟨H',⟨e,t,rfl,rfl,hC⟩,rfl⟩
  refine⟨[jE tb bs jb tv false,cR bs bd jb q mb _ (t,s.2)],⟨e,_,rfl,rfl,hC,rfl⟩,?_⟩
  exact ak.trans ah (ak.cons _ (sX _))
theorem PC(tb bs jb bd:Nat)(tv:Value)(q:Int)(mb:Nat)(s:SJ)(g1 g2:FuncId)(aan pM:List Value)(c2 c3:Nat)(Z:HP)(Ys:List HP)(S1 S2:SJ→Nat→SJ→Prop)(a:Option Addr)(c:Nat)(b:List UInt8)(hb:eO Z (.slice a b.length c) b)(hl:b.length≤1000000)(m:Nat)(hm:m≤800000000)(hx:∀t u,S1 s 0 t→S2 t 0 u→SQ m 0 u)(Jq:aD Tryz.prog g1 aan [jE tb bs jb tv false,cR bs bd jb q mb (ae c2 (cl [ptr tb] 31)::ae c3 (cl [.slice a b.length c] 40)::Z::Ys) s] (fun r H=>∃(e:Nat) (t:SJ),r = .int .i64 (e:Int)∧H=[jE tb bs jb tv false,cR bs bd jb q mb (ae c2 (cl [ptr tb] 31)::ae c3 (cl [.slice a b.length c] 40)::Z::Ys) t]∧S1 s e t))(ya:∀u,S1 s 0 u→aD Tryz.prog g2 pM [jE tb bs jb tv false,cR bs bd jb q mb (ae c2 (cl [ptr tb] 31)::ae c3 (cl [.slice a b.length c] 40)::Z::Ys) u] (fun r H=>∃(e:Nat) (t:SJ),r = .int .i64 (e:Int)∧H=[jE tb bs jb tv false,cR bs bd jb q mb (ae c2 (cl [ptr tb] 31)::ae c3 (cl [.slice a b.length c] 40)::Z::Ys) t]∧S2 u e t))(V:HP)(v:Value)(hv:Vw V v 4 (.func (.func g1) #[] aan.toArray :: .func (.func g2) #[] pM.toArray::jH c2 c3 jb)) :
  aD Tryz.prog 31 [ptr tb,v] [V,jE tb bs jb tv false,cR bs bd jb q mb (ae c2 (cl [ptr tb] 31)::ae c3 (cl [.slice a b.length c] 40)::Z::Ys) s]
  (fun r H=>∃(e:Nat) (t:SJ),r = .int .i64 (e:Int)∧H=[V,jE tb bs jb tv (dR e),cR bs bd jb q mb (ae c2 (cl [ptr tb] 31)::ae c3 (cl [.slice a b.length c] 40)::Z::Ys) t]∧gi (S1::S2::iQ b) s e t):=by
 refine ru (cR bs bd jb q mb _) tb bs jb tv V v (.func (.func g1) #[] aan.toArray :: .func (.func g2) #[] pM.toArray::jH c2 c3 jb) hv (by simp[jH]) (S1::S2::iQ b) rfl (fun i y=>(i=0→y=s)∧(i=1→S1 s 0 y)∧(i=2→SQ m 0 y)∧(i=3→SQ m 1 y)) ?_ s ⟨fun _=>rfl,fun h=>by omega,fun h=>by omega,fun h=>by omega⟩
 intro i fv S' nH hs
 match i,nH,hs with
 | 0,nH,hs =>
  cases nH
  cases hs
  grind
 | 1,nH,hs =>
  cases nH
  cases hs
  grind
 | 2,nH,hs =>
  cases nH
  cases hs
  refine⟨_,_,_,rfl,fun y hy=>?_⟩
  obtain⟨a1,⟨a2,a3⟩,a4,a5⟩:=hy.2.2.1 rfl
  refine aD.post (wi tb bs jb bd c2 c3 tv q mb y Z Ys a c b hb hl ⟨a2,ag⟩ ag) ?_
  grind [SQ.append]
 | 3,nH,hs =>
  cases nH
  cases hs
  refine⟨_,_,_,rfl,fun y hy=>?_⟩
  obtain⟨a1,⟨a2,a3⟩,a4,a5⟩:=hy.2.2.2 rfl
  refine aD.post (qP tb bs jb bd tv q mb y _ a1 ⟨a2,ag⟩ ag ag) ?_
  grind
 | n+4,nH,hs=>cases hs
end Go.Proofs.YthnfckodljbgbaaGreatDoor
namespace Go.Proofs.YthnfckodljbgbaaGreatDoor
open Go Go.SL
theorem List.mL{α:Type}{l:List α}{i:Nat}{x:α}(h:l[i]?=some x):l.set i x=l:=by
 refine List.ext_getElem? fun j=>?_
 grind
attribute [local irreducible] J K aD Ends ae aF aL bU bo aU bh bq cg aE cR
theorem Hk(X:HP)(hK:oZ X)(tb bs jb bd:Nat)(tv:Value)(q:Int)(mb:Nat)(ts:List Tk)(br:Bool)(s:SJ)(x:Bl)(i:Int)(hi : -9223372036854775808≤i∧i≤9223372036854775807)(bv:Value)(b:List UInt8)(hb:eO X bv b)(kQ:b.length≤900000000)(pv:Value)(p:List Dg)(hp:AY X pv p)(hl:ts.length≤1000000)(hn:∀y∈ts,y.n≤65536)(hw:∀y∈ts,y.n≤y.ws.length*64)(bP:s.1.A.aj.length≤800000000)(eW:s.1.A.writes.length≤800000000)(m:Nat)(hm:m≤800000000)(hx:∀t u,dx (mh x i b) s 0 t→dx (kY x) t 0 u→SQ m 0 u) :
  aD Tryz.prog 10 [ptr tb,dG x,.int .i64 i,bv,pv] (fe tb bs jb tv ts br++[cR bs bd jb q mb [] s,X])
  (fun r H=>∃(e:Nat) (ts':List Tk) (iZ:Bool) (t:SJ),r = .int .i64 (e:Int)∧H=fe tb bs jb tv ts' iZ++[cR bs bd jb q mb [] t,X]∧N7 x i b p ts s br e ts' iZ t):=by
 have hf:=mz tb bs jb tv br ts x hl
 have ys:=zB X hK x i bv b hb kQ pv p hp
 have hnt:=fun a n c=>wh tb bs jb tv a n c
 have Rb:=hb.1
 have Jb:=hp.1
 obtain⟨ba,bc,rfl,Re⟩:=hb.2
 obtain⟨pa,pc,rfl,afT⟩:=hp.2
 refine aD.aw Tryz.func10 Tryz.ntmps10 fun G F R hE=>?_
 refine aB rfl ?_
 refine bG zr zr bE ?_
 intro b2
 refine bG zr zr bE ?_
 intro b3
 refine bG zr zr bE ?_
 intro b4
 refine bG zr zr bE ?_
 intro b5
 cases br with
 | true =>
  refine go ?_
  refine ad hE Tryz.func10 zr zr ⟨10,ts,true,s,rfl,rfl,.inl ⟨rfl,rfl,rfl,rfl,rfl⟩⟩
 | false =>
 refine aJ (ak.pick [3,2,4,5,6,7,8,1] rfl) (go ?_)
 refine aH (U:=aR) (l:=bH x) 1 zr zr zr zr zr zr ?_
 refine aN hf ?_
 cases oY:fH ts x with
 | none =>
  refine go ?_
  refine ad hE Tryz.func10 zr zr ⟨4,ts,false,s,rfl,rfl,.inr (.inl ⟨rfl,oY,rfl,rfl,rfl,rfl⟩)⟩
 | some y =>
 obtain⟨k,hk,Bj⟩:=j5 oY
 have wu:y∈ts:=List.mem_of_getElem? hk
 have MY:=hn y wu
 have Dz:=hw y wu
 have tz:∀e ts' iZ t,(((i<0∨(y.n:Int)≤i)∧e=1∧ts'=ts∧iZ=false∧t=s)∨((0≤i∧i<y.n)∧cG y.ws y.n i=true∧e=0∧ts'=ts∧iZ=false∧t=s) ∨
  ((0≤i∧i<y.n)∧cG y.ws y.n i=false∧dw x i b p=false∧e=8∧ts'=ts∧iZ=false∧t=s) ∨
  ((0≤i∧i<y.n)∧cG y.ws y.n i=false∧dw x i b p=true∧iZ=dR e∧gi (dx (mh x i b)::dx (kY x)::iQ (bS x.d i.toNat p)) s e t∧((e≠0∧ts'=ts)∨(e=0∧ts'=ts.set k (y.put i.toNat p)))))→N7 x i b p ts s false e ts' iZ t:=fun e ts' iZ t h => .inr (.inr ⟨rfl,k,y,oY,hk,Bj,h⟩)
 refine go ?_
 refine ai (ak.pick [2,0,1,5,6] rfl) ?_
 refine ai (kq hk _) ?_
 refine eB (fQ y) ?_
 rintro⟨wv,cs,M⟩ hz
 have iG:∀H,ak (ae y.yb (cl (nA y) 80)::ae y.sb (cl [.int .i64 (y.n:Int),wv] 137)::aF 133 1 wv y.ws.length (qV y.ws)::aL (Value.int .i64) y.mb cs::bh 37 M::bD (ts.take k++ts.drop (k+1))::H) (bD ts::H):=fun H=>ak.trans (H2:=rS y (wv,cs,M)++(bD (ts.take k++ts.drop (k+1))::H)) ah (ak.trans (iM hz _) (lx hk _))
 refine aG (fun w=>Sat G w ([ae y.yb (cl (nA y) 80),ae b4 (cl [.int .i64 i] 3)])) (dj 0 8 (.act 8 (dj 9 3 .nil))) rfl aq aq aq eo ?_
 refine go ?_
 by_cases OX:i<0
 ·refine az 27 ((.bool true)) rfl ((congrArg Value.bool (decide_eq_true OX))) (go ?_)
  refine ai (iG _) ?_
  refine ad hE Tryz.func10 zr zr ⟨1,ts,false,s,rfl,rfl,tz _ _ _ _ (.inl ⟨.inl OX,rfl,rfl,rfl,rfl⟩)⟩
 refine az 27 ((.bool false)) rfl ((congrArg Value.bool (decide_eq_false OX))) (go ?_)
 refine bp (lR y.sb y.n wv) ?_
 refine go ?_
 by_cases qe:(y.n:Int)≤i
 ·refine bj 24 ((.bool true)) rfl ((congrArg Value.bool (decide_eq_true qe))) (go ?_)
  refine ai (ak.trans ah (iG (ae tb (cl [ptr bs,ptr jb,tv,.bool false] 74)::aF 76 1 tv ts.length (ts.map cT)::cR bs bd jb q mb [] s::X::F))) ?_
  refine ad hE Tryz.func10 zr zr ⟨1,ts,false,s,rfl,rfl,tz _ _ _ _ (.inl ⟨.inr qe,rfl,rfl,rfl,rfl⟩)⟩
 refine bj 24 ((.bool false)) rfl ((congrArg Value.bool (decide_eq_false qe))) ?_
 obtain⟨j,hj⟩:∃j:Nat,i=j:=⟨i.toNat,ag⟩
 have TU:i.toNat=j:=by omega
 have hrg:0≤i∧i<y.n:=by omega
 have Bo:=vG y.sb y.n wv y.ws MY Dz i
 refine go ?_
 refine aG (fun w=>Sat G w ([ae y.yb (cl (nA y) 80),ae b4 (cl [.int .i64 i] 3)])) (dj 0 5 (.act 5 (.st 6 .nil))) rfl aq aq aq eo ?_
 refine go ?_
 refine bp Bo ?_
 cases Sy:cG y.ws y.n i with
 | true =>
  refine go ?_
  refine ai (ak.trans ah (iG (ae tb (cl [ptr bs,ptr jb,tv,.bool false] 74)::aF 76 1 tv ts.length (ts.map cT)::cR bs bd jb q mb [] s::X::F))) ?_
  refine ad hE Tryz.func10 zr zr ⟨0,ts,false,s,rfl,rfl,tz _ _ _ _ (.inr (.inl ⟨hrg,Sy,rfl,rfl,rfl,rfl⟩))⟩
 | false =>
 refine go ?_
 refine aJ (ak.trans ah (iG (ae b2 (cl [ptr tb] 31)::ae b3 (cl (bH x) 39)::ae b4 (cl [.int .i64 i] 3)::ae b5 (cl [.slice ba b.length bc] 40)::ae tb (cl [ptr bs,ptr jb,tv,.bool false] 74)::aF 76 1 tv ts.length (ts.map cT)::cR bs bd jb q mb [] s::X::F))) ?_
 refine aJ (H':=ae b3 (cl (bH x) 39)::ae b4 (cl [.int .i64 i] 3)::ae b5 (cl [.slice ba b.length bc] 40)::ae b2 (cl [ptr tb] 31)::X::ae tb (cl [ptr bs,ptr jb,tv,.bool false] 74)::aF 76 1 tv ts.length (ts.map cT)::bD ts::cR bs bd jb q mb [] s::F) ah (go ?_)
 refine aH (U:=aR) (l:=bH x) 0 zr zr zr zr zr zr (go ?_)
 refine aN ys ?_
 cases K3:dw x i b p with
 | false =>
  refine go ?_
  refine ad hE Tryz.func10 zr zr ⟨8,ts,false,s,rfl,rfl,tz _ _ _ _ (.inr (.inr (.inl ⟨hrg,Sy,K3,rfl,rfl,rfl,rfl⟩)))⟩
 | true =>
 have qg:p.length≤10:=by
  grind [dw,gS,oQ]
 have K2:=B5 x.d j ag X (.slice pa p.length pc) p Jb ag
 rw[← hj]at K2
 have hkl:(bS x.d j p).length≤1000000:=by
  have:=iu 2 x.d (fp j p) (by simp[fp];omega) (ld j ag p)
  grind [bS,fp]
 refine go ?_
 refine gE rfl ?_
 refine xW 1 (fun y:(Option Addr × Nat) × (Option Addr × Nat) × Nat × Nat=>True) (fun z=>[(4,.slice pa p.length pc),(5,ptr b2),(6,ptr b3),(7,ptr b4),(8,ptr b5),(11,ptr y.yb),(12,.slice z.1.1 4 z.1.2)]) (fun z=>aF 83 1 (.slice z.1.1 4 z.1.2) 4 ([.func (.func 37) #[] #[ptr b2,ptr b3,ptr b4,ptr b5],.func (.func 39) #[] #[ptr b2,ptr b3] ]++jH z.2.2.1 z.2.2.2 jb)::aF 5 1 (.slice z.2.1.1 (bS x.d j p).length z.2.1.2) (bS x.d j p).length (bV (bS x.d j p))::ae z.2.2.1 (cl [ptr tb] 31)::ae z.2.2.2 (cl [.slice z.2.1.1 (bS x.d j p).length z.2.1.2] 40)::ae tb (cl [ptr bs,ptr jb,tv,.bool false] 74)::aF 76 1 tv ts.length (ts.map cT)::bD ts::cR bs bd jb q mb [] s::X::ae b2 (cl [ptr tb] 31)::ae b3 (cl (bH x) 39)::ae b4 (cl [.int .i64 i] 3)::ae b5 (cl [.slice ba b.length bc] 40)::F) rfl ?_ ?_
 rotate_left
 ·intro tail
  refine aG (fun w=>Sat G w ([ae b2 (cl [ptr tb] 31),ae b3 (cl (bH x) 39),ae b4 (cl [.int .i64 i] 3)])) (.st 0 (.st 1 (dj 3 5 (.fork (.act 2 (.act 8 (.act 9 (.act 10 (.st 11 .nil))))) (.act 8 (.fork (.act 2 (.act 9 (.act 10 (.st 11 .nil)))) (.act 9 (.act 2 (.act 10 (.st 11 .nil)))))))))) rfl aq aq aq eo ?_
  refine go ?_
  refine cJ (U:=aR) (cs:=dC x.d) 1 zr zr zr zr zr zr ?_
  repeat'(first|refine rh ?_ ?_|(refine ao (cs:=[.func (.func 37) #[] #[ptr b2,ptr b3,ptr b4,ptr b5],.func (.func 39) #[] #[ptr b2,ptr b3] ]) zr zr zr zr zr zr zr zr zr (fun _ w hw=>by exact hw.cL ah) ?_;intro r0)|(((refine dy K2 ?_));rintro _ _ rfl;((refine aP 0 rfl ?_));rintro a8 c8 rfl)|(((refine dy (hnt a8 (bS x.d j p).length c8) ?_));rintro _ _⟨c2,c3,row,rfl,rfl⟩)|(refine eZ ?_)|fail)
  all_goals(
   refine aJ (H':=ae r0 (cl [.func (.func 37) #[] #[ptr b2,ptr b3,ptr b4,ptr b5],.func (.func 39) #[] #[ptr b2,ptr b3] ] 83)::ae row (cl (jH c2 c3 jb) 83)::aF 5 1 (.slice a8 (bS x.d j p).length c8) (bS x.d j p).length (bV (bS x.d j p))::ae c2 (cl [ptr tb] 31)::ae c3 (cl [.slice a8 (bS x.d j p).length c8] 40)::ae tb (cl [ptr bs,ptr jb,tv,.bool false] 74)::aF 76 1 tv ts.length (ts.map cT)::bD ts::cR bs bd jb q mb [] s::X::ae b2 (cl [ptr tb] 31)::ae b3 (cl (bH x) 39)::ae b4 (cl [.int .i64 i] 3)::ae b5 (cl [.slice ba b.length bc] 40)::F) ah ?_
   refine aJ (eS 83 1 r0 2 2 [.func (.func 37) #[] #[ptr b2,ptr b3,ptr b4,ptr b5],.func (.func 39) #[] #[ptr b2,ptr b3] ] [] _ rfl (Nat.le_refl _) (by simp)) ?_
   refine aT (mm:=2) (news:=jH c2 c3 jb) 0 1 rfl rfl rfl rfl rfl rfl rfl rfl rfl rfl rfl rfl (Vw.ae rfl) rfl (by intro v hv;simp[jH]at hv;rcases hv with rfl|rfl <;> rfl) ag (by show(_+_)*8≤_;omega) (fun _=>rfl) (fun _ w hw=>by exact hw.cL ah) ?_
   intro v1
   refine aP 0 rfl ?_
   rintro ja jc rfl
   refine ln ?_
   refine jX tail ((ja,jc),(a8,c8),c2,c3) rfl trivial ck ah)
 rintro⟨⟨ja,jc⟩,⟨a8,c8⟩,c2,c3⟩ -
 refine dg 0 rfl ?_
 intro vI
 refine qU (bs:=(bS x.d j p)) 1 rfl ?_
 intro O0
 have kh:=PC tb bs jb bd tv q mb s 37 39 [ptr b2,ptr b3,ptr b4,ptr b5] [ptr b2,ptr b3] c2 c3 _ [X,ae b2 (cl [ptr tb] 31),ae b3 (cl (bH x) 39),ae b4 (cl [.int .i64 i] 3),ae b5 (cl [.slice ba b.length bc] 40)] (dx (mh x i b)) (dx (kY x)) a8 c8 (bS x.d j p) O0 hkl m hm hx
  (Mq X tb bs jb bd b2 b3 b4 b5 q mb tv s x i ba bc b _ _ _ Rb ag hi ag ag) (fun u hu=>Mo tb bs jb bd b2 b3 q mb tv u x _ _ _ X _ _ (by have:=(oU hu.1).1;omega) (by have:=(oU hu.1).2;omega)) _ _ vI
 refine ai (ak.pick [9] rfl) (go ?_)
 refine aJ (ak.pick [8,3,4,2,9,0,10,11,12] rfl) ?_
 refine aJ (AK bs bd jb q mb _ s _) ?_
 refine aI kh ?_
 rintro _ _⟨e,t,rfl,rfl,hR⟩
 refine aJ (H':=cR bs bd jb q mb [ae c2 (cl [ptr tb] 31),ae c3 (cl [.slice a8 (bS x.d j p).length c8] 40),aF 5 1 (.slice a8 (bS x.d j p).length c8) (bS x.d j p).length (bV (bS x.d j p)),X,ae b2 (cl [ptr tb] 31),ae b3 (cl (bH x) 39),ae b4 (cl [.int .i64 i] 3),ae b5 (cl [.slice ba b.length bc] 40)] t::ae tb (cl [ptr bs,ptr jb,tv,.bool (dR e)] 74)::aF 76 1 tv ts.length (ts.map cT)::bD ts::F) ah ?_
 refine aJ (vo bs bd jb q mb _ t _) ?_
 have gD:gi (dx (mh x i b)::dx (kY x)::iQ (bS x.d i.toNat p)) s e t:=by rw[TU];exact hR
 by_cases he:e=0
 ·subst he
  have wA:=EL y j ag MY Dz X (.slice pa p.length pc) p Jb ag
  rw[← hj]at wA
  refine aJ (H':=bD ts::ae b4 (cl [.int .i64 i] 3)::ae tb (cl [ptr bs,ptr jb,tv,.bool (dR 0)] 74)::aF 76 1 tv ts.length (ts.map cT)::cR bs bd jb q mb [] t::X::F) ah ?_
  refine aJ (kq hk _) ?_
  refine aJ (H':=ae b4 (cl [.int .i64 i] 3)::rn y::bD (ts.take k++ts.drop (k+1))::ae tb (cl [ptr bs,ptr jb,tv,.bool (dR 0)] 74)::aF 76 1 tv ts.length (ts.map cT)::cR bs bd jb q mb [] t::X::F) ah (go ?_)
  refine aN wA ?_
  refine aJ (H':=rn (y.put j p)::bD (ts.take k++ts.drop (k+1))::ae tb (cl [ptr bs,ptr jb,tv,.bool (dR 0)] 74)::aF 76 1 tv ts.length (ts.map cT)::cR bs bd jb q mb [] t::X::F) ah ?_
  refine aJ (Kr hk (y.put j p) _) ?_
  have fL:(ts.set k (y.put j p)).length=ts.length:=List.length_set
  have xM:(ts.set k (y.put j p)).map cT=ts.map cT:=by
   rw[List.map_set]
   exact List.mL (by rw[List.getElem?_map,hk];rfl)
  refine go ?_
  refine ai (H':=ae tb (cl [ptr bs,ptr jb,tv,.bool (dR 0)] 74)::aF 76 1 tv (ts.set k (y.put j p)).length ((ts.set k (y.put j p)).map cT)::bD (ts.set k (y.put j p))::cR bs bd jb q mb [] t::X::F) (by rw[fL,xM];exact ah) ?_
  refine ad hE Tryz.func10 zr zr ⟨0,ts.set k (y.put j p),dR 0,t,rfl,rfl,tz _ _ _ _ (.inr (.inr (.inr ⟨hrg,Sy,K3,rfl,gD,.inr ⟨rfl,by rw[TU]⟩⟩)))⟩
 ·refine aJ (H':=ae tb (cl [ptr bs,ptr jb,tv,.bool (dR e)] 74)::aF 76 1 tv ts.length (ts.map cT)::bD ts::cR bs bd jb q mb [] t::X::F) ah (go ?_)
  refine au zr zr ?_ ?_
  ·intro _
   refine go ?_
   refine ad hE Tryz.func10 zr zr ⟨e,ts,dR e,t,rfl,rfl,tz _ _ _ _ (.inr (.inr (.inr ⟨hrg,Sy,K3,rfl,gD,.inl ⟨he,rfl⟩⟩)))⟩
  grind
end Go.Proofs.YthnfckodljbgbaaGreatDoor
namespace Go.Proofs.YthnfckodljbgbaaGreatDoor
open Go Go.SL
def Qa(w:jB):orW w w=w:=by unfold orW;exact BitVec.or_self
attribute [local irreducible] J K aD Ends ae aF aL bU bo aU bh bq cg aE
def OM(sb n:Nat)(wv:Value)(ws:List jB)(hl:ws.length≤65536):aD Tryz.prog 167 [ptr sb,ptr sb,.func (.func 168) #[] #[] ] (eF sb n wv ws) (fun r H=>∃ob ov,r = .tuple #[ptr ob,.int .i64 0]∧H=eF ob n ov ws++eF sb n wv ws):=by
 unfold eF
 refine aD.aw Tryz.func167 Tryz.ntmps167 fun G F R hE=>?_
 refine dN 1 rfl ?_
 rintro a c rfl
 refine dg 1 rfl ?_
 intro dO
 have ki:=U0 (aF 133 1 (.slice a ws.length c) ws.length (qV ws)) (.slice a ws.length c) ws dO ag
 refine go ?_
 refine aG (fun w=>Sat G w ([ae sb (cl [.int .i64 (n:Int),.slice a ws.length c] 137)])) (dj 0 13 .nil) rfl aq aq aq eo ?_
 refine go ?_
 refine bj 23 ((.bool false)) rfl ((congrArg Value.bool (decide_eq_false (by simp)))) (go ?_)
 refine aG (fun w=>Sat G w ([ae sb (cl [.int .i64 (n:Int),.slice a ws.length c] 137)])) (dj 0 8 (.act 8 (.st 9 (.act 10 (.st 11 .nil))))) rfl aq aq aq eo ?_
 refine go ?_
 refine dy ki ?_
 rintro ov _ rfl
 refine aP 0 rfl ?_
 rintro oa oc rfl
 refine go ?_
 refine bG zr zr (fun _ w hw=>hw.cL ah) ?_
 intro ob
 refine go ?_
 refine bB (fun i:Nat=>i≤ws.length) (fun i=>ws.length-i) (fun i=>[(2,.func (.func 168) #[] #[]),(8,ptr ob),(38,.slice a ws.length c),(39,.int .i64 (ws.length:Int)),(40,.int .i64 (i:Int))])
  (fun _=>ae ob (cl [.int .i64 (n:Int),.slice oa ws.length oc] 137)::aF 133 1 (.slice oa ws.length oc) ws.length (qV ws)::ae sb (cl [.int .i64 (n:Int),.slice a ws.length c] 137)::aF 133 1 (.slice a ws.length c) ws.length (qV ws)::F) 0 (Nat.zero_le _) rfl ck ah ?_
 intro i hi ih
 refine go ?_
 refine au zr zr ?_ ?_
 ·intro dJ
  have gz:i<ws.length:=by omega
  obtain⟨w,Vd⟩:∃w,ws[i]?=some w:=⟨ws[i],by simp⟩
  have dK:=Dl Vd
  refine dg 1 rfl ?_
  intro hvo
  obtain⟨b1,o1,c1,DK⟩:=dO.some (qNe gz)
  simp only[Value.slice.injEq,true_and]at DK
  obtain⟨rfl,rfl⟩:=DK
  obtain⟨b3,o3,c3,VA⟩:=hvo.some (qNe gz)
  simp only[Value.slice.injEq,true_and]at VA
  obtain⟨rfl,rfl⟩:=VA
  refine go ?_
  refine bR i zr zr zr zr zr zr zr zr gz ?_
  refine aK ?_
  refine aX 3 i zr zr zr dO rfl dK zr zr (go ?_)
  refine aG (fun w=>Sat G w ([ae ob (cl [.int .i64 (n:Int),.slice (some ⟨b3,o3,none⟩) ws.length oc] 137),aF 133 1 (.slice (some ⟨b3,o3,none⟩) ws.length oc) ws.length (qV ws)])) (dj 0 14 (.act 14 (.st 15 (.act 16 .nil)))) rfl aq aq aq eo ?_
  (repeat(first|refine eZ ?_|refine bR i zr zr zr zr zr zr zr zr gz ?_|(refine aK ?_;refine bW 1 i zr zr zr hvo rfl dK zr zr ?_)))
  refine vC rfl rfl rfl rfl (UN w w) ah ?_ (fun _ _ w' hp hw=>by obtain⟨_,rfl⟩:=hp;exact hw.cL ah)
  rintro _ _⟨rfl,rfl⟩
  rw[Qa]
  (repeat((refine bR i zr zr zr zr zr zr zr zr gz ?_)))
  refine aV ?_
  refine pW (U:=aR) (q:=i) 1 gf zr zr zr zr zr zr zr gz rfl ?_
  rw[show(qV ws).set i (.int .u64 (w.toNat:Int))=qV ws from List.mL dK]
  refine go ?_
  refine aM ih (i+1) rfl ag ag ck ah
 ·intro fO
  clear ih
  refine go ?_
  refine ad hE Tryz.func167 zr zr ⟨ob,_,rfl,rfl⟩
def U1(sb n:Nat)(wv:Value)(ws:List jB)(hl:ws.length≤65536):aD Tryz.prog 107 [ptr sb,ptr sb] (eF sb n wv ws) (fun r H=>∃ob ov,r = .tuple #[ptr ob,.int .i64 0]∧H=eF ob n ov ws++eF sb n wv ws):=by
 have hj:=OM sb n wv ws hl
 unfold eF at hj ⊢
 refine aD.aw Tryz.func107 Tryz.ntmps107 fun G F R hE=>?_
 refine go ?_
 refine aI hj ?_
 rintro _ _⟨ob,ov,rfl,rfl⟩
 refine go ?_
 refine ad hE Tryz.func107 zr zr ⟨ob,_,rfl,rfl⟩
def VR(r:Value)(o:Option Tk)(H Hb:List HP):Prop:=match o with
 | none=>r = .tuple #[.pointer none,.int .i64 4]∧H=Hb
 | some y=>∃ob ov,r = .tuple #[ptr ob,.int .i64 0]∧H=eF ob y.n ov y.ws++Hb
def OJ(tb bs jb:Nat)(tv:Value)(br:Bool)(ts:List Tk)(x:Bl)(hl:ts.length≤1000000)(hw:∀y∈ts,y.ws.length≤65536) :
  aD Tryz.prog 52 [ptr tb,dG x] (fe tb bs jb tv ts br) (fun r H=>VR r (fH ts x) H (fe tb bs jb tv ts br)):=by
 have hf:=mz tb bs jb tv br ts x hl
 unfold fe dG at hf ⊢
 refine aD.aw Tryz.func52 Tryz.ntmps52 fun G F R hE=>?_
 refine aB rfl ?_
 refine bG zr zr bE ?_
 intro b3
 refine go ?_
 refine aH (U:=aR) (l:=bH x) 0 zr zr zr zr zr zr ?_
 refine aN hf ?_
 cases oY:fH ts x with
 | none =>
  rw[oY]at hE
  unfold SR
  refine go ?_
  refine ad hE Tryz.func52 zr zr ⟨rfl,rfl⟩
 | some y =>
  rw[oY]at hE
  obtain⟨k,hk,hx⟩:=j5 oY
  have Dz:=hw y (List.mem_of_getElem? hk)
  unfold SR
  refine go ?_
  refine ai (H':=bD ts::ae tb (cl [ptr bs,ptr jb,tv,.bool br] 74)::aF 76 1 tv ts.length (ts.map cT)::F) ah ?_
  refine ai (kq hk _) ?_
  refine eB (fQ y) ?_
  rintro⟨wv,cs,M⟩ hz
  have iG:∀H,ak (ae y.yb (cl (nA y) 80)::ae y.sb (cl [.int .i64 (y.n:Int),wv] 137)::aF 133 1 wv y.ws.length (qV y.ws)::aL (Value.int .i64) y.mb cs::bh 37 M::bD (ts.take k++ts.drop (k+1))::H) (bD ts::H):=fun H=>ak.trans (H2:=rS y (wv,cs,M)++(bD (ts.take k++ts.drop (k+1))::H)) (by unfold rS;exact ah) (ak.trans (iM hz _) (lx hk _))
  refine ai (H':=ae y.yb (cl (nA y) 80)::ae y.sb (cl [.int .i64 (y.n:Int),wv] 137)::aF 133 1 wv y.ws.length (qV y.ws)::aL (Value.int .i64) y.mb cs::bh 37 M::bD (ts.take k++ts.drop (k+1))::ae tb (cl [ptr bs,ptr jb,tv,.bool br] 74)::aF 76 1 tv ts.length (ts.map cT)::F) (by unfold rS;exact ah) ?_
  have hor:=U1 y.sb y.n wv y.ws Dz
  unfold eF at hor
  refine aG (fun w=>Sat G w ([ae y.yb (cl (nA y) 80)])) (dj 0 8 (.act 8 (dj 9 4 .nil))) rfl aq aq aq eo ?_
  refine go ?_
  refine dy hor ?_
  rintro _ _⟨ob,ov,rfl,rfl⟩
  refine go ?_
  refine ai (ak.trans ah (iG (ae ob (cl [.int .i64 (y.n:Int),ov] 137)::aF 133 1 ov y.ws.length (qV y.ws)::ae tb (cl [ptr bs,ptr jb,tv,.bool br] 74)::aF 76 1 tv ts.length (ts.map cT)::F))) ?_
  refine ai (H':=eF ob y.n ov y.ws++([ae tb (cl [ptr bs,ptr jb,tv,.bool br] 74),aF 76 1 tv ts.length (ts.map cT),bD ts]++F)) (by unfold eF;exact ah) ?_
  refine ad hE Tryz.func52 zr zr ⟨ob,ov,rfl,rfl⟩
def L1{ts:List Tk}{i:Nat}{y:Tk}(h:ts[i]?=some y):((ts.take (i+1)).map Tk.x).flatMap bH=((ts.take i).map Tk.x).flatMap bH++bH y.x:=by rw[List.take_add_one,h];simp
def Kj(tb bs jb:Nat)(tv:Value)(br:Bool)(ts:List Tk)(hl:ts.length≤1000000) :
  aD Tryz.prog 51 [ptr tb] (fe tb bs jb tv ts br) (fun r H=>H=aF 39 66 r ts.length ((ts.map Tk.x).flatMap bH)::fe tb bs jb tv ts br):=by
 unfold fe
 refine aD.aw Tryz.func51 Tryz.ntmps51 fun G F R hE=>?_
 refine dN 1 rfl ?_
 rintro a c rfl
 refine dg 1 rfl ?_
 intro dO
 refine go ?_
 refine ai (bK 39 66 none _) ?_
 refine bB (fun y:Nat × Option Addr × Nat=>y.1≤ts.length) (fun y=>ts.length-y.1) (fun y=>[(3,.slice y.2.1 y.1 y.2.2),(9,.slice a ts.length c),(10,.int .i64 (ts.length:Int)),(11,.int .i64 (y.1:Int))])
  (fun y=>aF 39 66 (.slice y.2.1 y.1 y.2.2) y.1 (((ts.take y.1).map Tk.x).flatMap bH)::aF 76 1 (.slice a ts.length c) ts.length (ts.map cT)::bD ts::ae tb (cl [ptr bs,ptr jb,.slice a ts.length c,.bool br] 74)::F) (0,none,0) (Nat.zero_le _) rfl ck ah ?_
 rintro⟨i,oa,oc⟩ hi ih
 simp only at hi
 dsimp only
 refine go ?_
 refine au zr zr ?_ ?_
 ·intro dJ
  have gz:i<ts.length:=by omega
  obtain⟨y,hx⟩:∃x,ts[i]?=some x:=⟨ts[i],by simp[gz]⟩
  have kU:=L1 hx
  have kQ:(bH y.x).length=66:=rfl
  obtain⟨b,o,gZ,fL⟩:=dO.some (Pe gz)
  simp only[Value.slice.injEq]at fL
  obtain⟨rfl,_,rfl⟩:=fL
  refine go ?_
  refine bR i zr zr zr zr zr zr zr zr gz ?_
  refine aK ?_
  refine aX 1 i zr zr zr dO rfl (rl hx) zr zr (go ?_)
  refine aJ (H':=bD ts::aF 39 66 (.slice oa i oc) i (((ts.take i).map Tk.x).flatMap bH)::aF 76 1 (.slice (some ⟨b,o,none⟩) ts.length c) ts.length (ts.map cT)::ae tb (cl [ptr bs,ptr jb,.slice (some ⟨b,o,none⟩) ts.length c,.bool br] 74)::F) ah ?_
  refine aJ (kq hx _) ?_
  refine Ej (fQ y) ?_
  rintro z hz
  refine aJ (H':=ae y.yb (cl (nA y) 80)::aF 39 66 (.slice oa i oc) i (((ts.take i).map Tk.x).flatMap bH)::ae y.sb (cl [.int .i64 (y.n:Int),z.1] 137)::aF 133 1 z.1 y.ws.length (qV y.ws)::aL (Value.int .i64) y.mb z.2.1::bh 37 z.2.2::bD (ts.take i++ts.drop (i+1))::aF 76 1 (.slice (some ⟨b,o,none⟩) ts.length c) ts.length (ts.map cT)::ae tb (cl [ptr bs,ptr jb,.slice (some ⟨b,o,none⟩) ts.length c,.bool br] 74)::F) ah (go ?_)
  refine dT (cs:=bH y.x) 0 zr zr zr zr zr zr ?_
  refine ao (cs:=bH y.x) zr zr zr zr zr zr zr zr zr bE ?_
  intro row
  refine go ?_
  refine aT (mm:=1) (news:=bH y.x) 2 0 zr zr zr zr zr zr zr zr zr zr zr zr (Vw.ae rfl) rfl (by have:=Lx [y.x];simpa using this) ag (by show(_+_)*80≤_;omega) (fun _=>rfl) bE ?_
  intro v1
  rw[← kU]
  refine aP 2 rfl ?_
  rintro ja jc rfl
  refine go ?_
  refine ai (H':=rS y z++(bD (ts.take i++ts.drop (i+1))::aF 39 66 (.slice ja (i+1) jc) (i+1) (((ts.take (i+1)).map Tk.x).flatMap bH)::aF 76 1 (.slice (some ⟨b,o,none⟩) ts.length c) ts.length (ts.map cT)::ae tb (cl [ptr bs,ptr jb,.slice (some ⟨b,o,none⟩) ts.length c,.bool br] 74)::F)) (by unfold rS;exact ah) ?_
  refine ai (iM hz _) ?_
  refine ai (lx hx _) ?_
  refine aM ih (i+1,ja,jc) rfl (by simp only;omega) (by simp only;omega) ck ah
 ·intro fO
  have tR:i=ts.length:=by omega
  subst tR
  rw[List.take_length]
  clear ih
  refine go ?_
  refine aO hE Tryz.func51 rfl _ zr zr ah
end Go.Proofs.YthnfckodljbgbaaGreatDoor
namespace Go.Proofs.YthnfckodljbgbaaGreatDoor
open Go Go.SL
def Ea(bs bd jb:Nat)(q:Int)(mb:Nat)(x:SJ)(F:List HP):ak (cR bs bd jb q mb [] x::F) (du bs bd q mb x.1++(rT jb bd cZ x.2::F)):=by
 refine(ak.cK _ _).trans ?_
 exact ak.refl _
def tJ(bs bd jb:Nat)(q:Int)(mb:Nat)(x:SJ)(F:List HP):ak (du bs bd q mb x.1++(rT jb bd cZ x.2::F)) (cR bs bd jb q mb [] x::F):=by
 refine ak.trans ?_ (ak.bX _ _)
 exact ak.refl _
def eC(s:fg)(ts:List Tk)(x:Bl)(i:Int):List UInt8 × List Dg × Nat:=match fH ts x with
 | none=>([],[],4)
 | some y=>if cG y.ws y.n i then(if(cB s x i).2=0 then((cB s x i).1,(y.pf i).getD [],0)else([],[],(cB s x i).2))else([],[],4)
theorem LA.look{z:Value × List (Int × Value) × fW}{y:Tk}(h:LA z y)(i:Int):∃v,(dP z.2.1 i).getD (.slice none 0 0)=v∧EG z.2.2 32 v ((y.pf i).getD []).length (((y.pf i).getD []).flatMap dC):=by
 have:=h i
 cases hx:dP z.2.1 i with
 | none =>
  grind [EG.nil]
 | some v =>
  grind
attribute [local irreducible] J K aD Ends ae aF aL bU bo aU bh bq cg aE cR
def J5(tb bs jb bd:Nat)(tv:Value)(q:Int)(mb:Nat)(ts:List Tk)(br:Bool)(s:SJ)(x:Bl)(i:Int)(hl:ts.length≤1000000)(hn:∀y∈ts,y.n≤65536)(hw:∀y∈ts,y.n≤y.ws.length*64)(hpf:∀y∈ts,∀k l,y.pf k=some l→l.length≤1000000) :
  aD Tryz.prog 54 [ptr tb,dG x,.int .i64 i] (fe tb bs jb tv ts br++[cR bs bd jb q mb [] s])
  (fun r H=>∃v1 v2,r = .tuple #[v1,v2,.int .i64 ((eC s.1 ts x i).2.2:Int)]∧H=aF 5 1 v1 (eC s.1 ts x i).1.length (bV (eC s.1 ts x i).1)::aF 37 32 v2 (eC s.1 ts x i).2.1.length ((eC s.1 ts x i).2.1.flatMap dC)::(fe tb bs jb tv ts br++[cR bs bd jb q mb [] s])):=by
 have hf:=mz tb bs jb tv br ts x hl
 have hsg:=AH bs bd q mb s.1 x i
 unfold fe dG at hf
 unfold dG at hsg
 unfold fe dG
 refine aD.aw Tryz.func54 Tryz.ntmps54 fun G F R hE=>?_
 refine aB rfl ?_
 refine bG zr zr bE ?_
 intro b4
 refine go ?_
 refine aH (U:=aR) (l:=bH x) 0 zr zr zr zr zr zr ?_
 refine aN hf ?_
 cases oY:fH ts x with
 | none =>
  rw[show eC s.1 ts x i=([],[],4)from by unfold eC;rw[oY]]at hE
  unfold SR
  refine go ?_
  refine ai (ak.trans (bK 5 1 none _) (ak.cons _ (bK 37 32 none _))) ?_
  refine ad hE Tryz.func54 zr zr ⟨_,_,rfl,rfl⟩
 | some y =>
 obtain⟨k,hk,Bj⟩:=j5 oY
 have wu:=List.mem_of_getElem? hk
 have MY:=hn y wu
 have Dz:=hw y wu
 have hyp:=hpf y wu
 unfold SR
 refine go ?_
 refine aJ (H':=bD ts::ae tb (cl [ptr bs,ptr jb,tv,.bool br] 74)::aF 76 1 tv ts.length (ts.map cT)::cR bs bd jb q mb [] s::ae b4 (cl (bH x) 39)::F) ah ?_
 refine aJ (kq hk _) ?_
 refine Ej (fQ y) ?_
 rintro⟨wv,cs,M⟩ hz
 have iG:∀H,ak (ae y.yb (cl (nA y) 80)::ae y.sb (cl [.int .i64 (y.n:Int),wv] 137)::aF 133 1 wv y.ws.length (qV y.ws)::aL (Value.int .i64) y.mb cs::bh 37 M::bD (ts.take k++ts.drop (k+1))::H) (bD ts::H):=fun H=>ak.trans (H2:=rS y (wv,cs,M)++(bD (ts.take k++ts.drop (k+1))::H)) (by unfold rS;exact ah) (ak.trans (iM hz _) (lx hk _))
 ((refine aJ (H':=ae y.yb (cl (nA y) 80)::ae y.sb (cl [.int .i64 (y.n:Int),wv] 137)::aF 133 1 wv y.ws.length (qV y.ws)::aL (Value.int .i64) y.mb cs::bh 37 M::bD (ts.take k++ts.drop (k+1))::ae tb (cl [ptr bs,ptr jb,tv,.bool br] 74)::aF 76 1 tv ts.length (ts.map cT)::cR bs bd jb q mb [] s::ae b4 (cl (bH x) 39)::F) ((by unfold rS;exact ah)) ?_))
 have Bo:=vG y.sb y.n wv y.ws MY Dz i
 unfold eF at Bo
 refine go ?_
 refine aN Bo ?_
 cases Sy:cG y.ws y.n i with
 | false =>
  rw[show eC s.1 ts x i=([],[],4)from by unfold eC;rw[oY];simp only;rw[Sy];rfl]at hE
  refine go ?_
  refine ai (ak.trans ah (iG (ae tb (cl [ptr bs,ptr jb,tv,.bool br] 74)::aF 76 1 tv ts.length (ts.map cT)::cR bs bd jb q mb [] s::F))) ?_
  refine ai (ak.trans (bK 5 1 none _) (ak.cons _ (bK 37 32 none _))) ?_
  refine ai (H':=aF 5 1 (.slice none 0 0) 0 []::aF 37 32 (.slice none 0 0) 0 []::ae tb (cl [ptr bs,ptr jb,tv,.bool br] 74)::aF 76 1 tv ts.length (ts.map cT)::bD ts::cR bs bd jb q mb [] s::F) ah ?_
  refine ad hE Tryz.func54 zr zr ⟨_,_,rfl,rfl⟩
 | true =>
 refine go ?_
 refine ai (H':=cR bs bd jb q mb [] s::ae b4 (cl (bH x) 39)::ae tb (cl [ptr bs,ptr jb,tv,.bool br] 74)::ae y.yb (cl (nA y) 80)::ae y.sb (cl [.int .i64 (y.n:Int),wv] 137)::aF 133 1 wv y.ws.length (qV y.ws)::aL (Value.int .i64) y.mb cs::bh 37 M::bD (ts.take k++ts.drop (k+1))::aF 76 1 tv ts.length (ts.map cT)::F) ah ?_
 refine ai (Ea bs bd jb q mb s _) ?_
 obtain⟨St,hSt⟩:∃St,St=du bs bd q mb s.1:=⟨_,rfl⟩
 refine ai (H':=ae b4 (cl (bH x) 39)::ae tb (cl [ptr bs,ptr jb,tv,.bool br] 74)::(du bs bd q mb s.1++(rT jb bd cZ s.2::ae y.yb (cl (nA y) 80)::ae y.sb (cl [.int .i64 (y.n:Int),wv] 137)::aF 133 1 wv y.ws.length (qV y.ws)::aL (Value.int .i64) y.mb cs::bh 37 M::bD (ts.take k++ts.drop (k+1))::aF 76 1 tv ts.length (ts.map cT)::F))) ah ?_
 refine aG (fun w=>Sat G w ([ae tb (cl [ptr bs,ptr jb,tv,.bool br] 74),ae b4 (cl (bH x) 39)])) (dj 0 6 (.act 6 (dj 7 5 .nil))) rfl aq aq aq eo ?_
 refine go ?_
 refine bT (U:=aR) (l:=bH x) 1 zr zr zr zr zr zr (go ?_)
 ((refine fk zr zr zr zr (hsg) ah ?_ (fun _ _ w hp hw=>by obtain⟨_,rfl,rfl⟩:=hp;exact hw.cL ah)))
 rintro _ _⟨rv,rfl,rfl⟩
 by_cases he:(cB s.1 x i).2=0
 case neg =>
  rw[show eC s.1 ts x i=([],[],(cB s.1 x i).2)from by unfold eC;rw[oY];simp only;rw[Sy,if_pos rfl,if_neg he]]at hE
  refine go ?_
  refine au zr zr ?_ ?_
  case' refine_2=>(intro h;exfalso;omega)
  intro _
  refine go ?_
  refine ai (ak.trans ah (tJ bs bd jb q mb s (ae y.yb (cl (nA y) 80)::ae y.sb (cl [.int .i64 (y.n:Int),wv] 137)::aF 133 1 wv y.ws.length (qV y.ws)::aL (Value.int .i64) y.mb cs::bh 37 M::bD (ts.take k++ts.drop (k+1))::ae tb (cl [ptr bs,ptr jb,tv,.bool br] 74)::aF 76 1 tv ts.length (ts.map cT)::F))) ?_
  refine ai (ak.trans ah (iG (ae tb (cl [ptr bs,ptr jb,tv,.bool br] 74)::aF 76 1 tv ts.length (ts.map cT)::cR bs bd jb q mb [] s::F))) ?_
  refine ai (ak.trans (bK 5 1 none _) (ak.cons _ (bK 37 32 none _))) ?_
  refine ai (H':=aF 5 1 (.slice none 0 0) 0 []::aF 37 32 (.slice none 0 0) 0 []::ae tb (cl [ptr bs,ptr jb,tv,.bool br] 74)::aF 76 1 tv ts.length (ts.map cT)::bD ts::cR bs bd jb q mb [] s::F) ah ?_
  refine ad hE Tryz.func54 zr zr ⟨_,_,rfl,rfl⟩
 have Jb:eC s.1 ts x i=((cB s.1 x i).1,(y.pf i).getD [],0):=by unfold eC;rw[oY];simp only;rw[Sy,if_pos rfl,if_pos he]
 rw[Jb]at hE
 rw[he]
 obtain⟨pv,M5,Gg⟩:=hz.look i
 simp only at M5 Gg
 have ki:=AZ (bh 37 M) pv ((y.pf i).getD []) (Gg.view _) (by cases h:y.pf i with|none=>simp|some l=>exact hyp i l h)
 obtain⟨pa,pc,rfl,_⟩:=Gg.shape
 refine aJ (H':=ae y.yb (cl (nA y) 80)::ae y.sb (cl [.int .i64 (y.n:Int),wv] 137)::aF 133 1 wv y.ws.length (qV y.ws)::aL (Value.int .i64) y.mb cs::bh 37 M::bD (ts.take k++ts.drop (k+1))::aF 5 1 rv (cB s.1 x i).1.length (bV (cB s.1 x i).1)::(du bs bd q mb s.1++(rT jb bd cZ s.2::ae tb (cl [ptr bs,ptr jb,tv,.bool br] 74)::aF 76 1 tv ts.length (ts.map cT)::F))) ah (go ?_)
 refine iX (kv:=Value.int .i64) (es:=cs) (key:=i) 3 rfl (tw Tryz.underlying3) zr zr zr zr zr zr zr zr ?_
 refine az 45 ((.slice pa ((y.pf i).getD []).length pc)) rfl (M5) (go ?_)
 refine aI ki ?_
 rintro pr _ rfl
 refine go ?_
 refine ai (ak.trans ah (tJ bs bd jb q mb s (ae y.yb (cl (nA y) 80)::ae y.sb (cl [.int .i64 (y.n:Int),wv] 137)::aF 133 1 wv y.ws.length (qV y.ws)::aL (Value.int .i64) y.mb cs::bh 37 M::bD (ts.take k++ts.drop (k+1))::aF 5 1 rv (cB s.1 x i).1.length (bV (cB s.1 x i).1)::aF 37 32 pr ((y.pf i).getD []).length (((y.pf i).getD []).flatMap dC)::ae tb (cl [ptr bs,ptr jb,tv,.bool br] 74)::aF 76 1 tv ts.length (ts.map cT)::F))) ?_
 refine ai (ak.trans ah (iG (aF 5 1 rv (cB s.1 x i).1.length (bV (cB s.1 x i).1)::aF 37 32 pr ((y.pf i).getD []).length (((y.pf i).getD []).flatMap dC)::ae tb (cl [ptr bs,ptr jb,tv,.bool br] 74)::aF 76 1 tv ts.length (ts.map cT)::cR bs bd jb q mb [] s::F))) ?_
 refine ai (H':=aF 5 1 rv (cB s.1 x i).1.length (bV (cB s.1 x i).1)::aF 37 32 pr ((y.pf i).getD []).length (((y.pf i).getD []).flatMap dC)::ae tb (cl [ptr bs,ptr jb,tv,.bool br] 74)::aF 76 1 tv ts.length (ts.map cT)::bD ts::cR bs bd jb q mb [] s::F) ah ?_
 refine ad hE Tryz.func54 zr zr ⟨_,_,rfl,rfl⟩
end Go.Proofs.YthnfckodljbgbaaGreatDoor
namespace Go.Proofs.YthnfckodljbgbaaGreatDoor
open Go Go.SL
def hz(b:List UInt8):Dg:=(ix b).getD Dg.zero
def IT(m:List UInt8)(l:List (List UInt8)):Bool:=(qx m).isSome && l.all fun b=>(ix b).isSome
def Tg(m:List UInt8)(l:List (List UInt8))(b:List UInt8):IT m (l++[b])=(IT m l && (ix b).isSome):=by unfold IT;simp[Bool.and_assoc]
theorem uQ:∀(l:List (List UInt8)),(l.all fun b=>(ix b).isSome)=true→nJ l=some (l.map hz)
 | [],_=>rfl
 | b::l,h=>by
  rw[List.all_cons,Bool.and_eq_true]at h
  unfold nJ
  rw[uQ l h.2]
  grind [hz,ix]
def uR:∀(l:List (List UInt8)),(l.all fun b=>(ix b).isSome)=false→nJ l=none
 | [],h=>by cases h
 | b::l,h=>by
  unfold nJ
  cases hb:ix b with
  | none=>rfl
  | some d =>
   rw[List.all_cons,hb]at h
   rw[uR l (by simpa using h)]
def fP(ok:Bool)(d:Dg)(i:Nat)(p:List Dg)(y:Tk):Tk:=if ok=true∧y.x.d=d∧i<y.n∧p.length=dB y.n i then y.put i p else y
def adr(ok:Bool)(d:Dg)(i:Nat)(p:List Dg)(y:Tk):(fP ok d i p y).yb=y.yb:=by unfold fP;split <;> rfl
def lX(f:Tk→Tk)(j:Nat)(ts:List Tk):List Tk:=(ts.take j).map f++ts.drop j
theorem Qu(f:Tk→Tk)(j:Nat)(ts:List Tk):(lX f j ts)[j]?=ts[j]? := by
 grind [lX]
def Qt(f:Tk→Tk){j:Nat}{ts:List Tk}{y:Tk}(h:ts[j]?=some y):(lX f j ts).set j (f y)=lX f (j+1) ts:=by
 obtain⟨hj,rfl⟩:=List.getElem?_eq_some_iff.1 h
 unfold lX
 rw[List.set_append_right _ _ (by rw[List.length_map,List.length_take];omega),List.length_map,List.length_take,Nat.min_eq_left ag,Nat.sub_self,List.drop_eq_getElem_cons hj,List.set_cons_zero,List.take_add_one,h,Option.toList_some,List.map_append,List.append_assoc]
 rfl
def FW(f:Tk→Tk)(ts:List Tk):lX f ts.length ts=ts.map f:=by unfold lX;simp
theorem Qs(f:Tk→Tk)(hf:∀y,(f y).yb=y.yb)(j:Nat)(ts:List Tk):(lX f j ts).map cT=ts.map cT:=by
 unfold lX
 conv=>rhs;rw[← List.take_append_drop j ts]
 rw[List.map_append,List.map_append,List.map_map]
 congr 1
 refine List.map_congr_left fun y _=>?_
 grind [cT]
theorem IM(ts:List Tk)(d:Dg)(m:List UInt8)(l:List (List UInt8))(k:Nat)(hk:∀n,qx m=some n→k=n):dE (ts.map (fP (IT m l) d k (l.map hz)))=lV (dE ts) d m l:=by
 unfold lV IT
 cases hm:qx m with
 | none =>
  simp only[Option.isSome_none,Bool.false_and]
  have:ts.map (fP false d k (l.map hz))=ts:=by
   conv=>rhs;rw[← List.map_id ts]
   refine List.map_congr_left fun y _=>?_
   grind [fP]
  rw[this]
 | some n =>
  obtain rfl:=hk n hm
  simp only[Option.isSome_some,Bool.true_and]
  cases ha:l.all (fun b=>(ix b).isSome)with
  | false =>
   rw[uR l ha]
   have:ts.map (fP false d k (l.map hz))=ts:=by
    conv=>rhs;rw[← List.map_id ts]
    refine List.map_congr_left fun y _=>?_
    grind [fP]
   rw[this]
  | true =>
   rw[uQ l ha]
   unfold dE
   simp only
   rw[List.map_map,List.map_map]
   refine List.map_congr_left fun y _=>?_
   unfold fP
   simp only[true_and,Function.comp]
   split
   ·rename_i h
    exact(if_pos (α:=TC) (t:=y.c.put k (l.map hz)) (e:=y.c) h).symm
   ·rename_i h
    exact(if_neg (α:=TC) (t:=y.c.put k (l.map hz)) (e:=y.c) h).symm
attribute [local irreducible] J K aD Ends ae aF aL bU bo aU bh bq cg aE
def L2(Z:HP)(tb bs jb:Nat)(tv:Value)(br:Bool)(ts:List Tk)(d:Dg)(mv:Value)(m:List UInt8)(l:List (List UInt8))(hv:sJ Z mv (m::l))(hm:∀x∈m::l,x.length≤65536)(DF:(m::l).length≤65536)(hl:ts.length≤1000000)(hn:∀y∈ts,y.n≤65536)(hw:∀y∈ts,y.n≤y.ws.length*64) :
  aD Tryz.prog 131 [ptr tb,dV d,mv] (fe tb bs jb tv ts br++[Z]) (fun r H=>r = .tuple #[]∧∃k:Nat,(∀n,qx m=some n→k=n)∧H=fe tb bs jb tv (ts.map (fP (IT m l) d k (l.map hz))) br++[Z]):=by
 obtain⟨cs,dO,ki,⟨ma,mc,rfl,hmc⟩,tB⟩:=hv
 obtain⟨c0,Lc,wF⟩:=tB 0 m rfl
 have ZD:=qw Z c0 m wF (by have:=hm m (List.mem_cons_self ..);omega)
 obtain⟨bb,oo,cc,he⟩:=dO.some (by intro h;rw[h]at ki;simp at ki)
 obtain⟨rfl,rfl⟩:=he
 refine aD.aw Tryz.func131 Tryz.ntmps131 fun G F R hE=>?_
 refine aB rfl ?_
 refine bG zr zr bE ?_
 intro b4
 refine aJ (ak.pick [4] rfl) (go ?_)
 refine bR 0 zr zr zr zr zr zr zr zr (by simp) ?_
 refine aK ?_
 refine aX 0 0 zr zr zr dO rfl Lc zr zr ?_
 refine aI ZD ?_
 rintro _ _⟨rfl,k,xN,rfl,rV⟩
 refine go ?_
 refine bt (p:=1) (q:=((m::l).length:Int)) zr zr zr zr zr zr zr ag (by simp only[List.length_cons];omega) (.inl rfl) ?_
 ((refine az 23 ((.slice (sliceAt (some ⟨bb,oo,none⟩) mc 1 1) l.length (mc-1))) rfl ((by rw[show((m::l).length:Int).toNat=l.length+1 from by simp[List.length_cons],show(1:Int).toNat=1 from rfl,show l.length+1-1=l.length by omega];rfl)) ?_))
 have M0:=dO.Rs (s:=1) (by rw[ki];simp) hmc 1 (by simp)
 simp only[List.length_cons]at DF hmc
 have ae6:∀(j:Nat) (x:List UInt8),l[j]?=some x→∃cv,(cs.drop (1*1))[j]?=some cv∧eO Z cv x:=fun j x hx=>by
  simp_all
 have hmr:∀x∈l,x.length≤65536:=fun x hx=>hm x (List.mem_cons_of_mem _ hx)
 have aeF:IT m (l.take 0)=(qx m).isSome:=by unfold IT;simp
 refine go ?_
 refine ai (bK 37 32 none _) ?_
 rw[← aeF]
 refine bB (fun y:Nat × Option Addr × Nat=>y.1≤l.length) (fun y=>l.length-y.1)
  (fun y=>[(0,ptr tb),(4,ptr b4),(6,.int .i64 (k:Int)),(7,.bool (IT m (l.take y.1))),(8,.slice y.2.1 ((l.take y.1).map hz).length y.2.2),(23,.slice (sliceAt (some ⟨bb,oo,none⟩) mc 1 1) l.length (mc-1)),(24,.int .i64 (l.length:Int)),(25,.int .i64 (y.1:Int))])
  (fun y=>aF 37 32 (.slice y.2.1 ((l.take y.1).map hz).length y.2.2) ((l.take y.1).map hz).length (((l.take y.1).map hz).flatMap dC)::Z::ae b4 (cl (dC d) 37)::ae tb (cl [ptr bs,ptr jb,tv,.bool br] 74)::aF 76 1 tv ts.length (ts.map cT)::bD ts::F) (0,none,0) (Nat.zero_le _) rfl ck ah ?_
 rintro⟨j,pa,pc⟩ hj ih
 dsimp only
 refine go ?_
 refine au zr zr ?_ ?_
 ·intro dJ
  have oX:j<l.length:=by omega
  obtain⟨x,hx⟩:∃x,l[j]?=some x:=⟨l[j],by simp⟩
  obtain⟨cv,sw,zZ⟩:=ae6 j x hx
  have hph:=wg Z cv x zZ (by have:=hmr x (List.mem_of_getElem? hx);omega)
  have kU:l.take (j+1)=l.take j++[x]:=by rw[List.take_add_one,hx];rfl
  have qg:((l.take j).map hz).length=j:=by rw[List.length_map,List.length_take];omega
  have hp1:((l.take j).map hz).flatMap dC++dC (hz x)=((l.take (j+1)).map hz).flatMap dC:=by rw[kU];simp
  have OU:((l.take j).map hz).length+1=((l.take (j+1)).map hz).length:=by rw[kU];simp
  have iJ:IT m (l.take (j+1))=(IT m (l.take j) && (ix x).isSome):=by rw[kU,Tg]
  have Vi:sliceAt (some ⟨bb,oo,none⟩) mc 1 1=some ⟨bb,oo+1,none⟩:=by
   unfold sliceAt
   rw[if_neg ag]
   rfl
  have aci:=M0
  rw[Vi]at aci
  refine bj 23 (.slice (some ⟨bb,oo+1,none⟩) l.length (mc-1)) rfl (by rw[Vi]) (go ?_)
  refine bR j zr zr zr zr zr zr zr zr oX ?_
  refine aK ?_
  refine aX 1 j zr zr zr aci rfl sw zr zr (go ?_)
  refine aN hph ?_
  refine go ?_
  refine aC zr zr zr bE ?_
  intro VT
  cases hoj:IT m (l.take j)
  all_goals(
   rw[hoj]at iJ
   refine go ?_
   ((refine az 7 ((.bool (IT m (l.take (j+1))))) rfl ((congrArg Value.bool (by rw[iJ];rfl))) ?_))
   refine go ?_
   refine aH (U:=aR) (l:=dC (hz x)) 0 zr zr zr zr zr zr ?_
   refine ao (cs:=dC (hz x)) zr zr zr zr zr zr zr zr zr bE ?_
   intro row
   refine go ?_
   refine aT (mm:=1) (news:=dC (hz x)) 3 0 zr zr zr zr zr zr zr zr zr zr zr zr (Vw.ae rfl) rfl (by rw[dL];exact db _) ag (by show(((l.take j).map hz).length+1)*32≤_;omega) (fun _=>rfl) bE ?_
   intro v1
   rw[hp1,OU]
   refine aP 3 rfl ?_
   rintro ja jc rfl
   refine go ?_
   refine bj 23 ((.slice (sliceAt (some ⟨bb,oo,none⟩) mc 1 1) l.length (mc-1))) rfl ((by rw[Vi])) ?_
   refine aM ih (j+1,ja,jc) rfl (by simp only;omega) (by simp only;omega) ck ah)
 ·intro fO
  have Nd:j=l.length:=by omega
  subst Nd
  rw[List.take_length]
  obtain⟨p,hp⟩:∃p,p=l.map hz:=⟨_,rfl⟩
  obtain⟨ok,iJ⟩:∃ok,ok=IT m l:=⟨_,rfl⟩
  have qg:p.length≤65536:=by rw[hp,List.length_map];omega
  rw[← hp,← iJ]at hE ⊢
  have hfy:=adr ok d k p
  refine ai (ak.pick [4] rfl) ?_
  refine dN 0 rfl ?_
  rintro ta tc rfl
  refine dg 0 rfl ?_
  intro hvt
  refine go ?_
  refine bB (fun j:Nat=>j≤ts.length) (fun j=>ts.length-j)
   (fun j=>[(0,ptr tb),(4,ptr b4),(6,.int .i64 (k:Int)),(7,.bool ok),(8,.slice pa p.length pc),(46,.slice ta ts.length tc),(47,.int .i64 (ts.length:Int)),(48,.int .i64 (j:Int))])
   (fun j=>ae tb (cl [ptr bs,ptr jb,.slice ta ts.length tc,.bool br] 74)::aF 76 1 (.slice ta ts.length tc) ts.length (ts.map cT)::bD (lX (fP ok d k p) j ts)::aF 37 32 (.slice pa p.length pc) p.length (p.flatMap dC)::ae b4 (cl (dC d) 37)::Z::F) 0 (Nat.zero_le _) rfl ck ah ?_
  intro j hj ih
  refine go ?_
  refine au zr zr ?_ ?_
  ·intro dJ
   have oX:j<ts.length:=by omega
   obtain⟨y,hy⟩:∃y,ts[j]?=some y:=⟨ts[j],by simp⟩
   have wu:=List.mem_of_getElem? hy
   have MY:=hn y wu
   have Dz:=hw y wu
   have hgy:(lX (fP ok d k p) j ts)[j]?=some y:=by rw[Qu,hy]
   have jA:=Qt (fP ok d k p) hy
   obtain⟨b9,o9,c9,he9⟩:=hvt.some (Pe oX)
   obtain⟨rfl,rfl⟩:=he9
   refine go ?_
   refine bR j zr zr zr zr zr zr zr zr oX ?_
   refine aK ?_
   refine aX 1 j zr zr zr hvt rfl (rl hy) zr zr (go ?_)
   refine ai (ak.pick [2] rfl) ?_
   refine ai (kq hgy _) ?_
   have lL:∀H,ak (rn (fP ok d k p y)::bD ((lX (fP ok d k p) j ts).take j++(lX (fP ok d k p) j ts).drop (j+1))::H) (bD (lX (fP ok d k p) (j+1) ts)::H):=fun H=>by rw[← jA];exact Kr hgy _ H
   refine eB (fQ y) ?_
   rintro⟨wv,O1,M⟩ Va
   have iG:∀H,ak (ae y.yb (cl (nA y) 80)::ae y.sb (cl [.int .i64 (y.n:Int),wv] 137)::aF 133 1 wv y.ws.length (qV y.ws)::aL (Value.int .i64) y.mb O1::bh 37 M::bD ((lX (fP ok d k p) j ts).take j++(lX (fP ok d k p) j ts).drop (j+1))::H) (rn y::bD ((lX (fP ok d k p) j ts).take j++(lX (fP ok d k p) j ts).drop (j+1))::H):=fun H=>ak.trans (H2:=rS y (wv,O1,M)++(bD ((lX (fP ok d k p) j ts).take j++(lX (fP ok d k p) j ts).drop (j+1))::H)) ah (iM Va _)
   have lh:fP ok d k p y=y→∀H,ak (ae y.yb (cl (nA y) 80)::ae y.sb (cl [.int .i64 (y.n:Int),wv] 137)::aF 133 1 wv y.ws.length (qV y.ws)::aL (Value.int .i64) y.mb O1::bh 37 M::bD ((lX (fP ok d k p) j ts).take j++(lX (fP ok d k p) j ts).drop (j+1))::H) (bD (lX (fP ok d k p) (j+1) ts)::H):=fun h H=>by
    have:=lL H
    rw[h]at this
    exact(iG H).trans this
   refine aG (fun w=>Sat G w ([ae y.yb (cl (nA y) 80),ae b4 (cl (dC d) 37)])) (dj 0 16 (.act 16 (dj 17 9 (.st 27 (.act 26 (.act 28 (.st 29 (.st 30 .nil)))))))) rfl aq aq aq eo ?_
   cases ok with
   | false =>
    have T3:fP false d k p y=y:=by unfold fP;rw[if_neg (by simp)]
    refine go ?_
    refine ai (ak.trans ah (lh T3 (ae tb (cl [ptr bs,ptr jb,.slice (some ⟨b9,o9,none⟩) ts.length tc,.bool br] 74)::aF 76 1 (.slice (some ⟨b9,o9,none⟩) ts.length tc) ts.length (ts.map cT)::aF 37 32 (.slice pa p.length pc) p.length (p.flatMap dC)::ae b4 (cl (dC d) 37)::Z::F))) ?_
    refine aM ih (j+1) rfl ag ag ck ah
   | true =>
   refine go ?_
   refine cJ (U:=aR) (cs:=dC y.x.d) 0 zr zr zr zr zr zr (go ?_)
   refine bT (U:=aR) (l:=dC d) 1 zr zr zr zr zr zr (go ?_)
   refine lC (b:=decide (y.x.d=d)) zr zr zr Jx (fun w=>JH y.x.d d w) ?_
   by_cases hyd:y.x.d=d
   case neg =>
    rw[decide_eq_false hyd]
    have T3:fP true d k p y=y:=by unfold fP;rw[if_neg (fun h=>hyd h.2.1)]
    refine go ?_
    refine ai (ak.trans ah (lh T3 (ae tb (cl [ptr bs,ptr jb,.slice (some ⟨b9,o9,none⟩) ts.length tc,.bool br] 74)::aF 76 1 (.slice (some ⟨b9,o9,none⟩) ts.length tc) ts.length (ts.map cT)::aF 37 32 (.slice pa p.length pc) p.length (p.flatMap dC)::ae b4 (cl (dC d) 37)::Z::F))) ?_
    refine aM ih (j+1) rfl ag ag ck ah
   rw[decide_eq_true hyd]
   refine go ?_
   refine bp (lR y.sb y.n wv) ?_
   refine go ?_
   by_cases TS:k<y.n
   case neg =>
    have T3:fP true d k p y=y:=by unfold fP;rw[if_neg (fun h=>TS h.2.2.1)]
    refine az 71 ((.bool false)) rfl ((congrArg Value.bool (decide_eq_false ag))) (go ?_)
    refine ai (ak.trans ah (lh T3 (ae tb (cl [ptr bs,ptr jb,.slice (some ⟨b9,o9,none⟩) ts.length tc,.bool br] 74)::aF 76 1 (.slice (some ⟨b9,o9,none⟩) ts.length tc) ts.length (ts.map cT)::aF 37 32 (.slice pa p.length pc) p.length (p.flatMap dC)::ae b4 (cl (dC d) 37)::Z::F))) ?_
    refine aM ih (j+1) rfl ag ag ck ah
   refine az 71 ((.bool true)) rfl ((congrArg Value.bool (decide_eq_true ag))) (go ?_)
   refine bp (lR y.sb y.n wv) ?_
   refine go ?_
   refine bp (CW (y.n:Int) (k:Int)) ?_
   refine go ?_
   by_cases hpd:p.length=dB y.n k
   case neg =>
    have T3:fP true d k p y=y:=by unfold fP;rw[if_neg (fun h=>hpd h.2.2.2)]
    refine bj 82 ((.bool false)) rfl ((congrArg Value.bool (decide_eq_false ag))) (go ?_)
    refine ai (ak.trans ah (lh T3 (ae tb (cl [ptr bs,ptr jb,.slice (some ⟨b9,o9,none⟩) ts.length tc,.bool br] 74)::aF 76 1 (.slice (some ⟨b9,o9,none⟩) ts.length tc) ts.length (ts.map cT)::aF 37 32 (.slice pa p.length pc) p.length (p.flatMap dC)::ae b4 (cl (dC d) 37)::Z::F))) ?_
    refine aM ih (j+1) rfl ag ag ck ah
   refine bj 82 ((.bool true)) rfl ((congrArg Value.bool (decide_eq_true ag))) ?_
   have T3:fP true d k p y=y.put k p:=by unfold fP;rw[if_pos ⟨rfl,hyd,TS,hpd⟩]
   rw[T3]at lL
   refine ai (ak.trans ah (iG (ae tb (cl [ptr bs,ptr jb,.slice (some ⟨b9,o9,none⟩) ts.length tc,.bool br] 74)::aF 76 1 (.slice (some ⟨b9,o9,none⟩) ts.length tc) ts.length (ts.map cT)::aF 37 32 (.slice pa p.length pc) p.length (p.flatMap dC)::ae b4 (cl (dC d) 37)::Z::F))) ?_
   refine ai (H':=aF 37 32 (.slice pa p.length pc) p.length (p.flatMap dC)::rn y::bD ((lX (fP true d k p) j ts).take j++(lX (fP true d k p) j ts).drop (j+1))::ae tb (cl [ptr bs,ptr jb,.slice (some ⟨b9,o9,none⟩) ts.length tc,.bool br] 74)::aF 76 1 (.slice (some ⟨b9,o9,none⟩) ts.length tc) ts.length (ts.map cT)::ae b4 (cl (dC d) 37)::Z::F) ah ?_
   refine dg 0 rfl ?_
   intro hvp
   have wA:=EL y k TS MY Dz _ (.slice pa p.length pc) p hvp ag
   refine go ?_
   refine aN wA ?_
   refine go ?_
   refine ai (ak.pick [0,2,3,4] rfl) ?_
   refine ai (lL _) ?_
   refine aM ih (j+1) rfl ag ag ck ah
  ·intro fO
   have Nd:j=ts.length:=by omega
   subst Nd
   rw[FW]
   have TQ:(ts.map (fP ok d k p)).map cT=ts.map cT:=by rw[← FW];exact Qs _ hfy _ _
   have aeN:(ts.map (fP ok d k p)).length=ts.length:=List.length_map ..
   refine go ?_
   refine ai (H':=ae tb (cl [ptr bs,ptr jb,.slice ta ts.length tc,.bool br] 74)::aF 76 1 (.slice ta ts.length tc) (ts.map (fP ok d k p)).length ((ts.map (fP ok d k p)).map cT)::bD (ts.map (fP ok d k p))::Z::F) (by rw[TQ,aeN];exact ah) ?_
   refine cd hE Tryz.func131 rfl _ rfl ⟨rfl,k,rV,rfl⟩ ah
end Go.Proofs.YthnfckodljbgbaaGreatDoor
namespace Go.Proofs.YthnfckodljbgbaaGreatDoor
open Go Go.SL
def Am(ts:List Tk)(d:Dg):dE (sg ts d)=v7 (dE ts) d:=by
 unfold dE sg v7
 rw[List.filter_map]
 rfl
def Ls(ts:List Tk)(y:Tk):dE (ts++[y])=dE ts++[y.c]:=by simp[dE]
def aaK(k:UInt8)(n:Nat)(hn:n<256):decide ((k.toNat:Int)=(n:Int))=decide (k=UInt8.ofNat n):=by
 rw[decide_eq_decide]
 constructor
 ·intro h
  have h2:k.toNat=n:=by omega
  rw[← h2]
  exact(UInt8.ofNat_toNat).symm
 ·rintro rfl
  rw[UInt8.toNat_ofNat']
  omega
def Io{cs:List TC}{b:List UInt8}(h:jy b=none):cY cs b=cs:=by unfold cY;rw[h]
def ET{cs:List TC}{b:List UInt8}{d:Dg}(h:jy b=some (3,d,[])):cY cs b=v7 cs d:=by unfold cY;rw[h];simp
theorem xo{cs:List TC}{b:List UInt8}{d:Dg}{m:List UInt8}{l:List (List UInt8)}(h:jy b=some (2,d,m::l)):cY cs b=lV cs d m l:=by
 grind [cY]
theorem xp{cs:List TC}{b:List UInt8}{d:Dg}{s p r:List UInt8}(h:jy b=some (1,d,[s,p,r])):cY cs b=(match qx s,qx p,ix r with
  | some s,some p,some r=>if bI ⟨d,s,p,r⟩then v7 cs d++[cN ⟨d,s,p,r⟩]else cs
  | _,_,_=>cs):=by
 grind [cY]
theorem ph{cs:List TC}{b:List UInt8}{k:UInt8}{d:Dg}{l:List (List UInt8)}(h:jy b=some (k,d,l))(h3:¬(k=3∧l.length=0))(h1:¬(k=1∧l.length=3))(h2:¬(k=2∧0<l.length)):cY cs b=cs:=by
 grind [cY]
attribute [local irreducible] J K aD Ends ae aF aL bU bo aU bh bq cg aE
theorem Ph(X:HP)(tb bs jb:Nat)(tv:Value)(br:Bool)(ts:List Tk)(bv:Value)(b:List UInt8)(hb:eO X bv b)(kQ:b.length≤1000000)(hl:ts.length≤900000)(hn:∀y∈ts,y.n≤65536)(hw:∀y∈ts,y.n≤y.ws.length*64) :
  aD Tryz.prog 69 [ptr tb,bv] (fe tb bs jb tv ts br++[X]) (fun r H=>r = .tuple #[]∧∃(ts':List Tk) (mI:Value),dE ts'=cY (dE ts) b∧H=fe tb bs jb mI ts' br++[X]):=by
 have yq:=Ms X bv b hb kQ
 have TF:=fun d=>zl tb bs jb tv br ts d ag
 refine aD.aw Tryz.func69 Tryz.ntmps69 fun G F R hE=>?_
 refine go ?_
 refine aI yq ?_
 rintro _ _ (⟨Vl,⟨k,d,ma,mn,mc,rfl⟩,rfl⟩|⟨k,d,more,mv,Z,hr,nw,hm1,Vp,rfl,rfl⟩)
 ·refine go ?_
  refine aC zr zr zr bE ?_
  intro b5
  refine go ?_
  refine cd hE Tryz.func69 rfl _ rfl ⟨rfl,ts,tv,(Io Vl).symm,rfl⟩ ah
 have acS:=nw
 obtain⟨cs,dO,ki,⟨ma,mc,rfl,hmc⟩,tB⟩:=nw
 refine go ?_
 refine aC zr zr zr bE ?_
 intro b5
 refine go ?_
 have df:∀j:Nat,j<256→k≠UInt8.ofNat j→decide ((k.toNat:Int)=(j:Int))=false:=fun j hj h=>by rw[aaK k j hj];exact decide_eq_false h
 have ij:cY (dE ts) b=dE ts→∃(ts':List Tk) (mI:Value),dE ts'=cY (dE ts) b∧[ae tb (cl [ptr bs,ptr jb,tv,.bool br] 74),aF 76 1 tv ts.length (ts.map cT),bD ts]++[X]=[ae tb (cl [ptr bs,ptr jb,mI,.bool br] 74),aF 76 1 mI ts'.length (ts'.map cT),bD ts']++[X]:=fun h=>⟨ts,tv,h.symm,rfl⟩
 by_cases h3:k=3
 ·subst h3
  by_cases h0:more.length=0
  ·have hmn:more=[]:=List.eq_nil_of_length_eq_zero h0
   subst hmn
   have vJ:=ET (cs:=dE ts) hr
   refine go ?_
   refine aH (U:=aR) (l:=dC d) 0 zr zr zr zr zr zr ?_
   refine aI (TF d) ?_
   rintro _ _⟨rfl,mI,rfl⟩
   refine go ?_
   (refine cd hE Tryz.func69 rfl _ rfl ⟨rfl,sg ts d,mI,by rw[Am,vJ],rfl⟩ ah)
  ·have vJ:=ph (cs:=dE ts) hr (fun h=>h0 h.2) (fun h=>absurd h.1 (by decide)) (fun h=>absurd h.1 (by decide))
   refine go ?_
   refine bj 25 ((.bool false)) rfl ((congrArg Value.bool (decide_eq_false ag))) (go ?_)
   refine cd hE Tryz.func69 rfl _ rfl ⟨rfl,ij vJ⟩ ah
 have hn3:=df 3 ag h3
 refine az 28 ((.bool false)) rfl ((congrArg Value.bool hn3)) ?_
 by_cases h1:k=1
 ·subst h1
  by_cases h0:more.length=3
  case neg =>
   have vJ:=ph (cs:=dE ts) hr (fun h=>absurd h.1 (by decide)) (fun h=>h0 h.2) (fun h=>absurd h.1 (by decide))
   refine go ?_
   refine bj 36 ((.bool false)) rfl ((congrArg Value.bool (decide_eq_false ag))) (go ?_)
   refine cd hE Tryz.func69 rfl _ rfl ⟨rfl,ij vJ⟩ ah
  obtain⟨ms,mp,mr,rfl⟩:∃ms mp mr,more=[ms,mp,mr]:=by
   match more,h0 with
   | [ms,mp,mr],_=>exact⟨ms,mp,mr,rfl⟩
  have vJ:=xp (cs:=dE ts) hr
  obtain⟨c0,Lc,wF⟩:=tB 0 ms rfl
  obtain⟨c1,Jq,pZ⟩:=tB 1 mp rfl
  obtain⟨c2,ya,tC⟩:=tB 2 mr rfl
  have hq0:=qw Z c0 ms wF (by have:=hm1 ms (by simp);omega)
  have hq1:=qw Z c1 mp pZ (by have:=hm1 mp (by simp);omega)
  have hq2:=wg Z c2 mr tC (by have:=hm1 mr (by simp);omega)
  obtain⟨bb,oo,cc,he⟩:=dO.some (by intro h;rw[h]at ki;simp at ki)
  obtain⟨rfl,rfl⟩:=he
  refine aJ (H':=ae b5 (cl (dC d) 37)::Z::ae tb (cl [ptr bs,ptr jb,tv,.bool br] 74)::aF 76 1 tv ts.length (ts.map cT)::bD ts::X::F) ah (go ?_)
  refine bR 0 zr zr zr zr zr zr zr zr (by simp) ?_
  refine aK ?_
  refine aX 1 0 zr zr zr dO rfl Lc zr zr ?_
  refine aI hq0 ?_
  rintro _ _⟨rfl,k1,xN,rfl,aeW⟩
  refine go ?_
  refine bR 1 zr zr zr zr zr zr zr zr (by simp) ?_
  refine aK ?_
  refine aX 0 1 zr zr zr dO rfl Jq zr zr ?_
  refine aI hq1 ?_
  rintro _ _⟨rfl,k2,rV,rfl,aeU⟩
  refine go ?_
  refine bR 2 zr zr zr zr zr zr zr zr (by simp) ?_
  refine aK ?_
  refine aX 0 2 zr zr zr dO rfl ya zr zr ?_
  refine aN hq2 ?_
  refine go ?_
  refine aC zr zr zr bE ?_
  intro b12
  refine go ?_
  refine aH (U:=aR) (l:=dC d) 2 zr zr zr zr zr zr (go ?_)
  refine aH (U:=aR) (l:=dC (hz mr)) 0 zr zr zr zr zr zr (go ?_)
  obtain⟨x,hx⟩:∃x:Bl,x=⟨d,(k1:Int),(k2:Int),hz mr⟩:=⟨_,rfl⟩
  refine aC zr zr zr bE ?_
  intro b14
  refine go ?_
  ((refine aJ (H':=ae b14 (cl (bH x) 39)::ae b5 (cl (dC d) 37)::ae tb (cl [ptr bs,ptr jb,tv,.bool br] 74)::aF 76 1 tv ts.length (ts.map cT)::bD ts::X::F) ((by rw[hx];exact ah)) ?_))
  have zO:=oT x
  cases e0:qx ms with
  | none =>
   rw[e0]at vJ
   refine go ?_
   refine cd hE Tryz.func69 rfl _ rfl ⟨rfl,ij vJ⟩ ah
  | some v0 =>
  obtain rfl:=aeW v0 e0
  rw[e0]at vJ
  cases e1:qx mp with
  | none =>
   rw[e1]at vJ
   refine go ?_
   refine cd hE Tryz.func69 rfl _ rfl ⟨rfl,ij vJ⟩ ah
  | some v1 =>
  obtain rfl:=aeU v1 e1
  rw[e1]at vJ
  cases e2:ix mr with
  | none =>
   rw[e2]at vJ
   refine go ?_
   refine cd hE Tryz.func69 rfl _ rfl ⟨rfl,ij vJ⟩ ah
  | some v2 =>
  have wx:hz mr=v2:=by unfold hz;rw[e2];rfl
  rw[e2]at vJ
  simp only at vJ
  rw[wx]at hx
  rw[← hx]at vJ
  refine go ?_
  refine aH (U:=aR) (l:=bH x) 0 zr zr zr zr zr zr ?_
  ((refine go ?_;(refine aI zO ?_)))
  rintro _ _⟨rfl,rfl⟩
  cases TH:bI x with
  | false =>
   rw[TH]at vJ
   refine go ?_
   refine cd hE Tryz.func69 rfl _ rfl ⟨rfl,ij vJ⟩ ah
  | true =>
  rw[TH]at vJ
  simp only[if_true]at vJ
  have Bp:=Ct x
  refine aJ (H':=ae b5 (cl (dC d) 37)::ae tb (cl [ptr bs,ptr jb,tv,.bool br] 74)::aF 76 1 tv ts.length (ts.map cT)::bD ts::X::ae b14 (cl (bH x) 39)::F) ah (go ?_)
  refine aH (U:=aR) (l:=dC d) 0 zr zr zr zr zr zr ?_
  refine aI (TF d) ?_
  rintro _ _⟨rfl,mI,rfl⟩
  refine aJ (H':=ae tb (cl [ptr bs,ptr jb,mI,.bool br] 74)::aF 76 1 mI (sg ts d).length ((sg ts d).map cT)::bD (sg ts d)::X::ae b14 (cl (bH x) 39)::F) ah ?_
  have Ew:(sg ts d).length≤ts.length:=List.length_filter_le _ _
  obtain⟨us,Gb⟩:∃us,us=sg ts d:=⟨_,rfl⟩
  rw[← Gb]at Ew ⊢
  have hcu:dE us=v7 (dE ts) d:=by rw[Gb,Am]
  refine go ?_
  refine dN 1 rfl ?_
  rintro ua uc rfl
  refine aG (fun w=>Sat G w ([ae tb (cl [ptr bs,ptr jb,.slice ua us.length uc,.bool br] 74),ae b14 (cl (bH x) 39)])) (dj 0 6 (.act 6 (.act 7 (.act 8 (.st 9 (.st 10 (.act 11 .nil))))))) rfl aq aq aq eo ?_
  refine go ?_
  refine bT (U:=aR) (l:=bH x) 1 zr zr zr zr zr zr (go ?_)
  refine dy Bp ?_
  rintro _ _⟨y,rfl,rfl,hy1,Vc,hy3,hy4⟩
  refine go ?_
  refine ao (cs:=[ptr y.yb]) zr zr zr zr zr zr zr zr zr (fun _ w hw=>hw.cL ah) ?_
  intro r1
  refine go ?_
  refine aT (mm:=1) (news:=[ptr y.yb]) 3 0 rfl rfl rfl rfl rfl rfl rfl rfl rfl rfl rfl rfl (Vw.ae rfl) rfl (by intro v hv;simp at hv;rw[hv];rfl) ag (by show(_+_)*8≤_;omega) (fun _=>rfl) (fun _ w hw=>hw.cL ah) ?_
  intro v1
  refine aP 3 rfl ?_
  rintro ka kc rfl
  refine go ?_
  have TQ:us.map cT++[ptr y.yb]=(us++[y]).map cT:=by simp[cT]
  have DF:us.length+1=(us++[y]).length:=by simp
  have qe:=vQ us [] y
  rw[List.append_nil]at qe
  rw[TQ,DF]
  refine ai (ak.pick [1,4,2,3,5] rfl) ?_
  refine ai (qe _) ?_
  have I7:y.c=cN x:=by
   grind [Tk.c,cN]
  (refine cd hE Tryz.func69 rfl _ rfl ⟨rfl,us++[y],_,by rw[Ls,hcu,I7,vJ],rfl⟩ ah)
 have Jf:=df 1 ag h1
 by_cases h2:k=2
 ·subst h2
  by_cases h0:0<more.length
  case neg =>
   have vJ:=ph (cs:=dE ts) hr (fun h=>absurd h.1 (by decide)) (fun h=>absurd h.1 (by decide)) (fun h=>h0 h.2)
   refine go ?_
   refine bj 95 ((.bool false)) rfl ((congrArg Value.bool (decide_eq_false ag))) (go ?_)
   refine cd hE Tryz.func69 rfl _ rfl ⟨rfl,ij vJ⟩ ah
  obtain⟨m,l,rfl⟩:∃m l,more=m::l:=by
   match more,h0 with
   | m::l,_=>exact⟨m,l,rfl⟩
  have vJ:=xo (cs:=dE ts) hr
  have htp:=L2 Z tb bs jb tv br ts d _ m l acS hm1 Vp ag hn hw
  refine go ?_
  refine bj 95 ((.bool true)) rfl ((congrArg Value.bool (decide_eq_true ag))) (go ?_)
  refine aH (U:=aR) (l:=dC d) 0 zr zr zr zr zr zr ?_
  ((refine go ?_;(refine aI htp ?_)))
  rintro _ _⟨rfl,kk,hkk,rfl⟩
  refine go ?_
  (refine cd hE Tryz.func69 rfl _ rfl ⟨rfl,ts.map (fP (IT m l) d kk (l.map hz)),tv,by rw[IM ts d m l kk hkk,vJ],rfl⟩ ah)
 have hn2:=df 2 ag h2
 have vJ:=ph (cs:=dE ts) hr (fun h=>h3 h.1) (fun h=>h1 h.1) (fun h=>h2 h.1)
 refine go ?_
 refine az 39 ((.bool false)) rfl ((congrArg Value.bool Jf)) (go ?_)
 refine az 98 ((.bool false)) rfl ((congrArg Value.bool hn2)) (go ?_)
 refine cd hE Tryz.func69 rfl _ rfl ⟨rfl,ij vJ⟩ ah
end Go.Proofs.YthnfckodljbgbaaGreatDoor
namespace Go.Proofs.YthnfckodljbgbaaGreatDoor
open Go Go.SL
def Tk.drop(y:Tk)(i:Nat):Tk:=⟨y.yb,y.sb,y.mb,y.x,y.n,ku y.ws i false,fun j=>if j=(i:Int)then none else y.pf j⟩
theorem JX(es:List (Int × Value))(k j:Int):dP (rZ es k) j=if j=k then none else dP es j:=by
 grind [rZ,dP]
theorem LA.drop{z:Value × List (Int × Value) × fW}{y:Tk}(h:LA z y)(i:Nat):LA (z.1,rZ z.2.1 (i:Int),z.2.2) (y.drop i):=fun j=>by
 rw[JX]
 by_cases hj:j=(i:Int)
 ·rw[if_pos hj]
  show(if j=(i:Int)then none else y.pf j)=none
  grind
 ·rw[if_neg hj]
  have:=h j
  show match dP z.2.1 j with
   | none=>(if j=(i:Int)then none else y.pf j)=none
   | some v=>∃l,(if j=(i:Int)then none else y.pf j)=some l∧EG z.2.2 32 v l.length (l.flatMap dC)
  grind
attribute [local irreducible] J K aD Ends ae aF aL bU bo aU bh bq cg aE
def L3(y:Tk)(i:Nat)(hi:i<y.n)(hn:y.n≤65536)(hw:y.n≤y.ws.length*64) :
  aD Tryz.prog 132 [ptr y.yb,.int .i64 (i:Int)] [rn y] (fun r H=>r = .tuple #[]∧H=[rn (y.drop i)]):=by
 refine aD.aw Tryz.func132 Tryz.ntmps132 fun G F R hE=>?_
 refine eB (fQ y) ?_
 rintro⟨wv,cs,M⟩ hz
 have wA:=HW y.sb y.n wv y.ws hn hw i hi false
 refine go ?_
 refine aN wA ?_
 refine aJ (H':=ae y.yb (cl (nA y) 80)::aL (Value.int .i64) y.mb cs::ae y.sb (cl [.int .i64 (y.n:Int),wv] 137)::aF 133 1 wv (ku y.ws i false).length (qV (ku y.ws i false))::bh 37 M::F) ah (go ?_)
 refine gF (es:=cs) (key:=(i:Int)) 1 (tw Tryz.underlying3) (fun w hw=>by exact trivial) zr zr zr zr zr zr zr ?_
 refine go ?_
 refine ai (ak.pick [0,2,3] rfl) ?_
 refine ai (iM (hz.drop i) _) ?_
 refine cd hE Tryz.func132 rfl _ rfl ⟨rfl,rfl⟩ ah
end Go.Proofs.YthnfckodljbgbaaGreatDoor
namespace Go.Proofs.YthnfckodljbgbaaGreatDoor
open Go Go.SL
def km(c:TC):Prop:=c.n≤1024∧c.n≤c.ws.length*64∧c.ws.length≤65536∧∀k l,c.pf k=some l→l.length≤10
def km.drop{c:TC}(h:km c)(i:Nat):km (c.drop i):=⟨h.1,by unfold TC.drop;simp only[jG];exact h.2.1,by unfold TC.drop;simp only[jG];exact h.2.2.1,fun k l hk=>by
  unfold TC.drop at hk
  simp only at hk
  split at hk
  · cases hk
  · exact h.2.2.2 k l hk⟩
def km.hold{s:fg}{c:TC}(h:km c):∀k,km (gP s c k).1
 | 0=>h
 | k+1=>by
  rw[mS]
  have ih:=km.hold (s:=s) h k
  unfold nF
  split
  ·split
   ·exact ih.drop k
   ·exact ih
  ·exact ih
theorem tm{x:Bl}{i:Int}{b:List UInt8}{p:List Dg}(h:dw x i b p=true):p.length≤10:=by
 grind [dw,gS,oQ]
def QV{s:fg}{y:Tk}{ls:List (List UInt8)}{i:Nat}(h:cG y.ws y.n (i:Int)=false):nF s (y.c,ls) i=(y.c,ls):=by
 exact if_neg (show ¬cG y.ws y.n (i:Int)=true by rw[h];simp)
theorem Jd{s:fg}{y:Tk}{ls:List (List UInt8)}{i:Nat}(h:cG y.ws y.n (i:Int)=true)(h2:(cB s y.x (i:Int)).2≠0∨dw y.x i (cB s y.x (i:Int)).1 ((y.pf i).getD [])=false):nF s (y.c,ls) i=(y.c.drop i,ls):=by
 exact(if_pos (show cG y.ws y.n (i:Int)=true from h)).trans (if_pos h2)
theorem Jc{s:fg}{y:Tk}{ls:List (List UInt8)}{i:Nat}(h:cG y.ws y.n (i:Int)=true)(h2:¬((cB s y.x (i:Int)).2≠0∨dw y.x i (cB s y.x (i:Int)).1 ((y.pf i).getD [])=false)):nF s (y.c,ls) i=(y.c,ls++[bS y.x.d i ((y.pf i).getD [])]):=by
 exact(if_pos (show cG y.ws y.n (i:Int)=true from h)).trans (if_neg h2)
attribute [local irreducible] J K aD Ends ae aF aL bU bo aU bh bq cg aE cR
theorem QU(X:HP)(hK:oZ X)(tb bs jb bd:Nat)(tv:Value)(br:Bool)(q:Int)(mb:Nat)(s:SJ)(hRd:∀nm at_ n,(s.1.A.read nm at_ n).1.length≤1048576)(y0:Tk)(iJ:km y0.c)(iY:0≤y0.x.size∧y0.x.size≤1000000000000)(Zv:0≤y0.x.piece∧y0.x.piece≤1000000000000) :
  aD Tryz.prog 70 [ptr tb,ptr y0.yb] [ae tb (cl [ptr bs,ptr jb,tv,.bool br] 74),rn y0,cR bs bd jb q mb [] s,X]
  (fun r H=>∃(y:Tk) (Z:HP),y.yb=y0.yb∧y.c=(kW s.1 y0.c).1∧sJ Z r (kW s.1 y0.c).2∧H=[ae tb (cl [ptr bs,ptr jb,tv,.bool br] 74),rn y,cR bs bd jb q mb [] s,X,Z]):=by
 have pI:=sG y0.x iY Zv
 refine aD.aw Tryz.func70 Tryz.ntmps70 fun G F R hE=>?_
 refine ai (ak.pick [1] rfl) ?_
 refine eB (fQ y0) ?_
 rintro⟨wv,cs,N⟩ Zf
 refine go ?_
 refine dT (cs:=bH y0.x) 0 zr zr zr zr zr zr ?_
 refine aI pI ?_
 rintro r _ rfl
 refine aP 0 rfl ?_
 rintro a8 c8 rfl
 refine gX (bs:=cD y0.x) 0 rfl ?_
 intro O0
 refine go ?_
 refine ao (cs:=[.slice a8 (cD y0.x).length c8]) zr zr zr zr zr zr zr zr zr bE ?_
 intro row
 refine aJ (H':=ae y0.yb (cl (nA y0) 80)::ae y0.sb (cl [.int .i64 (y0.n:Int),wv] 137)::aF 133 1 wv y0.ws.length (qV y0.ws)::aL (Value.int .i64) y0.mb cs::bh 37 N::ae row (cl [.slice a8 (cD y0.x).length c8] 40)::aF 5 1 (.slice a8 (cD y0.x).length c8) (cD y0.x).length (bV (cD y0.x))::ae tb (cl [ptr bs,ptr jb,tv,.bool br] 74)::cR bs bd jb q mb [] s::X::F) ah (go ?_)
 refine aN (lR y0.sb y0.n wv) ?_
 refine go ?_
 refine ai (ak.trans (H2:=rS y0 (wv,cs,N)++(ae row (cl [.slice a8 (cD y0.x).length c8] 40)::aF 5 1 (.slice a8 (cD y0.x).length c8) (cD y0.x).length (bV (cD y0.x))::ae tb (cl [ptr bs,ptr jb,tv,.bool br] 74)::cR bs bd jb q mb [] s::X::F)) ah (iM Zf _)) ?_
 refine ai (ak.pick [1,2] rfl) ?_
 refine ai (eS 40 1 row 1 1 [.slice a8 (cD y0.x).length c8] [] _ rfl (Nat.le_refl _) (by simp)) ?_
 refine bB (fun z:Nat × Tk × Rws × Option Addr × Nat=>z.1≤y0.n∧z.2.1.yb=y0.yb∧z.2.1.c=(gP s.1 y0.c z.1).1∧Eb z.2.2.1 (gP s.1 y0.c z.1).2∧z.2.2.1.cs.length≤z.1+1) (fun z=>y0.n-z.1)
  (fun z=>[(0,ptr tb),(1,ptr y0.yb),(5,.slice z.2.2.2.1 z.2.2.1.cs.length z.2.2.2.2),(19,.int .i64 (y0.n:Int)),(20,.int .i64 (z.1:Int))])
  (fun z=>aF 40 1 (.slice z.2.2.2.1 z.2.2.1.cs.length z.2.2.2.2) z.2.2.1.cs.length z.2.2.1.cs::z.2.2.1.Z::rn z.2.1::ae tb (cl [ptr bs,ptr jb,tv,.bool br] 74)::cR bs bd jb q mb [] s::X::F) (0,y0,⟨[.slice a8 (cD y0.x).length c8],aF 5 1 (.slice a8 (cD y0.x).length c8) (cD y0.x).length (bV (cD y0.x))⟩,some ⟨row,0,none⟩,1) ⟨Nat.zero_le _,rfl,rfl,?_,by simp⟩ rfl ck ah ?_
 ·refine⟨rfl,fun j x hx=>?_⟩
  match j,hx with
  | 0,hx=>cases hx;exact⟨_,rfl,O0⟩
  | j+1,hx=>cases hx
 rintro⟨i,y,M,oa,oc⟩⟨hi,OQ,I7,hM,hMl⟩ ih
 simp only at hi OQ I7 hM hMl
 refine go ?_
 refine au zr zr ?_ ?_
 ·intro dJ
  obtain⟨ls,Q2⟩:∃ls,ls=(gP s.1 y0.c i).2:=⟨_,rfl⟩
  have acy:gP s.1 y0.c i=(y.c,ls):=by rw[I7,Q2]
  have kV:=mS s.1 y0.c i
  rw[acy]at kV
  rw[← Q2]at hM
  have acB:km y.c:=by rw[I7];exact iJ.hold i
  have hxx:=K4 s.1 y0.c i
  rw[← I7]at hxx
  have MY:y.n=y0.n:=hxx.2.1
  have acb:y.n≤65536:=Nat.le_trans acB.1 ag
  have Dz:y.n≤y.ws.length*64:=acB.2.1
  rw[← OQ]
  refine ai (ak.pick [2] rfl) ?_
  refine eB (fQ y) ?_
  rintro⟨wv,cs,N⟩ hz
  have iG:∀H,ak (ae y.yb (cl (nA y) 80)::ae y.sb (cl [.int .i64 (y.n:Int),wv] 137)::aF 133 1 wv y.ws.length (qV y.ws)::aL (Value.int .i64) y.mb cs::bh 37 N::H) (rn y::H):=fun H=>ak.trans (H2:=rS y (wv,cs,N)++H) ah (iM hz _)
  have Bo:=vG y.sb y.n wv y.ws acb Dz (i:Int)
  refine go ?_
  refine aN Bo ?_
  cases Sy:cG y.ws y.n (i:Int)with
  | false =>
   have wz:gP s.1 y0.c (i+1)=(y.c,ls):=by rw[kV,QV Sy]
   refine go ?_
   refine bj 1 ((ptr y0.yb)) rfl ((by rw[OQ])) ?_
   refine ai (ak.trans ah (iG (aF 40 1 (.slice oa M.cs.length oc) M.cs.length M.cs::M.Z::ae tb (cl [ptr bs,ptr jb,tv,.bool br] 74)::cR bs bd jb q mb [] s::X::F))) ?_
   refine aM ih (i+1,y,M,oa,oc) rfl ⟨by simp only;omega,OQ,by rw[wz],by rw[wz];exact hM,by simp only;omega⟩ ag ck ah
  | true =>
  have hsg:=AH bs bd q mb s.1 y.x (i:Int)
  obtain⟨bb,VI⟩:∃b,b=(cB s.1 y.x (i:Int)).1:=⟨_,rfl⟩
  obtain⟨ee,hee⟩:∃e,e=(cB s.1 y.x (i:Int)).2:=⟨_,rfl⟩
  have kQ:bb.length≤1048576:=by
   grind [cB]
  have OS:(ee≠0∨dw y.x i bb ((y.pf i).getD [])=false)→gP s.1 y0.c (i+1)=(y.c.drop i,ls):=fun h=>by
   grind [Jd]
  have Vj:¬(ee≠0∨dw y.x i bb ((y.pf i).getD [])=false)→gP s.1 y0.c (i+1)=(y.c,ls++[bS y.x.d i ((y.pf i).getD [])]):=fun h=>by
   grind [Jc]
  rw[← VI,← hee]at hsg
  obtain⟨pv,M5,Gg⟩:=hz.look (i:Int)
  obtain⟨pa,pc,aex,Vk⟩:=Gg.shape
  subst aex
  refine go ?_
  refine ai (ak.pick [8,2] rfl) ?_
  refine ai (Ea bs bd jb q mb s _) ?_
  refine aG (fun w=>Sat G w ([ae tb (cl [ptr bs,ptr jb,tv,.bool br] 74),ae y.yb (cl (nA y) 80)])) (dj 0 9 (.act 9 (dj 10 5 .nil))) rfl aq aq aq eo ?_
  refine go ?_
  refine cJ (U:=aR) (cs:=bH y.x) 1 zr zr zr zr zr zr (go ?_)
  ((refine fk zr zr zr zr (hsg) ah ?_ (fun _ _ w hp hw=>by obtain⟨_,rfl,rfl⟩:=hp;exact hw.cL ah)))
  rintro _ _⟨rv,rfl,rfl⟩
  refine aP 0 rfl ?_
  rintro ra rc rfl
  refine ln ?_
  refine gE rfl ?_
  refine ai (ak.trans ah (tJ bs bd jb q mb s (aF 5 1 (.slice ra bb.length rc) bb.length (bV bb)::ae y.yb (cl (nA y) 80)::ae y.sb (cl [.int .i64 (y.n:Int),wv] 137)::aF 133 1 wv y.ws.length (qV y.ws)::aL (Value.int .i64) y.mb cs::bh 37 N::aF 40 1 (.slice oa M.cs.length oc) M.cs.length M.cs::M.Z::ae tb (cl [ptr bs,ptr jb,tv,.bool br] 74)::X::F))) ?_
  refine qU (bs:=bb) 1 rfl ?_
  intro afn
  obtain⟨pf,hpf⟩:∃l,l=(y.pf (i:Int)).getD []:=⟨_,rfl⟩
  rw[← hpf]at M5 Gg Vk OS Vj
  have TQ:=zB (Sep [X,aF 5 1 (.slice ra bb.length rc) bb.length (bV bb),bh 37 N]) (hK.mono (aY (H:=[X,aF 5 1 (.slice ra bb.length rc) bb.length (bV bb),bh 37 N]) (i:=0) rfl)) y.x (i:Int) (.slice ra bb.length rc) bb (afn.mono (aY (i:=1) rfl)) ag (.slice pa pf.length pc) pf ⟨(Gg.view _).mono (aY (i:=2) rfl),pa,pc,rfl,Vk⟩
  have hdr:=L3 y i ag acb Dz
  refine ai (ak.pick [10,1,6,2,5,3,4,7,8,9] rfl) ?_
  refine ai (ak.bX [X,aF 5 1 (.slice ra bb.length rc) bb.length (bV bb),bh 37 N] _) ?_
  have mR:∀H,ak (Sep [X,aF 5 1 (.slice ra bb.length rc) bb.length (bV bb),bh 37 N]::ae y.yb (cl (nA y) 80)::aL (Value.int .i64) y.mb cs::ae y.sb (cl [.int .i64 (y.n:Int),wv] 137)::aF 133 1 wv y.ws.length (qV y.ws)::H) (ae y.yb (cl (nA y) 80)::ae y.sb (cl [.int .i64 (y.n:Int),wv] 137)::aF 133 1 wv y.ws.length (qV y.ws)::aL (Value.int .i64) y.mb cs::bh 37 N::X::H):=fun H=>(ak.cK [X,aF 5 1 (.slice ra bb.length rc) bb.length (bV bb),bh 37 N] _).trans ah
  refine aG (fun w=>Sat G w ([ae y.yb (cl (nA y) 80),aL (Value.int .i64) y.mb cs])) (dj 0 15 (.act 15 (.st 16 (.st 17 .nil)))) rfl aq aq aq eo ?_
  refine go ?_
  by_cases he:ee=0
  case neg =>
   have wz:=OS (.inl he)
   refine az 45 ((.bool true)) rfl ((congrArg Value.bool (decide_eq_true ag))) (go ?_)
   refine aJ (ak.trans ah (mR (aF 40 1 (.slice oa M.cs.length oc) M.cs.length M.cs::M.Z::ae tb (cl [ptr bs,ptr jb,tv,.bool br] 74)::cR bs bd jb q mb [] s::F))) ?_
   refine aJ (iG _) (go ?_)
   refine aN hdr ?_
   refine go ?_
   refine bj 1 ((ptr y0.yb)) rfl ((by rw[OQ])) ?_
   refine aM ih (i+1,y.drop i,M,oa,oc) rfl ⟨by simp only;omega,OQ,by rw[wz];rfl,by rw[wz];exact hM,by simp only;omega⟩ ag ck ah
  refine az 45 ((.bool false)) rfl ((congrArg Value.bool (decide_eq_false ag))) (go ?_)
  refine cJ (U:=aR) (cs:=bH y.x) 0 zr zr zr zr zr zr (go ?_)
  refine rP (U:=aR) (kv:=Value.int .i64) (es:=cs) (key:=(i:Int)) rfl (tw Tryz.underlying3) zr zr zr zr zr zr zr (fun w hw=>hw.l4 (i:=1) rfl) ?_
  refine az 57 ((.slice pa pf.length pc)) rfl (M5) (go ?_)
  refine bp TQ ?_
  cases K3:dw y.x i bb pf with
  | false =>
   have wz:=OS (.inr K3)
   refine go ?_
   refine aJ (ak.trans ah (mR (aF 40 1 (.slice oa M.cs.length oc) M.cs.length M.cs::M.Z::ae tb (cl [ptr bs,ptr jb,tv,.bool br] 74)::cR bs bd jb q mb [] s::F))) ?_
   refine aJ (iG _) (go ?_)
   refine aN hdr ?_
   refine go ?_
   refine bj 1 ((ptr y0.yb)) rfl ((by rw[OQ])) ?_
   refine aM ih (i+1,y.drop i,M,oa,oc) rfl ⟨by simp only;omega,OQ,by rw[wz];rfl,by rw[wz];exact hM,by simp only;omega⟩ ag ck ah
  | true =>
  have wz:=Vj (fun h=>by rcases h with h|h;exact h he;rw[K3]at h;cases h)
  have qg:=tm K3
  have K2:=B5 y.x.d i ag (bh 37 N) (.slice pa pf.length pc) pf (Gg.view _) ag
  refine go ?_
  refine ai (ak.trans ah (mR (aF 40 1 (.slice oa M.cs.length oc) M.cs.length M.cs::M.Z::ae tb (cl [ptr bs,ptr jb,tv,.bool br] 74)::cR bs bd jb q mb [] s::F))) ?_
  refine aG (fun w=>Sat G w ([ae y.yb (cl (nA y) 80),aL (Value.int .i64) y.mb cs])) (dj 0 13 (.act 13 (.act 14 (.act 15 (.st 16 .nil))))) rfl aq aq aq eo ?_
  refine go ?_
  refine cJ (U:=aR) (cs:=dC y.x.d) 0 zr zr zr zr zr zr (go ?_)
  refine rP (U:=aR) (kv:=Value.int .i64) (es:=cs) (key:=(i:Int)) rfl (tw Tryz.underlying3) zr zr zr zr zr zr zr (fun w hw=>hw.l4 (i:=1) rfl) ?_
  refine az 76 ((.slice pa pf.length pc)) rfl (M5) (go ?_)
  refine dy K2 ?_
  rintro r9 _ rfl
  refine aP 0 rfl ?_
  rintro a9 c9 rfl
  refine gX (bs:=bS y.x.d i pf) 0 rfl ?_
  intro hb9
  refine go ?_
  refine ao (cs:=[.slice a9 (bS y.x.d i pf).length c9]) zr zr zr zr zr zr zr zr zr (fun _ w hw=>hw.cL ah) ?_
  intro SZ
  refine aJ (H':=ae SZ (cl [.slice a9 (bS y.x.d i pf).length c9] 40)::aF 40 1 (.slice oa M.cs.length oc) M.cs.length M.cs::aF 5 1 (.slice a9 (bS y.x.d i pf).length c9) (bS y.x.d i pf).length (bV (bS y.x.d i pf))::M.Z::ae y.yb (cl (nA y) 80)::ae y.sb (cl [.int .i64 (y.n:Int),wv] 137)::aF 133 1 wv y.ws.length (qV y.ws)::aL (Value.int .i64) y.mb cs::bh 37 N::ae tb (cl [ptr bs,ptr jb,tv,.bool br] 74)::cR bs bd jb q mb [] s::X::F) ah (go ?_)
  refine aT (mm:=1) (news:=[.slice a9 (bS y.x.d i pf).length c9]) 1 0 rfl rfl rfl rfl rfl rfl rfl rfl rfl rfl rfl rfl (Vw.ae rfl) rfl (by intro v hv;simp at hv;rw[hv];rfl) ag (by show(_+_)*24≤_;omega) (fun _=>rfl) (fun _ w hw=>hw.cL ah) ?_
  intro v1
  refine aP 1 rfl ?_
  rintro ja jc rfl
  refine go ?_
  have GC:=hM.add hb9
  have Z':(M.cs++[Value.slice a9 (bS y.x.d i pf).length c9]).length=M.cs.length+1:=by simp
  refine ai (H':=aF 5 1 (.slice a9 (bS y.x.d i pf).length c9) (bS y.x.d i pf).length (bV (bS y.x.d i pf))::M.Z::ae y.yb (cl (nA y) 80)::ae y.sb (cl [.int .i64 (y.n:Int),wv] 137)::aF 133 1 wv y.ws.length (qV y.ws)::aL (Value.int .i64) y.mb cs::bh 37 N::aF 40 1 (.slice ja (M.cs++[Value.slice a9 (bS y.x.d i pf).length c9]).length jc) (M.cs++[Value.slice a9 (bS y.x.d i pf).length c9]).length (M.cs++[Value.slice a9 (bS y.x.d i pf).length c9])::ae tb (cl [ptr bs,ptr jb,tv,.bool br] 74)::cR bs bd jb q mb [] s::X::F) (by rw[Z'];exact ah) ?_
  refine ai (ak.bX [aF 5 1 (.slice a9 (bS y.x.d i pf).length c9) (bS y.x.d i pf).length (bV (bS y.x.d i pf)),M.Z] _) ?_
  refine ai (ak.trans ah (iG (Sep [aF 5 1 (.slice a9 (bS y.x.d i pf).length c9) (bS y.x.d i pf).length (bV (bS y.x.d i pf)),M.Z]::aF 40 1 (.slice ja (M.cs++[Value.slice a9 (bS y.x.d i pf).length c9]).length jc) (M.cs++[Value.slice a9 (bS y.x.d i pf).length c9]).length (M.cs++[Value.slice a9 (bS y.x.d i pf).length c9])::ae tb (cl [ptr bs,ptr jb,tv,.bool br] 74)::cR bs bd jb q mb [] s::X::F))) ?_
  refine bj 1 ((ptr y0.yb)) rfl ((by rw[OQ])) ?_
  refine bj 5 ((.slice ja (M.cs++[Value.slice a9 (bS y.x.d i pf).length c9]).length jc)) rfl ((by rw[Z'])) ?_
  refine aM ih (i+1,y,⟨M.cs++[Value.slice a9 (bS y.x.d i pf).length c9],Sep [aF 5 1 (.slice a9 (bS y.x.d i pf).length c9) (bS y.x.d i pf).length (bV (bS y.x.d i pf)),M.Z]⟩,ja,jc) rfl ⟨by simp only;omega,OQ,by rw[wz],by rw[wz];exact GC,by simp only[Z'];omega⟩ ag ck ah
 ·intro fO
  have tR:i=y0.n:=by omega
  subst tR
  refine kH 0 rfl ?_
  intro kj
  refine dg 0 rfl ?_
  intro QI
  have DF:=hM.1
  have nw:sJ (Sep [aF 40 1 (.slice oa M.cs.length oc) M.cs.length M.cs,M.Z]) (.slice oa M.cs.length oc) (kW s.1 y0.c).2:=by
   rw[DF]at QI kj ⊢
   exact sJ.ofP QI kj DF hM.2
  refine ai (ak.bX [aF 40 1 (.slice oa M.cs.length oc) M.cs.length M.cs,M.Z] _) (go ?_)
  refine ad hE Tryz.func70 zr zr ⟨y,_,OQ,I7,nw,rfl⟩
end Go.Proofs.YthnfckodljbgbaaGreatDoor
namespace Go.Proofs.YthnfckodljbgbaaGreatDoor
open Go Go.SL
def JZ(c:TC):Prop:=km c∧bI c.x=true
theorem km.fresh(x:Bl):km (cN x):=by
 have h:=wM x
 unfold km cN
 grind
theorem km.put{c:TC}(h:km c)(i:Nat){l:List Dg}(hl:l.length≤10):km (c.put i l):=⟨h.1,by unfold TC.put;simp only[jG];exact h.2.1,by unfold TC.put;simp only[jG];exact h.2.2.1,fun k l' hk=>by
  unfold TC.put at hk
  simp only at hk
  split at hk
  · grind
  · exact h.2.2.2 k l' hk⟩
theorem B6{cs:List TC}(h:∀c∈cs,JZ c)(d:Dg)(m:List UInt8)(l:List (List UInt8)):(∀c∈lV cs d m l,JZ c)∧(lV cs d m l).length=cs.length:=by
 unfold lV
 split
 ·refine⟨fun c hc=>?_,by simp⟩
  obtain⟨y,hy,rfl⟩:=List.mem_map.1 hc
  split
  ·rename_i hh
   exact⟨(h y hy).1.put _ (by rw[hh.2.2];exact oQ _ _),(h y hy).2⟩
  grind
 grind
def Y1{cs:List TC}(h:∀c∈cs,JZ c)(d:Dg):(∀c∈v7 cs d,JZ c)∧(v7 cs d).length≤cs.length:=⟨fun c hc=>h c (List.mem_filter.1 hc).1,List.length_filter_le _ _⟩
theorem EU{cs:List TC}(h:∀c∈cs,JZ c)(b:List UInt8):(∀c∈cY cs b,JZ c)∧(cY cs b).length≤cs.length+1:=by
 unfold cY
 split
 ·grind
 ·rename_i k d more _
  have hr:=Y1 h d
  split
  ·grind
  ·split
   ·split
    ·split
     ·split
      ·rename_i TH
       refine⟨fun c hc=>?_,by rw[List.length_append];simp;omega⟩
       rcases List.mem_append.1 hc with hc|hc
       ·exact hr.1 c hc
       ·rw[List.mem_singleton.1 hc];exact⟨km.fresh _,TH⟩
      grind
     grind
    grind [B6]
   ·grind [B6]
   grind
theorem Kq:∀(ls:List (List UInt8)) (cs:List TC),(∀c∈cs,JZ c)→(∀c∈ls.foldl cY cs,JZ c)∧(ls.foldl cY cs).length≤cs.length+ls.length
 | [],cs,h=>⟨h,by simp⟩
 | b::ls,cs,h=>by
  obtain⟨h1,h2⟩:=EU h b
  obtain⟨h3,h4⟩:=Kq ls (cY cs b) h1
  grind
theorem oh(ls:List (List UInt8)):(∀c∈ls.foldl cY [],JZ c)∧(ls.foldl cY []).length≤ls.length:=by
 grind [Kq]
theorem A5{q:Int}{x:Bl}{s t:fg}{e:Nat}(h:eh q x s e t):t.bz=s.bz∨t.bz=s.bz++[(x.d,x)]:=by
 unfold eh at h
 split at h
 ·grind
 split at h
 ·grind
 split at h
 ·grind
 split at h
 ·grind
 split at h
 ·grind
 ·obtain⟨e1,s1,⟨B,_,rfl⟩,h2⟩:=h
  grind
theorem dY{x:Bl}(h:bI x=true):1≤x.size∧x.size≤1048576∧16≤x.piece∧x.piece≤16384:=by
 grind [bI]
theorem qa.begin{q:Int}{x:Bl}{s t:fg}{e:Nat}(h:qa s.bz)(hl:s.bz.length<1000000)(hr:bI x=true)(hR:eh q x s e t):qa t.bz∧t.bz.length≤s.bz.length+1:=by
 rcases A5 hR with h1|h1
 ·grind
 ·rw[h1]
  have:=dY hr
  refine⟨⟨fun y hy=>?_,by simp;omega⟩,by simp⟩
  rcases List.mem_append.1 hy with hy|hy
  ·exact h.1 y hy
  grind
theorem xu:∀(ss:List (PS→Nat→PS→Prop)),(∀sp∈ss,∀x e y,sp x e y→kM x.1 y.1)→∀(x:PS) (e:Nat) (y:PS),gi ss x e y→y.1.aj.length≤x.1.aj.length+ss.length∧y.1.writes.length≤x.1.writes.length+ss.length
 | [],_,x,e,y,h=>by obtain⟨_,rfl⟩:=h;simp
 | sp::ss,hs,x,e,y,⟨e1,x1,h1,h2⟩=>by
  have hg:=hs sp (List.mem_cons_self ..) x e1 x1 h1
  unfold kM at hg
  rcases h2 with⟨_,_,rfl⟩|⟨_,h2⟩
  ·grind
  ·have:=xu ss (fun sp h=>hs sp (List.mem_cons_of_mem _ h)) x1 e y h2
   grind
theorem CP{nm:ByteArray}{ls:List (List UInt8)}{x y:PS}{e:Nat}(h:yf nm ls x e y):y.1.aj.length≤x.1.aj.length+7∧y.1.writes.length≤x.1.writes.length+7:=by
 have hg:=xu (gO nm ls x.1) (fun sp iC x e y hS=>by
  unfold gO at iC
  have key:sp=Dc (bQ nm)∨sp∈[Dd (bQ nm),Iy (bQ nm) (cm ls),PA (bQ nm),Db (bQ nm) nm,Iz,YZ (ls.flatMap aS).length]:=by
   grind
  simp only[List.mem_cons,List.not_mem_nil,or_false]at key
  rcases key with rfl|rfl|rfl|rfl|rfl|rfl|rfl
  ·obtain⟨⟨h1,h2⟩,_⟩:=hS;rw[h2];exact qH _ _ _
  ·obtain⟨⟨f,_,h1,h2⟩,_⟩:=hS;rw[h2];exact qI _ _ _ _
  ·obtain⟨⟨h1,h2⟩,_⟩:=hS;rw[h2];exact lk _ _ _ _ _
  ·obtain⟨⟨h1,h2⟩,_⟩:=hS;rw[h2];exact ll _ _ _
  ·obtain⟨⟨h1,h2⟩,_⟩:=hS;rw[h2];exact qG _ _ _ _
  ·obtain⟨⟨h1,h2⟩,_⟩:=hS;rw[h2];exact kD _
  ·obtain⟨h1,h2⟩:=hS;rw[h2];exact⟨by simp,by simp⟩) x e y h
 grind [gO]
theorem AL{A A':Ab}{nm:ByteArray}{e:Nat}{j:JN}(h:oV A nm e A' j):A'.aj.length≤A.aj.length+7∧A'.writes.length≤A.writes.length+7:=by
 unfold oV at h
 split at h
 ·grind
 split at h
 ·grind
 obtain⟨y,hy,rfl,_⟩:=h
 exact CP hy
theorem M7(s:fg)(z:TC × List (List UInt8))(hz:km z.1)(i:Nat)(hi:i≤1000000000000):(∀x∈(nF s z i).2,x∈z.2∨x.length≤760)∧(nF s z i).2.length≤z.2.length+1:=by
 unfold nF
 split
 ·split
  ·grind
  ·refine⟨fun x hx=>?_,by simp⟩
   rcases List.mem_append.1 hx with hx|hx
   ·exact .inl hx
   ·right
    rw[List.mem_singleton.1 hx]
    have qg:((z.1.pf i).getD []).length≤10:=by
     cases hp:z.1.pf i with
     | none=>simp
     | some l=>exact hz.2.2.2 _ l hp
    have:=iu 2 z.1.x.d (fp i ((z.1.pf i).getD [])) (by simp[fp];omega) (ld i hi _)
    grind [bS,fp]
 grind
theorem Ci(s:fg)(c:TC)(hc:km c)(hr:bI c.x=true):∀k,k≤1024→(∀x∈(gP s c k).2,x.length≤760)∧(gP s c k).2.length≤k+1
 | 0,_=>by
  refine⟨fun x hx=>?_,by simp[gP]⟩
  have:x=cD c.x:=by simpa[gP]using hx
  rw[this]
  have hb:=dY hr
  have:=iu 1 c.x.d (iD c.x) (by simp[iD]) (lp c.x ag ag)
  unfold cD
  omega
 | k+1,hk=>by
  obtain⟨h1,h2⟩:=Ci s c hc hr k ag
  rw[mS]
  obtain⟨h3,h4⟩:=M7 s (gP s c k) (hc.hold k) k ag
  grind
theorem M8(s:fg)(c:TC)(h:JZ c):(∀x∈(kW s c).2,x.length≤760)∧(kW s c).2.length≤1025:=by
 obtain⟨h1,h2⟩:=Ci s c h.1 h.2 c.n h.1.1
 have:=h.1.1
 grind [kW]
theorem Aa:∀(ls:List (List UInt8)) (n:Nat),(∀x∈ls,x.length≤760)→ls.length≤n→(ls.flatMap aS).length≤770*n
 | [],n,_,_=>by simp
 | x::ls,n,h,hn=>by
  rw[List.length_cons]at hn
  have:=Aa ls (n-1) (fun y hy=>h y (List.mem_cons_of_mem _ hy)) ag
  grind [oP]
end Go.Proofs.YthnfckodljbgbaaGreatDoor
