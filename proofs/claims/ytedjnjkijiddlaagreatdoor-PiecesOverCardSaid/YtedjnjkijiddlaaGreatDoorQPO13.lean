import Derived.Test.YtedjnjkijiddlaaGreatDoorQPO12
set_option linter.unusedSimpArgs false
set_option linter.unusedVariables false
set_option maxHeartbeats 4000000
namespace Go.Proofs.YtedjnjkijiddlaaGreatDoor
open Go Go.SL
def eo(i:Nat)(l:List Dg):List (List UInt8):=uv i::l.map Dg.bs
theorem kh(i:Nat)(hi:i≤1000000000000)(l:List Dg):∀b∈eo i l,b.length≤32:=fun b hb=>by
  rcases List.mem_cons.1 hb with rfl|hb
  · have := wQ 5 i (by have : (128 : Nat) ^ 6 = 4398046511104 := by decide
                       omega)
    omega
  · obtain⟨d,_,rfl⟩:=List.mem_map.1 hb
    rw[d.len];omega
theorem DC(i:Nat){l:List Dg}{j:Nat}{d:Dg}(h:l[j]?=some d):eo i (l.take (j+1))=eo i (l.take j)++[d.bs]:=by
 unfold eo
 rw[List.take_add_one,h]
 simp
structure YD where
 cs:List Value
 Z:HP
def Cm(M:YD)(ls:List (List UInt8)):Prop:=M.cs.length=ls.length∧∀(i:Nat) (x:List UInt8),ls[i]?=some x→∃cv,M.cs[i]?=some cv∧eJ M.Z cv x
theorem Cm.add{M:YD}{ls:List (List UInt8)}(h:Cm M ls){A:HP}{cv:Value}{x:List UInt8}(hx:eJ A cv x):Cm ⟨M.cs++[cv],Sep [A,M.Z]⟩ (ls++[x]):=by
 obtain⟨h1,h2⟩:=h
 refine⟨by simp[h1],fun i y hy=>?_⟩
 simp only
 rw[List.getElem?_append]at hy ⊢
 rw[h1]
 split at hy
 ·rename_i cW
  rw[if_pos cW]
  obtain⟨cv',h3,h4⟩:=h2 i y hy
  exact⟨cv',h3,h4.mono (aW (i:=1) rfl)⟩
 ·rename_i fq
  rw[if_neg fq]
  have h0:i-ls.length=0:=by
   rcases Nat.eq_zero_or_pos (i-ls.length)with h|h
   ·exact h
   ·rw[List.getElem?_eq_none (by simp;omega)]at hy;cases hy
  rw[h0]at hy ⊢
  cases hy
  exact⟨cv,rfl,hx.mono (aW (i:=0) rfl)⟩
attribute [local irreducible] J K aD Ends ag aB aM bN aZ aP aV bh bW aC
set_option maxRecDepth 20000 in
theorem Au(d:Dg)(i:Nat)(hi:i≤1000000000000)(P:HP)(pv:Value)(l:List Dg)(hp:Vw P pv l.length (l.flatMap dC))(hl:l.length≤16) :
  aD Tryz.prog 49 [dV d,.int .i64 (i:Int),pv] [P] (fun r H=>H=[aB 5 1 r (bF d i l).length (bV (bF d i l)),P]):=by
 obtain⟨a,c,rfl⟩:=hp.shape
 have hlen:=kh i hi l
 unfold dV
 refine aD.enter Tryz.func49 ak rfl Tryz.ntmps49 zr zr ?_
 intro G F R hE
 refine aE rfl ?_
 refine bC zr zr bz ?_
 intro b3
 refine go ?_
 ((refine ai zr zr zr zr (l9 i ah) ad ?_ bG))
 rintro r8 _ rfl
 ((refine aJ 0 rfl ?_))
 rintro a8 c8 rfl
 refine gB (bs:=uv i) 0 rfl ?_
 intro IY
 refine go ?_
 refine al (cs:=[.slice a8 (uv i).length c8]) zr zr zr zr zr zr zr zr zr bz ?_
 intro row
 refine go ?_
 refine aj (H':=ag row (cl [.slice a8 (uv i).length c8] 22)::aB 5 1 (.slice a8 (uv i).length c8) (uv i).length (bV (uv i))::ag b3 (cl (dC d) 35)::P::F) ad ?_
 refine aj (eL 22 1 row 1 1 [.slice a8 (uv i).length c8] [] _ rfl (Nat.le_refl _) (by simp)) ?_
 refine bu (fun y:Nat × YD × Option Addr × Nat=>y.1≤l.length∧Cm y.2.1 (eo i (l.take y.1))) (fun y=>l.length-y.1)
  (fun y=>[(3,ptr b3),(7,.slice y.2.2.1 (y.1+1) y.2.2.2),(14,.slice a l.length c),(15,.int .i64 (l.length:Int)),(16,.int .i64 (y.1:Int))])
  (fun y=>aB 22 1 (.slice y.2.2.1 (y.1+1) y.2.2.2) (y.1+1) y.2.1.cs::y.2.1.Z::ag b3 (cl (dC d) 35)::P::F) (0,⟨[.slice a8 (uv i).length c8],aB 5 1 (.slice a8 (uv i).length c8) (uv i).length (bV (uv i))⟩,some ⟨row,0,none⟩,1) ⟨Nat.zero_le _,?_⟩ rfl cu ad ?_
 ·refine⟨rfl,fun j x hx=>?_⟩
  match j,hx with
  | 0,hx=>cases hx;exact⟨_,rfl,IY⟩
  | j+1,hx=>simp[eo]at hx
 rintro⟨j,M,ma,mc⟩⟨hj,hM⟩ ih
 simp only at hj hM
 dsimp only
 refine go ?_
 refine au zr zr ?_ ?_
 ·intro cW
  have qL:j<l.length:=by omega
  obtain⟨x,hx⟩:∃x,l[j]?=some x:=⟨l[j],by simp⟩
  have jY:=DC i hx
  have BR:=hM.1
  have adE:(eo i (l.take j)).length=j+1:=by simp[eo];omega
  obtain⟨bb,oo,cc,he⟩:=hp.some (by intro h;have:=congrArg List.length h;rw[cH db]at this;simp at this;omega)
  simp only[Value.slice.injEq,true_and]at he
  obtain⟨rfl,rfl⟩:=he
  refine go ?_
  refine cO j 32 zr zr zr zr zr zr zr zr qL ?_
  refine aK ?_
  refine de (U:=aN) (es:=dC x) 3 (j*32) zr zr zr hp rfl (fun q v hq=>?_) zr zr zr ?_
  ·rw[cY db hx q (by rcases Nat.lt_or_ge q 32 with h|h;exact h;rw[List.getElem?_eq_none (by rw[db];exact h)]at hq;cases hq)];exact hq
  refine aw zr zr zr bz ?_
  intro b9
  refine go ?_
  refine iB (U:=aN) zr zr zr zr zr ?_
  have vV:eJ (ag b9 (cl (dC x) 35)) (.slice (some ⟨b9,0,none⟩) 32 32) x.bs:=eJ.block x.len (dG x)
  have ln:=kT (ag b9 (cl (dC x) 35)) (.slice (some ⟨b9,0,none⟩) x.bs.length 32) x.bs (by have:=vV.1;rw[x.len]at this ⊢;exact this) (by rw[x.len];omega)
  rw[x.len]at ln
  ((refine ai zr zr zr zr (ln) ad ?_ bG))
  rintro r9 _ rfl
  rw[← x.len]
  ((refine aJ 0 rfl ?_))
  rintro a9 c9 rfl
  refine gB (bs:=x.bs) 0 rfl ?_
  intro Xm
  refine go ?_
  refine al (cs:=[.slice a9 x.bs.length c9]) zr zr zr zr zr zr zr zr zr bz ?_
  intro Qd
  refine go ?_
  refine aO (mm:=1) (news:=[.slice a9 x.bs.length c9]) 3 0 rfl rfl rfl rfl rfl rfl rfl rfl rfl rfl rfl rfl (Vw.ag rfl) rfl (by intro v hv;simp at hv;rw[hv];rfl) ah (by show(_+_)*24≤_;omega) (fun _=>rfl) bz ?_
  intro v1
  ((refine aJ 3 rfl ?_))
  rintro ja jc rfl
  refine go ?_
  refine aj (H':=aB 5 1 (.slice a9 x.bs.length c9) x.bs.length (bV x.bs)::M.Z::aB 22 1 (.slice ja (j+1+1) jc) (j+1+1) (M.cs++[.slice a9 x.bs.length c9])::ag b3 (cl (dC d) 35)::P::F) ad ?_
  refine aj (ao.bP [aB 5 1 (.slice a9 x.bs.length c9) x.bs.length (bV x.bs),M.Z] _) ?_
  have ys:=hM.add Xm
  rw[← jY]at ys
  refine aL ih (j+1,⟨M.cs++[.slice a9 x.bs.length c9],Sep [aB 5 1 (.slice a9 x.bs.length c9) x.bs.length (bV x.bs),M.Z]⟩,ja,jc) rfl ⟨by simp only;omega,ys⟩ (by simp only;omega) cu ad
 ·intro fq
  have Oc:j=l.length:=by omega
  subst Oc
  rw[List.take_length]at hM
  clear ih
  have BR:(eo i l).length=l.length+1:=by simp[eo]
  refine mi 0 rfl ?_
  intro jl
  refine dB 0 rfl ?_
  intro NN
  have mA:rM (Sep [aB 22 1 (.slice ma (l.length+1) mc) (l.length+1) M.cs,M.Z]) (.slice ma (l.length+1) mc) (eo i l):=by
   rw[← BR]at NN jl ⊢
   exact rM.ofP NN jl hM.1 hM.2
  have NU:=rZ 2 d _ _ (eo i l) mA ah hlen
  unfold dV at NU
  refine aj (ao.bP [aB 22 1 (.slice ma (l.length+1) mc) (l.length+1) M.cs,M.Z] _) ?_
  refine go ?_
  refine aH (U:=aN) (l:=dC d) 1 zr zr zr zr zr zr ?_
  ((refine go ?_;(refine ai zr zr zr zr (NU) ad ?_ bG)))
  rintro rr _ rfl
  refine go ?_
  ((refine ae hE Tryz.func49 rfl _ zr zr ad))
end Go.Proofs.YtedjnjkijiddlaaGreatDoor
namespace Go.Proofs.YtedjnjkijiddlaaGreatDoor
open Go Go.SL
def FA(q:Int)(x:Bl)(ts:List Tk)(s:SJ)(br:Bool)(e:Nat)(dW:List Tk)(hJ:Bool)(t:SJ):Prop :=
 (br=true∧e=10∧dW=ts∧hJ=br∧t=s)∨(br=false∧(ts.any fun y=>decide (y.x.d=x.d))=true∧e=5∧dW=ts∧hJ=br∧t=s) ∨
 (br=false∧(ts.any fun y=>decide (y.x.d=x.d))=false∧hJ=fR e∧iA (ec (dJ q x)::jK (bR x)) s e t∧((e≠0∧dW=ts)∨(e=0∧∃y:Tk,y.c=cQ x∧dW=ts++[y])))
attribute [local irreducible] J K aD Ends ag aB aM bN aZ aP aV bh bW aC
theorem EK(tb bs jb bd b2 b3:Nat)(q:Int)(hq:0≤q∧q≤1073741824)(mb:Nat)(tv:Value)(s:SJ)(x:Bl)(A B C:HP)(On:pe s.1.aY)(cF:s.1.A.aq.length≤900000000)(eH:s.1.A.writes.length≤900000000) :
  aD Tryz.prog 34 [ptr b2,ptr b3] [ig tb bs jb tv false,cd bs bd jb q mb (A::B::C::[ag b2 (cl [ptr tb] 30),ag b3 (cl (bD x) 37)]) s]
  (fun r H=>∃(e:Nat) (t:SJ),r = .int .i64 (e:Int)∧H=[ig tb bs jb tv false,cd bs bd jb q mb (A::B::C::[ag b2 (cl [ptr tb] 30),ag b3 (cl (bD x) 37)]) t]∧ec (dJ q x) s e t):=by
 have c0:=aD.frame ([qY jb bd cS s.2]++[A,B,C]) (EJ tb bs jb bd b2 b3 q hq mb tv s.1 x On cF eH)
 refine c0.conv ?_ ?_
 ·unfold cd cg
  exact(ao.cons _ (rP _)).trans ad
 ·rintro v H⟨H',⟨e,t,rfl,rfl,hC⟩,rfl⟩
  refine⟨[ig tb bs jb tv false,cd bs bd jb q mb _ (t,s.2)],⟨e,_,rfl,rfl,hC,rfl⟩,?_⟩
  unfold cd cg
  exact ao.trans ad (ao.cons _ (rY _))
theorem MH(tb bs jb bd:Nat)(tv:Value)(q:Int)(mb:Nat)(s:SJ)(g:FuncId)(cap:List Value)(c2 c3:Nat)(Z:HP)(Ys:List HP)(S:SJ→Nat→SJ→Prop)(a:Option Addr)(c:Nat)(b:List UInt8)(hb:eJ Z (.slice a b.length c) b)(hl:b.length≤1000000)(m:Nat)(hm:m≤800000000)(hx:∀t,S s 0 t→SQ m 0 t)(hc:aD Tryz.prog g cap [ig tb bs jb tv false,cd bs bd jb q mb (ag c2 (cl [ptr tb] 30)::ag c3 (cl [.slice a b.length c] 22)::Z::Ys) s] (fun r H=>∃(e:Nat) (t:SJ),r = .int .i64 (e:Int)∧H=[ig tb bs jb tv false,cd bs bd jb q mb (ag c2 (cl [ptr tb] 30)::ag c3 (cl [.slice a b.length c] 22)::Z::Ys) t]∧S s e t))(V:HP)(v:Value)(hv:Vw V v 3 (.func (.func g) #[] cap.toArray::g8 c2 c3 jb)) :
  aD Tryz.prog 38 [ptr tb,v] [V,ig tb bs jb tv false,cd bs bd jb q mb (ag c2 (cl [ptr tb] 30)::ag c3 (cl [.slice a b.length c] 22)::Z::Ys) s]
  (fun r H=>∃(e:Nat) (t:SJ),r = .int .i64 (e:Int)∧H=[V,ig tb bs jb tv (fR e),cd bs bd jb q mb (ag c2 (cl [ptr tb] 30)::ag c3 (cl [.slice a b.length c] 22)::Z::Ys) t]∧iA (S::jK b) s e t):=by
 refine qz (cd bs bd jb q mb _) tb bs jb tv V v (.func (.func g) #[] cap.toArray::g8 c2 c3 jb) hv (by simp[g8]) (S::jK b) rfl (fun i y=>(i=0→y=s)∧(i=1→SQ m 0 y)∧(i=2→SQ m 1 y)) ?_ s ⟨fun _=>rfl,fun h=>by omega,fun h=>by omega⟩
 intro i fv S' mB hs
 match i,mB,hs with
 | 0,mB,hs =>
  cases mB
  cases hs
  refine⟨_,_,_,rfl,fun y hy=>?_⟩
  have:=hy.1 rfl
  subst this
  refine aD.post hc ?_
  rintro v H⟨e,t,rfl,rfl,hS⟩
  exact⟨e,t,rfl,rfl,hS,fun h0=>⟨fun h=>absurd h ah,fun _=>hx t (by rw[← h0];exact hS),fun h=>absurd h ah⟩⟩
 | 1,mB,hs =>
  cases mB
  cases hs
  refine⟨_,_,_,rfl,fun y hy=>?_⟩
  obtain⟨a1,⟨a2,a3⟩,a4,a5⟩:=hy.2.1 rfl
  refine aD.post (uE tb bs jb bd c2 c3 tv q mb y Z Ys a c b hb hl ⟨a2,ah⟩ ah) ?_
  rintro v H⟨e,x',rfl,rfl,hS⟩
  exact⟨e,x',rfl,rfl,hS,fun _=>⟨fun h=>absurd h ah,fun h=>absurd h ah,fun _=>SQ.append ⟨a1,⟨a2,a3⟩,a4,a5⟩ hS⟩⟩
 | 2,mB,hs =>
  cases mB
  cases hs
  refine⟨_,_,_,rfl,fun y hy=>?_⟩
  obtain⟨a1,⟨a2,a3⟩,a4,a5⟩:=hy.2.2 rfl
  refine aD.post (qe tb bs jb bd tv q mb y _ a1 ⟨a2,ah⟩ ah ah) ?_
  rintro v H⟨e,x',rfl,rfl,hS⟩
  exact⟨e,x',rfl,rfl,hS,fun _=>⟨fun h=>absurd h ah,fun h=>absurd h ah,fun h=>absurd h ah⟩⟩
 | n+3,mB,hs=>cases hs
set_option maxRecDepth 20000 in
theorem mq(tb bs jb bd:Nat)(tv:Value)(q:Int)(hq:0≤q∧q≤1073741824)(mb:Nat)(ts:List Tk)(br:Bool)(s:SJ)(x:Bl)(hl:ts.length≤1000000)(hs:0≤x.size∧x.size≤1000000000000)(hp:0≤x.piece∧x.piece≤1000000000000)(On:pe s.1.aY)(cF:s.1.A.aq.length≤900000000)(eH:s.1.A.writes.length≤900000000)(m:Nat)(hm:m≤800000000)(hx:∀t,ec (dJ q x) s 0 t→SQ m 0 t) :
  aD Tryz.prog 10 [ptr tb,eg x] (dr tb bs jb tv ts br++[cd bs bd jb q mb [] s])
  (fun r H=>∃(e:Nat) (dW:List Tk) (nr:Value) (hJ:Bool) (t:SJ),r = .int .i64 (e:Int)∧H=dr tb bs jb nr dW hJ++[cd bs bd jb q mb [] t]∧FA q x ts s br e dW hJ t):=by
 have sk:=rK x hs hp
 have iD:(bR x).length≤1000000:=by
  have:=gQ 1 x.d (gM x) (by simp[gM]) (kq x hs.2 hp.2)
  unfold bR;omega
 have R8:=fun a n c=>uD tb bs jb tv a n c
 have wu:=AQ x
 unfold ig at R8
 unfold dr
 unfold eg at sk wu ⊢
 refine aD.enter Tryz.func10 ak rfl Tryz.ntmps10 zr zr ?_
 intro G F R hE
 refine aE rfl ?_
 refine bC zr zr bz ?_
 intro b2
 refine bC zr zr bz ?_
 intro b3
 cases br with
 | true =>
  refine go ?_
  refine aj (H':=ag tb (cl [ptr bs,ptr jb,tv,.bool true] 88)::aB 90 1 tv ts.length (ts.map cm)::aU ts::cd bs bd jb q mb [] s::F) ad ?_
  ((refine ae hE Tryz.func10 rfl _ rfl ⟨10,ts,tv,true,s,rfl,rfl,.inl ⟨rfl,rfl,rfl,rfl,rfl⟩⟩ ad))
 | false =>
 refine go ?_
 ((refine aJ 3 rfl ?_))
 rintro a c rfl
 refine aG (H':=aB 90 1 (.slice a ts.length c) ts.length (ts.map cm)::ag tb (cl [ptr bs,ptr jb,.slice a ts.length c,.bool false] 88)::aU ts::cd bs bd jb q mb [] s::ag b2 (cl [ptr tb] 30)::ag b3 (cl (bD x) 37)::F) ad ?_
 refine iL 0 rfl ?_
 intro dK
 refine aG (H':=aU ts::ag b3 (cl (bD x) 37)::aB 90 1 (.slice a ts.length c) ts.length (ts.map cm)::ag tb (cl [ptr bs,ptr jb,.slice a ts.length c,.bool false] 88)::cd bs bd jb q mb [] s::ag b2 (cl [ptr tb] 30)::F) ad ?_
 refine aG (ao.bP [aU ts,ag b3 (cl (bD x) 37)] _) ?_
 ((refine ai zr zr zr zr (v7 (aB 90 1 (.slice a ts.length c) ts.length (ts.map cm)) (Sep [aU ts,ag b3 (cl (bD x) 37)]) _ ts dK hl 33 [ptr b3] (fun y=>decide (y.x.d=x.d)) (fun y hy=>EL ts x b3 y hy)) ad ?_ bG))
 rintro _ _⟨rfl,rfl⟩
 ((refine aG (H':=Sep [aU ts,ag b3 (cl (bD x) 37)]::aB 90 1 (.slice a ts.length c) ts.length (ts.map cm)::ag tb (cl [ptr bs,ptr jb,.slice a ts.length c,.bool false] 88)::cd bs bd jb q mb [] s::ag b2 (cl [ptr tb] 30)::F) ad ?_))
 refine aG (ao.cB [aU ts,ag b3 (cl (bD x) 37)] _) ?_
 cases lY:ts.any (fun y=>decide (y.x.d=x.d))with
 | true =>
  refine go ?_
  refine aj (H':=ag tb (cl [ptr bs,ptr jb,.slice a ts.length c,.bool false] 88)::aB 90 1 (.slice a ts.length c) ts.length (ts.map cm)::aU ts::cd bs bd jb q mb [] s::F) ad ?_
  ((refine ae hE Tryz.func10 rfl _ rfl ⟨5,ts,_,false,s,rfl,rfl,.inr (.inl ⟨rfl,lY,rfl,rfl,rfl,rfl⟩)⟩ ad))
 | false =>
 refine go ?_
 refine aj (H':=ag tb (cl [ptr bs,ptr jb,.slice a ts.length c,.bool false] 88)::aB 90 1 (.slice a ts.length c) ts.length (ts.map cm)::aU ts::cd bs bd jb q mb [] s::ag b2 (cl [ptr tb] 30)::ag b3 (cl (bD x) 37)::F) ad ?_
 refine iR rfl ?_
 refine E8 1 (fun y:(Option Addr × Nat) × (Option Addr × Nat) × Nat × Nat=>True) (fun y=>[(2,ptr b2),(3,ptr b3),(5,.slice y.1.1 3 y.1.2)]) (fun y=>aB 96 1 (.slice y.1.1 3 y.1.2) 3 ([.func (.func 34) #[] #[ptr b2,ptr b3] ]++g8 y.2.2.1 y.2.2.2 jb)::aB 5 1 (.slice y.2.1.1 (bR x).length y.2.1.2) (bR x).length (bV (bR x))::ag y.2.2.1 (cl [ptr tb] 30)::ag y.2.2.2 (cl [.slice y.2.1.1 (bR x).length y.2.1.2] 22)::ag tb (cl [ptr bs,ptr jb,.slice a ts.length c,.bool false] 88)::aB 90 1 (.slice a ts.length c) ts.length (ts.map cm)::aU ts::cd bs bd jb q mb [] s::ag b2 (cl [ptr tb] 30)::ag b3 (cl (bD x) 37)::F) rfl ?_ ?_
 rotate_left
 ·intro tail
  refine aF (fun w=>Sat G w ([ag b2 (cl [ptr tb] 30),ag b3 (cl (bD x) 37)])) (.st 0 (.st 2 (.st 3 (.fork (.act 1 (.act 4 (.act 5 (.act 6 (.st 7 .nil))))) (.act 4 (.fork (.act 1 (.act 5 (.act 6 (.st 7 .nil)))) (.act 5 (.act 1 (.act 6 (.st 7 .nil)))))))))) rfl ak ak ak ei ?_
  refine go ?_
  refine bL (U:=aN) (l:=bD x) 1 zr zr zr zr zr zr ?_
  repeat'(first|refine qt ?_ ?_|(refine al (cs:=[.func (.func 34) #[] #[ptr b2,ptr b3] ]) zr zr zr zr zr zr zr zr zr (fun _ w hw=>by exact hw.cy ad) ?_;intro r0)|(((refine ai rfl rfl rfl rfl (sk) ad ?_ (fun _ _ w hp hw=>by obtain rfl:=hp;exact hw.cy ad)));rintro _ _ rfl;((refine aJ 0 rfl ?_));rintro a8 c8 rfl)|(((refine ai rfl rfl rfl rfl (R8 a8 (bR x).length c8) ad ?_ (fun _ _ w hp hw=>by obtain⟨_,_,_,rfl,rfl⟩:=hp;exact hw.cy ad)));rintro _ _⟨c2,c3,row,rfl,rfl⟩)|fail)
  all_goals(
   refine aG (H':=ag r0 (cl [.func (.func 34) #[] #[ptr b2,ptr b3] ] 96)::ag row (cl (g8 c2 c3 jb) 96)::aB 5 1 (.slice a8 (bR x).length c8) (bR x).length (bV (bR x))::ag c2 (cl [ptr tb] 30)::ag c3 (cl [.slice a8 (bR x).length c8] 22)::ag tb (cl [ptr bs,ptr jb,.slice a ts.length c,.bool false] 88)::aB 90 1 (.slice a ts.length c) ts.length (ts.map cm)::aU ts::cd bs bd jb q mb [] s::ag b2 (cl [ptr tb] 30)::ag b3 (cl (bD x) 37)::F) ad ?_
   refine aG (eL 96 1 r0 1 1 [.func (.func 34) #[] #[ptr b2,ptr b3] ] [] _ rfl (Nat.le_refl _) (by simp)) ?_
   refine aO (mm:=2) (news:=g8 c2 c3 jb) 0 1 rfl rfl rfl rfl rfl rfl rfl rfl rfl rfl rfl rfl (Vw.ag rfl) rfl (by intro v hv;simp[g8]at hv;rcases hv with rfl|rfl <;> rfl) ah (by show(_+_)*8≤_;omega) (fun _=>rfl) (fun _ w hw=>by exact hw.cy ad) ?_
   intro v1
   ((refine aJ 0 rfl ?_))
   rintro ja jc rfl
   (refine rG ?_)
   refine vX tail ((ja,jc),(a8,c8),c2,c3) rfl trivial cu ad)
 rintro⟨⟨ja,jc⟩,⟨a8,c8⟩,c2,c3⟩ -
 simp only
 refine dB 0 rfl ?_
 intro oK
 refine ql (bs:=bR x) 1 rfl ?_
 intro IY
 have iH:=MH tb bs jb bd (.slice a ts.length c) q mb s 34 [ptr b2,ptr b3] c2 c3 _ [ag b2 (cl [ptr tb] 30),ag b3 (cl (bD x) 37)] _ a8 c8 (bR x) IY iD m hm hx (EK tb bs jb bd b2 b3 q hq mb (.slice a ts.length c) s x _ _ _ On cF eH) _ _ oK
 unfold ig at iH
 refine aj (ao.pick [8] rfl) ?_
 refine go ?_
 refine aG (H':=cd bs bd jb q mb [] s::([ag c2 (cl [ptr tb] 30),ag c3 (cl [.slice a8 (bR x).length c8] 22),aB 5 1 (.slice a8 (bR x).length c8) (bR x).length (bV (bR x)),ag b2 (cl [ptr tb] 30),ag b3 (cl (bD x) 37)]++(aB 96 1 (.slice ja 3 jc) 3 ([.func (.func 34) #[] #[ptr b2,ptr b3] ]++g8 c2 c3 jb)::ag tb (cl [ptr bs,ptr jb,.slice a ts.length c,.bool false] 88)::aB 90 1 (.slice a ts.length c) ts.length (ts.map cm)::aU ts::F))) ad ?_
 refine aG (yZ bs bd jb q mb _ s _) ?_
 ((refine ai zr zr zr zr (iH) ad ?_ bG))
 rintro _ _⟨e,t,rfl,rfl,hR⟩
 ((refine aG (H':=cd bs bd jb q mb [ag c2 (cl [ptr tb] 30),ag c3 (cl [.slice a8 (bR x).length c8] 22),aB 5 1 (.slice a8 (bR x).length c8) (bR x).length (bV (bR x)),ag b2 (cl [ptr tb] 30),ag b3 (cl (bD x) 37)] t::ag tb (cl [ptr bs,ptr jb,.slice a ts.length c,.bool (fR e)] 88)::aB 90 1 (.slice a ts.length c) ts.length (ts.map cm)::aU ts::F) ad ?_))
 refine aG (tR bs bd jb q mb _ t _) ?_
 by_cases he:e=0
 ·subst he
  have hcy:=lE x
  ((refine aG (H':=aB 90 1 (.slice a ts.length c) ts.length (ts.map cm)::ag tb (cl [ptr bs,ptr jb,.slice a ts.length c,.bool (fR 0)] 88)::ag b2 (cl [ptr tb] 30)::ag b3 (cl (bD x) 37)::aU ts::cd bs bd jb q mb [] t::F) ad ?_))
  refine go ?_
  refine aF (fun w=>Sat G w ([ag tb (cl [ptr bs,ptr jb,.slice a ts.length c,.bool (fR 0)] 88),ag b2 (cl [ptr tb] 30),ag b3 (cl (bD x) 37)])) (.st 0 (.st 1 (.st 2 (.st 3 (.st 4 (.st 5 (.act 6 (.act 7 (.act 8 (.st 9 (.st 10 (.act 11 .nil)))))))))))) rfl ak ak ak ei ?_
  refine go ?_
  refine bL (U:=aN) (l:=bD x) 2 zr zr zr zr zr zr ?_
  refine go ?_
  ((refine ai rfl rfl rfl rfl (wu) ad ?_ (fun _ _ w hp hw=>by obtain⟨_,_,rfl,_⟩:=hp;exact hw.cy ad)))
  rintro _ _⟨y,rfl,rfl,QH,AE,hy3,hy4⟩
  refine go ?_
  refine al (cs:=[ptr y.yb]) zr zr zr zr zr zr zr zr zr (fun _ w hw=>hw.cy ad) ?_
  intro r1
  refine go ?_
  refine aO (mm:=1) (news:=[ptr y.yb]) 2 0 rfl rfl rfl rfl rfl rfl rfl rfl rfl rfl rfl rfl (Vw.ag rfl) rfl (by intro v hv;simp at hv;rw[hv];rfl) ah (by show(_+_)*8≤_;omega) (fun _=>rfl) (fun _ w hw=>hw.cy ad) ?_
  intro v1
  ((refine aJ 2 rfl ?_))
  rintro ka kc rfl
  refine go ?_
  have PU:ts.map cm++[ptr y.yb]=(ts++[y]).map cm:=by simp[cm]
  have BR:ts.length+1=(ts++[y]).length:=by simp
  have pV:=uo ts [] y
  rw[List.append_nil]at pV
  rw[PU,BR]
  refine aj (H':=n9 y::aU ts::ag tb (cl [ptr bs,ptr jb,.slice ka (ts++[y]).length kc,.bool (fR 0)] 88)::aB 90 1 (.slice ka (ts++[y]).length kc) (ts++[y]).length ((ts++[y]).map cm)::cd bs bd jb q mb [] t::F) ad ?_
  refine aj (pV _) ?_
  have IE:y.c=cQ x:=by
   unfold Tk.c cQ
   rw[QH,hy3,hy4,← AE,Int.toNat_natCast]
  ((refine ae hE Tryz.func10 rfl _ rfl ⟨0,ts++[y],_,fR 0,t,rfl,rfl,.inr (.inr ⟨rfl,lY,rfl,hR,.inr ⟨rfl,y,IE,rfl⟩⟩)⟩ ad))
 ·((refine aG (H':=ag tb (cl [ptr bs,ptr jb,.slice a ts.length c,.bool (fR e)] 88)::aB 90 1 (.slice a ts.length c) ts.length (ts.map cm)::aU ts::cd bs bd jb q mb [] t::F) ad ?_))
  refine go ?_
  refine au zr zr ?_ ?_
  ·intro _
   refine go ?_
   ((refine ae hE Tryz.func10 rfl _ rfl ⟨e,ts,_,fR e,t,rfl,rfl,.inr (.inr ⟨rfl,lY,rfl,hR,.inl ⟨he,rfl⟩⟩)⟩ ad))
  ·intro h;exfalso;omega
end Go.Proofs.YtedjnjkijiddlaaGreatDoor
namespace Go.Proofs.YtedjnjkijiddlaaGreatDoor
open Go Go.SL
def HE(x:Bl)(i:Int)(b:List UInt8)(p:List Dg)(ts:List Tk)(s:SJ)(br:Bool)(e:Nat)(dW:List Tk)(hJ:Bool)(t:SJ):Prop :=
 (br=true∧e=10∧dW=ts∧hJ=br∧t=s)∨(br=false∧gy ts x=none∧e=4∧dW=ts∧hJ=br∧t=s) ∨
 (br=false∧∃(k:Nat) (y:Tk),gy ts x=some y∧ts[k]?=some y∧y.x=x∧(((i<0∨(y.n:Int)≤i)∧e=1∧dW=ts∧hJ=br∧t=s)∨((0≤i∧i<y.n)∧cE y.ws y.n i=true∧e=0∧dW=ts∧hJ=br∧t=s) ∨
  ((0≤i∧i<y.n)∧cE y.ws y.n i=false∧cM x i b p=false∧e=8∧dW=ts∧hJ=br∧t=s) ∨
  ((0≤i∧i<y.n)∧cE y.ws y.n i=false∧cM x i b p=true∧hJ=fR e∧iA (ec (mF x i b)::ec (j8 x)::jK (bF x.d i.toNat p)) s e t∧((e≠0∧dW=ts)∨(e=0∧dW=ts.set k (y.put i.toNat p))))))
attribute [local irreducible] J K aD Ends ag aB aM bN aZ aP aV bh bW aC
theorem J3(X:HP)(tb bs jb bd b2 b3 b4 b5:Nat)(q:Int)(mb:Nat)(tv:Value)(s:SJ)(x:Bl)(i:Int)(a:Option Addr)(c:Nat)(b:List UInt8)(A B C:HP)(hv:Vw X (.slice a b.length c) b.length (bV b))(iD:b.length≤1000000000)(hi : -9223372036854775808≤i∧i≤9223372036854775807)(cF:s.1.A.aq.length≤900000000)(eH:s.1.A.writes.length≤900000000) :
  aD Tryz.prog 45 [ptr b2,ptr b3,ptr b4,ptr b5] [ig tb bs jb tv false,cd bs bd jb q mb (A::B::C::[X,ag b2 (cl [ptr tb] 30),ag b3 (cl (bD x) 37),ag b4 (cl [.int .i64 i] 3),ag b5 (cl [.slice a b.length c] 22)]) s]
  (fun r H=>∃(e:Nat) (t:SJ),r = .int .i64 (e:Int)∧H=[ig tb bs jb tv false,cd bs bd jb q mb (A::B::C::[X,ag b2 (cl [ptr tb] 30),ag b3 (cl (bD x) 37),ag b4 (cl [.int .i64 i] 3),ag b5 (cl [.slice a b.length c] 22)]) t]∧ec (mF x i b) s e t):=by
 have c0:=aD.frame ([qY jb bd cS s.2]++[A,B,C]) (J4 X tb bs jb bd b2 b3 b4 b5 q mb tv s.1 x i a c b hv iD hi cF eH)
 refine c0.conv ?_ ?_
 ·unfold cd cg
  exact(ao.cons _ (rP _)).trans ad
 ·rintro v H⟨H',⟨e,t,rfl,rfl,hC⟩,rfl⟩
  refine⟨[ig tb bs jb tv false,cd bs bd jb q mb _ (t,s.2)],⟨e,_,rfl,rfl,hC,rfl⟩,?_⟩
  unfold cd cg
  exact ao.trans ad (ao.cons _ (rY _))
theorem J1(tb bs jb bd b2 b3:Nat)(q:Int)(mb:Nat)(tv:Value)(s:SJ)(x:Bl)(A B C X D E:HP)(cF:s.1.A.aq.length≤900000000)(eH:s.1.A.writes.length≤900000000) :
  aD Tryz.prog 47 [ptr b2,ptr b3] [ig tb bs jb tv false,cd bs bd jb q mb (A::B::C::[X,ag b2 (cl [ptr tb] 30),ag b3 (cl (bD x) 37),D,E]) s]
  (fun r H=>∃(e:Nat) (t:SJ),r = .int .i64 (e:Int)∧H=[ig tb bs jb tv false,cd bs bd jb q mb (A::B::C::[X,ag b2 (cl [ptr tb] 30),ag b3 (cl (bD x) 37),D,E]) t]∧ec (j8 x) s e t):=by
 have c0:=aD.frame ([qY jb bd cS s.2]++[A,B,C,X,D,E]) (J2 tb bs jb bd b2 b3 q mb tv s.1 x cF eH)
 refine c0.conv ?_ ?_
 ·unfold cd cg
  exact(ao.cons _ (rP _)).trans ad
 ·rintro v H⟨H',⟨e,t,rfl,rfl,hC⟩,rfl⟩
  refine⟨[ig tb bs jb tv false,cd bs bd jb q mb _ (t,s.2)],⟨e,_,rfl,rfl,hC,rfl⟩,?_⟩
  unfold cd cg
  exact ao.trans ad (ao.cons _ (rY _))
theorem MG(tb bs jb bd:Nat)(tv:Value)(q:Int)(mb:Nat)(s:SJ)(g1 g2:FuncId)(XH oQ:List Value)(c2 c3:Nat)(Z:HP)(Ys:List HP)(S1 S2:SJ→Nat→SJ→Prop)(a:Option Addr)(c:Nat)(b:List UInt8)(hb:eJ Z (.slice a b.length c) b)(hl:b.length≤1000000)(m:Nat)(hm:m≤800000000)(hx:∀t u,S1 s 0 t→S2 t 0 u→SQ m 0 u)(FL:aD Tryz.prog g1 XH [ig tb bs jb tv false,cd bs bd jb q mb (ag c2 (cl [ptr tb] 30)::ag c3 (cl [.slice a b.length c] 22)::Z::Ys) s] (fun r H=>∃(e:Nat) (t:SJ),r = .int .i64 (e:Int)∧H=[ig tb bs jb tv false,cd bs bd jb q mb (ag c2 (cl [ptr tb] 30)::ag c3 (cl [.slice a b.length c] 22)::Z::Ys) t]∧S1 s e t))(mC:∀u,S1 s 0 u→aD Tryz.prog g2 oQ [ig tb bs jb tv false,cd bs bd jb q mb (ag c2 (cl [ptr tb] 30)::ag c3 (cl [.slice a b.length c] 22)::Z::Ys) u] (fun r H=>∃(e:Nat) (t:SJ),r = .int .i64 (e:Int)∧H=[ig tb bs jb tv false,cd bs bd jb q mb (ag c2 (cl [ptr tb] 30)::ag c3 (cl [.slice a b.length c] 22)::Z::Ys) t]∧S2 u e t))(V:HP)(v:Value)(hv:Vw V v 4 (.func (.func g1) #[] XH.toArray :: .func (.func g2) #[] oQ.toArray::g8 c2 c3 jb)) :
  aD Tryz.prog 38 [ptr tb,v] [V,ig tb bs jb tv false,cd bs bd jb q mb (ag c2 (cl [ptr tb] 30)::ag c3 (cl [.slice a b.length c] 22)::Z::Ys) s]
  (fun r H=>∃(e:Nat) (t:SJ),r = .int .i64 (e:Int)∧H=[V,ig tb bs jb tv (fR e),cd bs bd jb q mb (ag c2 (cl [ptr tb] 30)::ag c3 (cl [.slice a b.length c] 22)::Z::Ys) t]∧iA (S1::S2::jK b) s e t):=by
 refine qz (cd bs bd jb q mb _) tb bs jb tv V v (.func (.func g1) #[] XH.toArray :: .func (.func g2) #[] oQ.toArray::g8 c2 c3 jb) hv (by simp[g8]) (S1::S2::jK b) rfl (fun i y=>(i=0→y=s)∧(i=1→S1 s 0 y)∧(i=2→SQ m 0 y)∧(i=3→SQ m 1 y)) ?_ s ⟨fun _=>rfl,fun h=>by omega,fun h=>by omega,fun h=>by omega⟩
 intro i fv S' mB hs
 match i,mB,hs with
 | 0,mB,hs =>
  cases mB
  cases hs
  refine⟨_,_,_,rfl,fun y hy=>?_⟩
  have:=hy.1 rfl
  subst this
  refine aD.post FL ?_
  rintro v H⟨e,t,rfl,rfl,hS⟩
  exact⟨e,t,rfl,rfl,hS,fun h0=>⟨fun h=>absurd h ah,fun _=>by rw[← h0];exact hS,fun h=>absurd h ah,fun h=>absurd h ah⟩⟩
 | 1,mB,hs =>
  cases mB
  cases hs
  refine⟨_,_,_,rfl,fun y hy=>?_⟩
  have h1:=hy.2.1 rfl
  refine aD.post (mC y h1) ?_
  rintro v H⟨e,t,rfl,rfl,hS⟩
  exact⟨e,t,rfl,rfl,hS,fun h0=>⟨fun h=>absurd h ah,fun h=>absurd h ah,fun _=>hx y t h1 (by rw[← h0];exact hS),fun h=>absurd h ah⟩⟩
 | 2,mB,hs =>
  cases mB
  cases hs
  refine⟨_,_,_,rfl,fun y hy=>?_⟩
  obtain⟨a1,⟨a2,a3⟩,a4,a5⟩:=hy.2.2.1 rfl
  refine aD.post (uE tb bs jb bd c2 c3 tv q mb y Z Ys a c b hb hl ⟨a2,ah⟩ ah) ?_
  rintro v H⟨e,x',rfl,rfl,hS⟩
  exact⟨e,x',rfl,rfl,hS,fun _=>⟨fun h=>absurd h ah,fun h=>absurd h ah,fun h=>absurd h ah,fun _=>SQ.append ⟨a1,⟨a2,a3⟩,a4,a5⟩ hS⟩⟩
 | 3,mB,hs =>
  cases mB
  cases hs
  refine⟨_,_,_,rfl,fun y hy=>?_⟩
  obtain⟨a1,⟨a2,a3⟩,a4,a5⟩:=hy.2.2.2 rfl
  refine aD.post (qe tb bs jb bd tv q mb y _ a1 ⟨a2,ah⟩ ah ah) ?_
  rintro v H⟨e,x',rfl,rfl,hS⟩
  exact⟨e,x',rfl,rfl,hS,fun _=>⟨fun h=>absurd h ah,fun h=>absurd h ah,fun h=>absurd h ah,fun h=>absurd h ah⟩⟩
 | n+4,mB,hs=>cases hs
end Go.Proofs.YtedjnjkijiddlaaGreatDoor
namespace Go.Proofs.YtedjnjkijiddlaaGreatDoor
open Go Go.SL
theorem List.rT{α:Type}{l:List α}{i:Nat}{x:α}(h:l[i]?=some x):l.set i x=l:=by
 refine List.ext_getElem? fun j=>?_
 by_cases hj:j=i
 ·subst hj
  rw[List.getElem?_set_self (List.getElem?_eq_some_iff.1 h).1,h]
 ·rw[List.getElem?_set_ne (fun e=>hj e.symm)]
attribute [local irreducible] J K aD Ends ag aB aM bN aZ aP aV bh bW aC cd
set_option maxRecDepth 20000 in
theorem E3(X:HP)(hK:oe X)(tb bs jb bd:Nat)(tv:Value)(q:Int)(mb:Nat)(ts:List Tk)(br:Bool)(s:SJ)(x:Bl)(i:Int)(hi : -9223372036854775808≤i∧i≤9223372036854775807)(bv:Value)(b:List UInt8)(hb:eJ X bv b)(iD:b.length≤900000000)(pv:Value)(p:List Dg)(hp:HQ X pv p)(hl:ts.length≤1000000)(hn:∀y∈ts,y.n≤65536)(hw:∀y∈ts,y.n≤y.ws.length*64)(cF:s.1.A.aq.length≤800000000)(eH:s.1.A.writes.length≤800000000)(m:Nat)(hm:m≤800000000)(hx:∀t u,ec (mF x i b) s 0 t→ec (j8 x) t 0 u→SQ m 0 u) :
  aD Tryz.prog 13 [ptr tb,eg x,.int .i64 i,bv,pv] (dr tb bs jb tv ts br++[cd bs bd jb q mb [] s,X])
  (fun r H=>∃(e:Nat) (dW:List Tk) (hJ:Bool) (t:SJ),r = .int .i64 (e:Int)∧H=dr tb bs jb tv dW hJ++[cd bs bd jb q mb [] t,X]∧HE x i b p ts s br e dW hJ t):=by
 have hf:=qP tb bs jb tv br ts x hl
 have tt:=xR X hK x i bv b hb iD pv p hp
 have R8:=fun a n c=>uD tb bs jb tv a n c
 have hbv:=hb.1
 have WD:=hp.1
 obtain⟨ba,bc,rfl,Oq⟩:=hb.2
 obtain⟨pa,pc,rfl,adG⟩:=hp.2
 unfold ig at R8
 unfold dr eg at hf
 unfold eg at tt
 unfold dr eg
 refine aD.enter Tryz.func13 ak rfl Tryz.ntmps13 zr zr ?_
 intro G F R hE
 refine aE rfl ?_
 refine bC zr zr bz ?_
 intro b2
 refine bC zr zr bz ?_
 intro b3
 refine bC zr zr bz ?_
 intro b4
 refine bC zr zr bz ?_
 intro b5
 cases br with
 | true =>
  refine aG (H':=ag tb (cl [ptr bs,ptr jb,tv,.bool true] 88)::aB 90 1 tv ts.length (ts.map cm)::aU ts::cd bs bd jb q mb [] s::X::ag b2 (cl [ptr tb] 30)::F) ad ?_
  refine go ?_
  refine aj (H':=ag tb (cl [ptr bs,ptr jb,tv,.bool true] 88)::aB 90 1 tv ts.length (ts.map cm)::aU ts::cd bs bd jb q mb [] s::X::F) ad ?_
  ((refine ae hE Tryz.func13 rfl _ rfl ⟨10,ts,true,s,rfl,rfl,.inl ⟨rfl,rfl,rfl,rfl,rfl⟩⟩ ad))
 | false =>
 refine aG (H':=ag b2 (cl [ptr tb] 30)::ag b3 (cl (bD x) 37)::ag tb (cl [ptr bs,ptr jb,tv,.bool false] 88)::aB 90 1 tv ts.length (ts.map cm)::aU ts::cd bs bd jb q mb [] s::X::ag b4 (cl [.int .i64 i] 3)::ag b5 (cl [.slice ba b.length bc] 22)::F) ad ?_
 refine go ?_
 refine aH (U:=aN) (l:=bD x) 1 zr zr zr zr zr zr ?_
 ((refine ai zr zr zr zr (hf) ad ?_ bG))
 rintro _ _⟨rfl,rfl⟩
 cases pW:gy ts x with
 | none =>
  unfold P9
  refine go ?_
  refine aj (H':=ag tb (cl [ptr bs,ptr jb,tv,.bool false] 88)::aB 90 1 tv ts.length (ts.map cm)::aU ts::cd bs bd jb q mb [] s::X::F) ad ?_
  ((refine ae hE Tryz.func13 rfl _ rfl ⟨4,ts,false,s,rfl,rfl,.inr (.inl ⟨rfl,pW,rfl,rfl,rfl,rfl⟩)⟩ ad))
 | some y =>
 obtain⟨k,hk,CF⟩:=nO pW
 have GO:y∈ts:=List.mem_of_getElem? hk
 have GN:=hn y GO
 have Kt:=hw y GO
 have re:∀e dW hJ t,(((i<0∨(y.n:Int)≤i)∧e=1∧dW=ts∧hJ=false∧t=s)∨((0≤i∧i<y.n)∧cE y.ws y.n i=true∧e=0∧dW=ts∧hJ=false∧t=s) ∨
  ((0≤i∧i<y.n)∧cE y.ws y.n i=false∧cM x i b p=false∧e=8∧dW=ts∧hJ=false∧t=s) ∨
  ((0≤i∧i<y.n)∧cE y.ws y.n i=false∧cM x i b p=true∧hJ=fR e∧iA (ec (mF x i b)::ec (j8 x)::jK (bF x.d i.toNat p)) s e t∧((e≠0∧dW=ts)∨(e=0∧dW=ts.set k (y.put i.toNat p)))))→HE x i b p ts s false e dW hJ t:=fun e dW hJ t h => .inr (.inr ⟨rfl,k,y,pW,hk,CF,h⟩)
 unfold P9
 refine go ?_
 refine aj (H':=aU ts::ag tb (cl [ptr bs,ptr jb,tv,.bool false] 88)::aB 90 1 tv ts.length (ts.map cm)::cd bs bd jb q mb [] s::X::ag b2 (cl [ptr tb] 30)::ag b3 (cl (bD x) 37)::ag b4 (cl [.int .i64 i] 3)::ag b5 (cl [.slice ba b.length bc] 22)::F) ad ?_
 refine aj (lf hk _) ?_
 refine eE (gj y) ?_
 rintro⟨wv,cs,M⟩ hz
 have jO:∀H,ao (ag y.yb (cl (lz y) 93)::ag y.sb (cl [.int .i64 (y.n:Int),wv] 117)::aB 118 1 wv y.ws.length (qV y.ws)::aM (Value.int .i64) y.mb cs::aV 35 M::aU (ts.take k++ts.drop (k+1))::H) (aU ts::H):=fun H=>ao.trans (H2:=mZ y (wv,cs,M)++(aU (ts.take k++ts.drop (k+1))::H)) (by unfold mZ;exact ad) (ao.trans (jh hz _) (mI hk _))
 refine aj (H':=ag y.yb (cl (lz y) 93)::ag y.sb (cl [.int .i64 (y.n:Int),wv] 117)::aB 118 1 wv y.ws.length (qV y.ws)::aM (Value.int .i64) y.mb cs::aV 35 M::aU (ts.take k++ts.drop (k+1))::ag tb (cl [ptr bs,ptr jb,tv,.bool false] 88)::aB 90 1 tv ts.length (ts.map cm)::cd bs bd jb q mb [] s::X::ag b2 (cl [ptr tb] 30)::ag b3 (cl (bD x) 37)::ag b4 (cl [.int .i64 i] 3)::ag b5 (cl [.slice ba b.length bc] 22)::F) (by unfold mZ;exact ad) ?_
 refine aF (fun w=>Sat G w ([ag y.yb (cl (lz y) 93),ag b4 (cl [.int .i64 i] 3)])) (.st 0 (.st 1 (.st 2 (.st 3 (.st 4 (.st 5 (.st 6 (.st 7 (.act 8 (.st 9 (.st 10 (.st 11 .nil)))))))))))) rfl ak ak ak ei ?_
 refine go ?_
 by_cases KL:i<0
 ·((refine az 27 ((.bool true)) rfl ((congrArg Value.bool (decide_eq_true KL))) ?_))
  refine go ?_
  refine aj (jO _) ?_
  refine aj (H':=ag tb (cl [ptr bs,ptr jb,tv,.bool false] 88)::aB 90 1 tv ts.length (ts.map cm)::aU ts::cd bs bd jb q mb [] s::X::F) ad ?_
  ((refine ae hE Tryz.func13 rfl _ rfl ⟨1,ts,false,s,rfl,rfl,re _ _ _ _ (.inl ⟨.inl KL,rfl,rfl,rfl,rfl⟩)⟩ ad))
 ((refine az 27 ((.bool false)) rfl ((congrArg Value.bool (decide_eq_false KL))) ?_))
 refine go ?_
 ((refine ai rfl rfl rfl rfl (n8 y.sb y.n wv) ad ?_ jg))
 rintro _ _⟨rfl,rfl⟩
 refine go ?_
 by_cases pV:(y.n:Int)≤i
 ·((refine bB 24 ((.bool true)) rfl ((congrArg Value.bool (decide_eq_true pV))) ?_))
  refine go ?_
  refine aj (ao.trans ad (jO (ag tb (cl [ptr bs,ptr jb,tv,.bool false] 88)::aB 90 1 tv ts.length (ts.map cm)::cd bs bd jb q mb [] s::X::F))) ?_
  refine aj (H':=ag tb (cl [ptr bs,ptr jb,tv,.bool false] 88)::aB 90 1 tv ts.length (ts.map cm)::aU ts::cd bs bd jb q mb [] s::X::F) ad ?_
  ((refine ae hE Tryz.func13 rfl _ rfl ⟨1,ts,false,s,rfl,rfl,re _ _ _ _ (.inl ⟨.inr pV,rfl,rfl,rfl,rfl⟩)⟩ ad))
 ((refine bB 24 ((.bool false)) rfl ((congrArg Value.bool (decide_eq_false pV))) ?_))
 obtain⟨j,hj⟩:∃j:Nat,i=j:=⟨i.toNat,ah⟩
 have IU:i.toNat=j:=by omega
 have hrg:0≤i∧i<y.n:=by omega
 have uJ:=zo y.sb y.n wv y.ws GN Kt i
 unfold iP at uJ
 refine go ?_
 refine aj (H':=ag y.yb (cl (lz y) 93)::ag y.sb (cl [.int .i64 (y.n:Int),wv] 117)::aB 118 1 wv y.ws.length (qV y.ws)::aM (Value.int .i64) y.mb cs::aV 35 M::aU (ts.take k++ts.drop (k+1))::ag b4 (cl [.int .i64 i] 3)::ag tb (cl [ptr bs,ptr jb,tv,.bool false] 88)::aB 90 1 tv ts.length (ts.map cm)::cd bs bd jb q mb [] s::X::ag b2 (cl [ptr tb] 30)::ag b3 (cl (bD x) 37)::ag b5 (cl [.slice ba b.length bc] 22)::F) ad ?_
 refine aF (fun w=>Sat G w ([ag y.yb (cl (lz y) 93),ag b4 (cl [.int .i64 i] 3)])) (.st 0 (.st 1 (.st 2 (.st 3 (.st 4 (.act 5 (.st 6 .nil))))))) rfl ak ak ak ei ?_
 refine go ?_
 ((refine ai rfl rfl rfl rfl (uJ) ad ?_ jg))
 rintro _ _⟨rfl,rfl⟩
 cases Sg:cE y.ws y.n i with
 | true =>
  refine go ?_
  refine aj (ao.trans ad (jO (ag tb (cl [ptr bs,ptr jb,tv,.bool false] 88)::aB 90 1 tv ts.length (ts.map cm)::cd bs bd jb q mb [] s::X::F))) ?_
  refine aj (H':=ag tb (cl [ptr bs,ptr jb,tv,.bool false] 88)::aB 90 1 tv ts.length (ts.map cm)::aU ts::cd bs bd jb q mb [] s::X::F) ad ?_
  ((refine ae hE Tryz.func13 rfl _ rfl ⟨0,ts,false,s,rfl,rfl,re _ _ _ _ (.inr (.inl ⟨hrg,Sg,rfl,rfl,rfl,rfl⟩))⟩ ad))
 | false =>
 refine go ?_
 ((refine aG (ao.trans ad (jO (ag b2 (cl [ptr tb] 30)::ag b3 (cl (bD x) 37)::ag b4 (cl [.int .i64 i] 3)::ag b5 (cl [.slice ba b.length bc] 22)::ag tb (cl [ptr bs,ptr jb,tv,.bool false] 88)::aB 90 1 tv ts.length (ts.map cm)::cd bs bd jb q mb [] s::X::F))) ?_))
 ((refine aG (H':=ag b3 (cl (bD x) 37)::ag b4 (cl [.int .i64 i] 3)::ag b5 (cl [.slice ba b.length bc] 22)::ag b2 (cl [ptr tb] 30)::X::ag tb (cl [ptr bs,ptr jb,tv,.bool false] 88)::aB 90 1 tv ts.length (ts.map cm)::aU ts::cd bs bd jb q mb [] s::F) ad ?_))
 refine go ?_
 refine aH (U:=aN) (l:=bD x) 0 zr zr zr zr zr zr ?_
 refine go ?_
 ((refine ai zr zr zr zr (tt) ad ?_ bG))
 rintro _ _⟨rfl,rfl⟩
 cases FG:cM x i b p with
 | false =>
  refine go ?_
  refine aj (H':=ag tb (cl [ptr bs,ptr jb,tv,.bool false] 88)::aB 90 1 tv ts.length (ts.map cm)::aU ts::cd bs bd jb q mb [] s::X::F) ad ?_
  ((refine ae hE Tryz.func13 rfl _ rfl ⟨8,ts,false,s,rfl,rfl,re _ _ _ _ (.inr (.inr (.inl ⟨hrg,Sg,FG,rfl,rfl,rfl,rfl⟩)))⟩ ad))
 | true =>
 have pT:p.length≤10:=by
  unfold cM at FG
  split at FG
  ·cases FG
  ·rw[Bool.and_eq_true]at FG
   have:=FG.2
   unfold jo at this
   rw[decide_eq_true_iff]at this
   rw[this.2.1]
   exact qR _ _
 have FF:=Au x.d j ah X (.slice pa p.length pc) p WD ah
 rw[← hj]at FF
 unfold dV at FF
 have WX:(bF x.d j p).length≤1000000:=by
  have:=gQ 2 x.d (eo j p) (by simp[eo];omega) (kh j ah p)
  unfold bF
  unfold eo at this
  omega
 clear hf tt uJ jO
 refine go ?_
 refine aj (H':=ag tb (cl [ptr bs,ptr jb,tv,.bool false] 88)::aB 90 1 tv ts.length (ts.map cm)::aU ts::cd bs bd jb q mb [] s::X::ag b2 (cl [ptr tb] 30)::ag b3 (cl (bD x) 37)::ag b4 (cl [.int .i64 i] 3)::ag b5 (cl [.slice ba b.length bc] 22)::F) ad ?_
 refine iR rfl ?_
 refine E8 1 (fun y:(Option Addr × Nat) × (Option Addr × Nat) × Nat × Nat=>True) (fun z=>[(4,.slice pa p.length pc),(5,ptr b2),(6,ptr b3),(7,ptr b4),(8,ptr b5),(11,ptr y.yb),(12,.slice z.1.1 4 z.1.2)]) (fun z=>aB 96 1 (.slice z.1.1 4 z.1.2) 4 ([.func (.func 45) #[] #[ptr b2,ptr b3,ptr b4,ptr b5],.func (.func 47) #[] #[ptr b2,ptr b3] ]++g8 z.2.2.1 z.2.2.2 jb)::aB 5 1 (.slice z.2.1.1 (bF x.d j p).length z.2.1.2) (bF x.d j p).length (bV (bF x.d j p))::ag z.2.2.1 (cl [ptr tb] 30)::ag z.2.2.2 (cl [.slice z.2.1.1 (bF x.d j p).length z.2.1.2] 22)::ag tb (cl [ptr bs,ptr jb,tv,.bool false] 88)::aB 90 1 tv ts.length (ts.map cm)::aU ts::cd bs bd jb q mb [] s::X::ag b2 (cl [ptr tb] 30)::ag b3 (cl (bD x) 37)::ag b4 (cl [.int .i64 i] 3)::ag b5 (cl [.slice ba b.length bc] 22)::F) rfl ?_ ?_
 rotate_left
 ·intro tail
  refine aF (fun w=>Sat G w ([ag b2 (cl [ptr tb] 30),ag b3 (cl (bD x) 37),ag b4 (cl [.int .i64 i] 3)])) (.st 0 (.st 1 (.st 3 (.st 4 (.st 5 (.st 6 (.st 7 (.fork (.act 2 (.act 8 (.act 9 (.act 10 (.st 11 .nil))))) (.act 8 (.fork (.act 2 (.act 9 (.act 10 (.st 11 .nil)))) (.act 9 (.act 2 (.act 10 (.st 11 .nil)))))))))))))) rfl ak ak ak ei ?_
  refine go ?_
  refine ck (U:=aN) (cs:=dC x.d) 1 zr zr zr zr zr zr ?_
  repeat'(first|refine qt ?_ ?_|(refine al (cs:=[.func (.func 45) #[] #[ptr b2,ptr b3,ptr b4,ptr b5],.func (.func 47) #[] #[ptr b2,ptr b3] ]) zr zr zr zr zr zr zr zr zr (fun _ w hw=>by exact hw.cy ad) ?_;intro r0)|(((refine ai rfl rfl rfl rfl (FF) ad ?_ (fun _ _ w hp hw=>by obtain rfl:=hp;exact hw.cy ad)));rintro _ _ rfl;((refine aJ 0 rfl ?_));rintro a8 c8 rfl)|(((refine ai rfl rfl rfl rfl (R8 a8 (bF x.d j p).length c8) ad ?_ (fun _ _ w hp hw=>by obtain⟨_,_,_,rfl,rfl⟩:=hp;exact hw.cy ad)));rintro _ _⟨c2,c3,row,rfl,rfl⟩)|(refine gO ?_)|fail)
  all_goals(
   refine aG (H':=ag r0 (cl [.func (.func 45) #[] #[ptr b2,ptr b3,ptr b4,ptr b5],.func (.func 47) #[] #[ptr b2,ptr b3] ] 96)::ag row (cl (g8 c2 c3 jb) 96)::aB 5 1 (.slice a8 (bF x.d j p).length c8) (bF x.d j p).length (bV (bF x.d j p))::ag c2 (cl [ptr tb] 30)::ag c3 (cl [.slice a8 (bF x.d j p).length c8] 22)::ag tb (cl [ptr bs,ptr jb,tv,.bool false] 88)::aB 90 1 tv ts.length (ts.map cm)::aU ts::cd bs bd jb q mb [] s::X::ag b2 (cl [ptr tb] 30)::ag b3 (cl (bD x) 37)::ag b4 (cl [.int .i64 i] 3)::ag b5 (cl [.slice ba b.length bc] 22)::F) ad ?_
   refine aG (eL 96 1 r0 2 2 [.func (.func 45) #[] #[ptr b2,ptr b3,ptr b4,ptr b5],.func (.func 47) #[] #[ptr b2,ptr b3] ] [] _ rfl (Nat.le_refl _) (by simp)) ?_
   refine aO (mm:=2) (news:=g8 c2 c3 jb) 0 1 rfl rfl rfl rfl rfl rfl rfl rfl rfl rfl rfl rfl (Vw.ag rfl) rfl (by intro v hv;simp[g8]at hv;rcases hv with rfl|rfl <;> rfl) ah (by show(_+_)*8≤_;omega) (fun _=>rfl) (fun _ w hw=>by exact hw.cy ad) ?_
   intro v1
   ((refine aJ 0 rfl ?_))
   rintro ja jc rfl
   (refine rG ?_)
   refine vX tail ((ja,jc),(a8,c8),c2,c3) rfl trivial cu ad)
 rintro⟨⟨ja,jc⟩,⟨a8,c8⟩,c2,c3⟩ -
 simp only
 refine dB 0 rfl ?_
 intro oK
 refine ql (bs:=(bF x.d j p)) 1 rfl ?_
 intro IY
 have iH:=MG tb bs jb bd tv q mb s 45 47 [ptr b2,ptr b3,ptr b4,ptr b5] [ptr b2,ptr b3] c2 c3 _ [X,ag b2 (cl [ptr tb] 30),ag b3 (cl (bD x) 37),ag b4 (cl [.int .i64 i] 3),ag b5 (cl [.slice ba b.length bc] 22)] (ec (mF x i b)) (ec (j8 x)) a8 c8 (bF x.d j p) IY WX m hm hx
  (J3 X tb bs jb bd b2 b3 b4 b5 q mb tv s x i ba bc b _ _ _ hbv ah hi ah ah) (fun u hu=>J1 tb bs jb bd b2 b3 q mb tv u x _ _ _ X _ _ (by have:=(nX hu.1).1;omega) (by have:=(nX hu.1).2;omega)) _ _ oK
 unfold ig at iH
 refine aj (ao.pick [9] rfl) ?_
 refine go ?_
 refine aG (H':=cd bs bd jb q mb [] s::([ag c2 (cl [ptr tb] 30),ag c3 (cl [.slice a8 (bF x.d j p).length c8] 22),aB 5 1 (.slice a8 (bF x.d j p).length c8) (bF x.d j p).length (bV (bF x.d j p)),X,ag b2 (cl [ptr tb] 30),ag b3 (cl (bD x) 37),ag b4 (cl [.int .i64 i] 3),ag b5 (cl [.slice ba b.length bc] 22)]++(aB 96 1 (.slice ja 4 jc) 4 ([.func (.func 45) #[] #[ptr b2,ptr b3,ptr b4,ptr b5],.func (.func 47) #[] #[ptr b2,ptr b3] ]++g8 c2 c3 jb)::ag tb (cl [ptr bs,ptr jb,tv,.bool false] 88)::aB 90 1 tv ts.length (ts.map cm)::aU ts::F))) ad ?_
 refine aG (yZ bs bd jb q mb _ s _) ?_
 ((refine ai zr zr zr zr (iH) ad ?_ bG))
 rintro _ _⟨e,t,rfl,rfl,hR⟩
 ((refine aG (H':=cd bs bd jb q mb [ag c2 (cl [ptr tb] 30),ag c3 (cl [.slice a8 (bF x.d j p).length c8] 22),aB 5 1 (.slice a8 (bF x.d j p).length c8) (bF x.d j p).length (bV (bF x.d j p)),X,ag b2 (cl [ptr tb] 30),ag b3 (cl (bD x) 37),ag b4 (cl [.int .i64 i] 3),ag b5 (cl [.slice ba b.length bc] 22)] t::ag tb (cl [ptr bs,ptr jb,tv,.bool (fR e)] 88)::aB 90 1 tv ts.length (ts.map cm)::aU ts::F) ad ?_))
 refine aG (tR bs bd jb q mb _ t _) ?_
 have fY:iA (ec (mF x i b)::ec (j8 x)::jK (bF x.d i.toNat p)) s e t:=by rw[IU];exact hR
 by_cases he:e=0
 ·subst he
  have q9:=CR y j ah GN Kt X (.slice pa p.length pc) p WD ah
  rw[← hj]at q9
  ((refine aG (H':=aU ts::ag b4 (cl [.int .i64 i] 3)::ag tb (cl [ptr bs,ptr jb,tv,.bool (fR 0)] 88)::aB 90 1 tv ts.length (ts.map cm)::cd bs bd jb q mb [] t::X::F) ad ?_))
  refine aG (lf hk _) ?_
  ((refine aG (H':=ag b4 (cl [.int .i64 i] 3)::n9 y::aU (ts.take k++ts.drop (k+1))::ag tb (cl [ptr bs,ptr jb,tv,.bool (fR 0)] 88)::aB 90 1 tv ts.length (ts.map cm)::cd bs bd jb q mb [] t::X::F) ad ?_))
  refine go ?_
  ((refine ai zr zr zr zr (q9) ad ?_ bG))
  rintro _ _⟨rfl,rfl⟩
  ((refine aG (H':=n9 (y.put j p)::aU (ts.take k++ts.drop (k+1))::ag tb (cl [ptr bs,ptr jb,tv,.bool (fR 0)] 88)::aB 90 1 tv ts.length (ts.map cm)::cd bs bd jb q mb [] t::X::F) ad ?_))
  refine aG (H4 hk (y.put j p) _) ?_
  have gb:(ts.set k (y.put j p)).length=ts.length:=List.length_set
  have zE:(ts.set k (y.put j p)).map cm=ts.map cm:=by
   rw[List.map_set]
   exact List.rT (by rw[List.getElem?_map,hk];rfl)
  refine go ?_
  refine aj (H':=ag tb (cl [ptr bs,ptr jb,tv,.bool (fR 0)] 88)::aB 90 1 tv (ts.set k (y.put j p)).length ((ts.set k (y.put j p)).map cm)::aU (ts.set k (y.put j p))::cd bs bd jb q mb [] t::X::F) (by rw[gb,zE];exact ad) ?_
  ((refine ae hE Tryz.func13 rfl _ rfl ⟨0,ts.set k (y.put j p),fR 0,t,rfl,rfl,re _ _ _ _ (.inr (.inr (.inr ⟨hrg,Sg,FG,rfl,fY,.inr ⟨rfl,by rw[IU]⟩⟩)))⟩ ad))
 ·((refine aG (H':=ag tb (cl [ptr bs,ptr jb,tv,.bool (fR e)] 88)::aB 90 1 tv ts.length (ts.map cm)::aU ts::cd bs bd jb q mb [] t::X::F) ad ?_))
  refine go ?_
  refine au zr zr ?_ ?_
  ·intro _
   refine go ?_
   ((refine ae hE Tryz.func13 rfl _ rfl ⟨e,ts,fR e,t,rfl,rfl,re _ _ _ _ (.inr (.inr (.inr ⟨hrg,Sg,FG,rfl,fY,.inl ⟨he,rfl⟩⟩)))⟩ ad))
  ·intro h;exfalso;omega
end Go.Proofs.YtedjnjkijiddlaaGreatDoor
namespace Go.Proofs.YtedjnjkijiddlaaGreatDoor
open Go Go.SL
attribute [local irreducible] J K aD Ends ag aB aM bN aZ aP aV bh bW aC
theorem JE{ts:List Tk}{i:Nat}{y:Tk}(h:ts[i]?=some y):((ts.take (i+1)).map Tk.x).flatMap bD=((ts.take i).map Tk.x).flatMap bD++bD y.x:=by rw[List.take_add_one,h];simp
set_option maxRecDepth 20000 in
theorem zl(tb bs jb:Nat)(tv:Value)(br:Bool)(ts:List Tk)(hl:ts.length≤1000000) :
  aD Tryz.prog 17 [ptr tb] (dr tb bs jb tv ts br) (fun r H=>H=aB 37 66 r ts.length ((ts.map Tk.x).flatMap bD)::dr tb bs jb tv ts br):=by
 unfold dr
 refine aD.enter Tryz.func17 ak rfl Tryz.ntmps17 zr zr ?_
 intro G F R hE
 ((refine dv 1 rfl ?_))
 rintro a c rfl
 refine dB 1 rfl ?_
 intro dK
 refine go ?_
 refine aj (bJ 37 66 none _) ?_
 refine bu (fun y:Nat × Option Addr × Nat=>y.1≤ts.length) (fun y=>ts.length-y.1) (fun y=>[(3,.slice y.2.1 y.1 y.2.2),(9,.slice a ts.length c),(10,.int .i64 (ts.length:Int)),(11,.int .i64 (y.1:Int))])
  (fun y=>aB 37 66 (.slice y.2.1 y.1 y.2.2) y.1 (((ts.take y.1).map Tk.x).flatMap bD)::aB 90 1 (.slice a ts.length c) ts.length (ts.map cm)::aU ts::ag tb (cl [ptr bs,ptr jb,.slice a ts.length c,.bool br] 88)::F) (0,none,0) (Nat.zero_le _) rfl cu ad ?_
 rintro⟨i,oa,oc⟩ hi ih
 simp only at hi
 dsimp only
 refine go ?_
 refine au zr zr ?_ ?_
 ·intro cW
  have gw:i<ts.length:=by omega
  obtain⟨y,hx⟩:∃x,ts[i]?=some x:=⟨ts[i],by simp[gw]⟩
  have jY:=JE hx
  have iD:(bD y.x).length=66:=rfl
  obtain⟨b,o,gD,gb⟩:=dK.some (Mp gw)
  simp only[Value.slice.injEq]at gb
  obtain⟨rfl,_,rfl⟩:=gb
  refine go ?_
  refine bK i zr zr zr zr zr zr zr zr gw ?_
  refine aK ?_
  refine bg 1 i zr zr zr dK rfl (qx hx) zr zr ?_
  refine go ?_
  ((refine aG (H':=aU ts::aB 37 66 (.slice oa i oc) i (((ts.take i).map Tk.x).flatMap bD)::aB 90 1 (.slice (some ⟨b,o,none⟩) ts.length c) ts.length (ts.map cm)::ag tb (cl [ptr bs,ptr jb,.slice (some ⟨b,o,none⟩) ts.length c,.bool br] 88)::F) ad ?_))
  refine aG (lf hx _) ?_
  refine HL (gj y) ?_
  rintro z hz
  refine aG (H':=ag y.yb (cl (lz y) 93)::aB 37 66 (.slice oa i oc) i (((ts.take i).map Tk.x).flatMap bD)::ag y.sb (cl [.int .i64 (y.n:Int),z.1] 117)::aB 118 1 z.1 y.ws.length (qV y.ws)::aM (Value.int .i64) y.mb z.2.1::aV 35 z.2.2::aU (ts.take i++ts.drop (i+1))::aB 90 1 (.slice (some ⟨b,o,none⟩) ts.length c) ts.length (ts.map cm)::ag tb (cl [ptr bs,ptr jb,.slice (some ⟨b,o,none⟩) ts.length c,.bool br] 88)::F) ad ?_
  refine go ?_
  refine dw (cs:=bD y.x) 0 zr zr zr zr zr zr ?_
  refine al (cs:=bD y.x) zr zr zr zr zr zr zr zr zr bz ?_
  intro row
  refine go ?_
  refine aO (mm:=1) (news:=bD y.x) 2 0 zr zr zr zr zr zr zr zr zr zr zr zr (Vw.ag rfl) rfl (by have:=Je [y.x];simpa using this) ah (by show(_+_)*80≤_;omega) (fun _=>rfl) bz ?_
  intro v1
  rw[← jY]
  ((refine aJ 2 rfl ?_))
  rintro ja jc rfl
  refine go ?_
  refine aj (H':=mZ y z++(aU (ts.take i++ts.drop (i+1))::aB 37 66 (.slice ja (i+1) jc) (i+1) (((ts.take (i+1)).map Tk.x).flatMap bD)::aB 90 1 (.slice (some ⟨b,o,none⟩) ts.length c) ts.length (ts.map cm)::ag tb (cl [ptr bs,ptr jb,.slice (some ⟨b,o,none⟩) ts.length c,.bool br] 88)::F)) (by unfold mZ;exact ad) ?_
  refine aj (jh hz _) ?_
  refine aj (mI hx _) ?_
  refine aL ih (i+1,ja,jc) rfl (by simp only;omega) (by simp only;omega) cu ad
 ·intro fq
  have sH:i=ts.length:=by omega
  subst sH
  rw[List.take_length]
  clear ih
  refine go ?_
  ((refine ae hE Tryz.func17 rfl _ zr zr ad))
end Go.Proofs.YtedjnjkijiddlaaGreatDoor
namespace Go.Proofs.YtedjnjkijiddlaaGreatDoor
open Go Go.SL
theorem Hz(bs bd jb:Nat)(q:Int)(mb:Nat)(x:SJ)(F:List HP):ao (cd bs bd jb q mb [] x::F) (cg bs bd q mb x.1++(qY jb bd cS x.2::F)):=by
 unfold cd
 refine(ao.cB _ _).trans ?_
 rw[List.append_assoc]
 exact ao.refl _
theorem yY(bs bd jb:Nat)(q:Int)(mb:Nat)(x:SJ)(F:List HP):ao (cg bs bd q mb x.1++(qY jb bd cS x.2::F)) (cd bs bd jb q mb [] x::F):=by
 unfold cd
 refine ao.trans ?_ (ao.bP _ _)
 rw[List.append_assoc]
 exact ao.refl _
theorem Jh.look{z:Value × List (Int × Value) × fF}{y:Tk}(h:Jh z y)(i:Int):∃v,(eh z.2.1 i).getD (.slice none 0 0)=v∧CL z.2.2 32 v ((y.pf i).getD []).length (((y.pf i).getD []).flatMap dC):=by
 have:=h i
 cases hx:eh z.2.1 i with
 | none =>
  rw[hx]at this
  simp only at this
  rw[this]
  exact⟨_,rfl,CL.nil _ _ _ _⟩
 | some v =>
  rw[hx]at this
  obtain⟨l,h1,h2⟩:=this
  rw[h1]
  exact⟨v,rfl,h2⟩
attribute [local irreducible] J K aD Ends ag aB aM bN aZ aP aV bh bW aC cd
end Go.Proofs.YtedjnjkijiddlaaGreatDoor
namespace Go.Proofs.YtedjnjkijiddlaaGreatDoor
open Go Go.SL
def hz(b:List UInt8):Dg:=(gx b).getD Dg.zero
def CE(m:List UInt8)(l:List (List UInt8)):Bool:=(pJ m).isSome && l.all fun b=>(gx b).isSome
theorem Qt(m:List UInt8)(l:List (List UInt8))(b:List UInt8):CE m (l++[b])=(CE m l && (gx b).isSome):=by unfold CE;simp[Bool.and_assoc]
theorem tw:∀(l:List (List UInt8)),(l.all fun b=>(gx b).isSome)=true→mP l=some (l.map hz)
 | [],_=>rfl
 | b::l,h=>by
  rw[List.all_cons,Bool.and_eq_true]at h
  unfold mP
  rw[tw l h.2]
  unfold hz
  cases hb:gx b with
  | none=>rw[hb]at h;cases h.1
  | some d=>simp[hb]
theorem tx:∀(l:List (List UInt8)),(l.all fun b=>(gx b).isSome)=false→mP l=none
 | [],h=>by cases h
 | b::l,h=>by
  unfold mP
  cases hb:gx b with
  | none=>rfl
  | some d =>
   rw[List.all_cons,hb]at h
   rw[tx l (by simpa using h)]
def fP(ok:Bool)(d:Dg)(i:Nat)(p:List Dg)(y:Tk):Tk:=if ok=true∧y.x.d=d∧i<y.n∧p.length=eB y.n i then y.put i p else y
theorem abg(ok:Bool)(d:Dg)(i:Nat)(p:List Dg)(y:Tk):(fP ok d i p y).yb=y.yb:=by unfold fP;split <;> rfl
def jC(f:Tk→Tk)(j:Nat)(ts:List Tk):List Tk:=(ts.take j).map f++ts.drop j
theorem Nt(f:Tk→Tk)(j:Nat)(ts:List Tk):(jC f j ts)[j]?=ts[j]? := by
 unfold jC
 rcases Nat.lt_or_ge j ts.length with h|h
 ·rw[List.getElem?_append_right (by rw[List.length_map,List.length_take];omega),List.length_map,List.length_take,List.getElem?_drop]
  congr 1
  omega
 ·rw[List.getElem?_eq_none (by rw[List.length_append,List.length_map,← List.length_append,List.take_append_drop];exact h),List.getElem?_eq_none h]
theorem Ns(f:Tk→Tk){j:Nat}{ts:List Tk}{y:Tk}(h:ts[j]?=some y):(jC f j ts).set j (f y)=jC f (j+1) ts:=by
 obtain⟨hj,rfl⟩:=List.getElem?_eq_some_iff.1 h
 unfold jC
 rw[List.set_append_right _ _ (by rw[List.length_map,List.length_take];omega),List.length_map,List.length_take,Nat.min_eq_left ah,Nat.sub_self,List.drop_eq_getElem_cons hj,List.set_cons_zero,List.take_add_one,h,Option.toList_some,List.map_append,List.append_assoc]
 rfl
theorem DO(f:Tk→Tk)(ts:List Tk):jC f ts.length ts=ts.map f:=by unfold jC;simp
theorem Nr(f:Tk→Tk)(hf:∀y,(f y).yb=y.yb)(j:Nat)(ts:List Tk):(jC f j ts).map cm=ts.map cm:=by
 unfold jC
 conv=>rhs;rw[← List.take_append_drop j ts]
 rw[List.map_append,List.map_append,List.map_map]
 congr 1
 refine List.map_congr_left fun y _=>?_
 show cm (f y)=cm y
 unfold cm
 rw[hf]
theorem Gs(ts:List Tk)(d:Dg)(m:List UInt8)(l:List (List UInt8))(k:Nat)(hk:∀n,pJ m=some n→k=n):gh (ts.map (fP (CE m l) d k (l.map hz)))=lP (gh ts) d m l:=by
 unfold lP CE
 cases hm:pJ m with
 | none =>
  simp only[Option.isSome_none,Bool.false_and]
  have:ts.map (fP false d k (l.map hz))=ts:=by
   conv=>rhs;rw[← List.map_id ts]
   refine List.map_congr_left fun y _=>?_
   unfold fP
   rw[if_neg (by simp)]
   rfl
  rw[this]
 | some n =>
  obtain rfl:=hk n hm
  simp only[Option.isSome_some,Bool.true_and]
  cases ha:l.all (fun b=>(gx b).isSome)with
  | false =>
   rw[tx l ha]
   have:ts.map (fP false d k (l.map hz))=ts:=by
    conv=>rhs;rw[← List.map_id ts]
    refine List.map_congr_left fun y _=>?_
    unfold fP
    rw[if_neg (by simp)]
    rfl
   rw[this]
  | true =>
   rw[tw l ha]
   unfold gh
   simp only
   rw[List.map_map,List.map_map]
   refine List.map_congr_left fun y _=>?_
   show(fP true d k (l.map hz) y).c=_
   unfold fP
   simp only[true_and,Function.comp]
   split
   ·rename_i h
    exact(if_pos (α:=TC) (t:=y.c.put k (l.map hz)) (e:=y.c) h).symm
   ·rename_i h
    exact(if_neg (α:=TC) (t:=y.c.put k (l.map hz)) (e:=y.c) h).symm
attribute [local irreducible] J K aD Ends ag aB aM bN aZ aP aV bh bW aC
set_option maxRecDepth 20000 in
theorem JF(Z:HP)(tb bs jb:Nat)(tv:Value)(br:Bool)(ts:List Tk)(d:Dg)(mv:Value)(m:List UInt8)(l:List (List UInt8))(hv:rM Z mv (m::l))(hm:∀x∈m::l,x.length≤65536)(BR:(m::l).length≤65536)(hl:ts.length≤1000000)(hn:∀y∈ts,y.n≤65536)(hw:∀y∈ts,y.n≤y.ws.length*64) :
  aD Tryz.prog 137 [ptr tb,dV d,mv] (dr tb bs jb tv ts br++[Z]) (fun r H=>r = .tuple #[]∧∃k:Nat,(∀n,pJ m=some n→k=n)∧H=dr tb bs jb tv (ts.map (fP (CE m l) d k (l.map hz))) br++[Z]):=by
 obtain⟨cs,dK,ln,⟨ma,mc,rfl,hmc⟩,pj⟩:=hv
 obtain⟨c0,sj,rD⟩:=pj 0 m rfl
 have acF:=pH Z c0 m rD (by have:=hm m (List.mem_cons_self ..);omega)
 obtain⟨a0,k0,rfl,_⟩:=rD.2
 obtain⟨bb,oo,cc,he⟩:=dK.some (by intro h;rw[h]at ln;simp at ln)
 simp only[Value.slice.injEq,true_and]at he
 obtain⟨rfl,rfl⟩:=he
 unfold dr dV
 refine aD.enter Tryz.func137 ak rfl Tryz.ntmps137 zr zr ?_
 intro G F R hE
 refine aE rfl ?_
 refine bC zr zr bz ?_
 intro b4
 refine aG (H':=Z::ag b4 (cl (dC d) 35)::ag tb (cl [ptr bs,ptr jb,tv,.bool br] 88)::aB 90 1 tv ts.length (ts.map cm)::aU ts::F) ad ?_
 refine go ?_
 refine bK 0 zr zr zr zr zr zr zr zr (by simp) ?_
 refine aK ?_
 refine bg 0 0 zr zr zr dK rfl sj zr zr ?_
 ((refine ai zr zr zr zr (acF) ad ?_ bG))
 rintro _ _⟨rfl,k,zI,rfl,yf⟩
 refine go ?_
 refine bj (p:=1) (q:=((m::l).length:Int)) zr zr zr zr zr zr zr ah (by simp only[List.length_cons];omega) (.inl rfl) ?_
 ((refine az 23 ((.slice (sliceAt (some ⟨bb,oo,none⟩) mc 1 1) l.length (mc-1))) rfl ((by rw[show((m::l).length:Int).toNat=l.length+1 from by simp[List.length_cons],show(1:Int).toNat=1 from rfl,show l.length+1-1=l.length by omega];rfl)) ?_))
 have IF:=dK.OI (s:=1) (by rw[ln];simp) hmc 1 (by simp)
 rw[List.length_cons,Nat.add_sub_cancel]at IF
 simp only[List.length_cons]at BR hmc
 have ac2:∀(j:Nat) (x:List UInt8),l[j]?=some x→∃cv,(cs.drop (1*1))[j]?=some cv∧eJ Z cv x:=fun j x hx=>by
  obtain⟨cv,h1,h2⟩:=pj (j+1) x (by rw[List.getElem?_cons_succ];exact hx)
  exact⟨cv,by rw[List.getElem?_drop,Nat.add_comm];exact h1,h2⟩
 have hmr:∀x∈l,x.length≤65536:=fun x hx=>hm x (List.mem_cons_of_mem _ hx)
 have acB:CE m (l.take 0)=(pJ m).isSome:=by unfold CE;simp
 refine go ?_
 refine aj (bJ 35 32 none _) ?_
 rw[← acB]
 refine bu (fun y:Nat × Option Addr × Nat=>y.1≤l.length) (fun y=>l.length-y.1)
  (fun y=>[(0,ptr tb),(4,ptr b4),(6,.int .i64 (k:Int)),(7,.bool (CE m (l.take y.1))),(8,.slice y.2.1 ((l.take y.1).map hz).length y.2.2),(23,.slice (sliceAt (some ⟨bb,oo,none⟩) mc 1 1) l.length (mc-1)),(24,.int .i64 (l.length:Int)),(25,.int .i64 (y.1:Int))])
  (fun y=>aB 35 32 (.slice y.2.1 ((l.take y.1).map hz).length y.2.2) ((l.take y.1).map hz).length (((l.take y.1).map hz).flatMap dC)::Z::ag b4 (cl (dC d) 35)::ag tb (cl [ptr bs,ptr jb,tv,.bool br] 88)::aB 90 1 tv ts.length (ts.map cm)::aU ts::F) (0,none,0) (Nat.zero_le _) rfl cu ad ?_
 rintro⟨j,pa,pc⟩ hj ih
 simp only at hj
 dsimp only
 refine go ?_
 refine au zr zr ?_ ?_
 ·intro cW
  have qL:j<l.length:=by omega
  obtain⟨x,hx⟩:∃x,l[j]?=some x:=⟨l[j],by simp⟩
  obtain⟨cv,mO,vV⟩:=ac2 j x hx
  have hph:=uC Z cv x vV (by have:=hmr x (List.mem_of_getElem? hx);omega)
  obtain⟨ax,kx,rfl,_⟩:=vV.2
  have jY:l.take (j+1)=l.take j++[x]:=by rw[List.take_add_one,hx];rfl
  have pT:((l.take j).map hz).length=j:=by rw[List.length_map,List.length_take];omega
  have WJ:((l.take j).map hz).flatMap dC++dC (hz x)=((l.take (j+1)).map hz).flatMap dC:=by rw[jY];simp
  have vO:((l.take j).map hz).length+1=((l.take (j+1)).map hz).length:=by rw[jY];simp
  have lC:CE m (l.take (j+1))=(CE m (l.take j) && (gx x).isSome):=by rw[jY,Qt]
  have Ww:sliceAt (some ⟨bb,oo,none⟩) mc 1 1=some ⟨bb,oo+1,none⟩:=by
   unfold sliceAt
   rw[if_neg ah]
   rfl
  have aai:=IF
  rw[Ww]at aai
  refine bB 23 (.slice (some ⟨bb,oo+1,none⟩) l.length (mc-1)) rfl (by rw[Ww]) ?_
  refine go ?_
  refine bK j zr zr zr zr zr zr zr zr qL ?_
  refine aK ?_
  refine bg 1 j zr zr zr aai rfl mO zr zr ?_
  refine go ?_
  ((refine ai zr zr zr zr (hph) ad ?_ bG))
  rintro _ _⟨rfl,rfl⟩
  rw[show(gx x).getD Dg.zero=hz x from rfl]
  unfold dV
  refine go ?_
  refine aw zr zr zr bz ?_
  intro b11
  cases Yg:CE m (l.take j)
  all_goals(
   rw[Yg]at lC
   refine go ?_
   ((refine az 7 ((.bool (CE m (l.take (j+1))))) rfl ((congrArg Value.bool (by rw[lC];rfl))) ?_))
   refine go ?_
   refine aH (U:=aN) (l:=dC (hz x)) 0 zr zr zr zr zr zr ?_
   refine al (cs:=dC (hz x)) zr zr zr zr zr zr zr zr zr bz ?_
   intro row
   refine go ?_
   refine aO (mm:=1) (news:=dC (hz x)) 3 0 zr zr zr zr zr zr zr zr zr zr zr zr (Vw.ag rfl) rfl (by rw[dG];exact cR _) ah (by show(((l.take j).map hz).length+1)*32≤_;omega) (fun _=>rfl) bz ?_
   intro v1
   rw[WJ,vO]
   ((refine aJ 3 rfl ?_))
   rintro ja jc rfl
   refine go ?_
   ((refine bB 23 ((.slice (sliceAt (some ⟨bb,oo,none⟩) mc 1 1) l.length (mc-1))) rfl ((by rw[Ww])) ?_))
   refine aL ih (j+1,ja,jc) rfl (by simp only;omega) (by simp only;omega) cu ad)
 ·intro fq
  have Oc:j=l.length:=by omega
  subst Oc
  rw[List.take_length]
  clear ih
  obtain⟨p,hp⟩:∃p,p=l.map hz:=⟨_,rfl⟩
  obtain⟨ok,lC⟩:∃ok,ok=CE m l:=⟨_,rfl⟩
  have pT:p.length≤65536:=by rw[hp,List.length_map];omega
  rw[← hp,← lC]at hE ⊢
  have hfy:=abg ok d k p
  refine aj (ao.pick [4] rfl) ?_
  ((refine dv 0 rfl ?_))
  rintro ta tc rfl
  refine dB 0 rfl ?_
  intro hvt
  refine aj (H':=ag tb (cl [ptr bs,ptr jb,.slice ta ts.length tc,.bool br] 88)::aB 90 1 (.slice ta ts.length tc) ts.length (ts.map cm)::aU ts::aB 35 32 (.slice pa p.length pc) p.length (p.flatMap dC)::ag b4 (cl (dC d) 35)::Z::F) ad ?_
  refine go ?_
  refine bu (fun j:Nat=>j≤ts.length) (fun j=>ts.length-j)
   (fun j=>[(0,ptr tb),(4,ptr b4),(6,.int .i64 (k:Int)),(7,.bool ok),(8,.slice pa p.length pc),(46,.slice ta ts.length tc),(47,.int .i64 (ts.length:Int)),(48,.int .i64 (j:Int))])
   (fun j=>ag tb (cl [ptr bs,ptr jb,.slice ta ts.length tc,.bool br] 88)::aB 90 1 (.slice ta ts.length tc) ts.length (ts.map cm)::aU (jC (fP ok d k p) j ts)::aB 35 32 (.slice pa p.length pc) p.length (p.flatMap dC)::ag b4 (cl (dC d) 35)::Z::F) 0 (Nat.zero_le _) rfl cu ad ?_
  intro j hj ih
  refine go ?_
  refine au zr zr ?_ ?_
  ·intro cW
   have qL:j<ts.length:=by omega
   obtain⟨y,hy⟩:∃y,ts[j]?=some y:=⟨ts[j],by simp⟩
   have GO:=List.mem_of_getElem? hy
   have GN:=hn y GO
   have Kt:=hw y GO
   have hgy:(jC (fP ok d k p) j ts)[j]?=some y:=by rw[Nt,hy]
   have gY:=Ns (fP ok d k p) hy
   obtain⟨b9,o9,c9,he9⟩:=hvt.some (Mp qL)
   simp only[Value.slice.injEq,true_and]at he9
   obtain⟨rfl,rfl⟩:=he9
   refine go ?_
   refine bK j zr zr zr zr zr zr zr zr qL ?_
   refine aK ?_
   refine bg 1 j zr zr zr hvt rfl (qx hy) zr zr ?_
   refine go ?_
   refine aj (H':=aU (jC (fP ok d k p) j ts)::ag tb (cl [ptr bs,ptr jb,.slice (some ⟨b9,o9,none⟩) ts.length tc,.bool br] 88)::aB 90 1 (.slice (some ⟨b9,o9,none⟩) ts.length tc) ts.length (ts.map cm)::aB 35 32 (.slice pa p.length pc) p.length (p.flatMap dC)::ag b4 (cl (dC d) 35)::Z::F) ad ?_
   refine aj (lf hgy _) ?_
   have lV:∀H,ao (n9 (fP ok d k p y)::aU ((jC (fP ok d k p) j ts).take j++(jC (fP ok d k p) j ts).drop (j+1))::H) (aU (jC (fP ok d k p) (j+1) ts)::H):=fun H=>by rw[← gY];exact H4 hgy _ H
   refine eE (gj y) ?_
   rintro⟨wv,FO,M⟩ RU
   have jO:∀H,ao (ag y.yb (cl (lz y) 93)::ag y.sb (cl [.int .i64 (y.n:Int),wv] 117)::aB 118 1 wv y.ws.length (qV y.ws)::aM (Value.int .i64) y.mb FO::aV 35 M::aU ((jC (fP ok d k p) j ts).take j++(jC (fP ok d k p) j ts).drop (j+1))::H) (n9 y::aU ((jC (fP ok d k p) j ts).take j++(jC (fP ok d k p) j ts).drop (j+1))::H):=fun H=>ao.trans (H2:=mZ y (wv,FO,M)++(aU ((jC (fP ok d k p) j ts).take j++(jC (fP ok d k p) j ts).drop (j+1))::H)) (by unfold mZ;exact ad) (jh RU _)
   refine aj (H':=ag y.yb (cl (lz y) 93)::ag y.sb (cl [.int .i64 (y.n:Int),wv] 117)::aB 118 1 wv y.ws.length (qV y.ws)::aM (Value.int .i64) y.mb FO::aV 35 M::aU ((jC (fP ok d k p) j ts).take j++(jC (fP ok d k p) j ts).drop (j+1))::ag tb (cl [ptr bs,ptr jb,.slice (some ⟨b9,o9,none⟩) ts.length tc,.bool br] 88)::aB 90 1 (.slice (some ⟨b9,o9,none⟩) ts.length tc) ts.length (ts.map cm)::aB 35 32 (.slice pa p.length pc) p.length (p.flatMap dC)::ag b4 (cl (dC d) 35)::Z::F) (by unfold mZ;exact ad) ?_
   have iZ:fP ok d k p y=y→∀H,ao (ag y.yb (cl (lz y) 93)::ag y.sb (cl [.int .i64 (y.n:Int),wv] 117)::aB 118 1 wv y.ws.length (qV y.ws)::aM (Value.int .i64) y.mb FO::aV 35 M::aU ((jC (fP ok d k p) j ts).take j++(jC (fP ok d k p) j ts).drop (j+1))::H) (aU (jC (fP ok d k p) (j+1) ts)::H):=fun h H=>by
    have:=lV H
    rw[h]at this
    exact(jO H).trans this
   refine aF (fun w=>Sat G w ([ag y.yb (cl (lz y) 93),ag b4 (cl (dC d) 35)])) (.st 0 (.st 1 (.st 2 (.st 3 (.st 4 (.st 5 (.st 6 (.st 7 (.st 8 (.st 9 (.st 10 (.st 11 (.st 12 (.st 13 (.st 14 (.st 15 (.act 16 (.st 17 (.st 18 (.st 19 (.st 20 (.st 21 (.st 22 (.st 23 (.st 24 (.st 25 (.st 27 (.act 26 (.act 28 (.st 29 (.st 30 .nil))))))))))))))))))))))))))))))) rfl ak ak ak ei ?_
   cases ok with
   | false =>
    have Q2:fP false d k p y=y:=by unfold fP;rw[if_neg (by simp)]
    refine go ?_
    refine aj (ao.trans ad (iZ Q2 (ag tb (cl [ptr bs,ptr jb,.slice (some ⟨b9,o9,none⟩) ts.length tc,.bool br] 88)::aB 90 1 (.slice (some ⟨b9,o9,none⟩) ts.length tc) ts.length (ts.map cm)::aB 35 32 (.slice pa p.length pc) p.length (p.flatMap dC)::ag b4 (cl (dC d) 35)::Z::F))) ?_
    refine aL ih (j+1) rfl ah ah cu ad
   | true =>
   refine go ?_
   refine ck (U:=aN) (cs:=dC y.x.d) 0 zr zr zr zr zr zr ?_
   refine go ?_
   refine bL (U:=aN) (l:=dC d) 1 zr zr zr zr zr zr ?_
   refine go ?_
   refine lx (b:=decide (y.x.d=d)) zr zr zr KY (fun w=>La y.x.d d w) ?_
   by_cases X8:y.x.d=d
   case neg =>
    rw[decide_eq_false X8]
    have Q2:fP true d k p y=y:=by unfold fP;rw[if_neg (fun h=>X8 h.2.1)]
    refine go ?_
    refine aj (ao.trans ad (iZ Q2 (ag tb (cl [ptr bs,ptr jb,.slice (some ⟨b9,o9,none⟩) ts.length tc,.bool br] 88)::aB 90 1 (.slice (some ⟨b9,o9,none⟩) ts.length tc) ts.length (ts.map cm)::aB 35 32 (.slice pa p.length pc) p.length (p.flatMap dC)::ag b4 (cl (dC d) 35)::Z::F))) ?_
    refine aL ih (j+1) rfl ah ah cu ad
   rw[decide_eq_true X8]
   refine go ?_
   ((refine ai rfl rfl rfl rfl (n8 y.sb y.n wv) ad ?_ jg))
   rintro _ _⟨rfl,rfl⟩
   refine go ?_
   by_cases Yl:k<y.n
   case neg =>
    have Q2:fP true d k p y=y:=by unfold fP;rw[if_neg (fun h=>Yl h.2.2.1)]
    ((refine az 71 ((.bool false)) rfl ((congrArg Value.bool (decide_eq_false ah))) ?_))
    refine go ?_
    refine aj (ao.trans ad (iZ Q2 (ag tb (cl [ptr bs,ptr jb,.slice (some ⟨b9,o9,none⟩) ts.length tc,.bool br] 88)::aB 90 1 (.slice (some ⟨b9,o9,none⟩) ts.length tc) ts.length (ts.map cm)::aB 35 32 (.slice pa p.length pc) p.length (p.flatMap dC)::ag b4 (cl (dC d) 35)::Z::F))) ?_
    refine aL ih (j+1) rfl ah ah cu ad
   ((refine az 71 ((.bool true)) rfl ((congrArg Value.bool (decide_eq_true ah))) ?_))
   refine go ?_
   ((refine ai rfl rfl rfl rfl (n8 y.sb y.n wv) ad ?_ jg))
   rintro _ _⟨rfl,rfl⟩
   refine go ?_
   ((refine ai rfl rfl rfl rfl (Bg (y.n:Int) (k:Int)) ad ?_ jg))
   rintro _ _⟨rfl,rfl⟩
   refine go ?_
   by_cases hpd:p.length=eB y.n k
   case neg =>
    have Q2:fP true d k p y=y:=by unfold fP;rw[if_neg (fun h=>hpd h.2.2.2)]
    ((refine bB 82 ((.bool false)) rfl ((congrArg Value.bool (decide_eq_false ah))) ?_))
    refine go ?_
    refine aj (ao.trans ad (iZ Q2 (ag tb (cl [ptr bs,ptr jb,.slice (some ⟨b9,o9,none⟩) ts.length tc,.bool br] 88)::aB 90 1 (.slice (some ⟨b9,o9,none⟩) ts.length tc) ts.length (ts.map cm)::aB 35 32 (.slice pa p.length pc) p.length (p.flatMap dC)::ag b4 (cl (dC d) 35)::Z::F))) ?_
    refine aL ih (j+1) rfl ah ah cu ad
   ((refine bB 82 ((.bool true)) rfl ((congrArg Value.bool (decide_eq_true ah))) ?_))
   have Q2:fP true d k p y=y.put k p:=by unfold fP;rw[if_pos ⟨rfl,X8,Yl,hpd⟩]
   rw[Q2]at lV
   ((refine aj (ao.trans ad (jO (ag tb (cl [ptr bs,ptr jb,.slice (some ⟨b9,o9,none⟩) ts.length tc,.bool br] 88)::aB 90 1 (.slice (some ⟨b9,o9,none⟩) ts.length tc) ts.length (ts.map cm)::aB 35 32 (.slice pa p.length pc) p.length (p.flatMap dC)::ag b4 (cl (dC d) 35)::Z::F))) ?_))
   ((refine aj (H':=aB 35 32 (.slice pa p.length pc) p.length (p.flatMap dC)::n9 y::aU ((jC (fP true d k p) j ts).take j++(jC (fP true d k p) j ts).drop (j+1))::ag tb (cl [ptr bs,ptr jb,.slice (some ⟨b9,o9,none⟩) ts.length tc,.bool br] 88)::aB 90 1 (.slice (some ⟨b9,o9,none⟩) ts.length tc) ts.length (ts.map cm)::ag b4 (cl (dC d) 35)::Z::F) ad ?_))
   refine dB 0 rfl ?_
   intro hvp
   have q9:=CR y k Yl GN Kt _ (.slice pa p.length pc) p hvp ah
   refine go ?_
   ((refine ai zr zr zr zr (q9) ad ?_ bG))
   rintro _ _⟨rfl,rfl⟩
   refine go ?_
   refine aj (H':=n9 (y.put k p)::aU ((jC (fP true d k p) j ts).take j++(jC (fP true d k p) j ts).drop (j+1))::ag tb (cl [ptr bs,ptr jb,.slice (some ⟨b9,o9,none⟩) ts.length tc,.bool br] 88)::aB 90 1 (.slice (some ⟨b9,o9,none⟩) ts.length tc) ts.length (ts.map cm)::aB 35 32 (.slice pa p.length pc) p.length (p.flatMap dC)::ag b4 (cl (dC d) 35)::Z::F) ad ?_
   refine aj (lV _) ?_
   refine aL ih (j+1) rfl ah ah cu ad
  ·intro fq
   have Oc:j=ts.length:=by omega
   subst Oc
   clear ih
   rw[DO]
   have PU:(ts.map (fP ok d k p)).map cm=ts.map cm:=by rw[← DO];exact Nr _ hfy _ _
   have acJ:(ts.map (fP ok d k p)).length=ts.length:=List.length_map ..
   refine go ?_
   refine aj (H':=ag tb (cl [ptr bs,ptr jb,.slice ta ts.length tc,.bool br] 88)::aB 90 1 (.slice ta ts.length tc) (ts.map (fP ok d k p)).length ((ts.map (fP ok d k p)).map cm)::aU (ts.map (fP ok d k p))::Z::F) (by rw[PU,acJ];exact ad) ?_
   ((refine bS hE Tryz.func137 rfl _ rfl ⟨rfl,k,yf,rfl⟩ ad))
end Go.Proofs.YtedjnjkijiddlaaGreatDoor
namespace Go.Proofs.YtedjnjkijiddlaaGreatDoor
open Go Go.SL
theorem He(ts:List Tk)(d:Dg):gh (lA ts d)=Dl (gh ts) d:=by
 unfold gh lA Dl
 rw[List.filter_map]
 rfl
theorem I'(ts:List Tk)(y:Tk):gh (ts++[y])=gh ts++[y.c]:=by simp[gh]
theorem YJ(k:UInt8)(n:Nat)(hn:n<256):decide ((k.toNat:Int)=(n:Int))=decide (k=UInt8.ofNat n):=by
 rw[decide_eq_decide]
 constructor
 ·intro h
  have h2:k.toNat=n:=by omega
  rw[← h2]
  exact(UInt8.ofNat_toNat).symm
 ·rintro rfl
  rw[UInt8.toNat_ofNat']
  omega
theorem F5{cs:List TC}{b:List UInt8}(h:iO b=none):dm cs b=cs:=by unfold dm;rw[h]
theorem CY{cs:List TC}{b:List UInt8}{d:Dg}(h:iO b=some (3,d,[])):dm cs b=Dl cs d:=by unfold dm;rw[h];simp
theorem vb{cs:List TC}{b:List UInt8}{d:Dg}{m:List UInt8}{l:List (List UInt8)}(h:iO b=some (2,d,m::l)):dm cs b=lP cs d m l:=by
 unfold dm
 rw[h]
 simp only
 rw[if_neg (by simp)]
 match l with
 | []=>rfl
 | [_]=>rfl
 | [_,_]=>rfl
 | _::_::_::_=>rfl
theorem vd{cs:List TC}{b:List UInt8}{d:Dg}{s p r:List UInt8}(h:iO b=some (1,d,[s,p,r])):dm cs b=(match pJ s,pJ p,gx r with
  | some s,some p,some r=>if bo ⟨d,s,p,r⟩then Dl cs d++[cQ ⟨d,s,p,r⟩]else cs
  | _,_,_=>cs):=by
 unfold dm
 rw[h]
 rfl
theorem om{cs:List TC}{b:List UInt8}{k:UInt8}{d:Dg}{l:List (List UInt8)}(h:iO b=some (k,d,l))(h3:¬(k=3∧l.length=0))(h1:¬(k=1∧l.length=3))(h2:¬(k=2∧0<l.length)):dm cs b=cs:=by
 unfold dm
 rw[h]
 simp only
 rw[if_neg (fun e=>h3 ⟨e.1,by rw[e.2];rfl⟩)]
 match l,h1,h2 with
 | [],_,_=>rfl
 | [_],_,h2=>simp only;rw[if_neg (fun e=>h2 ⟨e,by simp⟩)]
 | [_,_],_,h2=>simp only;rw[if_neg (fun e=>h2 ⟨e,by simp⟩)]
 | [_,_,_],h1,h2=>simp only;rw[if_neg (fun e=>h1 ⟨e,rfl⟩),if_neg (fun e=>h2 ⟨e,by simp⟩)]
 | _::_::_::_::_,_,h2=>simp only;rw[if_neg (fun e=>h2 ⟨e,by simp⟩)]
attribute [local irreducible] J K aD Ends ag aB aM bN aZ aP aV bh bW aC
set_option maxRecDepth 20000 in
theorem Ms(X:HP)(tb bs jb:Nat)(tv:Value)(br:Bool)(ts:List Tk)(bv:Value)(b:List UInt8)(hb:eJ X bv b)(iD:b.length≤1000000)(hl:ts.length≤900000)(hn:∀y∈ts,y.n≤65536)(hw:∀y∈ts,y.n≤y.ws.length*64) :
  aD Tryz.prog 77 [ptr tb,bv] (dr tb bs jb tv ts br++[X]) (fun r H=>r = .tuple #[]∧∃(dW:List Tk) (nr:Value),gh dW=dm (gh ts) b∧H=dr tb bs jb nr dW br++[X]):=by
 have vz:=J5 X bv b hb iD
 have IK:=fun d=>xD tb bs jb tv br ts d ah
 obtain⟨ba,bc,rfl,Oq⟩:=hb.2
 unfold dr dV at IK
 unfold dr
 unfold dV at vz
 refine aD.enter Tryz.func77 ak rfl Tryz.ntmps77 zr zr ?_
 intro G F R hE
 refine aj (H':=X::ag tb (cl [ptr bs,ptr jb,tv,.bool br] 88)::aB 90 1 tv ts.length (ts.map cm)::aU ts::F) ad ?_
 refine go ?_
 ((refine ai zr zr zr zr (vz) ad ?_ bG))
 rintro _ _ (⟨QW,⟨k,d,ma,mn,mc,rfl⟩,rfl⟩|⟨k,d,more,mv,Z,hr,mA,Yk,WS,rfl,rfl⟩)
 ·refine go ?_
  refine aw zr zr zr bz ?_
  intro b5
  refine go ?_
  refine aj (H':=ag tb (cl [ptr bs,ptr jb,tv,.bool br] 88)::aB 90 1 tv ts.length (ts.map cm)::aU ts::X::F) ad ?_
  ((refine bS hE Tryz.func77 rfl _ rfl ⟨rfl,ts,tv,(F5 QW).symm,rfl⟩ ad))
 have aaF:=mA
 obtain⟨cs,dK,ln,⟨ma,mc,rfl,hmc⟩,pj⟩:=mA
 refine go ?_
 refine aw zr zr zr bz ?_
 intro b5
 refine go ?_
 have bT:∀j:Nat,j<256→k≠UInt8.ofNat j→decide ((k.toNat:Int)=(j:Int))=false:=fun j hj h=>by rw[YJ k j hj];exact decide_eq_false h
 have hG:dm (gh ts) b=gh ts→∃(dW:List Tk) (nr:Value),gh dW=dm (gh ts) b∧[ag tb (cl [ptr bs,ptr jb,tv,.bool br] 88),aB 90 1 tv ts.length (ts.map cm),aU ts]++[X]=[ag tb (cl [ptr bs,ptr jb,nr,.bool br] 88),aB 90 1 nr dW.length (dW.map cm),aU dW]++[X]:=fun h=>⟨ts,tv,h.symm,rfl⟩
 by_cases h3:k=3
 ·subst h3
  by_cases h0:more.length=0
  ·have Yj:more=[]:=List.eq_nil_of_length_eq_zero h0
   subst Yj
   have rA:=CY (cs:=gh ts) hr
   refine go ?_
   refine aH (U:=aN) (l:=dC d) 0 zr zr zr zr zr zr ?_
   ((refine ai zr zr zr zr (IK d) ad ?_ bG))
   rintro _ _⟨rfl,nr,rfl⟩
   refine go ?_
   refine aj (H':=ag tb (cl [ptr bs,ptr jb,nr,.bool br] 88)::aB 90 1 nr (lA ts d).length ((lA ts d).map cm)::aU (lA ts d)::X::F) ad ?_
   ((refine bS hE Tryz.func77 rfl _ rfl ⟨rfl,lA ts d,nr,by rw[He,rA],rfl⟩ ad))
  ·have rA:=om (cs:=gh ts) hr (fun h=>h0 h.2) (fun h=>absurd h.1 (by decide)) (fun h=>absurd h.1 (by decide))
   refine go ?_
   ((refine bB 25 ((.bool false)) rfl ((congrArg Value.bool (decide_eq_false ah))) ?_))
   refine go ?_
   refine aj (H':=ag tb (cl [ptr bs,ptr jb,tv,.bool br] 88)::aB 90 1 tv ts.length (ts.map cm)::aU ts::X::F) ad ?_
   ((refine bS hE Tryz.func77 rfl _ rfl ⟨rfl,hG rA⟩ ad))
 have hn3:=bT 3 ah h3
 ((refine az 28 ((.bool false)) rfl ((congrArg Value.bool hn3)) ?_))
 by_cases h1:k=1
 ·subst h1
  by_cases h0:more.length=3
  case neg =>
   have rA:=om (cs:=gh ts) hr (fun h=>absurd h.1 (by decide)) (fun h=>h0 h.2) (fun h=>absurd h.1 (by decide))
   refine go ?_
   ((refine bB 36 ((.bool false)) rfl ((congrArg Value.bool (decide_eq_false ah))) ?_))
   refine go ?_
   refine aj (H':=ag tb (cl [ptr bs,ptr jb,tv,.bool br] 88)::aB 90 1 tv ts.length (ts.map cm)::aU ts::X::F) ad ?_
   ((refine bS hE Tryz.func77 rfl _ rfl ⟨rfl,hG rA⟩ ad))
  obtain⟨ms,mp,mr,rfl⟩:∃ms mp mr,more=[ms,mp,mr]:=by
   match more,h0 with
   | [ms,mp,mr],_=>exact⟨ms,mp,mr,rfl⟩
  have rA:=vd (cs:=gh ts) hr
  obtain⟨c0,sj,rD⟩:=pj 0 ms rfl
  obtain⟨c1,FL,nK⟩:=pj 1 mp rfl
  obtain⟨c2,mC,qM⟩:=pj 2 mr rfl
  have Ye:=pH Z c0 ms rD (by have:=Yk ms (by simp);omega)
  have hq1:=pH Z c1 mp nK (by have:=Yk mp (by simp);omega)
  have Yd:=uC Z c2 mr qM (by have:=Yk mr (by simp);omega)
  obtain⟨a0,z0,rfl,_⟩:=rD.2
  obtain⟨a1,z1,rfl,_⟩:=nK.2
  obtain⟨a2,z2,rfl,_⟩:=qM.2
  obtain⟨bb,oo,cc,he⟩:=dK.some (by intro h;rw[h]at ln;simp at ln)
  simp only[Value.slice.injEq,true_and]at he
  obtain⟨rfl,rfl⟩:=he
  unfold dV at Yd
  ((refine aG (H':=ag b5 (cl (dC d) 35)::Z::ag tb (cl [ptr bs,ptr jb,tv,.bool br] 88)::aB 90 1 tv ts.length (ts.map cm)::aU ts::X::F) ad ?_))
  refine go ?_
  refine bK 0 zr zr zr zr zr zr zr zr (by simp) ?_
  refine aK ?_
  refine bg 1 0 zr zr zr dK rfl sj zr zr ?_
  ((refine ai zr zr zr zr (Ye) ad ?_ bG))
  rintro _ _⟨rfl,k1,zI,rfl,acP⟩
  refine go ?_
  refine bK 1 zr zr zr zr zr zr zr zr (by simp) ?_
  refine aK ?_
  refine bg 0 1 zr zr zr dK rfl FL zr zr ?_
  ((refine ai zr zr zr zr (hq1) ad ?_ bG))
  rintro _ _⟨rfl,k2,yf,rfl,acN⟩
  refine go ?_
  refine bK 2 zr zr zr zr zr zr zr zr (by simp) ?_
  refine aK ?_
  refine bg 0 2 zr zr zr dK rfl mC zr zr ?_
  ((refine ai zr zr zr zr (Yd) ad ?_ bG))
  rintro _ _⟨rfl,rfl⟩
  rw[show(gx mr).getD Dg.zero=hz mr from rfl]
  refine go ?_
  refine aw zr zr zr bz ?_
  intro EP
  refine go ?_
  refine aH (U:=aN) (l:=dC d) 2 zr zr zr zr zr zr ?_
  refine go ?_
  refine aH (U:=aN) (l:=dC (hz mr)) 0 zr zr zr zr zr zr ?_
  refine go ?_
  obtain⟨x,hx⟩:∃x:Bl,x=⟨d,(k1:Int),(k2:Int),hz mr⟩:=⟨_,rfl⟩
  refine aw zr zr zr bz ?_
  intro b14
  refine go ?_
  ((refine aG (H':=ag b14 (cl (bD x) 37)::ag b5 (cl (dC d) 35)::ag tb (cl [ptr bs,ptr jb,tv,.bool br] 88)::aB 90 1 tv ts.length (ts.map cm)::aU ts::X::F) ((by rw[hx];exact ad)) ?_))
  have sh:=nW x
  unfold eg at sh
  cases e0:pJ ms with
  | none =>
   rw[e0]at rA
   simp only at rA
   refine go ?_
   refine aj (H':=ag tb (cl [ptr bs,ptr jb,tv,.bool br] 88)::aB 90 1 tv ts.length (ts.map cm)::aU ts::X::F) ad ?_
   ((refine bS hE Tryz.func77 rfl _ rfl ⟨rfl,hG rA⟩ ad))
  | some v0 =>
  obtain rfl:=acP v0 e0
  rw[e0]at rA
  cases e1:pJ mp with
  | none =>
   rw[e1]at rA
   simp only at rA
   refine go ?_
   refine aj (H':=ag tb (cl [ptr bs,ptr jb,tv,.bool br] 88)::aB 90 1 tv ts.length (ts.map cm)::aU ts::X::F) ad ?_
   ((refine bS hE Tryz.func77 rfl _ rfl ⟨rfl,hG rA⟩ ad))
  | some v1 =>
  obtain rfl:=acN v1 e1
  rw[e1]at rA
  cases e2:gx mr with
  | none =>
   rw[e2]at rA
   simp only at rA
   refine go ?_
   refine aj (H':=ag tb (cl [ptr bs,ptr jb,tv,.bool br] 88)::aB 90 1 tv ts.length (ts.map cm)::aU ts::X::F) ad ?_
   ((refine bS hE Tryz.func77 rfl _ rfl ⟨rfl,hG rA⟩ ad))
  | some v2 =>
  have uh:hz mr=v2:=by unfold hz;rw[e2];rfl
  rw[e2]at rA
  simp only at rA
  rw[uh]at hx
  rw[← hx]at rA
  refine go ?_
  refine aH (U:=aN) (l:=bD x) 0 zr zr zr zr zr zr ?_
  ((refine go ?_;(refine ai zr zr zr zr (sh) ad ?_ bG)))
  rintro _ _⟨rfl,rfl⟩
  cases PO:bo x with
  | false =>
   rw[PO]at rA
   simp only[Bool.false_eq_true,if_false]at rA
   refine go ?_
   refine aj (H':=ag tb (cl [ptr bs,ptr jb,tv,.bool br] 88)::aB 90 1 tv ts.length (ts.map cm)::aU ts::X::F) ad ?_
   ((refine bS hE Tryz.func77 rfl _ rfl ⟨rfl,hG rA⟩ ad))
  | true =>
  rw[PO]at rA
  simp only[if_true]at rA
  have wu:=AQ x
  unfold eg at wu
  ((refine aG (H':=ag b5 (cl (dC d) 35)::ag tb (cl [ptr bs,ptr jb,tv,.bool br] 88)::aB 90 1 tv ts.length (ts.map cm)::aU ts::X::ag b14 (cl (bD x) 37)::F) ad ?_))
  refine go ?_
  refine aH (U:=aN) (l:=dC d) 0 zr zr zr zr zr zr ?_
  ((refine ai zr zr zr zr (IK d) ad ?_ bG))
  rintro _ _⟨rfl,nr,rfl⟩
  ((refine aG (H':=ag tb (cl [ptr bs,ptr jb,nr,.bool br] 88)::aB 90 1 nr (lA ts d).length ((lA ts d).map cm)::aU (lA ts d)::X::ag b14 (cl (bD x) 37)::F) ad ?_))
  have D5:(lA ts d).length≤ts.length:=List.length_filter_le _ _
  obtain⟨us,zD⟩:∃us,us=lA ts d:=⟨_,rfl⟩
  rw[← zD]at D5 ⊢
  have hcu:gh us=Dl (gh ts) d:=by rw[zD,He]
  refine go ?_
  ((refine dv 1 rfl ?_))
  rintro ua uc rfl
  refine aF (fun w=>Sat G w ([ag tb (cl [ptr bs,ptr jb,.slice ua us.length uc,.bool br] 88),ag b14 (cl (bD x) 37)])) (.st 0 (.st 1 (.st 2 (.st 3 (.st 4 (.st 5 (.act 6 (.act 7 (.act 8 (.st 9 (.st 10 (.act 11 .nil)))))))))))) rfl ak ak ak ei ?_
  refine go ?_
  refine bL (U:=aN) (l:=bD x) 1 zr zr zr zr zr zr ?_
  refine go ?_
  ((refine ai rfl rfl rfl rfl (wu) ad ?_ (fun _ _ w hp hw=>by obtain⟨_,_,rfl,_⟩:=hp;exact hw.cy ad)))
  rintro _ _⟨y,rfl,rfl,QH,AE,hy3,hy4⟩
  refine go ?_
  refine al (cs:=[ptr y.yb]) zr zr zr zr zr zr zr zr zr (fun _ w hw=>hw.cy ad) ?_
  intro r1
  refine go ?_
  refine aO (mm:=1) (news:=[ptr y.yb]) 3 0 rfl rfl rfl rfl rfl rfl rfl rfl rfl rfl rfl rfl (Vw.ag rfl) rfl (by intro v hv;simp at hv;rw[hv];rfl) ah (by show(_+_)*8≤_;omega) (fun _=>rfl) (fun _ w hw=>hw.cy ad) ?_
  intro v1
  ((refine aJ 3 rfl ?_))
  rintro ka kc rfl
  refine go ?_
  have PU:us.map cm++[ptr y.yb]=(us++[y]).map cm:=by simp[cm]
  have BR:us.length+1=(us++[y]).length:=by simp
  have pV:=uo us [] y
  rw[List.append_nil]at pV
  rw[PU,BR]
  refine aj (H':=n9 y::aU us::ag tb (cl [ptr bs,ptr jb,.slice ka (us++[y]).length kc,.bool br] 88)::aB 90 1 (.slice ka (us++[y]).length kc) (us++[y]).length ((us++[y]).map cm)::X::F) ad ?_
  refine aj (pV _) ?_
  refine aj (H':=ag tb (cl [ptr bs,ptr jb,.slice ka (us++[y]).length kc,.bool br] 88)::aB 90 1 (.slice ka (us++[y]).length kc) (us++[y]).length ((us++[y]).map cm)::aU (us++[y])::X::F) ad ?_
  have IE:y.c=cQ x:=by
   unfold Tk.c cQ
   rw[QH,hy3,hy4,← AE,Int.toNat_natCast]
  ((refine bS hE Tryz.func77 rfl _ rfl ⟨rfl,us++[y],_,by rw[I',hcu,IE,rA],rfl⟩ ad))
 have R9:=bT 1 ah h1
 by_cases h2:k=2
 ·subst h2
  by_cases h0:0<more.length
  case neg =>
   have rA:=om (cs:=gh ts) hr (fun h=>absurd h.1 (by decide)) (fun h=>absurd h.1 (by decide)) (fun h=>h0 h.2)
   refine go ?_
   ((refine bB 95 ((.bool false)) rfl ((congrArg Value.bool (decide_eq_false ah))) ?_))
   refine go ?_
   refine aj (H':=ag tb (cl [ptr bs,ptr jb,tv,.bool br] 88)::aB 90 1 tv ts.length (ts.map cm)::aU ts::X::F) ad ?_
   ((refine bS hE Tryz.func77 rfl _ rfl ⟨rfl,hG rA⟩ ad))
  obtain⟨m,l,rfl⟩:∃m l,more=m::l:=by
   match more,h0 with
   | m::l,_=>exact⟨m,l,rfl⟩
  have rA:=vb (cs:=gh ts) hr
  have htp:=JF Z tb bs jb tv br ts d _ m l aaF Yk WS ah hn hw
  unfold dr dV at htp
  refine go ?_
  ((refine bB 95 ((.bool true)) rfl ((congrArg Value.bool (decide_eq_true ah))) ?_))
  refine go ?_
  refine aH (U:=aN) (l:=dC d) 0 zr zr zr zr zr zr ?_
  ((refine go ?_;(refine ai zr zr zr zr (htp) ad ?_ bG)))
  rintro _ _⟨rfl,kk,Ym,rfl⟩
  refine go ?_
  refine aj (H':=ag tb (cl [ptr bs,ptr jb,tv,.bool br] 88)::aB 90 1 tv (ts.map (fP (CE m l) d kk (l.map hz))).length ((ts.map (fP (CE m l) d kk (l.map hz))).map cm)::aU (ts.map (fP (CE m l) d kk (l.map hz)))::X::F) ad ?_
  ((refine bS hE Tryz.func77 rfl _ rfl ⟨rfl,ts.map (fP (CE m l) d kk (l.map hz)),tv,by rw[Gs ts d m l kk Ym,rA],rfl⟩ ad))
 have hn2:=bT 2 ah h2
 have rA:=om (cs:=gh ts) hr (fun h=>h3 h.1) (fun h=>h1 h.1) (fun h=>h2 h.1)
 refine go ?_
 ((refine az 39 ((.bool false)) rfl ((congrArg Value.bool R9)) ?_))
 refine go ?_
 ((refine az 98 ((.bool false)) rfl ((congrArg Value.bool hn2)) ?_))
 refine go ?_
 refine aj (H':=ag tb (cl [ptr bs,ptr jb,tv,.bool br] 88)::aB 90 1 tv ts.length (ts.map cm)::aU ts::X::F) ad ?_
 ((refine bS hE Tryz.func77 rfl _ rfl ⟨rfl,hG rA⟩ ad))
end Go.Proofs.YtedjnjkijiddlaaGreatDoor
namespace Go.Proofs.YtedjnjkijiddlaaGreatDoor
open Go Go.SL
def Tk.drop(y:Tk)(i:Nat):Tk:=⟨y.yb,y.sb,y.mb,y.x,y.n,jI y.ws i false,fun j=>if j=(i:Int)then none else y.pf j⟩
theorem Hv(es:List (Int × Value))(k j:Int):eh (rj es k) j=if j=k then none else eh es j:=by
 induction es with
 | nil=>simp[rj,eh]
 | cons x es ih =>
  unfold rj at ih ⊢
  rw[List.filter_cons]
  by_cases hx:x.1=k
  ·simp only[hx,decide_true,Bool.not_true,Bool.false_eq_true,if_false]
   rw[ih]
   by_cases hj:j=k
   ·rw[if_pos hj,if_pos hj]
   ·rw[if_neg hj,if_neg hj]
    unfold eh
    rw[List.find?_cons_of_neg (by simp;rw[hx];exact fun e=>hj e.symm)]
  ·simp only[hx,decide_false,Bool.not_false,if_true]
   unfold eh at ih ⊢
   by_cases QI:x.1=j
   ·rw[List.find?_cons_of_pos (by simpa using QI),List.find?_cons_of_pos (by simpa using QI),if_neg (fun e=>hx (QI.trans e))]
   ·rw[List.find?_cons_of_neg (by simpa using QI),List.find?_cons_of_neg (by simpa using QI)]
    exact ih
theorem Jh.drop{z:Value × List (Int × Value) × fF}{y:Tk}(h:Jh z y)(i:Nat):Jh (z.1,rj z.2.1 (i:Int),z.2.2) (y.drop i):=fun j=>by
 simp only
 rw[Hv]
 by_cases hj:j=(i:Int)
 ·rw[if_pos hj]
  show(if j=(i:Int)then none else y.pf j)=none
  rw[if_pos hj]
 ·rw[if_neg hj]
  have:=h j
  show match eh z.2.1 j with
   | none=>(if j=(i:Int)then none else y.pf j)=none
   | some v=>∃l,(if j=(i:Int)then none else y.pf j)=some l∧CL z.2.2 32 v l.length (l.flatMap dC)
  rw[if_neg hj]
  exact this
attribute [local irreducible] J K aD Ends ag aB aM bN aZ aP aV bh bW aC
set_option maxRecDepth 20000 in
theorem JG(y:Tk)(i:Nat)(hi:i<y.n)(hn:y.n≤65536)(hw:y.n≤y.ws.length*64) :
  aD Tryz.prog 139 [ptr y.yb,.int .i64 (i:Int)] [n9 y] (fun r H=>r = .tuple #[]∧H=[n9 (y.drop i)]):=by
 refine aD.enter Tryz.func139 ak rfl Tryz.ntmps139 zr zr ?_
 intro G F R hE
 refine eE (gj y) ?_
 rintro⟨wv,cs,M⟩ hz
 have q9:=FB y.sb y.n wv y.ws hn hw i hi false
 unfold iP at q9
 refine aj (H':=ag y.yb (cl (lz y) 93)::ag y.sb (cl [.int .i64 (y.n:Int),wv] 117)::aB 118 1 wv y.ws.length (qV y.ws)::aM (Value.int .i64) y.mb cs::aV 35 M::F) (by unfold mZ;exact ad) ?_
 refine go ?_
 ((refine ai zr zr zr zr (q9) ad ?_ bG))
 rintro _ _⟨rfl,rfl⟩
 ((refine aG (H':=ag y.yb (cl (lz y) 93)::aM (Value.int .i64) y.mb cs::ag y.sb (cl [.int .i64 (y.n:Int),wv] 117)::aB 118 1 wv (jI y.ws i false).length (qV (jI y.ws i false))::aV 35 M::F) ad ?_))
 refine go ?_
 refine ml (es:=cs) (key:=(i:Int)) 1 (BN Tryz.underlying3) (fun w hw=>by exact trivial) zr zr zr zr zr zr zr ?_
 refine go ?_
 refine aj (H':=mZ (y.drop i) (wv,rj cs (i:Int),M)++F) (by unfold mZ;exact ad) ?_
 refine aj (jh (hz.drop i) _) ?_
 ((refine bS hE Tryz.func139 rfl _ rfl ⟨rfl,rfl⟩ ad))
end Go.Proofs.YtedjnjkijiddlaaGreatDoor
namespace Go.Proofs.YtedjnjkijiddlaaGreatDoor
open Go Go.SL
def jZ(c:TC):Prop:=c.n≤1024∧c.n≤c.ws.length*64∧c.ws.length≤65536∧∀k l,c.pf k=some l→l.length≤10
theorem jZ.drop{c:TC}(h:jZ c)(i:Nat):jZ (c.drop i):=⟨h.1,by unfold TC.drop;simp only[iq];exact h.2.1,by unfold TC.drop;simp only[iq];exact h.2.2.1,fun k l hk=>by
  unfold TC.drop at hk
  simp only at hk
  split at hk
  · cases hk
  · exact h.2.2.2 k l hk⟩
theorem jZ.hold{s:eU}{c:TC}(h:jZ c):∀k,jZ (iu s c k).1
 | 0=>h
 | k+1=>by
  rw[lU]
  have ih:=jZ.hold (s:=s) h k
  unfold kM
  split
  ·split
   ·exact ih.drop k
   ·exact ih
  ·exact ih
theorem oB{x:Bl}{i:Int}{b:List UInt8}{p:List Dg}(h:cM x i b p=true):p.length≤10:=by
 unfold cM at h
 split at h
 ·cases h
 ·rw[Bool.and_eq_true]at h
  have:=h.2
  unfold jo at this
  rw[decide_eq_true_iff]at this
  rw[this.2.1]
  exact qR _ _
theorem NZ{s:eU}{y:Tk}{ls:List (List UInt8)}{i:Nat}(h:cE y.ws y.n (i:Int)=false):kM s (y.c,ls) i=(y.c,ls):=by
 unfold kM
 exact if_neg (show ¬cE y.ws y.n (i:Int)=true by rw[h];simp)
theorem GW{s:eU}{y:Tk}{ls:List (List UInt8)}{i:Nat}(h:cE y.ws y.n (i:Int)=true)(h2:(dZ s y.x (i:Int)).2≠0∨cM y.x i (dZ s y.x (i:Int)).1 ((y.pf i).getD [])=false):kM s (y.c,ls) i=(y.c.drop i,ls):=by
 unfold kM
 exact(if_pos (show cE y.ws y.n (i:Int)=true from h)).trans (if_pos h2)
theorem GV{s:eU}{y:Tk}{ls:List (List UInt8)}{i:Nat}(h:cE y.ws y.n (i:Int)=true)(h2:¬((dZ s y.x (i:Int)).2≠0∨cM y.x i (dZ s y.x (i:Int)).1 ((y.pf i).getD [])=false)):kM s (y.c,ls) i=(y.c,ls++[bF y.x.d i ((y.pf i).getD [])]):=by
 unfold kM
 exact(if_pos (show cE y.ws y.n (i:Int)=true from h)).trans (if_neg h2)
attribute [local irreducible] J K aD Ends ag aB aM bN aZ aP aV bh bW aC cd
set_option maxRecDepth 20000 in
theorem NY(X:HP)(hK:oe X)(tb bs jb bd:Nat)(tv:Value)(br:Bool)(q:Int)(mb:Nat)(s:SJ)(hRd:∀nm at_ n,(s.1.A.read nm at_ n).1.length≤1048576)(y0:Tk)(lC:jZ y0.c)(ir:0≤y0.x.size∧y0.x.size≤1000000000000)(WE:0≤y0.x.piece∧y0.x.piece≤1000000000000) :
  aD Tryz.prog 78 [ptr tb,ptr y0.yb] [ag tb (cl [ptr bs,ptr jb,tv,.bool br] 88),n9 y0,cd bs bd jb q mb [] s,X]
  (fun r H=>∃(y:Tk) (Z:HP),y.yb=y0.yb∧y.c=(j0 s.1 y0.c).1∧rM Z r (j0 s.1 y0.c).2∧H=[ag tb (cl [ptr bs,ptr jb,tv,.bool br] 88),n9 y,cd bs bd jb q mb [] s,X,Z]):=by
 have sk:=rK y0.x ir WE
 unfold eg at sk
 have QW:y0.n≤1024:=lC.1
 refine aD.enter Tryz.func78 ak rfl Tryz.ntmps78 zr zr ?_
 intro G F R hE
 refine aj (ao.pick [1] rfl) ?_
 refine eE (gj y0) ?_
 rintro⟨wv,cs,N⟩ RW
 refine aj (H':=ag y0.yb (cl (lz y0) 93)::ag y0.sb (cl [.int .i64 (y0.n:Int),wv] 117)::aB 118 1 wv y0.ws.length (qV y0.ws)::aM (Value.int .i64) y0.mb cs::aV 35 N::ag tb (cl [ptr bs,ptr jb,tv,.bool br] 88)::cd bs bd jb q mb [] s::X::F) (by unfold mZ;exact ad) ?_
 refine go ?_
 refine dw (cs:=bD y0.x) 0 zr zr zr zr zr zr ?_
 ((refine ai zr zr zr zr (sk) ad ?_ bG))
 rintro r _ rfl
 ((refine aJ 0 rfl ?_))
 rintro a8 c8 rfl
 refine gB (bs:=bR y0.x) 0 rfl ?_
 intro IY
 refine go ?_
 refine al (cs:=[.slice a8 (bR y0.x).length c8]) zr zr zr zr zr zr zr zr zr bz ?_
 intro row
 ((refine aG (H':=ag y0.yb (cl (lz y0) 93)::ag y0.sb (cl [.int .i64 (y0.n:Int),wv] 117)::aB 118 1 wv y0.ws.length (qV y0.ws)::aM (Value.int .i64) y0.mb cs::aV 35 N::ag row (cl [.slice a8 (bR y0.x).length c8] 22)::aB 5 1 (.slice a8 (bR y0.x).length c8) (bR y0.x).length (bV (bR y0.x))::ag tb (cl [ptr bs,ptr jb,tv,.bool br] 88)::cd bs bd jb q mb [] s::X::F) ad ?_))
 refine go ?_
 ((refine ai zr zr zr zr (n8 y0.sb y0.n wv) ad ?_ bG))
 rintro _ _⟨rfl,rfl⟩
 refine go ?_
 refine aj (ao.trans (H2:=mZ y0 (wv,cs,N)++(ag row (cl [.slice a8 (bR y0.x).length c8] 22)::aB 5 1 (.slice a8 (bR y0.x).length c8) (bR y0.x).length (bV (bR y0.x))::ag tb (cl [ptr bs,ptr jb,tv,.bool br] 88)::cd bs bd jb q mb [] s::X::F)) (by unfold mZ;exact ad) (jh RW _)) ?_
 refine aj (H':=ag row (cl [.slice a8 (bR y0.x).length c8] 22)::aB 5 1 (.slice a8 (bR y0.x).length c8) (bR y0.x).length (bV (bR y0.x))::n9 y0::ag tb (cl [ptr bs,ptr jb,tv,.bool br] 88)::cd bs bd jb q mb [] s::X::F) ad ?_
 refine aj (eL 22 1 row 1 1 [.slice a8 (bR y0.x).length c8] [] _ rfl (Nat.le_refl _) (by simp)) ?_
 refine bu (fun z:Nat × Tk × YD × Option Addr × Nat=>z.1≤y0.n∧z.2.1.yb=y0.yb∧z.2.1.c=(iu s.1 y0.c z.1).1∧Cm z.2.2.1 (iu s.1 y0.c z.1).2∧z.2.2.1.cs.length≤z.1+1) (fun z=>y0.n-z.1)
  (fun z=>[(0,ptr tb),(1,ptr y0.yb),(5,.slice z.2.2.2.1 z.2.2.1.cs.length z.2.2.2.2),(19,.int .i64 (y0.n:Int)),(20,.int .i64 (z.1:Int))])
  (fun z=>aB 22 1 (.slice z.2.2.2.1 z.2.2.1.cs.length z.2.2.2.2) z.2.2.1.cs.length z.2.2.1.cs::z.2.2.1.Z::n9 z.2.1::ag tb (cl [ptr bs,ptr jb,tv,.bool br] 88)::cd bs bd jb q mb [] s::X::F) (0,y0,⟨[.slice a8 (bR y0.x).length c8],aB 5 1 (.slice a8 (bR y0.x).length c8) (bR y0.x).length (bV (bR y0.x))⟩,some ⟨row,0,none⟩,1) ⟨Nat.zero_le _,rfl,rfl,?_,by simp⟩ rfl cu ad ?_
 ·refine⟨rfl,fun j x hx=>?_⟩
  match j,hx with
  | 0,hx=>cases hx;exact⟨_,rfl,IY⟩
  | j+1,hx=>cases hx
 clear RW IY cs N wv
 rintro⟨i,y,M,oa,oc⟩⟨hi,CG,IE,hM,hMl⟩ ih
 simp only at hi CG IE hM hMl
 dsimp only
 refine go ?_
 refine au zr zr ?_ ?_
 ·intro cW
  have gw:i<y0.n:=by omega
  obtain⟨ls,IQ⟩:∃ls,ls=(iu s.1 y0.c i).2:=⟨_,rfl⟩
  have R7:iu s.1 y0.c i=(y.c,ls):=by rw[IE,IQ]
  have k9:=lU s.1 y0.c i
  rw[R7]at k9
  rw[← IQ]at hM
  have aas:jZ y.c:=by rw[IE];exact lC.hold i
  have hxx:=IN s.1 y0.c i
  rw[← IE]at hxx
  have GN:y.n=y0.n:=hxx.2.1
  have aac:y.n≤65536:=Nat.le_trans aas.1 ah
  have Kt:y.n≤y.ws.length*64:=aas.2.1
  have uJ:=zo y.sb y.n
  rw[← CG]
  refine aj (ao.pick [2] rfl) ?_
  refine eE (gj y) ?_
  rintro⟨wv,cs,N⟩ hz
  have jO:∀H,ao (ag y.yb (cl (lz y) 93)::ag y.sb (cl [.int .i64 (y.n:Int),wv] 117)::aB 118 1 wv y.ws.length (qV y.ws)::aM (Value.int .i64) y.mb cs::aV 35 N::H) (n9 y::H):=fun H=>ao.trans (H2:=mZ y (wv,cs,N)++H) (by unfold mZ;exact ad) (jh hz _)
  have uJ:=zo y.sb y.n wv y.ws aac Kt (i:Int)
  unfold iP at uJ
  refine aj (H':=ag y.yb (cl (lz y) 93)::ag y.sb (cl [.int .i64 (y.n:Int),wv] 117)::aB 118 1 wv y.ws.length (qV y.ws)::aM (Value.int .i64) y.mb cs::aV 35 N::aB 22 1 (.slice oa M.cs.length oc) M.cs.length M.cs::M.Z::ag tb (cl [ptr bs,ptr jb,tv,.bool br] 88)::cd bs bd jb q mb [] s::X::F) (by unfold mZ;exact ad) ?_
  refine go ?_
  ((refine ai zr zr zr zr (uJ) ad ?_ bG))
  rintro _ _⟨rfl,rfl⟩
  cases Sg:cE y.ws y.n (i:Int)with
  | false =>
   have qZ:iu s.1 y0.c (i+1)=(y.c,ls):=by rw[k9,NZ Sg]
   refine go ?_
   ((refine bB 1 ((ptr y0.yb)) rfl ((by rw[CG])) ?_))
   refine aj (ao.trans ad (jO (aB 22 1 (.slice oa M.cs.length oc) M.cs.length M.cs::M.Z::ag tb (cl [ptr bs,ptr jb,tv,.bool br] 88)::cd bs bd jb q mb [] s::X::F))) ?_
   refine aL ih (i+1,y,M,oa,oc) rfl ⟨by simp only;omega,CG,by rw[qZ],by rw[qZ];exact hM,by simp only;omega⟩ (by simp only;omega) cu ad
  | true =>
  have hsg:=Hx bs bd q mb s.1 y.x (i:Int)
  unfold eg at hsg
  obtain⟨bb,IX⟩:∃b,b=(dZ s.1 y.x (i:Int)).1:=⟨_,rfl⟩
  obtain⟨ee,Yq⟩:∃e,e=(dZ s.1 y.x (i:Int)).2:=⟨_,rfl⟩
  have iD:bb.length≤1048576:=by
   rw[IX]
   unfold dZ
   split
   ·split
    ·simp
    ·exact hRd _ _ _
   ·simp
  have PL:(ee≠0∨cM y.x i bb ((y.pf i).getD [])=false)→iu s.1 y0.c (i+1)=(y.c.drop i,ls):=fun h=>by
   rw[Yq,IX]at h
   rw[k9,GW Sg h]
  have Wx:¬(ee≠0∨cM y.x i bb ((y.pf i).getD [])=false)→iu s.1 y0.c (i+1)=(y.c,ls++[bF y.x.d i ((y.pf i).getD [])]):=fun h=>by
   rw[Yq,IX]at h
   rw[k9,GV Sg h]
  rw[← IX,← Yq]at hsg
  clear uJ IX Yq k9 R7 IQ
  obtain⟨pv,QP,NW⟩:=hz.look (i:Int)
  simp only at QP NW
  obtain⟨pa,pc,acp,R6⟩:=NW.shape
  subst acp
  refine go ?_
  refine aj (H':=cd bs bd jb q mb [] s::ag y.yb (cl (lz y) 93)::ag y.sb (cl [.int .i64 (y.n:Int),wv] 117)::aB 118 1 wv y.ws.length (qV y.ws)::aM (Value.int .i64) y.mb cs::aV 35 N::aB 22 1 (.slice oa M.cs.length oc) M.cs.length M.cs::M.Z::ag tb (cl [ptr bs,ptr jb,tv,.bool br] 88)::X::F) ad ?_
  refine aj (Hz bs bd jb q mb s _) ?_
  refine aj (H':=ag tb (cl [ptr bs,ptr jb,tv,.bool br] 88)::ag y.yb (cl (lz y) 93)::ag y.sb (cl [.int .i64 (y.n:Int),wv] 117)::aB 118 1 wv y.ws.length (qV y.ws)::aM (Value.int .i64) y.mb cs::aV 35 N::(cg bs bd q mb s.1++(qY jb bd cS s.2::aB 22 1 (.slice oa M.cs.length oc) M.cs.length M.cs::M.Z::X::F))) ad ?_
  refine aF (fun w=>Sat G w ([ag tb (cl [ptr bs,ptr jb,tv,.bool br] 88),ag y.yb (cl (lz y) 93)])) (.st 0 (.st 1 (.st 2 (.st 3 (.st 4 (.st 5 (.st 6 (.st 7 (.st 8 (.act 9 (.st 10 (.st 11 (.st 12 (.st 13 (.st 14 .nil))))))))))))))) rfl ak ak ak ei ?_
  refine go ?_
  refine ck (U:=aN) (cs:=bD y.x) 1 zr zr zr zr zr zr ?_
  refine go ?_
  ((refine ai rfl rfl rfl rfl (hsg) ad ?_ (fun _ _ w hp hw=>by obtain⟨_,rfl,rfl⟩:=hp;exact hw.cy ad)))
  rintro _ _⟨rv,rfl,rfl⟩
  ((refine aJ 0 rfl ?_))
  rintro ra rc rfl
  (refine rG ?_)
  refine iR rfl ?_
  refine aj (ao.trans ad (yY bs bd jb q mb s (aB 5 1 (.slice ra bb.length rc) bb.length (bV bb)::ag y.yb (cl (lz y) 93)::ag y.sb (cl [.int .i64 (y.n:Int),wv] 117)::aB 118 1 wv y.ws.length (qV y.ws)::aM (Value.int .i64) y.mb cs::aV 35 N::aB 22 1 (.slice oa M.cs.length oc) M.cs.length M.cs::M.Z::ag tb (cl [ptr bs,ptr jb,tv,.bool br] 88)::X::F))) ?_
  refine ql (bs:=bb) 1 rfl ?_
  intro adg
  obtain⟨pf,hpf⟩:∃l,l=(y.pf (i:Int)).getD []:=⟨_,rfl⟩
  rw[← hpf]at QP NW R6 PL Wx
  have PU:=xR (Sep [X,aB 5 1 (.slice ra bb.length rc) bb.length (bV bb),aV 35 N]) (hK.mono (aW (H:=[X,aB 5 1 (.slice ra bb.length rc) bb.length (bV bb),aV 35 N]) (i:=0) rfl)) y.x (i:Int) (.slice ra bb.length rc) bb (adg.mono (aW (i:=1) rfl)) ah (.slice pa pf.length pc) pf ⟨(NW.view _).mono (aW (i:=2) rfl),pa,pc,rfl,R6⟩
  unfold eg at PU
  have Yr:=JG y i ah aac Kt
  refine aj (H':=X::aB 5 1 (.slice ra bb.length rc) bb.length (bV bb)::aV 35 N::ag y.yb (cl (lz y) 93)::aM (Value.int .i64) y.mb cs::ag y.sb (cl [.int .i64 (y.n:Int),wv] 117)::aB 118 1 wv y.ws.length (qV y.ws)::aB 22 1 (.slice oa M.cs.length oc) M.cs.length M.cs::M.Z::ag tb (cl [ptr bs,ptr jb,tv,.bool br] 88)::cd bs bd jb q mb [] s::F) ad ?_
  refine aj (ao.bP [X,aB 5 1 (.slice ra bb.length rc) bb.length (bV bb),aV 35 N] _) ?_
  refine aj (H':=ag y.yb (cl (lz y) 93)::aM (Value.int .i64) y.mb cs::Sep [X,aB 5 1 (.slice ra bb.length rc) bb.length (bV bb),aV 35 N]::ag y.sb (cl [.int .i64 (y.n:Int),wv] 117)::aB 118 1 wv y.ws.length (qV y.ws)::aB 22 1 (.slice oa M.cs.length oc) M.cs.length M.cs::M.Z::ag tb (cl [ptr bs,ptr jb,tv,.bool br] 88)::cd bs bd jb q mb [] s::F) ad ?_
  have lT:∀H,ao (Sep [X,aB 5 1 (.slice ra bb.length rc) bb.length (bV bb),aV 35 N]::ag y.yb (cl (lz y) 93)::aM (Value.int .i64) y.mb cs::ag y.sb (cl [.int .i64 (y.n:Int),wv] 117)::aB 118 1 wv y.ws.length (qV y.ws)::H) (ag y.yb (cl (lz y) 93)::ag y.sb (cl [.int .i64 (y.n:Int),wv] 117)::aB 118 1 wv y.ws.length (qV y.ws)::aM (Value.int .i64) y.mb cs::aV 35 N::X::H):=fun H=>(ao.cB [X,aB 5 1 (.slice ra bb.length rc) bb.length (bV bb),aV 35 N] _).trans ad
  refine aF (fun w=>Sat G w ([ag y.yb (cl (lz y) 93),aM (Value.int .i64) y.mb cs])) (.st 0 (.st 1 (.st 2 (.st 3 (.st 4 (.st 5 (.st 6 (.st 7 (.st 8 (.st 9 (.st 10 (.st 11 (.st 12 (.st 13 (.st 14 (.act 15 (.st 16 (.st 17 .nil)))))))))))))))))) rfl ak ak ak ei ?_
  refine go ?_
  by_cases he:ee=0
  case neg =>
   have qZ:=PL (.inl he)
   ((refine az 45 ((.bool true)) rfl ((congrArg Value.bool (decide_eq_true ah))) ?_))
   refine go ?_
   ((refine aG (ao.trans ad (lT (aB 22 1 (.slice oa M.cs.length oc) M.cs.length M.cs::M.Z::ag tb (cl [ptr bs,ptr jb,tv,.bool br] 88)::cd bs bd jb q mb [] s::F))) ?_))
   ((refine aG (jO _) ?_))
   refine go ?_
   ((refine ai zr zr zr zr (Yr) ad ?_ bG))
   rintro _ _⟨rfl,rfl⟩
   refine go ?_
   ((refine bB 1 ((ptr y0.yb)) rfl ((by rw[CG])) ?_))
   refine aL ih (i+1,y.drop i,M,oa,oc) rfl ⟨by simp only;omega,CG,by rw[qZ];rfl,by rw[qZ];exact hM,by simp only;omega⟩ (by simp only;omega) cu ad
  ((refine az 45 ((.bool false)) rfl ((congrArg Value.bool (decide_eq_false ah))) ?_))
  refine go ?_
  refine ck (U:=aN) (cs:=bD y.x) 0 zr zr zr zr zr zr ?_
  refine go ?_
  refine Bc (U:=aN) (kv:=Value.int .i64) (es:=cs) (key:=(i:Int)) rfl (BN Tryz.underlying3) zr zr zr zr zr zr zr (fun w hw=>hw.oN (i:=1) rfl) ?_
  ((refine az 57 ((.slice pa pf.length pc)) rfl (QP) ?_))
  refine go ?_
  ((refine ai rfl rfl rfl rfl (PU) ad ?_ jg))
  rintro _ _⟨rfl,rfl⟩
  cases FG:cM y.x i bb pf with
  | false =>
   have qZ:=PL (.inr FG)
   refine go ?_
   ((refine aG (ao.trans ad (lT (aB 22 1 (.slice oa M.cs.length oc) M.cs.length M.cs::M.Z::ag tb (cl [ptr bs,ptr jb,tv,.bool br] 88)::cd bs bd jb q mb [] s::F))) ?_))
   ((refine aG (jO _) ?_))
   refine go ?_
   ((refine ai zr zr zr zr (Yr) ad ?_ bG))
   rintro _ _⟨rfl,rfl⟩
   refine go ?_
   ((refine bB 1 ((ptr y0.yb)) rfl ((by rw[CG])) ?_))
   refine aL ih (i+1,y.drop i,M,oa,oc) rfl ⟨by simp only;omega,CG,by rw[qZ];rfl,by rw[qZ];exact hM,by simp only;omega⟩ (by simp only;omega) cu ad
  | true =>
  have qZ:=Wx (fun h=>by rcases h with h|h;exact h he;rw[FG]at h;cases h)
  have pT:=oB FG
  have FF:=Au y.x.d i ah (aV 35 N) (.slice pa pf.length pc) pf (NW.view _) ah
  unfold dV at FF
  refine go ?_
  refine aj (ao.trans ad (lT (aB 22 1 (.slice oa M.cs.length oc) M.cs.length M.cs::M.Z::ag tb (cl [ptr bs,ptr jb,tv,.bool br] 88)::cd bs bd jb q mb [] s::F))) ?_
  refine aj (H':=ag y.yb (cl (lz y) 93)::aM (Value.int .i64) y.mb cs::aV 35 N::aB 22 1 (.slice oa M.cs.length oc) M.cs.length M.cs::ag y.sb (cl [.int .i64 (y.n:Int),wv] 117)::aB 118 1 wv y.ws.length (qV y.ws)::M.Z::ag tb (cl [ptr bs,ptr jb,tv,.bool br] 88)::cd bs bd jb q mb [] s::X::F) ad ?_
  refine aF (fun w=>Sat G w ([ag y.yb (cl (lz y) 93),aM (Value.int .i64) y.mb cs])) (.st 0 (.st 1 (.st 2 (.st 3 (.st 4 (.st 5 (.st 6 (.st 7 (.st 8 (.st 9 (.st 10 (.st 11 (.st 12 (.act 13 (.act 14 (.act 15 (.st 16 .nil))))))))))))))))) rfl ak ak ak ei ?_
  refine go ?_
  refine ck (U:=aN) (cs:=dC y.x.d) 0 zr zr zr zr zr zr ?_
  refine go ?_
  refine Bc (U:=aN) (kv:=Value.int .i64) (es:=cs) (key:=(i:Int)) rfl (BN Tryz.underlying3) zr zr zr zr zr zr zr (fun w hw=>hw.oN (i:=1) rfl) ?_
  ((refine az 76 ((.slice pa pf.length pc)) rfl (QP) ?_))
  refine go ?_
  ((refine ai rfl rfl rfl rfl (FF) ad ?_ (fun _ _ w hp hw=>by obtain rfl:=hp;exact hw.cy ad)))
  rintro r9 _ rfl
  ((refine aJ 0 rfl ?_))
  rintro a9 c9 rfl
  refine gB (bs:=bF y.x.d i pf) 0 rfl ?_
  intro Xm
  refine go ?_
  refine al (cs:=[.slice a9 (bF y.x.d i pf).length c9]) zr zr zr zr zr zr zr zr zr (fun _ w hw=>hw.cy ad) ?_
  intro Qd
  ((refine aG (H':=ag Qd (cl [.slice a9 (bF y.x.d i pf).length c9] 22)::aB 22 1 (.slice oa M.cs.length oc) M.cs.length M.cs::aB 5 1 (.slice a9 (bF y.x.d i pf).length c9) (bF y.x.d i pf).length (bV (bF y.x.d i pf))::M.Z::ag y.yb (cl (lz y) 93)::ag y.sb (cl [.int .i64 (y.n:Int),wv] 117)::aB 118 1 wv y.ws.length (qV y.ws)::aM (Value.int .i64) y.mb cs::aV 35 N::ag tb (cl [ptr bs,ptr jb,tv,.bool br] 88)::cd bs bd jb q mb [] s::X::F) ad ?_))
  refine go ?_
  refine aO (mm:=1) (news:=[.slice a9 (bF y.x.d i pf).length c9]) 1 0 rfl rfl rfl rfl rfl rfl rfl rfl rfl rfl rfl rfl (Vw.ag rfl) rfl (by intro v hv;simp at hv;rw[hv];rfl) ah (by show(_+_)*24≤_;omega) (fun _=>rfl) (fun _ w hw=>hw.cy ad) ?_
  intro v1
  ((refine aJ 1 rfl ?_))
  rintro ja jc rfl
  refine go ?_
  have ys:=hM.add Xm
  have Xf:(M.cs++[Value.slice a9 (bF y.x.d i pf).length c9]).length=M.cs.length+1:=by simp
  refine aj (H':=aB 5 1 (.slice a9 (bF y.x.d i pf).length c9) (bF y.x.d i pf).length (bV (bF y.x.d i pf))::M.Z::ag y.yb (cl (lz y) 93)::ag y.sb (cl [.int .i64 (y.n:Int),wv] 117)::aB 118 1 wv y.ws.length (qV y.ws)::aM (Value.int .i64) y.mb cs::aV 35 N::aB 22 1 (.slice ja (M.cs++[Value.slice a9 (bF y.x.d i pf).length c9]).length jc) (M.cs++[Value.slice a9 (bF y.x.d i pf).length c9]).length (M.cs++[Value.slice a9 (bF y.x.d i pf).length c9])::ag tb (cl [ptr bs,ptr jb,tv,.bool br] 88)::cd bs bd jb q mb [] s::X::F) (by rw[Xf];exact ad) ?_
  refine aj (ao.bP [aB 5 1 (.slice a9 (bF y.x.d i pf).length c9) (bF y.x.d i pf).length (bV (bF y.x.d i pf)),M.Z] _) ?_
  refine aj (ao.trans ad (jO (Sep [aB 5 1 (.slice a9 (bF y.x.d i pf).length c9) (bF y.x.d i pf).length (bV (bF y.x.d i pf)),M.Z]::aB 22 1 (.slice ja (M.cs++[Value.slice a9 (bF y.x.d i pf).length c9]).length jc) (M.cs++[Value.slice a9 (bF y.x.d i pf).length c9]).length (M.cs++[Value.slice a9 (bF y.x.d i pf).length c9])::ag tb (cl [ptr bs,ptr jb,tv,.bool br] 88)::cd bs bd jb q mb [] s::X::F))) ?_
  ((refine bB 1 ((ptr y0.yb)) rfl ((by rw[CG])) ?_))
  ((refine bB 5 ((.slice ja (M.cs++[Value.slice a9 (bF y.x.d i pf).length c9]).length jc)) rfl ((by rw[Xf])) ?_))
  refine aL ih (i+1,y,⟨M.cs++[Value.slice a9 (bF y.x.d i pf).length c9],Sep [aB 5 1 (.slice a9 (bF y.x.d i pf).length c9) (bF y.x.d i pf).length (bV (bF y.x.d i pf)),M.Z]⟩,ja,jc) rfl ⟨by simp only;omega,CG,by rw[qZ],by rw[qZ];exact ys,by simp only[Xf];omega⟩ (by simp only;omega) cu ad
 ·intro fq
  have sH:i=y0.n:=by omega
  subst sH
  clear ih
  rw[show iu s.1 y0.c y0.n=j0 s.1 y0.c from rfl]at IE hM
  refine mi 0 rfl ?_
  intro jl
  refine dB 0 rfl ?_
  intro NN
  have BR:=hM.1
  have mA:rM (Sep [aB 22 1 (.slice oa M.cs.length oc) M.cs.length M.cs,M.Z]) (.slice oa M.cs.length oc) (j0 s.1 y0.c).2:=by
   rw[BR]at NN jl ⊢
   exact rM.ofP NN jl BR hM.2
  refine aj (ao.bP [aB 22 1 (.slice oa M.cs.length oc) M.cs.length M.cs,M.Z] _) ?_
  refine go ?_
  refine aj (H':=ag tb (cl [ptr bs,ptr jb,tv,.bool br] 88)::n9 y::cd bs bd jb q mb [] s::X::Sep [aB 22 1 (.slice oa M.cs.length oc) M.cs.length M.cs,M.Z]::F) ad ?_
  ((refine ae hE Tryz.func78 rfl _ rfl ⟨y,_,CG,IE,mA,rfl⟩ ad))
end Go.Proofs.YtedjnjkijiddlaaGreatDoor
namespace Go.Proofs.YtedjnjkijiddlaaGreatDoor
open Go Go.SL
def Ma(c:TC):Prop:=jZ c∧bo c.x=true
theorem jZ.fresh(x:Bl):jZ (cQ x):=by
 have h:=lE x
 unfold jZ cQ
 simp only[List.length_replicate]
 exact⟨ah,ah,ah,fun k l h=>by cases h⟩
theorem jZ.put{c:TC}(h:jZ c)(i:Nat){l:List Dg}(hl:l.length≤10):jZ (c.put i l):=⟨h.1,by unfold TC.put;simp only[iq];exact h.2.1,by unfold TC.put;simp only[iq];exact h.2.2.1,fun k l' hk=>by
  unfold TC.put at hk
  simp only at hk
  split at hk
  · injection hk with hk;rw[← hk];exact hl
  · exact h.2.2.2 k l' hk⟩
theorem nB{cs:List TC}(h:∀c∈cs,Ma c)(d:Dg)(m:List UInt8)(l:List (List UInt8)):(∀c∈lP cs d m l,Ma c)∧(lP cs d m l).length=cs.length:=by
 unfold lP
 split
 ·refine⟨fun c hc=>?_,by simp⟩
  obtain⟨y,hy,rfl⟩:=List.mem_map.1 hc
  split
  ·rename_i hh
   exact⟨(h y hy).1.put _ (by rw[hh.2.2];exact qR _ _),(h y hy).2⟩
  ·exact h y hy
 ·exact⟨h,rfl⟩
theorem V5{cs:List TC}(h:∀c∈cs,Ma c)(d:Dg):(∀c∈Dl cs d,Ma c)∧(Dl cs d).length≤cs.length:=⟨fun c hc=>h c (List.mem_filter.1 hc).1,List.length_filter_le _ _⟩
theorem Mt{cs:List TC}(h:∀c∈cs,Ma c)(b:List UInt8):(∀c∈dm cs b,Ma c)∧(dm cs b).length≤cs.length+1:=by
 unfold dm
 split
 ·exact⟨h,ah⟩
 ·rename_i k d more _
  have hr:=V5 h d
  split
  ·exact⟨hr.1,ah⟩
  ·split
   ·split
    ·split
     ·rename_i s p r _ _ _
      split
      ·rename_i PO
       refine⟨fun c hc=>?_,by rw[List.length_append];simp;omega⟩
       rcases List.mem_append.1 hc with hc|hc
       ·exact hr.1 c hc
       ·rw[List.mem_singleton.1 hc];exact⟨jZ.fresh _,PO⟩
      ·exact⟨h,ah⟩
     ·exact⟨h,ah⟩
    ·split
     ·have:=nB h d ‹_› [‹_›,‹_›]
      exact⟨(nB h d _ _).1,by rw[(nB h d _ _).2];omega⟩
     ·exact⟨h,ah⟩
   ·split
    ·exact⟨(nB h d _ _).1,by rw[(nB h d _ _).2];omega⟩
    ·exact⟨h,ah⟩
   ·exact⟨h,ah⟩
theorem H0:∀(ls:List (List UInt8)) (cs:List TC),(∀c∈cs,Ma c)→(∀c∈ls.foldl dm cs,Ma c)∧(ls.foldl dm cs).length≤cs.length+ls.length
 | [],cs,h=>⟨h,by simp⟩
 | b::ls,cs,h=>by
  obtain⟨h1,h2⟩:=Mt h b
  obtain⟨h3,h4⟩:=H0 ls (dm cs b) h1
  exact⟨h3,by simp only[List.foldl_cons,List.length_cons];omega⟩
theorem px(ls:List (List UInt8)):(∀c∈ls.foldl dm [],Ma c)∧(ls.foldl dm []).length≤ls.length:=by
 have:=H0 ls [] (fun c h=>by cases h)
 exact⟨this.1,by simpa using this.2⟩
theorem HV{q:Int}{x:Bl}{s t:eU}{e:Nat}(h:dJ q x s e t):t.aY=s.aY∨t.aY=s.aY++[(x.d,x)]:=by
 unfold dJ at h
 split at h
 ·exact .inl (by rw[h.2])
 split at h
 ·exact .inl (by rw[h.2])
 split at h
 ·exact .inl (by rw[h.2])
 split at h
 ·exact .inl (by rw[h.2])
 split at h
 ·exact .inr (by rw[h.2])
 ·obtain⟨e1,s1,⟨B,_,rfl⟩,h2⟩:=h
  rcases h2 with⟨_,_,rfl⟩|⟨_,_,rfl⟩
  ·exact .inl rfl
  ·exact .inr rfl
theorem df{x:Bl}(h:bo x=true):1≤x.size∧x.size≤1048576∧16≤x.piece∧x.piece≤16384:=by
 simp only[bo,decide_eq_true_eq]at h
 omega
theorem pe.begin{q:Int}{x:Bl}{s t:eU}{e:Nat}(h:pe s.aY)(hl:s.aY.length<1000000)(hr:bo x=true)(hR:dJ q x s e t):pe t.aY∧t.aY.length≤s.aY.length+1:=by
 rcases HV hR with h1|h1
 ·rw[h1];exact⟨h,ah⟩
 ·rw[h1]
  have:=df hr
  refine⟨⟨fun y hy=>?_,by simp;omega⟩,by simp⟩
  rcases List.mem_append.1 hy with hy|hy
  ·exact h.1 y hy
  ·rw[List.mem_singleton.1 hy];exact⟨by simp only;omega,by simp only;omega⟩
theorem vg:∀(ss:List (PS→Nat→PS→Prop)),(∀sp∈ss,∀x e y,sp x e y→jV x.1 y.1)→∀(x:PS) (e:Nat) (y:PS),iA ss x e y→y.1.aq.length≤x.1.aq.length+ss.length∧y.1.writes.length≤x.1.writes.length+ss.length
 | [],_,x,e,y,h=>by obtain⟨_,rfl⟩:=h;simp
 | sp::ss,hs,x,e,y,⟨e1,x1,h1,h2⟩=>by
  have hg:=hs sp (List.mem_cons_self ..) x e1 x1 h1
  unfold jV at hg
  rcases h2 with⟨_,_,rfl⟩|⟨_,h2⟩
  ·simp only[List.length_cons];omega
  ·have:=vg ss (fun sp h=>hs sp (List.mem_cons_of_mem _ h)) x1 e y h2
   simp only[List.length_cons];omega
theorem u0{nm:ByteArray}{ls:List (List UInt8)}{x y:PS}{e:Nat}(h:zQ nm ls x e y):y.1.aq.length≤x.1.aq.length+7∧y.1.writes.length≤x.1.writes.length+7:=by
 have hg:=vg (gn nm ls x.1) (fun sp fW x e y hS=>by
  unfold gn at fW
  have key:sp=Bw (bI nm)∨sp∈[Bx (bI nm),Gb (bI nm) (bX ls),MF (bI nm),Bv (bI nm) nm,Gc,V3 (ls.flatMap aR).length]:=by
   rcases List.mem_append.1 fW with fW|fW
   ·split at fW
    ·exact .inl (List.mem_singleton.1 fW)
    ·cases fW
   ·exact .inr fW
  simp only[List.mem_cons,List.not_mem_nil,or_false]at key
  rcases key with rfl|rfl|rfl|rfl|rfl|rfl|rfl
  ·obtain⟨⟨h1,h2⟩,_⟩:=hS;rw[h2];exact p8 _ _ _
  ·obtain⟨⟨f,_,h1,h2⟩,_⟩:=hS;rw[h2];exact p9 _ _ _ _
  ·obtain⟨⟨h1,h2⟩,_⟩:=hS;rw[h2];exact km _ _ _ _ _
  ·obtain⟨⟨h1,h2⟩,_⟩:=hS;rw[h2];exact ko _ _ _
  ·obtain⟨⟨h1,h2⟩,_⟩:=hS;rw[h2];exact p7 _ _ _ _
  ·obtain⟨⟨h1,h2⟩,_⟩:=hS;rw[h2];exact jP _
  ·obtain⟨h1,h2⟩:=hS;rw[h2];exact⟨by simp,by simp⟩) x e y h
 have hl:(gn nm ls x.1).length≤7:=by
  unfold gn
  split <;> simp
 omega
theorem sy{A A':Ab}{nm:ByteArray}{e:Nat}{j:JN}(h:nY A nm e A' j):A'.aq.length≤A.aq.length+7∧A'.writes.length≤A.writes.length+7:=by
 unfold nY at h
 split at h
 ·rw[h.2];omega
 split at h
 ·rw[h.2];omega
 obtain⟨y,hy,rfl,_⟩:=h
 exact u0 hy
theorem KA(s:eU)(z:TC × List (List UInt8))(hz:jZ z.1)(i:Nat)(hi:i≤1000000000000):(∀x∈(kM s z i).2,x∈z.2∨x.length≤760)∧(kM s z i).2.length≤z.2.length+1:=by
 unfold kM
 split
 ·split
  ·exact⟨fun x hx => .inl hx,by simp only;omega⟩
  ·rename_i iZ
   refine⟨fun x hx=>?_,by simp⟩
   rcases List.mem_append.1 hx with hx|hx
   ·exact .inl hx
   ·right
    rw[List.mem_singleton.1 hx]
    have pT:((z.1.pf i).getD []).length≤10:=by
     cases hp:z.1.pf i with
     | none=>simp
     | some l=>exact hz.2.2.2 _ l hp
    have:=gQ 2 z.1.x.d (eo i ((z.1.pf i).getD [])) (by simp[eo];omega) (kh i hi _)
    unfold bF
    unfold eo at this
    omega
 ·exact⟨fun x hx => .inl hx,ah⟩
theorem AG(s:eU)(c:TC)(hc:jZ c)(hr:bo c.x=true):∀k,k≤1024→(∀x∈(iu s c k).2,x.length≤760)∧(iu s c k).2.length≤k+1
 | 0,_=>by
  refine⟨fun x hx=>?_,by simp[iu]⟩
  have:x=bR c.x:=by simpa[iu]using hx
  rw[this]
  have hb:=df hr
  have:=gQ 1 c.x.d (gM c.x) (by simp[gM]) (kq c.x ah ah)
  unfold bR
  omega
 | k+1,hk=>by
  obtain⟨h1,h2⟩:=AG s c hc hr k ah
  rw[lU]
  obtain⟨h3,h4⟩:=KA s (iu s c k) (hc.hold k) k ah
  refine⟨fun x hx=>?_,ah⟩
  rcases h3 x hx with h|h
  ·exact h1 x h
  ·exact h
theorem KB(s:eU)(c:TC)(h:Ma c):(∀x∈(j0 s c).2,x.length≤760)∧(j0 s c).2.length≤1025:=by
 obtain⟨h1,h2⟩:=AG s c h.1 h.2 c.n h.1.1
 have:=h.1.1
 exact⟨h1,by unfold j0;omega⟩
theorem yw:∀(ls:List (List UInt8)) (n:Nat),(∀x∈ls,x.length≤760)→ls.length≤n→(ls.flatMap aR).length≤770*n
 | [],n,_,_=>by simp
 | x::ls,n,h,hn=>by
  rw[List.length_cons]at hn
  have:=yw ls (n-1) (fun y hy=>h y (List.mem_cons_of_mem _ hy)) ah
  have h1:=h x (List.mem_cons_self ..)
  have h2:=nQ x ah
  rw[List.flatMap_cons,List.length_append]
  omega
end Go.Proofs.YtedjnjkijiddlaaGreatDoor
