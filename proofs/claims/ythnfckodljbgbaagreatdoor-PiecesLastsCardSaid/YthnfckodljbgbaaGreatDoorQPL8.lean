import Derived.Test.YthnfckodljbgbaaGreatDoorQPL3
import Derived.Test.YthnfckodljbgbaaGreatDoorQPL5
import Derived.Test.YthnfckodljbgbaaGreatDoorQPL6
import Derived.Test.YthnfckodljbgbaaGreatDoorQPL7
set_option linter.unusedSimpArgs false
set_option linter.unusedVariables false
set_option maxHeartbeats 1000000
set_option maxRecDepth 20000
set_option linter.defProp false
namespace Go.Proofs.YthnfckodljbgbaaGreatDoor
open Go Go.SL
attribute [local irreducible] J K aD Ends ae aF aL bU bo aU bh bq cg
theorem Ha{σ:Type}(I:σ→HP)(V:HP)(v:Value)(lS:List Value)(hv:Vw V v lS.length lS)(hn:lS.length≤1000000000)(ss:List (σ→Nat→σ→Prop))(hlen:ss.length=lS.length)(Q:Nat→σ→Prop)(bP:∀(i:Nat) (fv:Value) (s:σ→Nat→σ→Prop),lS[i]?=some fv→ss[i]?=some s→∃g fi cap,fv = .func (.func g) fi cap∧∀x,Q i x→aD Tryz.prog g (fi.toList++cap.toList) [I x] (fun r H=>∃(e:Nat) (x':σ),r = .int .i64 (e:Int)∧H=[I x']∧s x e x'∧(e=0→Q (i+1) x')))(x0:σ)(hQ:Q 0 x0) :
  aD Tryz.prog 60 [v] [V,I x0] (fun r H=>∃(e:Nat) (x':σ),r = .int .i64 (e:Int)∧H=[V,I x']∧gi ss x0 e x'∧(e=0→Q lS.length x')):=by
 obtain⟨a,c,rfl⟩:=hv.shape
 refine aD.aw Tryz.func60 Tryz.ntmps60 fun G F R hE=>?_
 refine go ?_
 refine bB (fun y:Nat × σ=>y.1≤lS.length∧Q y.1 y.2∧∀e x',gi (ss.drop y.1) y.2 e x'→gi ss x0 e x') (fun y=>lS.length-y.1)
  (fun y=>[(0,.slice a lS.length c),(6,.slice a lS.length c),(7,.int .i64 (lS.length:Int)),(8,.int .i64 (y.1:Int))])
  (fun y=>V::I y.2::F) (0,x0) ⟨Nat.zero_le _,hQ,fun _ _ h=>h⟩ rfl ck ah ?_
 rintro⟨i,x⟩⟨hi,hq,hr⟩ ih
 simp only at hi hq hr
 refine go ?_
 refine au zr zr ?_ ?_
 ·intro dJ
  simp only at dJ
  have me:i<lS.length:=by omega
  obtain⟨fv,nH⟩:∃fv,lS[i]?=some fv:=⟨lS[i],List.getElem?_eq_getElem me⟩
  obtain⟨s,hs⟩:∃s,ss[i]?=some s:=⟨ss[i],List.getElem?_eq_getElem ag⟩
  obtain⟨g,fi,cap,rfl,hc⟩:=bP i fv s nH hs
  have mU:ss.drop i=s::ss.drop (i+1):=by
   rw[List.drop_eq_getElem_cons ag]
   grind
  obtain⟨b0,o0,c0,pH⟩:=hv.some (by intro h;rw[h]at me;simp at me)
  simp only[Value.slice.injEq]at pH
  obtain⟨rfl,-,rfl⟩:=pH
  refine go ?_
  refine bR i zr zr zr zr zr zr zr zr me ?_
  refine aX 0 i zr zr zr hv rfl nH zr zr (go ?_)
  refine vC zr zr zr (by simp) (hc x hq) ah ?_ nq
  rintro _ _⟨e,x',rfl,rfl,M1,Ey⟩
  refine go ?_
  refine au zr zr ?_ ?_
  ·intro df
   have he:e≠0:=by omega
   refine go ?_
   ((refine ad hE Tryz.func60 zr zr ⟨e,x',rfl,rfl,hr e x' (by rw[mU];exact⟨e,x',M1,.inl ⟨he,rfl,rfl⟩⟩),fun h=>absurd h he⟩))
  ·intro heq
   have he:e=0:=by omega
   refine go ?_
   refine aM ih (i+1,x') rfl (⟨by simp only;omega,Ey he,fun e2 x2 h2=>hr e2 x2 (by rw[mU];exact⟨e,x',M1,.inr ⟨he,h2⟩⟩)⟩) (by simp only;omega) ck ah
 ·intro fO
  simp only at fO
  have gz:i=lS.length:=by omega
  subst gz
  refine go ?_
  ((refine ad hE Tryz.func60 zr zr ⟨0,x,rfl,rfl,hr 0 x (by rw[List.drop_eq_nil_of_le ag];exact⟨rfl,rfl⟩),fun _=>hq⟩))
attribute [local irreducible] Sha.chunks Sha.chunk Sha.rounds Sha.sched dW cy GI cS
def vr(bd:Nat)(A:Ab):aD Tryz.prog 58 [ptr bd] [aE bd A] (fun r H=>H=[aF 9 1 r (gh A).length ((gh A).map Value.string),aE bd A]):=by
 have hl:(gh A).length=(eP A).length:=by unfold gh;rw[List.length_map,vU]
 have hm:(gh A).map Value.string=nS (qs (eP A)):=by unfold gh nS;rw[List.map_map];rfl
 rw[hl,hm]
 exact iz (Post:=fun v H=>∃D,Rel D A∧H=[aF 9 1 v (eP A).length (nS (qs (eP A))),gY bd D]) aq (fun D hR=>(Oh bd D A hR).post (fun v H h=>⟨D,hR,h⟩)) (by rintro v H⟨D',hR,rfl⟩;exact⟨_,rfl,ak.cons _ (gR hR [])⟩)
attribute [local irreducible] aE
def tp{A:Ab}(h:LR A):(gh A).length≤200:=by
 unfold gh eP
 rw[List.length_map,vU,List.length_map]
 exact h.fF _ (List.mem_cons_self ..)
def n9(bs bd:Nat)(q:Int)(mb:Nat)(brk:Bool)(X:HP)(A:Ab):HP:=Sep [ae bs (cl (eR bd q mb brk) 113),aE bd A,X]
def n6{A B:Ab}{nm:ByteArray}{e:Nat}(h:gL nm A e B):kM A B:=by
 have:=qH A (isName nm) nm
 rw[← h]at this
 exact this
theorem vX(bs bd:Nat)(q:Int)(mb:Nat)(brk:Bool)(X:HP)(kind:List UInt8)(hk:kind.length≤1000)(g:FuncId)(fi:List Value)(right:Ab→Dg→Bool)(hr:Ec g fi (n9 bs bd q mb brk X) right)(A:Ab)(bP:A.aj.length≤900000000) :
  aD Tryz.prog 62 [ptr bs,.string (strOf kind),.func (.func g) fi.toArray #[] ] [n9 bs bd q mb brk X A]
  (fun r H=>∃(e:Nat) (B:Ab),r = .int .i64 (e:Int)∧H=[n9 bs bd q mb brk X B]∧eQ kind right A e B∧B.aj.length≤A.aj.length+200):=by
 refine aD.aw Tryz.func62 Tryz.ntmps62 fun G F R hE=>?_
 refine ai (ak.cK [_,_,_] _) ?_
 refine vt (bd:=bd) (A:=A) 1 rfl ?_
 intro Jm
 have QZ:=tp Jm
 obtain⟨l,hl⟩:∃l,l=gh A:=⟨_,rfl⟩
 have hsd:∀e B,nh kind right l A e B→eQ kind right A e B:=fun e B h=>by unfold eQ;rw[← hl];exact h
 refine go ?_
 have oG:=vr bd A
 rw[← hl]at oG QZ
 refine aI oG ?_
 rintro r _ rfl
 refine aP 0 rfl ?_
 rintro ra rc rfl
 refine jt 0 rfl ?_
 intro dO
 refine go ?_
 refine bB (fun y:Nat × Ab=>y.1≤l.length∧y.2.aj.length≤A.aj.length+y.1∧∀e B,nh kind right (l.drop y.1) y.2 e B→eQ kind right A e B) (fun y=>l.length-y.1)
  (fun y=>[(0,ptr bs),(1,.string (strOf kind)),(2,.func (.func g) fi.toArray #[]),(16,.slice ra l.length rc),(17,.int .i64 (l.length:Int)),(18,.int .i64 (y.1:Int))])
  (fun y=>aF 9 1 (.slice ra l.length rc) l.length (l.map Value.string)::ae bs (cl (eR bd q mb brk) 113)::aE bd y.2::X::F) (0,A) ⟨Nat.zero_le _,by simp,hsd⟩ rfl ck ah ?_
 rintro⟨i,B⟩⟨hi,VG,TE⟩ ih
 simp only at hi VG TE
 dsimp only
 refine go ?_
 refine au zr zr ?_ ?_
 ·intro dJ
  have gz:i<l.length:=by omega
  obtain⟨nm,hx⟩:∃x,l[i]?=some x:=⟨l[i],by simp⟩
  have mU:l.drop i=nm::l.drop (i+1):=by
   rw[List.drop_eq_getElem_cons gz]
   grind
  rw[mU]at TE
  have dK:(l.map Value.string)[i]?=some (.string nm):=by rw[List.getElem?_map,hx];rfl
  obtain⟨b,o,gZ,fL⟩:=dO.some (by intro h;rw[h]at dK;simp at dK)
  simp only[Value.slice.injEq]at fL
  obtain⟨rfl,_,rfl⟩:=fL
  refine go ?_
  refine bZ i 1 zr zr zr zr zr zr zr zr gz ?_
  refine aK ?_
  refine aX 0 (i*1) zr zr zr dO rfl (by rw[Nat.mul_one];exact dK) zr zr ?_
  refine go ?_
  refine aN (Gv kind nm hk) ?_
  cases hh:j0 kind nm with
  | none =>
   have M4:∀e B',nh kind right (l.drop (i+1)) B e B'→eQ kind right A e B':=fun e B' h=>TE e B' (by unfold nh;rw[hh];exact h)
   simp only[Gw]
   unfold dV
   refine go ?_
   refine aC zr zr zr bE ?_
   intro b9
   refine go ?_
   refine aM ih (i+1,B) rfl ⟨by simp only;omega,by simp only;omega,M4⟩ (by simp only;omega) ck ah
  | some d =>
   have QP:=hr B d
   simp only[Gw]
   unfold dV
   refine go ?_
   refine aC zr zr zr bE ?_
   intro b9
   refine go ?_
   refine aH (U:=aR) (l:=dC d) 0 zr zr zr zr zr zr (go ?_)
   refine aJ (ak.trans (ak.pick [2,3,4] rfl) (ak.bX [ae bs (cl (eR bd q mb brk) 113),aE bd B,X] _)) ?_
   refine vC zr zr zr (by simp;rfl) QP ah ?_ nq
   rintro _ _⟨rfl,rfl⟩
   refine aJ (ak.cK [ae bs (cl (eR bd q mb brk) 113),aE bd B,X] _) ?_
   cases hri:right B d with
   | true =>
    have M4:∀e B',nh kind right (l.drop (i+1)) B e B'→eQ kind right A e B':=fun e B' h=>TE e B' (by unfold nh;rw[hh];simp only;rw[if_pos hri];exact h)
    refine go ?_
    refine aM ih (i+1,B) rfl ⟨by simp only;omega,by simp only;omega,M4⟩ (by simp only;omega) ck ah
   | false =>
    have acu:=wY bd B nm ag
    obtain⟨e1,B1,TH⟩:∃e1 B1,B.remove (isName nm) nm=(e1,B1):=⟨_,_,rfl⟩
    rw[TH]at acu
    have hgr:=n6 (A:=B) (B:=B1) (nm:=nm) (e:=e1) TH.symm
    have M4:∀e B',((e1≠0∧e=e1∧B'=B1)∨(e1=0∧nh kind right (l.drop (i+1)) B1 e B'))→eQ kind right A e B':=fun e B' h=>TE e B' (by unfold nh;rw[hh];simp only;rw[if_neg (by rw[hri];simp)];exact⟨e1,B1,TH.symm,h⟩)
    have Sz:=hgr.1
    refine go ?_
    refine aN acu ?_
    refine go ?_
    refine au zr zr ?_ ?_
    ·intro df
     have jK:e1≠0:=by simp only at df;omega
     refine go ?_
     refine ai (H':=n9 bs bd q mb brk X B1::F) (ak.trans (H2:=ae bs (cl (eR bd q mb brk) 113)::aE bd B1::X::F) ah (ak.bX [ae bs (cl (eR bd q mb brk) 113),aE bd B1,X] _)) ?_
     refine ad hE Tryz.func62 zr zr ⟨e1,B1,rfl,rfl,M4 e1 B1 (.inl ⟨jK,rfl,rfl⟩),ag⟩
    ·intro heq
     have uO:e1=0:=by simp only at heq;omega
     refine go ?_
     refine aM ih (i+1,B1) rfl ⟨by simp only;omega,by simp only;omega,fun e B' h=>M4 e B' (.inr ⟨uO,h⟩)⟩ (by simp only;omega) ck ah
 ·intro fO
  have tR:i=l.length:=by omega
  rw[tR,List.drop_length]at TE
  refine go ?_
  refine ai (H':=n9 bs bd q mb brk X B::F) (ak.trans (H2:=ae bs (cl (eR bd q mb brk) 113)::aE bd B::X::F) ah (ak.bX [ae bs (cl (eR bd q mb brk) 113),aE bd B,X] _)) ?_
  ((refine ad hE Tryz.func62 zr zr ⟨0,B,rfl,rfl,TE 0 B (by unfold nh;exact⟨rfl,rfl⟩),ag⟩))
def Lq{P:Program}{f:FuncId}{args:List Value}{l:List HP}{p:Value→Prop}(h:aD P f args l (fun r H=>p r∧H=l)):aD P f args [Sep l] (fun r H=>p r∧H=[Sep l]) :=
 h.conv (by have:=ak.cK l [];rwa[List.append_nil]at this) (by intro v H hh;obtain⟨hp,hH⟩:=hh;exact⟨[Sep l],⟨hp,rfl⟩,by rw[hH];have:=ak.bX l [];rwa[List.append_nil]at this⟩)
def IF(X:HP)(hK:oZ X)(bs bd:Nat)(q:Int)(mb:Nat)(brk:Bool):Ec 63 [ptr bs] (n9 bs bd q mb brk X) jS:=fun A d=>Lq (p:=fun r=>r = .bool (jS A d)) (BF X hK bs bd q mb brk A d)
def Bf(X:HP)(hK:oZ X)(bs bd:Nat)(q:Int)(mb:Nat)(brk:Bool):Ec 66 [ptr bs] (n9 bs bd q mb brk X) gk:=fun A d=>Lq (p:=fun r=>r = .bool (gk A d)) (DW X hK bs bd q mb brk A d)
def IG(Y:Ab→HP):Ec 59 [] Y (fun _ _=>false):=fun A d=>by
 show aD Tryz.prog 59 [dV d] [Y A] _
 unfold dV
 refine aD.aw Tryz.func59 Tryz.ntmps59 fun G F R hE=>?_
 refine aB rfl ?_
 refine bG zr zr bE ?_
 intro b1
 refine go ?_
 refine ad hE Tryz.func59 zr zr ⟨rfl,rfl⟩
def Qc(bs bd b6 b8:Nat)(q:Int)(mb:Nat)(X:HP)(A:Ab):HP:=Sep [n9 bs bd q mb false X A,ae b6 (cl [ptr bs] 30),ae b8 (cl [.func (.func 59) #[] #[] ] 116)]
def MA(X:HP)(hK:oZ X)(bs bd b6 b8:Nat)(q:Int)(mb:Nat)(A:Ab)(bP:A.aj.length≤900000000):aD Tryz.prog 61 [ptr b6] [Qc bs bd b6 b8 q mb X A]
  (fun r H=>∃(e:Nat) (B:Ab),r = .int .i64 (e:Int)∧H=[Qc bs bd b6 b8 q mb X B]∧eQ kB jS A e B∧B.aj.length≤A.aj.length+200):=by
 refine aD.aw Tryz.func61 Tryz.ntmps61 fun G F R hE=>?_
 refine ai (ak.cK [_,_,_] _) (go ?_)
 refine aI (vX bs bd q mb false X kB (by decide) _ [ptr bs] jS (IF X hK bs bd q mb false) A bP) ?_
 rintro _ _⟨e,B,rfl,rfl,h1,h2⟩
 refine go ?_
 refine ai (ak.bX [n9 bs bd q mb false X B,_,_] _) ?_
 refine ad hE Tryz.func61 zr zr ⟨e,B,rfl,rfl,h1,h2⟩
def Mz(X:HP)(bs bd b6 b8:Nat)(q:Int)(mb:Nat)(A:Ab)(bP:A.aj.length≤900000000):aD Tryz.prog 64 [ptr b6,ptr b8] [Qc bs bd b6 b8 q mb X A]
  (fun r H=>∃(e:Nat) (B:Ab),r = .int .i64 (e:Int)∧H=[Qc bs bd b6 b8 q mb X B]∧eQ kN (fun _ _=>false) A e B∧B.aj.length≤A.aj.length+200):=by
 refine aD.aw Tryz.func64 Tryz.ntmps64 fun G F R hE=>?_
 refine ai (ak.cK [_,_,_] _) (go ?_)
 refine aI (vX bs bd q mb false X kN (by decide) _ [] (fun _ _=>false) (IG _) A bP) ?_
 rintro _ _⟨e,B,rfl,rfl,h1,h2⟩
 refine go ?_
 refine ai (ak.bX [n9 bs bd q mb false X B,_,_] _) ?_
 refine ad hE Tryz.func64 zr zr ⟨e,B,rfl,rfl,h1,h2⟩
def My(X:HP)(hK:oZ X)(bs bd b6 b8:Nat)(q:Int)(mb:Nat)(A:Ab)(bP:A.aj.length≤900000000):aD Tryz.prog 65 [ptr b6] [Qc bs bd b6 b8 q mb X A]
  (fun r H=>∃(e:Nat) (B:Ab),r = .int .i64 (e:Int)∧H=[Qc bs bd b6 b8 q mb X B]∧eQ kI gk A e B∧B.aj.length≤A.aj.length+200):=by
 refine aD.aw Tryz.func65 Tryz.ntmps65 fun G F R hE=>?_
 refine ai (ak.cK [_,_,_] _) (go ?_)
 refine aI (vX bs bd q mb false X kI (by decide) _ [ptr bs] gk (Bf X hK bs bd q mb false) A bP) ?_
 rintro _ _⟨e,B,rfl,rfl,h1,h2⟩
 refine go ?_
 refine ai (ak.bX [n9 bs bd q mb false X B,_,_] _) ?_
 refine ad hE Tryz.func65 zr zr ⟨e,B,rfl,rfl,h1,h2⟩
def eb(l:List (Dg × Bl)):List (Dg × Value):=l.map fun x=>(x.1,dG x.2)
theorem pA(A:Ab):(gh A).length=A.names.length:=by unfold gh eP;rw[List.length_map,vU,List.length_map]
theorem Oe(X:HP)(hK:oZ X)(bd:Nat)(q:Int)(A:Ab)(bP:A.aj.length≤800000000):aD Tryz.prog 20 [ptr bd,.int .i64 q] [aE bd A,X]
  (fun r H=>((q<1∨1073741824<q)∧r = .tuple #[.pointer none,.int .i64 1]∧H=[aE bd A,X])∨(¬(q<1∨1073741824<q)∧A.off=true∧r = .tuple #[.pointer none,.int .i64 7]∧H=[aE bd A,X]) ∨
   (¬(q<1∨1073741824<q)∧A.off=false∧∃(e:Nat) (B:Ab),sH A e B∧((e≠0∧r = .tuple #[.pointer none,.int .i64 (e:Int)]∧H=[aE bd B,X]) ∨
    (e=0∧B.aj.length≤A.aj.length+601∧∃bs mb,r = .tuple #[ptr bs,.int .i64 0]∧H=[ae bs (cl (eR bd q mb false) 113),aL dV mb (eb []),aE bd B,X])))):=by
 refine aD.aw Tryz.func20 Tryz.ntmps20 fun G F R hE=>?_
 refine vt (bd:=bd) (A:=A) 0 rfl ?_
 intro Jm
 repeat'(first|(with_reducible intro p6)|refine eZ ?_|refine hJ zr zr zr zr ?_ ?_|refine au zr zr ?_ ?_|(refine aI (J6 bd A) ?_;rintro _ _⟨rfl,rfl⟩))
 ·refine ad hE Tryz.func20 zr zr (.inl ⟨.inl ag,rfl,rfl⟩)
 ·refine ad hE Tryz.func20 zr zr (.inl ⟨.inr ag,rfl,rfl⟩)
 have hq:¬(q<1∨1073741824<q):=by omega
 cases iw:A.off with
 | true =>
  refine go ?_
  refine ad hE Tryz.func20 zr zr (.inr (.inl ⟨hq,iw,rfl,rfl⟩))
 | false =>
  rw[iw]at hE
  refine go ?_
  refine j9 rfl bE ?_
  intro mb
  refine aJ (ak.fold (B:=[_]) (A:=aL dV mb (eb [])) (fun h hs=>⟨h,sub.refl h,lG dV mb h (ez hs)⟩)) ?_
  refine go ?_
  refine bG zr zr bE ?_
  intro bs
  refine aC zr zr zr bE ?_
  intro b6
  refine go ?_
  refine aI (vr bd A) ?_
  rintro r _ rfl
  refine aP 0 rfl ?_
  rintro ra rc rfl
  refine go ?_
  refine aC zr zr zr bE ?_
  intro b8
  refine go ?_
  refine ao (cs:=[.func (.func 61) #[] #[ptr b6],.func (.func 64) #[] #[ptr b6,ptr b8],.func (.func 65) #[] #[ptr b6] ]) zr zr zr zr zr zr zr zr zr bE ?_
  intro row
  refine aJ (H':=ae row (cl [.func (.func 61) #[] #[ptr b6],.func (.func 64) #[] #[ptr b6,ptr b8],.func (.func 65) #[] #[ptr b6] ] 83)::Qc bs bd b6 b8 q mb X A::aL dV mb (eb [])::F) (ak.trans (H2:=ae bs (cl (eR bd q mb false) 113)::aE bd A::X::ae b6 (cl [ptr bs] 30)::ae b8 (cl [.func (.func 59) #[] #[] ] 116)::ae row (cl [.func (.func 61) #[] #[ptr b6],.func (.func 64) #[] #[ptr b6,ptr b8],.func (.func 65) #[] #[ptr b6] ] 83)::aL dV mb (eb [])::F) ah (ak.trans (ak.bX [ae bs (cl (eR bd q mb false) 113),aE bd A,X] _) (ak.trans (ak.bX [n9 bs bd q mb false X A,ae b6 (cl [ptr bs] 30),ae b8 (cl [.func (.func 59) #[] #[] ] 116)] _) ah))) ?_
  have wy:∀(i:Nat) (fv:Value) (sp:Ab→Nat→Ab→Prop),[.func (.func 61) #[] #[ptr b6],.func (.func 64) #[] #[ptr b6,ptr b8],.func (.func 65) #[] #[ptr b6] ][i]?=some fv→[eQ kB jS,eQ kN (fun _ _=>false),eQ kI gk][i]?=some sp→∃g fi cap,fv = .func (.func g) fi cap∧∀x:Ab,x.aj.length≤A.aj.length+200*i→aD Tryz.prog g (fi.toList++cap.toList) [Qc bs bd b6 b8 q mb X x] (fun r H=>∃(e:Nat) (x':Ab),r = .int .i64 (e:Int)∧H=[Qc bs bd b6 b8 q mb X x']∧sp x e x'∧(e=0→x'.aj.length≤A.aj.length+200*(i+1))):=by
   intro i fv sp hi hs
   match i,hi,hs with
   | 0,hi,hs =>
    cases hi;cases hs
    refine⟨_,_,_,rfl,fun x hx=>(MA X hK bs bd b6 b8 q mb x ag).post ?_⟩
    grind
   | 1,hi,hs =>
    cases hi;cases hs
    refine⟨_,_,_,rfl,fun x hx=>(Mz X bs bd b6 b8 q mb x ag).post ?_⟩
    grind
   | 2,hi,hs =>
    cases hi;cases hs
    refine⟨_,_,_,rfl,fun x hx=>(My X hK bs bd b6 b8 q mb x ag).post ?_⟩
    grind
   | k+3,hi,hs=>simp at hi
  have iy:=Ha (Qc bs bd b6 b8 q mb X) (ae row (cl [.func (.func 61) #[] #[ptr b6],.func (.func 64) #[] #[ptr b6,ptr b8],.func (.func 65) #[] #[ptr b6] ] 83)) (.slice (some ⟨row,0,none⟩) 3 3) [.func (.func 61) #[] #[ptr b6],.func (.func 64) #[] #[ptr b6,ptr b8],.func (.func 65) #[] #[ptr b6] ] (Vw.ae rfl) (by show 3≤_;omega) [eQ kB jS,eQ kN (fun _ _=>false),eQ kI gk] rfl (fun i x=>x.aj.length≤A.aj.length+200*i) wy A (by simp)
  refine aI iy ?_
  rintro _ _⟨e,B,rfl,rfl,cX,hb⟩
  refine aJ (H':=ae bs (cl (eR bd q mb false) 113)::aE bd B::X::ae b6 (cl [ptr bs] 30)::aL dV mb (eb [])::F) (ak.trans (H2:=Qc bs bd b6 b8 q mb X B::aL dV mb (eb [])::F) ah (ak.trans (ak.cK [n9 bs bd q mb false X B,ae b6 (cl [ptr bs] 30),ae b8 (cl [.func (.func 59) #[] #[] ] 116)] _) (ak.trans (ak.cK [ae bs (cl (eR bd q mb false) 113),aE bd B,X] _) ah))) ?_
  by_cases he:e=0
  ·subst he
   have Le:=hb rfl
   simp only[List.length_cons,List.length_nil]at Le
   refine go ?_
   refine aI (vr bd B) ?_
   rintro r2 _ rfl
   refine aP 0 rfl ?_
   rintro ra2 rc2 rfl
   refine go ?_
   refine au zr zr ?_ ?_
   ·intro dJ
    have x8:B.names.length<A.names.length:=by
     grind [pA]
    have H4:=pT bd B
    obtain⟨e2,B2,Zq⟩:∃e2 B2,B.cp=(e2,B2):=⟨_,_,rfl⟩
    rw[Zq]at H4
    have mR:sH A e2 B2:=⟨0,B,cX,by rw[if_pos ⟨rfl,x8⟩];exact Zq.symm⟩
    refine go ?_
    refine aN H4 ?_
    refine go ?_
    refine au zr zr ?_ ?_
    ·intro df
     have jK:e2≠0:=by simp only at df;omega
     refine go ?_
     refine ad hE Tryz.func20 zr zr (.inr (.inr ⟨hq,rfl,e2,B2,mR,.inl ⟨jK,rfl,rfl⟩⟩))
    ·intro heq
     have uO:e2=0:=by simp only at heq;omega
     subst uO
     have hg:B2.aj.length≤B.aj.length+1:=by
      have h1:B2=B.cp.2:=by rw[Zq]
      rw[h1]
      exact(kD B).1
     refine go ?_
     refine ai (H':=ae bs (cl (eR bd q mb false) 113)::aL dV mb (eb [])::aE bd B2::X::F) ah ?_
     refine ad hE Tryz.func20 zr zr (.inr (.inr ⟨hq,rfl,0,B2,mR,.inr ⟨rfl,ag,bs,mb,rfl,rfl⟩⟩))
   ·intro fO
    have x8:¬B.names.length<A.names.length:=by
     grind [pA]
    have mR:sH A 0 B:=⟨0,B,cX,by rw[if_neg ag];exact⟨rfl,rfl⟩⟩
    refine go ?_
    refine ai (H':=ae bs (cl (eR bd q mb false) 113)::aL dV mb (eb [])::aE bd B::X::F) ah ?_
    refine ad hE Tryz.func20 zr zr (.inr (.inr ⟨hq,rfl,0,B,mR,.inr ⟨rfl,ag,bs,mb,rfl,rfl⟩⟩))
  ·have mR:sH A e B:=⟨e,B,cX,by rw[if_neg ag];exact⟨rfl,rfl⟩⟩
   refine go ?_
   have hd:decide ((e:Int)=0)=false:=by simp;exact he
   rw[hd]
   refine go ?_
   refine au zr zr ?_ ?_
   ·intro _
    refine go ?_
    refine ai (H':=aE bd B::X::F) ah ?_
    refine ad hE Tryz.func20 zr zr (.inr (.inr ⟨hq,rfl,e,B,mR,.inl ⟨he,rfl,rfl⟩⟩))
   ·intro h0
    exact absurd (by omega:e=0) he
end Go.Proofs.YthnfckodljbgbaaGreatDoor
namespace Go.Proofs.YthnfckodljbgbaaGreatDoor
open Go Go.SL
attribute [local irreducible] J K aD Ends ae aF aL bU bo
section
variable{P:Program}{U:Tr}[hU:gq P U]{f:FuncId}{n:Nat}{R:Ending→World→Prop}{G:cQ}{k:List Item}{L:fY}{H H':List HP}{all:Array Oper}{rest:Pl}{ty:TypeId}{pos:String}{af:Array Edge}{gd:Option (Nat × Bool)}{d:Tmp}
theorem cJ{Hs:List HP}{t:TypeId}{x:Operand}{b off:Nat}{bY:Ty}{l:List Value}{e:TypeId}{cs:List Value}(i:Nat)(hd:Nat.blt d n=true)(hx:ev L x=some (.pointer (some ⟨b,off,none⟩)))(hi:cM Hs i=some (ae b (cl l e)))(ht:U.get t=some bY)(hg:bY.isAgg=true)(hv:ue l off bY.info.size [] = .mk cs)(h:J P f n R G (fun w=>Sat G w Hs) all rest k ((d,.agg cs.toArray)::L) H):J P f n R G (fun w=>Sat G w Hs) all (.cons true true ⟨some d,.load t x,ty,pos,af,gd⟩ rest) k L H :=
 mi hd (fun a w ha hw=>by
  obtain⟨h1,h2⟩:=EW _ _ _ _ _ hv
  simp only[List.reverse_nil,List.nil_append]at h1
  have hc:∀j v,cs[j]?=some v→w.cell? ⟨b,off+j,none⟩=some v:=fun j v hj=>by
   grind [ea,Sat.uV]
  have:=iP (P:=P) ht hg (by rw[h1];simp;omega) hc
  simp[execOp,ha.ev hx,this]) h
end
end Go.Proofs.YthnfckodljbgbaaGreatDoor
namespace Go.Proofs.YthnfckodljbgbaaGreatDoor
open Go Go.SL
attribute [local irreducible] J K aD Ends ae aF aL bU bo aU bh bq cg Sha.chunks Sha.chunk Sha.rounds Sha.sched dW cy GI cS aE
section
variable{P:Program}{U:Tr}[hU:gq P U]{f:FuncId}{n:Nat}{R:Ending→World→Prop}{G:cQ}{k:List Item}{L:fY}{H H':List HP}{all:Array Oper}{rest:Pl}{ty:TypeId}{pos:String}{af:Array Edge}{gd:Option (Nat × Bool)}{d:Tmp}
end
def UX(bs bd:Nat)(q:Int)(mb:Nat)(brk:Bool)(A:Ab)(d:Dg):aD Tryz.prog 76 [ptr bs,dV d] [ae bs (cl (eR bd q mb brk) 113),aE bd A]
  (fun r H=>r = .bool (pK A (dv kB d))∧H=[ae bs (cl (eR bd q mb brk) 113),aE bd A]):=by
 have hf:=oO kB d (by decide)
 unfold dV at hf ⊢
 refine aD.aw Tryz.func76 Tryz.ntmps76 fun G F R hE=>?_
 refine aB rfl ?_
 refine bG zr zr bE ?_
 intro b3
 refine go ?_
 refine aH (U:=aR) (l:=dC d) 0 zr zr zr zr zr zr ?_
 refine aN hf ?_
 refine aN (QF bs bd q mb brk A (dv kB d)) ?_
 refine go ?_
 refine ad hE Tryz.func76 zr zr ⟨rfl,rfl⟩
def pX(l:List (Dg × Bl))(x:Bl):Bool:=decide (gT l x.d=some x)
theorem wS(l:List (Dg × Bl))(d:Dg):dP (eb l) d=(gT l d).map dG:=by
 unfold eb gT dP
 induction l with
 | nil=>rfl
 | cons y l ih =>
  grind
def FN(bs bd:Nat)(q:Int)(mb:Nat)(brk:Bool)(l:List (Dg × Bl))(x:Bl):aD Tryz.prog 154 [ptr bs,dG x] [ae bs (cl (eR bd q mb brk) 113),aL dV mb (eb l)]
  (fun r H=>r = .bool (pX l x)∧H=[ae bs (cl (eR bd q mb brk) 113),aL dV mb (eb l)]):=by
 unfold dG
 refine aD.aw Tryz.func154 Tryz.ntmps154 fun G F R hE=>?_
 refine aB rfl ?_
 refine bG zr zr bE ?_
 intro b3
 refine go ?_
 refine aG (fun w=>Sat G w ([ae b3 (cl (bH x) 39),ae bs (cl (eR bd q mb brk) 113),aL dV mb (eb l)])) (dj 0 10 (.act 10 (.act 11 (.st 12 .nil)))) rfl aq aq aq eo ?_
 refine go ?_
 refine cJ (U:=aR) 0 zr zr zr zr zr zr (go ?_)
 refine re (U:=aR) (es:=eb l) (key:=x.d) rfl Tt zr zr zr zr zr zr zr (fun w hw=>hw.l4 (i:=2) rfl) ?_
 rw[wS]
 cases hb:gT l x.d with
 | none =>
  simp only[Option.map_none,Option.getD_none,Option.isSome_none]
  refine go ?_
  refine aC zr zr zr (fun _ w hw=>hw.cL ah) ?_
  intro b5
  refine go ?_
  (refine aV ?_;(refine cF 0 eo zr zr zr zr zr zr zr zr zr ?_))
  refine go ?_
  have hw:pX l x=false:=by unfold pX;rw[hb];rfl
  rw[hw]at hE
  refine ad hE Tryz.func154 zr zr ⟨rfl,rfl⟩
 | some y =>
  simp only[Option.map_some,Option.getD_some,Option.isSome_some]
  unfold dG
  refine go ?_
  refine aC zr zr zr (fun _ w hw=>hw.cL ah) ?_
  intro b5
  refine go ?_
  (refine aV ?_;(refine cF 0 eo zr zr zr zr zr zr zr zr zr ?_))
  refine go ?_
  have hw:pX l x=decide (x=y):=by unfold pX;rw[hb];simp only[Option.some.injEq];rw[decide_eq_decide];exact eq_comm
  rw[hw]at hE
  (repeat(first|refine eZ ?_|refine aH (U:=aR) (l:=bH x) 1 zr zr zr zr zr zr ?_|refine aH (U:=aR) (l:=bH y) 0 zr zr zr zr zr zr ?_|refine lC (b:=decide (x=y)) zr zr zr aag (fun w=>Uw x y w) ?_))
  refine ad hE Tryz.func154 zr zr ⟨rfl,rfl⟩
def pB(brk:Bool)(l:List (Dg × Bl))(x:Bl):Nat:=if brk then 10 else if pX l x then 0 else 4
def uC(bs bd:Nat)(q:Int)(mb:Nat)(brk:Bool)(l:List (Dg × Bl))(x:Bl):aD Tryz.prog 93 [ptr bs,dG x] [ae bs (cl (eR bd q mb brk) 113),aL dV mb (eb l)]
  (fun r H=>r = .int .i64 (pB brk l x:Int)∧H=[ae bs (cl (eR bd q mb brk) 113),aL dV mb (eb l)]):=by
 have ho:=FN bs bd q mb brk l x
 unfold dG at ho ⊢
 refine aD.aw Tryz.func93 Tryz.ntmps93 fun G F R hE=>?_
 refine aB rfl ?_
 refine bG zr zr bE ?_
 intro b3
 cases brk with
 | true =>
  refine go ?_
  refine ad hE Tryz.func93 zr zr ⟨rfl,rfl⟩
 | false =>
  refine go ?_
  refine aH (U:=aR) (l:=bH x) 0 zr zr zr zr zr zr ?_
  refine aN ho ?_
  cases hob:pX l x with
  | true =>
   have hm:pB false l x=0:=by unfold pB;rw[hob];rfl
   rw[hm]at hE
   refine go ?_
   refine ad hE Tryz.func93 zr zr ⟨rfl,rfl⟩
  | false =>
   have hm:pB false l x=4:=by unfold pB;rw[hob];rfl
   rw[hm]at hE
   refine go ?_
   refine ad hE Tryz.func93 zr zr ⟨rfl,rfl⟩
def lO(bs bd:Nat)(q:Int)(mb:Nat)(brk:Bool)(Y:HP)(V:HP)(v:Value)(lS:List Value)(hv:Vw V v lS.length lS)(hn:lS.length≤1000000000)(ss:List Bw)(hlen:ss.length=lS.length)(Q:Nat→Ab→Prop)(bP:∀(i:Nat) (fv:Value) (s:Bw),lS[i]?=some fv→ss[i]?=some s→∃g fi cap,fv = .func (.func g) fi cap∧∀x,Q i x→aD Tryz.prog g (fi.toList++cap.toList) [n9 bs bd q mb brk Y x] (fun r H=>∃(e:Nat) (x':Ab),r = .int .i64 (e:Int)∧H=[n9 bs bd q mb brk Y x']∧s x e x'∧(e=0→Q (i+1) x')))(A:Ab)(hQ:Q 0 A) :
  aD Tryz.prog 80 [ptr bs,v] [V,n9 bs bd q mb brk Y A]
   (fun r H=>∃(e:Nat) (B:Ab),r = .int .i64 (e:Int)∧H=[V,n9 bs bd q mb (brk || decide (e≠0)) Y B]∧gi ss A e B∧(e=0→Q lS.length B)):=by
 have iy:=Ha (n9 bs bd q mb brk Y) V v lS hv hn ss hlen Q bP A hQ
 obtain⟨a,c,rfl⟩:=hv.shape
 refine aD.aw Tryz.func80 Tryz.ntmps80 fun G F R hE=>?_
 refine go ?_
 refine aI iy ?_
 rintro _ _⟨e,B,rfl,rfl,cX,hb⟩
 refine aJ (ak.trans (ak.pick [1] rfl) (ak.cK [ae bs (cl (eR bd q mb brk) 113),aE bd B,Y] _)) ?_
 have ki:ak (ae bs (cl (eR bd q mb (brk || decide (e≠0))) 113)::aE bd B::Y::V::F) (V::n9 bs bd q mb (brk || decide (e≠0)) Y B::F) :=
  ak.trans (ak.bX [ae bs (cl (eR bd q mb (brk || decide (e≠0))) 113),aE bd B,Y] _) ah
 cases brk with
 | true =>
  refine go ?_
  refine ai (ak.trans ah ki) ?_
  refine ad hE Tryz.func80 zr zr ⟨e,B,rfl,rfl,cX,hb⟩
 | false =>
  refine go ?_
  have hbe:decide ((e:Int)≠0)=(false || decide (e≠0)):=by by_cases h:e=0 <;> simp[h]
  rw[hbe]
  refine ai (ak.trans ah ki) ?_
  refine ad hE Tryz.func80 zr zr ⟨e,B,rfl,rfl,cX,hb⟩
end Go.Proofs.YthnfckodljbgbaaGreatDoor
namespace Go.Proofs.YthnfckodljbgbaaGreatDoor
open Go Go.SL
variable{A B:Ab}{nm:ByteArray}{e:Nat}
def Al{P:Program}{f:FuncId}{args:List Value}{Pre:List HP}{Post:Value→List HP→Prop}(X:List HP)(c:aD P f args Pre Post):aD P f args (Pre++X) (fun v H=>∃H',Post v H'∧H=H'++X) :=
 ⟨c.1,fun G w F hw=>(c.2 G w (X++F) (by rw[List.append_assoc]at hw;exact hw)).mono fun e w' h'=>let ⟨v,H,he,TJ,hs⟩:=h';⟨v,H++X,he,⟨H,TJ,rfl⟩,by rw[List.append_assoc];exact hs⟩⟩
attribute [local irreducible] J K aD Ends ae aF aL bU bo aU bh bq cg Sha.chunks Sha.chunk Sha.rounds Sha.sched dW cy GI cS aE
def pj(bs bd:Nat)(q:Int)(mb:Nat)(brk:Bool)(Xs:List HP)(A:Ab)(F:List HP):ak (n9 bs bd q mb brk (Sep Xs) A::F) (ae bs (cl (eR bd q mb brk) 113)::aE bd A::(Xs++F)) :=
 ak.trans (ak.cK [ae bs (cl (eR bd q mb brk) 113),aE bd A,Sep Xs] F) (ak.cons _ (ak.cons _ (ak.cK Xs F)))
def vT(bs bd:Nat)(q:Int)(mb:Nat)(brk:Bool)(Xs:List HP)(A:Ab)(F:List HP):ak (ae bs (cl (eR bd q mb brk) 113)::aE bd A::(Xs++F)) (n9 bs bd q mb brk (Sep Xs) A::F) :=
 ak.trans (ak.cons _ (ak.cons _ (ak.bX Xs F))) (ak.bX [ae bs (cl (eR bd q mb brk) 113),aE bd A,Sep Xs] F)
def pL{f:FuncId}{args:List Value}{bs bd:Nat}{q:Int}{mb:Nat}{brk:Bool}{Xs:List HP}{p:Nat→Ab→Prop}(h:aD Tryz.prog f args (ae bs (cl (eR bd q mb brk) 113)::aE bd A::Xs) (fun r H=>∃(e:Nat) (B:Ab),r = .int .i64 (e:Int)∧H=ae bs (cl (eR bd q mb brk) 113)::aE bd B::Xs∧p e B)) :
  aD Tryz.prog f args [n9 bs bd q mb brk (Sep Xs) A] (fun r H=>∃(e:Nat) (B:Ab),r = .int .i64 (e:Int)∧H=[n9 bs bd q mb brk (Sep Xs) B]∧p e B) :=
 h.conv (by have:=pj bs bd q mb brk Xs A [];rwa[List.append_nil]at this) (by
  rintro v H⟨e,B,rfl,rfl,hp⟩
  exact⟨_,⟨e,B,rfl,rfl,hp⟩,by have:=vT bs bd q mb brk Xs B [];rwa[List.append_nil]at this⟩)
def wJ(x:Bl):aD Tryz.prog 78 [.string (strOf kS),.agg (dC x.d).toArray] [] (fun r H=>r = .string (fS x)∧H=[]):=by
 have:=oO kS x.d (by decide)
 unfold dV at this
 exact this
def L5(bs bd b2 b3:Nat)(q:Int)(mb:Nat)(brk:Bool)(x:Bl)(A:Ab)(eW:A.writes.length≤1000000000) :
  aD Tryz.prog 96 [ptr b2,ptr b3] (ae bs (cl (eR bd q mb brk) 113)::aE bd A::[ae b2 (cl [ptr bs] 30),ae b3 (cl (bH x) 39)])
   (fun r H=>∃(e:Nat) (B:Ab),r = .int .i64 (e:Int)∧H=ae bs (cl (eR bd q mb brk) 113)::aE bd B::[ae b2 (cl [ptr bs] 30),ae b3 (cl (bH x) 39)]∧fR (fS x) A e B):=by
 refine aD.aw Tryz.func96 Tryz.ntmps96 fun G F R hE=>?_
 refine go ?_
 refine aG (fun w=>Sat G w ([ae bs (cl (eR bd q mb brk) 113),ae b2 (cl [ptr bs] 30),ae b3 (cl (bH x) 39)])) (dj 0 6 (.act 6 (.act 7 (.st 8 .nil)))) rfl aq aq aq eo ?_
 refine go ?_
 refine cJ (U:=aR) 2 zr zr zr zr zr zr (go ?_)
 refine bp (wJ x) ?_
 refine go ?_
 refine bp (vk bd A (fS x) eW) ?_
 refine go ?_
 refine ad hE Tryz.func96 zr zr ⟨_,_,rfl,rfl,rfl⟩
def JY(bs bd b2 b3:Nat)(q:Int)(mb:Nat)(brk:Bool)(x:Bl)(A:Ab)(bP:A.aj.length≤1000000000) :
  aD Tryz.prog 105 [ptr b2,ptr b3] (ae bs (cl (eR bd q mb brk) 113)::aE bd A::[ae b2 (cl [ptr bs] 30),ae b3 (cl (bH x) 39)])
   (fun r H=>∃(e:Nat) (B:Ab),r = .int .i64 (e:Int)∧H=ae bs (cl (eR bd q mb brk) 113)::aE bd B::[ae b2 (cl [ptr bs] 30),ae b3 (cl (bH x) 39)]∧gL (fS x) A e B):=by
 refine aD.aw Tryz.func105 Tryz.ntmps105 fun G F R hE=>?_
 refine go ?_
 refine aG (fun w=>Sat G w ([ae bs (cl (eR bd q mb brk) 113),ae b2 (cl [ptr bs] 30),ae b3 (cl (bH x) 39)])) (dj 0 6 (.act 6 (.act 7 (.st 8 .nil)))) rfl aq aq aq eo ?_
 refine go ?_
 refine cJ (U:=aR) 2 zr zr zr zr zr zr (go ?_)
 refine bp (wJ x) ?_
 refine go ?_
 refine bp (wY bd A (fS x) bP) ?_
 refine go ?_
 refine ad hE Tryz.func105 zr zr ⟨_,_,rfl,rfl,rfl⟩
def MG(bs bd b2 b4:Nat)(q:Int)(mb:Nat)(brk:Bool)(o:ByteArray)(A:Ab)(eW:A.writes.length≤1000000000) :
  aD Tryz.prog 161 [ptr b2,ptr b4] (ae bs (cl (eR bd q mb brk) 113)::aE bd A::[ae b2 (cl [ptr bs] 30),ae b4 (cl [.string o] 9)])
   (fun r H=>∃(e:Nat) (B:Ab),r = .int .i64 (e:Int)∧H=ae bs (cl (eR bd q mb brk) 113)::aE bd B::[ae b2 (cl [ptr bs] 30),ae b4 (cl [.string o] 9)]∧fR o A e B):=by
 refine aD.aw Tryz.func161 Tryz.ntmps161 fun G F R hE=>?_
 refine go ?_
 refine aG (fun w=>Sat G w ([ae bs (cl (eR bd q mb brk) 113),ae b2 (cl [ptr bs] 30),ae b4 (cl [.string o] 9)])) (dj 0 5 (.act 5 (.st 6 .nil))) rfl aq aq aq eo ?_
 refine go ?_
 refine bp (vk bd A o eW) ?_
 refine go ?_
 refine ad hE Tryz.func161 zr zr ⟨_,_,rfl,rfl,rfl⟩
def MF(bs bd b2 b4 b5:Nat)(q:Int)(mb:Nat)(brk:Bool)(o n:ByteArray)(A:Ab)(bP:A.aj.length≤1000000000) :
  aD Tryz.prog 162 [ptr b2,ptr b4,ptr b5] (ae bs (cl (eR bd q mb brk) 113)::aE bd A::[ae b2 (cl [ptr bs] 30),ae b4 (cl [.string o] 9),ae b5 (cl [.string n] 9)])
   (fun r H=>∃(e:Nat) (B:Ab),r = .int .i64 (e:Int)∧H=ae bs (cl (eR bd q mb brk) 113)::aE bd B::[ae b2 (cl [ptr bs] 30),ae b4 (cl [.string o] 9),ae b5 (cl [.string n] 9)]∧iN o n A e B):=by
 refine aD.aw Tryz.func162 Tryz.ntmps162 fun G F R hE=>?_
 refine go ?_
 refine aG (fun w=>Sat G w ([ae bs (cl (eR bd q mb brk) 113),ae b2 (cl [ptr bs] 30),ae b4 (cl [.string o] 9),ae b5 (cl [.string n] 9)])) (dj 0 6 (.act 6 (.st 7 .nil))) rfl aq aq aq eo ?_
 refine go ?_
 refine mE 3 zr zr zr zr zr zr (go ?_)
 refine bp (CO bd A o n bP) ?_
 refine go ?_
 refine ad hE Tryz.func162 zr zr ⟨_,_,rfl,rfl,rfl⟩
def JT(bs bd b2 b7:Nat)(q:Int)(mb:Nat)(brk:Bool)(n:ByteArray)(A:Ab)(bP:A.aj.length≤1000000000) :
  aD Tryz.prog 81 [ptr b2,ptr b7] (ae bs (cl (eR bd q mb brk) 113)::aE bd A::[ae b2 (cl [ptr bs] 30),ae b7 (cl [.string n] 9)])
   (fun r H=>∃(e:Nat) (B:Ab),r = .int .i64 (e:Int)∧H=ae bs (cl (eR bd q mb brk) 113)::aE bd B::[ae b2 (cl [ptr bs] 30),ae b7 (cl [.string n] 9)]∧gm n A e B):=by
 refine aD.aw Tryz.func81 Tryz.ntmps81 fun G F R hE=>?_
 refine go ?_
 refine aG (fun w=>Sat G w ([ae bs (cl (eR bd q mb brk) 113),ae b2 (cl [ptr bs] 30),ae b7 (cl [.string n] 9)])) (dj 0 5 (.act 5 (.st 6 .nil))) rfl aq aq aq eo ?_
 refine go ?_
 refine dy (xg bd A n bP) ?_
 rintro _ _⟨f,hf,rfl,rfl⟩
 refine go ?_
 refine ad hE Tryz.func81 zr zr ⟨_,_,rfl,rfl,⟨f,hf,rfl⟩⟩
def Mn(bs bd b4 b5 tG b7:Nat)(q:Int)(mb:Nat)(brk:Bool)(x:Bl)(at_:Int)(X:HP)(bv:Value)(b:List UInt8)(hv:Vw X bv b.length (bV b))(A:Ab)(eW:A.writes.length≤1000000000)(kQ:b.length≤1000000000)(SB:0≤at_∧at_≤9223372036854775807) :
  aD Tryz.prog 94 [ptr b4,ptr b5,ptr tG,ptr b7] (ae bs (cl (eR bd q mb brk) 113)::aE bd A::[ae b4 (cl [ptr bs] 30),ae b5 (cl (bH x) 39),ae tG (cl [.int .i64 at_] 3),ae b7 (cl [bv] 40),X])
   (fun r H=>∃(e:Nat) (B:Ab),r = .int .i64 (e:Int)∧H=ae bs (cl (eR bd q mb brk) 113)::aE bd B::[ae b4 (cl [ptr bs] 30),ae b5 (cl (bH x) 39),ae tG (cl [.int .i64 at_] 3),ae b7 (cl [bv] 40),X]∧fh (fS x) at_.toNat b A e B):=by
 obtain⟨a,c,rfl⟩:=hv.shape
 have hmw:fK (fS x) at_ b=fK (fS x) at_.toNat b:=by rw[Int.toNat_of_nonneg SB.1]
 have hw:=vj bd A (fS x) at_ X _ b hv eW kQ ⟨ag,SB.2⟩
 rw[hmw]at hw
 refine aD.aw Tryz.func94 Tryz.ntmps94 fun G F R hE=>?_
 refine go ?_
 refine aG (fun w=>Sat G w ([ae bs (cl (eR bd q mb brk) 113),ae b4 (cl [ptr bs] 30),ae b5 (cl (bH x) 39),ae tG (cl [.int .i64 at_] 3),ae b7 (cl [.slice a b.length c] 40)])) (dj 0 6 (.st 7 (.st 8 (.act 6 (.act 9 (.st 10 .nil)))))) rfl aq aq aq eo ?_
 refine go ?_
 refine cJ (U:=aR) 2 zr zr zr zr zr zr (go ?_)
 refine mE 3 zr zr zr zr zr zr (go ?_)
 refine mE 4 zr zr zr zr zr zr (go ?_)
 refine bp (wJ x) ?_
 refine go ?_
 refine bp hw ?_
 refine go ?_
 refine ad hE Tryz.func94 zr zr ⟨_,_,rfl,rfl,rfl⟩
def KM(bs bd:Nat)(q:Int)(mb:Nat)(brk:Bool)(Xs:List HP)(A:Ab):aD Tryz.prog 67 [ptr bd] [n9 bs bd q mb brk (Sep Xs) A]
  (fun r H=>∃(e:Nat) (B:Ab),r = .int .i64 (e:Int)∧H=[n9 bs bd q mb brk (Sep Xs) B]∧cP A e B) :=
 pL ((Al (ae bs (cl (eR bd q mb brk) 113)::Xs) (pT bd A)).conv (ak.perm (List.Perm.swap ..)) (by
  rintro v H⟨H1,⟨rfl,rfl⟩,rfl⟩
  exact⟨_,⟨_,_,rfl,rfl,rfl⟩,ak.perm (List.Perm.swap ..)⟩))
def du(bs bd:Nat)(q:Int)(mb:Nat)(s:fg):List HP:=[ae bs (cl (eR bd q mb s.brk) 113),aL dV mb (eb s.bz),aE bd s.A]
def GQ(A:Ab)(i:Nat)(x:Ab):Prop:=x.aj.length≤A.aj.length+i∧x.writes.length≤A.writes.length+i
def GQ.zero(A:Ab):GQ A 0 A:=⟨Nat.le_refl _,Nat.le_refl _⟩
def GQ.next{x y:Ab}{i:Nat}(h:GQ A i x)(g:kM x y):GQ A (i+1) y:=⟨by have:=h.1;have:=g.1;omega,by have:=h.2;have:=g.2;omega⟩
def nK(h:fR nm A e B):kM A B:=by
 have:=ll A (isName nm) nm
 rw[← h]at this
 exact this
def sB{o n:ByteArray}(h:iN o n A e B):kM A B:=by
 have:=qG A ([o,n].all isName) o n
 rw[← h]at this
 exact this
def jo(h:cP A e B):kM A B:=by
 have:=kD A
 rw[← h]at this
 exact this
def uT{at_:Nat}{b:List UInt8}(h:fh nm at_ b A e B):kM A B:=by
 have:=lk A (fK nm at_ b) nm at_ b
 rw[← h]at this
 exact this
theorem sC(h:gm nm A e B):kM A B:=by
 obtain⟨f,_,h⟩:=h
 grind [qI,isName]
def UK(bs bd:Nat)(q:Int)(mb:Nat)(s:fg)(x:Bl)(bP:s.A.aj.length≤900000000)(eW:s.A.writes.length≤900000000):aD Tryz.prog 40 [ptr bs,dG x] (du bs bd q mb s)
  (fun r H=>∃(e:Nat) (t:fg),r = .int .i64 (e:Int)∧H=du bs bd q mb t∧kY x s e t):=by
 obtain⟨A,bz,brk⟩:=s
 simp only at bP eW
 have lZ:=uC bs bd q mb brk bz x
 unfold dG at lZ ⊢
 refine aD.aw Tryz.func40 Tryz.ntmps40 fun G F R hE=>?_
 refine ai (H':=ae bs (cl (eR bd q mb brk) 113)::aL dV mb (eb bz)::aE bd A::F) (ak.refl _) ?_
 refine aB rfl ?_
 refine bG zr zr bE ?_
 intro b2
 refine bG zr zr bE ?_
 intro b3
 refine go ?_
 refine aH (U:=aR) (l:=bH x) 0 zr zr zr zr zr zr ?_
 refine aN lZ ?_
 refine go ?_
 refine au zr zr ?_ ?_
 ·intro df
  have jK:pB brk bz x≠0:=by omega
  refine go ?_
  refine ai (H':=du bs bd q mb ⟨A,bz,brk⟩++F) ah ?_
  ((refine ad hE Tryz.func40 zr zr ⟨pB brk bz x,⟨A,bz,brk⟩,rfl,rfl,by unfold kY;rw[if_pos (show lf ⟨A,bz,brk⟩ x≠0 from jK)];exact⟨rfl,rfl⟩⟩))
 ·intro heq
  have uO:pB brk bz x=0:=by omega
  refine go ?_
  refine ao (cs:=[.func (.func 96) #[] #[ptr b2,ptr b3] ]) zr zr zr zr zr zr zr zr zr bE ?_
  intro row
  have wy:∀(i:Nat) (fv:Value) (sp:Bw),[.func (.func 96) #[] #[ptr b2,ptr b3] ][i]?=some fv→[fR (fS x)][i]?=some sp→∃g fi cap,fv = .func (.func g) fi cap∧∀y,GQ A i y→aD Tryz.prog g (fi.toList++cap.toList) [n9 bs bd q mb brk (Sep [ae b2 (cl [ptr bs] 30),ae b3 (cl (bH x) 39)]) y] (fun r H=>∃(e:Nat) (x':Ab),r = .int .i64 (e:Int)∧H=[n9 bs bd q mb brk (Sep [ae b2 (cl [ptr bs] 30),ae b3 (cl (bH x) 39)]) x']∧sp y e x'∧(e=0→GQ A (i+1) x')):=by
   intro i fv sp hi hs
   match i,hi,hs with
   | 0,hi,hs =>
    cases hi;cases hs
    refine⟨_,_,_,rfl,fun y hy=>(pL (L5 bs bd b2 b3 q mb brk x y (by have:=hy.2;omega))).post ?_⟩
    rintro r H⟨e,B,rfl,rfl,h1⟩
    exact⟨e,B,rfl,rfl,h1,fun _=>hy.next (nK h1)⟩
   | k+1,hi,hs=>simp at hi
  have Gt:=lO bs bd q mb brk (Sep [ae b2 (cl [ptr bs] 30),ae b3 (cl (bH x) 39)]) (ae row (cl [.func (.func 96) #[] #[ptr b2,ptr b3] ] 83)) (.slice (some ⟨row,0,none⟩) 1 1) [.func (.func 96) #[] #[ptr b2,ptr b3] ] (Vw.ae rfl) (by show 1≤_;omega) [fR (fS x)] rfl (GQ A) wy A (GQ.zero A)
  refine aJ (H':=ae row (cl [.func (.func 96) #[] #[ptr b2,ptr b3] ] 83)::n9 bs bd q mb brk (Sep [ae b2 (cl [ptr bs] 30),ae b3 (cl (bH x) 39)]) A::aL dV mb (eb bz)::F) (ak.trans (H2:=ae bs (cl (eR bd q mb brk) 113)::aE bd A::([ae b2 (cl [ptr bs] 30),ae b3 (cl (bH x) 39)]++(ae row (cl [.func (.func 96) #[] #[ptr b2,ptr b3] ] 83)::aL dV mb (eb bz)::F))) ah (ak.trans (vT bs bd q mb brk _ A _) ah)) ?_
  refine aI Gt ?_
  rintro _ _⟨e,B,rfl,rfl,cX,-⟩
  refine go ?_
  refine ai (H':=du bs bd q mb ⟨B,bz,brk || decide (e≠0)⟩++F) (ak.trans (ak.pick [1] rfl) (ak.trans (pj bs bd q mb (brk || decide (e≠0)) _ B _) ah)) ?_
  ((refine ad hE Tryz.func40 zr zr ⟨e,⟨B,bz,or brk (decide (e≠0))⟩,rfl,rfl,by unfold kY;rw[if_neg (show ¬lf ⟨A,bz,brk⟩ x≠0 from by show ¬pB brk bz x≠0;omega)];exact⟨B,cX,rfl⟩⟩))
def G9(l:List (Dg × Bl))(d:Dg):rZ (eb l) d=eb (qL l d):=by
 unfold rZ eb qL
 rw[List.filter_map]
 rfl
def HX(bs bd:Nat)(q:Int)(mb:Nat)(s:fg)(x:Bl)(bP:s.A.aj.length≤900000000)(eW:s.A.writes.length≤900000000):aD Tryz.prog 48 [ptr bs,dG x] (du bs bd q mb s)
  (fun r H=>∃(e:Nat) (t:fg),r = .int .i64 (e:Int)∧H=du bs bd q mb t∧iq x s e t):=by
 obtain⟨A,bz,brk⟩:=s
 simp only at bP eW
 have lZ:=uC bs bd q mb brk bz x
 unfold dG at lZ ⊢
 refine aD.aw Tryz.func48 Tryz.ntmps48 fun G F R hE=>?_
 refine ai (H':=ae bs (cl (eR bd q mb brk) 113)::aL dV mb (eb bz)::aE bd A::F) (ak.refl _) ?_
 refine aB rfl ?_
 refine bG zr zr bE ?_
 intro b2
 refine bG zr zr bE ?_
 intro b3
 refine go ?_
 refine aH (U:=aR) (l:=bH x) 0 zr zr zr zr zr zr ?_
 refine aN lZ ?_
 refine go ?_
 refine au zr zr ?_ ?_
 ·intro df
  have jK:pB brk bz x≠0:=by omega
  refine go ?_
  refine ai (H':=du bs bd q mb ⟨A,bz,brk⟩++F) ah ?_
  ((refine ad hE Tryz.func48 zr zr ⟨pB brk bz x,⟨A,bz,brk⟩,rfl,rfl,by unfold iq;rw[if_pos (show lf ⟨A,bz,brk⟩ x≠0 from jK)];exact⟨rfl,rfl⟩⟩))
 ·intro heq
  have uO:pB brk bz x=0:=by omega
  refine go ?_
  refine ao (cs:=[.func (.func 105) #[] #[ptr b2,ptr b3] ]) zr zr zr zr zr zr zr zr zr bE ?_
  intro row
  have wy:∀(i:Nat) (fv:Value) (sp:Bw),[.func (.func 105) #[] #[ptr b2,ptr b3] ][i]?=some fv→[gL (fS x)][i]?=some sp→∃g fi cap,fv = .func (.func g) fi cap∧∀y,GQ A i y→aD Tryz.prog g (fi.toList++cap.toList) [n9 bs bd q mb brk (Sep [ae b2 (cl [ptr bs] 30),ae b3 (cl (bH x) 39)]) y] (fun r H=>∃(e:Nat) (x':Ab),r = .int .i64 (e:Int)∧H=[n9 bs bd q mb brk (Sep [ae b2 (cl [ptr bs] 30),ae b3 (cl (bH x) 39)]) x']∧sp y e x'∧(e=0→GQ A (i+1) x')):=by
   intro i fv sp hi hs
   match i,hi,hs with
   | 0,hi,hs =>
    cases hi;cases hs
    refine⟨_,_,_,rfl,fun y hy=>(pL (JY bs bd b2 b3 q mb brk x y (by have:=hy.1;omega))).post ?_⟩
    rintro r H⟨e,B,rfl,rfl,h1⟩
    exact⟨e,B,rfl,rfl,h1,fun _=>hy.next (n6 h1)⟩
   | k+1,hi,hs=>simp at hi
  have Gt:=lO bs bd q mb brk (Sep [ae b2 (cl [ptr bs] 30),ae b3 (cl (bH x) 39)]) (ae row (cl [.func (.func 105) #[] #[ptr b2,ptr b3] ] 83)) (.slice (some ⟨row,0,none⟩) 1 1) [.func (.func 105) #[] #[ptr b2,ptr b3] ] (Vw.ae rfl) (by show 1≤_;omega) [gL (fS x)] rfl (GQ A) wy A (GQ.zero A)
  refine aJ (H':=ae row (cl [.func (.func 105) #[] #[ptr b2,ptr b3] ] 83)::n9 bs bd q mb brk (Sep [ae b2 (cl [ptr bs] 30),ae b3 (cl (bH x) 39)]) A::aL dV mb (eb bz)::F) (ak.trans (H2:=ae bs (cl (eR bd q mb brk) 113)::aE bd A::([ae b2 (cl [ptr bs] 30),ae b3 (cl (bH x) 39)]++(ae row (cl [.func (.func 105) #[] #[ptr b2,ptr b3] ] 83)::aL dV mb (eb bz)::F))) ah (ak.trans (vT bs bd q mb brk _ A _) ah)) ?_
  refine aI Gt ?_
  rintro _ _⟨e,B,rfl,rfl,cX,-⟩
  refine aJ (ak.trans (ak.pick [1] rfl) (pj bs bd q mb (brk || decide (e≠0)) _ B _)) ?_
  have hs0:¬lf ⟨A,bz,brk⟩ x≠0:=by show ¬pB brk bz x≠0;omega
  refine go ?_
  refine au zr zr ?_ ?_
  ·intro ZF
   have he:e≠0:=by omega
   refine go ?_
   refine ai (H':=du bs bd q mb ⟨B,bz,brk || decide (e≠0)⟩++F) ah ?_
   ((refine ad hE Tryz.func48 zr zr ⟨e,⟨B,bz,or brk (decide (e≠0))⟩,rfl,rfl,by unfold iq;rw[if_neg hs0];exact⟨_,⟨B,cX,rfl⟩,by rw[if_pos he]⟩⟩))
  ·intro Z1
   have he:e=0:=by omega
   subst he
   refine go ?_
   refine aG (fun w=>Sat G w ([ae b2 (cl [ptr bs] 30),ae bs (cl (eR bd q mb (or brk (decide (0≠0)))) 113),ae b3 (cl (bH x) 39)])) (dj 0 6 (.act 6 .nil)) rfl aq aq aq eo ?_
   refine go ?_
   refine cJ (U:=aR) 2 zr zr zr zr zr zr (go ?_)
   refine gF (es:=eb bz) (key:=x.d) 5 Tt (fun w hw=>by exact trivial) zr zr zr zr zr zr zr ?_
   rw[G9]
   refine go ?_
   refine ai (H':=du bs bd q mb ⟨B,qL bz x.d,brk || decide (0≠0)⟩++F) ah ?_
   ((refine ad hE Tryz.func48 zr zr ⟨0,⟨B,qL bz x.d,or brk (decide (0≠0))⟩,rfl,rfl,by unfold iq;rw[if_neg hs0];exact⟨_,⟨B,cX,rfl⟩,by rw[if_neg ag]⟩⟩))
def Tl(bd b3 b4 b5:Nat):List Value:=[.func (.func 161) #[] #[ptr b3,ptr b4],.func (.func 162) #[] #[ptr b3,ptr b4,ptr b5],.func (.func 67) #[ptr bd] #[] ]
def Tj(bs b3 b4 b5:Nat)(o n:ByteArray):List HP:=[ae b3 (cl [ptr bs] 30),ae b4 (cl [.string o] 9),ae b5 (cl [.string n] 9)]
def Qi(bs bd:Nat)(q:Int)(mb:Nat)(brk:Bool)(o n:ByteArray):aD Tryz.prog 103 [ptr bs,.string o,.string n] [ae bs (cl (eR bd q mb brk) 113)]
  (fun r H=>∃row b3 b4 b5,r = .slice (some ⟨row,0,none⟩) 3 3∧H=ae row (cl (Tl bd b3 b4 b5) 83)::ae bs (cl (eR bd q mb brk) 113)::Tj bs b3 b4 b5 o n):=by
 refine aD.aw Tryz.func103 Tryz.ntmps103 fun G F R hE=>?_
 refine aB rfl ?_
 refine bG zr zr bE ?_
 intro b3
 refine bG zr zr bE ?_
 intro b4
 refine bG zr zr bE ?_
 intro b5
 refine go ?_
 refine ao (cs:=Tl bd b3 b4 b5) zr zr zr zr zr zr zr zr zr bE ?_
 intro row
 refine go ?_
 refine ai (H':=ae row (cl (Tl bd b3 b4 b5) 83)::ae bs (cl (eR bd q mb brk) 113)::(Tj bs b3 b4 b5 o n++F)) ah ?_
 refine ad hE Tryz.func103 zr zr ⟨row,b3,b4,b5,rfl,rfl⟩
def Qh(bs bd:Nat)(q:Int)(mb:Nat)(brk:Bool)(b3 b4 b5:Nat)(o n:ByteArray)(A:Ab)(bP:A.aj.length≤900000000)(eW:A.writes.length≤900000000)(i:Nat)(fv:Value)(sp:Bw)(hi:(Tl bd b3 b4 b5)[i]?=some fv)(hs:(FQ o n)[i]?=some sp) :
  ∃g fi cap,fv = .func (.func g) fi cap∧∀y,GQ A i y→aD Tryz.prog g (fi.toList++cap.toList) [n9 bs bd q mb brk (Sep (Tj bs b3 b4 b5 o n)) y] (fun r H=>∃(e:Nat) (x':Ab),r = .int .i64 (e:Int)∧H=[n9 bs bd q mb brk (Sep (Tj bs b3 b4 b5 o n)) x']∧sp y e x'∧(e=0→GQ A (i+1) x')):=by
 match i,hi,hs with
 | 0,hi,hs =>
  cases hi;cases hs
  refine⟨_,_,_,rfl,fun y hy=>?_⟩
  have h0:=Al [ae b5 (cl [.string n] 9)] (MG bs bd b3 b4 q mb brk o y (by have:=hy.2;omega))
  refine(pL (p:=fR o y) (Xs:=Tj bs b3 b4 b5 o n) (h0.post ?_)).post ?_
  ·rintro r H⟨_,⟨e,B,rfl,rfl,h1⟩,rfl⟩
   exact⟨e,B,rfl,rfl,h1⟩
  ·rintro r H⟨e,B,rfl,rfl,h1⟩
   exact⟨e,B,rfl,rfl,h1,fun _=>hy.next (nK h1)⟩
 | 1,hi,hs =>
  cases hi;cases hs
  refine⟨_,_,_,rfl,fun y hy=>(pL (MF bs bd b3 b4 b5 q mb brk o n y (by have:=hy.1;omega))).post ?_⟩
  rintro r H⟨e,B,rfl,rfl,h1⟩
  exact⟨e,B,rfl,rfl,h1,fun _=>hy.next (sB h1)⟩
 | 2,hi,hs =>
  cases hi;cases hs
  refine⟨_,_,_,rfl,fun y hy=>(KM bs bd q mb brk (Tj bs b3 b4 b5 o n) y).post ?_⟩
  rintro r H⟨e,B,rfl,rfl,h1⟩
  exact⟨e,B,rfl,rfl,h1,fun _=>hy.next (jo h1)⟩
 | k+3,hi,hs=>simp[Tl]at hi
theorem Kc(X:HP)(hK:oZ X)(bs bd:Nat)(q:Int)(mb:Nat)(s:fg)(x:Bl)(bP:s.A.aj.length≤900000000)(eW:s.A.writes.length≤900000000):aD Tryz.prog 45 [ptr bs,dG x] (du bs bd q mb s++[X])
  (fun r H=>∃(e:Nat) (t:fg),r = .int .i64 (e:Int)∧H=du bs bd q mb t++[X]∧fC x s e t):=by
 obtain⟨A,bz,brk⟩:=s
 simp only at bP eW
 have lZ:=uC bs bd q mb brk bz x
 have xP:=HX bs bd q mb ⟨A,bz,brk⟩ x bP eW
 have hfb:=oO kB x.d (by decide)
 unfold dV at hfb
 unfold dG at lZ xP ⊢
 refine aD.aw Tryz.func45 Tryz.ntmps45 fun G F R hE=>?_
 refine ai (H':=ae bs (cl (eR bd q mb brk) 113)::aL dV mb (eb bz)::aE bd A::X::F) (ak.refl _) ?_
 refine vt (bd:=bd) (A:=A) 2 rfl ?_
 intro Jm
 refine aB rfl ?_
 refine bG zr zr bE ?_
 intro b3
 refine go ?_
 refine aH (U:=aR) (l:=bH x) 0 zr zr zr zr zr zr ?_
 refine aN lZ ?_
 refine go ?_
 refine au zr zr ?_ ?_
 ·intro df
  have jK:lf ⟨A,bz,brk⟩ x≠0:=by show pB brk bz x≠0;omega
  refine go ?_
  refine ai (H':=du bs bd q mb ⟨A,bz,brk⟩++(X::F)) ah ?_
  ((refine ad hE Tryz.func45 zr zr ⟨pB brk bz x,⟨A,bz,brk⟩,rfl,rfl,by unfold fC;rw[if_pos jK];exact⟨rfl,rfl⟩⟩))
 intro heq
 have uO:¬lf ⟨A,bz,brk⟩ x≠0:=by show ¬pB brk bz x≠0;omega
 have kQ:=tE Jm (fS x)
 refine go ?_
 refine dT 2 zr zr zr zr zr zr ?_
 refine aN (wJ x) ?_
 refine aI (wP bs bd q mb brk A (fS x)) ?_
 rintro _ _⟨rv,rfl,rfl⟩
 obtain⟨bb,VI⟩:∃bb,bb=(eN A (fS x)).getD []:=⟨_,rfl⟩
 rw[← VI]at kQ ⊢
 refine gX (bs:=bb) 0 rfl ?_
 intro Rb
 refine aJ (ak.trans (ak.pick [0,5] rfl) (ak.bX [aF 5 1 rv bb.length (bV bb),X] _)) ?_
 have hwh:=NY _ (hK.mono (aY (H:=[aF 5 1 rv bb.length (bV bb),X]) (i:=1) rfl)) x rv bb (Rb.mono (aY (i:=0) rfl)) ag
 unfold dG at hwh
 refine go ?_
 refine aH (U:=aR) (l:=bH x) 4 zr zr zr zr zr zr ?_
 ((refine go ?_;(refine aI hwh ?_)))
 rintro _ _⟨rfl,rfl⟩
 refine aJ (ak.cK [aF 5 1 rv bb.length (bV bb),X] _) ?_
 cases hw:jz x bb with
 | false =>
  have hI:∀e1 t,iq x ⟨A,bz,brk⟩ e1 t→∀e,e=(if e1≠0 then e1 else 8)→fC x ⟨A,bz,brk⟩ e t:=fun e1 t h e he=>by
   grind [fC,jz,eN,fS]
  refine go ?_
  refine aH (U:=aR) (l:=bH x) 5 zr zr zr zr zr zr ?_
  refine aI xP ?_
  rintro _ _⟨e1,t,rfl,rfl,adl⟩
  refine go ?_
  refine au zr zr ?_ ?_
  ·intro ZF
   have he:e1≠0:=by omega
   refine go ?_
   refine ai (H':=du bs bd q mb t++(X::F)) ah ?_
   refine ad hE Tryz.func45 zr zr ⟨e1,t,rfl,rfl,hI e1 t adl e1 (by rw[if_pos he])⟩
  ·intro Z1
   have he:e1=0:=by omega
   refine go ?_
   refine ai (H':=du bs bd q mb t++(X::F)) ah ?_
   refine ad hE Tryz.func45 zr zr ⟨8,t,rfl,rfl,hI e1 t adl 8 (by rw[if_neg ag])⟩
 | true =>
  have hwn:¬jz x ((eN A (fS x)).getD [])=false:=by rw[← VI,hw];simp
  refine go ?_
  refine aG (fun w=>Sat G w ([ae b3 (cl (bH x) 39)])) (dj 0 4 (.st 5 (.st 6 (.act 4 (.act 7 (.act 8 (.act 9 (.st 10 .nil)))))))) rfl aq aq aq eo ?_
  refine go ?_
  refine cJ (U:=aR) 0 zr zr zr zr zr zr (go ?_)
  refine cJ (U:=aR) 0 zr zr zr zr zr zr (go ?_)
  refine bp (wJ x) ?_
  refine go ?_
  refine bp hfb ?_
  refine go ?_
  refine dy (Qi bs bd q mb brk (fS x) (fB x)) ?_
  rintro _ _⟨row,c3,c4,c5,rfl,rfl⟩
  have Gt:=lO bs bd q mb brk (Sep (Tj bs c3 c4 c5 (fS x) (fB x))) (ae row (cl (Tl bd c3 c4 c5) 83)) (.slice (some ⟨row,0,none⟩) 3 3) (Tl bd c3 c4 c5) (Vw.ae rfl) (by show 3≤_;omega) (FQ (fS x) (fB x)) rfl (GQ A) (Qh bs bd q mb brk c3 c4 c5 (fS x) (fB x) A bP eW) A (GQ.zero A)
  refine go ?_
  refine aJ (H':=ae row (cl (Tl bd c3 c4 c5) 83)::n9 bs bd q mb brk (Sep (Tj bs c3 c4 c5 (fS x) (fB x))) A::aL dV mb (eb bz)::ae b3 (cl (bH x) 39)::X::F) (ak.trans (H2:=ae bs (cl (eR bd q mb brk) 113)::aE bd A::(Tj bs c3 c4 c5 (fS x) (fB x)++(ae row (cl (Tl bd c3 c4 c5) 83)::aL dV mb (eb bz)::ae b3 (cl (bH x) 39)::X::F))) ah (ak.trans (vT bs bd q mb brk _ A _) ah)) ?_
  refine dy Gt ?_
  rintro _ _⟨e,B,rfl,rfl,cX,-⟩
  refine aJ (ak.trans (ak.pick [1] rfl) (pj bs bd q mb (brk || decide (e≠0)) _ B _)) ?_
  have hI:∀t,t=(if e≠0 then(⟨B,bz,brk || decide (e≠0)⟩:fg)else⟨B,qL bz x.d,brk || decide (e≠0)⟩)→fC x ⟨A,bz,brk⟩ e t:=fun t ht=>by
   unfold fC
   rw[if_neg uO,if_neg hwn]
   exact⟨_,⟨B,cX,rfl⟩,ht⟩
  refine go ?_
  refine au zr zr ?_ ?_
  ·intro ZF
   have he:e≠0:=by omega
   refine go ?_
   refine ai (H':=du bs bd q mb ⟨B,bz,brk || decide (e≠0)⟩++(X::F)) ah ?_
   refine ad hE Tryz.func45 zr zr ⟨e,⟨B,bz,or brk (decide (e≠0))⟩,rfl,rfl,hI _ (by rw[if_pos he])⟩
  ·intro Z1
   have he:e=0:=by omega
   subst he
   refine go ?_
   refine aG (fun w=>Sat G w ([ae bs (cl (eR bd q mb (or brk (decide (0≠0)))) 113),ae b3 (cl (bH x) 39)])) (dj 0 6 (.act 6 .nil)) rfl aq aq aq eo ?_
   refine go ?_
   refine cJ (U:=aR) 1 zr zr zr zr zr zr (go ?_)
   refine gF (es:=eb bz) (key:=x.d) 6 Tt (fun w hw=>by exact trivial) zr zr zr zr zr zr zr ?_
   rw[G9]
   refine go ?_
   refine ai (H':=du bs bd q mb ⟨B,qL bz x.d,brk || decide (0≠0)⟩++(X::F)) ah ?_
   refine ad hE Tryz.func45 zr zr ⟨0,⟨B,qL bz x.d,or brk (decide (0≠0))⟩,rfl,rfl,hI _ (by rw[if_neg ag])⟩
theorem aaw(X:HP)(bs bd:Nat)(q:Int)(mb:Nat)(s:fg)(x:Bl)(i:Int)(bv:Value)(b:List UInt8)(hv:Vw X bv b.length (bV b))(kQ:b.length≤1000000000)(hi : -9223372036854775808≤i∧i≤9223372036854775807)(bP:s.A.aj.length≤900000000)(eW:s.A.writes.length≤900000000) :
  aD Tryz.prog 38 [ptr bs,dG x,.int .i64 i,bv] (du bs bd q mb s++[X])
  (fun r H=>∃(e:Nat) (t:fg),r = .int .i64 (e:Int)∧H=du bs bd q mb t++[X]∧mh x i b s e t):=by
 obtain⟨A,bz,brk⟩:=s
 simp only at bP eW
 obtain⟨a,c,rfl⟩:=hv.shape
 have lZ:=uC bs bd q mb brk bz x
 unfold dG at lZ ⊢
 refine aD.aw Tryz.func38 Tryz.ntmps38 fun G F R hE=>?_
 refine ai (H':=ae bs (cl (eR bd q mb brk) 113)::aL dV mb (eb bz)::aE bd A::X::F) (ak.refl _) ?_
 refine aB rfl ?_
 refine bG zr zr bE ?_
 intro b4
 refine bG zr zr bE ?_
 intro b5
 refine bG zr zr bE ?_
 intro b7
 refine go ?_
 refine aH (U:=aR) (l:=bH x) 1 zr zr zr zr zr zr ?_
 refine aN lZ ?_
 refine go ?_
 refine au zr zr ?_ ?_
 ·intro df
  have jK:lf ⟨A,bz,brk⟩ x≠0:=by show pB brk bz x≠0;omega
  refine go ?_
  refine ai (H':=du bs bd q mb ⟨A,bz,brk⟩++(X::F)) ah ?_
  ((refine ad hE Tryz.func38 zr zr ⟨pB brk bz x,⟨A,bz,brk⟩,rfl,rfl,by unfold mh;rw[if_pos jK];exact⟨rfl,rfl⟩⟩))
 intro heq
 have uO:¬lf ⟨A,bz,brk⟩ x≠0:=by show ¬pB brk bz x≠0;omega
 refine go ?_
 refine aH (U:=aR) (l:=bH x) 3 zr zr zr zr zr zr ?_
 have qE:=AJ x i
 unfold dG at qE
 have hP1:∀(e:Nat) (t:fg),dI x i=none→e=1→t=⟨A,bz,brk⟩→mh x i b ⟨A,bz,brk⟩ e t:=fun e t h he ht=>by
  grind [mh]
 have hP2:∀(at_ n:Int),dI x i=some (at_,n)→(b.length:Int)≠n→mh x i b ⟨A,bz,brk⟩ 1 ⟨A,bz,brk⟩:=fun at_ n h hl=>by
  grind [mh]
 have hP3:∀(at_ n:Int) (e:Nat) (t:fg),dI x i=some (at_,n)→¬(b.length:Int)≠n→Bt [fh (fS x) at_.toNat b] ⟨A,bz,brk⟩ e t→mh x i b ⟨A,bz,brk⟩ e t:=fun at_ n e t h hl hc=>by
  grind [mh]
 have SB:∀at_ n,dI x i=some (at_,n)→0≤at_∧at_≤9223372036854775807:=fun at_ n h=>by
  unfold dI at h
  split at h
  ·cases h
  ·rename_i hn
   injection h with h
   injection h with h1 h2
   obtain⟨hr,Cj,Vn⟩:=yl (x:=x) (i:=i) ag ag
   grind [bI]
 refine go ?_
 refine aN qE ?_
 cases iC:dI x i with
 | none =>
  simp only
  refine go ?_
  refine aC zr zr zr bE ?_
  intro tG
  refine go ?_
  refine ai (H':=du bs bd q mb ⟨A,bz,brk⟩++(X::F)) ah ?_
  refine ad hE Tryz.func38 zr zr ⟨1,⟨A,bz,brk⟩,rfl,rfl,hP1 _ _ iC zr zr⟩
 | some w =>
  obtain⟨at_,n⟩:=w
  simp only
  refine go ?_
  refine aC zr zr zr bE ?_
  intro tG
  refine go ?_
  refine au zr zr ?_ ?_
  ·intro zR
   have hl:(b.length:Int)≠n:=zR
   refine go ?_
   refine ai (H':=du bs bd q mb ⟨A,bz,brk⟩++(X::F)) ah ?_
   refine ad hE Tryz.func38 zr zr ⟨1,⟨A,bz,brk⟩,rfl,rfl,hP2 at_ n iC hl⟩
  ·intro zR
   have hl:¬(b.length:Int)≠n:=zR
   obtain⟨Y,hY⟩:∃Y,Y=([ae b4 (cl [ptr bs] 30),ae b5 (cl (bH x) 39),ae tG (cl [.int .i64 at_] 3),ae b7 (cl [.slice a b.length c] 40),X]:List HP):=⟨_,rfl⟩
   have qe:∀F,ak (ae bs (cl (eR bd q mb brk) 113)::aE bd A::([ae b4 (cl [ptr bs] 30),ae b5 (cl (bH x) 39),ae tG (cl [.int .i64 at_] 3),ae b7 (cl [.slice a b.length c] 40),X]++F)) (n9 bs bd q mb brk (Sep Y) A::F):=fun F=>by rw[hY];exact vT bs bd q mb brk _ A F
   have tz:∀(bk:Bool) B F,ak (n9 bs bd q mb bk (Sep Y) B::F) (ae bs (cl (eR bd q mb bk) 113)::aE bd B::([ae b4 (cl [ptr bs] 30),ae b5 (cl (bH x) 39),ae tG (cl [.int .i64 at_] 3),ae b7 (cl [.slice a b.length c] 40),X]++F)):=fun bk B F=>by rw[hY];exact pj bs bd q mb bk _ B F
   have wy:∀(i:Nat) (fv:Value) (sp:Bw),[.func (.func 94) #[] #[ptr b4,ptr b5,ptr tG,ptr b7] ][i]?=some fv→[fh (fS x) at_.toNat b][i]?=some sp→∃g fi cap,fv = .func (.func g) fi cap∧∀y,GQ A i y→aD Tryz.prog g (fi.toList++cap.toList) [n9 bs bd q mb brk (Sep Y) y] (fun r H=>∃(e:Nat) (x':Ab),r = .int .i64 (e:Int)∧H=[n9 bs bd q mb brk (Sep Y) x']∧sp y e x'∧(e=0→GQ A (i+1) x')):=by
    intro i fv sp hi hs
    match i,hi,hs with
    | 0,hi,hs =>
     cases hi;cases hs
     refine⟨_,_,_,rfl,fun y hy=>?_⟩
     subst hY
     have h0:=Mn bs bd b4 b5 tG b7 q mb brk x at_ X (.slice a b.length c) b hv y (by have:=hy.2;omega) kQ (SB at_ n iC)
     refine(pL (p:=fh (fS x) at_.toNat b y) h0).post ?_
     rintro r H⟨e,B,rfl,rfl,h1⟩
     exact⟨e,B,rfl,rfl,h1,fun _=>hy.next (uT h1)⟩
    | k+1,hi,hs=>simp at hi
   refine go ?_
   refine ao (cs:=[.func (.func 94) #[] #[ptr b4,ptr b5,ptr tG,ptr b7] ]) zr zr zr zr zr zr zr zr zr bE ?_
   intro row
   have Gt:=lO bs bd q mb brk (Sep Y) (ae row (cl [.func (.func 94) #[] #[ptr b4,ptr b5,ptr tG,ptr b7] ] 83)) (.slice (some ⟨row,0,none⟩) 1 1) [.func (.func 94) #[] #[ptr b4,ptr b5,ptr tG,ptr b7] ] (Vw.ae rfl) (by show 1≤_;omega) [fh (fS x) at_.toNat b] rfl (GQ A) wy A (GQ.zero A)
   refine aJ (H':=ae row (cl [.func (.func 94) #[] #[ptr b4,ptr b5,ptr tG,ptr b7] ] 83)::n9 bs bd q mb brk (Sep Y) A::aL dV mb (eb bz)::F) (ak.trans (H2:=ae bs (cl (eR bd q mb brk) 113)::aE bd A::([ae b4 (cl [ptr bs] 30),ae b5 (cl (bH x) 39),ae tG (cl [.int .i64 at_] 3),ae b7 (cl [.slice a b.length c] 40),X]++(ae row (cl [.func (.func 94) #[] #[ptr b4,ptr b5,ptr tG,ptr b7] ] 83)::aL dV mb (eb bz)::F))) ah (ak.trans (qe _) ah)) ?_
   refine aI Gt ?_
   rintro _ _⟨e,B,rfl,rfl,cX,-⟩
   refine go ?_
   refine ai (H':=du bs bd q mb ⟨B,bz,brk || decide (e≠0)⟩++(X::F)) (ak.trans (ak.pick [1] rfl) (ak.trans (tz _ B _) ah)) ?_
   refine ad hE Tryz.func38 zr zr ⟨e,⟨B,bz,or brk (decide (e≠0))⟩,rfl,rfl,hP3 at_ n e _ iC hl ⟨B,cX,rfl⟩⟩
def ou(A:Ab)(nm:ByteArray):Nat:=if(j0 kB nm).isSome then(A.size nm).1 else 0
theorem C4{α:Type}{l m:List α}(h:l.Perm m)(f:α→Nat):(l.map f).sum=(m.map f).sum:=by
 grind
theorem eA(h:(A.names.map (·.1)).Nodup){x:ByteArray × Nat}(hx:x∈A.names):A.look x.1=some x.2:=by
 have key:∀(l:List (ByteArray × Nat)),(l.map (·.1)).Nodup→x∈l→(l.find? (fun y=>decide (y.1=x.1))).map (·.2)=some x.2:=by
  intro l
  induction l with
  | nil=>intro _ h;cases h
  | cons y l ih =>
   grind
 exact key A.names h hx
theorem xF(A:Ab):(gh A).Perm (A.names.map (·.1)):=by
 unfold gh eP
 have h:=(nB (A.names.map (·.1))).map strOf
 rw[List.map_map]at h
 have h2:(A.names.map (·.1)).map (strOf ∘ fun b=>b.data.toList)=A.names.map (·.1):=by
  rw[List.map_map]
  refine List.map_congr_left fun x _=>?_
  exact yX x.1
 grind
def yN(h:(A.names.map (·.1)).Nodup):tW A=((gh A).map (ou A)).sum:=by
 rw[C4 (xF A),List.map_map]
 unfold tW
 congr 1
 refine List.map_congr_left fun x hx=>?_
 have hl:=eA h hx
 simp only[Function.comp,ou,Ab.size,hl]
def Du(h:LR A)(nm:ByteArray):ou A nm≤1048576:=by
 unfold ou Ab.size
 split
 ·cases A.look nm with
  | none=>simp
  | some f=>exact h.now f
 ·omega
def vS{α:Type}(l:List α)(f:α→Nat)(m:Nat)(h:∀x∈l,f x≤m):(l.map f).sum≤l.length*m:=by
 induction l with
 | nil=>simp
 | cons x l ih =>
  have h1:=h x (List.mem_cons_self ..)
  have h2:=ih (fun y hy=>h y (List.mem_cons_of_mem _ hy))
  simp only[List.map_cons,List.sum_cons,List.length_cons,Nat.add_mul,Nat.one_mul]
  omega
def oy(bz:List (Dg × Bl))(dn:List Dg):Int:=((bz.filter fun x=>decide (x.1∈dn)).map (·.2.size)).sum
def Ql(bz:List (Dg × Bl)):oy bz []=0:=by unfold oy;rw[List.filter_eq_nil_iff.2 (by simp)];rfl
def FR(bz:List (Dg × Bl))(dn:List Dg)(h:∀x∈bz,x.1∈dn):oy bz dn=(bz.map (·.2.size)).sum:=by
 unfold oy
 rw[List.filter_eq_self.2 (fun x hx=>decide_eq_true (h x hx))]
theorem MH(bz:List (Dg × Bl))(key:Dg)(dn:List Dg)(h:key ∉ bz.map (·.1)):oy bz (key::dn)=oy bz dn:=by
 unfold oy
 congr 2
 refine List.filter_congr fun x hx=>?_
 grind
theorem MI(bz:List (Dg × Bl))(key:Dg)(y:Bl)(dn:List Dg)(hn:(bz.map (·.1)).Nodup)(hm:(key,y)∈bz)(hd:key ∉ dn):oy bz (key::dn)=oy bz dn+y.size:=by
 induction bz with
 | nil=>cases hm
 | cons x l ih =>
  grind [MH,oy]
theorem KN(bz:List (Dg × Bl))(dn:List Dg)(h:∀x∈bz,0≤x.2.size∧x.2.size≤1048576):0≤oy bz dn∧oy bz dn≤bz.length*1048576:=by
 unfold oy
 induction bz with
 | nil=>simp
 | cons x l ih =>
  obtain⟨h1,h2⟩:=h x (List.mem_cons_self ..)
  obtain⟨h3,h4⟩:=ih (fun y hy=>h y (List.mem_cons_of_mem _ hy))
  grind
def qa(bz:List (Dg × Bl)):Prop:=(∀x∈bz,0≤x.2.size∧x.2.size≤1048576)∧bz.length≤1000000
theorem UJ(bs bd:Nat)(q:Int)(mb:Nat)(s:fg)(hb:qa s.bz):aD Tryz.prog 77 [ptr bs] (du bs bd q mb s)
  (fun r H=>r = .int .i64 (mG s)∧H=du bs bd q mb s):=by
 obtain⟨A,bz,brk⟩:=s
 obtain⟨pZ,tC⟩:=hb
 simp only at pZ tC
 refine aD.aw Tryz.func77 Tryz.ntmps77 fun G F R hE=>?_
 refine ai (H':=ae bs (cl (eR bd q mb brk) 113)::aE bd A::aL dV mb (eb bz)::F) ah ?_
 refine vt (bd:=bd) (A:=A) 1 rfl ?_
 intro Jm
 have QZ:=tp Jm
 have Gb:mG ⟨A,bz,brk⟩=((gh A).map (ou A)).sum+(bz.map (·.2.size)).sum:=by
  unfold mG
  rw[yN (Jm.nodup _ (List.mem_cons_self ..))]
 obtain⟨l,hl⟩:∃l,l=gh A:=⟨_,rfl⟩
 rw[← hl]at Gb QZ
 rw[Gb]at hE
 have hle:∀i,((l.take i).map (ou A)).sum≤209715200:=fun i=>by
  have h1:=vS (l.take i) (ou A) 1048576 (fun x _=>Du Jm x)
  grind
 refine go ?_
 have oG:=vr bd A
 rw[← hl]at oG
 refine aI oG ?_
 rintro r _ rfl
 refine aP 0 rfl ?_
 rintro ra rc rfl
 refine jt 0 rfl ?_
 intro dO
 refine go ?_
 refine bB (fun i:Nat=>i≤l.length) (fun i=>l.length-i)
  (fun i=>[(0,ptr bs),(3,.int .i64 (((l.take i).map (ou A)).sum:Nat)),(16,.slice ra l.length rc),(17,.int .i64 (l.length:Int)),(18,.int .i64 (i:Int))])
  (fun i=>aF 9 1 (.slice ra l.length rc) l.length (l.map Value.string)::ae bs (cl (eR bd q mb brk) 113)::aE bd A::aL dV mb (eb bz)::F) 0 (Nat.zero_le _) rfl ck ah ?_
 rintro i hi ih
 have tQ:=hle i
 refine go ?_
 refine au zr zr ?_ ?_
 ·intro dJ
  have gz:i<l.length:=by omega
  obtain⟨nm,hx⟩:∃x,l[i]?=some x:=⟨l[i],by simp⟩
  have kV:((l.take (i+1)).map (ou A)).sum=((l.take i).map (ou A)).sum+ou A nm:=by
   rw[List.take_add_one,hx];simp
  have dK:(l.map Value.string)[i]?=some (.string nm):=by rw[List.getElem?_map,hx];rfl
  have fq:=Du Jm nm
  obtain⟨b,o,gZ,fL⟩:=dO.some (by intro h;rw[h]at dK;simp at dK)
  simp only[Value.slice.injEq]at fL
  obtain⟨rfl,_,rfl⟩:=fL
  refine go ?_
  refine bZ i 1 zr zr zr zr zr zr zr zr gz ?_
  refine aK ?_
  refine aX 0 (i*1) zr zr zr dO rfl (by rw[Nat.mul_one];exact dK) zr zr ?_
  refine go ?_
  refine aN (Gv kB nm (by decide)) ?_
  cases hh:j0 kB nm with
  | none =>
   have hz:ou A nm=0:=by unfold ou;rw[hh];rfl
   have Zo:((l.take i).map (ou A)).sum=((l.take (i+1)).map (ou A)).sum:=by omega
   simp only[Gw]
   unfold dV
   refine go ?_
   refine aC zr zr zr bE ?_
   intro b9
   refine go ?_
   rw[Zo]
   refine aM ih (i+1) rfl ag ag ck ah
  | some d =>
   have hz:ou A nm=(A.size nm).1:=by unfold ou;rw[hh];rfl
   rw[hz]at kV fq
   simp only[Gw]
   unfold dV
   refine go ?_
   refine aC zr zr zr bE ?_
   intro b9
   refine go ?_
   refine aN (vl bd A nm) ?_
   refine go ?_
   refine bj 3 (.int .i64 (((l.take (i+1)).map (ou A)).sum:Nat)) rfl (congrArg (Value.int .i64) (by rw[kV];omega)) ?_
   refine aM ih (i+1) rfl ag ag ck ah
 ·intro fO
  have tR:i=l.length:=by omega
  subst tR
  rw[List.take_length]
  obtain⟨n0,Vl⟩:∃n0,n0=(l.map (ou A)).sum:=⟨_,rfl⟩
  rw[List.take_length]at tQ
  rw[← Vl]at tQ hE ⊢
  refine sK fun⟨w,hw⟩=>?_
  have jh:(bz.map (·.1)).Nodup:=by
   obtain⟨h1,hA⟩:=DL hw (i:=3) rfl
   have:=I0 hA
   grind [eb]
  clear hw w
  refine go ?_
  refine yC (kv:=dV) (es:=eb bz) (U:=aR) 3 zr zr zr zr zr (fun _=>rfl) bE ?_
  intro it
  refine go ?_
  have Gm:(eb bz).map (·.1)=bz.map (·.1):=by unfold eb;rw[List.map_map];rfl
  have iY:∀dn,0≤oy bz dn∧oy bz dn≤1048576000000:=fun dn=>by
   have:=KN bz dn pZ
   omega
  have h00:(n0:Int)=(n0:Int)+oy bz []:=by rw[Ql];omega
  refine bj 3 (.int .i64 ((n0:Int)+oy bz [])) rfl (congrArg (Value.int .i64) h00) ?_
  refine bB (fun s:List Dg=>s.Nodup∧∀x∈s,x∈bz.map (·.1)) (fun s=>bz.length-s.length) (fun s=>[(0,ptr bs),(3,.int .i64 ((n0:Int)+oy bz s)),(45,.pointer (some ⟨it,0,none⟩))])
   (fun s=>bU dV mb it (eb bz) s::ae bs (cl (eR bd q mb brk) 113)::aE bd A::F) [] ⟨List.nodup_nil,by simp⟩ rfl ck ah ?_
  clear ih
  rintro dn⟨uP,dU⟩ ih
  have hsd:=iY dn
  refine go ?_
  refine Ek (kv:=dV) (es:=eb bz) 0 rfl Tt.inj zr zr (fun _=>rfl) gf bE ?_ ?_
  ·intro iy
   have hme:oy bz dn=(bz.map (·.2.size)).sum:=FR bz dn (fun x hx=>iy (x.1,dG x.2) (List.mem_map.2 ⟨x,hx,rfl⟩))
   rw[hme]
   refine go ?_
   refine ai (ak.head (B:=[aL dV mb (eb bz)]) (fun h hs=>by obtain⟨h',s,hm⟩:=rC h hs;exact⟨h',s,gu hm⟩)) ?_
   refine ai (H':=du bs bd q mb ⟨A,bz,brk⟩++F) ah ?_
   refine ad hE Tryz.func77 zr zr ⟨rfl,rfl⟩
  ·intro key v gp zP
   obtain⟨y,hy,hye⟩:∃y,(key,y)∈bz∧v=dG y:=by
    obtain⟨z,hz,he⟩:=List.mem_map.1 gp
    cases he
    grind
   subst hye
   have Vn:=MI bz key y dn jh hy zP
   have afP:=iY (key::dn)
   have hk:key∈bz.map (·.1):=List.mem_map.2 ⟨_,hy,rfl⟩
   have dJ:dn.length<bz.length:=by
    have h1:(key::dn).length≤(bz.map (·.1)).length:=(List.nodup_cons.2 ⟨zP,uP⟩).length_le_of_subset (fun x hx=>by rcases List.mem_cons.1 hx with rfl|h;exact hk;exact dU x h)
    grind
   refine go ?_
   refine yG (kv:=dV) (es:=eb bz) 0 rfl Tt.inj zr zr gp ?_
   unfold dG
   refine go ?_
   refine aC zr zr zr bE ?_
   intro VT
   refine go ?_
   refine bj 3 (.int .i64 ((n0:Int)+oy bz (key::dn))) rfl (congrArg (Value.int .i64) (by rw[Vn];omega)) ?_
   refine aM ih (key::dn) rfl (⟨List.nodup_cons.2 ⟨zP,uP⟩,fun x hx=>by rcases List.mem_cons.1 hx with rfl|h;exact hk;exact dU x h⟩) (by show _-(key::dn).length<_;simp only[List.length_cons];omega) ck ah
end Go.Proofs.YthnfckodljbgbaaGreatDoor
namespace Go.Proofs.YthnfckodljbgbaaGreatDoor
open Go Go.SL
structure HA(A:Ab):Prop where
 ec:A.ec=[]
 on:A.off=false
 keys:(A.names.map (·.1)).Nodup
 own:(A.names.map (·.2)).Nodup
 ids:(A.fs.map (·.1)).Nodup
 known:∀x∈A.names,x.2∈A.fs.map (·.1)
def vw(A:Ab)(nm:ByteArray):Option (List UInt8):=(A.look nm).map A.now
def HA.new(room:Nat):HA (Ab.new room):=⟨rfl,rfl,List.nodup_nil,List.nodup_nil,List.nodup_nil,fun _ h=>by cases h⟩
def HA.meet{A:Ab}(h:HA A):A.meet true=(0,A):=by unfold Ab.meet;rw[if_neg (by simp),if_neg (by rw[h.on];simp),h.ec]
theorem HA.find{A:Ab}(h:HA A)(nm:ByteArray):A.find nm true=match A.look nm with|none=>(4,none,A)|some f=>(0,some f,A):=by
 unfold Ab.find
 rw[h.meet,if_pos rfl]
 grind
theorem iv{A:Ab}{nm:ByteArray}{f:Nat}(h:A.look nm=some f):(nm,f)∈A.names:=by
 unfold Ab.look Ab.bC at h
 cases hx:A.names.find? (fun x=>decide (x.1=nm))with
 | none=>rw[hx]at h;cases h
 | some x =>
  grind
theorem HA.Y6{A:Ab}(h:HA A){a b:ByteArray}{f:Nat}(ha:A.look a=some f)(hb:A.look b=some f):a=b:=by
 have h1:=iv ha
 have h2:=iv hb
 have hn:=h.own
 have key:∀l:List (ByteArray × Nat),(l.map (·.2)).Nodup→(a,f)∈l→(b,f)∈l→a=b:=by
  intro l
  induction l with
  | nil=>intro _ h;cases h
  | cons y l ih =>
   grind
 grind
theorem FZ(l:List (ByteArray × Nat))(k nm:ByteArray)(f:Nat)(hk:Ab.bC l k=none):Ab.bC (l++[(k,f)]) nm=if nm=k then some f else Ab.bC l nm:=by
 unfold Ab.bC at hk ⊢
 grind
theorem KK{A:Ab}{f g:Nat}(names:List (ByteArray × Nat))(aj:List (List (ByteArray × Nat))):({ A with names:=names,aj:=aj,fs:=(f,[],[])::A.fs }:Ab).now g=if f=g then []else A.now g:=by
 unfold Ab.now Ab.file
 grind
theorem HA.create{A:Ab}(h:HA A){nm:ByteArray}{f:Nat}(hv:vw A nm=none)(hl:A.names.length<200)(hf:f ∉ A.fs.map (·.1)){e:Nat}{B:Ab}(hB:(e,B)=A.create true nm f) :
  e=0∧HA B∧(∀n,vw B n=if n=nm then some []else vw A n)∧B.names.length=A.names.length+1∧B.room=A.room:=by
 have l9:A.look nm=none:=by
  unfold vw at hv
  cases hx:A.look nm with
  | none=>rfl
  | some x=>rw[hx]at hv;cases hv
 have hc:A.create true nm f=(0,{ A.n7 (A.names++[(nm,f)])with fs:=(f,[],[])::A.fs }):=by
  unfold Ab.create
  rw[h.meet,if_pos rfl]
  grind
 rw[hc]at hB
 injection hB with h1 h2
 subst h1 h2
 have aeC:∀n g,A.look n=some g→f≠g:=fun n g hg e=>hf (e ▸ h.known _ (iv hg))
 refine⟨rfl,⟨h.ec,h.on,?_,?_,?_,?_⟩,?_,?_,rfl⟩
 ·show((A.names++[(nm,f)]).map (·.1)).Nodup
  rw[List.map_append,List.nodup_append]
  refine⟨h.keys,by simp,fun a ha b hb=>?_⟩
  simp only[List.map_cons,List.map_nil,List.mem_singleton]at hb
  subst hb
  rintro rfl
  obtain⟨x,hx,OR⟩:=List.mem_map.1 ha
  have:=eA h.keys hx
  grind
 ·show((A.names++[(nm,f)]).map (·.2)).Nodup
  rw[List.map_append,List.nodup_append]
  refine⟨h.own,by simp,fun a ha b hb=>?_⟩
  simp only[List.map_cons,List.map_nil,List.mem_singleton]at hb
  subst hb
  rintro rfl
  obtain⟨x,hx,rfl⟩:=List.mem_map.1 ha
  exact hf (h.known x hx)
 ·exact List.nodup_cons.2 ⟨hf,h.ids⟩
 ·intro x hx
  rcases List.mem_append.1 hx with hx|hx
  ·exact List.mem_cons_of_mem _ (h.known x hx)
  grind
 ·intro n
  unfold vw
  have e1:({ A.n7 (A.names++[(nm,f)])with fs:=(f,[],[])::A.fs }:Ab).look n=if n=nm then some f else A.look n:=FZ A.names nm n f l9
  rw[e1]
  by_cases hn:n=nm
  ·rw[if_pos hn,if_pos hn]
   show some _=_
   exact congrArg some ((KK _ _).trans (if_pos rfl))
  ·rw[if_neg hn,if_neg hn]
   cases hg:A.look n with
   | none=>rfl
   | some g=>exact congrArg some ((KK _ _).trans (if_neg (aeC n g hg)))
 ·show(A.names++[(nm,f)]).length=_
  simp
theorem Qf(A:Ab)(f g:Nat)(n:List UInt8)(w:List (Nat × Nat × List UInt8))(hg:g∈A.fs.map (·.1)):({ A with fs:=Ab.BI A.fs f n,writes:=w }:Ab).now g=if g=f then n else A.now g:=by
 unfold Ab.now Ab.file Ab.BI
 simp only[List.find?_map]
 have:((fun x:Nat × List UInt8 × List UInt8=>decide (x.1=g)) ∘ fun x=>if x.1=f then(x.1,n,x.2.2)else x)=fun x=>decide (x.1=g):=by
  grind
 rw[this]
 cases hx:A.fs.find? (fun x=>decide (x.1=g))with
 | none =>
  grind
 | some x =>
  grind
theorem HA.write{A:Ab}(h:HA A){nm:ByteArray}{c:List UInt8}(hv:vw A nm=some c)(at_:Nat)(b:List UInt8)(hr:A.used+(at_+b.length)≤A.room){e:Nat}{B:Ab}(hB:(e,B)=A.write true nm at_ b) :
  e=0∧HA B∧(∀n,vw B n=if n=nm then some (bJ c at_ b)else vw A n)∧B.names=A.names∧B.room=A.room:=by
 obtain⟨f,hf,rfl⟩:∃f,A.look nm=some f∧A.now f=c:=by
  unfold vw at hv
  cases hx:A.look nm with
  | none=>rw[hx]at hv;cases hv
  | some f=>rw[hx]at hv;injection hv with hv;exact⟨f,rfl,hv⟩
 have hc:A.write true nm at_ b=(0,{ A with fs:=Ab.BI A.fs f (bJ (A.now f) at_ b),writes:=A.writes++[(f,at_,b)] }):=by
  unfold Ab.write
  rw[h.find,hf]
  grind
 rw[hc]at hB
 injection hB with h1 h2
 subst h1 h2
 have M9:∀g,g∈A.fs.map (·.1)→({ A with fs:=Ab.BI A.fs f (bJ (A.now f) at_ b),writes:=A.writes++[(f,at_,b)] }:Ab).now g=if g=f then bJ (A.now f) at_ b else A.now g:=fun g hg=>Qf A f g _ _ hg
 refine⟨rfl,⟨h.ec,h.on,h.keys,h.own,?_,?_⟩,?_,rfl,rfl⟩
 ·show((Ab.BI A.fs f _).map (·.1)).Nodup
  rw[tX]
  exact h.ids
 ·intro x hx
  show x.2∈(Ab.BI A.fs f _).map (·.1)
  rw[tX]
  exact h.known x hx
 ·intro n
  unfold vw
  show(A.look n).map _=_
  by_cases hn:n=nm
  ·subst hn
   rw[if_pos rfl,hf]
   exact congrArg some ((M9 f (h.known _ (iv hf))).trans (if_pos rfl))
  ·rw[if_neg hn]
   cases hg:A.look n with
   | none=>rfl
   | some g=>exact congrArg some ((M9 g (h.known _ (iv hg))).trans (if_neg (fun e=>hn (h.Y6 (e ▸ hg) hf))))
theorem BH(fs:List (Nat × List UInt8 × List UInt8))(f:Nat):(Ab.nV fs f).map (·.1)=fs.map (·.1):=by
 unfold Ab.nV
 rw[List.map_map]
 refine List.map_congr_left fun x _=>?_
 grind
theorem MC(A:Ab)(f g:Nat)(w:List (Nat × Nat × List UInt8)):({ A with fs:=Ab.nV A.fs f,writes:=w }:Ab).now g=A.now g:=by
 unfold Ab.now Ab.file Ab.nV
 simp only[List.find?_map]
 have:((fun x:Nat × List UInt8 × List UInt8=>decide (x.1=g)) ∘ fun x=>if x.1=f then(x.1,x.2.1,x.2.1)else x)=fun x=>decide (x.1=g):=by
  grind
 rw[this]
 cases A.fs.find? (fun x=>decide (x.1=g))with
 | none=>rfl
 | some x =>
  grind
theorem HA.sync{A:Ab}(h:HA A){nm:ByteArray}{c:List UInt8}(hv:vw A nm=some c){e:Nat}{B:Ab}(hB:(e,B)=A.sync true nm) :
  e=0∧HA B∧(∀n,vw B n=vw A n)∧B.names=A.names∧B.room=A.room:=by
 obtain⟨f,hf⟩:∃f,A.look nm=some f:=by
  unfold vw at hv
  cases hx:A.look nm with
  | none=>rw[hx]at hv;cases hv
  | some f=>exact⟨f,rfl⟩
 have hc:A.sync true nm=(0,{ A with fs:=Ab.nV A.fs f,writes:=A.writes.filter fun x => !decide (x.1=f) }):=by
  unfold Ab.sync
  rw[h.find,hf]
  grind
 rw[hc]at hB
 injection hB with h1 h2
 subst h1 h2
 refine⟨rfl,⟨h.ec,h.on,h.keys,h.own,?_,?_⟩,?_,rfl,rfl⟩
 ·show((Ab.nV A.fs f).map (·.1)).Nodup
  rw[BH]
  exact h.ids
 ·intro x hx
  show x.2∈(Ab.nV A.fs f).map (·.1)
  rw[BH]
  exact h.known x hx
 ·intro n
  unfold vw
  show(A.look n).map _=_
  cases hg:A.look n with
  | none=>rfl
  | some g=>exact congrArg some (MC A f g _)
def HA.cp{A:Ab}(h:HA A){e:Nat}{B:Ab}(hB:(e,B)=A.cp):e=0∧HA B∧(∀n,vw B n=vw A n)∧B.names=A.names∧B.room=A.room:=by
 have hc:A.cp=(0,{ A with aj:=[A.names] }):=by
  unfold Ab.cp
  rw[h.meet,if_pos rfl]
 rw[hc]at hB
 injection hB with h1 h2
 subst h1 h2
 exact⟨rfl,⟨h.ec,h.on,h.keys,h.own,h.ids,h.known⟩,fun n=>rfl,rfl,rfl⟩
theorem uD(l:List (ByteArray × Nat))(k n:ByteArray):Ab.bC (Ab.ef l k) n=if n=k then none else Ab.bC l n:=by
 unfold Ab.bC Ab.ef
 grind
theorem HA.rename{A:Ab}(h:HA A){o n:ByteArray}{c:List UInt8}(df:o≠n)(hv:vw A o=some c)(KY:vw A n=none){e:Nat}{B:Ab}(hB:(e,B)=A.rename true o n) :
  e=0∧HA B∧(∀m,vw B m=if m=n then some c else if m=o then none else vw A m)∧B.room=A.room∧∃f,A.look o=some f∧B.names=Ab.ef A.names o++[(n,f)]:=by
 obtain⟨f,hf,rfl⟩:∃f,A.look o=some f∧A.now f=c:=by
  unfold vw at hv
  cases hx:A.look o with
  | none=>rw[hx]at hv;cases hv
  | some f=>rw[hx]at hv;injection hv with hv;exact⟨f,rfl,hv⟩
 have zR:A.look n=none:=by
  unfold vw at KY
  cases hx:A.look n with
  | none=>rfl
  | some x=>rw[hx]at KY;cases KY
 have TR:Ab.bC (Ab.ef A.names o) n=none:=by
  rw[uD]
  split
  ·rfl
  ·exact zR
 have jA:Ab.jT (Ab.ef A.names o) n f=Ab.ef A.names o++[(n,f)]:=by
  unfold Ab.jT
  grind
 have hc:A.rename true o n=(0,A.n7 (Ab.ef A.names o++[(n,f)])):=by
  unfold Ab.rename
  rw[h.find,hf]
  grind
 rw[hc]at hB
 injection hB with h1 h2
 subst h1 h2
 have dU:∀x∈Ab.ef A.names o,x∈A.names∧x.1≠o:=fun x hx=>by
  obtain⟨h1,h2⟩:=List.mem_filter.1 hx
  grind
 refine⟨rfl,⟨h.ec,h.on,?_,?_,h.ids,?_⟩,?_,rfl,f,hf,rfl⟩
 ·show((Ab.ef A.names o++[(n,f)]).map (·.1)).Nodup
  rw[List.map_append,List.nodup_append]
  refine⟨(List.filter_sublist.map _).nodup h.keys,by simp,fun a ha b hb=>?_⟩
  simp only[List.map_cons,List.map_nil,List.mem_singleton]at hb
  subst hb
  rintro rfl
  obtain⟨x,hx,rfl⟩:=List.mem_map.1 ha
  have:=eA h.keys (dU x hx).1
  grind
 ·show((Ab.ef A.names o++[(n,f)]).map (·.2)).Nodup
  rw[List.map_append,List.nodup_append]
  refine⟨(List.filter_sublist.map _).nodup h.own,by simp,fun a ha b hb=>?_⟩
  simp only[List.map_cons,List.map_nil,List.mem_singleton]at hb
  subst hb
  rintro rfl
  obtain⟨x,hx,OR⟩:=List.mem_map.1 ha
  have h3:=eA h.keys (dU x hx).1
  rw[OR]at h3
  exact(dU x hx).2 (h.Y6 h3 hf)
 ·intro x hx
  rcases List.mem_append.1 hx with hx|hx
  ·exact h.known x (dU x hx).1
  ·simp only[List.mem_singleton]at hx
   subst hx
   exact h.known (o,f) (iv hf)
 ·intro m
  unfold vw
  have e1:(A.n7 (Ab.ef A.names o++[(n,f)])).look m=if m=n then some f else if m=o then none else A.look m:=by
   refine(FZ (Ab.ef A.names o) n m f TR).trans ?_
   rw[uD]
   rfl
  rw[e1]
  by_cases hm:m=n
  ·rw[if_pos hm,if_pos hm];rfl
  ·rw[if_neg hm,if_neg hm]
   by_cases hmo:m=o
   ·grind
   ·rw[if_neg hmo,if_neg hmo];rfl
theorem Pf(d:Dg):(ir d).all Y'=true:=by
 grind [ir,ui,l3,Y']
theorem xL(k:List UInt8)(d:Dg)(hk:k.length≤10)(ho:k.all Y'=true):isName (dv k d)=true:=by
 unfold isName dv
 rw[sR]
 have hs:(strOf (k++ir d)).size=k.length+64:=by
  show(k++ir d).toArray.size=_
  grind [kZ]
 grind [Pf]
theorem jg(x:Bl):isName (fS x)=true:=xL kS x.d (by decide) (by decide)
def MW(x:Bl):isName (fB x)=true:=xL kB x.d (by decide) (by decide)
theorem KQ(x:Bl)(at_:Nat)(b:List UInt8)(h:at_+b.length≤1048576):fK (fS x) at_ b=true:=by
 grind [fK,jg]
theorem rJ(A:Ab)(nm:ByteArray):pK A nm=(vw A nm).isSome:=by
 grind [pK,vw]
def NJ{A:Ab}(h:HA A)(nm:ByteArray):eN A nm=vw A nm:=by
 unfold eN vw
 cases A.look nm with
 | none=>rfl
 | some f=>simp[h.on]
theorem HT{q:Int}{x:Bl}{s t:fg}{e:Nat}(h:HA s.A)(hb:s.brk=false)(hr:bI x=true)(lh:gT s.bz x.d=none)(hB:vw s.A (fB x)=none)(hq:mG s+x.size≤q)(hS:vw s.A (fS x)=none)(hn:s.A.names.length<200)(hR:eh q x s e t) :
  e=0∧HA t.A∧t.brk=false∧t.bz=s.bz++[(x.d,x)]∧(∀n,vw t.A n=if n=fS x then some []else vw s.A n)∧t.A.names.length=s.A.names.length+1∧t.A.room=s.A.room:=by
 obtain⟨A,bz,brk⟩:=s
 simp only at h hb lh hB hS hn
 subst hb
 unfold eh at hR
 rw[if_neg (by simp),if_neg (by rw[hr];simp),if_neg (by rw[lh,rJ,hB];simp),if_neg ag,if_neg (by rw[rJ,hS];simp)]at hR
 obtain⟨e1,s1,⟨B,cX,rfl⟩,hc⟩:=hR
 obtain⟨e2,A2,⟨f,hf,Nm⟩,ya⟩:=cX
 rw[jg]at Nm
 obtain⟨rfl,h2,wx,mT,Bk⟩:=h.create hS hn hf Nm
 rcases ya with⟨df,_⟩|⟨_,e3,A3,H4,hc3⟩
 ·grind
 obtain⟨rfl,h3,hv3,K6,hr3⟩:=h2.cp H4
 rcases hc3 with⟨df,_⟩|⟨_,rfl,rfl⟩
 ·grind
 grind
theorem aav{x:Bl}{i at_ n:Int}{b c:List UInt8}{s t:fg}{e:Nat}(h:HA s.A)(hb:s.brk=false)(ho:gT s.bz x.d=some x)(iC:dI x i=some (at_,n))(hl:(b.length:Int)=n)(hv:vw s.A (fS x)=some c)(SB:0≤at_∧at_+b.length≤1048576)(oF:s.A.used+(at_.toNat+b.length)≤s.A.room)(hR:mh x i b s e t) :
  e=0∧HA t.A∧t.brk=false∧t.bz=s.bz∧(∀n,vw t.A n=if n=fS x then some (bJ c at_.toNat b)else vw s.A n)∧t.A.names=s.A.names∧t.A.room=s.A.room:=by
 obtain⟨A,bz,brk⟩:=s
 simp only at h hb ho hv oF
 subst hb
 unfold mh at hR
 have hm:lf ⟨A,bz,false⟩ x=0:=by unfold lf KI;simp[ho]
 rw[hm,if_neg (by simp),iC]at hR
 dsimp only at hR
 rw[if_neg ag]at hR
 obtain⟨B,⟨e1,A1,hw,hc⟩,rfl⟩:=hR
 unfold fh at hw
 rw[KQ x at_.toNat b ag]at hw
 obtain⟨rfl,h1,nr,Gl,Ex⟩:=h.write hv at_.toNat b oF hw
 rcases hc with⟨df,_⟩|⟨_,rfl,rfl⟩
 ·grind
 grind
def stE(bs bd:Nat)(q:Int)(mb:Nat):HP:=fun h=>∃b,ae bs (cl (eR bd q mb b) 113) h
def Ir(bs bd:Nat)(q:Int)(mb:Nat)(b:Bool)(H:List HP):ak (ae bs (cl (eR bd q mb b) 113)::H) (stE bs bd q mb::H) :=
 ak.fold (B:=[_]) fun h' hs=>⟨h',sub.refl h',b,ez hs⟩
def Pq{G:cQ}{w:World}{bs bd:Nat}{q:Int}{mb:Nat}{H:List HP}(hw:Sat G w (stE bs bd q mb::H)):w.cell? ⟨bs,0,none⟩=some (ptr bd):=by
 obtain⟨h,hh,b,hA⟩:=hw.lN (i:=0) rfl
 have hb:h bs=some (cl (eR bd q mb b) 113):=by rw[hA bs,if_pos rfl]
 exact ep hh (by unfold dK;rw[hb];rfl)
attribute [local irreducible] J K aD Ends ae aF aL bU bo aU bh bq cg Sha.chunks Sha.chunk Sha.rounds Sha.sched dW cy GI cS aE
section
variable{P:Program}{f:FuncId}{n:Nat}{R:Ending→World→Prop}{G:cQ}{L:fY}{H:List HP}{S:World→Prop}{all:Array Oper}{rest:Pl}
def adK{k k':List Item}{α:Type}(I:α→Prop)(Lf:α→fY)(Hf:α→List HP)(hk:iE 1000 k = .mk k')(tail:∀y,I y→K P f n R G k' (Lf y) (Hf y))(h:(∀y,I y→K P f n R G k' (Lf y) (Hf y))→J P f n R G S all rest k L H):J P f n R G S all rest k L H:=h tail
def aaD{k k':List Item}{α:Type}(m:Nat)(I:α→Prop)(Lf:α→fY)(Hf:α→List HP)(hk:iE 1000 (k.drop m) = .mk k')(tail:∀y,I y→K P f n R G k' (Lf y) (Hf y))(h:(∀y,I y→K P f n R G k' (Lf y) (Hf y))→J P f n R G S all rest k L H):J P f n R G S all rest k L H:=h tail
end
theorem O8{A:Ab}{bz:List (Dg × Bl)}{brk:Bool}(h:LR A)(hb:qa bz):0≤mG ⟨A,bz,brk⟩∧mG ⟨A,bz,brk⟩≤1048786000000:=by
 have h1:=KN bz (bz.map (·.1)) hb.1
 rw[FR bz _ (fun x hx=>List.mem_map.2 ⟨x,hx,rfl⟩)]at h1
 have h2:=yN (h.nodup _ (List.mem_cons_self ..))
 have h3:=vS (gh A) (ou A) 1048576 (fun x _=>Du h x)
 have h4:=tp h
 have h5:=hb.2
 grind [mG]
theorem RD(l:List (Dg × Bl))(x:Bl)(h:gT l x.d=none):gG (eb l) x.d (dG x)=eb (l++[(x.d,x)]):=by
 have hn:x.d ∉ (eb l).map (·.1):=by
  rw[← AA,wS,h];rfl
 grind [gG,eb]
theorem HU(bs bd:Nat)(q:Int)(hq:0≤q∧q≤1073741824)(mb:Nat)(s:fg)(x:Bl)(Rc:qa s.bz)(bP:s.A.aj.length≤900000000)(eW:s.A.writes.length≤900000000) :
  aD Tryz.prog 28 [ptr bs,dG x] (du bs bd q mb s)
  (fun r H=>∃(e:Nat) (t:fg),r = .int .i64 (e:Int)∧H=du bs bd q mb t∧eh q x s e t):=by
 obtain⟨A,bz,brk⟩:=s
 have ack:=UJ bs bd q mb ⟨A,bz,brk⟩ Rc
 obtain⟨pZ,tC⟩:=Rc
 simp only at bP eW pZ tC
 have zO:=oT x
 have Bo:=UX bs bd q mb brk A x.d
 refine aD.aw Tryz.func28 Tryz.ntmps28 fun G F R hE=>?_
 refine aB rfl ?_
 refine bG zr zr bE ?_
 intro b2
 refine bG zr zr bE ?_
 intro b3
 refine ln ?_
 refine aG (fun w=>Sat G w ([ae b3 (cl (bH x) 39),ae b2 (cl [ptr bs] 30),ae bs (cl (eR bd q mb brk) 113),aL dV mb (eb bz)])) (dj 0 10 (.act 10 (.act 11 (.st 12 .nil)))) rfl aq aq aq eo ?_
 refine adK (fun Zc:Bool=>Zc=(gT bz x.d).isSome) (fun Zc=>[(2,ptr b2),(3,ptr b3),(6,.bool Zc)]) (fun _=>ae b3 (cl (bH x) 39)::ae b2 (cl [ptr bs] 30)::ae bs (cl (eR bd q mb brk) 113)::aL dV mb (eb bz)::aE bd A::F) rfl ?_ ?_
 ·rintro Zc TV
  have hB0:brk=true→eh q x ⟨A,bz,brk⟩ 10 ⟨A,bz,brk⟩:=fun h=>by unfold eh;rw[if_pos h];exact⟨rfl,rfl⟩
  have hB1:¬brk=true→bI x=false→eh q x ⟨A,bz,brk⟩ 1 ⟨A,bz,brk⟩:=fun h h1=>by unfold eh;rw[if_neg h,if_pos h1];exact⟨rfl,rfl⟩
  have hB2:¬brk=true→¬bI x=false→(Zc=true∨pK A (fB x)=true)→eh q x ⟨A,bz,brk⟩ 5 ⟨A,bz,brk⟩:=fun h h1 h2=>by unfold eh;rw[TV]at h2;rw[if_neg h,if_neg h1,if_pos h2];exact⟨rfl,rfl⟩
  have hB3:∀e t,¬brk=true→¬bI x=false→¬(Zc=true∨pK A (fB x)=true)→(if q<mG ⟨A,bz,brk⟩+x.size then e=11∧t=⟨A,bz,brk⟩
    else if pK A (fS x)then e=0∧t=⟨A,bz++[(x.d,x)],brk⟩
    else ∃e1 s1,Bt [gm (fS x),cP] ⟨A,bz,brk⟩ e1 s1∧((e1≠0∧e=e1∧t=s1)∨(e1=0∧e=0∧t=⟨s1.A,s1.bz++[(x.d,x)],s1.brk⟩)))→eh q x ⟨A,bz,brk⟩ e t:=fun e t h h1 h2 h3=>by
   unfold eh;rw[TV]at h2;rw[if_neg h,if_neg h1,if_neg h2];exact h3
  cases brk with
  | true =>
   refine go ?_
   refine ad hE Tryz.func28 zr zr ⟨10,⟨A,bz,true⟩,rfl,rfl,hB0 rfl⟩
  | false =>
   refine vt (bd:=bd) (A:=A) 4 rfl ?_
   intro Jm
   have hul:=O8 (brk:=false) Jm ⟨pZ,tC⟩
   refine go ?_
   refine aH (U:=aR) (l:=bH x) 0 zr zr zr zr zr zr ?_
   refine aN zO ?_
   cases hr:bI x with
   | false =>
    refine go ?_
    refine ad hE Tryz.func28 zr zr ⟨1,⟨A,bz,false⟩,rfl,rfl,hB1 (by simp) hr⟩
   | true =>
    have QQ:¬bI x=false:=by rw[hr];simp
    have QN:=hr
    simp only[bI,decide_eq_true_eq]at QN
    cases Zc with
    | true =>
     refine go ?_
     refine ad hE Tryz.func28 zr zr ⟨5,⟨A,bz,false⟩,rfl,rfl,hB2 (by simp) QQ (.inl rfl)⟩
    | false =>
     refine go ?_
     refine dT 0 zr zr zr zr zr zr ?_
     ((refine go ?_;(refine aI Bo ?_)))
     rintro _ _⟨rfl,rfl⟩
     cases TY:pK A (dv kB x.d)with
     | true =>
      refine go ?_
      refine ad hE Tryz.func28 zr zr ⟨5,⟨A,bz,false⟩,rfl,rfl,hB2 (by simp) QQ (.inr TY)⟩
     | false =>
      have lh:¬(false=true∨pK A (fB x)=true):=by
       grind [pK,fB]
      refine go ?_
      refine aG (fun w=>Sat G w ([ae b3 (cl (bH x) 39),ae b2 (cl [ptr bs] 30),ae bs (cl (eR bd q mb false) 113)])) (.st 0 (.st 2 (.st 3 (dj 5 4 (.act 1 (.st 4 (.st 9 (.st 10 .nil)))))))) rfl aq aq aq eo ?_
      refine go ?_
      refine bp ack ?_
      refine go ?_
      refine au zr zr ?_ ?_
      ·intro hqu
       have Ey:q<mG ⟨A,bz,false⟩+x.size:=hqu
       refine go ?_
       ((refine ad hE Tryz.func28 zr zr ⟨11,⟨A,bz,false⟩,rfl,rfl,hB3 _ _ (by simp) QQ lh (by rw[if_pos Ey];exact⟨rfl,rfl⟩)⟩))
      ·intro hqu
       have Ey:¬q<mG ⟨A,bz,false⟩+x.size:=hqu
       refine ai (ak.pick [3,4] rfl) (go ?_)
       refine dT 0 zr zr zr zr zr zr ?_
       refine aN (wJ x) ?_
       refine aC zr zr zr bE ?_
       intro b7
       refine go ?_
       refine aN (QF bs bd q mb false A (fS x)) ?_
       refine aaD 1 (fun B:Ab=>eh q x ⟨A,bz,false⟩ 0 ⟨B,bz++[(x.d,x)],false⟩) (fun B=>[(2,ptr b2),(3,ptr b3)]) (fun B=>ae b3 (cl (bH x) 39)::ae b2 (cl [ptr bs] 30)::ae bs (cl (eR bd q mb false) 113)::aL dV mb (eb bz)::aE bd B::F) rfl ?_ ?_
       ·intro B hBB
        have jA:=RD bz x (by cases h:gT bz x.d with|none=>rfl|some y=>rw[h]at TV;cases TV)
        refine aG (fun w=>Sat G w ([ae b3 (cl (bH x) 39),ae b2 (cl [ptr bs] 30),ae bs (cl (eR bd q mb false) 113)])) (dj 0 7 (.act 7 .nil)) rfl aq aq aq eo ?_
        refine go ?_
        refine cJ (U:=aR) 0 zr zr zr zr zr zr (go ?_)
        refine cJ (U:=aR) (cs:=bH x) 0 zr zr zr zr zr zr (go ?_)
        refine eV (es:=eb bz) (key:=x.d) (v:=dG x) 3 Tt (fun _ _=>by exact trivial) zr zr zr zr zr zr zr zr ?_
        rw[jA]
        refine go ?_
        refine ad hE Tryz.func28 zr zr ⟨0,⟨B,bz++[(x.d,x)],false⟩,rfl,rfl,hBB⟩
       ·intro tail
        cases hsf:pK A (fS x)with
        | true =>
         refine go ?_
         refine jX tail A rfl (hB3 _ _ (by simp) QQ lh (by rw[if_neg Ey,if_pos hsf];exact⟨rfl,rfl⟩)) ck ah
        | false =>
         have wy:∀(i:Nat) (fv:Value) (sp:Bw),[.func (.func 81) #[] #[ptr b2,ptr b7],.func (.func 67) #[ptr bd] #[] ][i]?=some fv→[gm (fS x),cP][i]?=some sp→∃g fi cap,fv = .func (.func g) fi cap∧∀y,GQ A i y→aD Tryz.prog g (fi.toList++cap.toList) [n9 bs bd q mb false (Sep [ae b2 (cl [ptr bs] 30),ae b7 (cl [.string (fS x)] 9)]) y] (fun r H=>∃(e:Nat) (x':Ab),r = .int .i64 (e:Int)∧H=[n9 bs bd q mb false (Sep [ae b2 (cl [ptr bs] 30),ae b7 (cl [.string (fS x)] 9)]) x']∧sp y e x'∧(e=0→GQ A (i+1) x')):=by
          intro i fv sp hi hs
          match i,hi,hs with
          | 0,hi,hs =>
           cases hi;cases hs
           refine⟨_,_,_,rfl,fun y hy=>?_⟩
           refine(pL (p:=gm (fS x) y) (JT bs bd b2 b7 q mb false (fS x) y (by have:=hy.1;omega))).post ?_
           rintro r H⟨e,B,rfl,rfl,h1⟩
           exact⟨e,B,rfl,rfl,h1,fun _=>hy.next (sC h1)⟩
          | 1,hi,hs =>
           cases hi;cases hs
           refine⟨_,_,_,rfl,fun y hy=>(KM bs bd q mb false [ae b2 (cl [ptr bs] 30),ae b7 (cl [.string (fS x)] 9)] y).post ?_⟩
           rintro r H⟨e,B,rfl,rfl,h1⟩
           exact⟨e,B,rfl,rfl,h1,fun _=>hy.next (jo h1)⟩
          | k+2,hi,hs=>simp at hi
         refine go ?_
         refine aG (fun w=>Sat G w [stE bs bd q mb,ae b2 (cl [ptr bs] 30)]) (dj 0 7 (.act 7 (.act 8 (.st 9 .nil)))) rfl aq aq aq (fun w hw=>hw.cL (ak.trans (H2:=[ae bs (cl (eR bd q mb false) 113),ae b2 (cl [ptr bs] 30)]) ah (Ir bs bd q mb _ _))) ?_
         refine go ?_
         refine aK ?_
         refine mD zr zr (fun w hw=>Pq hw) zr zr ?_
         refine go ?_
         refine ao (cs:=[.func (.func 81) #[] #[ptr b2,ptr b7],.func (.func 67) #[ptr bd] #[] ]) zr zr zr zr zr zr zr zr zr (fun _ w hw=>by exact hw.cL (ak.trans (H2:=[ae bs (cl (eR bd q mb false) 113),ae b2 (cl [ptr bs] 30)]) ah (Ir bs bd q mb _ _))) ?_
         intro row
         have Gt:=lO bs bd q mb false (Sep [ae b2 (cl [ptr bs] 30),ae b7 (cl [.string (fS x)] 9)]) (ae row (cl [.func (.func 81) #[] #[ptr b2,ptr b7],.func (.func 67) #[ptr bd] #[] ] 83)) (.slice (some ⟨row,0,none⟩) 2 2) [.func (.func 81) #[] #[ptr b2,ptr b7],.func (.func 67) #[ptr bd] #[] ] (Vw.ae rfl) (by show 2≤_;omega) [gm (fS x),cP] rfl (GQ A) wy A (GQ.zero A)
         refine aJ (H':=ae row (cl [.func (.func 81) #[] #[ptr b2,ptr b7],.func (.func 67) #[ptr bd] #[] ] 83)::n9 bs bd q mb false (Sep [ae b2 (cl [ptr bs] 30),ae b7 (cl [.string (fS x)] 9)]) A::aL dV mb (eb bz)::ae b3 (cl (bH x) 39)::F) (ak.trans (H2:=ae bs (cl (eR bd q mb false) 113)::aE bd A::([ae b2 (cl [ptr bs] 30),ae b7 (cl [.string (fS x)] 9)]++(ae row (cl [.func (.func 81) #[] #[ptr b2,ptr b7],.func (.func 67) #[ptr bd] #[] ] 83)::aL dV mb (eb bz)::ae b3 (cl (bH x) 39)::F))) ah (ak.trans (vT bs bd q mb false _ A _) ah)) ?_
         refine fk zr zr zr zr Gt ah ?_ (fun _ _ w hp hw=>by
          obtain⟨e,B,rfl,rfl,cX,_⟩:=hp
          exact hw.cL (ak.trans (ak.pick [1] rfl) (ak.trans (pj bs bd q mb (or false (decide (e≠0))) _ B _) (ak.trans (H2:=[ae bs (cl (eR bd q mb (or false (decide (e≠0)))) 113),ae b2 (cl [ptr bs] 30)]) ah (Ir bs bd q mb _ _)))))
         rintro _ _⟨e,B,rfl,rfl,cX,-⟩
         refine aJ (ak.trans (ak.pick [1] rfl) (pj bs bd q mb (or false (decide (e≠0))) _ B _)) ?_
         have lL:∀e' t,(∃e1 s1,Bt [gm (fS x),cP] ⟨A,bz,false⟩ e1 s1∧((e1≠0∧e'=e1∧t=s1)∨(e1=0∧e'=0∧t=⟨s1.A,s1.bz++[(x.d,x)],s1.brk⟩)))→eh q x ⟨A,bz,false⟩ e' t:=fun e' t h=>hB3 e' t (by simp) QQ lh (by rw[if_neg Ey,if_neg (by rw[hsf];simp)];exact h)
         refine go ?_
         refine au zr zr ?_ ?_
         ·intro ZF
          have he:e≠0:=by omega
          refine go ?_
          refine ad hE Tryz.func28 zr zr ⟨e,⟨B,bz,or false (decide (e≠0))⟩,rfl,rfl,lL _ _ ⟨e,_,⟨B,cX,rfl⟩,.inl ⟨he,rfl,rfl⟩⟩⟩
         ·intro Z1
          have he:e=0:=by omega
          subst he
          refine go ?_
          refine jX tail B rfl (lL _ _ ⟨0,_,⟨B,cX,rfl⟩,.inr ⟨rfl,rfl,rfl⟩⟩) ck ah
 ·intro tail
  refine go ?_
  refine cJ (U:=aR) 0 zr zr zr zr zr zr (go ?_)
  refine re (U:=aR) (es:=eb bz) (key:=x.d) rfl Tt zr zr zr zr zr zr zr (fun w hw=>hw.l4 (i:=3) rfl) ?_
  rw[wS]
  cases hb:gT bz x.d with
  | none =>
   rw[hb]at tail
   refine go ?_
   refine aC zr zr zr (fun _ w hw=>hw.cL ah) ?_
   intro b5
   refine ln ?_
   (refine aV ?_;(refine cF 0 eo zr zr zr zr zr zr zr zr zr ?_))
   refine ln ?_
   refine jX tail false zr zr ck ah
  | some y =>
   rw[hb]at tail
   refine go ?_
   refine aC zr zr zr (fun _ w hw=>hw.cL ah) ?_
   intro b5
   refine ln ?_
   (refine aV ?_;(refine cF 0 eo zr zr zr zr zr zr zr zr zr ?_))
   refine ln ?_
   refine jX tail true zr zr ck ah
end Go.Proofs.YthnfckodljbgbaaGreatDoor
namespace Go.Proofs.YthnfckodljbgbaaGreatDoor
open Go Go.SL
variable{A:Ab}{x:Bl}{e:Nat}{s t:fg}
attribute [local irreducible] J K aD Ends ae aF aL bU bo aU bh bq cg Sha.chunks Sha.chunk Sha.rounds Sha.sched dW cy GI cS aE
theorem IY(h:A.names=[]):gh A=[]:=by
 grind [pA]
def qo{kind:List UInt8}{right:Ab→Dg→Bool}{B:Ab}(h:A.names=[])(hs:eQ kind right A e B):e=0∧B=A:=by
 unfold eQ at hs
 rw[IY h]at hs
 exact hs
theorem vq{B:Ab}(h:A.names=[])(ho:sH A e B):e=0∧B=A:=by
 obtain⟨e1,A1,⟨e2,A2,h2,c2⟩,lL⟩:=ho
 obtain⟨rfl,rfl⟩:=qo h h2
 rcases c2 with⟨df,_⟩|⟨_,e3,A3,h3,c3⟩
 ·grind
 obtain⟨rfl,rfl⟩:=qo h h3
 rcases c3 with⟨df,_⟩|⟨_,e4,A4,h4,c4⟩
 ·grind
 obtain⟨rfl,rfl⟩:=qo h h4
 rcases c4 with⟨df,_⟩|⟨_,rfl,rfl⟩
 ·grind
 grind
theorem nO{b:List UInt8}{k:Int}(h:gg b k=some x):bI x=true∧x.size=b.length∧x.piece=k∧jz x b=true:=by
 grind [gg,de,bI,jz]
def Ry:∃x,gg [7] 16=some x:=by
 unfold gg de
 rw[if_pos (by decide)]
 exact⟨_,rfl⟩
theorem E3(h:bI x=true)(h1:x.size=1)(h2:x.piece=16):dI x 0=some (0,1):=by
 grind [dI,cC]
def iH(n:Nat)(s t:fg):Prop:=t.A.aj.length≤s.A.aj.length+n∧t.A.writes.length≤s.A.writes.length+n
def Ns(ss:List Bw)(hs:∀sp∈ss,∀A e B,sp A e B→kM A B)(A:Ab)(e:Nat)(B:Ab)(h:gi ss A e B):B.aj.length≤A.aj.length+ss.length∧B.writes.length≤A.writes.length+ss.length:=by
 induction ss generalizing A with
 | nil=>obtain⟨_,rfl⟩:=h;exact⟨Nat.le_refl _,Nat.le_refl _⟩
 | cons sp ss ih =>
  obtain⟨e1,A1,h1,hc⟩:=h
  have g:=hs sp (List.mem_cons_self ..) _ _ _ h1
  have g1:=g.1
  have g2:=g.2
  simp only[List.length_cons]
  rcases hc with⟨_,_,rfl⟩|⟨_,h2⟩
  ·omega
  ·have:=ih (fun s h=>hs s (List.mem_cons_of_mem _ h)) A1 h2
   omega
def oJ{ss:List Bw}(hs:∀sp∈ss,∀A e B,sp A e B→kM A B){e:Nat}(h:Bt ss s e t):iH ss.length s t:=by
 obtain⟨B,h,rfl⟩:=h
 exact Ns ss hs _ _ _ h
def iH.mono{m n:Nat}(h:iH m s t)(hmn:m≤n):iH n s t:=⟨by have:=h.1;omega,by have:=h.2;omega⟩
theorem iH.refl(n:Nat)(s:fg):iH n s s:=⟨ag,ag⟩
theorem lQ{q:Int}(h:eh q x s e t):iH 2 s t:=by
 unfold eh at h
 split at h
 ·grind [iH.refl]
 split at h
 ·grind [iH.refl]
 split at h
 ·grind [iH.refl]
 split at h
 ·grind [iH.refl]
 split at h
 ·rw[h.2];exact iH.refl 2 s
 ·obtain⟨e1,s1,hc,hd⟩:=h
  have g:=oJ (ss:=[gm (fS x),cP]) (fun sp iC A e B hh=>by
   simp only[List.mem_cons,List.not_mem_nil,or_false]at iC
   rcases iC with rfl|rfl
   ·exact sC hh
   ·exact jo hh) hc
  rcases hd with⟨_,_,rfl⟩|⟨_,_,rfl⟩ <;> exact g
theorem oU{i:Int}{b:List UInt8}(h:mh x i b s e t):iH 1 s t:=by
 unfold mh at h
 split at h
 ·grind [iH.refl]
 split at h
 ·grind [iH.refl]
 split at h
 ·grind [iH.refl]
 ·exact oJ (fun sp iC A e B hh=>by
   simp only[List.mem_cons,List.not_mem_nil,or_false]at iC
   subst iC
   exact uT hh) h
theorem rj(h:iq x s e t):iH 1 s t:=by
 unfold iq at h
 split at h
 ·grind [iH.refl]
 ·obtain⟨s1,hc,rfl⟩:=h
  have g:=oJ (fun sp iC A e B hh=>by
   simp only[List.mem_cons,List.not_mem_nil,or_false]at iC
   subst iC
   exact n6 hh) hc
  split <;> exact g
theorem sL(h:fC x s e t):iH 3 s t:=by
 unfold fC at h
 split at h
 ·grind [iH.refl]
 split at h
 ·obtain⟨e1,h1,_⟩:=h
  exact(rj h1).mono ag
 ·obtain⟨s1,hc,rfl⟩:=h
  have g:=oJ (ss:=FQ (fS x) (fB x)) (fun sp iC A e B hh=>by
   simp only[FQ,List.mem_cons,List.not_mem_nil,or_false]at iC
   rcases iC with rfl|rfl|rfl
   ·exact nK hh
   ·exact sB hh
   ·exact jo hh) hc
  split <;> exact g
def yk(h:HA A)(m:Nat)(hm:∀n c,vw A n=some c→c.length≤m):A.used≤A.names.length*m:=by
 unfold Ab.used
 refine vS A.names _ m fun x hx=>?_
 refine hm x.1 _ ?_
 unfold vw
 rw[eA h.keys hx]
 rfl
def KJ(b:Nat)(x:UInt8):eO (ae b (cl (bV [x]) 5)) (.slice (some ⟨b,0,none⟩) 1 1) [x]:=⟨Vw.ae rfl,_,_,rfl,Nat.le_refl _⟩
end Go.Proofs.YthnfckodljbgbaaGreatDoor
namespace Go.Proofs.YthnfckodljbgbaaGreatDoor
open Go Go.SL
variable{A B:Ab}{k nm:ByteArray}{K':List ByteArray}{e f:Nat}
abbrev Vm:=ByteArray→Option (List UInt8)
structure AG(K:List ByteArray)(v:Vm):Prop where
 nd:K.Nodup
 mem:∀n,n∈K↔(v n).isSome=true
def vO(w:ByteArray→List UInt8→Nat)(K:List ByteArray)(v:Vm):Nat:=(K.map fun k=>w k ((v k).getD [])).sum
def jf(v:Vm)(k:ByteArray)(o:Option (List UInt8)):Vm:=fun n=>if n=k then o else v n
theorem fG(v:Vm)(k:ByteArray)(o:Option (List UInt8)):jf v k o k=o:=if_pos rfl
theorem gn(v:Vm){n:ByteArray}(o:Option (List UInt8))(h:n≠k):jf v k o n=v n:=if_neg h
theorem L9(v:Vm)(k:ByteArray):jf v k (v k)=v:=by
 grind [jf]
theorem SX{v:Vm}{o:Option (List UInt8)}(h:v k=o):jf v k o=v:=by rw[← h];exact L9 v k
def AG.perm{K:List ByteArray}{v:Vm}(h:AG K v)(h':AG K' v):K.Perm K':=(List.perm_ext_iff_of_nodup h.nd h'.nd).2 fun n=>(h.mem n).trans (h'.mem n).symm
def EM{K:List ByteArray}{v:Vm}(w:ByteArray→List UInt8→Nat)(h:AG K v)(h':AG K' v):vO w K v=vO w K' v:=((h.perm h').map _).sum_nat
theorem AG.add{K:List ByteArray}{v:Vm}(h:AG K v)(hk:v k=none)(c:List UInt8):AG (k::K) (jf v k (some c)):=by
 refine⟨List.nodup_cons.2 ⟨fun hm=>?_,h.nd⟩,fun n=>?_⟩
 ·have:=(h.mem k).1 hm
  grind
 ·rw[List.mem_cons]
  by_cases hn:n=k
  ·simp[hn,fG]
  ·rw[gn _ _ hn,← h.mem n]
   simp[hn]
theorem Kp{K:List ByteArray}{v:Vm}{c:List UInt8}(w:ByteArray→List UInt8→Nat)(h:AG K v)(h':AG K' (jf v k (some c)))(hk:v k=none):vO w K' (jf v k (some c))=w k c+vO w K v:=by
 rw[EM w h' (h.add hk c)]
 unfold vO
 rw[List.map_cons,List.sum_cons,fG]
 congr 1
 have hnk:∀n∈K,n≠k:=fun n hn e=>by
  have:=(h.mem n).1 hn
  grind
 exact congrArg List.sum (List.map_congr_left fun x hx=>by rw[gn _ _ (hnk x hx)])
theorem Pc{K:List ByteArray}{v:Vm}(w1 w2:ByteArray→List UInt8→Nat)(h:∀n∈K,w1 n ((v n).getD [])≤w2 n ((v n).getD [])):vO w1 K v≤vO w2 K v:=by
 unfold vO
 revert h
 induction K with
 | nil=>intro _;exact Nat.le_refl _
 | cons x l ih =>
  grind
theorem Pb{K:List ByteArray}{v:Vm}(w1 w2:ByteArray→List UInt8→Nat):vO (fun n c=>w1 n c+w2 n c) K v=vO w1 K v+vO w2 K v:=by
 unfold vO
 induction K with
 | nil=>rfl
 | cons x l ih =>
  grind
theorem C2(K:List ByteArray)(v:Vm)(m:Nat):vO (fun _ _=>m) K v=K.length*m:=by
 unfold vO
 induction K with
 | nil=>simp
 | cons x l ih =>
  grind
def mem_keys(h:HA A)(n:ByteArray):n∈eP A↔(vw A n).isSome=true:=by
 unfold eP vw
 constructor
 ·intro hn
  obtain⟨x,hx,rfl⟩:=List.mem_map.1 hn
  rw[eA h.keys hx]
  rfl
 ·intro hn
  cases hl:A.look n with
  | none=>rw[hl]at hn;cases hn
  | some f=>exact List.mem_map.2 ⟨_,iv hl,rfl⟩
def HA.Pj(h:HA A):AG (eP A) (vw A):=⟨h.keys,mem_keys h⟩
def MO(_:ByteArray)(c:List UInt8):Nat:=c.length
def xX(k:ByteArray)(c:List UInt8):Nat:=if(j0 kB k).isSome then c.length else 0
def Qe(h:HA A){x:ByteArray × Nat}(hx:x∈A.names):A.now x.2=(vw A x.1).getD []:=by
 unfold vw
 rw[eA h.keys hx]
 rfl
theorem tV(h:HA A):A.used=vO MO (eP A) (vw A):=by
 unfold Ab.used vO eP MO
 rw[List.map_map]
 exact congrArg List.sum (List.map_congr_left fun x hx=>by simp only[Function.comp];rw[Qe h hx])
def BG(h:HA A):tW A=vO xX (eP A) (vw A):=by
 unfold tW vO eP xX
 rw[List.map_map]
 exact congrArg List.sum (List.map_congr_left fun x hx=>by simp only[Function.comp];rw[Qe h hx])
def oB(A:Ab):(eP A).length=A.names.length:=by unfold eP;rw[List.length_map]
theorem Tq(A:Ab):A.names.length=vO (fun _ _=>1) (eP A) (vw A):=by rw[C2,oB];omega
def fI(d:Dg):ByteArray:=dv kI d
def fN(d:Dg):ByteArray:=dv kN d
def og(d:Dg):ByteArray:=dv kB d
def js(d:Dg):ByteArray:=dv kS d
def F7{j k:List UInt8}(hl:j.length=k.length)(zT:j≠k)(a b:Dg):dv j a≠dv k b:=fun h=>zT (JE hl h)
def HA.Lt(h:HA A)(hv:vw A nm=none)(hl:A.names.length<200)(hf:f ∉ A.fs.map (·.1))(hB:(e,B)=A.create true nm f) :
  e=0∧HA B∧vw B=jf (vw A) nm (some [])∧B.room=A.room :=
 let ⟨h1,h2,h3,_,h5⟩:=h.create hv hl hf hB;⟨h1,h2,funext h3,h5⟩
def HA.CY(h:HA A){c:List UInt8}(hv:vw A nm=some c)(at_:Nat)(b:List UInt8)(hr:A.used+(at_+b.length)≤A.room)(hB:(e,B)=A.write true nm at_ b) :
  e=0∧HA B∧vw B=jf (vw A) nm (some (bJ c at_ b))∧B.room=A.room :=
 let ⟨h1,h2,h3,_,h5⟩:=h.write hv at_ b hr hB;⟨h1,h2,funext h3,h5⟩
def HA.EX(h:HA A){c:List UInt8}(hv:vw A nm=some c)(hB:(e,B)=A.sync true nm) :
  e=0∧HA B∧vw B=vw A∧B.room=A.room :=
 let ⟨h1,h2,h3,_,h5⟩:=h.sync hv hB;⟨h1,h2,funext h3,h5⟩
def HA.yU(h:HA A)(hB:(e,B)=A.cp):e=0∧HA B∧vw B=vw A∧B.room=A.room :=
 let ⟨h1,h2,h3,_,h5⟩:=h.cp hB;⟨h1,h2,funext h3,h5⟩
def HA.KC(h:HA A){o n:ByteArray}{c:List UInt8}(df:o≠n)(hv:vw A o=some c)(KY:vw A n=none)(hB:(e,B)=A.rename true o n) :
  e=0∧HA B∧vw B=jf (jf (vw A) o none) n (some c)∧B.room=A.room :=
 let ⟨h1,h2,h3,h4,_⟩:=h.rename df hv KY hB;⟨h1,h2,funext h3,h4⟩
theorem HA.qi(h:HA A)(h':HA B){c:List UInt8}(hk:vw A k=none)(hv:vw B=jf (vw A) k (some c)):B.used=A.used+c.length∧B.names.length=A.names.length+1:=by
 have hs:=h'.Pj
 rw[hv]at hs
 have h1:=Kp MO h.Pj hs hk
 have h2:=Kp (fun _ _=>1) h.Pj hs hk
 grind [tV,Tq,MO]
def HA.uE(h:HA A)(h':HA B)(hv:∀n,(vw B n).isSome=(vw A n).isSome):B.names.length=A.names.length:=by
 rw[← oB,← oB]
 exact((List.perm_ext_iff_of_nodup h'.keys h.keys).2 fun n=>(mem_keys h' n).trans ((by rw[hv n]):_↔_) |>.trans (mem_keys h n).symm).length_eq
theorem NL(l:List (Dg × Bl))(d d':Dg):gT (qL l d) d'=if d'=d then none else gT l d':=by
 grind [gT,qL]
theorem G8(l:List (Dg × Bl))(x:Bl)(d:Dg)(h:gT l x.d=none):gT (l++[(x.d,x)]) d=if d=x.d then some x else gT l d:=by
 grind [gT]
def cZ:ByteArray:=strOf [112,105,101,99,101,115]
def g'(k:List UInt8)(d:Dg):dv k d≠cZ:=fun h=>by
 have h1:=congrArg (fun s:ByteArray=>s.data.toList.length) h
 simp only[dv,cZ,strOf,List.length_append,kZ]at h1
 simp at h1
def wE(k:ByteArray):Nat:=if k=cZ then 100000 else 0
theorem VX:∀(K:List ByteArray),K.Nodup→(K.map wE).sum≤100000:=by
 intro K
 induction K with
 | nil=>intro _;exact Nat.zero_le _
 | cons k K ih =>
  intro hK
  rw[List.nodup_cons]at hK
  rw[List.map_cons,List.sum_cons]
  by_cases hk:k=cZ
  ·have h0:K.map wE=K.map fun _=>0:=List.map_congr_left fun x hx=>by
    grind [wE]
   have h1:(K.map fun _:ByteArray=>0).sum=0:=by
    clear ih hK h0
    induction K with
    | nil=>rfl
    | cons y K ih=>simpa using ih
   grind [wE]
  grind [wE]
def DS{a b:Dg}(h:js a=js b):a=b:=Cw h
theorem yy{a b:Dg}(h:og a=og b):a=b:=Cw h
theorem dQ(a b:Dg):js a≠og b:=F7 (by rfl) (by decide) a b
def NB(a b:Dg):js a≠fI b:=F7 (by rfl) (by decide) a b
def NA(a b:Dg):js a≠fN b:=F7 (by rfl) (by decide) a b
def ND(a b:Dg):og a≠fI b:=F7 (by rfl) (by decide) a b
def NC(a b:Dg):og a≠fN b:=F7 (by rfl) (by decide) a b
theorem sT{kind:List UInt8}{right:Ab→Dg→Bool}(l:List ByteArray)(h:∀nm∈l,∀d,j0 kind nm=some d→right A d=true)(hs:nh kind right l A e B):e=0∧B=A:=by
 induction l with
 | nil=>exact hs
 | cons nm l ih =>
  grind [nh,j0]
def zz(h:HA A)(n:ByteArray):n∈gh A↔(vw A n).isSome=true:=by
 rw[(xF A).mem_iff]
 exact mem_keys h n
theorem MK{s:fg}{x:Bl}(hb:s.brk=false):lf s x=if gT s.bz x.d=some x then 0 else 4:=by
 grind [lf,KI,gT]
theorem adq(x:Bl):fS x=js x.d:=rfl
theorem jL{fs:List (Nat × List UInt8 × List UInt8)}(u:Nat × List UInt8 × List UInt8→Nat × List UInt8 × List UInt8)(hu:∀x,(u x).1=x.1)(f:Nat) :
  (fs.map u).find? (fun x=>decide (x.1=f))=(fs.find? (fun x=>decide (x.1=f))).map u:=by
 induction fs with
 | nil=>rfl
 | cons x l ih =>
  grind
def uW{fs:List (Nat × List UInt8 × List UInt8)}(h:f∈fs.map (·.1)):∃x,fs.find? (fun x=>decide (x.1=f))=some x∧x.1=f:=by
 obtain⟨y,hy,hyf⟩:=List.mem_map.1 h
 cases hx:fs.find? (fun x=>decide (x.1=f))with
 | none=>exact absurd hyf (by simpa using List.find?_eq_none.1 hx y hy)
 | some x=>exact⟨x,rfl,by simpa using List.find?_some hx⟩
theorem GK(A:Ab)(u:Nat × List UInt8 × List UInt8→Nat × List UInt8 × List UInt8)(hu:∀x,(u x).1=x.1)(h:f∈A.fs.map (·.1)):({ A with fs:=A.fs.map u }:Ab).file f=(u (f,A.file f)).2:=by
 obtain⟨x,hx,hxf⟩:=uW h
 simp only[Ab.file]
 rw[jL u hu,hx]
 grind
theorem uH(fs:List (Nat × List UInt8 × List UInt8))(u:Nat × List UInt8 × List UInt8→Nat × List UInt8 × List UInt8)(hu:∀x,(u x).1=x.1):(fs.map u).map (·.1)=fs.map (·.1):=by
 simp_all
theorem tY(fs:List (Nat × List UInt8 × List UInt8))(k f:Nat)(s:List UInt8)(h:k≠f):(Ab.lu fs k s).find? (fun x=>decide (x.1=f))=fs.find? (fun x=>decide (x.1=f)):=by
 unfold Ab.lu
 rw[jL _ (fun x=>by split <;> rfl)]
 cases hx:fs.find? (fun x=>decide (x.1=f))with
 | none=>rfl
 | some x =>
  grind
def tu(stay:List UInt8)(cq cut:Int)(f:Nat):∀(ws:List (Nat × Nat × List UInt8)) (i:Nat) (fs:List (Nat × List UInt8 × List UInt8)),(∀w∈ws,w.1≠f) →
  (Ab.jJ stay cq cut i ws fs).find? (fun x=>decide (x.1=f))=fs.find? (fun x=>decide (x.1=f))
 | [],i,fs,_=>rfl
 | w::ws,i,fs,h=>by
  unfold Ab.jJ
  split
  ·exact tu stay cq cut f ws (i+1) fs (fun v hv=>h v (List.mem_cons_of_mem _ hv))
  ·rw[tu stay cq cut f ws (i+1) _ (fun v hv=>h v (List.mem_cons_of_mem _ hv)),tY _ _ _ _ (h w (List.mem_cons_self ..))]
theorem uF(stay:List UInt8)(cq cut:Int):∀(ws:List (Nat × Nat × List UInt8)) (i:Nat) (fs:List (Nat × List UInt8 × List UInt8)),(Ab.jJ stay cq cut i ws fs).map (·.1)=fs.map (·.1)
 | [],i,fs=>rfl
 | w::ws,i,fs=>by
  unfold Ab.jJ
  split
  ·exact uF stay cq cut ws (i+1) fs
  ·rw[uF stay cq cut ws (i+1) _]
   unfold Ab.lu
   grind [uH]
end Go.Proofs.YthnfckodljbgbaaGreatDoor
