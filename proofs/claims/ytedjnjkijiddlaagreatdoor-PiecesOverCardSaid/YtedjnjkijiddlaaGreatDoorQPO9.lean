import Derived.Test.YtedjnjkijiddlaaGreatDoorQPO2
import Derived.Test.YtedjnjkijiddlaaGreatDoorQPO3
import Derived.Test.YtedjnjkijiddlaaGreatDoorQPO4
import Derived.Test.YtedjnjkijiddlaaGreatDoorQPO8
set_option linter.unusedSectionVars false
set_option linter.unusedSimpArgs false
set_option linter.unusedVariables false
set_option maxHeartbeats 1000000
namespace Go.Proofs.YtedjnjkijiddlaaGreatDoor
open Go Go.SL
attribute [local irreducible] J K aD Ends ag aB aM bN aZ aP aV bh bW Sha.chunks Sha.chunk Sha.rounds Sha.sched dM ct GI cU aC
def cg(bs bd:Nat)(q:Int)(mb:Nat)(s:eU):List HP:=[ag bs (cl (ej bd q mb s.brk) 123),aM dV mb (dt s.aY),aC bd s.A]
def GQ(A:Ab)(i:Nat)(x:Ab):Prop:=x.aq.length≤A.aq.length+i∧x.writes.length≤A.writes.length+i
theorem GQ.zero(A:Ab):GQ A 0 A:=⟨Nat.le_refl _,Nat.le_refl _⟩
theorem GQ.next{A x y:Ab}{i:Nat}(h:GQ A i x)(g:jV x y):GQ A (i+1) y:=⟨by have:=h.1;have:=g.1;omega,by have:=h.2;have:=g.2;omega⟩
theorem mR{A B:Ab}{nm:ByteArray}{e:Nat}(h:eX nm A e B):jV A B:=by
 have:=ko A (isName nm) nm
 rw[← h]at this
 exact this
theorem rE{A B:Ab}{o n:ByteArray}{e:Nat}(h:kH o n A e B):jV A B:=by
 have:=p7 A ([o,n].all isName) o n
 rw[← h]at this
 exact this
theorem iJ{A B:Ab}{e:Nat}(h:dE A e B):jV A B:=by
 have:=jP A
 rw[← h]at this
 exact this
theorem tA{A B:Ab}{nm:ByteArray}{at_:Nat}{b:List UInt8}{e:Nat}(h:fz nm at_ b A e B):jV A B:=by
 have:=km A (fK nm at_ b) nm at_ b
 rw[← h]at this
 exact this
theorem rF{A B:Ab}{nm:ByteArray}{e:Nat}(h:ij nm A e B):jV A B:=by
 obtain⟨f,_,h⟩:=h
 have:=p9 A (isName nm) nm f
 rw[← h]at this
 exact this
set_option maxRecDepth 20000 in
theorem RC(bs bd:Nat)(q:Int)(mb:Nat)(s:eU)(x:Bl)(cF:s.A.aq.length≤900000000)(eH:s.A.writes.length≤900000000):aD Tryz.prog 48 [ptr bs,eg x] (cg bs bd q mb s)
  (fun r H=>∃(e:Nat) (t:eU),r = .int .i64 (e:Int)∧H=cg bs bd q mb t∧j8 x s e t):=by
 obtain⟨A,aY,brk⟩:=s
 simp only at cF eH
 have yd:=tn bs bd q mb brk aY x
 unfold eg at yd ⊢
 refine aD.enter Tryz.func48 ak rfl Tryz.ntmps48 zr zr ?_
 intro G F R hE
 refine aj (H':=ag bs (cl (ej bd q mb brk) 123)::aM dV mb (dt aY)::aC bd A::F) (ao.refl _) ?_
 refine aE rfl ?_
 refine bC zr zr bz ?_
 intro b2
 refine bC zr zr bz ?_
 intro b3
 refine go ?_
 refine aH (U:=aN) (l:=bD x) 0 zr zr zr zr zr zr ?_
 ((refine ai zr zr zr zr (yd) ad ?_ bG))
 rintro _ _⟨rfl,rfl⟩
 refine go ?_
 refine au zr zr ?_ ?_
 ·intro bT
  have fE:oE brk aY x≠0:=by omega
  refine go ?_
  refine aj (H':=cg bs bd q mb ⟨A,aY,brk⟩++F) ad ?_
  ((refine ae hE Tryz.func48 rfl _ rfl ⟨oE brk aY x,⟨A,aY,brk⟩,rfl,rfl,by unfold j8;rw[if_pos (show iV ⟨A,aY,brk⟩ x≠0 from fE)];exact⟨rfl,rfl⟩⟩ ad))
 ·intro heq
  have oM:oE brk aY x=0:=by omega
  refine go ?_
  refine al (cs:=[.func (.func 103) #[] #[ptr b2,ptr b3] ]) zr zr zr zr zr zr zr zr zr bz ?_
  intro row
  have uI:∀(i:Nat) (fv:Value) (sp:Ba),[.func (.func 103) #[] #[ptr b2,ptr b3] ][i]?=some fv→[eX (fS x)][i]?=some sp→∃g fi cap,fv = .func (.func g) fi cap∧∀y,GQ A i y→aD Tryz.prog g (fi.toList++cap.toList) [nt bs bd q mb brk (Sep [ag b2 (cl [ptr bs] 29),ag b3 (cl (bD x) 37)]) y] (fun r H=>∃(e:Nat) (x':Ab),r = .int .i64 (e:Int)∧H=[nt bs bd q mb brk (Sep [ag b2 (cl [ptr bs] 29),ag b3 (cl (bD x) 37)]) x']∧sp y e x'∧(e=0→GQ A (i+1) x')):=by
   intro i fv sp hi hs
   match i,hi,hs with
   | 0,hi,hs =>
    cases hi;cases hs
    refine⟨_,_,_,rfl,fun y hy=>(oO (JH bs bd b2 b3 q mb brk x y (by have:=hy.2;omega))).post ?_⟩
    rintro r H⟨e,B,rfl,rfl,h1⟩
    exact⟨e,B,rfl,rfl,h1,fun _=>hy.next (mR h1)⟩
   | k+1,hi,hs=>simp at hi
  have Ek:=kR bs bd q mb brk (Sep [ag b2 (cl [ptr bs] 29),ag b3 (cl (bD x) 37)]) (ag row (cl [.func (.func 103) #[] #[ptr b2,ptr b3] ] 96)) (.slice (some ⟨row,0,none⟩) 1 1) [.func (.func 103) #[] #[ptr b2,ptr b3] ] (Vw.ag rfl) (by show 1≤_;omega) [eX (fS x)] rfl (GQ A) uI A (GQ.zero A)
  refine aG (H':=ag row (cl [.func (.func 103) #[] #[ptr b2,ptr b3] ] 96)::nt bs bd q mb brk (Sep [ag b2 (cl [ptr bs] 29),ag b3 (cl (bD x) 37)]) A::aM dV mb (dt aY)::F) (ao.trans (H2:=ag bs (cl (ej bd q mb brk) 123)::aC bd A::([ag b2 (cl [ptr bs] 29),ag b3 (cl (bD x) 37)]++(ag row (cl [.func (.func 103) #[] #[ptr b2,ptr b3] ] 96)::aM dV mb (dt aY)::F))) ad (ao.trans (uu bs bd q mb brk _ A _) ad)) ?_
  ((refine ai zr zr zr zr (Ek) ad ?_ bG))
  rintro _ _⟨e,B,rfl,rfl,fm,-⟩
  refine go ?_
  refine aj (H':=cg bs bd q mb ⟨B,aY,brk || decide (e≠0)⟩++F) (ao.trans (ao.pick [1] rfl) (ao.trans (oq bs bd q mb (brk || decide (e≠0)) _ B _) ad)) ?_
  ((refine ae hE Tryz.func48 rfl _ rfl ⟨e,⟨B,aY,or brk (decide (e≠0))⟩,rfl,rfl,by unfold j8;rw[if_neg (show ¬iV ⟨A,aY,brk⟩ x≠0 from by show ¬oE brk aY x≠0;omega)];exact⟨B,fm,rfl⟩⟩ ad))
theorem EN(l:List (Dg × Bl))(d:Dg):rj (dt l) d=dt (nR l d):=by
 unfold rj dt nR
 rw[List.filter_map]
 rfl
set_option maxRecDepth 20000 in
theorem FC(bs bd:Nat)(q:Int)(mb:Nat)(s:eU)(x:Bl)(cF:s.A.aq.length≤900000000)(eH:s.A.writes.length≤900000000):aD Tryz.prog 56 [ptr bs,eg x] (cg bs bd q mb s)
  (fun r H=>∃(e:Nat) (t:eU),r = .int .i64 (e:Int)∧H=cg bs bd q mb t∧gN x s e t):=by
 obtain⟨A,aY,brk⟩:=s
 simp only at cF eH
 have yd:=tn bs bd q mb brk aY x
 unfold eg at yd ⊢
 refine aD.enter Tryz.func56 ak rfl Tryz.ntmps56 zr zr ?_
 intro G F R hE
 refine aj (H':=ag bs (cl (ej bd q mb brk) 123)::aM dV mb (dt aY)::aC bd A::F) (ao.refl _) ?_
 refine aE rfl ?_
 refine bC zr zr bz ?_
 intro b2
 refine bC zr zr bz ?_
 intro b3
 refine go ?_
 refine aH (U:=aN) (l:=bD x) 0 zr zr zr zr zr zr ?_
 ((refine ai zr zr zr zr (yd) ad ?_ bG))
 rintro _ _⟨rfl,rfl⟩
 refine go ?_
 refine au zr zr ?_ ?_
 ·intro bT
  have fE:oE brk aY x≠0:=by omega
  refine go ?_
  refine aj (H':=cg bs bd q mb ⟨A,aY,brk⟩++F) ad ?_
  ((refine ae hE Tryz.func56 rfl _ rfl ⟨oE brk aY x,⟨A,aY,brk⟩,rfl,rfl,by unfold gN;rw[if_pos (show iV ⟨A,aY,brk⟩ x≠0 from fE)];exact⟨rfl,rfl⟩⟩ ad))
 ·intro heq
  have oM:oE brk aY x=0:=by omega
  refine go ?_
  refine al (cs:=[.func (.func 113) #[] #[ptr b2,ptr b3] ]) zr zr zr zr zr zr zr zr zr bz ?_
  intro row
  have uI:∀(i:Nat) (fv:Value) (sp:Ba),[.func (.func 113) #[] #[ptr b2,ptr b3] ][i]?=some fv→[iU (fS x)][i]?=some sp→∃g fi cap,fv = .func (.func g) fi cap∧∀y,GQ A i y→aD Tryz.prog g (fi.toList++cap.toList) [nt bs bd q mb brk (Sep [ag b2 (cl [ptr bs] 29),ag b3 (cl (bD x) 37)]) y] (fun r H=>∃(e:Nat) (x':Ab),r = .int .i64 (e:Int)∧H=[nt bs bd q mb brk (Sep [ag b2 (cl [ptr bs] 29),ag b3 (cl (bD x) 37)]) x']∧sp y e x'∧(e=0→GQ A (i+1) x')):=by
   intro i fv sp hi hs
   match i,hi,hs with
   | 0,hi,hs =>
    cases hi;cases hs
    refine⟨_,_,_,rfl,fun y hy=>(oO (Hw bs bd b2 b3 q mb brk x y (by have:=hy.1;omega))).post ?_⟩
    rintro r H⟨e,B,rfl,rfl,h1⟩
    exact⟨e,B,rfl,rfl,h1,fun _=>hy.next (nf h1)⟩
   | k+1,hi,hs=>simp at hi
  have Ek:=kR bs bd q mb brk (Sep [ag b2 (cl [ptr bs] 29),ag b3 (cl (bD x) 37)]) (ag row (cl [.func (.func 113) #[] #[ptr b2,ptr b3] ] 96)) (.slice (some ⟨row,0,none⟩) 1 1) [.func (.func 113) #[] #[ptr b2,ptr b3] ] (Vw.ag rfl) (by show 1≤_;omega) [iU (fS x)] rfl (GQ A) uI A (GQ.zero A)
  refine aG (H':=ag row (cl [.func (.func 113) #[] #[ptr b2,ptr b3] ] 96)::nt bs bd q mb brk (Sep [ag b2 (cl [ptr bs] 29),ag b3 (cl (bD x) 37)]) A::aM dV mb (dt aY)::F) (ao.trans (H2:=ag bs (cl (ej bd q mb brk) 123)::aC bd A::([ag b2 (cl [ptr bs] 29),ag b3 (cl (bD x) 37)]++(ag row (cl [.func (.func 113) #[] #[ptr b2,ptr b3] ] 96)::aM dV mb (dt aY)::F))) ad (ao.trans (uu bs bd q mb brk _ A _) ad)) ?_
  ((refine ai zr zr zr zr (Ek) ad ?_ bG))
  rintro _ _⟨e,B,rfl,rfl,fm,-⟩
  refine aG (ao.trans (ao.pick [1] rfl) (oq bs bd q mb (brk || decide (e≠0)) _ B _)) ?_
  have hs0:¬iV ⟨A,aY,brk⟩ x≠0:=by show ¬oE brk aY x≠0;omega
  refine go ?_
  refine au zr zr ?_ ?_
  ·intro WO
   have he:e≠0:=by omega
   refine go ?_
   refine aj (H':=cg bs bd q mb ⟨B,aY,brk || decide (e≠0)⟩++F) ad ?_
   ((refine ae hE Tryz.func56 rfl _ rfl ⟨e,⟨B,aY,or brk (decide (e≠0))⟩,rfl,rfl,by unfold gN;rw[if_neg hs0];exact⟨_,⟨B,fm,rfl⟩,by rw[if_pos he]⟩⟩ ad))
  ·intro W7
   have he:e=0:=by omega
   subst he
   refine go ?_
   refine aF (fun w=>Sat G w ([ag b2 (cl [ptr bs] 29),ag bs (cl (ej bd q mb (or brk (decide (0≠0)))) 123),ag b3 (cl (bD x) 37)])) (.st 0 (.st 1 (.st 2 (.st 3 (.st 4 (.st 5 (.act 6 .nil))))))) rfl ak ak ak ei ?_
   refine go ?_
   refine ck (U:=aN) 2 zr zr zr zr zr zr ?_
   refine go ?_
   refine ml (es:=dt aY) (key:=x.d) 5 QE (fun w hw=>by exact trivial) zr zr zr zr zr zr zr ?_
   rw[EN]
   refine go ?_
   refine aj (H':=cg bs bd q mb ⟨B,nR aY x.d,brk || decide (0≠0)⟩++F) ad ?_
   ((refine ae hE Tryz.func56 rfl _ rfl ⟨0,⟨B,nR aY x.d,or brk (decide (0≠0))⟩,rfl,rfl,by unfold gN;rw[if_neg hs0];exact⟨_,⟨B,fm,rfl⟩,by rw[if_neg ah]⟩⟩ ad))
def Qw(bd b3 b4 b5:Nat):List Value:=[.func (.func 171) #[] #[ptr b3,ptr b4],.func (.func 172) #[] #[ptr b3,ptr b4,ptr b5],.func (.func 75) #[ptr bd] #[] ]
def Qv(bs b3 b4 b5:Nat)(o n:ByteArray):List HP:=[ag b3 (cl [ptr bs] 29),ag b4 (cl [.string o] 9),ag b5 (cl [.string n] 9)]
theorem Ni(bs bd:Nat)(q:Int)(mb:Nat)(brk:Bool)(o n:ByteArray):aD Tryz.prog 111 [ptr bs,.string o,.string n] [ag bs (cl (ej bd q mb brk) 123)]
  (fun r H=>∃row b3 b4 b5,r = .slice (some ⟨row,0,none⟩) 3 3∧H=ag row (cl (Qw bd b3 b4 b5) 96)::ag bs (cl (ej bd q mb brk) 123)::Qv bs b3 b4 b5 o n):=by
 refine aD.enter Tryz.func111 ak rfl Tryz.ntmps111 zr zr ?_
 intro G F R hE
 refine aE rfl ?_
 refine bC zr zr bz ?_
 intro b3
 refine bC zr zr bz ?_
 intro b4
 refine bC zr zr bz ?_
 intro b5
 refine go ?_
 refine al (cs:=Qw bd b3 b4 b5) zr zr zr zr zr zr zr zr zr bz ?_
 intro row
 refine go ?_
 refine aj (H':=ag row (cl (Qw bd b3 b4 b5) 96)::ag bs (cl (ej bd q mb brk) 123)::(Qv bs b3 b4 b5 o n++F)) ad ?_
 ((refine ae hE Tryz.func111 rfl _ rfl ⟨row,b3,b4,b5,rfl,rfl⟩ ad))
theorem Nh(bs bd:Nat)(q:Int)(mb:Nat)(brk:Bool)(b3 b4 b5:Nat)(o n:ByteArray)(A:Ab)(cF:A.aq.length≤900000000)(eH:A.writes.length≤900000000)(i:Nat)(fv:Value)(sp:Ba)(hi:(Qw bd b3 b4 b5)[i]?=some fv)(hs:(DK o n)[i]?=some sp) :
  ∃g fi cap,fv = .func (.func g) fi cap∧∀y,GQ A i y→aD Tryz.prog g (fi.toList++cap.toList) [nt bs bd q mb brk (Sep (Qv bs b3 b4 b5 o n)) y] (fun r H=>∃(e:Nat) (x':Ab),r = .int .i64 (e:Int)∧H=[nt bs bd q mb brk (Sep (Qv bs b3 b4 b5 o n)) x']∧sp y e x'∧(e=0→GQ A (i+1) x')):=by
 match i,hi,hs with
 | 0,hi,hs =>
  cases hi;cases hs
  refine⟨_,_,_,rfl,fun y hy=>?_⟩
  have h0:=yI [ag b5 (cl [.string n] 9)] (Kd bs bd b3 b4 q mb brk o y (by have:=hy.2;omega))
  refine(oO (p:=eX o y) (Xs:=Qv bs b3 b4 b5 o n) (h0.post ?_)).post ?_
  ·rintro r H⟨_,⟨e,B,rfl,rfl,h1⟩,rfl⟩
   exact⟨e,B,rfl,rfl,h1⟩
  ·rintro r H⟨e,B,rfl,rfl,h1⟩
   exact⟨e,B,rfl,rfl,h1,fun _=>hy.next (mR h1)⟩
 | 1,hi,hs =>
  cases hi;cases hs
  refine⟨_,_,_,rfl,fun y hy=>(oO (Kc bs bd b3 b4 b5 q mb brk o n y (by have:=hy.1;omega))).post ?_⟩
  rintro r H⟨e,B,rfl,rfl,h1⟩
  exact⟨e,B,rfl,rfl,h1,fun _=>hy.next (rE h1)⟩
 | 2,hi,hs =>
  cases hi;cases hs
  refine⟨_,_,_,rfl,fun y hy=>(Ir bs bd q mb brk (Qv bs b3 b4 b5 o n) y).post ?_⟩
  rintro r H⟨e,B,rfl,rfl,h1⟩
  exact⟨e,B,rfl,rfl,h1,fun _=>hy.next (iJ h1)⟩
 | k+3,hi,hs=>simp[Qw]at hi
set_option maxRecDepth 20000 in
theorem HN(X:HP)(hK:oe X)(bs bd:Nat)(q:Int)(mb:Nat)(s:eU)(x:Bl)(cF:s.A.aq.length≤900000000)(eH:s.A.writes.length≤900000000):aD Tryz.prog 53 [ptr bs,eg x] (cg bs bd q mb s++[X])
  (fun r H=>∃(e:Nat) (t:eU),r = .int .i64 (e:Int)∧H=cg bs bd q mb t++[X]∧dI x s e t):=by
 obtain⟨A,aY,brk⟩:=s
 simp only at cF eH
 have yd:=tn bs bd q mb brk aY x
 have mD:=FC bs bd q mb ⟨A,aY,brk⟩ x cF eH
 have hfb:=nP kB x.d (by decide)
 unfold dV at hfb
 unfold eg at yd mD ⊢
 refine aD.enter Tryz.func53 ak rfl Tryz.ntmps53 zr zr ?_
 intro G F R hE
 refine aj (H':=ag bs (cl (ej bd q mb brk) 123)::aM dV mb (dt aY)::aC bd A::X::F) (ao.refl _) ?_
 refine tU (bd:=bd) (A:=A) 2 rfl ?_
 intro G0
 refine aE rfl ?_
 refine bC zr zr bz ?_
 intro b3
 refine go ?_
 refine aH (U:=aN) (l:=bD x) 0 zr zr zr zr zr zr ?_
 ((refine ai zr zr zr zr (yd) ad ?_ bG))
 rintro _ _⟨rfl,rfl⟩
 refine go ?_
 refine au zr zr ?_ ?_
 ·intro bT
  have fE:iV ⟨A,aY,brk⟩ x≠0:=by show oE brk aY x≠0;omega
  refine go ?_
  refine aj (H':=cg bs bd q mb ⟨A,aY,brk⟩++(X::F)) ad ?_
  ((refine ae hE Tryz.func53 rfl _ rfl ⟨oE brk aY x,⟨A,aY,brk⟩,rfl,rfl,by unfold dI;rw[if_pos fE];exact⟨rfl,rfl⟩⟩ ad))
 intro heq
 have oM:¬iV ⟨A,aY,brk⟩ x≠0:=by show ¬oE brk aY x≠0;omega
 have iD:=oR G0 (fS x)
 refine go ?_
 refine dw 2 zr zr zr zr zr zr ?_
 ((refine ai zr zr zr zr (uP x) ad ?_ bG))
 rintro _ _⟨rfl,rfl⟩
 ((refine ai zr zr zr zr (uU bs bd q mb brk A (fS x)) ad ?_ bG))
 rintro _ _⟨rv,rfl,rfl⟩
 obtain⟨bb,IX⟩:∃bb,bb=(e9 A (fS x)).getD []:=⟨_,rfl⟩
 rw[← IX]at iD ⊢
 refine gB (bs:=bb) 0 rfl ?_
 intro hbv
 refine aG (ao.trans (ao.pick [0,5] rfl) (ao.bP [aB 5 1 rv bb.length (bV bb),X] _)) ?_
 have X':=Ls _ (hK.mono (aW (H:=[aB 5 1 rv bb.length (bV bb),X]) (i:=1) rfl)) x rv bb (hbv.mono (aW (i:=0) rfl)) ah
 unfold eg at X'
 refine go ?_
 refine aH (U:=aN) (l:=bD x) 4 zr zr zr zr zr zr ?_
 ((refine go ?_;(refine ai zr zr zr zr (X') ad ?_ bG)))
 rintro _ _⟨rfl,rfl⟩
 refine aG (ao.cB [aB 5 1 rv bb.length (bV bb),X] _) ?_
 cases hw:dP x bb with
 | false =>
  have hI:∀e1 t,gN x ⟨A,aY,brk⟩ e1 t→∀e,e=(if e1≠0 then e1 else 8)→dI x ⟨A,aY,brk⟩ e t:=fun e1 t h e he=>by
   unfold dI
   rw[if_neg oM,if_pos (by show dP x ((e9 A (fS x)).getD [])=false;rw[← IX];exact hw)]
   exact⟨e1,h,he⟩
  refine go ?_
  refine aH (U:=aN) (l:=bD x) 5 zr zr zr zr zr zr ?_
  ((refine ai zr zr zr zr (mD) ad ?_ bG))
  rintro _ _⟨e1,t,rfl,rfl,aa'⟩
  refine go ?_
  refine au zr zr ?_ ?_
  ·intro WO
   have he:e1≠0:=by omega
   refine go ?_
   refine aj (H':=cg bs bd q mb t++(X::F)) ad ?_
   ((refine ae hE Tryz.func53 rfl _ rfl ⟨e1,t,rfl,rfl,hI e1 t aa' e1 (by rw[if_pos he])⟩ ad))
  ·intro W7
   have he:e1=0:=by omega
   refine go ?_
   refine aj (H':=cg bs bd q mb t++(X::F)) ad ?_
   ((refine ae hE Tryz.func53 rfl _ rfl ⟨8,t,rfl,rfl,hI e1 t aa' 8 (by rw[if_neg ah])⟩ ad))
 | true =>
  have hwn:¬dP x ((e9 A (fS x)).getD [])=false:=by rw[← IX,hw];simp
  refine go ?_
  refine aF (fun w=>Sat G w ([ag b3 (cl (bD x) 37)])) (.st 0 (.st 1 (.st 2 (.st 3 (.st 5 (.st 6 (.act 4 (.act 7 (.act 8 (.act 9 (.st 10 .nil))))))))))) rfl ak ak ak ei ?_
  refine go ?_
  refine ck (U:=aN) 0 zr zr zr zr zr zr ?_
  refine go ?_
  refine ck (U:=aN) 0 zr zr zr zr zr zr ?_
  refine go ?_
  ((refine ai rfl rfl rfl rfl (uP x) ad ?_ jg))
  rintro _ _⟨rfl,rfl⟩
  refine go ?_
  ((refine ai rfl rfl rfl rfl (hfb) ad ?_ jg))
  rintro _ _⟨rfl,rfl⟩
  refine go ?_
  ((refine ai rfl rfl rfl rfl (Ni bs bd q mb brk (fS x) (fB x)) ad ?_ (fun _ _ w hp hw=>by obtain⟨row,c3,c4,c5,rfl,rfl⟩:=hp;exact hw.cy ad)))
  rintro _ _⟨row,c3,c4,c5,rfl,rfl⟩
  have Ek:=kR bs bd q mb brk (Sep (Qv bs c3 c4 c5 (fS x) (fB x))) (ag row (cl (Qw bd c3 c4 c5) 96)) (.slice (some ⟨row,0,none⟩) 3 3) (Qw bd c3 c4 c5) (Vw.ag rfl) (by show 3≤_;omega) (DK (fS x) (fB x)) rfl (GQ A) (Nh bs bd q mb brk c3 c4 c5 (fS x) (fB x) A cF eH) A (GQ.zero A)
  refine go ?_
  refine aG (H':=ag row (cl (Qw bd c3 c4 c5) 96)::nt bs bd q mb brk (Sep (Qv bs c3 c4 c5 (fS x) (fB x))) A::aM dV mb (dt aY)::ag b3 (cl (bD x) 37)::X::F) (ao.trans (H2:=ag bs (cl (ej bd q mb brk) 123)::aC bd A::(Qv bs c3 c4 c5 (fS x) (fB x)++(ag row (cl (Qw bd c3 c4 c5) 96)::aM dV mb (dt aY)::ag b3 (cl (bD x) 37)::X::F))) ad (ao.trans (uu bs bd q mb brk _ A _) ad)) ?_
  ((refine ai rfl rfl rfl rfl (Ek) ad ?_ (fun _ _ w hp hw=>by obtain⟨e,B,rfl,rfl,fm,_⟩:=hp;exact hw.cy ad)))
  rintro _ _⟨e,B,rfl,rfl,fm,-⟩
  refine aG (ao.trans (ao.pick [1] rfl) (oq bs bd q mb (brk || decide (e≠0)) _ B _)) ?_
  have hI:∀t,t=(if e≠0 then(⟨B,aY,brk || decide (e≠0)⟩:eU)else⟨B,nR aY x.d,brk || decide (e≠0)⟩)→dI x ⟨A,aY,brk⟩ e t:=fun t ht=>by
   unfold dI
   rw[if_neg oM,if_neg hwn]
   exact⟨_,⟨B,fm,rfl⟩,ht⟩
  refine go ?_
  refine au zr zr ?_ ?_
  ·intro WO
   have he:e≠0:=by omega
   refine go ?_
   refine aj (H':=cg bs bd q mb ⟨B,aY,brk || decide (e≠0)⟩++(X::F)) ad ?_
   ((refine ae hE Tryz.func53 rfl _ rfl ⟨e,⟨B,aY,or brk (decide (e≠0))⟩,rfl,rfl,hI _ (by rw[if_pos he])⟩ ad))
  ·intro W7
   have he:e=0:=by omega
   subst he
   refine go ?_
   refine aF (fun w=>Sat G w ([ag bs (cl (ej bd q mb (or brk (decide (0≠0)))) 123),ag b3 (cl (bD x) 37)])) (.st 0 (.st 1 (.st 2 (.st 3 (.st 4 (.st 5 (.act 6 .nil))))))) rfl ak ak ak ei ?_
   refine go ?_
   refine ck (U:=aN) 1 zr zr zr zr zr zr ?_
   refine go ?_
   refine ml (es:=dt aY) (key:=x.d) 6 QE (fun w hw=>by exact trivial) zr zr zr zr zr zr zr ?_
   rw[EN]
   refine go ?_
   refine aj (H':=cg bs bd q mb ⟨B,nR aY x.d,brk || decide (0≠0)⟩++(X::F)) ad ?_
   ((refine ae hE Tryz.func53 rfl _ rfl ⟨0,⟨B,nR aY x.d,or brk (decide (0≠0))⟩,rfl,rfl,hI _ (by rw[if_neg ah])⟩ ad))
set_option maxRecDepth 20000 in
theorem XV(X:HP)(bs bd:Nat)(q:Int)(mb:Nat)(s:eU)(x:Bl)(i:Int)(bv:Value)(b:List UInt8)(hv:Vw X bv b.length (bV b))(iD:b.length≤1000000000)(hi : -9223372036854775808≤i∧i≤9223372036854775807)(cF:s.A.aq.length≤900000000)(eH:s.A.writes.length≤900000000) :
  aD Tryz.prog 46 [ptr bs,eg x,.int .i64 i,bv] (cg bs bd q mb s++[X])
  (fun r H=>∃(e:Nat) (t:eU),r = .int .i64 (e:Int)∧H=cg bs bd q mb t++[X]∧mF x i b s e t):=by
 obtain⟨A,aY,brk⟩:=s
 simp only at cF eH
 obtain⟨a,c,rfl⟩:=hv.shape
 have yd:=tn bs bd q mb brk aY x
 unfold eg at yd ⊢
 refine aD.enter Tryz.func46 ak rfl Tryz.ntmps46 zr zr ?_
 intro G F R hE
 refine aj (H':=ag bs (cl (ej bd q mb brk) 123)::aM dV mb (dt aY)::aC bd A::X::F) (ao.refl _) ?_
 refine aE rfl ?_
 refine bC zr zr bz ?_
 intro b4
 refine bC zr zr bz ?_
 intro b5
 refine bC zr zr bz ?_
 intro b7
 refine go ?_
 refine aH (U:=aN) (l:=bD x) 1 zr zr zr zr zr zr ?_
 ((refine ai zr zr zr zr (yd) ad ?_ bG))
 rintro _ _⟨rfl,rfl⟩
 refine go ?_
 refine au zr zr ?_ ?_
 ·intro bT
  have fE:iV ⟨A,aY,brk⟩ x≠0:=by show oE brk aY x≠0;omega
  refine go ?_
  refine aj (H':=cg bs bd q mb ⟨A,aY,brk⟩++(X::F)) ad ?_
  ((refine ae hE Tryz.func46 rfl _ rfl ⟨oE brk aY x,⟨A,aY,brk⟩,rfl,rfl,by unfold mF;rw[if_pos fE];exact⟨rfl,rfl⟩⟩ ad))
 intro heq
 have oM:¬iV ⟨A,aY,brk⟩ x≠0:=by show ¬oE brk aY x≠0;omega
 refine go ?_
 refine aH (U:=aN) (l:=bD x) 3 zr zr zr zr zr zr ?_
 have o7:=yX x i
 unfold eg at o7
 have hP1:∀(e:Nat) (t:eU),cP x i=none→e=1→t=⟨A,aY,brk⟩→mF x i b ⟨A,aY,brk⟩ e t:=fun e t h he ht=>by
  unfold mF;rw[if_neg oM,h];exact⟨he,ht⟩
 have hP2:∀(at_ n:Int),cP x i=some (at_,n)→(b.length:Int)≠n→mF x i b ⟨A,aY,brk⟩ 1 ⟨A,aY,brk⟩:=fun at_ n h hl=>by
  unfold mF;rw[if_neg oM,h];dsimp only;rw[if_pos hl];exact⟨rfl,rfl⟩
 have hP3:∀(at_ n:Int) (e:Nat) (t:eU),cP x i=some (at_,n)→¬(b.length:Int)≠n→Ca [fz (fS x) at_.toNat b] ⟨A,aY,brk⟩ e t→mF x i b ⟨A,aY,brk⟩ e t:=fun at_ n e t h hl hc=>by
  unfold mF;rw[if_neg oM,h];dsimp only;rw[if_neg hl];exact hc
 have PY:∀at_ n,cP x i=some (at_,n)→0≤at_∧at_≤9223372036854775807:=fun at_ n h=>by
  unfold cP at h
  split at h
  ·cases h
  ·rename_i hn
   injection h with h
   injection h with h1 h2
   obtain⟨hr,zu,R'⟩:=wg (x:=x) (i:=i) ah ah
   simp only[bo,decide_eq_true_eq]at hr
   omega
 refine go ?_
 ((refine ai zr zr zr zr (o7) ad ?_ bG))
 rintro _ _⟨rfl,rfl⟩
 cases fW:cP x i with
 | none =>
  simp only
  refine go ?_
  refine aw zr zr zr bz ?_
  intro ER
  refine go ?_
  refine aj (H':=cg bs bd q mb ⟨A,aY,brk⟩++(X::F)) ad ?_
  ((refine ae hE Tryz.func46 rfl _ rfl ⟨1,⟨A,aY,brk⟩,rfl,rfl,hP1 _ _ fW zr zr⟩ ad))
 | some w =>
  obtain⟨at_,n⟩:=w
  simp only
  refine go ?_
  refine aw zr zr zr bz ?_
  intro ER
  refine go ?_
  refine au zr zr ?_ ?_
  ·intro vS
   have hl:(b.length:Int)≠n:=vS
   refine go ?_
   refine aj (H':=cg bs bd q mb ⟨A,aY,brk⟩++(X::F)) ad ?_
   ((refine ae hE Tryz.func46 rfl _ rfl ⟨1,⟨A,aY,brk⟩,rfl,rfl,hP2 at_ n fW hl⟩ ad))
  ·intro vS
   have hl:¬(b.length:Int)≠n:=vS
   obtain⟨Y,hY⟩:∃Y,Y=([ag b4 (cl [ptr bs] 29),ag b5 (cl (bD x) 37),ag ER (cl [.int .i64 at_] 3),ag b7 (cl [.slice a b.length c] 22),X]:List HP):=⟨_,rfl⟩
   have pV:∀F,ao (ag bs (cl (ej bd q mb brk) 123)::aC bd A::([ag b4 (cl [ptr bs] 29),ag b5 (cl (bD x) 37),ag ER (cl [.int .i64 at_] 3),ag b7 (cl [.slice a b.length c] 22),X]++F)) (nt bs bd q mb brk (Sep Y) A::F):=fun F=>by rw[hY];exact uu bs bd q mb brk _ A F
   have re:∀(bk:Bool) B F,ao (nt bs bd q mb bk (Sep Y) B::F) (ag bs (cl (ej bd q mb bk) 123)::aC bd B::([ag b4 (cl [ptr bs] 29),ag b5 (cl (bD x) 37),ag ER (cl [.int .i64 at_] 3),ag b7 (cl [.slice a b.length c] 22),X]++F)):=fun bk B F=>by rw[hY];exact oq bs bd q mb bk _ B F
   have uI:∀(i:Nat) (fv:Value) (sp:Ba),[.func (.func 101) #[] #[ptr b4,ptr b5,ptr ER,ptr b7] ][i]?=some fv→[fz (fS x) at_.toNat b][i]?=some sp→∃g fi cap,fv = .func (.func g) fi cap∧∀y,GQ A i y→aD Tryz.prog g (fi.toList++cap.toList) [nt bs bd q mb brk (Sep Y) y] (fun r H=>∃(e:Nat) (x':Ab),r = .int .i64 (e:Int)∧H=[nt bs bd q mb brk (Sep Y) x']∧sp y e x'∧(e=0→GQ A (i+1) x')):=by
    intro i fv sp hi hs
    match i,hi,hs with
    | 0,hi,hs =>
     cases hi;cases hs
     refine⟨_,_,_,rfl,fun y hy=>?_⟩
     subst hY
     have h0:=J0 bs bd b4 b5 ER b7 q mb brk x at_ X (.slice a b.length c) b hv y (by have:=hy.2;omega) iD (PY at_ n fW)
     refine(oO (p:=fz (fS x) at_.toNat b y) h0).post ?_
     rintro r H⟨e,B,rfl,rfl,h1⟩
     exact⟨e,B,rfl,rfl,h1,fun _=>hy.next (tA h1)⟩
    | k+1,hi,hs=>simp at hi
   refine go ?_
   refine al (cs:=[.func (.func 101) #[] #[ptr b4,ptr b5,ptr ER,ptr b7] ]) zr zr zr zr zr zr zr zr zr bz ?_
   intro row
   have Ek:=kR bs bd q mb brk (Sep Y) (ag row (cl [.func (.func 101) #[] #[ptr b4,ptr b5,ptr ER,ptr b7] ] 96)) (.slice (some ⟨row,0,none⟩) 1 1) [.func (.func 101) #[] #[ptr b4,ptr b5,ptr ER,ptr b7] ] (Vw.ag rfl) (by show 1≤_;omega) [fz (fS x) at_.toNat b] rfl (GQ A) uI A (GQ.zero A)
   refine aG (H':=ag row (cl [.func (.func 101) #[] #[ptr b4,ptr b5,ptr ER,ptr b7] ] 96)::nt bs bd q mb brk (Sep Y) A::aM dV mb (dt aY)::F) (ao.trans (H2:=ag bs (cl (ej bd q mb brk) 123)::aC bd A::([ag b4 (cl [ptr bs] 29),ag b5 (cl (bD x) 37),ag ER (cl [.int .i64 at_] 3),ag b7 (cl [.slice a b.length c] 22),X]++(ag row (cl [.func (.func 101) #[] #[ptr b4,ptr b5,ptr ER,ptr b7] ] 96)::aM dV mb (dt aY)::F))) ad (ao.trans (pV _) ad)) ?_
   ((refine ai zr zr zr zr (Ek) ad ?_ bG))
   rintro _ _⟨e,B,rfl,rfl,fm,-⟩
   refine go ?_
   refine aj (H':=cg bs bd q mb ⟨B,aY,brk || decide (e≠0)⟩++(X::F)) (ao.trans (ao.pick [1] rfl) (ao.trans (re _ B _) ad)) ?_
   ((refine ae hE Tryz.func46 rfl _ rfl ⟨e,⟨B,aY,or brk (decide (e≠0))⟩,rfl,rfl,hP3 at_ n e _ fW hl ⟨B,fm,rfl⟩⟩ ad))
def nC(A:Ab)(nm:ByteArray):Nat:=if(jx kB nm).isSome then(A.size nm).1 else 0
theorem Br{α:Type}{l m:List α}(h:l.Perm m)(f:α→Nat):(l.map f).sum=(m.map f).sum:=by
 induction h with
 | nil=>rfl
 | cons x _ ih=>simp[ih]
 | swap x y l=>simp;omega
 | trans _ _ ih1 GM=>exact ih1.trans GM
theorem fe{A:Ab}(h:(A.names.map (·.1)).Nodup){x:ByteArray × Nat}(hx:x∈A.names):A.look x.1=some x.2:=by
 have key:∀(l:List (ByteArray × Nat)),(l.map (·.1)).Nodup→x∈l→(l.find? (fun y=>decide (y.1=x.1))).map (·.2)=some x.2:=by
  intro l
  induction l with
  | nil=>intro _ h;cases h
  | cons y l ih =>
   intro hn hm
   rw[List.map_cons,List.nodup_cons]at hn
   rw[List.find?_cons]
   rcases List.mem_cons.1 hm with rfl|hm
   ·simp
   ·have:y.1≠x.1:=fun e=>hn.1 (List.mem_map.2 ⟨x,hm,e.symm⟩)
    simp only[this,decide_false]
    exact ih hn.2 hm
 exact key A.names h hx
theorem vp(A:Ab):(fJ A).Perm (A.names.map (·.1)):=by
 unfold fJ dU
 have h:=(mJ (A.names.map (·.1))).map strOf
 rw[List.map_map]at h
 have h2:(A.names.map (·.1)).map (strOf ∘ fun b=>b.data.toList)=A.names.map (·.1):=by
  rw[List.map_map]
  refine List.map_congr_left fun x _=>?_
  exact xi x.1
 rwa[h2]at h
theorem wS{A:Ab}(h:(A.names.map (·.1)).Nodup):rk A=((fJ A).map (nC A)).sum:=by
 rw[Br (vp A),List.map_map]
 unfold rk
 congr 1
 refine List.map_congr_left fun x hx=>?_
 have hl:=fe h hx
 simp only[Function.comp,nC,Ab.size,hl]
theorem BK{A:Ab}(h:Jv A)(nm:ByteArray):nC A nm≤1048576:=by
 unfold nC Ab.size
 split
 ·cases A.look nm with
  | none=>simp
  | some f=>exact h.now f
 ·omega
theorem ur{α:Type}(l:List α)(f:α→Nat)(m:Nat)(h:∀x∈l,f x≤m):(l.map f).sum≤l.length*m:=by
 induction l with
 | nil=>simp
 | cons x l ih =>
  have h1:=h x (List.mem_cons_self ..)
  have h2:=ih (fun y hy=>h y (List.mem_cons_of_mem _ hy))
  simp only[List.map_cons,List.sum_cons,List.length_cons,Nat.add_mul,Nat.one_mul]
  omega
def m9(aY:List (Dg × Bl))(dn:List Dg):Int:=((aY.filter fun x=>decide (x.1∈dn)).map (·.2.size)).sum
theorem Nk(aY:List (Dg × Bl)):m9 aY []=0:=by unfold m9;rw[List.filter_eq_nil_iff.2 (by simp)];rfl
theorem DL(aY:List (Dg × Bl))(dn:List Dg)(h:∀x∈aY,x.1∈dn):m9 aY dn=(aY.map (·.2.size)).sum:=by
 unfold m9
 rw[List.filter_eq_self.2 (fun x hx=>decide_eq_true (h x hx))]
theorem Ke(aY:List (Dg × Bl))(key:Dg)(dn:List Dg)(h:key ∉ aY.map (·.1)):m9 aY (key::dn)=m9 aY dn:=by
 unfold m9
 congr 2
 refine List.filter_congr fun x hx=>?_
 have:x.1≠key:=fun e=>h (List.mem_map.2 ⟨x,hx,e⟩)
 simp[this]
theorem Kf(aY:List (Dg × Bl))(key:Dg)(y:Bl)(dn:List Dg)(hn:(aY.map (·.1)).Nodup)(hm:(key,y)∈aY)(hd:key ∉ dn):m9 aY (key::dn)=m9 aY dn+y.size:=by
 induction aY with
 | nil=>cases hm
 | cons x l ih =>
  rw[List.map_cons,List.nodup_cons]at hn
  rcases List.mem_cons.1 hm with rfl|hm
  ·have h1:=Ke l key dn hn.1
   unfold m9 at h1 ⊢
   rw[List.filter_cons,List.filter_cons]
   simp only[List.mem_cons,true_or,decide_true,if_true,hd,decide_false,Bool.false_eq_true,if_false,List.map_cons,List.sum_cons]
   simp only[List.mem_cons]at h1
   rw[h1]
   omega
  ·have bT:x.1≠key:=fun e=>hn.1 (List.mem_map.2 ⟨_,hm,e.symm⟩)
   have h1:=ih hn.2 hm
   unfold m9 at h1 ⊢
   rw[List.filter_cons,List.filter_cons]
   by_cases hx:x.1∈dn
   ·simp only[List.mem_cons,hx,or_true,decide_true,if_true,List.map_cons,List.sum_cons]at h1 ⊢
    omega
   ·simp only[List.mem_cons,hx,bT,or_self,decide_false,Bool.false_eq_true,if_false]at h1 ⊢
    exact h1
theorem Is(aY:List (Dg × Bl))(dn:List Dg)(h:∀x∈aY,0≤x.2.size∧x.2.size≤1048576):0≤m9 aY dn∧m9 aY dn≤aY.length*1048576:=by
 unfold m9
 induction aY with
 | nil=>simp
 | cons x l ih =>
  obtain⟨h1,h2⟩:=h x (List.mem_cons_self ..)
  obtain⟨h3,h4⟩:=ih (fun y hy=>h y (List.mem_cons_of_mem _ hy))
  rw[List.filter_cons]
  split
  ·simp only[List.map_cons,List.sum_cons,List.length_cons,Int.natCast_add];omega
  ·simp only[List.length_cons,Int.natCast_add];omega
def pe(aY:List (Dg × Bl)):Prop:=(∀x∈aY,0≤x.2.size∧x.2.size≤1048576)∧aY.length≤1000000
set_option maxRecDepth 20000 in
theorem RB(bs bd:Nat)(q:Int)(mb:Nat)(s:eU)(hb:pe s.aY):aD Tryz.prog 85 [ptr bs] (cg bs bd q mb s)
  (fun r H=>r = .int .i64 (jF s)∧H=cg bs bd q mb s):=by
 obtain⟨A,aY,brk⟩:=s
 obtain⟨nK,qM⟩:=hb
 simp only at nK qM
 refine aD.enter Tryz.func85 ak rfl Tryz.ntmps85 zr zr ?_
 intro G F R hE
 refine aj (H':=ag bs (cl (ej bd q mb brk) 123)::aC bd A::aM dV mb (dt aY)::F) ad ?_
 refine tU (bd:=bd) (A:=A) 1 rfl ?_
 intro G0
 have N5:=se G0
 have zD:jF ⟨A,aY,brk⟩=((fJ A).map (nC A)).sum+(aY.map (·.2.size)).sum:=by
  unfold jF
  rw[wS (G0.nodup _ (List.mem_cons_self ..))]
 obtain⟨l,hl⟩:∃l,l=fJ A:=⟨_,rfl⟩
 rw[← hl]at zD N5
 rw[zD]at hE
 have hle:∀i,((l.take i).map (nC A)).sum≤209715200:=fun i=>by
  have h1:=ur (l.take i) (nC A) 1048576 (fun x _=>BK G0 x)
  have h2:(l.take i).length≤200:=by rw[List.length_take];omega
  omega
 refine go ?_
 have ld:=tT bd A
 rw[← hl]at ld
 ((refine ai zr zr zr zr (ld) ad ?_ bG))
 rintro r _ rfl
 ((refine aJ 0 rfl ?_))
 rintro ra rc rfl
 refine iL 0 rfl ?_
 intro dK
 refine go ?_
 refine bu (fun i:Nat=>i≤l.length) (fun i=>l.length-i)
  (fun i=>[(0,ptr bs),(3,.int .i64 (((l.take i).map (nC A)).sum:Nat)),(16,.slice ra l.length rc),(17,.int .i64 (l.length:Int)),(18,.int .i64 (i:Int))])
  (fun i=>aB 9 1 (.slice ra l.length rc) l.length (l.map Value.string)::ag bs (cl (ej bd q mb brk) 123)::aC bd A::aM dV mb (dt aY)::F) 0 (Nat.zero_le _) rfl cu ad ?_
 rintro i hi ih
 have IS:=hle i
 refine go ?_
 refine au zr zr ?_ ?_
 ·intro cW
  have gw:i<l.length:=by omega
  obtain⟨nm,hx⟩:∃x,l[i]?=some x:=⟨l[i],by simp⟩
  have k9:((l.take (i+1)).map (nC A)).sum=((l.take i).map (nC A)).sum+nC A nm:=by
   rw[List.take_add_one,hx];simp
  have dL:(l.map Value.string)[i]?=some (.string nm):=by rw[List.getElem?_map,hx];rfl
  have gu:=BK G0 nm
  obtain⟨b,o,gD,gb⟩:=dK.some (by intro h;rw[h]at dL;simp at dL)
  simp only[Value.slice.injEq]at gb
  obtain⟨rfl,_,rfl⟩:=gb
  refine go ?_
  refine cO i 1 zr zr zr zr zr zr zr zr gw ?_
  refine aK ?_
  refine bg 0 (i*1) zr zr zr dK rfl (by rw[Nat.mul_one];exact dL) zr zr ?_
  refine go ?_
  ((refine ai zr zr zr zr (Em kB nm (by decide)) ad ?_ bG))
  rintro _ _⟨rfl,rfl⟩
  cases hh:jx kB nm with
  | none =>
   have hz:nC A nm=0:=by unfold nC;rw[hh];rfl
   have Wt:((l.take i).map (nC A)).sum=((l.take (i+1)).map (nC A)).sum:=by omega
   simp only[En]
   unfold dV
   refine go ?_
   refine aw zr zr zr bz ?_
   intro b9
   refine go ?_
   rw[Wt]
   refine aL ih (i+1) rfl ah ah cu ad
  | some d =>
   have hz:nC A nm=(A.size nm).1:=by unfold nC;rw[hh];rfl
   rw[hz]at k9 gu
   simp only[En]
   unfold dV
   refine go ?_
   refine aw zr zr zr bz ?_
   intro b9
   refine go ?_
   ((refine ai zr zr zr zr (tP bd A nm) ad ?_ bG))
   rintro _ _⟨rfl,rfl⟩
   refine go ?_
   refine bB 3 (.int .i64 (((l.take (i+1)).map (nC A)).sum:Nat)) rfl (congrArg (Value.int .i64) (by rw[k9];omega)) ?_
   refine aL ih (i+1) rfl ah ah cu ad
 ·intro fq
  have sH:i=l.length:=by omega
  subst sH
  rw[List.take_length]
  obtain⟨n0,QW⟩:∃n0,n0=(l.map (nC A)).sum:=⟨_,rfl⟩
  rw[List.take_length]at IS
  rw[← QW]at IS hE ⊢
  refine rN fun⟨w,hw⟩=>?_
  have j4:(aY.map (·.1)).Nodup:=by
   obtain⟨h1,hA⟩:=BW hw (i:=3) rfl
   have:=GF hA
   unfold dt at this
   rwa[List.map_map]at this
  clear hw w
  refine go ?_
  refine wG (kv:=dV) (es:=dt aY) (U:=aN) 3 zr zr zr zr zr (fun _=>rfl) bz ?_
  intro it
  refine go ?_
  have AI:(dt aY).map (·.1)=aY.map (·.1):=by unfold dt;rw[List.map_map];rfl
  have ir:∀dn,0≤m9 aY dn∧m9 aY dn≤1048576000000:=fun dn=>by
   have:=Is aY dn nK
   omega
  have h00:(n0:Int)=(n0:Int)+m9 aY []:=by rw[Nk];omega
  refine bB 3 (.int .i64 ((n0:Int)+m9 aY [])) rfl (congrArg (Value.int .i64) h00) ?_
  refine bu (fun s:List Dg=>s.Nodup∧∀x∈s,x∈aY.map (·.1)) (fun s=>aY.length-s.length) (fun s=>[(0,ptr bs),(3,.int .i64 ((n0:Int)+m9 aY s)),(45,.pointer (some ⟨it,0,none⟩))])
   (fun s=>bN dV mb it (dt aY) s::ag bs (cl (ej bd q mb brk) 123)::aC bd A::F) [] ⟨List.nodup_nil,by simp⟩ rfl cu ad ?_
  clear ih
  rintro dn⟨ym,er⟩ ih
  have hsd:=ir dn
  refine go ?_
  refine Cu (kv:=dV) (es:=dt aY) 0 rfl QE.inj zr zr (fun _=>rfl) gE bz ?_ ?_
  ·intro eZ
   have hme:m9 aY dn=(aY.map (·.2.size)).sum:=DL aY dn (fun x hx=>eZ (x.1,eg x.2) (List.mem_map.2 ⟨x,hx,rfl⟩))
   rw[hme]
   refine go ?_
   refine aj (ao.head (B:=[aM dV mb (dt aY)]) (fun h hs=>by obtain⟨h',s,hm⟩:=qF h hs;exact⟨h',s,fU hm⟩)) ?_
   refine aj (H':=cg bs bd q mb ⟨A,aY,brk⟩++F) ad ?_
   ((refine ae hE Tryz.func85 rfl _ rfl ⟨rfl,rfl⟩ ad))
  ·intro key v fg vP
   obtain⟨y,hy,hye⟩:∃y,(key,y)∈aY∧v=eg y:=by
    obtain⟨z,hz,he⟩:=List.mem_map.1 fg
    cases he
    exact⟨z.2,hz,rfl⟩
   subst hye
   have R':=Kf aY key y dn j4 hy vP
   have adB:=ir (key::dn)
   have hk:key∈aY.map (·.1):=List.mem_map.2 ⟨_,hy,rfl⟩
   have cW:dn.length<aY.length:=by
    have h1:(key::dn).length≤(aY.map (·.1)).length:=(List.nodup_cons.2 ⟨vP,ym⟩).length_le_of_subset (fun x hx=>by rcases List.mem_cons.1 hx with rfl|h;exact hk;exact er x h)
    simp only[List.length_cons,List.length_map]at h1
    omega
   refine go ?_
   refine wK (kv:=dV) (es:=dt aY) 0 rfl QE.inj zr zr fg ?_
   unfold eg
   refine go ?_
   refine aw zr zr zr bz ?_
   intro b11
   refine go ?_
   refine bB 3 (.int .i64 ((n0:Int)+m9 aY (key::dn))) rfl (congrArg (Value.int .i64) (by rw[R'];omega)) ?_
   refine aL ih (key::dn) rfl (⟨List.nodup_cons.2 ⟨vP,ym⟩,fun x hx=>by rcases List.mem_cons.1 hx with rfl|h;exact hk;exact er x h⟩) (by show _-(key::dn).length<_;simp only[List.length_cons];omega) cu ad
end Go.Proofs.YtedjnjkijiddlaaGreatDoor
namespace Go.Proofs.YtedjnjkijiddlaaGreatDoor
open Go Go.SL
structure HA(A:Ab):Prop where
 ef:A.ef=[]
 on:A.off=false
 keys:(A.names.map (·.1)).Nodup
 own:(A.names.map (·.2)).Nodup
 ids:(A.fs.map (·.1)).Nodup
 known:∀x∈A.names,x.2∈A.fs.map (·.1)
def vw(A:Ab)(nm:ByteArray):Option (List UInt8):=(A.look nm).map A.now
theorem HA.new(room:Nat):HA (Ab.new room):=⟨rfl,rfl,List.nodup_nil,List.nodup_nil,List.nodup_nil,fun _ h=>by cases h⟩
theorem HA.meet{A:Ab}(h:HA A):A.meet true=(0,A):=by unfold Ab.meet;rw[if_neg (by simp),if_neg (by rw[h.on];simp),h.ef]
theorem HA.find{A:Ab}(h:HA A)(nm:ByteArray):A.find nm true=match A.look nm with|none=>(4,none,A)|some f=>(0,some f,A):=by
 unfold Ab.find
 rw[h.meet,if_pos rfl]
 dsimp only
 cases A.look nm <;> rfl
theorem gp{A:Ab}{nm:ByteArray}{f:Nat}(h:A.look nm=some f):(nm,f)∈A.names:=by
 unfold Ab.look Ab.cG at h
 cases hx:A.names.find? (fun x=>decide (x.1=nm))with
 | none=>rw[hx]at h;cases h
 | some x =>
  rw[hx]at h
  injection h with h
  have h1:=List.mem_of_find?_eq_some hx
  have h2:x.1=nm:=by simpa using List.find?_some hx
  rw[← h2,← h]
  exact h1
theorem HA.Qq{A:Ab}(h:HA A){a b:ByteArray}{f:Nat}(ha:A.look a=some f)(hb:A.look b=some f):a=b:=by
 have h1:=gp ha
 have h2:=gp hb
 have hn:=h.own
 have key:∀l:List (ByteArray × Nat),(l.map (·.2)).Nodup→(a,f)∈l→(b,f)∈l→a=b:=by
  intro l
  induction l with
  | nil=>intro _ h;cases h
  | cons y l ih =>
   intro hn h1 h2
   rw[List.map_cons,List.nodup_cons]at hn
   rcases List.mem_cons.1 h1 with e1|h1
   ·rcases List.mem_cons.1 h2 with e2|h2
    ·rw[← e2]at e1;exact congrArg Prod.fst e1
    ·exact absurd (List.mem_map.2 ⟨_,h2,rfl⟩) (by rw[← e1]at hn;exact hn.1)
   ·rcases List.mem_cons.1 h2 with e2|h2
    ·exact absurd (List.mem_map.2 ⟨_,h1,rfl⟩) (by rw[← e2]at hn;exact hn.1)
    ·exact ih hn.2 h1 h2
 exact key A.names hn h1 h2
theorem DS(l:List (ByteArray × Nat))(k nm:ByteArray)(f:Nat)(hk:Ab.cG l k=none):Ab.cG (l++[(k,f)]) nm=if nm=k then some f else Ab.cG l nm:=by
 unfold Ab.cG at hk ⊢
 rw[List.find?_append]
 by_cases h:nm=k
 ·subst h
  rw[if_pos rfl]
  cases hx:l.find? (fun x=>decide (x.1=nm))with
  | none=>simp
  | some x=>rw[hx]at hk;cases hk
 ·rw[if_neg h]
  cases hx:l.find? (fun x=>decide (x.1=nm))with
  | none=>simp;exact fun e=>h e.symm
  | some x=>simp
theorem Ip{A:Ab}{f g:Nat}(names:List (ByteArray × Nat))(aq:List (List (ByteArray × Nat))):({ A with names:=names,aq:=aq,fs:=(f,[],[])::A.fs }:Ab).now g=if f=g then []else A.now g:=by
 unfold Ab.now Ab.file
 rw[List.find?_cons]
 by_cases h:f=g <;> simp[h]
theorem HA.create{A:Ab}(h:HA A){nm:ByteArray}{f:Nat}(hv:vw A nm=none)(hl:A.names.length<200)(hf:f ∉ A.fs.map (·.1)){e:Nat}{B:Ab}(hB:(e,B)=A.create true nm f) :
  e=0∧HA B∧(∀n,vw B n=if n=nm then some []else vw A n)∧B.names.length=A.names.length+1∧B.room=A.room:=by
 have od:A.look nm=none:=by
  unfold vw at hv
  cases hx:A.look nm with
  | none=>rfl
  | some x=>rw[hx]at hv;cases hv
 have hc:A.create true nm f=(0,{ A.mV (A.names++[(nm,f)])with fs:=(f,[],[])::A.fs }):=by
  unfold Ab.create
  rw[h.meet,if_pos rfl]
  simp only
  rw[od,if_neg (by simp),if_neg ah]
 rw[hc]at hB
 injection hB with h1 h2
 subst h1 h2
 have acy:∀n g,A.look n=some g→f≠g:=fun n g hg e=>hf (e ▸ h.known _ (gp hg))
 refine⟨rfl,⟨h.ef,h.on,?_,?_,?_,?_⟩,?_,?_,rfl⟩
 ·show((A.names++[(nm,f)]).map (·.1)).Nodup
  rw[List.map_append,List.nodup_append]
  refine⟨h.keys,by simp,fun a ha b hb=>?_⟩
  simp only[List.map_cons,List.map_nil,List.mem_singleton]at hb
  subst hb
  rintro rfl
  obtain⟨x,hx,NM⟩:=List.mem_map.1 ha
  have:=fe h.keys hx
  rw[NM,od]at this
  cases this
 ·show((A.names++[(nm,f)]).map (·.2)).Nodup
  rw[List.map_append,List.nodup_append]
  refine⟨h.own,by simp,fun a ha b hb=>?_⟩
  simp only[List.map_cons,List.map_nil,List.mem_singleton]at hb
  subst hb
  rintro rfl
  obtain⟨x,hx,rfl⟩:=List.mem_map.1 ha
  exact hf (h.known x hx)
 ·exact List.nodup_cons.2 ⟨hf,h.ids⟩
 ·intro x hx
  rcases List.mem_append.1 hx with hx|hx
  ·exact List.mem_cons_of_mem _ (h.known x hx)
  ·simp only[List.mem_singleton]at hx
   subst hx
   exact List.mem_cons_self ..
 ·intro n
  unfold vw
  have e1:({ A.mV (A.names++[(nm,f)])with fs:=(f,[],[])::A.fs }:Ab).look n=if n=nm then some f else A.look n:=DS A.names nm n f od
  rw[e1]
  by_cases hn:n=nm
  ·rw[if_pos hn,if_pos hn]
   show some _=_
   exact congrArg some ((Ip _ _).trans (if_pos rfl))
  ·rw[if_neg hn,if_neg hn]
   cases hg:A.look n with
   | none=>rfl
   | some g=>exact congrArg some ((Ip _ _).trans (if_neg (acy n g hg)))
 ·show(A.names++[(nm,f)]).length=_
  simp
theorem Nf(A:Ab)(f g:Nat)(n:List UInt8)(w:List (Nat × Nat × List UInt8))(hg:g∈A.fs.map (·.1)):({ A with fs:=Ab.Bn A.fs f n,writes:=w }:Ab).now g=if g=f then n else A.now g:=by
 unfold Ab.now Ab.file Ab.Bn
 simp only[List.find?_map]
 have:((fun x:Nat × List UInt8 × List UInt8=>decide (x.1=g)) ∘ fun x=>if x.1=f then(x.1,n,x.2.2)else x)=fun x=>decide (x.1=g):=by
  funext x
  simp only[Function.comp]
  split <;> rfl
 rw[this]
 cases hx:A.fs.find? (fun x=>decide (x.1=g))with
 | none =>
  obtain⟨y,hy,hyg⟩:=List.mem_map.1 hg
  have:=List.find?_eq_none.1 hx y hy
  simp[hyg]at this
 | some x =>
  have hxg:x.1=g:=by simpa using List.find?_some hx
  simp only[Option.map_some,Option.getD_some]
  by_cases Ec:g=f
  ·rw[if_pos (hxg.trans Ec),if_pos Ec]
  ·rw[if_neg (fun e=>Ec (hxg ▸ e)),if_neg Ec]
theorem HA.write{A:Ab}(h:HA A){nm:ByteArray}{c:List UInt8}(hv:vw A nm=some c)(at_:Nat)(b:List UInt8)(hr:A.used+(at_+b.length)≤A.room){e:Nat}{B:Ab}(hB:(e,B)=A.write true nm at_ b) :
  e=0∧HA B∧(∀n,vw B n=if n=nm then some (bH c at_ b)else vw A n)∧B.names=A.names∧B.room=A.room:=by
 obtain⟨f,hf,rfl⟩:∃f,A.look nm=some f∧A.now f=c:=by
  unfold vw at hv
  cases hx:A.look nm with
  | none=>rw[hx]at hv;cases hv
  | some f=>rw[hx]at hv;injection hv with hv;exact⟨f,rfl,hv⟩
 have hc:A.write true nm at_ b=(0,{ A with fs:=Ab.Bn A.fs f (bH (A.now f) at_ b),writes:=A.writes++[(f,at_,b)] }):=by
  unfold Ab.write
  rw[h.find,hf]
  dsimp only
  rw[if_pos rfl,if_neg ah]
 rw[hc]at hB
 injection hB with h1 h2
 subst h1 h2
 have aau:∀g,g∈A.fs.map (·.1)→({ A with fs:=Ab.Bn A.fs f (bH (A.now f) at_ b),writes:=A.writes++[(f,at_,b)] }:Ab).now g=if g=f then bH (A.now f) at_ b else A.now g:=fun g hg=>Nf A f g _ _ hg
 refine⟨rfl,⟨h.ef,h.on,h.keys,h.own,?_,?_⟩,?_,rfl,rfl⟩
 ·show((Ab.Bn A.fs f _).map (·.1)).Nodup
  rw[sK]
  exact h.ids
 ·intro x hx
  show x.2∈(Ab.Bn A.fs f _).map (·.1)
  rw[sK]
  exact h.known x hx
 ·intro n
  unfold vw
  show(A.look n).map _=_
  by_cases hn:n=nm
  ·subst hn
   rw[if_pos rfl,hf]
   exact congrArg some ((aau f (h.known _ (gp hf))).trans (if_pos rfl))
  ·rw[if_neg hn]
   cases hg:A.look n with
   | none=>rfl
   | some g=>exact congrArg some ((aau g (h.known _ (gp hg))).trans (if_neg (fun e=>hn (h.Qq (e ▸ hg) hf))))
theorem z8(fs:List (Nat × List UInt8 × List UInt8))(f:Nat):(Ab.nu fs f).map (·.1)=fs.map (·.1):=by
 unfold Ab.nu
 rw[List.map_map]
 refine List.map_congr_left fun x _=>?_
 simp only[Function.comp]
 split <;> rfl
theorem Kb(A:Ab)(f g:Nat)(w:List (Nat × Nat × List UInt8)):({ A with fs:=Ab.nu A.fs f,writes:=w }:Ab).now g=A.now g:=by
 unfold Ab.now Ab.file Ab.nu
 simp only[List.find?_map]
 have:((fun x:Nat × List UInt8 × List UInt8=>decide (x.1=g)) ∘ fun x=>if x.1=f then(x.1,x.2.1,x.2.1)else x)=fun x=>decide (x.1=g):=by
  funext x
  simp only[Function.comp]
  split <;> rfl
 rw[this]
 cases A.fs.find? (fun x=>decide (x.1=g))with
 | none=>rfl
 | some x =>
  simp only[Option.map_some,Option.getD_some]
  split <;> rfl
theorem HA.sync{A:Ab}(h:HA A){nm:ByteArray}{c:List UInt8}(hv:vw A nm=some c){e:Nat}{B:Ab}(hB:(e,B)=A.sync true nm) :
  e=0∧HA B∧(∀n,vw B n=vw A n)∧B.names=A.names∧B.room=A.room:=by
 obtain⟨f,hf⟩:∃f,A.look nm=some f:=by
  unfold vw at hv
  cases hx:A.look nm with
  | none=>rw[hx]at hv;cases hv
  | some f=>exact⟨f,rfl⟩
 have hc:A.sync true nm=(0,{ A with fs:=Ab.nu A.fs f,writes:=A.writes.filter fun x => !decide (x.1=f) }):=by
  unfold Ab.sync
  rw[h.find,hf]
  dsimp only
  rw[if_pos rfl]
 rw[hc]at hB
 injection hB with h1 h2
 subst h1 h2
 refine⟨rfl,⟨h.ef,h.on,h.keys,h.own,?_,?_⟩,?_,rfl,rfl⟩
 ·show((Ab.nu A.fs f).map (·.1)).Nodup
  rw[z8]
  exact h.ids
 ·intro x hx
  show x.2∈(Ab.nu A.fs f).map (·.1)
  rw[z8]
  exact h.known x hx
 ·intro n
  unfold vw
  show(A.look n).map _=_
  cases hg:A.look n with
  | none=>rfl
  | some g=>exact congrArg some (Kb A f g _)
theorem HA.cf{A:Ab}(h:HA A){e:Nat}{B:Ab}(hB:(e,B)=A.cf):e=0∧HA B∧(∀n,vw B n=vw A n)∧B.names=A.names∧B.room=A.room:=by
 have hc:A.cf=(0,{ A with aq:=[A.names] }):=by
  unfold Ab.cf
  rw[h.meet,if_pos rfl]
 rw[hc]at hB
 injection hB with h1 h2
 subst h1 h2
 exact⟨rfl,⟨h.ef,h.on,h.keys,h.own,h.ids,h.known⟩,fun n=>rfl,rfl,rfl⟩
theorem nE(l:List (ByteArray × Nat))(k n:ByteArray):Ab.cG (Ab.dx l k) n=if n=k then none else Ab.cG l n:=by
 unfold Ab.cG Ab.dx
 induction l with
 | nil=>simp
 | cons x l ih =>
  rw[List.filter_cons]
  by_cases hx:x.1=k
  ·simp only[hx,decide_true,Bool.not_true,Bool.false_eq_true,if_false,List.find?_cons]
   rw[ih]
   by_cases hn:n=k
   ·simp[hn]
   ·have:¬k=n:=fun e=>hn e.symm
    simp[hn,this]
  ·simp only[hx,decide_false,Bool.not_false,if_true,List.find?_cons]
   by_cases hxn:x.1=n
   ·have:¬n=k:=fun e=>hx (hxn.trans e)
    simp[hxn,this]
   ·simp only[hxn,decide_false]
    exact ih
theorem HA.remove{A:Ab}(h:HA A){nm:ByteArray}{c:List UInt8}(hv:vw A nm=some c){e:Nat}{B:Ab}(hB:(e,B)=A.remove true nm) :
  e=0∧HA B∧(∀n,vw B n=if n=nm then none else vw A n)∧B.names=Ab.dx A.names nm∧B.room=A.room:=by
 obtain⟨f,hf⟩:∃f,A.look nm=some f:=by
  unfold vw at hv
  cases hx:A.look nm with
  | none=>rw[hx]at hv;cases hv
  | some f=>exact⟨f,rfl⟩
 have hc:A.remove true nm=(0,A.mV (Ab.dx A.names nm)):=by
  unfold Ab.remove
  rw[h.find,hf]
  rfl
 rw[hc]at hB
 injection hB with h1 h2
 subst h1 h2
 refine⟨rfl,⟨h.ef,h.on,?_,?_,h.ids,?_⟩,?_,rfl,rfl⟩
 ·exact(List.filter_sublist.map _).nodup h.keys
 ·exact(List.filter_sublist.map _).nodup h.own
 ·intro x hx
  exact h.known x (List.mem_filter.1 hx).1
 ·intro n
  unfold vw
  have e1:(A.mV (Ab.dx A.names nm)).look n=if n=nm then none else A.look n:=nE A.names nm n
  rw[e1]
  by_cases hn:n=nm
  ·rw[if_pos hn,if_pos hn];rfl
  ·rw[if_neg hn,if_neg hn];rfl
theorem HA.rename{A:Ab}(h:HA A){o n:ByteArray}{c:List UInt8}(bT:o≠n)(hv:vw A o=some c)(IG:vw A n=none){e:Nat}{B:Ab}(hB:(e,B)=A.rename true o n) :
  e=0∧HA B∧(∀m,vw B m=if m=n then some c else if m=o then none else vw A m)∧B.room=A.room∧∃f,A.look o=some f∧B.names=Ab.dx A.names o++[(n,f)]:=by
 obtain⟨f,hf,rfl⟩:∃f,A.look o=some f∧A.now f=c:=by
  unfold vw at hv
  cases hx:A.look o with
  | none=>rw[hx]at hv;cases hv
  | some f=>rw[hx]at hv;injection hv with hv;exact⟨f,rfl,hv⟩
 have vS:A.look n=none:=by
  unfold vw at IG
  cases hx:A.look n with
  | none=>rfl
  | some x=>rw[hx]at IG;cases IG
 have N8:Ab.cG (Ab.dx A.names o) n=none:=by
  rw[nE]
  split
  ·rfl
  ·exact vS
 have gY:Ab.jH (Ab.dx A.names o) n f=Ab.dx A.names o++[(n,f)]:=by
  unfold Ab.jH
  rw[N8];simp
 have hc:A.rename true o n=(0,A.mV (Ab.dx A.names o++[(n,f)])):=by
  unfold Ab.rename
  rw[h.find,hf]
  show(0,A.mV (Ab.jH (Ab.dx A.names o) n f))=_
  rw[gY]
 rw[hc]at hB
 injection hB with h1 h2
 subst h1 h2
 have er:∀x∈Ab.dx A.names o,x∈A.names∧x.1≠o:=fun x hx=>by
  obtain⟨h1,h2⟩:=List.mem_filter.1 hx
  exact⟨h1,by simpa using h2⟩
 refine⟨rfl,⟨h.ef,h.on,?_,?_,h.ids,?_⟩,?_,rfl,f,hf,rfl⟩
 ·show((Ab.dx A.names o++[(n,f)]).map (·.1)).Nodup
  rw[List.map_append,List.nodup_append]
  refine⟨(List.filter_sublist.map _).nodup h.keys,by simp,fun a ha b hb=>?_⟩
  simp only[List.map_cons,List.map_nil,List.mem_singleton]at hb
  subst hb
  rintro rfl
  obtain⟨x,hx,rfl⟩:=List.mem_map.1 ha
  have:=fe h.keys (er x hx).1
  rw[vS]at this
  cases this
 ·show((Ab.dx A.names o++[(n,f)]).map (·.2)).Nodup
  rw[List.map_append,List.nodup_append]
  refine⟨(List.filter_sublist.map _).nodup h.own,by simp,fun a ha b hb=>?_⟩
  simp only[List.map_cons,List.map_nil,List.mem_singleton]at hb
  subst hb
  rintro rfl
  obtain⟨x,hx,NM⟩:=List.mem_map.1 ha
  have h3:=fe h.keys (er x hx).1
  rw[NM]at h3
  exact(er x hx).2 (h.Qq h3 hf)
 ·intro x hx
  rcases List.mem_append.1 hx with hx|hx
  ·exact h.known x (er x hx).1
  ·simp only[List.mem_singleton]at hx
   subst hx
   exact h.known (o,f) (gp hf)
 ·intro m
  unfold vw
  have e1:(A.mV (Ab.dx A.names o++[(n,f)])).look m=if m=n then some f else if m=o then none else A.look m:=by
   refine(DS (Ab.dx A.names o) n m f N8).trans ?_
   rw[nE]
   rfl
  rw[e1]
  by_cases hm:m=n
  ·rw[if_pos hm,if_pos hm];rfl
  ·rw[if_neg hm,if_neg hm]
   by_cases hmo:m=o
   ·rw[if_pos hmo,if_pos hmo];rfl
   ·rw[if_neg hmo,if_neg hmo];rfl
theorem Mq(d:Dg):(gP d).all Wf=true:=by
 rw[List.all_eq_true]
 intro x hx
 unfold gP at hx
 obtain⟨i,_,rfl⟩:=List.mem_map.1 hx
 have h:=sR d i
 unfold kZ at h
 unfold Wf
 rw[decide_eq_true_eq]
 split at h
 ·rename_i h1;right;left;exact h1
 ·split at h
  ·rename_i h1;left;omega
  ·cases h
theorem vy(k:List UInt8)(d:Dg)(hk:k.length≤10)(ho:k.all Wf=true):isName (du k d)=true:=by
 unfold isName du
 rw[rS]
 have hs:(strOf (k++gP d)).size=k.length+64:=by
  show(k++gP d).toArray.size=_
  rw[List.size_toArray,List.length_append,js]
 rw[hs,List.all_append,ho,Mq]
 simp
 omega
theorem gq(x:Bl):isName (fS x)=true:=vy kS x.d (by decide) (by decide)
theorem AD(x:Bl):isName (fB x)=true:=vy kB x.d (by decide) (by decide)
theorem EA(x y:Bl):fS x≠fB y:=fun h=>absurd (yC (by rfl) h) (by decide)
theorem QA(x:Bl)(at_:Nat)(b:List UInt8)(h:at_+b.length≤1048576):fK (fS x) at_ b=true:=by
 unfold fK
 rw[gq]
 simp
 omega
theorem mQ(A:Ab)(nm:ByteArray):sl A nm=(vw A nm).isSome:=by
 unfold sl vw
 cases A.look nm <;> rfl
theorem nV{A:Ab}(h:HA A)(nm:ByteArray):e9 A nm=vw A nm:=by
 unfold e9 vw
 cases A.look nm with
 | none=>rfl
 | some f=>simp[h.on]
theorem Fy{q:Int}{x:Bl}{s t:eU}{e:Nat}(h:HA s.A)(hb:s.brk=false)(hr:bo x=true)(iZ:gz s.aY x.d=none)(hB:vw s.A (fB x)=none)(hq:jF s+x.size≤q)(hS:vw s.A (fS x)=none)(hn:s.A.names.length<200)(hR:dJ q x s e t) :
  e=0∧HA t.A∧t.brk=false∧t.aY=s.aY++[(x.d,x)]∧(∀n,vw t.A n=if n=fS x then some []else vw s.A n)∧t.A.names.length=s.A.names.length+1∧t.A.room=s.A.room:=by
 obtain⟨A,aY,brk⟩:=s
 simp only at h hb iZ hB hS hn
 subst hb
 unfold dJ at hR
 rw[if_neg (by simp),if_neg (by rw[hr];simp),if_neg (by rw[iZ,mQ,hB];simp),if_neg ah,if_neg (by rw[mQ,hS];simp)]at hR
 obtain⟨e1,s1,⟨B,fm,rfl⟩,hc⟩:=hR
 obtain⟨e2,A2,⟨f,hf,KR⟩,mC⟩:=fm
 rw[gq]at KR
 obtain⟨rfl,h2,uh,rf,zt⟩:=h.create hS hn hf KR
 rcases mC with⟨bT,_⟩|⟨_,e3,A3,Wu,Xi⟩
 ·exact absurd rfl bT
 obtain⟨rfl,h3,hv3,KF,Yc⟩:=h2.cf Wu
 rcases Xi with⟨bT,_⟩|⟨_,rfl,rfl⟩
 ·exact absurd rfl bT
 rcases hc with⟨bT,_⟩|⟨_,rfl,rfl⟩
 ·exact absurd rfl bT
 exact⟨rfl,h3,rfl,rfl,fun n=>(hv3 n).trans (uh n),by rw[KF];exact rf,Yc.trans zt⟩
theorem HD{x:Bl}{i at_ n:Int}{b c:List UInt8}{s t:eU}{e:Nat}(h:HA s.A)(hb:s.brk=false)(ho:gz s.aY x.d=some x)(fW:cP x i=some (at_,n))(hl:(b.length:Int)=n)(hv:vw s.A (fS x)=some c)(PY:0≤at_∧at_+b.length≤1048576)(pS:s.A.used+(at_.toNat+b.length)≤s.A.room)(hR:mF x i b s e t) :
  e=0∧HA t.A∧t.brk=false∧t.aY=s.aY∧(∀n,vw t.A n=if n=fS x then some (bH c at_.toNat b)else vw s.A n)∧t.A.names=s.A.names∧t.A.room=s.A.room:=by
 obtain⟨A,aY,brk⟩:=s
 simp only at h hb ho hv pS
 subst hb
 unfold mF at hR
 have hm:iV ⟨A,aY,false⟩ x=0:=by unfold iV tj;simp[ho]
 rw[hm,if_neg (by simp),fW]at hR
 dsimp only at hR
 rw[if_neg ah]at hR
 obtain⟨B,⟨e1,A1,hw,hc⟩,rfl⟩:=hR
 unfold fz at hw
 rw[QA x at_.toNat b ah]at hw
 obtain⟨rfl,h1,lS,KG,BQ⟩:=h.write hv at_.toNat b pS hw
 rcases hc with⟨bT,_⟩|⟨_,rfl,rfl⟩
 ·exact absurd rfl bT
 exact⟨rfl,h1,rfl,rfl,lS,KG,BQ⟩
theorem uf{x:Bl}{c:List UInt8}{s t:eU}{e:Nat}(h:HA s.A)(hb:s.brk=false)(ho:gz s.aY x.d=some x)(hv:vw s.A (fS x)=some c)(hR:gN x s e t) :
  e=0∧HA t.A∧t.brk=false∧t.aY=nR s.aY x.d∧(∀n,vw t.A n=if n=fS x then none else vw s.A n)∧t.A.names=Ab.dx s.A.names (fS x)∧t.A.room=s.A.room:=by
 obtain⟨A,aY,brk⟩:=s
 simp only at h hb ho hv
 subst hb
 unfold gN at hR
 have hm:iV ⟨A,aY,false⟩ x=0:=by unfold iV tj;simp[ho]
 rw[hm,if_neg (by simp)]at hR
 obtain⟨s1,⟨B,⟨e1,A1,hw,hc⟩,rfl⟩,ht⟩:=hR
 unfold iU at hw
 rw[gq]at hw
 obtain⟨rfl,h1,lS,KG,BQ⟩:=h.remove hv hw
 rcases hc with⟨bT,_⟩|⟨_,rfl,rfl⟩
 ·exact absurd rfl bT
 rw[if_neg (by simp)]at ht
 subst ht
 exact⟨rfl,h1,rfl,rfl,lS,KG,BQ⟩
theorem vJ{x:Bl}{c:List UInt8}{s t:eU}{e:Nat}(h:HA s.A)(hb:s.brk=false)(ho:gz s.aY x.d=some x)(hv:vw s.A (fS x)=some c)(hw:dP x c=false)(hR:dI x s e t) :
  e=8∧HA t.A∧t.brk=false∧t.aY=nR s.aY x.d∧(∀n,vw t.A n=if n=fS x then none else vw s.A n)∧t.A.names=Ab.dx s.A.names (fS x)∧t.A.room=s.A.room:=by
 have hm:iV s x=0:=by unfold iV tj;simp[hb,ho]
 unfold dI at hR
 rw[hm,if_neg (by simp),nV h,hv,if_pos (by exact hw)]at hR
 obtain⟨e1,mD,he⟩:=hR
 obtain⟨rfl,h1,h2,h3,h4,h5,h6⟩:=uf h hb ho hv mD
 rw[if_neg (by simp)]at he
 exact⟨he,h1,h2,h3,h4,h5,h6⟩
theorem zj{x:Bl}{c:List UInt8}{s t:eU}{e:Nat}(h:HA s.A)(hb:s.brk=false)(ho:gz s.aY x.d=some x)(hv:vw s.A (fS x)=some c)(iZ:vw s.A (fB x)=none)(hw:dP x c=true)(hR:dI x s e t) :
  e=0∧HA t.A∧t.brk=false∧t.aY=nR s.aY x.d∧(∀n,vw t.A n=if n=fB x then some c else if n=fS x then none else vw s.A n)∧t.A.room=s.A.room∧∃f,t.A.names=Ab.dx s.A.names (fS x)++[(fB x,f)]:=by
 obtain⟨A,aY,brk⟩:=s
 simp only at h hb ho hv iZ
 subst hb
 have hm:iV ⟨A,aY,false⟩ x=0:=by unfold iV tj;simp[ho]
 unfold dI at hR
 rw[hm,if_neg (by simp),nV h,hv,if_neg (by show ¬dP x c=false;rw[hw];simp)]at hR
 obtain⟨s1,⟨B,⟨e1,A1,h1,FL⟩,rfl⟩,ht⟩:=hR
 unfold eX at h1
 rw[gq]at h1
 obtain⟨rfl,g1,v1,l1,r1⟩:=h.sync hv h1
 rcases FL with⟨bT,_⟩|⟨_,e2,A2,h2,mC⟩
 ·exact absurd rfl bT
 unfold kH at h2
 rw[show [fS x,fB x].all isName=true from by simp[gq,AD]]at h2
 obtain⟨rfl,g2,v2,r2,f,_,l2⟩:=g1.rename (EA x x) ((v1 _).trans hv) ((v1 _).trans iZ) h2
 rcases mC with⟨bT,_⟩|⟨_,e3,A3,h3,Xi⟩
 ·exact absurd rfl bT
 obtain⟨rfl,g3,v3,l3,r3⟩:=g2.cf h3
 rcases Xi with⟨bT,_⟩|⟨_,rfl,rfl⟩
 ·exact absurd rfl bT
 rw[if_neg (by simp)]at ht
 subst ht
 refine⟨rfl,g3,rfl,rfl,fun n=>?_,r3.trans (r2.trans r1),f,by rw[l3,l2,l1]⟩
 rw[v3,v2]
 split
 ·rfl
 ·split
  ·rfl
  ·exact v1 n
def stE(bs bd:Nat)(q:Int)(mb:Nat):HP:=fun h=>∃b,ag bs (cl (ej bd q mb b) 123) h
theorem F6(bs bd:Nat)(q:Int)(mb:Nat)(b:Bool)(H:List HP):ao (ag bs (cl (ej bd q mb b) 123)::H) (stE bs bd q mb::H) :=
 ao.fold (B:=[_]) fun h' hs=>⟨h',sub.refl h',b,eN hs⟩
theorem Mv{G:cC}{w:World}{bs bd:Nat}{q:Int}{mb:Nat}{H:List HP}(hw:Sat G w (stE bs bd q mb::H)):w.cell? ⟨bs,0,none⟩=some (ptr bd):=by
 obtain⟨h,hh,b,hA⟩:=hw.kQ (i:=0) rfl
 have hb:h bs=some (cl (ej bd q mb b) 123):=by rw[hA bs,if_pos rfl]
 exact dO hh (by unfold dL;rw[hb];rfl)
attribute [local irreducible] J K aD Ends ag aB aM bN aZ aP aV bh bW Sha.chunks Sha.chunk Sha.rounds Sha.sched dM ct GI cU aC
section
variable{P:Program}{f:FuncId}{n:Nat}{R:Ending→World→Prop}{G:cC}{L:fC}{H:List HP}{S:World→Prop}{all:Array Oper}{rest:Pl}
theorem abD{k k':List Item}{α:Type}(I:α→Prop)(Lf:α→fC)(Hf:α→List HP)(hk:iy 1000 k = .mk k')(tail:∀y,I y→K P f n R G k' (Lf y) (Hf y))(h:(∀y,I y→K P f n R G k' (Lf y) (Hf y))→J P f n R G S all rest k L H):J P f n R G S all rest k L H:=h tail
theorem X2{k k':List Item}{α:Type}(m:Nat)(I:α→Prop)(Lf:α→fC)(Hf:α→List HP)(hk:iy 1000 (k.drop m) = .mk k')(tail:∀y,I y→K P f n R G k' (Lf y) (Hf y))(h:(∀y,I y→K P f n R G k' (Lf y) (Hf y))→J P f n R G S all rest k L H):J P f n R G S all rest k L H:=h tail
end
theorem Mj{A:Ab}{aY:List (Dg × Bl)}{brk:Bool}(h:Jv A)(hb:pe aY):0≤jF ⟨A,aY,brk⟩∧jF ⟨A,aY,brk⟩≤1048786000000:=by
 have h1:=Is aY (aY.map (·.1)) hb.1
 rw[DL aY _ (fun x hx=>List.mem_map.2 ⟨x,hx,rfl⟩)]at h1
 have h2:=wS (h.nodup _ (List.mem_cons_self ..))
 have h3:=ur (fJ A) (nC A) 1048576 (fun x _=>BK h x)
 have h4:=se h
 have h5:=hb.2
 unfold jF
 simp only
 rw[h2]
 omega
theorem OR(l:List (Dg × Bl))(x:Bl)(h:gz l x.d=none):nk (dt l) x.d (eg x)=dt (l++[(x.d,x)]):=by
 have hn:x.d ∉ (dt l).map (·.1):=by
  rw[← yU,qS,h];rfl
 unfold nk
 rw[if_neg hn]
 simp[dt]
set_option maxRecDepth 20000 in
theorem Fz(bs bd:Nat)(q:Int)(hq:0≤q∧q≤1073741824)(mb:Nat)(s:eU)(x:Bl)(On:pe s.aY)(cF:s.A.aq.length≤900000000)(eH:s.A.writes.length≤900000000) :
  aD Tryz.prog 35 [ptr bs,eg x] (cg bs bd q mb s)
  (fun r H=>∃(e:Nat) (t:eU),r = .int .i64 (e:Int)∧H=cg bs bd q mb t∧dJ q x s e t):=by
 obtain⟨A,aY,brk⟩:=s
 have aaj:=RB bs bd q mb ⟨A,aY,brk⟩ On
 have od:=qS aY x.d
 obtain⟨nK,qM⟩:=On
 simp only at cF eH nK qM
 have sh:=nW x
 have uJ:=RL bs bd q mb brk A x.d
 unfold dV at uJ
 unfold eg at sh ⊢
 refine aD.enter Tryz.func35 ak rfl Tryz.ntmps35 zr zr ?_
 intro G F R hE
 refine aj (H':=ag bs (cl (ej bd q mb brk) 123)::aM dV mb (dt aY)::aC bd A::F) (ao.refl _) ?_
 refine aE rfl ?_
 refine bC zr zr bz ?_
 intro b2
 refine bC zr zr bz ?_
 intro b3
 (refine rG ?_)
 refine aF (fun w=>Sat G w ([ag b3 (cl (bD x) 37),ag b2 (cl [ptr bs] 29),ag bs (cl (ej bd q mb brk) 123),aM dV mb (dt aY)])) (.st 0 (.st 1 (.st 2 (.st 3 (.st 4 (.st 5 (.st 6 (.st 7 (.st 8 (.st 9 (.act 10 (.act 11 (.st 12 .nil))))))))))))) rfl ak ak ak ei ?_
 refine abD (fun Wh:Bool=>Wh=(gz aY x.d).isSome) (fun Wh=>[(2,ptr b2),(3,ptr b3),(6,.bool Wh)]) (fun _=>ag b3 (cl (bD x) 37)::ag b2 (cl [ptr bs] 29)::ag bs (cl (ej bd q mb brk) 123)::aM dV mb (dt aY)::aC bd A::F) rfl ?_ ?_
 ·rintro Wh QZ
  have hB0:brk=true→dJ q x ⟨A,aY,brk⟩ 10 ⟨A,aY,brk⟩:=fun h=>by unfold dJ;rw[if_pos h];exact⟨rfl,rfl⟩
  have Re:¬brk=true→bo x=false→dJ q x ⟨A,aY,brk⟩ 1 ⟨A,aY,brk⟩:=fun h h1=>by unfold dJ;rw[if_neg h,if_pos h1];exact⟨rfl,rfl⟩
  have Sr:¬brk=true→¬bo x=false→(Wh=true∨sl A (fB x)=true)→dJ q x ⟨A,aY,brk⟩ 5 ⟨A,aY,brk⟩:=fun h h1 h2=>by unfold dJ;rw[QZ]at h2;rw[if_neg h,if_neg h1,if_pos h2];exact⟨rfl,rfl⟩
  have hB3:∀e t,¬brk=true→¬bo x=false→¬(Wh=true∨sl A (fB x)=true)→(if q<jF ⟨A,aY,brk⟩+x.size then e=11∧t=⟨A,aY,brk⟩
    else if sl A (fS x)then e=0∧t=⟨A,aY++[(x.d,x)],brk⟩
    else ∃e1 s1,Ca [ij (fS x),dE] ⟨A,aY,brk⟩ e1 s1∧((e1≠0∧e=e1∧t=s1)∨(e1=0∧e=0∧t=⟨s1.A,s1.aY++[(x.d,x)],s1.brk⟩)))→dJ q x ⟨A,aY,brk⟩ e t:=fun e t h h1 h2 h3=>by
   unfold dJ;rw[QZ]at h2;rw[if_neg h,if_neg h1,if_neg h2];exact h3
  cases brk with
  | true =>
   refine go ?_
   refine aj (H':=cg bs bd q mb ⟨A,aY,true⟩++F) ad ?_
   ((refine ae hE Tryz.func35 rfl _ rfl ⟨10,⟨A,aY,true⟩,rfl,rfl,hB0 rfl⟩ ad))
  | false =>
   refine tU (bd:=bd) (A:=A) 4 rfl ?_
   intro G0
   have hul:=Mj (brk:=false) G0 ⟨nK,qM⟩
   refine go ?_
   refine aH (U:=aN) (l:=bD x) 0 zr zr zr zr zr zr ?_
   ((refine ai zr zr zr zr (sh) ad ?_ bG))
   rintro _ _⟨rfl,rfl⟩
   cases hr:bo x with
   | false =>
    refine go ?_
    refine aj (H':=cg bs bd q mb ⟨A,aY,false⟩++F) ad ?_
    ((refine ae hE Tryz.func35 rfl _ rfl ⟨1,⟨A,aY,false⟩,rfl,rfl,Re (by simp) hr⟩ ad))
   | true =>
    have GU:¬bo x=false:=by rw[hr];simp
    have PN:=hr
    simp only[bo,decide_eq_true_eq]at PN
    cases Wh with
    | true =>
     refine go ?_
     refine aj (H':=cg bs bd q mb ⟨A,aY,false⟩++F) ad ?_
     ((refine ae hE Tryz.func35 rfl _ rfl ⟨5,⟨A,aY,false⟩,rfl,rfl,Sr (by simp) GU (.inl rfl)⟩ ad))
    | false =>
     refine go ?_
     refine dw 0 zr zr zr zr zr zr ?_
     ((refine go ?_;(refine ai zr zr zr zr (uJ) ad ?_ bG)))
     rintro _ _⟨rfl,rfl⟩
     cases Yo:sl A (du kB x.d)with
     | true =>
      refine go ?_
      refine aj (H':=cg bs bd q mb ⟨A,aY,false⟩++F) ad ?_
      ((refine ae hE Tryz.func35 rfl _ rfl ⟨5,⟨A,aY,false⟩,rfl,rfl,Sr (by simp) GU (.inr Yo)⟩ ad))
     | false =>
      have iZ:¬(false=true∨sl A (fB x)=true):=by
       have:sl A (fB x)=false:=Yo
       rw[this];simp
      refine go ?_
      refine aF (fun w=>Sat G w ([ag b3 (cl (bD x) 37),ag b2 (cl [ptr bs] 29),ag bs (cl (ej bd q mb false) 123)])) (.st 0 (.st 2 (.st 3 (.st 5 (.st 6 (.st 7 (.st 8 (.act 1 (.st 4 (.st 9 (.st 10 .nil))))))))))) rfl ak ak ak ei ?_
      refine go ?_
      ((refine ai rfl rfl rfl rfl (aaj) ad ?_ jg))
      rintro _ _⟨rfl,rfl⟩
      refine go ?_
      refine au zr zr ?_ ?_
      ·intro hqu
       have PR:q<jF ⟨A,aY,false⟩+x.size:=hqu
       refine go ?_
       refine aj (H':=cg bs bd q mb ⟨A,aY,false⟩++F) ad ?_
       ((refine ae hE Tryz.func35 rfl _ rfl ⟨11,⟨A,aY,false⟩,rfl,rfl,hB3 _ _ (by simp) GU iZ (by rw[if_pos PR];exact⟨rfl,rfl⟩)⟩ ad))
      ·intro hqu
       have PR:¬q<jF ⟨A,aY,false⟩+x.size:=hqu
       refine aj (H':=ag b3 (cl (bD x) 37)::ag b2 (cl [ptr bs] 29)::ag bs (cl (ej bd q mb false) 123)::aM dV mb (dt aY)::aC bd A::F) ad ?_
       refine go ?_
       refine dw 0 zr zr zr zr zr zr ?_
       ((refine ai zr zr zr zr (uP x) ad ?_ bG))
       rintro _ _⟨rfl,rfl⟩
       refine aw zr zr zr bz ?_
       intro b7
       refine go ?_
       ((refine ai zr zr zr zr (NH bs bd q mb false A (fS x)) ad ?_ bG))
       rintro _ _⟨rfl,rfl⟩
       refine X2 1 (fun B:Ab=>dJ q x ⟨A,aY,false⟩ 0 ⟨B,aY++[(x.d,x)],false⟩) (fun B=>[(2,ptr b2),(3,ptr b3)]) (fun B=>ag b3 (cl (bD x) 37)::ag b2 (cl [ptr bs] 29)::ag bs (cl (ej bd q mb false) 123)::aM dV mb (dt aY)::aC bd B::F) rfl ?_ ?_
       ·intro B Xt
        have gY:=OR aY x (by cases h:gz aY x.d with|none=>rfl|some y=>rw[h]at QZ;cases QZ)
        refine aF (fun w=>Sat G w ([ag b3 (cl (bD x) 37),ag b2 (cl [ptr bs] 29),ag bs (cl (ej bd q mb false) 123)])) (.st 0 (.st 1 (.st 2 (.st 3 (.st 4 (.st 5 (.st 6 (.act 7 .nil)))))))) rfl ak ak ak ei ?_
        refine go ?_
        refine ck (U:=aN) 0 zr zr zr zr zr zr ?_
        refine go ?_
        refine ck (U:=aN) (cs:=bD x) 0 zr zr zr zr zr zr ?_
        refine go ?_
        refine iX (es:=dt aY) (key:=x.d) (v:=eg x) 3 QE (fun _ _=>by exact trivial) zr zr zr zr zr zr zr zr ?_
        rw[gY]
        refine go ?_
        refine aj (H':=cg bs bd q mb ⟨B,aY++[(x.d,x)],false⟩++F) ad ?_
        ((refine ae hE Tryz.func35 rfl _ rfl ⟨0,⟨B,aY++[(x.d,x)],false⟩,rfl,rfl,Xt⟩ ad))
       ·intro tail
        cases hsf:sl A (fS x)with
        | true =>
         refine go ?_
         refine vX tail A rfl (hB3 _ _ (by simp) GU iZ (by rw[if_neg PR,if_pos hsf];exact⟨rfl,rfl⟩)) cu ad
        | false =>
         have uI:∀(i:Nat) (fv:Value) (sp:Ba),[.func (.func 88) #[] #[ptr b2,ptr b7],.func (.func 75) #[ptr bd] #[] ][i]?=some fv→[ij (fS x),dE][i]?=some sp→∃g fi cap,fv = .func (.func g) fi cap∧∀y,GQ A i y→aD Tryz.prog g (fi.toList++cap.toList) [nt bs bd q mb false (Sep [ag b2 (cl [ptr bs] 29),ag b7 (cl [.string (fS x)] 9)]) y] (fun r H=>∃(e:Nat) (x':Ab),r = .int .i64 (e:Int)∧H=[nt bs bd q mb false (Sep [ag b2 (cl [ptr bs] 29),ag b7 (cl [.string (fS x)] 9)]) x']∧sp y e x'∧(e=0→GQ A (i+1) x')):=by
          intro i fv sp hi hs
          match i,hi,hs with
          | 0,hi,hs =>
           cases hi;cases hs
           refine⟨_,_,_,rfl,fun y hy=>?_⟩
           refine(oO (p:=ij (fS x) y) (Ho bs bd b2 b7 q mb false (fS x) y (by have:=hy.1;omega))).post ?_
           rintro r H⟨e,B,rfl,rfl,h1⟩
           exact⟨e,B,rfl,rfl,h1,fun _=>hy.next (rF h1)⟩
          | 1,hi,hs =>
           cases hi;cases hs
           refine⟨_,_,_,rfl,fun y hy=>(Ir bs bd q mb false [ag b2 (cl [ptr bs] 29),ag b7 (cl [.string (fS x)] 9)] y).post ?_⟩
           rintro r H⟨e,B,rfl,rfl,h1⟩
           exact⟨e,B,rfl,rfl,h1,fun _=>hy.next (iJ h1)⟩
          | k+2,hi,hs=>simp at hi
         refine go ?_
         refine aF (fun w=>Sat G w [stE bs bd q mb,ag b2 (cl [ptr bs] 29)]) (.st 0 (.st 1 (.st 2 (.st 3 (.st 4 (.st 5 (.st 6 (.act 7 (.act 8 (.st 9 .nil)))))))))) rfl ak ak ak (fun w hw=>hw.cy (ao.trans (H2:=[ag bs (cl (ej bd q mb false) 123),ag b2 (cl [ptr bs] 29)]) ad (F6 bs bd q mb _ _))) ?_
         refine go ?_
         refine aK ?_
         refine lG zr zr (fun w hw=>Mv hw) zr zr ?_
         refine go ?_
         refine al (cs:=[.func (.func 88) #[] #[ptr b2,ptr b7],.func (.func 75) #[ptr bd] #[] ]) zr zr zr zr zr zr zr zr zr (fun _ w hw=>by exact hw.cy (ao.trans (H2:=[ag bs (cl (ej bd q mb false) 123),ag b2 (cl [ptr bs] 29)]) ad (F6 bs bd q mb _ _))) ?_
         intro row
         have Ek:=kR bs bd q mb false (Sep [ag b2 (cl [ptr bs] 29),ag b7 (cl [.string (fS x)] 9)]) (ag row (cl [.func (.func 88) #[] #[ptr b2,ptr b7],.func (.func 75) #[ptr bd] #[] ] 96)) (.slice (some ⟨row,0,none⟩) 2 2) [.func (.func 88) #[] #[ptr b2,ptr b7],.func (.func 75) #[ptr bd] #[] ] (Vw.ag rfl) (by show 2≤_;omega) [ij (fS x),dE] rfl (GQ A) uI A (GQ.zero A)
         refine aG (H':=ag row (cl [.func (.func 88) #[] #[ptr b2,ptr b7],.func (.func 75) #[ptr bd] #[] ] 96)::nt bs bd q mb false (Sep [ag b2 (cl [ptr bs] 29),ag b7 (cl [.string (fS x)] 9)]) A::aM dV mb (dt aY)::ag b3 (cl (bD x) 37)::F) (ao.trans (H2:=ag bs (cl (ej bd q mb false) 123)::aC bd A::([ag b2 (cl [ptr bs] 29),ag b7 (cl [.string (fS x)] 9)]++(ag row (cl [.func (.func 88) #[] #[ptr b2,ptr b7],.func (.func 75) #[ptr bd] #[] ] 96)::aM dV mb (dt aY)::ag b3 (cl (bD x) 37)::F))) ad (ao.trans (uu bs bd q mb false _ A _) ad)) ?_
         refine ai zr zr zr zr Ek ad ?_ (fun _ _ w hp hw=>by
          obtain⟨e,B,rfl,rfl,fm,_⟩:=hp
          exact hw.cy (ao.trans (ao.pick [1] rfl) (ao.trans (oq bs bd q mb (or false (decide (e≠0))) _ B _) (ao.trans (H2:=[ag bs (cl (ej bd q mb (or false (decide (e≠0)))) 123),ag b2 (cl [ptr bs] 29)]) ad (F6 bs bd q mb _ _)))))
         rintro _ _⟨e,B,rfl,rfl,fm,-⟩
         refine aG (ao.trans (ao.pick [1] rfl) (oq bs bd q mb (or false (decide (e≠0))) _ B _)) ?_
         have lV:∀e' t,(∃e1 s1,Ca [ij (fS x),dE] ⟨A,aY,false⟩ e1 s1∧((e1≠0∧e'=e1∧t=s1)∨(e1=0∧e'=0∧t=⟨s1.A,s1.aY++[(x.d,x)],s1.brk⟩)))→dJ q x ⟨A,aY,false⟩ e' t:=fun e' t h=>hB3 e' t (by simp) GU iZ (by rw[if_neg PR,if_neg (by rw[hsf];simp)];exact h)
         refine go ?_
         refine au zr zr ?_ ?_
         ·intro WO
          have he:e≠0:=by omega
          refine go ?_
          refine aj (H':=cg bs bd q mb ⟨B,aY,or false (decide (e≠0))⟩++F) ad ?_
          ((refine ae hE Tryz.func35 rfl _ rfl ⟨e,⟨B,aY,or false (decide (e≠0))⟩,rfl,rfl,lV _ _ ⟨e,_,⟨B,fm,rfl⟩,.inl ⟨he,rfl,rfl⟩⟩⟩ ad))
         ·intro W7
          have he:e=0:=by omega
          subst he
          refine go ?_
          refine vX tail B rfl (lV _ _ ⟨0,_,⟨B,fm,rfl⟩,.inr ⟨rfl,rfl,rfl⟩⟩) cu ad
 ·intro tail
  refine go ?_
  refine ck (U:=aN) 0 zr zr zr zr zr zr ?_
  refine go ?_
  refine qq (U:=aN) (es:=dt aY) (key:=x.d) rfl QE zr zr zr zr zr zr zr (fun w hw=>hw.oN (i:=3) rfl) ?_
  rw[qS]
  cases hb:gz aY x.d with
  | none =>
   rw[hb]at tail
   simp only[Option.map_none,Option.getD_none,Option.isSome_none]
   refine go ?_
   refine aw zr zr zr (fun _ w hw=>hw.cy ad) ?_
   intro b5
   (refine rG ?_)
   (refine aT ?_;(refine bZ 0 ei zr zr zr zr zr zr zr zr zr ?_))
   (refine rG ?_)
   refine vX tail false zr zr cu ad
  | some y =>
   rw[hb]at tail
   simp only[Option.map_some,Option.getD_some,Option.isSome_some]
   unfold eg
   refine go ?_
   refine aw zr zr zr (fun _ w hw=>hw.cy ad) ?_
   intro b5
   (refine rG ?_)
   (refine aT ?_;(refine bZ 0 ei zr zr zr zr zr zr zr zr zr ?_))
   (refine rG ?_)
   refine vX tail true zr zr cu ad
end Go.Proofs.YtedjnjkijiddlaaGreatDoor
namespace Go.Proofs.YtedjnjkijiddlaaGreatDoor
open Go Go.SL
attribute [local irreducible] J K aD Ends ag aB aM bN aZ aP aV bh bW Sha.chunks Sha.chunk Sha.rounds Sha.sched dM ct GI cU aC
theorem GC{A:Ab}(h:A.names=[]):fJ A=[]:=by
 have:=jL A
 rw[h]at this
 exact List.length_eq_zero_iff.1 this
theorem pB{kind:List UInt8}{right:Ab→Dg→Bool}{A B:Ab}{e:Nat}(h:A.names=[])(hs:eu kind right A e B):e=0∧B=A:=by
 unfold eu at hs
 rw[GC h]at hs
 exact hs
theorem y8{A B:Ab}{e:Nat}(h:A.names=[])(ho:qj A e B):e=0∧B=A:=by
 obtain⟨e1,A1,⟨e2,A2,h2,c2⟩,lV⟩:=ho
 obtain⟨rfl,rfl⟩:=pB h h2
 rcases c2 with⟨bT,_⟩|⟨_,e3,A3,h3,c3⟩
 ·exact absurd rfl bT
 obtain⟨rfl,rfl⟩:=pB h h3
 rcases c3 with⟨bT,_⟩|⟨_,e4,A4,h4,c4⟩
 ·exact absurd rfl bT
 obtain⟨rfl,rfl⟩:=pB h h4
 rcases c4 with⟨bT,_⟩|⟨_,rfl,rfl⟩
 ·exact absurd rfl bT
 rw[if_neg ah]at lV
 exact lV
theorem oS{b:List UInt8}{k:Int}{x:Bl}(h:eC b k=some x):bo x=true∧x.size=b.length∧x.piece=k∧dP x b=true:=by
 have h0:=h
 unfold eC cI at h
 split at h
 ·rename_i hr
  simp only[Option.map_some,Option.some.injEq]at h
  subst h
  refine⟨?_,rfl,rfl,?_⟩
  ·simpa[bo]using hr
  ·unfold dP;simpa using h0
 ·cases h
theorem ON:∃x,eC [7] 16=some x:=by
 unfold eC cI
 rw[if_pos (by decide)]
 exact⟨_,rfl⟩
theorem C4{x:Bl}(h:bo x=true)(h1:x.size=1)(h2:x.piece=16):cP x 0=some (0,1):=by
 unfold cP bO
 rw[if_pos h,h1,h2,if_neg ah]
 simp
 omega
def iz(n:Nat)(s t:eU):Prop:=t.A.aq.length≤s.A.aq.length+n∧t.A.writes.length≤s.A.writes.length+n
theorem KZ(ss:List Ba)(hs:∀sp∈ss,∀A e B,sp A e B→jV A B)(A:Ab)(e:Nat)(B:Ab)(h:iA ss A e B):B.aq.length≤A.aq.length+ss.length∧B.writes.length≤A.writes.length+ss.length:=by
 induction ss generalizing A with
 | nil=>obtain⟨_,rfl⟩:=h;exact⟨Nat.le_refl _,Nat.le_refl _⟩
 | cons sp ss ih =>
  obtain⟨e1,A1,h1,hc⟩:=h
  have g:=hs sp (List.mem_cons_self ..) _ _ _ h1
  have g1:=g.1
  have g2:=g.2
  simp only[List.length_cons]
  rcases hc with⟨_,_,rfl⟩|⟨_,h2⟩
  ·omega
  ·have:=ih (fun s h=>hs s (List.mem_cons_of_mem _ h)) A1 h2
   omega
theorem nM{ss:List Ba}(hs:∀sp∈ss,∀A e B,sp A e B→jV A B){s t:eU}{e:Nat}(h:Ca ss s e t):iz ss.length s t:=by
 obtain⟨B,h,rfl⟩:=h
 exact KZ ss hs _ _ _ h
theorem iz.mono{m n:Nat}{s t:eU}(h:iz m s t)(Yj:m≤n):iz n s t:=⟨by have:=h.1;omega,by have:=h.2;omega⟩
theorem iz.refl(n:Nat)(s:eU):iz n s s:=⟨ah,ah⟩
theorem gJ{q:Int}{x:Bl}{s t:eU}{e:Nat}(h:dJ q x s e t):iz 2 s t:=by
 unfold dJ at h
 split at h
 ·exact h.2 ▸ iz.refl _ _
 split at h
 ·exact h.2 ▸ iz.refl _ _
 split at h
 ·exact h.2 ▸ iz.refl _ _
 split at h
 ·exact h.2 ▸ iz.refl _ _
 split at h
 ·rw[h.2];exact iz.refl 2 s
 ·obtain⟨e1,s1,hc,hd⟩:=h
  have g:=nM (ss:=[ij (fS x),dE]) (fun sp fW A e B hh=>by
   simp only[List.mem_cons,List.not_mem_nil,or_false]at fW
   rcases fW with rfl|rfl
   ·exact rF hh
   ·exact iJ hh) hc
  rcases hd with⟨_,_,rfl⟩|⟨_,_,rfl⟩ <;> exact g
theorem nX{x:Bl}{i:Int}{b:List UInt8}{s t:eU}{e:Nat}(h:mF x i b s e t):iz 1 s t:=by
 unfold mF at h
 split at h
 ·exact h.2 ▸ iz.refl _ _
 split at h
 ·exact h.2 ▸ iz.refl _ _
 split at h
 ·exact h.2 ▸ iz.refl _ _
 ·exact nM (fun sp fW A e B hh=>by
   simp only[List.mem_cons,List.not_mem_nil,or_false]at fW
   subst fW
   exact tA hh) h
theorem qu{x:Bl}{s t:eU}{e:Nat}(h:gN x s e t):iz 1 s t:=by
 unfold gN at h
 split at h
 ·exact h.2 ▸ iz.refl _ _
 ·obtain⟨s1,hc,rfl⟩:=h
  have g:=nM (fun sp fW A e B hh=>by
   simp only[List.mem_cons,List.not_mem_nil,or_false]at fW
   subst fW
   exact nf hh) hc
  split <;> exact g
theorem nq{x:Bl}{s t:eU}{e:Nat}(h:dI x s e t):iz 3 s t:=by
 unfold dI at h
 split at h
 ·exact h.2 ▸ iz.refl _ _
 split at h
 ·obtain⟨e1,h1,_⟩:=h
  exact(qu h1).mono ah
 ·obtain⟨s1,hc,rfl⟩:=h
  have g:=nM (ss:=DK (fS x) (fB x)) (fun sp fW A e B hh=>by
   simp only[DK,List.mem_cons,List.not_mem_nil,or_false]at fW
   rcases fW with rfl|rfl|rfl
   ·exact mR hh
   ·exact rE hh
   ·exact iJ hh) hc
  split <;> exact g
theorem v8{A:Ab}(h:HA A)(m:Nat)(hm:∀n c,vw A n=some c→c.length≤m):A.used≤A.names.length*m:=by
 unfold Ab.used
 refine ur A.names _ m fun x hx=>?_
 refine hm x.1 _ ?_
 unfold vw
 rw[fe h.keys hx]
 rfl
theorem Io(b:Nat)(x:UInt8):eJ (ag b (cl (bV [x]) 5)) (.slice (some ⟨b,0,none⟩) 1 1) [x]:=⟨Vw.ag rfl,_,_,rfl,Nat.le_refl _⟩
end Go.Proofs.YtedjnjkijiddlaaGreatDoor
namespace Go.Proofs.YtedjnjkijiddlaaGreatDoor
open Go Go.SL
abbrev Vm:=ByteArray→Option (List UInt8)
structure pk(K:List ByteArray)(v:Vm):Prop where
 nd:K.Nodup
 mem:∀n,n∈K↔(v n).isSome=true
def qW(w:ByteArray→List UInt8→Nat)(K:List ByteArray)(v:Vm):Nat:=(K.map fun k=>w k ((v k).getD [])).sum
def ew(v:Vm)(k:ByteArray)(o:Option (List UInt8)):Vm:=fun n=>if n=k then o else v n
theorem di(v:Vm)(k:ByteArray)(o:Option (List UInt8)):ew v k o k=o:=if_pos rfl
theorem dz(v:Vm){k n:ByteArray}(o:Option (List UInt8))(h:n≠k):ew v k o n=v n:=if_neg h
theorem C7(v:Vm)(k:ByteArray)(o p:Option (List UInt8)):ew (ew v k o) k p=ew v k p:=by
 funext n
 unfold ew
 split <;> rfl
theorem JM(v:Vm)(k:ByteArray):ew v k (v k)=v:=by
 funext n
 unfold ew
 split
 ·rename_i h;rw[h]
 ·rfl
theorem Ia{v:Vm}{k:ByteArray}{o:Option (List UInt8)}(h:v k=o):ew v k o=v:=by rw[← h];exact JM v k
theorem pk.perm{K K':List ByteArray}{v:Vm}(h:pk K v)(h':pk K' v):K.Perm K':=(List.perm_ext_iff_of_nodup h.nd h'.nd).2 fun n=>(h.mem n).trans (h'.mem n).symm
theorem wW{K K':List ByteArray}{v:Vm}(w:ByteArray→List UInt8→Nat)(h:pk K v)(h':pk K' v):qW w K v=qW w K' v:=((h.perm h').map _).sum_nat
theorem pk.add{K:List ByteArray}{v:Vm}(h:pk K v){k:ByteArray}(hk:v k=none)(c:List UInt8):pk (k::K) (ew v k (some c)):=by
 refine⟨List.nodup_cons.2 ⟨fun hm=>?_,h.nd⟩,fun n=>?_⟩
 ·have:=(h.mem k).1 hm
  rw[hk]at this;cases this
 ·rw[List.mem_cons]
  by_cases hn:n=k
  ·simp[hn,di]
  ·rw[dz _ _ hn,← h.mem n]
   simp[hn]
theorem pk.del{K:List ByteArray}{v:Vm}(h:pk K v)(k:ByteArray):pk (K.filter fun n => !decide (n=k)) (ew v k none):=by
 refine⟨List.filter_sublist.nodup h.nd,fun n=>?_⟩
 rw[List.mem_filter]
 by_cases hn:n=k
 ·simp[hn,di]
 ·rw[dz _ _ hn,← h.mem n]
  simp[hn]
theorem we{K K':List ByteArray}{v:Vm}{k:ByteArray}{c:List UInt8}(w:ByteArray→List UInt8→Nat)(h:pk K v)(h':pk K' (ew v k (some c)))(hk:v k=none):qW w K' (ew v k (some c))=w k c+qW w K v:=by
 rw[wW w h' (h.add hk c)]
 unfold qW
 rw[List.map_cons,List.sum_cons,di]
 congr 1
 have hnk:∀n∈K,n≠k:=fun n hn e=>by
  have:=(h.mem n).1 hn
  rw[e,hk]at this;cases this
 exact congrArg List.sum (List.map_congr_left fun x hx=>by rw[dz _ _ (hnk x hx)])
theorem P8{K K':List ByteArray}{v:Vm}{k:ByteArray}{c:List UInt8}(w:ByteArray→List UInt8→Nat)(h:pk K v)(h':pk K' (ew v k none))(hk:v k=some c):qW w K v=w k c+qW w K' (ew v k none):=by
 have h2:ew (ew v k none) k (some c)=v:=by rw[C7];exact Ia hk
 have:=we (K':=K) (c:=c) w h' (by rw[h2];exact h) (di _ _ _)
 rwa[h2]at this
theorem P7{K K':List ByteArray}{v:Vm}{k:ByteArray}{c c':List UInt8}(w:ByteArray→List UInt8→Nat)(h:pk K v)(h':pk K' (ew v k (some c')))(hk:v k=some c):qW w K' (ew v k (some c'))+w k c=qW w K v+w k c':=by
 have hd:=h.del k
 have h1:=P8 w h hd hk
 have h2:ew (ew v k none) k (some c')=ew v k (some c'):=C7 ..
 have h3:=we (K':=K') (c:=c') w hd (by rw[h2];exact h') (di _ _ _)
 rw[h2]at h3
 omega
theorem Mo{K:List ByteArray}{v:Vm}(w1 w2:ByteArray→List UInt8→Nat)(h:∀n∈K,w1 n ((v n).getD [])≤w2 n ((v n).getD [])):qW w1 K v≤qW w2 K v:=by
 unfold qW
 revert h
 induction K with
 | nil=>intro _;exact Nat.le_refl _
 | cons x l ih =>
  intro h
  have h1:=h x (List.mem_cons_self ..)
  have h2:=ih fun n hn=>h n (List.mem_cons_of_mem _ hn)
  simp only[List.map_cons,List.sum_cons]
  omega
theorem Mn{K:List ByteArray}{v:Vm}(w1 w2:ByteArray→List UInt8→Nat):qW (fun n c=>w1 n c+w2 n c) K v=qW w1 K v+qW w2 K v:=by
 unfold qW
 induction K with
 | nil=>rfl
 | cons x l ih =>
  simp only[List.map_cons,List.sum_cons]
  simp only at ih
  omega
theorem Bo(K:List ByteArray)(v:Vm)(m:Nat):qW (fun _ _=>m) K v=K.length*m:=by
 unfold qW
 induction K with
 | nil=>simp
 | cons x l ih =>
  simp only[List.map_cons,List.sum_cons,List.length_cons,Nat.add_mul,Nat.one_mul]at ih ⊢
  omega
theorem mem_keys{A:Ab}(h:HA A)(n:ByteArray):n∈dU A↔(vw A n).isSome=true:=by
 unfold dU vw
 constructor
 ·intro hn
  obtain⟨x,hx,rfl⟩:=List.mem_map.1 hn
  rw[fe h.keys hx]
  rfl
 ·intro hn
  cases hl:A.look n with
  | none=>rw[hl]at hn;cases hn
  | some f=>exact List.mem_map.2 ⟨_,gp hl,rfl⟩
theorem HA.Bq{A:Ab}(h:HA A):pk (dU A) (vw A):=⟨h.keys,mem_keys h⟩
def DT(_:ByteArray)(c:List UInt8):Nat:=c.length
def qX(k:ByteArray)(c:List UInt8):Nat:=if(jx kB k).isSome then c.length else 0
theorem Nd{A:Ab}(h:HA A){x:ByteArray × Nat}(hx:x∈A.names):A.now x.2=(vw A x.1).getD []:=by
 unfold vw
 rw[fe h.keys hx]
 rfl
theorem jE{A:Ab}(h:HA A):A.used=qW DT (dU A) (vw A):=by
 unfold Ab.used qW dU DT
 rw[List.map_map]
 exact congrArg List.sum (List.map_congr_left fun x hx=>by simp only[Function.comp];rw[Nd h hx])
theorem z7{A:Ab}(h:HA A):rk A=qW qX (dU A) (vw A):=by
 unfold rk qW dU qX
 rw[List.map_map]
 exact congrArg List.sum (List.map_congr_left fun x hx=>by simp only[Function.comp];rw[Nd h hx])
theorem nG(A:Ab):(dU A).length=A.names.length:=by unfold dU;rw[List.length_map]
theorem Ix(A:Ab):A.names.length=qW (fun _ _=>1) (dU A) (vw A):=by rw[Bo,nG];omega
def fI(d:Dg):ByteArray:=du kI d
def fN(d:Dg):ByteArray:=du kN d
def mw(d:Dg):ByteArray:=du kB d
def gZ(d:Dg):ByteArray:=du kS d
theorem DZ{j k:List UInt8}(hl:j.length=k.length)(AJ:j≠k)(a b:Dg):du j a≠du k b:=fun h=>AJ (yC hl h)
theorem HA.Jb{A:Ab}(h:HA A){nm:ByteArray}{f:Nat}(hv:vw A nm=none)(hl:A.names.length<200)(hf:f ∉ A.fs.map (·.1)){e:Nat}{B:Ab}(hB:(e,B)=A.create true nm f) :
  e=0∧HA B∧vw B=ew (vw A) nm (some [])∧B.room=A.room :=
 let ⟨h1,h2,h3,_,h5⟩:=h.create hv hl hf hB;⟨h1,h2,funext h3,h5⟩
theorem HA.uj{A:Ab}(h:HA A){nm:ByteArray}{c:List UInt8}(hv:vw A nm=some c)(at_:Nat)(b:List UInt8)(hr:A.used+(at_+b.length)≤A.room){e:Nat}{B:Ab}(hB:(e,B)=A.write true nm at_ b) :
  e=0∧HA B∧vw B=ew (vw A) nm (some (bH c at_ b))∧B.room=A.room :=
 let ⟨h1,h2,h3,_,h5⟩:=h.write hv at_ b hr hB;⟨h1,h2,funext h3,h5⟩
theorem HA.xe{A:Ab}(h:HA A){nm:ByteArray}{c:List UInt8}(hv:vw A nm=some c){e:Nat}{B:Ab}(hB:(e,B)=A.sync true nm) :
  e=0∧HA B∧vw B=vw A∧B.room=A.room :=
 let ⟨h1,h2,h3,_,h5⟩:=h.sync hv hB;⟨h1,h2,funext h3,h5⟩
theorem HA.xg{A:Ab}(h:HA A){e:Nat}{B:Ab}(hB:(e,B)=A.cf):e=0∧HA B∧vw B=vw A∧B.room=A.room :=
 let ⟨h1,h2,h3,_,h5⟩:=h.cf hB;⟨h1,h2,funext h3,h5⟩
theorem HA.Ig{A:Ab}(h:HA A){o n:ByteArray}{c:List UInt8}(bT:o≠n)(hv:vw A o=some c)(IG:vw A n=none){e:Nat}{B:Ab}(hB:(e,B)=A.rename true o n) :
  e=0∧HA B∧vw B=ew (ew (vw A) o none) n (some c)∧B.room=A.room :=
 let ⟨h1,h2,h3,h4,_⟩:=h.rename bT hv IG hB;⟨h1,h2,funext h3,h4⟩
theorem HA.pt{A B:Ab}(h:HA A)(h':HA B){k:ByteArray}{c:List UInt8}(hk:vw A k=none)(hv:vw B=ew (vw A) k (some c)):B.used=A.used+c.length∧B.names.length=A.names.length+1:=by
 have hs:=h'.Bq
 rw[hv]at hs
 have h1:=we DT h.Bq hs hk
 have h2:=we (fun _ _=>1) h.Bq hs hk
 rw[jE h,jE h',hv,Ix A,Ix B,hv]
 have h3:DT k c=c.length:=rfl
 omega
theorem HA.pN{A B:Ab}(h:HA A)(h':HA B)(hv:∀n,(vw B n).isSome=(vw A n).isSome):B.names.length=A.names.length:=by
 rw[← nG,← nG]
 exact((List.perm_ext_iff_of_nodup h'.keys h.keys).2 fun n=>(mem_keys h' n).trans ((by rw[hv n]):_↔_) |>.trans (mem_keys h n).symm).length_eq
theorem OQ{l:List (Dg × Bl)}{d:Dg}{y:Bl}(h:gz l d=some y):(d,y)∈l:=by
 unfold gz at h
 cases hx:l.find? (fun x=>decide (x.1=d))with
 | none=>rw[hx]at h;cases h
 | some x =>
  rw[hx]at h
  injection h with h
  have h1:=List.mem_of_find?_eq_some hx
  have h2:x.1=d:=by simpa using List.find?_some hx
  rw[← h2,← h]
  exact h1
theorem Le(l:List (Dg × Bl))(d d':Dg):gz (nR l d) d'=if d'=d then none else gz l d':=by
 unfold gz nR
 rw[List.find?_filter]
 by_cases h:d'=d
 ·subst h
  rw[if_pos rfl,List.find?_eq_none.2 (fun x _=>by simp)]
  rfl
 ·rw[if_neg h]
  have:(fun a:Dg × Bl=>decide ((!decide (a.1=d))=true∧decide (a.1=d')=true))=fun a=>decide (a.1=d'):=by
   funext a
   by_cases ha:a.1=d'
   ·simp[ha,h]
   ·simp[ha]
  rw[this]
theorem EM(l:List (Dg × Bl))(x:Bl)(d:Dg)(h:gz l x.d=none):gz (l++[(x.d,x)]) d=if d=x.d then some x else gz l d:=by
 unfold gz at h ⊢
 rw[List.find?_append]
 by_cases hd:d=x.d
 ·subst hd
  rw[if_pos rfl]
  cases hx:l.find? (fun z=>decide (z.1=x.d))with
  | none=>simp
  | some z=>rw[hx]at h;cases h
 ·rw[if_neg hd]
  have:¬x.d=d:=fun e=>hd e.symm
  cases hx:l.find? (fun z=>decide (z.1=d)) <;> simp[this]
theorem Rz{l:List (Dg × Bl)}{d:Dg}(h:gz l d=none):d ∉ l.map (·.1):=fun hm=>by
 obtain⟨x,hx,rfl⟩:=List.mem_map.1 hm
 unfold gz at h
 cases hf:l.find? (fun z=>decide (z.1=x.1))with
 | none=>have:=List.find?_eq_none.1 hf x hx;simp at this
 | some z=>rw[hf]at h;cases h
theorem OG{l:List (Dg × Bl)}{d:Dg}{x:Dg × Bl}(h:x∈nR l d):x∈l:=(List.mem_filter.1 h).1
def cS:ByteArray:=strOf [112,105,101,99,101,115]
theorem gG(k:List UInt8)(d:Dg):du k d≠cS:=fun h=>by
 have h1:=congrArg (fun s:ByteArray=>s.data.toList.length) h
 simp only[du,cS,strOf,List.length_append,js]at h1
 simp at h1
def wE(k:ByteArray):Nat:=if k=cS then 100000 else 0
theorem SG:∀(K:List ByteArray),K.Nodup→(K.map wE).sum≤100000:=by
 intro K
 induction K with
 | nil=>intro _;exact Nat.zero_le _
 | cons k K ih =>
  intro hK
  rw[List.nodup_cons]at hK
  rw[List.map_cons,List.sum_cons]
  by_cases hk:k=cS
  ·have h0:K.map wE=K.map fun _=>0:=List.map_congr_left fun x hx=>by
    unfold wE
    rw[if_neg (fun e=>hK.1 (by rw[hk,← e];exact hx))]
   have h1:(K.map fun _:ByteArray=>0).sum=0:=by
    clear ih hK h0
    induction K with
    | nil=>rfl
    | cons y K ih=>simpa using ih
   rw[h0,h1]
   unfold wE
   rw[if_pos hk]
   omega
  ·have:=ih hK.2
   unfold wE at this ⊢
   rw[if_neg hk]
   omega
theorem B4{a b:Dg}(h:gZ a=gZ b):a=b:=AT h
theorem I1{a b:Dg}(h:mw a=mw b):a=b:=AT h
theorem fZ(a b:Dg):gZ a≠mw b:=DZ (by rfl) (by decide) a b
theorem K7(a b:Dg):gZ a≠fI b:=DZ (by rfl) (by decide) a b
theorem K6(a b:Dg):gZ a≠fN b:=DZ (by rfl) (by decide) a b
theorem K9(a b:Dg):mw a≠fI b:=DZ (by rfl) (by decide) a b
theorem K8(a b:Dg):mw a≠fN b:=DZ (by rfl) (by decide) a b
theorem rU{kind:List UInt8}{right:Ab→Dg→Bool}{A:Ab}(l:List ByteArray)(h:∀nm∈l,∀d,jx kind nm=some d→right A d=true){e:Nat}{B:Ab}(hs:mg kind right l A e B):e=0∧B=A:=by
 induction l with
 | nil=>exact hs
 | cons nm l ih =>
  have GM:=ih fun n hn=>h n (List.mem_cons_of_mem _ hn)
  unfold mg at hs
  cases hh:jx kind nm with
  | none=>rw[hh]at hs;exact GM hs
  | some d =>
   rw[hh]at hs
   simp only at hs
   rw[if_pos (h nm (List.mem_cons_self ..) d hh)]at hs
   exact GM hs
theorem xO{A:Ab}(h:HA A)(n:ByteArray):n∈fJ A↔(vw A n).isSome=true:=by
 rw[(vp A).mem_iff]
 exact mem_keys h n
theorem Kh{s:eU}{x:Bl}(hb:s.brk=false):iV s x=if gz s.aY x.d=some x then 0 else 4:=by
 unfold iV tj
 rw[if_neg (by rw[hb];simp)]
 by_cases h:gz s.aY x.d=some x <;> simp[h]
theorem abf(x:Bl):fS x=gZ x.d:=rfl
theorem FU{x:Bl}{b:List UInt8}(h:dP x b=true):x.size=b.length∧dM b=x.d:=by
 unfold dP eC cI at h
 simp only[decide_eq_true_eq]at h
 split at h
 ·simp only[Option.map_some,Option.some.injEq]at h
  rw[← h]
  exact⟨rfl,rfl⟩
 ·cases h
theorem kD{fs:List (Nat × List UInt8 × List UInt8)}(u:Nat × List UInt8 × List UInt8→Nat × List UInt8 × List UInt8)(hu:∀x,(u x).1=x.1)(f:Nat) :
  (fs.map u).find? (fun x=>decide (x.1=f))=(fs.find? (fun x=>decide (x.1=f))).map u:=by
 induction fs with
 | nil=>rfl
 | cons x l ih =>
  simp only[List.map_cons,List.find?_cons,hu]
  by_cases h:x.1=f
  ·simp[h]
  ·simp[h,ih]
theorem yy{fs:List (Nat × List UInt8 × List UInt8)}{f:Nat}(h:f∈fs.map (·.1)):∃x,fs.find? (fun x=>decide (x.1=f))=some x∧x.1=f:=by
 obtain⟨y,hy,hyf⟩:=List.mem_map.1 h
 cases hx:fs.find? (fun x=>decide (x.1=f))with
 | none=>exact absurd hyf (by simpa using List.find?_eq_none.1 hx y hy)
 | some x=>exact⟨x,rfl,by simpa using List.find?_some hx⟩
theorem Ey(A:Ab)(u:Nat × List UInt8 × List UInt8→Nat × List UInt8 × List UInt8)(hu:∀x,(u x).1=x.1){f:Nat}(h:f∈A.fs.map (·.1)):({ A with fs:=A.fs.map u }:Ab).file f=(u (f,A.file f)).2:=by
 obtain⟨x,hx,hxf⟩:=yy h
 simp only[Ab.file]
 rw[kD u hu,hx]
 obtain⟨a,b⟩:=x
 simp only at hxf
 subst hxf
 rfl
theorem wk(fs:List (Nat × List UInt8 × List UInt8))(u:Nat × List UInt8 × List UInt8→Nat × List UInt8 × List UInt8)(hu:∀x,(u x).1=x.1):(fs.map u).map (·.1)=fs.map (·.1):=by
 rw[List.map_map]
 exact List.map_congr_left fun x _=>hu x
theorem Bm(fs:List (Nat × List UInt8 × List UInt8))(k f:Nat)(s:List UInt8)(h:k≠f):(Ab.sL fs k s).find? (fun x=>decide (x.1=f))=fs.find? (fun x=>decide (x.1=f)):=by
 unfold Ab.sL
 rw[kD _ (fun x=>by split <;> rfl)]
 cases hx:fs.find? (fun x=>decide (x.1=f))with
 | none=>rfl
 | some x =>
  have:x.1=f:=by simpa using List.find?_some hx
  have bT:¬x.1=k:=by rw[this];exact fun e=>h e.symm
  simp[bT]
theorem sf(stay:List UInt8)(dD cut:Int)(f:Nat):∀(ws:List (Nat × Nat × List UInt8)) (i:Nat) (fs:List (Nat × List UInt8 × List UInt8)),(∀w∈ws,w.1≠f) →
  (Ab.jv stay dD cut i ws fs).find? (fun x=>decide (x.1=f))=fs.find? (fun x=>decide (x.1=f))
 | [],i,fs,_=>rfl
 | w::ws,i,fs,h=>by
  unfold Ab.jv
  split
  ·exact sf stay dD cut f ws (i+1) fs (fun v hv=>h v (List.mem_cons_of_mem _ hv))
  ·rw[sf stay dD cut f ws (i+1) _ (fun v hv=>h v (List.mem_cons_of_mem _ hv)),Bm _ _ _ _ (h w (List.mem_cons_self ..))]
theorem tq(stay:List UInt8)(dD cut:Int):∀(ws:List (Nat × Nat × List UInt8)) (i:Nat) (fs:List (Nat × List UInt8 × List UInt8)),(Ab.jv stay dD cut i ws fs).map (·.1)=fs.map (·.1)
 | [],i,fs=>rfl
 | w::ws,i,fs=>by
  unfold Ab.jv
  split
  ·exact tq stay dD cut ws (i+1) fs
  ·rw[tq stay dD cut ws (i+1) _]
   unfold Ab.sL
   exact wk _ _ (fun x=>by split <;> rfl)
structure LQ(A B:Ab):Prop where
 names:B.names=A.names
 aq:B.aq=A.aq
 fs:B.fs=A.fs
 writes:B.writes=A.writes
 room:B.room=A.room
theorem LQ.refl(A:Ab):LQ A A:=⟨rfl,rfl,rfl,rfl,rfl⟩
theorem xP(A:Ab)(ok:Bool):LQ A (A.meet ok).2:=by
 unfold Ab.meet
 split
 ·exact LQ.refl A
 split
 ·exact LQ.refl A
 split
 ·exact LQ.refl A
 split
 ·exact⟨rfl,rfl,rfl,rfl,rfl⟩
 split <;> exact⟨rfl,rfl,rfl,rfl,rfl⟩
theorem tE(A:Ab)(nm:ByteArray)(ok:Bool):LQ A (A.find nm ok).2.2∧((A.find nm ok).1=0→∃f,A.look nm=some f∧(A.find nm ok).2.1=some f):=by
 have hm:=xP A ok
 unfold Ab.find
 split
 ·have hl:(A.meet ok).2.look nm=A.look nm:=by unfold Ab.look;rw[hm.names]
  rw[hl]
  cases A.look nm with
  | none=>exact⟨hm,fun h=>absurd h (by simp)⟩
  | some f=>exact⟨hm,fun _=>⟨f,rfl,rfl⟩⟩
 ·rename_i h
  exact⟨hm,fun h2=>absurd h2 h⟩
theorem Qy{A:Ab}{ok:Bool}(h:(A.meet ok).1=0):(A.meet ok).2.off=false∧A.off=false:=by
 unfold Ab.meet at h ⊢
 by_cases h1:ok=false
 ·rw[if_pos h1]at h;cases h
 rw[if_neg h1]at h ⊢
 by_cases h2:A.off=true
 ·rw[if_pos h2]at h;cases h
 rw[if_neg h2]at h ⊢
 have h2':A.off=false:=by simpa using h2
 cases hp:A.ef with
 | nil=>exact⟨h2',h2'⟩
 | cons x p =>
  rw[hp]at h
  simp only at h ⊢
  split
  ·rename_i hx;rw[if_pos hx]at h;cases h
  ·rename_i hx
   rw[if_neg hx]at h
   split
   ·rename_i hy;rw[if_pos hy]at h;cases h
   ·exact⟨h2',h2'⟩
theorem Rj{A:Ab}{nm:ByteArray}{ok:Bool}(h:(A.find nm ok).1=0):(A.find nm ok).2.2.off=false:=by
 unfold Ab.find at h ⊢
 split
 ·rename_i h0
  split <;> exact(Qy h0).1
 ·rename_i h0
  rw[if_neg h0]at h
  exact absurd h h0
theorem B5{nm:ByteArray}{A B:Ab}{e:Nat}(h:ij nm A e B):(e≠0∧LQ A B)∨(e=0∧A.look nm=none∧∃f,f ∉ A.fs.map (·.1)∧B.names=A.names++[(nm,f)]∧B.aq=A.aq++[A.names++[(nm,f)]]∧B.fs=(f,[],[])::A.fs∧B.writes=A.writes):=by
 obtain⟨f,hf,hc⟩:=h
 have hm:=xP A (isName nm)
 unfold Ab.create at hc
 have hl:(A.meet (isName nm)).2.look nm=A.look nm:=by unfold Ab.look;rw[hm.names]
 split at hc
 ·split at hc
  ·injection hc with h1 h2;subst h1 h2;exact .inl ⟨ah,hm⟩
  split at hc
  ·injection hc with h1 h2;subst h1 h2;exact .inl ⟨ah,hm⟩
  ·rename_i h1 h2 h3
   injection hc with h4 h5
   subst h4 h5
   refine .inr ⟨rfl,?_,f,hf,by simp[Ab.mV,hm.names],by simp[Ab.mV,hm.names,hm.aq],by simp[hm.fs],hm.writes⟩
   rw[hl]at h2
   cases hx:A.look nm with
   | none=>rfl
   | some g=>rw[hx]at h2;exact absurd rfl h2
 ·rename_i h1
  injection hc with h2 h3;subst h2 h3;exact .inl ⟨h1,hm⟩
theorem BB{nm:ByteArray}{A B:Ab}{e:Nat}(h:iU nm A e B):(e≠0∧LQ A B)∨(e=0∧(∃f,A.look nm=some f)∧B.names=Ab.dx A.names nm∧B.aq=A.aq++[Ab.dx A.names nm]∧B.fs=A.fs∧B.writes=A.writes∧B.off=false):=by
 have hf:=tE A nm (isName nm)
 have hon := @Rj A nm (isName nm)
 unfold iU Ab.remove at h
 generalize hx:A.find nm (isName nm)=r at h hf hon
 obtain⟨e1,o,A1⟩:=r
 obtain⟨hq,hs⟩:=hf
 simp only at hq hs h hon
 by_cases h0:e1=0
 ·subst h0
  obtain⟨f,h1,rfl⟩:=hs rfl
  simp only at h
  injection h with h2 h3
  subst h2 h3
  exact .inr ⟨rfl,⟨f,h1⟩,by simp[Ab.mV,hq.names],by simp[Ab.mV,hq.names,hq.aq],hq.fs,hq.writes,hon rfl⟩
 ·have:(e,B)=(e1,A1):=by
   cases e1 with
   | zero=>exact absurd rfl h0
   | succ n=>exact h
  injection this with h2 h3
  subst h2 h3
  exact .inl ⟨h0,hq⟩
theorem BA{o nm:ByteArray}{A B:Ab}{e:Nat}(h:kH o nm A e B):(e≠0∧LQ A B)∨(e=0∧∃f,A.look o=some f∧B.names=Ab.jH (Ab.dx A.names o) nm f∧B.aq=A.aq++[Ab.jH (Ab.dx A.names o) nm f]∧B.fs=A.fs∧B.writes=A.writes):=by
 have hf:=tE A o ([o,nm].all isName)
 unfold kH Ab.rename at h
 generalize hx:A.find o ([o,nm].all isName)=r at h hf
 obtain⟨e1,oo,A1⟩:=r
 obtain⟨hq,hs⟩:=hf
 simp only at hq hs h
 by_cases h0:e1=0
 ·subst h0
  obtain⟨f,h1,rfl⟩:=hs rfl
  simp only at h
  injection h with h2 h3
  subst h2 h3
  exact .inr ⟨rfl,f,h1,by simp[Ab.mV,hq.names],by simp[Ab.mV,hq.names,hq.aq],hq.fs,hq.writes⟩
 ·have:(e,B)=(e1,A1):=by
   cases e1 with
   | zero=>exact absurd rfl h0
   | succ n=>exact h
  injection this with h2 h3
  subst h2 h3
  exact .inl ⟨h0,hq⟩
theorem u9{nm:ByteArray}{at_:Nat}{b:List UInt8}{A B:Ab}{e:Nat}(h:fz nm at_ b A e B):(e≠0∧LQ A B)∨(e=0∧∃f,A.look nm=some f∧B.names=A.names∧B.aq=A.aq∧B.fs=Ab.Bn A.fs f (bH (A.now f) at_ b)∧B.writes=A.writes++[(f,at_,b)]):=by
 have hf:=tE A nm (fK nm at_ b)
 unfold fz Ab.write at h
 generalize hx:A.find nm (fK nm at_ b)=r at h hf
 obtain⟨e1,oo,A1⟩:=r
 obtain⟨hq,hs⟩:=hf
 simp only at hq hs h
 by_cases h0:e1=0
 ·subst h0
  obtain⟨f,h1,rfl⟩:=hs rfl
  rw[if_pos rfl]at h
  simp only at h
  split at h
  ·injection h with h2 h3
   subst h2 h3
   exact .inl ⟨ah,hq⟩
  ·injection h with h2 h3
   subst h2 h3
   have hn:A1.now f=A.now f:=by unfold Ab.now Ab.file;rw[hq.fs]
   exact .inr ⟨rfl,f,h1,hq.names,hq.aq,by simp only;rw[hq.fs,hn],by simp only;rw[hq.writes]⟩
 ·rw[if_neg h0]at h
  injection h with h2 h3
  subst h2 h3
  exact .inl ⟨h0,hq⟩
theorem xd{nm:ByteArray}{A B:Ab}{e:Nat}(h:eX nm A e B):(e≠0∧LQ A B)∨(e=0∧∃f,A.look nm=some f∧B.names=A.names∧B.aq=A.aq∧B.fs=Ab.nu A.fs f∧B.writes=A.writes.filter fun x => !decide (x.1=f)):=by
 have hf:=tE A nm (isName nm)
 unfold eX Ab.sync at h
 generalize hx:A.find nm (isName nm)=r at h hf
 obtain⟨e1,oo,A1⟩:=r
 obtain⟨hq,hs⟩:=hf
 simp only at hq hs h
 by_cases h0:e1=0
 ·subst h0
  obtain⟨f,h1,rfl⟩:=hs rfl
  rw[if_pos rfl]at h
  simp only at h
  injection h with h2 h3
  subst h2 h3
  exact .inr ⟨rfl,f,h1,hq.names,hq.aq,by simp only;rw[hq.fs],by simp only;rw[hq.writes]⟩
 ·rw[if_neg h0]at h
  injection h with h2 h3
  subst h2 h3
  exact .inl ⟨h0,hq⟩
theorem vL{A B:Ab}{e:Nat}(h:dE A e B):(e≠0∧LQ A B)∨(e=0∧B.names=A.names∧B.aq=[A.names]∧B.fs=A.fs∧B.writes=A.writes):=by
 have hm:=xP A true
 unfold dE Ab.cf at h
 split at h
 ·injection h with h1 h2
  subst h1 h2
  exact .inr ⟨rfl,hm.names,by simp[hm.names],hm.fs,hm.writes⟩
 ·rename_i h0
  injection h with h1 h2
  subst h1 h2
  exact .inl ⟨h0,hm⟩
abbrev Nms:=List (ByteArray × Nat)
theorem GG(l:Nms)(k nm:ByteArray)(f:Nat):Ab.cG (l++[(k,f)]) nm=(Ab.cG l nm).or (if nm=k then some f else none):=by
 unfold Ab.cG
 rw[List.find?_append]
 cases hx:l.find? (fun x=>decide (x.1=nm))with
 | some x=>simp
 | none =>
  by_cases h:nm=k
  ·simp[h]
  ·have:¬k=nm:=fun e=>h e.symm
   simp[h,this]
theorem tG{A B:Ab}(h:B.fs=A.fs)(f:Nat):B.file f=A.file f:=by unfold Ab.file;rw[h]
theorem OB{A B:Ab}{f:Nat}(h:B.fs=(f,[],[])::A.fs)(g:Nat):B.file g=if f=g then([],[])else A.file g:=by
 unfold Ab.file
 rw[h,List.find?_cons]
 by_cases he:f=g <;> simp[he]
theorem yA{A B:Ab}{f:Nat}{c:List UInt8}(h:B.fs=Ab.Bn A.fs f c){g:Nat}(hg:g∈A.fs.map (·.1)):B.file g=if g=f then(c,(A.file g).2)else A.file g:=by
 have h1:B.file g=({ A with fs:=A.fs.map fun x=>if x.1=f then(x.1,c,x.2.2)else x }:Ab).file g:=tG h g
 rw[h1,Ey A (fun x=>if x.1=f then(x.1,c,x.2.2)else x) (fun x=>by split <;> rfl) hg]
 by_cases he:g=f <;> simp[he]
theorem uN{A B:Ab}{f:Nat}(h:B.fs=Ab.nu A.fs f){g:Nat}(hg:g∈A.fs.map (·.1)):B.file g=if g=f then((A.file g).1,(A.file g).1)else A.file g:=by
 have h1:B.file g=({ A with fs:=A.fs.map fun x=>if x.1=f then(x.1,x.2.1,x.2.1)else x }:Ab).file g:=tG h g
 rw[h1,Ey A (fun x=>if x.1=f then(x.1,x.2.1,x.2.1)else x) (fun x=>by split <;> rfl) hg]
 by_cases he:g=f <;> simp[he]
theorem QG{A B:Ab}{f:Nat}(h:B.fs=(f,[],[])::A.fs):B.fs.map (·.1)=f::A.fs.map (·.1):=by rw[h];rfl
theorem ID{A B:Ab}{f:Nat}{c:List UInt8}(h:B.fs=Ab.Bn A.fs f c):B.fs.map (·.1)=A.fs.map (·.1):=by rw[h];exact wk _ _ (fun x=>by split <;> rfl)
theorem D1{A B:Ab}{f:Nat}(h:B.fs=Ab.nu A.fs f):B.fs.map (·.1)=A.fs.map (·.1):=by rw[h];exact wk _ _ (fun x=>by split <;> rfl)
def Cl(A:Ab)(f:Nat):Prop:=(A.file f).2=(A.file f).1∧∀w∈A.writes,w.1≠f
theorem Hg{A:Ab}(last:Int)(stay:List UInt8)(dD cut:Int){f:Nat}(hf:f∈A.fs.map (·.1))(hr:f∈Ab.reach (A.aq++[(A.dp last stay dD cut).names])):(A.dp last stay dD cut).file f=(((A.dp last stay dD cut).file f).1,((A.dp last stay dD cut).file f).1)∧(Cl A f→(A.dp last stay dD cut).file f=A.file f):=by
 have Eb:=tq stay dD cut A.writes 0 A.fs
 have fg:f∈(Ab.jv stay dD cut 0 A.writes A.fs).map (·.1):=by rw[Eb];exact hf
 obtain⟨x,hx,hxf⟩:=yy fg
 have lW:(A.dp last stay dD cut).file f=(x.2.2,x.2.2):=by
  have GU:=hr
  simp only[Ab.dp]at GU ⊢
  unfold Ab.file
  simp only
  rw[kD _ (fun x=>by split <;> rfl),hx]
  simp only[Option.map_some,Option.getD_some]
  rw[if_pos (by rw[hxf];exact GU)]
 refine⟨by rw[lW],fun hc=>?_⟩
 have hl:=sf stay dD cut f A.writes 0 A.fs hc.2
 have hA:A.file f=x.2:=by
  unfold Ab.file
  rw[← hl,hx]
  rfl
 have h2:=hc.1
 rw[hA]at h2
 rw[lW,hA]
 exact Prod.ext h2 rfl
end Go.Proofs.YtedjnjkijiddlaaGreatDoor
namespace Go.SL
open Go
abbrev jS:=BitVec 64
def Mm(x:jS):Value := .int .u64 (x.toNat:Int)
def qV(l:List jS):List Value:=l.map Mm
theorem V7(l:List jS):(qV l).length=l.length:=by simp[qV]
theorem Gm{l:List jS}{i:Nat}{x:jS}(h:l[i]?=some x):(qV l)[i]?=some (Mm x):=by simp[qV,h]
theorem MS(l:List jS)(i:Nat)(x:jS):(qV l).set i (Mm x)=qV (l.set i x):=by simp[qV]
theorem Bi(n:Nat):IntKind.u64.wrap (n:Int)=((n%18446744073709551616:Nat):Int):=by
 simp[IntKind.wrap,IntKind.bits,IntKind.signed]
theorem nD(p:jS):BitVec.ofInt IntKind.u64.bits ((p.toNat:Nat):Int)=p:=by
 apply BitVec.eq_of_toNat_eq
 have h:IntKind.u64.bits=64:=rfl
 rw[BitVec.toNat_ofInt]
 have:=p.isLt
 show(((p.toNat:Nat):Int)%((2 ^ 64:Nat):Int)).toNat=p.toNat
 omega
section
variable{P:Program}{U:Tr}[hU:fT P U]{f:FuncId}{n:Nat}{R:Ending→World→Prop}{G:cC}{k:List Item}{L:fC}{H H':List HP}{S:World→Prop}{all:Array Oper}{rest:Pl}{ty:TypeId}{pos:String}{af:Array Edge}{gd:Option (Nat × Bool)}{m:Bool}{d:Tmp}
theorem u3{t yt:TypeId}{x y:Operand}{p q:jS}(hd:Nat.blt d n=true)(hx:ev L x=some (.int .u64 (p.toNat:Int)))(hy:ev L y=some (.int .u64 (q.toNat:Int)))(h:J P f n R G S all rest k ((d,.int .u64 ((p+q).toNat:Int))::L) H):J P f n R G S all (.cons m true ⟨some d,.binOp .add t x y yt,ty,pos,af,gd⟩ rest) k L H:=by
 refine Pv hd hx hy ?_
 have e:IntKind.u64.wrap ((p.toNat:Int)+(q.toNat:Int))=((p+q).toNat:Int):=by
  rw[← Int.natCast_add,Bi,BitVec.toNat_add]
 rw[e];exact h
theorem mH(p:jS):IntKind.u64.wrap (p.toNat:Int)=(p.toNat:Int):=by
 rw[Bi];have:=p.isLt;congr 1;omega
theorem qp{t yt:TypeId}{x y:Operand}{p:jS}{j':IntKind}{q:Int}(s:Nat)(hd:Nat.blt d n=true)(hx:ev L x=some (.int .u64 (p.toNat:Int)))(hy:ev L y=some (.int j' q))(hq:q=(s:Int))(hs:s≤64)(h:J P f n R G S all rest k ((d,.int .u64 ((p >>> s).toNat:Int))::L) H):J P f n R G S all (.cons m true ⟨some d,.binOp .shr t x y yt,ty,pos,af,gd⟩ rest) k L H:=by
 subst hq
 refine iW hd hx hy ah ?_
 have e:(p.toNat:Int)/2 ^ (min ((s:Int).toNat) IntKind.u64.bits)=((p >>> s).toNat:Int):=by
  rw[BitVec.toNat_ushiftRight,Nat.shiftRight_eq_div_pow,Int.toNat_natCast,show min s IntKind.u64.bits=s from by show min s 64=s;omega]
  simp
 rw[e];exact h
theorem XY{t yt:TypeId}{x y:Operand}{p:jS}{j':IntKind}{q:Int}(s:Nat)(hd:Nat.blt d n=true)(hx:ev L x=some (.int .u64 (p.toNat:Int)))(hy:ev L y=some (.int j' q))(hq:q=(s:Int))(hs:s≤64)(h:J P f n R G S all rest k ((d,.int .u64 ((p <<< s).toNat:Int))::L) H):J P f n R G S all (.cons m true ⟨some d,.binOp .shl t x y yt,ty,pos,af,gd⟩ rest) k L H:=by
 subst hq
 refine np hd hx hy ah ?_
 have e:IntKind.u64.wrap ((p.toNat:Int)*2 ^ (min ((s:Int).toNat) IntKind.u64.bits))=((p <<< s).toNat:Int):=by
  rw[BitVec.toNat_shiftLeft,Nat.shiftLeft_eq,Int.toNat_natCast,show min s IntKind.u64.bits=s from by show min s 64=s;omega]
  rw[show(p.toNat:Int)*2 ^ s=((p.toNat*2 ^ s:Nat):Int)from by simp,Bi]
 rw[e];exact h
end
end Go.SL
namespace Go.Proofs.YtedjnjkijiddlaaGreatDoor
open Go Go.SL
def fb(n i:Nat):Option Nat:=if i%2=1 then some (i-1)else if i+1<n then some (i+1)else none
def ng:Nat→Nat→Nat→Nat
 | 0,_,_=>0
 | f+1,n,i=>if n≤1 then 0 else(if(fb n i).isSome then 1 else 0)+ng f ((n+1)/2) (i/2)
def eB(n i:Int):Nat:=if 1≤n∧n≤1024∧0≤i∧i<n then ng n.toNat n.toNat i.toNat else 0
def cL:Nat→List Dg→Nat→List Dg
 | 0,_,_=>[]
 | f+1,l,i=>if l.length≤1 then []else((fb l.length i).bind fun s=>l[s]?).toList++cL f (bq l) (i/2)
def ni:Nat→Nat→Nat→Dg→List Dg→Dg
 | 0,_,_,x,_=>x
 | f+1,n,i,x,p=>if n≤1 then x else match fb n i with
  | none=>ni f ((n+1)/2) (i/2) x p
  | some s=>ni f ((n+1)/2) (i/2) (if s<i then g9 (p.headD Dg.zero) x else g9 x (p.headD Dg.zero)) p.tail
def jo(root:Dg)(n i:Int)(x:Dg)(p:List Dg):Bool:=decide ((1≤n∧n≤1024∧0≤i∧i<n)∧p.length=eB n i∧ni n.toNat n.toNat i.toNat x p=root)
def cM(x:Bl)(i:Int)(b:List UInt8)(p:List Dg):Bool:=match cP x i with
 | none=>false
 | some (_,m)=>decide ((b.length:Int)=m) && jo x.root (bO x) i (cU b) p
theorem Hc(f n i:Nat)(hn:n≤1):ng f n i=0:=by
 cases f with
 | zero=>rfl
 | succ f=>unfold ng;rw[if_pos hn]
theorem Hj(f n i:Nat)(x:Dg)(p:List Dg)(hn:n≤1):ni f n i x p=x:=by
 cases f with
 | zero=>rfl
 | succ f=>unfold ni;rw[if_pos hn]
theorem pG:∀(f g:Nat) (l:List Dg) (i:Nat),l.length≤f→l.length≤g→cL f l i=cL g l i
 | 0,0,_,_,_,_=>rfl
 | 0,g+1,l,i,hf,_=>by
  unfold cL
  rw[if_pos ah]
 | f+1,0,l,i,_,hg=>by
  unfold cL
  rw[if_pos ah]
 | f+1,g+1,l,i,hf,hg=>by
  unfold cL
  split
  ·rfl
  ·rw[pG f g (bq l) (i/2) (by rw[cN];omega) (by rw[cN];omega)]
theorem Dy(f:Nat)(l:List Dg)(i:Nat)(hf:l.length≤f)(hn:1<l.length):cL f l i=((fb l.length i).bind fun s=>l[s]?).toList++cL f (bq l) (i/2):=by
 rw[pG f (f+1) l i hf ah]
 conv=>lhs;unfold cL
 rw[if_neg ah]
theorem Gp(f:Nat)(l:List Dg)(i:Nat)(hn:l.length≤1):cL f l i=[]:=by
 cases f with
 | zero=>rfl
 | succ f=>unfold cL;rw[if_pos hn]
theorem wh{n i s:Nat}(hi:i<n)(h:fb n i=some s):s<n∧s/2=i/2∧s≠i:=by
 unfold fb at h
 split at h
 ·injection h with h;omega
 ·split at h
  ·injection h with h;omega
  ·cases h
theorem sc:∀(f:Nat) (l:List Dg) (i:Nat),i<l.length→(cL f l i).length=ng f l.length i
 | 0,_,_,_=>rfl
 | f+1,l,i,hi=>by
  unfold cL ng
  split
  ·rfl
  ·have ih:=sc f (bq l) (i/2) (by rw[cN];omega)
   rw[List.length_append,ih,cN]
   congr 1
   cases hs:fb l.length i with
   | none=>rfl
   | some s =>
    obtain⟨h1,_⟩:=wh hi hs
    simp[List.getElem?_eq_getElem h1]
theorem uR:∀(k f n i:Nat),n≤2 ^ k→ng f n i≤k
 | 0,f,n,i,h=>by rw[Hc f n i (by simpa using h)];exact Nat.le_refl _
 | k+1,0,n,i,h=>Nat.zero_le _
 | k+1,f+1,n,i,h=>by
  unfold ng
  split
  ·exact Nat.zero_le _
  ·have:=uR k f ((n+1)/2) (i/2) (by rw[Nat.pow_succ]at h;omega)
   split <;> omega
theorem qR(n i:Int):eB n i≤10:=by
 unfold eB
 split
 ·rename_i h
  exact uR 10 _ _ _ ah
 ·exact Nat.zero_le _
theorem vD:∀(f:Nat) (l:List Dg) (i:Nat) (x:Dg),l.length≤f→l[i]?=some x→ni f l.length i x (cL f l i)=((RP f l).head?).getD Dg.zero
 | 0,l,i,x,hf,hx=>by
  have:=(List.getElem?_eq_some_iff.1 hx).1
  omega
 | f+1,l,i,x,hf,hx=>by
  have hi:=(List.getElem?_eq_some_iff.1 hx).1
  by_cases hn:l.length≤1
  ·rw[Hj _ _ _ _ _ hn]
   unfold RP
   rw[if_pos hn]
   match l,hi,hx with
   | [y],hi,hx =>
    have:i=0:=by simp at hi;omega
    subst this
    simpa using hx.symm
  ·unfold ni cL RP
   rw[if_neg hn,if_neg hn,if_neg hn]
   have Ov:=cN l
   have mD:=oX l (i/2)
   have key:∀y,(bq l)[i/2]?=some y→ni f ((l.length+1)/2) (i/2) y (cL f (bq l) (i/2))=((RP f (bq l)).head?).getD Dg.zero:=fun y hy=>by
    have:=vD f (bq l) (i/2) y ah hy
    rw[Ov]at this
    exact this
   cases hs:fb l.length i with
   | none =>
    have h2:i%2=0∧¬i+1<l.length:=by
     unfold fb at hs
     split at hs
     ·cases hs
     ·split at hs
      ·cases hs
      ·exact⟨ah,by assumption⟩
    rw[show 2*(i/2)=i from by omega,hx,List.getElem?_eq_none (show l.length≤i+1 by omega)]at mD
    simp only[Option.bind_none,Option.toList_none,List.nil_append]
    exact key x mD
   | some s =>
    obtain⟨h1,h2,h3⟩:=wh hi hs
    have Wv:l[s]?=some l[s]:=List.getElem?_eq_getElem h1
    simp only[Option.bind_some,Wv,Option.toList_some,List.cons_append,List.nil_append,List.headD_cons,List.tail_cons]
    by_cases hsi:s<i
    ·rw[if_pos hsi]
     refine key _ ?_
     rw[mD,show 2*(i/2)=s from by omega,show s+1=i from by omega,Wv,hx]
    ·rw[if_neg hsi]
     refine key _ ?_
     rw[mD,show 2*(i/2)=i from by omega,show i+1=s from by omega,Wv,hx]
theorem Cb{l:List Dg}{i:Nat}{x:Dg}(hl:l.length≤1024)(hx:l[i]?=some x):jo (rl l) l.length i x (cL l.length l i)=true:=by
 have hi:=(List.getElem?_eq_some_iff.1 hx).1
 have bT:l≠[]:=fun e=>by rw[e]at hi;simp at hi
 unfold jo
 refine decide_eq_true ⟨ah,?_,?_⟩
 ·unfold eB
  rw[if_pos ah,sc _ _ _ hi]
  simp
 ·have:=vD l.length l i x (Nat.le_refl _) hx
  simp only[Int.toNat_natCast]
  rw[this]
  unfold rl
  rw[if_neg bT]
theorem Hu{κ:Type}[DecidableEq κ](es:List (κ × Value))(k d:κ)(v:Value):eh (nk es k v) d=if d=k then some v else eh es d:=by
 unfold nk
 by_cases hk:k∈es.map (·.1)
 ·rw[if_pos hk]
  unfold eh
  rw[List.find?_map]
  have hf:((fun x:κ × Value=>decide (x.1=d)) ∘ fun x:κ × Value=>if x.1=k then(k,v)else x)=fun x=>decide (x.1=d):=by
   funext x
   simp only[Function.comp]
   have he:(if x.1=k then(k,v)else x).1=x.1:=by
    split
    ·rename_i h;exact h.symm
    ·rfl
   exact decide_eq_decide.2 (by rw[he])
  rw[hf]
  by_cases hd:d=k
  ·subst hd
   rw[if_pos rfl]
   obtain⟨y,hy,X8⟩:=List.mem_map.1 hk
   cases hx:es.find? (fun x=>decide (x.1=d))with
   | none=>have:=List.find?_eq_none.1 hx y hy;simp[X8]at this
   | some x =>
    have:x.1=d:=by simpa using List.find?_some hx
    simp[this]
  ·rw[if_neg hd]
   cases hx:es.find? (fun x=>decide (x.1=d))with
   | none=>rfl
   | some x =>
    have:x.1=d:=by simpa using List.find?_some hx
    have bT:¬x.1=k:=fun e=>hd (this.symm.trans e)
    simp[bT]
 ·rw[if_neg hk]
  unfold eh
  rw[List.find?_append]
  by_cases hd:d=k
  ·subst hd
   rw[if_pos rfl]
   cases hx:es.find? (fun x=>decide (x.1=d))with
   | none=>simp
   | some x=>exact absurd (List.mem_map.2 ⟨x,List.mem_of_find?_eq_some hx,by simpa using List.find?_some hx⟩) hk
  ·rw[if_neg hd]
   have:¬k=d:=fun e=>hd e.symm
   cases hx:es.find? (fun x=>decide (x.1=d)) <;> simp[this]
end Go.Proofs.YtedjnjkijiddlaaGreatDoor
