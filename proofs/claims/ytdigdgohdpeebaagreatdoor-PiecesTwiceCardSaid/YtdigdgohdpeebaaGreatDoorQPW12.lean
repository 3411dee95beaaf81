import Derived.Test.YtdigdgohdpeebaaGreatDoorQPW3
import Derived.Test.YtdigdgohdpeebaaGreatDoorQPW6
import Derived.Test.YtdigdgohdpeebaaGreatDoorQPW7
import Derived.Test.YtdigdgohdpeebaaGreatDoorQPW8
import Derived.Test.YtdigdgohdpeebaaGreatDoorQPW9
import Derived.Test.YtdigdgohdpeebaaGreatDoorQPW10
import Derived.Test.YtdigdgohdpeebaaGreatDoorQPW11
set_option linter.unusedSimpArgs false
set_option linter.unusedVariables false
set_option maxHeartbeats 4000000
set_option maxRecDepth 20000
set_option linter.defProp false
namespace Go.Proofs.YtdigdgohdpeebaaGreatDoor
open Go Go.SL
attribute [local irreducible] J K aE Ends ae az aQ bP bj aT aU bp bW aD cB
def IF(tb bs jb bd:Nat)(tv:Value)(q:Int)(mb:Nat)(ts:List Tk)(br:Bool)(s:SJ)(x:Bl)(hl:ts.length≤1000000)(cL:s.1.A.aw.length≤900000000)(eQ:s.1.A.writes.length≤900000000)(m:Nat)(hm:m≤800000000)(hx:∀t,dZ (gN x) s 0 t→SQ m 0 t) :
  aE Tryz.prog 12 [ptr tb,eS x] (dL tb bs jb tv ts br++[cB bs bd jb q mb [] s])
  (fun r H=>(br=true∧r = .int .i64 10∧H=dL tb bs jb tv ts br++[cB bs bd jb q mb [] s])∨(br=false∧fb ts x=none∧r = .int .i64 4∧H=dL tb bs jb tv ts br++[cB bs bd jb q mb [] s]) ∨
   (br=false∧(fb ts x).isSome=true∧∃(e:Nat) (t:SJ),dZ (gN x) s e t∧((e≠0∧r = .int .i64 (e:Int)∧H=dL tb bs jb tv ts (gi e)++[cB bs bd jb q mb [] t]) ∨
    (e=0∧∃(e':Nat) (t':SJ) (m5:Value),r = .int .i64 (e':Int)∧H=dL tb bs jb m5 (if e'=0 then mQ ts x.d else ts) (gi e')++[cB bs bd jb q mb [] t']∧iA (jD (Cu x.d)) t e' t')))):=by
 have hf:=n6 tb bs jb tv br ts x hl
 have gP:=fun t h=>Jw tb bs jb bd tv q mb ts t x hl m hm (hx t h)
 unfold dL eS at hf gP ⊢
 refine aE.au Tryz.func12 Tryz.ntmps12 fun G F R hE=>?_
 refine aG rfl ?_
 refine bG zr zr bD ?_
 intro b2
 refine bG zr zr bD ?_
 intro b3
 cases br with
 | true =>
  refine go ?_
  refine ai (H':=ae tb (cl [ptr bs,ptr jb,tv,.bool true] 73)::az 75 1 tv ts.length (ts.map cg)::aW ts::cB bs bd jb q mb [] s::F) ah ?_
  refine ad hE Tryz.func12 zr zr (.inl ⟨rfl,rfl,rfl⟩)
 | false =>
  refine go ?_
  refine aJ (U:=aS) (l:=bJ x) 0 zr zr zr zr zr zr ?_
  refine aO hf ?_
  cases qg:fb ts x with
  | none =>
   unfold Nd
   refine go ?_
   refine ai (H':=ae tb (cl [ptr bs,ptr jb,tv,.bool false] 73)::az 75 1 tv ts.length (ts.map cg)::aW ts::cB bs bd jb q mb [] s::F) ah ?_
   refine ad hE Tryz.func12 zr zr (.inr (.inl ⟨rfl,qg,rfl,rfl⟩))
  | some y =>
   unfold Nd
   refine go ?_
   refine aj (cs:=[.func (.func 45) #[] #[ptr b2,ptr b3] ]) zr zr zr zr zr zr zr zr zr bD ?_
   intro row
   refine aI (H':=cB bs bd jb q mb [] s::([ae b2 (cl [ptr tb] 31),ae b3 (cl (bJ x) 38)]++(ae row (cl [.func (.func 45) #[] #[ptr b2,ptr b3] ] 82)::ae tb (cl [ptr bs,ptr jb,tv,.bool false] 73)::az 75 1 tv ts.length (ts.map cg)::aW ts::F))) ah ?_
   refine aI (zq bs bd jb q mb _ s _) ?_
   have iR:=DJ tb bs jb bd row tv q mb s _ _ [ptr b2,ptr b3] _ (Fz tb bs jb bd b2 b3 q mb tv s x [] cL eQ)
   unfold iD at iR
   refine aF iR ?_
   rintro _ _⟨e,t,rfl,rfl,hS⟩
   refine aI (H':=cB bs bd jb q mb (ae b2 (cl [ptr tb] 31)::ae b3 (cl (bJ x) 38)::[]) t::ae tb (cl [ptr bs,ptr jb,tv,.bool (gi e)] 73)::az 75 1 tv ts.length (ts.map cg)::aW ts::F) ah ?_
   refine aI (uk bs bd jb q mb _ t _) ?_
   by_cases he:e=0
   ·subst he
    refine aI (H':=ae b3 (cl (bJ x) 38)::ae b2 (cl [ptr tb] 31)::ae tb (cl [ptr bs,ptr jb,tv,.bool false] 73)::az 75 1 tv ts.length (ts.map cg)::aW ts::cB bs bd jb q mb [] t::F) ah (go ?_)
    refine aJ (U:=aS) (l:=bJ x) 0 zr zr zr zr zr zr ?_
    refine aF (gP t hS) ?_
    rintro _ _⟨e',t',m5,rfl,rfl,hR⟩
    refine go ?_
    refine ai (H':=ae tb (cl [ptr bs,ptr jb,m5,.bool (gi e')] 73)::az 75 1 m5 (if e'=0 then mQ ts x.d else ts).length ((if e'=0 then mQ ts x.d else ts).map cg)::aW (if e'=0 then mQ ts x.d else ts)::cB bs bd jb q mb [] t'::F) ah ?_
    ((refine ad hE Tryz.func12 zr zr (.inr (.inr ⟨rfl,by rw[qg];rfl,0,t,hS,.inr ⟨rfl,e',t',m5,rfl,rfl,hR⟩⟩))))
   ·refine aI (H':=ae tb (cl [ptr bs,ptr jb,tv,.bool (gi e)] 73)::az 75 1 tv ts.length (ts.map cg)::aW ts::cB bs bd jb q mb [] t::F) ah (go ?_)
    refine aq zr zr ?_ ?_
    ·intro _
     refine go ?_
     ((refine ad hE Tryz.func12 zr zr (.inr (.inr ⟨rfl,by rw[qg];rfl,e,t,hS,.inl ⟨he,rfl,rfl⟩⟩))))
    ·intro h;exfalso;omega
def Yz(x:Bl)(ts:List Tk)(s:SJ)(br:Bool)(r:Int)(ek:List Tk)(jM:Bool)(t:SJ):Prop :=
 (br=true∧r=10∧ek=ts∧jM=br∧t=s)∨(br=false∧fb ts x=none∧r=4∧ek=ts∧jM=br∧t=s) ∨
 (br=false∧∃y,fb ts x=some y∧((rD y.ws<y.n∧r=9∧ek=ts∧jM=br∧t=s) ∨
  (¬rD y.ws<y.n∧∃(e:Nat) (u:SJ),dZ (dQ x) s e u∧((e≠0∧e≠8∧r=e∧ek=ts∧jM=gi e∧t=u) ∨
   ((e=0∨e=8)∧∃e':Nat,r=(if e'=0 then(e:Int)else e')∧ek=(if e'=0 then mQ ts x.d else ts)∧jM=gi e'∧iA (jD (Cu x.d)) u e' t)))))
def FX(X:HP)(hK:oD X)(tb bs jb bd:Nat)(tv:Value)(q:Int)(mb:Nat)(ts:List Tk)(br:Bool)(s:SJ)(x:Bl)(hl:ts.length≤1000000)(hn:∀y∈ts,y.n≤65536)(hw:∀y∈ts,y.ws.length≤65536)(cL:s.1.A.aw.length≤900000000)(eQ:s.1.A.writes.length≤900000000)(m:Nat)(hm:m≤800000000)(hx:∀e t,dZ (dQ x) s e t→SQ m 0 t) :
  aE Tryz.prog 11 [ptr tb,eS x] (dL tb bs jb tv ts br++[cB bs bd jb q mb [] s,X])
  (fun r H=>∃(ri:Int) (ek:List Tk) (m5:Value) (jM:Bool) (t:SJ),r = .int .i64 ri∧H=dL tb bs jb m5 ek jM++[cB bs bd jb q mb [] t,X]∧Yz x ts s br ri ek jM t):=by
 have hf:=n6 tb bs jb tv br ts x hl
 have gP:=fun e t h=>Jw tb bs jb bd tv q mb ts t x hl m hm (hx e t h)
 unfold dL eS at hf gP ⊢
 refine aE.au Tryz.func11 Tryz.ntmps11 fun G F R hE=>?_
 refine aG rfl ?_
 refine bG zr zr bD ?_
 intro b2
 refine bG zr zr bD ?_
 intro b3
 refine go ?_
 refine aJ (U:=aS) (l:=bJ x) 0 zr zr zr zr zr zr ?_
 refine aO hf ?_
 cases br with
 | true =>
  refine go ?_
  refine ai (H':=ae tb (cl [ptr bs,ptr jb,tv,.bool true] 73)::az 75 1 tv ts.length (ts.map cg)::aW ts::cB bs bd jb q mb [] s::X::F) ah ?_
  refine ad hE Tryz.func11 zr zr ⟨10,ts,tv,true,s,rfl,rfl,.inl ⟨rfl,rfl,rfl,rfl,rfl⟩⟩
 | false =>
  cases qg:fb ts x with
  | none =>
   unfold Nd
   refine go ?_
   refine ai (H':=ae tb (cl [ptr bs,ptr jb,tv,.bool false] 73)::az 75 1 tv ts.length (ts.map cg)::aW ts::cB bs bd jb q mb [] s::X::F) ah ?_
   refine ad hE Tryz.func11 zr zr ⟨4,ts,tv,false,s,rfl,rfl,.inr (.inl ⟨rfl,qg,rfl,rfl,rfl,rfl⟩)⟩
  | some y =>
   obtain⟨i,hi,AV⟩:=lV qg
   have Cf:y∈ts:=List.mem_of_getElem? hi
   have Gg:=hn y Cf
   have Ev:=hw y Cf
   have YY:=CA y.ws
   unfold Nd
   refine go ?_
   refine ai (H':=aW ts::ae tb (cl [ptr bs,ptr jb,tv,.bool false] 73)::az 75 1 tv ts.length (ts.map cg)::cB bs bd jb q mb [] s::X::ae b2 (cl [ptr tb] 31)::ae b3 (cl (bJ x) 38)::F) ah ?_
   refine ai (kO hi _) ?_
   refine er (gf y) ?_
   rintro⟨wv,cs,M⟩ hz
   refine ai (H':=ae y.yb (cl (ly y) 79)::ae y.sb (cl [.int .i64 (y.n:Int),wv] 138)::az 134 1 wv y.ws.length (qV y.ws)::aQ (Value.int .i64) y.mb cs::aU 36 M::aW (ts.take i++ts.drop (i+1))::ae tb (cl [ptr bs,ptr jb,tv,.bool false] 73)::az 75 1 tv ts.length (ts.map cg)::cB bs bd jb q mb [] s::X::ae b2 (cl [ptr tb] 31)::ae b3 (cl (bJ x) 38)::F) (by unfold mP;exact ah) ?_
   have ET:=zI y.sb y.n wv y.ws Ev
   unfold eT at ET
   refine aH (fun w=>Sat G w ([ae y.yb (cl (ly y) 79)])) (df 0 4 (df 5 4 (.act 4 (.act 9 (.st 10 (.st 11 .nil)))))) rfl ak ak ak eo ?_
   refine go ?_
   refine bC ET ?_
   refine go ?_
   refine bC (lp y.sb y.n wv) ?_
   refine go ?_
   refine ai (H':=mP y (wv,cs,M)++(aW (ts.take i++ts.drop (i+1))::ae tb (cl [ptr bs,ptr jb,tv,.bool false] 73)::az 75 1 tv ts.length (ts.map cg)::cB bs bd jb q mb [] s::X::ae b2 (cl [ptr tb] 31)::ae b3 (cl (bJ x) 38)::F)) (by unfold mP;exact ah) ?_
   refine ai (iX hz _) ?_
   refine ai (lJ hi _) ?_
   refine ai (H':=ae b3 (cl (bJ x) 38)::ae b2 (cl [ptr tb] 31)::ae tb (cl [ptr bs,ptr jb,tv,.bool false] 73)::az 75 1 tv ts.length (ts.map cg)::aW ts::cB bs bd jb q mb [] s::X::F) ah ?_
   refine fQ zr zr ?_ ?_
   ·intro cW
    refine go ?_
    refine ai (H':=ae tb (cl [ptr bs,ptr jb,tv,.bool false] 73)::az 75 1 tv ts.length (ts.map cg)::aW ts::cB bs bd jb q mb [] s::X::F) ah ?_
    refine ad hE Tryz.func11 zr zr ⟨9,ts,tv,false,s,rfl,rfl,.inr (.inr ⟨rfl,y,qg,.inl ⟨by simpa using cW,rfl,rfl,rfl,rfl⟩⟩)⟩
   intro fg
   have XC:¬rD y.ws<y.n:=by simpa using fg
   refine go ?_
   refine aj (cs:=[.func (.func 42) #[] #[ptr b2,ptr b3] ]) zr zr zr zr zr zr zr zr zr bD ?_
   intro row
   refine aI (H':=cB bs bd jb q mb [] s::([ae b2 (cl [ptr tb] 31),ae b3 (cl (bJ x) 38),X]++(ae row (cl [.func (.func 42) #[] #[ptr b2,ptr b3] ] 82)::ae tb (cl [ptr bs,ptr jb,tv,.bool false] 73)::az 75 1 tv ts.length (ts.map cg)::aW ts::F))) ah ?_
   refine aI (zq bs bd jb q mb _ s _) ?_
   have iR:=DJ tb bs jb bd row tv q mb s _ _ [ptr b2,ptr b3] _ (Cq X hK tb bs jb bd b2 b3 q mb tv s x [] cL eQ)
   unfold iD at iR
   refine aF iR ?_
   rintro _ _⟨e,t,rfl,rfl,hS⟩
   refine aI (H':=cB bs bd jb q mb (ae b2 (cl [ptr tb] 31)::ae b3 (cl (bJ x) 38)::X::[]) t::ae tb (cl [ptr bs,ptr jb,tv,.bool (gi e)] 73)::az 75 1 tv ts.length (ts.map cg)::aW ts::F) ah ?_
   refine aI (uk bs bd jb q mb _ t _) ?_
   refine aI (H':=ae b3 (cl (bJ x) 38)::ae b2 (cl [ptr tb] 31)::ae tb (cl [ptr bs,ptr jb,tv,.bool (gi e)] 73)::az 75 1 tv ts.length (ts.map cg)::aW ts::cB bs bd jb q mb [] t::X::F) ah ?_
   by_cases OI:e=0∨e=8
   ·have hb:gi e=false:=decide_eq_false ag
    rw[hb]
    have lg:∀e:Nat,(e=0∨e=8)→True:=fun _ _=>trivial
    rcases OI with rfl|rfl
    all_goals(
     refine go ?_
     refine aJ (U:=aS) (l:=bJ x) 0 zr zr zr zr zr zr ?_
     refine aF (gP _ t hS) ?_
     rintro _ _⟨e',t',m5,rfl,rfl,hR⟩
     by_cases MT:e'=0
     ·subst MT
      refine go ?_
      refine ai (H':=ae tb (cl [ptr bs,ptr jb,m5,.bool (gi 0)] 73)::az 75 1 m5 (mQ ts x.d).length ((mQ ts x.d).map cg)::aW (mQ ts x.d)::cB bs bd jb q mb [] t'::X::F) ah ?_
      refine ad hE Tryz.func11 zr zr ⟨_,mQ ts x.d,m5,gi 0,t',rfl,rfl,.inr (.inr ⟨rfl,y,qg,.inr ⟨XC,_,t,hS,.inr ⟨ag,0,rfl,rfl,rfl,hR⟩⟩⟩)⟩
     ·refine go ?_
      refine aq zr zr ?_ ?_
      ·intro _
       refine go ?_
       refine ai (H':=ae tb (cl [ptr bs,ptr jb,m5,.bool (gi e')] 73)::az 75 1 m5 (if e'=0 then mQ ts x.d else ts).length ((if e'=0 then mQ ts x.d else ts).map cg)::aW (if e'=0 then mQ ts x.d else ts)::cB bs bd jb q mb [] t'::X::F) ah ?_
       refine ad hE Tryz.func11 zr zr ⟨e',_,m5,gi e',t',rfl,rfl,.inr (.inr ⟨rfl,y,qg,.inr ⟨XC,_,t,hS,.inr ⟨ag,e',(if_neg MT).symm,rfl,rfl,hR⟩⟩⟩)⟩
      ·intro h;exfalso;omega)
   ·refine go ?_
    ((refine aB 37 ((.bool true)) rfl ((congrArg Value.bool (by simp;omega))) ?_))
    refine go ?_
    refine fQ zr zr ?_ ?_
    ·intro _
     refine go ?_
     refine ai (H':=ae tb (cl [ptr bs,ptr jb,tv,.bool (gi e)] 73)::az 75 1 tv ts.length (ts.map cg)::aW ts::cB bs bd jb q mb [] t::X::F) ah ?_
     refine ad hE Tryz.func11 zr zr ⟨e,ts,tv,gi e,t,rfl,rfl,.inr (.inr ⟨rfl,y,qg,.inr ⟨XC,e,t,hS,.inl ⟨ag,ag,rfl,rfl,rfl,rfl⟩⟩⟩)⟩
    ·intro h
     exfalso
     simp at h
     omega
end Go.Proofs.YtdigdgohdpeebaaGreatDoor
namespace Go.Proofs.YtdigdgohdpeebaaGreatDoor
open Go Go.SL
attribute [local irreducible] J K aE Ends ae az aQ bP bj aT aU bp bW aD
def eu(s:e8)(x:Bl)(i:Int):List UInt8 × Nat:=if pX s.bq x then(match dJ x i with
 | none=>([],1)
 | some (a,n)=>s.A.read (dy kS x.d) a n)else([],4)
def Ic(bs bd:Nat)(q:Int)(mb:Nat)(s:e8)(x:Bl)(i:Int):aE Tryz.prog 127 [ptr bs,eS x,.int .i64 i] (cC bs bd q mb s)
  (fun r H=>∃rv,r = .tuple #[rv,.int .i64 ((eu s x i).2:Int)]∧H=az 5 1 rv (eu s x i).1.length (bV (eu s x i).1)::cC bs bd q mb s):=by
 obtain⟨A,bq,brk⟩:=s
 have ho:=D9 bs bd q mb brk bq x
 have iQ:=zo x i
 have hf:=n7 kS x.d (by decide)
 unfold eS dV at *
 unfold cC
 dsimp only
 refine aE.au Tryz.func127 Tryz.ntmps127 fun G F R hE=>?_
 refine aG rfl ?_
 refine bG zr zr bD ?_
 intro b4
 refine go ?_
 refine aJ (U:=aS) (l:=bJ x) 0 zr zr zr zr zr zr ?_
 refine aO ho ?_
 cases hh:pX bq x with
 | false =>
  have h1:eu ⟨A,bq,brk⟩ x i=([],4):=by unfold eu;rw[if_neg (by simp[hh])]
  rw[h1]at hE
  refine go ?_
  refine ai (bO 5 1 none _) ?_
  refine ai (H':=az 5 1 (.slice none 0 0) 0 []::ae bs (cl (eA bd q mb brk) 113)::aQ dV mb (dx bq)::aD bd A::F) ah ?_
  refine ad hE Tryz.func127 zr zr ⟨_,rfl,rfl⟩
 | true =>
  refine go ?_
  refine aJ (U:=aS) (l:=bJ x) 2 zr zr zr zr zr zr ?_
  ((refine go ?_;(refine aF iQ ?_)))
  rintro _ _⟨rfl,rfl⟩
  cases hs:dJ x i with
  | none =>
   have h1:eu ⟨A,bq,brk⟩ x i=([],1):=by unfold eu;rw[if_pos (by simp[hh]),hs]
   rw[h1]at hE
   refine go ?_
   refine ai (bO 5 1 none _) ?_
   refine ai (H':=az 5 1 (.slice none 0 0) 0 []::ae bs (cl (eA bd q mb brk) 113)::aQ dV mb (dx bq)::aD bd A::F) ah ?_
   refine ad hE Tryz.func127 zr zr ⟨_,rfl,rfl⟩
  | some an =>
   obtain⟨a,n⟩:=an
   have h1:eu ⟨A,bq,brk⟩ x i=A.read (dy kS x.d) a n:=by unfold eu;rw[if_pos (by simp[hh]),hs]
   rw[h1]at hE
   have vW:=CR bd A (dy kS x.d) a n
   refine go ?_
   refine ai (H':=ae b4 (cl (bJ x) 38)::ae bs (cl (eA bd q mb brk) 113)::aQ dV mb (dx bq)::aD bd A::F) ah ?_
   refine aH (fun w=>Sat G w ([ae b4 (cl (bJ x) 38),ae bs (cl (eA bd q mb brk) 113)])) (df 0 6 (.st 7 (.st 8 (.act 6 (.act 9 (df 10 4 .nil)))))) rfl ak ak ak eo ?_
   refine go ?_
   refine cD (U:=aS) 0 zr zr zr zr zr zr (go ?_)
   refine bC hf ?_
   refine go ?_
   ((refine fq zr zr zr zr (vW) ah ?_ (fun _ _ w hp hw=>by obtain⟨r,rfl,rfl⟩:=hp;exact hw.cN ah)))
   rintro _ _⟨r,rfl,rfl⟩
   refine go ?_
   refine ai (H':=az 5 1 r (A.read (dy kS x.d) a n).1.length (bV (A.read (dy kS x.d) a n).1)::ae bs (cl (eA bd q mb brk) 113)::aQ dV mb (dx bq)::aD bd A::F) ah ?_
   refine ad hE Tryz.func127 zr zr ⟨_,rfl,rfl⟩
end Go.Proofs.YtdigdgohdpeebaaGreatDoor
namespace Go.Proofs.YtdigdgohdpeebaaGreatDoor
open Go Go.SL
def Q0(W:List jl):∀v∈qV W,v.oneCell'=true:=by
 intro v hv
 obtain⟨x,_,rfl⟩:=List.mem_map.1 hv
 rfl
attribute [local irreducible] J K aE Ends ae az aQ bP bj aT aU bp bW aD
def SA(A:HP)(v:Value)(W:List jl)(hv:Vw A v W.length (qV W))(hlen:W.length≤1000000) :
  aE Tryz.prog 203 [v] [A] (fun r H=>H=[az 134 1 r W.length (qV W),A]):=by
 obtain⟨a,c0,rfl⟩:=hv.shape
 cases a with
 | none =>
  have hb:W=[]:=by
   obtain⟨a,cap,h1,h2|⟨b,o,h2,_⟩⟩:=hv
   ·have:=congrArg List.length h2
    rw[GY]at this
    exact List.eq_nil_of_length_eq_zero (by rw[this];rfl)
   ·simp only[Value.slice.injEq]at h1;rw[← h1.1]at h2;cases h2
  subst hb
  refine aE.enter Tryz.func203 ak rfl Tryz.ntmps203 zr zr ?_
  intro G F R hR
  refine go ?_
  refine ai (bO 134 1 none _) ?_
  refine aL hR Tryz.func203 rfl _ zr zr (ao.fin [0,1] 0 zr zr)
 | some a =>
  refine aE.enter Tryz.func203 ak rfl Tryz.ntmps203 zr zr ?_
  intro G F R hR
  refine go ?_
  refine aj (cs:=[]) zr zr zr zr zr zr zr zr zr bD ?_
  intro b0
  refine go ?_
  refine aI (dR 134 1 b0 0 0 [] [] _ rfl (Nat.le_refl _) (by simp)) ?_
  refine aR (mm:=W.length) (news:=qV W) 0 1 zr zr zr zr zr zr zr zr zr zr zr zr hv (by rw[GY];exact(Nat.mul_one _).symm) (Q0 W) ag (by show _*8≤_;omega) (fun _=>rfl) bD ?_
  intro v'
  have e1:(0:Nat)+W.length=W.length:=by omega
  rw[e1,List.nil_append]
  refine go ?_
  refine aL hR Tryz.func203 rfl _ zr zr (ao.fin [0,1] 0 zr zr)
def Sn(p q:jl):aE Tryz.prog 165 [.int .u64 (p.toNat:Int),.int .u64 (q.toNat:Int)] [] (fun r H=>r = .int .u64 ((YC p q).toNat:Int)∧H=[]):=by
 refine aE.au Tryz.func165 Tryz.ntmps165 fun G F R hE=>?_
 refine go ?_
 refine bu 4 ((.int .u64 ((YC p q).toNat:Int))) rfl ((congrArg (Value.int .u64) (aaG _ _))) ?_
 refine ad hE Tryz.func165 zr zr ⟨rfl,rfl⟩
def KC(tb bs jb bd b2 b3:Nat)(q:Int)(mb:Nat)(tv:Value)(s:e8)(x:Bl)(cL:s.A.aw.length≤900000000)(eQ:s.A.writes.length≤900000000) :
  aE Tryz.prog 37 [ptr b2,ptr b3] (iD tb bs jb tv false::(cC bs bd q mb s++[ae b2 (cl [ptr tb] 31),ae b3 (cl (bJ x) 38)]))
  (fun r H=>∃(e:Nat) (t:e8),r = .int .i64 (e:Int)∧H=iD tb bs jb tv false::(cC bs bd q mb t++[ae b2 (cl [ptr tb] 31),ae b3 (cl (bJ x) 38)])∧ki x s e t):=by
 have sW:=Sl bs bd q mb s x cL eQ
 unfold eS at sW
 unfold iD
 refine aE.au Tryz.func37 Tryz.ntmps37 fun G F R hE=>?_
 refine go ?_
 refine aH (fun w=>Sat G w ([ae tb (cl [ptr bs,ptr jb,tv,.bool false] 73),ae b2 (cl [ptr tb] 31),ae b3 (cl (bJ x) 38)])) (df 0 5 (.act 5 (.st 6 .nil))) rfl ak ak ak eo ?_
 refine go ?_
 refine bY (U:=aS) (l:=bJ x) 2 zr zr zr zr zr zr (go ?_)
 refine fq rfl rfl rfl rfl sW ah ?_ (fun _ _ w hp hw=>by obtain⟨_,_,rfl,rfl,_⟩:=hp;exact hw.cN ah)
 rintro _ _⟨e,t,rfl,rfl,hR⟩
 refine go ?_
 refine ai (H':=ae tb (cl [ptr bs,ptr jb,tv,.bool false] 73)::(cC bs bd q mb t++(ae b2 (cl [ptr tb] 31)::ae b3 (cl (bJ x) 38)::F))) ah ?_
 refine ad hE Tryz.func37 zr zr ⟨e,t,rfl,rfl,hR⟩
def KE(X:HP)(tb bs jb bd b2 b3 b4 b5:Nat)(q:Int)(mb:Nat)(tv:Value)(s:e8)(x:Bl)(i:Int)(a:Option Addr)(c:Nat)(b:List UInt8)(hv:Vw X (.slice a b.length c) b.length (bV b))(jO:b.length≤1000000000)(hi : -9223372036854775808≤i∧i≤9223372036854775807)(cL:s.A.aw.length≤900000000)(eQ:s.A.writes.length≤900000000) :
  aE Tryz.prog 35 [ptr b2,ptr b3,ptr b4,ptr b5] (iD tb bs jb tv false::(cC bs bd q mb s++[X,ae b2 (cl [ptr tb] 31),ae b3 (cl (bJ x) 38),ae b4 (cl [.int .i64 i] 3),ae b5 (cl [.slice a b.length c] 39)]))
  (fun r H=>∃(e:Nat) (t:e8),r = .int .i64 (e:Int)∧H=iD tb bs jb tv false::(cC bs bd q mb t++[X,ae b2 (cl [ptr tb] 31),ae b3 (cl (bJ x) 38),ae b4 (cl [.int .i64 i] 3),ae b5 (cl [.slice a b.length c] 39)])∧mY x i b s e t):=by
 have sW:=Yn X bs bd q mb s x i _ b hv jO hi cL eQ
 unfold eS at sW
 unfold iD
 refine aE.au Tryz.func35 Tryz.ntmps35 fun G F R hE=>?_
 refine go ?_
 refine aH (fun w=>Sat G w ([ae tb (cl [ptr bs,ptr jb,tv,.bool false] 73),ae b2 (cl [ptr tb] 31),ae b3 (cl (bJ x) 38),ae b4 (cl [.int .i64 i] 3),ae b5 (cl [.slice a b.length c] 39)])) (df 0 7 (.act 7 (.st 8 .nil))) rfl ak ak ak eo ?_
 refine go ?_
 refine bY (U:=aS) (l:=bJ x) 2 zr zr zr zr zr zr ?_
 (repeat((refine aK ?_;first|refine lZ 3 zr zr zr zr zr zr ?_|refine lZ 4 zr zr zr zr zr zr ?_)))
 refine fq rfl rfl rfl rfl sW ah ?_ (fun _ _ w hp hw=>by obtain⟨_,_,rfl,rfl,_⟩:=hp;exact hw.cN ah)
 rintro _ _⟨e,t,rfl,rfl,hR⟩
 refine go ?_
 refine ai (H':=ae tb (cl [ptr bs,ptr jb,tv,.bool false] 73)::(cC bs bd q mb t++(X::ae b2 (cl [ptr tb] 31)::ae b3 (cl (bJ x) 38)::ae b4 (cl [.int .i64 i] 3)::ae b5 (cl [.slice a b.length c] 39)::F))) ah ?_
 refine ad hE Tryz.func35 zr zr ⟨e,t,rfl,rfl,hR⟩
attribute [local irreducible] LI k7
def F1(jb bd:Nat)(name:ByteArray)(Jn:name.size≤1000000000)(A:Ab)(x:JN)(V:HP)(lv:Value)(ls:List (List UInt8))(hv:qv V lv ls)(hl:(ls.flatMap aZ).length≤100000000)(hn:ls.length≤1000000000)(cL:A.aw.length≤900000000)(qd:A.writes.length≤900000000) :
    aE Tryz.prog 67 [ptr jb,lv] [aD bd A,rq jb bd name x,V]
      (fun r H=>∃(e:Nat) (A':Ab) (x':JN),r = .int .i64 (e:Int)∧H=[aD bd A',rq jb bd name x',V]∧oz name A x ls e A' x'):=by
  obtain⟨n,s,c,bk⟩:=x
  have lq:=hv
  obtain⟨cs,dM,lH,⟨a,cc,rfl,hcc⟩,py⟩:=hv
  dsimp only [rq,jr]
  refine aE.au Tryz.func67 Tryz.ntmps67 fun G F R hE=>?_
  unfold oz at hE
  cases bk with
  | true =>
    simp only[if_true]at hE
    refine go ?_
    refine ad hE Tryz.func67 zr zr ⟨10,_,⟨n,s,c,true⟩,rfl,rfl,rfl,rfl,rfl⟩
  | false =>
    simp only[Bool.false_eq_true,if_false]at hE
    refine go ?_
    refine bz (fun i:Nat=>i≤ls.length∧∀(j:Nat) (y:List UInt8),j<i→ls[j]?=some y→y.length≤4096) (fun i=>ls.length-i)
      (fun i=>[(0,ptr jb),(0+1,.slice a ls.length cc),(5,.int .i64 (((ls.take i).flatMap aZ).length:Int)),(12,.slice a ls.length cc),(13,.int .i64 ls.length),(14,.int .i64 (i:Int))])
      (fun _=>aD bd A::ae jb (cl [ptr bd,.string name,.int .i64 n,.int .i64 s,.int .i64 c,.bool false] 175)::V::F) 0 ⟨Nat.zero_le _,fun j y hj=>by omega⟩ rfl cm ah ?_
    rintro i⟨hi,u6⟩ ih
    refine go ?_
    refine aq zr zr ?_ ?_
    case' refine_1 =>
      intro cW
      have Gk:i<ls.length:=by omega
      obtain⟨y,hy⟩:∃y,ls[i]?=some y:=⟨ls[i],by simp⟩
      obtain⟨cv,oC,Tn⟩:=py i y hy
      obtain⟨b1,o1,k1,wL⟩:=dM.some (by intro e;rw[e]at oC;simp at oC)
      simp only[Value.slice.injEq,true_and]at wL
      obtain⟨rfl,rfl⟩:=wL
      obtain⟨ay,ky,rfl,hky⟩:=Tn.2
      have Hz:=Bd hy
      have nX:((ls.take (i+1)).flatMap aZ).length=((ls.take i).flatMap aZ).length+(aZ y).length:=by rw[Hz,List.length_append]
      have hle:=Ju ls (i+1)
      refine go ?_
      refine bI i zr zr zr zr zr zr zr zr Gk ?_
      refine aX 2 i zr zr zr dM rfl oC zr zr (go ?_)
      refine aq zr zr ?_ ?_
      · intro tN
        have mq:(ls.any fun b=>decide (4096<b.length))=true:=List.any_eq_true.2 ⟨y,List.mem_of_getElem? hy,decide_eq_true ag⟩
        simp only[if_pos mq]at hE
        refine go ?_
        refine ad hE Tryz.func67 zr zr ⟨1,_,⟨n,s,c,false⟩,rfl,rfl,rfl,rfl,rfl⟩
      intro kQ
      have aeE:=n8 y ag
      refine go ?_
      refine aF (qn V _ y Tn ag) ?_
      rintro r _ rfl
      refine aN 0 rfl ?_
      rintro ra rc rfl
      refine go ?_
      ((refine bu 5 ((.int .i64 (((ls.take (i+1)).flatMap aZ).length:Int))) rfl ((congrArg (Value.int .i64) (by rw[nX];simp))) ?_))
      refine go ?_
      refine aM ih (i+1) rfl (⟨ag,fun j z hj hz=>by
        rcases Nat.lt_or_ge j i with h|h
        · exact u6 j z h hz
        · have:j=i:=by omega
          subst this
          rw[hy]at hz;cases hz;omega⟩) ag cm ah
    intro fg
    have rB:i=ls.length:=by omega
    subst rB
    rw[List.take_length]
    have mq:¬(ls.any fun b=>decide (4096<b.length))=true:=fun h=>by
      obtain⟨y,hy,hb⟩:=List.any_eq_true.1 h
      obtain⟨j,hj,rfl⟩:=List.getElem_of_mem hy
      have:=u6 j _ ag (List.getElem?_eq_getElem hj)
      simp at hb;omega
    simp only[if_neg mq]at hE
    refine go ?_
    refine aq zr zr ?_ ?_
    · intro tN
      have pF:524288<(ls.flatMap aZ).length:=by omega
      simp only[if_pos pF]at hE
      refine go ?_
      refine ad hE Tryz.func67 zr zr ⟨3,_,⟨n,s,c,false⟩,rfl,rfl,rfl,rfl,rfl⟩
    intro kQ
    have pF:¬524288<(ls.flatMap aZ).length:=by omega
    simp only[if_neg pF]at hE
    refine go ?_
    refine aF (IX jb bd name n s c false A V _ ls lq ag hn Jn cL qd) ?_
    rintro _ _⟨e,⟨A',n',s',c'⟩,rfl,rfl,tK⟩
    refine go ?_
    refine aO (sH jb bd name n' s' c' false e) ?_
    refine go ?_
    refine ad hE Tryz.func67 zr zr ⟨e,A',⟨n',s',c',decide (e≠0)⟩,rfl,rfl,_,tK,rfl,rfl⟩
end Go.Proofs.YtdigdgohdpeebaaGreatDoor
namespace Go.Proofs.YtdigdgohdpeebaaGreatDoor
open Go Go.SL
def iW(b:List UInt8):Option (UInt8 × Dg × List (List UInt8)):=match pw b with
 | some (x1::x2::l)=>if((x1::x2::l).getLast?.map (·.1))=some ((2+l.length:Nat):Int)∧x1.2.length=1∧x2.2.length=32 then some (x1.2.headD 0,tY x2.2,l.map (·.2))else none
 | _=>none
def pY(b:List UInt8):Option Nat:=(cZ b).bind fun n=>if n≤1048576 then some n else none
def gJ(b:List UInt8):Option Dg:=if b.length=32 then some (tY b)else none
def Ee(n:Nat):Int:=IntKind.u64.wrap ((BitVec.ofInt IntKind.u64.bits (n:Int) &&& BitVec.ofInt IntKind.u64.bits 4294967295).toNat:Int)
def AR(n:Nat):∃k:Nat,Ee n=k∧k<4294967296∧(n≤1048576→k=n):=by
 have e1:(BitVec.ofInt IntKind.u64.bits (4294967295:Int)).toNat=4294967295:=by decide
 obtain⟨k,hk⟩:∃k,k=(BitVec.ofInt IntKind.u64.bits (n:Int) &&& BitVec.ofInt IntKind.u64.bits 4294967295).toNat:=⟨_,rfl⟩
 have hle:k≤4294967295:=by
  rw[hk,BitVec.toNat_and,e1]
  exact Nat.and_le_right
 refine⟨k,?_,ag,fun hn=>?_⟩
 ·unfold Ee
  rw[← hk]
  exact cQ (by simp only[gn];omega)
 ·rw[hk,BitVec.toNat_and,e1]
  have e2:(BitVec.ofInt IntKind.u64.bits (n:Int)).toNat=n:=by
   rw[BitVec.ofInt_natCast,BitVec.toNat_ofNat]
   exact Nat.mod_eq_of_lt (by show n<2 ^ 64;omega)
  rw[e2,show(4294967295:Nat)=2 ^ 32-1 from rfl,Nat.and_two_pow_sub_one_eq_mod]
  exact Nat.mod_eq_of_lt ag
attribute [local irreducible] J K aE Ends ae az aQ bP bj aT aU bp bW Sha.chunks Sha.chunk Sha.rounds Sha.sched dW cH db Ee
def pW(X:HP)(v:Value)(b:List UInt8)(hb:eM X v b)(hl:b.length≤1000000) :
  aE Tryz.prog 124 [v] [X] (fun r H=>H=[X]∧∃k:Nat,k<4294967296∧r = .tuple #[.int .i64 (k:Int),.bool (pY b).isSome]∧∀m,pY b=some m→k=m):=by
 have htu:=mF X v b hb ag
 obtain⟨a,c,rfl,hc⟩:=hb.2
 refine aE.au Tryz.func124 Tryz.ntmps124 fun G F R hE=>?_
 refine go ?_
 refine aO htu ?_
 unfold pY at hE
 cases hu:cZ b with
 | none =>
  rw[hu]at hE
  simp only
  obtain⟨k,zY,yz,_⟩:=AR 0
  refine go ?_
  ((refine aB 12 ((.int .u64 (k:Int))) rfl ((congrArg (Value.int .u64) (by rw[← zY];unfold Ee;rfl))) ?_))
  refine go ?_
  (refine ad hE Tryz.func124 zr zr ⟨rfl,k,yz,rfl,fun m h=>by cases h⟩)
 | some n =>
  rw[hu]at hE
  simp only[Option.bind_some]at hE ⊢
  obtain⟨k,zY,yz,hk3⟩:=AR n
  refine go ?_
  ((refine aB 12 ((.int .u64 (k:Int))) rfl ((congrArg (Value.int .u64) (by rw[← zY];unfold Ee;rfl))) ?_))
  refine go ?_
  by_cases hn:n≤1048576
  ·rw[if_pos hn]at hE
   refine bu 3 ((.bool true)) rfl ((congrArg Value.bool (decide_eq_true ag))) (go ?_)
   ((refine ad hE Tryz.func124 zr zr ⟨rfl,k,yz,rfl,fun m h=>by injection h with h;rw[← h];exact hk3 hn⟩))
  ·rw[if_neg hn]at hE
   refine bu 3 ((.bool false)) rfl ((congrArg Value.bool (decide_eq_false ag))) (go ?_)
   (refine ad hE Tryz.func124 zr zr ⟨rfl,k,yz,rfl,fun m h=>by cases h⟩)
def uX(X:HP)(v:Value)(b:List UInt8)(hb:eM X v b)(hl:b.length≤1000000) :
  aE Tryz.prog 125 [v] [X] (fun r H=>H=[X]∧r = .tuple #[dV ((gJ b).getD Dg.zero),.bool (gJ b).isSome]):=by
 obtain⟨dM,a,c,rfl,hc⟩:=hb
 refine aE.au Tryz.func125 Tryz.ntmps125 fun G F R hE=>?_
 refine aG rfl ?_
 refine aC zr zr zr bD ?_
 intro b2
 unfold gJ at hE
 refine go ?_
 refine aq zr zr ?_ ?_
 ·intro bZ
  rw[if_neg ag]at hE
  refine go ?_
  refine j0 (U:=aS) zr zr zr zr zr (go ?_)
  (refine bg hE ?_;apply aY (U:=aS) hE Tryz.func125 rfl (ao.refl _);(repeat(first|exact aP.nil|apply aP.tmp rfl|apply aP.agg 0 zr zr zr zr zr));exact⟨rfl,rfl⟩;exact ah)
 ·intro heq
  have Tq:b.length=32:=by omega
  rw[if_pos Tq]at hE
  rw[yV Tq]at dM
  obtain⟨bb,oo,cc,he⟩:=dM.some (by intro h;have:=congrArg List.length h;rw[cT]at this;cases this)
  simp only[Value.slice.injEq,true_and]at he
  obtain⟨rfl,rfl⟩:=he
  refine go ?_
  refine By (U:=aS) zr zr zr zr ag (go ?_)
  refine aK ?_
  refine cR (U:=aS) (es:=dC (tY b)) 1 0 zr zr zr dM rfl (fun j v hj=>by rw[Nat.zero_add];exact hj) zr zr zr ?_
  refine go ?_
  (refine bg hE ?_;apply aY (U:=aS) hE Tryz.func125 rfl (ao.refl _);(repeat(first|exact aP.nil|apply aP.tmp rfl|apply aP.agg 0 zr zr zr zr zr));exact⟨rfl,rfl⟩;exact ah)
def GX{b:List UInt8}(h:pw b=none):iW b=none:=by unfold iW;rw[h]
def DX{b:List UInt8}{xs:List (Int × List UInt8)}(h:pw b=some xs)(hl:xs.length<2):iW b=none:=by
 unfold iW;rw[h]
 match xs,hl with
 | [],_=>rfl
 | [_],_=>rfl
def Kz{b:List UInt8}{n1 n2:Int}{b1 b2:List UInt8}{l:List (Int × List UInt8)}{n:Int}(h:pw b=some ((n1,b1)::(n2,b2)::l))(hn:(((n1,b1)::(n2,b2)::l).getLast?.map (·.1))=some n) :
  iW b=if n=((2+l.length:Nat):Int)∧b1.length=1∧b2.length=32 then some (b1.headD 0,tY b2,l.map (·.2))else none:=by
 unfold iW;rw[h]
 simp only
 rw[hn]
 simp only[Option.some.injEq]
def qv.ofP{X:HP}{a:Option Addr}{c:Nat}{ls:List (List UInt8)}{cs:List Value}(hv:Vw (az 39 1 (.slice a ls.length c) ls.length cs) (.slice a ls.length c) ls.length cs)(hc:ls.length≤c)(hl:cs.length=ls.length)(pE:∀(j:Nat) (z:List UInt8),ls[j]?=some z→∃cv,cs[j]?=some cv∧eM X cv z):qv (Sep [az 39 1 (.slice a ls.length c) ls.length cs,X]) (.slice a ls.length c) ls :=
  ⟨cs,hv.mono (bh (i:=0) rfl),hl,⟨a,c,rfl,hc⟩,fun i x hx=>by
    obtain⟨cv,h1,h2⟩:=pE i x hx
    exact⟨cv,h1,h2.mono (bh (i:=1) rfl)⟩⟩
def E8(l:List It):l.map It.v=l.flatMap fun x=>[x.v]:=by induction l with|nil=>rfl|cons x l ih=>simp[ih]
def KF(X:HP)(v:Value)(b:List UInt8)(hb:eM X v b)(hl:b.length≤1000000) :
  aE Tryz.prog 123 [v] [X] (fun r H=>(iW b=none∧(∃(k:UInt8) (d:Dg) (a:Option Addr) (n c:Nat),r = .tuple #[u8 k,dV d,.slice a n c,.bool false])∧H=[X]) ∨
   ∃k d more mv Z,iW b=some (k,d,more)∧qv Z mv more∧(∀x∈more,x.length≤65536)∧more.length≤65536∧r = .tuple #[u8 k,dV d,mv,.bool true]∧H=[Z,X]):=by
 have Rq:=nq X v b hb ag
 obtain⟨a,c,rfl,hc⟩:=hb.2
 refine aE.au Tryz.func123 Tryz.ntmps123 fun G F R hE=>?_
 refine aG rfl (go ?_)
 refine aC zr zr zr bD ?_
 intro b3
 refine go ?_
 refine aF Rq ?_
 rintro _ _ (⟨hn,rfl,rfl⟩|⟨xs,fM,Z0,rv,hs,pD,⟨dM,vX⟩,rfl,rfl,ra,rc,rfl,OO⟩)
 ·have hd:=GX hn
  refine go ?_
  refine j0 (U:=aS) zr zr zr zr zr (go ?_)
  (refine bg hE ?_;apply aY (U:=aS) hE Tryz.func123 rfl (ao.refl _);(repeat(first|exact aP.nil|apply aP.tmp rfl|apply aP.agg 1 zr zr zr zr zr));exact(.inl ⟨hd,⟨0,Dg.zero,none,0,0,rfl⟩,rfl⟩);exact ah)
 have OD:=tl hs
 have MM:fM.length≤65536:=by
  have h1:xs.length≤65536:=by
   unfold pw at hs
   split at hs
   ·cases hs
   ·split at hs
    ·cases hs
     have:=tk _ b (Nat.le_refl _)
     unfold eW at this;omega
    ·cases hs
  rw[← pD,List.length_map]at h1;exact h1
 by_cases h2:fM.length<2
 ·have hd:=DX hs (by rw[← pD,List.length_map];exact h2)
  refine go ?_
  refine aB 25 ((.bool true)) rfl ((congrArg Value.bool (decide_eq_true ag))) (go ?_)
  refine j0 (U:=aS) zr zr zr zr zr (go ?_)
  (refine bg hE ?_;apply aY (U:=aS) hE Tryz.func123 rfl (ao.refl _);(repeat(first|exact aP.nil|apply aP.tmp rfl|apply aP.agg 2 zr zr zr zr zr));exact(.inl ⟨hd,⟨0,Dg.zero,none,0,0,rfl⟩,rfl⟩);exact ah)
 obtain⟨i1,i2,rest,zZ⟩:∃i1 i2 rest,fM=i1::i2::rest:=by
  match fM,h2 with
  | i1::i2::rest,_=>exact⟨i1,i2,rest,rfl⟩
  | [],h=>exact absurd (by simp) h
  | [_],h=>exact absurd (by simp) h
 have hlen:fM.length=rest.length+2:=by rw[zZ];rfl
 obtain⟨lst,Xt⟩:∃x,fM[rest.length+1]?=some x:=⟨fM[rest.length+1]' ag,by simp⟩
 have lf:((fM.map It.p).getLast?.map (·.1))=some lst.n:=by
  rw[List.getLast?_eq_getElem?,List.length_map,List.getElem?_map,show fM.length-1=rest.length+1 from by omega,Xt]
  rfl
 obtain⟨rb,ro,rcc,he⟩:=dM.some (by rw[zZ];intro h;simp[lT]at h)
 simp only[Value.slice.injEq,true_and]at he
 obtain⟨rfl,rfl⟩:=he
 have z8:fM[0]?=some i1:=by rw[zZ];rfl
 have EK:fM[1]?=some i2:=by rw[zZ];rfl
 have nw:=vX i1 (List.mem_of_getElem? z8)
 have pF:=vX i2 (List.mem_of_getElem? EK)
 have zK:(fM.flatMap lT)[0*2+1]?=some i1.v:=cP js z8 1 ag
 have Qw:(fM.flatMap lT)[1*2+1]?=some i2.v:=cP js EK 1 ag
 have eQ:(fM.flatMap lT)[(rest.length+1)*2+0]?=some (.int .i64 lst.n):=cP js Xt 0 ag
 have Xr:=OD i2.p (by rw[← pD];exact List.mem_map.2 ⟨_,List.mem_of_getElem? EK,rfl⟩)
 obtain⟨n1,v1,b1⟩:=i1
 obtain⟨n2,v2,b2⟩:=i2
 simp only at nw pF zK Qw
 obtain⟨a1,c1,rfl,EW⟩:=nw.2
 obtain⟨a2,c2,rfl,mT⟩:=pF.2
 simp only[It.p]at Xr
 have YG:=Kz (n1:=n1) (b1:=b1) (n2:=n2) (b2:=b2) (l:=rest.map It.p) (n:=lst.n) (by rw[hs,← pD,zZ];rfl) (by rw[zZ]at lf;exact lf)
 rw[List.length_map]at YG
 refine go ?_
 refine aB 25 ((.bool false)) rfl ((congrArg Value.bool (decide_eq_false ag))) (go ?_)
 refine cG (rest.length+1) 2 zr zr zr zr zr zr zr ag ag (go ?_)
 refine aK ?_
 refine aX 0 ((rest.length+1)*2+0) zr zr zr dM (Nat.add_assoc _ _ _) eQ zr zr (go ?_)
 by_cases wu:lst.n=((2+rest.length:Nat):Int)
 case neg =>
  have hd:iW b=none:=by rw[YG,if_neg (fun h=>wu h.1)]
  refine aB 37 ((.bool true)) rfl ((congrArg Value.bool (decide_eq_true ag))) (go ?_)
  refine j0 (U:=aS) zr zr zr zr zr (go ?_)
  (refine bg hE ?_;apply aY (U:=aS) hE Tryz.func123 rfl (ao.refl _);(repeat(first|exact aP.nil|apply aP.tmp rfl|apply aP.agg 2 zr zr zr zr zr));exact(.inl ⟨hd,⟨0,Dg.zero,none,0,0,rfl⟩,rfl⟩);exact ah)
 refine aB 37 ((.bool false)) rfl ((congrArg Value.bool (decide_eq_false ag))) (go ?_)
 refine cG 0 2 zr zr zr zr zr zr zr zr ag (go ?_)
 refine aK ?_
 refine aX 0 (0*2+1) zr zr zr dM (Nat.add_assoc _ _ _) zK zr zr (go ?_)
 by_cases h1l:b1.length=1
 case neg =>
  have hd:iW b=none:=by rw[YG,if_neg (fun h=>h1l h.2.1)]
  refine bu 44 ((.bool true)) rfl ((congrArg Value.bool (decide_eq_true ag))) (go ?_)
  refine j0 (U:=aS) zr zr zr zr zr (go ?_)
  (refine bg hE ?_;apply aY (U:=aS) hE Tryz.func123 rfl (ao.refl _);(repeat(first|exact aP.nil|apply aP.tmp rfl|apply aP.agg 2 zr zr zr zr zr));exact(.inl ⟨hd,⟨0,Dg.zero,none,0,0,rfl⟩,rfl⟩);exact ah)
 obtain⟨kb,rfl⟩:∃k,b1=[k]:=by
  match b1,h1l with
  | [k],_=>exact⟨k,rfl⟩
 refine bu 44 ((.bool false)) rfl ((congrArg Value.bool (decide_eq_false (by simp)))) (go ?_)
 refine cG 1 2 zr zr zr zr zr zr zr zr ag (go ?_)
 refine aK ?_
 refine aX 0 (1*2+1) zr zr zr dM (Nat.add_assoc _ _ _) Qw zr zr (go ?_)
 refine aO (uX Z0 _ b2 pF ag) ?_
 unfold dV
 refine go ?_
 refine aC zr zr zr bD ?_
 intro b8
 refine go ?_
 refine bB (p:=2) (q:=(fM.length:Int)) zr zr zr zr zr zr zr ag ag (.inl rfl) ?_
 ((refine aB 55 ((.slice (sliceAt (some ⟨rb,ro,none⟩) rc 2 2) rest.length (rc-2))) rfl ((by rw[show(fM.length:Int).toNat=rest.length+2 from by omega,show(2:Int).toNat=2 from rfl,show rest.length+2-2=rest.length by omega];rfl)) ?_))
 have Je:=dM.Pw (s:=2) (cu js _) OO 2 ag
 have YW:(fM.flatMap lT).drop (2*2)=rest.flatMap lT:=by rw[zZ];rfl
 rw[YW,show fM.length-2=rest.length from by omega]at Je
 have abp:∀x∈rest,eM Z0 x.v x.b:=fun x hx=>vX x (by rw[zZ];simp[hx])
 have hxr:∀x∈rest,x.b.length≤65536:=fun x hx=>OD x.p (by rw[← pD,zZ];simp;right;right;exact⟨x,hx,rfl⟩)
 clear Qw eQ Xt lf z8 EK hs pD vX OD zZ
 refine go ?_
 refine ai (bO 39 1 none _) ?_
 obtain⟨dh,hdh⟩:∃d,d=(gJ b2).getD Dg.zero:=⟨_,rfl⟩
 rw[← hdh]
 refine bz (fun y:Nat × Option Addr × Nat=>y.1≤rest.length) (fun y=>rest.length-y.1)
  (fun y=>[(3,ptr b3),(6,.slice (some ⟨rb,ro,none⟩) fM.length rc),(8,ptr b8),(9,.bool (gJ b2).isSome),(10,.slice y.2.1 y.1 y.2.2),(55,.slice (sliceAt (some ⟨rb,ro,none⟩) rc 2 2) rest.length (rc-2)),(56,.int .i64 (rest.length:Int)),(57,.int .i64 (y.1:Int))])
  (fun y=>az 39 1 (.slice y.2.1 y.1 y.2.2) y.1 ((rest.take y.1).flatMap fun x=>[x.v])::Z0::X::ae b3 (cl (dC Dg.zero) 36)::ae b8 (cl (dC dh) 36)::F) (0,none,0) (Nat.zero_le _) rfl cm ah ?_
 rintro⟨j,ma,mc⟩ hj ih
 simp only at hj
 dsimp only
 refine go ?_
 refine aq zr zr ?_ ?_
 ·intro cW
  have nF:j<rest.length:=by omega
  obtain⟨it,Ll⟩:∃x,rest[j]?=some x:=⟨rest[j],by simp⟩
  have Lr:=abp it (List.mem_of_getElem? Ll)
  obtain⟨xn,xv,xb⟩:=it
  simp only at Lr
  obtain⟨va,vc,rfl,_⟩:=Lr.2
  have SW:sliceAt (some ⟨rb,ro,none⟩) rc 2 2=some ⟨rb,ro+4,none⟩:=by
   unfold sliceAt
   rw[if_neg ag]
   rfl
  rw[SW]at Je
  refine bu 55 (.slice (some ⟨rb,ro+4,none⟩) rest.length (rc-2)) rfl (by rw[SW]) (go ?_)
  refine cG j 2 zr zr zr zr zr zr zr zr nF ?_
  refine aK ?_
  refine cR (U:=aS) (es:=lT ⟨xn,.slice va xb.length vc,xb⟩) 1 (j*2) zr zr zr Je rfl (fun q v hq=>?_) zr zr zr ?_
  ·rw[cP js Ll q (by rcases Nat.lt_or_ge q 2 with h|h;exact h;rw[List.getElem?_eq_none (by rw[js];exact h)]at hq;cases hq)];exact hq
  refine aC zr zr zr bD ?_
  intro b12
  refine go ?_
  refine aj (cs:=[.slice va xb.length vc]) zr zr zr zr zr zr zr zr zr bD ?_
  intro row
  refine go ?_
  have j8:(rest.take (j+1)).flatMap (fun x=>[x.v])=(rest.take j).flatMap (fun x=>[x.v])++[.slice va xb.length vc]:=by rw[List.take_add_one,Ll];simp
  refine aR (mm:=1) (news:=[.slice va xb.length vc]) 2 0 rfl rfl rfl rfl rfl rfl rfl rfl rfl rfl rfl rfl (Vw.ae rfl) rfl (by intro v hv;simp at hv;rw[hv];rfl) ag (by show(_+_)*24≤_;omega) (fun _=>rfl) bD ?_
  intro v1
  rw[← j8]
  refine aN 2 rfl ?_
  rintro ja jc rfl
  refine go ?_
  refine bu 55 ((.slice (sliceAt (some ⟨rb,ro,none⟩) rc 2 2) rest.length (rc-2))) rfl ((by rw[SW])) ?_
  refine aM ih (j+1,ja,jc) rfl (by simp only;omega) (by simp only;omega) cm ah
 ·intro fg
  have Lj:j=rest.length:=by omega
  subst Lj
  rw[List.take_length]
  clear ih
  obtain⟨bb1,oo1,cc1,Lo⟩:=nw.1.some (by simp[bV])
  simp only[Value.slice.injEq,true_and]at Lo
  obtain⟨rfl,rfl⟩:=Lo
  have lz:Vw Z0 (.slice (some ⟨bb1,oo1,none⟩) 1 c1) 1 (bV [kb]):=nw.1
  have AY:(rest.map It.b).length=rest.length:=List.length_map ..
  refine mJ 0 rfl ?_
  intro jx
  refine cV 0 rfl ?_
  intro OF
  have mW:qv (Sep [az 39 1 (.slice ma rest.length mc) rest.length (rest.flatMap fun x=>[x.v]),Z0]) (.slice ma rest.length mc) (rest.map It.b):=by
   rw[← AY]at OF jx ⊢
   refine qv.ofP OF jx (by rw[← E8];simp) (fun i z hz=>?_)
   rw[List.getElem?_map]at hz
   cases hx:rest[i]? with
   | none=>rw[hx]at hz;cases hz
   | some y =>
    rw[hx]at hz
    injection hz with hz
    subst hz
    exact⟨y.v,by rw[← E8,List.getElem?_map,hx];rfl,abp y (List.mem_of_getElem? hx)⟩
  have hmb:(rest.map It.p).map (·.2)=rest.map It.b:=by rw[List.map_map];rfl
  rw[hmb]at YG
  have hdd:∀d,gJ b2=some d→iW b=some (kb,d,rest.map It.b):=fun d hd=>by
   unfold gJ at hd
   split at hd
   ·rename_i Tq
    injection hd with hd
    rw[YG,if_pos ⟨wu,rfl,Tq⟩,hd]
    rfl
   ·cases hd
  have yG:gJ b2=none→iW b=none:=fun hd=>by
   unfold gJ at hd
   split at hd
   ·cases hd
   ·rename_i Tq
    rw[YG,if_neg (fun h=>Tq h.2.2)]
  refine go ?_
  refine aH (fun w=>Sat G w ([Z0,ae b8 (cl (dC dh) 36)])) (df 0 10 (.act 10 (.st 11 (.st 12 .nil)))) rfl ak ak ak eo ?_
  refine go ?_
  refine cG 0 2 zr zr zr zr zr zr zr zr ag (go ?_)
  refine aK ?_
  refine bX 0 (0*2+1) zr zr zr dM (Nat.add_assoc _ _ _) zK zr zr (go ?_)
  refine bI 0 zr zr zr zr zr zr zr zr (by simp) (go ?_)
  refine aK ?_
  refine bX 0 0 zr zr zr lz zr zr zr zr (go ?_)
  refine bY (U:=aS) (l:=dC dh) 1 zr zr zr zr zr zr (go ?_)
  refine aV ?_
  refine cK (U:=aS) (l':=dC dh) 3 eo rfl rfl rfl rfl (by intro e;cases e) (by rw[dz];exact jH _) rfl rfl rfl ?_
  refine go ?_
  refine ai (H':=Sep [az 39 1 (.slice ma rest.length mc) rest.length (rest.flatMap fun x=>[x.v]),Z0]::X::ae b3 (cl (dC dh) 36)::ae b8 (cl (dC dh) 36)::F) (ao.trans ah (ao.bS [az 39 1 (.slice ma rest.length mc) rest.length (rest.flatMap fun x=>[x.v]),Z0] _)) ?_
  cases YS:gJ b2 with
  | none =>
   simp only[Option.isSome_none]
   (refine bg hE ?_;apply aY (U:=aS) hE Tryz.func123 rfl (ao.refl _);(repeat(first|exact aP.nil|apply aP.tmp rfl|apply aP.agg 2 zr zr zr zr zr));exact(.inl ⟨yG YS,⟨kb,dh,_,_,_,rfl⟩,rfl⟩);exact ah)
  | some d =>
   rw[YS]at hdh
   simp only[Option.getD_some]at hdh
   subst hdh
   simp only[Option.isSome_some]
   (refine bg hE ?_;apply aY (U:=aS) hE Tryz.func123 rfl (ao.refl _);(repeat(first|exact aP.nil|apply aP.tmp rfl|apply aP.agg 2 rfl rfl rfl rfl rfl));exact(.inr ⟨kb,dh,_,_,_,hdd dh YS,mW,(fun x hx=>by obtain⟨y,hy,rfl⟩:=List.mem_map.1 hx;exact hxr y hy),ag,rfl,rfl⟩);exact ah)
end Go.Proofs.YtdigdgohdpeebaaGreatDoor
namespace Go.Proofs.YtdigdgohdpeebaaGreatDoor
open Go Go.SL
def Ix(X:HP)(v:Value)(l:List Dg):Prop:=Vw X v l.length (l.flatMap dC)∧∃a c,v = .slice a l.length c∧l.length≤c
def Ix.mono{A B:HP}{v:Value}{l:List Dg}(h:Ix A v l)(X0:∀h,B h→∃h',sub h' h∧A h'):Ix B v l:=⟨h.1.mono X0,h.2⟩
def xI(n i:Nat):Int:=match fT n i with
 | some s=>(s:Int)
 | none => -1
def MZ(n:Nat):n ^^^ 1=if n%2=1 then n-1 else n+1:=by
 have h1:=Nat.xor_div_two (a:=n) (b:=1)
 have h2:(n ^^^ 1)%2=(n+1)%2:=by
  rcases Nat.mod_two_eq_zero_or_one n with h|h
  ·have:=(Nat.xor_mod_two_eq_one (a:=n) (b:=1)).2 (by simp[h])
   omega
  ·have:=(Nat.xor_mod_two_eq_one (a:=n) (b:=1))
   have h3:¬(n ^^^ 1)%2=1:=fun e=>by have:=this.1 e;simp[h]at this
   omega
 simp only[show(1:Nat)/2=0 from rfl,Nat.xor_zero]at h1
 split <;> omega
def M0(n:Nat)(h:n<1000000000):IntKind.i64.wrap ((BitVec.ofInt IntKind.i64.bits (n:Int) ^^^ BitVec.ofInt IntKind.i64.bits 1).toNat:Int)=((if n%2=1 then n-1 else n+1:Nat):Int):=by
 have e1:(BitVec.ofInt IntKind.i64.bits (1:Int)).toNat=1:=by decide
 rw[BitVec.toNat_xor,wJ ag,e1,MZ]
 exact cQ (by simp only[gn];split <;> omega)
def bK:Nat→Nat→Nat→List (Nat × Nat)
 | 0,_,_=>[]
 | f+1,n,i=>if n≤1 then []else(n,i)::bK f ((n+1)/2) (i/2)
def tz:∀(f g n i:Nat),n≤f→n≤g→bK f n i=bK g n i
 | 0,0,_,_,_,_=>rfl
 | 0,g+1,n,i,hf,_=>by
  obtain rfl:n=0:=by omega
  rfl
 | f+1,0,n,i,_,hg=>by
  obtain rfl:n=0:=by omega
  rfl
 | f+1,g+1,n,i,hf,hg=>by
  unfold bK
  split
  ·rfl
  ·rw[tz f g ((n+1)/2) (i/2) ag ag]
def B7(f n i:Nat)(hf:n≤f)(hn:1<n):bK f n i=(n,i)::bK f ((n+1)/2) (i/2):=by
 rw[tz f (f+1) n i hf ag]
 conv=>lhs;unfold bK
 rw[if_neg ag]
def D3(f n i:Nat)(hn:n≤1):bK f n i=[]:=by
 cases f with
 | zero=>rfl
 | succ f=>unfold bK;rw[if_pos hn]
def sw:∀(f n i:Nat),i<n→∀p∈bK f n i,p.2<p.1∧p.1≤n
 | 0,_,_,_,p,h=>by cases h
 | f+1,n,i,hi,p,h=>by
  unfold bK at h
  split at h
  ·cases h
  ·rcases List.mem_cons.1 h with rfl|h
   ·exact⟨hi,Nat.le_refl _⟩
   ·obtain⟨h1,h2⟩:=sw f ((n+1)/2) (i/2) ag p h
    exact⟨h1,ag⟩
def nA(l:List (Nat × Nat)):Nat:=(l.filter fun p=>(fT p.1 p.2).isSome).length
def Fj(l:List (Nat × Nat))(p:Nat × Nat):nA (l++[p])=nA l+if(fT p.1 p.2).isSome then 1 else 0:=by
 unfold nA
 rw[List.filter_append,List.length_append]
 congr 1
 cases h:(fT p.1 p.2).isSome <;> simp[h]
def vh:∀(f n i:Nat),nz f n i=nA (bK f n i)
 | 0,_,_=>rfl
 | f+1,n,i=>by
  unfold nz bK
  split
  ·rfl
  ·rw[vh f]
   unfold nA
   rw[List.filter_cons]
   cases h:(fT n i).isSome <;> simp[h] <;> omega
def xF(z:Dg × List Dg)(p:Nat × Nat):Dg × List Dg:=match fT p.1 p.2 with
 | none=>z
 | some s=>(if s<p.2 then iv (z.2.headD Dg.zero) z.1 else iv z.1 (z.2.headD Dg.zero),z.2.tail)
def qs(l:List (Nat × Nat))(z:Dg × List Dg):Dg × List Dg:=l.foldl xF z
def Pz(l:List (Nat × Nat))(p:Nat × Nat)(z:Dg × List Dg):qs (l++[p]) z=xF (qs l z) p:=by unfold qs;rw[List.foldl_append];rfl
def vl:∀(f n i:Nat) (x:Dg) (p:List Dg),zb f n i x p=(qs (bK f n i) (x,p)).1
 | 0,_,_,_,_=>rfl
 | f+1,n,i,x,p=>by
  unfold zb bK
  split
  ·rfl
  ·unfold qs
   rw[List.foldl_cons]
   unfold xF
   cases h:fT n i with
   | none=>simp only;exact vl f _ _ _ _
   | some s=>simp only;exact vl f _ _ _ _
def Fk:∀(l:List (Nat × Nat)) (z:Dg × List Dg),(qs l z).2.length=z.2.length-nA l
 | [],z=>rfl
 | p::l,z=>by
  have:=Fk l (xF z p)
  unfold qs at this ⊢
  rw[List.foldl_cons,this]
  unfold xF nA
  rw[List.filter_cons]
  cases h:fT p.1 p.2 with
  | none=>simp
  | some s=>simp only[Option.isSome_some,if_true,List.length_tail,List.length_cons];omega
def JI(l:List (Nat × Nat))(j:Nat):nA (l.take j)≤nA l:=by
 conv=>rhs;rw[← List.take_append_drop j l]
 unfold nA
 rw[List.filter_append,List.length_append]
 omega
attribute [local irreducible] J K aE Ends ae az aQ bP bj aT aU bp bW Sha.chunks Sha.chunk Sha.rounds Sha.sched dW cH db iv
def l9(n i:Int):Bool:=decide (1≤n∧n≤1024∧0≤i∧i<n)
def ye(n i:Int):aE Tryz.prog 145 [.int .i64 n,.int .i64 i] [] (fun r H=>r = .bool (l9 n i)∧H=[]):=by
 have hF:(¬(1≤n∧n≤1024∧0≤i))→Value.bool false = .bool (l9 n i):=fun h=>by unfold l9;rw[decide_eq_false ag]
 have hT:(1≤n∧n≤1024∧0≤i)→Value.bool (decide (i<n)) = .bool (l9 n i):=fun h=>by unfold l9;exact congrArg Value.bool (decide_eq_decide.2 ag)
 refine aE.au Tryz.func145 Tryz.ntmps145 fun G F R hE=>?_
 repeat'(first|(with_reducible intro pH)|refine gO ?_|refine iy zr zr zr zr ?_ ?_|fail)
 all_goals(first|((refine ad hE Tryz.func145 zr zr ⟨hF ag,rfl⟩))|((refine ad hE Tryz.func145 zr zr ⟨hT ag,rfl⟩)))
def zh(n i:Nat)(hi:i<n)(hn:n≤1000000):aE Tryz.prog 148 [.int .i64 (n:Int),.int .i64 (i:Int)] [] (fun r H=>r = .int .i64 (xI n i)∧H=[]):=by
 refine aE.au Tryz.func148 Tryz.ntmps148 fun G F R hE=>?_
 have hx:=M0 i ag
 refine go ?_
 refine aq zr zr ?_ ?_
 ·intro cW
  rw[hx]at cW
  have hs:xI n i=((if i%2=1 then i-1 else i+1:Nat):Int):=by
   unfold xI fT
   by_cases h:i%2=1
   ·rw[if_pos h,if_pos h]
   ·rw[if_neg h,if_neg h,if_pos (by rw[if_neg h]at cW;omega)]
  refine go ?_
  refine ad hE Tryz.func148 zr zr ⟨congrArg (Value.int .i64) (hx.trans hs.symm),rfl⟩
 ·intro fg
  rw[hx]at fg
  have hs:xI n i = -1:=by
   unfold xI fT
   by_cases h:i%2=1
   ·rw[if_pos h]at fg;exfalso;omega
   ·rw[if_neg h,if_neg (by rw[if_neg h]at fg;omega)]
  refine go ?_
  refine ad hE Tryz.func148 zr zr ⟨congrArg (Value.int .i64) hs.symm,rfl⟩
def xY(n i:Int):aE Tryz.prog 147 [.int .i64 n,.int .i64 i] [] (fun r H=>∃b1 b2,r = .func (.func 198) #[] #[ptr b1,ptr b2]∧H=[ae b1 (cl [.int .i64 n] 3),ae b2 (cl [.int .i64 i] 3)]):=by
 refine aE.au Tryz.func147 Tryz.ntmps147 fun G F R hE=>?_
 refine aG rfl ?_
 refine bG zr zr bD ?_
 intro b1
 refine bG zr zr bD ?_
 intro b2
 refine go ?_
 refine ad hE Tryz.func147 zr zr ⟨b1,b2,rfl,rfl⟩
def vL(b1 b2 n i:Nat)(hn:n≤1000000)(hi:i≤1000000)(l:Nat)(Lp:HP)(Inv:Nat→HP)(hy:∀j p,(bK n n i)[j]?=some p→bW Tryz.prog l [.int .i64 (p.1:Int),.int .i64 (p.2:Int)] [Lp,Inv j] (fun v H=>v = .bool true∧H=[Lp,Inv (j+1)])) :
  aE Tryz.prog 198 [.func (.yield l) #[] #[],ptr b1,ptr b2] [Lp,Inv 0,ae b1 (cl [.int .i64 (n:Int)] 3),ae b2 (cl [.int .i64 (i:Int)] 3)] (fun _ H=>H=[Lp,Inv (bK n n i).length]):=by
 refine aE.au Tryz.func198 Tryz.ntmps198 fun G F R hE=>?_
 refine bz (fun y:Nat × Nat × Nat=>y.1≤n∧y.2.1≤i∧(bK n n i).drop y.2.2=bK n y.1 y.2.1∧y.2.2≤(bK n n i).length) (fun y=>y.1)
  (fun _=>[(0,.func (.yield l) #[] #[]),(1,ptr b1),(2,ptr b2)])
  (fun y=>Lp::Inv y.2.2::ae b1 (cl [.int .i64 (y.1:Int)] 3)::ae b2 (cl [.int .i64 (y.2.1:Int)] 3)::F) (n,i,0) ⟨Nat.le_refl _,Nat.le_refl _,rfl,Nat.zero_le _⟩ rfl cm ah ?_
 rintro⟨m,k,j⟩⟨hm,hk,hd,hj⟩ ih
 simp only at hm hk hd hj
 dsimp only
 refine go ?_
 refine aq zr zr ?_ ?_
 ·intro QC
  have z7:1<m:=by omega
  rw[B7 n m k hm z7]at hd
  have hx:(bK n n i)[j]?=some (m,k):=by
   have:=congrArg (fun l=>l[0]?) hd
   simpa using this
  have uG:=(List.getElem?_eq_some_iff.1 hx).1
  have O':(bK n n i).drop (j+1)=bK n ((m+1)/2) (k/2):=by
   have:=congrArg (fun l=>l.drop 1) hd
   simpa[List.drop_drop]using this
  refine go ?_
  refine kT zr zr zr (hy j (m,k) hx) ah ?_ mO
  rintro _ _⟨rfl,rfl⟩
  refine go ?_
  refine ai (H':=ae b1 (cl [.int .i64 (m:Int)] 3)::ae b2 (cl [.int .i64 (k:Int)] 3)::Lp::Inv (j+1)::F) ah ?_
  refine aH (fun w=>Sat G w ([])) (.fork (.act 0 (.st 1 (.st 2 (.fork (.act 3 (.st 4 (.act 5 (.act 6 .nil)))) (.act 5 (.act 3 (.st 4 (.act 6 .nil)))))))) (.act 3 (.st 4 (.act 0 (.st 1 (.st 2 (.act 5 (.act 6 .nil)))))))) rfl ak ak ak eo ?_
  repeat'(first|refine gO ?_|refine qE ?_ ?_|(refine lQ ?_;refine jo zr zr zr ag ?_;first|(refine aB 8 (.int .i64 (((m+1)/2:Nat):Int)) rfl (congrArg (Value.int .i64) (by show((m:Int)+1)/2 ^ 1=_;omega)) ?_)|(refine aB 10 (.int .i64 ((k/2:Nat):Int)) rfl (congrArg (Value.int .i64) (by show(k:Int)/2 ^ 1=_;omega)) ?_))|(refine aV ?_;(refine cp 0 eo zr zr zr zr zr zr zr zr zr ?_)))
  all_goals(
   refine aM ih ((m+1)/2,k/2,j+1) rfl ⟨by simp only;omega,by simp only;omega,O',by simp only;omega⟩ (by simp only;omega) cm ah)
 ·intro fg
  have hz:bK n m k=[]:=D3 n m k ag
  rw[hz]at hd
  have Lj:j=(bK n n i).length:=by
   have:=congrArg List.length hd
   rw[List.length_drop,List.length_nil]at this
   omega
  subst Lj
  refine go ?_
  refine bU hE Tryz.func198 rfl _ zr zr ah
def BA(n i:Int):aE Tryz.prog 146 [.int .i64 n,.int .i64 i] [] (fun r H=>r = .int .i64 (eX n i:Int)∧H=[]):=by
 refine aE.au Tryz.func146 Tryz.ntmps146 fun G F R hE=>?_
 refine go ?_
 refine aC zr zr zr bD ?_
 intro b5
 refine go ?_
 refine aO (ye n i) ?_
 cases hr:l9 n i with
 | false =>
  have hd:eX n i=0:=by
   unfold eX
   rw[if_neg (by unfold l9 at hr;simpa using hr)]
  rw[hd]at hE
  refine go ?_
  refine ad hE Tryz.func146 zr zr ⟨rfl,rfl⟩
 | true =>
  have Hr:1≤n∧n≤1024∧0≤i∧i<n:=by unfold l9 at hr;simpa using hr
  obtain⟨m,rfl⟩:∃m:Nat,n=m:=⟨n.toNat,ag⟩
  obtain⟨k,rfl⟩:∃m:Nat,i=m:=⟨i.toNat,ag⟩
  have hd:eX (m:Int) (k:Int)=nA (bK m m k):=by
   unfold eX
   rw[if_pos Hr]
   simp only[Int.toNat_natCast]
   exact vh m m k
  have qY:=sw m m k ag
  have Gm:=rh (m:Int) (k:Int)
  rw[hd]at hE Gm
  refine go ?_
  refine aF (xY (m:Int) (k:Int)) ?_
  rintro _ _⟨b1,b2,rfl,rfl⟩
  refine go ?_
  refine iN rfl ?_
  have Aa:nA ((bK m m k).take 0)=0:=rfl
  refine ai (H':=ae b5 (cl [.int .i64 (nA ((bK m m k).take 0):Int)] 3)::ae b1 (cl [.int .i64 (m:Int)] 3)::ae b2 (cl [.int .i64 (k:Int)] 3)::F) (by rw[Aa];exact ah) ?_
  refine qy (Fr:=F) (Pre:=fun _ _=>[ae b5 (cl [.int .i64 (nA ((bK m m k).take 0):Int)] 3),ae b1 (cl [.int .i64 (m:Int)] 3),ae b2 (cl [.int .i64 (k:Int)] 3)]) (fun _ _ Lp v H=>H=[Lp .ready none,ae b5 (cl [.int .i64 (nA ((bK m m k).take (bK m m k).length):Int)] 3)]) rfl hE.1.1 rfl ?c (fun l r=>ah) ?gP
  case c =>
   intro l r
   refine vL b1 b2 m k ag ag l _ (fun j=>ae b5 (cl [.int .i64 (nA ((bK m m k).take j):Int)] 3)) ?_
   rintro j⟨p,q⟩ hp
   obtain⟨h1,h2⟩:=qY _ (List.mem_of_getElem? hp)
   have j8:(bK m m k).take (j+1)=(bK m m k).take j++[(p,q)]:=by rw[List.take_add_one,hp];rfl
   have QE:nA ((bK m m k).take (j+1))=nA ((bK m m k).take j)+if(fT p q).isSome then 1 else 0:=by rw[j8,Fj]
   have lH:=JI (bK m m k) j
   simp only at h1 h2
   refine bW.Ea zr zr ?_
   intro G2 F2 R2 hY
   refine go ?_
   refine gl rfl hY (go ?_)
   refine aO (zh p q h1 ag) ?_
   unfold xI
   cases hs:fT p q with
   | none =>
    rw[hs]at QE
    simp only[Option.isSome_none,Bool.false_eq_true,if_false,Nat.add_zero]at QE
    rw[QE]at hY
    simp only
    refine go ?_
    refine fK hY rfl ah ⟨rfl,rfl⟩
   | some s =>
    rw[hs]at QE
    simp only[Option.isSome_some,if_true]at QE
    rw[QE]at hY
    simp only
    refine go ?_
    refine fK hY rfl ah ⟨rfl,rfl⟩
  rintro l r v H' rfl
  refine⟨_,_,_,rfl,by decide,?_⟩
  rw[hE.1.2,List.take_length]
  refine go ?_
  (apply aY (U:=aS) hE Tryz.func146 rfl ah;(repeat(first|exact aP.nil|apply aP.tmp rfl));exact⟨rfl,rfl⟩;exact ah)
end Go.Proofs.YtdigdgohdpeebaaGreatDoor
namespace Go.Proofs.YtdigdgohdpeebaaGreatDoor
open Go Go.SL
def YA(b8 b9:Nat)(X:HP)(z:Dg × List Dg):HP:=fun h=>∃v:Value,Ix X v z.2∧Sep [ae b8 (cl (dC z.1) 36),ae b9 (cl [v] 40),X] h
def F9(b8 b9:Nat)(X:HP)(z:Dg × List Dg):∀h,YA b8 b9 X z h→∃v:Value,Ix X v z.2∧Sep [ae b8 (cl (dC z.1) 36),ae b9 (cl [v] 40),X] h:=fun h hs=>hs
def C7{b8 b9:Nat}{X:HP}{z:Dg × List Dg}{v:Value}(hv:Ix X v z.2)(H:List HP):ao (ae b8 (cl (dC z.1) 36)::ae b9 (cl [v] 40)::X::H) (YA b8 b9 X z::H) :=
 ao.fold (A:=YA b8 b9 X z) (B:=[ae b8 (cl (dC z.1) 36),ae b9 (cl [v] 40),X]) fun h hs=>⟨h,sub.refl h,v,hv,hs⟩
def Ix.tail{X:HP}{a:Option Addr}{c:Nat}{x:Dg}{l:List Dg}(h:Ix X (.slice a (x::l).length c) (x::l)):Ix X (.slice (sliceAt a c 1 32) l.length (c-1)) l:=by
 obtain⟨hv,a',c',he,hc⟩:=h
 simp only[Value.slice.injEq,true_and]at he
 obtain⟨rfl,rfl⟩:=he
 have:=hv.Pw (s:=32) (cu cT _) hc 1 (by simp)
 rw[List.length_cons,Nat.add_sub_cancel,List.flatMap_cons,show 1*32=(dC x).length from by rw[cT],List.drop_left]at this
 exact⟨this,_,_,rfl,by simp only[List.length_cons]at hc;omega⟩
attribute [local irreducible] J K aE Ends ae az aQ bP bj aT aU bp bW Sha.chunks Sha.chunk Sha.rounds Sha.sched dW cH db iv YA
def MD(X:HP)(hK:oD X)(root leaf:Dg)(n i:Int)(pv:Value)(proof:List Dg)(hp:Ix X pv proof) :
  aE Tryz.prog 88 [dV root,.int .i64 n,.int .i64 i,dV leaf,pv] [X] (fun r H=>r = .bool (kG root n i leaf proof)∧H=[X]):=by
 have Jl:=hp
 obtain⟨hv,a,c,rfl,hc⟩:=hp
 unfold dV
 refine aE.au Tryz.func88 Tryz.ntmps88 fun G F R hE=>?_
 refine aG rfl ?_
 refine bG zr zr bD ?_
 intro b5
 refine bG zr zr bD ?_
 intro b8
 refine bG zr zr bD ?_
 intro b9
 refine go ?_
 refine aH (fun w=>Sat G w ([ae b9 (cl [.slice a proof.length c] 40)])) (.st 0 (.st 1 (.act 2 (df 3 6 (.act 9 (.st 10 (.st 11 .nil))))))) rfl ak ak ak eo ?_
 refine go ?_
 refine bC (ye n i) ?_
 cases hr:l9 n i with
 | false =>
  have hcf:kG root n i leaf proof=false:=by
   unfold kG
   exact decide_eq_false fun h=>by unfold l9 at hr;rw[decide_eq_true h.1]at hr;cases hr
  rw[hcf]at hE
  refine go ?_
  (refine bg hE ?_;apply aY (U:=aS) hE Tryz.func88 rfl (ao.refl _);(repeat(first|exact aP.nil|apply aP.tmp rfl));exact⟨rfl,rfl⟩;exact ah)
 | true =>
  have Hr:1≤n∧n≤1024∧0≤i∧i<n:=by unfold l9 at hr;simpa using hr
  refine go ?_
  refine bC (BA n i) ?_
  refine go ?_
  refine fQ zr zr ?_ ?_
  ·intro bZ
   have fR:proof.length≠eX n i:=by
    intro e
    rw[e]at bZ
    simp at bZ
   have hcf:kG root n i leaf proof=false:=by
    unfold kG
    exact decide_eq_false fun h=>fR h.2.1
   rw[hcf]at hE
   refine go ?_
   (refine bg hE ?_;apply aY (U:=aS) hE Tryz.func88 rfl (ao.refl _);(repeat(first|exact aP.nil|apply aP.tmp rfl));exact⟨rfl,rfl⟩;exact ah)
  intro heq
  have o4:proof.length=eX n i:=by
   by_cases h:(proof.length:Int)=(eX n i:Int)
   ·omega
   ·simp[h]at heq
  obtain⟨m,rfl⟩:∃m:Nat,n=m:=⟨n.toNat,ag⟩
  obtain⟨k,rfl⟩:∃m:Nat,i=m:=⟨i.toNat,ag⟩
  have hd:eX (m:Int) (k:Int)=nA (bK m m k):=by
   unfold eX
   rw[if_pos Hr]
   simp only[Int.toNat_natCast]
   exact vh m m k
  have qY:=sw m m k ag
  have hck:kG root (m:Int) (k:Int) leaf proof=decide ((qs (bK m m k) (leaf,proof)).1=root):=by
   unfold kG
   rw[decide_eq_decide]
   simp only[Int.toNat_natCast,vl]
   exact⟨fun h=>h.2.2,fun h=>⟨Hr,o4,h⟩⟩
  rw[hck]at hE
  refine go ?_
  refine aF (xY (m:Int) (k:Int)) ?_
  rintro _ _⟨b1,b2,rfl,rfl⟩
  refine go ?_
  refine iN rfl ?_
  refine ai (H':=ae b8 (cl (dC leaf) 36)::ae b9 (cl [.slice a proof.length c] 40)::X::ae b1 (cl [.int .i64 (m:Int)] 3)::ae b2 (cl [.int .i64 (k:Int)] 3)::ae b5 (cl (dC root) 36)::F) ah ?_
  refine ai (C7 (z:=qs ((bK m m k).take 0) (leaf,proof)) Jl _) ?_
  refine qy (Fr:=ae b5 (cl (dC root) 36)::F) (Pre:=fun _ _=>[YA b8 b9 X (qs ((bK m m k).take 0) (leaf,proof)),ae b1 (cl [.int .i64 (m:Int)] 3),ae b2 (cl [.int .i64 (k:Int)] 3)]) (fun _ _ Lp v H=>H=[Lp .ready none,YA b8 b9 X (qs ((bK m m k).take (bK m m k).length) (leaf,proof))]) rfl hE.1.1 rfl ?c (fun l r=>ah) ?gP
  case c =>
   intro l r
   refine vL b1 b2 m k ag ag l _ (fun j=>YA b8 b9 X (qs ((bK m m k).take j) (leaf,proof))) ?_
   rintro j⟨p,q⟩ ED
   obtain⟨h1,h2⟩:=qY _ (List.mem_of_getElem? ED)
   have j8:(bK m m k).take (j+1)=(bK m m k).take j++[(p,q)]:=by rw[List.take_add_one,ED];rfl
   have Lq:qs ((bK m m k).take (j+1)) (leaf,proof)=xF (qs ((bK m m k).take j) (leaf,proof)) (p,q):=by rw[j8,Pz]
   have OC:=Fk ((bK m m k).take j) (leaf,proof)
   have QE:nA ((bK m m k).take (j+1))=nA ((bK m m k).take j)+if(fT p q).isSome then 1 else 0:=by rw[j8,Fj]
   have lH:=JI (bK m m k) (j+1)
   simp only at h1 h2 OC
   rw[Lq]
   obtain⟨z,hz⟩:∃z,z=qs ((bK m m k).take j) (leaf,proof):=⟨_,rfl⟩
   rw[← hz]at OC ⊢
   clear Lq hz
   refine bW.Ea zr zr ?_
   intro G F2 R2 hY
   unfold xF at hY
   obtain⟨x,prf⟩:=z
   refine go ?_
   refine gl rfl hY ?_
   refine ai (ao.pick [1] rfl) ?_
   refine er (F9 b8 b9 X (x,prf)) ?_
   rintro v hdv
   simp only at hdv
   refine go ?_
   refine aO (zh p q h1 ag) ?_
   unfold xI
   cases hs:fT p q with
   | none =>
    rw[hs]at QE hY
    simp only at hY ⊢
    refine go ?_
    refine ai (C7 (z:=(x,prf)) hdv _) ?_
    refine fK hY rfl ah ⟨rfl,rfl⟩
   | some s =>
    rw[hs]at QE hY
    simp only[Option.isSome_some,if_true]at QE
    simp only at hY ⊢
    simp only at OC
    obtain⟨p0,rest,rfl⟩:∃p0 rest,prf=p0::rest:=by
     cases prf with
     | nil=>rw[List.length_nil]at OC;exfalso;omega
     | cons p0 rest=>exact⟨p0,rest,rfl⟩
    simp only[List.headD_cons,List.tail_cons]at hY
    obtain⟨dM,a1,c1,rfl,EW⟩:=hdv
    obtain⟨bb,oo,cc,he⟩:=dM.some (by rw[List.flatMap_cons];intro h;simp[dC]at h)
    simp only[Value.slice.injEq,true_and]at he
    obtain⟨rfl,rfl⟩:=he
    have tJ:=Ix.tail ⟨dM,_,_,rfl,EW⟩
    have fg:∀(q':Nat) (v:Value),(dC p0)[q']?=some v→((p0::rest).flatMap dC)[0+q']?=some v:=fun q' v hq=>by
     rw[Nat.zero_add,List.flatMap_cons,List.getElem?_append_left (List.getElem?_eq_some_iff.1 hq).1];exact hq
    have sC:s≠q:=(BN h1 hs).2.2
    refine go ?_
    refine aq zr zr ?_ ?_
    ·intro cW
     have tL:s<q:=by omega
     rw[if_pos tL]at hY
     refine go ?_
     refine aH (fun w=>Sat G w ([ae b8 (cl (dC x) 36),ae b9 (cl [.slice (some ⟨bb,oo,none⟩) (p0::rest).length c1] 40),X])) (df 0 4 (.act 4 (.act 5 .nil))) rfl ak ak ak eo ?_
     (repeat(first|refine gO ?_|refine cG 0 32 zr zr zr zr zr zr zr zr (by simp) ?_|refine bY (U:=aS) (l:=dC x) 0 zr zr zr zr zr zr ?_|(refine aK ?_;refine gW (U:=aS) (es:=dC p0) 2 0 zr zr zr dM rfl fg zr zr zr ?_)))
     refine bC (zu X hK p0 x) ?_
     refine aV ?_
     refine cK (U:=aS) (l':=dC (iv p0 x)) 1 gB rfl rfl rfl rfl (by intro e;cases e) (by rw[dz];exact jH _) rfl rfl rfl ?_
     refine go ?_
     refine bB (p:=1) (q:=((p0::rest).length:Int)) zr zr zr zr zr zr zr ag (by simp only[List.length_cons];omega) (.inl rfl) ?_
     ((refine aB 52 ((.slice (sliceAt (some ⟨bb,oo,none⟩) c1 1 32) rest.length (c1-1))) rfl ((by rw[show((p0::rest).length:Int).toNat=rest.length+1 from by simp[List.length_cons],show(1:Int).toNat=1 from rfl,show rest.length+1-1=rest.length by omega];rfl)) ?_))
     refine go ?_
     refine ai (ao.trans ah (C7 (z:=(iv p0 x,rest)) tJ _)) ?_
     refine fK hY rfl ah ⟨rfl,rfl⟩
    ·intro cW
     have tL:¬s<q:=by omega
     rw[if_neg tL]at hY
     refine go ?_
     refine aH (fun w=>Sat G w ([ae b8 (cl (dC x) 36),ae b9 (cl [.slice (some ⟨bb,oo,none⟩) (p0::rest).length c1] 40),X])) (df 0 4 (.act 4 (.act 5 .nil))) rfl ak ak ak eo ?_
     (repeat(first|refine gO ?_|refine cG 0 32 zr zr zr zr zr zr zr zr (by simp) ?_|refine bY (U:=aS) (l:=dC x) 0 zr zr zr zr zr zr ?_|(refine aK ?_;refine gW (U:=aS) (es:=dC p0) 2 0 zr zr zr dM rfl fg zr zr zr ?_)))
     refine bC (zu X hK x p0) ?_
     refine aV ?_
     refine cK (U:=aS) (l':=dC (iv x p0)) 1 gB rfl rfl rfl rfl (by intro e;cases e) (by rw[dz];exact jH _) rfl rfl rfl ?_
     refine go ?_
     refine bB (p:=1) (q:=((p0::rest).length:Int)) zr zr zr zr zr zr zr ag (by simp only[List.length_cons];omega) (.inl rfl) ?_
     ((refine aB 52 ((.slice (sliceAt (some ⟨bb,oo,none⟩) c1 1 32) rest.length (c1-1))) rfl ((by rw[show((p0::rest).length:Int).toNat=rest.length+1 from by simp[List.length_cons],show(1:Int).toNat=1 from rfl,show rest.length+1-1=rest.length by omega];rfl)) ?_))
     refine go ?_
     refine ai (ao.trans ah (C7 (z:=(iv x p0,rest)) tJ _)) ?_
     refine fK hY rfl ah ⟨rfl,rfl⟩
  rintro l r v H' rfl
  refine⟨_,_,_,rfl,by decide,?_⟩
  rw[hE.1.2,List.take_length]
  refine er (F9 b8 b9 X _) ?_
  rintro v -
  refine go ?_
  refine aJ (U:=aS) (l:=dC (qs (bK m m k) (leaf,proof)).1) 0 zr zr zr zr zr zr (go ?_)
  refine aJ (U:=aS) (l:=dC root) 4 zr zr zr zr zr zr (go ?_)
  refine lR (b:=decide ((qs (bK m m k) (leaf,proof)).1=root)) zr zr zr Lw (fun w=>LK _ root w) ?_
  refine go ?_
  (apply aY (U:=aS) hE Tryz.func88 rfl ah;(repeat(first|exact aP.nil|apply aP.tmp rfl));exact⟨rfl,rfl⟩;exact ah)
def yi(X:HP)(hK:oD X)(x:Bl)(i:Int)(bv:Value)(b:List UInt8)(hb:eM X bv b)(jO:b.length≤900000000)(pv:Value)(proof:List Dg)(hp:Ix X pv proof) :
  aE Tryz.prog 34 [eS x,.int .i64 i,bv,pv] [X] (fun r H=>r = .bool (dw x i b proof)∧H=[X]):=by
 have po:=zo x i
 have Pa:=vy x
 have hck:=MD X hK x.root (db b) (cq x) i pv proof hp
 have hlf:=FJ X hK bv b hb jO
 obtain⟨ba,bc,rfl,Pc⟩:=hb.2
 obtain⟨pa,pc,rfl,sT⟩:=hp.2
 unfold eS at po Pa ⊢
 unfold dV at hck hlf
 refine aE.au Tryz.func34 Tryz.ntmps34 fun G F R hE=>?_
 refine aG rfl ?_
 refine bG zr zr bD ?_
 intro b4
 refine go ?_
 refine aJ (U:=aS) (l:=bJ x) 0 zr zr zr zr zr zr (go ?_)
 refine aO po ?_
 unfold dw at hE
 cases iQ:dJ x i with
 | none =>
  rw[iQ]at hE
  simp only at hE ⊢
  refine go ?_
  refine aH (fun w=>Sat G w ([ae b4 (cl (bJ x) 38)])) (df 0 12 (.st 13 (.st 14 (.st 16 (.act 12 (.act 15 (.act 17 (.st 18 (.st 19 .nil))))))))) rfl ak ak ak eo ?_
  refine go ?_
  refine ad hE Tryz.func34 zr zr ⟨rfl,rfl⟩
 | some w =>
  obtain⟨at_,n⟩:=w
  rw[iQ]at hE
  simp only at hE ⊢
  refine go ?_
  refine aH (fun w=>Sat G w ([ae b4 (cl (bJ x) 38)])) (df 0 12 (.st 13 (.st 14 (.st 16 (.act 12 (.act 15 (.act 17 (.st 18 (.st 19 .nil))))))))) rfl ak ak ak eo ?_
  refine go ?_
  by_cases hl:(b.length:Int)=n
  case neg =>
   rw[decide_eq_false hl,Bool.false_and]at hE
   refine aB 27 ((.bool false)) rfl ((congrArg Value.bool (decide_eq_false hl))) (go ?_)
   refine ad hE Tryz.func34 zr zr ⟨rfl,rfl⟩
  rw[decide_eq_true hl,Bool.true_and]at hE
  refine aB 27 ((.bool true)) rfl ((congrArg Value.bool (decide_eq_true hl))) (go ?_)
  refine cD (U:=aS) (cs:=dC x.root) 0 zr zr zr zr zr zr (go ?_)
  refine bY (U:=aS) (l:=bJ x) 0 zr zr zr zr zr zr (go ?_)
  refine bC Pa ?_
  refine go ?_
  refine bC hlf ?_
  refine go ?_
  refine bC hck ?_
  refine go ?_
  refine ad hE Tryz.func34 zr zr ⟨rfl,rfl⟩
end Go.Proofs.YtdigdgohdpeebaaGreatDoor
namespace Go.Proofs.YtdigdgohdpeebaaGreatDoor
open Go Go.SL
structure TC where
 x:Bl
 n:Nat
 ws:List jl
 pf:Int→Option (List Dg)
def Tk.c(y:Tk):TC:=⟨y.x,y.n,y.ws,y.pf⟩
def gu(ts:List Tk):List TC:=ts.map Tk.c
namespace TC
def put(c:TC)(i:Nat)(l:List Dg):TC:=⟨c.x,c.n,kX c.ws i true,fun j=>if j=(i:Int)then some l else c.pf j⟩
def drop(c:TC)(i:Nat):TC:=⟨c.x,c.n,kX c.ws i false,fun j=>if j=(i:Int)then none else c.pf j⟩
end TC
def de(x:Bl):TC:=⟨x,(cq x).toNat,List.replicate (((cq x).toNat+63)/64) 0#64,fun _=>none⟩
def na:List (List UInt8)→Option (List Dg)
 | []=>some []
 | b::l=>match gJ b,na l with
  | some d,some ds=>some (d::ds)
  | _,_=>none
def mg(cs:List TC)(d:Dg)(m:List UInt8)(l:List (List UInt8)):List TC:=match pY m,na l with
 | some i,some p=>cs.map fun y=>if y.x.d=d∧i<y.n∧p.length=eX y.n i then y.put i p else y
 | _,_=>cs
def DN(cs:List TC)(d:Dg):List TC:=cs.filter fun y => !decide (y.x.d=d)
def dk(cs:List TC)(b:List UInt8):List TC:=match iW b with
 | none=>cs
 | some (k,d,more) =>
  if k=3∧more=[]then DN cs d
  else match more with
   | [s,p,r]=>if k=1 then(match pY s,pY p,gJ r with
     | some s,some p,some r=>if bF ⟨d,s,p,r⟩then DN cs d++[de ⟨d,s,p,r⟩]else cs
     | _,_,_=>cs)
    else if k=2 then mg cs d s [p,r]else cs
   | m::l=>if k=2 then mg cs d m l else cs
   | []=>cs
def bL(d:Dg)(i:Nat)(p:List Dg):List UInt8:=jJ 2 d (uv i::p.map Dg.bs)
def ld(s:e8)(z:TC × List (List UInt8))(i:Nat):TC × List (List UInt8) :=
 if dF z.1.ws z.1.n (i:Int)then(if(eu s z.1.x i).2≠0∨dw z.1.x i (eu s z.1.x i).1 ((z.1.pf i).getD [])=false then(z.1.drop i,z.2)else(z.1,z.2++[bL z.1.x.d i ((z.1.pf i).getD [])]))else z
def iI(s:e8)(c:TC)(k:Nat):TC × List (List UInt8):=(List.range k).foldl (ld s) (c,[bT c.x])
def ke(s:e8)(c:TC):TC × List (List UInt8):=iI s c c.n
def rW(q:Int):List TC→e8→List TC→List (List UInt8)→Nat→e8→List TC→List (List UInt8)→Prop
 | [],s,cs,rs,e,t,j9,AE=>e=0∧t=s∧j9=cs∧AE=rs
 | c::l,s,cs,rs,e,t,j9,AE=>∃e1 s1,dU q c.x s e1 s1 ∧
  if e1=5∨e1=11 then rW q l s1 cs rs e t j9 AE
  else if e1≠0 then e=e1∧t=s1
  else rW q l s1 (cs++[(ke s1 c).1]) (rs++(ke s1 c).2) e t j9 AE
def CU(q:Int)(s:e8)(e:Nat)(t:e8)(jn:JN)(cs:List TC):Prop :=
 ∃e1 A1 j1,ot s.A cS e1 A1 j1∧if e1≠0 then e=e1∧t=⟨A1,s.bq,s.brk⟩else
  ∃e2 s2 rs,rW q ((fe s.A cS).foldl dk []) ⟨A1,s.bq,s.brk⟩ [] [] e2 s2 cs rs∧if e2≠0 then e=e2∧t=s2 else
   ∃A3,oz cS s2.A j1 rs e A3 jn∧t=⟨A3,s2.bq,s2.brk⟩
def mj(s:e8)(c:TC)(k:Nat):iI s c (k+1)=ld s (iI s c k) k:=by
 unfold iI
 rw[List.range_succ,List.foldl_append]
 rfl
def Rw(s:e8)(z:TC × List (List UInt8))(i:Nat):(ld s z i).1.x=z.1.x∧(ld s z i).1.n=z.1.n∧(ld s z i).1.ws.length=z.1.ws.length:=by
 unfold ld
 split
 ·split
  ·exact⟨rfl,rfl,iH _ _ _⟩
  ·exact⟨rfl,rfl,rfl⟩
 ·exact⟨rfl,rfl,rfl⟩
def Jm(s:e8)(c:TC):∀k,(iI s c k).1.x=c.x∧(iI s c k).1.n=c.n∧(iI s c k).1.ws.length=c.ws.length
 | 0=>⟨rfl,rfl,rfl⟩
 | k+1=>by
  rw[mj]
  obtain⟨h1,h2,h3⟩:=Rw s (iI s c k) k
  obtain⟨g1,g2,g3⟩:=Jm s c k
  exact⟨h1.trans g1,h2.trans g2,h3.trans g3⟩
def tZ(ts:List Tk):(gu ts).length=ts.length:=by simp[gu]
def eF(i:Nat)(l:List Dg):List (List UInt8):=uv i::l.map Dg.bs
def kr(i:Nat)(hi:i≤1000000000000)(l:List Dg):∀b∈eF i l,b.length≤32:=fun b hb=>by
  rcases List.mem_cons.1 hb with rfl|hb
  · have := xl 5 i (by have : (128 : Nat) ^ 6 = 4398046511104 := by decide
                       omega)
    omega
  · obtain⟨d,_,rfl⟩:=List.mem_map.1 hb
    rw[d.len];omega
def D4(i:Nat){l:List Dg}{j:Nat}{d:Dg}(h:l[j]?=some d):eF i (l.take (j+1))=eF i (l.take j)++[d.bs]:=by
 unfold eF
 rw[List.take_add_one,h]
 simp
structure Y8 where
 cs:List Value
 Z:HP
def CO(M:Y8)(ls:List (List UInt8)):Prop:=M.cs.length=ls.length∧∀(i:Nat) (x:List UInt8),ls[i]?=some x→∃cv,M.cs[i]?=some cv∧eM M.Z cv x
def CO.add{M:Y8}{ls:List (List UInt8)}(h:CO M ls){A:HP}{cv:Value}{x:List UInt8}(hx:eM A cv x):CO ⟨M.cs++[cv],Sep [A,M.Z]⟩ (ls++[x]):=by
 obtain⟨h1,h2⟩:=h
 refine⟨by simp[h1],fun i y hy=>?_⟩
 simp only
 rw[List.getElem?_append]at hy ⊢
 rw[h1]
 split at hy
 ·rename_i cW
  rw[if_pos cW]
  obtain⟨cv',h3,h4⟩:=h2 i y hy
  exact⟨cv',h3,h4.mono (bh (i:=1) rfl)⟩
 ·rename_i fg
  rw[if_neg fg]
  have h0:i-ls.length=0:=by
   rcases Nat.eq_zero_or_pos (i-ls.length)with h|h
   ·exact h
   ·rw[List.getElem?_eq_none (by simp;omega)]at hy;cases hy
  rw[h0]at hy ⊢
  cases hy
  exact⟨cv,rfl,hx.mono (bh (i:=0) rfl)⟩
attribute [local irreducible] J K aE Ends ae az aQ bP bj aT aU bp bW aD
def AL(d:Dg)(i:Nat)(hi:i≤1000000000000)(P:HP)(pv:Value)(l:List Dg)(hp:Vw P pv l.length (l.flatMap dC))(hl:l.length≤16) :
  aE Tryz.prog 39 [dV d,.int .i64 (i:Int),pv] [P] (fun r H=>H=[az 5 1 r (bL d i l).length (bV (bL d i l)),P]):=by
 obtain⟨a,c,rfl⟩:=hp.shape
 have hlen:=kr i hi l
 unfold dV
 refine aE.au Tryz.func39 Tryz.ntmps39 fun G F R hE=>?_
 refine aG rfl ?_
 refine bG zr zr bD ?_
 intro b3
 refine go ?_
 refine aF (mE i ag) ?_
 rintro r8 _ rfl
 refine aN 0 rfl ?_
 rintro a8 c8 rfl
 refine gM (bs:=uv i) 0 rfl ?_
 intro Js
 refine go ?_
 refine aj (cs:=[.slice a8 (uv i).length c8]) zr zr zr zr zr zr zr zr zr bD ?_
 intro row
 refine go ?_
 refine ai (H':=ae row (cl [.slice a8 (uv i).length c8] 39)::az 5 1 (.slice a8 (uv i).length c8) (uv i).length (bV (uv i))::ae b3 (cl (dC d) 36)::P::F) ah ?_
 refine ai (dR 39 1 row 1 1 [.slice a8 (uv i).length c8] [] _ rfl (Nat.le_refl _) (by simp)) ?_
 refine bz (fun y:Nat × Y8 × Option Addr × Nat=>y.1≤l.length∧CO y.2.1 (eF i (l.take y.1))) (fun y=>l.length-y.1)
  (fun y=>[(3,ptr b3),(7,.slice y.2.2.1 (y.1+1) y.2.2.2),(14,.slice a l.length c),(15,.int .i64 (l.length:Int)),(16,.int .i64 (y.1:Int))])
  (fun y=>az 39 1 (.slice y.2.2.1 (y.1+1) y.2.2.2) (y.1+1) y.2.1.cs::y.2.1.Z::ae b3 (cl (dC d) 36)::P::F) (0,⟨[.slice a8 (uv i).length c8],az 5 1 (.slice a8 (uv i).length c8) (uv i).length (bV (uv i))⟩,some ⟨row,0,none⟩,1) ⟨Nat.zero_le _,?_⟩ rfl cm ah ?_
 ·refine⟨rfl,fun j x hx=>?_⟩
  match j,hx with
  | 0,hx=>cases hx;exact⟨_,rfl,Js⟩
  | j+1,hx=>simp[eF]at hx
 rintro⟨j,M,ma,mc⟩⟨hj,hM⟩ ih
 simp only at hj hM
 dsimp only
 refine go ?_
 refine aq zr zr ?_ ?_
 ·intro cW
  have nF:j<l.length:=by omega
  obtain⟨x,hx⟩:∃x,l[j]?=some x:=⟨l[j],by simp⟩
  have j8:=D4 i hx
  have AY:=hM.1
  have aem:(eF i (l.take j)).length=j+1:=by simp[eF];omega
  obtain⟨bb,oo,cc,he⟩:=hp.some (by intro h;have:=congrArg List.length h;rw[cu cT]at this;simp at this;omega)
  simp only[Value.slice.injEq,true_and]at he
  obtain⟨rfl,rfl⟩:=he
  refine go ?_
  refine cG j 32 zr zr zr zr zr zr zr zr nF ?_
  refine aK ?_
  refine cR (U:=aS) (es:=dC x) 3 (j*32) zr zr zr hp rfl (fun q v hq=>?_) zr zr zr ?_
  ·rw[cP cT hx q (by rcases Nat.lt_or_ge q 32 with h|h;exact h;rw[List.getElem?_eq_none (by rw[cT];exact h)]at hq;cases hq)];exact hq
  refine aC zr zr zr bD ?_
  intro b9
  refine go ?_
  refine g8 (U:=aS) zr zr zr zr zr ?_
  have uH:eM (ae b9 (cl (dC x) 36)) (.slice (some ⟨b9,0,none⟩) 32 32) x.bs:=eM.block x.len (dz x)
  have lH:=ll (ae b9 (cl (dC x) 36)) (.slice (some ⟨b9,0,none⟩) x.bs.length 32) x.bs (by have:=uH.1;rw[x.len]at this ⊢;exact this) (by rw[x.len];omega)
  rw[x.len]at lH
  refine aF lH ?_
  rintro r9 _ rfl
  rw[← x.len]
  refine aN 0 rfl ?_
  rintro a9 c9 rfl
  refine gM (bs:=x.bs) 0 rfl ?_
  intro MV
  refine go ?_
  refine aj (cs:=[.slice a9 x.bs.length c9]) zr zr zr zr zr zr zr zr zr bD ?_
  intro QV
  refine go ?_
  refine aR (mm:=1) (news:=[.slice a9 x.bs.length c9]) 3 0 rfl rfl rfl rfl rfl rfl rfl rfl rfl rfl rfl rfl (Vw.ae rfl) rfl (by intro v hv;simp at hv;rw[hv];rfl) ag (by show(_+_)*24≤_;omega) (fun _=>rfl) bD ?_
  intro v1
  refine aN 3 rfl ?_
  rintro ja jc rfl
  refine go ?_
  refine ai (H':=az 5 1 (.slice a9 x.bs.length c9) x.bs.length (bV x.bs)::M.Z::az 39 1 (.slice ja (j+1+1) jc) (j+1+1) (M.cs++[.slice a9 x.bs.length c9])::ae b3 (cl (dC d) 36)::P::F) ah ?_
  refine ai (ao.bS [az 5 1 (.slice a9 x.bs.length c9) x.bs.length (bV x.bs),M.Z] _) ?_
  have yK:=hM.add MV
  rw[← j8]at yK
  refine aM ih (j+1,⟨M.cs++[.slice a9 x.bs.length c9],Sep [az 5 1 (.slice a9 x.bs.length c9) x.bs.length (bV x.bs),M.Z]⟩,ja,jc) rfl ⟨by simp only;omega,yK⟩ (by simp only;omega) cm ah
 ·intro fg
  have Lj:j=l.length:=by omega
  subst Lj
  rw[List.take_length]at hM
  clear ih
  have AY:(eF i l).length=l.length+1:=by simp[eF]
  refine mJ 0 rfl ?_
  intro jx
  refine cV 0 rfl ?_
  intro OF
  have mW:qv (Sep [az 39 1 (.slice ma (l.length+1) mc) (l.length+1) M.cs,M.Z]) (.slice ma (l.length+1) mc) (eF i l):=by
   rw[← AY]at OF jx ⊢
   exact qv.ofP OF jx hM.1 hM.2
  have ON:=sr 2 d _ _ (eF i l) mW ag hlen
  unfold dV at ON
  refine ai (ao.bS [az 39 1 (.slice ma (l.length+1) mc) (l.length+1) M.cs,M.Z] _) (go ?_)
  refine aJ (U:=aS) (l:=dC d) 1 zr zr zr zr zr zr ?_
  ((refine go ?_;(refine aF ON ?_)))
  rintro rr _ rfl
  refine go ?_
  refine aL hE Tryz.func39 rfl _ zr zr ah
end Go.Proofs.YtdigdgohdpeebaaGreatDoor
namespace Go.Proofs.YtdigdgohdpeebaaGreatDoor
open Go Go.SL
def MH(q:Int)(x:Bl)(ts:List Tk)(s:SJ)(br:Bool)(e:Nat)(ek:List Tk)(jM:Bool)(t:SJ):Prop :=
 (br=true∧e=10∧ek=ts∧jM=br∧t=s)∨(br=false∧(ts.any fun y=>decide (y.x.d=x.d))=true∧e=5∧ek=ts∧jM=br∧t=s) ∨
 (br=false∧(ts.any fun y=>decide (y.x.d=x.d))=false∧jM=gi e∧iA (dZ (dU q x)::jD (bT x)) s e t∧((e≠0∧ek=ts)∨(e=0∧∃y:Tk,y.c=de x∧ek=ts++[y])))
attribute [local irreducible] J K aE Ends ae az aQ bP bj aT aU bp bW aD
def Fp(tb bs jb bd b2 b3:Nat)(q:Int)(hq:0≤q∧q≤1073741824)(mb:Nat)(tv:Value)(s:SJ)(x:Bl)(A B C:HP)(Pb:pt s.1.bq)(cL:s.1.A.aw.length≤900000000)(eQ:s.1.A.writes.length≤900000000) :
  aE Tryz.prog 25 [ptr b2,ptr b3] [iD tb bs jb tv false,cB bs bd jb q mb (A::B::C::[ae b2 (cl [ptr tb] 31),ae b3 (cl (bJ x) 38)]) s]
  (fun r H=>∃(e:Nat) (t:SJ),r = .int .i64 (e:Int)∧H=[iD tb bs jb tv false,cB bs bd jb q mb (A::B::C::[ae b2 (cl [ptr tb] 31),ae b3 (cl (bJ x) 38)]) t]∧dZ (dU q x) s e t):=by
 have c0:=aE.frame ([rq jb bd cS s.2]++[A,B,C]) (Fo tb bs jb bd b2 b3 q hq mb tv s.1 x Pb cL eQ)
 refine c0.conv ?_ ?_
 ·unfold cB cC
  exact(ao.cons _ (r' _)).trans ah
 ·rintro v H⟨H',⟨e,t,rfl,rfl,hC⟩,rfl⟩
  refine⟨[iD tb bs jb tv false,cB bs bd jb q mb _ (t,s.2)],⟨e,_,rfl,rfl,hC,rfl⟩,?_⟩
  unfold cB cC
  exact ao.trans ah (ao.cons _ (sl _))
def Nw(tb bs jb bd:Nat)(tv:Value)(q:Int)(mb:Nat)(s:SJ)(g:FuncId)(cap:List Value)(c2 c3:Nat)(Z:HP)(Ys:List HP)(S:SJ→Nat→SJ→Prop)(a:Option Addr)(c:Nat)(b:List UInt8)(hb:eM Z (.slice a b.length c) b)(hl:b.length≤1000000)(m:Nat)(hm:m≤800000000)(hx:∀t,S s 0 t→SQ m 0 t)(hc:aE Tryz.prog g cap [iD tb bs jb tv false,cB bs bd jb q mb (ae c2 (cl [ptr tb] 31)::ae c3 (cl [.slice a b.length c] 39)::Z::Ys) s] (fun r H=>∃(e:Nat) (t:SJ),r = .int .i64 (e:Int)∧H=[iD tb bs jb tv false,cB bs bd jb q mb (ae c2 (cl [ptr tb] 31)::ae c3 (cl [.slice a b.length c] 39)::Z::Ys) t]∧S s e t))(V:HP)(v:Value)(hv:Vw V v 3 (.func (.func g) #[] cap.toArray::iu c2 c3 jb)) :
  aE Tryz.prog 29 [ptr tb,v] [V,iD tb bs jb tv false,cB bs bd jb q mb (ae c2 (cl [ptr tb] 31)::ae c3 (cl [.slice a b.length c] 39)::Z::Ys) s]
  (fun r H=>∃(e:Nat) (t:SJ),r = .int .i64 (e:Int)∧H=[V,iD tb bs jb tv (gi e),cB bs bd jb q mb (ae c2 (cl [ptr tb] 31)::ae c3 (cl [.slice a b.length c] 39)::Z::Ys) t]∧iA (S::jD b) s e t):=by
 refine qK (cB bs bd jb q mb _) tb bs jb tv V v (.func (.func g) #[] cap.toArray::iu c2 c3 jb) hv (by simp[iu]) (S::jD b) rfl (fun i y=>(i=0→y=s)∧(i=1→SQ m 0 y)∧(i=2→SQ m 1 y)) ?_ s ⟨fun _=>rfl,fun h=>by omega,fun h=>by omega⟩
 intro i fv S' mX hs
 match i,mX,hs with
 | 0,mX,hs =>
  cases mX
  cases hs
  refine⟨_,_,_,rfl,fun y hy=>?_⟩
  have:=hy.1 rfl
  subst this
  refine aE.post hc ?_
  rintro v H⟨e,t,rfl,rfl,hS⟩
  exact⟨e,t,rfl,rfl,hS,fun h0=>⟨fun h=>absurd h ag,fun _=>hx t (by rw[← h0];exact hS),fun h=>absurd h ag⟩⟩
 | 1,mX,hs =>
  cases mX
  cases hs
  refine⟨_,_,_,rfl,fun y hy=>?_⟩
  obtain⟨a1,⟨a2,a3⟩,a4,a5⟩:=hy.2.1 rfl
  refine aE.post (uZ tb bs jb bd c2 c3 tv q mb y Z Ys a c b hb hl ⟨a2,ag⟩ ag) ?_
  rintro v H⟨e,x',rfl,rfl,hS⟩
  exact⟨e,x',rfl,rfl,hS,fun _=>⟨fun h=>absurd h ag,fun h=>absurd h ag,fun _=>SQ.append ⟨a1,⟨a2,a3⟩,a4,a5⟩ hS⟩⟩
 | 2,mX,hs =>
  cases mX
  cases hs
  refine⟨_,_,_,rfl,fun y hy=>?_⟩
  obtain⟨a1,⟨a2,a3⟩,a4,a5⟩:=hy.2.2 rfl
  refine aE.post (qq tb bs jb bd tv q mb y _ a1 ⟨a2,ag⟩ ag ag) ?_
  rintro v H⟨e,x',rfl,rfl,hS⟩
  exact⟨e,x',rfl,rfl,hS,fun _=>⟨fun h=>absurd h ag,fun h=>absurd h ag,fun h=>absurd h ag⟩⟩
 | n+3,mX,hs=>cases hs
def zH(tb bs jb bd:Nat)(tv:Value)(q:Int)(hq:0≤q∧q≤1073741824)(mb:Nat)(ts:List Tk)(br:Bool)(s:SJ)(x:Bl)(hl:ts.length≤1000000)(hs:0≤x.size∧x.size≤1000000000000)(hp:0≤x.piece∧x.piece≤1000000000000)(Pb:pt s.1.bq)(cL:s.1.A.aw.length≤900000000)(eQ:s.1.A.writes.length≤900000000)(m:Nat)(hm:m≤800000000)(hx:∀t,dZ (dU q x) s 0 t→SQ m 0 t) :
  aE Tryz.prog 9 [ptr tb,eS x] (dL tb bs jb tv ts br++[cB bs bd jb q mb [] s])
  (fun r H=>∃(e:Nat) (ek:List Tk) (m5:Value) (jM:Bool) (t:SJ),r = .int .i64 (e:Int)∧H=dL tb bs jb m5 ek jM++[cB bs bd jb q mb [] t]∧MH q x ts s br e ek jM t):=by
 have sW:=rV x hs hp
 have jO:(bT x).length≤1000000:=by
  have:=hD 1 x.d (gZ x) (by simp[gZ]) (kH x hs.2 hp.2)
  unfold bT;omega
 have S5:=fun a n c=>uY tb bs jb tv a n c
 have wO:=Bb x
 unfold iD at S5
 unfold dL
 unfold eS at sW wO ⊢
 refine aE.au Tryz.func9 Tryz.ntmps9 fun G F R hE=>?_
 refine aG rfl ?_
 refine bG zr zr bD ?_
 intro b2
 refine bG zr zr bD ?_
 intro b3
 cases br with
 | true =>
  refine go ?_
  refine ai (H':=ae tb (cl [ptr bs,ptr jb,tv,.bool true] 73)::az 75 1 tv ts.length (ts.map cg)::aW ts::cB bs bd jb q mb [] s::F) ah ?_
  refine ad hE Tryz.func9 zr zr ⟨10,ts,tv,true,s,rfl,rfl,.inl ⟨rfl,rfl,rfl,rfl,rfl⟩⟩
 | false =>
 refine go ?_
 refine aN 3 rfl ?_
 rintro a c rfl
 refine aI (H':=az 75 1 (.slice a ts.length c) ts.length (ts.map cg)::ae tb (cl [ptr bs,ptr jb,.slice a ts.length c,.bool false] 73)::aW ts::cB bs bd jb q mb [] s::ae b2 (cl [ptr tb] 31)::ae b3 (cl (bJ x) 38)::F) ah ?_
 refine iw 0 rfl ?_
 intro dM
 refine aI (H':=aW ts::ae b3 (cl (bJ x) 38)::az 75 1 (.slice a ts.length c) ts.length (ts.map cg)::ae tb (cl [ptr bs,ptr jb,.slice a ts.length c,.bool false] 73)::cB bs bd jb q mb [] s::ae b2 (cl [ptr tb] 31)::F) ah ?_
 refine aI (ao.bS [aW ts,ae b3 (cl (bJ x) 38)] _) ?_
 refine aO (wD (az 75 1 (.slice a ts.length c) ts.length (ts.map cg)) (Sep [aW ts,ae b3 (cl (bJ x) 38)]) _ ts dM hl 24 [ptr b3] (fun y=>decide (y.x.d=x.d)) (fun y hy=>Fq ts x b3 y hy)) ?_
 refine aI (H':=Sep [aW ts,ae b3 (cl (bJ x) 38)]::az 75 1 (.slice a ts.length c) ts.length (ts.map cg)::ae tb (cl [ptr bs,ptr jb,.slice a ts.length c,.bool false] 73)::cB bs bd jb q mb [] s::ae b2 (cl [ptr tb] 31)::F) ah ?_
 refine aI (ao.cJ [aW ts,ae b3 (cl (bJ x) 38)] _) ?_
 cases mq:ts.any (fun y=>decide (y.x.d=x.d))with
 | true =>
  refine go ?_
  refine ai (H':=ae tb (cl [ptr bs,ptr jb,.slice a ts.length c,.bool false] 73)::az 75 1 (.slice a ts.length c) ts.length (ts.map cg)::aW ts::cB bs bd jb q mb [] s::F) ah ?_
  refine ad hE Tryz.func9 zr zr ⟨5,ts,_,false,s,rfl,rfl,.inr (.inl ⟨rfl,mq,rfl,rfl,rfl,rfl⟩)⟩
 | false =>
 refine go ?_
 refine ai (H':=ae tb (cl [ptr bs,ptr jb,.slice a ts.length c,.bool false] 73)::az 75 1 (.slice a ts.length c) ts.length (ts.map cg)::aW ts::cB bs bd jb q mb [] s::ae b2 (cl [ptr tb] 31)::ae b3 (cl (bJ x) 38)::F) ah ?_
 refine iN rfl ?_
 refine Bv 1 (fun y:(Option Addr × Nat) × (Option Addr × Nat) × Nat × Nat=>True) (fun y=>[(2,ptr b2),(3,ptr b3),(5,.slice y.1.1 3 y.1.2)]) (fun y=>az 82 1 (.slice y.1.1 3 y.1.2) 3 ([.func (.func 25) #[] #[ptr b2,ptr b3] ]++iu y.2.2.1 y.2.2.2 jb)::az 5 1 (.slice y.2.1.1 (bT x).length y.2.1.2) (bT x).length (bV (bT x))::ae y.2.2.1 (cl [ptr tb] 31)::ae y.2.2.2 (cl [.slice y.2.1.1 (bT x).length y.2.1.2] 39)::ae tb (cl [ptr bs,ptr jb,.slice a ts.length c,.bool false] 73)::az 75 1 (.slice a ts.length c) ts.length (ts.map cg)::aW ts::cB bs bd jb q mb [] s::ae b2 (cl [ptr tb] 31)::ae b3 (cl (bJ x) 38)::F) rfl ?_ ?_
 rotate_left
 ·intro tail
  refine aH (fun w=>Sat G w ([ae b2 (cl [ptr tb] 31),ae b3 (cl (bJ x) 38)])) (.st 0 (.st 2 (.st 3 (.fork (.act 1 (.act 4 (.act 5 (.act 6 (.st 7 .nil))))) (.act 4 (.fork (.act 1 (.act 5 (.act 6 (.st 7 .nil)))) (.act 5 (.act 1 (.act 6 (.st 7 .nil)))))))))) rfl ak ak ak eo ?_
  refine go ?_
  refine bY (U:=aS) (l:=bJ x) 1 zr zr zr zr zr zr ?_
  repeat'(first|refine qE ?_ ?_|(refine aj (cs:=[.func (.func 25) #[] #[ptr b2,ptr b3] ]) zr zr zr zr zr zr zr zr zr (fun _ w hw=>by exact hw.cN ah) ?_;intro r0)|(((refine dD sW ?_));rintro _ _ rfl;((refine aN 0 rfl ?_));rintro a8 c8 rfl)|(((refine dD (S5 a8 (bT x).length c8) ?_));rintro _ _⟨c2,c3,row,rfl,rfl⟩)|fail)
  all_goals(
   refine aI (H':=ae r0 (cl [.func (.func 25) #[] #[ptr b2,ptr b3] ] 82)::ae row (cl (iu c2 c3 jb) 82)::az 5 1 (.slice a8 (bT x).length c8) (bT x).length (bV (bT x))::ae c2 (cl [ptr tb] 31)::ae c3 (cl [.slice a8 (bT x).length c8] 39)::ae tb (cl [ptr bs,ptr jb,.slice a ts.length c,.bool false] 73)::az 75 1 (.slice a ts.length c) ts.length (ts.map cg)::aW ts::cB bs bd jb q mb [] s::ae b2 (cl [ptr tb] 31)::ae b3 (cl (bJ x) 38)::F) ah ?_
   refine aI (dR 82 1 r0 1 1 [.func (.func 25) #[] #[ptr b2,ptr b3] ] [] _ rfl (Nat.le_refl _) (by simp)) ?_
   refine aR (mm:=2) (news:=iu c2 c3 jb) 0 1 rfl rfl rfl rfl rfl rfl rfl rfl rfl rfl rfl rfl (Vw.ae rfl) rfl (by intro v hv;simp[iu]at hv;rcases hv with rfl|rfl <;> rfl) ag (by show(_+_)*8≤_;omega) (fun _=>rfl) (fun _ w hw=>by exact hw.cN ah) ?_
   intro v1
   refine aN 0 rfl ?_
   rintro ja jc rfl
   refine pz ?_
   refine pC tail ((ja,jc),(a8,c8),c2,c3) rfl trivial cm ah)
 rintro⟨⟨ja,jc⟩,⟨a8,c8⟩,c2,c3⟩ -
 simp only
 refine cV 0 rfl ?_
 intro oY
 refine qx (bs:=bT x) 1 rfl ?_
 intro Js
 have iR:=Nw tb bs jb bd (.slice a ts.length c) q mb s 25 [ptr b2,ptr b3] c2 c3 _ [ae b2 (cl [ptr tb] 31),ae b3 (cl (bJ x) 38)] _ a8 c8 (bT x) Js jO m hm hx (Fp tb bs jb bd b2 b3 q hq mb (.slice a ts.length c) s x _ _ _ Pb cL eQ) _ _ oY
 unfold iD at iR
 refine ai (ao.pick [8] rfl) (go ?_)
 refine aI (H':=cB bs bd jb q mb [] s::([ae c2 (cl [ptr tb] 31),ae c3 (cl [.slice a8 (bT x).length c8] 39),az 5 1 (.slice a8 (bT x).length c8) (bT x).length (bV (bT x)),ae b2 (cl [ptr tb] 31),ae b3 (cl (bJ x) 38)]++(az 82 1 (.slice ja 3 jc) 3 ([.func (.func 25) #[] #[ptr b2,ptr b3] ]++iu c2 c3 jb)::ae tb (cl [ptr bs,ptr jb,.slice a ts.length c,.bool false] 73)::az 75 1 (.slice a ts.length c) ts.length (ts.map cg)::aW ts::F))) ah ?_
 refine aI (zq bs bd jb q mb _ s _) ?_
 refine aF iR ?_
 rintro _ _⟨e,t,rfl,rfl,hR⟩
 refine aI (H':=cB bs bd jb q mb [ae c2 (cl [ptr tb] 31),ae c3 (cl [.slice a8 (bT x).length c8] 39),az 5 1 (.slice a8 (bT x).length c8) (bT x).length (bV (bT x)),ae b2 (cl [ptr tb] 31),ae b3 (cl (bJ x) 38)] t::ae tb (cl [ptr bs,ptr jb,.slice a ts.length c,.bool (gi e)] 73)::az 75 1 (.slice a ts.length c) ts.length (ts.map cg)::aW ts::F) ah ?_
 refine aI (uk bs bd jb q mb _ t _) ?_
 by_cases he:e=0
 ·subst he
  have YX:=oe x
  refine aI (H':=az 75 1 (.slice a ts.length c) ts.length (ts.map cg)::ae tb (cl [ptr bs,ptr jb,.slice a ts.length c,.bool (gi 0)] 73)::ae b2 (cl [ptr tb] 31)::ae b3 (cl (bJ x) 38)::aW ts::cB bs bd jb q mb [] t::F) ah (go ?_)
  refine aH (fun w=>Sat G w ([ae tb (cl [ptr bs,ptr jb,.slice a ts.length c,.bool (gi 0)] 73),ae b2 (cl [ptr tb] 31),ae b3 (cl (bJ x) 38)])) (df 0 6 (.act 6 (.act 7 (.act 8 (.st 9 (.st 10 (.act 11 .nil))))))) rfl ak ak ak eo ?_
  refine go ?_
  refine bY (U:=aS) (l:=bJ x) 2 zr zr zr zr zr zr (go ?_)
  refine dD wO ?_
  rintro _ _⟨y,rfl,rfl,Rm,AW,hy3,hy4⟩
  refine go ?_
  refine aj (cs:=[ptr y.yb]) zr zr zr zr zr zr zr zr zr (fun _ w hw=>hw.cN ah) ?_
  intro r1
  refine go ?_
  refine aR (mm:=1) (news:=[ptr y.yb]) 2 0 rfl rfl rfl rfl rfl rfl rfl rfl rfl rfl rfl rfl (Vw.ae rfl) rfl (by intro v hv;simp at hv;rw[hv];rfl) ag (by show(_+_)*8≤_;omega) (fun _=>rfl) (fun _ w hw=>hw.cN ah) ?_
  intro v1
  refine aN 2 rfl ?_
  rintro ka kc rfl
  refine go ?_
  have QB:ts.map cg++[ptr y.yb]=(ts++[y]).map cg:=by simp[cg]
  have AY:ts.length+1=(ts++[y]).length:=by simp
  have qY:=uN ts [] y
  rw[List.append_nil]at qY
  rw[QB,AY]
  refine ai (H':=oA y::aW ts::ae tb (cl [ptr bs,ptr jb,.slice ka (ts++[y]).length kc,.bool (gi 0)] 73)::az 75 1 (.slice ka (ts++[y]).length kc) (ts++[y]).length ((ts++[y]).map cg)::cB bs bd jb q mb [] t::F) ah ?_
  refine ai (qY _) ?_
  have Jd:y.c=de x:=by
   unfold Tk.c de
   rw[Rm,hy3,hy4,← AW,Int.toNat_natCast]
  refine ad hE Tryz.func9 zr zr ⟨0,ts++[y],_,gi 0,t,rfl,rfl,.inr (.inr ⟨rfl,mq,rfl,hR,.inr ⟨rfl,y,Jd,rfl⟩⟩)⟩
 ·refine aI (H':=ae tb (cl [ptr bs,ptr jb,.slice a ts.length c,.bool (gi e)] 73)::az 75 1 (.slice a ts.length c) ts.length (ts.map cg)::aW ts::cB bs bd jb q mb [] t::F) ah (go ?_)
  refine aq zr zr ?_ ?_
  ·intro _
   refine go ?_
   refine ad hE Tryz.func9 zr zr ⟨e,ts,_,gi e,t,rfl,rfl,.inr (.inr ⟨rfl,mq,rfl,hR,.inl ⟨he,rfl⟩⟩)⟩
  ·intro h;exfalso;omega
end Go.Proofs.YtdigdgohdpeebaaGreatDoor
namespace Go.Proofs.YtdigdgohdpeebaaGreatDoor
open Go Go.SL
def Mc(x:Bl)(i:Int)(b:List UInt8)(p:List Dg)(ts:List Tk)(s:SJ)(br:Bool)(e:Nat)(ek:List Tk)(jM:Bool)(t:SJ):Prop :=
 (br=true∧e=10∧ek=ts∧jM=br∧t=s)∨(br=false∧fb ts x=none∧e=4∧ek=ts∧jM=br∧t=s) ∨
 (br=false∧∃(k:Nat) (y:Tk),fb ts x=some y∧ts[k]?=some y∧y.x=x∧(((i<0∨(y.n:Int)≤i)∧e=1∧ek=ts∧jM=br∧t=s)∨((0≤i∧i<y.n)∧dF y.ws y.n i=true∧e=0∧ek=ts∧jM=br∧t=s) ∨
  ((0≤i∧i<y.n)∧dF y.ws y.n i=false∧dw x i b p=false∧e=8∧ek=ts∧jM=br∧t=s) ∨
  ((0≤i∧i<y.n)∧dF y.ws y.n i=false∧dw x i b p=true∧jM=gi e∧iA (dZ (mY x i b)::dZ (ki x)::jD (bL x.d i.toNat p)) s e t∧((e≠0∧ek=ts)∨(e=0∧ek=ts.set k (y.put i.toNat p))))))
attribute [local irreducible] J K aE Ends ae az aQ bP bj aT aU bp bW aD
def KD(X:HP)(tb bs jb bd b2 b3 b4 b5:Nat)(q:Int)(mb:Nat)(tv:Value)(s:SJ)(x:Bl)(i:Int)(a:Option Addr)(c:Nat)(b:List UInt8)(A B C:HP)(hv:Vw X (.slice a b.length c) b.length (bV b))(jO:b.length≤1000000000)(hi : -9223372036854775808≤i∧i≤9223372036854775807)(cL:s.1.A.aw.length≤900000000)(eQ:s.1.A.writes.length≤900000000) :
  aE Tryz.prog 35 [ptr b2,ptr b3,ptr b4,ptr b5] [iD tb bs jb tv false,cB bs bd jb q mb (A::B::C::[X,ae b2 (cl [ptr tb] 31),ae b3 (cl (bJ x) 38),ae b4 (cl [.int .i64 i] 3),ae b5 (cl [.slice a b.length c] 39)]) s]
  (fun r H=>∃(e:Nat) (t:SJ),r = .int .i64 (e:Int)∧H=[iD tb bs jb tv false,cB bs bd jb q mb (A::B::C::[X,ae b2 (cl [ptr tb] 31),ae b3 (cl (bJ x) 38),ae b4 (cl [.int .i64 i] 3),ae b5 (cl [.slice a b.length c] 39)]) t]∧dZ (mY x i b) s e t):=by
 have c0:=aE.frame ([rq jb bd cS s.2]++[A,B,C]) (KE X tb bs jb bd b2 b3 b4 b5 q mb tv s.1 x i a c b hv jO hi cL eQ)
 refine c0.conv ?_ ?_
 ·unfold cB cC
  exact(ao.cons _ (r' _)).trans ah
 ·rintro v H⟨H',⟨e,t,rfl,rfl,hC⟩,rfl⟩
  refine⟨[iD tb bs jb tv false,cB bs bd jb q mb _ (t,s.2)],⟨e,_,rfl,rfl,hC,rfl⟩,?_⟩
  unfold cB cC
  exact ao.trans ah (ao.cons _ (sl _))
def KB(tb bs jb bd b2 b3:Nat)(q:Int)(mb:Nat)(tv:Value)(s:SJ)(x:Bl)(A B C X D E:HP)(cL:s.1.A.aw.length≤900000000)(eQ:s.1.A.writes.length≤900000000) :
  aE Tryz.prog 37 [ptr b2,ptr b3] [iD tb bs jb tv false,cB bs bd jb q mb (A::B::C::[X,ae b2 (cl [ptr tb] 31),ae b3 (cl (bJ x) 38),D,E]) s]
  (fun r H=>∃(e:Nat) (t:SJ),r = .int .i64 (e:Int)∧H=[iD tb bs jb tv false,cB bs bd jb q mb (A::B::C::[X,ae b2 (cl [ptr tb] 31),ae b3 (cl (bJ x) 38),D,E]) t]∧dZ (ki x) s e t):=by
 have c0:=aE.frame ([rq jb bd cS s.2]++[A,B,C,X,D,E]) (KC tb bs jb bd b2 b3 q mb tv s.1 x cL eQ)
 refine c0.conv ?_ ?_
 ·unfold cB cC
  exact(ao.cons _ (r' _)).trans ah
 ·rintro v H⟨H',⟨e,t,rfl,rfl,hC⟩,rfl⟩
  refine⟨[iD tb bs jb tv false,cB bs bd jb q mb _ (t,s.2)],⟨e,_,rfl,rfl,hC,rfl⟩,?_⟩
  unfold cB cC
  exact ao.trans ah (ao.cons _ (sl _))
def Nv(tb bs jb bd:Nat)(tv:Value)(q:Int)(mb:Nat)(s:SJ)(g1 g2:FuncId)(Yb o7:List Value)(c2 c3:Nat)(Z:HP)(Ys:List HP)(S1 S2:SJ→Nat→SJ→Prop)(a:Option Addr)(c:Nat)(b:List UInt8)(hb:eM Z (.slice a b.length c) b)(hl:b.length≤1000000)(m:Nat)(hm:m≤800000000)(hx:∀t u,S1 s 0 t→S2 t 0 u→SQ m 0 u)(EW:aE Tryz.prog g1 Yb [iD tb bs jb tv false,cB bs bd jb q mb (ae c2 (cl [ptr tb] 31)::ae c3 (cl [.slice a b.length c] 39)::Z::Ys) s] (fun r H=>∃(e:Nat) (t:SJ),r = .int .i64 (e:Int)∧H=[iD tb bs jb tv false,cB bs bd jb q mb (ae c2 (cl [ptr tb] 31)::ae c3 (cl [.slice a b.length c] 39)::Z::Ys) t]∧S1 s e t))(mT:∀u,S1 s 0 u→aE Tryz.prog g2 o7 [iD tb bs jb tv false,cB bs bd jb q mb (ae c2 (cl [ptr tb] 31)::ae c3 (cl [.slice a b.length c] 39)::Z::Ys) u] (fun r H=>∃(e:Nat) (t:SJ),r = .int .i64 (e:Int)∧H=[iD tb bs jb tv false,cB bs bd jb q mb (ae c2 (cl [ptr tb] 31)::ae c3 (cl [.slice a b.length c] 39)::Z::Ys) t]∧S2 u e t))(V:HP)(v:Value)(hv:Vw V v 4 (.func (.func g1) #[] Yb.toArray :: .func (.func g2) #[] o7.toArray::iu c2 c3 jb)) :
  aE Tryz.prog 29 [ptr tb,v] [V,iD tb bs jb tv false,cB bs bd jb q mb (ae c2 (cl [ptr tb] 31)::ae c3 (cl [.slice a b.length c] 39)::Z::Ys) s]
  (fun r H=>∃(e:Nat) (t:SJ),r = .int .i64 (e:Int)∧H=[V,iD tb bs jb tv (gi e),cB bs bd jb q mb (ae c2 (cl [ptr tb] 31)::ae c3 (cl [.slice a b.length c] 39)::Z::Ys) t]∧iA (S1::S2::jD b) s e t):=by
 refine qK (cB bs bd jb q mb _) tb bs jb tv V v (.func (.func g1) #[] Yb.toArray :: .func (.func g2) #[] o7.toArray::iu c2 c3 jb) hv (by simp[iu]) (S1::S2::jD b) rfl (fun i y=>(i=0→y=s)∧(i=1→S1 s 0 y)∧(i=2→SQ m 0 y)∧(i=3→SQ m 1 y)) ?_ s ⟨fun _=>rfl,fun h=>by omega,fun h=>by omega,fun h=>by omega⟩
 intro i fv S' mX hs
 match i,mX,hs with
 | 0,mX,hs =>
  cases mX
  cases hs
  refine⟨_,_,_,rfl,fun y hy=>?_⟩
  have:=hy.1 rfl
  subst this
  refine aE.post EW ?_
  rintro v H⟨e,t,rfl,rfl,hS⟩
  exact⟨e,t,rfl,rfl,hS,fun h0=>⟨fun h=>absurd h ag,fun _=>by rw[← h0];exact hS,fun h=>absurd h ag,fun h=>absurd h ag⟩⟩
 | 1,mX,hs =>
  cases mX
  cases hs
  refine⟨_,_,_,rfl,fun y hy=>?_⟩
  have h1:=hy.2.1 rfl
  refine aE.post (mT y h1) ?_
  rintro v H⟨e,t,rfl,rfl,hS⟩
  exact⟨e,t,rfl,rfl,hS,fun h0=>⟨fun h=>absurd h ag,fun h=>absurd h ag,fun _=>hx y t h1 (by rw[← h0];exact hS),fun h=>absurd h ag⟩⟩
 | 2,mX,hs =>
  cases mX
  cases hs
  refine⟨_,_,_,rfl,fun y hy=>?_⟩
  obtain⟨a1,⟨a2,a3⟩,a4,a5⟩:=hy.2.2.1 rfl
  refine aE.post (uZ tb bs jb bd c2 c3 tv q mb y Z Ys a c b hb hl ⟨a2,ag⟩ ag) ?_
  rintro v H⟨e,x',rfl,rfl,hS⟩
  exact⟨e,x',rfl,rfl,hS,fun _=>⟨fun h=>absurd h ag,fun h=>absurd h ag,fun h=>absurd h ag,fun _=>SQ.append ⟨a1,⟨a2,a3⟩,a4,a5⟩ hS⟩⟩
 | 3,mX,hs =>
  cases mX
  cases hs
  refine⟨_,_,_,rfl,fun y hy=>?_⟩
  obtain⟨a1,⟨a2,a3⟩,a4,a5⟩:=hy.2.2.2 rfl
  refine aE.post (qq tb bs jb bd tv q mb y _ a1 ⟨a2,ag⟩ ag ag) ?_
  rintro v H⟨e,x',rfl,rfl,hS⟩
  exact⟨e,x',rfl,rfl,hS,fun _=>⟨fun h=>absurd h ag,fun h=>absurd h ag,fun h=>absurd h ag,fun h=>absurd h ag⟩⟩
 | n+4,mX,hs=>cases hs
end Go.Proofs.YtdigdgohdpeebaaGreatDoor
namespace Go.Proofs.YtdigdgohdpeebaaGreatDoor
open Go Go.SL
def List.l8{α:Type}{l:List α}{i:Nat}{x:α}(h:l[i]?=some x):l.set i x=l:=by
 refine List.ext_getElem? fun j=>?_
 by_cases hj:j=i
 ·subst hj
  rw[List.getElem?_set_self (List.getElem?_eq_some_iff.1 h).1,h]
 ·rw[List.getElem?_set_ne (fun e=>hj e.symm)]
attribute [local irreducible] J K aE Ends ae az aQ bP bj aT aU bp bW aD cB
def FG(X:HP)(hK:oD X)(tb bs jb bd:Nat)(tv:Value)(q:Int)(mb:Nat)(ts:List Tk)(br:Bool)(s:SJ)(x:Bl)(i:Int)(hi : -9223372036854775808≤i∧i≤9223372036854775807)(bv:Value)(b:List UInt8)(hb:eM X bv b)(jO:b.length≤900000000)(pv:Value)(p:List Dg)(hp:Ix X pv p)(hl:ts.length≤1000000)(hn:∀y∈ts,y.n≤65536)(hw:∀y∈ts,y.n≤y.ws.length*64)(cL:s.1.A.aw.length≤800000000)(eQ:s.1.A.writes.length≤800000000)(m:Nat)(hm:m≤800000000)(hx:∀t u,dZ (mY x i b) s 0 t→dZ (ki x) t 0 u→SQ m 0 u) :
  aE Tryz.prog 10 [ptr tb,eS x,.int .i64 i,bv,pv] (dL tb bs jb tv ts br++[cB bs bd jb q mb [] s,X])
  (fun r H=>∃(e:Nat) (ek:List Tk) (jM:Bool) (t:SJ),r = .int .i64 (e:Int)∧H=dL tb bs jb tv ek jM++[cB bs bd jb q mb [] t,X]∧Mc x i b p ts s br e ek jM t):=by
 have hf:=n6 tb bs jb tv br ts x hl
 have sT:=yi X hK x i bv b hb jO pv p hp
 have S5:=fun a n c=>uY tb bs jb tv a n c
 have hbv:=hb.1
 have Xe:=hp.1
 obtain⟨ba,bc,rfl,Pc⟩:=hb.2
 obtain⟨pa,pc,rfl,aeo⟩:=hp.2
 unfold iD at S5
 unfold dL eS at hf
 unfold eS at sT
 unfold dL eS
 refine aE.au Tryz.func10 Tryz.ntmps10 fun G F R hE=>?_
 refine aG rfl ?_
 refine bG zr zr bD ?_
 intro b2
 refine bG zr zr bD ?_
 intro b3
 refine bG zr zr bD ?_
 intro b4
 refine bG zr zr bD ?_
 intro b5
 cases br with
 | true =>
  refine aI (H':=ae tb (cl [ptr bs,ptr jb,tv,.bool true] 73)::az 75 1 tv ts.length (ts.map cg)::aW ts::cB bs bd jb q mb [] s::X::ae b2 (cl [ptr tb] 31)::F) ah (go ?_)
  refine ai (H':=ae tb (cl [ptr bs,ptr jb,tv,.bool true] 73)::az 75 1 tv ts.length (ts.map cg)::aW ts::cB bs bd jb q mb [] s::X::F) ah ?_
  refine ad hE Tryz.func10 zr zr ⟨10,ts,true,s,rfl,rfl,.inl ⟨rfl,rfl,rfl,rfl,rfl⟩⟩
 | false =>
 refine aI (H':=ae b2 (cl [ptr tb] 31)::ae b3 (cl (bJ x) 38)::ae tb (cl [ptr bs,ptr jb,tv,.bool false] 73)::az 75 1 tv ts.length (ts.map cg)::aW ts::cB bs bd jb q mb [] s::X::ae b4 (cl [.int .i64 i] 3)::ae b5 (cl [.slice ba b.length bc] 39)::F) ah (go ?_)
 refine aJ (U:=aS) (l:=bJ x) 1 zr zr zr zr zr zr ?_
 refine aO hf ?_
 cases qg:fb ts x with
 | none =>
  unfold Nd
  refine go ?_
  refine ai (H':=ae tb (cl [ptr bs,ptr jb,tv,.bool false] 73)::az 75 1 tv ts.length (ts.map cg)::aW ts::cB bs bd jb q mb [] s::X::F) ah ?_
  refine ad hE Tryz.func10 zr zr ⟨4,ts,false,s,rfl,rfl,.inr (.inl ⟨rfl,qg,rfl,rfl,rfl,rfl⟩)⟩
 | some y =>
 obtain⟨k,hk,AV⟩:=lV qg
 have Cf:y∈ts:=List.mem_of_getElem? hk
 have Gg:=hn y Cf
 have Ev:=hw y Cf
 have rz:∀e ek jM t,(((i<0∨(y.n:Int)≤i)∧e=1∧ek=ts∧jM=false∧t=s)∨((0≤i∧i<y.n)∧dF y.ws y.n i=true∧e=0∧ek=ts∧jM=false∧t=s) ∨
  ((0≤i∧i<y.n)∧dF y.ws y.n i=false∧dw x i b p=false∧e=8∧ek=ts∧jM=false∧t=s) ∨
  ((0≤i∧i<y.n)∧dF y.ws y.n i=false∧dw x i b p=true∧jM=gi e∧iA (dZ (mY x i b)::dZ (ki x)::jD (bL x.d i.toNat p)) s e t∧((e≠0∧ek=ts)∨(e=0∧ek=ts.set k (y.put i.toNat p)))))→Mc x i b p ts s false e ek jM t:=fun e ek jM t h => .inr (.inr ⟨rfl,k,y,qg,hk,AV,h⟩)
 unfold Nd
 refine go ?_
 refine ai (H':=aW ts::ae tb (cl [ptr bs,ptr jb,tv,.bool false] 73)::az 75 1 tv ts.length (ts.map cg)::cB bs bd jb q mb [] s::X::ae b2 (cl [ptr tb] 31)::ae b3 (cl (bJ x) 38)::ae b4 (cl [.int .i64 i] 3)::ae b5 (cl [.slice ba b.length bc] 39)::F) ah ?_
 refine ai (kO hk _) ?_
 refine er (gf y) ?_
 rintro⟨wv,cs,M⟩ hz
 have jj:∀H,ao (ae y.yb (cl (ly y) 79)::ae y.sb (cl [.int .i64 (y.n:Int),wv] 138)::az 134 1 wv y.ws.length (qV y.ws)::aQ (Value.int .i64) y.mb cs::aU 36 M::aW (ts.take k++ts.drop (k+1))::H) (aW ts::H):=fun H=>ao.trans (H2:=mP y (wv,cs,M)++(aW (ts.take k++ts.drop (k+1))::H)) (by unfold mP;exact ah) (ao.trans (iX hz _) (lJ hk _))
 refine ai (H':=ae y.yb (cl (ly y) 79)::ae y.sb (cl [.int .i64 (y.n:Int),wv] 138)::az 134 1 wv y.ws.length (qV y.ws)::aQ (Value.int .i64) y.mb cs::aU 36 M::aW (ts.take k++ts.drop (k+1))::ae tb (cl [ptr bs,ptr jb,tv,.bool false] 73)::az 75 1 tv ts.length (ts.map cg)::cB bs bd jb q mb [] s::X::ae b2 (cl [ptr tb] 31)::ae b3 (cl (bJ x) 38)::ae b4 (cl [.int .i64 i] 3)::ae b5 (cl [.slice ba b.length bc] 39)::F) (by unfold mP;exact ah) ?_
 refine aH (fun w=>Sat G w ([ae y.yb (cl (ly y) 79),ae b4 (cl [.int .i64 i] 3)])) (df 0 8 (.act 8 (df 9 3 .nil))) rfl ak ak ak eo ?_
 refine go ?_
 by_cases MR:i<0
 ·refine aB 27 ((.bool true)) rfl ((congrArg Value.bool (decide_eq_true MR))) (go ?_)
  refine ai (jj _) ?_
  refine ai (H':=ae tb (cl [ptr bs,ptr jb,tv,.bool false] 73)::az 75 1 tv ts.length (ts.map cg)::aW ts::cB bs bd jb q mb [] s::X::F) ah ?_
  refine ad hE Tryz.func10 zr zr ⟨1,ts,false,s,rfl,rfl,rz _ _ _ _ (.inl ⟨.inl MR,rfl,rfl,rfl,rfl⟩)⟩
 refine aB 27 ((.bool false)) rfl ((congrArg Value.bool (decide_eq_false MR))) (go ?_)
 refine bC (lp y.sb y.n wv) ?_
 refine go ?_
 by_cases qY:(y.n:Int)≤i
 ·refine bu 24 ((.bool true)) rfl ((congrArg Value.bool (decide_eq_true qY))) (go ?_)
  refine ai (ao.trans ah (jj (ae tb (cl [ptr bs,ptr jb,tv,.bool false] 73)::az 75 1 tv ts.length (ts.map cg)::cB bs bd jb q mb [] s::X::F))) ?_
  refine ai (H':=ae tb (cl [ptr bs,ptr jb,tv,.bool false] 73)::az 75 1 tv ts.length (ts.map cg)::aW ts::cB bs bd jb q mb [] s::X::F) ah ?_
  refine ad hE Tryz.func10 zr zr ⟨1,ts,false,s,rfl,rfl,rz _ _ _ _ (.inl ⟨.inr qY,rfl,rfl,rfl,rfl⟩)⟩
 refine bu 24 ((.bool false)) rfl ((congrArg Value.bool (decide_eq_false qY))) ?_
 obtain⟨j,hj⟩:∃j:Nat,i=j:=⟨i.toNat,ag⟩
 have RE:i.toNat=j:=by omega
 have hrg:0≤i∧i<y.n:=by omega
 have u7:=uC y.sb y.n wv y.ws Gg Ev i
 unfold eT at u7
 refine go ?_
 refine ai (H':=ae y.yb (cl (ly y) 79)::ae y.sb (cl [.int .i64 (y.n:Int),wv] 138)::az 134 1 wv y.ws.length (qV y.ws)::aQ (Value.int .i64) y.mb cs::aU 36 M::aW (ts.take k++ts.drop (k+1))::ae b4 (cl [.int .i64 i] 3)::ae tb (cl [ptr bs,ptr jb,tv,.bool false] 73)::az 75 1 tv ts.length (ts.map cg)::cB bs bd jb q mb [] s::X::ae b2 (cl [ptr tb] 31)::ae b3 (cl (bJ x) 38)::ae b5 (cl [.slice ba b.length bc] 39)::F) ah ?_
 refine aH (fun w=>Sat G w ([ae y.yb (cl (ly y) 79),ae b4 (cl [.int .i64 i] 3)])) (df 0 5 (.act 5 (.st 6 .nil))) rfl ak ak ak eo ?_
 refine go ?_
 refine bC u7 ?_
 cases Td:dF y.ws y.n i with
 | true =>
  refine go ?_
  refine ai (ao.trans ah (jj (ae tb (cl [ptr bs,ptr jb,tv,.bool false] 73)::az 75 1 tv ts.length (ts.map cg)::cB bs bd jb q mb [] s::X::F))) ?_
  refine ai (H':=ae tb (cl [ptr bs,ptr jb,tv,.bool false] 73)::az 75 1 tv ts.length (ts.map cg)::aW ts::cB bs bd jb q mb [] s::X::F) ah ?_
  refine ad hE Tryz.func10 zr zr ⟨0,ts,false,s,rfl,rfl,rz _ _ _ _ (.inr (.inl ⟨hrg,Td,rfl,rfl,rfl,rfl⟩))⟩
 | false =>
 refine go ?_
 refine aI (ao.trans ah (jj (ae b2 (cl [ptr tb] 31)::ae b3 (cl (bJ x) 38)::ae b4 (cl [.int .i64 i] 3)::ae b5 (cl [.slice ba b.length bc] 39)::ae tb (cl [ptr bs,ptr jb,tv,.bool false] 73)::az 75 1 tv ts.length (ts.map cg)::cB bs bd jb q mb [] s::X::F))) ?_
 refine aI (H':=ae b3 (cl (bJ x) 38)::ae b4 (cl [.int .i64 i] 3)::ae b5 (cl [.slice ba b.length bc] 39)::ae b2 (cl [ptr tb] 31)::X::ae tb (cl [ptr bs,ptr jb,tv,.bool false] 73)::az 75 1 tv ts.length (ts.map cg)::aW ts::cB bs bd jb q mb [] s::F) ah (go ?_)
 refine aJ (U:=aS) (l:=bJ x) 0 zr zr zr zr zr zr (go ?_)
 refine aO sT ?_
 cases La:dw x i b p with
 | false =>
  refine go ?_
  refine ai (H':=ae tb (cl [ptr bs,ptr jb,tv,.bool false] 73)::az 75 1 tv ts.length (ts.map cg)::aW ts::cB bs bd jb q mb [] s::X::F) ah ?_
  refine ad hE Tryz.func10 zr zr ⟨8,ts,false,s,rfl,rfl,rz _ _ _ _ (.inr (.inr (.inl ⟨hrg,Td,La,rfl,rfl,rfl,rfl⟩)))⟩
 | true =>
 have qX:p.length≤10:=by
  unfold dw at La
  split at La
  ·cases La
  ·rw[Bool.and_eq_true]at La
   have:=La.2
   unfold kG at this
   rw[decide_eq_true_iff]at this
   rw[this.2.1]
   exact rh _ _
 have Gh:=AL x.d j ag X (.slice pa p.length pc) p Xe ag
 rw[← hj]at Gh
 unfold dV at Gh
 have Xx:(bL x.d j p).length≤1000000:=by
  have:=hD 2 x.d (eF j p) (by simp[eF];omega) (kr j ag p)
  unfold bL
  unfold eF at this
  omega
 clear hf sT u7 jj
 refine go ?_
 refine ai (H':=ae tb (cl [ptr bs,ptr jb,tv,.bool false] 73)::az 75 1 tv ts.length (ts.map cg)::aW ts::cB bs bd jb q mb [] s::X::ae b2 (cl [ptr tb] 31)::ae b3 (cl (bJ x) 38)::ae b4 (cl [.int .i64 i] 3)::ae b5 (cl [.slice ba b.length bc] 39)::F) ah ?_
 refine iN rfl ?_
 refine Bv 1 (fun y:(Option Addr × Nat) × (Option Addr × Nat) × Nat × Nat=>True) (fun z=>[(4,.slice pa p.length pc),(5,ptr b2),(6,ptr b3),(7,ptr b4),(8,ptr b5),(11,ptr y.yb),(12,.slice z.1.1 4 z.1.2)]) (fun z=>az 82 1 (.slice z.1.1 4 z.1.2) 4 ([.func (.func 35) #[] #[ptr b2,ptr b3,ptr b4,ptr b5],.func (.func 37) #[] #[ptr b2,ptr b3] ]++iu z.2.2.1 z.2.2.2 jb)::az 5 1 (.slice z.2.1.1 (bL x.d j p).length z.2.1.2) (bL x.d j p).length (bV (bL x.d j p))::ae z.2.2.1 (cl [ptr tb] 31)::ae z.2.2.2 (cl [.slice z.2.1.1 (bL x.d j p).length z.2.1.2] 39)::ae tb (cl [ptr bs,ptr jb,tv,.bool false] 73)::az 75 1 tv ts.length (ts.map cg)::aW ts::cB bs bd jb q mb [] s::X::ae b2 (cl [ptr tb] 31)::ae b3 (cl (bJ x) 38)::ae b4 (cl [.int .i64 i] 3)::ae b5 (cl [.slice ba b.length bc] 39)::F) rfl ?_ ?_
 rotate_left
 ·intro tail
  refine aH (fun w=>Sat G w ([ae b2 (cl [ptr tb] 31),ae b3 (cl (bJ x) 38),ae b4 (cl [.int .i64 i] 3)])) (.st 0 (.st 1 (df 3 5 (.fork (.act 2 (.act 8 (.act 9 (.act 10 (.st 11 .nil))))) (.act 8 (.fork (.act 2 (.act 9 (.act 10 (.st 11 .nil)))) (.act 9 (.act 2 (.act 10 (.st 11 .nil)))))))))) rfl ak ak ak eo ?_
  refine go ?_
  refine cD (U:=aS) (cs:=dC x.d) 1 zr zr zr zr zr zr ?_
  repeat'(first|refine qE ?_ ?_|(refine aj (cs:=[.func (.func 35) #[] #[ptr b2,ptr b3,ptr b4,ptr b5],.func (.func 37) #[] #[ptr b2,ptr b3] ]) zr zr zr zr zr zr zr zr zr (fun _ w hw=>by exact hw.cN ah) ?_;intro r0)|(((refine dD Gh ?_));rintro _ _ rfl;((refine aN 0 rfl ?_));rintro a8 c8 rfl)|(((refine dD (S5 a8 (bL x.d j p).length c8) ?_));rintro _ _⟨c2,c3,row,rfl,rfl⟩)|(refine gO ?_)|fail)
  all_goals(
   refine aI (H':=ae r0 (cl [.func (.func 35) #[] #[ptr b2,ptr b3,ptr b4,ptr b5],.func (.func 37) #[] #[ptr b2,ptr b3] ] 82)::ae row (cl (iu c2 c3 jb) 82)::az 5 1 (.slice a8 (bL x.d j p).length c8) (bL x.d j p).length (bV (bL x.d j p))::ae c2 (cl [ptr tb] 31)::ae c3 (cl [.slice a8 (bL x.d j p).length c8] 39)::ae tb (cl [ptr bs,ptr jb,tv,.bool false] 73)::az 75 1 tv ts.length (ts.map cg)::aW ts::cB bs bd jb q mb [] s::X::ae b2 (cl [ptr tb] 31)::ae b3 (cl (bJ x) 38)::ae b4 (cl [.int .i64 i] 3)::ae b5 (cl [.slice ba b.length bc] 39)::F) ah ?_
   refine aI (dR 82 1 r0 2 2 [.func (.func 35) #[] #[ptr b2,ptr b3,ptr b4,ptr b5],.func (.func 37) #[] #[ptr b2,ptr b3] ] [] _ rfl (Nat.le_refl _) (by simp)) ?_
   refine aR (mm:=2) (news:=iu c2 c3 jb) 0 1 rfl rfl rfl rfl rfl rfl rfl rfl rfl rfl rfl rfl (Vw.ae rfl) rfl (by intro v hv;simp[iu]at hv;rcases hv with rfl|rfl <;> rfl) ag (by show(_+_)*8≤_;omega) (fun _=>rfl) (fun _ w hw=>by exact hw.cN ah) ?_
   intro v1
   refine aN 0 rfl ?_
   rintro ja jc rfl
   refine pz ?_
   refine pC tail ((ja,jc),(a8,c8),c2,c3) rfl trivial cm ah)
 rintro⟨⟨ja,jc⟩,⟨a8,c8⟩,c2,c3⟩ -
 simp only
 refine cV 0 rfl ?_
 intro oY
 refine qx (bs:=(bL x.d j p)) 1 rfl ?_
 intro Js
 have iR:=Nv tb bs jb bd tv q mb s 35 37 [ptr b2,ptr b3,ptr b4,ptr b5] [ptr b2,ptr b3] c2 c3 _ [X,ae b2 (cl [ptr tb] 31),ae b3 (cl (bJ x) 38),ae b4 (cl [.int .i64 i] 3),ae b5 (cl [.slice ba b.length bc] 39)] (dZ (mY x i b)) (dZ (ki x)) a8 c8 (bL x.d j p) Js Xx m hm hx
  (KD X tb bs jb bd b2 b3 b4 b5 q mb tv s x i ba bc b _ _ _ hbv ag hi ag ag) (fun u hu=>KB tb bs jb bd b2 b3 q mb tv u x _ _ _ X _ _ (by have:=(oq hu.1).1;omega) (by have:=(oq hu.1).2;omega)) _ _ oY
 unfold iD at iR
 refine ai (ao.pick [9] rfl) (go ?_)
 refine aI (H':=cB bs bd jb q mb [] s::([ae c2 (cl [ptr tb] 31),ae c3 (cl [.slice a8 (bL x.d j p).length c8] 39),az 5 1 (.slice a8 (bL x.d j p).length c8) (bL x.d j p).length (bV (bL x.d j p)),X,ae b2 (cl [ptr tb] 31),ae b3 (cl (bJ x) 38),ae b4 (cl [.int .i64 i] 3),ae b5 (cl [.slice ba b.length bc] 39)]++(az 82 1 (.slice ja 4 jc) 4 ([.func (.func 35) #[] #[ptr b2,ptr b3,ptr b4,ptr b5],.func (.func 37) #[] #[ptr b2,ptr b3] ]++iu c2 c3 jb)::ae tb (cl [ptr bs,ptr jb,tv,.bool false] 73)::az 75 1 tv ts.length (ts.map cg)::aW ts::F))) ah ?_
 refine aI (zq bs bd jb q mb _ s _) ?_
 refine aF iR ?_
 rintro _ _⟨e,t,rfl,rfl,hR⟩
 refine aI (H':=cB bs bd jb q mb [ae c2 (cl [ptr tb] 31),ae c3 (cl [.slice a8 (bL x.d j p).length c8] 39),az 5 1 (.slice a8 (bL x.d j p).length c8) (bL x.d j p).length (bV (bL x.d j p)),X,ae b2 (cl [ptr tb] 31),ae b3 (cl (bJ x) 38),ae b4 (cl [.int .i64 i] 3),ae b5 (cl [.slice ba b.length bc] 39)] t::ae tb (cl [ptr bs,ptr jb,tv,.bool (gi e)] 73)::az 75 1 tv ts.length (ts.map cg)::aW ts::F) ah ?_
 refine aI (uk bs bd jb q mb _ t _) ?_
 have gq:iA (dZ (mY x i b)::dZ (ki x)::jD (bL x.d i.toNat p)) s e t:=by rw[RE];exact hR
 by_cases he:e=0
 ·subst he
  have tK:=Dl y j ag Gg Ev X (.slice pa p.length pc) p Xe ag
  rw[← hj]at tK
  refine aI (H':=aW ts::ae b4 (cl [.int .i64 i] 3)::ae tb (cl [ptr bs,ptr jb,tv,.bool (gi 0)] 73)::az 75 1 tv ts.length (ts.map cg)::cB bs bd jb q mb [] t::X::F) ah ?_
  refine aI (kO hk _) ?_
  refine aI (H':=ae b4 (cl [.int .i64 i] 3)::oA y::aW (ts.take k++ts.drop (k+1))::ae tb (cl [ptr bs,ptr jb,tv,.bool (gi 0)] 73)::az 75 1 tv ts.length (ts.map cg)::cB bs bd jb q mb [] t::X::F) ah (go ?_)
  refine aO tK ?_
  refine aI (H':=oA (y.put j p)::aW (ts.take k++ts.drop (k+1))::ae tb (cl [ptr bs,ptr jb,tv,.bool (gi 0)] 73)::az 75 1 tv ts.length (ts.map cg)::cB bs bd jb q mb [] t::X::F) ah ?_
  refine aI (IJ hk (y.put j p) _) ?_
  have fO:(ts.set k (y.put j p)).length=ts.length:=List.length_set
  have u6:(ts.set k (y.put j p)).map cg=ts.map cg:=by
   rw[List.map_set]
   exact List.l8 (by rw[List.getElem?_map,hk];rfl)
  refine go ?_
  refine ai (H':=ae tb (cl [ptr bs,ptr jb,tv,.bool (gi 0)] 73)::az 75 1 tv (ts.set k (y.put j p)).length ((ts.set k (y.put j p)).map cg)::aW (ts.set k (y.put j p))::cB bs bd jb q mb [] t::X::F) (by rw[fO,u6];exact ah) ?_
  refine ad hE Tryz.func10 zr zr ⟨0,ts.set k (y.put j p),gi 0,t,rfl,rfl,rz _ _ _ _ (.inr (.inr (.inr ⟨hrg,Td,La,rfl,gq,.inr ⟨rfl,by rw[RE]⟩⟩)))⟩
 ·refine aI (H':=ae tb (cl [ptr bs,ptr jb,tv,.bool (gi e)] 73)::az 75 1 tv ts.length (ts.map cg)::aW ts::cB bs bd jb q mb [] t::X::F) ah (go ?_)
  refine aq zr zr ?_ ?_
  ·intro _
   refine go ?_
   refine ad hE Tryz.func10 zr zr ⟨e,ts,gi e,t,rfl,rfl,rz _ _ _ _ (.inr (.inr (.inr ⟨hrg,Td,La,rfl,gq,.inl ⟨he,rfl⟩⟩)))⟩
  ·intro h;exfalso;omega
end Go.Proofs.YtdigdgohdpeebaaGreatDoor
