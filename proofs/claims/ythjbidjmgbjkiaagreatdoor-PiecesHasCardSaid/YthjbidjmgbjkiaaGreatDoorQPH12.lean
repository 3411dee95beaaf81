/- Texts of one claim, joined: Py, Pz, Qa, Qb, Qc, Qd, Uk, Yc, Ya, Yb, Qj, Yd, Ye, Yf. -/
import Derived.Test.YthjbidjmgbjkiaaGreatDoorQPH3
import Derived.Test.YthjbidjmgbjkiaaGreatDoorQPH5
import Derived.Test.YthjbidjmgbjkiaaGreatDoorQPH7
import Derived.Test.YthjbidjmgbjkiaaGreatDoorQPH8
import Derived.Test.YthjbidjmgbjkiaaGreatDoorQPH9
import Derived.Test.YthjbidjmgbjkiaaGreatDoorQPH10
import Derived.Test.YthjbidjmgbjkiaaGreatDoorQPH11
set_option linter.unusedSimpArgs false
set_option linter.unusedVariables false
namespace Go.Proofs.YthjbidjmgbjkiaaGreatDoor
open Go Go.SL
attribute [local irreducible] J K aD Ends ag az aL bK aZ aQ aV bg bQ aC bS
set_option maxRecDepth 20000 in
set_option maxHeartbeats 1000000 in
theorem Fp(tb bs jb bd:Nat)(tv:Value)(q:Int)(mb:Nat)(ts:List Tk)(br:Bool)(s:SJ)(x:Bl)(hl:ts.length≤1000000)(cE:s.1.A.aH.length≤900000000)(eA:s.1.A.writes.length≤900000000)(m:Nat)(hm:m≤800000000)(hx:∀t,cX (eL x) s 0 t→SQ m 0 t) :
  aD Tryz.prog 12 [ptr tb,dQ x] (dg tb bs jb tv ts br++[bS bs bd jb q mb [] s])
  (fun r H=>(br=true∧r = .int .i64 10∧H=dg tb bs jb tv ts br++[bS bs bd jb q mb [] s])∨(br=false∧eS ts x=none∧r = .int .i64 4∧H=dg tb bs jb tv ts br++[bS bs bd jb q mb [] s]) ∨
   (br=false∧(eS ts x).isSome=true∧∃(e:Nat) (t:SJ),cX (eL x) s e t∧((e≠0∧r = .int .i64 (e:Int)∧H=dg tb bs jb tv ts (eZ e)++[bS bs bd jb q mb [] t]) ∨
    (e=0∧∃(e':Nat) (t':SJ) (lM:Value),r = .int .i64 (e':Int)∧H=dg tb bs jb lM (if e'=0 then mW ts x.d else ts) (eZ e')++[bS bs bd jb q mb [] t']∧gy (iE (Ir x.d)) t e' t')))):=by
 have hf:=kJ tb bs jb tv br ts x hl
 have fN:=fun t h=>Gd tb bs jb bd tv q mb ts t x hl m hm (hx t h)
 unfold dg dQ at hf fN ⊢
 refine aD.enter Tryz.func12 ak rfl Tryz.ntmps12 zr zr ?_
 intro G F R hE
 refine aE rfl ?_
 refine bq zr zr bp ?_
 intro b2
 refine bq zr zr bp ?_
 intro b3
 cases br with
 | true =>
  refine go ?_
  refine aj (H':=ag tb (cl [ptr bs,ptr jb,tv,.bool true] 78)::az 80 1 tv ts.length (ts.map bP)::aP ts::bS bs bd jb q mb [] s::F) ad ?_
  ((refine ae hE Tryz.func12 rfl _ rfl (.inl ⟨rfl,rfl,rfl⟩) ad))
 | false =>
  refine go ?_
  refine aI (U:=ao) (l:=bn x) 0 zr zr zr zr zr zr ?_
  ((refine ah zr zr zr zr (hf) ad ?_ bE))
  rintro _ _⟨rfl,rfl⟩
  cases l8:eS ts x with
  | none =>
   unfold GP
   refine go ?_
   refine aj (H':=ag tb (cl [ptr bs,ptr jb,tv,.bool false] 78)::az 80 1 tv ts.length (ts.map bP)::aP ts::bS bs bd jb q mb [] s::F) ad ?_
   ((refine ae hE Tryz.func12 rfl _ rfl (.inr (.inl ⟨rfl,l8,rfl,rfl⟩)) ad))
  | some y =>
   unfold GP
   refine go ?_
   refine au (U:=ao) (cs:=[.func (.func 45) #[] #[ptr b2,ptr b3] ]) zr zr zr zr zr zr zr zr zr bp ?_
   intro row
   refine aG (H':=bS bs bd jb q mb [] s::([ag b2 (cl [ptr tb] 31),ag b3 (cl (bn x) 38)]++(ag row (cl [.func (.func 45) #[] #[ptr b2,ptr b3] ] 86)::ag tb (cl [ptr bs,ptr jb,tv,.bool false] 78)::az 80 1 tv ts.length (ts.map bP)::aP ts::F))) ad ?_
   refine aG (wQ bs bd jb q mb _ s _) ?_
   have gS:=Bd tb bs jb bd row tv q mb s _ _ [ptr b2,ptr b3] _ (CJ tb bs jb bd b2 b3 q mb tv s x [] cE eA)
   unfold gC at gS
   ((refine ah zr zr zr zr (gS) ad ?_ bE))
   rintro _ _⟨e,t,rfl,rfl,hS⟩
   ((refine aG (H':=bS bs bd jb q mb (ag b2 (cl [ptr tb] 31)::ag b3 (cl (bn x) 38)::[]) t::ag tb (cl [ptr bs,ptr jb,tv,.bool (eZ e)] 78)::az 80 1 tv ts.length (ts.map bP)::aP ts::F) ad ?_))
   refine aG (sk bs bd jb q mb _ t _) ?_
   by_cases he:e=0
   ·subst he
    ((refine aG (H':=ag b3 (cl (bn x) 38)::ag b2 (cl [ptr tb] 31)::ag tb (cl [ptr bs,ptr jb,tv,.bool false] 78)::az 80 1 tv ts.length (ts.map bP)::aP ts::bS bs bd jb q mb [] t::F) ad ?_))
    refine go ?_
    refine aI (U:=ao) (l:=bn x) 0 zr zr zr zr zr zr ?_
    ((refine ah zr zr zr zr (fN t hS) ad ?_ bE))
    rintro _ _⟨e',t',lM,rfl,rfl,hR⟩
    refine go ?_
    refine aj (H':=ag tb (cl [ptr bs,ptr jb,lM,.bool (eZ e')] 78)::az 80 1 lM (if e'=0 then mW ts x.d else ts).length ((if e'=0 then mW ts x.d else ts).map bP)::aP (if e'=0 then mW ts x.d else ts)::bS bs bd jb q mb [] t'::F) ad ?_
    ((refine ae hE Tryz.func12 rfl _ rfl (.inr (.inr ⟨rfl,by rw[l8];rfl,0,t,hS,.inr ⟨rfl,e',t',lM,rfl,rfl,hR⟩⟩)) ad))
   ·((refine aG (H':=ag tb (cl [ptr bs,ptr jb,tv,.bool (eZ e)] 78)::az 80 1 tv ts.length (ts.map bP)::aP ts::bS bs bd jb q mb [] t::F) ad ?_))
    refine go ?_
    refine aw zr zr ?_ ?_
    ·intro _
     refine go ?_
     ((refine ae hE Tryz.func12 rfl _ rfl (.inr (.inr ⟨rfl,by rw[l8];rfl,e,t,hS,.inl ⟨he,rfl,rfl⟩⟩)) ad))
    ·intro h;exfalso;omega
def Ya(x:Bl)(ts:List Tk)(s:SJ)(br:Bool)(r:Int)(gW:List Tk)(lA:Bool)(t:SJ):Prop :=
 (br=true∧r=10∧gW=ts∧lA=br∧t=s)∨(br=false∧eS ts x=none∧r=4∧gW=ts∧lA=br∧t=s) ∨
 (br=false∧∃y,eS ts x=some y∧((rW y.ws<y.n∧r=9∧gW=ts∧lA=br∧t=s) ∨
  (¬rW y.ws<y.n∧∃(e:Nat) (u:SJ),cX (dr x) s e u∧((e≠0∧e≠8∧r=e∧gW=ts∧lA=eZ e∧t=u) ∨
   ((e=0∨e=8)∧∃e':Nat,r=(if e'=0 then(e:Int)else e')∧gW=(if e'=0 then mW ts x.d else ts)∧lA=eZ e'∧gy (iE (Ir x.d)) u e' t)))))
set_option maxRecDepth 20000 in
set_option maxHeartbeats 1000000 in
theorem C3(X:HP)(hK:mX X)(tb bs jb bd:Nat)(tv:Value)(q:Int)(mb:Nat)(ts:List Tk)(br:Bool)(s:SJ)(x:Bl)(hl:ts.length≤1000000)(hn:∀y∈ts,y.n≤65536)(hw:∀y∈ts,y.ws.length≤65536)(cE:s.1.A.aH.length≤900000000)(eA:s.1.A.writes.length≤900000000)(m:Nat)(hm:m≤800000000)(hx:∀e t,cX (dr x) s e t→SQ m 0 t) :
  aD Tryz.prog 11 [ptr tb,dQ x] (dg tb bs jb tv ts br++[bS bs bd jb q mb [] s,X])
  (fun r H=>∃(ri:Int) (gW:List Tk) (lM:Value) (lA:Bool) (t:SJ),r = .int .i64 ri∧H=dg tb bs jb lM gW lA++[bS bs bd jb q mb [] t,X]∧Ya x ts s br ri gW lA t):=by
 have hf:=kJ tb bs jb tv br ts x hl
 have fN:=fun e t h=>Gd tb bs jb bd tv q mb ts t x hl m hm (hx e t h)
 unfold dg dQ at hf fN ⊢
 refine aD.enter Tryz.func11 ak rfl Tryz.ntmps11 zr zr ?_
 intro G F R hE
 refine aE rfl ?_
 refine bq zr zr bp ?_
 intro b2
 refine bq zr zr bp ?_
 intro b3
 refine go ?_
 refine aI (U:=ao) (l:=bn x) 0 zr zr zr zr zr zr ?_
 ((refine ah zr zr zr zr (hf) ad ?_ bE))
 rintro _ _⟨rfl,rfl⟩
 cases br with
 | true =>
  refine go ?_
  refine aj (H':=ag tb (cl [ptr bs,ptr jb,tv,.bool true] 78)::az 80 1 tv ts.length (ts.map bP)::aP ts::bS bs bd jb q mb [] s::X::F) ad ?_
  ((refine ae hE Tryz.func11 rfl _ rfl ⟨10,ts,tv,true,s,rfl,rfl,.inl ⟨rfl,rfl,rfl,rfl,rfl⟩⟩ ad))
 | false =>
  cases l8:eS ts x with
  | none =>
   unfold GP
   refine go ?_
   refine aj (H':=ag tb (cl [ptr bs,ptr jb,tv,.bool false] 78)::az 80 1 tv ts.length (ts.map bP)::aP ts::bS bs bd jb q mb [] s::X::F) ad ?_
   ((refine ae hE Tryz.func11 rfl _ rfl ⟨4,ts,tv,false,s,rfl,rfl,.inr (.inl ⟨rfl,l8,rfl,rfl,rfl,rfl⟩)⟩ ad))
  | some y =>
   obtain⟨i,hi,FW⟩:=gU l8
   have xF:y∈ts:=List.mem_of_getElem? hi
   have BV:=hn y xF
   have zQ:=hw y xF
   have hcb:=uQ y.ws
   unfold GP
   refine go ?_
   refine aj (H':=aP ts::ag tb (cl [ptr bs,ptr jb,tv,.bool false] 78)::az 80 1 tv ts.length (ts.map bP)::bS bs bd jb q mb [] s::X::ag b2 (cl [ptr tb] 31)::ag b3 (cl (bn x) 38)::F) ad ?_
   refine aj (iM hi _) ?_
   refine dM (eG y) ?_
   rintro⟨wv,cs,M⟩ hz
   refine aj (H':=ag y.yb (cl (iY y) 83)::ag y.sb (cl [.int .i64 (y.n:Int),wv] 101)::az 102 1 wv y.ws.length (qV y.ws)::aL (Value.int .i64) y.mb cs::aV 36 M::aP (ts.take i++ts.drop (i+1))::ag tb (cl [ptr bs,ptr jb,tv,.bool false] 78)::az 80 1 tv ts.length (ts.map bP)::bS bs bd jb q mb [] s::X::ag b2 (cl [ptr tb] 31)::ag b3 (cl (bn x) 38)::F) (by unfold ki;exact ad) ?_
   have Cf:=qN y.sb y.n wv y.ws zQ
   unfold dO at Cf
   refine aF (fun w=>Sat G w ([ag y.yb (cl (iY y) 83)])) (.st 0 (.st 1 (.st 2 (.st 3 (.st 5 (.st 6 (.st 7 (.st 8 (.act 4 (.act 9 (.st 10 (.st 11 .nil)))))))))))) rfl ak ak ak (fun w hw=>hw.aX ad) ?_
   refine go ?_
   ((refine ah rfl rfl rfl rfl (Cf) ad ?_ (fun _ _ w hp hw=>by obtain⟨rfl,rfl⟩:=hp;exact hw.aX ad)))
   rintro _ _⟨rfl,rfl⟩
   refine go ?_
   ((refine ah rfl rfl rfl rfl (ly y.sb y.n wv) ad ?_ (fun _ _ w hp hw=>by obtain⟨rfl,rfl⟩:=hp;exact hw.aX ad)))
   rintro _ _⟨rfl,rfl⟩
   refine go ?_
   refine aj (H':=ki y (wv,cs,M)++(aP (ts.take i++ts.drop (i+1))::ag tb (cl [ptr bs,ptr jb,tv,.bool false] 78)::az 80 1 tv ts.length (ts.map bP)::bS bs bd jb q mb [] s::X::ag b2 (cl [ptr tb] 31)::ag b3 (cl (bn x) 38)::F)) (by unfold ki;exact ad) ?_
   refine aj (gB hz _) ?_
   refine aj (jE hi _) ?_
   refine aj (H':=ag b3 (cl (bn x) 38)::ag b2 (cl [ptr tb] 31)::ag tb (cl [ptr bs,ptr jb,tv,.bool false] 78)::az 80 1 tv ts.length (ts.map bP)::aP ts::bS bs bd jb q mb [] s::X::F) ad ?_
   refine eO zr zr ?_ ?_
   ·intro cO
    refine go ?_
    refine aj (H':=ag tb (cl [ptr bs,ptr jb,tv,.bool false] 78)::az 80 1 tv ts.length (ts.map bP)::aP ts::bS bs bd jb q mb [] s::X::F) ad ?_
    ((refine ae hE Tryz.func11 rfl _ rfl ⟨9,ts,tv,false,s,rfl,rfl,.inr (.inr ⟨rfl,y,l8,.inl ⟨by simpa using cO,rfl,rfl,rfl,rfl⟩⟩)⟩ ad))
   intro eQ
   have Tg:¬rW y.ws<y.n:=by simpa using eQ
   refine go ?_
   refine au (U:=ao) (cs:=[.func (.func 42) #[] #[ptr b2,ptr b3] ]) zr zr zr zr zr zr zr zr zr bp ?_
   intro row
   refine aG (H':=bS bs bd jb q mb [] s::([ag b2 (cl [ptr tb] 31),ag b3 (cl (bn x) 38),X]++(ag row (cl [.func (.func 42) #[] #[ptr b2,ptr b3] ] 86)::ag tb (cl [ptr bs,ptr jb,tv,.bool false] 78)::az 80 1 tv ts.length (ts.map bP)::aP ts::F))) ad ?_
   refine aG (wQ bs bd jb q mb _ s _) ?_
   have gS:=Bd tb bs jb bd row tv q mb s _ _ [ptr b2,ptr b3] _ (Ac X hK tb bs jb bd b2 b3 q mb tv s x [] cE eA)
   unfold gC at gS
   ((refine ah zr zr zr zr (gS) ad ?_ bE))
   rintro _ _⟨e,t,rfl,rfl,hS⟩
   ((refine aG (H':=bS bs bd jb q mb (ag b2 (cl [ptr tb] 31)::ag b3 (cl (bn x) 38)::X::[]) t::ag tb (cl [ptr bs,ptr jb,tv,.bool (eZ e)] 78)::az 80 1 tv ts.length (ts.map bP)::aP ts::F) ad ?_))
   refine aG (sk bs bd jb q mb _ t _) ?_
   ((refine aG (H':=ag b3 (cl (bn x) 38)::ag b2 (cl [ptr tb] 31)::ag tb (cl [ptr bs,ptr jb,tv,.bool (eZ e)] 78)::az 80 1 tv ts.length (ts.map bP)::aP ts::bS bs bd jb q mb [] t::X::F) ad ?_))
   by_cases KT:e=0∨e=8
   ·have hb:eZ e=false:=decide_eq_false ai
    rw[hb]
    have jT:∀e:Nat,(e=0∨e=8)→True:=fun _ _=>trivial
    rcases KT with rfl|rfl
    all_goals(
     refine go ?_
     refine aI (U:=ao) (l:=bn x) 0 zr zr zr zr zr zr ?_
     ((refine ah zr zr zr zr (fN _ t hS) ad ?_ bE))
     rintro _ _⟨e',t',lM,rfl,rfl,hR⟩
     by_cases Jr:e'=0
     ·subst Jr
      refine go ?_
      refine aj (H':=ag tb (cl [ptr bs,ptr jb,lM,.bool (eZ 0)] 78)::az 80 1 lM (mW ts x.d).length ((mW ts x.d).map bP)::aP (mW ts x.d)::bS bs bd jb q mb [] t'::X::F) ad ?_
      ((refine ae hE Tryz.func11 rfl _ rfl ⟨_,mW ts x.d,lM,eZ 0,t',rfl,rfl,.inr (.inr ⟨rfl,y,l8,.inr ⟨Tg,_,t,hS,.inr ⟨ai,0,rfl,rfl,rfl,hR⟩⟩⟩)⟩ ad))
     ·refine go ?_
      refine aw zr zr ?_ ?_
      ·intro _
       refine go ?_
       refine aj (H':=ag tb (cl [ptr bs,ptr jb,lM,.bool (eZ e')] 78)::az 80 1 lM (if e'=0 then mW ts x.d else ts).length ((if e'=0 then mW ts x.d else ts).map bP)::aP (if e'=0 then mW ts x.d else ts)::bS bs bd jb q mb [] t'::X::F) ad ?_
       ((refine ae hE Tryz.func11 rfl _ rfl ⟨e',_,lM,eZ e',t',rfl,rfl,.inr (.inr ⟨rfl,y,l8,.inr ⟨Tg,_,t,hS,.inr ⟨ai,e',(if_neg Jr).symm,rfl,rfl,hR⟩⟩⟩)⟩ ad))
      ·intro h;exfalso;omega)
   ·refine go ?_
    ((refine aB 37 ((.bool true)) rfl ((congrArg Value.bool (by simp;omega))) ?_))
    refine go ?_
    refine eO zr zr ?_ ?_
    ·intro _
     refine go ?_
     refine aj (H':=ag tb (cl [ptr bs,ptr jb,tv,.bool (eZ e)] 78)::az 80 1 tv ts.length (ts.map bP)::aP ts::bS bs bd jb q mb [] t::X::F) ad ?_
     ((refine ae hE Tryz.func11 rfl _ rfl ⟨e,ts,tv,eZ e,t,rfl,rfl,.inr (.inr ⟨rfl,y,l8,.inr ⟨Tg,e,t,hS,.inl ⟨ai,ai,rfl,rfl,rfl,rfl⟩⟩⟩)⟩ ad))
    ·intro h
     exfalso
     simp at h
     omega
end Go.Proofs.YthjbidjmgbjkiaaGreatDoor
namespace Go.Proofs.YthjbidjmgbjkiaaGreatDoor
open Go Go.SL
attribute [local irreducible] J K aD Ends ag az aL bK aZ aQ aV bg bQ aC
def cq(s:ek)(x:Bl)(i:Int):List UInt8 × Nat:=if p6 s.aT x then(match dN x i with
 | none=>([],1)
 | some (a,n)=>s.A.read (cL kS x.d) a n)else([],4)
set_option maxRecDepth 20000 in
theorem wO(bs bd:Nat)(q:Int)(mb:Nat)(s:ek)(x:Bl)(i:Int):aD Tryz.prog 48 [ptr bs,dQ x,.int .i64 i] (bT bs bd q mb s)
  (fun r H=>∃rv,r = .tuple #[rv,.int .i64 ((cq s x i).2:Int)]∧H=az 5 1 rv (cq s x i).1.length (bV (cq s x i).1)::bT bs bd q mb s):=by
 obtain⟨A,aT,brk⟩:=s
 have ho:=Bz bs bd q mb brk aT x
 have gw:=wP x i
 have hf:=mL kS x.d (by decide)
 unfold dQ dV at *
 unfold bT
 dsimp only
 refine aD.enter Tryz.func48 ak rfl Tryz.ntmps48 zr zr ?_
 intro G F R hE
 refine aE rfl ?_
 refine bq zr zr bp ?_
 intro b4
 refine go ?_
 refine aI (U:=ao) (l:=bn x) 0 zr zr zr zr zr zr ?_
 ((refine ah zr zr zr zr (ho) ad ?_ bE))
 rintro _ _⟨rfl,rfl⟩
 cases hh:p6 aT x with
 | false =>
  have h1:cq ⟨A,aT,brk⟩ x i=([],4):=by unfold cq;rw[if_neg (by simp[hh])]
  rw[h1]at hE
  refine go ?_
  refine aj (bw 5 1 none _) ?_
  refine aj (H':=az 5 1 (.slice none 0 0) 0 []::ag bs (cl (dK bd q mb brk) 108)::aL dV mb (cW aT)::aC bd A::F) ad ?_
  ((refine ae hE Tryz.func48 rfl _ rfl ⟨_,rfl,rfl⟩ ad))
 | true =>
  refine go ?_
  refine aI (U:=ao) (l:=bn x) 2 zr zr zr zr zr zr ?_
  ((refine go ?_;(refine ah zr zr zr zr (gw) ad ?_ bE)))
  rintro _ _⟨rfl,rfl⟩
  cases hs:dN x i with
  | none =>
   have h1:cq ⟨A,aT,brk⟩ x i=([],1):=by unfold cq;rw[if_pos (by simp[hh]),hs]
   rw[h1]at hE
   refine go ?_
   refine aj (bw 5 1 none _) ?_
   refine aj (H':=az 5 1 (.slice none 0 0) 0 []::ag bs (cl (dK bd q mb brk) 108)::aL dV mb (cW aT)::aC bd A::F) ad ?_
   ((refine ae hE Tryz.func48 rfl _ rfl ⟨_,rfl,rfl⟩ ad))
  | some an =>
   obtain⟨a,n⟩:=an
   have h1:cq ⟨A,aT,brk⟩ x i=A.read (cL kS x.d) a n:=by unfold cq;rw[if_pos (by simp[hh]),hs]
   rw[h1]at hE
   have qA:=As bd A (cL kS x.d) a n
   refine go ?_
   refine aj (H':=ag b4 (cl (bn x) 38)::ag bs (cl (dK bd q mb brk) 108)::aL dV mb (cW aT)::aC bd A::F) ad ?_
   refine aF (fun w=>Sat G w ([ag b4 (cl (bn x) 38),ag bs (cl (dK bd q mb brk) 108)])) (.st 0 (.st 1 (.st 2 (.st 3 (.st 4 (.st 5 (.st 7 (.st 8 (.act 6 (.act 9 (.st 10 (.st 11 (.st 12 (.st 13 .nil)))))))))))))) rfl ak ak ak (fun w hw=>hw.aX ad) ?_
   refine go ?_
   refine bW (U:=ao) 0 zr zr zr zr zr zr ?_
   refine go ?_
   ((refine ah rfl rfl rfl rfl (hf) ad ?_ (fun _ _ w hp hw=>by obtain⟨rfl,rfl⟩:=hp;exact hw.aX ad)))
   rintro _ _⟨rfl,rfl⟩
   refine go ?_
   ((refine ah rfl rfl rfl rfl (qA) ad ?_ (fun _ _ w hp hw=>by obtain⟨r,rfl,rfl⟩:=hp;exact hw.aX ad)))
   rintro _ _⟨r,rfl,rfl⟩
   refine go ?_
   refine aj (H':=az 5 1 r (A.read (cL kS x.d) a n).1.length (bV (A.read (cL kS x.d) a n).1)::ag bs (cl (dK bd q mb brk) 108)::aL dV mb (cW aT)::aC bd A::F) ad ?_
   ((refine ae hE Tryz.func48 rfl _ rfl ⟨_,rfl,rfl⟩ ad))
end Go.Proofs.YthjbidjmgbjkiaaGreatDoor
namespace Go.Proofs.YthjbidjmgbjkiaaGreatDoor
open Go Go.SL
theorem M9(W:List iq):∀v∈qV W,v.oneCell'=true:=by
 intro v hv
 obtain⟨x,_,rfl⟩:=List.mem_map.1 hv
 rfl
attribute [local irreducible] J K aD Ends ag az aL bK aZ aQ aV bg bQ aC
theorem Ov(A:HP)(v:Value)(W:List iq)(hv:Vw A v W.length (qV W))(hlen:W.length≤1000000) :
  aD Tryz.prog 163 [v] [A] (fun r H=>H=[az 102 1 r W.length (qV W),A]):=by
 obtain⟨a,c0,rfl⟩:=hv.shape
 cases a with
 | none =>
  have hb:W=[]:=by
   obtain⟨a,cap,h1,h2|⟨b,o,h2,_⟩⟩:=hv
   ·have:=congrArg List.length h2
    rw[D2]at this
    exact List.eq_nil_of_length_eq_zero (by rw[this];rfl)
   ·simp only[Value.slice.injEq]at h1;rw[← h1.1]at h2;cases h2
  subst hb
  refine aD.enter Tryz.func163 ak rfl Tryz.ntmps163 zr zr ?_
  intro G F R hR
  refine go ?_
  refine aj (bw 102 1 none _) ?_
  refine ae hR Tryz.func163 rfl _ zr zr (aq.fin [0,1] 0 zr zr)
 | some a =>
  refine aD.enter Tryz.func163 ak rfl Tryz.ntmps163 zr zr ?_
  intro G F R hR
  refine go ?_
  refine au (U:=ao) (cs:=[]) zr zr zr zr zr zr zr zr zr bp ?_
  intro b0
  refine go ?_
  refine aG (dZ 102 1 b0 0 0 [] [] _ rfl (Nat.le_refl _) (by simp)) ?_
  refine bh (U:=ao) (mm:=W.length) (news:=qV W) 0 1 zr zr zr zr zr zr zr zr zr zr zr zr hv (by rw[D2];exact(Nat.mul_one _).symm) (M9 W) ai (by show _*8≤_;omega) (fun _=>rfl) bp ?_
  intro v'
  have e1:(0:Nat)+W.length=W.length:=by omega
  rw[e1,List.nil_append]
  refine go ?_
  refine ae hR Tryz.func163 rfl _ zr zr (aq.fin [0,1] 0 zr zr)
theorem Oj(p q:iq):aD Tryz.prog 104 [.int .u64 (p.toNat:Int),.int .u64 (q.toNat:Int)] [] (fun r H=>r = .int .u64 ((Uf p q).toNat:Int)∧H=[]):=by
 refine aD.enter Tryz.func104 ak rfl Tryz.ntmps104 zr zr ?_
 intro G F R hE
 refine go ?_
 ((refine bj 4 ((.int .u64 ((Uf p q).toNat:Int))) rfl ((congrArg (Value.int .u64) (Wb _ _))) ?_))
 ((refine ae hE Tryz.func104 rfl _ rfl ⟨rfl,rfl⟩ ad))
theorem Hg(tb bs jb bd b2 b3:Nat)(q:Int)(mb:Nat)(tv:Value)(s:ek)(x:Bl)(cE:s.A.aH.length≤900000000)(eA:s.A.writes.length≤900000000) :
  aD Tryz.prog 38 [ptr b2,ptr b3] (gC tb bs jb tv false::(bT bs bd q mb s++[ag b2 (cl [ptr tb] 31),ag b3 (cl (bn x) 38)]))
  (fun r H=>∃(e:Nat) (t:ek),r = .int .i64 (e:Int)∧H=gC tb bs jb tv false::(bT bs bd q mb t++[ag b2 (cl [ptr tb] 31),ag b3 (cl (bn x) 38)])∧kh x s e t):=by
 have nM:=Og bs bd q mb s x cE eA
 unfold dQ at nM
 unfold gC
 refine aD.enter Tryz.func38 ak rfl Tryz.ntmps38 zr zr ?_
 intro G F R hE
 refine go ?_
 refine aF (fun w=>Sat G w ([ag tb (cl [ptr bs,ptr jb,tv,.bool false] 78),ag b2 (cl [ptr tb] 31),ag b3 (cl (bn x) 38)])) (.st 0 (.st 1 (.st 2 (.st 3 (.st 4 (.act 5 (.st 6 .nil))))))) rfl ak ak ak (fun w hw=>hw.aX ad) ?_
 refine go ?_
 refine bD (U:=ao) (l:=bn x) 2 zr zr zr zr zr zr ?_
 refine go ?_
 refine ah rfl rfl rfl rfl nM ad ?_ (fun _ _ w hp hw=>by obtain⟨_,_,rfl,rfl,_⟩:=hp;exact hw.aX ad)
 rintro _ _⟨e,t,rfl,rfl,hR⟩
 refine go ?_
 refine aj (H':=ag tb (cl [ptr bs,ptr jb,tv,.bool false] 78)::(bT bs bd q mb t++(ag b2 (cl [ptr tb] 31)::ag b3 (cl (bn x) 38)::F))) ad ?_
 ((refine ae hE Tryz.func38 rfl _ rfl ⟨e,t,rfl,rfl,hR⟩ ad))
theorem Hi(X:HP)(tb bs jb bd b2 b3 b4 b5:Nat)(q:Int)(mb:Nat)(tv:Value)(s:ek)(x:Bl)(i:Int)(a:Option Addr)(c:Nat)(b:List UInt8)(hv:Vw X (.slice a b.length c) b.length (bV b))(jV:b.length≤1000000000)(hi : -9223372036854775808≤i∧i≤9223372036854775807)(cE:s.A.aH.length≤900000000)(eA:s.A.writes.length≤900000000) :
  aD Tryz.prog 36 [ptr b2,ptr b3,ptr b4,ptr b5] (gC tb bs jb tv false::(bT bs bd q mb s++[X,ag b2 (cl [ptr tb] 31),ag b3 (cl (bn x) 38),ag b4 (cl [.int .i64 i] 3),ag b5 (cl [.slice a b.length c] 39)]))
  (fun r H=>∃(e:Nat) (t:ek),r = .int .i64 (e:Int)∧H=gC tb bs jb tv false::(bT bs bd q mb t++[X,ag b2 (cl [ptr tb] 31),ag b3 (cl (bn x) 38),ag b4 (cl [.int .i64 i] 3),ag b5 (cl [.slice a b.length c] 39)])∧lJ x i b s e t):=by
 have nM:=T4 X bs bd q mb s x i _ b hv jV hi cE eA
 unfold dQ at nM
 unfold gC
 refine aD.enter Tryz.func36 ak rfl Tryz.ntmps36 zr zr ?_
 intro G F R hE
 refine go ?_
 refine aF (fun w=>Sat G w ([ag tb (cl [ptr bs,ptr jb,tv,.bool false] 78),ag b2 (cl [ptr tb] 31),ag b3 (cl (bn x) 38),ag b4 (cl [.int .i64 i] 3),ag b5 (cl [.slice a b.length c] 39)])) (.st 0 (.st 1 (.st 2 (.st 3 (.st 4 (.st 5 (.st 6 (.act 7 (.st 8 .nil))))))))) rfl ak ak ak (fun w hw=>hw.aX ad) ?_
 refine go ?_
 refine bD (U:=ao) (l:=bn x) 2 zr zr zr zr zr zr ?_
 (repeat((refine aJ ?_;first|refine eu (U:=ao) 3 zr zr zr zr zr zr ?_|refine eu (U:=ao) 4 zr zr zr zr zr zr ?_)))
 refine ah rfl rfl rfl rfl nM ad ?_ (fun _ _ w hp hw=>by obtain⟨_,_,rfl,rfl,_⟩:=hp;exact hw.aX ad)
 rintro _ _⟨e,t,rfl,rfl,hR⟩
 refine go ?_
 refine aj (H':=ag tb (cl [ptr bs,ptr jb,tv,.bool false] 78)::(bT bs bd q mb t++(X::ag b2 (cl [ptr tb] 31)::ag b3 (cl (bn x) 38)::ag b4 (cl [.int .i64 i] 3)::ag b5 (cl [.slice a b.length c] 39)::F))) ad ?_
 ((refine ae hE Tryz.func36 rfl _ rfl ⟨e,t,rfl,rfl,hR⟩ ad))
attribute [local irreducible] LI tX
set_option maxRecDepth 20000 in
theorem C7(jb bd:Nat)(name:ByteArray)(F6:name.size≤1000000000)(A:Ab)(x:JN)(V:HP)(lv:Value)(ls:List (List UInt8))(hv:qi V lv ls)(hl:(ls.flatMap cy).length≤100000000)(hn:ls.length≤1000000000)(cE:A.aH.length≤900000000)(zR:A.writes.length≤900000000) :
    aD Tryz.prog 67 [ptr jb,lv] [aC bd A,oz jb bd name x,V]
      (fun r H=>∃(e:Nat) (A':Ab) (x':JN),r = .int .i64 (e:Int)∧H=[aC bd A',oz jb bd name x',V]∧sG name A x ls e A' x'):=by
  obtain⟨n,s,c,bk⟩:=x
  have lD:=hv
  obtain⟨cs,dj,lz,⟨a,cc,rfl,hcc⟩,nL⟩:=hv
  dsimp only [oz,jr]
  refine aD.enter Tryz.func67 ak rfl Tryz.ntmps67 zr zr ?_
  intro G F R hE
  unfold sG at hE
  cases bk with
  | true =>
    simp only[if_true]at hE
    refine go ?_
    ((refine ae hE Tryz.func67 rfl _ rfl ⟨10,_,⟨n,s,c,true⟩,rfl,rfl,rfl,rfl,rfl⟩ ad))
  | false =>
    simp only[Bool.false_eq_true,if_false]at hE
    refine go ?_
    refine bo (fun i:Nat=>i≤ls.length∧∀(j:Nat) (y:List UInt8),j<i→ls[j]?=some y→y.length≤4096) (fun i=>ls.length-i)
      (fun i=>[(0,ptr jb),(0+1,.slice a ls.length cc),(5,.int .i64 (((ls.take i).flatMap cy).length:Int)),(12,.slice a ls.length cc),(13,.int .i64 ls.length),(14,.int .i64 (i:Int))])
      (fun _=>aC bd A::ag jb (cl [ptr bd,.string name,.int .i64 n,.int .i64 s,.int .i64 c,.bool false] 167)::V::F) 0 ⟨Nat.zero_le _,fun j y hj=>by omega⟩ rfl bY ad ?_
    rintro i⟨hi,rF⟩ ih
    refine go ?_
    refine aw zr zr ?_ ?_
    case' refine_1 =>
      intro cO
      have Ca:i<ls.length:=by omega
      obtain⟨y,hy⟩:∃y,ls[i]?=some y:=⟨ls[i],by simp⟩
      obtain⟨cv,qd,hby⟩:=nL i y hy
      obtain⟨b1,o1,k1,AK⟩:=dj.some (by intro e;rw[e]at qd;simp at qd)
      simp only[Value.slice.injEq,true_and]at AK
      obtain⟨rfl,rfl⟩:=AK
      obtain⟨ay,ky,rfl,hky⟩:=hby.2
      have Ew:=yR hy
      have qS:((ls.take (i+1)).flatMap cy).length=((ls.take i).flatMap cy).length+(cy y).length:=by rw[Ew,List.length_append]
      have hle:=Gc ls (i+1)
      refine go ?_
      refine cK (U:=ao) i zr zr zr zr zr zr zr zr Ca ?_
      refine bB (U:=ao) 2 i zr zr zr dj rfl qd zr zr ?_
      refine go ?_
      refine aw zr zr ?_ ?_
      · intro rL
        have ku:(ls.any fun b=>decide (4096<b.length))=true:=List.any_eq_true.2 ⟨y,List.mem_of_getElem? hy,decide_eq_true ai⟩
        simp only[if_pos ku]at hE
        refine go ?_
        ((refine ae hE Tryz.func67 rfl _ rfl ⟨1,_,⟨n,s,c,false⟩,rfl,rfl,rfl,rfl,rfl⟩ ad))
      intro lF
      have abA:=oK y ai
      refine go ?_
      ((refine ah zr zr zr zr (oJ V _ y hby ai) ad ?_ bE))
      rintro r _ rfl
      ((refine aM 0 rfl ?_))
      rintro ra rc rfl
      refine go ?_
      ((refine bj 5 ((.int .i64 (((ls.take (i+1)).flatMap cy).length:Int))) rfl ((congrArg (Value.int .i64) (by rw[qS];simp))) ?_))
      refine go ?_
      refine aO ih (i+1) rfl (⟨ai,fun j z hj hz=>by
        rcases Nat.lt_or_ge j i with h|h
        · exact rF j z h hz
        · have:j=i:=by omega
          subst this
          rw[hy]at hz;cases hz;omega⟩) ai bY ad
    intro eQ
    have sJ:i=ls.length:=by omega
    subst sJ
    rw[List.take_length]
    have ku:¬(ls.any fun b=>decide (4096<b.length))=true:=fun h=>by
      obtain⟨y,hy,hb⟩:=List.any_eq_true.1 h
      obtain⟨j,hj,rfl⟩:=List.getElem_of_mem hy
      have:=rF j _ ai (List.getElem?_eq_getElem hj)
      simp at hb;omega
    simp only[if_neg ku]at hE
    refine go ?_
    refine aw zr zr ?_ ?_
    · intro rL
      have qe:524288<(ls.flatMap cy).length:=by omega
      simp only[if_pos qe]at hE
      refine go ?_
      ((refine ae hE Tryz.func67 rfl _ rfl ⟨3,_,⟨n,s,c,false⟩,rfl,rfl,rfl,rfl,rfl⟩ ad))
    intro lF
    have qe:¬524288<(ls.flatMap cy).length:=by omega
    simp only[if_neg qe]at hE
    refine go ?_
    ((refine ah zr zr zr zr (FI jb bd name n s c false A V _ ls lD ai hn F6 cE zR) ad ?_ bE))
    rintro _ _⟨e,⟨A',n',s',c'⟩,rfl,rfl,rH⟩
    refine go ?_
    ((refine ah zr zr zr zr (qE jb bd name n' s' c' false e) ad ?_ bE))
    rintro _ _⟨rfl,rfl⟩
    refine go ?_
    ((refine ae hE Tryz.func67 rfl _ rfl ⟨e,A',⟨n',s',c',decide (e≠0)⟩,rfl,rfl,_,rH,rfl,rfl⟩ ad))
end Go.Proofs.YthjbidjmgbjkiaaGreatDoor
namespace Go.Proofs.YthjbidjmgbjkiaaGreatDoor
open Go Go.SL
def i'(b:List UInt8):Option (UInt8 × Dg × List (List UInt8)):=match pS b with
 | some (x1::x2::l)=>if((x1::x2::l).getLast?.map (·.1))=some ((2+l.length:Nat):Int)∧x1.2.length=1∧x2.2.length=32 then some (x1.2.headD 0,uB x2.2,l.map (·.2))else none
 | _=>none
def qw(b:List UInt8):Option Nat:=(dt b).bind fun n=>if n≤1048576 then some n else none
def gh(b:List UInt8):Option Dg:=if b.length=32 then some (uB b)else none
def BH(n:Nat):Int:=IntKind.u64.wrap ((BitVec.ofInt IntKind.u64.bits (n:Int) &&& BitVec.ofInt IntKind.u64.bits 4294967295).toNat:Int)
theorem yB(n:Nat):∃k:Nat,BH n=k∧k<4294967296∧(n≤1048576→k=n):=by
 have e1:(BitVec.ofInt IntKind.u64.bits (4294967295:Int)).toNat=4294967295:=by decide
 obtain⟨k,hk⟩:∃k,k=(BitVec.ofInt IntKind.u64.bits (n:Int) &&& BitVec.ofInt IntKind.u64.bits 4294967295).toNat:=⟨_,rfl⟩
 have hle:k≤4294967295:=by
  rw[hk,BitVec.toNat_and,e1]
  exact Nat.and_le_right
 refine⟨k,?_,ai,fun hn=>?_⟩
 ·unfold BH
  rw[← hk]
  exact cD (by simp only[fz];omega)
 ·rw[hk,BitVec.toNat_and,e1]
  have e2:(BitVec.ofInt IntKind.u64.bits (n:Int)).toNat=n:=by
   rw[BitVec.ofInt_natCast,BitVec.toNat_ofNat]
   exact Nat.mod_eq_of_lt (by show n<2 ^ 64;omega)
  rw[e2,show(4294967295:Nat)=2 ^ 32-1 from rfl,Nat.and_two_pow_sub_one_eq_mod]
  exact Nat.mod_eq_of_lt ai
attribute [local irreducible] J K aD Ends ag az aL bK aZ aQ aV bg bQ Sha.chunks Sha.chunk Sha.rounds Sha.sched dA cd cI BH
theorem od(X:HP)(v:Value)(b:List UInt8)(hb:dR X v b)(hl:b.length≤1000000) :
  aD Tryz.prog 124 [v] [X] (fun r H=>H=[X]∧∃k:Nat,k<4294967296∧r = .tuple #[.int .i64 (k:Int),.bool (qw b).isSome]∧∀m,qw b=some m→k=m):=by
 have htu:=ln X v b hb ai
 obtain⟨a,c,rfl,hc⟩:=hb.2
 refine aD.enter Tryz.func124 ak rfl Tryz.ntmps124 zr zr ?_
 intro G F R hE
 refine go ?_
 ((refine ah zr zr zr zr (htu) ad ?_ bE))
 rintro _ _⟨rfl,rfl⟩
 unfold qw at hE
 cases hu:dt b with
 | none =>
  rw[hu]at hE
  simp only
  obtain⟨k,xJ,vU,_⟩:=yB 0
  refine go ?_
  ((refine aB 12 ((.int .u64 (k:Int))) rfl ((congrArg (Value.int .u64) (by rw[← xJ];unfold BH;rfl))) ?_))
  refine go ?_
  ((refine ae hE Tryz.func124 rfl _ rfl ⟨rfl,k,vU,rfl,fun m h=>by cases h⟩ ad))
 | some n =>
  rw[hu]at hE
  simp only[Option.bind_some]at hE ⊢
  obtain⟨k,xJ,vU,hk3⟩:=yB n
  refine go ?_
  ((refine aB 12 ((.int .u64 (k:Int))) rfl ((congrArg (Value.int .u64) (by rw[← xJ];unfold BH;rfl))) ?_))
  refine go ?_
  by_cases hn:n≤1048576
  ·rw[if_pos hn]at hE
   ((refine bj 3 ((.bool true)) rfl ((congrArg Value.bool (decide_eq_true ai))) ?_))
   refine go ?_
   ((refine ae hE Tryz.func124 rfl _ rfl ⟨rfl,k,vU,rfl,fun m h=>by injection h with h;rw[← h];exact hk3 hn⟩ ad))
  ·rw[if_neg hn]at hE
   ((refine bj 3 ((.bool false)) rfl ((congrArg Value.bool (decide_eq_false ai))) ?_))
   refine go ?_
   ((refine ae hE Tryz.func124 rfl _ rfl ⟨rfl,k,vU,rfl,fun m h=>by cases h⟩ ad))
theorem sW(X:HP)(v:Value)(b:List UInt8)(hb:dR X v b)(hl:b.length≤1000000) :
  aD Tryz.prog 125 [v] [X] (fun r H=>H=[X]∧r = .tuple #[dV ((gh b).getD Dg.zero),.bool (gh b).isSome]):=by
 obtain⟨dj,a,c,rfl,hc⟩:=hb
 refine aD.enter Tryz.func125 ak rfl Tryz.ntmps125 zr zr ?_
 intro G F R hE
 refine aE rfl ?_
 refine aN (U:=ao) zr zr zr bp ?_
 intro b2
 unfold gh at hE
 refine go ?_
 refine aw zr zr ?_ ?_
 ·intro ct
  rw[if_neg ai]at hE
  refine go ?_
  refine iU (U:=ao) zr zr zr zr zr ?_
  refine go ?_
  (refine aU hE ?_;apply aR (U:=ao) hE Tryz.func125 rfl (aq.refl _);(repeat(first|exact aK.nil|apply aK.tmp rfl|apply aK.agg 0 zr zr zr zr zr));exact⟨rfl,rfl⟩;exact ad)
 ·intro heq
  have UE:b.length=32:=by omega
  rw[if_pos UE]at hE
  rw[wm UE]at dj
  obtain⟨bb,oo,cc,he⟩:=dj.some (by intro h;have:=congrArg List.length h;rw[cP]at this;cases this)
  simp only[Value.slice.injEq,true_and]at he
  obtain⟨rfl,rfl⟩:=he
  refine go ?_
  refine zg (U:=ao) zr zr zr zr ai ?_
  refine go ?_
  refine aJ ?_
  refine cQ (U:=ao) (es:=dC (uB b)) 1 0 zr zr zr dj rfl (fun j v hj=>by rw[Nat.zero_add];exact hj) zr zr zr ?_
  refine go ?_
  (refine aU hE ?_;apply aR (U:=ao) hE Tryz.func125 rfl (aq.refl _);(repeat(first|exact aK.nil|apply aK.tmp rfl|apply aK.agg 0 zr zr zr zr zr));exact⟨rfl,rfl⟩;exact ad)
theorem D1{b:List UInt8}(h:pS b=none):i' b=none:=by unfold i';rw[h]
theorem Bp{b:List UInt8}{xs:List (Int × List UInt8)}(h:pS b=some xs)(hl:xs.length<2):i' b=none:=by
 unfold i';rw[h]
 match xs,hl with
 | [],_=>rfl
 | [_],_=>rfl
theorem Ha{b:List UInt8}{n1 n2:Int}{b1 b2:List UInt8}{l:List (Int × List UInt8)}{n:Int}(h:pS b=some ((n1,b1)::(n2,b2)::l))(hn:(((n1,b1)::(n2,b2)::l).getLast?.map (·.1))=some n) :
  i' b=if n=((2+l.length:Nat):Int)∧b1.length=1∧b2.length=32 then some (b1.headD 0,uB b2,l.map (·.2))else none:=by
 unfold i';rw[h]
 simp only
 rw[hn]
 simp only[Option.some.injEq]
theorem qi.Yn{X:HP}{a:Option Addr}{c:Nat}{ls:List (List UInt8)}{cs:List Value}(hv:Vw (az 39 1 (.slice a ls.length c) ls.length cs) (.slice a ls.length c) ls.length cs)(hc:ls.length≤c)(hl:cs.length=ls.length)(pH:∀(j:Nat) (z:List UInt8),ls[j]?=some z→∃cv,cs[j]?=some cv∧dR X cv z):qi (Sep [az 39 1 (.slice a ls.length c) ls.length cs,X]) (.slice a ls.length c) ls :=
  ⟨cs,hv.mono (aW (i:=0) rfl),hl,⟨a,c,rfl,hc⟩,fun i x hx=>by
    obtain⟨cv,h1,h2⟩:=pH i x hx
    exact⟨cv,h1,h2.mono (aW (i:=1) rfl)⟩⟩
theorem Cq(l:List It):l.map It.v=l.flatMap fun x=>[x.v]:=by induction l with|nil=>rfl|cons x l ih=>simp[ih]
set_option maxRecDepth 20000 in
set_option maxHeartbeats 1000000 in
theorem Hj(X:HP)(v:Value)(b:List UInt8)(hb:dR X v b)(hl:b.length≤1000000) :
  aD Tryz.prog 123 [v] [X] (fun r H=>(i' b=none∧(∃(k:UInt8) (d:Dg) (a:Option Addr) (n c:Nat),r = .tuple #[u8 k,dV d,.slice a n c,.bool false])∧H=[X]) ∨
   ∃k d more mv Z,i' b=some (k,d,more)∧qi Z mv more∧(∀x∈more,x.length≤65536)∧more.length≤65536∧r = .tuple #[u8 k,dV d,mv,.bool true]∧H=[Z,X]):=by
 have Ul:=l4 X v b hb ai
 obtain⟨a,c,rfl,hc⟩:=hb.2
 refine aD.enter Tryz.func123 ak rfl Tryz.ntmps123 zr zr ?_
 intro G F R hE
 refine aE rfl ?_
 refine go ?_
 refine aN (U:=ao) zr zr zr bp ?_
 intro b3
 refine go ?_
 ((refine ah zr zr zr zr (Ul) ad ?_ bE))
 rintro _ _ (⟨hn,rfl,rfl⟩|⟨xs,eM,Z0,rv,hs,nR,⟨dj,uf⟩,rfl,rfl,ra,rc,rfl,MH⟩)
 ·have hd:=D1 hn
  refine go ?_
  refine iU (U:=ao) zr zr zr zr zr ?_
  refine go ?_
  (refine aU hE ?_;apply aR (U:=ao) hE Tryz.func123 rfl (aq.refl _);(repeat(first|exact aK.nil|apply aK.tmp rfl|apply aK.agg 1 zr zr zr zr zr));exact(.inl ⟨hd,⟨0,Dg.zero,none,0,0,rfl⟩,rfl⟩);exact ad)
 have ZF:=q6 hs
 have Jf:eM.length≤65536:=by
  have h1:xs.length≤65536:=by
   unfold pS at hs
   split at hs
   ·cases hs
   ·split at hs
    ·cases hs
     have:=q5 _ b (Nat.le_refl _)
     unfold eg at this;omega
    ·cases hs
  rw[← nR,List.length_map]at h1;exact h1
 by_cases h2:eM.length<2
 ·have hd:=Bp hs (by rw[← nR,List.length_map];exact h2)
  refine go ?_
  ((refine aB 25 ((.bool true)) rfl ((congrArg Value.bool (decide_eq_true ai))) ?_))
  refine go ?_
  refine iU (U:=ao) zr zr zr zr zr ?_
  refine go ?_
  (refine aU hE ?_;apply aR (U:=ao) hE Tryz.func123 rfl (aq.refl _);(repeat(first|exact aK.nil|apply aK.tmp rfl|apply aK.agg 2 zr zr zr zr zr));exact(.inl ⟨hd,⟨0,Dg.zero,none,0,0,rfl⟩,rfl⟩);exact ad)
 obtain⟨i1,i2,rest,xL⟩:∃i1 i2 rest,eM=i1::i2::rest:=by
  match eM,h2 with
  | i1::i2::rest,_=>exact⟨i1,i2,rest,rfl⟩
  | [],h=>exact absurd (by simp) h
  | [_],h=>exact absurd (by simp) h
 have hlen:eM.length=rest.length+2:=by rw[xL];rfl
 obtain⟨Yo,S8⟩:∃x,eM[rest.length+1]?=some x:=⟨eM[rest.length+1]' ai,by simp⟩
 have jS:((eM.map It.p).getLast?.map (·.1))=some Yo.n:=by
  rw[List.getLast?_eq_getElem?,List.length_map,List.getElem?_map,show eM.length-1=rest.length+1 from by omega,S8]
  rfl
 obtain⟨rb,ro,rcc,he⟩:=dj.some (by rw[xL];intro h;simp[kG]at h)
 simp only[Value.slice.injEq,true_and]at he
 obtain⟨rfl,rfl⟩:=he
 have Jp:eM[0]?=some i1:=by rw[xL];rfl
 have Du:eM[1]?=some i2:=by rw[xL];rfl
 have pV:=uf i1 (List.mem_of_getElem? Jp)
 have qe:=uf i2 (List.mem_of_getElem? Du)
 have uM:(eM.flatMap kG)[0*2+1]?=some i1.v:=cF im Jp 1 ai
 have KP:(eM.flatMap kG)[1*2+1]?=some i2.v:=cF im Du 1 ai
 have eA:(eM.flatMap kG)[(rest.length+1)*2+0]?=some (.int .i64 Yo.n):=cF im S8 0 ai
 have WS:=ZF i2.p (by rw[← nR];exact List.mem_map.2 ⟨_,List.mem_of_getElem? Du,rfl⟩)
 obtain⟨n1,v1,b1⟩:=i1
 obtain⟨n2,v2,b2⟩:=i2
 simp only at pV qe uM KP
 obtain⟨a1,c1,rfl,Js⟩:=pV.2
 obtain⟨a2,c2,rfl,oD⟩:=qe.2
 simp only[It.p]at WS
 have Uo:=Ha (n1:=n1) (b1:=b1) (n2:=n2) (b2:=b2) (l:=rest.map It.p) (n:=Yo.n) (by rw[hs,← nR,xL];rfl) (by rw[xL]at jS;exact jS)
 rw[List.length_map]at Uo
 refine go ?_
 ((refine aB 25 ((.bool false)) rfl ((congrArg Value.bool (decide_eq_false ai))) ?_))
 refine go ?_
 refine eE (U:=ao) (rest.length+1) 2 zr zr zr zr zr zr zr ai ai ?_
 refine go ?_
 refine aJ ?_
 refine bB (U:=ao) 0 ((rest.length+1)*2+0) zr zr zr dj (Nat.add_assoc _ _ _) eA zr zr ?_
 refine go ?_
 by_cases tq:Yo.n=((2+rest.length:Nat):Int)
 case neg =>
  have hd:i' b=none:=by rw[Uo,if_neg (fun h=>tq h.1)]
  ((refine aB 37 ((.bool true)) rfl ((congrArg Value.bool (decide_eq_true ai))) ?_))
  refine go ?_
  refine iU (U:=ao) zr zr zr zr zr ?_
  refine go ?_
  (refine aU hE ?_;apply aR (U:=ao) hE Tryz.func123 rfl (aq.refl _);(repeat(first|exact aK.nil|apply aK.tmp rfl|apply aK.agg 2 zr zr zr zr zr));exact(.inl ⟨hd,⟨0,Dg.zero,none,0,0,rfl⟩,rfl⟩);exact ad)
 ((refine aB 37 ((.bool false)) rfl ((congrArg Value.bool (decide_eq_false ai))) ?_))
 refine go ?_
 refine eE (U:=ao) 0 2 zr zr zr zr zr zr zr zr ai ?_
 refine go ?_
 refine aJ ?_
 refine bB (U:=ao) 0 (0*2+1) zr zr zr dj (Nat.add_assoc _ _ _) uM zr zr ?_
 refine go ?_
 by_cases h1l:b1.length=1
 case neg =>
  have hd:i' b=none:=by rw[Uo,if_neg (fun h=>h1l h.2.1)]
  ((refine bj 44 ((.bool true)) rfl ((congrArg Value.bool (decide_eq_true ai))) ?_))
  refine go ?_
  refine iU (U:=ao) zr zr zr zr zr ?_
  refine go ?_
  (refine aU hE ?_;apply aR (U:=ao) hE Tryz.func123 rfl (aq.refl _);(repeat(first|exact aK.nil|apply aK.tmp rfl|apply aK.agg 2 zr zr zr zr zr));exact(.inl ⟨hd,⟨0,Dg.zero,none,0,0,rfl⟩,rfl⟩);exact ad)
 obtain⟨kb,rfl⟩:∃k,b1=[k]:=by
  match b1,h1l with
  | [k],_=>exact⟨k,rfl⟩
 ((refine bj 44 ((.bool false)) rfl ((congrArg Value.bool (decide_eq_false (by simp)))) ?_))
 refine go ?_
 refine eE (U:=ao) 1 2 zr zr zr zr zr zr zr zr ai ?_
 refine go ?_
 refine aJ ?_
 refine bB (U:=ao) 0 (1*2+1) zr zr zr dj (Nat.add_assoc _ _ _) KP zr zr ?_
 refine go ?_
 ((refine ah zr zr zr zr (sW Z0 _ b2 qe ai) ad ?_ bE))
 rintro _ _⟨rfl,rfl⟩
 unfold dV
 refine go ?_
 refine aN (U:=ao) zr zr zr bp ?_
 intro b8
 refine go ?_
 refine bG (U:=ao) (p:=2) (q:=(eM.length:Int)) zr zr zr zr zr zr zr ai ai (.inl rfl) ?_
 ((refine aB 55 ((.slice (sliceAt (some ⟨rb,ro,none⟩) rc 2 2) rest.length (rc-2))) rfl ((by rw[show(eM.length:Int).toNat=rest.length+2 from by omega,show(2:Int).toNat=2 from rfl,show rest.length+2-2=rest.length by omega];rfl)) ?_))
 have FX:=dj.LG (s:=2) (bZ im _) MH 2 ai
 have UB:(eM.flatMap kG).drop (2*2)=rest.flatMap kG:=by rw[xL];rfl
 rw[UB,show eM.length-2=rest.length from by omega]at FX
 have Xd:∀x∈rest,dR Z0 x.v x.b:=fun x hx=>uf x (by rw[xL];simp[hx])
 have Yu:∀x∈rest,x.b.length≤65536:=fun x hx=>ZF x.p (by rw[← nR,xL];simp;right;right;exact⟨x,hx,rfl⟩)
 clear KP eA S8 jS Jp Du hs nR uf ZF xL
 refine go ?_
 refine aj (bw 39 1 none _) ?_
 obtain⟨dh,YT⟩:∃d,d=(gh b2).getD Dg.zero:=⟨_,rfl⟩
 rw[← YT]
 refine bo (fun y:Nat × Option Addr × Nat=>y.1≤rest.length) (fun y=>rest.length-y.1)
  (fun y=>[(3,ptr b3),(6,.slice (some ⟨rb,ro,none⟩) eM.length rc),(8,ptr b8),(9,.bool (gh b2).isSome),(10,.slice y.2.1 y.1 y.2.2),(55,.slice (sliceAt (some ⟨rb,ro,none⟩) rc 2 2) rest.length (rc-2)),(56,.int .i64 (rest.length:Int)),(57,.int .i64 (y.1:Int))])
  (fun y=>az 39 1 (.slice y.2.1 y.1 y.2.2) y.1 ((rest.take y.1).flatMap fun x=>[x.v])::Z0::X::ag b3 (cl (dC Dg.zero) 36)::ag b8 (cl (dC dh) 36)::F) (0,none,0) (Nat.zero_le _) rfl bY ad ?_
 rintro⟨j,ma,mc⟩ hj ih
 simp only at hj
 dsimp only
 refine go ?_
 refine aw zr zr ?_ ?_
 ·intro cO
  have nK:j<rest.length:=by omega
  obtain⟨it,H7⟩:∃x,rest[j]?=some x:=⟨rest[j],by simp⟩
  have Ic:=Xd it (List.mem_of_getElem? H7)
  obtain⟨xn,xv,xb⟩:=it
  simp only at Ic
  obtain⟨va,vc,rfl,_⟩:=Ic.2
  have OL:sliceAt (some ⟨rb,ro,none⟩) rc 2 2=some ⟨rb,ro+4,none⟩:=by
   unfold sliceAt
   rw[if_neg ai]
   rfl
  rw[OL]at FX
  refine bj 55 (.slice (some ⟨rb,ro+4,none⟩) rest.length (rc-2)) rfl (by rw[OL]) ?_
  refine go ?_
  refine eE (U:=ao) j 2 zr zr zr zr zr zr zr zr nK ?_
  refine aJ ?_
  refine cQ (U:=ao) (es:=kG ⟨xn,.slice va xb.length vc,xb⟩) 1 (j*2) zr zr zr FX rfl (fun q v hq=>?_) zr zr zr ?_
  ·rw[cF im H7 q (by rcases Nat.lt_or_ge q 2 with h|h;exact h;rw[List.getElem?_eq_none (by rw[im];exact h)]at hq;cases hq)];exact hq
  refine aN (U:=ao) zr zr zr bp ?_
  intro b12
  refine go ?_
  refine au (U:=ao) (cs:=[.slice va xb.length vc]) zr zr zr zr zr zr zr zr zr bp ?_
  intro row
  refine go ?_
  have iZ:(rest.take (j+1)).flatMap (fun x=>[x.v])=(rest.take j).flatMap (fun x=>[x.v])++[.slice va xb.length vc]:=by rw[List.take_add_one,H7];simp
  refine bh (U:=ao) (mm:=1) (news:=[.slice va xb.length vc]) 2 0 rfl rfl rfl rfl rfl rfl rfl rfl rfl rfl rfl rfl (Vw.ag rfl) rfl (by intro v hv;simp at hv;rw[hv];rfl) ai (by show(_+_)*24≤_;omega) (fun _=>rfl) bp ?_
  intro v1
  rw[← iZ]
  ((refine aM 2 rfl ?_))
  rintro ja jc rfl
  refine go ?_
  ((refine bj 55 ((.slice (sliceAt (some ⟨rb,ro,none⟩) rc 2 2) rest.length (rc-2))) rfl ((by rw[OL])) ?_))
  refine aO ih (j+1,ja,jc) rfl (by simp only;omega) (by simp only;omega) bY ad
 ·intro eQ
  have H5:j=rest.length:=by omega
  subst H5
  rw[List.take_length]
  clear ih
  obtain⟨bb1,oo1,cc1,Lm⟩:=pV.1.some (by simp[bV])
  simp only[Value.slice.injEq,true_and]at Lm
  obtain⟨rfl,rfl⟩:=Lm
  have lC:Vw Z0 (.slice (some ⟨bb1,oo1,none⟩) 1 c1) 1 (bV [kb]):=pV.1
  have yF:(rest.map It.b).length=rest.length:=List.length_map ..
  refine lr 0 rfl ?_
  intro iy
  refine cM 0 rfl ?_
  intro KQ
  have lG:qi (Sep [az 39 1 (.slice ma rest.length mc) rest.length (rest.flatMap fun x=>[x.v]),Z0]) (.slice ma rest.length mc) (rest.map It.b):=by
   rw[← yF]at KQ iy ⊢
   refine qi.Yn KQ iy (by rw[← Cq];simp) (fun i z hz=>?_)
   rw[List.getElem?_map]at hz
   cases hx:rest[i]? with
   | none=>rw[hx]at hz;cases hz
   | some y =>
    rw[hx]at hz
    injection hz with hz
    subst hz
    exact⟨y.v,by rw[← Cq,List.getElem?_map,hx];rfl,Xd y (List.mem_of_getElem? hx)⟩
  have hmb:(rest.map It.p).map (·.2)=rest.map It.b:=by rw[List.map_map];rfl
  rw[hmb]at Uo
  have hdd:∀d,gh b2=some d→i' b=some (kb,d,rest.map It.b):=fun d hd=>by
   unfold gh at hd
   split at hd
   ·rename_i UE
    injection hd with hd
    rw[Uo,if_pos ⟨tq,rfl,UE⟩,hd]
    rfl
   ·cases hd
  have yN:gh b2=none→i' b=none:=fun hd=>by
   unfold gh at hd
   split at hd
   ·cases hd
   ·rename_i UE
    rw[Uo,if_neg (fun h=>UE h.2.2)]
  refine go ?_
  refine aF (fun w=>Sat G w ([Z0,ag b8 (cl (dC dh) 36)])) (.st 0 (.st 1 (.st 2 (.st 3 (.st 4 (.st 5 (.st 6 (.st 7 (.st 8 (.st 9 (.act 10 (.st 11 (.st 12 .nil))))))))))))) rfl ak ak ak (fun w hw=>hw.aX ad) ?_
  refine go ?_
  refine eE (U:=ao) 0 2 zr zr zr zr zr zr zr zr ai ?_
  refine go ?_
  refine aJ ?_
  refine cz (U:=ao) 0 (0*2+1) zr zr zr dj (Nat.add_assoc _ _ _) uM zr zr ?_
  refine go ?_
  refine cK (U:=ao) 0 zr zr zr zr zr zr zr zr (by simp) ?_
  refine go ?_
  refine aJ ?_
  refine cz (U:=ao) 0 0 zr zr zr lC zr zr zr zr ?_
  refine go ?_
  refine bD (U:=ao) (l:=dC dh) 1 zr zr zr zr zr zr ?_
  refine go ?_
  refine aS ?_
  refine cn (U:=ao) (l':=dC dh) 3 (fun w hw=>hw.aX ad) rfl rfl rfl rfl (by intro e;cases e) (by rw[dp];exact iH _) rfl rfl rfl ?_
  refine go ?_
  refine aj (H':=Sep [az 39 1 (.slice ma rest.length mc) rest.length (rest.flatMap fun x=>[x.v]),Z0]::X::ag b3 (cl (dC dh) 36)::ag b8 (cl (dC dh) 36)::F) (aq.trans ad (aq.bL [az 39 1 (.slice ma rest.length mc) rest.length (rest.flatMap fun x=>[x.v]),Z0] _)) ?_
  cases OZ:gh b2 with
  | none =>
   simp only[Option.isSome_none]
   (refine aU hE ?_;apply aR (U:=ao) hE Tryz.func123 rfl (aq.refl _);(repeat(first|exact aK.nil|apply aK.tmp rfl|apply aK.agg 2 zr zr zr zr zr));exact(.inl ⟨yN OZ,⟨kb,dh,_,_,_,rfl⟩,rfl⟩);exact ad)
  | some d =>
   rw[OZ]at YT
   simp only[Option.getD_some]at YT
   subst YT
   simp only[Option.isSome_some]
   (refine aU hE ?_;apply aR (U:=ao) hE Tryz.func123 rfl (aq.refl _);(repeat(first|exact aK.nil|apply aK.tmp rfl|apply aK.agg 2 rfl rfl rfl rfl rfl));exact(.inr ⟨kb,dh,_,_,_,hdd dh OZ,lG,(fun x hx=>by obtain⟨y,hy,rfl⟩:=List.mem_map.1 hx;exact Yu y hy),ai,rfl,rfl⟩);exact ad)
end Go.Proofs.YthjbidjmgbjkiaaGreatDoor
namespace Go.Proofs.YthjbidjmgbjkiaaGreatDoor
open Go Go.SL
def Fg(X:HP)(v:Value)(l:List Dg):Prop:=Vw X v l.length (l.flatMap dC)∧∃a c,v = .slice a l.length c∧l.length≤c
theorem Fg.mono{A B:HP}{v:Value}{l:List Dg}(h:Fg A v l)(TI:∀h,B h→∃h',sub h' h∧A h'):Fg B v l:=⟨h.1.mono TI,h.2⟩
def vl(n i:Nat):Int:=match eR n i with
 | some s=>(s:Int)
 | none => -1
theorem Jw(n:Nat):n ^^^ 1=if n%2=1 then n-1 else n+1:=by
 have h1:=Nat.xor_div_two (a:=n) (b:=1)
 have h2:(n ^^^ 1)%2=(n+1)%2:=by
  rcases Nat.mod_two_eq_zero_or_one n with h|h
  ·have:=(Nat.xor_mod_two_eq_one (a:=n) (b:=1)).2 (by simp[h])
   omega
  ·have:=(Nat.xor_mod_two_eq_one (a:=n) (b:=1))
   have h3:¬(n ^^^ 1)%2=1:=fun e=>by have:=this.1 e;simp[h]at this
   omega
 simp only[show(1:Nat)/2=0 from rfl,Nat.xor_zero]at h1
 split <;> omega
theorem Jx(n:Nat)(h:n<1000000000):IntKind.i64.wrap ((BitVec.ofInt IntKind.i64.bits (n:Int) ^^^ BitVec.ofInt IntKind.i64.bits 1).toNat:Int)=((if n%2=1 then n-1 else n+1:Nat):Int):=by
 have e1:(BitVec.ofInt IntKind.i64.bits (1:Int)).toNat=1:=by decide
 rw[BitVec.toNat_xor,uK ai,e1,Jw]
 exact cD (by simp only[fz];split <;> omega)
def bC:Nat→Nat→Nat→List (Nat × Nat)
 | 0,_,_=>[]
 | f+1,n,i=>if n≤1 then []else(n,i)::bC f ((n+1)/2) (i/2)
theorem rq:∀(f g n i:Nat),n≤f→n≤g→bC f n i=bC g n i
 | 0,0,_,_,_,_=>rfl
 | 0,g+1,n,i,hf,_=>by
  obtain rfl:n=0:=by omega
  rfl
 | f+1,0,n,i,_,hg=>by
  obtain rfl:n=0:=by omega
  rfl
 | f+1,g+1,n,i,hf,hg=>by
  unfold bC
  split
  ·rfl
  ·rw[rq f g ((n+1)/2) (i/2) ai ai]
theorem zK(f n i:Nat)(hf:n≤f)(hn:1<n):bC f n i=(n,i)::bC f ((n+1)/2) (i/2):=by
 rw[rq f (f+1) n i hf ai]
 conv=>lhs;unfold bC
 rw[if_neg ai]
theorem Bu(f n i:Nat)(hn:n≤1):bC f n i=[]:=by
 cases f with
 | zero=>rfl
 | succ f=>unfold bC;rw[if_pos hn]
theorem qv:∀(f n i:Nat),i<n→∀p∈bC f n i,p.2<p.1∧p.1≤n
 | 0,_,_,_,p,h=>by cases h
 | f+1,n,i,hi,p,h=>by
  unfold bC at h
  split at h
  ·cases h
  ·rcases List.mem_cons.1 h with rfl|h
   ·exact⟨hi,Nat.le_refl _⟩
   ·obtain⟨h1,h2⟩:=qv f ((n+1)/2) (i/2) ai p h
    exact⟨h1,ai⟩
def mg(l:List (Nat × Nat)):Nat:=(l.filter fun p=>(eR p.1 p.2).isSome).length
theorem Cx(l:List (Nat × Nat))(p:Nat × Nat):mg (l++[p])=mg l+if(eR p.1 p.2).isSome then 1 else 0:=by
 unfold mg
 rw[List.filter_append,List.length_append]
 congr 1
 cases h:(eR p.1 p.2).isSome <;> simp[h]
theorem tw:∀(f n i:Nat),mf f n i=mg (bC f n i)
 | 0,_,_=>rfl
 | f+1,n,i=>by
  unfold mf bC
  split
  ·rfl
  ·rw[tw f]
   unfold mg
   rw[List.filter_cons]
   cases h:(eR n i).isSome <;> simp[h] <;> omega
def vh(z:Dg × List Dg)(p:Nat × Nat):Dg × List Dg:=match eR p.1 p.2 with
 | none=>z
 | some s=>(if s<p.2 then gn (z.2.headD Dg.zero) z.1 else gn z.1 (z.2.headD Dg.zero),z.2.tail)
def oO(l:List (Nat × Nat))(z:Dg × List Dg):Dg × List Dg:=l.foldl vh z
theorem LK(l:List (Nat × Nat))(p:Nat × Nat)(z:Dg × List Dg):oO (l++[p]) z=vh (oO l z) p:=by unfold oO;rw[List.foldl_append];rfl
theorem tA:∀(f n i:Nat) (x:Dg) (p:List Dg),wD f n i x p=(oO (bC f n i) (x,p)).1
 | 0,_,_,_,_=>rfl
 | f+1,n,i,x,p=>by
  unfold wD bC
  split
  ·rfl
  ·unfold oO
   rw[List.foldl_cons]
   unfold vh
   cases h:eR n i with
   | none=>simp only;exact tA f _ _ _ _
   | some s=>simp only;exact tA f _ _ _ _
theorem Cy:∀(l:List (Nat × Nat)) (z:Dg × List Dg),(oO l z).2.length=z.2.length-mg l
 | [],z=>rfl
 | p::l,z=>by
  have:=Cy l (vh z p)
  unfold oO at this ⊢
  rw[List.foldl_cons,this]
  unfold vh mg
  rw[List.filter_cons]
  cases h:eR p.1 p.2 with
  | none=>simp
  | some s=>simp only[Option.isSome_some,if_true,List.length_tail,List.length_cons];omega
theorem Gl(l:List (Nat × Nat))(j:Nat):mg (l.take j)≤mg l:=by
 conv=>rhs;rw[← List.take_append_drop j l]
 unfold mg
 rw[List.filter_append,List.length_append]
 omega
attribute [local irreducible] J K aD Ends ag az aL bK aZ aQ aV bg bQ Sha.chunks Sha.chunk Sha.rounds Sha.sched dA cd cI gn
def kW(n i:Int):Bool:=decide (1≤n∧n≤1024∧0≤i∧i<n)
theorem vF(n i:Int):aD Tryz.prog 144 [.int .i64 n,.int .i64 i] [] (fun r H=>r = .bool (kW n i)∧H=[]):=by
 have hF:(¬(1≤n∧n≤1024∧0≤i))→Value.bool false = .bool (kW n i):=fun h=>by unfold kW;rw[decide_eq_false ai]
 have hT:(1≤n∧n≤1024∧0≤i)→Value.bool (decide (i<n)) = .bool (kW n i):=fun h=>by unfold kW;exact congrArg Value.bool (decide_eq_decide.2 ai)
 refine aD.enter Tryz.func144 ak rfl Tryz.ntmps144 zr zr ?_
 intro G F R hE
 repeat'(first|(with_reducible intro nT)|refine fk ?_|refine gN zr zr zr zr ?_ ?_|fail)
 all_goals(first|((refine ae hE Tryz.func144 rfl _ rfl ⟨hF ai,rfl⟩ ad))|((refine ae hE Tryz.func144 rfl _ rfl ⟨hT ai,rfl⟩ ad)))
theorem wJ(n i:Nat)(hi:i<n)(hn:n≤1000000):aD Tryz.prog 147 [.int .i64 (n:Int),.int .i64 (i:Int)] [] (fun r H=>r = .int .i64 (vl n i)∧H=[]):=by
 refine aD.enter Tryz.func147 ak rfl Tryz.ntmps147 zr zr ?_
 intro G F R hE
 have hx:=Jx i ai
 refine go ?_
 refine aw zr zr ?_ ?_
 ·intro cO
  rw[hx]at cO
  have hs:vl n i=((if i%2=1 then i-1 else i+1:Nat):Int):=by
   unfold vl eR
   by_cases h:i%2=1
   ·rw[if_pos h,if_pos h]
   ·rw[if_neg h,if_neg h,if_pos (by rw[if_neg h]at cO;omega)]
  refine go ?_
  ((refine ae hE Tryz.func147 rfl _ rfl ⟨congrArg (Value.int .i64) (hx.trans hs.symm),rfl⟩ ad))
 ·intro eQ
  rw[hx]at eQ
  have hs:vl n i = -1:=by
   unfold vl eR
   by_cases h:i%2=1
   ·rw[if_pos h]at eQ;exfalso;omega
   ·rw[if_neg h,if_neg (by rw[if_neg h]at eQ;omega)]
  refine go ?_
  ((refine ae hE Tryz.func147 rfl _ rfl ⟨congrArg (Value.int .i64) hs.symm,rfl⟩ ad))
theorem vC(n i:Int):aD Tryz.prog 146 [.int .i64 n,.int .i64 i] [] (fun r H=>∃b1 b2,r = .func (.func 196) #[] #[ptr b1,ptr b2]∧H=[ag b1 (cl [.int .i64 n] 3),ag b2 (cl [.int .i64 i] 3)]):=by
 refine aD.enter Tryz.func146 ak rfl Tryz.ntmps146 zr zr ?_
 intro G F R hE
 refine aE rfl ?_
 refine bq zr zr bp ?_
 intro b1
 refine bq zr zr bp ?_
 intro b2
 refine go ?_
 ((refine ae hE Tryz.func146 rfl _ rfl ⟨b1,b2,rfl,rfl⟩ ad))
set_option maxRecDepth 20000 in
theorem tT(b1 b2 n i:Nat)(hn:n≤1000000)(hi:i≤1000000)(l:Nat)(Lp:HP)(Inv:Nat→HP)(hy:∀j p,(bC n n i)[j]?=some p→bQ Tryz.prog l [.int .i64 (p.1:Int),.int .i64 (p.2:Int)] [Lp,Inv j] (fun v H=>v = .bool true∧H=[Lp,Inv (j+1)])) :
  aD Tryz.prog 196 [.func (.yield l) #[] #[],ptr b1,ptr b2] [Lp,Inv 0,ag b1 (cl [.int .i64 (n:Int)] 3),ag b2 (cl [.int .i64 (i:Int)] 3)] (fun _ H=>H=[Lp,Inv (bC n n i).length]):=by
 refine aD.enter Tryz.func196 ak rfl Tryz.ntmps196 zr zr ?_
 intro G F R hE
 refine bo (fun y:Nat × Nat × Nat=>y.1≤n∧y.2.1≤i∧(bC n n i).drop y.2.2=bC n y.1 y.2.1∧y.2.2≤(bC n n i).length) (fun y=>y.1)
  (fun _=>[(0,.func (.yield l) #[] #[]),(1,ptr b1),(2,ptr b2)])
  (fun y=>Lp::Inv y.2.2::ag b1 (cl [.int .i64 (y.1:Int)] 3)::ag b2 (cl [.int .i64 (y.2.1:Int)] 3)::F) (n,i,0) ⟨Nat.le_refl _,Nat.le_refl _,rfl,Nat.zero_le _⟩ rfl bY ad ?_
 rintro⟨m,k,j⟩⟨hm,hk,hd,hj⟩ ih
 simp only at hm hk hd hj
 dsimp only
 refine go ?_
 refine aw zr zr ?_ ?_
 ·intro ML
  have xM:1<m:=by omega
  rw[zK n m k hm xM]at hd
  have hx:(bC n n i)[j]?=some (m,k):=by
   have:=congrArg (fun l=>l[0]?) hd
   simpa using this
  have uy:=(List.getElem?_eq_some_iff.1 hx).1
  have O4:(bC n n i).drop (j+1)=bC n ((m+1)/2) (k/2):=by
   have:=congrArg (fun l=>l.drop 1) hd
   simpa[List.drop_drop]using this
  refine go ?_
  refine jH zr zr zr (hy j (m,k) hx) ad ?_ bE
  rintro _ _⟨rfl,rfl⟩
  refine go ?_
  ((refine aj (H':=ag b1 (cl [.int .i64 (m:Int)] 3)::ag b2 (cl [.int .i64 (k:Int)] 3)::Lp::Inv (j+1)::F) ad ?_))
  refine aF (fun w=>Sat G w ([])) (.fork (.act 0 (.st 1 (.st 2 (.fork (.act 3 (.st 4 (.act 5 (.act 6 .nil)))) (.act 5 (.act 3 (.st 4 (.act 6 .nil)))))))) (.act 3 (.st 4 (.act 0 (.st 1 (.st 2 (.act 5 (.act 6 .nil)))))))) rfl ak ak ak (fun w hw=>hw.aX ad) ?_
  repeat'(first|refine fk ?_|refine o5 ?_ ?_|(refine kD ?_;refine jg zr zr zr ai ?_;first|(refine aB 8 (.int .i64 (((m+1)/2:Nat):Int)) rfl (congrArg (Value.int .i64) (by show((m:Int)+1)/2 ^ 1=_;omega)) ?_)|(refine aB 10 (.int .i64 ((k/2:Nat):Int)) rfl (congrArg (Value.int .i64) (by show(k:Int)/2 ^ 1=_;omega)) ?_))|(refine aS ?_;(refine bI (U:=ao) 0 (fun w hw=>hw.aX ad) zr zr zr zr zr zr zr zr zr ?_)))
  all_goals(
   refine aO ih ((m+1)/2,k/2,j+1) rfl ⟨by simp only;omega,by simp only;omega,O4,by simp only;omega⟩ (by simp only;omega) bY ad)
 ·intro eQ
  have hz:bC n m k=[]:=Bu n m k ai
  rw[hz]at hd
  have H5:j=(bC n n i).length:=by
   have:=congrArg List.length hd
   rw[List.length_drop,List.length_nil]at this
   omega
  subst H5
  refine go ?_
  ((refine bO hE Tryz.func196 rfl _ zr zr ad))
set_option maxRecDepth 20000 in
theorem zi(n i:Int):aD Tryz.prog 145 [.int .i64 n,.int .i64 i] [] (fun r H=>r = .int .i64 (hD n i:Int)∧H=[]):=by
 refine aD.enter Tryz.func145 ak rfl Tryz.ntmps145 zr zr ?_
 intro G F R hE
 refine go ?_
 refine aN (U:=ao) zr zr zr bp ?_
 intro b5
 refine go ?_
 ((refine ah zr zr zr zr (vF n i) ad ?_ bE))
 rintro _ _⟨rfl,rfl⟩
 cases hr:kW n i with
 | false =>
  have hd:hD n i=0:=by
   unfold hD
   rw[if_neg (by unfold kW at hr;simpa using hr)]
  rw[hd]at hE
  refine go ?_
  ((refine ae hE Tryz.func145 rfl _ rfl ⟨rfl,rfl⟩ ad))
 | true =>
  have Ji:1≤n∧n≤1024∧0≤i∧i<n:=by unfold kW at hr;simpa using hr
  obtain⟨m,rfl⟩:∃m:Nat,n=m:=⟨n.toNat,ai⟩
  obtain⟨k,rfl⟩:∃m:Nat,i=m:=⟨i.toNat,ai⟩
  have hd:hD (m:Int) (k:Int)=mg (bC m m k):=by
   unfold hD
   rw[if_pos Ji]
   simp only[Int.toNat_natCast]
   exact tw m m k
  have qR:=qv m m k ai
  have Dv:=mM (m:Int) (k:Int)
  rw[hd]at hE Dv
  refine go ?_
  ((refine ah zr zr zr zr (vC (m:Int) (k:Int)) ad ?_ bE))
  rintro _ _⟨b1,b2,rfl,rfl⟩
  refine go ?_
  refine gL rfl ?_
  have Dw:mg ((bC m m k).take 0)=0:=rfl
  refine aj (H':=ag b5 (cl [.int .i64 (mg ((bC m m k).take 0):Int)] 3)::ag b1 (cl [.int .i64 (m:Int)] 3)::ag b2 (cl [.int .i64 (k:Int)] 3)::F) (by rw[Dw];exact ad) ?_
  refine oV (Fr:=F) (Pre:=fun _ _=>[ag b5 (cl [.int .i64 (mg ((bC m m k).take 0):Int)] 3),ag b1 (cl [.int .i64 (m:Int)] 3),ag b2 (cl [.int .i64 (k:Int)] 3)]) (fun _ _ Lp v H=>H=[Lp .ready none,ag b5 (cl [.int .i64 (mg ((bC m m k).take (bC m m k).length):Int)] 3)]) rfl hE.1.1 rfl ?c (fun l r=>ad) ?fN
  case c =>
   intro l r
   refine tT b1 b2 m k ai ai l _ (fun j=>ag b5 (cl [.int .i64 (mg ((bC m m k).take j):Int)] 3)) ?_
   rintro j⟨p,q⟩ hp
   obtain⟨h1,h2⟩:=qR _ (List.mem_of_getElem? hp)
   have iZ:(bC m m k).take (j+1)=(bC m m k).take j++[(p,q)]:=by rw[List.take_add_one,hp];rfl
   have MN:mg ((bC m m k).take (j+1))=mg ((bC m m k).take j)+if(eR p q).isSome then 1 else 0:=by rw[iZ,Cx]
   have lz:=Gl (bC m m k) j
   simp only at h1 h2
   refine bQ.BA zr zr ?_
   intro G2 F2 R2 hY
   refine go ?_
   refine e8 rfl hY ?_
   refine go ?_
   ((refine ah zr zr zr zr (wJ p q h1 ai) ad ?_ bE))
   rintro _ _⟨rfl,rfl⟩
   unfold vl
   cases hs:eR p q with
   | none =>
    rw[hs]at MN
    simp only[Option.isSome_none,Bool.false_eq_true,if_false,Nat.add_zero]at MN
    rw[MN]at hY
    simp only
    refine go ?_
    refine eK hY rfl ad ⟨rfl,rfl⟩
   | some s =>
    rw[hs]at MN
    simp only[Option.isSome_some,if_true]at MN
    rw[MN]at hY
    simp only
    refine go ?_
    refine eK hY rfl ad ⟨rfl,rfl⟩
  rintro l r v H' rfl
  refine⟨_,_,_,rfl,by decide,?_⟩
  rw[hE.1.2,List.take_length]
  refine go ?_
  (apply aR (U:=ao) hE Tryz.func145 rfl ad;(repeat(first|exact aK.nil|apply aK.tmp rfl));exact⟨rfl,rfl⟩;exact ad)
end Go.Proofs.YthjbidjmgbjkiaaGreatDoor
namespace Go.Proofs.YthjbidjmgbjkiaaGreatDoor
open Go Go.SL
def Ue(b8 b9:Nat)(X:HP)(z:Dg × List Dg):HP:=fun h=>∃v:Value,Fg X v z.2∧Sep [ag b8 (cl (dC z.1) 36),ag b9 (cl [v] 40),X] h
theorem Dd(b8 b9:Nat)(X:HP)(z:Dg × List Dg):∀h,Ue b8 b9 X z h→∃v:Value,Fg X v z.2∧Sep [ag b8 (cl (dC z.1) 36),ag b9 (cl [v] 40),X] h:=fun h hs=>hs
theorem AI{b8 b9:Nat}{X:HP}{z:Dg × List Dg}{v:Value}(hv:Fg X v z.2)(H:List HP):aq (ag b8 (cl (dC z.1) 36)::ag b9 (cl [v] 40)::X::H) (Ue b8 b9 X z::H) :=
 aq.fold (A:=Ue b8 b9 X z) (B:=[ag b8 (cl (dC z.1) 36),ag b9 (cl [v] 40),X]) fun h hs=>⟨h,sub.refl h,v,hv,hs⟩
theorem Fg.tail{X:HP}{a:Option Addr}{c:Nat}{x:Dg}{l:List Dg}(h:Fg X (.slice a (x::l).length c) (x::l)):Fg X (.slice (sliceAt a c 1 32) l.length (c-1)) l:=by
 obtain⟨hv,a',c',he,hc⟩:=h
 simp only[Value.slice.injEq,true_and]at he
 obtain⟨rfl,rfl⟩:=he
 have:=hv.LG (s:=32) (bZ cP _) hc 1 (by simp)
 rw[List.length_cons,Nat.add_sub_cancel,List.flatMap_cons,show 1*32=(dC x).length from by rw[cP],List.drop_left]at this
 exact⟨this,_,_,rfl,by simp only[List.length_cons]at hc;omega⟩
attribute [local irreducible] J K aD Ends ag az aL bK aZ aQ aV bg bQ Sha.chunks Sha.chunk Sha.rounds Sha.sched dA cd cI gn Ue
set_option maxRecDepth 20000 in
set_option maxHeartbeats 1000000 in
theorem I8(X:HP)(hK:mX X)(root leaf:Dg)(n i:Int)(pv:Value)(proof:List Dg)(hp:Fg X pv proof) :
  aD Tryz.prog 88 [dV root,.int .i64 n,.int .i64 i,dV leaf,pv] [X] (fun r H=>r = .bool (j9 root n i leaf proof)∧H=[X]):=by
 have Dr:=hp
 obtain⟨hv,a,c,rfl,hc⟩:=hp
 unfold dV
 refine aD.enter Tryz.func88 ak rfl Tryz.ntmps88 zr zr ?_
 intro G F R hE
 refine aE rfl ?_
 refine bq zr zr bp ?_
 intro b5
 refine bq zr zr bp ?_
 intro b8
 refine bq zr zr bp ?_
 intro b9
 refine go ?_
 refine aF (fun w=>Sat G w ([ag b9 (cl [.slice a proof.length c] 40)])) (.st 0 (.st 1 (.act 2 (.st 3 (.st 4 (.st 5 (.st 6 (.st 7 (.st 8 (.act 9 (.st 10 (.st 11 .nil)))))))))))) rfl ak ak ak (fun w hw=>hw.aX ad) ?_
 refine go ?_
 ((refine ah rfl rfl rfl rfl (vF n i) ad ?_ (fun _ _ w hp hw=>by obtain⟨rfl,rfl⟩:=hp;exact hw.aX ad)))
 rintro _ _⟨rfl,rfl⟩
 cases hr:kW n i with
 | false =>
  have hcf:j9 root n i leaf proof=false:=by
   unfold j9
   exact decide_eq_false fun h=>by unfold kW at hr;rw[decide_eq_true h.1]at hr;cases hr
  rw[hcf]at hE
  refine go ?_
  (refine aU hE ?_;apply aR (U:=ao) hE Tryz.func88 rfl (aq.refl _);(repeat(first|exact aK.nil|apply aK.tmp rfl));exact⟨rfl,rfl⟩;exact ad)
 | true =>
  have Ji:1≤n∧n≤1024∧0≤i∧i<n:=by unfold kW at hr;simpa using hr
  refine go ?_
  ((refine ah rfl rfl rfl rfl (zi n i) ad ?_ (fun _ _ w hp hw=>by obtain⟨rfl,rfl⟩:=hp;exact hw.aX ad)))
  rintro _ _⟨rfl,rfl⟩
  refine go ?_
  refine eO zr zr ?_ ?_
  ·intro ct
   have eP:proof.length≠hD n i:=by
    intro e
    rw[e]at ct
    simp at ct
   have hcf:j9 root n i leaf proof=false:=by
    unfold j9
    exact decide_eq_false fun h=>eP h.2.1
   rw[hcf]at hE
   refine go ?_
   (refine aU hE ?_;apply aR (U:=ao) hE Tryz.func88 rfl (aq.refl _);(repeat(first|exact aK.nil|apply aK.tmp rfl));exact⟨rfl,rfl⟩;exact ad)
  intro heq
  have nt:proof.length=hD n i:=by
   by_cases h:(proof.length:Int)=(hD n i:Int)
   ·omega
   ·simp[h]at heq
  obtain⟨m,rfl⟩:∃m:Nat,n=m:=⟨n.toNat,ai⟩
  obtain⟨k,rfl⟩:∃m:Nat,i=m:=⟨i.toNat,ai⟩
  have hd:hD (m:Int) (k:Int)=mg (bC m m k):=by
   unfold hD
   rw[if_pos Ji]
   simp only[Int.toNat_natCast]
   exact tw m m k
  have qR:=qv m m k ai
  have YW:j9 root (m:Int) (k:Int) leaf proof=decide ((oO (bC m m k) (leaf,proof)).1=root):=by
   unfold j9
   rw[decide_eq_decide]
   simp only[Int.toNat_natCast,tA]
   exact⟨fun h=>h.2.2,fun h=>⟨Ji,nt,h⟩⟩
  rw[YW]at hE
  refine go ?_
  ((refine ah zr zr zr zr (vC (m:Int) (k:Int)) ad ?_ bE))
  rintro _ _⟨b1,b2,rfl,rfl⟩
  refine go ?_
  refine gL rfl ?_
  refine aj (H':=ag b8 (cl (dC leaf) 36)::ag b9 (cl [.slice a proof.length c] 40)::X::ag b1 (cl [.int .i64 (m:Int)] 3)::ag b2 (cl [.int .i64 (k:Int)] 3)::ag b5 (cl (dC root) 36)::F) ad ?_
  refine aj (AI (z:=oO ((bC m m k).take 0) (leaf,proof)) Dr _) ?_
  refine oV (Fr:=ag b5 (cl (dC root) 36)::F) (Pre:=fun _ _=>[Ue b8 b9 X (oO ((bC m m k).take 0) (leaf,proof)),ag b1 (cl [.int .i64 (m:Int)] 3),ag b2 (cl [.int .i64 (k:Int)] 3)]) (fun _ _ Lp v H=>H=[Lp .ready none,Ue b8 b9 X (oO ((bC m m k).take (bC m m k).length) (leaf,proof))]) rfl hE.1.1 rfl ?c (fun l r=>ad) ?fN
  case c =>
   intro l r
   refine tT b1 b2 m k ai ai l _ (fun j=>Ue b8 b9 X (oO ((bC m m k).take j) (leaf,proof))) ?_
   rintro j⟨p,q⟩ B3
   obtain⟨h1,h2⟩:=qR _ (List.mem_of_getElem? B3)
   have iZ:(bC m m k).take (j+1)=(bC m m k).take j++[(p,q)]:=by rw[List.take_add_one,B3];rfl
   have hcz:oO ((bC m m k).take (j+1)) (leaf,proof)=vh (oO ((bC m m k).take j) (leaf,proof)) (p,q):=by rw[iZ,LK]
   have KO:=Cy ((bC m m k).take j) (leaf,proof)
   have MN:mg ((bC m m k).take (j+1))=mg ((bC m m k).take j)+if(eR p q).isSome then 1 else 0:=by rw[iZ,Cx]
   have lz:=Gl (bC m m k) (j+1)
   simp only at h1 h2 KO
   rw[hcz]
   obtain⟨z,hz⟩:∃z,z=oO ((bC m m k).take j) (leaf,proof):=⟨_,rfl⟩
   rw[← hz]at KO ⊢
   clear hcz hz
   refine bQ.BA zr zr ?_
   intro G F2 R2 hY
   unfold vh at hY
   obtain⟨x,Ye⟩:=z
   refine go ?_
   refine e8 rfl hY ?_
   refine aj (aq.pick [1] rfl) ?_
   refine dM (Dd b8 b9 X (x,Ye)) ?_
   rintro v Xw
   simp only at Xw
   refine go ?_
   ((refine ah zr zr zr zr (wJ p q h1 ai) ad ?_ bE))
   rintro _ _⟨rfl,rfl⟩
   unfold vl
   cases hs:eR p q with
   | none =>
    rw[hs]at MN hY
    simp only at hY ⊢
    refine go ?_
    refine aj (AI (z:=(x,Ye)) Xw _) ?_
    refine eK hY rfl ad ⟨rfl,rfl⟩
   | some s =>
    rw[hs]at MN hY
    simp only[Option.isSome_some,if_true]at MN
    simp only at hY ⊢
    simp only at KO
    obtain⟨p0,rest,rfl⟩:∃p0 rest,Ye=p0::rest:=by
     cases Ye with
     | nil=>rw[List.length_nil]at KO;exfalso;omega
     | cons p0 rest=>exact⟨p0,rest,rfl⟩
    simp only[List.headD_cons,List.tail_cons]at hY
    obtain⟨dj,a1,c1,rfl,Js⟩:=Xw
    obtain⟨bb,oo,cc,he⟩:=dj.some (by rw[List.flatMap_cons];intro h;simp[dC]at h)
    simp only[Value.slice.injEq,true_and]at he
    obtain⟨rfl,rfl⟩:=he
    have rE:=Fg.tail ⟨dj,_,_,rfl,Js⟩
    have eQ:∀(q':Nat) (v:Value),(dC p0)[q']?=some v→((p0::rest).flatMap dC)[0+q']?=some v:=fun q' v hq=>by
     rw[Nat.zero_add,List.flatMap_cons,List.getElem?_append_left (List.getElem?_eq_some_iff.1 hq).1];exact hq
    have uu:s≠q:=(zt h1 hs).2.2
    refine go ?_
    refine aw zr zr ?_ ?_
    ·intro cO
     have zV:s<q:=by omega
     rw[if_pos zV]at hY
     refine go ?_
     refine aF (fun w=>Sat G w ([ag b8 (cl (dC x) 36),ag b9 (cl [.slice (some ⟨bb,oo,none⟩) (p0::rest).length c1] 40),X])) (.st 0 (.st 1 (.st 2 (.st 3 (.act 4 (.act 5 .nil)))))) rfl ak ak ak (fun w hw=>hw.aX ad) ?_
     (repeat(first|refine fk ?_|refine eE (U:=ao) 0 32 zr zr zr zr zr zr zr zr (by simp) ?_|refine bD (U:=ao) (l:=dC x) 0 zr zr zr zr zr zr ?_|(refine aJ ?_;refine e9 (U:=ao) (es:=dC p0) 2 0 zr zr zr dj rfl eQ zr zr zr ?_)))
     ((refine ah rfl rfl rfl rfl (wT X hK p0 x) ad ?_ (fun _ _ w hp hw=>by obtain⟨rfl,rfl⟩:=hp;exact hw.aX ad)))
     rintro _ _⟨rfl,rfl⟩
     refine aS ?_
     refine cn (U:=ao) (l':=dC (gn p0 x)) 1 fR rfl rfl rfl rfl (by intro e;cases e) (by rw[dp];exact iH _) rfl rfl rfl ?_
     refine go ?_
     refine bG (U:=ao) (p:=1) (q:=((p0::rest).length:Int)) zr zr zr zr zr zr zr ai (by simp only[List.length_cons];omega) (.inl rfl) ?_
     ((refine aB 52 ((.slice (sliceAt (some ⟨bb,oo,none⟩) c1 1 32) rest.length (c1-1))) rfl ((by rw[show((p0::rest).length:Int).toNat=rest.length+1 from by simp[List.length_cons],show(1:Int).toNat=1 from rfl,show rest.length+1-1=rest.length by omega];rfl)) ?_))
     refine go ?_
     refine aj (aq.trans ad (AI (z:=(gn p0 x,rest)) rE _)) ?_
     refine eK hY rfl ad ⟨rfl,rfl⟩
    ·intro cO
     have zV:¬s<q:=by omega
     rw[if_neg zV]at hY
     refine go ?_
     refine aF (fun w=>Sat G w ([ag b8 (cl (dC x) 36),ag b9 (cl [.slice (some ⟨bb,oo,none⟩) (p0::rest).length c1] 40),X])) (.st 0 (.st 1 (.st 2 (.st 3 (.act 4 (.act 5 .nil)))))) rfl ak ak ak (fun w hw=>hw.aX ad) ?_
     (repeat(first|refine fk ?_|refine eE (U:=ao) 0 32 zr zr zr zr zr zr zr zr (by simp) ?_|refine bD (U:=ao) (l:=dC x) 0 zr zr zr zr zr zr ?_|(refine aJ ?_;refine e9 (U:=ao) (es:=dC p0) 2 0 zr zr zr dj rfl eQ zr zr zr ?_)))
     ((refine ah rfl rfl rfl rfl (wT X hK x p0) ad ?_ (fun _ _ w hp hw=>by obtain⟨rfl,rfl⟩:=hp;exact hw.aX ad)))
     rintro _ _⟨rfl,rfl⟩
     refine aS ?_
     refine cn (U:=ao) (l':=dC (gn x p0)) 1 fR rfl rfl rfl rfl (by intro e;cases e) (by rw[dp];exact iH _) rfl rfl rfl ?_
     refine go ?_
     refine bG (U:=ao) (p:=1) (q:=((p0::rest).length:Int)) zr zr zr zr zr zr zr ai (by simp only[List.length_cons];omega) (.inl rfl) ?_
     ((refine aB 52 ((.slice (sliceAt (some ⟨bb,oo,none⟩) c1 1 32) rest.length (c1-1))) rfl ((by rw[show((p0::rest).length:Int).toNat=rest.length+1 from by simp[List.length_cons],show(1:Int).toNat=1 from rfl,show rest.length+1-1=rest.length by omega];rfl)) ?_))
     refine go ?_
     refine aj (aq.trans ad (AI (z:=(gn x p0,rest)) rE _)) ?_
     refine eK hY rfl ad ⟨rfl,rfl⟩
  rintro l r v H' rfl
  refine⟨_,_,_,rfl,by decide,?_⟩
  rw[hE.1.2,List.take_length]
  refine dM (Dd b8 b9 X _) ?_
  rintro v -
  refine go ?_
  refine aI (U:=ao) (l:=dC (oO (bC m m k) (leaf,proof)).1) 0 zr zr zr zr zr zr ?_
  refine go ?_
  refine aI (U:=ao) (l:=dC root) 4 zr zr zr zr zr zr ?_
  refine go ?_
  refine jI (b:=decide ((oO (bC m m k) (leaf,proof)).1=root)) zr zr zr Ih (fun w=>Iq _ root w) ?_
  refine go ?_
  (apply aR (U:=ao) hE Tryz.func88 rfl ad;(repeat(first|exact aK.nil|apply aK.tmp rfl));exact⟨rfl,rfl⟩;exact ad)
set_option maxRecDepth 20000 in
theorem vH(X:HP)(hK:mX X)(x:Bl)(i:Int)(bv:Value)(b:List UInt8)(hb:dR X bv b)(jV:b.length≤900000000)(pv:Value)(proof:List Dg)(hp:Fg X pv proof) :
  aD Tryz.prog 35 [dQ x,.int .i64 i,bv,pv] [X] (fun r H=>r = .bool (fW x i b proof)∧H=[X]):=by
 have nF:=wP x i
 have Ln:=tK x
 have YW:=I8 X hK x.root (cI b) (cj x) i pv proof hp
 have hlf:=CS X hK bv b hb jV
 obtain⟨ba,bc,rfl,MO⟩:=hb.2
 obtain⟨pa,pc,rfl,qa⟩:=hp.2
 unfold dQ at nF Ln ⊢
 unfold dV at YW hlf
 refine aD.enter Tryz.func35 ak rfl Tryz.ntmps35 zr zr ?_
 intro G F R hE
 refine aE rfl ?_
 refine bq zr zr bp ?_
 intro b4
 refine go ?_
 refine aI (U:=ao) (l:=bn x) 0 zr zr zr zr zr zr ?_
 refine go ?_
 ((refine ah zr zr zr zr (nF) ad ?_ bE))
 rintro _ _⟨rfl,rfl⟩
 unfold fW at hE
 cases gw:dN x i with
 | none =>
  rw[gw]at hE
  simp only at hE ⊢
  refine go ?_
  refine aF (fun w=>Sat G w ([ag b4 (cl (bn x) 38)])) (.st 0 (.st 1 (.st 2 (.st 3 (.st 4 (.st 5 (.st 6 (.st 7 (.st 8 (.st 9 (.st 10 (.st 11 (.st 13 (.st 14 (.st 16 (.act 12 (.act 15 (.act 17 (.st 18 (.st 19 .nil)))))))))))))))))))) rfl ak ak ak (fun w hw=>hw.aX ad) ?_
  refine go ?_
  ((refine ae hE Tryz.func35 rfl _ rfl ⟨rfl,rfl⟩ ad))
 | some w =>
  obtain⟨at_,n⟩:=w
  rw[gw]at hE
  simp only at hE ⊢
  refine go ?_
  refine aF (fun w=>Sat G w ([ag b4 (cl (bn x) 38)])) (.st 0 (.st 1 (.st 2 (.st 3 (.st 4 (.st 5 (.st 6 (.st 7 (.st 8 (.st 9 (.st 10 (.st 11 (.st 13 (.st 14 (.st 16 (.act 12 (.act 15 (.act 17 (.st 18 (.st 19 .nil)))))))))))))))))))) rfl ak ak ak (fun w hw=>hw.aX ad) ?_
  refine go ?_
  by_cases hl:(b.length:Int)=n
  case neg =>
   rw[decide_eq_false hl,Bool.false_and]at hE
   ((refine aB 27 ((.bool false)) rfl ((congrArg Value.bool (decide_eq_false hl))) ?_))
   refine go ?_
   ((refine ae hE Tryz.func35 rfl _ rfl ⟨rfl,rfl⟩ ad))
  rw[decide_eq_true hl,Bool.true_and]at hE
  ((refine aB 27 ((.bool true)) rfl ((congrArg Value.bool (decide_eq_true hl))) ?_))
  refine go ?_
  refine bW (U:=ao) (cs:=dC x.root) 0 zr zr zr zr zr zr ?_
  refine go ?_
  refine bD (U:=ao) (l:=bn x) 0 zr zr zr zr zr zr ?_
  refine go ?_
  ((refine ah rfl rfl rfl rfl (Ln) ad ?_ (fun _ _ w hp hw=>by obtain⟨rfl,rfl⟩:=hp;exact hw.aX ad)))
  rintro _ _⟨rfl,rfl⟩
  refine go ?_
  ((refine ah rfl rfl rfl rfl (hlf) ad ?_ (fun _ _ w hp hw=>by obtain⟨rfl,rfl⟩:=hp;exact hw.aX ad)))
  rintro _ _⟨rfl,rfl⟩
  refine go ?_
  ((refine ah rfl rfl rfl rfl (YW) ad ?_ (fun _ _ w hp hw=>by obtain⟨rfl,rfl⟩:=hp;exact hw.aX ad)))
  rintro _ _⟨rfl,rfl⟩
  refine go ?_
  ((refine ae hE Tryz.func35 rfl _ rfl ⟨rfl,rfl⟩ ad))
end Go.Proofs.YthjbidjmgbjkiaaGreatDoor
namespace Go.Proofs.YthjbidjmgbjkiaaGreatDoor
open Go Go.SL
structure TC where
 x:Bl
 n:Nat
 ws:List iq
 pf:Int→Option (List Dg)
def Tk.c(y:Tk):TC:=⟨y.x,y.n,y.ws,y.pf⟩
def kz(ts:List Tk):List TC:=ts.map Tk.c
namespace TC
def put(c:TC)(i:Nat)(l:List Dg):TC:=⟨c.x,c.n,ju c.ws i true,fun j=>if j=(i:Int)then some l else c.pf j⟩
def drop(c:TC)(i:Nat):TC:=⟨c.x,c.n,ju c.ws i false,fun j=>if j=(i:Int)then none else c.pf j⟩
end TC
def iS(x:Bl):TC:=⟨x,(cj x).toNat,List.replicate (((cj x).toNat+63)/64) 0#64,fun _=>none⟩
def pI:List (List UInt8)→Option (List Dg)
 | []=>some []
 | b::l=>match gh b,pI l with
  | some d,some ds=>some (d::ds)
  | _,_=>none
def og(cs:List TC)(d:Dg)(m:List UInt8)(l:List (List UInt8)):List TC:=match qw m,pI l with
 | some i,some p=>cs.map fun y=>if y.x.d=d∧i<y.n∧p.length=hD y.n i then y.put i p else y
 | _,_=>cs
def M6(cs:List TC)(d:Dg):List TC:=cs.filter fun y => !decide (y.x.d=d)
def fu(cs:List TC)(b:List UInt8):List TC:=match i' b with
 | none=>cs
 | some (k,d,more) =>
  if k=3∧more=[]then M6 cs d
  else match more with
   | [s,p,r]=>if k=1 then(match qw s,qw p,gh r with
     | some s,some p,some r=>if bz ⟨d,s,p,r⟩then M6 cs d++[iS ⟨d,s,p,r⟩]else cs
     | _,_,_=>cs)
    else if k=2 then og cs d s [p,r]else cs
   | m::l=>if k=2 then og cs d m l else cs
   | []=>cs
def bH(d:Dg)(i:Nat)(p:List Dg):List UInt8:=jM 2 d (uv i::p.map Dg.bs)
def ke(s:ek)(z:TC × List (List UInt8))(i:Nat):TC × List (List UInt8) :=
 if fZ z.1.ws z.1.n (i:Int)then(if(cq s z.1.x i).2≠0∨fW z.1.x i (cq s z.1.x i).1 ((z.1.pf i).getD [])=false then(z.1.drop i,z.2)else(z.1,z.2++[bH z.1.x.d i ((z.1.pf i).getD [])]))else z
def gX(s:ek)(c:TC)(k:Nat):TC × List (List UInt8):=(List.range k).foldl (ke s) (c,[bR c.x])
def jR(s:ek)(c:TC):TC × List (List UInt8):=gX s c c.n
def sr(q:Int):List TC→ek→List TC→List (List UInt8)→Nat→ek→List TC→List (List UInt8)→Prop
 | [],s,cs,rs,e,t,wx,FC=>e=0∧t=s∧wx=cs∧FC=rs
 | c::l,s,cs,rs,e,t,wx,FC=>∃e1 s1,dE q c.x s e1 s1 ∧
  if e1=5∨e1=11 then sr q l s1 cs rs e t wx FC
  else if e1≠0 then e=e1∧t=s1
  else sr q l s1 (cs++[(jR s1 c).1]) (rs++(jR s1 c).2) e t wx FC
def Au(q:Int)(s:ek)(e:Nat)(t:ek)(jn:JN)(cs:List TC):Prop :=
 ∃e1 A1 j1,oS s.A dX e1 A1 j1∧if e1≠0 then e=e1∧t=⟨A1,s.aT,s.brk⟩else
  ∃e2 s2 rs,sr q ((iG s.A dX).foldl fu []) ⟨A1,s.aT,s.brk⟩ [] [] e2 s2 cs rs∧if e2≠0 then e=e2∧t=s2 else
   ∃A3,sG dX s2.A j1 rs e A3 jn∧t=⟨A3,s2.aT,s2.brk⟩
theorem nr(s:ek)(c:TC)(k:Nat):gX s c (k+1)=ke s (gX s c k) k:=by
 unfold gX
 rw[List.range_succ,List.foldl_append]
 rfl
theorem Ny(s:ek)(z:TC × List (List UInt8))(i:Nat):(ke s z i).1.x=z.1.x∧(ke s z i).1.n=z.1.n∧(ke s z i).1.ws.length=z.1.ws.length:=by
 unfold ke
 split
 ·split
  ·exact⟨rfl,rfl,kY _ _ _⟩
  ·exact⟨rfl,rfl,rfl⟩
 ·exact⟨rfl,rfl,rfl⟩
theorem F4(s:ek)(c:TC):∀k,(gX s c k).1.x=c.x∧(gX s c k).1.n=c.n∧(gX s c k).1.ws.length=c.ws.length
 | 0=>⟨rfl,rfl,rfl⟩
 | k+1=>by
  rw[nr]
  obtain⟨h1,h2,h3⟩:=Ny s (gX s c k) k
  obtain⟨g1,g2,g3⟩:=F4 s c k
  exact⟨h1.trans g1,h2.trans g2,h3.trans g3⟩
theorem Gi(ts:List Tk):(kz ts).length=ts.length:=by simp[kz]
def er(i:Nat)(l:List Dg):List (List UInt8):=uv i::l.map Dg.bs
theorem kZ(i:Nat)(hi:i≤1000000000000)(l:List Dg):∀b∈er i l,b.length≤32:=fun b hb=>by
  rcases List.mem_cons.1 hb with rfl|hb
  · have := u4 5 i (by have : (128 : Nat) ^ 6 = 4398046511104 := by decide
                       omega)
    omega
  · obtain⟨d,_,rfl⟩:=List.mem_map.1 hb
    rw[d.len];omega
theorem Bv(i:Nat){l:List Dg}{j:Nat}{d:Dg}(h:l[j]?=some d):er i (l.take (j+1))=er i (l.take j)++[d.bs]:=by
 unfold er
 rw[List.take_add_one,h]
 simp
structure UI where
 cs:List Value
 Z:HP
def Aq(M:UI)(ls:List (List UInt8)):Prop:=M.cs.length=ls.length∧∀(i:Nat) (x:List UInt8),ls[i]?=some x→∃cv,M.cs[i]?=some cv∧dR M.Z cv x
theorem Aq.add{M:UI}{ls:List (List UInt8)}(h:Aq M ls){A:HP}{cv:Value}{x:List UInt8}(hx:dR A cv x):Aq ⟨M.cs++[cv],Sep [A,M.Z]⟩ (ls++[x]):=by
 obtain⟨h1,h2⟩:=h
 refine⟨by simp[h1],fun i y hy=>?_⟩
 simp only
 rw[List.getElem?_append]at hy ⊢
 rw[h1]
 split at hy
 ·rename_i cO
  rw[if_pos cO]
  obtain⟨XS,h3,h4⟩:=h2 i y hy
  exact⟨XS,h3,h4.mono (aW (i:=1) rfl)⟩
 ·rename_i eQ
  rw[if_neg eQ]
  have h0:i-ls.length=0:=by
   rcases Nat.eq_zero_or_pos (i-ls.length)with h|h
   ·exact h
   ·rw[List.getElem?_eq_none (by simp;omega)]at hy;cases hy
  rw[h0]at hy ⊢
  cases hy
  exact⟨cv,rfl,hx.mono (aW (i:=0) rfl)⟩
attribute [local irreducible] J K aD Ends ag az aL bK aZ aQ aV bg bQ aC
set_option maxRecDepth 20000 in
set_option maxHeartbeats 1000000 in
theorem yu(d:Dg)(i:Nat)(hi:i≤1000000000000)(P:HP)(pv:Value)(l:List Dg)(hp:Vw P pv l.length (l.flatMap dC))(hl:l.length≤16) :
  aD Tryz.prog 40 [dV d,.int .i64 (i:Int),pv] [P] (fun r H=>H=[az 5 1 r (bH d i l).length (bV (bH d i l)),P]):=by
 obtain⟨a,c,rfl⟩:=hp.shape
 have hlen:=kZ i hi l
 unfold dV
 refine aD.enter Tryz.func40 ak rfl Tryz.ntmps40 zr zr ?_
 intro G F R hE
 refine aE rfl ?_
 refine bq zr zr bp ?_
 intro b3
 refine go ?_
 ((refine ah zr zr zr zr (ll i ai) ad ?_ bE))
 rintro r8 _ rfl
 ((refine aM 0 rfl ?_))
 rintro a8 c8 rfl
 refine fG (bs:=uv i) 0 rfl ?_
 intro F'
 refine go ?_
 refine au (U:=ao) (cs:=[.slice a8 (uv i).length c8]) zr zr zr zr zr zr zr zr zr bp ?_
 intro row
 refine go ?_
 refine aj (H':=ag row (cl [.slice a8 (uv i).length c8] 39)::az 5 1 (.slice a8 (uv i).length c8) (uv i).length (bV (uv i))::ag b3 (cl (dC d) 36)::P::F) ad ?_
 refine aj (dZ 39 1 row 1 1 [.slice a8 (uv i).length c8] [] _ rfl (Nat.le_refl _) (by simp)) ?_
 refine bo (fun y:Nat × UI × Option Addr × Nat=>y.1≤l.length∧Aq y.2.1 (er i (l.take y.1))) (fun y=>l.length-y.1)
  (fun y=>[(3,ptr b3),(7,.slice y.2.2.1 (y.1+1) y.2.2.2),(14,.slice a l.length c),(15,.int .i64 (l.length:Int)),(16,.int .i64 (y.1:Int))])
  (fun y=>az 39 1 (.slice y.2.2.1 (y.1+1) y.2.2.2) (y.1+1) y.2.1.cs::y.2.1.Z::ag b3 (cl (dC d) 36)::P::F) (0,⟨[.slice a8 (uv i).length c8],az 5 1 (.slice a8 (uv i).length c8) (uv i).length (bV (uv i))⟩,some ⟨row,0,none⟩,1) ⟨Nat.zero_le _,?_⟩ rfl bY ad ?_
 ·refine⟨rfl,fun j x hx=>?_⟩
  match j,hx with
  | 0,hx=>cases hx;exact⟨_,rfl,F'⟩
  | j+1,hx=>simp[er]at hx
 rintro⟨j,M,ma,mc⟩⟨hj,hM⟩ ih
 simp only at hj hM
 dsimp only
 refine go ?_
 refine aw zr zr ?_ ?_
 ·intro cO
  have nK:j<l.length:=by omega
  obtain⟨x,hx⟩:∃x,l[j]?=some x:=⟨l[j],by simp⟩
  have iZ:=Bv i hx
  have yF:=hM.1
  have abk:(er i (l.take j)).length=j+1:=by simp[er];omega
  obtain⟨bb,oo,cc,he⟩:=hp.some (by intro h;have:=congrArg List.length h;rw[bZ cP]at this;simp at this;omega)
  simp only[Value.slice.injEq,true_and]at he
  obtain⟨rfl,rfl⟩:=he
  refine go ?_
  refine eE (U:=ao) j 32 zr zr zr zr zr zr zr zr nK ?_
  refine aJ ?_
  refine cQ (U:=ao) (es:=dC x) 3 (j*32) zr zr zr hp rfl (fun q v hq=>?_) zr zr zr ?_
  ·rw[cF cP hx q (by rcases Nat.lt_or_ge q 32 with h|h;exact h;rw[List.getElem?_eq_none (by rw[cP];exact h)]at hq;cases hq)];exact hq
  refine aN (U:=ao) zr zr zr bp ?_
  intro b9
  refine go ?_
  refine gM (U:=ao) zr zr zr zr zr ?_
  have uz:dR (ag b9 (cl (dC x) 36)) (.slice (some ⟨b9,0,none⟩) 32 32) x.bs:=dR.block x.len (dp x)
  have lz:=jY (ag b9 (cl (dC x) 36)) (.slice (some ⟨b9,0,none⟩) x.bs.length 32) x.bs (by have:=uz.1;rw[x.len]at this ⊢;exact this) (by rw[x.len];omega)
  rw[x.len]at lz
  ((refine ah zr zr zr zr (lz) ad ?_ bE))
  rintro r9 _ rfl
  rw[← x.len]
  ((refine aM 0 rfl ?_))
  rintro a9 c9 rfl
  refine fG (bs:=x.bs) 0 rfl ?_
  intro Tz
  refine go ?_
  refine au (U:=ao) (cs:=[.slice a9 x.bs.length c9]) zr zr zr zr zr zr zr zr zr bp ?_
  intro M3
  refine go ?_
  refine bh (U:=ao) (mm:=1) (news:=[.slice a9 x.bs.length c9]) 3 0 rfl rfl rfl rfl rfl rfl rfl rfl rfl rfl rfl rfl (Vw.ag rfl) rfl (by intro v hv;simp at hv;rw[hv];rfl) ai (by show(_+_)*24≤_;omega) (fun _=>rfl) bp ?_
  intro v1
  ((refine aM 3 rfl ?_))
  rintro ja jc rfl
  refine go ?_
  refine aj (H':=az 5 1 (.slice a9 x.bs.length c9) x.bs.length (bV x.bs)::M.Z::az 39 1 (.slice ja (j+1+1) jc) (j+1+1) (M.cs++[.slice a9 x.bs.length c9])::ag b3 (cl (dC d) 36)::P::F) ad ?_
  refine aj (aq.bL [az 5 1 (.slice a9 x.bs.length c9) x.bs.length (bV x.bs),M.Z] _) ?_
  have Cm:=hM.add Tz
  rw[← iZ]at Cm
  refine aO ih (j+1,⟨M.cs++[.slice a9 x.bs.length c9],Sep [az 5 1 (.slice a9 x.bs.length c9) x.bs.length (bV x.bs),M.Z]⟩,ja,jc) rfl ⟨by simp only;omega,Cm⟩ (by simp only;omega) bY ad
 ·intro eQ
  have H5:j=l.length:=by omega
  subst H5
  rw[List.take_length]at hM
  clear ih
  have yF:(er i l).length=l.length+1:=by simp[er]
  refine lr 0 rfl ?_
  intro iy
  refine cM 0 rfl ?_
  intro KQ
  have lG:qi (Sep [az 39 1 (.slice ma (l.length+1) mc) (l.length+1) M.cs,M.Z]) (.slice ma (l.length+1) mc) (er i l):=by
   rw[← yF]at KQ iy ⊢
   exact qi.Yn KQ iy hM.1 hM.2
  have KW:=qu 2 d _ _ (er i l) lG ai hlen
  unfold dV at KW
  refine aj (aq.bL [az 39 1 (.slice ma (l.length+1) mc) (l.length+1) M.cs,M.Z] _) ?_
  refine go ?_
  refine aI (U:=ao) (l:=dC d) 1 zr zr zr zr zr zr ?_
  ((refine go ?_;(refine ah zr zr zr zr (KW) ad ?_ bE)))
  rintro rr _ rfl
  refine go ?_
  ((refine ae hE Tryz.func40 rfl _ zr zr ad))
end Go.Proofs.YthjbidjmgbjkiaaGreatDoor
namespace Go.Proofs.YthjbidjmgbjkiaaGreatDoor
open Go Go.SL
def Ow(q:Int)(x:Bl)(ts:List Tk)(s:SJ)(br:Bool)(e:Nat)(gW:List Tk)(lA:Bool)(t:SJ):Prop :=
 (br=true∧e=10∧gW=ts∧lA=br∧t=s)∨(br=false∧(ts.any fun y=>decide (y.x.d=x.d))=true∧e=5∧gW=ts∧lA=br∧t=s) ∨
 (br=false∧(ts.any fun y=>decide (y.x.d=x.d))=false∧lA=eZ e∧gy (cX (dE q x)::iE (bR x)) s e t∧((e≠0∧gW=ts)∨(e=0∧∃y:Tk,y.c=iS x∧gW=ts++[y])))
attribute [local irreducible] J K aD Ends ag az aL bK aZ aQ aV bg bQ aC
theorem CB(tb bs jb bd b2 b3:Nat)(q:Int)(hq:0≤q∧q≤1073741824)(mb:Nat)(tv:Value)(s:SJ)(x:Bl)(A B C:HP)(Lo:mU s.1.aT)(cE:s.1.A.aH.length≤900000000)(eA:s.1.A.writes.length≤900000000) :
  aD Tryz.prog 28 [ptr b2,ptr b3] [gC tb bs jb tv false,bS bs bd jb q mb (A::B::C::[ag b2 (cl [ptr tb] 31),ag b3 (cl (bn x) 38)]) s]
  (fun r H=>∃(e:Nat) (t:SJ),r = .int .i64 (e:Int)∧H=[gC tb bs jb tv false,bS bs bd jb q mb (A::B::C::[ag b2 (cl [ptr tb] 31),ag b3 (cl (bn x) 38)]) t]∧cX (dE q x) s e t):=by
 have c0:=aD.frame ([oz jb bd dX s.2]++[A,B,C]) (CA tb bs jb bd b2 b3 q hq mb tv s.1 x Lo cE eA)
 refine c0.conv ?_ ?_
 ·unfold bS bT
  exact(aq.cons _ (qm _)).trans ad
 ·rintro v H⟨H',⟨e,t,rfl,rfl,hC⟩,rfl⟩
  refine⟨[gC tb bs jb tv false,bS bs bd jb q mb _ (t,s.2)],⟨e,_,rfl,rfl,hC,rfl⟩,?_⟩
  unfold bS bT
  exact aq.trans ad (aq.cons _ (qt _))
theorem JX(tb bs jb bd:Nat)(tv:Value)(q:Int)(mb:Nat)(s:SJ)(g:FuncId)(cap:List Value)(c2 c3:Nat)(Z:HP)(Ys:List HP)(S:SJ→Nat→SJ→Prop)(a:Option Addr)(c:Nat)(b:List UInt8)(hb:dR Z (.slice a b.length c) b)(hl:b.length≤1000000)(m:Nat)(hm:m≤800000000)(hx:∀t,S s 0 t→SQ m 0 t)(hc:aD Tryz.prog g cap [gC tb bs jb tv false,bS bs bd jb q mb (ag c2 (cl [ptr tb] 31)::ag c3 (cl [.slice a b.length c] 39)::Z::Ys) s] (fun r H=>∃(e:Nat) (t:SJ),r = .int .i64 (e:Int)∧H=[gC tb bs jb tv false,bS bs bd jb q mb (ag c2 (cl [ptr tb] 31)::ag c3 (cl [.slice a b.length c] 39)::Z::Ys) t]∧S s e t))(V:HP)(v:Value)(hv:Vw V v 3 (.func (.func g) #[] cap.toArray::gm c2 c3 jb)) :
  aD Tryz.prog 32 [ptr tb,v] [V,gC tb bs jb tv false,bS bs bd jb q mb (ag c2 (cl [ptr tb] 31)::ag c3 (cl [.slice a b.length c] 39)::Z::Ys) s]
  (fun r H=>∃(e:Nat) (t:SJ),r = .int .i64 (e:Int)∧H=[V,gC tb bs jb tv (eZ e),bS bs bd jb q mb (ag c2 (cl [ptr tb] 31)::ag c3 (cl [.slice a b.length c] 39)::Z::Ys) t]∧gy (S::iE b) s e t):=by
 refine pk (bS bs bd jb q mb _) tb bs jb tv V v (.func (.func g) #[] cap.toArray::gm c2 c3 jb) hv (by simp[gm]) (S::iE b) rfl (fun i y=>(i=0→y=s)∧(i=1→SQ m 0 y)∧(i=2→SQ m 1 y)) ?_ s ⟨fun _=>rfl,fun h=>by omega,fun h=>by omega⟩
 intro i fv S' lH hs
 match i,lH,hs with
 | 0,lH,hs =>
  cases lH
  cases hs
  refine⟨_,_,_,rfl,fun y hy=>?_⟩
  have:=hy.1 rfl
  subst this
  refine aD.post hc ?_
  rintro v H⟨e,t,rfl,rfl,hS⟩
  exact⟨e,t,rfl,rfl,hS,fun h0=>⟨fun h=>absurd h ai,fun _=>hx t (by rw[← h0];exact hS),fun h=>absurd h ai⟩⟩
 | 1,lH,hs =>
  cases lH
  cases hs
  refine⟨_,_,_,rfl,fun y hy=>?_⟩
  obtain⟨a1,⟨a2,a3⟩,a4,a5⟩:=hy.2.1 rfl
  refine aD.post (sY tb bs jb bd c2 c3 tv q mb y Z Ys a c b hb hl ⟨a2,ai⟩ ai) ?_
  rintro v H⟨e,x',rfl,rfl,hS⟩
  exact⟨e,x',rfl,rfl,hS,fun _=>⟨fun h=>absurd h ai,fun h=>absurd h ai,fun _=>SQ.append ⟨a1,⟨a2,a3⟩,a4,a5⟩ hS⟩⟩
 | 2,lH,hs =>
  cases lH
  cases hs
  refine⟨_,_,_,rfl,fun y hy=>?_⟩
  obtain⟨a1,⟨a2,a3⟩,a4,a5⟩:=hy.2.2 rfl
  refine aD.post (oN tb bs jb bd tv q mb y _ a1 ⟨a2,ai⟩ ai ai) ?_
  rintro v H⟨e,x',rfl,rfl,hS⟩
  exact⟨e,x',rfl,rfl,hS,fun _=>⟨fun h=>absurd h ai,fun h=>absurd h ai,fun h=>absurd h ai⟩⟩
 | n+3,lH,hs=>cases hs
set_option maxRecDepth 20000 in
set_option maxHeartbeats 2000000 in
theorem xk(tb bs jb bd:Nat)(tv:Value)(q:Int)(hq:0≤q∧q≤1073741824)(mb:Nat)(ts:List Tk)(br:Bool)(s:SJ)(x:Bl)(hl:ts.length≤1000000)(hs:0≤x.size∧x.size≤1000000000000)(hp:0≤x.piece∧x.piece≤1000000000000)(Lo:mU s.1.aT)(cE:s.1.A.aH.length≤900000000)(eA:s.1.A.writes.length≤900000000)(m:Nat)(hm:m≤800000000)(hx:∀t,cX (dE q x) s 0 t→SQ m 0 t) :
  aD Tryz.prog 9 [ptr tb,dQ x] (dg tb bs jb tv ts br++[bS bs bd jb q mb [] s])
  (fun r H=>∃(e:Nat) (gW:List Tk) (lM:Value) (lA:Bool) (t:SJ),r = .int .i64 (e:Int)∧H=dg tb bs jb lM gW lA++[bS bs bd jb q mb [] t]∧Ow q x ts s br e gW lA t):=by
 have nM:=qh x hs hp
 have jV:(bR x).length≤1000000:=by
  have:=gF 1 x.d (iA x) (by simp[iA]) (lk x hs.2 hp.2)
  unfold bR;omega
 have OQ:=fun a n c=>sX tb bs jb tv a n c
 have xN:=yP x
 unfold gC at OQ
 unfold dg
 unfold dQ at nM xN ⊢
 refine aD.enter Tryz.func9 ak rfl Tryz.ntmps9 zr zr ?_
 intro G F R hE
 refine aE rfl ?_
 refine bq zr zr bp ?_
 intro b2
 refine bq zr zr bp ?_
 intro b3
 cases br with
 | true =>
  refine go ?_
  refine aj (H':=ag tb (cl [ptr bs,ptr jb,tv,.bool true] 78)::az 80 1 tv ts.length (ts.map bP)::aP ts::bS bs bd jb q mb [] s::F) ad ?_
  ((refine ae hE Tryz.func9 rfl _ rfl ⟨10,ts,tv,true,s,rfl,rfl,.inl ⟨rfl,rfl,rfl,rfl,rfl⟩⟩ ad))
 | false =>
 refine go ?_
 ((refine aM 3 rfl ?_))
 rintro a c rfl
 refine aG (H':=az 80 1 (.slice a ts.length c) ts.length (ts.map bP)::ag tb (cl [ptr bs,ptr jb,.slice a ts.length c,.bool false] 78)::aP ts::bS bs bd jb q mb [] s::ag b2 (cl [ptr tb] 31)::ag b3 (cl (bn x) 38)::F) ad ?_
 refine iu 0 rfl ?_
 intro dj
 refine aG (H':=aP ts::ag b3 (cl (bn x) 38)::az 80 1 (.slice a ts.length c) ts.length (ts.map bP)::ag tb (cl [ptr bs,ptr jb,.slice a ts.length c,.bool false] 78)::bS bs bd jb q mb [] s::ag b2 (cl [ptr tb] 31)::F) ad ?_
 refine aG (aq.bL [aP ts,ag b3 (cl (bn x) 38)] _) ?_
 ((refine ah zr zr zr zr (uG (az 80 1 (.slice a ts.length c) ts.length (ts.map bP)) (Sep [aP ts,ag b3 (cl (bn x) 38)]) _ ts dj hl 27 [ptr b3] (fun y=>decide (y.x.d=x.d)) (fun y hy=>CC ts x b3 y hy)) ad ?_ bE))
 rintro _ _⟨rfl,rfl⟩
 ((refine aG (H':=Sep [aP ts,ag b3 (cl (bn x) 38)]::az 80 1 (.slice a ts.length c) ts.length (ts.map bP)::ag tb (cl [ptr bs,ptr jb,.slice a ts.length c,.bool false] 78)::bS bs bd jb q mb [] s::ag b2 (cl [ptr tb] 31)::F) ad ?_))
 refine aG (aq.cg [aP ts,ag b3 (cl (bn x) 38)] _) ?_
 cases ku:ts.any (fun y=>decide (y.x.d=x.d))with
 | true =>
  refine go ?_
  refine aj (H':=ag tb (cl [ptr bs,ptr jb,.slice a ts.length c,.bool false] 78)::az 80 1 (.slice a ts.length c) ts.length (ts.map bP)::aP ts::bS bs bd jb q mb [] s::F) ad ?_
  ((refine ae hE Tryz.func9 rfl _ rfl ⟨5,ts,_,false,s,rfl,rfl,.inr (.inl ⟨rfl,ku,rfl,rfl,rfl,rfl⟩)⟩ ad))
 | false =>
 refine go ?_
 refine aj (H':=ag tb (cl [ptr bs,ptr jb,.slice a ts.length c,.bool false] 78)::az 80 1 (.slice a ts.length c) ts.length (ts.map bP)::aP ts::bS bs bd jb q mb [] s::ag b2 (cl [ptr tb] 31)::ag b3 (cl (bn x) 38)::F) ad ?_
 refine gL rfl ?_
 refine zc 1 (fun y:(Option Addr × Nat) × (Option Addr × Nat) × Nat × Nat=>True) (fun y=>[(2,ptr b2),(3,ptr b3),(5,.slice y.1.1 3 y.1.2)]) (fun y=>az 86 1 (.slice y.1.1 3 y.1.2) 3 ([.func (.func 28) #[] #[ptr b2,ptr b3] ]++gm y.2.2.1 y.2.2.2 jb)::az 5 1 (.slice y.2.1.1 (bR x).length y.2.1.2) (bR x).length (bV (bR x))::ag y.2.2.1 (cl [ptr tb] 31)::ag y.2.2.2 (cl [.slice y.2.1.1 (bR x).length y.2.1.2] 39)::ag tb (cl [ptr bs,ptr jb,.slice a ts.length c,.bool false] 78)::az 80 1 (.slice a ts.length c) ts.length (ts.map bP)::aP ts::bS bs bd jb q mb [] s::ag b2 (cl [ptr tb] 31)::ag b3 (cl (bn x) 38)::F) rfl ?_ ?_
 rotate_left
 ·intro tail
  refine aF (fun w=>Sat G w ([ag b2 (cl [ptr tb] 31),ag b3 (cl (bn x) 38)])) (.st 0 (.st 2 (.st 3 (.fork (.act 1 (.act 4 (.act 5 (.act 6 (.st 7 .nil))))) (.act 4 (.fork (.act 1 (.act 5 (.act 6 (.st 7 .nil)))) (.act 5 (.act 1 (.act 6 (.st 7 .nil)))))))))) rfl ak ak ak (fun w hw=>hw.aX ad) ?_
  refine go ?_
  refine bD (U:=ao) (l:=bn x) 1 zr zr zr zr zr zr ?_
  repeat'(first|refine o5 ?_ ?_|(refine au (U:=ao) (cs:=[.func (.func 28) #[] #[ptr b2,ptr b3] ]) zr zr zr zr zr zr zr zr zr (fun _ w hw=>by exact hw.aX ad) ?_;intro r0)|(((refine ah rfl rfl rfl rfl (nM) ad ?_ (fun _ _ w hp hw=>by obtain rfl:=hp;exact hw.aX ad)));rintro _ _ rfl;((refine aM 0 rfl ?_));rintro a8 c8 rfl)|(((refine ah rfl rfl rfl rfl (OQ a8 (bR x).length c8) ad ?_ (fun _ _ w hp hw=>by obtain⟨_,_,_,rfl,rfl⟩:=hp;exact hw.aX ad)));rintro _ _⟨c2,c3,row,rfl,rfl⟩)|fail)
  all_goals(
   refine aG (H':=ag r0 (cl [.func (.func 28) #[] #[ptr b2,ptr b3] ] 86)::ag row (cl (gm c2 c3 jb) 86)::az 5 1 (.slice a8 (bR x).length c8) (bR x).length (bV (bR x))::ag c2 (cl [ptr tb] 31)::ag c3 (cl [.slice a8 (bR x).length c8] 39)::ag tb (cl [ptr bs,ptr jb,.slice a ts.length c,.bool false] 78)::az 80 1 (.slice a ts.length c) ts.length (ts.map bP)::aP ts::bS bs bd jb q mb [] s::ag b2 (cl [ptr tb] 31)::ag b3 (cl (bn x) 38)::F) ad ?_
   refine aG (dZ 86 1 r0 1 1 [.func (.func 28) #[] #[ptr b2,ptr b3] ] [] _ rfl (Nat.le_refl _) (by simp)) ?_
   refine bh (U:=ao) (mm:=2) (news:=gm c2 c3 jb) 0 1 rfl rfl rfl rfl rfl rfl rfl rfl rfl rfl rfl rfl (Vw.ag rfl) rfl (by intro v hv;simp[gm]at hv;rcases hv with rfl|rfl <;> rfl) ai (by show(_+_)*8≤_;omega) (fun _=>rfl) (fun _ w hw=>by exact hw.aX ad) ?_
   intro v1
   ((refine aM 0 rfl ?_))
   rintro ja jc rfl
   (refine nN ?_)
   refine nQ tail ((ja,jc),(a8,c8),c2,c3) rfl trivial bY ad)
 rintro⟨⟨ja,jc⟩,⟨a8,c8⟩,c2,c3⟩ -
 simp only
 refine cM 0 rfl ?_
 intro qP
 refine oU (bs:=bR x) 1 rfl ?_
 intro F'
 have gS:=JX tb bs jb bd (.slice a ts.length c) q mb s 28 [ptr b2,ptr b3] c2 c3 _ [ag b2 (cl [ptr tb] 31),ag b3 (cl (bn x) 38)] _ a8 c8 (bR x) F' jV m hm hx (CB tb bs jb bd b2 b3 q hq mb (.slice a ts.length c) s x _ _ _ Lo cE eA) _ _ qP
 unfold gC at gS
 refine aj (aq.pick [8] rfl) ?_
 refine go ?_
 refine aG (H':=bS bs bd jb q mb [] s::([ag c2 (cl [ptr tb] 31),ag c3 (cl [.slice a8 (bR x).length c8] 39),az 5 1 (.slice a8 (bR x).length c8) (bR x).length (bV (bR x)),ag b2 (cl [ptr tb] 31),ag b3 (cl (bn x) 38)]++(az 86 1 (.slice ja 3 jc) 3 ([.func (.func 28) #[] #[ptr b2,ptr b3] ]++gm c2 c3 jb)::ag tb (cl [ptr bs,ptr jb,.slice a ts.length c,.bool false] 78)::az 80 1 (.slice a ts.length c) ts.length (ts.map bP)::aP ts::F))) ad ?_
 refine aG (wQ bs bd jb q mb _ s _) ?_
 ((refine ah zr zr zr zr (gS) ad ?_ bE))
 rintro _ _⟨e,t,rfl,rfl,hR⟩
 ((refine aG (H':=bS bs bd jb q mb [ag c2 (cl [ptr tb] 31),ag c3 (cl [.slice a8 (bR x).length c8] 39),az 5 1 (.slice a8 (bR x).length c8) (bR x).length (bV (bR x)),ag b2 (cl [ptr tb] 31),ag b3 (cl (bn x) 38)] t::ag tb (cl [ptr bs,ptr jb,.slice a ts.length c,.bool (eZ e)] 78)::az 80 1 (.slice a ts.length c) ts.length (ts.map bP)::aP ts::F) ad ?_))
 refine aG (sk bs bd jb q mb _ t _) ?_
 by_cases he:e=0
 ·subst he
  have hcy:=pM x
  ((refine aG (H':=az 80 1 (.slice a ts.length c) ts.length (ts.map bP)::ag tb (cl [ptr bs,ptr jb,.slice a ts.length c,.bool (eZ 0)] 78)::ag b2 (cl [ptr tb] 31)::ag b3 (cl (bn x) 38)::aP ts::bS bs bd jb q mb [] t::F) ad ?_))
  refine go ?_
  refine aF (fun w=>Sat G w ([ag tb (cl [ptr bs,ptr jb,.slice a ts.length c,.bool (eZ 0)] 78),ag b2 (cl [ptr tb] 31),ag b3 (cl (bn x) 38)])) (.st 0 (.st 1 (.st 2 (.st 3 (.st 4 (.st 5 (.act 6 (.act 7 (.act 8 (.st 9 (.st 10 (.act 11 .nil)))))))))))) rfl ak ak ak (fun w hw=>hw.aX ad) ?_
  refine go ?_
  refine bD (U:=ao) (l:=bn x) 2 zr zr zr zr zr zr ?_
  refine go ?_
  ((refine ah rfl rfl rfl rfl (xN) ad ?_ (fun _ _ w hp hw=>by obtain⟨_,_,rfl,_⟩:=hp;exact hw.aX ad)))
  rintro _ _⟨y,rfl,rfl,ZC,HL,ZB,ZA⟩
  refine go ?_
  refine au (U:=ao) (cs:=[ptr y.yb]) zr zr zr zr zr zr zr zr zr (fun _ w hw=>hw.aX ad) ?_
  intro r1
  refine go ?_
  refine bh (U:=ao) (mm:=1) (news:=[ptr y.yb]) 2 0 rfl rfl rfl rfl rfl rfl rfl rfl rfl rfl rfl rfl (Vw.ag rfl) rfl (by intro v hv;simp at hv;rw[hv];rfl) ai (by show(_+_)*8≤_;omega) (fun _=>rfl) (fun _ w hw=>hw.aX ad) ?_
  intro v1
  ((refine aM 2 rfl ?_))
  rintro ka kc rfl
  refine go ?_
  have MK:ts.map bP++[ptr y.yb]=(ts++[y]).map bP:=by simp[bP]
  have yF:ts.length+1=(ts++[y]).length:=by simp
  have qR:=sM ts [] y
  rw[List.append_nil]at qR
  rw[MK,yF]
  refine aj (H':=mV y::aP ts::ag tb (cl [ptr bs,ptr jb,.slice ka (ts++[y]).length kc,.bool (eZ 0)] 78)::az 80 1 (.slice ka (ts++[y]).length kc) (ts++[y]).length ((ts++[y]).map bP)::bS bs bd jb q mb [] t::F) ad ?_
  refine aj (qR _) ?_
  have xp:y.c=iS x:=by
   unfold Tk.c iS
   rw[ZC,ZB,ZA,← HL,Int.toNat_natCast]
  ((refine ae hE Tryz.func9 rfl _ rfl ⟨0,ts++[y],_,eZ 0,t,rfl,rfl,.inr (.inr ⟨rfl,ku,rfl,hR,.inr ⟨rfl,y,xp,rfl⟩⟩)⟩ ad))
 ·((refine aG (H':=ag tb (cl [ptr bs,ptr jb,.slice a ts.length c,.bool (eZ e)] 78)::az 80 1 (.slice a ts.length c) ts.length (ts.map bP)::aP ts::bS bs bd jb q mb [] t::F) ad ?_))
  refine go ?_
  refine aw zr zr ?_ ?_
  ·intro _
   refine go ?_
   ((refine ae hE Tryz.func9 rfl _ rfl ⟨e,ts,_,eZ e,t,rfl,rfl,.inr (.inr ⟨rfl,ku,rfl,hR,.inl ⟨he,rfl⟩⟩)⟩ ad))
  ·intro h;exfalso;omega
end Go.Proofs.YthjbidjmgbjkiaaGreatDoor
namespace Go.Proofs.YthjbidjmgbjkiaaGreatDoor
open Go Go.SL
def Oi(x:Bl)(i:Int)(b:List UInt8)(p:List Dg)(ts:List Tk)(s:SJ)(br:Bool)(e:Nat)(gW:List Tk)(lA:Bool)(t:SJ):Prop :=
 (br=true∧e=10∧gW=ts∧lA=br∧t=s)∨(br=false∧eS ts x=none∧e=4∧gW=ts∧lA=br∧t=s) ∨
 (br=false∧∃(k:Nat) (y:Tk),eS ts x=some y∧ts[k]?=some y∧y.x=x∧(((i<0∨(y.n:Int)≤i)∧e=1∧gW=ts∧lA=br∧t=s)∨((0≤i∧i<y.n)∧fZ y.ws y.n i=true∧e=0∧gW=ts∧lA=br∧t=s) ∨
  ((0≤i∧i<y.n)∧fZ y.ws y.n i=false∧fW x i b p=false∧e=8∧gW=ts∧lA=br∧t=s) ∨
  ((0≤i∧i<y.n)∧fZ y.ws y.n i=false∧fW x i b p=true∧lA=eZ e∧gy (cX (lJ x i b)::cX (kh x)::iE (bH x.d i.toNat p)) s e t∧((e≠0∧gW=ts)∨(e=0∧gW=ts.set k (y.put i.toNat p))))))
attribute [local irreducible] J K aD Ends ag az aL bK aZ aQ aV bg bQ aC
theorem Hh(X:HP)(tb bs jb bd b2 b3 b4 b5:Nat)(q:Int)(mb:Nat)(tv:Value)(s:SJ)(x:Bl)(i:Int)(a:Option Addr)(c:Nat)(b:List UInt8)(A B C:HP)(hv:Vw X (.slice a b.length c) b.length (bV b))(jV:b.length≤1000000000)(hi : -9223372036854775808≤i∧i≤9223372036854775807)(cE:s.1.A.aH.length≤900000000)(eA:s.1.A.writes.length≤900000000) :
  aD Tryz.prog 36 [ptr b2,ptr b3,ptr b4,ptr b5] [gC tb bs jb tv false,bS bs bd jb q mb (A::B::C::[X,ag b2 (cl [ptr tb] 31),ag b3 (cl (bn x) 38),ag b4 (cl [.int .i64 i] 3),ag b5 (cl [.slice a b.length c] 39)]) s]
  (fun r H=>∃(e:Nat) (t:SJ),r = .int .i64 (e:Int)∧H=[gC tb bs jb tv false,bS bs bd jb q mb (A::B::C::[X,ag b2 (cl [ptr tb] 31),ag b3 (cl (bn x) 38),ag b4 (cl [.int .i64 i] 3),ag b5 (cl [.slice a b.length c] 39)]) t]∧cX (lJ x i b) s e t):=by
 have c0:=aD.frame ([oz jb bd dX s.2]++[A,B,C]) (Hi X tb bs jb bd b2 b3 b4 b5 q mb tv s.1 x i a c b hv jV hi cE eA)
 refine c0.conv ?_ ?_
 ·unfold bS bT
  exact(aq.cons _ (qm _)).trans ad
 ·rintro v H⟨H',⟨e,t,rfl,rfl,hC⟩,rfl⟩
  refine⟨[gC tb bs jb tv false,bS bs bd jb q mb _ (t,s.2)],⟨e,_,rfl,rfl,hC,rfl⟩,?_⟩
  unfold bS bT
  exact aq.trans ad (aq.cons _ (qt _))
theorem He(tb bs jb bd b2 b3:Nat)(q:Int)(mb:Nat)(tv:Value)(s:SJ)(x:Bl)(A B C X D E:HP)(cE:s.1.A.aH.length≤900000000)(eA:s.1.A.writes.length≤900000000) :
  aD Tryz.prog 38 [ptr b2,ptr b3] [gC tb bs jb tv false,bS bs bd jb q mb (A::B::C::[X,ag b2 (cl [ptr tb] 31),ag b3 (cl (bn x) 38),D,E]) s]
  (fun r H=>∃(e:Nat) (t:SJ),r = .int .i64 (e:Int)∧H=[gC tb bs jb tv false,bS bs bd jb q mb (A::B::C::[X,ag b2 (cl [ptr tb] 31),ag b3 (cl (bn x) 38),D,E]) t]∧cX (kh x) s e t):=by
 have c0:=aD.frame ([oz jb bd dX s.2]++[A,B,C,X,D,E]) (Hg tb bs jb bd b2 b3 q mb tv s.1 x cE eA)
 refine c0.conv ?_ ?_
 ·unfold bS bT
  exact(aq.cons _ (qm _)).trans ad
 ·rintro v H⟨H',⟨e,t,rfl,rfl,hC⟩,rfl⟩
  refine⟨[gC tb bs jb tv false,bS bs bd jb q mb _ (t,s.2)],⟨e,_,rfl,rfl,hC,rfl⟩,?_⟩
  unfold bS bT
  exact aq.trans ad (aq.cons _ (qt _))
theorem JW(tb bs jb bd:Nat)(tv:Value)(q:Int)(mb:Nat)(s:SJ)(g1 g2:FuncId)(TS tB:List Value)(c2 c3:Nat)(Z:HP)(Ys:List HP)(S1 S2:SJ→Nat→SJ→Prop)(a:Option Addr)(c:Nat)(b:List UInt8)(hb:dR Z (.slice a b.length c) b)(hl:b.length≤1000000)(m:Nat)(hm:m≤800000000)(hx:∀t u,S1 s 0 t→S2 t 0 u→SQ m 0 u)(Js:aD Tryz.prog g1 TS [gC tb bs jb tv false,bS bs bd jb q mb (ag c2 (cl [ptr tb] 31)::ag c3 (cl [.slice a b.length c] 39)::Z::Ys) s] (fun r H=>∃(e:Nat) (t:SJ),r = .int .i64 (e:Int)∧H=[gC tb bs jb tv false,bS bs bd jb q mb (ag c2 (cl [ptr tb] 31)::ag c3 (cl [.slice a b.length c] 39)::Z::Ys) t]∧S1 s e t))(oD:∀u,S1 s 0 u→aD Tryz.prog g2 tB [gC tb bs jb tv false,bS bs bd jb q mb (ag c2 (cl [ptr tb] 31)::ag c3 (cl [.slice a b.length c] 39)::Z::Ys) u] (fun r H=>∃(e:Nat) (t:SJ),r = .int .i64 (e:Int)∧H=[gC tb bs jb tv false,bS bs bd jb q mb (ag c2 (cl [ptr tb] 31)::ag c3 (cl [.slice a b.length c] 39)::Z::Ys) t]∧S2 u e t))(V:HP)(v:Value)(hv:Vw V v 4 (.func (.func g1) #[] TS.toArray :: .func (.func g2) #[] tB.toArray::gm c2 c3 jb)) :
  aD Tryz.prog 32 [ptr tb,v] [V,gC tb bs jb tv false,bS bs bd jb q mb (ag c2 (cl [ptr tb] 31)::ag c3 (cl [.slice a b.length c] 39)::Z::Ys) s]
  (fun r H=>∃(e:Nat) (t:SJ),r = .int .i64 (e:Int)∧H=[V,gC tb bs jb tv (eZ e),bS bs bd jb q mb (ag c2 (cl [ptr tb] 31)::ag c3 (cl [.slice a b.length c] 39)::Z::Ys) t]∧gy (S1::S2::iE b) s e t):=by
 refine pk (bS bs bd jb q mb _) tb bs jb tv V v (.func (.func g1) #[] TS.toArray :: .func (.func g2) #[] tB.toArray::gm c2 c3 jb) hv (by simp[gm]) (S1::S2::iE b) rfl (fun i y=>(i=0→y=s)∧(i=1→S1 s 0 y)∧(i=2→SQ m 0 y)∧(i=3→SQ m 1 y)) ?_ s ⟨fun _=>rfl,fun h=>by omega,fun h=>by omega,fun h=>by omega⟩
 intro i fv S' lH hs
 match i,lH,hs with
 | 0,lH,hs =>
  cases lH
  cases hs
  refine⟨_,_,_,rfl,fun y hy=>?_⟩
  have:=hy.1 rfl
  subst this
  refine aD.post Js ?_
  rintro v H⟨e,t,rfl,rfl,hS⟩
  exact⟨e,t,rfl,rfl,hS,fun h0=>⟨fun h=>absurd h ai,fun _=>by rw[← h0];exact hS,fun h=>absurd h ai,fun h=>absurd h ai⟩⟩
 | 1,lH,hs =>
  cases lH
  cases hs
  refine⟨_,_,_,rfl,fun y hy=>?_⟩
  have h1:=hy.2.1 rfl
  refine aD.post (oD y h1) ?_
  rintro v H⟨e,t,rfl,rfl,hS⟩
  exact⟨e,t,rfl,rfl,hS,fun h0=>⟨fun h=>absurd h ai,fun h=>absurd h ai,fun _=>hx y t h1 (by rw[← h0];exact hS),fun h=>absurd h ai⟩⟩
 | 2,lH,hs =>
  cases lH
  cases hs
  refine⟨_,_,_,rfl,fun y hy=>?_⟩
  obtain⟨a1,⟨a2,a3⟩,a4,a5⟩:=hy.2.2.1 rfl
  refine aD.post (sY tb bs jb bd c2 c3 tv q mb y Z Ys a c b hb hl ⟨a2,ai⟩ ai) ?_
  rintro v H⟨e,x',rfl,rfl,hS⟩
  exact⟨e,x',rfl,rfl,hS,fun _=>⟨fun h=>absurd h ai,fun h=>absurd h ai,fun h=>absurd h ai,fun _=>SQ.append ⟨a1,⟨a2,a3⟩,a4,a5⟩ hS⟩⟩
 | 3,lH,hs =>
  cases lH
  cases hs
  refine⟨_,_,_,rfl,fun y hy=>?_⟩
  obtain⟨a1,⟨a2,a3⟩,a4,a5⟩:=hy.2.2.2 rfl
  refine aD.post (oN tb bs jb bd tv q mb y _ a1 ⟨a2,ai⟩ ai ai) ?_
  rintro v H⟨e,x',rfl,rfl,hS⟩
  exact⟨e,x',rfl,rfl,hS,fun _=>⟨fun h=>absurd h ai,fun h=>absurd h ai,fun h=>absurd h ai,fun h=>absurd h ai⟩⟩
 | n+4,lH,hs=>cases hs
end Go.Proofs.YthjbidjmgbjkiaaGreatDoor
