import Derived.Test.YtedjnjkijiddlaaGreatDoorQPT3
import Derived.Test.YtedjnjkijiddlaaGreatDoorQPT6
import Derived.Test.YtedjnjkijiddlaaGreatDoorQPT7
import Derived.Test.YtedjnjkijiddlaaGreatDoorQPT8
import Derived.Test.YtedjnjkijiddlaaGreatDoorQPT9
import Derived.Test.YtedjnjkijiddlaaGreatDoorQPT11
set_option linter.unusedSimpArgs false
set_option linter.unusedVariables false
set_option maxHeartbeats 2000000
set_option maxRecDepth 20000
set_option linter.defProp false
namespace Go.Proofs.YtedjnjkijiddlaaGreatDoor
open Go Go.SL
def CY(bs bd jb:Nat)(q:Int)(mb:Nat)(Xs:List HP)(x:SJ)(F:List HP):al (cG bs bd jb q mb [] x::(Xs++F)) (cG bs bd jb q mb Xs x::F):=by
 unfold cG
 refine(al.cD _ _).trans ?_
 have h:cH bs bd q mb x.1++[rU jb bd db x.2]++(Xs++F)=(cH bs bd q mb x.1++(rU jb bd db x.2::Xs))++F:=by simp
 rw[h]
 exact al.bS _ _
def xp(bs bd jb:Nat)(q:Int)(mb:Nat)(Xs:List HP)(x:SJ)(F:List HP):al (cG bs bd jb q mb Xs x::F) (cG bs bd jb q mb [] x::(Xs++F)):=by
 unfold cG
 refine(al.cD _ _).trans ?_
 have h:(cH bs bd q mb x.1++(rU jb bd db x.2::Xs))++F=cH bs bd q mb x.1++[rU jb bd db x.2]++(Xs++F):=by simp
 rw[h]
 exact al.bS _ _
def P0(X:HP):sj X (.slice none 0 0) []:=⟨[],Vw.nil X none 0,rfl,⟨none,0,rfl,Nat.le_refl _⟩,fun i x h=>by simp at h⟩
def LC(d:Dg):List UInt8:=jL 3 d []
attribute [local irreducible] J K aE Ends ae aB aP bP bq aS aZ bu bX aC cG
def Se(tb bs jb bd:Nat)(tv:Value)(q:Int)(mb:Nat)(ts:List Tk)(s:SJ)(x:Bl)(hl:ts.length≤1000000)(m:Nat)(hm:m≤800000000)(hx:SQ m 0 s) :
  aE Tryz.prog 54 [ptr tb,eL x] (eh tb bs jb tv ts false++[cG bs bd jb q mb [] s])
  (fun r H=>∃(e:Nat) (s':SJ) (rN:Value),r = .int .i64 (e:Int)∧H=eh tb bs jb rN (if e=0 then nJ ts x.d else ts) (gZ e)++[cG bs bd jb q mb [] s']∧iZ (kW (LC x.d)) s e s'):=by
 have hlen:=g9 3 x.d [] (by simp) (by simp)
 have Jf:=fun tv=>yf tb bs jb tv false ts x.d hl
 have Td:=fun a n c=>u5 tb bs jb tv a n c
 have jy:=fun b2 b3 row Z Ys a c b hb hl=>DP tb bs jb bd b2 b3 row tv q mb s Z Ys a c b hb hl m hm hx
 unfold eh at Jf ⊢
 unfold jq at Td jy
 unfold eL
 refine aE.ao Tryz.func54 Tryz.ntmps54 fun G F R hE=>?_
 refine aD rfl ?_
 refine bG zr zr bD ?_
 intro b3
 refine go ?_
 refine dH 0 zr zr zr zr zr zr ?_
 refine aH (sE 3 x.d (ae b3 (cl (bH x) 37)) (.slice none 0 0) [] (P0 _) (by simp) (by simp)) ?_
 rintro r _ rfl
 refine aO 0 rfl ?_
 rintro a8 c8 rfl
 refine go ?_
 refine aH (Td a8 (jL 3 x.d []).length c8) ?_
 rintro _ _⟨c2,c3,row,rfl,rfl⟩
 refine go ?_
 refine aI (H':=aB 5 1 (.slice a8 (jL 3 x.d []).length c8) (jL 3 x.d []).length (bV (jL 3 x.d []))::cG bs bd jb q mb [] s::ae c2 (cl [ptr tb] 30)::ae c3 (cl [.slice a8 (jL 3 x.d []).length c8] 22)::ae row (cl (iv c2 c3 jb) 96)::ae tb (cl [ptr bs,ptr jb,tv,.bool false] 88)::aB 90 1 tv ts.length (ts.map cB)::aW ts::ae b3 (cl (bH x) 37)::F) ah ?_
 refine gQ (bs:=jL 3 x.d []) 0 rfl ?_
 intro Jq
 refine aI (H':=cG bs bd jb q mb [] s::([ae c2 (cl [ptr tb] 30),ae c3 (cl [.slice a8 (jL 3 x.d []).length c8] 22),aB 5 1 (.slice a8 (jL 3 x.d []).length c8) (jL 3 x.d []).length (bV (jL 3 x.d []))]++(ae row (cl (iv c2 c3 jb) 96)::ae tb (cl [ptr bs,ptr jb,tv,.bool false] 88)::aB 90 1 tv ts.length (ts.map cB)::aW ts::ae b3 (cl (bH x) 37)::F))) ah ?_
 refine aI (CY bs bd jb q mb _ s _) ?_
 refine aH (jy c2 c3 row _ [] a8 c8 (jL 3 x.d []) Jq ag) ?_
 rintro _ _⟨e,s',rfl,rfl,hR⟩
 refine aI (H':=cG bs bd jb q mb (ae c2 (cl [ptr tb] 30)::ae c3 (cl [.slice a8 (jL 3 x.d []).length c8] 22)::aB 5 1 (.slice a8 (jL 3 x.d []).length c8) (jL 3 x.d []).length (bV (jL 3 x.d []))::[]) s'::ae tb (cl [ptr bs,ptr jb,tv,.bool (gZ e)] 88)::aB 90 1 tv ts.length (ts.map cB)::aW ts::ae b3 (cl (bH x) 37)::F) ah ?_
 refine aI (xp bs bd jb q mb _ s' _) ?_
 by_cases he:e=0
 ·subst he
  refine aI (H':=ae b3 (cl (bH x) 37)::ae tb (cl [ptr bs,ptr jb,tv,.bool false] 88)::aB 90 1 tv ts.length (ts.map cB)::aW ts::cG bs bd jb q mb [] s'::F) ah (go ?_)
  refine dH 0 zr zr zr zr zr zr ?_
  refine aH (Jf tv) ?_
  rintro _ _⟨rfl,rN,rfl⟩
  refine go ?_
  refine ai (H':=ae tb (cl [ptr bs,ptr jb,rN,.bool false] 88)::aB 90 1 rN (nJ ts x.d).length ((nJ ts x.d).map cB)::aW (nJ ts x.d)::cG bs bd jb q mb [] s'::F) ah ?_
  refine ad hE Tryz.func54 zr zr ⟨0,s',rN,rfl,rfl,hR⟩
 ·refine aI (H':=ae tb (cl [ptr bs,ptr jb,tv,.bool (gZ e)] 88)::aB 90 1 tv ts.length (ts.map cB)::aW ts::cG bs bd jb q mb [] s'::F) ah (go ?_)
  refine aq zr zr ?_ ?_
  ·intro _
   refine go ?_
   (refine ad hE Tryz.func54 zr zr ⟨e,s',tv,rfl,by rw[if_neg he],hR⟩)
  ·intro h;exfalso;omega
end Go.Proofs.YtedjnjkijiddlaaGreatDoor
namespace Go.Proofs.YtedjnjkijiddlaaGreatDoor
open Go Go.SL
attribute [local irreducible] J K aE Ends ae aB aP bP bq aS aZ bu bX aC
def Cw(X:HP)(hK:oG X)(tb bs jb bd b2 b3:Nat)(q:Int)(mb:Nat)(tv:Value)(s:fe)(x:Bl)(cK:s.A.aw.length≤900000000)(fb:s.A.writes.length≤900000000) :
  aE Tryz.prog 52 [ptr b2,ptr b3] (jq tb bs jb tv false::(cH bs bd q mb s++[X,ae b2 (cl [ptr tb] 30),ae b3 (cl (bH x) 37)]))
  (fun r H=>∃(e:Nat) (t:fe),r = .int .i64 (e:Int)∧H=jq tb bs jb tv false::(cH bs bd q mb t++[X,ae b2 (cl [ptr tb] 30),ae b3 (cl (bH x) 37)])∧dR x s e t):=by
 have uI:=Ir X hK bs bd q mb s x cK fb
 unfold eL at uI
 unfold jq
 refine aE.ao Tryz.func52 Tryz.ntmps52 fun G F R hE=>?_
 refine go ?_
 refine aF (fun w=>Sat G w ([ae tb (cl [ptr bs,ptr jb,tv,.bool false] 88),ae b2 (cl [ptr tb] 30),ae b3 (cl (bH x) 37)])) (cZ 0 5 (.act 5 (.st 6 .nil))) rfl ak ak ak dT ?_
 refine go ?_
 refine bQ (U:=aQ) (l:=bH x) 2 zr zr zr zr zr zr (go ?_)
 refine gD rfl rfl rfl rfl uI ah ?_ (fun _ _ w hp hw=>by obtain⟨_,_,rfl,rfl,_⟩:=hp;exact hw.cV ah)
 rintro _ _⟨e,t,rfl,rfl,hR⟩
 refine go ?_
 refine ai (H':=ae tb (cl [ptr bs,ptr jb,tv,.bool false] 88)::(cH bs bd q mb t++(X::ae b2 (cl [ptr tb] 30)::ae b3 (cl (bH x) 37)::F))) ah ?_
 refine ad hE Tryz.func52 zr zr ⟨e,t,rfl,rfl,hR⟩
def Cx(X:HP)(hK:oG X)(tb bs jb bd b2 b3:Nat)(q:Int)(mb:Nat)(tv:Value)(s:SJ)(x:Bl)(Ys:List HP)(cK:s.1.A.aw.length≤900000000)(fb:s.1.A.writes.length≤900000000) :
  aE Tryz.prog 52 [ptr b2,ptr b3] [jq tb bs jb tv false,cG bs bd jb q mb (ae b2 (cl [ptr tb] 30)::ae b3 (cl (bH x) 37)::X::Ys) s]
  (fun r H=>∃(e:Nat) (t:SJ),r = .int .i64 (e:Int)∧H=[jq tb bs jb tv false,cG bs bd jb q mb (ae b2 (cl [ptr tb] 30)::ae b3 (cl (bH x) 37)::X::Ys) t]∧fO (dR x) s e t):=by
 have c0:=aE.frame ([rU jb bd db s.2]++Ys) (Cw X hK tb bs jb bd b2 b3 q mb tv s.1 x cK fb)
 refine c0.conv ?_ ?_
 ·unfold cG cH
  exact(al.cons _ (uP _)).trans ah
 ·rintro v H⟨H',⟨e,t,rfl,rfl,hC⟩,rfl⟩
  refine⟨[jq tb bs jb tv false,cG bs bd jb q mb _ (t,s.2)],⟨e,_,rfl,rfl,hC,rfl⟩,?_⟩
  unfold cG cH
  exact al.trans ah (al.cons _ (u0 _))
def Nm(tb bs jb bd row:Nat)(tv:Value)(q:Int)(mb:Nat)(s:SJ)(Xs:List HP)(g:FuncId)(cap:List Value)(S:SJ→Nat→SJ→Prop)(hc:aE Tryz.prog g cap [jq tb bs jb tv false,cG bs bd jb q mb Xs s] (fun r H=>∃(e:Nat) (t:SJ),r = .int .i64 (e:Int)∧H=[jq tb bs jb tv false,cG bs bd jb q mb Xs t]∧S s e t)) :
  aE Tryz.prog 38 [ptr tb,.slice (some ⟨row,0,none⟩) 1 1] [ae row (cl [.func (.func g) #[] cap.toArray] 96),jq tb bs jb tv false,cG bs bd jb q mb Xs s]
  (fun r H=>∃(e:Nat) (t:SJ),r = .int .i64 (e:Int)∧H=[ae row (cl [.func (.func g) #[] cap.toArray] 96),jq tb bs jb tv (gZ e),cG bs bd jb q mb Xs t]∧S s e t):=by
 have h0:=qP (cG bs bd jb q mb Xs) tb bs jb tv (ae row (cl [.func (.func g) #[] cap.toArray] 96)) (.slice (some ⟨row,0,none⟩) 1 1) [.func (.func g) #[] cap.toArray] (Vw.ae rfl) (by simp) [S] rfl (fun i y=>i=0→y=s) (by
  intro i fv S' mS hs
  match i,mS,hs with
  | 0,mS,hs =>
   cases mS
   cases hs
   refine⟨_,_,_,rfl,fun y hy=>?_⟩
   have:=hy rfl
   subst this
   refine aE.post hc ?_
   rintro v H⟨e,t,rfl,rfl,hS⟩
   exact⟨e,t,rfl,rfl,hS,fun _ h=>absurd h ag⟩
  | n+1,mS,hs=>cases hs) s (fun _=>rfl)
 refine aE.post h0 ?_
 rintro v H⟨e,t,rfl,rfl,hR⟩
 refine⟨e,t,rfl,rfl,?_⟩
 obtain⟨e1,t1,hS,c1⟩:=hR
 rcases c1 with⟨_,rfl,rfl⟩|⟨rfl,rfl,rfl⟩
 ·exact hS
 ·exact hS
attribute [local irreducible] cG
def YW(x:Bl)(ts:List Tk)(s:SJ)(br:Bool)(r:Int)(ed:List Tk)(jB:Bool)(t:SJ):Prop :=
 (br=true∧r=10∧ed=ts∧jB=br∧t=s)∨(br=false∧hD ts x=none∧r=4∧ed=ts∧jB=br∧t=s) ∨
 (br=false∧∃y,hD ts x=some y∧((oh y.ws<y.n∧r=9∧ed=ts∧jB=br∧t=s) ∨
  (¬oh y.ws<y.n∧∃(e:Nat) (u:SJ),fO (dR x) s e u∧((e≠0∧e≠8∧r=e∧ed=ts∧jB=gZ e∧t=u) ∨
   ((e=0∨e=8)∧∃e':Nat,r=(if e'=0 then(e:Int)else e')∧ed=(if e'=0 then nJ ts x.d else ts)∧jB=gZ e'∧iZ (kW (LC x.d)) u e' t)))))
def FR(X:HP)(hK:oG X)(tb bs jb bd:Nat)(tv:Value)(q:Int)(mb:Nat)(ts:List Tk)(br:Bool)(s:SJ)(x:Bl)(hl:ts.length≤1000000)(hn:∀y∈ts,y.n≤65536)(hw:∀y∈ts,y.ws.length≤65536)(cK:s.1.A.aw.length≤900000000)(fb:s.1.A.writes.length≤900000000)(m:Nat)(hm:m≤800000000)(hx:∀e t,fO (dR x) s e t→SQ m 0 t) :
  aE Tryz.prog 14 [ptr tb,eL x] (eh tb bs jb tv ts br++[cG bs bd jb q mb [] s,X])
  (fun r H=>∃(ri:Int) (ed:List Tk) (rN:Value) (jB:Bool) (t:SJ),r = .int .i64 ri∧H=eh tb bs jb rN ed jB++[cG bs bd jb q mb [] t,X]∧YW x ts s br ri ed jB t):=by
 have hf:=rn tb bs jb tv br ts x hl
 have iK:=fun e t h=>Se tb bs jb bd tv q mb ts t x hl m hm (hx e t h)
 unfold eh eL at hf iK ⊢
 refine aE.ao Tryz.func14 Tryz.ntmps14 fun G F R hE=>?_
 refine aD rfl ?_
 refine bG zr zr bD ?_
 intro b2
 refine bG zr zr bD ?_
 intro b3
 refine go ?_
 refine aG (U:=aQ) (l:=bH x) 0 zr zr zr zr zr zr ?_
 refine aJ hf ?_
 cases br with
 | true =>
  refine go ?_
  refine ai (H':=ae tb (cl [ptr bs,ptr jb,tv,.bool true] 88)::aB 90 1 tv ts.length (ts.map cB)::aW ts::cG bs bd jb q mb [] s::X::F) ah ?_
  refine ad hE Tryz.func14 zr zr ⟨10,ts,tv,true,s,rfl,rfl,.inl ⟨rfl,rfl,rfl,rfl,rfl⟩⟩
 | false =>
  cases sN:hD ts x with
  | none =>
   unfold QS
   refine go ?_
   refine ai (H':=ae tb (cl [ptr bs,ptr jb,tv,.bool false] 88)::aB 90 1 tv ts.length (ts.map cB)::aW ts::cG bs bd jb q mb [] s::X::F) ah ?_
   refine ad hE Tryz.func14 zr zr ⟨4,ts,tv,false,s,rfl,rfl,.inr (.inl ⟨rfl,sN,rfl,rfl,rfl,rfl⟩)⟩
  | some y =>
   obtain⟨i,hi,Df⟩:=n7 sN
   have Ov:y∈ts:=List.mem_of_getElem? hi
   have I':=hn y Ov
   have Hi:=hw y Ov
   have Tv:=CG y.ws
   unfold QS
   refine go ?_
   refine ai (H':=aW ts::ae tb (cl [ptr bs,ptr jb,tv,.bool false] 88)::aB 90 1 tv ts.length (ts.map cB)::cG bs bd jb q mb [] s::X::ae b2 (cl [ptr tb] 30)::ae b3 (cl (bH x) 37)::F) ah ?_
   refine ai (kL hi _) ?_
   refine eG (gi y) ?_
   rintro⟨wv,cs,M⟩ hz
   refine ai (H':=ae y.yb (cl (lr y) 93)::ae y.sb (cl [.int .i64 (y.n:Int),wv] 117)::aB 118 1 wv y.ws.length (qV y.ws)::aP (Value.int .i64) y.mb cs::aZ 35 M::aW (ts.take i++ts.drop (i+1))::ae tb (cl [ptr bs,ptr jb,tv,.bool false] 88)::aB 90 1 tv ts.length (ts.map cB)::cG bs bd jb q mb [] s::X::ae b2 (cl [ptr tb] 30)::ae b3 (cl (bH x) 37)::F) (by unfold mN;exact ah) ?_
   have yS:=zT y.sb y.n wv y.ws Hi
   unfold eQ at yS
   refine aF (fun w=>Sat G w ([ae y.yb (cl (lr y) 93)])) (cZ 0 4 (cZ 5 4 (.act 4 (.act 9 (.st 10 (.st 11 .nil)))))) rfl ak ak ak dT ?_
   refine go ?_
   refine bo yS ?_
   refine go ?_
   refine bo (oC y.sb y.n wv) ?_
   refine go ?_
   refine ai (H':=mN y (wv,cs,M)++(aW (ts.take i++ts.drop (i+1))::ae tb (cl [ptr bs,ptr jb,tv,.bool false] 88)::aB 90 1 tv ts.length (ts.map cB)::cG bs bd jb q mb [] s::X::ae b2 (cl [ptr tb] 30)::ae b3 (cl (bH x) 37)::F)) (by unfold mN;exact ah) ?_
   refine ai (iX hz _) ?_
   refine ai (lF hi _) ?_
   refine ai (H':=ae b3 (cl (bH x) 37)::ae b2 (cl [ptr tb] 30)::ae tb (cl [ptr bs,ptr jb,tv,.bool false] 88)::aB 90 1 tv ts.length (ts.map cB)::aW ts::cG bs bd jb q mb [] s::X::F) ah ?_
   refine fR zr zr ?_ ?_
   ·intro de
    refine go ?_
    refine ai (H':=ae tb (cl [ptr bs,ptr jb,tv,.bool false] 88)::aB 90 1 tv ts.length (ts.map cB)::aW ts::cG bs bd jb q mb [] s::X::F) ah ?_
    refine ad hE Tryz.func14 zr zr ⟨9,ts,tv,false,s,rfl,rfl,.inr (.inr ⟨rfl,y,sN,.inl ⟨by simpa using de,rfl,rfl,rfl,rfl⟩⟩)⟩
   intro fA
   have XV:¬oh y.ws<y.n:=by simpa using fA
   refine go ?_
   refine aj (cs:=[.func (.func 52) #[] #[ptr b2,ptr b3] ]) zr zr zr zr zr zr zr zr zr bD ?_
   intro row
   refine aI (H':=cG bs bd jb q mb [] s::([ae b2 (cl [ptr tb] 30),ae b3 (cl (bH x) 37),X]++(ae row (cl [.func (.func 52) #[] #[ptr b2,ptr b3] ] 96)::ae tb (cl [ptr bs,ptr jb,tv,.bool false] 88)::aB 90 1 tv ts.length (ts.map cB)::aW ts::F))) ah ?_
   refine aI (CY bs bd jb q mb _ s _) ?_
   have jy:=Nm tb bs jb bd row tv q mb s _ _ [ptr b2,ptr b3] _ (Cx X hK tb bs jb bd b2 b3 q mb tv s x [] cK fb)
   unfold jq at jy
   refine aH jy ?_
   rintro _ _⟨e,t,rfl,rfl,hS⟩
   refine aI (H':=cG bs bd jb q mb (ae b2 (cl [ptr tb] 30)::ae b3 (cl (bH x) 37)::X::[]) t::ae tb (cl [ptr bs,ptr jb,tv,.bool (gZ e)] 88)::aB 90 1 tv ts.length (ts.map cB)::aW ts::F) ah ?_
   refine aI (xp bs bd jb q mb _ t _) ?_
   refine aI (H':=ae b3 (cl (bH x) 37)::ae b2 (cl [ptr tb] 30)::ae tb (cl [ptr bs,ptr jb,tv,.bool (gZ e)] 88)::aB 90 1 tv ts.length (ts.map cB)::aW ts::cG bs bd jb q mb [] t::X::F) ah ?_
   by_cases OB:e=0∨e=8
   ·have hb:gZ e=false:=decide_eq_false ag
    rw[hb]
    have mh:∀e:Nat,(e=0∨e=8)→True:=fun _ _=>trivial
    rcases OB with rfl|rfl
    all_goals(
     refine go ?_
     refine aG (U:=aQ) (l:=bH x) 0 zr zr zr zr zr zr ?_
     refine aH (iK _ t hS) ?_
     rintro _ _⟨e',t',rN,rfl,rfl,hR⟩
     by_cases MI:e'=0
     ·subst MI
      refine go ?_
      refine ai (H':=ae tb (cl [ptr bs,ptr jb,rN,.bool (gZ 0)] 88)::aB 90 1 rN (nJ ts x.d).length ((nJ ts x.d).map cB)::aW (nJ ts x.d)::cG bs bd jb q mb [] t'::X::F) ah ?_
      refine ad hE Tryz.func14 zr zr ⟨_,nJ ts x.d,rN,gZ 0,t',rfl,rfl,.inr (.inr ⟨rfl,y,sN,.inr ⟨XV,_,t,hS,.inr ⟨ag,0,rfl,rfl,rfl,hR⟩⟩⟩)⟩
     ·refine go ?_
      refine aq zr zr ?_ ?_
      ·intro _
       refine go ?_
       refine ai (H':=ae tb (cl [ptr bs,ptr jb,rN,.bool (gZ e')] 88)::aB 90 1 rN (if e'=0 then nJ ts x.d else ts).length ((if e'=0 then nJ ts x.d else ts).map cB)::aW (if e'=0 then nJ ts x.d else ts)::cG bs bd jb q mb [] t'::X::F) ah ?_
       refine ad hE Tryz.func14 zr zr ⟨e',_,rN,gZ e',t',rfl,rfl,.inr (.inr ⟨rfl,y,sN,.inr ⟨XV,_,t,hS,.inr ⟨ag,e',(if_neg MI).symm,rfl,rfl,hR⟩⟩⟩)⟩
      ·intro h;exfalso;omega)
   ·refine go ?_
    ((refine au 37 ((.bool true)) rfl ((congrArg Value.bool (by simp;omega))) ?_))
    refine go ?_
    refine fR zr zr ?_ ?_
    ·intro _
     refine go ?_
     refine ai (H':=ae tb (cl [ptr bs,ptr jb,tv,.bool (gZ e)] 88)::aB 90 1 tv ts.length (ts.map cB)::aW ts::cG bs bd jb q mb [] t::X::F) ah ?_
     refine ad hE Tryz.func14 zr zr ⟨e,ts,tv,gZ e,t,rfl,rfl,.inr (.inr ⟨rfl,y,sN,.inr ⟨XV,e,t,hS,.inl ⟨ag,ag,rfl,rfl,rfl,rfl⟩⟩⟩)⟩
    ·intro h
     exfalso
     simp at h
     omega
end Go.Proofs.YtedjnjkijiddlaaGreatDoor
namespace Go.Proofs.YtedjnjkijiddlaaGreatDoor
open Go Go.SL
attribute [local irreducible] J K aE Ends ae aB aP bP bq aS aZ bu bX aC
def eo(s:fe)(x:Bl)(i:Int):List UInt8 × Nat:=if qb s.bt x then(match cC x i with
 | none=>([],1)
 | some (a,n)=>s.A.read (df kS x.d) a n)else([],4)
def Ia(bs bd:Nat)(q:Int)(mb:Nat)(s:fe)(x:Bl)(i:Int):aE Tryz.prog 138 [ptr bs,eL x,.int .i64 i] (cH bs bd q mb s)
  (fun r H=>∃rv,r = .tuple #[rv,.int .i64 ((eo s x i).2:Int)]∧H=aB 5 1 rv (eo s x i).1.length (bV (eo s x i).1)::cH bs bd q mb s):=by
 obtain⟨A,bt,brk⟩:=s
 have ho:=Ef bs bd q mb brk bt x
 have e7:=zB x i
 have hf:=mw kS x.d (by decide)
 unfold eL dV at *
 unfold cH
 dsimp only
 refine aE.ao Tryz.func138 Tryz.ntmps138 fun G F R hE=>?_
 refine aD rfl ?_
 refine bG zr zr bD ?_
 intro b4
 refine go ?_
 refine aG (U:=aQ) (l:=bH x) 0 zr zr zr zr zr zr ?_
 refine aJ ho ?_
 cases hh:qb bt x with
 | false =>
  have h1:eo ⟨A,bt,brk⟩ x i=([],4):=by unfold eo;rw[if_neg (by simp[hh])]
  rw[h1]at hE
  refine go ?_
  refine ai (bN 5 1 none _) ?_
  refine ai (H':=aB 5 1 (.slice none 0 0) 0 []::ae bs (cl (ei bd q mb brk) 123)::aP dV mb (dD bt)::aC bd A::F) ah ?_
  refine ad hE Tryz.func138 zr zr ⟨_,rfl,rfl⟩
 | true =>
  refine go ?_
  refine aG (U:=aQ) (l:=bH x) 2 zr zr zr zr zr zr ?_
  ((refine go ?_;(refine aH e7 ?_)))
  rintro _ _⟨rfl,rfl⟩
  cases hs:cC x i with
  | none =>
   have h1:eo ⟨A,bt,brk⟩ x i=([],1):=by unfold eo;rw[if_pos (by simp[hh]),hs]
   rw[h1]at hE
   refine go ?_
   refine ai (bN 5 1 none _) ?_
   refine ai (H':=aB 5 1 (.slice none 0 0) 0 []::ae bs (cl (ei bd q mb brk) 123)::aP dV mb (dD bt)::aC bd A::F) ah ?_
   refine ad hE Tryz.func138 zr zr ⟨_,rfl,rfl⟩
  | some an =>
   obtain⟨a,n⟩:=an
   have h1:eo ⟨A,bt,brk⟩ x i=A.read (df kS x.d) a n:=by unfold eo;rw[if_pos (by simp[hh]),hs]
   rw[h1]at hE
   have rY:=xq bd A (df kS x.d) a n
   refine go ?_
   refine ai (H':=ae b4 (cl (bH x) 37)::ae bs (cl (ei bd q mb brk) 123)::aP dV mb (dD bt)::aC bd A::F) ah ?_
   refine aF (fun w=>Sat G w ([ae b4 (cl (bH x) 37),ae bs (cl (ei bd q mb brk) 123)])) (cZ 0 6 (.st 7 (.st 8 (.act 6 (.act 9 (cZ 10 4 .nil)))))) rfl ak ak ak dT ?_
   refine go ?_
   refine cf (U:=aQ) 0 zr zr zr zr zr zr (go ?_)
   refine bo hf ?_
   refine go ?_
   ((refine gD zr zr zr zr (rY) ah ?_ (fun _ _ w hp hw=>by obtain⟨r,rfl,rfl⟩:=hp;exact hw.cV ah)))
   rintro _ _⟨r,rfl,rfl⟩
   refine go ?_
   refine ai (H':=aB 5 1 r (A.read (df kS x.d) a n).1.length (bV (A.read (df kS x.d) a n).1)::ae bs (cl (ei bd q mb brk) 123)::aP dV mb (dD bt)::aC bd A::F) ah ?_
   refine ad hE Tryz.func138 zr zr ⟨_,rfl,rfl⟩
end Go.Proofs.YtedjnjkijiddlaaGreatDoor
namespace Go.Proofs.YtedjnjkijiddlaaGreatDoor
open Go Go.SL
def Q2(W:List jj):∀v∈qV W,v.oneCell'=true:=by
 intro v hv
 obtain⟨x,_,rfl⟩:=List.mem_map.1 hv
 rfl
attribute [local irreducible] J K aE Ends ae aB aP bP bq aS aZ bu bX aC
def SG(A:HP)(v:Value)(W:List jj)(hv:Vw A v W.length (qV W))(hlen:W.length≤1000000) :
  aE Tryz.prog 177 [v] [A] (fun r H=>H=[aB 118 1 r W.length (qV W),A]):=by
 obtain⟨a,c0,rfl⟩:=hv.shape
 cases a with
 | none =>
  have hb:W=[]:=by
   obtain⟨a,cap,h1,h2|⟨b,o,h2,_⟩⟩:=hv
   ·have:=congrArg List.length h2
    rw[GR]at this
    exact List.eq_nil_of_length_eq_zero (by rw[this];rfl)
   ·simp only[Value.slice.injEq]at h1;rw[← h1.1]at h2;cases h2
  subst hb
  refine aE.enter Tryz.func177 ak rfl Tryz.ntmps177 zr zr ?_
  intro G F R hR
  refine go ?_
  refine ai (bN 118 1 none _) ?_
  refine aL hR Tryz.func177 rfl _ zr zr (al.fin [0,1] 0 zr zr)
 | some a =>
  refine aE.enter Tryz.func177 ak rfl Tryz.ntmps177 zr zr ?_
  intro G F R hR
  refine go ?_
  refine aj (cs:=[]) zr zr zr zr zr zr zr zr zr bD ?_
  intro b0
  refine go ?_
  refine aI (eJ 118 1 b0 0 0 [] [] _ rfl (Nat.le_refl _) (by simp)) ?_
  refine aR (mm:=W.length) (news:=qV W) 0 1 zr zr zr zr zr zr zr zr zr zr zr zr hv (by rw[GR];exact(Nat.mul_one _).symm) (Q2 W) ag (by show _*8≤_;omega) (fun _=>rfl) bD ?_
  intro v'
  have e1:(0:Nat)+W.length=W.length:=by omega
  rw[e1,List.nil_append]
  refine go ?_
  refine aL hR Tryz.func177 rfl _ zr zr (al.fin [0,1] 0 zr zr)
def Sv(p q:jj):aE Tryz.prog 116 [.int .u64 (p.toNat:Int),.int .u64 (q.toNat:Int)] [] (fun r H=>r = .int .u64 ((YZ p q).toNat:Int)∧H=[]):=by
 refine aE.ao Tryz.func116 Tryz.ntmps116 fun G F R hE=>?_
 refine go ?_
 refine aX 4 ((.int .u64 ((YZ p q).toNat:Int))) rfl ((congrArg (Value.int .u64) (aaX _ _))) ?_
 refine ad hE Tryz.func116 zr zr ⟨rfl,rfl⟩
def Kx(tb bs jb bd b2 b3:Nat)(q:Int)(mb:Nat)(tv:Value)(s:fe)(x:Bl)(cK:s.A.aw.length≤900000000)(fb:s.A.writes.length≤900000000) :
  aE Tryz.prog 47 [ptr b2,ptr b3] (jq tb bs jb tv false::(cH bs bd q mb s++[ae b2 (cl [ptr tb] 30),ae b3 (cl (bH x) 37)]))
  (fun r H=>∃(e:Nat) (t:fe),r = .int .i64 (e:Int)∧H=jq tb bs jb tv false::(cH bs bd q mb t++[ae b2 (cl [ptr tb] 30),ae b3 (cl (bH x) 37)])∧ko x s e t):=by
 have uI:=Sr bs bd q mb s x cK fb
 unfold eL at uI
 unfold jq
 refine aE.ao Tryz.func47 Tryz.ntmps47 fun G F R hE=>?_
 refine go ?_
 refine aF (fun w=>Sat G w ([ae tb (cl [ptr bs,ptr jb,tv,.bool false] 88),ae b2 (cl [ptr tb] 30),ae b3 (cl (bH x) 37)])) (cZ 0 5 (.act 5 (.st 6 .nil))) rfl ak ak ak dT ?_
 refine go ?_
 refine bQ (U:=aQ) (l:=bH x) 2 zr zr zr zr zr zr (go ?_)
 refine gD rfl rfl rfl rfl uI ah ?_ (fun _ _ w hp hw=>by obtain⟨_,_,rfl,rfl,_⟩:=hp;exact hw.cV ah)
 rintro _ _⟨e,t,rfl,rfl,hR⟩
 refine go ?_
 refine ai (H':=ae tb (cl [ptr bs,ptr jb,tv,.bool false] 88)::(cH bs bd q mb t++(ae b2 (cl [ptr tb] 30)::ae b3 (cl (bH x) 37)::F))) ah ?_
 refine ad hE Tryz.func47 zr zr ⟨e,t,rfl,rfl,hR⟩
def Kz(X:HP)(tb bs jb bd b2 b3 b4 b5:Nat)(q:Int)(mb:Nat)(tv:Value)(s:fe)(x:Bl)(i:Int)(a:Option Addr)(c:Nat)(b:List UInt8)(hv:Vw X (.slice a b.length c) b.length (bV b))(iC:b.length≤1000000000)(hi : -9223372036854775808≤i∧i≤9223372036854775807)(cK:s.A.aw.length≤900000000)(fb:s.A.writes.length≤900000000) :
  aE Tryz.prog 45 [ptr b2,ptr b3,ptr b4,ptr b5] (jq tb bs jb tv false::(cH bs bd q mb s++[X,ae b2 (cl [ptr tb] 30),ae b3 (cl (bH x) 37),ae b4 (cl [.int .i64 i] 3),ae b5 (cl [.slice a b.length c] 22)]))
  (fun r H=>∃(e:Nat) (t:fe),r = .int .i64 (e:Int)∧H=jq tb bs jb tv false::(cH bs bd q mb t++[X,ae b2 (cl [ptr tb] 30),ae b3 (cl (bH x) 37),ae b4 (cl [.int .i64 i] 3),ae b5 (cl [.slice a b.length c] 22)])∧mU x i b s e t):=by
 have uI:=YL X bs bd q mb s x i _ b hv iC hi cK fb
 unfold eL at uI
 unfold jq
 refine aE.ao Tryz.func45 Tryz.ntmps45 fun G F R hE=>?_
 refine go ?_
 refine aF (fun w=>Sat G w ([ae tb (cl [ptr bs,ptr jb,tv,.bool false] 88),ae b2 (cl [ptr tb] 30),ae b3 (cl (bH x) 37),ae b4 (cl [.int .i64 i] 3),ae b5 (cl [.slice a b.length c] 22)])) (cZ 0 7 (.act 7 (.st 8 .nil))) rfl ak ak ak dT ?_
 refine go ?_
 refine bQ (U:=aQ) (l:=bH x) 2 zr zr zr zr zr zr ?_
 (repeat((refine aK ?_;first|refine lV 3 zr zr zr zr zr zr ?_|refine lV 4 zr zr zr zr zr zr ?_)))
 refine gD rfl rfl rfl rfl uI ah ?_ (fun _ _ w hp hw=>by obtain⟨_,_,rfl,rfl,_⟩:=hp;exact hw.cV ah)
 rintro _ _⟨e,t,rfl,rfl,hR⟩
 refine go ?_
 refine ai (H':=ae tb (cl [ptr bs,ptr jb,tv,.bool false] 88)::(cH bs bd q mb t++(X::ae b2 (cl [ptr tb] 30)::ae b3 (cl (bH x) 37)::ae b4 (cl [.int .i64 i] 3)::ae b5 (cl [.slice a b.length c] 22)::F))) ah ?_
 refine ad hE Tryz.func45 zr zr ⟨e,t,rfl,rfl,hR⟩
attribute [local irreducible] LI vR
def FW(jb bd:Nat)(name:ByteArray)(Ji:name.size≤1000000000)(A:Ab)(x:JN)(V:HP)(lv:Value)(ls:List (List UInt8))(hv:sj V lv ls)(hl:(ls.flatMap aV).length≤100000000)(hn:ls.length≤1000000000)(cK:A.aw.length≤900000000)(qj:A.writes.length≤900000000) :
    aE Tryz.prog 79 [ptr jb,lv] [aC bd A,rU jb bd name x,V]
      (fun r H=>∃(e:Nat) (A':Ab) (x':JN),r = .int .i64 (e:Int)∧H=[aC bd A',rU jb bd name x',V]∧oA name A x ls e A' x'):=by
  obtain⟨n,s,c,bk⟩:=x
  have lJ:=hv
  obtain⟨cs,dE,lA,⟨a,cc,rfl,hcc⟩,pL⟩:=hv
  dsimp only [rU,jr]
  refine aE.ao Tryz.func79 Tryz.ntmps79 fun G F R hE=>?_
  unfold oA at hE
  cases bk with
  | true =>
    simp only[if_true]at hE
    refine go ?_
    refine ad hE Tryz.func79 zr zr ⟨10,_,⟨n,s,c,true⟩,rfl,rfl,rfl,rfl,rfl⟩
  | false =>
    simp only[Bool.false_eq_true,if_false]at hE
    refine go ?_
    refine bB (fun i:Nat=>i≤ls.length∧∀(j:Nat) (y:List UInt8),j<i→ls[j]?=some y→y.length≤4096) (fun i=>ls.length-i)
      (fun i=>[(0,ptr jb),(0+1,.slice a ls.length cc),(5,.int .i64 (((ls.take i).flatMap aV).length:Int)),(12,.slice a ls.length cc),(13,.int .i64 ls.length),(14,.int .i64 (i:Int))])
      (fun _=>aC bd A::ae jb (cl [ptr bd,.string name,.int .i64 n,.int .i64 s,.int .i64 c,.bool false] 186)::V::F) 0 ⟨Nat.zero_le _,fun j y hj=>by omega⟩ rfl cg ah ?_
    rintro i⟨hi,Ae⟩ ih
    refine go ?_
    refine aq zr zr ?_ ?_
    case' refine_1 =>
      intro de
      have RM:i<ls.length:=by omega
      obtain⟨y,hy⟩:∃y,ls[i]?=some y:=⟨ls[i],by simp⟩
      obtain⟨cv,nt,hby⟩:=pL i y hy
      obtain⟨b1,o1,k1,Af⟩:=dE.some (by intro e;rw[e]at nt;simp at nt)
      simp only[Value.slice.injEq,true_and]at Af
      obtain⟨rfl,rfl⟩:=Af
      obtain⟨ay,ky,rfl,hky⟩:=hby.2
      have Hu:=Bq hy
      have nW:((ls.take (i+1)).flatMap aV).length=((ls.take i).flatMap aV).length+(aV y).length:=by rw[Hu,List.length_append]
      have hle:=Js ls (i+1)
      refine go ?_
      refine bM i zr zr zr zr zr zr zr zr RM ?_
      refine bj 2 i zr zr zr dE rfl nt zr zr (go ?_)
      refine aq zr zr ?_ ?_
      · intro tQ
        have ml:(ls.any fun b=>decide (4096<b.length))=true:=List.any_eq_true.2 ⟨y,List.mem_of_getElem? hy,decide_eq_true ag⟩
        simp only[if_pos ml]at hE
        refine go ?_
        refine ad hE Tryz.func79 zr zr ⟨1,_,⟨n,s,c,false⟩,rfl,rfl,rfl,rfl,rfl⟩
      intro kC
      have aeR:=n9 y ag
      refine go ?_
      refine aH (qu V _ y hby ag) ?_
      rintro r _ rfl
      refine aO 0 rfl ?_
      rintro ra rc rfl
      refine go ?_
      ((refine aX 5 ((.int .i64 (((ls.take (i+1)).flatMap aV).length:Int))) rfl ((congrArg (Value.int .i64) (by rw[nW];simp))) ?_))
      refine go ?_
      refine aM ih (i+1) rfl (⟨ag,fun j z hj hz=>by
        rcases Nat.lt_or_ge j i with h|h
        · exact Ae j z h hz
        · have:j=i:=by omega
          subst this
          rw[hy]at hz;cases hz;omega⟩) ag cg ah
    intro fA
    have tl:i=ls.length:=by omega
    subst tl
    rw[List.take_length]
    have ml:¬(ls.any fun b=>decide (4096<b.length))=true:=fun h=>by
      obtain⟨y,hy,hb⟩:=List.any_eq_true.1 h
      obtain⟨j,hj,rfl⟩:=List.getElem_of_mem hy
      have:=Ae j _ ag (List.getElem?_eq_getElem hj)
      simp at hb;omega
    simp only[if_neg ml]at hE
    refine go ?_
    refine aq zr zr ?_ ?_
    · intro tQ
      have rh:524288<(ls.flatMap aV).length:=by omega
      simp only[if_pos rh]at hE
      refine go ?_
      refine ad hE Tryz.func79 zr zr ⟨3,_,⟨n,s,c,false⟩,rfl,rfl,rfl,rfl,rfl⟩
    intro kC
    have rh:¬524288<(ls.flatMap aV).length:=by omega
    simp only[if_neg rh]at hE
    refine go ?_
    refine aH (IS jb bd name n s c false A V _ ls lJ ag hn Ji cK qj) ?_
    rintro _ _⟨e,⟨A',n',s',c'⟩,rfl,rfl,rG⟩
    refine go ?_
    refine aJ (sR jb bd name n' s' c' false e) ?_
    refine go ?_
    refine ad hE Tryz.func79 zr zr ⟨e,A',⟨n',s',c',decide (e≠0)⟩,rfl,rfl,_,rG,rfl,rfl⟩
end Go.Proofs.YtedjnjkijiddlaaGreatDoor
namespace Go.Proofs.YtedjnjkijiddlaaGreatDoor
open Go Go.SL
def iW(b:List UInt8):Option (UInt8 × Dg × List (List UInt8)):=match pJ b with
 | some (x1::x2::l)=>if((x1::x2::l).getLast?.map (·.1))=some ((2+l.length:Nat):Int)∧x1.2.length=1∧x2.2.length=32 then some (x1.2.headD 0,ue x2.2,l.map (·.2))else none
 | _=>none
def qc(b:List UInt8):Option Nat:=(di b).bind fun n=>if n≤1048576 then some n else none
def gL(b:List UInt8):Option Dg:=if b.length=32 then some (ue b)else none
def El(n:Nat):Int:=IntKind.u64.wrap ((BitVec.ofInt IntKind.u64.bits (n:Int) &&& BitVec.ofInt IntKind.u64.bits 4294967295).toNat:Int)
def A0(n:Nat):∃k:Nat,El n=k∧k<4294967296∧(n≤1048576→k=n):=by
 have e1:(BitVec.ofInt IntKind.u64.bits (4294967295:Int)).toNat=4294967295:=by decide
 obtain⟨k,hk⟩:∃k,k=(BitVec.ofInt IntKind.u64.bits (n:Int) &&& BitVec.ofInt IntKind.u64.bits 4294967295).toNat:=⟨_,rfl⟩
 have hle:k≤4294967295:=by
  rw[hk,BitVec.toNat_and,e1]
  exact Nat.and_le_right
 refine⟨k,?_,ag,fun hn=>?_⟩
 ·unfold El
  rw[← hk]
  exact cS (by simp only[gq];omega)
 ·rw[hk,BitVec.toNat_and,e1]
  have e2:(BitVec.ofInt IntKind.u64.bits (n:Int)).toNat=n:=by
   rw[BitVec.ofInt_natCast,BitVec.toNat_ofNat]
   exact Nat.mod_eq_of_lt (by show n<2 ^ 64;omega)
  rw[e2,show(4294967295:Nat)=2 ^ 32-1 from rfl,Nat.and_two_pow_sub_one_eq_mod]
  exact Nat.mod_eq_of_lt ag
attribute [local irreducible] J K aE Ends ae aB aP bP bq aS aZ bu bX Sha.chunks Sha.chunk Sha.rounds Sha.sched dK cm cQ El
def qa(X:HP)(v:Value)(b:List UInt8)(hb:eM X v b)(hl:b.length≤1000000) :
  aE Tryz.prog 135 [v] [X] (fun r H=>H=[X]∧∃k:Nat,k<4294967296∧r = .tuple #[.int .i64 (k:Int),.bool (qc b).isSome]∧∀m,qc b=some m→k=m):=by
 have htu:=mD X v b hb ag
 obtain⟨a,c,rfl,hc⟩:=hb.2
 refine aE.ao Tryz.func135 Tryz.ntmps135 fun G F R hE=>?_
 refine go ?_
 refine aJ htu ?_
 unfold qc at hE
 cases hu:di b with
 | none =>
  rw[hu]at hE
  simp only
  obtain⟨k,ve,sM,_⟩:=A0 0
  refine go ?_
  ((refine au 12 ((.int .u64 (k:Int))) rfl ((congrArg (Value.int .u64) (by rw[← ve];unfold El;rfl))) ?_))
  refine go ?_
  (refine ad hE Tryz.func135 zr zr ⟨rfl,k,sM,rfl,fun m h=>by cases h⟩)
 | some n =>
  rw[hu]at hE
  simp only[Option.bind_some]at hE ⊢
  obtain⟨k,ve,sM,hk3⟩:=A0 n
  refine go ?_
  ((refine au 12 ((.int .u64 (k:Int))) rfl ((congrArg (Value.int .u64) (by rw[← ve];unfold El;rfl))) ?_))
  refine go ?_
  by_cases hn:n≤1048576
  ·rw[if_pos hn]at hE
   refine aX 3 ((.bool true)) rfl ((congrArg Value.bool (decide_eq_true ag))) (go ?_)
   ((refine ad hE Tryz.func135 zr zr ⟨rfl,k,sM,rfl,fun m h=>by injection h with h;rw[← h];exact hk3 hn⟩))
  ·rw[if_neg hn]at hE
   refine aX 3 ((.bool false)) rfl ((congrArg Value.bool (decide_eq_false ag))) (go ?_)
   (refine ad hE Tryz.func135 zr zr ⟨rfl,k,sM,rfl,fun m h=>by cases h⟩)
def u4(X:HP)(v:Value)(b:List UInt8)(hb:eM X v b)(hl:b.length≤1000000) :
  aE Tryz.prog 136 [v] [X] (fun r H=>H=[X]∧r = .tuple #[dV ((gL b).getD Dg.zero),.bool (gL b).isSome]):=by
 obtain⟨dE,a,c,rfl,hc⟩:=hb
 refine aE.ao Tryz.func136 Tryz.ntmps136 fun G F R hE=>?_
 refine aD rfl ?_
 refine az zr zr zr bD ?_
 intro b2
 unfold gL at hE
 refine go ?_
 refine aq zr zr ?_ ?_
 ·intro bY
  rw[if_neg ag]at hE
  refine go ?_
  refine jY (U:=aQ) zr zr zr zr zr (go ?_)
  (refine aY hE ?_;apply aU (U:=aQ) hE Tryz.func136 rfl (al.refl _);(repeat(first|exact aN.nil|apply aN.tmp rfl|apply aN.agg 0 zr zr zr zr zr));exact⟨rfl,rfl⟩;exact ah)
 ·intro heq
  have TD:b.length=32:=by omega
  rw[if_pos TD]at hE
  rw[zf TD]at dE
  obtain⟨bb,oo,cc,he⟩:=dE.some (by intro h;have:=congrArg List.length h;rw[dk]at this;cases this)
  simp only[Value.slice.injEq,true_and]at he
  obtain⟨rfl,rfl⟩:=he
  refine go ?_
  refine BH (U:=aQ) zr zr zr zr ag (go ?_)
  refine aK ?_
  refine dm (U:=aQ) (es:=dC (ue b)) 1 0 zr zr zr dE rfl (fun j v hj=>by rw[Nat.zero_add];exact hj) zr zr zr ?_
  refine go ?_
  (refine aY hE ?_;apply aU (U:=aQ) hE Tryz.func136 rfl (al.refl _);(repeat(first|exact aN.nil|apply aN.tmp rfl|apply aN.agg 0 zr zr zr zr zr));exact⟨rfl,rfl⟩;exact ah)
def GP{b:List UInt8}(h:pJ b=none):iW b=none:=by unfold iW;rw[h]
def D4{b:List UInt8}{xs:List (Int × List UInt8)}(h:pJ b=some xs)(hl:xs.length<2):iW b=none:=by
 unfold iW;rw[h]
 match xs,hl with
 | [],_=>rfl
 | [_],_=>rfl
def Ku{b:List UInt8}{n1 n2:Int}{b1 b2:List UInt8}{l:List (Int × List UInt8)}{n:Int}(h:pJ b=some ((n1,b1)::(n2,b2)::l))(hn:(((n1,b1)::(n2,b2)::l).getLast?.map (·.1))=some n) :
  iW b=if n=((2+l.length:Nat):Int)∧b1.length=1∧b2.length=32 then some (b1.headD 0,ue b2,l.map (·.2))else none:=by
 unfold iW;rw[h]
 simp only
 rw[hn]
 simp only[Option.some.injEq]
def sj.ofP{X:HP}{a:Option Addr}{c:Nat}{ls:List (List UInt8)}{cs:List Value}(hv:Vw (aB 22 1 (.slice a ls.length c) ls.length cs) (.slice a ls.length c) ls.length cs)(hc:ls.length≤c)(hl:cs.length=ls.length)(j7:∀(j:Nat) (z:List UInt8),ls[j]?=some z→∃cv,cs[j]?=some cv∧eM X cv z):sj (Sep [aB 22 1 (.slice a ls.length c) ls.length cs,X]) (.slice a ls.length c) ls :=
  ⟨cs,hv.mono (bg (i:=0) rfl),hl,⟨a,c,rfl,hc⟩,fun i x hx=>by
    obtain⟨cv,h1,h2⟩:=j7 i x hx
    exact⟨cv,h1,h2.mono (bg (i:=1) rfl)⟩⟩
def E8(l:List It):l.map It.v=l.flatMap fun x=>[x.v]:=by induction l with|nil=>rfl|cons x l ih=>simp[ih]
def KA(X:HP)(v:Value)(b:List UInt8)(hb:eM X v b)(hl:b.length≤1000000) :
  aE Tryz.prog 134 [v] [X] (fun r H=>(iW b=none∧(∃(k:UInt8) (d:Dg) (a:Option Addr) (n c:Nat),r = .tuple #[u8 k,dV d,.slice a n c,.bool false])∧H=[X]) ∨
   ∃k d more mv Z,iW b=some (k,d,more)∧sj Z mv more∧(∀x∈more,x.length≤65536)∧more.length≤65536∧r = .tuple #[u8 k,dV d,mv,.bool true]∧H=[Z,X]):=by
 have Rw:=nj X v b hb ag
 obtain⟨a,c,rfl,hc⟩:=hb.2
 refine aE.ao Tryz.func134 Tryz.ntmps134 fun G F R hE=>?_
 refine aD rfl (go ?_)
 refine az zr zr zr bD ?_
 intro b3
 refine go ?_
 refine aH Rw ?_
 rintro _ _ (⟨hn,rfl,rfl⟩|⟨xs,fQ,Z0,rv,hs,pP,⟨dE,vY⟩,rfl,rfl,ra,rc,rfl,OG⟩)
 ·have hd:=GP hn
  refine go ?_
  refine jY (U:=aQ) zr zr zr zr zr (go ?_)
  (refine aY hE ?_;apply aU (U:=aQ) hE Tryz.func134 rfl (al.refl _);(repeat(first|exact aN.nil|apply aN.tmp rfl|apply aN.agg 1 zr zr zr zr zr));exact(.inl ⟨hd,⟨0,Dg.zero,none,0,0,rfl⟩,rfl⟩);exact ah)
 have Ow:=tr hs
 have ME:fQ.length≤65536:=by
  have h1:xs.length≤65536:=by
   unfold pJ at hs
   split at hs
   ·cases hs
   ·split at hs
    ·cases hs
     have:=tq _ b (Nat.le_refl _)
     unfold eX at this;omega
    ·cases hs
  rw[← pP,List.length_map]at h1;exact h1
 by_cases h2:fQ.length<2
 ·have hd:=D4 hs (by rw[← pP,List.length_map];exact h2)
  refine go ?_
  refine au 25 ((.bool true)) rfl ((congrArg Value.bool (decide_eq_true ag))) (go ?_)
  refine jY (U:=aQ) zr zr zr zr zr (go ?_)
  (refine aY hE ?_;apply aU (U:=aQ) hE Tryz.func134 rfl (al.refl _);(repeat(first|exact aN.nil|apply aN.tmp rfl|apply aN.agg 2 zr zr zr zr zr));exact(.inl ⟨hd,⟨0,Dg.zero,none,0,0,rfl⟩,rfl⟩);exact ah)
 obtain⟨i1,i2,rest,Ai⟩:∃i1 i2 rest,fQ=i1::i2::rest:=by
  match fQ,h2 with
  | i1::i2::rest,_=>exact⟨i1,i2,rest,rfl⟩
  | [],h=>exact absurd (by simp) h
  | [_],h=>exact absurd (by simp) h
 have hlen:fQ.length=rest.length+2:=by rw[Ai];rfl
 obtain⟨lst,XM⟩:∃x,fQ[rest.length+1]?=some x:=⟨fQ[rest.length+1]' ag,by simp⟩
 have k8:((fQ.map It.p).getLast?.map (·.1))=some lst.n:=by
  rw[List.getLast?_eq_getElem?,List.length_map,List.getElem?_map,show fQ.length-1=rest.length+1 from by omega,XM]
  rfl
 obtain⟨rb,ro,rcc,he⟩:=dE.some (by rw[Ai];intro h;simp[lQ]at h)
 simp only[Value.slice.injEq,true_and]at he
 obtain⟨rfl,rfl⟩:=he
 have Ak:fQ[0]?=some i1:=by rw[Ai];rfl
 have EO:fQ[1]?=some i2:=by rw[Ai];rfl
 have nX:=vY i1 (List.mem_of_getElem? Ak)
 have rh:=vY i2 (List.mem_of_getElem? EO)
 have A9:(fQ.flatMap lQ)[0*2+1]?=some i1.v:=cR js Ak 1 ag
 have Xj:(fQ.flatMap lQ)[1*2+1]?=some i2.v:=cR js EO 1 ag
 have fb:(fQ.flatMap lQ)[(rest.length+1)*2+0]?=some (.int .i64 lst.n):=cR js XM 0 ag
 have XK:=Ow i2.p (by rw[← pP];exact List.mem_map.2 ⟨_,List.mem_of_getElem? EO,rfl⟩)
 obtain⟨n1,v1,b1⟩:=i1
 obtain⟨n2,v2,b2⟩:=i2
 simp only at nX rh A9 Xj
 obtain⟨a1,c1,rfl,Bj⟩:=nX.2
 obtain⟨a2,c2,rfl,mT⟩:=rh.2
 simp only[It.p]at XK
 have Y3:=Ku (n1:=n1) (b1:=b1) (n2:=n2) (b2:=b2) (l:=rest.map It.p) (n:=lst.n) (by rw[hs,← pP,Ai];rfl) (by rw[Ai]at k8;exact k8)
 rw[List.length_map]at Y3
 refine go ?_
 refine au 25 ((.bool false)) rfl ((congrArg Value.bool (decide_eq_false ag))) (go ?_)
 refine cL (rest.length+1) 2 zr zr zr zr zr zr zr ag ag (go ?_)
 refine aK ?_
 refine bj 0 ((rest.length+1)*2+0) zr zr zr dE (Nat.add_assoc _ _ _) fb zr zr (go ?_)
 by_cases wI:lst.n=((2+rest.length:Nat):Int)
 case neg =>
  have hd:iW b=none:=by rw[Y3,if_neg (fun h=>wI h.1)]
  refine au 37 ((.bool true)) rfl ((congrArg Value.bool (decide_eq_true ag))) (go ?_)
  refine jY (U:=aQ) zr zr zr zr zr (go ?_)
  (refine aY hE ?_;apply aU (U:=aQ) hE Tryz.func134 rfl (al.refl _);(repeat(first|exact aN.nil|apply aN.tmp rfl|apply aN.agg 2 zr zr zr zr zr));exact(.inl ⟨hd,⟨0,Dg.zero,none,0,0,rfl⟩,rfl⟩);exact ah)
 refine au 37 ((.bool false)) rfl ((congrArg Value.bool (decide_eq_false ag))) (go ?_)
 refine cL 0 2 zr zr zr zr zr zr zr zr ag (go ?_)
 refine aK ?_
 refine bj 0 (0*2+1) zr zr zr dE (Nat.add_assoc _ _ _) A9 zr zr (go ?_)
 by_cases h1l:b1.length=1
 case neg =>
  have hd:iW b=none:=by rw[Y3,if_neg (fun h=>h1l h.2.1)]
  refine aX 44 ((.bool true)) rfl ((congrArg Value.bool (decide_eq_true ag))) (go ?_)
  refine jY (U:=aQ) zr zr zr zr zr (go ?_)
  (refine aY hE ?_;apply aU (U:=aQ) hE Tryz.func134 rfl (al.refl _);(repeat(first|exact aN.nil|apply aN.tmp rfl|apply aN.agg 2 zr zr zr zr zr));exact(.inl ⟨hd,⟨0,Dg.zero,none,0,0,rfl⟩,rfl⟩);exact ah)
 obtain⟨kb,rfl⟩:∃k,b1=[k]:=by
  match b1,h1l with
  | [k],_=>exact⟨k,rfl⟩
 refine aX 44 ((.bool false)) rfl ((congrArg Value.bool (decide_eq_false (by simp)))) (go ?_)
 refine cL 1 2 zr zr zr zr zr zr zr zr ag (go ?_)
 refine aK ?_
 refine bj 0 (1*2+1) zr zr zr dE (Nat.add_assoc _ _ _) Xj zr zr (go ?_)
 refine aJ (u4 Z0 _ b2 rh ag) ?_
 unfold dV
 refine go ?_
 refine az zr zr zr bD ?_
 intro b8
 refine go ?_
 refine bh (p:=2) (q:=(fQ.length:Int)) zr zr zr zr zr zr zr ag ag (.inl rfl) ?_
 ((refine au 55 ((.slice (sliceAt (some ⟨rb,ro,none⟩) rc 2 2) rest.length (rc-2))) rfl ((by rw[show(fQ.length:Int).toNat=rest.length+2 from by omega,show(2:Int).toNat=2 from rfl,show rest.length+2-2=rest.length by omega];rfl)) ?_))
 have F':=dE.Pp (s:=2) (cI js _) OG 2 ag
 have Zi:(fQ.flatMap lQ).drop (2*2)=rest.flatMap lQ:=by rw[Ai];rfl
 rw[Zi,show fQ.length-2=rest.length from by omega]at F'
 have abG:∀x∈rest,eM Z0 x.v x.b:=fun x hx=>vY x (by rw[Ai];simp[hx])
 have hxr:∀x∈rest,x.b.length≤65536:=fun x hx=>Ow x.p (by rw[← pP,Ai];simp;right;right;exact⟨x,hx,rfl⟩)
 clear Xj fb XM k8 Ak EO hs pP vY Ow Ai
 refine go ?_
 refine ai (bN 22 1 none _) ?_
 obtain⟨dh,hdh⟩:∃d,d=(gL b2).getD Dg.zero:=⟨_,rfl⟩
 rw[← hdh]
 refine bB (fun y:Nat × Option Addr × Nat=>y.1≤rest.length) (fun y=>rest.length-y.1)
  (fun y=>[(3,ptr b3),(6,.slice (some ⟨rb,ro,none⟩) fQ.length rc),(8,ptr b8),(9,.bool (gL b2).isSome),(10,.slice y.2.1 y.1 y.2.2),(55,.slice (sliceAt (some ⟨rb,ro,none⟩) rc 2 2) rest.length (rc-2)),(56,.int .i64 (rest.length:Int)),(57,.int .i64 (y.1:Int))])
  (fun y=>aB 22 1 (.slice y.2.1 y.1 y.2.2) y.1 ((rest.take y.1).flatMap fun x=>[x.v])::Z0::X::ae b3 (cl (dC Dg.zero) 35)::ae b8 (cl (dC dh) 35)::F) (0,none,0) (Nat.zero_le _) rfl cg ah ?_
 rintro⟨j,ma,mc⟩ hj ih
 simp only at hj
 dsimp only
 refine go ?_
 refine aq zr zr ?_ ?_
 ·intro de
  have rf:j<rest.length:=by omega
  obtain⟨it,Lg⟩:∃x,rest[j]?=some x:=⟨rest[j],by simp⟩
  have Lm:=abG it (List.mem_of_getElem? Lg)
  obtain⟨xn,xv,xb⟩:=it
  simp only at Lm
  obtain⟨va,vc,rfl,_⟩:=Lm.2
  have Xr:sliceAt (some ⟨rb,ro,none⟩) rc 2 2=some ⟨rb,ro+4,none⟩:=by
   unfold sliceAt
   rw[if_neg ag]
   rfl
  rw[Xr]at F'
  refine aX 55 (.slice (some ⟨rb,ro+4,none⟩) rest.length (rc-2)) rfl (by rw[Xr]) (go ?_)
  refine cL j 2 zr zr zr zr zr zr zr zr rf ?_
  refine aK ?_
  refine dm (U:=aQ) (es:=lQ ⟨xn,.slice va xb.length vc,xb⟩) 1 (j*2) zr zr zr F' rfl (fun q v hq=>?_) zr zr zr ?_
  ·rw[cR js Lg q (by rcases Nat.lt_or_ge q 2 with h|h;exact h;rw[List.getElem?_eq_none (by rw[js];exact h)]at hq;cases hq)];exact hq
  refine az zr zr zr bD ?_
  intro wN
  refine go ?_
  refine aj (cs:=[.slice va xb.length vc]) zr zr zr zr zr zr zr zr zr bD ?_
  intro row
  refine go ?_
  have j8:(rest.take (j+1)).flatMap (fun x=>[x.v])=(rest.take j).flatMap (fun x=>[x.v])++[.slice va xb.length vc]:=by rw[List.take_add_one,Lg];simp
  refine aR (mm:=1) (news:=[.slice va xb.length vc]) 2 0 rfl rfl rfl rfl rfl rfl rfl rfl rfl rfl rfl rfl (Vw.ae rfl) rfl (by intro v hv;simp at hv;rw[hv];rfl) ag (by show(_+_)*24≤_;omega) (fun _=>rfl) bD ?_
  intro v1
  rw[← j8]
  refine aO 2 rfl ?_
  rintro ja jc rfl
  refine go ?_
  refine aX 55 ((.slice (sliceAt (some ⟨rb,ro,none⟩) rc 2 2) rest.length (rc-2))) rfl ((by rw[Xr])) ?_
  refine aM ih (j+1,ja,jc) rfl (by simp only;omega) (by simp only;omega) cg ah
 ·intro fA
  have OX:j=rest.length:=by omega
  subst OX
  rw[List.take_length]
  clear ih
  obtain⟨bb1,oo1,cc1,EV⟩:=nX.1.some (by simp[bV])
  simp only[Value.slice.injEq,true_and]at EV
  obtain⟨rfl,rfl⟩:=EV
  have mf:Vw Z0 (.slice (some ⟨bb1,oo1,none⟩) 1 c1) 1 (bV [kb]):=nX.1
  have Bb:(rest.map It.b).length=rest.length:=List.length_map ..
  refine mH 0 rfl ?_
  intro jz
  refine dy 0 rfl ?_
  intro Oy
  have mR:sj (Sep [aB 22 1 (.slice ma rest.length mc) rest.length (rest.flatMap fun x=>[x.v]),Z0]) (.slice ma rest.length mc) (rest.map It.b):=by
   rw[← Bb]at Oy jz ⊢
   refine sj.ofP Oy jz (by rw[← E8];simp) (fun i z hz=>?_)
   rw[List.getElem?_map]at hz
   cases hx:rest[i]? with
   | none=>rw[hx]at hz;cases hz
   | some y =>
    rw[hx]at hz
    injection hz with hz
    subst hz
    exact⟨y.v,by rw[← E8,List.getElem?_map,hx];rfl,abG y (List.mem_of_getElem? hx)⟩
  have hmb:(rest.map It.p).map (·.2)=rest.map It.b:=by rw[List.map_map];rfl
  rw[hmb]at Y3
  have hdd:∀d,gL b2=some d→iW b=some (kb,d,rest.map It.b):=fun d hd=>by
   unfold gL at hd
   split at hd
   ·rename_i TD
    injection hd with hd
    rw[Y3,if_pos ⟨wI,rfl,TD⟩,hd]
    rfl
   ·cases hd
  have yQ:gL b2=none→iW b=none:=fun hd=>by
   unfold gL at hd
   split at hd
   ·cases hd
   ·rename_i TD
    rw[Y3,if_neg (fun h=>TD h.2.2)]
  refine go ?_
  refine aF (fun w=>Sat G w ([Z0,ae b8 (cl (dC dh) 35)])) (cZ 0 10 (.act 10 (.st 11 (.st 12 .nil)))) rfl ak ak ak dT ?_
  refine go ?_
  refine cL 0 2 zr zr zr zr zr zr zr zr ag (go ?_)
  refine aK ?_
  refine cO 0 (0*2+1) zr zr zr dE (Nat.add_assoc _ _ _) A9 zr zr (go ?_)
  refine bM 0 zr zr zr zr zr zr zr zr (by simp) (go ?_)
  refine aK ?_
  refine cO 0 0 zr zr zr mf zr zr zr zr (go ?_)
  refine bQ (U:=aQ) (l:=dC dh) 1 zr zr zr zr zr zr (go ?_)
  refine aT ?_
  refine ct (U:=aQ) (l':=dC dh) 3 dT rfl rfl rfl rfl (by intro e;cases e) (by rw[dG];exact gO _) rfl rfl rfl ?_
  refine go ?_
  refine ai (H':=Sep [aB 22 1 (.slice ma rest.length mc) rest.length (rest.flatMap fun x=>[x.v]),Z0]::X::ae b3 (cl (dC dh) 35)::ae b8 (cl (dC dh) 35)::F) (al.trans ah (al.bS [aB 22 1 (.slice ma rest.length mc) rest.length (rest.flatMap fun x=>[x.v]),Z0] _)) ?_
  cases Zf:gL b2 with
  | none =>
   simp only[Option.isSome_none]
   (refine aY hE ?_;apply aU (U:=aQ) hE Tryz.func134 rfl (al.refl _);(repeat(first|exact aN.nil|apply aN.tmp rfl|apply aN.agg 2 zr zr zr zr zr));exact(.inl ⟨yQ Zf,⟨kb,dh,_,_,_,rfl⟩,rfl⟩);exact ah)
  | some d =>
   rw[Zf]at hdh
   simp only[Option.getD_some]at hdh
   subst hdh
   simp only[Option.isSome_some]
   (refine aY hE ?_;apply aU (U:=aQ) hE Tryz.func134 rfl (al.refl _);(repeat(first|exact aN.nil|apply aN.tmp rfl|apply aN.agg 2 rfl rfl rfl rfl rfl));exact(.inr ⟨kb,dh,_,_,_,hdd dh Zf,mR,(fun x hx=>by obtain⟨y,hy,rfl⟩:=List.mem_map.1 hx;exact hxr y hy),ag,rfl,rfl⟩);exact ah)
end Go.Proofs.YtedjnjkijiddlaaGreatDoor
namespace Go.Proofs.YtedjnjkijiddlaaGreatDoor
open Go Go.SL
def As(X:HP)(v:Value)(l:List Dg):Prop:=Vw X v l.length (l.flatMap dC)∧∃a c,v = .slice a l.length c∧l.length≤c
def As.mono{A B:HP}{v:Value}{l:List Dg}(h:As A v l)(Yi:∀h,B h→∃h',sub h' h∧A h'):As B v l:=⟨h.1.mono Yi,h.2⟩
def xW(n i:Nat):Int:=match dt n i with
 | some s=>(s:Int)
 | none => -1
def MP(n:Nat):n ^^^ 1=if n%2=1 then n-1 else n+1:=by
 have h1:=Nat.xor_div_two (a:=n) (b:=1)
 have h2:(n ^^^ 1)%2=(n+1)%2:=by
  rcases Nat.mod_two_eq_zero_or_one n with h|h
  ·have:=(Nat.xor_mod_two_eq_one (a:=n) (b:=1)).2 (by simp[h])
   omega
  ·have:=(Nat.xor_mod_two_eq_one (a:=n) (b:=1))
   have h3:¬(n ^^^ 1)%2=1:=fun e=>by have:=this.1 e;simp[h]at this
   omega
 simp only[show(1:Nat)/2=0 from rfl,Nat.xor_zero]at h1
 split <;> omega
def MQ(n:Nat)(h:n<1000000000):IntKind.i64.wrap ((BitVec.ofInt IntKind.i64.bits (n:Int) ^^^ BitVec.ofInt IntKind.i64.bits 1).toNat:Int)=((if n%2=1 then n-1 else n+1:Nat):Int):=by
 have e1:(BitVec.ofInt IntKind.i64.bits (1:Int)).toNat=1:=by decide
 rw[BitVec.toNat_xor,wZ ag,e1,MP]
 exact cS (by simp only[gq];split <;> omega)
def bI:Nat→Nat→Nat→List (Nat × Nat)
 | 0,_,_=>[]
 | f+1,n,i=>if n≤1 then []else(n,i)::bI f ((n+1)/2) (i/2)
def tF:∀(f g n i:Nat),n≤f→n≤g→bI f n i=bI g n i
 | 0,0,_,_,_,_=>rfl
 | 0,g+1,n,i,hf,_=>by
  obtain rfl:n=0:=by omega
  rfl
 | f+1,0,n,i,_,hg=>by
  obtain rfl:n=0:=by omega
  rfl
 | f+1,g+1,n,i,hf,hg=>by
  unfold bI
  split
  ·rfl
  ·rw[tF f g ((n+1)/2) (i/2) ag ag]
def Cf(f n i:Nat)(hf:n≤f)(hn:1<n):bI f n i=(n,i)::bI f ((n+1)/2) (i/2):=by
 rw[tF f (f+1) n i hf ag]
 conv=>lhs;unfold bI
 rw[if_neg ag]
def Ea(f n i:Nat)(hn:n≤1):bI f n i=[]:=by
 cases f with
 | zero=>rfl
 | succ f=>unfold bI;rw[if_pos hn]
def sH:∀(f n i:Nat),i<n→∀p∈bI f n i,p.2<p.1∧p.1≤n
 | 0,_,_,_,p,h=>by cases h
 | f+1,n,i,hi,p,h=>by
  unfold bI at h
  split at h
  ·cases h
  ·rcases List.mem_cons.1 h with rfl|h
   ·exact⟨hi,Nat.le_refl _⟩
   ·obtain⟨h1,h2⟩:=sH f ((n+1)/2) (i/2) ag p h
    exact⟨h1,ag⟩
def nw(l:List (Nat × Nat)):Nat:=(l.filter fun p=>(dt p.1 p.2).isSome).length
def Fi(l:List (Nat × Nat))(p:Nat × Nat):nw (l++[p])=nw l+if(dt p.1 p.2).isSome then 1 else 0:=by
 unfold nw
 rw[List.filter_append,List.length_append]
 congr 1
 cases h:(dt p.1 p.2).isSome <;> simp[h]
def vl:∀(f n i:Nat),eP f n i=nw (bI f n i)
 | 0,_,_=>rfl
 | f+1,n,i=>by
  unfold eP bI
  split
  ·rfl
  ·rw[vl f]
   unfold nw
   rw[List.filter_cons]
   cases h:(dt n i).isSome <;> simp[h] <;> omega
def xT(z:Dg × List Dg)(p:Nat × Nat):Dg × List Dg:=match dt p.1 p.2 with
 | none=>z
 | some s=>(if s<p.2 then e8 (z.2.headD Dg.zero) z.1 else e8 z.1 (z.2.headD Dg.zero),z.2.tail)
def qy(l:List (Nat × Nat))(z:Dg × List Dg):Dg × List Dg:=l.foldl xT z
def Pu(l:List (Nat × Nat))(p:Nat × Nat)(z:Dg × List Dg):qy (l++[p]) z=xT (qy l z) p:=by unfold qy;rw[List.foldl_append];rfl
def vp:∀(f n i:Nat) (x:Dg) (p:List Dg),fk f n i x p=(qy (bI f n i) (x,p)).1
 | 0,_,_,_,_=>rfl
 | f+1,n,i,x,p=>by
  unfold fk bI
  split
  ·rfl
  ·unfold qy
   rw[List.foldl_cons]
   unfold xT
   cases h:dt n i with
   | none=>simp only;exact vp f _ _ _ _
   | some s=>simp only;exact vp f _ _ _ _
def Fj:∀(l:List (Nat × Nat)) (z:Dg × List Dg),(qy l z).2.length=z.2.length-nw l
 | [],z=>rfl
 | p::l,z=>by
  have:=Fj l (xT z p)
  unfold qy at this ⊢
  rw[List.foldl_cons,this]
  unfold xT nw
  rw[List.filter_cons]
  cases h:dt p.1 p.2 with
  | none=>simp
  | some s=>simp only[Option.isSome_some,if_true,List.length_tail,List.length_cons];omega
def JF(l:List (Nat × Nat))(j:Nat):nw (l.take j)≤nw l:=by
 conv=>rhs;rw[← List.take_append_drop j l]
 unfold nw
 rw[List.filter_append,List.length_append]
 omega
attribute [local irreducible] J K aE Ends ae aB aP bP bq aS aZ bu bX Sha.chunks Sha.chunk Sha.rounds Sha.sched dK cm cQ e8
def l5(n i:Int):Bool:=decide (1≤n∧n≤1024∧0≤i∧i<n)
def yp(n i:Int):aE Tryz.prog 158 [.int .i64 n,.int .i64 i] [] (fun r H=>r = .bool (l5 n i)∧H=[]):=by
 have hF:(¬(1≤n∧n≤1024∧0≤i))→Value.bool false = .bool (l5 n i):=fun h=>by unfold l5;rw[decide_eq_false ag]
 have hT:(1≤n∧n≤1024∧0≤i)→Value.bool (decide (i<n)) = .bool (l5 n i):=fun h=>by unfold l5;exact congrArg Value.bool (decide_eq_decide.2 ag)
 refine aE.ao Tryz.func158 Tryz.ntmps158 fun G F R hE=>?_
 repeat'(first|(with_reducible intro pM)|refine gy ?_|refine ie zr zr zr zr ?_ ?_|fail)
 all_goals(first|((refine ad hE Tryz.func158 zr zr ⟨hF ag,rfl⟩))|((refine ad hE Tryz.func158 zr zr ⟨hT ag,rfl⟩)))
def zu(n i:Nat)(hi:i<n)(hn:n≤1000000):aE Tryz.prog 161 [.int .i64 (n:Int),.int .i64 (i:Int)] [] (fun r H=>r = .int .i64 (xW n i)∧H=[]):=by
 refine aE.ao Tryz.func161 Tryz.ntmps161 fun G F R hE=>?_
 have hx:=MQ i ag
 refine go ?_
 refine aq zr zr ?_ ?_
 ·intro de
  rw[hx]at de
  have hs:xW n i=((if i%2=1 then i-1 else i+1:Nat):Int):=by
   unfold xW dt
   by_cases h:i%2=1
   ·rw[if_pos h,if_pos h]
   ·rw[if_neg h,if_neg h,if_pos (by rw[if_neg h]at de;omega)]
  refine go ?_
  refine ad hE Tryz.func161 zr zr ⟨congrArg (Value.int .i64) (hx.trans hs.symm),rfl⟩
 ·intro fA
  rw[hx]at fA
  have hs:xW n i = -1:=by
   unfold xW dt
   by_cases h:i%2=1
   ·rw[if_pos h]at fA;exfalso;omega
   ·rw[if_neg h,if_neg (by rw[if_neg h]at fA;omega)]
  refine go ?_
  refine ad hE Tryz.func161 zr zr ⟨congrArg (Value.int .i64) hs.symm,rfl⟩
def yi(n i:Int):aE Tryz.prog 160 [.int .i64 n,.int .i64 i] [] (fun r H=>∃b1 b2,r = .func (.func 205) #[] #[ptr b1,ptr b2]∧H=[ae b1 (cl [.int .i64 n] 3),ae b2 (cl [.int .i64 i] 3)]):=by
 refine aE.ao Tryz.func160 Tryz.ntmps160 fun G F R hE=>?_
 refine aD rfl ?_
 refine bG zr zr bD ?_
 intro b1
 refine bG zr zr bD ?_
 intro b2
 refine go ?_
 refine ad hE Tryz.func160 zr zr ⟨b1,b2,rfl,rfl⟩
def vN(b1 b2 n i:Nat)(hn:n≤1000000)(hi:i≤1000000)(l:Nat)(Lp:HP)(Inv:Nat→HP)(hy:∀j p,(bI n n i)[j]?=some p→bX Tryz.prog l [.int .i64 (p.1:Int),.int .i64 (p.2:Int)] [Lp,Inv j] (fun v H=>v = .bool true∧H=[Lp,Inv (j+1)])) :
  aE Tryz.prog 205 [.func (.yield l) #[] #[],ptr b1,ptr b2] [Lp,Inv 0,ae b1 (cl [.int .i64 (n:Int)] 3),ae b2 (cl [.int .i64 (i:Int)] 3)] (fun _ H=>H=[Lp,Inv (bI n n i).length]):=by
 refine aE.ao Tryz.func205 Tryz.ntmps205 fun G F R hE=>?_
 refine bB (fun y:Nat × Nat × Nat=>y.1≤n∧y.2.1≤i∧(bI n n i).drop y.2.2=bI n y.1 y.2.1∧y.2.2≤(bI n n i).length) (fun y=>y.1)
  (fun _=>[(0,.func (.yield l) #[] #[]),(1,ptr b1),(2,ptr b2)])
  (fun y=>Lp::Inv y.2.2::ae b1 (cl [.int .i64 (y.1:Int)] 3)::ae b2 (cl [.int .i64 (y.2.1:Int)] 3)::F) (n,i,0) ⟨Nat.le_refl _,Nat.le_refl _,rfl,Nat.zero_le _⟩ rfl cg ah ?_
 rintro⟨m,k,j⟩⟨hm,hk,hd,hj⟩ ih
 simp only at hm hk hd hj
 dsimp only
 refine go ?_
 refine aq zr zr ?_ ?_
 ·intro MG
  have Aj:1<m:=by omega
  rw[Cf n m k hm Aj]at hd
  have hx:(bI n n i)[j]?=some (m,k):=by
   have:=congrArg (fun l=>l[0]?) hd
   simpa using this
  have wK:=(List.getElem?_eq_some_iff.1 hx).1
  have O3:(bI n n i).drop (j+1)=bI n ((m+1)/2) (k/2):=by
   have:=congrArg (fun l=>l.drop 1) hd
   simpa[List.drop_drop]using this
  refine go ?_
  refine kQ zr zr zr (hy j (m,k) hx) ah ?_ mM
  rintro _ _⟨rfl,rfl⟩
  refine go ?_
  refine ai (H':=ae b1 (cl [.int .i64 (m:Int)] 3)::ae b2 (cl [.int .i64 (k:Int)] 3)::Lp::Inv (j+1)::F) ah ?_
  refine aF (fun w=>Sat G w ([])) (.fork (.act 0 (.st 1 (.st 2 (.fork (.act 3 (.st 4 (.act 5 (.act 6 .nil)))) (.act 5 (.act 3 (.st 4 (.act 6 .nil)))))))) (.act 3 (.st 4 (.act 0 (.st 1 (.st 2 (.act 5 (.act 6 .nil)))))))) rfl ak ak ak dT ?_
  repeat'(first|refine gy ?_|refine qL ?_ ?_|(refine lO ?_;refine jl zr zr zr ag ?_;first|(refine au 8 (.int .i64 (((m+1)/2:Nat):Int)) rfl (congrArg (Value.int .i64) (by show((m:Int)+1)/2 ^ 1=_;omega)) ?_)|(refine au 10 (.int .i64 ((k/2:Nat):Int)) rfl (congrArg (Value.int .i64) (by show(k:Int)/2 ^ 1=_;omega)) ?_))|(refine aT ?_;(refine cq 0 dT zr zr zr zr zr zr zr zr zr ?_)))
  all_goals(
   refine aM ih ((m+1)/2,k/2,j+1) rfl ⟨by simp only;omega,by simp only;omega,O3,by simp only;omega⟩ (by simp only;omega) cg ah)
 ·intro fA
  have hz:bI n m k=[]:=Ea n m k ag
  rw[hz]at hd
  have OX:j=(bI n n i).length:=by
   have:=congrArg List.length hd
   rw[List.length_drop,List.length_nil]at this
   omega
  subst OX
  refine go ?_
  refine bW hE Tryz.func205 rfl _ zr zr ah
def BJ(n i:Int):aE Tryz.prog 159 [.int .i64 n,.int .i64 i] [] (fun r H=>r = .int .i64 (dx n i:Int)∧H=[]):=by
 refine aE.ao Tryz.func159 Tryz.ntmps159 fun G F R hE=>?_
 refine go ?_
 refine az zr zr zr bD ?_
 intro b5
 refine go ?_
 refine aJ (yp n i) ?_
 cases hr:l5 n i with
 | false =>
  have hd:dx n i=0:=by
   unfold dx
   rw[if_neg (by unfold l5 at hr;simpa using hr)]
  rw[hd]at hE
  refine go ?_
  refine ad hE Tryz.func159 zr zr ⟨rfl,rfl⟩
 | true =>
  have Hm:1≤n∧n≤1024∧0≤i∧i<n:=by unfold l5 at hr;simpa using hr
  obtain⟨m,rfl⟩:∃m:Nat,n=m:=⟨n.toNat,ag⟩
  obtain⟨k,rfl⟩:∃m:Nat,i=m:=⟨i.toNat,ag⟩
  have hd:dx (m:Int) (k:Int)=nw (bI m m k):=by
   unfold dx
   rw[if_pos Hm]
   simp only[Int.toNat_natCast]
   exact vl m m k
  have qm:=sH m m k ag
  have Dj:=od (m:Int) (k:Int)
  rw[hd]at hE Dj
  refine go ?_
  refine aH (yi (m:Int) (k:Int)) ?_
  rintro _ _⟨b1,b2,rfl,rfl⟩
  refine go ?_
  refine fL rfl ?_
  have sO:nw ((bI m m k).take 0)=0:=rfl
  refine ai (H':=ae b5 (cl [.int .i64 (nw ((bI m m k).take 0):Int)] 3)::ae b1 (cl [.int .i64 (m:Int)] 3)::ae b2 (cl [.int .i64 (k:Int)] 3)::F) (by rw[sO];exact ah) ?_
  refine qF (Fr:=F) (Pre:=fun _ _=>[ae b5 (cl [.int .i64 (nw ((bI m m k).take 0):Int)] 3),ae b1 (cl [.int .i64 (m:Int)] 3),ae b2 (cl [.int .i64 (k:Int)] 3)]) (fun _ _ Lp v H=>H=[Lp .ready none,ae b5 (cl [.int .i64 (nw ((bI m m k).take (bI m m k).length):Int)] 3)]) rfl hE.1.1 rfl ?c (fun l r=>ah) ?iK
  case c =>
   intro l r
   refine vN b1 b2 m k ag ag l _ (fun j=>ae b5 (cl [.int .i64 (nw ((bI m m k).take j):Int)] 3)) ?_
   rintro j⟨p,q⟩ hp
   obtain⟨h1,h2⟩:=qm _ (List.mem_of_getElem? hp)
   have j8:(bI m m k).take (j+1)=(bI m m k).take j++[(p,q)]:=by rw[List.take_add_one,hp];rfl
   have QD:nw ((bI m m k).take (j+1))=nw ((bI m m k).take j)+if(dt p q).isSome then 1 else 0:=by rw[j8,Fi]
   have lA:=JF (bI m m k) j
   simp only at h1 h2
   refine bX.Eg zr zr ?_
   intro G2 F2 R2 hY
   refine go ?_
   refine gn rfl hY (go ?_)
   refine aJ (zu p q h1 ag) ?_
   unfold xW
   cases hs:dt p q with
   | none =>
    rw[hs]at QD
    simp only[Option.isSome_none,Bool.false_eq_true,if_false,Nat.add_zero]at QD
    rw[QD]at hY
    simp only
    refine go ?_
    refine fK hY rfl ah ⟨rfl,rfl⟩
   | some s =>
    rw[hs]at QD
    simp only[Option.isSome_some,if_true]at QD
    rw[QD]at hY
    simp only
    refine go ?_
    refine fK hY rfl ah ⟨rfl,rfl⟩
  rintro l r v H' rfl
  refine⟨_,_,_,rfl,by decide,?_⟩
  rw[hE.1.2,List.take_length]
  refine go ?_
  (apply aU (U:=aQ) hE Tryz.func159 rfl ah;(repeat(first|exact aN.nil|apply aN.tmp rfl));exact⟨rfl,rfl⟩;exact ah)
end Go.Proofs.YtedjnjkijiddlaaGreatDoor
namespace Go.Proofs.YtedjnjkijiddlaaGreatDoor
open Go Go.SL
def YX(b8 b9:Nat)(X:HP)(z:Dg × List Dg):HP:=fun h=>∃v:Value,As X v z.2∧Sep [ae b8 (cl (dC z.1) 35),ae b9 (cl [v] 42),X] h
def F4(b8 b9:Nat)(X:HP)(z:Dg × List Dg):∀h,YX b8 b9 X z h→∃v:Value,As X v z.2∧Sep [ae b8 (cl (dC z.1) 35),ae b9 (cl [v] 42),X] h:=fun h hs=>hs
def Dd{b8 b9:Nat}{X:HP}{z:Dg × List Dg}{v:Value}(hv:As X v z.2)(H:List HP):al (ae b8 (cl (dC z.1) 35)::ae b9 (cl [v] 42)::X::H) (YX b8 b9 X z::H) :=
 al.fold (A:=YX b8 b9 X z) (B:=[ae b8 (cl (dC z.1) 35),ae b9 (cl [v] 42),X]) fun h hs=>⟨h,sub.refl h,v,hv,hs⟩
def As.tail{X:HP}{a:Option Addr}{c:Nat}{x:Dg}{l:List Dg}(h:As X (.slice a (x::l).length c) (x::l)):As X (.slice (sliceAt a c 1 32) l.length (c-1)) l:=by
 obtain⟨hv,a',c',he,hc⟩:=h
 simp only[Value.slice.injEq,true_and]at he
 obtain⟨rfl,rfl⟩:=he
 have:=hv.Pp (s:=32) (cI dk _) hc 1 (by simp)
 rw[List.length_cons,Nat.add_sub_cancel,List.flatMap_cons,show 1*32=(dC x).length from by rw[dk],List.drop_left]at this
 exact⟨this,_,_,rfl,by simp only[List.length_cons]at hc;omega⟩
attribute [local irreducible] J K aE Ends ae aB aP bP bq aS aZ bu bX Sha.chunks Sha.chunk Sha.rounds Sha.sched dK cm cQ e8 YX
def Mw(X:HP)(hK:oG X)(root leaf:Dg)(n i:Int)(pv:Value)(proof:List Dg)(hp:As X pv proof) :
  aE Tryz.prog 98 [dV root,.int .i64 n,.int .i64 i,dV leaf,pv] [X] (fun r H=>r = .bool (gb root n i leaf proof)∧H=[X]):=by
 have zX:=hp
 obtain⟨hv,a,c,rfl,hc⟩:=hp
 unfold dV
 refine aE.ao Tryz.func98 Tryz.ntmps98 fun G F R hE=>?_
 refine aD rfl ?_
 refine bG zr zr bD ?_
 intro b5
 refine bG zr zr bD ?_
 intro b8
 refine bG zr zr bD ?_
 intro b9
 refine go ?_
 refine aF (fun w=>Sat G w ([ae b9 (cl [.slice a proof.length c] 42)])) (.st 0 (.st 1 (.act 2 (cZ 3 6 (.act 9 (.st 10 (.st 11 .nil))))))) rfl ak ak ak dT ?_
 refine go ?_
 refine bo (yp n i) ?_
 cases hr:l5 n i with
 | false =>
  have X8:gb root n i leaf proof=false:=by
   unfold gb
   exact decide_eq_false fun h=>by unfold l5 at hr;rw[decide_eq_true h.1]at hr;cases hr
  rw[X8]at hE
  refine go ?_
  (refine aY hE ?_;apply aU (U:=aQ) hE Tryz.func98 rfl (al.refl _);(repeat(first|exact aN.nil|apply aN.tmp rfl));exact⟨rfl,rfl⟩;exact ah)
 | true =>
  have Hm:1≤n∧n≤1024∧0≤i∧i<n:=by unfold l5 at hr;simpa using hr
  refine go ?_
  refine bo (BJ n i) ?_
  refine go ?_
  refine fR zr zr ?_ ?_
  ·intro bY
   have fT:proof.length≠dx n i:=by
    intro e
    rw[e]at bY
    simp at bY
   have X8:gb root n i leaf proof=false:=by
    unfold gb
    exact decide_eq_false fun h=>fT h.2.1
   rw[X8]at hE
   refine go ?_
   (refine aY hE ?_;apply aU (U:=aQ) hE Tryz.func98 rfl (al.refl _);(repeat(first|exact aN.nil|apply aN.tmp rfl));exact⟨rfl,rfl⟩;exact ah)
  intro heq
  have o6:proof.length=dx n i:=by
   by_cases h:(proof.length:Int)=(dx n i:Int)
   ·omega
   ·simp[h]at heq
  obtain⟨m,rfl⟩:∃m:Nat,n=m:=⟨n.toNat,ag⟩
  obtain⟨k,rfl⟩:∃m:Nat,i=m:=⟨i.toNat,ag⟩
  have hd:dx (m:Int) (k:Int)=nw (bI m m k):=by
   unfold dx
   rw[if_pos Hm]
   simp only[Int.toNat_natCast]
   exact vl m m k
  have qm:=sH m m k ag
  have Tu:gb root (m:Int) (k:Int) leaf proof=decide ((qy (bI m m k) (leaf,proof)).1=root):=by
   unfold gb
   rw[decide_eq_decide]
   simp only[Int.toNat_natCast,vp]
   exact⟨fun h=>h.2.2,fun h=>⟨Hm,o6,h⟩⟩
  rw[Tu]at hE
  refine go ?_
  refine aH (yi (m:Int) (k:Int)) ?_
  rintro _ _⟨b1,b2,rfl,rfl⟩
  refine go ?_
  refine fL rfl ?_
  refine ai (H':=ae b8 (cl (dC leaf) 35)::ae b9 (cl [.slice a proof.length c] 42)::X::ae b1 (cl [.int .i64 (m:Int)] 3)::ae b2 (cl [.int .i64 (k:Int)] 3)::ae b5 (cl (dC root) 35)::F) ah ?_
  refine ai (Dd (z:=qy ((bI m m k).take 0) (leaf,proof)) zX _) ?_
  refine qF (Fr:=ae b5 (cl (dC root) 35)::F) (Pre:=fun _ _=>[YX b8 b9 X (qy ((bI m m k).take 0) (leaf,proof)),ae b1 (cl [.int .i64 (m:Int)] 3),ae b2 (cl [.int .i64 (k:Int)] 3)]) (fun _ _ Lp v H=>H=[Lp .ready none,YX b8 b9 X (qy ((bI m m k).take (bI m m k).length) (leaf,proof))]) rfl hE.1.1 rfl ?c (fun l r=>ah) ?iK
  case c =>
   intro l r
   refine vN b1 b2 m k ag ag l _ (fun j=>YX b8 b9 X (qy ((bI m m k).take j) (leaf,proof))) ?_
   rintro j⟨p,q⟩ EH
   obtain⟨h1,h2⟩:=qm _ (List.mem_of_getElem? EH)
   have j8:(bI m m k).take (j+1)=(bI m m k).take j++[(p,q)]:=by rw[List.take_add_one,EH];rfl
   have Lk:qy ((bI m m k).take (j+1)) (leaf,proof)=xT (qy ((bI m m k).take j) (leaf,proof)) (p,q):=by rw[j8,Pu]
   have Ou:=Fj ((bI m m k).take j) (leaf,proof)
   have QD:nw ((bI m m k).take (j+1))=nw ((bI m m k).take j)+if(dt p q).isSome then 1 else 0:=by rw[j8,Fi]
   have lA:=JF (bI m m k) (j+1)
   simp only at h1 h2 Ou
   rw[Lk]
   obtain⟨z,hz⟩:∃z,z=qy ((bI m m k).take j) (leaf,proof):=⟨_,rfl⟩
   rw[← hz]at Ou ⊢
   clear Lk hz
   refine bX.Eg zr zr ?_
   intro G F2 R2 hY
   unfold xT at hY
   obtain⟨x,prf⟩:=z
   refine go ?_
   refine gn rfl hY ?_
   refine ai (al.pick [1] rfl) ?_
   refine eG (F4 b8 b9 X (x,prf)) ?_
   rintro v hdv
   simp only at hdv
   refine go ?_
   refine aJ (zu p q h1 ag) ?_
   unfold xW
   cases hs:dt p q with
   | none =>
    rw[hs]at QD hY
    simp only at hY ⊢
    refine go ?_
    refine ai (Dd (z:=(x,prf)) hdv _) ?_
    refine fK hY rfl ah ⟨rfl,rfl⟩
   | some s =>
    rw[hs]at QD hY
    simp only[Option.isSome_some,if_true]at QD
    simp only at hY ⊢
    simp only at Ou
    obtain⟨p0,rest,rfl⟩:∃p0 rest,prf=p0::rest:=by
     cases prf with
     | nil=>rw[List.length_nil]at Ou;exfalso;omega
     | cons p0 rest=>exact⟨p0,rest,rfl⟩
    simp only[List.headD_cons,List.tail_cons]at hY
    obtain⟨dE,a1,c1,rfl,Bj⟩:=hdv
    obtain⟨bb,oo,cc,he⟩:=dE.some (by rw[List.flatMap_cons];intro h;simp[dC]at h)
    simp only[Value.slice.injEq,true_and]at he
    obtain⟨rfl,rfl⟩:=he
    have rF:=As.tail ⟨dE,_,_,rfl,Bj⟩
    have fA:∀(q':Nat) (v:Value),(dC p0)[q']?=some v→((p0::rest).flatMap dC)[0+q']?=some v:=fun q' v hq=>by
     rw[Nat.zero_add,List.flatMap_cons,List.getElem?_append_left (List.getElem?_eq_some_iff.1 hq).1];exact hq
    have uH:s≠q:=(wW h1 hs).2.2
    refine go ?_
    refine aq zr zr ?_ ?_
    ·intro de
     have wH:s<q:=by omega
     rw[if_pos wH]at hY
     refine go ?_
     refine aF (fun w=>Sat G w ([ae b8 (cl (dC x) 35),ae b9 (cl [.slice (some ⟨bb,oo,none⟩) (p0::rest).length c1] 42),X])) (cZ 0 4 (.act 4 (.act 5 .nil))) rfl ak ak ak dT ?_
     (repeat(first|refine gy ?_|refine cL 0 32 zr zr zr zr zr zr zr zr (by simp) ?_|refine bQ (U:=aQ) (l:=dC x) 0 zr zr zr zr zr zr ?_|(refine aK ?_;refine fq (U:=aQ) (es:=dC p0) 2 0 zr zr zr dE rfl fA zr zr zr ?_)))
     refine bo (zF X hK p0 x) ?_
     refine aT ?_
     refine ct (U:=aQ) (l':=dC (e8 p0 x)) 1 gB rfl rfl rfl rfl (by intro e;cases e) (by rw[dG];exact gO _) rfl rfl rfl ?_
     refine go ?_
     refine bh (p:=1) (q:=((p0::rest).length:Int)) zr zr zr zr zr zr zr ag (by simp only[List.length_cons];omega) (.inl rfl) ?_
     ((refine au 52 ((.slice (sliceAt (some ⟨bb,oo,none⟩) c1 1 32) rest.length (c1-1))) rfl ((by rw[show((p0::rest).length:Int).toNat=rest.length+1 from by simp[List.length_cons],show(1:Int).toNat=1 from rfl,show rest.length+1-1=rest.length by omega];rfl)) ?_))
     refine go ?_
     refine ai (al.trans ah (Dd (z:=(e8 p0 x,rest)) rF _)) ?_
     refine fK hY rfl ah ⟨rfl,rfl⟩
    ·intro de
     have wH:¬s<q:=by omega
     rw[if_neg wH]at hY
     refine go ?_
     refine aF (fun w=>Sat G w ([ae b8 (cl (dC x) 35),ae b9 (cl [.slice (some ⟨bb,oo,none⟩) (p0::rest).length c1] 42),X])) (cZ 0 4 (.act 4 (.act 5 .nil))) rfl ak ak ak dT ?_
     (repeat(first|refine gy ?_|refine cL 0 32 zr zr zr zr zr zr zr zr (by simp) ?_|refine bQ (U:=aQ) (l:=dC x) 0 zr zr zr zr zr zr ?_|(refine aK ?_;refine fq (U:=aQ) (es:=dC p0) 2 0 zr zr zr dE rfl fA zr zr zr ?_)))
     refine bo (zF X hK x p0) ?_
     refine aT ?_
     refine ct (U:=aQ) (l':=dC (e8 x p0)) 1 gB rfl rfl rfl rfl (by intro e;cases e) (by rw[dG];exact gO _) rfl rfl rfl ?_
     refine go ?_
     refine bh (p:=1) (q:=((p0::rest).length:Int)) zr zr zr zr zr zr zr ag (by simp only[List.length_cons];omega) (.inl rfl) ?_
     ((refine au 52 ((.slice (sliceAt (some ⟨bb,oo,none⟩) c1 1 32) rest.length (c1-1))) rfl ((by rw[show((p0::rest).length:Int).toNat=rest.length+1 from by simp[List.length_cons],show(1:Int).toNat=1 from rfl,show rest.length+1-1=rest.length by omega];rfl)) ?_))
     refine go ?_
     refine ai (al.trans ah (Dd (z:=(e8 x p0,rest)) rF _)) ?_
     refine fK hY rfl ah ⟨rfl,rfl⟩
  rintro l r v H' rfl
  refine⟨_,_,_,rfl,by decide,?_⟩
  rw[hE.1.2,List.take_length]
  refine eG (F4 b8 b9 X _) ?_
  rintro v -
  refine go ?_
  refine aG (U:=aQ) (l:=dC (qy (bI m m k) (leaf,proof)).1) 0 zr zr zr zr zr zr (go ?_)
  refine aG (U:=aQ) (l:=dC root) 4 zr zr zr zr zr zr (go ?_)
  refine kT (b:=decide ((qy (bI m m k) (leaf,proof)).1=root)) zr zr zr HF (fun w=>HO _ root w) ?_
  refine go ?_
  (apply aU (U:=aQ) hE Tryz.func98 rfl ah;(repeat(first|exact aN.nil|apply aN.tmp rfl));exact⟨rfl,rfl⟩;exact ah)
def yu(X:HP)(hK:oG X)(x:Bl)(i:Int)(bv:Value)(b:List UInt8)(hb:eM X bv b)(iC:b.length≤900000000)(pv:Value)(proof:List Dg)(hp:As X pv proof) :
  aE Tryz.prog 44 [eL x,.int .i64 i,bv,pv] [X] (fun r H=>r = .bool (cd x i b proof)∧H=[X]):=by
 have pF:=zB x i
 have O4:=vC x
 have Tu:=Mw X hK x.root (cQ b) (bO x) i pv proof hp
 have hlf:=FF X hK bv b hb iC
 obtain⟨ba,bc,rfl,MK⟩:=hb.2
 obtain⟨pa,pc,rfl,tj⟩:=hp.2
 unfold eL at pF O4 ⊢
 unfold dV at Tu hlf
 refine aE.ao Tryz.func44 Tryz.ntmps44 fun G F R hE=>?_
 refine aD rfl ?_
 refine bG zr zr bD ?_
 intro b4
 refine go ?_
 refine aG (U:=aQ) (l:=bH x) 0 zr zr zr zr zr zr (go ?_)
 refine aJ pF ?_
 unfold cd at hE
 cases e7:cC x i with
 | none =>
  rw[e7]at hE
  simp only at hE ⊢
  refine go ?_
  refine aF (fun w=>Sat G w ([ae b4 (cl (bH x) 37)])) (cZ 0 12 (.st 13 (.st 14 (.st 16 (.act 12 (.act 15 (.act 17 (.st 18 (.st 19 .nil))))))))) rfl ak ak ak dT ?_
  refine go ?_
  refine ad hE Tryz.func44 zr zr ⟨rfl,rfl⟩
 | some w =>
  obtain⟨at_,n⟩:=w
  rw[e7]at hE
  simp only at hE ⊢
  refine go ?_
  refine aF (fun w=>Sat G w ([ae b4 (cl (bH x) 37)])) (cZ 0 12 (.st 13 (.st 14 (.st 16 (.act 12 (.act 15 (.act 17 (.st 18 (.st 19 .nil))))))))) rfl ak ak ak dT ?_
  refine go ?_
  by_cases hl:(b.length:Int)=n
  case neg =>
   rw[decide_eq_false hl,Bool.false_and]at hE
   refine au 27 ((.bool false)) rfl ((congrArg Value.bool (decide_eq_false hl))) (go ?_)
   refine ad hE Tryz.func44 zr zr ⟨rfl,rfl⟩
  rw[decide_eq_true hl,Bool.true_and]at hE
  refine au 27 ((.bool true)) rfl ((congrArg Value.bool (decide_eq_true hl))) (go ?_)
  refine cf (U:=aQ) (cs:=dC x.root) 0 zr zr zr zr zr zr (go ?_)
  refine bQ (U:=aQ) (l:=bH x) 0 zr zr zr zr zr zr (go ?_)
  refine bo O4 ?_
  refine go ?_
  refine bo hlf ?_
  refine go ?_
  refine bo Tu ?_
  refine go ?_
  refine ad hE Tryz.func44 zr zr ⟨rfl,rfl⟩
end Go.Proofs.YtedjnjkijiddlaaGreatDoor
namespace Go.Proofs.YtedjnjkijiddlaaGreatDoor
open Go Go.SL
structure TC where
 x:Bl
 n:Nat
 ws:List jj
 pf:Int→Option (List Dg)
def Tk.c(y:Tk):TC:=⟨y.x,y.n,y.ws,y.pf⟩
def gz(ts:List Tk):List TC:=ts.map Tk.c
namespace TC
def put(c:TC)(i:Nat)(l:List Dg):TC:=⟨c.x,c.n,jR c.ws i true,fun j=>if j=(i:Int)then some l else c.pf j⟩
def drop(c:TC)(i:Nat):TC:=⟨c.x,c.n,jR c.ws i false,fun j=>if j=(i:Int)then none else c.pf j⟩
end TC
def cW(x:Bl):TC:=⟨x,(bO x).toNat,List.replicate (((bO x).toNat+63)/64) 0#64,fun _=>none⟩
def mZ:List (List UInt8)→Option (List Dg)
 | []=>some []
 | b::l=>match gL b,mZ l with
  | some d,some ds=>some (d::ds)
  | _,_=>none
def l8(cs:List TC)(d:Dg)(m:List UInt8)(l:List (List UInt8)):List TC:=match qc m,mZ l with
 | some i,some p=>cs.map fun y=>if y.x.d=d∧i<y.n∧p.length=dx y.n i then y.put i p else y
 | _,_=>cs
def DV(cs:List TC)(d:Dg):List TC:=cs.filter fun y => !decide (y.x.d=d)
def dB(cs:List TC)(b:List UInt8):List TC:=match iW b with
 | none=>cs
 | some (k,d,more) =>
  if k=3∧more=[]then DV cs d
  else match more with
   | [s,p,r]=>if k=1 then(match qc s,qc p,gL r with
     | some s,some p,some r=>if bz ⟨d,s,p,r⟩then DV cs d++[cW ⟨d,s,p,r⟩]else cs
     | _,_,_=>cs)
    else if k=2 then l8 cs d s [p,r]else cs
   | m::l=>if k=2 then l8 cs d m l else cs
   | []=>cs
def bJ(d:Dg)(i:Nat)(p:List Dg):List UInt8:=jL 2 d (uv i::p.map Dg.bs)
def k7(s:fe)(z:TC × List (List UInt8))(i:Nat):TC × List (List UInt8) :=
 if cy z.1.ws z.1.n (i:Int)then(if(eo s z.1.x i).2≠0∨cd z.1.x i (eo s z.1.x i).1 ((z.1.pf i).getD [])=false then(z.1.drop i,z.2)else(z.1,z.2++[bJ z.1.x.d i ((z.1.pf i).getD [])]))else z
def iJ(s:fe)(c:TC)(k:Nat):TC × List (List UInt8):=(List.range k).foldl (k7 s) (c,[bU c.x])
def ki(s:fe)(c:TC):TC × List (List UInt8):=iJ s c c.n
def si(q:Int):List TC→fe→List TC→List (List UInt8)→Nat→fe→List TC→List (List UInt8)→Prop
 | [],s,cs,rs,e,t,j9,AO=>e=0∧t=s∧j9=cs∧AO=rs
 | c::l,s,cs,rs,e,t,j9,AO=>∃e1 s1,dS q c.x s e1 s1 ∧
  if e1=5∨e1=11 then si q l s1 cs rs e t j9 AO
  else if e1≠0 then e=e1∧t=s1
  else si q l s1 (cs++[(ki s1 c).1]) (rs++(ki s1 c).2) e t j9 AO
def C2(q:Int)(s:fe)(e:Nat)(t:fe)(jn:JN)(cs:List TC):Prop :=
 ∃e1 A1 j1,ou s.A db e1 A1 j1∧if e1≠0 then e=e1∧t=⟨A1,s.bt,s.brk⟩else
  ∃e2 s2 rs,si q ((fW s.A db).foldl dB []) ⟨A1,s.bt,s.brk⟩ [] [] e2 s2 cs rs∧if e2≠0 then e=e2∧t=s2 else
   ∃A3,oA db s2.A j1 rs e A3 jn∧t=⟨A3,s2.bt,s2.brk⟩
def mg(s:fe)(c:TC)(k:Nat):iJ s c (k+1)=k7 s (iJ s c k) k:=by
 unfold iJ
 rw[List.range_succ,List.foldl_append]
 rfl
def RE(s:fe)(z:TC × List (List UInt8))(i:Nat):(k7 s z i).1.x=z.1.x∧(k7 s z i).1.n=z.1.n∧(k7 s z i).1.ws.length=z.1.ws.length:=by
 unfold k7
 split
 ·split
  ·exact⟨rfl,rfl,iI _ _ _⟩
  ·exact⟨rfl,rfl,rfl⟩
 ·exact⟨rfl,rfl,rfl⟩
def Jh(s:fe)(c:TC):∀k,(iJ s c k).1.x=c.x∧(iJ s c k).1.n=c.n∧(iJ s c k).1.ws.length=c.ws.length
 | 0=>⟨rfl,rfl,rfl⟩
 | k+1=>by
  rw[mg]
  obtain⟨h1,h2,h3⟩:=RE s (iJ s c k) k
  obtain⟨g1,g2,g3⟩:=Jh s c k
  exact⟨h1.trans g1,h2.trans g2,h3.trans g3⟩
def rq(ts:List Tk):(gz ts).length=ts.length:=by simp[gz]
def eB(i:Nat)(l:List Dg):List (List UInt8):=uv i::l.map Dg.bs
def ku(i:Nat)(hi:i≤1000000000000)(l:List Dg):∀b∈eB i l,b.length≤32:=fun b hb=>by
  rcases List.mem_cons.1 hb with rfl|hb
  · have := xF 5 i (by have : (128 : Nat) ^ 6 = 4398046511104 := by decide
                       omega)
    omega
  · obtain⟨d,_,rfl⟩:=List.mem_map.1 hb
    rw[d.len];omega
def Eb(i:Nat){l:List Dg}{j:Nat}{d:Dg}(h:l[j]?=some d):eB i (l.take (j+1))=eB i (l.take j)++[d.bs]:=by
 unfold eB
 rw[List.take_add_one,h]
 simp
structure Zr where
 cs:List Value
 Z:HP
def CZ(M:Zr)(ls:List (List UInt8)):Prop:=M.cs.length=ls.length∧∀(i:Nat) (x:List UInt8),ls[i]?=some x→∃cv,M.cs[i]?=some cv∧eM M.Z cv x
def CZ.add{M:Zr}{ls:List (List UInt8)}(h:CZ M ls){A:HP}{cv:Value}{x:List UInt8}(hx:eM A cv x):CZ ⟨M.cs++[cv],Sep [A,M.Z]⟩ (ls++[x]):=by
 obtain⟨h1,h2⟩:=h
 refine⟨by simp[h1],fun i y hy=>?_⟩
 simp only
 rw[List.getElem?_append]at hy ⊢
 rw[h1]
 split at hy
 ·rename_i de
  rw[if_pos de]
  obtain⟨cv',h3,h4⟩:=h2 i y hy
  exact⟨cv',h3,h4.mono (bg (i:=1) rfl)⟩
 ·rename_i fA
  rw[if_neg fA]
  have h0:i-ls.length=0:=by
   rcases Nat.eq_zero_or_pos (i-ls.length)with h|h
   ·exact h
   ·rw[List.getElem?_eq_none (by simp;omega)]at hy;cases hy
  rw[h0]at hy ⊢
  cases hy
  exact⟨cv,rfl,hx.mono (bg (i:=0) rfl)⟩
attribute [local irreducible] J K aE Ends ae aB aP bP bq aS aZ bu bX aC
def AV(d:Dg)(i:Nat)(hi:i≤1000000000000)(P:HP)(pv:Value)(l:List Dg)(hp:Vw P pv l.length (l.flatMap dC))(hl:l.length≤16) :
  aE Tryz.prog 49 [dV d,.int .i64 (i:Int),pv] [P] (fun r H=>H=[aB 5 1 r (bJ d i l).length (bV (bJ d i l)),P]):=by
 obtain⟨a,c,rfl⟩:=hp.shape
 have hlen:=ku i hi l
 unfold dV
 refine aE.ao Tryz.func49 Tryz.ntmps49 fun G F R hE=>?_
 refine aD rfl ?_
 refine bG zr zr bD ?_
 intro b3
 refine go ?_
 refine aH (mC i ag) ?_
 rintro r8 _ rfl
 refine aO 0 rfl ?_
 rintro a8 c8 rfl
 refine gQ (bs:=uv i) 0 rfl ?_
 intro Jq
 refine go ?_
 refine aj (cs:=[.slice a8 (uv i).length c8]) zr zr zr zr zr zr zr zr zr bD ?_
 intro row
 refine go ?_
 refine ai (H':=ae row (cl [.slice a8 (uv i).length c8] 22)::aB 5 1 (.slice a8 (uv i).length c8) (uv i).length (bV (uv i))::ae b3 (cl (dC d) 35)::P::F) ah ?_
 refine ai (eJ 22 1 row 1 1 [.slice a8 (uv i).length c8] [] _ rfl (Nat.le_refl _) (by simp)) ?_
 refine bB (fun y:Nat × Zr × Option Addr × Nat=>y.1≤l.length∧CZ y.2.1 (eB i (l.take y.1))) (fun y=>l.length-y.1)
  (fun y=>[(3,ptr b3),(7,.slice y.2.2.1 (y.1+1) y.2.2.2),(14,.slice a l.length c),(15,.int .i64 (l.length:Int)),(16,.int .i64 (y.1:Int))])
  (fun y=>aB 22 1 (.slice y.2.2.1 (y.1+1) y.2.2.2) (y.1+1) y.2.1.cs::y.2.1.Z::ae b3 (cl (dC d) 35)::P::F) (0,⟨[.slice a8 (uv i).length c8],aB 5 1 (.slice a8 (uv i).length c8) (uv i).length (bV (uv i))⟩,some ⟨row,0,none⟩,1) ⟨Nat.zero_le _,?_⟩ rfl cg ah ?_
 ·refine⟨rfl,fun j x hx=>?_⟩
  match j,hx with
  | 0,hx=>cases hx;exact⟨_,rfl,Jq⟩
  | j+1,hx=>simp[eB]at hx
 rintro⟨j,M,ma,mc⟩⟨hj,hM⟩ ih
 simp only at hj hM
 dsimp only
 refine go ?_
 refine aq zr zr ?_ ?_
 ·intro de
  have rf:j<l.length:=by omega
  obtain⟨x,hx⟩:∃x,l[j]?=some x:=⟨l[j],by simp⟩
  have j8:=Eb i hx
  have Bb:=hM.1
  have aez:(eB i (l.take j)).length=j+1:=by simp[eB];omega
  obtain⟨bb,oo,cc,he⟩:=hp.some (by intro h;have:=congrArg List.length h;rw[cI dk]at this;simp at this;omega)
  simp only[Value.slice.injEq,true_and]at he
  obtain⟨rfl,rfl⟩:=he
  refine go ?_
  refine cL j 32 zr zr zr zr zr zr zr zr rf ?_
  refine aK ?_
  refine dm (U:=aQ) (es:=dC x) 3 (j*32) zr zr zr hp rfl (fun q v hq=>?_) zr zr zr ?_
  ·rw[cR dk hx q (by rcases Nat.lt_or_ge q 32 with h|h;exact h;rw[List.getElem?_eq_none (by rw[dk];exact h)]at hq;cases hq)];exact hq
  refine az zr zr zr bD ?_
  intro b9
  refine go ?_
  refine iP (U:=aQ) zr zr zr zr zr ?_
  have wL:eM (ae b9 (cl (dC x) 35)) (.slice (some ⟨b9,0,none⟩) 32 32) x.bs:=eM.block x.len (dG x)
  have lA:=lk (ae b9 (cl (dC x) 35)) (.slice (some ⟨b9,0,none⟩) x.bs.length 32) x.bs (by have:=wL.1;rw[x.len]at this ⊢;exact this) (by rw[x.len];omega)
  rw[x.len]at lA
  refine aH lA ?_
  rintro r9 _ rfl
  rw[← x.len]
  refine aO 0 rfl ?_
  rintro a9 c9 rfl
  refine gQ (bs:=x.bs) 0 rfl ?_
  intro Yc
  refine go ?_
  refine aj (cs:=[.slice a9 x.bs.length c9]) zr zr zr zr zr zr zr zr zr bD ?_
  intro QX
  refine go ?_
  refine aR (mm:=1) (news:=[.slice a9 x.bs.length c9]) 3 0 rfl rfl rfl rfl rfl rfl rfl rfl rfl rfl rfl rfl (Vw.ae rfl) rfl (by intro v hv;simp at hv;rw[hv];rfl) ag (by show(_+_)*24≤_;omega) (fun _=>rfl) bD ?_
  intro v1
  refine aO 3 rfl ?_
  rintro ja jc rfl
  refine go ?_
  refine ai (H':=aB 5 1 (.slice a9 x.bs.length c9) x.bs.length (bV x.bs)::M.Z::aB 22 1 (.slice ja (j+1+1) jc) (j+1+1) (M.cs++[.slice a9 x.bs.length c9])::ae b3 (cl (dC d) 35)::P::F) ah ?_
  refine ai (al.bS [aB 5 1 (.slice a9 x.bs.length c9) x.bs.length (bV x.bs),M.Z] _) ?_
  have yW:=hM.add Yc
  rw[← j8]at yW
  refine aM ih (j+1,⟨M.cs++[.slice a9 x.bs.length c9],Sep [aB 5 1 (.slice a9 x.bs.length c9) x.bs.length (bV x.bs),M.Z]⟩,ja,jc) rfl ⟨by simp only;omega,yW⟩ (by simp only;omega) cg ah
 ·intro fA
  have OX:j=l.length:=by omega
  subst OX
  rw[List.take_length]at hM
  clear ih
  have Bb:(eB i l).length=l.length+1:=by simp[eB]
  refine mH 0 rfl ?_
  intro jz
  refine dy 0 rfl ?_
  intro Oy
  have mR:sj (Sep [aB 22 1 (.slice ma (l.length+1) mc) (l.length+1) M.cs,M.Z]) (.slice ma (l.length+1) mc) (eB i l):=by
   rw[← Bb]at Oy jz ⊢
   exact sj.ofP Oy jz hM.1 hM.2
  have OF:=sE 2 d _ _ (eB i l) mR ag hlen
  unfold dV at OF
  refine ai (al.bS [aB 22 1 (.slice ma (l.length+1) mc) (l.length+1) M.cs,M.Z] _) (go ?_)
  refine aG (U:=aQ) (l:=dC d) 1 zr zr zr zr zr zr ?_
  ((refine go ?_;(refine aH OF ?_)))
  rintro rr _ rfl
  refine go ?_
  refine aL hE Tryz.func49 rfl _ zr zr ah
end Go.Proofs.YtedjnjkijiddlaaGreatDoor
namespace Go.Proofs.YtedjnjkijiddlaaGreatDoor
open Go Go.SL
def Mz(q:Int)(x:Bl)(ts:List Tk)(s:SJ)(br:Bool)(e:Nat)(ed:List Tk)(jB:Bool)(t:SJ):Prop :=
 (br=true∧e=10∧ed=ts∧jB=br∧t=s)∨(br=false∧(ts.any fun y=>decide (y.x.d=x.d))=true∧e=5∧ed=ts∧jB=br∧t=s) ∨
 (br=false∧(ts.any fun y=>decide (y.x.d=x.d))=false∧jB=gZ e∧iZ (fO (dS q x)::kW (bU x)) s e t∧((e≠0∧ed=ts)∨(e=0∧∃y:Tk,y.c=cW x∧ed=ts++[y])))
attribute [local irreducible] J K aE Ends ae aB aP bP bq aS aZ bu bX aC
def Fp(tb bs jb bd b2 b3:Nat)(q:Int)(hq:0≤q∧q≤1073741824)(mb:Nat)(tv:Value)(s:SJ)(x:Bl)(A B C:HP)(O6:pI s.1.bt)(cK:s.1.A.aw.length≤900000000)(fb:s.1.A.writes.length≤900000000) :
  aE Tryz.prog 34 [ptr b2,ptr b3] [jq tb bs jb tv false,cG bs bd jb q mb (A::B::C::[ae b2 (cl [ptr tb] 30),ae b3 (cl (bH x) 37)]) s]
  (fun r H=>∃(e:Nat) (t:SJ),r = .int .i64 (e:Int)∧H=[jq tb bs jb tv false,cG bs bd jb q mb (A::B::C::[ae b2 (cl [ptr tb] 30),ae b3 (cl (bH x) 37)]) t]∧fO (dS q x) s e t):=by
 have c0:=aE.frame ([rU jb bd db s.2]++[A,B,C]) (Fo tb bs jb bd b2 b3 q hq mb tv s.1 x O6 cK fb)
 refine c0.conv ?_ ?_
 ·unfold cG cH
  exact(al.cons _ (uP _)).trans ah
 ·rintro v H⟨H',⟨e,t,rfl,rfl,hC⟩,rfl⟩
  refine⟨[jq tb bs jb tv false,cG bs bd jb q mb _ (t,s.2)],⟨e,_,rfl,rfl,hC,rfl⟩,?_⟩
  unfold cG cH
  exact al.trans ah (al.cons _ (u0 _))
def Nl(tb bs jb bd:Nat)(tv:Value)(q:Int)(mb:Nat)(s:SJ)(g:FuncId)(cap:List Value)(c2 c3:Nat)(Z:HP)(Ys:List HP)(S:SJ→Nat→SJ→Prop)(a:Option Addr)(c:Nat)(b:List UInt8)(hb:eM Z (.slice a b.length c) b)(hl:b.length≤1000000)(m:Nat)(hm:m≤800000000)(hx:∀t,S s 0 t→SQ m 0 t)(hc:aE Tryz.prog g cap [jq tb bs jb tv false,cG bs bd jb q mb (ae c2 (cl [ptr tb] 30)::ae c3 (cl [.slice a b.length c] 22)::Z::Ys) s] (fun r H=>∃(e:Nat) (t:SJ),r = .int .i64 (e:Int)∧H=[jq tb bs jb tv false,cG bs bd jb q mb (ae c2 (cl [ptr tb] 30)::ae c3 (cl [.slice a b.length c] 22)::Z::Ys) t]∧S s e t))(V:HP)(v:Value)(hv:Vw V v 3 (.func (.func g) #[] cap.toArray::iv c2 c3 jb)) :
  aE Tryz.prog 38 [ptr tb,v] [V,jq tb bs jb tv false,cG bs bd jb q mb (ae c2 (cl [ptr tb] 30)::ae c3 (cl [.slice a b.length c] 22)::Z::Ys) s]
  (fun r H=>∃(e:Nat) (t:SJ),r = .int .i64 (e:Int)∧H=[V,jq tb bs jb tv (gZ e),cG bs bd jb q mb (ae c2 (cl [ptr tb] 30)::ae c3 (cl [.slice a b.length c] 22)::Z::Ys) t]∧iZ (S::kW b) s e t):=by
 refine qP (cG bs bd jb q mb _) tb bs jb tv V v (.func (.func g) #[] cap.toArray::iv c2 c3 jb) hv (by simp[iv]) (S::kW b) rfl (fun i y=>(i=0→y=s)∧(i=1→SQ m 0 y)∧(i=2→SQ m 1 y)) ?_ s ⟨fun _=>rfl,fun h=>by omega,fun h=>by omega⟩
 intro i fv S' mS hs
 match i,mS,hs with
 | 0,mS,hs =>
  cases mS
  cases hs
  refine⟨_,_,_,rfl,fun y hy=>?_⟩
  have:=hy.1 rfl
  subst this
  refine aE.post hc ?_
  rintro v H⟨e,t,rfl,rfl,hS⟩
  exact⟨e,t,rfl,rfl,hS,fun h0=>⟨fun h=>absurd h ag,fun _=>hx t (by rw[← h0];exact hS),fun h=>absurd h ag⟩⟩
 | 1,mS,hs =>
  cases mS
  cases hs
  refine⟨_,_,_,rfl,fun y hy=>?_⟩
  obtain⟨a1,⟨a2,a3⟩,a4,a5⟩:=hy.2.1 rfl
  refine aE.post (u6 tb bs jb bd c2 c3 tv q mb y Z Ys a c b hb hl ⟨a2,ag⟩ ag) ?_
  rintro v H⟨e,x',rfl,rfl,hS⟩
  exact⟨e,x',rfl,rfl,hS,fun _=>⟨fun h=>absurd h ag,fun h=>absurd h ag,fun _=>SQ.append ⟨a1,⟨a2,a3⟩,a4,a5⟩ hS⟩⟩
 | 2,mS,hs =>
  cases mS
  cases hs
  refine⟨_,_,_,rfl,fun y hy=>?_⟩
  obtain⟨a1,⟨a2,a3⟩,a4,a5⟩:=hy.2.2 rfl
  refine aE.post (qx tb bs jb bd tv q mb y _ a1 ⟨a2,ag⟩ ag ag) ?_
  rintro v H⟨e,x',rfl,rfl,hS⟩
  exact⟨e,x',rfl,rfl,hS,fun _=>⟨fun h=>absurd h ag,fun h=>absurd h ag,fun h=>absurd h ag⟩⟩
 | n+3,mS,hs=>cases hs
def zS(tb bs jb bd:Nat)(tv:Value)(q:Int)(hq:0≤q∧q≤1073741824)(mb:Nat)(ts:List Tk)(br:Bool)(s:SJ)(x:Bl)(hl:ts.length≤1000000)(hs:0≤x.size∧x.size≤1000000000000)(hp:0≤x.piece∧x.piece≤1000000000000)(O6:pI s.1.bt)(cK:s.1.A.aw.length≤900000000)(fb:s.1.A.writes.length≤900000000)(m:Nat)(hm:m≤800000000)(hx:∀t,fO (dS q x) s 0 t→SQ m 0 t) :
  aE Tryz.prog 10 [ptr tb,eL x] (eh tb bs jb tv ts br++[cG bs bd jb q mb [] s])
  (fun r H=>∃(e:Nat) (ed:List Tk) (rN:Value) (jB:Bool) (t:SJ),r = .int .i64 (e:Int)∧H=eh tb bs jb rN ed jB++[cG bs bd jb q mb [] t]∧Mz q x ts s br e ed jB t):=by
 have uI:=sh x hs hp
 have iC:(bU x).length≤1000000:=by
  have:=g9 1 x.d (gY x) (by simp[gY]) (kG x hs.2 hp.2)
  unfold bU;omega
 have Td:=fun a n c=>u5 tb bs jb tv a n c
 have xg:=Bo x
 unfold jq at Td
 unfold eh
 unfold eL at uI xg ⊢
 refine aE.ao Tryz.func10 Tryz.ntmps10 fun G F R hE=>?_
 refine aD rfl ?_
 refine bG zr zr bD ?_
 intro b2
 refine bG zr zr bD ?_
 intro b3
 cases br with
 | true =>
  refine go ?_
  refine ai (H':=ae tb (cl [ptr bs,ptr jb,tv,.bool true] 88)::aB 90 1 tv ts.length (ts.map cB)::aW ts::cG bs bd jb q mb [] s::F) ah ?_
  refine ad hE Tryz.func10 zr zr ⟨10,ts,tv,true,s,rfl,rfl,.inl ⟨rfl,rfl,rfl,rfl,rfl⟩⟩
 | false =>
 refine go ?_
 refine aO 3 rfl ?_
 rintro a c rfl
 refine aI (H':=aB 90 1 (.slice a ts.length c) ts.length (ts.map cB)::ae tb (cl [ptr bs,ptr jb,.slice a ts.length c,.bool false] 88)::aW ts::cG bs bd jb q mb [] s::ae b2 (cl [ptr tb] 30)::ae b3 (cl (bH x) 37)::F) ah ?_
 refine iy 0 rfl ?_
 intro dE
 refine aI (H':=aW ts::ae b3 (cl (bH x) 37)::aB 90 1 (.slice a ts.length c) ts.length (ts.map cB)::ae tb (cl [ptr bs,ptr jb,.slice a ts.length c,.bool false] 88)::cG bs bd jb q mb [] s::ae b2 (cl [ptr tb] 30)::F) ah ?_
 refine aI (al.bS [aW ts,ae b3 (cl (bH x) 37)] _) ?_
 refine aJ (wQ (aB 90 1 (.slice a ts.length c) ts.length (ts.map cB)) (Sep [aW ts,ae b3 (cl (bH x) 37)]) _ ts dE hl 33 [ptr b3] (fun y=>decide (y.x.d=x.d)) (fun y hy=>Fq ts x b3 y hy)) ?_
 refine aI (H':=Sep [aW ts,ae b3 (cl (bH x) 37)]::aB 90 1 (.slice a ts.length c) ts.length (ts.map cB)::ae tb (cl [ptr bs,ptr jb,.slice a ts.length c,.bool false] 88)::cG bs bd jb q mb [] s::ae b2 (cl [ptr tb] 30)::F) ah ?_
 refine aI (al.cD [aW ts,ae b3 (cl (bH x) 37)] _) ?_
 cases ml:ts.any (fun y=>decide (y.x.d=x.d))with
 | true =>
  refine go ?_
  refine ai (H':=ae tb (cl [ptr bs,ptr jb,.slice a ts.length c,.bool false] 88)::aB 90 1 (.slice a ts.length c) ts.length (ts.map cB)::aW ts::cG bs bd jb q mb [] s::F) ah ?_
  refine ad hE Tryz.func10 zr zr ⟨5,ts,_,false,s,rfl,rfl,.inr (.inl ⟨rfl,ml,rfl,rfl,rfl,rfl⟩)⟩
 | false =>
 refine go ?_
 refine ai (H':=ae tb (cl [ptr bs,ptr jb,.slice a ts.length c,.bool false] 88)::aB 90 1 (.slice a ts.length c) ts.length (ts.map cB)::aW ts::cG bs bd jb q mb [] s::ae b2 (cl [ptr tb] 30)::ae b3 (cl (bH x) 37)::F) ah ?_
 refine fL rfl ?_
 refine sl 1 (fun y:(Option Addr × Nat) × (Option Addr × Nat) × Nat × Nat=>True) (fun y=>[(2,ptr b2),(3,ptr b3),(5,.slice y.1.1 3 y.1.2)]) (fun y=>aB 96 1 (.slice y.1.1 3 y.1.2) 3 ([.func (.func 34) #[] #[ptr b2,ptr b3] ]++iv y.2.2.1 y.2.2.2 jb)::aB 5 1 (.slice y.2.1.1 (bU x).length y.2.1.2) (bU x).length (bV (bU x))::ae y.2.2.1 (cl [ptr tb] 30)::ae y.2.2.2 (cl [.slice y.2.1.1 (bU x).length y.2.1.2] 22)::ae tb (cl [ptr bs,ptr jb,.slice a ts.length c,.bool false] 88)::aB 90 1 (.slice a ts.length c) ts.length (ts.map cB)::aW ts::cG bs bd jb q mb [] s::ae b2 (cl [ptr tb] 30)::ae b3 (cl (bH x) 37)::F) rfl ?_ ?_
 rotate_left
 ·intro tail
  refine aF (fun w=>Sat G w ([ae b2 (cl [ptr tb] 30),ae b3 (cl (bH x) 37)])) (.st 0 (.st 2 (.st 3 (.fork (.act 1 (.act 4 (.act 5 (.act 6 (.st 7 .nil))))) (.act 4 (.fork (.act 1 (.act 5 (.act 6 (.st 7 .nil)))) (.act 5 (.act 1 (.act 6 (.st 7 .nil)))))))))) rfl ak ak ak dT ?_
  refine go ?_
  refine bQ (U:=aQ) (l:=bH x) 1 zr zr zr zr zr zr ?_
  repeat'(first|refine qL ?_ ?_|(refine aj (cs:=[.func (.func 34) #[] #[ptr b2,ptr b3] ]) zr zr zr zr zr zr zr zr zr (fun _ w hw=>by exact hw.cV ah) ?_;intro r0)|(((refine cN uI ?_));rintro _ _ rfl;((refine aO 0 rfl ?_));rintro a8 c8 rfl)|(((refine cN (Td a8 (bU x).length c8) ?_));rintro _ _⟨c2,c3,row,rfl,rfl⟩)|fail)
  all_goals(
   refine aI (H':=ae r0 (cl [.func (.func 34) #[] #[ptr b2,ptr b3] ] 96)::ae row (cl (iv c2 c3 jb) 96)::aB 5 1 (.slice a8 (bU x).length c8) (bU x).length (bV (bU x))::ae c2 (cl [ptr tb] 30)::ae c3 (cl [.slice a8 (bU x).length c8] 22)::ae tb (cl [ptr bs,ptr jb,.slice a ts.length c,.bool false] 88)::aB 90 1 (.slice a ts.length c) ts.length (ts.map cB)::aW ts::cG bs bd jb q mb [] s::ae b2 (cl [ptr tb] 30)::ae b3 (cl (bH x) 37)::F) ah ?_
   refine aI (eJ 96 1 r0 1 1 [.func (.func 34) #[] #[ptr b2,ptr b3] ] [] _ rfl (Nat.le_refl _) (by simp)) ?_
   refine aR (mm:=2) (news:=iv c2 c3 jb) 0 1 rfl rfl rfl rfl rfl rfl rfl rfl rfl rfl rfl rfl (Vw.ae rfl) rfl (by intro v hv;simp[iv]at hv;rcases hv with rfl|rfl <;> rfl) ag (by show(_+_)*8≤_;omega) (fun _=>rfl) (fun _ w hw=>by exact hw.cV ah) ?_
   intro v1
   refine aO 0 rfl ?_
   rintro ja jc rfl
   refine ld ?_
   refine lh tail ((ja,jc),(a8,c8),c2,c3) rfl trivial cg ah)
 rintro⟨⟨ja,jc⟩,⟨a8,c8⟩,c2,c3⟩ -
 simp only
 refine dy 0 rfl ?_
 intro o4
 refine qE (bs:=bU x) 1 rfl ?_
 intro Jq
 have jy:=Nl tb bs jb bd (.slice a ts.length c) q mb s 34 [ptr b2,ptr b3] c2 c3 _ [ae b2 (cl [ptr tb] 30),ae b3 (cl (bH x) 37)] _ a8 c8 (bU x) Jq iC m hm hx (Fp tb bs jb bd b2 b3 q hq mb (.slice a ts.length c) s x _ _ _ O6 cK fb) _ _ o4
 unfold jq at jy
 refine ai (al.pick [8] rfl) (go ?_)
 refine aI (H':=cG bs bd jb q mb [] s::([ae c2 (cl [ptr tb] 30),ae c3 (cl [.slice a8 (bU x).length c8] 22),aB 5 1 (.slice a8 (bU x).length c8) (bU x).length (bV (bU x)),ae b2 (cl [ptr tb] 30),ae b3 (cl (bH x) 37)]++(aB 96 1 (.slice ja 3 jc) 3 ([.func (.func 34) #[] #[ptr b2,ptr b3] ]++iv c2 c3 jb)::ae tb (cl [ptr bs,ptr jb,.slice a ts.length c,.bool false] 88)::aB 90 1 (.slice a ts.length c) ts.length (ts.map cB)::aW ts::F))) ah ?_
 refine aI (CY bs bd jb q mb _ s _) ?_
 refine aH jy ?_
 rintro _ _⟨e,t,rfl,rfl,hR⟩
 refine aI (H':=cG bs bd jb q mb [ae c2 (cl [ptr tb] 30),ae c3 (cl [.slice a8 (bU x).length c8] 22),aB 5 1 (.slice a8 (bU x).length c8) (bU x).length (bV (bU x)),ae b2 (cl [ptr tb] 30),ae b3 (cl (bH x) 37)] t::ae tb (cl [ptr bs,ptr jb,.slice a ts.length c,.bool (gZ e)] 88)::aB 90 1 (.slice a ts.length c) ts.length (ts.map cB)::aW ts::F) ah ?_
 refine aI (xp bs bd jb q mb _ t _) ?_
 by_cases he:e=0
 ·subst he
  have hcy:=lS x
  refine aI (H':=aB 90 1 (.slice a ts.length c) ts.length (ts.map cB)::ae tb (cl [ptr bs,ptr jb,.slice a ts.length c,.bool (gZ 0)] 88)::ae b2 (cl [ptr tb] 30)::ae b3 (cl (bH x) 37)::aW ts::cG bs bd jb q mb [] t::F) ah (go ?_)
  refine aF (fun w=>Sat G w ([ae tb (cl [ptr bs,ptr jb,.slice a ts.length c,.bool (gZ 0)] 88),ae b2 (cl [ptr tb] 30),ae b3 (cl (bH x) 37)])) (cZ 0 6 (.act 6 (.act 7 (.act 8 (.st 9 (.st 10 (.act 11 .nil))))))) rfl ak ak ak dT ?_
  refine go ?_
  refine bQ (U:=aQ) (l:=bH x) 2 zr zr zr zr zr zr (go ?_)
  refine cN xg ?_
  rintro _ _⟨y,rfl,rfl,Rr,yF,hy3,hy4⟩
  refine go ?_
  refine aj (cs:=[ptr y.yb]) zr zr zr zr zr zr zr zr zr (fun _ w hw=>hw.cV ah) ?_
  intro r1
  refine go ?_
  refine aR (mm:=1) (news:=[ptr y.yb]) 2 0 rfl rfl rfl rfl rfl rfl rfl rfl rfl rfl rfl rfl (Vw.ae rfl) rfl (by intro v hv;simp at hv;rw[hv];rfl) ag (by show(_+_)*8≤_;omega) (fun _=>rfl) (fun _ w hw=>hw.cV ah) ?_
  intro v1
  refine aO 2 rfl ?_
  rintro ka kc rfl
  refine go ?_
  have QC:ts.map cB++[ptr y.yb]=(ts++[y]).map cB:=by simp[cB]
  have Bb:ts.length+1=(ts++[y]).length:=by simp
  have qm:=uR ts [] y
  rw[List.append_nil]at qm
  rw[QC,Bb]
  refine ai (H':=oD y::aW ts::ae tb (cl [ptr bs,ptr jb,.slice ka (ts++[y]).length kc,.bool (gZ 0)] 88)::aB 90 1 (.slice ka (ts++[y]).length kc) (ts++[y]).length ((ts++[y]).map cB)::cG bs bd jb q mb [] t::F) ah ?_
  refine ai (qm _) ?_
  have Ja:y.c=cW x:=by
   unfold Tk.c cW
   rw[Rr,hy3,hy4,← yF,Int.toNat_natCast]
  refine ad hE Tryz.func10 zr zr ⟨0,ts++[y],_,gZ 0,t,rfl,rfl,.inr (.inr ⟨rfl,ml,rfl,hR,.inr ⟨rfl,y,Ja,rfl⟩⟩)⟩
 ·refine aI (H':=ae tb (cl [ptr bs,ptr jb,.slice a ts.length c,.bool (gZ e)] 88)::aB 90 1 (.slice a ts.length c) ts.length (ts.map cB)::aW ts::cG bs bd jb q mb [] t::F) ah (go ?_)
  refine aq zr zr ?_ ?_
  ·intro _
   refine go ?_
   refine ad hE Tryz.func10 zr zr ⟨e,ts,_,gZ e,t,rfl,rfl,.inr (.inr ⟨rfl,ml,rfl,hR,.inl ⟨he,rfl⟩⟩)⟩
  ·intro h;exfalso;omega
end Go.Proofs.YtedjnjkijiddlaaGreatDoor
namespace Go.Proofs.YtedjnjkijiddlaaGreatDoor
open Go Go.SL
def Ii(x:Bl)(i:Int)(b:List UInt8)(p:List Dg)(ts:List Tk)(s:SJ)(br:Bool)(e:Nat)(ed:List Tk)(jB:Bool)(t:SJ):Prop :=
 (br=true∧e=10∧ed=ts∧jB=br∧t=s)∨(br=false∧hD ts x=none∧e=4∧ed=ts∧jB=br∧t=s) ∨
 (br=false∧∃(k:Nat) (y:Tk),hD ts x=some y∧ts[k]?=some y∧y.x=x∧(((i<0∨(y.n:Int)≤i)∧e=1∧ed=ts∧jB=br∧t=s)∨((0≤i∧i<y.n)∧cy y.ws y.n i=true∧e=0∧ed=ts∧jB=br∧t=s) ∨
  ((0≤i∧i<y.n)∧cy y.ws y.n i=false∧cd x i b p=false∧e=8∧ed=ts∧jB=br∧t=s) ∨
  ((0≤i∧i<y.n)∧cy y.ws y.n i=false∧cd x i b p=true∧jB=gZ e∧iZ (fO (mU x i b)::fO (ko x)::kW (bJ x.d i.toNat p)) s e t∧((e≠0∧ed=ts)∨(e=0∧ed=ts.set k (y.put i.toNat p))))))
attribute [local irreducible] J K aE Ends ae aB aP bP bq aS aZ bu bX aC
def Ky(X:HP)(tb bs jb bd b2 b3 b4 b5:Nat)(q:Int)(mb:Nat)(tv:Value)(s:SJ)(x:Bl)(i:Int)(a:Option Addr)(c:Nat)(b:List UInt8)(A B C:HP)(hv:Vw X (.slice a b.length c) b.length (bV b))(iC:b.length≤1000000000)(hi : -9223372036854775808≤i∧i≤9223372036854775807)(cK:s.1.A.aw.length≤900000000)(fb:s.1.A.writes.length≤900000000) :
  aE Tryz.prog 45 [ptr b2,ptr b3,ptr b4,ptr b5] [jq tb bs jb tv false,cG bs bd jb q mb (A::B::C::[X,ae b2 (cl [ptr tb] 30),ae b3 (cl (bH x) 37),ae b4 (cl [.int .i64 i] 3),ae b5 (cl [.slice a b.length c] 22)]) s]
  (fun r H=>∃(e:Nat) (t:SJ),r = .int .i64 (e:Int)∧H=[jq tb bs jb tv false,cG bs bd jb q mb (A::B::C::[X,ae b2 (cl [ptr tb] 30),ae b3 (cl (bH x) 37),ae b4 (cl [.int .i64 i] 3),ae b5 (cl [.slice a b.length c] 22)]) t]∧fO (mU x i b) s e t):=by
 have c0:=aE.frame ([rU jb bd db s.2]++[A,B,C]) (Kz X tb bs jb bd b2 b3 b4 b5 q mb tv s.1 x i a c b hv iC hi cK fb)
 refine c0.conv ?_ ?_
 ·unfold cG cH
  exact(al.cons _ (uP _)).trans ah
 ·rintro v H⟨H',⟨e,t,rfl,rfl,hC⟩,rfl⟩
  refine⟨[jq tb bs jb tv false,cG bs bd jb q mb _ (t,s.2)],⟨e,_,rfl,rfl,hC,rfl⟩,?_⟩
  unfold cG cH
  exact al.trans ah (al.cons _ (u0 _))
def Kw(tb bs jb bd b2 b3:Nat)(q:Int)(mb:Nat)(tv:Value)(s:SJ)(x:Bl)(A B C X D E:HP)(cK:s.1.A.aw.length≤900000000)(fb:s.1.A.writes.length≤900000000) :
  aE Tryz.prog 47 [ptr b2,ptr b3] [jq tb bs jb tv false,cG bs bd jb q mb (A::B::C::[X,ae b2 (cl [ptr tb] 30),ae b3 (cl (bH x) 37),D,E]) s]
  (fun r H=>∃(e:Nat) (t:SJ),r = .int .i64 (e:Int)∧H=[jq tb bs jb tv false,cG bs bd jb q mb (A::B::C::[X,ae b2 (cl [ptr tb] 30),ae b3 (cl (bH x) 37),D,E]) t]∧fO (ko x) s e t):=by
 have c0:=aE.frame ([rU jb bd db s.2]++[A,B,C,X,D,E]) (Kx tb bs jb bd b2 b3 q mb tv s.1 x cK fb)
 refine c0.conv ?_ ?_
 ·unfold cG cH
  exact(al.cons _ (uP _)).trans ah
 ·rintro v H⟨H',⟨e,t,rfl,rfl,hC⟩,rfl⟩
  refine⟨[jq tb bs jb tv false,cG bs bd jb q mb _ (t,s.2)],⟨e,_,rfl,rfl,hC,rfl⟩,?_⟩
  unfold cG cH
  exact al.trans ah (al.cons _ (u0 _))
def Nk(tb bs jb bd:Nat)(tv:Value)(q:Int)(mb:Nat)(s:SJ)(g1 g2:FuncId)(Yv ny:List Value)(c2 c3:Nat)(Z:HP)(Ys:List HP)(S1 S2:SJ→Nat→SJ→Prop)(a:Option Addr)(c:Nat)(b:List UInt8)(hb:eM Z (.slice a b.length c) b)(hl:b.length≤1000000)(m:Nat)(hm:m≤800000000)(hx:∀t u,S1 s 0 t→S2 t 0 u→SQ m 0 u)(Bj:aE Tryz.prog g1 Yv [jq tb bs jb tv false,cG bs bd jb q mb (ae c2 (cl [ptr tb] 30)::ae c3 (cl [.slice a b.length c] 22)::Z::Ys) s] (fun r H=>∃(e:Nat) (t:SJ),r = .int .i64 (e:Int)∧H=[jq tb bs jb tv false,cG bs bd jb q mb (ae c2 (cl [ptr tb] 30)::ae c3 (cl [.slice a b.length c] 22)::Z::Ys) t]∧S1 s e t))(mT:∀u,S1 s 0 u→aE Tryz.prog g2 ny [jq tb bs jb tv false,cG bs bd jb q mb (ae c2 (cl [ptr tb] 30)::ae c3 (cl [.slice a b.length c] 22)::Z::Ys) u] (fun r H=>∃(e:Nat) (t:SJ),r = .int .i64 (e:Int)∧H=[jq tb bs jb tv false,cG bs bd jb q mb (ae c2 (cl [ptr tb] 30)::ae c3 (cl [.slice a b.length c] 22)::Z::Ys) t]∧S2 u e t))(V:HP)(v:Value)(hv:Vw V v 4 (.func (.func g1) #[] Yv.toArray :: .func (.func g2) #[] ny.toArray::iv c2 c3 jb)) :
  aE Tryz.prog 38 [ptr tb,v] [V,jq tb bs jb tv false,cG bs bd jb q mb (ae c2 (cl [ptr tb] 30)::ae c3 (cl [.slice a b.length c] 22)::Z::Ys) s]
  (fun r H=>∃(e:Nat) (t:SJ),r = .int .i64 (e:Int)∧H=[V,jq tb bs jb tv (gZ e),cG bs bd jb q mb (ae c2 (cl [ptr tb] 30)::ae c3 (cl [.slice a b.length c] 22)::Z::Ys) t]∧iZ (S1::S2::kW b) s e t):=by
 refine qP (cG bs bd jb q mb _) tb bs jb tv V v (.func (.func g1) #[] Yv.toArray :: .func (.func g2) #[] ny.toArray::iv c2 c3 jb) hv (by simp[iv]) (S1::S2::kW b) rfl (fun i y=>(i=0→y=s)∧(i=1→S1 s 0 y)∧(i=2→SQ m 0 y)∧(i=3→SQ m 1 y)) ?_ s ⟨fun _=>rfl,fun h=>by omega,fun h=>by omega,fun h=>by omega⟩
 intro i fv S' mS hs
 match i,mS,hs with
 | 0,mS,hs =>
  cases mS
  cases hs
  refine⟨_,_,_,rfl,fun y hy=>?_⟩
  have:=hy.1 rfl
  subst this
  refine aE.post Bj ?_
  rintro v H⟨e,t,rfl,rfl,hS⟩
  exact⟨e,t,rfl,rfl,hS,fun h0=>⟨fun h=>absurd h ag,fun _=>by rw[← h0];exact hS,fun h=>absurd h ag,fun h=>absurd h ag⟩⟩
 | 1,mS,hs =>
  cases mS
  cases hs
  refine⟨_,_,_,rfl,fun y hy=>?_⟩
  have h1:=hy.2.1 rfl
  refine aE.post (mT y h1) ?_
  rintro v H⟨e,t,rfl,rfl,hS⟩
  exact⟨e,t,rfl,rfl,hS,fun h0=>⟨fun h=>absurd h ag,fun h=>absurd h ag,fun _=>hx y t h1 (by rw[← h0];exact hS),fun h=>absurd h ag⟩⟩
 | 2,mS,hs =>
  cases mS
  cases hs
  refine⟨_,_,_,rfl,fun y hy=>?_⟩
  obtain⟨a1,⟨a2,a3⟩,a4,a5⟩:=hy.2.2.1 rfl
  refine aE.post (u6 tb bs jb bd c2 c3 tv q mb y Z Ys a c b hb hl ⟨a2,ag⟩ ag) ?_
  rintro v H⟨e,x',rfl,rfl,hS⟩
  exact⟨e,x',rfl,rfl,hS,fun _=>⟨fun h=>absurd h ag,fun h=>absurd h ag,fun h=>absurd h ag,fun _=>SQ.append ⟨a1,⟨a2,a3⟩,a4,a5⟩ hS⟩⟩
 | 3,mS,hs =>
  cases mS
  cases hs
  refine⟨_,_,_,rfl,fun y hy=>?_⟩
  obtain⟨a1,⟨a2,a3⟩,a4,a5⟩:=hy.2.2.2 rfl
  refine aE.post (qx tb bs jb bd tv q mb y _ a1 ⟨a2,ag⟩ ag ag) ?_
  rintro v H⟨e,x',rfl,rfl,hS⟩
  exact⟨e,x',rfl,rfl,hS,fun _=>⟨fun h=>absurd h ag,fun h=>absurd h ag,fun h=>absurd h ag,fun h=>absurd h ag⟩⟩
 | n+4,mS,hs=>cases hs
end Go.Proofs.YtedjnjkijiddlaaGreatDoor
