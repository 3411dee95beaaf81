/- Texts of one claim, joined: Yg, Yh, Yi, Yj, Yk, Yl, Ym, Yn. -/
import Derived.Test.YthjbidjmgbjkiaaGreatDoorQPH12
set_option linter.unusedSimpArgs false
set_option linter.unusedVariables false
namespace Go.Proofs.YthjbidjmgbjkiaaGreatDoor
open Go Go.SL
theorem List.kV{α:Type}{l:List α}{i:Nat}{x:α}(h:l[i]?=some x):l.set i x=l:=by
 refine List.ext_getElem? fun j=>?_
 by_cases hj:j=i
 ·subst hj
  rw[List.getElem?_set_self (List.getElem?_eq_some_iff.1 h).1,h]
 ·rw[List.getElem?_set_ne (fun e=>hj e.symm)]
attribute [local irreducible] J K aD Ends ag az aL bK aZ aQ aV bg bQ aC bS
set_option maxRecDepth 20000 in
set_option maxHeartbeats 4000000 in
theorem CO(X:HP)(hK:mX X)(tb bs jb bd:Nat)(tv:Value)(q:Int)(mb:Nat)(ts:List Tk)(br:Bool)(s:SJ)(x:Bl)(i:Int)(hi : -9223372036854775808≤i∧i≤9223372036854775807)(bv:Value)(b:List UInt8)(hb:dR X bv b)(jV:b.length≤900000000)(pv:Value)(p:List Dg)(hp:Fg X pv p)(hl:ts.length≤1000000)(hn:∀y∈ts,y.n≤65536)(hw:∀y∈ts,y.n≤y.ws.length*64)(cE:s.1.A.aH.length≤800000000)(eA:s.1.A.writes.length≤800000000)(m:Nat)(hm:m≤800000000)(hx:∀t u,cX (lJ x i b) s 0 t→cX (kh x) t 0 u→SQ m 0 u) :
  aD Tryz.prog 10 [ptr tb,dQ x,.int .i64 i,bv,pv] (dg tb bs jb tv ts br++[bS bs bd jb q mb [] s,X])
  (fun r H=>∃(e:Nat) (gW:List Tk) (lA:Bool) (t:SJ),r = .int .i64 (e:Int)∧H=dg tb bs jb tv gW lA++[bS bs bd jb q mb [] t,X]∧Oi x i b p ts s br e gW lA t):=by
 have hf:=kJ tb bs jb tv br ts x hl
 have qa:=vH X hK x i bv b hb jV pv p hp
 have OQ:=fun a n c=>sX tb bs jb tv a n c
 have XD:=hb.1
 have Uq:=hp.1
 obtain⟨ba,bc,rfl,MO⟩:=hb.2
 obtain⟨pa,pc,rfl,abm⟩:=hp.2
 unfold gC at OQ
 unfold dg dQ at hf
 unfold dQ at qa
 unfold dg dQ
 refine aD.enter Tryz.func10 ak rfl Tryz.ntmps10 zr zr ?_
 intro G F R hE
 refine aE rfl ?_
 refine bq zr zr bp ?_
 intro b2
 refine bq zr zr bp ?_
 intro b3
 refine bq zr zr bp ?_
 intro b4
 refine bq zr zr bp ?_
 intro b5
 cases br with
 | true =>
  refine aG (H':=ag tb (cl [ptr bs,ptr jb,tv,.bool true] 78)::az 80 1 tv ts.length (ts.map bP)::aP ts::bS bs bd jb q mb [] s::X::ag b2 (cl [ptr tb] 31)::F) ad ?_
  refine go ?_
  refine aj (H':=ag tb (cl [ptr bs,ptr jb,tv,.bool true] 78)::az 80 1 tv ts.length (ts.map bP)::aP ts::bS bs bd jb q mb [] s::X::F) ad ?_
  ((refine ae hE Tryz.func10 rfl _ rfl ⟨10,ts,true,s,rfl,rfl,.inl ⟨rfl,rfl,rfl,rfl,rfl⟩⟩ ad))
 | false =>
 refine aG (H':=ag b2 (cl [ptr tb] 31)::ag b3 (cl (bn x) 38)::ag tb (cl [ptr bs,ptr jb,tv,.bool false] 78)::az 80 1 tv ts.length (ts.map bP)::aP ts::bS bs bd jb q mb [] s::X::ag b4 (cl [.int .i64 i] 3)::ag b5 (cl [.slice ba b.length bc] 39)::F) ad ?_
 refine go ?_
 refine aI (U:=ao) (l:=bn x) 1 zr zr zr zr zr zr ?_
 ((refine ah zr zr zr zr (hf) ad ?_ bE))
 rintro _ _⟨rfl,rfl⟩
 cases l8:eS ts x with
 | none =>
  unfold GP
  refine go ?_
  refine aj (H':=ag tb (cl [ptr bs,ptr jb,tv,.bool false] 78)::az 80 1 tv ts.length (ts.map bP)::aP ts::bS bs bd jb q mb [] s::X::F) ad ?_
  ((refine ae hE Tryz.func10 rfl _ rfl ⟨4,ts,false,s,rfl,rfl,.inr (.inl ⟨rfl,l8,rfl,rfl,rfl,rfl⟩)⟩ ad))
 | some y =>
 obtain⟨k,hk,FW⟩:=gU l8
 have xF:y∈ts:=List.mem_of_getElem? hk
 have BV:=hn y xF
 have zQ:=hw y xF
 have pU:∀e gW lA t,(((i<0∨(y.n:Int)≤i)∧e=1∧gW=ts∧lA=false∧t=s)∨((0≤i∧i<y.n)∧fZ y.ws y.n i=true∧e=0∧gW=ts∧lA=false∧t=s) ∨
  ((0≤i∧i<y.n)∧fZ y.ws y.n i=false∧fW x i b p=false∧e=8∧gW=ts∧lA=false∧t=s) ∨
  ((0≤i∧i<y.n)∧fZ y.ws y.n i=false∧fW x i b p=true∧lA=eZ e∧gy (cX (lJ x i b)::cX (kh x)::iE (bH x.d i.toNat p)) s e t∧((e≠0∧gW=ts)∨(e=0∧gW=ts.set k (y.put i.toNat p)))))→Oi x i b p ts s false e gW lA t:=fun e gW lA t h => .inr (.inr ⟨rfl,k,y,l8,hk,FW,h⟩)
 unfold GP
 refine go ?_
 refine aj (H':=aP ts::ag tb (cl [ptr bs,ptr jb,tv,.bool false] 78)::az 80 1 tv ts.length (ts.map bP)::bS bs bd jb q mb [] s::X::ag b2 (cl [ptr tb] 31)::ag b3 (cl (bn x) 38)::ag b4 (cl [.int .i64 i] 3)::ag b5 (cl [.slice ba b.length bc] 39)::F) ad ?_
 refine aj (iM hk _) ?_
 refine dM (eG y) ?_
 rintro⟨wv,cs,M⟩ hz
 have gg:∀H,aq (ag y.yb (cl (iY y) 83)::ag y.sb (cl [.int .i64 (y.n:Int),wv] 101)::az 102 1 wv y.ws.length (qV y.ws)::aL (Value.int .i64) y.mb cs::aV 36 M::aP (ts.take k++ts.drop (k+1))::H) (aP ts::H):=fun H=>aq.trans (H2:=ki y (wv,cs,M)++(aP (ts.take k++ts.drop (k+1))::H)) (by unfold ki;exact ad) (aq.trans (gB hz _) (jE hk _))
 refine aj (H':=ag y.yb (cl (iY y) 83)::ag y.sb (cl [.int .i64 (y.n:Int),wv] 101)::az 102 1 wv y.ws.length (qV y.ws)::aL (Value.int .i64) y.mb cs::aV 36 M::aP (ts.take k++ts.drop (k+1))::ag tb (cl [ptr bs,ptr jb,tv,.bool false] 78)::az 80 1 tv ts.length (ts.map bP)::bS bs bd jb q mb [] s::X::ag b2 (cl [ptr tb] 31)::ag b3 (cl (bn x) 38)::ag b4 (cl [.int .i64 i] 3)::ag b5 (cl [.slice ba b.length bc] 39)::F) (by unfold ki;exact ad) ?_
 refine aF (fun w=>Sat G w ([ag y.yb (cl (iY y) 83),ag b4 (cl [.int .i64 i] 3)])) (.st 0 (.st 1 (.st 2 (.st 3 (.st 4 (.st 5 (.st 6 (.st 7 (.act 8 (.st 9 (.st 10 (.st 11 .nil)))))))))))) rfl ak ak ak (fun w hw=>hw.aX ad) ?_
 refine go ?_
 by_cases Jn:i<0
 ·((refine aB 27 ((.bool true)) rfl ((congrArg Value.bool (decide_eq_true Jn))) ?_))
  refine go ?_
  refine aj (gg _) ?_
  refine aj (H':=ag tb (cl [ptr bs,ptr jb,tv,.bool false] 78)::az 80 1 tv ts.length (ts.map bP)::aP ts::bS bs bd jb q mb [] s::X::F) ad ?_
  ((refine ae hE Tryz.func10 rfl _ rfl ⟨1,ts,false,s,rfl,rfl,pU _ _ _ _ (.inl ⟨.inl Jn,rfl,rfl,rfl,rfl⟩)⟩ ad))
 ((refine aB 27 ((.bool false)) rfl ((congrArg Value.bool (decide_eq_false Jn))) ?_))
 refine go ?_
 ((refine ah rfl rfl rfl rfl (ly y.sb y.n wv) ad ?_ (fun _ _ w hp hw=>by obtain⟨rfl,rfl⟩:=hp;exact hw.aX ad)))
 rintro _ _⟨rfl,rfl⟩
 refine go ?_
 by_cases qR:(y.n:Int)≤i
 ·((refine bj 24 ((.bool true)) rfl ((congrArg Value.bool (decide_eq_true qR))) ?_))
  refine go ?_
  refine aj (aq.trans ad (gg (ag tb (cl [ptr bs,ptr jb,tv,.bool false] 78)::az 80 1 tv ts.length (ts.map bP)::bS bs bd jb q mb [] s::X::F))) ?_
  refine aj (H':=ag tb (cl [ptr bs,ptr jb,tv,.bool false] 78)::az 80 1 tv ts.length (ts.map bP)::aP ts::bS bs bd jb q mb [] s::X::F) ad ?_
  ((refine ae hE Tryz.func10 rfl _ rfl ⟨1,ts,false,s,rfl,rfl,pU _ _ _ _ (.inl ⟨.inr qR,rfl,rfl,rfl,rfl⟩)⟩ ad))
 ((refine bj 24 ((.bool false)) rfl ((congrArg Value.bool (decide_eq_false qR))) ?_))
 obtain⟨j,hj⟩:∃j:Nat,i=j:=⟨i.toNat,ai⟩
 have Jm:i.toNat=j:=by omega
 have Yz:0≤i∧i<y.n:=by omega
 have rK:=o7 y.sb y.n wv y.ws BV zQ i
 unfold dO at rK
 refine go ?_
 refine aj (H':=ag y.yb (cl (iY y) 83)::ag y.sb (cl [.int .i64 (y.n:Int),wv] 101)::az 102 1 wv y.ws.length (qV y.ws)::aL (Value.int .i64) y.mb cs::aV 36 M::aP (ts.take k++ts.drop (k+1))::ag b4 (cl [.int .i64 i] 3)::ag tb (cl [ptr bs,ptr jb,tv,.bool false] 78)::az 80 1 tv ts.length (ts.map bP)::bS bs bd jb q mb [] s::X::ag b2 (cl [ptr tb] 31)::ag b3 (cl (bn x) 38)::ag b5 (cl [.slice ba b.length bc] 39)::F) ad ?_
 refine aF (fun w=>Sat G w ([ag y.yb (cl (iY y) 83),ag b4 (cl [.int .i64 i] 3)])) (.st 0 (.st 1 (.st 2 (.st 3 (.st 4 (.act 5 (.st 6 .nil))))))) rfl ak ak ak (fun w hw=>hw.aX ad) ?_
 refine go ?_
 ((refine ah rfl rfl rfl rfl (rK) ad ?_ (fun _ _ w hp hw=>by obtain⟨rfl,rfl⟩:=hp;exact hw.aX ad)))
 rintro _ _⟨rfl,rfl⟩
 cases Jo:fZ y.ws y.n i with
 | true =>
  refine go ?_
  refine aj (aq.trans ad (gg (ag tb (cl [ptr bs,ptr jb,tv,.bool false] 78)::az 80 1 tv ts.length (ts.map bP)::bS bs bd jb q mb [] s::X::F))) ?_
  refine aj (H':=ag tb (cl [ptr bs,ptr jb,tv,.bool false] 78)::az 80 1 tv ts.length (ts.map bP)::aP ts::bS bs bd jb q mb [] s::X::F) ad ?_
  ((refine ae hE Tryz.func10 rfl _ rfl ⟨0,ts,false,s,rfl,rfl,pU _ _ _ _ (.inr (.inl ⟨Yz,Jo,rfl,rfl,rfl,rfl⟩))⟩ ad))
 | false =>
 refine go ?_
 ((refine aG (aq.trans ad (gg (ag b2 (cl [ptr tb] 31)::ag b3 (cl (bn x) 38)::ag b4 (cl [.int .i64 i] 3)::ag b5 (cl [.slice ba b.length bc] 39)::ag tb (cl [ptr bs,ptr jb,tv,.bool false] 78)::az 80 1 tv ts.length (ts.map bP)::bS bs bd jb q mb [] s::X::F))) ?_))
 ((refine aG (H':=ag b3 (cl (bn x) 38)::ag b4 (cl [.int .i64 i] 3)::ag b5 (cl [.slice ba b.length bc] 39)::ag b2 (cl [ptr tb] 31)::X::ag tb (cl [ptr bs,ptr jb,tv,.bool false] 78)::az 80 1 tv ts.length (ts.map bP)::aP ts::bS bs bd jb q mb [] s::F) ad ?_))
 refine go ?_
 refine aI (U:=ao) (l:=bn x) 0 zr zr zr zr zr zr ?_
 refine go ?_
 ((refine ah zr zr zr zr (qa) ad ?_ bE))
 rintro _ _⟨rfl,rfl⟩
 cases HU:fW x i b p with
 | false =>
  refine go ?_
  refine aj (H':=ag tb (cl [ptr bs,ptr jb,tv,.bool false] 78)::az 80 1 tv ts.length (ts.map bP)::aP ts::bS bs bd jb q mb [] s::X::F) ad ?_
  ((refine ae hE Tryz.func10 rfl _ rfl ⟨8,ts,false,s,rfl,rfl,pU _ _ _ _ (.inr (.inr (.inl ⟨Yz,Jo,HU,rfl,rfl,rfl,rfl⟩)))⟩ ad))
 | true =>
 have sI:p.length≤10:=by
  unfold fW at HU
  split at HU
  ·cases HU
  ·rw[Bool.and_eq_true]at HU
   have:=HU.2
   unfold j9 at this
   rw[decide_eq_true_iff]at this
   rw[this.2.1]
   exact mM _ _
 have Dq:=yu x.d j ai X (.slice pa p.length pc) p Uq ai
 rw[← hj]at Dq
 unfold dV at Dq
 have ND:(bH x.d j p).length≤1000000:=by
  have:=gF 2 x.d (er j p) (by simp[er];omega) (kZ j ai p)
  unfold bH
  unfold er at this
  omega
 clear hf qa rK gg
 refine go ?_
 refine aj (H':=ag tb (cl [ptr bs,ptr jb,tv,.bool false] 78)::az 80 1 tv ts.length (ts.map bP)::aP ts::bS bs bd jb q mb [] s::X::ag b2 (cl [ptr tb] 31)::ag b3 (cl (bn x) 38)::ag b4 (cl [.int .i64 i] 3)::ag b5 (cl [.slice ba b.length bc] 39)::F) ad ?_
 refine gL rfl ?_
 refine zc 1 (fun y:(Option Addr × Nat) × (Option Addr × Nat) × Nat × Nat=>True) (fun z=>[(4,.slice pa p.length pc),(5,ptr b2),(6,ptr b3),(7,ptr b4),(8,ptr b5),(11,ptr y.yb),(12,.slice z.1.1 4 z.1.2)]) (fun z=>az 86 1 (.slice z.1.1 4 z.1.2) 4 ([.func (.func 36) #[] #[ptr b2,ptr b3,ptr b4,ptr b5],.func (.func 38) #[] #[ptr b2,ptr b3] ]++gm z.2.2.1 z.2.2.2 jb)::az 5 1 (.slice z.2.1.1 (bH x.d j p).length z.2.1.2) (bH x.d j p).length (bV (bH x.d j p))::ag z.2.2.1 (cl [ptr tb] 31)::ag z.2.2.2 (cl [.slice z.2.1.1 (bH x.d j p).length z.2.1.2] 39)::ag tb (cl [ptr bs,ptr jb,tv,.bool false] 78)::az 80 1 tv ts.length (ts.map bP)::aP ts::bS bs bd jb q mb [] s::X::ag b2 (cl [ptr tb] 31)::ag b3 (cl (bn x) 38)::ag b4 (cl [.int .i64 i] 3)::ag b5 (cl [.slice ba b.length bc] 39)::F) rfl ?_ ?_
 rotate_left
 ·intro tail
  refine aF (fun w=>Sat G w ([ag b2 (cl [ptr tb] 31),ag b3 (cl (bn x) 38),ag b4 (cl [.int .i64 i] 3)])) (.st 0 (.st 1 (.st 3 (.st 4 (.st 5 (.st 6 (.st 7 (.fork (.act 2 (.act 8 (.act 9 (.act 10 (.st 11 .nil))))) (.act 8 (.fork (.act 2 (.act 9 (.act 10 (.st 11 .nil)))) (.act 9 (.act 2 (.act 10 (.st 11 .nil)))))))))))))) rfl ak ak ak (fun w hw=>hw.aX ad) ?_
  refine go ?_
  refine bW (U:=ao) (cs:=dC x.d) 1 zr zr zr zr zr zr ?_
  repeat'(first|refine o5 ?_ ?_|(refine au (U:=ao) (cs:=[.func (.func 36) #[] #[ptr b2,ptr b3,ptr b4,ptr b5],.func (.func 38) #[] #[ptr b2,ptr b3] ]) zr zr zr zr zr zr zr zr zr (fun _ w hw=>by exact hw.aX ad) ?_;intro r0)|(((refine ah rfl rfl rfl rfl (Dq) ad ?_ (fun _ _ w hp hw=>by obtain rfl:=hp;exact hw.aX ad)));rintro _ _ rfl;((refine aM 0 rfl ?_));rintro a8 c8 rfl)|(((refine ah rfl rfl rfl rfl (OQ a8 (bH x.d j p).length c8) ad ?_ (fun _ _ w hp hw=>by obtain⟨_,_,_,rfl,rfl⟩:=hp;exact hw.aX ad)));rintro _ _⟨c2,c3,row,rfl,rfl⟩)|(refine fk ?_)|fail)
  all_goals(
   refine aG (H':=ag r0 (cl [.func (.func 36) #[] #[ptr b2,ptr b3,ptr b4,ptr b5],.func (.func 38) #[] #[ptr b2,ptr b3] ] 86)::ag row (cl (gm c2 c3 jb) 86)::az 5 1 (.slice a8 (bH x.d j p).length c8) (bH x.d j p).length (bV (bH x.d j p))::ag c2 (cl [ptr tb] 31)::ag c3 (cl [.slice a8 (bH x.d j p).length c8] 39)::ag tb (cl [ptr bs,ptr jb,tv,.bool false] 78)::az 80 1 tv ts.length (ts.map bP)::aP ts::bS bs bd jb q mb [] s::X::ag b2 (cl [ptr tb] 31)::ag b3 (cl (bn x) 38)::ag b4 (cl [.int .i64 i] 3)::ag b5 (cl [.slice ba b.length bc] 39)::F) ad ?_
   refine aG (dZ 86 1 r0 2 2 [.func (.func 36) #[] #[ptr b2,ptr b3,ptr b4,ptr b5],.func (.func 38) #[] #[ptr b2,ptr b3] ] [] _ rfl (Nat.le_refl _) (by simp)) ?_
   refine bh (U:=ao) (mm:=2) (news:=gm c2 c3 jb) 0 1 rfl rfl rfl rfl rfl rfl rfl rfl rfl rfl rfl rfl (Vw.ag rfl) rfl (by intro v hv;simp[gm]at hv;rcases hv with rfl|rfl <;> rfl) ai (by show(_+_)*8≤_;omega) (fun _=>rfl) (fun _ w hw=>by exact hw.aX ad) ?_
   intro v1
   ((refine aM 0 rfl ?_))
   rintro ja jc rfl
   (refine nN ?_)
   refine nQ tail ((ja,jc),(a8,c8),c2,c3) rfl trivial bY ad)
 rintro⟨⟨ja,jc⟩,⟨a8,c8⟩,c2,c3⟩ -
 simp only
 refine cM 0 rfl ?_
 intro qP
 refine oU (bs:=(bH x.d j p)) 1 rfl ?_
 intro F'
 have gS:=JW tb bs jb bd tv q mb s 36 38 [ptr b2,ptr b3,ptr b4,ptr b5] [ptr b2,ptr b3] c2 c3 _ [X,ag b2 (cl [ptr tb] 31),ag b3 (cl (bn x) 38),ag b4 (cl [.int .i64 i] 3),ag b5 (cl [.slice ba b.length bc] 39)] (cX (lJ x i b)) (cX (kh x)) a8 c8 (bH x.d j p) F' ND m hm hx
  (Hh X tb bs jb bd b2 b3 b4 b5 q mb tv s x i ba bc b _ _ _ XD ai hi ai ai) (fun u hu=>He tb bs jb bd b2 b3 q mb tv u x _ _ _ X _ _ (by have:=(mQ hu.1).1;omega) (by have:=(mQ hu.1).2;omega)) _ _ qP
 unfold gC at gS
 refine aj (aq.pick [9] rfl) ?_
 refine go ?_
 refine aG (H':=bS bs bd jb q mb [] s::([ag c2 (cl [ptr tb] 31),ag c3 (cl [.slice a8 (bH x.d j p).length c8] 39),az 5 1 (.slice a8 (bH x.d j p).length c8) (bH x.d j p).length (bV (bH x.d j p)),X,ag b2 (cl [ptr tb] 31),ag b3 (cl (bn x) 38),ag b4 (cl [.int .i64 i] 3),ag b5 (cl [.slice ba b.length bc] 39)]++(az 86 1 (.slice ja 4 jc) 4 ([.func (.func 36) #[] #[ptr b2,ptr b3,ptr b4,ptr b5],.func (.func 38) #[] #[ptr b2,ptr b3] ]++gm c2 c3 jb)::ag tb (cl [ptr bs,ptr jb,tv,.bool false] 78)::az 80 1 tv ts.length (ts.map bP)::aP ts::F))) ad ?_
 refine aG (wQ bs bd jb q mb _ s _) ?_
 ((refine ah zr zr zr zr (gS) ad ?_ bE))
 rintro _ _⟨e,t,rfl,rfl,hR⟩
 ((refine aG (H':=bS bs bd jb q mb [ag c2 (cl [ptr tb] 31),ag c3 (cl [.slice a8 (bH x.d j p).length c8] 39),az 5 1 (.slice a8 (bH x.d j p).length c8) (bH x.d j p).length (bV (bH x.d j p)),X,ag b2 (cl [ptr tb] 31),ag b3 (cl (bn x) 38),ag b4 (cl [.int .i64 i] 3),ag b5 (cl [.slice ba b.length bc] 39)] t::ag tb (cl [ptr bs,ptr jb,tv,.bool (eZ e)] 78)::az 80 1 tv ts.length (ts.map bP)::aP ts::F) ad ?_))
 refine aG (sk bs bd jb q mb _ t _) ?_
 have fh:gy (cX (lJ x i b)::cX (kh x)::iE (bH x.d i.toNat p)) s e t:=by rw[Jm];exact hR
 by_cases he:e=0
 ·subst he
  have rH:=AQ y j ai BV zQ X (.slice pa p.length pc) p Uq ai
  rw[← hj]at rH
  ((refine aG (H':=aP ts::ag b4 (cl [.int .i64 i] 3)::ag tb (cl [ptr bs,ptr jb,tv,.bool (eZ 0)] 78)::az 80 1 tv ts.length (ts.map bP)::bS bs bd jb q mb [] t::X::F) ad ?_))
  refine aG (iM hk _) ?_
  ((refine aG (H':=ag b4 (cl [.int .i64 i] 3)::mV y::aP (ts.take k++ts.drop (k+1))::ag tb (cl [ptr bs,ptr jb,tv,.bool (eZ 0)] 78)::az 80 1 tv ts.length (ts.map bP)::bS bs bd jb q mb [] t::X::F) ad ?_))
  refine go ?_
  ((refine ah zr zr zr zr (rH) ad ?_ bE))
  rintro _ _⟨rfl,rfl⟩
  ((refine aG (H':=mV (y.put j p)::aP (ts.take k++ts.drop (k+1))::ag tb (cl [ptr bs,ptr jb,tv,.bool (eZ 0)] 78)::az 80 1 tv ts.length (ts.map bP)::bS bs bd jb q mb [] t::X::F) ad ?_))
  refine aG (Fv hk (y.put j p) _) ?_
  have fA:(ts.set k (y.put j p)).length=ts.length:=List.length_set
  have rF:(ts.set k (y.put j p)).map bP=ts.map bP:=by
   rw[List.map_set]
   exact List.kV (by rw[List.getElem?_map,hk];rfl)
  refine go ?_
  refine aj (H':=ag tb (cl [ptr bs,ptr jb,tv,.bool (eZ 0)] 78)::az 80 1 tv (ts.set k (y.put j p)).length ((ts.set k (y.put j p)).map bP)::aP (ts.set k (y.put j p))::bS bs bd jb q mb [] t::X::F) (by rw[fA,rF];exact ad) ?_
  ((refine ae hE Tryz.func10 rfl _ rfl ⟨0,ts.set k (y.put j p),eZ 0,t,rfl,rfl,pU _ _ _ _ (.inr (.inr (.inr ⟨Yz,Jo,HU,rfl,fh,.inr ⟨rfl,by rw[Jm]⟩⟩)))⟩ ad))
 ·((refine aG (H':=ag tb (cl [ptr bs,ptr jb,tv,.bool (eZ e)] 78)::az 80 1 tv ts.length (ts.map bP)::aP ts::bS bs bd jb q mb [] t::X::F) ad ?_))
  refine go ?_
  refine aw zr zr ?_ ?_
  ·intro _
   refine go ?_
   ((refine ae hE Tryz.func10 rfl _ rfl ⟨e,ts,eZ e,t,rfl,rfl,pU _ _ _ _ (.inr (.inr (.inr ⟨Yz,Jo,HU,rfl,fh,.inl ⟨he,rfl⟩⟩)))⟩ ad))
  ·intro h;exfalso;omega
end Go.Proofs.YthjbidjmgbjkiaaGreatDoor
namespace Go.Proofs.YthjbidjmgbjkiaaGreatDoor
open Go Go.SL
theorem Kn(w:iq):Uf w w=w:=by unfold Uf;exact BitVec.or_self
attribute [local irreducible] J K aD Ends ag az aL bK aZ aQ aV bg bQ aC
set_option maxRecDepth 20000 in
set_option maxHeartbeats 1000000 in
theorem Ja(sb n:Nat)(wv:Value)(ws:List iq)(hl:ws.length≤65536):aD Tryz.prog 103 [ptr sb,ptr sb,.func (.func 104) #[] #[] ] (dO sb n wv ws) (fun r H=>∃ob ov,r = .tuple #[ptr ob,.int .i64 0]∧H=dO ob n ov ws++dO sb n wv ws):=by
 unfold dO
 refine aD.enter Tryz.func103 ak rfl Tryz.ntmps103 zr zr ?_
 intro G F R hE
 ((refine db 1 rfl ?_))
 rintro a c rfl
 refine cM 1 rfl ?_
 intro dj
 have lz:=Ov (az 102 1 (.slice a ws.length c) ws.length (qV ws)) (.slice a ws.length c) ws dj ai
 refine go ?_
 refine aF (fun w=>Sat G w ([ag sb (cl [.int .i64 (n:Int),.slice a ws.length c] 101)])) (.st 0 (.st 1 (.st 2 (.st 3 (.st 4 (.st 5 (.st 6 (.st 7 (.st 8 (.st 9 (.st 10 (.st 11 (.st 12 .nil))))))))))))) rfl ak ak ak (fun w hw=>hw.aX ad) ?_
 refine go ?_
 ((refine bj 23 ((.bool false)) rfl ((congrArg Value.bool (decide_eq_false (by simp)))) ?_))
 refine go ?_
 refine aF (fun w=>Sat G w ([ag sb (cl [.int .i64 (n:Int),.slice a ws.length c] 101)])) (.st 0 (.st 1 (.st 2 (.st 3 (.st 4 (.st 5 (.st 6 (.st 7 (.act 8 (.st 9 (.act 10 (.st 11 .nil)))))))))))) rfl ak ak ak (fun w hw=>hw.aX ad) ?_
 refine go ?_
 ((refine ah rfl rfl rfl rfl (lz) ad ?_ (fun _ _ w hp hw=>by obtain rfl:=hp;exact hw.aX ad)))
 rintro ov _ rfl
 ((refine aM 0 rfl ?_))
 rintro oa oc rfl
 refine go ?_
 refine bq zr zr (fun _ w hw=>hw.aX ad) ?_
 intro ob
 refine go ?_
 refine bo (fun i:Nat=>i≤ws.length) (fun i=>ws.length-i) (fun i=>[(2,.func (.func 104) #[] #[]),(8,ptr ob),(38,.slice a ws.length c),(39,.int .i64 (ws.length:Int)),(40,.int .i64 (i:Int))])
  (fun _=>ag ob (cl [.int .i64 (n:Int),.slice oa ws.length oc] 101)::az 102 1 (.slice oa ws.length oc) ws.length (qV ws)::ag sb (cl [.int .i64 (n:Int),.slice a ws.length c] 101)::az 102 1 (.slice a ws.length c) ws.length (qV ws)::F) 0 (Nat.zero_le _) rfl bY ad ?_
 intro i hi ih
 refine go ?_
 refine aw zr zr ?_ ?_
 ·intro cO
  have fU:i<ws.length:=by omega
  obtain⟨w,OG⟩:∃w,ws[i]?=some w:=⟨ws[i],by simp⟩
  have cZ:=zD OG
  refine cM 1 rfl ?_
  intro Wo
  obtain⟨b1,o1,c1,Lm⟩:=dj.some (V9 fU)
  simp only[Value.slice.injEq,true_and]at Lm
  obtain⟨rfl,rfl⟩:=Lm
  obtain⟨b3,o3,c3,O2⟩:=Wo.some (V9 fU)
  simp only[Value.slice.injEq,true_and]at O2
  obtain⟨rfl,rfl⟩:=O2
  refine go ?_
  refine cK (U:=ao) i zr zr zr zr zr zr zr zr fU ?_
  refine aJ ?_
  refine bB (U:=ao) 3 i zr zr zr dj rfl cZ zr zr ?_
  refine go ?_
  refine aF (fun w=>Sat G w ([ag ob (cl [.int .i64 (n:Int),.slice (some ⟨b3,o3,none⟩) ws.length oc] 101),az 102 1 (.slice (some ⟨b3,o3,none⟩) ws.length oc) ws.length (qV ws)])) (.st 0 (.st 1 (.st 2 (.st 3 (.st 4 (.st 5 (.st 6 (.st 7 (.st 8 (.st 9 (.st 10 (.st 11 (.st 12 (.st 13 (.act 14 (.st 15 (.act 16 .nil))))))))))))))))) rfl ak ak ak (fun w hw=>hw.aX ad) ?_
  (repeat(first|refine fk ?_|refine cK (U:=ao) i zr zr zr zr zr zr zr zr fU ?_|(refine aJ ?_;refine cz (U:=ao) 1 i zr zr zr Wo rfl cZ zr zr ?_)))
  refine sD rfl rfl rfl rfl (Oj w w) ad ?_ (fun _ _ w' hp hw=>by obtain⟨_,rfl⟩:=hp;exact hw.aX ad)
  rintro _ _⟨rfl,rfl⟩
  rw[Kn]
  (repeat((refine cK (U:=ao) i zr zr zr zr zr zr zr zr fU ?_)))
  refine aS ?_
  refine nC (U:=ao) (q:=i) 1 fR zr zr zr zr zr zr zr fU rfl ?_
  rw[show(qV ws).set i (.int .u64 (w.toNat:Int))=qV ws from List.kV cZ]
  refine go ?_
  refine aO ih (i+1) rfl ai ai bY ad
 ·intro eQ
  clear ih
  refine go ?_
  ((refine ae hE Tryz.func103 rfl _ rfl ⟨ob,_,rfl,rfl⟩ ad))
theorem Ox(sb n:Nat)(wv:Value)(ws:List iq)(hl:ws.length≤65536):aD Tryz.prog 47 [ptr sb,ptr sb] (dO sb n wv ws) (fun r H=>∃ob ov,r = .tuple #[ptr ob,.int .i64 0]∧H=dO ob n ov ws++dO sb n wv ws):=by
 have hj:=Ja sb n wv ws hl
 unfold dO at hj ⊢
 refine aD.enter Tryz.func47 ak rfl Tryz.ntmps47 zr zr ?_
 intro G F R hE
 refine go ?_
 ((refine ah zr zr zr zr (hj) ad ?_ bE))
 rintro _ _⟨ob,ov,rfl,rfl⟩
 refine go ?_
 ((refine ae hE Tryz.func47 rfl _ rfl ⟨ob,_,rfl,rfl⟩ ad))
def LN(r:Value)(o:Option Tk)(H Hb:List HP):Prop:=match o with
 | none=>r = .tuple #[.pointer none,.int .i64 4]∧H=Hb
 | some y=>∃ob ov,r = .tuple #[ptr ob,.int .i64 0]∧H=dO ob y.n ov y.ws++Hb
set_option maxRecDepth 20000 in
theorem I9(tb bs jb:Nat)(tv:Value)(br:Bool)(ts:List Tk)(x:Bl)(hl:ts.length≤1000000)(hw:∀y∈ts,y.ws.length≤65536) :
  aD Tryz.prog 14 [ptr tb,dQ x] (dg tb bs jb tv ts br) (fun r H=>LN r (eS ts x) H (dg tb bs jb tv ts br)):=by
 have hf:=kJ tb bs jb tv br ts x hl
 unfold dg dQ at hf ⊢
 refine aD.enter Tryz.func14 ak rfl Tryz.ntmps14 zr zr ?_
 intro G F R hE
 refine aE rfl ?_
 refine bq zr zr bp ?_
 intro b3
 refine go ?_
 refine aI (U:=ao) (l:=bn x) 0 zr zr zr zr zr zr ?_
 ((refine ah zr zr zr zr (hf) ad ?_ bE))
 rintro _ _⟨rfl,rfl⟩
 cases l8:eS ts x with
 | none =>
  rw[l8]at hE
  unfold GP
  refine go ?_
  ((refine ae hE Tryz.func14 rfl _ rfl ⟨rfl,rfl⟩ ad))
 | some y =>
  rw[l8]at hE
  obtain⟨k,hk,hx⟩:=gU l8
  have zQ:=hw y (List.mem_of_getElem? hk)
  unfold GP
  refine go ?_
  refine aj (H':=aP ts::ag tb (cl [ptr bs,ptr jb,tv,.bool br] 78)::az 80 1 tv ts.length (ts.map bP)::F) ad ?_
  refine aj (iM hk _) ?_
  refine dM (eG y) ?_
  rintro⟨wv,cs,M⟩ hz
  have gg:∀H,aq (ag y.yb (cl (iY y) 83)::ag y.sb (cl [.int .i64 (y.n:Int),wv] 101)::az 102 1 wv y.ws.length (qV y.ws)::aL (Value.int .i64) y.mb cs::aV 36 M::aP (ts.take k++ts.drop (k+1))::H) (aP ts::H):=fun H=>aq.trans (H2:=ki y (wv,cs,M)++(aP (ts.take k++ts.drop (k+1))::H)) (by unfold ki;exact ad) (aq.trans (gB hz _) (jE hk _))
  refine aj (H':=ag y.yb (cl (iY y) 83)::ag y.sb (cl [.int .i64 (y.n:Int),wv] 101)::az 102 1 wv y.ws.length (qV y.ws)::aL (Value.int .i64) y.mb cs::aV 36 M::aP (ts.take k++ts.drop (k+1))::ag tb (cl [ptr bs,ptr jb,tv,.bool br] 78)::az 80 1 tv ts.length (ts.map bP)::F) (by unfold ki;exact ad) ?_
  have hor:=Ox y.sb y.n wv y.ws zQ
  unfold dO at hor
  refine aF (fun w=>Sat G w ([ag y.yb (cl (iY y) 83)])) (.st 0 (.st 1 (.st 2 (.st 3 (.st 4 (.st 5 (.st 6 (.st 7 (.act 8 (.st 9 (.st 10 (.st 11 (.st 12 .nil))))))))))))) rfl ak ak ak (fun w hw=>hw.aX ad) ?_
  refine go ?_
  ((refine ah rfl rfl rfl rfl (hor) ad ?_ (fun _ _ w hp hw=>by obtain⟨_,_,rfl,rfl⟩:=hp;exact hw.aX ad)))
  rintro _ _⟨ob,ov,rfl,rfl⟩
  refine go ?_
  refine aj (aq.trans ad (gg (ag ob (cl [.int .i64 (y.n:Int),ov] 101)::az 102 1 ov y.ws.length (qV y.ws)::ag tb (cl [ptr bs,ptr jb,tv,.bool br] 78)::az 80 1 tv ts.length (ts.map bP)::F))) ?_
  refine aj (H':=dO ob y.n ov y.ws++([ag tb (cl [ptr bs,ptr jb,tv,.bool br] 78),az 80 1 tv ts.length (ts.map bP),aP ts]++F)) (by unfold dO;exact ad) ?_
  ((refine ae hE Tryz.func14 rfl _ rfl ⟨ob,ov,rfl,rfl⟩ ad))
theorem GR{ts:List Tk}{i:Nat}{y:Tk}(h:ts[i]?=some y):((ts.take (i+1)).map Tk.x).flatMap bn=((ts.take i).map Tk.x).flatMap bn++bn y.x:=by rw[List.take_add_one,h];simp
set_option maxRecDepth 20000 in
theorem Fl(tb bs jb:Nat)(tv:Value)(br:Bool)(ts:List Tk)(hl:ts.length≤1000000) :
  aD Tryz.prog 13 [ptr tb] (dg tb bs jb tv ts br) (fun r H=>H=az 38 66 r ts.length ((ts.map Tk.x).flatMap bn)::dg tb bs jb tv ts br):=by
 unfold dg
 refine aD.enter Tryz.func13 ak rfl Tryz.ntmps13 zr zr ?_
 intro G F R hE
 ((refine db 1 rfl ?_))
 rintro a c rfl
 refine cM 1 rfl ?_
 intro dj
 refine go ?_
 refine aj (bw 38 66 none _) ?_
 refine bo (fun y:Nat × Option Addr × Nat=>y.1≤ts.length) (fun y=>ts.length-y.1) (fun y=>[(3,.slice y.2.1 y.1 y.2.2),(9,.slice a ts.length c),(10,.int .i64 (ts.length:Int)),(11,.int .i64 (y.1:Int))])
  (fun y=>az 38 66 (.slice y.2.1 y.1 y.2.2) y.1 (((ts.take y.1).map Tk.x).flatMap bn)::az 80 1 (.slice a ts.length c) ts.length (ts.map bP)::aP ts::ag tb (cl [ptr bs,ptr jb,.slice a ts.length c,.bool br] 78)::F) (0,none,0) (Nat.zero_le _) rfl bY ad ?_
 rintro⟨i,oa,oc⟩ hi ih
 simp only at hi
 dsimp only
 refine go ?_
 refine aw zr zr ?_ ?_
 ·intro cO
  have fU:i<ts.length:=by omega
  obtain⟨y,hx⟩:∃x,ts[i]?=some x:=⟨ts[i],by simp[fU]⟩
  have iZ:=GR hx
  have jV:(bn y.x).length=66:=rfl
  obtain⟨b,o,fQ,fA⟩:=dj.some (JF fU)
  simp only[Value.slice.injEq]at fA
  obtain⟨rfl,_,rfl⟩:=fA
  refine go ?_
  refine cK (U:=ao) i zr zr zr zr zr zr zr zr fU ?_
  refine aJ ?_
  refine bB (U:=ao) 1 i zr zr zr dj rfl (ph hx) zr zr ?_
  refine go ?_
  ((refine aG (H':=aP ts::az 38 66 (.slice oa i oc) i (((ts.take i).map Tk.x).flatMap bn)::az 80 1 (.slice (some ⟨b,o,none⟩) ts.length c) ts.length (ts.map bP)::ag tb (cl [ptr bs,ptr jb,.slice (some ⟨b,o,none⟩) ts.length c,.bool br] 78)::F) ad ?_))
  refine aG (iM hx _) ?_
  refine AA (eG y) ?_
  rintro z hz
  refine aG (H':=ag y.yb (cl (iY y) 83)::az 38 66 (.slice oa i oc) i (((ts.take i).map Tk.x).flatMap bn)::ag y.sb (cl [.int .i64 (y.n:Int),z.1] 101)::az 102 1 z.1 y.ws.length (qV y.ws)::aL (Value.int .i64) y.mb z.2.1::aV 36 z.2.2::aP (ts.take i++ts.drop (i+1))::az 80 1 (.slice (some ⟨b,o,none⟩) ts.length c) ts.length (ts.map bP)::ag tb (cl [ptr bs,ptr jb,.slice (some ⟨b,o,none⟩) ts.length c,.bool br] 78)::F) ad ?_
  refine go ?_
  refine ef (U:=ao) (cs:=bn y.x) 0 zr zr zr zr zr zr ?_
  refine au (U:=ao) (cs:=bn y.x) zr zr zr zr zr zr zr zr zr bp ?_
  intro row
  refine go ?_
  refine bh (U:=ao) (mm:=1) (news:=bn y.x) 2 0 zr zr zr zr zr zr zr zr zr zr zr zr (Vw.ag rfl) rfl (by have:=Gn [y.x];simpa using this) ai (by show(_+_)*80≤_;omega) (fun _=>rfl) bp ?_
  intro v1
  rw[← iZ]
  ((refine aM 2 rfl ?_))
  rintro ja jc rfl
  refine go ?_
  refine aj (H':=ki y z++(aP (ts.take i++ts.drop (i+1))::az 38 66 (.slice ja (i+1) jc) (i+1) (((ts.take (i+1)).map Tk.x).flatMap bn)::az 80 1 (.slice (some ⟨b,o,none⟩) ts.length c) ts.length (ts.map bP)::ag tb (cl [ptr bs,ptr jb,.slice (some ⟨b,o,none⟩) ts.length c,.bool br] 78)::F)) (by unfold ki;exact ad) ?_
  refine aj (gB hz _) ?_
  refine aj (jE hx _) ?_
  refine aO ih (i+1,ja,jc) rfl (by simp only;omega) (by simp only;omega) bY ad
 ·intro eQ
  have sJ:i=ts.length:=by omega
  subst sJ
  rw[List.take_length]
  clear ih
  refine go ?_
  ((refine ae hE Tryz.func13 rfl _ zr zr ad))
end Go.Proofs.YthjbidjmgbjkiaaGreatDoor
namespace Go.Proofs.YthjbidjmgbjkiaaGreatDoor
open Go Go.SL
theorem Ap(bs bd jb:Nat)(q:Int)(mb:Nat)(x:SJ)(F:List HP):aq (bS bs bd jb q mb [] x::F) (bT bs bd q mb x.1++(oz jb bd dX x.2::F)):=by
 unfold bS
 refine(aq.cg _ _).trans ?_
 rw[List.append_assoc]
 exact aq.refl _
theorem qH(bs bd jb:Nat)(q:Int)(mb:Nat)(x:SJ)(F:List HP):aq (bT bs bd q mb x.1++(oz jb bd dX x.2::F)) (bS bs bd jb q mb [] x::F):=by
 unfold bS
 refine aq.trans ?_ (aq.bL _ _)
 rw[List.append_assoc]
 exact aq.refl _
def ep(s:ek)(ts:List Tk)(x:Bl)(i:Int):List UInt8 × List Dg × Nat:=match eS ts x with
 | none=>([],[],4)
 | some y=>if fZ y.ws y.n i then(if(cq s x i).2=0 then((cq s x i).1,(y.pf i).getD [],0)else([],[],(cq s x i).2))else([],[],4)
theorem Gr.look{z:Value × List (Int × Value) × fH}{y:Tk}(h:Gr z y)(i:Int):∃v,(dI z.2.1 i).getD (.slice none 0 0)=v∧AO z.2.2 32 v ((y.pf i).getD []).length (((y.pf i).getD []).flatMap dC):=by
 have:=h i
 cases hx:dI z.2.1 i with
 | none =>
  rw[hx]at this
  simp only at this
  rw[this]
  exact⟨_,rfl,AO.nil _ _ _ _⟩
 | some v =>
  rw[hx]at this
  obtain⟨l,h1,h2⟩:=this
  rw[h1]
  exact⟨v,rfl,h2⟩
attribute [local irreducible] J K aD Ends ag az aL bK aZ aQ aV bg bQ aC bS
set_option maxRecDepth 20000 in
set_option maxHeartbeats 1000000 in
theorem E6(tb bs jb bd:Nat)(tv:Value)(q:Int)(mb:Nat)(ts:List Tk)(br:Bool)(s:SJ)(x:Bl)(i:Int)(hl:ts.length≤1000000)(hn:∀y∈ts,y.n≤65536)(hw:∀y∈ts,y.n≤y.ws.length*64)(hpf:∀y∈ts,∀k l,y.pf k=some l→l.length≤1000000) :
  aD Tryz.prog 16 [ptr tb,dQ x,.int .i64 i] (dg tb bs jb tv ts br++[bS bs bd jb q mb [] s])
  (fun r H=>∃v1 v2,r = .tuple #[v1,v2,.int .i64 ((ep s.1 ts x i).2.2:Int)]∧H=az 5 1 v1 (ep s.1 ts x i).1.length (bV (ep s.1 ts x i).1)::az 36 32 v2 (ep s.1 ts x i).2.1.length ((ep s.1 ts x i).2.1.flatMap dC)::(dg tb bs jb tv ts br++[bS bs bd jb q mb [] s])):=by
 have hf:=kJ tb bs jb tv br ts x hl
 have Um:=wO bs bd q mb s.1 x i
 unfold dg dQ at hf
 unfold dQ at Um
 unfold dg dQ
 refine aD.enter Tryz.func16 ak rfl Tryz.ntmps16 zr zr ?_
 intro G F R hE
 refine aE rfl ?_
 refine bq zr zr bp ?_
 intro b4
 refine go ?_
 refine aI (U:=ao) (l:=bn x) 0 zr zr zr zr zr zr ?_
 ((refine ah zr zr zr zr (hf) ad ?_ bE))
 rintro _ _⟨rfl,rfl⟩
 cases l8:eS ts x with
 | none =>
  rw[show ep s.1 ts x i=([],[],4)from by unfold ep;rw[l8]]at hE
  unfold GP
  refine go ?_
  refine aj (aq.trans (bw 5 1 none _) (aq.cons _ (bw 36 32 none _))) ?_
  ((refine ae hE Tryz.func16 rfl _ rfl ⟨_,_,rfl,rfl⟩ ad))
 | some y =>
 obtain⟨k,hk,FW⟩:=gU l8
 have xF:=List.mem_of_getElem? hk
 have BV:=hn y xF
 have zQ:=hw y xF
 have hyp:=hpf y xF
 unfold GP
 refine go ?_
 ((refine aG (H':=aP ts::ag tb (cl [ptr bs,ptr jb,tv,.bool br] 78)::az 80 1 tv ts.length (ts.map bP)::bS bs bd jb q mb [] s::ag b4 (cl (bn x) 38)::F) ad ?_))
 ((refine aG (iM hk _) ?_))
 (refine AA (eG y) ?_)
 rintro⟨wv,cs,M⟩ hz
 have gg:∀H,aq (ag y.yb (cl (iY y) 83)::ag y.sb (cl [.int .i64 (y.n:Int),wv] 101)::az 102 1 wv y.ws.length (qV y.ws)::aL (Value.int .i64) y.mb cs::aV 36 M::aP (ts.take k++ts.drop (k+1))::H) (aP ts::H):=fun H=>aq.trans (H2:=ki y (wv,cs,M)++(aP (ts.take k++ts.drop (k+1))::H)) (by unfold ki;exact ad) (aq.trans (gB hz _) (jE hk _))
 ((refine aG (H':=ag y.yb (cl (iY y) 83)::ag y.sb (cl [.int .i64 (y.n:Int),wv] 101)::az 102 1 wv y.ws.length (qV y.ws)::aL (Value.int .i64) y.mb cs::aV 36 M::aP (ts.take k++ts.drop (k+1))::ag tb (cl [ptr bs,ptr jb,tv,.bool br] 78)::az 80 1 tv ts.length (ts.map bP)::bS bs bd jb q mb [] s::ag b4 (cl (bn x) 38)::F) ((by unfold ki;exact ad)) ?_))
 have rK:=o7 y.sb y.n wv y.ws BV zQ i
 unfold dO at rK
 refine go ?_
 ((refine ah zr zr zr zr (rK) ad ?_ bE))
 rintro _ _⟨rfl,rfl⟩
 cases Jo:fZ y.ws y.n i with
 | false =>
  rw[show ep s.1 ts x i=([],[],4)from by unfold ep;rw[l8];simp only;rw[Jo];rfl]at hE
  refine go ?_
  ((refine aj (aq.trans ad (gg (ag tb (cl [ptr bs,ptr jb,tv,.bool br] 78)::az 80 1 tv ts.length (ts.map bP)::bS bs bd jb q mb [] s::F))) ?_))
  refine aj (aq.trans (bw 5 1 none _) (aq.cons _ (bw 36 32 none _))) ?_
  refine aj (H':=az 5 1 (.slice none 0 0) 0 []::az 36 32 (.slice none 0 0) 0 []::ag tb (cl [ptr bs,ptr jb,tv,.bool br] 78)::az 80 1 tv ts.length (ts.map bP)::aP ts::bS bs bd jb q mb [] s::F) ad ?_
  ((refine ae hE Tryz.func16 rfl _ rfl ⟨_,_,rfl,rfl⟩ ad))
 | true =>
 refine go ?_
 ((refine aj (H':=bS bs bd jb q mb [] s::ag b4 (cl (bn x) 38)::ag tb (cl [ptr bs,ptr jb,tv,.bool br] 78)::ag y.yb (cl (iY y) 83)::ag y.sb (cl [.int .i64 (y.n:Int),wv] 101)::az 102 1 wv y.ws.length (qV y.ws)::aL (Value.int .i64) y.mb cs::aV 36 M::aP (ts.take k++ts.drop (k+1))::az 80 1 tv ts.length (ts.map bP)::F) ad ?_))
 ((refine aj (Ap bs bd jb q mb s _) ?_))
 obtain⟨St,hSt⟩:∃St,St=bT bs bd q mb s.1:=⟨_,rfl⟩
 ((refine aj (H':=ag b4 (cl (bn x) 38)::ag tb (cl [ptr bs,ptr jb,tv,.bool br] 78)::(bT bs bd q mb s.1++(oz jb bd dX s.2::ag y.yb (cl (iY y) 83)::ag y.sb (cl [.int .i64 (y.n:Int),wv] 101)::az 102 1 wv y.ws.length (qV y.ws)::aL (Value.int .i64) y.mb cs::aV 36 M::aP (ts.take k++ts.drop (k+1))::az 80 1 tv ts.length (ts.map bP)::F))) ad ?_))
 refine aF (fun w=>Sat G w ([ag tb (cl [ptr bs,ptr jb,tv,.bool br] 78),ag b4 (cl (bn x) 38)])) (.st 0 (.st 1 (.st 2 (.st 3 (.st 4 (.st 5 (.act 6 (.st 7 (.st 8 (.st 9 (.st 10 (.st 11 .nil)))))))))))) rfl ak ak ak (fun w hw=>hw.aX ad) ?_
 refine go ?_
 refine bD (U:=ao) (l:=bn x) 1 zr zr zr zr zr zr ?_
 refine go ?_
 ((refine ah rfl rfl rfl rfl (Um) ad ?_ (fun _ _ w hp hw=>by obtain⟨_,rfl,rfl⟩:=hp;exact hw.aX ad)))
 rintro _ _⟨rv,rfl,rfl⟩
 by_cases he:(cq s.1 x i).2=0
 case neg =>
  rw[show ep s.1 ts x i=([],[],(cq s.1 x i).2)from by unfold ep;rw[l8];simp only;rw[Jo,if_pos rfl,if_neg he]]at hE
  refine go ?_
  refine aw zr zr ?_ ?_
  case' refine_2=>(intro h;exfalso;omega)
  intro _
  refine go ?_
  ((refine aj (aq.trans ad (qH bs bd jb q mb s (ag y.yb (cl (iY y) 83)::ag y.sb (cl [.int .i64 (y.n:Int),wv] 101)::az 102 1 wv y.ws.length (qV y.ws)::aL (Value.int .i64) y.mb cs::aV 36 M::aP (ts.take k++ts.drop (k+1))::ag tb (cl [ptr bs,ptr jb,tv,.bool br] 78)::az 80 1 tv ts.length (ts.map bP)::F))) ?_))
  ((refine aj (aq.trans ad (gg (ag tb (cl [ptr bs,ptr jb,tv,.bool br] 78)::az 80 1 tv ts.length (ts.map bP)::bS bs bd jb q mb [] s::F))) ?_))
  refine aj (aq.trans (bw 5 1 none _) (aq.cons _ (bw 36 32 none _))) ?_
  refine aj (H':=az 5 1 (.slice none 0 0) 0 []::az 36 32 (.slice none 0 0) 0 []::ag tb (cl [ptr bs,ptr jb,tv,.bool br] 78)::az 80 1 tv ts.length (ts.map bP)::aP ts::bS bs bd jb q mb [] s::F) ad ?_
  ((refine ae hE Tryz.func16 rfl _ rfl ⟨_,_,rfl,rfl⟩ ad))
 have Uq:ep s.1 ts x i=((cq s.1 x i).1,(y.pf i).getD [],0):=by unfold ep;rw[l8];simp only;rw[Jo,if_pos rfl,if_pos he]
 rw[Uq]at hE
 rw[he]
 obtain⟨pv,Er,zU⟩:=hz.look i
 simp only at Er zU
 have lz:=xi (aV 36 M) pv ((y.pf i).getD []) (zU.view _) (by cases h:y.pf i with|none=>simp|some l=>exact hyp i l h)
 obtain⟨pa,pc,rfl,_⟩:=zU.shape
 ((refine aG (H':=ag y.yb (cl (iY y) 83)::ag y.sb (cl [.int .i64 (y.n:Int),wv] 101)::az 102 1 wv y.ws.length (qV y.ws)::aL (Value.int .i64) y.mb cs::aV 36 M::aP (ts.take k++ts.drop (k+1))::az 5 1 rv (cq s.1 x i).1.length (bV (cq s.1 x i).1)::(bT bs bd q mb s.1++(oz jb bd dX s.2::ag tb (cl [ptr bs,ptr jb,tv,.bool br] 78)::az 80 1 tv ts.length (ts.map bP)::F))) ad ?_))
 refine go ?_
 refine CY (U:=ao) (kv:=Value.int .i64) (es:=cs) (key:=i) 3 rfl (vL Tryz.underlying3) zr zr zr zr zr zr zr zr ?_
 ((refine aB 45 ((.slice pa ((y.pf i).getD []).length pc)) rfl (Er) ?_))
 refine go ?_
 ((refine ah zr zr zr zr (lz) ad ?_ bE))
 rintro pr _ rfl
 refine go ?_
 refine aj (aq.trans ad (qH bs bd jb q mb s (ag y.yb (cl (iY y) 83)::ag y.sb (cl [.int .i64 (y.n:Int),wv] 101)::az 102 1 wv y.ws.length (qV y.ws)::aL (Value.int .i64) y.mb cs::aV 36 M::aP (ts.take k++ts.drop (k+1))::az 5 1 rv (cq s.1 x i).1.length (bV (cq s.1 x i).1)::az 36 32 pr ((y.pf i).getD []).length (((y.pf i).getD []).flatMap dC)::ag tb (cl [ptr bs,ptr jb,tv,.bool br] 78)::az 80 1 tv ts.length (ts.map bP)::F))) ?_
 refine aj (aq.trans ad (gg (az 5 1 rv (cq s.1 x i).1.length (bV (cq s.1 x i).1)::az 36 32 pr ((y.pf i).getD []).length (((y.pf i).getD []).flatMap dC)::ag tb (cl [ptr bs,ptr jb,tv,.bool br] 78)::az 80 1 tv ts.length (ts.map bP)::bS bs bd jb q mb [] s::F))) ?_
 refine aj (H':=az 5 1 rv (cq s.1 x i).1.length (bV (cq s.1 x i).1)::az 36 32 pr ((y.pf i).getD []).length (((y.pf i).getD []).flatMap dC)::ag tb (cl [ptr bs,ptr jb,tv,.bool br] 78)::az 80 1 tv ts.length (ts.map bP)::aP ts::bS bs bd jb q mb [] s::F) ad ?_
 ((refine ae hE Tryz.func16 rfl _ rfl ⟨_,_,rfl,rfl⟩ ad))
end Go.Proofs.YthjbidjmgbjkiaaGreatDoor
namespace Go.Proofs.YthjbidjmgbjkiaaGreatDoor
open Go Go.SL
def hz(b:List UInt8):Dg:=(gh b).getD Dg.zero
def AJ(m:List UInt8)(l:List (List UInt8)):Bool:=(qw m).isSome && l.all fun b=>(gh b).isSome
theorem Nh(m:List UInt8)(l:List (List UInt8))(b:List UInt8):AJ m (l++[b])=(AJ m l && (gh b).isSome):=by unfold AJ;simp[Bool.and_assoc]
theorem rM:∀(l:List (List UInt8)),(l.all fun b=>(gh b).isSome)=true→pI l=some (l.map hz)
 | [],_=>rfl
 | b::l,h=>by
  rw[List.all_cons,Bool.and_eq_true]at h
  unfold pI
  rw[rM l h.2]
  unfold hz
  cases hb:gh b with
  | none=>rw[hb]at h;cases h.1
  | some d=>simp[hb]
theorem rN:∀(l:List (List UInt8)),(l.all fun b=>(gh b).isSome)=false→pI l=none
 | [],h=>by cases h
 | b::l,h=>by
  unfold pI
  cases hb:gh b with
  | none=>rfl
  | some d =>
   rw[List.all_cons,hb]at h
   rw[rN l (by simpa using h)]
def fP(ok:Bool)(d:Dg)(i:Nat)(p:List Dg)(y:Tk):Tk:=if ok=true∧y.x.d=d∧i<y.n∧p.length=hD y.n i then y.put i p else y
theorem XQ(ok:Bool)(d:Dg)(i:Nat)(p:List Dg)(y:Tk):(fP ok d i p y).yb=y.yb:=by unfold fP;split <;> rfl
def iJ(f:Tk→Tk)(j:Nat)(ts:List Tk):List Tk:=(ts.take j).map f++ts.drop j
theorem KB(f:Tk→Tk)(j:Nat)(ts:List Tk):(iJ f j ts)[j]?=ts[j]? := by
 unfold iJ
 rcases Nat.lt_or_ge j ts.length with h|h
 ·rw[List.getElem?_append_right (by rw[List.length_map,List.length_take];omega),List.length_map,List.length_take,List.getElem?_drop]
  congr 1
  omega
 ·rw[List.getElem?_eq_none (by rw[List.length_append,List.length_map,← List.length_append,List.take_append_drop];exact h),List.getElem?_eq_none h]
theorem KA(f:Tk→Tk){j:Nat}{ts:List Tk}{y:Tk}(h:ts[j]?=some y):(iJ f j ts).set j (f y)=iJ f (j+1) ts:=by
 obtain⟨hj,rfl⟩:=List.getElem?_eq_some_iff.1 h
 unfold iJ
 rw[List.set_append_right _ _ (by rw[List.length_map,List.length_take];omega),List.length_map,List.length_take,Nat.min_eq_left ai,Nat.sub_self,List.drop_eq_getElem_cons hj,List.set_cons_zero,List.take_add_one,h,Option.toList_some,List.map_append,List.append_assoc]
 rfl
theorem BJ(f:Tk→Tk)(ts:List Tk):iJ f ts.length ts=ts.map f:=by unfold iJ;simp
theorem Kz(f:Tk→Tk)(hf:∀y,(f y).yb=y.yb)(j:Nat)(ts:List Tk):(iJ f j ts).map bP=ts.map bP:=by
 unfold iJ
 conv=>rhs;rw[← List.take_append_drop j ts]
 rw[List.map_append,List.map_append,List.map_map]
 congr 1
 refine List.map_congr_left fun y _=>?_
 show bP (f y)=bP y
 unfold bP
 rw[hf]
theorem D5(ts:List Tk)(d:Dg)(m:List UInt8)(l:List (List UInt8))(k:Nat)(hk:∀n,qw m=some n→k=n):kz (ts.map (fP (AJ m l) d k (l.map hz)))=og (kz ts) d m l:=by
 unfold og AJ
 cases hm:qw m with
 | none =>
  simp only[Option.isSome_none,Bool.false_and]
  have:ts.map (fP false d k (l.map hz))=ts:=by
   conv=>rhs;rw[← List.map_id ts]
   refine List.map_congr_left fun y _=>?_
   unfold fP
   rw[if_neg (by simp)]
   rfl
  rw[this]
 | some n =>
  obtain rfl:=hk n hm
  simp only[Option.isSome_some,Bool.true_and]
  cases ha:l.all (fun b=>(gh b).isSome)with
  | false =>
   rw[rN l ha]
   have:ts.map (fP false d k (l.map hz))=ts:=by
    conv=>rhs;rw[← List.map_id ts]
    refine List.map_congr_left fun y _=>?_
    unfold fP
    rw[if_neg (by simp)]
    rfl
   rw[this]
  | true =>
   rw[rM l ha]
   unfold kz
   simp only
   rw[List.map_map,List.map_map]
   refine List.map_congr_left fun y _=>?_
   show(fP true d k (l.map hz) y).c=_
   unfold fP
   simp only[true_and,Function.comp]
   split
   ·rename_i h
    exact(if_pos (α:=TC) (t:=y.c.put k (l.map hz)) (e:=y.c) h).symm
   ·rename_i h
    exact(if_neg (α:=TC) (t:=y.c.put k (l.map hz)) (e:=y.c) h).symm
attribute [local irreducible] J K aD Ends ag az aL bK aZ aQ aV bg bQ aC
set_option maxRecDepth 20000 in
set_option maxHeartbeats 2000000 in
theorem GS(Z:HP)(tb bs jb:Nat)(tv:Value)(br:Bool)(ts:List Tk)(d:Dg)(mv:Value)(m:List UInt8)(l:List (List UInt8))(hv:qi Z mv (m::l))(hm:∀x∈m::l,x.length≤65536)(yF:(m::l).length≤65536)(hl:ts.length≤1000000)(hn:∀y∈ts,y.n≤65536)(hw:∀y∈ts,y.n≤y.ws.length*64) :
  aD Tryz.prog 126 [ptr tb,dV d,mv] (dg tb bs jb tv ts br++[Z]) (fun r H=>r = .tuple #[]∧∃k:Nat,(∀n,qw m=some n→k=n)∧H=dg tb bs jb tv (ts.map (fP (AJ m l) d k (l.map hz))) br++[Z]):=by
 obtain⟨cs,dj,lz,⟨ma,mc,rfl,hmc⟩,nL⟩:=hv
 obtain⟨c0,Dw,qD⟩:=nL 0 m rfl
 have aap:=od Z c0 m qD (by have:=hm m (List.mem_cons_self ..);omega)
 obtain⟨a0,k0,rfl,_⟩:=qD.2
 obtain⟨bb,oo,cc,he⟩:=dj.some (by intro h;rw[h]at lz;simp at lz)
 simp only[Value.slice.injEq,true_and]at he
 obtain⟨rfl,rfl⟩:=he
 unfold dg dV
 refine aD.enter Tryz.func126 ak rfl Tryz.ntmps126 zr zr ?_
 intro G F R hE
 refine aE rfl ?_
 refine bq zr zr bp ?_
 intro b4
 refine aG (H':=Z::ag b4 (cl (dC d) 36)::ag tb (cl [ptr bs,ptr jb,tv,.bool br] 78)::az 80 1 tv ts.length (ts.map bP)::aP ts::F) ad ?_
 refine go ?_
 refine cK (U:=ao) 0 zr zr zr zr zr zr zr zr (by simp) ?_
 refine aJ ?_
 refine bB (U:=ao) 0 0 zr zr zr dj rfl Dw zr zr ?_
 ((refine ah zr zr zr zr (aap) ad ?_ bE))
 rintro _ _⟨rfl,k,xJ,rfl,vU⟩
 refine go ?_
 refine bG (U:=ao) (p:=1) (q:=((m::l).length:Int)) zr zr zr zr zr zr zr ai (by simp only[List.length_cons];omega) (.inl rfl) ?_
 ((refine aB 23 ((.slice (sliceAt (some ⟨bb,oo,none⟩) mc 1 1) l.length (mc-1))) rfl ((by rw[show((m::l).length:Int).toNat=l.length+1 from by simp[List.length_cons],show(1:Int).toNat=1 from rfl,show l.length+1-1=l.length by omega];rfl)) ?_))
 have FX:=dj.LG (s:=1) (by rw[lz];simp) hmc 1 (by simp)
 rw[List.length_cons,Nat.add_sub_cancel]at FX
 simp only[List.length_cons]at yF hmc
 have aaM:∀(j:Nat) (x:List UInt8),l[j]?=some x→∃cv,(cs.drop (1*1))[j]?=some cv∧dR Z cv x:=fun j x hx=>by
  obtain⟨cv,h1,h2⟩:=nL (j+1) x (by rw[List.getElem?_cons_succ];exact hx)
  exact⟨cv,by rw[List.getElem?_drop,Nat.add_comm];exact h1,h2⟩
 have hmr:∀x∈l,x.length≤65536:=fun x hx=>hm x (List.mem_cons_of_mem _ hx)
 have aal:AJ m (l.take 0)=(qw m).isSome:=by unfold AJ;simp
 refine go ?_
 refine aj (bw 36 32 none _) ?_
 rw[← aal]
 refine bo (fun y:Nat × Option Addr × Nat=>y.1≤l.length) (fun y=>l.length-y.1)
  (fun y=>[(0,ptr tb),(4,ptr b4),(6,.int .i64 (k:Int)),(7,.bool (AJ m (l.take y.1))),(8,.slice y.2.1 ((l.take y.1).map hz).length y.2.2),(23,.slice (sliceAt (some ⟨bb,oo,none⟩) mc 1 1) l.length (mc-1)),(24,.int .i64 (l.length:Int)),(25,.int .i64 (y.1:Int))])
  (fun y=>az 36 32 (.slice y.2.1 ((l.take y.1).map hz).length y.2.2) ((l.take y.1).map hz).length (((l.take y.1).map hz).flatMap dC)::Z::ag b4 (cl (dC d) 36)::ag tb (cl [ptr bs,ptr jb,tv,.bool br] 78)::az 80 1 tv ts.length (ts.map bP)::aP ts::F) (0,none,0) (Nat.zero_le _) rfl bY ad ?_
 rintro⟨j,pa,pc⟩ hj ih
 simp only at hj
 dsimp only
 refine go ?_
 refine aw zr zr ?_ ?_
 ·intro cO
  have nK:j<l.length:=by omega
  obtain⟨x,hx⟩:∃x,l[j]?=some x:=⟨l[j],by simp⟩
  obtain⟨cv,qd,uz⟩:=aaM j x hx
  have hph:=sW Z cv x uz (by have:=hmr x (List.mem_of_getElem? hx);omega)
  obtain⟨ax,kx,rfl,_⟩:=uz.2
  have iZ:l.take (j+1)=l.take j++[x]:=by rw[List.take_add_one,hx];rfl
  have sI:((l.take j).map hz).length=j:=by rw[List.length_map,List.length_take];omega
  have hp1:((l.take j).map hz).flatMap dC++dC (hz x)=((l.take (j+1)).map hz).flatMap dC:=by rw[iZ];simp
  have hp2:((l.take j).map hz).length+1=((l.take (j+1)).map hz).length:=by rw[iZ];simp
  have lF:AJ m (l.take (j+1))=(AJ m (l.take j) && (gh x).isSome):=by rw[iZ,Nh]
  have OL:sliceAt (some ⟨bb,oo,none⟩) mc 1 1=some ⟨bb,oo+1,none⟩:=by
   unfold sliceAt
   rw[if_neg ai]
   rfl
  have Wm:=FX
  rw[OL]at Wm
  refine bj 23 (.slice (some ⟨bb,oo+1,none⟩) l.length (mc-1)) rfl (by rw[OL]) ?_
  refine go ?_
  refine cK (U:=ao) j zr zr zr zr zr zr zr zr nK ?_
  refine aJ ?_
  refine bB (U:=ao) 1 j zr zr zr Wm rfl qd zr zr ?_
  refine go ?_
  ((refine ah zr zr zr zr (hph) ad ?_ bE))
  rintro _ _⟨rfl,rfl⟩
  rw[show(gh x).getD Dg.zero=hz x from rfl]
  unfold dV
  refine go ?_
  refine aN (U:=ao) zr zr zr bp ?_
  intro b11
  cases Ur:AJ m (l.take j)
  all_goals(
   rw[Ur]at lF
   refine go ?_
   ((refine aB 7 ((.bool (AJ m (l.take (j+1))))) rfl ((congrArg Value.bool (by rw[lF];rfl))) ?_))
   refine go ?_
   refine aI (U:=ao) (l:=dC (hz x)) 0 zr zr zr zr zr zr ?_
   refine au (U:=ao) (cs:=dC (hz x)) zr zr zr zr zr zr zr zr zr bp ?_
   intro row
   refine go ?_
   refine bh (U:=ao) (mm:=1) (news:=dC (hz x)) 3 0 zr zr zr zr zr zr zr zr zr zr zr zr (Vw.ag rfl) rfl (by rw[dp];exact cC _) ai (by show(((l.take j).map hz).length+1)*32≤_;omega) (fun _=>rfl) bp ?_
   intro v1
   rw[hp1,hp2]
   ((refine aM 3 rfl ?_))
   rintro ja jc rfl
   refine go ?_
   ((refine bj 23 ((.slice (sliceAt (some ⟨bb,oo,none⟩) mc 1 1) l.length (mc-1))) rfl ((by rw[OL])) ?_))
   refine aO ih (j+1,ja,jc) rfl (by simp only;omega) (by simp only;omega) bY ad)
 ·intro eQ
  have H5:j=l.length:=by omega
  subst H5
  rw[List.take_length]
  clear ih
  obtain⟨p,hp⟩:∃p,p=l.map hz:=⟨_,rfl⟩
  obtain⟨ok,lF⟩:∃ok,ok=AJ m l:=⟨_,rfl⟩
  have sI:p.length≤65536:=by rw[hp,List.length_map];omega
  rw[← hp,← lF]at hE ⊢
  have Xk:=XQ ok d k p
  refine aj (aq.pick [4] rfl) ?_
  ((refine db 0 rfl ?_))
  rintro ta tc rfl
  refine cM 0 rfl ?_
  intro Wl
  refine aj (H':=ag tb (cl [ptr bs,ptr jb,.slice ta ts.length tc,.bool br] 78)::az 80 1 (.slice ta ts.length tc) ts.length (ts.map bP)::aP ts::az 36 32 (.slice pa p.length pc) p.length (p.flatMap dC)::ag b4 (cl (dC d) 36)::Z::F) ad ?_
  refine go ?_
  refine bo (fun j:Nat=>j≤ts.length) (fun j=>ts.length-j)
   (fun j=>[(0,ptr tb),(4,ptr b4),(6,.int .i64 (k:Int)),(7,.bool ok),(8,.slice pa p.length pc),(46,.slice ta ts.length tc),(47,.int .i64 (ts.length:Int)),(48,.int .i64 (j:Int))])
   (fun j=>ag tb (cl [ptr bs,ptr jb,.slice ta ts.length tc,.bool br] 78)::az 80 1 (.slice ta ts.length tc) ts.length (ts.map bP)::aP (iJ (fP ok d k p) j ts)::az 36 32 (.slice pa p.length pc) p.length (p.flatMap dC)::ag b4 (cl (dC d) 36)::Z::F) 0 (Nat.zero_le _) rfl bY ad ?_
  intro j hj ih
  refine go ?_
  refine aw zr zr ?_ ?_
  ·intro cO
   have nK:j<ts.length:=by omega
   obtain⟨y,hy⟩:∃y,ts[j]?=some y:=⟨ts[j],by simp⟩
   have xF:=List.mem_of_getElem? hy
   have BV:=hn y xF
   have zQ:=hw y xF
   have YN:(iJ (fP ok d k p) j ts)[j]?=some y:=by rw[KB,hy]
   have fM:=KA (fP ok d k p) hy
   obtain⟨b9,o9,c9,Xv⟩:=Wl.some (JF nK)
   simp only[Value.slice.injEq,true_and]at Xv
   obtain⟨rfl,rfl⟩:=Xv
   refine go ?_
   refine cK (U:=ao) j zr zr zr zr zr zr zr zr nK ?_
   refine aJ ?_
   refine bB (U:=ao) 1 j zr zr zr Wl rfl (ph hy) zr zr ?_
   refine go ?_
   refine aj (H':=aP (iJ (fP ok d k p) j ts)::ag tb (cl [ptr bs,ptr jb,.slice (some ⟨b9,o9,none⟩) ts.length tc,.bool br] 78)::az 80 1 (.slice (some ⟨b9,o9,none⟩) ts.length tc) ts.length (ts.map bP)::az 36 32 (.slice pa p.length pc) p.length (p.flatMap dC)::ag b4 (cl (dC d) 36)::Z::F) ad ?_
   refine aj (iM YN _) ?_
   have jT:∀H,aq (mV (fP ok d k p y)::aP ((iJ (fP ok d k p) j ts).take j++(iJ (fP ok d k p) j ts).drop (j+1))::H) (aP (iJ (fP ok d k p) (j+1) ts)::H):=fun H=>by rw[← fM];exact Fv YN _ H
   refine dM (eG y) ?_
   rintro⟨wv,Dx,M⟩ Wg
   have gg:∀H,aq (ag y.yb (cl (iY y) 83)::ag y.sb (cl [.int .i64 (y.n:Int),wv] 101)::az 102 1 wv y.ws.length (qV y.ws)::aL (Value.int .i64) y.mb Dx::aV 36 M::aP ((iJ (fP ok d k p) j ts).take j++(iJ (fP ok d k p) j ts).drop (j+1))::H) (mV y::aP ((iJ (fP ok d k p) j ts).take j++(iJ (fP ok d k p) j ts).drop (j+1))::H):=fun H=>aq.trans (H2:=ki y (wv,Dx,M)++(aP ((iJ (fP ok d k p) j ts).take j++(iJ (fP ok d k p) j ts).drop (j+1))::H)) (by unfold ki;exact ad) (gB Wg _)
   refine aj (H':=ag y.yb (cl (iY y) 83)::ag y.sb (cl [.int .i64 (y.n:Int),wv] 101)::az 102 1 wv y.ws.length (qV y.ws)::aL (Value.int .i64) y.mb Dx::aV 36 M::aP ((iJ (fP ok d k p) j ts).take j++(iJ (fP ok d k p) j ts).drop (j+1))::ag tb (cl [ptr bs,ptr jb,.slice (some ⟨b9,o9,none⟩) ts.length tc,.bool br] 78)::az 80 1 (.slice (some ⟨b9,o9,none⟩) ts.length tc) ts.length (ts.map bP)::az 36 32 (.slice pa p.length pc) p.length (p.flatMap dC)::ag b4 (cl (dC d) 36)::Z::F) (by unfold ki;exact ad) ?_
   have rI:fP ok d k p y=y→∀H,aq (ag y.yb (cl (iY y) 83)::ag y.sb (cl [.int .i64 (y.n:Int),wv] 101)::az 102 1 wv y.ws.length (qV y.ws)::aL (Value.int .i64) y.mb Dx::aV 36 M::aP ((iJ (fP ok d k p) j ts).take j++(iJ (fP ok d k p) j ts).drop (j+1))::H) (aP (iJ (fP ok d k p) (j+1) ts)::H):=fun h H=>by
    have:=jT H
    rw[h]at this
    exact(gg H).trans this
   refine aF (fun w=>Sat G w ([ag y.yb (cl (iY y) 83),ag b4 (cl (dC d) 36)])) (.st 0 (.st 1 (.st 2 (.st 3 (.st 4 (.st 5 (.st 6 (.st 7 (.st 8 (.st 9 (.st 10 (.st 11 (.st 12 (.st 13 (.st 14 (.st 15 (.act 16 (.st 17 (.st 18 (.st 19 (.st 20 (.st 21 (.st 22 (.st 23 (.st 24 (.st 25 (.st 27 (.act 26 (.act 28 (.st 29 (.st 30 .nil))))))))))))))))))))))))))))))) rfl ak ak ak (fun w hw=>hw.aX ad) ?_
   cases ok with
   | false =>
    have NJ:fP false d k p y=y:=by unfold fP;rw[if_neg (by simp)]
    refine go ?_
    refine aj (aq.trans ad (rI NJ (ag tb (cl [ptr bs,ptr jb,.slice (some ⟨b9,o9,none⟩) ts.length tc,.bool br] 78)::az 80 1 (.slice (some ⟨b9,o9,none⟩) ts.length tc) ts.length (ts.map bP)::az 36 32 (.slice pa p.length pc) p.length (p.flatMap dC)::ag b4 (cl (dC d) 36)::Z::F))) ?_
    refine aO ih (j+1) rfl ai ai bY ad
   | true =>
   refine go ?_
   refine bW (U:=ao) (cs:=dC y.x.d) 0 zr zr zr zr zr zr ?_
   refine go ?_
   refine bD (U:=ao) (l:=dC d) 1 zr zr zr zr zr zr ?_
   refine go ?_
   refine jI (b:=decide (y.x.d=d)) zr zr zr Ih (fun w=>Iq y.x.d d w) ?_
   by_cases Uh:y.x.d=d
   case neg =>
    rw[decide_eq_false Uh]
    have NJ:fP true d k p y=y:=by unfold fP;rw[if_neg (fun h=>Uh h.2.1)]
    refine go ?_
    refine aj (aq.trans ad (rI NJ (ag tb (cl [ptr bs,ptr jb,.slice (some ⟨b9,o9,none⟩) ts.length tc,.bool br] 78)::az 80 1 (.slice (some ⟨b9,o9,none⟩) ts.length tc) ts.length (ts.map bP)::az 36 32 (.slice pa p.length pc) p.length (p.flatMap dC)::ag b4 (cl (dC d) 36)::Z::F))) ?_
    refine aO ih (j+1) rfl ai ai bY ad
   rw[decide_eq_true Uh]
   refine go ?_
   ((refine ah rfl rfl rfl rfl (ly y.sb y.n wv) ad ?_ (fun _ _ w hp hw=>by obtain⟨rfl,rfl⟩:=hp;exact hw.aX ad)))
   rintro _ _⟨rfl,rfl⟩
   refine go ?_
   by_cases Uw:k<y.n
   case neg =>
    have NJ:fP true d k p y=y:=by unfold fP;rw[if_neg (fun h=>Uw h.2.2.1)]
    ((refine aB 71 ((.bool false)) rfl ((congrArg Value.bool (decide_eq_false ai))) ?_))
    refine go ?_
    refine aj (aq.trans ad (rI NJ (ag tb (cl [ptr bs,ptr jb,.slice (some ⟨b9,o9,none⟩) ts.length tc,.bool br] 78)::az 80 1 (.slice (some ⟨b9,o9,none⟩) ts.length tc) ts.length (ts.map bP)::az 36 32 (.slice pa p.length pc) p.length (p.flatMap dC)::ag b4 (cl (dC d) 36)::Z::F))) ?_
    refine aO ih (j+1) rfl ai ai bY ad
   ((refine aB 71 ((.bool true)) rfl ((congrArg Value.bool (decide_eq_true ai))) ?_))
   refine go ?_
   ((refine ah rfl rfl rfl rfl (ly y.sb y.n wv) ad ?_ (fun _ _ w hp hw=>by obtain⟨rfl,rfl⟩:=hp;exact hw.aX ad)))
   rintro _ _⟨rfl,rfl⟩
   refine go ?_
   ((refine ah rfl rfl rfl rfl (zi (y.n:Int) (k:Int)) ad ?_ (fun _ _ w hp hw=>by obtain⟨rfl,rfl⟩:=hp;exact hw.aX ad)))
   rintro _ _⟨rfl,rfl⟩
   refine go ?_
   by_cases hpd:p.length=hD y.n k
   case neg =>
    have NJ:fP true d k p y=y:=by unfold fP;rw[if_neg (fun h=>hpd h.2.2.2)]
    ((refine bj 82 ((.bool false)) rfl ((congrArg Value.bool (decide_eq_false ai))) ?_))
    refine go ?_
    refine aj (aq.trans ad (rI NJ (ag tb (cl [ptr bs,ptr jb,.slice (some ⟨b9,o9,none⟩) ts.length tc,.bool br] 78)::az 80 1 (.slice (some ⟨b9,o9,none⟩) ts.length tc) ts.length (ts.map bP)::az 36 32 (.slice pa p.length pc) p.length (p.flatMap dC)::ag b4 (cl (dC d) 36)::Z::F))) ?_
    refine aO ih (j+1) rfl ai ai bY ad
   ((refine bj 82 ((.bool true)) rfl ((congrArg Value.bool (decide_eq_true ai))) ?_))
   have NJ:fP true d k p y=y.put k p:=by unfold fP;rw[if_pos ⟨rfl,Uh,Uw,hpd⟩]
   rw[NJ]at jT
   ((refine aj (aq.trans ad (gg (ag tb (cl [ptr bs,ptr jb,.slice (some ⟨b9,o9,none⟩) ts.length tc,.bool br] 78)::az 80 1 (.slice (some ⟨b9,o9,none⟩) ts.length tc) ts.length (ts.map bP)::az 36 32 (.slice pa p.length pc) p.length (p.flatMap dC)::ag b4 (cl (dC d) 36)::Z::F))) ?_))
   ((refine aj (H':=az 36 32 (.slice pa p.length pc) p.length (p.flatMap dC)::mV y::aP ((iJ (fP true d k p) j ts).take j++(iJ (fP true d k p) j ts).drop (j+1))::ag tb (cl [ptr bs,ptr jb,.slice (some ⟨b9,o9,none⟩) ts.length tc,.bool br] 78)::az 80 1 (.slice (some ⟨b9,o9,none⟩) ts.length tc) ts.length (ts.map bP)::ag b4 (cl (dC d) 36)::Z::F) ad ?_))
   refine cM 0 rfl ?_
   intro Wn
   have rH:=AQ y k Uw BV zQ _ (.slice pa p.length pc) p Wn ai
   refine go ?_
   ((refine ah zr zr zr zr (rH) ad ?_ bE))
   rintro _ _⟨rfl,rfl⟩
   refine go ?_
   refine aj (H':=mV (y.put k p)::aP ((iJ (fP true d k p) j ts).take j++(iJ (fP true d k p) j ts).drop (j+1))::ag tb (cl [ptr bs,ptr jb,.slice (some ⟨b9,o9,none⟩) ts.length tc,.bool br] 78)::az 80 1 (.slice (some ⟨b9,o9,none⟩) ts.length tc) ts.length (ts.map bP)::az 36 32 (.slice pa p.length pc) p.length (p.flatMap dC)::ag b4 (cl (dC d) 36)::Z::F) ad ?_
   refine aj (jT _) ?_
   refine aO ih (j+1) rfl ai ai bY ad
  ·intro eQ
   have H5:j=ts.length:=by omega
   subst H5
   clear ih
   rw[BJ]
   have MK:(ts.map (fP ok d k p)).map bP=ts.map bP:=by rw[← BJ];exact Kz _ Xk _ _
   have aau:(ts.map (fP ok d k p)).length=ts.length:=List.length_map ..
   refine go ?_
   refine aj (H':=ag tb (cl [ptr bs,ptr jb,.slice ta ts.length tc,.bool br] 78)::az 80 1 (.slice ta ts.length tc) (ts.map (fP ok d k p)).length ((ts.map (fP ok d k p)).map bP)::aP (ts.map (fP ok d k p))::Z::F) (by rw[MK,aau];exact ad) ?_
   ((refine bO hE Tryz.func126 rfl _ rfl ⟨rfl,k,vU,rfl⟩ ad))
end Go.Proofs.YthjbidjmgbjkiaaGreatDoor
namespace Go.Proofs.YthjbidjmgbjkiaaGreatDoor
open Go Go.SL
theorem LJ(ts:List Tk)(d:Dg):kz (mW ts d)=M6 (kz ts) d:=by
 unfold kz mW M6
 rw[List.filter_map]
 rfl
theorem Gj(ts:List Tk)(y:Tk):kz (ts++[y])=kz ts++[y.c]:=by simp[kz]
theorem UM(k:UInt8)(n:Nat)(hn:n<256):decide ((k.toNat:Int)=(n:Int))=decide (k=UInt8.ofNat n):=by
 rw[decide_eq_decide]
 constructor
 ·intro h
  have h2:k.toNat=n:=by omega
  rw[← h2]
  exact(UInt8.ofNat_toNat).symm
 ·rintro rfl
  rw[UInt8.toNat_ofNat']
  omega
theorem DK{cs:List TC}{b:List UInt8}(h:i' b=none):fu cs b=cs:=by unfold fu;rw[h]
theorem JI{cs:List TC}{b:List UInt8}{d:Dg}(h:i' b=some (3,d,[])):fu cs b=M6 cs d:=by unfold fu;rw[h];simp
theorem AU{cs:List TC}{b:List UInt8}{d:Dg}{m:List UInt8}{l:List (List UInt8)}(h:i' b=some (2,d,m::l)):fu cs b=og cs d m l:=by
 unfold fu
 rw[h]
 simp only
 rw[if_neg (by simp)]
 match l with
 | []=>rfl
 | [_]=>rfl
 | [_,_]=>rfl
 | _::_::_::_=>rfl
theorem AV{cs:List TC}{b:List UInt8}{d:Dg}{s p r:List UInt8}(h:i' b=some (1,d,[s,p,r])):fu cs b=(match qw s,qw p,gh r with
  | some s,some p,some r=>if bz ⟨d,s,p,r⟩then M6 cs d++[iS ⟨d,s,p,r⟩]else cs
  | _,_,_=>cs):=by
 unfold fu
 rw[h]
 rfl
theorem m5{cs:List TC}{b:List UInt8}{k:UInt8}{d:Dg}{l:List (List UInt8)}(h:i' b=some (k,d,l))(h3:¬(k=3∧l.length=0))(h1:¬(k=1∧l.length=3))(h2:¬(k=2∧0<l.length)):fu cs b=cs:=by
 unfold fu
 rw[h]
 simp only
 rw[if_neg (fun e=>h3 ⟨e.1,by rw[e.2];rfl⟩)]
 match l,h1,h2 with
 | [],_,_=>rfl
 | [_],_,h2=>simp only;rw[if_neg (fun e=>h2 ⟨e,by simp⟩)]
 | [_,_],_,h2=>simp only;rw[if_neg (fun e=>h2 ⟨e,by simp⟩)]
 | [_,_,_],h1,h2=>simp only;rw[if_neg (fun e=>h1 ⟨e,rfl⟩),if_neg (fun e=>h2 ⟨e,by simp⟩)]
 | _::_::_::_::_,_,h2=>simp only;rw[if_neg (fun e=>h2 ⟨e,by simp⟩)]
attribute [local irreducible] J K aD Ends ag az aL bK aZ aQ aV bg bQ aC
set_option maxRecDepth 20000 in
set_option maxHeartbeats 2000000 in
theorem JH(X:HP)(tb bs jb:Nat)(tv:Value)(br:Bool)(ts:List Tk)(bv:Value)(b:List UInt8)(hb:dR X bv b)(jV:b.length≤1000000)(hl:ts.length≤900000)(hn:∀y∈ts,y.n≤65536)(hw:∀y∈ts,y.n≤y.ws.length*64) :
  aD Tryz.prog 65 [ptr tb,bv] (dg tb bs jb tv ts br++[X]) (fun r H=>r = .tuple #[]∧∃(gW:List Tk) (lM:Value),kz gW=fu (kz ts) b∧H=dg tb bs jb lM gW br++[X]):=by
 have qA:=Hj X bv b hb jV
 have F1:=fun d=>vy tb bs jb tv br ts d ai
 obtain⟨ba,bc,rfl,MO⟩:=hb.2
 unfold dg dV at F1
 unfold dg
 unfold dV at qA
 refine aD.enter Tryz.func65 ak rfl Tryz.ntmps65 zr zr ?_
 intro G F R hE
 refine aj (H':=X::ag tb (cl [ptr bs,ptr jb,tv,.bool br] 78)::az 80 1 tv ts.length (ts.map bP)::aP ts::F) ad ?_
 refine go ?_
 ((refine ah zr zr zr zr (qA) ad ?_ bE))
 rintro _ _ (⟨MJ,⟨k,d,ma,mn,mc,rfl⟩,rfl⟩|⟨k,d,more,mv,Z,hr,lG,YJ,WS,rfl,rfl⟩)
 ·refine go ?_
  refine aN (U:=ao) zr zr zr bp ?_
  intro b5
  refine go ?_
  refine aj (H':=ag tb (cl [ptr bs,ptr jb,tv,.bool br] 78)::az 80 1 tv ts.length (ts.map bP)::aP ts::X::F) ad ?_
  ((refine bO hE Tryz.func65 rfl _ rfl ⟨rfl,ts,tv,(DK MJ).symm,rfl⟩ ad))
 have WZ:=lG
 obtain⟨cs,dj,lz,⟨ma,mc,rfl,hmc⟩,nL⟩:=lG
 refine go ?_
 refine aN (U:=ao) zr zr zr bp ?_
 intro b5
 refine go ?_
 have ct:∀j:Nat,j<256→k≠UInt8.ofNat j→decide ((k.toNat:Int)=(j:Int))=false:=fun j hj h=>by rw[UM k j hj];exact decide_eq_false h
 have fN:fu (kz ts) b=kz ts→∃(gW:List Tk) (lM:Value),kz gW=fu (kz ts) b∧[ag tb (cl [ptr bs,ptr jb,tv,.bool br] 78),az 80 1 tv ts.length (ts.map bP),aP ts]++[X]=[ag tb (cl [ptr bs,ptr jb,lM,.bool br] 78),az 80 1 lM gW.length (gW.map bP),aP gW]++[X]:=fun h=>⟨ts,tv,h.symm,rfl⟩
 by_cases h3:k=3
 ·subst h3
  by_cases h0:more.length=0
  ·have Uv:more=[]:=List.eq_nil_of_length_eq_zero h0
   subst Uv
   have p':=JI (cs:=kz ts) hr
   refine go ?_
   refine aI (U:=ao) (l:=dC d) 0 zr zr zr zr zr zr ?_
   ((refine ah zr zr zr zr (F1 d) ad ?_ bE))
   rintro _ _⟨rfl,lM,rfl⟩
   refine go ?_
   refine aj (H':=ag tb (cl [ptr bs,ptr jb,lM,.bool br] 78)::az 80 1 lM (mW ts d).length ((mW ts d).map bP)::aP (mW ts d)::X::F) ad ?_
   ((refine bO hE Tryz.func65 rfl _ rfl ⟨rfl,mW ts d,lM,by rw[LJ,p'],rfl⟩ ad))
  ·have p':=m5 (cs:=kz ts) hr (fun h=>h0 h.2) (fun h=>absurd h.1 (by decide)) (fun h=>absurd h.1 (by decide))
   refine go ?_
   ((refine bj 25 ((.bool false)) rfl ((congrArg Value.bool (decide_eq_false ai))) ?_))
   refine go ?_
   refine aj (H':=ag tb (cl [ptr bs,ptr jb,tv,.bool br] 78)::az 80 1 tv ts.length (ts.map bP)::aP ts::X::F) ad ?_
   ((refine bO hE Tryz.func65 rfl _ rfl ⟨rfl,fN p'⟩ ad))
 have hn3:=ct 3 ai h3
 ((refine aB 28 ((.bool false)) rfl ((congrArg Value.bool hn3)) ?_))
 by_cases h1:k=1
 ·subst h1
  by_cases h0:more.length=3
  case neg =>
   have p':=m5 (cs:=kz ts) hr (fun h=>absurd h.1 (by decide)) (fun h=>h0 h.2) (fun h=>absurd h.1 (by decide))
   refine go ?_
   ((refine bj 36 ((.bool false)) rfl ((congrArg Value.bool (decide_eq_false ai))) ?_))
   refine go ?_
   refine aj (H':=ag tb (cl [ptr bs,ptr jb,tv,.bool br] 78)::az 80 1 tv ts.length (ts.map bP)::aP ts::X::F) ad ?_
   ((refine bO hE Tryz.func65 rfl _ rfl ⟨rfl,fN p'⟩ ad))
  obtain⟨ms,mp,mr,rfl⟩:∃ms mp mr,more=[ms,mp,mr]:=by
   match more,h0 with
   | [ms,mp,mr],_=>exact⟨ms,mp,mr,rfl⟩
  have p':=AV (cs:=kz ts) hr
  obtain⟨c0,Dw,qD⟩:=nL 0 ms rfl
  obtain⟨c1,Js,pV⟩:=nL 1 mp rfl
  obtain⟨c2,oD,qe⟩:=nL 2 mr rfl
  have hq0:=od Z c0 ms qD (by have:=YJ ms (by simp);omega)
  have YB:=od Z c1 mp pV (by have:=YJ mp (by simp);omega)
  have Up:=sW Z c2 mr qe (by have:=YJ mr (by simp);omega)
  obtain⟨a0,z0,rfl,_⟩:=qD.2
  obtain⟨a1,z1,rfl,_⟩:=pV.2
  obtain⟨a2,z2,rfl,_⟩:=qe.2
  obtain⟨bb,oo,cc,he⟩:=dj.some (by intro h;rw[h]at lz;simp at lz)
  simp only[Value.slice.injEq,true_and]at he
  obtain⟨rfl,rfl⟩:=he
  unfold dV at Up
  ((refine aG (H':=ag b5 (cl (dC d) 36)::Z::ag tb (cl [ptr bs,ptr jb,tv,.bool br] 78)::az 80 1 tv ts.length (ts.map bP)::aP ts::X::F) ad ?_))
  refine go ?_
  refine cK (U:=ao) 0 zr zr zr zr zr zr zr zr (by simp) ?_
  refine aJ ?_
  refine bB (U:=ao) 1 0 zr zr zr dj rfl Dw zr zr ?_
  ((refine ah zr zr zr zr (hq0) ad ?_ bE))
  rintro _ _⟨rfl,k1,xJ,rfl,aaB⟩
  refine go ?_
  refine cK (U:=ao) 1 zr zr zr zr zr zr zr zr (by simp) ?_
  refine aJ ?_
  refine bB (U:=ao) 0 1 zr zr zr dj rfl Js zr zr ?_
  ((refine ah zr zr zr zr (YB) ad ?_ bE))
  rintro _ _⟨rfl,k2,vU,rfl,aaz⟩
  refine go ?_
  refine cK (U:=ao) 2 zr zr zr zr zr zr zr zr (by simp) ?_
  refine aJ ?_
  refine bB (U:=ao) 0 2 zr zr zr dj rfl oD zr zr ?_
  ((refine ah zr zr zr zr (Up) ad ?_ bE))
  rintro _ _⟨rfl,rfl⟩
  rw[show(gh mr).getD Dg.zero=hz mr from rfl]
  refine go ?_
  refine aN (U:=ao) zr zr zr bp ?_
  intro b12
  refine go ?_
  refine aI (U:=ao) (l:=dC d) 2 zr zr zr zr zr zr ?_
  refine go ?_
  refine aI (U:=ao) (l:=dC (hz mr)) 0 zr zr zr zr zr zr ?_
  refine go ?_
  obtain⟨x,hx⟩:∃x:Bl,x=⟨d,(k1:Int),(k2:Int),hz mr⟩:=⟨_,rfl⟩
  refine aN (U:=ao) zr zr zr bp ?_
  intro Y9
  refine go ?_
  ((refine aG (H':=ag Y9 (cl (bn x) 38)::ag b5 (cl (dC d) 36)::ag tb (cl [ptr bs,ptr jb,tv,.bool br] 78)::az 80 1 tv ts.length (ts.map bP)::aP ts::X::F) ((by rw[hx];exact ad)) ?_))
  have qz:=mP x
  unfold dQ at qz
  cases e0:qw ms with
  | none =>
   rw[e0]at p'
   simp only at p'
   refine go ?_
   refine aj (H':=ag tb (cl [ptr bs,ptr jb,tv,.bool br] 78)::az 80 1 tv ts.length (ts.map bP)::aP ts::X::F) ad ?_
   ((refine bO hE Tryz.func65 rfl _ rfl ⟨rfl,fN p'⟩ ad))
  | some v0 =>
  obtain rfl:=aaB v0 e0
  rw[e0]at p'
  cases e1:qw mp with
  | none =>
   rw[e1]at p'
   simp only at p'
   refine go ?_
   refine aj (H':=ag tb (cl [ptr bs,ptr jb,tv,.bool br] 78)::az 80 1 tv ts.length (ts.map bP)::aP ts::X::F) ad ?_
   ((refine bO hE Tryz.func65 rfl _ rfl ⟨rfl,fN p'⟩ ad))
  | some v1 =>
  obtain rfl:=aaz v1 e1
  rw[e1]at p'
  cases e2:gh mr with
  | none =>
   rw[e2]at p'
   simp only at p'
   refine go ?_
   refine aj (H':=ag tb (cl [ptr bs,ptr jb,tv,.bool br] 78)::az 80 1 tv ts.length (ts.map bP)::aP ts::X::F) ad ?_
   ((refine bO hE Tryz.func65 rfl _ rfl ⟨rfl,fN p'⟩ ad))
  | some v2 =>
  have tm:hz mr=v2:=by unfold hz;rw[e2];rfl
  rw[e2]at p'
  simp only at p'
  rw[tm]at hx
  rw[← hx]at p'
  refine go ?_
  refine aI (U:=ao) (l:=bn x) 0 zr zr zr zr zr zr ?_
  ((refine go ?_;(refine ah zr zr zr zr (qz) ad ?_ bE)))
  rintro _ _⟨rfl,rfl⟩
  cases KX:bz x with
  | false =>
   rw[KX]at p'
   simp only[Bool.false_eq_true,if_false]at p'
   refine go ?_
   refine aj (H':=ag tb (cl [ptr bs,ptr jb,tv,.bool br] 78)::az 80 1 tv ts.length (ts.map bP)::aP ts::X::F) ad ?_
   ((refine bO hE Tryz.func65 rfl _ rfl ⟨rfl,fN p'⟩ ad))
  | true =>
  rw[KX]at p'
  simp only[if_true]at p'
  have xN:=yP x
  unfold dQ at xN
  ((refine aG (H':=ag b5 (cl (dC d) 36)::ag tb (cl [ptr bs,ptr jb,tv,.bool br] 78)::az 80 1 tv ts.length (ts.map bP)::aP ts::X::ag Y9 (cl (bn x) 38)::F) ad ?_))
  refine go ?_
  refine aI (U:=ao) (l:=dC d) 0 zr zr zr zr zr zr ?_
  ((refine ah zr zr zr zr (F1 d) ad ?_ bE))
  rintro _ _⟨rfl,lM,rfl⟩
  ((refine aG (H':=ag tb (cl [ptr bs,ptr jb,lM,.bool br] 78)::az 80 1 lM (mW ts d).length ((mW ts d).map bP)::aP (mW ts d)::X::ag Y9 (cl (bn x) 38)::F) ad ?_))
  have HR:(mW ts d).length≤ts.length:=List.length_filter_le _ _
  obtain⟨us,rD⟩:∃us,us=mW ts d:=⟨_,rfl⟩
  rw[← rD]at HR ⊢
  have hcu:kz us=M6 (kz ts) d:=by rw[rD,LJ]
  refine go ?_
  ((refine db 1 rfl ?_))
  rintro ua uc rfl
  refine aF (fun w=>Sat G w ([ag tb (cl [ptr bs,ptr jb,.slice ua us.length uc,.bool br] 78),ag Y9 (cl (bn x) 38)])) (.st 0 (.st 1 (.st 2 (.st 3 (.st 4 (.st 5 (.act 6 (.act 7 (.act 8 (.st 9 (.st 10 (.act 11 .nil)))))))))))) rfl ak ak ak (fun w hw=>hw.aX ad) ?_
  refine go ?_
  refine bD (U:=ao) (l:=bn x) 1 zr zr zr zr zr zr ?_
  refine go ?_
  ((refine ah rfl rfl rfl rfl (xN) ad ?_ (fun _ _ w hp hw=>by obtain⟨_,_,rfl,_⟩:=hp;exact hw.aX ad)))
  rintro _ _⟨y,rfl,rfl,ZC,HL,ZB,ZA⟩
  refine go ?_
  refine au (U:=ao) (cs:=[ptr y.yb]) zr zr zr zr zr zr zr zr zr (fun _ w hw=>hw.aX ad) ?_
  intro r1
  refine go ?_
  refine bh (U:=ao) (mm:=1) (news:=[ptr y.yb]) 3 0 rfl rfl rfl rfl rfl rfl rfl rfl rfl rfl rfl rfl (Vw.ag rfl) rfl (by intro v hv;simp at hv;rw[hv];rfl) ai (by show(_+_)*8≤_;omega) (fun _=>rfl) (fun _ w hw=>hw.aX ad) ?_
  intro v1
  ((refine aM 3 rfl ?_))
  rintro ka kc rfl
  refine go ?_
  have MK:us.map bP++[ptr y.yb]=(us++[y]).map bP:=by simp[bP]
  have yF:us.length+1=(us++[y]).length:=by simp
  have qR:=sM us [] y
  rw[List.append_nil]at qR
  rw[MK,yF]
  refine aj (H':=mV y::aP us::ag tb (cl [ptr bs,ptr jb,.slice ka (us++[y]).length kc,.bool br] 78)::az 80 1 (.slice ka (us++[y]).length kc) (us++[y]).length ((us++[y]).map bP)::X::F) ad ?_
  refine aj (qR _) ?_
  refine aj (H':=ag tb (cl [ptr bs,ptr jb,.slice ka (us++[y]).length kc,.bool br] 78)::az 80 1 (.slice ka (us++[y]).length kc) (us++[y]).length ((us++[y]).map bP)::aP (us++[y])::X::F) ad ?_
  have xp:y.c=iS x:=by
   unfold Tk.c iS
   rw[ZC,ZB,ZA,← HL,Int.toNat_natCast]
  ((refine bO hE Tryz.func65 rfl _ rfl ⟨rfl,us++[y],_,by rw[Gj,hcu,xp,p'],rfl⟩ ad))
 have Uu:=ct 1 ai h1
 by_cases h2:k=2
 ·subst h2
  by_cases h0:0<more.length
  case neg =>
   have p':=m5 (cs:=kz ts) hr (fun h=>absurd h.1 (by decide)) (fun h=>absurd h.1 (by decide)) (fun h=>h0 h.2)
   refine go ?_
   ((refine bj 95 ((.bool false)) rfl ((congrArg Value.bool (decide_eq_false ai))) ?_))
   refine go ?_
   refine aj (H':=ag tb (cl [ptr bs,ptr jb,tv,.bool br] 78)::az 80 1 tv ts.length (ts.map bP)::aP ts::X::F) ad ?_
   ((refine bO hE Tryz.func65 rfl _ rfl ⟨rfl,fN p'⟩ ad))
  obtain⟨m,l,rfl⟩:∃m l,more=m::l:=by
   match more,h0 with
   | m::l,_=>exact⟨m,l,rfl⟩
  have p':=AU (cs:=kz ts) hr
  have Yw:=GS Z tb bs jb tv br ts d _ m l WZ YJ WS ai hn hw
  unfold dg dV at Yw
  refine go ?_
  ((refine bj 95 ((.bool true)) rfl ((congrArg Value.bool (decide_eq_true ai))) ?_))
  refine go ?_
  refine aI (U:=ao) (l:=dC d) 0 zr zr zr zr zr zr ?_
  ((refine go ?_;(refine ah zr zr zr zr (Yw) ad ?_ bE)))
  rintro _ _⟨rfl,kk,hkk,rfl⟩
  refine go ?_
  refine aj (H':=ag tb (cl [ptr bs,ptr jb,tv,.bool br] 78)::az 80 1 tv (ts.map (fP (AJ m l) d kk (l.map hz))).length ((ts.map (fP (AJ m l) d kk (l.map hz))).map bP)::aP (ts.map (fP (AJ m l) d kk (l.map hz)))::X::F) ad ?_
  ((refine bO hE Tryz.func65 rfl _ rfl ⟨rfl,ts.map (fP (AJ m l) d kk (l.map hz)),tv,by rw[D5 ts d m l kk hkk,p'],rfl⟩ ad))
 have S5:=ct 2 ai h2
 have p':=m5 (cs:=kz ts) hr (fun h=>h3 h.1) (fun h=>h1 h.1) (fun h=>h2 h.1)
 refine go ?_
 ((refine aB 39 ((.bool false)) rfl ((congrArg Value.bool Uu)) ?_))
 refine go ?_
 ((refine aB 98 ((.bool false)) rfl ((congrArg Value.bool S5)) ?_))
 refine go ?_
 refine aj (H':=ag tb (cl [ptr bs,ptr jb,tv,.bool br] 78)::az 80 1 tv ts.length (ts.map bP)::aP ts::X::F) ad ?_
 ((refine bO hE Tryz.func65 rfl _ rfl ⟨rfl,fN p'⟩ ad))
end Go.Proofs.YthjbidjmgbjkiaaGreatDoor
namespace Go.Proofs.YthjbidjmgbjkiaaGreatDoor
open Go Go.SL
def Tk.drop(y:Tk)(i:Nat):Tk:=⟨y.yb,y.sb,y.mb,y.x,y.n,ju y.ws i false,fun j=>if j=(i:Int)then none else y.pf j⟩
theorem EY(es:List (Int × Value))(k j:Int):dI (pY es k) j=if j=k then none else dI es j:=by
 induction es with
 | nil=>simp[pY,dI]
 | cons x es ih =>
  unfold pY at ih ⊢
  rw[List.filter_cons]
  by_cases hx:x.1=k
  ·simp only[hx,decide_true,Bool.not_true,Bool.false_eq_true,if_false]
   rw[ih]
   by_cases hj:j=k
   ·rw[if_pos hj,if_pos hj]
   ·rw[if_neg hj,if_neg hj]
    unfold dI
    rw[List.find?_cons_of_neg (by simp;rw[hx];exact fun e=>hj e.symm)]
  ·simp only[hx,decide_false,Bool.not_false,if_true]
   unfold dI at ih ⊢
   by_cases Ns:x.1=j
   ·rw[List.find?_cons_of_pos (by simpa using Ns),List.find?_cons_of_pos (by simpa using Ns),if_neg (fun e=>hx (Ns.trans e))]
   ·rw[List.find?_cons_of_neg (by simpa using Ns),List.find?_cons_of_neg (by simpa using Ns)]
    exact ih
theorem Gr.drop{z:Value × List (Int × Value) × fH}{y:Tk}(h:Gr z y)(i:Nat):Gr (z.1,pY z.2.1 (i:Int),z.2.2) (y.drop i):=fun j=>by
 simp only
 rw[EY]
 by_cases hj:j=(i:Int)
 ·rw[if_pos hj]
  show(if j=(i:Int)then none else y.pf j)=none
  rw[if_pos hj]
 ·rw[if_neg hj]
  have:=h j
  show match dI z.2.1 j with
   | none=>(if j=(i:Int)then none else y.pf j)=none
   | some v=>∃l,(if j=(i:Int)then none else y.pf j)=some l∧AO z.2.2 32 v l.length (l.flatMap dC)
  rw[if_neg hj]
  exact this
attribute [local irreducible] J K aD Ends ag az aL bK aZ aQ aV bg bQ aC
set_option maxRecDepth 20000 in
theorem GU(y:Tk)(i:Nat)(hi:i<y.n)(hn:y.n≤65536)(hw:y.n≤y.ws.length*64) :
  aD Tryz.prog 127 [ptr y.yb,.int .i64 (i:Int)] [mV y] (fun r H=>r = .tuple #[]∧H=[mV (y.drop i)]):=by
 refine aD.enter Tryz.func127 ak rfl Tryz.ntmps127 zr zr ?_
 intro G F R hE
 refine dM (eG y) ?_
 rintro⟨wv,cs,M⟩ hz
 have rH:=Dj y.sb y.n wv y.ws hn hw i hi false
 unfold dO at rH
 refine aj (H':=ag y.yb (cl (iY y) 83)::ag y.sb (cl [.int .i64 (y.n:Int),wv] 101)::az 102 1 wv y.ws.length (qV y.ws)::aL (Value.int .i64) y.mb cs::aV 36 M::F) (by unfold ki;exact ad) ?_
 refine go ?_
 ((refine ah zr zr zr zr (rH) ad ?_ bE))
 rintro _ _⟨rfl,rfl⟩
 ((refine aG (H':=ag y.yb (cl (iY y) 83)::aL (Value.int .i64) y.mb cs::ag y.sb (cl [.int .i64 (y.n:Int),wv] 101)::az 102 1 wv (ju y.ws i false).length (qV (ju y.ws i false))::aV 36 M::F) ad ?_))
 refine go ?_
 refine o6 (U:=ao) (es:=cs) (key:=(i:Int)) 1 (vL Tryz.underlying3) (fun w hw=>by exact trivial) zr zr zr zr zr zr zr ?_
 refine go ?_
 refine aj (H':=ki (y.drop i) (wv,pY cs (i:Int),M)++F) (by unfold ki;exact ad) ?_
 refine aj (gB (hz.drop i) _) ?_
 ((refine bO hE Tryz.func127 rfl _ rfl ⟨rfl,rfl⟩ ad))
end Go.Proofs.YthjbidjmgbjkiaaGreatDoor
namespace Go.Proofs.YthjbidjmgbjkiaaGreatDoor
open Go Go.SL
def lI(c:TC):Prop:=c.n≤1024∧c.n≤c.ws.length*64∧c.ws.length≤65536∧∀k l,c.pf k=some l→l.length≤10
theorem lI.drop{c:TC}(h:lI c)(i:Nat):lI (c.drop i):=⟨h.1,by unfold TC.drop;simp only[kY];exact h.2.1,by unfold TC.drop;simp only[kY];exact h.2.2.1,fun k l hk=>by
  unfold TC.drop at hk
  simp only at hk
  split at hk
  · cases hk
  · exact h.2.2.2 k l hk⟩
theorem lI.hold{s:ek}{c:TC}(h:lI c):∀k,lI (gX s c k).1
 | 0=>h
 | k+1=>by
  rw[nr]
  have ih:=lI.hold (s:=s) h k
  unfold ke
  split
  ·split
   ·exact ih.drop k
   ·exact ih
  ·exact ih
theorem D6{x:Bl}{i:Int}{b:List UInt8}{p:List Dg}(h:fW x i b p=true):p.length≤10:=by
 unfold fW at h
 split at h
 ·cases h
 ·rw[Bool.and_eq_true]at h
  have:=h.2
  unfold j9 at this
  rw[decide_eq_true_iff]at this
  rw[this.2.1]
  exact mM _ _
theorem K0{s:ek}{y:Tk}{ls:List (List UInt8)}{i:Nat}(h:fZ y.ws y.n (i:Int)=false):ke s (y.c,ls) i=(y.c,ls):=by
 unfold ke
 exact if_neg (show ¬fZ y.ws y.n (i:Int)=true by rw[h];simp)
theorem Et{s:ek}{y:Tk}{ls:List (List UInt8)}{i:Nat}(h:fZ y.ws y.n (i:Int)=true)(h2:(cq s y.x (i:Int)).2≠0∨fW y.x i (cq s y.x (i:Int)).1 ((y.pf i).getD [])=false):ke s (y.c,ls) i=(y.c.drop i,ls):=by
 unfold ke
 exact(if_pos (show fZ y.ws y.n (i:Int)=true from h)).trans (if_pos h2)
theorem Es{s:ek}{y:Tk}{ls:List (List UInt8)}{i:Nat}(h:fZ y.ws y.n (i:Int)=true)(h2:¬((cq s y.x (i:Int)).2≠0∨fW y.x i (cq s y.x (i:Int)).1 ((y.pf i).getD [])=false)):ke s (y.c,ls) i=(y.c,ls++[bH y.x.d i ((y.pf i).getD [])]):=by
 unfold ke
 exact(if_pos (show fZ y.ws y.n (i:Int)=true from h)).trans (if_neg h2)
attribute [local irreducible] J K aD Ends ag az aL bK aZ aQ aV bg bQ aC bS
set_option maxRecDepth 20000 in
set_option maxHeartbeats 4000000 in
theorem KZ(X:HP)(hK:mX X)(tb bs jb bd:Nat)(tv:Value)(br:Bool)(q:Int)(mb:Nat)(s:SJ)(hRd:∀nm at_ n,(s.1.A.read nm at_ n).1.length≤1048576)(y0:Tk)(lF:lI y0.c)(g8:0≤y0.x.size∧y0.x.size≤1000000000000)(SW:0≤y0.x.piece∧y0.x.piece≤1000000000000) :
  aD Tryz.prog 66 [ptr tb,ptr y0.yb] [ag tb (cl [ptr bs,ptr jb,tv,.bool br] 78),mV y0,bS bs bd jb q mb [] s,X]
  (fun r H=>∃(y:Tk) (Z:HP),y.yb=y0.yb∧y.c=(jR s.1 y0.c).1∧qi Z r (jR s.1 y0.c).2∧H=[ag tb (cl [ptr bs,ptr jb,tv,.bool br] 78),mV y,bS bs bd jb q mb [] s,X,Z]):=by
 have nM:=qh y0.x g8 SW
 unfold dQ at nM
 have MJ:y0.n≤1024:=lF.1
 refine aD.enter Tryz.func66 ak rfl Tryz.ntmps66 zr zr ?_
 intro G F R hE
 refine aj (aq.pick [1] rfl) ?_
 refine dM (eG y0) ?_
 rintro⟨wv,cs,N⟩ OE
 refine aj (H':=ag y0.yb (cl (iY y0) 83)::ag y0.sb (cl [.int .i64 (y0.n:Int),wv] 101)::az 102 1 wv y0.ws.length (qV y0.ws)::aL (Value.int .i64) y0.mb cs::aV 36 N::ag tb (cl [ptr bs,ptr jb,tv,.bool br] 78)::bS bs bd jb q mb [] s::X::F) (by unfold ki;exact ad) ?_
 refine go ?_
 refine ef (U:=ao) (cs:=bn y0.x) 0 zr zr zr zr zr zr ?_
 ((refine ah zr zr zr zr (nM) ad ?_ bE))
 rintro r _ rfl
 ((refine aM 0 rfl ?_))
 rintro a8 c8 rfl
 refine fG (bs:=bR y0.x) 0 rfl ?_
 intro F'
 refine go ?_
 refine au (U:=ao) (cs:=[.slice a8 (bR y0.x).length c8]) zr zr zr zr zr zr zr zr zr bp ?_
 intro row
 ((refine aG (H':=ag y0.yb (cl (iY y0) 83)::ag y0.sb (cl [.int .i64 (y0.n:Int),wv] 101)::az 102 1 wv y0.ws.length (qV y0.ws)::aL (Value.int .i64) y0.mb cs::aV 36 N::ag row (cl [.slice a8 (bR y0.x).length c8] 39)::az 5 1 (.slice a8 (bR y0.x).length c8) (bR y0.x).length (bV (bR y0.x))::ag tb (cl [ptr bs,ptr jb,tv,.bool br] 78)::bS bs bd jb q mb [] s::X::F) ad ?_))
 refine go ?_
 ((refine ah zr zr zr zr (ly y0.sb y0.n wv) ad ?_ bE))
 rintro _ _⟨rfl,rfl⟩
 refine go ?_
 refine aj (aq.trans (H2:=ki y0 (wv,cs,N)++(ag row (cl [.slice a8 (bR y0.x).length c8] 39)::az 5 1 (.slice a8 (bR y0.x).length c8) (bR y0.x).length (bV (bR y0.x))::ag tb (cl [ptr bs,ptr jb,tv,.bool br] 78)::bS bs bd jb q mb [] s::X::F)) (by unfold ki;exact ad) (gB OE _)) ?_
 refine aj (H':=ag row (cl [.slice a8 (bR y0.x).length c8] 39)::az 5 1 (.slice a8 (bR y0.x).length c8) (bR y0.x).length (bV (bR y0.x))::mV y0::ag tb (cl [ptr bs,ptr jb,tv,.bool br] 78)::bS bs bd jb q mb [] s::X::F) ad ?_
 refine aj (dZ 39 1 row 1 1 [.slice a8 (bR y0.x).length c8] [] _ rfl (Nat.le_refl _) (by simp)) ?_
 refine bo (fun z:Nat × Tk × UI × Option Addr × Nat=>z.1≤y0.n∧z.2.1.yb=y0.yb∧z.2.1.c=(gX s.1 y0.c z.1).1∧Aq z.2.2.1 (gX s.1 y0.c z.1).2∧z.2.2.1.cs.length≤z.1+1) (fun z=>y0.n-z.1)
  (fun z=>[(0,ptr tb),(1,ptr y0.yb),(5,.slice z.2.2.2.1 z.2.2.1.cs.length z.2.2.2.2),(19,.int .i64 (y0.n:Int)),(20,.int .i64 (z.1:Int))])
  (fun z=>az 39 1 (.slice z.2.2.2.1 z.2.2.1.cs.length z.2.2.2.2) z.2.2.1.cs.length z.2.2.1.cs::z.2.2.1.Z::mV z.2.1::ag tb (cl [ptr bs,ptr jb,tv,.bool br] 78)::bS bs bd jb q mb [] s::X::F) (0,y0,⟨[.slice a8 (bR y0.x).length c8],az 5 1 (.slice a8 (bR y0.x).length c8) (bR y0.x).length (bV (bR y0.x))⟩,some ⟨row,0,none⟩,1) ⟨Nat.zero_le _,rfl,rfl,?_,by simp⟩ rfl bY ad ?_
 ·refine⟨rfl,fun j x hx=>?_⟩
  match j,hx with
  | 0,hx=>cases hx;exact⟨_,rfl,F'⟩
  | j+1,hx=>cases hx
 clear OE F' cs N wv
 rintro⟨i,y,M,oa,oc⟩⟨hi,Je,xp,hM,Y2⟩ ih
 simp only at hi Je xp hM Y2
 dsimp only
 refine go ?_
 refine aw zr zr ?_ ?_
 ·intro cO
  have fU:i<y0.n:=by omega
  obtain⟨ls,OW⟩:∃ls,ls=(gX s.1 y0.c i).2:=⟨_,rfl⟩
  have OP:gX s.1 y0.c i=(y.c,ls):=by rw[xp,OW]
  have iF:=nr s.1 y0.c i
  rw[OP]at iF
  rw[← OW]at hM
  have WK:lI y.c:=by rw[xp];exact lF.hold i
  have Yt:=F4 s.1 y0.c i
  rw[← xp]at Yt
  have BV:y.n=y0.n:=Yt.2.1
  have Wi:y.n≤65536:=Nat.le_trans WK.1 ai
  have zQ:y.n≤y.ws.length*64:=WK.2.1
  have rK:=o7 y.sb y.n
  rw[← Je]
  refine aj (aq.pick [2] rfl) ?_
  refine dM (eG y) ?_
  rintro⟨wv,cs,N⟩ hz
  have gg:∀H,aq (ag y.yb (cl (iY y) 83)::ag y.sb (cl [.int .i64 (y.n:Int),wv] 101)::az 102 1 wv y.ws.length (qV y.ws)::aL (Value.int .i64) y.mb cs::aV 36 N::H) (mV y::H):=fun H=>aq.trans (H2:=ki y (wv,cs,N)++H) (by unfold ki;exact ad) (gB hz _)
  have rK:=o7 y.sb y.n wv y.ws Wi zQ (i:Int)
  unfold dO at rK
  refine aj (H':=ag y.yb (cl (iY y) 83)::ag y.sb (cl [.int .i64 (y.n:Int),wv] 101)::az 102 1 wv y.ws.length (qV y.ws)::aL (Value.int .i64) y.mb cs::aV 36 N::az 39 1 (.slice oa M.cs.length oc) M.cs.length M.cs::M.Z::ag tb (cl [ptr bs,ptr jb,tv,.bool br] 78)::bS bs bd jb q mb [] s::X::F) (by unfold ki;exact ad) ?_
  refine go ?_
  ((refine ah zr zr zr zr (rK) ad ?_ bE))
  rintro _ _⟨rfl,rfl⟩
  cases Jo:fZ y.ws y.n (i:Int)with
  | false =>
   have uu:gX s.1 y0.c (i+1)=(y.c,ls):=by rw[iF,K0 Jo]
   refine go ?_
   ((refine bj 1 ((ptr y0.yb)) rfl ((by rw[Je])) ?_))
   refine aj (aq.trans ad (gg (az 39 1 (.slice oa M.cs.length oc) M.cs.length M.cs::M.Z::ag tb (cl [ptr bs,ptr jb,tv,.bool br] 78)::bS bs bd jb q mb [] s::X::F))) ?_
   refine aO ih (i+1,y,M,oa,oc) rfl ⟨by simp only;omega,Je,by rw[uu],by rw[uu];exact hM,by simp only;omega⟩ (by simp only;omega) bY ad
  | true =>
  have Um:=wO bs bd q mb s.1 y.x (i:Int)
  unfold dQ at Um
  obtain⟨bb,Ie⟩:∃b,b=(cq s.1 y.x (i:Int)).1:=⟨_,rfl⟩
  obtain⟨ee,UA⟩:∃e,e=(cq s.1 y.x (i:Int)).2:=⟨_,rfl⟩
  have jV:bb.length≤1048576:=by
   rw[Ie]
   unfold cq
   split
   ·split
    ·simp
    ·exact hRd _ _ _
   ·simp
  have Wy:(ee≠0∨fW y.x i bb ((y.pf i).getD [])=false)→gX s.1 y0.c (i+1)=(y.c.drop i,ls):=fun h=>by
   rw[UA,Ie]at h
   rw[iF,Et Jo h]
  have Wx:¬(ee≠0∨fW y.x i bb ((y.pf i).getD [])=false)→gX s.1 y0.c (i+1)=(y.c,ls++[bH y.x.d i ((y.pf i).getD [])]):=fun h=>by
   rw[UA,Ie]at h
   rw[iF,Es Jo h]
  rw[← Ie,← UA]at Um
  clear rK Ie UA iF OP OW
  obtain⟨pv,Er,zU⟩:=hz.look (i:Int)
  simp only at Er zU
  obtain⟨pa,pc,aad,OO⟩:=zU.shape
  subst aad
  refine go ?_
  refine aj (H':=bS bs bd jb q mb [] s::ag y.yb (cl (iY y) 83)::ag y.sb (cl [.int .i64 (y.n:Int),wv] 101)::az 102 1 wv y.ws.length (qV y.ws)::aL (Value.int .i64) y.mb cs::aV 36 N::az 39 1 (.slice oa M.cs.length oc) M.cs.length M.cs::M.Z::ag tb (cl [ptr bs,ptr jb,tv,.bool br] 78)::X::F) ad ?_
  refine aj (Ap bs bd jb q mb s _) ?_
  refine aj (H':=ag tb (cl [ptr bs,ptr jb,tv,.bool br] 78)::ag y.yb (cl (iY y) 83)::ag y.sb (cl [.int .i64 (y.n:Int),wv] 101)::az 102 1 wv y.ws.length (qV y.ws)::aL (Value.int .i64) y.mb cs::aV 36 N::(bT bs bd q mb s.1++(oz jb bd dX s.2::az 39 1 (.slice oa M.cs.length oc) M.cs.length M.cs::M.Z::X::F))) ad ?_
  refine aF (fun w=>Sat G w ([ag tb (cl [ptr bs,ptr jb,tv,.bool br] 78),ag y.yb (cl (iY y) 83)])) (.st 0 (.st 1 (.st 2 (.st 3 (.st 4 (.st 5 (.st 6 (.st 7 (.st 8 (.act 9 (.st 10 (.st 11 (.st 12 (.st 13 (.st 14 .nil))))))))))))))) rfl ak ak ak (fun w hw=>hw.aX ad) ?_
  refine go ?_
  refine bW (U:=ao) (cs:=bn y.x) 1 zr zr zr zr zr zr ?_
  refine go ?_
  ((refine ah rfl rfl rfl rfl (Um) ad ?_ (fun _ _ w hp hw=>by obtain⟨_,rfl,rfl⟩:=hp;exact hw.aX ad)))
  rintro _ _⟨rv,rfl,rfl⟩
  ((refine aM 0 rfl ?_))
  rintro ra rc rfl
  (refine nN ?_)
  refine gL rfl ?_
  refine aj (aq.trans ad (qH bs bd jb q mb s (az 5 1 (.slice ra bb.length rc) bb.length (bV bb)::ag y.yb (cl (iY y) 83)::ag y.sb (cl [.int .i64 (y.n:Int),wv] 101)::az 102 1 wv y.ws.length (qV y.ws)::aL (Value.int .i64) y.mb cs::aV 36 N::az 39 1 (.slice oa M.cs.length oc) M.cs.length M.cs::M.Z::ag tb (cl [ptr bs,ptr jb,tv,.bool br] 78)::X::F))) ?_
  refine oU (bs:=bb) 1 rfl ?_
  intro aaU
  obtain⟨pf,hpf⟩:∃l,l=(y.pf (i:Int)).getD []:=⟨_,rfl⟩
  rw[← hpf]at Er zU OO Wy Wx
  have MK:=vH (Sep [X,az 5 1 (.slice ra bb.length rc) bb.length (bV bb),aV 36 N]) (hK.mono (aW (H:=[X,az 5 1 (.slice ra bb.length rc) bb.length (bV bb),aV 36 N]) (i:=0) rfl)) y.x (i:Int) (.slice ra bb.length rc) bb (aaU.mono (aW (i:=1) rfl)) ai (.slice pa pf.length pc) pf ⟨(zU.view _).mono (aW (i:=2) rfl),pa,pc,rfl,OO⟩
  unfold dQ at MK
  have UB:=GU y i ai Wi zQ
  refine aj (H':=X::az 5 1 (.slice ra bb.length rc) bb.length (bV bb)::aV 36 N::ag y.yb (cl (iY y) 83)::aL (Value.int .i64) y.mb cs::ag y.sb (cl [.int .i64 (y.n:Int),wv] 101)::az 102 1 wv y.ws.length (qV y.ws)::az 39 1 (.slice oa M.cs.length oc) M.cs.length M.cs::M.Z::ag tb (cl [ptr bs,ptr jb,tv,.bool br] 78)::bS bs bd jb q mb [] s::F) ad ?_
  refine aj (aq.bL [X,az 5 1 (.slice ra bb.length rc) bb.length (bV bb),aV 36 N] _) ?_
  refine aj (H':=ag y.yb (cl (iY y) 83)::aL (Value.int .i64) y.mb cs::Sep [X,az 5 1 (.slice ra bb.length rc) bb.length (bV bb),aV 36 N]::ag y.sb (cl [.int .i64 (y.n:Int),wv] 101)::az 102 1 wv y.ws.length (qV y.ws)::az 39 1 (.slice oa M.cs.length oc) M.cs.length M.cs::M.Z::ag tb (cl [ptr bs,ptr jb,tv,.bool br] 78)::bS bs bd jb q mb [] s::F) ad ?_
  have k7:∀H,aq (Sep [X,az 5 1 (.slice ra bb.length rc) bb.length (bV bb),aV 36 N]::ag y.yb (cl (iY y) 83)::aL (Value.int .i64) y.mb cs::ag y.sb (cl [.int .i64 (y.n:Int),wv] 101)::az 102 1 wv y.ws.length (qV y.ws)::H) (ag y.yb (cl (iY y) 83)::ag y.sb (cl [.int .i64 (y.n:Int),wv] 101)::az 102 1 wv y.ws.length (qV y.ws)::aL (Value.int .i64) y.mb cs::aV 36 N::X::H):=fun H=>(aq.cg [X,az 5 1 (.slice ra bb.length rc) bb.length (bV bb),aV 36 N] _).trans ad
  refine aF (fun w=>Sat G w ([ag y.yb (cl (iY y) 83),aL (Value.int .i64) y.mb cs])) (.st 0 (.st 1 (.st 2 (.st 3 (.st 4 (.st 5 (.st 6 (.st 7 (.st 8 (.st 9 (.st 10 (.st 11 (.st 12 (.st 13 (.st 14 (.act 15 (.st 16 (.st 17 .nil)))))))))))))))))) rfl ak ak ak (fun w hw=>hw.aX ad) ?_
  refine go ?_
  by_cases he:ee=0
  case neg =>
   have uu:=Wy (.inl he)
   ((refine aB 45 ((.bool true)) rfl ((congrArg Value.bool (decide_eq_true ai))) ?_))
   refine go ?_
   ((refine aG (aq.trans ad (k7 (az 39 1 (.slice oa M.cs.length oc) M.cs.length M.cs::M.Z::ag tb (cl [ptr bs,ptr jb,tv,.bool br] 78)::bS bs bd jb q mb [] s::F))) ?_))
   ((refine aG (gg _) ?_))
   refine go ?_
   ((refine ah zr zr zr zr (UB) ad ?_ bE))
   rintro _ _⟨rfl,rfl⟩
   refine go ?_
   ((refine bj 1 ((ptr y0.yb)) rfl ((by rw[Je])) ?_))
   refine aO ih (i+1,y.drop i,M,oa,oc) rfl ⟨by simp only;omega,Je,by rw[uu];rfl,by rw[uu];exact hM,by simp only;omega⟩ (by simp only;omega) bY ad
  ((refine aB 45 ((.bool false)) rfl ((congrArg Value.bool (decide_eq_false ai))) ?_))
  refine go ?_
  refine bW (U:=ao) (cs:=bn y.x) 0 zr zr zr zr zr zr ?_
  refine go ?_
  refine ze (U:=ao) (kv:=Value.int .i64) (es:=cs) (key:=(i:Int)) rfl (vL Tryz.underlying3) zr zr zr zr zr zr zr (fun w hw=>hw.nv (i:=1) rfl) ?_
  ((refine aB 57 ((.slice pa pf.length pc)) rfl (Er) ?_))
  refine go ?_
  ((refine ah rfl rfl rfl rfl (MK) ad ?_ (fun _ _ w hp hw=>by obtain⟨rfl,rfl⟩:=hp;exact hw.aX ad)))
  rintro _ _⟨rfl,rfl⟩
  cases HU:fW y.x i bb pf with
  | false =>
   have uu:=Wy (.inr HU)
   refine go ?_
   ((refine aG (aq.trans ad (k7 (az 39 1 (.slice oa M.cs.length oc) M.cs.length M.cs::M.Z::ag tb (cl [ptr bs,ptr jb,tv,.bool br] 78)::bS bs bd jb q mb [] s::F))) ?_))
   ((refine aG (gg _) ?_))
   refine go ?_
   ((refine ah zr zr zr zr (UB) ad ?_ bE))
   rintro _ _⟨rfl,rfl⟩
   refine go ?_
   ((refine bj 1 ((ptr y0.yb)) rfl ((by rw[Je])) ?_))
   refine aO ih (i+1,y.drop i,M,oa,oc) rfl ⟨by simp only;omega,Je,by rw[uu];rfl,by rw[uu];exact hM,by simp only;omega⟩ (by simp only;omega) bY ad
  | true =>
  have uu:=Wx (fun h=>by rcases h with h|h;exact h he;rw[HU]at h;cases h)
  have sI:=D6 HU
  have Dq:=yu y.x.d i ai (aV 36 N) (.slice pa pf.length pc) pf (zU.view _) ai
  unfold dV at Dq
  refine go ?_
  refine aj (aq.trans ad (k7 (az 39 1 (.slice oa M.cs.length oc) M.cs.length M.cs::M.Z::ag tb (cl [ptr bs,ptr jb,tv,.bool br] 78)::bS bs bd jb q mb [] s::F))) ?_
  refine aj (H':=ag y.yb (cl (iY y) 83)::aL (Value.int .i64) y.mb cs::aV 36 N::az 39 1 (.slice oa M.cs.length oc) M.cs.length M.cs::ag y.sb (cl [.int .i64 (y.n:Int),wv] 101)::az 102 1 wv y.ws.length (qV y.ws)::M.Z::ag tb (cl [ptr bs,ptr jb,tv,.bool br] 78)::bS bs bd jb q mb [] s::X::F) ad ?_
  refine aF (fun w=>Sat G w ([ag y.yb (cl (iY y) 83),aL (Value.int .i64) y.mb cs])) (.st 0 (.st 1 (.st 2 (.st 3 (.st 4 (.st 5 (.st 6 (.st 7 (.st 8 (.st 9 (.st 10 (.st 11 (.st 12 (.act 13 (.act 14 (.act 15 (.st 16 .nil))))))))))))))))) rfl ak ak ak (fun w hw=>hw.aX ad) ?_
  refine go ?_
  refine bW (U:=ao) (cs:=dC y.x.d) 0 zr zr zr zr zr zr ?_
  refine go ?_
  refine ze (U:=ao) (kv:=Value.int .i64) (es:=cs) (key:=(i:Int)) rfl (vL Tryz.underlying3) zr zr zr zr zr zr zr (fun w hw=>hw.nv (i:=1) rfl) ?_
  ((refine aB 76 ((.slice pa pf.length pc)) rfl (Er) ?_))
  refine go ?_
  ((refine ah rfl rfl rfl rfl (Dq) ad ?_ (fun _ _ w hp hw=>by obtain rfl:=hp;exact hw.aX ad)))
  rintro r9 _ rfl
  ((refine aM 0 rfl ?_))
  rintro a9 c9 rfl
  refine fG (bs:=bH y.x.d i pf) 0 rfl ?_
  intro Tz
  refine go ?_
  refine au (U:=ao) (cs:=[.slice a9 (bH y.x.d i pf).length c9]) zr zr zr zr zr zr zr zr zr (fun _ w hw=>hw.aX ad) ?_
  intro M3
  ((refine aG (H':=ag M3 (cl [.slice a9 (bH y.x.d i pf).length c9] 39)::az 39 1 (.slice oa M.cs.length oc) M.cs.length M.cs::az 5 1 (.slice a9 (bH y.x.d i pf).length c9) (bH y.x.d i pf).length (bV (bH y.x.d i pf))::M.Z::ag y.yb (cl (iY y) 83)::ag y.sb (cl [.int .i64 (y.n:Int),wv] 101)::az 102 1 wv y.ws.length (qV y.ws)::aL (Value.int .i64) y.mb cs::aV 36 N::ag tb (cl [ptr bs,ptr jb,tv,.bool br] 78)::bS bs bd jb q mb [] s::X::F) ad ?_))
  refine go ?_
  refine bh (U:=ao) (mm:=1) (news:=[.slice a9 (bH y.x.d i pf).length c9]) 1 0 rfl rfl rfl rfl rfl rfl rfl rfl rfl rfl rfl rfl (Vw.ag rfl) rfl (by intro v hv;simp at hv;rw[hv];rfl) ai (by show(_+_)*24≤_;omega) (fun _=>rfl) (fun _ w hw=>hw.aX ad) ?_
  intro v1
  ((refine aM 1 rfl ?_))
  rintro ja jc rfl
  refine go ?_
  have Cm:=hM.add Tz
  have Tq:(M.cs++[Value.slice a9 (bH y.x.d i pf).length c9]).length=M.cs.length+1:=by simp
  refine aj (H':=az 5 1 (.slice a9 (bH y.x.d i pf).length c9) (bH y.x.d i pf).length (bV (bH y.x.d i pf))::M.Z::ag y.yb (cl (iY y) 83)::ag y.sb (cl [.int .i64 (y.n:Int),wv] 101)::az 102 1 wv y.ws.length (qV y.ws)::aL (Value.int .i64) y.mb cs::aV 36 N::az 39 1 (.slice ja (M.cs++[Value.slice a9 (bH y.x.d i pf).length c9]).length jc) (M.cs++[Value.slice a9 (bH y.x.d i pf).length c9]).length (M.cs++[Value.slice a9 (bH y.x.d i pf).length c9])::ag tb (cl [ptr bs,ptr jb,tv,.bool br] 78)::bS bs bd jb q mb [] s::X::F) (by rw[Tq];exact ad) ?_
  refine aj (aq.bL [az 5 1 (.slice a9 (bH y.x.d i pf).length c9) (bH y.x.d i pf).length (bV (bH y.x.d i pf)),M.Z] _) ?_
  refine aj (aq.trans ad (gg (Sep [az 5 1 (.slice a9 (bH y.x.d i pf).length c9) (bH y.x.d i pf).length (bV (bH y.x.d i pf)),M.Z]::az 39 1 (.slice ja (M.cs++[Value.slice a9 (bH y.x.d i pf).length c9]).length jc) (M.cs++[Value.slice a9 (bH y.x.d i pf).length c9]).length (M.cs++[Value.slice a9 (bH y.x.d i pf).length c9])::ag tb (cl [ptr bs,ptr jb,tv,.bool br] 78)::bS bs bd jb q mb [] s::X::F))) ?_
  ((refine bj 1 ((ptr y0.yb)) rfl ((by rw[Je])) ?_))
  ((refine bj 5 ((.slice ja (M.cs++[Value.slice a9 (bH y.x.d i pf).length c9]).length jc)) rfl ((by rw[Tq])) ?_))
  refine aO ih (i+1,y,⟨M.cs++[Value.slice a9 (bH y.x.d i pf).length c9],Sep [az 5 1 (.slice a9 (bH y.x.d i pf).length c9) (bH y.x.d i pf).length (bV (bH y.x.d i pf)),M.Z]⟩,ja,jc) rfl ⟨by simp only;omega,Je,by rw[uu],by rw[uu];exact Cm,by simp only[Tq];omega⟩ (by simp only;omega) bY ad
 ·intro eQ
  have sJ:i=y0.n:=by omega
  subst sJ
  clear ih
  rw[show gX s.1 y0.c y0.n=jR s.1 y0.c from rfl]at xp hM
  refine lr 0 rfl ?_
  intro iy
  refine cM 0 rfl ?_
  intro KQ
  have yF:=hM.1
  have lG:qi (Sep [az 39 1 (.slice oa M.cs.length oc) M.cs.length M.cs,M.Z]) (.slice oa M.cs.length oc) (jR s.1 y0.c).2:=by
   rw[yF]at KQ iy ⊢
   exact qi.Yn KQ iy yF hM.2
  refine aj (aq.bL [az 39 1 (.slice oa M.cs.length oc) M.cs.length M.cs,M.Z] _) ?_
  refine go ?_
  refine aj (H':=ag tb (cl [ptr bs,ptr jb,tv,.bool br] 78)::mV y::bS bs bd jb q mb [] s::X::Sep [az 39 1 (.slice oa M.cs.length oc) M.cs.length M.cs,M.Z]::F) ad ?_
  ((refine ae hE Tryz.func66 rfl _ rfl ⟨y,_,Je,xp,lG,rfl⟩ ad))
end Go.Proofs.YthjbidjmgbjkiaaGreatDoor
namespace Go.Proofs.YthjbidjmgbjkiaaGreatDoor
open Go Go.SL
def L3(c:TC):Prop:=lI c∧bz c.x=true
theorem lI.fresh(x:Bl):lI (iS x):=by
 have h:=pM x
 unfold lI iS
 simp only[List.length_replicate]
 exact⟨ai,ai,ai,fun k l h=>by cases h⟩
theorem lI.put{c:TC}(h:lI c)(i:Nat){l:List Dg}(hl:l.length≤10):lI (c.put i l):=⟨h.1,by unfold TC.put;simp only[kY];exact h.2.1,by unfold TC.put;simp only[kY];exact h.2.2.1,fun k l' hk=>by
  unfold TC.put at hk
  simp only at hk
  split at hk
  · injection hk with hk;rw[← hk];exact hl
  · exact h.2.2.2 k l' hk⟩
theorem mw{cs:List TC}(h:∀c∈cs,L3 c)(d:Dg)(m:List UInt8)(l:List (List UInt8)):(∀c∈og cs d m l,L3 c)∧(og cs d m l).length=cs.length:=by
 unfold og
 split
 ·refine⟨fun c hc=>?_,by simp⟩
  obtain⟨y,hy,rfl⟩:=List.mem_map.1 hc
  split
  ·rename_i hh
   exact⟨(h y hy).1.put _ (by rw[hh.2.2];exact mM _ _),(h y hy).2⟩
  ·exact h y hy
 ·exact⟨h,rfl⟩
theorem Sr{cs:List TC}(h:∀c∈cs,L3 c)(d:Dg):(∀c∈M6 cs d,L3 c)∧(M6 cs d).length≤cs.length:=⟨fun c hc=>h c (List.mem_filter.1 hc).1,List.length_filter_le _ _⟩
theorem JJ{cs:List TC}(h:∀c∈cs,L3 c)(b:List UInt8):(∀c∈fu cs b,L3 c)∧(fu cs b).length≤cs.length+1:=by
 unfold fu
 split
 ·exact⟨h,ai⟩
 ·rename_i k d more _
  have hr:=Sr h d
  split
  ·exact⟨hr.1,ai⟩
  ·split
   ·split
    ·split
     ·rename_i s p r _ _ _
      split
      ·rename_i KX
       refine⟨fun c hc=>?_,by rw[List.length_append];simp;omega⟩
       rcases List.mem_append.1 hc with hc|hc
       ·exact hr.1 c hc
       ·rw[List.mem_singleton.1 hc];exact⟨lI.fresh _,KX⟩
      ·exact⟨h,ai⟩
     ·exact⟨h,ai⟩
    ·split
     ·have:=mw h d ‹_› [‹_›,‹_›]
      exact⟨(mw h d _ _).1,by rw[(mw h d _ _).2];omega⟩
     ·exact⟨h,ai⟩
   ·split
    ·exact⟨(mw h d _ _).1,by rw[(mw h d _ _).2];omega⟩
    ·exact⟨h,ai⟩
   ·exact⟨h,ai⟩
theorem Fu:∀(ls:List (List UInt8)) (cs:List TC),(∀c∈cs,L3 c)→(∀c∈ls.foldl fu cs,L3 c)∧(ls.foldl fu cs).length≤cs.length+ls.length
 | [],cs,h=>⟨h,by simp⟩
 | b::ls,cs,h=>by
  obtain⟨h1,h2⟩:=JJ h b
  obtain⟨h3,h4⟩:=Fu ls (fu cs b) h1
  exact⟨h3,by simp only[List.foldl_cons,List.length_cons];omega⟩
theorem vb(ls:List (List UInt8)):(∀c∈ls.foldl fu [],L3 c)∧(ls.foldl fu []).length≤ls.length:=by
 have:=Fu ls [] (fun c h=>by cases h)
 exact⟨this.1,by simpa using this.2⟩
theorem Fm{q:Int}{x:Bl}{s t:ek}{e:Nat}(h:dE q x s e t):t.aT=s.aT∨t.aT=s.aT++[(x.d,x)]:=by
 unfold dE at h
 split at h
 ·exact .inl (by rw[h.2])
 split at h
 ·exact .inl (by rw[h.2])
 split at h
 ·exact .inl (by rw[h.2])
 split at h
 ·exact .inl (by rw[h.2])
 split at h
 ·exact .inr (by rw[h.2])
 ·obtain⟨e1,s1,⟨B,_,rfl⟩,h2⟩:=h
  rcases h2 with⟨_,_,rfl⟩|⟨_,_,rfl⟩
  ·exact .inl rfl
  ·exact .inr rfl
theorem jF{x:Bl}(h:bz x=true):1≤x.size∧x.size≤1048576∧16≤x.piece∧x.piece≤16384:=by
 simp only[bz,decide_eq_true_eq]at h
 omega
theorem mU.begin{q:Int}{x:Bl}{s t:ek}{e:Nat}(h:mU s.aT)(hl:s.aT.length<1000000)(hr:bz x=true)(hR:dE q x s e t):mU t.aT∧t.aT.length≤s.aT.length+1:=by
 rcases Fm hR with h1|h1
 ·rw[h1];exact⟨h,ai⟩
 ·rw[h1]
  have:=jF hr
  refine⟨⟨fun y hy=>?_,by simp;omega⟩,by simp⟩
  rcases List.mem_append.1 hy with hy|hy
  ·exact h.1 y hy
  ·rw[List.mem_singleton.1 hy];exact⟨by simp only;omega,by simp only;omega⟩
theorem tO:∀(ss:List (PS→Nat→PS→Prop)),(∀sp∈ss,∀x e y,sp x e y→iW x.1 y.1)→∀(x:PS) (e:Nat) (y:PS),gy ss x e y→y.1.aH.length≤x.1.aH.length+ss.length∧y.1.writes.length≤x.1.writes.length+ss.length
 | [],_,x,e,y,h=>by obtain⟨_,rfl⟩:=h;simp
 | sp::ss,hs,x,e,y,⟨e1,x1,h1,h2⟩=>by
  have hg:=hs sp (List.mem_cons_self ..) x e1 x1 h1
  unfold iW at hg
  rcases h2 with⟨_,_,rfl⟩|⟨_,h2⟩
  ·simp only[List.length_cons];omega
  ·have:=tO ss (fun sp h=>hs sp (List.mem_cons_of_mem _ h)) x1 e y h2
   simp only[List.length_cons];omega
theorem zb{nm:ByteArray}{ls:List (List UInt8)}{x y:PS}{e:Nat}(h:E5 nm ls x e y):y.1.aH.length≤x.1.aH.length+7∧y.1.writes.length≤x.1.writes.length+7:=by
 have hg:=tO (gf nm ls x.1) (fun sp gw x e y hS=>by
  unfold gf at gw
  have key:sp=zy (bN nm)∨sp∈[zz (bN nm),DR (bN nm) (cu ls),JV (bN nm),zx (bN nm) nm,DS,Sp (ls.flatMap cy).length]:=by
   rcases List.mem_append.1 gw with gw|gw
   ·split at gw
    ·exact .inl (List.mem_singleton.1 gw)
    ·cases gw
   ·exact .inr gw
  simp only[List.mem_cons,List.not_mem_nil,or_false]at key
  rcases key with rfl|rfl|rfl|rfl|rfl|rfl|rfl
  ·obtain⟨⟨h1,h2⟩,_⟩:=hS;rw[h2];exact oG _ _ _
  ·obtain⟨⟨f,_,h1,h2⟩,_⟩:=hS;rw[h2];exact oH _ _ _ _
  ·obtain⟨⟨h1,h2⟩,_⟩:=hS;rw[h2];exact jz _ _ _ _ _
  ·obtain⟨⟨h1,h2⟩,_⟩:=hS;rw[h2];exact jA _ _ _
  ·obtain⟨⟨h1,h2⟩,_⟩:=hS;rw[h2];exact oF _ _ _ _
  ·obtain⟨⟨h1,h2⟩,_⟩:=hS;rw[h2];exact iR _
  ·obtain⟨h1,h2⟩:=hS;rw[h2];exact⟨by simp,by simp⟩) x e y h
 have hl:(gf nm ls x.1).length≤7:=by
  unfold gf
  split <;> simp
 omega
theorem wR{A A':Ab}{nm:ByteArray}{e:Nat}{j:JN}(h:oS A nm e A' j):A'.aH.length≤A.aH.length+7∧A'.writes.length≤A.writes.length+7:=by
 unfold oS at h
 split at h
 ·rw[h.2];omega
 split at h
 ·rw[h.2];omega
 obtain⟨y,hy,rfl,_⟩:=h
 exact zb hy
theorem HW(s:ek)(z:TC × List (List UInt8))(hz:lI z.1)(i:Nat)(hi:i≤1000000000000):(∀x∈(ke s z i).2,x∈z.2∨x.length≤760)∧(ke s z i).2.length≤z.2.length+1:=by
 unfold ke
 split
 ·split
  ·exact⟨fun x hx => .inl hx,by simp only;omega⟩
  ·rename_i rI
   refine⟨fun x hx=>?_,by simp⟩
   rcases List.mem_append.1 hx with hx|hx
   ·exact .inl hx
   ·right
    rw[List.mem_singleton.1 hx]
    have sI:((z.1.pf i).getD []).length≤10:=by
     cases hp:z.1.pf i with
     | none=>simp
     | some l=>exact hz.2.2.2 _ l hp
    have:=gF 2 z.1.x.d (er i ((z.1.pf i).getD [])) (by simp[er];omega) (kZ i hi _)
    unfold bH
    unfold er at this
    omega
 ·exact⟨fun x hx => .inl hx,ai⟩
theorem yE(s:ek)(c:TC)(hc:lI c)(hr:bz c.x=true):∀k,k≤1024→(∀x∈(gX s c k).2,x.length≤760)∧(gX s c k).2.length≤k+1
 | 0,_=>by
  refine⟨fun x hx=>?_,by simp[gX]⟩
  have:x=bR c.x:=by simpa[gX]using hx
  rw[this]
  have hb:=jF hr
  have:=gF 1 c.x.d (iA c.x) (by simp[iA]) (lk c.x ai ai)
  unfold bR
  omega
 | k+1,hk=>by
  obtain⟨h1,h2⟩:=yE s c hc hr k ai
  rw[nr]
  obtain⟨h3,h4⟩:=HW s (gX s c k) (hc.hold k) k ai
  refine⟨fun x hx=>?_,ai⟩
  rcases h3 x hx with h|h
  ·exact h1 x h
  ·exact h
theorem HX(s:ek)(c:TC)(h:L3 c):(∀x∈(jR s c).2,x.length≤760)∧(jR s c).2.length≤1025:=by
 obtain⟨h1,h2⟩:=yE s c h.1 h.2 c.n h.1.1
 have:=h.1.1
 exact⟨h1,by unfold jR;omega⟩
theorem we:∀(ls:List (List UInt8)) (n:Nat),(∀x∈ls,x.length≤760)→ls.length≤n→(ls.flatMap cy).length≤770*n
 | [],n,_,_=>by simp
 | x::ls,n,h,hn=>by
  rw[List.length_cons]at hn
  have:=we ls (n-1) (fun y hy=>h y (List.mem_cons_of_mem _ hy)) ai
  have h1:=h x (List.mem_cons_self ..)
  have h2:=oK x ai
  rw[List.flatMap_cons,List.length_append]
  omega
end Go.Proofs.YthjbidjmgbjkiaaGreatDoor
