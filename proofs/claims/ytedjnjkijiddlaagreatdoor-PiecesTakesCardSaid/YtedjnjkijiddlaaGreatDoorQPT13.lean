import Derived.Test.YtedjnjkijiddlaaGreatDoorQPT9
import Derived.Test.YtedjnjkijiddlaaGreatDoorQPT10
import Derived.Test.YtedjnjkijiddlaaGreatDoorQPT11
import Derived.Test.YtedjnjkijiddlaaGreatDoorQPT12
set_option linter.unusedSimpArgs false
set_option linter.unusedVariables false
set_option maxHeartbeats 4000000
set_option maxRecDepth 20000
set_option linter.defProp false
namespace Go.Proofs.YtedjnjkijiddlaaGreatDoor
open Go Go.SL
def List.l4{α:Type}{l:List α}{i:Nat}{x:α}(h:l[i]?=some x):l.set i x=l:=by
 refine List.ext_getElem? fun j=>?_
 by_cases hj:j=i
 ·subst hj
  rw[List.getElem?_set_self (List.getElem?_eq_some_iff.1 h).1,h]
 ·rw[List.getElem?_set_ne (fun e=>hj e.symm)]
attribute [local irreducible] J K aE Ends ae aB aP bP bq aS aZ bu bX aC cG
def FC(X:HP)(hK:oG X)(tb bs jb bd:Nat)(tv:Value)(q:Int)(mb:Nat)(ts:List Tk)(br:Bool)(s:SJ)(x:Bl)(i:Int)(hi : -9223372036854775808≤i∧i≤9223372036854775807)(bv:Value)(b:List UInt8)(hb:eM X bv b)(iC:b.length≤900000000)(pv:Value)(p:List Dg)(hp:As X pv p)(hl:ts.length≤1000000)(hn:∀y∈ts,y.n≤65536)(hw:∀y∈ts,y.n≤y.ws.length*64)(cK:s.1.A.aw.length≤800000000)(fb:s.1.A.writes.length≤800000000)(m:Nat)(hm:m≤800000000)(hx:∀t u,fO (mU x i b) s 0 t→fO (ko x) t 0 u→SQ m 0 u) :
  aE Tryz.prog 13 [ptr tb,eL x,.int .i64 i,bv,pv] (eh tb bs jb tv ts br++[cG bs bd jb q mb [] s,X])
  (fun r H=>∃(e:Nat) (ed:List Tk) (jB:Bool) (t:SJ),r = .int .i64 (e:Int)∧H=eh tb bs jb tv ed jB++[cG bs bd jb q mb [] t,X]∧Ii x i b p ts s br e ed jB t):=by
 have hf:=rn tb bs jb tv br ts x hl
 have tj:=yu X hK x i bv b hb iC pv p hp
 have Td:=fun a n c=>u5 tb bs jb tv a n c
 have hbv:=hb.1
 have S9:=hp.1
 obtain⟨ba,bc,rfl,MK⟩:=hb.2
 obtain⟨pa,pc,rfl,aeB⟩:=hp.2
 unfold jq at Td
 unfold eh eL at hf
 unfold eL at tj
 unfold eh eL
 refine aE.ao Tryz.func13 Tryz.ntmps13 fun G F R hE=>?_
 refine aD rfl ?_
 refine bG zr zr bD ?_
 intro b2
 refine bG zr zr bD ?_
 intro b3
 refine bG zr zr bD ?_
 intro b4
 refine bG zr zr bD ?_
 intro b5
 cases br with
 | true =>
  refine aI (H':=ae tb (cl [ptr bs,ptr jb,tv,.bool true] 88)::aB 90 1 tv ts.length (ts.map cB)::aW ts::cG bs bd jb q mb [] s::X::ae b2 (cl [ptr tb] 30)::F) ah (go ?_)
  refine ai (H':=ae tb (cl [ptr bs,ptr jb,tv,.bool true] 88)::aB 90 1 tv ts.length (ts.map cB)::aW ts::cG bs bd jb q mb [] s::X::F) ah ?_
  refine ad hE Tryz.func13 zr zr ⟨10,ts,true,s,rfl,rfl,.inl ⟨rfl,rfl,rfl,rfl,rfl⟩⟩
 | false =>
 refine aI (H':=ae b2 (cl [ptr tb] 30)::ae b3 (cl (bH x) 37)::ae tb (cl [ptr bs,ptr jb,tv,.bool false] 88)::aB 90 1 tv ts.length (ts.map cB)::aW ts::cG bs bd jb q mb [] s::X::ae b4 (cl [.int .i64 i] 3)::ae b5 (cl [.slice ba b.length bc] 22)::F) ah (go ?_)
 refine aG (U:=aQ) (l:=bH x) 1 zr zr zr zr zr zr ?_
 refine aJ hf ?_
 cases sN:hD ts x with
 | none =>
  unfold QS
  refine go ?_
  refine ai (H':=ae tb (cl [ptr bs,ptr jb,tv,.bool false] 88)::aB 90 1 tv ts.length (ts.map cB)::aW ts::cG bs bd jb q mb [] s::X::F) ah ?_
  refine ad hE Tryz.func13 zr zr ⟨4,ts,false,s,rfl,rfl,.inr (.inl ⟨rfl,sN,rfl,rfl,rfl,rfl⟩)⟩
 | some y =>
 obtain⟨k,hk,Df⟩:=n7 sN
 have Ov:y∈ts:=List.mem_of_getElem? hk
 have I':=hn y Ov
 have Hi:=hw y Ov
 have rH:∀e ed jB t,(((i<0∨(y.n:Int)≤i)∧e=1∧ed=ts∧jB=false∧t=s)∨((0≤i∧i<y.n)∧cy y.ws y.n i=true∧e=0∧ed=ts∧jB=false∧t=s) ∨
  ((0≤i∧i<y.n)∧cy y.ws y.n i=false∧cd x i b p=false∧e=8∧ed=ts∧jB=false∧t=s) ∨
  ((0≤i∧i<y.n)∧cy y.ws y.n i=false∧cd x i b p=true∧jB=gZ e∧iZ (fO (mU x i b)::fO (ko x)::kW (bJ x.d i.toNat p)) s e t∧((e≠0∧ed=ts)∨(e=0∧ed=ts.set k (y.put i.toNat p)))))→Ii x i b p ts s false e ed jB t:=fun e ed jB t h => .inr (.inr ⟨rfl,k,y,sN,hk,Df,h⟩)
 unfold QS
 refine go ?_
 refine ai (H':=aW ts::ae tb (cl [ptr bs,ptr jb,tv,.bool false] 88)::aB 90 1 tv ts.length (ts.map cB)::cG bs bd jb q mb [] s::X::ae b2 (cl [ptr tb] 30)::ae b3 (cl (bH x) 37)::ae b4 (cl [.int .i64 i] 3)::ae b5 (cl [.slice ba b.length bc] 22)::F) ah ?_
 refine ai (kL hk _) ?_
 refine eG (gi y) ?_
 rintro⟨wv,cs,M⟩ hz
 have ji:∀H,al (ae y.yb (cl (lr y) 93)::ae y.sb (cl [.int .i64 (y.n:Int),wv] 117)::aB 118 1 wv y.ws.length (qV y.ws)::aP (Value.int .i64) y.mb cs::aZ 35 M::aW (ts.take k++ts.drop (k+1))::H) (aW ts::H):=fun H=>al.trans (H2:=mN y (wv,cs,M)++(aW (ts.take k++ts.drop (k+1))::H)) (by unfold mN;exact ah) (al.trans (iX hz _) (lF hk _))
 refine ai (H':=ae y.yb (cl (lr y) 93)::ae y.sb (cl [.int .i64 (y.n:Int),wv] 117)::aB 118 1 wv y.ws.length (qV y.ws)::aP (Value.int .i64) y.mb cs::aZ 35 M::aW (ts.take k++ts.drop (k+1))::ae tb (cl [ptr bs,ptr jb,tv,.bool false] 88)::aB 90 1 tv ts.length (ts.map cB)::cG bs bd jb q mb [] s::X::ae b2 (cl [ptr tb] 30)::ae b3 (cl (bH x) 37)::ae b4 (cl [.int .i64 i] 3)::ae b5 (cl [.slice ba b.length bc] 22)::F) (by unfold mN;exact ah) ?_
 refine aF (fun w=>Sat G w ([ae y.yb (cl (lr y) 93),ae b4 (cl [.int .i64 i] 3)])) (cZ 0 8 (.act 8 (cZ 9 3 .nil))) rfl ak ak ak dT ?_
 refine go ?_
 by_cases Li:i<0
 ·refine au 27 ((.bool true)) rfl ((congrArg Value.bool (decide_eq_true Li))) (go ?_)
  refine ai (ji _) ?_
  refine ai (H':=ae tb (cl [ptr bs,ptr jb,tv,.bool false] 88)::aB 90 1 tv ts.length (ts.map cB)::aW ts::cG bs bd jb q mb [] s::X::F) ah ?_
  refine ad hE Tryz.func13 zr zr ⟨1,ts,false,s,rfl,rfl,rH _ _ _ _ (.inl ⟨.inl Li,rfl,rfl,rfl,rfl⟩)⟩
 refine au 27 ((.bool false)) rfl ((congrArg Value.bool (decide_eq_false Li))) (go ?_)
 refine bo (oC y.sb y.n wv) ?_
 refine go ?_
 by_cases qm:(y.n:Int)≤i
 ·refine aX 24 ((.bool true)) rfl ((congrArg Value.bool (decide_eq_true qm))) (go ?_)
  refine ai (al.trans ah (ji (ae tb (cl [ptr bs,ptr jb,tv,.bool false] 88)::aB 90 1 tv ts.length (ts.map cB)::cG bs bd jb q mb [] s::X::F))) ?_
  refine ai (H':=ae tb (cl [ptr bs,ptr jb,tv,.bool false] 88)::aB 90 1 tv ts.length (ts.map cB)::aW ts::cG bs bd jb q mb [] s::X::F) ah ?_
  refine ad hE Tryz.func13 zr zr ⟨1,ts,false,s,rfl,rfl,rH _ _ _ _ (.inl ⟨.inr qm,rfl,rfl,rfl,rfl⟩)⟩
 refine aX 24 ((.bool false)) rfl ((congrArg Value.bool (decide_eq_false qm))) ?_
 obtain⟨j,hj⟩:∃j:Nat,i=j:=⟨i.toNat,ag⟩
 have Jm:i.toNat=j:=by omega
 have hrg:0≤i∧i<y.n:=by omega
 have rJ:=uF y.sb y.n wv y.ws I' Hi i
 unfold eQ at rJ
 refine go ?_
 refine ai (H':=ae y.yb (cl (lr y) 93)::ae y.sb (cl [.int .i64 (y.n:Int),wv] 117)::aB 118 1 wv y.ws.length (qV y.ws)::aP (Value.int .i64) y.mb cs::aZ 35 M::aW (ts.take k++ts.drop (k+1))::ae b4 (cl [.int .i64 i] 3)::ae tb (cl [ptr bs,ptr jb,tv,.bool false] 88)::aB 90 1 tv ts.length (ts.map cB)::cG bs bd jb q mb [] s::X::ae b2 (cl [ptr tb] 30)::ae b3 (cl (bH x) 37)::ae b5 (cl [.slice ba b.length bc] 22)::F) ah ?_
 refine aF (fun w=>Sat G w ([ae y.yb (cl (lr y) 93),ae b4 (cl [.int .i64 i] 3)])) (cZ 0 5 (.act 5 (.st 6 .nil))) rfl ak ak ak dT ?_
 refine go ?_
 refine bo rJ ?_
 cases Tm:cy y.ws y.n i with
 | true =>
  refine go ?_
  refine ai (al.trans ah (ji (ae tb (cl [ptr bs,ptr jb,tv,.bool false] 88)::aB 90 1 tv ts.length (ts.map cB)::cG bs bd jb q mb [] s::X::F))) ?_
  refine ai (H':=ae tb (cl [ptr bs,ptr jb,tv,.bool false] 88)::aB 90 1 tv ts.length (ts.map cB)::aW ts::cG bs bd jb q mb [] s::X::F) ah ?_
  refine ad hE Tryz.func13 zr zr ⟨0,ts,false,s,rfl,rfl,rH _ _ _ _ (.inr (.inl ⟨hrg,Tm,rfl,rfl,rfl,rfl⟩))⟩
 | false =>
 refine go ?_
 refine aI (al.trans ah (ji (ae b2 (cl [ptr tb] 30)::ae b3 (cl (bH x) 37)::ae b4 (cl [.int .i64 i] 3)::ae b5 (cl [.slice ba b.length bc] 22)::ae tb (cl [ptr bs,ptr jb,tv,.bool false] 88)::aB 90 1 tv ts.length (ts.map cB)::cG bs bd jb q mb [] s::X::F))) ?_
 refine aI (H':=ae b3 (cl (bH x) 37)::ae b4 (cl [.int .i64 i] 3)::ae b5 (cl [.slice ba b.length bc] 22)::ae b2 (cl [ptr tb] 30)::X::ae tb (cl [ptr bs,ptr jb,tv,.bool false] 88)::aB 90 1 tv ts.length (ts.map cB)::aW ts::cG bs bd jb q mb [] s::F) ah (go ?_)
 refine aG (U:=aQ) (l:=bH x) 0 zr zr zr zr zr zr (go ?_)
 refine aJ tj ?_
 cases K4:cd x i b p with
 | false =>
  refine go ?_
  refine ai (H':=ae tb (cl [ptr bs,ptr jb,tv,.bool false] 88)::aB 90 1 tv ts.length (ts.map cB)::aW ts::cG bs bd jb q mb [] s::X::F) ah ?_
  refine ad hE Tryz.func13 zr zr ⟨8,ts,false,s,rfl,rfl,rH _ _ _ _ (.inr (.inr (.inl ⟨hrg,Tm,K4,rfl,rfl,rfl,rfl⟩)))⟩
 | true =>
 have nV:p.length≤10:=by
  unfold cd at K4
  split at K4
  ·cases K4
  ·rw[Bool.and_eq_true]at K4
   have:=K4.2
   unfold gb at this
   rw[decide_eq_true_iff]at this
   rw[this.2.1]
   exact od _ _
 have Ga:=AV x.d j ag X (.slice pa p.length pc) p S9 ag
 rw[← hj]at Ga
 unfold dV at Ga
 have XQ:(bJ x.d j p).length≤1000000:=by
  have:=g9 2 x.d (eB j p) (by simp[eB];omega) (ku j ag p)
  unfold bJ
  unfold eB at this
  omega
 clear hf tj rJ ji
 refine go ?_
 refine ai (H':=ae tb (cl [ptr bs,ptr jb,tv,.bool false] 88)::aB 90 1 tv ts.length (ts.map cB)::aW ts::cG bs bd jb q mb [] s::X::ae b2 (cl [ptr tb] 30)::ae b3 (cl (bH x) 37)::ae b4 (cl [.int .i64 i] 3)::ae b5 (cl [.slice ba b.length bc] 22)::F) ah ?_
 refine fL rfl ?_
 refine sl 1 (fun y:(Option Addr × Nat) × (Option Addr × Nat) × Nat × Nat=>True) (fun z=>[(4,.slice pa p.length pc),(5,ptr b2),(6,ptr b3),(7,ptr b4),(8,ptr b5),(11,ptr y.yb),(12,.slice z.1.1 4 z.1.2)]) (fun z=>aB 96 1 (.slice z.1.1 4 z.1.2) 4 ([.func (.func 45) #[] #[ptr b2,ptr b3,ptr b4,ptr b5],.func (.func 47) #[] #[ptr b2,ptr b3] ]++iv z.2.2.1 z.2.2.2 jb)::aB 5 1 (.slice z.2.1.1 (bJ x.d j p).length z.2.1.2) (bJ x.d j p).length (bV (bJ x.d j p))::ae z.2.2.1 (cl [ptr tb] 30)::ae z.2.2.2 (cl [.slice z.2.1.1 (bJ x.d j p).length z.2.1.2] 22)::ae tb (cl [ptr bs,ptr jb,tv,.bool false] 88)::aB 90 1 tv ts.length (ts.map cB)::aW ts::cG bs bd jb q mb [] s::X::ae b2 (cl [ptr tb] 30)::ae b3 (cl (bH x) 37)::ae b4 (cl [.int .i64 i] 3)::ae b5 (cl [.slice ba b.length bc] 22)::F) rfl ?_ ?_
 rotate_left
 ·intro tail
  refine aF (fun w=>Sat G w ([ae b2 (cl [ptr tb] 30),ae b3 (cl (bH x) 37),ae b4 (cl [.int .i64 i] 3)])) (.st 0 (.st 1 (cZ 3 5 (.fork (.act 2 (.act 8 (.act 9 (.act 10 (.st 11 .nil))))) (.act 8 (.fork (.act 2 (.act 9 (.act 10 (.st 11 .nil)))) (.act 9 (.act 2 (.act 10 (.st 11 .nil)))))))))) rfl ak ak ak dT ?_
  refine go ?_
  refine cf (U:=aQ) (cs:=dC x.d) 1 zr zr zr zr zr zr ?_
  repeat'(first|refine qL ?_ ?_|(refine aj (cs:=[.func (.func 45) #[] #[ptr b2,ptr b3,ptr b4,ptr b5],.func (.func 47) #[] #[ptr b2,ptr b3] ]) zr zr zr zr zr zr zr zr zr (fun _ w hw=>by exact hw.cV ah) ?_;intro r0)|(((refine cN Ga ?_));rintro _ _ rfl;((refine aO 0 rfl ?_));rintro a8 c8 rfl)|(((refine cN (Td a8 (bJ x.d j p).length c8) ?_));rintro _ _⟨c2,c3,row,rfl,rfl⟩)|(refine gy ?_)|fail)
  all_goals(
   refine aI (H':=ae r0 (cl [.func (.func 45) #[] #[ptr b2,ptr b3,ptr b4,ptr b5],.func (.func 47) #[] #[ptr b2,ptr b3] ] 96)::ae row (cl (iv c2 c3 jb) 96)::aB 5 1 (.slice a8 (bJ x.d j p).length c8) (bJ x.d j p).length (bV (bJ x.d j p))::ae c2 (cl [ptr tb] 30)::ae c3 (cl [.slice a8 (bJ x.d j p).length c8] 22)::ae tb (cl [ptr bs,ptr jb,tv,.bool false] 88)::aB 90 1 tv ts.length (ts.map cB)::aW ts::cG bs bd jb q mb [] s::X::ae b2 (cl [ptr tb] 30)::ae b3 (cl (bH x) 37)::ae b4 (cl [.int .i64 i] 3)::ae b5 (cl [.slice ba b.length bc] 22)::F) ah ?_
   refine aI (eJ 96 1 r0 2 2 [.func (.func 45) #[] #[ptr b2,ptr b3,ptr b4,ptr b5],.func (.func 47) #[] #[ptr b2,ptr b3] ] [] _ rfl (Nat.le_refl _) (by simp)) ?_
   refine aR (mm:=2) (news:=iv c2 c3 jb) 0 1 rfl rfl rfl rfl rfl rfl rfl rfl rfl rfl rfl rfl (Vw.ae rfl) rfl (by intro v hv;simp[iv]at hv;rcases hv with rfl|rfl <;> rfl) ag (by show(_+_)*8≤_;omega) (fun _=>rfl) (fun _ w hw=>by exact hw.cV ah) ?_
   intro v1
   refine aO 0 rfl ?_
   rintro ja jc rfl
   refine ld ?_
   refine lh tail ((ja,jc),(a8,c8),c2,c3) rfl trivial cg ah)
 rintro⟨⟨ja,jc⟩,⟨a8,c8⟩,c2,c3⟩ -
 simp only
 refine dy 0 rfl ?_
 intro o4
 refine qE (bs:=(bJ x.d j p)) 1 rfl ?_
 intro Jq
 have jy:=Nk tb bs jb bd tv q mb s 45 47 [ptr b2,ptr b3,ptr b4,ptr b5] [ptr b2,ptr b3] c2 c3 _ [X,ae b2 (cl [ptr tb] 30),ae b3 (cl (bH x) 37),ae b4 (cl [.int .i64 i] 3),ae b5 (cl [.slice ba b.length bc] 22)] (fO (mU x i b)) (fO (ko x)) a8 c8 (bJ x.d j p) Jq XQ m hm hx
  (Ky X tb bs jb bd b2 b3 b4 b5 q mb tv s x i ba bc b _ _ _ hbv ag hi ag ag) (fun u hu=>Kw tb bs jb bd b2 b3 q mb tv u x _ _ _ X _ _ (by have:=(ot hu.1).1;omega) (by have:=(ot hu.1).2;omega)) _ _ o4
 unfold jq at jy
 refine ai (al.pick [9] rfl) (go ?_)
 refine aI (H':=cG bs bd jb q mb [] s::([ae c2 (cl [ptr tb] 30),ae c3 (cl [.slice a8 (bJ x.d j p).length c8] 22),aB 5 1 (.slice a8 (bJ x.d j p).length c8) (bJ x.d j p).length (bV (bJ x.d j p)),X,ae b2 (cl [ptr tb] 30),ae b3 (cl (bH x) 37),ae b4 (cl [.int .i64 i] 3),ae b5 (cl [.slice ba b.length bc] 22)]++(aB 96 1 (.slice ja 4 jc) 4 ([.func (.func 45) #[] #[ptr b2,ptr b3,ptr b4,ptr b5],.func (.func 47) #[] #[ptr b2,ptr b3] ]++iv c2 c3 jb)::ae tb (cl [ptr bs,ptr jb,tv,.bool false] 88)::aB 90 1 tv ts.length (ts.map cB)::aW ts::F))) ah ?_
 refine aI (CY bs bd jb q mb _ s _) ?_
 refine aH jy ?_
 rintro _ _⟨e,t,rfl,rfl,hR⟩
 refine aI (H':=cG bs bd jb q mb [ae c2 (cl [ptr tb] 30),ae c3 (cl [.slice a8 (bJ x.d j p).length c8] 22),aB 5 1 (.slice a8 (bJ x.d j p).length c8) (bJ x.d j p).length (bV (bJ x.d j p)),X,ae b2 (cl [ptr tb] 30),ae b3 (cl (bH x) 37),ae b4 (cl [.int .i64 i] 3),ae b5 (cl [.slice ba b.length bc] 22)] t::ae tb (cl [ptr bs,ptr jb,tv,.bool (gZ e)] 88)::aB 90 1 tv ts.length (ts.map cB)::aW ts::F) ah ?_
 refine aI (xp bs bd jb q mb _ t _) ?_
 have gx:iZ (fO (mU x i b)::fO (ko x)::kW (bJ x.d i.toNat p)) s e t:=by rw[Jm];exact hR
 by_cases he:e=0
 ·subst he
  have rG:=Dt y j ag I' Hi X (.slice pa p.length pc) p S9 ag
  rw[← hj]at rG
  refine aI (H':=aW ts::ae b4 (cl [.int .i64 i] 3)::ae tb (cl [ptr bs,ptr jb,tv,.bool (gZ 0)] 88)::aB 90 1 tv ts.length (ts.map cB)::cG bs bd jb q mb [] t::X::F) ah ?_
  refine aI (kL hk _) ?_
  refine aI (H':=ae b4 (cl [.int .i64 i] 3)::oD y::aW (ts.take k++ts.drop (k+1))::ae tb (cl [ptr bs,ptr jb,tv,.bool (gZ 0)] 88)::aB 90 1 tv ts.length (ts.map cB)::cG bs bd jb q mb [] t::X::F) ah (go ?_)
  refine aJ rG ?_
  refine aI (H':=oD (y.put j p)::aW (ts.take k++ts.drop (k+1))::ae tb (cl [ptr bs,ptr jb,tv,.bool (gZ 0)] 88)::aB 90 1 tv ts.length (ts.map cB)::cG bs bd jb q mb [] t::X::F) ah ?_
  refine aI (IE hk (y.put j p) _) ?_
  have gk:(ts.set k (y.put j p)).length=ts.length:=List.length_set
  have Ae:(ts.set k (y.put j p)).map cB=ts.map cB:=by
   rw[List.map_set]
   exact List.l4 (by rw[List.getElem?_map,hk];rfl)
  refine go ?_
  refine ai (H':=ae tb (cl [ptr bs,ptr jb,tv,.bool (gZ 0)] 88)::aB 90 1 tv (ts.set k (y.put j p)).length ((ts.set k (y.put j p)).map cB)::aW (ts.set k (y.put j p))::cG bs bd jb q mb [] t::X::F) (by rw[gk,Ae];exact ah) ?_
  refine ad hE Tryz.func13 zr zr ⟨0,ts.set k (y.put j p),gZ 0,t,rfl,rfl,rH _ _ _ _ (.inr (.inr (.inr ⟨hrg,Tm,K4,rfl,gx,.inr ⟨rfl,by rw[Jm]⟩⟩)))⟩
 ·refine aI (H':=ae tb (cl [ptr bs,ptr jb,tv,.bool (gZ e)] 88)::aB 90 1 tv ts.length (ts.map cB)::aW ts::cG bs bd jb q mb [] t::X::F) ah (go ?_)
  refine aq zr zr ?_ ?_
  ·intro _
   refine go ?_
   refine ad hE Tryz.func13 zr zr ⟨e,ts,gZ e,t,rfl,rfl,rH _ _ _ _ (.inr (.inr (.inr ⟨hrg,Tm,K4,rfl,gx,.inl ⟨he,rfl⟩⟩)))⟩
  ·intro h;exfalso;omega
end Go.Proofs.YtedjnjkijiddlaaGreatDoor
namespace Go.Proofs.YtedjnjkijiddlaaGreatDoor
open Go Go.SL
def NS(w:jj):YZ w w=w:=by unfold YZ;exact BitVec.or_self
attribute [local irreducible] J K aE Ends ae aB aP bP bq aS aZ bu bX aC
def MA(sb n:Nat)(wv:Value)(ws:List jj)(hl:ws.length≤65536):aE Tryz.prog 115 [ptr sb,ptr sb,.func (.func 116) #[] #[] ] (eQ sb n wv ws) (fun r H=>∃ob ov,r = .tuple #[ptr ob,.int .i64 0]∧H=eQ ob n ov ws++eQ sb n wv ws):=by
 unfold eQ
 refine aE.ao Tryz.func115 Tryz.ntmps115 fun G F R hE=>?_
 refine dz 1 rfl ?_
 rintro a c rfl
 refine dy 1 rfl ?_
 intro dE
 have lA:=SG (aB 118 1 (.slice a ws.length c) ws.length (qV ws)) (.slice a ws.length c) ws dE ag
 refine go ?_
 refine aF (fun w=>Sat G w ([ae sb (cl [.int .i64 (n:Int),.slice a ws.length c] 117)])) (cZ 0 13 .nil) rfl ak ak ak dT ?_
 refine go ?_
 refine aX 23 ((.bool false)) rfl ((congrArg Value.bool (decide_eq_false (by simp)))) (go ?_)
 refine aF (fun w=>Sat G w ([ae sb (cl [.int .i64 (n:Int),.slice a ws.length c] 117)])) (cZ 0 8 (.act 8 (.st 9 (.act 10 (.st 11 .nil))))) rfl ak ak ak dT ?_
 refine go ?_
 refine cN lA ?_
 rintro ov _ rfl
 refine aO 0 rfl ?_
 rintro oa oc rfl
 refine go ?_
 refine bG zr zr (fun _ w hw=>hw.cV ah) ?_
 intro ob
 refine go ?_
 refine bB (fun i:Nat=>i≤ws.length) (fun i=>ws.length-i) (fun i=>[(2,.func (.func 116) #[] #[]),(8,ptr ob),(38,.slice a ws.length c),(39,.int .i64 (ws.length:Int)),(40,.int .i64 (i:Int))])
  (fun _=>ae ob (cl [.int .i64 (n:Int),.slice oa ws.length oc] 117)::aB 118 1 (.slice oa ws.length oc) ws.length (qV ws)::ae sb (cl [.int .i64 (n:Int),.slice a ws.length c] 117)::aB 118 1 (.slice a ws.length c) ws.length (qV ws)::F) 0 (Nat.zero_le _) rfl cg ah ?_
 intro i hi ih
 refine go ?_
 refine aq zr zr ?_ ?_
 ·intro de
  have gl:i<ws.length:=by omega
  obtain⟨w,SX⟩:∃w,ws[i]?=some w:=⟨ws[i],by simp⟩
  have dF:=B8 SX
  refine dy 1 rfl ?_
  intro hvo
  obtain⟨b1,o1,c1,EV⟩:=dE.some (qNe gl)
  simp only[Value.slice.injEq,true_and]at EV
  obtain⟨rfl,rfl⟩:=EV
  obtain⟨b3,o3,c3,Tq⟩:=hvo.some (qNe gl)
  simp only[Value.slice.injEq,true_and]at Tq
  obtain⟨rfl,rfl⟩:=Tq
  refine go ?_
  refine bM i zr zr zr zr zr zr zr zr gl ?_
  refine aK ?_
  refine bj 3 i zr zr zr dE rfl dF zr zr (go ?_)
  refine aF (fun w=>Sat G w ([ae ob (cl [.int .i64 (n:Int),.slice (some ⟨b3,o3,none⟩) ws.length oc] 117),aB 118 1 (.slice (some ⟨b3,o3,none⟩) ws.length oc) ws.length (qV ws)])) (cZ 0 14 (.act 14 (.st 15 (.act 16 .nil)))) rfl ak ak ak dT ?_
  (repeat(first|refine gy ?_|refine bM i zr zr zr zr zr zr zr zr gl ?_|(refine aK ?_;refine cO 1 i zr zr zr hvo rfl dF zr zr ?_)))
  refine uC rfl rfl rfl rfl (Sv w w) ah ?_ (fun _ _ w' hp hw=>by obtain⟨_,rfl⟩:=hp;exact hw.cV ah)
  rintro _ _⟨rfl,rfl⟩
  rw[NS]
  (repeat((refine bM i zr zr zr zr zr zr zr zr gl ?_)))
  refine aT ?_
  refine py (U:=aQ) (q:=i) 1 gB zr zr zr zr zr zr zr gl rfl ?_
  rw[show(qV ws).set i (.int .u64 (w.toNat:Int))=qV ws from List.l4 dF]
  refine go ?_
  refine aM ih (i+1) rfl ag ag cg ah
 ·intro fA
  clear ih
  refine go ?_
  refine ad hE Tryz.func115 zr zr ⟨ob,_,rfl,rfl⟩
def SH(sb n:Nat)(wv:Value)(ws:List jj)(hl:ws.length≤65536):aE Tryz.prog 58 [ptr sb,ptr sb] (eQ sb n wv ws) (fun r H=>∃ob ov,r = .tuple #[ptr ob,.int .i64 0]∧H=eQ ob n ov ws++eQ sb n wv ws):=by
 have hj:=MA sb n wv ws hl
 unfold eQ at hj ⊢
 refine aE.ao Tryz.func58 Tryz.ntmps58 fun G F R hE=>?_
 refine go ?_
 refine aH hj ?_
 rintro _ _⟨ob,ov,rfl,rfl⟩
 refine go ?_
 refine ad hE Tryz.func58 zr zr ⟨ob,_,rfl,rfl⟩
def TI(r:Value)(o:Option Tk)(H Hb:List HP):Prop:=match o with
 | none=>r = .tuple #[.pointer none,.int .i64 4]∧H=Hb
 | some y=>∃ob ov,r = .tuple #[ptr ob,.int .i64 0]∧H=eQ ob y.n ov y.ws++Hb
def Mx(tb bs jb:Nat)(tv:Value)(br:Bool)(ts:List Tk)(x:Bl)(hl:ts.length≤1000000)(hw:∀y∈ts,y.ws.length≤65536) :
  aE Tryz.prog 18 [ptr tb,eL x] (eh tb bs jb tv ts br) (fun r H=>TI r (hD ts x) H (eh tb bs jb tv ts br)):=by
 have hf:=rn tb bs jb tv br ts x hl
 unfold eh eL at hf ⊢
 refine aE.ao Tryz.func18 Tryz.ntmps18 fun G F R hE=>?_
 refine aD rfl ?_
 refine bG zr zr bD ?_
 intro b3
 refine go ?_
 refine aG (U:=aQ) (l:=bH x) 0 zr zr zr zr zr zr ?_
 refine aJ hf ?_
 cases sN:hD ts x with
 | none =>
  rw[sN]at hE
  unfold QS
  refine go ?_
  refine ad hE Tryz.func18 zr zr ⟨rfl,rfl⟩
 | some y =>
  rw[sN]at hE
  obtain⟨k,hk,hx⟩:=n7 sN
  have Hi:=hw y (List.mem_of_getElem? hk)
  unfold QS
  refine go ?_
  refine ai (H':=aW ts::ae tb (cl [ptr bs,ptr jb,tv,.bool br] 88)::aB 90 1 tv ts.length (ts.map cB)::F) ah ?_
  refine ai (kL hk _) ?_
  refine eG (gi y) ?_
  rintro⟨wv,cs,M⟩ hz
  have ji:∀H,al (ae y.yb (cl (lr y) 93)::ae y.sb (cl [.int .i64 (y.n:Int),wv] 117)::aB 118 1 wv y.ws.length (qV y.ws)::aP (Value.int .i64) y.mb cs::aZ 35 M::aW (ts.take k++ts.drop (k+1))::H) (aW ts::H):=fun H=>al.trans (H2:=mN y (wv,cs,M)++(aW (ts.take k++ts.drop (k+1))::H)) (by unfold mN;exact ah) (al.trans (iX hz _) (lF hk _))
  refine ai (H':=ae y.yb (cl (lr y) 93)::ae y.sb (cl [.int .i64 (y.n:Int),wv] 117)::aB 118 1 wv y.ws.length (qV y.ws)::aP (Value.int .i64) y.mb cs::aZ 35 M::aW (ts.take k++ts.drop (k+1))::ae tb (cl [ptr bs,ptr jb,tv,.bool br] 88)::aB 90 1 tv ts.length (ts.map cB)::F) (by unfold mN;exact ah) ?_
  have hor:=SH y.sb y.n wv y.ws Hi
  unfold eQ at hor
  refine aF (fun w=>Sat G w ([ae y.yb (cl (lr y) 93)])) (cZ 0 8 (.act 8 (cZ 9 4 .nil))) rfl ak ak ak dT ?_
  refine go ?_
  refine cN hor ?_
  rintro _ _⟨ob,ov,rfl,rfl⟩
  refine go ?_
  refine ai (al.trans ah (ji (ae ob (cl [.int .i64 (y.n:Int),ov] 117)::aB 118 1 ov y.ws.length (qV y.ws)::ae tb (cl [ptr bs,ptr jb,tv,.bool br] 88)::aB 90 1 tv ts.length (ts.map cB)::F))) ?_
  refine ai (H':=eQ ob y.n ov y.ws++([ae tb (cl [ptr bs,ptr jb,tv,.bool br] 88),aB 90 1 tv ts.length (ts.map cB),aW ts]++F)) (by unfold eQ;exact ah) ?_
  refine ad hE Tryz.func18 zr zr ⟨ob,ov,rfl,rfl⟩
def J9{ts:List Tk}{i:Nat}{y:Tk}(h:ts[i]?=some y):((ts.take (i+1)).map Tk.x).flatMap bH=((ts.take i).map Tk.x).flatMap bH++bH y.x:=by rw[List.take_add_one,h];simp
def Iy(tb bs jb:Nat)(tv:Value)(br:Bool)(ts:List Tk)(hl:ts.length≤1000000) :
  aE Tryz.prog 17 [ptr tb] (eh tb bs jb tv ts br) (fun r H=>H=aB 37 66 r ts.length ((ts.map Tk.x).flatMap bH)::eh tb bs jb tv ts br):=by
 unfold eh
 refine aE.ao Tryz.func17 Tryz.ntmps17 fun G F R hE=>?_
 refine dz 1 rfl ?_
 rintro a c rfl
 refine dy 1 rfl ?_
 intro dE
 refine go ?_
 refine ai (bN 37 66 none _) ?_
 refine bB (fun y:Nat × Option Addr × Nat=>y.1≤ts.length) (fun y=>ts.length-y.1) (fun y=>[(3,.slice y.2.1 y.1 y.2.2),(9,.slice a ts.length c),(10,.int .i64 (ts.length:Int)),(11,.int .i64 (y.1:Int))])
  (fun y=>aB 37 66 (.slice y.2.1 y.1 y.2.2) y.1 (((ts.take y.1).map Tk.x).flatMap bH)::aB 90 1 (.slice a ts.length c) ts.length (ts.map cB)::aW ts::ae tb (cl [ptr bs,ptr jb,.slice a ts.length c,.bool br] 88)::F) (0,none,0) (Nat.zero_le _) rfl cg ah ?_
 rintro⟨i,oa,oc⟩ hi ih
 simp only at hi
 dsimp only
 refine go ?_
 refine aq zr zr ?_ ?_
 ·intro de
  have gl:i<ts.length:=by omega
  obtain⟨y,hx⟩:∃x,ts[i]?=some x:=⟨ts[i],by simp[gl]⟩
  have j8:=J9 hx
  have iC:(bH y.x).length=66:=rfl
  obtain⟨b,o,gM,gk⟩:=dE.some (M1 gl)
  simp only[Value.slice.injEq]at gk
  obtain⟨rfl,_,rfl⟩:=gk
  refine go ?_
  refine bM i zr zr zr zr zr zr zr zr gl ?_
  refine aK ?_
  refine bj 1 i zr zr zr dE rfl (qN hx) zr zr (go ?_)
  refine aI (H':=aW ts::aB 37 66 (.slice oa i oc) i (((ts.take i).map Tk.x).flatMap bH)::aB 90 1 (.slice (some ⟨b,o,none⟩) ts.length c) ts.length (ts.map cB)::ae tb (cl [ptr bs,ptr jb,.slice (some ⟨b,o,none⟩) ts.length c,.bool br] 88)::F) ah ?_
  refine aI (kL hx _) ?_
  refine Ip (gi y) ?_
  rintro z hz
  refine aI (H':=ae y.yb (cl (lr y) 93)::aB 37 66 (.slice oa i oc) i (((ts.take i).map Tk.x).flatMap bH)::ae y.sb (cl [.int .i64 (y.n:Int),z.1] 117)::aB 118 1 z.1 y.ws.length (qV y.ws)::aP (Value.int .i64) y.mb z.2.1::aZ 35 z.2.2::aW (ts.take i++ts.drop (i+1))::aB 90 1 (.slice (some ⟨b,o,none⟩) ts.length c) ts.length (ts.map cB)::ae tb (cl [ptr bs,ptr jb,.slice (some ⟨b,o,none⟩) ts.length c,.bool br] 88)::F) ah (go ?_)
  refine dH (cs:=bH y.x) 0 zr zr zr zr zr zr ?_
  refine aj (cs:=bH y.x) zr zr zr zr zr zr zr zr zr bD ?_
  intro row
  refine go ?_
  refine aR (mm:=1) (news:=bH y.x) 2 0 zr zr zr zr zr zr zr zr zr zr zr zr (Vw.ae rfl) rfl (by have:=JH [y.x];simpa using this) ag (by show(_+_)*80≤_;omega) (fun _=>rfl) bD ?_
  intro v1
  rw[← j8]
  refine aO 2 rfl ?_
  rintro ja jc rfl
  refine go ?_
  refine ai (H':=mN y z++(aW (ts.take i++ts.drop (i+1))::aB 37 66 (.slice ja (i+1) jc) (i+1) (((ts.take (i+1)).map Tk.x).flatMap bH)::aB 90 1 (.slice (some ⟨b,o,none⟩) ts.length c) ts.length (ts.map cB)::ae tb (cl [ptr bs,ptr jb,.slice (some ⟨b,o,none⟩) ts.length c,.bool br] 88)::F)) (by unfold mN;exact ah) ?_
  refine ai (iX hz _) ?_
  refine ai (lF hx _) ?_
  refine aM ih (i+1,ja,jc) rfl (by simp only;omega) (by simp only;omega) cg ah
 ·intro fA
  have tl:i=ts.length:=by omega
  subst tl
  rw[List.take_length]
  clear ih
  refine go ?_
  refine aL hE Tryz.func17 rfl _ zr zr ah
end Go.Proofs.YtedjnjkijiddlaaGreatDoor
namespace Go.Proofs.YtedjnjkijiddlaaGreatDoor
open Go Go.SL
def Ic(bs bd jb:Nat)(q:Int)(mb:Nat)(x:SJ)(F:List HP):al (cG bs bd jb q mb [] x::F) (cH bs bd q mb x.1++(rU jb bd db x.2::F)):=by
 unfold cG
 refine(al.cD _ _).trans ?_
 rw[List.append_assoc]
 exact al.refl _
def zC(bs bd jb:Nat)(q:Int)(mb:Nat)(x:SJ)(F:List HP):al (cH bs bd q mb x.1++(rU jb bd db x.2::F)) (cG bs bd jb q mb [] x::F):=by
 unfold cG
 refine al.trans ?_ (al.bS _ _)
 rw[List.append_assoc]
 exact al.refl _
def JK.look{z:Value × List (Int × Value) × fU}{y:Tk}(h:JK z y)(i:Int):∃v,(ew z.2.1 i).getD (.slice none 0 0)=v∧Dn z.2.2 32 v ((y.pf i).getD []).length (((y.pf i).getD []).flatMap dC):=by
 have:=h i
 cases hx:ew z.2.1 i with
 | none =>
  rw[hx]at this
  simp only at this
  rw[this]
  exact⟨_,rfl,Dn.nil _ _ _ _⟩
 | some v =>
  rw[hx]at this
  obtain⟨l,h1,h2⟩:=this
  rw[h1]
  exact⟨v,rfl,h2⟩
attribute [local irreducible] J K aE Ends ae aB aP bP bq aS aZ bu bX aC cG
end Go.Proofs.YtedjnjkijiddlaaGreatDoor
namespace Go.Proofs.YtedjnjkijiddlaaGreatDoor
open Go Go.SL
def hz(b:List UInt8):Dg:=(gL b).getD Dg.zero
def De(m:List UInt8)(l:List (List UInt8)):Bool:=(qc m).isSome && l.all fun b=>(gL b).isSome
def Rc(m:List UInt8)(l:List (List UInt8))(b:List UInt8):De m (l++[b])=(De m l && (gL b).isSome):=by unfold De;simp[Bool.and_assoc]
def tR:∀(l:List (List UInt8)),(l.all fun b=>(gL b).isSome)=true→mZ l=some (l.map hz)
 | [],_=>rfl
 | b::l,h=>by
  rw[List.all_cons,Bool.and_eq_true]at h
  unfold mZ
  rw[tR l h.2]
  unfold hz
  cases hb:gL b with
  | none=>rw[hb]at h;cases h.1
  | some d=>simp[hb]
def tS:∀(l:List (List UInt8)),(l.all fun b=>(gL b).isSome)=false→mZ l=none
 | [],h=>by cases h
 | b::l,h=>by
  unfold mZ
  cases hb:gL b with
  | none=>rfl
  | some d =>
   rw[List.all_cons,hb]at h
   rw[tS l (by simpa using h)]
def fP(ok:Bool)(d:Dg)(i:Nat)(p:List Dg)(y:Tk):Tk:=if ok=true∧y.x.d=d∧i<y.n∧p.length=dx y.n i then y.put i p else y
def ab9(ok:Bool)(d:Dg)(i:Nat)(p:List Dg)(y:Tk):(fP ok d i p y).yb=y.yb:=by unfold fP;split <;> rfl
def jM(f:Tk→Tk)(j:Nat)(ts:List Tk):List Tk:=(ts.take j).map f++ts.drop j
def Ob(f:Tk→Tk)(j:Nat)(ts:List Tk):(jM f j ts)[j]?=ts[j]? := by
 unfold jM
 rcases Nat.lt_or_ge j ts.length with h|h
 ·rw[List.getElem?_append_right (by rw[List.length_map,List.length_take];omega),List.length_map,List.length_take,List.getElem?_drop]
  congr 1
  omega
 ·rw[List.getElem?_eq_none (by rw[List.length_append,List.length_map,← List.length_append,List.take_append_drop];exact h),List.getElem?_eq_none h]
def Oa(f:Tk→Tk){j:Nat}{ts:List Tk}{y:Tk}(h:ts[j]?=some y):(jM f j ts).set j (f y)=jM f (j+1) ts:=by
 obtain⟨hj,rfl⟩:=List.getElem?_eq_some_iff.1 h
 unfold jM
 rw[List.set_append_right _ _ (by rw[List.length_map,List.length_take];omega),List.length_map,List.length_take,Nat.min_eq_left ag,Nat.sub_self,List.drop_eq_getElem_cons hj,List.set_cons_zero,List.take_add_one,h,Option.toList_some,List.map_append,List.append_assoc]
 rfl
def En(f:Tk→Tk)(ts:List Tk):jM f ts.length ts=ts.map f:=by unfold jM;simp
def N'(f:Tk→Tk)(hf:∀y,(f y).yb=y.yb)(j:Nat)(ts:List Tk):(jM f j ts).map cB=ts.map cB:=by
 unfold jM
 conv=>rhs;rw[← List.take_append_drop j ts]
 rw[List.map_append,List.map_append,List.map_map]
 congr 1
 refine List.map_congr_left fun y _=>?_
 show cB (f y)=cB y
 unfold cB
 rw[hf]
def GX(ts:List Tk)(d:Dg)(m:List UInt8)(l:List (List UInt8))(k:Nat)(hk:∀n,qc m=some n→k=n):gz (ts.map (fP (De m l) d k (l.map hz)))=l8 (gz ts) d m l:=by
 unfold l8 De
 cases hm:qc m with
 | none =>
  simp only[Option.isSome_none,Bool.false_and]
  have:ts.map (fP false d k (l.map hz))=ts:=by
   conv=>rhs;rw[← List.map_id ts]
   refine List.map_congr_left fun y _=>?_
   unfold fP
   rw[if_neg (by simp)]
   rfl
  rw[this]
 | some n =>
  obtain rfl:=hk n hm
  simp only[Option.isSome_some,Bool.true_and]
  cases ha:l.all (fun b=>(gL b).isSome)with
  | false =>
   rw[tS l ha]
   have:ts.map (fP false d k (l.map hz))=ts:=by
    conv=>rhs;rw[← List.map_id ts]
    refine List.map_congr_left fun y _=>?_
    unfold fP
    rw[if_neg (by simp)]
    rfl
   rw[this]
  | true =>
   rw[tR l ha]
   unfold gz
   simp only
   rw[List.map_map,List.map_map]
   refine List.map_congr_left fun y _=>?_
   show(fP true d k (l.map hz) y).c=_
   unfold fP
   simp only[true_and,Function.comp]
   split
   ·rename_i h
    exact(if_pos (α:=TC) (t:=y.c.put k (l.map hz)) (e:=y.c) h).symm
   ·rename_i h
    exact(if_neg (α:=TC) (t:=y.c.put k (l.map hz)) (e:=y.c) h).symm
attribute [local irreducible] J K aE Ends ae aB aP bP bq aS aZ bu bX aC
def J'(Z:HP)(tb bs jb:Nat)(tv:Value)(br:Bool)(ts:List Tk)(d:Dg)(mv:Value)(m:List UInt8)(l:List (List UInt8))(hv:sj Z mv (m::l))(hm:∀x∈m::l,x.length≤65536)(Bb:(m::l).length≤65536)(hl:ts.length≤1000000)(hn:∀y∈ts,y.n≤65536)(hw:∀y∈ts,y.n≤y.ws.length*64) :
  aE Tryz.prog 137 [ptr tb,dV d,mv] (eh tb bs jb tv ts br++[Z]) (fun r H=>r = .tuple #[]∧∃k:Nat,(∀n,qc m=some n→k=n)∧H=eh tb bs jb tv (ts.map (fP (De m l) d k (l.map hz))) br++[Z]):=by
 obtain⟨cs,dE,lA,⟨ma,mc,rfl,hmc⟩,pL⟩:=hv
 obtain⟨c0,sO,rj⟩:=pL 0 m rfl
 have ady:=qa Z c0 m rj (by have:=hm m (List.mem_cons_self ..);omega)
 obtain⟨a0,k0,rfl,_⟩:=rj.2
 obtain⟨bb,oo,cc,he⟩:=dE.some (by intro h;rw[h]at lA;simp at lA)
 simp only[Value.slice.injEq,true_and]at he
 obtain⟨rfl,rfl⟩:=he
 unfold eh dV
 refine aE.ao Tryz.func137 Tryz.ntmps137 fun G F R hE=>?_
 refine aD rfl ?_
 refine bG zr zr bD ?_
 intro b4
 refine aI (H':=Z::ae b4 (cl (dC d) 35)::ae tb (cl [ptr bs,ptr jb,tv,.bool br] 88)::aB 90 1 tv ts.length (ts.map cB)::aW ts::F) ah (go ?_)
 refine bM 0 zr zr zr zr zr zr zr zr (by simp) ?_
 refine aK ?_
 refine bj 0 0 zr zr zr dE rfl sO zr zr ?_
 refine aH ady ?_
 rintro _ _⟨rfl,k,ve,rfl,sM⟩
 refine go ?_
 refine bh (p:=1) (q:=((m::l).length:Int)) zr zr zr zr zr zr zr ag (by simp only[List.length_cons];omega) (.inl rfl) ?_
 ((refine au 23 ((.slice (sliceAt (some ⟨bb,oo,none⟩) mc 1 1) l.length (mc-1))) rfl ((by rw[show((m::l).length:Int).toNat=l.length+1 from by simp[List.length_cons],show(1:Int).toNat=1 from rfl,show l.length+1-1=l.length by omega];rfl)) ?_))
 have F':=dE.Pp (s:=1) (by rw[lA];simp) hmc 1 (by simp)
 rw[List.length_cons,Nat.add_sub_cancel]at F'
 simp only[List.length_cons]at Bb hmc
 have adV:∀(j:Nat) (x:List UInt8),l[j]?=some x→∃cv,(cs.drop (1*1))[j]?=some cv∧eM Z cv x:=fun j x hx=>by
  obtain⟨cv,h1,h2⟩:=pL (j+1) x (by rw[List.getElem?_cons_succ];exact hx)
  exact⟨cv,by rw[List.getElem?_drop,Nat.add_comm];exact h1,h2⟩
 have hmr:∀x∈l,x.length≤65536:=fun x hx=>hm x (List.mem_cons_of_mem _ hx)
 have adu:De m (l.take 0)=(qc m).isSome:=by unfold De;simp
 refine go ?_
 refine ai (bN 35 32 none _) ?_
 rw[← adu]
 refine bB (fun y:Nat × Option Addr × Nat=>y.1≤l.length) (fun y=>l.length-y.1)
  (fun y=>[(0,ptr tb),(4,ptr b4),(6,.int .i64 (k:Int)),(7,.bool (De m (l.take y.1))),(8,.slice y.2.1 ((l.take y.1).map hz).length y.2.2),(23,.slice (sliceAt (some ⟨bb,oo,none⟩) mc 1 1) l.length (mc-1)),(24,.int .i64 (l.length:Int)),(25,.int .i64 (y.1:Int))])
  (fun y=>aB 35 32 (.slice y.2.1 ((l.take y.1).map hz).length y.2.2) ((l.take y.1).map hz).length (((l.take y.1).map hz).flatMap dC)::Z::ae b4 (cl (dC d) 35)::ae tb (cl [ptr bs,ptr jb,tv,.bool br] 88)::aB 90 1 tv ts.length (ts.map cB)::aW ts::F) (0,none,0) (Nat.zero_le _) rfl cg ah ?_
 rintro⟨j,pa,pc⟩ hj ih
 simp only at hj
 dsimp only
 refine go ?_
 refine aq zr zr ?_ ?_
 ·intro de
  have rf:j<l.length:=by omega
  obtain⟨x,hx⟩:∃x,l[j]?=some x:=⟨l[j],by simp⟩
  obtain⟨cv,nt,wL⟩:=adV j x hx
  have hph:=u4 Z cv x wL (by have:=hmr x (List.mem_of_getElem? hx);omega)
  obtain⟨ax,kx,rfl,_⟩:=wL.2
  have j8:l.take (j+1)=l.take j++[x]:=by rw[List.take_add_one,hx];rfl
  have nV:((l.take j).map hz).length=j:=by rw[List.length_map,List.length_take];omega
  have XB:((l.take j).map hz).flatMap dC++dC (hz x)=((l.take (j+1)).map hz).flatMap dC:=by rw[j8];simp
  have wD:((l.take j).map hz).length+1=((l.take (j+1)).map hz).length:=by rw[j8];simp
  have kC:De m (l.take (j+1))=(De m (l.take j) && (gL x).isSome):=by rw[j8,Rc]
  have Xr:sliceAt (some ⟨bb,oo,none⟩) mc 1 1=some ⟨bb,oo+1,none⟩:=by
   unfold sliceAt
   rw[if_neg ag]
   rfl
  have aa6:=F'
  rw[Xr]at aa6
  refine aX 23 (.slice (some ⟨bb,oo+1,none⟩) l.length (mc-1)) rfl (by rw[Xr]) (go ?_)
  refine bM j zr zr zr zr zr zr zr zr rf ?_
  refine aK ?_
  refine bj 1 j zr zr zr aa6 rfl nt zr zr (go ?_)
  refine aJ hph ?_
  rw[show(gL x).getD Dg.zero=hz x from rfl]
  unfold dV
  refine go ?_
  refine az zr zr zr bD ?_
  intro TK
  cases Y8:De m (l.take j)
  all_goals(
   rw[Y8]at kC
   refine go ?_
   ((refine au 7 ((.bool (De m (l.take (j+1))))) rfl ((congrArg Value.bool (by rw[kC];rfl))) ?_))
   refine go ?_
   refine aG (U:=aQ) (l:=dC (hz x)) 0 zr zr zr zr zr zr ?_
   refine aj (cs:=dC (hz x)) zr zr zr zr zr zr zr zr zr bD ?_
   intro row
   refine go ?_
   refine aR (mm:=1) (news:=dC (hz x)) 3 0 zr zr zr zr zr zr zr zr zr zr zr zr (Vw.ae rfl) rfl (by rw[dG];exact cX _) ag (by show(((l.take j).map hz).length+1)*32≤_;omega) (fun _=>rfl) bD ?_
   intro v1
   rw[XB,wD]
   refine aO 3 rfl ?_
   rintro ja jc rfl
   refine go ?_
   refine aX 23 ((.slice (sliceAt (some ⟨bb,oo,none⟩) mc 1 1) l.length (mc-1))) rfl ((by rw[Xr])) ?_
   refine aM ih (j+1,ja,jc) rfl (by simp only;omega) (by simp only;omega) cg ah)
 ·intro fA
  have OX:j=l.length:=by omega
  subst OX
  rw[List.take_length]
  clear ih
  obtain⟨p,hp⟩:∃p,p=l.map hz:=⟨_,rfl⟩
  obtain⟨ok,kC⟩:∃ok,ok=De m l:=⟨_,rfl⟩
  have nV:p.length≤65536:=by rw[hp,List.length_map];omega
  rw[← hp,← kC]at hE ⊢
  have hfy:=ab9 ok d k p
  refine ai (al.pick [4] rfl) ?_
  refine dz 0 rfl ?_
  rintro ta tc rfl
  refine dy 0 rfl ?_
  intro hvt
  refine ai (H':=ae tb (cl [ptr bs,ptr jb,.slice ta ts.length tc,.bool br] 88)::aB 90 1 (.slice ta ts.length tc) ts.length (ts.map cB)::aW ts::aB 35 32 (.slice pa p.length pc) p.length (p.flatMap dC)::ae b4 (cl (dC d) 35)::Z::F) ah (go ?_)
  refine bB (fun j:Nat=>j≤ts.length) (fun j=>ts.length-j)
   (fun j=>[(0,ptr tb),(4,ptr b4),(6,.int .i64 (k:Int)),(7,.bool ok),(8,.slice pa p.length pc),(46,.slice ta ts.length tc),(47,.int .i64 (ts.length:Int)),(48,.int .i64 (j:Int))])
   (fun j=>ae tb (cl [ptr bs,ptr jb,.slice ta ts.length tc,.bool br] 88)::aB 90 1 (.slice ta ts.length tc) ts.length (ts.map cB)::aW (jM (fP ok d k p) j ts)::aB 35 32 (.slice pa p.length pc) p.length (p.flatMap dC)::ae b4 (cl (dC d) 35)::Z::F) 0 (Nat.zero_le _) rfl cg ah ?_
  intro j hj ih
  refine go ?_
  refine aq zr zr ?_ ?_
  ·intro de
   have rf:j<ts.length:=by omega
   obtain⟨y,hy⟩:∃y,ts[j]?=some y:=⟨ts[j],by simp⟩
   have Ov:=List.mem_of_getElem? hy
   have I':=hn y Ov
   have Hi:=hw y Ov
   have hgy:(jM (fP ok d k p) j ts)[j]?=some y:=by rw[Ob,hy]
   have ir:=Oa (fP ok d k p) hy
   obtain⟨b9,o9,c9,he9⟩:=hvt.some (M1 rf)
   simp only[Value.slice.injEq,true_and]at he9
   obtain⟨rfl,rfl⟩:=he9
   refine go ?_
   refine bM j zr zr zr zr zr zr zr zr rf ?_
   refine aK ?_
   refine bj 1 j zr zr zr hvt rfl (qN hy) zr zr (go ?_)
   refine ai (H':=aW (jM (fP ok d k p) j ts)::ae tb (cl [ptr bs,ptr jb,.slice (some ⟨b9,o9,none⟩) ts.length tc,.bool br] 88)::aB 90 1 (.slice (some ⟨b9,o9,none⟩) ts.length tc) ts.length (ts.map cB)::aB 35 32 (.slice pa p.length pc) p.length (p.flatMap dC)::ae b4 (cl (dC d) 35)::Z::F) ah ?_
   refine ai (kL hgy _) ?_
   have mh:∀H,al (oD (fP ok d k p y)::aW ((jM (fP ok d k p) j ts).take j++(jM (fP ok d k p) j ts).drop (j+1))::H) (aW (jM (fP ok d k p) (j+1) ts)::H):=fun H=>by rw[← ir];exact IE hgy _ H
   refine eG (gi y) ?_
   rintro⟨wv,Gh,M⟩ SU
   have ji:∀H,al (ae y.yb (cl (lr y) 93)::ae y.sb (cl [.int .i64 (y.n:Int),wv] 117)::aB 118 1 wv y.ws.length (qV y.ws)::aP (Value.int .i64) y.mb Gh::aZ 35 M::aW ((jM (fP ok d k p) j ts).take j++(jM (fP ok d k p) j ts).drop (j+1))::H) (oD y::aW ((jM (fP ok d k p) j ts).take j++(jM (fP ok d k p) j ts).drop (j+1))::H):=fun H=>al.trans (H2:=mN y (wv,Gh,M)++(aW ((jM (fP ok d k p) j ts).take j++(jM (fP ok d k p) j ts).drop (j+1))::H)) (by unfold mN;exact ah) (iX SU _)
   refine ai (H':=ae y.yb (cl (lr y) 93)::ae y.sb (cl [.int .i64 (y.n:Int),wv] 117)::aB 118 1 wv y.ws.length (qV y.ws)::aP (Value.int .i64) y.mb Gh::aZ 35 M::aW ((jM (fP ok d k p) j ts).take j++(jM (fP ok d k p) j ts).drop (j+1))::ae tb (cl [ptr bs,ptr jb,.slice (some ⟨b9,o9,none⟩) ts.length tc,.bool br] 88)::aB 90 1 (.slice (some ⟨b9,o9,none⟩) ts.length tc) ts.length (ts.map cB)::aB 35 32 (.slice pa p.length pc) p.length (p.flatMap dC)::ae b4 (cl (dC d) 35)::Z::F) (by unfold mN;exact ah) ?_
   have jI:fP ok d k p y=y→∀H,al (ae y.yb (cl (lr y) 93)::ae y.sb (cl [.int .i64 (y.n:Int),wv] 117)::aB 118 1 wv y.ws.length (qV y.ws)::aP (Value.int .i64) y.mb Gh::aZ 35 M::aW ((jM (fP ok d k p) j ts).take j++(jM (fP ok d k p) j ts).drop (j+1))::H) (aW (jM (fP ok d k p) (j+1) ts)::H):=fun h H=>by
    have:=mh H
    rw[h]at this
    exact(ji H).trans this
   refine aF (fun w=>Sat G w ([ae y.yb (cl (lr y) 93),ae b4 (cl (dC d) 35)])) (cZ 0 16 (.act 16 (cZ 17 9 (.st 27 (.act 26 (.act 28 (.st 29 (.st 30 .nil)))))))) rfl ak ak ak dT ?_
   cases ok with
   | false =>
    have RP:fP false d k p y=y:=by unfold fP;rw[if_neg (by simp)]
    refine go ?_
    refine ai (al.trans ah (jI RP (ae tb (cl [ptr bs,ptr jb,.slice (some ⟨b9,o9,none⟩) ts.length tc,.bool br] 88)::aB 90 1 (.slice (some ⟨b9,o9,none⟩) ts.length tc) ts.length (ts.map cB)::aB 35 32 (.slice pa p.length pc) p.length (p.flatMap dC)::ae b4 (cl (dC d) 35)::Z::F))) ?_
    refine aM ih (j+1) rfl ag ag cg ah
   | true =>
   refine go ?_
   refine cf (U:=aQ) (cs:=dC y.x.d) 0 zr zr zr zr zr zr (go ?_)
   refine bQ (U:=aQ) (l:=dC d) 1 zr zr zr zr zr zr (go ?_)
   refine kT (b:=decide (y.x.d=d)) zr zr zr HF (fun w=>HO y.x.d d w) ?_
   by_cases Y0:y.x.d=d
   case neg =>
    rw[decide_eq_false Y0]
    have RP:fP true d k p y=y:=by unfold fP;rw[if_neg (fun h=>Y0 h.2.1)]
    refine go ?_
    refine ai (al.trans ah (jI RP (ae tb (cl [ptr bs,ptr jb,.slice (some ⟨b9,o9,none⟩) ts.length tc,.bool br] 88)::aB 90 1 (.slice (some ⟨b9,o9,none⟩) ts.length tc) ts.length (ts.map cB)::aB 35 32 (.slice pa p.length pc) p.length (p.flatMap dC)::ae b4 (cl (dC d) 35)::Z::F))) ?_
    refine aM ih (j+1) rfl ag ag cg ah
   rw[decide_eq_true Y0]
   refine go ?_
   refine bo (oC y.sb y.n wv) ?_
   refine go ?_
   by_cases Zc:k<y.n
   case neg =>
    have RP:fP true d k p y=y:=by unfold fP;rw[if_neg (fun h=>Zc h.2.2.1)]
    refine au 71 ((.bool false)) rfl ((congrArg Value.bool (decide_eq_false ag))) (go ?_)
    refine ai (al.trans ah (jI RP (ae tb (cl [ptr bs,ptr jb,.slice (some ⟨b9,o9,none⟩) ts.length tc,.bool br] 88)::aB 90 1 (.slice (some ⟨b9,o9,none⟩) ts.length tc) ts.length (ts.map cB)::aB 35 32 (.slice pa p.length pc) p.length (p.flatMap dC)::ae b4 (cl (dC d) 35)::Z::F))) ?_
    refine aM ih (j+1) rfl ag ag cg ah
   refine au 71 ((.bool true)) rfl ((congrArg Value.bool (decide_eq_true ag))) (go ?_)
   refine bo (oC y.sb y.n wv) ?_
   refine go ?_
   refine bo (BJ (y.n:Int) (k:Int)) ?_
   refine go ?_
   by_cases hpd:p.length=dx y.n k
   case neg =>
    have RP:fP true d k p y=y:=by unfold fP;rw[if_neg (fun h=>hpd h.2.2.2)]
    refine aX 82 ((.bool false)) rfl ((congrArg Value.bool (decide_eq_false ag))) (go ?_)
    refine ai (al.trans ah (jI RP (ae tb (cl [ptr bs,ptr jb,.slice (some ⟨b9,o9,none⟩) ts.length tc,.bool br] 88)::aB 90 1 (.slice (some ⟨b9,o9,none⟩) ts.length tc) ts.length (ts.map cB)::aB 35 32 (.slice pa p.length pc) p.length (p.flatMap dC)::ae b4 (cl (dC d) 35)::Z::F))) ?_
    refine aM ih (j+1) rfl ag ag cg ah
   refine aX 82 ((.bool true)) rfl ((congrArg Value.bool (decide_eq_true ag))) ?_
   have RP:fP true d k p y=y.put k p:=by unfold fP;rw[if_pos ⟨rfl,Y0,Zc,hpd⟩]
   rw[RP]at mh
   refine ai (al.trans ah (ji (ae tb (cl [ptr bs,ptr jb,.slice (some ⟨b9,o9,none⟩) ts.length tc,.bool br] 88)::aB 90 1 (.slice (some ⟨b9,o9,none⟩) ts.length tc) ts.length (ts.map cB)::aB 35 32 (.slice pa p.length pc) p.length (p.flatMap dC)::ae b4 (cl (dC d) 35)::Z::F))) ?_
   refine ai (H':=aB 35 32 (.slice pa p.length pc) p.length (p.flatMap dC)::oD y::aW ((jM (fP true d k p) j ts).take j++(jM (fP true d k p) j ts).drop (j+1))::ae tb (cl [ptr bs,ptr jb,.slice (some ⟨b9,o9,none⟩) ts.length tc,.bool br] 88)::aB 90 1 (.slice (some ⟨b9,o9,none⟩) ts.length tc) ts.length (ts.map cB)::ae b4 (cl (dC d) 35)::Z::F) ah ?_
   refine dy 0 rfl ?_
   intro hvp
   have rG:=Dt y k Zc I' Hi _ (.slice pa p.length pc) p hvp ag
   refine go ?_
   refine aJ rG ?_
   refine go ?_
   refine ai (H':=oD (y.put k p)::aW ((jM (fP true d k p) j ts).take j++(jM (fP true d k p) j ts).drop (j+1))::ae tb (cl [ptr bs,ptr jb,.slice (some ⟨b9,o9,none⟩) ts.length tc,.bool br] 88)::aB 90 1 (.slice (some ⟨b9,o9,none⟩) ts.length tc) ts.length (ts.map cB)::aB 35 32 (.slice pa p.length pc) p.length (p.flatMap dC)::ae b4 (cl (dC d) 35)::Z::F) ah ?_
   refine ai (mh _) ?_
   refine aM ih (j+1) rfl ag ag cg ah
  ·intro fA
   have OX:j=ts.length:=by omega
   subst OX
   clear ih
   rw[En]
   have QC:(ts.map (fP ok d k p)).map cB=ts.map cB:=by rw[← En];exact N' _ hfy _ _
   have adC:(ts.map (fP ok d k p)).length=ts.length:=List.length_map ..
   refine go ?_
   refine ai (H':=ae tb (cl [ptr bs,ptr jb,.slice ta ts.length tc,.bool br] 88)::aB 90 1 (.slice ta ts.length tc) (ts.map (fP ok d k p)).length ((ts.map (fP ok d k p)).map cB)::aW (ts.map (fP ok d k p))::Z::F) (by rw[QC,adC];exact ah) ?_
   refine bW hE Tryz.func137 rfl _ rfl ⟨rfl,k,sM,rfl⟩ ah
end Go.Proofs.YtedjnjkijiddlaaGreatDoor
namespace Go.Proofs.YtedjnjkijiddlaaGreatDoor
open Go Go.SL
def HS(ts:List Tk)(d:Dg):gz (nJ ts d)=DV (gz ts) d:=by
 unfold gz nJ DV
 rw[List.filter_map]
 rfl
def JB(ts:List Tk)(y:Tk):gz (ts++[y])=gz ts++[y.c]:=by simp[gz]
def Zx(k:UInt8)(n:Nat)(hn:n<256):decide ((k.toNat:Int)=(n:Int))=decide (k=UInt8.ofNat n):=by
 rw[decide_eq_decide]
 constructor
 ·intro h
  have h2:k.toNat=n:=by omega
  rw[← h2]
  exact(UInt8.ofNat_toNat).symm
 ·rintro rfl
  rw[UInt8.toNat_ofNat']
  omega
def Gu{cs:List TC}{b:List UInt8}(h:iW b=none):dB cs b=cs:=by unfold dB;rw[h]
def Dz{cs:List TC}{b:List UInt8}{d:Dg}(h:iW b=some (3,d,[])):dB cs b=DV cs d:=by unfold dB;rw[h];simp
def vF{cs:List TC}{b:List UInt8}{d:Dg}{m:List UInt8}{l:List (List UInt8)}(h:iW b=some (2,d,m::l)):dB cs b=l8 cs d m l:=by
 unfold dB
 rw[h]
 simp only
 rw[if_neg (by simp)]
 match l with
 | []=>rfl
 | [_]=>rfl
 | [_,_]=>rfl
 | _::_::_::_=>rfl
def vG{cs:List TC}{b:List UInt8}{d:Dg}{s p r:List UInt8}(h:iW b=some (1,d,[s,p,r])):dB cs b=(match qc s,qc p,gL r with
  | some s,some p,some r=>if bz ⟨d,s,p,r⟩then DV cs d++[cW ⟨d,s,p,r⟩]else cs
  | _,_,_=>cs):=by
 unfold dB
 rw[h]
 rfl
def oJ{cs:List TC}{b:List UInt8}{k:UInt8}{d:Dg}{l:List (List UInt8)}(h:iW b=some (k,d,l))(h3:¬(k=3∧l.length=0))(h1:¬(k=1∧l.length=3))(h2:¬(k=2∧0<l.length)):dB cs b=cs:=by
 unfold dB
 rw[h]
 simp only
 rw[if_neg (fun e=>h3 ⟨e.1,by rw[e.2];rfl⟩)]
 match l,h1,h2 with
 | [],_,_=>rfl
 | [_],_,h2=>simp only;rw[if_neg (fun e=>h2 ⟨e,by simp⟩)]
 | [_,_],_,h2=>simp only;rw[if_neg (fun e=>h2 ⟨e,by simp⟩)]
 | [_,_,_],h1,h2=>simp only;rw[if_neg (fun e=>h1 ⟨e,rfl⟩),if_neg (fun e=>h2 ⟨e,by simp⟩)]
 | _::_::_::_::_,_,h2=>simp only;rw[if_neg (fun e=>h2 ⟨e,by simp⟩)]
attribute [local irreducible] J K aE Ends ae aB aP bP bq aS aZ bu bX aC
def M5(X:HP)(tb bs jb:Nat)(tv:Value)(br:Bool)(ts:List Tk)(bv:Value)(b:List UInt8)(hb:eM X bv b)(iC:b.length≤1000000)(hl:ts.length≤900000)(hn:∀y∈ts,y.n≤65536)(hw:∀y∈ts,y.n≤y.ws.length*64) :
  aE Tryz.prog 77 [ptr tb,bv] (eh tb bs jb tv ts br++[X]) (fun r H=>r = .tuple #[]∧∃(ed:List Tk) (rN:Value),gz ed=dB (gz ts) b∧H=eh tb bs jb rN ed br++[X]):=by
 have rY:=KA X bv b hb iC
 have Jf:=fun d=>yf tb bs jb tv br ts d ag
 obtain⟨ba,bc,rfl,MK⟩:=hb.2
 unfold eh dV at Jf
 unfold eh
 unfold dV at rY
 refine aE.ao Tryz.func77 Tryz.ntmps77 fun G F R hE=>?_
 refine ai (H':=X::ae tb (cl [ptr bs,ptr jb,tv,.bool br] 88)::aB 90 1 tv ts.length (ts.map cB)::aW ts::F) ah (go ?_)
 refine aH rY ?_
 rintro _ _ (⟨RH,⟨k,d,ma,mn,mc,rfl⟩,rfl⟩|⟨k,d,more,mv,Z,hr,mR,Zb,XK,rfl,rfl⟩)
 ·refine go ?_
  refine az zr zr zr bD ?_
  intro b5
  refine go ?_
  refine ai (H':=ae tb (cl [ptr bs,ptr jb,tv,.bool br] 88)::aB 90 1 tv ts.length (ts.map cB)::aW ts::X::F) ah ?_
  refine bW hE Tryz.func77 rfl _ rfl ⟨rfl,ts,tv,(Gu RH).symm,rfl⟩ ah
 have abw:=mR
 obtain⟨cs,dE,lA,⟨ma,mc,rfl,hmc⟩,pL⟩:=mR
 refine go ?_
 refine az zr zr zr bD ?_
 intro b5
 refine go ?_
 have bY:∀j:Nat,j<256→k≠UInt8.ofNat j→decide ((k.toNat:Int)=(j:Int))=false:=fun j hj h=>by rw[Zx k j hj];exact decide_eq_false h
 have iK:dB (gz ts) b=gz ts→∃(ed:List Tk) (rN:Value),gz ed=dB (gz ts) b∧[ae tb (cl [ptr bs,ptr jb,tv,.bool br] 88),aB 90 1 tv ts.length (ts.map cB),aW ts]++[X]=[ae tb (cl [ptr bs,ptr jb,rN,.bool br] 88),aB 90 1 rN ed.length (ed.map cB),aW ed]++[X]:=fun h=>⟨ts,tv,h.symm,rfl⟩
 by_cases h3:k=3
 ·subst h3
  by_cases h0:more.length=0
  ·have Za:more=[]:=List.eq_nil_of_length_eq_zero h0
   subst Za
   have rX:=Dz (cs:=gz ts) hr
   refine go ?_
   refine aG (U:=aQ) (l:=dC d) 0 zr zr zr zr zr zr ?_
   refine aH (Jf d) ?_
   rintro _ _⟨rfl,rN,rfl⟩
   refine go ?_
   refine ai (H':=ae tb (cl [ptr bs,ptr jb,rN,.bool br] 88)::aB 90 1 rN (nJ ts d).length ((nJ ts d).map cB)::aW (nJ ts d)::X::F) ah ?_
   (refine bW hE Tryz.func77 rfl _ rfl ⟨rfl,nJ ts d,rN,by rw[HS,rX],rfl⟩ ah)
  ·have rX:=oJ (cs:=gz ts) hr (fun h=>h0 h.2) (fun h=>absurd h.1 (by decide)) (fun h=>absurd h.1 (by decide))
   refine go ?_
   refine aX 25 ((.bool false)) rfl ((congrArg Value.bool (decide_eq_false ag))) (go ?_)
   refine ai (H':=ae tb (cl [ptr bs,ptr jb,tv,.bool br] 88)::aB 90 1 tv ts.length (ts.map cB)::aW ts::X::F) ah ?_
   refine bW hE Tryz.func77 rfl _ rfl ⟨rfl,iK rX⟩ ah
 have hn3:=bY 3 ag h3
 refine au 28 ((.bool false)) rfl ((congrArg Value.bool hn3)) ?_
 by_cases h1:k=1
 ·subst h1
  by_cases h0:more.length=3
  case neg =>
   have rX:=oJ (cs:=gz ts) hr (fun h=>absurd h.1 (by decide)) (fun h=>h0 h.2) (fun h=>absurd h.1 (by decide))
   refine go ?_
   refine aX 36 ((.bool false)) rfl ((congrArg Value.bool (decide_eq_false ag))) (go ?_)
   refine ai (H':=ae tb (cl [ptr bs,ptr jb,tv,.bool br] 88)::aB 90 1 tv ts.length (ts.map cB)::aW ts::X::F) ah ?_
   refine bW hE Tryz.func77 rfl _ rfl ⟨rfl,iK rX⟩ ah
  obtain⟨ms,mp,mr,rfl⟩:∃ms mp mr,more=[ms,mp,mr]:=by
   match more,h0 with
   | [ms,mp,mr],_=>exact⟨ms,mp,mr,rfl⟩
  have rX:=vG (cs:=gz ts) hr
  obtain⟨c0,sO,rj⟩:=pL 0 ms rfl
  obtain⟨c1,Bj,nX⟩:=pL 1 mp rfl
  obtain⟨c2,mT,rh⟩:=pL 2 mr rfl
  have Y6:=qa Z c0 ms rj (by have:=Zb ms (by simp);omega)
  have Y5:=qa Z c1 mp nX (by have:=Zb mp (by simp);omega)
  have S8:=u4 Z c2 mr rh (by have:=Zb mr (by simp);omega)
  obtain⟨a0,z0,rfl,_⟩:=rj.2
  obtain⟨a1,z1,rfl,_⟩:=nX.2
  obtain⟨a2,z2,rfl,_⟩:=rh.2
  obtain⟨bb,oo,cc,he⟩:=dE.some (by intro h;rw[h]at lA;simp at lA)
  simp only[Value.slice.injEq,true_and]at he
  obtain⟨rfl,rfl⟩:=he
  unfold dV at S8
  refine aI (H':=ae b5 (cl (dC d) 35)::Z::ae tb (cl [ptr bs,ptr jb,tv,.bool br] 88)::aB 90 1 tv ts.length (ts.map cB)::aW ts::X::F) ah (go ?_)
  refine bM 0 zr zr zr zr zr zr zr zr (by simp) ?_
  refine aK ?_
  refine bj 1 0 zr zr zr dE rfl sO zr zr ?_
  refine aH Y6 ?_
  rintro _ _⟨rfl,k1,ve,rfl,adI⟩
  refine go ?_
  refine bM 1 zr zr zr zr zr zr zr zr (by simp) ?_
  refine aK ?_
  refine bj 0 1 zr zr zr dE rfl Bj zr zr ?_
  refine aH Y5 ?_
  rintro _ _⟨rfl,k2,sM,rfl,adG⟩
  refine go ?_
  refine bM 2 zr zr zr zr zr zr zr zr (by simp) ?_
  refine aK ?_
  refine bj 0 2 zr zr zr dE rfl mT zr zr ?_
  refine aJ S8 ?_
  rw[show(gL mr).getD Dg.zero=hz mr from rfl]
  refine go ?_
  refine az zr zr zr bD ?_
  intro wN
  refine go ?_
  refine aG (U:=aQ) (l:=dC d) 2 zr zr zr zr zr zr (go ?_)
  refine aG (U:=aQ) (l:=dC (hz mr)) 0 zr zr zr zr zr zr (go ?_)
  obtain⟨x,hx⟩:∃x:Bl,x=⟨d,(k1:Int),(k2:Int),hz mr⟩:=⟨_,rfl⟩
  refine az zr zr zr bD ?_
  intro b14
  refine go ?_
  ((refine aI (H':=ae b14 (cl (bH x) 37)::ae b5 (cl (dC d) 35)::ae tb (cl [ptr bs,ptr jb,tv,.bool br] 88)::aB 90 1 tv ts.length (ts.map cB)::aW ts::X::F) ((by rw[hx];exact ah)) ?_))
  have sL:=oq x
  unfold eL at sL
  cases e0:qc ms with
  | none =>
   rw[e0]at rX
   simp only at rX
   refine go ?_
   refine ai (H':=ae tb (cl [ptr bs,ptr jb,tv,.bool br] 88)::aB 90 1 tv ts.length (ts.map cB)::aW ts::X::F) ah ?_
   refine bW hE Tryz.func77 rfl _ rfl ⟨rfl,iK rX⟩ ah
  | some v0 =>
  obtain rfl:=adI v0 e0
  rw[e0]at rX
  cases e1:qc mp with
  | none =>
   rw[e1]at rX
   simp only at rX
   refine go ?_
   refine ai (H':=ae tb (cl [ptr bs,ptr jb,tv,.bool br] 88)::aB 90 1 tv ts.length (ts.map cB)::aW ts::X::F) ah ?_
   refine bW hE Tryz.func77 rfl _ rfl ⟨rfl,iK rX⟩ ah
  | some v1 =>
  obtain rfl:=adG v1 e1
  rw[e1]at rX
  cases e2:gL mr with
  | none =>
   rw[e2]at rX
   simp only at rX
   refine go ?_
   refine ai (H':=ae tb (cl [ptr bs,ptr jb,tv,.bool br] 88)::aB 90 1 tv ts.length (ts.map cB)::aW ts::X::F) ah ?_
   refine bW hE Tryz.func77 rfl _ rfl ⟨rfl,iK rX⟩ ah
  | some v2 =>
  have rW:hz mr=v2:=by unfold hz;rw[e2];rfl
  rw[e2]at rX
  simp only at rX
  rw[rW]at hx
  rw[← hx]at rX
  refine go ?_
  refine aG (U:=aQ) (l:=bH x) 0 zr zr zr zr zr zr ?_
  ((refine go ?_;(refine aH sL ?_)))
  rintro _ _⟨rfl,rfl⟩
  cases Qx:bz x with
  | false =>
   rw[Qx]at rX
   simp only[Bool.false_eq_true,if_false]at rX
   refine go ?_
   refine ai (H':=ae tb (cl [ptr bs,ptr jb,tv,.bool br] 88)::aB 90 1 tv ts.length (ts.map cB)::aW ts::X::F) ah ?_
   refine bW hE Tryz.func77 rfl _ rfl ⟨rfl,iK rX⟩ ah
  | true =>
  rw[Qx]at rX
  simp only[if_true]at rX
  have xg:=Bo x
  unfold eL at xg
  refine aI (H':=ae b5 (cl (dC d) 35)::ae tb (cl [ptr bs,ptr jb,tv,.bool br] 88)::aB 90 1 tv ts.length (ts.map cB)::aW ts::X::ae b14 (cl (bH x) 37)::F) ah (go ?_)
  refine aG (U:=aQ) (l:=dC d) 0 zr zr zr zr zr zr ?_
  refine aH (Jf d) ?_
  rintro _ _⟨rfl,rN,rfl⟩
  refine aI (H':=ae tb (cl [ptr bs,ptr jb,rN,.bool br] 88)::aB 90 1 rN (nJ ts d).length ((nJ ts d).map cB)::aW (nJ ts d)::X::ae b14 (cl (bH x) 37)::F) ah ?_
  have EF:(nJ ts d).length≤ts.length:=List.length_filter_le _ _
  obtain⟨us,Ad⟩:∃us,us=nJ ts d:=⟨_,rfl⟩
  rw[← Ad]at EF ⊢
  have hcu:gz us=DV (gz ts) d:=by rw[Ad,HS]
  refine go ?_
  refine dz 1 rfl ?_
  rintro ua uc rfl
  refine aF (fun w=>Sat G w ([ae tb (cl [ptr bs,ptr jb,.slice ua us.length uc,.bool br] 88),ae b14 (cl (bH x) 37)])) (cZ 0 6 (.act 6 (.act 7 (.act 8 (.st 9 (.st 10 (.act 11 .nil))))))) rfl ak ak ak dT ?_
  refine go ?_
  refine bQ (U:=aQ) (l:=bH x) 1 zr zr zr zr zr zr (go ?_)
  refine cN xg ?_
  rintro _ _⟨y,rfl,rfl,Rr,yF,hy3,hy4⟩
  refine go ?_
  refine aj (cs:=[ptr y.yb]) zr zr zr zr zr zr zr zr zr (fun _ w hw=>hw.cV ah) ?_
  intro r1
  refine go ?_
  refine aR (mm:=1) (news:=[ptr y.yb]) 3 0 rfl rfl rfl rfl rfl rfl rfl rfl rfl rfl rfl rfl (Vw.ae rfl) rfl (by intro v hv;simp at hv;rw[hv];rfl) ag (by show(_+_)*8≤_;omega) (fun _=>rfl) (fun _ w hw=>hw.cV ah) ?_
  intro v1
  refine aO 3 rfl ?_
  rintro ka kc rfl
  refine go ?_
  have QC:us.map cB++[ptr y.yb]=(us++[y]).map cB:=by simp[cB]
  have Bb:us.length+1=(us++[y]).length:=by simp
  have qm:=uR us [] y
  rw[List.append_nil]at qm
  rw[QC,Bb]
  refine ai (H':=oD y::aW us::ae tb (cl [ptr bs,ptr jb,.slice ka (us++[y]).length kc,.bool br] 88)::aB 90 1 (.slice ka (us++[y]).length kc) (us++[y]).length ((us++[y]).map cB)::X::F) ah ?_
  refine ai (qm _) ?_
  refine ai (H':=ae tb (cl [ptr bs,ptr jb,.slice ka (us++[y]).length kc,.bool br] 88)::aB 90 1 (.slice ka (us++[y]).length kc) (us++[y]).length ((us++[y]).map cB)::aW (us++[y])::X::F) ah ?_
  have Ja:y.c=cW x:=by
   unfold Tk.c cW
   rw[Rr,hy3,hy4,← yF,Int.toNat_natCast]
  (refine bW hE Tryz.func77 rfl _ rfl ⟨rfl,us++[y],_,by rw[JB,hcu,Ja,rX],rfl⟩ ah)
 have Te:=bY 1 ag h1
 by_cases h2:k=2
 ·subst h2
  by_cases h0:0<more.length
  case neg =>
   have rX:=oJ (cs:=gz ts) hr (fun h=>absurd h.1 (by decide)) (fun h=>absurd h.1 (by decide)) (fun h=>h0 h.2)
   refine go ?_
   refine aX 95 ((.bool false)) rfl ((congrArg Value.bool (decide_eq_false ag))) (go ?_)
   refine ai (H':=ae tb (cl [ptr bs,ptr jb,tv,.bool br] 88)::aB 90 1 tv ts.length (ts.map cB)::aW ts::X::F) ah ?_
   refine bW hE Tryz.func77 rfl _ rfl ⟨rfl,iK rX⟩ ah
  obtain⟨m,l,rfl⟩:∃m l,more=m::l:=by
   match more,h0 with
   | m::l,_=>exact⟨m,l,rfl⟩
  have rX:=vF (cs:=gz ts) hr
  have htp:=J' Z tb bs jb tv br ts d _ m l abw Zb XK ag hn hw
  unfold eh dV at htp
  refine go ?_
  refine aX 95 ((.bool true)) rfl ((congrArg Value.bool (decide_eq_true ag))) (go ?_)
  refine aG (U:=aQ) (l:=dC d) 0 zr zr zr zr zr zr ?_
  ((refine go ?_;(refine aH htp ?_)))
  rintro _ _⟨rfl,kk,Zd,rfl⟩
  refine go ?_
  refine ai (H':=ae tb (cl [ptr bs,ptr jb,tv,.bool br] 88)::aB 90 1 tv (ts.map (fP (De m l) d kk (l.map hz))).length ((ts.map (fP (De m l) d kk (l.map hz))).map cB)::aW (ts.map (fP (De m l) d kk (l.map hz)))::X::F) ah ?_
  (refine bW hE Tryz.func77 rfl _ rfl ⟨rfl,ts.map (fP (De m l) d kk (l.map hz)),tv,by rw[GX ts d m l kk Zd,rX],rfl⟩ ah)
 have hn2:=bY 2 ag h2
 have rX:=oJ (cs:=gz ts) hr (fun h=>h3 h.1) (fun h=>h1 h.1) (fun h=>h2 h.1)
 refine go ?_
 refine au 39 ((.bool false)) rfl ((congrArg Value.bool Te)) (go ?_)
 refine au 98 ((.bool false)) rfl ((congrArg Value.bool hn2)) (go ?_)
 refine ai (H':=ae tb (cl [ptr bs,ptr jb,tv,.bool br] 88)::aB 90 1 tv ts.length (ts.map cB)::aW ts::X::F) ah ?_
 refine bW hE Tryz.func77 rfl _ rfl ⟨rfl,iK rX⟩ ah
end Go.Proofs.YtedjnjkijiddlaaGreatDoor
namespace Go.Proofs.YtedjnjkijiddlaaGreatDoor
open Go Go.SL
def Tk.drop(y:Tk)(i:Nat):Tk:=⟨y.yb,y.sb,y.mb,y.x,y.n,jR y.ws i false,fun j=>if j=(i:Int)then none else y.pf j⟩
def H8(es:List (Int × Value))(k j:Int):ew (rL es k) j=if j=k then none else ew es j:=by
 induction es with
 | nil=>simp[rL,ew]
 | cons x es ih =>
  unfold rL at ih ⊢
  rw[List.filter_cons]
  by_cases hx:x.1=k
  ·simp only[hx,decide_true,Bool.not_true,Bool.false_eq_true,if_false]
   rw[ih]
   by_cases hj:j=k
   ·rw[if_pos hj,if_pos hj]
   ·rw[if_neg hj,if_neg hj]
    unfold ew
    rw[List.find?_cons_of_neg (by simp;rw[hx];exact fun e=>hj e.symm)]
  ·simp only[hx,decide_false,Bool.not_false,if_true]
   unfold ew at ih ⊢
   by_cases Rs:x.1=j
   ·rw[List.find?_cons_of_pos (by simpa using Rs),List.find?_cons_of_pos (by simpa using Rs),if_neg (fun e=>hx (Rs.trans e))]
   ·rw[List.find?_cons_of_neg (by simpa using Rs),List.find?_cons_of_neg (by simpa using Rs)]
    exact ih
def JK.drop{z:Value × List (Int × Value) × fU}{y:Tk}(h:JK z y)(i:Nat):JK (z.1,rL z.2.1 (i:Int),z.2.2) (y.drop i):=fun j=>by
 simp only
 rw[H8]
 by_cases hj:j=(i:Int)
 ·rw[if_pos hj]
  show(if j=(i:Int)then none else y.pf j)=none
  rw[if_pos hj]
 ·rw[if_neg hj]
  have:=h j
  show match ew z.2.1 j with
   | none=>(if j=(i:Int)then none else y.pf j)=none
   | some v=>∃l,(if j=(i:Int)then none else y.pf j)=some l∧Dn z.2.2 32 v l.length (l.flatMap dC)
  rw[if_neg hj]
  exact this
attribute [local irreducible] J K aE Ends ae aB aP bP bq aS aZ bu bX aC
def Ka(y:Tk)(i:Nat)(hi:i<y.n)(hn:y.n≤65536)(hw:y.n≤y.ws.length*64) :
  aE Tryz.prog 139 [ptr y.yb,.int .i64 (i:Int)] [oD y] (fun r H=>r = .tuple #[]∧H=[oD (y.drop i)]):=by
 refine aE.ao Tryz.func139 Tryz.ntmps139 fun G F R hE=>?_
 refine eG (gi y) ?_
 rintro⟨wv,cs,M⟩ hz
 have rG:=F7 y.sb y.n wv y.ws hn hw i hi false
 unfold eQ at rG
 refine ai (H':=ae y.yb (cl (lr y) 93)::ae y.sb (cl [.int .i64 (y.n:Int),wv] 117)::aB 118 1 wv y.ws.length (qV y.ws)::aP (Value.int .i64) y.mb cs::aZ 35 M::F) (by unfold mN;exact ah) ?_
 refine go ?_
 refine aJ rG ?_
 refine aI (H':=ae y.yb (cl (lr y) 93)::aP (Value.int .i64) y.mb cs::ae y.sb (cl [.int .i64 (y.n:Int),wv] 117)::aB 118 1 wv (jR y.ws i false).length (qV (jR y.ws i false))::aZ 35 M::F) ah (go ?_)
 refine mK (es:=cs) (key:=(i:Int)) 1 (Ck Tryz.underlying3) (fun w hw=>by exact trivial) zr zr zr zr zr zr zr ?_
 refine go ?_
 refine ai (H':=mN (y.drop i) (wv,rL cs (i:Int),M)++F) (by unfold mN;exact ah) ?_
 refine ai (iX (hz.drop i) _) ?_
 refine bW hE Tryz.func139 rfl _ rfl ⟨rfl,rfl⟩ ah
end Go.Proofs.YtedjnjkijiddlaaGreatDoor
namespace Go.Proofs.YtedjnjkijiddlaaGreatDoor
open Go Go.SL
def ke(c:TC):Prop:=c.n≤1024∧c.n≤c.ws.length*64∧c.ws.length≤65536∧∀k l,c.pf k=some l→l.length≤10
def ke.drop{c:TC}(h:ke c)(i:Nat):ke (c.drop i):=⟨h.1,by unfold TC.drop;simp only[iI];exact h.2.1,by unfold TC.drop;simp only[iI];exact h.2.2.1,fun k l hk=>by
  unfold TC.drop at hk
  simp only at hk
  split at hk
  · cases hk
  · exact h.2.2.2 k l hk⟩
def ke.hold{s:fe}{c:TC}(h:ke c):∀k,ke (iJ s c k).1
 | 0=>h
 | k+1=>by
  rw[mg]
  have ih:=ke.hold (s:=s) h k
  unfold k7
  split
  ·split
   ·exact ih.drop k
   ·exact ih
  ·exact ih
def sI{x:Bl}{i:Int}{b:List UInt8}{p:List Dg}(h:cd x i b p=true):p.length≤10:=by
 unfold cd at h
 split at h
 ·cases h
 ·rw[Bool.and_eq_true]at h
  have:=h.2
  unfold gb at this
  rw[decide_eq_true_iff]at this
  rw[this.2.1]
  exact od _ _
def OK{s:fe}{y:Tk}{ls:List (List UInt8)}{i:Nat}(h:cy y.ws y.n (i:Int)=false):k7 s (y.c,ls) i=(y.c,ls):=by
 unfold k7
 exact if_neg (show ¬cy y.ws y.n (i:Int)=true by rw[h];simp)
def Hr{s:fe}{y:Tk}{ls:List (List UInt8)}{i:Nat}(h:cy y.ws y.n (i:Int)=true)(h2:(eo s y.x (i:Int)).2≠0∨cd y.x i (eo s y.x (i:Int)).1 ((y.pf i).getD [])=false):k7 s (y.c,ls) i=(y.c.drop i,ls):=by
 unfold k7
 exact(if_pos (show cy y.ws y.n (i:Int)=true from h)).trans (if_pos h2)
def Ho{s:fe}{y:Tk}{ls:List (List UInt8)}{i:Nat}(h:cy y.ws y.n (i:Int)=true)(h2:¬((eo s y.x (i:Int)).2≠0∨cd y.x i (eo s y.x (i:Int)).1 ((y.pf i).getD [])=false)):k7 s (y.c,ls) i=(y.c,ls++[bJ y.x.d i ((y.pf i).getD [])]):=by
 unfold k7
 exact(if_pos (show cy y.ws y.n (i:Int)=true from h)).trans (if_neg h2)
attribute [local irreducible] J K aE Ends ae aB aP bP bq aS aZ bu bX aC cG
def OJ(X:HP)(hK:oG X)(tb bs jb bd:Nat)(tv:Value)(br:Bool)(q:Int)(mb:Nat)(s:SJ)(hRd:∀nm at_ n,(s.1.A.read nm at_ n).1.length≤1048576)(y0:Tk)(kC:ke y0.c)(iB:0≤y0.x.size∧y0.x.size≤1000000000000)(Qz:0≤y0.x.piece∧y0.x.piece≤1000000000000) :
  aE Tryz.prog 78 [ptr tb,ptr y0.yb] [ae tb (cl [ptr bs,ptr jb,tv,.bool br] 88),oD y0,cG bs bd jb q mb [] s,X]
  (fun r H=>∃(y:Tk) (Z:HP),y.yb=y0.yb∧y.c=(ki s.1 y0.c).1∧sj Z r (ki s.1 y0.c).2∧H=[ae tb (cl [ptr bs,ptr jb,tv,.bool br] 88),oD y,cG bs bd jb q mb [] s,X,Z]):=by
 have uI:=sh y0.x iB Qz
 unfold eL at uI
 have RH:y0.n≤1024:=kC.1
 refine aE.ao Tryz.func78 Tryz.ntmps78 fun G F R hE=>?_
 refine ai (al.pick [1] rfl) ?_
 refine eG (gi y0) ?_
 rintro⟨wv,cs,N⟩ SW
 refine ai (H':=ae y0.yb (cl (lr y0) 93)::ae y0.sb (cl [.int .i64 (y0.n:Int),wv] 117)::aB 118 1 wv y0.ws.length (qV y0.ws)::aP (Value.int .i64) y0.mb cs::aZ 35 N::ae tb (cl [ptr bs,ptr jb,tv,.bool br] 88)::cG bs bd jb q mb [] s::X::F) (by unfold mN;exact ah) ?_
 refine go ?_
 refine dH (cs:=bH y0.x) 0 zr zr zr zr zr zr ?_
 refine aH uI ?_
 rintro r _ rfl
 refine aO 0 rfl ?_
 rintro a8 c8 rfl
 refine gQ (bs:=bU y0.x) 0 rfl ?_
 intro Jq
 refine go ?_
 refine aj (cs:=[.slice a8 (bU y0.x).length c8]) zr zr zr zr zr zr zr zr zr bD ?_
 intro row
 refine aI (H':=ae y0.yb (cl (lr y0) 93)::ae y0.sb (cl [.int .i64 (y0.n:Int),wv] 117)::aB 118 1 wv y0.ws.length (qV y0.ws)::aP (Value.int .i64) y0.mb cs::aZ 35 N::ae row (cl [.slice a8 (bU y0.x).length c8] 22)::aB 5 1 (.slice a8 (bU y0.x).length c8) (bU y0.x).length (bV (bU y0.x))::ae tb (cl [ptr bs,ptr jb,tv,.bool br] 88)::cG bs bd jb q mb [] s::X::F) ah (go ?_)
 refine aJ (oC y0.sb y0.n wv) ?_
 refine go ?_
 refine ai (al.trans (H2:=mN y0 (wv,cs,N)++(ae row (cl [.slice a8 (bU y0.x).length c8] 22)::aB 5 1 (.slice a8 (bU y0.x).length c8) (bU y0.x).length (bV (bU y0.x))::ae tb (cl [ptr bs,ptr jb,tv,.bool br] 88)::cG bs bd jb q mb [] s::X::F)) (by unfold mN;exact ah) (iX SW _)) ?_
 refine ai (H':=ae row (cl [.slice a8 (bU y0.x).length c8] 22)::aB 5 1 (.slice a8 (bU y0.x).length c8) (bU y0.x).length (bV (bU y0.x))::oD y0::ae tb (cl [ptr bs,ptr jb,tv,.bool br] 88)::cG bs bd jb q mb [] s::X::F) ah ?_
 refine ai (eJ 22 1 row 1 1 [.slice a8 (bU y0.x).length c8] [] _ rfl (Nat.le_refl _) (by simp)) ?_
 refine bB (fun z:Nat × Tk × Zr × Option Addr × Nat=>z.1≤y0.n∧z.2.1.yb=y0.yb∧z.2.1.c=(iJ s.1 y0.c z.1).1∧CZ z.2.2.1 (iJ s.1 y0.c z.1).2∧z.2.2.1.cs.length≤z.1+1) (fun z=>y0.n-z.1)
  (fun z=>[(0,ptr tb),(1,ptr y0.yb),(5,.slice z.2.2.2.1 z.2.2.1.cs.length z.2.2.2.2),(19,.int .i64 (y0.n:Int)),(20,.int .i64 (z.1:Int))])
  (fun z=>aB 22 1 (.slice z.2.2.2.1 z.2.2.1.cs.length z.2.2.2.2) z.2.2.1.cs.length z.2.2.1.cs::z.2.2.1.Z::oD z.2.1::ae tb (cl [ptr bs,ptr jb,tv,.bool br] 88)::cG bs bd jb q mb [] s::X::F) (0,y0,⟨[.slice a8 (bU y0.x).length c8],aB 5 1 (.slice a8 (bU y0.x).length c8) (bU y0.x).length (bV (bU y0.x))⟩,some ⟨row,0,none⟩,1) ⟨Nat.zero_le _,rfl,rfl,?_,by simp⟩ rfl cg ah ?_
 ·refine⟨rfl,fun j x hx=>?_⟩
  match j,hx with
  | 0,hx=>cases hx;exact⟨_,rfl,Jq⟩
  | j+1,hx=>cases hx
 clear SW Jq cs N wv
 rintro⟨i,y,M,oa,oc⟩⟨hi,Dh,Ja,hM,hMl⟩ ih
 simp only at hi Dh Ja hM hMl
 dsimp only
 refine go ?_
 refine aq zr zr ?_ ?_
 ·intro de
  have gl:i<y0.n:=by omega
  obtain⟨ls,Jj⟩:∃ls,ls=(iJ s.1 y0.c i).2:=⟨_,rfl⟩
  have Tc:iJ s.1 y0.c i=(y.c,ls):=by rw[Ja,Jj]
  have lC:=mg s.1 y0.c i
  rw[Tc]at lC
  rw[← Jj]at hM
  have abi:ke y.c:=by rw[Ja];exact kC.hold i
  have hxx:=Jh s.1 y0.c i
  rw[← Ja]at hxx
  have I':y.n=y0.n:=hxx.2.1
  have aa0:y.n≤65536:=Nat.le_trans abi.1 ag
  have Hi:y.n≤y.ws.length*64:=abi.2.1
  have rJ:=uF y.sb y.n
  rw[← Dh]
  refine ai (al.pick [2] rfl) ?_
  refine eG (gi y) ?_
  rintro⟨wv,cs,N⟩ hz
  have ji:∀H,al (ae y.yb (cl (lr y) 93)::ae y.sb (cl [.int .i64 (y.n:Int),wv] 117)::aB 118 1 wv y.ws.length (qV y.ws)::aP (Value.int .i64) y.mb cs::aZ 35 N::H) (oD y::H):=fun H=>al.trans (H2:=mN y (wv,cs,N)++H) (by unfold mN;exact ah) (iX hz _)
  have rJ:=uF y.sb y.n wv y.ws aa0 Hi (i:Int)
  unfold eQ at rJ
  refine ai (H':=ae y.yb (cl (lr y) 93)::ae y.sb (cl [.int .i64 (y.n:Int),wv] 117)::aB 118 1 wv y.ws.length (qV y.ws)::aP (Value.int .i64) y.mb cs::aZ 35 N::aB 22 1 (.slice oa M.cs.length oc) M.cs.length M.cs::M.Z::ae tb (cl [ptr bs,ptr jb,tv,.bool br] 88)::cG bs bd jb q mb [] s::X::F) (by unfold mN;exact ah) ?_
  refine go ?_
  refine aJ rJ ?_
  cases Tm:cy y.ws y.n (i:Int)with
  | false =>
   have uH:iJ s.1 y0.c (i+1)=(y.c,ls):=by rw[lC,OK Tm]
   refine go ?_
   refine aX 1 ((ptr y0.yb)) rfl ((by rw[Dh])) ?_
   refine ai (al.trans ah (ji (aB 22 1 (.slice oa M.cs.length oc) M.cs.length M.cs::M.Z::ae tb (cl [ptr bs,ptr jb,tv,.bool br] 88)::cG bs bd jb q mb [] s::X::F))) ?_
   refine aM ih (i+1,y,M,oa,oc) rfl ⟨by simp only;omega,Dh,by rw[uH],by rw[uH];exact hM,by simp only;omega⟩ (by simp only;omega) cg ah
  | true =>
  have hsg:=Ia bs bd q mb s.1 y.x (i:Int)
  unfold eL at hsg
  obtain⟨bb,Jp⟩:∃b,b=(eo s.1 y.x (i:Int)).1:=⟨_,rfl⟩
  obtain⟨ee,Zh⟩:∃e,e=(eo s.1 y.x (i:Int)).2:=⟨_,rfl⟩
  have iC:bb.length≤1048576:=by
   rw[Jp]
   unfold eo
   split
   ·split
    ·simp
    ·exact hRd _ _ _
   ·simp
  have Qt:(ee≠0∨cd y.x i bb ((y.pf i).getD [])=false)→iJ s.1 y0.c (i+1)=(y.c.drop i,ls):=fun h=>by
   rw[Zh,Jp]at h
   rw[lC,Hr Tm h]
  have Xt:¬(ee≠0∨cd y.x i bb ((y.pf i).getD [])=false)→iJ s.1 y0.c (i+1)=(y.c,ls++[bJ y.x.d i ((y.pf i).getD [])]):=fun h=>by
   rw[Zh,Jp]at h
   rw[lC,Ho Tm h]
  rw[← Jp,← Zh]at hsg
  clear rJ Jp Zh lC Tc Jj
  obtain⟨pv,RA,OH⟩:=hz.look (i:Int)
  simp only at RA OH
  obtain⟨pa,pc,adh,Tb⟩:=OH.shape
  subst adh
  refine go ?_
  refine ai (H':=cG bs bd jb q mb [] s::ae y.yb (cl (lr y) 93)::ae y.sb (cl [.int .i64 (y.n:Int),wv] 117)::aB 118 1 wv y.ws.length (qV y.ws)::aP (Value.int .i64) y.mb cs::aZ 35 N::aB 22 1 (.slice oa M.cs.length oc) M.cs.length M.cs::M.Z::ae tb (cl [ptr bs,ptr jb,tv,.bool br] 88)::X::F) ah ?_
  refine ai (Ic bs bd jb q mb s _) ?_
  refine ai (H':=ae tb (cl [ptr bs,ptr jb,tv,.bool br] 88)::ae y.yb (cl (lr y) 93)::ae y.sb (cl [.int .i64 (y.n:Int),wv] 117)::aB 118 1 wv y.ws.length (qV y.ws)::aP (Value.int .i64) y.mb cs::aZ 35 N::(cH bs bd q mb s.1++(rU jb bd db s.2::aB 22 1 (.slice oa M.cs.length oc) M.cs.length M.cs::M.Z::X::F))) ah ?_
  refine aF (fun w=>Sat G w ([ae tb (cl [ptr bs,ptr jb,tv,.bool br] 88),ae y.yb (cl (lr y) 93)])) (cZ 0 9 (.act 9 (cZ 10 5 .nil))) rfl ak ak ak dT ?_
  refine go ?_
  refine cf (U:=aQ) (cs:=bH y.x) 1 zr zr zr zr zr zr (go ?_)
  ((refine gD zr zr zr zr (hsg) ah ?_ (fun _ _ w hp hw=>by obtain⟨_,rfl,rfl⟩:=hp;exact hw.cV ah)))
  rintro _ _⟨rv,rfl,rfl⟩
  refine aO 0 rfl ?_
  rintro ra rc rfl
  refine ld ?_
  refine fL rfl ?_
  refine ai (al.trans ah (zC bs bd jb q mb s (aB 5 1 (.slice ra bb.length rc) bb.length (bV bb)::ae y.yb (cl (lr y) 93)::ae y.sb (cl [.int .i64 (y.n:Int),wv] 117)::aB 118 1 wv y.ws.length (qV y.ws)::aP (Value.int .i64) y.mb cs::aZ 35 N::aB 22 1 (.slice oa M.cs.length oc) M.cs.length M.cs::M.Z::ae tb (cl [ptr bs,ptr jb,tv,.bool br] 88)::X::F))) ?_
  refine qE (bs:=bb) 1 rfl ?_
  intro ad9
  obtain⟨pf,hpf⟩:∃l,l=(y.pf (i:Int)).getD []:=⟨_,rfl⟩
  rw[← hpf]at RA OH Tb Qt Xt
  have QC:=yu (Sep [X,aB 5 1 (.slice ra bb.length rc) bb.length (bV bb),aZ 35 N]) (hK.mono (bg (H:=[X,aB 5 1 (.slice ra bb.length rc) bb.length (bV bb),aZ 35 N]) (i:=0) rfl)) y.x (i:Int) (.slice ra bb.length rc) bb (ad9.mono (bg (i:=1) rfl)) ag (.slice pa pf.length pc) pf ⟨(OH.view _).mono (bg (i:=2) rfl),pa,pc,rfl,Tb⟩
  unfold eL at QC
  have Zi:=Ka y i ag aa0 Hi
  refine ai (H':=X::aB 5 1 (.slice ra bb.length rc) bb.length (bV bb)::aZ 35 N::ae y.yb (cl (lr y) 93)::aP (Value.int .i64) y.mb cs::ae y.sb (cl [.int .i64 (y.n:Int),wv] 117)::aB 118 1 wv y.ws.length (qV y.ws)::aB 22 1 (.slice oa M.cs.length oc) M.cs.length M.cs::M.Z::ae tb (cl [ptr bs,ptr jb,tv,.bool br] 88)::cG bs bd jb q mb [] s::F) ah ?_
  refine ai (al.bS [X,aB 5 1 (.slice ra bb.length rc) bb.length (bV bb),aZ 35 N] _) ?_
  refine ai (H':=ae y.yb (cl (lr y) 93)::aP (Value.int .i64) y.mb cs::Sep [X,aB 5 1 (.slice ra bb.length rc) bb.length (bV bb),aZ 35 N]::ae y.sb (cl [.int .i64 (y.n:Int),wv] 117)::aB 118 1 wv y.ws.length (qV y.ws)::aB 22 1 (.slice oa M.cs.length oc) M.cs.length M.cs::M.Z::ae tb (cl [ptr bs,ptr jb,tv,.bool br] 88)::cG bs bd jb q mb [] s::F) ah ?_
  have k6:∀H,al (Sep [X,aB 5 1 (.slice ra bb.length rc) bb.length (bV bb),aZ 35 N]::ae y.yb (cl (lr y) 93)::aP (Value.int .i64) y.mb cs::ae y.sb (cl [.int .i64 (y.n:Int),wv] 117)::aB 118 1 wv y.ws.length (qV y.ws)::H) (ae y.yb (cl (lr y) 93)::ae y.sb (cl [.int .i64 (y.n:Int),wv] 117)::aB 118 1 wv y.ws.length (qV y.ws)::aP (Value.int .i64) y.mb cs::aZ 35 N::X::H):=fun H=>(al.cD [X,aB 5 1 (.slice ra bb.length rc) bb.length (bV bb),aZ 35 N] _).trans ah
  refine aF (fun w=>Sat G w ([ae y.yb (cl (lr y) 93),aP (Value.int .i64) y.mb cs])) (cZ 0 15 (.act 15 (.st 16 (.st 17 .nil)))) rfl ak ak ak dT ?_
  refine go ?_
  by_cases he:ee=0
  case neg =>
   have uH:=Qt (.inl he)
   refine au 45 ((.bool true)) rfl ((congrArg Value.bool (decide_eq_true ag))) (go ?_)
   refine aI (al.trans ah (k6 (aB 22 1 (.slice oa M.cs.length oc) M.cs.length M.cs::M.Z::ae tb (cl [ptr bs,ptr jb,tv,.bool br] 88)::cG bs bd jb q mb [] s::F))) ?_
   refine aI (ji _) (go ?_)
   refine aJ Zi ?_
   refine go ?_
   refine aX 1 ((ptr y0.yb)) rfl ((by rw[Dh])) ?_
   refine aM ih (i+1,y.drop i,M,oa,oc) rfl ⟨by simp only;omega,Dh,by rw[uH];rfl,by rw[uH];exact hM,by simp only;omega⟩ (by simp only;omega) cg ah
  refine au 45 ((.bool false)) rfl ((congrArg Value.bool (decide_eq_false ag))) (go ?_)
  refine cf (U:=aQ) (cs:=bH y.x) 0 zr zr zr zr zr zr (go ?_)
  refine BF (U:=aQ) (kv:=Value.int .i64) (es:=cs) (key:=(i:Int)) rfl (Ck Tryz.underlying3) zr zr zr zr zr zr zr (fun w hw=>hw.o8 (i:=1) rfl) ?_
  refine au 57 ((.slice pa pf.length pc)) rfl (RA) (go ?_)
  refine bo QC ?_
  cases K4:cd y.x i bb pf with
  | false =>
   have uH:=Qt (.inr K4)
   refine go ?_
   refine aI (al.trans ah (k6 (aB 22 1 (.slice oa M.cs.length oc) M.cs.length M.cs::M.Z::ae tb (cl [ptr bs,ptr jb,tv,.bool br] 88)::cG bs bd jb q mb [] s::F))) ?_
   refine aI (ji _) (go ?_)
   refine aJ Zi ?_
   refine go ?_
   refine aX 1 ((ptr y0.yb)) rfl ((by rw[Dh])) ?_
   refine aM ih (i+1,y.drop i,M,oa,oc) rfl ⟨by simp only;omega,Dh,by rw[uH];rfl,by rw[uH];exact hM,by simp only;omega⟩ (by simp only;omega) cg ah
  | true =>
  have uH:=Xt (fun h=>by rcases h with h|h;exact h he;rw[K4]at h;cases h)
  have nV:=sI K4
  have Ga:=AV y.x.d i ag (aZ 35 N) (.slice pa pf.length pc) pf (OH.view _) ag
  unfold dV at Ga
  refine go ?_
  refine ai (al.trans ah (k6 (aB 22 1 (.slice oa M.cs.length oc) M.cs.length M.cs::M.Z::ae tb (cl [ptr bs,ptr jb,tv,.bool br] 88)::cG bs bd jb q mb [] s::F))) ?_
  refine ai (H':=ae y.yb (cl (lr y) 93)::aP (Value.int .i64) y.mb cs::aZ 35 N::aB 22 1 (.slice oa M.cs.length oc) M.cs.length M.cs::ae y.sb (cl [.int .i64 (y.n:Int),wv] 117)::aB 118 1 wv y.ws.length (qV y.ws)::M.Z::ae tb (cl [ptr bs,ptr jb,tv,.bool br] 88)::cG bs bd jb q mb [] s::X::F) ah ?_
  refine aF (fun w=>Sat G w ([ae y.yb (cl (lr y) 93),aP (Value.int .i64) y.mb cs])) (cZ 0 13 (.act 13 (.act 14 (.act 15 (.st 16 .nil))))) rfl ak ak ak dT ?_
  refine go ?_
  refine cf (U:=aQ) (cs:=dC y.x.d) 0 zr zr zr zr zr zr (go ?_)
  refine BF (U:=aQ) (kv:=Value.int .i64) (es:=cs) (key:=(i:Int)) rfl (Ck Tryz.underlying3) zr zr zr zr zr zr zr (fun w hw=>hw.o8 (i:=1) rfl) ?_
  refine au 76 ((.slice pa pf.length pc)) rfl (RA) (go ?_)
  refine cN Ga ?_
  rintro r9 _ rfl
  refine aO 0 rfl ?_
  rintro a9 c9 rfl
  refine gQ (bs:=bJ y.x.d i pf) 0 rfl ?_
  intro Yc
  refine go ?_
  refine aj (cs:=[.slice a9 (bJ y.x.d i pf).length c9]) zr zr zr zr zr zr zr zr zr (fun _ w hw=>hw.cV ah) ?_
  intro QX
  refine aI (H':=ae QX (cl [.slice a9 (bJ y.x.d i pf).length c9] 22)::aB 22 1 (.slice oa M.cs.length oc) M.cs.length M.cs::aB 5 1 (.slice a9 (bJ y.x.d i pf).length c9) (bJ y.x.d i pf).length (bV (bJ y.x.d i pf))::M.Z::ae y.yb (cl (lr y) 93)::ae y.sb (cl [.int .i64 (y.n:Int),wv] 117)::aB 118 1 wv y.ws.length (qV y.ws)::aP (Value.int .i64) y.mb cs::aZ 35 N::ae tb (cl [ptr bs,ptr jb,tv,.bool br] 88)::cG bs bd jb q mb [] s::X::F) ah (go ?_)
  refine aR (mm:=1) (news:=[.slice a9 (bJ y.x.d i pf).length c9]) 1 0 rfl rfl rfl rfl rfl rfl rfl rfl rfl rfl rfl rfl (Vw.ae rfl) rfl (by intro v hv;simp at hv;rw[hv];rfl) ag (by show(_+_)*24≤_;omega) (fun _=>rfl) (fun _ w hw=>hw.cV ah) ?_
  intro v1
  refine aO 1 rfl ?_
  rintro ja jc rfl
  refine go ?_
  have yW:=hM.add Yc
  have X6:(M.cs++[Value.slice a9 (bJ y.x.d i pf).length c9]).length=M.cs.length+1:=by simp
  refine ai (H':=aB 5 1 (.slice a9 (bJ y.x.d i pf).length c9) (bJ y.x.d i pf).length (bV (bJ y.x.d i pf))::M.Z::ae y.yb (cl (lr y) 93)::ae y.sb (cl [.int .i64 (y.n:Int),wv] 117)::aB 118 1 wv y.ws.length (qV y.ws)::aP (Value.int .i64) y.mb cs::aZ 35 N::aB 22 1 (.slice ja (M.cs++[Value.slice a9 (bJ y.x.d i pf).length c9]).length jc) (M.cs++[Value.slice a9 (bJ y.x.d i pf).length c9]).length (M.cs++[Value.slice a9 (bJ y.x.d i pf).length c9])::ae tb (cl [ptr bs,ptr jb,tv,.bool br] 88)::cG bs bd jb q mb [] s::X::F) (by rw[X6];exact ah) ?_
  refine ai (al.bS [aB 5 1 (.slice a9 (bJ y.x.d i pf).length c9) (bJ y.x.d i pf).length (bV (bJ y.x.d i pf)),M.Z] _) ?_
  refine ai (al.trans ah (ji (Sep [aB 5 1 (.slice a9 (bJ y.x.d i pf).length c9) (bJ y.x.d i pf).length (bV (bJ y.x.d i pf)),M.Z]::aB 22 1 (.slice ja (M.cs++[Value.slice a9 (bJ y.x.d i pf).length c9]).length jc) (M.cs++[Value.slice a9 (bJ y.x.d i pf).length c9]).length (M.cs++[Value.slice a9 (bJ y.x.d i pf).length c9])::ae tb (cl [ptr bs,ptr jb,tv,.bool br] 88)::cG bs bd jb q mb [] s::X::F))) ?_
  refine aX 1 ((ptr y0.yb)) rfl ((by rw[Dh])) ?_
  refine aX 5 ((.slice ja (M.cs++[Value.slice a9 (bJ y.x.d i pf).length c9]).length jc)) rfl ((by rw[X6])) ?_
  refine aM ih (i+1,y,⟨M.cs++[Value.slice a9 (bJ y.x.d i pf).length c9],Sep [aB 5 1 (.slice a9 (bJ y.x.d i pf).length c9) (bJ y.x.d i pf).length (bV (bJ y.x.d i pf)),M.Z]⟩,ja,jc) rfl ⟨by simp only;omega,Dh,by rw[uH],by rw[uH];exact yW,by simp only[X6];omega⟩ (by simp only;omega) cg ah
 ·intro fA
  have tl:i=y0.n:=by omega
  subst tl
  clear ih
  rw[show iJ s.1 y0.c y0.n=ki s.1 y0.c from rfl]at Ja hM
  refine mH 0 rfl ?_
  intro jz
  refine dy 0 rfl ?_
  intro Oy
  have Bb:=hM.1
  have mR:sj (Sep [aB 22 1 (.slice oa M.cs.length oc) M.cs.length M.cs,M.Z]) (.slice oa M.cs.length oc) (ki s.1 y0.c).2:=by
   rw[Bb]at Oy jz ⊢
   exact sj.ofP Oy jz Bb hM.2
  refine ai (al.bS [aB 22 1 (.slice oa M.cs.length oc) M.cs.length M.cs,M.Z] _) (go ?_)
  refine ai (H':=ae tb (cl [ptr bs,ptr jb,tv,.bool br] 88)::oD y::cG bs bd jb q mb [] s::X::Sep [aB 22 1 (.slice oa M.cs.length oc) M.cs.length M.cs,M.Z]::F) ah ?_
  refine ad hE Tryz.func78 zr zr ⟨y,_,Dh,Ja,mR,rfl⟩
end Go.Proofs.YtedjnjkijiddlaaGreatDoor
namespace Go.Proofs.YtedjnjkijiddlaaGreatDoor
open Go Go.SL
def MM(c:TC):Prop:=ke c∧bz c.x=true
def ke.fresh(x:Bl):ke (cW x):=by
 have h:=lS x
 unfold ke cW
 simp only[List.length_replicate]
 exact⟨ag,ag,ag,fun k l h=>by cases h⟩
def ke.put{c:TC}(h:ke c)(i:Nat){l:List Dg}(hl:l.length≤10):ke (c.put i l):=⟨h.1,by unfold TC.put;simp only[iI];exact h.2.1,by unfold TC.put;simp only[iI];exact h.2.2.1,fun k l' hk=>by
  unfold TC.put at hk
  simp only at hk
  split at hk
  · injection hk with hk;rw[← hk];exact hl
  · exact h.2.2.2 k l' hk⟩
def nL{cs:List TC}(h:∀c∈cs,MM c)(d:Dg)(m:List UInt8)(l:List (List UInt8)):(∀c∈l8 cs d m l,MM c)∧(l8 cs d m l).length=cs.length:=by
 unfold l8
 split
 ·refine⟨fun c hc=>?_,by simp⟩
  obtain⟨y,hy,rfl⟩:=List.mem_map.1 hc
  split
  ·rename_i hh
   exact⟨(h y hy).1.put _ (by rw[hh.2.2];exact od _ _),(h y hy).2⟩
  ·exact h y hy
 ·exact⟨h,rfl⟩
def W2{cs:List TC}(h:∀c∈cs,MM c)(d:Dg):(∀c∈DV cs d,MM c)∧(DV cs d).length≤cs.length:=⟨fun c hc=>h c (List.mem_filter.1 hc).1,List.length_filter_le _ _⟩
def M6{cs:List TC}(h:∀c∈cs,MM c)(b:List UInt8):(∀c∈dB cs b,MM c)∧(dB cs b).length≤cs.length+1:=by
 unfold dB
 split
 ·exact⟨h,ag⟩
 ·rename_i k d more _
  have hr:=W2 h d
  split
  ·exact⟨hr.1,ag⟩
  ·split
   ·split
    ·split
     ·rename_i s p r _ _ _
      split
      ·rename_i Qx
       refine⟨fun c hc=>?_,by rw[List.length_append];simp;omega⟩
       rcases List.mem_append.1 hc with hc|hc
       ·exact hr.1 c hc
       ·rw[List.mem_singleton.1 hc];exact⟨ke.fresh _,Qx⟩
      ·exact⟨h,ag⟩
     ·exact⟨h,ag⟩
    ·split
     ·have:=nL h d ‹_› [‹_›,‹_›]
      exact⟨(nL h d _ _).1,by rw[(nL h d _ _).2];omega⟩
     ·exact⟨h,ag⟩
   ·split
    ·exact⟨(nL h d _ _).1,by rw[(nL h d _ _).2];omega⟩
    ·exact⟨h,ag⟩
   ·exact⟨h,ag⟩
def ID:∀(ls:List (List UInt8)) (cs:List TC),(∀c∈cs,MM c)→(∀c∈ls.foldl dB cs,MM c)∧(ls.foldl dB cs).length≤cs.length+ls.length
 | [],cs,h=>⟨h,by simp⟩
 | b::ls,cs,h=>by
  obtain⟨h1,h2⟩:=M6 h b
  obtain⟨h3,h4⟩:=ID ls (dB cs b) h1
  exact⟨h3,by simp only[List.foldl_cons,List.length_cons];omega⟩
def pT(ls:List (List UInt8)):(∀c∈ls.foldl dB [],MM c)∧(ls.foldl dB []).length≤ls.length:=by
 have:=ID ls [] (fun c h=>by cases h)
 exact⟨this.1,by simpa using this.2⟩
def Iz{q:Int}{x:Bl}{s t:fe}{e:Nat}(h:dS q x s e t):t.bt=s.bt∨t.bt=s.bt++[(x.d,x)]:=by
 unfold dS at h
 split at h
 ·exact .inl (by rw[h.2])
 split at h
 ·exact .inl (by rw[h.2])
 split at h
 ·exact .inl (by rw[h.2])
 split at h
 ·exact .inl (by rw[h.2])
 split at h
 ·exact .inr (by rw[h.2])
 ·obtain⟨e1,s1,⟨B,_,rfl⟩,h2⟩:=h
  rcases h2 with⟨_,_,rfl⟩|⟨_,_,rfl⟩
  ·exact .inl rfl
  ·exact .inr rfl
def dp{x:Bl}(h:bz x=true):1≤x.size∧x.size≤1048576∧16≤x.piece∧x.piece≤16384:=by
 simp only[bz,decide_eq_true_eq]at h
 omega
def pI.begin{q:Int}{x:Bl}{s t:fe}{e:Nat}(h:pI s.bt)(hl:s.bt.length<1000000)(hr:bz x=true)(hR:dS q x s e t):pI t.bt∧t.bt.length≤s.bt.length+1:=by
 rcases Iz hR with h1|h1
 ·rw[h1];exact⟨h,ag⟩
 ·rw[h1]
  have:=dp hr
  refine⟨⟨fun y hy=>?_,by simp;omega⟩,by simp⟩
  rcases List.mem_append.1 hy with hy|hy
  ·exact h.1 y hy
  ·rw[List.mem_singleton.1 hy];exact⟨by simp only;omega,by simp only;omega⟩
def vJ:∀(ss:List (PS→Nat→PS→Prop)),(∀sp∈ss,∀x e y,sp x e y→j0 x.1 y.1)→∀(x:PS) (e:Nat) (y:PS),iZ ss x e y→y.1.aw.length≤x.1.aw.length+ss.length∧y.1.writes.length≤x.1.writes.length+ss.length
 | [],_,x,e,y,h=>by obtain⟨_,rfl⟩:=h;simp
 | sp::ss,hs,x,e,y,⟨e1,x1,h1,h2⟩=>by
  have hg:=hs sp (List.mem_cons_self ..) x e1 x1 h1
  unfold j0 at hg
  rcases h2 with⟨_,_,rfl⟩|⟨_,h2⟩
  ·simp only[List.length_cons];omega
  ·have:=vJ ss (fun sp h=>hs sp (List.mem_cons_of_mem _ h)) x1 e y h2
   simp only[List.length_cons];omega
def vy{nm:ByteArray}{ls:List (List UInt8)}{x y:PS}{e:Nat}(h:Ap nm ls x e y):y.1.aw.length≤x.1.aw.length+7∧y.1.writes.length≤x.1.writes.length+7:=by
 have hg:=vJ (gI nm ls x.1) (fun sp e7 x e y hS=>by
  unfold gI at e7
  have key:sp=BY (bL nm)∨sp∈[BZ (bL nm),GC (bL nm) (ck ls),Nj (bL nm),BX (bL nm) nm,GD,W0 (ls.flatMap aV).length]:=by
   rcases List.mem_append.1 e7 with e7|e7
   ·split at e7
    ·exact .inl (List.mem_singleton.1 e7)
    ·cases e7
   ·exact .inr e7
  simp only[List.mem_cons,List.not_mem_nil,or_false]at key
  rcases key with rfl|rfl|rfl|rfl|rfl|rfl|rfl
  ·obtain⟨⟨h1,h2⟩,_⟩:=hS;rw[h2];exact qs _ _ _
  ·obtain⟨⟨f,_,h1,h2⟩,_⟩:=hS;rw[h2];exact qt _ _ _ _
  ·obtain⟨⟨h1,h2⟩,_⟩:=hS;rw[h2];exact kD _ _ _ _ _
  ·obtain⟨⟨h1,h2⟩,_⟩:=hS;rw[h2];exact kE _ _ _
  ·obtain⟨⟨h1,h2⟩,_⟩:=hS;rw[h2];exact qq _ _ _ _
  ·obtain⟨⟨h1,h2⟩,_⟩:=hS;rw[h2];exact jW _
  ·obtain⟨h1,h2⟩:=hS;rw[h2];exact⟨by simp,by simp⟩) x e y h
 have hl:(gI nm ls x.1).length≤7:=by
  unfold gI
  split <;> simp
 omega
def sV{A A':Ab}{nm:ByteArray}{e:Nat}{j:JN}(h:ou A nm e A' j):A'.aw.length≤A.aw.length+7∧A'.writes.length≤A.writes.length+7:=by
 unfold ou at h
 split at h
 ·rw[h.2];omega
 split at h
 ·rw[h.2];omega
 obtain⟨y,hy,rfl,_⟩:=h
 exact vy hy
def K6(s:fe)(z:TC × List (List UInt8))(hz:ke z.1)(i:Nat)(hi:i≤1000000000000):(∀x∈(k7 s z i).2,x∈z.2∨x.length≤760)∧(k7 s z i).2.length≤z.2.length+1:=by
 unfold k7
 split
 ·split
  ·exact⟨fun x hx => .inl hx,by simp only;omega⟩
  ·rename_i jI
   refine⟨fun x hx=>?_,by simp⟩
   rcases List.mem_append.1 hx with hx|hx
   ·exact .inl hx
   ·right
    rw[List.mem_singleton.1 hx]
    have nV:((z.1.pf i).getD []).length≤10:=by
     cases hp:z.1.pf i with
     | none=>simp
     | some l=>exact hz.2.2.2 _ l hp
    have:=g9 2 z.1.x.d (eB i ((z.1.pf i).getD [])) (by simp[eB];omega) (ku i hi _)
    unfold bJ
    unfold eB at this
    omega
 ·exact⟨fun x hx => .inl hx,ag⟩
def Ba(s:fe)(c:TC)(hc:ke c)(hr:bz c.x=true):∀k,k≤1024→(∀x∈(iJ s c k).2,x.length≤760)∧(iJ s c k).2.length≤k+1
 | 0,_=>by
  refine⟨fun x hx=>?_,by simp[iJ]⟩
  have:x=bU c.x:=by simpa[iJ]using hx
  rw[this]
  have hb:=dp hr
  have:=g9 1 c.x.d (gY c.x) (by simp[gY]) (kG c.x ag ag)
  unfold bU
  omega
 | k+1,hk=>by
  obtain⟨h1,h2⟩:=Ba s c hc hr k ag
  rw[mg]
  obtain⟨h3,h4⟩:=K6 s (iJ s c k) (hc.hold k) k ag
  refine⟨fun x hx=>?_,ag⟩
  rcases h3 x hx with h|h
  ·exact h1 x h
  ·exact h
def K7(s:fe)(c:TC)(h:MM c):(∀x∈(ki s c).2,x.length≤760)∧(ki s c).2.length≤1025:=by
 obtain⟨h1,h2⟩:=Ba s c h.1 h.2 c.n h.1.1
 have:=h.1.1
 exact⟨h1,by unfold ki;omega⟩
def yZ:∀(ls:List (List UInt8)) (n:Nat),(∀x∈ls,x.length≤760)→ls.length≤n→(ls.flatMap aV).length≤770*n
 | [],n,_,_=>by simp
 | x::ls,n,h,hn=>by
  rw[List.length_cons]at hn
  have:=yZ ls (n-1) (fun y hy=>h y (List.mem_cons_of_mem _ hy)) ag
  have h1:=h x (List.mem_cons_self ..)
  have h2:=n9 x ag
  rw[List.flatMap_cons,List.length_append]
  omega
def CZ.aei{M:Zr}{ls:List (List UInt8)}(h:CZ M ls){A:HP}{cs:List Value}{ls2:List (List UInt8)}(hl:cs.length=ls2.length)(hx:∀(i:Nat) (x:List UInt8),ls2[i]?=some x→∃cv,cs[i]?=some cv∧eM A cv x):CZ ⟨M.cs++cs,Sep [A,M.Z]⟩ (ls++ls2):=by
 obtain⟨h1,h2⟩:=h
 refine⟨by simp[h1,hl],fun i y hy=>?_⟩
 simp only
 rw[List.getElem?_append]at hy ⊢
 rw[h1]
 split at hy
 ·rename_i de
  rw[if_pos de]
  obtain⟨cv',h3,h4⟩:=h2 i y hy
  exact⟨cv',h3,h4.mono (bg (i:=1) rfl)⟩
 ·rename_i fA
  rw[if_neg fA]
  obtain⟨cv',h3,h4⟩:=hx _ y hy
  exact⟨cv',h3,h4.mono (bg (i:=0) rfl)⟩
attribute [local irreducible] J K aE Ends ae aB aP bP bq aS aZ bu bX aC cG vR
def Ma(X:HP)(hK:oG X)(bs bd:Nat)(q:Int)(hq:0≤q∧q≤1073741824)(mb:Nat)(s:fe)(O6:pI s.bt)(iC:s.bt.length≤900000)(cK:s.A.aw.length≤700000000)(fb:s.A.writes.length≤700000000)(nW:(fW s.A db).length≤900000)(XW:∀x∈fW s.A db,x.length≤1000000)(rF:((fW s.A db).foldl dB []).length≤100) :
    aE Tryz.prog 28 [ptr bd,ptr bs] (cH bs bd q mb s++[X])
    (fun r H=>∃(e:Nat) (t:fe) (jn:JN) (cs:List TC),C2 q s e t jn cs∧((e≠0∧r = .tuple #[.pointer none,.int .i64 (e:Int)]∧H=cH bs bd q mb t++[X])∨(e=0∧∃tb jb tv ts,gz ts=cs∧r = .tuple #[ptr tb,.int .i64 0]∧H=eh tb bs jb tv ts false++[cG bs bd jb q mb [] (t,jn),X]))):=by
  obtain⟨A,bt,brk⟩:=s
  have hop:=PV bd db A (by decide) (by simp only at cK;omega) (by simp only at fb;omega)
  have hpn:db=⟨#[112,105,101,99,101,115]⟩:=rfl
  rw[hpn]at hop
  simp only at O6 iC cK fb nW rF XW
  refine aE.ao Tryz.func28 Tryz.ntmps28 fun G F R hE=>?_
  refine ai (H':=aC bd A::ae bs (cl (ei bd q mb brk) 123)::aP dV mb (dD bt)::X::F) (by unfold cH;exact ah) ?_
  refine go ?_
  refine aH hop ?_
  rintro _ _⟨e1,A1,j1,hO,⟨EV,rfl,rfl⟩|⟨rfl,jb,lv,rfl,rfl⟩⟩
  · rw[← hpn]at hO
    refine go ?_
    refine aq zr zr ?_ ?_
    case' refine_2=>(intro h;exfalso;omega)
    intro _
    refine go ?_
    refine ai (H':=cH bs bd q mb ⟨A1,bt,brk⟩++(X::F)) (by unfold cH;exact ah) ?_
    ((refine ad hE Tryz.func28 zr zr ⟨e1,⟨A1,bt,brk⟩,j1,[],⟨e1,A1,j1,hO,by rw[if_pos EV];exact⟨rfl,rfl⟩⟩,.inl ⟨EV,rfl,rfl⟩⟩))
  rw[← hpn]at hO
  have hog:=sV hO
  obtain⟨ls,Jj⟩:∃ls,ls=fW A db:=⟨_,rfl⟩
  rw[← hpn,← Jj]
  rw[← Jj]at nW XW rF
  refine ld ?_
  refine fL rfl ?_
  refine ai (H':=vR lv ls::aC bd A1::rU jb bd db j1::ae bs (cl (ei bd q mb brk) 123)::aP dV mb (dD bt)::X::F) (by rw[hpn];exact ah) ?_
  refine eG (Hc lv ls) ?_
  rintro⟨cs,M⟩ hRR
  refine TM 0 hRR rfl ?_
  intro mR
  obtain⟨Z,hZ⟩:∃Z,Z=Sep [aB 22 1 lv ls.length cs,aZ 5 M]:=⟨_,rfl⟩
  refine ai (al.bS [aB 22 1 lv ls.length cs,aZ 5 M] _) ?_
  rw[← hZ]at mR ⊢
  clear hZ hRR M cs
  obtain⟨cs,dE,lA,⟨la,lc,rfl,hlc⟩,pL⟩:=mR
  refine go ?_
  refine bG zr zr bD ?_
  intro tb
  refine go ?_
  refine ai (al.trans (bN 90 1 none _) (IF _)) ?_
  refine bB (fun y:Nat × List Tk × Value=>y.1≤ls.length∧gz y.2.1=(ls.take y.1).foldl dB []∧y.2.1.length≤y.1) (fun y=>ls.length-y.1)
    (fun y=>[(0,ptr bd),(1,ptr bs),(6,ptr jb),(9,ptr tb),(37,.slice la ls.length lc),(38,.int .i64 (ls.length:Int)),(39,.int .i64 (y.1:Int))])
    (fun y=>Z::ae tb (cl [ptr bs,ptr jb,y.2.2,.bool false] 88)::aB 90 1 y.2.2 y.2.1.length (y.2.1.map cB)::aW y.2.1::aC bd A1::rU jb bd db j1::ae bs (cl (ei bd q mb brk) 123)::aP dV mb (dD bt)::X::F) (0,[],.slice none 0 0) ⟨Nat.zero_le _,rfl,Nat.le_refl _⟩ rfl cg ah ?_
  rintro⟨i,ts,tv⟩⟨hi,xh,ac4⟩ ih
  simp only at hi xh ac4
  dsimp only
  refine go ?_
  refine aq zr zr ?_ ?_
  · intro de
    have gl:i<ls.length:=by omega
    obtain⟨x,hx⟩:∃x,ls[i]?=some x:=⟨ls[i],by simp⟩
    obtain⟨cv,nt,wL⟩:=pL i x hx
    have j8:ls.take (i+1)=ls.take i++[x]:=by rw[List.take_add_one,hx];rfl
    have kC:∀y∈ts,ke y.c:=fun y hy=>((pT (ls.take i)).1 y.c (by rw[← xh];exact List.mem_map.2 ⟨y,hy,rfl⟩)).1
    have S5:=M5 Z tb bs jb tv false ts cv x wL (by have:=XW x (List.mem_of_getElem? hx);omega) ag (fun y hy=>Nat.le_trans (kC y hy).1 ag) (fun y hy=>(kC y hy).2.1)
    unfold eh at S5
    obtain⟨bb,oo,cc,he⟩:=dE.some (by intro h;rw[h]at nt;cases nt)
    simp only[Value.slice.injEq,true_and]at he
    obtain⟨rfl,rfl⟩:=he
    obtain⟨xa,xc,rfl,_⟩:=wL.2
    refine go ?_
    refine bM i zr zr zr zr zr zr zr zr gl ?_
    refine aK ?_
    refine bj 0 i zr zr zr dE rfl nt zr zr (go ?_)
    refine aH S5 ?_
    rintro _ _⟨rfl,ed,rN,ad0,rfl⟩
    refine go ?_
    have abS:gz ed=(ls.take (i+1)).foldl dB []:=by rw[ad0,xh,j8,List.foldl_append];rfl
    have rI:ed.length≤i+1:=by
      have:=(pT (ls.take (i+1))).2
      rw[← abS,rq,List.length_take]at this
      omega
    refine aM ih (i+1,ed,rN) rfl ⟨by simp only;omega,abS,rI⟩ (by simp only;omega) cg ah
  intro fA
  have tl:i=ls.length:=by omega
  subst tl
  rw[List.take_length]at xh
  clear ih
  have htr:∀y∈ts,MM y.c:=fun y hy=>(pT ls).1 y.c (by rw[← xh];exact List.mem_map.2 ⟨y,hy,rfl⟩)
  have ac5:ts.length≤100:=by rw[← rq,xh];exact rF
  refine ai (al.pick [2] rfl) ?_
  refine dz 0 rfl ?_
  rintro ta tc rfl
  refine dy 0 rfl ?_
  intro hvt
  refine ai (H':=ae tb (cl [ptr bs,ptr jb,.slice ta ts.length tc,.bool false] 88)::aB 90 1 (.slice ta ts.length tc) ts.length (ts.map cB)::aW ts::aC bd A1::rU jb bd db j1::ae bs (cl (ei bd q mb brk) 123)::aP dV mb (dD bt)::X::F) ah (go ?_)
  have ad4:∀H,al (H) (aB 90 1 (.slice none 0 0) 0 []::aW []::aB 22 1 (.slice none 0 0) 0 []::Sep []::H):=fun H=>al.trans (al.bS [] H) (al.trans (bN 22 1 none _) (al.trans (IF _) (bN 90 1 none _)))
  refine ai (H':=cH bs bd q mb ⟨A1,bt,brk⟩++(rU jb bd db j1::aW ts::aB 90 1 (.slice ta ts.length tc) ts.length (ts.map cB)::ae tb (cl [ptr bs,ptr jb,.slice none 0 0,.bool false] 88)::X::F)) (by unfold cH;exact ah) ?_
  refine ai (zC bs bd jb q mb (⟨A1,bt,brk⟩,j1) _) ?_
  refine ai (ad4 _) ?_
  refine bB (fun z:Nat × fe × List Tk × Value × List (List UInt8) × Zr × Option Addr × Nat=>z.1≤ts.length∧(∀e t cs rs,si q (gz (ts.drop z.1)) z.2.1 (gz z.2.2.1) z.2.2.2.2.1 e t cs rs→si q (gz ts) ⟨A1,bt,brk⟩ [] [] e t cs rs)∧(pI z.2.1.bt∧z.2.1.bt.length≤bt.length+z.1)∧(z.2.1.A.aw.length≤A1.aw.length+2*z.1∧z.2.1.A.writes.length≤A1.writes.length+2*z.1)∧z.2.2.1.length≤z.1∧CZ z.2.2.2.2.2.1 z.2.2.2.2.1∧(∀x∈z.2.2.2.2.1,x.length≤760)∧z.2.2.2.2.1.length≤1025*z.1) (fun z=>ts.length-z.1)
    (fun z=>[(0,ptr bd),(1,ptr bs),(6,ptr jb),(9,ptr tb),(13,.slice z.2.2.2.2.2.2.1 z.2.2.2.2.2.1.cs.length z.2.2.2.2.2.2.2),(54,.slice ta ts.length tc),(55,.int .i64 (ts.length:Int)),(56,.int .i64 (z.1:Int))])
    (fun z=>aB 90 1 z.2.2.2.1 z.2.2.1.length (z.2.2.1.map cB)::aW z.2.2.1::aB 22 1 (.slice z.2.2.2.2.2.2.1 z.2.2.2.2.2.1.cs.length z.2.2.2.2.2.2.2) z.2.2.2.2.2.1.cs.length z.2.2.2.2.2.1.cs::z.2.2.2.2.2.1.Z::cG bs bd jb q mb [] (z.2.1,j1)::aW (ts.drop z.1)::aB 90 1 (.slice ta ts.length tc) ts.length (ts.map cB)::ae tb (cl [ptr bs,ptr jb,z.2.2.2.1,.bool false] 88)::X::F) (0,⟨A1,bt,brk⟩,[],.slice none 0 0,[],⟨[],Sep []⟩,none,0) ⟨Nat.zero_le _,fun _ _ _ _ h=>h,⟨O6,by simp⟩,⟨by simp,by simp⟩,Nat.le_refl _,⟨rfl,fun i x h=>by cases h⟩,fun x h=>(by cases h),by simp⟩ rfl cg ah ?_
  rintro⟨i,s,us,uv,rs,M,oa,oc⟩⟨hi,Zk,⟨uI,ad8⟩,⟨gk,ac9⟩,ac1,hM,Jg,ade⟩ ih
  simp only at hi Zk uI ad8 gk ac9 ac1 hM Jg ade
  dsimp only
  have hMl:=hM.1
  refine go ?_
  refine aq zr zr ?_ ?_
  case' refine_2 =>
    intro fA
    have tl:i=ts.length:=by omega
    subst tl
    clear ih
    have mh:=Zk 0 s (gz us) rs (by rw[List.drop_length];exact⟨rfl,rfl,rfl,rfl⟩)
    refine ai (H':=aB 22 1 (.slice oa M.cs.length oc) M.cs.length M.cs::M.Z::cG bs bd jb q mb [] (s,j1)::aB 90 1 uv us.length (us.map cB)::aW us::ae tb (cl [ptr bs,ptr jb,uv,.bool false] 88)::X::F) ah ?_
    refine mH 0 rfl ?_
    intro jz
    refine dy 0 rfl ?_
    intro Oy
    have mR:sj (Sep [aB 22 1 (.slice oa M.cs.length oc) M.cs.length M.cs,M.Z]) (.slice oa M.cs.length oc) rs:=by
      rw[hMl]at Oy jz ⊢
      exact sj.ofP Oy jz hMl hM.2
    have hfb:=yZ rs (1025*100) Jg ag
    have hcm:=FW jb bd db (by decide) s.A j1 _ _ rs mR ag ag ag ag
    refine ai (al.bS [aB 22 1 (.slice oa M.cs.length oc) M.cs.length M.cs,M.Z] _) ?_
    refine ai (H':=cG bs bd jb q mb [] (s,j1)::Sep [aB 22 1 (.slice oa M.cs.length oc) M.cs.length M.cs,M.Z]::aB 90 1 uv us.length (us.map cB)::aW us::ae tb (cl [ptr bs,ptr jb,uv,.bool false] 88)::X::F) ah ?_
    refine ai (Ic bs bd jb q mb (s,j1) _) ?_
    unfold cH
    refine go ?_
    refine aH hcm ?_
    rintro _ _⟨e3,A3,jn,rfl,rfl,hCR⟩
    have ab3:C2 q ⟨A,bt,brk⟩ e3 ⟨A3,s.bt,s.brk⟩ jn (gz us):=⟨0,A1,j1,hO,by
      rw[if_neg ag]
      refine⟨0,s,rs,by rw[← Jj];rw[xh]at mh;exact mh,?_⟩
      rw[if_neg ag]
      exact⟨A3,hCR,rfl⟩⟩
    by_cases Tq:e3=0
    · subst Tq
      refine go ?_
      refine ai (H':=cH bs bd q mb ⟨A3,s.bt,s.brk⟩++(rU jb bd db jn::ae tb (cl [ptr bs,ptr jb,uv,.bool false] 88)::aB 90 1 uv us.length (us.map cB)::aW us::X::F)) (by unfold cH;exact ah) ?_
      refine ai (zC bs bd jb q mb (⟨A3,s.bt,s.brk⟩,jn) _) ?_
      refine ai (H':=eh tb bs jb uv us false++([cG bs bd jb q mb [] (⟨A3,s.bt,s.brk⟩,jn),X]++F)) (by unfold eh;exact ah) ?_
      refine ad hE Tryz.func28 zr zr ⟨0,⟨A3,s.bt,s.brk⟩,jn,gz us,ab3,.inr ⟨rfl,tb,jb,uv,us,rfl,rfl,rfl⟩⟩
    · refine go ?_
      refine aq zr zr ?_ ?_
      case' refine_2=>(intro h;exfalso;omega)
      intro _
      refine go ?_
      refine ai (H':=cH bs bd q mb ⟨A3,s.bt,s.brk⟩++(X::F)) (by unfold cH;exact ah) ?_
      refine ad hE Tryz.func28 zr zr ⟨e3,⟨A3,s.bt,s.brk⟩,jn,gz us,ab3,.inl ⟨Tq,rfl,rfl⟩⟩
  intro de
  have gl:i<ts.length:=by omega
  obtain⟨y,hy⟩:∃y,ts[i]?=some y:=⟨ts[i],by simp⟩
  have hyr:=htr y (List.mem_of_getElem? hy)
  have Dh:=dp (x:=y.x) hyr.2
  have mj:ts.drop i=y::ts.drop (i+1):=by
    obtain⟨h1,h2⟩:=List.getElem?_eq_some_iff.1 hy
    rw[List.drop_eq_getElem_cons h1,h2]
  have X9:gz (ts.drop i)=y.c::gz (ts.drop (i+1)):=by rw[mj];rfl
  rw[X9]at Zk
  have rH:=BR [] (ts.drop (i+1)) y
  simp only[List.nil_append]at rH
  rw[← mj]at rH
  have abX:=F6 bs bd q hq mb s y.x uI ag ag
  unfold eL at abX
  obtain⟨QH,Qn,cc9,he9⟩:=hvt.some (M1 gl)
  simp only[Value.slice.injEq,true_and]at he9
  obtain⟨rfl,rfl⟩:=he9
  refine ai (H':=aW (ts.drop i)::aB 90 1 (.slice (some ⟨QH,Qn,none⟩) ts.length tc) ts.length (ts.map cB)::cG bs bd jb q mb [] (s,j1)::aB 90 1 uv us.length (us.map cB)::aW us::aB 22 1 (.slice oa M.cs.length oc) M.cs.length M.cs::M.Z::ae tb (cl [ptr bs,ptr jb,uv,.bool false] 88)::X::F) ah ?_
  refine ai (rH _) ?_
  refine eG (gi y) ?_
  rintro⟨wv,JD,N⟩ hz
  have ji:∀H,al (ae y.yb (cl (lr y) 93)::ae y.sb (cl [.int .i64 (y.n:Int),wv] 117)::aB 118 1 wv y.ws.length (qV y.ws)::aP (Value.int .i64) y.mb JD::aZ 35 N::H) (oD y::H):=fun H=>al.trans (H2:=mN y (wv,JD,N)++H) (by unfold mN;exact ah) (iX hz _)
  refine ai (H':=cG bs bd jb q mb [] (s,j1)::ae y.yb (cl (lr y) 93)::ae y.sb (cl [.int .i64 (y.n:Int),wv] 117)::aB 118 1 wv y.ws.length (qV y.ws)::aP (Value.int .i64) y.mb JD::aZ 35 N::aB 90 1 (.slice (some ⟨QH,Qn,none⟩) ts.length tc) ts.length (ts.map cB)::aW (ts.drop (i+1))::aB 90 1 uv us.length (us.map cB)::aW us::aB 22 1 (.slice oa M.cs.length oc) M.cs.length M.cs::M.Z::ae tb (cl [ptr bs,ptr jb,uv,.bool false] 88)::X::F) (by unfold mN;exact ah) ?_
  refine ai (Ic bs bd jb q mb (s,j1) _) ?_
  refine ai (H':=aB 90 1 (.slice (some ⟨QH,Qn,none⟩) ts.length tc) ts.length (ts.map cB)::ae y.yb (cl (lr y) 93)::ae y.sb (cl [.int .i64 (y.n:Int),wv] 117)::aB 118 1 wv y.ws.length (qV y.ws)::aP (Value.int .i64) y.mb JD::aZ 35 N::(cH bs bd q mb s++(rU jb bd db j1::aW (ts.drop (i+1))::aB 90 1 uv us.length (us.map cB)::aW us::aB 22 1 (.slice oa M.cs.length oc) M.cs.length M.cs::M.Z::ae tb (cl [ptr bs,ptr jb,uv,.bool false] 88)::X::F))) ah (go ?_)
  refine bM i zr zr zr zr zr zr zr zr gl ?_
  refine aK ?_
  refine bj 0 i zr zr zr hvt rfl (qN hy) zr zr (go ?_)
  refine dH (cs:=bH y.x) 1 zr zr zr zr zr zr (go ?_)
  refine aH abX ?_
  rintro _ _⟨e1,s1,rfl,rfl,hBR⟩
  refine ld ?_
  refine fL rfl ?_
  have RU:=uI.begin ag hyr.2 hBR
  have Zg:=ll hBR
  refine ai (al.trans (H2:=ae y.yb (cl (lr y) 93)::ae y.sb (cl [.int .i64 (y.n:Int),wv] 117)::aB 118 1 wv y.ws.length (qV y.ws)::aP (Value.int .i64) y.mb JD::aZ 35 N::aB 90 1 (.slice (some ⟨QH,Qn,none⟩) ts.length tc) ts.length (ts.map cB)::aW (ts.drop (i+1))::(cH bs bd q mb s1++(rU jb bd db j1::aB 90 1 uv us.length (us.map cB)::aW us::aB 22 1 (.slice oa M.cs.length oc) M.cs.length M.cs::M.Z::ae tb (cl [ptr bs,ptr jb,uv,.bool false] 88)::X::F))) ah (ji _)) ?_
  by_cases Jd:e1=5∨e1=11
  · have rZ:∀e t cs AO,si q (gz (ts.drop (i+1))) s1 (gz us) rs e t cs AO→si q (gz ts) ⟨A1,bt,brk⟩ [] [] e t cs AO:=fun e t cs AO h=>Zk e t cs AO ⟨e1,s1,hBR,by rw[if_pos Jd];exact h⟩
    refine ai (al.trans ah (zC bs bd jb q mb (s1,j1) (aW (ts.drop (i+1))::aB 90 1 (.slice (some ⟨QH,Qn,none⟩) ts.length tc) ts.length (ts.map cB)::aB 90 1 uv us.length (us.map cB)::aW us::aB 22 1 (.slice oa M.cs.length oc) M.cs.length M.cs::M.Z::ae tb (cl [ptr bs,ptr jb,uv,.bool false] 88)::X::F))) ?_
    rcases Jd with rfl|rfl
    all_goals(
      refine go ?_
      refine aM ih (i+1,s1,us,uv,rs,M,oa,oc) rfl ⟨by simp only;omega,rZ,⟨RU.1,by simp only;have:=RU.2;omega⟩,⟨by simp only;have:=Zg.1;omega,by simp only;have:=Zg.2;omega⟩,by simp only;omega,hM,Jg,by simp only;omega⟩ (by simp only;omega) cg ah)
  by_cases pG:e1=0
  case neg =>
    have Tp:=Zk e1 s1 [] [] ⟨e1,s1,hBR,by rw[if_neg Jd,if_pos pG];exact⟨rfl,rfl⟩⟩
    rw[xh]at Tp
    have ab2:C2 q ⟨A,bt,brk⟩ e1 s1 j1 []:=by
      refine⟨0,A1,j1,hO,?_⟩
      rw[if_neg ag]
      refine⟨e1,s1,[],by rw[← Jj];exact Tp,?_⟩
      rw[if_pos pG]
      exact⟨rfl,rfl⟩
    refine go ?_
    refine au 68 ((.bool false)) rfl ((congrArg Value.bool (decide_eq_false ag))) (go ?_)
    refine aX 71 ((.bool false)) rfl ((congrArg Value.bool (decide_eq_false ag))) (go ?_)
    refine aq zr zr ?_ ?_
    case' refine_2=>(intro h;exfalso;omega)
    intro _
    refine go ?_
    refine ai (H':=cH bs bd q mb s1++(X::F)) ah ?_
    refine ad hE Tryz.func28 zr zr ⟨e1,s1,j1,[],ab2,.inl ⟨pG,rfl,rfl⟩⟩
  subst pG
  refine acs 5 rfl ?_
  intro adf
  have hRd:∀nm at_ n,(s1.A.read nm at_ n).1.length≤1048576:=fun nm at_ n=>D3 s1.A adf nm at_ n
  obtain⟨Lc,rI⟩:=K7 s1 y.c hyr
  have rZ:∀e t cs AO,si q (gz (ts.drop (i+1))) s1 (gz us++[(ki s1 y.c).1]) (rs++(ki s1 y.c).2) e t cs AO→si q (gz ts) ⟨A1,bt,brk⟩ [] [] e t cs AO:=fun e t cs AO h=>Zk e t cs AO ⟨0,s1,hBR,by rw[if_neg Jd,if_neg ag];exact h⟩
  have abH:=fun tv=>OJ X hK tb bs jb bd tv false q mb (s1,j1) hRd y hyr.1 ag ag
  refine ai (al.trans ah (zC bs bd jb q mb (s1,j1) (aB 90 1 uv us.length (us.map cB)::ae tb (cl [ptr bs,ptr jb,uv,.bool false] 88)::oD y::X::aB 22 1 (.slice oa M.cs.length oc) M.cs.length M.cs::M.Z::aB 90 1 (.slice (some ⟨QH,Qn,none⟩) ts.length tc) ts.length (ts.map cB)::aW (ts.drop (i+1))::aW us::F))) ?_
  refine dz 1 rfl ?_
  rintro ua uc rfl
  refine ai (H':=ae tb (cl [ptr bs,ptr jb,.slice ua us.length uc,.bool false] 88)::aB 90 1 (.slice ua us.length uc) us.length (us.map cB)::oD y::cG bs bd jb q mb [] (s1,j1)::X::aB 22 1 (.slice oa M.cs.length oc) M.cs.length M.cs::M.Z::aB 90 1 (.slice (some ⟨QH,Qn,none⟩) ts.length tc) ts.length (ts.map cB)::aW (ts.drop (i+1))::aW us::F) ah (go ?_)
  refine aj (cs:=[ptr y.yb]) zr zr zr zr zr zr zr zr zr bD ?_
  intro r1
  refine go ?_
  refine aR (mm:=1) (news:=[ptr y.yb]) 2 0 rfl rfl rfl rfl rfl rfl rfl rfl rfl rfl rfl rfl (Vw.ae rfl) rfl (by intro v hv;simp at hv;rw[hv];rfl) ag (by show(_+_)*8≤_;omega) (fun _=>rfl) bD ?_
  intro v1
  refine aO 2 rfl ?_
  rintro va vc rfl
  refine go ?_
  refine aH (abH (.slice va (us.length+1) vc)) ?_
  rintro r9 _⟨y',Z2,acP,aa1,abv,rfl⟩
  obtain⟨Gh,rW,X5,⟨ra,rc,rfl,OG⟩,X1⟩:=abv
  simp only at aa1 rW X5 X1 OG
  have yW:=hM.aei X5 X1
  have gw:∀v∈Gh,v.oneCell'=true:=fun v hv=>by
    obtain⟨j,hj,rfl⟩:=List.getElem_of_mem hv
    obtain⟨x,hx⟩:∃x,(ki s1 y.c).2[j]?=some x:=⟨(ki s1 y.c).2[j]' ag,by simp⟩
    obtain⟨cv,h1,h2⟩:=X1 j x hx
    obtain⟨_,_,rfl,_⟩:=h2.2
    rw[List.getElem?_eq_getElem hj]at h1
    injection h1 with h1
    rw[h1];rfl
  refine aI (H':=aB 22 1 (.slice oa M.cs.length oc) M.cs.length M.cs::Z2::ae tb (cl [ptr bs,ptr jb,.slice va (us.length+1) vc,.bool false] 88)::oD y'::cG bs bd jb q mb [] (s1,j1)::X::M.Z::aB 90 1 (.slice (some ⟨QH,Qn,none⟩) ts.length tc) ts.length (ts.map cB)::aW (ts.drop (i+1))::aW us::aB 90 1 (.slice va (us.length+1) vc) (us.length+1) (us.map cB++[ptr y.yb])::F) ah (go ?_)
  refine aR (mm:=(ki s1 y.c).2.length) (news:=Gh) 0 1 zr zr zr zr zr zr zr zr zr zr zr zr rW (by show _=_*1;omega) gw ag (by show(_+_)*24≤_;omega) (fun _=>rfl) bD ?_
  intro v2
  refine aO 0 rfl ?_
  rintro wa wc rfl
  refine go ?_
  have QC:us.map cB++[ptr y.yb]=(us++[y']).map cB:=by rw[← acP];simp[cB]
  have Bb:us.length+1=(us++[y']).length:=by simp
  have abU:(M.cs++Gh).length=M.cs.length+(ki s1 y.c).2.length:=by rw[List.length_append,X5]
  have qm:=uR us [] y'
  rw[List.append_nil]at qm
  rw[QC,Bb]
  refine ai (H':=oD y'::aW us::Z2::M.Z::aB 22 1 (.slice wa (M.cs++Gh).length wc) (M.cs++Gh).length (M.cs++Gh)::cG bs bd jb q mb [] (s1,j1)::X::aB 90 1 (.slice (some ⟨QH,Qn,none⟩) ts.length tc) ts.length (ts.map cB)::aW (ts.drop (i+1))::aB 90 1 (.slice va (us++[y']).length vc) (us++[y']).length ((us++[y']).map cB)::ae tb (cl [ptr bs,ptr jb,.slice va (us++[y']).length vc,.bool false] 88)::F) (by rw[abU];exact ah) ?_
  refine ai (qm _) ?_
  refine ai (H':=Z2::M.Z::aW (us++[y'])::aB 22 1 (.slice wa (M.cs++Gh).length wc) (M.cs++Gh).length (M.cs++Gh)::cG bs bd jb q mb [] (s1,j1)::X::aB 90 1 (.slice (some ⟨QH,Qn,none⟩) ts.length tc) ts.length (ts.map cB)::aW (ts.drop (i+1))::aB 90 1 (.slice va (us++[y']).length vc) (us++[y']).length ((us++[y']).map cB)::ae tb (cl [ptr bs,ptr jb,.slice va (us++[y']).length vc,.bool false] 88)::F) ah ?_
  refine ai (al.bS [Z2,M.Z] _) ?_
  have hcu:gz (us++[y'])=gz us++[(ki s1 y.c).1]:=by rw[JB,aa1]
  rw[← hcu]at rZ
  refine aX 13 ((.slice wa (M.cs++Gh).length wc)) rfl ((by rw[abU])) ?_
  refine aM ih (i+1,s1,us++[y'],.slice va (us++[y']).length vc,rs++(ki s1 y.c).2,⟨M.cs++Gh,Sep [Z2,M.Z]⟩,wa,wc) rfl ⟨by simp only;omega,rZ,⟨RU.1,by simp only;have:=RU.2;omega⟩,⟨by simp only;have:=Zg.1;omega,by simp only;have:=Zg.2;omega⟩,by simp only[List.length_append,List.length_singleton];omega,yW,(fun x hx=>by
    rcases List.mem_append.1 hx with h|h
    · exact Jg x h
    · exact Lc x h),by simp only[List.length_append];omega⟩ (by simp only;omega) cg ah
end Go.Proofs.YtedjnjkijiddlaaGreatDoor
namespace Go.Proofs.YtedjnjkijiddlaaGreatDoor
open Go Go.SL
def zy(q:Int)(A:Ab)(e:Nat)(t:SJ)(cs:List TC):Prop :=
 ∃e1 B,qC A e1 B∧if e1≠0 then e=e1 else ∃s jn,C2 q ⟨B,[],false⟩ e s jn cs∧t=(s,jn)
attribute [local irreducible] J K aE Ends ae aB aP bP bq aS aZ bu bX aC cG vR
def uO(X:HP)(hK:oG X)(wb bd:Nat)(v1 v2:Value)(q:Int)(hq:1≤q∧q≤1073741824)(A:Ab)(jV:A.off=false)(cK:A.aw.length≤600000000)(hB:∀B,qC A 0 B→B.writes.length≤700000000∧(fW B db).length≤900000∧(∀x∈fW B db,x.length≤1000000)∧((fW B db).foldl dB []).length≤100) :
  aE Tryz.prog 8 [ptr wb,.int .i64 q] [ae wb (cl [ptr bd,v1,v2] 32),aC bd A,X]
  (fun r H=>∃(e:Nat) (t:SJ) (cs:List TC),zy q A e t cs∧r = .int .i64 (e:Int)∧(e=0→∃bs mb tb jb tv ts,gz ts=cs∧H=ae wb (cl [ptr bd,ptr bs,ptr tb] 32)::eh tb bs jb tv ts false++[cG bs bd jb q mb [] t,X])∧(e≠0→∃L,H=L)):=by
 refine aE.ao Tryz.func8 Tryz.ntmps8 fun G F R hE=>?_
 refine go ?_
 refine aH (L9 X hK bd q A ag) ?_
 rintro _ _ (⟨h,_⟩|⟨_,h,_⟩|⟨_,_,e,B,ho,hc⟩)
 ·exfalso;omega
 ·rw[jV]at h;cases h
 rcases hc with⟨bY,rfl,rfl⟩|⟨rfl,hBl,bs,mb,rfl,rfl⟩
 ·refine go ?_
  refine aq zr zr ?_ ?_
  case' refine_2=>(intro h;exfalso;omega)
  intro _
  refine go ?_
  refine ad hE Tryz.func8 zr zr ⟨e,(⟨B,[],false⟩,⟨0,0,0,false⟩),[],⟨e,B,ho,by rw[if_pos bY]⟩,rfl,fun h=>absurd h bY,fun _=>⟨ae wb (cl [ptr bd,.pointer none,.pointer none] 32)::[aC bd B,X],rfl⟩⟩
 obtain⟨b1,b2,b3,b4⟩:=hB B ho
 have hop:=Ma X hK bs bd q ⟨ag,hq.2⟩ mb ⟨B,[],false⟩ ⟨by simp,by simp⟩ (by simp) (by simp only;omega) (by simp only;omega) b2 b3 b4
 refine aI (H':=ae wb (cl [ptr bd,v1,v2] 32)::(cH bs bd q mb ⟨B,[],false⟩++(X::F))) ah (go ?_)
 refine aI (H':=cH bs bd q mb ⟨B,[],false⟩++(X::ae wb (cl [ptr bd,ptr bs,.pointer none] 32)::F)) (by unfold cH;exact ah) ?_
 refine aH hop ?_
 rintro _ _⟨e,t,jn,cs,hO,⟨bY,rfl,rfl⟩|⟨rfl,tb,jb,tv,ts,xh,rfl,rfl⟩⟩
 ·refine aI (H':=ae wb (cl [ptr bd,ptr bs,.pointer none] 32)::(cH bs bd q mb t++(X::F))) ah (go ?_)
  ((refine ad hE Tryz.func8 zr zr ⟨e,(t,jn),cs,⟨0,B,ho,by rw[if_neg ag];exact⟨t,jn,hO,rfl⟩⟩,rfl,fun h=>absurd h bY,fun _=>⟨ae wb (cl [ptr bd,ptr bs,.pointer none] 32)::(cH bs bd q mb t++[X]),rfl⟩⟩))
 ·refine aI (H':=ae wb (cl [ptr bd,ptr bs,.pointer none] 32)::(eh tb bs jb tv ts false++([cG bs bd jb q mb [] (t,jn),X]++F))) ah ?_
  unfold eh
  refine go ?_
  refine ai (H':=(ae wb (cl [ptr bd,ptr bs,ptr tb] 32)::eh tb bs jb tv ts false++[cG bs bd jb q mb [] (t,jn),X])++F) (by unfold eh;exact ah) ?_
  ((refine ad hE Tryz.func8 zr zr ⟨0,(t,jn),cs,⟨0,B,ho,by rw[if_neg ag];exact⟨t,jn,hO,rfl⟩⟩,rfl,fun _=>⟨bs,mb,tb,jb,tv,ts,xh,rfl⟩,fun h=>absurd rfl h⟩))
end Go.Proofs.YtedjnjkijiddlaaGreatDoor
namespace Go.Proofs.YtedjnjkijiddlaaGreatDoor
open Go Go.SL
def BN{A:Ab}(h:A.names=[]):vw A=fun _=>none:=by
 funext n
 unfold vw Ab.look Ab.cP
 rw[h];rfl
def HM{A:Ab}{nm:ByteArray}(h:HA A)(hv:vw A nm=none):fW A nm=[]:=by
 have oE:A.look nm=none:=by
  unfold vw at hv
  cases hx:A.look nm with
  | none=>rfl
  | some f=>rw[hx]at hv;cases hv
 have rY:(A.read nm 0 (A.size nm).1).1=[]:=by
  unfold Ab.read
  rw[if_neg (by rw[h.on];simp),oE]
 unfold fW
 rw[rY]
 rfl
def lP:(ck []).length=32:=by unfold ck;simp[gf]
def BC{q:Int}{A:Ab}{e:Nat}{t:SJ}{cs:List TC}(h:HA A)(hn:A.names=[])(hr:64≤A.room)(hR:zy q A e t cs) :
  e=0∧cs=[]∧HA t.1.A∧t.1.bt=[]∧t.1.brk=false∧vw t.1.A=eK (fun _=>none) db (some (ck []))∧t.1.A.room=A.room∧t.2=⟨1,0,0,false⟩∧t.1.A.names.length=1∧t.1.A.used=32∧t.1.A.aw.length≤A.aw.length+14∧t.1.A.writes.length≤A.writes.length+14:=by
 obtain⟨e1,B,hO,hR⟩:=hR
 obtain⟨rfl,rfl⟩:=zD hn hO
 rw[if_neg ag]at hR
 obtain⟨s,jn,⟨e2,A1,j1,Pc,hR⟩,rfl⟩:=hR
 simp only at Pc hR
 have lJ:=BN hn
 have hu0:B.used=0:=by unfold Ab.used;rw[hn];rfl
 have Ak:=sV Pc
 obtain⟨rfl,k1,k2,k3,k4,k5⟩:=yl h dZ jH oR (by rw[lJ]) (by rw[lJ]) (by rw[hn];simp) ag Pc
 rw[lJ]at k2
 rw[if_neg ag,k5]at hR
 obtain⟨e3,s2,rs,⟨rfl,rfl,rfl,rfl⟩,hR⟩:=hR
 rw[if_neg ag]at hR
 obtain⟨A3,hC,rfl⟩:=hR
 simp only at hC
 subst k4
 unfold oA at hC
 rw[if_neg (by simp),if_neg (by simp),if_neg (by simp)]at hC
 obtain⟨y,hP,rfl,rfl⟩:=hC
 obtain⟨S4,Te⟩:=h.pR k1 (k:=db) (c:=ck []) (by rw[lJ]) (by rw[k2,lJ])
 have EO:=vy hP
 simp only at EO
 obtain⟨rfl,m1,m2,m3,m4⟩:=AU k1 dZ jH oR (by rw[k2,dL _ _ oR]) (by rw[Te,hn];simp) (by rw[lP];omega) (by rw[lP,S4,k3,hu0,lP];omega) hP
 have o4:vw y.1=eK (fun _=>none) db (some (ck [])):=by
  rw[m2,k2]
  funext m
  unfold eK
  split <;> rfl
 obtain⟨hu2,hn2⟩:=h.pR m1 (k:=db) (c:=ck []) (by rw[lJ]) (by rw[o4,lJ])
 refine⟨rfl,rfl,m1,rfl,rfl,o4,by simp only;rw[m3,k3],?_,by simp only;rw[hn2,hn];rfl,by simp only;rw[hu2,hu0,lP],by simp only;have:=Ak.1;have:=EO.1;omega,by simp only;have:=Ak.2;have:=EO.2;omega⟩
 simp only
 rw[show y.2.1=1 from by rw[m4],show y.2.2.1=0 from by rw[m4];rfl,show y.2.2.2=0 from by rw[m4];rfl]
 simp
end Go.Proofs.YtedjnjkijiddlaaGreatDoor
