import Derived.Test.YtdigdgohdpeebaaGreatDoorQPW9
import Derived.Test.YtdigdgohdpeebaaGreatDoorQPW10
import Derived.Test.YtdigdgohdpeebaaGreatDoorQPW11
import Derived.Test.YtdigdgohdpeebaaGreatDoorQPW12
set_option linter.unusedSimpArgs false
set_option linter.unusedVariables false
set_option maxHeartbeats 4000000
set_option maxRecDepth 20000
set_option linter.defProp false
namespace Go.Proofs.YtdigdgohdpeebaaGreatDoor
open Go Go.SL
def N2(w:jl):YC w w=w:=by unfold YC;exact BitVec.or_self
attribute [local irreducible] J K aE Ends ae az aQ bP bj aT aU bp bW aD
def MI(sb n:Nat)(wv:Value)(ws:List jl)(hl:ws.length≤65536):aE Tryz.prog 164 [ptr sb,ptr sb,.func (.func 165) #[] #[] ] (eT sb n wv ws) (fun r H=>∃ob ov,r = .tuple #[ptr ob,.int .i64 0]∧H=eT ob n ov ws++eT sb n wv ws):=by
 unfold eT
 refine aE.au Tryz.func164 Tryz.ntmps164 fun G F R hE=>?_
 refine dg 1 rfl ?_
 rintro a c rfl
 refine cV 1 rfl ?_
 intro dM
 have lH:=SA (az 134 1 (.slice a ws.length c) ws.length (qV ws)) (.slice a ws.length c) ws dM ag
 refine go ?_
 refine aH (fun w=>Sat G w ([ae sb (cl [.int .i64 (n:Int),.slice a ws.length c] 138)])) (df 0 13 .nil) rfl ak ak ak eo ?_
 refine go ?_
 refine bu 23 ((.bool false)) rfl ((congrArg Value.bool (decide_eq_false (by simp)))) (go ?_)
 refine aH (fun w=>Sat G w ([ae sb (cl [.int .i64 (n:Int),.slice a ws.length c] 138)])) (df 0 8 (.act 8 (.st 9 (.act 10 (.st 11 .nil))))) rfl ak ak ak eo ?_
 refine go ?_
 refine dD lH ?_
 rintro ov _ rfl
 refine aN 0 rfl ?_
 rintro oa oc rfl
 refine go ?_
 refine bG zr zr (fun _ w hw=>hw.cN ah) ?_
 intro ob
 refine go ?_
 refine bz (fun i:Nat=>i≤ws.length) (fun i=>ws.length-i) (fun i=>[(2,.func (.func 165) #[] #[]),(8,ptr ob),(38,.slice a ws.length c),(39,.int .i64 (ws.length:Int)),(40,.int .i64 (i:Int))])
  (fun _=>ae ob (cl [.int .i64 (n:Int),.slice oa ws.length oc] 138)::az 134 1 (.slice oa ws.length oc) ws.length (qV ws)::ae sb (cl [.int .i64 (n:Int),.slice a ws.length c] 138)::az 134 1 (.slice a ws.length c) ws.length (qV ws)::F) 0 (Nat.zero_le _) rfl cm ah ?_
 intro i hi ih
 refine go ?_
 refine aq zr zr ?_ ?_
 ·intro cW
  have gh:i<ws.length:=by omega
  obtain⟨w,SN⟩:∃w,ws[i]?=some w:=⟨ws[i],by simp⟩
  have dm:=BZ SN
  refine cV 1 rfl ?_
  intro W2
  obtain⟨b1,o1,c1,Lo⟩:=dM.some (qNe gh)
  simp only[Value.slice.injEq,true_and]at Lo
  obtain⟨rfl,rfl⟩:=Lo
  obtain⟨b3,o3,c3,Th⟩:=W2.some (qNe gh)
  simp only[Value.slice.injEq,true_and]at Th
  obtain⟨rfl,rfl⟩:=Th
  refine go ?_
  refine bI i zr zr zr zr zr zr zr zr gh ?_
  refine aK ?_
  refine aX 3 i zr zr zr dM rfl dm zr zr (go ?_)
  refine aH (fun w=>Sat G w ([ae ob (cl [.int .i64 (n:Int),.slice (some ⟨b3,o3,none⟩) ws.length oc] 138),az 134 1 (.slice (some ⟨b3,o3,none⟩) ws.length oc) ws.length (qV ws)])) (df 0 14 (.act 14 (.st 15 (.act 16 .nil)))) rfl ak ak ak eo ?_
  (repeat(first|refine gO ?_|refine bI i zr zr zr zr zr zr zr zr gh ?_|(refine aK ?_;refine bX 1 i zr zr zr W2 rfl dm zr zr ?_)))
  refine uz rfl rfl rfl rfl (Sn w w) ah ?_ (fun _ _ w' hp hw=>by obtain⟨_,rfl⟩:=hp;exact hw.cN ah)
  rintro _ _⟨rfl,rfl⟩
  rw[N2]
  (repeat((refine bI i zr zr zr zr zr zr zr zr gh ?_)))
  refine aV ?_
  refine iT (q:=i) 1 gB zr zr zr zr zr zr zr gh rfl ?_
  rw[show(qV ws).set i (.int .u64 (w.toNat:Int))=qV ws from List.l8 dm]
  refine go ?_
  refine aM ih (i+1) rfl ag ag cm ah
 ·intro fg
  clear ih
  refine go ?_
  refine ad hE Tryz.func164 zr zr ⟨ob,_,rfl,rfl⟩
def SB(sb n:Nat)(wv:Value)(ws:List jl)(hl:ws.length≤65536):aE Tryz.prog 105 [ptr sb,ptr sb] (eT sb n wv ws) (fun r H=>∃ob ov,r = .tuple #[ptr ob,.int .i64 0]∧H=eT ob n ov ws++eT sb n wv ws):=by
 have hj:=MI sb n wv ws hl
 unfold eT at hj ⊢
 refine aE.au Tryz.func105 Tryz.ntmps105 fun G F R hE=>?_
 refine go ?_
 refine aF hj ?_
 rintro _ _⟨ob,ov,rfl,rfl⟩
 refine go ?_
 refine ad hE Tryz.func105 zr zr ⟨ob,_,rfl,rfl⟩
def Tx(r:Value)(o:Option Tk)(H Hb:List HP):Prop:=match o with
 | none=>r = .tuple #[.pointer none,.int .i64 4]∧H=Hb
 | some y=>∃ob ov,r = .tuple #[ptr ob,.int .i64 0]∧H=eT ob y.n ov y.ws++Hb
def MF(tb bs jb:Nat)(tv:Value)(br:Bool)(ts:List Tk)(x:Bl)(hl:ts.length≤1000000)(hw:∀y∈ts,y.ws.length≤65536) :
  aE Tryz.prog 49 [ptr tb,eS x] (dL tb bs jb tv ts br) (fun r H=>Tx r (fb ts x) H (dL tb bs jb tv ts br)):=by
 have hf:=n6 tb bs jb tv br ts x hl
 unfold dL eS at hf ⊢
 refine aE.au Tryz.func49 Tryz.ntmps49 fun G F R hE=>?_
 refine aG rfl ?_
 refine bG zr zr bD ?_
 intro b3
 refine go ?_
 refine aJ (U:=aS) (l:=bJ x) 0 zr zr zr zr zr zr ?_
 refine aO hf ?_
 cases qg:fb ts x with
 | none =>
  rw[qg]at hE
  unfold Nd
  refine go ?_
  refine ad hE Tryz.func49 zr zr ⟨rfl,rfl⟩
 | some y =>
  rw[qg]at hE
  obtain⟨k,hk,hx⟩:=lV qg
  have Ev:=hw y (List.mem_of_getElem? hk)
  unfold Nd
  refine go ?_
  refine ai (H':=aW ts::ae tb (cl [ptr bs,ptr jb,tv,.bool br] 73)::az 75 1 tv ts.length (ts.map cg)::F) ah ?_
  refine ai (kO hk _) ?_
  refine er (gf y) ?_
  rintro⟨wv,cs,M⟩ hz
  have jj:∀H,ao (ae y.yb (cl (ly y) 79)::ae y.sb (cl [.int .i64 (y.n:Int),wv] 138)::az 134 1 wv y.ws.length (qV y.ws)::aQ (Value.int .i64) y.mb cs::aU 36 M::aW (ts.take k++ts.drop (k+1))::H) (aW ts::H):=fun H=>ao.trans (H2:=mP y (wv,cs,M)++(aW (ts.take k++ts.drop (k+1))::H)) (by unfold mP;exact ah) (ao.trans (iX hz _) (lJ hk _))
  refine ai (H':=ae y.yb (cl (ly y) 79)::ae y.sb (cl [.int .i64 (y.n:Int),wv] 138)::az 134 1 wv y.ws.length (qV y.ws)::aQ (Value.int .i64) y.mb cs::aU 36 M::aW (ts.take k++ts.drop (k+1))::ae tb (cl [ptr bs,ptr jb,tv,.bool br] 73)::az 75 1 tv ts.length (ts.map cg)::F) (by unfold mP;exact ah) ?_
  have hor:=SB y.sb y.n wv y.ws Ev
  unfold eT at hor
  refine aH (fun w=>Sat G w ([ae y.yb (cl (ly y) 79)])) (df 0 8 (.act 8 (df 9 4 .nil))) rfl ak ak ak eo ?_
  refine go ?_
  refine dD hor ?_
  rintro _ _⟨ob,ov,rfl,rfl⟩
  refine go ?_
  refine ai (ao.trans ah (jj (ae ob (cl [.int .i64 (y.n:Int),ov] 138)::az 134 1 ov y.ws.length (qV y.ws)::ae tb (cl [ptr bs,ptr jb,tv,.bool br] 73)::az 75 1 tv ts.length (ts.map cg)::F))) ?_
  refine ai (H':=eT ob y.n ov y.ws++([ae tb (cl [ptr bs,ptr jb,tv,.bool br] 73),az 75 1 tv ts.length (ts.map cg),aW ts]++F)) (by unfold eT;exact ah) ?_
  refine ad hE Tryz.func49 zr zr ⟨ob,ov,rfl,rfl⟩
def Kf{ts:List Tk}{i:Nat}{y:Tk}(h:ts[i]?=some y):((ts.take (i+1)).map Tk.x).flatMap bJ=((ts.take i).map Tk.x).flatMap bJ++bJ y.x:=by rw[List.take_add_one,h];simp
def IC(tb bs jb:Nat)(tv:Value)(br:Bool)(ts:List Tk)(hl:ts.length≤1000000) :
  aE Tryz.prog 48 [ptr tb] (dL tb bs jb tv ts br) (fun r H=>H=az 38 66 r ts.length ((ts.map Tk.x).flatMap bJ)::dL tb bs jb tv ts br):=by
 unfold dL
 refine aE.au Tryz.func48 Tryz.ntmps48 fun G F R hE=>?_
 refine dg 1 rfl ?_
 rintro a c rfl
 refine cV 1 rfl ?_
 intro dM
 refine go ?_
 refine ai (bO 38 66 none _) ?_
 refine bz (fun y:Nat × Option Addr × Nat=>y.1≤ts.length) (fun y=>ts.length-y.1) (fun y=>[(3,.slice y.2.1 y.1 y.2.2),(9,.slice a ts.length c),(10,.int .i64 (ts.length:Int)),(11,.int .i64 (y.1:Int))])
  (fun y=>az 38 66 (.slice y.2.1 y.1 y.2.2) y.1 (((ts.take y.1).map Tk.x).flatMap bJ)::az 75 1 (.slice a ts.length c) ts.length (ts.map cg)::aW ts::ae tb (cl [ptr bs,ptr jb,.slice a ts.length c,.bool br] 73)::F) (0,none,0) (Nat.zero_le _) rfl cm ah ?_
 rintro⟨i,oa,oc⟩ hi ih
 simp only at hi
 dsimp only
 refine go ?_
 refine aq zr zr ?_ ?_
 ·intro cW
  have gh:i<ts.length:=by omega
  obtain⟨y,hx⟩:∃x,ts[i]?=some x:=⟨ts[i],by simp[gh]⟩
  have j8:=Kf hx
  have jO:(bJ y.x).length=66:=rfl
  obtain⟨b,o,gQ,fO⟩:=dM.some (Nf gh)
  simp only[Value.slice.injEq]at fO
  obtain⟨rfl,_,rfl⟩:=fO
  refine go ?_
  refine bI i zr zr zr zr zr zr zr zr gh ?_
  refine aK ?_
  refine aX 1 i zr zr zr dM rfl (qI hx) zr zr (go ?_)
  refine aI (H':=aW ts::az 38 66 (.slice oa i oc) i (((ts.take i).map Tk.x).flatMap bJ)::az 75 1 (.slice (some ⟨b,o,none⟩) ts.length c) ts.length (ts.map cg)::ae tb (cl [ptr bs,ptr jb,.slice (some ⟨b,o,none⟩) ts.length c,.bool br] 73)::F) ah ?_
  refine aI (kO hx _) ?_
  refine Ir (gf y) ?_
  rintro z hz
  refine aI (H':=ae y.yb (cl (ly y) 79)::az 38 66 (.slice oa i oc) i (((ts.take i).map Tk.x).flatMap bJ)::ae y.sb (cl [.int .i64 (y.n:Int),z.1] 138)::az 134 1 z.1 y.ws.length (qV y.ws)::aQ (Value.int .i64) y.mb z.2.1::aU 36 z.2.2::aW (ts.take i++ts.drop (i+1))::az 75 1 (.slice (some ⟨b,o,none⟩) ts.length c) ts.length (ts.map cg)::ae tb (cl [ptr bs,ptr jb,.slice (some ⟨b,o,none⟩) ts.length c,.bool br] 73)::F) ah (go ?_)
  refine dB (cs:=bJ y.x) 0 zr zr zr zr zr zr ?_
  refine aj (cs:=bJ y.x) zr zr zr zr zr zr zr zr zr bD ?_
  intro row
  refine go ?_
  refine aR (mm:=1) (news:=bJ y.x) 2 0 zr zr zr zr zr zr zr zr zr zr zr zr (Vw.ae rfl) rfl (by have:=JM [y.x];simpa using this) ag (by show(_+_)*80≤_;omega) (fun _=>rfl) bD ?_
  intro v1
  rw[← j8]
  refine aN 2 rfl ?_
  rintro ja jc rfl
  refine go ?_
  refine ai (H':=mP y z++(aW (ts.take i++ts.drop (i+1))::az 38 66 (.slice ja (i+1) jc) (i+1) (((ts.take (i+1)).map Tk.x).flatMap bJ)::az 75 1 (.slice (some ⟨b,o,none⟩) ts.length c) ts.length (ts.map cg)::ae tb (cl [ptr bs,ptr jb,.slice (some ⟨b,o,none⟩) ts.length c,.bool br] 73)::F)) (by unfold mP;exact ah) ?_
  refine ai (iX hz _) ?_
  refine ai (lJ hx _) ?_
  refine aM ih (i+1,ja,jc) rfl (by simp only;omega) (by simp only;omega) cm ah
 ·intro fg
  have rB:i=ts.length:=by omega
  subst rB
  rw[List.take_length]
  clear ih
  refine go ?_
  refine aL hE Tryz.func48 rfl _ zr zr ah
end Go.Proofs.YtdigdgohdpeebaaGreatDoor
namespace Go.Proofs.YtdigdgohdpeebaaGreatDoor
open Go Go.SL
def Ig(bs bd jb:Nat)(q:Int)(mb:Nat)(x:SJ)(F:List HP):ao (cB bs bd jb q mb [] x::F) (cC bs bd q mb x.1++(rq jb bd cS x.2::F)):=by
 unfold cB
 refine(ao.cJ _ _).trans ?_
 rw[List.append_assoc]
 exact ao.refl _
def zp(bs bd jb:Nat)(q:Int)(mb:Nat)(x:SJ)(F:List HP):ao (cC bs bd q mb x.1++(rq jb bd cS x.2::F)) (cB bs bd jb q mb [] x::F):=by
 unfold cB
 refine ao.trans ?_ (ao.bS _ _)
 rw[List.append_assoc]
 exact ao.refl _
def JQ.look{z:Value × List (Int × Value) × fC}{y:Tk}(h:JQ z y)(i:Int):∃v,(ez z.2.1 i).getD (.slice none 0 0)=v∧CT z.2.2 32 v ((y.pf i).getD []).length (((y.pf i).getD []).flatMap dC):=by
 have:=h i
 cases hx:ez z.2.1 i with
 | none =>
  rw[hx]at this
  simp only at this
  rw[this]
  exact⟨_,rfl,CT.nil _ _ _ _⟩
 | some v =>
  rw[hx]at this
  obtain⟨l,h1,h2⟩:=this
  rw[h1]
  exact⟨v,rfl,h2⟩
attribute [local irreducible] J K aE Ends ae az aQ bP bj aT aU bp bW aD cB
end Go.Proofs.YtdigdgohdpeebaaGreatDoor
namespace Go.Proofs.YtdigdgohdpeebaaGreatDoor
open Go Go.SL
def hz(b:List UInt8):Dg:=(gJ b).getD Dg.zero
def C9(m:List UInt8)(l:List (List UInt8)):Bool:=(pY m).isSome && l.all fun b=>(gJ b).isSome
def Q9(m:List UInt8)(l:List (List UInt8))(b:List UInt8):C9 m (l++[b])=(C9 m l && (gJ b).isSome):=by unfold C9;simp[Bool.and_assoc]
def tO:∀(l:List (List UInt8)),(l.all fun b=>(gJ b).isSome)=true→na l=some (l.map hz)
 | [],_=>rfl
 | b::l,h=>by
  rw[List.all_cons,Bool.and_eq_true]at h
  unfold na
  rw[tO l h.2]
  unfold hz
  cases hb:gJ b with
  | none=>rw[hb]at h;cases h.1
  | some d=>simp[hb]
def tP:∀(l:List (List UInt8)),(l.all fun b=>(gJ b).isSome)=false→na l=none
 | [],h=>by cases h
 | b::l,h=>by
  unfold na
  cases hb:gJ b with
  | none=>rfl
  | some d =>
   rw[List.all_cons,hb]at h
   rw[tP l (by simpa using h)]
def fP(ok:Bool)(d:Dg)(i:Nat)(p:List Dg)(y:Tk):Tk:=if ok=true∧y.x.d=d∧i<y.n∧p.length=eX y.n i then y.put i p else y
def abU(ok:Bool)(d:Dg)(i:Nat)(p:List Dg)(y:Tk):(fP ok d i p y).yb=y.yb:=by unfold fP;split <;> rfl
def jL(f:Tk→Tk)(j:Nat)(ts:List Tk):List Tk:=(ts.take j).map f++ts.drop j
def Ol(f:Tk→Tk)(j:Nat)(ts:List Tk):(jL f j ts)[j]?=ts[j]? := by
 unfold jL
 rcases Nat.lt_or_ge j ts.length with h|h
 ·rw[List.getElem?_append_right (by rw[List.length_map,List.length_take];omega),List.length_map,List.length_take,List.getElem?_drop]
  congr 1
  omega
 ·rw[List.getElem?_eq_none (by rw[List.length_append,List.length_map,← List.length_append,List.take_append_drop];exact h),List.getElem?_eq_none h]
def Oj(f:Tk→Tk){j:Nat}{ts:List Tk}{y:Tk}(h:ts[j]?=some y):(jL f j ts).set j (f y)=jL f (j+1) ts:=by
 obtain⟨hj,rfl⟩:=List.getElem?_eq_some_iff.1 h
 unfold jL
 rw[List.set_append_right _ _ (by rw[List.length_map,List.length_take];omega),List.length_map,List.length_take,Nat.min_eq_left ag,Nat.sub_self,List.drop_eq_getElem_cons hj,List.set_cons_zero,List.take_add_one,h,Option.toList_some,List.map_append,List.append_assoc]
 rfl
def Eg(f:Tk→Tk)(ts:List Tk):jL f ts.length ts=ts.map f:=by unfold jL;simp
def Oi(f:Tk→Tk)(hf:∀y,(f y).yb=y.yb)(j:Nat)(ts:List Tk):(jL f j ts).map cg=ts.map cg:=by
 unfold jL
 conv=>rhs;rw[← List.take_append_drop j ts]
 rw[List.map_append,List.map_append,List.map_map]
 congr 1
 refine List.map_congr_left fun y _=>?_
 show cg (f y)=cg y
 unfold cg
 rw[hf]
def G1(ts:List Tk)(d:Dg)(m:List UInt8)(l:List (List UInt8))(k:Nat)(hk:∀n,pY m=some n→k=n):gu (ts.map (fP (C9 m l) d k (l.map hz)))=mg (gu ts) d m l:=by
 unfold mg C9
 cases hm:pY m with
 | none =>
  simp only[Option.isSome_none,Bool.false_and]
  have:ts.map (fP false d k (l.map hz))=ts:=by
   conv=>rhs;rw[← List.map_id ts]
   refine List.map_congr_left fun y _=>?_
   unfold fP
   rw[if_neg (by simp)]
   rfl
  rw[this]
 | some n =>
  obtain rfl:=hk n hm
  simp only[Option.isSome_some,Bool.true_and]
  cases ha:l.all (fun b=>(gJ b).isSome)with
  | false =>
   rw[tP l ha]
   have:ts.map (fP false d k (l.map hz))=ts:=by
    conv=>rhs;rw[← List.map_id ts]
    refine List.map_congr_left fun y _=>?_
    unfold fP
    rw[if_neg (by simp)]
    rfl
   rw[this]
  | true =>
   rw[tO l ha]
   unfold gu
   simp only
   rw[List.map_map,List.map_map]
   refine List.map_congr_left fun y _=>?_
   show(fP true d k (l.map hz) y).c=_
   unfold fP
   simp only[true_and,Function.comp]
   split
   ·rename_i h
    exact(if_pos (α:=TC) (t:=y.c.put k (l.map hz)) (e:=y.c) h).symm
   ·rename_i h
    exact(if_neg (α:=TC) (t:=y.c.put k (l.map hz)) (e:=y.c) h).symm
attribute [local irreducible] J K aE Ends ae az aQ bP bj aT aU bp bW aD
def Kg(Z:HP)(tb bs jb:Nat)(tv:Value)(br:Bool)(ts:List Tk)(d:Dg)(mv:Value)(m:List UInt8)(l:List (List UInt8))(hv:qv Z mv (m::l))(hm:∀x∈m::l,x.length≤65536)(AY:(m::l).length≤65536)(hl:ts.length≤1000000)(hn:∀y∈ts,y.n≤65536)(hw:∀y∈ts,y.n≤y.ws.length*64) :
  aE Tryz.prog 126 [ptr tb,dV d,mv] (dL tb bs jb tv ts br++[Z]) (fun r H=>r = .tuple #[]∧∃k:Nat,(∀n,pY m=some n→k=n)∧H=dL tb bs jb tv (ts.map (fP (C9 m l) d k (l.map hz))) br++[Z]):=by
 obtain⟨cs,dM,lH,⟨ma,mc,rfl,hmc⟩,py⟩:=hv
 obtain⟨c0,Aa,rP⟩:=py 0 m rfl
 have adk:=pW Z c0 m rP (by have:=hm m (List.mem_cons_self ..);omega)
 obtain⟨a0,k0,rfl,_⟩:=rP.2
 obtain⟨bb,oo,cc,he⟩:=dM.some (by intro h;rw[h]at lH;simp at lH)
 simp only[Value.slice.injEq,true_and]at he
 obtain⟨rfl,rfl⟩:=he
 unfold dL dV
 refine aE.au Tryz.func126 Tryz.ntmps126 fun G F R hE=>?_
 refine aG rfl ?_
 refine bG zr zr bD ?_
 intro b4
 refine aI (H':=Z::ae b4 (cl (dC d) 36)::ae tb (cl [ptr bs,ptr jb,tv,.bool br] 73)::az 75 1 tv ts.length (ts.map cg)::aW ts::F) ah (go ?_)
 refine bI 0 zr zr zr zr zr zr zr zr (by simp) ?_
 refine aK ?_
 refine aX 0 0 zr zr zr dM rfl Aa zr zr ?_
 refine aF adk ?_
 rintro _ _⟨rfl,k,zY,rfl,yz⟩
 refine go ?_
 refine bB (p:=1) (q:=((m::l).length:Int)) zr zr zr zr zr zr zr ag (by simp only[List.length_cons];omega) (.inl rfl) ?_
 ((refine aB 23 ((.slice (sliceAt (some ⟨bb,oo,none⟩) mc 1 1) l.length (mc-1))) rfl ((by rw[show((m::l).length:Int).toNat=l.length+1 from by simp[List.length_cons],show(1:Int).toNat=1 from rfl,show l.length+1-1=l.length by omega];rfl)) ?_))
 have Je:=dM.Pw (s:=1) (by rw[lH];simp) hmc 1 (by simp)
 rw[List.length_cons,Nat.add_sub_cancel]at Je
 simp only[List.length_cons]at AY hmc
 have adI:∀(j:Nat) (x:List UInt8),l[j]?=some x→∃cv,(cs.drop (1*1))[j]?=some cv∧eM Z cv x:=fun j x hx=>by
  obtain⟨cv,h1,h2⟩:=py (j+1) x (by rw[List.getElem?_cons_succ];exact hx)
  exact⟨cv,by rw[List.getElem?_drop,Nat.add_comm];exact h1,h2⟩
 have hmr:∀x∈l,x.length≤65536:=fun x hx=>hm x (List.mem_cons_of_mem _ hx)
 have adf:C9 m (l.take 0)=(pY m).isSome:=by unfold C9;simp
 refine go ?_
 refine ai (bO 36 32 none _) ?_
 rw[← adf]
 refine bz (fun y:Nat × Option Addr × Nat=>y.1≤l.length) (fun y=>l.length-y.1)
  (fun y=>[(0,ptr tb),(4,ptr b4),(6,.int .i64 (k:Int)),(7,.bool (C9 m (l.take y.1))),(8,.slice y.2.1 ((l.take y.1).map hz).length y.2.2),(23,.slice (sliceAt (some ⟨bb,oo,none⟩) mc 1 1) l.length (mc-1)),(24,.int .i64 (l.length:Int)),(25,.int .i64 (y.1:Int))])
  (fun y=>az 36 32 (.slice y.2.1 ((l.take y.1).map hz).length y.2.2) ((l.take y.1).map hz).length (((l.take y.1).map hz).flatMap dC)::Z::ae b4 (cl (dC d) 36)::ae tb (cl [ptr bs,ptr jb,tv,.bool br] 73)::az 75 1 tv ts.length (ts.map cg)::aW ts::F) (0,none,0) (Nat.zero_le _) rfl cm ah ?_
 rintro⟨j,pa,pc⟩ hj ih
 simp only at hj
 dsimp only
 refine go ?_
 refine aq zr zr ?_ ?_
 ·intro cW
  have nF:j<l.length:=by omega
  obtain⟨x,hx⟩:∃x,l[j]?=some x:=⟨l[j],by simp⟩
  obtain⟨cv,oC,uH⟩:=adI j x hx
  have hph:=uX Z cv x uH (by have:=hmr x (List.mem_of_getElem? hx);omega)
  obtain⟨ax,kx,rfl,_⟩:=uH.2
  have j8:l.take (j+1)=l.take j++[x]:=by rw[List.take_add_one,hx];rfl
  have qX:((l.take j).map hz).length=j:=by rw[List.length_map,List.length_take];omega
  have Xj:((l.take j).map hz).flatMap dC++dC (hz x)=((l.take (j+1)).map hz).flatMap dC:=by rw[j8];simp
  have zM:((l.take j).map hz).length+1=((l.take (j+1)).map hz).length:=by rw[j8];simp
  have kQ:C9 m (l.take (j+1))=(C9 m (l.take j) && (gJ x).isSome):=by rw[j8,Q9]
  have SW:sliceAt (some ⟨bb,oo,none⟩) mc 1 1=some ⟨bb,oo+1,none⟩:=by
   unfold sliceAt
   rw[if_neg ag]
   rfl
  have aaP:=Je
  rw[SW]at aaP
  refine bu 23 (.slice (some ⟨bb,oo+1,none⟩) l.length (mc-1)) rfl (by rw[SW]) (go ?_)
  refine bI j zr zr zr zr zr zr zr zr nF ?_
  refine aK ?_
  refine aX 1 j zr zr zr aaP rfl oC zr zr (go ?_)
  refine aO hph ?_
  rw[show(gJ x).getD Dg.zero=hz x from rfl]
  unfold dV
  refine go ?_
  refine aC zr zr zr bD ?_
  intro b11
  cases YJ:C9 m (l.take j)
  all_goals(
   rw[YJ]at kQ
   refine go ?_
   ((refine aB 7 ((.bool (C9 m (l.take (j+1))))) rfl ((congrArg Value.bool (by rw[kQ];rfl))) ?_))
   refine go ?_
   refine aJ (U:=aS) (l:=dC (hz x)) 0 zr zr zr zr zr zr ?_
   refine aj (cs:=dC (hz x)) zr zr zr zr zr zr zr zr zr bD ?_
   intro row
   refine go ?_
   refine aR (mm:=1) (news:=dC (hz x)) 3 0 zr zr zr zr zr zr zr zr zr zr zr zr (Vw.ae rfl) rfl (by rw[dz];exact cO _) ag (by show(((l.take j).map hz).length+1)*32≤_;omega) (fun _=>rfl) bD ?_
   intro v1
   rw[Xj,zM]
   refine aN 3 rfl ?_
   rintro ja jc rfl
   refine go ?_
   refine bu 23 ((.slice (sliceAt (some ⟨bb,oo,none⟩) mc 1 1) l.length (mc-1))) rfl ((by rw[SW])) ?_
   refine aM ih (j+1,ja,jc) rfl (by simp only;omega) (by simp only;omega) cm ah)
 ·intro fg
  have Lj:j=l.length:=by omega
  subst Lj
  rw[List.take_length]
  clear ih
  obtain⟨p,hp⟩:∃p,p=l.map hz:=⟨_,rfl⟩
  obtain⟨ok,kQ⟩:∃ok,ok=C9 m l:=⟨_,rfl⟩
  have qX:p.length≤65536:=by rw[hp,List.length_map];omega
  rw[← hp,← kQ]at hE ⊢
  have hfy:=abU ok d k p
  refine ai (ao.pick [4] rfl) ?_
  refine dg 0 rfl ?_
  rintro ta tc rfl
  refine cV 0 rfl ?_
  intro hvt
  refine ai (H':=ae tb (cl [ptr bs,ptr jb,.slice ta ts.length tc,.bool br] 73)::az 75 1 (.slice ta ts.length tc) ts.length (ts.map cg)::aW ts::az 36 32 (.slice pa p.length pc) p.length (p.flatMap dC)::ae b4 (cl (dC d) 36)::Z::F) ah (go ?_)
  refine bz (fun j:Nat=>j≤ts.length) (fun j=>ts.length-j)
   (fun j=>[(0,ptr tb),(4,ptr b4),(6,.int .i64 (k:Int)),(7,.bool ok),(8,.slice pa p.length pc),(46,.slice ta ts.length tc),(47,.int .i64 (ts.length:Int)),(48,.int .i64 (j:Int))])
   (fun j=>ae tb (cl [ptr bs,ptr jb,.slice ta ts.length tc,.bool br] 73)::az 75 1 (.slice ta ts.length tc) ts.length (ts.map cg)::aW (jL (fP ok d k p) j ts)::az 36 32 (.slice pa p.length pc) p.length (p.flatMap dC)::ae b4 (cl (dC d) 36)::Z::F) 0 (Nat.zero_le _) rfl cm ah ?_
  intro j hj ih
  refine go ?_
  refine aq zr zr ?_ ?_
  ·intro cW
   have nF:j<ts.length:=by omega
   obtain⟨y,hy⟩:∃y,ts[j]?=some y:=⟨ts[j],by simp⟩
   have Cf:=List.mem_of_getElem? hy
   have Gg:=hn y Cf
   have Ev:=hw y Cf
   have hgy:(jL (fP ok d k p) j ts)[j]?=some y:=by rw[Ol,hy]
   have iq:=Oj (fP ok d k p) hy
   obtain⟨b9,o9,c9,he9⟩:=hvt.some (Nf nF)
   simp only[Value.slice.injEq,true_and]at he9
   obtain⟨rfl,rfl⟩:=he9
   refine go ?_
   refine bI j zr zr zr zr zr zr zr zr nF ?_
   refine aK ?_
   refine aX 1 j zr zr zr hvt rfl (qI hy) zr zr (go ?_)
   refine ai (H':=aW (jL (fP ok d k p) j ts)::ae tb (cl [ptr bs,ptr jb,.slice (some ⟨b9,o9,none⟩) ts.length tc,.bool br] 73)::az 75 1 (.slice (some ⟨b9,o9,none⟩) ts.length tc) ts.length (ts.map cg)::az 36 32 (.slice pa p.length pc) p.length (p.flatMap dC)::ae b4 (cl (dC d) 36)::Z::F) ah ?_
   refine ai (kO hgy _) ?_
   have lg:∀H,ao (oA (fP ok d k p y)::aW ((jL (fP ok d k p) j ts).take j++(jL (fP ok d k p) j ts).drop (j+1))::H) (aW (jL (fP ok d k p) (j+1) ts)::H):=fun H=>by rw[← iq];exact IJ hgy _ H
   refine er (gf y) ?_
   rintro⟨wv,Fi,M⟩ SH
   have jj:∀H,ao (ae y.yb (cl (ly y) 79)::ae y.sb (cl [.int .i64 (y.n:Int),wv] 138)::az 134 1 wv y.ws.length (qV y.ws)::aQ (Value.int .i64) y.mb Fi::aU 36 M::aW ((jL (fP ok d k p) j ts).take j++(jL (fP ok d k p) j ts).drop (j+1))::H) (oA y::aW ((jL (fP ok d k p) j ts).take j++(jL (fP ok d k p) j ts).drop (j+1))::H):=fun H=>ao.trans (H2:=mP y (wv,Fi,M)++(aW ((jL (fP ok d k p) j ts).take j++(jL (fP ok d k p) j ts).drop (j+1))::H)) (by unfold mP;exact ah) (iX SH _)
   refine ai (H':=ae y.yb (cl (ly y) 79)::ae y.sb (cl [.int .i64 (y.n:Int),wv] 138)::az 134 1 wv y.ws.length (qV y.ws)::aQ (Value.int .i64) y.mb Fi::aU 36 M::aW ((jL (fP ok d k p) j ts).take j++(jL (fP ok d k p) j ts).drop (j+1))::ae tb (cl [ptr bs,ptr jb,.slice (some ⟨b9,o9,none⟩) ts.length tc,.bool br] 73)::az 75 1 (.slice (some ⟨b9,o9,none⟩) ts.length tc) ts.length (ts.map cg)::az 36 32 (.slice pa p.length pc) p.length (p.flatMap dC)::ae b4 (cl (dC d) 36)::Z::F) (by unfold mP;exact ah) ?_
   have jN:fP ok d k p y=y→∀H,ao (ae y.yb (cl (ly y) 79)::ae y.sb (cl [.int .i64 (y.n:Int),wv] 138)::az 134 1 wv y.ws.length (qV y.ws)::aQ (Value.int .i64) y.mb Fi::aU 36 M::aW ((jL (fP ok d k p) j ts).take j++(jL (fP ok d k p) j ts).drop (j+1))::H) (aW (jL (fP ok d k p) (j+1) ts)::H):=fun h H=>by
    have:=lg H
    rw[h]at this
    exact(jj H).trans this
   refine aH (fun w=>Sat G w ([ae y.yb (cl (ly y) 79),ae b4 (cl (dC d) 36)])) (df 0 16 (.act 16 (df 17 9 (.st 27 (.act 26 (.act 28 (.st 29 (.st 30 .nil)))))))) rfl ak ak ak eo ?_
   cases ok with
   | false =>
    have RJ:fP false d k p y=y:=by unfold fP;rw[if_neg (by simp)]
    refine go ?_
    refine ai (ao.trans ah (jN RJ (ae tb (cl [ptr bs,ptr jb,.slice (some ⟨b9,o9,none⟩) ts.length tc,.bool br] 73)::az 75 1 (.slice (some ⟨b9,o9,none⟩) ts.length tc) ts.length (ts.map cg)::az 36 32 (.slice pa p.length pc) p.length (p.flatMap dC)::ae b4 (cl (dC d) 36)::Z::F))) ?_
    refine aM ih (j+1) rfl ag ag cm ah
   | true =>
   refine go ?_
   refine cD (U:=aS) (cs:=dC y.x.d) 0 zr zr zr zr zr zr (go ?_)
   refine bY (U:=aS) (l:=dC d) 1 zr zr zr zr zr zr (go ?_)
   refine lR (b:=decide (y.x.d=d)) zr zr zr Lw (fun w=>LK y.x.d d w) ?_
   by_cases YD:y.x.d=d
   case neg =>
    rw[decide_eq_false YD]
    have RJ:fP true d k p y=y:=by unfold fP;rw[if_neg (fun h=>YD h.2.1)]
    refine go ?_
    refine ai (ao.trans ah (jN RJ (ae tb (cl [ptr bs,ptr jb,.slice (some ⟨b9,o9,none⟩) ts.length tc,.bool br] 73)::az 75 1 (.slice (some ⟨b9,o9,none⟩) ts.length tc) ts.length (ts.map cg)::az 36 32 (.slice pa p.length pc) p.length (p.flatMap dC)::ae b4 (cl (dC d) 36)::Z::F))) ?_
    refine aM ih (j+1) rfl ag ag cm ah
   rw[decide_eq_true YD]
   refine go ?_
   refine bC (lp y.sb y.n wv) ?_
   refine go ?_
   by_cases YO:k<y.n
   case neg =>
    have RJ:fP true d k p y=y:=by unfold fP;rw[if_neg (fun h=>YO h.2.2.1)]
    refine aB 71 ((.bool false)) rfl ((congrArg Value.bool (decide_eq_false ag))) (go ?_)
    refine ai (ao.trans ah (jN RJ (ae tb (cl [ptr bs,ptr jb,.slice (some ⟨b9,o9,none⟩) ts.length tc,.bool br] 73)::az 75 1 (.slice (some ⟨b9,o9,none⟩) ts.length tc) ts.length (ts.map cg)::az 36 32 (.slice pa p.length pc) p.length (p.flatMap dC)::ae b4 (cl (dC d) 36)::Z::F))) ?_
    refine aM ih (j+1) rfl ag ag cm ah
   refine aB 71 ((.bool true)) rfl ((congrArg Value.bool (decide_eq_true ag))) (go ?_)
   refine bC (lp y.sb y.n wv) ?_
   refine go ?_
   refine bC (BA (y.n:Int) (k:Int)) ?_
   refine go ?_
   by_cases hpd:p.length=eX y.n k
   case neg =>
    have RJ:fP true d k p y=y:=by unfold fP;rw[if_neg (fun h=>hpd h.2.2.2)]
    refine bu 82 ((.bool false)) rfl ((congrArg Value.bool (decide_eq_false ag))) (go ?_)
    refine ai (ao.trans ah (jN RJ (ae tb (cl [ptr bs,ptr jb,.slice (some ⟨b9,o9,none⟩) ts.length tc,.bool br] 73)::az 75 1 (.slice (some ⟨b9,o9,none⟩) ts.length tc) ts.length (ts.map cg)::az 36 32 (.slice pa p.length pc) p.length (p.flatMap dC)::ae b4 (cl (dC d) 36)::Z::F))) ?_
    refine aM ih (j+1) rfl ag ag cm ah
   refine bu 82 ((.bool true)) rfl ((congrArg Value.bool (decide_eq_true ag))) ?_
   have RJ:fP true d k p y=y.put k p:=by unfold fP;rw[if_pos ⟨rfl,YD,YO,hpd⟩]
   rw[RJ]at lg
   refine ai (ao.trans ah (jj (ae tb (cl [ptr bs,ptr jb,.slice (some ⟨b9,o9,none⟩) ts.length tc,.bool br] 73)::az 75 1 (.slice (some ⟨b9,o9,none⟩) ts.length tc) ts.length (ts.map cg)::az 36 32 (.slice pa p.length pc) p.length (p.flatMap dC)::ae b4 (cl (dC d) 36)::Z::F))) ?_
   refine ai (H':=az 36 32 (.slice pa p.length pc) p.length (p.flatMap dC)::oA y::aW ((jL (fP true d k p) j ts).take j++(jL (fP true d k p) j ts).drop (j+1))::ae tb (cl [ptr bs,ptr jb,.slice (some ⟨b9,o9,none⟩) ts.length tc,.bool br] 73)::az 75 1 (.slice (some ⟨b9,o9,none⟩) ts.length tc) ts.length (ts.map cg)::ae b4 (cl (dC d) 36)::Z::F) ah ?_
   refine cV 0 rfl ?_
   intro hvp
   have tK:=Dl y k YO Gg Ev _ (.slice pa p.length pc) p hvp ag
   refine go ?_
   refine aO tK ?_
   refine go ?_
   refine ai (H':=oA (y.put k p)::aW ((jL (fP true d k p) j ts).take j++(jL (fP true d k p) j ts).drop (j+1))::ae tb (cl [ptr bs,ptr jb,.slice (some ⟨b9,o9,none⟩) ts.length tc,.bool br] 73)::az 75 1 (.slice (some ⟨b9,o9,none⟩) ts.length tc) ts.length (ts.map cg)::az 36 32 (.slice pa p.length pc) p.length (p.flatMap dC)::ae b4 (cl (dC d) 36)::Z::F) ah ?_
   refine ai (lg _) ?_
   refine aM ih (j+1) rfl ag ag cm ah
  ·intro fg
   have Lj:j=ts.length:=by omega
   subst Lj
   clear ih
   rw[Eg]
   have QB:(ts.map (fP ok d k p)).map cg=ts.map cg:=by rw[← Eg];exact Oi _ hfy _ _
   have ado:(ts.map (fP ok d k p)).length=ts.length:=List.length_map ..
   refine go ?_
   refine ai (H':=ae tb (cl [ptr bs,ptr jb,.slice ta ts.length tc,.bool br] 73)::az 75 1 (.slice ta ts.length tc) (ts.map (fP ok d k p)).length ((ts.map (fP ok d k p)).map cg)::aW (ts.map (fP ok d k p))::Z::F) (by rw[QB,ado];exact ah) ?_
   refine bU hE Tryz.func126 rfl _ rfl ⟨rfl,k,yz,rfl⟩ ah
end Go.Proofs.YtdigdgohdpeebaaGreatDoor
namespace Go.Proofs.YtdigdgohdpeebaaGreatDoor
open Go Go.SL
variable{d:Dg}{cs:List TC}{b:List UInt8}
def HT(ts:List Tk)(d:Dg):gu (mQ ts d)=DN (gu ts) d:=by
 unfold gu mQ DN
 rw[List.filter_map]
 rfl
def JF(ts:List Tk)(y:Tk):gu (ts++[y])=gu ts++[y.c]:=by simp[gu]
def Zd(k:UInt8)(n:Nat)(hn:n<256):decide ((k.toNat:Int)=(n:Int))=decide (k=UInt8.ofNat n):=by
 rw[decide_eq_decide]
 constructor
 ·intro h
  have h2:k.toNat=n:=by omega
  rw[← h2]
  exact(UInt8.ofNat_toNat).symm
 ·rintro rfl
  rw[UInt8.toNat_ofNat']
  omega
def GC(h:iW b=none):dk cs b=cs:=by unfold dk;rw[h]
def Ds(h:iW b=some (3,d,[])):dk cs b=DN cs d:=by unfold dk;rw[h];simp
def vD{m:List UInt8}{l:List (List UInt8)}(h:iW b=some (2,d,m::l)):dk cs b=mg cs d m l:=by
 unfold dk
 rw[h]
 simp only
 rw[if_neg (by simp)]
 match l with
 | []=>rfl
 | [_]=>rfl
 | [_,_]=>rfl
 | _::_::_::_=>rfl
def vE{s p r:List UInt8}(h:iW b=some (1,d,[s,p,r])):dk cs b=(match pY s,pY p,gJ r with
  | some s,some p,some r=>if bF ⟨d,s,p,r⟩then DN cs d++[de ⟨d,s,p,r⟩]else cs
  | _,_,_=>cs):=by
 unfold dk
 rw[h]
 rfl
def oG{k:UInt8}{l:List (List UInt8)}(h:iW b=some (k,d,l))(h3:¬(k=3∧l.length=0))(h1:¬(k=1∧l.length=3))(h2:¬(k=2∧0<l.length)):dk cs b=cs:=by
 unfold dk
 rw[h]
 simp only
 rw[if_neg (fun e=>h3 ⟨e.1,by rw[e.2];rfl⟩)]
 match l,h1,h2 with
 | [],_,_=>rfl
 | [_],_,h2=>simp only;rw[if_neg (fun e=>h2 ⟨e,by simp⟩)]
 | [_,_],_,h2=>simp only;rw[if_neg (fun e=>h2 ⟨e,by simp⟩)]
 | [_,_,_],h1,h2=>simp only;rw[if_neg (fun e=>h1 ⟨e,rfl⟩),if_neg (fun e=>h2 ⟨e,by simp⟩)]
 | _::_::_::_::_,_,h2=>simp only;rw[if_neg (fun e=>h2 ⟨e,by simp⟩)]
attribute [local irreducible] J K aE Ends ae az aQ bP bj aT aU bp bW aD
def Ni(X:HP)(tb bs jb:Nat)(tv:Value)(br:Bool)(ts:List Tk)(bv:Value)(b:List UInt8)(hb:eM X bv b)(jO:b.length≤1000000)(hl:ts.length≤900000)(hn:∀y∈ts,y.n≤65536)(hw:∀y∈ts,y.n≤y.ws.length*64) :
  aE Tryz.prog 65 [ptr tb,bv] (dL tb bs jb tv ts br++[X]) (fun r H=>r = .tuple #[]∧∃(ek:List Tk) (m5:Value),gu ek=dk (gu ts) b∧H=dL tb bs jb m5 ek br++[X]):=by
 have vW:=KF X bv b hb jO
 have Jj:=fun d=>xU tb bs jb tv br ts d ag
 obtain⟨ba,bc,rfl,Pc⟩:=hb.2
 unfold dL dV at Jj
 unfold dL
 unfold dV at vW
 refine aE.au Tryz.func65 Tryz.ntmps65 fun G F R hE=>?_
 refine ai (H':=X::ae tb (cl [ptr bs,ptr jb,tv,.bool br] 73)::az 75 1 tv ts.length (ts.map cg)::aW ts::F) ah (go ?_)
 refine aF vW ?_
 rintro _ _ (⟨RA,⟨k,d,ma,mn,mc,rfl⟩,rfl⟩|⟨k,d,more,mv,Z,hr,mW,YN,Xr,rfl,rfl⟩)
 ·refine go ?_
  refine aC zr zr zr bD ?_
  intro b5
  refine go ?_
  refine ai (H':=ae tb (cl [ptr bs,ptr jb,tv,.bool br] 73)::az 75 1 tv ts.length (ts.map cg)::aW ts::X::F) ah ?_
  refine bU hE Tryz.func65 rfl _ rfl ⟨rfl,ts,tv,(GC RA).symm,rfl⟩ ah
 have abf:=mW
 obtain⟨cs,dM,lH,⟨ma,mc,rfl,hmc⟩,py⟩:=mW
 refine go ?_
 refine aC zr zr zr bD ?_
 intro b5
 refine go ?_
 have bZ:∀j:Nat,j<256→k≠UInt8.ofNat j→decide ((k.toNat:Int)=(j:Int))=false:=fun j hj h=>by rw[Zd k j hj];exact decide_eq_false h
 have gP:dk (gu ts) b=gu ts→∃(ek:List Tk) (m5:Value),gu ek=dk (gu ts) b∧[ae tb (cl [ptr bs,ptr jb,tv,.bool br] 73),az 75 1 tv ts.length (ts.map cg),aW ts]++[X]=[ae tb (cl [ptr bs,ptr jb,m5,.bool br] 73),az 75 1 m5 ek.length (ek.map cg),aW ek]++[X]:=fun h=>⟨ts,tv,h.symm,rfl⟩
 by_cases h3:k=3
 ·subst h3
  by_cases h0:more.length=0
  ·have YM:more=[]:=List.eq_nil_of_length_eq_zero h0
   subst YM
   have rN:=Ds (cs:=gu ts) hr
   refine go ?_
   refine aJ (U:=aS) (l:=dC d) 0 zr zr zr zr zr zr ?_
   refine aF (Jj d) ?_
   rintro _ _⟨rfl,m5,rfl⟩
   refine go ?_
   refine ai (H':=ae tb (cl [ptr bs,ptr jb,m5,.bool br] 73)::az 75 1 m5 (mQ ts d).length ((mQ ts d).map cg)::aW (mQ ts d)::X::F) ah ?_
   (refine bU hE Tryz.func65 rfl _ rfl ⟨rfl,mQ ts d,m5,by rw[HT,rN],rfl⟩ ah)
  ·have rN:=oG (cs:=gu ts) hr (fun h=>h0 h.2) (fun h=>absurd h.1 (by decide)) (fun h=>absurd h.1 (by decide))
   refine go ?_
   refine bu 25 ((.bool false)) rfl ((congrArg Value.bool (decide_eq_false ag))) (go ?_)
   refine ai (H':=ae tb (cl [ptr bs,ptr jb,tv,.bool br] 73)::az 75 1 tv ts.length (ts.map cg)::aW ts::X::F) ah ?_
   refine bU hE Tryz.func65 rfl _ rfl ⟨rfl,gP rN⟩ ah
 have hn3:=bZ 3 ag h3
 refine aB 28 ((.bool false)) rfl ((congrArg Value.bool hn3)) ?_
 by_cases h1:k=1
 ·subst h1
  by_cases h0:more.length=3
  case neg =>
   have rN:=oG (cs:=gu ts) hr (fun h=>absurd h.1 (by decide)) (fun h=>h0 h.2) (fun h=>absurd h.1 (by decide))
   refine go ?_
   refine bu 36 ((.bool false)) rfl ((congrArg Value.bool (decide_eq_false ag))) (go ?_)
   refine ai (H':=ae tb (cl [ptr bs,ptr jb,tv,.bool br] 73)::az 75 1 tv ts.length (ts.map cg)::aW ts::X::F) ah ?_
   refine bU hE Tryz.func65 rfl _ rfl ⟨rfl,gP rN⟩ ah
  obtain⟨ms,mp,mr,rfl⟩:∃ms mp mr,more=[ms,mp,mr]:=by
   match more,h0 with
   | [ms,mp,mr],_=>exact⟨ms,mp,mr,rfl⟩
  have rN:=vE (cs:=gu ts) hr
  obtain⟨c0,Aa,rP⟩:=py 0 ms rfl
  obtain⟨c1,EW,nw⟩:=py 1 mp rfl
  obtain⟨c2,mT,pF⟩:=py 2 mr rfl
  have hq0:=pW Z c0 ms rP (by have:=YN ms (by simp);omega)
  have hq1:=pW Z c1 mp nw (by have:=YN mp (by simp);omega)
  have YI:=uX Z c2 mr pF (by have:=YN mr (by simp);omega)
  obtain⟨a0,z0,rfl,_⟩:=rP.2
  obtain⟨a1,z1,rfl,_⟩:=nw.2
  obtain⟨a2,z2,rfl,_⟩:=pF.2
  obtain⟨bb,oo,cc,he⟩:=dM.some (by intro h;rw[h]at lH;simp at lH)
  simp only[Value.slice.injEq,true_and]at he
  obtain⟨rfl,rfl⟩:=he
  unfold dV at YI
  refine aI (H':=ae b5 (cl (dC d) 36)::Z::ae tb (cl [ptr bs,ptr jb,tv,.bool br] 73)::az 75 1 tv ts.length (ts.map cg)::aW ts::X::F) ah (go ?_)
  refine bI 0 zr zr zr zr zr zr zr zr (by simp) ?_
  refine aK ?_
  refine aX 1 0 zr zr zr dM rfl Aa zr zr ?_
  refine aF hq0 ?_
  rintro _ _⟨rfl,k1,zY,rfl,adu⟩
  refine go ?_
  refine bI 1 zr zr zr zr zr zr zr zr (by simp) ?_
  refine aK ?_
  refine aX 0 1 zr zr zr dM rfl EW zr zr ?_
  refine aF hq1 ?_
  rintro _ _⟨rfl,k2,yz,rfl,ads⟩
  refine go ?_
  refine bI 2 zr zr zr zr zr zr zr zr (by simp) ?_
  refine aK ?_
  refine aX 0 2 zr zr zr dM rfl mT zr zr ?_
  refine aO YI ?_
  rw[show(gJ mr).getD Dg.zero=hz mr from rfl]
  refine go ?_
  refine aC zr zr zr bD ?_
  intro b12
  refine go ?_
  refine aJ (U:=aS) (l:=dC d) 2 zr zr zr zr zr zr (go ?_)
  refine aJ (U:=aS) (l:=dC (hz mr)) 0 zr zr zr zr zr zr (go ?_)
  obtain⟨x,hx⟩:∃x:Bl,x=⟨d,(k1:Int),(k2:Int),hz mr⟩:=⟨_,rfl⟩
  refine aC zr zr zr bD ?_
  intro b14
  refine go ?_
  ((refine aI (H':=ae b14 (cl (bJ x) 38)::ae b5 (cl (dC d) 36)::ae tb (cl [ptr bs,ptr jb,tv,.bool br] 73)::az 75 1 tv ts.length (ts.map cg)::aW ts::X::F) ((by rw[hx];exact ah)) ?_))
  have sD:=om x
  unfold eS at sD
  cases e0:pY ms with
  | none =>
   rw[e0]at rN
   simp only at rN
   refine go ?_
   refine ai (H':=ae tb (cl [ptr bs,ptr jb,tv,.bool br] 73)::az 75 1 tv ts.length (ts.map cg)::aW ts::X::F) ah ?_
   refine bU hE Tryz.func65 rfl _ rfl ⟨rfl,gP rN⟩ ah
  | some v0 =>
  obtain rfl:=adu v0 e0
  rw[e0]at rN
  cases e1:pY mp with
  | none =>
   rw[e1]at rN
   simp only at rN
   refine go ?_
   refine ai (H':=ae tb (cl [ptr bs,ptr jb,tv,.bool br] 73)::az 75 1 tv ts.length (ts.map cg)::aW ts::X::F) ah ?_
   refine bU hE Tryz.func65 rfl _ rfl ⟨rfl,gP rN⟩ ah
  | some v1 =>
  obtain rfl:=ads v1 e1
  rw[e1]at rN
  cases e2:gJ mr with
  | none =>
   rw[e2]at rN
   simp only at rN
   refine go ?_
   refine ai (H':=ae tb (cl [ptr bs,ptr jb,tv,.bool br] 73)::az 75 1 tv ts.length (ts.map cg)::aW ts::X::F) ah ?_
   refine bU hE Tryz.func65 rfl _ rfl ⟨rfl,gP rN⟩ ah
  | some v2 =>
  have ry:hz mr=v2:=by unfold hz;rw[e2];rfl
  rw[e2]at rN
  simp only at rN
  rw[ry]at hx
  rw[← hx]at rN
  refine go ?_
  refine aJ (U:=aS) (l:=bJ x) 0 zr zr zr zr zr zr ?_
  ((refine go ?_;(refine aF sD ?_)))
  rintro _ _⟨rfl,rfl⟩
  cases Rs:bF x with
  | false =>
   rw[Rs]at rN
   simp only[Bool.false_eq_true,if_false]at rN
   refine go ?_
   refine ai (H':=ae tb (cl [ptr bs,ptr jb,tv,.bool br] 73)::az 75 1 tv ts.length (ts.map cg)::aW ts::X::F) ah ?_
   refine bU hE Tryz.func65 rfl _ rfl ⟨rfl,gP rN⟩ ah
  | true =>
  rw[Rs]at rN
  simp only[if_true]at rN
  have wO:=Bb x
  unfold eS at wO
  refine aI (H':=ae b5 (cl (dC d) 36)::ae tb (cl [ptr bs,ptr jb,tv,.bool br] 73)::az 75 1 tv ts.length (ts.map cg)::aW ts::X::ae b14 (cl (bJ x) 38)::F) ah (go ?_)
  refine aJ (U:=aS) (l:=dC d) 0 zr zr zr zr zr zr ?_
  refine aF (Jj d) ?_
  rintro _ _⟨rfl,m5,rfl⟩
  refine aI (H':=ae tb (cl [ptr bs,ptr jb,m5,.bool br] 73)::az 75 1 m5 (mQ ts d).length ((mQ ts d).map cg)::aW (mQ ts d)::X::ae b14 (cl (bJ x) 38)::F) ah ?_
  have EB:(mQ ts d).length≤ts.length:=List.length_filter_le _ _
  obtain⟨us,zU⟩:∃us,us=mQ ts d:=⟨_,rfl⟩
  rw[← zU]at EB ⊢
  have hcu:gu us=DN (gu ts) d:=by rw[zU,HT]
  refine go ?_
  refine dg 1 rfl ?_
  rintro ua uc rfl
  refine aH (fun w=>Sat G w ([ae tb (cl [ptr bs,ptr jb,.slice ua us.length uc,.bool br] 73),ae b14 (cl (bJ x) 38)])) (df 0 6 (.act 6 (.act 7 (.act 8 (.st 9 (.st 10 (.act 11 .nil))))))) rfl ak ak ak eo ?_
  refine go ?_
  refine bY (U:=aS) (l:=bJ x) 1 zr zr zr zr zr zr (go ?_)
  refine dD wO ?_
  rintro _ _⟨y,rfl,rfl,Rm,AW,hy3,hy4⟩
  refine go ?_
  refine aj (cs:=[ptr y.yb]) zr zr zr zr zr zr zr zr zr (fun _ w hw=>hw.cN ah) ?_
  intro r1
  refine go ?_
  refine aR (mm:=1) (news:=[ptr y.yb]) 3 0 rfl rfl rfl rfl rfl rfl rfl rfl rfl rfl rfl rfl (Vw.ae rfl) rfl (by intro v hv;simp at hv;rw[hv];rfl) ag (by show(_+_)*8≤_;omega) (fun _=>rfl) (fun _ w hw=>hw.cN ah) ?_
  intro v1
  refine aN 3 rfl ?_
  rintro ka kc rfl
  refine go ?_
  have QB:us.map cg++[ptr y.yb]=(us++[y]).map cg:=by simp[cg]
  have AY:us.length+1=(us++[y]).length:=by simp
  have qY:=uN us [] y
  rw[List.append_nil]at qY
  rw[QB,AY]
  refine ai (H':=oA y::aW us::ae tb (cl [ptr bs,ptr jb,.slice ka (us++[y]).length kc,.bool br] 73)::az 75 1 (.slice ka (us++[y]).length kc) (us++[y]).length ((us++[y]).map cg)::X::F) ah ?_
  refine ai (qY _) ?_
  refine ai (H':=ae tb (cl [ptr bs,ptr jb,.slice ka (us++[y]).length kc,.bool br] 73)::az 75 1 (.slice ka (us++[y]).length kc) (us++[y]).length ((us++[y]).map cg)::aW (us++[y])::X::F) ah ?_
  have Jd:y.c=de x:=by
   unfold Tk.c de
   rw[Rm,hy3,hy4,← AW,Int.toNat_natCast]
  (refine bU hE Tryz.func65 rfl _ rfl ⟨rfl,us++[y],_,by rw[JF,hcu,Jd,rN],rfl⟩ ah)
 have S6:=bZ 1 ag h1
 by_cases h2:k=2
 ·subst h2
  by_cases h0:0<more.length
  case neg =>
   have rN:=oG (cs:=gu ts) hr (fun h=>absurd h.1 (by decide)) (fun h=>absurd h.1 (by decide)) (fun h=>h0 h.2)
   refine go ?_
   refine bu 95 ((.bool false)) rfl ((congrArg Value.bool (decide_eq_false ag))) (go ?_)
   refine ai (H':=ae tb (cl [ptr bs,ptr jb,tv,.bool br] 73)::az 75 1 tv ts.length (ts.map cg)::aW ts::X::F) ah ?_
   refine bU hE Tryz.func65 rfl _ rfl ⟨rfl,gP rN⟩ ah
  obtain⟨m,l,rfl⟩:∃m l,more=m::l:=by
   match more,h0 with
   | m::l,_=>exact⟨m,l,rfl⟩
  have rN:=vD (cs:=gu ts) hr
  have htp:=Kg Z tb bs jb tv br ts d _ m l abf YN Xr ag hn hw
  unfold dL dV at htp
  refine go ?_
  refine bu 95 ((.bool true)) rfl ((congrArg Value.bool (decide_eq_true ag))) (go ?_)
  refine aJ (U:=aS) (l:=dC d) 0 zr zr zr zr zr zr ?_
  ((refine go ?_;(refine aF htp ?_)))
  rintro _ _⟨rfl,kk,YP,rfl⟩
  refine go ?_
  refine ai (H':=ae tb (cl [ptr bs,ptr jb,tv,.bool br] 73)::az 75 1 tv (ts.map (fP (C9 m l) d kk (l.map hz))).length ((ts.map (fP (C9 m l) d kk (l.map hz))).map cg)::aW (ts.map (fP (C9 m l) d kk (l.map hz)))::X::F) ah ?_
  (refine bU hE Tryz.func65 rfl _ rfl ⟨rfl,ts.map (fP (C9 m l) d kk (l.map hz)),tv,by rw[G1 ts d m l kk YP,rN],rfl⟩ ah)
 have hn2:=bZ 2 ag h2
 have rN:=oG (cs:=gu ts) hr (fun h=>h3 h.1) (fun h=>h1 h.1) (fun h=>h2 h.1)
 refine go ?_
 refine aB 39 ((.bool false)) rfl ((congrArg Value.bool S6)) (go ?_)
 refine aB 98 ((.bool false)) rfl ((congrArg Value.bool hn2)) (go ?_)
 refine ai (H':=ae tb (cl [ptr bs,ptr jb,tv,.bool br] 73)::az 75 1 tv ts.length (ts.map cg)::aW ts::X::F) ah ?_
 refine bU hE Tryz.func65 rfl _ rfl ⟨rfl,gP rN⟩ ah
end Go.Proofs.YtdigdgohdpeebaaGreatDoor
namespace Go.Proofs.YtdigdgohdpeebaaGreatDoor
open Go Go.SL
def Tk.drop(y:Tk)(i:Nat):Tk:=⟨y.yb,y.sb,y.mb,y.x,y.n,kX y.ws i false,fun j=>if j=(i:Int)then none else y.pf j⟩
def H9(es:List (Int × Value))(k j:Int):ez (rE es k) j=if j=k then none else ez es j:=by
 induction es with
 | nil=>simp[rE,ez]
 | cons x es ih =>
  unfold rE at ih ⊢
  rw[List.filter_cons]
  by_cases hx:x.1=k
  ·simp only[hx,decide_true,Bool.not_true,Bool.false_eq_true,if_false]
   rw[ih]
   by_cases hj:j=k
   ·rw[if_pos hj,if_pos hj]
   ·rw[if_neg hj,if_neg hj]
    unfold ez
    rw[List.find?_cons_of_neg (by simp;rw[hx];exact fun e=>hj e.symm)]
  ·simp only[hx,decide_false,Bool.not_false,if_true]
   unfold ez at ih ⊢
   by_cases Rn:x.1=j
   ·rw[List.find?_cons_of_pos (by simpa using Rn),List.find?_cons_of_pos (by simpa using Rn),if_neg (fun e=>hx (Rn.trans e))]
   ·rw[List.find?_cons_of_neg (by simpa using Rn),List.find?_cons_of_neg (by simpa using Rn)]
    exact ih
def JQ.drop{z:Value × List (Int × Value) × fC}{y:Tk}(h:JQ z y)(i:Nat):JQ (z.1,rE z.2.1 (i:Int),z.2.2) (y.drop i):=fun j=>by
 simp only
 rw[H9]
 by_cases hj:j=(i:Int)
 ·rw[if_pos hj]
  show(if j=(i:Int)then none else y.pf j)=none
  rw[if_pos hj]
 ·rw[if_neg hj]
  have:=h j
  show match ez z.2.1 j with
   | none=>(if j=(i:Int)then none else y.pf j)=none
   | some v=>∃l,(if j=(i:Int)then none else y.pf j)=some l∧CT z.2.2 32 v l.length (l.flatMap dC)
  rw[if_neg hj]
  exact this
attribute [local irreducible] J K aE Ends ae az aQ bP bj aT aU bp bW aD
def Kh(y:Tk)(i:Nat)(hi:i<y.n)(hn:y.n≤65536)(hw:y.n≤y.ws.length*64) :
  aE Tryz.prog 128 [ptr y.yb,.int .i64 (i:Int)] [oA y] (fun r H=>r = .tuple #[]∧H=[oA (y.drop i)]):=by
 refine aE.au Tryz.func128 Tryz.ntmps128 fun G F R hE=>?_
 refine er (gf y) ?_
 rintro⟨wv,cs,M⟩ hz
 have tK:=Gc y.sb y.n wv y.ws hn hw i hi false
 unfold eT at tK
 refine ai (H':=ae y.yb (cl (ly y) 79)::ae y.sb (cl [.int .i64 (y.n:Int),wv] 138)::az 134 1 wv y.ws.length (qV y.ws)::aQ (Value.int .i64) y.mb cs::aU 36 M::F) (by unfold mP;exact ah) ?_
 refine go ?_
 refine aO tK ?_
 refine aI (H':=ae y.yb (cl (ly y) 79)::aQ (Value.int .i64) y.mb cs::ae y.sb (cl [.int .i64 (y.n:Int),wv] 138)::az 134 1 wv (kX y.ws i false).length (qV (kX y.ws i false))::aU 36 M::F) ah (go ?_)
 refine mM (es:=cs) (key:=(i:Int)) 1 (Cc Tryz.underlying3) (fun w hw=>by exact trivial) zr zr zr zr zr zr zr ?_
 refine go ?_
 refine ai (H':=mP (y.drop i) (wv,rE cs (i:Int),M)++F) (by unfold mP;exact ah) ?_
 refine ai (iX (hz.drop i) _) ?_
 refine bU hE Tryz.func128 rfl _ rfl ⟨rfl,rfl⟩ ah
end Go.Proofs.YtdigdgohdpeebaaGreatDoor
namespace Go.Proofs.YtdigdgohdpeebaaGreatDoor
open Go Go.SL
variable{ls:List (List UInt8)}{i:Nat}{s:e8}
def kJ(c:TC):Prop:=c.n≤1024∧c.n≤c.ws.length*64∧c.ws.length≤65536∧∀k l,c.pf k=some l→l.length≤10
def kJ.drop{c:TC}(h:kJ c)(i:Nat):kJ (c.drop i):=⟨h.1,by unfold TC.drop;simp only[iH];exact h.2.1,by unfold TC.drop;simp only[iH];exact h.2.2.1,fun k l hk=>by
  unfold TC.drop at hk
  simp only at hk
  split at hk
  · cases hk
  · exact h.2.2.2 k l hk⟩
def kJ.hold{s:e8}{c:TC}(h:kJ c):∀k,kJ (iI s c k).1
 | 0=>h
 | k+1=>by
  rw[mj]
  have ih:=kJ.hold (s:=s) h k
  unfold ld
  split
  ·split
   ·exact ih.drop k
   ·exact ih
  ·exact ih
def sy{x:Bl}{i:Int}{b:List UInt8}{p:List Dg}(h:dw x i b p=true):p.length≤10:=by
 unfold dw at h
 split at h
 ·cases h
 ·rw[Bool.and_eq_true]at h
  have:=h.2
  unfold kG at this
  rw[decide_eq_true_iff]at this
  rw[this.2.1]
  exact rh _ _
def OS{y:Tk}(h:dF y.ws y.n (i:Int)=false):ld s (y.c,ls) i=(y.c,ls):=by
 unfold ld
 exact if_neg (show ¬dF y.ws y.n (i:Int)=true by rw[h];simp)
def Hv{y:Tk}(h:dF y.ws y.n (i:Int)=true)(h2:(eu s y.x (i:Int)).2≠0∨dw y.x i (eu s y.x (i:Int)).1 ((y.pf i).getD [])=false):ld s (y.c,ls) i=(y.c.drop i,ls):=by
 unfold ld
 exact(if_pos (show dF y.ws y.n (i:Int)=true from h)).trans (if_pos h2)
def Hu{y:Tk}(h:dF y.ws y.n (i:Int)=true)(h2:¬((eu s y.x (i:Int)).2≠0∨dw y.x i (eu s y.x (i:Int)).1 ((y.pf i).getD [])=false)):ld s (y.c,ls) i=(y.c,ls++[bL y.x.d i ((y.pf i).getD [])]):=by
 unfold ld
 exact(if_pos (show dF y.ws y.n (i:Int)=true from h)).trans (if_neg h2)
attribute [local irreducible] J K aE Ends ae az aQ bP bj aT aU bp bW aD cB
def OR(X:HP)(hK:oD X)(tb bs jb bd:Nat)(tv:Value)(br:Bool)(q:Int)(mb:Nat)(s:SJ)(hRd:∀nm at_ n,(s.1.A.read nm at_ n).1.length≤1048576)(y0:Tk)(kQ:kJ y0.c)(iY:0≤y0.x.size∧y0.x.size≤1000000000000)(Xf:0≤y0.x.piece∧y0.x.piece≤1000000000000) :
  aE Tryz.prog 66 [ptr tb,ptr y0.yb] [ae tb (cl [ptr bs,ptr jb,tv,.bool br] 73),oA y0,cB bs bd jb q mb [] s,X]
  (fun r H=>∃(y:Tk) (Z:HP),y.yb=y0.yb∧y.c=(ke s.1 y0.c).1∧qv Z r (ke s.1 y0.c).2∧H=[ae tb (cl [ptr bs,ptr jb,tv,.bool br] 73),oA y,cB bs bd jb q mb [] s,X,Z]):=by
 have sW:=rV y0.x iY Xf
 unfold eS at sW
 have RA:y0.n≤1024:=kQ.1
 refine aE.au Tryz.func66 Tryz.ntmps66 fun G F R hE=>?_
 refine ai (ao.pick [1] rfl) ?_
 refine er (gf y0) ?_
 rintro⟨wv,cs,N⟩ SM
 refine ai (H':=ae y0.yb (cl (ly y0) 79)::ae y0.sb (cl [.int .i64 (y0.n:Int),wv] 138)::az 134 1 wv y0.ws.length (qV y0.ws)::aQ (Value.int .i64) y0.mb cs::aU 36 N::ae tb (cl [ptr bs,ptr jb,tv,.bool br] 73)::cB bs bd jb q mb [] s::X::F) (by unfold mP;exact ah) ?_
 refine go ?_
 refine dB (cs:=bJ y0.x) 0 zr zr zr zr zr zr ?_
 refine aF sW ?_
 rintro r _ rfl
 refine aN 0 rfl ?_
 rintro a8 c8 rfl
 refine gM (bs:=bT y0.x) 0 rfl ?_
 intro Js
 refine go ?_
 refine aj (cs:=[.slice a8 (bT y0.x).length c8]) zr zr zr zr zr zr zr zr zr bD ?_
 intro row
 refine aI (H':=ae y0.yb (cl (ly y0) 79)::ae y0.sb (cl [.int .i64 (y0.n:Int),wv] 138)::az 134 1 wv y0.ws.length (qV y0.ws)::aQ (Value.int .i64) y0.mb cs::aU 36 N::ae row (cl [.slice a8 (bT y0.x).length c8] 39)::az 5 1 (.slice a8 (bT y0.x).length c8) (bT y0.x).length (bV (bT y0.x))::ae tb (cl [ptr bs,ptr jb,tv,.bool br] 73)::cB bs bd jb q mb [] s::X::F) ah (go ?_)
 refine aO (lp y0.sb y0.n wv) ?_
 refine go ?_
 refine ai (ao.trans (H2:=mP y0 (wv,cs,N)++(ae row (cl [.slice a8 (bT y0.x).length c8] 39)::az 5 1 (.slice a8 (bT y0.x).length c8) (bT y0.x).length (bV (bT y0.x))::ae tb (cl [ptr bs,ptr jb,tv,.bool br] 73)::cB bs bd jb q mb [] s::X::F)) (by unfold mP;exact ah) (iX SM _)) ?_
 refine ai (H':=ae row (cl [.slice a8 (bT y0.x).length c8] 39)::az 5 1 (.slice a8 (bT y0.x).length c8) (bT y0.x).length (bV (bT y0.x))::oA y0::ae tb (cl [ptr bs,ptr jb,tv,.bool br] 73)::cB bs bd jb q mb [] s::X::F) ah ?_
 refine ai (dR 39 1 row 1 1 [.slice a8 (bT y0.x).length c8] [] _ rfl (Nat.le_refl _) (by simp)) ?_
 refine bz (fun z:Nat × Tk × Y8 × Option Addr × Nat=>z.1≤y0.n∧z.2.1.yb=y0.yb∧z.2.1.c=(iI s.1 y0.c z.1).1∧CO z.2.2.1 (iI s.1 y0.c z.1).2∧z.2.2.1.cs.length≤z.1+1) (fun z=>y0.n-z.1)
  (fun z=>[(0,ptr tb),(1,ptr y0.yb),(5,.slice z.2.2.2.1 z.2.2.1.cs.length z.2.2.2.2),(19,.int .i64 (y0.n:Int)),(20,.int .i64 (z.1:Int))])
  (fun z=>az 39 1 (.slice z.2.2.2.1 z.2.2.1.cs.length z.2.2.2.2) z.2.2.1.cs.length z.2.2.1.cs::z.2.2.1.Z::oA z.2.1::ae tb (cl [ptr bs,ptr jb,tv,.bool br] 73)::cB bs bd jb q mb [] s::X::F) (0,y0,⟨[.slice a8 (bT y0.x).length c8],az 5 1 (.slice a8 (bT y0.x).length c8) (bT y0.x).length (bV (bT y0.x))⟩,some ⟨row,0,none⟩,1) ⟨Nat.zero_le _,rfl,rfl,?_,by simp⟩ rfl cm ah ?_
 ·refine⟨rfl,fun j x hx=>?_⟩
  match j,hx with
  | 0,hx=>cases hx;exact⟨_,rfl,Js⟩
  | j+1,hx=>cases hx
 clear SM Js cs N wv
 rintro⟨i,y,M,oa,oc⟩⟨hi,Da,Jd,hM,hMl⟩ ih
 simp only at hi Da Jd hM hMl
 dsimp only
 refine go ?_
 refine aq zr zr ?_ ?_
 ·intro cW
  have gh:i<y0.n:=by omega
  obtain⟨ls,Jo⟩:∃ls,ls=(iI s.1 y0.c i).2:=⟨_,rfl⟩
  have S4:iI s.1 y0.c i=(y.c,ls):=by rw[Jd,Jo]
  have lF:=mj s.1 y0.c i
  rw[S4]at lF
  rw[← Jo]at hM
  have aa2:kJ y.c:=by rw[Jd];exact kQ.hold i
  have hxx:=Jm s.1 y0.c i
  rw[← Jd]at hxx
  have Gg:y.n=y0.n:=hxx.2.1
  have aaJ:y.n≤65536:=Nat.le_trans aa2.1 ag
  have Ev:y.n≤y.ws.length*64:=aa2.2.1
  have u7:=uC y.sb y.n
  rw[← Da]
  refine ai (ao.pick [2] rfl) ?_
  refine er (gf y) ?_
  rintro⟨wv,cs,N⟩ hz
  have jj:∀H,ao (ae y.yb (cl (ly y) 79)::ae y.sb (cl [.int .i64 (y.n:Int),wv] 138)::az 134 1 wv y.ws.length (qV y.ws)::aQ (Value.int .i64) y.mb cs::aU 36 N::H) (oA y::H):=fun H=>ao.trans (H2:=mP y (wv,cs,N)++H) (by unfold mP;exact ah) (iX hz _)
  have u7:=uC y.sb y.n wv y.ws aaJ Ev (i:Int)
  unfold eT at u7
  refine ai (H':=ae y.yb (cl (ly y) 79)::ae y.sb (cl [.int .i64 (y.n:Int),wv] 138)::az 134 1 wv y.ws.length (qV y.ws)::aQ (Value.int .i64) y.mb cs::aU 36 N::az 39 1 (.slice oa M.cs.length oc) M.cs.length M.cs::M.Z::ae tb (cl [ptr bs,ptr jb,tv,.bool br] 73)::cB bs bd jb q mb [] s::X::F) (by unfold mP;exact ah) ?_
  refine go ?_
  refine aO u7 ?_
  cases Td:dF y.ws y.n (i:Int)with
  | false =>
   have sC:iI s.1 y0.c (i+1)=(y.c,ls):=by rw[lF,OS Td]
   refine go ?_
   refine bu 1 ((ptr y0.yb)) rfl ((by rw[Da])) ?_
   refine ai (ao.trans ah (jj (az 39 1 (.slice oa M.cs.length oc) M.cs.length M.cs::M.Z::ae tb (cl [ptr bs,ptr jb,tv,.bool br] 73)::cB bs bd jb q mb [] s::X::F))) ?_
   refine aM ih (i+1,y,M,oa,oc) rfl ⟨by simp only;omega,Da,by rw[sC],by rw[sC];exact hM,by simp only;omega⟩ (by simp only;omega) cm ah
  | true =>
  have hsg:=Ic bs bd q mb s.1 y.x (i:Int)
  unfold eS at hsg
  obtain⟨bb,Jr⟩:∃b,b=(eu s.1 y.x (i:Int)).1:=⟨_,rfl⟩
  obtain⟨ee,YV⟩:∃e,e=(eu s.1 y.x (i:Int)).2:=⟨_,rfl⟩
  have jO:bb.length≤1048576:=by
   rw[Jr]
   unfold eu
   split
   ·split
    ·simp
    ·exact hRd _ _ _
   ·simp
  have Qy:(ee≠0∨dw y.x i bb ((y.pf i).getD [])=false)→iI s.1 y0.c (i+1)=(y.c.drop i,ls):=fun h=>by
   rw[YV,Jr]at h
   rw[lF,Hv Td h]
  have W9:¬(ee≠0∨dw y.x i bb ((y.pf i).getD [])=false)→iI s.1 y0.c (i+1)=(y.c,ls++[bL y.x.d i ((y.pf i).getD [])]):=fun h=>by
   rw[YV,Jr]at h
   rw[lF,Hu Td h]
  rw[← Jr,← YV]at hsg
  clear u7 Jr YV lF S4 Jo
  obtain⟨pv,Rt,OP⟩:=hz.look (i:Int)
  simp only at Rt OP
  obtain⟨pa,pc,ac4,S0⟩:=OP.shape
  subst ac4
  refine go ?_
  refine ai (H':=cB bs bd jb q mb [] s::ae y.yb (cl (ly y) 79)::ae y.sb (cl [.int .i64 (y.n:Int),wv] 138)::az 134 1 wv y.ws.length (qV y.ws)::aQ (Value.int .i64) y.mb cs::aU 36 N::az 39 1 (.slice oa M.cs.length oc) M.cs.length M.cs::M.Z::ae tb (cl [ptr bs,ptr jb,tv,.bool br] 73)::X::F) ah ?_
  refine ai (Ig bs bd jb q mb s _) ?_
  refine ai (H':=ae tb (cl [ptr bs,ptr jb,tv,.bool br] 73)::ae y.yb (cl (ly y) 79)::ae y.sb (cl [.int .i64 (y.n:Int),wv] 138)::az 134 1 wv y.ws.length (qV y.ws)::aQ (Value.int .i64) y.mb cs::aU 36 N::(cC bs bd q mb s.1++(rq jb bd cS s.2::az 39 1 (.slice oa M.cs.length oc) M.cs.length M.cs::M.Z::X::F))) ah ?_
  refine aH (fun w=>Sat G w ([ae tb (cl [ptr bs,ptr jb,tv,.bool br] 73),ae y.yb (cl (ly y) 79)])) (df 0 9 (.act 9 (df 10 5 .nil))) rfl ak ak ak eo ?_
  refine go ?_
  refine cD (U:=aS) (cs:=bJ y.x) 1 zr zr zr zr zr zr (go ?_)
  ((refine fq zr zr zr zr (hsg) ah ?_ (fun _ _ w hp hw=>by obtain⟨_,rfl,rfl⟩:=hp;exact hw.cN ah)))
  rintro _ _⟨rv,rfl,rfl⟩
  refine aN 0 rfl ?_
  rintro ra rc rfl
  refine pz ?_
  refine iN rfl ?_
  refine ai (ao.trans ah (zp bs bd jb q mb s (az 5 1 (.slice ra bb.length rc) bb.length (bV bb)::ae y.yb (cl (ly y) 79)::ae y.sb (cl [.int .i64 (y.n:Int),wv] 138)::az 134 1 wv y.ws.length (qV y.ws)::aQ (Value.int .i64) y.mb cs::aU 36 N::az 39 1 (.slice oa M.cs.length oc) M.cs.length M.cs::M.Z::ae tb (cl [ptr bs,ptr jb,tv,.bool br] 73)::X::F))) ?_
  refine qx (bs:=bb) 1 rfl ?_
  intro adU
  obtain⟨pf,hpf⟩:∃l,l=(y.pf (i:Int)).getD []:=⟨_,rfl⟩
  rw[← hpf]at Rt OP S0 Qy W9
  have QB:=yi (Sep [X,az 5 1 (.slice ra bb.length rc) bb.length (bV bb),aU 36 N]) (hK.mono (bh (H:=[X,az 5 1 (.slice ra bb.length rc) bb.length (bV bb),aU 36 N]) (i:=0) rfl)) y.x (i:Int) (.slice ra bb.length rc) bb (adU.mono (bh (i:=1) rfl)) ag (.slice pa pf.length pc) pf ⟨(OP.view _).mono (bh (i:=2) rfl),pa,pc,rfl,S0⟩
  unfold eS at QB
  have YW:=Kh y i ag aaJ Ev
  refine ai (H':=X::az 5 1 (.slice ra bb.length rc) bb.length (bV bb)::aU 36 N::ae y.yb (cl (ly y) 79)::aQ (Value.int .i64) y.mb cs::ae y.sb (cl [.int .i64 (y.n:Int),wv] 138)::az 134 1 wv y.ws.length (qV y.ws)::az 39 1 (.slice oa M.cs.length oc) M.cs.length M.cs::M.Z::ae tb (cl [ptr bs,ptr jb,tv,.bool br] 73)::cB bs bd jb q mb [] s::F) ah ?_
  refine ai (ao.bS [X,az 5 1 (.slice ra bb.length rc) bb.length (bV bb),aU 36 N] _) ?_
  refine ai (H':=ae y.yb (cl (ly y) 79)::aQ (Value.int .i64) y.mb cs::Sep [X,az 5 1 (.slice ra bb.length rc) bb.length (bV bb),aU 36 N]::ae y.sb (cl [.int .i64 (y.n:Int),wv] 138)::az 134 1 wv y.ws.length (qV y.ws)::az 39 1 (.slice oa M.cs.length oc) M.cs.length M.cs::M.Z::ae tb (cl [ptr bs,ptr jb,tv,.bool br] 73)::cB bs bd jb q mb [] s::F) ah ?_
  have k9:∀H,ao (Sep [X,az 5 1 (.slice ra bb.length rc) bb.length (bV bb),aU 36 N]::ae y.yb (cl (ly y) 79)::aQ (Value.int .i64) y.mb cs::ae y.sb (cl [.int .i64 (y.n:Int),wv] 138)::az 134 1 wv y.ws.length (qV y.ws)::H) (ae y.yb (cl (ly y) 79)::ae y.sb (cl [.int .i64 (y.n:Int),wv] 138)::az 134 1 wv y.ws.length (qV y.ws)::aQ (Value.int .i64) y.mb cs::aU 36 N::X::H):=fun H=>(ao.cJ [X,az 5 1 (.slice ra bb.length rc) bb.length (bV bb),aU 36 N] _).trans ah
  refine aH (fun w=>Sat G w ([ae y.yb (cl (ly y) 79),aQ (Value.int .i64) y.mb cs])) (df 0 15 (.act 15 (.st 16 (.st 17 .nil)))) rfl ak ak ak eo ?_
  refine go ?_
  by_cases he:ee=0
  case neg =>
   have sC:=Qy (.inl he)
   refine aB 45 ((.bool true)) rfl ((congrArg Value.bool (decide_eq_true ag))) (go ?_)
   refine aI (ao.trans ah (k9 (az 39 1 (.slice oa M.cs.length oc) M.cs.length M.cs::M.Z::ae tb (cl [ptr bs,ptr jb,tv,.bool br] 73)::cB bs bd jb q mb [] s::F))) ?_
   refine aI (jj _) (go ?_)
   refine aO YW ?_
   refine go ?_
   refine bu 1 ((ptr y0.yb)) rfl ((by rw[Da])) ?_
   refine aM ih (i+1,y.drop i,M,oa,oc) rfl ⟨by simp only;omega,Da,by rw[sC];rfl,by rw[sC];exact hM,by simp only;omega⟩ (by simp only;omega) cm ah
  refine aB 45 ((.bool false)) rfl ((congrArg Value.bool (decide_eq_false ag))) (go ?_)
  refine cD (U:=aS) (cs:=bJ y.x) 0 zr zr zr zr zr zr (go ?_)
  refine Bw (U:=aS) (kv:=Value.int .i64) (es:=cs) (key:=(i:Int)) rfl (Cc Tryz.underlying3) zr zr zr zr zr zr zr (fun w hw=>hw.o5 (i:=1) rfl) ?_
  refine aB 57 ((.slice pa pf.length pc)) rfl (Rt) (go ?_)
  refine bC QB ?_
  cases La:dw y.x i bb pf with
  | false =>
   have sC:=Qy (.inr La)
   refine go ?_
   refine aI (ao.trans ah (k9 (az 39 1 (.slice oa M.cs.length oc) M.cs.length M.cs::M.Z::ae tb (cl [ptr bs,ptr jb,tv,.bool br] 73)::cB bs bd jb q mb [] s::F))) ?_
   refine aI (jj _) (go ?_)
   refine aO YW ?_
   refine go ?_
   refine bu 1 ((ptr y0.yb)) rfl ((by rw[Da])) ?_
   refine aM ih (i+1,y.drop i,M,oa,oc) rfl ⟨by simp only;omega,Da,by rw[sC];rfl,by rw[sC];exact hM,by simp only;omega⟩ (by simp only;omega) cm ah
  | true =>
  have sC:=W9 (fun h=>by rcases h with h|h;exact h he;rw[La]at h;cases h)
  have qX:=sy La
  have Gh:=AL y.x.d i ag (aU 36 N) (.slice pa pf.length pc) pf (OP.view _) ag
  unfold dV at Gh
  refine go ?_
  refine ai (ao.trans ah (k9 (az 39 1 (.slice oa M.cs.length oc) M.cs.length M.cs::M.Z::ae tb (cl [ptr bs,ptr jb,tv,.bool br] 73)::cB bs bd jb q mb [] s::F))) ?_
  refine ai (H':=ae y.yb (cl (ly y) 79)::aQ (Value.int .i64) y.mb cs::aU 36 N::az 39 1 (.slice oa M.cs.length oc) M.cs.length M.cs::ae y.sb (cl [.int .i64 (y.n:Int),wv] 138)::az 134 1 wv y.ws.length (qV y.ws)::M.Z::ae tb (cl [ptr bs,ptr jb,tv,.bool br] 73)::cB bs bd jb q mb [] s::X::F) ah ?_
  refine aH (fun w=>Sat G w ([ae y.yb (cl (ly y) 79),aQ (Value.int .i64) y.mb cs])) (df 0 13 (.act 13 (.act 14 (.act 15 (.st 16 .nil))))) rfl ak ak ak eo ?_
  refine go ?_
  refine cD (U:=aS) (cs:=dC y.x.d) 0 zr zr zr zr zr zr (go ?_)
  refine Bw (U:=aS) (kv:=Value.int .i64) (es:=cs) (key:=(i:Int)) rfl (Cc Tryz.underlying3) zr zr zr zr zr zr zr (fun w hw=>hw.o5 (i:=1) rfl) ?_
  refine aB 76 ((.slice pa pf.length pc)) rfl (Rt) (go ?_)
  refine dD Gh ?_
  rintro r9 _ rfl
  refine aN 0 rfl ?_
  rintro a9 c9 rfl
  refine gM (bs:=bL y.x.d i pf) 0 rfl ?_
  intro MV
  refine go ?_
  refine aj (cs:=[.slice a9 (bL y.x.d i pf).length c9]) zr zr zr zr zr zr zr zr zr (fun _ w hw=>hw.cN ah) ?_
  intro QV
  refine aI (H':=ae QV (cl [.slice a9 (bL y.x.d i pf).length c9] 39)::az 39 1 (.slice oa M.cs.length oc) M.cs.length M.cs::az 5 1 (.slice a9 (bL y.x.d i pf).length c9) (bL y.x.d i pf).length (bV (bL y.x.d i pf))::M.Z::ae y.yb (cl (ly y) 79)::ae y.sb (cl [.int .i64 (y.n:Int),wv] 138)::az 134 1 wv y.ws.length (qV y.ws)::aQ (Value.int .i64) y.mb cs::aU 36 N::ae tb (cl [ptr bs,ptr jb,tv,.bool br] 73)::cB bs bd jb q mb [] s::X::F) ah (go ?_)
  refine aR (mm:=1) (news:=[.slice a9 (bL y.x.d i pf).length c9]) 1 0 rfl rfl rfl rfl rfl rfl rfl rfl rfl rfl rfl rfl (Vw.ae rfl) rfl (by intro v hv;simp at hv;rw[hv];rfl) ag (by show(_+_)*24≤_;omega) (fun _=>rfl) (fun _ w hw=>hw.cN ah) ?_
  intro v1
  refine aN 1 rfl ?_
  rintro ja jc rfl
  refine go ?_
  have yK:=hM.add MV
  have XN:(M.cs++[Value.slice a9 (bL y.x.d i pf).length c9]).length=M.cs.length+1:=by simp
  refine ai (H':=az 5 1 (.slice a9 (bL y.x.d i pf).length c9) (bL y.x.d i pf).length (bV (bL y.x.d i pf))::M.Z::ae y.yb (cl (ly y) 79)::ae y.sb (cl [.int .i64 (y.n:Int),wv] 138)::az 134 1 wv y.ws.length (qV y.ws)::aQ (Value.int .i64) y.mb cs::aU 36 N::az 39 1 (.slice ja (M.cs++[Value.slice a9 (bL y.x.d i pf).length c9]).length jc) (M.cs++[Value.slice a9 (bL y.x.d i pf).length c9]).length (M.cs++[Value.slice a9 (bL y.x.d i pf).length c9])::ae tb (cl [ptr bs,ptr jb,tv,.bool br] 73)::cB bs bd jb q mb [] s::X::F) (by rw[XN];exact ah) ?_
  refine ai (ao.bS [az 5 1 (.slice a9 (bL y.x.d i pf).length c9) (bL y.x.d i pf).length (bV (bL y.x.d i pf)),M.Z] _) ?_
  refine ai (ao.trans ah (jj (Sep [az 5 1 (.slice a9 (bL y.x.d i pf).length c9) (bL y.x.d i pf).length (bV (bL y.x.d i pf)),M.Z]::az 39 1 (.slice ja (M.cs++[Value.slice a9 (bL y.x.d i pf).length c9]).length jc) (M.cs++[Value.slice a9 (bL y.x.d i pf).length c9]).length (M.cs++[Value.slice a9 (bL y.x.d i pf).length c9])::ae tb (cl [ptr bs,ptr jb,tv,.bool br] 73)::cB bs bd jb q mb [] s::X::F))) ?_
  refine bu 1 ((ptr y0.yb)) rfl ((by rw[Da])) ?_
  refine bu 5 ((.slice ja (M.cs++[Value.slice a9 (bL y.x.d i pf).length c9]).length jc)) rfl ((by rw[XN])) ?_
  refine aM ih (i+1,y,⟨M.cs++[Value.slice a9 (bL y.x.d i pf).length c9],Sep [az 5 1 (.slice a9 (bL y.x.d i pf).length c9) (bL y.x.d i pf).length (bV (bL y.x.d i pf)),M.Z]⟩,ja,jc) rfl ⟨by simp only;omega,Da,by rw[sC],by rw[sC];exact yK,by simp only[XN];omega⟩ (by simp only;omega) cm ah
 ·intro fg
  have rB:i=y0.n:=by omega
  subst rB
  clear ih
  rw[show iI s.1 y0.c y0.n=ke s.1 y0.c from rfl]at Jd hM
  refine mJ 0 rfl ?_
  intro jx
  refine cV 0 rfl ?_
  intro OF
  have AY:=hM.1
  have mW:qv (Sep [az 39 1 (.slice oa M.cs.length oc) M.cs.length M.cs,M.Z]) (.slice oa M.cs.length oc) (ke s.1 y0.c).2:=by
   rw[AY]at OF jx ⊢
   exact qv.ofP OF jx AY hM.2
  refine ai (ao.bS [az 39 1 (.slice oa M.cs.length oc) M.cs.length M.cs,M.Z] _) (go ?_)
  refine ai (H':=ae tb (cl [ptr bs,ptr jb,tv,.bool br] 73)::oA y::cB bs bd jb q mb [] s::X::Sep [az 39 1 (.slice oa M.cs.length oc) M.cs.length M.cs,M.Z]::F) ah ?_
  refine ad hE Tryz.func66 zr zr ⟨y,_,Da,Jd,mW,rfl⟩
end Go.Proofs.YtdigdgohdpeebaaGreatDoor
namespace Go.Proofs.YtdigdgohdpeebaaGreatDoor
open Go Go.SL
def MX(c:TC):Prop:=kJ c∧bF c.x=true
def kJ.fresh(x:Bl):kJ (de x):=by
 have h:=oe x
 unfold kJ de
 simp only[List.length_replicate]
 exact⟨ag,ag,ag,fun k l h=>by cases h⟩
def kJ.put{c:TC}(h:kJ c)(i:Nat){l:List Dg}(hl:l.length≤10):kJ (c.put i l):=⟨h.1,by unfold TC.put;simp only[iH];exact h.2.1,by unfold TC.put;simp only[iH];exact h.2.2.1,fun k l' hk=>by
  unfold TC.put at hk
  simp only at hk
  split at hk
  · injection hk with hk;rw[← hk];exact hl
  · exact h.2.2.2 k l' hk⟩
def nM{cs:List TC}(h:∀c∈cs,MX c)(d:Dg)(m:List UInt8)(l:List (List UInt8)):(∀c∈mg cs d m l,MX c)∧(mg cs d m l).length=cs.length:=by
 unfold mg
 split
 ·refine⟨fun c hc=>?_,by simp⟩
  obtain⟨y,hy,rfl⟩:=List.mem_map.1 hc
  split
  ·rename_i hh
   exact⟨(h y hy).1.put _ (by rw[hh.2.2];exact rh _ _),(h y hy).2⟩
  ·exact h y hy
 ·exact⟨h,rfl⟩
def WJ{cs:List TC}(h:∀c∈cs,MX c)(d:Dg):(∀c∈DN cs d,MX c)∧(DN cs d).length≤cs.length:=⟨fun c hc=>h c (List.mem_filter.1 hc).1,List.length_filter_le _ _⟩
def Nj{cs:List TC}(h:∀c∈cs,MX c)(b:List UInt8):(∀c∈dk cs b,MX c)∧(dk cs b).length≤cs.length+1:=by
 unfold dk
 split
 ·exact⟨h,ag⟩
 ·rename_i k d more _
  have hr:=WJ h d
  split
  ·exact⟨hr.1,ag⟩
  ·split
   ·split
    ·split
     ·rename_i s p r _ _ _
      split
      ·rename_i Rs
       refine⟨fun c hc=>?_,by rw[List.length_append];simp;omega⟩
       rcases List.mem_append.1 hc with hc|hc
       ·exact hr.1 c hc
       ·rw[List.mem_singleton.1 hc];exact⟨kJ.fresh _,Rs⟩
      ·exact⟨h,ag⟩
     ·exact⟨h,ag⟩
    ·split
     ·have:=nM h d ‹_› [‹_›,‹_›]
      exact⟨(nM h d _ _).1,by rw[(nM h d _ _).2];omega⟩
     ·exact⟨h,ag⟩
   ·split
    ·exact⟨(nM h d _ _).1,by rw[(nM h d _ _).2];omega⟩
    ·exact⟨h,ag⟩
   ·exact⟨h,ag⟩
def II:∀(ls:List (List UInt8)) (cs:List TC),(∀c∈cs,MX c)→(∀c∈ls.foldl dk cs,MX c)∧(ls.foldl dk cs).length≤cs.length+ls.length
 | [],cs,h=>⟨h,by simp⟩
 | b::ls,cs,h=>by
  obtain⟨h1,h2⟩:=Nj h b
  obtain⟨h3,h4⟩:=II ls (dk cs b) h1
  exact⟨h3,by simp only[List.foldl_cons,List.length_cons];omega⟩
def pL(ls:List (List UInt8)):(∀c∈ls.foldl dk [],MX c)∧(ls.foldl dk []).length≤ls.length:=by
 have:=II ls [] (fun c h=>by cases h)
 exact⟨this.1,by simpa using this.2⟩
def ID{q:Int}{x:Bl}{s t:e8}{e:Nat}(h:dU q x s e t):t.bq=s.bq∨t.bq=s.bq++[(x.d,x)]:=by
 unfold dU at h
 split at h
 ·exact .inl (by rw[h.2])
 split at h
 ·exact .inl (by rw[h.2])
 split at h
 ·exact .inl (by rw[h.2])
 split at h
 ·exact .inl (by rw[h.2])
 split at h
 ·exact .inr (by rw[h.2])
 ·obtain⟨e1,s1,⟨B,_,rfl⟩,h2⟩:=h
  rcases h2 with⟨_,_,rfl⟩|⟨_,_,rfl⟩
  ·exact .inl rfl
  ·exact .inr rfl
def eL{x:Bl}(h:bF x=true):1≤x.size∧x.size≤1048576∧16≤x.piece∧x.piece≤16384:=by
 simp only[bF,decide_eq_true_eq]at h
 omega
def pt.begin{q:Int}{x:Bl}{s t:e8}{e:Nat}(h:pt s.bq)(hl:s.bq.length<1000000)(hr:bF x=true)(hR:dU q x s e t):pt t.bq∧t.bq.length≤s.bq.length+1:=by
 rcases ID hR with h1|h1
 ·rw[h1];exact⟨h,ag⟩
 ·rw[h1]
  have:=eL hr
  refine⟨⟨fun y hy=>?_,by simp;omega⟩,by simp⟩
  rcases List.mem_append.1 hy with hy|hy
  ·exact h.1 y hy
  ·rw[List.mem_singleton.1 hy];exact⟨by simp only;omega,by simp only;omega⟩
def vH:∀(ss:List (PS→Nat→PS→Prop)),(∀sp∈ss,∀x e y,sp x e y→j5 x.1 y.1)→∀(x:PS) (e:Nat) (y:PS),iA ss x e y→y.1.aw.length≤x.1.aw.length+ss.length∧y.1.writes.length≤x.1.writes.length+ss.length
 | [],_,x,e,y,h=>by obtain⟨_,rfl⟩:=h;simp
 | sp::ss,hs,x,e,y,⟨e1,x1,h1,h2⟩=>by
  have hg:=hs sp (List.mem_cons_self ..) x e1 x1 h1
  unfold j5 at hg
  rcases h2 with⟨_,_,rfl⟩|⟨_,h2⟩
  ·simp only[List.length_cons];omega
  ·have:=vH ss (fun sp h=>hs sp (List.mem_cons_of_mem _ h)) x1 e y h2
   simp only[List.length_cons];omega
def vu{nm:ByteArray}{ls:List (List UInt8)}{x y:PS}{e:Nat}(h:Ag nm ls x e y):y.1.aw.length≤x.1.aw.length+7∧y.1.writes.length≤x.1.writes.length+7:=by
 have hg:=vH (gF nm ls x.1) (fun sp iQ x e y hS=>by
  unfold gF at iQ
  have key:sp=BS (bM nm)∨sp∈[BT (bM nm),GL (bM nm) (cf ls),Nu (bM nm),BR (bM nm) nm,GM,WH (ls.flatMap aZ).length]:=by
   rcases List.mem_append.1 iQ with iQ|iQ
   ·split at iQ
    ·exact .inl (List.mem_singleton.1 iQ)
    ·cases iQ
   ·exact .inr iQ
  simp only[List.mem_cons,List.not_mem_nil,or_false]at key
  rcases key with rfl|rfl|rfl|rfl|rfl|rfl|rfl
  ·obtain⟨⟨h1,h2⟩,_⟩:=hS;rw[h2];exact ql _ _ _
  ·obtain⟨⟨f,_,h1,h2⟩,_⟩:=hS;rw[h2];exact qm _ _ _ _
  ·obtain⟨⟨h1,h2⟩,_⟩:=hS;rw[h2];exact kA _ _ _ _ _
  ·obtain⟨⟨h1,h2⟩,_⟩:=hS;rw[h2];exact kC _ _ _
  ·obtain⟨⟨h1,h2⟩,_⟩:=hS;rw[h2];exact qk _ _ _ _
  ·obtain⟨⟨h1,h2⟩,_⟩:=hS;rw[h2];exact jX _
  ·obtain⟨h1,h2⟩:=hS;rw[h2];exact⟨by simp,by simp⟩) x e y h
 have hl:(gF nm ls x.1).length≤7:=by
  unfold gF
  split <;> simp
 omega
def sL{A A':Ab}{nm:ByteArray}{e:Nat}{j:JN}(h:ot A nm e A' j):A'.aw.length≤A.aw.length+7∧A'.writes.length≤A.writes.length+7:=by
 unfold ot at h
 split at h
 ·rw[h.2];omega
 split at h
 ·rw[h.2];omega
 obtain⟨y,hy,rfl,_⟩:=h
 exact vu hy
def Lc(s:e8)(z:TC × List (List UInt8))(hz:kJ z.1)(i:Nat)(hi:i≤1000000000000):(∀x∈(ld s z i).2,x∈z.2∨x.length≤760)∧(ld s z i).2.length≤z.2.length+1:=by
 unfold ld
 split
 ·split
  ·exact⟨fun x hx => .inl hx,by simp only;omega⟩
  ·rename_i jN
   refine⟨fun x hx=>?_,by simp⟩
   rcases List.mem_append.1 hx with hx|hx
   ·exact .inl hx
   ·right
    rw[List.mem_singleton.1 hx]
    have qX:((z.1.pf i).getD []).length≤10:=by
     cases hp:z.1.pf i with
     | none=>simp
     | some l=>exact hz.2.2.2 _ l hp
    have:=hD 2 z.1.x.d (eF i ((z.1.pf i).getD [])) (by simp[eF];omega) (kr i hi _)
    unfold bL
    unfold eF at this
    omega
 ·exact⟨fun x hx => .inl hx,ag⟩
def AX(s:e8)(c:TC)(hc:kJ c)(hr:bF c.x=true):∀k,k≤1024→(∀x∈(iI s c k).2,x.length≤760)∧(iI s c k).2.length≤k+1
 | 0,_=>by
  refine⟨fun x hx=>?_,by simp[iI]⟩
  have:x=bT c.x:=by simpa[iI]using hx
  rw[this]
  have hb:=eL hr
  have:=hD 1 c.x.d (gZ c.x) (by simp[gZ]) (kH c.x ag ag)
  unfold bT
  omega
 | k+1,hk=>by
  obtain⟨h1,h2⟩:=AX s c hc hr k ag
  rw[mj]
  obtain⟨h3,h4⟩:=Lc s (iI s c k) (hc.hold k) k ag
  refine⟨fun x hx=>?_,ag⟩
  rcases h3 x hx with h|h
  ·exact h1 x h
  ·exact h
def Ld(s:e8)(c:TC)(h:MX c):(∀x∈(ke s c).2,x.length≤760)∧(ke s c).2.length≤1025:=by
 obtain⟨h1,h2⟩:=AX s c h.1 h.2 c.n h.1.1
 have:=h.1.1
 exact⟨h1,by unfold ke;omega⟩
def yN:∀(ls:List (List UInt8)) (n:Nat),(∀x∈ls,x.length≤760)→ls.length≤n→(ls.flatMap aZ).length≤770*n
 | [],n,_,_=>by simp
 | x::ls,n,h,hn=>by
  rw[List.length_cons]at hn
  have:=yN ls (n-1) (fun y hy=>h y (List.mem_cons_of_mem _ hy)) ag
  have h1:=h x (List.mem_cons_self ..)
  have h2:=n8 x ag
  rw[List.flatMap_cons,List.length_append]
  omega
def CO.ad5{M:Y8}{ls:List (List UInt8)}(h:CO M ls){A:HP}{cs:List Value}{ls2:List (List UInt8)}(hl:cs.length=ls2.length)(hx:∀(i:Nat) (x:List UInt8),ls2[i]?=some x→∃cv,cs[i]?=some cv∧eM A cv x):CO ⟨M.cs++cs,Sep [A,M.Z]⟩ (ls++ls2):=by
 obtain⟨h1,h2⟩:=h
 refine⟨by simp[h1,hl],fun i y hy=>?_⟩
 simp only
 rw[List.getElem?_append]at hy ⊢
 rw[h1]
 split at hy
 ·rename_i cW
  rw[if_pos cW]
  obtain⟨cv',h3,h4⟩:=h2 i y hy
  exact⟨cv',h3,h4.mono (bh (i:=1) rfl)⟩
 ·rename_i fg
  rw[if_neg fg]
  obtain⟨cv',h3,h4⟩:=hx _ y hy
  exact⟨cv',h3,h4.mono (bh (i:=0) rfl)⟩
attribute [local irreducible] J K aE Ends ae az aQ bP bj aT aU bp bW aD cB k7
def Mj(X:HP)(hK:oD X)(bs bd:Nat)(q:Int)(hq:0≤q∧q≤1073741824)(mb:Nat)(s:e8)(Pb:pt s.bq)(jO:s.bq.length≤900000)(cL:s.A.aw.length≤700000000)(eQ:s.A.writes.length≤700000000)(nX:(fe s.A cS).length≤900000)(XD:∀x∈fe s.A cS,x.length≤1000000)(tJ:((fe s.A cS).foldl dk []).length≤100) :
    aE Tryz.prog 19 [ptr bd,ptr bs] (cC bs bd q mb s++[X])
    (fun r H=>∃(e:Nat) (t:e8) (jn:JN) (cs:List TC),CU q s e t jn cs∧((e≠0∧r = .tuple #[.pointer none,.int .i64 (e:Int)]∧H=cC bs bd q mb t++[X])∨(e=0∧∃tb jb tv ts,gu ts=cs∧r = .tuple #[ptr tb,.int .i64 0]∧H=dL tb bs jb tv ts false++[cB bs bd jb q mb [] (t,jn),X]))):=by
  obtain⟨A,bq,brk⟩:=s
  have hop:=PZ bd cS A (by decide) (by simp only at cL;omega) (by simp only at eQ;omega)
  have hpn:cS=⟨#[112,105,101,99,101,115]⟩:=rfl
  rw[hpn]at hop
  simp only at Pb jO cL eQ nX tJ XD
  refine aE.au Tryz.func19 Tryz.ntmps19 fun G F R hE=>?_
  refine ai (H':=aD bd A::ae bs (cl (eA bd q mb brk) 113)::aQ dV mb (dx bq)::X::F) (by unfold cC;exact ah) ?_
  refine go ?_
  refine aF hop ?_
  rintro _ _⟨e1,A1,j1,hO,⟨Lo,rfl,rfl⟩|⟨rfl,jb,lv,rfl,rfl⟩⟩
  · rw[← hpn]at hO
    refine go ?_
    refine aq zr zr ?_ ?_
    case' refine_2=>(intro h;exfalso;omega)
    intro _
    refine go ?_
    refine ai (H':=cC bs bd q mb ⟨A1,bq,brk⟩++(X::F)) (by unfold cC;exact ah) ?_
    ((refine ad hE Tryz.func19 zr zr ⟨e1,⟨A1,bq,brk⟩,j1,[],⟨e1,A1,j1,hO,by rw[if_pos Lo];exact⟨rfl,rfl⟩⟩,.inl ⟨Lo,rfl,rfl⟩⟩))
  rw[← hpn]at hO
  have hog:=sL hO
  obtain⟨ls,Jo⟩:∃ls,ls=fe A cS:=⟨_,rfl⟩
  rw[← hpn,← Jo]
  rw[← Jo]at nX XD tJ
  refine pz ?_
  refine iN rfl ?_
  refine ai (H':=k7 lv ls::aD bd A1::rq jb bd cS j1::ae bs (cl (eA bd q mb brk) 113)::aQ dV mb (dx bq)::X::F) (by rw[hpn];exact ah) ?_
  refine er (Hh lv ls) ?_
  rintro⟨cs,M⟩ hRR
  refine TB 0 hRR rfl ?_
  intro mW
  obtain⟨Z,hZ⟩:∃Z,Z=Sep [az 39 1 lv ls.length cs,aU 5 M]:=⟨_,rfl⟩
  refine ai (ao.bS [az 39 1 lv ls.length cs,aU 5 M] _) ?_
  rw[← hZ]at mW ⊢
  clear hZ hRR M cs
  obtain⟨cs,dM,lH,⟨la,lc,rfl,hlc⟩,py⟩:=mW
  refine go ?_
  refine bG zr zr bD ?_
  intro tb
  refine go ?_
  refine ai (ao.trans (bO 75 1 none _) (IK _)) ?_
  refine bz (fun y:Nat × List Tk × Value=>y.1≤ls.length∧gu y.2.1=(ls.take y.1).foldl dk []∧y.2.1.length≤y.1) (fun y=>ls.length-y.1)
    (fun y=>[(0,ptr bd),(1,ptr bs),(6,ptr jb),(9,ptr tb),(37,.slice la ls.length lc),(38,.int .i64 (ls.length:Int)),(39,.int .i64 (y.1:Int))])
    (fun y=>Z::ae tb (cl [ptr bs,ptr jb,y.2.2,.bool false] 73)::az 75 1 y.2.2 y.2.1.length (y.2.1.map cg)::aW y.2.1::aD bd A1::rq jb bd cS j1::ae bs (cl (eA bd q mb brk) 113)::aQ dV mb (dx bq)::X::F) (0,[],.slice none 0 0) ⟨Nat.zero_le _,rfl,Nat.le_refl _⟩ rfl cm ah ?_
  rintro⟨i,ts,tv⟩⟨hi,zO,acR⟩ ih
  simp only at hi zO acR
  dsimp only
  refine go ?_
  refine aq zr zr ?_ ?_
  · intro cW
    have gh:i<ls.length:=by omega
    obtain⟨x,hx⟩:∃x,ls[i]?=some x:=⟨ls[i],by simp⟩
    obtain⟨cv,oC,uH⟩:=py i x hx
    have j8:ls.take (i+1)=ls.take i++[x]:=by rw[List.take_add_one,hx];rfl
    have kQ:∀y∈ts,kJ y.c:=fun y hy=>((pL (ls.take i)).1 y.c (by rw[← zO];exact List.mem_map.2 ⟨y,hy,rfl⟩)).1
    have SS:=Ni Z tb bs jb tv false ts cv x uH (by have:=XD x (List.mem_of_getElem? hx);omega) ag (fun y hy=>Nat.le_trans (kQ y hy).1 ag) (fun y hy=>(kQ y hy).2.1)
    unfold dL at SS
    obtain⟨bb,oo,cc,he⟩:=dM.some (by intro h;rw[h]at oC;cases oC)
    simp only[Value.slice.injEq,true_and]at he
    obtain⟨rfl,rfl⟩:=he
    obtain⟨xa,xc,rfl,_⟩:=uH.2
    refine go ?_
    refine bI i zr zr zr zr zr zr zr zr gh ?_
    refine aK ?_
    refine aX 0 i zr zr zr dM rfl oC zr zr (go ?_)
    refine aF SS ?_
    rintro _ _⟨rfl,ek,m5,adN,rfl⟩
    refine go ?_
    have abD:gu ek=(ls.take (i+1)).foldl dk []:=by rw[adN,zO,j8,List.foldl_append];rfl
    have rA:ek.length≤i+1:=by
      have:=(pL (ls.take (i+1))).2
      rw[← abD,tZ,List.length_take]at this
      omega
    refine aM ih (i+1,ek,m5) rfl ⟨by simp only;omega,abD,rA⟩ (by simp only;omega) cm ah
  intro fg
  have rB:i=ls.length:=by omega
  subst rB
  rw[List.take_length]at zO
  clear ih
  have htr:∀y∈ts,MX y.c:=fun y hy=>(pL ls).1 y.c (by rw[← zO];exact List.mem_map.2 ⟨y,hy,rfl⟩)
  have acS:ts.length≤100:=by rw[← tZ,zO];exact tJ
  refine ai (ao.pick [2] rfl) ?_
  refine dg 0 rfl ?_
  rintro ta tc rfl
  refine cV 0 rfl ?_
  intro hvt
  refine ai (H':=ae tb (cl [ptr bs,ptr jb,.slice ta ts.length tc,.bool false] 73)::az 75 1 (.slice ta ts.length tc) ts.length (ts.map cg)::aW ts::aD bd A1::rq jb bd cS j1::ae bs (cl (eA bd q mb brk) 113)::aQ dV mb (dx bq)::X::F) ah (go ?_)
  have adR:∀H,ao (H) (az 75 1 (.slice none 0 0) 0 []::aW []::az 39 1 (.slice none 0 0) 0 []::Sep []::H):=fun H=>ao.trans (ao.bS [] H) (ao.trans (bO 39 1 none _) (ao.trans (IK _) (bO 75 1 none _)))
  refine ai (H':=cC bs bd q mb ⟨A1,bq,brk⟩++(rq jb bd cS j1::aW ts::az 75 1 (.slice ta ts.length tc) ts.length (ts.map cg)::ae tb (cl [ptr bs,ptr jb,.slice none 0 0,.bool false] 73)::X::F)) (by unfold cC;exact ah) ?_
  refine ai (zp bs bd jb q mb (⟨A1,bq,brk⟩,j1) _) ?_
  refine ai (adR _) ?_
  refine bz (fun z:Nat × e8 × List Tk × Value × List (List UInt8) × Y8 × Option Addr × Nat=>z.1≤ts.length∧(∀e t cs rs,rW q (gu (ts.drop z.1)) z.2.1 (gu z.2.2.1) z.2.2.2.2.1 e t cs rs→rW q (gu ts) ⟨A1,bq,brk⟩ [] [] e t cs rs)∧(pt z.2.1.bq∧z.2.1.bq.length≤bq.length+z.1)∧(z.2.1.A.aw.length≤A1.aw.length+2*z.1∧z.2.1.A.writes.length≤A1.writes.length+2*z.1)∧z.2.2.1.length≤z.1∧CO z.2.2.2.2.2.1 z.2.2.2.2.1∧(∀x∈z.2.2.2.2.1,x.length≤760)∧z.2.2.2.2.1.length≤1025*z.1) (fun z=>ts.length-z.1)
    (fun z=>[(0,ptr bd),(1,ptr bs),(6,ptr jb),(9,ptr tb),(13,.slice z.2.2.2.2.2.2.1 z.2.2.2.2.2.1.cs.length z.2.2.2.2.2.2.2),(54,.slice ta ts.length tc),(55,.int .i64 (ts.length:Int)),(56,.int .i64 (z.1:Int))])
    (fun z=>az 75 1 z.2.2.2.1 z.2.2.1.length (z.2.2.1.map cg)::aW z.2.2.1::az 39 1 (.slice z.2.2.2.2.2.2.1 z.2.2.2.2.2.1.cs.length z.2.2.2.2.2.2.2) z.2.2.2.2.2.1.cs.length z.2.2.2.2.2.1.cs::z.2.2.2.2.2.1.Z::cB bs bd jb q mb [] (z.2.1,j1)::aW (ts.drop z.1)::az 75 1 (.slice ta ts.length tc) ts.length (ts.map cg)::ae tb (cl [ptr bs,ptr jb,z.2.2.2.1,.bool false] 73)::X::F) (0,⟨A1,bq,brk⟩,[],.slice none 0 0,[],⟨[],Sep []⟩,none,0) ⟨Nat.zero_le _,fun _ _ _ _ h=>h,⟨Pb,by simp⟩,⟨by simp,by simp⟩,Nat.le_refl _,⟨rfl,fun i x h=>by cases h⟩,fun x h=>(by cases h),by simp⟩ rfl cm ah ?_
  rintro⟨i,s,us,uv,rs,M,oa,oc⟩⟨hi,YZ,⟨sW,adT⟩,⟨fO,acW⟩,acO,hM,Jk,ac0⟩ ih
  simp only at hi YZ sW adT fO acW acO hM Jk ac0
  dsimp only
  have hMl:=hM.1
  refine go ?_
  refine aq zr zr ?_ ?_
  case' refine_2 =>
    intro fg
    have rB:i=ts.length:=by omega
    subst rB
    clear ih
    have lg:=YZ 0 s (gu us) rs (by rw[List.drop_length];exact⟨rfl,rfl,rfl,rfl⟩)
    refine ai (H':=az 39 1 (.slice oa M.cs.length oc) M.cs.length M.cs::M.Z::cB bs bd jb q mb [] (s,j1)::az 75 1 uv us.length (us.map cg)::aW us::ae tb (cl [ptr bs,ptr jb,uv,.bool false] 73)::X::F) ah ?_
    refine mJ 0 rfl ?_
    intro jx
    refine cV 0 rfl ?_
    intro OF
    have mW:qv (Sep [az 39 1 (.slice oa M.cs.length oc) M.cs.length M.cs,M.Z]) (.slice oa M.cs.length oc) rs:=by
      rw[hMl]at OF jx ⊢
      exact qv.ofP OF jx hMl hM.2
    have hfb:=yN rs (1025*100) Jk ag
    have hcm:=F1 jb bd cS (by decide) s.A j1 _ _ rs mW ag ag ag ag
    refine ai (ao.bS [az 39 1 (.slice oa M.cs.length oc) M.cs.length M.cs,M.Z] _) ?_
    refine ai (H':=cB bs bd jb q mb [] (s,j1)::Sep [az 39 1 (.slice oa M.cs.length oc) M.cs.length M.cs,M.Z]::az 75 1 uv us.length (us.map cg)::aW us::ae tb (cl [ptr bs,ptr jb,uv,.bool false] 73)::X::F) ah ?_
    refine ai (Ig bs bd jb q mb (s,j1) _) ?_
    unfold cC
    refine go ?_
    refine aF hcm ?_
    rintro _ _⟨e3,A3,jn,rfl,rfl,hCR⟩
    have abO:CU q ⟨A,bq,brk⟩ e3 ⟨A3,s.bq,s.brk⟩ jn (gu us):=⟨0,A1,j1,hO,by
      rw[if_neg ag]
      refine⟨0,s,rs,by rw[← Jo];rw[zO]at lg;exact lg,?_⟩
      rw[if_neg ag]
      exact⟨A3,hCR,rfl⟩⟩
    by_cases Th:e3=0
    · subst Th
      refine go ?_
      refine ai (H':=cC bs bd q mb ⟨A3,s.bq,s.brk⟩++(rq jb bd cS jn::ae tb (cl [ptr bs,ptr jb,uv,.bool false] 73)::az 75 1 uv us.length (us.map cg)::aW us::X::F)) (by unfold cC;exact ah) ?_
      refine ai (zp bs bd jb q mb (⟨A3,s.bq,s.brk⟩,jn) _) ?_
      refine ai (H':=dL tb bs jb uv us false++([cB bs bd jb q mb [] (⟨A3,s.bq,s.brk⟩,jn),X]++F)) (by unfold dL;exact ah) ?_
      refine ad hE Tryz.func19 zr zr ⟨0,⟨A3,s.bq,s.brk⟩,jn,gu us,abO,.inr ⟨rfl,tb,jb,uv,us,rfl,rfl,rfl⟩⟩
    · refine go ?_
      refine aq zr zr ?_ ?_
      case' refine_2=>(intro h;exfalso;omega)
      intro _
      refine go ?_
      refine ai (H':=cC bs bd q mb ⟨A3,s.bq,s.brk⟩++(X::F)) (by unfold cC;exact ah) ?_
      refine ad hE Tryz.func19 zr zr ⟨e3,⟨A3,s.bq,s.brk⟩,jn,gu us,abO,.inl ⟨Th,rfl,rfl⟩⟩
  intro cW
  have gh:i<ts.length:=by omega
  obtain⟨y,hy⟩:∃y,ts[i]?=some y:=⟨ts[i],by simp⟩
  have hyr:=htr y (List.mem_of_getElem? hy)
  have Da:=eL (x:=y.x) hyr.2
  have mo:ts.drop i=y::ts.drop (i+1):=by
    obtain⟨h1,h2⟩:=List.getElem?_eq_some_iff.1 hy
    rw[List.drop_eq_getElem_cons h1,h2]
  have XP:gu (ts.drop i)=y.c::gu (ts.drop (i+1)):=by rw[mo];rfl
  rw[XP]at YZ
  have rz:=BJ [] (ts.drop (i+1)) y
  simp only[List.nil_append]at rz
  rw[← mo]at rz
  have abI:=Gb bs bd q hq mb s y.x sW ag ag
  unfold eS at abI
  obtain⟨QI,Qr,cc9,he9⟩:=hvt.some (Nf gh)
  simp only[Value.slice.injEq,true_and]at he9
  obtain⟨rfl,rfl⟩:=he9
  refine ai (H':=aW (ts.drop i)::az 75 1 (.slice (some ⟨QI,Qr,none⟩) ts.length tc) ts.length (ts.map cg)::cB bs bd jb q mb [] (s,j1)::az 75 1 uv us.length (us.map cg)::aW us::az 39 1 (.slice oa M.cs.length oc) M.cs.length M.cs::M.Z::ae tb (cl [ptr bs,ptr jb,uv,.bool false] 73)::X::F) ah ?_
  refine ai (rz _) ?_
  refine er (gf y) ?_
  rintro⟨wv,JG,N⟩ hz
  have jj:∀H,ao (ae y.yb (cl (ly y) 79)::ae y.sb (cl [.int .i64 (y.n:Int),wv] 138)::az 134 1 wv y.ws.length (qV y.ws)::aQ (Value.int .i64) y.mb JG::aU 36 N::H) (oA y::H):=fun H=>ao.trans (H2:=mP y (wv,JG,N)++H) (by unfold mP;exact ah) (iX hz _)
  refine ai (H':=cB bs bd jb q mb [] (s,j1)::ae y.yb (cl (ly y) 79)::ae y.sb (cl [.int .i64 (y.n:Int),wv] 138)::az 134 1 wv y.ws.length (qV y.ws)::aQ (Value.int .i64) y.mb JG::aU 36 N::az 75 1 (.slice (some ⟨QI,Qr,none⟩) ts.length tc) ts.length (ts.map cg)::aW (ts.drop (i+1))::az 75 1 uv us.length (us.map cg)::aW us::az 39 1 (.slice oa M.cs.length oc) M.cs.length M.cs::M.Z::ae tb (cl [ptr bs,ptr jb,uv,.bool false] 73)::X::F) (by unfold mP;exact ah) ?_
  refine ai (Ig bs bd jb q mb (s,j1) _) ?_
  refine ai (H':=az 75 1 (.slice (some ⟨QI,Qr,none⟩) ts.length tc) ts.length (ts.map cg)::ae y.yb (cl (ly y) 79)::ae y.sb (cl [.int .i64 (y.n:Int),wv] 138)::az 134 1 wv y.ws.length (qV y.ws)::aQ (Value.int .i64) y.mb JG::aU 36 N::(cC bs bd q mb s++(rq jb bd cS j1::aW (ts.drop (i+1))::az 75 1 uv us.length (us.map cg)::aW us::az 39 1 (.slice oa M.cs.length oc) M.cs.length M.cs::M.Z::ae tb (cl [ptr bs,ptr jb,uv,.bool false] 73)::X::F))) ah (go ?_)
  refine bI i zr zr zr zr zr zr zr zr gh ?_
  refine aK ?_
  refine aX 0 i zr zr zr hvt rfl (qI hy) zr zr (go ?_)
  refine dB (cs:=bJ y.x) 1 zr zr zr zr zr zr (go ?_)
  refine aF abI ?_
  rintro _ _⟨e1,s1,rfl,rfl,hBR⟩
  refine pz ?_
  refine iN rfl ?_
  have RO:=sW.begin ag hyr.2 hBR
  have YT:=ln hBR
  refine ai (ao.trans (H2:=ae y.yb (cl (ly y) 79)::ae y.sb (cl [.int .i64 (y.n:Int),wv] 138)::az 134 1 wv y.ws.length (qV y.ws)::aQ (Value.int .i64) y.mb JG::aU 36 N::az 75 1 (.slice (some ⟨QI,Qr,none⟩) ts.length tc) ts.length (ts.map cg)::aW (ts.drop (i+1))::(cC bs bd q mb s1++(rq jb bd cS j1::az 75 1 uv us.length (us.map cg)::aW us::az 39 1 (.slice oa M.cs.length oc) M.cs.length M.cs::M.Z::ae tb (cl [ptr bs,ptr jb,uv,.bool false] 73)::X::F))) ah (jj _)) ?_
  by_cases Jh:e1=5∨e1=11
  · have rO:∀e t cs AE,rW q (gu (ts.drop (i+1))) s1 (gu us) rs e t cs AE→rW q (gu ts) ⟨A1,bq,brk⟩ [] [] e t cs AE:=fun e t cs AE h=>YZ e t cs AE ⟨e1,s1,hBR,by rw[if_pos Jh];exact h⟩
    refine ai (ao.trans ah (zp bs bd jb q mb (s1,j1) (aW (ts.drop (i+1))::az 75 1 (.slice (some ⟨QI,Qr,none⟩) ts.length tc) ts.length (ts.map cg)::az 75 1 uv us.length (us.map cg)::aW us::az 39 1 (.slice oa M.cs.length oc) M.cs.length M.cs::M.Z::ae tb (cl [ptr bs,ptr jb,uv,.bool false] 73)::X::F))) ?_
    rcases Jh with rfl|rfl
    all_goals(
      refine go ?_
      refine aM ih (i+1,s1,us,uv,rs,M,oa,oc) rfl ⟨by simp only;omega,rO,⟨RO.1,by simp only;have:=RO.2;omega⟩,⟨by simp only;have:=YT.1;omega,by simp only;have:=YT.2;omega⟩,by simp only;omega,hM,Jk,by simp only;omega⟩ (by simp only;omega) cm ah)
  by_cases qZ:e1=0
  case neg =>
    have Tg:=YZ e1 s1 [] [] ⟨e1,s1,hBR,by rw[if_neg Jh,if_pos qZ];exact⟨rfl,rfl⟩⟩
    rw[zO]at Tg
    have abN:CU q ⟨A,bq,brk⟩ e1 s1 j1 []:=by
      refine⟨0,A1,j1,hO,?_⟩
      rw[if_neg ag]
      refine⟨e1,s1,[],by rw[← Jo];exact Tg,?_⟩
      rw[if_pos qZ]
      exact⟨rfl,rfl⟩
    refine go ?_
    refine aB 68 ((.bool false)) rfl ((congrArg Value.bool (decide_eq_false ag))) (go ?_)
    refine bu 71 ((.bool false)) rfl ((congrArg Value.bool (decide_eq_false ag))) (go ?_)
    refine aq zr zr ?_ ?_
    case' refine_2=>(intro h;exfalso;omega)
    intro _
    refine go ?_
    refine ai (H':=cC bs bd q mb s1++(X::F)) ah ?_
    refine ad hE Tryz.func19 zr zr ⟨e1,s1,j1,[],abN,.inl ⟨qZ,rfl,rfl⟩⟩
  subst qZ
  refine aca 5 rfl ?_
  intro ac2
  have hRd:∀nm at_ n,(s1.A.read nm at_ n).1.length≤1048576:=fun nm at_ n=>DW s1.A ac2 nm at_ n
  obtain⟨Li,rA⟩:=Ld s1 y.c hyr
  have rO:∀e t cs AE,rW q (gu (ts.drop (i+1))) s1 (gu us++[(ke s1 y.c).1]) (rs++(ke s1 y.c).2) e t cs AE→rW q (gu ts) ⟨A1,bq,brk⟩ [] [] e t cs AE:=fun e t cs AE h=>YZ e t cs AE ⟨0,s1,hBR,by rw[if_neg Jh,if_neg ag];exact h⟩
  have abq:=fun tv=>OR X hK tb bs jb bd tv false q mb (s1,j1) hRd y hyr.1 ag ag
  refine ai (ao.trans ah (zp bs bd jb q mb (s1,j1) (az 75 1 uv us.length (us.map cg)::ae tb (cl [ptr bs,ptr jb,uv,.bool false] 73)::oA y::X::az 39 1 (.slice oa M.cs.length oc) M.cs.length M.cs::M.Z::az 75 1 (.slice (some ⟨QI,Qr,none⟩) ts.length tc) ts.length (ts.map cg)::aW (ts.drop (i+1))::aW us::F))) ?_
  refine dg 1 rfl ?_
  rintro ua uc rfl
  refine ai (H':=ae tb (cl [ptr bs,ptr jb,.slice ua us.length uc,.bool false] 73)::az 75 1 (.slice ua us.length uc) us.length (us.map cg)::oA y::cB bs bd jb q mb [] (s1,j1)::X::az 39 1 (.slice oa M.cs.length oc) M.cs.length M.cs::M.Z::az 75 1 (.slice (some ⟨QI,Qr,none⟩) ts.length tc) ts.length (ts.map cg)::aW (ts.drop (i+1))::aW us::F) ah (go ?_)
  refine aj (cs:=[ptr y.yb]) zr zr zr zr zr zr zr zr zr bD ?_
  intro r1
  refine go ?_
  refine aR (mm:=1) (news:=[ptr y.yb]) 2 0 rfl rfl rfl rfl rfl rfl rfl rfl rfl rfl rfl rfl (Vw.ae rfl) rfl (by intro v hv;simp at hv;rw[hv];rfl) ag (by show(_+_)*8≤_;omega) (fun _=>rfl) bD ?_
  intro v1
  refine aN 2 rfl ?_
  rintro va vc rfl
  refine go ?_
  refine aF (abq (.slice va (us.length+1) vc)) ?_
  rintro r9 _⟨y',Z2,acB,aaK,abe,rfl⟩
  obtain⟨Fi,ry,XM,⟨ra,rc,rfl,OO⟩,XI⟩:=abe
  simp only at aaK ry XM XI OO
  have yK:=hM.ad5 XM XI
  have gI:∀v∈Fi,v.oneCell'=true:=fun v hv=>by
    obtain⟨j,hj,rfl⟩:=List.getElem_of_mem hv
    obtain⟨x,hx⟩:∃x,(ke s1 y.c).2[j]?=some x:=⟨(ke s1 y.c).2[j]' ag,by simp⟩
    obtain⟨cv,h1,h2⟩:=XI j x hx
    obtain⟨_,_,rfl,_⟩:=h2.2
    rw[List.getElem?_eq_getElem hj]at h1
    injection h1 with h1
    rw[h1];rfl
  refine aI (H':=az 39 1 (.slice oa M.cs.length oc) M.cs.length M.cs::Z2::ae tb (cl [ptr bs,ptr jb,.slice va (us.length+1) vc,.bool false] 73)::oA y'::cB bs bd jb q mb [] (s1,j1)::X::M.Z::az 75 1 (.slice (some ⟨QI,Qr,none⟩) ts.length tc) ts.length (ts.map cg)::aW (ts.drop (i+1))::aW us::az 75 1 (.slice va (us.length+1) vc) (us.length+1) (us.map cg++[ptr y.yb])::F) ah (go ?_)
  refine aR (mm:=(ke s1 y.c).2.length) (news:=Fi) 0 1 zr zr zr zr zr zr zr zr zr zr zr zr ry (by show _=_*1;omega) gI ag (by show(_+_)*24≤_;omega) (fun _=>rfl) bD ?_
  intro v2
  refine aN 0 rfl ?_
  rintro wa wc rfl
  refine go ?_
  have QB:us.map cg++[ptr y.yb]=(us++[y']).map cg:=by rw[← acB];simp[cg]
  have AY:us.length+1=(us++[y']).length:=by simp
  have abG:(M.cs++Fi).length=M.cs.length+(ke s1 y.c).2.length:=by rw[List.length_append,XM]
  have qY:=uN us [] y'
  rw[List.append_nil]at qY
  rw[QB,AY]
  refine ai (H':=oA y'::aW us::Z2::M.Z::az 39 1 (.slice wa (M.cs++Fi).length wc) (M.cs++Fi).length (M.cs++Fi)::cB bs bd jb q mb [] (s1,j1)::X::az 75 1 (.slice (some ⟨QI,Qr,none⟩) ts.length tc) ts.length (ts.map cg)::aW (ts.drop (i+1))::az 75 1 (.slice va (us++[y']).length vc) (us++[y']).length ((us++[y']).map cg)::ae tb (cl [ptr bs,ptr jb,.slice va (us++[y']).length vc,.bool false] 73)::F) (by rw[abG];exact ah) ?_
  refine ai (qY _) ?_
  refine ai (H':=Z2::M.Z::aW (us++[y'])::az 39 1 (.slice wa (M.cs++Fi).length wc) (M.cs++Fi).length (M.cs++Fi)::cB bs bd jb q mb [] (s1,j1)::X::az 75 1 (.slice (some ⟨QI,Qr,none⟩) ts.length tc) ts.length (ts.map cg)::aW (ts.drop (i+1))::az 75 1 (.slice va (us++[y']).length vc) (us++[y']).length ((us++[y']).map cg)::ae tb (cl [ptr bs,ptr jb,.slice va (us++[y']).length vc,.bool false] 73)::F) ah ?_
  refine ai (ao.bS [Z2,M.Z] _) ?_
  have hcu:gu (us++[y'])=gu us++[(ke s1 y.c).1]:=by rw[JF,aaK]
  rw[← hcu]at rO
  refine bu 13 ((.slice wa (M.cs++Fi).length wc)) rfl ((by rw[abG])) ?_
  refine aM ih (i+1,s1,us++[y'],.slice va (us++[y']).length vc,rs++(ke s1 y.c).2,⟨M.cs++Fi,Sep [Z2,M.Z]⟩,wa,wc) rfl ⟨by simp only;omega,rO,⟨RO.1,by simp only;have:=RO.2;omega⟩,⟨by simp only;have:=YT.1;omega,by simp only;have:=YT.2;omega⟩,by simp only[List.length_append,List.length_singleton];omega,yK,(fun x hx=>by
    rcases List.mem_append.1 hx with h|h
    · exact Jk x h
    · exact Li x h),by simp only[List.length_append];omega⟩ (by simp only;omega) cm ah
end Go.Proofs.YtdigdgohdpeebaaGreatDoor
namespace Go.Proofs.YtdigdgohdpeebaaGreatDoor
open Go Go.SL
def Bs(q:Int)(A:Ab)(e:Nat)(t:SJ)(cs:List TC):Prop :=
 ∃e1 B,pq A e1 B∧if e1≠0 then e=e1 else ∃s jn,CU q ⟨B,[],false⟩ e s jn cs∧t=(s,jn)
attribute [local irreducible] J K aE Ends ae az aQ bP bj aT aU bp bW aD cB k7
def qH(X:HP)(hK:oD X)(wb bd:Nat)(v1 v2:Value)(q:Int)(hq:1≤q∧q≤1073741824)(A:Ab)(ji:A.off=false)(cL:A.aw.length≤600000000)(hB:∀B,pq A 0 B→B.writes.length≤700000000∧(fe B cS).length≤900000∧(∀x∈fe B cS,x.length≤1000000)∧((fe B cS).foldl dk []).length≤100) :
  aE Tryz.prog 7 [ptr wb,.int .i64 q] [ae wb (cl [ptr bd,v1,v2] 33),aD bd A,X]
  (fun r H=>∃(e:Nat) (t:SJ) (cs:List TC),Bs q A e t cs∧r = .int .i64 (e:Int)∧(e=0→∃bs mb tb jb tv ts,gu ts=cs∧H=ae wb (cl [ptr bd,ptr bs,ptr tb] 33)::dL tb bs jb tv ts false++[cB bs bd jb q mb [] t,X])∧(e≠0→∃L,H=L)):=by
 refine aE.au Tryz.func7 Tryz.ntmps7 fun G F R hE=>?_
 refine go ?_
 refine aF (Mi X hK bd q A ag) ?_
 rintro _ _ (⟨h,_⟩|⟨_,h,_⟩|⟨_,_,e,B,ho,hc⟩)
 ·exfalso;omega
 ·rw[ji]at h;cases h
 rcases hc with⟨bZ,rfl,rfl⟩|⟨rfl,hBl,bs,mb,rfl,rfl⟩
 ·refine go ?_
  refine aq zr zr ?_ ?_
  case' refine_2=>(intro h;exfalso;omega)
  intro _
  refine go ?_
  refine ad hE Tryz.func7 zr zr ⟨e,(⟨B,[],false⟩,⟨0,0,0,false⟩),[],⟨e,B,ho,by rw[if_pos bZ]⟩,rfl,fun h=>absurd h bZ,fun _=>⟨ae wb (cl [ptr bd,.pointer none,.pointer none] 33)::[aD bd B,X],rfl⟩⟩
 obtain⟨b1,b2,b3,b4⟩:=hB B ho
 have hop:=Mj X hK bs bd q ⟨ag,hq.2⟩ mb ⟨B,[],false⟩ ⟨by simp,by simp⟩ (by simp) (by simp only;omega) (by simp only;omega) b2 b3 b4
 refine aI (H':=ae wb (cl [ptr bd,v1,v2] 33)::(cC bs bd q mb ⟨B,[],false⟩++(X::F))) ah (go ?_)
 refine aI (H':=cC bs bd q mb ⟨B,[],false⟩++(X::ae wb (cl [ptr bd,ptr bs,.pointer none] 33)::F)) (by unfold cC;exact ah) ?_
 refine aF hop ?_
 rintro _ _⟨e,t,jn,cs,hO,⟨bZ,rfl,rfl⟩|⟨rfl,tb,jb,tv,ts,zO,rfl,rfl⟩⟩
 ·refine aI (H':=ae wb (cl [ptr bd,ptr bs,.pointer none] 33)::(cC bs bd q mb t++(X::F))) ah (go ?_)
  ((refine ad hE Tryz.func7 zr zr ⟨e,(t,jn),cs,⟨0,B,ho,by rw[if_neg ag];exact⟨t,jn,hO,rfl⟩⟩,rfl,fun h=>absurd h bZ,fun _=>⟨ae wb (cl [ptr bd,ptr bs,.pointer none] 33)::(cC bs bd q mb t++[X]),rfl⟩⟩))
 ·refine aI (H':=ae wb (cl [ptr bd,ptr bs,.pointer none] 33)::(dL tb bs jb tv ts false++([cB bs bd jb q mb [] (t,jn),X]++F))) ah ?_
  unfold dL
  refine go ?_
  refine ai (H':=(ae wb (cl [ptr bd,ptr bs,ptr tb] 33)::dL tb bs jb tv ts false++[cB bs bd jb q mb [] (t,jn),X])++F) (by unfold dL;exact ah) ?_
  ((refine ad hE Tryz.func7 zr zr ⟨0,(t,jn),cs,⟨0,B,ho,by rw[if_neg ag];exact⟨t,jn,hO,rfl⟩⟩,rfl,fun _=>⟨bs,mb,tb,jb,tv,ts,zO,rfl⟩,fun h=>absurd rfl h⟩))
end Go.Proofs.YtdigdgohdpeebaaGreatDoor
namespace Go.Proofs.YtdigdgohdpeebaaGreatDoor
open Go Go.SL
variable{A:Ab}{x:Bl}{br:Bool}{e:Nat}{s t:SJ}
def BF(h:A.names=[]):vw A=fun _=>none:=by
 funext n
 unfold vw Ab.look Ab.cM
 rw[h];rfl
def HN{nm:ByteArray}(h:HA A)(hv:vw A nm=none):fe A nm=[]:=by
 have oB:A.look nm=none:=by
  unfold vw at hv
  cases hx:A.look nm with
  | none=>rfl
  | some f=>rw[hx]at hv;cases hv
 have vW:(A.read nm 0 (A.size nm).1).1=[]:=by
  unfold Ab.read
  rw[if_neg (by rw[h.on];simp),oB]
 unfold fe
 rw[vW]
 rfl
def lS:(cf []).length=32:=by unfold cf;simp[fY]
def Br{q:Int}{cs:List TC}(h:HA A)(hn:A.names=[])(hr:64≤A.room)(hR:Bs q A e t cs) :
  e=0∧cs=[]∧HA t.1.A∧t.1.bq=[]∧t.1.brk=false∧vw t.1.A=eK (fun _=>none) cS (some (cf []))∧t.1.A.room=A.room∧t.2=⟨1,0,0,false⟩∧t.1.A.names.length=1∧t.1.A.used=32∧t.1.A.aw.length≤A.aw.length+14∧t.1.A.writes.length≤A.writes.length+14:=by
 obtain⟨e1,B,hO,hR⟩:=hR
 obtain⟨rfl,rfl⟩:=zt hn hO
 rw[if_neg ag]at hR
 obtain⟨s,jn,⟨e2,A1,j1,XX,hR⟩,rfl⟩:=hR
 simp only at XX hR
 have lq:=BF hn
 have hu0:B.used=0:=by unfold Ab.used;rw[hn];rfl
 have z8:=sL XX
 obtain⟨rfl,k1,k2,k3,k4,k5⟩:=ya h ed jF oP (by rw[lq]) (by rw[lq]) (by rw[hn];simp) ag XX
 rw[lq]at k2
 rw[if_neg ag,k5]at hR
 obtain⟨e3,s2,rs,⟨rfl,rfl,rfl,rfl⟩,hR⟩:=hR
 rw[if_neg ag]at hR
 obtain⟨A3,hC,rfl⟩:=hR
 simp only at hC
 subst k4
 unfold oz at hC
 rw[if_neg (by simp),if_neg (by simp),if_neg (by simp)]at hC
 obtain⟨y,hP,rfl,rfl⟩:=hC
 obtain⟨SR,S6⟩:=h.pJ k1 (k:=cS) (c:=cf []) (by rw[lq]) (by rw[k2,lq])
 have EK:=vu hP
 simp only at EK
 obtain⟨rfl,m1,m2,m3,m4⟩:=AK k1 ed jF oP (by rw[k2,dH _ _ oP]) (by rw[S6,hn];simp) (by rw[lS];omega) (by rw[lS,SR,k3,hu0,lS];omega) hP
 have oY:vw y.1=eK (fun _=>none) cS (some (cf [])):=by
  rw[m2,k2]
  funext m
  unfold eK
  split <;> rfl
 obtain⟨hu2,hn2⟩:=h.pJ m1 (k:=cS) (c:=cf []) (by rw[lq]) (by rw[oY,lq])
 refine⟨rfl,rfl,m1,rfl,rfl,oY,by simp only;rw[m3,k3],?_,by simp only;rw[hn2,hn];rfl,by simp only;rw[hu2,hu0,lS],by simp only;have:=z8.1;have:=EK.1;omega,by simp only;have:=z8.2;have:=EK.2;omega⟩
 simp only
 rw[show y.2.1=1 from by rw[m4],show y.2.2.1=0 from by rw[m4];rfl,show y.2.2.2=0 from by rw[m4];rfl]
 simp
structure HJ(m:Nat)(x:SJ):Prop where
 ha:HA x.1.A
 brk:x.1.brk=false
 room:x.1.A.room=1048576
 nl:x.1.A.names.length≤4
 small:∀n c,vw x.1.A n=some c→c.length≤100000
 fl:∃C,vw x.1.A cS=some C
 jn:∃(n c:Int) (s:Nat),x.2=⟨n,s,c,false⟩∧0≤n∧n≤m+1∧s≤1000*m
def HJ.used{m:Nat}{x:SJ}(h:HJ m x):x.1.A.used≤400000:=by
 have h1:=wF h.ha 100000 h.small
 have h2:=h.nl
 have:x.1.A.names.length*100000≤4*100000:=Nat.mul_le_mul_right _ h2
 omega
def I1{m:Nat}{x y:SJ}{b:List UInt8}(h:HJ m x)(hm:m<50)(hb:b.length≤900)(hR:iA (jD b) x e y) :
  e=0∧HJ (m+1) y∧y.1.bq=x.1.bq∧(∀nm,nm≠cS→vw y.1.A nm=vw x.1.A nm):=by
 have zU:=h.used
 obtain⟨C,hC⟩:=h.fl
 have hCl:=h.small _ _ hC
 obtain⟨⟨A,bq,brk⟩,jn⟩:=x
 obtain⟨n,c,s,RE,RA,S6,hs⟩:=h.jn
 simp only at hC RE
 subst RE
 have hA:HA A:=h.ha
 have Jj:A.room=1048576:=h.room
 have lG:A.names.length≤4:=h.nl
 have u6:∀n c,vw A n=some c→c.length≤100000:=h.small
 simp only at zU
 have py:=n8 b ag
 obtain⟨e1,x1,⟨Cm,yL⟩,c1⟩:=hR
 obtain⟨a0,a1,a2,a3,a4⟩:=CH (A:=A) (n:=n) (c:=c) (s:=s) (b:=b) hA ed hC ag ag ag
 simp only at Cm yL
 rw[a0]at Cm
 subst Cm
 rcases c1 with⟨bZ,_⟩|⟨_,e2,x2,⟨A',x',mT,vY⟩,c2⟩
 ·exact absurd rfl bZ
 rw[yL]at mT vY
 simp only at mT vY
 rw[a4]at mT
 have EF:(cU cS A ⟨n,s,c,false⟩ b).2.1.names.length=A.names.length:=hA.qa a1 (fun m=>by
  rw[a2];unfold eK
  split
  ·rename_i hm;rw[hm,hC];rfl
  ·rfl)
 have wL:∀nm c',vw (cU cS A ⟨n,s,c,false⟩ b).2.1 nm=some c'→c'.length≤100000:=fun nm c' lr=>by
  rw[a2]at lr
  unfold eK at lr
  split at lr
  ·injection lr with lr;rw[← lr,fE];omega
  ·exact u6 _ _ lr
 have SR:=wF a1 100000 wL
 rw[EF]at SR
 have hu2:A.names.length*100000≤4*100000:=Nat.mul_le_mul_right _ lG
 obtain⟨g0,g1,⟨C',g2,g3⟩,g4,n',c',g5,g6,g7⟩:=Cy a1 ed (by rw[a2,dp]) RA ag (by rw[a3];omega) mT
 subst g0
 rcases c2 with⟨bZ,_⟩|⟨_,he,hy⟩
 ·exact absurd rfl bZ
 rw[fE]at g3
 have sC:∀nm c',vw A' nm=some c'→c'.length≤100000:=fun nm c' lr=>by
  rw[g2]at lr
  unfold eK at lr
  split at lr
  ·injection lr with lr;rw[← lr];omega
  ·exact wL _ _ lr
 have aeq:A'.names.length=A.names.length:=by
  rw[← EF]
  exact a1.qa g1 (fun m=>by
   rw[g2];unfold eK
   split
   ·rename_i hm;rw[hm,a2,dp];rfl
   ·rfl)
 rw[he,hy,vY]
 refine⟨rfl,⟨g1,h.brk,by show A'.room=_;rw[g4,a3];exact Jj,by show A'.names.length≤4;omega,sC,⟨C',by show vw A' cS=_;rw[g2,dp]⟩,⟨n',c',s+(aZ b).length,g5,ag,ag,ag⟩⟩,rfl,fun nm lG=>?_⟩
 show vw A' nm=vw A nm
 rw[g2,dH _ _ lG,a2,dH _ _ lG]
def AN(h:cq x=1):de x=⟨x,1,[0#64],fun _=>none⟩:=by unfold de;rw[h];rfl
def KI(hx:gx [7] 16=some x):dw x 0 [7] []=true:=by
 obtain⟨hr,iY,sT,YE⟩:=pb hx
 have iQ:=Dx hr iY sT
 have hc:cq x=1:=by unfold cq;rw[if_pos hr,iY,sT];rfl
 have EA:x.root=db [7]:=by
  unfold gx dt at hx
  rw[if_pos (by decide)]at hx
  simp only[Option.map_some,Option.some.injEq]at hx
  rw[← hx]
  rfl
 unfold dw
 rw[iQ,hc]
 simp only[List.length_cons,List.length_nil,Nat.zero_add]
 rw[show decide ((((0+1:Nat)):Int)=1)=true from rfl,Bool.true_and]
 unfold kG
 refine decide_eq_true ⟨ag,rfl,?_⟩
 rw[EA]
 rfl
def Yl(hx:gx [7] 16=some x){ts:List Tk}(h:HJ 0 s)(hb:s.1.bq=[])(hn:s.1.A.names.length≤1)(hv:∀n,n≠cS→vw s.1.A n=none)(hR:MH 1000 x [] s false e ts br t) :
    ∃y:Tk,y.c=de x∧ts=[y]∧br=false∧HJ 1 t∧gK t.1.bq x.d=some x∧vw t.1.A (iz x.d)=some []:=by
  obtain⟨hr,iY,sT,YE⟩:=pb hx
  rcases hR with⟨h1,_⟩|⟨_,h1,_⟩|⟨_,_,MU,⟨e1,x1,⟨hS,To⟩,gw⟩,uF⟩
  · cases h1
  · cases h1
  have zU:jR s.1=0:=by
    have hf:rF s.1.A=0:=by
      rw[Aq h.ha]
      unfold rn
      have hz:∀k∈ei s.1.A,rp k ((vw s.1.A k).getD [])=0:=fun k hk=>by
        by_cases hp:k=cS
        · rw[hp,Oo]
        · rw[hv k hp];unfold rp;split <;> rfl
      have:∀l:List ByteArray,(∀k∈l,rp k ((vw s.1.A k).getD [])=0)→(l.map fun k=>rp k ((vw s.1.A k).getD [])).sum=0:=by
        intro l
        induction l with
        | nil=>intro _;rfl
        | cons a l ih =>
          intro hl
          rw[List.map_cons,List.sum_cons,hl a (List.mem_cons_self ..),ih (fun k hk=>hl k (List.mem_cons_of_mem _ hk))]
      exact this _ hz
    unfold jR
    rw[hf,hb];rfl
  have hfS:fS x≠cS:=gT kS x.d
  have hfB:fB x≠cS:=gT kB x.d
  obtain⟨rfl,a1,b1,c1,v1,n1,r1⟩:=Ga h.ha h.brk hr (by rw[hb];rfl) (hv _ hfB) (by rw[zU,iY];decide) (hv _ hfS) ag hS
  rcases gw with⟨bZ,_⟩|⟨_,gw⟩
  · exact absurd rfl bZ
  obtain⟨n,c,k,hj,sV,Db,wN⟩:=h.jn
  obtain⟨C,hC⟩:=h.fl
  have h1:HJ 0 x1:=⟨a1,b1,by rw[r1];exact h.room,ag,fun n c hc=>by
    rw[v1]at hc
    split at hc
    · injection hc with hc;rw[← hc];simp
    · exact h.small _ _ hc,⟨C,by rw[v1,if_neg (fun e=>hfS e.symm)];exact hC⟩,n,c,k,by rw[To];exact hj,sV,Db,wN⟩
  have jO:(bT x).length≤900:=by
    have:=hD 1 x.d (gZ x) (by simp[gZ]) (kH x (by rw[iY];decide) ag)
    unfold bT;omega
  obtain⟨rfl,h2,h3,h4⟩:=I1 h1 ag jO gw
  rcases uF with⟨bZ,_⟩|⟨_,y,hy,rfl⟩
  · exact absurd rfl bZ
  refine⟨y,hy,rfl,MU,h2,?_,?_⟩
  · rw[h3,c1,hb];simp[gK]
  · rw[← abT,h4 _ hfS,v1];exact if_pos rfl
def Yk(hx:gx [7] 16=some x){y:Tk}{ts:List Tk}(h:HJ 1 s)(hy:y.c=de x)(hb:gK s.1.bq x.d=some x)(hv:vw s.1.A (iz x.d)=some [])(hR:Mc x 0 [7] [] [y] s false e ts br t) :
    e=0∧Oa (fb ts x) = .tuple #[.int .i64 0,.int .i64 0]∧∃z:Tk,ts=[z]∧z.n=1∧z.ws.length=1:=by
  obtain⟨hr,iY,sT,YE⟩:=pb hx
  have iQ:=Dx hr iY sT
  have hc:cq x=1:=by unfold cq;rw[if_pos hr,iY,sT];rfl
  obtain⟨yb,sb,mb,yx,yn,yws,ypf⟩:=y
  rw[AN hc]at hy
  unfold Tk.c at hy
  simp only[TC.mk.injEq]at hy
  obtain⟨rfl,rfl,rfl,rfl⟩:=hy
  have yD:fb [(⟨yb,sb,mb,yx,1,[0#64],fun _=>none⟩:Tk)] yx=some ⟨yb,sb,mb,yx,1,[0#64],fun _=>none⟩:=by
    unfold fb;simp
  have jN:dF [0#64] 1 0=false:=by decide
  rcases hR with⟨h1,_⟩|⟨_,h1,_⟩|⟨_,k,z,hz,hk,hzx,hc⟩
  · cases h1
  · rw[yD]at h1;cases h1
  rw[yD]at hz
  injection hz with hz
  subst hz
  simp only at hc
  rcases hc with⟨h1,_⟩|⟨_,h1,_⟩|⟨_,_,h1,_⟩|⟨_,_,_,MU,⟨e1,x1,⟨hS,To⟩,gw⟩,uF⟩
  · exfalso;omega
  · rw[jN]at h1;cases h1
  · rw[KI hx]at h1;cases h1
  have zU:=h.used
  have Jj:=h.room
  have hfS:fS yx≠cS:=gT kS yx.d
  obtain⟨rfl,a1,b1,c1,v1,n1,r1⟩:=Ij h.ha h.brk hb iQ rfl hv (by simp) (by simp;omega) hS
  rcases gw with⟨bZ,_⟩|⟨_,e2,x2,⟨hY,hY2⟩,gw⟩
  · exact absurd rfl bZ
  have lz:vw x1.1.A (fS yx)=some [7]:=by rw[v1,if_pos rfl];rfl
  unfold ki at hY
  have ho:gK x1.1.bq yx.d=some yx:=by rw[c1];exact hb
  rw[KX b1,if_pos ho,if_neg ag]at hY
  obtain⟨B,⟨e3,A1,h1,c2⟩,ru⟩:=hY
  unfold fj at h1
  rw[show isName (fS yx)=true from gH yx]at h1
  obtain⟨rfl,g1,g2,g3⟩:=a1.xB lz h1
  rcases c2 with⟨bZ,_⟩|⟨_,rfl,rfl⟩
  · exact absurd rfl bZ
  rcases gw with⟨bZ,_⟩|⟨_,gw⟩
  · exact absurd rfl bZ
  obtain⟨n,c,k',hj,sV,Db,wN⟩:=h.jn
  obtain⟨C,hC⟩:=h.fl
  have EF:B.names.length=s.1.A.names.length:=by
    rw[← n1]
    exact a1.qa g1 (fun m=>by rw[g2])
  have h2:HJ 1 x2:=by
    have e1:x2.1.A=B:=by rw[ru]
    have e2:x2.1.brk=false:=by rw[ru];simp[b1]
    exact⟨by rw[e1];exact g1,e2,by rw[e1,g3,r1];exact Jj,by rw[e1,EF];exact h.nl,fun n c hc=>by
      rw[e1,g2,v1]at hc
      split at hc
      · injection hc with hc;rw[← hc];simp[fE]
      · exact h.small _ _ hc,⟨C,by rw[e1,g2,v1,if_neg (fun e=>hfS e.symm)];exact hC⟩,n,c,k',by rw[hY2,To];exact hj,sV,Db,wN⟩
  have jO:(bL yx.d (0:Int).toNat []).length≤900:=by
    have:=hD 2 yx.d (eF 0 []) (by simp[eF]) (kr 0 ag [])
    unfold bL
    unfold eF at this
    simp only[Int.toNat_zero]
    omega
  obtain⟨rfl,-,-,-⟩:=I1 h2 ag jO gw
  rcases uF with⟨bZ,_⟩|⟨_,rfl⟩
  · exact absurd rfl bZ
  refine⟨rfl,?_⟩
  refine⟨?_,?_⟩
  rotate_left
  · have YQ:k=0:=by
      rcases Nat.eq_zero_or_pos k with h|h
      · exact h
      · rw[List.getElem?_eq_none (by simp;omega)]at hk;cases hk
    subst YQ
    exact⟨_,rfl,rfl,by simp[Tk.put,kX]⟩
  have YQ:k=0:=by
    rcases Nat.eq_zero_or_pos k with h|h
    · exact h
    · rw[List.getElem?_eq_none (by simp;omega)]at hk;cases hk
  subst YQ
  unfold fb
  simp only[List.set_cons_zero,Tk.put,List.find?_cons,decide_true]
  have h9:rD (kX [0#64] (0:Int).toNat true)=1:=by decide +kernel
  unfold Oa
  simp only[h9]
  rfl
def MG{q:Int}{ts ek:List Tk}{jM:Bool}(h:MH q x ts s br e ek jM t):SJg 7 s t:=by
 rcases h with⟨_,_,_,_,rfl⟩|⟨_,_,_,_,_,rfl⟩|⟨_,_,_,⟨e1,x1,⟨h1,yL⟩,c1⟩,_⟩
 ·exact⟨ag,ag⟩
 ·exact⟨ag,ag⟩
 have g1:=ln h1
 obtain⟨a,b⟩:=g1
 rcases c1 with⟨_,_,rfl⟩|⟨_,gw⟩
 ·exact⟨ag,ag⟩
 ·have g2:=AP gw
  obtain⟨c,d⟩:=g2
  exact⟨ag,ag⟩
def JE{ts:List Tk}(h:gu ts=[]):ts=[]:=by
 unfold gu at h
 exact List.map_eq_nil_iff.1 h
def E9(h:HA A)(hn:A.names=[])(hw:A.writes.length≤700000000):∀B,pq A 0 B→B.writes.length≤700000000∧(fe B cS).length≤900000∧(∀x∈fe B cS,x.length≤1000000)∧((fe B cS).foldl dk []).length≤100:=by
 intro B hO
 obtain⟨_,rfl⟩:=zt hn hO
 have hf:fe B cS=[]:=HN h (by rw[BF hn])
 rw[hf]
 exact⟨hw,by simp,by simp,by simp⟩
attribute [local irreducible] J K aE Ends ae az aQ bP bj aT aU bp bW Sha.chunks Sha.chunk Sha.rounds Sha.sched dW cH GI db aD cB aW
def LU(X:HP)(hK:oD X):aE Tryz.prog 4 [] [X] (fun r H=>r = .bool true∧H=[X]):=by
 obtain⟨x,hx⟩:=PA
 obtain⟨hr,iY,sT,YE⟩:=pb hx
 have aeh:x.size=1:=iY
 have EW:cq x=1:=by unfold cq;rw[if_pos hr,iY,sT];rfl
 refine aE.au Tryz.func4 Tryz.ntmps4 fun G F R hE=>?_
 refine go ?_
 refine aF (Ik 1048576 ag ag) ?_
 rintro _ _⟨bd,rfl,rfl⟩
 refine go ?_
 refine bG zr zr bD ?_
 intro wb
 refine go ?_
 ((refine aF (qH X hK wb bd (.pointer none) (.pointer none) 1000 ag (Ab.new 1048576) rfl (by show 1≤_;omega) (E9 (HA.new _) rfl (by show 0≤_;omega))) ?_))
 rintro _ _⟨e0,t0,JG,hW,rfl,hz,-⟩
 obtain⟨rfl,rfl,w1,w2,w3,w4,w5,w6,w7,w8,w9,w10⟩:=Br (HA.new _) rfl (by show 64≤1048576;omega) hW
 obtain⟨bs,mb,tb,jb,tv,ts,zO,rfl⟩:=hz rfl
 have uF:=JE zO
 subst uF
 have w9':t0.1.A.aw.length≤1+14:=w9
 have aeg:t0.1.A.writes.length≤0+14:=w10
 have acX:∀n c,vw t0.1.A n=some c→c.length≤100000:=fun n c hc=>by
  rw[w4]at hc
  unfold eK at hc
  split at hc
  ·injection hc with hc;rw[← hc,lS];omega
  ·cases hc
 have hJ0:HJ 0 t0:=⟨w1,w3,w5,ag,acX,⟨_,by rw[w4,dp]⟩,1,0,0,w6,ag,ag,ag⟩
 unfold dL
 refine go ?_
 refine aj (cs:=bV [7]) zr zr zr zr zr zr zr zr zr bD ?_
 intro row
 have jO:=F' _ _ [7] (IZ row 7) (by decide) 16
 rw[hx]at jO
 ((refine go ?_;(refine aF jO ?_)))
 rintro _ _⟨rfl,rfl⟩
 unfold eS
 refine go ?_
 refine aC zr zr zr bD ?_
 intro b6
 have sW:=zH tb bs jb bd tv 1000 ag mb [] false t0 x (by simp) ag ag (by rw[w2];exact⟨by simp,by simp⟩) ag ag 100 ag (fun t hS=>by
  have hg:=ln hS.1
  obtain⟨n,c,s,hj,sV,Db,wN⟩:=hJ0.jn
  refine⟨?_,?_,?_,?_⟩
  ·rw[hS.2,hj];exact sV
  ·rw[hS.2,hj];exact⟨by simp only;omega,by simp only;omega⟩
  ·have:=hg.1;omega
  ·have:=hg.2;omega)
 unfold dL eS at sW
 refine go ?_
 refine aH (fun w=>Sat G w ([ae wb (cl [ptr bd,ptr bs,ptr tb] 33),ae b6 (cl (bJ x) 38)])) (df 0 5 (.act 5 .nil)) rfl ak ak ak eo ?_
 refine go ?_
 refine bY (U:=aS) (l:=bJ x) 1 zr zr zr zr zr zr (go ?_)
 refine aF sW ?_
 rintro _ _⟨e1,ts1,YB,br1,t1,rfl,rfl,hB⟩
 obtain⟨y,hy,rfl,rfl,hJ1,nw,lz⟩:=Yl hx hJ0 w2 ag (fun n hn=>by rw[w4,dH _ _ hn]) hB
 have hgB:=MG hB
 have aeA:=hgB.1
 have aez:=hgB.2
 refine go ?_
 obtain⟨Y,hY⟩:∃Y,Y=Sep [X,ae row (cl (bV [7]) 5)]:=⟨_,rfl⟩
 have hKY:oD Y:=hY ▸ hK.mono (bh (i:=0) rfl)
 have hbY:eM Y (.slice (some ⟨row,0,none⟩) 1 1) [7]:=hY ▸ (IZ row 7).mono (bh (i:=1) rfl)
 have Jd:=hy
 rw[AN EW]at Jd
 have Gg:y.n=1:=congrArg TC.n Jd
 have Ev:y.ws=[0#64]:=congrArg TC.ws Jd
 have wM:=FG Y hKY tb bs jb bd YB 1000 mb [y] false t1 x 0 ag _ [7] hbY (by simp) (.slice none 0 0) [] ⟨Vw.nil Y none 0,none,0,rfl,Nat.le_refl _⟩ (by simp) (fun z hz=>by rw[List.mem_singleton.1 hz,Gg];omega) (fun z hz=>by rw[List.mem_singleton.1 hz,Gg,Ev];simp) ag ag 100 ag (fun t u h1 h2=>by
  have g1:=oq h1.1
  have g2:=sK h2.1
  have g11:=g1.1
  have g12:=g1.2
  have g21:=g2.1
  have g22:=g2.2
  obtain⟨n,c,s,hj,sV,Db,wN⟩:=hJ1.jn
  refine⟨?_,?_,ag,ag⟩
  ·rw[h2.2,h1.2,hj];exact sV
  ·rw[h2.2,h1.2,hj];exact⟨by simp only;omega,by simp only;omega⟩)
 unfold dL eS at wM
 refine ai (ao.trans (H2:=X::ae row (cl (bV [7]) 5)::ae wb (cl [ptr bd,ptr bs,ptr tb] 33)::ae b6 (cl (bJ x) 38)::ae tb (cl [ptr bs,ptr jb,YB,.bool false] 73)::az 75 1 YB [y].length ([y].map cg)::aW [y]::cB bs bd jb 1000 mb [] t1::F) ah (ao.bS [X,ae row (cl (bV [7]) 5)] _)) ?_
 rw[← hY]
 refine aH (fun w=>Sat G w ([ae wb (cl [ptr bd,ptr bs,ptr tb] 33),ae b6 (cl (bJ x) 38)])) (df 0 6 (.act 6 (.st 7 .nil))) rfl ak ak ak eo ?_
 refine go ?_
 refine bY (U:=aS) (l:=bJ x) 1 zr zr zr zr zr zr (go ?_)
 refine dD wM ?_
 rintro _ _⟨e2,ts2,br2,t2,rfl,rfl,hP⟩
 obtain⟨rfl,S7,z,rfl,hzn,hzw⟩:=Yk hx hJ1 hy nw lz hP
 have hmi:=FI tb bs jb YB br2 [z] x (by simp) (fun w hw=>by rw[List.mem_singleton.1 hw,hzn];omega) (fun w hw=>by rw[List.mem_singleton.1 hw,hzw];omega)
 rw[S7]at hmi
 unfold dL eS at hmi
 refine go ?_
 refine aH (fun w=>Sat G w ([ae wb (cl [ptr bd,ptr bs,ptr tb] 33),ae b6 (cl (bJ x) 38)])) (df 0 5 (.act 5 (df 6 5 .nil))) rfl ak ak ak eo ?_
 refine go ?_
 refine bY (U:=aS) (l:=bJ x) 1 zr zr zr zr zr zr (go ?_)
 refine bC hmi ?_
 refine go ?_
 refine ai (H':=Y::F) ah ?_
 rw[hY]
 refine ai (ao.cJ [X,ae row (cl (bV [7]) 5)] _) ?_
 refine ad hE Tryz.func4 zr zr ⟨rfl,rfl⟩
end Go.Proofs.YtdigdgohdpeebaaGreatDoor
