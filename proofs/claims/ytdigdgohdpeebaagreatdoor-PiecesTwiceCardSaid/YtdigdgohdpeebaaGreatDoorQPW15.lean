import Derived.Test.YtdigdgohdpeebaaGreatDoorQPW3
import Derived.Test.YtdigdgohdpeebaaGreatDoorQPW4
import Derived.Test.YtdigdgohdpeebaaGreatDoorQPW5
import Derived.Test.YtdigdgohdpeebaaGreatDoorQPW6
import Derived.Test.YtdigdgohdpeebaaGreatDoorQPW7
import Derived.Test.YtdigdgohdpeebaaGreatDoorQPW10
import Derived.Test.YtdigdgohdpeebaaGreatDoorQPW11
import Derived.Test.YtdigdgohdpeebaaGreatDoorQPW12
import Derived.Test.YtdigdgohdpeebaaGreatDoorQPW13
import Derived.Test.YtdigdgohdpeebaaGreatDoorQPW14
import Derived.OpenShut
import Derived.Deep.Slices
import Derived.DataElems
import Derived.Test.YtdigdgohdpeebaaGreatDoorRows
import Derived.ChangeArms
import Derived.ProofKit
import Derived.Handed
import Derived.JoinedOf
import Derived.RowKit
import Derived.WalkKit
import Derived.ShutString
import Derived.ChangeOld
import Derived.Below
import Derived.SizedLaws
import Derived.ChangeSame
import Derived.ChangeVars
set_option linter.unnecessarySimpa false
set_option linter.unusedSimpArgs false
set_option linter.unusedVariables false
set_option maxHeartbeats 4000000
set_option maxRecDepth 100000
set_option linter.defProp false
namespace Go.Proofs.YtdigdgohdpeebaaGreatDoor
open Go Go.SL
def gU(y:Tk):List Bool:=(List.range y.n).map fun i:Nat=>dF y.ws y.n (i:Int)
def gj(ts:List Tk):List (List UInt8):=ts.map fun y=>y.x.d.bs++jy (gU y)
def LQ(y:Tk):(gU y).length=y.n:=by simp[gU]
def JL(l:List Bool)(i:Nat):List Value:=(l.take i).map Value.bool++List.replicate (l.length-i) (.bool false)
def JK{l:List Bool}{i:Nat}(h:i≤l.length):(JL l i).length=l.length:=by simp[JL];omega
def Sb{l:List Bool}{i:Nat}{b:Bool}(h:l[i]?=some b):(JL l i).set i (.bool b)=JL l (i+1):=by
 have hi:i<l.length:=by rcases Nat.lt_or_ge i l.length with h1|h1;exact h1;rw[List.getElem?_eq_none h1]at h;cases h
 unfold JL
 rw[List.set_append_right _ _ (by simp;omega),List.take_add_one,h,Option.toList_some,List.map_append,List.append_assoc]
 congr 1
 rw[show l.length-i=(l.length-(i+1))+1 by omega,List.replicate_succ]
 simp
 rw[show i-min i l.length=0 by omega]
 rfl
def Sc(l:List Bool):JL l l.length=l.map Value.bool:=by simp[JL]
def LY{ts:List Tk}{k:Nat}{y:Tk}(h:ts[k]?=some y):gj (ts.take (k+1))=gj (ts.take k)++[y.x.d.bs++jy (gU y)]:=by
 unfold gj
 rw[List.take_add_one,h,Option.toList_some,List.map_append]
 rfl
def HZ(l:List Bool):(jy l).length=(l.length+7)/8:=jz l l.length
def Yc(d:Dg):d.bs.length=32:=by
 have:=cT d
 rw[dz,bt]at this
 exact this
def oh.snc{M M':fC}{cs:List Value}{ls:List (List UInt8)}{x:List UInt8}{rv:Value}(hR:oh M cs ls)(hr:CT M' 1 rv x.length (bV x))(hs:∀y∈M,y∈M'):oh M' (cs++[rv]) (ls++[x]):=by
 refine⟨by simp[hR.1],fun j y hj=>?_⟩
 rw[List.getElem?_append]at hj ⊢
 rw[hR.1]
 split at hj
 ·rename_i cW
  obtain⟨cv,h1,h2⟩:=hR.2 j y hj
  rw[if_pos cW]
  exact⟨cv,h1,h2.mono hs⟩
 ·rename_i fg
  rw[if_neg fg]
  have h0:j-ls.length=0:=by
   rcases Nat.eq_zero_or_pos (j-ls.length)with h|h
   ·exact h
   ·rw[List.getElem?_eq_none (by simp;omega)]at hj;cases hj
  rw[h0]at hj ⊢
  cases hj
  exact⟨rv,rfl,hr⟩
attribute [local irreducible] J K aE Ends ae az aQ bP bj aT aU bp bW aW jy k7
def Fx(tb bs jb:Nat)(tv:Value)(br:Bool)(ts:List Tk)(hl:ts.length≤100000)(hn:∀y∈ts,y.n≤65536)(hw:∀y∈ts,y.n≤y.ws.length*64)(Qw:∀y∈ts,y.ws.length≤65536)(hf:∀(k:Nat) (y:Tk),ts[k]?=some y→fb ts y.x=some y) :
  aE Tryz.prog 14 [ptr tb] (dL tb bs jb tv ts br) (fun r H=>H=k7 r (gj ts)::dL tb bs jb tv ts br):=by
 have XS:=IC tb bs jb tv br ts ag
 unfold dL at XS ⊢
 refine aE.au Tryz.func14 Tryz.ntmps14 fun G F R hE=>?_
 refine go ?_
 refine aF XS ?_
 rintro r _ rfl
 refine aN 0 rfl ?_
 rintro ra rc rfl
 refine go ?_
 refine cV 0 rfl ?_
 intro SO
 refine ai (bO 39 1 none _) ?_
 refine ai (ao.trans (ub 5 _) (ao.pick [1,0] rfl)) ?_
 refine bz (fun g:Nat × (Option Addr × Nat) × List Value × fC=>g.1≤ts.length∧oh g.2.2.2 g.2.2.1 (gj (ts.take g.1))) (fun g=>ts.length-g.1)
  (fun g=>[(0,ptr tb),(3,.slice g.2.1.1 (gj (ts.take g.1)).length g.2.1.2),(4,.slice ra ts.length rc),(5,.int .i64 (g.1:Int))])
  (fun g=>az 39 1 (.slice g.2.1.1 (gj (ts.take g.1)).length g.2.1.2) (gj (ts.take g.1)).length g.2.2.1::aU 5 g.2.2.2::az 38 66 (.slice ra ts.length rc) ts.length ((ts.map Tk.x).flatMap bJ)::ae tb (cl [ptr bs,ptr jb,tv,.bool br] 73)::az 75 1 tv ts.length (ts.map cg)::aW ts::F) (0,(none,0),[],[]) ⟨Nat.zero_le _,⟨rfl,fun j y hj=>by simp[gj]at hj⟩⟩ rfl cm ah ?_
 rintro⟨k,⟨oa,oc⟩,cs,M⟩⟨hk,hR⟩ ih0
 simp only at hk hR
 dsimp only
 have Pf:(gj (ts.take k)).length=k:=by simp[gj];omega
 refine go ?_
 refine aq zr zr ?_ ?_
 case' refine_2 =>
  intro fg
  have hke:k=ts.length:=by omega
  subst hke
  refine go ?_
  rw[List.take_length]at hR ⊢
  refine ai (Ek hR _) ?_
  refine aL hE Tryz.func14 rfl _ zr zr ah
 intro cW
 have hk':k<ts.length:=by omega
 obtain⟨y,hy⟩:∃y,ts[k]?=some y:=⟨ts[k],by simp⟩
 have Cf:=List.mem_of_getElem? hy
 have Gg:=hn y Cf
 have Ev:=hw y Cf
 have hyl:=Qw y Cf
 have AV:(ts.map Tk.x)[k]?=some y.x:=by rw[List.getElem?_map,hy];rfl
 obtain⟨bb,oo,cc,fO⟩:=SO.some (by rw[← List.length_pos_iff,cu wS];simp;omega)
 simp only[Value.slice.injEq,true_and]at fO
 obtain⟨rfl,rfl⟩:=fO
 have hbt:=MF tb bs jb tv br ts y.x ag Qw
 rw[hf k y hy]at hbt
 unfold Tx dL eS at hbt
 refine go ?_
 refine cG k 66 zr zr zr zr zr zr zr zr hk' ?_
 refine cR (U:=aS) (es:=bJ y.x) 2 (k*66) zr zr zr SO rfl (blE AV) zr zr zr (go ?_)
 refine aF hbt ?_
 rintro _ _⟨ob,ov,rfl,rfl⟩
 refine go ?_
 refine aO (lp ob y.n ov) ?_
 refine go ?_
 refine ij (p:=y.n) (q:=y.n) zr zr zr zr zr zr zr zr zr (Nat.le_refl _) ag (by show 1*_≤_;omega) bD ?_
 intro row
 refine go ?_
 refine bG zr zr bD ?_
 intro sb
 refine go ?_
 have MV:=LQ y
 refine ai (H':=ae row (cl (List.replicate y.n (.bool false)) 4)::ae sb (cl [.slice (some ⟨row,0,none⟩) y.n y.n] 107)::ae ob (cl [.int .i64 (y.n:Int),ov] 138)::az 134 1 ov y.ws.length (qV y.ws)::az 39 1 (.slice oa (gj (ts.take k)).length oc) (gj (ts.take k)).length cs::aU 5 M::az 38 66 (.slice (some ⟨bb,oo,none⟩) ts.length rc) ts.length ((ts.map Tk.x).flatMap bJ)::ae tb (cl [ptr bs,ptr jb,tv,.bool br] 73)::az 75 1 tv ts.length (ts.map cg)::aW ts::F) ah ?_
 refine ai (H':=az 4 1 (.slice (some ⟨row,0,none⟩) y.n y.n) y.n (JL (gU y) 0)::ae sb (cl [.slice (some ⟨row,0,none⟩) y.n y.n] 107)::ae ob (cl [.int .i64 (y.n:Int),ov] 138)::az 134 1 ov y.ws.length (qV y.ws)::az 39 1 (.slice oa (gj (ts.take k)).length oc) (gj (ts.take k)).length cs::aU 5 M::az 38 66 (.slice (some ⟨bb,oo,none⟩) ts.length rc) ts.length ((ts.map Tk.x).flatMap bJ)::ae tb (cl [ptr bs,ptr jb,tv,.bool br] 73)::az 75 1 tv ts.length (ts.map cg)::aW ts::F) ?_ ?_
 ·have h:=dR 4 1 row y.n y.n (JL (gU y) 0) [] (ae sb (cl [.slice (some ⟨row,0,none⟩) y.n y.n] 107)::ae ob (cl [.int .i64 (y.n:Int),ov] 138)::az 134 1 ov y.ws.length (qV y.ws)::az 39 1 (.slice oa (gj (ts.take k)).length oc) (gj (ts.take k)).length cs::aU 5 M::az 38 66 (.slice (some ⟨bb,oo,none⟩) ts.length rc) ts.length ((ts.map Tk.x).flatMap bJ)::ae tb (cl [ptr bs,ptr jb,tv,.bool br] 73)::az 75 1 tv ts.length (ts.map cg)::aW ts::F) (by rw[JK (Nat.zero_le _)];omega) (Nat.le_refl _) (by rw[JK (Nat.zero_le _)];simp;omega)
  rw[List.append_nil]at h
  refine ao.trans ?_ h
  rw[show JL (gU y) 0=List.replicate y.n (.bool false)from by simp[JL,MV]]
  exact ao.refl _
 refine bz (fun j:Nat=>j≤y.n) (fun j=>y.n-j)
  (fun j=>[(0,ptr tb),(3,.slice oa (gj (ts.take k)).length oc),(4,.slice (some ⟨bb,oo,none⟩) ts.length rc),(5,.int .i64 (k:Int)),(6,ptr ob),(8,ptr sb),(9,.int .i64 (j:Int))])
  (fun j=>az 4 1 (.slice (some ⟨row,0,none⟩) y.n y.n) y.n (JL (gU y) j)::ae sb (cl [.slice (some ⟨row,0,none⟩) y.n y.n] 107)::ae ob (cl [.int .i64 (y.n:Int),ov] 138)::az 134 1 ov y.ws.length (qV y.ws)::az 39 1 (.slice oa (gj (ts.take k)).length oc) (gj (ts.take k)).length cs::aU 5 M::az 38 66 (.slice (some ⟨bb,oo,none⟩) ts.length rc) ts.length ((ts.map Tk.x).flatMap bJ)::ae tb (cl [ptr bs,ptr jb,tv,.bool br] 73)::az 75 1 tv ts.length (ts.map cg)::aW ts::F) 0 (Nat.zero_le _) rfl cm ah ?_
 intro j hj ih
 refine go ?_
 refine aO (lp ob y.n ov) ?_
 refine go ?_
 refine aq zr zr ?_ ?_
 ·intro uG
  have nF:j<y.n:=by omega
  have hbj:(gU y)[j]?=some (dF y.ws y.n (j:Int)):=by unfold gU;rw[List.getElem?_map,List.getElem?_range nF];rfl
  have hha:=uC ob y.n ov y.ws Gg Ev (j:Int)
  refine aH (fun w=>Sat G w ([ae sb (cl [.slice (some ⟨row,0,none⟩) y.n y.n] 107)])) (df 0 7 (.act 7 (.st 8 (.act 9 .nil)))) rfl ak ak ak eo ?_
  refine go ?_
  refine bC hha ?_
  refine go ?_
  refine bI j zr zr zr zr zr zr zr zr nF ?_
  refine aI (H':=az 4 1 (.slice (some ⟨row,0,none⟩) y.n y.n) y.n (JL (gU y) j)::ae sb (cl [.slice (some ⟨row,0,none⟩) y.n y.n] 107)::ae ob (cl [.int .i64 (y.n:Int),ov] 138)::az 134 1 ov y.ws.length (qV y.ws)::az 39 1 (.slice oa (gj (ts.take k)).length oc) (gj (ts.take k)).length cs::aU 5 M::az 38 66 (.slice (some ⟨bb,oo,none⟩) ts.length rc) ts.length ((ts.map Tk.x).flatMap bJ)::ae tb (cl [ptr bs,ptr jb,tv,.bool br] 73)::az 75 1 tv ts.length (ts.map cg)::aW ts::F) ah ?_
  refine aV ?_
  refine iT (q:=j) 0 gB zr zr zr zr zr zr zr nF rfl ?_
  rw[Sb hbj]
  refine go ?_
  refine aM ih (j+1) rfl ag ag cm ah
 intro fg
 have Lj:j=y.n:=by omega
 subst Lj
 clear ih
 rw[show JL (gU y) y.n=(gU y).map Value.bool from by rw[← Sc,MV]]
 have Tn:=ME sb (.slice (some ⟨row,0,none⟩) y.n y.n) (gU y) ag
 rw[MV]at Tn
 have abK:Vw (az 38 66 (.slice (some ⟨bb,oo,none⟩) ts.length rc) ts.length ((ts.map Tk.x).flatMap bJ)) (.slice (some ⟨bb,oo+k*66,none⟩) 32 32) 32 (dC y.x.d):=by
  have h1:=(SO.back 32 32 (k*66)).front 32 32 32
  have e:(((ts.map Tk.x).flatMap bJ).drop (k*66)).take 32=dC y.x.d:=by
   apply List.ext_getElem?
   intro q
   rw[List.getElem?_take,List.getElem?_drop]
   rcases Nat.lt_or_ge q 32 with h|h
   ·rw[if_pos h]
    refine(blE AV q _ ?_).trans (HS y.x.d h).symm
    show(dC y.x.d++_)[q]?=_
    rw[List.getElem?_append_left (by rw[cT];exact h),HS y.x.d h]
   ·rw[if_neg ag,List.getElem?_eq_none (by rw[cT];exact h)]
  rw[e]at h1
  exact h1
 refine go ?_
 refine aj (cs:=[]) zr zr zr zr zr zr zr zr zr bD ?_
 intro b0
 refine aI (dR 5 1 b0 0 0 [] [] _ rfl (Nat.le_refl _) (by simp)) (go ?_)
 refine cG k 66 zr zr zr zr zr zr zr zr hk' (go ?_)
 refine g8 (U:=aS) zr zr zr zr zr ?_
 refine aI (H':=az 5 1 (.slice (some ⟨b0,0,none⟩) 0 0) 0 []::az 38 66 (.slice (some ⟨bb,oo,none⟩) ts.length rc) ts.length ((ts.map Tk.x).flatMap bJ)::az 4 1 (.slice (some ⟨row,0,none⟩) y.n y.n) y.n ((gU y).map Value.bool)::ae sb (cl [.slice (some ⟨row,0,none⟩) y.n y.n] 107)::az 39 1 (.slice oa (gj (ts.take k)).length oc) (gj (ts.take k)).length cs::aU 5 M::ae tb (cl [ptr bs,ptr jb,tv,.bool br] 73)::az 75 1 tv ts.length (ts.map cg)::aW ts::F) ah ?_
 refine aR (mm:=32) (news:=dC y.x.d) 0 1 zr zr zr zr zr zr zr zr zr zr zr zr abK rfl (by rw[dz];exact cO _) ag (by show(_+_)*1≤_;omega) (fun _=>rfl) bD ?_
 intro vA
 have jO:(jy (gU y)).length≤8192:=by rw[HZ,MV];omega
 rw[List.nil_append,dz]
 refine aN 0 rfl ?_
 rintro xa xc rfl
 refine go ?_
 refine aF Tn ?_
 rintro r2 _ rfl
 refine aI (H':=az 5 1 (.slice xa (0+32) xc) (0+32) (bV y.x.d.bs)::az 5 1 r2 (jy (gU y)).length (bV (jy (gU y)))::az 39 1 (.slice oa (gj (ts.take k)).length oc) (gj (ts.take k)).length cs::aU 5 M::az 38 66 (.slice (some ⟨bb,oo,none⟩) ts.length rc) ts.length ((ts.map Tk.x).flatMap bJ)::ae tb (cl [ptr bs,ptr jb,tv,.bool br] 73)::az 75 1 tv ts.length (ts.map cg)::aW ts::F) ah ?_
 refine iw 1 rfl ?_
 intro ry
 refine go ?_
 obtain⟨x9,hx9⟩:∃z,z=y.x.d.bs++jy (gU y):=⟨_,rfl⟩
 have acE:x9.length=0+32+(jy (gU y)).length:=by rw[hx9,List.length_append,Yc]
 refine aR (mm:=(jy (gU y)).length) (news:=bV (jy (gU y))) 0 1 zr zr zr zr zr zr zr zr zr zr zr zr ry (by show _=_*1;rw[bt];omega) (cO _) ag (by show(_+_)*1≤_;omega) (fun _=>rfl) bD ?_
 intro vB
 rw[show bV y.x.d.bs++bV (jy (gU y))=bV x9 from by rw[hx9];simp[bV],← acE]
 refine aN 0 rfl ?_
 rintro xa2 xc2 rfl
 refine go ?_
 refine aj zr zr zr zr zr zr zr zr zr bD ?_
 intro b2
 refine aR (mm:=1) (news:=[.slice xa2 x9.length xc2]) 3 0 zr zr zr zr zr zr zr zr zr zr zr zr (Vw.ae rfl) rfl (by simp[Value.oneCell']) ag (by show(_+1)*24≤_;omega) (fun _=>rfl) bD ?_
 intro v2
 have OJ:=LY hy
 rw[← hx9]at OJ
 rw[show(gj (ts.take k)).length+1=(gj (ts.take (k+1))).length from by rw[OJ];simp]
 refine aN 3 rfl ?_
 rintro oa2 oc2 rfl
 refine go ?_
 refine ai (H':=az 5 1 (.slice xa2 x9.length xc2) x9.length (bV x9)::aU 5 M::az 39 1 (.slice oa2 (gj (ts.take (k+1))).length oc2) (gj (ts.take (k+1))).length (cs++[.slice xa2 x9.length xc2])::az 38 66 (.slice (some ⟨bb,oo,none⟩) ts.length rc) ts.length ((ts.map Tk.x).flatMap bJ)::ae tb (cl [ptr bs,ptr jb,tv,.bool br] 73)::az 75 1 tv ts.length (ts.map cg)::aW ts::F) ah ?_
 refine ai (ao.join _ _ _) ?_
 refine er (xQ 5 1 x9.length _ (bV x9) M) ?_
 rintro M'⟨ac1,ef⟩
 refine aM ih0 (k+1,(oa2,oc2),cs++[.slice xa2 x9.length xc2],M') rfl ⟨by show k+1≤ts.length;omega,by simp only;rw[OJ];exact hR.snc ac1 ef⟩ (by show ts.length-(k+1)<ts.length-k;omega) cm ah
end Go.Proofs.YtdigdgohdpeebaaGreatDoor
namespace Go.Proofs.YtdigdgohdpeebaaGreatDoor
open Go Go.SL
variable{b:Bl}{jM:Bool}{ek ts:List Tk}{e i:Nat}{t x:SJ}
abbrev C8(i:Nat)(x:SJ)(ts:List Tk):Prop:=nk (1+i) i (100+20*i) i x ts
def nk.mono{k w u j k' w' u' j':Nat}(h:nk k w u j x ts)(hk:k≤k')(hw:w≤w')(hu:u≤u')(hj:j≤j'):nk k' w' u' j' x ts:=⟨h.cs.mono hk hw hu,h.cj.mono hj⟩
def C8.begin(h:C8 i x ts)(hi:i<50)(hs:bF b=true→b.size≤600)(hR:MH 1048576 b ts x false e ek jM t):jM=false∧C8 (i+1) t ek:=by
 obtain⟨h1,h2,_⟩:=nk.begin h ag ag ag hs hR
 exact⟨h1,h2.mono ag ag ag ag⟩
def C8.put{p:Int}{bs:List UInt8}{pf:List Dg}(h:C8 i x ts)(hi:i<50)(hR:Mc b p bs pf ts x false e ek jM t):jM=false∧C8 (i+1) t ek:=by
 obtain⟨h1,h2,_⟩:=nk.put h ag ag hR
 exact⟨h1,h2.mono ag ag ag ag⟩
def C8.fin{r:Int}(h:C8 i x ts)(hi:i<50)(hR:Yz b ts x false r ek jM t):jM=false∧C8 (i+1) t ek:=by
 obtain⟨h1,h2,_⟩:=nk.fin h ag ag hR
 exact⟨h1,h2.mono ag ag ag ag⟩
def C8.next(h:C8 i x ts):C8 (i+1) x ts:=h.mono ag ag ag ag
def C8.abort{v t:SJ}{e':Nat}(h:C8 i x ts)(hi:i<50)(hf:(fb ts b).isSome=true)(hA:dZ (gN b) x e v):e=0∧∀ {e' t},iA (jD (Cu b.d)) v e' t→e'=0∧C8 (i+1) t (mQ ts b.d):=by
 obtain⟨h1,h2⟩:=nk.abort h (e':=e') (t:=t) ag ag hf hA
 refine⟨h1,fun {e' t} hr=>?_⟩
 obtain⟨g1,g2,_⟩:=h2 hr
 exact⟨g1,g2.mono ag ag ag ag⟩
def Be:∀ {ts:List Tk} {k:Nat} {y:Tk},(ts.map fun y=>y.x.d).Nodup→ts[k]?=some y→fb ts y.x=some y
 | [],k,y,_,h=>by simp at h
 | z::ts,0,y,_,h=>by
  simp only[List.getElem?_cons_zero,Option.some.injEq]at h
  subst h
  unfold fb
  simp
 | z::ts,k+1,y,hn,h=>by
  rw[List.map_cons,List.nodup_cons]at hn
  rw[List.getElem?_cons_succ]at h
  have bZ:z.x≠y.x:=fun e=>hn.1 (List.mem_map.2 ⟨y,List.mem_of_getElem? h,by rw[e]⟩)
  have:=Be hn.2 h
  unfold fb at this ⊢
  rw[List.find?_cons_of_neg (by simpa using bZ)]
  exact this
def LZ(h:Aj (gu ts) (gu ek)):gj ts=gj ek:=by
 have hl:ts.length=ek.length:=by have:=h.1;rw[tZ,tZ]at this;exact this
 unfold gj
 apply List.ext_getElem?
 intro i
 rw[List.getElem?_map,List.getElem?_map]
 rcases Nat.lt_or_ge i ts.length with hi|hi
 ·obtain⟨y,hy⟩:∃y,ts[i]?=some y:=⟨ts[i],by simp⟩
  obtain⟨z,hz⟩:∃y,ek[i]?=some y:=⟨ek[i]' ag,by simp⟩
  have he:=h.2 i y.c z.c (by unfold gu;rw[List.getElem?_map,hy];rfl) (by unfold gu;rw[List.getElem?_map,hz];rfl)
  have hx:y.x=z.x:=he.x
  have hn:y.n=z.n:=he.n
  have hb:∀l:Int,dF y.ws y.n l=dF z.ws z.n l:=he.b
  rw[hy,hz,Option.map_some,Option.map_some,hx]
  have e:gU y=gU z:=by
   unfold gU
   rw[← hn]
   refine List.map_congr_left fun j _=>?_
   rw[hb,hn]
  rw[e]
 ·rw[List.getElem?_eq_none hi,List.getElem?_eq_none ag]
def nk.table{k w u j:Nat}{ts:List Tk}(h:nk k w u j x ts)(hw:w≤150)(hu:u≤9000):ts.length≤100000∧(∀y∈ts,y.n≤65536)∧(∀y∈ts,y.n≤y.ws.length*64)∧(∀y∈ts,y.ws.length≤65536)∧∀(k:Nat) (y:Tk),ts[k]?=some y→fb ts y.x=some y:=by
 obtain⟨b1,b2,b3,b4,_⟩:=h.bnd hw hu
 exact⟨ag,b2,b3,b4,fun k y hy=>Be h.cs.nd hy⟩
end Go.Proofs.YtdigdgohdpeebaaGreatDoor
namespace Go.SL
open Go Go.RowKit Go.ChangeShapes Go.WideShapes
abbrev i64(x:Int):Prop := -9223372036854775808≤x∧x≤9223372036854775807
section
variable{P:Program}{H:Type}{enc:TypeId × Value→H}{W:World}{base:Nat}{spare:Nat→Bool}{held:Bool}
def KL{α:Type}[Inhabited α]{t e:TypeId}(ht:P.underlying t=some (.slice e))(g:α→List Value)(s:Nat)(YF:0<s)(hs:∀x,(g x).length=s)(hc:P.cellsOf e=s)(Q:α→Prop)(k9:∀(fuel:Nat) (cs:List Value) (x:DataW H × List MemPlace),DataW.trod enc P W base spare held fuel e cs=some x→∃y,cs=g y∧Q y){fuel:Nat}{cs:List Value}{x:DataW H × List MemPlace}(h:DataW.trod enc P W base spare held fuel t cs=some x):∃(l:List α) (a:Option Addr) (c:Nat),cs=[.slice a l.length c]∧Vw (old W) (.slice a l.length c) l.length (l.flatMap g)∧(∀x∈l,Q x)∧l.length≤9223372036854775807:=by
 have hmx:maxLen=9223372036854775807:=by decide
 rcases Go.Deep.open_slice ht h with⟨pE,_⟩|⟨a,len,cap,m,n,D,Pl,pE,hb,hl,hm,hmm,_,hx⟩
 ·subst pE
  exact⟨[],none,0,rfl,⟨none,0,rfl,.inl rfl⟩,by simp,by simp⟩
 ·subst pE
  have AY:len≤m:=by rw[hmm];split <;> omega
  have ru:∀i,i<len→∃y:α,(∀k,k<s→W.cell? (a.add (i*s+k))=(g y)[k]?)∧Q y:=fun i hi=>by
   obtain⟨j9,h1,h2⟩:=hx i ag
   obtain⟨y,rfl,hy⟩:=k9 _ _ _ h2
   rw[hc]at h1
   obtain⟨_,_,h3⟩:=World.cells?_some h1
   refine⟨y,fun k hk=>?_,hy⟩
   rw[← h3 k hk,Addr.add_add]
  obtain⟨f,hfy⟩:=Go.Deep.choose_lt ru
  refine⟨(List.range len).map f,some a,cap,by simp,⟨some a,cap,by simp,?_⟩,?_,by simp;omega⟩
  ·rcases Nat.eq_zero_or_pos len with h0|h0
   ·left;subst h0;simp
   ·right
    obtain⟨b,o,spot⟩:=a
    have iQ:spot=none:=by
     have:=(hfy 0 h0).1 0 YF
     rw[Nat.zero_mul,Nat.zero_add,List.getElem?_eq_getElem (by rw[hs];exact YF)]at this
     simpa[Addr.add]using World.cell?_spot (this.trans rfl)
    subst iQ
    refine⟨b,o,rfl,fun h ho j c hj=>?_⟩
    have uG:j<len*s:=by
     rcases Nat.lt_or_ge j (len*s)with h|h
     ·exact h
     ·rw[List.getElem?_eq_none (by rw[cu hs];simpa using h)]at hj;cases hj
    have hd:j/s<len:=Nat.div_lt_of_lt_mul (by rw[Nat.mul_comm];exact uG)
    have hk:j%s<s:=Nat.mod_lt _ YF
    have hjj:j/s*s+j%s=j:=by rw[Nat.mul_comm];exact Nat.div_add_mod _ _
    have h1:=cP hs (l:=(List.range len).map f) (i:=j/s) (x:=f (j/s)) (by simp[hd]) (j%s) hk
    rw[hjj,hj]at h1
    have h2:=(hfy _ hd).1 _ hk
    rw[hjj,Addr.add_eq]at h2
    exact nv ho (h2.trans h1.symm)
  ·intro x hx
   obtain⟨i,hi,rfl⟩:=List.mem_map.1 hx
   exact(hfy i (by simpa using hi)).2
inductive nj(enc:TypeId × Value→H)(P:Program)(W:World)(base:Nat)(spare:Nat→Bool)(held:Bool)(n:Nat):List TypeId→List Value→Prop where
 | nil:nj enc P W base spare held n [] []
 | cons {t:TypeId} {ts:List TypeId} {cs rest:List Value} {x:DataW H × List MemPlace} (h:DataW.trod enc P W base spare held n t cs=some x) (hr:nj enc P W base spare held n ts rest):nj enc P W base spare held n (t::ts) (cs++rest)
def KP(P:Program):Nat→List TypeId→List Nat
 | _,[]=>[]
 | o,t::ts=>o::KP P (o+P.cellsOf t) ts
def D7{t:TypeId}{fs:Array Field}(ht:P.underlying t=some (.struct fs))(ho:fs.toList.map Field.offset=KP P 0 (fs.toList.map Field.type))(hn:P.cellsOf t=(fs.toList.map fun f:Field=>P.cellsOf f.type).sum){fuel:Nat}{cs:List Value}{x:DataW H × List MemPlace}(h:DataW.trod enc P W base spare held fuel t cs=some x):∃n,nj enc P W base spare held n (fs.toList.map Field.type) cs:=by
 obtain⟨xs,n,_,_,hlen,MM,hf⟩:=DataW.trod_struct ht h
 refine⟨n,?_⟩
 have key:∀(l:List Field) (o k:Nat) (cs:List Value),cs.length=(l.map fun f:Field=>P.cellsOf f.type).sum→l.map Field.offset=KP P o (l.map Field.type) →
   (∀(j:Nat) (f:Field),l[j]?=some f→∃y,DataW.trod enc P W base spare held n f.type ((cs.drop (f.offset-o)).take (P.cellsOf f.type))=some y)→nj enc P W base spare held n (l.map Field.type) cs:=by
  intro l
  induction l with
  | nil=>intro o k cs hl _ _;simp at hl;subst hl;exact .nil
  | cons f l ih =>
   intro o k cs hl ji gp
   simp only[List.map_cons,List.sum_cons]at hl
   simp only[List.map_cons,KP,List.cons.injEq]at ji
   obtain⟨h1,h2⟩:=ji
   obtain⟨y,hy⟩:=gp 0 f rfl
   rw[h1,Nat.sub_self,List.drop_zero]at hy
   have ef:=ih (o+P.cellsOf f.type) 0 (cs.drop (P.cellsOf f.type)) (by rw[List.length_drop];omega) h2 (fun j f' hj=>by
    obtain⟨y',WZ⟩:=gp (j+1) f' (by simpa using hj)
    have fg:o+P.cellsOf f.type≤f'.offset:=by
     have e9:f'.offset∈KP P (o+P.cellsOf f.type) (l.map Field.type):=by rw[← h2];exact List.mem_map.2 ⟨f',List.mem_of_getElem? hj,rfl⟩
     have aa8:∀(ts:List TypeId) (p q:Nat),q∈KP P p ts→p≤q:=by
      intro ts
      induction ts with
      | nil=>intro p q hq;cases hq
      | cons t ts ih=>intro p q hq;rcases List.mem_cons.1 hq with rfl|hq;exact Nat.le_refl _;have:=ih _ _ hq;omega
     exact aa8 _ _ _ e9
    refine⟨y',?_⟩
    rw[List.drop_drop,show P.cellsOf f.type+(f'.offset-(o+P.cellsOf f.type))=f'.offset-o from by omega]
    exact WZ)
   have:=nj.cons hy ef
   rw[List.take_append_drop]at this
   exact this
 refine key fs.toList 0 0 cs (by rw[hlen,hn]) ho fun j f hj=>?_
 have nF:fs[j]?=some f:=by simpa using hj
 have uG:j<xs.length:=by
  rw[MM]
  rcases Nat.lt_or_ge j fs.size with h|h
  ·exact h
  ·rw[Array.getElem?_eq_none h]at nF;cases nF
 refine⟨xs[j],?_⟩
 rw[Nat.sub_zero]
 have:=hf j f nF
 rw[this]
 simp[uG]
def nj.inv{n:Nat}{t:TypeId}{ts:List TypeId}{cs:List Value}(h:nj enc P W base spare held n (t::ts) cs):∃c0 rest x,cs=c0++rest∧DataW.trod enc P W base spare held n t c0=some x∧nj enc P W base spare held n ts rest:=by
 cases h with
 | cons h hr=>exact⟨_,_,_,rfl,h,hr⟩
def nj.acy{n:Nat}{cs:List Value}(h:nj enc P W base spare held n [] cs):cs=[]:=by cases h;rfl
def nj.int{n:Nat}{t:TypeId}{ts:List TypeId}{cs:List Value}{k:IntKind}(h:nj enc P W base spare held n (t::ts) cs)(ht:P.underlying t=some (.int k)):∃(z:Int) (rest:List Value),cs = .int k z::rest∧(Lit.int k z).wf=true∧nj enc P W base spare held n ts rest:=by
 obtain⟨c0,rest,x,rfl,h0,hr⟩:=h.inv
 obtain⟨z,rfl,_,hw⟩:=DataW.trod_int ht h0
 exact⟨z,rest,rfl,hw,hr⟩
end
end Go.SL
namespace Go.Proofs.YtdigdgohdpeebaaGreatDoor
open Go Go.SL Go.RowKit Go.ChangeShapes Go.WideShapes
section
variable{H:Type}{enc:TypeId × Value→H}{W:World}{base:Nat}{spare:Nat→Bool}{held:Bool}
instance:Inhabited Bl:=⟨Bl.zero⟩
def vO(fuel:Nat)(cs:List Value)(x:DataW H × List MemPlace)(h:DataW.trod enc Tryz.prog W base spare held fuel 39 cs=some x):∃(bs:List UInt8) (a:Option Addr) (c:Nat),cs=[.slice a bs.length c]∧bs.length≤9223372036854775807∧eM (old W) (.slice a bs.length c) bs:=by
 have hmx:maxLen=9223372036854775807:=by decide
 rcases open_ints Tryz.underlying39 Tryz.underlying5 ak h with⟨pE,_⟩|⟨x,l,c,zs,pE,_,hl,hm,hz,_,dm,hwz⟩
 ·subst pE
  exact⟨[],none,0,rfl,by simp,N8 W,none,0,rfl,Nat.le_refl _⟩
 ·subst pE
  obtain⟨bs,h1,h2⟩:=HY (len:=l) (cap:=c) (by split at hz <;> omega) dm hwz
  subst h1
  exact⟨bs,some x,c,rfl,ag,h2,_,c,rfl,hl⟩
end
end Go.Proofs.YtdigdgohdpeebaaGreatDoor
namespace Go.Proofs.YtdigdgohdpeebaaGreatDoor
open Go Go.SL Go.RowKit Go.ChangeShapes Go.WideShapes
instance:Inhabited Af:=⟨⟨0,none,0,[],0,0,0,0,0,none,0,[]⟩⟩
structure JS(X:HP)(s:Af):Prop where
 d:SL.i64 s.d
 m:SL.i64 s.m
 i:SL.i64 s.i
 n:SL.i64 s.n
 cut:SL.i64 s.cut
 a:eM X (.slice s.aa s.a.length s.ac) s.a
 al:s.a.length≤9223372036854775807
 b:eM X (.slice s.ba s.b.length s.bc) s.b
 bl:s.b.length≤9223372036854775807
def Ib(X:HP)(v:Value)(l:List Af):Prop:=Vw X v l.length (l.flatMap kp)∧l.length≤9223372036854775807∧∀s∈l,JS X s
section
variable{H:Type}{enc:TypeId × Value→H}{W:World}{base:Nat}{spare:Nat→Bool}{held:Bool}
def G6(fuel:Nat)(cs:List Value)(x:DataW H × List MemPlace)(h:DataW.trod enc Tryz.prog W base spare held fuel 44 cs=some x):∃y:Af,cs=kp y∧JS (old W) y:=by
 obtain⟨n,hp⟩:=D7 (Tryz.underlying44:_=some (TypeDesc.struct _)) ak ak h
 obtain⟨z0,r0,rfl,w0,hp⟩:=hp.int Tryz.underlying3
 obtain⟨c1,r1,x1,rfl,h1,hp⟩:=hp.inv
 obtain⟨z2,r2,rfl,w2,hp⟩:=hp.int Tryz.underlying3
 obtain⟨z3,r3,rfl,w3,hp⟩:=hp.int Tryz.underlying3
 obtain⟨z4,r4,rfl,w4,hp⟩:=hp.int Tryz.underlying3
 obtain⟨z5,r5,rfl,w5,hp⟩:=hp.int Tryz.underlying3
 obtain⟨z6,r6,rfl,w6,hp⟩:=hp.int Tryz.underlying5
 obtain⟨c7,r7,x7,rfl,h7,hp⟩:=hp.inv
 have:=hp.acy
 subst this
 obtain⟨a,aa,ac,rfl,ha1,ha2⟩:=vO _ _ _ h1
 obtain⟨b,ba,bc,rfl,nw,pF⟩:=vO _ _ _ h7
 have hw:0≤z6∧z6<256:=by
  simp only[Lit.wf,Bool.and_eq_true,decide_eq_true_eq]at w6
  have e1:IntKind.u8.min=0:=by decide
  have e2:IntKind.u8.max=255:=by decide
  omega
 obtain⟨t,ht⟩:=Kb hw.1 hw.2
 exact⟨⟨z0,aa,ac,a,z2,z3,z4,z5,t,ba,bc,b⟩,by simp[kp,ht],nW w0,nW w2,nW w3,nW w4,nW w5,ha2,ha1,pF,nw⟩
def D8{fuel:Nat}{v:Value}{x:DataW H × List MemPlace}(h:DataW.trod enc Tryz.prog W base spare held fuel 22 [v]=some x):∃l:List Af,Ib (old W) v l:=by
 obtain⟨l,a,c,pE,h1,h2,h3⟩:=KL Tryz.underlying22 kp 8 ag pQ ak (JS (old W)) G6 h
 simp only[List.cons.injEq,and_true]at pE
 subst pE
 exact⟨l,h1,h3,h2⟩
end
def oI{l:List Af}{i:Nat}{s:Af}(h:l[i]?=some s)(q:Nat)(hq:q<8):(l.flatMap kp)[i*8+q]?=(kp s)[q]? := cP pQ h q hq
def CM(s:Af):Prop:=s.a.length≤600∧s.b.length≤2000∧¬(3000<s.i∧s.d=6)
attribute [local irreducible] J K aE Ends ae az aQ bP bj aT aU bp bW
def KR(X:HP)(v:Value)(l:List Af)(hv:Vw X v l.length (l.flatMap kp))(hl:l.length≤9223372036854775807)(hs:∀s∈l,JS X s) :
  aE Tryz.prog 5 [v] [X] (fun r H=>∃b:Bool,r = .bool b∧H=[X]∧(b=false→∀(i:Nat) (s:Af),i<100→l[i]?=some s→CM s)):=by
 obtain⟨a,c,rfl⟩:=hv.shape
 refine aE.au Tryz.func5 Tryz.ntmps5 fun G F R hE=>?_
 refine go ?_
 refine bz (fun y:Nat × Nat=>y.1≤l.length∧y.1≤100∧y.2≤30000∧∀(i:Nat) (s:Af),i<y.1→l[i]?=some s→CM s) (fun y=>l.length-y.1)
  (fun y=>[(0,.slice a l.length c),(3,.int .i64 (y.2:Int)),(4,.int .i64 (y.1:Int))]) (fun _=>X::F) (0,0) ⟨ag,ag,ag,fun i s h=>by simp at h⟩ rfl cm ah ?_
 rintro⟨i,n⟩⟨hi,Tc,hn,u6⟩ ih
 simp only at hi Tc hn u6
 by_cases gP:i<l.length∧i<100
 case neg =>
  have lg:∀(j:Nat) (s:Af),j<100→l[j]?=some s→CM s:=fun j s hj hs=>u6 j s (by
   rcases Nat.lt_or_ge j l.length with h|h
   ·omega
   ·rw[List.getElem?_eq_none h]at hs;cases hs) hs
  refine go ?_
  by_cases h1:i<l.length
  ·refine aB 9 ((.bool true)) rfl ((congrArg Value.bool (decide_eq_true ag))) (go ?_)
   ((refine bu 12 ((.bool false)) rfl ((congrArg Value.bool (decide_eq_false (by simp only;omega)))) ?_))
   refine go ?_
   refine ad hE Tryz.func5 zr zr ⟨false,rfl,rfl,fun _=>lg⟩
  ·refine aB 9 ((.bool false)) rfl ((congrArg Value.bool (decide_eq_false ag))) (go ?_)
   refine ad hE Tryz.func5 zr zr ⟨false,rfl,rfl,fun _=>lg⟩
 obtain⟨Gk,ad'⟩:=gP
 obtain⟨⟨sd,saa,sac,sa,sm,si,sn,acs,st,sba,sbc,sb⟩,hx⟩:∃s,l[i]?=some s:=⟨l[i],by simp⟩
 have kQ:=hs _ (List.mem_of_getElem? hx)
 have s0:(l.flatMap kp)[i*8+0]?=some (.int .i64 sd):=oI hx 0 ag
 have s2:(l.flatMap kp)[i*8+1]?=some (.slice saa sa.length sac):=oI hx 1 ag
 have s3:(l.flatMap kp)[i*8+3]?=some (.int .i64 si):=oI hx 3 ag
 have s6:(l.flatMap kp)[i*8+7]?=some (.slice sba sb.length sbc):=oI hx 7 ag
 have Pf:=kQ.al
 have jO:=kQ.bl
 simp only at Pf jO
 obtain⟨bb,oo,cc,fO⟩:=hv.some (by rw[← List.length_pos_iff,cu pQ];omega)
 simp only[Value.slice.injEq,true_and]at fO
 obtain⟨rfl,rfl⟩:=fO
 refine go ?_
 refine aB 9 ((.bool true)) rfl ((congrArg Value.bool (decide_eq_true ag))) (go ?_)
 ((refine bu 12 ((.bool true)) rfl ((congrArg Value.bool (decide_eq_true (by simp only;omega)))) ?_))
 repeat'(first|(with_reducible intro pH)|refine gO ?_|refine iy zr zr zr zr ?_ ?_|refine aq zr zr ?_ ?_|refine cG i 8 zr zr zr zr zr zr zr zr Gk ?_|(refine aK ?_;first|refine aX 0 (i*8+7) zr zr zr hv (Nat.add_assoc _ _ _) s6 zr zr ?_|refine aX 0 (i*8+1) zr zr zr hv (Nat.add_assoc _ _ _) s2 zr zr ?_|refine aX 0 (i*8+3) zr zr zr hv (Nat.add_assoc _ _ _) s3 zr zr ?_|refine aX 0 (i*8+0) zr zr zr hv (Nat.add_assoc _ _ _) s0 zr zr ?_))
 any_goals ((refine ad hE Tryz.func5 zr zr ⟨true,rfl,rfl,fun h=>by cases h⟩))
 all_goals(
  have Ch:CM ⟨sd,saa,sac,sa,sm,si,sn,acs,st,sba,sbc,sb⟩:=⟨by simp only;omega,by simp only;omega,by simp only;omega⟩
  refine go ?_
  refine aH (fun w=>Sat G w ([X])) (df 0 16 .nil) rfl ak ak ak eo ?_
  (repeat(first|refine gO ?_|refine cG i 8 zr zr zr zr zr zr zr zr Gk ?_|(refine aK ?_;first|refine bX 0 (i*8+7) zr zr zr hv (Nat.add_assoc _ _ _) s6 zr zr ?_|refine bX 0 (i*8+1) zr zr zr hv (Nat.add_assoc _ _ _) s2 zr zr ?_)))
  refine aq zr zr ?_ ?_
  ·intro tN
   refine go ?_
   (refine ad hE Tryz.func5 zr zr ⟨true,rfl,rfl,fun h=>by cases h⟩)
  ·intro hle
   refine go ?_
   refine aM ih (i+1,n+sa.length+sb.length) rfl ⟨by simp only;omega,by simp only;omega,by simp only at hle ⊢;omega,fun q z hq hz=>?_⟩ (by simp only;omega) cm ah
   rcases Nat.lt_or_ge q i with h|h
   ·exact u6 q z h hz
   ·have:q=i:=by simp only at hq;omega
    subst this
    rw[hx]at hz;cases hz;exact Ch)
end Go.Proofs.YtdigdgohdpeebaaGreatDoor
namespace Go.Proofs.YtdigdgohdpeebaaGreatDoor
open Go Go.SL
def BM{e:TypeId}{n:Nat}{v:Value}{cs:List Value}(h0:∃h,az e 1 v n cs h):∃a c,v = .slice a n c∧n≤c:=by
 obtain⟨h,hl,⟨a,rfl,hn,_⟩|⟨b,o,cap,pre,bR,rfl,hp,hn,hc,_⟩⟩:=h0
 ·exact⟨a,0,by rw[hn],ag⟩
 ·exact⟨_,cap,rfl,hn⟩
attribute [local irreducible] J K aE Ends ae az aQ bP bj aT aU bp bW aD LI k7
def PU(A B:HP)(v1 v2:Value)(l1 l2:List (List UInt8))(h1:qv A v1 l1)(h2:qv B v2 l2)(hl:l1.length≤1000000000) :
    aE Tryz.prog 15 [v1,v2] [A,B] (fun r H=>r = .bool (decide (l1=l2))∧H=[A,B]):=by
  obtain⟨X',lz,EW,⟨a1,c1,rfl,aeI⟩,Lo⟩:=h1
  obtain⟨Fi,ry,mT,⟨a2,c2,rfl,aeH⟩,yF⟩:=h2
  refine aE.au Tryz.func15 Tryz.ntmps15 fun G F R hE=>?_
  refine go ?_
  refine aq zr zr ?_ ?_
  · intro bZ
    rw[decide_eq_false (show ¬l1=l2 from fun e=>by subst e;exact bZ rfl)]at hE
    refine go ?_
    refine ad hE Tryz.func15 zr zr ⟨rfl,rfl⟩
  intro aeF
  have hlen:l1.length=l2.length:=by omega
  refine go ?_
  refine bz (fun i:Nat=>i≤l1.length∧∀j,j<i→l1[j]?=l2[j]?) (fun i=>l1.length-i)
    (fun i=>[(0,.slice a1 l1.length c1),(1,.slice a2 l2.length c2),(5,.int .i64 (i:Int))])
    (fun _=>A::B::F) 0 ⟨Nat.zero_le _,fun j hj=>by omega⟩ rfl cm ah ?_
  rintro i⟨hi,heq⟩ ih
  refine go ?_
  refine aq zr zr ?_ ?_
  case' refine_2.refine_2 =>
    intro fg
    have rB:i=l1.length:=by omega
    rw[decide_eq_true (show l1=l2 from List.ext_getElem? fun j=>by
      rcases Nat.lt_or_ge j l1.length with h|h
      · exact heq j ag
      · rw[List.getElem?_eq_none ag,List.getElem?_eq_none ag])]at hE
    refine go ?_
    refine ad hE Tryz.func15 zr zr ⟨rfl,rfl⟩
  intro cW
  have Gk:i<l1.length:=by omega
  have Tc:i<l2.length:=by omega
  obtain⟨x,hx⟩:∃x,l1[i]?=some x:=⟨l1[i],by simp⟩
  obtain⟨y,hy⟩:∃y,l2[i]?=some y:=⟨l2[i],by simp⟩
  obtain⟨cx,Tj,uH⟩:=Lo i x hx
  obtain⟨cy,YX,Tn⟩:=yF i y hy
  obtain⟨b1,o1,k1,wL⟩:=lz.some (by intro e;rw[e]at Tj;simp at Tj)
  obtain⟨b2,o2,k2,sC⟩:=ry.some (by intro e;rw[e]at YX;simp at YX)
  simp only[Value.slice.injEq,true_and]at wL sC
  obtain⟨rfl,rfl⟩:=wL
  obtain⟨rfl,rfl⟩:=sC
  obtain⟨ax,kx,rfl,hkx⟩:=uH.2
  obtain⟨ay,ky,rfl,hky⟩:=Tn.2
  refine go ?_
  refine aH (fun w=>Sat G w ([A,B])) (df 0 11 .nil) rfl ak ak ak eo ?_
  refine go ?_
  refine bI i zr zr zr zr zr zr zr zr Gk ?_
  refine aK ?_
  refine bX 0 i zr zr zr lz rfl Tj zr zr ?_
  refine FM (U:=aS) 0 zr zr zr zr zr zr zr zr zr uH.1 (go ?_)
  refine bI i zr zr zr zr zr zr zr zr Tc ?_
  refine aK ?_
  refine bX 1 i zr zr zr ry rfl YX zr zr ?_
  refine FM (U:=aS) 1 zr zr zr zr zr zr zr zr zr Tn.1 (go ?_)
  refine bu 27 ((.bool (decide (¬x=y)))) rfl ((by rw[vg,decide_not])) ?_
  refine aq zr zr ?_ ?_
  · intro wm
    rw[decide_eq_false (show ¬l1=l2 from fun e=>by subst e;rw[hx]at hy;cases hy;exact wm rfl)]at hE
    refine go ?_
    refine ad hE Tryz.func15 zr zr ⟨rfl,rfl⟩
  intro wm
  have acC:x=y:=Decidable.not_not.1 wm
  refine go ?_
  refine aM ih (i+1) rfl (⟨ag,fun j hj=>by
    rcases Nat.lt_or_ge j i with h|h
    · exact heq j h
    · rw[show j=i from by omega,hx,hy,acC]⟩) ag cm ah
end Go.Proofs.YtdigdgohdpeebaaGreatDoor
namespace Go.Proofs.YtdigdgohdpeebaaGreatDoor
open Go Go.SL
section
variable{P:Program}{f:FuncId}{n:Nat}{R:Ending→World→Prop}{G:cI}{k:List Item}{L:fD}{H:List HP}
variable{S:World→Prop}{all:Array Oper}{rest:Pl}
def JX{v:Value}{ls:List (List UInt8)}(h:∀Y,qv Y v ls→J P f n R G S all rest k L (Y::H)):J P f n R G S all rest k L (k7 v ls::H):=fun a w ha hw=>by
 obtain⟨t,o,u,hp,Ht,h1,h2,⟨x,hR,hA⟩,hH,hd,he⟩:=hw
 have zK:Sat G w (Sep [az 39 1 v ls.length x.1,aU 5 x.2]::H):=⟨t,o,u,hp,Ht,h1,h2,hA,hH,hd,he⟩
 obtain⟨h',_,OL⟩:=bh (i:=0) rfl h1 hA
 exact h _ (hR.lat ⟨h',OL⟩) a w ha zK
end
end Go.Proofs.YtdigdgohdpeebaaGreatDoor
namespace Go.Proofs.YtdigdgohdpeebaaGreatDoor
open Go Go.SL
def Ly(a:List UInt8)(m i n:Int)(t:UInt8):(0≤(kD a m i n t).1.size∧(kD a m i n t).1.size≤1000000000000)∧(0≤(kD a m i n t).1.piece∧(kD a m i n t).1.piece≤1000000000000)∧(kD a m i n t).2.1.length≤a.length:=by
 have hz:(0≤Bl.zero.size∧Bl.zero.size≤1000000000000)∧(0≤Bl.zero.piece∧Bl.zero.piece≤1000000000000):=⟨by decide,by decide⟩
 unfold kD
 split
 ·rename_i x l hx hl
  obtain⟨hr,_⟩:=pb hx
  have:=eL hr
  split
  ·exact⟨by simp only;omega,by simp only;omega,by simp⟩
  ·dsimp only
   split
   ·refine⟨by simp only;omega,by simp only;omega,?_⟩
    simp only[uI,List.length_take,List.length_drop]
    omega
   ·refine⟨by simp only;omega,by simp only;omega,?_⟩
    simp only[List.length_take,List.length_drop]
    omega
 ·exact⟨hz.1,hz.2,by simp⟩
attribute [local irreducible] J K aE Ends ae az aQ bP bj aT aU bp bW Sha.chunks Sha.chunk Sha.rounds Sha.sched dW cH GI db iv gx dt dv aD cB aW kD k7 gj
def L8(X:HP)(hK:oD X)(v:Value)(l:List Af)(hS:Ib X v l) :
  aE Tryz.prog 3 [v] [X] (fun r H=>r = .bool true∧H=[X]):=by
 obtain⟨lq,hl,kQ⟩:=hS
 obtain⟨a0,c0,rfl⟩:=lq.shape
 refine aE.au Tryz.func3 Tryz.ntmps3 fun G F R hE=>?_
 refine go ?_
 refine aO (LU X hK) ?_
 refine go ?_
 refine aF (KR X _ l lq hl kQ) ?_
 rintro _ _⟨mu,rfl,rfl,u6⟩
 refine go ?_
 refine aF (Ik 16777216 ag ag) ?_
 rintro _ _⟨bd,rfl,rfl⟩
 cases mu with
 | true =>
  refine go ?_
  refine ai (H':=X::F) ah ?_
  refine ad hE Tryz.func3 zr zr ⟨rfl,rfl⟩
 | false =>
 have acY:=u6 rfl
 refine go ?_
 refine bG zr zr bD ?_
 intro wb
 refine go ?_
 ((refine aF (qH X hK wb bd (.pointer none) (.pointer none) 1048576 ag (Ab.new 16777216) rfl (by show 1≤_;omega) (E9 (HA.new _) rfl (by show 0≤_;omega))) ?_))
 rintro _ _⟨e0,t0,JG,hW,rfl,hz,-⟩
 obtain⟨rfl,rfl,lz,hC0⟩:=nk.first hW
 obtain⟨bs,mb,tb,jb,tv,ts,zO,rfl⟩:=hz rfl
 have uF:=JE zO
 subst uF
 unfold dL
 refine go ?_
 refine bz (fun g:Nat × SJ × List Tk × Value=>g.1≤l.length∧g.1≤50∧C8 g.1 g.2.1 g.2.2.1) (fun g=>l.length-g.1)
  (fun g=>[(0,.slice a0 l.length c0),(5,ptr bd),(7,ptr wb),(9,.int .i64 (g.1:Int))])
  (fun g=>X::ae wb (cl [ptr bd,ptr bs,ptr tb] 33)::ae tb (cl [ptr bs,ptr jb,g.2.2.2,.bool false] 73)::az 75 1 g.2.2.2 g.2.2.1.length (g.2.2.1.map cg)::aW g.2.2.1::cB bs bd jb 1048576 mb [] g.2.1::F) (0,t0,[],tv) ⟨Nat.zero_le _,ag,hC0⟩ rfl cm ah ?_
 rintro⟨i,s,ts,tv⟩⟨hi,adz,hr⟩ ih
 simp only at hi adz hr
 dsimp only
 refine go ?_
 by_cases gP:i<l.length∧i<50
 case neg =>
  have hC:nk 51 50 1100 50 s ts:=nk.mono hr ag ag ag ag
  have hq4:=hC.cs.dq
  have aei:=hC.cs.kj
  by_cases h1:i<l.length
  case' pos =>
   refine aB 59 ((.bool true)) rfl ((congrArg Value.bool (decide_eq_true ag))) (go ?_)
   refine bu 62 ((.bool false)) rfl ((congrArg Value.bool (decide_eq_false ag))) ?_
  case' neg =>
   refine aB 59 ((.bool false)) rfl ((congrArg Value.bool (decide_eq_false ag))) ?_
  all_goals
   refine go ?_
   refine aI (H':=cB bs bd jb 1048576 mb [] s::X::ae wb (cl [ptr bd,ptr bs,ptr tb] 33)::F) ah ?_
   refine aI (FC _ _ _ _ _ _ _) ?_
   ((refine aF (Qm bd s.1.A 0 (-1) 0 X (.slice none 0 0) [] ⟨none,0,rfl,.inl rfl⟩ (by simp) ag (by rw[hq4.wr];simp) ag ag ag) ?_))
   rintro _ _ rfl
   refine go ?_
   ((refine aF (qH X hK wb bd (ptr bs) (ptr tb) 1048576 ag (s.1.A.dA 0 [] (-1) 0) rfl (by show 1≤_;omega) (hC.abQ ag)) ?_))
   rintro _ _⟨e3,t3,cs3,hW3,rfl,hz3,-⟩
   obtain⟨rfl,-,-,-,hC3⟩:=hC.back ag ag ag hW3
   obtain⟨LO,mb3,tb3,jb3,tv3,QO,adM,rfl⟩:=hz3 rfl
   have hC4:=hC3 QO adM
   obtain⟨q1,q2,q3,q4,q5⟩:=hC4.table ag ag
   have ha3:=Fx tb3 LO jb3 tv3 false QO q1 q2 q3 q4 q5
   unfold dL at ha3 ⊢
   refine go ?_
   refine aF ha3 ?_
   rintro r3 _ rfl
   refine go ?_
   refine aI (H':=cB LO bd jb3 1048576 mb3 [] t3::X::k7 r3 (gj QO)::ae wb (cl [ptr bd,ptr LO,ptr tb3] 33)::F) ah ?_
   refine aI (FC _ _ _ _ _ _ _) ?_
   ((refine aF (qH X hK wb bd (ptr LO) (ptr tb3) 1048576 ag t3.1.A hC4.cs.dq.ha.on (by have:=hC4.cs.kj;omega) (hC4.abR ag)) ?_))
   rintro _ _⟨e5,t5,cs5,hW5,rfl,hz5,-⟩
   obtain⟨rfl,abE,-,hC5⟩:=hC4.again ag ag ag hW5
   obtain⟨bs5,mb5,tb5,jb5,tv5,Ze,abC,rfl⟩:=hz5 rfl
   have hC6:=hC5 Ze abC
   obtain⟨p1,p2,p3,p4,p5⟩:=hC6.table ag ag
   have ha5:=Fx tb5 bs5 jb5 tv5 false Ze p1 p2 p3 p4 p5
   have aaV:gj QO=gj Ze:=by
    rw[← abC]at abE
    exact(LZ abE).symm
   have Hy:(gj QO).length≤1000000000:=by
    have:(gj QO).length=QO.length:=by unfold gj;rw[List.length_map]
    omega
   unfold dL at ha5 ⊢
   refine go ?_
   refine aF ha5 ?_
   rintro r5 _ rfl
   refine aI (H':=k7 r5 (gj Ze)::k7 r3 (gj QO)::X::F) ah ?_
   refine JX ?_
   intro Y5 hY5
   refine aI (ao.pick [1] rfl) ?_
   refine JX ?_
   intro Y3 hY3
   refine aO (PU Y3 Y5 r3 r5 (gj QO) (gj Ze) hY3 hY5 Hy) ?_
   rw[decide_eq_true aaV]
   refine go ?_
   refine ai (H':=X::F) ah ?_
   refine ad hE Tryz.func3 zr zr ⟨rfl,rfl⟩
 obtain⟨Gk,Tc⟩:=gP
 obtain⟨st,hx⟩:∃s,l[i]?=some s:=⟨l[i],by simp⟩
 have hso:=kQ _ (List.mem_of_getElem? hx)
 obtain⟨SW,hsb⟩:=acY i st ag hx
 obtain⟨b1,b2,b3,b4,b5,b6,b7,b8⟩:=hr.bnd ag ag
 obtain⟨bb,oo,cc,aaT⟩:=lq.some (by rw[← List.length_pos_iff,cu pQ];omega)
 simp only[Value.slice.injEq,true_and]at aaT
 obtain⟨rfl,rfl⟩:=aaT
 have s0:(l.flatMap kp)[i*8+0]?=some (.int .i64 st.d):=oI hx 0 ag
 have s3:(l.flatMap kp)[i*8+3]?=some (.int .i64 st.i):=oI hx 3 ag
 refine aB 59 ((.bool true)) rfl ((congrArg Value.bool (decide_eq_true ag))) (go ?_)
 refine bu 62 ((.bool true)) rfl ((congrArg Value.bool (decide_eq_true ag))) (go ?_)
 refine cG i 8 zr zr zr zr zr zr zr zr Gk ?_
 refine cR (U:=aS) (es:=kp st) 0 (i*8) zr zr zr lq rfl (fun j v hj=>by
  rw[oI hx j (by rcases Nat.lt_or_ge j 8 with h|h;exact h;rw[List.getElem?_eq_none (by rw[pQ];exact h)]at hj;cases hj)]
  exact hj) zr zr zr ?_
 refine go ?_
 refine aF (Lz X st hso.a ag) ?_
 rintro _ _⟨bv,pv,rfl,rfl⟩
 have YU:=Ly st.a st.m st.i st.n st.t
 have hgz:=E7 st.a st.m st.i st.n st.t
 rw[show kD st.a st.m st.i st.n st.t=st.g from rfl]at YU hgz
 obtain⟨⟨x,b,p⟩,hgE⟩:∃z,st.g=z:=⟨_,rfl⟩
 rw[hgE]at YU hgz ⊢
 dsimp only at YU hgz ⊢
 obtain⟨hgs,hgp,hgl⟩:=YU
 clear hgE
 unfold eS
 refine go ?_
 refine aC zr zr zr bD ?_
 intro zi
 refine pz ?_
 refine dg 1 rfl ?_
 rintro ba bc rfl
 refine dg 2 rfl ?_
 rintro pa pc rfl
 refine ai (H':=az 5 1 (.slice ba b.length bc) b.length (bV b)::az 36 32 (.slice pa p.length pc) p.length (p.flatMap dC)::X::ae zi (cl (bJ x) 38)::ae wb (cl [ptr bd,ptr bs,ptr tb] 33)::ae tb (cl [ptr bs,ptr jb,tv,.bool false] 73)::az 75 1 tv ts.length (ts.map cg)::aW ts::cB bs bd jb 1048576 mb [] s::F) ah ?_
 refine mJ 0 rfl ?_
 intro Pc
 refine cV 0 rfl ?_
 intro hbv
 refine mJ 1 rfl ?_
 intro sT
 refine cV 1 rfl ?_
 intro Xe
 obtain⟨Y,hY⟩:∃Y,Y=Sep [az 5 1 (.slice ba b.length bc) b.length (bV b),az 36 32 (.slice pa p.length pc) p.length (p.flatMap dC),X]:=⟨_,rfl⟩
 have hKY:oD Y:=hY ▸ hK.mono (bh (i:=2) rfl)
 have hbY:eM Y (.slice ba b.length bc) b:=hY ▸ eM.mono ⟨hbv,ba,bc,rfl,Pc⟩ (bh (i:=0) rfl)
 have hpY:Ix Y (.slice pa p.length pc) p:=hY ▸ Ix.mono ⟨Xe,pa,pc,rfl,sT⟩ (bh (i:=1) rfl)
 have hv:Vw Y (.slice (some ⟨bb,oo,none⟩) l.length c0) l.length (l.flatMap kp):=hY ▸ lq.mono (bh (i:=2) rfl)
 refine ai (ao.bS [az 5 1 (.slice ba b.length bc) b.length (bV b),az 36 32 (.slice pa p.length pc) p.length (p.flatMap dC),X] _) ?_
 rw[← hY]
 refine iN rfl ?_
 refine Bv 2 (fun g:SJ × List Tk × Value=>C8 (i+1) g.1 g.2.1) (fun g=>[(0,.slice (some ⟨bb,oo,none⟩) l.length c0),(5,ptr bd),(7,ptr wb),(9,.int .i64 (i:Int))]) (fun g=>Y::ae wb (cl [ptr bd,ptr bs,ptr tb] 33)::ae tb (cl [ptr bs,ptr jb,g.2.2,.bool false] 73)::az 75 1 g.2.2 g.2.1.length (g.2.1.map cg)::aW g.2.1::cB bs bd jb 1048576 mb [] g.1::F) rfl ?_ ?_
 rotate_left
 ·intro tail
  have sW:=zH tb bs jb bd tv 1048576 ag mb ts false s x ag hgs hgp b6 ag ag 10000 ag (fun t h=>hr.sq ag ag h.2 ((ln h.1).mono ag))
  have wM:=FG Y hKY tb bs jb bd tv 1048576 mb ts false s x st.i hso.i _ b hbY ag _ p hpY ag b2 b3 ag ag 10000 ag (fun t u h1 h2=>hr.sq ag ag (h2.2.trans h1.2) (by
   have g1:=oq h1.1
   have g2:=sK h2.1
   have g11:=g1.1
   have g12:=g1.2
   have g21:=g2.1
   have g22:=g2.2
   exact⟨ag,ag⟩))
  have RI:=FX Y hKY tb bs jb bd tv 1048576 mb ts false s x ag b2 b4 ag ag 10000 ag (fun e t h=>hr.sq ag ag h.2 ((rY h.1).mono ag))
  have pG:=IF tb bs jb bd tv 1048576 mb ts false s x ag ag ag 10000 ag (fun t h=>hr.sq ag ag h.2 ((qF h.1).mono ag))
  unfold dL eS at sW wM RI pG
  (repeat(first|refine gO ?_|refine cG i 8 zr zr zr zr zr zr zr zr Gk ?_|(refine aK ?_;(refine aX 0 (i*8+0) zr zr zr hv (Nat.add_assoc _ _ _) s0 zr zr ?_))))
  refine aq zr zr ?_ ?_
  ·intro h0
   refine aH (fun w=>Sat G w ([ae wb (cl [ptr bd,ptr bs,ptr tb] 33),ae zi (cl (bJ x) 38),Y])) (df 0 5 (.act 5 .nil)) rfl ak ak ak eo ?_
   refine go ?_
   refine bY (U:=aS) (l:=bJ x) 1 zr zr zr zr zr zr (go ?_)
   refine aF sW ?_
   rintro _ _⟨e,ek,m5,jM,t,rfl,rfl,hB⟩
   obtain⟨rfl,sR⟩:=hr.begin ag (fun _=>by omega) hB
   refine pz ?_
   refine pC tail (t,ek,m5) rfl sR cm ah
  intro h0
  refine go ?_
  refine aq zr zr ?_ ?_
  ·intro h1
   refine aH (fun w=>Sat G w ([ae wb (cl [ptr bd,ptr bs,ptr tb] 33),ae zi (cl (bJ x) 38),Y])) (df 0 12 (.act 12 .nil)) rfl ak ak ak eo ?_
   (repeat(first|refine gO ?_|refine bY (U:=aS) (l:=bJ x) 1 zr zr zr zr zr zr ?_|refine cG i 8 zr zr zr zr zr zr zr zr Gk ?_|(refine aK ?_;(refine bX 2 (i*8+3) zr zr zr hv (Nat.add_assoc _ _ _) s3 zr zr ?_))))
   refine aF wM ?_
   rintro _ _⟨e,ek,jM,t,rfl,rfl,hB⟩
   obtain⟨rfl,sR⟩:=hr.put ag hB
   refine pz ?_
   refine pC tail (t,ek,tv) rfl sR cm ah
  intro h1
  refine go ?_
  refine aq zr zr ?_ ?_
  ·intro h2
   refine aH (fun w=>Sat G w ([ae wb (cl [ptr bd,ptr bs,ptr tb] 33),ae zi (cl (bJ x) 38),Y])) (df 0 5 (.act 5 .nil)) rfl ak ak ak eo ?_
   refine go ?_
   refine bY (U:=aS) (l:=bJ x) 1 zr zr zr zr zr zr (go ?_)
   refine aF RI ?_
   rintro _ _⟨ri,ek,m5,jM,t,rfl,rfl,hB⟩
   obtain⟨rfl,sR⟩:=hr.fin ag hB
   refine pz ?_
   refine pC tail (t,ek,m5) rfl sR cm ah
  intro h2
  refine go ?_
  refine aq zr zr ?_ ?_
  ·intro h3
   refine aH (fun w=>Sat G w ([ae wb (cl [ptr bd,ptr bs,ptr tb] 33),ae zi (cl (bJ x) 38),Y])) (df 0 5 (.act 5 .nil)) rfl ak ak ak eo ?_
   refine go ?_
   refine bY (U:=aS) (l:=bJ x) 1 zr zr zr zr zr zr (go ?_)
   refine aF pG ?_
   rintro _ _ (⟨h,_⟩|⟨_,aeD,rfl,rfl⟩|⟨_,mS,e,u,hA,⟨bZ,_⟩|⟨rfl,e',t,m5,rfl,rfl,hN⟩⟩)
   ·cases h
   ·refine pz ?_
    refine pC tail (s,ts,tv) rfl hr.next cm ah
   ·exact absurd (C8.abort (e':=0) (t:=s) hr ag mS hA).1 bZ
   ·obtain⟨rfl,sR⟩:=(C8.abort (e':=0) (t:=s) hr ag mS hA).2 hN
    refine pz ?_
    refine pC tail (t,mQ ts x.d,m5) rfl sR cm ah
  intro h3
  refine pC tail (s,ts,tv) rfl hr.next cm ah
 rintro⟨s1,ts1,YB⟩ zL
 simp only at zL
 refine go ?_
 rw[hY]
 refine ai (ao.cJ [az 5 1 (.slice ba b.length bc) b.length (bV b),az 36 32 (.slice pa p.length pc) p.length (p.flatMap dC),X] _) ?_
 refine aM ih (i+1,s1,ts1,YB) rfl ⟨by simp only;omega,by simp only;omega,zL⟩ (by simp only;omega) cm ah
end Go.Proofs.YtdigdgohdpeebaaGreatDoor
namespace Go.Proofs.YtdigdgohdpeebaaGreatDoor
open Go Go.SL
def LV{P:Program}{H:Type}{enc:TypeId × Value→H}{W:World}{base:Nat}{spare:Nat→Bool}{held:Bool}{fuel n:Nat}{t e:TypeId}{k:IntKind}{l:List Value}{x:DataW H × List MemPlace}(ht:P.underlying t=some (.array n e))(he:P.underlying e=some (.int k))(hc:P.cellsOf e=1)(zO:P.cellsOf t=n)(h:DataW.trod enc P W base spare held fuel t l=some x)(ns:List Int)(hx:x.1 = .agg (ns.map fun z => .lit (.int k z))):l=ns.map (Value.int k):=by
 obtain⟨xs,m,_,OE,hlen,MM,hf⟩:=DataW.trod_array ht h
 rw[zO]at hlen
 rw[OE]at hx
 simp only[DataW.agg.injEq]at hx
 apply List.ext_getElem?
 intro i
 rcases Nat.lt_or_ge i n with hi|hi
 ·have h1:=hf i hi
  obtain⟨y,hy⟩:∃y,xs[i]?=some y:=⟨xs[i]' (by rw[MM];exact hi),by simp⟩
  rw[hy,hc,Nat.mul_one]at h1
  obtain⟨z,r,hz,w⟩:=DataW.trod_int he h1
  have h2:=congrArg (fun l:List Value=>l[0]?) r
  have h3:l[i]?=some (.int k z):=by simpa using h2
  have h4:=congrArg (fun l=>l[i]?) hx
  simp only[List.getElem?_map,hy,Option.map_some,hz]at h4
  rw[h3,List.getElem?_map]
  cases hn:ns[i]? with
  | none=>rw[hn]at h4;cases h4
  | some z2 =>
   rw[hn]at h4
   simp only[Option.map_some,Option.some.injEq,DataW.lit.injEq,Lit.int.injEq]at h4
   rw[h4.2]
   rfl
 ·have EF:ns.length=n:=by have:=congrArg List.length hx;simpa[MM]using this.symm
  rw[List.getElem?_eq_none ag,List.getElem?_eq_none (by simp;omega)]
def Qt:List Int:=Sha.ks.map fun w=>(w.toNat:Int)
def Y9:wV Sha.ks=Qt.map (Value.int .u32):=by unfold wV Qt;rw[List.map_map];rfl
def WW:Rows.laid_starling_digest_constants (H:=Unit) = .agg (Qt.map fun z => .lit (.int .u32 z)):=by
 unfold Rows.laid_starling_digest_constants Qt Sha.ks
 simp only[List.map_cons,List.map_nil,BitVec.toNat_ofNat]
 rfl
def qU:Tryz.prog.globalNamed "starling/digest.constants" = some 0:=by kernel_rfl
def I':(Tryz.prog.globals[0]?).map (·.type)=some 211:=by kernel_rfl
def Ou:Tryz.prog.cellsOf 211=64:=by kernel_rfl
def Kc:Tryz.prog.cellsOf 150=1:=by kernel_rfl
def Ad{W:World}(h:laidMet Tryz.prog [("starling/digest.constants", Rows.laid_starling_digest_constants)] W):W.var? Tryz.prog "starling/digest.constants" = some (wV Sha.ks).toArray:=by
 obtain⟨ps,⟨g,t,cs,fuel,p,q,hg,ht,acL,hd,_,_⟩,_⟩:=h
 obtain rfl:=Option.some.inj (qU.symm.trans hg)
 obtain rfl:=Option.some.inj (I'.symm.trans ht)
 rw[acL,Y9]
 congr 1
 have:=LV Tryz.underlying211 Tryz.underlying150 Kc Ou hd Qt WW
 rw[← this]
def FL{W:World}(h:laidMet Tryz.prog [("starling/digest.constants", Rows.laid_starling_digest_constants)] W):oD (old W):=by
 have hv:=Ad h
 refine⟨some ⟨0,0,none⟩,64,rfl,.inr ⟨_,0,rfl,fun hp ho j c hj=>?_⟩⟩
 rw[Nat.zero_add]
 refine nv ho ?_
 rw[World.var?_cell qU hv j]
 simpa using hj
noncomputable def u3(os:Os):World :=
  { World.holding Tryz.prog os ⟨#[],#[],[]⟩with heap:=(World.holding Tryz.prog os ⟨#[],#[],[]⟩).heap.modify 0 fun
      | .cells _ t frozen => .cells (Qt.map (Value.int .u32)).toArray t frozen
      | o=>o }
def zS(os:Os)(args:Array Value):((u3 os).forCall (fun _ _=>0) ⟨#[],args,[]⟩).memory.heap[0]?=some (.cells (Qt.map (Value.int .u32)).toArray 211 (0,0)):=by kernel_rfl
def zT(os:Os)(args:Array Value):laidMet Tryz.prog [("starling/digest.constants", Rows.laid_starling_digest_constants)] ((u3 os).forCall (fun _ _=>0) ⟨#[],args,[]⟩).memory:=by
 have zV:=zS os args
 refine⟨_,⟨0,211,(Qt.map (Value.int .u32)).toArray,8,[],[],qU,I',?_,?_,rfl,rfl⟩,?_,?_⟩
 ·unfold World.var?
  rw[qU]
  simp only[Option.bind_some,zV]
 ·kernel_rfl
 ·rw[List.append_nil,List.append_nil]
  unfold MemPlace.row
  refine List.Pairwise.map (R:=fun a b=>a≠b) _ (fun i j A6 e=>A6 ?_) List.nodup_range
  exact Nat.add_left_cancel (MemPlace.cell.inj e).2
 ·intro b off h
  have hb:b=0:=by
   simp only[List.append_nil,MemPlace.row,List.mem_map]at h
   obtain⟨i,_,hi⟩:=h
   simp[MemPlace.cell.injEq]at hi
   exact hi.1.symm
  subst hb
  refine⟨⟨_,_,zV⟩,fun u v hc=>?_⟩
  simp only[World.cell?,zV]at hc
  exfalso
  have h2:∀x∈Qt.map (Value.int .u32),∀u v,x ≠ .iface u v:=by
   intro x hx u v
   obtain⟨z,_,rfl⟩:=List.mem_map.1 hx
   simp
  have h3:(Qt.map (Value.int .u32))[off]?=some (.iface u v):=by simpa using hc
  exact h2 _ (List.mem_of_getElem? h3) u v rfl
end Go.Proofs.YtdigdgohdpeebaaGreatDoor
namespace Go.Proofs.YtdigdgohdpeebaaGreatDoor.piecesTwice
open Go Go.SL
open Go.ChangeShapes Go.WideShapes Go.ChangeAt Go.RowKit
open Go.ChangeMaps (open_string shut_string)
def own:ownKnob Tryz.prog.godebug=none:=by kernel_rfl
def laidOut:laidOutB Tryz.prog=true:=by kernel_rfl
def lifted(os:Os)(started:os.Started)(H:Type)(enc:TypeId × Value→H) :
  ReturnsInHanded {} Tryz.checked os 3 .any (fun w args=>(Rows.piecesTwiceSpec.pre enc Tryz.prog Tryz.f3 Rows.piecesTwiceRow.domain false w args∧laidMet Tryz.prog [("starling/digest.constants", Rows.laid_starling_digest_constants)] w)∧sizedMet enc Tryz.prog Tryz.f3 (OpenSpec.ofChange Rows.piecesTwiceSpec) false w args) (Rows.piecesTwiceSpec.post enc Tryz.prog Tryz.f3 false true false false):=by
 refine returnsInHanded_of_change_and (C:=Tryz.checked) (X:=fun w _=>laidMet Tryz.prog [("starling/digest.constants", Rows.laid_starling_digest_constants)] w) (fun _ _ _ hh h=>h.of_heap hh) own started ak Tryz.func3
  (ChangeSpec.witness_at (enc:=enc) (C:=Tryz.checked) (os:=os) (X:=fun w _=>laidMet Tryz.prog [("starling/digest.constants", Rows.laid_starling_digest_constants)] w) false (u3 os) #[.slice none 0 0] 8 rfl ak ak ak ak ak (zT os #[.slice none 0 0])) ?_
 intro W base args ds gs before SP hW aeG _ hL _
 have aaQ:∀(j:Nat) t v,Tryz.f3.params[j]?=some t→args[j]?=some v→Value.okWide Tryz.prog W .any base t v:=SP
 have hW':=hW
 obtain⟨p,q,hA0,hV,rfl,hfz,kf⟩:=hW
 have hA:DataW.TrodAll enc Tryz.prog W 0 (fun _=>true) true Tryz.f3.params.toList args.toList ds p:=hA0
 rw[Tryz.params3]at hA aaQ
 obtain⟨v0,vs0,d0,ds0,p0,q0,gS,rfl,rfl,h0,r0⟩:=trodAll_cons hA
 obtain⟨rfl,rfl,rfl⟩:=trodAll_nil r0
 obtain rfl:args = #[v0]:=by cases args;simp_all
 obtain⟨rfl,rfl⟩:=trodVars_none hV
 obtain⟨a0,acx,ad2,rfl⟩:=okWide_slice Tryz.underlying22 (aaQ 0 22 v0 rfl rfl)
 have k0:=h0
 have lt0:∀x∈p0,x.block<W.heap.size:=by obtain⟨m,hm⟩:=k0;exact DataW.trod_lt m _ _ _ hm
 obtain⟨bs0,lq⟩:∃l:List Af,Ib (old W) (.slice a0 acx ad2) l:=by
  obtain⟨fuel,hf⟩:=h0
  exact D8 (by simpa[Value.cells]using hf)
 clear hA0 SP
 refine(Ny (L8 (old W) (FL hL) _ bs0 lq)).mono fun e W' ⟨he,bel⟩=>?_
 subst he
 exact⟨_,rfl,_,_,_,[],_,[],hW',trodAll_mk1 (shut_bool Tryz.underlying4 _),(trodAll_cons_mk (Below.trod laidOut ak (of_decide_eq_true ak) k0 bel lt0) trodAll_mk0),rfl,bel.frame _,fun h=>by cases h⟩
def k10:(Rows.piecesTwiceRow.inPlace == (Tryz.pinned.checked.prog).inPlace 3)=true:=by kernel_rfl
def k11:(Rows.piecesTwiceRow.unfollowed == (Tryz.pinned.checked.prog).unfollowed 3)=true:=by kernel_rfl
def k12:(Rows.piecesTwiceRow.recurses == (Tryz.pinned.checked.prog).recurses 3)=true:=by kernel_rfl
def k13:(Rows.piecesTwiceRow.named == (Tryz.pinned.checked.prog).varsNamed 3)=true:=by kernel_rfl
def closed:joinedFacts Tryz.pinned.checked.prog 3 Tryz.f3 Rows.piecesTwiceSpec Rows.piecesTwiceRow=true:=by
 unfold joinedFacts
 rw[k10,k11,k12,k13]
 kernel_rfl
def proved:Rows.PiecesTwiceSaid :=
 OpenClaim.holds_of_wide 3 Tryz.f3 zr zr zr zr zr zr zr ⟨rfl,rfl,rfl,rfl,rfl⟩ zr zr zr zr zr ak Tryz.func3 closed
  (of_decide_eq_true ak) (by unfold Func.isWrapper;(rw[if_neg (by decide +kernel)];exact⟨rfl,rfl⟩))
  (fun os started H enc _=>lifted os started H enc)
#print axioms proved
end Go.Proofs.YtdigdgohdpeebaaGreatDoor.piecesTwice
