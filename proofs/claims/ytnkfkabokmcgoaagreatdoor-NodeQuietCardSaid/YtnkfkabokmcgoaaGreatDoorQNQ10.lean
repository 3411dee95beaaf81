import Derived.Test.YtnkfkabokmcgoaaGreatDoorQNQ4
import Derived.Test.YtnkfkabokmcgoaaGreatDoorQNQ7
import Derived.Test.YtnkfkabokmcgoaaGreatDoorQNQ8
import Derived.Test.YtnkfkabokmcgoaaGreatDoorQNQ9
import Derived.Shelf.SlLaysNS
import Derived.Test.YtnkfkabokmcgoaaGreatDoorChecked
set_option linter.unusedSimpArgs false
set_option linter.unusedVariables false
set_option maxHeartbeats 4000000
set_option maxRecDepth 20000
set_option linter.defProp false
namespace Go.Proofs.YtnkfkabokmcgoaaGreatDoor
open Go Go.SL
def hz(b:List UInt8):Dg:=(fU b).getD Dg.zero
def C9(m:List UInt8)(l:List (List UInt8)):Bool:=(o8 m).isSome && l.all fun b=>(fU b).isSome
def Ms(m:List UInt8)(l:List (List UInt8))(b:List UInt8):C9 m (l++[b])=(C9 m l && (fU b).isSome):=by unfold C9;simp[Bool.and_assoc]
theorem p7:∀(l:List (List UInt8)),(l.all fun b=>(fU b).isSome)=true→oz l=some (l.map hz)
 | [],_=>rfl
 | b::l,h=>by
  rw[List.all_cons,Bool.and_eq_true]at h
  unfold oz
  rw[p7 l h.2]
  grind [hz,fU]
def p8:∀(l:List (List UInt8)),(l.all fun b=>(fU b).isSome)=false→oz l=none
 | [],h=>by cases h
 | b::l,h=>by
  unfold oz
  cases hb:fU b with
  | none=>rfl
  | some d =>
   rw[List.all_cons,hb]at h
   rw[p8 l (by simpa using h)]
def fP(ok:Bool)(d:Dg)(i:Nat)(p:List Dg)(y:Tk):Tk:=if ok=true∧y.x.d=d∧i<y.n∧p.length=iw y.n i then y.put i p else y
def Z8(ok:Bool)(d:Dg)(i:Nat)(p:List Dg)(y:Tk):(fP ok d i p y).yb=y.yb:=by unfold fP;split <;> rfl
def jo(f:Tk→Tk)(j:Nat)(ts:List Tk):List Tk:=(ts.take j).map f++ts.drop j
theorem JW(f:Tk→Tk)(j:Nat)(ts:List Tk):(jo f j ts)[j]?=ts[j]? := by
 grind [jo]
def JV(f:Tk→Tk){j:Nat}{ts:List Tk}{y:Tk}(h:ts[j]?=some y):(jo f j ts).set j (f y)=jo f (j+1) ts:=by
 obtain⟨hj,rfl⟩:=List.getElem?_eq_some_iff.1 h
 unfold jo
 rw[List.set_append_right _ _ (by rw[List.length_map,List.length_take];omega),List.length_map,List.length_take,Nat.min_eq_left ai,Nat.sub_self,List.drop_eq_getElem_cons hj,List.set_cons_zero,List.take_add_one,h,Option.toList_some,List.map_append,List.append_assoc]
 rfl
def AO(f:Tk→Tk)(ts:List Tk):jo f ts.length ts=ts.map f:=by unfold jo;simp
theorem JU(f:Tk→Tk)(hf:∀y,(f y).yb=y.yb)(j:Nat)(ts:List Tk):(jo f j ts).map eK=ts.map eK:=by
 unfold jo
 conv=>rhs;rw[← List.take_append_drop j ts]
 rw[List.map_append,List.map_append,List.map_map]
 congr 1
 refine List.map_congr_left fun y _=>?_
 grind [eK]
theorem C0(ts:List Tk)(d:Dg)(m:List UInt8)(l:List (List UInt8))(k:Nat)(hk:∀n,o8 m=some n→k=n):jM (ts.map (fP (C9 m l) d k (l.map hz)))=nt (jM ts) d m l:=by
 unfold nt C9
 cases hm:o8 m with
 | none =>
  simp only[Option.isSome_none,Bool.false_and]
  have:ts.map (fP false d k (l.map hz))=ts:=by
   conv=>rhs;rw[← List.map_id ts]
   refine List.map_congr_left fun y _=>?_
   grind [fP]
  rw[this]
 | some n =>
  obtain rfl:=hk n hm
  simp only[Option.isSome_some,Bool.true_and]
  cases ha:l.all (fun b=>(fU b).isSome)with
  | false =>
   rw[p8 l ha]
   have:ts.map (fP false d k (l.map hz))=ts:=by
    conv=>rhs;rw[← List.map_id ts]
    refine List.map_congr_left fun y _=>?_
    grind [fP]
   rw[this]
  | true =>
   rw[p7 l ha]
   unfold jM
   simp only
   rw[List.map_map,List.map_map]
   refine List.map_congr_left fun y _=>?_
   unfold fP
   simp only[true_and,Function.comp]
   split
   ·rename_i h
    exact(if_pos (α:=TC) (t:=y.c.put k (l.map hz)) (e:=y.c) h).symm
   ·rename_i h
    exact(if_neg (α:=TC) (t:=y.c.put k (l.map hz)) (e:=y.c) h).symm
attribute [local irreducible] J K aq Ends ag aI aC bF aW aP a6 aZ bN aB
def F6(Z:HP)(tb bs jb:Nat)(tv:Value)(br:Bool)(ts:List Tk)(d:Dg)(mv:Value)(m:List UInt8)(l:List (List UInt8))(hv:su Z mv (m::l))(hm:∀x∈m::l,x.length≤65536)(sE:(m::l).length≤65536)(hl:ts.length≤1000000)(hn:∀y∈ts,y.n≤65536)(hw:∀y∈ts,y.n≤y.ws.length*64) :
  aq Tryz.prog 132 [ptr tb,dV d,mv] (ff tb bs jb tv ts br++[Z]) (fun r H=>r = .tuple #[]∧∃k:Nat,(∀n,o8 m=some n→k=n)∧H=ff tb bs jb tv (ts.map (fP (C9 m l) d k (l.map hz))) br++[Z]):=by
 obtain⟨cs,dt,mF,⟨ma,mc,rfl,hmc⟩,pn⟩:=hv
 obtain⟨c0,M9,Bj⟩:=pn 0 m rfl
 have abg:=nq Z c0 m Bj (by have:=hm m (List.mem_cons_self ..);omega)
 obtain⟨bb,oo,cc,he⟩:=dt.some (by intro h;rw[h]at mF;simp at mF)
 obtain⟨rfl,rfl⟩:=he
 refine aq.aj Tryz.func132 Tryz.ntmps132 fun G F R hE=>?_
 refine aH rfl ?_
 refine bp zr zr bh ?_
 intro b4
 refine aS (ao.pick [4] rfl) (go ?_)
 refine bC 0 zr zr zr zr zr zr zr zr (by simp) ?_
 refine aT ?_
 refine aN 0 0 zr zr zr dt rfl M9 zr zr ?_
 refine aF abg ?_
 rintro _ _⟨rfl,k,Ix,rfl,DK⟩
 refine go ?_
 refine bu (p:=1) (q:=((m::l).length:Int)) zr zr zr zr zr zr zr ai (by simp only[List.length_cons];omega) (.inl rfl) ?_
 ((refine aD 23 ((.slice (sliceAt (some ⟨bb,oo,none⟩) mc 1 1) l.length (mc-1))) rfl ((by rw[show((m::l).length:Int).toNat=l.length+1 from by simp[List.length_cons],show(1:Int).toNat=1 from rfl,show l.length+1-1=l.length by omega];rfl)) ?_))
 have yX:=dt.Hr (s:=1) (by rw[mF];simp) hmc 1 (by simp)
 simp only[List.length_cons]at sE hmc
 have aby:∀(j:Nat) (x:List UInt8),l[j]?=some x→∃cv,(cs.drop (1*1))[j]?=some cv∧fb Z cv x:=fun j x hx=>by
  simp_all
 have hmr:∀x∈l,x.length≤65536:=fun x hx=>hm x (List.mem_cons_of_mem _ hx)
 have abd:C9 m (l.take 0)=(o8 m).isSome:=by unfold C9;simp
 refine go ?_
 refine ak (bj 36 32 none _) ?_
 rw[← abd]
 refine bn (fun y:Nat × Option Addr × Nat=>y.1≤l.length) (fun y=>l.length-y.1)
  (fun y=>[(0,ptr tb),(4,ptr b4),(6,.int .i64 (k:Int)),(7,.bool (C9 m (l.take y.1))),(8,.slice y.2.1 ((l.take y.1).map hz).length y.2.2),(23,.slice (sliceAt (some ⟨bb,oo,none⟩) mc 1 1) l.length (mc-1)),(24,.int .i64 (l.length:Int)),(25,.int .i64 (y.1:Int))])
  (fun y=>aI 36 32 (.slice y.2.1 ((l.take y.1).map hz).length y.2.2) ((l.take y.1).map hz).length (((l.take y.1).map hz).flatMap dC)::Z::ag b4 (cl (dC d) 36)::ag tb (cl [ptr bs,ptr jb,tv,.bool br] 131)::aI 133 1 tv ts.length (ts.map eK)::bZ ts::F) (0,none,0) (Nat.zero_le _) rfl bQ ah ?_
 rintro⟨j,pa,pc⟩ hj ih
 dsimp only
 refine go ?_
 refine au zr zr ?_ ?_
 ·intro cq
  have nC:j<l.length:=by omega
  obtain⟨x,hx⟩:∃x,l[j]?=some x:=⟨l[j],by simp⟩
  obtain⟨cv,q4,y8⟩:=aby j x hx
  have hph:=qP Z cv x y8 (by have:=hmr x (List.mem_of_getElem? hx);omega)
  have ki:l.take (j+1)=l.take j++[x]:=by rw[List.take_add_one,hx];rfl
  have Cn:((l.take j).map hz).length=j:=by rw[List.length_map,List.length_take];omega
  have hp1:((l.take j).map hz).flatMap dC++dC (hz x)=((l.take (j+1)).map hz).flatMap dC:=by rw[ki];simp
  have hp2:((l.take j).map hz).length+1=((l.take (j+1)).map hz).length:=by rw[ki];simp
  have hJ:C9 m (l.take (j+1))=(C9 m (l.take j) && (fU x).isSome):=by rw[ki,Ms]
  have Vx:sliceAt (some ⟨bb,oo,none⟩) mc 1 1=some ⟨bb,oo+1,none⟩:=by
   unfold sliceAt
   rw[if_neg ai]
   rfl
  have YM:=yX
  rw[Vx]at YM
  refine aV 23 (.slice (some ⟨bb,oo+1,none⟩) l.length (mc-1)) rfl (by rw[Vx]) (go ?_)
  refine bC j zr zr zr zr zr zr zr zr nC ?_
  refine aT ?_
  refine aN 1 j zr zr zr YM rfl q4 zr zr (go ?_)
  refine aw hph ?_
  refine go ?_
  refine az zr zr zr bh ?_
  intro b11
  cases WQ:C9 m (l.take j)
  all_goals(
   rw[WQ]at hJ
   refine go ?_
   ((refine aD 7 ((.bool (C9 m (l.take (j+1))))) rfl ((congrArg Value.bool (by rw[hJ];rfl))) ?_))
   refine go ?_
   refine aM (U:=aU) (l:=dC (hz x)) 0 zr zr zr zr zr zr ?_
   refine al (cs:=dC (hz x)) zr zr zr zr zr zr zr zr zr bh ?_
   intro row
   refine go ?_
   refine aO (mm:=1) (news:=dC (hz x)) 3 0 zr zr zr zr zr zr zr zr zr zr zr zr (Vw.ag rfl) rfl (by rw[eG];exact dm _) ai (by show(((l.take j).map hz).length+1)*32≤_;omega) (fun _=>rfl) bh ?_
   intro v1
   rw[hp1,hp2]
   refine aL 3 rfl ?_
   rintro ja jc rfl
   refine go ?_
   refine aV 23 ((.slice (sliceAt (some ⟨bb,oo,none⟩) mc 1 1) l.length (mc-1))) rfl ((by rw[Vx])) ?_
   refine aK ih (j+1,ja,jc) rfl (by simp only;omega) (by simp only;omega) bQ ah)
 ·intro ek
  have MX:j=l.length:=by omega
  subst MX
  rw[List.take_length]
  obtain⟨p,hp⟩:∃p,p=l.map hz:=⟨_,rfl⟩
  obtain⟨ok,hJ⟩:∃ok,ok=C9 m l:=⟨_,rfl⟩
  have Cn:p.length≤65536:=by rw[hp,List.length_map];omega
  rw[← hp,← hJ]at hE ⊢
  have Zz:=Z8 ok d k p
  refine ak (ao.pick [4] rfl) ?_
  refine cL 0 rfl ?_
  rintro ta tc rfl
  refine eu 0 rfl ?_
  intro YL
  refine go ?_
  refine bn (fun j:Nat=>j≤ts.length) (fun j=>ts.length-j)
   (fun j=>[(0,ptr tb),(4,ptr b4),(6,.int .i64 (k:Int)),(7,.bool ok),(8,.slice pa p.length pc),(46,.slice ta ts.length tc),(47,.int .i64 (ts.length:Int)),(48,.int .i64 (j:Int))])
   (fun j=>ag tb (cl [ptr bs,ptr jb,.slice ta ts.length tc,.bool br] 131)::aI 133 1 (.slice ta ts.length tc) ts.length (ts.map eK)::bZ (jo (fP ok d k p) j ts)::aI 36 32 (.slice pa p.length pc) p.length (p.flatMap dC)::ag b4 (cl (dC d) 36)::Z::F) 0 (Nat.zero_le _) rfl bQ ah ?_
  intro j hj ih
  refine go ?_
  refine au zr zr ?_ ?_
  ·intro cq
   have nC:j<ts.length:=by omega
   obtain⟨y,hy⟩:∃y,ts[j]?=some y:=⟨ts[j],by simp⟩
   have hym:=List.mem_of_getElem? hy
   have hyn:=hn y hym
   have hyw:=hw y hym
   have hgy:(jo (fP ok d k p) j ts)[j]?=some y:=by rw[JW,hy]
   have jX:=JV (fP ok d k p) hy
   obtain⟨b9,o9,c9,he9⟩:=YL.some (L9 nC)
   obtain⟨rfl,rfl⟩:=he9
   refine go ?_
   refine bC j zr zr zr zr zr zr zr zr nC ?_
   refine aT ?_
   refine aN 1 j zr zr zr YL rfl (pJ hy) zr zr (go ?_)
   refine ak (ao.pick [2] rfl) ?_
   refine ak (yu hgy _) ?_
   have jt:∀H,ao (oM (fP ok d k p y)::bZ ((jo (fP ok d k p) j ts).take j++(jo (fP ok d k p) j ts).drop (j+1))::H) (bZ (jo (fP ok d k p) (j+1) ts)::H):=fun H=>by rw[← jX];exact L8 hgy _ H
   refine cI (iY y) ?_
   rintro⟨wv,Iz,M⟩ hz2
   have lF:∀H,ao (ag y.yb (cl (sK y) 138)::ag y.sb (cl [.int .i64 (y.n:Int),wv] 307)::aI 43 1 wv y.ws.length (qV y.ws)::aC (Value.int .i64) y.mb Iz::a6 36 M::bZ ((jo (fP ok d k p) j ts).take j++(jo (fP ok d k p) j ts).drop (j+1))::H) (oM y::bZ ((jo (fP ok d k p) j ts).take j++(jo (fP ok d k p) j ts).drop (j+1))::H):=fun H=>ao.trans (H2:=Aa y (wv,Iz,M)++(bZ ((jo (fP ok d k p) j ts).take j++(jo (fP ok d k p) j ts).drop (j+1))::H)) ah (lQ hz2 _)
   have oK:fP ok d k p y=y→∀H,ao (ag y.yb (cl (sK y) 138)::ag y.sb (cl [.int .i64 (y.n:Int),wv] 307)::aI 43 1 wv y.ws.length (qV y.ws)::aC (Value.int .i64) y.mb Iz::a6 36 M::bZ ((jo (fP ok d k p) j ts).take j++(jo (fP ok d k p) j ts).drop (j+1))::H) (bZ (jo (fP ok d k p) (j+1) ts)::H):=fun h H=>by
    have:=jt H
    rw[h]at this
    exact(lF H).trans this
   refine aJ (fun w=>Sat G w ([ag y.yb (cl (sK y) 138),ag b4 (cl (dC d) 36)])) (cM 0 16 (.act 16 (cM 17 9 (.st 27 (.act 26 (.act 28 (.st 29 (.st 30 .nil)))))))) rfl ae ae ae cY ?_
   cases ok with
   | false =>
    have M5:fP false d k p y=y:=by unfold fP;rw[if_neg (by simp)]
    refine go ?_
    refine ak (ao.trans ah (oK M5 (ag tb (cl [ptr bs,ptr jb,.slice (some ⟨b9,o9,none⟩) ts.length tc,.bool br] 131)::aI 133 1 (.slice (some ⟨b9,o9,none⟩) ts.length tc) ts.length (ts.map eK)::aI 36 32 (.slice pa p.length pc) p.length (p.flatMap dC)::ag b4 (cl (dC d) 36)::Z::F))) ?_
    refine aK ih (j+1) rfl ai ai bQ ah
   | true =>
   refine go ?_
   refine bU (U:=aU) (cs:=dC y.x.d) 0 zr zr zr zr zr zr (go ?_)
   refine df (U:=aU) (l:=dC d) 1 zr zr zr zr zr zr (go ?_)
   refine mw (b:=decide (y.x.d=d)) zr zr zr KC (fun w=>KI y.x.d d w) ?_
   by_cases WK:y.x.d=d
   case neg =>
    rw[decide_eq_false WK]
    have M5:fP true d k p y=y:=by unfold fP;rw[if_neg (fun h=>WK h.2.1)]
    refine go ?_
    refine ak (ao.trans ah (oK M5 (ag tb (cl [ptr bs,ptr jb,.slice (some ⟨b9,o9,none⟩) ts.length tc,.bool br] 131)::aI 133 1 (.slice (some ⟨b9,o9,none⟩) ts.length tc) ts.length (ts.map eK)::aI 36 32 (.slice pa p.length pc) p.length (p.flatMap dC)::ag b4 (cl (dC d) 36)::Z::F))) ?_
    refine aK ih (j+1) rfl ai ai bQ ah
   rw[decide_eq_true WK]
   refine go ?_
   refine bP (vD y.sb y.n wv) ?_
   refine go ?_
   by_cases WU:k<y.n
   case neg =>
    have M5:fP true d k p y=y:=by unfold fP;rw[if_neg (fun h=>WU h.2.2.1)]
    refine aD 71 ((.bool false)) rfl ((congrArg Value.bool (decide_eq_false ai))) (go ?_)
    refine ak (ao.trans ah (oK M5 (ag tb (cl [ptr bs,ptr jb,.slice (some ⟨b9,o9,none⟩) ts.length tc,.bool br] 131)::aI 133 1 (.slice (some ⟨b9,o9,none⟩) ts.length tc) ts.length (ts.map eK)::aI 36 32 (.slice pa p.length pc) p.length (p.flatMap dC)::ag b4 (cl (dC d) 36)::Z::F))) ?_
    refine aK ih (j+1) rfl ai ai bQ ah
   refine aD 71 ((.bool true)) rfl ((congrArg Value.bool (decide_eq_true ai))) (go ?_)
   refine bP (vD y.sb y.n wv) ?_
   refine go ?_
   refine bP (yq (y.n:Int) (k:Int)) ?_
   refine go ?_
   by_cases hpd:p.length=iw y.n k
   case neg =>
    have M5:fP true d k p y=y:=by unfold fP;rw[if_neg (fun h=>hpd h.2.2.2)]
    refine aV 82 ((.bool false)) rfl ((congrArg Value.bool (decide_eq_false ai))) (go ?_)
    refine ak (ao.trans ah (oK M5 (ag tb (cl [ptr bs,ptr jb,.slice (some ⟨b9,o9,none⟩) ts.length tc,.bool br] 131)::aI 133 1 (.slice (some ⟨b9,o9,none⟩) ts.length tc) ts.length (ts.map eK)::aI 36 32 (.slice pa p.length pc) p.length (p.flatMap dC)::ag b4 (cl (dC d) 36)::Z::F))) ?_
    refine aK ih (j+1) rfl ai ai bQ ah
   refine aV 82 ((.bool true)) rfl ((congrArg Value.bool (decide_eq_true ai))) ?_
   have M5:fP true d k p y=y.put k p:=by unfold fP;rw[if_pos ⟨rfl,WK,WU,hpd⟩]
   rw[M5]at jt
   refine ak (ao.trans ah (lF (ag tb (cl [ptr bs,ptr jb,.slice (some ⟨b9,o9,none⟩) ts.length tc,.bool br] 131)::aI 133 1 (.slice (some ⟨b9,o9,none⟩) ts.length tc) ts.length (ts.map eK)::aI 36 32 (.slice pa p.length pc) p.length (p.flatMap dC)::ag b4 (cl (dC d) 36)::Z::F))) ?_
   refine ak (H':=aI 36 32 (.slice pa p.length pc) p.length (p.flatMap dC)::oM y::bZ ((jo (fP true d k p) j ts).take j++(jo (fP true d k p) j ts).drop (j+1))::ag tb (cl [ptr bs,ptr jb,.slice (some ⟨b9,o9,none⟩) ts.length tc,.bool br] 131)::aI 133 1 (.slice (some ⟨b9,o9,none⟩) ts.length tc) ts.length (ts.map eK)::ag b4 (cl (dC d) 36)::Z::F) ah ?_
   refine eu 0 rfl ?_
   intro N1
   have vZ:=IS y k WU hyn hyw _ (.slice pa p.length pc) p N1 ai
   refine go ?_
   refine aw vZ ?_
   refine go ?_
   refine ak (ao.pick [0,2,3,4] rfl) ?_
   refine ak (jt _) ?_
   refine aK ih (j+1) rfl ai ai bQ ah
  ·intro ek
   have MX:j=ts.length:=by omega
   subst MX
   rw[AO]
   have VF:(ts.map (fP ok d k p)).map eK=ts.map eK:=by rw[← AO];exact JU _ Zz _ _
   have abj:(ts.map (fP ok d k p)).length=ts.length:=List.length_map ..
   refine go ?_
   refine ak (H':=ag tb (cl [ptr bs,ptr jb,.slice ta ts.length tc,.bool br] 131)::aI 133 1 (.slice ta ts.length tc) (ts.map (fP ok d k p)).length ((ts.map (fP ok d k p)).map eK)::bZ (ts.map (fP ok d k p))::Z::F) (by rw[VF,abj];exact ah) ?_
   refine bB hE Tryz.func132 rfl _ rfl ⟨rfl,k,DK,rfl⟩ ah
end Go.Proofs.YtnkfkabokmcgoaaGreatDoor
namespace Go.Proofs.YtnkfkabokmcgoaaGreatDoor
open Go Go.SL
variable{d:Dg}{cs:List TC}{b:List UInt8}
def KP(ts:List Tk)(d:Dg):jM (Ml ts d)=Mm (jM ts) d:=by
 unfold jM Ml Mm
 rw[List.filter_map]
 rfl
def FA(ts:List Tk)(y:Tk):jM (ts++[y])=jM ts++[y.c]:=by simp[jM]
def Xe(k:UInt8)(n:Nat)(hn:n<256):decide ((k.toNat:Int)=(n:Int))=decide (k=UInt8.ofNat n):=by
 rw[decide_eq_decide]
 constructor
 ·intro h
  have h2:k.toNat=n:=by omega
  rw[← h2]
  exact(UInt8.ofNat_toNat).symm
 ·rintro rfl
  rw[UInt8.toNat_ofNat']
  omega
def CA(h:iH b=none):e7 cs b=cs:=by unfold e7;rw[h]
def IW(h:iH b=some (3,d,[])):e7 cs b=Mm cs d:=by unfold e7;rw[h];simp
theorem Ac{m:List UInt8}{l:List (List UInt8)}(h:iH b=some (2,d,m::l)):e7 cs b=nt cs d m l:=by
 grind [e7]
theorem Ad{s p r:List UInt8}(h:iH b=some (1,d,[s,p,r])):e7 cs b=(match o8 s,o8 p,fU r with
  | some s,some p,some r=>if cp ⟨d,s,p,r⟩then Mm cs d++[q7 ⟨d,s,p,r⟩]else cs
  | _,_,_=>cs):=by
 grind [e7]
theorem lR{k:UInt8}{l:List (List UInt8)}(h:iH b=some (k,d,l))(h3:¬(k=3∧l.length=0))(h1:¬(k=1∧l.length=3))(h2:¬(k=2∧0<l.length)):e7 cs b=cs:=by
 grind [e7]
attribute [local irreducible] J K aq Ends ag aI aC bF aW aP a6 aZ bN aB
theorem IV(X:HP)(tb bs jb:Nat)(tv:Value)(br:Bool)(ts:List Tk)(bv:Value)(b:List UInt8)(hb:fb X bv b)(sT:b.length≤1000000)(hl:ts.length≤900000)(hn:∀y∈ts,y.n≤65536)(hw:∀y∈ts,y.n≤y.ws.length*64) :
  aq Tryz.prog 60 [ptr tb,bv] (ff tb bs jb tv ts br++[X]) (fun r H=>r = .tuple #[]∧∃(IQ:List Tk) (F4:Value),jM IQ=e7 (jM ts) b∧H=ff tb bs jb F4 IQ br++[X]):=by
 have sQ:=Gl X bv b hb sT
 have hrm:=fun d=>CW tb bs jb tv br ts d ai
 refine aq.aj Tryz.func60 Tryz.ntmps60 fun G F R hE=>?_
 refine go ?_
 refine aF sQ ?_
 rintro _ _ (⟨hn0,⟨k,d,ma,mn,mc,rfl⟩,rfl⟩|⟨k,d,more,mv,Z,hr,lE,MQ,Zf,rfl,rfl⟩)
 ·refine go ?_
  refine az zr zr zr bh ?_
  intro b5
  refine go ?_
  refine bB hE Tryz.func60 rfl _ rfl ⟨rfl,ts,tv,(CA hn0).symm,rfl⟩ ah
 have Zi:=lE
 obtain⟨cs,dt,mF,⟨ma,mc,rfl,hmc⟩,pn⟩:=lE
 refine go ?_
 refine az zr zr zr bh ?_
 intro b5
 refine go ?_
 have fy:∀j:Nat,j<256→k≠UInt8.ofNat j→decide ((k.toNat:Int)=(j:Int))=false:=fun j hj h=>by rw[Xe k j hj];exact decide_eq_false h
 have gR:e7 (jM ts) b=jM ts→∃(IQ:List Tk) (F4:Value),jM IQ=e7 (jM ts) b∧[ag tb (cl [ptr bs,ptr jb,tv,.bool br] 131),aI 133 1 tv ts.length (ts.map eK),bZ ts]++[X]=[ag tb (cl [ptr bs,ptr jb,F4,.bool br] 131),aI 133 1 F4 IQ.length (IQ.map eK),bZ IQ]++[X]:=fun h=>⟨ts,tv,h.symm,rfl⟩
 by_cases h3:k=3
 ·subst h3
  by_cases h0:more.length=0
  ·have hmn:more=[]:=List.eq_nil_of_length_eq_zero h0
   subst hmn
   have qB:=IW (cs:=jM ts) hr
   refine go ?_
   refine aM (U:=aU) (l:=dC d) 0 zr zr zr zr zr zr ?_
   refine aF (hrm d) ?_
   rintro _ _⟨rfl,F4,rfl⟩
   refine go ?_
   (refine bB hE Tryz.func60 rfl _ rfl ⟨rfl,Ml ts d,F4,by rw[KP,qB],rfl⟩ ah)
  ·have qB:=lR (cs:=jM ts) hr (fun h=>h0 h.2) (fun h=>absurd h.1 (by decide)) (fun h=>absurd h.1 (by decide))
   refine go ?_
   refine aV 25 ((.bool false)) rfl ((congrArg Value.bool (decide_eq_false ai))) (go ?_)
   refine bB hE Tryz.func60 rfl _ rfl ⟨rfl,gR qB⟩ ah
 have hn3:=fy 3 ai h3
 refine aD 28 ((.bool false)) rfl ((congrArg Value.bool hn3)) ?_
 by_cases h1:k=1
 ·subst h1
  by_cases h0:more.length=3
  case neg =>
   have qB:=lR (cs:=jM ts) hr (fun h=>absurd h.1 (by decide)) (fun h=>h0 h.2) (fun h=>absurd h.1 (by decide))
   refine go ?_
   refine aV 36 ((.bool false)) rfl ((congrArg Value.bool (decide_eq_false ai))) (go ?_)
   refine bB hE Tryz.func60 rfl _ rfl ⟨rfl,gR qB⟩ ah
  obtain⟨ms,mp,mr,rfl⟩:∃ms mp mr,more=[ms,mp,mr]:=by
   match more,h0 with
   | [ms,mp,mr],_=>exact⟨ms,mp,mr,rfl⟩
  have qB:=Ad (cs:=jM ts) hr
  obtain⟨c0,M9,Bj⟩:=pn 0 ms rfl
  obtain⟨c1,W1,oR⟩:=pn 1 mp rfl
  obtain⟨c2,W0,mN⟩:=pn 2 mr rfl
  have hq0:=nq Z c0 ms Bj (by have:=MQ ms (by simp);omega)
  have hq1:=nq Z c1 mp oR (by have:=MQ mp (by simp);omega)
  have hq2:=qP Z c2 mr mN (by have:=MQ mr (by simp);omega)
  obtain⟨bb,oo,cc,he⟩:=dt.some (by intro h;rw[h]at mF;simp at mF)
  obtain⟨rfl,rfl⟩:=he
  refine aS (H':=ag b5 (cl (dC d) 36)::Z::ag tb (cl [ptr bs,ptr jb,tv,.bool br] 131)::aI 133 1 tv ts.length (ts.map eK)::bZ ts::X::F) ah (go ?_)
  refine bC 0 zr zr zr zr zr zr zr zr (by simp) ?_
  refine aT ?_
  refine aN 1 0 zr zr zr dt rfl M9 zr zr ?_
  refine aF hq0 ?_
  rintro _ _⟨rfl,k1,Ix,rfl,abq⟩
  refine go ?_
  refine bC 1 zr zr zr zr zr zr zr zr (by simp) ?_
  refine aT ?_
  refine aN 0 1 zr zr zr dt rfl W1 zr zr ?_
  refine aF hq1 ?_
  rintro _ _⟨rfl,k2,DK,rfl,abo⟩
  refine go ?_
  refine bC 2 zr zr zr zr zr zr zr zr (by simp) ?_
  refine aT ?_
  refine aN 0 2 zr zr zr dt rfl W0 zr zr ?_
  refine aw hq2 ?_
  refine go ?_
  refine az zr zr zr bh ?_
  intro b12
  refine go ?_
  refine aM (U:=aU) (l:=dC d) 2 zr zr zr zr zr zr (go ?_)
  refine aM (U:=aU) (l:=dC (hz mr)) 0 zr zr zr zr zr zr (go ?_)
  obtain⟨x,hx⟩:∃x:Bl,x=⟨d,(k1:Int),(k2:Int),hz mr⟩:=⟨_,rfl⟩
  refine az zr zr zr bh ?_
  intro b14
  refine go ?_
  ((refine aS (H':=ag b14 (cl (dY x) 107)::ag b5 (cl (dC d) 36)::ag tb (cl [ptr bs,ptr jb,tv,.bool br] 131)::aI 133 1 tv ts.length (ts.map eK)::bZ ts::X::F) ((by rw[hx];exact ah)) ?_))
  have uy:=oF x
  cases e0:o8 ms with
  | none =>
   rw[e0]at qB
   refine go ?_
   refine bB hE Tryz.func60 rfl _ rfl ⟨rfl,gR qB⟩ ah
  | some v0 =>
  obtain rfl:=abq v0 e0
  rw[e0]at qB
  cases e1:o8 mp with
  | none =>
   rw[e1]at qB
   refine go ?_
   refine bB hE Tryz.func60 rfl _ rfl ⟨rfl,gR qB⟩ ah
  | some v1 =>
  obtain rfl:=abo v1 e1
  rw[e1]at qB
  cases e2:fU mr with
  | none =>
   rw[e2]at qB
   refine go ?_
   refine bB hE Tryz.func60 rfl _ rfl ⟨rfl,gR qB⟩ ah
  | some v2 =>
  have p5:hz mr=v2:=by unfold hz;rw[e2];rfl
  rw[e2]at qB
  simp only at qB
  rw[p5]at hx
  rw[← hx]at qB
  refine go ?_
  refine aM (U:=aU) (l:=dY x) 0 zr zr zr zr zr zr ?_
  ((refine go ?_;(refine aF uy ?_)))
  rintro _ _⟨rfl,rfl⟩
  cases N7:cp x with
  | false =>
   rw[N7]at qB
   refine go ?_
   refine bB hE Tryz.func60 rfl _ rfl ⟨rfl,gR qB⟩ ah
  | true =>
  rw[N7]at qB
  simp only[if_true]at qB
  have Fk:=Hl x
  refine aS (H':=ag b5 (cl (dC d) 36)::ag tb (cl [ptr bs,ptr jb,tv,.bool br] 131)::aI 133 1 tv ts.length (ts.map eK)::bZ ts::X::ag b14 (cl (dY x) 107)::F) ah (go ?_)
  refine aM (U:=aU) (l:=dC d) 0 zr zr zr zr zr zr ?_
  refine aF (hrm d) ?_
  rintro _ _⟨rfl,F4,rfl⟩
  refine aS (H':=ag tb (cl [ptr bs,ptr jb,F4,.bool br] 131)::aI 133 1 F4 (Ml ts d).length ((Ml ts d).map eK)::bZ (Ml ts d)::X::ag b14 (cl (dY x) 107)::F) ah ?_
  have Iu:(Ml ts d).length≤ts.length:=List.length_filter_le _ _
  obtain⟨us,LU⟩:∃us,us=Ml ts d:=⟨_,rfl⟩
  rw[← LU]at Iu ⊢
  have hcu:jM us=Mm (jM ts) d:=by rw[LU,KP]
  refine go ?_
  refine cL 1 rfl ?_
  rintro ua uc rfl
  refine aJ (fun w=>Sat G w ([ag tb (cl [ptr bs,ptr jb,.slice ua us.length uc,.bool br] 131),ag b14 (cl (dY x) 107)])) (cM 0 6 (.act 6 (.act 7 (.act 8 (.st 9 (.st 10 (.act 11 .nil))))))) rfl ae ae ae cY ?_
  refine go ?_
  refine df (U:=aU) (l:=dY x) 1 zr zr zr zr zr zr (go ?_)
  refine dx Fk ?_
  rintro _ _⟨y,rfl,rfl,YH,MF,hy3,hy4⟩
  refine go ?_
  refine al (cs:=[ptr y.yb]) zr zr zr zr zr zr zr zr zr (fun _ w hw=>hw.cn ah) ?_
  intro r1
  refine go ?_
  refine aO (mm:=1) (news:=[ptr y.yb]) 3 0 rfl rfl rfl rfl rfl rfl rfl rfl rfl rfl rfl rfl (Vw.ag rfl) rfl (by intro v hv;simp at hv;rw[hv];rfl) ai (by show(_+_)*8≤_;omega) (fun _=>rfl) (fun _ w hw=>hw.cn ah) ?_
  intro v1
  refine aL 3 rfl ?_
  rintro ka kc rfl
  refine go ?_
  have VF:us.map eK++[ptr y.yb]=(us++[y]).map eK:=by simp[eK]
  have sE:us.length+1=(us++[y]).length:=by simp
  have rZ:=tz us [] y
  rw[List.append_nil]at rZ
  rw[VF,sE]
  refine ak (ao.pick [1,4,2,3,5] rfl) ?_
  refine ak (rZ _) ?_
  have Vo:y.c=q7 x:=by
   grind [Tk.c,q7]
  (refine bB hE Tryz.func60 rfl _ rfl ⟨rfl,us++[y],_,by rw[FA,hcu,Vo,qB],rfl⟩ ah)
 have hn1:=fy 1 ai h1
 by_cases h2:k=2
 ·subst h2
  by_cases h0:0<more.length
  case neg =>
   have qB:=lR (cs:=jM ts) hr (fun h=>absurd h.1 (by decide)) (fun h=>absurd h.1 (by decide)) (fun h=>h0 h.2)
   refine go ?_
   refine aV 95 ((.bool false)) rfl ((congrArg Value.bool (decide_eq_false ai))) (go ?_)
   refine bB hE Tryz.func60 rfl _ rfl ⟨rfl,gR qB⟩ ah
  obtain⟨m,l,rfl⟩:∃m l,more=m::l:=by
   match more,h0 with
   | m::l,_=>exact⟨m,l,rfl⟩
  have qB:=Ac (cs:=jM ts) hr
  have htp:=F6 Z tb bs jb tv br ts d _ m l Zi MQ Zf ai hn hw
  refine go ?_
  refine aV 95 ((.bool true)) rfl ((congrArg Value.bool (decide_eq_true ai))) (go ?_)
  refine aM (U:=aU) (l:=dC d) 0 zr zr zr zr zr zr ?_
  ((refine go ?_;(refine aF htp ?_)))
  rintro _ _⟨rfl,kk,hkk,rfl⟩
  refine go ?_
  (refine bB hE Tryz.func60 rfl _ rfl ⟨rfl,ts.map (fP (C9 m l) d kk (l.map hz)),tv,by rw[C0 ts d m l kk hkk,qB],rfl⟩ ah)
 have hn2:=fy 2 ai h2
 have qB:=lR (cs:=jM ts) hr (fun h=>h3 h.1) (fun h=>h1 h.1) (fun h=>h2 h.1)
 refine go ?_
 refine aD 39 ((.bool false)) rfl ((congrArg Value.bool hn1)) (go ?_)
 refine aD 98 ((.bool false)) rfl ((congrArg Value.bool hn2)) (go ?_)
 refine bB hE Tryz.func60 rfl _ rfl ⟨rfl,gR qB⟩ ah
end Go.Proofs.YtnkfkabokmcgoaaGreatDoor
namespace Go.Proofs.YtnkfkabokmcgoaaGreatDoor
open Go Go.SL
def Tk.drop(y:Tk)(i:Nat):Tk:=⟨y.yb,y.sb,y.mb,y.x,y.n,lW y.ws i false,fun j=>if j=(i:Int)then none else y.pf j⟩
theorem Eh(es:List (Int × Value))(k j:Int):cw (qh es k) j=if j=k then none else cw es j:=by
 grind [qh,cw]
theorem FF.drop{z:Value × List (Int × Value) × eV}{y:Tk}(h:FF z y)(i:Nat):FF (z.1,qh z.2.1 (i:Int),z.2.2) (y.drop i):=fun j=>by
 rw[Eh]
 by_cases hj:j=(i:Int)
 ·rw[if_pos hj]
  show(if j=(i:Int)then none else y.pf j)=none
  grind
 ·rw[if_neg hj]
  have:=h j
  show match cw z.2.1 j with
   | none=>(if j=(i:Int)then none else y.pf j)=none
   | some v=>∃l,(if j=(i:Int)then none else y.pf j)=some l∧zY z.2.2 32 v l.length (l.flatMap dC)
  grind
attribute [local irreducible] J K aq Ends ag aI aC bF aW aP a6 aZ bN aB
def F7(y:Tk)(i:Nat)(hi:i<y.n)(hn:y.n≤65536)(hw:y.n≤y.ws.length*64) :
  aq Tryz.prog 143 [ptr y.yb,.int .i64 (i:Int)] [oM y] (fun r H=>r = .tuple #[]∧H=[oM (y.drop i)]):=by
 refine aq.aj Tryz.func143 Tryz.ntmps143 fun G F R hE=>?_
 refine cI (iY y) ?_
 rintro⟨wv,cs,M⟩ hz
 have vZ:=Cj y.sb y.n wv y.ws hn hw i hi false
 refine go ?_
 refine aw vZ ?_
 refine aS (H':=ag y.yb (cl (sK y) 138)::aC (Value.int .i64) y.mb cs::ag y.sb (cl [.int .i64 (y.n:Int),wv] 307)::aI 43 1 wv (lW y.ws i false).length (qV (lW y.ws i false))::a6 36 M::F) ah (go ?_)
 refine iS (es:=cs) (key:=(i:Int)) 1 (pg Tryz.underlying3) (fun w hw=>by exact trivial) zr zr zr zr zr zr zr ?_
 refine go ?_
 refine ak (ao.pick [0,2,3] rfl) ?_
 refine ak (lQ (hz.drop i) _) ?_
 refine bB hE Tryz.func143 rfl _ rfl ⟨rfl,rfl⟩ ah
end Go.Proofs.YtnkfkabokmcgoaaGreatDoor
namespace Go.Proofs.YtnkfkabokmcgoaaGreatDoor
open Go Go.SL
variable{ls:List (List UInt8)}{i:Nat}{s:mI}
def lK(c:TC):Prop:=c.n≤1024∧c.n≤c.ws.length*64∧c.ws.length≤65536∧∀k l,c.pf k=some l→l.length≤10
def lK.drop{c:TC}(h:lK c)(i:Nat):lK (c.drop i):=⟨h.1,by unfold TC.drop;simp only[lu];exact h.2.1,by unfold TC.drop;simp only[lu];exact h.2.2.1,fun k l hk=>by
  unfold TC.drop at hk
  simp only at hk
  split at hk
  · cases hk
  · exact h.2.2.2 k l hk⟩
def lK.hold{s:mI}{c:TC}(h:lK c):∀k,lK (gz s c k).1
 | 0=>h
 | k+1=>by
  rw[l9]
  have ih:=lK.hold (s:=s) h k
  unfold lD
  split
  ·split
   ·exact ih.drop k
   ·exact ih
  ·exact ih
theorem C1{x:Bl}{i:Int}{b:List UInt8}{p:List Dg}(h:k7 x i b p=true):p.length≤10:=by
 grind [k7,mf,rf]
def Kj{y:Tk}(h:p9 y.ws y.n (i:Int)=false):lD s (y.c,ls) i=(y.c,ls):=by
 exact if_neg (show ¬p9 y.ws y.n (i:Int)=true by rw[h];simp)
theorem DF{y:Tk}(h:p9 y.ws y.n (i:Int)=true)(h2:(dQ s y.x (i:Int)).2≠0∨k7 y.x i (dQ s y.x (i:Int)).1 ((y.pf i).getD [])=false):lD s (y.c,ls) i=(y.c.drop i,ls):=by
 exact(if_pos (show p9 y.ws y.n (i:Int)=true from h)).trans (if_pos h2)
theorem DD{y:Tk}(h:p9 y.ws y.n (i:Int)=true)(h2:¬((dQ s y.x (i:Int)).2≠0∨k7 y.x i (dQ s y.x (i:Int)).1 ((y.pf i).getD [])=false)):lD s (y.c,ls) i=(y.c,ls++[cz y.x.d i ((y.pf i).getD [])]):=by
 exact(if_pos (show p9 y.ws y.n (i:Int)=true from h)).trans (if_neg h2)
attribute [local irreducible] J K aq Ends ag aI aC bF aW aP a6 aZ bN aB kP
theorem Ki(X:HP)(hK:pt X)(tb bs jb bd:Nat)(tv:Value)(br:Bool)(q:Int)(mb:Nat)(s:SJ)(hRd:∀nm at_ n,(s.1.A.read nm at_ n).1.length≤1048576)(y0:Tk)(hJ:lK y0.c)(iF:0≤y0.x.size∧y0.x.size≤1000000000000)(hps:0≤y0.x.piece∧y0.x.piece≤1000000000000) :
  aq Tryz.prog 62 [ptr tb,ptr y0.yb] [ag tb (cl [ptr bs,ptr jb,tv,.bool br] 131),oM y0,kP bs bd jb q mb [] s,X]
  (fun r H=>∃(y:Tk) (Z:HP),y.yb=y0.yb∧y.c=(jy s.1 y0.c).1∧su Z r (jy s.1 y0.c).2∧H=[ag tb (cl [ptr bs,ptr jb,tv,.bool br] 131),oM y,kP bs bd jb q mb [] s,X,Z]):=by
 have ZP:=wj y0.x iF hps
 refine aq.aj Tryz.func62 Tryz.ntmps62 fun G F R hE=>?_
 refine ak (ao.pick [1] rfl) ?_
 refine cI (iY y0) ?_
 rintro⟨wv,cs,N⟩ hz0
 refine go ?_
 refine bq (cs:=dY y0.x) 0 zr zr zr zr zr zr ?_
 refine aF ZP ?_
 rintro r _ rfl
 refine aL 0 rfl ?_
 rintro a8 c8 rfl
 refine gU (bs:=eh y0.x) 0 rfl ?_
 intro W2
 refine go ?_
 refine al (cs:=[.slice a8 (eh y0.x).length c8]) zr zr zr zr zr zr zr zr zr bh ?_
 intro row
 refine aS (H':=ag y0.yb (cl (sK y0) 138)::ag y0.sb (cl [.int .i64 (y0.n:Int),wv] 307)::aI 43 1 wv y0.ws.length (qV y0.ws)::aC (Value.int .i64) y0.mb cs::a6 36 N::ag row (cl [.slice a8 (eh y0.x).length c8] 38)::aI 5 1 (.slice a8 (eh y0.x).length c8) (eh y0.x).length (bV (eh y0.x))::ag tb (cl [ptr bs,ptr jb,tv,.bool br] 131)::kP bs bd jb q mb [] s::X::F) ah (go ?_)
 refine aw (vD y0.sb y0.n wv) ?_
 refine go ?_
 refine ak (ao.trans (H2:=Aa y0 (wv,cs,N)++(ag row (cl [.slice a8 (eh y0.x).length c8] 38)::aI 5 1 (.slice a8 (eh y0.x).length c8) (eh y0.x).length (bV (eh y0.x))::ag tb (cl [ptr bs,ptr jb,tv,.bool br] 131)::kP bs bd jb q mb [] s::X::F)) ah (lQ hz0 _)) ?_
 refine ak (ao.pick [1,2] rfl) ?_
 refine ak (eL 38 1 row 1 1 [.slice a8 (eh y0.x).length c8] [] _ rfl (Nat.le_refl _) (by simp)) ?_
 refine bn (fun z:Nat × Tk × Xb × Option Addr × Nat=>z.1≤y0.n∧z.2.1.yb=y0.yb∧z.2.1.c=(gz s.1 y0.c z.1).1∧zx z.2.2.1 (gz s.1 y0.c z.1).2∧z.2.2.1.cs.length≤z.1+1) (fun z=>y0.n-z.1)
  (fun z=>[(0,ptr tb),(1,ptr y0.yb),(5,.slice z.2.2.2.1 z.2.2.1.cs.length z.2.2.2.2),(19,.int .i64 (y0.n:Int)),(20,.int .i64 (z.1:Int))])
  (fun z=>aI 38 1 (.slice z.2.2.2.1 z.2.2.1.cs.length z.2.2.2.2) z.2.2.1.cs.length z.2.2.1.cs::z.2.2.1.Z::oM z.2.1::ag tb (cl [ptr bs,ptr jb,tv,.bool br] 131)::kP bs bd jb q mb [] s::X::F) (0,y0,⟨[.slice a8 (eh y0.x).length c8],aI 5 1 (.slice a8 (eh y0.x).length c8) (eh y0.x).length (bV (eh y0.x))⟩,some ⟨row,0,none⟩,1) ⟨Nat.zero_le _,rfl,rfl,?_,by simp⟩ rfl bQ ah ?_
 ·refine⟨rfl,fun j x hx=>?_⟩
  match j,hx with
  | 0,hx=>cases hx;exact⟨_,rfl,W2⟩
  | j+1,hx=>cases hx
 rintro⟨i,y,M,oa,oc⟩⟨hi,Im,Vo,hM,hMl⟩ ih
 simp only at hi Im Vo hM hMl
 refine go ?_
 refine au zr zr ?_ ?_
 ·intro cq
  obtain⟨ls,WT⟩:∃ls,ls=(gz s.1 y0.c i).2:=⟨_,rfl⟩
  have Y9:gz s.1 y0.c i=(y.c,ls):=by rw[Vo,WT]
  have mE:=l9 s.1 y0.c i
  rw[Y9]at mE
  rw[← WT]at hM
  have Zc:lK y.c:=by rw[Vo];exact hJ.hold i
  have Vp:=Fc s.1 y0.c i
  rw[← Vo]at Vp
  have hyn:y.n=y0.n:=Vp.2.1
  have YF:y.n≤65536:=Nat.le_trans Zc.1 ai
  have hyw:y.n≤y.ws.length*64:=Zc.2.1
  rw[← Im]
  refine ak (ao.pick [2] rfl) ?_
  refine cI (iY y) ?_
  rintro⟨wv,cs,N⟩ hz
  have lF:∀H,ao (ag y.yb (cl (sK y) 138)::ag y.sb (cl [.int .i64 (y.n:Int),wv] 307)::aI 43 1 wv y.ws.length (qV y.ws)::aC (Value.int .i64) y.mb cs::a6 36 N::H) (oM y::H):=fun H=>ao.trans (H2:=Aa y (wv,cs,N)++H) ah (lQ hz _)
  have VS:=LN y.sb y.n wv y.ws YF hyw (i:Int)
  refine go ?_
  refine aw VS ?_
  cases hhq:p9 y.ws y.n (i:Int)with
  | false =>
   have xA:gz s.1 y0.c (i+1)=(y.c,ls):=by rw[mE,Kj hhq]
   refine go ?_
   refine aV 1 ((ptr y0.yb)) rfl ((by rw[Im])) ?_
   refine ak (ao.trans ah (lF (aI 38 1 (.slice oa M.cs.length oc) M.cs.length M.cs::M.Z::ag tb (cl [ptr bs,ptr jb,tv,.bool br] 131)::kP bs bd jb q mb [] s::X::F))) ?_
   refine aK ih (i+1,y,M,oa,oc) rfl ⟨by simp only;omega,Im,by rw[xA],by rw[xA];exact hM,by simp only;omega⟩ ai bQ ah
  | true =>
  have hsg:=Ei bs bd q mb s.1 y.x (i:Int)
  obtain⟨bb,ZR⟩:∃b,b=(dQ s.1 y.x (i:Int)).1:=⟨_,rfl⟩
  obtain⟨ee,hee⟩:∃e,e=(dQ s.1 y.x (i:Int)).2:=⟨_,rfl⟩
  have sT:bb.length≤1048576:=by
   grind [dQ]
  have xz:(ee≠0∨k7 y.x i bb ((y.pf i).getD [])=false)→gz s.1 y0.c (i+1)=(y.c.drop i,ls):=fun h=>by
   grind [DF]
  have Y1:¬(ee≠0∨k7 y.x i bb ((y.pf i).getD [])=false)→gz s.1 y0.c (i+1)=(y.c,ls++[cz y.x.d i ((y.pf i).getD [])]):=fun h=>by
   grind [DD]
  rw[← ZR,← hee]at hsg
  obtain⟨pv,VA,MH⟩:=hz.look (i:Int)
  obtain⟨pa,pc,aa8,N9⟩:=MH.shape
  subst aa8
  refine go ?_
  refine ak (ao.pick [8,2] rfl) ?_
  refine ak (El bs bd jb q mb s _) ?_
  refine aJ (fun w=>Sat G w ([ag tb (cl [ptr bs,ptr jb,tv,.bool br] 131),ag y.yb (cl (sK y) 138)])) (cM 0 9 (.act 9 (cM 10 5 .nil))) rfl ae ae ae cY ?_
  refine go ?_
  refine bU (U:=aU) (cs:=dY y.x) 1 zr zr zr zr zr zr (go ?_)
  ((refine cP zr zr zr zr (hsg) ah ?_ (fun _ _ w hp hw=>by obtain⟨_,rfl,rfl⟩:=hp;exact hw.cn ah)))
  rintro _ _⟨rv,rfl,rfl⟩
  refine aL 0 rfl ?_
  rintro ra rc rfl
  refine qE ?_
  refine gT rfl ?_
  refine ak (ao.trans ah (vf bs bd jb q mb s (aI 5 1 (.slice ra bb.length rc) bb.length (bV bb)::ag y.yb (cl (sK y) 138)::ag y.sb (cl [.int .i64 (y.n:Int),wv] 307)::aI 43 1 wv y.ws.length (qV y.ws)::aC (Value.int .i64) y.mb cs::a6 36 N::aI 38 1 (.slice oa M.cs.length oc) M.cs.length M.cs::M.Z::ag tb (cl [ptr bs,ptr jb,tv,.bool br] 131)::X::F))) ?_
  refine vj (bs:=bb) 1 rfl ?_
  intro abH
  obtain⟨pf,hpf⟩:∃l,l=(y.pf (i:Int)).getD []:=⟨_,rfl⟩
  rw[← hpf]at VA MH N9 xz Y1
  have VF:=Dv (Sep [X,aI 5 1 (.slice ra bb.length rc) bb.length (bV bb),a6 36 N]) (hK.mono (bz (H:=[X,aI 5 1 (.slice ra bb.length rc) bb.length (bV bb),a6 36 N]) (i:=0) rfl)) y.x (i:Int) (.slice ra bb.length rc) bb (abH.mono (bz (i:=1) rfl)) ai (.slice pa pf.length pc) pf ⟨(MH.view _).mono (bz (i:=2) rfl),pa,pc,rfl,N9⟩
  have WY:=F7 y i ai YF hyw
  refine ak (ao.pick [10,1,6,2,5,3,4,7,8,9] rfl) ?_
  refine ak (ao.cd [X,aI 5 1 (.slice ra bb.length rc) bb.length (bV bb),a6 36 N] _) ?_
  have jZ:∀H,ao (Sep [X,aI 5 1 (.slice ra bb.length rc) bb.length (bV bb),a6 36 N]::ag y.yb (cl (sK y) 138)::aC (Value.int .i64) y.mb cs::ag y.sb (cl [.int .i64 (y.n:Int),wv] 307)::aI 43 1 wv y.ws.length (qV y.ws)::H) (ag y.yb (cl (sK y) 138)::ag y.sb (cl [.int .i64 (y.n:Int),wv] 307)::aI 43 1 wv y.ws.length (qV y.ws)::aC (Value.int .i64) y.mb cs::a6 36 N::X::H):=fun H=>(ao.cX [X,aI 5 1 (.slice ra bb.length rc) bb.length (bV bb),a6 36 N] _).trans ah
  refine aJ (fun w=>Sat G w ([ag y.yb (cl (sK y) 138),aC (Value.int .i64) y.mb cs])) (cM 0 15 (.act 15 (.st 16 (.st 17 .nil)))) rfl ae ae ae cY ?_
  refine go ?_
  by_cases he:ee=0
  case neg =>
   have xA:=xz (.inl he)
   refine aD 45 ((.bool true)) rfl ((congrArg Value.bool (decide_eq_true ai))) (go ?_)
   refine aS (ao.trans ah (jZ (aI 38 1 (.slice oa M.cs.length oc) M.cs.length M.cs::M.Z::ag tb (cl [ptr bs,ptr jb,tv,.bool br] 131)::kP bs bd jb q mb [] s::F))) ?_
   refine aS (lF _) (go ?_)
   refine aw WY ?_
   refine go ?_
   refine aV 1 ((ptr y0.yb)) rfl ((by rw[Im])) ?_
   refine aK ih (i+1,y.drop i,M,oa,oc) rfl ⟨by simp only;omega,Im,by rw[xA];rfl,by rw[xA];exact hM,by simp only;omega⟩ ai bQ ah
  refine aD 45 ((.bool false)) rfl ((congrArg Value.bool (decide_eq_false ai))) (go ?_)
  refine bU (U:=aU) (cs:=dY y.x) 0 zr zr zr zr zr zr (go ?_)
  refine ym (U:=aU) (kv:=Value.int .i64) (es:=cs) (key:=(i:Int)) rfl (pg Tryz.underlying3) zr zr zr zr zr zr zr (fun w hw=>hw.eU (i:=1) rfl) ?_
  refine aD 57 ((.slice pa pf.length pc)) rfl (VA) (go ?_)
  refine bP VF ?_
  cases hpb:k7 y.x i bb pf with
  | false =>
   have xA:=xz (.inr hpb)
   refine go ?_
   refine aS (ao.trans ah (jZ (aI 38 1 (.slice oa M.cs.length oc) M.cs.length M.cs::M.Z::ag tb (cl [ptr bs,ptr jb,tv,.bool br] 131)::kP bs bd jb q mb [] s::F))) ?_
   refine aS (lF _) (go ?_)
   refine aw WY ?_
   refine go ?_
   refine aV 1 ((ptr y0.yb)) rfl ((by rw[Im])) ?_
   refine aK ih (i+1,y.drop i,M,oa,oc) rfl ⟨by simp only;omega,Im,by rw[xA];rfl,by rw[xA];exact hM,by simp only;omega⟩ ai bQ ah
  | true =>
  have xA:=Y1 (fun h=>by rcases h with h|h;exact h he;rw[hpb]at h;cases h)
  have Cn:=C1 hpb
  have ML:=Gm y.x.d i ai (a6 36 N) (.slice pa pf.length pc) pf (MH.view _) ai
  refine go ?_
  refine ak (ao.trans ah (jZ (aI 38 1 (.slice oa M.cs.length oc) M.cs.length M.cs::M.Z::ag tb (cl [ptr bs,ptr jb,tv,.bool br] 131)::kP bs bd jb q mb [] s::F))) ?_
  refine aJ (fun w=>Sat G w ([ag y.yb (cl (sK y) 138),aC (Value.int .i64) y.mb cs])) (cM 0 13 (.act 13 (.act 14 (.act 15 (.st 16 .nil))))) rfl ae ae ae cY ?_
  refine go ?_
  refine bU (U:=aU) (cs:=dC y.x.d) 0 zr zr zr zr zr zr (go ?_)
  refine ym (U:=aU) (kv:=Value.int .i64) (es:=cs) (key:=(i:Int)) rfl (pg Tryz.underlying3) zr zr zr zr zr zr zr (fun w hw=>hw.eU (i:=1) rfl) ?_
  refine aD 76 ((.slice pa pf.length pc)) rfl (VA) (go ?_)
  refine dx ML ?_
  rintro r9 _ rfl
  refine aL 0 rfl ?_
  rintro a9 c9 rfl
  refine gU (bs:=cz y.x.d i pf) 0 rfl ?_
  intro V9
  refine go ?_
  refine al (cs:=[.slice a9 (cz y.x.d i pf).length c9]) zr zr zr zr zr zr zr zr zr (fun _ w hw=>hw.cn ah) ?_
  intro Mj
  refine aS (H':=ag Mj (cl [.slice a9 (cz y.x.d i pf).length c9] 38)::aI 38 1 (.slice oa M.cs.length oc) M.cs.length M.cs::aI 5 1 (.slice a9 (cz y.x.d i pf).length c9) (cz y.x.d i pf).length (bV (cz y.x.d i pf))::M.Z::ag y.yb (cl (sK y) 138)::ag y.sb (cl [.int .i64 (y.n:Int),wv] 307)::aI 43 1 wv y.ws.length (qV y.ws)::aC (Value.int .i64) y.mb cs::a6 36 N::ag tb (cl [ptr bs,ptr jb,tv,.bool br] 131)::kP bs bd jb q mb [] s::X::F) ah (go ?_)
  refine aO (mm:=1) (news:=[.slice a9 (cz y.x.d i pf).length c9]) 1 0 rfl rfl rfl rfl rfl rfl rfl rfl rfl rfl rfl rfl (Vw.ag rfl) rfl (by intro v hv;simp at hv;rw[hv];rfl) ai (by show(_+_)*24≤_;omega) (fun _=>rfl) (fun _ w hw=>hw.cn ah) ?_
  intro v1
  refine aL 1 rfl ?_
  rintro ja jc rfl
  refine go ?_
  have Bk:=hM.add V9
  have V5:(M.cs++[Value.slice a9 (cz y.x.d i pf).length c9]).length=M.cs.length+1:=by simp
  refine ak (H':=aI 5 1 (.slice a9 (cz y.x.d i pf).length c9) (cz y.x.d i pf).length (bV (cz y.x.d i pf))::M.Z::ag y.yb (cl (sK y) 138)::ag y.sb (cl [.int .i64 (y.n:Int),wv] 307)::aI 43 1 wv y.ws.length (qV y.ws)::aC (Value.int .i64) y.mb cs::a6 36 N::aI 38 1 (.slice ja (M.cs++[Value.slice a9 (cz y.x.d i pf).length c9]).length jc) (M.cs++[Value.slice a9 (cz y.x.d i pf).length c9]).length (M.cs++[Value.slice a9 (cz y.x.d i pf).length c9])::ag tb (cl [ptr bs,ptr jb,tv,.bool br] 131)::kP bs bd jb q mb [] s::X::F) (by rw[V5];exact ah) ?_
  refine ak (ao.cd [aI 5 1 (.slice a9 (cz y.x.d i pf).length c9) (cz y.x.d i pf).length (bV (cz y.x.d i pf)),M.Z] _) ?_
  refine ak (ao.trans ah (lF (Sep [aI 5 1 (.slice a9 (cz y.x.d i pf).length c9) (cz y.x.d i pf).length (bV (cz y.x.d i pf)),M.Z]::aI 38 1 (.slice ja (M.cs++[Value.slice a9 (cz y.x.d i pf).length c9]).length jc) (M.cs++[Value.slice a9 (cz y.x.d i pf).length c9]).length (M.cs++[Value.slice a9 (cz y.x.d i pf).length c9])::ag tb (cl [ptr bs,ptr jb,tv,.bool br] 131)::kP bs bd jb q mb [] s::X::F))) ?_
  refine aV 1 ((ptr y0.yb)) rfl ((by rw[Im])) ?_
  refine aV 5 ((.slice ja (M.cs++[Value.slice a9 (cz y.x.d i pf).length c9]).length jc)) rfl ((by rw[V5])) ?_
  refine aK ih (i+1,y,⟨M.cs++[Value.slice a9 (cz y.x.d i pf).length c9],Sep [aI 5 1 (.slice a9 (cz y.x.d i pf).length c9) (cz y.x.d i pf).length (bV (cz y.x.d i pf)),M.Z]⟩,ja,jc) rfl ⟨by simp only;omega,Im,by rw[xA],by rw[xA];exact Bk,by simp only[V5];omega⟩ ai bQ ah
 ·intro ek
  have vK:i=y0.n:=by omega
  subst vK
  refine nX 0 rfl ?_
  intro gg
  refine eu 0 rfl ?_
  intro vH
  have sE:=hM.1
  have lE:su (Sep [aI 38 1 (.slice oa M.cs.length oc) M.cs.length M.cs,M.Z]) (.slice oa M.cs.length oc) (jy s.1 y0.c).2:=by
   rw[sE]at vH gg ⊢
   exact su.ofP vH gg sE hM.2
  refine ak (ao.cd [aI 38 1 (.slice oa M.cs.length oc) M.cs.length M.cs,M.Z] _) (go ?_)
  refine ad hE Tryz.func62 zr zr ⟨y,_,Im,Vo,lE,rfl⟩
end Go.Proofs.YtnkfkabokmcgoaaGreatDoor
namespace Go.Proofs.YtnkfkabokmcgoaaGreatDoor
open Go Go.SL
def K7(c:TC):Prop:=lK c∧cp c.x=true
theorem lK.fresh(x:Bl):lK (q7 x):=by
 have h:=xU x
 unfold lK q7
 grind
theorem lK.put{c:TC}(h:lK c)(i:Nat){l:List Dg}(hl:l.length≤10):lK (c.put i l):=⟨h.1,by unfold TC.put;simp only[lu];exact h.2.1,by unfold TC.put;simp only[lu];exact h.2.2.1,fun k l' hk=>by
  unfold TC.put at hk
  simp only at hk
  split at hk
  · grind
  · exact h.2.2.2 k l' hk⟩
theorem xe{cs:List TC}(h:∀c∈cs,K7 c)(d:Dg)(m:List UInt8)(l:List (List UInt8)):(∀c∈nt cs d m l,K7 c)∧(nt cs d m l).length=cs.length:=by
 unfold nt
 split
 ·refine⟨fun c hc=>?_,by simp⟩
  obtain⟨y,hy,rfl⟩:=List.mem_map.1 hc
  split
  ·rename_i hh
   exact⟨(h y hy).1.put _ (by rw[hh.2.2];exact rf _ _),(h y hy).2⟩
  grind
 grind
def U4{cs:List TC}(h:∀c∈cs,K7 c)(d:Dg):(∀c∈Mm cs d,K7 c)∧(Mm cs d).length≤cs.length:=⟨fun c hc=>h c (List.mem_filter.1 hc).1,List.length_filter_le _ _⟩
theorem IX{cs:List TC}(h:∀c∈cs,K7 c)(b:List UInt8):(∀c∈e7 cs b,K7 c)∧(e7 cs b).length≤cs.length+1:=by
 unfold e7
 split
 ·grind
 ·rename_i k d more _
  have hr:=U4 h d
  split
  ·grind
  ·split
   ·split
    ·split
     ·split
      ·rename_i N7
       refine⟨fun c hc=>?_,by rw[List.length_append];simp;omega⟩
       rcases List.mem_append.1 hc with hc|hc
       ·exact hr.1 c hc
       ·rw[List.mem_singleton.1 hc];exact⟨lK.fresh _,N7⟩
      grind
     grind
    grind [xe]
   ·grind [xe]
   grind
theorem EK:∀(ls:List (List UInt8)) (cs:List TC),(∀c∈cs,K7 c)→(∀c∈ls.foldl e7 cs,K7 c)∧(ls.foldl e7 cs).length≤cs.length+ls.length
 | [],cs,h=>⟨h,by simp⟩
 | b::ls,cs,h=>by
  obtain⟨h1,h2⟩:=IX h b
  obtain⟨h3,h4⟩:=EK ls (e7 cs b) h1
  grind
theorem tw(ls:List (List UInt8)):(∀c∈ls.foldl e7 [],K7 c)∧(ls.foldl e7 []).length≤ls.length:=by
 grind [EK]
theorem EE{q:Int}{x:Bl}{s t:mI}{e:Nat}(h:fX q x s e t):t.cm=s.cm∨t.cm=s.cm++[(x.d,x)]:=by
 unfold fX at h
 split at h
 ·grind
 split at h
 ·grind
 split at h
 ·grind
 split at h
 ·grind
 split at h
 ·grind
 ·obtain⟨e1,s1,⟨B,_,rfl⟩,h2⟩:=h
  grind
theorem kZ{x:Bl}(h:cp x=true):1≤x.size∧x.size≤1048576∧16≤x.piece∧x.piece≤16384:=by
 grind [cp]
theorem sy.begin{q:Int}{x:Bl}{s t:mI}{e:Nat}(h:sy s.cm)(hl:s.cm.length<1000000)(hr:cp x=true)(hR:fX q x s e t):sy t.cm∧t.cm.length≤s.cm.length+1:=by
 rcases EE hR with h1|h1
 ·grind
 ·rw[h1]
  have:=kZ hr
  refine⟨⟨fun y hy=>?_,by simp;omega⟩,by simp⟩
  rcases List.mem_append.1 hy with hy|hy
  ·exact h.1 y hy
  grind
theorem rK:∀(ss:List (PS→Nat→PS→Prop)),(∀sp∈ss,∀x e y,sp x e y→kd x.1 y.1)→∀(x:PS) (e:Nat) (y:PS),ry ss x e y→y.1.aR.length≤x.1.aR.length+ss.length∧y.1.writes.length≤x.1.writes.length+ss.length
 | [],_,x,e,y,h=>by obtain⟨_,rfl⟩:=h;simp
 | sp::ss,hs,x,e,y,⟨e1,x1,h1,h2⟩=>by
  have hg:=hs sp (List.mem_cons_self ..) x e1 x1 h1
  unfold kd at hg
  rcases h2 with⟨_,_,rfl⟩|⟨_,h2⟩
  ·grind
  ·have:=rK ss (fun sp h=>hs sp (List.mem_cons_of_mem _ h)) x1 e y h2
   grind
theorem yh{nm:ByteArray}{ls:List (List UInt8)}{x y:PS}{e:Nat}(h:Eo nm ls x e y):y.1.aR.length≤x.1.aR.length+7∧y.1.writes.length≤x.1.writes.length+7:=by
 have hg:=rK (fM nm ls x.1) (fun sp AZ x e y hS=>by
  unfold fM at AZ
  have key:sp=yC (bO nm)∨sp∈[yD (bO nm),CM (bO nm) (cg ls),Jb (bO nm),yB (bO nm) nm,CN,U2 (ls.flatMap dH).length]:=by
   grind
  simp only[List.mem_cons,List.not_mem_nil,or_false]at key
  rcases key with rfl|rfl|rfl|rfl|rfl|rfl|rfl
  ·obtain⟨⟨h1,h2⟩,_⟩:=hS;rw[h2];exact nH _ _ _
  ·obtain⟨⟨f,_,h1,h2⟩,_⟩:=hS;rw[h2];exact nI _ _ _ _
  ·obtain⟨⟨h1,h2⟩,_⟩:=hS;rw[h2];exact uH _ _ _ _ _
  ·obtain⟨⟨h1,h2⟩,_⟩:=hS;rw[h2];exact xI _ _ _
  ·obtain⟨⟨h1,h2⟩,_⟩:=hS;rw[h2];exact sg _ _ _ _
  ·obtain⟨⟨h1,h2⟩,_⟩:=hS;rw[h2];exact ir _
  ·obtain⟨h1,h2⟩:=hS;rw[h2];exact⟨by simp,by simp⟩) x e y h
 grind [fM]
theorem vh{A A':Ab}{nm:ByteArray}{e:Nat}{j:JN}(h:nV A nm e A' j):A'.aR.length≤A.aR.length+7∧A'.writes.length≤A.writes.length+7:=by
 unfold nV at h
 split at h
 ·grind
 split at h
 ·grind
 obtain⟨y,hy,rfl,_⟩:=h
 exact yh hy
theorem GS(s:mI)(z:TC × List (List UInt8))(hz:lK z.1)(i:Nat)(hi:i≤1000000000000):(∀x∈(lD s z i).2,x∈z.2∨x.length≤760)∧(lD s z i).2.length≤z.2.length+1:=by
 unfold lD
 split
 ·split
  ·grind
  ·refine⟨fun x hx=>?_,by simp⟩
   rcases List.mem_append.1 hx with hx|hx
   ·exact .inl hx
   ·right
    rw[List.mem_singleton.1 hx]
    have Cn:((z.1.pf i).getD []).length≤10:=by
     cases hp:z.1.pf i with
     | none=>simp
     | some l=>exact hz.2.2.2 _ l hp
    have:=tW 2 z.1.x.d (iO i ((z.1.pf i).getD [])) (by simp[iO];omega) (ub i hi _)
    grind [cz,iO]
 grind
theorem xB(s:mI)(c:TC)(hc:lK c)(hr:cp c.x=true):∀k,k≤1024→(∀x∈(gz s c k).2,x.length≤760)∧(gz s c k).2.length≤k+1
 | 0,_=>by
  refine⟨fun x hx=>?_,by simp[gz]⟩
  have:x=eh c.x:=by simpa[gz]using hx
  rw[this]
  have hb:=kZ hr
  have:=tW 1 c.x.d (mh c.x) (by simp[mh]) (u6 c.x ai ai)
  unfold eh
  omega
 | k+1,hk=>by
  obtain⟨h1,h2⟩:=xB s c hc hr k ai
  rw[l9]
  obtain⟨h3,h4⟩:=GS s (gz s c k) (hc.hold k) k ai
  grind
theorem GU(s:mI)(c:TC)(h:K7 c):(∀x∈(jy s c).2,x.length≤760)∧(jy s c).2.length≤1025:=by
 obtain⟨h1,h2⟩:=xB s c h.1 h.2 c.n h.1.1
 have:=h.1.1
 grind [jy]
theorem uK:∀(ls:List (List UInt8)) (n:Nat),(∀x∈ls,x.length≤760)→ls.length≤n→(ls.flatMap dH).length≤770*n
 | [],n,_,_=>by simp
 | x::ls,n,h,hn=>by
  rw[List.length_cons]at hn
  have:=uK ls (n-1) (fun y hy=>h y (List.mem_cons_of_mem _ hy)) ai
  grind [Bq]
def zx.abR{M:Xb}{ls:List (List UInt8)}(h:zx M ls){A:HP}{cs:List Value}{ls2:List (List UInt8)}(hl:cs.length=ls2.length)(hx:∀(i:Nat) (x:List UInt8),ls2[i]?=some x→∃cv,cs[i]?=some cv∧fb A cv x):zx ⟨M.cs++cs,Sep [A,M.Z]⟩ (ls++ls2):=by
 obtain⟨h1,h2⟩:=h
 refine⟨by simp[h1,hl],fun i y hy=>?_⟩
 rw[List.getElem?_append]at hy ⊢
 rw[h1]
 split at hy
 ·rename_i cq
  rw[if_pos cq]
  obtain⟨Z',h3,h4⟩:=h2 i y hy
  exact⟨Z',h3,h4.mono (bz (i:=1) rfl)⟩
 ·rename_i ek
  rw[if_neg ek]
  obtain⟨Z',h3,h4⟩:=hx _ y hy
  exact⟨Z',h3,h4.mono (bz (i:=0) rfl)⟩
attribute [local irreducible] J K aq Ends ag aI aC bF aW aP a6 aZ bN aB kP rS
theorem HS(X:HP)(hK:pt X)(bs bd:Nat)(q:Int)(hq:0≤q∧q≤1073741824)(mb:Nat)(s:mI)(ZO:sy s.cm)(sT:s.cm.length≤900000)(dD:s.A.aR.length≤700000000)(lg:s.A.writes.length≤700000000)(qD:(je s.A mS).length≤900000)(M1:∀x∈je s.A mS,x.length≤1000000)(zT:((je s.A mS).foldl e7 []).length≤100) :
    aq Tryz.prog 20 [ptr bd,ptr bs] (oW bs bd q mb s++[X])
    (fun r H=>∃(e:Nat) (t:mI) (jn:JN) (cs:List TC),zA q s e t jn cs∧((e≠0∧r = .tuple #[.pointer none,.int .i64 (e:Int)]∧H=oW bs bd q mb t++[X])∨(e=0∧∃tb jb tv ts,jM ts=cs∧r = .tuple #[ptr tb,.int .i64 0]∧H=ff tb bs jb tv ts false++[kP bs bd jb q mb [] (t,jn),X]))):=by
  obtain⟨A,cm,brk⟩:=s
  have Kh:=Lc bd mS A (by decide) (by simp only at dD;omega) (by simp only at lg;omega)
  have Y7:mS=⟨#[112,105,101,99,101,115]⟩:=rfl
  simp only at ZO sT dD lg qD zT M1
  refine aq.aj Tryz.func20 Tryz.ntmps20 fun G F R hE=>?_
  refine go ?_
  refine aF Kh ?_
  rintro _ _⟨e1,A1,j1,hO,⟨Of,rfl,rfl⟩|⟨rfl,jb,lv,rfl,rfl⟩⟩
  · refine go ?_
    refine au zr zr ?_ ?_
    case' refine_2=>(intro h;exfalso;omega)
    intro _
    refine go ?_
    ((refine ad hE Tryz.func20 zr zr ⟨e1,⟨A1,cm,brk⟩,j1,[],⟨e1,A1,j1,hO,by rw[if_pos Of];exact⟨rfl,rfl⟩⟩,.inl ⟨Of,rfl,rfl⟩⟩))
  have hog:=vh hO
  obtain⟨ls,WT⟩:∃ls,ls=je A mS:=⟨_,rfl⟩
  rw[← Y7,← WT]
  rw[← WT]at qD M1 zT
  refine qE ?_
  refine gT rfl ?_
  refine ak (H':=rS lv ls::aB bd A1::LP jb bd mS j1::ag bs (cl (cF bd q mb brk) 120)::aC dV mb (dP cm)::X::F) (by rw[Y7];exact ah) ?_
  refine cI (Dw lv ls) ?_
  rintro⟨cs,M⟩ hRR
  refine Ox 0 hRR rfl ?_
  intro lE
  obtain⟨Z,hZ⟩:∃Z,Z=Sep [aI 38 1 lv ls.length cs,a6 5 M]:=⟨_,rfl⟩
  refine ak (ao.cd [aI 38 1 lv ls.length cs,a6 5 M] _) ?_
  rw[← hZ]at lE ⊢
  obtain⟨cs,dt,mF,⟨la,lc,rfl,hlc⟩,pn⟩:=lE
  refine go ?_
  refine bp zr zr bh ?_
  intro tb
  refine go ?_
  refine ak (ao.trans (bj 133 1 none _) (EM _)) ?_
  refine bn (fun y:Nat × List Tk × Value=>y.1≤ls.length∧jM y.2.1=(ls.take y.1).foldl e7 []∧y.2.1.length≤y.1) (fun y=>ls.length-y.1)
    (fun y=>[(0,ptr bd),(1,ptr bs),(6,ptr jb),(9,ptr tb),(37,.slice la ls.length lc),(38,.int .i64 (ls.length:Int)),(39,.int .i64 (y.1:Int))])
    (fun y=>Z::ag tb (cl [ptr bs,ptr jb,y.2.2,.bool false] 131)::aI 133 1 y.2.2 y.2.1.length (y.2.1.map eK)::bZ y.2.1::aB bd A1::LP jb bd mS j1::ag bs (cl (cF bd q mb brk) 120)::aC dV mb (dP cm)::X::F) (0,[],.slice none 0 0) ⟨Nat.zero_le _,rfl,Nat.le_refl _⟩ rfl bQ ah ?_
  rintro⟨i,ts,tv⟩⟨hi,Fm,aa0⟩ ih
  simp only at hi Fm aa0
  dsimp only
  refine go ?_
  refine au zr zr ?_ ?_
  · intro cq
    have dq:i<ls.length:=by omega
    obtain⟨x,hx⟩:∃x,ls[i]?=some x:=⟨ls[i],by simp⟩
    obtain⟨cv,q4,y8⟩:=pn i x hx
    have ki:ls.take (i+1)=ls.take i++[x]:=by rw[List.take_add_one,hx];rfl
    have hJ:∀y∈ts,lK y.c:=fun y hy=>((tw (ls.take i)).1 y.c (by rw[← Fm];exact List.mem_map.2 ⟨y,hy,rfl⟩)).1
    have YT:=IV Z tb bs jb tv false ts cv x y8 (by have:=M1 x (List.mem_of_getElem? hx);omega) ai (fun y hy=>Nat.le_trans (hJ y hy).1 ai) (fun y hy=>(hJ y hy).2.1)
    obtain⟨bb,oo,cc,he⟩:=dt.some (by intro h;rw[h]at q4;cases q4)
    obtain⟨rfl,rfl⟩:=he
    refine go ?_
    refine bC i zr zr zr zr zr zr zr zr dq ?_
    refine aT ?_
    refine aN 0 i zr zr zr dt rfl q4 zr zr (go ?_)
    refine aF YT ?_
    rintro _ _⟨rfl,IQ,F4,abC,rfl⟩
    refine go ?_
    have abB:jM IQ=(ls.take (i+1)).foldl e7 []:=by rw[abC,Fm,ki,List.foldl_append];rfl
    have qY:IQ.length≤i+1:=by
      grind [tw,Fz]
    refine aK ih (i+1,IQ,F4) rfl ⟨by simp only;omega,abB,qY⟩ ai bQ ah
  intro ek
  have vK:i=ls.length:=by omega
  subst vK
  rw[List.take_length]at Fm
  have htr:∀y∈ts,K7 y.c:=fun y hy=>(tw ls).1 y.c (by rw[← Fm];exact List.mem_map.2 ⟨y,hy,rfl⟩)
  have aa1:ts.length≤100:=by rw[← Fz,Fm];exact zT
  refine ak (ao.pick [2] rfl) ?_
  refine cL 0 rfl ?_
  rintro ta tc rfl
  refine eu 0 rfl ?_
  intro YL
  refine go ?_
  have abE:∀H,ao (H) (aI 133 1 (.slice none 0 0) 0 []::bZ []::aI 38 1 (.slice none 0 0) 0 []::Sep []::H):=fun H=>ao.trans (ao.cd [] H) (ao.trans (bj 38 1 none _) (ao.trans (EM _) (bj 133 1 none _)))
  refine ak (ao.pick [6,7,4,5,3,0,2,8] rfl) ?_
  refine ak (vf bs bd jb q mb (⟨A1,cm,brk⟩,j1) _) ?_
  refine ak (abE _) ?_
  refine bn (fun z:Nat × mI × List Tk × Value × List (List UInt8) × Xb × Option Addr × Nat=>z.1≤ts.length∧(∀e t cs rs,qn q (jM (ts.drop z.1)) z.2.1 (jM z.2.2.1) z.2.2.2.2.1 e t cs rs→qn q (jM ts) ⟨A1,cm,brk⟩ [] [] e t cs rs)∧(sy z.2.1.cm∧z.2.1.cm.length≤cm.length+z.1)∧(z.2.1.A.aR.length≤A1.aR.length+2*z.1∧z.2.1.A.writes.length≤A1.writes.length+2*z.1)∧z.2.2.1.length≤z.1∧zx z.2.2.2.2.2.1 z.2.2.2.2.1∧(∀x∈z.2.2.2.2.1,x.length≤760)∧z.2.2.2.2.1.length≤1025*z.1) (fun z=>ts.length-z.1)
    (fun z=>[(0,ptr bd),(1,ptr bs),(6,ptr jb),(9,ptr tb),(13,.slice z.2.2.2.2.2.2.1 z.2.2.2.2.2.1.cs.length z.2.2.2.2.2.2.2),(54,.slice ta ts.length tc),(55,.int .i64 (ts.length:Int)),(56,.int .i64 (z.1:Int))])
    (fun z=>aI 133 1 z.2.2.2.1 z.2.2.1.length (z.2.2.1.map eK)::bZ z.2.2.1::aI 38 1 (.slice z.2.2.2.2.2.2.1 z.2.2.2.2.2.1.cs.length z.2.2.2.2.2.2.2) z.2.2.2.2.2.1.cs.length z.2.2.2.2.2.1.cs::z.2.2.2.2.2.1.Z::kP bs bd jb q mb [] (z.2.1,j1)::bZ (ts.drop z.1)::aI 133 1 (.slice ta ts.length tc) ts.length (ts.map eK)::ag tb (cl [ptr bs,ptr jb,z.2.2.2.1,.bool false] 131)::X::F) (0,⟨A1,cm,brk⟩,[],.slice none 0 0,[],⟨[],Sep []⟩,none,0) ⟨Nat.zero_le _,fun _ _ _ _ h=>h,⟨ZO,by simp⟩,⟨by simp,by simp⟩,Nat.le_refl _,⟨rfl,fun i x h=>by cases h⟩,fun x h=>(by cases h),by simp⟩ rfl bQ ah ?_
  rintro⟨i,s,us,uv,rs,M,oa,oc⟩⟨hi,W4,⟨ZP,abG⟩,⟨dW,aa4⟩,aaX,hM,Fb,aa6⟩ ih
  simp only at hi W4 ZP abG dW aa4 aaX hM Fb aa6
  have hMl:=hM.1
  refine go ?_
  refine au zr zr ?_ ?_
  case' refine_2 =>
    intro ek
    have vK:i=ts.length:=by omega
    subst vK
    have jt:=W4 0 s (jM us) rs (by rw[List.drop_length];exact⟨rfl,rfl,rfl,rfl⟩)
    refine ak (ao.pick [2,3,4,0,1,7,8] rfl) ?_
    refine nX 0 rfl ?_
    intro gg
    refine eu 0 rfl ?_
    intro vH
    have lE:su (Sep [aI 38 1 (.slice oa M.cs.length oc) M.cs.length M.cs,M.Z]) (.slice oa M.cs.length oc) rs:=by
      rw[hMl]at vH gg ⊢
      exact su.ofP vH gg hMl hM.2
    have hfb:=uK rs (1025*100) Fb ai
    have hcm:=Cc jb bd mS (by decide) s.A j1 _ _ rs lE ai ai ai ai
    refine ak (ao.cd [aI 38 1 (.slice oa M.cs.length oc) M.cs.length M.cs,M.Z] _) ?_
    refine ak (ao.pick [1] rfl) ?_
    refine ak (El bs bd jb q mb (s,j1) _) (go ?_)
    refine aF hcm ?_
    rintro _ _⟨e3,A3,jn,rfl,rfl,hCR⟩
    have ZV:zA q ⟨A,cm,brk⟩ e3 ⟨A3,s.cm,s.brk⟩ jn (jM us):=⟨0,A1,j1,hO,by
      rw[if_neg ai]
      refine⟨0,s,rs,by rw[← WT];rw[Fm]at jt;exact jt,?_⟩
      rw[if_neg ai]
      exact⟨A3,hCR,rfl⟩⟩
    by_cases he3:e3=0
    · subst he3
      refine go ?_
      refine ak (ao.pick [3,4,0,1,7,5,6,8] rfl) ?_
      refine ak (vf bs bd jb q mb (⟨A3,s.cm,s.brk⟩,jn) _) ?_
      refine ad hE Tryz.func20 zr zr ⟨0,⟨A3,s.cm,s.brk⟩,jn,jM us,ZV,.inr ⟨rfl,tb,jb,uv,us,rfl,rfl,rfl⟩⟩
    · refine go ?_
      refine au zr zr ?_ ?_
      case' refine_2=>(intro h;exfalso;omega)
      intro _
      refine go ?_
      refine ad hE Tryz.func20 zr zr ⟨e3,⟨A3,s.cm,s.brk⟩,jn,jM us,ZV,.inl ⟨he3,rfl,rfl⟩⟩
  intro cq
  have dq:i<ts.length:=by omega
  obtain⟨y,hy⟩:∃y,ts[i]?=some y:=⟨ts[i],by simp⟩
  have hyr:=htr y (List.mem_of_getElem? hy)
  have Im:=kZ (x:=y.x) hyr.2
  have jz:ts.drop i=y::ts.drop (i+1):=by
    obtain⟨h1,h2⟩:=List.getElem?_eq_some_iff.1 hy
    rw[List.drop_eq_getElem_cons h1,h2]
  have V7:jM (ts.drop i)=y.c::jM (ts.drop (i+1)):=by rw[jz];rfl
  rw[V7]at W4
  have MN:=ys [] (ts.drop (i+1)) y
  rw[← jz]at MN
  have abF:=LL bs bd q hq mb s y.x ZP ai ai
  obtain⟨bb9,YB,cc9,he9⟩:=YL.some (L9 dq)
  obtain⟨rfl,rfl⟩:=he9
  refine ak (ao.pick [5,6,4] rfl) ?_
  refine ak (MN _) ?_
  refine cI (iY y) ?_
  rintro⟨wv,cs0,N⟩ hz
  have lF:∀H,ao (ag y.yb (cl (sK y) 138)::ag y.sb (cl [.int .i64 (y.n:Int),wv] 307)::aI 43 1 wv y.ws.length (qV y.ws)::aC (Value.int .i64) y.mb cs0::a6 36 N::H) (oM y::H):=fun H=>ao.trans (H2:=Aa y (wv,cs0,N)++H) ah (lQ hz _)
  refine ak (ao.pick [7,0,1,2,3,4,6] rfl) ?_
  refine ak (El bs bd jb q mb (s,j1) _) ?_
  refine ak (ao.pick [9,4,5,6,7,8] rfl) (go ?_)
  refine bC i zr zr zr zr zr zr zr zr dq ?_
  refine aT ?_
  refine aN 0 i zr zr zr YL rfl (pJ hy) zr zr (go ?_)
  refine bq (cs:=dY y.x) 1 zr zr zr zr zr zr (go ?_)
  refine aF abF ?_
  rintro _ _⟨e1,s1,rfl,rfl,ZX⟩
  refine qE ?_
  refine gT rfl ?_
  have Na:=ZP.begin ai hyr.2 ZX
  have WX:=Ch ZX
  refine ak (ao.trans (H2:=ag y.yb (cl (sK y) 138)::ag y.sb (cl [.int .i64 (y.n:Int),wv] 307)::aI 43 1 wv y.ws.length (qV y.ws)::aC (Value.int .i64) y.mb cs0::a6 36 N::aI 133 1 (.slice (some ⟨bb9,YB,none⟩) ts.length tc) ts.length (ts.map eK)::bZ (ts.drop (i+1))::(oW bs bd q mb s1++(LP jb bd mS j1::aI 133 1 uv us.length (us.map eK)::bZ us::aI 38 1 (.slice oa M.cs.length oc) M.cs.length M.cs::M.Z::ag tb (cl [ptr bs,ptr jb,uv,.bool false] 131)::X::F))) ah (lF _)) ?_
  by_cases Fa:e1=5∨e1=11
  · have xC:∀e t cs ES,qn q (jM (ts.drop (i+1))) s1 (jM us) rs e t cs ES→qn q (jM ts) ⟨A1,cm,brk⟩ [] [] e t cs ES:=fun e t cs ES h=>W4 e t cs ES ⟨e1,s1,ZX,by rw[if_pos Fa];exact h⟩
    refine ak (ao.trans ah (vf bs bd jb q mb (s1,j1) (bZ (ts.drop (i+1))::aI 133 1 (.slice (some ⟨bb9,YB,none⟩) ts.length tc) ts.length (ts.map eK)::aI 133 1 uv us.length (us.map eK)::bZ us::aI 38 1 (.slice oa M.cs.length oc) M.cs.length M.cs::M.Z::ag tb (cl [ptr bs,ptr jb,uv,.bool false] 131)::X::F))) ?_
    rcases Fa with rfl|rfl
    all_goals(
      refine go ?_
      refine aK ih (i+1,s1,us,uv,rs,M,oa,oc) rfl ⟨by simp only;omega,xC,⟨Na.1,by simp only;have:=Na.2;omega⟩,⟨by simp only;have:=WX.1;omega,by simp only;have:=WX.2;omega⟩,by simp only;omega,hM,Fb,by simp only;omega⟩ (by simp only;omega) bQ ah)
  by_cases vL:e1=0
  case neg =>
    have ab4:=W4 e1 s1 [] [] ⟨e1,s1,ZX,by rw[if_neg Fa,if_pos vL];exact⟨rfl,rfl⟩⟩
    have ZU:zA q ⟨A,cm,brk⟩ e1 s1 j1 []:=by
      refine⟨0,A1,j1,hO,?_⟩
      grind
    refine go ?_
    refine aD 68 ((.bool false)) rfl ((congrArg Value.bool (decide_eq_false ai))) (go ?_)
    refine aV 71 ((.bool false)) rfl ((congrArg Value.bool (decide_eq_false ai))) (go ?_)
    refine au zr zr ?_ ?_
    case' refine_2=>(intro h;exfalso;omega)
    intro _
    refine go ?_
    refine ad hE Tryz.func20 zr zr ⟨e1,s1,j1,[],ZU,.inl ⟨vL,rfl,rfl⟩⟩
  subst vL
  refine aap 5 rfl ?_
  intro aa7
  have hRd:∀nm at_ n,(s1.A.read nm at_ n).1.length≤1048576:=fun nm at_ n=>Az s1.A aa7 nm at_ n
  obtain⟨y5,qY⟩:=GU s1 y.c hyr
  have xC:∀e t cs ES,qn q (jM (ts.drop (i+1))) s1 (jM us++[(jy s1 y.c).1]) (rs++(jy s1 y.c).2) e t cs ES→qn q (jM ts) ⟨A1,cm,brk⟩ [] [] e t cs ES:=fun e t cs ES h=>W4 e t cs ES ⟨0,s1,ZX,by rw[if_neg Fa,if_neg ai];exact h⟩
  have Zv:=fun tv=>Ki X hK tb bs jb bd tv false q mb (s1,j1) hRd y hyr.1 ai ai
  refine ak (ao.trans ah (vf bs bd jb q mb (s1,j1) (aI 133 1 uv us.length (us.map eK)::ag tb (cl [ptr bs,ptr jb,uv,.bool false] 131)::oM y::X::aI 38 1 (.slice oa M.cs.length oc) M.cs.length M.cs::M.Z::aI 133 1 (.slice (some ⟨bb9,YB,none⟩) ts.length tc) ts.length (ts.map eK)::bZ (ts.drop (i+1))::bZ us::F))) ?_
  refine cL 1 rfl ?_
  rintro ua uc rfl
  refine go ?_
  refine al (cs:=[ptr y.yb]) zr zr zr zr zr zr zr zr zr bh ?_
  intro r1
  refine go ?_
  refine aO (mm:=1) (news:=[ptr y.yb]) 2 0 rfl rfl rfl rfl rfl rfl rfl rfl rfl rfl rfl rfl (Vw.ag rfl) rfl (by intro v hv;simp at hv;rw[hv];rfl) ai (by show(_+_)*8≤_;omega) (fun _=>rfl) bh ?_
  intro v1
  refine aL 2 rfl ?_
  rintro va vc rfl
  refine go ?_
  refine aF (Zv (.slice va (us.length+1) vc)) ?_
  rintro r9 _⟨y',Z2,aaN,YG,Zh,rfl⟩
  obtain⟨Iz,p5,Bi,⟨ra,rc,rfl,N6⟩,VY⟩:=Zh
  simp only at YG p5 Bi VY N6
  have Bk:=hM.abR Bi VY
  have fT:∀v∈Iz,v.oneCell'=true:=fun v hv=>by
    obtain⟨j,hj,rfl⟩:=List.getElem_of_mem hv
    obtain⟨x,hx⟩:∃x,(jy s1 y.c).2[j]?=some x:=⟨(jy s1 y.c).2[j]' ai,by simp⟩
    obtain⟨cv,h1,h2⟩:=VY j x hx
    obtain⟨_,_,rfl,_⟩:=h2.2
    rw[List.getElem?_eq_getElem hj]at h1
    injection h1 with h1
    rw[h1];rfl
  refine aS (H':=aI 38 1 (.slice oa M.cs.length oc) M.cs.length M.cs::Z2::ag tb (cl [ptr bs,ptr jb,.slice va (us.length+1) vc,.bool false] 131)::oM y'::kP bs bd jb q mb [] (s1,j1)::X::M.Z::aI 133 1 (.slice (some ⟨bb9,YB,none⟩) ts.length tc) ts.length (ts.map eK)::bZ (ts.drop (i+1))::bZ us::aI 133 1 (.slice va (us.length+1) vc) (us.length+1) (us.map eK++[ptr y.yb])::F) ah (go ?_)
  refine aO (mm:=(jy s1 y.c).2.length) (news:=Iz) 0 1 zr zr zr zr zr zr zr zr zr zr zr zr p5 (by show _=_*1;omega) fT ai (by show(_+_)*24≤_;omega) (fun _=>rfl) bh ?_
  intro v2
  refine aL 0 rfl ?_
  rintro wa wc rfl
  refine go ?_
  have VF:us.map eK++[ptr y.yb]=(us++[y']).map eK:=by rw[← aaN];simp[eK]
  have sE:us.length+1=(us++[y']).length:=by simp
  have ZK:(M.cs++Iz).length=M.cs.length+(jy s1 y.c).2.length:=by rw[List.length_append,Bi]
  have rZ:=tz us [] y'
  rw[List.append_nil]at rZ
  rw[VF,sE]
  refine ak (H':=oM y'::bZ us::Z2::M.Z::aI 38 1 (.slice wa (M.cs++Iz).length wc) (M.cs++Iz).length (M.cs++Iz)::kP bs bd jb q mb [] (s1,j1)::X::aI 133 1 (.slice (some ⟨bb9,YB,none⟩) ts.length tc) ts.length (ts.map eK)::bZ (ts.drop (i+1))::aI 133 1 (.slice va (us++[y']).length vc) (us++[y']).length ((us++[y']).map eK)::ag tb (cl [ptr bs,ptr jb,.slice va (us++[y']).length vc,.bool false] 131)::F) (by rw[ZK];exact ah) ?_
  refine ak (rZ _) ?_
  refine ak (ao.pick [1,2] rfl) ?_
  refine ak (ao.cd [Z2,M.Z] _) ?_
  have hcu:jM (us++[y'])=jM us++[(jy s1 y.c).1]:=by rw[FA,YG]
  rw[← hcu]at xC
  refine aV 13 ((.slice wa (M.cs++Iz).length wc)) rfl ((by rw[ZK])) ?_
  refine aK ih (i+1,s1,us++[y'],.slice va (us++[y']).length vc,rs++(jy s1 y.c).2,⟨M.cs++Iz,Sep [Z2,M.Z]⟩,wa,wc) rfl ⟨by simp only;omega,xC,⟨Na.1,by simp only;have:=Na.2;omega⟩,⟨by simp only;have:=WX.1;omega,by simp only;have:=WX.2;omega⟩,by simp only[List.length_append,List.length_singleton];omega,Bk,(fun x hx=>by
    rcases List.mem_append.1 hx with h|h
    · exact Fb x h
    · exact y5 x h),by simp only[List.length_append];omega⟩ (by simp only;omega) bQ ah
end Go.Proofs.YtnkfkabokmcgoaaGreatDoor
namespace Go.Proofs.YtnkfkabokmcgoaaGreatDoor
open Go Go.SL
def K4(q:Int)(A:Ab)(e:Nat)(t:SJ)(cs:List TC):Prop :=
 ∃e1 B,nU A e1 B∧if e1≠0 then e=e1 else ∃s jn,zA q ⟨B,[],false⟩ e s jn cs∧t=(s,jn)
attribute [local irreducible] J K aq Ends ag aI aC bF aW aP a6 aZ bN aB kP rS
end Go.Proofs.YtnkfkabokmcgoaaGreatDoor
namespace Go.Proofs.YtnkfkabokmcgoaaGreatDoor
open Go Go.SL
theorem EG{A:Ab}(h:A.names=[]):vw A=fun _=>none:=by
 funext n
 unfold vw Ab.look Ab.cQ
 rw[h];rfl
theorem DY{A:Ab}{nm:ByteArray}(h:HA A)(hv:vw A nm=none):je A nm=[]:=by
 have A9:A.look nm=none:=by
  unfold vw at hv
  cases hx:A.look nm with
  | none=>rfl
  | some f=>rw[hx]at hv;cases hv
 have sQ:(A.read nm 0 (A.size nm).1).1=[]:=by
  unfold Ab.read
  grind
 unfold je
 rw[sQ]
 rfl
theorem oe:(cg []).length=32:=by unfold cg;simp[qZ]
theorem HF{q:Int}{A:Ab}{e:Nat}{t:SJ}{cs:List TC}(h:HA A)(hn:A.names=[])(hr:64≤A.room)(hR:K4 q A e t cs) :
  e=0∧cs=[]∧HA t.1.A∧t.1.cm=[]∧t.1.brk=false∧vw t.1.A=jS (fun _=>none) mS (some (cg []))∧t.1.A.room=A.room∧t.2=⟨1,0,0,false⟩∧t.1.A.names.length=1∧t.1.A.used=32∧t.1.A.aR.length≤A.aR.length+14∧t.1.A.writes.length≤A.writes.length+14:=by
 obtain⟨e1,B,hO,hR⟩:=hR
 obtain⟨rfl,rfl⟩:=vg hn hO
 rw[if_neg ai]at hR
 obtain⟨s,jn,⟨e2,A1,j1,hO1,hR⟩,rfl⟩:=hR
 simp only at hO1 hR
 have l8:=EG hn
 have hu0:B.used=0:=by unfold Ab.used;rw[hn];rfl
 have L3:=vh hO1
 obtain⟨rfl,k1,k2,k3,k4,k5⟩:=C6 h uw rX yK (by rw[l8]) (by rw[l8]) (by rw[hn];simp) ai hO1
 rw[l8]at k2
 rw[if_neg ai,k5]at hR
 obtain⟨e3,s2,rs,⟨rfl,rfl,rfl,rfl⟩,hR⟩:=hR
 rw[if_neg ai]at hR
 obtain⟨A3,hC,rfl⟩:=hR
 simp only at hC
 subst k4
 unfold qy at hC
 rw[if_neg (by simp),if_neg (by simp),if_neg (by simp)]at hC
 obtain⟨y,hP,rfl,rfl⟩:=hC
 obtain⟨hu1,hn1⟩:=h.pE k1 (k:=mS) (c:=cg []) (by rw[l8]) (by rw[k2,l8])
 have Kw:=yh hP
 simp only at Kw
 obtain⟨rfl,m1,m2,m3,m4⟩:=Gk k1 uw rX yK (by rw[k2,jC _ _ yK]) (by rw[hn1,hn];simp) (by rw[oe];omega) (by rw[oe,hu1,k3,hu0,oe];omega) hP
 have vG:vw y.1=jS (fun _=>none) mS (some (cg [])):=by
  rw[m2,k2]
  funext m
  grind [jS]
 obtain⟨hu2,hn2⟩:=h.pE m1 (k:=mS) (c:=cg []) (by rw[l8]) (by rw[vG,l8])
 grind [oe]
structure QD(t:SJ):Prop where
 ha:HA t.1.A
 cm:t.1.cm=[]
 brk:t.1.brk=false
 v:vw t.1.A=jS (fun _=>none) mS (some (cg []))
 st:t.1.A.aR.length≤100
 wr:t.1.A.writes.length≤100
 jn:t.2=⟨1,0,0,false⟩
def QD.new{q:Int}{room:Nat}{e:Nat}{t:SJ}{cs:List TC}(hr:64≤room)(hR:K4 q (Ab.new room) e t cs):e=0∧cs=[]∧QD t:=by
 obtain⟨h1,h2,h3,h4,h5,h6,h7,h8,h9,h10,Oo,h12⟩:=HF (HA.new room) rfl hr hR
 have e1:(Ab.new room).aR.length=1:=rfl
 have e2:(Ab.new room).writes.length=0:=rfl
 exact⟨h1,h2,h3,h4,h5,h6,ai,ai,h8⟩
def QD.noF{t:SJ}(h:QD t){n:ByteArray}(hn:n≠mS):jF t.1.A n=false:=by
 rw[Nb,h.v,jC _ _ hn]
 rfl
def QD.image{t:SJ}(h:QD t)(d:Dg)(hn:dg kI d≠mS):gn t.1.A d=none:=by
 have h1:=h.noF hn
 unfold jF at h1
 unfold gn fD
 cases hl:t.1.A.look (dg kI d)with
 | none=>rfl
 | some f=>rw[hl]at h1;cases h1
def QD.Vl{t:SJ}(h:QD t)(hn:gj kI mS=none):kE t.1.A=[]:=by
 unfold kE
 rw[List.filterMap_eq_nil_iff]
 intro n hm
 have h1:=(Ds h.ha n).1 hm
 rw[h.v]at h1
 by_cases hp:n=mS
 ·rw[hp];exact hn
 ·rw[jC _ _ hp]at h1;cases h1
def wrap_u64(x:Int):0≤IntKind.u64.wrap x∧IntKind.u64.wrap x<18446744073709551616:=by
 simp[IntKind.wrap,IntKind.bits,IntKind.signed]
 omega
def Ct(a b:Int):Int:=IntKind.u64.wrap ((BitVec.ofInt IntKind.u64.bits a ^^^ BitVec.ofInt IntKind.u64.bits b).toNat:Int)
def CG(a:Int)(k:Int):Int:=a/2 ^ (min k.toNat IntKind.u64.bits)
def nx(z:Int):Int :=
 Ct (IntKind.u64.wrap (Ct (IntKind.u64.wrap (Ct z (CG z 30)*13787848793156543929)) (CG (IntKind.u64.wrap (Ct z (CG z 30)*13787848793156543929)) 27)*10723151780598845931))
  (CG (IntKind.u64.wrap (Ct (IntKind.u64.wrap (Ct z (CG z 30)*13787848793156543929)) (CG (IntKind.u64.wrap (Ct z (CG z 30)*13787848793156543929)) 27)*10723151780598845931)) 31)
def fN(s:Int):Int:=IntKind.u64.wrap (s+11400714819323198485)
def l4(z:Int):0≤nx z∧nx z<18446744073709551616:=wrap_u64 _
def gq(x n:Nat):Nat:=(x/4294967296*n+x%4294967296*n/4294967296)/4294967296
def rp{x n:Nat}(hx:x<18446744073709551616)(hn:0<n):gq x n<n:=by
 unfold gq
 rw[Nat.div_lt_iff_lt_mul (by decide)]
 have h1:x/4294967296*n≤4294967295*n:=Nat.mul_le_mul_right n ai
 have h2:x%4294967296*n≤4294967295*n:=Nat.mul_le_mul_right n ai
 have h3:x%4294967296*n/4294967296<n:=by omega
 omega
def JD{x n:Nat}(hx:x<18446744073709551616)(hn:n<4294967296):x%4294967296*n<18446744073709551616∧x/4294967296*n<18446744073709551616-4294967296∧x/4294967296*n+x%4294967296*n/4294967296<18446744073709551616:=by
 have h1:x/4294967296*n≤4294967295*4294967295:=Nat.mul_le_mul ai ai
 have h2:x%4294967296*n≤4294967295*4294967295:=Nat.mul_le_mul ai ai
 omega
attribute [local irreducible] J K aq Ends ag aI aC bF aW aP a6 aZ bN
def Es(a b:Nat)(ha:a<18446744073709551616)(hb:b<4294967296):aq Tryz.prog 170 [.int .u64 (a:Int),.int .u64 (b:Int)] [] (fun r H=>(∃lo,r = .tuple #[.int .u64 ((gq a b:Nat):Int),.int .u64 lo])∧H=[]):=by
 obtain⟨p1,p2,p3⟩:=JD ha hb
 have hm:∀x:Nat,x<18446744073709551616→IntKind.u64.wrap ((BitVec.ofInt IntKind.u64.bits (x:Int) &&& BitVec.ofInt IntKind.u64.bits 4294967295).toNat:Int)=((x%4294967296:Nat):Int):=fun x hx=>by
  have:=qg x 32 ai ai
  rw[show((2 ^ 32-1:Nat):Int)=4294967295 from rfl,show x%2 ^ 32=x%4294967296 from rfl]at this
  exact this
 have hs:∀x:Nat,(x:Int)/2 ^ (min (Int.toNat 32) IntKind.u64.bits)=((x/4294967296:Nat):Int):=fun x=>by show(x:Int)/4294967296=_;omega
 refine aq.aj Tryz.func170 Tryz.ntmps170 fun G F R hE=>?_
 refine go ?_
 refine aD 6 (.int .u64 ((a%4294967296:Nat):Int)) rfl (congrArg (Value.int .u64) (hm a ha)) ?_
 refine iA zr zr zr ai ?_
 refine aD 17 (.int .u64 ((a/4294967296:Nat):Int)) rfl (congrArg (Value.int .u64) (hs a)) (go ?_)
 refine aD 8 (.int .u64 (b:Int)) rfl (congrArg (Value.int .u64) ((hm b ai).trans (by rw[Nat.mod_eq_of_lt hb]))) ?_
 refine iA zr zr zr ai ?_
 refine aD 21 (.int .u64 0) rfl (congrArg (Value.int .u64) ((hs b).trans (by rw[Nat.div_eq_of_lt hb];rfl))) ?_
 refine go ?_
 refine hG zr zr zr (by rw[← Int.natCast_mul];simp only[gm];omega) ?_
 refine aD 24 (.int .u64 ((a%4294967296*b:Nat):Int)) rfl (by rw[Int.natCast_mul]) (go ?_)
 refine hG zr zr zr (by rw[← Int.natCast_mul];simp only[gm];omega) ?_
 refine aD 27 (.int .u64 ((a/4294967296*b:Nat):Int)) rfl (by rw[Int.natCast_mul]) (go ?_)
 refine iA zr zr zr ai ?_
 refine aD 29 (.int .u64 ((a%4294967296*b/4294967296:Nat):Int)) rfl (congrArg (Value.int .u64) (hs _)) ?_
 refine mu ?_
 refine B6 zr zr zr (by rw[← Int.natCast_add];simp only[gm];omega) ?_
 refine aD 30 (.int .u64 ((a/4294967296*b+a%4294967296*b/4294967296:Nat):Int)) rfl (by rw[Int.natCast_add]) (go ?_)
 refine aD 12 (.int .u64 (((a/4294967296*b+a%4294967296*b/4294967296)%4294967296:Nat):Int)) rfl (congrArg (Value.int .u64) (hm _ p3)) ?_
 refine iA zr zr zr ai ?_
 refine aD 34 (.int .u64 ((gq a b:Nat):Int)) rfl (congrArg (Value.int .u64) (hs _)) ?_
 have Fo:gq a b<4294967296:=by unfold gq;omega
 refine go ?_
 refine hG zr zr zr (by simp[gm]) ?_
 refine aD 38 (.int .u64 0) rfl (by simp) (go ?_)
 refine hG zr zr zr (by simp[gm]) ?_
 refine aD 42 (.int .u64 0) rfl (by simp) (go ?_)
 refine iA zr zr zr ai ?_
 refine aD 46 (.int .u64 0) rfl (congrArg (Value.int .u64) (by
  show(_+0:Int)/4294967296=0
  omega)) ?_
 refine go ?_
 refine Lt zr zr zr (go ?_)
 refine aV 4 ((.int .u64 ((gq a b:Nat):Int))) rfl ((congrArg (Value.int .u64) ai)) ?_
 refine ad hE Tryz.func170 zr zr ⟨⟨_,rfl⟩,rfl⟩
def kK(s:Int):aq Tryz.prog 81 [.int .u64 s] [] (fun r H=>∃b,r=ptr b∧H=[ag b (cl [.int .u64 s] 275)]):=by
 refine aq.aj Tryz.func81 Tryz.ntmps81 fun G F R hE=>?_
 refine go ?_
 refine bp zr zr bh ?_
 intro bx
 refine go ?_
 refine ad hE Tryz.func81 zr zr ⟨_,rfl,rfl⟩
def Le(b:Nat)(s:Int):aq Tryz.prog 171 [ptr b] [ag b (cl [.int .u64 s] 275)] (fun r H=>r = .int .u64 (nx (fN s))∧H=[ag b (cl [.int .u64 (fN s)] 275)]):=by
 refine aq.aj Tryz.func171 Tryz.ntmps171 fun G F R hE=>?_
 (repeat(first|refine fq ?_|refine iA zr zr zr ai ?_|refine Lt zr zr zr ?_|refine LC zr zr zr ?_))
 refine ad hE Tryz.func171 zr zr ⟨rfl,rfl⟩
def rH(b:Nat)(s:Int)(n:Nat)(hn:n<4294967296):aq Tryz.prog 82 [ptr b,.int .u64 (n:Int)] [ag b (cl [.int .u64 s] 275)] (fun r H=>r = .int .u64 ((gq (nx (fN s)).toNat n:Nat):Int)∧H=[ag b (cl [.int .u64 (fN s)] 275)]):=by
 have hN:=Le b s
 have hr:=l4 (fN s)
 obtain⟨x,hx⟩:∃x:Nat,nx (fN s)=(x:Int):=⟨(nx (fN s)).toNat,ai⟩
 rw[hx]at hN hr ⊢
 rw[Int.toNat_natCast]
 refine aq.aj Tryz.func82 Tryz.ntmps82 fun G F R hE=>?_
 refine go ?_
 refine aw hN ?_
 refine go ?_
 refine aF (Es x n ai hn) ?_
 rintro _ _⟨⟨lo,rfl⟩,rfl⟩
 refine go ?_
 refine ad hE Tryz.func82 zr zr ⟨rfl,rfl⟩
end Go.Proofs.YtnkfkabokmcgoaaGreatDoor
namespace Go.Proofs.YtnkfkabokmcgoaaGreatDoor
open Go Go.SL
def mz(l:List Int)(i k:Nat):List Int:=(l.set i (l.getD k 0)).set k (l.getD i 0)
def qI(l:List Int)(i k:Nat):(mz l i k).length=l.length:=by simp[mz]
def CB{l:List Int}{i k:Nat}(hi:i<l.length)(hk:k<l.length):(mz l i k).Perm l:=by
 unfold mz
 rw[List.getD_eq_getElem?_getD,List.getD_eq_getElem?_getD,List.getElem?_eq_getElem hi,List.getElem?_eq_getElem hk,Option.getD_some,Option.getD_some]
 exact List.set_set_perm hi hk
def tL:Nat→Int→List Int→Int × List Int
 | 0,s,l=>(s,l)
 | i+1,s,l=>tL i (fN s) (mz l (i+1) (gq (nx (fN s)).toNat (i+2)))
def BE(s:Int)(n:Nat)(h:0<n):gq (nx (fN s)).toNat n<n:=by
 have:=l4 (fN s)
 exact rp ai h
def tK:∀(i:Nat) (s:Int) (l:List Int),i<l.length→(tL i s l).2.Perm l
 | 0,s,l,_=>List.Perm.refl _
 | i+1,s,l,h=>by
  rw[tL]
  have hk:=BE s (i+2) ai
  exact(tK i _ _ (by rw[qI];omega)).trans (CB h ai)
def ku(s:Int)(l:List Int):Int × List Int:=tL (l.length-1) s l
def CF(s:Int)(l:List Int):(ku s l).2.Perm l:=by
 unfold ku
 cases l with
 | nil=>exact List.Perm.refl _
 | cons x l=>exact tK _ _ _ (by simp)
attribute [local irreducible] J K aq Ends ag aI aC bF aW aP a6 aZ bN
def BL(b:Nat)(s:Int)(A:HP)(v:Value)(l:List Int)(hv:Vw A v l.length (iV l))(hl:l.length≤1000000000) :
  aq Tryz.prog 172 [ptr b,v] [ag b (cl [.int .u64 s] 275),A] (fun r H=>H=[aI 3 1 r (ku s l).2.length (iV (ku s l).2),ag b (cl [.int .u64 (ku s l).1] 275),A]):=by
 obtain⟨a,c,rfl⟩:=hv.shape
 refine aq.aj Tryz.func172 Tryz.ntmps172 fun G F R hE=>?_
 refine go ?_
 refine aF (Ia A _ l hv ai) ?_
 rintro r _ rfl
 refine aL 0 rfl ?_
 rintro ra rc rfl
 refine go ?_
 ((refine aV 6 ((.int .i64 (if l.length=0 then -1 else((l.length-1:Nat):Int)))) rfl ((congrArg (Value.int .i64) (by split <;> omega))) ?_))
 refine bn (fun y:Nat × Int × List Int=>y.2.2.length=l.length∧(l.length=0→y.1=0)∧(0<l.length→y.1<l.length)∧tL y.1 y.2.1 y.2.2=ku s l) (fun y=>y.1)
  (fun y=>[(0,ptr b),(5,.slice ra l.length rc),(6,.int .i64 (if l.length=0 then -1 else(y.1:Int)))])
  (fun y=>aI 3 1 (.slice ra l.length rc) l.length (iV y.2.2)::ag b (cl [.int .u64 y.2.1] 275)::A::F) (l.length-1,s,l) ⟨rfl,by simp only;omega,by simp only;omega,rfl⟩ rfl bQ ah ?_
 rintro⟨i,s1,l1⟩⟨y5,G4,hi,YZ⟩ ih
 simp only at y5 G4 hi YZ
 refine go ?_
 refine au zr zr ?_ ?_
 case' refine_2 =>
  intro ek
  simp only at ek
  have hz:i=0:=by
   by_cases h:l.length=0
   ·exact G4 h
   ·rw[if_neg h]at ek;omega
  subst hz
  have YZ:ku s l=(s1,l1):=YZ.symm
  rw[YZ]at hE
  rw[← y5]
  refine go ?_
  refine aG hE Tryz.func172 rfl _ zr zr ah
 intro L2
 simp only at L2
 have fy:l.length≠0:=by intro h;rw[if_pos h]at L2;omega
 rw[if_neg fy]at L2 ⊢
 obtain⟨i,rfl⟩:∃j,i=j+1:=⟨i-1,ai⟩
 have ko:=hi ai
 have hk:=BE s1 (i+2) ai
 have hBe:=rH b s1 (i+2) ai
 obtain⟨k,hkd⟩:∃k,k=gq (nx (fN s1)).toNat (i+2):=⟨_,rfl⟩
 rw[← hkd]at hk hBe
 have YY:tL i (fN s1) (mz l1 (i+1) k)=ku s l:=by rw[← YZ,tL,hkd]
 obtain⟨x,hx⟩:∃x,l1[i+1]?=some x:=⟨l1[i+1]' ai,by simp⟩
 obtain⟨y,hy⟩:∃y,l1[k]?=some y:=⟨l1[k]' ai,by simp⟩
 have hsw:mz l1 (i+1) k=(l1.set (i+1) y).set k x:=by
  unfold mz
  rw[List.getD_eq_getElem?_getD,List.getD_eq_getElem?_getD,hx,hy];rfl
 refine go ?_
 ((refine aD 20 ((.int .u64 ((i+2:Nat):Int))) rfl ((congrArg (Value.int .u64) (by simp only;omega))) ?_))
 refine aw hBe ?_
 refine go ?_
 refine ak (ao.pick [1] rfl) ?_
 refine eu 0 rfl ?_
 intro dt
 obtain⟨b3,o3,c3,xz⟩:=dt.some (Vk (l:=l1) (i:=i+1) ai)
 simp only[Value.slice.injEq,true_and]at xz
 obtain⟨rfl,rfl⟩:=xz
 refine aJ (fun w=>Sat G w ([])) (cM 0 7 (cM 8 3 (.fork (.act 7 (.act 11 (.st 12 (.act 13 (.st 14 (.act 15 .nil)))))) (.act 11 (.act 7 (.st 12 (.act 13 (.st 14 (.act 15 .nil))))))))) rfl ae ae ae cY ?_
 refine go ?_
 refine bC k zr zr zr zr zr zr zr zr ai (go ?_)
 refine bC (i+1) zr zr zr zr zr zr zr zr ai ?_
 refine od ?_ ?_
 ·refine go ?_
  refine aT ?_
  refine aN 0 k zr zr zr dt rfl (iP hy) zr zr (go ?_)
  refine aT ?_
  refine aN 0 (i+1) zr zr zr dt rfl (iP hx) zr zr (go ?_)
  refine bC (i+1) zr zr zr zr zr zr zr zr ai (go ?_)
  refine aY ?_
  refine gi (q:=i+1) 0 cY zr zr zr zr zr zr zr ai rfl (go ?_)
  refine bC k zr zr zr zr zr zr zr zr ai (go ?_)
  refine aY ?_
  refine gi (q:=k) 0 eW zr zr zr zr zr zr zr ai rfl ?_
  rw[show((iV l1).set (i+1) (.int .i64 y)).set k (.int .i64 x)=iV (mz l1 (i+1) k)from by rw[hsw];simp[iV,List.map_set]]
  refine go ?_
  ((refine aV 6 ((.int .i64 (if l.length=0 then -1 else(i:Int)))) rfl ((congrArg (Value.int .i64) (by rw[if_neg fy];simp only;omega))) ?_))
  refine aK ih (i,fN s1,mz l1 (i+1) k) rfl ⟨by rw[qI];exact y5,fun h=>absurd h fy,fun _=>by simp only;omega,YY⟩ (by simp only;omega) bQ ah
 ·refine go ?_
  refine aT ?_
  refine aN 0 (i+1) zr zr zr dt rfl (iP hx) zr zr (go ?_)
  refine aT ?_
  refine aN 0 k zr zr zr dt rfl (iP hy) zr zr (go ?_)
  refine bC (i+1) zr zr zr zr zr zr zr zr ai (go ?_)
  refine aY ?_
  refine gi (q:=i+1) 0 cY zr zr zr zr zr zr zr ai rfl (go ?_)
  refine bC k zr zr zr zr zr zr zr zr ai (go ?_)
  refine aY ?_
  refine gi (q:=k) 0 eW zr zr zr zr zr zr zr ai rfl ?_
  rw[show((iV l1).set (i+1) (.int .i64 y)).set k (.int .i64 x)=iV (mz l1 (i+1) k)from by rw[hsw];simp[iV,List.map_set]]
  refine go ?_
  ((refine aV 6 ((.int .i64 (if l.length=0 then -1 else(i:Int)))) rfl ((congrArg (Value.int .i64) (by rw[if_neg fy];simp only;omega))) ?_))
  refine aK ih (i,fN s1,mz l1 (i+1) k) rfl ⟨by rw[qI];exact y5,fun h=>absurd h fy,fun _=>by simp only;omega,YY⟩ (by simp only;omega) bQ ah
end Go.Proofs.YtnkfkabokmcgoaaGreatDoor
namespace Go.Proofs.YtnkfkabokmcgoaaGreatDoor
open Go Go.SL
def cdM(x:Mem):Int:=x.inc*4+x.st
def code(V:VM)(id:Int):Int:=match i' V.ks id with
 | some x=>cdM x
 | none=>0
def aag(l:List Mem)(id:Int):Int:=match l with
 | []=>0
 | m::l=>if m.id=id then max (cdM m) (aag l id)else aag l id
def gy(l:List Int):List Int:=l.mergeSort fun x y=>decide (x≤y)
def eP(l:List Int):(gy l).length=l.length:=List.length_mergeSort _
def oq(l:List Int):(gy l).Perm l:=List.mergeSort_perm l _
def rL(l:List Int):(gy l).Pairwise (·≤·):=by
 have:=List.pairwise_mergeSort (le:=fun x y:Int=>decide (x≤y)) (fun a b c h1 h2=>by simp at *;omega) (fun a b=>by simp;omega) l
 exact this.imp (by simp)
def ET{a b:List Int}(h:a.Perm b):gy a=gy b :=
 List.Perm.eq_of_pairwise (fun x y _ _ h1 h2=>Int.le_antisymm h1 h2) (rL a) (rL b) ((oq a).trans (h.trans (oq b).symm))
def Bu(k:Int)(n:Nat):Nat:=(max 0 (min k (n:Int))).toNat
def oN(s:Int)(l:List Int)(k:Int):List Int:=(ku s l).2.take (Bu k l.length)
def oB(V:VM)(bK seed:Int):List Mem:=(oN seed (gy (V.ks.map Mem.id)) bK).map (fun id=>(i' V.ks id).getD ⟨0,0,0,0⟩)++[V.self]
def wU(s:Int)(l:List Int):(ku s l).2.length=l.length:=(CF s l).length_eq
def qO(s:Int)(l:List Int)(k:Int):(oN s l k).length=Bu k l.length:=by
 unfold oN Bu
 rw[List.length_take,wU];omega
end Go.Proofs.YtnkfkabokmcgoaaGreatDoor
namespace Go.Proofs.YtnkfkabokmcgoaaGreatDoor
open Go Go.Shelf
def wT:Go.Shelf.Ren:=⟨fun|53=>151|64=>250|63=>249|78=>339|79=>340|70=>330|71=>331|72=>332|73=>333|74=>334|75=>335|59=>336|76=>337|77=>338|88=>393|89=>394|90=>395|91=>396|92=>397|68=>345|96=>424|n=>n,fun|22=>37|23=>3|3=>3|51=>323|0=>0|67=>319|69=>43|4=>4|61=>419|60=>418|44=>97|5=>5|9=>9|75=>466|79=>469|83=>489|84=>490|n=>n,fun|n=>n⟩
def Yx:Go.Proofs.SlLaysN.n53 Tryz.prog wT:={
  mixed:=by kernel_rfl,
  f53:=⟨Tryz.f151.name,by decide,Tryz.func151.trans (congrArg some (by kernel_rfl))⟩,
  f59:=⟨Tryz.f336.name,by decide,Tryz.func336.trans (congrArg some (by kernel_rfl))⟩,
  f63:=⟨Tryz.f249.name,by decide,Tryz.func249.trans (congrArg some (by kernel_rfl))⟩,
  f64:=Tryz.func250.trans (congrArg some (by kernel_rfl)),
  f68:=⟨Tryz.f345.name,by decide,Tryz.func345.trans (congrArg some (by kernel_rfl))⟩,
  f70:=⟨Tryz.f330.name,by decide,Tryz.func330.trans (congrArg some (by kernel_rfl))⟩,
  f71:=⟨Tryz.f331.name,by decide,Tryz.func331.trans (congrArg some (by kernel_rfl))⟩,
  f72:=⟨Tryz.f332.name,by decide,Tryz.func332.trans (congrArg some (by kernel_rfl))⟩,
  f73:=⟨Tryz.f333.name,by decide,Tryz.func333.trans (congrArg some (by kernel_rfl))⟩,
  f74:=⟨Tryz.f334.name,by decide,Tryz.func334.trans (congrArg some (by kernel_rfl))⟩,
  f75:=⟨Tryz.f335.name,by decide,Tryz.func335.trans (congrArg some (by kernel_rfl))⟩,
  f76:=⟨Tryz.f337.name,by decide,Tryz.func337.trans (congrArg some (by kernel_rfl))⟩,
  f77:=⟨Tryz.f338.name,by decide,Tryz.func338.trans (congrArg some (by kernel_rfl))⟩,
  f78:=Tryz.func339.trans (congrArg some (by kernel_rfl)),
  f79:=Tryz.func340.trans (congrArg some (by kernel_rfl)),
  f88:=⟨Tryz.f393.name,by decide,Tryz.func393.trans (congrArg some (by kernel_rfl))⟩,
  f89:=Tryz.func394.trans (congrArg some (by kernel_rfl)),
  f90:=Tryz.func395.trans (congrArg some (by kernel_rfl)),
  f91:=⟨Tryz.f396.name,by decide,Tryz.func396.trans (congrArg some (by kernel_rfl))⟩,
  f92:=⟨Tryz.f397.name,by decide,Tryz.func397.trans (congrArg some (by kernel_rfl))⟩,
  f96:=⟨Tryz.f424.name,by decide,Tryz.func424.trans (congrArg some (by kernel_rfl))⟩,
  t0:=Tryz.underlying0,
  a0:=Tryz.isAgg0,
  z0:=Tryz.sizeOf0,
  v0:=Tryz.zeroValue0,
  t3:=Tryz.underlying3,
  a3:=Tryz.isAgg3,
  z3:=Tryz.sizeOf3,
  v3:=Tryz.zeroValue3,
  t4:=Tryz.underlying4,
  a4:=Tryz.isAgg4,
  z4:=Tryz.sizeOf4,
  v4:=Tryz.zeroValue4,
  t5:=Tryz.underlying5,
  a5:=Tryz.isAgg5,
  z5:=Tryz.sizeOf5,
  v5:=Tryz.zeroValue5,
  t9:=Tryz.underlying9,
  a9:=Tryz.isAgg9,
  z9:=Tryz.sizeOf9,
  v9:=Tryz.zeroValue9,
  t22:=Tryz.underlying37,
  a22:=Tryz.isAgg37,
  z22:=Tryz.sizeOf37,
  v22:=Tryz.zeroValue37,
  t23:=Tryz.underlying3,
  a23:=Tryz.isAgg3,
  z23:=Tryz.sizeOf3,
  v23:=Tryz.zeroValue3,
  t44:=Tryz.underlying97,
  a44:=Tryz.isAgg97,
  z44:=Tryz.sizeOf97,
  v44:=Tryz.zeroValue97,
  t51:=Tryz.underlying323,
  a51:=Tryz.isAgg323,
  z51:=Tryz.sizeOf323,
  v51:=Tryz.zeroValue323,
  t60:=Tryz.underlying418,
  a60:=Tryz.isAgg418,
  z60:=Tryz.sizeOf418,
  v60:=Tryz.zeroValue418,
  t61:=Tryz.underlying419,
  a61:=Tryz.isAgg419,
  z61:=Tryz.sizeOf419,
  v61:=Tryz.zeroValue419,
  t67:=Tryz.underlying319,
  a67:=Tryz.isAgg319,
  z67:=Tryz.sizeOf319,
  v67:=Tryz.zeroValue319,
  t69:=Tryz.underlying43,
  a69:=Tryz.isAgg43,
  z69:=Tryz.sizeOf43,
  v69:=Tryz.zeroValue43,
  t75:=Tryz.underlying466,
  a75:=Tryz.isAgg466,
  z75:=Tryz.sizeOf466,
  v75:=Tryz.zeroValue466,
  t79:=Tryz.underlying469,
  a79:=Tryz.isAgg469,
  z79:=Tryz.sizeOf469,
  v79:=Tryz.zeroValue469,
  t83:=Tryz.underlying489,
  a83:=Tryz.isAgg489,
  z83:=Tryz.sizeOf489,
  v83:=Tryz.zeroValue489,
  t84:=Tryz.underlying490,
  a84:=Tryz.isAgg490,
  z84:=Tryz.sizeOf490,
  v84:=Tryz.zeroValue490 }
end Go.Proofs.YtnkfkabokmcgoaaGreatDoor
namespace Go.Proofs.YtnkfkabokmcgoaaGreatDoor
open Go Go.SL
def kC{l r:List Int}(hl:l.Nodup)(hr:r.Nodup)(h:∀n,n∈l↔n∈r):l.length=r.length:=((List.perm_ext_iff_of_nodup hl hr).2 h).length_eq
attribute [local irreducible] J K aq Ends ag aI aC bF aW aP a6 aZ bN bM II
def xr(bm:Nat):aq Tryz.prog 84 [.map (some bm)] [] (fun r H=>∃bx,r = .func (.func 173) #[] #[ptr bx]∧H=[ag bx (cl [.map (some bm)] 141)]):=by
 refine aq.aj Tryz.func84 Tryz.ntmps84 fun G F R hE=>?_
 refine go ?_
 refine bp zr zr bh ?_
 intro bx
 refine go ?_
 refine ad hE Tryz.func84 zr zr ⟨bx,rfl,rfl⟩
def uj(bx bm:Nat)(es:List (Int × Value))(gp:(es.map (·.1)).Nodup) :
  yo 173 [ptr bx] es.length [ag bx (cl [.map (some bm)] 141),aC (Value.int .i64) bm es] [aC (Value.int .i64) bm es] (fun xs=>xs.Perm (es.map (·.1))):=by
 intro l Lp Inv hy
 refine aq.aj Tryz.func173 Tryz.ntmps173 fun G F R hE=>?_
 refine ak (ao.pick [3,0,2] rfl) (go ?_)
 refine kT (kv:=Value.int .i64) (es:=es) (U:=aU) 0 zr zr zr zr zr (fun _=>rfl) bh ?_
 intro it
 refine go ?_
 refine bn (fun s:List Int=>s.Nodup∧∀x∈s,x∈es.map (·.1)) (fun s=>es.length-s.length) (fun s=>[(0,.func (.yield l) #[] #[]),(5,.pointer (some ⟨it,0,none⟩))])
  (fun s=>bF (Value.int .i64) bm it es s::Lp::ag bx (cl [.map (some bm)] 141)::Inv s.reverse::F) [] ⟨List.nodup_nil,by simp⟩ rfl bQ ah ?_
 rintro dn⟨lO,cu⟩ ih
 refine go ?_
 refine n5 (kv:=Value.int .i64) (es:=es) 0 rfl fu.inj zr zr (fun _=>rfl) eW bh ?_ ?_
 ·intro dX
  refine go ?_
  refine ak (ao.head (B:=[aC (Value.int .i64) bm es]) (fun h hs=>by obtain⟨h',s,hm⟩:=gX h hs;exact⟨h',s,cV hm⟩)) ?_
  have hp:dn.reverse.Perm (es.map (·.1)):=(List.reverse_perm dn).trans ((List.perm_ext_iff_of_nodup lO gp).2 fun a=>⟨cu a,fun h=>by obtain⟨y,hy,rfl⟩:=List.mem_map.1 h;exact dX y hy⟩)
  refine bB hE Tryz.func173 rfl _ rfl ⟨_,hp,rfl⟩ ah
 ·intro key v dF js
  have hk:key∈es.map (·.1):=List.mem_map.2 ⟨_,dF,rfl⟩
  have cq:dn.length<es.length:=by
   have h1:((List.filter (fun x=>decide (x∈dn)) (es.map (·.1)))).length≤(es.map (·.1)).length:=List.length_filter_le _ _
   have h2:dn.length=(List.filter (fun x=>decide (x∈dn)) (es.map (·.1))).length:=kC lO (gp.sublist List.filter_sublist) (fun n=>by
    simp only[List.mem_filter,decide_eq_true_eq]
    exact⟨fun h=>⟨cu n h,h⟩,fun h=>h.2⟩)
   rw[List.length_map]at h1
   rcases Nat.lt_or_ge dn.length es.length with h|h
   ·exact h
   ·exfalso
    have h3:(List.filter (fun x=>decide (x∈dn)) (es.map (·.1))).length=(es.map (·.1)).length:=by rw[List.length_map];omega
    have h4:=List.filter_eq_self.1 ((List.filter_sublist (p:=fun x=>decide (x∈dn)) (l:=es.map (·.1))).eq_of_length h3) key hk
    exact js (of_decide_eq_true h4)
  refine go ?_
  refine kU (kv:=Value.int .i64) (es:=es) 0 rfl fu.inj zr zr dF (go ?_)
  refine iW zr zr zr (hy dn.reverse key (by rw[List.length_reverse];exact cq)) ah ?_ iE
  rintro _ _⟨rfl,rfl⟩
  rw[show dn.reverse++[key]=(key::dn).reverse from by simp]
  refine go ?_
  refine aK ih (key::dn) rfl (⟨List.nodup_cons.2 ⟨js,lO⟩,fun x hx=>by rcases List.mem_cons.1 hx with rfl|h;exact hk;exact cu x h⟩) (by show _-(key::dn).length<_;simp only[List.length_cons];omega) bQ ah
def ru(v:Value)(l:List Int)(hl:l.length≤1000000000):aq Tryz.prog 151 [v] [aI 3 1 v l.length (iV l)] (fun r H=>r = .tuple #[]∧H=[aI 3 1 v l.length (iV (gy l))]) :=
 Ak (ρ:=wT) Yx 3 v l ae ai
def kO(g:FuncId)(cap:List Value)(N:Nat)(Pre Post:List HP)(Q:List Int→Prop)(hN:N≤1000000000)(hi:yo g cap N Pre Post Q)(hQ:∀xs,Q xs→xs.length≤1000000000) :
  aq Tryz.prog 69 [.func (.func g) #[] cap.toArray] Pre (fun r H=>∃xs,Q xs∧H=aI 3 1 r xs.length (iV (gy xs))::Post):=by
 refine aq.aj Tryz.func69 Tryz.ntmps69 fun G F R hE=>?_
 refine go ?_
 refine aF (zQ g cap N Pre Post Q hN hi) ?_
 rintro w _⟨xs,hq,rfl⟩
 refine aL 0 rfl ?_
 rintro wa wc rfl
 refine go ?_
 refine aw (ru (.slice wa xs.length wc) xs (hQ xs hq)) ?_
 refine go ?_
 refine ad hE Tryz.func69 zr zr ⟨xs,hq,rfl⟩
end Go.Proofs.YtnkfkabokmcgoaaGreatDoor
namespace Go.Proofs.YtnkfkabokmcgoaaGreatDoor
open Go Go.SL
def jN(kb:Nat)(lim gL bK:Int):HP:=fun h=>∃km:Nat,True∧Sep [ag kb (cl [.int .i64 lim,.int .i64 gL,.int .i64 bK,.map (some km)] 146),aC (Value.int .i64) km [] ] h
def BD(kb:Nat)(lim gL bK:Int):∀h,jN kb lim gL bK h→∃km:Nat,True∧Sep [ag kb (cl [.int .i64 lim,.int .i64 gL,.int .i64 bK,.map (some km)] 146),aC (Value.int .i64) km [] ] h:=fun h hs=>hs
def rn(kb km:Nat)(lim gL bK:Int)(H:List HP):ao (ag kb (cl [.int .i64 lim,.int .i64 gL,.int .i64 bK,.map (some km)] 146)::aC (Value.int .i64) km []::H) (jN kb lim gL bK::H) :=
 ao.fold (A:=jN kb lim gL bK) (B:=[_,_]) fun h hs=>⟨h,sub.refl h,km,trivial,hs⟩
def aaJ(mo:Option Nat):HP:=match mo with
 | none=>emp
 | some m=>aC (Value.int .i64) m []
def whN(hb:Nat)(bD r:Int):HP:=fun h=>∃mo:Option Nat,True∧Sep [ag hb (cl [.int .i64 bD,.int .i64 3,.int .i64 r,.int .i64 0,.map mo] 149),aaJ mo] h
attribute [local irreducible] J K aq Ends ag aI aC bF aW aP a6 aZ bN bM jN whN
def kq(n lo hi:Int):aq Tryz.prog 65 [.int .i64 n,.int .i64 lo,.int .i64 hi] [] (fun r H=>r = .bool (gK n lo hi)∧H=[]):=by
 refine aq.aj Tryz.func65 Tryz.ntmps65 fun G F R hE=>?_
 repeat'(first|(with_reducible intro iI)|refine fq ?_|refine dw zr zr zr zr ?_ ?_|fail)
 ·((refine ad hE Tryz.func65 zr zr ⟨(by unfold gK;rw[decide_eq_true (show lo≤n from iI),Bool.true_and];rfl),rfl⟩))
 ·((refine ad hE Tryz.func65 zr zr ⟨(by unfold gK;rw[decide_eq_false (show ¬lo≤n from iI),Bool.false_and];rfl),rfl⟩))
def nJ(n lo hi:Int):aq Tryz.prog 246 [.int .i64 n,.int .i64 lo,.int .i64 hi] [] (fun r H=>r = .bool (gK n lo hi)∧H=[]):=by
 refine aq.aj Tryz.func246 Tryz.ntmps246 fun G F R hE=>?_
 repeat'(first|(with_reducible intro iI)|refine fq ?_|refine dw zr zr zr zr ?_ ?_|fail)
 ·((refine ad hE Tryz.func246 zr zr ⟨(by unfold gK;rw[decide_eq_true (show lo≤n from iI),Bool.true_and];rfl),rfl⟩))
 ·((refine ad hE Tryz.func246 zr zr ⟨(by unfold gK;rw[decide_eq_false (show ¬lo≤n from iI),Bool.false_and];rfl),rfl⟩))
def kA(n lo hi:Int):aq Tryz.prog 16 [.int .i64 n,.int .i64 lo,.int .i64 hi] [] (fun r H=>r = .bool (gK n lo hi)∧H=[]):=by
 refine aq.aj Tryz.func16 Tryz.ntmps16 fun G F R hE=>?_
 repeat'(first|(with_reducible intro iI)|refine fq ?_|refine dw zr zr zr zr ?_ ?_|fail)
 ·((refine ad hE Tryz.func16 zr zr ⟨(by unfold gK;rw[decide_eq_true (show lo≤n from iI),Bool.true_and];rfl),rfl⟩))
 ·((refine ad hE Tryz.func16 zr zr ⟨(by unfold gK;rw[decide_eq_false (show ¬lo≤n from iI),Bool.false_and];rfl),rfl⟩))
def BC(lim gL bK:Int)(h1:gK lim 1 100=true)(h2:gK gL 1 1048576=true)(h3:gK bK 1 64=true) :
  aq Tryz.prog 24 [.int .i64 lim,.int .i64 gL,.int .i64 bK] [] (fun r H=>∃kb,r = .tuple #[ptr kb,.int .i64 0]∧H=[jN kb lim gL bK]):=by
 refine aq.aj Tryz.func24 Tryz.ntmps24 fun G F R hE=>?_
 refine go ?_
 refine aw (kq lim 1 100) ?_
 rw[h1]
 refine go ?_
 refine aw (kq gL 1 1048576) ?_
 rw[h2]
 refine go ?_
 refine aw (kq bK 1 64) ?_
 rw[h3]
 refine go ?_
 refine dN rfl bh ?_
 intro km
 refine go ?_
 refine bp zr zr bh ?_
 intro kb
 refine go ?_
 refine ak (ao.trans (ao.pick [1] rfl) (ao.head (B:=[aC (Value.int .i64) km [] ]) (fun h hs=>⟨h,sub.refl h,cV (fO _ km h hs)⟩))) ?_
 refine ak (ao.trans (ao.pick [1,0] rfl) (rn kb km lim gL bK _)) ?_
 refine ad hE Tryz.func24 zr zr ⟨kb,rfl,rfl⟩
def zj(n bt:Int)(h1:1≤n∧n≤1024)(h2:1≤bt∧bt≤64):aq Tryz.prog 147 [.int .i64 n,.int .i64 bt] [] (fun r H=>∃b,r = .tuple #[ptr b,.int .i64 0]∧H=[]):=by
 obtain⟨m,rfl⟩:∃m:Nat,n=m:=⟨n.toNat,ai⟩
 refine aq.aj Tryz.func147 Tryz.ntmps147 fun G F R hE=>?_
 repeat'(first|(with_reducible intro iI)|refine fq ?_|refine dw zr zr zr zr ?_ ?_|refine au zr zr ?_ ?_)
 any_goals (exfalso;omega)
 refine dN rfl bh ?_
 intro bm
 refine go ?_
 refine gD (p:=m) (q:=m) zr zr zr zr zr zr zr zr zr (Nat.le_refl _) ai (by show 8*_≤_;omega) bh ?_
 intro row
 refine go ?_
 refine bp zr zr bh ?_
 intro b
 refine go ?_
 refine ak (H':=F) ah ?_
 refine ad hE Tryz.func147 zr zr ⟨b,rfl,rfl⟩
def we(bK each pat:Int)(h1:gK bK 1 256=true)(h2:gK each 1 bK=true)(h3:gK pat 1 1048576=true):aq Tryz.prog 148 [.int .i64 bK,.int .i64 each,.int .i64 pat] [] (fun r H=>∃b,r = .tuple #[ptr b,.int .i64 0]∧H=[]):=by
 refine aq.aj Tryz.func148 Tryz.ntmps148 fun G F R hE=>?_
 refine go ?_
 refine aw (nJ bK 1 256) ?_
 rw[h1]
 refine go ?_
 refine aw (nJ each 1 bK) ?_
 rw[h2]
 refine go ?_
 refine aw (nJ pat 1 1048576) ?_
 rw[h3]
 refine go ?_
 refine dN rfl bh ?_
 intro bm
 refine go ?_
 refine bp zr zr bh ?_
 intro b
 refine go ?_
 refine ak (H':=F) ah ?_
 refine ad hE Tryz.func148 zr zr ⟨b,rfl,rfl⟩
def Bv(n bt bK each pat:Int)(h1:1≤n∧n≤1024)(h2:1≤bt∧bt≤64)(h3:gK bK 1 256=true)(h4:gK each 1 bK=true)(h5:gK pat 1 1048576=true) :
  aq Tryz.prog 66 [.int .i64 n,.int .i64 bt,.int .i64 bK,.int .i64 each,.int .i64 pat] [] (fun r H=>∃b,r = .tuple #[ptr b,.int .i64 0]∧H=[]):=by
 refine aq.aj Tryz.func66 Tryz.ntmps66 fun G F R hE=>?_
 refine go ?_
 refine aF (zj n bt h1 h2) ?_
 rintro _ _⟨b1,rfl,rfl⟩
 refine go ?_
 refine aF (we bK each pat h3 h4 h5) ?_
 rintro _ _⟨b2,rfl,rfl⟩
 refine go ?_
 refine bp zr zr bh ?_
 intro b
 refine go ?_
 refine ak (H':=F) ah ?_
 refine ad hE Tryz.func66 zr zr ⟨b,rfl,rfl⟩
end Go.Proofs.YtnkfkabokmcgoaaGreatDoor
namespace Go.Proofs.YtnkfkabokmcgoaaGreatDoor
open Go Go.SL
attribute [local irreducible] J K aq Ends ag aI aC bF aW aP a6 aZ bN bM II
def Hk(bm:Nat):aq Tryz.prog 70 [.map (some bm)] [] (fun r H=>∃bx,r = .func (.func 152) #[] #[ptr bx]∧H=[ag bx (cl [.map (some bm)] 65)]):=by
 refine aq.aj Tryz.func70 Tryz.ntmps70 fun G F R hE=>?_
 refine go ?_
 refine bp zr zr bh ?_
 intro bx
 refine go ?_
 refine ad hE Tryz.func70 zr zr ⟨bx,rfl,rfl⟩
def DR(bx bm:Nat)(es:List (Int × Value))(gp:(es.map (·.1)).Nodup) :
  yo 152 [ptr bx] es.length [ag bx (cl [.map (some bm)] 65),aC (Value.int .i64) bm es] [aC (Value.int .i64) bm es] (fun xs=>xs.Perm (es.map (·.1))):=by
 intro l Lp Inv hy
 refine aq.aj Tryz.func152 Tryz.ntmps152 fun G F R hE=>?_
 refine ak (ao.pick [3,0,2] rfl) (go ?_)
 refine kT (kv:=Value.int .i64) (es:=es) (U:=aU) 0 zr zr zr zr zr (fun _=>rfl) bh ?_
 intro it
 refine go ?_
 refine bn (fun s:List Int=>s.Nodup∧∀x∈s,x∈es.map (·.1)) (fun s=>es.length-s.length) (fun s=>[(0,.func (.yield l) #[] #[]),(5,.pointer (some ⟨it,0,none⟩))])
  (fun s=>bF (Value.int .i64) bm it es s::Lp::ag bx (cl [.map (some bm)] 65)::Inv s.reverse::F) [] ⟨List.nodup_nil,by simp⟩ rfl bQ ah ?_
 rintro dn⟨lO,cu⟩ ih
 refine go ?_
 refine n5 (kv:=Value.int .i64) (es:=es) 0 rfl fu.inj zr zr (fun _=>rfl) eW bh ?_ ?_
 ·intro dX
  refine go ?_
  refine ak (ao.head (B:=[aC (Value.int .i64) bm es]) (fun h hs=>by obtain⟨h',s,hm⟩:=gX h hs;exact⟨h',s,cV hm⟩)) ?_
  have hp:dn.reverse.Perm (es.map (·.1)):=(List.reverse_perm dn).trans ((List.perm_ext_iff_of_nodup lO gp).2 fun a=>⟨cu a,fun h=>by obtain⟨y,hy,rfl⟩:=List.mem_map.1 h;exact dX y hy⟩)
  refine bB hE Tryz.func152 rfl _ rfl ⟨_,hp,rfl⟩ ah
 ·intro key v dF js
  have hk:key∈es.map (·.1):=List.mem_map.2 ⟨_,dF,rfl⟩
  have cq:dn.length<es.length:=by
   have h1:((List.filter (fun x=>decide (x∈dn)) (es.map (·.1)))).length≤(es.map (·.1)).length:=List.length_filter_le _ _
   have h2:dn.length=(List.filter (fun x=>decide (x∈dn)) (es.map (·.1))).length:=kC lO (gp.sublist List.filter_sublist) (fun n=>by
    simp only[List.mem_filter,decide_eq_true_eq]
    exact⟨fun h=>⟨cu n h,h⟩,fun h=>h.2⟩)
   rw[List.length_map]at h1
   rcases Nat.lt_or_ge dn.length es.length with h|h
   ·exact h
   ·exfalso
    have h3:(List.filter (fun x=>decide (x∈dn)) (es.map (·.1))).length=(es.map (·.1)).length:=by rw[List.length_map];omega
    have h4:=List.filter_eq_self.1 ((List.filter_sublist (p:=fun x=>decide (x∈dn)) (l:=es.map (·.1))).eq_of_length h3) key hk
    exact js (of_decide_eq_true h4)
  refine go ?_
  refine kU (kv:=Value.int .i64) (es:=es) 0 rfl fu.inj zr zr dF (go ?_)
  refine iW zr zr zr (hy dn.reverse key (by rw[List.length_reverse];exact cq)) ah ?_ iE
  rintro _ _⟨rfl,rfl⟩
  rw[show dn.reverse++[key]=(key::dn).reverse from by simp]
  refine go ?_
  refine aK ih (key::dn) rfl (⟨List.nodup_cons.2 ⟨js,lO⟩,fun x hx=>by rcases List.mem_cons.1 hx with rfl|h;exact hk;exact cu x h⟩) (by show _-(key::dn).length<_;simp only[List.length_cons];omega) bQ ah
def GD(bm:Nat):aq Tryz.prog 149 [.map (some bm)] [] (fun r H=>∃bx,r = .func (.func 247) #[] #[ptr bx]∧H=[ag bx (cl [.map (some bm)] 144)]):=by
 refine aq.aj Tryz.func149 Tryz.ntmps149 fun G F R hE=>?_
 refine go ?_
 refine bp zr zr bh ?_
 intro bx
 refine go ?_
 refine ad hE Tryz.func149 zr zr ⟨bx,rfl,rfl⟩
def Dx(bx bm:Nat)(es:List (Int × Value))(gp:(es.map (·.1)).Nodup) :
  yo 247 [ptr bx] es.length [ag bx (cl [.map (some bm)] 144),aC (Value.int .i64) bm es] [aC (Value.int .i64) bm es] (fun xs=>xs.Perm (es.map (·.1))):=by
 intro l Lp Inv hy
 refine aq.aj Tryz.func247 Tryz.ntmps247 fun G F R hE=>?_
 refine ak (ao.pick [3,0,2] rfl) (go ?_)
 refine kT (kv:=Value.int .i64) (es:=es) (U:=aU) 0 zr zr zr zr zr (fun _=>rfl) bh ?_
 intro it
 refine go ?_
 refine bn (fun s:List Int=>s.Nodup∧∀x∈s,x∈es.map (·.1)) (fun s=>es.length-s.length) (fun s=>[(0,.func (.yield l) #[] #[]),(5,.pointer (some ⟨it,0,none⟩))])
  (fun s=>bF (Value.int .i64) bm it es s::Lp::ag bx (cl [.map (some bm)] 144)::Inv s.reverse::F) [] ⟨List.nodup_nil,by simp⟩ rfl bQ ah ?_
 rintro dn⟨lO,cu⟩ ih
 refine go ?_
 refine n5 (kv:=Value.int .i64) (es:=es) 0 rfl fu.inj zr zr (fun _=>rfl) eW bh ?_ ?_
 ·intro dX
  refine go ?_
  refine ak (ao.head (B:=[aC (Value.int .i64) bm es]) (fun h hs=>by obtain⟨h',s,hm⟩:=gX h hs;exact⟨h',s,cV hm⟩)) ?_
  have hp:dn.reverse.Perm (es.map (·.1)):=(List.reverse_perm dn).trans ((List.perm_ext_iff_of_nodup lO gp).2 fun a=>⟨cu a,fun h=>by obtain⟨y,hy,rfl⟩:=List.mem_map.1 h;exact dX y hy⟩)
  refine bB hE Tryz.func247 rfl _ rfl ⟨_,hp,rfl⟩ ah
 ·intro key v dF js
  have hk:key∈es.map (·.1):=List.mem_map.2 ⟨_,dF,rfl⟩
  have cq:dn.length<es.length:=by
   have h1:((List.filter (fun x=>decide (x∈dn)) (es.map (·.1)))).length≤(es.map (·.1)).length:=List.length_filter_le _ _
   have h2:dn.length=(List.filter (fun x=>decide (x∈dn)) (es.map (·.1))).length:=kC lO (gp.sublist List.filter_sublist) (fun n=>by
    simp only[List.mem_filter,decide_eq_true_eq]
    exact⟨fun h=>⟨cu n h,h⟩,fun h=>h.2⟩)
   rw[List.length_map]at h1
   rcases Nat.lt_or_ge dn.length es.length with h|h
   ·exact h
   ·exfalso
    have h3:(List.filter (fun x=>decide (x∈dn)) (es.map (·.1))).length=(es.map (·.1)).length:=by rw[List.length_map];omega
    have h4:=List.filter_eq_self.1 ((List.filter_sublist (p:=fun x=>decide (x∈dn)) (l:=es.map (·.1))).eq_of_length h3) key hk
    exact js (of_decide_eq_true h4)
  refine go ?_
  refine kU (kv:=Value.int .i64) (es:=es) 0 rfl fu.inj zr zr dF (go ?_)
  refine iW zr zr zr (hy dn.reverse key (by rw[List.length_reverse];exact cq)) ah ?_ iE
  rintro _ _⟨rfl,rfl⟩
  rw[show dn.reverse++[key]=(key::dn).reverse from by simp]
  refine go ?_
  refine aK ih (key::dn) rfl (⟨List.nodup_cons.2 ⟨js,lO⟩,fun x hx=>by rcases List.mem_cons.1 hx with rfl|h;exact hk;exact cu x h⟩) (by show _-(key::dn).length<_;simp only[List.length_cons];omega) bQ ah
end Go.Proofs.YtnkfkabokmcgoaaGreatDoor
namespace Go.Proofs.YtnkfkabokmcgoaaGreatDoor
open Go Go.SL
def IterM(g:FuncId)(cap:List Value)(N:Nat)(Pre Post:List HP)(Q:List Mem→Prop):Prop :=
 ∀(l:Nat) (Lp:HP) (Inv:List Mem→HP),(∀done x,done.length<N→bN Tryz.prog l [yU x] [Lp,Inv done] (fun v H=>v = .bool true∧H=[Lp,Inv (done++[x])])) →
  aq Tryz.prog g (.func (.yield l) #[] #[]::cap) (Lp::Inv []::Pre) (fun _ H=>∃xs,Q xs∧H=Lp::Inv xs::Post)
def MI(bs:Nat)(ks:List Mem):HP:=fun h=>∃v:Value,True∧Sep [ag bs (cl [v] 40),aI 101 4 v ks.length (mV ks)] h
def FJ(bs:Nat)(ks:List Mem):∀h,MI bs ks h→∃v,True∧Sep [ag bs (cl [v] 40),aI 101 4 v ks.length (mV ks)] h:=fun h hs=>hs
def BT(bs:Nat)(ks:List Mem)(v:Value)(H:List HP):ao (ag bs (cl [v] 40)::aI 101 4 v ks.length (mV ks)::H) (MI bs ks::H) :=
 ao.fold (A:=MI bs ks) (B:=[ag bs (cl [v] 40),aI 101 4 v ks.length (mV ks)]) fun h hs=>⟨h,sub.refl h,v,trivial,hs⟩
attribute [local irreducible] J K aq Ends ag aI aC bF aW aP a6 aZ bN bM II MI
def GA(bm:Nat):aq Tryz.prog 297 [.map (some bm)] [] (fun r H=>∃bx,r = .func (.func 371) #[] #[ptr bx]∧H=[ag bx (cl [.map (some bm)] 141)]):=by
 refine aq.aj Tryz.func297 Tryz.ntmps297 fun G F R hE=>?_
 refine go ?_
 refine bp zr zr bh ?_
 intro bx
 refine go ?_
 refine ad hE Tryz.func297 zr zr ⟨bx,rfl,rfl⟩
def Du(bx bm:Nat)(ks:List Mem)(gp:(ks.map Mem.id).Nodup) :
    IterM 371 [ptr bx] ks.length [ag bx (cl [.map (some bm)] 141),aC (Value.int .i64) bm (fJ ks)] [aC (Value.int .i64) bm (fJ ks)] (fun xs=>xs.length=ks.length∧∀x∈xs,x∈ks):=by
  have VZ:=nN ks
  have pn:(fJ ks).length=ks.length:=List.length_map _
  intro l Lp Inv hy
  refine aq.aj Tryz.func371 Tryz.ntmps371 fun G F R hE=>?_
  refine ak (ao.pick [3,0,2] rfl) (go ?_)
  refine kT (kv:=Value.int .i64) (es:=fJ ks) (U:=aU) 0 zr zr zr zr zr (fun _=>rfl) bh ?_
  intro it
  refine go ?_
  refine bn (fun s:List Mem=>(s.map Mem.id).Nodup∧∀x∈s,x∈ks) (fun s=>ks.length-s.length) (fun s=>[(0,.func (.yield l) #[] #[]),(6,.pointer (some ⟨it,0,none⟩))])
    (fun s=>bF (Value.int .i64) bm it (fJ ks) (s.map Mem.id)::Lp::ag bx (cl [.map (some bm)] 141)::Inv s.reverse::F) [] ⟨List.nodup_nil,by simp⟩ rfl bQ ah ?_
  rintro dn⟨lO,cu⟩ ih
  refine go ?_
  refine n5 (kv:=Value.int .i64) (es:=fJ ks) 0 rfl fu.inj zr zr (fun _=>rfl) eW bh ?_ ?_
  · intro dX
    refine go ?_
    refine ak (ao.head (B:=[aC (Value.int .i64) bm (fJ ks)]) (fun h hs=>by obtain⟨h',s,hm⟩:=gX h hs;exact⟨h',s,cV hm⟩)) ?_
    have hlen:dn.reverse.length=ks.length:=by
      have h1:=kC lO gp fun n=>⟨fun h=>by obtain⟨x,hx,rfl⟩:=List.mem_map.1 h;exact List.mem_map.2 ⟨x,cu x hx,rfl⟩,fun h=>by
        rw[← VZ]at h
        obtain⟨y,hy,rfl⟩:=List.mem_map.1 h
        exact dX y hy⟩
      rw[List.length_map,List.length_map]at h1
      rw[List.length_reverse];exact h1
    refine bB hE Tryz.func371 rfl _ rfl ⟨_,⟨hlen,fun x hx=>cu x (List.mem_reverse.1 hx)⟩,rfl⟩ ah
  · intro key v dF js
    obtain⟨y,YH,MF⟩:=List.mem_map.1 dF
    simp only[Prod.mk.injEq]at MF
    obtain⟨rfl,rfl⟩:=MF
    have cq:dn.length<ks.length:=by
      have h1:(y.id::dn.map Mem.id).length≤(ks.map Mem.id).length:=(List.nodup_cons.2 ⟨js,lO⟩).length_le_of_subset fun n hn=>by
        rcases List.mem_cons.1 hn with rfl|hn
        · exact List.mem_map.2 ⟨y,YH,rfl⟩
        · obtain⟨x,hx,rfl⟩:=List.mem_map.1 hn
          exact List.mem_map.2 ⟨x,cu x hx,rfl⟩
      simp only[List.length_cons,List.length_map]at h1
      omega
    refine go ?_
    refine kU (kv:=Value.int .i64) (es:=fJ ks) 0 rfl fu.inj zr zr dF ?_
    unfold yU
    refine go ?_
    refine az zr zr zr bh ?_
    intro b4
    refine go ?_
    refine bq 0 zr zr zr zr zr zr (go ?_)
    refine iW zr zr zr (hy dn.reverse y (by rw[List.length_reverse];exact cq)) ah ?_ iE
    rintro _ _⟨rfl,rfl⟩
    rw[show dn.reverse++[y]=(y::dn).reverse from by simp]
    refine go ?_
    refine aK ih (y::dn) rfl (⟨List.nodup_cons.2 ⟨js,lO⟩,fun x hx=>by rcases List.mem_cons.1 hx with rfl|h;exact YH;exact cu x h⟩) (by show _-(y::dn).length<_;simp only[List.length_cons];omega) bQ ah
def vE(g:FuncId)(cap:List Value)(N:Nat)(Pre Post:List HP)(Q:List Mem→Prop)(hN:N≤1000000000)(hi:IterM g cap N Pre Post Q) :
  aq Tryz.prog 370 [.slice none 0 0,.func (.func g) #[] cap.toArray] Pre (fun r H=>∃xs,Q xs∧H=aI 101 4 r xs.length (mV xs)::Post):=by
 refine aq.aj Tryz.func370 Tryz.ntmps370 fun G F R hE=>?_
 refine aH rfl ?_
 refine bp zr zr bh ?_
 intro bs
 refine go ?_
 refine gT rfl ?_
 refine ak (ao.trans (ao.cons _ (bj 101 4 none _)) (BT bs [] (.slice none 0 0) _)) ?_
 refine qp (Fr:=F) (Pre:=fun _ _=>MI bs []::Pre) (Post:=?Po) rfl hE.1.1 rfl ?c (fun l r=>ao.refl _) ?gR
 case c =>
  intro l r
  refine hi l _ (fun dn=>MI bs dn) ?_
  intro dn k cq
  refine bN.C' zr zr ?_
  intro G2 F2 R2 hY
  unfold yU
  refine go ?_
  refine az zr zr zr bh ?_
  intro b5
  refine go ?_
  refine ak (ao.pick [1] rfl) ?_
  refine fm rfl hY ?_
  refine ak (ao.pick [2] rfl) ?_
  refine cI (FJ bs dn) ?_
  rintro v -
  refine cL 1 rfl ?_
  rintro va vc rfl
  refine go ?_
  refine bq 3 zr zr zr zr zr zr (go ?_)
  refine al (cs:=ef k) zr zr zr zr zr zr zr zr zr bh ?_
  intro row
  refine go ?_
  refine aO (mm:=1) (news:=ef k) 2 0 zr zr zr zr zr zr zr zr zr zr zr zr (Vw.ag rfl) rfl (by simp[ef,Value.oneCell']) ai (by show(_+1)*32≤_;omega) (fun _=>rfl) bh ?_
  intro v1
  rw[show mV dn++ef k=mV (dn++[k])from by simp[mV],show dn.length+1=(dn++[k]).length from by simp]
  refine aL 2 rfl ?_
  rintro Ih Ig rfl
  refine go ?_
  refine ak (ao.trans ah (BT bs (dn++[k]) (.slice Ih (dn++[k]).length Ig) _)) ?_
  refine eE hY rfl ah ⟨rfl,rfl⟩
 intro l r v H dE
 obtain⟨xs,hq,rfl⟩:=dE
 refine⟨_,_,_,rfl,by decide,?_⟩
 rw[hE.1.2]
 refine cI (FJ bs xs) ?_
 rintro w -
 refine go ?_
 refine lM hE Tryz.func370 rfl _ rfl ⟨xs,hq,rfl⟩ ?_
 exact(ao.drop _ _).trans (ao.perm (((List.perm_middle (a:=ag r (.deferred (some []))) (l₁:=Post) (l₂:=F)).cons _).trans (List.Perm.swap _ _ _)))
def zP(g:FuncId)(cap:List Value)(N:Nat)(Pre Post:List HP)(Q:List Mem→Prop)(hN:N≤1000000000)(hi:IterM g cap N Pre Post Q) :
  aq Tryz.prog 296 [.func (.func g) #[] cap.toArray] Pre (fun r H=>∃xs,Q xs∧H=aI 101 4 r xs.length (mV xs)::Post):=by
 refine aq.aj Tryz.func296 Tryz.ntmps296 fun G F R hE=>?_
 refine go ?_
 refine aF (vE g cap N Pre Post Q hN hi) ?_
 rintro w _⟨xs,hq,rfl⟩
 refine go ?_
 refine ad hE Tryz.func296 zr zr ⟨xs,hq,rfl⟩
end Go.Proofs.YtnkfkabokmcgoaaGreatDoor
