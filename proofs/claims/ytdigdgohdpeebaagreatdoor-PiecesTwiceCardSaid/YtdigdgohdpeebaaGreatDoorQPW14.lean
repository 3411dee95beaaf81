import Derived.Test.YtdigdgohdpeebaaGreatDoorQPW4
import Derived.Test.YtdigdgohdpeebaaGreatDoorQPW5
import Derived.Test.YtdigdgohdpeebaaGreatDoorQPW6
import Derived.Test.YtdigdgohdpeebaaGreatDoorQPW8
import Derived.Test.YtdigdgohdpeebaaGreatDoorQPW9
import Derived.Test.YtdigdgohdpeebaaGreatDoorQPW11
import Derived.Test.YtdigdgohdpeebaaGreatDoorQPW12
import Derived.Test.YtdigdgohdpeebaaGreatDoorQPW13
set_option linter.unusedSimpArgs false
set_option linter.unusedVariables false
set_option maxHeartbeats 4000000
set_option maxRecDepth 20000
set_option linter.defProp false
namespace Go.Proofs.YtdigdgohdpeebaaGreatDoor
open Go Go.SL
variable{A:Ab}{b:Bl}{jM:Bool}{d:Dg}{a n:Int}{cs j9:List TC}{ek ts:List Tk}{C bs:List UInt8}{e i j k u u' w:Nat}{t x:SJ}{c':TC}{z:Tk}{s:e8}
def Dp:∀(l:List (Int × List UInt8)) (f:Nat),(∀x∈l,1≤x.1∧x.1≤63∧x.2.length≤100000)→(eB l).length≤f→pM f (eB l)=l
 | [],f,_,_=>by cases f <;> rfl
 | (n,b)::l,f,h,hf=>by
  obtain⟨h1,h2,h3⟩:=h (n,b) (List.mem_cons_self ..)
  simp only at h1 h2 h3
  have e:eB ((n,b)::l)=UInt8.ofNat n.toNat::(uv b.length++(b++eB l)):=by simp[eB,mi]
  have hc:=JB (n:=b.length) ag (b++eB l)
  rw[e]at hf ⊢
  cases f with
  | zero=>simp at hf
  | succ f =>
   rw[List.length_cons,List.length_append,List.length_append]at hf
   unfold pM
   simp only
   rw[hc]
   simp only
   rw[if_pos ⟨trivial,by rw[List.length_append];omega⟩,List.take_left,List.drop_left]
   rw[Dp l f (fun x hx=>h x (List.mem_cons_of_mem _ hx)) ag]
   have:((UInt8.ofNat n.toNat).toNat:Int)=n:=by simp only[UInt8.toNat_ofNat'];omega
   rw[this]
def DT:∀(i:Int) (l:List (List UInt8)) (z:Int × List UInt8),z∈mU i l→i≤z.1∧z.1<i+l.length
 | i,[],z,h=>by cases h
 | i,y::l,z,h=>by
  rw[List.length_cons]
  rcases List.mem_cons.1 h with rfl|h
  ·exact⟨Int.le_refl _,by simp only;omega⟩
  ·have:=DT (i+1) l z h
   omega
def AH:∀(i:Int) (l:List (List UInt8)) (a:Int × List UInt8),a.1+1=i→((a::mU i l).getLast?.map (·.1))=some (i-1+l.length)
 | i,[],a,h=>by simp[mU];omega
 | i,y::l,a,h=>by
  rw[mU,List.getLast?_cons_cons,AH (i+1) l (i,y) rfl,List.length_cons]
  congr 1
  omega
def DS:∀(i:Int) (l:List (List UInt8)),(mU i l).map (·.2)=l
 | i,[]=>rfl
 | i,y::l=>by rw[mU,List.map_cons,DS (i+1) l]
def Jx(d:Dg):tY d.bs=d:=by unfold tY;rw[dif_pos d.len]
def su(k:UInt8)(d:Dg)(ls:List (List UInt8))(hl:ls.length≤20)(hx:∀x∈ls,x.length≤32):iW (jJ k d ls)=some (k,d,ls):=by
 have hlen:=hD k d ls hl hx
 have kQ:∀x∈tx k d ls,1≤x.1∧x.1≤63∧x.2.length≤100000:=fun x OD=>by
  unfold tx at OD
  rcases List.mem_cons.1 OD with rfl|OD
  ·exact⟨by simp only;omega,by simp only;omega,by simp⟩
  rcases List.mem_cons.1 OD with rfl|OD
  ·exact⟨by simp only;omega,by simp only;omega,by have:=d.len;simp only;omega⟩
  ·have h1:=DT 3 ls x OD
   have h2:=hx _ (xW 3 ls x OD)
   exact⟨ag,ag,ag⟩
 have ht:pw (jJ k d ls)=some (tx k d ls):=by
  unfold pw
  have h1:pM (jJ k d ls).length (jJ k d ls)=tx k d ls:=Dp _ _ kQ (Nat.le_refl _)
  rw[if_neg ag,h1,if_pos]
  unfold tx
  simp only[fH]
  rw[uW 3 ls 2 ag ag]
  rfl
 unfold iW
 rw[ht]
 unfold tx
 simp only
 have hg:(((1,[k])::(2,d.bs)::mU 3 ls:List (Int × List UInt8)).getLast?.map (·.1))=some ((2+(mU 3 ls).length:Nat):Int):=by
  rw[List.getLast?_cons_cons,AH 3 ls (2,d.bs) rfl,tw]
  congr 1
  all_goals omega
 rw[if_pos ⟨hg,rfl,d.len⟩,Jx,DS]
 rfl
def Ca{n:Nat}(h:n≤1048576):pY (uv n)=some n:=by
 unfold pY
 rw[uM ag]
 exact if_pos h
def EZ(d:Dg):gJ d.bs=some d:=by unfold gJ;rw[if_pos d.len,Jx]
def yI:∀l:List Dg,na (l.map Dg.bs)=some l
 | []=>rfl
 | d::l=>by
  rw[List.map_cons]
  unfold na
  rw[EZ,yI l]
def Nh(cs:List TC)(d:Dg):dk cs (Cu d)=DN cs d:=Ds (su 3 d [] (by simp) (by simp))
def xz(cs:List TC){x:Bl}(hr:bF x=true):dk cs (bT x)=DN cs x.d++[de x]:=by
 have hb:=eL hr
 have h1:iW (bT x)=some (1,x.d,gZ x):=su 1 x.d (gZ x) (by simp[gZ]) (kH x ag ag)
 unfold gZ at h1
 rw[vE h1,Ca ag,Ca ag,EZ]
 simp only
 have:(⟨x.d,((x.size.toNat:Nat):Int),((x.piece.toNat:Nat):Int),x.root⟩:Bl)=x:=by
  cases x
  simp only[Bl.mk.injEq,true_and,and_true]at hb ⊢
  omega
 rw[this,if_pos hr]
def xy(cs:List TC)(d:Dg)(hi:i≤1048576){p:List Dg}(hp:p.length≤10):dk cs (bL d i p)=cs.map fun y=>if y.x.d=d∧i<y.n∧p.length=eX y.n i then y.put i p else y:=by
 have h1:iW (bL d i p)=some (2,d,eF i p):=su 2 d (eF i p) (by simp[eF];omega) (kr i ag p)
 rw[vD h1]
 unfold mg
 rw[Ca hi,yI]
structure QJ(c c':TC):Prop where
 x:c.x=c'.x
 n:c.n=c'.n
 w:c.n≤c.ws.length*64
 w':c'.n≤c'.ws.length*64
 b:∀i,dF c.ws c.n i=dF c'.ws c'.n i
 p:∀i,dF c.ws c.n i=true→c.pf i=c'.pf i
def QJ.refl{c:TC}(h:c.n≤c.ws.length*64):QJ c c:=⟨rfl,rfl,h,h,fun _=>rfl,fun _ _=>rfl⟩
def lU{ws:List jl}{n:Nat}(hw:n≤ws.length*64)(hi:i<n)(j:Int):dF (kX ws i true) n j=if j=(i:Int)then true else dF ws n j:=by
 by_cases qY:0≤j∧j<(n:Int)
 ·obtain⟨j',rfl⟩:∃j':Nat,j=j':=⟨j.toNat,ag⟩
  rw[Pe hw hi ag]
  by_cases h:j'=i
  ·rw[if_pos h,if_pos ag]
  ·rw[if_neg h,if_neg ag]
 ·rw[qj ag,qj ag,if_neg ag]
def QJ.put{c:TC}(h:QJ c c')(hi:i<c.n)(l:List Dg):QJ (c.put i l) (c'.put i l):=by
 have gh:i<c'.n:=h.n ▸ hi
 refine⟨h.x,h.n,by unfold TC.put;simp only[iH];exact h.w,by unfold TC.put;simp only[iH];exact h.w',fun j=>?_,fun j hj=>?_⟩
 ·unfold TC.put
  simp only
  rw[lU h.w hi,lU h.w' gh,h.b j]
 ·unfold TC.put at hj ⊢
  simp only at hj ⊢
  rw[lU h.w hi]at hj
  by_cases he:j=(i:Int)
  ·rw[if_pos he,if_pos he]
  ·rw[if_neg he]at hj
   rw[if_neg he,if_neg he]
   exact h.p j hj
abbrev Aj(cs j9:List TC):Prop:=e7 QJ cs j9
def Aj.rm(h:Aj cs j9)(d:Dg):Aj (DN cs d) (DN j9 d):=e7.filter h fun x y wm=>by rw[wm.x]
def Co(x:Bl):(de x).n≤(de x).ws.length*64:=by
 unfold de
 simp only[List.length_replicate]
 omega
def DM{cs:List TC}(h:∀c∈cs,c.x.d≠d):DN cs d=cs:=by
 unfold DN
 exact List.filter_eq_self.2 fun c hc=>by simpa using h c hc
def Aj.begin{j9:List TC}(h:Aj cs j9){x:Bl}(jN:∀c∈j9,c.x.d≠x.d):Aj (DN cs x.d++[de x]) (j9++[de x]):=by
 rw[DM (fun c hc=>by
  obtain⟨i,hi⟩:=List.mem_iff_getElem?.1 hc
  obtain⟨y,hy,YX⟩:=h.left hi
  rw[YX.x]
  exact jN y (List.mem_of_getElem? hy))]
 exact h.snoc (QJ.refl (Co x))
def Aj.piece(h:Aj cs j9)(hn:(j9.map fun c=>c.x.d).Nodup)(hk:j9[k]?=some c')(hi:i<c'.n){p:List Dg}(hp:p.length=eX c'.n i) :
  Aj (cs.map fun y=>if y.x.d=c'.x.d∧i<y.n∧p.length=eX y.n i then y.put i p else y) (j9.set k (c'.put i p)):=by
 refine⟨by rw[List.length_map,List.length_set];exact h.1,fun j a b ha hb=>?_⟩
 rw[List.getElem?_map]at ha
 obtain⟨a0,ha0,rfl⟩:=Option.map_eq_some_iff.1 ha
 obtain⟨b0,rP,pG⟩:=h.left ha0
 by_cases A5:k=j
 ·subst A5
  rw[hk]at rP
  injection rP with rP
  subst rP
  rw[List.getElem?_set_self ((List.getElem?_eq_some_iff.1 hk).1)]at hb
  injection hb with hb
  subst hb
  rw[if_pos ⟨by rw[pG.x],by rw[pG.n];exact hi,by rw[pG.n];exact hp⟩]
  exact pG.put (by rw[pG.n];exact hi) p
 ·rw[List.getElem?_set_ne A5,rP]at hb
  injection hb with hb
  subst hb
  rw[if_neg (fun hc=>A5 ?_)]
  ·exact pG
  ·have e1:(j9.map fun c=>c.x.d)[j]?=some b0.x.d:=by rw[List.getElem?_map,rP];rfl
   have e2:(j9.map fun c=>c.x.d)[k]?=some c'.x.d:=by rw[List.getElem?_map,hk];rfl
   exact((List.getElem?_inj ((List.getElem?_eq_some_iff.1 e2).1) hn).1 (by rw[e1,e2,← pG.x,hc.1]))
def jK(c:TC):List Nat:=(List.range c.n).filter fun i=>dF c.ws c.n (i:Int)
def pn(c:TC):List (List UInt8):=bT c.x::(jK c).map fun i=>bL c.x.d i ((c.pf i).getD [])
def EE{s:e8}{c:TC}(h:∀i:Nat,i<c.n→dF c.ws c.n (i:Int)=true→(eu s c.x i).2=0∧dw c.x i (eu s c.x i).1 ((c.pf i).getD [])=true):∀k,k≤c.n →
  iI s c k=(c,bT c.x::((List.range k).filter fun i:Nat=>dF c.ws c.n (i:Int)).map fun i:Nat=>bL c.x.d i ((c.pf i).getD []))
 | 0,_=>rfl
 | k+1,hk=>by
  rw[mj,EE h k ag,List.range_succ,List.filter_append,List.map_append]
  unfold ld
  by_cases hh:dF c.ws c.n (k:Int)=true
  ·obtain⟨h1,h2⟩:=h k ag hh
   simp only
   rw[if_pos hh,if_neg (by rw[h1,h2];simp)]
   simp[hh]
  ·simp only
   rw[if_neg hh]
   simp[hh]
def mf(c z:TC)(l:List Nat):TC:=l.foldl (fun z i=>z.put i ((c.pf i).getD [])) z
def IW(c:TC):∀(l:List Nat) (z:TC),(mf c z l).x=z.x∧(mf c z l).n=z.n∧(mf c z l).ws.length=z.ws.length
 | [],z=>⟨rfl,rfl,rfl⟩
 | i::l,z=>by
  obtain⟨h1,h2,h3⟩:=IW c l (z.put i ((c.pf i).getD []))
  exact⟨h1,h2,h3.trans (iH _ _ _)⟩
def AJ(c:TC):∀(l:List Nat) (z:TC),z.n≤z.ws.length*64→(∀i∈l,i<z.n)→∀j:Int,dF (mf c z l).ws (mf c z l).n j=(decide (∃i∈l,j=(i:Int)) || dF z.ws z.n j)
 | [],z,_,_,j=>by simp[mf]
 | i::l,z,hw,hl,j=>by
  have hi:=hl i (List.mem_cons_self ..)
  have ih:=AJ c l (z.put i ((c.pf i).getD [])) (by unfold TC.put;simp only[iH];exact hw) (fun a ha=>hl a (List.mem_cons_of_mem _ ha)) j
  show dF (mf c (z.put i ((c.pf i).getD [])) l).ws (mf c (z.put i ((c.pf i).getD [])) l).n j=_
  rw[ih]
  unfold TC.put
  simp only
  rw[lU hw hi]
  by_cases he:j=(i:Int)
  ·simp[he]
  ·simp[he]
def DY(c:TC):∀(l:List Nat) (z:TC) (j:Nat),j∈l→(mf c z l).pf j=some ((c.pf j).getD [])
 | [],z,j,h=>by cases h
 | i::l,z,j,h=>by
  by_cases uG:j∈l
  ·exact DY c l _ j uG
  ·rcases List.mem_cons.1 h with rfl|h
   ·have:∀(l:List Nat) (z:TC),j ∉ l→(mf c z l).pf j=z.pf j:=by
     intro l
     induction l with
     | nil=>intro z _;rfl
     | cons a l ih =>
      intro z hn
      rw[List.mem_cons,not_or]at hn
      show(mf c (z.put a ((c.pf a).getD [])) l).pf j=_
      rw[ih _ hn.2]
      unfold TC.put
      simp only
      rw[if_neg (fun e=>hn.1 ag)]
    show(mf c (z.put j ((c.pf j).getD [])) l).pf j=_
    rw[this l _ uG]
    unfold TC.put
    simp
   ·exact absurd h uG
def vM{cs:List TC}{c:TC}(jN:∀y∈cs,y.x.d≠c.x.d)(qX:∀i:Nat,i∈jK c→((c.pf i).getD []).length=eX c.n i∧((c.pf i).getD []).length≤10)(hc:c.n≤1048576):∀(l:List Nat) (z:TC),(∀i∈l,i∈jK c)→z.x=c.x→z.n=c.n →
  (l.map fun i=>bL c.x.d i ((c.pf i).getD [])).foldl dk (cs++[z])=cs++[mf c z l]
 | [],z,_,_,_=>rfl
 | i::l,z,hl,hx,hn=>by
  have hi:=hl i (List.mem_cons_self ..)
  have qY:i<c.n:=List.mem_range.1 (List.mem_filter.1 hi).1
  obtain⟨h1,h2⟩:=qX i hi
  rw[List.map_cons,List.foldl_cons,xy _ _ ag h2,List.map_append]
  have e1:cs.map (fun y=>if y.x.d=c.x.d∧i<y.n∧((c.pf i).getD []).length=eX y.n i then y.put i ((c.pf i).getD [])else y)=cs:=by
   conv=>rhs;rw[← List.map_id cs]
   refine List.map_congr_left fun y hy=>?_
   rw[if_neg (fun e=>jN y hy e.1)]
   rfl
  rw[e1,List.map_cons,List.map_nil,if_pos ⟨by rw[hx],by rw[hn];exact qY,by rw[hn];exact h1⟩]
  exact vM jN qX hc l (z.put i ((c.pf i).getD [])) (fun a ha=>hl a (List.mem_cons_of_mem _ ha)) hx hn
def Kx{cs:List TC}{c:TC}(jN:∀y∈cs,y.x.d≠c.x.d)(hr:bF c.x=true)(hn:c.n=(cq c.x).toNat)(hw:c.n≤c.ws.length*64)(hc:c.n≤1048576)(hp:∀i:Nat,dF c.ws c.n (i:Int)=true→∃p,c.pf i=some p∧p.length=eX c.n i∧p.length≤10) :
  ∃c',(pn c).foldl dk cs=cs++[c']∧QJ c' c:=by
 have e9:∀i:Nat,i∈jK c→i<c.n∧dF c.ws c.n (i:Int)=true:=fun i hi=>⟨List.mem_range.1 (List.mem_filter.1 hi).1,(List.mem_filter.1 hi).2⟩
 unfold pn
 rw[List.foldl_cons,xz _ hr,DM jN]
 have RI:(de c.x).n=c.n:=hn.symm
 rw[vM jN (fun i hi=>by
  obtain⟨p,h1,h2,h3⟩:=hp i (e9 i hi).2
  rw[h1]
  exact⟨h2,h3⟩) hc (jK c) (de c.x) (fun i hi=>hi) rfl RI]
 obtain⟨e1,e2,e3⟩:=IW c (jK c) (de c.x)
 have u7:=AJ c (jK c) (de c.x) (Co c.x) (fun i hi=>by rw[RI];exact(e9 i hi).1)
 have wO:∀j,dF (de c.x).ws (de c.x).n j=false:=fun j=>E0 _ _ _
 have hb:∀j,dF (mf c (de c.x) (jK c)).ws (mf c (de c.x) (jK c)).n j=dF c.ws c.n j:=fun j=>by
  rw[u7 j,wO j,Bool.or_false]
  by_cases qY:0≤j∧j<(c.n:Int)
  ·obtain⟨j',rfl⟩:∃j':Nat,j=j':=⟨j.toNat,ag⟩
   cases hh:dF c.ws c.n (j':Int)with
   | true=>exact decide_eq_true ⟨j',List.mem_filter.2 ⟨List.mem_range.2 ag,hh⟩,rfl⟩
   | false =>
    refine decide_eq_false ?_
    rintro⟨i,hi,A6⟩
    have:=(e9 i hi).2
    rw[← A6,hh]at this
    cases this
  ·rw[qj ag]
   refine decide_eq_false ?_
   rintro⟨i,hi,A6⟩
   have:=(e9 i hi).1
   omega
 refine⟨_,rfl,e1,e2.trans RI,by rw[e2,e3];exact Co c.x,hw,hb,fun j hj=>?_⟩
 rw[hb]at hj
 by_cases qY:0≤j∧j<(c.n:Int)
 ·obtain⟨j',rfl⟩:∃j':Nat,j=j':=⟨j.toNat,ag⟩
  obtain⟨p,h1,_⟩:=hp j' hj
  rw[DY c (jK c) (de c.x) j' (List.mem_filter.2 ⟨List.mem_range.2 ag,hj⟩),h1]
  rfl
 ·rw[qj ag]at hj;cases hj
def zv(c:TC):Prop:=c.ws.length=(c.n+63)/64∧∀j,c.n≤j→(c.ws.getD (j/64) 0#64).getLsbD (j%64)=false
def zv.fresh(x:Bl):zv (de x):=by
 unfold zv de
 refine⟨by simp only[List.length_replicate],fun j _=>?_⟩
 simp only
 rw[List.getD_eq_getElem?_getD,List.getElem?_replicate]
 split <;> simp
def zv.put{c:TC}(h:zv c)(hi:i<c.n)(l:List Dg):zv (c.put i l):=by
 obtain⟨h1,h2⟩:=h
 unfold zv TC.put
 simp only[iH]
 refine⟨h1,fun j hj=>?_⟩
 have lB:i/64<c.ws.length:=by omega
 unfold kX
 rw[if_pos rfl]
 by_cases he:j/64=i/64
 ·rw[he,List.getD_eq_getElem?_getD,List.getElem?_set_self lB,Option.getD_some,BitVec.getLsbD_or,CD _ _ ag ag]
  have:=h2 j hj
  rw[he]at this
  rw[this,decide_eq_false ag]
  rfl
 ·rw[List.getD_eq_getElem?_getD,List.getElem?_set_ne (fun e=>he e.symm),← List.getD_eq_getElem?_getD]
  exact h2 j hj
def zv.tell{cs:List TC}(h:∀c∈cs,zv c)(b:List UInt8):∀c∈dk cs b,zv c:=by
 have hp:∀d m l,∀c∈mg cs d m l,zv c:=fun d m l c hc=>by
  unfold mg at hc
  split at hc
  ·obtain⟨y,hy,rfl⟩:=List.mem_map.1 hc
   split
   ·rename_i hh
    exact(h y hy).put hh.2.1 _
   ·exact h y hy
  ·exact h c hc
 have hr:∀d,∀c∈DN cs d,zv c:=fun d c hc=>h c (List.mem_filter.1 hc).1
 unfold dk
 split
 ·exact h
 ·split
  ·exact hr _
  ·split
   ·split
    ·split
     ·split
      ·intro c hc
       rcases List.mem_append.1 hc with hc|hc
       ·exact hr _ c hc
       ·rw[List.mem_singleton.1 hc];exact zv.fresh _
      ·exact h
     ·exact h
    ·split
     ·exact hp _ _ _
     ·exact h
   ·split
    ·exact hp _ _ _
    ·exact h
   ·exact h
def zv.told:∀(ls:List (List UInt8)) (cs:List TC),(∀c∈cs,zv c)→∀c∈ls.foldl dk cs,zv c
 | [],cs,h=>h
 | b::ls,cs,h=>zv.told ls _ (zv.tell h b)
def wT(ts:List Tk):Nat:=(ts.map fun y=>1+(jK y.c).length).sum
structure CS(k w u:Nat)(s:e8)(ts:List Tk):Prop where
 dq:DQ k s.A
 brk:s.brk=false
 bq:∀z∈s.bq,z.1=z.2.d∧∃y∈ts,y.x=z.2
 Ke:∀y∈ts,gK s.bq y.x.d=some y.x
 keys:(s.bq.map (·.1)).Nodup
 bl:s.bq.length≤w
 ok:∀y∈ts,bF y.x=true∧y.x.size≤600∧(y.n:Int)=cq y.x∧kJ y.c
 nd:(ts.map fun y=>y.x.d).Nodup
 has:∀y∈ts,(vw s.A (iz y.x.d)).isSome=true∧vw s.A (pA y.x.d)=none
 LM:∀y∈ts,∀i:Nat,dF y.ws y.n i=true→∃(c:List UInt8) (a n:Int) (p:List Dg),vw s.A (iz y.x.d)=some c∧dJ y.x i=some (a,n)∧a+n≤c.length∧y.pf i=some p∧dw y.x i ((c.drop a.toNat).take n.toNat) p=true
 wt:wT ts≤w
 kj:s.A.aw.length≤u
 ns:∀y∈ts,zv y.c
structure CJ(j:Nat)(x:SJ)(cs:List TC):Prop where
 jr:∃(C:List UInt8) (n:Nat) (ls:List (List UInt8)),vw x.1.A cS=some C∧JC C n ls∧x.2=⟨n,((ls.flatMap aZ).length:Int),((ls.flatMap aZ).length:Int),false⟩∧n≤1+j∧ls.length≤j∧(∀b∈ls,b.length≤900)∧Aj (ls.foldl dk []) cs
def CS.mono{k' w':Nat}(h:CS k w u s ts)(hk:k≤k')(hw:w≤w')(hu:u≤u'):CS k' w' u' s ts :=
 ⟨h.dq.mono hk,h.brk,h.bq,h.Ke,h.keys,by have:=h.bl;omega,h.ok,h.nd,h.has,h.LM,by have:=h.wt;omega,by have:=h.kj;omega,h.ns⟩
def CJ.mono{j':Nat}(h:CJ j x cs)(hj:j≤j'):CJ j' x cs:=by
 obtain⟨C,n,ls,h1,h2,h3,h4,h5,h6,h7⟩:=h
 exact⟨C,n,ls,h1,h2,h3,ag,ag,h6,h7⟩
def my:∀(ls:List (List UInt8)),(∀b∈ls,b.length≤900)→(ls.flatMap aZ).length≤910*ls.length
 | [],_=>by simp
 | b::ls,h=>by
  have h1:=my ls fun x hx=>h x (List.mem_cons_of_mem _ hx)
  have h2:=n8 b (by have:=h b (List.mem_cons_self ..);omega)
  have h3:=h b (List.mem_cons_self ..)
  rw[List.flatMap_cons,List.length_append,List.length_cons]
  omega
def jZ(d:Dg):iz d≠cS:=gT kS d
def wR(d:Dg):pA d≠cS:=gT kB d
def CS.other{B:Ab}(h:CS k w u s ts)(hB:HA B)(hz:Cz k B)(hr:B.room=s.A.room)(hn:B.names.length=s.A.names.length)(hv:vw B=eK (vw s.A) cS (some C))(hC:C.length≤100000)(hu:B.aw.length≤u'):CS k w u' ⟨B,s.bq,s.brk⟩ ts:=by
 have hS:∀d,vw B (iz d)=vw s.A (iz d):=fun d=>by rw[hv,dH _ _ (jZ d)]
 have hBd:∀d,vw B (pA d)=vw s.A (pA d):=fun d=>by rw[hv,dH _ _ (wR d)]
 refine⟨h.dq.next hB hz hr (by rw[hn];exact h.dq.Qs) (fun n c hc=>?_),h.brk,h.bq,h.Ke,h.keys,h.bl,h.ok,h.nd,fun y hy=>?_,fun y hy i hi=>?_,h.wt,hu,h.ns⟩
 ·rw[hv]at hc
  by_cases hp:n=cS
  ·subst hp
   rw[dp]at hc
   injection hc with hc
   subst hc
   exact .inr (.inl ⟨rfl,hC⟩)
  ·rw[dH _ _ hp]at hc
   exact .inl hc
 ·show(vw B (iz y.x.d)).isSome=true∧vw B (pA y.x.d)=none
  rw[hS,hBd];exact h.has y hy
 ·show ∃c a n p,vw B (iz y.x.d)=some c∧_
  rw[hS];exact h.LM y hy i hi
def CS.note{y:SJ}{b:List UInt8}(h:CS k w u x.1 ts)(hj:CJ j x cs)(hk:k≤190)(sV:j<100)(hb:b.length≤900)(hR:iA (jD b) x e y) :
  e=0∧CS k w (u+5) y.1 ts∧(∀j9,(∀ls,Aj (ls.foldl dk []) cs→Aj ((ls++[b]).foldl dk []) j9)→CJ (j+1) y j9)∧y.1.bq=x.1.bq∧(∀n,n≠cS→vw y.1.A n=vw x.1.A n):=by
 obtain⟨C,n,ls,h1,h2,h3,h4,h5,h6,h7⟩:=hj.jr
 have hg:=AP hR
 obtain⟨⟨A,bq,brk⟩,jn⟩:=x
 simp only at h1 h3
 subst h3
 have hdq:DQ k A:=h.dq
 have zU:=hdq.used
 have Jj:=hdq.room
 have nX:=my ls h6
 have py:=n8 b ag
 obtain⟨r1,r2,r3,⟨C',r4,r5⟩,r6,r7,r8,r9,r10,r11⟩:=G7 (A:=A) hdq.ha hdq.cz h1 h2 rfl ag ag ag ag hR
 have lH:=r5.len
 have adF:=my (ls++[b]) (fun x hx=>by
  rcases List.mem_append.1 hx with hx|hx
  ·exact h6 x hx
  ·rw[List.mem_singleton.1 hx];exact hb)
 rw[List.length_append,List.length_singleton]at adF
 obtain⟨⟨A',aeK,aeJ⟩,jn'⟩:=y
 simp only at r2 r3 r4 r6 r7 r8 r9 r10 r11
 subst r7 r8 r9
 have W7:=h.kj
 have z8:=hg.1
 simp only at W7 z8
 refine⟨r1,h.other r2 r3 r6 r10 r4 ag ag,fun j9 pE=>⟨C',n+1,ls++[b],by show vw A' cS=_;rw[r4,dp],r5,rfl,ag,by simp;omega,fun x hx=>?_,pE ls h7⟩,rfl,fun m hm=>?_⟩
 ·rcases List.mem_append.1 hx with hx|hx
  ·exact h6 x hx
  ·rw[List.mem_singleton.1 hx];exact hb
 ·show vw A' m=vw A m
  rw[r4,dH _ _ hm]
def Fu{l:List (Dg × Bl)}(h:∀z∈l,z.2.size≤600):(l.map (·.2.size)).sum≤600*(l.length:Int):=by
 induction l with
 | nil=>simp
 | cons z l ih =>
  have h1:=ih fun x hx=>h x (List.mem_cons_of_mem _ hx)
  have h2:=h z (List.mem_cons_self ..)
  rw[List.map_cons,List.sum_cons,List.length_cons]
  omega
def CS.jR(h:CS k w u s ts):jR s≤1000*(k:Int)+600*(w:Int):=by
 have h1:=h.dq.rF
 have h2:=Fu (l:=s.bq) (fun z hz=>by
  obtain⟨_,y,hy,WY⟩:=h.bq z hz
  rw[← WY];exact(h.ok y hy).2.1)
 have h3:=h.bl
 unfold Proofs.YtdigdgohdpeebaaGreatDoor.jR
 omega
def CS.JO{ts:List Tk}(h:CS k w u s ts)(jN:∀z∈ts,z.x.d≠d):gK s.bq d=none:=by
 cases hx:gK s.bq d with
 | none=>rfl
 | some z =>
  obtain⟨h1,y,hy,h2⟩:=h.bq _ (PD hx)
  simp only at h1 h2
  exact absurd (by rw[h2];exact h1.symm) (jN y hy)
def CS.Yi{q:Int}{t:e8}{ts:List Tk}(h:CS k w u s ts)(hk:k≤190)(jN:∀z∈ts,z.x.d≠b.d)(hq:bF b=true→1000*(k:Int)+600*(w:Int)+b.size≤q)(hR:dU q b s e t) :
    (bF b=false∧e=1∧t=s)∨(bF b=true∧(vw s.A (pA b.d)).isSome=true∧e=5∧t=s) ∨
    (bF b=true∧vw s.A (pA b.d)=none∧e=0∧HA t.A∧t.brk=false∧t.bq=s.bq++[(b.d,b)]∧(∀n,vw t.A n=if n=iz b.d then some ((vw s.A n).getD [])else vw s.A n)∧t.A.names.length≤s.A.names.length+1∧t.A.room=s.A.room∧Cz (k+1) t.A):=by
  have hn:=h.JO jN
  have zU:=h.jR
  have Lq:=Cz.begin (h.dq.cz.mono (fun _ x=>x) (Nat.le_succ k)) h.dq.ha h.brk (by have:=h.dq.Qs;omega) ag hR
  have lG:=h.dq.Qs
  cases hr:bF b with
  | false =>
    unfold dU at hR
    rw[if_neg (by rw[h.brk];simp),if_pos hr]at hR
    exact .inl ⟨rfl,hR⟩
  | true =>
  have hq:=hq hr
  right
  cases hB:vw s.A (pA b.d)with
  | some c =>
    unfold dU at hR
    rw[if_neg (by rw[h.brk];simp),if_neg (by rw[hr];simp),if_pos (.inr (by rw[nc,show vw s.A (fB b)=some c from hB];rfl))]at hR
    exact .inl ⟨rfl,rfl,hR⟩
  | none =>
  right
  cases hS:vw s.A (iz b.d)with
  | none =>
    obtain⟨r1,r2,r3,r4,r5,r6,r7⟩:=Ga h.dq.ha h.brk hr hn hB ag hS ag hR
    exact⟨rfl,rfl,r1,r2,r3,r4,fun n=>by
      rw[r5 n]
      show(if n=iz b.d then _ else _)=_
      split
      · rename_i hx;rw[hx,hS];rfl
      · rfl,ag,r7,Lq⟩
  | some c =>
    unfold dU at hR
    rw[if_neg (by rw[h.brk];simp),if_neg (by rw[hr];simp),if_neg (by rw[hn,nc,show vw s.A (fB b)=none from hB];simp),if_neg ag,if_pos (by rw[nc,show vw s.A (fS b)=some c from hS];rfl)]at hR
    obtain⟨rfl,rfl⟩:=hR
    exact⟨rfl,rfl,rfl,h.dq.ha,h.brk,rfl,fun n=>by
      split
      · rename_i hx;rw[hx];show vw s.A (iz b.d)=_;rw[hS];rfl
      · rfl,by simp only;omega,rfl,Lq⟩
def KJ{c:TC}(h:∀i,dF c.ws c.n i=false):jK c=[]:=by
 unfold jK
 exact List.filter_eq_nil_iff.2 fun i _=>by rw[h];simp
def QK(ts:List Tk)(y:Tk):wT (ts++[y])=wT ts+(1+(jK y.c).length):=by unfold wT;simp
def Fh(ts:List Tk)(y:Tk):gu (ts++[y])=gu ts++[y.c]:=by unfold gu;simp
def FA(x:Bl):kJ (de x):=by
 have:=oe x
 unfold kJ de
 simp only[List.length_replicate]
 exact⟨ag,ag,ag,fun k l h=>by cases h⟩
def CS.add{t:e8}{ts:List Tk}{y:Tk}(h:CS k w u s ts)(jN:∀z∈ts,z.x.d≠b.d)(hr:bF b=true)(hs:b.size≤600)(AV:y.x=b)(Gg:(y.n:Int)=cq b)(hyo:kJ y.c)(WY:zv y.c){c0:List UInt8}(Aa:vw s.A (iz b.d)=some c0→c0.length≤1000)(hB:vw s.A (pA b.d)=none)(h1:HA t.A)(h2:t.brk=false)(h3:t.bq=s.bq++[(b.d,b)])(h4:∀n,vw t.A n=if n=iz b.d then some ((vw s.A n).getD [])else vw s.A n)(h5:t.A.names.length≤s.A.names.length+1)(h6:t.A.room=s.A.room)(h7:Cz (k+1) t.A)(hu:t.A.aw.length≤u')(adP:∀i:Nat,dF y.ws y.n i=true→∃(c:List UInt8) (a n:Int) (p:List Dg),vw t.A (iz y.x.d)=some c∧dJ y.x i=some (a,n)∧a+n≤c.length∧y.pf i=some p∧dw y.x i ((c.drop a.toNat).take n.toNat) p=true)(hw:1+(jK y.c).length+wT ts≤w+1+(jK y.c).length):CS (k+1) (w+1+(jK y.c).length) u' t (ts++[y]):=by
 have hn:=h.JO jN
 have qf:∀d,d≠b.d→vw t.A (iz d)=vw s.A (iz d):=fun d hd=>by rw[h4,if_neg (fun e=>hd (Ct e))]
 have hkB:∀d,vw t.A (pA d)=vw s.A (pA d):=fun d=>by rw[h4,if_neg (fun e=>kF _ _ e.symm)]
 refine⟨h.dq.next h1 h7 h6 (by have:=h.dq.Qs;omega) (fun n c hc=>?_),h2,fun z hz=>?_,fun z hz=>?_,?_,?_,fun z hz=>?_,?_,fun z hz=>?_,fun z hz i hi=>?_,?_,hu,fun z hz=>?_⟩
 ·rw[h4]at hc
  by_cases hx:n=iz b.d
  ·rw[if_pos hx]at hc
   injection hc with hc
   cases hv:vw s.A n with
   | some c1=>rw[hv]at hc;exact .inl (by rw[← hc];rfl)
   | none =>
    rw[hv]at hc
    exact .inr (.inr (.inl ⟨⟨_,hx⟩,by rw[← hc];simp⟩))
  ·rw[if_neg hx]at hc
   exact .inl hc
 ·rw[h3]at hz
  rcases List.mem_append.1 hz with hz|hz
  ·obtain⟨g1,y',WZ,g2⟩:=h.bq z hz
   exact⟨g1,y',List.mem_append_left _ WZ,g2⟩
  ·rw[List.mem_singleton.1 hz]
   exact⟨rfl,y,by simp,AV⟩
 ·rw[h3,Fs _ _ _ hn]
  rcases List.mem_append.1 hz with hz|hz
  ·rw[if_neg (jN z hz)];exact h.Ke z hz
  ·rw[List.mem_singleton.1 hz,AV,if_pos rfl]
 ·rw[h3,List.map_append,List.nodup_append]
  refine⟨h.keys,by simp,fun a ha c hc=>?_⟩
  simp only[List.map_cons,List.map_nil,List.mem_singleton]at hc
  rintro rfl
  exact Si hn (hc ▸ ha)
 ·rw[h3,List.length_append,List.length_singleton]
  have:=h.bl;omega
 ·rcases List.mem_append.1 hz with hz|hz
  ·exact h.ok z hz
  ·rw[List.mem_singleton.1 hz,AV]
   exact⟨hr,hs,Gg,hyo⟩
 ·rw[List.map_append,List.nodup_append]
  refine⟨h.nd,by simp,fun a ha c hc=>?_⟩
  obtain⟨z,hz,rfl⟩:=List.mem_map.1 ha
  simp only[List.map_cons,List.map_nil,List.mem_singleton]at hc
  rw[hc,AV]
  exact jN z hz
 ·rcases List.mem_append.1 hz with hz|hz
  ·rw[hkB,qf _ (jN z hz)];exact h.has z hz
  ·rw[List.mem_singleton.1 hz,AV,hkB,h4,if_pos rfl]
   exact⟨rfl,hB⟩
 ·rcases List.mem_append.1 hz with hz|hz
  ·rw[qf _ (jN z hz)];exact h.LM z hz i hi
  ·rw[List.mem_singleton.1 hz]at hi ⊢
   exact adP i hi
 ·rw[QK];have:=h.wt;omega
 ·rcases List.mem_append.1 hz with hz|hz
  ·exact h.ns z hz
  ·rw[List.mem_singleton.1 hz];exact WY
def sI(x:Bl)(hs:x.size≤1000000000000)(hp:x.piece≤1000000000000):(bT x).length≤900:=by
 have:=hD 1 x.d (gZ x) (by simp[gZ]) (kH x hs hp)
 unfold bT;omega
def Pr(d:Dg):(Cu d).length≤900:=by
 have:=hD 3 d [] (by simp) (by simp)
 unfold Cu;omega
def xZ(d:Dg)(i:Nat)(hi:i≤1000000000000)(p:List Dg)(hp:p.length≤10):(bL d i p).length≤900:=by
 have:=hD 2 d (eF i p) (by simp[eF];omega) (kr i hi p)
 unfold bL
 unfold eF at this
 omega
def CJ.sto{t:e8}(h:CJ j x cs)(hv:vw t.A cS=vw x.1.A cS):CJ j (t,x.2) cs:=by
 obtain⟨C,n,ls,h1,h2,h3,h4⟩:=h
 exact⟨C,n,ls,by show vw t.A cS=_;rw[hv];exact h1,h2,h3,h4⟩
def vb(ls:List (List UInt8))(b:List UInt8):(ls++[b]).foldl dk []=dk (ls.foldl dk []) b:=by rw[List.foldl_append];rfl
def Py(ts:List Tk):(gu ts).map (fun c=>c.x.d)=ts.map fun y=>y.x.d:=by unfold gu;rw[List.map_map];rfl
def Ym{ts:List Tk}(h:(ts.any fun y=>decide (y.x.d=d))=false):∀z∈ts,z.x.d≠d:=fun z hz e=>by
 have:=List.any_eq_false.1 h z hz
 exact this (decide_eq_true e)
def CS.begin(h:CS k w u x.1 ts)(hj:CJ j x (gu ts))(hk:k≤180)(hw:w≤150)(sV:j<100)(hs:bF b=true→b.size≤600)(hR:MH 1048576 b ts x false e ek jM t) :
  jM=false∧CS (k+1) (w+1) (u+20) t.1 ek∧CJ (j+1) t (gu ek)∧e=(if(ts.any fun y=>decide (y.x.d=b.d))=true then 5 else if bF b=false then 1 else if(vw x.1.A (pA b.d)).isSome=true then 5 else 0) ∧
   (e≠0→ek=ts∧t=x)∧(e=0→gu ek=gu ts++[de b]∧∀n,n≠cS→vw t.1.A n=if n=iz b.d then some ((vw x.1.A n).getD [])else vw x.1.A n):=by
 have hm:=h.mono (k':=k+1) (w':=w+1) (u':=u+20) ag ag ag
 rcases hR with⟨h1,_⟩|⟨_,mq,rfl,rfl,rfl,rfl⟩|⟨_,mq,rfl,hR,uF⟩
 ·cases h1
 ·exact⟨rfl,hm,hj.mono ag,by rw[if_pos mq],fun _=>⟨rfl,rfl⟩,fun h0=>by cases h0⟩
 have jN:=Ym mq
 rw[if_neg (by rw[mq];simp)]
 obtain⟨e1,x1,⟨nw,pF⟩,c1⟩:=hR
 have hg:=ln nw
 have hg0:=hg.1
 have cL:=h.kj
 rcases h.Yi ag jN (fun hr=>by have:=hs hr;omega) nw with⟨hr,rfl,hx⟩|⟨hr,hB,rfl,hx⟩|⟨hr,hB,rfl,g1,g2,g3,g4,g5,g6,g7⟩
 ·rw[if_pos hr]
  rcases c1 with⟨_,rfl,rfl⟩|⟨h0,_⟩
  ·rcases uF with⟨_,rfl⟩|⟨h0,_⟩
   ·have:t=x:=Prod.ext hx pF
    subst this
    exact⟨rfl,hm,hj.mono ag,rfl,fun _=>⟨rfl,rfl⟩,fun h0=>by cases h0⟩
   ·cases h0
  ·cases h0
 ·rw[if_neg (by rw[hr];simp),if_pos hB]
  rcases c1 with⟨_,rfl,rfl⟩|⟨h0,_⟩
  ·rcases uF with⟨_,rfl⟩|⟨h0,_⟩
   ·have:t=x:=Prod.ext hx pF
    subst this
    exact⟨rfl,hm,hj.mono ag,rfl,fun _=>⟨rfl,rfl⟩,fun h0=>by cases h0⟩
   ·cases h0
  ·cases h0
 ·rw[if_neg (by rw[hr];simp),if_neg (by rw[hB];simp)]
  rcases c1 with⟨bZ,_⟩|⟨_,gw⟩
  ·exact absurd rfl bZ
  have Jr:=eL hr
  obtain⟨y,hy⟩:∃y:Tk,y.c=de b:=⟨⟨0,0,0,b,(cq b).toNat,List.replicate (((cq b).toNat+63)/64) 0#64,fun _=>none⟩,rfl⟩
  have yK:∀y:Tk,y.c=de b→CS (k+1) (w+1) (u+10) x1.1 (ts++[y]):=fun y hy=>by
   have Aa:=oe b
   have e1:y.x=b:=congrArg TC.x hy
   have e2:y.n=(cq b).toNat:=congrArg TC.n hy
   have e3:y.ws=List.replicate (((cq b).toNat+63)/64) 0#64:=congrArg TC.ws hy
   have aa5:∀i,dF y.c.ws y.c.n i=false:=fun i=>by rw[hy];exact E0 _ _ _
   have hp:jK y.c=[]:=KJ aa5
   have:=h.add (k:=k) (u':=u+10) (y:=y) (c0:=[]) jN hr (hs hr) e1 (by rw[e2];omega) (by rw[hy];exact FA b) (by rw[hy];exact zv.fresh b) (fun _=>by simp) hB g1 g2 g3 g4 g5 g6 g7 ag (fun i hi=>absurd hi (by
    have:=aa5 i
    show ¬dF y.c.ws y.c.n i=true
    rw[this];simp)) (by rw[hp];have:=h.wt;simp only[List.length_nil];omega)
   rw[hp]at this
   exact this
  have abk:CJ j x1 (gu ts):=by
   have:=hj.sto (t:=x1.1) (by rw[g4,if_neg (fun e=>jZ b.d e.symm)])
   rw[← pF]at this
   exact this
  obtain⟨rfl,n1,n2,n3,n4⟩:=(yK y hy).note abk ag sV (sI b ag ag) gw
  rcases uF with⟨bZ,_⟩|⟨_,y',WZ,rfl⟩
  ·exact absurd rfl bZ
  obtain⟨_,m1,m2,m3,m4⟩:=(yK y' WZ).note abk ag sV (sI b ag ag) gw
  refine⟨by decide,m1.mono (Nat.le_refl _) (Nat.le_refl _) ag,m2 _ (fun ls Jo=>?_),rfl,fun h0=>absurd rfl h0,fun _=>⟨by rw[Fh,WZ],fun n hn=>by rw[m4 n hn,g4]⟩⟩
  rw[vb,xz _ hr,Fh,WZ]
  exact Jo.begin fun c hc=>by
   obtain⟨z,hz,rfl⟩:=List.mem_map.1 hc
   exact jN z hz
def Dw{x:Bl}{i i' a' n':Int}(h:dJ x i=some (a,n))(h':dJ x i'=some (a',n'))(bZ:i≠i'):a+n≤a'∨a'+n'≤a:=by
 obtain⟨_,_,_,_,_,g1,g2,gr⟩:=m6 h
 obtain⟨_,_,_,_,_,g1',g2',_⟩:=m6 h'
 have hp:=eL gr
 rcases Int.lt_or_gt_of_ne bZ with hl|hl
 ·left
  have h1:(i+1)*x.piece≤i'*x.piece:=Int.mul_le_mul_of_nonneg_right ag ag
  rw[Int.add_mul,Int.one_mul]at h1
  omega
 ·right
  have h1:(i'+1)*x.piece≤i*x.piece:=Int.mul_le_mul_of_nonneg_right ag ag
  rw[Int.add_mul,Int.one_mul]at h1
  omega
def M1(c:List UInt8)(a:Nat)(b:List UInt8):((bN c a b).drop a).take b.length=b:=by
 refine List.ext_getElem? fun j=>?_
 rw[List.getElem?_take]
 split
 ·rename_i hj
  rw[List.getElem?_drop,J8 c a b (a+j) ag ag,show a+j-a=j by omega]
 ·rename_i hj
  rw[List.getElem?_eq_none ag]
def Df{c:List UInt8}{a:Nat}{b:List UInt8}{a' n':Nat}(hc:a'+n'≤c.length)(h:a'+n'≤a∨a+b.length≤a'):((bN c a b).drop a').take n'=(c.drop a').take n':=by
 refine List.ext_getElem? fun j=>?_
 rw[List.getElem?_take,List.getElem?_take]
 split
 ·rename_i hj
  rw[List.getElem?_drop,List.getElem?_drop]
  have hl:a'+j<c.length:=by omega
  rw[List.getElem?_eq_getElem hl]
  exact Gr (List.getElem?_eq_getElem hl) ag
 ·rfl
def rT{α:Type}(f g:α→Bool):∀l:List α,(l.filter fun x=>f x || g x).length≤(l.filter f).length+(l.filter g).length
 | []=>by simp
 | x::l=>by
  have ih:=rT f g l
  rw[List.filter_cons,List.filter_cons,List.filter_cons]
  cases f x <;> cases g x <;> simp <;> omega
def range_one(i:Nat):∀n:Nat,((List.range n).filter fun j=>decide (j=i)).length≤if i<n then 1 else 0
 | 0=>by simp
 | n+1=>by
  have ih:=range_one i n
  rw[List.range_succ,List.filter_append,List.length_append]
  by_cases h:n=i
  ·rw[if_neg ag]at ih
   rw[if_pos ag]
   simp[h]at ih ⊢
   omega
  ·have:([n].filter fun j=>decide (j=i))=[]:=by simp[h]
   rw[this,List.length_nil]
   split at ih
   ·rw[if_pos ag];omega
   ·rw[if_neg ag];omega
def Q4{c:TC}(hw:c.n≤c.ws.length*64)(hi:i<c.n)(l:List Dg):(jK (c.put i l)).length≤(jK c).length+1:=by
 have e:jK (c.put i l)=(List.range c.n).filter fun j=>decide (j=i) || dF c.ws c.n (j:Int):=by
  unfold jK TC.put
  simp only
  refine List.filter_congr fun j _=>?_
  rw[lU hw hi]
  by_cases h:j=i
  ·rw[if_pos ag,decide_eq_true h,Bool.true_or]
  ·rw[if_neg ag,decide_eq_false h,Bool.false_or]
 rw[e]
 have h1:=rT (fun j=>decide (j=i)) (fun j:Nat=>dF c.ws c.n (j:Int)) (List.range c.n)
 have h2:=range_one i c.n
 rw[if_pos hi]at h2
 show _≤((List.range c.n).filter fun i:Nat=>dF c.ws c.n (i:Int)).length+1
 omega
def M5:∀(ts:List Tk) (k:Nat) (y z:Tk),ts[k]?=some y→wT (ts.set k z)+(1+(jK y.c).length)=wT ts+(1+(jK z.c).length)
 | [],k,y,z,h=>by cases h
 | t::ts,0,y,z,h=>by
  simp only[List.getElem?_cons_zero,Option.some.injEq]at h
  subst h
  unfold wT
  simp only[List.set_cons_zero,List.map_cons,List.sum_cons]
  omega
 | t::ts,k+1,y,z,h=>by
  have ih:=M5 ts k y z (by simpa using h)
  unfold wT at ih ⊢
  simp only[List.set_cons_succ,List.map_cons,List.sum_cons]
  omega
def nJ(hn:(ts.map fun y=>y.x.d).Nodup){z':Tk}(hk:ts[k]?=some z){w:Tk}(hw:w∈ts.set k z'):(w∈ts∧w.x.d≠z.x.d)∨w=z':=by
 obtain⟨j,hj⟩:=List.mem_iff_getElem?.1 hw
 have Xx:=(List.getElem?_eq_some_iff.1 hk).1
 by_cases A5:j=k
 ·subst A5
  rw[List.getElem?_set_self Xx]at hj
  injection hj with hj
  exact .inr hj.symm
 ·rw[List.getElem?_set_ne (fun e=>A5 e.symm)]at hj
  refine .inl ⟨List.mem_of_getElem? hj,fun e=>A5 ?_⟩
  have d1:(ts.map fun y=>y.x.d)[j]?=some w.x.d:=by rw[List.getElem?_map,hj];rfl
  have d2:(ts.map fun y=>y.x.d)[k]?=some z.x.d:=by rw[List.getElem?_map,hk];rfl
  exact(List.getElem?_inj ((List.getElem?_eq_some_iff.1 d1).1) hn).1 (by rw[d1,d2,e])
def R9(ts:List Tk)(k:Nat)(z:Tk):gu (ts.set k z)=(gu ts).set k z.c:=by unfold gu;rw[List.map_set]
def CS.piece{t v:e8}{q:Nat}{p:List Dg}{c:List UInt8}(h:CS k w u s ts)(hq:ts[q]?=some z)(hc:vw s.A (iz z.x.d)=some c)(hi:i<z.n)(iQ:dJ z.x i=some (a,n))(sT:dw z.x i bs p=true)(qX:p.length≤10)(hP:mY z.x i bs s 0 t)(hY:ki z.x t 0 v)(hu:v.A.aw.length≤u')(hk:k≤190) :
  CS k (w+1) u' v (ts.set q (z.put i p))∧v.bq=s.bq∧(∀m,m≠iz z.x.d→vw v.A m=vw s.A m)∧vw v.A (iz z.x.d)=some (bN c a.toNat bs):=by
 have hz:=List.mem_of_getElem? hq
 obtain⟨k1,k2,k3,k4⟩:=h.ok z hz
 obtain⟨g0,g1,g2,g3,g4,g5,g6,gr⟩:=m6 iQ
 have jO:(bs.length:Int)=n:=by
  unfold dw at sT
  rw[iQ]at sT
  simp only[Bool.and_eq_true,decide_eq_true_eq]at sT
  exact sT.1
 have lH:c.length≤1000:=by
  rcases h.dq.kd _ c hc with⟨he,_⟩|⟨_,hl⟩|⟨_,hl⟩
  ·exact absurd he (jZ _)
  ·exact hl
  ·exact hl
 have zU:=h.dq.used
 have Jj:=h.dq.room
 obtain⟨_,p1,p2,p3,p4,p5,p6⟩:=Ij h.dq.ha h.brk (h.Ke z hz) iQ jO hc ag ag hP
 have Lq:=Cz.acu (e:=0) h.dq.cz h.dq.ha p1 hP hY
 have lz:vw t.A (fS z.x)=some (bN c a.toNat bs):=by rw[p4,if_pos rfl]
 have hY2:HA v.A∧vw v.A=vw t.A∧v.A.names=t.A.names∧v.A.room=t.A.room∧v.bq=t.bq∧v.brk=false:=by
  unfold ki at hY
  split at hY
  ·exact absurd hY.1.symm (by assumption)
  obtain⟨B,⟨e1,A1,hs,mT⟩,rfl⟩:=hY
  rcases mT with⟨bZ,h0,_⟩|⟨h0,_,rfl⟩
  ·exact absurd h0.symm bZ
  subst h0
  unfold fj at hs
  rw[show isName (fS z.x)=true from gH z.x]at hs
  obtain⟨_,m1,m2,m3,m4⟩:=p1.sync lz hs
  exact⟨m1,funext m2,m3,m4,rfl,by simp[p2]⟩
 obtain⟨y1,y2,y3,y4,y5,y6⟩:=hY2
 have oY:∀m,vw v.A m=if m=iz z.x.d then some (bN c a.toNat bs)else vw s.A m:=fun m=>by rw[y2];exact p4 m
 have eQ:=fE c a.toNat bs
 have zW:vw v.A (iz z.x.d)=some (bN c a.toNat bs):=by rw[oY,if_pos rfl]
 have hkB:∀d,vw v.A (pA d)=vw s.A (pA d):=fun d=>by rw[oY,if_neg (fun e=>kF _ _ e.symm)]
 have qf:∀d,d≠z.x.d→vw v.A (iz d)=vw s.A (iz d):=fun d hd=>by rw[oY,if_neg (fun e=>hd (Ct e))]
 have Ls:v.bq=s.bq:=y5.trans p3
 refine⟨⟨h.dq.next y1 Lq (y4.trans p6) (by rw[y3,p5];exact h.dq.Qs) (fun m c' lr=>?_),y6,fun b hb=>?_,fun b hb=>?_,by rw[Ls];exact h.keys,by rw[Ls];have:=h.bl;omega,fun b hb=>?_,?_,fun b hb=>?_,fun b hb j hj=>?_,?_,hu,fun b hb=>?_⟩,Ls,fun m hm=>by rw[oY,if_neg hm],zW⟩
 ·rw[oY]at lr
  by_cases hm:m=iz z.x.d
  ·rw[if_pos hm]at lr
   injection lr with lr
   refine .inr (.inr (.inl ⟨⟨_,hm⟩,?_⟩))
   rw[← lr,eQ]
   omega
  ·rw[if_neg hm]at lr
   exact .inl lr
 ·rw[Ls]at hb
  obtain⟨b1,y,hy,Da⟩:=h.bq b hb
  refine⟨b1,?_⟩
  obtain⟨j,hj⟩:=List.mem_iff_getElem?.1 hy
  by_cases hjq:q=j
  ·subst hjq
   rw[hq]at hj
   injection hj with hj
   exact⟨z.put i p,List.mem_of_getElem? (List.getElem?_set_self ((List.getElem?_eq_some_iff.1 hq).1)),by rw[← Da,← hj];rfl⟩
  ·exact⟨y,List.mem_of_getElem? (by rw[List.getElem?_set_ne hjq];exact hj),Da⟩
 ·rw[Ls]
  rcases nJ h.nd hq hb with⟨hb,_⟩|rfl
  ·exact h.Ke b hb
  ·exact h.Ke z hz
 ·rcases nJ h.nd hq hb with⟨hb,_⟩|rfl
  ·exact h.ok b hb
  ·exact⟨k1,k2,k3,k4.put i qX⟩
 ·have:(ts.set q (z.put i p)).map (fun y=>y.x.d)=ts.map fun y=>y.x.d:=by
   rw[List.map_set]
   refine List.ext_getElem? fun j=>?_
   by_cases A5:j=q
   ·subst A5
    rw[List.getElem?_set_self (by simpa using(List.getElem?_eq_some_iff.1 hq).1),List.getElem?_map,hq];rfl
   ·rw[List.getElem?_set_ne (fun e=>A5 e.symm)]
  rw[this];exact h.nd
 ·rcases nJ h.nd hq hb with⟨hb,hd⟩|rfl
  ·rw[qf _ hd,hkB];exact h.has b hb
  ·show(vw v.A (iz z.x.d)).isSome=true∧vw v.A (pA z.x.d)=none
   rw[zW,hkB];exact⟨rfl,(h.has z hz).2⟩
 ·rcases nJ h.nd hq hb with⟨hb,hd⟩|rfl
  ·rw[qf _ hd];exact h.LM b hb j hj
  ·show ∃c' a' n' p',vw v.A (iz z.x.d)=some c'∧dJ z.x j=some (a',n')∧a'+n'≤c'.length∧(if(j:Int)=(i:Int)then some p else z.pf j)=some p'∧dw z.x j ((c'.drop a'.toNat).take n'.toNat) p'=true
   by_cases Ci:j=i
   ·subst Ci
    refine⟨_,a,n,p,zW,iQ,by rw[eQ];omega,if_pos rfl,?_⟩
    rw[show n.toNat=bs.length by omega,M1]
    exact sT
   ·have hold:dF z.ws z.n (j:Int)=true:=by
     have nF:dF (kX z.ws i true) z.n (j:Int)=true:=hj
     rw[lU (show z.n≤z.ws.length*64 from k4.2.1) hi,if_neg ag]at nF
     exact nF
    obtain⟨c',a',n',p',c1,c2,c3,c4,c5⟩:=h.LM z hz j hold
    rw[hc]at c1
    injection c1 with c1
    subst c1
    obtain⟨f0,f1,f2,_⟩:=m6 c2
    have Gn:=Dw iQ c2 ag
    refine⟨_,a',n',p',zW,c2,by rw[eQ];omega,by rw[if_neg ag];exact c4,?_⟩
    rw[Df ag ag]
    exact c5
 ·have h1:=M5 ts q z (z.put i p) hq
  have h2:(jK (z.put i p).c).length≤(jK z.c).length+1:=Q4 (c:=z.c) k4.2.1 hi p
  have h3:=h.wt
  omega
 ·rcases nJ h.nd hq hb with⟨hb,_⟩|rfl
  ·exact h.ns b hb
  ·exact(h.ns z hz).put hi p
def WL(ts:List Tk)(b:Bl)(i:Int)(bs:List UInt8)(p:List Dg):Nat:=match fb ts b with
 | none=>4
 | some y=>if i<0∨(y.n:Int)≤i then 1 else if dF y.ws y.n i=true then 0 else if dw b i bs p=true then 0 else 8
def CS.put{i:Int}{p:List Dg}(h:CS k w u x.1 ts)(hj:CJ j x (gu ts))(hk:k≤180)(sV:j<100)(hR:Mc b i bs p ts x false e ek jM t) :
  jM=false∧CS k (w+1) (u+20) t.1 ek∧CJ (j+1) t (gu ek)∧e=WL ts b i bs p ∧
   ((ek=ts∧t=x)∨∃(q:Nat) (y:Tk),ts[q]?=some y∧y.x=b∧0≤i∧i<y.n∧dF y.ws y.n i=false∧dw b i bs p=true∧ek=ts.set q (y.put i.toNat p)∧(∀m,m≠cS→m≠iz b.d→vw t.1.A m=vw x.1.A m)∧∃(c:List UInt8) (a n:Int),vw x.1.A (iz b.d)=some c∧dJ b i=some (a,n)∧vw t.1.A (iz b.d)=some (bN c a.toNat bs)):=by
 have hm:=h.mono (k':=k) (w':=w+1) (u':=u+20) ag ag ag
 unfold WL
 rcases hR with⟨h1,_⟩|⟨_,hf,rfl,rfl,rfl,rfl⟩|⟨_,q,y,hf,hq,AV,hc⟩
 ·cases h1
 ·rw[hf];exact⟨rfl,hm,hj.mono ag,rfl,.inl ⟨rfl,rfl⟩⟩
 rw[hf]
 simp only
 rcases hc with⟨hi,rfl,rfl,rfl,rfl⟩|⟨hi,hh,rfl,rfl,rfl,rfl⟩|⟨hi,hh,hp,rfl,rfl,rfl,rfl⟩|⟨hi,hh,hp,rfl,hR,uF⟩
 ·rw[if_pos hi];exact⟨rfl,hm,hj.mono ag,rfl,.inl ⟨rfl,rfl⟩⟩
 ·rw[if_neg ag,if_pos hh];exact⟨rfl,hm,hj.mono ag,rfl,.inl ⟨rfl,rfl⟩⟩
 ·rw[if_neg ag,if_neg (by rw[hh];simp),if_neg (by rw[hp];simp)];exact⟨rfl,hm,hj.mono ag,rfl,.inl ⟨rfl,rfl⟩⟩
 rw[if_neg ag,if_neg (by rw[hh];simp),if_pos hp]
 subst AV
 obtain⟨i,rfl⟩:∃i':Nat,i=i':=⟨i.toNat,ag⟩
 have hy:=List.mem_of_getElem? hq
 obtain⟨k1,k2,k3,k4⟩:=h.ok y hy
 have qX:=sy hp
 have iQ:∃a n,dJ y.x i=some (a,n):=by
  unfold dw at hp
  cases iQ:dJ y.x i with
  | none=>rw[iQ]at hp;cases hp
  | some an=>exact⟨an.1,an.2,rfl⟩
 obtain⟨a,n,iQ⟩:=iQ
 obtain⟨g0,g1,g2,g3,g4,g5,g6,gr⟩:=m6 iQ
 have jO:(bs.length:Int)=n:=by
  have zM:=hp
  unfold dw at zM
  rw[iQ]at zM
  simp only[Bool.and_eq_true,decide_eq_true_eq]at zM
  exact zM.1
 have adJ:p.length=eX y.n i:=by
  have zM:=hp
  unfold dw at zM
  rw[iQ]at zM
  simp only[Bool.and_eq_true,decide_eq_true_eq]at zM
  have h2:=zM.2
  unfold kG at h2
  rw[decide_eq_true_iff]at h2
  rw[h2.2.1,k3]
 have RA:y.n≤1024:=k4.1
 obtain⟨c,hc⟩:=Option.isSome_iff_exists.1 (h.has y hy).1
 have lH:c.length≤1000:=by
  rcases h.dq.kd _ c hc with⟨he,_⟩|⟨_,hl⟩|⟨_,hl⟩
  ·exact absurd he (jZ _)
  ·exact hl
  ·exact hl
 have zU:=h.dq.used
 have Jj:=h.dq.room
 obtain⟨e1,x1,⟨Xj,ac9⟩,c1⟩:=hR
 have z8:=oq Xj
 obtain⟨rfl,p1,p2,p3,p4,p5,p6⟩:=Ij h.dq.ha h.brk (h.Ke y hy) iQ jO hc ag ag Xj
 rcases c1 with⟨bZ,_⟩|⟨_,e2,x2,⟨zM,ac8⟩,c2⟩
 ·exact absurd rfl bZ
 have EK:=sK zM
 have yF:e2=0:=by
  unfold ki at zM
  have zN:jh x1.1 y.x=0:=by unfold jh tC;rw[p2,p3];simp[h.Ke y hy]
  rw[zN,if_neg (by simp)]at zM
  obtain⟨B,⟨e3,A1,hs,mT⟩,_⟩:=zM
  unfold fj at hs
  rw[show isName (fS y.x)=true from gH y.x]at hs
  obtain⟨h0,_⟩:=p1.sync (c:=bN c a.toNat bs) (by rw[p4,if_pos rfl]) hs
  rcases mT with⟨bZ,h1,_⟩|⟨_,h1,_⟩
  ·exact absurd h0 bZ
  ·exact h1
 subst yF
 rcases c2 with⟨bZ,_⟩|⟨_,gw⟩
 ·exact absurd rfl bZ
 have W7:=h.kj
 have aeC:=z8.1
 have aeB:=EK.1
 obtain⟨n1,n2,n3,n4⟩:=h.piece (u':=u+10) hq hc ag iQ hp qX Xj zM ag ag
 have Db:CJ j x2 (gu ts):=by
  have:=hj.sto (t:=x2.1) (n3 cS (fun e=>jZ _ e.symm))
  rw[← ac9,← ac8]at this
  exact this
 obtain⟨rfl,m1,m2,m3,m4⟩:=n1.note Db ag sV (xZ _ _ ag p qX) gw
 rcases uF with⟨bZ,_⟩|⟨_,rfl⟩
 ·exact absurd rfl bZ
 have e2:((i:Int)).toNat=i:=by omega
 rw[e2]at m2 ⊢
 refine⟨by decide,m1.mono (Nat.le_refl _) (Nat.le_refl _) ag,m2 _ (fun ls Jo=>?_),rfl,.inr ⟨q,y,hq,rfl,ag,ag,hh,hp,rfl,fun m YN Xr=>by rw[m4 m YN,n3 m Xr],c,a,n,hc,iQ,by rw[m4 _ (jZ _),n4]⟩⟩
 rw[vb,xy _ _ (by have:=k4.1;omega) qX,R9]
 have hcq:(gu ts)[q]?=some y.c:=by unfold gu;rw[List.getElem?_map,hq];rfl
 exact Jo.piece (by rw[Py];exact h.nd) hcq (i:=i) (show i<y.n by omega) adJ
def Ao(p:Tk→Bool):∀ts:List Tk,wT (ts.filter p)≤wT ts
 | []=>Nat.le_refl _
 | t::ts=>by
  have ih:=Ao p ts
  unfold wT at ih ⊢
  rw[List.filter_cons]
  split
  ·simp only[List.map_cons,List.sum_cons];omega
  ·simp only[List.map_cons,List.sum_cons];omega
def qN{w:Tk}(h:w∈mQ ts d):w∈ts∧w.x.d≠d:=by
 obtain⟨h1,h2⟩:=List.mem_filter.1 h
 exact⟨h1,by simpa using h2⟩
def CS.gone{k':Nat}{t:e8}(h:CS k w u s ts)(hk:k≤k')(hz:z∈ts)(h1:HA t.A)(h2:t.brk=false)(h3:t.bq=n9 s.bq z.x.d)(SK:Cz k' t.A)(hr:t.A.room=s.A.room)(hn:t.A.names.length≤k')(hu:t.A.aw.length≤u')(hS:∀d,d≠z.x.d→vw t.A (iz d)=vw s.A (iz d))(hB:∀d,d≠z.x.d→vw t.A (pA d)=vw s.A (pA d))(hkd:∀n c,vw t.A n=some c→vw s.A n=some c∨(∃d,n=pA d∧dW c=d)∧c.length≤1000):CS k' w u' t (mQ ts z.x.d):=by
 have jN:∀b∈s.bq,b∈n9 s.bq z.x.d→b.1≠z.x.d:=fun b _ hb=>by
  have:=(List.mem_filter.1 hb).2
  simpa using this
 refine⟨h.dq.next h1 SK hr hn (fun n c hc=>?_),h2,fun b hb=>?_,fun y hy=>?_,?_,?_,fun y hy=>h.ok y (qN hy).1,(List.filter_sublist.map _).nodup h.nd,fun y hy=>?_,fun y hy i hi=>?_,?_,hu,fun y hy=>h.ns y (qN hy).1⟩
 ·rcases hkd n c hc with hc|hc
  ·exact .inl hc
  ·exact .inr (.inr (.inr hc))
 ·rw[h3]at hb
  have rP:=Pu hb
  obtain⟨b1,y,hy,Da⟩:=h.bq b rP
  refine⟨b1,y,List.mem_filter.2 ⟨hy,?_⟩,Da⟩
  have:=jN b rP hb
  rw[b1]at this
  rw[Da]
  simpa using this
 ·rw[h3,LR,if_neg (qN hy).2]
  exact h.Ke y (qN hy).1
 ·rw[h3]
  exact(List.filter_sublist.map _).nodup h.keys
 ·rw[h3]
  have:=List.length_filter_le (fun x:Dg × Bl => !decide (x.1=z.x.d)) s.bq
  have:=h.bl
  unfold n9
  omega
 ·obtain⟨Rm,AW⟩:=qN hy
  rw[hS _ AW,hB _ AW]
  exact h.has y Rm
 ·obtain⟨Rm,AW⟩:=qN hy
  rw[hS _ AW]
  exact h.LM y Rm i hi
 ·have:=Ao (fun y => !decide (y.x.d=z.x.d)) ts
  have:=h.wt
  unfold mQ
  omega
def nN(v:ByteArray→Option (List UInt8))(x:Bl)(inst:Bool)(n:ByteArray):Option (List UInt8) :=
 if inst=true∧n=pA x.d then v (iz x.d)else if n=iz x.d then none else v n
def D6(v:ByteArray→Option (List UInt8))(x:Bl)(n:ByteArray):nN v x false n=if n=iz x.d then none else v n:=by
 unfold nN
 exact if_neg fun e=>by cases e.1
def KK(v:ByteArray→Option (List UInt8))(x:Bl)(n:ByteArray):nN v x true n=if n=pA x.d then v (iz x.d)else if n=iz x.d then none else v n:=by
 unfold nN
 by_cases h:n=pA x.d
 ·rw[if_pos ⟨rfl,h⟩,if_pos h]
 ·rw[if_neg (fun e=>h e.2),if_neg h]
def CS.over{x1 y:SJ}{c:List UInt8}{e':Nat}(h:CS k w u x.1 ts)(hj:CJ j x (gu ts))(hk:k≤180)(sV:j<100)(hz:z∈ts)(hc:vw x.1.A (iz z.x.d)=some c){inst:Bool}(h1:(inst=true∧dQ z.x x.1 e x1.1)∨(inst=false∧gN z.x x.1 e x1.1))(yL:x1.2=x.2)(gw:iA (jD (Cu z.x.d)) x1 e' y) :
  e=(if inst=true∧ej z.x c=false then 8 else 0)∧e'=0∧CS (k+1) w (u+20) y.1 (mQ ts z.x.d)∧CJ (j+1) y (gu (mQ ts z.x.d))∧∀n,n≠cS→vw y.1.A n=nN (vw x.1.A) z.x (inst && ej z.x c) n:=by
 have hb:=h.Ke z hz
 have lH:c.length≤1000:=by
  rcases h.dq.kd _ c hc with⟨he,_⟩|⟨_,hl⟩|⟨_,hl⟩
  ·exact absurd he (jZ _)
  ·exact hl
  ·exact hl
 have Lq:=h.dq.cz.mono (fun _ x=>x) (Nat.le_succ k)
 have lG:=h.dq.Qs
 have W7:=h.kj
 have iJ:e=(if inst=true∧ej z.x c=false then 8 else 0)∧HA x1.1.A∧x1.1.brk=false∧x1.1.bq=n9 x.1.bq z.x.d∧x1.1.A.room=x.1.A.room∧x1.1.A.names.length≤k+1∧Cz (k+1) x1.1.A∧x1.1.A.aw.length≤u+10∧∀n,vw x1.1.A n=nN (vw x.1.A) z.x (inst && ej z.x c) n:=by
  have pG:∀ {e:Nat} {t:e8},gN z.x x.1 e t→e=0∧HA t.A∧t.brk=false∧t.bq=n9 x.1.bq z.x.d∧t.A.room=x.1.A.room∧t.A.names.length≤k+1∧Cz (k+1) t.A∧∀n,vw t.A n=nN (vw x.1.A) z.x false n:=fun {e t} hA=>by
   obtain⟨rfl,a1,a2,a3,a4,a5,a6⟩:=uD h.dq.ha h.brk hb hc hA
   refine⟨rfl,a1,a2,a3,a6,?_,Cz.PM Lq h.dq.ha hc lH hA,fun n=>?_⟩
   ·rw[a5]
    have:=List.length_filter_le (fun q:ByteArray × Nat => !decide (q.1=fS z.x)) x.1.A.names
    unfold Ab.dE
    omega
   ·rw[a4,D6]
    rfl
  rcases h1 with⟨rfl,h1⟩|⟨rfl,h1⟩
  ·have hg:=(rY h1).1
   have SH:=Cz.OA Lq h.dq.ha h.brk hb hc lH (h.has z hz).2 ag h1
   cases hw:ej z.x c with
   | false =>
    obtain⟨rfl,a1,a2,a3,a4,a5,a6⟩:=wh h.dq.ha h.brk hb hc hw h1
    refine⟨by simp,a1,a2,a3,a6,?_,SH,ag,fun n=>?_⟩
    ·rw[a5]
     have:=List.length_filter_le (fun q:ByteArray × Nat => !decide (q.1=fS z.x)) x.1.A.names
     unfold Ab.dE
     omega
    ·rw[a4,Bool.true_and,D6]
     rfl
   | true =>
    obtain⟨rfl,a1,a2,a3,a4,a5,f,a6⟩:=zF h.dq.ha h.brk hb hc (h.has z hz).2 hw h1
    refine⟨by simp,a1,a2,a3,a5,?_,SH,ag,fun n=>?_⟩
    ·rw[a6,List.length_append,List.length_singleton]
     have:=List.length_filter_le (fun q:ByteArray × Nat => !decide (q.1=fS z.x)) x.1.A.names
     unfold Ab.dE
     omega
    ·rw[a4,Bool.true_and,KK,hc]
     rfl
  ·have hg:=(qF h1).1
   obtain⟨rfl,a1,a2,a3,a4,a5,a6,a7⟩:=pG h1
   exact⟨by simp,a1,a2,a3,a4,a5,a6,ag,a7⟩
 obtain⟨q0,q1,q2,q3,q4,q5,q6,q7,q8⟩:=iJ
 have hS:∀d,d≠z.x.d→vw x1.1.A (iz d)=vw x.1.A (iz d):=fun d hd=>by
  rw[q8]
  unfold nN
  rw[if_neg (fun e=>kF _ _ e.2),if_neg (fun e=>hd (Ct e))]
 have hB:∀d,d≠z.x.d→vw x1.1.A (pA d)=vw x.1.A (pA d):=fun d hd=>by
  rw[q8]
  unfold nN
  rw[if_neg (fun e=>hd (Jv e.2)),if_neg (fun e=>kF _ _ e.symm)]
 have hP:vw x1.1.A cS=vw x.1.A cS:=by
  rw[q8]
  unfold nN
  rw[if_neg (fun e=>wR _ e.2.symm),if_neg (fun e=>jZ _ e.symm)]
 have z8:=h.gone (k':=k+1) (u':=u+10) ag hz q1 q2 q3 q6 q4 q5 q7 hS hB (fun n c' lr=>by
  rw[q8]at lr
  unfold nN at lr
  split at lr
  ·rename_i hi
   rw[hc]at lr
   injection lr with lr
   subst lr
   have hw:ej z.x c=true:=by
    have:=hi.1
    rw[Bool.and_eq_true]at this
    exact this.2
   exact .inr ⟨⟨z.x.d,hi.2,(Gu hw).2⟩,lH⟩
  ·split at lr
   ·cases lr
   ·exact .inl lr)
 have Db:CJ j x1 (gu ts):=by
  have:=hj.sto (t:=x1.1) hP
  rw[← yL]at this
  exact this
 obtain⟨rfl,m1,m2,m3,m4⟩:=z8.note Db ag sV (Pr _) gw
 refine⟨q0,rfl,m1.mono (Nat.le_refl _) (Nat.le_refl _) ag,m2 _ (fun ls Jo=>?_),fun n hn=>by rw[m4 n hn,q8]⟩
 rw[vb,Nh,HT]
 exact Jo.rm _
def rS(k:List UInt8)(d:Dg):dy k d≠bM cS:=fun h=>by
 have h1:=congrArg (fun s:ByteArray=>s.data.toList.length) h
 simp only[dy,cS,strOf,bM,List.length_append,jB]at h1
 simp at h1
def DQ.fresh(h:DQ k A):vw A (bM cS)=none:=by
 cases hx:vw A (bM cS)with
 | none=>rfl
 | some c =>
  rcases h.kd _ c hx with⟨he,_⟩|⟨⟨d,he⟩,_⟩|⟨⟨d,he,_⟩,_⟩
  ·exact absurd he oP
  ·exact absurd he.symm (rS kS d)
  ·exact absurd he.symm (rS kB d)
def IV(h:HA A){nm:ByteArray}{c:List UInt8}(hv:vw A nm=some c)(h1:0≤a)(h2:0≤n)(h3:a+n≤c.length):A.read nm a n=((c.drop a.toNat).take n.toNat,0):=by
 unfold vw at hv
 cases oB:A.look nm with
 | none=>rw[oB]at hv;cases hv
 | some f =>
  rw[oB]at hv
  simp only[Option.map_some,Option.some.injEq]at hv
  unfold Ab.read
  rw[if_neg (by rw[h.on];simp),oB]
  simp only
  rw[hv,if_neg ag]
def Fb(h:HA A){nm:ByteArray}(hv:vw A nm=some C):fe A nm=ck (fm C):=by
 have hs:(A.size nm).1=C.length:=by
  unfold vw at hv
  cases oB:A.look nm with
  | none=>rw[oB]at hv;cases hv
  | some f =>
   rw[oB]at hv
   simp only[Option.map_some,Option.some.injEq]at hv
   unfold Ab.size
   rw[oB]
   simp only
   rw[hv]
 unfold fe
 rw[hs,IV h hv ag ag ag]
 simp
structure GB(A:Ab)(c:TC):Prop where
 r:bF c.x=true
 s:c.x.size≤600
 n:(c.n:Int)=cq c.x
 ok:kJ c
 has:(vw A (iz c.x.d)).isSome=true∧vw A (pA c.x.d)=none
 LM:∀i:Nat,dF c.ws c.n i=true→∃(b:List UInt8) (a n:Int) (p:List Dg),vw A (iz c.x.d)=some b∧dJ c.x i=some (a,n)∧a+n≤b.length∧c.pf i=some p∧dw c.x i ((b.drop a.toNat).take n.toNat) p=true
def GB.of{c:TC}(h:GB A c')(e:QJ c c')(kQ:kJ c):GB A c :=
  ⟨by rw[e.x];exact h.r,by rw[e.x];exact h.s,by rw[e.n,e.x];exact h.n,kQ,by rw[e.x];exact h.has,fun i hi=>by
    rw[e.x,e.p i hi]
    exact h.LM i (by rw[← e.b i];exact hi)⟩
def GB.vw{B:Ab}{c:TC}(h:GB A c)(h1:∀b,Proofs.YtdigdgohdpeebaaGreatDoor.vw A (iz c.x.d)=some b→Proofs.YtdigdgohdpeebaaGreatDoor.vw B (iz c.x.d)=some b)(h2:Proofs.YtdigdgohdpeebaaGreatDoor.vw B (pA c.x.d)=Proofs.YtdigdgohdpeebaaGreatDoor.vw A (pA c.x.d)):GB B c:=by
 refine⟨h.r,h.s,h.n,h.ok,⟨?_,by rw[h2];exact h.has.2⟩,fun i hi=>?_⟩
 ·obtain⟨b,hb⟩:=Option.isSome_iff_exists.1 h.has.1
  rw[h1 b hb];rfl
 ·obtain⟨b,a,n,p,c1,c2⟩:=h.LM i hi
  exact⟨b,a,n,p,h1 b c1,c2⟩
def G3{x:Bl}{p:List Dg}{n:Nat}(h:dw x i bs p=true)(hn:(n:Int)=cq x):p.length=eX n i:=by
 unfold dw at h
 split at h
 ·cases h
 ·rw[Bool.and_eq_true]at h
  have h2:=h.2
  unfold kG at h2
  rw[decide_eq_true_iff]at h2
  rw[h2.2.1,hn]
def nB(l:List TC):List (Dg × Bl):=l.map fun c=>(c.x.d,c.x)
def LS{l:List TC}(h:∀c∈l,c.x.d≠d):gK (nB l) d=none:=by
 unfold gK nB
 rw[List.find?_eq_none.2 (fun x hx=>by
  obtain⟨c,hc,rfl⟩:=List.mem_map.1 hx
  simpa using h c hc)]
 rfl
def Bj:∀ {l:List TC} {c:TC},(l.map fun c=>c.x.d).Nodup→c∈l→gK (nB l) c.x.d=some c.x
 | [],c,_,h=>by cases h
 | y::l,c,hn,h=>by
  rw[List.map_cons,List.nodup_cons]at hn
  rcases List.mem_cons.1 h with rfl|h
  ·unfold gK nB
   simp
  ·have bZ:y.x.d≠c.x.d:=fun e=>hn.1 (List.mem_map.2 ⟨c,h,e.symm⟩)
   have ih:=Bj hn.2 h
   unfold gK nB at ih ⊢
   rw[List.map_cons,List.find?_cons_of_neg (by simpa using bZ)]
   exact ih
def wg{k:Nat}{q:Int}{A:Ab}(hA:DQ k A):∀(l done:List TC) (s:e8) (rs:List (List UInt8)) (e:Nat) (t:e8) (j9:List TC) (AE:List (List UInt8)),s=⟨A,nB done,false⟩→(∀c∈l,GB A c)→(∀c∈done,c.x.size≤600)→((done++l).map fun c=>c.x.d).Nodup →
  1000*(k:Int)+600*((done.length+l.length:Nat):Int)≤q→rW q l s done rs e t j9 AE→e=0∧j9=done++l∧AE=rs++l.flatMap pn∧t=⟨A,nB (done++l),false⟩
 | [],done,s,rs,e,t,j9,AE,hs,_,_,_,_,h=>by
  obtain⟨rfl,rfl,rfl,rfl⟩:=h
  exact⟨rfl,by simp,by simp,by rw[hs];simp⟩
 | c::l,done,s,rs,e,t,j9,AE,hs,hg,hd,hn,hq,h=>by
  subst hs
  have hc:=hg c (List.mem_cons_self ..)
  obtain⟨e1,s1,hb,gw⟩:=h
  have jN:∀y∈done,y.x.d≠c.x.d:=fun y hy=>by
   rw[List.map_append,List.nodup_append]at hn
   exact hn.2.2 _ (List.mem_map.2 ⟨y,hy,rfl⟩) _ (by simp)
  have zU:jR ⟨A,nB done,false⟩≤1000*(k:Int)+600*(done.length:Int):=by
   have h1:=hA.rF
   have h2:=Fu (l:=nB done) (fun z hz=>by
    obtain⟨y,hy,rfl⟩:=List.mem_map.1 hz
    exact hd y hy)
   have h3:(nB done).length=done.length:=by simp[nB]
   unfold jR
   simp only
   omega
  have iY:=hc.s
  have abJ:=LS jN
  unfold dU at hb
  rw[if_neg (by simp),if_neg (by rw[hc.r];simp),if_neg (by
   rw[nc,show vw A (fB c.x)=none from hc.has.2]
   simp only
   rw[abJ];simp),if_neg (by
   rw[List.length_cons]at hq
   omega),if_pos (by rw[nc];exact hc.has.1)]at hb
  obtain⟨rfl,rfl⟩:=hb
  rw[if_neg ag,if_neg ag]at gw
  have nw:nB done++[(c.x.d,c.x)]=nB (done++[c]):=by simp[nB]
  have k9:pX (nB (done++[c])) c.x=true:=by
   unfold pX
   refine decide_eq_true ?_
   rw[← nw,Fs _ _ _ abJ,if_pos rfl]
  have hh:ke ⟨A,nB done++[(c.x.d,c.x)],false⟩ c=(c,pn c):=by
   rw[nw]
   refine EE (fun i hi hh=>?_) c.n (Nat.le_refl _)
   obtain⟨b,a,n,p,c1,c2,c3,c4,c5⟩:=hc.LM i hh
   obtain⟨f0,f1,f2,_⟩:=m6 c2
   have cL:eu ⟨A,nB (done++[c]),false⟩ c.x (i:Int)=((b.drop a.toNat).take n.toNat,0):=by
    unfold eu
    rw[if_pos k9,c2]
    exact IV hA.ha c1 ag ag ag
   rw[cL,c4]
   exact⟨rfl,c5⟩
  simp only[hh]at gw
  have:=wg hA l (done++[c]) _ _ e t j9 AE (by rw[nw]) (fun y hy=>hg y (List.mem_cons_of_mem _ hy)) (fun y hy=>by
   rcases List.mem_append.1 hy with hy|hy
   ·exact hd y hy
   ·rw[List.mem_singleton.1 hy];exact hc.s) (by rw[List.append_assoc];exact hn) (by rw[List.length_append,List.length_singleton];rw[List.length_cons]at hq;omega) gw
  obtain⟨r1,r2,r3,r4⟩:=this
  exact⟨r1,by rw[r2,List.append_assoc];rfl,by rw[r3,List.flatMap_cons,List.append_assoc],by rw[r4,List.append_assoc];rfl⟩
def GB.aaD{c:TC}(h:GB A c)(hi:dF c.ws c.n (i:Int)=true):∃p,c.pf i=some p∧p.length=eX c.n i∧p.length≤10:=by
 obtain⟨b,a,n,p,c1,c2,c3,c4,c5⟩:=h.LM i hi
 exact⟨p,c4,G3 c5 h.n,sy c5⟩
def DP{A:Ab}:∀(l JG X':List TC),Aj JG X'→(∀c∈l,GB A c)→((X'++l).map fun c=>c.x.d).Nodup→Aj ((l.flatMap pn).foldl dk JG) (X'++l)
 | [],JG,X',h,_,_=>by simpa using h
 | c::l,JG,X',h,hg,hn=>by
  have hc:=hg c (List.mem_cons_self ..)
  have jN:∀y∈JG,y.x.d≠c.x.d:=fun y hy=>by
   obtain⟨i,hi⟩:=List.mem_iff_getElem?.1 hy
   obtain⟨z,hz,WY⟩:=h.left hi
   rw[WY.x]
   rw[List.map_append,List.nodup_append]at hn
   exact hn.2.2 _ (List.mem_map.2 ⟨z,List.mem_of_getElem? hz,rfl⟩) _ (by simp)
  have h1:=hc.n
  have h2:=hc.ok
  obtain⟨c',e1,e2⟩:=Kx jN hc.r ag h2.2.1 (by have:=h2.1;omega) (fun i hi=>hc.aaD hi)
  rw[List.flatMap_cons,List.foldl_append,e1]
  have:=DP l (JG++[c']) (X'++[c]) (h.snoc e2) (fun y hy=>hg y (List.mem_cons_of_mem _ hy)) (by rw[List.append_assoc];exact hn)
  rw[List.append_assoc]at this
  exact this
def NH{c:TC}(h:GB A c):∀b∈pn c,b.length≤900:=fun b hb=>by
 have hr:=eL h.r
 have hn:=h.ok.1
 unfold pn at hb
 rcases List.mem_cons.1 hb with rfl|hb
 ·exact sI c.x ag ag
 ·obtain⟨i,hi,rfl⟩:=List.mem_map.1 hb
  have h1:=List.mem_filter.1 hi
  have h2:=List.mem_range.1 h1.1
  obtain⟨p,e1,_,e3⟩:=h.aaD h1.2
  rw[e1]
  exact xZ _ _ ag _ e3
def wC(cs:List TC):Nat:=(cs.map fun c=>1+(jK c).length).sum
def Za(ts:List Tk):wC (gu ts)=wT ts:=by unfold wC wT gu;rw[List.map_map];rfl
def xV:∀l:List TC,(l.flatMap pn).length=wC l
 | []=>rfl
 | c::l=>by
  have ih:=xV l
  unfold wC at ih ⊢
  rw[List.flatMap_cons,List.length_append,ih,List.map_cons,List.sum_cons]
  unfold pn
  rw[List.length_cons,List.length_map]
  omega
def WR{c:TC}(h:QJ c c'):jK c=jK c':=by
 unfold jK
 rw[h.n]
 refine List.filter_congr fun i _=>?_
 have:=h.b i
 rw[h.n]at this
 exact this
def Y':∀ {cs j9:List TC},Aj cs j9→wC cs=wC j9:=fun {cs j9} h=>by
 unfold wC
 congr 1
 refine List.ext_getElem? fun i=>?_
 rw[List.getElem?_map,List.getElem?_map]
 cases hx:cs[i]? with
 | none =>
  rw[List.getElem?_eq_none (by rw[← h.1];exact List.getElem?_eq_none_iff.1 hx)]
 | some c =>
  obtain⟨c',lr,e⟩:=h.left hx
  rw[lr,Option.map_some,Option.map_some,WR e]
def Aj.nodup(h:Aj cs j9):cs.map (fun c=>c.x.d)=j9.map fun c=>c.x.d:=by
 refine List.ext_getElem? fun i=>?_
 rw[List.getElem?_map,List.getElem?_map]
 cases hx:cs[i]? with
 | none =>
  rw[List.getElem?_eq_none (by rw[← h.1];exact List.getElem?_eq_none_iff.1 hx)]
 | some c =>
  obtain⟨c',lr,e⟩:=h.left hx
  rw[lr,Option.map_some,Option.map_some,e.x]
def CS.u9(h:CS k w u s ts){y:Tk}(hy:y∈ts):GB s.A y.c:=by
 obtain⟨h1,h2,h3,h4⟩:=h.ok y hy
 exact⟨h1,h2,h3,h4,h.has y hy,h.LM y hy⟩
def On(ts:List Tk):ts.length≤wT ts:=by
 induction ts with
 | nil=>exact Nat.zero_le _
 | cons t ts ih =>
  unfold wT at ih ⊢
  rw[List.map_cons,List.sum_cons,List.length_cons]
  omega
def J'(ls:List (List UInt8)):(cf ls).length=32+(ls.flatMap aZ).length:=by
 rw[Gv,K2]
def DQ.put{ls:List (List UInt8)}{s c:Int}{y:PS}(h:DQ k A)(hv:vw A cS=some C)(hk:k≤180)(hl:(ls.flatMap aZ).length≤95000)(hR:Ag cS ls (A,n,s,c) e y) :
  e=0∧DQ k y.1∧vw y.1=eK (vw A) cS (some (cf ls))∧y.2=(1,((ls.flatMap aZ).length:Int),((ls.flatMap aZ).length:Int)):=by
 have eQ:=J' ls
 have zU:=h.used
 have Jj:=h.room
 have lG:=h.Qs
 obtain⟨rfl,r1,r2,r3,r4⟩:=AK h.ha ed jF oP h.fresh ag ag ag hR
 have hn:y.1.names.length=A.names.length:=h.ha.qa r1 (fun m=>by
  rw[r2]
  unfold eK
  split
  ·rename_i hm;rw[hm,hv];rfl
  ·rfl)
 refine⟨rfl,h.next r1 (GZ h.cz h.fresh r1 ag hR) r3 ag (fun m c' lr=>?_),r2,r4⟩
 rw[r2]at lr
 by_cases hm:m=cS
 ·subst hm
  rw[dp]at lr
  injection lr with lr
  exact .inr (.inl ⟨rfl,by rw[← lr];omega⟩)
 ·rw[dH _ _ hm]at lr
  exact .inl lr
def CS.open{jn:JN}{A':Ab}(h:CS k w u s ts)(hj:CJ j (s,jn) (gu ts))(hq:DQ k A')(qf:∀n c,vw s.A n=some c→vw A' n=some c)(Xk:∀n,(∀d,n≠iz d)→vw A' n=vw s.A n)(hk:k≤180)(hw:w≤100)(sV:j≤100)(hO:Bs 1048576 A' e t cs) :
  e=0∧Aj cs (gu ts)∧(∀n,n≠cS→vw t.1.A n=vw A' n)∧∀ek,gu ek=cs→CS k w (A'.aw.length+20) t.1 ek∧CJ w t (gu ek):=by
 obtain⟨C,n,ls,h1,h2,h3,h4,h5,h6,h7⟩:=hj.jr
 have Xe:vw A' cS=some C:=qf _ _ h1
 have nX:=my ls h6
 have hlen:=h2.len
 have ml:fe A' cS=ls:=by
  rw[Fb hq.ha Xe,h2.found ag ag]
  exact pS ls fun x hx=>by have:=h6 x hx;omega
 obtain⟨e1,B,ho,hO⟩:=hO
 obtain⟨rfl,rfl⟩:=hq.open ho
 rw[if_neg ag]at hO
 obtain⟨s',jn',hT,rfl⟩:=hO
 obtain⟨e2,A1,j1,hR,hT⟩:=hT
 simp only at hR hT
 have z8:=sL hR
 rw[ml]at hT
 unfold ot at hR
 rw[if_neg (by rw[ed,jF];simp),if_neg (by rw[hq.ha.on];simp),ml]at hR
 obtain⟨y1,hR,rfl,rfl⟩:=hR
 obtain⟨rfl,d1,v1,j1e⟩:=hq.put Xe hk ag hR
 rw[if_neg ag]at hT
 obtain⟨e3,s2,rs,hL,hT⟩:=hT
 obtain⟨C0,hC0⟩:∃C0,C0=ls.foldl dk []:=⟨_,rfl⟩
 rw[← hC0]at hL h7
 have acT:∀c∈C0,MX c:=fun c hc=>(pL ls).1 c (hC0 ▸ hc)
 have m9:∀c∈C0,GB y1.1 c:=fun c hc=>by
  obtain⟨i,hi⟩:=List.mem_iff_getElem?.1 hc
  obtain⟨c',lr,he⟩:=h7.left hi
  obtain⟨y,hy,rfl⟩:=List.mem_map.1 (List.mem_of_getElem? lr)
  have hb:=(h.u9 hy).of he (acT c hc).1
  refine hb.vw (fun b hb=>?_) ?_
  ·rw[v1,dH _ _ (jZ _)];exact qf _ _ hb
  ·rw[v1,dH _ _ (wR _)];exact Xk _ fun d e=>kF _ _ e.symm
 have kf:(C0.map fun c=>c.x.d).Nodup:=by rw[h7.nodup,Py];exact h.nd
 have hlC:C0.length≤w:=by
  have e1:=h7.1
  rw[tZ]at e1
  have:=On ts
  have:=h.wt
  omega
 obtain⟨rfl,rfl,rfl,rfl⟩:=wg (q:=1048576) d1 C0 [] _ [] e3 s2 _ rs rfl m9 (fun c hc=>by cases hc) (by simpa using kf) (by simp only[List.length_nil];omega) hL
 rw[if_neg ag]at hT
 obtain⟨A3,hC,rfl⟩:=hT
 simp only[List.nil_append]at hC ⊢
 have hwC:wC cs=wT ts:=by rw[Y' h7,Za]
 have hwt:=h.wt
 have EB:∀b∈cs.flatMap pn,b.length≤900:=fun b hb=>by
  obtain⟨c,hc,hb⟩:=List.mem_flatMap.1 hb
  exact NH (m9 c hc) b hb
 have OO:=xV cs
 have wO:=my _ EB
 have Xj:vw y1.1 cS=some (cf ls):=by rw[v1,dp]
 unfold oz at hC
 simp only[j1e]at hC
 rw[if_neg (by simp),if_neg (by
  rw[Bool.not_eq_true,List.any_eq_false]
  intro b hb
  have:=EB b hb
  simp;omega),if_neg ag]at hC
 obtain⟨y3,hR3,rfl,rfl⟩:=hC
 have hg3:=vu hR3
 obtain⟨rfl,d3,v3,j3e⟩:=d1.put Xj hk ag hR3
 have hv3:∀m,m≠cS→vw y3.1 m=vw B m:=fun m hm=>by rw[v3,dH _ _ hm,v1,dH _ _ hm]
 refine⟨rfl,h7,hv3,fun ek uF=>?_⟩
 have hgB:∀c∈cs,GB y3.1 c:=fun c hc=>(m9 c hc).vw (fun b hb=>by rw[v3,dH _ _ (jZ _)];exact hb) (by rw[v3,dH _ _ (wR _)])
 have e9:∀y∈ek,GB y3.1 y.c:=fun y hy=>hgB _ (by rw[← uF];exact List.mem_map.2 ⟨y,hy,rfl⟩)
 have MO:∀y∈ek,zv y.c:=fun y hy=>zv.told ls [] (fun c h=>by cases h) _ (by rw[← hC0,← uF];exact List.mem_map.2 ⟨y,hy,rfl⟩)
 have adD:=z8.1
 have adC:=hg3.1
 simp only at adD adC
 refine⟨⟨d3,rfl,fun z hz=>?_,fun y hy=>?_,?_,?_,fun y hy=>?_,?_,fun y hy=>(e9 y hy).has,fun y hy i hi=>(e9 y hy).LM i hi,?_,by simp only;omega,fun y hy=>MO y hy⟩,⟨cf (cs.flatMap pn),1,cs.flatMap pn,?_,JC.whole _,?_,ag,ag,EB,?_⟩⟩
 ·obtain⟨c,hc,rfl⟩:=List.mem_map.1 hz
  rw[← uF]at hc
  obtain⟨y,hy,rfl⟩:=List.mem_map.1 hc
  exact⟨rfl,y,hy,rfl⟩
 ·exact Bj (c:=y.c) kf (by rw[← uF];exact List.mem_map.2 ⟨y,hy,rfl⟩)
 ·show((nB cs).map (·.1)).Nodup
  unfold nB
  rw[List.map_map]
  exact kf
 ·show(nB cs).length≤w
  unfold nB
  rw[List.length_map]
  exact hlC
 ·exact⟨(e9 y hy).r,(e9 y hy).s,(e9 y hy).n,(e9 y hy).ok⟩
 ·rw[← Py,uF];exact kf
 ·rw[← Za,uF,hwC];exact hwt
 ·show vw y3.1 cS=_
  rw[v3,dp]
 ·rw[j3e]
  simp
 ·rw[uF]
  have:=DP (A:=y3.1) cs [] [] e7.nil hgB (by simpa using kf)
  simpa using this
structure nk(k w u j:Nat)(x:SJ)(ts:List Tk):Prop where
 cs:CS k w u x.1 ts
 cj:CJ j x (gu ts)
def nk.first(hR:Bs 1048576 (Ab.new 16777216) e t cs):e=0∧cs=[]∧(∀n,n≠cS→vw t.1.A n=none)∧nk 1 0 100 0 t []:=by
 have hR0:=hR
 obtain⟨rfl,rfl,a1,a2,a3,a4,a5,a6,a7,a8,a9,a10⟩:=Br (HA.new _) rfl (by show 64≤16777216;omega) hR0
 have Lq:Cz 1 t.1.A:=by
  obtain⟨e1,B,hO,hR⟩:=hR
  obtain⟨rfl,rfl⟩:=zt rfl hO
  rw[if_neg ag]at hR
  obtain⟨s,jn,⟨e2,A1,j1,XX,hR⟩,rfl⟩:=hR
  simp only at XX hR
  have lq:=BF (A:=Ab.new 16777216) rfl
  have hu0:(Ab.new 16777216).used=0:=rfl
  have hO2:=XX
  obtain⟨rfl,k1,k2,k3,k4,k5⟩:=ya (HA.new 16777216) ed jF oP (by rw[lq]) (by rw[lq]) (by show 0<200;omega) (by rw[hu0];show 0+32≤16777216;omega) XX
  rw[lq]at k2
  obtain⟨SR,S6⟩:=(HA.new 16777216).pJ k1 (k:=cS) (c:=cf []) (by rw[lq]) (by rw[k2,lq])
  have aes:A1.names.length=1:=S6
  have z1:Cz 1 A1:=by
   unfold ot at hO2
   rw[if_neg (by rw[ed,jF];simp),if_neg (by show ¬false=true;simp)]at hO2
   obtain⟨y1,hP1,rfl,_⟩:=hO2
   exact GZ (Cz.new 16777216) (by rw[lq]) k1 ag hP1
  rw[if_neg ag,k5]at hR
  obtain⟨e3,s2,rs,⟨rfl,rfl,-,rfl⟩,hR⟩:=hR
  rw[if_neg ag]at hR
  obtain⟨A3,hC,rfl⟩:=hR
  simp only at hC a1 a7 ⊢
  subst k4
  unfold oz at hC
  rw[if_neg (by simp),if_neg (by simp),if_neg (by simp)]at hC
  obtain⟨y,hP,rfl,rfl⟩:=hC
  exact GZ z1 (by rw[k2,dH _ _ oP]) a1 ag hP
 obtain⟨⟨A,bq,brk⟩,jn⟩:=t
 simp only at a1 a2 a3 a4 a5 a6 a7 a8 a9 a10 Lq
 subst a2 a3 a6
 have wL:(Ab.new 16777216).aw.length=1:=rfl
 refine⟨rfl,rfl,fun n hn=>by show vw A n=none;rw[a4,dH _ _ hn],⟨⟨⟨a1,Lq,a5,by simp only;omega,fun n c hc=>?_⟩,rfl,fun z hz=>(by cases hz),fun y hy=>(by cases hy),List.nodup_nil,Nat.le_refl _,fun y hy=>(by cases hy),List.nodup_nil,fun y hy=>(by cases hy),fun y hy=>(by cases hy),Nat.le_refl _,by simp only;omega,fun y hy=>(by cases hy)⟩,⟨cf [],1,[],?_,JC.whole _,rfl,ag,Nat.le_refl _,fun b hb=>(by cases hb),e7.nil⟩⟩⟩
 ·have mT:vw A n=some c:=hc
  rw[a4]at mT
  by_cases hp:n=cS
  ·subst hp
   rw[dp]at mT
   injection mT with mT
   refine .inl ⟨rfl,?_⟩
   rw[← mT,lS];omega
  ·rw[dH _ _ hp]at mT
   cases mT
 ·show vw A cS=_
  rw[a4,dp]
def nk.bnd{k:Nat}{ts:List Tk}(h:nk k w u j x ts)(hw:w≤150)(hu:u≤9000):ts.length≤150∧(∀y∈ts,y.n≤65536)∧(∀y∈ts,y.n≤y.ws.length*64)∧(∀y∈ts,y.ws.length≤65536)∧(∀y∈ts,∀k l,y.pf k=some l→l.length≤1000000)∧pt x.1.bq∧x.1.A.aw.length≤9000∧x.1.A.writes.length≤9000:=by
 have h1:=On ts
 have h2:=h.cs.wt
 have h3:=h.cs.kj
 have h4:=h.cs.bl
 have kQ:∀y∈ts,kJ y.c:=fun y hy=>(h.cs.ok y hy).2.2.2
 have hw0:x.1.A.writes=[]:=by
  cases hx:x.1.A.writes with
  | nil=>rfl
  | cons z l=>exact(h.cs.dq.cz.wr z (by rw[hx];simp)).elim
 refine⟨ag,fun y hy=>?_,fun y hy=>(kQ y hy).2.1,fun y hy=>(kQ y hy).2.2.1,fun y hy k l hk=>?_,⟨fun z hz=>?_,ag⟩,ag,by rw[hw0];simp⟩
 ·have:y.n≤1024:=(kQ y hy).1
  omega
 ·have:l.length≤10:=(kQ y hy).2.2.2 k l hk
  omega
 ·obtain⟨_,y,hy,WY⟩:=h.cs.bq z hz
  obtain⟨g1,g2,_⟩:=h.cs.ok y hy
  have:=eL g1
  rw[← WY]
  omega
def nk.sq{v:SJ}(h:nk k w u j x ts)(hj:j≤150)(hu:u≤9000)(hv:v.2=x.2)(hg:iM 5 x.1 v.1):SQ 10000 0 v:=by
 obtain⟨C,n,ls,h1,h2,h3,h4,h5,h6,h7⟩:=h.cj.jr
 have nX:=my ls h6
 have h8:=h.cs.kj
 have hw0:x.1.A.writes=[]:=by
  cases hx:x.1.A.writes with
  | nil=>rfl
  | cons z l=>exact(h.cs.dq.cz.wr z (by rw[hx];simp)).elim
 have z8:=hg.1
 have EK:=hg.2
 rw[hw0,List.length_nil]at EK
 refine⟨?_,?_,ag,ag⟩
 ·rw[hv,h3];simp only;omega
 ·rw[hv,h3];exact⟨by simp only;omega,by simp only;omega⟩
def nk.begin(h:nk k w u j x ts)(hk:k≤180)(hw:w≤150)(sV:j<100)(hs:bF b=true→b.size≤600)(hR:MH 1048576 b ts x false e ek jM t) :
  jM=false∧nk (k+1) (w+1) (u+20) (j+1) t ek∧e=(if(ts.any fun y=>decide (y.x.d=b.d))=true then 5 else if bF b=false then 1 else if(vw x.1.A (pA b.d)).isSome=true then 5 else 0) ∧
   (e≠0→ek=ts∧t=x)∧(e=0→gu ek=gu ts++[de b]∧∀n,n≠cS→vw t.1.A n=if n=iz b.d then some ((vw x.1.A n).getD [])else vw x.1.A n):=by
 obtain⟨h1,h2,h3,h4⟩:=h.cs.begin h.cj hk hw sV hs hR
 exact⟨h1,⟨h2,h3⟩,h4⟩
def nk.put{i:Int}{p:List Dg}(h:nk k w u j x ts)(hk:k≤180)(sV:j<100)(hR:Mc b i bs p ts x false e ek jM t) :
  jM=false∧nk k (w+1) (u+20) (j+1) t ek∧e=WL ts b i bs p ∧
   ((ek=ts∧t=x)∨∃(q:Nat) (y:Tk),ts[q]?=some y∧y.x=b∧0≤i∧i<y.n∧dF y.ws y.n i=false∧dw b i bs p=true∧ek=ts.set q (y.put i.toNat p)∧(∀m,m≠cS→m≠iz b.d→vw t.1.A m=vw x.1.A m)∧∃(c:List UInt8) (a n:Int),vw x.1.A (iz b.d)=some c∧dJ b i=some (a,n)∧vw t.1.A (iz b.d)=some (bN c a.toNat bs)):=by
 obtain⟨h1,h2,h3,h4⟩:=h.cs.put h.cj hk sV hR
 exact⟨h1,⟨h2,h3⟩,h4⟩
def nk.fin{ts:List Tk}{r:Int}(h:nk k w u j x ts)(hk:k≤180)(sV:j<100)(hR:Yz b ts x false r ek jM t) :
  jM=false∧nk (k+1) w (u+20) (j+1) t ek∧((fb ts b=none∧r=4∧ek=ts∧t=x)∨∃y∈ts,y.x=b∧((rD y.ws<y.n∧r=9∧ek=ts∧t=x) ∨
   (¬rD y.ws<y.n∧ek=mQ ts b.d∧∃c,vw x.1.A (iz b.d)=some c∧r=(if ej b c=false then 8 else 0)∧∀n,n≠cS→vw t.1.A n=nN (vw x.1.A) b (ej b c) n))):=by
 have hm:nk (k+1) w (u+20) (j+1) x ts:=⟨h.cs.mono ag (Nat.le_refl _) ag,h.cj.mono ag⟩
 rcases hR with⟨h1,_⟩|⟨_,hf,rfl,rfl,rfl,rfl⟩|⟨_,y,hf,hc⟩
 ·cases h1
 ·exact⟨rfl,hm,.inl ⟨hf,rfl,rfl,rfl⟩⟩
 obtain⟨q,hq,rfl⟩:=lV hf
 have hy:=List.mem_of_getElem? hq
 rcases hc with⟨h1,rfl,rfl,rfl,rfl⟩|⟨h1,e,v,⟨hI,hI2⟩,hc⟩
 ·exact⟨rfl,hm,.inr ⟨y,hy,rfl,.inl ⟨h1,rfl,rfl,rfl⟩⟩⟩
 obtain⟨c,oC⟩:=Option.isSome_iff_exists.1 (h.cs.has y hy).1
 have he:e=0∨e=8:=by
  cases hw:ej y.x c with
  | false=>exact .inr (wh h.cs.dq.ha h.cs.brk (h.cs.Ke y hy) oC hw hI).1
  | true=>exact .inl (zF h.cs.dq.ha h.cs.brk (h.cs.Ke y hy) oC (h.cs.has y hy).2 hw hI).1
 rcases hc with⟨h0,h8,_⟩|⟨_,e',hr,uF,rfl,gw⟩
 ·omega
 obtain⟨r0,rfl,r2,r3,r4⟩:=h.cs.over h.cj hk sV hy oC (inst:=true) (.inl ⟨rfl,hI⟩) hI2 gw
 rw[if_pos rfl]at hr uF
 subst uF
 refine⟨by decide,⟨r2,r3⟩,.inr ⟨y,hy,rfl,.inr ⟨h1,rfl,c,oC,?_,fun n hn=>by rw[r4 n hn,Bool.true_and]⟩⟩⟩
 rw[hr,r0]
 cases ej y.x c <;> rfl
def nk.abort{v t:SJ}{e':Nat}(h:nk k w u j x ts)(hk:k≤180)(sV:j<100)(hf:(fb ts b).isSome=true)(hA:dZ (gN b) x e v) :
  e=0∧∀ {e' t},iA (jD (Cu b.d)) v e' t→e'=0∧nk (k+1) w (u+20) (j+1) t (mQ ts b.d)∧∀n,n≠cS→vw t.1.A n=nN (vw x.1.A) b false n:=by
 obtain⟨y,hy⟩:=Option.isSome_iff_exists.1 hf
 obtain⟨q,hq,rfl⟩:=lV hy
 have Cf:=List.mem_of_getElem? hq
 obtain⟨c,oC⟩:=Option.isSome_iff_exists.1 (h.cs.has y Cf).1
 refine⟨(uD h.cs.dq.ha h.cs.brk (h.cs.Ke y Cf) oC hA.1).1,fun {e' t} gw=>?_⟩
 obtain⟨r0,rfl,r2,r3,r4⟩:=h.cs.over h.cj hk sV Cf oC (inst:=false) (.inr ⟨rfl,hA.1⟩) hA.2 gw
 exact⟨rfl,⟨r2,r3⟩,fun n hn=>by rw[r4 n hn,Bool.false_and]⟩
def nk.back(h:nk k w u j x ts)(hk:k≤180)(hw:w≤100)(sV:j≤100)(hO:Bs 1048576 (x.1.A.dA 0 [] (-1) 0) e t cs) :
  e=0∧Aj cs (gu ts)∧(∀n c,vw x.1.A n=some c→n≠cS→vw t.1.A n=some c)∧(∀n,(∀d,n≠iz d)→n≠cS→vw t.1.A n=vw x.1.A n)∧∀ek,gu ek=cs→nk k w 21 w t ek:=by
 obtain⟨d1,d2,d3⟩:=h.cs.dq.dA
 obtain⟨r1,r2,r3,r4⟩:=h.cs.open (jn:=x.2) h.cj d1 d2 d3 hk hw sV hO
 refine⟨r1,r2,fun n c hc hn=>by rw[r3 n hn];exact d2 n c hc,fun n hn hp=>by rw[r3 n hp,d3 n hn],fun ek uF=>?_⟩
 obtain⟨q1,q2⟩:=r4 ek uF
 exact⟨q1,q2⟩
def nk.again(h:nk k w u j x ts)(hk:k≤180)(hw:w≤100)(sV:j≤100)(hO:Bs 1048576 x.1.A e t cs) :
  e=0∧Aj cs (gu ts)∧(∀n,n≠cS→vw t.1.A n=vw x.1.A n)∧∀ek,gu ek=cs→nk k w (u+20) w t ek:=by
 obtain⟨r1,r2,r3,r4⟩:=h.cs.open (jn:=x.2) h.cj h.cs.dq (fun _ _ h=>h) (fun _ _=>rfl) hk hw sV hO
 refine⟨r1,r2,r3,fun ek uF=>?_⟩
 obtain⟨q1,q2⟩:=r4 ek uF
 exact⟨q1.mono (Nat.le_refl _) (Nat.le_refl _) (by have:=h.cs.kj;omega),q2⟩
def D1(l:List Dg)(i:Nat)(hn:1<l.length):dv l.length l i=((fT l.length i).bind fun s=>l[s]?).toList++dv (bH l).length (bH l) (i/2):=by
 rw[D0 l.length l i (Nat.le_refl _) hn,pV l.length (bH l).length (bH l) (i/2) (by rw[cY];omega) (Nat.le_refl _)]
attribute [local irreducible] J K aE Ends ae az aQ bP bj aT aU bp bW Sha.chunks Sha.chunk Sha.rounds Sha.sched dW cH db iv
def Md(A:HP)(v:Value)(l0:List Dg)(hv:Vw A v l0.length (l0.flatMap dC))(O1:l0.length≤1000000)(i:Int) :
    aE Tryz.prog 22 [v,.int .i64 i] [A] (fun r H=>(¬(0≤i∧i<l0.length∧l0.length≤1024)∧r = .tuple #[.slice none 0 0,.int .i64 1]∧H=[A]) ∨
      ∃rv,(0≤i∧i<l0.length∧l0.length≤1024)∧r = .tuple #[rv,.int .i64 0]∧H=[az 36 32 rv (dv l0.length l0 i.toNat).length ((dv l0.length l0 i.toNat).flatMap dC),A]):=by
  obtain⟨a,c,rfl⟩:=hv.shape
  refine aE.au Tryz.func22 Tryz.ntmps22 fun G F R hE=>?_
  by_cases kQ:0≤i∧i<l0.length∧l0.length≤1024
  case neg =>
    repeat'(first|(with_reducible intro pH)|refine gO ?_|refine iy zr zr zr zr ?_ ?_|refine aq zr zr ?_ ?_|fail)
    all_goals(first|(exfalso;omega)|skip)
    all_goals(
      refine go ?_
      ((refine ad hE Tryz.func22 zr zr (.inl ⟨kQ,rfl,rfl⟩))))
  obtain⟨k0,rfl⟩:∃k:Nat,i=k:=⟨i.toNat,ag⟩
  rw[Int.toNat_natCast]at hE
  refine go ?_
  refine aB 10 ((.bool false)) rfl ((congrArg Value.bool (decide_eq_false ag))) (go ?_)
  refine aB 16 ((.bool false)) rfl ((congrArg Value.bool (decide_eq_false ag))) (go ?_)
  refine bu 20 ((.bool false)) rfl ((congrArg Value.bool (decide_eq_false ag))) (go ?_)
  refine ai (bO 36 32 none _) ?_
  refine bz (fun y:List Dg × HP × Option Addr × Nat × Nat × List Dg × Option Addr × Nat=>y.1.length≤l0.length∧y.2.2.2.2.1<y.1.length∧Vw y.2.1 (.slice y.2.2.1 y.1.length y.2.2.2.1) y.1.length (y.1.flatMap dC)∧(∀h,y.2.1 h→∃h',sub h' h∧A h')∧dv l0.length l0 k0=y.2.2.2.2.2.1++dv y.1.length y.1 y.2.2.2.2.1∧y.2.2.2.2.2.1.length+y.1.length≤l0.length+1) (fun y=>y.1.length)
    (fun y=>[(1,.int .i64 (y.2.2.2.2.1:Int)),(6,.slice y.2.2.2.2.2.2.1 y.2.2.2.2.2.1.length y.2.2.2.2.2.2.2),(7,.slice y.2.2.1 y.1.length y.2.2.2.1)])
    (fun y=>az 36 32 (.slice y.2.2.2.2.2.2.1 y.2.2.2.2.2.1.length y.2.2.2.2.2.2.2) y.2.2.2.2.2.1.length (y.2.2.2.2.2.1.flatMap dC)::y.2.1::F) (l0,A,a,c,k0,[],none,0) ⟨Nat.le_refl _,by simp only;omega,hv,fun h hA=>⟨h,sub.refl h,hA⟩,rfl,by simp⟩ rfl cm ah ?_
  rintro⟨row,X,xa,xc,k,out,oa,oc⟩⟨EB,hk,hX,XV,SY,Rx⟩ ih
  simp only at EB hk hX XV SY Rx
  dsimp only
  refine go ?_
  refine aq zr zr ?_ ?_
  case' refine_2 =>
    intro abd
    rw[G0 row.length row k ag,List.append_nil]at SY
    rw[SY]at hE
    clear ih
    refine go ?_
    refine ai (ao.cons _ (ao.head (B:=[A]) fun h hs=>by obtain⟨h',s1,MN⟩:=XV h hs;exact⟨h',s1,gk MN⟩)) ?_
    refine ad hE Tryz.func22 zr zr (.inr ⟨_,kQ,rfl,rfl⟩)
  intro QC
  have z7:1<row.length:=by omega
  have rO:=D1 row k z7
  have pG:=cY row
  have RR:=Bp X _ _ hX ag
  obtain⟨bb,oo,cc,he⟩:=hX.some (by intro h;have:=congrArg List.length h;rw[cu cT]at this;simp at this;omega)
  simp only[Value.slice.injEq,true_and]at he
  obtain⟨rfl,rfl⟩:=he
  have SV:∀s,fT row.length k=some s→dv row.length row k=[row.getD s Dg.zero]++dv (bH row).length (bH row) (k/2):=fun s hs=>by
    obtain⟨h1,_⟩:=BN hk hs
    rw[rO,hs,List.getD_eq_getElem?_getD]
    simp[List.getElem?_eq_getElem h1]
  have adl:fT row.length k=none→dv row.length row k=dv (bH row).length (bH row) (k/2):=fun hs=>by rw[rO,hs];rfl
  have RQ:∀x:Dg,out.flatMap dC++dC x=(out++[x]).flatMap dC∧out.length+1=(out++[x]).length:=fun x=>⟨by simp,by simp⟩
  have py:∀(s:Nat) (hs:s<row.length) (q:Nat) (v:Value),(dC (row.getD s Dg.zero))[q]?=some v→(row.flatMap dC)[s*32+q]?=some v:=fun s hs q v hq=>by
    have hx:row[s]?=some (row.getD s Dg.zero):=by rw[List.getD_eq_getElem?_getD,List.getElem?_eq_getElem hs];rfl
    rw[cP cT hx q (by rcases Nat.lt_or_ge q 32 with h|h;exact h;rw[List.getElem?_eq_none (by rw[cT];exact h)]at hq;cases hq)]
    exact hq
  clear rO
  refine iN rfl ?_
  refine Bv 2 (fun y:List Dg × Option Addr × Nat=>dv l0.length l0 k0=y.1++dv (bH row).length (bH row) (k/2)∧y.1.length≤out.length+1) (fun y=>[(1,.int .i64 (k:Int)),(6,.slice y.2.1 y.1.length y.2.2),(7,.slice (some ⟨bb,oo,none⟩) row.length xc)]) (fun y=>az 36 32 (.slice y.2.1 y.1.length y.2.2) y.1.length (y.1.flatMap dC)::X::F) rfl ?_ ?_
  rotate_left
  · intro tail
    refine go ?_
    refine ou zr zr zr ag ag ?_
    by_cases yz:k%2=1
    · have hs:fT row.length k=some (k-1):=by unfold fT;rw[if_pos yz]
      have zY:k-1<row.length:=by omega
      have hp:=SV _ hs
      have ha:=RQ (row.getD (k-1) Dg.zero)
      refine aB 26 ((.int .i64 1)) rfl ((congrArg (Value.int .i64) ag)) (go ?_)
      refine cG (k-1) 32 zr zr zr zr zr zr zr ag zY ?_
      refine aK ?_
      refine cR (U:=aS) (es:=dC (row.getD (k-1) Dg.zero)) 1 ((k-1)*32) zr zr zr hX rfl (py _ zY) zr zr zr ?_
      refine aj (cs:=dC (row.getD (k-1) Dg.zero)) zr zr zr zr zr zr zr zr zr bD ?_
      intro r1
      refine go ?_
      refine aR (mm:=1) (news:=dC (row.getD (k-1) Dg.zero)) 1 0 zr zr zr zr zr zr zr zr zr zr zr zr (Vw.ae rfl) rfl (by rw[dz];exact cO _) ag (by show(_+_)*32≤_;omega) (fun _=>rfl) bD ?_
      intro v1
      rw[ha.1,ha.2]
      refine aN 1 rfl ?_
      rintro ja jc rfl
      refine pz ?_
      refine pC tail (out++[row.getD (k-1) Dg.zero],ja,jc) rfl ⟨by rw[SY,hp,List.append_assoc],by simp⟩ cm ah
    · refine aB 26 ((.int .i64 0)) rfl ((congrArg (Value.int .i64) ag)) (go ?_)
      by_cases zY:k+1<row.length
      · have hs:fT row.length k=some (k+1):=by unfold fT;rw[if_neg yz,if_pos zY]
        have hp:=SV _ hs
        have ha:=RQ (row.getD (k+1) Dg.zero)
        refine bu 40 ((.bool true)) rfl ((congrArg Value.bool (decide_eq_true ag))) (go ?_)
        refine cG (k+1) 32 zr zr zr zr zr zr zr ag zY ?_
        refine aK ?_
        refine cR (U:=aS) (es:=dC (row.getD (k+1) Dg.zero)) 1 ((k+1)*32) zr zr zr hX rfl (py _ zY) zr zr zr ?_
        refine aj (cs:=dC (row.getD (k+1) Dg.zero)) zr zr zr zr zr zr zr zr zr bD ?_
        intro r1
        refine go ?_
        refine aR (mm:=1) (news:=dC (row.getD (k+1) Dg.zero)) 1 0 zr zr zr zr zr zr zr zr zr zr zr zr (Vw.ae rfl) rfl (by rw[dz];exact cO _) ag (by show(_+_)*32≤_;omega) (fun _=>rfl) bD ?_
        intro v1
        rw[ha.1,ha.2]
        refine aN 1 rfl ?_
        rintro ja jc rfl
        refine pz ?_
        refine pC tail (out++[row.getD (k+1) Dg.zero],ja,jc) rfl ⟨by rw[SY,hp,List.append_assoc],by simp⟩ cm ah
      · have hs:fT row.length k=none:=by unfold fT;rw[if_neg yz,if_neg zY]
        have hp:=adl hs
        refine bu 40 ((.bool false)) rfl ((congrArg Value.bool (decide_eq_false ag))) ?_
        refine wY zr zr ?_
        refine pC tail (out,oa,oc) rfl ⟨by rw[SY,hp],by simp⟩ cm ah
  rintro⟨Q7,oa2,oc2⟩⟨aaY,adb⟩
  simp only at aaY adb
  dsimp only
  refine go ?_
  refine aF RR ?_
  rintro r _ rfl
  refine aN 0 rfl ?_
  rintro ra rc rfl
  refine aI (H':=az 36 32 (.slice ra (bH row).length rc) (bH row).length ((bH row).flatMap dC)::X::az 36 32 (.slice oa2 Q7.length oc2) Q7.length (Q7.flatMap dC)::F) ah ?_
  refine uq fun dM=>?_
  refine go ?_
  refine lI zr zr zr ag ag (by simp only[gn];omega) ?_
  refine aB 52 ((.int .i64 ((k/2:Nat):Int))) rfl ((congrArg (Value.int .i64) ag)) (go ?_)
  refine ai (ao.perm (List.Perm.swap ..)) ?_
  refine aM ih (bH row,Sep [az 36 32 (.slice ra (bH row).length rc) (bH row).length ((bH row).flatMap dC),X],ra,rc,k/2,Q7,oa2,oc2) rfl ⟨by simp only;omega,by simp only;omega,dM.mono (bh (i:=0) rfl),(fun h hs=>by
      obtain⟨h1,s1,MN⟩:=bh (H:=[az 36 32 (.slice ra (bH row).length rc) (bH row).length ((bH row).flatMap dC),X]) (i:=1) rfl h hs
      obtain⟨h2,s2,ru⟩:=XV h1 MN
      exact⟨h2,s2.trans s1,ru⟩),aaY,by simp only;omega⟩ (by simp only;omega) cm ah
end Go.Proofs.YtdigdgohdpeebaaGreatDoor
namespace Go.Proofs.YtdigdgohdpeebaaGreatDoor
open Go Go.SL
def sX(b:List UInt8)(k:Nat)(t:UInt8):List UInt8:=b.set k (b.getD k 0 ^^^ t)
def uI(b:List UInt8)(k:Nat)(t:UInt8):(sX b k t).length=b.length:=by simp[sX]
def rG(d:Dg)(k:Nat)(t:UInt8):Dg:=⟨sX d.bs k t,by rw[uI];exact d.len⟩
def tj(p:List Dg)(k:Nat)(t:UInt8):List Dg:=p.set (k%p.length) (rG (p.getD (k%p.length) Dg.zero) (k%32) t)
def Kd(p:List Dg)(k:Nat)(t:UInt8):(tj p k t).length=p.length:=by simp[tj]
def pZ(n:Int):Nat:=(BitVec.ofInt IntKind.i64.bits n &&& BitVec.ofInt IntKind.i64.bits 63).toNat
def Ef(n:Int):pZ n<64:=by
 unfold pZ
 rw[BitVec.toNat_and]
 have e1:(BitVec.ofInt IntKind.i64.bits (63:Int)).toNat=63:=by decide
 rw[e1]
 have := @Nat.and_le_right (BitVec.ofInt IntKind.i64.bits n).toNat 63
 omega
def Hd(n:Int):IntKind.i64.wrap ((BitVec.ofInt IntKind.i64.bits n &&& BitVec.ofInt IntKind.i64.bits 63).toNat:Int)=(pZ n:Int):=by
 have:=Ef n
 unfold pZ at this ⊢
 exact cQ (by simp only[gn];omega)
def kD(a:List UInt8)(m i n:Int)(t:UInt8):Bl × List UInt8 × List Dg:=match gx a m,dt a m with
 | some x,some l=>match dJ x i with
  | none=>(x,[],[])
  | some (at_,sz) =>
   let b:=(a.drop at_.toNat).take sz.toNat
   let p:=dv l.length l i.toNat
   if pZ n<b.length then(x,sX b (pZ n) t,p)else(x,b,if p=[]then p else tj p (pZ n) t)
 | _,_=>(Bl.zero,[],[])
def De(p q:UInt8):IntKind.u8.wrap ((BitVec.ofInt IntKind.u8.bits (p.toNat:Int) ^^^ BitVec.ofInt IntKind.u8.bits (q.toNat:Int)).toNat:Int)=((p ^^^ q).toNat:Int):=by
 have e:∀z:UInt8,(BitVec.ofInt IntKind.u8.bits (z.toNat:Int)).toNat=z.toNat:=fun z=>by
  rw[BitVec.ofInt_natCast,BitVec.toNat_ofNat]
  have:=z.toNat_lt
  exact Nat.mod_eq_of_lt (by show z.toNat<2 ^ 8;omega)
 rw[BitVec.toNat_xor,e,e,← UInt8.toNat_xor]
 have:=(p ^^^ q).toNat_lt
 exact cQ (by simp only[gn];omega)
def H6(b:List UInt8)(k:Nat)(t:UInt8):(bV b).set k (u8 t)=bV (b.set k t):=by simp[bV,List.map_set]
def LB(p:List Dg)(q j:Nat)(t:UInt8)(hq:q<p.length)(hj:j<32)(x:Dg)(hx:p[q]?=some x):(p.flatMap dC).set (q*32+j) (u8 (x.bs.getD j 0 ^^^ t))=(p.set q (rG x j t)).flatMap dC:=by
 have h1:dC (rG x j t)=(dC x).set j (u8 (x.bs.getD j 0 ^^^ t)):=by
  rw[dz,dz,H6]
  rfl
 refine List.ext_getElem? fun z=>?_
 have OC:∀l:List Dg,(l.flatMap dC).length=l.length*32:=fun l=>cu cT l
 rcases Nat.lt_or_ge z (p.length*32)with hz|hz
 case inr =>
  rw[List.getElem?_eq_none (by rw[List.length_set,OC];omega),List.getElem?_eq_none (by rw[OC,List.length_set];omega)]
 have hzq:z/32<p.length:=by omega
 obtain⟨y,hy⟩:∃y,p[z/32]?=some y:=⟨p[z/32],by simp[hzq]⟩
 have SM:z=z/32*32+z%32:=by omega
 have hpz:(p.flatMap dC)[z]?=(dC y)[z%32]? := by
  conv=>lhs;rw[SM]
  exact cP cT hy _ ag
 by_cases YI:z/32=q
 ·have AV:y=x:=by rw[YI,hx]at hy;injection hy with hy;exact hy.symm
  have hs:(p.set q (rG x j t))[z/32]?=some (rG x j t):=by rw[YI,List.getElem?_set_self hq]
  have hrz:((p.set q (rG x j t)).flatMap dC)[z]?=(dC (rG x j t))[z%32]? := by
   conv=>lhs;rw[SM]
   exact cP cT hs _ ag
  rw[hrz,h1]
  by_cases Db:z%32=j
  ·have hzz:z=q*32+j:=by omega
   rw[Db,List.getElem?_set_self (by rw[cT];exact hj),hzz,List.getElem?_set_self (by rw[OC];omega)]
  ·rw[List.getElem?_set_ne ag,List.getElem?_set_ne ag,hpz,AV]
 ·have hs:(p.set q (rG x j t))[z/32]?=some y:=by rw[List.getElem?_set_ne (fun e=>YI e.symm),hy]
  have hrz:((p.set q (rG x j t)).flatMap dC)[z]?=(dC y)[z%32]? := by
   conv=>lhs;rw[SM]
   exact cP cT hs _ ag
  rw[hrz,List.getElem?_set_ne ag,hpz]
structure Af where
 d:Int
 aa:Option Addr
 ac:Nat
 a:List UInt8
 m:Int
 i:Int
 n:Int
 cut:Int
 t:UInt8
 ba:Option Addr
 bc:Nat
 b:List UInt8
def kp(s:Af):List Value:=[.int .i64 s.d,.slice s.aa s.a.length s.ac,.int .i64 s.m,.int .i64 s.i,.int .i64 s.n,.int .i64 s.cut,u8 s.t,.slice s.ba s.b.length s.bc]
def pQ(s:Af):(kp s).length=8:=rfl
def Af.g(s:Af):Bl × List UInt8 × List Dg:=kD s.a s.m s.i s.n s.t
def Cw{a:List UInt8}{m:Int}{x:Bl}{l:List Dg}(hx:gx a m=some x)(hl:dt a m=some l):cq x=l.length∧x.size=a.length∧x.piece=m∧bF x=true:=by
 obtain⟨h1,h2,h3,_⟩:=pb hx
 refine⟨?_,h2,h3,h1⟩
 have hr:=h1
 simp only[bF,decide_eq_true_eq]at hr
 unfold dt at hl
 split at hl
 ·injection hl with hl
  rw[← hl,List.length_map,m8 m.toNat ag]
  unfold cq
  rw[if_pos h1,h2,h3]
  obtain⟨k,rfl⟩:∃k:Nat,m=k:=⟨m.toNat,ag⟩
  rw[Int.toNat_natCast]
  have:(((a.length+k-1)/k:Nat):Int)=((a.length:Int)+k-1)/k:=by
   rw[Int.natCast_ediv]
   congr 1
   omega
  rw[this]
 ·cases hl
def Em{a:List UInt8}{m:Int}:(gx a m=none∧dt a m=none)∨∃x l,gx a m=some x∧dt a m=some l:=by
 unfold gx
 cases h:dt a m with
 | none=>exact .inl ⟨rfl,rfl⟩
 | some l=>exact .inr ⟨_,l,rfl,rfl⟩
section
variable{P:Program}{U:Tr}[hU:fV P U]{f:FuncId}{n:Nat}{R:Ending→World→Prop}{G:cI}{k:List Item}{L:fD}{H H':List HP}{S:World→Prop}{all:Array Oper}{rest:Pl}{ty:TypeId}{pos:String}{af:Array Edge}{gd:Option (Nat × Bool)}{m:Bool}{d:Tmp}
end
attribute [local irreducible] J K aE Ends ae az aQ bP bj aT aU bp bW Sha.chunks Sha.chunk Sha.rounds Sha.sched dW cH db iv gx dt dv
def Lz(X:HP)(s:Af)(ha:eM X (.slice s.aa s.a.length s.ac) s.a)(Pf:s.a.length≤1000000) :
  aE Tryz.prog 8 [.agg (kp s).toArray] [X] (fun r H=>∃bv pv,r = .tuple #[eS s.g.1,bv,pv]∧H=[az 5 1 bv s.g.2.1.length (bV s.g.2.1),az 36 32 pv s.g.2.2.length (s.g.2.2.flatMap dC),X]):=by
 have hac:s.a.length≤s.ac:=by
  obtain⟨a',c',he,hc⟩:=ha.2
  simp only[Value.slice.injEq]at he
  obtain⟨-,-,rfl⟩:=he
  exact hc
 have abH:=F' X _ s.a ha ag s.m
 have Ta:=zw X _ s.a ha ag s.m
 refine aE.au Tryz.func8 Tryz.ntmps8 fun G F R hE=>?_
 refine aG rfl ?_
 refine bG zr zr bD ?_
 intro b1
 refine aC zr zr zr bD ?_
 intro b2
 refine aI (H':=ae b1 (cl (kp s) 44)::ae b2 (cl (bJ Bl.zero) 38)::X::F) (ah) (go ?_)
 refine aO abH ?_
 rcases Em (a:=s.a) (m:=s.m)with⟨rP,O1⟩|⟨x,l,uH,hlx⟩
 ·rw[rP]
  simp only
  have hg:s.g=(Bl.zero,[],[]):=by unfold Af.g kD;rw[rP]
  rw[hg]at hE
  have iQ:dJ Bl.zero s.i=none:=by
   cases h:dJ Bl.zero s.i with
   | none=>rfl
   | some w=>exact absurd (m6 (a:=w.1) (n:=w.2) (by rw[h])).2.2.2.2.2.2.2 (by decide)
  have po:=FB Bl.zero s.i
  rw[iQ]at po
  unfold eS at po ⊢
  refine go ?_
  refine aC zr zr zr bD ?_
  intro b5
  refine go ?_
  refine aI (H':=ae b5 (cl (bJ Bl.zero) 38)::ae b1 (cl (kp s) 44)::ae b2 (cl (bJ Bl.zero) 38)::X::F) (ah) (go ?_)
  refine aF Ta ?_
  rintro _ _ (⟨_,rfl,rfl⟩|⟨ls,rv,h1,rfl,rfl⟩)
  case' inr=>(rw[O1]at h1;cases h1)
  refine aI (H':=ae b5 (cl (bJ Bl.zero) 38)::ae b1 (cl (kp s) 44)::ae b2 (cl (bJ Bl.zero) 38)::X::F) (ah) (go ?_)
  refine aJ (U:=aS) (l:=bJ Bl.zero) 0 zr zr zr zr zr zr (go ?_)
  refine aO po ?_
  simp only
  refine go ?_
  refine aJ (U:=aS) (l:=bJ Bl.zero) 0 zr zr zr zr zr zr (go ?_)
  refine ai (H':=ae b2 (cl (bJ Bl.zero) 38)::X::F) (ah) ?_
  refine ai (ao.trans (bO 5 1 none _) (ao.cons _ (bO 36 32 none _))) ?_
  (refine bg hE ?_;apply aY (U:=aS) hE Tryz.func8 rfl (ao.refl _);(repeat(first|exact aP.nil|apply aP.tmp rfl|apply aP.agg 2 zr zr zr zr zr));exact⟨_,_,rfl,rfl⟩;exact ah)
 rw[uH]
 simp only
 obtain⟨ET,iY,sT,Rs⟩:=Cw uH hlx
 have po:=FB x s.i
 have hll:=k8 hlx
 have A8:s.g=(match dJ x s.i with
  | none=>(x,[],[])
  | some (at_,sz) =>
   if pZ s.n<((s.a.drop at_.toNat).take sz.toNat).length then(x,sX ((s.a.drop at_.toNat).take sz.toNat) (pZ s.n) s.t,dv l.length l s.i.toNat)else(x,(s.a.drop at_.toNat).take sz.toNat,if dv l.length l s.i.toNat=[]then dv l.length l s.i.toNat else tj (dv l.length l s.i.toNat) (pZ s.n) s.t)):=by
  unfold Af.g kD;rw[uH,hlx] <;> rfl
 unfold eS at po ⊢
 refine go ?_
 refine aC zr zr zr bD ?_
 intro b5
 refine go ?_
 refine aI (H':=ae b5 (cl (bJ x) 38)::ae b1 (cl (kp s) 44)::ae b2 (cl (bJ Bl.zero) 38)::X::F) (ah) (go ?_)
 refine aF Ta ?_
 rintro _ _ (⟨h1,rfl,rfl⟩|⟨ls,rv,h1,rfl,rfl⟩)
 case' inl=>(rw[hlx]at h1;cases h1)
 rw[hlx]at h1
 injection h1 with h1
 subst h1
 refine aN 0 rfl ?_
 rintro la lc rfl
 refine aI (H':=ae b5 (cl (bJ x) 38)::ae b1 (cl (kp s) 44)::az 36 32 (.slice la l.length lc) l.length (l.flatMap dC)::ae b2 (cl (bJ Bl.zero) 38)::X::F) (ah) (go ?_)
 refine aJ (U:=aS) (l:=bJ x) 0 zr zr zr zr zr zr (go ?_)
 refine aO po ?_
 cases iQ:dJ x s.i with
 | none =>
  rw[iQ]at A8
  simp only at A8 ⊢
  rw[A8]at hE
  refine go ?_
  refine aJ (U:=aS) (l:=bJ x) 0 zr zr zr zr zr zr (go ?_)
  refine ai (H':=ae b2 (cl (bJ x) 38)::X::F) (ah) ?_
  refine ai (ao.trans (bO 5 1 none _) (ao.cons _ (bO 36 32 none _))) ?_
  (refine bg hE ?_;apply aY (U:=aS) hE Tryz.func8 rfl (ao.refl _);(repeat(first|exact aP.nil|apply aP.tmp rfl|apply aP.agg 2 zr zr zr zr zr));exact⟨_,_,rfl,rfl⟩;exact ah)
 | some w =>
 obtain⟨at_,sz⟩:=w
 rw[iQ]at A8
 obtain⟨g0,g1,g2,g3,g4,g5,g6,g7⟩:=m6 iQ
 simp only at A8 ⊢
 obtain⟨an,rfl⟩:∃k:Nat,at_=k:=⟨at_.toNat,ag⟩
 obtain⟨zn,rfl⟩:∃k:Nat,sz=k:=⟨sz.toNat,ag⟩
 simp only[Int.toNat_natCast]at A8
 have Jq:=ha.piece an (an+zn) ag ag
 rw[show an+zn-an=zn from by omega]at Jq
 obtain⟨b,hb⟩:∃b,b=(s.a.drop an).take zn:=⟨_,rfl⟩
 have jO:b.length=zn:=by rw[hb,List.length_take,List.length_drop];omega
 rw[← hb]at Jq A8
 rw[← jO]at Jq
 refine aI (H':=ae b1 (cl (kp s) 44)::az 36 32 (.slice la l.length lc) l.length (l.flatMap dC)::X::ae b5 (cl (bJ x) 38)::ae b2 (cl (bJ Bl.zero) 38)::F) (ah) (go ?_)
 refine aj (cs:=[]) zr zr zr zr zr zr zr zr zr bD ?_
 intro r0
 refine go ?_
 refine bB (p:=(an:Int)) (q:=(an:Int)+(zn:Int)) zr zr zr zr zr zr zr ag ag (.inr ag) ?_
 ((refine aB 50 ((.slice (sliceAt s.aa s.ac an 1) b.length (s.ac-an))) rfl ((by rw[jO,show((an:Int)+(zn:Int)).toNat=an+zn from by omega,Int.toNat_natCast,show an+zn-an=zn from by omega];rfl)) ?_))
 refine aI (dR 5 1 r0 0 0 [] [] _ rfl (Nat.le_refl _) (by simp)) ?_
 refine aR (mm:=b.length) (news:=bV b) 0 3 zr zr zr zr zr zr zr zr zr zr zr zr Jq.1 (by show _=_*1;rw[bt];omega) (cO _) ag (by show(_+_)*1≤_;omega) (fun _=>rfl) bD ?_
 intro v1
 rw[show(0:Nat)+b.length=b.length from Nat.zero_add _,List.nil_append]
 refine aN 0 rfl ?_
 rintro da dc rfl
 refine aI (H':=az 36 32 (.slice la l.length lc) l.length (l.flatMap dC)::ae b1 (cl (kp s) 44)::X::az 5 1 (.slice da b.length dc) b.length (bV b)::ae b5 (cl (bJ x) 38)::ae b2 (cl (bJ Bl.zero) 38)::F) (ah) ?_
 refine pz ?_
 refine iN rfl ?_
 refine cV 0 rfl ?_
 intro hvl
 have ac5:=Md _ _ l hvl ag s.i
 refine go ?_
 refine aF ac5 ?_
 rintro _ _ (⟨lO,rfl,rfl⟩|⟨rv,_,rfl,rfl⟩)
 case' inl=>exact absurd ⟨g3,ag,ag⟩ lO
 obtain⟨p,hp⟩:∃p,p=dv l.length l s.i.toNat:=⟨_,rfl⟩
 have qX:p.length≤10:=by
  rw[hp,xX l.length l s.i.toNat ag]
  exact vj 10 _ _ _ ag
 rw[← hp]at A8 ⊢
 refine aN 0 rfl ?_
 rintro pa0 pc0 rfl
 refine iw 0 rfl ?_
 intro acK
 refine go ?_
 refine aj (cs:=[]) zr zr zr zr zr zr zr zr zr bD ?_
 intro r1
 refine go ?_
 refine aI (dR 36 32 r1 0 0 [] [] _ rfl (Nat.le_refl _) (by simp)) ?_
 refine aR (mm:=p.length) (news:=p.flatMap dC) 0 1 zr zr zr zr zr zr zr zr zr zr zr zr acK (by rw[cu cT];rfl) (Pv p) ag (by show(_+_)*32≤_;omega) (fun _=>rfl) bD ?_
 intro v2
 rw[show(0:Nat)+p.length=p.length from Nat.zero_add _,List.nil_append]
 refine aN 0 rfl ?_
 rintro pa pc rfl
 refine aI (H':=ae b1 (cl (kp s) 44)::az 5 1 (.slice da b.length dc) b.length (bV b)::az 36 32 (.slice pa p.length pc) p.length (p.flatMap dC)::X::ae b5 (cl (bJ x) 38)::ae b2 (cl (bJ Bl.zero) 38)::F) (ah) ?_
 obtain⟨k,hk⟩:∃k,k=pZ s.n:=⟨_,rfl⟩
 have aex:k<64:=by rw[hk];exact Ef s.n
 rw[← hk]at A8
 have RB:=Hd s.n
 rw[← hk]at RB
 refine go ?_
 by_cases hkb:k<b.length
 ·((refine bu 68 ((.bool true)) rfl ((congrArg Value.bool (decide_eq_true (by rw[RB];omega)))) ?_))
  refine bu 15 ((.int .i64 (k:Int))) rfl ((congrArg (Value.int .i64) RB)) ?_
  rw[if_pos hkb]at A8
  rw[A8]at hE
  have hbk:b[k]?=some (b.getD k 0):=by rw[List.getD_eq_getElem?_getD,List.getElem?_eq_getElem hkb];rfl
  have Pc:(bV b)[k]?=some (u8 (b.getD k 0)):=nC hbk
  have iq:(bV b).set k (u8 (b.getD k 0 ^^^ s.t))=bV (sX b k s.t):=H6 b k _
  refine ai (ao.pick [1] rfl) ?_
  refine cV 0 rfl ?_
  intro SO
  obtain⟨ob,oo,oc,he⟩:=SO.some (by rw[← List.length_pos_iff,bt];omega)
  simp only[Value.slice.injEq,true_and]at he
  obtain⟨rfl,rfl⟩:=he
  refine go ?_
  refine aH (fun w=>Sat G w ([az 5 1 (.slice (some ⟨ob,oo,none⟩) b.length dc) b.length (bV b),ae b1 (cl (kp s) 44)])) (df 0 8 (.act 8 .nil)) rfl ak ak ak eo ?_
  (repeat(first|refine gO ?_|refine bI k zr zr zr zr zr zr zr zr hkb ?_|(refine aK ?_;refine bX 0 k zr zr zr SO rfl Pc zr zr ?_)))
  refine aB 75 ((u8 (b.getD k 0 ^^^ s.t))) rfl ((congrArg (Value.int .u8) (De _ _))) ?_
  (repeat(fail))
  refine aV ?_
  refine iT (q:=k) 0 gB zr zr zr zr zr zr zr hkb rfl ?_
  rw[iq]
  refine aI (H':=ae b5 (cl (bJ x) 38)::ae b2 (cl (bJ Bl.zero) 38)::az 5 1 (.slice (some ⟨ob,oo,none⟩) b.length dc) b.length (bV (sX b k s.t))::az 36 32 (.slice pa p.length pc) p.length (p.flatMap dC)::X::F) (ah) (go ?_)
  refine aJ (U:=aS) (l:=bJ x) 0 zr zr zr zr zr zr (go ?_)
  ((refine ai (H':=az 5 1 (.slice (some ⟨ob,oo,none⟩) b.length dc) (sX b k s.t).length (bV (sX b k s.t))::az 36 32 (.slice pa p.length pc) p.length (p.flatMap dC)::X::ae b2 (cl (bJ x) 38)::F) ((by rw[uI];exact ah)) ?_))
  (refine bg hE ?_;apply aY (U:=aS) hE Tryz.func8 rfl (ao.refl _);(repeat(first|exact aP.nil|apply aP.tmp rfl|apply aP.agg 3 zr zr zr zr zr));exact⟨_,_,rfl,rfl⟩;exact ah)
 ((refine bu 68 ((.bool false)) rfl ((congrArg Value.bool (decide_eq_false (by rw[RB];omega)))) ?_))
 refine bu 15 ((.int .i64 (k:Int))) rfl ((congrArg (Value.int .i64) RB)) ?_
 rw[if_neg hkb]at A8
 refine go ?_
 by_cases Jl:p=[]
 ·rw[if_pos Jl]at A8
  rw[A8]at hE
  have aen:p.length=0:=by rw[Jl];rfl
  refine bu 79 ((.bool false)) rfl ((congrArg Value.bool (decide_eq_false ag))) ?_
  refine ai (H':=ae b5 (cl (bJ x) 38)::ae b2 (cl (bJ Bl.zero) 38)::az 5 1 (.slice da b.length dc) b.length (bV b)::az 36 32 (.slice pa p.length pc) p.length (p.flatMap dC)::X::F) (ah) (go ?_)
  refine aJ (U:=aS) (l:=bJ x) 0 zr zr zr zr zr zr (go ?_)
  refine ai (H':=az 5 1 (.slice da b.length dc) b.length (bV b)::az 36 32 (.slice pa p.length pc) p.length (p.flatMap dC)::X::ae b2 (cl (bJ x) 38)::F) (ah) ?_
  (refine bg hE ?_;apply aY (U:=aS) hE Tryz.func8 rfl (ao.refl _);(repeat(first|exact aP.nil|apply aP.tmp rfl|apply aP.agg 3 zr zr zr zr zr));exact⟨_,_,rfl,rfl⟩;exact ah)
 rw[if_neg Jl]at A8
 rw[A8]at hE
 have lA:=List.length_pos_iff.2 Jl
 obtain⟨j,hj⟩:∃j,j=k%p.length:=⟨_,rfl⟩
 have uG:j<p.length:=by rw[hj];exact Nat.mod_lt _ lA
 have Rn:p[j]?=some (p.getD j Dg.zero):=by rw[List.getD_eq_getElem?_getD,List.getElem?_eq_getElem uG];rfl
 obtain⟨d,hd⟩:∃d,d=p.getD j Dg.zero:=⟨_,rfl⟩
 rw[← hd]at Rn
 have h31:=pg k 5 ag ag
 have RD:k%32<32:=Nat.mod_lt _ ag
 have dm:(p.flatMap dC)[j*32+k%32]?=some (u8 (d.bs.getD (k%32) 0)):=by
  rw[cP cT Rn _ RD,dz]
  refine nC ?_
  rw[List.getD_eq_getElem?_getD,List.getElem?_eq_getElem (by rw[d.len];exact RD)]
  rfl
 have iq:=LB p j (k%32) s.t uG RD d Rn
 have htp:tj p k s.t=p.set j (rG d (k%32) s.t):=by unfold tj;rw[← hj,← hd]
 refine bu 79 ((.bool true)) rfl ((congrArg Value.bool (decide_eq_true ag))) ?_
 refine ai (ao.pick [2] rfl) ?_
 refine cV 0 rfl ?_
 intro hvp
 obtain⟨ob,oo,oc,he⟩:=hvp.some (by rw[← List.length_pos_iff,cu cT];omega)
 simp only[Value.slice.injEq,true_and]at he
 obtain⟨rfl,rfl⟩:=he
 refine go ?_
 refine aH (fun w=>Sat G w ([az 36 32 (.slice (some ⟨ob,oo,none⟩) p.length pc) p.length (p.flatMap dC),ae b1 (cl (kp s) 44)])) (df 0 15 (.act 15 .nil)) rfl ak ak ak eo ?_
 refine go ?_
 refine lQ ?_
 refine ou zr zr zr ag ag ?_
 ((refine aB 84 ((.int .i64 (j:Int))) rfl ((congrArg (Value.int .i64) (by rw[hj];omega))) ?_))
 refine go ?_
 refine aB 86 ((.int .i64 ((k%32:Nat):Int))) rfl ((congrArg (Value.int .i64) h31)) ?_
 (repeat(first|refine gO ?_|refine cG j 32 zr zr zr zr zr zr zr zr uG ?_|refine ew (U:=aS) (k%32) zr zr zr zr zr zr zr zr RD ?_|(refine aK ?_;refine bX 0 (j*32+k%32) zr zr zr hvp (Nat.add_assoc _ _ _) dm zr zr ?_)))
 refine aB 92 ((u8 (d.bs.getD (k%32) 0 ^^^ s.t))) rfl ((congrArg (Value.int .u8) (De _ _))) ?_
 (repeat(fail))
 refine aV ?_
 refine FN (U:=aS) (q:=j*32+k%32) 0 gB rfl (Nat.add_assoc _ _ _) zr zr zr zr zr zr lA ag rfl ?_
 rw[iq,← htp]
 refine aI (H':=ae b5 (cl (bJ x) 38)::ae b2 (cl (bJ Bl.zero) 38)::az 36 32 (.slice (some ⟨ob,oo,none⟩) p.length pc) p.length ((tj p k s.t).flatMap dC)::az 5 1 (.slice da b.length dc) b.length (bV b)::X::F) (ah) (go ?_)
 refine aJ (U:=aS) (l:=bJ x) 0 zr zr zr zr zr zr (go ?_)
 ((refine ai (H':=az 5 1 (.slice da b.length dc) b.length (bV b)::az 36 32 (.slice (some ⟨ob,oo,none⟩) p.length pc) (tj p k s.t).length ((tj p k s.t).flatMap dC)::X::ae b2 (cl (bJ x) 38)::F) ((by rw[Kd];exact ah)) ?_))
 (refine bg hE ?_;apply aY (U:=aS) hE Tryz.func8 rfl (ao.refl _);(repeat(first|exact aP.nil|apply aP.tmp rfl|apply aP.agg 3 zr zr zr zr zr));exact⟨_,_,rfl,rfl⟩;exact ah)
end Go.Proofs.YtdigdgohdpeebaaGreatDoor
namespace Go.Proofs.YtdigdgohdpeebaaGreatDoor
open Go Go.SL
variable{ts:List Tk}{j k u w:Nat}{x:SJ}
def FC(bs bd jb:Nat)(q:Int)(mb:Nat)(x:SJ)(F:List HP):ao (cB bs bd jb q mb [] x::F) (aD bd x.1.A::F):=by
 unfold cB cC
 refine(ao.cJ _ _).trans ?_
 simp only[List.cons_append,List.nil_append]
 exact ah
def DQ.wr{A:Ab}(h:DQ k A):A.writes=[]:=by
 cases hx:A.writes with
 | nil=>rfl
 | cons z l=>exact(h.cz.wr z (by rw[hx];simp)).elim
def nk.Tt(h:nk k w u j x ts)(hj:j≤100){A':Ab}(hq:DQ k A')(hv:vw A' cS=vw x.1.A cS):∀B,pq A' 0 B→B.writes.length≤700000000∧(fe B cS).length≤900000∧(∀y∈fe B cS,y.length≤1000000)∧((fe B cS).foldl dk []).length≤100:=by
 intro B hB
 obtain⟨_,rfl⟩:=hq.open hB
 obtain⟨C,n,ls,h1,h2,h3,h4,h5,h6,h7⟩:=h.cj.jr
 have nX:=my ls h6
 have hf:fe B cS=ls:=by
  rw[Fb hq.ha (hv.trans h1),h2.found ag ag]
  exact pS ls fun x hx=>by have:=h6 x hx;omega
 have ht:=(pL ls).2
 rw[hf,hq.wr]
 exact⟨by simp,ag,fun y hy=>by have:=h6 y hy;omega,ag⟩
def nk.abQ(h:nk k w u j x ts)(hj:j≤100):∀B,pq (x.1.A.dA 0 [] (-1) 0) 0 B→B.writes.length≤700000000∧(fe B cS).length≤900000∧(∀y∈fe B cS,y.length≤1000000)∧((fe B cS).foldl dk []).length≤100:=by
 obtain⟨d1,d2,d3⟩:=h.cs.dq.dA
 exact h.Tt hj d1 (d3 cS fun d e=>jZ d e.symm)
def nk.abR(h:nk k w u j x ts)(hj:j≤100):∀B,pq x.1.A 0 B→B.writes.length≤700000000∧(fe B cS).length≤900000∧(∀y∈fe B cS,y.length≤1000000)∧((fe B cS).foldl dk []).length≤100:=h.Tt hj h.cs.dq rfl
def E7(a:List UInt8)(m i n:Int)(t:UInt8):(kD a m i n t).1.size≤a.length:=by
 unfold kD
 split
 ·rename_i x l hx hl
  obtain⟨_,hs,_⟩:=pb hx
  split
  ·simp only;omega
  ·dsimp only
   split <;> (simp only;omega)
 ·show Bl.zero.size≤_
  have:Bl.zero.size=0:=rfl
  omega
def Sh(w:UInt8)(i:Nat):UInt8:=UInt8.ofNat (IntKind.u8.wrap ((w.toNat:Int)+IntKind.u8.wrap (1*2 ^ (min ((i:Int)%8).toNat IntKind.u8.bits)))).toNat
def ze(l:List Bool)(out:List UInt8)(i:Nat):List UInt8:=if l[i]?=some true then out.set (i/8) (Sh (out.getD (i/8) 0) i)else out
def eY(l:List Bool):Nat→List UInt8
 | 0=>List.replicate ((l.length+7)/8) 0
 | k+1=>ze l (eY l k) k
def jy(l:List Bool):List UInt8:=eY l l.length
def jz(l:List Bool):∀k,(eY l k).length=(l.length+7)/8
 | 0=>by simp[eY]
 | k+1=>by
  show(ze l (eY l k) k).length=_
  unfold ze
  split
  ·rw[List.length_set,jz l k]
  ·exact jz l k
def Dj(p:Int):0≤IntKind.u8.wrap p∧IntKind.u8.wrap p<256:=by
 unfold IntKind.wrap
 simp[IntKind.bits,IntKind.signed]
 omega
def M8{z:Int}(h0:0≤z)(h1:z<256):Value.int .u8 z=u8 (UInt8.ofNat z.toNat):=by
 simp only[u8,UInt8.toNat_ofNat']
 congr 1
 omega
def Sa{l:List Bool}{i:Nat}{b:Bool}(h:l[i]?=some b):(l.map Value.bool)[i]?=some (.bool b):=by simp[h]
attribute [local irreducible] J K aE Ends ae az aQ bP bj aT aU
def ME(sb:Nat)(lv:Value)(l:List Bool)(hl:l.length≤1000000) :
  aE Tryz.prog 50 [ptr sb] [ae sb (cl [lv] 107),az 4 1 lv l.length (l.map Value.bool)]
   (fun r H=>H=[az 5 1 r (jy l).length (bV (jy l)),ae sb (cl [lv] 107),az 4 1 lv l.length (l.map Value.bool)]):=by
 refine aE.au Tryz.func50 Tryz.ntmps50 fun G F R hE=>?_
 refine dg 1 rfl ?_
 rintro la lc rfl
 refine cV 1 rfl ?_
 intro hv
 refine go ?_
 refine lI zr zr zr ag ag (by simp only[gn];omega) ?_
 refine aB 11 ((.int .i64 (((l.length+7)/8:Nat):Int))) rfl ((congrArg (Value.int .i64) ag)) (go ?_)
 refine ij (p:=(l.length+7)/8) (q:=(l.length+7)/8) zr zr zr zr zr zr zr zr zr (Nat.le_refl _) ag (by show 1*_≤_;omega) bD ?_
 intro row
 refine go ?_
 refine ai (H':=az 5 1 (.slice (some ⟨row,0,none⟩) ((l.length+7)/8) ((l.length+7)/8)) ((l.length+7)/8) (bV (eY l 0))::ae sb (cl [.slice la l.length lc] 107)::az 4 1 (.slice la l.length lc) l.length (l.map Value.bool)::F) ?_ ?_
 ·refine ao.trans (H2:=ae row (cl (bV (eY l 0)) 5)::ae sb (cl [.slice la l.length lc] 107)::az 4 1 (.slice la l.length lc) l.length (l.map Value.bool)::F) ?_ ?_
  ·have e:bV (eY l 0)=List.replicate ((l.length+7)/8) (.int .u8 0):=by simp[eY,bV,u8]
   rw[e]
   exact ah
  ·have h:=dR 5 1 row ((l.length+7)/8) ((l.length+7)/8) (bV (eY l 0)) [] (ae sb (cl [.slice la l.length lc] 107)::az 4 1 (.slice la l.length lc) l.length (l.map Value.bool)::F) (by rw[bt,jz];omega) (Nat.le_refl _) (by rw[bt,jz];simp)
   rw[List.append_nil]at h
   exact h
 refine bz (fun g:Nat=>g≤l.length) (fun g=>l.length-g) (fun g=>[(0,ptr sb),(3,.slice (some ⟨row,0,none⟩) ((l.length+7)/8) ((l.length+7)/8)),(4,.int .i64 (g:Int))])
  (fun g=>az 5 1 (.slice (some ⟨row,0,none⟩) ((l.length+7)/8) ((l.length+7)/8)) ((l.length+7)/8) (bV (eY l g))::ae sb (cl [.slice la l.length lc] 107)::az 4 1 (.slice la l.length lc) l.length (l.map Value.bool)::F) 0 (Nat.zero_le _) rfl cm ah ?_
 intro i hi ih
 refine cV 0 rfl ?_
 intro W2
 refine go ?_
 refine aq zr zr ?_ ?_
 ·intro cW
  have tL:i<l.length:=by omega
  obtain⟨b,hb⟩:∃b,l[i]?=some b:=⟨l[i],by simp⟩
  obtain⟨bb,oo,cc,fO⟩:=hv.some (by rw[← List.length_pos_iff];simp;omega)
  simp only[Value.slice.injEq,true_and]at fO
  obtain⟨rfl,rfl⟩:=fO
  refine go ?_
  refine bI i zr zr zr zr zr zr zr zr tL ?_
  refine aK ?_
  refine aX 2 i zr zr zr hv rfl (Sa hb) zr zr ?_
  cases b with
  | false =>
   have e:eY l (i+1)=eY l i:=by show ze l (eY l i) i=_;unfold ze;rw[if_neg (by rw[hb];simp)]
   refine go ?_
   ((refine ai (H':=az 5 1 (.slice (some ⟨row,0,none⟩) ((l.length+7)/8) ((l.length+7)/8)) ((l.length+7)/8) (bV (eY l (i+1)))::ae sb (cl [.slice (some ⟨bb,oo,none⟩) l.length lc] 107)::az 4 1 (.slice (some ⟨bb,oo,none⟩) l.length lc) l.length (l.map Value.bool)::F) (by rw[e];exact ah) ?_))
   refine aM ih (i+1) rfl ag ag cm ah
  | true =>
   have hq:i/8<(l.length+7)/8:=by omega
   have dm:(bV (eY l i))[i/8]?=some (u8 ((eY l i).getD (i/8) 0)):=nC (by
    rw[List.getD_eq_getElem?_getD,List.getElem?_eq_getElem (by rw[jz];exact hq)]
    rfl)
   have e:eY l (i+1)=(eY l i).set (i/8) (Sh ((eY l i).getD (i/8) 0) i):=by show ze l (eY l i) i=_;unfold ze;rw[if_pos hb]
   refine go ?_
   refine lI zr zr zr ag ag (by simp only[gn];omega) ?_
   refine aB 31 ((.int .i64 ((i/8:Nat):Int))) rfl ((congrArg (Value.int .i64) ag)) (go ?_)
   refine lI zr zr zr ag ag (by simp only[gn];omega) ?_
   refine aB 34 ((.int .i64 ((i/8:Nat):Int))) rfl ((congrArg (Value.int .i64) ag)) (go ?_)
   refine bI (i/8) zr zr zr zr zr zr zr zr hq ?_
   refine aK ?_
   refine aX 0 (i/8) zr zr zr W2 rfl dm zr zr (go ?_)
   refine ou zr zr zr ag ag (go ?_)
   refine mK zr zr zr ag ?_
   refine Iu zr zr zr ?_
   refine aB 41 ((u8 (Sh ((eY l i).getD (i/8) 0) i))) rfl ((M8 (Dj _).1 (Dj _).2)) ?_
   refine bI (i/8) zr zr zr zr zr zr zr zr hq ?_
   refine aV ?_
   refine iT (q:=i/8) 0 gB zr zr zr zr zr zr zr hq rfl ?_
   rw[show(bV (eY l i)).set (i/8) (u8 (Sh ((eY l i).getD (i/8) 0) i))=bV (eY l (i+1))from by rw[e];simp[bV,List.map_set]]
   refine go ?_
   refine aM ih (i+1) rfl ag ag cm ah
 intro fg
 have rB:i=l.length:=by omega
 subst rB
 refine go ?_
 rw[show(l.length+7)/8=(jy l).length from(jz l l.length).symm]at *
 refine aL hE Tryz.func50 rfl _ zr zr ah
end Go.Proofs.YtdigdgohdpeebaaGreatDoor
