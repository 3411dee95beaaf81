import Derived.Test.YtlionahpheehaaaGreatDoorQTP4
import Derived.Test.YtlionahpheehaaaGreatDoorQTP7
import Derived.Test.YtlionahpheehaaaGreatDoorQTP9
import Derived.Test.YtlionahpheehaaaGreatDoorQTP12
import Derived.Test.YtlionahpheehaaaGreatDoorQTP13
set_option linter.unusedSimpArgs false
set_option linter.unusedVariables false
set_option maxHeartbeats 1000000
set_option maxRecDepth 20000
set_option linter.defProp false
namespace Go.Proofs.YtlionahpheehaaaGreatDoor
open Go Go.SL
attribute [local irreducible] J K aH Ends ak aK aV bX bj aS bp bD cp
def mV(l:List Mem):List Value:=l.flatMap No
def Vp(l:List Mem):mV l=l.flatMap No:=rfl
def uA(A X:HP)(v:Value)(l:List Mem)(hv:Vw A v l.length (mV l))(hlen:l.length≤1000000000)(g:FuncId)(cap:List Value)(p:Mem→Bool)(hf:∀x∈l,aH Tryz.prog g (.agg (No x).toArray::cap) [X] (fun v H=>v = .bool (p x)∧H=[X])) :
  aH Tryz.prog 237 [v,.func (.func g) #[] cap.toArray] [A,X] (fun r H=>r = .int .i64 (jt p l)∧H=[A,X]):=by
 obtain⟨a,c0,rfl⟩:=hv.shape
 refine aH.enter Tryz.func237 aw rfl Tryz.ntmps237 zr zr ?_
 intro G F R hR
 refine go ?_
 refine bF (fun i:Nat=>i≤l.length∧∀y∈l.take i,p y=false) (fun i=>l.length-i) (fun i=>[(0,.slice a l.length c0),(1,.func (.func g) #[] cap.toArray),(7,.int .i64 l.length),(8,.int .i64 i)]) (fun _=>[A,X]++F) 0 ⟨by simp,by simp⟩ rfl cF (aq.refl _) ?_
 rintro i⟨hi,hb⟩ ih
 refine go ?_
 refine aB zr zr ?_ ?_
 ·intro dk
  refine go ?_
  have e9:i<l.length:=by omega
  have hx:l[i]?=some l[i]:=by simp[e9]
  generalize hxx:l[i]=x at hx
  obtain⟨b,o,gV,ez⟩:=hv.some (by rw[← List.length_pos_iff,Vp,bR sY];omega)
  simp only[Value.slice.injEq]at ez
  obtain⟨rfl,_,rfl⟩:=ez
  refine cu i 4 zr zr zr zr zr zr zr zr e9 ?_
  refine cK (U:=bh) (es:=No x) 0 (i*4) zr zr zr hv rfl (fun j v hj=>?_) zr zr zr ?_
  ·have hj4:j<4:=by
    rcases Nat.lt_or_ge j 4 with h|h
    ·exact h
    ·rw[List.getElem?_eq_none (by rw[sY];exact h)]at hj;cases hj
   rw[Vp,cM sY hx j hj4];exact hj
  refine bM [1] zr zr zr zr (hf x (List.mem_of_getElem? hx)) rfl bI ?_
  rintro _ _⟨rfl,rfl⟩
  refine go ?_
  refine eX zr zr ?_ ?_
  ·intro hp
   refine go ?_
   refine aG hR Tryz.func237 rfl _ rfl ⟨by rw[iY hx hp hb];rfl,rfl⟩ (aq.fin [1,0] 0 zr zr)
  ·intro hp
   refine go ?_
   refine aQ ih (i+1) rfl ⟨aj,n8 hb hx hp⟩ aj cF (aq.pick [1,0] rfl)
 ·intro fO
  refine go ?_
  have:i=l.length:=by omega
  subst this
  refine aG hR Tryz.func237 rfl _ rfl ⟨by rw[j9 (fun x hx=>hb x (by simpa using hx))];rfl,rfl⟩ (aq.fin [0,1] 0 zr zr)
def pM(A X:HP)(v:Value)(l:List Mem)(hv:Vw A v l.length (mV l))(hlen:l.length≤1000000000)(g:FuncId)(cap:List Value)(p:Mem→Bool)(hf:∀x∈l,aH Tryz.prog g (.agg (No x).toArray::cap) [X] (fun v H=>v = .bool (p x)∧H=[X])) :
  aH Tryz.prog 205 [v,.func (.func g) #[] cap.toArray] [A,X] (fun r H=>r = .bool (l.any p)∧H=[A,X]):=by
 refine aH.aC Tryz.func205 Tryz.ntmps205 fun G F R hE=>?_
 refine go ?_
 refine aeb (uA A X v l hv hlen g cap p hf) ?_
 refine go ?_
 refine aE 4 ((.bool (l.any p))) rfl ((congrArg Value.bool (v8 p l))) ?_
 refine ah hE Tryz.func205 zr zr ⟨rfl,rfl⟩
def sX(i:Int):aH Tryz.prog 200 [.int .i64 i] [] (fun r H=>r = .bool (lR i)∧H=[]):=by
 refine aH.aC Tryz.func200 Tryz.ntmps200 fun G F R hE=>?_
 refine go ?_
 refine aeb (fu i 1 65536) ?_
 refine go ?_
 refine ah hE Tryz.func200 zr zr ⟨rfl,rfl⟩
def AI(x:Mem)(bo:Nat):aH Tryz.prog 202 [.agg (No x).toArray,ptr bo] [ak bo (cl [.func (.func 200) #[] #[] ] 129)] (fun r H=>r = .bool (lk x)∧H=[ak bo (cl [.func (.func 200) #[] #[] ] 129)]):=by
 refine aH.aC Tryz.func202 Tryz.ntmps202 fun G F R hE=>?_
 refine aP rfl ?_
 refine bJ zr zr bO ?_
 intro bx
 refine go ?_
 refine aeb (sX x.id) ?_
 have e1:lk x=(lR x.id || !tL x.inc 0 1073741824 || !tL x.st 1 3 || decide (x.since≠0)):=rfl
 cases h1:lR x.id with
 | true=>refine go ?_;((refine ah hE Tryz.func202 zr zr ⟨by rw[e1,h1];rfl,rfl⟩))
 | false =>
 refine go ?_
 refine aeb (fu x.inc 0 1073741824) ?_
 cases h2:tL x.inc 0 1073741824 with
 | false=>refine go ?_;((refine ah hE Tryz.func202 zr zr ⟨by rw[e1,h1,h2];rfl,rfl⟩))
 | true =>
 refine go ?_
 refine aeb (fu x.st 1 3) ?_
 cases h3:tL x.st 1 3 with
 | false=>refine go ?_;((refine ah hE Tryz.func202 zr zr ⟨by rw[e1,h1,h2,h3];rfl,rfl⟩))
 | true =>
 refine go ?_
 ((refine ah hE Tryz.func202 zr zr ⟨by rw[e1,h1,h2,h3];rfl,rfl⟩))
def wy(X:HP)(v:MV)(m:ef)(hm:gW X v m)(i:Int)(hi:1≤i∧i≤8):aH Tryz.prog 136 [.agg (mC v m).toArray,.int .i64 i] [X] (fun r H=>r = .bool (uq m i)∧H=[X]):=by
 obtain⟨vi,vb,vp,vm⟩:=v
 have hmi:=hm.vi
 have Rg:=hm.vm
 have Rj:=hm.li
 have hlm:=hm.lm
 obtain⟨ia,ic,rfl⟩:=hm.vi.shape
 obtain⟨ba,bc,rfl,_⟩:=hm.vb.2
 obtain⟨pa,pc,rfl⟩:=hm.vp.1.shape
 obtain⟨ma,mc,rfl⟩:=hm.vm.shape
 have hi:i=1∨i=2∨i=3∨i=4∨i=5∨i=6∨i=7∨i=8:=by omega
 refine aH.aC Tryz.func136 Tryz.ntmps136 fun G F R hE=>?_
 refine aP rfl ?_
 refine bJ zr zr bO ?_
 intro bx
 refine go ?_
 refine aL zr zr zr bO ?_
 intro bo
 rcases hi with rfl|rfl|rfl|rfl|rfl|rfl|rfl|rfl
 case inr.inr.inl =>
  refine go ?_
  refine aeb (fu m.piece 0 1023) ?_
  refine go ?_
  refine ah hE Tryz.func136 zr zr ⟨rfl,rfl⟩
 case inr.inr.inr.inl =>
  repeat'(first|(with_reducible intro k9)|refine g9 ?_|refine dA zr zr zr zr ?_ ?_|fail)
  ·have e1:uq m 4 = !m.ids.any lR:=by show(decide ((m.ids.length:Int)≤64) && !m.ids.any lR)=_;rw[decide_eq_true k9];rfl
   rw[e1]at hE
   refine aeb (pN X (ak bo (cl [.func (.func 200) #[] #[] ] 129)) (.slice ia m.ids.length ic) m.ids hmi Rj 200 [] lR (fun x _=>(sX x).RH _)) ?_
   refine go ?_
   refine ah hE Tryz.func136 zr zr ⟨rfl,rfl⟩
  ·have e1:uq m 4=false:=by show(decide ((m.ids.length:Int)≤64) && !m.ids.any lR)=_;rw[decide_eq_false k9];rfl
   rw[e1]at hE
   refine ah hE Tryz.func136 zr zr ⟨rfl,rfl⟩
 case inr.inr.inr.inr.inl =>
  refine go ?_
  refine aO (fun w=>Sat G w ([X,ak bx (cl (mC ⟨.slice ia m.ids.length ic,.slice ba m.bytes.length bc,.slice pa m.proof.length pc,.slice ma m.dz.length mc⟩ m) 55)])) (dM 0 5 (.act 5 (.act 6 (.st 7 .nil)))) rfl aw aw aw dI ?_
  refine go ?_
  refine Vd (GX m.kind) ?_
  refine go ?_
  refine Vd (fu m.bytes.length 1 (vU m.kind)) ?_
  refine go ?_
  refine ah hE Tryz.func136 zr zr ⟨rfl,rfl⟩
 case inr.inr.inr.inr.inr.inr.inl =>
  refine go ?_
  refine aeb (fu m.dz.length 1 65) ?_
  cases h1:tL m.dz.length 1 65 with
  | false =>
   have e1:uq m 7=false:=by show(tL m.dz.length 1 65 && !m.dz.any lk)=_;rw[h1];rfl
   rw[e1]at hE
   refine go ?_
   refine ah hE Tryz.func136 zr zr ⟨rfl,rfl⟩
  | true =>
   have e1:uq m 7 = !m.dz.any lk:=by show(tL m.dz.length 1 65 && !m.dz.any lk)=_;rw[h1];rfl
   rw[e1]at hE
   refine go ?_
   refine aeb (pM X _ (.slice ma m.dz.length mc) m.dz Rg hlm 202 [ptr bo] lk (fun x _=>AI x bo)) ?_
   refine go ?_
   refine ah hE Tryz.func136 zr zr ⟨rfl,rfl⟩
 all_goals(
  refine go ?_
  ((refine ah hE Tryz.func136 zr zr ⟨rfl,rfl⟩)))
def Cq(m:ef)(i:Nat):Bool:=(List.range i).all fun j=>decide (j=0) || fR m j
def xJ(m:ef)(i:Nat):Cq m (i+1)=(Cq m i && (decide (i=0) || fR m i)):=by unfold Cq;rw[List.range_succ,List.all_append];simp
def C9(m:ef):Cq m 9=dE m:=by
 simp only[xJ,show Cq m 0=true from rfl,dE]
 rfl
def Ly{m:ef}{i:Nat}(h:Cq m (i+1)=false)(hi:i≤8):dE m=false:=by
 rw[← C9]
 have key:∀k,Cq m (i+1+k)=false:=fun k=>by
  induction k with
  | zero=>exact h
  | succ k ih=>rw[show i+1+(k+1)=(i+1+k)+1 from rfl,xJ,ih];rfl
 have:=key (8-i)
 rwa[show i+1+(8-i)=9 by omega]at this
def A0(k:Int):(da k).length≤5:=by
 unfold da
 repeat' split
 all_goals decide
def pV(X:HP)(v:MV)(m:ef)(hm:gW X v m):aH Tryz.prog 54 [.agg (mC v m).toArray] [X] (fun r H=>r = .bool (dE m)∧H=[X]):=by
 have Kc:=A0 m.kind
 refine aH.aC Tryz.func54 Tryz.ntmps54 fun G F R hE=>?_
 refine aP rfl ?_
 refine bJ zr zr bO ?_
 intro bx
 refine go ?_
 refine ao (lK m.kind) ?_
 rintro _ _ rfl
 refine aN 0 rfl ?_
 rintro ha hc rfl
 refine go ?_
 refine bF (fun i:Nat=>1≤i∧i≤9∧Cq m i=true) (fun i=>9-i) (fun i=>[(1,ptr bx),(3,.slice ha (da m.kind).length hc),(4,.int .i64 (i:Int))])
  (fun _=>aK 3 1 (.slice ha (da m.kind).length hc) (da m.kind).length (iV (da m.kind))::ak bx (cl (mC v m) 55)::X::F) 1 ⟨aj,aj,rfl⟩ rfl cF ad ?_
 rintro i⟨VU,hi9,k8⟩ ih
 refine go ?_
 refine aB zr zr ?_ ?_
 case' refine_2 =>
  intro fO
  have:i=9:=by omega
  subst this
  rw[C9]at k8
  rw[k8]at hE
  refine go ?_
  refine ah hE Tryz.func54 zr zr ⟨rfl,rfl⟩
 intro hle
 have hs:=xJ m i
 rw[k8,decide_eq_false (show ¬i=0 by omega),Bool.true_and,Bool.false_or]at hs
 refine go ?_
 refine eZ 0 rfl ?_
 intro dH
 refine aeb (uD _ _ (da m.kind) (i:Int) dH aj) ?_
 by_cases nI:(i:Int)∈da m.kind
 ·rw[decide_eq_true nI]
  have hs:Cq m (i+1)=uq m i:=by rw[hs];unfold fR;rw[if_pos nI]
  cases hf:uq m (i:Int)with
  | true =>
   refine go ?_
   refine ct 1 zr zr zr zr zr zr (go ?_)
   refine aeb (wy X v m hm i ⟨aj,aj⟩) ?_
   rw[hf]
   refine go ?_
   refine aQ ih (i+1) rfl ⟨aj,aj,hs.trans hf⟩ aj cF ad
  | false =>
   rw[Ly (hs.trans hf) aj]at hE
   refine go ?_
   refine ct 1 zr zr zr zr zr zr (go ?_)
   refine aeb (wy X v m hm i ⟨aj,aj⟩) ?_
   rw[hf]
   refine go ?_
   refine ah hE Tryz.func54 zr zr ⟨rfl,rfl⟩
 ·rw[decide_eq_false nI]
  have hs:Cq m (i+1)=H7 m i:=by rw[hs];unfold fR;rw[if_neg nI]
  cases hf:H7 m (i:Int)with
  | true =>
   refine go ?_
   refine ct 1 zr zr zr zr zr zr (go ?_)
   refine aeb (wL X v m hm i ⟨aj,aj⟩) ?_
   rw[hf]
   refine go ?_
   refine aQ ih (i+1) rfl ⟨aj,aj,hs.trans hf⟩ aj cF ad
  | false =>
   rw[Ly (hs.trans hf) aj]at hE
   refine go ?_
   refine ct 1 zr zr zr zr zr zr (go ?_)
   refine aeb (wL X v m hm i ⟨aj,aj⟩) ?_
   rw[hf]
   refine go ?_
   refine ah hE Tryz.func54 zr zr ⟨rfl,rfl⟩
end Go.Proofs.YtlionahpheehaaaGreatDoor
namespace Go.Proofs.YtlionahpheehaaaGreatDoor
open Go Go.SL
def jO:∀(l:List Int),(∀n∈l,0≤n∧n≤9223372036854775807)→(bZ l).length≤10*l.length
 | [],_=>by simp[bZ]
 | n::l,h=>by
  have h1:=jO l fun x hx=>h x (List.mem_cons_of_mem _ hx)
  have h2:=h n (List.mem_cons_self ..)
  have h3:=lL (n:=n.toNat) aj
  simp only[bZ,List.flatMap_cons,List.length_append,List.length_cons]at h1 ⊢
  omega
def Aa(l r:List Int):bZ (l++r)=bZ l++bZ r:=by simp[bZ]
attribute [local irreducible] J K aH Ends ak aK aV bX bj aS bp bD cp
def gB(A:HP)(v:Value)(l:List Int)(hv:Vw A v l.length (iV l))(hl:l.length≤10000000)(hn:∀n∈l,0≤n∧n≤9223372036854775807) :
  aH Tryz.prog 138 [v] [A] (fun r H=>H=[aK 5 1 r (bZ l).length (bV (bZ l)),A]):=by
 obtain⟨a,c,rfl⟩:=hv.shape
 refine aH.aC Tryz.func138 Tryz.ntmps138 fun G F R hE=>?_
 refine go ?_
 refine al (bS 5 1 none _) ?_
 refine bF (fun y:Nat × List UInt8 × Option Addr × Nat=>y.1≤l.length∧y.2.1=bZ (l.take y.1)) (fun y=>l.length-y.1)
  (fun y=>[(3,.slice y.2.2.1 y.2.1.length y.2.2.2),(6,.slice a l.length c),(7,.int .i64 (l.length:Int)),(8,.int .i64 (y.1:Int))])
  (fun y=>aK 5 1 (.slice y.2.2.1 y.2.1.length y.2.2.2) y.2.1.length (bV y.2.1)::A::F) (0,[],none,0) ⟨Nat.zero_le _,rfl⟩ rfl cF ad ?_
 rintro⟨i,acc,a1,c1⟩⟨hi,gH⟩ ih
 simp only at hi gH
 have Ck:=jO (l.take i) (fun n h=>hn n (List.mem_of_mem_take h))
 rw[← gH,List.length_take,Nat.min_eq_left hi]at Ck
 refine go ?_
 refine aB zr zr ?_ ?_
 case' refine_2 =>
  intro fO
  simp only at fO
  have eA:acc=bZ l:=by rw[gH,List.take_of_length_le aj]
  subst eA
  refine go ?_
  refine aG hE Tryz.func138 rfl _ zr zr ad
 intro dk
 simp only at dk
 have e9:i<l.length:=by omega
 obtain⟨x,hx⟩:∃x,l[i]?=some x:=⟨l[i],by simp⟩
 obtain⟨h0,h1⟩:=hn x (List.mem_of_getElem? hx)
 obtain⟨n,rfl⟩:∃n:Nat,x=n:=⟨x.toNat,aj⟩
 have ht:bZ (l.take (i+1))=acc++uv n:=by
  rw[List.take_add_one,hx,Option.toList_some,Aa,← gH];simp[bZ]
 have hun:=lL (n:=n) aj
 obtain⟨b,o,c',he⟩:=hv.some (ine e9)
 simp only[Value.slice.injEq,true_and]at he
 obtain⟨rfl,rfl⟩:=he
 refine go ?_
 refine bW i zr zr zr zr zr zr zr zr e9 ?_
 refine aZ 1 i zr zr zr hv rfl (Ba hx) zr zr (go ?_)
 refine ao (fK n aj) ?_
 rintro r _ rfl
 refine aN 0 rfl ?_
 rintro ra rc rfl
 refine eZ 0 rfl ?_
 intro r'
 refine go ?_
 refine bg (mm:=(uv n).length) (news:=bV (uv n)) 1 0 zr zr zr zr zr zr zr zr zr zr zr zr r' (by show _=_*1;rw[bN];omega) (dR _) (by simp only;omega) (by show(_+_)*1≤_;simp only;omega) (fun _=>rfl) bO ?_
 intro v1
 simp only
 rw[show bV acc++bV (uv n)=bV (acc++uv n)from by simp[bV],show acc.length+(uv n).length=(acc++uv n).length from by simp]
 refine aN 1 rfl ?_
 rintro a2 c2 rfl
 refine go ?_
 refine aQ ih (i+1,acc++uv n,a2,c2) rfl ⟨by simp only;omega,by simp only;rw[ht]⟩ (by simp only;omega) cF ad
theorem eU.ak{b o n:Nat}{bs:List UInt8}{l:List Value}{e:TypeId}(hn:bs.length=n)(hl:(l.drop o).take n=bV bs):eU (ak b (cl l e)) (.slice (some ⟨b,o,none⟩) n n) bs:=by
 subst hn
 exact⟨Vw.ak (by rw[bN];exact hl),_,_,rfl,Nat.le_refl _⟩
def xI(l:List Dg):(l.flatMap Dg.bs).length=32*l.length:=by
 induction l with
 | nil=>rfl
 | cons x l ih=>simp only[List.flatMap_cons,List.length_append,List.length_cons,ih,x.len];omega
def EO{l:List Mem}(h:l.any lk=false):∀x∈l,1≤x.id∧x.id≤65536∧0≤x.inc∧x.inc≤1073741824∧1≤x.st∧x.st≤3∧x.since=0:=by
 intro x hx
 have h1:=List.any_eq_false.1 h x hx
 simp only[lk,lR,tL,Bool.or_eq_true,Bool.not_eq_true',Bool.and_eq_false_iff,decide_eq_true_eq,decide_eq_false_iff_not]at h1
 omega
def G0(x:Mem)(h:0≤x.id∧x.id≤9223372036854775807∧0≤x.inc∧x.inc≤9223372036854775807∧0≤x.st∧x.st≤9223372036854775807):(bZ [x.id,x.inc,x.st]).length≤30 :=
 jO [x.id,x.inc,x.st] (by intro n hn;simp at hn;omega)
def GZ{l:List Mem}(h:∀x∈l,1≤x.id∧x.id≤65536∧0≤x.inc∧x.inc≤1073741824∧1≤x.st∧x.st≤3∧x.since=0):(l.flatMap fun x=>bZ [x.id,x.inc,x.st]).length≤30*l.length:=by
 induction l with
 | nil=>simp
 | cons x l ih =>
  have h1:=ih fun y hy=>h y (List.mem_cons_of_mem _ hy)
  have h2:=h x (List.mem_cons_self ..)
  have h3:=G0 x aj
  simp only[List.flatMap_cons,List.length_append,List.length_cons]at h1 ⊢
  omega
def HY(X:HP)(v:MV)(m:ef)(hm:gW X v m)(i:Int)(hi:1≤i∧i≤8)(hf:uq m i=true)(hk:0≤m.kind∧m.kind≤9223372036854775807) :
  aH Tryz.prog 56 [.agg (mC v m).toArray,.int .i64 i] [X] (fun r H=>∃Y,eU (Sep [Y,X]) r (de m i)∧H=[Y,X]):=by
 obtain⟨vi,vb,vp,vm⟩:=v
 have hmi:=hm.vi
 have hmb:=hm.vb
 have NO:=hm.vp.1
 have Rg:=hm.vm
 have Rj:=hm.li
 have hlm:=hm.lm
 obtain⟨ia,ic,rfl⟩:=hm.vi.shape
 obtain⟨ba,bc,rfl,_⟩:=hm.vb.2
 obtain⟨pa,pc,rfl⟩:=hm.vp.1.shape
 obtain⟨ma,mc,rfl⟩:=hm.vm.shape
 have hi:i=1∨i=2∨i=3∨i=4∨i=5∨i=6∨i=7∨i=8:=by omega
 have hu:∀(n:Int) (b:Nat) (e:TypeId) (H:List HP),Vw (ak b (cl [Value.int .i64 n] e)) (.slice (some ⟨b,0,none⟩) 1 1) [n].length (iV [n]):=fun n b e H=>Vw.ak rfl
 have tN:∀(Y:HP) (bs:List UInt8) (r:Value),eU Y r bs→eU (Sep [Y,X]) r bs:=fun Y bs r h=>h.mono (aX (i:=0) rfl)
 refine aH.aC Tryz.func56 Tryz.ntmps56 fun G F R hE=>?_
 refine aP rfl ?_
 refine bJ zr zr bO ?_
 intro bx
 rcases hi with rfl|rfl|rfl|rfl|rfl|rfl|rfl|rfl
 ·refine go ?_
  refine az zr zr zr zr zr zr zr zr zr bO ?_
  intro row
  refine go ?_
  ((refine ao (gB _ _ [m.kind] (hu m.kind row _ []) (by simp) (by intro n hn;simp at hn;omega)) ?_))
  rintro r _ rfl
  refine fY (bs:=bZ [m.kind]) 0 rfl ?_
  intro r'
  refine go ?_
  refine ah hE Tryz.func56 zr zr ⟨_,tN _ _ _ r',rfl⟩
 ·refine go ?_
  refine iP (U:=bh) zr zr zr zr zr (go ?_)
  have hh:eU (ak bx (cl (mC ⟨.slice ia m.ids.length ic,.slice ba m.bytes.length bc,.slice pa m.proof.length pc,.slice ma m.dz.length mc⟩ m) 55)) (.slice (some ⟨bx,1,none⟩) 32 32) (de m 2):=eU.ak m.hash.len (fg m.hash)
  refine ah hE Tryz.func56 zr zr ⟨_,tN _ _ _ hh,rfl⟩
 ·have h3:=mG.1 (show tL m.piece 0 1023=true from hf)
  refine go ?_
  refine az zr zr zr zr zr zr zr zr zr bO ?_
  intro row
  refine go ?_
  ((refine ao (gB _ _ [m.piece] (hu m.piece row _ []) (by simp) (by intro n hn;simp at hn;omega)) ?_))
  rintro r _ rfl
  refine fY (bs:=bZ [m.piece]) 0 rfl ?_
  intro r'
  refine go ?_
  refine ah hE Tryz.func56 zr zr ⟨_,tN _ _ _ r',rfl⟩
 ·have h4:m.ids.length≤64∧∀n∈m.ids,0≤n∧n≤9223372036854775807:=by
   have h:(decide ((m.ids.length:Int)≤64) && !m.ids.any lR)=true:=hf
   rw[Bool.and_eq_true,decide_eq_true_eq,Bool.not_eq_true']at h
   refine⟨aj,fun n hn=>?_⟩
   have:=List.any_eq_false.1 h.2 n hn
   simp only[lR,tL,Bool.not_eq_true',Bool.and_eq_false_iff,decide_eq_false_iff_not]at this
   omega
  refine go ?_
  refine ao (gB X _ m.ids hmi aj h4.2) ?_
  rintro r _ rfl
  refine fY (bs:=bZ m.ids) 0 rfl ?_
  intro r'
  refine go ?_
  refine ah hE Tryz.func56 zr zr ⟨_,tN _ _ _ r',rfl⟩
 ·refine go ?_
  refine ah hE Tryz.func56 zr zr ⟨ak bx (cl (mC _ m) 55),hmb.mono (aX (i:=1) rfl),rfl⟩
 ·have h6:m.proof.length≤10:=by
   have h:decide ((m.proof.length:Int)≤10)=true:=hf
   have:=of_decide_eq_true h;omega
  refine go ?_
  refine bF (fun y:Nat × List UInt8 × Option Addr × Nat=>y.1≤m.proof.length∧y.2.1=(m.proof.take y.1).flatMap Dg.bs) (fun y=>m.proof.length-y.1)
   (fun y=>[(5,.slice y.2.2.1 y.2.1.length y.2.2.2),(39,.slice pa m.proof.length pc),(40,.int .i64 (m.proof.length:Int)),(41,.int .i64 (y.1:Int))])
   (fun y=>aK 5 1 (.slice y.2.2.1 y.2.1.length y.2.2.2) y.2.1.length (bV y.2.1)::X::F) (0,[],none,0) ⟨Nat.zero_le _,rfl⟩ rfl cF (aq.trans ad (bS 5 1 none _)) ?_
  rintro⟨i,acc,a1,c1⟩⟨hi,gH⟩ ih
  simp only at hi gH
  have Ck:=xI (m.proof.take i)
  rw[← gH,List.length_take,Nat.min_eq_left hi]at Ck
  refine go ?_
  refine aB zr zr ?_ ?_
  case' refine_2 =>
   intro fO
   simp only at fO
   have eA:acc=de m 6:=by rw[gH,List.take_of_length_le aj];rfl
   subst eA
   refine qG (bs:=de m 6) 0 rfl ?_
   intro r'
   refine go ?_
   refine ah hE Tryz.func56 zr zr ⟨_,tN _ _ _ r',rfl⟩
  intro dk
  simp only at dk
  have e9:i<m.proof.length:=by omega
  obtain⟨x,hx⟩:∃x,m.proof[i]?=some x:=⟨m.proof[i],by simp⟩
  have ht:(m.proof.take (i+1)).flatMap Dg.bs=acc++x.bs:=by
   rw[List.take_add_one,hx,Option.toList_some,List.flatMap_append,← gH];simp
  have IX:=x.len
  obtain⟨b,o,c',he⟩:=NO.some (by rw[← List.length_pos_iff,bR ff];omega)
  simp only[Value.slice.injEq,true_and]at he
  obtain⟨rfl,rfl⟩:=he
  refine go ?_
  refine cu i 32 zr zr zr zr zr zr zr zr e9 ?_
  refine cK (U:=bh) (es:=dC x) 1 (i*32) zr zr zr NO rfl (fun j v hj=>?_) zr zr zr ?_
  ·have I3:j<32:=by
    rcases Nat.lt_or_ge j 32 with h|h
    ·exact h
    ·rw[List.getElem?_eq_none (by rw[ff];exact h)]at hj;cases hj
   rw[cM ff hx j I3];exact hj
  refine aL zr zr zr bO ?_
  intro bd
  refine go ?_
  refine iP (U:=bh) zr zr zr zr zr ?_
  have hxb:Vw (ak bd (cl (dC x) 29)) (.slice (some ⟨bd,0,none⟩) 32 32) 32 (bV x.bs):=by
   rw[← fg];exact Vw.ak rfl
  refine bg (mm:=32) (news:=bV x.bs) 1 0 zr zr zr zr zr zr zr zr zr zr zr zr hxb (by show _=_*1;rw[bN];omega) (dR _) (by simp only;omega) (by show(_+_)*1≤_;simp only;omega) (fun _=>rfl) bO ?_
  intro v1
  simp only
  rw[show bV acc++bV x.bs=bV (acc++x.bs)from by simp[bV],show acc.length+32=(acc++x.bs).length from by simp[x.len]]
  refine aN 1 rfl ?_
  rintro a2 c2 rfl
  refine go ?_
  refine aQ ih (i+1,acc++x.bs,a2,c2) rfl ⟨by simp only;omega,by simp only;rw[ht]⟩ (by simp only;omega) cF ad
 ·have h7:(tL m.dz.length 1 65 && !m.dz.any lk)=true:=hf
  rw[Bool.and_eq_true,Bool.not_eq_true',mG]at h7
  have h8:=EO h7.2
  refine go ?_
  refine bF (fun y:Nat × List UInt8 × Option Addr × Nat=>y.1≤m.dz.length∧y.2.1=(m.dz.take y.1).flatMap fun x=>bZ [x.id,x.inc,x.st]) (fun y=>m.dz.length-y.1)
   (fun y=>[(5,.slice y.2.2.1 y.2.1.length y.2.2.2),(52,.slice ma m.dz.length mc),(53,.int .i64 (m.dz.length:Int)),(54,.int .i64 (y.1:Int))])
   (fun y=>aK 5 1 (.slice y.2.2.1 y.2.1.length y.2.2.2) y.2.1.length (bV y.2.1)::X::F) (0,[],none,0) ⟨Nat.zero_le _,rfl⟩ rfl cF (aq.trans ad (bS 5 1 none _)) ?_
  rintro⟨i,acc,a1,c1⟩⟨hi,gH⟩ ih
  simp only at hi gH
  have Ck:=GZ (l:=m.dz.take i) (fun x hx=>h8 x (List.mem_of_mem_take hx))
  rw[← gH,List.length_take,Nat.min_eq_left hi]at Ck
  refine go ?_
  refine aB zr zr ?_ ?_
  case' refine_2 =>
   intro fO
   simp only at fO
   have eA:acc=de m 7:=by rw[gH,List.take_of_length_le aj];rfl
   subst eA
   refine qG (bs:=de m 7) 0 rfl ?_
   intro r'
   refine go ?_
   refine ah hE Tryz.func56 zr zr ⟨_,tN _ _ _ r',rfl⟩
  intro dk
  simp only at dk
  have e9:i<m.dz.length:=by omega
  obtain⟨x,hx⟩:∃x,m.dz[i]?=some x:=⟨m.dz[i],by simp⟩
  have h9:=h8 x (List.mem_of_getElem? hx)
  have h10:=G0 x aj
  have ht:((m.dz.take (i+1)).flatMap fun x=>bZ [x.id,x.inc,x.st])=acc++bZ [x.id,x.inc,x.st]:=by
   rw[List.take_add_one,hx,Option.toList_some,List.flatMap_append,← gH];simp
  obtain⟨b,o,c',he⟩:=Rg.some (by rw[← List.length_pos_iff,bR sY];omega)
  simp only[Value.slice.injEq,true_and]at he
  obtain⟨rfl,rfl⟩:=he
  refine go ?_
  refine cu i 4 zr zr zr zr zr zr zr zr e9 ?_
  refine cK (U:=bh) (es:=No x) 1 (i*4) zr zr zr Rg rfl (fun j v hj=>?_) zr zr zr ?_
  ·have I3:j<4:=by
    rcases Nat.lt_or_ge j 4 with h|h
    ·exact h
    ·rw[List.getElem?_eq_none (by rw[sY];exact h)]at hj;cases hj
   rw[cM sY hx j I3];exact hj
  refine aL zr zr zr bO ?_
  intro bd
  refine go ?_
  refine az (cs:=iV [x.id,x.inc,x.st]) zr zr zr zr zr zr zr zr zr bO ?_
  intro row
  refine go ?_
  ((refine ao (gB _ _ [x.id,x.inc,x.st] (Vw.ak rfl) (by simp) (by intro n hn;simp at hn;omega)) ?_))
  rintro r _ rfl
  refine aN 0 rfl ?_
  rintro ra rc rfl
  refine eZ 0 rfl ?_
  intro r'
  refine go ?_
  refine bg (mm:=(bZ [x.id,x.inc,x.st]).length) (news:=bV (bZ [x.id,x.inc,x.st])) 3 0 zr zr zr zr zr zr zr zr zr zr zr zr r' (by show _=_*1;rw[bN];omega) (dR _) (by simp only;omega) (by show(_+_)*1≤_;simp only;omega) (fun _=>rfl) bO ?_
  intro v1
  simp only
  rw[show bV acc++bV (bZ [x.id,x.inc,x.st])=bV (acc++bZ [x.id,x.inc,x.st])from by simp[bV],show acc.length+(bZ [x.id,x.inc,x.st]).length=(acc++bZ [x.id,x.inc,x.st]).length from by simp]
  refine aN 3 rfl ?_
  rintro a2 c2 rfl
  refine go ?_
  refine aQ ih (i+1,acc++bZ [x.id,x.inc,x.st],a2,c2) rfl ⟨by simp only;omega,by simp only;rw[ht]⟩ (by simp only;omega) cF ad
 ·refine go ?_
  cases hs:m.jq with
  | false =>
   have e8:de m 8=bZ [0]:=by show bZ [if m.jq then 1 else 0]=_;rw[hs];rfl
   rw[e8]at hE
   refine go ?_
   refine az zr zr zr zr zr zr zr zr zr bO ?_
   intro row
   refine go ?_
   ((refine ao (gB _ _ [0] (hu 0 row _ []) (by simp) (by intro n hn;simp at hn;omega)) ?_))
   rintro r _ rfl
   refine fY (bs:=bZ [0]) 0 rfl ?_
   intro r'
   refine go ?_
   refine ah hE Tryz.func56 zr zr ⟨_,tN _ _ _ r',rfl⟩
  | true =>
   have e8:de m 8=bZ [1]:=by show bZ [if m.jq then 1 else 0]=_;rw[hs];rfl
   rw[e8]at hE
   refine go ?_
   refine az zr zr zr zr zr zr zr zr zr bO ?_
   intro row
   refine go ?_
   ((refine ao (gB _ _ [1] (hu 1 row _ []) (by simp) (by intro n hn;simp at hn;omega)) ?_))
   rintro r _ rfl
   refine fY (bs:=bZ [1]) 0 rfl ?_
   intro r'
   refine go ?_
   refine ah hE Tryz.func56 zr zr ⟨_,tN _ _ _ r',rfl⟩
def uP{m:ef}(h:dE m=true){i:Int}(hi:1≤i∧i≤8):fR m i=true:=by
 simp only[dE,Bool.and_eq_true]at h
 have:i=1∨i=2∨i=3∨i=4∨i=5∨i=6∨i=7∨i=8:=by omega
 rcases this with rfl|rfl|rfl|rfl|rfl|rfl|rfl|rfl
 all_goals simp only[h]
def kh{k i:Int}(h:i∈da k):1≤i∧i≤8∧1≤k∧k≤11:=by
 unfold da at h
 repeat' split at h
 all_goals(simp at h;try omega)
def uO{m:ef}(h:dE m=true):1≤m.kind∧m.kind≤11:=by
 have h1:=uP h (i:=1) aj
 unfold fR at h1
 split at h1
 ·rename_i nI;exact⟨(kh nI).2.2.1,(kh nI).2.2.2⟩
 ·cases h1
def qe{m:ef}(h:dE m=true){i:Int}(hi:i∈da m.kind):uq m i=true:=by
 have h1:=uP h (i:=i) ⟨(kh hi).1,(kh hi).2.1⟩
 unfold fR at h1
 rwa[if_pos hi]at h1
def HC(m:ef):fA 0 (cZ m)=true:=by
 unfold cZ da
 repeat' split
 all_goals rfl
def Ny{m:ef}{i:Nat}{k:Int}(h:(da m.kind)[i]?=some k):(cZ m).take (i+1)=(cZ m).take i++[(k,de m k)]:=by
 unfold cZ
 rw[List.take_add_one,List.getElem?_map,h];rfl
def pB{m:ef}(h:dE m=true){i:Int}(hi:i∈da m.kind):(de m i).length≤if i=5 then 16384 else 2000:=by
  have hk:=uO h
  have hf:=qe h hi
  obtain⟨r1,r2,-,-⟩:=kh hi
  have:i=1∨i=2∨i=3∨i=4∨i=5∨i=6∨i=7∨i=8:=by omega
  rcases this with rfl|rfl|rfl|rfl|rfl|rfl|rfl|rfl
  · have:=jO [m.kind] (by intro n hn;simp at hn;omega)
    show(bZ [m.kind]).length≤2000
    simp at this;omega
  · show m.hash.bs.length≤2000
    rw[m.hash.len];omega
  · have h3:=mG.1 (show tL m.piece 0 1023=true from hf)
    have:=jO [m.piece] (by intro n hn;simp at hn;omega)
    show(bZ [m.piece]).length≤2000
    simp at this;omega
  · have h4:(decide ((m.ids.length:Int)≤64) && !m.ids.any lR)=true:=hf
    rw[Bool.and_eq_true,decide_eq_true_eq,Bool.not_eq_true']at h4
    have:=jO m.ids (fun n hn=>by
      have:=List.any_eq_false.1 h4.2 n hn
      simp only[lR,tL,Bool.not_eq_true',Bool.and_eq_false_iff,decide_eq_false_iff_not]at this
      omega)
    show(bZ m.ids).length≤2000
    omega
  · have h5:=mG.1 (show tL m.bytes.length 1 (vU m.kind)=true from hf)
    have hm : vU m.kind ≤ 16384 := by unfold vU; repeat' split
                                      all_goals omega
    show m.bytes.length≤16384
    omega
  · have h6:decide ((m.proof.length:Int)≤10)=true:=hf
    have h7:=of_decide_eq_true h6
    show(m.proof.flatMap Dg.bs).length≤2000
    rw[xI];omega
  · have h7:(tL m.dz.length 1 65 && !m.dz.any lk)=true:=hf
    rw[Bool.and_eq_true,Bool.not_eq_true',mG]at h7
    have:=GZ (EO h7.2)
    show(m.dz.flatMap fun x=>bZ [x.id,x.inc,x.st]).length≤2000
    omega
  · have:(bZ [if m.jq=true then(1:Int)else 0]).length≤10*[if m.jq=true then(1:Int)else 0].length:=jO _ (by intro n hn;simp at hn;split at hn <;> omega)
    show(bZ [if m.jq=true then(1:Int)else 0]).length≤2000
    simp at this;omega
def oZ(i:Int)(b:List UInt8)(hb:b.length≤100000):(ig (i,b)).length≤b.length+11:=by
 have:=lL (n:=b.length) aj
 simp only[ig,List.length_cons,List.length_append];omega
def Lq{m:ef}(h:dE m=true):(cU (cZ m)).length≤40000:=by
 have hb:∀i∈da m.kind,(ig (i,de m i)).length≤if i=5 then 16395 else 2011:=fun i hi=>by
  have h1:=pB h hi
  have h2:=oZ i (de m i) (by split at h1 <;> omega)
  split at h1 <;> simp_all <;> omega
 have tM:∀l:List Int,(∀i∈l,(ig (i,de m i)).length≤if i=5 then 16395 else 2011)→(cU (l.map fun i=>(i,de m i))).length≤(l.map fun i=>if i=5 then 16395 else 2011).sum:=by
  intro l
  induction l with
  | nil=>intro _;simp[cU]
  | cons i l ih =>
   intro hl
   have h1:=ih fun j hj=>hl j (List.mem_cons_of_mem _ hj)
   have h2:=hl i (List.mem_cons_self ..)
   simp only[cU,List.map_cons,List.flatMap_cons,List.length_append,List.sum_cons]at h1 ⊢
   omega
 refine Nat.le_trans (tM _ hb) ?_
 unfold da
 repeat' split
 all_goals decide
def K2(X:HP)(v:MV)(m:ef)(hm:gW X v m)(hr:dE m=true) :
    aH Tryz.prog 13 [.agg (mC v m).toArray] [X] (fun r H=>∃rv,r = .tuple #[rv,.int .i64 0]∧H=[aK 5 1 rv (cU (cZ m)).length (bV (cU (cZ m))),X]):=by
  have Kc:=A0 m.kind
  have hk:=uO hr
  refine aH.aC Tryz.func13 Tryz.ntmps13 fun G F R hE=>?_
  refine aP rfl ?_
  refine bJ zr zr bO ?_
  intro bx
  refine go ?_
  refine ct 0 zr zr zr zr zr zr (go ?_)
  refine aeb (pV X v m hm) ?_
  rw[hr]
  refine go ?_
  refine ao (lK m.kind) ?_
  rintro _ _ rfl
  refine aN 0 rfl ?_
  rintro ha hc rfl
  refine go ?_
  refine bF (fun y:Nat × List It × HP × Option Addr × Nat=>y.1≤(da m.kind).length∧y.2.1.length=y.1∧y.2.1.map It.p=(cZ m).take y.1∧(∀x∈y.2.1,eU y.2.2.1 x.v x.b)∧gW y.2.2.1 v m∧(∀h,y.2.2.1 h→∃h',sub h' h∧X h')) (fun y=>(da m.kind).length-y.1)
    (fun y=>[(1,ptr bx),(4,.slice y.2.2.2.1 y.2.1.length y.2.2.2.2),(12,.slice ha (da m.kind).length hc),(13,.int .i64 ((da m.kind).length:Int)),(14,.int .i64 (y.1:Int))])
    (fun y=>aK 127 2 (.slice y.2.2.2.1 y.2.1.length y.2.2.2.2) y.2.1.length (y.2.1.flatMap kq)::y.2.2.1::aK 3 1 (.slice ha (da m.kind).length hc) (da m.kind).length (iV (da m.kind))::ak bx (cl (mC v m) 55)::F) (0,[],X,none,0)
    ⟨Nat.zero_le _,rfl,rfl,by simp,hm,fun h hx=>⟨h,sub.refl h,hx⟩⟩ rfl cF (aq.trans ad (bS 127 2 none _)) ?_
  rintro⟨i,eu,Z,a1,c1⟩⟨hi,l9,mO,vv,Hl,hzx⟩ ih
  simp only at hi l9 mO vv Hl hzx
  refine go ?_
  refine aB zr zr ?_ ?_
  case' refine_2 =>
    intro fO
    simp only at fO
    have eA:eu.map It.p=cZ m:=by rw[mO,List.take_of_length_le (by unfold cZ;rw[List.length_map];omega)]
    refine go ?_
    refine eZ 0 rfl ?_
    intro SU
    simp only at SU ⊢
    refine aT (aq.cg [aK 127 2 (.slice a1 eu.length c1) eu.length (eu.flatMap kq),Z] _) ?_
    have xY:qM (Sep [aK 127 2 (.slice a1 eu.length c1) eu.length (eu.flatMap kq),Z]) (.slice a1 eu.length c1) eu :=
      ⟨SU.mono (aX (i:=0) rfl),fun x hx=>(vv x hx).mono (aX (i:=1) rfl)⟩
    have l8:=lD _ _ eu xY aj (by rw[eA];exact HC m) (by rw[eA];have:=Lq hr;omega)
    rw[eA]at l8
    refine ao l8 ?_
    rintro _ _⟨rv,rfl,rfl⟩
    refine go ?_
    refine al (aq.pick [1] rfl) ?_
    refine al (aq.cR _ _) ?_
    refine al (aq.pick [1] rfl) ?_
    refine al (aq.head (B:=[X]) (fun h hs=>by obtain⟨h',s1,s2⟩:=hzx h hs;exact⟨h',s1,fL s2⟩)) ?_
    refine ah hE Tryz.func13 zr zr ⟨_,rfl,rfl⟩
  intro dk
  simp only at dk
  have e9:i<(da m.kind).length:=by omega
  obtain⟨k,DA⟩:∃k,(da m.kind)[i]?=some k:=⟨(da m.kind)[i],by simp⟩
  have hkm:=List.mem_of_getElem? DA
  obtain⟨r1,r2,-,-⟩:=kh hkm
  refine go ?_
  refine eZ 2 rfl ?_
  intro dH
  obtain⟨b,o,c',he⟩:=dH.some (ine e9)
  simp only[Value.slice.injEq,true_and]at he
  obtain⟨rfl,rfl⟩:=he
  refine bW i zr zr zr zr zr zr zr zr e9 ?_
  refine aZ 2 i zr zr zr dH rfl (Ba DA) zr zr (go ?_)
  refine ct 3 zr zr zr zr zr zr (go ?_)
  refine ao (HY Z v m Hl k ⟨r1,r2⟩ (qe hr hkm) aj) ?_
  rintro r _⟨Y,I6,rfl⟩
  simp only
  obtain⟨ra,rc,rfl,LR⟩:=I6.2
  refine go ?_
  refine az (cs:=kq ⟨k,.slice ra (de m k).length rc,de m k⟩) zr zr zr zr zr zr zr zr zr bO ?_
  intro row
  refine go ?_
  refine bg (mm:=1) (news:=kq ⟨k,.slice ra (de m k).length rc,de m k⟩) 3 0 rfl rfl rfl rfl rfl rfl rfl rfl rfl rfl rfl rfl (Vw.ak rfl) rfl (by intro v hv;simp[kq]at hv;rcases hv with rfl|rfl <;> rfl) aj (by show(_+_)*32≤_;omega) (fun _=>rfl) bO ?_
  intro v1
  rw[show eu.flatMap kq++kq (⟨k,.slice ra (de m k).length rc,de m k⟩:It)=(eu++[(⟨k,.slice ra (de m k).length rc,de m k⟩:It)]).flatMap kq from by simp,show eu.length+1=(eu++[(⟨k,.slice ra (de m k).length rc,de m k⟩:It)]).length from by simp]
  refine aN 3 rfl ?_
  rintro a2 c2 rfl
  refine go ?_
  refine al (aq.pick [1,2] rfl) ?_
  refine al (aq.cg [Y,Z] _) ?_
  refine aQ ih (i+1,eu++[(⟨k,.slice ra (de m k).length rc,de m k⟩:It)],Sep [Y,Z],a2,c2) rfl ⟨by simp only;omega,by simp only[List.length_append,List.length_singleton];omega,by simp only[List.map_append,mO,Ny DA];rfl,(fun x hx=>by
    rcases List.mem_append.1 hx with h|h
    · exact(vv x h).mono (aX (i:=1) rfl)
    · rw[List.mem_singleton.1 h];exact I6),Hl.mono (aX (i:=1) rfl),fun h hs=>by
      obtain⟨h1,s1,z1⟩:=aX (i:=1) rfl h hs
      obtain⟨h2,s2,x2⟩:=hzx h1 z1
      exact⟨h2,sub.trans s2 s1,x2⟩⟩ (by simp only;omega) cF ad
end Go.Proofs.YtlionahpheehaaaGreatDoor
namespace Go.Proofs.YtlionahpheehaaaGreatDoor
open Go Go.SL
def Kw:∀(bs:List UInt8) (i acc n:Nat) (r:List UInt8) (ok:Bool),acc<2 ^ (7*i)→nz i acc bs=some (n,r,ok)→n<2 ^ (7*(i+bs.length)):=by
 intro bs
 induction bs with
 | nil=>intro i acc n r ok _ h;simp[nz]at h
 | cons c bs ih =>
  intro i acc n r ok ha h
  simp only[nz]at h
  split at h
  ·cases h
  ·split at h
   ·rename_i hc
    simp only[Option.some.injEq,Prod.mk.injEq]at h
    have h1:=zy ha hc
    have h2:2 ^ (7*(i+1))≤2 ^ (7*(i+(c::bs).length)):=Nat.pow_le_pow_right aj (by simp only[List.length_cons];omega)
    omega
   ·have h1:=ih (i+1) _ n r ok (zy ha (Nat.mod_lt _ aj)) h
    rwa[show i+1+bs.length=i+(c::bs).length from by simp only[List.length_cons];omega]at h1
def CR{bs:List UInt8}{n:Nat}(h:cH bs=some n)(hl:bs.length≤6):n<4398046511104:=by
 unfold cH db at h
 split at h
 ·cases h
  cases hc:nz 0 0 bs with
  | none=>simp
  | some x =>
   obtain⟨m,r,ok⟩:=x
   have h1:=Kw bs 0 0 m r ok (by simp) hc
   have h2:2 ^ (7*(0+bs.length))≤2 ^ 42:=Nat.pow_le_pow_right aj aj
   simp only[Option.getD_some]
   have h3:(2:Nat) ^ 42=4398046511104:=by decide
   omega
 ·cases h
def Qs(bs:List UInt8)(f k:Nat)(h:bs.length<k):AM bs f k=none:=by
 cases f with
 | zero=>rfl
 | succ f=>rw[AM,if_neg aj]
def Nj:∀(f k:Nat) (bs:List UInt8) (n j:Nat),AM bs f k=some (n,j)→k≤j∧j<k+f∧j≤bs.length∧cH (bs.take j)=some n:=by
 intro f
 induction f with
 | zero=>intro k bs n j h;cases h
 | succ f ih =>
  intro k bs n j h
  rw[AM]at h
  split at h
  ·rename_i hk
   split at h
   ·rename_i m hm
    simp only[Option.some.injEq,Prod.mk.injEq]at h
    obtain⟨rfl,rfl⟩:=h
    exact⟨Nat.le_refl _,aj,hk,hm⟩
   ·obtain⟨h1,h2,h3,h4⟩:=ih (k+1) bs n j h
    exact⟨aj,aj,h3,h4⟩
  ·cases h
def oT{bs:List UInt8}{n j:Nat}(h:AL bs=some (n,j)):1≤j∧j≤6∧j≤bs.length∧n<4398046511104:=by
 obtain⟨h1,h2,h3,h4⟩:=Nj 6 1 bs n j h
 exact⟨h1,aj,h3,CR h4 (by rw[List.length_take];omega)⟩
def AJ:∀(f g:Nat) (bs:List UInt8),bs.length≤f→bs.length≤g→yM f bs=yM g bs
 | 0,0,_,_,_=>rfl
 | 0,g+1,bs,hf,_=>by
  have:bs=[]:=List.eq_nil_of_length_eq_zero aj
  subst this;rfl
 | f+1,0,bs,_,hg=>by
  have:bs=[]:=List.eq_nil_of_length_eq_zero aj
  subst this;rfl
 | f+1,g+1,bs,hf,hg=>by
  rw[yM,yM]
  split
  ·rfl
  ·cases hn:AL bs with
   | none=>rfl
   | some x =>
    obtain⟨n,k⟩:=x
    have:=oT hn
    simp only
    rw[AJ f g _ (by rw[List.length_drop];omega) (by rw[List.length_drop];omega)]
def xK:dp []=[]:=rfl
def AK{bs:List UInt8}(h0:bs≠[])(h:AL bs=none):dp bs=[-1]:=by
 unfold dp
 cases hl:bs.length with
 | zero=>exact absurd (List.eq_nil_of_length_eq_zero hl) h0
 | succ f=>rw[yM,if_neg h0,h]
def qj{bs:List UInt8}{n k:Nat}(h:AL bs=some (n,k)):dp bs=(n:Int)::dp (bs.drop k):=by
 have h1:=oT h
 unfold dp
 obtain⟨f,hf⟩:∃f,bs.length=f+1:=⟨bs.length-1,aj⟩
 rw[hf,yM,if_neg (by intro e;rw[e]at hf;simp at hf),h]
 simp only
 rw[AJ f _ _ (by rw[List.length_drop];omega) (Nat.le_refl _)]
def xL:∀(f:Nat) (bs:List UInt8),bs.length≤f→(dp bs).length≤bs.length
 | 0,bs,h=>by
  have:bs=[]:=List.eq_nil_of_length_eq_zero aj
  subst this;simp[xK]
 | f+1,bs,h=>by
  by_cases h0:bs=[]
  ·subst h0;simp[xK]
  ·have hp:=List.length_pos_iff.2 h0
   cases hn:AL bs with
   | none=>rw[AK h0 hn];simp only[List.length_singleton];omega
   | some x =>
    obtain⟨n,k⟩:=x
    have h1:=oT hn
    have h2:=xL f (bs.drop k) (by rw[List.length_drop];omega)
    rw[qj hn,List.length_cons]
    rw[List.length_drop]at h2
    omega
attribute [local irreducible] J K aH Ends ak aK aV bX bj aS bp bD cp
def j5(v:Value)(h1:∃a n c,v = .slice a n c):aH Tryz.prog 148 [v] [] (fun r H=>∃b,r = .func (.func 212) #[] #[ptr b]∧H=[ak b (cl [v] 22)]):=by
 obtain⟨a,n,c,rfl⟩:=h1
 refine aH.aC Tryz.func148 Tryz.ntmps148 fun G F R hE=>?_
 refine go ?_
 refine bJ zr zr bO ?_
 intro b
 refine go ?_
 refine ah hE Tryz.func148 zr zr ⟨b,rfl,rfl⟩
def iX(A:HP)(bx:Nat)(v:Value)(bs:List UInt8)(hv:eU A v bs)(hl:bs.length≤1000000000) :
  SE 212 [ptr bx] (bs.length+1) [ak bx (cl [v] 22),A] [A] (fun xs=>xs=dp bs):=by
 intro l Lp Inv hy
 refine aH.aC Tryz.func212 Tryz.ntmps212 fun G F R hE=>?_
 refine bF (fun y:Value × List UInt8 × List Int=>eU A y.1 y.2.1∧y.2.1.length+y.2.2.length≤bs.length∧y.2.2++dp y.2.1=dp bs) (fun y=>y.2.1.length)
  (fun _=>[(0,.func (.yield l) #[] #[]),(1,ptr bx)])
  (fun y=>Lp::Inv y.2.2::ak bx (cl [y.1] 22)::A::F) (v,bs,[]) ⟨hv,by simp,by simp⟩ rfl cF ad ?_
 rintro⟨v1,rest,dn⟩⟨ko,Dv,vu⟩ ih
 simp only at ko Dv vu
 obtain⟨a,c,rfl,hc⟩:=ko.2
 refine go ?_
 refine aB zr zr ?_ ?_
 case' refine_2 =>
  intro fO
  have EW:rest=[]:=List.eq_nil_of_length_eq_zero aj
  rw[EW,xK,List.append_nil]at vu
  refine go ?_
  refine ag hE Tryz.func212 rfl _ rfl ⟨_,vu,rfl⟩ ad
 intro dk
 have dw:rest≠[]:=fun e=>by rw[e]at dk;simp at dk
 refine go ?_
 refine bF (fun y:Nat × Int × Nat=>1≤y.1∧y.1≤7∧((y.2.2=0∧y.2.1 = -1∧AL rest=AM rest (7-y.1) y.1)∨(0<y.2.2∧∃n:Nat,y.2.1=n∧AL rest=some (n,y.2.2)))) (fun y=>8-y.1)
  (fun y=>[(0,.func (.yield l) #[] #[]),(1,ptr bx),(3,.int .i64 y.2.1),(4,.int .i64 (y.2.2:Int)),(5,.int .i64 (y.1:Int))])
  (fun y=>Lp::Inv dn::ak bx (cl [.slice a rest.length c] 22)::A::F) (1,-1,0) ⟨by simp,by simp,.inl ⟨rfl,rfl,rfl⟩⟩ rfl cF ad ?_
 rintro⟨k,nn,many⟩⟨DA,hk7,g8⟩ LJ
 simp only at DA hk7 g8
 repeat'(first|(with_reducible intro k9)|refine g9 ?_|refine dA zr zr zr zr ?_ ?_|refine aB zr zr ?_ ?_)
 ·rename_i ae5
  have hle:=ae5
  have hz:=k9
  simp only at hle hz
  rcases g8 with⟨rfl,rfl,xV⟩|⟨kY,-⟩
  case inr=>exfalso;omega
  have Kc:k≤rest.length:=by omega
  have hk6:k≤6:=by omega
  have tQ:=ko.front k Kc
  have rW:AL rest=match cH (rest.take k)with
    | some n=>some (n,k)
    | none=>AM rest (7-(k+1)) (k+1):=by
   rw[xV,show 7-k=(7-(k+1))+1 by omega,AM,if_pos Kc]
   all_goals(cases cH (rest.take k) <;> rfl)
  refine aU (p:=0) (q:=(k:Int)) zr zr zr zr zr zr zr aj aj (.inr aj) ?_
  ((refine au 25 ((.slice (sliceAt a c 0 1) (rest.take k).length c)) rfl ((by rw[show((k:Int)).toNat=k from by omega,List.length_take,Nat.min_eq_left Kc];rfl)) ?_))
  have tQ:eU A (.slice (sliceAt a c 0 1) (rest.take k).length c) (rest.take k):=by rw[List.length_take,Nat.min_eq_left Kc];exact tQ
  ((refine ao (gn A _ (rest.take k) tQ (by rw[List.length_take];omega)) ?_))
  rintro _ _⟨rfl,rfl⟩
  cases htu:cH (rest.take k)with
  | none =>
   rw[htu]at rW
   simp only
   refine go ?_
   refine aQ LJ (k+1,-1,0) rfl ⟨by simp only;omega,by simp only;omega,.inl ⟨rfl,rfl,rW⟩⟩ (by simp only;omega) cF ad
  | some n =>
   rw[htu]at rW
   simp only
   have agm:=CR htu (by rw[List.length_take];omega)
   refine go ?_
   refine aQ LJ (k+1,(n:Int),k) rfl ⟨by simp only;omega,by simp only;omega,.inr ⟨by simp only;omega,n,rfl,rW⟩⟩ (by simp only;omega) cF ad
 ·have adh:=k9
  simp only at adh
  rcases g8 with⟨h0,-,-⟩|⟨kY,n,rfl,xV⟩
  ·exfalso;omega
  obtain⟨j1,j2,j3,j4⟩:=oT xV
  have uf:=qj xV
  have kH:=ko.cut many j3
  refine jf zr zr zr (hy dn (n:Int) aj) ad ?_ bI
  rintro _ _⟨rfl,rfl⟩
  refine go ?_
  refine aU (p:=(many:Int)) (q:=(rest.length:Int)) zr zr zr zr zr zr zr aj aj (.inl rfl) ?_
  refine au 44 (.slice (sliceAt a c many 1) (rest.length-many) (c-many)) rfl (by rw[show((many:Int)).toNat=many from by omega,show((rest.length:Int)).toNat=rest.length from by omega];rfl) ?_
  refine go ?_
  refine aQ ih (.slice (sliceAt a c many 1) (rest.length-many) (c-many),rest.drop many,dn++[(n:Int)]) rfl (⟨kH,by simp only[List.length_drop,List.length_append,List.length_singleton];omega,by simp only[List.append_assoc];rw[← vu,uf];rfl⟩) (by simp only[List.length_drop];omega) cF ad
 ·have O6:=k9
  simp only at O6
  rcases g8 with⟨h0,rfl,xV⟩|⟨kY,n,rfl,xV⟩
  ·have kZ:AL rest=none:=by
    rw[xV]
    rcases Nat.lt_or_ge rest.length k with h|h
    ·exact Qs _ _ _ h
    ·rw[show 7-k=0 by omega];rfl
   have lV:=AK dw kZ
   refine jf zr zr zr (hy dn (-1) aj) ad ?_ bI
   rintro _ _⟨rfl,rfl⟩
   refine go ?_
   (refine ah hE Tryz.func212 zr zr ⟨_,by rw[← vu,lV],rfl⟩)
  obtain⟨j1,j2,j3,j4⟩:=oT xV
  have uf:=qj xV
  have kH:=ko.cut many j3
  refine jf zr zr zr (hy dn (n:Int) aj) ad ?_ bI
  rintro _ _⟨rfl,rfl⟩
  refine go ?_
  refine aU (p:=(many:Int)) (q:=(rest.length:Int)) zr zr zr zr zr zr zr aj aj (.inl rfl) ?_
  refine au 44 (.slice (sliceAt a c many 1) (rest.length-many) (c-many)) rfl (by rw[show((many:Int)).toNat=many from by omega,show((rest.length:Int)).toNat=rest.length from by omega];rfl) ?_
  refine go ?_
  refine aQ ih (.slice (sliceAt a c many 1) (rest.length-many) (c-many),rest.drop many,dn++[(n:Int)]) rfl (⟨kH,by simp only[List.length_drop,List.length_append,List.length_singleton];omega,by simp only[List.append_assoc];rw[← vu,uf];rfl⟩) (by simp only[List.length_drop];omega) cF ad
def sW(A:HP)(v:Value)(bs:List UInt8)(hv:eU A v bs)(hl:bs.length≤100000000) :
  aH Tryz.prog 68 [v] [A] (fun r H=>r=(match nL bs with|some n => .tuple #[.int .i64 n,.bool true]|none => .tuple #[.int .i64 0,.bool false])∧H=[A]):=by
 obtain⟨a,c,rfl,hc⟩:=hv.2
 have NN:=xL bs.length bs (Nat.le_refl _)
 refine aH.aC Tryz.func68 Tryz.ntmps68 fun G F R hE=>?_
 refine go ?_
 refine ao (j5 _ ⟨a,_,c,rfl⟩) ?_
 rintro _ _⟨b,rfl,rfl⟩
 refine go ?_
 refine ao (ji 212 [ptr b] (bs.length+1) [ak b (cl [.slice a bs.length c] 22),A] [A] (fun xs=>xs=dp bs) aj (iX A b _ bs hv aj)) ?_
 rintro r _⟨_,rfl,rfl⟩
 refine aN 0 rfl ?_
 rintro ra rc rfl
 have gD:nL bs=match dp bs with|[n]=>if n<0 then none else some n|_=>none:=rfl
 rw[gD]at hE
 generalize hL:dp bs=L at *
 match L,hL with
 | [],_ =>
  refine go ?_
  refine ah hE Tryz.func68 zr zr ⟨rfl,rfl⟩
 | [n],_ =>
  refine go ?_
  refine zR 0 rfl (by simp) ?_
  rintro bb oo cc ez hvl
  simp only[Value.slice.injEq]at ez
  obtain⟨rfl,-,rfl⟩:=ez
  refine bW 0 zr zr zr zr zr zr zr zr (by simp) (go ?_)
  refine aZ 0 0 zr zr zr hvl rfl (show(iV [n])[0]?=some (.int .i64 n)from rfl) zr zr (go ?_)
  refine aB zr zr ?_ ?_
  ·intro aak
   have e:(match [n]with|[n]=>if n<0 then none else some n|_=>none:Option Int)=none:=if_pos aak
   rw[e]at hE
   refine go ?_
   refine ah hE Tryz.func68 zr zr ⟨rfl,rfl⟩
  ·intro kY
   have e:(match [n]with|[n]=>if n<0 then none else some n|_=>none:Option Int)=some n:=if_neg kY
   rw[e]at hE
   refine go ?_
   refine bW 0 zr zr zr zr zr zr zr zr (by simp) ?_
   refine aZ 0 0 zr zr zr hvl rfl (show(iV [n])[0]?=some (.int .i64 n)from rfl) zr zr (go ?_)
   refine ah hE Tryz.func68 zr zr ⟨rfl,rfl⟩
 | n::m::L,_ =>
  refine go ?_
  refine ah hE Tryz.func68 zr zr ⟨rfl,rfl⟩
end Go.Proofs.YtlionahpheehaaaGreatDoor
namespace Go.Proofs.YtlionahpheehaaaGreatDoor
open Go Go.SL
def yh:∀(f g:Nat) (b:List UInt8),b.length≤f→b.length≤g→Fc f b=Fc g b
 | 0,0,_,_,_=>rfl
 | 0,g+1,b,hf,_=>by
  have:b=[]:=List.eq_nil_of_length_eq_zero aj
  subst this;rfl
 | f+1,0,b,_,hg=>by
  have:b=[]:=List.eq_nil_of_length_eq_zero aj
  subst this;rfl
 | f+1,g+1,b,hf,hg=>by
  rw[Fc,Fc]
  split
  ·rw[yh f g _ (by rw[List.length_drop];omega) (by rw[List.length_drop];omega)]
  ·rfl
def qQ(b:List UInt8):List Dg:=Fc b.length b
def DT:qQ []=[]:=rfl
def u9{b:List UInt8}(h:32≤b.length):qQ b=⟨b.take 32,by rw[List.length_take];omega⟩::qQ (b.drop 32):=by
 unfold qQ
 obtain⟨f,hf⟩:∃f,b.length=f+1:=⟨b.length-1,aj⟩
 rw[yh b.length (f+1) b (Nat.le_refl _) aj,Fc,dif_pos h,yh f _ _ (by rw[List.length_drop];omega) (Nat.le_refl _)]
def DU:∀(f:Nat) (b:List UInt8),b.length≤f→(qQ b).length≤b.length
 | 0,b,h=>by
  have:b=[]:=List.eq_nil_of_length_eq_zero aj
  subst this;simp[DT]
 | f+1,b,h=>by
  by_cases Kl:32≤b.length
  ·have h2:=DU f (b.drop 32) (by rw[List.length_drop];omega)
   rw[List.length_drop]at h2
   rw[u9 Kl,List.length_cons];omega
  ·have:qQ b=[]:=by
    unfold qQ
    cases hb:b.length with
    | zero=>rfl
    | succ n=>rw[Fc,dif_neg Kl]
   rw[this];simp
def Df:∀(f:Nat) (l:List Int),l.length≤f→(my l).length≤l.length
 | _,[],_=>by simp[my]
 | _,[_],_=>by simp[my]
 | _,[_,_],_=>by simp[my]
 | 0,_::_::_::_,h=>by simp at h
 | f+1,a::b::c::l,h=>by
  have:=Df f l (by simp at h;omega)
  simp only[my,List.length_cons];omega
attribute [local irreducible] J K aH Ends ak aK aV bX bj aS bp bD cp
theorem gW.put{X Y:HP}{v:MV}{m:ef}(h:gW X v m):gW (Sep [Y,X]) v m:=h.mono (aX (i:=1) rfl)
def U5(b6:Nat)(Z:HP)(v:MV)(m:ef)(i:Int)(b:List UInt8)(r:Value)(H:List HP):Prop :=
 (uR m i b=none∧r = .bool false∧H=[Z])∨(∃(m':ef) (v':MV) (Y:HP),uR m i b=some m'∧r = .bool true∧gW (Sep [Y,Z]) v' m'∧(i≠6→v'.p=v.p)∧(i≠7→v'.m=v.m)∧H=[ak b6 (cl (mC v' m') 55),Y,Z])
def F0(Z:HP)(b6:Nat)(v:MV)(m:ef)(hm:gW Z v m)(i:Int)(hi:2≤i∧i≤8)(bv:Value)(b:List UInt8)(hb:eU Z bv b)(hl:b.length≤100000)(h6:i=6→m.proof=[]∧v.p = .slice none 0 0)(h7:i=7→m.dz=[]∧v.m = .slice none 0 0) :
  aH Tryz.prog 69 [ptr b6,.int .i64 i,bv] [ak b6 (cl (mC v m) 55),Z] (U5 b6 Z v m i b):=by
 obtain⟨vi,vb,vp,vm⟩:=v
 obtain⟨ia,ic,rfl⟩:=hm.vi.shape
 obtain⟨ba,bc,rfl,_⟩:=hm.vb.2
 obtain⟨pa,pc,rfl⟩:=hm.vp.1.shape
 obtain⟨ma,mc,rfl⟩:=hm.vm.shape
 obtain⟨xa,xc,rfl,hxc⟩:=hb.2
 have hi:i=2∨i=3∨i=4∨i=5∨i=6∨i=7∨i=8:=by omega
 have NN:=xL b.length b (Nat.le_refl _)
 refine aH.aC Tryz.func69 Tryz.ntmps69 fun G F R hE=>?_
 rcases hi with rfl|rfl|rfl|rfl|rfl|rfl|rfl
 ·refine go ?_
  by_cases Kl:b.length=32
  ·have hp:uR m 2 b=some { m with hash:=⟨b,Kl⟩ }:=dif_pos Kl
   refine aE 6 ((.bool true)) rfl ((congrArg Value.bool (decide_eq_true aj))) ?_
   refine aE 16 ((.bool true)) rfl ((congrArg Value.bool (decide_eq_true aj))) ?_
   obtain⟨bb,oo,cc,ez⟩:=H8 hb.1 aj
   simp only[Value.slice.injEq,true_and]at ez
   obtain⟨rfl,rfl⟩:=ez
   refine go ?_
   refine tJ (U:=bh) zr zr zr zr aj ?_
   refine cK (U:=bh) (es:=dC ⟨b,Kl⟩) 1 0 zr zr zr hb.1 rfl (fun j v hj=>by rw[Nat.zero_add,← hj,fg]) zr zr zr ?_
   refine go ?_
   refine al (aq.cg [] _) ?_
   have Dx:gW (Sep [Sep [],Z]) ⟨.slice ia m.ids.length ic,.slice ba m.bytes.length bc,.slice pa m.proof.length pc,.slice ma m.dz.length mc⟩ { m with hash:=⟨b,Kl⟩ } :=
    ⟨hm.put.vi,hm.put.vb,hm.put.vp,hm.put.vm,hm.li,hm.lb,hm.lp,hm.lm⟩
   refine ah hE Tryz.func69 zr zr (.inr ⟨_,_,Sep [],hp,rfl,Dx,fun _=>rfl,fun _=>rfl,rfl⟩)
  ·have hp:uR m 2 b=none:=dif_neg Kl
   refine aE 6 ((.bool false)) rfl ((congrArg Value.bool (decide_eq_false aj))) ?_
   refine aE 16 ((.bool false)) rfl ((congrArg Value.bool (decide_eq_false aj))) (go ?_)
   refine ah hE Tryz.func69 zr zr (.inl ⟨hp,rfl,rfl⟩)
 ·refine go ?_
  refine aeb (sW Z _ b hb aj) ?_
  have hp:uR m 3 b=(nL b).map fun n=>{ m with piece:=n }:=rfl
  cases h1:nL b with
  | none =>
   rw[h1]at hp
   simp only
   refine go ?_
   refine ah hE Tryz.func69 zr zr (.inl ⟨hp,rfl,rfl⟩)
  | some n =>
   rw[h1]at hp
   simp only
   refine go ?_
   refine al (aq.cg [] _) ?_
   have Dx:gW (Sep [Sep [],Z]) ⟨.slice ia m.ids.length ic,.slice ba m.bytes.length bc,.slice pa m.proof.length pc,.slice ma m.dz.length mc⟩ { m with piece:=n } :=
    ⟨hm.put.vi,hm.put.vb,hm.put.vp,hm.put.vm,hm.li,hm.lb,hm.lp,hm.lm⟩
   refine ah hE Tryz.func69 zr zr (.inr ⟨_,_,Sep [],hp,rfl,Dx,fun _=>rfl,fun _=>rfl,rfl⟩)
 ·refine go ?_
  refine ao (j5 _ ⟨xa,_,xc,rfl⟩) ?_
  rintro _ _⟨bq,rfl,rfl⟩
  refine go ?_
  refine ao (ji 212 [ptr bq] (b.length+1) [ak bq (cl [.slice xa b.length xc] 22),Z] [Z] (fun xs=>xs=dp b) aj (iX Z bq _ b hb aj)) ?_
  rintro r _⟨_,rfl,rfl⟩
  refine aN 0 rfl ?_
  rintro ra rc rfl
  refine eZ 0 rfl ?_
  intro Hg
  refine go ?_
  have hp:uR m 4 b=some { m with ids:=dp b }:=rfl
  have Dx:gW (Sep [aK 3 1 (.slice ra (dp b).length rc) (dp b).length (iV (dp b)),Z]) ⟨.slice ra (dp b).length rc,.slice ba m.bytes.length bc,.slice pa m.proof.length pc,.slice ma m.dz.length mc⟩ { m with ids:=dp b } :=
   ⟨Hg.mono (aX (i:=0) rfl),hm.put.vb,hm.put.vp,hm.put.vm,by simp only;omega,hm.lb,hm.lp,hm.lm⟩
  refine ah hE Tryz.func69 zr zr (.inr ⟨_,_,_,hp,rfl,Dx,fun _=>rfl,fun _=>rfl,rfl⟩)
 ·refine go ?_
  refine al (aq.cg [] _) ?_
  have hp:uR m 5 b=some { m with bytes:=b }:=rfl
  have Dx:gW (Sep [Sep [],Z]) ⟨.slice ia m.ids.length ic,.slice xa b.length xc,.slice pa m.proof.length pc,.slice ma m.dz.length mc⟩ { m with bytes:=b } :=
   ⟨hm.put.vi,hb.mono (aX (i:=1) rfl),hm.put.vp,hm.put.vm,hm.li,by simp only;omega,hm.lp,hm.lm⟩
  refine ah hE Tryz.func69 zr zr (.inr ⟨_,_,Sep [],hp,rfl,Dx,fun _=>rfl,fun _=>rfl,rfl⟩)
 ·obtain⟨yZ,zq⟩:=h6 rfl
  simp only at zq
  have hp:uR m 6 b=if b.length%32=0 then some { m with proof:=qQ b } else none:=rfl
  rw[yZ]at zq
  simp only[List.length_nil,Value.slice.injEq]at zq
  obtain⟨rfl,-,rfl⟩:=zq
  (repeat(first|refine g9 ?_|refine uy zr zr zr aj aj ?_))
  by_cases Kl:b.length%32=0
  case neg =>
   rw[if_neg Kl]at hp
   refine aE 6 ((.bool false)) rfl ((congrArg Value.bool (decide_eq_false aj))) ?_
   refine bF (fun _:Unit=>True) (fun _=>0) (fun _=>[(6,.bool false)]) (fun _=>Z::F) () trivial rfl cF ad ?_
   rintro _ _ ih
   refine go ?_
   refine ah hE Tryz.func69 zr zr (.inl ⟨hp,rfl,rfl⟩)
  rw[if_pos Kl]at hp
  have NY:=DU b.length b (Nat.le_refl _)
  refine aE 6 ((.bool true)) rfl ((congrArg Value.bool (decide_eq_true aj))) ?_
  rw[yZ]
  refine bF (fun y:Option Addr × Nat × List UInt8 × List Dg × Option Addr × Nat=>eU Z (.slice y.1 y.2.2.1.length y.2.1) y.2.2.1∧y.2.2.1.length%32=0∧y.2.2.1.length≤b.length∧y.2.2.2.1++qQ y.2.2.1=qQ b) (fun y=>y.2.2.1.length)
   (fun y=>[(0,ptr b6),(2,.slice y.1 y.2.2.1.length y.2.1),(6,.bool true)])
   (fun y=>ak b6 (cl (mC ⟨.slice ia m.ids.length ic,.slice ba m.bytes.length bc,.slice y.2.2.2.2.1 y.2.2.2.1.length y.2.2.2.2.2,.slice ma m.dz.length mc⟩ { m with proof:=y.2.2.2.1 }) 55)::aK 29 32 (.slice y.2.2.2.2.1 y.2.2.2.1.length y.2.2.2.2.2) y.2.2.2.1.length (y.2.2.2.1.flatMap dC)::Z::F)
   (xa,xc,b,[],none,0) ⟨hb,Kl,Nat.le_refl _,rfl⟩ rfl cF (aq.trans (bS 29 32 none _) ad) ?_
  rintro⟨ya,yc,rest,acc,av,ac⟩⟨nN,aeO,w9,gH⟩ ih
  simp only at nN aeO w9 gH
  have Ck:acc.length≤b.length:=by
   have:=congrArg List.length gH
   rw[List.length_append]at this
   omega
  refine go ?_
  refine aB zr zr ?_ ?_
  case' refine_2 =>
   intro fO
   simp only at fO
   have EW:rest=[]:=List.eq_nil_of_length_eq_zero aj
   rw[EW,DT,List.append_nil]at gH
   refine zQ 1 rfl ?_
   intro dH hcw
   refine go ?_
   have Dx:gW (Sep [aK 29 32 (.slice av acc.length ac) acc.length (acc.flatMap dC),Z]) ⟨.slice ia m.ids.length ic,.slice ba m.bytes.length bc,.slice av acc.length ac,.slice ma m.dz.length mc⟩ { m with proof:=acc } :=
    ⟨hm.put.vi,hm.put.vb,⟨dH.mono (aX (i:=0) rfl),av,ac,rfl,hcw⟩,hm.put.vm,hm.li,hm.lb,by simp only;omega,hm.lm⟩
   rw[← gH]at hp
   refine ah hE Tryz.func69 zr zr (.inr ⟨_,_,_,hp,rfl,Dx,fun h=>absurd rfl h,fun _=>rfl,rfl⟩)
  intro dk
  simp only at dk
  have aaJ:32≤rest.length:=by omega
  have tQ:=nN.front 32 aaJ
  have Cx:=nN.cut 32 aaJ
  have hdc:=u9 aaJ
  obtain⟨bb,oo,cc,ez⟩:=H8 tQ.1 (by rw[List.length_take];omega)
  simp only[Value.slice.injEq]at ez
  obtain⟨NJ,-,rfl⟩:=ez
  refine aO (fun w=>Sat G w ([ak b6 (cl (mC ⟨.slice ia m.ids.length ic,.slice ba m.bytes.length bc,.slice av acc.length ac,.slice ma m.dz.length mc⟩ { m with proof:=acc }) 55),Z])) (dM 0 9 (.act 9 (.act 10 (.st 11 (.st 12 (.act 13 .nil)))))) rfl aw aw aw dI ?_
  refine go ?_
  obtain⟨d,hd⟩:∃d:Dg,d=⟨rest.take 32,by rw[List.length_take];omega⟩:=⟨_,rfl⟩
  have Up:d.bs=rest.take 32:=by rw[hd]
  have agF:(rest.take 32).length=32:=by rw[List.length_take];omega
  rw[NJ,← Up]at tQ
  rw[← hd]at hdc
  have adG:=d.len
  refine aU (p:=0) (q:=32) zr zr zr zr zr zr zr aj aj (.inr (by simp only;have:=nN.2;obtain⟨_,_,hq,hq2⟩:=this;simp only[Value.slice.injEq]at hq;omega)) ?_
  ((refine au 67 ((.slice (some ⟨bb,oo,none⟩) 32 yc)) rfl ((by rw[← NJ];rfl)) ?_))
  refine tJ (U:=bh) zr zr zr zr (Nat.le_refl _) ?_
  have mA:Vw Z (.slice (some ⟨bb,oo,none⟩) 32 yc) 32 (dC d):=by
   have:=tQ.1
   rw[adG,← fg]at this
   exact this
  refine go ?_
  refine aY ?_
  refine dP (U:=bh) (es:=dC d) 1 0 zr zr zr mA rfl (fun j v hj=>by rw[Nat.zero_add];exact hj) zr zr zr ?_
  refine go ?_
  refine az (cs:=dC d) zr zr zr zr zr zr zr zr zr (fun _ w hw=>hw.cI ad) ?_
  intro row
  refine go ?_
  refine bg (mm:=1) (news:=dC d) 2 0 zr zr zr zr zr zr zr zr zr zr zr zr (Vw.ak rfl) rfl (by rw[fg];exact dR _) (by simp only;omega) (by show(_+_)*32≤_;simp only;omega) (fun _=>rfl) (fun _ w hw=>hw.cI ad) ?_
  intro v1
  simp only
  rw[show acc.flatMap dC++dC d=(acc++[d]).flatMap dC from by simp,show acc.length+1=(acc++[d]).length from by simp]
  refine aN 2 rfl ?_
  rintro ja jc rfl
  refine go ?_
  refine aU (p:=32) (q:=(rest.length:Int)) zr zr zr zr zr zr zr aj aj (.inl rfl) ?_
  ((refine au 60 ((.slice (sliceAt ya yc 32 1) (rest.length-32) (yc-32))) rfl ((by rw[show((rest.length:Int)).toNat=rest.length from by omega];rfl)) ?_))
  refine go ?_
  have Cx:eU Z (.slice (sliceAt ya yc 32 1) (rest.drop 32).length (yc-32)) (rest.drop 32):=by rw[List.length_drop];exact Cx
  rw[← List.length_drop]
  refine aQ ih (sliceAt ya yc 32 1,yc-32,rest.drop 32,acc++[d],ja,jc) rfl ⟨Cx,by simp only[List.length_drop];omega,by simp only[List.length_drop];omega,by simp only[List.append_assoc];rw[← gH,hdc];rfl⟩ (by simp only[List.length_drop];omega) cF ad
 ·obtain⟨yZ,zq⟩:=h7 rfl
  simp only at zq
  have hp:uR m 7 b=if(dp b).length%3=0 then some { m with dz:=my (dp b) } else none:=rfl
  rw[yZ]at zq
  simp only[List.length_nil,Value.slice.injEq]at zq
  obtain⟨rfl,-,rfl⟩:=zq
  have NY:=Df _ (dp b) (Nat.le_refl _)
  refine go ?_
  refine ao (j5 _ ⟨xa,_,xc,rfl⟩) ?_
  rintro _ _⟨bq,rfl,rfl⟩
  refine go ?_
  refine ao (ji 212 [ptr bq] (b.length+1) [ak bq (cl [.slice xa b.length xc] 22),Z] [Z] (fun xs=>xs=dp b) aj (iX Z bq _ b hb aj)) ?_
  rintro r _⟨_,rfl,rfl⟩
  refine aN 0 rfl ?_
  rintro ra rc rfl
  (repeat(first|refine g9 ?_|refine uy zr zr zr aj aj ?_))
  by_cases h3:(dp b).length%3=0
  case neg =>
   rw[if_neg h3]at hp
   refine aE 6 ((.bool false)) rfl ((congrArg Value.bool (decide_eq_false aj))) ?_
   refine bF (fun _:Unit=>True) (fun _=>0) (fun _=>[(6,.bool false)]) (fun _=>Z::F) () trivial rfl cF ad ?_
   rintro _ _ ih
   refine go ?_
   refine ah hE Tryz.func69 zr zr (.inl ⟨hp,rfl,rfl⟩)
  rw[if_pos h3]at hp
  refine aE 6 ((.bool true)) rfl ((congrArg Value.bool (decide_eq_true aj))) ?_
  rw[yZ]
  refine zQ 0 rfl ?_
  intro IY hcn
  refine bF (fun y:Option Addr × Nat × List Int × List Mem × Option Addr × Nat=>(Vw (aK 3 1 (.slice ra (dp b).length rc) (dp b).length (iV (dp b))) (.slice y.1 y.2.2.1.length y.2.1) y.2.2.1.length (iV y.2.2.1)∧y.2.2.1.length≤y.2.1)∧y.2.2.1.length%3=0∧y.2.2.1.length≤(dp b).length∧y.2.2.2.1++my y.2.2.1=my (dp b)) (fun y=>y.2.2.1.length)
   (fun y=>[(0,ptr b6),(7,.slice y.1 y.2.2.1.length y.2.1),(6,.bool true)])
   (fun y=>ak b6 (cl (mC ⟨.slice ia m.ids.length ic,.slice ba m.bytes.length bc,.slice pa m.proof.length pc,.slice y.2.2.2.2.1 y.2.2.2.1.length y.2.2.2.2.2⟩ { m with dz:=y.2.2.2.1 }) 55)::aK 211 4 (.slice y.2.2.2.2.1 y.2.2.2.1.length y.2.2.2.2.2) y.2.2.2.1.length (mV y.2.2.2.1)::aK 3 1 (.slice ra (dp b).length rc) (dp b).length (iV (dp b))::Z::F)
   (ra,rc,dp b,[],none,0) ⟨⟨IY,hcn⟩,h3,Nat.le_refl _,rfl⟩ rfl cF (aq.trans (bS 211 4 none _) ad) ?_
  rintro⟨ya,yc,rest,acc,av,ac⟩⟨⟨ko,Hy⟩,LU,w9,gH⟩ ih
  simp only at ko Hy LU w9 gH
  have Ck:acc.length≤(my (dp b)).length:=by
   have:=congrArg List.length gH
   rw[List.length_append]at this
   omega
  refine go ?_
  refine aB zr zr ?_ ?_
  case' refine_2 =>
   intro fO
   simp only at fO
   have EW:rest=[]:=List.eq_nil_of_length_eq_zero aj
   rw[EW]at gH
   have gH:acc=my (dp b):=by rw[← gH];simp[my]
   refine eE 1 rfl ?_
   intro dH
   refine go ?_
   have Dx:gW (Sep [aK 211 4 (.slice av acc.length ac) acc.length (mV acc),Z]) ⟨.slice ia m.ids.length ic,.slice ba m.bytes.length bc,.slice pa m.proof.length pc,.slice av acc.length ac⟩ { m with dz:=acc } :=
    ⟨hm.put.vi,hm.put.vb,hm.put.vp,dH.mono (aX (i:=0) rfl),hm.li,hm.lb,hm.lp,by simp only;omega⟩
   rw[← gH]at hp
   refine ah hE Tryz.func69 zr zr (.inr ⟨_,_,_,hp,rfl,Dx,fun _=>rfl,fun h=>absurd rfl h,rfl⟩)
  intro dk
  simp only at dk
  match rest,LU,ko,Hy,w9,gH,ih,dk with
  | [],_,_,_,_,_,_,dk=>exact absurd dk (by simp)
  | [_],LU,_,_,_,_,_,_=>exact absurd LU (by simp)
  | [_,_],LU,_,_,_,_,_,_=>exact absurd LU (by simp)
  | x::y::z::rst,LU,ko,Hy,w9,gH,ih,dk =>
   have hvk:=ko.Kv (s:=1) (by simp[iV]) Hy 3 (by simp)
   obtain⟨bb,oo,cc,ez⟩:=ko.some (by simp[iV])
   simp only[Value.slice.injEq,true_and]at ez
   obtain⟨rfl,rfl⟩:=ez
   refine aO (fun w=>Sat G w ([ak b6 (cl (mC ⟨.slice ia m.ids.length ic,.slice ba m.bytes.length bc,.slice pa m.proof.length pc,.slice av acc.length ac⟩ { m with dz:=acc }) 55),aK 3 1 (.slice ra (dp b).length rc) (dp b).length (iV (dp b))])) (dM 0 15 (.act 15 (.act 16 (.st 17 (.st 18 (.act 19 .nil)))))) rfl aw aw aw dI ?_
   refine go ?_
   refine bW 0 zr zr zr zr zr zr zr zr (by simp only[List.length_cons];omega) ?_
   refine go ?_
   refine aY ?_
   refine cQ 1 0 zr zr zr ko rfl (show(iV (x::y::z::rst))[0]?=some (.int .i64 x)from rfl) zr zr (go ?_)
   refine bW 1 zr zr zr zr zr zr zr zr (by simp only[List.length_cons];omega) ?_
   refine go ?_
   refine aY ?_
   refine cQ 1 1 zr zr zr ko rfl (show(iV (x::y::z::rst))[1]?=some (.int .i64 y)from rfl) zr zr (go ?_)
   refine bW 2 zr zr zr zr zr zr zr zr (by simp only[List.length_cons];omega) ?_
   refine go ?_
   refine aY ?_
   refine cQ 1 2 zr zr zr ko rfl (show(iV (x::y::z::rst))[2]?=some (.int .i64 z)from rfl) zr zr (go ?_)
   refine az (cs:=No ⟨x,y,z,0⟩) zr zr zr zr zr zr zr zr zr (fun _ w hw=>hw.cI ad) ?_
   intro row
   refine go ?_
   refine bg (mm:=1) (news:=No ⟨x,y,z,0⟩) 2 0 rfl rfl rfl rfl rfl rfl rfl rfl rfl rfl rfl rfl (Vw.ak rfl) rfl (by intro v hv;simp[No]at hv;rcases hv with rfl|rfl|rfl|rfl <;> rfl) (by simp only;omega) (by show(_+_)*32≤_;simp only;omega) (fun _=>rfl) (fun _ w hw=>hw.cI ad) ?_
   intro v1
   simp only
   rw[show mV acc++No (⟨x,y,z,0⟩:Mem)=mV (acc++[(⟨x,y,z,0⟩:Mem)])from by simp[mV],show acc.length+1=(acc++[(⟨x,y,z,0⟩:Mem)]).length from by simp]
   refine aN 2 rfl ?_
   rintro ja jc rfl
   refine go ?_
   refine aU (p:=3) (q:=((x::y::z::rst).length:Int)) zr zr zr zr zr zr zr aj (by simp only[List.length_cons];omega) (.inl rfl) ?_
   have Rk:(x::y::z::rst).length-3=rst.length:=by simp
   ((refine au 90 ((.slice (sliceAt (some ⟨bb,oo,none⟩) yc 3 1) rst.length (yc-3))) rfl ((by rw[show(((x::y::z::rst).length:Int)).toNat=(x::y::z::rst).length from by omega,show(3:Int).toNat=3 from rfl,Rk];rfl)) ?_))
   refine go ?_
   rw[Rk,Nat.mul_one,show(iV (x::y::z::rst)).drop 3=iV rst from rfl]at hvk
   have hr4:rst.length%3=0:=by simp only[List.length_cons]at LU;omega
   have hr5:rst.length+3≤yc:=by simp only[List.length_cons]at Hy;omega
   have hr6:rst.length+3≤(dp b).length:=by simp only[List.length_cons]at w9;omega
   refine aQ ih (sliceAt (some ⟨bb,oo,none⟩) yc 3 1,yc-3,rst,acc++[(⟨x,y,z,0⟩:Mem)],ja,jc) rfl ⟨⟨hvk,by simp only;omega⟩,hr4,by simp only;omega,by simp only[List.append_assoc];rw[← gH];rfl⟩ (by simp only[List.length_cons];omega) cF ad
 ·refine go ?_
  refine aeb (sW Z _ b hb aj) ?_
  have hp:uR m 8 b=(match nL b with|some n=>if n≤1 then some { m with jq:=decide (n=1) } else none|none=>none):=rfl
  cases h1:nL b with
  | none =>
   rw[h1]at hp
   simp only
   refine go ?_
   refine ah hE Tryz.func69 zr zr (.inl ⟨hp,rfl,rfl⟩)
  | some n =>
   rw[h1]at hp
   simp only at hp ⊢
   by_cases hn:n≤1
   ·rw[if_pos hn]at hp
    refine go ?_
    refine aE 6 ((.bool true)) rfl ((congrArg Value.bool (decide_eq_true hn))) ?_
    refine al (aq.cg [] _) ?_
    have Dx:gW (Sep [Sep [],Z]) ⟨.slice ia m.ids.length ic,.slice ba m.bytes.length bc,.slice pa m.proof.length pc,.slice ma m.dz.length mc⟩ { m with jq:=decide (n=1) } :=
     ⟨hm.put.vi,hm.put.vb,hm.put.vp,hm.put.vm,hm.li,hm.lb,hm.lp,hm.lm⟩
    refine ah hE Tryz.func69 zr zr (.inr ⟨_,_,Sep [],hp,rfl,Dx,fun _=>rfl,fun _=>rfl,rfl⟩)
   ·rw[if_neg hn]at hp
    refine go ?_
    refine aE 6 ((.bool false)) rfl ((congrArg Value.bool (decide_eq_false hn))) ?_
    refine ah hE Tryz.func69 zr zr (.inl ⟨hp,rfl,rfl⟩)
end Go.Proofs.YtlionahpheehaaaGreatDoor
namespace Go.Proofs.YtlionahpheehaaaGreatDoor
open Go Go.SL
def MV.zero:MV:=⟨.slice none 0 0,.slice none 0 0,.slice none 0 0,.slice none 0 0⟩
def gW.zero(X:HP)(k:Int):gW X MV.zero { ef.zero with kind:=k } :=
 ⟨⟨none,0,rfl,.inl rfl⟩,⟨⟨none,0,rfl,.inl rfl⟩,none,0,rfl,Nat.le_refl _⟩,⟨⟨none,0,rfl,.inl rfl⟩,none,0,rfl,Nat.le_refl _⟩,⟨none,0,rfl,.inl rfl⟩,by simp[ef.zero],by simp[ef.zero],by simp[ef.zero],by simp[ef.zero]⟩
def itN{eu:List It}{i:Nat}{x:It}(h:eu[i]?=some x):(eu.flatMap kq)[i*2+0]?=some (.int .i64 x.n):=(cM iy h 0 aj).trans rfl
def itB{eu:List It}{i:Nat}{x:It}(h:eu[i]?=some x):(eu.flatMap kq)[i*2+1]?=some x.v:=(cM iy h 1 aj).trans rfl
def N5{k:Int}(h:da k≠[]):(da k)[0]?=some 1:=by
 unfold da at h ⊢
 repeat' split
 all_goals first|rfl|(exfalso;simp_all)
def N4{k i:Int}{j:Nat}(h:(da k)[j]?=some i)(hj:0<j):2≤i∧i≤8:=by
 unfold da at h
 have h6:j<6:=by
  rcases Nat.lt_or_ge j 6 with h'|h'
  ·exact h'
  ·repeat' split at h
   all_goals first|(rw[List.getElem?_eq_none (by simp;omega)]at h;cases h)|(rw[List.getElem?_eq_none (by simp)]at h;cases h)
 have:j=1∨j=2∨j=3∨j=4∨j=5:=by omega
 rcases this with rfl|rfl|rfl|rfl|rfl
 all_goals(repeat' split at h)
 all_goals first|(simp at h;omega)|simp at h
def N3(k:Int):(da k).Nodup:=by
 unfold da
 repeat' split
 all_goals decide
def Qx{l:List Int}(h:l.Nodup){i:Nat}{x:Int}(hx:l[i]?=some x):x ∉ l.take i:=by
 intro hm
 obtain⟨j,hj,he⟩:=List.getElem_of_mem hm
 rw[List.length_take]at hj
 rw[List.getElem_take]at he
 have hi:=(List.getElem?_eq_some_iff.1 hx).1
 have h2:l[j]?=l[i]? := by rw[hx,List.getElem?_eq_getElem aj,he]
 have:=(List.getElem?_inj aj h).1 h2
 omega
def MF{b:List UInt8}{xs:List (Int × List UInt8)}(h:nJ b=some xs):∀x∈xs,x.2.length≤65536:=by
 unfold nJ at h
 split at h
 ·cases h
 split at h
 ·cases h
  have key:∀(f:Nat) (b:List UInt8),b.length≤f→∀x∈eP b,x.2.length≤b.length:=by
   intro f
   induction f with
   | zero =>
    intro b hb x hx
    have:b=[]:=List.eq_nil_of_length_eq_zero aj
    subst this;simp[rB]at hx
   | succ f ih =>
    intro b hb x hx
    cases b with
    | nil=>simp[rB]at hx
    | cons c r =>
     have h1:=px r
     rw[List.length_cons]at hb ⊢
     by_cases hk:(db r).2.2=true∧(db r).1≤(db r).2.1.length
     ·rw[sL hk]at hx
      rcases List.mem_cons.1 hx with rfl|hx
      ·simp only[List.length_take];omega
      ·have:=ih _ (by rw[List.length_drop];omega) x hx
       rw[List.length_drop]at this;omega
     ·rw[Ac hk]at hx
      rw[List.mem_singleton.1 hx];simp
  intro x hx
  have:=key b.length b (Nat.le_refl _) x hx
  omega
 ·cases h
def M3{m m':ef}{i:Int}{b:List UInt8}(h:uR m i b=some m'):(i≠6→m'.proof=m.proof)∧(i≠7→m'.dz=m.dz):=by
 unfold uR at h
 split at h
 ·split at h <;> cases h;exact⟨fun _=>rfl,fun _=>rfl⟩
 split at h
 ·obtain⟨n,_,rfl⟩:=Option.map_eq_some_iff.1 h;exact⟨fun _=>rfl,fun _=>rfl⟩
 split at h
 ·cases h;exact⟨fun _=>rfl,fun _=>rfl⟩
 split at h
 ·cases h;exact⟨fun _=>rfl,fun _=>rfl⟩
 split at h
 ·rename_i h6;split at h <;> cases h;exact⟨fun hn=>absurd h6 hn,fun _=>rfl⟩
 split at h
 ·rename_i h7;split at h <;> cases h;exact⟨fun _=>rfl,fun hn=>absurd h7 hn⟩
 split at h
 ·split at h
  ·split at h <;> cases h;exact⟨fun _=>rfl,fun _=>rfl⟩
  ·cases h
 ·cases h
attribute [local irreducible] J K aH Ends ak aK aV bX bj aS bp bD cp
def Cb(A:HP)(v:Value)(b:List UInt8)(hv:eU A v b)(hl:b.length≤1000000000) :
    aH Tryz.prog 18 [v] [A] (fun r H=>(dO b=none∧r = .tuple #[.agg (mC MV.zero ef.zero).toArray,.int .i64 2]∧H=[A]) ∨
      (∃(m:ef) (mv:MV) (Z:HP),dO b=some m∧r = .tuple #[.agg (mC mv m).toArray,.int .i64 0]∧gW Z mv m∧H=[Z,A])):=by
  obtain⟨a,c,rfl,hc⟩:=hv.2
  refine aH.aC Tryz.func18 Tryz.ntmps18 fun G F R hE=>?_
  refine aP rfl ?_
  refine aL zr zr zr bO ?_
  intro b2
  refine go ?_
  refine ao (jy A _ b hv hl) ?_
  rintro _ _ (⟨l8,rfl,rfl⟩|⟨xs,eu,Z0,rv,l8,mO,xY,rfl,rfl,-⟩)
  · have hd:dO b=none:=by unfold dO;rw[l8]
    refine go ?_
    refine je (U:=bh) 1 hE Tryz.func18 zr zr zr zr zr zr zr zr (.inl ⟨hd,rfl,rfl⟩) ad
  obtain⟨ra,rc,rfl⟩:=xY.1.shape
  match eu,mO,xY with
  | [],mO,xY =>
    simp only[List.map_nil]at mO
    subst mO
    have hd:dO b=none:=by unfold dO;rw[l8]
    refine go ?_
    refine je (U:=bh) 2 hE Tryz.func18 zr zr zr zr zr zr zr zr (.inl ⟨hd,rfl,rfl⟩) ad
  | x0::its',mO,xY =>
    obtain⟨n0,v0,b0⟩:=x0
    have kX:=xY.2 _ (List.mem_cons_self ..)
    simp only at kX
    obtain⟨va,vc,rfl,hvc⟩:=kX.2
    simp only[List.map_cons]at mO
    have jx:=MF l8
    obtain⟨bb,oo,cc,ez⟩:=xY.1.some (by simp[kq])
    simp only[Value.slice.injEq,true_and]at ez
    obtain⟨rfl,rfl⟩:=ez
    have u4:b0.length≤65536:=jx (n0,b0) (by rw[← mO];exact List.mem_cons_self ..)
    by_cases Re:n0=1
    case neg =>
      have hd:dO b=none:=by
        unfold dO;rw[l8,← mO]
        show(match some ((n0,b0)::_)with|some ((1,b0)::l)=>_|_=>none)=none
        split
        · rename_i h;simp only[Option.some.injEq,List.cons.injEq,Prod.mk.injEq]at h;exact absurd h.1.1 Re
        · rfl
      refine go ?_
      refine cu 0 2 zr zr zr zr zr zr zr zr (by simp) (go ?_)
      refine aY ?_
      refine aZ 0 (0*2+0) zr zr zr xY.1 (Nat.add_assoc _ _ _) (itN rfl) zr zr (go ?_)
      refine aE 28 ((.bool true)) rfl ((congrArg Value.bool (by simp[Re]))) (go ?_)
      refine je (U:=bh) 2 hE Tryz.func18 zr zr zr zr zr zr zr zr (.inl ⟨hd,rfl,rfl⟩) ad
    subst Re
    have Z':((⟨1,.slice va b0.length vc,b0⟩:It)::its')[0]?=some ⟨1,.slice va b0.length vc,b0⟩:=rfl
    have pk:dO b=match nL b0 with
        | some k=>if(da k).length≠(its'.map It.p).length+1 then none else match cS { ef.zero with kind:=k } (((da k).drop 1).zip (its'.map It.p))with
          | some m=>if dE m then some m else none
          | none=>none
        | none=>none:=by
      unfold dO;rw[l8,← mO];rfl
    refine go ?_
    refine cu 0 2 zr zr zr zr zr zr zr zr (by simp) (go ?_)
    refine aY ?_
    refine aZ 0 (0*2+0) zr zr zr xY.1 (Nat.add_assoc _ _ _) (itN rfl) zr zr (go ?_)
    refine aL zr zr zr bO ?_
    intro b6
    refine go ?_
    refine cu 0 2 zr zr zr zr zr zr zr zr (by simp) (go ?_)
    refine aY ?_
    refine aZ 1 (0*2+1) zr zr zr xY.1 (Nat.add_assoc _ _ _) (itB rfl) zr zr (go ?_)
    refine aeb (sW Z0 _ b0 kX aj) ?_
    cases h1:nL b0 with
    | none =>
      rw[h1]at pk
      simp only at pk ⊢
      refine go ?_
      refine je (U:=bh) 3 hE Tryz.func18 zr zr zr zr zr zr zr zr (.inl ⟨pk,rfl,rfl⟩) ad
    | some k =>
      rw[h1]at pk
      simp only at pk ⊢
      refine go ?_
      refine ao (lK k) ?_
      rintro _ _ rfl
      refine aN 0 rfl ?_
      rintro ha hcp rfl
      have Kc:=A0 k
      refine go ?_
      by_cases hlen:(da k).length=its'.length+1
      case neg =>
        rw[if_pos (by rw[List.length_map];exact hlen)]at pk
        ((refine aE 49 ((.bool true)) rfl ((congrArg Value.bool (decide_eq_true (by simp only[List.length_cons];omega)))) ?_))
        refine go ?_
        refine bE ?_
        refine aD 4 eH zr zr zr zr zr zr zr zr zr (go ?_)
        refine je (U:=bh) 4 hE Tryz.func18 zr zr zr zr zr zr zr zr (.inl ⟨pk,rfl,rfl⟩) ad
      rw[if_neg (by rw[List.length_map];omega)]at pk
      ((refine aE 49 ((.bool false)) rfl ((congrArg Value.bool (decide_eq_false (by simp only[List.length_cons];omega)))) ?_))
      refine go ?_
      refine ao (lK k) ?_
      rintro _ _ rfl
      refine aN 0 rfl ?_
      rintro ja jc rfl
      refine go ?_
      have dw:da k≠[]:=by intro e;rw[e]at hlen;simp at hlen
      refine bF (fun y:Nat × MV × ef × HP=>y.1≤(da k).length∧gW y.2.2.2 y.2.1 y.2.2.1∧qM y.2.2.2 (.slice (some ⟨bb,oo,none⟩) ((⟨1,.slice va b0.length vc,b0⟩:It)::its').length rc) (⟨1,.slice va b0.length vc,b0⟩::its') ∧
          cS { ef.zero with kind:=k } (((da k).drop 1).zip (its'.map It.p))=cS y.2.2.1 (((da k).drop (max y.1 1)).zip (its'.map It.p |>.drop (max y.1 1-1))) ∧
          (6 ∉ (da k).take y.1→y.2.2.1.proof=[]∧y.2.1.p = .slice none 0 0)∧(7 ∉ (da k).take y.1→y.2.2.1.dz=[]∧y.2.1.m = .slice none 0 0)) (fun y=>(da k).length-y.1)
        (fun y=>[(2,ptr b2),(4,.slice (some ⟨bb,oo,none⟩) ((⟨1,.slice va b0.length vc,b0⟩:It)::its').length rc),(6,ptr b6),(53,.slice ja (da k).length jc),(54,.int .i64 ((da k).length:Int)),(55,.int .i64 (y.1:Int))])
        (fun y=>ak b6 (cl (mC y.2.1 y.2.2.1) 55)::y.2.2.2::aK 3 1 (.slice ja (da k).length jc) (da k).length (iV (da k))::A::ak b2 (cl (mC MV.zero ef.zero) 55)::F)
        (0,MV.zero,{ ef.zero with kind:=k },Z0) ⟨Nat.zero_le _,gW.zero Z0 k,xY,by simp,fun _=>⟨rfl,rfl⟩,fun _=>⟨rfl,rfl⟩⟩ rfl cF ad ?_
      rintro⟨i,mv,m,Z⟩⟨hi,Hl,hiz,mg,h6,h7⟩ ih
      simp only at hi Hl hiz mg h6 h7
      obtain⟨ui,ub,up,um⟩:=mv
      obtain⟨ia,ic,rfl⟩:=Hl.vi.shape
      obtain⟨ba,bc,rfl,_⟩:=Hl.vb.2
      obtain⟨pa,pc,rfl⟩:=Hl.vp.1.shape
      obtain⟨ma,mc,rfl⟩:=Hl.vm.shape
      refine go ?_
      refine aB zr zr ?_ ?_
      case' refine_2 =>
        intro fO
        simp only at fO
        have eA:cS { ef.zero with kind:=k } (((da k).drop 1).zip (its'.map It.p))=some m:=by
          rw[mg,List.drop_eq_nil_of_le aj];rfl
        rw[eA]at pk
        simp only at pk
        refine go ?_
        refine ct 0 zr zr zr zr zr zr (go ?_)
        refine aeb (pV Z _ m Hl) ?_
        cases hr:dE m with
        | false =>
          rw[hr,if_neg (by simp)]at pk
          refine go ?_
          refine bE ?_
          refine aD 4 eH zr zr zr zr zr zr zr zr zr (go ?_)
          refine je (U:=bh) 4 hE Tryz.func18 zr zr zr zr zr zr zr zr (.inl ⟨pk,rfl,rfl⟩) ad
        | true =>
          rw[hr,if_pos rfl]at pk
          refine go ?_
          refine ct 1 zr zr zr zr zr zr ?_
          refine bE ?_
          refine aD 4 eH zr zr zr zr zr zr zr zr zr (go ?_)
          refine je (U:=bh) (cs:=mC _ m) 4 hE Tryz.func18 zr zr zr zr zr zr zr zr (.inr ⟨m,_,Z,pk,rfl,Hl,rfl⟩) ad
      intro dk
      simp only at dk
      have e9:i<(da k).length:=by omega
      obtain⟨j,hj⟩:∃j,(da k)[i]?=some j:=⟨(da k)[i],by simp⟩
      obtain⟨xt,Vv⟩:∃xt,((⟨1,.slice va b0.length vc,b0⟩:It)::its')[i]?=some xt:=⟨_,List.getElem?_eq_getElem (by simp only[List.length_cons];omega)⟩
      have hxb:=hiz.2 xt (List.mem_of_getElem? Vv)
      have O1:xt.p∈xs:=by rw[← mO];exact List.mem_map_of_mem (f:=It.p) (List.mem_of_getElem? Vv)
      have IX:xt.b.length≤65536:=jx _ O1
      obtain⟨xn,xv,xb⟩:=xt
      simp only at hxb IX
      obtain⟨xa,xc,rfl,hxc⟩:=hxb.2
      refine eE 2 rfl ?_
      intro dH
      obtain⟨b3,o3,c3,LQ⟩:=dH.some (ine e9)
      simp only[Value.slice.injEq,true_and]at LQ
      obtain⟨rfl,rfl⟩:=LQ
      refine go ?_
      refine bW i zr zr zr zr zr zr zr zr e9 ?_
      refine aZ 2 i zr zr zr dH rfl (Ba hj) zr zr (go ?_)
      refine cu i 2 zr zr zr zr zr zr zr zr (by simp only[List.length_cons];omega) ?_
      refine go ?_
      refine aY ?_
      refine aZ 1 (i*2+0) zr zr zr hiz.1 (Nat.add_assoc _ _ _) (itN Vv) zr zr ?_
      have S5:(da k).drop i=j::(da k).drop (i+1):=by
        rw[List.drop_eq_getElem_cons e9];congr 1
        rw[List.getElem?_eq_getElem e9]at hj;exact Option.some.inj hj
      rcases Nat.eq_zero_or_pos i with rfl|kY
      · have xd:j=1:=by have:=N5 dw;rw[hj]at this;exact Option.some.inj this
        simp only[List.getElem?_cons_zero,Option.some.injEq,It.mk.injEq]at Vv
        obtain⟨rfl,-,-⟩:=Vv
        subst xd
        refine go ?_
        refine aQ ih (1,⟨.slice ia m.ids.length ic,.slice ba m.bytes.length bc,.slice pa m.proof.length pc,.slice ma m.dz.length mc⟩,m,Z) rfl ⟨by simp only;omega,Hl,hiz,mg,fun h=>h6 (fun h'=>by simp at h'),fun h=>h7 (fun h'=>by simp at h')⟩ (by simp only;omega) cF ad
      have aes:its'[i-1]?=some ⟨xn,.slice xa xb.length xc,xb⟩:=by
        rw[show i=(i-1)+1 by omega,List.getElem?_cons_succ]at Vv;exact Vv
      have afm:(its'.map It.p).drop (i-1)=(xn,xb)::(its'.map It.p).drop i:=by
        have h1:(its'.map It.p)[i-1]?=some (xn,xb):=by rw[List.getElem?_map,aes];rfl
        have h2:=(List.getElem?_eq_some_iff.1 h1)
        rw[List.drop_eq_getElem_cons h2.1,h2.2,show i-1+1=i by omega]
      have Z7:cS { ef.zero with kind:=k } (((da k).drop 1).zip (its'.map It.p))=cS m ((j,xn,xb)::((da k).drop (i+1)).zip ((its'.map It.p).drop i)):=by
        rw[mg,Nat.max_eq_left kY,S5,afm];rfl
      obtain⟨j2,j8⟩:=N4 hj kY
      have tO:=Qx (N3 k) hj
      by_cases I1:j=xn
      case neg =>
        have Hj:cS m ((j,xn,xb)::((da k).drop (i+1)).zip ((its'.map It.p).drop i))=none:=by rw[cS,if_pos I1]
        rw[Z7,Hj]at pk
        simp only at pk
        have hx:Value.bool (decide (xn≠j)) = .bool true:=congrArg Value.bool (decide_eq_true (fun h=>I1 h.symm))
        refine go ?_
        refine au 67 ((.bool true)) rfl (hx) (go ?_)
        refine bE ?_
        refine aD 4 eH zr zr zr zr zr zr zr zr zr (go ?_)
        refine je (U:=bh) 4 hE Tryz.func18 zr zr zr zr zr zr zr zr (.inl ⟨pk,rfl,rfl⟩) ad
      subst I1
      have Ub:∀q:Int,cS m ((j,j,xb)::((da k).drop (i+1)).zip ((its'.map It.p).drop i))=(match uR m j xb with|some m'=>cS m' (((da k).drop (i+1)).zip ((its'.map It.p).drop i))|none=>none):=fun _=>by rw[cS,if_neg (fun h=>h rfl)];rfl
      have Ub:=Ub 0
      have hx:Value.bool (decide (j≠j)) = .bool false:=congrArg Value.bool (decide_eq_false (fun h=>h rfl))
      refine go ?_
      refine au 67 ((.bool false)) rfl (hx) (go ?_)
      ((refine au 70 ((.bool true)) rfl ((congrArg Value.bool (decide_eq_true (by simp only;omega)))) ?_))
      refine go ?_
      refine cu i 2 zr zr zr zr zr zr zr zr (by simp only[List.length_cons];omega) ?_
      refine go ?_
      refine aY ?_
      refine aZ 1 (i*2+1) zr zr zr hiz.1 (Nat.add_assoc _ _ _) (itB Vv) zr zr (go ?_)
      refine ao (F0 Z b6 _ m Hl j ⟨j2,j8⟩ _ xb hxb aj (fun h=>h6 (h ▸ tO)) (fun h=>h7 (h ▸ tO))) ?_
      rintro _ _ (⟨kZ,rfl,rfl⟩|⟨m',v',Y,VB,rfl,hmy,hp6,hp7,rfl⟩)
      · rw[Z7,Ub,kZ]at pk
        simp only at pk
        refine go ?_
        refine je (U:=bh) 3 hE Tryz.func18 zr zr zr zr zr zr zr zr (.inl ⟨pk,rfl,rfl⟩) ad
      · refine go ?_
        have pg:=M3 VB
        have ac0:cS { ef.zero with kind:=k } (((da k).drop 1).zip (its'.map It.p))=cS m' (((da k).drop (max (i+1) 1)).zip ((its'.map It.p).drop (max (i+1) 1-1))):=by
          rw[Z7,Ub,VB,Nat.max_eq_left aj,show i+1-1=i from rfl]
        have om:(da k).take (i+1)=(da k).take i++[j]:=by rw[List.take_add_one,hj];rfl
        refine al (aq.trans (aq.pick [1,2] rfl) (aq.cg [Y,Z] _)) ?_
        refine aQ ih (i+1,v',m',Sep [Y,Z]) rfl ⟨by simp only;omega,hmy,⟨hiz.1.mono (aX (i:=1) rfl),fun y hy=>(hiz.2 y hy).mono (aX (i:=1) rfl)⟩,ac0,fun h=>by
          simp only[om,List.mem_append,List.mem_singleton,not_or]at h
          have h1:=h6 h.1
          have h2:j≠6:=fun e=>h.2 e.symm
          exact⟨(pg.1 h2).trans h1.1,(hp6 h2).trans h1.2⟩,fun h=>by
          simp only[om,List.mem_append,List.mem_singleton,not_or]at h
          have h1:=h7 h.1
          have h2:j≠7:=fun e=>h.2 e.symm
          exact⟨(pg.2 h2).trans h1.1,(hp7 h2).trans h1.2⟩⟩ (by simp only;omega) cF ad
end Go.Proofs.YtlionahpheehaaaGreatDoor
namespace Go.Proofs.YtlionahpheehaaaGreatDoor
open Go Go.SL
variable{i:Int}{e j n:Nat}{t x:SJ}{y:Tk}{m:ef}
def Bz:∀(k n i acc j:Nat),n<128 ^ (k+1)→j<(uv n).length→nz i acc ((uv n).take j)=none
 | k,n,i,acc,j,hn,hj=>by
  by_cases h:n<128
  ·rw[gi h]at hj ⊢
   have:j=0:=by simp at hj;exact hj
   subst this;rfl
  ·cases k with
   | zero=>simp at hn;omega
   | succ k =>
    rw[xo h]at hj ⊢
    cases j with
    | zero=>rfl
    | succ j =>
     rw[List.length_cons]at hj
     have e:(UInt8.ofNat (n%128+128)).toNat=n%128+128:=by simp only[UInt8.toNat_ofNat'];omega
     rw[List.take_succ_cons]
     simp only[nz,e]
     split
     ·rfl
     ·rw[if_neg aj]
      exact Bz k (n/128) (i+1) _ j (Nat.div_lt_of_lt_mul (by rw[Nat.pow_succ,Nat.mul_comm]at hn;exact hn)) aj
def El(hn:n<9223372036854775808)(hj:j<(uv n).length):cH ((uv n).take j)=none:=by
 unfold cH db
 rw[Bz 8 n 0 0 j (Nat.lt_of_lt_of_le hn (by decide)) hj]
 simp
def TL(hn:n<9223372036854775808)(rest:List UInt8):∀(f k:Nat),1≤k→k≤(uv n).length→(uv n).length<k+f→AM (uv n++rest) f k=some (n,(uv n).length):=by
 intro f
 induction f with
 | zero=>intro k h1 h2 h3;omega
 | succ f ih =>
  intro k h1 h2 h3
  rw[AM,if_pos (by rw[List.length_append];omega),List.take_append_of_le_length h2]
  rcases Nat.lt_or_ge k (uv n).length with h|h
  ·rw[El hn h]
   exact ih (k+1) aj aj aj
  ·have:k=(uv n).length:=by omega
   subst this
   rw[List.take_length,sK hn]
def TK(hn:n<4398046511104)(rest:List UInt8):AL (uv n++rest)=some (n,(uv n).length) :=
 TL aj rest 6 1 (Nat.le_refl _) (Eh n) (by have:=xl 5 n (Nat.lt_of_lt_of_le hn (by decide));omega)
def nT:∀(l:List Int),(∀n∈l,0≤n∧n<4398046511104)→dp (bZ l)=l
 | [],_=>rfl
 | x::l,h=>by
  have hx:=h x (List.mem_cons_self ..)
  obtain⟨n,rfl⟩:∃n:Nat,x=n:=⟨x.toNat,aj⟩
  have e:bZ ((n:Int)::l)=uv n++bZ l:=by simp[bZ]
  rw[e,qj (TK aj _),List.drop_left,nT l fun y hy=>h y (List.mem_cons_of_mem _ hy)]
def iW{n:Int}(h:0≤n∧n<4398046511104):nL (bZ [n])=some n:=by
 unfold nL
 rw[nT [n] (by intro m hm;simp at hm;subst hm;exact h)]
 exact if_neg aj
def Bv:∀l:List Dg,qQ (l.flatMap Dg.bs)=l
 | []=>rfl
 | x::l=>by
  have hx:=x.len
  rw[List.flatMap_cons,u9 (by rw[List.length_append];omega)]
  have h1:(x.bs++l.flatMap Dg.bs).take 32=x.bs:=by rw[← hx,List.take_left]
  have h2:(x.bs++l.flatMap Dg.bs).drop 32=l.flatMap Dg.bs:=by rw[← hx,List.drop_left]
  rw[h2,Bv l]
  congr 1
  cases x
  congr
def AO:∀l:List Mem,(∀x∈l,x.since=0)→my (l.flatMap fun x:Mem=>[x.id,x.inc,x.st])=l
 | [],_=>rfl
 | x::l,h=>by
  have:=h x (List.mem_cons_self ..)
  simp only[List.flatMap_cons,List.cons_append,List.nil_append,my]
  rw[AO l fun y hy=>h y (List.mem_cons_of_mem _ hy)]
  cases x;simp_all
def Jd(l:List Mem):(l.flatMap fun x:Mem=>bZ [x.id,x.inc,x.st])=bZ (l.flatMap fun x:Mem=>[x.id,x.inc,x.st]):=by
 induction l with
 | nil=>rfl
 | cons x l ih=>rw[List.flatMap_cons,List.flatMap_cons,ih,← Aa]
def N9(l:List Mem):(l.flatMap fun x:Mem=>[x.id,x.inc,x.st]).length=3*l.length:=by
 induction l with
 | nil=>rfl
 | cons x l ih=>rw[List.flatMap_cons,List.length_append,ih];simp;omega
def CE:∀(l:List (Int × List UInt8)),(∀x∈l,1≤x.1∧x.1≤63∧x.2.length≤100000)→eP (cU l)=l
 | [],_=>rfl
 | (n,b)::l,h=>by
  obtain⟨h1,h2,h3⟩:=h (n,b) (List.mem_cons_self ..)
  simp only at h1 h2 h3
  have e:cU ((n,b)::l)=UInt8.ofNat n.toNat::(uv b.length++(b++cU l)):=by simp[cU,ig]
  have hc:=Fe (n:=b.length) aj (b++cU l)
  rw[e,sL (by rw[hc];simp)]
  rw[hc]
  simp only[List.take_left,List.drop_left]
  rw[CE l fun x hx=>h x (List.mem_cons_of_mem _ hx)]
  have:((UInt8.ofNat n.toNat).toNat:Int)=n:=by simp only[UInt8.toNat_ofNat'];omega
  rw[this]
def gC(h:dE m=true)(hi:i∈da m.kind)(hi2:2≤i)(c:ef) :
  uR c i (de m i)=some (if i=2 then { c with hash:=m.hash } else if i=3 then { c with piece:=m.piece } else if i=4 then { c with ids:=m.ids } else if i=5 then { c with bytes:=m.bytes }
   else if i=6 then { c with proof:=m.proof } else if i=7 then { c with dz:=m.dz } else { c with jq:=m.jq }):=by
 have hf:=qe h hi
 obtain⟨-,r2,-,-⟩:=kh hi
 have:i=2∨i=3∨i=4∨i=5∨i=6∨i=7∨i=8:=by omega
 rcases this with rfl|rfl|rfl|rfl|rfl|rfl|rfl
 ·show(if h:m.hash.bs.length=32 then some { c with hash:=⟨m.hash.bs,h⟩ } else none)=_
  rw[dif_pos m.hash.len];rfl
 ·have h3:=mG.1 (show tL m.piece 0 1023=true from hf)
  show(nL (bZ [m.piece])).map (fun n=>{ c with piece:=n })=_
  rw[iW aj];rfl
 ·have h4:(decide ((m.ids.length:Int)≤64) && !m.ids.any lR)=true:=hf
  rw[Bool.and_eq_true,decide_eq_true_eq,Bool.not_eq_true']at h4
  show some { c with ids:=dp (bZ m.ids) }=_
  rw[nT m.ids (fun n hn=>by
   have:=List.any_eq_false.1 h4.2 n hn
   simp only[lR,tL,Bool.not_eq_true',Bool.and_eq_false_iff,decide_eq_false_iff_not]at this
   omega)];rfl
 ·rfl
 ·show(if(m.proof.flatMap Dg.bs).length%32=0 then some { c with proof:=qQ (m.proof.flatMap Dg.bs) } else none)=_
  rw[if_pos (by rw[xI];omega),Bv];rfl
 ·have h7:(tL m.dz.length 1 65 && !m.dz.any lk)=true:=hf
  rw[Bool.and_eq_true,Bool.not_eq_true',mG]at h7
  have h8:=EO h7.2
  show(if(dp (m.dz.flatMap fun x:Mem=>bZ [x.id,x.inc,x.st])).length%3=0 then some { c with dz:=my (dp (m.dz.flatMap fun x:Mem=>bZ [x.id,x.inc,x.st])) } else none)=_
  rw[Jd,nT _ (fun n hn=>by
   obtain⟨x,hx,hn⟩:=List.mem_flatMap.1 hn
   have:=h8 x hx
   simp at hn;omega),if_pos (by rw[N9];omega),AO _ (fun x hx=>(h8 x hx).2.2.2.2.2.2)];rfl
 ·show(match nL (bZ [if m.jq=true then(1:Int)else 0])with|some n=>if n≤1 then some { c with jq:=decide (n=1) } else none|none=>none)=_
  rw[iW (by split <;> omega)]
  cases hs:m.jq <;> rfl
def cO(h:dE m=true)(hr:1≤i∧i≤8)(hi:i ∉ da m.kind):H7 m i=true:=by
 have h1:=uP h hr
 unfold fR at h1
 rwa[if_neg hi]at h1
def decode_encode(h:dE m=true):dO (cU (cZ m))=some m:=by
 have hk:=uO h
 have hlen:=Lq h
 have l8:nJ (cU (cZ m))=some (cZ m):=by
  have h1:eP (cU (cZ m))=cZ m:=CE _ (fun x hx=>by
   obtain⟨i,hi,rfl⟩:=List.mem_map.1 hx
   have:=kh hi
   have:=pB h hi
   refine⟨by simp only;omega,by simp only;omega,?_⟩
   simp only;split at this <;> omega)
  show(if 65536<(cU (cZ m)).length then none else if fA 0 (eP (cU (cZ m)))then some (eP (cU (cZ m)))else none)=_
  rw[if_neg aj,h1,if_pos (HC m)]
 have fH:da m.kind=[1,2,5]∨da m.kind=[1,2,3]∨da m.kind=[1,2,3,5,6]∨da m.kind=[1,2,8]∨da m.kind=[1,2,4]∨da m.kind=[1,7]∨da m.kind=[1,2]:=by
  have:m.kind=1∨m.kind=2∨m.kind=3∨m.kind=4∨m.kind=5∨m.kind=6∨m.kind=7∨m.kind=8∨m.kind=9∨m.kind=10∨m.kind=11:=by omega
  rcases this with e|e|e|e|e|e|e|e|e|e|e <;> rw[e] <;> decide
 rcases fH with hh|hh|hh|hh|hh|hh|hh
 ·have hd:dO (cU (cZ m))=(match cS { ef.zero with kind:=m.kind } [(2,2,de m 2),(5,5,de m 5)]with|some m'=>if dE m' then some m' else none|none=>none):=by
   unfold dO
   rw[l8]
   unfold cZ
   rw[hh]
   show(match nL (bZ [m.kind])with|some k=>_|none=>none)=_
   rw[iW aj]
   simp only
   rw[hh]
   rfl
  rw[hd]
  rw[cS,if_neg (fun h=>h rfl),gC h (by rw[hh];simp) aj]
  simp only
  rw[cS,if_neg (fun h=>h rfl),gC h (by rw[hh];simp) aj]
  simp only
  rw[cS]
  have e3:m.piece=0:=of_decide_eq_true (cO h (i:=3) aj (by rw[hh];simp))
  have e4:m.ids=[]:=List.eq_nil_of_length_eq_zero (by have:=of_decide_eq_true (cO h (i:=4) aj (by rw[hh];simp));omega)
  have e6:m.proof=[]:=List.eq_nil_of_length_eq_zero (by have:=of_decide_eq_true (cO h (i:=6) aj (by rw[hh];simp));omega)
  have e7:m.dz=[]:=List.eq_nil_of_length_eq_zero (by have:=of_decide_eq_true (cO h (i:=7) aj (by rw[hh];simp));omega)
  have e8:m.jq=false:=by have:=cO h (i:=8) aj (by rw[hh];simp);have h9:(!m.jq)=true:=this;simpa using h9
  clear hd hh l8 hlen hk
  have hm:({ ({ ({ ef.zero with kind:=m.kind }:ef)with hash:=m.hash }:ef)with bytes:=m.bytes }:ef)=m:=by
   obtain⟨k,a2,a3,a4,a5,a6,a7,a8⟩:=m
   simp only at *
   subst_vars
   rfl
  have hr:dE ({ ({ ({ ef.zero with kind:=m.kind }:ef)with hash:=m.hash }:ef)with bytes:=m.bytes }:ef)=true:=by rw[hm];exact h
  refine(if_pos hr).trans (congrArg some hm)
 ·have hd:dO (cU (cZ m))=(match cS { ef.zero with kind:=m.kind } [(2,2,de m 2),(3,3,de m 3)]with|some m'=>if dE m' then some m' else none|none=>none):=by
   unfold dO
   rw[l8]
   unfold cZ
   rw[hh]
   show(match nL (bZ [m.kind])with|some k=>_|none=>none)=_
   rw[iW aj]
   simp only
   rw[hh]
   rfl
  rw[hd]
  rw[cS,if_neg (fun h=>h rfl),gC h (by rw[hh];simp) aj]
  simp only
  rw[cS,if_neg (fun h=>h rfl),gC h (by rw[hh];simp) aj]
  simp only
  rw[cS]
  have e4:m.ids=[]:=List.eq_nil_of_length_eq_zero (by have:=of_decide_eq_true (cO h (i:=4) aj (by rw[hh];simp));omega)
  have e5:m.bytes=[]:=List.eq_nil_of_length_eq_zero (by have:=of_decide_eq_true (cO h (i:=5) aj (by rw[hh];simp));omega)
  have e6:m.proof=[]:=List.eq_nil_of_length_eq_zero (by have:=of_decide_eq_true (cO h (i:=6) aj (by rw[hh];simp));omega)
  have e7:m.dz=[]:=List.eq_nil_of_length_eq_zero (by have:=of_decide_eq_true (cO h (i:=7) aj (by rw[hh];simp));omega)
  have e8:m.jq=false:=by have:=cO h (i:=8) aj (by rw[hh];simp);have h9:(!m.jq)=true:=this;simpa using h9
  clear hd hh l8 hlen hk
  have hm:({ ({ ({ ef.zero with kind:=m.kind }:ef)with hash:=m.hash }:ef)with piece:=m.piece }:ef)=m:=by
   obtain⟨k,a2,a3,a4,a5,a6,a7,a8⟩:=m
   simp only at *
   subst_vars
   rfl
  have hr:dE ({ ({ ({ ef.zero with kind:=m.kind }:ef)with hash:=m.hash }:ef)with piece:=m.piece }:ef)=true:=by rw[hm];exact h
  refine(if_pos hr).trans (congrArg some hm)
 ·have hd:dO (cU (cZ m))=(match cS { ef.zero with kind:=m.kind } [(2,2,de m 2),(3,3,de m 3),(5,5,de m 5),(6,6,de m 6)]with|some m'=>if dE m' then some m' else none|none=>none):=by
   unfold dO
   rw[l8]
   unfold cZ
   rw[hh]
   show(match nL (bZ [m.kind])with|some k=>_|none=>none)=_
   rw[iW aj]
   simp only
   rw[hh]
   rfl
  rw[hd]
  rw[cS,if_neg (fun h=>h rfl),gC h (by rw[hh];simp) aj]
  simp only
  rw[cS,if_neg (fun h=>h rfl),gC h (by rw[hh];simp) aj]
  simp only
  rw[cS,if_neg (fun h=>h rfl),gC h (by rw[hh];simp) aj]
  simp only
  rw[cS,if_neg (fun h=>h rfl),gC h (by rw[hh];simp) aj]
  simp only
  rw[cS]
  have e4:m.ids=[]:=List.eq_nil_of_length_eq_zero (by have:=of_decide_eq_true (cO h (i:=4) aj (by rw[hh];simp));omega)
  have e7:m.dz=[]:=List.eq_nil_of_length_eq_zero (by have:=of_decide_eq_true (cO h (i:=7) aj (by rw[hh];simp));omega)
  have e8:m.jq=false:=by have:=cO h (i:=8) aj (by rw[hh];simp);have h9:(!m.jq)=true:=this;simpa using h9
  clear hd hh l8 hlen hk
  have hm:({ ({ ({ ({ ({ ef.zero with kind:=m.kind }:ef)with hash:=m.hash }:ef)with piece:=m.piece }:ef)with bytes:=m.bytes }:ef)with proof:=m.proof }:ef)=m:=by
   obtain⟨k,a2,a3,a4,a5,a6,a7,a8⟩:=m
   simp only at *
   subst_vars
   rfl
  have hr:dE ({ ({ ({ ({ ({ ef.zero with kind:=m.kind }:ef)with hash:=m.hash }:ef)with piece:=m.piece }:ef)with bytes:=m.bytes }:ef)with proof:=m.proof }:ef)=true:=by rw[hm];exact h
  refine(if_pos hr).trans (congrArg some hm)
 ·have hd:dO (cU (cZ m))=(match cS { ef.zero with kind:=m.kind } [(2,2,de m 2),(8,8,de m 8)]with|some m'=>if dE m' then some m' else none|none=>none):=by
   unfold dO
   rw[l8]
   unfold cZ
   rw[hh]
   show(match nL (bZ [m.kind])with|some k=>_|none=>none)=_
   rw[iW aj]
   simp only
   rw[hh]
   rfl
  rw[hd]
  rw[cS,if_neg (fun h=>h rfl),gC h (by rw[hh];simp) aj]
  simp only
  rw[cS,if_neg (fun h=>h rfl),gC h (by rw[hh];simp) aj]
  simp only
  rw[cS]
  have e3:m.piece=0:=of_decide_eq_true (cO h (i:=3) aj (by rw[hh];simp))
  have e4:m.ids=[]:=List.eq_nil_of_length_eq_zero (by have:=of_decide_eq_true (cO h (i:=4) aj (by rw[hh];simp));omega)
  have e5:m.bytes=[]:=List.eq_nil_of_length_eq_zero (by have:=of_decide_eq_true (cO h (i:=5) aj (by rw[hh];simp));omega)
  have e6:m.proof=[]:=List.eq_nil_of_length_eq_zero (by have:=of_decide_eq_true (cO h (i:=6) aj (by rw[hh];simp));omega)
  have e7:m.dz=[]:=List.eq_nil_of_length_eq_zero (by have:=of_decide_eq_true (cO h (i:=7) aj (by rw[hh];simp));omega)
  clear hd hh l8 hlen hk
  have hm:({ ({ ({ ef.zero with kind:=m.kind }:ef)with hash:=m.hash }:ef)with jq:=m.jq }:ef)=m:=by
   obtain⟨k,a2,a3,a4,a5,a6,a7,a8⟩:=m
   simp only at *
   subst_vars
   rfl
  have hr:dE ({ ({ ({ ef.zero with kind:=m.kind }:ef)with hash:=m.hash }:ef)with jq:=m.jq }:ef)=true:=by rw[hm];exact h
  refine(if_pos hr).trans (congrArg some hm)
 ·have hd:dO (cU (cZ m))=(match cS { ef.zero with kind:=m.kind } [(2,2,de m 2),(4,4,de m 4)]with|some m'=>if dE m' then some m' else none|none=>none):=by
   unfold dO
   rw[l8]
   unfold cZ
   rw[hh]
   show(match nL (bZ [m.kind])with|some k=>_|none=>none)=_
   rw[iW aj]
   simp only
   rw[hh]
   rfl
  rw[hd]
  rw[cS,if_neg (fun h=>h rfl),gC h (by rw[hh];simp) aj]
  simp only
  rw[cS,if_neg (fun h=>h rfl),gC h (by rw[hh];simp) aj]
  simp only
  rw[cS]
  have e3:m.piece=0:=of_decide_eq_true (cO h (i:=3) aj (by rw[hh];simp))
  have e5:m.bytes=[]:=List.eq_nil_of_length_eq_zero (by have:=of_decide_eq_true (cO h (i:=5) aj (by rw[hh];simp));omega)
  have e6:m.proof=[]:=List.eq_nil_of_length_eq_zero (by have:=of_decide_eq_true (cO h (i:=6) aj (by rw[hh];simp));omega)
  have e7:m.dz=[]:=List.eq_nil_of_length_eq_zero (by have:=of_decide_eq_true (cO h (i:=7) aj (by rw[hh];simp));omega)
  have e8:m.jq=false:=by have:=cO h (i:=8) aj (by rw[hh];simp);have h9:(!m.jq)=true:=this;simpa using h9
  clear hd hh l8 hlen hk
  have hm:({ ({ ({ ef.zero with kind:=m.kind }:ef)with hash:=m.hash }:ef)with ids:=m.ids }:ef)=m:=by
   obtain⟨k,a2,a3,a4,a5,a6,a7,a8⟩:=m
   simp only at *
   subst_vars
   rfl
  have hr:dE ({ ({ ({ ef.zero with kind:=m.kind }:ef)with hash:=m.hash }:ef)with ids:=m.ids }:ef)=true:=by rw[hm];exact h
  refine(if_pos hr).trans (congrArg some hm)
 ·have hd:dO (cU (cZ m))=(match cS { ef.zero with kind:=m.kind } [(7,7,de m 7)]with|some m'=>if dE m' then some m' else none|none=>none):=by
   unfold dO
   rw[l8]
   unfold cZ
   rw[hh]
   show(match nL (bZ [m.kind])with|some k=>_|none=>none)=_
   rw[iW aj]
   simp only
   rw[hh]
   rfl
  rw[hd]
  rw[cS,if_neg (fun h=>h rfl),gC h (by rw[hh];simp) aj]
  simp only
  rw[cS]
  have e2:m.hash=Dg.zero:=of_decide_eq_true (cO h (i:=2) aj (by rw[hh];simp))
  have e3:m.piece=0:=of_decide_eq_true (cO h (i:=3) aj (by rw[hh];simp))
  have e4:m.ids=[]:=List.eq_nil_of_length_eq_zero (by have:=of_decide_eq_true (cO h (i:=4) aj (by rw[hh];simp));omega)
  have e5:m.bytes=[]:=List.eq_nil_of_length_eq_zero (by have:=of_decide_eq_true (cO h (i:=5) aj (by rw[hh];simp));omega)
  have e6:m.proof=[]:=List.eq_nil_of_length_eq_zero (by have:=of_decide_eq_true (cO h (i:=6) aj (by rw[hh];simp));omega)
  have e8:m.jq=false:=by have:=cO h (i:=8) aj (by rw[hh];simp);have h9:(!m.jq)=true:=this;simpa using h9
  clear hd hh l8 hlen hk
  have hm:({ ({ ef.zero with kind:=m.kind }:ef)with dz:=m.dz }:ef)=m:=by
   obtain⟨k,a2,a3,a4,a5,a6,a7,a8⟩:=m
   simp only at *
   subst_vars
   rfl
  have hr:dE ({ ({ ef.zero with kind:=m.kind }:ef)with dz:=m.dz }:ef)=true:=by rw[hm];exact h
  refine(if_pos hr).trans (congrArg some hm)
 ·have hd:dO (cU (cZ m))=(match cS { ef.zero with kind:=m.kind } [(2,2,de m 2)]with|some m'=>if dE m' then some m' else none|none=>none):=by
   unfold dO
   rw[l8]
   unfold cZ
   rw[hh]
   show(match nL (bZ [m.kind])with|some k=>_|none=>none)=_
   rw[iW aj]
   simp only
   rw[hh]
   rfl
  rw[hd]
  rw[cS,if_neg (fun h=>h rfl),gC h (by rw[hh];simp) aj]
  simp only
  rw[cS]
  have e3:m.piece=0:=of_decide_eq_true (cO h (i:=3) aj (by rw[hh];simp))
  have e4:m.ids=[]:=List.eq_nil_of_length_eq_zero (by have:=of_decide_eq_true (cO h (i:=4) aj (by rw[hh];simp));omega)
  have e5:m.bytes=[]:=List.eq_nil_of_length_eq_zero (by have:=of_decide_eq_true (cO h (i:=5) aj (by rw[hh];simp));omega)
  have e6:m.proof=[]:=List.eq_nil_of_length_eq_zero (by have:=of_decide_eq_true (cO h (i:=6) aj (by rw[hh];simp));omega)
  have e7:m.dz=[]:=List.eq_nil_of_length_eq_zero (by have:=of_decide_eq_true (cO h (i:=7) aj (by rw[hh];simp));omega)
  have e8:m.jq=false:=by have:=cO h (i:=8) aj (by rw[hh];simp);have h9:(!m.jq)=true:=this;simpa using h9
  clear hd hh l8 hlen hk
  have hm:({ ({ ef.zero with kind:=m.kind }:ef)with hash:=m.hash }:ef)=m:=by
   obtain⟨k,a2,a3,a4,a5,a6,a7,a8⟩:=m
   simp only at *
   subst_vars
   rfl
  have hr:dE ({ ({ ef.zero with kind:=m.kind }:ef)with hash:=m.hash }:ef)=true:=by rw[hm];exact h
  refine(if_pos hr).trans (congrArg some hm)
def pP(x:Bl)(b:List UInt8)(ls:List Dg)(i:Nat):ef :=
 ⟨4,x.d,(i:Int),[],(b.drop ((dX x i).getD (0,0)).1.toNat).take ((dX x i).getD (0,0)).2.toNat,dg ls.length ls i,[],false⟩
def yg(x:Bl)(b:List UInt8)(ls:List Dg)(i:Nat):List UInt8:=cU (cZ (pP x b ls i))
theorem EJ{x:Bl}{b:List UInt8}{ls:List Dg}{k:Int}(hx:jF b k=some x)(hl:er b k=some ls){i:Nat}(hi:(i:Int)<cT x) :
  dE (pP x b ls i)=true∧di x i (pP x b ls i).bytes (pP x b ls i).proof=true∧∃at_ n,dX x i=some (at_,n)∧(pP x b ls i).bytes=(b.drop at_.toNat).take n.toNat:=by
 obtain⟨at_,n,hX⟩:=MK (b:=x) (i:=(i:Int)) aj hi
 obtain⟨h0,h1,h2,h3,h4,h5,h6,hr⟩:=jL hX
 obtain⟨c1,c2,c3,c4⟩:=qy hx hl
 have hb:=dB hr
 have kJ:=py x
 have I6:(pP x b ls i).bytes=(b.drop at_.toNat).take n.toNat:=by unfold pP;rw[hX];rfl
 have qO:(dg ls.length ls i).length≤10:=by
  rw[qg _ _ _ aj]
  exact tA 10 _ _ _ aj
 have jx:((pP x b ls i).bytes.length:Int)=n:=by rw[I6,List.length_take,List.length_drop];omega
 refine⟨?_,?_,at_,n,hX,I6⟩
 ·have f3:tL (i:Int) 0 1023=true:=mG.2 ⟨aj,aj⟩
  have f5:tL ((pP x b ls i).bytes.length:Int) 1 16384=true:=mG.2 ⟨aj,aj⟩
  have f6:decide (((pP x b ls i).proof.length:Int)≤10)=true:=decide_eq_true (by show((dg ls.length ls i).length:Int)≤10;omega)
  have o1:fR (pP x b ls i) 1=true:=rfl
  have o2:fR (pP x b ls i) 2=true:=rfl
  have o3:fR (pP x b ls i) 3=true:=f3
  have o4:fR (pP x b ls i) 4=true:=rfl
  have o5:fR (pP x b ls i) 5=true:=f5
  have o6:fR (pP x b ls i) 6=true:=f6
  have o7:fR (pP x b ls i) 7=true:=rfl
  have o8:fR (pP x b ls i) 8=true:=rfl
  unfold dE
  rw[o1,o2,o3,o4,o5,o6,o7,o8]
  rfl
 ·have VG:x.root=yD ls:=by
   grind [jF]
  have hlf:=TU hx hl hX
  show di x i (pP x b ls i).bytes (dg ls.length ls i)=true
  rw[I6]
  grind [Fm,di]
def UM(h:dE m=true)(hk:m.kind=4)(hb:m.bytes.length≤1000):(cU (cZ m)).length≤12000:=by
 have e:cU (cZ m)=ig (1,de m 1)++(ig (2,de m 2)++(ig (3,de m 3)++(ig (5,de m 5)++(ig (6,de m 6)++[])))):=by
  unfold cZ;rw[hk];rfl
 have b1:=pB h (i:=1) (by rw[hk];decide)
 have b2:=pB h (i:=2) (by rw[hk];decide)
 have b3:=pB h (i:=3) (by rw[hk];decide)
 have b6:=pB h (i:=6) (by rw[hk];decide)
 rw[if_neg (by decide)]at b1 b2 b3 b6
 have b5:(de m 5).length≤1000:=hb
 have i1:=oZ 1 (de m 1) aj
 have i2:=oZ 2 (de m 2) aj
 have i3:=oZ 3 (de m 3) aj
 have i5:=oZ 5 (de m 5) aj
 have i6:=oZ 6 (de m 6) aj
 rw[e]
 simp only[List.length_append,List.length_nil]
 omega
def MW.new(enc:Nat→List UInt8):MW (NA.new 2 500) enc 0 0 (fun _=>False) :=
 ⟨rfl,rfl,Nat.le_refl _,fun x hx=>(by cases hx),fun i hi=>absurd hi (Nat.not_lt_zero _)⟩
def MW.imp{A:NA}{enc:Nat→List UInt8}{m c:Nat}{E2 adJ:Nat→Prop}(h:MW A enc m c E2)(hg:∀i,i<m→E2 i→adJ i):MW A enc m c adJ :=
 ⟨h.cf,h.nodes,h.len,h.each,fun i hi=>(h.all i hi).imp (hg i hi) id⟩
def RO{x:Bl}{b:List UInt8}{ls:List Dg}{k:Int}(hx:jF b k=some x)(hl:er b k=some ls){i:Nat}(hi:(i:Int)<cT x)(hj:(j:Int)<cT x)(h:yg x b ls i=yg x b ls j):i=j:=by
 have h1:=decode_encode (EJ hx hl hi).1
 have h2:=decode_encode (EJ hx hl hj).1
 have h':cU (cZ (pP x b ls i))=cU (cZ (pP x b ls j)):=h
 rw[h',h2]at h1
 have h3:(j:Int)=i:=congrArg (fun m:Option ef=>(m.getD ef.zero).piece) h1
 omega
theorem HJ{i:Nat}{p:Nat→Bool}(hp:p i=false):∀l:List Nat,(l.filter fun j=>decide (j=i) || p j).length=(l.filter fun j=>decide (j=i)).length+(l.filter p).length
 | []=>rfl
 | a::l=>by
  have ih:=HJ hp l
  by_cases h:a=i
  ·subst h;grind
  ·grind
theorem Ql{c:TC}{i:Nat}(hw:c.n≤c.ws.length*64)(hi:i<c.n)(hh:cy c.ws c.n (i:Int)=false)(l:List Dg):(gL c).length+1≤(gL (c.put i l)).length:=by
 have e:gL (c.put i l)=(List.range c.n).filter fun j=>decide (j=i) || cy c.ws c.n (j:Int):=by
  unfold gL TC.put
  grind [iu]
 rw[e,HJ (p:=fun j:Nat=>cy c.ws c.n (j:Int)) hh]
 have h2:0<((List.range c.n).filter fun j=>decide (j=i)).length:=List.length_pos_of_mem (List.mem_filter.2 ⟨List.mem_range.2 hi,decide_eq_true rfl⟩)
 show((List.range c.n).filter fun i:Nat=>cy c.ws c.n (i:Int)).length+1≤_
 omega
def pU{a:List UInt8}{b:Bl}{k w u:Nat}(h:rj k w u j x [y])(h1:oC a b x y):1≤wT [y]∧wT [y]≤65:=by
 obtain⟨m1,m2,m3,m4,m5,m6,m7⟩:=h1.mem h
 have h2:(gL y.c).length≤y.n:=by
  have:=List.length_filter_le (fun i:Nat=>cy y.c.ws y.c.n (i:Int)) (List.range y.c.n)
  rw[List.length_range]at this
  exact this
 have h3:wT [y]=1+(gL y.c).length:=by simp[wT]
 omega
structure BP(a:List UInt8)(b:Bl)(x:SJ)(y:Tk):Prop where
 ci:rj 2 (wT [y]) (100+20*wT [y]) (wT [y]) x [y]
 ob:oC a b x y
def BP.first{a:List UInt8}{b:Bl}{eG:List Tk}{jN:Bool}(hr:bP b=true)(hs:b.size≤1000)(h:rj 1 0 100 0 x [])(hv:∀n,n≠dF→vw x.1.A n=none)(hR:SK 1048576 b [] x false e eG jN t) :
  jN=false∧e=0∧∃y,eG=[y]∧BP a b t y:=by
 obtain⟨r1,r2,y,rfl,c1,c2,-,-⟩:=ad0 (a:=a) hr hs h hv hR
 have hw:=pU c1 c2
 exact⟨r1,r2,y,rfl,⟨c1.cs.mono aj aj aj,c1.cj.mono aj⟩,c2⟩
theorem BP.put{a:List UInt8}{b:Bl}{eG:List Tk}{at_ n:Int}{bs:List UInt8}{p:List Dg}{jN:Bool}(h:BP a b x y)(uh:(a.length:Int)=b.size)(hX:dX b i=some (at_,n))(hp:di b i bs p=true)(N1:bs=(a.drop at_.toNat).take n.toNat)(hR:OA b i bs p [y] x false e eG jN t) :
  jN=false∧e=0∧∃y',eG=[y']∧y'.n=y.n∧BP a b t y'∧∀l:Int,cy y'.ws y'.n l=(cy y.ws y.n l || decide (l=i)):=by
 obtain⟨m1,m2,m3,m4,m5,m6,m7⟩:=h.ob.mem h.ci
 have hw:=pU h.ci h.ob
 obtain⟨g0,g1,g2,g3,g4,g5,g6,gr⟩:=jL hX
 obtain⟨r1,r2,r3,y',rfl,r4,r5,r6⟩:=h.ob.put h.ci uh aj aj (fun _ at2 n2 vt=>by
  rw[hX]at vt
  injection vt with vt
  injection vt with e1 e2
  rw[← e1,← e2];exact N1) hR
 have he:e=0:=by
  rw[r3,if_neg aj,hp]
  split <;> rfl
 refine⟨r1,he,y',rfl,r4,⟨?_,r5⟩,fun l=>by rw[r6,he];simp⟩
 obtain⟨_,_,_,c4⟩:=h.ci.put aj aj hR
 rcases c4 with⟨tp,rfl⟩|⟨q,z,hq,hz,i0,i1,hh,_,tp,_⟩
 ·simp only[List.cons.injEq,and_true]at tp
  subst tp
  exact h.ci
 ·have T5:q=0:=by
   cases q with
   | zero=>rfl
   | succ q=>simp at hq
  subst T5
  simp only[List.getElem?_cons_zero,Option.some.injEq]at hq
  subst hq
  simp only[List.set_cons_zero,List.cons.injEq,and_true]at tp
  subst tp
  have qO:=Ql (c:=y.c) (i:=i.toNat) m4.2.1 (show i.toNat<y.n by omega) (by rw[show((i.toNat:Nat):Int)=i by omega];exact hh) p
  have h3:wT [y]=1+(gL y.c).length:=by simp[wT]
  have h4:wT [y.put i.toNat p]=1+(gL (y.c.put i.toNat p)).length:=by simp[wT];rfl
  exact⟨r2.cs.mono aj aj aj,r2.cj.mono aj⟩
def BP.back{a:List UInt8}{b:Bl}{cs:List TC}(h:BP a b x y)(hO:wP 1048576 (x.1.A.dx 0 [] (-1) 0) e t cs) :
  e=0∧∀eG,gI eG=cs→∃y',eG=[y']∧y'.n=y.n∧BP a b t y'∧∀l:Int,cy y'.ws y'.n l=cy y.ws y.n l:=by
 have hw:=pU h.ci h.ob
 obtain⟨r1,r2⟩:=h.ob.back h.ci aj aj aj hO
 refine⟨r1,fun eG tp=>?_⟩
 obtain⟨c1,y',rfl,c2,c3,c4⟩:=r2 eG tp
 have hp:gL y'.c=gL y.c:=by
  have e1:gL y'.c=(List.range y'.n).filter fun i:Nat=>cy y'.ws y'.n (i:Int):=rfl
  have e2:gL y.c=(List.range y.n).filter fun i:Nat=>cy y.ws y.n (i:Int):=rfl
  rw[e1,e2,c2]
  refine List.filter_congr fun i _=>?_
  rw[← c4,c2]
 have hwe:wT [y']=wT [y]:=by simp[wT,hp]
 exact⟨y',rfl,c2,⟨⟨c1.cs.mono aj aj aj,c1.cj.mono aj⟩,c3⟩,c4⟩
def Lx{q:Int}{A B:Ab}{e:Nat}(h:∀e t cs,wP q A e t cs→e=0)(hO:sw A e B):e=0:=by
 refine Decidable.byContradiction fun dw=>dw (h e (⟨B,[],false⟩,⟨0,0,0,false⟩) [] ⟨e,B,hO,by rw[if_pos dw]⟩)
def AB(row:List Dg)(i:Nat):List Dg:=if row.length≤1 then []else((gY row.length i).bind fun s=>row[s]?).toList
def qU(l:List Dg)(i:Nat):Nat→List Dg
 | 0=>[]
 | j+1=>qU l i j++AB (dy j l) (i/2 ^ j)
def zz(l:List Dg):∀j,dy (j+1) l=dy j (cP l)
 | 0=>rfl
 | j+1=>by show cP (dy (j+1) l)=cP (dy j (cP l));rw[zz l j]
def Lt(l:List Dg)(i:Nat):∀j,qU l i (j+1)=AB l i++qU (cP l) (i/2) j
 | 0=>by simp[qU,dy]
 | j+1=>by
  rw[qU,Lt l i j,qU,List.append_assoc,zz,Nat.pow_succ,Nat.mul_comm,← Nat.div_div_eq_div_mul]
def GF:∀(j:Nat) (l:List Dg) (i:Nat),(∀k,k<j→1<(dy k l).length)→(dy j l).length≤1→qU l i (j+1)=dg l.length l i
 | 0,l,i,_,h=>by
  have h':l.length≤1:=h
  rw[JH _ _ _ h']
  simp[qU,AB,dy,h']
 | j+1,l,i,hk,h=>by
  have h1:1<l.length:=hk 0 (Nat.zero_lt_succ _)
  rw[Lt,GF j (cP l) (i/2) (fun k hk'=>by rw[← zz];exact hk (k+1) aj) (by rw[← zz];exact h)]
  rw[GC l.length l i (Nat.le_refl _) h1,rI l.length (cP l).length (cP l) (i/2) (by rw[du];omega) (Nat.le_refl _)]
  unfold AB
  rw[if_neg aj]
def Qh(row:List Dg)(i:Nat):(AB row i).length≤1:=by
 unfold AB
 split
 ·simp
 ·cases (gY row.length i).bind fun s=>row[s]? <;> simp
def GD(l:List Dg)(i:Nat):∀j,(qU l i j).length≤j
 | 0=>Nat.le_refl _
 | j+1=>by
  have:=GD l i j
  have:=Qh (dy j l) (i/2 ^ j)
  rw[qU,List.length_append]
  omega
def GJ(l0:List Dg)(i:Nat)(hi:i<l0.length):∀j,i/2 ^ j<(dy j l0).length
 | 0=>by rw[Nat.pow_zero,Nat.div_one];exact hi
 | j+1=>by
  have h:=GJ l0 i hi j
  show _<(cP (dy j l0)).length
  rw[du,Nat.pow_succ,← Nat.div_div_eq_div_mul]
  omega
def Gp(l0:List Dg):∀j,(∀i,i<j→1<(dy i l0).length)→(dy j l0).length+j≤l0.length
 | 0,_=>Nat.le_refl _
 | j+1,h=>by
  have h1:=Gp l0 j fun i hi=>h i aj
  have h2:=h j aj
  show(cP (dy j l0)).length+_≤_
  rw[du]
  omega
def U6(b3 b6 i:Nat)(l:List Dg):HP:=fun h=>∃v:Value,True∧Sep [ak b3 (cl [.int .i64 (i:Int)] 3),ak b6 (cl [v] 34),aK 29 32 v l.length (l.flatMap dC)] h
def Io(b3 b6 i:Nat)(l:List Dg):∀h,U6 b3 b6 i l h→∃v:Value,True∧Sep [ak b3 (cl [.int .i64 (i:Int)] 3),ak b6 (cl [v] 34),aK 29 32 v l.length (l.flatMap dC)] h:=fun h hs=>hs
def KR(b3 b6 i:Nat)(l:List Dg)(v:Value)(H:List HP):aq (ak b3 (cl [.int .i64 (i:Int)] 3)::ak b6 (cl [v] 34)::aK 29 32 v l.length (l.flatMap dC)::H) (U6 b3 b6 i l::H) :=
 aq.fold (A:=U6 b3 b6 i l) (B:=[ak b3 (cl [.int .i64 (i:Int)] 3),ak b6 (cl [v] 34),aK 29 32 v l.length (l.flatMap dC)]) fun h hs=>⟨h,sub.refl h,v,trivial,hs⟩
attribute [local irreducible] J K aH Ends ak aK aV bX bj aS bp bD cp Sha.chunks Sha.chunk Sha.rounds Sha.sched fz cY fG kE U6
def D5(A:HP)(hK:qI A)(v:Value)(l0:List Dg)(hv:Vw A v l0.length (l0.flatMap dC))(Ue:l0.length≤1024)(i:Nat)(hi:i<l0.length) :
  aH Tryz.prog 12 [v,.int .i64 (i:Int)] [A] (fun r H=>∃rv,r = .tuple #[rv,.int .i64 0]∧H=[aK 29 32 rv (dg l0.length l0 i).length ((dg l0.length l0 i).flatMap dC),A]):=by
 obtain⟨a,c,rfl⟩:=hv.shape
 refine aH.aC Tryz.func12 Tryz.ntmps12 fun G F R hE=>?_
 refine aP rfl ?_
 refine bJ zr zr bO ?_
 intro b3
 refine go ?_
 refine au 10 ((.bool false)) rfl ((congrArg Value.bool (decide_eq_false aj))) (go ?_)
 refine au 17 ((.bool false)) rfl ((congrArg Value.bool (decide_eq_false aj))) (go ?_)
 refine aE 21 ((.bool false)) rfl ((congrArg Value.bool (decide_eq_false aj))) (go ?_)
 refine aL zr zr zr bO ?_
 intro b6
 refine go ?_
 refine ao (vL a l0.length c) ?_
 rintro _ _⟨bx,rfl,rfl⟩
 refine go ?_
 refine jw rfl ?_
 refine al (bS 29 32 none _) ?_
 refine al (H':=ak b3 (cl [.int .i64 (i:Int)] 3)::ak b6 (cl [.slice none 0 0] 34)::aK 29 32 (.slice none 0 0) ([]:List Dg).length (([]:List Dg).flatMap dC)::ak bx (cl [.slice a l0.length c] 34)::A::F) ad ?_
 refine al (KR b3 b6 i [] _ _) ?_
 rw[show U6 b3 b6 i []=U6 b3 b6 (i/2 ^ 0) (qU l0 i 0) by rw[Nat.pow_zero,Nat.div_one];rfl]
 refine pJ (Fr:=F) (Pre:=fun _ _=>[U6 b3 b6 (i/2 ^ 0) (qU l0 i 0),ak bx (cl [.slice a l0.length c] 34),A]) (fun _ _ Lp v H=>∃j,(∀i,i<j→1<(dy i l0).length)∧(dy j l0).length≤1∧H=[Lp .ready none,U6 b3 b6 (i/2 ^ (j+1)) (qU l0 i (j+1)),A]) rfl hE.1.1 rfl ?c (fun l r=>ad) ?eA
 case c =>
  intro l r
  refine CZ A hK bx _ l0 hv aj l _ (fun j=>U6 b3 b6 (i/2 ^ j) (qU l0 i j)) ?_
  intro j va vc hI
  have qO:=GJ l0 i hi j
  have hle:=Ex l0 j
  have hjd:=Gp l0 j hI
  have VJ:qU l0 i (j+1)=qU l0 i j++AB (dy j l0) (i/2 ^ j):=rfl
  have aeR:(qU l0 i j).length≤j:=GD l0 i j
  have hdv:i/2 ^ (j+1)=i/2 ^ j/2:=by rw[Nat.pow_succ,← Nat.div_div_eq_div_mul]
  rw[VJ,hdv]
  clear VJ hdv
  obtain⟨k,hk⟩:∃k,k=i/2 ^ j:=⟨_,rfl⟩
  obtain⟨row,xU⟩:∃row,row=dy j l0:=⟨_,rfl⟩
  obtain⟨out,np⟩:∃out,out=qU l0 i j:=⟨_,rfl⟩
  rw[← hk,← xU,← np]
  rw[← hk,← xU]at qO
  rw[← xU]at hle
  rw[← np]at aeR
  refine cp.Cr zr zr ?_
  intro G F2 R2 hY
  refine go ?_
  refine eY rfl hY ?_
  refine al (aq.pick [1] rfl) ?_
  refine dZ (Io b3 b6 _ _) ?_
  rintro ov -
  refine go ?_
  refine aeb (ly row.length k qO aj) ?_
  unfold yA
  cases hs:gY row.length k with
  | none =>
   have hR0:AB row k=[]:=by
    unfold AB
    split
    ·rfl
    ·rw[hs];rfl
   rw[hR0,List.append_nil]at hY
   refine go ?_
   refine iQ zr zr zr aj ?_
   refine au 44 ((.int .i64 ((k/2:Nat):Int))) rfl ((congrArg (Value.int .i64) (lW k))) (go ?_)
   refine al (aq.trans ad (KR b3 b6 (k/2) out ov _)) ?_
   refine eF hY rfl ad ⟨rfl,rfl⟩
  | some s =>
   obtain⟨zI,_,LQ⟩:=Er qO hs
   obtain⟨y,hy⟩:∃y,row[s]?=some y:=⟨row[s],by simp⟩
   have hR1:AB row k=[y]:=by
    unfold AB
    rw[if_neg aj,hs]
    show(row[s]?).toList=[y]
    rw[hy];rfl
   rw[hR1]at hY
   have tq:∀(q:Nat) (v:Value),(dC y)[q]?=some v→(row.flatMap dC)[s*32+q]?=some v:=fun q v hq=>by
    rw[cM ff hy q (by rcases Nat.lt_or_ge q 32 with h|h;exact h;rw[List.getElem?_eq_none (by rw[ff];exact h)]at hq;cases hq)]
    exact hq
   simp only
   refine aN 2 rfl ?_
   rintro ja jc rfl
   refine eZ 4 rfl ?_
   intro dH
   obtain⟨bb,oo,cc,he⟩:=dH.some (by intro h;have:=congrArg List.length h;rw[bR ff]at this;simp at this;omega)
   simp only[Value.slice.injEq,true_and]at he
   obtain⟨rfl,rfl⟩:=he
   refine go ?_
   refine aE 30 ((.bool true)) rfl ((congrArg Value.bool (decide_eq_true aj))) (go ?_)
   refine aE 35 ((.bool true)) rfl ((congrArg Value.bool (decide_eq_true aj))) (go ?_)
   refine aO (fun w=>Sat G w ([ak b6 (cl [.slice ja out.length jc] 34),aK 29 32 (.slice (some ⟨bb,oo,none⟩) row.length vc) row.length (row.flatMap dC)])) (dM 0 5 (.act 5 (.act 6 (.act 7 .nil)))) rfl aw aw aw dI ?_
   refine go ?_
   refine cu s 32 zr zr zr zr zr zr zr zr zI ?_
   refine aY ?_
   refine dP (U:=bh) (es:=dC y) 1 (s*32) zr zr zr dH rfl tq zr zr zr (go ?_)
   refine az (cs:=dC y) zr zr zr zr zr zr zr zr zr (fun _ w hw=>hw.cI ad) ?_
   intro r1
   refine go ?_
   refine bg (mm:=1) (news:=dC y) 3 0 zr zr zr zr zr zr zr zr zr zr zr zr (Vw.ak rfl) rfl (by rw[fg];exact dR _) aj (by show(_+_)*32≤_;omega) (fun _=>rfl) (fun _ w hw=>hw.cI ad) ?_
   intro v1
   rw[show out.flatMap dC++dC y=(out++[y]).flatMap dC by simp,show out.length+1=(out++[y]).length by simp]
   refine aN 3 rfl ?_
   rintro a1 c1 rfl
   refine bE ?_
   refine aD 2 eH zr zr zr zr zr zr zr zr zr (go ?_)
   refine iQ zr zr zr aj ?_
   refine au 44 ((.int .i64 ((k/2:Nat):Int))) rfl ((congrArg (Value.int .i64) (lW k))) (go ?_)
   refine al (aq.trans ad (KR b3 b6 (k/2) (out++[y]) (.slice a1 (out++[y]).length c1) _)) ?_
   refine eF hY rfl ad ⟨rfl,rfl⟩
 rintro l r v2 H'⟨j,hI,hj,rfl⟩
 refine⟨_,_,_,rfl,by decide,?_⟩
 rw[hE.1.2]
 have fH:=GF j l0 i hI hj
 rw[fH]
 refine dZ (Io b3 b6 _ _) ?_
 rintro ov -
 refine go ?_
 (apply bH (U:=bh) hE Tryz.func12 rfl ad;(repeat(first|exact ae.nil|apply ae.tmp rfl));exact⟨_,rfl,rfl⟩;exact ad)
end Go.Proofs.YtlionahpheehaaaGreatDoor
