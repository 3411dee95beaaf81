import Derived.Test.YtlionahpheehaaaGreatDoorQTP2
import GoSem.Extern.SlicesOverlaps
import Derived.ProofKit
import Derived.Below
import Derived.OpenShut
import Derived.Deep.Slices
import Derived.DataElems
import Derived.RangeFuncRecord
import Derived.RangeFuncIn
import Derived.Test.YtlionahpheehaaaGreatDoorProg
set_option linter.defProp false
set_option linter.unusedSimpArgs false
set_option linter.unusedVariables false
set_option linter.defProp false
namespace Go.SL
def aq.cR(l H:List HP):aq (Sep l::H) (l++H):=fun h hs=>⟨h,sub.refl h,kj hs⟩
def aq.cg(l H:List HP):aq (l++H) (Sep l::H):=fun h hs=>⟨h,sub.refl h,jW hs⟩
abbrev gw:=List (Nat × List Value)
def bp(e:TypeId)(M:gw):HP:=Sep (M.map fun x=>ak x.1 (cl x.2 e))
def lC(M:gw)(v:Value)(bs:List UInt8):Prop :=
 ∃a cap,v = .slice a bs.length cap∧bs.length≤cap∧(bs=[]∨∃b o cs,a=Option.some ⟨b,o,none⟩∧(b,cs)∈M∧(cs.drop o).take bs.length=bV bs)
def lC.mono{M M':gw}{v:Value}{bs:List UInt8}(h:lC M v bs)(hs:∀x∈M,x∈M'):lC M' v bs:=by
 obtain⟨a,cap,hv,hc,h0|⟨b,o,cs,ha,hm,ht⟩⟩:=h
 ·exact⟨a,cap,hv,hc,.inl h0⟩
 ·exact⟨a,cap,hv,hc,.inr ⟨b,o,cs,ha,hs _ hm,ht⟩⟩
theorem lC.nil(M:gw)(a:Option Addr)(cap:Nat):lC M (.slice a 0 cap) []:=⟨a,cap,rfl,Nat.zero_le _,.inl rfl⟩
def Fw{l:List HP}{A:HP}{h:Hp}(hA:A∈l)(hs:Sep l h):∃h',sub h' h∧A h':=by
 obtain⟨i,hi⟩:=List.getElem?_of_mem hA
 exact jY (sr (dN hi) h hs)
theorem lC.view{M:gw}{v:Value}{bs:List UInt8}(h:lC M v bs)(e:TypeId):Vw (bp e M) v bs.length (bV bs):=by
 obtain⟨a,cap,rfl,_,h0|⟨b,o,cs,ha,hm,ht⟩⟩:=h
 ·subst h0;exact⟨a,cap,rfl,.inl rfl⟩
 ·have h1:Vw (ak b (cl cs e)) (.slice a bs.length cap) bs.length (bV bs):=by
   grind [Vw.ak,bN]
  refine h1.mono fun h hs=>?_
  exact Fw (List.mem_map.2 ⟨(b,cs),hm,rfl⟩) hs
def lC.shape{M:gw}{v:Value}{bs:List UInt8}(h:lC M v bs):∃a cap,v = .slice a bs.length cap∧bs.length≤cap:=by
 obtain⟨a,cap,hv,hc,_⟩:=h;exact⟨a,cap,hv,hc⟩
def BN(e:TypeId)(b:Nat)(cs:List Value)(M:gw)(H:List HP):aq (ak b (cl cs e)::bp e M::H) (bp e ((b,cs)::M)::H) :=
 aq.fold (B:=[_,_]) fun h hs=>⟨h,sub.refl h,fm (fun _ h=>h) (fun _ h=>eO h) hs⟩
def lC.row{M:gw}{b cap:Nat}{bs:List UInt8}(hc:bs.length≤cap):lC ((b,bV bs)::M) (.slice (Option.some ⟨b,0,none⟩) bs.length cap) bs :=
 ⟨_,cap,rfl,hc,.inr ⟨b,0,bV bs,rfl,by simp,by rw[← bN];simp⟩⟩
theorem R4(e:TypeId)(v:Value)(bs:List UInt8)(M:gw):∀h,star (aK e 1 v bs.length (bV bs)) (bp e M) h→∃M',lC M' v bs∧(∀x∈M,x∈M')∧bp e M' h:=by
 rintro h⟨h1,h2,⟨hl,⟨a,rfl,hn,he⟩|⟨b,o,cap,pre,junk,rfl,hp,hn,hc,Bc⟩⟩,hM,hd,hj⟩
 ·have hb:bs=[]:=List.eq_nil_of_length_eq_zero hn
  subst hb
  exact⟨M,lC.nil M a 0,fun _ h=>h,Bu ⟨h1,h2,he,hM,hd,hj⟩⟩
 ·refine⟨(b,pre++bV bs++junk)::M,⟨_,cap,rfl,hn,.inr ⟨b,o,pre++bV bs++junk,rfl,by simp,?_⟩⟩,fun x hx=>by simp[hx],⟨h1,h2,Bc,hM,hd,hj⟩⟩
  grind
theorem lC.tail{M:gw}{b o n cap:Nat}{x:UInt8}{bs:List UInt8}(h:lC M (.slice (Option.some ⟨b,o,none⟩) n cap) (x::bs))(o' gV:Nat)(h1:bs≠[]→o'=o+1)(Cj:bs.length≤gV):lC M (.slice (Option.some ⟨b,o',none⟩) bs.length gV) bs:=by
 by_cases h0:bs=[]
 ·grind [lC.nil]
 ·have:=h1 h0
  subst this
  obtain⟨a,oB,hv,_,h2|⟨b',o2,cs,ha,hm,ht⟩⟩:=h
  ·cases h2
  ·simp only[Value.slice.injEq]at hv
   obtain⟨rfl,_,rfl⟩:=hv
   simp only[Option.some.injEq,Addr.mk.injEq,and_true]at ha
   obtain⟨rfl,rfl⟩:=ha
   refine⟨_,gV,rfl,Cj,.inr ⟨b,o+1,cs,rfl,hm,?_⟩⟩
   rw[List.length_cons]at ht
   rw[show o+1=1+o by omega,← List.drop_drop]
   have h3:=congrArg (List.drop 1) ht
   rw[List.drop_take]at h3
   simpa[bV,Nat.add_comm]using h3
theorem lC.piece{M:gw}{b o n cap:Nat}{bs:List UInt8}(h:lC M (.slice (Option.some ⟨b,o,none⟩) n cap) bs)(o' gV p k:Nat)(LX:p+k≤bs.length)(h1:k≠0→o'=o+p)(Cj:k≤gV):lC M (.slice (Option.some ⟨b,o',none⟩) k gV) ((bs.drop p).take k):=by
 have hl:((bs.drop p).take k).length=k:=by rw[List.length_take,List.length_drop];omega
 by_cases h0:k=0
 ·grind [lC.nil]
 ·have:=h1 h0
  subst this
  obtain⟨a,oB,hv,_,h2|⟨b',o2,cs,ha,hm,ht⟩⟩:=h
  ·grind
  ·simp only[Value.slice.injEq]at hv
   obtain⟨rfl,_,rfl⟩:=hv
   simp only[Option.some.injEq,Addr.mk.injEq,and_true]at ha
   obtain⟨rfl,rfl⟩:=ha
   refine⟨_,gV,by rw[hl],by rw[hl];exact Cj,.inr ⟨b,o+p,cs,rfl,hm,?_⟩⟩
   rw[hl,← List.drop_drop]
   have h3:=congrArg (fun l=>(l.drop p).take k) ht
   simp only[List.drop_take,List.take_take]at h3
   rw[show min k (bs.length-p)=k by omega]at h3
   rw[h3]
   simp only[bV,List.map_drop,List.map_take]
theorem lC.cut{M:gw}{a:Option Addr}{n cap:Nat}{bs:List UInt8}(h:lC M (.slice a n cap) bs)(p k:Nat)(LX:p+k≤bs.length):lC M (.slice (sliceAt a cap p 1) k (cap-p)) ((bs.drop p).take k):=by
 obtain⟨a',gV,hv,hc,h0⟩:=h
 simp only[Value.slice.injEq]at hv
 obtain⟨rfl,hn,rfl⟩:=hv
 by_cases hk:k=0
 ·grind [lC.nil]
 ·rcases h0 with h0|⟨b,o,cs,rfl,hm,ht⟩
  ·grind
  ·have e:sliceAt (Option.some ⟨b,o,none⟩) cap p 1=Option.some ⟨b,o+p,none⟩:=by
    grind [sliceAt,Addr.add_eq]
   rw[e]
   exact lC.piece (o:=o) (n:=bs.length) (cap:=cap) ⟨_,_,rfl,hc,.inr ⟨b,o,cs,rfl,hm,ht⟩⟩ _ _ p k LX (fun _=>rfl) aj
def aS{α:Type}(g:α→HP)(l:List α):HP:=Sep (l.map g)
def gN{α:Type}(g:α→HP){l:List α}{i:Nat}{x:α}(hi:l[i]?=Option.some x)(H:List HP):aq (aS g l::H) (g x::aS g (l.eraseIdx i)::H):=fun h hs=>by
 refine⟨h,sub.refl h,jZ (fm (fun h hs=>?_) (fun _ h=>h) hs)⟩
 have h1:(l.map g)[i]?=Option.some (g x):=by simp[hi]
 have h2:=sr (dN h1) h hs
 rw[← lE]at h2
 exact h2
def oM{α:Type}(g:α→HP){l:List α}{i:Nat}{x:α}(hi:l[i]?=Option.some x)(H:List HP):aq (g x::aS g (l.eraseIdx i)::H) (aS g l::H):=fun h hs=>by
 refine⟨h,sub.refl h,fm (fun h hs=>?_) (fun _ h=>h) (lf hs)⟩
 have h1:(l.map g)[i]?=Option.some (g x):=by simp[hi]
 refine sr (dN h1).symm h ?_
 rw[← lE]
 exact hs
theorem oL{α:Type}(g:α→HP){l:List α}{i:Nat}{x y:α}(hi:l[i]?=Option.some x)(H:List HP):aq (g y::aS g (l.eraseIdx i)::H) (aS g (l.set i y)::H):=by
 have dk:i<l.length:=by
  grind
 have h1:(l.set i y)[i]?=Option.some y:=by simp[dk]
 have h2:=oM g h1 H
 have h3:(l.set i y).eraseIdx i=l.eraseIdx i:=by
  grind
 rw[h3]at h2
 exact h2
def oN{α:Type}(g:α→HP)(x:α)(l:List α)(H:List HP):aq (g x::aS g l::H) (aS g (x::l)::H):=fun h hs=>⟨h,sub.refl h,lf hs⟩
def sN{α:Type}{g:α→HP}{l:List α}{x:α}(hx:x∈l){h:Hp}(hs:aS g l h):∃h',sub h' h∧g x h':=Fw (List.mem_map.2 ⟨x,hx,rfl⟩) hs
def BM(e:TypeId)(H:List HP):aq H (bp e []::H):=aq.sm H
def xy{α:Type}(g:α→HP)(H:List HP):aq H (aS g []::H):=aq.sm H
structure Ab where
 room:Nat
 fs:List (Nat × List UInt8 × List UInt8)
 names:List (ByteArray × Nat)
 aF:List (List (ByteArray × Nat))
 writes:List (Nat × Nat × List UInt8)
 ei:List UInt8
 off:Bool
namespace Ab
def meet(A:Ab)(may:Bool):Nat × Ab :=
 if may=false then(1,A)else if A.off=true then(7,A)else match A.ei with
 | []=>(0,A)
 | x::p=>if x=1 then(6,{ A with ei:=p })else if x=2 then(7,{ A with ei:=p,off:=true })else(0,{ A with ei:=p })
def cW(l:List (ByteArray × Nat))(name:ByteArray):Option Nat:=(l.find? fun x=>decide (x.1=name)).map (·.2)
def look(A:Ab)(name:ByteArray):Option Nat:=cW A.names name
def file(A:Ab)(f:Nat):List UInt8 × List UInt8:=((A.fs.find? fun x=>decide (x.1=f)).map (·.2)).getD ([],[])
def now(A:Ab)(f:Nat):List UInt8:=(A.file f).1
def sure(A:Ab)(f:Nat):List UInt8:=(A.file f).2
def find(A:Ab)(name:ByteArray)(may:Bool):Nat × Option Nat × Ab :=
 if(A.meet may).1=0 then match (A.meet may).2.look name with
  | none=>(4,none,(A.meet may).2)
  | some f=>(0,some f,(A.meet may).2)
 else((A.meet may).1,none,(A.meet may).2)
def used(A:Ab):Nat:=(A.names.map fun x=>(A.now x.2).length).sum
def new(room:Nat):Ab:=⟨room,[],[],[[]],[],[],false⟩
def lh(l:List (ByteArray × Nat))(k:ByteArray)(f:Nat):List (ByteArray × Nat):=if(cW l k).isSome then l.map (fun x=>if x.1=k then(k,f)else x)else l++[(k,f)]
def dW(l:List (ByteArray × Nat))(k:ByteArray):List (ByteArray × Nat):=l.filter fun x => !decide (x.1=k)
def oF(A:Ab)(nm:List (ByteArray × Nat)):Ab:={ A with names:=nm,aF:=A.aF++[nm] }
def create(A:Ab)(ok:Bool)(name:ByteArray)(f:Nat):Nat × Ab :=
 if(A.meet ok).1=0 then
  if((A.meet ok).2.look name).isSome then(5,(A.meet ok).2)
  else if 200≤(A.meet ok).2.names.length then(3,(A.meet ok).2)
  else(0,{ (A.meet ok).2.oF ((A.meet ok).2.names++[(name,f)])with fs:=(f,[],[])::(A.meet ok).2.fs })
 else((A.meet ok).1,(A.meet ok).2)
def remove(A:Ab)(ok:Bool)(name:ByteArray):Nat × Ab:=match A.find name ok with
 | (0,some _,A1)=>(0,A1.oF (dW A1.names name))
 | (e,_,A1)=>(e,A1)
def rename(A:Ab)(ok:Bool)(old name:ByteArray):Nat × Ab:=match A.find old ok with
 | (0,some f,A1)=>(0,A1.oF (lh (dW A1.names old) name f))
 | (e,_,A1)=>(e,A1)
def Ej(fs:List (Nat × List UInt8 × List UInt8))(f:Nat)(n:List UInt8):List (Nat × List UInt8 × List UInt8):=fs.map fun x=>if x.1=f then(x.1,n,x.2.2)else x
def write(A:Ab)(ok:Bool)(name:ByteArray)(at_:Nat)(b:List UInt8):Nat × Ab :=
 if(A.find name ok).1=0 then match (A.find name ok).2.1 with
  | some f=>if(A.find name ok).2.2.room<(A.find name ok).2.2.used+(at_+b.length-((A.find name ok).2.2.now f).length)then(3,(A.find name ok).2.2)
   else(0,{ (A.find name ok).2.2 with fs:=Ej (A.find name ok).2.2.fs f (bY ((A.find name ok).2.2.now f) at_ b),writes:=(A.find name ok).2.2.writes++[(f,at_,b)] })
  | none=>(0,(A.find name ok).2.2)
 else((A.find name ok).1,(A.find name ok).2.2)
def size(A:Ab)(name:ByteArray):Nat × Nat:=match A.look name with
 | none=>(0,4)
 | some f=>((A.now f).length,0)
def read(A:Ab)(name:ByteArray)(at_ n:Int):List UInt8 × Nat :=
 if A.off=true then([],7)else match A.look name with
  | none=>([],4)
  | some f=>if at_<0∨n<0∨((A.now f).length:Int)<at_∨((A.now f).length:Int)-at_<n then([],1)else(((A.now f).drop at_.toNat).take n.toNat,0)
def cG(A:Ab):Nat × Ab:=if(A.meet true).1=0 then(0,{ (A.meet true).2 with aF:=[(A.meet true).2.names] })else((A.meet true).1,(A.meet true).2)
def oJ(fs:List (Nat × List UInt8 × List UInt8))(f:Nat):List (Nat × List UInt8 × List UInt8):=fs.map fun x=>if x.1=f then(x.1,x.2.1,x.2.1)else x
def sync(A:Ab)(ok:Bool)(name:ByteArray):Nat × Ab :=
 if(A.find name ok).1=0 then match (A.find name ok).2.1 with
  | some f=>(0,{ (A.find name ok).2.2 with fs:=oJ (A.find name ok).2.2.fs f,writes:=(A.find name ok).2.2.writes.filter fun x => !decide (x.1=f) })
  | none=>(0,(A.find name ok).2.2)
 else((A.find name ok).1,(A.find name ok).2.2)
def kept(stay:List UInt8)(dY cut:Int)(i:Nat)(b:List UInt8):Option (List UInt8) :=
 if(i:Int)=dY then(let c:=b.take (max 0 (min cut b.length)).toNat;if c=[]then none else some c)
 else if(i/8<stay.length∧((stay.getD (i/8) 0).toNat/2 ^ (i%8))%2=1)then some b else none
def vB(fs:List (Nat × List UInt8 × List UInt8))(f:Nat)(s:List UInt8):List (Nat × List UInt8 × List UInt8):=fs.map fun x=>if x.1=f then(x.1,x.2.1,s)else x
def j6(stay:List UInt8)(dY cut:Int):Nat→List (Nat × Nat × List UInt8)→List (Nat × List UInt8 × List UInt8)→List (Nat × List UInt8 × List UInt8)
 | _,[],fs=>fs
 | i,w::ws,fs=>match kept stay dY cut i w.2.2 with
  | none=>j6 stay dY cut (i+1) ws fs
  | some c=>j6 stay dY cut (i+1) ws (vB fs w.1 (bY (((fs.find? fun x=>decide (x.1=w.1)).map (·.2)).getD ([],[])).2 w.2.1 c))
def reach(lO:List (List (ByteArray × Nat))):List Nat:=lO.flatMap fun st=>st.map (·.2)
def dx(A:Ab)(last:Int)(stay:List UInt8)(dY cut:Int):Ab :=
 let nm:=A.aF.getD (max 0 (min last (A.aF.length-1))).toNat []
 let fs:=j6 stay dY cut 0 A.writes A.fs
 { A with names:=nm,aF:=[nm],writes:=[],ei:=[],off:=false,fs:=fs.map fun x=>if x.1∈reach (A.aF++[nm])then(x.1,x.2.2,x.2.2)else x }
end Ab
def FX(M:gw)(s:Nat)(v:Value)(n:Nat)(cs:List Value):Prop :=
 cs.length=n*s∧∃a cap,v = .slice a n cap∧n≤cap∧(n=0∨∃b o row,a=Option.some ⟨b,o,none⟩∧(b,row)∈M∧(row.drop o).take cs.length=cs)
def FX.mono{M M':gw}{s n:Nat}{v:Value}{cs:List Value}(h:FX M s v n cs)(hs:∀x∈M,x∈M'):FX M' s v n cs:=by
 obtain⟨hl,a,cap,hv,hc,h0|⟨b,o,row,ha,hm,ht⟩⟩:=h
 ·exact⟨hl,a,cap,hv,hc,.inl h0⟩
 ·exact⟨hl,a,cap,hv,hc,.inr ⟨b,o,row,ha,hs _ hm,ht⟩⟩
theorem FX.nil(M:gw)(s:Nat)(a:Option Addr)(cap:Nat):FX M s (.slice a 0 cap) 0 []:=⟨by simp,a,cap,rfl,Nat.zero_le _,.inl rfl⟩
def FX.shape{M:gw}{s n:Nat}{v:Value}{cs:List Value}(h:FX M s v n cs):∃a cap,v = .slice a n cap∧n≤cap:=by
 obtain⟨_,a,cap,hv,hc,_⟩:=h;exact⟨a,cap,hv,hc⟩
def FX.view{M:gw}{s n:Nat}{v:Value}{cs:List Value}(h:FX M s v n cs)(e:TypeId):Vw (bp e M) v n cs:=by
 obtain⟨hl,a,cap,rfl,hc,h0|⟨b,o,row,ha,hm,ht⟩⟩:=h
 ·have:cs=[]:=List.eq_nil_of_length_eq_zero (by rw[hl,h0,Nat.zero_mul])
  subst h0 this;exact⟨a,cap,rfl,.inl rfl⟩
 ·have h1:Vw (ak b (cl row e)) (.slice a n cap) n cs:=by rw[ha];exact Vw.ak ht
  exact h1.mono fun h hs=>Fw (List.mem_map.2 ⟨(b,row),hm,rfl⟩) hs
theorem Gn(e:TypeId)(s n:Nat)(v:Value)(cs:List Value)(M:gw):∀h,star (aK e s v n cs) (bp e M) h→∃M',(FX M' s v n cs∧∀x∈M,x∈M')∧Sep [bp e M'] h:=by
 rintro h⟨h1,h2,⟨hl,⟨a,rfl,hn,he⟩|⟨b,o,cap,pre,junk,rfl,hp,hn,hc,Bc⟩⟩,hM,hd,hj⟩
 ·have:cs=[]:=List.eq_nil_of_length_eq_zero (by rw[hl,hn,Nat.zero_mul])
  subst hn this
  exact⟨M,⟨FX.nil M s a 0,fun _ h=>h⟩,fL (Bu ⟨h1,h2,he,hM,hd,hj⟩)⟩
 ·refine⟨(b,pre++cs++junk)::M,⟨⟨hl,_,cap,rfl,hn,.inr ⟨b,o,pre++cs++junk,rfl,by simp,?_⟩⟩,fun x hx=>by simp[hx]⟩,fL ⟨h1,h2,Bc,hM,hd,hj⟩⟩
  grind
def aH.conv{P:Program}{f:FuncId}{args:List Value}{Pre Se:List HP}{Post ze:Value→List HP→Prop}(c:aH P f args Pre Post)(h:aq Se Pre)(hp:∀v H,Post v H→∃H',ze v H'∧aq H H'):aH P f args Se ze :=
 ⟨c.1,fun G w F hw=>(c.2 G w F (hw.cI (aq.append F h))).mono fun e w' h'=>let ⟨v,H,he,T8,hs⟩:=h';let ⟨H',hq,hE⟩:=hp v H T8;⟨v,H',he,hq,hs.cI (aq.append F hE)⟩⟩
def aH.frame{P:Program}{f:FuncId}{args:List Value}{Pre:List HP}{Post:Value→List HP→Prop}(X:List HP)(c:aH P f args Pre Post):aH P f args (Pre++X) (fun v H=>∃H',Post v H'∧H=H'++X) :=
 ⟨c.1,fun G w F hw=>(c.2 G w (X++F) (by rw[List.append_assoc]at hw;exact hw)).mono fun e w' h'=>let ⟨v,H,he,T8,hs⟩:=h';⟨v,H++X,he,⟨H,T8,rfl⟩,by rw[List.append_assoc];exact hs⟩⟩
def aH.RH{P:Program}{f:FuncId}{args:List Value}{v:Value}(X:HP)(c:aH P f args [] (fun r H=>r=v∧H=[])):aH P f args [X] (fun r H=>r=v∧H=[X]) :=
 aH.post (aH.frame [X] c) (by rintro r H⟨H',⟨rfl,rfl⟩,rfl⟩;exact⟨rfl,rfl⟩)
section
variable{P:Program}{U:Tr}[hU:gF P U]{f:FuncId}{n:Nat}{R:Ending→World→Prop}{G:cL}{k:List Item}{L:gh}{H H':List HP}{S:World→Prop}{all:Array Oper}{rest:Pl}{ty:TypeId}{pos:String}{af:Array Edge}{gd:Option (Nat × Bool)}{m:Bool}{d:Tmp}
def Ew{t t2 elem rty:TypeId}{cd zm te:Ty}{v2:Value}{b o kk cap mm:Nat}{l news l':List Value}{e:TypeId}{A:HP}{w:World}(i j:Nat)(ht:U.get t=some cd)(hu:cd.gx = .slice elem)(h2:U.get t2=some zm)(L7:∀q,zm.gx ≠ .int q)(he:U.get elem=some te)(hw:Sat G w H)(hi:cD H i=some (ak b (cl l e)))(hj:cD H j=some A)(rl:Vw A v2 mm news)(rX:news.length=mm*te.info.size)(gD:∀u∈news,u.oneCell'=true)(mz:kk+mm≤cap)(we:o+(kk+mm)*te.info.size≤l.length)(EZ:l'=l.take (o+kk*te.info.size)++news++l.drop (o+(kk+mm)*te.info.size)) :
  (Builtin.append_ #[t,t2] rty #[.slice (some ⟨b,o,none⟩) kk cap,v2]).run P w = .ok (.slice (some ⟨b,o,none⟩) (kk+mm) cap) { w with heap:=w.heap.setIfInBounds b (cl l' e) }:=by
 have hf:=mN (P:=P) rl hw hj rX
 have VM:(zm.gx matches .int _)=false:=by
  cases hq:zm.gx <;> first|rfl|exact absurd hq (L7 _)
 have rT:∀ {w:World},(underlying t2).run P w = .ok zm.gx w:=fun {w}=>run_underlying h2 w
 obtain⟨a2,c2,SV,_⟩:=rl
 subst SV
 have cN:=gm (P:=P) news 0 (o+kk*te.info.size) l w (hw.q9 hi) (by rw[rX];rw[Nat.add_mul]at we;omega) gD
 have e1:o+kk*te.info.size+news.length=o+(kk+mm)*te.info.size:=by rw[rX,Nat.add_mul];omega
 simp only[Nat.add_zero,e1,← EZ]at cN
 simp[Builtin.append_,run_underlying ht,hu,run_sizeOf he,rT,VM,Builtin.lenOf,mz,hf,Addr.add_eq,cN]
theorem KX{x y:Operand}{t t2 elem:TypeId}{cd zm te:Ty}{v2:Value}{b o kk cap mm:Nat}{l news l':List Value}{e:TypeId}{A:HP}(i j:Nat)(hd:Nat.blt d n=true)(hx:ev L x=some (.slice (some ⟨b,o,none⟩) kk cap))(hy:ev L y=some v2)(ht:U.get t=some cd)(hu:cd.gx = .slice elem)(h2:U.get t2=some zm)(L7:(match zm.gx with | .int _=>false|_=>true)=true)(he:U.get elem=some te)(hi:cD H i=some (ak b (cl l e)))(hj:cD H j=some A)(rl:Vw A v2 mm news)(rX:news.length=mm*te.info.size)(gD:∀u∈news,u.oneCell'=true)(mz:kk+mm≤cap)(we:o+(kk+mm)*te.info.size≤l.length)(EZ:l'=l.take (o+kk*te.info.size)++news++l.drop (o+(kk+mm)*te.info.size))(hp:mE i (ak b (cl l' e)) H [] = .mk H')(hS:∀w,Sat G w H'→Sx rest S w)(h:J P f n R G S all rest k ((d,.slice (some ⟨b,o,none⟩) (kk+mm) cap)::L) H') :
  J P f n R G S all (.cons false true ⟨some d,.call { callee := .builtin .append,args := #[x,y],argTypes := #[t,t2] },ty,pos,af,gd⟩ rest) k L H:=by
 refine oe hd (fun u H1=>u = .slice (some ⟨b,o,none⟩) (kk+mm) cap∧H1=H') (fun a w ha hw=>?_) ?_ ?_
 ·have hr:=Ew (P:=P) (rty:=ty) i j ht hu h2 (fun q e=>by rw[e]at L7;cases L7) he hw hi hj rl rX gD mz we EZ
  refine⟨_,_,H',?_,⟨rfl,rfl⟩,hw.put hi hp⟩
  simp[execOp,resolve,invoke,builtin,ha.ev hx,ha.ev hy,hr]
 ·grind
 grind
theorem zY(z:Value)(q:Nat):(Builtin.zeroCells z.cells q).toList=(List.replicate q (bC z)).flatten:=by
 have pR:z.cells.size=(bC z).length:=by rw[ec];simp
 unfold Builtin.zeroCells
 simp only[Array.toList_map,Array.toList_range,pR]
 rw[ec]
 induction q with
 | zero=>simp
 | succ q ih =>
  rw[List.replicate_succ',List.flatten_append,← ih,Nat.succ_mul,List.range_add,List.map_append]
  congr 1
  simp only[List.map_map,List.flatten_cons,List.flatten_nil,List.append_nil]
  apply List.ext_getElem?
  intro j
  by_cases hj:j<(bC z).length
  ·simp only[List.getElem?_map,List.getElem?_range hj,Option.map_some,Function.comp]
   rw[Nat.mul_comm,Nat.mul_add_mod,Nat.mod_eq_of_lt hj]
   simp[hj]
  grind
theorem Gl{t t2 elem rty:TypeId}{cd zm te:Ty}{z:Value}{a0:Option Addr}{kk cap mm:Nat}{q:IntKind}{cs:List Value}{A:HP}{w:World}(i:Nat)(ht:U.get t=some cd)(hu:cd.gx = .slice elem)(h2:U.get t2=some zm)(L7:zm.gx = .int q)(he:U.get elem=some te)(hz:te.info.zero=some z)(OZ:(bC z).length=te.info.size)(kr:0<te.info.size)(hw:Sat G w H)(hi:cD H i=some A)(hv:Vw A (.slice a0 kk cap) kk cs)(hl:cs.length=kk*te.info.size)(O6:cap<kk+mm)(yZ:0<mm)(NP:kk+mm≤9223372036854775807)(Rg:mm*te.info.bytes≤140737488355328)(rZ:(kk+mm)*te.info.bytes≤140737488355328) :
  (Builtin.append_ #[t,t2] rty #[.slice a0 kk cap,.int .i64 (mm:Int)]).run P w = .ok (.slice (some ⟨w.heap.size,0,none⟩) (kk+mm) (grownCap w (kk+mm) cap elem))
   (w.drew.alloc (cl (cs++(List.replicate mm (bC z)).flatten++(Builtin.zeroCells z.cells (grownCap w (kk+mm) cap elem-(kk+mm))).toList) elem)):=by
 have rT:∀ {w:World},(underlying t2).run P w = .ok zm.gx w:=fun {w}=>run_underlying h2 w
 have VM:(zm.gx matches .int _)=true:=by rw[L7]
 have Ru:¬kk+mm≤cap:=by omega
 have hgs:=growslice_fits (need:=kk+mm) (old:=cap) (bytes:=te.info.bytes) aj rZ
 have Kb:=mN (P:=P) (G:=G) (w:=w.drew) hv (hw.draw _) hi hl
 have Ka:¬((9223372036854775807:Int)<(kk:Int)+(mm:Int)):=by omega
 have aaw:¬281474976710656<Builtin.nextslicecap (kk+mm) cap*te.info.bytes:=by omega
 have qW:IntKind.i64.wrap (mm:Int)=mm:=dr (by simp only[js];omega)
 have aak:¬((mm:Int)<0):=by omega
 have qZ:¬((281474976710656:Int)<(mm:Int)*(te.info.bytes:Int)):=by
  grind
 have dw:¬(mm*te.info.size=0):=Nat.ne_of_gt (Nat.mul_pos yZ kr)
 have hzc:=zY z mm
 simp[Builtin.append_,run_underlying ht,hu,run_sizeOf he,rT,VM,asInt,asIntOf,qW,aak,qZ,Ru,Ka,aaw,Question.forced,run_typeInfo he,ej he hz,newRow,Kb,grownCap,cl,dw,L7]
 congr 2
 apply Array.ext'
 simp[hzc]
theorem D9{x y:Operand}{t t2 elem:TypeId}{cd zm te:Ty}{z:Value}{a0:Option Addr}{kk cap mm:Nat}{q:IntKind}{cs:List Value}{A:HP}(i:Nat)(hd:Nat.blt d n=true)(hx:ev L x=some (.slice a0 kk cap))(hy:ev L y=some (.int .i64 (mm:Int)))(ht:U.get t=some cd)(hu:cd.gx = .slice elem)(h2:U.get t2=some zm)(L7:zm.gx = .int q)(he:U.get elem=some te)(hz:te.info.zero=some z)(OZ:Nat.beq (bC z).length te.info.size=true)(kr:Nat.blt 0 te.info.size=true)(hi:cD H i=some A)(hv:Vw A (.slice a0 kk cap) kk cs)(hl:cs.length=kk*te.info.size)(O6:cap<kk+mm)(yZ:0<mm)(NP:kk+mm≤9223372036854775807)(Rg:mm*te.info.bytes≤140737488355328)(rZ:(kk+mm)*te.info.bytes≤140737488355328)(hS:∀v' w,Sat G w (aK elem te.info.size v' (kk+mm) (cs++(List.replicate mm (bC z)).flatten)::H)→Sx rest S w)(h:∀v',J P f n R G S all rest k ((d,v')::L) (aK elem te.info.size v' (kk+mm) (cs++(List.replicate mm (bC z)).flatten)::H)) :
  J P f n R G S all (.cons false true ⟨some d,.call { callee := .builtin .append,args := #[x,y],argTypes := #[t,t2] },ty,pos,af,gd⟩ rest) k L H:=by
 refine oe hd (fun u H1=>H1=aK elem te.info.size u (kk+mm) (cs++(List.replicate mm (bC z)).flatten)::H) (fun a w ha hw=>?_) ?_ ?_
 ·have hr:=Gl (P:=P) (rty:=ty) i ht hu h2 L7 he hz (Nat.eq_of_beq_eq_true OZ) (by simpa[Nat.blt_eq]using kr) hw hi hv hl O6 yZ NP Rg rZ
  refine⟨.slice (some ⟨w.heap.size,0,none⟩) (kk+mm) (grownCap w (kk+mm) cap elem),w.drew.alloc (cl (cs++(List.replicate mm (bC z)).flatten++(Builtin.zeroCells z.cells (grownCap w (kk+mm) cap elem-(kk+mm))).toList) elem),_,?_,rfl,?_⟩
  ·simp[execOp,resolve,invoke,builtin,ha.ev hx,ha.ev hy,hr]
  ·have h5:=Sat.alloc (w:=w.drew) (hw.draw _) (cl (cs++(List.replicate mm (bC z)).flatten++(Builtin.zeroCells z.cells (grownCap w (kk+mm) cap elem-(kk+mm))).toList) elem)
   refine h5.cI (aq.fold (B:=[_]) fun h hs=>⟨h,sub.refl h,?_⟩)
   have fO:=grownCap_ge w (kk+mm) cap elem
   have hzl:(List.replicate mm (bC z)).flatten.length=mm*te.info.size:=by rw[kL,Nat.eq_of_beq_eq_true OZ]
   refine⟨by simp only[List.length_append,hl,hzl,Nat.add_mul],.inr ⟨w.heap.size,0,_,[],_,rfl,rfl,fO,?_,by simpa using eO hs⟩⟩
   have h7:(Builtin.zeroCells z.cells (grownCap w (kk+mm) cap elem-(kk+mm))).size=(grownCap w (kk+mm) cap elem-(kk+mm))*te.info.size:=by rw[size_zeroCells,ec];simp[Nat.eq_of_beq_eq_true OZ]
   rw[List.length_append,hl,hzl,Array.length_toList,h7,← Nat.add_mul,← Nat.add_mul]
   grind
 ·grind
 grind
theorem Sq{t elem:TypeId}{cd te:Ty}{x lo hi mx:Operand}{a0:Option Addr}{len cap:Nat}{p q r:Int}{j1 j2 j3:IntKind}(hd:Nat.blt d n=true)(ht:U.get t=some cd)(hu:cd.gx = .slice elem)(he:U.get elem=some te)(hx:ev L x=some (.slice a0 len cap))(xX:ev L lo=some (.int j1 p))(Bh:ev L hi=some (.int j2 q))(hmx:ev L mx=some (.int j3 r))(h0:0≤p)(LW:p≤q)(hqr:q≤r)(LR:r≤(cap:Int))(h:J P f n R G S all rest k ((d,.slice (sliceAt a0 r.toNat p.toNat te.info.size) (q.toNat-p.toNat) (r.toNat-p.toNat))::L) H) :
  J P f n R G S all (.cons m true ⟨some d,.slice t x (some lo) (some hi) (some mx),ty,pos,af,gd⟩ rest) k L H:=by
 refine dK hd (fun a ha w=>?_) h
 have hb:(Instr.sliceBounds true len cap (some (a.eval lo)) (some (a.eval hi)) (some (a.eval mx))).run P w = .ok (p.toNat,q.toNat,r.toNat) w:=by
  unfold Instr.sliceBounds
  have e1:0≤r∧r≤(cap:Int):=⟨aj,LR⟩
  have e2:0≤q∧q≤((r.toNat:Nat):Int):=⟨aj,aj⟩
  have e3:0≤p∧p≤((q.toNat:Nat):Int):=⟨h0,aj⟩
  have e4:q≤max r 0:=by omega
  have e5:p≤max q 0:=by omega
  have e6:0≤q:=by omega
  simp[ha.ev xX,ha.ev Bh,ha.ev hmx,Instr.sliceBound,asIntOf,e1,e2,e3,e4,e5,e6]
 simp only[execOp,ha.ev hx,Instr.sliceAt,Sem.run_bind,run_underlying ht,Result.andThen_ok,hu,Instr.slice,Option.map_some,hb,run_sizeOf he,Sem.run_pure,sliceAt]
 grind
def KW{g:FuncId}{fn:Func}{args:Array Operand}{uF:Array TypeId}{tS elem:TypeId}{cd te:Ty}{b1 o1 n1 c1 b2 o2 n2 c2:Nat}{l1 l2:List Value}{e1 e2:TypeId}{Fr:List HP}{rs:Array TypeId}(is:List Nat)(hd:Nat.blt d n=true)(hf:P.funcs[g]?=some fn)(hb:fn.body=none)(hn:(fn.name == "runtime.NumGoroutine")=false)(rn:(Extern.findNext fn).isNone=true)(he:Extern.find fn=some (Extern.SlicesOverlaps.overlaps #[tS,tS] rs))(ht:U.get tS=some cd)(hu:cd.gx = .slice elem)(tq:U.get elem=some te)(gb:Fb L args.toList [] = .mk [.slice (some ⟨b1,o1,none⟩) n1 c1,.slice (some ⟨b2,o2,none⟩) n2 c2])(hi:rL is [] H [] = .mk [ak b1 (cl l1 e1),ak b2 (cl l2 e2)] Fr)(h:J P f n R G S all rest k ((d,.bool false)::L) H) :
  J P f n R G S all (.cons false true ⟨some d,.call { callee := .value (.func g),args:=args,argTypes:=uF },ty,pos,af,gd⟩ rest) k L H:=by
 refine kR hd (fun a w ha hw=>?_) h
 have QW:=hw.cI (aq.pick is hi)
 have dw:=Sat.ne QW
 have nN:w.heap[b1]?=some (cl l1 e1):=QW.q9 (i:=0) rfl
 have qZ:w.heap[b2]?=some (cl l2 e2):=QW.q9 (i:=1) rfl
 have DG:(b1 == b2)=false:=by simpa using dw
 have f1:∀o,w.frozen? ⟨b1,o,none⟩=false:=fun o=>ik nN
 have f2:∀o,w.frozen? ⟨b2,o,none⟩=false:=fun o=>ik qZ
 have s1:w.shape? b1=some (e1,l1.length):=by simp[World.shape?,nN,cl]
 have s2:w.shape? b2=some (e2,l2.length):=by simp[World.shape?,qZ,cl]
 simp only[execOp,resolve,Sem.run_bind,Act.eval,Deferred.ofValue,Sem.run_pure,Result.andThen_ok,invoke]
 rw[show(args.map fun x=>a.eval x)=args.map a.eval from rfl]at *
 have hav:=kO ha _ _ gb
 rw[show Array.map a.eval args = #[.slice (some ⟨b1,o1,none⟩) n1 c1,.slice (some ⟨b2,o2,none⟩) n2 c2]from hav]
 simp only[Array.empty_append,Array.append_empty]
 rw[uM hf hb hn rn he]
 have hov:(Extern.SlicesOverlaps.overlaps #[tS,tS] rs #[.slice (some ⟨b1,o1,none⟩) n1 c1,.slice (some ⟨b2,o2,none⟩) n2 c2]).run P w = .ok (.bool false) w:=by
  change Sem.run P (α:=Value) (do
   let some t:=(#[tS,tS]:Array TypeId)[0]?|stuck "slices.overlaps: no parameter types"
   let .slice elem ← underlying t|stuck "slices.overlaps: slice type expected"
   let size ← sizeOf elem
   match (some (⟨b1,o1,none⟩:Addr):Option Addr),(some (⟨b2,o2,none⟩:Addr):Option Addr)with
   | some a,some b =>
    if n1=0∨n2=0∨size=0 then pure (Value.bool false)
    else if a.block != b.block && (← frozen a) && (← frozen b)then unsupported .addressObserved
    else do
     if a.block != b.block then do
      noView a;noView b
      if ← mayBeOne a b then return Value.bool ((← choose (.extern "sameAddr.stringBytes" 2)) == 1)
     pure (Value.bool (a.block == b.block && a.off<b.off+n2*size && b.off<a.off+n1*size))
   | _,_=>pure (Value.bool false)) w=_
  by_cases h0:n1=0∨n2=0∨te.info.size=0
  ·simp[run_underlying ht,hu,run_sizeOf tq,h0]
  ·simp[run_underlying ht,hu,run_sizeOf tq,h0,DG,frozen,noView,viewAt,mayBeOne,stringish,shape,Sem.run,s1,s2,f1,f2,dw]
 rw[hov]
 rfl
def Sz{x:Operand}{t:TypeId}{cd:Ty}{e:TypeId}{a0:Option Addr}{len cap:Nat}(hd:Nat.blt d n=true)(hx:ev L x=some (.slice a0 len cap))(ht:U.get t=some cd)(hu:cd.gx = .slice e)(h:J P f n R G S all rest k ((d,.int .i64 (cap:Int))::L) H):J P f n R G S all (.cons m true ⟨some d,.call { callee := .builtin .cap,args := #[x],argTypes := #[t] },ty,pos,af,gd⟩ rest) k L H:=by
 refine dK hd (fun a ha w=>?_) h
 simp[execOp,resolve,invoke,builtin,ha.ev hx,Builtin.cap_,run_underlying ht,hu,goInt]
end
end Go.SL
namespace Go.SL
theorem Vw.front{A:HP}{b o n cap:Nat}{cs:List Value}(h:Vw A (.slice (Option.some ⟨b,o,none⟩) n cap) n cs)(i gV q:Nat):Vw A (.slice (Option.some ⟨b,o,none⟩) i gV) i (cs.take q):=by
 obtain⟨a,oB,hv,h0|⟨b',o',ha,hc⟩⟩:=h
 ·subst h0;exact⟨_,gV,rfl,.inl (by simp)⟩
 ·simp only[Value.slice.injEq,true_and]at hv
  obtain⟨rfl,_⟩:=hv
  simp only[Option.some.injEq,Addr.mk.injEq,and_true]at ha
  obtain⟨rfl,rfl⟩:=ha
  refine⟨_,gV,rfl,.inr ⟨b,o,rfl,fun h hA j c hj=>?_⟩⟩
  grind
theorem Vw.back{A:HP}{b o n cap:Nat}{cs:List Value}(h:Vw A (.slice (Option.some ⟨b,o,none⟩) n cap) n cs)(i gV q:Nat):Vw A (.slice (Option.some ⟨b,o+q,none⟩) i gV) i (cs.drop q):=by
 obtain⟨a,oB,hv,h0|⟨b',o',ha,hc⟩⟩:=h
 ·subst h0;exact⟨_,gV,rfl,.inl (by simp)⟩
 ·simp only[Value.slice.injEq,true_and]at hv
  obtain⟨rfl,_⟩:=hv
  simp only[Option.some.injEq,Addr.mk.injEq,and_true]at ha
  obtain⟨rfl,rfl⟩:=ha
  refine⟨_,gV,rfl,.inr ⟨b,o+q,rfl,fun h hA j c hj=>?_⟩⟩
  grind
theorem ep(b o cap p sz:Nat)(h:p≠cap):sliceAt (some ⟨b,o,none⟩) cap p sz=some ⟨b,o+p*sz,none⟩:=by
 grind [sliceAt,Addr.add_eq]
section
variable{P:Program}{U:Tr}[hU:gF P U]{f:FuncId}{n:Nat}{R:Ending→World→Prop}{G:cL}{k:List Item}{L:gh}{H H':List HP}{S:World→Prop}{all:Array Oper}{rest:Pl}{ty:TypeId}{pos:String}{af:Array Edge}{gd:Option (Nat × Bool)}{m:Bool}{d:Tmp}
def yq{e:TypeId}{sz nn:Nat}{v:Value}{cs:List Value}(i:Nat)(hi:cD H i=some (aK e sz v nn cs))(h0:0<nn)(h:∀b o c,v = .slice (some ⟨b,o,none⟩) nn c→nn≤c→cs.length=nn*sz→Vw (aK e sz v nn cs) v nn cs→K P f n R G k L H):K P f n R G k L H :=
 pH fun⟨w,hw⟩=>by
  obtain⟨h1,_,hA⟩:=hw.kp hi
  have hv:=Vw.lj e sz v nn cs ⟨h1,hA⟩
  obtain⟨hl,⟨a,rfl,rfl,_⟩|⟨b,o,cap,pre,junk,rfl,_,hc,_⟩⟩:=hA
  ·omega
  ·exact h _ _ _ rfl hc hl hv
def sP{e:TypeId}{b o c nn sz:Nat}{cs:List Value}(h0:0<nn):∀h,aK e sz (.slice (some ⟨b,o,none⟩) nn c) nn cs h→∃x:List Value × List Value,(x.1.length=o∧nn≤c∧c*sz≤cs.length+x.2.length∧cs.length=nn*sz)∧Sep [ak b (cl (x.1++cs++x.2) e)] h:=by
 rintro h⟨hl,⟨a,hv,rfl,he⟩|⟨b',o',cap,pre,junk,hv,hp,hn,hc,Bc⟩⟩
 ·omega
 ·simp only[Value.slice.injEq,Option.some.injEq,Addr.mk.injEq,and_true,true_and]at hv
  obtain⟨⟨rfl,rfl⟩,rfl⟩:=hv
  exact⟨(pre,junk),⟨hp,hn,hc,hl⟩,fL Bc⟩
theorem dT(b o cap sz:Nat):sliceAt (some ⟨b,o,none⟩) cap 0 sz=some ⟨b,o,none⟩:=by
 grind [sliceAt,Addr.add_eq]
def acK{pre c1 d c3 junk:List Value}{q s r:Nat}(h:pre.length+c1.length=q)(hd:d.length=s)(hr:r=q+s+(d++c3).length)(hj:s≤junk.length) :
  (pre++(c1++(d++c3))++junk).take (q+s)++(d++c3)++(pre++(c1++(d++c3))++junk).drop r=pre++c1++d++(d++c3)++junk.drop s:=by
 have e1:pre++(c1++(d++c3))++junk=(pre++c1++d)++(c3++junk):=by simp only[List.append_assoc]
 have e2:pre++(c1++(d++c3))++junk=(pre++(c1++(d++c3))++junk.take s)++junk.drop s:=by rw[List.append_assoc (pre++(c1++(d++c3))) (junk.take s) (junk.drop s),List.take_append_drop]
 have h1:(pre++(c1++(d++c3))++junk).take (q+s)=pre++c1++d:=by rw[e1];exact List.take_left' (by simp only[List.length_append];omega)
 have h2:(pre++(c1++(d++c3))++junk).drop r=junk.drop s:=by
  rw[e2];exact List.drop_left' (by simp only[List.length_append,List.length_take]at hr ⊢;omega)
 rw[h1,h2]
theorem Vt{pre c1 d rest f:List Value}{q s r:Nat}(h:pre.length+c1.length=q)(hd:d.length=s)(hr:r=q+s) :
  (pre++c1++d++rest).take q++f++(pre++c1++d++rest).drop r=pre++(c1++f)++rest:=by
 have h1:(pre++c1++d++rest).take q=pre++c1:=by rw[List.append_assoc];exact List.take_left' (by simp only[List.length_append];omega)
 have h2:(pre++c1++d++rest).drop r=rest:=List.drop_left' (by simp only[List.length_append];omega)
 grind
theorem FL{x y:Operand}{t t2 elem:TypeId}{cd te:Ty}{v2:Value}{b o dl dc mm:Nat}{l src l':List Value}{e:TypeId}{A:HP}(i j:Nat)(hd:Nat.blt d n=true)(hx:ev L x=some (.slice (some ⟨b,o,none⟩) dl dc))(hy:ev L y=some v2)(ht:U.get t=some cd)(hu:cd.gx = .slice elem)(he:U.get elem=some te)(hi:cD H i=some (ak b (cl l e)))(hj:cD H j=some A)(rl:Vw A v2 mm src)(rX:src.length=mm*te.info.size)(gD:∀u∈src.take (min mm dl*te.info.size),u.oneCell'=true)(we:o+(min mm dl)*te.info.size≤l.length)(EZ:l'=l.take o++src.take (min mm dl*te.info.size)++l.drop (o+min mm dl*te.info.size))(hp:mE i (ak b (cl l' e)) H [] = .mk H')(hS:∀w,Sat G w H'→Sx rest S w)(h:J P f n R G S all rest k ((d,.int .i64 (min mm dl:Nat))::L) H') :
  J P f n R G S all (.cons false true ⟨some d,.call { callee := .builtin .copy,args := #[x,y],argTypes := #[t,t2] },ty,pos,af,gd⟩ rest) k L H:=by
 refine oe hd (fun u H1=>u = .int .i64 (min mm dl:Nat)∧H1=H') (fun a w ha hw=>?_) ?_ ?_
 ·have hf:=Aq (P:=P) (q:=min mm dl) rl hw hj rX (Nat.min_le_left _ _)
  obtain⟨a2,c2,SV,_⟩:=rl
  subst SV
  have h3:(src.take (min mm dl*te.info.size)).length=min mm dl*te.info.size:=by rw[List.length_take,rX];exact Nat.min_eq_left (Nat.mul_le_mul_right _ (Nat.min_le_left _ _))
  have cN:=gm (P:=P) (src.take (min mm dl*te.info.size)) 0 o l w (hw.q9 hi) (by rw[h3];simpa using we) gD
  simp only[Nat.add_zero,h3,← EZ]at cN
  refine⟨_,_,H',?_,⟨rfl,rfl⟩,hw.put hi hp⟩
  simp only[execOp,resolve,invoke,builtin,Sem.run_bind,Sem.run_pure,Result.andThen_ok,List.map_toArray,List.map_cons,List.map_nil,ha.ev hx,ha.ev hy,Builtin.copy_,List.getElem?_toArray,List.getElem?_cons_zero,List.getElem?_cons_succ,
   run_underlying ht,hu,Builtin.lenOf,run_sizeOf he]
  rw[show Nat.min mm dl=min mm dl from rfl]
  simp only[hf,Result.andThen_ok,cN,goInt]
 ·grind
 grind
end
end Go.SL
namespace Go.SL
def Mg(b off:Nat)(v:Value):HP:=fun h=>eB h b off=some v
def BG{b off:Nat}{v:Value}{l:List Value}{e:TypeId}(hv:l[off]?=some v)(H:List HP):aq (ak b (cl l e)::H) (Mg b off v::H) :=
  aq.head (B:=[Mg b off v]) fun h hs=>⟨h,sub.refl h,fL (by
    have h1:=(Vw.ak (b:=b) (l:=l) (e:=e) (o:=0) (n:=l.length) (cap:=l.length) (cs:=l) (by simp)).cell hv h hs
    rw[Nat.zero_add]at h1;exact h1)⟩
def KA(b off:Nat)(v:Value):Vw (Mg b off v) (.slice (some ⟨b,off,none⟩) 1 1) 1 [v] :=
  ⟨_,_,rfl,.inr ⟨b,off,rfl,fun h hA j c hj=>by
    cases j with
    | zero=>simp at hj;subst hj;exact hA
    | succ j=>simp at hj⟩⟩
def uJ{α:Type}(g:α→HP){l l':List α}(hp:l.Perm l')(H:List HP):aq (aS g l::H) (aS g l'::H):=fun h hs=>⟨h,sub.refl h,fm (fun h hs=>sr (hp.map g) h hs) (fun _ h=>h) hs⟩
def Jl{α:Type}(g:α→HP)(l:List α)(m:Nat)(H:List HP):aq (aS g l::H) (aS g (l.take m)::H):=by
 refine aq.head (B:=[aS g (l.take m)]) fun h hs=>?_
 have h1:Sep ((l.take m).map g++(l.drop m).map g) h:=by rw[← List.map_append,List.take_append_drop];exact hs
 obtain⟨h',VF,hS⟩:=jY (jW h1)
 exact⟨h',VF,fL hS⟩
theorem Tq{e:TypeId}{sz b o c n m:Nat}{cs:List Value}(hm:m≤n)(h0:0<n)(H:List HP):aq (aK e sz (.slice (some ⟨b,o,none⟩) n c) n cs::H) (aK e sz (.slice (some ⟨b,o,none⟩) m c) m (cs.take (m*sz))::H):=by
 refine aq.head (B:=[aK e sz (.slice (some ⟨b,o,none⟩) m c) m (cs.take (m*sz))]) fun h hs=>?_
 obtain⟨⟨pre,junk⟩,⟨h1,h2,h3,h4⟩,h5⟩:=sP h0 h hs
 simp only at h1 h2 h3 h4 h5
 have Hl:m*sz≤n*sz:=Nat.mul_le_mul_right sz hm
 have hl:(cs.take (m*sz)).length=m*sz:=by rw[List.length_take,h4];omega
 refine⟨h,sub.refl h,fL ⟨hl,.inr ⟨b,o,c,pre,cs.drop (m*sz)++junk,rfl,h1,aj,?_,?_⟩⟩⟩
 ·grind
 ·have:=eO h5
  rw[show pre++cs.take (m*sz)++(cs.drop (m*sz)++junk)=pre++cs++junk from by rw[List.append_assoc,← List.append_assoc (cs.take _),List.take_append_drop,List.append_assoc]]
  exact this
def U9{P:Program}{f:FuncId}{n:Nat}{R:Ending→World→Prop}{G:cL}{k:List Item}{L:gh}{H:List HP}{e:TypeId}{sz nn c:Nat}{a:Option Addr}{cs:List Value}(i:Nat)(hi:cD H i=some (aK e sz (.slice a nn c) nn cs))(h:nn≤c→cs.length=nn*sz→Vw (aK e sz (.slice a nn c) nn cs) (.slice a nn c) nn cs→K P f n R G k L H):K P f n R G k L H :=
 pH fun⟨w,hw⟩=>by
  obtain⟨h1,_,hA⟩:=hw.kp hi
  have hv:=Vw.lj e sz _ nn cs ⟨h1,hA⟩
  obtain⟨hl,⟨a,ko,rfl,_⟩|⟨b,o,cap,pre,junk,ko,_,hc,_⟩⟩:=hA
  ·simp only[Value.slice.injEq]at ko;exact h aj hl hv
  ·simp only[Value.slice.injEq]at ko;exact h aj hl hv
def Vw.adQ{A:HP}{a:Option Addr}{n cap s:Nat}{cs:List Value}(h:Vw A (.slice a n cap) n cs)(k:Nat):Vw A (.slice (sliceAt a cap 0 s) k cap) k (cs.take (k*s)):=by
 have h':=h
 obtain⟨a',oB,hv,h0|⟨b',o',ha,hc⟩⟩:=h
 ·subst h0;exact⟨_,cap,rfl,.inl (by simp)⟩
 ·simp only[Value.slice.injEq,true_and]at hv
  obtain⟨rfl,_⟩:=hv
  subst ha
  rw[dT]
  exact h'.front k cap (k*s)
def Vw.Kv{A:HP}{a:Option Addr}{n cap s:Nat}{cs:List Value}(h:Vw A (.slice a n cap) n cs)(hl:cs.length=n*s)(hn:n≤cap)(k:Nat)(hk:k≤n):Vw A (.slice (sliceAt a cap k s) (n-k) (cap-k)) (n-k) (cs.drop (k*s)):=by
 have h':=h
 obtain⟨a',oB,hv,h0|⟨b',o',ha,hc⟩⟩:=h
 ·subst h0;exact⟨_,_,rfl,.inl (by simp)⟩
 ·simp only[Value.slice.injEq,true_and]at hv
  obtain⟨rfl,_⟩:=hv
  subst ha
  by_cases NQ:k=cap
  ·have:cs.drop (k*s)=[]:=List.eq_nil_of_length_eq_zero (by rw[List.length_drop,hl,NQ,show n=cap from by omega];omega)
   rw[this];exact⟨_,_,rfl,.inl rfl⟩
  ·rw[ep _ _ _ _ _ NQ]
   exact h'.back (n-k) (cap-k) (k*s)
def Gb{α:Type}(g:α→HP)(l:List α)(m:Nat)(H:List HP):aq (aS g l::H) (aS g (l.take m)::aS g (l.drop m)::H):=fun h hs=>by
 refine⟨h,sub.refl h,jZ (fm (fun h hs=>?_) (fun _ h=>h) hs)⟩
 have h1:Sep ((l.take m).map g++(l.drop m).map g) h:=by rw[← List.map_append,List.take_append_drop];exact hs
 exact jW h1
def Jj{α:Type}{P:α→Bool}(l:List α)(i:Nat)(h1:∀y∈l.take i,P y=true)(h2:l.length≤i∨∃x,l[i]?=Option.some x∧P x=false):l.take i=l.takeWhile P∧l.drop i=l.dropWhile P:=by
 induction l generalizing i with
 | nil=>simp
 | cons y l ih =>
  cases i with
  | zero =>
   simp_all
  | succ i =>
   simp_all
theorem Cm{α:Type}{P:α→Bool}:∀(l:List α),∀x∈l.takeWhile P,P x=true:=by
 intro l
 induction l with
 | nil=>intro x hx;simp at hx
 | cons y l ih =>
  intro x hx
  rw[List.takeWhile_cons]at hx
  grind
end Go.SL
namespace Go.SL
open Go.RowKit
def old(W:World):HP:=fun h=>∀b,h b=W.heap[b]?
def aaL(W:World):cL:={ tape:=W.tape,os:=W.os,output:=W.output }
def U4(W:World):Sat (aaL W) W [old W]:=⟨⟨rfl,Nat.zero_le _⟩,rfl,rfl,fun b=>W.heap[b]?,fun _ _ h=>h,fL fun _=>rfl⟩
theorem Ft{W W':World}(h:Sat (aaL W) W' [old W]):Below W.heap.size W W':=by
 obtain⟨h1,h2,h3,h0,hw,hs⟩:=h
 have ho:=eO hs
 have hb:∀k,k<W.heap.size→W'.heap[k]?=W.heap[k]? := fun k hk=>by
  have e:W.heap[k]?=some W.heap[k]:=by simp[hk]
  rw[e]
  exact hw k _ (by rw[ho k,e])
 refine⟨h2,h1.1,h3,?_,hb⟩
 grind
theorem PT{P:Program}{f:FuncId}{args:List Value}{W:World}(c:aH P f args [old W] (fun v H=>v = .bool true∧H=[old W])) :
  Calls P f args.toArray W fun e W'=>e = .returned (.bool true)∧Below W.heap.size W W' :=
 (c.2 (aaL W) W [] (U4 W)).mono fun e W' h=>by
  grind [Ft]
theorem ox{W:World}{h:Hp}{b off:Nat}{v:Value}(ho:old W h)(hc:W.cell? ⟨b,off,none⟩=some v):eB h b off=some v:=by
 unfold eB
 rw[ho b]
 unfold World.cell? at hc
 grind
theorem KC{W:World}{a:Addr}{len cap:Nat}{zs:List Int}(hl:len≤zs.length)(eB:∀i,i<zs.length→W.cell? (a.add i)=some (.int .u8 (zs.getD i 0)))(hwf:∀n∈zs,(Lit.int .u8 n).wf=true) :
  ∃bs:List UInt8,bs.length=len∧Vw (old W) (.slice (some a) len cap) len (bV bs):=by
 refine⟨(zs.take len).map fun z=>UInt8.ofNat z.toNat,by simp;omega,some a,cap,rfl,?_⟩
 rcases Nat.eq_zero_or_pos len with h0|h0
 ·grind [bV]
 ·right
  obtain⟨b,o,spot⟩:=a
  have hX:spot=none:=by simpa[Addr.add]using World.cell?_spot (eB 0 aj)
  subst hX
  refine⟨b,o,rfl,fun h ho j c hj=>?_⟩
  have I2:j<len:=by
   grind [bV]
  have h1:=eB j aj
  rw[Addr.add_eq]at h1
  have h2:=ox ho h1
  rw[h2]
  have hm:zs[j]' aj∈zs:=List.getElem_mem _
  have hw:=hwf _ hm
  have hb:0≤zs[j]' aj∧zs[j]' aj<256:=by
   simp only[Lit.wf,Bool.and_eq_true,decide_eq_true_eq]at hw
   have e1:IntKind.u8.min=0:=by decide
   have e2:IntKind.u8.max=255:=by decide
   omega
  simp only[bV,List.map_map,List.getElem?_map,List.getElem?_take,I2,if_true]at hj
  rw[List.getElem?_eq_getElem aj]at hj
  simp only[Option.map_some,Option.some.injEq,Function.comp]at hj
  rw[← hj,List.getD_eq_getElem?_getD,List.getElem?_eq_getElem aj]
  simp only[Option.getD_some,u8,UInt8.toNat_ofNat',Option.some.injEq]
  grind
def Qy(W:World):Vw (old W) (.slice none 0 0) 0 (bV []):=⟨none,0,rfl,.inl rfl⟩
def Dq{z:Int}(h:(Lit.int .i64 z).wf=true) : -9223372036854775808≤z∧z≤9223372036854775807:=by
 simp only[Lit.wf,Bool.and_eq_true,decide_eq_true_eq]at h
 have e1:IntKind.i64.min = -9223372036854775808:=by decide
 simp_all
end Go.SL
namespace Go.SL
open Go Go.RowKit Go.ChangeShapes Go.WideShapes
def iV(l:List Int):List Value:=l.map (Value.int .i64)
def Ba{l:List Int}{i:Nat}{x:Int}(h:l[i]?=some x):(iV l)[i]?=some (.int .i64 x):=by simp[iV,h]
def ine{l:List Int}{i:Nat}(h:i<l.length):iV l≠[]:=fun e=>by have:=congrArg List.length e;simp[iV]at this;rw[this]at h;simp at h
abbrev i64(x:Int):Prop := -9223372036854775808≤x∧x≤9223372036854775807
theorem Qp{H:Type}{enc:TypeId × Value→H}{P:Program}{W:World}{base:Nat}{spare:Nat→Bool}{held:Bool}{fuel:Nat}{t e:TypeId}{a:Option Addr}{len cap:Nat}{d:DataW H}{p:List MemPlace}(ht:P.underlying t=some (.slice e))(h:DataW.trod enc P W base spare held fuel t [.slice a len cap]=some (d,p)) :
  len=0∨∃el sp,d = .slice el sp∧el.length=len:=by
 rcases Go.Deep.open_slice ht h with⟨pR,_⟩|⟨a',af8,gV,m,n,D,Pl,pR,hb,hl,hm,Rg,hx,_⟩
 ·grind
 grind
theorem Nf{P:Program}{H:Type}{enc:TypeId × Value→H}{W:World}{base:Nat}{spare:Nat→Bool}{held:Bool}{fuel n:Nat}{t e:TypeId}{cs:Array Value}{x:DataW H × List MemPlace}(ht:P.underlying t=some (.array n e))(he:P.underlying e=some (.int .i64))(hc:P.cellsOf e=1)(Cx:P.cellsOf t=n)(h:DataW.trod enc P W base spare held fuel t (Value.agg cs).cells.toList=some x) :
  ∃l:List Int,l.length=n∧cs=(iV l).toArray∧∀x∈l,i64 x:=by
 obtain⟨xs,m,_,_,hlen,IX,hf⟩:=DataW.trod_array ht h
 rw[Cx]at hlen
 obtain⟨l,rfl⟩:∃l:List Value,cs=l.toArray:=⟨cs.toList,by simp⟩
 simp only[Value.cells]at hlen hf
 have key:∀i,i<n→∃z:Int,l[i]?=some (.int .i64 z)∧i64 z:=fun i hi=>by
  have h1:=hf i hi
  obtain⟨y,hy⟩:∃y,xs[i]?=some y:=⟨xs[i]' (by rw[IX];exact hi),by simp⟩
  rw[hy,hc,Nat.mul_one]at h1
  obtain⟨z,r,_,w⟩:=DataW.trod_int he h1
  refine⟨z,?_,Dq w⟩
  have:=congrArg (fun l:List Value=>l[0]?) r
  grind
 refine⟨(List.range n).map fun i=>match l[i]? with|Option.some (Value.int _ z)=>z|_=>0,by simp,?_,?_⟩
 ·congr 1
  apply List.ext_getElem?
  intro i
  rcases Nat.lt_or_ge i n with hi|hi
  ·obtain⟨z,hz,_⟩:=key i hi
   simp[iV,hi,hz]
  grind [iV]
 grind
end Go.SL
namespace Go.SL
open Go
def je{P:Program}{U:Tr}[hU:gF P U]{f:FuncId}{n:Nat}{R:Ending→World→Prop}{G:cL}{k k0:List Item}{L:gh}{H:List HP}{fn:Func}{F:List HP}{Post:Value→List HP→Prop}{p q b:Nat}{t e:TypeId}{cd:Ty}{cs:List Value}{u:Value}(i:Nat)(hR:Ends R G F Post)(hf:P.funcs[f]?=some fn)(hk:iq 1000 k0 = .mk (.code .ret::k))(tQ:fn.results.toList=[.cell p t,.tmp q])(hp:dU L p=some (.pointer (some ⟨b,0,none⟩)))(hq:dU L q=some u)(ht:U.get t=some cd)(hg:cd.isAgg=true)(hl:Nat.beq cs.length cd.info.size=true)(hi:cD H i=some (ak b (cl cs e))){Hq:List HP}(dQ:Post (.tuple #[.agg cs.toArray,u]) Hq)(he:aq H (Hq++F)):K P f n R G k0 L H:=by
 refine gJ 1000 hk ?_
 intro a w ha hw k6
 have hc:∀j v,cs[j]?=some v→w.cell? ⟨b,0+j,none⟩=some v:=fun j v hj=>by rw[dD (hw.q9 hi),Nat.zero_add];exact hj
 have Rm:=gZ (P:=P) (w:=w) ht hg (Nat.eq_of_beq_eq_true hl) hc
 have Rl:(loadVar t ⟨b,0,none⟩).run P w = .ok (.agg cs.toArray) w:=by simpa[Instr.loadAt,Instr.sureAddr]using Rm
 have g1:a.tmps.getD p undef = .pointer (some ⟨b,0,none⟩):=by simp[Array.getD_eq_getD_getElem?,ha.get hp]
 have g2:a.tmps.getD q undef=u:=by simp[Array.getD_eq_getD_getElem?,ha.get hq]
 have iJ:(results fn a.tmps).run P w = .ok (.tuple #[.agg cs.toArray,u]) w:=by
  rw[m9,Array.mapM_eq_mapM_toList,tQ]
  simp only[Sem.run_bind,Sem.run_map,List.mapM_cons,List.mapM_nil,Cp,g1,g2,asAddr,Sem.run_pure,Result.andThen_ok,Rl]
  simp
 rw[hR.1.1]
 exact⟨_,w,_,hR.2 _ _ w dQ (hw.cI he),.one (stepR_ret rfl),rfl,rfl,by show a.defers=[];rw[ha.2,hR.1.2];rfl,rfl,fn,hf,iJ⟩
def bD(l:Nat)(st:LoopState)(pd:Option Code)(f:FuncId)(n:Nat)(L:gh)(ps:Array Tmp)(assign body:Code)(r:Nat):HP:=fun h =>
 ∃tmps:Array Value,(tmps.size=n∧∀t v,dU L t=some v→tmps[t]?=some v)∧ak l (.loop { state:=st,pending:=pd,fn:=f,tmps:=tmps,params:=ps,assign:=assign,body:=body,defers:=r }) h
def cp(P:Program)(l:Nat)(args:List Value)(Pre:List HP)(Post:Value→List HP→Prop):Prop :=
 ∀G w F,Sat G w (Pre++F)→∃fn tmps assign body,(Instr.yield l args.toArray).run P w = .ok (.round l fn tmps assign body) w ∧
  ∀ro,RoundIn (fw ro) 0 P l fn tmps assign body w fun e w'=>∃v H,e = .returned v∧Post v H∧Sat G w' (H++F)
def P6:List Nat→List Value→gh→gh
 | p::ps,v::vs,L=>P6 ps vs ((p,v)::L)
 | _,_,L=>L
def inB(n:Nat):List Nat→Bool
 | []=>true
 | p::ps=>Nat.blt p n && inB n ps
def L5{n:Nat}:∀(ps:List Nat) (vs:List Value) (L:gh) (tmps:Array Value),inB n ps=true→tmps.size=n→(∀t v,dU L t=some v→tmps[t]?=some v) →
  Has n (P6 ps vs L) { tmps:=(ps.zip vs).foldl (fun tmps (x:Nat × Value)=>tmps.setIfInBounds x.1 x.2) tmps,defers:=[] }
 | [],vs,L,tmps,_,hs,hg=>⟨hs,trivial,hg⟩
 | p::ps,[],L,tmps,_,hs,hg=>⟨by simpa using hs,trivial,by simpa[P6]using hg⟩
 | p::ps,v::vs,L,tmps,hb,hs,hg=>by
  simp only[inB,Bool.and_eq_true]at hb
  have h1:Has n L { tmps:=tmps,defers:=[] }:=⟨hs,trivial,hg⟩
  have h2:=h1.put hb.1 v
  exact L5 ps vs _ _ hb.2 h2.1 h2.2.2
def Mz(R:Ending→World→Prop)(G:cL)(l:Nat)(F:List HP)(Post:Value→List HP→Prop):Prop :=
 (G.ro=some l∧G.ds=[])∧∀v H w,Post v H→Sat G w (H++F)→R (.returned v) w
section
variable{P:Program}{f:FuncId}{n:Nat}{R:Ending→World→Prop}{G:cL}{k:List Item}{L:gh}{H:List HP}{l r:Nat}{st:LoopState}{pd:Option Code}{n0:Nat}{f0:FuncId}{L0:gh}{ps:Array Tmp}{assign body:Code}
def tj{w:World}(hs:Sat G w (bD l st pd f0 n0 L0 ps assign body r::H)):∃tmps:Array Value,(tmps.size=n0∧∀t v,dU L0 t=some v→tmps[t]?=some v)∧Sat G w (ak l (.loop { state:=st,pending:=pd,fn:=f0,tmps:=tmps,params:=ps,assign:=assign,body:=body,defers:=r })::H):=by
 obtain⟨t,o,u,hp,O3,h1,h2,⟨tmps,ht,hA⟩,hH,hd,he⟩:=hs
 exact⟨tmps,ht,t,o,u,hp,O3,h1,h2,hA,hH,hd,he⟩
def s9{tmps:Array Value}(ht:tmps.size=n0∧∀t v,dU L0 t=some v→tmps[t]?=some v):aq (ak l (.loop { state:=st,pending:=pd,fn:=f0,tmps:=tmps,params:=ps,assign:=assign,body:=body,defers:=r })::H) (bD l st pd f0 n0 L0 ps assign body r::H) :=
 fun h hs=>⟨h,sub.refl h,fm (fun h hp=>⟨tmps,ht,hp⟩) (fun _ h=>h) hs⟩
def cp.Cr{args:List Value}{Pre:List HP}{Post:Value→List HP→Prop}(hps:Nat.beq ps.toList.length args.length=true)(nI:inB n0 ps.toList=true)(h:∀G F R,Mz R G l F Post→K P f0 n0 R G [.code assign,.beginRound,.code body] (P6 ps.toList args L0) (bD l .ready none f0 n0 L0 ps assign body r::(Pre++F))) :
  cp P l args (bD l .ready none f0 n0 L0 ps assign body r::Pre) Post:=by
 intro G w F hw
 obtain⟨tmps,ht,Ds⟩:=tj (H:=Pre++F) hw
 have hg:=Ds.get (i:=0) rfl
 have kr:args.toArray.size=ps.size:=by have:=Nat.eq_of_beq_eq_true hps;simpa using this.symm
 refine⟨_,_,_,_,run_yield hg kr,fun ro=>⟨trivial,fun c cs _=>?_⟩⟩
 have hk:=h { G with ro:=some l,ds:=[] } F (fun e w'=>∃v H,e = .returned v∧Post v H∧Sat G w' (H++F)) ⟨⟨rfl,rfl⟩,fun v H w' hp hs=>⟨v,H,rfl,hp,hs⟩⟩
 have hz:(ps.zip args.toArray).foldl (fun(tmps:Array Value) (x:Tmp × Value)=>tmps.setIfInBounds x.1 x.2) tmps=(ps.toList.zip args).foldl (fun tmps (x:Nat × Value)=>tmps.setIfInBounds x.1 x.2) tmps:=by
  rw[← Array.foldl_toList,Array.toList_zip]
 have ha:vl { G with ro:=some l,ds:=[] } n0 (P6 ps.toList args L0) { tmps:=(ps.zip args.toArray).foldl (fun(tmps:Array Value) (x:Tmp × Value)=>tmps.setIfInBounds x.1 x.2) tmps,defers:=[] }:=⟨by rw[hz];exact L5 ps.toList args L0 tmps nI ht.1 ht.2,rfl⟩
 obtain⟨v,w',⟨v',H',he,hp,hs⟩,cN⟩:=hk _ w ha (Ds.cI (s9 ht)) (c::cs) c cs rfl
 cases he
 exact⟨.returned v,w',⟨v,H',rfl,hp,hs⟩,(StepsIn.of_steps cN).mono fun m _=>yf P ro m⟩
def eY{k0:List Item}(hk:iq 1000 k0 = .mk (.beginRound::k)){F:List HP}{Post:Value→List HP→Prop}(hR:Mz R G l F Post)(h:K P f n R G k L (bD l .busy pd f0 n0 L0 ps assign body r::H)):K P f n R G k0 L (bD l .ready pd f0 n0 L0 ps assign body r::H):=by
 refine gJ 1000 hk ?_
 intro a w ha hw cs
 obtain⟨tmps,ht,Ds⟩:=tj hw
 have hg:=Ds.get (i:=0) rfl
 have hb:=run_beginRound (P:=P) hg rfl
 have QW:=(Ds.Es (o' := .loop { state := .busy,pending:=pd,fn:=f0,tmps:=tmps,params:=ps,assign:=assign,body:=body,defers:=r })).cI (s9 ht)
 exact(h a _ ha QW cs).of_steps (.one (stepR_beginRound (b:=({ (default:Frame)with fn:=f,kind := .normal,roundOf:=G.ro }:Frame)) hR.1.1 hb))
def C1{a:Act}{w w':World}{k1:List Item}{cs:List Frame}{v:Value}(Q3:G.ro=some l)(hR:R (.returned v) w')(hs:∀c k6,step P (lone (bf G.ro f a k1) (c::k6) w) = .next (lone (c.finish v) k6 w')):OC P f R cs (lone (bf G.ro f a k1) cs w) G.ro:=by
 rw[Q3]at hs ⊢
 intro c k6 pR
 subst pR
 exact⟨v,w',hR,.one (hs c k6)⟩
def wG{w:World}(jump:Option Code)(hw:Sat G w (bD l st pd f0 n0 L0 ps assign body r::H)):∃w',(Instr.endRound l jump).run P w = .ok (.bool jump.isNone) w'∧Sat G w' (bD l (if jump.isNone then .ready else .done) jump f0 n0 L0 ps assign body r::H):=by
 obtain⟨tmps,ht,Ds⟩:=tj hw
 have hg:=Ds.get (i:=0) rfl
 exact⟨_,run_endRound (P:=P) jump hg,(Ds.Es (o' := .loop { state:=if jump.isNone then .ready else .done,pending:=jump,fn:=f0,tmps:=tmps,params:=ps,assign:=assign,body:=body,defers:=r })).cI (s9 ht)⟩
def eF{k0:List Item}{F Hq:List HP}{Post:Value→List HP→Prop}(hR:Mz R G l F Post)(hk:iq 1000 k0 = .mk [])(he:aq H (bD l st pd f0 n0 L0 ps assign body r::(Hq++F)))(hp:Post (.bool true) (bD l .ready none f0 n0 L0 ps assign body r::Hq)):K P f n R G k0 L H:=by
 refine gJ 1000 hk ?_
 intro a w ha hw cs
 obtain⟨w',h1,h2⟩:=wG (P:=P) none (hw.cI he)
 exact C1 hR.1.1 (hR.2 _ _ w' hp h2) fun c k6=>stepR_round_end (b:=({ (default:Frame)with fn:=f,kind := .normal,roundOf:=G.ro }:Frame)) hR.1.1 rfl h1
def BU{k0:List Item}{F Hq:List HP}{Post:Value→List HP→Prop}(hR:Mz R G l F Post)(hk:iq 1000 k0 = .mk (.code .ret::k))(he:aq H (bD l st pd f0 n0 L0 ps assign body r::(Hq++F)))(hp:Post (.bool false) (bD l .done (some .ret) f0 n0 L0 ps assign body r::Hq)):K P f n R G k0 L H:=by
 refine gJ 1000 hk ?_
 intro a w ha hw cs
 obtain⟨w',h1,h2⟩:=wG (P:=P) (some .ret) (hw.cI he)
 exact C1 hR.1.1 (hR.2 _ _ w' hp h2) fun c k6=>stepR_round_ret (b:=({ (default:Frame)with fn:=f,kind := .normal,roundOf:=G.ro }:Frame)) hR.1.1 rfl h1
theorem wW{k0:List Item}{g:Operand}{gid:FuncId}{cap:Array Value}{Pre:Nat→Nat→List HP}{Fr:List HP}{Post:Nat→Nat→Value→List HP→Prop}(hk:iq 1000 k0 = .mk (.code (.rangeFunc g ps assign body)::k))(Q3:G.ro=none)(hg:ev L g=some (.func (.func gid) #[] cap))(c:∀l r,aH P gid (.func (.yield l) #[] #[]::cap.toList) (bD l .ready none f n L ps assign body r::Pre l r) (Post l r))(he:∀l r,aq H (Pre l r++Fr))(eA:∀l r v H',Post l r v H'→∃st pd H'',H'=bD l st pd f n L ps assign body r::H''∧st ≠ .busy ∧
   K P f n R { G with ds:=r::G.ds } ((pd.map Item.code).toList++k) L (H''++(ak r (.deferred (some []))::Fr))):K P f n R G k0 L H:=by
 refine gJ 1000 hk ?_
 intro a w ha hw cs
 let b:Frame:={ (default:Frame)with fn:=f,kind := .normal,roundOf:=G.ro }
 have Rx:=run_enterLoop_outer (P:=P) (w:=w) f a.tmps ps assign body
 rw[← Q3]at Rx
 have Ds:Sat G ((w.alloc (.deferred (some []))).alloc (.loop { state := .ready,pending:=none,fn:=f,tmps:=a.tmps,params:=ps,assign,body,defers:=w.heap.size }))
   (bD (w.heap.size+1) .ready none f n L ps assign body w.heap.size::(Pre (w.heap.size+1) w.heap.size++(ak w.heap.size (.deferred (some []))::Fr))):=by
  have h1:=hw.alloc (.deferred (some []))
  have h2:=h1.alloc (.loop { state := .ready,pending:=none,fn:=f,tmps:=a.tmps,params:=ps,assign:=assign,body:=body,defers:=w.heap.size })
  have kr:({ w with heap:=w.heap.push (.deferred (some [])) }:World).heap.size=w.heap.size+1:=by simp
  rw[kr]at h2
  refine Sat.cI h2 ?_
  refine(s9 ⟨ha.1.1,ha.1.2.2⟩).trans (aq.cons _ ?_)
  refine(aq.cons _ (he (w.heap.size+1) w.heap.size)).trans ?_
  exact aq.perm (List.perm_middle.symm)
 have J5:(resolve a.eval (rangeCall g (w.heap.size+1)) 0).run P ((w.alloc (.deferred (some []))).alloc (.loop { state := .ready,pending:=none,fn:=f,tmps:=a.tmps,params:=ps,assign,body,defers:=w.heap.size })) = .ok { target := .fn (.func gid) cap,args := #[.func (.yield (w.heap.size+1)) #[] #[]] } ((w.alloc (.deferred (some []))).alloc (.loop { state := .ready,pending:=none,fn:=f,tmps:=a.tmps,params:=ps,assign,body,defers:=w.heap.size })):=by
  simp only[resolve,rangeCall,Sem.run_bind,ha.ev hg,Deferred.ofValue,Sem.run_pure,Result.andThen_ok]
  simp[Act.eval]
 have hinv:(invoke (.fn (.func gid) cap) #[.func (.yield (w.heap.size+1)) #[] #[]]).run P ((w.alloc (.deferred (some []))).alloc (.loop { state := .ready,pending:=none,fn:=f,tmps:=a.tmps,params:=ps,assign,body,defers:=w.heap.size })) = .ok (.enter gid (Value.func (.yield (w.heap.size+1)) #[] #[]::cap.toList).toArray) ((w.alloc (.deferred (some []))).alloc (.loop { state := .ready,pending:=none,fn:=f,tmps:=a.tmps,params:=ps,assign,body,defers:=w.heap.size })):=by
  simp only[invoke]
  rw[iT (c (w.heap.size+1) w.heap.size).1]
  congr 2
  grind
 have Ke:=stepR_rangeFunc (P:=P) (b:=b) (a:=a) (k:=k) (cs:=cs) (w:=w) (ps:=ps) (assign:=assign) (body:=body) (g:=g) Rx J5 hinv
 obtain⟨e,w3,fr,⟨v,H',rfl,dQ,LQ⟩,aaB,S0,aar⟩:=(c (w.heap.size+1) w.heap.size).2 G _ (ak w.heap.size (.deferred (some []))::Fr) Ds (b.atR { a with defers:=[{ target := .collected w.heap.size,args := #[] }]++a.defers } (.inRangeFunc (w.heap.size+1)::k)::cs)
 obtain⟨st,pd,H'',rfl,cN,hK⟩:=eA _ _ _ _ dQ
 obtain⟨tmps,ht,hs4⟩:=tj (H:=H''++(ak w.heap.size (.deferred (some []))::Fr)) LQ
 have hg4:=hs4.get (i:=0) rfl
 have adC:=run_endLoop (P:=P) hg4 cN
 have hs5:=(hs4.Es (o' := .loop { state := .exhausted,pending:=pd,fn:=f,tmps:=tmps,params:=ps,assign:=assign,body:=body,defers:=w.heap.size })).cI (aq.drop _ _)
 have jo:step P (lone fr (b.atR { a with defers:=[{ target := .collected w.heap.size,args := #[] }]++a.defers } (.inRangeFunc (w.heap.size+1)::k)::cs) w3) = .next (lone (b.atR { a with defers:=[{ target := .collected w.heap.size,args := #[] }]++a.defers } (.endRangeFunc (w.heap.size+1)::k)) cs w3):=by
  rw[← finish_atR_inRangeFunc (w.heap.size+1) v];exact step_leave_returned aar
 have lV:=stepR_endRangeFunc (P:=P) (b:=b) (a:={ a with defers:=[{ target := .collected w.heap.size,args := #[] }]++a.defers }) (k:=k) (cs:=cs) adC
 have k8:=hK { a with defers:=[{ target := .collected w.heap.size,args := #[] }]++a.defers } _ ⟨⟨ha.1.1,trivial,ha.1.2.2⟩,by rw[show({ G with ds:=w.heap.size::G.ds }:cL).ds=w.heap.size::G.ds from rfl,List.map_cons,ha.2];rfl⟩ hs5 cs
 exact OC.of_steps (Steps.trans (.one Ke) (Steps.trans aaB (Steps.trans (.one jo) (.one lV)))) k8
variable{S:World→Prop}{all:Array Oper}{rest:Pl}{d:Tmp}{ty:TypeId}{pos:String}{af:Array Edge}{gd:Option (Nat × Bool)}
theorem jf{fo:Operand}{args:Array Operand}{uF:Array TypeId}{vs:List Value}{Pre Fr:List HP}{Post:Value→List HP→Prop}(hd:Nat.blt d n=true)(hf:ev L fo=some (.func (.yield l) #[] #[]))(gb:Fb L args.toList [] = .mk vs)(c:cp P l vs Pre Post)(he:aq H (Pre++Fr))(h:∀v H',Post v H'→J P f n R G S all rest k ((d,v)::L) (H'++Fr))(hS:∀v H' w,Post v H'→Sat G w (H'++Fr)→Sx rest S w) :
  J P f n R G S all (.cons false true ⟨some d,.call { callee := .value fo,args:=args,argTypes:=uF },ty,pos,af,gd⟩ rest) k L H:=by
 intro a w ha hw _
 refine .inl ⟨.inl rfl,.inr ⟨rfl,?_⟩⟩
 obtain⟨fn,tmps,asg,bdy,hy,hr⟩:=c G w Fr (hw.cI he)
 have Dv:(execOp a.eval ⟨some d,.call { callee := .value fo,args:=args,argTypes:=uF },ty,pos,af,gd⟩).run P w = .ok (.round l fn tmps asg bdy) w:=by
  simp only[execOp,resolve,Sem.run_bind,ha.ev hf,Deferred.ofValue,Sem.run_pure,Result.andThen_ok,invoke]
  rw[kO ha.1 _ _ gb]
  grind
 refine mX (fun c hc=>by cases hc) Dv ⟨fun h=>by simp[fw]at h,RoundIn.mono (hr G.ro) ?_⟩
 rintro e w'⟨v,H',rfl,dQ,l7⟩
 exact⟨hS v H' w' dQ l7,h v H' dQ _ w' (ha.put hd v) l7 (hS v H' w' dQ l7)⟩
end
end Go.SL
namespace Go.Proofs.YtlionahpheehaaaGreatDoor
open Go.SL
def TP(i:TypeId)(a b:TypeInfo):Prop:=Tryz.prog.underlying i=some a.desc∧Tryz.prog.info? i=some b
def aek:TP 1 Tryz.t1 Tryz.t1:=⟨aw,aw⟩
def aej:TP 2 Tryz.t2 Tryz.t2:=⟨aw,aw⟩
def aei:TP 3 Tryz.t3 Tryz.t3:=⟨aw,aw⟩
def aeh:TP 4 Tryz.t4 Tryz.t4:=⟨aw,aw⟩
def aeg:TP 5 Tryz.t5 Tryz.t5:=⟨aw,aw⟩
def aef:TP 6 Tryz.t5 Tryz.t6:=⟨aw,aw⟩
def aee:TP 7 Tryz.t7 Tryz.t7:=⟨aw,aw⟩
def aed:TP 8 Tryz.t7 Tryz.t8:=⟨aw,aw⟩
def aec:TP 9 Tryz.t9 Tryz.t9:=⟨aw,aw⟩
def acB:TP 10 Tryz.t9 Tryz.t10:=⟨aw,aw⟩
def acA:TP 11 Tryz.t9 Tryz.t11:=⟨aw,aw⟩
def acz:TP 12 Tryz.t12 Tryz.t12:=⟨aw,aw⟩
def acy:TP 13 Tryz.t13 Tryz.t13:=⟨aw,aw⟩
def acx:TP 14 Tryz.t13 Tryz.t14:=⟨aw,aw⟩
def acw:TP 15 Tryz.t15 Tryz.t15:=⟨aw,aw⟩
def acv:TP 16 Tryz.t16 Tryz.t16:=⟨aw,aw⟩
def acu:TP 17 Tryz.t17 Tryz.t17:=⟨aw,aw⟩
def acs:TP 18 Tryz.t18 Tryz.t18:=⟨aw,aw⟩
def acr:TP 19 Tryz.t18 Tryz.t19:=⟨aw,aw⟩
def acq:TP 20 Tryz.t20 Tryz.t20:=⟨aw,aw⟩
def acp:TP 21 Tryz.t21 Tryz.t21:=⟨aw,aw⟩
def aco:TP 22 Tryz.t22 Tryz.t22:=⟨aw,aw⟩
def acn:TP 23 Tryz.t23 Tryz.t23:=⟨aw,aw⟩
def acm:TP 24 Tryz.t24 Tryz.t24:=⟨aw,aw⟩
def ack:TP 25 Tryz.t3 Tryz.t25:=⟨aw,aw⟩
def acj:TP 27 Tryz.t27 Tryz.t27:=⟨aw,aw⟩
def aci:TP 28 Tryz.t28 Tryz.t28:=⟨aw,aw⟩
def ach:TP 29 Tryz.t28 Tryz.t29:=⟨aw,aw⟩
def acg:TP 30 Tryz.t30 Tryz.t30:=⟨aw,aw⟩
def acf:TP 31 Tryz.t30 Tryz.t31:=⟨aw,aw⟩
def ace:TP 33 Tryz.t33 Tryz.t33:=⟨aw,aw⟩
def acd:TP 34 Tryz.t34 Tryz.t34:=⟨aw,aw⟩
def acb:TP 36 Tryz.t36 Tryz.t36:=⟨aw,aw⟩
def aca:TP 37 Tryz.t37 Tryz.t37:=⟨aw,aw⟩
def ab':TP 39 Tryz.t39 Tryz.t39:=⟨aw,aw⟩
def ab9:TP 40 Tryz.t40 Tryz.t40:=⟨aw,aw⟩
def ab8:TP 42 Tryz.t42 Tryz.t42:=⟨aw,aw⟩
def ab7:TP 43 Tryz.t43 Tryz.t43:=⟨aw,aw⟩
def ab6:TP 45 Tryz.t45 Tryz.t45:=⟨aw,aw⟩
def ab5:TP 46 Tryz.t46 Tryz.t46:=⟨aw,aw⟩
def ab4:TP 48 Tryz.t48 Tryz.t48:=⟨aw,aw⟩
def ab3:TP 49 Tryz.t49 Tryz.t49:=⟨aw,aw⟩
def ab2:TP 51 Tryz.t51 Tryz.t51:=⟨aw,aw⟩
def ab1:TP 52 Tryz.t52 Tryz.t52:=⟨aw,aw⟩
def ab0:TP 53 Tryz.t53 Tryz.t53:=⟨aw,aw⟩
def abZ:TP 54 Tryz.t54 Tryz.t54:=⟨aw,aw⟩
def abY:TP 55 Tryz.t54 Tryz.t55:=⟨aw,aw⟩
def abX:TP 56 Tryz.t56 Tryz.t56:=⟨aw,aw⟩
def abW:TP 57 Tryz.t57 Tryz.t57:=⟨aw,aw⟩
def abV:TP 58 Tryz.t58 Tryz.t58:=⟨aw,aw⟩
def abU:TP 59 Tryz.t59 Tryz.t59:=⟨aw,aw⟩
def abT:TP 61 Tryz.t61 Tryz.t61:=⟨aw,aw⟩
def abS:TP 63 Tryz.t63 Tryz.t63:=⟨aw,aw⟩
def abR:TP 64 Tryz.t64 Tryz.t64:=⟨aw,aw⟩
def abQ:TP 65 Tryz.t64 Tryz.t65:=⟨aw,aw⟩
def abP:TP 66 Tryz.t66 Tryz.t66:=⟨aw,aw⟩
def abO:TP 67 Tryz.t67 Tryz.t67:=⟨aw,aw⟩
def abN:TP 68 Tryz.t68 Tryz.t68:=⟨aw,aw⟩
def abM:TP 69 Tryz.t69 Tryz.t69:=⟨aw,aw⟩
def abL:TP 70 Tryz.t70 Tryz.t70:=⟨aw,aw⟩
def abK:TP 71 Tryz.t70 Tryz.t71:=⟨aw,aw⟩
def abJ:TP 72 Tryz.t72 Tryz.t72:=⟨aw,aw⟩
def abI:TP 73 Tryz.t73 Tryz.t73:=⟨aw,aw⟩
def abH:TP 74 Tryz.t74 Tryz.t74:=⟨aw,aw⟩
def abG:TP 75 Tryz.t74 Tryz.t75:=⟨aw,aw⟩
def abF:TP 76 Tryz.t76 Tryz.t76:=⟨aw,aw⟩
def abE:TP 77 Tryz.t77 Tryz.t77:=⟨aw,aw⟩
def abD:TP 78 Tryz.t78 Tryz.t78:=⟨aw,aw⟩
def abC:TP 79 Tryz.t79 Tryz.t79:=⟨aw,aw⟩
def abB:TP 80 Tryz.t80 Tryz.t80:=⟨aw,aw⟩
def abA:TP 81 Tryz.t80 Tryz.t81:=⟨aw,aw⟩
def abz:TP 82 Tryz.t82 Tryz.t82:=⟨aw,aw⟩
def aby:TP 83 Tryz.t83 Tryz.t83:=⟨aw,aw⟩
def abx:TP 84 Tryz.t83 Tryz.t84:=⟨aw,aw⟩
def abw:TP 85 Tryz.t85 Tryz.t85:=⟨aw,aw⟩
def abv:TP 86 Tryz.t86 Tryz.t86:=⟨aw,aw⟩
def abu:TP 87 Tryz.t87 Tryz.t87:=⟨aw,aw⟩
def abt:TP 88 Tryz.t87 Tryz.t88:=⟨aw,aw⟩
def abr:TP 89 Tryz.t89 Tryz.t89:=⟨aw,aw⟩
def abq:TP 90 Tryz.t90 Tryz.t90:=⟨aw,aw⟩
def abp:TP 91 Tryz.t91 Tryz.t91:=⟨aw,aw⟩
def abo:TP 92 Tryz.t92 Tryz.t92:=⟨aw,aw⟩
def abn:TP 93 Tryz.t93 Tryz.t93:=⟨aw,aw⟩
def abm:TP 94 Tryz.t94 Tryz.t94:=⟨aw,aw⟩
def abl:TP 95 Tryz.t95 Tryz.t95:=⟨aw,aw⟩
def abk:TP 96 Tryz.t96 Tryz.t96:=⟨aw,aw⟩
def abj:TP 98 Tryz.t98 Tryz.t98:=⟨aw,aw⟩
def abi:TP 99 Tryz.t99 Tryz.t99:=⟨aw,aw⟩
def ZL:TP 100 Tryz.t100 Tryz.t100:=⟨aw,aw⟩
def ZK:TP 101 Tryz.t100 Tryz.t101:=⟨aw,aw⟩
def ZJ:TP 102 Tryz.t102 Tryz.t102:=⟨aw,aw⟩
def ZI:TP 103 Tryz.t103 Tryz.t103:=⟨aw,aw⟩
def ZH:TP 104 Tryz.t104 Tryz.t104:=⟨aw,aw⟩
def ZG:TP 105 Tryz.t105 Tryz.t105:=⟨aw,aw⟩
def ZF:TP 106 Tryz.t106 Tryz.t106:=⟨aw,aw⟩
def ZE:TP 107 Tryz.t106 Tryz.t107:=⟨aw,aw⟩
def ZD:TP 108 Tryz.t108 Tryz.t108:=⟨aw,aw⟩
def ZC:TP 109 Tryz.t109 Tryz.t109:=⟨aw,aw⟩
def ZB:TP 110 Tryz.t110 Tryz.t110:=⟨aw,aw⟩
def ZA:TP 111 Tryz.t111 Tryz.t111:=⟨aw,aw⟩
def Zz:TP 112 Tryz.t112 Tryz.t112:=⟨aw,aw⟩
def Zy:TP 113 Tryz.t113 Tryz.t113:=⟨aw,aw⟩
def Zx:TP 114 Tryz.t114 Tryz.t114:=⟨aw,aw⟩
def Zw:TP 115 Tryz.t115 Tryz.t115:=⟨aw,aw⟩
def Zv:TP 116 Tryz.t116 Tryz.t116:=⟨aw,aw⟩
def Zu:TP 117 Tryz.t117 Tryz.t117:=⟨aw,aw⟩
def Zt:TP 118 Tryz.t117 Tryz.t118:=⟨aw,aw⟩
def Zs:TP 119 Tryz.t119 Tryz.t119:=⟨aw,aw⟩
def Zr:TP 120 Tryz.t120 Tryz.t120:=⟨aw,aw⟩
def Zq:TP 121 Tryz.t121 Tryz.t121:=⟨aw,aw⟩
def Zp:TP 122 Tryz.t122 Tryz.t122:=⟨aw,aw⟩
def Zo:TP 123 Tryz.t123 Tryz.t123:=⟨aw,aw⟩
def Zn:TP 124 Tryz.t124 Tryz.t124:=⟨aw,aw⟩
def Zm:TP 125 Tryz.t125 Tryz.t125:=⟨aw,aw⟩
def Zl:TP 126 Tryz.t126 Tryz.t126:=⟨aw,aw⟩
def Zk:TP 127 Tryz.t126 Tryz.t127:=⟨aw,aw⟩
def Zj:TP 128 Tryz.t128 Tryz.t128:=⟨aw,aw⟩
def Zi:TP 129 Tryz.t129 Tryz.t129:=⟨aw,aw⟩
def Zh:TP 130 Tryz.t130 Tryz.t130:=⟨aw,aw⟩
def Zg:TP 131 Tryz.t131 Tryz.t131:=⟨aw,aw⟩
def Zf:TP 132 Tryz.t132 Tryz.t132:=⟨aw,aw⟩
def Ze:TP 133 Tryz.t133 Tryz.t133:=⟨aw,aw⟩
def Zd:TP 134 Tryz.t134 Tryz.t134:=⟨aw,aw⟩
def Zc:TP 136 Tryz.t136 Tryz.t136:=⟨aw,aw⟩
def Zb:TP 138 Tryz.t138 Tryz.t138:=⟨aw,aw⟩
def Za:TP 139 Tryz.t139 Tryz.t139:=⟨aw,aw⟩
def Y':TP 140 Tryz.t140 Tryz.t140:=⟨aw,aw⟩
def Y9:TP 141 Tryz.t141 Tryz.t141:=⟨aw,aw⟩
def Y8:TP 142 Tryz.t142 Tryz.t142:=⟨aw,aw⟩
def Y7:TP 143 Tryz.t143 Tryz.t143:=⟨aw,aw⟩
def Y6:TP 144 Tryz.t144 Tryz.t144:=⟨aw,aw⟩
def Y5:TP 145 Tryz.t145 Tryz.t145:=⟨aw,aw⟩
def Y4:TP 146 Tryz.t146 Tryz.t146:=⟨aw,aw⟩
def Y3:TP 147 Tryz.t147 Tryz.t147:=⟨aw,aw⟩
def Y1:TP 148 Tryz.t147 Tryz.t148:=⟨aw,aw⟩
def Y0:TP 149 Tryz.t149 Tryz.t149:=⟨aw,aw⟩
def YZ:TP 150 Tryz.t150 Tryz.t150:=⟨aw,aw⟩
def YY:TP 151 Tryz.t150 Tryz.t151:=⟨aw,aw⟩
def YX:TP 152 Tryz.t152 Tryz.t152:=⟨aw,aw⟩
def YW:TP 153 Tryz.t153 Tryz.t153:=⟨aw,aw⟩
def YV:TP 154 Tryz.t154 Tryz.t154:=⟨aw,aw⟩
def YU:TP 155 Tryz.t155 Tryz.t155:=⟨aw,aw⟩
def YT:TP 156 Tryz.t155 Tryz.t156:=⟨aw,aw⟩
def YS:TP 157 Tryz.t157 Tryz.t157:=⟨aw,aw⟩
def YR:TP 158 Tryz.t158 Tryz.t158:=⟨aw,aw⟩
def YQ:TP 159 Tryz.t159 Tryz.t159:=⟨aw,aw⟩
def YP:TP 160 Tryz.t160 Tryz.t160:=⟨aw,aw⟩
def YO:TP 161 Tryz.t161 Tryz.t161:=⟨aw,aw⟩
def YN:TP 162 Tryz.t162 Tryz.t162:=⟨aw,aw⟩
def YM:TP 163 Tryz.t162 Tryz.t163:=⟨aw,aw⟩
def YL:TP 164 Tryz.t164 Tryz.t164:=⟨aw,aw⟩
def YK:TP 165 Tryz.t165 Tryz.t165:=⟨aw,aw⟩
def YJ:TP 166 Tryz.t166 Tryz.t166:=⟨aw,aw⟩
def YI:TP 167 Tryz.t166 Tryz.t167:=⟨aw,aw⟩
def YH:TP 168 Tryz.t168 Tryz.t168:=⟨aw,aw⟩
def YG:TP 170 Tryz.t170 Tryz.t170:=⟨aw,aw⟩
def YF:TP 171 Tryz.t171 Tryz.t171:=⟨aw,aw⟩
def YE:TP 173 Tryz.t173 Tryz.t173:=⟨aw,aw⟩
def YD:TP 174 Tryz.t174 Tryz.t174:=⟨aw,aw⟩
def YC:TP 175 Tryz.t175 Tryz.t175:=⟨aw,aw⟩
def YB:TP 176 Tryz.t175 Tryz.t176:=⟨aw,aw⟩
def YA:TP 178 Tryz.t178 Tryz.t178:=⟨aw,aw⟩
def Yz:TP 180 Tryz.t180 Tryz.t180:=⟨aw,aw⟩
def Yy:TP 181 Tryz.t181 Tryz.t181:=⟨aw,aw⟩
def Yx:TP 182 Tryz.t182 Tryz.t182:=⟨aw,aw⟩
def Yw:TP 183 Tryz.t183 Tryz.t183:=⟨aw,aw⟩
def Yv:TP 185 Tryz.t185 Tryz.t185:=⟨aw,aw⟩
def Yu:TP 186 Tryz.t186 Tryz.t186:=⟨aw,aw⟩
def Yt:TP 187 Tryz.t187 Tryz.t187:=⟨aw,aw⟩
def Yr:TP 188 Tryz.t187 Tryz.t188:=⟨aw,aw⟩
def Yq:TP 190 Tryz.t190 Tryz.t190:=⟨aw,aw⟩
def Yp:TP 191 Tryz.t191 Tryz.t191:=⟨aw,aw⟩
def Yo:TP 192 Tryz.t192 Tryz.t192:=⟨aw,aw⟩
def Yn:TP 193 Tryz.t193 Tryz.t193:=⟨aw,aw⟩
def Ym:TP 195 Tryz.t195 Tryz.t195:=⟨aw,aw⟩
def Yl:TP 196 Tryz.t196 Tryz.t196:=⟨aw,aw⟩
def Yk:TP 197 Tryz.t197 Tryz.t197:=⟨aw,aw⟩
def Yj:TP 198 Tryz.t198 Tryz.t198:=⟨aw,aw⟩
def Yi:TP 199 Tryz.t199 Tryz.t199:=⟨aw,aw⟩
def Yh:TP 200 Tryz.t200 Tryz.t200:=⟨aw,aw⟩
def Yg:TP 201 Tryz.t201 Tryz.t201:=⟨aw,aw⟩
def Yf:TP 203 Tryz.t203 Tryz.t203:=⟨aw,aw⟩
def Ye:TP 204 Tryz.t204 Tryz.t204:=⟨aw,aw⟩
def Yd:TP 205 Tryz.t205 Tryz.t205:=⟨aw,aw⟩
def Yc:TP 206 Tryz.t206 Tryz.t206:=⟨aw,aw⟩
def Yb:TP 207 Tryz.t207 Tryz.t207:=⟨aw,aw⟩
def Ya:TP 208 Tryz.t208 Tryz.t208:=⟨aw,aw⟩
def X':TP 209 Tryz.t209 Tryz.t209:=⟨aw,aw⟩
def X9:TP 210 Tryz.t210 Tryz.t210:=⟨aw,aw⟩
def X8:TP 211 Tryz.t210 Tryz.t211:=⟨aw,aw⟩
def X7:TP 212 Tryz.t212 Tryz.t212:=⟨aw,aw⟩
def X6:TP 213 Tryz.t213 Tryz.t213:=⟨aw,aw⟩
def X5:TP 214 Tryz.t214 Tryz.t214:=⟨aw,aw⟩
def X4:TP 215 Tryz.t215 Tryz.t215:=⟨aw,aw⟩
def X3:TP 216 Tryz.t216 Tryz.t216:=⟨aw,aw⟩
def X2:TP 217 Tryz.t216 Tryz.t217:=⟨aw,aw⟩
def X1:TP 218 Tryz.t218 Tryz.t218:=⟨aw,aw⟩
def X0:TP 219 Tryz.t219 Tryz.t219:=⟨aw,aw⟩
def XZ:TP 220 Tryz.t220 Tryz.t220:=⟨aw,aw⟩
def XY:TP 221 Tryz.t220 Tryz.t221:=⟨aw,aw⟩
def XX:TP 222 Tryz.t222 Tryz.t222:=⟨aw,aw⟩
def XW:TP 223 Tryz.t223 Tryz.t223:=⟨aw,aw⟩
def XV:TP 224 Tryz.t224 Tryz.t224:=⟨aw,aw⟩
def XU:TP 225 Tryz.t224 Tryz.t225:=⟨aw,aw⟩
def XT:TP 226 Tryz.t226 Tryz.t226:=⟨aw,aw⟩
def XS:TP 227 Tryz.t227 Tryz.t227:=⟨aw,aw⟩
def XR:TP 228 Tryz.t228 Tryz.t228:=⟨aw,aw⟩
def XQ:TP 229 Tryz.t229 Tryz.t229:=⟨aw,aw⟩
def XP:TP 230 Tryz.t230 Tryz.t230:=⟨aw,aw⟩
def XO:TP 231 Tryz.t231 Tryz.t231:=⟨aw,aw⟩
def XN:TP 233 Tryz.t233 Tryz.t233:=⟨aw,aw⟩
def XM:TP 234 Tryz.t234 Tryz.t234:=⟨aw,aw⟩
def XL:TP 235 Tryz.t235 Tryz.t235:=⟨aw,aw⟩
def XK:TP 236 Tryz.t236 Tryz.t236:=⟨aw,aw⟩
def XJ:TP 237 Tryz.t237 Tryz.t237:=⟨aw,aw⟩
def XI:TP 238 Tryz.t238 Tryz.t238:=⟨aw,aw⟩
def XH:TP 239 Tryz.t239 Tryz.t239:=⟨aw,aw⟩
def XG:TP 241 Tryz.t241 Tryz.t241:=⟨aw,aw⟩
def XF:TP 242 Tryz.t242 Tryz.t242:=⟨aw,aw⟩
def XE:TP 243 Tryz.t243 Tryz.t243:=⟨aw,aw⟩
def XD:TP 244 Tryz.t244 Tryz.t244:=⟨aw,aw⟩
def XC:TP 246 Tryz.t246 Tryz.t246:=⟨aw,aw⟩
def XB:TP 247 Tryz.t247 Tryz.t247:=⟨aw,aw⟩
def XA:TP 248 Tryz.t248 Tryz.t248:=⟨aw,aw⟩
def Xz:TP 250 Tryz.t250 Tryz.t250:=⟨aw,aw⟩
def Xy:TP 251 Tryz.t251 Tryz.t251:=⟨aw,aw⟩
def Xx:TP 252 Tryz.t252 Tryz.t252:=⟨aw,aw⟩
def Xw:TP 253 Tryz.t253 Tryz.t253:=⟨aw,aw⟩
def Xv:TP 254 Tryz.t254 Tryz.t254:=⟨aw,aw⟩
def Xu:TP 255 Tryz.t255 Tryz.t255:=⟨aw,aw⟩
def Xt:TP 256 Tryz.t256 Tryz.t256:=⟨aw,aw⟩
def Xr:TP 258 Tryz.t258 Tryz.t258:=⟨aw,aw⟩
def Xq:TP 259 Tryz.t259 Tryz.t259:=⟨aw,aw⟩
def Xp:TP 260 Tryz.t260 Tryz.t260:=⟨aw,aw⟩
def Xo:TP 261 Tryz.t261 Tryz.t261:=⟨aw,aw⟩
def Xn:TP 262 Tryz.t262 Tryz.t262:=⟨aw,aw⟩
def Xm:TP 263 Tryz.t263 Tryz.t263:=⟨aw,aw⟩
def Xl:TP 264 Tryz.t264 Tryz.t264:=⟨aw,aw⟩
def Xk:TP 265 Tryz.t265 Tryz.t265:=⟨aw,aw⟩
def Xj:TP 266 Tryz.t266 Tryz.t266:=⟨aw,aw⟩
def Xi:TP 267 Tryz.t267 Tryz.t267:=⟨aw,aw⟩
def Xh:TP 269 Tryz.t269 Tryz.t269:=⟨aw,aw⟩
def Xg:TP 270 Tryz.t270 Tryz.t270:=⟨aw,aw⟩
def Xf:TP 271 Tryz.t271 Tryz.t271:=⟨aw,aw⟩
def Xe:TP 272 Tryz.t272 Tryz.t272:=⟨aw,aw⟩
def Xd:TP 273 Tryz.t272 Tryz.t273:=⟨aw,aw⟩
def Xc:TP 274 Tryz.t274 Tryz.t274:=⟨aw,aw⟩
def Xb:TP 275 Tryz.t275 Tryz.t275:=⟨aw,aw⟩
def Xa:TP 276 Tryz.t276 Tryz.t276:=⟨aw,aw⟩
def W9:TP 277 Tryz.t277 Tryz.t277:=⟨aw,aw⟩
def W8:TP 278 Tryz.t278 Tryz.t278:=⟨aw,aw⟩
def W7:TP 279 Tryz.t279 Tryz.t279:=⟨aw,aw⟩
def W6:TP 280 Tryz.t280 Tryz.t280:=⟨aw,aw⟩
def W5:TP 282 Tryz.t282 Tryz.t282:=⟨aw,aw⟩
def W4:TP 283 Tryz.t283 Tryz.t283:=⟨aw,aw⟩
def W3:TP 284 Tryz.t284 Tryz.t284:=⟨aw,aw⟩
def W2:TP 285 Tryz.t285 Tryz.t285:=⟨aw,aw⟩
def W1:TP 286 Tryz.t286 Tryz.t286:=⟨aw,aw⟩
def W0:TP 287 Tryz.t287 Tryz.t287:=⟨aw,aw⟩
def WZ:TP 288 Tryz.t288 Tryz.t288:=⟨aw,aw⟩
def WY:TP 289 Tryz.t289 Tryz.t289:=⟨aw,aw⟩
def WX:TP 290 Tryz.t290 Tryz.t290:=⟨aw,aw⟩
def WW:TP 291 Tryz.t291 Tryz.t291:=⟨aw,aw⟩
def WV:TP 292 Tryz.t292 Tryz.t292:=⟨aw,aw⟩
def WU:TP 293 Tryz.t293 Tryz.t293:=⟨aw,aw⟩
def WT:TP 294 Tryz.t3 Tryz.t294:=⟨aw,aw⟩
def WS:TP 296 Tryz.t296 Tryz.t296:=⟨aw,aw⟩
def WR:TP 297 Tryz.t297 Tryz.t297:=⟨aw,aw⟩
def WQ:TP 298 Tryz.t298 Tryz.t298:=⟨aw,aw⟩
def WO:TP 299 Tryz.t299 Tryz.t299:=⟨aw,aw⟩
def WN:TP 300 Tryz.t300 Tryz.t300:=⟨aw,aw⟩
def WM:TP 301 Tryz.t301 Tryz.t301:=⟨aw,aw⟩
def WL:TP 302 Tryz.t302 Tryz.t302:=⟨aw,aw⟩
def WK:TP 303 Tryz.t303 Tryz.t303:=⟨aw,aw⟩
def WJ:TP 304 Tryz.t304 Tryz.t304:=⟨aw,aw⟩
def WI:TP 306 Tryz.t306 Tryz.t306:=⟨aw,aw⟩
def WH:TP 307 Tryz.t307 Tryz.t307:=⟨aw,aw⟩
def WG:TP 308 Tryz.t159 Tryz.t308:=⟨aw,aw⟩
def WE:TP 309 Tryz.t309 Tryz.t309:=⟨aw,aw⟩
def WD:TP 310 Tryz.t310 Tryz.t310:=⟨aw,aw⟩
def WC:TP 311 Tryz.t311 Tryz.t311:=⟨aw,aw⟩
def WB:TP 312 Tryz.t312 Tryz.t312:=⟨aw,aw⟩
def WA:TP 313 Tryz.t313 Tryz.t313:=⟨aw,aw⟩
def Wz:TP 315 Tryz.t315 Tryz.t315:=⟨aw,aw⟩
def Wy:TP 317 Tryz.t317 Tryz.t317:=⟨aw,aw⟩
def Wx:TP 318 Tryz.t318 Tryz.t318:=⟨aw,aw⟩
def Ww:TP 320 Tryz.t320 Tryz.t320:=⟨aw,aw⟩
def Wv:TP 321 Tryz.t321 Tryz.t321:=⟨aw,aw⟩
def Wu:TP 322 Tryz.t322 Tryz.t322:=⟨aw,aw⟩
def Wt:TP 323 Tryz.t322 Tryz.t323:=⟨aw,aw⟩
def Ws:TP 324 Tryz.t324 Tryz.t324:=⟨aw,aw⟩
def Wr:TP 325 Tryz.t325 Tryz.t325:=⟨aw,aw⟩
def Wq:TP 326 Tryz.t325 Tryz.t326:=⟨aw,aw⟩
def Wp:TP 327 Tryz.t5 Tryz.t327:=⟨aw,aw⟩
def Wo:TP 328 Tryz.t5 Tryz.t328:=⟨aw,aw⟩
def Wn:TP 329 Tryz.t329 Tryz.t329:=⟨aw,aw⟩
def Wm:TP 330 Tryz.t330 Tryz.t330:=⟨aw,aw⟩
def Wl:TP 331 Tryz.t21 Tryz.t331:=⟨aw,aw⟩
def Wk:TP 332 Tryz.t21 Tryz.t332:=⟨aw,aw⟩
def Wj:TP 333 Tryz.t333 Tryz.t333:=⟨aw,aw⟩
def Wi:TP 334 Tryz.t333 Tryz.t334:=⟨aw,aw⟩
def Wh:TP 335 Tryz.t335 Tryz.t335:=⟨aw,aw⟩
noncomputable def bh:Tr:=(.node 165 ⟨Tryz.t165.desc,Tryz.t165⟩ (.node 86 ⟨Tryz.t86.desc,Tryz.t86⟩ (.node 43 ⟨Tryz.t43.desc,Tryz.t43⟩ (.node 19 ⟨Tryz.t18.desc,Tryz.t19⟩ (.node 10 ⟨Tryz.t9.desc,Tryz.t10⟩ (.node 5 ⟨Tryz.t5.desc,Tryz.t5⟩ (.node 3 ⟨Tryz.t3.desc,Tryz.t3⟩ (.node 2 ⟨Tryz.t2.desc,Tryz.t2⟩ (.node 1 ⟨Tryz.t1.desc,Tryz.t1⟩ .leaf .leaf) .leaf) (.node 4 ⟨Tryz.t4.desc,Tryz.t4⟩ .leaf .leaf)) (.node 8 ⟨Tryz.t7.desc,Tryz.t8⟩ (.node 7 ⟨Tryz.t7.desc,Tryz.t7⟩ (.node 6 ⟨Tryz.t5.desc,Tryz.t6⟩ .leaf .leaf) .leaf) (.node 9 ⟨Tryz.t9.desc,Tryz.t9⟩ .leaf .leaf))) (.node 15 ⟨Tryz.t15.desc,Tryz.t15⟩ (.node 13 ⟨Tryz.t13.desc,Tryz.t13⟩ (.node 12 ⟨Tryz.t12.desc,Tryz.t12⟩ (.node 11 ⟨Tryz.t9.desc,Tryz.t11⟩ .leaf .leaf) .leaf) (.node 14 ⟨Tryz.t13.desc,Tryz.t14⟩ .leaf .leaf)) (.node 17 ⟨Tryz.t17.desc,Tryz.t17⟩ (.node 16 ⟨Tryz.t16.desc,Tryz.t16⟩ .leaf .leaf) (.node 18 ⟨Tryz.t18.desc,Tryz.t18⟩ .leaf .leaf)))) (.node 30 ⟨Tryz.t30.desc,Tryz.t30⟩ (.node 24 ⟨Tryz.t24.desc,Tryz.t24⟩ (.node 22 ⟨Tryz.t22.desc,Tryz.t22⟩ (.node 21 ⟨Tryz.t21.desc,Tryz.t21⟩ (.node 20 ⟨Tryz.t20.desc,Tryz.t20⟩ .leaf .leaf) .leaf) (.node 23 ⟨Tryz.t23.desc,Tryz.t23⟩ .leaf .leaf)) (.node 28 ⟨Tryz.t28.desc,Tryz.t28⟩ (.node 27 ⟨Tryz.t27.desc,Tryz.t27⟩ (.node 25 ⟨Tryz.t3.desc,Tryz.t25⟩ .leaf .leaf) .leaf) (.node 29 ⟨Tryz.t28.desc,Tryz.t29⟩ .leaf .leaf))) (.node 37 ⟨Tryz.t37.desc,Tryz.t37⟩ (.node 34 ⟨Tryz.t34.desc,Tryz.t34⟩ (.node 33 ⟨Tryz.t33.desc,Tryz.t33⟩ (.node 31 ⟨Tryz.t30.desc,Tryz.t31⟩ .leaf .leaf) .leaf) (.node 36 ⟨Tryz.t36.desc,Tryz.t36⟩ .leaf .leaf)) (.node 40 ⟨Tryz.t40.desc,Tryz.t40⟩ (.node 39 ⟨Tryz.t39.desc,Tryz.t39⟩ .leaf .leaf) (.node 42 ⟨Tryz.t42.desc,Tryz.t42⟩ .leaf .leaf))))) (.node 67 ⟨Tryz.t67.desc,Tryz.t67⟩ (.node 56 ⟨Tryz.t56.desc,Tryz.t56⟩ (.node 51 ⟨Tryz.t51.desc,Tryz.t51⟩ (.node 48 ⟨Tryz.t48.desc,Tryz.t48⟩ (.node 46 ⟨Tryz.t46.desc,Tryz.t46⟩ (.node 45 ⟨Tryz.t45.desc,Tryz.t45⟩ .leaf .leaf) .leaf) (.node 49 ⟨Tryz.t49.desc,Tryz.t49⟩ .leaf .leaf)) (.node 54 ⟨Tryz.t54.desc,Tryz.t54⟩ (.node 53 ⟨Tryz.t53.desc,Tryz.t53⟩ (.node 52 ⟨Tryz.t52.desc,Tryz.t52⟩ .leaf .leaf) .leaf) (.node 55 ⟨Tryz.t54.desc,Tryz.t55⟩ .leaf .leaf))) (.node 63 ⟨Tryz.t63.desc,Tryz.t63⟩ (.node 59 ⟨Tryz.t59.desc,Tryz.t59⟩ (.node 58 ⟨Tryz.t58.desc,Tryz.t58⟩ (.node 57 ⟨Tryz.t57.desc,Tryz.t57⟩ .leaf .leaf) .leaf) (.node 61 ⟨Tryz.t61.desc,Tryz.t61⟩ .leaf .leaf)) (.node 65 ⟨Tryz.t64.desc,Tryz.t65⟩ (.node 64 ⟨Tryz.t64.desc,Tryz.t64⟩ .leaf .leaf) (.node 66 ⟨Tryz.t66.desc,Tryz.t66⟩ .leaf .leaf)))) (.node 77 ⟨Tryz.t77.desc,Tryz.t77⟩ (.node 72 ⟨Tryz.t72.desc,Tryz.t72⟩ (.node 70 ⟨Tryz.t70.desc,Tryz.t70⟩ (.node 69 ⟨Tryz.t69.desc,Tryz.t69⟩ (.node 68 ⟨Tryz.t68.desc,Tryz.t68⟩ .leaf .leaf) .leaf) (.node 71 ⟨Tryz.t70.desc,Tryz.t71⟩ .leaf .leaf)) (.node 75 ⟨Tryz.t74.desc,Tryz.t75⟩ (.node 74 ⟨Tryz.t74.desc,Tryz.t74⟩ (.node 73 ⟨Tryz.t73.desc,Tryz.t73⟩ .leaf .leaf) .leaf) (.node 76 ⟨Tryz.t76.desc,Tryz.t76⟩ .leaf .leaf))) (.node 82 ⟨Tryz.t82.desc,Tryz.t82⟩ (.node 80 ⟨Tryz.t80.desc,Tryz.t80⟩ (.node 79 ⟨Tryz.t79.desc,Tryz.t79⟩ (.node 78 ⟨Tryz.t78.desc,Tryz.t78⟩ .leaf .leaf) .leaf) (.node 81 ⟨Tryz.t80.desc,Tryz.t81⟩ .leaf .leaf)) (.node 84 ⟨Tryz.t83.desc,Tryz.t84⟩ (.node 83 ⟨Tryz.t83.desc,Tryz.t83⟩ .leaf .leaf) (.node 85 ⟨Tryz.t85.desc,Tryz.t85⟩ .leaf .leaf)))))) (.node 125 ⟨Tryz.t125.desc,Tryz.t125⟩ (.node 106 ⟨Tryz.t106.desc,Tryz.t106⟩ (.node 96 ⟨Tryz.t96.desc,Tryz.t96⟩ (.node 91 ⟨Tryz.t91.desc,Tryz.t91⟩ (.node 89 ⟨Tryz.t89.desc,Tryz.t89⟩ (.node 88 ⟨Tryz.t87.desc,Tryz.t88⟩ (.node 87 ⟨Tryz.t87.desc,Tryz.t87⟩ .leaf .leaf) .leaf) (.node 90 ⟨Tryz.t90.desc,Tryz.t90⟩ .leaf .leaf)) (.node 94 ⟨Tryz.t94.desc,Tryz.t94⟩ (.node 93 ⟨Tryz.t93.desc,Tryz.t93⟩ (.node 92 ⟨Tryz.t92.desc,Tryz.t92⟩ .leaf .leaf) .leaf) (.node 95 ⟨Tryz.t95.desc,Tryz.t95⟩ .leaf .leaf))) (.node 102 ⟨Tryz.t102.desc,Tryz.t102⟩ (.node 100 ⟨Tryz.t100.desc,Tryz.t100⟩ (.node 99 ⟨Tryz.t99.desc,Tryz.t99⟩ (.node 98 ⟨Tryz.t98.desc,Tryz.t98⟩ .leaf .leaf) .leaf) (.node 101 ⟨Tryz.t100.desc,Tryz.t101⟩ .leaf .leaf)) (.node 104 ⟨Tryz.t104.desc,Tryz.t104⟩ (.node 103 ⟨Tryz.t103.desc,Tryz.t103⟩ .leaf .leaf) (.node 105 ⟨Tryz.t105.desc,Tryz.t105⟩ .leaf .leaf)))) (.node 116 ⟨Tryz.t116.desc,Tryz.t116⟩ (.node 111 ⟨Tryz.t111.desc,Tryz.t111⟩ (.node 109 ⟨Tryz.t109.desc,Tryz.t109⟩ (.node 108 ⟨Tryz.t108.desc,Tryz.t108⟩ (.node 107 ⟨Tryz.t106.desc,Tryz.t107⟩ .leaf .leaf) .leaf) (.node 110 ⟨Tryz.t110.desc,Tryz.t110⟩ .leaf .leaf)) (.node 114 ⟨Tryz.t114.desc,Tryz.t114⟩ (.node 113 ⟨Tryz.t113.desc,Tryz.t113⟩ (.node 112 ⟨Tryz.t112.desc,Tryz.t112⟩ .leaf .leaf) .leaf) (.node 115 ⟨Tryz.t115.desc,Tryz.t115⟩ .leaf .leaf))) (.node 121 ⟨Tryz.t121.desc,Tryz.t121⟩ (.node 119 ⟨Tryz.t119.desc,Tryz.t119⟩ (.node 118 ⟨Tryz.t117.desc,Tryz.t118⟩ (.node 117 ⟨Tryz.t117.desc,Tryz.t117⟩ .leaf .leaf) .leaf) (.node 120 ⟨Tryz.t120.desc,Tryz.t120⟩ .leaf .leaf)) (.node 123 ⟨Tryz.t123.desc,Tryz.t123⟩ (.node 122 ⟨Tryz.t122.desc,Tryz.t122⟩ .leaf .leaf) (.node 124 ⟨Tryz.t124.desc,Tryz.t124⟩ .leaf .leaf))))) (.node 146 ⟨Tryz.t146.desc,Tryz.t146⟩ (.node 136 ⟨Tryz.t136.desc,Tryz.t136⟩ (.node 130 ⟨Tryz.t130.desc,Tryz.t130⟩ (.node 128 ⟨Tryz.t128.desc,Tryz.t128⟩ (.node 127 ⟨Tryz.t126.desc,Tryz.t127⟩ (.node 126 ⟨Tryz.t126.desc,Tryz.t126⟩ .leaf .leaf) .leaf) (.node 129 ⟨Tryz.t129.desc,Tryz.t129⟩ .leaf .leaf)) (.node 133 ⟨Tryz.t133.desc,Tryz.t133⟩ (.node 132 ⟨Tryz.t132.desc,Tryz.t132⟩ (.node 131 ⟨Tryz.t131.desc,Tryz.t131⟩ .leaf .leaf) .leaf) (.node 134 ⟨Tryz.t134.desc,Tryz.t134⟩ .leaf .leaf))) (.node 142 ⟨Tryz.t142.desc,Tryz.t142⟩ (.node 140 ⟨Tryz.t140.desc,Tryz.t140⟩ (.node 139 ⟨Tryz.t139.desc,Tryz.t139⟩ (.node 138 ⟨Tryz.t138.desc,Tryz.t138⟩ .leaf .leaf) .leaf) (.node 141 ⟨Tryz.t141.desc,Tryz.t141⟩ .leaf .leaf)) (.node 144 ⟨Tryz.t144.desc,Tryz.t144⟩ (.node 143 ⟨Tryz.t143.desc,Tryz.t143⟩ .leaf .leaf) (.node 145 ⟨Tryz.t145.desc,Tryz.t145⟩ .leaf .leaf)))) (.node 156 ⟨Tryz.t155.desc,Tryz.t156⟩ (.node 151 ⟨Tryz.t150.desc,Tryz.t151⟩ (.node 149 ⟨Tryz.t149.desc,Tryz.t149⟩ (.node 148 ⟨Tryz.t147.desc,Tryz.t148⟩ (.node 147 ⟨Tryz.t147.desc,Tryz.t147⟩ .leaf .leaf) .leaf) (.node 150 ⟨Tryz.t150.desc,Tryz.t150⟩ .leaf .leaf)) (.node 154 ⟨Tryz.t154.desc,Tryz.t154⟩ (.node 153 ⟨Tryz.t153.desc,Tryz.t153⟩ (.node 152 ⟨Tryz.t152.desc,Tryz.t152⟩ .leaf .leaf) .leaf) (.node 155 ⟨Tryz.t155.desc,Tryz.t155⟩ .leaf .leaf))) (.node 161 ⟨Tryz.t161.desc,Tryz.t161⟩ (.node 159 ⟨Tryz.t159.desc,Tryz.t159⟩ (.node 158 ⟨Tryz.t158.desc,Tryz.t158⟩ (.node 157 ⟨Tryz.t157.desc,Tryz.t157⟩ .leaf .leaf) .leaf) (.node 160 ⟨Tryz.t160.desc,Tryz.t160⟩ .leaf .leaf)) (.node 163 ⟨Tryz.t162.desc,Tryz.t163⟩ (.node 162 ⟨Tryz.t162.desc,Tryz.t162⟩ .leaf .leaf) (.node 164 ⟨Tryz.t164.desc,Tryz.t164⟩ .leaf .leaf))))))) (.node 253 ⟨Tryz.t253.desc,Tryz.t253⟩ (.node 211 ⟨Tryz.t210.desc,Tryz.t211⟩ (.node 190 ⟨Tryz.t190.desc,Tryz.t190⟩ (.node 178 ⟨Tryz.t178.desc,Tryz.t178⟩ (.node 171 ⟨Tryz.t171.desc,Tryz.t171⟩ (.node 168 ⟨Tryz.t168.desc,Tryz.t168⟩ (.node 167 ⟨Tryz.t166.desc,Tryz.t167⟩ (.node 166 ⟨Tryz.t166.desc,Tryz.t166⟩ .leaf .leaf) .leaf) (.node 170 ⟨Tryz.t170.desc,Tryz.t170⟩ .leaf .leaf)) (.node 175 ⟨Tryz.t175.desc,Tryz.t175⟩ (.node 174 ⟨Tryz.t174.desc,Tryz.t174⟩ (.node 173 ⟨Tryz.t173.desc,Tryz.t173⟩ .leaf .leaf) .leaf) (.node 176 ⟨Tryz.t175.desc,Tryz.t176⟩ .leaf .leaf))) (.node 185 ⟨Tryz.t185.desc,Tryz.t185⟩ (.node 182 ⟨Tryz.t182.desc,Tryz.t182⟩ (.node 181 ⟨Tryz.t181.desc,Tryz.t181⟩ (.node 180 ⟨Tryz.t180.desc,Tryz.t180⟩ .leaf .leaf) .leaf) (.node 183 ⟨Tryz.t183.desc,Tryz.t183⟩ .leaf .leaf)) (.node 187 ⟨Tryz.t187.desc,Tryz.t187⟩ (.node 186 ⟨Tryz.t186.desc,Tryz.t186⟩ .leaf .leaf) (.node 188 ⟨Tryz.t187.desc,Tryz.t188⟩ .leaf .leaf)))) (.node 201 ⟨Tryz.t201.desc,Tryz.t201⟩ (.node 196 ⟨Tryz.t196.desc,Tryz.t196⟩ (.node 193 ⟨Tryz.t193.desc,Tryz.t193⟩ (.node 192 ⟨Tryz.t192.desc,Tryz.t192⟩ (.node 191 ⟨Tryz.t191.desc,Tryz.t191⟩ .leaf .leaf) .leaf) (.node 195 ⟨Tryz.t195.desc,Tryz.t195⟩ .leaf .leaf)) (.node 199 ⟨Tryz.t199.desc,Tryz.t199⟩ (.node 198 ⟨Tryz.t198.desc,Tryz.t198⟩ (.node 197 ⟨Tryz.t197.desc,Tryz.t197⟩ .leaf .leaf) .leaf) (.node 200 ⟨Tryz.t200.desc,Tryz.t200⟩ .leaf .leaf))) (.node 207 ⟨Tryz.t207.desc,Tryz.t207⟩ (.node 205 ⟨Tryz.t205.desc,Tryz.t205⟩ (.node 204 ⟨Tryz.t204.desc,Tryz.t204⟩ (.node 203 ⟨Tryz.t203.desc,Tryz.t203⟩ .leaf .leaf) .leaf) (.node 206 ⟨Tryz.t206.desc,Tryz.t206⟩ .leaf .leaf)) (.node 209 ⟨Tryz.t209.desc,Tryz.t209⟩ (.node 208 ⟨Tryz.t208.desc,Tryz.t208⟩ .leaf .leaf) (.node 210 ⟨Tryz.t210.desc,Tryz.t210⟩ .leaf .leaf))))) (.node 230 ⟨Tryz.t230.desc,Tryz.t230⟩ (.node 221 ⟨Tryz.t220.desc,Tryz.t221⟩ (.node 216 ⟨Tryz.t216.desc,Tryz.t216⟩ (.node 214 ⟨Tryz.t214.desc,Tryz.t214⟩ (.node 213 ⟨Tryz.t213.desc,Tryz.t213⟩ (.node 212 ⟨Tryz.t212.desc,Tryz.t212⟩ .leaf .leaf) .leaf) (.node 215 ⟨Tryz.t215.desc,Tryz.t215⟩ .leaf .leaf)) (.node 219 ⟨Tryz.t219.desc,Tryz.t219⟩ (.node 218 ⟨Tryz.t218.desc,Tryz.t218⟩ (.node 217 ⟨Tryz.t216.desc,Tryz.t217⟩ .leaf .leaf) .leaf) (.node 220 ⟨Tryz.t220.desc,Tryz.t220⟩ .leaf .leaf))) (.node 226 ⟨Tryz.t226.desc,Tryz.t226⟩ (.node 224 ⟨Tryz.t224.desc,Tryz.t224⟩ (.node 223 ⟨Tryz.t223.desc,Tryz.t223⟩ (.node 222 ⟨Tryz.t222.desc,Tryz.t222⟩ .leaf .leaf) .leaf) (.node 225 ⟨Tryz.t224.desc,Tryz.t225⟩ .leaf .leaf)) (.node 228 ⟨Tryz.t228.desc,Tryz.t228⟩ (.node 227 ⟨Tryz.t227.desc,Tryz.t227⟩ .leaf .leaf) (.node 229 ⟨Tryz.t229.desc,Tryz.t229⟩ .leaf .leaf)))) (.node 242 ⟨Tryz.t242.desc,Tryz.t242⟩ (.node 236 ⟨Tryz.t236.desc,Tryz.t236⟩ (.node 234 ⟨Tryz.t234.desc,Tryz.t234⟩ (.node 233 ⟨Tryz.t233.desc,Tryz.t233⟩ (.node 231 ⟨Tryz.t231.desc,Tryz.t231⟩ .leaf .leaf) .leaf) (.node 235 ⟨Tryz.t235.desc,Tryz.t235⟩ .leaf .leaf)) (.node 239 ⟨Tryz.t239.desc,Tryz.t239⟩ (.node 238 ⟨Tryz.t238.desc,Tryz.t238⟩ (.node 237 ⟨Tryz.t237.desc,Tryz.t237⟩ .leaf .leaf) .leaf) (.node 241 ⟨Tryz.t241.desc,Tryz.t241⟩ .leaf .leaf))) (.node 248 ⟨Tryz.t248.desc,Tryz.t248⟩ (.node 246 ⟨Tryz.t246.desc,Tryz.t246⟩ (.node 244 ⟨Tryz.t244.desc,Tryz.t244⟩ (.node 243 ⟨Tryz.t243.desc,Tryz.t243⟩ .leaf .leaf) .leaf) (.node 247 ⟨Tryz.t247.desc,Tryz.t247⟩ .leaf .leaf)) (.node 251 ⟨Tryz.t251.desc,Tryz.t251⟩ (.node 250 ⟨Tryz.t250.desc,Tryz.t250⟩ .leaf .leaf) (.node 252 ⟨Tryz.t252.desc,Tryz.t252⟩ .leaf .leaf)))))) (.node 294 ⟨Tryz.t3.desc,Tryz.t294⟩ (.node 274 ⟨Tryz.t274.desc,Tryz.t274⟩ (.node 264 ⟨Tryz.t264.desc,Tryz.t264⟩ (.node 259 ⟨Tryz.t259.desc,Tryz.t259⟩ (.node 256 ⟨Tryz.t256.desc,Tryz.t256⟩ (.node 255 ⟨Tryz.t255.desc,Tryz.t255⟩ (.node 254 ⟨Tryz.t254.desc,Tryz.t254⟩ .leaf .leaf) .leaf) (.node 258 ⟨Tryz.t258.desc,Tryz.t258⟩ .leaf .leaf)) (.node 262 ⟨Tryz.t262.desc,Tryz.t262⟩ (.node 261 ⟨Tryz.t261.desc,Tryz.t261⟩ (.node 260 ⟨Tryz.t260.desc,Tryz.t260⟩ .leaf .leaf) .leaf) (.node 263 ⟨Tryz.t263.desc,Tryz.t263⟩ .leaf .leaf))) (.node 270 ⟨Tryz.t270.desc,Tryz.t270⟩ (.node 267 ⟨Tryz.t267.desc,Tryz.t267⟩ (.node 266 ⟨Tryz.t266.desc,Tryz.t266⟩ (.node 265 ⟨Tryz.t265.desc,Tryz.t265⟩ .leaf .leaf) .leaf) (.node 269 ⟨Tryz.t269.desc,Tryz.t269⟩ .leaf .leaf)) (.node 272 ⟨Tryz.t272.desc,Tryz.t272⟩ (.node 271 ⟨Tryz.t271.desc,Tryz.t271⟩ .leaf .leaf) (.node 273 ⟨Tryz.t272.desc,Tryz.t273⟩ .leaf .leaf)))) (.node 285 ⟨Tryz.t285.desc,Tryz.t285⟩ (.node 279 ⟨Tryz.t279.desc,Tryz.t279⟩ (.node 277 ⟨Tryz.t277.desc,Tryz.t277⟩ (.node 276 ⟨Tryz.t276.desc,Tryz.t276⟩ (.node 275 ⟨Tryz.t275.desc,Tryz.t275⟩ .leaf .leaf) .leaf) (.node 278 ⟨Tryz.t278.desc,Tryz.t278⟩ .leaf .leaf)) (.node 283 ⟨Tryz.t283.desc,Tryz.t283⟩ (.node 282 ⟨Tryz.t282.desc,Tryz.t282⟩ (.node 280 ⟨Tryz.t280.desc,Tryz.t280⟩ .leaf .leaf) .leaf) (.node 284 ⟨Tryz.t284.desc,Tryz.t284⟩ .leaf .leaf))) (.node 290 ⟨Tryz.t290.desc,Tryz.t290⟩ (.node 288 ⟨Tryz.t288.desc,Tryz.t288⟩ (.node 287 ⟨Tryz.t287.desc,Tryz.t287⟩ (.node 286 ⟨Tryz.t286.desc,Tryz.t286⟩ .leaf .leaf) .leaf) (.node 289 ⟨Tryz.t289.desc,Tryz.t289⟩ .leaf .leaf)) (.node 292 ⟨Tryz.t292.desc,Tryz.t292⟩ (.node 291 ⟨Tryz.t291.desc,Tryz.t291⟩ .leaf .leaf) (.node 293 ⟨Tryz.t293.desc,Tryz.t293⟩ .leaf .leaf))))) (.node 317 ⟨Tryz.t317.desc,Tryz.t317⟩ (.node 306 ⟨Tryz.t306.desc,Tryz.t306⟩ (.node 300 ⟨Tryz.t300.desc,Tryz.t300⟩ (.node 298 ⟨Tryz.t298.desc,Tryz.t298⟩ (.node 297 ⟨Tryz.t297.desc,Tryz.t297⟩ (.node 296 ⟨Tryz.t296.desc,Tryz.t296⟩ .leaf .leaf) .leaf) (.node 299 ⟨Tryz.t299.desc,Tryz.t299⟩ .leaf .leaf)) (.node 303 ⟨Tryz.t303.desc,Tryz.t303⟩ (.node 302 ⟨Tryz.t302.desc,Tryz.t302⟩ (.node 301 ⟨Tryz.t301.desc,Tryz.t301⟩ .leaf .leaf) .leaf) (.node 304 ⟨Tryz.t304.desc,Tryz.t304⟩ .leaf .leaf))) (.node 311 ⟨Tryz.t311.desc,Tryz.t311⟩ (.node 309 ⟨Tryz.t309.desc,Tryz.t309⟩ (.node 308 ⟨Tryz.t159.desc,Tryz.t308⟩ (.node 307 ⟨Tryz.t307.desc,Tryz.t307⟩ .leaf .leaf) .leaf) (.node 310 ⟨Tryz.t310.desc,Tryz.t310⟩ .leaf .leaf)) (.node 313 ⟨Tryz.t313.desc,Tryz.t313⟩ (.node 312 ⟨Tryz.t312.desc,Tryz.t312⟩ .leaf .leaf) (.node 315 ⟨Tryz.t315.desc,Tryz.t315⟩ .leaf .leaf)))) (.node 327 ⟨Tryz.t5.desc,Tryz.t327⟩ (.node 323 ⟨Tryz.t322.desc,Tryz.t323⟩ (.node 321 ⟨Tryz.t321.desc,Tryz.t321⟩ (.node 320 ⟨Tryz.t320.desc,Tryz.t320⟩ (.node 318 ⟨Tryz.t318.desc,Tryz.t318⟩ .leaf .leaf) .leaf) (.node 322 ⟨Tryz.t322.desc,Tryz.t322⟩ .leaf .leaf)) (.node 325 ⟨Tryz.t325.desc,Tryz.t325⟩ (.node 324 ⟨Tryz.t324.desc,Tryz.t324⟩ .leaf .leaf) (.node 326 ⟨Tryz.t325.desc,Tryz.t326⟩ .leaf .leaf))) (.node 332 ⟨Tryz.t21.desc,Tryz.t332⟩ (.node 330 ⟨Tryz.t330.desc,Tryz.t330⟩ (.node 329 ⟨Tryz.t329.desc,Tryz.t329⟩ (.node 328 ⟨Tryz.t5.desc,Tryz.t328⟩ .leaf .leaf) .leaf) (.node 331 ⟨Tryz.t21.desc,Tryz.t331⟩ .leaf .leaf)) (.node 334 ⟨Tryz.t333.desc,Tryz.t334⟩ (.node 333 ⟨Tryz.t333.desc,Tryz.t333⟩ .leaf .leaf) (.node 335 ⟨Tryz.t335.desc,Tryz.t335⟩ .leaf .leaf))))))))
instance kA:gF Tryz.prog bh:=⟨⟨YK,⟨abv,⟨ab7,⟨acr,⟨acB,⟨aeg,⟨aei,⟨aej,⟨aek,trivial,trivial⟩,trivial⟩,⟨aeh,trivial,trivial⟩⟩,⟨aed,⟨aee,⟨aef,trivial,trivial⟩,trivial⟩,⟨aec,trivial,trivial⟩⟩⟩,⟨acw,⟨acy,⟨acz,⟨acA,trivial,trivial⟩,trivial⟩,⟨acx,trivial,trivial⟩⟩,⟨acu,⟨acv,trivial,trivial⟩,⟨acs,trivial,trivial⟩⟩⟩⟩,⟨acg,⟨acm,⟨aco,⟨acp,⟨acq,trivial,trivial⟩,trivial⟩,⟨acn,trivial,trivial⟩⟩,⟨aci,⟨acj,⟨ack,trivial,trivial⟩,trivial⟩,⟨ach,trivial,trivial⟩⟩⟩,⟨aca,⟨acd,⟨ace,⟨acf,trivial,trivial⟩,trivial⟩,⟨acb,trivial,trivial⟩⟩,⟨ab9,⟨ab',trivial,trivial⟩,⟨ab8,trivial,trivial⟩⟩⟩⟩⟩,⟨abO,⟨abX,⟨ab2,⟨ab4,⟨ab5,⟨ab6,trivial,trivial⟩,trivial⟩,⟨ab3,trivial,trivial⟩⟩,⟨abZ,⟨ab0,⟨ab1,trivial,trivial⟩,trivial⟩,⟨abY,trivial,trivial⟩⟩⟩,⟨abS,⟨abU,⟨abV,⟨abW,trivial,trivial⟩,trivial⟩,⟨abT,trivial,trivial⟩⟩,⟨abQ,⟨abR,trivial,trivial⟩,⟨abP,trivial,trivial⟩⟩⟩⟩,⟨abE,⟨abJ,⟨abL,⟨abM,⟨abN,trivial,trivial⟩,trivial⟩,⟨abK,trivial,trivial⟩⟩,⟨abG,⟨abH,⟨abI,trivial,trivial⟩,trivial⟩,⟨abF,trivial,trivial⟩⟩⟩,⟨abz,⟨abB,⟨abC,⟨abD,trivial,trivial⟩,trivial⟩,⟨abA,trivial,trivial⟩⟩,⟨abx,⟨aby,trivial,trivial⟩,⟨abw,trivial,trivial⟩⟩⟩⟩⟩⟩,⟨Zm,⟨ZF,⟨abk,⟨abp,⟨abr,⟨abt,⟨abu,trivial,trivial⟩,trivial⟩,⟨abq,trivial,trivial⟩⟩,⟨abm,⟨abn,⟨abo,trivial,trivial⟩,trivial⟩,⟨abl,trivial,trivial⟩⟩⟩,⟨ZJ,⟨ZL,⟨abi,⟨abj,trivial,trivial⟩,trivial⟩,⟨ZK,trivial,trivial⟩⟩,⟨ZH,⟨ZI,trivial,trivial⟩,⟨ZG,trivial,trivial⟩⟩⟩⟩,⟨Zv,⟨ZA,⟨ZC,⟨ZD,⟨ZE,trivial,trivial⟩,trivial⟩,⟨ZB,trivial,trivial⟩⟩,⟨Zx,⟨Zy,⟨Zz,trivial,trivial⟩,trivial⟩,⟨Zw,trivial,trivial⟩⟩⟩,⟨Zq,⟨Zs,⟨Zt,⟨Zu,trivial,trivial⟩,trivial⟩,⟨Zr,trivial,trivial⟩⟩,⟨Zo,⟨Zp,trivial,trivial⟩,⟨Zn,trivial,trivial⟩⟩⟩⟩⟩,⟨Y4,⟨Zc,⟨Zh,⟨Zj,⟨Zk,⟨Zl,trivial,trivial⟩,trivial⟩,⟨Zi,trivial,trivial⟩⟩,⟨Ze,⟨Zf,⟨Zg,trivial,trivial⟩,trivial⟩,⟨Zd,trivial,trivial⟩⟩⟩,⟨Y8,⟨Y',⟨Za,⟨Zb,trivial,trivial⟩,trivial⟩,⟨Y9,trivial,trivial⟩⟩,⟨Y6,⟨Y7,trivial,trivial⟩,⟨Y5,trivial,trivial⟩⟩⟩⟩,⟨YT,⟨YY,⟨Y0,⟨Y1,⟨Y3,trivial,trivial⟩,trivial⟩,⟨YZ,trivial,trivial⟩⟩,⟨YV,⟨YW,⟨YX,trivial,trivial⟩,trivial⟩,⟨YU,trivial,trivial⟩⟩⟩,⟨YO,⟨YQ,⟨YR,⟨YS,trivial,trivial⟩,trivial⟩,⟨YP,trivial,trivial⟩⟩,⟨YM,⟨YN,trivial,trivial⟩,⟨YL,trivial,trivial⟩⟩⟩⟩⟩⟩⟩,⟨Xw,⟨X8,⟨Yq,⟨YA,⟨YF,⟨YH,⟨YI,⟨YJ,trivial,trivial⟩,trivial⟩,⟨YG,trivial,trivial⟩⟩,⟨YC,⟨YD,⟨YE,trivial,trivial⟩,trivial⟩,⟨YB,trivial,trivial⟩⟩⟩,⟨Yv,⟨Yx,⟨Yy,⟨Yz,trivial,trivial⟩,trivial⟩,⟨Yw,trivial,trivial⟩⟩,⟨Yt,⟨Yu,trivial,trivial⟩,⟨Yr,trivial,trivial⟩⟩⟩⟩,⟨Yg,⟨Yl,⟨Yn,⟨Yo,⟨Yp,trivial,trivial⟩,trivial⟩,⟨Ym,trivial,trivial⟩⟩,⟨Yi,⟨Yj,⟨Yk,trivial,trivial⟩,trivial⟩,⟨Yh,trivial,trivial⟩⟩⟩,⟨Yb,⟨Yd,⟨Ye,⟨Yf,trivial,trivial⟩,trivial⟩,⟨Yc,trivial,trivial⟩⟩,⟨X',⟨Ya,trivial,trivial⟩,⟨X9,trivial,trivial⟩⟩⟩⟩⟩,⟨XP,⟨XY,⟨X3,⟨X5,⟨X6,⟨X7,trivial,trivial⟩,trivial⟩,⟨X4,trivial,trivial⟩⟩,⟨X0,⟨X1,⟨X2,trivial,trivial⟩,trivial⟩,⟨XZ,trivial,trivial⟩⟩⟩,⟨XT,⟨XV,⟨XW,⟨XX,trivial,trivial⟩,trivial⟩,⟨XU,trivial,trivial⟩⟩,⟨XR,⟨XS,trivial,trivial⟩,⟨XQ,trivial,trivial⟩⟩⟩⟩,⟨XF,⟨XK,⟨XM,⟨XN,⟨XO,trivial,trivial⟩,trivial⟩,⟨XL,trivial,trivial⟩⟩,⟨XH,⟨XI,⟨XJ,trivial,trivial⟩,trivial⟩,⟨XG,trivial,trivial⟩⟩⟩,⟨XA,⟨XC,⟨XD,⟨XE,trivial,trivial⟩,trivial⟩,⟨XB,trivial,trivial⟩⟩,⟨Xy,⟨Xz,trivial,trivial⟩,⟨Xx,trivial,trivial⟩⟩⟩⟩⟩⟩,⟨WT,⟨Xc,⟨Xl,⟨Xq,⟨Xt,⟨Xu,⟨Xv,trivial,trivial⟩,trivial⟩,⟨Xr,trivial,trivial⟩⟩,⟨Xn,⟨Xo,⟨Xp,trivial,trivial⟩,trivial⟩,⟨Xm,trivial,trivial⟩⟩⟩,⟨Xg,⟨Xi,⟨Xj,⟨Xk,trivial,trivial⟩,trivial⟩,⟨Xh,trivial,trivial⟩⟩,⟨Xe,⟨Xf,trivial,trivial⟩,⟨Xd,trivial,trivial⟩⟩⟩⟩,⟨W2,⟨W7,⟨W9,⟨Xa,⟨Xb,trivial,trivial⟩,trivial⟩,⟨W8,trivial,trivial⟩⟩,⟨W4,⟨W5,⟨W6,trivial,trivial⟩,trivial⟩,⟨W3,trivial,trivial⟩⟩⟩,⟨WX,⟨WZ,⟨W0,⟨W1,trivial,trivial⟩,trivial⟩,⟨WY,trivial,trivial⟩⟩,⟨WV,⟨WW,trivial,trivial⟩,⟨WU,trivial,trivial⟩⟩⟩⟩⟩,⟨Wy,⟨WI,⟨WN,⟨WQ,⟨WR,⟨WS,trivial,trivial⟩,trivial⟩,⟨WO,trivial,trivial⟩⟩,⟨WK,⟨WL,⟨WM,trivial,trivial⟩,trivial⟩,⟨WJ,trivial,trivial⟩⟩⟩,⟨WC,⟨WE,⟨WG,⟨WH,trivial,trivial⟩,trivial⟩,⟨WD,trivial,trivial⟩⟩,⟨WA,⟨WB,trivial,trivial⟩,⟨Wz,trivial,trivial⟩⟩⟩⟩,⟨Wp,⟨Wt,⟨Wv,⟨Ww,⟨Wx,trivial,trivial⟩,trivial⟩,⟨Wu,trivial,trivial⟩⟩,⟨Wr,⟨Ws,trivial,trivial⟩,⟨Wq,trivial,trivial⟩⟩⟩,⟨Wk,⟨Wm,⟨Wn,⟨Wo,trivial,trivial⟩,trivial⟩,⟨Wl,trivial,trivial⟩⟩,⟨Wi,⟨Wj,trivial,trivial⟩,⟨Wh,trivial,trivial⟩⟩⟩⟩⟩⟩⟩⟩⟩
def mixed:Tryz.prog.follows .mixedOrders=true:=by kernel_rfl
def go{A B:Prop}(a:A)(h:abb A→B:=by(intro h;(repeat'(first|refine IA (U:=bh) rfl ?_|(refine Ms ?_;first|refine w5 zr zr zr zr ?_|refine w6 zr zr zr zr zr zr zr ?_|refine w4 zr zr zr zr zr zr ?_|refine tI zr zr zr zr zr zr ?_)|(refine aY ?_;first|refine fF (U:=bh) 0 zr zr zr zr zr zr ?_|refine fF (U:=bh) 1 zr zr zr zr zr zr ?_|refine fF (U:=bh) 2 zr zr zr zr zr zr ?_|refine fF (U:=bh) 3 zr zr zr zr zr zr ?_|refine fF (U:=bh) 4 zr zr zr zr zr zr ?_|refine fF (U:=bh) 5 zr zr zr zr zr zr ?_|refine iA (U:=bh) 0 zr zr zr zr zr zr ?_|refine iA (U:=bh) 1 zr zr zr zr zr zr ?_|refine iA (U:=bh) 2 zr zr zr zr zr zr ?_)|(refine wZ ?_;first|refine zT zr zr zr ?_|refine zU zr zr zr ?_)|(refine tH ?_;first|refine Mv zr zr zr (by simp only[js];omega) ?_|refine FG zr zr zr (by simp only[js];omega) ?_)|(refine jI ?_;refine B5 (U:=bh) zr zr zr zr zr zr (by simp only[js];omega) ?_)|(refine bE ?_;first|refine fX (U:=bh) 0 eH zr zr zr zr zr zr zr zr zr ?_|refine fX (U:=bh) 1 eH zr zr zr zr zr zr zr zr zr ?_|refine fX (U:=bh) 2 eH zr zr zr zr zr zr zr zr zr ?_|refine fX (U:=bh) 3 eH zr zr zr zr zr zr zr zr zr ?_)|refine Iz ?_|refine aP rfl ?_|refine FD zr zr ?_|refine FE zr zr ?_));exact h.out)):B:=h ⟨a⟩
def g9{A B:Prop}(a:A)(h:abb A→B:=by(intro h;(first|refine IA (U:=bh) rfl ?_|(refine Ms ?_;first|refine w5 zr zr zr zr ?_|refine w6 zr zr zr zr zr zr zr ?_|refine w4 zr zr zr zr zr zr ?_|refine tI zr zr zr zr zr zr ?_)|(refine aY ?_;first|refine fF (U:=bh) 0 zr zr zr zr zr zr ?_|refine fF (U:=bh) 1 zr zr zr zr zr zr ?_|refine fF (U:=bh) 2 zr zr zr zr zr zr ?_|refine fF (U:=bh) 3 zr zr zr zr zr zr ?_|refine fF (U:=bh) 4 zr zr zr zr zr zr ?_|refine fF (U:=bh) 5 zr zr zr zr zr zr ?_|refine iA (U:=bh) 0 zr zr zr zr zr zr ?_|refine iA (U:=bh) 1 zr zr zr zr zr zr ?_|refine iA (U:=bh) 2 zr zr zr zr zr zr ?_)|(refine wZ ?_;first|refine zT zr zr zr ?_|refine zU zr zr zr ?_)|(refine tH ?_;first|refine Mv zr zr zr (by simp only[js];omega) ?_|refine FG zr zr zr (by simp only[js];omega) ?_)|(refine jI ?_;refine B5 (U:=bh) zr zr zr zr zr zr (by simp only[js];omega) ?_)|(refine bE ?_;first|refine fX (U:=bh) 0 eH zr zr zr zr zr zr zr zr zr ?_|refine fX (U:=bh) 1 eH zr zr zr zr zr zr zr zr zr ?_|refine fX (U:=bh) 2 eH zr zr zr zr zr zr zr zr zr ?_|refine fX (U:=bh) 3 eH zr zr zr zr zr zr zr zr zr ?_)|refine Iz ?_|refine aP rfl ?_|refine FD zr zr ?_|refine FE zr zr ?_);(repeat'(first|refine IA (U:=bh) rfl ?_|(refine Ms ?_;first|refine w5 zr zr zr zr ?_|refine w6 zr zr zr zr zr zr zr ?_|refine w4 zr zr zr zr zr zr ?_|refine tI zr zr zr zr zr zr ?_)|(refine aY ?_;first|refine fF (U:=bh) 0 zr zr zr zr zr zr ?_|refine fF (U:=bh) 1 zr zr zr zr zr zr ?_|refine fF (U:=bh) 2 zr zr zr zr zr zr ?_|refine fF (U:=bh) 3 zr zr zr zr zr zr ?_|refine fF (U:=bh) 4 zr zr zr zr zr zr ?_|refine fF (U:=bh) 5 zr zr zr zr zr zr ?_|refine iA (U:=bh) 0 zr zr zr zr zr zr ?_|refine iA (U:=bh) 1 zr zr zr zr zr zr ?_|refine iA (U:=bh) 2 zr zr zr zr zr zr ?_)|(refine wZ ?_;first|refine zT zr zr zr ?_|refine zU zr zr zr ?_)|(refine tH ?_;first|refine Mv zr zr zr (by simp only[js];omega) ?_|refine FG zr zr zr (by simp only[js];omega) ?_)|(refine jI ?_;refine B5 (U:=bh) zr zr zr zr zr zr (by simp only[js];omega) ?_)|(refine bE ?_;first|refine fX (U:=bh) 0 eH zr zr zr zr zr zr zr zr zr ?_|refine fX (U:=bh) 1 eH zr zr zr zr zr zr zr zr zr ?_|refine fX (U:=bh) 2 eH zr zr zr zr zr zr zr zr zr ?_|refine fX (U:=bh) 3 eH zr zr zr zr zr zr zr zr zr ?_)|refine Iz ?_|refine aP rfl ?_|refine FD zr zr ?_|refine FE zr zr ?_));exact h.out)):B:=h ⟨a⟩
def zt{A B:Prop}(a:A)(h:abb A→B:=by(intro h;(repeat'(first|refine IA (U:=bh) rfl ?_|(refine Ms ?_;first|refine w5 zr zr zr zr ?_|refine w6 zr zr zr zr zr zr zr ?_|refine w4 zr zr zr zr zr zr ?_|refine tI zr zr zr zr zr zr ?_)|(refine aY ?_;first|refine fF (U:=bh) 0 zr zr zr zr zr zr ?_|refine fF (U:=bh) 1 zr zr zr zr zr zr ?_|refine fF (U:=bh) 2 zr zr zr zr zr zr ?_|refine fF (U:=bh) 3 zr zr zr zr zr zr ?_|refine fF (U:=bh) 4 zr zr zr zr zr zr ?_|refine fF (U:=bh) 5 zr zr zr zr zr zr ?_|refine iA (U:=bh) 0 zr zr zr zr zr zr ?_|refine iA (U:=bh) 1 zr zr zr zr zr zr ?_|refine iA (U:=bh) 2 zr zr zr zr zr zr ?_)|(refine wZ ?_;first|refine zT zr zr zr ?_|refine zU zr zr zr ?_)|(refine tH ?_;first|refine Mv zr zr zr (by simp only[js];omega) ?_|refine FG zr zr zr (by simp only[js];omega) ?_)|(refine jI ?_;refine B5 (U:=bh) zr zr zr zr zr zr (by simp only[js];omega) ?_)|(refine bE ?_;first|refine fX (U:=bh) 0 eH zr zr zr zr zr zr zr zr zr ?_|refine fX (U:=bh) 1 eH zr zr zr zr zr zr zr zr zr ?_|refine fX (U:=bh) 2 eH zr zr zr zr zr zr zr zr zr ?_|refine fX (U:=bh) 3 eH zr zr zr zr zr zr zr zr zr ?_)|refine Iz ?_));exact h.out)):B:=h ⟨a⟩
def bW := @ad7 Tryz.prog bh kA
def aZ := @Sw Tryz.prog bh kA
def az := @CC Tryz.prog bh kA
def bg := @SB Tryz.prog bh kA
def cu := @ad8 Tryz.prog bh kA
def aU := @KV Tryz.prog bh kA
def sF := @aa' Tryz.prog bh kA
def cQ := @OK Tryz.prog bh kA
def aD := @fX Tryz.prog bh kA
def aL := @Vf Tryz.prog bh kA
def lB := @Mu Tryz.prog bh kA
def mS := @Va Tryz.prog bh kA
def nH := @Sy Tryz.prog bh kA
def jH := @Ix Tryz.prog bh kA
def mT := @FK Tryz.prog bh kA
def ct := @OL Tryz.prog bh kA
def jg := @B0 Tryz.prog bh kA
def pK := @U' Tryz.prog bh kA
def mU := @iA Tryz.prog bh kA
end Go.Proofs.YtlionahpheehaaaGreatDoor
namespace Go.Proofs.YtlionahpheehaaaGreatDoor
open Go Go.SL
def wJ(x y:Int):Int:=if x<y then -1 else if y<x then 1 else 0
def Z6(l:List Int):∀v∈iV l,v.oneCell'=true:=by
 intro v hv
 obtain⟨x,_,rfl⟩:=List.mem_map.1 hv
 rfl
attribute [local irreducible] J K aH Ends ak aK aV bX bj aS bp bD cp
def tn(x:Int):aH Tryz.prog 206 [.int .i64 x] [] (fun r H=>r = .bool false∧H=[]):=by
 refine aH.aC Tryz.func206 Tryz.ntmps206 fun G F R hE=>?_
 refine go ?_
 refine aE 2 ((.bool false)) rfl ((by simp)) ?_
 refine ah hE Tryz.func206 zr zr ⟨rfl,rfl⟩
def zj(x y:Int):aH Tryz.prog 144 [.int .i64 x,.int .i64 y] [] (fun r H=>r = .int .i64 (wJ x y)∧H=[]):=by
 refine aH.aC Tryz.func144 Tryz.ntmps144 fun G F R hE=>?_
 refine go ?_
 refine aeb (tn x) ?_
 refine go ?_
 refine aeb (tn y) ?_
 refine go ?_
 refine aB zr zr ?_ ?_
 ·intro h
  refine go ?_
  ((refine ah hE Tryz.func144 zr zr ⟨by rw[wJ,if_pos h];rfl,rfl⟩))
 intro h
 refine go ?_
 refine aB zr zr ?_ ?_
 ·intro h2
  refine go ?_
  ((refine ah hE Tryz.func144 zr zr ⟨by rw[wJ,if_neg h,if_pos h2];rfl,rfl⟩))
 intro h2
 refine go ?_
 ((refine ah hE Tryz.func144 zr zr ⟨by rw[wJ,if_neg h,if_neg h2];rfl,rfl⟩))
def v8{α:Type}(p:α→Bool)(l:List α):decide (0≤jt p l)=l.any p:=by
 rw[show decide (0≤jt p l)=decide (¬jt p l<0)from by rw[decide_eq_decide];omega]
 rw[Bool.eq_iff_iff,decide_eq_true_iff,nk (p:=p) (l:=l),Bool.not_eq_false]
def LK(t:Int)(l:List Int):decide (0≤jt (fun x=>decide (x=t)) l)=decide (t∈l):=by
 rw[v8,Bool.eq_iff_iff,decide_eq_true_iff,List.any_eq_true]
 constructor
 ·rintro⟨x,hx,h⟩;have:=of_decide_eq_true h;subst this;exact hx
 ·intro h;exact⟨t,h,decide_eq_true rfl⟩
def B8(A:HP)(v:Value)(l:List Int)(t:Int)(hv:Vw A v l.length (iV l))(hlen:l.length≤1000000000) :
  aH Tryz.prog 199 [v,.int .i64 t] [A] (fun r H=>r = .int .i64 (jt (fun x=>decide (x=t)) l)∧H=[A]):=by
 obtain⟨a,c0,rfl⟩:=hv.shape
 refine aH.aC Tryz.func199 Tryz.ntmps199 fun G F R hE=>?_
 refine go ?_
 refine bF (fun i:Nat=>i≤l.length∧∀y∈l.take i,decide (y=t)=false) (fun i=>l.length-i) (fun i=>[(0,.slice a l.length c0),(1,.int .i64 t),(7,.int .i64 l.length),(8,.int .i64 i)]) (fun _=>A::F) 0 ⟨by simp,by simp⟩ rfl cF ad ?_
 rintro i⟨hi,hb⟩ ih
 refine go ?_
 refine aB zr zr ?_ ?_
 ·intro dk
  have e9:i<l.length:=by omega
  obtain⟨x,hx⟩:∃x,l[i]?=some x:=⟨l[i],by simp[e9]⟩
  obtain⟨b,o,c',he⟩:=hv.some (ine e9)
  simp only[Value.slice.injEq,true_and]at he
  obtain⟨rfl,rfl⟩:=he
  refine go ?_
  refine bW i zr zr zr zr zr zr zr zr e9 ?_
  refine aZ 0 i zr zr zr hv rfl (Ba hx) zr zr (go ?_)
  refine aB zr zr ?_ ?_
  ·intro h
   refine go ?_
   ((refine ah hE Tryz.func199 zr zr ⟨by rw[iY hx (decide_eq_true h.symm) hb];rfl,rfl⟩))
  intro h
  refine go ?_
  refine aQ ih (i+1) rfl (⟨aj,n8 hb hx (decide_eq_false fun e=>h e.symm)⟩) aj cF ad
 intro fO
 refine go ?_
 have:i=l.length:=by omega
 subst this
 ((refine ah hE Tryz.func199 zr zr ⟨by rw[j9 (fun x hx=>hb x (by simpa using hx))];rfl,rfl⟩))
def uD(A:HP)(v:Value)(l:List Int)(t:Int)(hv:Vw A v l.length (iV l))(hlen:l.length≤1000000000) :
  aH Tryz.prog 135 [v,.int .i64 t] [A] (fun r H=>r = .bool (decide (t∈l))∧H=[A]):=by
 refine aH.aC Tryz.func135 Tryz.ntmps135 fun G F R hE=>?_
 refine go ?_
 refine aeb (B8 A v l t hv hlen) ?_
 refine go ?_
 refine aE 4 ((.bool (decide (t∈l)))) rfl ((congrArg Value.bool (LK t l))) ?_
 refine ah hE Tryz.func135 zr zr ⟨rfl,rfl⟩
def uB(A X:HP)(v:Value)(l:List Int)(hv:Vw A v l.length (iV l))(hlen:l.length≤1000000000)(g:FuncId)(cap:List Value)(p:Int→Bool)(hf:∀x∈l,aH Tryz.prog g (.int .i64 x::cap) [X] (fun v H=>v = .bool (p x)∧H=[X])) :
  aH Tryz.prog 236 [v,.func (.func g) #[] cap.toArray] [A,X] (fun r H=>r = .int .i64 (jt p l)∧H=[A,X]):=by
 obtain⟨a,c0,rfl⟩:=hv.shape
 refine aH.enter Tryz.func236 aw rfl Tryz.ntmps236 zr zr ?_
 intro G F R hR
 refine go ?_
 refine bF (fun i:Nat=>i≤l.length∧∀y∈l.take i,p y=false) (fun i=>l.length-i) (fun i=>[(0,.slice a l.length c0),(1,.func (.func g) #[] cap.toArray),(7,.int .i64 l.length),(8,.int .i64 i)]) (fun _=>[A,X]++F) 0 ⟨by simp,by simp⟩ rfl cF (aq.refl _) ?_
 rintro i⟨hi,hb⟩ ih
 refine go ?_
 refine aB zr zr ?_ ?_
 ·intro dk
  refine go ?_
  have e9:i<l.length:=by omega
  have hx:l[i]?=some l[i]:=by simp[e9]
  generalize hxx:l[i]=x at hx
  obtain⟨b,o,gV,ez⟩:=hv.some (ine e9)
  simp only[Value.slice.injEq]at ez
  obtain⟨rfl,_,rfl⟩:=ez
  refine bW i zr zr zr zr zr zr zr zr e9 ?_
  refine aZ 0 i zr zr zr hv rfl (Ba hx) zr zr ?_
  refine bM [1] zr zr zr zr (hf x (List.mem_of_getElem? hx)) rfl bI ?_
  rintro _ _⟨rfl,rfl⟩
  refine go ?_
  refine eX zr zr ?_ ?_
  ·intro hp
   refine go ?_
   refine aG hR Tryz.func236 rfl _ rfl ⟨by rw[iY hx hp hb];rfl,rfl⟩ (aq.fin [1,0] 0 zr zr)
  ·intro hp
   refine go ?_
   refine aQ ih (i+1) rfl ⟨aj,n8 hb hx hp⟩ aj cF (aq.pick [1,0] rfl)
 ·intro fO
  refine go ?_
  have:i=l.length:=by omega
  subst this
  refine aG hR Tryz.func236 rfl _ rfl ⟨by rw[j9 (fun x hx=>hb x (by simpa using hx))];rfl,rfl⟩ (aq.fin [0,1] 0 zr zr)
def pN(A X:HP)(v:Value)(l:List Int)(hv:Vw A v l.length (iV l))(hlen:l.length≤1000000000)(g:FuncId)(cap:List Value)(p:Int→Bool)(hf:∀x∈l,aH Tryz.prog g (.int .i64 x::cap) [X] (fun v H=>v = .bool (p x)∧H=[X])) :
  aH Tryz.prog 203 [v,.func (.func g) #[] cap.toArray] [A,X] (fun r H=>r = .bool (l.any p)∧H=[A,X]):=by
 refine aH.aC Tryz.func203 Tryz.ntmps203 fun G F R hE=>?_
 refine go ?_
 refine aeb (uB A X v l hv hlen g cap p hf) ?_
 refine go ?_
 refine aE 4 ((.bool (l.any p))) rfl ((congrArg Value.bool (v8 p l))) ?_
 refine ah hE Tryz.func203 zr zr ⟨rfl,rfl⟩
def SE(g:FuncId)(cap:List Value)(N:Nat)(Pre Post:List HP)(Q:List Int→Prop):Prop :=
 ∀(l:Nat) (Lp:HP) (Inv:List Int→HP),(∀done x,done.length<N→cp Tryz.prog l [.int .i64 x] [Lp,Inv done] (fun v H=>v = .bool true∧H=[Lp,Inv (done++[x])])) →
  aH Tryz.prog g (.func (.yield l) #[] #[]::cap) (Lp::Inv []::Pre) (fun _ H=>∃xs,Q xs∧H=Lp::Inv xs::Post)
def II(bs:Nat)(ks:List Int):HP:=fun h=>∃v:Value,True∧Sep [ak bs (cl [v] 52),aK 3 1 v ks.length (iV ks)] h
def Mw(bs:Nat)(ks:List Int):∀h,II bs ks h→∃v,True∧Sep [ak bs (cl [v] 52),aK 3 1 v ks.length (iV ks)] h:=fun h hs=>hs
def IB(bs:Nat)(ks:List Int)(v:Value)(H:List HP):aq (ak bs (cl [v] 52)::aK 3 1 v ks.length (iV ks)::H) (II bs ks::H) :=
 aq.fold (A:=II bs ks) (B:=[ak bs (cl [v] 52),aK 3 1 v ks.length (iV ks)]) fun h hs=>⟨h,sub.refl h,v,trivial,hs⟩
attribute [local irreducible] II
def sH(g:FuncId)(cap:List Value)(N:Nat)(Pre Post:List HP)(Q:List Int→Prop)(hN:N≤1000000000)(hi:SE g cap N Pre Post Q) :
  aH Tryz.prog 211 [.slice none 0 0,.func (.func g) #[] cap.toArray] Pre (fun r H=>∃xs,Q xs∧H=aK 3 1 r xs.length (iV xs)::Post):=by
 refine aH.aC Tryz.func211 Tryz.ntmps211 fun G F R hE=>?_
 refine aP rfl ?_
 refine bJ zr zr bO ?_
 intro bs
 refine go ?_
 refine jw rfl ?_
 refine al (aq.trans (aq.cons _ (bS 3 1 none _)) (IB bs [] (.slice none 0 0) _)) ?_
 refine wW (Fr:=F) (Pre:=fun _ _=>II bs []::Pre) (Post:=?Po) rfl hE.1.1 rfl ?c (fun l r=>aq.refl _) ?eA
 case c =>
  intro l r
  refine hi l _ (fun dn=>II bs dn) ?_
  intro dn k dk
  refine cp.Cr zr zr ?_
  intro G2 F2 R2 hY
  refine go ?_
  refine eY rfl hY ?_
  refine al (aq.pick [1] rfl) ?_
  refine dZ (Mw bs dn) ?_
  rintro v -
  refine aM 1 rfl ?_
  rintro va vc rfl
  refine go ?_
  refine az (cs:=iV [k]) zr zr zr zr zr zr zr zr zr bO ?_
  intro row
  refine go ?_
  refine bg (mm:=1) (news:=iV [k]) 2 0 zr zr zr zr zr zr zr zr zr zr zr zr (Vw.ak rfl) rfl (Z6 _) aj (by show(_+1)*8≤_;omega) (fun _=>rfl) bO ?_
  intro v1
  rw[show iV dn++iV [k]=iV (dn++[k])from by simp[iV],show dn.length+1=(dn++[k]).length from by simp]
  refine aN 2 rfl ?_
  rintro va2 vc2 rfl
  refine go ?_
  refine al (aq.trans ad (IB bs (dn++[k]) (.slice va2 (dn++[k]).length vc2) _)) ?_
  refine eF hY rfl ad ⟨rfl,rfl⟩
 intro l r v H dQ
 obtain⟨xs,hq,rfl⟩:=dQ
 refine⟨_,_,_,rfl,by decide,?_⟩
 rw[hE.1.2]
 refine dZ (Mw bs xs) ?_
 rintro w -
 refine go ?_
 refine pI hE Tryz.func211 rfl _ rfl ⟨xs,hq,rfl⟩ ?_
 exact(aq.drop _ _).trans (aq.perm (((List.perm_middle (a:=ak r (.deferred (some []))) (l₁:=Post) (l₂:=F)).cons _).trans (List.Perm.swap _ _ _)))
def ji(g:FuncId)(cap:List Value)(N:Nat)(Pre Post:List HP)(Q:List Int→Prop)(hN:N≤1000000000)(hi:SE g cap N Pre Post Q) :
  aH Tryz.prog 147 [.func (.func g) #[] cap.toArray] Pre (fun r H=>∃xs,Q xs∧H=aK 3 1 r xs.length (iV xs)::Post):=by
 refine aH.aC Tryz.func147 Tryz.ntmps147 fun G F R hE=>?_
 refine go ?_
 refine ao (sH g cap N Pre Post Q hN hi) ?_
 rintro w _⟨xs,hq,rfl⟩
 refine go ?_
 refine ah hE Tryz.func147 zr zr ⟨xs,hq,rfl⟩
end Go.Proofs.YtlionahpheehaaaGreatDoor
