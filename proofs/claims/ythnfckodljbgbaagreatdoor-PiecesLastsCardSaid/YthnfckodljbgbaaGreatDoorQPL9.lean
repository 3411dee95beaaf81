import Derived.Test.YthnfckodljbgbaaGreatDoorQPL2
import Derived.Test.YthnfckodljbgbaaGreatDoorQPL3
import Derived.Test.YthnfckodljbgbaaGreatDoorQPL4
import Derived.Test.YthnfckodljbgbaaGreatDoorQPL5
import Derived.Test.YthnfckodljbgbaaGreatDoorQPL6
import Derived.Test.YthnfckodljbgbaaGreatDoorQPL8
set_option linter.unusedSectionVars false
set_option linter.unusedSimpArgs false
set_option linter.unusedVariables false
set_option maxRecDepth 20000
set_option linter.defProp false
namespace Go.Proofs.YthnfckodljbgbaaGreatDoor
open Go Go.SL
variable{A B:Ab}{a nm o:ByteArray}{j k:List Dg}{fs:List Nat}{b:List UInt8}{P:List UInt8→Prop}{at_ e f:Nat}
structure r'(A B:Ab):Prop where
 names:B.names=A.names
 aj:B.aj=A.aj
 fs:B.fs=A.fs
 writes:B.writes=A.writes
 room:B.room=A.room
theorem r'.refl(A:Ab):r' A A:=⟨rfl,rfl,rfl,rfl,rfl⟩
def qy(A:Ab)(ok:Bool):r' A (A.meet ok).2:=by
 unfold Ab.meet
 split
 ·exact r'.refl A
 split
 ·exact r'.refl A
 split
 ·exact r'.refl A
 split
 ·exact⟨rfl,rfl,rfl,rfl,rfl⟩
 split <;> exact⟨rfl,rfl,rfl,rfl,rfl⟩
theorem qJ(A:Ab)(nm:ByteArray)(ok:Bool):r' A (A.find nm ok).2.2∧((A.find nm ok).1=0→∃f,A.look nm=some f∧(A.find nm ok).2.1=some f):=by
 have hm:=qy A ok
 unfold Ab.find
 split
 ·have hl:(A.meet ok).2.look nm=A.look nm:=by unfold Ab.look;rw[hm.names]
  grind
 grind
theorem Tn{ok:Bool}(h:(A.meet ok).1=0):(A.meet ok).2.off=false∧A.off=false:=by
 unfold Ab.meet at h ⊢
 grind
theorem Uo{ok:Bool}(h:(A.find nm ok).1=0):(A.find nm ok).2.2.off=false:=by
 unfold Ab.find at h ⊢
 grind [Tn]
theorem u7(h:gm nm A e B):(e≠0∧r' A B)∨(e=0∧A.look nm=none∧∃f,f ∉ A.fs.map (·.1)∧B.names=A.names++[(nm,f)]∧B.aj=A.aj++[A.names++[(nm,f)]]∧B.fs=(f,[],[])::A.fs∧B.writes=A.writes):=by
 obtain⟨f,hf,hc⟩:=h
 have hm:=qy A (isName nm)
 unfold Ab.create at hc
 have hl:(A.meet (isName nm)).2.look nm=A.look nm:=by unfold Ab.look;rw[hm.names]
 split at hc
 ·split at hc
  ·grind
  split at hc
  ·grind
  ·rename_i h1 h2 h3
   injection hc with h4 h5
   subst h4 h5
   refine .inr ⟨rfl,?_,f,hf,by simp[Ab.n7,hm.names],by simp[Ab.n7,hm.names,hm.aj],by simp[hm.fs],hm.writes⟩
   simp_all
 grind
theorem Dh(h:gL nm A e B):(e≠0∧r' A B)∨(e=0∧(∃f,A.look nm=some f)∧B.names=Ab.ef A.names nm∧B.aj=A.aj++[Ab.ef A.names nm]∧B.fs=A.fs∧B.writes=A.writes∧B.off=false):=by
 have hf:=qJ A nm (isName nm)
 have hon := @Uo A nm (isName nm)
 unfold gL Ab.remove at h
 generalize hx:A.find nm (isName nm)=r at h hf hon
 obtain⟨e1,o,A1⟩:=r
 obtain⟨hq,hs⟩:=hf
 simp only at hq hs h hon
 by_cases h0:e1=0
 ·subst h0
  obtain⟨f,h1,rfl⟩:=hs rfl
  simp only at h
  injection h with h2 h3
  subst h2 h3
  exact .inr ⟨rfl,⟨f,h1⟩,by simp[Ab.n7,hq.names],by simp[Ab.n7,hq.names,hq.aj],hq.fs,hq.writes,hon rfl⟩
 grind
theorem uo(h:iN o nm A e B):(e≠0∧r' A B)∨(e=0∧∃f,A.look o=some f∧B.names=Ab.jT (Ab.ef A.names o) nm f∧B.aj=A.aj++[Ab.jT (Ab.ef A.names o) nm f]∧B.fs=A.fs∧B.writes=A.writes):=by
 have hf:=qJ A o ([o,nm].all isName)
 unfold iN Ab.rename at h
 generalize hx:A.find o ([o,nm].all isName)=r at h hf
 obtain⟨e1,oo,A1⟩:=r
 obtain⟨hq,hs⟩:=hf
 simp only at hq hs h
 by_cases h0:e1=0
 ·subst h0
  obtain⟨f,h1,rfl⟩:=hs rfl
  simp only at h
  injection h with h2 h3
  subst h2 h3
  exact .inr ⟨rfl,f,h1,by simp[Ab.n7,hq.names],by simp[Ab.n7,hq.names,hq.aj],hq.fs,hq.writes⟩
 grind
theorem xk(h:fh nm at_ b A e B):(e≠0∧r' A B)∨(e=0∧∃f,A.look nm=some f∧B.names=A.names∧B.aj=A.aj∧B.fs=Ab.BI A.fs f (bJ (A.now f) at_ b)∧B.writes=A.writes++[(f,at_,b)]):=by
 have hf:=qJ A nm (fK nm at_ b)
 unfold fh Ab.write at h
 generalize hx:A.find nm (fK nm at_ b)=r at h hf
 obtain⟨e1,oo,A1⟩:=r
 obtain⟨hq,hs⟩:=hf
 simp only at hq hs h
 by_cases h0:e1=0
 ·subst h0
  obtain⟨f,h1,rfl⟩:=hs rfl
  rw[if_pos rfl]at h
  simp only at h
  split at h
  ·grind
  ·injection h with h2 h3
   subst h2 h3
   have hn:A1.now f=A.now f:=by unfold Ab.now Ab.file;rw[hq.fs]
   exact .inr ⟨rfl,f,h1,hq.names,hq.aj,by simp only;rw[hq.fs,hn],by simp only;rw[hq.writes]⟩
 grind
theorem yT(h:fR nm A e B):(e≠0∧r' A B)∨(e=0∧∃f,A.look nm=some f∧B.names=A.names∧B.aj=A.aj∧B.fs=Ab.nV A.fs f∧B.writes=A.writes.filter fun x => !decide (x.1=f)):=by
 have hf:=qJ A nm (isName nm)
 unfold fR Ab.sync at h
 generalize hx:A.find nm (isName nm)=r at h hf
 obtain⟨e1,oo,A1⟩:=r
 obtain⟨hq,hs⟩:=hf
 simp only at hq hs h
 by_cases h0:e1=0
 ·subst h0
  obtain⟨f,h1,rfl⟩:=hs rfl
  rw[if_pos rfl]at h
  simp only at h
  injection h with h2 h3
  subst h2 h3
  exact .inr ⟨rfl,f,h1,hq.names,hq.aj,by simp only;rw[hq.fs],by simp only;rw[hq.writes]⟩
 grind
theorem lU(h:cP A e B):(e≠0∧r' A B)∨(e=0∧B.names=A.names∧B.aj=[A.names]∧B.fs=A.fs∧B.writes=A.writes):=by
 have hm:=qy A true
 unfold cP Ab.cp at h
 split at h
 ·injection h with h1 h2
  subst h1 h2
  exact .inr ⟨rfl,hm.names,by simp[hm.names],hm.fs,hm.writes⟩
 grind
abbrev Og:=List (ByteArray × Nat)
theorem tq(l:Og)(k nm:ByteArray)(f:Nat):Ab.bC (l++[(k,f)]) nm=(Ab.bC l nm).or (if nm=k then some f else none):=by
 unfold Ab.bC
 grind
theorem I1(l:Og)(k nm:ByteArray)(f:Nat):Ab.bC (Ab.jT l k f) nm=if nm=k then some f else Ab.bC l nm:=by
 unfold Ab.jT
 split
 ·rename_i h
  unfold Ab.bC at h ⊢
  rw[List.find?_map]
  have hf:((fun x:ByteArray × Nat=>decide (x.1=nm)) ∘ fun x:ByteArray × Nat=>if x.1=k then(k,f)else x)=fun x=>decide (x.1=nm):=by
   grind
  rw[hf]
  by_cases hn:nm=k
  ·subst hn
   rw[if_pos rfl]
   cases hx:l.find? (fun x=>decide (x.1=nm))with
   | none=>rw[hx]at h;cases h
   | some x =>
    grind
  ·rw[if_neg hn]
   cases hx:l.find? (fun x=>decide (x.1=nm))with
   | none=>rfl
   | some x =>
    grind
 ·rename_i h
  rw[tq]
  by_cases hn:nm=k
  ·simp_all
  grind
def il(h:B.fs=A.fs)(f:Nat):B.file f=A.file f:=by unfold Ab.file;rw[h]
theorem oN(h:B.fs=(f,[],[])::A.fs)(g:Nat):B.file g=if f=g then([],[])else A.file g:=by
 unfold Ab.file
 grind
theorem oM{c:List UInt8}(h:B.fs=Ab.BI A.fs f c){g:Nat}(hg:g∈A.fs.map (·.1)):B.file g=if g=f then(c,(A.file g).2)else A.file g:=by
 have h1:B.file g=({ A with fs:=A.fs.map fun x=>if x.1=f then(x.1,c,x.2.2)else x }:Ab).file g:=il h g
 grind [GK]
theorem j6(h:B.fs=Ab.nV A.fs f){g:Nat}(hg:g∈A.fs.map (·.1)):B.file g=if g=f then((A.file g).1,(A.file g).1)else A.file g:=by
 have h1:B.file g=({ A with fs:=A.fs.map fun x=>if x.1=f then(x.1,x.2.1,x.2.1)else x }:Ab).file g:=il h g
 grind [GK]
def KX(h:B.fs=(f,[],[])::A.fs):B.fs.map (·.1)=f::A.fs.map (·.1):=by rw[h];rfl
def KW{c:List UInt8}(h:B.fs=Ab.BI A.fs f c):B.fs.map (·.1)=A.fs.map (·.1):=by rw[h];exact uH _ _ (fun x=>by split <;> rfl)
def F9(h:B.fs=Ab.nV A.fs f):B.fs.map (·.1)=A.fs.map (·.1):=by rw[h];exact uH _ _ (fun x=>by split <;> rfl)
def Cl(A:Ab)(f:Nat):Prop:=(A.file f).2=(A.file f).1∧∀w∈A.writes,w.1≠f
abbrev Wr:=List (Nat × Nat × List UInt8)
def gw(f:Nat):Wr→List UInt8→List UInt8→Prop
 | [],s,c=>c=s
 | w::ws,s,c=>gw f ws s c∨(w.1=f∧∃k,gw f ws (bJ s w.2.1 (w.2.2.take k)) c)
def Oc(A:Ab)(f:Nat)(c:List UInt8):Prop:=gw f A.writes (A.file f).2 c
def gw.app{f:Nat}:∀ {ws vs:Wr} {s c:List UInt8},gw f (ws++vs) s c→∃c0,gw f ws s c0∧gw f vs c0 c
 | [],_,s,_,h=>⟨s,rfl,h⟩
 | w::ws,vs,s,c,h=>by
  rcases h with h|⟨h0,k,h⟩
  ·obtain⟨c0,h1,h2⟩:=gw.app h
   exact⟨c0,.inl h1,h2⟩
  ·obtain⟨c0,h1,h2⟩:=gw.app h
   exact⟨c0,.inr ⟨h0,k,h1⟩,h2⟩
def gw.filter{f:Nat}{p:Nat × Nat × List UInt8→Bool}(hp:∀w,w.1=f→p w=true):∀ {ws:Wr} {s c:List UInt8},gw f (ws.filter p) s c→gw f ws s c
 | [],_,_,h=>h
 | w::ws,s,c,h=>by
  by_cases hw:p w=true
  ·rw[List.filter_cons_of_pos hw]at h
   rcases h with h|⟨h0,k,h⟩
   ·exact .inl (gw.filter hp h)
   ·exact .inr ⟨h0,k,gw.filter hp h⟩
  ·rw[List.filter_cons_of_neg hw]at h
   exact .inl (gw.filter hp h)
def gw.none{f:Nat}:∀ {ws:Wr} {s c:List UInt8},(∀w∈ws,w.1≠f)→gw f ws s c→c=s
 | [],_,_,_,h=>h
 | w::ws,s,c,hn,h=>by
  rcases h with h|⟨h0,_⟩
  ·exact gw.none (fun v hv=>hn v (List.mem_cons_of_mem _ hv)) h
  ·exact absurd h0 (hn w (List.mem_cons_self ..))
def Oc.write{d:List UInt8}(hf:B.fs=Ab.BI A.fs f d)(hm:f∈A.fs.map (·.1))(hw:B.writes=A.writes++[(f,at_,b)]){g:Nat}(hg:g∈A.fs.map (·.1)){c:List UInt8}(h:Oc B g c) :
  (g≠f∧Oc A g c)∨(g=f∧(Oc A f c∨∃c0 k,Oc A f c0∧c=bJ c0 at_ (b.take k))):=by
 unfold Oc at h
 have hs:(B.file g).2=(A.file g).2:=by
  rw[oM hf hg]
  split <;> rfl
 rw[hw,hs]at h
 obtain⟨c0,h1,h2⟩:=h.app
 rcases h2 with h2|⟨h3,k,h2⟩
 ·have h2:c=c0:=h2
  subst h2
  by_cases oe:g=f
  ·subst oe;exact .inr ⟨rfl,.inl h1⟩
  ·exact .inl ⟨oe,h1⟩
 ·have h3:f=g:=h3
  subst h3
  exact .inr ⟨rfl,.inr ⟨c0,k,h1,h2⟩⟩
def Oc.sync(hf:B.fs=Ab.nV A.fs f)(hw:B.writes=A.writes.filter fun x => !decide (x.1=f)){g:Nat}(hg:g∈A.fs.map (·.1)){c:List UInt8}(h:Oc B g c) :
  (g≠f∧Oc A g c)∨(g=f∧c=A.now f):=by
 unfold Oc at h
 by_cases oe:g=f
 ·subst oe
  refine .inr ⟨rfl,?_⟩
  rw[j6 hf hg,if_pos rfl]at h
  refine gw.none (fun w hm=>?_) h
  rw[hw]at hm
  have:=(List.mem_filter.1 hm).2
  simpa using this
 ·refine .inl ⟨oe,?_⟩
  rw[j6 hf hg,if_neg oe,hw]at h
  exact gw.filter (fun w MZ=>by rw[MZ];simp[oe]) h
def Oc.create{A:Ab}(hf:B.fs=(f,[],[])::A.fs)(hw:B.writes=A.writes)(hk:∀w∈A.writes,w.1∈A.fs.map (·.1))(hn:f ∉ A.fs.map (·.1)){g:Nat}{c:List UInt8}(h:Oc B g c) :
  (g≠f∧Oc A g c)∨(g=f∧c=[]):=by
 unfold Oc at h
 rw[hw,oN hf]at h
 by_cases oe:f=g
 ·subst oe
  rw[if_pos rfl]at h
  exact .inr ⟨rfl,gw.none (fun w hm he=>hn (by rw[← he];exact hk w hm)) h⟩
 ·rw[if_neg oe]at h
  exact .inl ⟨fun e=>oe e.symm,h⟩
def MP{stay:List UInt8}{cq cut:Int}{i:Nat}{c:List UInt8}(h:Ab.kept stay cq cut i b=some c):∃k,c=b.take k:=by
 unfold Ab.kept at h
 split at h
 ·simp only at h
  split at h
  ·cases h
  ·injection h with h
   exact⟨_,h.symm⟩
 ·split at h
  ·injection h with h
   exact⟨b.length,by rw[List.take_length,h]⟩
  ·cases h
def tt(stay:List UInt8)(cq cut:Int)(f:Nat):∀(ws:Wr) (i:Nat) (fs:List (Nat × List UInt8 × List UInt8)),f∈fs.map (·.1) →
  gw f ws ((((fs.find? fun x=>decide (x.1=f)).map (·.2)).getD ([],[])).2) (((((Ab.jJ stay cq cut i ws fs).find? fun x=>decide (x.1=f)).map (·.2)).getD ([],[])).2)
 | [],_,_,_=>rfl
 | w::ws,i,fs,hm=>by
  unfold Ab.jJ
  cases hk:Ab.kept stay cq cut i w.2.2 with
  | none=>exact .inl (tt stay cq cut f ws (i+1) fs hm)
  | some c =>
   simp only
   have ji:(Ab.lu fs w.1 (bJ (((fs.find? fun x=>decide (x.1=w.1)).map (·.2)).getD ([],[])).2 w.2.1 c)).map (·.1)=fs.map (·.1):=by
    unfold Ab.lu
    exact uH _ _ (fun x=>by split <;> rfl)
   have ih:=tt stay cq cut f ws (i+1) (Ab.lu fs w.1 (bJ (((fs.find? fun x=>decide (x.1=w.1)).map (·.2)).getD ([],[])).2 w.2.1 c)) (by rw[ji];exact hm)
   by_cases hw:w.1=f
   ·obtain⟨k,rfl⟩:=MP hk
    refine .inr ⟨hw,k,?_⟩
    obtain⟨x,hx,hxf⟩:=uW hm
    have he:((((Ab.lu fs w.1 (bJ (((fs.find? fun x=>decide (x.1=w.1)).map (·.2)).getD ([],[])).2 w.2.1 (w.2.2.take k))).find? fun x=>decide (x.1=f)).map (·.2)).getD ([],[])).2=bJ ((((fs.find? fun x=>decide (x.1=f)).map (·.2)).getD ([],[])).2) w.2.1 (w.2.2.take k):=by
     unfold Ab.lu
     rw[jL _ (fun x=>by split <;> rfl),hx,hw,hx]
     simp[hxf]
    rw[he]at ih
    exact ih
   ·refine .inl ?_
    rw[tY _ _ _ _ hw]at ih
    exact ih
def GV(last:Int)(stay:List UInt8)(cq cut:Int)(hf:f∈A.fs.map (·.1))(hr:f∈Ab.reach (A.aj++[(A.dZ last stay cq cut).names])) :
  ∃c,Oc A f c∧(A.dZ last stay cq cut).file f=(c,c):=by
 have h1:=tt stay cq cut f A.writes 0 A.fs hf
 have ji:=uF stay cq cut A.writes 0 A.fs
 have gp:f∈(Ab.jJ stay cq cut 0 A.writes A.fs).map (·.1):=by rw[ji];exact hf
 obtain⟨x,hx,hxf⟩:=uW gp
 rw[hx]at h1
 refine⟨x.2.2,h1,?_⟩
 have QQ:=hr
 simp only[Ab.dZ]at QQ ⊢
 unfold Ab.file
 simp only
 rw[jL _ (fun x=>by split <;> rfl),hx]
 simp_all
def mq{st:Og}(h:Ab.bC st nm=some f):(nm,f)∈st:=by
 unfold Ab.bC at h
 cases hx:st.find? (fun x=>decide (x.1=nm))with
 | none=>rw[hx]at h;cases h
 | some x =>
  rw[hx]at h
  have h1:=List.mem_of_find?_eq_some hx
  have h2:=List.find?_some hx
  simp at h h2
  rw[← h2,← h]
  exact h1
def kA(k:List Dg)(nm:ByteArray):Prop:=nm=cZ∨(∃d,d∈k∧nm=js d)∨∃d,d∈k∧nm=og d
def kA.mono(h:kA k nm)(hk:k ⊆ j):kA j nm:=by
 rcases h with h|⟨d,h1,h2⟩|⟨d,h1,h2⟩
 ·exact .inl h
 ·exact .inr (.inl ⟨d,hk h1,h2⟩)
 ·exact .inr (.inr ⟨d,hk h1,h2⟩)
structure qf(k:List Dg)(fs:List Nat)(st:Og):Prop where
 keys:(st.map (·.1)).Nodup
 own:(st.map (·.2)).Nodup
 known:∀x∈st,x.2∈fs
 kinds:∀x∈st,kA k x.1
def F5{st:Og}(hk:(st.map (·.1)).Nodup)(h:∀x∈st,kA k x.1):st.length≤1+2*k.length:=by
 have h1:=hk.length_le_of_subset (l₂:=cZ::(k.map js++k.map og)) (fun a ha=>by
  obtain⟨x,hx,rfl⟩:=List.mem_map.1 ha
  rcases h x hx with h|⟨d,h1,h2⟩|⟨d,h1,h2⟩
  ·rw[h];exact List.mem_cons_self ..
  ·exact List.mem_cons_of_mem _ (List.mem_append.2 (.inl (List.mem_map.2 ⟨d,h1,h2.symm⟩)))
  ·exact List.mem_cons_of_mem _ (List.mem_append.2 (.inr (List.mem_map.2 ⟨d,h1,h2.symm⟩))))
 simp only[List.length_map,List.length_cons,List.length_append]at h1
 omega
def qf.look{st:Og}(h:qf k fs st)(hl:Ab.bC st nm=some f):f∈fs∧kA k nm:=⟨h.known _ (mq hl),h.kinds _ (mq hl)⟩
def qf.inj{st:Og}(h:qf k fs st){b:ByteArray}(ha:Ab.bC st a=some f)(hb:Ab.bC st b=some f):a=b:=by
 have h1:=mq ha
 have h2:=mq hb
 obtain⟨i,hi⟩:=List.mem_iff_getElem?.1 h1
 obtain⟨j,hj⟩:=List.mem_iff_getElem?.1 h2
 have OW:(st.map (·.2))[i]?=some f:=by rw[List.getElem?_map,hi];rfl
 have H8:(st.map (·.2))[j]?=some f:=by rw[List.getElem?_map,hj];rfl
 have DG:=(List.getElem?_inj ((List.getElem?_eq_some_iff.1 OW).1) h.own).1 (OW.trans H8.symm)
 subst DG
 rw[hi]at hj
 injection hj with hj
 exact congrArg Prod.fst hj
def qf.mono{fs gs:List Nat}{st:Og}(h:qf k fs st)(hk:k ⊆ j)(hs:∀f∈fs,f∈gs):qf j gs st:=⟨h.keys,h.own,fun x hx=>hs _ (h.known x hx),fun x hx=>(h.kinds x hx).mono hk⟩
def qf.app{st:Og}(h:qf k fs st)(H7:k ⊆ j)(hk:kA j nm)(hn:Ab.bC st nm=none)(hf:f ∉ fs):qf j (f::fs) (st++[(nm,f)]):=by
 have hn2:∀x∈st,x.1≠nm:=fun x hx e=>by
  unfold Ab.bC at hn
  rw[Option.map_eq_none_iff,List.find?_eq_none]at hn
  exact hn x hx (decide_eq_true e)
 refine⟨?_,?_,fun x hx=>?_,fun x hx=>?_⟩
 ·rw[List.map_append,List.nodup_append]
  refine⟨h.keys,by simp,fun a ha b hb=>?_⟩
  obtain⟨x,hx,rfl⟩:=List.mem_map.1 ha
  simp at hb
  rw[hb];exact hn2 x hx
 ·rw[List.map_append,List.nodup_append]
  refine⟨h.own,by simp,fun a ha b hb=>?_⟩
  obtain⟨x,hx,rfl⟩:=List.mem_map.1 ha
  simp at hb
  rw[hb];exact fun e=>hf (e ▸ h.known x hx)
 ·rcases List.mem_append.1 hx with hx|hx
  ·exact List.mem_cons_of_mem _ (h.known x hx)
  ·rw[List.mem_singleton.1 hx];exact List.mem_cons_self ..
 ·rcases List.mem_append.1 hx with hx|hx
  ·exact(h.kinds x hx).mono H7
  ·rw[List.mem_singleton.1 hx];exact hk
def qf.del{st:Og}(h:qf k fs st)(nm:ByteArray):qf k fs (Ab.ef st nm) :=
 ⟨(List.filter_sublist.map _).nodup h.keys,(List.filter_sublist.map _).nodup h.own,fun x hx=>h.known x (List.mem_filter.1 hx).1,fun x hx=>h.kinds x (List.mem_filter.1 hx).1⟩
def qC(st:Og)(k nm:ByteArray):Ab.bC (Ab.ef st k) nm=if nm=k then none else Ab.bC st nm:=by
 unfold Ab.bC Ab.ef
 rw[List.find?_filter]
 split
 ·rename_i h
  subst h
  rw[Option.map_eq_none_iff,List.find?_eq_none]
  intro x hx
  simp
 ·rename_i h
  congr 2
  funext x
  by_cases hx:x.1=nm
  ·simp[hx,h]
  ·simp[hx]
def qf.ren{st:Og}(h:qf k fs st)(hk:kA k nm)(ho:Ab.bC st o=some f)(hn:Ab.bC st nm=none):qf k fs (Ab.ef st o++[(nm,f)]):=by
 have h1:=mq ho
 have hn2:∀x∈st,x.1≠nm:=fun x hx e=>by
  unfold Ab.bC at hn
  rw[Option.map_eq_none_iff,List.find?_eq_none]at hn
  exact hn x hx (decide_eq_true e)
 have hd:=h.del o
 have lh:∀x∈Ab.ef st o,x.2≠f:=fun x hx e=>by
  obtain⟨h2,h3⟩:=List.mem_filter.1 hx
  obtain⟨i,hi⟩:=List.mem_iff_getElem?.1 h1
  obtain⟨j,hj⟩:=List.mem_iff_getElem?.1 h2
  have OW:(st.map (·.2))[i]?=some f:=by rw[List.getElem?_map,hi];rfl
  have H8:(st.map (·.2))[j]?=some f:=by rw[List.getElem?_map,hj];exact congrArg some e
  have DG:=(List.getElem?_inj ((List.getElem?_eq_some_iff.1 OW).1) h.own).1 (OW.trans H8.symm)
  subst DG
  rw[hi]at hj
  injection hj with hj
  rw[← hj]at h3
  simp at h3
 refine⟨?_,?_,fun x hx=>?_,fun x hx=>?_⟩
 ·rw[List.map_append,List.nodup_append]
  refine⟨hd.keys,by simp,fun a ha b hb=>?_⟩
  obtain⟨x,hx,rfl⟩:=List.mem_map.1 ha
  simp at hb
  rw[hb];exact hn2 x (List.mem_filter.1 hx).1
 ·rw[List.map_append,List.nodup_append]
  refine⟨hd.own,by simp,fun a ha b hb=>?_⟩
  obtain⟨x,hx,rfl⟩:=List.mem_map.1 ha
  simp at hb
  rw[hb];exact lh x hx
 ·rcases List.mem_append.1 hx with hx|hx
  ·exact hd.known x hx
  ·rw[List.mem_singleton.1 hx];exact h.known (o,f) h1
 ·rcases List.mem_append.1 hx with hx|hx
  ·exact hd.kinds x hx
  ·rw[List.mem_singleton.1 hx];exact hk
def gw.uG{f:Nat}:∀ {ws:Wr} {s:List UInt8},gw f ws s s
 | [],_=>rfl
 | _::_,_ => .inl gw.uG
def gw.D5{f:Nat}:∀ {ws vs:Wr} {s c0 c:List UInt8},gw f ws s c0→gw f vs c0 c→gw f (ws++vs) s c
 | [],_,_,_,_,h1,h2=>by
  have h1:_=_:=h1
  subst h1
  exact h2
 | w::ws,vs,s,c0,c,h1,h2=>by
  rcases h1 with h1|⟨h0,k,h1⟩
  ·exact .inl (gw.D5 h1 h2)
  ·exact .inr ⟨h0,k,gw.D5 h1 h2⟩
def gw.rN{f:Nat}{p:Nat × Nat × List UInt8→Bool}(hp:∀w,w.1=f→p w=true):∀ {ws:Wr} {s c:List UInt8},gw f ws s c→gw f (ws.filter p) s c
 | [],_,_,h=>h
 | w::ws,s,c,h=>by
  by_cases hw:p w=true
  ·rw[List.filter_cons_of_pos hw]
   rcases h with h|⟨h0,k,h⟩
   ·exact .inl (gw.rN hp h)
   ·exact .inr ⟨h0,k,gw.rN hp h⟩
  ·rw[List.filter_cons_of_neg hw]
   rcases h with h|⟨h0,k,h⟩
   ·exact gw.rN hp h
   ·exact absurd (hp w h0) hw
def uA(h:B.file f=A.file f):B.now f=A.now f:=by unfold Ab.now;rw[h]
def Cl.same{B:Ab}(h:Cl A f)(hf:B.file f=A.file f)(hw:∀w∈B.writes,w.1=f→w∈A.writes):Cl B f:=⟨by rw[hf];exact h.1,fun w hm e=>h.2 w (hw w hm e) e⟩
def BW(A:Ab)(ok:Bool):(A.meet ok).2.room=A.room:=(qy A ok).room
def rz(A:Ab)(nm:ByteArray)(ok:Bool):(A.find nm ok).2.2.room=A.room:=(qJ A nm ok).1.room
theorem Fl(h:gm nm A e B):B.room=A.room:=by
 obtain⟨f,hf,hc⟩:=h
 have hm:=BW A (isName nm)
 unfold Ab.create at hc
 grind [Ab.n7]
theorem Fk(h:gL nm A e B):B.room=A.room:=by
 have hm:=rz A nm (isName nm)
 unfold gL Ab.remove at h
 grind [Ab.n7]
theorem Fj(h:iN o nm A e B):B.room=A.room:=by
 have hm:=rz A o ([o,nm].all isName)
 unfold iN Ab.rename at h
 grind [Ab.n7]
theorem IE(h:fh nm at_ b A e B):B.room=A.room:=by
 have hm:=rz A nm (fK nm at_ b)
 unfold fh Ab.write at h
 grind
theorem Mh(h:fR nm A e B):B.room=A.room:=by
 have hm:=rz A nm (isName nm)
 unfold fR Ab.sync at h
 grind
theorem zi(h:cP A e B):B.room=A.room:=by
 have hm:=BW A true
 unfold cP Ab.cp at h
 grind
def GoodO(nm:ByteArray)(w:List UInt8):Prop:=(∀d,nm=og d→dW w=d)∧w.length≤if nm=cZ then 66000 else 1000
structure nk(k:List Dg)(A:Ab):Prop where
 mem:A.names∈A.aj
 nm:∀st∈A.aj,qf k (A.fs.map (·.1)) st
 ids:(A.fs.map (·.1)).Nodup
 eg:∀w∈A.writes,w.1∈A.fs.map (·.1)
 zw:∀f∈A.fs.map (·.1),Oc A f (A.now f)
 oK:∀st∈A.aj,∀nm f,Ab.bC st nm=some f→∀w,Oc A f w→GoodO nm w
 cl:∀f∈A.fs.map (·.1),(∀st∈A.aj,∀nm,Ab.bC st nm≠some f)→Cl A f
 room:A.room=16777216
def sc(A:Ab):Prop:=∀g∈A.fs.map (·.1),Cl A g
def aaG(A:Ab)(nm:ByteArray):Prop:=∀g∈A.fs.map (·.1),A.look nm≠some g→Cl A g
def sc.same(h:sc A)(hf:B.fs=A.fs)(hw:B.writes=A.writes):sc B:=fun g hg =>
 (h g (by rw[hf]at hg;exact hg)).same (il hf g) fun w hm _=>by rw[hw]at hm;exact hm
def nt(A:Ab)(nm:ByteArray)(P:List UInt8→Prop):Prop:=∃f,(∀st∈A.aj,Ab.bC st nm=some f)∧∀w,Oc A f w→P w
def CR(A:Ab)(nm:ByteArray):Prop:=∀st∈A.aj,Ab.bC st nm=none
def nt.imp{Q:List UInt8→Prop}(h:nt A nm P)(H5:∀w,P w→Q w):nt A nm Q:=by
 obtain⟨f,h1,h2⟩:=h
 exact⟨f,h1,fun w hw=>H5 w (h2 w hw)⟩
def nt.step{B:Ab}(h:nt A a P)(hm:A.names∈A.aj)(bP:∀st∈B.aj,st∈A.aj∨Ab.bC st a=A.look a)(ho:∀f,A.look a=some f→∀w,Oc B f w→Oc A f w):nt B a P:=by
 obtain⟨f,h1,h2⟩:=h
 exact⟨f,fun st hs=>(bP st hs).elim (h1 st) fun e=>e.trans (h1 _ hm),fun w hw=>h2 w (ho f (h1 _ hm) w hw)⟩
def CR.step{B:Ab}(h:CR A a)(hm:A.names∈A.aj)(bP:∀st∈B.aj,st∈A.aj∨Ab.bC st a=A.look a∨Ab.bC st a=none):CR B a:=fun st hs=>by
 rcases bP st hs with h1|h1|h1
 ·exact h st h1
 ·exact h1.trans (h _ hm)
 ·exact h1
def nk.step{A B:Ab}(h:nk k A)(H7:k ⊆ j)(ji:∀f∈A.fs.map (·.1),f∈B.fs.map (·.1))(jh:(B.fs.map (·.1)).Nodup)(gp:B.names∈B.aj)(hW:∀w∈B.writes,w.1∈B.fs.map (·.1))(lh:∀f∈B.fs.map (·.1),Oc B f (B.now f))(ho:∀st∈A.aj,∀nm f,Ab.bC st nm=some f→∀w,Oc B f w→Oc A f w∨GoodO nm w)(bP:∀st∈B.aj,st∈A.aj∨(qf j (B.fs.map (·.1)) st∧∀nm f,Ab.bC st nm=some f→∀w,Oc B f w→GoodO nm w))(ki:∀f∈B.fs.map (·.1),(∀st∈B.aj,∀nm,Ab.bC st nm≠some f)→Cl B f)(oF:B.room=A.room):nk j B :=
 ⟨gp,fun st hs=>(bP st hs).elim (fun h1=>(h.nm st h1).mono H7 ji) And.left,jh,hW,lh,fun st hs nm f hf w hw=>(bP st hs).elim (fun h1=>(ho st h1 nm f hf w hw).elim (h.oK st h1 nm f hf w) id) fun h1=>h1.2 nm f hf w hw,ki,oF.trans h.room⟩
def r'.oc(e:r' A B){w:List UInt8}:Oc B f w↔Oc A f w:=by
 unfold Oc
 rw[il e.fs,e.writes]
def nk.eqv(h:nk k A)(e:r' A B)(H7:k ⊆ j):nk j B :=
 h.step H7 (fun f hf=>by rw[e.fs];exact hf) (by rw[e.fs];exact h.ids) (by rw[e.names,e.aj];exact h.mem) (by rw[e.writes,e.fs];exact h.eg)
  (fun f hf=>by rw[e.fs]at hf;rw[uA (il e.fs f)];exact e.oc.2 (h.zw f hf)) (fun st hs nm f hf w hw => .inl (e.oc.1 hw)) (fun st hs => .inl (by rw[e.aj]at hs;exact hs)) (fun f hf hn=>(h.cl f (by rw[e.fs]at hf;exact hf) (by rw[e.aj]at hn;exact hn)).same (il e.fs f) fun w hw _=>by rw[e.writes]at hw;exact hw) e.room
def nt.eqv(h:nt A a P)(e:r' A B):nt B a P:=by
 obtain⟨f,h1,h2⟩:=h
 exact⟨f,by rw[e.aj];exact h1,fun w hw=>h2 w (e.oc.1 hw)⟩
def CR.eqv(h:CR A a)(e:r' A B):CR B a:=by unfold CR;rw[e.aj];exact h
structure Kept(A B:Ab)(X:ByteArray→Prop):Prop where
 tS:∀a P,¬X a→nt A a P→nt B a P
 Dw:∀a,¬X a→CR A a→CR B a
def Kept.eqv(e:r' A B)(X:ByteArray→Prop):Kept A B X:=⟨fun a P _ h=>h.eqv e,fun a _ h=>h.eqv e⟩
def Kept.trans{C:Ab}{X:ByteArray→Prop}(h1:Kept A B X)(h2:Kept B C X):Kept A C X:=⟨fun a P hx h=>h2.tS a P hx (h1.tS a P hx h),fun a hx h=>h2.Dw a hx (h1.Dw a hx h)⟩
def Kept.mono{X Y:ByteArray→Prop}(h:Kept A B X)(tP:∀a,X a→Y a):Kept A B Y:=⟨fun a P hx=>h.tS a P fun h=>hx (tP a h),fun a hx=>h.Dw a fun h=>hx (tP a h)⟩
def nk.cp(h:nk k A)(hc:sc A)(hs:cP A e B):nk k B∧Kept A B (fun _=>False)∧(e≠0→r' A B)∧(e=0→B.aj=[A.names]∧B.names=A.names∧(∀f w,Oc B f w↔Oc A f w)∧sc B):=by
 rcases lU hs with⟨h0,hq⟩|⟨h0,h1,h2,h3,h4⟩
 ·exact⟨h.eqv hq (List.Subset.refl _),Kept.eqv hq _,fun _=>hq,fun h=>absurd h h0⟩
 have Bm:∀f w,Oc B f w↔Oc A f w:=fun f w=>by unfold Oc;rw[il h3,h4]
 have bP:∀st∈B.aj,st∈A.aj:=fun st bP=>by
  rw[h2,List.mem_singleton]at bP
  rw[bP];exact h.mem
 refine⟨h.step (List.Subset.refl _) (fun f hf=>by rw[h3];exact hf) (by rw[h3];exact h.ids) (by rw[h1,h2];exact List.mem_singleton.2 rfl) (by rw[h3,h4];exact h.eg) (fun f hf=>?_) (fun st hs nm f hf w hw => .inl ((Bm f w).1 hw)) (fun st hs => .inl (bP st hs)) (fun f hf _=>hc.same h3 h4 f hf) (zi hs),⟨fun a P _ ha=>ha.step h.mem (fun st hs => .inl (bP st hs)) fun f _ w hw=>(Bm f w).1 hw,fun a _ ha=>ha.step h.mem fun st hs => .inl (bP st hs)⟩,fun df=>absurd h0 df,fun _=>⟨h2,h1,Bm,hc.same h3 h4⟩⟩
 rw[h3]at hf
 rw[uA (il h3 f)]
 exact(Bm f _).2 (h.zw f hf)
def nt.one(hs:B.aj=[B.names])(hf:B.look nm=some f)(hp:∀w,Oc B f w→P w):nt B nm P :=
 ⟨f,fun st bP=>by rw[hs,List.mem_singleton]at bP;rw[bP];exact hf,hp⟩
def CR.one(hs:B.aj=[B.names])(hf:B.look nm=none):CR B nm:=fun st bP=>by
 rw[hs,List.mem_singleton]at bP;rw[bP];exact hf
def nk.create(h:nk k A)(H7:k ⊆ j)(hk:kA j nm)(hnB:∀d,nm≠og d)(hs:gm nm A e B) :
  nk j B∧Kept A B (· = nm)∧(e≠0→r' A B)∧(e=0→A.look nm=none∧∃f,B.look nm=some f∧(∀a,a≠nm→B.look a=A.look a)∧(∀w,Oc B f w→w=[])∧(sc A→sc B)):=by
 rcases u7 hs with⟨h0,hq⟩|⟨h0,hn,f,hf,h1,h2,h3,h4⟩
 ·exact⟨h.eqv hq H7,Kept.eqv hq _,fun _=>hq,fun h=>absurd h h0⟩
 have ji:B.fs.map (·.1)=f::A.fs.map (·.1):=KX h3
 have l9:∀a,Ab.bC (A.names++[(nm,f)]) a=if a=nm then some f else A.look a:=fun a=>by
  rw[tq]
  by_cases ha:a=nm
  ·subst ha
   rw[if_pos rfl,if_pos rfl,show Ab.bC A.names a=none from hn];rfl
  ·rw[if_neg ha,if_neg ha]
   show(A.look a).or none=_
   cases A.look a <;> rfl
 have hold:∀g,g∈A.fs.map (·.1)→∀w,Oc B g w→Oc A g w:=fun g hg w hw=>by
  rcases Oc.create h3 h4 h.eg hf hw with⟨_,h5⟩|⟨h5,_⟩
  ·exact h5
  ·exact absurd (h5 ▸ hg) hf
 have zQ:∀w,Oc B f w→w=[]:=fun w hw=>by
  rcases Oc.create h3 h4 h.eg hf hw with⟨h5,_⟩|⟨_,h5⟩
  ·exact absurd rfl h5
  ·exact h5
 have bP:∀st∈B.aj,st∈A.aj∨st=A.names++[(nm,f)]:=fun st hs=>by
  rw[h2]at hs
  rcases List.mem_append.1 hs with h5|h5
  ·exact .inl h5
  ·exact .inr (List.mem_singleton.1 h5)
 have TS:∀a g,A.look a=some g→g∈A.fs.map (·.1):=fun a g hg=>((h.nm _ h.mem).look hg).1
 refine⟨h.step H7 (fun g hg=>by rw[ji];exact List.mem_cons_of_mem _ hg) (by rw[ji];exact List.nodup_cons.2 ⟨hf,h.ids⟩) (by rw[h1,h2];simp) (fun w hw=>by rw[h4]at hw;rw[ji];exact List.mem_cons_of_mem _ (h.eg w hw)) (fun g hg=>?_) (fun st hs a g hg w hw => .inl (hold g ((h.nm st hs).look hg).1 w hw)) (fun st hs=>?_) (fun g hg OV=>?_) (Fl hs),⟨fun a P hx ha=>ha.step h.mem (fun st hs=>(bP st hs).imp id fun e=>by rw[e,l9,if_neg hx]) fun g hg w hw=>hold g (TS a g hg) w hw,fun a hx ha=>ha.step h.mem fun st hs=>(bP st hs).imp id fun e => .inl (by rw[e,l9,if_neg hx])⟩,fun df=>absurd h0 df,fun _=>⟨hn,f,?_,fun a ha=>?_,zQ,fun hc g hg=>?_⟩⟩
 ·unfold Oc Ab.now
  rw[oN h3,h4]
  rw[ji]at hg
  by_cases oe:f=g
  ·rw[if_pos oe];exact gw.uG
  ·rw[if_neg oe]
   rcases List.mem_cons.1 hg with hg|hg
   ·exact absurd hg.symm oe
   ·exact h.zw g hg
 ·rcases bP st hs with h5|rfl
  ·exact .inl h5
  ·refine .inr ⟨by rw[ji];exact(h.nm _ h.mem).app H7 hk hn hf,fun a g hg w hw=>?_⟩
   rw[l9]at hg
   by_cases ha:a=nm
   ·rw[if_pos ha]at hg
    injection hg with hg
    subst hg
    rw[zQ w hw]
    exact⟨fun d hd=>absurd (ha.symm.trans hd) (hnB d),by simp⟩
   ·rw[if_neg ha]at hg
    exact h.oK _ h.mem a g hg w (hold g (TS a g hg) w hw)
 ·rw[ji]at hg
  rcases List.mem_cons.1 hg with rfl|hg
  ·exact absurd (by rw[l9,if_pos rfl]) (OV (A.names++[(nm,g)]) (by rw[h2];simp) nm)
  ·exact(h.cl g hg fun st hs a=>OV st (by rw[h2];exact List.mem_append.2 (.inl hs)) a).same (by rw[oN h3,if_neg (fun e:f=g=>hf (e ▸ hg))]) fun w hw _=>by rw[h4]at hw;exact hw
 ·show Ab.bC B.names nm=_
  rw[h1,l9,if_pos rfl]
 ·show Ab.bC B.names a=_
  rw[h1,l9,if_neg ha]
 ·rw[ji]at hg
  rcases List.mem_cons.1 hg with rfl|hg
  ·exact⟨by rw[oN h3,if_pos rfl],fun w hw e=>hf (by rw[h4]at hw;rw[← e];exact h.eg w hw)⟩
  ·exact(hc g hg).same (by rw[oN h3,if_neg (fun e:f=g=>hf (e ▸ hg))]) fun w hw _=>by rw[h4]at hw;exact hw
def nk.remove{B:Ab}(h:nk k A)(hs:gL nm A e B) :
  nk k B∧(∀a P,a≠nm→nt A a P→nt B a P)∧(∀a,CR A a→CR B a)∧(e≠0→r' A B)∧(e=0→B.names=Ab.ef A.names nm∧(∀a,B.look a=if a=nm then none else A.look a)∧(∀f w,Oc B f w↔Oc A f w)∧(∀st∈B.aj,st∈A.aj∨st=B.names)∧(sc A→sc B)):=by
 rcases Dh hs with⟨h0,hq⟩|⟨h0,_,h1,h2,h3,h4,_⟩
 ·exact⟨h.eqv hq (List.Subset.refl _),fun a P _ ha=>ha.eqv hq,fun a ha=>ha.eqv hq,fun _=>hq,fun h=>absurd h h0⟩
 have Bm:∀f w,Oc B f w↔Oc A f w:=fun f w=>by unfold Oc;rw[il h3,h4]
 have l9:∀a,Ab.bC (Ab.ef A.names nm) a=if a=nm then none else A.look a:=fun a=>qC A.names nm a
 have bP:∀st∈B.aj,st∈A.aj∨st=Ab.ef A.names nm:=fun st hs=>by
  rw[h2]at hs
  rcases List.mem_append.1 hs with h5|h5
  ·exact .inl h5
  ·exact .inr (List.mem_singleton.1 h5)
 refine⟨h.step (List.Subset.refl _) (fun f hf=>by rw[h3];exact hf) (by rw[h3];exact h.ids) (by rw[h1,h2];simp) (by rw[h3,h4];exact h.eg) (fun f hf=>?_) (fun st hs a g hg w hw => .inl ((Bm g w).1 hw)) (fun st hs=>?_) (fun g hg OV=>(h.cl g (by rw[h3]at hg;exact hg) fun st hs a=>OV st (by rw[h2];exact List.mem_append.2 (.inl hs)) a).same (il h3 g) fun w hw _=>by rw[h4]at hw;exact hw) (Fk hs),fun a P hx ha=>ha.step h.mem (fun st hs=>(bP st hs).imp id fun e=>by rw[e,l9,if_neg hx]) fun g hg w hw=>(Bm g w).1 hw,fun a ha=>ha.step h.mem fun st hs=>(bP st hs).imp id fun e=>?_,fun df=>absurd h0 df,fun _=>⟨h1,fun a=>?_,Bm,fun st hs=>by rw[h1];exact bP st hs,fun hc=>hc.same h3 h4⟩⟩
 ·rw[h3]at hf
  rw[uA (il h3 f)]
  exact(Bm f _).2 (h.zw f hf)
 ·rcases bP st hs with h5|rfl
  ·exact .inl h5
  ·refine .inr ⟨by rw[h3];exact(h.nm _ h.mem).del nm,fun a g hg w hw=>?_⟩
   rw[l9]at hg
   split at hg
   ·cases hg
   ·exact h.oK _ h.mem a g hg w ((Bm g w).1 hw)
 ·rw[e,l9]
  by_cases hx:a=nm
  ·rw[if_pos hx];exact .inr rfl
  ·rw[if_neg hx];exact .inl rfl
 ·show Ab.bC B.names a=_
  rw[h1];exact l9 a
def nk.rename{B:Ab}(h:nk k A)(hk:kA k nm)(df:o≠nm)(hn:A.look nm=none)(hg:∀f,A.look o=some f→∀w,Oc A f w→GoodO nm w)(hs:iN o nm A e B) :
  nk k B∧Kept A B (fun a=>a=o∨a=nm)∧(e≠0→r' A B)∧(e=0→(∀a,B.look a=if a=nm then A.look o else if a=o then none else A.look a)∧(∀f w,Oc B f w↔Oc A f w)∧(∀st∈B.aj,st∈A.aj∨st=B.names)∧(sc A→sc B)):=by
 rcases uo hs with⟨h0,hq⟩|⟨h0,f,hf,h1,h2,h3,h4⟩
 ·exact⟨h.eqv hq (List.Subset.refl _),Kept.eqv hq _,fun _=>hq,fun h=>absurd h h0⟩
 have Bm:∀f w,Oc B f w↔Oc A f w:=fun f w=>by unfold Oc;rw[il h3,h4]
 have uP:Ab.bC (Ab.ef A.names o) nm=none:=by
  rw[qC,if_neg (fun e=>df e.symm)];exact hn
 have l9:∀a,Ab.bC (Ab.jT (Ab.ef A.names o) nm f) a=if a=nm then some f else if a=o then none else A.look a:=fun a=>by
  rw[I1,qC];rfl
 have bP:∀st∈B.aj,st∈A.aj∨st=Ab.jT (Ab.ef A.names o) nm f:=fun st hs=>by
  rw[h2]at hs
  rcases List.mem_append.1 hs with h5|h5
  ·exact .inl h5
  ·exact .inr (List.mem_singleton.1 h5)
 refine⟨h.step (List.Subset.refl _) (fun f hf=>by rw[h3];exact hf) (by rw[h3];exact h.ids) (by rw[h1,h2];simp) (by rw[h3,h4];exact h.eg) (fun f hf=>?_) (fun st hs a g hg w hw => .inl ((Bm g w).1 hw)) (fun st hs=>?_) (fun g hg OV=>(h.cl g (by rw[h3]at hg;exact hg) fun st hs a=>OV st (by rw[h2];exact List.mem_append.2 (.inl hs)) a).same (il h3 g) fun w hw _=>by rw[h4]at hw;exact hw) (Fj hs),⟨fun a P hx ha=>ha.step h.mem (fun st hs=>(bP st hs).imp id fun e=>by rw[e,l9,if_neg (fun x=>hx (.inr x)),if_neg (fun x=>hx (.inl x))]) fun g hg w hw=>(Bm g w).1 hw,fun a hx ha=>ha.step h.mem fun st hs=>(bP st hs).imp id fun e => .inl (by rw[e,l9,if_neg (fun x=>hx (.inr x)),if_neg (fun x=>hx (.inl x))])⟩,fun df=>absurd h0 df,fun _=>⟨fun a=>?_,Bm,fun st hs=>by rw[h1];exact bP st hs,fun hc=>hc.same h3 h4⟩⟩
 ·rw[h3]at hf
  rw[uA (il h3 f)]
  exact(Bm f _).2 (h.zw f hf)
 ·rcases bP st hs with h5|rfl
  ·exact .inl h5
  ·refine .inr ⟨by rw[h3,E7 uP];exact(h.nm _ h.mem).ren hk hf hn,fun a g Vu w hw=>?_⟩
   rw[l9]at Vu
   split at Vu
   ·rename_i ha
    injection Vu with Vu
    subst Vu
    rw[ha]
    exact hg f hf w ((Bm f w).1 hw)
   ·split at Vu
    ·cases Vu
    ·exact h.oK _ h.mem a g Vu w ((Bm g w).1 hw)
 ·show Ab.bC B.names a=_
  rw[h1,l9,hf]
def nk.write{Q:List UInt8→Prop}(h:nk k A)(ha:nt A nm P)(H5:∀w,P w→Q w)(hq:∀w j,P w→GoodO nm w→Q (bJ w at_ (b.take j))∧GoodO nm (bJ w at_ (b.take j)))(hs:fh nm at_ b A e B) :
  nk k B∧Kept A B (· = nm)∧nt B nm Q∧B.names=A.names∧B.aj=A.aj∧(sc A→aaG B nm)∧(e=0→∃f,A.look nm=some f∧B.now f=bJ (A.now f) at_ b):=by
 rcases xk hs with⟨h0,Ey⟩|⟨h0,f,hf,h1,h2,h3,h4⟩
 ·exact⟨h.eqv Ey (List.Subset.refl _),Kept.eqv Ey _,(ha.imp H5).eqv Ey,Ey.names,Ey.aj,fun hc g hg _=>hc.same Ey.fs Ey.writes g hg,fun h=>absurd h h0⟩
 obtain⟨f',Vz,Vy⟩:=ha
 obtain rfl:f'=f:=Option.some.inj ((Vz _ h.mem).symm.trans hf)
 have ji:B.fs.map (·.1)=A.fs.map (·.1):=KW h3
 have T2:=((h.nm _ h.mem).look hf).1
 have fq:∀st∈A.aj,∀a,Ab.bC st a=some f'→a=nm:=fun st hs a hl=>(h.nm st hs).inj hl (Vz st hs)
 have hold:∀g,g∈A.fs.map (·.1)→g≠f'→∀w,Oc B g w→Oc A g w:=fun g hg df w hw=>by
  rcases Oc.write h3 T2 h4 hg hw with⟨_,h5⟩|⟨h5,_⟩
  ·exact h5
  ·exact absurd h5 df
 have zQ:∀w,Oc B f' w→Q w∧GoodO nm w:=fun w hw=>by
  rcases Oc.write h3 T2 h4 T2 hw with⟨h5,_⟩|⟨_,h5|⟨c0,j,h5,rfl⟩⟩
  ·exact absurd rfl h5
  ·exact⟨H5 w (Vy w h5),h.oK _ h.mem nm f' hf w h5⟩
  ·exact hq c0 j (Vy c0 h5) (h.oK _ h.mem nm f' hf c0 h5)
 refine⟨h.step (List.Subset.refl _) (fun g hg=>by rw[ji];exact hg) (by rw[ji];exact h.ids) (by rw[h1,h2];exact h.mem) (fun w hw=>?_) (fun g hg=>?_) (fun st hs a g hg w hw=>?_) (fun st hs => .inl (by rw[h2]at hs;exact hs)) (fun g hg OV=>?_) (IE hs),⟨fun a R hx har=>har.step h.mem (fun st hs => .inl (by rw[h2]at hs;exact hs)) fun g hg w hw=>hold g ((h.nm _ h.mem).look hg).1 (fun e=>hx (fq _ h.mem a (e ▸ hg))) w hw,fun a hx har=>har.step h.mem fun st hs => .inl (by rw[h2]at hs;exact hs)⟩,⟨f',fun st hs=>Vz st (by rw[h2]at hs;exact hs),fun w hw=>(zQ w hw).1⟩,h1,h2,fun hc g hg df=>?_,fun _=>⟨f',hf,?_⟩⟩
 ·rw[ji]
  rw[h4]at hw
  rcases List.mem_append.1 hw with hw|hw
  ·exact h.eg w hw
  ·rw[List.mem_singleton.1 hw];exact T2
 ·rw[ji]at hg
  unfold Oc Ab.now
  rw[oM h3 hg,h4]
  by_cases oe:g=f'
  ·subst oe
   rw[if_pos rfl]
   exact gw.D5 (h.zw g hg) (.inr ⟨rfl,b.length,by rw[List.take_length];rfl⟩)
  ·rw[if_neg oe]
   exact gw.D5 (h.zw g hg) (.inl rfl)
 ·by_cases oe:g=f'
  ·subst oe
   rw[fq st hs a hg]
   exact .inr (zQ w hw).2
  ·exact .inl (hold g ((h.nm st hs).look hg).1 oe w hw)
 ·rw[ji]at hg
  have oe:g≠f':=fun e=>OV _ (by rw[h2];exact h.mem) nm (by rw[e];exact hf)
  exact(h.cl g hg fun st hs a=>OV st (by rw[h2];exact hs) a).same (by rw[oM h3 hg,if_neg oe]) fun w hw e=>by
   rw[h4]at hw
   rcases List.mem_append.1 hw with hw|hw
   ·exact hw
   ·exact absurd (by rw[← e,List.mem_singleton.1 hw]) oe
 ·rw[ji]at hg
  have oe:g≠f':=fun e=>df (by unfold Ab.look;rw[h1,e];exact hf)
  exact(hc g hg).same (by rw[oM h3 hg,if_neg oe]) fun w hw e=>by
   rw[h4]at hw
   rcases List.mem_append.1 hw with hw|hw
   ·exact hw
   ·exact absurd (by rw[← e,List.mem_singleton.1 hw]) oe
 ·unfold Ab.now
  rw[oM h3 T2,if_pos rfl];rfl
def nk.sync(h:nk k A)(hs:fR nm A e B) :
  nk k B∧Kept A B (fun _=>False)∧B.names=A.names∧B.aj=A.aj∧(e=0→aaG A nm→sc B)∧(e=0→∃f,A.look nm=some f∧B.now f=A.now f∧∀w,Oc B f w→w=A.now f):=by
 rcases yT hs with⟨h0,hq⟩|⟨h0,f,hf,h1,h2,h3,h4⟩
 ·exact⟨h.eqv hq (List.Subset.refl _),Kept.eqv hq _,hq.names,hq.aj,fun h=>absurd h h0,fun h=>absurd h h0⟩
 have ji:B.fs.map (·.1)=A.fs.map (·.1):=F9 h3
 have T2:=((h.nm _ h.mem).look hf).1
 have hold:∀g,g∈A.fs.map (·.1)→∀w,Oc B g w→Oc A g w:=fun g hg w hw=>by
  rcases Oc.sync h3 h4 hg hw with⟨_,h5⟩|⟨h5,h6⟩
  ·exact h5
  ·rw[h5,h6];exact h.zw f T2
 have bP:∀st∈B.aj,st∈A.aj:=fun st hs=>by rw[h2]at hs;exact hs
 refine⟨h.step (List.Subset.refl _) (fun g hg=>by rw[ji];exact hg) (by rw[ji];exact h.ids) (by rw[h1,h2];exact h.mem) (fun w hw=>?_) (fun g hg=>?_) (fun st hs a g hg w hw => .inl (hold g ((h.nm st hs).look hg).1 w hw)) (fun st hs => .inl (bP st hs)) (fun g hg OV=>?_) (Mh hs),⟨fun a R _ har=>har.step h.mem (fun st hs => .inl (bP st hs)) fun g hg w hw=>hold g ((h.nm _ h.mem).look hg).1 w hw,fun a _ har=>har.step h.mem fun st hs => .inl (bP st hs)⟩,h1,h2,fun _ hc g hg=>?_,fun _=>⟨f,hf,?_,fun w hw=>?_⟩⟩
 ·rw[h4]at hw
  rw[ji]
  exact h.eg w (List.mem_filter.1 hw).1
 ·rw[ji]at hg
  unfold Oc Ab.now
  rw[j6 h3 hg,h4]
  by_cases oe:g=f
  ·rw[if_pos oe];exact gw.uG
  ·rw[if_neg oe]
   exact gw.rN (fun w MZ=>by rw[MZ];simp[oe]) (h.zw g hg)
 ·rw[ji]at hg
  have oe:g≠f:=fun e=>OV _ (by rw[h2];exact h.mem) nm (by rw[e];exact hf)
  exact(h.cl g hg fun st hs a=>OV st (by rw[h2];exact hs) a).same (by rw[j6 h3 hg,if_neg oe]) fun w hw _=>by rw[h4]at hw;exact(List.mem_filter.1 hw).1
 ·rw[ji]at hg
  by_cases oe:g=f
  ·refine⟨by rw[j6 h3 hg,if_pos oe],fun w hw e=>?_⟩
   rw[h4]at hw
   have:=(List.mem_filter.1 hw).2
   rw[e,oe]at this
   simp at this
  ·exact(hc g hg fun e=>oe (Option.some.inj (e.symm.trans hf))).same (by rw[j6 h3 hg,if_neg oe]) fun w hw _=>by rw[h4]at hw;exact(List.mem_filter.1 hw).1
 ·unfold Ab.now
  rw[j6 h3 T2,if_pos rfl]
 ·rcases Oc.sync h3 h4 T2 hw with⟨h5,_⟩|⟨_,h5⟩
  ·exact absurd rfl h5
  ·exact h5
end Go.Proofs.YthnfckodljbgbaaGreatDoor
namespace Go.SL
open Go
abbrev jB:=BitVec 64
def Pa(x:jB):Value := .int .u64 (x.toNat:Int)
def qV(l:List jB):List Value:=l.map Pa
theorem IJ(l:List jB):(qV l).length=l.length:=by simp[qV]
def Dl{l:List jB}{i:Nat}{x:jB}(h:l[i]?=some x):(qV l)[i]?=some (Pa x):=by simp[qV,h]
def PO(l:List jB)(i:Nat)(x:jB):(qV l).set i (Pa x)=qV (l.set i x):=by simp[qV]
theorem CZ(n:Nat):IntKind.u64.wrap (n:Int)=((n%18446744073709551616:Nat):Int):=by
 simp[IntKind.wrap,IntKind.bits,IntKind.signed]
theorem ox(p:jB):BitVec.ofInt IntKind.u64.bits ((p.toNat:Nat):Int)=p:=by
 apply BitVec.eq_of_toNat_eq
 have h:IntKind.u64.bits=64:=rfl
 grind
section
variable{P:Program}{U:Tr}[hU:gq P U]{f:FuncId}{n:Nat}{R:Ending→World→Prop}{G:cQ}{k:List Item}{L:fY}{H H':List HP}{S:World→Prop}{all:Array Oper}{rest:Pl}{ty:TypeId}{pos:String}{af:Array Edge}{gd:Option (Nat × Bool)}{m:Bool}{d:Tmp}
theorem xe{t yt:TypeId}{x y:Operand}{p q:jB}(hd:Nat.blt d n=true)(hx:ev L x=some (.int .u64 (p.toNat:Int)))(hy:ev L y=some (.int .u64 (q.toNat:Int)))(h:J P f n R G S all rest k ((d,.int .u64 ((p+q).toNat:Int))::L) H):J P f n R G S all (.cons m true ⟨some d,.binOp .add t x y yt,ty,pos,af,gd⟩ rest) k L H:=by
 refine Se hd hx hy ?_
 have e:IntKind.u64.wrap ((p.toNat:Int)+(q.toNat:Int))=((p+q).toNat:Int):=by
  grind [CZ]
 rw[e];exact h
theorem nz(p:jB):IntKind.u64.wrap (p.toNat:Int)=(p.toNat:Int):=by
 rw[CZ];have:=p.isLt;congr 1;omega
def qZ{t yt:TypeId}{x y:Operand}{p:jB}{j':IntKind}{q:Int}(s:Nat)(hd:Nat.blt d n=true)(hx:ev L x=some (.int .u64 (p.toNat:Int)))(hy:ev L y=some (.int j' q))(hq:q=(s:Int))(hs:s≤64)(h:J P f n R G S all rest k ((d,.int .u64 ((p >>> s).toNat:Int))::L) H):J P f n R G S all (.cons m true ⟨some d,.binOp .shr t x y yt,ty,pos,af,gd⟩ rest) k L H:=by
 subst hq
 refine jN hd hx hy ag ?_
 have e:(p.toNat:Int)/2 ^ (min ((s:Int).toNat) IntKind.u64.bits)=((p >>> s).toNat:Int):=by
  rw[BitVec.toNat_ushiftRight,Nat.shiftRight_eq_div_pow,Int.toNat_natCast,show min s IntKind.u64.bits=s from by show min s 64=s;omega]
  simp
 rw[e];exact h
def aaz{t yt:TypeId}{x y:Operand}{p:jB}{j':IntKind}{q:Int}(s:Nat)(hd:Nat.blt d n=true)(hx:ev L x=some (.int .u64 (p.toNat:Int)))(hy:ev L y=some (.int j' q))(hq:q=(s:Int))(hs:s≤64)(h:J P f n R G S all rest k ((d,.int .u64 ((p <<< s).toNat:Int))::L) H):J P f n R G S all (.cons m true ⟨some d,.binOp .shl t x y yt,ty,pos,af,gd⟩ rest) k L H:=by
 subst hq
 refine n8 hd hx hy ag ?_
 have e:IntKind.u64.wrap ((p.toNat:Int)*2 ^ (min ((s:Int).toNat) IntKind.u64.bits))=((p <<< s).toNat:Int):=by
  rw[BitVec.toNat_shiftLeft,Nat.shiftLeft_eq,Int.toNat_natCast,show min s IntKind.u64.bits=s from by show min s 64=s;omega]
  rw[show(p.toNat:Int)*2 ^ s=((p.toNat*2 ^ s:Nat):Int)from by simp,CZ]
 rw[e];exact h
end
end Go.SL
namespace Go.Proofs.YthnfckodljbgbaaGreatDoor
open Go Go.SL
variable{bs:List UInt8}{i k n:Nat}
def dS(n i:Nat):Option Nat:=if i%2=1 then some (i-1)else if i+1<n then some (i+1)else none
def e7:Nat→Nat→Nat→Nat
 | 0,_,_=>0
 | f+1,n,i=>if n≤1 then 0 else(if(dS n i).isSome then 1 else 0)+e7 f ((n+1)/2) (i/2)
def dB(n i:Int):Nat:=if 1≤n∧n≤1024∧0≤i∧i<n then e7 n.toNat n.toNat i.toNat else 0
def dz:Nat→List Dg→Nat→List Dg
 | 0,_,_=>[]
 | f+1,l,i=>if l.length≤1 then []else((dS l.length i).bind fun s=>l[s]?).toList++dz f (bN l) (i/2)
def im:Nat→Nat→Nat→Dg→List Dg→Dg
 | 0,_,_,x,_=>x
 | f+1,n,i,x,p=>if n≤1 then x else match dS n i with
  | none=>im f ((n+1)/2) (i/2) x p
  | some s=>im f ((n+1)/2) (i/2) (if s<i then eY (p.headD Dg.zero) x else eY x (p.headD Dg.zero)) p.tail
def gS(root:Dg)(n i:Int)(x:Dg)(p:List Dg):Bool:=decide ((1≤n∧n≤1024∧0≤i∧i<n)∧p.length=dB n i∧im n.toNat n.toNat i.toNat x p=root)
def dw(x:Bl)(i:Int)(b:List UInt8)(p:List Dg):Bool:=match dI x i with
 | none=>false
 | some (_,m)=>decide ((b.length:Int)=m) && gS x.root (cC x) i (cS b) p
def xR:∀(f g n i:Nat),n≤f→n≤g→e7 f n i=e7 g n i
 | 0,0,_,_,_,_=>rfl
 | 0,g+1,n,i,hf,_=>by
  obtain rfl:n=0:=by omega
  rfl
 | f+1,0,n,i,_,hg=>by
  obtain rfl:n=0:=by omega
  rfl
 | f+1,g+1,n,i,hf,hg=>by
  unfold e7
  split
  ·rfl
  ·rw[xR f g ((n+1)/2) (i/2) ag ag]
theorem xQ(f n i:Nat)(hf:n≤f)(hn:1<n):e7 f n i=(if(dS n i).isSome then 1 else 0)+e7 f ((n+1)/2) (i/2):=by
 rw[xR f (f+1) n i hf ag]
 grind [e7]
def JI(f n i:Nat)(hn:n≤1):e7 f n i=0:=by
 cases f with
 | zero=>rfl
 | succ f=>unfold e7;rw[if_pos hn]
def qR:∀(f g n i:Nat) (x:Dg) (p:List Dg),n≤f→n≤g→im f n i x p=im g n i x p
 | 0,0,_,_,_,_,_,_=>rfl
 | 0,g+1,n,i,x,p,hf,_=>by
  obtain rfl:n=0:=by omega
  rfl
 | f+1,0,n,i,x,p,_,hg=>by
  obtain rfl:n=0:=by omega
  rfl
 | f+1,g+1,n,i,x,p,hf,hg=>by
  unfold im
  split
  ·rfl
  ·split
   ·exact qR f g _ _ _ _ ag ag
   ·exact qR f g _ _ _ _ ag ag
theorem GZ(f n i:Nat)(x:Dg)(p:List Dg)(hf:n≤f)(hn:1<n):im f n i x p=match dS n i with
  | none=>im f ((n+1)/2) (i/2) x p
  | some s=>im f ((n+1)/2) (i/2) (if s<i then eY (p.headD Dg.zero) x else eY x (p.headD Dg.zero)) p.tail:=by
 rw[qR f (f+1) n i x p hf ag]
 grind [im]
theorem qv:∀(f g:Nat) (l:List Dg) (i:Nat),l.length≤f→l.length≤g→dz f l i=dz g l i
 | 0,0,_,_,_,_=>rfl
 | 0,g+1,l,i,hf,_=>by
  grind [dz]
 | f+1,0,l,i,_,hg=>by
  grind [dz]
 | f+1,g+1,l,i,hf,hg=>by
  unfold dz
  split
  ·rfl
  ·rw[qv f g (bN l) (i/2) (by rw[dp];omega) (by rw[dp];omega)]
theorem FE(f:Nat)(l:List Dg)(i:Nat)(hf:l.length≤f)(hn:1<l.length):dz f l i=((dS l.length i).bind fun s=>l[s]?).toList++dz f (bN l) (i/2):=by
 rw[qv f (f+1) l i hf ag]
 grind [dz]
def IL(f:Nat)(l:List Dg)(i:Nat)(hn:l.length≤1):dz f l i=[]:=by
 cases f with
 | zero=>rfl
 | succ f=>unfold dz;rw[if_pos hn]
theorem Ky{s:Nat}(hi:i<n)(h:dS n i=some s):s<n∧s/2=i/2∧s≠i:=by
 grind [dS]
theorem zp:∀(f:Nat) (l:List Dg) (i:Nat),i<l.length→(dz f l i).length=e7 f l.length i
 | 0,_,_,_=>rfl
 | f+1,l,i,hi=>by
  unfold dz e7
  split
  ·rfl
  ·have ih:=zp f (bN l) (i/2) (by rw[dp];omega)
   grind [dp,dS,Ky]
theorem wL:∀(k f n i:Nat),n≤2 ^ k→e7 f n i≤k
 | 0,f,n,i,h=>by rw[JI f n i (by simpa using h)];exact Nat.le_refl _
 | k+1,0,n,i,h=>Nat.zero_le _
 | k+1,f+1,n,i,h=>by
  unfold e7
  split
  ·grind
  ·have:=wL k f ((n+1)/2) (i/2) ag
   grind
theorem oQ(n i:Int):dB n i≤10:=by
 unfold dB
 split
 ·exact wL 10 _ _ _ ag
 grind
theorem AB{κ:Type}[DecidableEq κ](es:List (κ × Value))(k d:κ)(v:Value):dP (gG es k v) d=if d=k then some v else dP es d:=by
 unfold gG
 by_cases hk:k∈es.map (·.1)
 ·rw[if_pos hk]
  unfold dP
  rw[List.find?_map]
  have hf:((fun x:κ × Value=>decide (x.1=d)) ∘ fun x:κ × Value=>if x.1=k then(k,v)else x)=fun x=>decide (x.1=d):=by
   grind
  rw[hf]
  by_cases hd:d=k
  ·subst hd
   rw[if_pos rfl]
   obtain⟨y,hy,hyd⟩:=List.mem_map.1 hk
   cases hx:es.find? (fun x=>decide (x.1=d))with
   | none=>have:=List.find?_eq_none.1 hx y hy;simp[hyd]at this
   | some x =>
    grind
  ·rw[if_neg hd]
   cases hx:es.find? (fun x=>decide (x.1=d))with
   | none=>rfl
   | some x =>
    grind
 grind [dP]
def D0(k:Nat):jB:=(1#64) <<< k
def cG(ws:List jB)(n:Nat)(i:Int):Bool:=decide (0≤i∧i<n) && decide (((ws.getD (i.toNat/64) 0#64) >>> (i.toNat%64)) &&& 1#64=1#64)
def ku(ws:List jB)(i:Nat)(one:Bool):List jB:=ws.set (i/64) (if one then ws.getD (i/64) 0#64 ||| D0 (i%64)else ws.getD (i/64) 0#64 &&& ~~~(D0 (i%64)))
def jG(ws:List jB)(i:Nat)(one:Bool):(ku ws i one).length=ws.length:=by simp[ku]
theorem UH(w:jB)(k:Nat):(w >>> k &&& 1#64=1#64)↔w.getLsbD k=true:=by
 constructor
 ·intro h
  have:=congrArg (fun x:jB=>x.getLsbD 0) h
  simpa using this
 grind
theorem Ly(k i:Nat)(hk:k<64)(hi:i<64):(D0 k).getLsbD i=decide (i=k):=by
 grind [D0]
theorem Gz{ws:List jB}(hi:i<n):cG ws n (i:Int)=(ws.getD (i/64) 0#64).getLsbD (i%64):=by
 grind [cG,UH]
theorem Gy{ws:List jB}{j:Nat}{one:Bool}(hw:n≤ws.length*64)(hi:i<n)(hj:j<n):cG (ku ws i one) n (j:Int)=if j=i then one else cG ws n (j:Int):=by
 rw[Gz hj,Gz hj]
 unfold ku
 have me:i/64<ws.length:=by omega
 by_cases h:j/64=i/64
 ·rw[h,List.getD_eq_getElem?_getD,List.getElem?_set_self me,Option.getD_some]
  cases one with
  | true =>
   grind [Ly]
  | false =>
   grind [Ly]
 grind
theorem lM{ws:List jB}{i:Int}(h:i<0∨(n:Int)≤i):cG ws n i=false:=by
 grind [cG]
theorem uS(m n:Nat)(i:Int):cG (List.replicate m 0#64) n i=false:=by
 grind [cG]
def eF(sb n:Nat)(wv:Value)(ws:List jB):List HP:=[ae sb (cl [.int .i64 (n:Int),wv] 137),aF 133 1 wv ws.length (qV ws)]
structure Tk where
 yb:Nat
 sb:Nat
 mb:Nat
 x:Bl
 n:Nat
 ws:List jB
 pf:Int→Option (List Dg)
def LA(z:Value × List (Int × Value) × fW)(y:Tk):Prop:=∀k,match dP z.2.1 k with
 | none=>y.pf k=none
 | some v=>∃l,y.pf k=some l∧EG z.2.2 32 v l.length (l.flatMap dC)
def nA(y:Tk):List Value:=bH y.x++[ptr y.sb,.map (some y.mb)]
def rS(y:Tk)(z:Value × List (Int × Value) × fW):List HP:=[ae y.yb (cl (nA y) 80),ae y.sb (cl [.int .i64 (y.n:Int),z.1] 137),aF 133 1 z.1 y.ws.length (qV y.ws),aL (Value.int .i64) y.mb z.2.1,bh 37 z.2.2]
def rn(y:Tk):HP:=fun h=>∃z:Value × List (Int × Value) × fW,LA z y∧Sep (rS y z) h
def fQ(y:Tk):∀h,rn y h→∃z:Value × List (Int × Value) × fW,LA z y∧Sep (rS y z) h:=fun h hs=>hs
def iM{y:Tk}{z:Value × List (Int × Value) × fW}(hR:LA z y)(H:List HP):ak (rS y z++H) (rn y::H) :=
 ak.fold (B:=rS y z) fun h hp=>⟨h,sub.refl h,z,hR,hp⟩
theorem LA.put{z:Value × List (Int × Value) × fW}{y:Tk}(h:LA z y)(k:Int)(v wv:Value)(l:List Dg)(M:fW)(hM:∀a∈z.2.2,a∈M)(hv:EG M 32 v l.length (l.flatMap dC))(y':Tk)(hy:y'.pf=fun j=>if j=k then some l else y.pf j):LA (wv,gG z.2.1 k v,M) y':=fun j=>by
 rw[hy]
 simp only
 rw[AB]
 by_cases hj:j=k
 ·grind
 ·rw[if_neg hj,if_neg hj]
  have:=h j
  cases hx:dP z.2.1 j with
  | none=>rw[hx]at this;exact this
  | some u =>
   rw[hx]at this
   obtain⟨l',h1,h2⟩:=this
   exact⟨l',h1,h2.mono hM⟩
def bD(ts:List Tk):HP:=Sep (ts.map rn)
def Ks(H:List HP):ak H (bD []::H):=ak.pS H
def C3(a b:List Tk)(y:Tk)(H:List HP):ak (bD (a++y::b)::H) (rn y::bD (a++b)::H):=by
 unfold bD
 rw[List.map_append,List.map_cons,List.map_append]
 refine(ak.cK _ _).trans ((ak.perm (H':=rn y::((a.map rn++b.map rn)++H)) ?_).trans (ak.cons _ (ak.bX _ _)))
 simp_all
def vQ(a b:List Tk)(y:Tk)(H:List HP):ak (rn y::bD (a++b)::H) (bD (a++y::b)::H):=by
 unfold bD
 rw[List.map_append,List.map_append,List.map_cons]
 refine(ak.cons _ (ak.cK _ _)).trans ((ak.perm (H':=(a.map rn++rn y::b.map rn)++H) ?_).trans (ak.bX _ _))
 rw[List.append_assoc,List.append_assoc,List.cons_append]
 exact List.perm_middle.symm
def Ik{ts:List Tk}{y:Tk}(h:ts[i]?=some y):ts=ts.take i++y::ts.drop (i+1):=by
 obtain⟨hi,rfl⟩:=List.getElem?_eq_some_iff.1 h
 simp_all
def kq{ts:List Tk}{y:Tk}(h:ts[i]?=some y)(H:List HP):ak (bD ts::H) (rn y::bD (ts.take i++ts.drop (i+1))::H):=by
 have:=C3 (ts.take i) (ts.drop (i+1)) y H
 rwa[← Ik h]at this
def Kr{ts:List Tk}{y:Tk}(h:ts[i]?=some y)(y':Tk)(H:List HP):ak (rn y'::bD (ts.take i++ts.drop (i+1))::H) (bD (ts.set i y')::H):=by
 have hi:=(List.getElem?_eq_some_iff.1 h).1
 rw[List.set_eq_take_append_cons_drop,if_pos hi]
 exact vQ (ts.take i) (ts.drop (i+1)) y' H
def lx{ts:List Tk}{y:Tk}(h:ts[i]?=some y)(H:List HP):ak (rn y::bD (ts.take i++ts.drop (i+1))::H) (bD ts::H):=by
 have:=vQ (ts.take i) (ts.drop (i+1)) y H
 rwa[← Ik h]at this
def cT(y:Tk):Value:=ptr y.yb
def fe(tb bs jb:Nat)(v:Value)(ts:List Tk)(br:Bool):List HP:=[ae tb (cl [ptr bs,ptr jb,v,.bool br] 74),aF 76 1 v ts.length (ts.map cT),bD ts]
def rl{ts:List Tk}{y:Tk}(h:ts[i]?=some y):(ts.map cT)[i]?=some (ptr y.yb):=by rw[List.getElem?_map,h];rfl
attribute [local irreducible] J K aD Ends ae aF aL bU bo aU bh bq
def zv(n:Nat)(h:n<9223372036854775808):aD Tryz.prog 201 [.int .i64 (n:Int)] [] (fun v H=>∃b,v = .slice (some ⟨b,0,none⟩) 4 4∧H=[ae b (cl (bV (xH n)) 5)]):=by
 refine aD.aw Tryz.func201 Tryz.ntmps201 fun G F R hE=>?_
 (repeat(first|refine eZ ?_|refine jv zr zr zr zr zr zr ?_|refine jN zr zr zr ag ?_))
 refine az 4 (u8 (UInt8.ofNat n)) rfl (mg n) ?_
 refine az 7 (u8 (UInt8.ofNat (n/256))) rfl (by rw[show(n:Int)/2 ^ (min (Int.toNat 8) IntKind.i64.bits)=((n/256:Nat):Int)from by show(n:Int)/256=_;omega];exact mg _) ?_
 refine az 10 (u8 (UInt8.ofNat (n/65536))) rfl (by rw[show(n:Int)/2 ^ (min (Int.toNat 16) IntKind.i64.bits)=((n/65536:Nat):Int)from by show(n:Int)/65536=_;omega];exact mg _) ?_
 refine az 13 (u8 (UInt8.ofNat (n/16777216))) rfl (by rw[show(n:Int)/2 ^ (min (Int.toNat 24) IntKind.i64.bits)=((n/16777216:Nat):Int)from by show(n:Int)/16777216=_;omega];exact mg _) ?_
 refine ao (cs:=bV (xH n)) zr zr zr zr zr zr zr zr zr bE ?_
 intro b
 refine go ?_
 refine ad hE Tryz.func201 zr zr ⟨b,rfl,rfl⟩
def EN(A:HP)(v:Value)(bs:List UInt8)(hv:Vw A v bs.length (bV bs))(h:4≤bs.length):aD Tryz.prog 186 [v] [A] (fun r H=>r = .int .i64 (jI bs:Int)∧H=[A]):=by
 obtain⟨b,o,c,rfl⟩:=RF hv ag
 have hx:∀x:UInt8,x.toNat<256:=fun x=>x.toNat_lt
 have h0:=hx (bs.getD 0 0);have h1:=hx (bs.getD 1 0);have h2:=hx (bs.getD 2 0);have h3:=hx (bs.getD 3 0)
 refine aD.aw Tryz.func186 Tryz.ntmps186 fun G F R hE=>?_
 refine go ?_
 refine aG (fun w=>Sat G w ([A])) (ly 0 23 .nil) rfl aq aq aq eo ?_
 refine go ?_
 refine bR 0 zr zr zr zr zr zr zr zr ag ?_
 refine bW 0 0 zr zr zr hv rfl (yz ag) zr zr (go ?_)
 refine bR 1 zr zr zr zr zr zr zr zr ag ?_
 refine bW 0 1 zr zr zr hv rfl (yz ag) zr zr (go ?_)
 refine n8 zr zr zr ag ?_
 refine az 11 (.int .i64 (((bs.getD 1 0).toNat*2 ^ 8:Nat):Int)) rfl (y8 (q:=8) _ rfl ag) (go ?_)
 refine az 12 (.int .i64 (((bs.getD 0 0).toNat+(bs.getD 1 0).toNat*2 ^ 8:Nat):Int)) rfl (congrArg (Value.int .i64) (IQ ag ag)) ?_
 refine bR 2 zr zr zr zr zr zr zr zr ag ?_
 refine bW 0 2 zr zr zr hv rfl (yz ag) zr zr (go ?_)
 refine n8 zr zr zr ag ?_
 refine az 17 (.int .i64 (((bs.getD 2 0).toNat*2 ^ 16:Nat):Int)) rfl (y8 (q:=16) _ rfl ag) (go ?_)
 refine az 18 (.int .i64 (((bs.getD 0 0).toNat+(bs.getD 1 0).toNat*2 ^ 8+(bs.getD 2 0).toNat*2 ^ 16:Nat):Int)) rfl (congrArg (Value.int .i64) (IQ ag ag)) ?_
 refine bR 3 zr zr zr zr zr zr zr zr ag ?_
 refine bW 0 3 zr zr zr hv rfl (yz ag) zr zr (go ?_)
 refine n8 zr zr zr ag ?_
 refine az 23 (.int .i64 (((bs.getD 3 0).toNat*2 ^ 24:Nat):Int)) rfl (y8 (q:=24) _ rfl ag) (go ?_)
 refine bj 2 (.int .i64 (jI bs:Int)) rfl (congrArg (Value.int .i64) (IQ ag ag)) ?_
 refine ad hE Tryz.func186 zr zr ⟨rfl,rfl⟩
def Oy(A B:HP)(v1 v2:Value)(b1 b2:List UInt8)(h1:Vw A v1 b1.length (bV b1))(h2:Vw B v2 b2.length (bV b2)):aD Tryz.prog 187 [v1,v2] [A,B] (fun r H=>r = .bool (decide (b1=b2))∧H=[A,B]):=by
 obtain⟨a1,c1,rfl⟩:=h1.shape
 obtain⟨a2,c2,rfl⟩:=h2.shape
 refine aD.aw Tryz.func187 Tryz.ntmps187 fun G F R hE=>?_
 refine go ?_
 refine Eh (U:=aR) 0 zr zr zr zr zr zr zr zr zr h1 (go ?_)
 refine Eh (U:=aR) 1 zr zr zr zr zr zr zr zr zr h2 (go ?_)
 rw[Cx]
 refine ad hE Tryz.func187 zr zr ⟨rfl,rfl⟩
theorem Oi(a b:Nat)(ha:a<4294967296)(hb:b<4294967296):aD Tryz.prog 241 [.int .u64 (a:Int),.int .u64 (b:Int)] [] (fun r H=>r = .tuple #[.int .u64 0,.int .u64 ((a*b:Nat):Int)]∧H=[]):=by
 have xP:a*b<18446744073709551616:=Nat.lt_of_lt_of_le (Nat.mul_lt_mul'' ha hb) ag
 have hw:∀x:Nat,x<18446744073709551616→IntKind.u64.wrap (x:Int)=(x:Int):=fun x hx=>cV (by simp only[gy];omega)
 have hm:∀x:Nat,x<4294967296→IntKind.u64.wrap ((BitVec.ofInt IntKind.u64.bits (x:Int) &&& BitVec.ofInt IntKind.u64.bits 4294967295).toNat:Int)=(x:Int):=fun x hx=>by
  have:=D6 x 32 ag ag
  grind
 have hs:∀x:Nat,x<4294967296→(x:Int)/2 ^ (min (Int.toNat 32) IntKind.u64.bits)=0:=fun x hx=>by show(x:Int)/4294967296=0;omega
 refine aD.aw Tryz.func241 Tryz.ntmps241 fun G F R hE=>?_
 refine go ?_
 refine az 6 (.int .u64 (a:Int)) rfl (congrArg (Value.int .u64) (hm a ha)) ?_
 refine jN zr zr zr ag ?_
 refine az 17 (.int .u64 0) rfl (congrArg (Value.int .u64) (hs a ha)) (go ?_)
 refine az 8 (.int .u64 (b:Int)) rfl (congrArg (Value.int .u64) (hm b hb)) ?_
 refine jN zr zr zr ag ?_
 refine az 21 (.int .u64 0) rfl (congrArg (Value.int .u64) (hs b hb)) (go ?_)
 refine iA zr zr zr (by rw[← Int.natCast_mul];simp only[gy];omega) ?_
 refine az 24 (.int .u64 ((a*b:Nat):Int)) rfl (by rw[Int.natCast_mul]) (go ?_)
 refine iA zr zr zr (by simp[gy]) ?_
 refine az 27 (.int .u64 0) rfl (by simp) (go ?_)
 refine jN zr zr zr ag ?_
 refine az 29 (.int .u64 ((a*b/4294967296:Nat):Int)) rfl (congrArg (Value.int .u64) (by show((a*b:Nat):Int)/4294967296=_;omega)) ?_
 refine go ?_
 refine az 11 (.int .u64 ((a*b/4294967296:Nat):Int)) rfl (congrArg (Value.int .u64) ag) (go ?_)
 have hq:a*b/4294967296<4294967296:=by omega
 refine az 12 (.int .u64 ((a*b/4294967296:Nat):Int)) rfl (congrArg (Value.int .u64) (by rw[show(0:Int)+((a*b/4294967296:Nat):Int)=((a*b/4294967296:Nat):Int)from by omega];exact hm _ hq)) ?_
 refine jN zr zr zr ag ?_
 refine az 34 (.int .u64 0) rfl (congrArg (Value.int .u64) (by simp only[Int.zero_add,Int.add_zero];exact hs _ hq)) ?_
 refine go ?_
 refine iA zr zr zr (by simp[gy]) ?_
 refine az 38 (.int .u64 0) rfl (by simp) (go ?_)
 refine iA zr zr zr (by simp[gy]) ?_
 refine az 42 (.int .u64 0) rfl (by simp) (go ?_)
 refine jN zr zr zr ag ?_
 refine az 46 (.int .u64 0) rfl (congrArg (Value.int .u64) (by rw[show((a*b/4294967296:Nat):Int)+0=((a*b/4294967296:Nat):Int)from by omega];exact hs (a*b/4294967296) hq)) ?_
 refine go ?_
 refine iA zr zr zr (by rw[← Int.natCast_mul];simp only[gy];omega) ?_
 refine az 50 (.int .u64 ((a*b:Nat):Int)) rfl (by rw[Int.natCast_mul]) (go ?_)
 refine ad hE Tryz.func241 zr zr ⟨rfl,rfl⟩
def UO(a b:Nat)(ha:a<4294967296)(hb:b<4294967296):aD Tryz.prog 221 [.int .u64 (a:Int),.int .u64 (b:Int)] [] (fun r H=>r = .tuple #[.int .u64 0,.int .u64 ((a*b:Nat):Int)]∧H=[]):=by
 refine aD.aw Tryz.func221 Tryz.ntmps221 fun G F R hE=>?_
 refine go ?_
 refine aN (Oi a b ha hb) ?_
 refine go ?_
 refine ad hE Tryz.func221 zr zr ⟨rfl,rfl⟩
theorem Hi(v:Value)(bs:List UInt8)(h0:0<bs.length)(hl:bs.length≤1000) :
  aD Tryz.prog 200 [v,.int .i64 2] [aF 5 1 v bs.length (bV bs)] (fun r H=>H=[aF 5 1 r (bs++bs).length (bV (bs++bs))]):=by
 refine aD.aw Tryz.func200 Tryz.ntmps200 fun G F R hE=>?_
 refine aax 0 rfl h0 ?_
 rintro b o c rfl hc _ dO
 refine go ?_
 refine aN (UO bs.length 2 ag ag) ?_
 repeat'(first|(with_reducible intro p6)|refine eZ ?_|refine au zr zr ?_ ?_)
 any_goals (exfalso;omega)
 obtain⟨N,hN⟩:∃N,N=bs.length*2:=⟨_,rfl⟩
 rw[← hN]
 refine El (U:=aR) (t:=40) (elem:=5) (q:=N) rfl Tryz.func222 zr zr aq zr zr zr zr ag (fun _ _ _ _=>trivial) ?_
 intro nb c2 l ya mT
 refine go ?_
 refine On (U:=aR) (q:=(N:Int)) (r:=(N:Int)) zr zr zr zr zr zr zr ag ag ag ?_
 refine az 57 (.slice (some ⟨nb,0,none⟩) N N) rfl (by rw[show((N:Int)).toNat=N from by omega];rw[SL.je]) ?_
 refine go ?_
 refine LL (U:=aR) (src:=bV bs) (mm:=bs.length) (l':=bV bs++l.drop bs.length) 0 1 zr zr zr zr zr zr zr zr dO (by show _=_*1;rw[bM];omega) (fun u hu=>db bs u (List.mem_of_mem_take hu)) (by show 0+_*1≤_;omega) ?_ rfl gf ?_
 ·show _=List.take 0 l++List.take (min bs.length N*1) (bV bs)++List.drop (0+min bs.length N*1) l
  grind
 rw[show((min bs.length N:Nat):Int)=(bs.length:Int)from by omega]
 refine go ?_
 refine bB (fun _:Bool=>True) (fun s=>bif s then 0 else 1)
  (fun s=>[(7,.int .i64 (N:Int)),(8,.int .i64 (N:Int)),(9,.slice (some ⟨nb,0,none⟩) N N),(10,.int .i64 ((bif s then N else bs.length:Nat):Int))])
  (fun s=>ae nb (cl (bif s then bV (bs++bs)++l.drop N else bV bs++l.drop bs.length) 5)::F) false trivial rfl ck ah ?_
 rintro s _ ih
 cases s with
 | true =>
  repeat'(first|(with_reducible intro p6)|refine eZ ?_|refine au zr zr ?_ ?_)
  any_goals (exfalso;simp only[cond_true]at *;omega)
  simp only[cond_true]
  refine ai (eS 5 1 nb N N (bV (bs++bs)) (l.drop N) _ (by rw[bM,List.length_append];omega) (Nat.le_refl _) (by rw[bM,List.length_append,List.length_drop];omega)) ?_
  rw[show N=(bs++bs).length from by rw[List.length_append];omega]
  refine aO hE Tryz.func200 rfl _ zr zr ah
 | false =>
  repeat'(first|(with_reducible intro p6)|refine eZ ?_|refine au zr zr ?_ ?_)
  any_goals (exfalso;simp only[cond_false]at *;omega)
  simp only[cond_false]
  rw[show min (bs.length:Int) (N:Int)=(bs.length:Int)from by omega]
  refine aG (fun w=>Sat G w ([])) (ly 0 7 (.act 7 (ly 8 2 .nil))) rfl aq aq aq eo ?_
  refine go ?_
  refine bt (p:=(bs.length:Int)) (q:=(N:Int)) zr zr zr zr zr zr zr ag ag (.inl rfl) ?_
  refine az 70 (.slice (some ⟨nb,bs.length,none⟩) bs.length bs.length) rfl (by rw[show((N:Int)).toNat=N from by omega,show((bs.length:Int)).toNat=bs.length from by omega,show N-bs.length=bs.length from by omega];show Value.slice (sliceAt _ N bs.length 1) _ _=_;rw[uh _ _ _ _ _ ag,Nat.zero_add,Nat.mul_one]) ?_
  refine go ?_
  refine bt (p:=0) (q:=(bs.length:Int)) zr zr zr zr zr zr zr ag ag (.inr ag) ?_
  refine az 73 (.slice (some ⟨nb,0,none⟩) bs.length N) rfl (by rw[show(0:Int).toNat=0 from rfl,show((bs.length:Int)).toNat=bs.length from by omega,SL.je];rfl) ?_
  refine LL (U:=aR) (src:=bV bs) (mm:=bs.length) (l':=bV (bs++bs)++l.drop N) 0 0 zr zr zr zr zr zr zr zr (Vw.ae (by simp)) (by show _=_*1;rw[bM];omega) (fun u hu=>db bs u (List.mem_of_mem_take hu)) (by show bs.length+_*1≤_;rw[List.length_append,bM,List.length_drop];omega) ?_ rfl (fun _ hw=>hw.cL (ak.U4 _)) ?_
  ·show _=List.take bs.length _++List.take (min bs.length bs.length*1) (bV bs)++List.drop (bs.length+min bs.length bs.length*1) _
   rw[show min bs.length bs.length*1=bs.length from by omega,List.take_of_length_le (l:=bV bs) (by rw[bM];omega),List.take_left' (bM bs),List.drop_append,bM,show(bV bs).drop (bs.length+bs.length)=[]from List.drop_eq_nil_of_le (by rw[bM];omega),List.drop_drop,show bs.length+(bs.length+bs.length-bs.length)=N from by omega]
   simp[bV]
  rw[show((min bs.length bs.length:Nat):Int)=(bs.length:Int)from by omega]
  refine go ?_
  refine bj 10 (.int .i64 (N:Int)) rfl (congrArg (Value.int .i64) ag) ?_
  refine aM ih true rfl trivial (by simp) ck ah
def bL(n m:Nat):List UInt8:=(xH n++xH m)++(xH n++xH m)
theorem dk(n m:Nat):(bL n m).length=16:=rfl
def zX(n m:Nat)(h:n<9223372036854775808)(h2:m<9223372036854775808):aD Tryz.prog 144 [.int .i64 (n:Int),.int .i64 (m:Int)] [] (fun r H=>H=[aF 5 1 r (bL n m).length (bV (bL n m))]):=by
 refine aD.aw Tryz.func144 Tryz.ntmps144 fun G F R hE=>?_
 refine go ?_
 refine aI (zv n h) ?_
 rintro _ _⟨b1,rfl,rfl⟩
 refine go ?_
 refine aI (zv m h2) ?_
 rintro _ _⟨b2,rfl,rfl⟩
 refine aJ (ak.pick [1] rfl) ?_
 refine aJ (eS 5 1 b1 4 4 (bV (xH n)) [] _ rfl (Nat.le_refl _) (by simp[bM,Dx])) ?_
 refine aT (mm:=4) (news:=bV (xH m)) 0 1 zr zr zr zr zr zr zr zr zr zr zr zr (Vw.ae rfl) rfl (db _) ag (by show(4+4)*1≤_;omega) (fun _=>rfl) bE ?_
 intro v1
 rw[show bV (xH n)++bV (xH m)=bV (xH n++xH m)from by simp[bV],show 4+4=(xH n++xH m).length from rfl]
 refine aI (Hi v1 (xH n++xH m) (by simp[Dx]) (by simp[Dx])) ?_
 rintro r _ rfl
 refine go ?_
 refine aO hE Tryz.func144 rfl _ zr zr ah
def qK(A:HP)(v:Value)(bs:List UInt8)(hv:eO A v bs)(hl:bs.length≤1000000000000):aD Tryz.prog 133 [v] [A] (fun r H=>H=[aF 5 1 r (aS bs).length (bV (aS bs)),A]):=by
 obtain⟨a,c,rfl,hc⟩:=hv.2
 refine aD.aw Tryz.func133 Tryz.ntmps133 fun G F R hE=>?_
 refine go ?_
 refine aI (nc bs.length ag) ?_
 rintro r _ rfl
 refine aP 0 rfl ?_
 rintro ra rc rfl
 refine go ?_
 have hu:=qh (n:=bs.length) ag
 refine aT (mm:=bs.length) (news:=bV bs) 0 1 zr zr zr zr zr zr zr zr zr zr zr zr hv.1 (by show _=_*1;rw[bM];omega) (db _) ag (by show(_+_)*1≤_;omega) (fun _=>rfl) bE ?_
 intro v1
 rw[show bV (uv bs.length)++bV bs=bV (aS bs)from by simp[bV,aS],show(uv bs.length).length+bs.length=(aS bs).length from by simp[aS]]
 refine go ?_
 refine aO hE Tryz.func133 rfl _ zr zr ah
theorem Qv(A:HP)(v:Value)(bs:List UInt8)(hv:eO A v bs)(hl:bs.length≤9223372036854775807) :
    aD Tryz.prog 185 [v] [A] (fun r H=>r=(match mP bs with
      | some (k,n) => .tuple #[.int .i64 (k:Int),.int .i64 (n:Int),.bool (decide (n≤4096))]
      | none => .tuple #[.int .i64 0,.int .i64 0,.bool false])∧H=[A]):=by
  obtain⟨a,c,rfl,hc⟩:=hv.2
  refine aD.aw Tryz.func185 Tryz.ntmps185 fun G F R hE=>?_
  refine go ?_
  refine bB (fun k:Nat=>1≤k∧k≤3∧(2≤k→1≤bs.length∧dr (bs.take 1)=none)∧(3≤k→2≤bs.length∧dr (bs.take 2)=none)) (fun k=>3-k)
    (fun k=>[(0,.slice a bs.length c),(5,.int .i64 (k:Int))])
    (fun _=>A::F) 1 ⟨ag,ag,ag,ag⟩ rfl ck ah ?_
  rintro k⟨xN,rV,h1,h2⟩ ih
  refine go ?_
  refine au zr zr ?_ ?_
  case' refine_2 =>
    intro fO
    have hn:mP bs=none:=by
      unfold mP
      split
      · obtain⟨_,h3⟩:=h1 ag
        rw[h3]
        simp only
        split
        · obtain⟨_,h4⟩:=h2 ag
          rw[h4];rfl
        · rfl
      · rfl
    rw[hn]at hE
    refine go ?_
    refine ad hE Tryz.func185 zr zr ⟨rfl,rfl⟩
  intro dJ
  have hkl:k≤bs.length:=by omega
  refine go ?_
  refine bt (p:=0) (q:=(k:Int)) zr zr zr zr zr zr zr ag ag (.inr ag) ?_
  have hf:=hv.front k hkl
  refine az 18 (.slice (sliceAt a c 0 1) k c) rfl (by rw[show(0:Int).toNat=0 from rfl,show((k:Int)).toNat=k from by omega];rfl) ?_
  ((refine aI (nf A _ (bs.take k) hf (by rw[List.length_take];omega)) ?_))
  cases hu:dr (bs.take k)with
  | none =>
    rintro _ _⟨rfl,rfl⟩
    refine go ?_
    refine aM ih (k+1) rfl ⟨ag,ag,fun h=>by
      by_cases hk:k=1
      · grind
      · exact h1 ag,fun h=>by
      have hk:k=2:=by omega
      subst hk;exact⟨ag,hu⟩⟩ ag ck ah
  | some n =>
    rintro _ _⟨rfl,rfl⟩
    have afW:=pg hu (by rw[List.length_take];omega)
    have I':mP bs=some (k,n):=by
      unfold mP
      rw[if_pos ag]
      by_cases hk:k=1
      · grind
      · have hk:k=2:=by omega
        grind
    rw[I']at hE
    simp only at hE
    rw[show decide (n≤4096)=decide ((n:Int)≤4096)from decide_eq_decide.2 ⟨fun _=>by omega,fun _=>by omega⟩]at hE
    refine go ?_
    refine ad hE Tryz.func185 zr zr ⟨rfl,rfl⟩
def lj(b:List UInt8)(k last:Nat):Bool :=
 let h:=(b.drop (16*k)).take 16
 decide (last<jI h∧jI h≤1073741824∧jI h%2=k∧jI (h.drop 4)+32≤b.length∧h=bL (jI h) (jI (h.drop 4)))
def eU(b:List UInt8)(k:Nat)(s:Nat × Nat):Nat × Nat:=if lj b k s.1 then(jI ((b.drop (16*k)).take 16),jI (((b.drop (16*k)).take 16).drop 4))else s
def fu(b:List UInt8):List UInt8:=if b.length<32 then []else(b.drop 32).take (eU b 1 (eU b 0 (0,0))).2
def ae9{b:List UInt8}(hk:16*k+16≤b.length):((b.drop (16*k)).take 16).length=16:=by rw[List.length_take,List.length_drop];omega
theorem Nu(A:HP)(v:Value)(b:List UInt8)(hv:eO A v b)(hl:b.length≤9223372036854775807) :
  aD Tryz.prog 126 [v] [A] (fun r H=>eO A r (fu b)∧H=[A]):=by
 obtain⟨a,c,rfl,hc⟩:=hv.2
 refine aD.aw Tryz.func126 Tryz.ntmps126 fun G F R hE=>?_
 repeat'(first|(with_reducible intro p6)|refine eZ ?_|refine au zr zr ?_ ?_)
 case' refine_1 =>
  have hn:fu b=[]:=by unfold fu;rw[if_pos ag]
  rw[hn]at hE
  refine ad hE Tryz.func126 zr zr ⟨⟨FP A,none,0,rfl,Nat.le_refl _⟩,rfl⟩
 have agb:32≤b.length:=by omega
 refine bB (fun s:Nat × Nat × Nat=>s.1≤2∧(s.1=0→s.2=(0,0))∧(s.1=1→s.2=eU b 0 (0,0))∧(s.1=2→s.2=eU b 1 (eU b 0 (0,0)))∧s.2.2+32≤b.length∧s.2.1≤1073741824) (fun s=>2-s.1)
  (fun s=>[(0,.slice a b.length c),(3,.int .i64 (s.2.1:Int)),(4,.int .i64 (s.2.2:Int)),(12,.int .i64 (s.1:Int))])
  (fun _=>A::F) (0,0,0) ⟨ag,fun _=>rfl,ag,ag,by simp only;omega,by simp only;omega⟩ rfl ck ah ?_
 rintro⟨k,last,len⟩⟨hk,hk0,xN,rV,hlen,nG⟩ ih
 simp only at hk hk0 xN rV hlen nG
 refine go ?_
 refine au zr zr ?_ ?_
 case' refine_2 =>
  intro fO
  simp only at fO
  have h2:=rV ag
  have hf:fu b=(b.drop 32).take len:=by unfold fu;rw[if_neg ag,← h2]
  refine go ?_
  refine bt (p:=32) (q:=32+(len:Int)) zr zr zr zr zr zr zr ag ag (.inr ag) ?_
  have hp:=hv.piece 32 (32+len) ag ag
  rw[show 32+len-32=len from by omega,← hf]at hp
  refine az 58 (.slice (sliceAt a c 32 1) len (c-32)) rfl (by rw[show(32:Int).toNat=32 from rfl,show(32+(len:Int)).toNat=32+len from by omega,show 32+len-32=len from by omega];rfl) ?_
  refine go ?_
  refine ad hE Tryz.func126 zr zr ⟨hp,rfl⟩
 intro dJ
 simp only at dJ
 have aeV:16*k+16≤b.length:=by omega
 refine go ?_
 refine iA zr zr zr (by simp only[gy];omega) ?_
 refine az 17 (.int .i64 ((16*k:Nat):Int)) rfl (congrArg (Value.int .i64) (by simp only;omega)) ?_
 refine bt (p:=((16*k:Nat):Int)) (q:=(b.length:Int)) zr zr zr zr zr zr zr ag ag (.inl rfl) ?_
 refine az 18 (.slice (sliceAt a c (16*k) 1) (b.length-16*k) (c-16*k)) rfl (by rw[show(((16*k:Nat):Int)).toNat=16*k from by omega,show((b.length:Int)).toNat=b.length from by omega];rfl) ?_
 have hh1:=hv.cut (16*k) ag
 refine bt (p:=0) (q:=16) zr zr zr zr zr zr zr ag ag (.inr ag) ?_
 obtain⟨hd,hhd⟩:∃hd,hd=(b.drop (16*k)).take 16:=⟨_,rfl⟩
 have ED:hd.length=16:=by rw[hhd];exact ae9 aeV
 obtain⟨a1,ha1⟩:∃a1,a1=sliceAt (sliceAt a c (16*k) 1) (c-16*k) 0 1:=⟨_,rfl⟩
 have hh2:eO A (.slice a1 16 (c-16*k)) hd:=by
  rw[show b.length-16*k=(b.drop (16*k)).length from by rw[List.length_drop]]at hh1
  have:=hh1.front 16 (by rw[List.length_drop];omega)
  grind
 refine az 19 (.slice a1 16 (c-16*k)) rfl (by rw[show(0:Int).toNat=0 from rfl,show(16:Int).toNat=16 from rfl,ha1];rfl) ?_
 refine go ?_
 refine aG (fun w=>Sat G w ([])) (.st 0 (.st 2 (.st 3 (.act 1 (.act 4 (.st 5 (.st 6 .nil))))))) rfl aq aq aq eo ?_
 refine go ?_
 refine bt (p:=4) (q:=16) zr zr zr zr zr zr zr ag ag (.inl rfl) ?_
 have hh3:=(show eO A (.slice a1 hd.length (c-16*k)) hd by rw[ED];exact hh2).cut 4 ag
 rw[ED]at hh3
 refine az 23 (.slice (sliceAt a1 (c-16*k) 4 1) (16-4) (c-16*k-4)) rfl (by rw[show(4:Int).toNat=4 from rfl,show(16:Int).toNat=16 from rfl];rfl) ?_
 refine bp (EN A _ hd hh2.1 ag) ?_
 ((refine dy (EN A _ (hd.drop 4) hh3.1 (by rw[List.length_drop];omega)) ?_))
 rintro _ _⟨rfl,rfl⟩
 have hn:=Qy hd
 have hm:=Qy (hd.drop 4)
 have iJ:lj b k last=decide (last<jI hd∧jI hd≤1073741824∧jI hd%2=k∧jI (hd.drop 4)+32≤b.length∧hd=bL (jI hd) (jI (hd.drop 4))):=by unfold lj;rw[← hhd]
 have qd:∀s':Nat × Nat,s'=eU b k (last,len)→s'.2+32≤b.length∧s'.1≤1073741824→(k+1≤2∧(k+1=0→s'=(0,0))∧(k+1=1→s'=eU b 0 (0,0))∧(k+1=2→s'=eU b 1 (eU b 0 (0,0)))∧s'.2+32≤b.length∧s'.1≤1073741824):=by
  grind
 have jj:lj b k last=false→(last,len)=eU b k (last,len):=fun h=>by unfold eU;rw[if_neg (by rw[h];simp)]
 have uN:lj b k last=true→(jI hd,jI (hd.drop 4))=eU b k (last,len):=fun h=>by unfold eU;rw[if_pos h,← hhd]
 repeat'(first|(with_reducible intro p6)|refine eZ ?_|refine hJ zr zr zr zr ?_ ?_|refine nT zr zr zr ag ag ?_)
 any_goals (
  have hf:lj b k last=false:=by rw[iJ];exact decide_eq_false (fun h=>by simp only at *;omega)
  refine aM ih (k+1,last,len) rfl (qd _ (jj hf) ⟨hlen,nG⟩) (by simp only;omega) ck ah)
 refine aI (zX (jI hd) (jI (hd.drop 4)) ag ag) ?_
 rintro wx _ rfl
 refine jt 0 rfl ?_
 intro hvh
 refine aP 0 rfl ?_
 rintro xa xc rfl
 refine go ?_
 refine aN (Oy A (aF 5 1 (.slice xa (bL (jI hd) (jI (hd.drop 4))).length xc) (bL (jI hd) (jI (hd.drop 4))).length (bV (bL (jI hd) (jI (hd.drop 4))))) (.slice a1 16 (c-16*k)) (.slice xa (bL (jI hd) (jI (hd.drop 4))).length xc) hd (bL (jI hd) (jI (hd.drop 4))) hh2.1 hvh) ?_
 repeat'(first|(with_reducible intro p6)|refine eZ ?_|refine au zr zr ?_ ?_)
 ·have hf:lj b k last=true:=by rw[iJ];exact decide_eq_true (by refine⟨?_,?_,?_,?_,‹_›⟩ <;> (simp only at *;omega))
  refine go ?_
  refine aM ih (k+1,jI hd,jI (hd.drop 4)) rfl (qd _ (uN hf) ⟨by simp only at *;omega,by simp only at *;omega⟩) (by simp only;omega) ck ah
 ·have hf:lj b k last=false:=by rw[iJ];exact decide_eq_false (fun h=>‹¬_› h.2.2.2.2)
  refine aM ih (k+1,last,len) rfl (qd _ (jj hf) ⟨hlen,nG⟩) (by simp only;omega) ck ah
attribute [local irreducible] cg
def rF(h:mP bs=some (k,n)):1≤k∧k≤2∧k≤bs.length∧n<16384:=by
 unfold mP at h
 split at h
 ·rename_i h1
  split at h
  ·rename_i m hm
   cases h
   exact⟨ag,ag,h1,pg hm (by rw[List.length_take];omega)⟩
  ·split at h
   ·rename_i h2
    cases hu:dr (bs.take 2)with
    | none=>rw[hu]at h;cases h
    | some m =>
     rw[hu]at h
     cases h
     exact⟨ag,ag,h2,pg hu (by rw[List.length_take];omega)⟩
   ·cases h
 ·cases h
def gN:Nat→List UInt8→List (List UInt8)
 | 0,_=>[]
 | f+1,bs=>match mP bs with
  | none=>[]
  | some (k,n)=>if n≤4096∧k+n≤bs.length then(bs.drop k).take n::gN f (bs.drop (k+n))else []
theorem sh:∀(f g:Nat) (bs:List UInt8),bs.length≤f→bs.length≤g→gN f bs=gN g bs
 | 0,0,_,_,_=>rfl
 | 0,g+1,bs,hf,_=>by
  have:bs=[]:=List.eq_nil_of_length_eq_zero ag
  subst this;rfl
 | f+1,0,bs,_,hg=>by
  have:bs=[]:=List.eq_nil_of_length_eq_zero ag
  subst this;rfl
 | f+1,g+1,bs,hf,hg=>by
  unfold gN
  split
  ·rfl
  ·rename_i k n hl
   have:=rF hl
   split
   ·rw[sh f g _ (by rw[List.length_drop];omega) (by rw[List.length_drop];omega)]
   ·rfl
def cu(bs:List UInt8):List (List UInt8):=gN bs.length bs
theorem sj(h:mP bs=none):cu bs=[]:=by
 unfold cu
 cases hl:bs.length with
 | zero=>rfl
 | succ f=>unfold gN;rw[h]
def uq(h:mP bs=some (k,n))(hb:¬(n≤4096∧k+n≤bs.length)):cu bs=[]:=by
 unfold cu
 cases hl:bs.length with
 | zero=>rfl
 | succ f=>unfold gN;rw[h];simp only;rw[if_neg hb]
theorem sk(h:mP bs=some (k,n))(hb:n≤4096∧k+n≤bs.length):cu bs=(bs.drop k).take n::cu (bs.drop (k+n)):=by
 have h1:=rF h
 unfold cu
 obtain⟨f,hf⟩:∃f,bs.length=f+1:=⟨bs.length-1,ag⟩
 grind [gN,sh]
def Fv(a:Option Addr)(n c:Nat):aD Tryz.prog 125 [.slice a n c] [] (fun r H=>∃b,r = .func (.func 184) #[] #[ptr b]∧H=[ae b (cl [.slice a n c] 40)]):=by
 refine aD.aw Tryz.func125 Tryz.ntmps125 fun G F R hE=>?_
 refine go ?_
 refine bG zr zr bE ?_
 intro b
 refine go ?_
 refine ad hE Tryz.func125 zr zr ⟨b,rfl,rfl⟩
theorem Di(A:HP)(l bx:Nat)(v:Value)(bs:List UInt8)(hv:eO A v bs)(hl:bs.length≤1000000000)(Lp:HP)(Inv:Nat→HP)(hy:∀i x,(cu bs)[i]?=some x→∀r,cg Tryz.prog l [r] [Lp,Inv i,aF 5 1 r x.length (bV x)] (fun v H=>v = .bool true∧H=[Lp,Inv (i+1)])) :
  aD Tryz.prog 184 [.func (.yield l) #[] #[],ptr bx] [Lp,ae bx (cl [v] 40),A,Inv 0] (fun _ H=>∃v',H=[Lp,ae bx (cl [v'] 40),A,Inv (cu bs).length]):=by
 refine aD.aw Tryz.func184 Tryz.ntmps184 fun G F R hE=>?_
 refine go ?_
 refine bB (fun y:Value × List UInt8 × Nat=>eO A y.1 y.2.1∧y.2.1.length≤bs.length∧cu y.2.1=(cu bs).drop y.2.2∧y.2.2≤(cu bs).length) (fun y=>y.2.1.length)
  (fun _=>[(0,.func (.yield l) #[] #[]),(1,ptr bx)])
  (fun y=>[Lp,ae bx (cl [y.1] 40),A,Inv y.2.2]++F) (v,bs,0) ⟨hv,Nat.le_refl _,by simp,Nat.zero_le _⟩ rfl ck ah ?_
 rintro⟨v1,rest,i⟩⟨nr,Ex,Bk,hr3⟩ ih
 simp only at nr Ex Bk hr3
 have lL:cu rest=[]→i=(cu bs).length:=fun h=>by
  rw[Bk]at h
  have:(cu bs).length≤i:=by simpa using h
  omega
 obtain⟨a,c,rfl,hc⟩:=nr.2
 refine go ?_
 refine aN (Qv A _ rest nr ag) ?_
 cases Ck:mP rest with
 | none =>
  obtain rfl:=lL (sj Ck)
  refine go ?_
  refine ad hE Tryz.func184 zr zr ⟨_,rfl⟩
 | some kn =>
  obtain⟨k,n⟩:=kn
  have hp:=rF Ck
  by_cases hn:n≤4096
  case neg =>
   have ij:cu rest=[]:=uq Ck ag
   obtain rfl:=lL ij
   have hd:decide (n≤4096)=false:=decide_eq_false hn
   simp only[hd]
   refine go ?_
   refine ad hE Tryz.func184 zr zr ⟨_,rfl⟩
  have hd:decide (n≤4096)=true:=decide_eq_true hn
  simp only[hd]
  refine go ?_
  by_cases hk:(rest.length:Int)<(k:Int)+n
  case pos =>
   obtain rfl:=lL (uq Ck ag)
   have La:decide ((rest.length:Int)<(k:Int)+n)=true:=decide_eq_true hk
   simp only[La]
   refine go ?_
   refine ad hE Tryz.func184 zr zr ⟨_,rfl⟩
  have La:decide ((rest.length:Int)<(k:Int)+n)=false:=decide_eq_false hk
  simp only[La]
  have Cq:=sk Ck ⟨hn,ag⟩
  obtain⟨x,hx⟩:∃x,x=(rest.drop k).take n:=⟨_,rfl⟩
  have Ev:x.length=n:=by rw[hx,List.length_take,List.length_drop];omega
  rw[← hx]at Cq
  have Jh:(cu bs)[i]?=some x:=by
   have:=congrArg (fun l=>l[0]?) Bk
   grind
  have uJ:cu (rest.drop (k+n))=(cu bs).drop (i+1):=by
   have:=congrArg (fun l=>l.drop 1) Bk
   simp only[Cq,List.drop_drop]at this
   grind
  have Gn:i+1≤(cu bs).length:=by
   grind
  have ys:=nr.piece k (k+n) ag ag
  rw[show k+n-k=n from by omega,← hx]at ys
  refine go ?_
  refine bt (p:=(k:Int)) (q:=((k+n:Nat):Int)) zr zr zr zr zr zr zr ag ag (.inr ag) ?_
  refine az 29 (.slice (sliceAt a c k 1) n (c-k)) rfl (by rw[show((k:Int)).toNat=k from by omega,show(((k+n:Nat):Int)).toNat=k+n from by omega,show k+n-k=n from by omega];rfl) ?_
  refine go ?_
  refine aI (ke A _ x ys.1 ag) ?_
  rintro r _ rfl
  refine go ?_
  refine lB zr zr zr (hy i x Jh r) ah ?_ nq
  rintro _ _⟨rfl,rfl⟩
  refine go ?_
  refine bt (p:=((k+n:Nat):Int)) (q:=(rest.length:Int)) zr zr zr zr zr zr zr ag ag (.inl rfl) ?_
  have ny:=nr.cut (k+n) ag
  refine az 38 (.slice (sliceAt a c (k+n) 1) (rest.length-(k+n)) (c-(k+n))) rfl (by rw[show(((k+n:Nat):Int)).toNat=k+n from by omega,show((rest.length:Int)).toNat=rest.length from by omega];rfl) ?_
  refine go ?_
  refine aM ih (.slice (sliceAt a c (k+n) 1) (rest.length-(k+n)) (c-(k+n)),rest.drop (k+n),i+1) rfl (⟨ny,by simp only[List.length_drop];omega,uJ,Gn⟩) (by simp only[List.length_drop];omega) ck ah
end Go.Proofs.YthnfckodljbgbaaGreatDoor
namespace Go.Proofs.YthnfckodljbgbaaGreatDoor
open Go Go.SL
def Ps{e:TypeId}{sz n c:Nat}{a:Option Addr}{cs:List Value}(H:List HP):ak (aF e sz (.slice a n c) n cs::H) (aF e sz (.slice (sliceAt a c 0 sz) 0 c) 0 []::H) :=
 ak.fold (A:=aF e sz (.slice (sliceAt a c 0 sz) 0 c) 0 []) (B:=[aF e sz (.slice a n c) n cs]) fun h hs=>by
  refine⟨h,sub.refl h,?_⟩
  obtain⟨hl,⟨a',he,hn,hem⟩|⟨b,o,cap,pre,cf,he,hp,hn,hc,wD⟩⟩:=ez hs
  ·simp only[Value.slice.injEq]at he
   obtain⟨rfl,rfl,rfl⟩:=he
   exact⟨by simp,.inl ⟨_,rfl,rfl,hem⟩⟩
  ·simp only[Value.slice.injEq]at he
   obtain⟨rfl,-,rfl⟩:=he
   refine⟨by simp,.inr ⟨b,o,c,pre,cs++cf,?_,hp,Nat.zero_le _,by rw[List.length_append];simpa using hc,by simpa using wD⟩⟩
   unfold sliceAt
   split
   ·rfl
   ·simp[Addr.add]
attribute [local irreducible] J K aD Ends ae aF aL bU bo aU bh bq cg
def y5(ls:List (List UInt8))(i:Nat):((ls.take i).flatten).length≤ls.flatten.length:=by
 conv=>rhs;rw[← List.take_append_drop i ls,List.flatten_append,List.length_append]
 omega
def Si(n:Nat)(hn:n≤1000000000):aD Tryz.prog 216 [.slice none 0 0,.int .i64 (n:Int)] [] (fun r H=>H=[aF 5 1 r 0 []]):=by
 refine aD.aw Tryz.func216 Tryz.ntmps216 fun G F R hE=>?_
 (repeat(first|refine eZ ?_|refine VW (U:=aR) zr zr zr zr ?_))
 refine bj 1 ((.int .i64 (n:Int))) rfl ((congrArg (Value.int .i64) ag)) ?_
 refine au zr zr ?_ ?_
 ·intro lY
  have hp:0<n:=by omega
  (repeat(first|refine eZ ?_|refine VW (U:=aR) zr zr zr zr ?_))
  refine bt (p:=0) (q:=0) zr zr zr zr zr zr zr ag ag (.inr ag) ?_
  refine az 20 (.slice none 0 0) zr zr ?_
  refine aJ (bK 5 1 none _) ?_
  refine jt 0 rfl ?_
  intro kT
  refine go ?_
  refine Ow (U:=aR) (mm:=n) (cs:=[]) 0 zr zr zr zr zr zr zr zr zr zr zr zr kT rfl ag hp ag (by show _*1≤_;omega) (by show _*1≤_;omega) bE ?_
  intro v'
  refine aP 0 rfl ?_
  rintro a' c' rfl
  refine go ?_
  refine bt (p:=0) (q:=0) zr zr zr zr zr zr zr ag ag (.inr ag) ?_
  refine az 25 (.slice (sliceAt a' c' 0 1) 0 c') zr zr ?_
  refine aJ (Ps _) (go ?_)
  refine aO hE Tryz.func216 rfl _ zr zr ah
 ·intro hz
  have Zf:n=0:=by omega
  subst Zf
  refine go ?_
  refine ai (bK 5 1 none _) ?_
  refine aO hE Tryz.func216 rfl _ zr zr ah
def Kf(A:HP)(v:Value)(ls:List (List UInt8))(hv:sJ A v ls)(hl:ls.flatten.length≤1000000000)(hn:ls.length≤1000000000):aD Tryz.prog 188 [v] [A] (fun r H=>H=[aF 5 1 r ls.flatten.length (bV ls.flatten),A]):=by
 obtain⟨cs,dO,ki,⟨a,c,rfl,hc⟩,tB⟩:=hv
 refine aD.aw Tryz.func188 Tryz.ntmps188 fun G F R hE=>?_
 refine go ?_
 refine bB (fun i:Nat=>i≤ls.length) (fun i=>ls.length-i)
  (fun i=>[(0,.slice a ls.length c),(9,.slice a ls.length c),(10,.int .i64 (ls.length:Int)),(11,.int .i64 (i:Int)),(3,.int .i64 (((ls.take i).flatten.length:Nat):Int))])
  (fun _=>A::F) 0 (Nat.zero_le _) rfl ck ah ?_
 rintro i hi ih
 refine go ?_
 refine au zr zr ?_ ?_
 ·intro dJ
  have me:i<ls.length:=by omega
  obtain⟨x,hx⟩:∃x,ls[i]?=some x:=⟨ls[i],List.getElem?_eq_getElem me⟩
  obtain⟨cv,sw,hb⟩:=tB i x hx
  obtain⟨b0,o0,c0,pH⟩:=dO.some (by intro h;rw[h]at sw;simp at sw)
  simp only[Value.slice.injEq]at pH
  obtain⟨rfl,-,rfl⟩:=pH
  refine go ?_
  refine bR i zr zr zr zr zr zr zr zr me ?_
  obtain⟨ax,cx,rfl,OZ⟩:=hb.2
  have qc:(ls.take (i+1)).flatten.length=(ls.take i).flatten.length+x.length:=by rw[List.take_add_one,hx];simp
  have hle:=y5 ls (i+1)
  refine aX 0 i zr zr zr dO rfl sw zr zr (go ?_)
  refine bj 3 ((.int .i64 (((ls.take (i+1)).flatten.length:Nat):Int))) rfl ((congrArg (Value.int .i64) ag)) ?_
  refine aM ih (i+1) rfl ag ag ck ah
 intro fO
 have gz:i=ls.length:=by omega
 subst gz
 rw[List.take_length]
 ((refine go ?_;(refine aI (Si ls.flatten.length hl) ?_)))
 rintro gv _ rfl
 refine aP 0 rfl ?_
 rintro ga gc rfl
 refine go ?_
 refine bB (fun i:Value × Nat=>i.2≤ls.length) (fun i=>ls.length-i.2)
  (fun i=>[(0,.slice a ls.length c),(25,.slice a ls.length c),(26,.int .i64 (ls.length:Int)),(27,.int .i64 (i.2:Int)),(6,i.1)])
  (fun i=>aF 5 1 i.1 (ls.take i.2).flatten.length (bV (ls.take i.2).flatten)::A::F) (.slice ga 0 gc,0) (Nat.zero_le _) rfl ck ah ?_
 rintro⟨v,i⟩ hi ih
 simp only at hi
 refine go ?_
 refine au zr zr ?_ ?_
 ·intro dJ
  simp only at dJ
  have me:i<ls.length:=by omega
  obtain⟨x,hx⟩:∃x,ls[i]?=some x:=⟨ls[i],List.getElem?_eq_getElem me⟩
  obtain⟨cv,sw,hb⟩:=tB i x hx
  obtain⟨b0,o0,c0,pH⟩:=dO.some (by intro h;rw[h]at sw;simp at sw)
  simp only[Value.slice.injEq]at pH
  obtain⟨rfl,-,rfl⟩:=pH
  refine go ?_
  refine bR i zr zr zr zr zr zr zr zr me ?_
  obtain⟨ax,cx,rfl,OZ⟩:=hb.2
  have qc:(ls.take (i+1)).flatten=(ls.take i).flatten++x:=by rw[List.take_add_one,hx];simp
  have fL:(ls.take (i+1)).flatten.length=(ls.take i).flatten.length+x.length:=by rw[qc,List.length_append]
  have hle:=y5 ls (i+1)
  refine aX 1 i zr zr zr dO rfl sw zr zr ?_
  refine aP 0 rfl ?_
  intro av cv vI
  simp only at vI
  subst vI
  refine go ?_
  refine aT (mm:=x.length) (news:=bV x) 0 1 zr zr zr zr zr zr zr zr zr zr zr zr hb.1 (by show _=_*1;rw[bM];omega) (db _) (by simp only;omega) (by show(_+_)*1≤_;simp only;omega) (fun _=>rfl) bE ?_
  intro v1
  simp only
  rw[show bV (ls.take i).flatten++bV x=bV (ls.take (i+1)).flatten from by rw[qc];simp[bV],← fL]
  refine go ?_
  refine aM ih (v1,i+1) rfl (by simp only;omega) (by simp only;omega) ck ah
 intro fO
 simp only at fO
 have gz:i=ls.length:=by omega
 subst gz
 rw[List.take_length]
 refine dN 0 rfl ?_
 intro av cv vI
 simp only at vI
 subst vI
 refine go ?_
 refine aO hE Tryz.func188 rfl _ zr zr ah
theorem Lz{σ:Type}(I:σ→HP)(V:HP)(v:Value)(lS:List Value)(hv:Vw V v lS.length lS)(hn:lS.length≤1000000000)(ss:List (σ→Nat→σ→Prop))(hlen:ss.length=lS.length)(Q:Nat→σ→Prop)(bP:∀(i:Nat) (fv:Value) (s:σ→Nat→σ→Prop),lS[i]?=some fv→ss[i]?=some s→∃g fi cap,fv = .func (.func g) fi cap∧∀x,Q i x→aD Tryz.prog g (fi.toList++cap.toList) [I x] (fun r H=>∃(e:Nat) (x':σ),r = .int .i64 (e:Int)∧H=[I x']∧s x e x'∧(e=0→Q (i+1) x')))(x0:σ)(hQ:Q 0 x0) :
  aD Tryz.prog 141 [v] [V,I x0] (fun r H=>∃(e:Nat) (x':σ),r = .int .i64 (e:Int)∧H=[V,I x']∧gi ss x0 e x'):=by
 obtain⟨a,c,rfl⟩:=hv.shape
 refine aD.aw Tryz.func141 Tryz.ntmps141 fun G F R hE=>?_
 refine go ?_
 refine bB (fun y:Nat × σ=>y.1≤lS.length∧Q y.1 y.2∧∀e x',gi (ss.drop y.1) y.2 e x'→gi ss x0 e x') (fun y=>lS.length-y.1)
  (fun y=>[(0,.slice a lS.length c),(6,.slice a lS.length c),(7,.int .i64 (lS.length:Int)),(8,.int .i64 (y.1:Int))])
  (fun y=>V::I y.2::F) (0,x0) ⟨Nat.zero_le _,hQ,fun _ _ h=>h⟩ rfl ck ah ?_
 rintro⟨i,x⟩⟨hi,hq,hr⟩ ih
 simp only at hi hq hr
 refine go ?_
 refine au zr zr ?_ ?_
 ·intro dJ
  simp only at dJ
  have me:i<lS.length:=by omega
  obtain⟨fv,nH⟩:∃fv,lS[i]?=some fv:=⟨lS[i],List.getElem?_eq_getElem me⟩
  obtain⟨s,hs⟩:∃s,ss[i]?=some s:=⟨ss[i],List.getElem?_eq_getElem ag⟩
  obtain⟨g,fi,cap,rfl,hc⟩:=bP i fv s nH hs
  have mU:ss.drop i=s::ss.drop (i+1):=by
   rw[List.drop_eq_getElem_cons ag]
   grind
  obtain⟨b0,o0,c0,pH⟩:=hv.some (by intro h;rw[h]at me;simp at me)
  simp only[Value.slice.injEq]at pH
  obtain⟨rfl,-,rfl⟩:=pH
  refine go ?_
  refine bR i zr zr zr zr zr zr zr zr me ?_
  refine aX 0 i zr zr zr hv rfl nH zr zr (go ?_)
  refine vC zr zr zr (by simp) (hc x hq) ah ?_ nq
  rintro _ _⟨e,x',rfl,rfl,M1,Ey⟩
  refine go ?_
  refine au zr zr ?_ ?_
  ·intro df
   have he:e≠0:=by omega
   refine go ?_
   ((refine ad hE Tryz.func141 zr zr ⟨e,x',rfl,rfl,hr e x' (by rw[mU];exact⟨e,x',M1,.inl ⟨he,rfl,rfl⟩⟩)⟩))
  ·intro heq
   have he:e=0:=by omega
   refine go ?_
   refine aM ih (i+1,x') rfl (⟨by simp only;omega,Ey he,fun e2 x2 h2=>hr e2 x2 (by rw[mU];exact⟨e,x',M1,.inr ⟨he,h2⟩⟩)⟩) (by simp only;omega) ck ah
 ·intro fO
  simp only at fO
  have gz:i=lS.length:=by omega
  subst gz
  refine go ?_
  ((refine ad hE Tryz.func141 zr zr ⟨0,x,rfl,rfl,hr 0 x (by rw[List.drop_eq_nil_of_le ag];exact⟨rfl,rfl⟩)⟩))
attribute [local irreducible] aE
def P6(bd jb xj xf xw xb:Nat)(name fresh:ByteArray)(wa ba:Option Addr)(wc bl bc:Nat)(whole:List UInt8)(br:Bool)(A:Ab)(n s c:Int)(bP:A.aj.length≤1000000000) :
  aD Tryz.prog 189 [ptr xj,ptr xf] ([aE bd A,ae jb (cl [ptr bd,.string name,.int .i64 n,.int .i64 s,.int .i64 c,.bool br] 174),ae xj (cl [ptr jb] 71),ae xf (cl [.string fresh] 9),ae xw (cl [.slice wa whole.length wc] 40),ae xb (cl [.slice ba bl bc] 40),aF 5 1 (.slice wa whole.length wc) whole.length (bV whole)]) (fun r H=>∃(e:Nat) (A1:Ab),e=(A.remove (isName fresh) fresh).1∧A1=(A.remove (isName fresh) fresh).2∧r = .int .i64 (e:Int)∧H=[aE bd A1,ae jb (cl [ptr bd,.string name,.int .i64 n,.int .i64 s,.int .i64 c,.bool br] 174),ae xj (cl [ptr jb] 71),ae xf (cl [.string fresh] 9),ae xw (cl [.slice wa whole.length wc] 40),ae xb (cl [.slice ba bl bc] 40),aF 5 1 (.slice wa whole.length wc) whole.length (bV whole)]):=by
 refine aD.aw Tryz.func189 Tryz.ntmps189 fun G F R hE=>?_
 refine go ?_
 refine aG (fun w=>Sat G w ([ae jb (cl [ptr bd,.string name,.int .i64 n,.int .i64 s,.int .i64 c,.bool br] 174),ae xj (cl [ptr jb] 71),ae xf (cl [.string fresh] 9),ae xw (cl [.slice wa whole.length wc] 40),aF 5 1 (.slice wa whole.length wc) whole.length (bV whole)])) (dj 0 5 (.act 5 (.st 6 .nil))) rfl aq aq aq eo ?_
 refine go ?_
 refine bp (wY bd A fresh bP) ?_
 refine go ?_
 refine ad hE Tryz.func189 zr zr ⟨_,_,rfl,rfl,rfl,rfl⟩
def P4(bd jb xj xf xw xb:Nat)(name fresh:ByteArray)(wa ba:Option Addr)(wc bl bc:Nat)(whole:List UInt8)(br:Bool)(A:Ab)(n s c:Int)(bP:A.aj.length≤1000000000) :
  aD Tryz.prog 190 [ptr xj,ptr xf] ([aE bd A,ae jb (cl [ptr bd,.string name,.int .i64 n,.int .i64 s,.int .i64 c,.bool br] 174),ae xj (cl [ptr jb] 71),ae xf (cl [.string fresh] 9),ae xw (cl [.slice wa whole.length wc] 40),ae xb (cl [.slice ba bl bc] 40),aF 5 1 (.slice wa whole.length wc) whole.length (bV whole)]) (fun r H=>∃(e:Nat) (A1:Ab),(∃f,f ∉ A.fs.map (·.1)∧e=(A.create (isName fresh) fresh f).1∧A1=(A.create (isName fresh) fresh f).2)∧r = .int .i64 (e:Int)∧H=[aE bd A1,ae jb (cl [ptr bd,.string name,.int .i64 n,.int .i64 s,.int .i64 c,.bool br] 174),ae xj (cl [ptr jb] 71),ae xf (cl [.string fresh] 9),ae xw (cl [.slice wa whole.length wc] 40),ae xb (cl [.slice ba bl bc] 40),aF 5 1 (.slice wa whole.length wc) whole.length (bV whole)]):=by
 refine aD.aw Tryz.func190 Tryz.ntmps190 fun G F R hE=>?_
 refine go ?_
 refine aG (fun w=>Sat G w ([ae jb (cl [ptr bd,.string name,.int .i64 n,.int .i64 s,.int .i64 c,.bool br] 174),ae xj (cl [ptr jb] 71),ae xf (cl [.string fresh] 9),ae xw (cl [.slice wa whole.length wc] 40),aF 5 1 (.slice wa whole.length wc) whole.length (bV whole)])) (dj 0 5 (.act 5 (.st 6 .nil))) rfl aq aq aq eo ?_
 refine go ?_
 refine dy (xg bd A fresh bP) ?_
 rintro _ _⟨f,hf,rfl,rfl⟩
 refine go ?_
 refine ad hE Tryz.func190 zr zr ⟨_,_,⟨f,hf,rfl,rfl⟩,rfl,rfl⟩
def P2(bd jb xj xf xw xb:Nat)(name fresh:ByteArray)(wa ba:Option Addr)(wc bl bc:Nat)(whole:List UInt8)(br:Bool)(A:Ab)(n s c:Int)(eW:A.writes.length≤1000000000)(kQ:whole.length≤1000000000) :
  aD Tryz.prog 191 [ptr xj,ptr xf,ptr xw] ([aE bd A,ae jb (cl [ptr bd,.string name,.int .i64 n,.int .i64 s,.int .i64 c,.bool br] 174),ae xj (cl [ptr jb] 71),ae xf (cl [.string fresh] 9),ae xw (cl [.slice wa whole.length wc] 40),ae xb (cl [.slice ba bl bc] 40),aF 5 1 (.slice wa whole.length wc) whole.length (bV whole)]) (fun r H=>∃(e:Nat) (A1:Ab),e=(A.write (fK fresh 0 whole) fresh 0 whole).1∧A1=(A.write (fK fresh 0 whole) fresh 0 whole).2∧r = .int .i64 (e:Int)∧H=[aE bd A1,ae jb (cl [ptr bd,.string name,.int .i64 n,.int .i64 s,.int .i64 c,.bool br] 174),ae xj (cl [ptr jb] 71),ae xf (cl [.string fresh] 9),ae xw (cl [.slice wa whole.length wc] 40),ae xb (cl [.slice ba bl bc] 40),aF 5 1 (.slice wa whole.length wc) whole.length (bV whole)]):=by
 refine aD.aw Tryz.func191 Tryz.ntmps191 fun G F R hE=>?_
 refine go ?_
 refine aG (fun w=>Sat G w ([ae jb (cl [ptr bd,.string name,.int .i64 n,.int .i64 s,.int .i64 c,.bool br] 174),ae xj (cl [ptr jb] 71),ae xf (cl [.string fresh] 9),ae xw (cl [.slice wa whole.length wc] 40),aF 5 1 (.slice wa whole.length wc) whole.length (bV whole)])) (dj 0 6 (.act 6 (.st 7 .nil))) rfl aq aq aq eo ?_
 refine go ?_
 refine jt 6 rfl ?_
 intro dO
 refine go ?_
 refine aK ?_
 refine mE 3 zr zr zr zr zr zr (go ?_)
 refine bp (vj bd A fresh 0 _ _ whole dO eW kQ ag) ?_
 refine go ?_
 refine ad hE Tryz.func191 zr zr ⟨_,_,rfl,rfl,rfl,rfl⟩
def P0(bd jb xj xf xw xb:Nat)(name fresh:ByteArray)(wa ba:Option Addr)(wc bl bc:Nat)(whole:List UInt8)(br:Bool)(A:Ab)(n s c:Int)(eW:A.writes.length≤1000000000) :
  aD Tryz.prog 192 [ptr xj,ptr xf] ([aE bd A,ae jb (cl [ptr bd,.string name,.int .i64 n,.int .i64 s,.int .i64 c,.bool br] 174),ae xj (cl [ptr jb] 71),ae xf (cl [.string fresh] 9),ae xw (cl [.slice wa whole.length wc] 40),ae xb (cl [.slice ba bl bc] 40),aF 5 1 (.slice wa whole.length wc) whole.length (bV whole)]) (fun r H=>∃(e:Nat) (A1:Ab),e=(A.sync (isName fresh) fresh).1∧A1=(A.sync (isName fresh) fresh).2∧r = .int .i64 (e:Int)∧H=[aE bd A1,ae jb (cl [ptr bd,.string name,.int .i64 n,.int .i64 s,.int .i64 c,.bool br] 174),ae xj (cl [ptr jb] 71),ae xf (cl [.string fresh] 9),ae xw (cl [.slice wa whole.length wc] 40),ae xb (cl [.slice ba bl bc] 40),aF 5 1 (.slice wa whole.length wc) whole.length (bV whole)]):=by
 refine aD.aw Tryz.func192 Tryz.ntmps192 fun G F R hE=>?_
 refine go ?_
 refine aG (fun w=>Sat G w ([ae jb (cl [ptr bd,.string name,.int .i64 n,.int .i64 s,.int .i64 c,.bool br] 174),ae xj (cl [ptr jb] 71),ae xf (cl [.string fresh] 9),ae xw (cl [.slice wa whole.length wc] 40),aF 5 1 (.slice wa whole.length wc) whole.length (bV whole)])) (dj 0 5 (.act 5 (.st 6 .nil))) rfl aq aq aq eo ?_
 refine go ?_
 refine bp (vk bd A fresh eW) ?_
 refine go ?_
 refine ad hE Tryz.func192 zr zr ⟨_,_,rfl,rfl,rfl,rfl⟩
def PY(bd jb xj xf xw xb:Nat)(name fresh:ByteArray)(wa ba:Option Addr)(wc bl bc:Nat)(whole:List UInt8)(br:Bool)(A:Ab)(n s c:Int)(bP:A.aj.length≤1000000000) :
  aD Tryz.prog 193 [ptr xj,ptr xf] ([aE bd A,ae jb (cl [ptr bd,.string name,.int .i64 n,.int .i64 s,.int .i64 c,.bool br] 174),ae xj (cl [ptr jb] 71),ae xf (cl [.string fresh] 9),ae xw (cl [.slice wa whole.length wc] 40),ae xb (cl [.slice ba bl bc] 40),aF 5 1 (.slice wa whole.length wc) whole.length (bV whole)]) (fun r H=>∃(e:Nat) (A1:Ab),e=(A.rename ([fresh,name].all isName) fresh name).1∧A1=(A.rename ([fresh,name].all isName) fresh name).2∧r = .int .i64 (e:Int)∧H=[aE bd A1,ae jb (cl [ptr bd,.string name,.int .i64 n,.int .i64 s,.int .i64 c,.bool br] 174),ae xj (cl [ptr jb] 71),ae xf (cl [.string fresh] 9),ae xw (cl [.slice wa whole.length wc] 40),ae xb (cl [.slice ba bl bc] 40),aF 5 1 (.slice wa whole.length wc) whole.length (bV whole)]):=by
 refine aD.aw Tryz.func193 Tryz.ntmps193 fun G F R hE=>?_
 refine go ?_
 refine aG (fun w=>Sat G w ([ae jb (cl [ptr bd,.string name,.int .i64 n,.int .i64 s,.int .i64 c,.bool br] 174),ae xj (cl [ptr jb] 71),ae xf (cl [.string fresh] 9),ae xw (cl [.slice wa whole.length wc] 40),aF 5 1 (.slice wa whole.length wc) whole.length (bV whole)])) (dj 0 9 (.act 9 (.st 10 .nil))) rfl aq aq aq eo ?_
 refine go ?_
 refine bp (CO bd A fresh name bP) ?_
 refine go ?_
 refine ad hE Tryz.func193 zr zr ⟨_,_,rfl,rfl,rfl,rfl⟩
def PW(bd jb xj xf xw xb:Nat)(name fresh:ByteArray)(wa ba:Option Addr)(wc bl bc:Nat)(whole:List UInt8)(br:Bool)(A:Ab)(n s c:Int) :
  aD Tryz.prog 194 [ptr xb,ptr xj] ([aE bd A,ae jb (cl [ptr bd,.string name,.int .i64 n,.int .i64 s,.int .i64 c,.bool br] 174),ae xj (cl [ptr jb] 71),ae xf (cl [.string fresh] 9),ae xw (cl [.slice wa whole.length wc] 40),ae xb (cl [.slice ba bl bc] 40),aF 5 1 (.slice wa whole.length wc) whole.length (bV whole)]) (fun r H=>r = .int .i64 0∧H=[aE bd A,ae jb (cl [ptr bd,.string name,.int .i64 1,.int .i64 (bl:Int),.int .i64 (bl:Int),.bool br] 174),ae xj (cl [ptr jb] 71),ae xf (cl [.string fresh] 9),ae xw (cl [.slice wa whole.length wc] 40),ae xb (cl [.slice ba bl bc] 40),aF 5 1 (.slice wa whole.length wc) whole.length (bV whole)]):=by
 refine aD.aw Tryz.func194 Tryz.ntmps194 fun G F R hE=>?_
 refine go ?_
 refine aG (fun w=>Sat G w ([ae xj (cl [ptr jb] 71),ae xb (cl [.slice ba bl bc] 40)])) (dj 0 9 (.act 9 (.st 10 (.st 11 (.act 12 (.st 13 (.st 14 (.act 15 .nil)))))))) rfl aq aq aq eo ?_
 refine go ?_
 refine aV ?_
 refine cF 1 (fun w hw=>by exact hw.cL ah) zr zr zr zr zr zr zr zr zr ?_
 refine go ?_
 refine aV ?_
 refine cF 1 (fun w hw=>by exact hw.cL ah) zr zr zr zr zr zr zr zr zr ?_
 refine go ?_
 refine ad hE Tryz.func194 zr zr ⟨rfl,rfl⟩
end Go.Proofs.YthnfckodljbgbaaGreatDoor
namespace Go.Proofs.YthnfckodljbgbaaGreatDoor
open Go Go.SL
abbrev PS:=Ab × Int × Int × Int
def U6(g:Ab→Nat→Ab→Prop)(x:PS)(e:Nat)(y:PS):Prop:=g x.1 e y.1∧y.2=x.2
def Dc(fresh:ByteArray):=U6 fun A e B=>e=(A.remove (isName fresh) fresh).1∧B=(A.remove (isName fresh) fresh).2
def Dd(fresh:ByteArray):=U6 fun A e B=>∃f,f ∉ A.fs.map (·.1)∧e=(A.create (isName fresh) fresh f).1∧B=(A.create (isName fresh) fresh f).2
def Iy(fresh:ByteArray)(whole:List UInt8):=U6 fun A e B=>e=(A.write (fK fresh 0 whole) fresh 0 whole).1∧B=(A.write (fK fresh 0 whole) fresh 0 whole).2
def PA(fresh:ByteArray):=U6 fun A e B=>e=(A.sync (isName fresh) fresh).1∧B=(A.sync (isName fresh) fresh).2
def Db(fresh name:ByteArray):=U6 fun A e B=>e=(A.rename ([fresh,name].all isName) fresh name).1∧B=(A.rename ([fresh,name].all isName) fresh name).2
def Iz:=U6 fun A e B=>e=A.cp.1∧B=A.cp.2
def YZ(bl:Nat)(x:PS)(e:Nat)(y:PS):Prop:=e=0∧y=(x.1,1,(bl:Int),(bl:Int))
def bQ(name:ByteArray):ByteArray:=name++⟨#[46,110,101,119]⟩
def cm(ls:List (List UInt8)):List UInt8:=List.replicate 16 0++bL 1 (ls.flatMap aS).length++ls.flatMap aS
def gO(name:ByteArray)(ls:List (List UInt8))(A:Ab):List (PS→Nat→PS→Prop) :=
 (if(A.size (bQ name)).2=0 then [Dc (bQ name)]else []) ++
 [Dd (bQ name),Iy (bQ name) (cm ls),PA (bQ name),Db (bQ name) name,Iz,YZ (ls.flatMap aS).length]
def yf(name:ByteArray)(ls:List (List UInt8))(x:PS)(e:Nat)(y:PS):Prop:=gi (gO name ls x.1) x e y
attribute [local irreducible] J K aD Ends ae aF aL bU bo aU bh bq cg aE
def _root_.Go.SL.ak.mH(l:List HP):ak [Sep l] l:=by have:=ak.cK l [];rwa[List.append_nil]at this
def _root_.Go.SL.ak.mN(l:List HP):ak l [Sep l]:=by have:=ak.bX l [];rwa[List.append_nil]at this
def PI(bd jb xj xf xw xb:Nat)(name fresh:ByteArray)(wa ba:Option Addr)(wc bl bc:Nat)(whole:List UInt8)(br:Bool)(x:PS):HP:=Sep [aE bd x.1,ae jb (cl [ptr bd,.string name,.int .i64 x.2.1,.int .i64 x.2.2.1,.int .i64 x.2.2.2,.bool br] 174),ae xj (cl [ptr jb] 71),ae xf (cl [.string fresh] 9),ae xw (cl [.slice wa whole.length wc] 40),ae xb (cl [.slice ba bl bc] 40),aF 5 1 (.slice wa whole.length wc) whole.length (bV whole)]
def PQ(i:Nat)(x:PS):Prop:=x.1.aj.length≤900000000+i∧x.1.writes.length≤900000000+i
def PQ.next{i:Nat}{x:PS}(h:PQ i x){B:Ab}(g:kM x.1 B):PQ (i+1) (B,x.2):=by
 obtain⟨h1,h2⟩:=h
 obtain⟨g1,g2⟩:=g
 exact⟨by simp only;omega,by simp only;omega⟩
end Go.Proofs.YthnfckodljbgbaaGreatDoor
namespace Go.Proofs.YthnfckodljbgbaaGreatDoor
open Go Go.SL
def NG{P:Program}{f:FuncId}{args:List Value}{Pre:List HP}{Post:Value→List HP→Prop}(X:List HP)(c:aD P f args Pre Post):aD P f args (Pre++X) (fun v H=>∃H',Post v H'∧H=H'++X) :=
 ⟨c.1,fun G w F hw=>(c.2 G w (X++F) (by rw[List.append_assoc]at hw;exact hw)).mono fun e w' h'=>let ⟨v,H,he,TJ,hs⟩:=h';⟨v,H++X,he,⟨H,TJ,rfl⟩,by rw[List.append_assoc];exact hs⟩⟩
attribute [local irreducible] J K aD Ends ae aF aL bU bo aU bh bq cg aE
def Y2(bd jb xj xf xw xb:Nat)(name fresh:ByteArray)(wa ba:Option Addr)(wc bl bc:Nat)(whole:List UInt8)(br:Bool)(i:Nat)(hi:i≤10)(x:PS)(hq:PQ i x) :
  aD Tryz.prog 189 [ptr xj,ptr xf] [PI bd jb xj xf xw xb name fresh wa ba wc bl bc whole br x] (fun r H=>∃(e:Nat) (x':PS),r = .int .i64 (e:Int)∧H=[PI bd jb xj xf xw xb name fresh wa ba wc bl bc whole br x']∧Dc fresh x e x'∧(e=0→PQ (i+1) x')) :=
 (P6 bd jb xj xf xw xb name fresh wa ba wc bl bc whole br x.1 x.2.1 x.2.2.1 x.2.2.2 (by have:=hq.1;omega)).conv (ak.mH _) (by
  rintro v H⟨e,A1,he,sA,rfl,rfl⟩
  exact⟨_,⟨_,(A1,x.2),rfl,rfl,⟨⟨he,sA⟩,rfl⟩,fun _=>hq.next (sA ▸ qH _ _ _)⟩,ak.mN _⟩)
def P5(bd jb xj xf xw xb:Nat)(name fresh:ByteArray)(wa ba:Option Addr)(wc bl bc:Nat)(whole:List UInt8)(br:Bool)(i:Nat)(hi:i≤10)(x:PS)(hq:PQ i x) :
  aD Tryz.prog 190 [ptr xj,ptr xf] [PI bd jb xj xf xw xb name fresh wa ba wc bl bc whole br x] (fun r H=>∃(e:Nat) (x':PS),r = .int .i64 (e:Int)∧H=[PI bd jb xj xf xw xb name fresh wa ba wc bl bc whole br x']∧Dd fresh x e x'∧(e=0→PQ (i+1) x')) :=
 (P4 bd jb xj xf xw xb name fresh wa ba wc bl bc whole br x.1 x.2.1 x.2.2.1 x.2.2.2 (by have:=hq.1;omega)).conv (ak.mH _) (by
  rintro v H⟨e,A1,⟨f,hf,he,sA⟩,rfl,rfl⟩
  exact⟨_,⟨_,(A1,x.2),rfl,rfl,⟨⟨f,hf,he,sA⟩,rfl⟩,fun _=>hq.next (sA ▸ qI _ _ _ _)⟩,ak.mN _⟩)
def P3(bd jb xj xf xw xb:Nat)(name fresh:ByteArray)(wa ba:Option Addr)(wc bl bc:Nat)(whole:List UInt8)(br:Bool)(i:Nat)(hi:i≤10)(kQ:whole.length≤1000000000)(x:PS)(hq:PQ i x) :
  aD Tryz.prog 191 [ptr xj,ptr xf,ptr xw] [PI bd jb xj xf xw xb name fresh wa ba wc bl bc whole br x] (fun r H=>∃(e:Nat) (x':PS),r = .int .i64 (e:Int)∧H=[PI bd jb xj xf xw xb name fresh wa ba wc bl bc whole br x']∧Iy fresh whole x e x'∧(e=0→PQ (i+1) x')) :=
 (P2 bd jb xj xf xw xb name fresh wa ba wc bl bc whole br x.1 x.2.1 x.2.2.1 x.2.2.2 (by have:=hq.2;omega) kQ).conv (ak.mH _) (by
  rintro v H⟨e,A1,he,sA,rfl,rfl⟩
  exact⟨_,⟨_,(A1,x.2),rfl,rfl,⟨⟨he,sA⟩,rfl⟩,fun _=>hq.next (sA ▸ lk _ _ _ _ _)⟩,ak.mN _⟩)
def P1(bd jb xj xf xw xb:Nat)(name fresh:ByteArray)(wa ba:Option Addr)(wc bl bc:Nat)(whole:List UInt8)(br:Bool)(i:Nat)(hi:i≤10)(x:PS)(hq:PQ i x) :
  aD Tryz.prog 192 [ptr xj,ptr xf] [PI bd jb xj xf xw xb name fresh wa ba wc bl bc whole br x] (fun r H=>∃(e:Nat) (x':PS),r = .int .i64 (e:Int)∧H=[PI bd jb xj xf xw xb name fresh wa ba wc bl bc whole br x']∧PA fresh x e x'∧(e=0→PQ (i+1) x')) :=
 (P0 bd jb xj xf xw xb name fresh wa ba wc bl bc whole br x.1 x.2.1 x.2.2.1 x.2.2.2 (by have:=hq.2;omega)).conv (ak.mH _) (by
  rintro v H⟨e,A1,he,sA,rfl,rfl⟩
  exact⟨_,⟨_,(A1,x.2),rfl,rfl,⟨⟨he,sA⟩,rfl⟩,fun _=>hq.next (sA ▸ ll _ _ _)⟩,ak.mN _⟩)
def PZ(bd jb xj xf xw xb:Nat)(name fresh:ByteArray)(wa ba:Option Addr)(wc bl bc:Nat)(whole:List UInt8)(br:Bool)(i:Nat)(hi:i≤10)(x:PS)(hq:PQ i x) :
  aD Tryz.prog 193 [ptr xj,ptr xf] [PI bd jb xj xf xw xb name fresh wa ba wc bl bc whole br x] (fun r H=>∃(e:Nat) (x':PS),r = .int .i64 (e:Int)∧H=[PI bd jb xj xf xw xb name fresh wa ba wc bl bc whole br x']∧Db fresh name x e x'∧(e=0→PQ (i+1) x')) :=
 (PY bd jb xj xf xw xb name fresh wa ba wc bl bc whole br x.1 x.2.1 x.2.2.1 x.2.2.2 (by have:=hq.1;omega)).conv (ak.mH _) (by
  rintro v H⟨e,A1,he,sA,rfl,rfl⟩
  exact⟨_,⟨_,(A1,x.2),rfl,rfl,⟨⟨he,sA⟩,rfl⟩,fun _=>hq.next (sA ▸ qG _ _ _ _)⟩,ak.mN _⟩)
def PT(bd jb xj xf xw xb:Nat)(name fresh:ByteArray)(wa ba:Option Addr)(wc bl bc:Nat)(whole:List UInt8)(br:Bool)(i:Nat)(x:PS)(hq:PQ i x) :
  aD Tryz.prog 67 [ptr bd] [PI bd jb xj xf xw xb name fresh wa ba wc bl bc whole br x] (fun r H=>∃(e:Nat) (x':PS),r = .int .i64 (e:Int)∧H=[PI bd jb xj xf xw xb name fresh wa ba wc bl bc whole br x']∧Iz x e x'∧(e=0→PQ (i+1) x')) :=
 (NG ([aE bd x.1,ae jb (cl [ptr bd,.string name,.int .i64 x.2.1,.int .i64 x.2.2.1,.int .i64 x.2.2.2,.bool br] 174),ae xj (cl [ptr jb] 71),ae xf (cl [.string fresh] 9),ae xw (cl [.slice wa whole.length wc] 40),ae xb (cl [.slice ba bl bc] 40),aF 5 1 (.slice wa whole.length wc) whole.length (bV whole)].drop 1) (pT bd x.1)).conv (ak.mH _) (by
  rintro v H⟨_,⟨rfl,rfl⟩,rfl⟩
  exact⟨_,⟨_,(x.1.cp.2,x.2),rfl,rfl,⟨⟨rfl,rfl⟩,rfl⟩,fun _=>hq.next (kD _)⟩,ak.mN _⟩)
def PX(bd jb xj xf xw xb:Nat)(name fresh:ByteArray)(wa ba:Option Addr)(wc bl bc:Nat)(whole:List UInt8)(br:Bool)(i:Nat)(x:PS)(hq:PQ i x) :
  aD Tryz.prog 194 [ptr xb,ptr xj] [PI bd jb xj xf xw xb name fresh wa ba wc bl bc whole br x] (fun r H=>∃(e:Nat) (x':PS),r = .int .i64 (e:Int)∧H=[PI bd jb xj xf xw xb name fresh wa ba wc bl bc whole br x']∧YZ bl x e x'∧(e=0→PQ (i+1) x')) :=
 (PW bd jb xj xf xw xb name fresh wa ba wc bl bc whole br x.1 x.2.1 x.2.2.1 x.2.2.2).conv (ak.mH _) (by
  rintro v H⟨rfl,rfl⟩
  exact⟨_,⟨0,(x.1,1,(bl:Int),(bl:Int)),rfl,rfl,⟨rfl,rfl⟩,fun _=>⟨by have:=hq.1;simp only;omega,by have:=hq.2;simp only;omega⟩⟩,ak.mN _⟩)
end Go.Proofs.YthnfckodljbgbaaGreatDoor
