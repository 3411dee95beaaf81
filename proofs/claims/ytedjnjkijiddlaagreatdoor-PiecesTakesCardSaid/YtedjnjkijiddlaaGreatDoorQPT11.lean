import Derived.Test.YtedjnjkijiddlaaGreatDoorQPT3
import Derived.Test.YtedjnjkijiddlaaGreatDoorQPT5
import Derived.Test.YtedjnjkijiddlaaGreatDoorQPT6
import Derived.Test.YtedjnjkijiddlaaGreatDoorQPT7
import Derived.Test.YtedjnjkijiddlaaGreatDoorQPT9
import Derived.Test.YtedjnjkijiddlaaGreatDoorQPT10
set_option linter.unusedSimpArgs false
set_option linter.unusedVariables false
set_option maxHeartbeats 1000000
set_option maxRecDepth 20000
set_option linter.defProp false
namespace Go.Proofs.YtedjnjkijiddlaaGreatDoor
open Go Go.SL
variable{A B:Ab}{x:Bl}{n nm:ByteArray}{ls:List (List UInt8)}{C b:List UInt8}{at_ e f j k m:Nat}{D:Nat→Prop}{t:fe}
def kY{l:Nms}(h:Ab.cP l nm=some f):(nm,f)∈l:=gJ (A:=⟨0,[],l,[],[],[],false⟩) h
def Q8{l:Nms}(hn:(l.map (·.1)).Nodup)(ho:(l.map (·.2)).Nodup){a b:ByteArray}(ha:Ab.cP l a=some f)(hb:Ab.cP l b=some f):a=b :=
 HA.Q9 (A:=⟨0,l.map fun x=>(x.2,[],[]),l,[],[],[],false⟩) ⟨rfl,rfl,hn,ho,by simpa[Function.comp_def]using ho,fun x hx=>by simp only[List.map_map,Function.comp_def];exact List.mem_map.2 ⟨x,hx,rfl⟩⟩ ha hb
structure Nz(k:Nat)(A:Ab)(N0:Nms):Prop where
 keys:(N0.map (·.1)).Nodup
 own:(N0.map (·.2)).Nodup
 known:∀x∈N0,x.2∈A.fs.map (·.1)
 hold:∀n f,A.look n=some f→Ab.cP N0 n=some f
 more:∀n f,Ab.cP N0 n=some f→A.look n=some f∨(∃d,n=iu d)∧(A.now f).length≤1000
 Zp:N0.length≤k
structure Cd(k:Nat)(A:Ab)(D:Nat→Prop):Prop where
 wr:∀w∈A.writes,D w.1
 cl:∀f∈A.fs.map (·.1),¬D f→(A.file f).2=(A.file f).1
 st:∃N0 rest,A.aw=N0::rest∧Nz k A N0
abbrev Cz(k:Nat)(A:Ab):Prop:=Cd k A (fun _=>False)
def Cd.mono{E:Nat→Prop}(h:Cd k A D)(hDE:∀f,D f→E f)(hk:k≤j):Cd j A E :=
  ⟨fun w hw=>hDE _ (h.wr w hw),fun f hf hd=>h.cl f hf (fun x=>hd (hDE f x)),by
    obtain⟨N0,rest,h1,h2⟩:=h.st
    exact⟨N0,rest,h1,⟨h2.keys,h2.own,h2.known,h2.hold,h2.more,by have:=h2.Zp;omega⟩⟩⟩
def Cd.one(h:HA A)(hs:A.aw=[A.names])(hw:∀w∈A.writes,D w.1)(hc:∀f∈A.fs.map (·.1),¬D f→(A.file f).2=(A.file f).1)(hk:A.names.length≤k):Cd k A D :=
 ⟨hw,hc,A.names,[],hs,⟨h.keys,h.own,h.known,fun _ _ h=>h,fun _ _ h => .inl h,hk⟩⟩
def Cz.new(room:Nat):Cz 0 (Ab.new room):=Cd.one (HA.new room) rfl (fun w h=>by cases h) (fun f h=>by cases h) (Nat.zero_le _)
def Cd.file(h:Cd k A D)(hA:HA A)(hf:A.look n=some f):f∈A.fs.map (·.1):=hA.known _ (gJ hf)
def Cd.write(h:Cd k A D)(hA:HA A)(hw:fM n at_ b A 0 B):∃f,A.look n=some f∧B.look n=some f∧Cd k B (fun g=>D g∨g=f):=by
 rcases vE hw with⟨bY,_⟩|⟨_,f,hf,hn,hs,nr,qj⟩
 ·exact absurd rfl bY
 have hfm:=h.file hA hf
 have hid:B.fs.map (·.1)=A.fs.map (·.1):=I9 nr
 have oE:∀m,B.look m=A.look m:=fun m=>by unfold Ab.look;rw[hn]
 obtain⟨N0,rest,h1,h2⟩:=h.st
 refine⟨f,hf,(oE n).trans hf,fun w hw=>?_,fun g hg hd=>?_,N0,rest,by rw[hs];exact h1,h2.keys,h2.own,fun x hx=>by rw[hid];exact h2.known x hx,fun m g hg=>h2.hold m g (by rw[← oE];exact hg),fun m g hg=>?_,h2.Zp⟩
 ·rw[qj,List.mem_append,List.mem_singleton]at hw
  rcases hw with hw|rfl
  ·exact .inl (h.wr w hw)
  ·exact .inr rfl
 ·rw[hid]at hg
  rw[za nr hg,if_neg (fun e=>hd (.inr e))]
  exact h.cl g hg (fun x=>hd (.inl x))
 ·rw[oE]
  rcases h2.more m g hg with hm|⟨hd,hl⟩
  ·exact .inl hm
  ·by_cases EM:g=f
   ·left
    have h3:=h2.hold n f hf
    rw[← EM]at h3 hf
    have:=Q8 h2.keys h2.own hg h3
    rw[this];exact hf
   ·right
    refine⟨hd,?_⟩
    unfold Ab.now
    rw[za nr (h2.known _ (kY hg)),if_neg EM]
    exact hl
def Cd.sync(h:Cd k A D)(hA:HA A)(hs:fg n A 0 B):∃f,A.look n=some f∧B.look n=some f∧Cd k B (fun g=>D g∧g≠f):=by
 rcases xO hs with⟨bY,_⟩|⟨_,f,hf,hn,cK,nr,qj⟩
 ·exact absurd rfl bY
 have hid:B.fs.map (·.1)=A.fs.map (·.1):=EA nr
 have oE:∀m,B.look m=A.look m:=fun m=>by unfold Ab.look;rw[hn]
 obtain⟨N0,rest,h1,h2⟩:=h.st
 refine⟨f,hf,(oE n).trans hf,fun w hw=>?_,fun g hg hd=>?_,N0,rest,by rw[cK];exact h1,h2.keys,h2.own,fun x hx=>by rw[hid];exact h2.known x hx,fun m g hg=>h2.hold m g (by rw[← oE];exact hg),fun m g hg=>?_,h2.Zp⟩
 ·rw[qj,List.mem_filter]at hw
  exact⟨h.wr w hw.1,by simpa using hw.2⟩
 ·rw[hid]at hg
  rw[vh nr hg]
  by_cases EM:g=f
  ·rw[if_pos EM]
  ·rw[if_neg EM]
   exact h.cl g hg (fun x=>hd ⟨x,EM⟩)
 ·rw[oE]
  rcases h2.more m g hg with hm|⟨hd,hl⟩
  ·exact .inl hm
  ·refine .inr ⟨hd,?_⟩
   unfold Ab.now
   rw[vh nr (h2.known _ (kY hg))]
   split <;> exact hl
def Cz.put{C:Ab}(h:Cz k A)(hA:HA A)(hB:HA B)(hw:fM n at_ b A 0 B)(hs:fg n B 0 C):Cz k C:=by
 obtain⟨f,h1,h2,h3⟩:=h.write hA hw
 obtain⟨g,h4,h5,h6⟩:=h3.sync hB hs
 rw[h2]at h4
 injection h4 with h4
 exact h6.mono (fun x hx=>by rcases hx with⟨hx|hx,hy⟩;exact hx;exact hy (hx.trans h4)) (Nat.le_refl _)
def Cz.W3(h:Cz k A)(hA:HA A)(hs:fg n A 0 B):Cz k B:=by
 obtain⟨g,h4,h5,h6⟩:=h.sync hA hs
 exact h6.mono (fun x hx=>hx.1) (Nat.le_refl _)
def Cd.remove{d:Dg}{c:List UInt8}(h:Cd k A D)(hA:HA A)(hv:vw A (iu d)=some c)(hc:c.length≤1000)(hs:jg (iu d) A 0 B):Cd k B D:=by
 rcases B5 hs with⟨bY,_⟩|⟨_,⟨f,hf⟩,hn,cK,nr,qj,_⟩
 ·exact absurd rfl bY
 have oE:∀m,B.look m=if m=iu d then none else A.look m:=fun m=>by
  unfold Ab.look
  rw[hn,nP]
 obtain⟨N0,rest,h1,h2⟩:=h.st
 refine⟨fun w hw=>h.wr w (qj ▸ hw),fun g hg hd=>by rw[tZ nr];exact h.cl g (nr ▸ hg) hd,N0,rest++[Ab.dI A.names (iu d)],by rw[cK,h1];rfl,h2.keys,h2.own,fun x hx=>by rw[nr];exact h2.known x hx,fun m g hg=>?_,fun m g hg=>?_,h2.Zp⟩
 ·rw[oE]at hg
  by_cases hm:m=iu d
  ·rw[if_pos hm]at hg;cases hg
  ·rw[if_neg hm]at hg;exact h2.hold m g hg
 ·have jI:B.now g=A.now g:=by unfold Ab.now;rw[tZ nr]
  rw[oE,jI]
  rcases h2.more m g hg with hm|hr
  ·by_cases he:m=iu d
   ·right
    refine⟨⟨d,he⟩,?_⟩
    unfold vw at hv
    rw[← he,hm]at hv
    injection hv with hv
    rw[hv];exact hc
   ·rw[if_neg he];exact .inl hm
  ·exact .inr hr
def Cz.du(h:Cz k A)(hA:HA A):HA (A.du 0 [] (-1) 0)∧Cz k (A.du 0 [] (-1) 0)∧(A.du 0 [] (-1) 0).room=A.room∧(A.du 0 [] (-1) 0).names.length≤k∧(A.du 0 [] (-1) 0).aw.length=1∧(A.du 0 [] (-1) 0).writes=[] ∧
  (∀n c,vw A n=some c→vw (A.du 0 [] (-1) 0) n=some c)∧∀n c,vw (A.du 0 [] (-1) 0) n=some c→vw A n=some c∨(∃d,n=iu d)∧c.length≤1000:=by
 obtain⟨N0,rest,h1,h2⟩:=h.st
 have lD:(A.du 0 [] (-1) 0).names=N0:=by
  simp only[Ab.du,h1,List.length_cons]
  rw[show(max 0 (min (0:Int) (((rest.length+1:Nat):Int)-1))).toNat=0 by omega]
  rfl
 have cK:(A.du 0 [] (-1) 0).aw=[(A.du 0 [] (-1) 0).names]:=rfl
 have EL:(A.du 0 [] (-1) 0).fs.map (·.1)=A.fs.map (·.1):=by
  simp only[Ab.du]
  rw[xd _ _ (fun x=>by split <;> rfl),tO]
 have mi:∀n f,Ab.cP N0 n=some f→(A.du 0 [] (-1) 0).file f=A.file f:=fun n f hf=>by
  refine(HT 0 [] (-1) 0 (h2.known _ (kY hf)) ?_).2 ⟨h.cl f (h2.known _ (kY hf)) (fun x=>x),fun w hw=>absurd (h.wr w hw) (fun x=>x)⟩
  unfold Ab.reach
  rw[List.mem_flatMap]
  exact⟨N0,by rw[lD];simp,List.mem_map.2 ⟨_,kY hf,rfl⟩⟩
 have hB:HA (A.du 0 [] (-1) 0):=⟨rfl,rfl,by rw[lD];exact h2.keys,by rw[lD];exact h2.own,by rw[EL];exact hA.ids,fun x hx=>by rw[EL];rw[lD]at hx;exact h2.known x hx⟩
 have oE:∀m,(A.du 0 [] (-1) 0).look m=Ab.cP N0 m:=fun m=>by unfold Ab.look;rw[lD]
 refine⟨hB,Cd.one hB cK (fun w hw=>by cases hw) (fun f hf _=>?_) (by rw[lD];exact h2.Zp),rfl,by rw[lD];exact h2.Zp,rfl,rfl,fun n c hc=>?_,fun n c hc=>?_⟩
 ·rw[EL]at hf
  obtain⟨x,hx,hxf⟩:=y8 hf
  have hl:Ab.jG [] (-1) 0 0 A.writes A.fs=A.fs:=by
   cases hw:A.writes with
   | nil=>rfl
   | cons w l=>exact absurd (h.wr w (by rw[hw];simp)) (fun x=>x)
  have hc:=h.cl f hf (fun x=>x)
  have hAf:A.file f=x.2:=by unfold Ab.file;rw[hx];rfl
  rw[hAf]at hc
  have:(A.du 0 [] (-1) 0).file f=x.2:=by
   simp only[Ab.du,hl]
   unfold Ab.file
   simp only
   rw[kP _ (fun x=>by split <;> rfl),hx]
   simp only[Option.map_some,Option.getD_some]
   split
   ·exact Prod.ext hc rfl
   ·rfl
  rw[this];exact hc
 ·unfold vw at hc ⊢
  rw[oE]
  cases hl:A.look n with
  | none=>rw[hl]at hc;cases hc
  | some f =>
   rw[hl]at hc
   have hh:=h2.hold n f hl
   rw[hh]
   rw[← hc]
   simp only[Option.map_some]
   unfold Ab.now
   rw[mi n f hh]
 ·unfold vw at hc ⊢
  rw[oE]at hc
  cases hl:Ab.cP N0 n with
  | none=>rw[hl]at hc;cases hc
  | some f =>
   rw[hl]at hc
   simp only[Option.map_some,Option.some.injEq]at hc
   have jI:(A.du 0 [] (-1) 0).now f=A.now f:=by unfold Ab.now;rw[mi n f hl]
   rw[jI]at hc
   rcases h2.more n f hl with hm|⟨hd,hlen⟩
   ·left;rw[hm,← hc];rfl
   ·right;exact⟨hd,by rw[← hc];exact hlen⟩
def oA(name:ByteArray)(A:Ab)(x:JN)(ls:List (List UInt8))(e:Nat)(A':Ab)(x':JN):Prop :=
 if x.br then e=10∧A'=A∧x'=x else if ls.any (fun b=>decide (4096<b.length))then e=1∧A'=A∧x'=x else if 524288<(ls.flatMap aV).length then e=3∧A'=A∧x'=x
 else ∃y:PS,Ap name ls (A,x.n,x.s,x.c) e y∧A'=y.1∧x'=⟨y.2.1,y.2.2.1,y.2.2.2,decide (e≠0)⟩
def Q0{l:List (ByteArray × Nat)}(h1:(l.map (·.1)).Nodup)(h2:(l.map (·.2)).Nodup)(hf:∀x∈l,x.2≠f):((l.map fun x=>if x.1=n then(n,f)else x).map (·.2)).Nodup:=by
 unfold List.Nodup at h1 h2 ⊢
 rw[List.pairwise_map]at h1 h2
 rw[List.pairwise_map,List.pairwise_map]
 refine List.Pairwise.imp_of_mem ?_ (List.Pairwise.and h1 h2)
 intro a b ha hb m8
 by_cases ea:a.1=n
 ·rw[if_pos ea,if_neg (fun e=>m8.1 (ea.trans e.symm))]
  exact fun e=>hf b hb e.symm
 ·rw[if_neg ea]
  by_cases eb:b.1=n
  ·rw[if_pos eb];exact hf a ha
  ·rw[if_neg eb];exact m8.2
def Nu(l:List (ByteArray × Nat))(n:ByteArray)(f:Nat):(l.map fun x=>if x.1=n then(n,f)else x).map (·.1)=l.map (·.1):=by
 rw[List.map_map]
 refine List.map_congr_left fun x _=>?_
 simp only[Function.comp]
 split
 ·rename_i h;exact h.symm
 ·rfl
def HA.Q1(h:HA A){o:ByteArray}{c d:List UInt8}(bY:o≠n)(hv:vw A o=some c)(Jb:vw A n=some d)(hB:(e,B)=A.rename true o n) :
    e=0∧HA B∧vw B=eK (eK (vw A) o none) n (some c)∧B.room=A.room:=by
  obtain⟨f,hf,rfl⟩:∃f,A.look o=some f∧A.now f=c:=by
    unfold vw at hv
    cases hx:A.look o with
    | none=>rw[hx]at hv;cases hv
    | some f=>rw[hx]at hv;injection hv with hv;exact⟨f,rfl,hv⟩
  obtain⟨g,hg⟩:∃g,A.look n=some g:=by
    unfold vw at Jb
    cases hx:A.look n with
    | none=>rw[hx]at Jb;cases Jb
    | some g=>exact⟨g,rfl⟩
  have OS:Ab.cP (Ab.dI A.names o) n=some g:=by
    rw[nP,if_neg (fun e=>bY e.symm)]
    exact hg
  obtain⟨N,hN⟩:∃N,N=(Ab.dI A.names o).map (fun x=>if x.1=n then(n,f)else x):=⟨_,rfl⟩
  have ir:Ab.jQ (Ab.dI A.names o) n f=N:=by
    unfold Ab.jQ
    rw[OS,hN];simp
  have hc:A.rename true o n=(0,A.ng N):=by
    unfold Ab.rename
    rw[h.find,hf]
    show(0,A.ng (Ab.jQ (Ab.dI A.names o) n f))=_
    rw[ir]
  rw[hc]at hB
  injection hB with h1 h2
  subst h1 h2
  have eF:∀x∈Ab.dI A.names o,x∈A.names∧x.1≠o:=fun x hx=>by
    obtain⟨h1,h2⟩:=List.mem_filter.1 hx
    exact⟨h1,by simpa using h2⟩
  have ve:((Ab.dI A.names o).map (·.1)).Nodup:=(List.filter_sublist.map _).nodup h.keys
  have sM:((Ab.dI A.names o).map (·.2)).Nodup:=(List.filter_sublist.map _).nodup h.own
  have hnf:∀x∈Ab.dI A.names o,x.2≠f:=fun x hx e=>by
    have h3:=fp h.keys (eF x hx).1
    rw[e]at h3
    exact(eF x hx).2 (h.Q9 h3 hf)
  have hkN:(N.map (·.1)).Nodup:=by rw[hN,Nu];exact ve
  have fz:∀x∈N,x=(n,f)∨(x∈Ab.dI A.names o∧x.1≠n):=fun x hx=>by
    rw[hN]at hx
    obtain⟨y,hy,rfl⟩:=List.mem_map.1 hx
    split
    · exact .inl rfl
    · rename_i I';exact .inr ⟨hy,I'⟩
  have hH:HA (A.ng N):=⟨h.er,h.on,hkN,by show(N.map (·.2)).Nodup;rw[hN];exact Q0 ve sM hnf,h.ids,fun x hx=>by
    rcases fz x hx with rfl|⟨hx,_⟩
    · exact h.known (o,f) (gJ hf)
    · exact h.known x (eF x hx).1⟩
  refine⟨rfl,hH,funext fun m=>?_,rfl⟩
  have abq:(A.ng N).look m=if m=n then some f else if m=o then none else A.look m:=by
    have qm:∀x∈N,(A.ng N).look x.1=some x.2:=fun x hx=>fp (A:=A.ng N) hkN hx
    by_cases hm:m=n
    · rw[if_pos hm,hm]
      refine qm (n,f) ?_
      rw[hN]
      refine List.mem_map.2 ⟨(n,g),?_,if_pos rfl⟩
      exact gJ (A:=A.ng (Ab.dI A.names o)) OS
    · rw[if_neg hm]
      have hd:Ab.cP (Ab.dI A.names o) m=if m=o then none else A.look m:=nP A.names o m
      rw[← hd]
      cases hx:Ab.cP (Ab.dI A.names o) m with
      | some k =>
        refine qm (m,k) ?_
        rw[hN]
        exact List.mem_map.2 ⟨(m,k),gJ (A:=A.ng (Ab.dI A.names o)) hx,if_neg hm⟩
      | none =>
        cases hy:(A.ng N).look m with
        | none=>rfl
        | some k =>
          rcases fz _ (gJ hy)with he|⟨adK,_⟩
          · injection he with he _;exact absurd he hm
          · have:=fp (A:=A.ng (Ab.dI A.names o)) ve adK
            have h2:(A.ng (Ab.dI A.names o)).look m=none:=hx
            simp only at this
            rw[h2]at this
            cases this
  unfold vw eK
  rw[abq]
  by_cases hm:m=n
  · rw[if_pos hm,if_pos hm];rfl
  · rw[if_neg hm,if_neg hm]
    by_cases ho:m=o
    · rw[if_pos ho,if_pos ho];rfl
    · rw[if_neg ho,if_neg ho];rfl
def AU{n s c:Int}{y:PS}(h:HA A)(hn:isName nm=true)(hf:isName (bL nm)=true)(bY:bL nm≠nm)(Hj:vw A (bL nm)=none)(hl:A.names.length<200)(A9:(ck ls).length≤1048576)(hr:A.used+(ck ls).length≤A.room)(hR:Ap nm ls (A,n,s,c) e y) :
  e=0∧HA y.1∧vw y.1=eK (vw A) nm (some (ck ls))∧y.1.room=A.room∧y.2=(1,((ls.flatMap aV).length:Int),((ls.flatMap aV).length:Int)):=by
 unfold Ap gI at hR
 have iB:(A.size (bL nm)).2=4:=by
  have oE:A.look (bL nm)=none:=by
   unfold vw at Hj
   cases hx:A.look (bL nm)with
   | none=>rfl
   | some f=>rw[hx]at Hj;cases Hj
  unfold Ab.size
  rw[oE]
 simp only[iB]at hR
 rw[if_neg ag,List.nil_append]at hR
 obtain⟨e1,x1,⟨⟨f,h1f,Cs,yX⟩,h1c⟩,c1⟩:=hR
 rw[hf]at Cs yX
 obtain⟨g0,g1,g2,g3⟩:=h.JE Hj hl h1f (B:=x1.1) (e:=e1) (by rw[Cs,yX])
 subst g0
 rcases c1 with⟨fT,_⟩|⟨_,e2,x2,⟨⟨Lr,vZ⟩,h2c⟩,c2⟩
 ·exact absurd rfl fT
 have hw:fZ (bL nm) 0 (ck ls)=true:=by
  have:=qU hf 0 (ck ls) ag
  simpa using this
 rw[hw]at Lr vZ
 obtain⟨hu,EJ⟩:=h.pR g1 Hj g2
 obtain⟨k0,k1,k2,k3⟩:=g1.uM (nm:=bL nm) (c:=[]) (by rw[g2,dv]) 0 (ck ls) (by rw[hu,g3];simp only[List.length_nil];omega) (B:=x2.1) (e:=e2) (by rw[Lr,vZ])
 subst k0
 rcases c2 with⟨fT,_⟩|⟨_,e3,x3,⟨⟨HE,Bk⟩,Zn⟩,c3⟩
 ·exact absurd rfl fT
 rw[hf]at HE Bk
 have qj:bK [] 0 (ck ls)=ck ls:=by unfold bK;simp
 rw[qj]at k2
 obtain⟨m0,m1,m2,m3⟩:=k1.xP (nm:=bL nm) (c:=ck ls) (by rw[k2,dv]) (B:=x3.1) (e:=e3) (by rw[HE,Bk])
 subst m0
 rcases c3 with⟨fT,_⟩|⟨_,e4,x4,⟨⟨Gf,E6⟩,h4c⟩,c4⟩
 ·exact absurd rfl fT
 have fH:[bL nm,nm].all isName=true:=by simp[hf,hn]
 rw[fH]at Gf E6
 have hvo:vw x3.1 (bL nm)=some (ck ls):=by rw[m2,k2,dv]
 have Jb:vw x3.1 nm=vw A nm:=by rw[m2,k2,dL _ _ (fun e=>bY e.symm),g2,dL _ _ (fun e=>bY e.symm)]
 obtain⟨p0,p1,p2,p3⟩:e4=0∧HA x4.1∧vw x4.1=eK (eK (vw x3.1) (bL nm) none) nm (some (ck ls))∧x4.1.room=x3.1.room:=by
  cases hd:vw A nm with
  | none=>exact m1.IN bY hvo (by rw[Jb,hd]) (B:=x4.1) (e:=e4) (by rw[Gf,E6])
  | some d=>exact m1.Q1 bY hvo (by rw[Jb,hd]) (B:=x4.1) (e:=e4) (by rw[Gf,E6])
 subst p0
 rcases c4 with⟨fT,_⟩|⟨_,e5,x5,⟨⟨R4,R3⟩,h5c⟩,c5⟩
 ·exact absurd rfl fT
 obtain⟨q0,q1,q2,q3⟩:=p1.xQ (B:=x5.1) (e:=e5) (by rw[R4,R3])
 subst q0
 rcases c5 with⟨fT,_⟩|⟨_,e6,x6,⟨Zm,Yj⟩,c6⟩
 ·exact absurd rfl fT
 subst Zm
 rcases c6 with⟨fT,_⟩|⟨_,he,hy⟩
 ·exact absurd rfl fT
 subst he
 rw[hy,Yj]
 simp only
 refine⟨trivial,q1,?_,by rw[q3,p3,m3,k3,g3],trivial⟩
 rw[q2,p2,m2,k2,g2]
 funext m
 unfold eK
 by_cases h1:m=nm
 ·simp[h1]
 ·by_cases h2:m=bL nm
  ·rw[if_neg h1,if_neg h1,if_pos h2,h2];exact Hj.symm
  ·simp[h1,h2]
def Dv{n:Nat}(h:n<128):di [UInt8.ofNat n]=some n:=by
 have:=uQ (n:=n) ag
 rwa[gh h]at this
def Gq{c:UInt8}(h:¬c.toNat<128):di [c]=none:=by
 unfold di dr
 simp[og,h]
def KS{x:List UInt8}(hx:x.length≤4096)(rest:List UInt8):l9 (aV x++rest)=some ((uv x.length).length,x.length):=by
 unfold l9 aV
 have hp:=Gm x.length
 rw[if_pos (by simp only[List.length_append];omega)]
 by_cases h:x.length<128
 ·rw[gh h]
  simp only[List.cons_append,List.nil_append,List.take_succ_cons,List.take_zero,Dv h,List.length_singleton]
 ·have h2:uv x.length=[UInt8.ofNat (x.length%128+128),UInt8.ofNat (x.length/128)]:=by rw[xG h,gh ag]
  have hu:=uQ (n:=x.length) ag
  rw[h2]at hu ⊢
  have e:(UInt8.ofNat (x.length%128+128)).toNat=x.length%128+128:=by simp only[UInt8.toNat_ofNat'];omega
  simp only[List.cons_append,List.nil_append,List.take_succ_cons,List.take_zero]
  rw[Gq (by rw[e];omega)]
  simp only[List.length_cons]
  rw[if_pos ag,hu]
  rfl
def pZ:∀(ls:List (List UInt8)),(∀x∈ls,x.length≤4096)→cp (ls.flatMap aV)=ls
 | [],_=>by
  refine rQ ?_
  unfold l9
  simp
 | x::ls,h=>by
  have hx:=h x (List.mem_cons_self ..)
  have hl:=KS hx (ls.flatMap aV)
  have X0:(aV x).length=(uv x.length).length+x.length:=by simp[aV]
  rw[List.flatMap_cons,rR hl ⟨hx,by rw[List.length_append,X0];omega⟩]
  congr 1
  ·unfold aV
   rw[List.append_assoc,List.drop_left,List.take_left]
  ·rw[← X0,List.drop_left,pZ ls (fun y hy=>h y (List.mem_cons_of_mem _ hy))]
def tN{n:Nat}(hn:n<4294967296)(hm:m<4294967296):oX (bZ n m)=n∧oX ((bZ n m).drop 4)=m:=by
 unfold bZ
 rw[List.append_assoc]
 refine⟨I4 n hn _,?_⟩
 rw[show(vS n++(vS m++(vS n++vS m))).drop 4=vS m++(vS n++vS m)from rfl]
 exact I4 m hm _
def Lj{last n:Nat}(h:(C.drop (16*k)).take 16=bZ n m)(hn:n<4294967296)(hm:m<4294967296):lz C k last=decide (last<n∧n≤1073741824∧n%2=k∧m+32≤C.length):=by
 unfold lz
 rw[h]
 simp only[(tN hn hm).1,(tN hn hm).2,and_true]
def EU{last:Nat}(h:(C.drop (16*k)).take 16=List.replicate 16 0):lz C k last=false:=by
 unfold lz
 rw[h]
 have:oX (List.replicate 16 0)=0:=by decide
 simp only[this]
 exact decide_eq_false (fun hh=>by have:=hh.1;omega)
def kz{n:Nat}{s:Nat × Nat}(h:(C.drop (16*k)).take 16=bZ n m)(hn:n<4294967296)(hm:m<4294967296):fh C k s=if s.1<n∧n≤1073741824∧n%2=k∧m+32≤C.length then(n,m)else s:=by
 unfold fh
 rw[Lj h hn hm,h,(tN hn hm).1,(tN hn hm).2]
 by_cases hc:s.1<n∧n≤1073741824∧n%2=k∧m+32≤C.length
 ·rw[if_pos hc,if_pos (decide_eq_true hc)]
 ·rw[if_neg hc,if_neg (by rw[decide_eq_false hc];simp)]
def vV{s:Nat × Nat}(h:(C.drop (16*k)).take 16=List.replicate 16 0):fh C k s=s:=by
 unfold fh
 rw[EU h];simp
def aca(a b c:List UInt8)(ha:a.length=16)(hb:b.length=16):((a++b++c).drop (16*0)).take 16=a∧((a++b++c).drop (16*1)).take 16=b∧(a++b++c).drop 32=c:=by
 have TD:(a++b).length=32:=by rw[List.length_append];omega
 refine⟨?_,?_,?_⟩
 ·rw[List.append_assoc,Nat.mul_zero,List.drop_zero,← ha,List.take_left]
 ·rw[List.append_assoc,show 16*1=a.length from by omega,List.drop_left,← hb,List.take_left]
 ·rw[← TD,List.drop_left]
def Gi(C b:List UInt8):bK C C.length b=C++b:=by
 unfold bK
 rw[show C.length+b.length-C.length=b.length from by omega]
 simp
def Dr(a h r:List UInt8)(hl:h.length=a.length):bK (a++r) 0 h=h++r:=by
 unfold bK
 rw[show 0+h.length-(a++r).length=0 from by rw[List.length_append];omega]
 simp only[List.replicate_zero,List.append_nil,List.take_zero,List.nil_append,Nat.zero_add]
 rw[hl,List.drop_left]
def On(m:Nat)(body:List UInt8):List UInt8:=List.replicate 16 0++bZ 1 m++body
def KV(m:Nat)(body:List UInt8):(On m body).length=32+body.length:=by
 unfold On;simp only[List.length_append,List.length_replicate,gf]
def Gl(ls:List (List UInt8)):ck ls=On (ls.flatMap aV).length (ls.flatMap aV):=rfl
structure Fl(A:Ab)(D:Nat→Prop):Prop where
 wr:∀w∈A.writes,D w.1
 cl:∀f∈A.fs.map (·.1),¬D f→(A.file f).2=(A.file f).1
def Cd.fl(h:Cd k A D):Fl A D:=⟨h.wr,h.cl⟩
def Fl.none(h:Fl A (fun g=>(False∨g=f)∧g≠f)):Fl A (fun _=>False) :=
 ⟨fun w hw=>by rcases h.wr w hw with⟨hx|hx,hy⟩;exact hx;exact hy hx,fun g hg hd=>h.cl g hg (fun x=>by rcases x with⟨hx|hx,hy⟩;exact hx;exact hy hx)⟩
def Fl.create(h:Fl A D)(hs:iF n A 0 B):∃f,B.look n=some f∧Fl B D:=by
 rcases CD hs with⟨bY,_⟩|⟨_,jI,f,hf,hn,cK,nr,qj⟩
 ·exact absurd rfl bY
 refine⟨f,?_,fun w hw=>h.wr w (qj ▸ hw),fun g hg hd=>?_⟩
 ·unfold Ab.look at jI ⊢
  rw[hn,Ha,jI]
  simp
 ·rw[Pf nr]
  split
  ·rfl
  ·rename_i EM
   rw[Rq nr]at hg
   rcases List.mem_cons.1 hg with e|hg
   ·exact absurd e.symm EM
   ·exact h.cl g hg hd
def Fl.write(h:Fl A D)(hw:fM n at_ b A 0 B):∃f,A.look n=some f∧B.look n=some f∧B.names=A.names∧B.aw=A.aw∧Fl B (fun g=>D g∨g=f):=by
 rcases vE hw with⟨bY,_⟩|⟨_,f,hf,hn,hs,nr,qj⟩
 ·exact absurd rfl bY
 refine⟨f,hf,by unfold Ab.look at hf ⊢;rw[hn];exact hf,hn,hs,fun w hw=>?_,fun g hg hd=>?_⟩
 ·rw[qj,List.mem_append,List.mem_singleton]at hw
  rcases hw with hw|rfl
  ·exact .inl (h.wr w hw)
  ·exact .inr rfl
 ·rw[I9 nr]at hg
  rw[za nr hg,if_neg (fun e=>hd (.inr e))]
  exact h.cl g hg (fun x=>hd (.inl x))
def Fl.sync(h:Fl A D)(hs:fg n A 0 B):∃f,A.look n=some f∧B.names=A.names∧B.aw=A.aw∧Fl B (fun g=>D g∧g≠f):=by
 rcases xO hs with⟨bY,_⟩|⟨_,f,hf,hn,cK,nr,qj⟩
 ·exact absurd rfl bY
 refine⟨f,hf,hn,cK,fun w hw=>?_,fun g hg hd=>?_⟩
 ·rw[qj,List.mem_filter]at hw
  exact⟨h.wr w hw.1,by simpa using hw.2⟩
 ·rw[EA nr]at hg
  rw[vh nr hg]
  by_cases EM:g=f
  ·rw[if_pos EM]
  ·rw[if_neg EM];exact h.cl g hg (fun x=>hd ⟨x,EM⟩)
def Fl.aaZ(h:Fl A D)(hf:B.fs=A.fs)(hw:B.writes=A.writes):Fl B D:=⟨fun w hm=>h.wr w (hw ▸ hm),fun f hm hd=>by rw[tZ hf];exact h.cl f (hf ▸ hm) hd⟩
def Fl.rename{o:ByteArray}(h:Fl A D)(hs:kV o n A 0 B):Fl B D:=by
 rcases B4 hs with⟨bY,_⟩|⟨_,f,hf,hn,cK,nr,qj⟩
 ·exact absurd rfl bY
 ·exact h.aaZ nr qj
def Fl.names(h:Fl A (fun _=>False))(hB:HA B)(hs:dO A 0 B)(hk:B.names.length≤k):Cz k B:=by
 rcases wx hs with⟨bY,_⟩|⟨_,hn,cK,nr,qj⟩
 ·exact absurd rfl bY
 have h2:=h.aaZ nr qj
 exact Cd.one hB (by rw[cK,hn]) h2.wr h2.cl hk
def Fl.put{C:Ab}(h:Fl A (fun _=>False))(hw:fM n at_ b A 0 B)(hs:fg n B 0 C):Fl C (fun _=>False):=by
 obtain⟨f,h1,h2,_,_,h3⟩:=h.write hw
 obtain⟨g,h4,_,_,h6⟩:=h3.sync hs
 rw[h2]at h4
 injection h4 with h4
 subst h4
 exact Fl.none h6
def Cz.begin{q:Int}{s:fe}(h:Cz k s.A)(hA:HA s.A)(hb:s.brk=false)(hn:s.A.names.length<k)(hk:k≤200)(hR:dS q x s e t):Cz k t.A:=by
 unfold dS at hR
 rw[if_neg (by rw[hb];simp)]at hR
 split at hR
 ·rw[hR.2];exact h
 split at hR
 ·rw[hR.2];exact h
 split at hR
 ·rw[hR.2];exact h
 split at hR
 ·rw[hR.2];exact h
 rename_i hS
 rw[lM]at hS
 have hv:vw s.A (fS x)=none:=by
  cases hx:vw s.A (fS x)with
  | none=>rfl
  | some c=>rw[hx]at hS;exact absurd rfl hS
 obtain⟨e1,s1,⟨B,⟨e2,A2,Ll,mT⟩,rfl⟩,hc⟩:=hR
 have ad1:=Ll
 obtain⟨f,hf,Ll⟩:=Ll
 rw[gK]at Ll
 obtain⟨rfl,h2,rW,rI,zW⟩:=hA.create hv ag hf Ll
 obtain⟨_,_,nW⟩:=h.fl.create ad1
 rcases mT with⟨bY,_⟩|⟨_,e3,A3,Xq,X'⟩
 ·exact absurd rfl bY
 obtain⟨rfl,h3,hv3,Lb,Y4⟩:=h2.cu Xq
 rcases X' with⟨bY,_⟩|⟨_,rfl,rfl⟩
 ·exact absurd rfl bY
 rcases hc with⟨bY,_⟩|⟨_,rfl,rfl⟩
 ·exact absurd rfl bY
 exact nW.names h3 Xq (by rw[Lb,rI];omega)
def Cz.acJ{i:Int}{s u:fe}{e:Nat}(h:Cz k s.A)(hA:HA s.A)(hB:HA t.A)(hR:mU x i b s 0 t)(hS:ko x t 0 u):Cz k u.A:=by
 unfold mU at hR
 split at hR
 ·exact absurd hR.1.symm (by assumption)
 split at hR
 ·cases hR.1
 split at hR
 ·cases hR.1
 obtain⟨B,⟨e1,A1,hw,hc⟩,rfl⟩:=hR
 unfold ko at hS
 split at hS
 ·exact absurd hS.1.symm (by assumption)
 obtain⟨C,⟨e2,A2,hs,mT⟩,rfl⟩:=hS
 rcases hc with⟨bY,h0,_⟩|⟨h0,_,rfl⟩
 ·exact absurd h0.symm bY
 rcases mT with⟨bY,h02,_⟩|⟨h02,_,rfl⟩
 ·exact absurd h02.symm bY
 subst h0 h02
 exact h.put hA hB hw hs
def Cz.PG{c:List UInt8}{s:fe}(h:Cz k s.A)(hA:HA s.A)(hv:vw s.A (iu x.d)=some c)(hc:c.length≤1000)(hR:j6 x s 0 t):Cz k t.A:=by
 unfold j6 at hR
 split at hR
 ·exact absurd hR.1.symm (by assumption)
 obtain⟨s1,⟨B,⟨e1,A1,hw,Bj⟩,rfl⟩,ht⟩:=hR
 rw[if_neg (by simp)]at ht
 rcases Bj with⟨bY,h0,_⟩|⟨h0,_,rfl⟩
 ·exact absurd h0.symm bY
 subst h0 ht
 exact h.remove hA hv hc hw
def Cz.Oq{c:List UInt8}{s:fe}(h:Cz k s.A)(hA:HA s.A)(hb:s.brk=false)(ho:gN s.bt x.d=some x)(hv:vw s.A (iu x.d)=some c)(hc:c.length≤1000)(jI:vw s.A (fB x)=none)(hn:s.A.names.length<k)(hR:dR x s e t):Cz k t.A:=by
 cases hw:dX x c with
 | false =>
  have hm:jh s x=0:=by unfold jh tI;simp[hb,ho]
  unfold dR at hR
  rw[hm,if_neg (by simp),om hA,show vw s.A (fS x)=some c from hv,if_pos (by exact hw)]at hR
  obtain⟨e1,m8,he⟩:=hR
  obtain⟨rfl,_⟩:=zV hA hb ho hv m8
  exact h.PG hA hv hc m8
 | true =>
  obtain⟨A,bt,brk⟩:=s
  simp only at h hA hb ho hv jI hn
  subst hb
  have hm:jh ⟨A,bt,false⟩ x=0:=by unfold jh tI;simp[ho]
  unfold dR at hR
  rw[hm,if_neg (by simp),om hA,show vw A (fS x)=some c from hv,if_neg (by show ¬dX x c=false;rw[hw];simp)]at hR
  obtain⟨s1,⟨B,⟨e1,A1,h1,Bj⟩,rfl⟩,ht⟩:=hR
  have h10:=h1
  unfold fg at h1
  rw[gK]at h1
  obtain⟨rfl,g1,v1,l1,r1⟩:=hA.sync hv h1
  have z1:=h.W3 hA h10
  rcases Bj with⟨bY,_⟩|⟨_,e2,A2,h2,mT⟩
  ·exact absurd rfl bY
  have h20:=h2
  unfold kV at h2
  rw[show [fS x,fB x].all isName=true from by simp[gK,A7]]at h2
  obtain⟨rfl,g2,v2,r2,f,_,l2⟩:=g1.rename (Fc x x) ((v1 _).trans hv) ((v1 _).trans jI) h2
  have z2:=z1.fl.rename h20
  rcases mT with⟨bY,_⟩|⟨_,e3,A3,h3,X'⟩
  ·exact absurd rfl bY
  obtain⟨rfl,g3,v3,l3,r3⟩:=g2.cu h3
  rcases X' with⟨bY,_⟩|⟨_,rfl,rfl⟩
  ·exact absurd rfl bY
  rw[if_neg (by simp)]at ht
  subst ht
  refine z2.names g3 h3 ?_
  have:(Ab.dI A1.names (fS x)).length≤A1.names.length:=List.length_filter_le _ _
  rw[l3,l2,List.length_append,List.length_singleton]
  rw[l1]at this ⊢
  omega
def JC(C:List UInt8)(n:Nat)(ls:List (List UInt8)):Prop :=
  ∃h0 h1:List UInt8,C=h0++h1++ls.flatMap aV∧h0.length=16∧h1.length=16∧1≤n ∧
    (if n%2=1 then h1=bZ n (ls.flatMap aV).length∧(h0=List.replicate 16 0∨∃s,s≤(ls.flatMap aV).length∧h0=bZ (n-1) s)
     else h0=bZ n (ls.flatMap aV).length∧(h1=List.replicate 16 0∨∃s,s≤(ls.flatMap aV).length∧h1=bZ (n-1) s))
def JC.len{n:Nat}(h:JC C n ls):C.length=32+(ls.flatMap aV).length:=by
 obtain⟨h0,h1,rfl,l0,l1,_⟩:=h
 simp only[List.length_append];omega
def JC.whole(ls:List (List UInt8)):JC (ck ls) 1 ls:=⟨List.replicate 16 0,bZ 1 (ls.flatMap aV).length,rfl,by simp,gf _ _,ag,by rw[if_pos rfl];exact⟨rfl,.inl rfl⟩⟩
def JC.found{n:Nat}(h:JC C n ls)(hn:n≤1073741824)(hs:(ls.flatMap aV).length<4294967296):fj C=ls.flatMap aV:=by
 have hlen:=h.len
 obtain⟨h0,h1,rfl,l0,l1,h1n,hc⟩:=h
 obtain⟨k0,k1,k2⟩:=aca h0 h1 (ls.flatMap aV) l0 l1
 unfold fj
 rw[if_neg ag,k2]
 have key:(fh (h0++h1++ls.flatMap aV) 1 (fh (h0++h1++ls.flatMap aV) 0 (0,0))).2=(ls.flatMap aV).length:=by
  by_cases hp:n%2=1
  ·rw[if_pos hp]at hc
   obtain⟨rfl,rfl|⟨s,gk,rfl⟩⟩:=hc
   ·rw[vV k0,kz k1 ag hs,if_pos ⟨by simp only;omega,hn,hp,ag⟩]
   ·rw[kz k0 ag ag]
    split
    ·rw[kz k1 ag hs,if_pos ⟨by simp only;omega,hn,hp,ag⟩]
    ·rw[kz k1 ag hs,if_pos ⟨by simp only;omega,hn,hp,ag⟩]
  ·rw[if_neg hp]at hc
   obtain⟨rfl,rfl|⟨s,gk,rfl⟩⟩:=hc
   ·rw[kz k0 ag hs,if_pos ⟨by simp only;omega,hn,ag,ag⟩,vV k1]
   ·rw[kz k0 ag hs,if_pos ⟨by simp only;omega,hn,ag,ag⟩,kz k1 ag ag,if_neg (by intro h;have:=h.1;simp only at this;omega)]
 rw[key,List.take_length]
def BK(a h h' r:List UInt8)(hl:h'.length=h.length):bK (a++h++r) a.length h'=a++h'++r:=by
 unfold bK
 rw[show a.length+h'.length-(a++h++r).length=0 from by simp only[List.length_append];omega]
 simp only[List.replicate_zero,List.append_nil]
 rw[show(a++h++r).take a.length=a from by rw[List.append_assoc,List.take_left],hl,show a.length+h.length=(a++h).length from by simp,List.drop_left]
def JC.add{n:Nat}(h:JC C n ls)(b:List UInt8):JC (bK (bK C (32+(ls.flatMap aV).length) (aV b)) ((n+1)%2*16) (bZ (n+1) ((ls.flatMap aV).length+(aV b).length))) (n+1) (ls++[b]):=by
 have hlen:=h.len
 rw[← hlen,Gi]
 obtain⟨h0,h1,rfl,l0,l1,h1n,hc⟩:=h
 have hf:(ls++[b]).flatMap aV=ls.flatMap aV++aV b:=by simp
 have nW:((ls++[b]).flatMap aV).length=(ls.flatMap aV).length+(aV b).length:=by rw[hf,List.length_append]
 by_cases hp:n%2=1
 ·rw[if_pos hp]at hc
  have wD:(n+1)%2=0:=by omega
  rw[wD,Nat.zero_mul,← nW,List.append_assoc,List.append_assoc,Dr h0 _ _ (by rw[gf,l0])]
  refine⟨bZ (n+1) ((ls++[b]).flatMap aV).length,h1,by simp only[hf,List.append_assoc],gf _ _,l1,ag,?_⟩
  rw[if_neg ag]
  exact⟨rfl,.inr ⟨(ls.flatMap aV).length,by rw[nW];omega,by rw[hc.1,Nat.add_sub_cancel]⟩⟩
 ·rw[if_neg hp]at hc
  have wD:(n+1)%2=1:=by omega
  rw[wD,Nat.one_mul,← nW,List.append_assoc (h0++h1),← l0,BK h0 h1 _ _ (by rw[gf,l1])]
  refine⟨h0,bZ (n+1) ((ls++[b]).flatMap aV).length,by simp only[hf,List.append_assoc],l0,gf _ _,ag,?_⟩
  rw[if_pos wD]
  exact⟨rfl,.inr ⟨(ls.flatMap aV).length,by rw[nW];omega,by rw[hc.1,Nat.add_sub_cancel]⟩⟩
def Ds(h:HA A)(h':HA B){k:ByteArray}{c c':List UInt8}(hk:vw A k=some c)(hv:vw B=eK (vw A) k (some c')):B.used+c.length=A.used+c'.length:=by
 rw[jO h,jO h',hv]
 exact QQ Es h.BS (hv ▸ h'.BS) hk
def AA(h:HA A)(h':HA B)(hv:vw B=vw A):B.used=A.used:=by
 rw[jO h,jO h',hv]
 exact xK Es (hv ▸ h'.BS) h.BS
def G3{n:Nat}{bt:List (Dg × Bl)}{brk:Bool}{s:Int}{y:SJ}(h:HA A)(hz:Cz k A)(hv:vw A db=some C)(hj:JC C n ls)(hs:s=((ls.flatMap aV).length:Int))(hb:b.length≤4096)(yN:(ls.flatMap aV).length+(aV b).length≤524288)(Te:n<1073741824)(hr:A.used+(64+(ls.flatMap aV).length+(aV b).length)≤A.room)(hR:iZ (kW b) (⟨A,bt,brk⟩,⟨n,s,s,false⟩) e y) :
  e=0∧HA y.1.A∧Cz k y.1.A∧(∃C',vw y.1.A=eK (vw A) db (some C')∧JC C' (n+1) (ls++[b]))∧y.1.A.room=A.room∧y.1.bt=bt∧y.1.brk=brk∧y.2=⟨((n+1:Nat):Int),(((ls++[b]).flatMap aV).length:Int),(((ls++[b]).flatMap aV).length:Int),false⟩∧y.1.A.names.length=A.names.length∧y.1.A.used≤A.used+(32+(ls.flatMap aV).length+(aV b).length):=by
 subst hs
 have lu:0<(aV b).length:=by have:=Gm b.length;simp[aV];omega
 have hlen:=hj.len
 have hf:((ls++[b]).flatMap aV).length=(ls.flatMap aV).length+(aV b).length:=by simp
 obtain⟨e1,x1,⟨Cs,yX⟩,c1⟩:=hR
 have hw:fZ db (32+((ls.flatMap aV).length:Int)) (aV b)=true:=by
  have:=qU dZ (32+(ls.flatMap aV).length) (aV b) ag
  simpa using this
 have ht:(32+((ls.flatMap aV).length:Int)).toNat=32+(ls.flatMap aV).length:=by omega
 obtain⟨a0,a1,a2,a3⟩:=h.uM hv (32+(ls.flatMap aV).length) (aV b) ag (B:=(A.write true db (32+(ls.flatMap aV).length) (aV b)).2) (e:=(A.write true db (32+(ls.flatMap aV).length) (aV b)).1) rfl
 have SV:fM db (32+(ls.flatMap aV).length) (aV b) A 0 (A.write true db (32+(ls.flatMap aV).length) (aV b)).2:=by
  unfold fM
  have mO:fZ db ((32+(ls.flatMap aV).length:Nat):Int) (aV b)=true:=by simpa using hw
  rw[mO,← a0]
 have RW:cY db A ⟨n,((ls.flatMap aV).length:Int),((ls.flatMap aV).length:Int),false⟩ b=(0,(A.write true db (32+(ls.flatMap aV).length) (aV b)).2,⟨n,(((ls++[b]).flatMap aV).length:Int),((ls.flatMap aV).length:Int),false⟩):=by
  unfold cY
  simp only[Bool.false_eq_true,if_false]
  rw[if_neg ag,if_neg ag,hw,ht,if_pos a0,hf]
  simp
 simp only[RW]at Cs yX
 subst Cs
 rcases c1 with⟨bY,_⟩|⟨_,e2,x2,⟨A',x',mT,vZ⟩,c2⟩
 ·exact absurd rfl bY
 rw[yX]at mT vZ
 simp only at mT vZ
 obtain⟨A1,sP⟩:∃A1,A1=(A.write true db (32+(ls.flatMap aV).length) (aV b)).2:=⟨_,rfl⟩
 rw[← sP]at a1 a2 a3 SV mT
 have S4:=Ds h a1 hv a2
 have w0:=eW C (32+(ls.flatMap aV).length) (aV b)
 unfold j5 at mT
 simp only[Bool.false_eq_true,if_false]at mT
 rw[if_neg (by rw[hf];omega),if_neg ag]at mT
 obtain⟨z,fV,rfl,rfl⟩:=mT
 obtain⟨e3,x3,⟨⟨HE,Bk⟩,Zn⟩,c3⟩:=fV
 simp only[dZ]at HE Bk
 have Qt:fg db A1 e3 x3.1:=by unfold fg;rw[dZ,HE,Bk]
 obtain⟨g0,g1,g2,g3⟩:=a1.xP (nm:=db) (c:=bK C (32+(ls.flatMap aV).length) (aV b)) (by rw[a2,dv]) (B:=x3.1) (e:=e3) (by rw[HE,Bk])
 subst g0
 have z3:Cz k x3.1:=hz.put h a1 SV Qt
 rcases c3 with⟨bY,_⟩|⟨_,e4,x4,⟨⟨Gf,E6⟩,h4c⟩,c4⟩
 ·exact absurd rfl bY
 have pK:(n:Int).toNat+1=n+1:=by omega
 have K1:(((ls++[b]).flatMap aV).length:Int).toNat=(ls.flatMap aV).length+(aV b).length:=by rw[hf];omega
 simp only[pK,K1]at Gf E6
 have hhl:=gf (n+1) ((ls.flatMap aV).length+(aV b).length)
 have hw4:fZ db (((n+1)%2*16:Nat):Int) (bZ (n+1) ((ls.flatMap aV).length+(aV b).length))=true:=qU dZ _ _ ag
 rw[hw4]at Gf E6
 have hu3:=AA a1 g1 g2
 obtain⟨k0,k1,k2,k3⟩:=g1.uM (nm:=db) (c:=bK C (32+(ls.flatMap aV).length) (aV b)) (by rw[g2,a2,dv]) ((n+1)%2*16) (bZ (n+1) ((ls.flatMap aV).length+(aV b).length)) (by rw[hu3,g3,a3];omega) (B:=x4.1) (e:=e4) (by rw[Gf,E6])
 subst k0
 have Xt:fM db ((n+1)%2*16) (bZ (n+1) ((ls.flatMap aV).length+(aV b).length)) x3.1 0 x4.1:=by
  unfold fM
  rw[hw4,Gf,E6]
 have hu4:=Ds g1 k1 (by rw[g2,a2,dv]) k2
 have w1:=eW C (32+(ls.flatMap aV).length) (aV b)
 have w2:=eW (bK C (32+(ls.flatMap aV).length) (aV b)) ((n+1)%2*16) (bZ (n+1) ((ls.flatMap aV).length+(aV b).length))
 rcases c4 with⟨bY,_⟩|⟨_,e5,x5,⟨⟨R4,R3⟩,h5c⟩,c5⟩
 ·exact absurd rfl bY
 simp only[dZ]at R4 R3
 have hs5:fg db x4.1 e5 x5.1:=by unfold fg;rw[dZ,R4,R3]
 obtain⟨m0,m1,m2,m3⟩:=k1.xP (nm:=db) (c:=bK (bK C (32+(ls.flatMap aV).length) (aV b)) ((n+1)%2*16) (bZ (n+1) ((ls.flatMap aV).length+(aV b).length))) (by rw[k2,dv]) (B:=x5.1) (e:=e5) (by rw[R4,R3])
 subst m0
 have z5:Cz k x5.1:=z3.put g1 k1 Xt hs5
 have hu5:=AA k1 m1 m2
 rcases c5 with⟨bY,_⟩|⟨_,e6,x6,⟨Zm,Yj⟩,c6⟩
 ·exact absurd rfl bY
 subst Zm
 rcases c6 with⟨bY,_⟩|⟨_,he,hy⟩
 ·exact absurd rfl bY
 subst he
 rw[hy,Yj]at vZ
 simp only at vZ
 rcases c2 with⟨bY,_⟩|⟨_,he,yF⟩
 ·exact absurd rfl bY
 subst he
 rw[yF,vZ]
 simp only
 have o4:vw x5.1=eK (vw A) db (some (bK (bK C (32+(ls.flatMap aV).length) (aV b)) ((n+1)%2*16) (bZ (n+1) ((ls.flatMap aV).length+(aV b).length)))):=by
  rw[m2,k2,g2,a2]
  funext m
  unfold eK
  split <;> rfl
 refine⟨trivial,m1,z5,⟨_,o4,hj.add b⟩,by rw[m3,k3,g3,a3],trivial,trivial,?_,h.qg m1 (fun m=>?_),ag⟩
 ·have e5:x5.2=((n:Int),(((ls++[b]).flatMap aV).length:Int),((ls.flatMap aV).length:Int)):=by rw[h5c,h4c,Zn]
  rw[e5,pK]
  simp
 ·rw[o4]
  unfold eK
  split
  ·rename_i hm;rw[hm,hv];rfl
  ·rfl
def Kh(hv:vw A nm=none):(A.size nm).2=4:=by
 have oE:A.look nm=none:=by
  unfold vw at hv
  cases hx:A.look nm with
  | none=>rfl
  | some f=>rw[hx]at hv;cases hv
 unfold Ab.size
 rw[oE]
def GS{k':Nat}{n s c:Int}{y:PS}(h:Cz k A)(Hj:vw A (bL nm)=none)(hB:HA y.1)(hk:y.1.names.length≤k')(hR:Ap nm ls (A,n,s,c) 0 y):Cz k' y.1:=by
 unfold Ap gI at hR
 simp only[Kh Hj]at hR
 rw[if_neg ag,List.nil_append]at hR
 obtain⟨e1,x1,⟨⟨f,h1f,Cs,yX⟩,h1c⟩,⟨hx,hy,_⟩|⟨rfl,e2,x2,⟨⟨Lr,vZ⟩,h2c⟩,c2⟩⟩:=hR
 ·exact absurd hy.symm hx
 obtain⟨_,_,f1⟩:=h.fl.create (n:=bL nm) (B:=x1.1) ⟨f,h1f,Prod.ext Cs yX⟩
 rcases c2 with⟨hx,hy,_⟩|⟨rfl,e3,x3,⟨⟨HE,Bk⟩,Zn⟩,c3⟩
 ·exact absurd hy.symm hx
 rcases c3 with⟨hx,hy,_⟩|⟨rfl,e4,x4,⟨⟨Gf,E6⟩,h4c⟩,c4⟩
 ·exact absurd hy.symm hx
 have f3:=f1.put (n:=bL nm) (at_:=0) (b:=ck ls) (B:=x2.1) (C:=x3.1) (Prod.ext Lr vZ) (Prod.ext HE Bk)
 rcases c4 with⟨hx,hy,_⟩|⟨rfl,e5,x5,⟨⟨R4,R3⟩,h5c⟩,c5⟩
 ·exact absurd hy.symm hx
 have f4:=f3.rename (o:=bL nm) (n:=nm) (B:=x4.1) (Prod.ext Gf E6)
 rcases c5 with⟨hx,hy,_⟩|⟨rfl,e6,x6,⟨Zm,Yj⟩,c6⟩
 ·exact absurd hy.symm hx
 rcases c6 with⟨hx,hy,_⟩|⟨_,_,hy⟩
 ·exact absurd hy.symm hx
 have Rr:y.1=x5.1:=by rw[hy,Yj]
 rw[Rr]at hB hk ⊢
 exact f4.names hB (Prod.ext R4 R3) hk
structure DQ(k:Nat)(A:Ab):Prop where
 ha:HA A
 cz:Cz k A
 room:A.room=16777216
 Qo:A.names.length≤k
 kd:∀n c,vw A n=some c→(n=db∧c.length≤100000)∨(∃d,n=iu d)∧c.length≤1000∨(∃d,n=oF d∧dK c=d)∧c.length≤1000
def DQ.used(h:DQ k A):A.used≤100000+1000*k:=by
 have h0:rC Es (eg A) (vw A)≤rC (fun n _=>wE n+1000) (eg A) (vw A):=by
  refine M0 _ _ fun n hn=>?_
  obtain⟨c,hc⟩:=Option.isSome_iff_exists.1 ((mem_keys h.ha n).1 hn)
  rw[hc]
  show c.length≤wE n+1000
  rcases h.kd n c hc with⟨rfl,hl⟩|⟨_,hl⟩|⟨_,hl⟩
  ·have:wE db=100000:=if_pos rfl
   omega
  ·omega
  ·omega
 rw[MZ]at h0
 have h1:rC (fun n _=>wE n) (eg A) (vw A)=((eg A).map wE).sum:=rfl
 have h2:=TO (eg A) h.ha.keys
 have h3:rC (fun _ _=>1000) (eg A) (vw A)=A.names.length*1000:=by rw[BQ,nR]
 have h4:=jO h.ha
 have h5:=h.Qo
 omega
def DQ.rM(h:DQ k A):rM A≤1000*k:=by
 have h0:rC (fun n c=>rD n c) (eg A) (vw A)≤rC (fun _ _=>1000) (eg A) (vw A):=by
  refine M0 _ _ fun n hn=>?_
  obtain⟨c,hc⟩:=Option.isSome_iff_exists.1 ((mem_keys h.ha n).1 hn)
  rw[hc]
  show rD n c≤1000
  rcases h.kd n c hc with⟨rfl,hl⟩|⟨_,hl⟩|⟨_,hl⟩
  ·rw[Of];omega
  ·have:rD n c≤c.length:=by unfold rD;split <;> omega
   omega
  ·have:rD n c≤c.length:=by unfold rD;split <;> omega
   omega
 have h3:rC (fun _ _=>1000) (eg A) (vw A)=A.names.length*1000:=by rw[BQ,nR]
 have h5:=AB h.ha
 have h6:=h.Qo
 rw[h5]
 have h7:rC (fun k c=>rD k c) (eg A) (vw A)=rC rD (eg A) (vw A):=rfl
 omega
def DQ.mono(h:DQ k A)(hk:k≤j):DQ j A:=⟨h.ha,h.cz.mono (fun _ x=>x) hk,h.room,by have:=h.Qo;omega,h.kd⟩
def DQ.du(h:DQ k A):DQ k (A.du 0 [] (-1) 0)∧(∀n c,vw A n=some c→vw (A.du 0 [] (-1) 0) n=some c)∧(∀n,(∀d,n≠iu d)→vw (A.du 0 [] (-1) 0) n=vw A n):=by
 obtain⟨h1,h2,h3,h4,h5,h6,h7,h8⟩:=h.cz.du h.ha
 refine⟨⟨h1,h2,h3.trans h.room,h4,fun n c hc=>?_⟩,h7,fun n hn=>?_⟩
 ·rcases h8 n c hc with hc|hc
  ·exact h.kd n c hc
  ·exact .inr (.inl hc)
 ·cases hx:vw A n with
  | some c=>exact h7 n c hx
  | none =>
   cases hy:vw (A.du 0 [] (-1) 0) n with
   | none=>rfl
   | some c =>
    rcases h8 n c hy with hc|⟨⟨d,hd⟩,_⟩
    ·rw[hx]at hc;cases hc
    ·exact absurd hd (hn d)
def DQ.next(h:DQ k A)(hB:HA B)(hz:Cz j B)(hr:B.room=A.room)(hn:B.names.length≤j)(hv:∀n c,vw B n=some c→vw A n=some c∨(n=db∧c.length≤100000)∨(∃d,n=iu d)∧c.length≤1000∨(∃d,n=oF d∧dK c=d)∧c.length≤1000):DQ j B :=
  ⟨hB,hz,hr.trans h.room,hn,fun n c hc=>by
    rcases hv n c hc with hc|hc
    · exact h.kd n c hc
    · exact hc⟩
def DQ.open(h:DQ k A)(hO:qC A e B):e=0∧B=A:=by
 have hB:∀nm∈fY A,∀d,jJ kB nm=some d→ju A d=true:=fun nm lD d hd=>by
  obtain rfl:nm=oF d:=(rk.1 hd)
  obtain⟨c,hc⟩:=Option.isSome_iff_exists.1 ((yq h.ha _).1 lD)
  have hs:dK c=d:=by
   rcases h.kd _ c hc with⟨he,_⟩|⟨⟨d',he⟩,_⟩|⟨⟨d',he,hs⟩,_⟩
   ·exact absurd he (gU kB d)
   ·exact absurd he.symm (jA _ _)
   ·rw[Jt he];exact hs
  unfold ju
  have hb:fm A (oF d)=some c:=by rw[om h.ha];exact hc
  simp only[show df kB d=oF d from rfl,hb]
  simp[hs]
 have jI:∀(k:List UInt8) (nm:ByteArray) (d:Dg),nm∈fY A→jJ k nm=some d→(k=kN∨k=kI)→False:=fun k nm d lD hd hk=>by
  obtain rfl:=rk.1 hd
  obtain⟨c,hc⟩:=Option.isSome_iff_exists.1 ((yq h.ha _).1 lD)
  rcases h.kd _ c hc with⟨he,_⟩|⟨⟨d',he⟩,_⟩|⟨⟨d',he,_⟩,_⟩
  ·exact gU k d he
  ·rcases hk with rfl|rfl
   ·exact Ly _ _ he.symm
   ·exact Lz _ _ he.symm
  ·rcases hk with rfl|rfl
   ·exact LA _ _ he.symm
   ·exact LB _ _ he.symm
 obtain⟨e1,A1,⟨e2,A2,h2,c2⟩,hc⟩:=hO
 obtain⟨rfl,rfl⟩:=sA _ hB h2
 rcases c2 with⟨hx,_⟩|⟨_,e3,A3,h3,c3⟩
 ·exact absurd rfl hx
 obtain⟨rfl,rfl⟩:=sA _ (fun nm lD d hd=>(jI kN nm d lD hd (.inl rfl)).elim) h3
 rcases c3 with⟨hx,_⟩|⟨_,e4,A4,h4,c4⟩
 ·exact absurd rfl hx
 obtain⟨rfl,rfl⟩:=sA _ (fun nm lD d hd=>(jI kI nm d lD hd (.inr rfl)).elim) h4
 rcases c4 with⟨hx,_⟩|⟨_,rfl,rfl⟩
 ·exact absurd rfl hx
 rw[if_neg ag]at hc
 exact hc
attribute [local irreducible] J K aE Ends ae aB aP bP bq aS aZ bu bX
def Lq{ws:List jj}{n:Nat}{w:jj}(hj:j<n)(hw:ws[j/64]?=some w):decide ((((w >>> (j%64)) &&& 1#64).toNat:Int)=1)=cy ws n (j:Int):=by
 unfold cy
 rw[decide_eq_true (show 0≤(j:Int)∧(j:Int)<n by omega),Bool.true_and,Int.toNat_natCast,List.getD_eq_getElem?_getD,hw,Option.getD_some,decide_eq_decide]
 constructor
 ·intro h
  apply BitVec.eq_of_toNat_eq
  have h1:(1#64).toNat=1:=rfl
  rw[h1]
  omega
 ·intro h
  rw[h];rfl
abbrev YZ(p q:jj):jj:=p ||| q
def acm(p:jj):IntKind.u64.wrap ((BitVec.ofInt IntKind.u64.bits (p.toNat:Int) &&& BitVec.ofInt IntKind.u64.bits 1).toNat:Int)=((p &&& 1#64).toNat:Int):=by
 rw[nO]
 exact mV (p &&& 1#64)
def aaX(p q:jj):IntKind.u64.wrap ((BitVec.ofInt IntKind.u64.bits (p.toNat:Int) ||| BitVec.ofInt IntKind.u64.bits (q.toNat:Int)).toNat:Int)=((p ||| q).toNat:Int):=by
 rw[nO,nO]
 exact mV (p ||| q)
def PD(p q:jj):IntKind.u64.wrap ((BitVec.ofInt IntKind.u64.bits (p.toNat:Int) &&& ~~~ BitVec.ofInt IntKind.u64.bits (q.toNat:Int)).toNat:Int)=((p &&& ~~~q).toNat:Int):=by
 rw[nO,nO]
 exact mV (p &&& ~~~q)
def qNe{ws:List jj}{i:Nat}(h:i<ws.length):qV ws≠[]:=fun e=>by have:=congrArg List.length e;rw[GR]at this;rw[this]at h;simp at h
def oC(sb n:Nat)(wv:Value):aE Tryz.prog 43 [ptr sb] [ae sb (cl [.int .i64 (n:Int),wv] 117)] (fun r H=>r = .int .i64 (n:Int)∧H=[ae sb (cl [.int .i64 (n:Int),wv] 117)]):=by
 refine aE.ao Tryz.func43 Tryz.ntmps43 fun G F R hE=>?_
 refine go ?_
 refine ad hE Tryz.func43 zr zr ⟨rfl,rfl⟩
def uF(sb n:Nat)(wv:Value)(ws:List jj)(hn:n≤65536)(hw:n≤ws.length*64)(i:Int):aE Tryz.prog 19 [ptr sb,.int .i64 i] (eQ sb n wv ws) (fun r H=>r = .bool (cy ws n i)∧H=eQ sb n wv ws):=by
 unfold eQ
 by_cases hi:0≤i∧i<(n:Int)
 case neg =>
  rw[nY ag]
  refine aE.ao Tryz.func19 Tryz.ntmps19 fun G F R hE=>?_
  by_cases h0:0≤i
  ·refine go ?_
   refine au 7 ((.bool true)) rfl ((congrArg Value.bool (decide_eq_true ag))) (go ?_)
   refine au 15 ((.bool false)) rfl ((congrArg Value.bool (decide_eq_false ag))) (go ?_)
   refine ad hE Tryz.func19 zr zr ⟨rfl,rfl⟩
  ·refine go ?_
   refine au 7 ((.bool false)) rfl ((congrArg Value.bool (decide_eq_false ag))) (go ?_)
   refine ad hE Tryz.func19 zr zr ⟨rfl,rfl⟩
 obtain⟨j,rfl⟩:∃j:Nat,i=j:=⟨i.toNat,ag⟩
 have wK:j/64<ws.length:=by omega
 obtain⟨w,SX⟩:∃w,ws[j/64]?=some w:=⟨ws[j/64],by simp[wK]⟩
 have dF:=B8 SX
 refine aE.ao Tryz.func19 Tryz.ntmps19 fun G F R hE=>?_
 refine dz 1 rfl ?_
 rintro a c rfl
 refine dy 1 rfl ?_
 intro dE
 obtain⟨b,o,gM,gk⟩:=dE.some (qNe wK)
 simp only[Value.slice.injEq]at gk
 obtain⟨rfl,_,rfl⟩:=gk
 refine go ?_
 refine au 7 ((.bool true)) rfl ((congrArg Value.bool (decide_eq_true ag))) (go ?_)
 refine au 15 ((.bool true)) rfl ((congrArg Value.bool (decide_eq_true ag))) (go ?_)
 refine lj zr zr zr ag ag (by simp only[gq];omega) ?_
 refine au 21 ((.int .i64 ((j/64:Nat):Int))) rfl ((congrArg (Value.int .i64) ag)) (go ?_)
 refine bM (j/64) zr zr zr zr zr zr zr zr wK (go ?_)
 refine aK ?_
 refine bj 1 (j/64) zr zr zr dE rfl dF zr zr (go ?_)
 refine mI zr zr zr ag ag ?_
 refine au 25 ((.int .i64 ((j%64:Nat):Int))) rfl ((congrArg (Value.int .i64) ag)) (go ?_)
 refine qI (p:=w) (j%64) zr zr zr zr ag (go ?_)
 ((refine aX 4 ((.bool (cy ws n (j:Int)))) rfl ((congrArg Value.bool (by rw[acm];exact Lq ag SX))) ?_))
 refine ad hE Tryz.func19 zr zr ⟨rfl,rfl⟩
def Qi(n:Nat)(hn:n≤65536):aE Tryz.prog 95 [.int .i64 (n:Int)] [] (fun r H=>∃sb wv,r = .tuple #[ptr sb,.int .i64 0]∧H=eQ sb n wv (List.replicate ((n+63)/64) 0#64)):=by
 refine aE.ao Tryz.func95 Tryz.ntmps95 fun G F R hE=>?_
 refine go ?_
 refine aX 6 ((.bool false)) rfl ((congrArg Value.bool (decide_eq_false ag))) (go ?_)
 refine aX 9 ((.bool false)) rfl ((congrArg Value.bool (decide_eq_false ag))) (go ?_)
 refine lj zr zr zr ag ag (by simp only[gq];omega) ?_
 refine au 14 ((.int .i64 (((n+63)/64:Nat):Int))) rfl ((congrArg (Value.int .i64) ag)) (go ?_)
 refine nh (U:=aQ) (p:=(n+63)/64) (q:=(n+63)/64) zr zr zr zr zr zr zr zr zr (Nat.le_refl _) ag (by show 8*_≤_;omega) bD ?_
 intro row
 refine go ?_
 refine bG zr zr bD ?_
 intro sb
 refine go ?_
 refine ai (H':=eQ sb n (.slice (some ⟨row,0,none⟩) ((n+63)/64) ((n+63)/64)) (List.replicate ((n+63)/64) 0#64)++F) ?_ ?_
 ·have hq:qV (List.replicate ((n+63)/64) 0#64)=List.replicate ((n+63)/64) (.int .u64 0):=by simp[qV,MY]
  unfold eQ
  rw[hq,List.length_replicate]
  refine al.trans (H2:=ae row (cl (List.replicate ((n+63)/64) (.int .u64 0)) 118)::ae sb (cl [.int .i64 (n:Int),.slice (some ⟨row,0,none⟩) ((n+63)/64) ((n+63)/64)] 117)::F) ah ?_
  refine al.trans (H2:=ae row (cl (List.replicate ((n+63)/64) (.int .u64 0)++[]) 118)::ae sb (cl [.int .i64 (n:Int),.slice (some ⟨row,0,none⟩) ((n+63)/64) ((n+63)/64)] 117)::F) (by rw[List.append_nil];exact al.refl _) ?_
  refine(eJ 118 1 row ((n+63)/64) ((n+63)/64) (List.replicate ((n+63)/64) (.int .u64 0)) [] _ (by simp) (Nat.le_refl _) (by simp)).trans ?_
  exact al.perm (List.Perm.swap ..)
 ·refine ad hE Tryz.func95 zr zr ⟨_,_,rfl,rfl⟩
def Q3(ws:List jj)(i:Nat)(w:jj)(hw:ws[i/64]?=some w):(qV ws).set (i/64) (.int .u64 ((YZ w (CP (i%64))).toNat:Int))=qV (jR ws i true):=by
 unfold jR
 rw[if_pos rfl,List.getD_eq_getElem?_getD,hw,Option.getD_some]
 exact Nx ws (i/64) _
def Ny(ws:List jj)(i:Nat)(w:jj)(hw:ws[i/64]?=some w):(qV ws).set (i/64) (.int .u64 ((w &&& ~~~(CP (i%64))).toNat:Int))=qV (jR ws i false):=by
 unfold jR
 rw[if_neg (by simp),List.getD_eq_getElem?_getD,hw,Option.getD_some]
 exact Nx ws (i/64) _
def MB(sb n:Nat)(wv:Value)(ws:List jj)(hn:n≤65536)(hw:n≤ws.length*64)(i:Nat)(hi:i<n)(one:Bool):aE Tryz.prog 169 [ptr sb,.int .i64 (i:Int),.int .i64 ((i:Int)+1),.bool one] (eQ sb n wv ws) (fun r H=>r = .int .i64 0∧H=eQ sb n wv (jR ws i one)):=by
 have lx:i/64<ws.length:=by omega
 obtain⟨w,SX⟩:∃w,ws[i/64]?=some w:=⟨ws[i/64],by simp[lx]⟩
 have dF:=B8 SX
 unfold eQ
 rw[iI]
 refine aE.ao Tryz.func169 Tryz.ntmps169 fun G F R hE=>?_
 refine dz 1 rfl ?_
 rintro a c rfl
 refine dy 1 rfl ?_
 intro dE
 obtain⟨b,o,gM,gk⟩:=dE.some (qNe lx)
 simp only[Value.slice.injEq]at gk
 obtain⟨rfl,_,rfl⟩:=gk
 clear dE
 refine go ?_
 refine au 14 ((.bool false)) rfl ((congrArg Value.bool (decide_eq_false ag))) (go ?_)
 refine au 19 ((.bool false)) rfl ((congrArg Value.bool (decide_eq_false ag))) (go ?_)
 refine aX 26 ((.bool false)) rfl ((congrArg Value.bool (decide_eq_false ag))) (go ?_)
 refine bB (fun g:Nat=>g≤1) (fun g=>1-g) (fun g=>[(0,ptr sb),(1,.int .i64 ((i:Int)+(g:Int))),(2,.int .i64 ((i:Int)+1)),(3,.bool one)])
  (fun g=>ae sb (cl [.int .i64 (n:Int),.slice (some ⟨b,o,none⟩) ws.length c] 117)::aB 118 1 (.slice (some ⟨b,o,none⟩) ws.length c) ws.length (qV (if g=0 then ws else jR ws i one))::F) 0 ag rfl cg ah ?_
 intro g hg ih
 rcases(by omega:g=0∨g=1)with rfl|rfl
 ·rw[if_pos rfl]
  refine dy 1 rfl ?_
  intro dE
  refine go ?_
  refine aX 29 ((.bool true)) rfl ((congrArg Value.bool (decide_eq_true ag))) (go ?_)
  refine lj zr zr zr ag ag (by simp only[gq];omega) ?_
  refine au 31 ((.int .i64 ((i/64:Nat):Int))) rfl ((congrArg (Value.int .i64) ag)) (go ?_)
  refine ib zr zr zr (by simp only[gq];omega) ?_
  refine go ?_
  refine au 40 ((.int .i64 63)) rfl ((congrArg (Value.int .i64) ag)) ?_
  refine qI (p:=18446744073709551615#64) 63 rfl (congrArg (fun z:Int=>some (Value.int .u64 z)) (by decide:(18446744073709551615:Int)=((18446744073709551615#64).toNat:Int))) zr zr ag ?_
  refine au 41 ((.int .u64 ((1#64).toNat:Int))) rfl ((congrArg (fun w:jj=>Value.int .u64 (w.toNat:Int)) (by decide))) ?_
  refine go ?_
  refine mI zr zr zr ag ag ?_
  refine au 43 ((.int .i64 ((i%64:Nat):Int))) rfl ((congrArg (Value.int .i64) ag)) ?_
  refine YO (p:=1#64) (i%64) zr zr zr zr ag ?_
  rw[show 1#64 <<< (i%64)=CP (i%64)from rfl]
  cases one with
  | true =>
   refine go ?_
   refine bM (i/64) zr zr zr zr zr zr zr zr lx ?_
   refine aK ?_
   refine bj 1 (i/64) zr zr zr dE rfl dF zr zr (go ?_)
   refine au 54 ((.int .u64 ((YZ w (CP (i%64))).toNat:Int))) rfl ((congrArg (Value.int .u64) (aaX w _))) ?_
   refine bM (i/64) zr zr zr zr zr zr zr zr lx ?_
   refine aT ?_
   refine py (U:=aQ) (q:=i/64) 1 gB zr zr zr zr zr zr zr lx rfl ?_
   rw[Q3 ws i w SX]
   refine go ?_
   refine aX 1 ((.int .i64 ((i:Int)+((1:Nat):Int)))) rfl ((congrArg (Value.int .i64) ag)) ?_
   refine aM ih 1 rfl ag ag cg ah
  | false =>
   refine go ?_
   refine bM (i/64) zr zr zr zr zr zr zr zr lx ?_
   refine aK ?_
   refine bj 1 (i/64) zr zr zr dE rfl dF zr zr (go ?_)
   refine au 64 ((.int .u64 ((w &&& ~~~(CP (i%64))).toNat:Int))) rfl ((congrArg (Value.int .u64) (PD w _))) ?_
   refine bM (i/64) zr zr zr zr zr zr zr zr lx ?_
   refine aT ?_
   refine py (U:=aQ) (q:=i/64) 1 gB zr zr zr zr zr zr zr lx rfl ?_
   rw[Ny ws i w SX]
   refine go ?_
   refine aX 1 ((.int .i64 ((i:Int)+((1:Nat):Int)))) rfl ((congrArg (Value.int .i64) ag)) ?_
   refine aM ih 1 rfl ag ag cg ah
 ·rw[if_neg ag]
  refine go ?_
  refine aX 29 ((.bool false)) rfl ((congrArg Value.bool (decide_eq_false ag))) (go ?_)
  refine ad hE Tryz.func169 zr zr ⟨rfl,rfl⟩
def F7(sb n:Nat)(wv:Value)(ws:List jj)(hn:n≤65536)(hw:n≤ws.length*64)(i:Nat)(hi:i<n)(one:Bool):aE Tryz.prog 106 [ptr sb,.int .i64 (i:Int),.bool one] (eQ sb n wv ws) (fun r H=>r = .int .i64 0∧H=eQ sb n wv (jR ws i one)):=by
 have hf:=MB sb n wv ws hn hw i hi one
 unfold eQ at hf ⊢
 refine aE.ao Tryz.func106 Tryz.ntmps106 fun G F R hE=>?_
 refine go ?_
 refine aX 9 ((.bool false)) rfl ((congrArg Value.bool (decide_eq_false ag))) (go ?_)
 refine aX 16 ((.bool false)) rfl ((congrArg Value.bool (decide_eq_false ag))) (go ?_)
 refine aJ hf ?_
 refine go ?_
 refine ad hE Tryz.func106 zr zr ⟨rfl,rfl⟩
attribute [local irreducible] aC
def gZ(e:Nat):Bool:=decide (e≠0∧e≠1∧e≠5∧e≠8∧e≠11)
def jq(tb bs jb:Nat)(tv:Value)(br:Bool):HP:=ae tb (cl [ptr bs,ptr jb,tv,.bool br] 88)
def qP{σ:Type}(I:σ→HP)(tb bs jb:Nat)(tv:Value)(V:HP)(v:Value)(lp:List Value)(hv:Vw V v lp.length lp)(hn:lp.length≤1000000000)(ss:List (σ→Nat→σ→Prop))(hlen:ss.length=lp.length)(Q:Nat→σ→Prop)(cK:∀(i:Nat) (fv:Value) (s:σ→Nat→σ→Prop),lp[i]?=some fv→ss[i]?=some s→∃g fi cap,fv = .func (.func g) fi cap∧∀x,Q i x→aE Tryz.prog g (fi.toList++cap.toList) [jq tb bs jb tv false,I x] (fun r H=>∃(e:Nat) (x':σ),r = .int .i64 (e:Int)∧H=[jq tb bs jb tv false,I x']∧s x e x'∧(e=0→Q (i+1) x')))(x0:σ)(hQ:Q 0 x0) :
  aE Tryz.prog 38 [ptr tb,v] [V,jq tb bs jb tv false,I x0] (fun r H=>∃(e:Nat) (x':σ),r = .int .i64 (e:Int)∧H=[V,jq tb bs jb tv (gZ e),I x']∧iZ ss x0 e x'):=by
 unfold jq at cK ⊢
 obtain⟨a,c,rfl⟩:=hv.shape
 refine aE.ao Tryz.func38 Tryz.ntmps38 fun G F R hE=>?_
 refine go ?_
 refine bB (fun y:Nat × σ=>y.1≤lp.length∧Q y.1 y.2∧∀e x',iZ (ss.drop y.1) y.2 e x'→iZ ss x0 e x') (fun y=>lp.length-y.1)
  (fun y=>[(0,ptr tb),(8,.slice a lp.length c),(9,.int .i64 (lp.length:Int)),(10,.int .i64 (y.1:Int))])
  (fun y=>V::ae tb (cl [ptr bs,ptr jb,tv,.bool false] 88)::I y.2::F) (0,x0) ⟨Nat.zero_le _,hQ,fun _ _ h=>h⟩ rfl cg ah ?_
 rintro⟨i,x⟩⟨hi,hq,hr⟩ ih
 simp only at hi hq hr
 dsimp only
 refine go ?_
 refine aq zr zr ?_ ?_
 ·intro de
  have lx:i<lp.length:=by omega
  obtain⟨fv,mS⟩:∃fv,lp[i]?=some fv:=⟨lp[i],List.getElem?_eq_getElem lx⟩
  obtain⟨s,hs⟩:∃s,ss[i]?=some s:=⟨ss[i],List.getElem?_eq_getElem ag⟩
  obtain⟨g,fi,cap,rfl,hc⟩:=cK i fv s mS hs
  have mj:ss.drop i=s::ss.drop (i+1):=by
   rw[List.drop_eq_getElem_cons ag]
   congr 1
   exact(List.getElem?_eq_some_iff.1 hs).2
  obtain⟨b0,o0,c0,pG⟩:=hv.some (by intro h;rw[h]at lx;simp at lx)
  simp only[Value.slice.injEq]at pG
  obtain⟨rfl,-,rfl⟩:=pG
  refine go ?_
  refine bM i zr zr zr zr zr zr zr zr lx ?_
  refine bj 0 i zr zr zr hv rfl mS zr zr (go ?_)
  refine uC zr zr zr (by simp) (hc x hq) ah ?_ mM
  rintro _ _⟨e,x',rfl,rfl,K1,Qy⟩
  by_cases pG:e=0
  ·subst pG
   refine go ?_
   refine aM ih (i+1,x') rfl (⟨by simp only;omega,Qy rfl,fun e2 x2 h2=>hr e2 x2 (by rw[mj];exact⟨0,x',K1,.inr ⟨rfl,h2⟩⟩)⟩) (by simp only;omega) cg ah
  have jy:iZ ss x0 e x':=hr e x' (by rw[mj];exact⟨e,x',K1,.inl ⟨pG,rfl,rfl⟩⟩)
  clear ih
  by_cases OB:e=1∨e=5∨e=11∨e=8
  ·have hb:gZ e=false:=decide_eq_false ag
   rcases OB with rfl|rfl|rfl|rfl
   all_goals(
    refine go ?_
    ((refine ad hE Tryz.func38 zr zr ⟨_,x',rfl,rfl,jy⟩)))
  ·have hb:gZ e=true:=decide_eq_true ag
   refine go ?_
   refine aq zr zr ?_ ?_
   ·intro h;exfalso;omega
   intro _
   refine go ?_
   refine aq zr zr ?_ ?_
   ·intro h;exfalso;omega
   intro _
   refine go ?_
   refine aq zr zr ?_ ?_
   ·intro h;exfalso;omega
   intro _
   refine go ?_
   refine aq zr zr ?_ ?_
   ·intro h;exfalso;omega
   intro _
   refine go ?_
   refine aq zr zr ?_ ?_
   ·intro h;exfalso;omega
   intro _
   refine go ?_
   refine ai (H':=V::ae tb (cl [ptr bs,ptr jb,tv,.bool true] 88)::I x'::F) ah ?_
   rw[← hb]
   refine ad hE Tryz.func38 zr zr ⟨e,x',rfl,rfl,jy⟩
 ·intro fA
  have gl:i=lp.length:=by omega
  subst gl
  clear ih
  have h0:iZ ss x0 0 x:=hr 0 x (by rw[List.drop_eq_nil_of_le ag];exact⟨rfl,rfl⟩)
  refine go ?_
  refine ad hE Tryz.func38 zr zr ⟨0,x,rfl,rfl,h0⟩
def M1{ts:List Tk}{i:Nat}(h:i<ts.length):ts.map cB≠[]:=fun e=>by have:=congrArg List.length e;simp at this;rw[this]at h;simp at h
def hD(ts:List Tk)(x:Bl):Option Tk:=ts.find? fun y=>decide (y.x=x)
def QS(o:Option Tk):Value:=match o with
 | none => .pointer none
 | some y=>ptr y.yb
def uE(A X:HP)(v:Value)(l:List Tk)(hv:Vw A v l.length (l.map cB))(hlen:l.length≤1000000)(g:FuncId)(cap:List Value)(p:Tk→Bool)(hf:∀x∈l,aE Tryz.prog g (ptr x.yb::cap) [X] (fun v H=>v = .bool (p x)∧H=[X])) :
  aE Tryz.prog 83 [v,.func (.func g) #[] cap.toArray] [A,X] (fun r H=>r = .int .i64 (kA p l)∧H=[A,X]):=by
 obtain⟨a,c0,rfl⟩:=hv.shape
 refine aE.enter Tryz.func83 ak rfl Tryz.ntmps83 zr zr ?_
 intro G F R hR
 refine go ?_
 refine bB (fun i:Nat=>i≤l.length∧∀y∈l.take i,p y=false) (fun i=>l.length-i) (fun i=>[(0,.slice a l.length c0),(1,.func (.func g) #[] cap.toArray),(7,.int .i64 l.length),(8,.int .i64 i)]) (fun _=>[A,X]++F) 0 ⟨by simp,by simp⟩ rfl cg (al.refl _) ?_
 rintro i⟨hi,hb⟩ ih
 refine go ?_
 refine aq zr zr ?_ ?_
 ·intro de
  refine go ?_
  have gl:i<l.length:=by omega
  obtain⟨x,hx⟩:∃x,l[i]?=some x:=⟨l[i],by simp[gl]⟩
  obtain⟨b,o,gM,gk⟩:=hv.some (M1 gl)
  simp only[Value.slice.injEq]at gk
  obtain⟨rfl,_,rfl⟩:=gk
  refine bM i zr zr zr zr zr zr zr zr gl ?_
  refine aK ?_
  refine bj 0 i zr zr zr hv rfl (qN hx) zr zr ?_
  refine cF [1] zr zr zr zr (hf x (List.mem_of_getElem? hx)) rfl mM ?_
  rintro _ _⟨rfl,rfl⟩
  refine go ?_
  refine fR zr zr ?_ ?_
  ·intro hp
   refine go ?_
   refine aL hR Tryz.func83 rfl _ rfl ⟨by rw[nT hx hp hb];rfl,rfl⟩ (al.fin [1,0] 0 zr zr)
  ·intro hp
   refine go ?_
   refine aM ih (i+1) rfl ⟨ag,uh hb hx hp⟩ ag cg (al.pick [1,0] rfl)
 ·intro fA
  refine go ?_
  have:i=l.length:=by omega
  subst this
  refine aL hR Tryz.func83 rfl _ rfl ⟨by rw[re (fun x hx=>hb x (by simpa using hx))];rfl,rfl⟩ (al.fin [0,1] 0 zr zr)
def wQ(A X:HP)(v:Value)(l:List Tk)(hv:Vw A v l.length (l.map cB))(hlen:l.length≤1000000)(g:FuncId)(cap:List Value)(p:Tk→Bool)(hf:∀x∈l,aE Tryz.prog g (ptr x.yb::cap) [X] (fun v H=>v = .bool (p x)∧H=[X])) :
  aE Tryz.prog 32 [v,.func (.func g) #[] cap.toArray] [A,X] (fun r H=>r = .bool (l.any p)∧H=[A,X]):=by
 refine aE.enter Tryz.func32 ak rfl Tryz.ntmps32 zr zr ?_
 intro G F R hR
 refine go ?_
 refine cF [0,1] zr zr zr zr (uE A X v l hv hlen g cap p hf) rfl mM ?_
 rintro _ _⟨rfl,rfl⟩
 refine go ?_
 have hb:decide (0≤kA p l)=l.any p:=by
  rw[show decide (0≤kA p l)=decide (¬kA p l<0)from by rw[decide_eq_decide];omega]
  rw[Bool.eq_iff_iff,decide_eq_true_iff,nU (p:=p) (l:=l),Bool.not_eq_false]
 refine aL hR Tryz.func32 rfl _ rfl ⟨congrArg Value.bool hb,rfl⟩ (al.fin [0,1] 0 zr zr)
def Fq(ts:List Tk)(x:Bl)(bx:Nat)(y:Tk)(hy:y∈ts):aE Tryz.prog 33 [ptr y.yb,ptr bx] [Sep [aW ts,ae bx (cl (bH x) 37)] ] (fun r H=>r = .bool (decide (y.x.d=x.d))∧H=[Sep [aW ts,ae bx (cl (bH x) 37)] ]):=by
 obtain⟨i,hi⟩:=List.mem_iff_getElem?.1 hy
 refine aE.ao Tryz.func33 Tryz.ntmps33 fun G F R hE=>?_
 refine ai (al.cD [_,_] _) ?_
 refine ai (kL hi _) ?_
 refine eG (gi y) ?_
 rintro z hz
 refine ai (H':=ae y.yb (cl (lr y) 93)::ae bx (cl (bH x) 37)::ae y.sb (cl [.int .i64 (y.n:Int),z.1] 117)::aB 118 1 z.1 y.ws.length (qV y.ws)::aP (Value.int .i64) y.mb z.2.1::aZ 35 z.2.2::aW (ts.take i++ts.drop (i+1))::F) ah (go ?_)
 refine aF (fun w=>Sat G w ([ae y.yb (cl (lr y) 93),ae bx (cl (bH x) 37)])) (cZ 0 9 .nil) rfl ak ak ak dT ?_
 refine go ?_
 refine cf (U:=aQ) 0 zr zr zr zr zr zr (go ?_)
 refine cf (U:=aQ) 1 zr zr zr zr zr zr (go ?_)
 refine kT (b:=decide (y.x.d=x.d)) zr zr zr HF (fun w=>HO y.x.d x.d w) ?_
 refine go ?_
 refine ai (H':=mN y z++(aW (ts.take i++ts.drop (i+1))::ae bx (cl (bH x) 37)::F)) (by unfold mN;exact ah) ?_
 refine ai (iX hz _) ?_
 refine ai (lF hi _) ?_
 refine ai (al.bS [_,_] _) ?_
 refine ad hE Tryz.func33 zr zr ⟨rfl,rfl⟩
def rn(tb bs jb:Nat)(tv:Value)(br:Bool)(ts:List Tk)(x:Bl)(hl:ts.length≤1000000):aE Tryz.prog 42 [ptr tb,eL x] (eh tb bs jb tv ts br) (fun r H=>r=QS (hD ts x)∧H=eh tb bs jb tv ts br):=by
  unfold eh eL
  refine aE.ao Tryz.func42 Tryz.ntmps42 fun G F R hE=>?_
  refine dz 1 rfl ?_
  rintro a c rfl
  refine dy 1 rfl ?_
  intro dE
  refine aD rfl ?_
  refine bG zr zr bD ?_
  intro b3
  refine go ?_
  refine bB (fun i:Nat=>i≤ts.length∧∀y∈ts.take i,y.x≠x) (fun i=>ts.length-i) (fun i=>[(3,ptr b3),(10,.slice a ts.length c),(11,.int .i64 (ts.length:Int)),(12,.int .i64 (i:Int))])
    (fun _=>aB 90 1 (.slice a ts.length c) ts.length (ts.map cB)::aW ts::ae tb (cl [ptr bs,ptr jb,.slice a ts.length c,.bool br] 88)::ae b3 (cl (bH x) 37)::F) 0 ⟨Nat.zero_le _,by simp⟩ rfl cg ah ?_
  rintro i⟨hi,hb⟩ ih
  refine go ?_
  refine aq zr zr ?_ ?_
  · intro de
    have gl:i<ts.length:=by omega
    obtain⟨y,hx⟩:∃x,ts[i]?=some x:=⟨ts[i],by simp[gl]⟩
    obtain⟨b,o,gM,gk⟩:=dE.some (M1 gl)
    simp only[Value.slice.injEq]at gk
    obtain⟨rfl,_,rfl⟩:=gk
    refine go ?_
    refine bM i zr zr zr zr zr zr zr zr gl ?_
    refine aK ?_
    refine bj 0 i zr zr zr dE rfl (qN hx) zr zr (go ?_)
    refine ai (H':=aW ts::aB 90 1 (.slice (some ⟨b,o,none⟩) ts.length c) ts.length (ts.map cB)::ae tb (cl [ptr bs,ptr jb,.slice (some ⟨b,o,none⟩) ts.length c,.bool br] 88)::ae b3 (cl (bH x) 37)::F) ah ?_
    refine ai (kL hx _) ?_
    refine eG (gi y) ?_
    rintro z hz
    refine ai (H':=ae y.yb (cl (lr y) 93)::ae b3 (cl (bH x) 37)::ae y.sb (cl [.int .i64 (y.n:Int),z.1] 117)::aB 118 1 z.1 y.ws.length (qV y.ws)::aP (Value.int .i64) y.mb z.2.1::aZ 35 z.2.2::aW (ts.take i++ts.drop (i+1))::aB 90 1 (.slice (some ⟨b,o,none⟩) ts.length c) ts.length (ts.map cB)::ae tb (cl [ptr bs,ptr jb,.slice (some ⟨b,o,none⟩) ts.length c,.bool br] 88)::F) ah ?_
    refine aF (fun w=>Sat G w ([ae y.yb (cl (lr y) 93),ae b3 (cl (bH x) 37)])) (cZ 0 6 .nil) rfl ak ak ak dT ?_
    refine go ?_
    refine cf (U:=aQ) (cs:=bH y.x) 0 zr zr zr zr zr zr (go ?_)
    refine bQ (U:=aQ) (l:=bH x) 1 zr zr zr zr zr zr (go ?_)
    refine kT (b:=decide (y.x=x)) zr zr zr Yl (fun w=>Yp y.x x w) ?_
    by_cases Df:y.x=x
    · rw[decide_eq_true Df]
      have sN:hD ts x=some y:=by
        unfold hD
        rw[Gr hx,List.find?_append,List.find?_eq_none.2 (fun w hw=>by simpa using hb w hw)]
        simp[Df]
      rw[sN]at hE
      refine go ?_
      refine ai (H':=mN y z++(aW (ts.take i++ts.drop (i+1))::ae tb (cl [ptr bs,ptr jb,.slice (some ⟨b,o,none⟩) ts.length c,.bool br] 88)::aB 90 1 (.slice (some ⟨b,o,none⟩) ts.length c) ts.length (ts.map cB)::F)) (by unfold mN;exact ah) ?_
      refine ai (iX hz _) ?_
      refine ai (lF hx _) ?_
      refine ai (H':=ae tb (cl [ptr bs,ptr jb,.slice (some ⟨b,o,none⟩) ts.length c,.bool br] 88)::aB 90 1 (.slice (some ⟨b,o,none⟩) ts.length c) ts.length (ts.map cB)::aW ts::F) ah ?_
      refine ad hE Tryz.func42 zr zr ⟨rfl,rfl⟩
    · rw[decide_eq_false Df]
      refine go ?_
      refine ai (H':=mN y z++(aW (ts.take i++ts.drop (i+1))::aB 90 1 (.slice (some ⟨b,o,none⟩) ts.length c) ts.length (ts.map cB)::ae tb (cl [ptr bs,ptr jb,.slice (some ⟨b,o,none⟩) ts.length c,.bool br] 88)::ae b3 (cl (bH x) 37)::F)) (by unfold mN;exact ah) ?_
      refine ai (iX hz _) ?_
      refine ai (lF hx _) ?_
      refine ai (H':=aB 90 1 (.slice (some ⟨b,o,none⟩) ts.length c) ts.length (ts.map cB)::aW ts::ae tb (cl [ptr bs,ptr jb,.slice (some ⟨b,o,none⟩) ts.length c,.bool br] 88)::ae b3 (cl (bH x) 37)::F) ah ?_
      refine aM ih (i+1) rfl (⟨ag,fun w hw=>by
        rw[List.take_add_one,hx,Option.toList_some]at hw
        rcases List.mem_append.1 hw with h|h
        · exact hb w h
        · rw[List.mem_singleton.1 h];exact Df⟩) ag cg ah
  · intro fA
    have tl:i=ts.length:=by omega
    subst tl
    have sN:hD ts x=none:=by
      unfold hD
      exact List.find?_eq_none.2 (fun w hw=>by simpa using hb w (by simpa using hw))
    rw[sN]at hE
    clear ih
    refine go ?_
    refine ai (H':=ae tb (cl [ptr bs,ptr jb,.slice a ts.length c,.bool br] 88)::aB 90 1 (.slice a ts.length c) ts.length (ts.map cB)::aW ts::F) ah ?_
    refine ad hE Tryz.func42 zr zr ⟨rfl,rfl⟩
def iv(b2 b3 jb:Nat):List Value:=[.func (.func 90) #[] #[ptr b2,ptr b3],.func (.func 92) #[ptr jb] #[] ]
def u5(tb bs jb:Nat)(tv:Value)(a:Option Addr)(n c:Nat):aE Tryz.prog 36 [ptr tb,.slice a n c] [jq tb bs jb tv false]
  (fun r H=>∃b2 b3 row,r = .slice (some ⟨row,0,none⟩) 2 2∧H=[ae row (cl (iv b2 b3 jb) 96),ae b2 (cl [ptr tb] 30),ae b3 (cl [.slice a n c] 22),jq tb bs jb tv false]):=by
 unfold jq
 refine aE.ao Tryz.func36 Tryz.ntmps36 fun G F R hE=>?_
 refine aD rfl ?_
 refine bG zr zr bD ?_
 intro b2
 refine bG zr zr bD ?_
 intro b3
 refine go ?_
 refine aj (cs:=iv b2 b3 jb) zr zr zr zr zr zr zr zr zr bD ?_
 intro row
 refine go ?_
 refine ad hE Tryz.func36 zr zr ⟨b2,b3,row,rfl,rfl⟩
def G4(tb bs jb bd b2 b3:Nat)(tv:Value)(A:Ab)(x:JN)(Z:HP)(a:Option Addr)(c:Nat)(b:List UInt8)(hb:eM Z (.slice a b.length c) b)(hl:b.length≤9223372036854775807)(hs:0≤x.s∧x.s≤1000000000)(fb:A.writes.length≤1000000000) :
  aE Tryz.prog 90 [ptr b2,ptr b3] [jq tb bs jb tv false,aC bd A,rU jb bd db x,ae b2 (cl [ptr tb] 30),ae b3 (cl [.slice a b.length c] 22),Z]
  (fun r H=>r = .int .i64 ((cY db A x b).1:Int)∧H=[jq tb bs jb tv false,aC bd (cY db A x b).2.1,rU jb bd db (cY db A x b).2.2,ae b2 (cl [ptr tb] 30),ae b3 (cl [.slice a b.length c] 22),Z]):=by
 have Ge:=IA jb bd db A x Z _ b hb hl hs fb
 unfold jq
 refine aE.ao Tryz.func90 Tryz.ntmps90 fun G F R hE=>?_
 refine go ?_
 refine aF (fun w=>Sat G w ([ae tb (cl [ptr bs,ptr jb,tv,.bool false] 88),ae b2 (cl [ptr tb] 30),ae b3 (cl [.slice a b.length c] 22)])) (cZ 0 5 (.act 5 (.st 6 .nil))) rfl ak ak ak dT ?_
 refine go ?_
 refine bo Ge ?_
 refine go ?_
 refine ai (H':=ae tb (cl [ptr bs,ptr jb,tv,.bool false] 88)::aC bd (cY db A x b).2.1::rU jb bd db (cY db A x b).2.2::ae b2 (cl [ptr tb] 30)::ae b3 (cl [.slice a b.length c] 22)::Z::F) ah ?_
 refine ad hE Tryz.func90 zr zr ⟨rfl,rfl⟩
def Fo(tb bs jb bd b2 b3:Nat)(q:Int)(hq:0≤q∧q≤1073741824)(mb:Nat)(tv:Value)(s:fe)(x:Bl)(O6:pI s.bt)(cK:s.A.aw.length≤900000000)(fb:s.A.writes.length≤900000000) :
  aE Tryz.prog 34 [ptr b2,ptr b3] (jq tb bs jb tv false::(cH bs bd q mb s++[ae b2 (cl [ptr tb] 30),ae b3 (cl (bH x) 37)]))
  (fun r H=>∃(e:Nat) (t:fe),r = .int .i64 (e:Int)∧H=jq tb bs jb tv false::(cH bs bd q mb t++[ae b2 (cl [ptr tb] 30),ae b3 (cl (bH x) 37)])∧dS q x s e t):=by
 have uI:=F6 bs bd q hq mb s x O6 cK fb
 unfold eL at uI
 unfold jq
 refine aE.ao Tryz.func34 Tryz.ntmps34 fun G F R hE=>?_
 refine go ?_
 refine aF (fun w=>Sat G w ([ae tb (cl [ptr bs,ptr jb,tv,.bool false] 88),ae b2 (cl [ptr tb] 30),ae b3 (cl (bH x) 37)])) (cZ 0 5 (.act 5 (.st 6 .nil))) rfl ak ak ak dT ?_
 refine go ?_
 refine bQ (U:=aQ) (l:=bH x) 2 zr zr zr zr zr zr (go ?_)
 refine gD rfl rfl rfl rfl uI ah ?_ (fun _ _ w hp hw=>by obtain⟨_,_,rfl,rfl,_⟩:=hp;exact hw.cV ah)
 rintro _ _⟨e,t,rfl,rfl,hR⟩
 refine go ?_
 refine ai (H':=ae tb (cl [ptr bs,ptr jb,tv,.bool false] 88)::(cH bs bd q mb t++(ae b2 (cl [ptr tb] 30)::ae b3 (cl (bH x) 37)::F))) ah ?_
 refine ad hE Tryz.func34 zr zr ⟨e,t,rfl,rfl,hR⟩
end Go.Proofs.YtedjnjkijiddlaaGreatDoor
namespace Go.Proofs.YtedjnjkijiddlaaGreatDoor
open Go Go.SL
def mP:Int→List (List UInt8)→List (Int × List UInt8)
 | _,[]=>[]
 | i,x::l=>(i,x)::mP (i+1) l
def tD(k:UInt8)(d:Dg)(ls:List (List UInt8)):List (Int × List UInt8):=(1,[k])::(2,d.bs)::mP 3 ls
def jL(k:UInt8)(d:Dg)(ls:List (List UInt8)):List UInt8:=eA (tD k d ls)
def D1:∀(i:Int) (l:List (List UInt8)) (x:List UInt8),mP i (l++[x])=mP i l++[(i+l.length,x)]
 | i,[],x=>by simp[mP]
 | i,y::l,x=>by
  simp only[List.cons_append,mP,D1 (i+1) l x,List.length_cons,List.cons_append]
  congr 4
  omega
def u3:∀(i:Int) (l:List (List UInt8)) (last:Int),last<i→i+l.length≤64→fF last (mP i l)=true
 | i,[],last,h,h2=>rfl
 | i,y::l,last,h,h2=>by
  simp only[mP,fF,List.length_cons]at h2 ⊢
  rw[decide_eq_true h,decide_eq_true (show i≤63 by omega),u3 (i+1) l i ag ag]
  rfl
def KX{n:Int}{b:List UInt8}(h:b.length≤32):(me (n,b)).length≤34:=by
 have h1:(uv b.length).length=1:=by rw[gh ag];rfl
 simp only[me,List.length_cons,List.length_append,h1]
 omega
def yh:∀(i:Int) (l:List (List UInt8)) (z:Int × List UInt8),z∈mP i l→z.2∈l
 | i,[],z,h=>by cases h
 | i,y::l,z,h=>by
  rcases List.mem_cons.1 h with rfl|h
  ·exact List.mem_cons_self ..
  ·exact List.mem_cons_of_mem _ (yh (i+1) l z h)
def tC:∀(i:Int) (l:List (List UInt8)),(mP i l).length=l.length
 | i,[]=>rfl
 | i,y::l=>by simp[mP,tC (i+1) l]
def IP:∀(l:List (Int × List UInt8)),(∀z∈l,z.2.length≤32)→(eA l).length≤34*l.length
 | [],_=>by simp[eA]
 | z::l,h=>by
  have h1:=IP l (fun w hw=>h w (List.mem_cons_of_mem _ hw))
  have h2:=KX (n:=z.1) (h z (List.mem_cons_self ..))
  simp only[eA,List.flatMap_cons,List.length_append,List.length_cons]at h1 ⊢
  have h3:(me z).length≤34:=h2
  omega
def g9(k:UInt8)(d:Dg)(ls:List (List UInt8))(hl:ls.length≤20)(hx:∀x∈ls,x.length≤32):(jL k d ls).length≤748:=by
 have:=IP (tD k d ls) (fun z hz=>by
  unfold tD at hz
  rcases List.mem_cons.1 hz with rfl|hz
  ·simp
  rcases List.mem_cons.1 hz with rfl|hz
  ·simp only;rw[d.len];omega
  ·exact hx _ (yh 3 ls z hz))
 have h2:(tD k d ls).length=2+ls.length:=by simp[tD,tC];omega
 unfold jL
 omega
def Kt(k:UInt8)(d:Dg)(ls:List (List UInt8))(hl:ls.length≤20):fF 0 (tD k d ls)=true:=by
 simp only[tD,fF]
 rw[u3 3 ls 2 ag ag]
 rfl
attribute [local irreducible] J K aE Ends ae aB aP bP bq aS aZ bu bX aC
def sE(k:UInt8)(d:Dg)(Z:HP)(mv:Value)(ls:List (List UInt8))(hv:sj Z mv ls)(hl:ls.length≤20)(acR:∀x∈ls,x.length≤32) :
  aE Tryz.prog 93 [u8 k,dV d,mv] [Z] (fun r H=>H=[aB 5 1 r (jL k d ls).length (bV (jL k d ls)),Z]):=by
 have EF:=g9 k d ls hl acR
 have hrr:=Kt k d ls hl
 obtain⟨cs,dE,lA,⟨a2,c2,rfl,mT⟩,nt⟩:=hv
 unfold dV
 refine aE.ao Tryz.func93 Tryz.ntmps93 fun G F R hE=>?_
 refine aD rfl ?_
 refine bG zr zr bD ?_
 intro b4
 refine go ?_
 refine aj (cs:=bV [k]) zr zr zr zr zr zr zr zr zr bD ?_
 intro r0
 refine go ?_
 refine iP (U:=aQ) zr zr zr zr zr (go ?_)
 obtain⟨wz,yL⟩:∃wz:List It,wz=[⟨1,.slice (some ⟨r0,0,none⟩) 1 1,[k]⟩,⟨2,.slice (some ⟨b4,0,none⟩) 32 32,d.bs⟩]:=⟨_,rfl⟩
 have h2l:wz.length=2:=by rw[yL];rfl
 refine aj (cs:=wz.flatMap lQ) zr zr zr zr zr zr zr zr (by rw[yL];rfl) bD ?_
 intro row
 refine go ?_
 obtain⟨Y,hY⟩:∃Y,Y=Sep [ae r0 (cl (bV [k]) 5),ae b4 (cl (dC d) 35),Z]:=⟨_,rfl⟩
 have hYZ:∀h,Y h→∃h',sub h' h∧Z h':=by rw[hY];exact bg (i:=2) rfl
 have hB0:∀z∈wz,eM Y z.v z.b:=by
  intro z hz
  rw[yL]at hz
  simp only[List.mem_cons,List.not_mem_nil,or_false]at hz
  rcases hz with rfl|rfl
  ·rw[hY];exact eM.mono (⟨Vw.ae rfl,_,_,rfl,Nat.le_refl _⟩) (bg (i:=0) rfl)
  ·rw[hY];exact(eM.block d.len (dG d)).mono (bg (i:=1) rfl)
 have zX:wz.map It.p=(1,[k])::(2,d.bs)::mP 3 (ls.take 0):=by rw[yL];rfl
 refine ai (H':=aB 207 2 (.slice (some ⟨row,0,none⟩) wz.length 2) wz.length (wz.flatMap lQ)::Y::F) ?_ ?_
 ·rw[hY]
  refine al.trans (H2:=ae r0 (cl (bV [k]) 5)::ae b4 (cl (dC d) 35)::Z::ae row (cl (wz.flatMap lQ++[]) 207)::F) (by rw[List.append_nil];exact ah) ?_
  refine(al.bS [_,_,_] _).trans ?_
  refine(al.perm (List.Perm.swap ..)).trans ?_
  rw[h2l]
  exact eJ 207 2 row 2 2 (wz.flatMap lQ) [] _ (by rw[yL];rfl) (Nat.le_refl _) (by rw[yL];simp[lQ])
 refine bB (fun y:Nat × List It × Option Addr × Nat=>y.1≤ls.length∧y.2.1.map It.p=(1,[k])::(2,d.bs)::mP 3 (ls.take y.1)∧∀z∈y.2.1,eM Y z.v z.b) (fun y=>ls.length-y.1)
  (fun y=>[(7,.slice y.2.2.1 y.2.1.length y.2.2.2),(18,.slice a2 ls.length c2),(19,.int .i64 (ls.length:Int)),(20,.int .i64 (y.1:Int))])
  (fun y=>aB 207 2 (.slice y.2.2.1 y.2.1.length y.2.2.2) y.2.1.length (y.2.1.flatMap lQ)::Y::F) (0,wz,some ⟨row,0,none⟩,2) ⟨Nat.zero_le _,zX,hB0⟩ rfl (by rw[h2l];exact cg) ah ?_
 clear zX hB0 h2l yL
 rintro⟨i,fQ,ia,ic⟩⟨hi,pP,vY⟩ ih
 simp only at hi pP vY
 dsimp only
 have abD:fQ.length=i+2:=by
  have:=congrArg List.length pP
  simp only[List.length_map,List.length_cons,tC,List.length_take]at this
  omega
 refine go ?_
 refine aq zr zr ?_ ?_
 ·intro de
  have gl:i<ls.length:=by omega
  obtain⟨x,hx⟩:∃x,ls[i]?=some x:=⟨ls[i],by simp⟩
  obtain⟨cv,Bj,wL⟩:=nt i x hx
  obtain⟨xa,xc,rfl,hxc⟩:=wL.2
  obtain⟨b,o,gM,gk⟩:=dE.some (by intro h;rw[h]at lA;simp at lA;omega)
  simp only[Value.slice.injEq]at gk
  obtain⟨rfl,_,rfl⟩:=gk
  have acV:=dE.mono hYZ
  refine go ?_
  refine bM i zr zr zr zr zr zr zr zr gl ?_
  refine aK ?_
  refine bj 1 i zr zr zr acV rfl Bj zr zr (go ?_)
  refine aj (cs:=lQ ⟨3+(i:Int),.slice xa x.length xc,x⟩) zr zr zr zr zr zr zr zr zr bD ?_
  intro QX
  refine go ?_
  refine aR (mm:=1) (news:=lQ ⟨3+(i:Int),.slice xa x.length xc,x⟩) 1 0 rfl rfl rfl rfl rfl rfl rfl rfl rfl rfl rfl rfl (Vw.ae rfl) rfl (by intro v hv;simp[lQ]at hv;rcases hv with rfl|rfl <;> rfl) ag (by show(_+_)*32≤_;omega) (fun _=>rfl) bD ?_
  intro v1
  rw[show fQ.flatMap lQ++lQ (⟨3+(i:Int),.slice xa x.length xc,x⟩:It)=(fQ++[(⟨3+(i:Int),.slice xa x.length xc,x⟩:It)]).flatMap lQ from by simp,show fQ.length+1=(fQ++[(⟨3+(i:Int),.slice xa x.length xc,x⟩:It)]).length from by simp]
  refine aO 1 rfl ?_
  rintro ja jc rfl
  have OZ:(fQ++[(⟨3+(i:Int),.slice xa x.length xc,x⟩:It)]).map It.p=(1,[k])::(2,d.bs)::mP 3 (ls.take (i+1)):=by
   rw[List.map_append,pP,List.take_add_one,hx,Option.toList_some,D1,List.length_take,Nat.min_eq_left ag]
   rfl
  refine go ?_
  refine aM ih (i+1,fQ++[(⟨3+(i:Int),.slice xa x.length xc,x⟩:It)],ja,jc) rfl ⟨by simp only;omega,OZ,fun z hz=>(by rcases List.mem_append.1 hz with h|h;exact vY z h;rw[List.mem_singleton.1 h];exact wL.mono hYZ)⟩ (by simp only;omega) cg ah
 ·intro fA
  have tl:i=ls.length:=by omega
  subst tl
  rw[List.take_length]at pP
  have XS:fQ.map It.p=tD k d ls:=pP
  clear ih
  refine dy 0 rfl ?_
  intro Xk
  have ES:=ni (Sep [aB 207 2 (.slice ia fQ.length ic) fQ.length (fQ.flatMap lQ),Y]) (.slice ia fQ.length ic) fQ ⟨Xk.mono (bg (i:=0) rfl),fun z hz=>(vY z hz).mono (bg (i:=1) rfl)⟩ ag (by rw[XS];exact hrr) (by rw[XS];exact Nat.le_trans EF ag)
  rw[XS]at ES
  refine go ?_
  refine aI (al.bS [_,_] _) ?_
  refine aH ES ?_
  rintro _ _⟨rr,rfl,rfl⟩
  refine go ?_
  refine ai (al.cons _ (al.cD [_,_] _)) ?_
  refine ai (H':=Y::aB 5 1 rr (jL k d ls).length (bV (jL k d ls))::F) ah ?_
  rw[hY]
  refine ai (al.cD [_,_,_] _) ?_
  refine ai (H':=aB 5 1 rr (jL k d ls).length (bV (jL k d ls))::Z::F) ah ?_
  refine aL hE Tryz.func93 rfl _ zr zr ah
def gY(x:Bl):List (List UInt8):=[uv x.size.toNat,uv x.piece.toNat,x.root.bs]
def bU(x:Bl):List UInt8:=jL 1 x.d (gY x)
def kG(x:Bl)(hs:x.size≤1000000000000)(hp:x.piece≤1000000000000):∀b∈gY x,b.length≤32:=fun b hb=>by
 simp only[gY,List.mem_cons,List.not_mem_nil,or_false]at hb
 rcases hb with rfl|rfl|rfl
 ·have:=pQ (n:=x.size.toNat) ag;omega
 ·have:=pQ (n:=x.piece.toNat) ag;omega
 ·rw[x.root.len];omega
def sh(x:Bl)(hs:0≤x.size∧x.size≤1000000000000)(hp:0≤x.piece∧x.piece≤1000000000000) :
  aE Tryz.prog 37 [eL x] [] (fun r H=>H=[aB 5 1 r (bU x).length (bV (bU x))]):=by
 obtain⟨sz,iB⟩:∃m:Nat,x.size=m:=⟨x.size.toNat,ag⟩
 obtain⟨pc,tj⟩:∃m:Nat,x.piece=m:=⟨x.piece.toNat,ag⟩
 have hlen:=kG x hs.2 hp.2
 unfold eL
 refine aE.ao Tryz.func37 Tryz.ntmps37 fun G F R hE=>?_
 refine aD rfl ?_
 refine bG zr zr bD ?_
 intro b1
 refine go ?_
 refine aF (fun w=>Sat G w ([ae b1 (cl (bH x) 37)])) (cZ 0 5 (cZ 6 3 (.st 10 (.st 11 (.act 5 (.act 9 (.act 12 (.act 13 (.st 14 .nil))))))))) rfl ak ak ak dT ?_
 (repeat(first|refine gy ?_|refine cf (U:=aQ) 0 zr zr zr zr zr zr ?_|refine iP (U:=aQ) zr zr zr zr zr ?_))
 refine au 7 ((.int .u64 (sz:Int))) rfl ((congrArg (Value.int .u64) iB)) ?_
 refine au 11 ((.int .u64 (pc:Int))) rfl ((congrArg (Value.int .u64) tj)) ?_
 refine cN (mC sz ag) ?_
 rintro r8 _ rfl
 refine aO 0 rfl ?_
 rintro a8 c8 rfl
 refine go ?_
 refine cN (mC pc ag) ?_
 rintro r9 _ rfl
 refine aO 0 rfl ?_
 rintro a9 c9 rfl
 refine gQ (bs:=uv pc) 0 rfl ?_
 intro Yc
 refine gQ (bs:=uv sz) 1 rfl ?_
 intro Jq
 refine go ?_
 obtain⟨cs,j7⟩:∃cs:List Value,cs=[.slice a8 (uv sz).length c8,.slice a9 (uv pc).length c9,.slice (some ⟨b1,34,none⟩) 32 32]:=⟨_,rfl⟩
 refine aj (cs:=cs) zr zr zr zr zr zr zr zr (by rw[j7];rfl) (fun _ _ hw=>hw.cV ah) ?_
 intro row
 have mR:sj (Sep [ae row (cl cs 22),aB 5 1 (.slice a8 (uv sz).length c8) (uv sz).length (bV (uv sz)),aB 5 1 (.slice a9 (uv pc).length c9) (uv pc).length (bV (uv pc)),ae b1 (cl (bH x) 37)]) (.slice (some ⟨row,0,none⟩) 3 3) (gY x):=by
  refine⟨cs,(Vw.ae (by rw[j7];rfl)).mono (bg (i:=0) rfl),by rw[j7];rfl,⟨_,_,rfl,Nat.le_refl _⟩,fun i y hy=>?_⟩
  have ac8:x.size.toNat=sz:=by omega
  have adm:x.piece.toNat=pc:=by omega
  unfold gY at hy
  rw[ac8,adm]at hy
  match i,hy with
  | 0,hy=>cases hy;exact⟨_,by rw[j7];rfl,Jq.mono (bg (i:=1) rfl)⟩
  | 1,hy=>cases hy;exact⟨_,by rw[j7];rfl,Yc.mono (bg (i:=2) rfl)⟩
  | 2,hy=>cases hy;exact⟨_,by rw[j7];rfl,(eM.W5 x.root.len (by rw[← dG];exact Sk x)).mono (bg (i:=3) rfl)⟩
  | i+3,hy=>simp at hy
 have OF:=sE 1 x.d _ _ (gY x) mR (by simp[gY]) hlen
 unfold dV at OF
 clear mR
 clear j7
 refine go ?_
 refine aI (al.trans (H2:=ae row (cl cs 22)::aB 5 1 (.slice a8 (uv sz).length c8) (uv sz).length (bV (uv sz))::aB 5 1 (.slice a9 (uv pc).length c9) (uv pc).length (bV (uv pc))::ae b1 (cl (bH x) 37)::F) ah (al.bS [_,_,_,_] _)) ?_
 refine gD rfl rfl rfl rfl OF ah ?_ (fun _ _ w hp hw=>by obtain rfl:=hp;exact hw.cV (al.trans (al.pick [1] rfl) (al.trans (al.cD [_,_,_,_] _) ah)))
 rintro rr _ rfl
 refine go ?_
 refine ai (H':=aB 5 1 rr (bU x).length (bV (bU x))::F) ah ?_
 refine aL hE Tryz.func37 rfl _ zr zr ah
end Go.Proofs.YtedjnjkijiddlaaGreatDoor
namespace Go.Proofs.YtedjnjkijiddlaaGreatDoor
open Go Go.SL
def LO(e:TypeId)(H:List HP):al H (aZ e []::H):=al.qA H
attribute [local irreducible] J K aE Ends ae aB aP bP bq aS aZ bu bX aC
def Bo(x:Bl):aE Tryz.prog 39 [eL x] [] (fun r H=>∃y:Tk,r=ptr y.yb∧H=[oD y]∧y.x=x∧(y.n:Int)=bO x∧y.ws=List.replicate ((y.n+63)/64) 0#64∧y.pf=fun _=>none):=by
 have lA:=lS x
 obtain⟨n,hn⟩:∃n:Nat,bO x=n:=⟨(bO x).toNat,ag⟩
 have hc:=vC x
 rw[hn]at hc
 have wG:=Qi n ag
 unfold eL at hc ⊢
 unfold eQ at wG
 refine aE.ao Tryz.func39 Tryz.ntmps39 fun G F R hE=>?_
 refine aD rfl ?_
 refine bG zr zr bD ?_
 intro b1
 refine go ?_
 refine aG (U:=aQ) (l:=bH x) 0 zr zr zr zr zr zr ?_
 refine aJ hc ?_
 refine go ?_
 refine aH wG ?_
 rintro _ _⟨sb,wv,rfl,rfl⟩
 refine go ?_
 refine aI (H':=ae b1 (cl (bH x) 37)::ae sb (cl [.int .i64 (n:Int),wv] 117)::aB 118 1 wv (List.replicate ((n+63)/64) 0#64).length (qV (List.replicate ((n+63)/64) 0#64))::F) ah (go ?_)
 refine aG (U:=aQ) (l:=bH x) 0 zr zr zr zr zr zr (go ?_)
 refine oy rfl bD ?_
 intro mb
 refine aI (al.fold (B:=[_]) (A:=aP (Value.int .i64) mb []) (fun h hs=>⟨h,sub.refl h,qe (Value.int .i64) mb h (eU hs)⟩)) ?_
 refine go ?_
 refine bG zr zr bD ?_
 intro yb
 refine go ?_
 obtain⟨y,hy⟩:∃y:Tk,y=⟨yb,sb,mb,x,n,List.replicate ((n+63)/64) 0#64,fun _=>none⟩:=⟨_,rfl⟩
 have hR:JK (wv,[],[]) y:=fun k=>by rw[hy];rfl
 refine ai (H':=mN y (wv,[],[])++F) ?_ ?_
 ·rw[hy]
  unfold mN
  exact al.trans (LO 35 _) ah
 refine ai (iX hR F) ?_
 ((refine ad hE Tryz.func39 zr zr ⟨y,by rw[hy];rfl,rfl,by rw[hy],by rw[hy];exact hn.symm,by rw[hy],by rw[hy]⟩))
end Go.Proofs.YtedjnjkijiddlaaGreatDoor
namespace Go.Proofs.YtedjnjkijiddlaaGreatDoor
open Go Go.SL
def W7(x:jj):jj:=(x >>> 1 &&& BitVec.ofInt 64 6148914691236517205)+(x &&& BitVec.ofInt 64 6148914691236517205)
def W6(x:jj):jj:=(x >>> 2 &&& BitVec.ofInt 64 3689348814741910323)+(x &&& BitVec.ofInt 64 3689348814741910323)
def Q5(x:jj):jj:=(x >>> 4+x) &&& BitVec.ofInt 64 1085102592571150095
def Ce(k:Nat)(x:jj):jj:=x+x >>> k
def GV(x:jj):jj:=Ce 32 (Ce 16 (Ce 8 (Q5 (W6 (W7 x)))))
def GW(y:jj):Int:=IntKind.i64.wrap ((BitVec.ofInt IntKind.i64.bits (IntKind.i64.wrap (y.toNat:Int)) &&& BitVec.ofInt IntKind.i64.bits 127).toNat:Int)
def IT(y:jj):0≤GW y∧GW y≤127:=by
 have h:(BitVec.ofInt IntKind.i64.bits (IntKind.i64.wrap (y.toNat:Int)) &&& BitVec.ofInt IntKind.i64.bits 127).toNat≤127:=by
  rw[BitVec.toNat_and]
  exact Nat.le_trans Nat.and_le_right (by decide)
 unfold GW
 generalize (BitVec.ofInt IntKind.i64.bits (IntKind.i64.wrap (y.toNat:Int)) &&& BitVec.ofInt IntKind.i64.bits 127).toNat=m at h
 have e:IntKind.i64.wrap (m:Int)=(m:Int):=cS (by simp only[gq];omega)
 rw[e]
 omega
def vu(p:jj)(c:Int):IntKind.u64.wrap ((BitVec.ofInt IntKind.u64.bits (p.toNat:Int) &&& BitVec.ofInt IntKind.u64.bits c).toNat:Int)=((p &&& BitVec.ofInt 64 c).toNat:Int):=by
 rw[nO]
 exact mV (p &&& BitVec.ofInt 64 c)
def oh(ws:List jj):Int:=(ws.map fun w=>GW (GV w)).sum
def CG(ws:List jj):0≤oh ws∧oh ws≤127*ws.length:=by
 unfold oh
 induction ws with
 | nil=>simp
 | cons w ws ih =>
  have:=IT (GV w)
  simp only[List.map_cons,List.sum_cons,List.length_cons]
  omega
attribute [local irreducible] J K aE Ends ae aB aP bP bq aS aZ bu bX aC
def PW(x:jj):aE Tryz.prog 108 [.int .u64 (x.toNat:Int)] [] (fun r H=>r = .int .i64 (GW (GV x))∧H=[]):=by
 refine aE.ao Tryz.func108 Tryz.ntmps108 fun G F R hE=>?_
 refine go ?_
 refine qI (p:=x) 1 zr zr zr zr ag (go ?_)
 refine au 5 ((.int .u64 ((x >>> 1 &&& BitVec.ofInt 64 6148914691236517205).toNat:Int))) rfl ((congrArg (Value.int .u64) (vu _ _))) ?_
 refine au 7 ((.int .u64 ((x &&& BitVec.ofInt 64 6148914691236517205).toNat:Int))) rfl ((congrArg (Value.int .u64) (vu _ _))) ?_
 refine vz (p:=x >>> 1 &&& BitVec.ofInt 64 6148914691236517205) (q:=x &&& BitVec.ofInt 64 6148914691236517205) zr zr zr ?_
 rw[show(x >>> 1 &&& BitVec.ofInt 64 6148914691236517205)+(x &&& BitVec.ofInt 64 6148914691236517205)=W7 x from rfl]
 obtain⟨a,ha⟩:∃a,a=W7 x:=⟨_,rfl⟩
 rw[← ha]
 refine go ?_
 refine qI (p:=a) 2 zr zr zr zr ag (go ?_)
 refine au 11 ((.int .u64 ((a >>> 2 &&& BitVec.ofInt 64 3689348814741910323).toNat:Int))) rfl ((congrArg (Value.int .u64) (vu _ _))) ?_
 refine au 13 ((.int .u64 ((a &&& BitVec.ofInt 64 3689348814741910323).toNat:Int))) rfl ((congrArg (Value.int .u64) (vu _ _))) ?_
 refine vz (p:=a >>> 2 &&& BitVec.ofInt 64 3689348814741910323) (q:=a &&& BitVec.ofInt 64 3689348814741910323) zr zr zr ?_
 rw[show(a >>> 2 &&& BitVec.ofInt 64 3689348814741910323)+(a &&& BitVec.ofInt 64 3689348814741910323)=W6 a from rfl]
 obtain⟨b,hb⟩:∃b,b=W6 a:=⟨_,rfl⟩
 rw[← hb]
 refine go ?_
 refine qI (p:=b) 4 zr zr zr zr ag (go ?_)
 refine vz (p:=b >>> 4) (q:=b) zr zr zr (go ?_)
 refine au 20 ((.int .u64 ((Q5 b).toNat:Int))) rfl ((congrArg (Value.int .u64) (vu _ _))) ?_
 refine au 21 ((.int .u64 ((Q5 b).toNat:Int))) rfl ((congrArg (Value.int .u64) (vu _ _))) ?_
 obtain⟨c,hc⟩:∃c,c=Q5 b:=⟨_,rfl⟩
 rw[← hc]
 refine qI (p:=c) 8 zr zr zr zr ag (go ?_)
 refine vz (p:=c) (q:=c >>> 8) zr zr zr ?_
 rw[show c+c >>> 8=Ce 8 c from rfl]
 obtain⟨d,hd⟩:∃d,d=Ce 8 c:=⟨_,rfl⟩
 rw[← hd]
 refine go ?_
 refine qI (p:=d) 16 zr zr zr zr ag (go ?_)
 refine vz (p:=d) (q:=d >>> 16) zr zr zr ?_
 rw[show d+d >>> 16=Ce 16 d from rfl]
 obtain⟨e,he⟩:∃e,e=Ce 16 d:=⟨_,rfl⟩
 rw[← he]
 refine go ?_
 refine qI (p:=e) 32 zr zr zr zr ag (go ?_)
 refine vz (p:=e) (q:=e >>> 32) zr zr zr ?_
 rw[show e+e >>> 32=Ce 32 e from rfl,show Ce 32 e=GV x from by rw[he,hd,hc,hb,ha];rfl]
 refine go ?_
 refine il zr zr zr zr zr zr (go ?_)
 refine ad hE Tryz.func108 zr zr ⟨rfl,rfl⟩
def zT(sb n:Nat)(wv:Value)(ws:List jj)(hl:ws.length≤65536):aE Tryz.prog 51 [ptr sb] (eQ sb n wv ws) (fun r H=>r = .int .i64 (oh ws)∧H=eQ sb n wv ws):=by
 unfold eQ
 refine aE.ao Tryz.func51 Tryz.ntmps51 fun G F R hE=>?_
 refine dz 1 rfl ?_
 rintro a c rfl
 refine dy 1 rfl ?_
 intro dE
 refine go ?_
 refine bB (fun i:Nat=>i≤ws.length) (fun i=>ws.length-i) (fun i=>[(3,.int .i64 (oh (ws.take i))),(9,.slice a ws.length c),(10,.int .i64 (ws.length:Int)),(11,.int .i64 (i:Int))])
  (fun _=>ae sb (cl [.int .i64 (n:Int),.slice a ws.length c] 117)::aB 118 1 (.slice a ws.length c) ws.length (qV ws)::F) 0 (Nat.zero_le _) rfl cg ah ?_
 intro i hi ih
 have Tv:=CG (ws.take i)
 rw[List.length_take,Nat.min_eq_left hi]at Tv
 refine go ?_
 refine aq zr zr ?_ ?_
 ·intro de
  have gl:i<ws.length:=by omega
  obtain⟨w,hw⟩:∃w,ws[i]?=some w:=⟨ws[i],by simp[gl]⟩
  have lC:oh (ws.take (i+1))=oh (ws.take i)+GW (GV w):=by
   unfold oh
   rw[List.take_add_one,hw];simp
  have K4:=IT (GV w)
  obtain⟨b,o,gM,gk⟩:=dE.some (qNe gl)
  simp only[Value.slice.injEq]at gk
  obtain⟨rfl,_,rfl⟩:=gk
  refine go ?_
  refine bM i zr zr zr zr zr zr zr zr gl ?_
  refine aK ?_
  refine bj 1 i zr zr zr dE rfl (B8 hw) zr zr ?_
  unfold MY
  refine go ?_
  refine aJ (PW w) ?_
  refine go ?_
  refine aX 3 ((.int .i64 (oh (ws.take (i+1))))) rfl ((congrArg (Value.int .i64) lC.symm)) ?_
  refine aM ih (i+1) rfl ag ag cg ah
 ·intro fA
  have tl:i=ws.length:=by omega
  subst tl
  rw[List.take_length]
  clear ih
  refine go ?_
  refine ad hE Tryz.func51 zr zr ⟨rfl,rfl⟩
def Tk.put(y:Tk)(i:Nat)(l:List Dg):Tk:=⟨y.yb,y.sb,y.mb,y.x,y.n,jR y.ws i true,fun j=>if j=(i:Int)then some l else y.pf j⟩
def Dt(y:Tk)(i:Nat)(hi:i<y.n)(hn:y.n≤65536)(hw:y.n≤y.ws.length*64)(P:HP)(pv:Value)(l:List Dg)(hv:Vw P pv l.length (l.flatMap dC))(hl:l.length≤1000000) :
  aE Tryz.prog 50 [ptr y.yb,.int .i64 (i:Int),pv] [oD y,P] (fun r H=>r = .tuple #[]∧H=[oD (y.put i l),P]):=by
 have lA:=F3 P pv l hv hl
 obtain⟨a,c,rfl⟩:=hv.shape
 refine aE.ao Tryz.func50 Tryz.ntmps50 fun G F R hE=>?_
 refine eG (gi y) ?_
 rintro⟨wv,cs,M⟩ hz
 have rG:=F7 y.sb y.n wv y.ws hn hw i hi true
 unfold eQ at rG
 refine ai (H':=ae y.yb (cl (lr y) 93)::ae y.sb (cl [.int .i64 (y.n:Int),wv] 117)::aB 118 1 wv y.ws.length (qV y.ws)::aP (Value.int .i64) y.mb cs::aZ 35 M::P::F) (by unfold mN;exact ah) ?_
 refine go ?_
 refine aJ rG ?_
 refine go ?_
 refine aF (fun w=>Sat G w ([ae y.yb (cl (lr y) 93)])) (cZ 0 6 (.act 6 (.act 7 .nil))) rfl ak ak ak dT ?_
 refine go ?_
 refine cN lA ?_
 rintro r8 _ rfl
 refine go ?_
 refine aI (H':=aP (Value.int .i64) y.mb cs::aB 35 32 r8 l.length (l.flatMap dC)::aZ 35 M::ae y.yb (cl (lr y) 93)::ae y.sb (cl [.int .i64 (y.n:Int),wv] 117)::aB 118 1 wv (jR y.ws i true).length (qV (jR y.ws i true))::P::F) ah ?_
 refine jo (kv:=Value.int .i64) (es:=cs) (key:=(i:Int)) (v:=r8) 0 (Ck Tryz.underlying3) gB zr zr zr zr zr zr zr zr (go ?_)
 refine ai (al.perm (List.Perm.swap ..)) ?_
 refine ai (H':=aB 35 32 r8 l.length (l.flatMap dC)::aZ 35 M::aP (Value.int .i64) y.mb (nA cs (i:Int) r8)::ae y.yb (cl (lr y) 93)::ae y.sb (cl [.int .i64 (y.n:Int),wv] 117)::aB 118 1 wv (jR y.ws i true).length (qV (jR y.ws i true))::P::F) ah ?_
 refine ai (al.join _ _ _) ?_
 refine eG (DR 35 32 l.length r8 (l.flatMap dC) M) ?_
 rintro M'⟨aec,eF⟩
 have Xf:JK (wv,nA cs (i:Int) r8,M') (y.put i l):=JK.put hz (i:Int) r8 wv l M' eF aec _ rfl
 refine ai (H':=mN (y.put i l) (wv,nA cs (i:Int) r8,M')++(P::F)) (by unfold mN;exact ah) ?_
 refine ai (iX Xf _) ?_
 refine bW hE Tryz.func50 rfl _ rfl ⟨rfl,rfl⟩ ah
def n7{ts:List Tk}{x:Bl}{y:Tk}(h:hD ts x=some y):∃i:Nat,ts[i]?=some y∧y.x=x:=by
 unfold hD at h
 have h1:=List.find?_some h
 obtain⟨i,hi⟩:=List.mem_iff_getElem?.1 (List.mem_of_find?_eq_some h)
 exact⟨i,hi,by simpa using h1⟩
def IY(o:Option Tk):Value:=match o with
 | none => .tuple #[.int .i64 0,.int .i64 4]
 | some y => .tuple #[.int .i64 ((y.n:Int)-oh y.ws),.int .i64 0]
def wm(tb bs jb:Nat)(tv:Value)(br:Bool)(ts:List Tk)(x:Bl)(hl:ts.length≤1000000)(hn:∀y∈ts,y.n≤65536)(hw:∀y∈ts,y.ws.length≤65536) :
  aE Tryz.prog 22 [ptr tb,eL x] (eh tb bs jb tv ts br) (fun r H=>r=IY (hD ts x)∧H=eh tb bs jb tv ts br):=by
 have hf:=rn tb bs jb tv br ts x hl
 unfold eh at hf ⊢
 unfold eL at hf ⊢
 refine aE.ao Tryz.func22 Tryz.ntmps22 fun G F R hE=>?_
 refine aD rfl ?_
 refine bG zr zr bD ?_
 intro b3
 refine go ?_
 refine aG (U:=aQ) (l:=bH x) 0 zr zr zr zr zr zr (go ?_)
 refine aJ hf ?_
 refine go ?_
 cases sN:hD ts x with
 | none =>
  rw[sN]at hE
  unfold QS
  refine go ?_
  refine ad hE Tryz.func22 zr zr ⟨rfl,rfl⟩
 | some y =>
  rw[sN]at hE
  obtain⟨i,hi,hx⟩:=n7 sN
  have Ov:y∈ts:=List.mem_of_getElem? hi
  have I':=hn y Ov
  have Hi:=hw y Ov
  have Tv:=CG y.ws
  unfold QS
  refine go ?_
  refine ai (H':=aW ts::ae tb (cl [ptr bs,ptr jb,tv,.bool br] 88)::aB 90 1 tv ts.length (ts.map cB)::F) ah ?_
  refine ai (kL hi _) ?_
  refine eG (gi y) ?_
  rintro⟨wv,cs,M⟩ hz
  refine ai (H':=ae y.yb (cl (lr y) 93)::ae y.sb (cl [.int .i64 (y.n:Int),wv] 117)::aB 118 1 wv y.ws.length (qV y.ws)::aP (Value.int .i64) y.mb cs::aZ 35 M::aW (ts.take i++ts.drop (i+1))::ae tb (cl [ptr bs,ptr jb,tv,.bool br] 88)::aB 90 1 tv ts.length (ts.map cB)::F) (by unfold mN;exact ah) ?_
  have yS:=zT y.sb y.n wv y.ws Hi
  unfold eQ at yS
  refine aF (fun w=>Sat G w ([ae y.yb (cl (lr y) 93)])) (cZ 0 4 (cZ 5 4 (.act 4 (.act 9 (cZ 10 3 .nil))))) rfl ak ak ak dT ?_
  refine go ?_
  refine bo (oC y.sb y.n wv) ?_
  refine go ?_
  refine bo yS ?_
  refine go ?_
  refine ai (H':=mN y (wv,cs,M)++(aW (ts.take i++ts.drop (i+1))::ae tb (cl [ptr bs,ptr jb,tv,.bool br] 88)::aB 90 1 tv ts.length (ts.map cB)::F)) (by unfold mN;exact ah) ?_
  refine ai (iX hz _) ?_
  refine ai (lF hi _) ?_
  refine ai (H':=ae tb (cl [ptr bs,ptr jb,tv,.bool br] 88)::aB 90 1 tv ts.length (ts.map cB)::aW ts::F) ah ?_
  refine ad hE Tryz.func22 zr zr ⟨rfl,rfl⟩
def Ar(v:Value)(l:List Tk)(X:HP)(g:FuncId)(cap:List Value)(p:Tk→Bool)(hlen:l.length≤1000000)(hf:∀x∈l,aE Tryz.prog g (ptr x.yb::cap) [X] (fun v H=>v = .bool (p x)∧H=[X])) :
  aE Tryz.prog 174 [v,.func (.func g) #[] cap.toArray] [aB 90 1 v l.length (l.map cB),X]
   (fun r H=>H=[aB 90 1 r (l.filter fun x => !p x).length ((l.filter fun x => !p x).map cB),X]):=by
 refine aE.ao Tryz.func174 Tryz.ntmps174 fun G F R hE=>?_
 refine dz 0 rfl ?_
 rintro a0 c rfl
 refine go ?_
 refine iy 0 rfl ?_
 intro hv
 refine cF [0,1] zr zr zr zr (uE _ X _ l hv hlen g cap p hf) rfl mM ?_
 rintro _ _⟨rfl,rfl⟩
 refine go ?_
 refine aq zr zr ?_ ?_
 ·intro h0
  have ml:l.any p=false:=nU.1 ag
  have nW:(l.filter fun x => !p x)=l:=List.filter_eq_self.2 fun x hx=>by
   have:=List.any_eq_false.1 ml x hx
   simpa using this
  rw[nW]at hE
  refine go ?_
  refine aL hE Tryz.func174 rfl _ zr zr (al.fin [0,1] 0 zr zr)
 ·intro h0
  obtain⟨i0,x0,Li,Xi,zX,rj⟩:=yE h0
  have adN:i0<l.length:=by
   rcases Nat.lt_or_ge i0 l.length with h|h
   ·exact h
   ·rw[List.getElem?_eq_none h]at Xi;cases Xi
  rw[Li]
  refine go ?_
  refine sW (fun a lJ hn _=>by omega) ?_
  rintro b o c' pre bT o4 mQ hnc jz lA
  simp only[Value.slice.injEq,true_and]at o4
  obtain⟨rfl,rfl⟩:=o4
  have h1:l.take (i0+1)=l.take i0++[x0]:=by rw[List.take_add_one,Xi];rfl
  have Hu:(l.take i0).filter (fun x => !p x)=l.take i0:=List.filter_eq_self.2 fun x hx=>by simp[rj x hx]
  refine bB (fun s:Nat × Nat × List Tk=>s.1<s.2.1∧s.2.1≤l.length∧s.2.2.length=l.length∧s.2.2.take s.1=(l.take s.2.1).filter (fun x => !p x)∧s.2.2.drop s.2.1=l.drop s.2.1) (fun s=>l.length-s.2.1)
   (fun s=>[(0,.slice (some ⟨b,o,none⟩) l.length c),(1,.func (.func g) #[] cap.toArray),(5,.int .i64 s.1),(6,.int .i64 s.2.1)])
   (fun s=>ae b (cl (pre++s.2.2.map cB++bT) 90)::X::F) (i0,i0+1,l) ⟨by simp,by simp only;omega,rfl,by simp only[h1,List.filter_append,Hu];simp[zX],rfl⟩ rfl cg (al.refl _) ?_
  rintro⟨i,j,E⟩⟨Bg,wK,QF,E5,R0⟩ ih
  simp only at Bg wK QF E5 R0
  have fb:(E.map cB).length=l.length:=by rw[List.length_map,QF]
  have hvE:Vw (ae b (cl (pre++E.map cB++bT) 90)) (.slice (some ⟨b,o,none⟩) l.length c) l.length (E.map cB):=Vw.ae (by rw[List.append_assoc,← mQ,List.drop_left,List.take_left])
  refine go ?_
  refine aq zr zr ?_ ?_
  ·intro de
   simp only at de
   have rf:j<l.length:=by omega
   obtain⟨x,hx⟩:∃x,l[j]?=some x:=⟨l[j],by simp[rf]⟩
   have hEx:E[j]?=some x:=by
    have:=congrArg (·[0]?) R0
    simp only[List.getElem?_drop,Nat.add_zero]at this
    rw[this];exact hx
   have fz:=List.mem_of_getElem? hx
   have XW:=hf _ fz
   refine go ?_
   refine bM j zr zr zr zr zr zr zr zr rf ?_
   refine aK ?_
   refine bj 0 j zr zr zr hvE rfl (qN hEx) zr zr (go ?_)
   refine cF [1] zr zr zr zr (XW) rfl mM ?_
   rintro _ _⟨rfl,rfl⟩
   refine go ?_
   refine fR zr zr ?_ ?_
   ·intro hp
    have tk:p x=false:=by simpa using hp
    refine go ?_
    refine bM i zr zr zr zr zr zr zr zr ag ?_
    refine kH (U:=aQ) (l':=pre++(E.set i x).map cB++bT) 1 gB zr zr zr zr zr zr zr ?_ ?_ rfl ?_
    ·show o+i+1≤_
     rw[List.length_append,List.length_append,fb];omega
    ·show _=List.take (o+i) (pre++E.map cB++bT)++[cB x]++List.drop (o+i+1) (pre++E.map cB++bT)
     have hs:=oL pre (E.map cB) bT [cB x] i (by rw[fb];simp only[List.length_singleton];omega)
     rw[← mQ]
     simp only[List.length_singleton]at hs
     rw[hs,List.map_set,List.set_eq_take_append_cons_drop,if_pos (by rw[fb];omega)]
     simp
    refine go ?_
    refine aM ih (i+1,j+1,E.set i x) rfl ⟨by simp only;omega,by simp only;omega,by simp only[List.length_set];exact QF,?_,?_⟩ (by simp only;omega) cg ah
    ·simp only
     rw[List.take_add_one,List.take_set_of_le (Nat.le_refl i),E5,List.take_add_one (l:=l),hx,List.getElem?_set_self ag]
     simp[List.filter_append,tk]
    ·simp only
     rw[List.drop_set_of_lt ag,← List.drop_drop,R0,List.drop_drop]
   ·intro hp
    have tk:p x=true:=by simpa using hp
    refine go ?_
    refine aM ih (i,j+1,E) rfl ⟨by simp only;omega,by simp only;omega,QF,by simp only;rw[E5,List.take_add_one,hx];simp[List.filter_append,tk],by simp only;rw[← List.drop_drop,R0,List.drop_drop]⟩ (by simp only;omega) cg ah
  ·intro fA
   refine go ?_
   simp only at fA
   have Jm:j=l.length:=by omega
   subst Jm
   rw[List.take_length]at E5
   have yK:(l.filter fun x => !p x).length=i:=by rw[← E5,List.length_take];omega
   refine lT zr zr zr zr zr zr zr ag ag (.inl rfl) ?_
   intro o1 ON Y9
   simp only[Int.toNat_natCast]at ON Y9
   have OM:i≠c→o1=o+i:=fun h=>by have h2:o1=o+i*1:=ON h;omega
   have hL:(pre++E.map cB++bT).length=o+l.length+bT.length:=by rw[List.length_append,List.length_append,fb,mQ]
   obtain⟨rT,OV,adJ⟩:∃rT,(pre++E.map cB++bT).take o1++(List.replicate (((l.length:Int).toNat-(i:Int).toNat)) [Value.pointer none]).flatten++(pre++E.map cB++bT).drop (o1+((l.length:Int).toNat-(i:Int).toNat)*1)=pre++(E.take i).map cB++rT∧c*1≤i*1+rT.length:=by
    have XT:i≠c:=by omega
    rw[OM XT,← mQ,List.append_assoc pre,List.take_length_add_append,List.take_append_of_le_length (by rw[fb];omega),List.map_take]
    refine⟨_,by rw[List.append_assoc],?_⟩
    rw[List.length_append,List.length_drop,mo]
    simp only[List.length_append,List.length_cons,List.length_nil,fb,Int.toNat_natCast]
    have:=jz
    rw[List.length_map]at this
    omega
   refine JV (U:=aQ) (l':=pre++(E.take i).map cB++rT) 0 gB zr zr zr zr zr zr zr zr ?_ ?_ rfl ?_
   ·have XT:i≠c:=by omega
    show o1+((l.length:Int).toNat-(i:Int).toNat)*1≤_
    rw[OM XT,hL];omega
   ·rw[← OV];rfl
   refine go ?_
   refine lT zr zr zr zr zr zr zr ag ag (.inr ag) ?_
   intro o2 ho3 ho4
   have XE:o2=o:=by
    by_cases sO:(0:Int).toNat=c
    ·exact ho4 sO
    ·have:=ho3 sO;rw[this];simp
   subst XE
   refine go ?_
   refine ai (lZ (sz:=1) (nn:=i) (c:=c) mQ ag (by rw[List.length_map,List.length_take,Nat.min_eq_left ag];omega) (by rw[List.length_map,List.length_take];omega) _) ?_
   rw[← E5,E5,yK,← E5]at hE
   refine aL hE Tryz.func174 rfl _ zr zr (al.fin [0,1] 0 zr zr)
def DW(ts:List Tk)(d:Dg)(bx:Nat)(y:Tk)(hy:y∈ts):aE Tryz.prog 175 [ptr y.yb,ptr bx] [Sep [aW ts,ae bx (cl (dC d) 35)] ] (fun r H=>r = .bool (decide (y.x.d=d))∧H=[Sep [aW ts,ae bx (cl (dC d) 35)] ]):=by
 obtain⟨i,hi⟩:=List.mem_iff_getElem?.1 hy
 refine aE.ao Tryz.func175 Tryz.ntmps175 fun G F R hE=>?_
 refine ai (al.cD [_,_] _) ?_
 refine ai (kL hi _) ?_
 refine eG (gi y) ?_
 rintro z hz
 refine ai (H':=ae y.yb (cl (lr y) 93)::ae bx (cl (dC d) 35)::ae y.sb (cl [.int .i64 (y.n:Int),z.1] 117)::aB 118 1 z.1 y.ws.length (qV y.ws)::aP (Value.int .i64) y.mb z.2.1::aZ 35 z.2.2::aW (ts.take i++ts.drop (i+1))::F) ah (go ?_)
 refine aF (fun w=>Sat G w ([ae y.yb (cl (lr y) 93),ae bx (cl (dC d) 35)])) (cZ 0 8 .nil) rfl ak ak ak dT ?_
 refine go ?_
 refine cf (U:=aQ) 0 zr zr zr zr zr zr (go ?_)
 refine bQ (U:=aQ) (l:=dC d) 1 zr zr zr zr zr zr (go ?_)
 refine kT (b:=decide (y.x.d=d)) zr zr zr HF (fun w=>HO y.x.d d w) ?_
 refine go ?_
 refine ai (H':=mN y z++(aW (ts.take i++ts.drop (i+1))::ae bx (cl (dC d) 35)::F)) (by unfold mN;exact ah) ?_
 refine ai (iX hz _) ?_
 refine ai (lF hi _) ?_
 refine ai (al.bS [_,_] _) ?_
 refine ad hE Tryz.func175 zr zr ⟨rfl,rfl⟩
end Go.Proofs.YtedjnjkijiddlaaGreatDoor
namespace Go.Proofs.YtedjnjkijiddlaaGreatDoor
open Go Go.SL
def sw(q:Tk→Bool):∀(ts:List Tk) (H:List HP),al (aW ts::H) (aW (ts.filter q)::H)
 | [],H=>al.refl _
 | y::ts,H=>by
  have h1:al (aW (y::ts)::H) (oD y::aW ts::H):=BR [] ts y H
  by_cases hq:q y=true
  ·rw[List.filter_cons_of_pos hq]
   have h2:al (oD y::aW (ts.filter q)::H) (aW (y::ts.filter q)::H):=uR [] (ts.filter q) y H
   exact h1.trans ((al.cons _ (sw q ts H)).trans h2)
  ·rw[List.filter_cons_of_neg hq]
   exact h1.trans ((al.drop _ _).trans (sw q ts H))
def nJ(ts:List Tk)(d:Dg):List Tk:=ts.filter fun y => !decide (y.x.d=d)
attribute [local irreducible] J K aE Ends ae aB aP bP bq aS aZ bu bX aC
def yf(tb bs jb:Nat)(tv:Value)(br:Bool)(ts:List Tk)(d:Dg)(hl:ts.length≤1000000):aE Tryz.prog 112 [ptr tb,dV d] (eh tb bs jb tv ts br)
  (fun r H=>r = .tuple #[]∧∃rN,H=eh tb bs jb rN (nJ ts d) br):=by
 unfold eh dV
 refine aE.ao Tryz.func112 Tryz.ntmps112 fun G F R hE=>?_
 refine dz 1 rfl ?_
 rintro a c rfl
 refine aD rfl ?_
 refine bG zr zr bD ?_
 intro b3
 refine go ?_
 refine aI (H':=ae tb (cl [ptr bs,ptr jb,.slice a ts.length c,.bool br] 88)::aB 90 1 (.slice a ts.length c) ts.length (ts.map cB)::aW ts::ae b3 (cl (dC d) 35)::F) ah ?_
 refine aI (al.cons _ (al.cons _ (al.bS [_,_] _))) (go ?_)
 refine aH (Ar _ ts _ 175 [ptr b3] (fun y=>decide (y.x.d=d)) hl (fun y hy=>DW ts d b3 y hy)) ?_
 rintro r _ rfl
 refine aO 0 rfl ?_
 rintro a2 c2 rfl
 refine go ?_
 refine ai (H':=Sep [aW ts,ae b3 (cl (dC d) 35)]::ae tb (cl [ptr bs,ptr jb,.slice a2 (nJ ts d).length c2,.bool br] 88)::aB 90 1 (.slice a2 (nJ ts d).length c2) (nJ ts d).length ((nJ ts d).map cB)::F) ah ?_
 refine ai (al.cD [_,_] _) ?_
 refine ai (sw (fun y => !decide (y.x.d=d)) ts _) ?_
 refine ai (H':=ae tb (cl [ptr bs,ptr jb,.slice a2 (nJ ts d).length c2,.bool br] 88)::aB 90 1 (.slice a2 (nJ ts d).length c2) (nJ ts d).length ((nJ ts d).map cB)::aW (nJ ts d)::F) ah ?_
 refine bW hE Tryz.func112 rfl _ rfl ⟨rfl,_,rfl⟩ ah
end Go.Proofs.YtedjnjkijiddlaaGreatDoor
namespace Go.Proofs.YtedjnjkijiddlaaGreatDoor
open Go Go.SL
def cG(bs bd jb:Nat)(q:Int)(mb:Nat)(Xs:List HP)(x:SJ):HP:=Sep (cH bs bd q mb x.1++(rU jb bd db x.2::Xs))
def uP(l:List HP):al [Sep l] l:=by have:=al.cD l [];rwa[List.append_nil]at this
def u0(l:List HP):al l [Sep l]:=by have:=al.bS l [];rwa[List.append_nil]at this
def SQ(m:Nat)(i:Nat)(y:SJ):Prop:=0≤y.2.n∧(0≤y.2.s∧y.2.s≤1000000)∧y.1.A.aw.length≤m+10*i∧y.1.A.writes.length≤m+10*i
def SQ.append{m i:Nat}{x y:SJ}{b:List UInt8}{e:Nat}(h:SQ m i x)(hS:xY b x e y):SQ m (i+1) y:=by
 obtain⟨h1,h2⟩:=hS
 subst h2
 have hg:=uf x.1.A db x.2 b
 obtain⟨a1,⟨a2,a3⟩,a4,a5⟩:=h
 unfold SQ
 dsimp only
 refine⟨?_,?_,ag,ag⟩
 ·unfold cY
  split
  ·exact a1
  split
  ·exact a1
  split
  ·exact a1
  split
  ·exact a1
  ·exact a1
 ·unfold cY
  split
  ·exact⟨a2,a3⟩
  split
  ·exact⟨a2,a3⟩
  split
  ·exact⟨a2,a3⟩
  split
  ·dsimp only;omega
  ·exact⟨a2,a3⟩
attribute [local irreducible] J K aE Ends ae aB aP bP bq aS aZ bu bX aC
def u6(tb bs jb bd b2 b3:Nat)(tv:Value)(q:Int)(mb:Nat)(x:SJ)(Z:HP)(Ys:List HP)(a:Option Addr)(c:Nat)(b:List UInt8)(hb:eM Z (.slice a b.length c) b)(hl:b.length≤1000000)(hs:0≤x.2.s∧x.2.s≤1000000000)(fb:x.1.A.writes.length≤1000000000) :
  aE Tryz.prog 90 [ptr b2,ptr b3] [jq tb bs jb tv false,cG bs bd jb q mb (ae b2 (cl [ptr tb] 30)::ae b3 (cl [.slice a b.length c] 22)::Z::Ys) x]
  (fun r H=>∃(e:Nat) (x':SJ),r = .int .i64 (e:Int)∧H=[jq tb bs jb tv false,cG bs bd jb q mb (ae b2 (cl [ptr tb] 30)::ae b3 (cl [.slice a b.length c] 22)::Z::Ys) x']∧xY b x e x'):=by
 have c0:=aE.frame ([ae bs (cl (ei bd q mb x.1.brk) 123),aP dV mb (dD x.1.bt)]++Ys) (G4 tb bs jb bd b2 b3 tv x.1.A x.2 Z a c b hb ag hs fb)
 refine c0.conv ?_ ?_
 ·unfold cG cH
  exact(al.cons _ (uP _)).trans ah
 ·rintro v H⟨H',⟨rfl,rfl⟩,rfl⟩
  refine⟨[jq tb bs jb tv false,cG bs bd jb q mb _ (⟨(cY db x.1.A x.2 b).2.1,x.1.bt,x.1.brk⟩,(cY db x.1.A x.2 b).2.2)],⟨_,_,rfl,rfl,rfl,rfl⟩,?_⟩
  unfold cG cH
  exact al.trans ah (al.cons _ (u0 _))
def qx(tb bs jb bd:Nat)(tv:Value)(q:Int)(mb:Nat)(x:SJ)(Xs:List HP)(hn:0≤x.2.n)(hs:0≤x.2.s∧x.2.s≤1000000000)(cK:x.1.A.aw.length≤900000000)(qj:x.1.A.writes.length≤900000000) :
  aE Tryz.prog 92 [ptr jb] [jq tb bs jb tv false,cG bs bd jb q mb Xs x]
  (fun r H=>∃(e:Nat) (x':SJ),r = .int .i64 (e:Int)∧H=[jq tb bs jb tv false,cG bs bd jb q mb Xs x']∧DH x e x'):=by
 have c0:=aE.frame ([jq tb bs jb tv false,ae bs (cl (ei bd q mb x.1.brk) 123),aP dV mb (dD x.1.bt)]++Xs) (Iw jb bd db x.1.A x.2 hn hs cK qj)
 refine c0.conv ?_ ?_
 ·unfold cG cH
  exact(al.cons _ (uP _)).trans ah
 ·rintro v H⟨H',⟨e,A',x',rfl,rfl,hC⟩,rfl⟩
  refine⟨[jq tb bs jb tv false,cG bs bd jb q mb _ (⟨A',x.1.bt,x.1.brk⟩,x')],⟨e,_,rfl,rfl,A',x',hC,rfl⟩,?_⟩
  unfold cG cH
  exact al.trans ah (al.cons _ (u0 _))
def DP(tb bs jb bd b2 b3 row:Nat)(tv:Value)(q:Int)(mb:Nat)(x:SJ)(Z:HP)(Ys:List HP)(a:Option Addr)(c:Nat)(b:List UInt8)(hb:eM Z (.slice a b.length c) b)(hl:b.length≤1000000)(m:Nat)(hm:m≤800000000)(hx:SQ m 0 x) :
  aE Tryz.prog 38 [ptr tb,.slice (some ⟨row,0,none⟩) 2 2] [ae row (cl (iv b2 b3 jb) 96),jq tb bs jb tv false,cG bs bd jb q mb (ae b2 (cl [ptr tb] 30)::ae b3 (cl [.slice a b.length c] 22)::Z::Ys) x]
  (fun r H=>∃(e:Nat) (x':SJ),r = .int .i64 (e:Int)∧H=[ae row (cl (iv b2 b3 jb) 96),jq tb bs jb tv (gZ e),cG bs bd jb q mb (ae b2 (cl [ptr tb] 30)::ae b3 (cl [.slice a b.length c] 22)::Z::Ys) x']∧iZ (kW b) x e x'):=by
 refine qP (cG bs bd jb q mb (ae b2 (cl [ptr tb] 30)::ae b3 (cl [.slice a b.length c] 22)::Z::Ys)) tb bs jb tv _ _ (iv b2 b3 jb) (Vw.ae rfl) (by simp[iv]) (kW b) rfl (fun i y=>i≤1→SQ m i y) ?_ x (fun _=>hx)
 intro i fv s mS hs
 match i,mS,hs with
 | 0,mS,hs =>
  cases mS
  cases hs
  refine⟨_,_,_,rfl,fun y hy=>?_⟩
  have hq:=hy ag
  obtain⟨a1,⟨a2,a3⟩,a4,a5⟩:=hq
  refine aE.post (u6 tb bs jb bd b2 b3 tv q mb y Z Ys a c b hb hl ⟨a2,ag⟩ ag) ?_
  rintro v H⟨e,x',rfl,rfl,hS⟩
  exact⟨e,x',rfl,rfl,hS,fun _ _=>SQ.append ⟨a1,⟨a2,a3⟩,a4,a5⟩ hS⟩
 | 1,mS,hs =>
  cases mS
  cases hs
  refine⟨_,_,_,rfl,fun y hy=>?_⟩
  have hq:=hy ag
  obtain⟨a1,⟨a2,a3⟩,a4,a5⟩:=hq
  refine aE.post (qx tb bs jb bd tv q mb y _ a1 ⟨a2,ag⟩ ag ag) ?_
  rintro v H⟨e,x',rfl,rfl,hS⟩
  exact⟨e,x',rfl,rfl,hS,fun _ h=>absurd h ag⟩
 | n+2,mS,hs=>cases hs
end Go.Proofs.YtedjnjkijiddlaaGreatDoor
