import Derived.Test.YthnfckodljbgbaaGreatDoorQPL6
import Derived.Test.YthnfckodljbgbaaGreatDoorQPL7
import Derived.Test.YthnfckodljbgbaaGreatDoorQPL9
import Derived.Test.YthnfckodljbgbaaGreatDoorQPL11
import Derived.Test.YthnfckodljbgbaaGreatDoorQPL12
import Derived.Test.YthnfckodljbgbaaGreatDoorQPL13
import Derived.WideKeyRuns
set_option linter.unusedSimpArgs false
set_option linter.unusedVariables false
set_option maxHeartbeats 4000000
set_option maxRecDepth 20000
set_option linter.defProp false
namespace Go.Proofs.YthnfckodljbgbaaGreatDoor
open Go Go.SL
variable{A:Ab}{y:Bl}{br iZ:Bool}{nm:ByteArray}{q:Int}{L:List (List UInt8)}{cs:List TC}{ts ts':List Tk}{bs:List UInt8}{b e i k m n s:Nat}{P:Program}{t u x:SJ}
def sD(k:List UInt8)(d:Dg):dv k d≠bQ cZ:=fun h=>by
 have h1:=congrArg (fun s:ByteArray=>s.data.toList.length) h
 simp only[dv,cZ,strOf,bQ,List.length_append,kZ]at h1
 simp at h1
def DQ.fresh(h:DQ k A):vw A (bQ cZ)=none:=by
 cases hx:vw A (bQ cZ)with
 | none=>rfl
 | some c =>
  rcases h.kd _ c hx with⟨he,_⟩|⟨⟨d,he⟩,_⟩|⟨⟨d,he,_⟩,_⟩
  ·exact absurd he l8
  ·exact absurd he.symm (sD kS d)
  ·exact absurd he.symm (sD kB d)
theorem Dj(h:HA A){c:List UInt8}(hv:vw A nm=some c){a n:Int}(h1:0≤a)(h2:0≤n)(h3:a+n≤c.length):A.read nm a n=((c.drop a.toNat).take n.toNat,0):=by
 unfold vw at hv
 cases l9:A.look nm with
 | none=>rw[l9]at hv;cases hv
 | some f =>
  rw[l9]at hv
  simp only[Option.map_some,Option.some.injEq]at hv
  unfold Ab.read
  rw[if_neg (by rw[h.on];simp),l9]
  grind
theorem GL(h:HA A){C:List UInt8}(hv:vw A nm=some C):gQ A nm=cu (fu C):=by
 have hs:(A.size nm).1=C.length:=by
  unfold vw at hv
  cases l9:A.look nm with
  | none=>rw[l9]at hv;cases hv
  | some f =>
   rw[l9]at hv
   simp only[Option.map_some,Option.some.injEq]at hv
   unfold Ab.size
   grind
 unfold gQ
 rw[hs,Dj h hv ag ag ag]
 simp
structure GB(A:Ab)(c:TC):Prop where
 r:bI c.x=true
 s:c.x.size≤1000
 n:(c.n:Int)=cC c.x
 ok:km c
 has:(vw A (js c.x.d)).isSome=true∧vw A (og c.x.d)=none
 cov:∀i:Nat,cG c.ws c.n i=true→∃(b:List UInt8) (a n:Int) (p:List Dg),vw A (js c.x.d)=some b∧dI c.x i=some (a,n)∧a+n≤b.length∧c.pf i=some p∧dw c.x i ((b.drop a.toNat).take n.toNat) p=true
theorem GB.vw{B:Ab}{c:TC}(h:GB A c)(h1:∀b,Proofs.YthnfckodljbgbaaGreatDoor.vw A (js c.x.d)=some b→Proofs.YthnfckodljbgbaaGreatDoor.vw B (js c.x.d)=some b)(h2:Proofs.YthnfckodljbgbaaGreatDoor.vw B (og c.x.d)=Proofs.YthnfckodljbgbaaGreatDoor.vw A (og c.x.d)):GB B c:=by
 refine⟨h.r,h.s,h.n,h.ok,⟨?_,by rw[h2];exact h.has.2⟩,fun i hi=>?_⟩
 ·obtain⟨b,hb⟩:=Option.isSome_iff_exists.1 h.has.1
  grind
 ·obtain⟨b,a,n,p,c1,c2⟩:=h.cov i hi
  grind
theorem IN{x:Bl}{p:List Dg}(h:dw x i bs p=true)(hn:(n:Int)=cC x):p.length=dB n i:=by
 grind [dw,gS]
def pN(l:List TC):List (Dg × Bl):=l.map fun c=>(c.x.d,c.x)
theorem NM{l:List TC}{d:Dg}(h:∀c∈l,c.x.d≠d):gT (pN l) d=none:=by
 grind [gT,pN]
theorem CD:∀ {l:List TC} {c:TC},(l.map fun c=>c.x.d).Nodup→c∈l→gT (pN l) c.x.d=some c.x
 | [],c,_,h=>by cases h
 | y::l,c,hn,h=>by
  rw[List.map_cons,List.nodup_cons]at hn
  rcases List.mem_cons.1 h with rfl|h
  ·unfold gT pN
   simp
  ·have df:y.x.d≠c.x.d:=fun e=>hn.1 (List.mem_map.2 ⟨c,h,e.symm⟩)
   have ih:=CD hn.2 h
   grind [gT,pN]
def GB.S8{c:TC}(h:GB A c)(hi:cG c.ws c.n (i:Int)=true):∃p,c.pf i=some p∧p.length=dB c.n i∧p.length≤10:=by
 obtain⟨b,a,n,p,c1,c2,c3,c4,c5⟩:=h.cov i hi
 exact⟨p,c4,IN c5 h.n,tm c5⟩
theorem Fu{A:Ab}:∀(l NH Uz:List TC),yH NH Uz→(∀c∈l,GB A c)→((Uz++l).map fun c=>c.x.d).Nodup→yH ((l.flatMap jF).foldl cY NH) (Uz++l)
 | [],NH,Uz,h,_,_=>by simpa using h
 | c::l,NH,Uz,h,hg,hn=>by
  have hc:=hg c (List.mem_cons_self ..)
  have lh:∀y∈NH,y.x.d≠c.x.d:=fun y hy=>by
   obtain⟨i,hi⟩:=List.mem_iff_getElem?.1 hy
   obtain⟨z,hz,hyz⟩:=h.left hi
   rw[hyz.x]
   grind
  have h1:=hc.n
  have h2:=hc.ok
  obtain⟨c',e1,e2⟩:=Mk lh hc.r ag h2.2.1 (by have:=h2.1;omega) (fun i hi=>hc.S8 hi)
  rw[List.flatMap_cons,List.foldl_append,e1]
  have:=Fu l (NH++[c']) (Uz++[c]) (h.snoc e2) (fun y hy=>hg y (List.mem_cons_of_mem _ hy)) (by rw[List.append_assoc];exact hn)
  grind
theorem Ft{c:TC}(h:GB A c):∀b∈jF c,b.length≤900:=fun b hb=>by
 have hr:=dY h.r
 have hn:=h.ok.1
 unfold jF at hb
 rcases List.mem_cons.1 hb with rfl|hb
 ·grind [Ax]
 ·obtain⟨i,hi,rfl⟩:=List.mem_map.1 hb
  have h1:=List.mem_filter.1 hi
  have h2:=List.mem_range.1 h1.1
  obtain⟨p,e1,_,e3⟩:=h.S8 h1.2
  grind [zt]
def wC(cs:List TC):Nat:=(cs.map fun c=>1+(lW c).length).sum
theorem zm:∀l:List TC,(l.flatMap jF).length=wC l
 | []=>rfl
 | c::l=>by
  have ih:=zm l
  grind [wC,jF]
def yH.nodup{lA:List TC}(h:yH cs lA):cs.map (fun c=>c.x.d)=lA.map fun c=>c.x.d:=by
 refine List.ext_getElem? fun i=>?_
 rw[List.getElem?_map,List.getElem?_map]
 cases hx:cs[i]? with
 | none =>
  rw[List.getElem?_eq_none (by rw[← h.1];exact List.getElem?_eq_none_iff.1 hx)]
 | some c =>
  obtain⟨c',Bc,e⟩:=h.left hx
  rw[Bc,Option.map_some,Option.map_some,e.x]
def BE(ls:List (List UInt8)):(cm ls).length=32+(ls.flatMap aS).length:=by
 rw[Ih,MR]
theorem DQ.put{ls:List (List UInt8)}{C:List UInt8}{n s c:Int}{y:PS}(h:DQ k A)(hv:vw A cZ=some C)(hk:k≤180)(hl:(ls.flatMap aS).length≤95000)(hR:yf cZ ls (A,n,s,c) e y) :
  e=0∧DQ k y.1∧vw y.1=jf (vw A) cZ (some (cm ls))∧y.2=(1,((ls.flatMap aS).length:Int),((ls.flatMap aS).length:Int)):=by
 have eW:=BE ls
 have Gb:=h.used
 have TF:=h.room
 have oG:=h.nms
 obtain⟨rfl,r1,r2,r3,r4⟩:=B4 h.ha eM iS l8 h.fresh ag ag ag hR
 have hn:y.1.names.length=A.names.length:=h.ha.uE r1 (fun m=>by
  rw[r2]
  unfold jf
  split
  ·rename_i hm;rw[hm,hv];rfl
  ·rfl)
 refine⟨rfl,h.next r1 (IK h.cz h.fresh r1 ag hR) r3 ag (fun m c' Bc=>?_),r2,r4⟩
 rw[r2]at Bc
 grind [cZ,fG,gn]
structure CrD(k:List Dg)(A B:Ab):Prop where
 dq:DQ (2+2*k.length) B
 kd:∀n c,vw B n=some c→kA k n
 tS:∀nm P,nt A nm P→∃w,vw B nm=some w∧P w
 Dw:∀nm,CR A nm→vw B nm=none
def nk.dZ{k:List Dg}(h:nk k A)(last:Int)(stay:List UInt8)(cq cut:Int):CrD k A (A.dZ last stay cq cut):=by
 have hlen:0<A.aj.length:=List.length_pos_of_mem h.mem
 have oG:(A.dZ last stay cq cut).names∈A.aj:=by
  have hi:(max 0 (min last ((A.aj.length:Int)-1))).toNat<A.aj.length:=by omega
  show A.aj.getD (max 0 (min last ((A.aj.length:Int)-1))).toNat []∈A.aj
  rw[List.getD_eq_getElem?_getD,List.getElem?_eq_getElem hi,Option.getD_some]
  exact List.getElem_mem hi
 have iJ:=h.nm _ oG
 have ji:(A.dZ last stay cq cut).fs.map (·.1)=A.fs.map (·.1):=by
  simp only[Ab.dZ]
  rw[uH _ _ (fun x=>by split <;> rfl),uF]
 have qe:∀st∈A.aj++[(A.dZ last stay cq cut).names],∀nm f,Ab.bC st nm=some f→f∈Ab.reach (A.aj++[(A.dZ last stay cq cut).names]):=fun st bP nm f hf=>by
  unfold Ab.reach
  rw[List.mem_flatMap]
  exact⟨st,bP,List.mem_map.2 ⟨_,mq hf,rfl⟩⟩
 have oI:∀nm f,Ab.bC (A.dZ last stay cq cut).names nm=some f→∃c,Oc A f c∧(A.dZ last stay cq cut).file f=(c,c):=fun nm f hf =>
  GV last stay cq cut (iJ.look hf).1 (qe _ (by simp) nm f hf)
 have hHA:HA (A.dZ last stay cq cut):=⟨rfl,rfl,iJ.keys,iJ.own,by rw[ji];exact h.ids,fun x hx=>by rw[ji];exact iJ.known x hx⟩
 have ZD:=F5 iJ.keys iJ.kinds
 have Vf:∀nm c,vw (A.dZ last stay cq cut) nm=some c→∃f,Ab.bC (A.dZ last stay cq cut).names nm=some f∧Oc A f c:=fun nm c hc=>by
  have Bc:(Ab.bC (A.dZ last stay cq cut).names nm).map (A.dZ last stay cq cut).now=some c:=hc
  cases hl:Ab.bC (A.dZ last stay cq cut).names nm with
  | none=>rw[hl]at Bc;cases Bc
  | some f =>
   rw[hl]at Bc
   obtain⟨c',h1,h2⟩:=oI nm f hl
   have h3:(A.dZ last stay cq cut).now f=c:=Option.some.inj Bc
   unfold Ab.now at h3
   rw[h2]at h3
   exact⟨f,rfl,h3 ▸ h1⟩
 refine⟨⟨hHA,Cd.one hHA rfl (fun w hw=>by cases hw) (fun f hf _=>?_) ag,h.room,ag,fun n c hc=>?_⟩,fun n c hc=>?_,fun nm P ha=>?_,fun nm ha=>?_⟩
 ·rw[ji]at hf
  by_cases hr:f∈Ab.reach (A.aj++[(A.dZ last stay cq cut).names])
  ·obtain⟨c,_,h2⟩:=GV last stay cq cut hf hr
   rw[h2]
  ·have ki:=h.cl f hf fun st bP nm hl=>hr (qe st (List.mem_append.2 (.inl bP)) nm f hl)
   have hl:=tu stay cq cut f A.writes 0 A.fs ki.2
   have he:(A.dZ last stay cq cut).file f=A.file f:=by
    obtain⟨x,hx,hxf⟩:=uW hf
    have hA:A.file f=x.2:=by unfold Ab.file;rw[hx];rfl
    rw[hA]
    simp only[Ab.dZ]at hr ⊢
    unfold Ab.file
    simp only
    rw[jL _ (fun x=>by split <;> rfl),hl,hx]
    simp_all
   rw[he]
   exact ki.1
 ·obtain⟨f,h1,h2⟩:=Vf n c hc
  obtain⟨g1,g2⟩:=h.oK _ oG n f h1 c h2
  rcases(iJ.look h1).2 with h3|⟨d,_,h3⟩|⟨d,_,h3⟩
  ·rw[if_pos h3]at g2
   exact .inl ⟨h3,ag⟩
  ·rw[if_neg (by rw[h3];exact jq d)]at g2
   exact .inr (.inl ⟨⟨d,h3⟩,g2⟩)
  ·rw[if_neg (by rw[h3];exact nM d)]at g2
   exact .inr (.inr ⟨⟨d,h3,g1 d h3⟩,g2⟩)
 ·obtain⟨f,h1,_⟩:=Vf n c hc
  exact(iJ.look h1).2
 ·obtain⟨f,h1,h2⟩:=ha
  obtain⟨c,h3,h4⟩:=oI nm f (h1 _ oG)
  refine⟨c,?_,h2 c h3⟩
  show(Ab.bC (A.dZ last stay cq cut).names nm).map (A.dZ last stay cq cut).now=some c
  rw[h1 _ oG,Option.map_some]
  unfold Ab.now
  rw[h4]
 ·show(Ab.bC (A.dZ last stay cq cut).names nm).map (A.dZ last stay cq cut).now=none
  rw[ha _ oG];rfl
def NZ(s:fg)(c:TC)(i:Nat):Prop:=(cB s c.x i).2=0∧dw c.x i (cB s c.x i).1 ((c.pf i).getD [])=true
theorem Jv{ws:List jB}(hw:n≤ws.length*64)(hi:i<n)(j:Int):cG (ku ws i false) n j=if j=(i:Int)then false else cG ws n j:=by
 by_cases qe:0≤j∧j<(n:Int)
 ·obtain⟨j',rfl⟩:∃j':Nat,j=j':=⟨j.toNat,ag⟩
  grind [Gy]
 grind [lM]
structure adO(s:fg)(c:TC)(k:Nat)(z:TC × List (List UInt8)):Prop where
 x:z.1.x=c.x
 n:z.1.n=c.n
 ok:km z.1
 b:∀i:Nat,cG z.1.ws z.1.n (i:Int)=true→cG c.ws c.n (i:Int)=true∧z.1.pf i=c.pf i∧(i<k→NZ s c i)
 v:∀i:Nat,cG c.ws c.n (i:Int)=true→(k≤i∨NZ s c i)→cG z.1.ws z.1.n (i:Int)=true
 r:z.2=cD c.x::((List.range k).filter fun i:Nat=>cG z.1.ws z.1.n (i:Int)).map fun i:Nat=>bS c.x.d i ((c.pf i).getD [])
def Gi{s:fg}{c:TC}(hc:km c):∀k,k≤c.n→adO s c k (gP s c k)
 | 0,_=>⟨rfl,rfl,hc,fun i hi=>⟨hi,rfl,fun h=>absurd h (Nat.not_lt_zero i)⟩,fun i hi _=>hi,rfl⟩
 | k+1,hk=>by
  have ih:=Gi (s:=s) hc k ag
  rw[mS]
  obtain⟨z,hz⟩:∃z,z=gP s c k:=⟨_,rfl⟩
  rw[← hz]at ih ⊢
  unfold nF
  by_cases hb:cG z.1.ws z.1.n (k:Int)=true
  ·obtain⟨b1,b2,b3⟩:=ih.b k hb
   rw[if_pos hb,ih.x,b2]
   by_cases hv:NZ s c k
   ·rw[if_neg (by obtain⟨v1,v2⟩:=hv;rw[v1,v2];simp)]
    refine⟨ih.x,ih.n,ih.ok,fun i hi=>⟨(ih.b i hi).1,(ih.b i hi).2.1,fun h=>?_⟩,fun i hi h=>ih.v i hi (h.imp ag id),?_⟩
    ·by_cases Nh:i=k
     ·rw[Nh];exact hv
     ·exact(ih.b i hi).2.2 ag
    ·show z.2++[_]=_
     rw[ih.r,List.range_succ,List.filter_append,List.map_append,List.filter_cons_of_pos (by simpa using hb)]
     rfl
   ·rw[if_pos (by
     unfold NZ at hv
     by_cases h0:(cB s c.x (k:Int)).2=0
     ·right
      cases hp:dw c.x (k:Int) (cB s c.x (k:Int)).1 ((c.pf (k:Int)).getD [])
      ·rfl
      ·exact absurd ⟨h0,hp⟩ hv
     ·exact .inl h0)]
    have hd:∀j:Int,cG (z.1.drop k).ws (z.1.drop k).n j=if j=(k:Int)then false else cG z.1.ws z.1.n j:=fun j=>Jv ih.ok.2.1 (by rw[ih.n];omega) j
    refine⟨ih.x,ih.n,ih.ok.drop k,fun i hi=>?_,fun i hi h=>?_,?_⟩
    ·rw[hd]at hi
     by_cases Nh:(i:Int)=k
     ·rw[if_pos Nh]at hi;cases hi
     ·rw[if_neg Nh]at hi
      exact⟨(ih.b i hi).1,(if_neg Nh).trans (ih.b i hi).2.1,fun h=>(ih.b i hi).2.2 ag⟩
    ·rw[hd]
     by_cases Nh:(i:Int)=k
     ·obtain rfl:i=k:=by omega
      rcases h with h|h
      ·omega
      ·exact absurd h hv
     ·rw[if_neg Nh]
      exact ih.v i hi (h.imp ag id)
    ·show z.2=_
     rw[ih.r,List.range_succ,List.filter_append,List.map_append,List.filter_cons_of_neg (by rw[hd,if_pos rfl];simp)]
     rw[List.filter_nil,List.map_nil,List.append_nil]
     congr 2
     refine List.filter_congr fun i hi=>?_
     have:=List.mem_range.1 hi
     rw[hd,if_neg ag]
  ·rw[if_neg hb]
   refine⟨ih.x,ih.n,ih.ok,fun i hi=>⟨(ih.b i hi).1,(ih.b i hi).2.1,fun h=>?_⟩,fun i hi h=>ih.v i hi (h.imp ag id),?_⟩
   ·by_cases Nh:i=k
    ·rw[Nh]at hi;exact absurd hi hb
    ·exact(ih.b i hi).2.2 ag
   ·rw[ih.r,List.range_succ,List.filter_append,List.map_append,List.filter_cons_of_neg (by simpa using hb)]
    rw[List.filter_nil,List.map_nil,List.append_nil]
theorem Ua{ws:List jB}(h:cG ws n (i:Int)=true):i<n:=by
 by_cases hi:i<n
 ·exact hi
 ·grind [lM]
def QT{s:fg}{c:TC}(hc:km c):∃c',kW s c=(c',jF c')∧c'.x=c.x∧c'.n=c.n∧km c'∧(lW c').length≤(lW c).length∧(∀i:Nat,cG c'.ws c'.n (i:Int)=true→cG c.ws c.n (i:Int)=true∧c'.pf i=c.pf i∧NZ s c i)∧∀i:Nat,cG c.ws c.n (i:Int)=true→NZ s c i→cG c'.ws c'.n (i:Int)=true∧c'.pf i=c.pf i:=by
 have h:=Gi (s:=s) hc c.n (Nat.le_refl _)
 refine⟨(gP s c c.n).1,?_,h.x,h.n,h.ok,?_,fun i hi=>⟨(h.b i hi).1,(h.b i hi).2.1,(h.b i hi).2.2 (Ua (h.b i hi).1)⟩,fun i hi hv=>⟨h.v i hi (.inr hv),(h.b i (h.v i hi (.inr hv))).2.1⟩⟩
 ·unfold kW
  refine Prod.ext rfl ?_
  rw[h.r]
  unfold jF lW
  rw[h.x,h.n]
  congr 1
  refine List.map_congr_left fun i hi=>?_
  have:=(List.mem_filter.1 hi).2
  rw[(h.b i (by rw[h.n];exact this)).2.1]
 ·unfold lW
  rw[h.n]
  have hs:((List.range c.n).filter fun i:Nat=>cG (gP s c c.n).1.ws c.n (i:Int))=(((List.range c.n).filter fun i:Nat=>cG c.ws c.n (i:Int)).filter fun i:Nat=>cG (gP s c c.n).1.ws c.n (i:Int)):=by
   rw[List.filter_filter]
   refine List.filter_congr fun i _=>?_
   cases hx:cG (gP s c c.n).1.ws c.n (i:Int)
   ·rfl
   ·rw[(h.b i (by rw[h.n];exact hx)).1];rfl
  rw[hs]
  exact List.length_filter_le _ _
def Zb{K:List Dg}(h:HA A)(hk:∀n c,vw A n=some c→kA K n):A.names.length≤1+2*K.length:=F5 h.keys fun x hx=>hk x.1 (A.now x.2) (by
 have h1:A.look x.1=some x.2:=eA h.keys hx
 unfold vw
 rw[h1];rfl)
def OB(A:Ab)(c:TC)(i:Nat):Prop:=∃(b:List UInt8) (a n:Int) (p:List Dg),vw A (js c.x.d)=some b∧dI c.x i=some (a,n)∧a+n≤b.length∧c.pf i=some p∧dw c.x i ((b.drop a.toNat).take n.toNat) p=true
def OB.uG{B:Ab}{c:TC}(h:OB A c i)(hk:∀n w,vw A n=some w→vw B n=some w):OB B c i:=by
 obtain⟨b,a,n,p,h1,h2⟩:=h
 exact⟨b,a,n,p,hk _ _ h1,h2⟩
def NZ.of{l:List (Dg × Bl)}{c:TC}(h:HA A)(ho:gT l c.x.d=some c.x)(hc:OB A c i):NZ ⟨A,l,false⟩ c i:=by
 obtain⟨b,a,n,p,h1,h2,h3,h4,h5⟩:=hc
 obtain⟨f0,f1,_⟩:=jO h2
 have bP:cB ⟨A,l,false⟩ c.x (i:Int)=((b.drop a.toNat).take n.toNat,0):=by
  unfold cB
  rw[if_pos (by unfold pX;rw[ho];simp),h2]
  exact Dj h h1 ag ag ag
 unfold NZ
 rw[bP,h4]
 exact⟨rfl,h5⟩
def NZ.cov{l:List (Dg × Bl)}{c:TC}{p:List Dg}(h:HA A)(ho:gT l c.x.d=some c.x)(hp:c.pf i=some p)(hv:NZ ⟨A,l,false⟩ c i):OB A c i:=by
 obtain⟨h1,h2⟩:=hv
 unfold cB at h1 h2
 rw[if_pos (by unfold pX;rw[ho];simp)]at h1 h2
 cases hs:dI c.x (i:Int)with
 | none=>rw[hs]at h1;cases h1
 | some x =>
  obtain⟨a,n⟩:=x
  rw[hs]at h1 h2
  obtain⟨f0,f1,_⟩:=jO hs
  simp only at h1 h2
  have hl:∃b,vw A (js c.x.d)=some b:=by
   cases hx:A.look (js c.x.d)with
   | some f=>exact⟨A.now f,by unfold vw;rw[hx];rfl⟩
   | none =>
    unfold Ab.read at h1
    rw[if_neg (by rw[h.on];simp),show A.look (dv kS c.x.d)=none from hx]at h1
    cases h1
  obtain⟨b,hb⟩:=hl
  by_cases hle:a+n≤b.length
  ·have hr:=Dj h (a:=a) (n:=n) hb ag ag hle
   rw[show A.read (dv kS c.x.d) a n=A.read (js c.x.d) a n from rfl,hr,hp]at h2
   exact⟨b,a,n,p,hb,hs,hle,hp,h2⟩
  ·exfalso
   unfold vw at hb
   cases hx:A.look (js c.x.d)with
   | none=>rw[hx]at hb;cases hb
   | some f =>
    rw[hx,Option.map_some]at hb
    injection hb with hb
    unfold Ab.read at h1
    rw[if_neg (by rw[h.on];simp),show A.look (dv kS c.x.d)=some f from hx]at h1
    simp only at h1
    rw[if_pos (by rw[hb];omega)]at h1
    cases h1
structure afA(K:List Dg)(s t:fg)(l done new lA:List TC)(rs zg:List (List UInt8)):Prop where
 cs:lA=done++new
 rs:zg=rs++new.flatMap jF
 brk:t.brk=false
 bz:t.bz=pN (done++new)
 dq:DQ (2+2*K.length) t.A
 kd:∀n c,vw t.A n=some c→kA K n
 uG:∀n c,vw s.A n=some c→vw t.A n=some c
 b:∀n,(∀d,n≠js d)→vw t.A n=vw s.A n
 gb:∀c∈new,GB t.A c
 sub:(new.map fun c=>c.x.d).Sublist (l.map fun c=>c.x.d)
 w:wC new≤wC l
 le:∀c∈l,vw s.A (og c.x.d)=none→∃c'∈new,c'.x=c.x∧c'.n=c.n∧∀i:Nat,cG c.ws c.n (i:Int)=true→OB s.A c i→cG c'.ws c'.n (i:Int)=true∧c'.pf i=c.pf i
def o7(c:TC)(l:List TC):wC (c::l)=1+(lW c).length+wC l:=by unfold wC;rw[List.map_cons,List.sum_cons]
theorem wZ{K:List Dg}{q:Int}(hK:2+2*K.length≤190):∀(l done:List TC) (s:fg) (rs:List (List UInt8)) (e:Nat) (t:fg) (lA:List TC) (zg:List (List UInt8)),DQ (2+2*K.length) s.A→(∀n c,vw s.A n=some c→kA K n)→s.brk=false→s.bz=pN done →
    (∀c∈l,Sj c∧c.x.d∈K)→(∀c∈done,c.x.size≤1000)→((done++l).map fun c=>c.x.d).Nodup→1000*((2+2*K.length:Nat):Int)+1000*((done.length+l.length:Nat):Int)≤q→sI q l s done rs e t lA zg→e=0∧∃new,afA K s t l done new lA rs zg
  | [],done,s,rs,e,t,lA,zg,hD,K7,hb,hs,_,_,_,_,h=>by
    obtain⟨rfl,rfl,rfl,rfl⟩:=h
    exact⟨rfl,[],⟨by simp,by simp,hb,by rw[hs,List.append_nil],hD,K7,fun _ _ h=>h,fun _ _=>rfl,(fun c h=>by cases h),(by exact List.Sublist.refl _),Nat.le_refl _,fun c h=>by cases h⟩⟩
  | c::l,done,s,rs,e,t,lA,zg,hD,K7,VH,pI,hE,uP,hn,hq,h=>by
    obtain⟨e1,s1,hb,kC⟩:=h
    obtain⟨mf,hcK⟩:=hE c (List.mem_cons_self ..)
    have iY:=mf.s
    have lh:∀y∈done,y.x.d≠c.x.d:=fun y hy=>by
      grind
    have Js:gT s.bz c.x.d=none:=by rw[pI];exact NM lh
    have Gb:mG s≤1000*((2+2*K.length:Nat):Int)+1000*(done.length:Int):=by
      have h1:=hD.tW
      have h2:=RE (l:=pN done) (fun z hz=>by
        obtain⟨y,hy,rfl⟩:=List.mem_map.1 hz
        exact uP y hy)
      have h3:(pN done).length=done.length:=by unfold pN;rw[List.length_map]
      unfold mG
      rw[pI]
      rw[h3]at h2
      omega
    rw[List.length_cons]at hq
    cases hB:vw s.A (og c.x.d)with
    | some w =>
      unfold eh at hb
      rw[if_neg (by rw[VH];simp),if_neg (by rw[mf.r];simp),if_pos (.inr (by rw[rJ,show vw s.A (fB c.x)=some w from hB];rfl))]at hb
      obtain⟨rfl,rfl⟩:=hb
      rw[if_pos (.inl rfl)]at kC
      obtain⟨r0,new,r⟩:=wZ hK l done s1 rs e t lA zg hD K7 VH pI (fun y hy=>hE y (List.mem_cons_of_mem _ hy)) uP (by
        rw[List.map_append,List.map_cons]at hn
        rw[List.map_append]
        exact((List.sublist_cons_self ..).append_left _).nodup hn) ag kC
      refine⟨r0,new,⟨r.cs,r.rs,r.brk,r.bz,r.dq,r.kd,r.uG,r.b,r.gb,by rw[List.map_cons];exact r.sub.cons _,by rw[o7];have:=r.w;omega,fun y hy hyB=>?_⟩⟩
      rcases List.mem_cons.1 hy with rfl|hy
      · rw[hB]at hyB;cases hyB
      · exact r.le y hy hyB
    | none =>
      have ZD:=Zb hD.ha K7
      have key:e1=0∧s1.brk=false∧s1.bz=pN done++[(c.x.d,c.x)]∧DQ (2+2*K.length) s1.A∧(∀n w,vw s1.A n=some w→kA K n)∧(∀n w,vw s.A n=some w→vw s1.A n=some w)∧(∀n,(∀d,n≠js d)→vw s1.A n=vw s.A n)∧(vw s1.A (js c.x.d)).isSome=true:=by
        cases hS:vw s.A (js c.x.d)with
        | some w =>
          unfold eh at hb
          rw[if_neg (by rw[VH];simp),if_neg (by rw[mf.r];simp),if_neg (by rw[Js,rJ,show vw s.A (fB c.x)=none from hB];simp),if_neg ag,if_pos (by rw[rJ,show vw s.A (fS c.x)=some w from hS];rfl)]at hb
          obtain⟨rfl,rfl⟩:=hb
          exact⟨rfl,VH,by rw[pI],hD,K7,fun _ _ h=>h,fun _ _=>rfl,by rw[hS];rfl⟩
        | none =>
          have hcz:=Cz.begin hD.cz hD.ha VH ag ag hb
          obtain⟨q1,q2,q3,q4,q5,q6,q7⟩:=HT hD.ha VH mf.r Js hB ag hS ag hb
          have q5':∀n,vw s1.A n=if n=js c.x.d then some []else vw s.A n:=q5
          refine⟨q1,q3,by rw[q4,pI],hD.next q2 hcz q7 ag (fun n w hw=>?_),fun n w hw=>?_,fun n w hw=>?_,fun n hnn=>by rw[q5',if_neg (hnn _)],by rw[q5',if_pos rfl];rfl⟩
          · rw[q5']at hw
            split at hw
            · rename_i hx
              injection hw with hw
              exact .inr (.inr (.inl ⟨⟨_,hx⟩,by rw[← hw];simp⟩))
            · exact .inl hw
          · rw[q5']at hw
            split at hw
            · rename_i hx
              exact .inr (.inl ⟨_,hcK,hx⟩)
            · exact K7 n w hw
          · rw[q5',if_neg (fun hx=>by rw[hx,hS]at hw;cases hw)]
            exact hw
      obtain⟨rfl,k1,k2,k3,k4,k5,k6,k7⟩:=key
      obtain⟨A1,bg1,bk1⟩:=s1
      simp only at k1 k2 k3 k4 k5 k6 k7
      subst k1
      have pZ:gT bg1 c.x.d=some c.x:=by
        rw[k2,G8 _ _ _ (by rw[← pI];exact Js),if_pos rfl]
      rw[if_neg ag,if_neg ag]at kC
      obtain⟨c',c1,c2,c3,c4,c5,c6,c7⟩:=QT (s:=⟨A1,bg1,false⟩) mf.ok
      rw[c1]at kC
      have hgb:GB A1 c':=⟨by rw[c2];exact mf.r,by rw[c2];exact mf.s,by rw[c3,c2];exact mf.n,c4,by rw[c2];exact⟨k7,by rw[k6 _ fun d e=>dQ _ _ e.symm];exact hB⟩,fun i hi=>by
        obtain⟨h1,h2,h3⟩:=c6 i hi
        obtain⟨p,hp⟩:=mf.pf i h1
        have:=NZ.cov k3.ha pZ hp h3
        obtain⟨b,a,n,p',g1,g2,g3,g4,g5⟩:=this
        rw[c2]
        exact⟨b,a,n,p',g1,g2,g3,h2.trans g4,g5⟩⟩
      have adh:bg1=pN (done++[c']):=by
        rw[k2]
        unfold pN
        rw[List.map_append,List.map_cons,List.map_nil,c2]
      have Gk:(done++[c']).map (fun c=>c.x.d)=done.map (fun c=>c.x.d)++[c.x.d]:=by rw[List.map_append,List.map_cons,List.map_nil,c2]
      obtain⟨r0,new,r⟩:=wZ hK l (done++[c']) ⟨A1,bg1,false⟩ _ e t lA zg k3 k4 rfl adh (fun y hy=>hE y (List.mem_cons_of_mem _ hy)) (fun y hy=>by
        rcases List.mem_append.1 hy with hy|hy
        · exact uP y hy
        · rw[List.mem_singleton.1 hy,c2];exact iY) (by
        rw[List.map_append,Gk,List.append_assoc]
        rw[List.map_append,List.map_cons]at hn
        exact hn) (by rw[List.length_append,List.length_singleton];omega) kC
      refine⟨r0,c'::new,⟨by rw[r.cs,List.append_assoc];rfl,by rw[r.rs,List.flatMap_cons,List.append_assoc],r.brk,by rw[r.bz,List.append_assoc];rfl,r.dq,r.kd,fun n w hw=>r.uG n w (k5 n w hw),fun n hnn=>(r.b n hnn).trans (k6 n hnn),fun y hy=>?_,?_,?_,fun y hy hyB=>?_⟩⟩
      · rcases List.mem_cons.1 hy with rfl|hy
        · exact hgb.vw (fun b hb=>r.uG _ _ hb) (r.b _ fun d e=>dQ _ _ e.symm)
        · exact r.gb y hy
      · rw[List.map_cons,List.map_cons,c2]
        exact r.sub.cons_cons _
      · rw[o7,o7]
        have:=r.w
        omega
      · rcases List.mem_cons.1 hy with rfl|hy
        · exact⟨c',List.mem_cons_self ..,c2,c3,fun i hi hc=>c7 i hi (NZ.of k3.ha pZ (hc.uG k5))⟩
        · obtain⟨y',h1,h2,h3,h4⟩:=r.le y hy (by
            rw[show vw (⟨A1,bg1,false⟩:fg).A (og y.x.d)=vw s.A (og y.x.d)from k6 _ fun d e=>dQ _ _ e.symm]
            exact hyB)
          exact⟨y',List.mem_cons_of_mem _ h1,h2,h3,fun i hi hc=>h4 i hi (hc.uG k5)⟩
def FJ{i:Nat}{p:List Dg}{d:Dg}:∀ {cs:List TC},(∀c∈cs,JZ c)→(cs.map fun c=>c.x.d).Nodup→wC (cs.map fun y=>if y.x.d=d∧i<y.n∧p.length=dB y.n i then y.put i p else y)≤wC cs+1
 | [],_,_=>Nat.zero_le _
 | c::cs,h,hn=>by
  rw[List.map_cons,o7,o7]
  rw[List.map_cons,List.nodup_cons]at hn
  by_cases hc:c.x.d=d∧i<c.n∧p.length=dB c.n i
  ·rw[if_pos hc]
   have h1:=Td (h c (List.mem_cons_self ..)).1.2.1 hc.2.1 p
   have h2:(cs.map fun y=>if y.x.d=d∧i<y.n∧p.length=dB y.n i then y.put i p else y)=cs:=by
    refine(List.map_congr_left fun y hy=>if_neg fun hx=>hn.1 ?_).trans (List.map_id' cs)
    rw[hc.1,← hx.1]
    exact List.mem_map.2 ⟨y,hy,rfl⟩
   rw[h2]
   omega
  ·rw[if_neg hc]
   have:=FJ (i:=i) (p:=p) (d:=d) (fun y hy=>h y (List.mem_cons_of_mem _ hy)) hn.2
   omega
def P7{p:List Dg}{d:Dg}(cs:List TC):(cs.map fun y=>if y.x.d=d∧i<y.n∧p.length=dB y.n i then y.put i p else y).map (fun c=>c.x.d)=cs.map fun c=>c.x.d:=by
 rw[List.map_map]
 refine List.map_congr_left fun y _=>?_
 simp only[Function.comp]
 split <;> rfl
def U3(d:Dg):∀cs:List TC,wC (v7 cs d)≤wC cs
 | []=>Nat.le_refl _
 | c::cs=>by
  have ih:=U3 d cs
  unfold v7 at ih ⊢
  rw[List.filter_cons,o7]
  split
  ·rw[o7];omega
  ·omega
def SM(cs:List TC)(c:TC):wC (cs++[c])=wC cs+(1+(lW c).length):=by unfold wC;simp
def BX(h:(cs.map fun c=>c.x.d).Nodup)(d:Dg):((v7 cs d).map fun c=>c.x.d).Nodup:=(List.filter_sublist.map _).nodup h
def Rk(x:Bl):(lW (cN x)).length=0:=by
 rw[Mw (c:=cN x) fun i=>show cG (cN x).ws (cN x).n i=false from uS _ _ _];rfl
def SS{cs:List TC}(h:∀c∈cs,JZ c)(hn:(cs.map fun c=>c.x.d).Nodup)(b:List UInt8):wC (cY cs b)≤wC cs+1∧((cY cs b).map fun c=>c.x.d).Nodup:=by
 have hp:∀d m l,wC (lV cs d m l)≤wC cs+1∧((lV cs d m l).map fun c=>c.x.d).Nodup:=fun d m l=>by
  unfold lV
  split
  ·exact⟨FJ h hn,by rw[P7];exact hn⟩
  ·exact⟨Nat.le_succ _,hn⟩
 unfold cY
 split
 ·exact⟨Nat.le_succ _,hn⟩
 ·rename_i k d more _
  have hr:=U3 d cs
  split
  ·exact⟨ag,BX hn d⟩
  ·split
   ·split
    ·split
     ·split
      ·refine⟨by rw[SM,Rk];omega,?_⟩
       rw[List.map_append,List.nodup_append]
       refine⟨BX hn d,by simp,fun a ha a' ha'=>?_⟩
       obtain⟨y,hy,rfl⟩:=List.mem_map.1 ha
       simp only[List.map_cons,List.map_nil,List.mem_singleton]at ha'
       rw[ha']
       have:=(List.mem_filter.1 hy).2
       simp only[Bool.not_eq_true',decide_eq_false_iff_not]at this
       exact this
      ·exact⟨Nat.le_succ _,hn⟩
     ·exact⟨Nat.le_succ _,hn⟩
    ·split
     ·exact hp _ _ _
     ·exact⟨Nat.le_succ _,hn⟩
   ·split
    ·exact hp _ _ _
    ·exact⟨Nat.le_succ _,hn⟩
   ·exact⟨Nat.le_succ _,hn⟩
def Pd:∀(L:List (List UInt8)) (cs:List TC),(∀c∈cs,JZ c)→(cs.map fun c=>c.x.d).Nodup→wC (L.foldl cY cs)≤wC cs+L.length
 | [],cs,_,_=>Nat.le_refl _
 | b::L,cs,h,hn=>by
  obtain⟨h1,h2⟩:=SS h hn b
  have:=Pd L (cY cs b) (EU h b).1 h2
  rw[List.foldl_cons,List.length_cons]
  omega
theorem KF{ls:List (List UInt8)}{n s c:Int}{y:PS}(I8:vw A (bQ nm)=none)(hR:yf nm ls (A,n,s,c) 0 y):y.1.aj=[y.1.names]:=by
 unfold yf gO at hR
 simp only[BT I8]at hR
 rw[if_neg ag,List.nil_append]at hR
 obtain⟨e1,x1,_,⟨hx,hy,_⟩|⟨rfl,e2,x2,_,c2⟩⟩:=hR
 ·grind
 rcases c2 with⟨hx,hy,_⟩|⟨rfl,e3,x3,_,c3⟩
 ·grind
 rcases c3 with⟨hx,hy,_⟩|⟨rfl,e4,x4,_,c4⟩
 ·grind
 rcases c4 with⟨hx,hy,_⟩|⟨rfl,e5,x5,⟨⟨Ui,Uh⟩,h5c⟩,c5⟩
 ·grind
 rcases c5 with⟨hx,hy,_⟩|⟨rfl,e6,x6,⟨h6a,Ug⟩,c6⟩
 ·grind
 rcases c6 with⟨hx,hy,_⟩|⟨_,_,hy⟩
 ·grind
 have hy1:y.1=x5.1:=by rw[hy,Ug]
 rw[hy1]
 have hs:cP x4.1 0 x5.1:=Prod.ext Ui Uh
 rcases lU hs with⟨h0,_⟩|⟨_,h1,h2,_⟩
 ·exact absurd rfl h0
 ·rw[h2,h1]
def DQ.di{K:List Dg}(h:DQ k A)(hk:∀n c,vw A n=some c→kA K n)(ho:A.aj=[A.names])(hp:∀c,vw A cZ=some c→c.length≤66000):nk K A∧sc A∧∀nm f w,A.look nm=some f→Oc A f w→vw A nm=some w:=by
 have ki:sc A:=fun f hf=>⟨h.cz.cl f hf fun x=>x,fun w hw=>(h.cz.wr w hw).elim⟩
 have Bm:∀f∈A.fs.map (·.1),∀w,Oc A f w→w=A.now f:=fun f hf w hw=>by
  have h1:=gw.none (fun v hv=>(h.cz.wr v hv).elim) hw
  rw[h1,(ki f hf).1];rfl
 have dO:∀nm f w,A.look nm=some f→Oc A f w→vw A nm=some w:=fun nm f w hf hw=>by
  unfold vw
  rw[hf,Bm f (h.cz.file h.ha hf) w hw];rfl
 refine⟨⟨by rw[ho];exact List.mem_singleton.2 rfl,fun st bP=>?_,h.ha.ids,fun w hw=>(h.cz.wr w hw).elim,fun f hf=>?_,fun st bP nm f hf w hw=>?_,fun f hf _=>ki f hf,h.room⟩,ki,dO⟩
 ·rw[ho,List.mem_singleton]at bP
  rw[bP]
  refine⟨h.ha.keys,h.ha.own,h.ha.known,fun x hx=>hk x.1 (A.now x.2) ?_⟩
  have h1:A.look x.1=some x.2:=eA h.ha.keys hx
  unfold vw
  rw[h1];rfl
 ·unfold Oc Ab.now
  rw[← (ki f hf).1]
  exact gw.uG
 ·rw[ho,List.mem_singleton]at bP
  rw[bP]at hf
  have hv:=dO nm f w hf hw
  rcases h.kd nm w hv with⟨rfl,_⟩|⟨⟨d,rfl⟩,h2⟩|⟨⟨d,rfl,h1⟩,h2⟩
  ·exact⟨fun d hd=>absurd hd (s9 d),by rw[if_pos rfl];exact hp w hv⟩
  ·exact⟨fun d' hd=>absurd hd (dQ _ _),by rw[if_neg (jq d)];exact h2⟩
  ·exact⟨fun d' hd=>by rw[h1];exact yy hd,by rw[if_neg (nM d)];exact h2⟩
def Km{w:List UInt8}(h:vw A nm=some w):∃f,A.look nm=some f:=by
 unfold vw at h
 cases hx:A.look nm with
 | none=>rw[hx]at h;cases h
 | some f=>exact⟨f,rfl⟩
def aaI(h:vw A nm=none):A.look nm=none:=by
 unfold vw at h
 cases hx:A.look nm with
 | none=>rfl
 | some f=>rw[hx]at h;cases h
def GB.cL{c:TC}(h:GB A c):Sj c:=⟨h.r,h.s,h.n,h.ok,fun i hi=>by
  obtain⟨b,a,n,p,_,_,_,h4,_⟩:=h.cov i hi
  exact⟨p,h4⟩⟩
def PU.of{K:List Dg}{cs:List TC}(hd:DQ k A)(hk:∀n c,vw A n=some c→kA K n)(ho:A.aj=[A.names])(hv:vw A cZ=some (cm (cs.flatMap jF)))(hg:∀c∈cs,GB A c)(hn:(cs.map fun c=>c.x.d).Nodup)(hcK:∀c∈cs,c.x.d∈K)(hl:(cs.flatMap jF).length≤70) :
  PU K (⟨A,pN cs,false⟩,⟨1,(((cs.flatMap jF).flatMap aS).length:Int),(((cs.flatMap jF).flatMap aS).length:Int),false⟩) cs (cs.flatMap jF):=by
 have Ew:∀b∈cs.flatMap jF,b.length≤900:=fun b hb=>by
  obtain⟨c,hc,hb⟩:=List.mem_flatMap.1 hb
  exact Ft (hg c hc) b hb
 have oH:=mW _ Ew
 have eW:=BE (cs.flatMap jF)
 obtain⟨d1,d2,d3⟩:=hd.di hk ho (fun c hc=>by
  rw[hv]at hc
  injection hc with hc
  rw[← hc,eW]
  omega)
 refine⟨d1,rfl,⟨fun c hc=>(hg c hc).cL,fun c hc=>?_,fun c hc=>CR.one ho (aaI (hg c hc).has.2),hn⟩,N5.one ho,N4.one ho,?_,Ew,?_,d2,fun c hc=>CD hn hc,hcK⟩
 ·obtain⟨b,hb⟩:=Option.isSome_iff_exists.1 (hg c hc).has.1
  obtain⟨f,hf⟩:=Km hb
  refine nt.one ho hf fun w hw=>?_
  have lg:=d3 _ f w hf hw
  intro i hi
  obtain⟨b',a,n,p,h1,h2,h3,h4,h5⟩:=(hg c hc).cov i hi
  rw[lg]at h1
  injection h1 with h1
  subst h1
  exact⟨a,n,p,h2,h3,h4,h5⟩
 ·obtain⟨f,hf⟩:=Km hv
  refine⟨cm (cs.flatMap jF),1,nt.one ho hf fun w hw=>?_,JC.whole _,rfl,ag⟩
  have:=d3 _ f w hf hw
  rw[hv]at this
  injection this with this
  exact this.symm
 ·have:=Fu (A:=A) cs [] [] fD.nil hg (by simpa using hn)
  simpa using this
theorem xd.nat{c c':TC}(hx:c'.x=c.x)(hn:c'.n=c.n)(h:∀i:Nat,cG c.ws c.n (i:Int)=true→cG c'.ws c'.n (i:Int)=true∧c'.pf i=c.pf i):xd c c':=⟨hx,hn,fun i hi=>by
  by_cases h0:0≤i
  · obtain⟨i',rfl⟩:∃i':Nat,i=i':=⟨i.toNat,ag⟩
    exact h i' hi
  · exfalso
    grind [lM]⟩
def PB.open{K:List Dg}{j:Nat}{T:List TC}(h:PB K j A T)(hK:2+2*K.length≤180)(hj:j≤70)(last:Int)(stay:List UInt8)(cq cut:Int){cs:List TC}(hO:AD 1048576 (A.dZ last stay cq cut) e t cs) :
    e=0∧∃L',L'.length≤j∧PU K t cs L'∧(∀c∈T,∃c'∈cs,xd c c')∧t.1.A.aj.length=1∧t.1.A.writes=[]∧t.1.bz=pN cs:=by
  have hc:=h.di.dZ last stay cq cut
  obtain⟨w,Jb,Vt,ZL,T0,rU,Zn,ht3,ht4⟩:=hc.tS _ _ h.jn
  have bP:=fun c Bc=>hc.tS _ _ (h.dt.tS c Bc)
  have hnb:=fun c Bc=>hc.Dw _ (h.dt.Dw c Bc)
  obtain⟨hq,K7,_,_⟩:=hc
  obtain⟨L,hL⟩:∃L,L=iR w:=⟨_,rfl⟩
  rw[← hL]at Vt ZL rU
  have oH:=mW L Vt
  have oI:gQ (A.dZ last stay cq cut) cZ=L:=by rw[GL hq.ha Jb,hL];rfl
  obtain⟨e1,B,ho,hO⟩:=hO
  obtain⟨rfl,rfl⟩:=hq.open ho
  obtain⟨B,hB⟩:∃B,B=A.dZ last stay cq cut:=⟨_,rfl⟩
  rw[← hB]at hq K7 bP hnb Jb hO oI
  rw[if_neg ag]at hO
  obtain⟨s',jn',hT,rfl⟩:=hO
  obtain⟨e2,A1,j1,hR,hT⟩:=hT
  simp only at hR hT
  rw[oI]at hT
  unfold oV at hR
  rw[if_neg (by rw[eM,iS];simp),if_neg (by rw[hq.ha.on];simp),oI]at hR
  obtain⟨y1,hR,rfl,rfl⟩:=hR
  obtain⟨rfl,d1,v1,j1e⟩:=hq.put Jb hK ag hR
  rw[if_neg ag]at hT
  obtain⟨e3,s2,rs,hLo,hT⟩:=hT
  obtain⟨C0,hC0⟩:∃C0,C0=L.foldl cY []:=⟨_,rfl⟩
  rw[← hC0]at hLo rU
  have aen:∀c∈C0,JZ c:=fun c hc=>(oh L).1 c (hC0 ▸ hc)
  have hCl:C0.length≤L.length:=by rw[hC0];exact(oh L).2
  have hCw:wC C0≤L.length:=by
    have:=Pd L [] (fun c h=>by cases h) (by simp)
    rw[← hC0]at this
    have h0:wC []=0:=rfl
    omega
  have hE:∀c∈C0,Sj c∧c.x.d∈K:=fun c hc=>by
    obtain⟨i,hi⟩:=List.mem_iff_getElem?.1 hc
    obtain⟨c',Bc,he⟩:=rU.left hi
    obtain⟨g1,g2⟩:=Zn c' (List.mem_of_getElem? Bc)
    refine⟨⟨by rw[he.x];exact g1.r,by rw[he.x];exact g1.s,by rw[he.n,he.x];exact g1.n,(aen c hc).1,fun i hi=>?_⟩,by rw[he.x];exact g2⟩
    obtain⟨p,hp⟩:=g1.pf i (by rw[← he.b];exact hi)
    exact⟨p,(he.p i hi).trans hp⟩
  have jh:(C0.map fun c=>c.x.d).Nodup:=by rw[rU.nodup];exact ht3
  have nr:∀m,m≠cZ→vw y1.1 m=vw B m:=fun m hm=>by rw[v1,gn _ _ hm]
  have hp1:vw y1.1 cZ=some (cm L):=by rw[v1,fG]
  have aeT:∀n c,vw y1.1 n=some c→kA K n:=fun n c hc=>by
    by_cases hn:n=cZ
    · exact .inl hn
    · rw[nr n hn]at hc;exact K7 n c hc
  obtain⟨rfl,new,r⟩:=wZ (q:=1048576) (K:=K) ag C0 [] ⟨y1.1,[],false⟩ [] e3 s2 _ rs d1 aeT rfl rfl hE (fun c hc=>by cases hc) (by simpa using jh) (by simp only[List.length_nil];omega) hLo
  rw[if_neg ag]at hT
  obtain⟨A3,hC,rfl⟩:=hT
  have kP:=r.cs
  have QN:=r.rs
  have Js:=r.bz
  rw[List.nil_append]at kP QN Js
  subst kP QN
  have Ew:∀b∈cs.flatMap jF,b.length≤900:=fun b hb=>by
    obtain⟨c,hc,hb⟩:=List.mem_flatMap.1 hb
    exact Ft (r.gb c hc) b hb
  have QP:=zm cs
  have hrw:=r.w
  have Bp:=mW _ Ew
  have OU:vw s2.A cZ=some (cm L):=by rw[r.b cZ fun d e=>jq d e.symm];exact hp1
  have La:=r.dq
  unfold np at hC
  simp only[j1e]at hC
  rw[if_neg (by simp),if_neg (by
    rw[Bool.not_eq_true,List.any_eq_false]
    intro b hb
    have:=Ew b hb
    simp;omega),if_neg ag]at hC
  obtain⟨y3,hR3,rfl,rfl⟩:=hC
  have ZX:=La.fresh
  obtain⟨rfl,d3,v3,j3e⟩:=La.put OU hK ag hR3
  have fq:=KF ZX hR3
  have hv3:∀m,m≠cZ→vw y3.1 m=vw s2.A m:=fun m hm=>by rw[v3,gn _ _ hm]
  have hp3:vw y3.1 cZ=some (cm (cs.flatMap jF)):=by rw[v3,fG]
  have hgB:∀c∈cs,GB y3.1 c:=fun c hc=>(r.gb c hc).vw (fun b hb=>by rw[hv3 _ (jq _)];exact hb) (by rw[hv3 _ (nM _)])
  have aeS:∀n c,vw y3.1 n=some c→kA K n:=fun n c hc=>by
    by_cases hn:n=cZ
    · exact .inl hn
    · rw[hv3 n hn]at hc;exact r.kd n c hc
  have hcK:∀c∈cs,c.x.d∈K:=fun c hc=>by
    obtain⟨c0,h1,h2⟩:=List.mem_map.1 (r.sub.subset (List.mem_map.2 ⟨c,hc,rfl⟩))
    rw[← h2]
    exact(hE c0 h1).2
  have hpu:=PU.of d3 aeS fq hp3 hgB (r.sub.nodup jh) hcK ag
  refine⟨rfl,cs.flatMap jF,ag,?_,fun c hc=>?_,by show y3.1.aj.length=1;rw[fq];rfl,List.eq_nil_iff_forall_not_mem.2 fun w hw=>d3.cz.wr w hw,Js⟩
  · have e1:(⟨y3.1,s2.bz,s2.brk⟩:fg)=⟨y3.1,pN cs,false⟩:=by rw[Js,r.brk]
    rw[e1]
    simp only[j3e]
    exact hpu
  · obtain⟨c0,h1,h2⟩:=ht4 c hc
    obtain⟨i,hi⟩:=List.mem_iff_getElem?.1 h1
    obtain⟨c1,Jq,he⟩:=rU.symm.left hi
    have hm1:=List.mem_of_getElem? Jq
    have A9:c1.x=c.x:=he.x.symm.trans h2.x
    obtain⟨c',g1,g2,g3,g4⟩:=r.le c1 hm1 (by
      show vw y1.1 (og c1.x.d)=none
      rw[nr _ (nM _),A9]
      exact hnb c hc)
    refine⟨c',g1,xd.nat (g2.trans A9) (g3.trans (he.n.symm.trans h2.n)) fun i hi=>?_⟩
    obtain⟨b1,b2⟩:=h2.b i hi
    have b3:cG c1.ws c1.n (i:Int)=true:=by rw[← he.b];exact b1
    have b4:c1.pf i=c.pf i:=(he.p i b1).symm.trans b2
    obtain⟨w',q1,q2⟩:=bP c hc
    obtain⟨a,n,p,p1,p2,p3,p4⟩:=q2 i hi
    obtain⟨z1,z2⟩:=g4 i b3 ⟨w',a,n,p,by
      show vw y1.1 (js c1.x.d)=some w'
      rw[nr _ (jq _),A9]
      exact q1,by rw[A9];exact p1,p2,b4.trans p3,by rw[A9];exact p4⟩
    exact⟨z1,z2.trans b4⟩
structure CIz(k w u j:Nat)(x:SJ)(ts:List Tk):Prop where
 cs:CS k w u x.1 ts
 cj:CJ j x (dE ts)
theorem CIz.first(hR:AD 1048576 (Ab.new 16777216) e t cs):e=0∧cs=[]∧(∀n,n≠cZ→vw t.1.A n=none)∧CIz 1 0 100 0 t []:=by
 have hR0:=hR
 obtain⟨rfl,rfl,a1,a2,a3,a4,a5,a6,a7,a8,a9,a10⟩:=wW (HA.new _) rfl (by show 64≤16777216;omega) hR0
 have hcz:Cz 1 t.1.A:=by
  obtain⟨e1,B,hO,hR⟩:=hR
  obtain⟨rfl,rfl⟩:=vq rfl hO
  rw[if_neg ag]at hR
  obtain⟨s,jn,⟨e2,A1,j1,SD,hR⟩,rfl⟩:=hR
  simp only at SD hR
  have kT:=yj (A:=Ab.new 16777216) rfl
  have hu0:(Ab.new 16777216).used=0:=rfl
  have hO2:=SD
  obtain⟨rfl,k1,k2,k3,k4,k5⟩:=tn (HA.new 16777216) eM iS l8 (by rw[kT]) (by rw[kT]) (by show 0<200;omega) (by rw[hu0];show 0+32≤16777216;omega) SD
  rw[kT]at k2
  obtain⟨Zl,Jf⟩:=(HA.new 16777216).qi k1 (k:=cZ) (c:=cm []) (by rw[kT]) (by rw[k2,kT])
  have afX:A1.names.length=1:=Jf
  have z1:Cz 1 A1:=by
   unfold oV at hO2
   rw[if_neg (by rw[eM,iS];simp),if_neg (by show ¬false=true;simp)]at hO2
   obtain⟨y1,hP1,rfl,_⟩:=hO2
   exact IK (Cz.new 16777216) (by rw[kT]) k1 ag hP1
  rw[if_neg ag,k5]at hR
  obtain⟨e3,s2,rs,⟨rfl,rfl,-,rfl⟩,hR⟩:=hR
  rw[if_neg ag]at hR
  obtain⟨A3,hC,rfl⟩:=hR
  simp only at hC a1 a7 ⊢
  subst k4
  unfold np at hC
  rw[if_neg (by simp),if_neg (by simp),if_neg (by simp)]at hC
  obtain⟨y,hP,rfl,rfl⟩:=hC
  exact IK z1 (by rw[k2,gn _ _ l8]) a1 ag hP
 obtain⟨⟨A,bz,brk⟩,jn⟩:=t
 simp only at a1 a2 a3 a4 a5 a6 a7 a8 a9 a10 hcz
 subst a2 a3 a6
 have zN:(Ab.new 16777216).aj.length=1:=rfl
 refine⟨rfl,rfl,fun n hn=>by show vw A n=none;rw[a4,gn _ _ hn],⟨⟨⟨a1,hcz,a5,by simp only;omega,fun n c hc=>?_⟩,rfl,fun z hz=>(by cases hz),fun y hy=>(by cases hy),List.nodup_nil,Nat.le_refl _,fun y hy=>(by cases hy),List.nodup_nil,fun y hy=>(by cases hy),fun y hy=>(by cases hy),Nat.le_refl _,by simp only;omega,fun y hy=>(by cases hy)⟩,⟨cm [],1,[],?_,JC.whole _,rfl,ag,Nat.le_refl _,fun b hb=>(by cases hb),fD.nil⟩⟩⟩
 ·have ya:vw A n=some c:=hc
  rw[a4]at ya
  grind [cZ,fG,mo,gn]
 ·show vw A cZ=_
  rw[a4,fG]
def UQ(x:JN):Prop:=0≤x.n∧0≤x.s∧x.s≤1000000
def Kh{A':Ab}{x x':JN}(h:jw nm A x e A' x')(h0:UQ x):UQ x':=by
 unfold jw at h
 split at h
 ·obtain⟨_,_,rfl⟩:=h;exact h0
 split at h
 ·obtain⟨_,_,rfl⟩:=h;exact h0
 split at h
 ·obtain⟨_,_,rfl⟩:=h;exact h0
 obtain⟨g1,g2,g3⟩:=h0
 obtain⟨y,⟨e1,x1,⟨_,Um⟩,c1⟩,_,rfl⟩:=h
 rcases c1 with⟨_,_,rfl⟩|⟨_,e2,x2,⟨_,VL⟩,c2⟩
 ·rw[Um];exact⟨g1,g2,g3⟩
 rcases c2 with⟨_,_,rfl⟩|⟨_,e3,x3,⟨_,Uj⟩,c3⟩
 ·rw[VL,Um];exact⟨g1,g2,g3⟩
 rcases c3 with⟨_,_,rfl⟩|⟨_,e4,x4,⟨_,EE⟩,c4⟩
 ·rw[Uj,VL,Um];exact⟨g1,g2,g3⟩
 have hy:y=x4:=by rcases c4 with⟨_,_,hy⟩|⟨_,_,hy⟩ <;> exact hy
 rw[hy,EE]
 show UQ ⟨_,x3.2.2.1,x3.2.2.1,_⟩
 rw[Uj,VL,Um]
 exact⟨by show(0:Int)≤((x.n.toNat+1:Nat):Int);omega,g2,g3⟩
def JV(A:Ab){x:JN}(b:List UInt8)(h0:UQ x):UQ (cW cZ A x b).2.2:=by
 obtain⟨g1,g2,g3⟩:=h0
 unfold cW
 split
 ·exact⟨g1,g2,g3⟩
 split
 ·exact⟨g1,g2,g3⟩
 split
 ·exact⟨g1,g2,g3⟩
 split
 ·exact⟨g1,by show(0:Int)≤x.s+((aS b).length:Int);omega,by show x.s+((aS b).length:Int)≤1000000;omega⟩
 ·exact⟨g1,g2,g3⟩
def Ti{b:List UInt8}{y:SJ}(h:gi (iQ b) x e y)(h0:UQ x.2):UQ y.2∧y.1.bz=x.1.bz:=by
 obtain⟨e1,x1,⟨_,wG⟩,c1⟩:=h
 have h1:UQ x1.2:=by rw[wG];exact JV x.1.A b h0
 have h2:x1.1.bz=x.1.bz:=by rw[wG]
 rcases c1 with⟨_,_,rfl⟩|⟨_,e2,x2,⟨A',x',hC,Br⟩,c2⟩
 ·exact⟨h1,h2⟩
 have hy:y=x2:=by rcases c2 with⟨_,_,hy⟩|⟨_,_,hy⟩ <;> exact hy
 rw[hy,Br]
 exact⟨Kh hC h1,h2⟩
structure Bd(s b:Nat)(x:SJ):Prop where
 ly:x.1.A.aj.length≤s
 ml:x.1.A.writes.length≤s
 bs:∀z∈x.1.bz,0≤z.2.size∧z.2.size≤1048576
 bl:x.1.bz.length≤b
 jn:UQ x.2
def Bd.mono{s' b':Nat}(h:Bd s b x)(hs:s≤s')(hb:b≤b'):Bd s' b' x:=⟨Nat.le_trans h.ly hs,Nat.le_trans h.ml hs,h.bs,Nat.le_trans h.bl hb,h.jn⟩
def Bd.note{y:SJ}{r:List UInt8}(h:Bd s b x)(hR:gi (iQ r) x e y):Bd (s+5) b y:=by
 obtain⟨g1,g2⟩:=Ca hR
 obtain⟨j1,j2⟩:=Ti hR h.jn
 have:=h.ly
 have:=h.ml
 exact⟨ag,ag,by rw[j2];exact h.bs,by rw[j2];exact h.bl,j1⟩
def Bd.sto(h:Bd s b x)(hg:iH n x.1 t.1)(hj:t.2=x.2)(hb:t.1.bz.Sublist x.1.bz):Bd (s+n) b t:=by
 have h1:=hg.1
 have h2:=hg.2
 have h3:=h.ly
 have h4:=h.ml
 exact⟨ag,ag,fun z hz=>h.bs z (hb.subset hz),Nat.le_trans hb.length_le h.bl,by rw[hj];exact h.jn⟩
def vb{ss:List Bw}{s t:fg}(h:Bt ss s e t):t.bz=s.bz:=by
 obtain⟨B,_,rfl⟩:=h
 rfl
def A8{x:Bl}{s t:fg}(h:iq x s e t):t.bz.Sublist s.bz:=by
 unfold iq at h
 split at h
 ·rw[h.2];exact List.Sublist.refl _
 ·obtain⟨s1,h1,h2⟩:=h
  have h3:=vb h1
  rw[h2]
  split
  ·rw[h3];exact List.Sublist.refl _
  ·show(qL s1.bz x.d).Sublist _
   rw[h3];exact List.filter_sublist
def Eo{x:Bl}{s t:fg}(h:fC x s e t):t.bz.Sublist s.bz:=by
 unfold fC at h
 split at h
 ·rw[h.2];exact List.Sublist.refl _
 split at h
 ·obtain⟨e1,h1,_⟩:=h
  exact A8 h1
 ·obtain⟨s1,h1,h2⟩:=h
  have h3:=vb h1
  rw[h2]
  split
  ·rw[h3];exact List.Sublist.refl _
  ·show(qL s1.bz x.d).Sublist _
   rw[h3];exact List.filter_sublist
def RU{x:Bl}{i:Int}{b:List UInt8}{s t:fg}(h:mh x i b s e t):t.bz=s.bz:=by
 unfold mh at h
 split at h
 ·rw[h.2]
 split at h
 ·rw[h.2]
 split at h
 ·rw[h.2]
 ·exact vb h
def N1{x:Bl}{s t:fg}(h:kY x s e t):t.bz=s.bz:=by
 unfold kY at h
 split at h
 ·rw[h.2]
 ·exact vb h
def HV{x:Bl}{s t:fg}(h:eh q x s e t):t.bz=s.bz∨(bI x=true∧t.bz=s.bz++[(x.d,x)]):=by
 cases hr:bI x with
 | true=>exact(A5 h).imp id fun h=>⟨rfl,h⟩
 | false =>
  unfold eh at h
  split at h
  ·exact .inl (by rw[h.2])
  ·exact .inl (by rw[h.2])
def Bd.begin(h:Bd s b x)(hR:OL q y ts x br e ts' iZ t):Bd (s+7) (b+1) t:=by
 rcases hR with⟨_,_,_,_,rfl⟩|⟨_,_,_,_,_,rfl⟩|⟨_,lh,Le,⟨e1,x1,⟨bP,EB⟩,hR⟩,Ba⟩
 ·exact h.mono ag ag
 ·exact h.mono ag ag
 have hg:=lQ bP
 have h1:Bd (s+2) (b+1) x1:=by
  rcases HV bP with hb|⟨hr,hb⟩
  ·exact(h.sto hg EB (by rw[hb];exact List.Sublist.refl _)).mono (Nat.le_refl _) ag
  ·have g1:=hg.1
   have g2:=hg.2
   have g3:=h.ly
   have g4:=h.ml
   have g5:=h.bl
   have g6:=dY hr
   refine⟨ag,ag,fun z hz=>?_,by rw[hb,List.length_append,List.length_singleton];omega,by rw[EB];exact h.jn⟩
   rw[hb]at hz
   rcases List.mem_append.1 hz with hz|hz
   ·exact h.bs z hz
   ·rw[List.mem_singleton.1 hz];exact⟨by show 0≤y.size;omega,by show y.size≤1048576;omega⟩
 rcases hR with⟨_,_,rfl⟩|⟨_,hR⟩
 ·exact h1.mono ag (Nat.le_refl _)
 ·exact h1.note hR
theorem Bd.put{i:Int}{p:List Dg}(h:Bd s b x)(hR:N7 y i bs p ts x br e ts' iZ t):Bd (s+7) b t:=by
 have h0:Bd (s+7) b x:=h.mono ag (Nat.le_refl _)
 rcases hR with⟨_,_,_,_,rfl⟩|⟨_,_,_,_,_,rfl⟩|⟨_,q,z,_,_,_,hc⟩
 ·exact h0
 ·exact h0
 rcases hc with⟨_,_,_,_,rfl⟩|⟨_,_,_,_,_,rfl⟩|⟨_,_,_,_,_,_,rfl⟩|⟨_,_,_,_,hR,_⟩
 ·exact h0
 ·exact h0
 ·exact h0
 obtain⟨e1,x1,⟨h1,j1⟩,hR⟩:=hR
 have b1:=h.sto (oU h1) j1 (by rw[RU h1];exact List.Sublist.refl _)
 rcases hR with⟨_,_,rfl⟩|⟨_,e2,x2,⟨h2,j2⟩,hR⟩
 ·exact b1.mono ag (Nat.le_refl _)
 have b2:=b1.sto (tI h2) j2 (by rw[N1 h2];exact List.Sublist.refl _)
 rcases hR with⟨_,_,rfl⟩|⟨_,hR⟩
 ·exact b2.mono ag (Nat.le_refl _)
 ·exact b2.note hR
def Bd.fin{r:Int}(h:Bd s b x)(hR:UY y ts x br r ts' iZ t):Bd (s+8) b t:=by
 have h0:Bd (s+8) b x:=h.mono ag (Nat.le_refl _)
 rcases hR with⟨_,_,_,_,rfl⟩|⟨_,_,_,_,_,rfl⟩|⟨_,z,_,hc⟩
 ·exact h0
 ·exact h0
 rcases hc with⟨_,_,_,_,rfl⟩|⟨_,e,u,⟨h1,j1⟩,hc⟩
 ·exact h0
 have b1:=h.sto (sL h1) j1 (Eo h1)
 rcases hc with⟨_,_,_,_,_,rfl⟩|⟨_,e',_,_,_,hR⟩
 ·exact b1.mono ag (Nat.le_refl _)
 ·exact(b1.note hR)
def Bd.abort(h:Bd s b x)(hA:dx (iq y) x e u):Bd (s+1) b u:=h.sto (rj hA.1) hA.2 (A8 hA.1)
def Bd.sq(h:Bd s b x)(hs:s≤9000)(hu:u.2=x.2)(hg:iH 5 x.1 u.1):SQ 10000 0 u:=by
 have h1:=hg.1
 have h2:=hg.2
 have h3:=h.ly
 have h4:=h.ml
 refine⟨by rw[hu];exact h.jn.1,by rw[hu];exact h.jn.2,ag,ag⟩
abbrev Su:=List (Bl × List Int)
def gV(S:Su)(T:List TC):Prop:=∀z∈S,∃c∈T,c.x=z.1∧∀i∈z.2,cG c.ws c.n i=true
def gV.le{S:Su}{T T':List TC}(h:gV S T)(hl:∀c∈T,∃c'∈T',xd c c'):gV S T':=fun z hz=>by
 obtain⟨c,h1,h2,h3⟩:=h z hz
 obtain⟨c',g1,g2⟩:=hl c h1
 exact⟨c',g1,g2.x.trans h2,fun i hi=>(g2.b i (h3 i hi)).1⟩
def GR(S:Su)(b:Bl):Su:=S.filter fun z => !decide (z.1=b)
def gV.del{S:Su}{T T':List TC}{b:Bl}(h:gV S T)(hl:∀c∈T,c.x≠b→c∈T'):gV (GR S b) T':=fun z hz=>by
 obtain⟨Ze,Va⟩:=List.mem_filter.1 hz
 obtain⟨c,h1,h2,h3⟩:=h z Ze
 exact⟨c,hl c h1 (fun e=>by rw[← h2,e]at Va;simp at Va),h2,h3⟩
structure pU(m:Nat)(x:SJ)(ts:List Tk)(br:Bool)(S:Su):Prop where
 bd:Bd (200+20*m) (100+m) x
 tk:∀y∈ts,km y.c
 tl:ts.length≤m
 up:br=false→∃K L,K.length≤m∧L.length≤m∧PU K x (dE ts) L∧gV S (dE ts)
 dn:br=true→∃K T,K.length≤m∧PB K m x.1.A T∧gV S T
def PU.len{K:List Dg}(h:PU K x (dE ts) L):ts.length≤K.length:=by
 have h1:=h.dt.nd.length_le_of_subset (l₂:=K) fun d hd=>by
  obtain⟨c,hc,rfl⟩:=List.mem_map.1 hd
  exact h.kd c hc
 simpa[dE]using h1
def PU.tk{K:List Dg}{ts:List Tk}(h:PU K x (dE ts) L):∀y∈ts,km y.c:=fun y hy=>(h.dt.cL y.c (List.mem_map.2 ⟨y,hy,rfl⟩)).ok
def PB.ab'{K:List Dg}{T:List TC}(h:PB K m A T)(hK:K.length≤m)(hm:m≤60)(last:Int)(stay:List UInt8)(cq cut:Int){cs:List TC}(hO:AD 1048576 (A.dZ last stay cq cut) e t cs) :
  e=0∧∃L',L'.length≤m∧PU K t cs L'∧(∀c∈T,∃c'∈cs,xd c c')∧t.1.A.aj.length=1∧t.1.A.writes=[]∧t.1.bz=pN cs:=h.open ag ag last stay cq cut hO
def pU.same{S:Su}(h:pU m x ts br S):pU (m+1) x ts br S :=
  ⟨h.bd.mono ag ag,h.tk,by have:=h.tl;omega,fun hb=>by
    obtain⟨K,L,h1,h2,h3⟩:=h.up hb
    exact⟨K,L,ag,ag,h3⟩,fun hb=>by
    obtain⟨K,T,h1,h2,h3⟩:=h.dn hb
    exact⟨K,T,ag,h2.mono (List.Subset.refl _) ag,h3⟩⟩
def pU.begin{ts':List Tk}{S:Su}{b:Bl}(h:pU m x ts br S)(hm:m≤60)(hs:bI b=true→b.size≤1000)(hR:OL q b ts x br e ts' iZ t):pU (m+1) t ts' iZ S∧(e=0→iZ=false∧∃c∈dE ts',c.x=b):=by
 have pJ:=h.bd.begin hR
 cases br with
 | true =>
  rcases hR with⟨_,rfl,rfl,rfl,rfl⟩|⟨h1,_⟩|⟨h1,_⟩
  ·exact⟨h.same,fun h0=>by cases h0⟩
  ·cases h1
  ·cases h1
 | false =>
  obtain⟨K,L,h1,h2,h3,h4⟩:=h.up rfl
  rcases h3.begin hs ag hR with⟨rfl,L',g1,g2,g3⟩|⟨rfl,g1,rfl,g2⟩
  ·have dU:∀c∈dE ts,∃c'∈dE ts',xd c c':=fun c hc=>by
    rcases g3 with⟨_,rfl⟩|⟨_,g3⟩
    ·exact⟨c,hc,xd.refl c⟩
    ·rw[g3];exact⟨c,List.mem_append.2 (.inl hc),xd.refl c⟩
   have hl:=g1.len
   rw[List.length_cons]at hl
   refine⟨⟨pJ.mono ag ag,g1.tk,ag,fun _=>⟨_,L',by rw[List.length_cons];omega,ag,g1,h4.le dU⟩,fun hb=>by cases hb⟩,fun h0=>⟨rfl,?_⟩⟩
   rcases g3 with⟨h5,_⟩|⟨_,g3⟩
   ·exact absurd h0 h5
   ·rw[g3];exact⟨cN b,by simp,rfl⟩
  ·exact⟨⟨pJ.mono ag ag,h.tk,by have:=h.tl;omega,(fun hb=>by cases hb),fun _=>⟨_,_,by rw[List.length_cons];omega,g2.mono (List.Subset.refl _) ag,h4⟩⟩,fun h0=>absurd h0 g1⟩
theorem pU.put{ts':List Tk}{S:Su}{b:Bl}{i:Int}{p:List Dg}(h:pU m x ts br S)(hm:m≤60)(hR:N7 b i bs p ts x br e ts' iZ t):pU (m+1) t ts' iZ S∧(e=0→iZ=false∧∃c∈dE ts',c.x=b∧cG c.ws c.n i=true):=by
 have pJ:=h.bd.put hR
 cases br with
 | true =>
  rcases hR with⟨_,rfl,rfl,rfl,rfl⟩|⟨h1,_⟩|⟨h1,_⟩
  ·exact⟨h.same,fun h0=>by cases h0⟩
  ·cases h1
  ·cases h1
 | false =>
  obtain⟨K,L,h1,h2,h3,h4⟩:=h.up rfl
  rcases h3.put ag hR with⟨rfl,L',g1,g2,g3,g4⟩|⟨rfl,g1,rfl,g2⟩
  ·have hl:=g1.len
   exact⟨⟨pJ.mono ag ag,g1.tk,ag,fun _=>⟨_,L',ag,ag,g1,h4.le g3⟩,fun hb=>by cases hb⟩,fun h0=>⟨rfl,(g4 h0).2⟩⟩
  ·exact⟨⟨pJ.mono ag ag,h.tk,by have:=h.tl;omega,(fun hb=>by cases hb),fun _=>⟨_,_,ag,g2.mono (List.Subset.refl _) ag,h4⟩⟩,fun h0=>absurd h0 g1⟩
def gV.sub{S:Su}{T:List TC}{b:Bl}(h:gV S T):gV (GR S b) T:=fun z hz=>h z (List.mem_filter.1 hz).1
def pU.drop{S:Su}(b:Bl)(h:pU m x ts br S):pU m x ts br (GR S b) :=
  ⟨h.bd,h.tk,h.tl,fun hb=>by
    obtain⟨K,L,h1,h2,h3,h4⟩:=h.up hb
    exact⟨K,L,h1,h2,h3,h4.sub⟩,fun hb=>by
    obtain⟨K,T,h1,h2,h3⟩:=h.dn hb
    exact⟨K,T,h1,h2,h3.sub⟩⟩
def Kz(ts:List Tk)(d:Dg):(sg ts d).length≤ts.length:=List.length_filter_le _ _
def pU.fin{S:Su}{b:Bl}{r:Int}(h:pU m x ts br S)(hm:m≤60)(hR:UY b ts x br r ts' iZ t):pU (m+1) t ts' iZ (GR S b):=by
 have pJ:=h.bd.fin hR
 cases br with
 | true =>
  rcases hR with⟨_,rfl,rfl,rfl,rfl⟩|⟨h1,_⟩|⟨h1,_⟩
  ·exact(h.drop b).same
  ·cases h1
  ·cases h1
 | false =>
  obtain⟨K,L,h1,h2,h3,h4⟩:=h.up rfl
  have dU:∀y∈ts',y∈ts:=by
   rcases hR with⟨_,_,rfl,_⟩|⟨_,_,_,rfl,_⟩|⟨_,z,_,hc⟩
   ·exact fun y hy=>hy
   ·exact fun y hy=>hy
   rcases hc with⟨_,_,rfl,_⟩|⟨_,e,u,_,hc⟩
   ·exact fun y hy=>hy
   rcases hc with⟨_,_,_,rfl,_⟩|⟨_,e',_,rfl,_⟩
   ·exact fun y hy=>hy
   ·split
    ·exact S5 ts _
    ·exact fun y hy=>hy
  have hlen:ts'.length≤ts.length:=by
   rcases hR with⟨_,_,rfl,_⟩|⟨_,_,_,rfl,_⟩|⟨_,z,_,hc⟩
   ·exact Nat.le_refl _
   ·exact Nat.le_refl _
   rcases hc with⟨_,_,rfl,_⟩|⟨_,e,u,_,hc⟩
   ·exact Nat.le_refl _
   rcases hc with⟨_,_,_,rfl,_⟩|⟨_,e',_,rfl,_⟩
   ·exact Nat.le_refl _
   ·split
    ·exact Kz ts _
    ·exact Nat.le_refl _
  have pY:=h.tl
  rcases h3.finish ag hR with⟨rfl,L',g1,g2,g3⟩|⟨rfl,T,g1,g2⟩
  ·exact⟨pJ.mono ag ag,g1.tk,ag,fun _=>⟨_,L',ag,ag,g1,h4.del g3⟩,fun hb=>by cases hb⟩
  ·exact⟨pJ.mono ag ag,fun y hy=>h.tk y (dU y hy),ag,(fun hb=>by cases hb),fun _=>⟨_,_,ag,g1.mono (List.Subset.refl _) ag,h4.del g2⟩⟩
def pU.abort{S:Su}{b:Bl}(h:pU m x ts false S)(hm:m≤60)(hf:(fH ts b).isSome=true)(hA:dx (iq b) x e u) :
  (e≠0→pU (m+1) u ts (dR e) (GR S b))∧(e=0→∀e' t,gi (iQ (Af b.d)) u e' t→pU (m+1) t (if e'=0 then sg ts b.d else ts) (dR e') (GR S b)):=by
 have pJ:=h.bd.abort hA
 obtain⟨K,L,h1,h2,h3,h4⟩:=h.up rfl
 have pY:=h.tl
 obtain⟨g1,g2⟩:=h3.abort ag hf hA
 refine⟨fun h0=>?_,fun h0 e' t hR=>?_⟩
 ·obtain⟨hb,T,k1,k2⟩:=g1 h0
  rw[hb]
  exact⟨pJ.mono ag ag,h.tk,ag,(fun hb=>by cases hb),fun _=>⟨_,_,ag,k1.mono (List.Subset.refl _) ag,h4.del k2⟩⟩
 ·have adi:=pJ.note hR
  rcases g2 h0 e' t hR with⟨rfl,L',k1,k2,k3⟩|⟨k0,hb,T,k1,k2⟩
  ·have:=Kz ts b.d
   exact⟨adi.mono ag ag,k1.tk,by rw[if_pos rfl];omega,fun _=>⟨_,L',ag,ag,k1,h4.del k3⟩,fun hb=>by cases hb⟩
  ·rw[hb,if_neg k0]
   exact⟨adi.mono ag ag,h.tk,ag,(fun hb=>by cases hb),fun _=>⟨_,_,ag,k1.mono (List.Subset.refl _) ag,h4.del k2⟩⟩
def PU.bd{K:List Dg}(h:PU K t (dE ts) L)(hL:L.length≤70)(hK:K.length≤100)(hs:t.1.A.aj.length=1)(hw:t.1.A.writes=[])(hb:t.1.bz=pN (dE ts)):Bd 200 100 t:=by
 obtain⟨C,n,_,_,h3,_⟩:=h.jn
 have oH:=mW L h.lb
 have hl:=h.len
 refine⟨ag,by rw[hw];exact Nat.zero_le _,fun z hz=>?_,by rw[hb];unfold pN dE;rw[List.length_map,List.length_map];omega,by rw[h3];exact⟨by show(0:Int)≤(n:Int);omega,by show(0:Int)≤((L.flatMap aS).length:Int);omega,by show((L.flatMap aS).length:Int)≤1000000;omega⟩⟩
 rw[hb]at hz
 obtain⟨c,hc,rfl⟩:=List.mem_map.1 hz
 have:=dY (h.dt.cL c hc).r
 exact⟨by show 0≤c.x.size;omega,by show c.x.size≤1048576;omega⟩
def pU.open{S:Su}(h:pU m x ts br S)(hm:m≤60)(last:Int)(stay:List UInt8)(cq cut:Int)(hO:AD 1048576 (x.1.A.dZ last stay cq cut) e t cs)(Ba:e=0→dE ts'=cs):e=0∧pU (m+1) t ts' false S:=by
 have key:∃K T,K.length≤m∧PB K m x.1.A T∧gV S T:=by
  cases br with
  | true=>exact h.dn rfl
  | false =>
   obtain⟨K,L,h1,h2,h3,h4⟩:=h.up rfl
   exact⟨K,_,h1,h3.pb h2 ag,h4⟩
 obtain⟨K,T,h1,h2,h3⟩:=key
 obtain⟨rfl,L',g1,g2,g3,g4,g5,g6⟩:=h2.ab' h1 hm last stay cq cut hO
 have kP:=Ba rfl
 subst kP
 have hl:=g2.len
 have hb:=g2.bd ag ag g4 g5 g6
 exact⟨rfl,hb.mono ag ag,g2.tk,ag,fun _=>⟨K,L',ag,ag,g2,h3.le g3⟩,fun hb=>by cases hb⟩
def pU.first(hR:AD 1048576 (Ab.new 16777216) e t cs)(Ba:e=0→dE ts=cs):e=0∧ts=[]∧pU 0 t [] false []:=by
 have hR0:=hR
 obtain⟨he,hc,hv,hci⟩:=CIz.first hR
 obtain⟨_,_,a1,a2,a3,a4,a5,a6,a7,a8,a9,a10⟩:=wW (HA.new _) rfl (by show 64≤16777216;omega) hR0
 subst he hc
 have fq:t.1.A.aj=[t.1.A.names]:=by
  obtain⟨e1,B,hO,hR⟩:=hR
  obtain⟨rfl,rfl⟩:=vq rfl hO
  rw[if_neg ag]at hR
  obtain⟨s,jn,⟨e2,A1,j1,SD,hR⟩,rfl⟩:=hR
  simp only at SD hR
  have kT:=yj (A:=Ab.new 16777216) rfl
  have hu0:(Ab.new 16777216).used=0:=rfl
  obtain⟨rfl,k1,k2,k3,k4,k5⟩:=tn (HA.new 16777216) eM iS l8 (by rw[kT]) (by rw[kT]) (by show 0<200;omega) (by rw[hu0];show 0+32≤16777216;omega) SD
  rw[kT]at k2
  rw[if_neg ag,k5]at hR
  obtain⟨e3,s2,rs,⟨rfl,rfl,-,rfl⟩,hR⟩:=hR
  rw[if_neg ag]at hR
  obtain⟨A3,hC,rfl⟩:=hR
  simp only at hC ⊢
  subst k4
  unfold np at hC
  rw[if_neg (by simp),if_neg (by simp),if_neg (by simp)]at hC
  obtain⟨y,hP,rfl,rfl⟩:=hC
  exact KF (by rw[k2,gn _ _ l8]) hP
 obtain⟨⟨A,bz,brk⟩,jn⟩:=t
 simp only at a1 a2 a3 a4 a5 a6 fq hv
 subst a2 a3 a6
 have hp:=PU.of (K:=[]) (cs:=[]) hci.cs.dq (fun n c hc=>by
  by_cases hn:n=cZ
  ·exact .inl hn
  ·rw[hv n hn]at hc;cases hc) fq (by rw[a4,fG];rfl) (fun c hc=>by cases hc) (by simp) (fun c hc=>by cases hc) (by simp)
 have hw0:A.writes=[]:=List.eq_nil_iff_forall_not_mem.2 fun w hw=>hci.cs.dq.cz.wr w hw
 have tx:PU [] (⟨A,[],false⟩,⟨1,0,0,false⟩) (dE []) []:=hp
 refine⟨rfl,DU (Ba rfl),(tx.bd (by simp) (by simp) (by show A.aj.length=1;rw[fq];rfl) hw0 rfl).mono ag ag,(fun y hy=>by cases hy),Nat.le_refl _,(fun _=>⟨[],[],Nat.le_refl _,Nat.le_refl _,tx,fun z hz=>by cases hz⟩),fun hb=>by cases hb⟩
def PU.find{K:List Dg}(h:PU K x (dE ts) L){y:Tk}(hy:y∈ts):fH ts y.x=some y:=by
 cases hf:fH ts y.x with
 | none =>
  exfalso
  unfold fH at hf
  rw[List.find?_eq_none]at hf
  exact hf y hy (decide_eq_true rfl)
 | some z =>
  obtain⟨q,hq,hz⟩:=j5 hf
  obtain⟨i,hi⟩:=List.mem_iff_getElem?.1 hy
  have d1:((dE ts).map fun c=>c.x.d)[i]?=some y.x.d:=by unfold dE;rw[List.getElem?_map,List.getElem?_map,hi];rfl
  have d2:((dE ts).map fun c=>c.x.d)[q]?=some y.x.d:=by unfold dE;rw[List.getElem?_map,List.getElem?_map,hq];show some z.x.d=some y.x.d;rw[hz]
  have DG:=(List.getElem?_inj (j:=q) ((List.getElem?_eq_some_iff.1 d1).1) h.dt.nd).1 (by rw[d1,d2])
  rw[DG,hq]at hi
  exact hi
def PU.read{K:List Dg}(h:PU K x (dE ts) L)(iw:x.1.A.off=false){y:Tk}(hy:y∈ts){i:Int}(hi:cG y.ws y.n i=true):(eC x.1 ts y.x i).2.2=0∧dw y.x i (eC x.1 ts y.x i).1 (eC x.1 ts y.x i).2.1=true:=by
 have hc:y.c∈dE ts:=List.mem_map.2 ⟨y,hy,rfl⟩
 have h0:0≤i:=by
  by_cases h0:0≤i
  ·exact h0
  ·rw[lM (.inl ag)]at hi;cases hi
 obtain⟨j,rfl⟩:∃j:Nat,i=j:=⟨i.toNat,ag⟩
 obtain⟨f,hf,_⟩:=h.dt.tS y.c hc
 have l9:x.1.A.look (js y.x.d)=some f:=hf _ h.di.mem
 obtain⟨a,n,p,h1,h2,h3,h4⟩:=(h.dt.tS y.c hc).now h.di l9 j hi
 have h1':dI y.x (j:Int)=some (a,n):=h1
 have h3':y.pf (j:Int)=some p:=h3
 obtain⟨f0,f1,_⟩:=jO h1'
 have bP:cB x.1 y.x (j:Int)=(((x.1.A.now f).drop a.toNat).take n.toNat,0):=by
  unfold cB
  rw[if_pos (by unfold pX;rw[show gT x.1.bz y.x.d=some y.x from h.bg y.c hc];simp),h1']
  show x.1.A.read (dv kS y.x.d) a n=_
  unfold Ab.read
  rw[if_neg (by rw[iw];simp),show x.1.A.look (dv kS y.x.d)=some f from l9]
  simp only
  rw[if_neg ag]
 unfold eC
 rw[h.find hy]
 simp only
 rw[if_pos hi,bP,if_pos rfl,h3']
 exact⟨rfl,h4⟩
def GW{κ:Type}[DecidableEq κ]{xs ks:List κ}(hx:xs.Nodup)(hk:ks.Nodup)(hs:∀k∈ks,k∈xs):(xs.filter fun x=>decide (x∈ks)).length=ks.length:=by
 have h1:(xs.filter fun x=>decide (x∈ks)).length≤ks.length:=(List.filter_sublist.nodup hx).length_le_of_subset fun a ha=>by
  have:=(List.mem_filter.1 ha).2
  simpa using this
 have h2:ks.length≤(xs.filter fun x=>decide (x∈ks)).length:=hk.length_le_of_subset fun a ha=>List.mem_filter.2 ⟨hs a ha,by simpa using ha⟩
 omega
structure p8 where
 b:Bl
 a:Nat
 es:List (Int × Value)
def jx(l:List p8):List (Bl × Value):=l.map fun z=>(z.b,.map (some z.a))
def sf(l:List p8):HP:=Sep (l.map fun z=>aL (Value.int .i64) z.a z.es)
def E0(l:List p8):Su:=l.map fun z=>(z.b,z.es.map (·.1))
def SK(l:List p8):Prop:=∀z∈l,∀e∈z.es,e.2 = .bool true
def YY(H:List HP):ak H (sf []::H):=ak.pS H
def E1(l:List p8):(jx l).map (·.1)=l.map (·.b):=by unfold jx;rw[List.map_map];rfl
def oS:∀(l:List p8) (b:Bl),dP (jx l) b=none∧(∀z∈l,z.b≠b)∨∃z∈l,z.b=b∧dP (jx l) b=some (.map (some z.a))
 | [],b => .inl ⟨rfl,fun z hz=>by cases hz⟩
 | z::l,b=>by
  by_cases hz:z.b=b
  ·refine .inr ⟨z,List.mem_cons_self ..,hz,?_⟩
   simp[jx,dP,hz]
  ·rcases oS l b with⟨h1,h2⟩|⟨y,h1,h2,h3⟩
   ·refine .inl ⟨?_,fun y hy=>?_⟩
    ·unfold jx at h1 ⊢
     simp only[List.map_cons,dP]at h1 ⊢
     simp_all [dP]
    ·rcases List.mem_cons.1 hy with rfl|hy
     ·exact hz
     ·exact h2 y hy
   ·refine .inr ⟨y,List.mem_cons_of_mem _ h1,h2,?_⟩
    unfold jx at h3 ⊢
    simp_all [dP]
def GM{l l':List HP}(h:l'.Sublist l)(H:List HP):ak (l++H) (l'++H):=by
 induction h with
 | slnil=>exact ak.refl _
 | cons A _ ih=>exact(ak.drop A _).trans ih
 | cons_cons A _ ih=>exact ak.cons A ih
def Ku{l l':List p8}(h:l'.Sublist l)(H:List HP):ak (sf l::H) (sf l'::H):=by
 unfold sf
 exact(ak.cK _ _).trans ((GM (h.map _) H).trans (ak.bX _ _))
def C6(p q:List p8)(z:p8)(H:List HP):ak (sf (p++z::q)::H) (aL (Value.int .i64) z.a z.es::sf (p++q)::H):=by
 unfold sf
 rw[List.map_append,List.map_cons,List.map_append]
 refine(ak.cK _ _).trans ((ak.perm (H':=aL (Value.int .i64) z.a z.es::((p.map (fun z:p8=>aL (Value.int .i64) z.a z.es)++q.map fun z:p8=>aL (Value.int .i64) z.a z.es)++H)) ?_).trans (ak.cons _ (ak.bX _ _)))
 simp_all
def yW(p q:List p8)(z:p8)(H:List HP):ak (aL (Value.int .i64) z.a z.es::sf (p++q)::H) (sf (p++z::q)::H):=by
 unfold sf
 rw[List.map_append,List.map_append,List.map_cons]
 refine(ak.cons _ (ak.cK _ _)).trans ((ak.perm (H':=(p.map (fun z:p8=>aL (Value.int .i64) z.a z.es)++aL (Value.int .i64) z.a z.es::q.map fun z:p8=>aL (Value.int .i64) z.a z.es)++H) ?_).trans (ak.bX _ _))
 rw[List.append_assoc,List.append_assoc,List.cons_append]
 exact List.perm_middle.symm
def C5{p q:List p8}{z:p8}{w:Bl × List Int}(h:w∈E0 (p++z::q)):w∈E0 (p++q)∨w=(z.b,z.es.map (·.1)):=by
 unfold E0 at h ⊢
 rw[List.map_append,List.map_cons]at h
 rw[List.map_append]
 rcases List.mem_append.1 h with h|h
 ·exact .inl (List.mem_append.2 (.inl h))
 ·rcases List.mem_cons.1 h with h|h
  ·exact .inr h
  ·exact .inl (List.mem_append.2 (.inr h))
def EZ{p q:List p8}{z:p8}{w:Bl × List Int}(h:w∈E0 (p++q)):w∈E0 (p++z::q):=by
 unfold E0 at h ⊢
 rw[List.map_append]at h
 rw[List.map_append,List.map_cons]
 rcases List.mem_append.1 h with h|h
 ·exact List.mem_append.2 (.inl h)
 ·exact List.mem_append.2 (.inr (List.mem_cons_of_mem _ h))
def SK.mid{p q:List p8}{z y:p8}(h:SK (p++z::q))(hy:∀e∈y.es,e.2 = .bool true):SK (p++y::q):=fun w hw=>by
 rcases List.mem_append.1 hw with hw|hw
 ·exact h w (List.mem_append.2 (.inl hw))
 ·rcases List.mem_cons.1 hw with rfl|hw
  ·exact hy
  ·exact h w (List.mem_append.2 (.inr (List.mem_cons_of_mem _ hw)))
def zG{p q:List p8}{z y:p8}(h:y.b=z.b):(p++y::q).map (·.b)=(p++z::q).map (·.b):=by
 simp[h]
def Pk{l:List p8}(hn:(l.map (·.b)).Nodup)(x:Bl)(a:Nat):∃l',jx l'=gG (jx l) x (.map (some a))∧(l'.map (·.b)).Nodup∧(SK l→SK l')∧(∀T,gV (E0 l) T→(∃c∈T,c.x=x)→gV (E0 l') T)∧∀H,ak (aL (Value.int .i64) a []::sf l::H) (sf l'::H):=by
 by_cases hx:x∈(jx l).map (·.1)
 ·have hx':=hx
  rw[E1]at hx'
  obtain⟨z,hz,hzx⟩:=List.mem_map.1 hx'
  obtain⟨p,q,rfl⟩:=List.append_of_mem hz
  have lh:∀w,w∈p∨w∈q→w.b≠x:=fun w hw e=>by
   rw[List.map_append,List.map_cons,List.nodup_append]at hn
   obtain⟨_,h2,h3⟩:=hn
   rcases hw with hw|hw
   ·exact h3 _ (List.mem_map.2 ⟨w,hw,rfl⟩) _ (List.mem_cons_self ..) (e.trans hzx.symm)
   ·exact(List.nodup_cons.1 h2).1 (List.mem_map.2 ⟨w,hw,e.trans hzx.symm⟩)
  refine⟨p++⟨x,a,[]⟩::q,?_,?_,fun h=>h.mid (fun e he=>by cases he),fun T hT hc=>fun w hw=>?_,fun H=>(ak.cons _ (Ku ((List.sublist_cons_self z q).append_left p) H)).trans (yW p q ⟨x,a,[]⟩ H)⟩
  ·unfold gG
   rw[if_pos hx]
   unfold jx
   rw[List.map_map,List.map_append,List.map_append,List.map_cons,List.map_cons]
   have Gk:∀l':List p8,(∀w∈l',w.b≠x)→l'.map ((fun y:Bl × Value=>if y.1=x then(x,Value.map (some a))else y) ∘ fun z:p8=>(z.b,Value.map (some z.a)))=l'.map fun z:p8=>(z.b,Value.map (some z.a)):=fun l' Q4=>List.map_congr_left fun w hw=>if_neg (Q4 w hw)
   rw[Gk p fun w hw=>lh w (.inl hw),Gk q fun w hw=>lh w (.inr hw)]
   simp[hzx]
  ·rw[zG (z:=z) hzx.symm];exact hn
  ·rcases C5 hw with hw|rfl
   ·exact hT w (EZ hw)
   ·obtain⟨c,h1,h2⟩:=hc
    exact⟨c,h1,h2,fun i hi=>by cases hi⟩
 ·refine⟨l++[⟨x,a,[]⟩],?_,?_,fun h w hw=>?_,fun T hT hc=>fun w hw=>?_,fun H=>?_⟩
  ·unfold gG
   rw[if_neg hx]
   unfold jx
   rw[List.map_append];rfl
  ·rw[E1]at hx
   rw[List.map_append,List.nodup_append]
   refine⟨hn,by simp,fun a ha b hb=>?_⟩
   simp only[List.map_cons,List.map_nil,List.mem_singleton]at hb
   rw[hb]
   exact fun e=>hx (e ▸ ha)
  ·rcases List.mem_append.1 hw with hw|hw
   ·exact h w hw
   ·rw[List.mem_singleton.1 hw];exact fun e he=>by cases he
  ·rcases C5 (q:=[]) hw with hw|rfl
   ·rw[List.append_nil]at hw;exact hT w hw
   ·obtain⟨c,h1,h2⟩:=hc
    exact⟨c,h1,h2,fun i hi=>by cases hi⟩
  ·have:=yW l [] ⟨x,a,[]⟩ H
   rw[List.append_nil]at this
   exact this
def NP{κ:Type}[DecidableEq κ]{es:List (κ × Value)}{k j:κ}{v:Value}(h:j∈(gG es k v).map (·.1)):j∈es.map (·.1)∨j=k:=by
 unfold gG at h
 split at h
 ·rw[List.map_map]at h
  obtain⟨y,hy,rfl⟩:=List.mem_map.1 h
  simp only[Function.comp]
  split
  ·exact .inr rfl
  ·exact .inl (List.mem_map.2 ⟨y,hy,rfl⟩)
 ·rw[List.map_append]at h
  rcases List.mem_append.1 h with h|h
  ·exact .inl h
  ·exact .inr (by simpa using h)
def NO{κ:Type}[DecidableEq κ]{es:List (κ × Value)}{k:κ}{v:Value}(h:∀e∈es,e.2=v):∀e∈gG es k v,e.2=v:=fun e he=>by
 unfold gG at he
 split at he
 ·obtain⟨y,hy,rfl⟩:=List.mem_map.1 he
  split
  ·rfl
  ·exact h y hy
 ·rcases List.mem_append.1 he with he|he
  ·exact h e he
  ·rw[List.mem_singleton.1 he]
def Pn{p q:List p8}{z:p8}(i:Int):jx (p++⟨z.b,z.a,gG z.es i (.bool true)⟩::q)=jx (p++z::q)∧(SK (p++z::q)→SK (p++⟨z.b,z.a,gG z.es i (.bool true)⟩::q)) ∧
  ∀T,gV (E0 (p++z::q)) T→(T.map fun c=>c.x.d).Nodup→(∃c∈T,c.x=z.b∧cG c.ws c.n i=true)→gV (E0 (p++⟨z.b,z.a,gG z.es i (.bool true)⟩::q)) T:=by
 refine⟨by unfold jx;simp,fun h=>h.mid (NO fun e he=>h z (by simp) e he),fun T hT hn hc=>fun w hw=>?_⟩
 rcases C5 hw with hw|rfl
 ·exact hT w (EZ hw)
 ·obtain⟨c,h1,h2,h3⟩:=hT (z.b,z.es.map (·.1)) (by unfold E0;simp)
  obtain⟨c',g1,g2,g3⟩:=hc
  have hcc:c'=c:=by
   obtain⟨j,hj⟩:=List.mem_iff_getElem?.1 h1
   obtain⟨k,hk⟩:=List.mem_iff_getElem?.1 g1
   have d1:(T.map fun c=>c.x.d)[j]?=some c.x.d:=by rw[List.getElem?_map,hj];rfl
   have d2:(T.map fun c=>c.x.d)[k]?=some c'.x.d:=by rw[List.getElem?_map,hk];rfl
   have zT:=(List.getElem?_inj (j:=k) ((List.getElem?_eq_some_iff.1 d1).1) hn).1 (by rw[d1,d2,g2,h2])
   rw[zT,hk]at hj
   exact Option.some.inj hj
  refine⟨c,h1,h2,fun j hj=>?_⟩
  rcases NP hj with hj|rfl
  ·exact h3 j hj
  ·rw[← hcc];exact g3
def Pm(l:List p8)(x:Bl):∃l',jx l'=rZ (jx l) x∧((l.map (·.b)).Nodup→(l'.map (·.b)).Nodup)∧(SK l→SK l')∧E0 l'=GR (E0 l) x∧∀H,ak (sf l::H) (sf l'::H):=by
 refine⟨l.filter fun z => !decide (z.b=x),?_,fun h=>(List.filter_sublist.map _).nodup h,fun h w hw=>h w (List.mem_filter.1 hw).1,?_,fun H=>Ku List.filter_sublist H⟩
 ·unfold rZ jx
  rw[List.filter_map];rfl
 ·unfold GR E0
  rw[List.filter_map];rfl
def YX{l:List p8}{T:List TC}(h:gV (E0 l) T)(hn:(T.map fun c=>c.x.d).Nodup){c:TC}(hc:c∈T){i:Int}(hi:cG c.ws c.n i=false){z:p8}(hz:z∈l)(hb:z.b=c.x):dP z.es i=none:=by
 cases hx:dP z.es i with
 | none=>rfl
 | some v =>
  exfalso
  obtain⟨c',g1,g2,g3⟩:=h (z.b,z.es.map (·.1)) (List.mem_map.2 ⟨z,hz,rfl⟩)
  have hcc:c'=c:=by
   obtain⟨j,hj⟩:=List.mem_iff_getElem?.1 hc
   obtain⟨k,hk⟩:=List.mem_iff_getElem?.1 g1
   have d1:(T.map fun c=>c.x.d)[j]?=some c.x.d:=by rw[List.getElem?_map,hj];rfl
   have d2:(T.map fun c=>c.x.d)[k]?=some c'.x.d:=by rw[List.getElem?_map,hk];rfl
   have zT:=(List.getElem?_inj (j:=k) ((List.getElem?_eq_some_iff.1 d1).1) hn).1 (by rw[d1,d2,g2,hb])
   rw[zT,hk]at hj
   exact Option.some.inj hj
  have hm:i∈z.es.map (·.1):=by
   unfold dP at hx
   cases hf:z.es.find? (fun y=>decide (y.1=i))with
   | none=>rw[hf]at hx;cases hx
   | some y =>
    have h1:=List.mem_of_find?_eq_some hf
    have h2:=List.find?_some hf
    simp only[decide_eq_true_eq]at h2
    exact List.mem_map.2 ⟨y,h1,h2⟩
  have:=g3 i hm
  rw[hcc,hi]at this
  cases this
theorem G1{kt e:TypeId}(hu:P.underlying kt=some (.array 32 e))(he:P.underlying e=some (.int .u8))(hc:P.cellsOf e=1)(em:Bool)(k:Dg)(D:Nat)(w:World):(Instr.checkKey em (D+2) kt (dV k)).run P w = .ok () w:=by
 obtain⟨i,hi⟩:=info_of_underlying he
 have K2:P.plainKey e=true:=by unfold Program.plainKey;rw[he]
 have iY:(sizeOf e).run P w = .ok 1 w:=by
  rw[Go.run_sizeOf w hi];congr 1
 rw[Instr.checkKey]
 simp only[Sem.run_bind,Go.run_underlying hu,Result.andThen_ok,dV]
 simp only[Std.Legacy.Range.forIn_eq_forIn_range',Std.Legacy.Range.size,Nat.sub_zero,Nat.add_one_sub_one,Nat.div_one]
 have each:∀j∈List.range' 0 32,j<32:=fun j hj=>by simp[List.mem_range']at hj;omega
 generalize List.range' 0 32=is at each
 induction is with
 | nil=>simp
 | cons j is ih =>
  have hj:=each j (by simp)
  have dK:(dC k).toArray[j*1]?=some (u8 (k.at j)):=by
   rw[Nat.mul_one,dL]
   simp only[List.getElem?_toArray]
   rw[show bV k.bs=k.bs.map u8 from rfl,List.getElem?_map,List.getElem?_eq_getElem (by rw[k.len];exact hj)]
   grind [Dg.at]
  have p1:(part e (dC k).toArray (j*1)).run P w = .ok (u8 (k.at j)) w:=run_part_plain w K2 dK
  have p2:(Instr.checkKey em (D+1) e (u8 (k.at j))).run P w = .ok () w:=by
   rw[Instr.checkKey]
   simp[Go.run_underlying he,u8]
  simp_all
def G0{t:TypeId}(hu:P.underlying t=some (.int .i64))(em:Bool)(a:Int)(D:Nat)(w:World):(Instr.checkKey em (D+1) t (.int .i64 a)).run P w = .ok () w:=by
 rw[Instr.checkKey]
 simp[Go.run_underlying hu]
def Rw(h1 : P.fieldsOf 39 = #[{ name := "Digest", type := 37, offset := 0, embedded := false, tag := "", pkgPath := "", byteOffset := 0 },
        { name := "Size", type:=3,offset:=32,embedded:=false,tag := "", pkgPath := "", byteOffset:=32 },
        { name := "Piece", type:=3,offset:=33,embedded:=false,tag := "", pkgPath := "", byteOffset:=40 },
        { name := "Root", type:=37,offset:=34,embedded:=false,tag := "", pkgPath := "", byteOffset:=48 }])(h2:P.underlying 39=some (.struct (P.fieldsOf 39)))(h4:P.cellsOf 37=32)(h5:P.cellsOf 5=1)(h6:P.plainKey 3=true)(h7:P.underlying 37=some (.array 32 5))(h8:P.underlying 5=some (.int .u8))(h9:P.underlying 3=some (.int .i64))(em:Bool)(x:Bl)(w:World) :
    (Instr.checkKey em 10000 39 (dG x)).run P w = .ok () w:=by
  have c1:=G1 h7 h8 h5 em x.d 9997 w
  have c4:=G1 h7 h8 h5 em x.root 9997 w
  have c2:=G0 h9 em x.size 9998 w
  have c3:=G0 h9 em x.piece 9998 w
  have p1:=rA h7 h4 (bH x) 0 _ (UD x) w
  have p4:=rA h7 h4 (bH x) 34 _ (Rx x) w
  have p2:=Go.run_part_plain w h6 (aap x)
  have p3:=Go.run_part_plain w h6 (aao x)
  rw[show(10000:Nat)=9999+1 from rfl,Instr.checkKey]
  simp only[Sem.run_bind,Go.run_underlying h2,Result.andThen_ok,dG,h1]
  simp[p1,p2,p3,p4,c1,c2,c3,c4]
def UB(em:Bool)(x:Bl)(w:World):(Instr.checkKey em 10000 39 (dG x)).run Tryz.prog w = .ok () w :=
 Rw RB JS adA UF adz Tryz.underlying37 Tryz.underlying5 Tryz.underlying3 em x w
def UE{a b:Bl}(h:dG a=dG b):a=b:=by
 unfold dG at h
 injection h with h
 have h':bH a=bH b:=by
  have:=congrArg Array.toList h
  simpa using this
 obtain⟨d1,s1,p1,r1⟩:=a
 obtain⟨d2,s2,p2,r2⟩:=b
 unfold bH at h'
 simp only at h'
 have l1:(dC d1).length=(dC d2).length:=by rw[dD,dD]
 rw[List.append_assoc,List.append_assoc]at h'
 obtain⟨e1,e2⟩:=List.append_inj h' l1
 simp only[List.cons_append,List.nil_append,List.cons.injEq,Value.int.injEq,true_and]at e2
 obtain⟨e3,e4,e5⟩:=e2
 rw[JK e1,e3,e4,JK e5]
def uj(n:Nat):∀l:List Value,(∀v∈l,Instr.sameBits n v v=true)→∀x∈l.zip l,Instr.sameBits n x.1 x.2=true
 | [],_,x,hx=>by simp at hx
 | v::l,h,x,hx=>by
  rw[List.zip_cons_cons]at hx
  rcases List.mem_cons.1 hx with rfl|hx
  ·exact h v (by simp)
  ·exact uj n l (fun w hw=>h w (by simp[hw])) x hx
theorem nE:kG Tryz.prog 39 dG where
 inj _ _:=UE
 check em k w:=UB em k w
 find k l ks w h:=by
  rw[run_findKey_eq (w:=w) (by rw[JS])]
  have key:∀(l:List MapEntry) (ks:List Bl) (o:Nat),l.map (·.key)=ks.map dG →
    ∃r,(Instr.findAsking 39 (dG k) l o).run Tryz.prog w = .ok r w∧((r=none∧k ∉ ks)∨∃i e,r=some (o+i,e.val)∧l[i]?=some e∧ks[i]?=some k∧∀j,j<i→ks[j]? ≠ some k):=by
   intro l
   induction l with
   | nil =>
    intro ks o h
    have:ks=[]:=by simpa using h.symm
    subst this
    exact⟨none,by simp[Instr.findAsking],.inl ⟨rfl,by simp⟩⟩
   | cons en l ih =>
    intro ks o h
    cases ks with
    | nil=>simp at h
    | cons c ks =>
     simp only[List.map_cons,List.cons.injEq]at h
     obtain⟨h1,h2⟩:=h
     have hq:(Op.equal 39 (dG k) en.key).run Tryz.prog w = .ok (decide (k=c)) w:=by rw[h1];exact Uw k c w
     by_cases Jg:k=c
     ·subst Jg
      refine⟨some (o+0,en.val),by simp[Instr.findAsking,hq],.inr ⟨0,en,rfl,by simp,by simp,fun j hj=>absurd hj ag⟩⟩
     ·obtain⟨r,hr,iF⟩:=ih ks (o+1) h2
      refine⟨r,by simp[Instr.findAsking,hq,Jg,hr],?_⟩
      rcases iF with⟨rfl,hn⟩|⟨i,e',rfl,hi,hk,hj⟩
      ·grind
      ·refine .inr ⟨i+1,e',by rw[Nat.add_assoc,Nat.add_comm 1 i],by simpa using hi,by simpa using hk,fun j oX=>?_⟩
       cases j with
       | zero=>simp;exact fun h=>Jg h.symm
       | succ j=>simpa using hj j ag
  obtain⟨r,hr,iF⟩:=key l ks 0 h
  grind
 bits k:=by
  rw[show(10000:Nat)=9999+1 from rfl]
  simp only[dG,Instr.sameBits,beq_self_eq_true,Bool.true_and,List.all_eq_true]
  refine uj 9999 _ fun v hv=>?_
  have hd:∀d:Dg,∀v∈dC d,Instr.sameBits 9999 v v=true:=fun d v hv=>by
   rw[dL]at hv
   obtain⟨u,_,rfl⟩:=List.mem_map.1 (show v∈d.bs.map u8 from hv)
   simp[u8,Instr.sameBits]
  simp only[bH]at hv
  rcases List.mem_append.1 hv with hv|hv
  ·rcases List.mem_append.1 hv with hv|hv
   ·exact hd _ v hv
   ·simp only[List.mem_cons,List.not_mem_nil,or_false]at hv
    rcases hv with rfl|rfl <;> simp[Instr.sameBits]
  ·exact hd _ v hv
def DT(f n i:Nat)(h:n≤1):e7 f n i=0:=by
 cases f with
 | zero=>rfl
 | succ f=>unfold e7;rw[if_pos h]
attribute [local irreducible] J K aD Ends ae aF aL bU bo aU bh bq cg Sha.chunks Sha.chunk Sha.rounds Sha.sched dW cy cS eY
def Oz(n i:Int):aD Tryz.prog 169 [.int .i64 n,.int .i64 i] [] (fun r H=>r = .int .i64 (dB n i:Int)∧H=[]):=by
 have ED:=oQ n i
 refine aD.aw Tryz.func169 Tryz.ntmps169 fun G F R hE=>?_
 by_cases iJ:1≤n∧n≤1024∧0≤i∧i<n
 case neg =>
  have hd:dB n i=0:=by unfold dB;rw[if_neg iJ]
  rw[hd]at hE
  repeat'(first|(with_reducible intro p6)|refine eZ ?_|refine hJ zr zr zr zr ?_ ?_|refine au zr zr ?_ ?_|fail)
  all_goals(first|(exfalso;omega)|skip)
  all_goals(
   refine go ?_
   ((refine ad hE Tryz.func169 zr zr ⟨rfl,rfl⟩)))
 obtain⟨m,rfl⟩:∃k:Nat,n=k:=⟨n.toNat,ag⟩
 obtain⟨k,rfl⟩:∃k:Nat,i=k:=⟨i.toNat,ag⟩
 have hd:dB (m:Int) (k:Int)=e7 m m k:=by unfold dB;rw[if_pos iJ];rfl
 rw[hd]at hE ED
 refine go ?_
 refine az 8 ((.bool false)) rfl ((congrArg Value.bool (decide_eq_false ag))) (go ?_)
 refine az 12 ((.bool false)) rfl ((congrArg Value.bool (decide_eq_false ag))) (go ?_)
 refine bj 16 ((.bool false)) rfl ((congrArg Value.bool (decide_eq_false ag))) (go ?_)
 refine bj 20 ((.bool false)) rfl ((congrArg Value.bool (decide_eq_false ag))) (go ?_)
 refine bB (fun g:Nat × Nat × Nat=>1≤g.1∧g.1≤m∧g.2.1<g.1∧g.2.2+e7 m g.1 g.2.1=e7 m m k) (fun g=>g.1)
  (fun g=>[(0,.int .i64 (g.1:Int)),(1,.int .i64 (g.2.1:Int)),(5,.int .i64 (g.2.2:Int))]) (fun _=>F) (m,k,0) ⟨by simp only;omega,Nat.le_refl _,by simp only;omega,by simp⟩ rfl ck ah ?_
 rintro⟨p,q,c⟩⟨h1,h2,h3,h4⟩ ih
 simp only at h1 h2 h3 h4
 dsimp only
 refine go ?_
 refine au zr zr ?_ ?_
 case' refine_2 =>
  intro hle
  rw[DT m p q ag,Nat.add_zero]at h4
  rw[← h4]at hE
  clear ih
  refine go ?_
  refine ad hE Tryz.func169 zr zr ⟨rfl,rfl⟩
 intro OY
 have bP:=xQ m p q h2 ag
 refine gE rfl ?_
 refine xW 2 (fun c2:Nat=>c2+e7 m ((p+1)/2) (q/2)=e7 m m k) (fun c2=>[(0,.int .i64 (p:Int)),(1,.int .i64 (q:Int)),(5,.int .i64 (c2:Int))]) (fun _=>F) rfl ?_ ?_
 rotate_left
 ·intro tail
  refine go ?_
  refine nT zr zr zr ag ag ?_
  by_cases rV:q%2=1
  ·have hs:(dS p q).isSome=true:=by unfold dS;rw[if_pos rV];rfl
   rw[if_pos hs]at bP
   refine az 24 ((.int .i64 1)) rfl ((congrArg (Value.int .i64) ag)) ?_
   refine ln ?_
   refine pV zr zr ?_
   (refine aB rfl ?_;refine ln ?_)
   refine jX tail (c+1) rfl ag ck ah
  ·refine az 24 ((.int .i64 0)) rfl ((congrArg (Value.int .i64) ag)) (go ?_)
   by_cases xN:q+1<p
   ·have hs:(dS p q).isSome=true:=by unfold dS;rw[if_neg rV,if_pos xN];rfl
    rw[if_pos hs]at bP
    refine bj 31 ((.bool true)) rfl ((congrArg Value.bool (decide_eq_true ag))) ?_
    refine pV zr zr ?_
    (refine aB rfl ?_;refine ln ?_)
    refine jX tail (c+1) rfl ag ck ah
   ·have hs:¬(dS p q).isSome=true:=by unfold dS;rw[if_neg rV,if_neg xN];simp
    rw[if_neg hs]at bP
    refine bj 31 ((.bool false)) rfl ((congrArg Value.bool (decide_eq_false ag))) ?_
    refine nR zr zr ?_
    refine jX tail c rfl ag ck ah
 intro c2 h5
 refine go ?_
 refine lP zr zr zr ag ag (by simp only[gy];omega) ?_
 refine az 36 ((.int .i64 (((p+1)/2:Nat):Int))) rfl ((congrArg (Value.int .i64) ag)) (go ?_)
 refine lP zr zr zr ag ag (by simp only[gy];omega) ?_
 refine az 38 ((.int .i64 ((q/2:Nat):Int))) rfl ((congrArg (Value.int .i64) ag)) (go ?_)
 refine aM ih ((p+1)/2,q/2,c2) rfl ⟨by simp only;omega,by simp only;omega,by simp only;omega,h5⟩ (by simp only;omega) ck ah
end Go.Proofs.YthnfckodljbgbaaGreatDoor
namespace Go.Proofs.YthnfckodljbgbaaGreatDoor
open Go Go.SL
def DZ(f n i:Nat)(x:Dg)(p:List Dg)(h:n≤1):im f n i x p=x:=by
 cases f with
 | zero=>rfl
 | succ f=>unfold im;rw[if_pos h]
attribute [local irreducible] J K aD Ends ae aF aL bU bo aU bh bq cg Sha.chunks Sha.chunk Sha.rounds Sha.sched dW cy cS eY
def OH(X:HP)(root leaf:Dg)(n i:Int)(pv:Value)(proof:List Dg)(hp:AY X pv proof) :
  aD Tryz.prog 110 [dV root,.int .i64 n,.int .i64 i,dV leaf,pv] [X] (fun r H=>r = .bool (gS root n i leaf proof)∧H=[X]):=by
 have Ez:=hp
 obtain⟨hv,a,c,rfl,hc⟩:=hp
 unfold dV
 refine aD.aw Tryz.func110 Tryz.ntmps110 fun G F R hE=>?_
 refine aB rfl ?_
 refine bG zr zr bE ?_
 intro b5
 refine bG zr zr bE ?_
 intro b8
 by_cases iJ:1≤n∧n≤1024∧0≤i∧i<n
 case neg =>
  have hcf:gS root n i leaf proof=false:=by
   unfold gS
   exact decide_eq_false fun h=>iJ h.1
  rw[hcf]at hE
  repeat'(first|(with_reducible intro p6)|refine eZ ?_|refine hJ zr zr zr zr ?_ ?_|fail)
  all_goals(first|(exfalso;omega)|skip)
  all_goals(
   refine go ?_
   refine ai (H':=X::F) ah ?_
   ((refine ad hE Tryz.func110 zr zr ⟨rfl,rfl⟩)))
 obtain⟨m,rfl⟩:∃k:Nat,n=k:=⟨n.toNat,ag⟩
 obtain⟨k,rfl⟩:∃k:Nat,i=k:=⟨i.toNat,ag⟩
 have hd:dB (m:Int) (k:Int)=e7 m m k:=by unfold dB;rw[if_pos iJ];rfl
 refine go ?_
 refine az 15 ((.bool false)) rfl ((congrArg Value.bool (decide_eq_false ag))) (go ?_)
 refine az 19 ((.bool false)) rfl ((congrArg Value.bool (decide_eq_false ag))) (go ?_)
 refine az 23 ((.bool false)) rfl ((congrArg Value.bool (decide_eq_false ag))) (go ?_)
 refine az 28 ((.bool false)) rfl ((congrArg Value.bool (decide_eq_false ag))) (go ?_)
 refine aN (Oz (m:Int) (k:Int)) ?_
 refine go ?_
 by_cases qg:proof.length=dB (m:Int) (k:Int)
 case neg =>
  have hcf:gS root (m:Int) (k:Int) leaf proof=false:=by
   unfold gS
   exact decide_eq_false fun h=>qg h.2.1
  rw[hcf]at hE
  ((refine bj 35 ((.bool true)) rfl ((congrArg Value.bool (by simp;omega))) ?_))
  refine go ?_
  refine ai (H':=X::F) ah ?_
  refine ad hE Tryz.func110 zr zr ⟨rfl,rfl⟩
 have VE:gS root (m:Int) (k:Int) leaf proof=decide (im m m k leaf proof=root):=by
  unfold gS
  refine decide_eq_decide.2 ⟨fun h=>h.2.2,fun h=>⟨iJ,qg,h⟩⟩
 rw[VE]at hE
 ((refine bj 35 ((.bool false)) rfl ((congrArg Value.bool (by simp;omega))) ?_))
 refine go ?_
 refine aH (U:=aR) (l:=dC leaf) 0 zr zr zr zr zr zr (go ?_)
 refine aC zr zr zr bE ?_
 intro VT
 refine aV ?_
 refine cH (U:=aR) (l':=dC leaf) 0 gf rfl rfl rfl rfl (by intro e;cases e) (by rw[dL];exact gU _) rfl rfl rfl ?_
 refine go ?_
 refine bB (fun g:Nat × Nat × Dg × List Dg × Option Addr × Nat=>1≤g.1∧g.1≤m∧g.2.1<g.1∧g.2.2.2.1.length=e7 m g.1 g.2.1∧im m g.1 g.2.1 g.2.2.1 g.2.2.2.1=im m m k leaf proof∧AY X (.slice g.2.2.2.2.1 g.2.2.2.1.length g.2.2.2.2.2) g.2.2.2.1) (fun g=>g.1)
  (fun g=>[(1,.int .i64 (g.1:Int)),(2,.int .i64 (g.2.1:Int)),(5,ptr b5),(11,ptr VT),(12,.slice g.2.2.2.2.1 g.2.2.2.1.length g.2.2.2.2.2)])
  (fun g=>X::ae b5 (cl (dC root) 37)::ae VT (cl (dC g.2.2.1) 37)::F) (m,k,leaf,proof,a,c) ⟨by simp only;omega,Nat.le_refl _,by simp only;omega,by rw[qg,hd],rfl,Ez⟩ rfl ck ah ?_
 rintro⟨p,q,x,rest,ra,rc⟩⟨h1,h2,h3,h4,h5,h6⟩ ih
 simp only at h1 h2 h3 h4 h5 h6
 dsimp only
 refine go ?_
 refine au zr zr ?_ ?_
 case' refine_2 =>
  intro hle
  rw[DZ m p q x rest ag]at h5
  rw[← h5]at hE
  clear ih
  refine go ?_
  refine aH (U:=aR) (l:=dC x) 2 zr zr zr zr zr zr (go ?_)
  refine aH (U:=aR) (l:=dC root) 1 zr zr zr zr zr zr (go ?_)
  refine lC (b:=decide (x=root)) zr zr zr Jx (fun w=>JH x root w) ?_
  refine go ?_
  refine ai (H':=X::F) ah ?_
  refine ad hE Tryz.func110 zr zr ⟨rfl,rfl⟩
 intro OY
 have bP:=xQ m p q h2 ag
 have kP:=GZ m p q x rest h2 ag
 refine gE rfl ?_
 refine xW 2 (fun g:Dg × List Dg × Option Addr × Nat=>g.2.1.length=e7 m ((p+1)/2) (q/2)∧im m ((p+1)/2) (q/2) g.1 g.2.1=im m m k leaf proof∧AY X (.slice g.2.2.1 g.2.1.length g.2.2.2) g.2.1) (fun g=>[(1,.int .i64 (p:Int)),(2,.int .i64 (q:Int)),(5,ptr b5),(11,ptr VT),(12,.slice g.2.2.1 g.2.1.length g.2.2.2)]) (fun g=>X::ae b5 (cl (dC root) 37)::ae VT (cl (dC g.1) 37)::F) rfl ?_ ?_
 rotate_left
 ·intro tail
  refine go ?_
  refine nT zr zr zr ag ag ?_
  by_cases rV:q%2=1
  ·have hs:dS p q=some (q-1):=by unfold dS;rw[if_pos rV]
   rw[hs]at bP kP
   simp only[Option.isSome_some,if_true]at bP kP
   rw[if_pos ag]at kP
   obtain⟨p0,rest,rfl⟩:∃p0 r,rest=p0::r:=by
    cases rest with
    | nil=>rw[List.length_nil]at h4;exfalso;omega
    | cons p0 r=>exact⟨p0,r,rfl⟩
   simp only[List.headD_cons,List.tail_cons]at kP
   rw[List.length_cons]at h4
   obtain⟨dO,a1,c1,DK,Jq⟩:=h6
   obtain⟨bb,oo,cc,he⟩:=dO.some (by rw[List.flatMap_cons];intro h;simp[dC]at h)
   simp only[Value.slice.injEq]at he
   obtain⟨rfl,-,rfl⟩:=he
   simp only[Value.slice.injEq,true_and]at DK
   obtain⟨rfl,rfl⟩:=DK
   have pY:=AY.tail ⟨dO,_,_,rfl,Jq⟩
   have fO:∀(q':Nat) (v:Value),(dC p0)[q']?=some v→((p0::rest).flatMap dC)[0+q']?=some v:=fun q' v hq=>by
    rw[Nat.zero_add,List.flatMap_cons,List.getElem?_append_left (List.getElem?_eq_some_iff.1 hq).1];exact hq
   refine az 41 ((.int .i64 1)) rfl ((congrArg (Value.int .i64) ag)) ?_
   refine ln ?_
   refine pV zr zr ?_
   refine gE rfl ?_
   refine aG (fun w=>Sat G w ([ae VT (cl (dC x) 37),X])) (dj 0 4 (.act 4 (.act 5 .nil))) rfl aq aq aq eo ?_
   (repeat(first|refine eZ ?_|refine bZ 0 32 zr zr zr zr zr zr zr zr (by simp) ?_|refine bT (U:=aR) (l:=dC x) 0 zr zr zr zr zr zr ?_|(refine aK ?_;refine e8 (U:=aR) (es:=dC p0) 1 0 zr zr zr dO rfl fO zr zr zr ?_)))
   refine bp (AM p0 x) ?_
   refine aV ?_
   refine cH (U:=aR) (l':=dC (eY p0 x)) 2 gf rfl rfl rfl rfl (by intro e;cases e) (by rw[dL];exact gU _) rfl rfl rfl ?_
   refine go ?_
   refine bt (p:=1) (q:=((p0::rest).length:Int)) zr zr zr zr zr zr zr ag (by simp only[List.length_cons];omega) (.inl rfl) ?_
   ((refine az 49 ((.slice (sliceAt (some ⟨bb,oo,none⟩) rc 1 32) rest.length (rc-1))) rfl ((by rw[show((p0::rest).length:Int).toNat=rest.length+1 from by simp[List.length_cons],show(1:Int).toNat=1 from rfl,show rest.length+1-1=rest.length by omega];rfl)) ?_))
   refine ln ?_
   refine jX tail (eY p0 x,rest,sliceAt (some ⟨bb,oo,none⟩) rc 1 32,rc-1) rfl ⟨by simp only;omega,by rw[← h5,kP],pY⟩ ck ah
  ·refine az 41 ((.int .i64 0)) rfl ((congrArg (Value.int .i64) ag)) ?_
   refine ln ?_
   refine nR zr zr ?_
   by_cases xN:q+1<p
   ·have hs:dS p q=some (q+1):=by unfold dS;rw[if_neg rV,if_pos xN]
    rw[hs]at bP kP
    simp only[Option.isSome_some,if_true]at bP kP
    rw[if_neg ag]at kP
    obtain⟨p0,rest,rfl⟩:∃p0 r,rest=p0::r:=by
     cases rest with
     | nil=>rw[List.length_nil]at h4;exfalso;omega
     | cons p0 r=>exact⟨p0,r,rfl⟩
    simp only[List.headD_cons,List.tail_cons]at kP
    rw[List.length_cons]at h4
    obtain⟨dO,a1,c1,DK,Jq⟩:=h6
    obtain⟨bb,oo,cc,he⟩:=dO.some (by rw[List.flatMap_cons];intro h;simp[dC]at h)
    simp only[Value.slice.injEq]at he
    obtain⟨rfl,-,rfl⟩:=he
    simp only[Value.slice.injEq,true_and]at DK
    obtain⟨rfl,rfl⟩:=DK
    have pY:=AY.tail ⟨dO,_,_,rfl,Jq⟩
    have fO:∀(q':Nat) (v:Value),(dC p0)[q']?=some v→((p0::rest).flatMap dC)[0+q']?=some v:=fun q' v hq=>by
     rw[Nat.zero_add,List.flatMap_cons,List.getElem?_append_left (List.getElem?_eq_some_iff.1 hq).1];exact hq
    (refine aB rfl ?_;refine ln ?_)
    refine bj 53 ((.bool true)) rfl ((congrArg Value.bool (decide_eq_true ag))) ?_
    refine pV zr zr ?_
    refine gE rfl ?_
    refine aG (fun w=>Sat G w ([ae VT (cl (dC x) 37),X])) (dj 0 4 (.act 4 (.act 5 .nil))) rfl aq aq aq eo ?_
    (repeat(first|refine eZ ?_|refine bZ 0 32 zr zr zr zr zr zr zr zr (by simp) ?_|refine bT (U:=aR) (l:=dC x) 0 zr zr zr zr zr zr ?_|(refine aK ?_;refine e8 (U:=aR) (es:=dC p0) 1 0 zr zr zr dO rfl fO zr zr zr ?_)))
    refine bp (AM x p0) ?_
    refine aV ?_
    refine cH (U:=aR) (l':=dC (eY x p0)) 2 gf rfl rfl rfl rfl (by intro e;cases e) (by rw[dL];exact gU _) rfl rfl rfl ?_
    refine go ?_
    refine bt (p:=1) (q:=((p0::rest).length:Int)) zr zr zr zr zr zr zr ag (by simp only[List.length_cons];omega) (.inl rfl) ?_
    ((refine az 60 ((.slice (sliceAt (some ⟨bb,oo,none⟩) rc 1 32) rest.length (rc-1))) rfl ((by rw[show((p0::rest).length:Int).toNat=rest.length+1 from by simp[List.length_cons],show(1:Int).toNat=1 from rfl,show rest.length+1-1=rest.length by omega];rfl)) ?_))
    refine ln ?_
    refine jX tail (eY x p0,rest,sliceAt (some ⟨bb,oo,none⟩) rc 1 32,rc-1) rfl ⟨by simp only;omega,by rw[← h5,kP],pY⟩ ck ah
   ·have hs:dS p q=none:=by unfold dS;rw[if_neg rV,if_neg xN]
    rw[hs]at bP kP
    simp only[Option.isSome_none]at bP kP
    (refine aB rfl ?_;refine ln ?_)
    refine bj 53 ((.bool false)) rfl ((congrArg Value.bool (decide_eq_false ag))) ?_
    refine nR zr zr ?_
    refine jX tail (x,rest,ra,rc) rfl ⟨by simp only;simp at bP;omega,by rw[← h5,kP],h6⟩ ck ah
 rintro⟨z,r2,ra2,rc2⟩⟨g1,g2,g3⟩
 simp only at g1 g2 g3
 dsimp only
 refine go ?_
 refine lP zr zr zr ag ag (by simp only[gy];omega) ?_
 refine az 63 ((.int .i64 (((p+1)/2:Nat):Int))) rfl ((congrArg (Value.int .i64) ag)) (go ?_)
 refine lP zr zr zr ag ag (by simp only[gy];omega) ?_
 refine az 65 ((.int .i64 ((q/2:Nat):Int))) rfl ((congrArg (Value.int .i64) ag)) (go ?_)
 refine aM ih ((p+1)/2,q/2,z,r2,ra2,rc2) rfl ⟨by simp only;omega,by simp only;omega,by simp only;omega,g1,g2,g3⟩ (by simp only;omega) ck ah
def N9(X:HP)(x:Bl)(i:Int)(bv:Value)(b:List UInt8)(hb:eO X bv b)(kQ:b.length≤900000000)(pv:Value)(p:List Dg)(hp:AY X pv p) :
  aD Tryz.prog 55 [dG x,.int .i64 i,bv,pv] [X] (fun r H=>r = .bool (dw x i b p)∧H=[X]):=by
 have wF:=hb
 have Ez:=hp
 obtain⟨ba,bc,rfl,Re⟩:=hb.2
 obtain⟨Jb,pa,pc,rfl,ys⟩:=hp
 have iC:=AI x i
 have hcn:=rR x
 have hlf:=Hn X _ b wF kQ
 have hck:=OH X x.root (cS b) (cC x) i _ p Ez
 unfold dG at iC hcn ⊢
 refine aD.aw Tryz.func55 Tryz.ntmps55 fun G F R hE=>?_
 refine aB rfl ?_
 refine bG zr zr bE ?_
 intro b4
 refine go ?_
 refine aH (U:=aR) (l:=bH x) 0 zr zr zr zr zr zr (go ?_)
 unfold dw at hE
 cases hs:dI x i with
 | none =>
  rw[hs]at iC hE
  dsimp only at iC hE
  refine aN iC ?_
  refine go ?_
  refine aG (fun w=>Sat G w ([ae b4 (cl (bH x) 39),X])) (dj 0 12 (.st 13 (.st 14 (.st 16 (.act 12 (.act 15 (.act 17 (.st 18 (.st 19 .nil))))))))) rfl aq aq aq eo ?_
  refine go ?_
  refine ai (H':=X::F) ah ?_
  refine ad hE Tryz.func55 zr zr ⟨rfl,rfl⟩
 | some an =>
 obtain⟨a,n⟩:=an
 rw[hs]at iC hE
 dsimp only at iC hE
 refine aN iC ?_
 refine go ?_
 refine aG (fun w=>Sat G w ([ae b4 (cl (bH x) 39),X])) (dj 0 12 (.st 13 (.st 14 (.st 16 (.act 12 (.act 15 (.act 17 (.st 18 (.st 19 .nil))))))))) rfl aq aq aq eo ?_
 refine go ?_
 by_cases hl:(b.length:Int)=n
 case neg =>
  rw[decide_eq_false hl,Bool.false_and]at hE
  refine az 27 ((.bool false)) rfl ((congrArg Value.bool (decide_eq_false hl))) (go ?_)
  refine ai (H':=X::F) ah ?_
  refine ad hE Tryz.func55 zr zr ⟨rfl,rfl⟩
 rw[decide_eq_true hl,Bool.true_and]at hE
 refine az 27 ((.bool true)) rfl ((congrArg Value.bool (decide_eq_true hl))) ?_
 (repeat(first|refine eZ ?_|refine cJ (U:=aR) 0 zr zr zr zr zr zr ?_))
 refine bp hcn ?_
 refine go ?_
 refine bp hlf ?_
 refine go ?_
 refine bp hck ?_
 refine go ?_
 refine ai (H':=X::F) ah ?_
 refine ad hE Tryz.func55 zr zr ⟨rfl,rfl⟩
end Go.Proofs.YthnfckodljbgbaaGreatDoor
namespace Go.Proofs.YthnfckodljbgbaaGreatDoor
open Go Go.SL
structure Sh(s:SJ)(ts:List Tk)(l:List p8):Prop where
 tl:ts.length≤1000
 n:∀y∈ts,y.n≤65536
 w:∀y∈ts,y.n≤y.ws.length*64
 wl:∀y∈ts,y.ws.length≤65536
 pf:∀y∈ts,∀k p,y.pf k=some p→p.length≤1000000
 fd:∀y∈ts,fH ts y.x=some y
 cn:∀y∈ts,(y.n:Int)=cC y.x
 rd:∀y∈ts,∀i,cG y.ws y.n i=true→(eC s.1 ts y.x i).2.2=0∧dw y.x i (eC s.1 ts y.x i).1 (eC s.1 ts y.x i).2.1=true∧(eC s.1 ts y.x i).1.length≤900000000
 no:∀y∈ts,∀i,cG y.ws y.n i=false→∀z∈l,z.b=y.x→dP z.es i=none
 ct:(ts.filter fun y=>decide (y.x∈l.map (·.b))).length=l.length
attribute [local irreducible] J K aD Ends ae aF aL bU bo aU bh bq cg Sha.chunks Sha.chunk Sha.rounds Sha.sched dW cy cS eY gg de dz aE cR bD sf
def Ox(tb bs jb bd:Nat)(tv:Value)(q:Int)(mb:Nat)(s:SJ)(ts:List Tk)(sb:Nat)(l:List p8)(h:Sh s ts l) :
  aD Tryz.prog 17 [ptr tb,.map (some sb)] (fe tb bs jb tv ts false++[cR bs bd jb q mb [] s,aL dG sb (jx l),sf l])
  (fun r H=>r = .bool true∧H=fe tb bs jb tv ts false++[cR bs bd jb q mb [] s,aL dG sb (jx l),sf l]):=by
 have pY:=h.tl
 have ZO:kG Tryz.prog 3 (Value.int .i64):=tw Tryz.underlying3
 have VG:=Kj tb bs jb tv false ts ag
 unfold fe at VG ⊢
 refine aD.aw Tryz.func17 Tryz.ntmps17 fun G F R hE=>?_
 refine go ?_
 refine aI VG ?_
 rintro r _ rfl
 refine aP 0 rfl ?_
 rintro ra rc rfl
 refine go ?_
 refine dg 0 rfl ?_
 intro KZ
 refine bB (fun k:Nat=>k≤ts.length) (fun k=>ts.length-k) (fun k=>[(0,ptr tb),(1,.map (some sb)),(5,.slice ra ts.length rc),(6,.int .i64 (k:Int))]) (fun _=>aF 39 66 (.slice ra ts.length rc) ts.length ((ts.map Tk.x).flatMap bH)::ae tb (cl [ptr bs,ptr jb,tv,.bool false] 74)::aF 76 1 tv ts.length (ts.map cT)::bD ts::cR bs bd jb q mb [] s::aL dG sb (jx l)::sf l::F) 0 (Nat.zero_le _) rfl ck ah ?_
 intro k hk ih
 refine go ?_
 refine au zr zr ?_ ?_
 ·intro dJ
  have hk':k<ts.length:=by omega
  obtain⟨y,hy⟩:∃y,ts[k]?=some y:=⟨ts[k],by simp⟩
  have wu:y∈ts:=List.mem_of_getElem? hy
  have Bj:(ts.map Tk.x)[k]?=some y.x:=by rw[List.getElem?_map,hy];rfl
  obtain⟨bb,oo,cc,fL⟩:=KZ.some (by rw[← List.length_pos_iff,cE ve];simp;omega)
  simp only[Value.slice.injEq,true_and]at fL
  obtain⟨rfl,rfl⟩:=fL
  have hbt:=OJ tb bs jb tv false ts y.x ag h.wl
  rw[h.fd y wu]at hbt
  unfold VR at hbt
  simp only at hbt
  unfold fe dG at hbt
  have MY:=h.n y wu
  have Dz:=h.w y wu
  have hyl:=h.wl y wu
  have I7:=h.cn y wu
  have Nm:=rR y.x
  unfold dG at Nm
  (repeat(first|refine eZ ?_|refine bZ k 66 zr zr zr zr zr zr zr zr hk' ?_|refine cI (U:=aR) (es:=bH y.x) 0 (k*66) zr zr zr KZ rfl (SH Bj) zr zr zr ?_))
  refine aI hbt ?_
  rintro _ _⟨ob,ov,rfl,rfl⟩
  refine go ?_
  refine aG (fun w=>Sat G w ([ae ob (cl [.int .i64 (y.n:Int),ov] 137),aF 39 66 (.slice (some ⟨bb,oo,none⟩) ts.length rc) ts.length ((ts.map Tk.x).flatMap bH)])) (dj 0 8 (dj 9 4 (.act 8 (.act 13 (.st 14 (.st 15 .nil)))))) rfl aq aq aq eo ?_
  (repeat(first|refine eZ ?_|refine bZ k 66 zr zr zr zr zr zr zr zr hk' ?_|refine e8 (U:=aR) (es:=bH y.x) 1 (k*66) zr zr zr KZ rfl (SH Bj) zr zr zr ?_))
  refine bp (lR ob y.n ov) ?_
  refine go ?_
  refine bp Nm ?_
  refine go ?_
  refine bj 49 ((.bool false)) rfl ((congrArg Value.bool (by simp[I7]))) (go ?_)
  have outer:=ih
  clear ih
  refine bB (fun i:Nat=>i≤y.n) (fun i=>y.n-i) (fun i=>[(0,ptr tb),(1,.map (some sb)),(5,.slice (some ⟨bb,oo,none⟩) ts.length rc),(6,.int .i64 (k:Int)),(7,ptr ob),(9,.int .i64 (i:Int))])
   (fun _=>eF ob y.n ov y.ws++(aF 39 66 (.slice (some ⟨bb,oo,none⟩) ts.length rc) ts.length ((ts.map Tk.x).flatMap bH)::ae tb (cl [ptr bs,ptr jb,tv,.bool false] 74)::aF 76 1 tv ts.length (ts.map cT)::bD ts::cR bs bd jb q mb [] s::aL dG sb (jx l)::sf l::F)) 0 (Nat.zero_le _) rfl ck (by unfold eF;exact ah) ?_
  intro i hi ih
  have hha:=vG ob y.n ov y.ws MY Dz (i:Int)
  unfold eF at hha ⊢
  refine go ?_
  refine aN (lR ob y.n ov) ?_
  refine go ?_
  refine au zr zr ?_ ?_
  ·intro qe
   have gz:i<y.n:=by omega
   obtain⟨hb,TY⟩:∃hb,cG y.ws y.n (i:Int)=hb:=⟨_,rfl⟩
   rw[TY]at hha
   refine go ?_
   refine aN hha ?_
   cases hb with
   | false =>
    have lh:=h.no y wu (i:Int) TY
    rcases oS l y.x with⟨h1,_⟩|⟨z,hz,QH,h1⟩
    ·(repeat(first|refine eZ ?_|refine bZ k 66 zr zr zr zr zr zr zr zr hk' ?_|refine cI (U:=aR) (es:=bH y.x) 2 (k*66) zr zr zr KZ rfl (SH Bj) zr zr zr ?_))
     refine iX (es:=jx l) (key:=y.x) 7 rfl nE zr zr zr zr zr zr zr zr ?_
     rw[h1,Option.getD_none]
     refine go ?_
     refine Hz (U:=aR) (key:=(i:Int)) rfl ZO zr zr zr zr zr zr zr (go ?_)
     refine aM ih (i+1) rfl (by show i+1≤_;omega) ag ck (by unfold eF;exact ah)
    ·obtain⟨p,qq,hl⟩:=List.append_of_mem hz
     have hgz:=lh z hz QH
     have DB:=C6 p qq z (ae ob (cl [.int .i64 (y.n:Int),ov] 137)::aF 133 1 ov y.ws.length (qV y.ws)::aF 39 66 (.slice (some ⟨bb,oo,none⟩) ts.length rc) ts.length ((ts.map Tk.x).flatMap bH)::ae tb (cl [ptr bs,ptr jb,tv,.bool false] 74)::aF 76 1 tv ts.length (ts.map cT)::bD ts::cR bs bd jb q mb [] s::aL dG sb (jx l)::F)
     have TD:=yW p qq z (ae ob (cl [.int .i64 (y.n:Int),ov] 137)::aF 133 1 ov y.ws.length (qV y.ws)::aF 39 66 (.slice (some ⟨bb,oo,none⟩) ts.length rc) ts.length ((ts.map Tk.x).flatMap bH)::ae tb (cl [ptr bs,ptr jb,tv,.bool false] 74)::aF 76 1 tv ts.length (ts.map cT)::bD ts::cR bs bd jb q mb [] s::aL dG sb (jx l)::F)
     rw[← hl]at DB TD
     refine aJ (ak.trans ah DB) ?_
     (repeat(first|refine eZ ?_|refine bZ k 66 zr zr zr zr zr zr zr zr hk' ?_|refine cI (U:=aR) (es:=bH y.x) 4 (k*66) zr zr zr KZ rfl (SH Bj) zr zr zr ?_))
     refine iX (es:=jx l) (key:=y.x) 9 rfl nE zr zr zr zr zr zr zr zr ?_
     rw[h1,Option.getD_some]
     refine go ?_
     refine iX (es:=z.es) (key:=(i:Int)) 0 rfl ZO zr zr zr zr zr zr zr zr ?_
     rw[hgz,Option.getD_none]
     refine go ?_
     refine aM ih (i+1) rfl (by show i+1≤_;omega) ag ck (by unfold eF;exact ak.trans ah (ak.trans TD ah))
   | true =>
    obtain⟨r1,r2,r3⟩:=h.rd y wu (i:Int) TY
    have TK:=J5 tb bs jb bd tv q mb ts false s y.x (i:Int) ag h.n h.w h.pf
    obtain⟨pt,wD⟩:∃z,z=eC s.1 ts y.x (i:Int):=⟨_,rfl⟩
    rw[← wD]at TK r1 r2 r3
    clear wD
    obtain⟨p1,p2,pe⟩:=pt
    simp only at TK r1 r2 r3
    subst r1
    unfold fe dG at TK
    (repeat(first|refine eZ ?_|refine bZ k 66 zr zr zr zr zr zr zr zr hk' ?_|refine cI (U:=aR) (es:=bH y.x) 2 (k*66) zr zr zr KZ rfl (SH Bj) zr zr zr ?_))
    refine aI TK ?_
    rintro _ _⟨v1,v2,rfl,rfl⟩
    refine aP 0 rfl ?_
    rintro ba bc rfl
    refine aP 1 rfl ?_
    rintro pa pc rfl
    refine ln ?_
    refine kH 0 rfl ?_
    intro Re
    refine dg 0 rfl ?_
    intro Rb
    refine kH 1 rfl ?_
    intro ys
    refine dg 1 rfl ?_
    intro Jb
    obtain⟨Y,hY⟩:∃Y,Y=Sep [aF 5 1 (.slice ba p1.length bc) p1.length (bV p1),aF 37 32 (.slice pa p2.length pc) p2.length (p2.flatMap dC)]:=⟨_,rfl⟩
    have hbY:eO Y (.slice ba p1.length bc) p1:=hY ▸ eO.mono ⟨Rb,ba,bc,rfl,Re⟩ (aY (i:=0) rfl)
    have hpY:AY Y (.slice pa p2.length pc) p2:=hY ▸ AY.mono ⟨Jb,pa,pc,rfl,ys⟩ (aY (i:=1) rfl)
    refine ai (ak.bX [aF 5 1 (.slice ba p1.length bc) p1.length (bV p1),aF 37 32 (.slice pa p2.length pc) p2.length (p2.flatMap dC)] _) ?_
    rw[← hY]
    have QR:=N9 Y y.x (i:Int) _ p1 hbY ag _ p2 hpY
    unfold dG at QR
    (repeat(first|refine eZ ?_|refine bZ k 66 zr zr zr zr zr zr zr zr hk' ?_|refine cI (U:=aR) (es:=bH y.x) 7 (k*66) zr zr zr KZ rfl (SH Bj) zr zr zr ?_))
    refine aN QR ?_
    rw[r2]
    refine go ?_
    refine aM ih (i+1) rfl (by show i+1≤_;omega) ag ck (by unfold eF;exact ah)
  intro fO
  refine go ?_
  refine aM outer (k+1) rfl (by show k+1≤_;omega) ag ck ah
 intro fO
 clear ih
 refine go ?_
 refine bB (fun j:Nat=>j≤ts.length) (fun j=>ts.length-j) (fun j=>[(1,.map (some sb)),(5,.slice ra ts.length rc),(15,.int .i64 (((ts.take j).filter fun y=>decide (y.x∈l.map (·.b))).length:Int)),(16,.int .i64 (j:Int))]) (fun _=>aF 39 66 (.slice ra ts.length rc) ts.length ((ts.map Tk.x).flatMap bH)::ae tb (cl [ptr bs,ptr jb,tv,.bool false] 74)::aF 76 1 tv ts.length (ts.map cT)::bD ts::cR bs bd jb q mb [] s::aL dG sb (jx l)::sf l::F) 0 (Nat.zero_le _) rfl ck ah ?_
 intro j hj ih
 refine go ?_
 refine au zr zr ?_ ?_
 ·intro dJ
  have oX:j<ts.length:=by omega
  obtain⟨y,hy⟩:∃y,ts[j]?=some y:=⟨ts[j],by simp⟩
  have Bj:(ts.map Tk.x)[j]?=some y.x:=by rw[List.getElem?_map,hy];rfl
  obtain⟨bb,oo,cc,fL⟩:=KZ.some (by rw[← List.length_pos_iff,cE ve];simp;omega)
  simp only[Value.slice.injEq,true_and]at fL
  obtain⟨rfl,rfl⟩:=fL
  have kV:(ts.take (j+1)).filter (fun y=>decide (y.x∈l.map (·.b)))=(ts.take j).filter (fun y=>decide (y.x∈l.map (·.b)))++(if y.x∈l.map (·.b)then [y]else []):=by
   rw[List.take_add_one,hy,Option.toList_some,List.filter_append]
   congr 1
   by_cases hm:y.x∈l.map (·.b)
   ·rw[if_pos hm,List.filter_cons_of_pos (by simpa using hm)];rfl
   ·rw[if_neg hm,List.filter_cons_of_neg (by simpa using hm)];rfl
  (repeat(first|refine eZ ?_|refine bZ j 66 zr zr zr zr zr zr zr zr oX ?_|refine cI (U:=aR) (es:=bH y.x) 0 (j*66) zr zr zr KZ rfl (SH Bj) zr zr zr ?_))
  refine iX (es:=jx l) (key:=y.x) 5 rfl nE zr zr zr zr zr zr zr zr ?_
  rcases oS l y.x with⟨h1,h2⟩|⟨z,hz,QH,h1⟩
  ·have hm:y.x ∉ l.map (·.b):=fun hm=>by
    obtain⟨z,hz,QH⟩:=List.mem_map.1 hm
    exact h2 z hz QH
   rw[if_neg hm,List.append_nil]at kV
   rw[h1,Option.getD_none,← kV]
   refine go ?_
   refine aM ih (j+1) rfl (by show j+1≤_;omega) ag ck ah
  ·have hm:y.x∈l.map (·.b):=List.mem_map.2 ⟨z,hz,QH⟩
   rw[if_pos hm]at kV
   have hlen:((((ts.take (j+1)).filter fun y=>decide (y.x∈l.map (·.b))).length:Nat):Int)=(((ts.take j).filter fun y=>decide (y.x∈l.map (·.b))).length:Int)+1:=by rw[kV,List.length_append,List.length_singleton];omega
   have VE:((ts.take j).filter fun y=>decide (y.x∈l.map (·.b))).length≤1000:=by
    have h3:=List.length_filter_le (fun y:Tk=>decide (y.x∈l.map (·.b))) (ts.take j)
    rw[List.length_take]at h3
    omega
   rw[h1,Option.getD_some]
   refine go ?_
   ((refine bj 15 ((.int .i64 (((ts.take (j+1)).filter fun y=>decide (y.x∈l.map (·.b))).length:Int))) rfl ((by rw[hlen];done)) ?_))
   refine aM ih (j+1) rfl (by show j+1≤_;omega) ag ck ah
 intro fO
 have Nd:j=ts.length:=by omega
 subst Nd
 rw[List.take_length]
 have zY:=h.ct
 rw[zY]
 have hle:(jx l).length=l.length:=by unfold jx;rw[List.length_map]
 refine go ?_
 refine R' (U:=aR) 5 zr zr zr zr zr ?_
 rw[hle]
 refine go ?_
 refine ai (H':=ae tb (cl [ptr bs,ptr jb,tv,.bool false] 74)::aF 76 1 tv ts.length (ts.map cT)::bD ts::cR bs bd jb q mb [] s::aL dG sb (jx l)::sf l::F) ah ?_
 ((refine ad hE Tryz.func17 zr zr ⟨by simp;rfl,rfl⟩))
end Go.Proofs.YthnfckodljbgbaaGreatDoor
namespace Go.Proofs.YthnfckodljbgbaaGreatDoor
open Go Go.SL
def pU.hold{m:Nat}{x:SJ}{ts:List Tk}{l:List p8}(h:pU m x ts false (E0 l))(iw:x.1.A.off=false)(hn:(l.map (·.b)).Nodup)(hm:m≤60):Sh x ts l:=by
 obtain⟨K,L,h1,h2,h3,h4⟩:=h.up rfl
 have pY:=h.tl
 have jh:=h3.dt.nd
 refine⟨ag,fun y hy=>?_,fun y hy=>(h.tk y hy).2.1,fun y hy=>(h.tk y hy).2.2.1,fun y hy k p hp=>?_,fun y hy=>h3.find hy,fun y hy=>(h3.dt.cL y.c (List.mem_map.2 ⟨y,hy,rfl⟩)).n,fun y hy i hi=>?_,fun y hy i hi z hz QH=>YX h4 jh (c:=y.c) (List.mem_map.2 ⟨y,hy,rfl⟩) hi hz QH,?_⟩
 ·have:y.n≤1024:=(h.tk y hy).1
  omega
 ·have:p.length≤10:=(h.tk y hy).2.2.2 k p hp
  omega
 ·obtain⟨g1,g2⟩:=h3.read iw hy hi
  refine⟨g1,g2,?_⟩
  have hs:y.x.size≤1000:=(h3.dt.cL y.c (List.mem_map.2 ⟨y,hy,rfl⟩)).s
  unfold dw at g2
  cases iC:dI y.x i with
  | none=>rw[iC]at g2;cases g2
  | some an =>
   obtain⟨a,n⟩:=an
   rw[iC]at g2
   simp only[Bool.and_eq_true,decide_eq_true_eq]at g2
   obtain⟨f0,f1,f2,_⟩:=jO iC
   have:=g2.1
   omega
 ·have hx:(ts.map Tk.x).Nodup:=by
   have:((ts.map Tk.x).map (·.d)).Nodup:=by
    unfold dE at jh
    rw[List.map_map]at jh ⊢
    exact jh
   exact List.Pairwise.of_map (fun b:Bl=>b.d) (fun a b h e=>h (by rw[e])) this
  have:=GW hx hn fun k hk=>by
   obtain⟨z,hz,rfl⟩:=List.mem_map.1 hk
   obtain⟨c,hc,OZ,_⟩:=h4 (z.b,z.es.map (·.1)) (List.mem_map.2 ⟨z,hz,rfl⟩)
   obtain⟨y,hy,rfl⟩:=List.mem_map.1 hc
   exact List.mem_map.2 ⟨y,hy,OZ⟩
  rw[List.filter_map,List.length_map,List.length_map]at this
  exact this
attribute [local irreducible] J K aD Ends ae aF aL bU bo aU bh bq cg aE
def He(tb bs jb:Nat)(tv:Value)(br:Bool):aD Tryz.prog 16 [ptr tb] [ae tb (cl [ptr bs,ptr jb,tv,.bool br] 74)] (fun r H=>r = .bool br∧H=[ae tb (cl [ptr bs,ptr jb,tv,.bool br] 74)]):=by
 refine aD.aw Tryz.func16 Tryz.ntmps16 fun G F R hE=>?_
 refine go ?_
 refine ad hE Tryz.func16 zr zr ⟨rfl,rfl⟩
end Go.Proofs.YthnfckodljbgbaaGreatDoor
