import Derived.Test.YtedjnjkijiddlaaGreatDoorQPO3
import Derived.Test.YtedjnjkijiddlaaGreatDoorQPO5
import Derived.Test.YtedjnjkijiddlaaGreatDoorQPO6
import Derived.Test.YtedjnjkijiddlaaGreatDoorQPO7
import Derived.Test.YtedjnjkijiddlaaGreatDoorQPO8
import Derived.Test.YtedjnjkijiddlaaGreatDoorQPO9
import Derived.Test.YtedjnjkijiddlaaGreatDoorQPO13
import Derived.Test.YtedjnjkijiddlaaGreatDoorQPO14
import Derived.OpenShut
import Derived.Deep.Slices
import Derived.DataElems
import Derived.Test.YtedjnjkijiddlaaGreatDoorRows
import Derived.ChangeArms
import Derived.ProofKit
import Derived.Handed
import Derived.JoinedOf
import Derived.RowKit
import Derived.WalkKit
import Derived.ShutString
import Derived.ChangeOld
import Derived.Below
import Derived.SizedLaws
import Derived.ChangeSame
import Derived.ChangeVars
set_option linter.unnecessarySimpa false
set_option linter.unusedSimpArgs false
set_option linter.unusedVariables false
set_option maxHeartbeats 4000000
namespace Go.Proofs.YtedjnjkijiddlaaGreatDoor
open Go Go.SL
structure mG(k w u j:Nat)(x:SJ)(ts:List Tk):Prop where
 cs:CS k w u x.1 ts
 cj:CJ j x (gh ts)
theorem mG.first{e:Nat}{t:SJ}{cs:List TC}(hR:EW 1048576 (Ab.new 16777216) e t cs):e=0∧cs=[]∧(∀n,n≠cS→vw t.1.A n=none)∧mG 1 0 100 0 t []:=by
 have hR0:=hR
 obtain⟨rfl,rfl,a1,a2,a3,a4,a5,a6,a7,a8,a9,a10⟩:=A9 (HA.new _) rfl (by show 64≤16777216;omega) hR0
 have KQ:Cz 1 t.1.A:=by
  obtain⟨e1,B,hO,hR⟩:=hR
  obtain⟨rfl,rfl⟩:=y8 rfl hO
  rw[if_neg ah]at hR
  obtain⟨s,jn,⟨e2,A1,j1,KW,hR⟩,rfl⟩:=hR
  simp only at KW hR
  have lk:=Bk (A:=Ab.new 16777216) rfl
  have hu0:(Ab.new 16777216).used=0:=rfl
  have hO2:=KW
  obtain⟨rfl,k1,k2,k3,k4,k5⟩:=xK (HA.new 16777216) dR jw oA (by rw[lk]) (by rw[lk]) (by show 0<200;omega) (by rw[hu0];show 0+32≤16777216;omega) KW
  rw[lk]at k2
  obtain⟨RZ,R9⟩:=(HA.new 16777216).pt k1 (k:=cS) (c:=bX []) (by rw[lk]) (by rw[k2,lk])
  have adK:A1.names.length=1:=R9
  have z1:Cz 1 A1:=by
   unfold nY at hO2
   rw[if_neg (by rw[dR,jw];simp),if_neg (by show ¬false=true;simp)]at hO2
   obtain⟨y1,hP1,rfl,_⟩:=hO2
   exact Gn (Cz.new 16777216) (by rw[lk]) k1 ah hP1
  rw[if_neg ah,k5]at hR
  obtain⟨e3,s2,rs,⟨rfl,rfl,-,rfl⟩,hR⟩:=hR
  rw[if_neg ah]at hR
  obtain⟨A3,hC,rfl⟩:=hR
  simp only at hC a1 a7 ⊢
  subst k4
  unfold n7 at hC
  rw[if_neg (by simp),if_neg (by simp),if_neg (by simp)]at hC
  obtain⟨y,hP,rfl,rfl⟩:=hC
  exact Gn z1 (by rw[k2,dz _ _ oA]) a1 ah hP
 obtain⟨⟨A,aY,brk⟩,jn⟩:=t
 simp only at a1 a2 a3 a4 a5 a6 a7 a8 a9 a10 KQ
 subst a2 a3 a6
 have zF:(Ab.new 16777216).aq.length=1:=rfl
 refine⟨rfl,rfl,fun n hn=>by show vw A n=none;rw[a4,dz _ _ hn],⟨⟨⟨a1,KQ,a5,by simp only;omega,fun n c hc=>?_⟩,rfl,fun z hz=>(by cases hz),fun y hy=>(by cases hy),List.nodup_nil,Nat.le_refl _,fun y hy=>(by cases hy),List.nodup_nil,fun y hy=>(by cases hy),fun y hy=>(by cases hy),Nat.le_refl _,by simp only;omega,fun y hy=>(by cases hy)⟩,⟨bX [],1,[],?_,JC.whole _,rfl,ah,Nat.le_refl _,fun b hb=>(by cases hb),eT.nil⟩⟩⟩
 ·have mC:vw A n=some c:=hc
  rw[a4]at mC
  by_cases hp:n=cS
  ·subst hp
   rw[di]at mC
   injection mC with mC
   refine .inl ⟨rfl,?_⟩
   rw[← mC,ly];omega
  ·rw[dz _ _ hp]at mC
   cases mC
 ·show vw A cS=_
  rw[a4,di]
theorem mG.SA{k w u j:Nat}{x:SJ}{ts:List Tk}(h:mG k w u j x ts)(hw:w≤150)(hu:u≤9000):ts.length≤150∧(∀y∈ts,y.n≤65536)∧(∀y∈ts,y.n≤y.ws.length*64)∧(∀y∈ts,y.ws.length≤65536)∧(∀y∈ts,∀k l,y.pf k=some l→l.length≤1000000)∧pe x.1.aY∧x.1.A.aq.length≤9000∧x.1.A.writes.length≤9000:=by
 have h1:=Nw ts
 have h2:=h.cs.wt
 have h3:=h.cs.kA
 have h4:=h.cs.bl
 have lC:∀y∈ts,jZ y.c:=fun y hy=>(h.cs.ok y hy).2.2.2
 have hw0:x.1.A.writes=[]:=by
  cases hx:x.1.A.writes with
  | nil=>rfl
  | cons z l=>exact(h.cs.dq.cz.wr z (by rw[hx];simp)).elim
 refine⟨ah,fun y hy=>?_,fun y hy=>(lC y hy).2.1,fun y hy=>(lC y hy).2.2.1,fun y hy k l hk=>?_,⟨fun z hz=>?_,ah⟩,ah,by rw[hw0];simp⟩
 ·have:y.n≤1024:=(lC y hy).1
  omega
 ·have:l.length≤10:=(lC y hy).2.2.2 k l hk
  omega
 ·obtain⟨_,y,hy,Wi⟩:=h.cs.aY z hz
  obtain⟨g1,g2,_⟩:=h.cs.ok y hy
  have:=df g1
  rw[← Wi]
  omega
theorem mG.sq{k w u j:Nat}{x v:SJ}{ts:List Tk}(h:mG k w u j x ts)(hj:j≤150)(hu:u≤9000)(hv:v.2=x.2)(hg:iz 5 x.1 v.1):SQ 10000 0 v:=by
 obtain⟨C,n,ls,h1,h2,h3,h4,h5,h6,h7⟩:=h.cj.jr
 have nJ:=l4 ls h6
 have h8:=h.cs.kA
 have hw0:x.1.A.writes=[]:=by
  cases hx:x.1.A.writes with
  | nil=>rfl
  | cons z l=>exact(h.cs.dq.cz.wr z (by rw[hx];simp)).elim
 have zL:=hg.1
 have Ee:=hg.2
 rw[hw0,List.length_nil]at Ee
 refine⟨?_,?_,ah,ah⟩
 ·rw[hv,h3];simp only;omega
 ·rw[hv,h3];exact⟨by simp only;omega,by simp only;omega⟩
theorem mG.begin{k w u j:Nat}{x t:SJ}{ts dW:List Tk}{b:Bl}{hJ:Bool}{e:Nat}(h:mG k w u j x ts)(hk:k≤180)(hw:w≤150)(pn:j<100)(hs:bo b=true→b.size≤600)(hR:FA 1048576 b ts x false e dW hJ t) :
  hJ=false∧mG (k+1) (w+1) (u+20) (j+1) t dW∧e=(if(ts.any fun y=>decide (y.x.d=b.d))=true then 5 else if bo b=false then 1 else if(vw x.1.A (mw b.d)).isSome=true then 5 else 0) ∧
   (e≠0→dW=ts∧t=x)∧(e=0→gh dW=gh ts++[cQ b]∧∀n,n≠cS→vw t.1.A n=if n=gZ b.d then some ((vw x.1.A n).getD [])else vw x.1.A n):=by
 obtain⟨h1,h2,h3,h4⟩:=h.cs.begin h.cj hk hw pn hs hR
 exact⟨h1,⟨h2,h3⟩,h4⟩
theorem mG.put{k w u j:Nat}{x t:SJ}{ts dW:List Tk}{b:Bl}{i:Int}{bs:List UInt8}{p:List Dg}{hJ:Bool}{e:Nat}(h:mG k w u j x ts)(hk:k≤180)(pn:j<100)(hR:HE b i bs p ts x false e dW hJ t) :
  hJ=false∧mG k (w+1) (u+20) (j+1) t dW∧e=Qj ts b i bs p ∧
   ((dW=ts∧t=x)∨∃(q:Nat) (y:Tk),ts[q]?=some y∧y.x=b∧0≤i∧i<y.n∧cE y.ws y.n i=false∧cM b i bs p=true∧dW=ts.set q (y.put i.toNat p)∧(∀m,m≠cS→m≠gZ b.d→vw t.1.A m=vw x.1.A m)∧∃(c:List UInt8) (a n:Int),vw x.1.A (gZ b.d)=some c∧cP b i=some (a,n)∧vw t.1.A (gZ b.d)=some (bH c a.toNat bs)):=by
 obtain⟨h1,h2,h3,h4⟩:=h.cs.put h.cj hk pn hR
 exact⟨h1,⟨h2,h3⟩,h4⟩
theorem mG.fin{k w u j:Nat}{x t:SJ}{ts dW:List Tk}{b:Bl}{hJ:Bool}{r:Int}(h:mG k w u j x ts)(hk:k≤180)(pn:j<100)(hR:RM b ts x false r dW hJ t) :
  hJ=false∧mG (k+1) w (u+20) (j+1) t dW∧((gy ts b=none∧r=4∧dW=ts∧t=x)∨∃y∈ts,y.x=b∧((mE y.ws<y.n∧r=9∧dW=ts∧t=x) ∨
   (¬mE y.ws<y.n∧dW=lA ts b.d∧∃c,vw x.1.A (gZ b.d)=some c∧r=(if dP b c=false then 8 else 0)∧∀n,n≠cS→vw t.1.A n=mL (vw x.1.A) b (dP b c) n))):=by
 have hm:mG (k+1) w (u+20) (j+1) x ts:=⟨h.cs.mono ah (Nat.le_refl _) ah,h.cj.mono ah⟩
 rcases hR with⟨h1,_⟩|⟨_,hf,rfl,rfl,rfl,rfl⟩|⟨_,y,hf,hc⟩
 ·cases h1
 ·exact⟨rfl,hm,.inl ⟨hf,rfl,rfl,rfl⟩⟩
 obtain⟨q,hq,rfl⟩:=nO hf
 have hy:=List.mem_of_getElem? hq
 rcases hc with⟨h1,rfl,rfl,rfl,rfl⟩|⟨h1,e,v,⟨hI,hI2⟩,hc⟩
 ·exact⟨rfl,hm,.inr ⟨y,hy,rfl,.inl ⟨h1,rfl,rfl,rfl⟩⟩⟩
 obtain⟨c,mO⟩:=Option.isSome_iff_exists.1 (h.cs.has y hy).1
 have he:e=0∨e=8:=by
  cases hw:dP y.x c with
  | false=>exact .inr (vJ h.cs.dq.ha h.cs.brk (h.cs.JD y hy) mO hw hI).1
  | true=>exact .inl (zj h.cs.dq.ha h.cs.brk (h.cs.JD y hy) mO (h.cs.has y hy).2 hw hI).1
 rcases hc with⟨h0,h8,_⟩|⟨_,e',hr,pR,rfl,fG⟩
 ·omega
 obtain⟨r0,rfl,r2,r3,r4⟩:=h.cs.over h.cj hk pn hy mO (inst:=true) (.inl ⟨rfl,hI⟩) hI2 fG
 rw[if_pos rfl]at hr pR
 subst pR
 refine⟨by decide,⟨r2,r3⟩,.inr ⟨y,hy,rfl,.inr ⟨h1,rfl,c,mO,?_,fun n hn=>by rw[r4 n hn,Bool.true_and]⟩⟩⟩
 rw[hr,r0]
 cases dP y.x c <;> rfl
theorem mG.abort{k w u j:Nat}{x v t:SJ}{ts:List Tk}{b:Bl}{e e':Nat}(h:mG k w u j x ts)(hk:k≤180)(pn:j<100)(hf:(gy ts b).isSome=true)(hA:ec (gN b) x e v) :
  e=0∧∀ {e' t},iA (jK (EB b.d)) v e' t→e'=0∧mG (k+1) w (u+20) (j+1) t (lA ts b.d)∧∀n,n≠cS→vw t.1.A n=mL (vw x.1.A) b false n:=by
 obtain⟨y,hy⟩:=Option.isSome_iff_exists.1 hf
 obtain⟨q,hq,rfl⟩:=nO hy
 have GO:=List.mem_of_getElem? hq
 obtain⟨c,mO⟩:=Option.isSome_iff_exists.1 (h.cs.has y GO).1
 refine⟨(uf h.cs.dq.ha h.cs.brk (h.cs.JD y GO) mO hA.1).1,fun {e' t} fG=>?_⟩
 obtain⟨r0,rfl,r2,r3,r4⟩:=h.cs.over h.cj hk pn GO mO (inst:=false) (.inr ⟨rfl,hA.1⟩) hA.2 fG
 exact⟨rfl,⟨r2,r3⟩,fun n hn=>by rw[r4 n hn,Bool.false_and]⟩
theorem mG.back{k w u j:Nat}{x t:SJ}{ts:List Tk}{e:Nat}{cs:List TC}(h:mG k w u j x ts)(hk:k≤180)(hw:w≤100)(pn:j≤100)(hO:EW 1048576 (x.1.A.dp 0 [] (-1) 0) e t cs) :
  e=0∧CA cs (gh ts)∧(∀n c,vw x.1.A n=some c→n≠cS→vw t.1.A n=some c)∧(∀n,(∀d,n≠gZ d)→n≠cS→vw t.1.A n=vw x.1.A n)∧∀dW,gh dW=cs→mG k w 21 w t dW:=by
 obtain⟨d1,d2,d3⟩:=h.cs.dq.dp
 obtain⟨r1,r2,r3,r4⟩:=h.cs.open (jn:=x.2) h.cj d1 d2 d3 hk hw pn hO
 refine⟨r1,r2,fun n c hc hn=>by rw[r3 n hn];exact d2 n c hc,fun n hn hp=>by rw[r3 n hp,d3 n hn],fun dW pR=>?_⟩
 obtain⟨q1,q2⟩:=r4 dW pR
 exact⟨q1,q2⟩
theorem OL{b:Bl}(hr:bo b=true)(hs:b.size≤600):1≤bO b∧bO b≤64:=by
 have h:=df hr
 unfold bO
 rw[if_pos hr]
 constructor
 ·exact Int.le_ediv_of_mul_le ah ah
 ·exact Int.le_of_lt_add_one (Int.ediv_lt_of_lt_mul ah ah)
theorem Aj{b:Bl}{i:Int}(h0:0≤i)(h1:i<bO b):∃a n,cP b i=some (a,n):=by
 unfold cP
 rw[if_neg ah]
 exact⟨_,_,rfl⟩
structure k8(a:List UInt8)(b:Bl)(x:SJ)(y:Tk):Prop where
 xb:y.x=b
 FP:∃c,vw x.1.A (gZ b.d)=some c∧Mc b a c (fun i=>cE y.ws y.n i=true)
theorem Mc.sub{x:Bl}{w c:List UInt8}{P Q:Int→Prop}(h:Mc x w c P)(hq:∀k,Q k→P k):Mc x w c Q:=⟨h.len,fun k hk=>h.has k (hq k hk)⟩
theorem k8.mem{a:List UInt8}{b:Bl}{k w u j:Nat}{x:SJ}{y:Tk}(h:mG k w u j x [y])(h1:k8 a b x y):bo b=true∧b.size≤600∧(y.n:Int)=bO b∧jZ y.c∧sI y.c∧1≤y.n∧y.n≤64:=by
 obtain⟨g1,g2,g3,g4⟩:=h.cs.ok y (by simp)
 rw[h1.xb]at g1 g2 g3
 have:=OL g1 g2
 exact⟨g1,g2,g3,g4,h.cs.ns y (by simp),ah,ah⟩
theorem k8.find{b:Bl}{y:Tk}(h:y.x=b):gy [y] b=some y:=by
 unfold gy
 simp[h]
theorem k8.begin{a:List UInt8}{b:Bl}{x t:SJ}{y:Tk}(hy:y.c=cQ b)(hv:vw t.1.A (gZ b.d)=some []):k8 a b t y:=by
 refine⟨congrArg TC.x hy,[],hv,(Mc.nil b a).sub fun k hk=>?_⟩
 have h2:cE y.c.ws y.c.n k=false:=by rw[hy];exact tz _ _ _
 have h3:cE y.ws y.n k=false:=h2
 rw[h3]at hk
 cases hk
theorem k8.put{a:List UInt8}{b:Bl}{k w u j:Nat}{x t:SJ}{y:Tk}{dW:List Tk}{i:Int}{bs:List UInt8}{p:List Dg}{hJ:Bool}{e:Nat}(h:mG k w u j x [y])(h1:k8 a b x y)(mD:(a.length:Int)=b.size)(hk:k≤180)(pn:j<100)(Yv:cM b i bs p=true→∀at_ n,cP b i=some (at_,n)→bs=(a.drop at_.toNat).take n.toNat)(hR:HE b i bs p [y] x false e dW hJ t) :
  hJ=false∧mG k (w+1) (u+20) (j+1) t dW∧e=(if i<0∨(y.n:Int)≤i then 1 else if cE y.ws y.n i=true then 0 else if cM b i bs p=true then 0 else 8) ∧
   ∃y',dW=[y']∧y'.n=y.n∧k8 a b t y'∧∀l:Int,cE y'.ws y'.n l=(cE y.ws y.n l || (decide (e=0) && decide (l=i))):=by
 obtain⟨m1,m2,m3,m4,m5,m6,m7⟩:=h1.mem h
 obtain⟨r1,r2,r3,r4⟩:=h.put hk pn hR
 have he:e=(if i<0∨(y.n:Int)≤i then 1 else if cE y.ws y.n i=true then 0 else if cM b i bs p=true then 0 else 8):=by
  rw[r3];unfold Qj;rw[k8.find h1.xb]
 refine⟨r1,r2,he,?_⟩
 rcases r4 with⟨rfl,rfl⟩|⟨q,y0,hq,CF,KL,Sf,hh,hp,rfl,hv,c,at_,n,hc,fW,vQ⟩
 ·refine⟨y,rfl,rfl,h1,fun l=>?_⟩
  by_cases hl:l=i
  ·subst hl
   rw[decide_eq_true rfl,Bool.and_true]
   cases hx:cE y.ws y.n l with
   | true=>rfl
   | false =>
    rw[Bool.false_or]
    symm
    refine decide_eq_false fun h0=>?_
    rw[h0]at he
    by_cases hr:l<0∨(y.n:Int)≤l
    ·rw[if_pos hr]at he;cases he
    ·rw[if_neg hr,hx,if_neg (by simp)]at he
     by_cases hp:cM b l bs p=true
     ·-- it would have been put
      exact absurd hR (by
       intro hR
       rcases hR with⟨hb,_⟩|⟨_,hf,_⟩|⟨_,q,z,hf,hq,hzx,hc⟩
       ·cases hb
       ·rw[k8.find h1.xb]at hf;cases hf
       ·rw[k8.find h1.xb]at hf
        injection hf with hf
        subst hf
        rcases hc with⟨hi,_⟩|⟨_,hh,_⟩|⟨_,_,vO,_⟩|⟨_,_,_,_,_,pR⟩
        ·exact hr hi
        ·rw[hx]at hh;cases hh
        ·rw[hp]at vO;cases vO
        ·rcases pR with⟨bT,_⟩|⟨_,pR⟩
         ·exact bT h0
         ·have Ye:q=0:=by
           cases q with
           | zero=>rfl
           | succ q=>simp at hq
          subst Ye
          simp only[List.set_cons_zero,List.cons.injEq,and_true]at pR
          have h9:=congrArg (fun z:Tk=>cE z.ws z.n l) pR
          replace h9:cE y.ws y.n l=cE (y.put l.toNat p).ws (y.put l.toNat p).n l:=h9
          rw[hx]at h9
          have q9:cE (y.put l.toNat p).ws (y.put l.toNat p).n l=true:=by
           show cE (jI y.ws l.toNat true) y.n l=true
           rw[iI (show y.n≤y.ws.length*64 from m4.2.1) (show l.toNat<y.n by omega),if_pos ah]
          rw[q9]at h9
          cases h9)
     ·rw[if_neg hp]at he;cases he
  ·rw[decide_eq_false hl,Bool.and_false,Bool.or_false]
 ·have Ye:q=0:=by
   cases q with
   | zero=>rfl
   | succ q=>simp at hq
  subst Ye
  simp only[List.getElem?_cons_zero,Option.some.injEq]at hq
  subst hq
  have pq:e=0:=by rw[he,if_neg ah,hh,if_neg (by simp),if_pos hp]
  obtain⟨c0,sj,mO⟩:=h1.FP
  rw[hc]at sj
  injection sj with sj
  subst sj
  have hb:=Yv hp at_ n fW
  refine⟨y.put i.toNat p,rfl,rfl,⟨h1.xb,_,vQ,?_⟩,fun l=>?_⟩
  ·rw[hb]
   refine(mO.put mD fW).sub fun l hl=>?_
   have KH:cE (jI y.ws i.toNat true) y.n l=true:=hl
   rw[iI (show y.n≤y.ws.length*64 from m4.2.1) (show i.toNat<y.n by omega)]at KH
   by_cases he:l=i
   ·exact .inr he
   ·rw[if_neg ah]at KH
    exact .inl KH
  ·show cE (jI y.ws i.toNat true) y.n l=_
   rw[iI (show y.n≤y.ws.length*64 from m4.2.1) (show i.toNat<y.n by omega),pq]
   by_cases hl:l=i
   ·rw[if_pos ah];simp[hl]
   ·rw[if_neg ah];simp[hl]
theorem k8.done{a:List UInt8}{b:Bl}{k w u j:Nat}{x t:SJ}{y:Tk}{dW:List Tk}{hJ:Bool}{r:Int}(h:mG k w u j x [y])(h1:k8 a b x y)(mD:(a.length:Int)=b.size)(RX:dP b a=true)(hk:k≤180)(pn:j<100)(eZ:∀i:Nat,i<y.n→cE y.ws y.n (i:Int)=true)(hR:RM b [y] x false r dW hJ t) :
  r=0∧hJ=false∧mG (k+1) w (u+20) (j+1) t []∧dW=[]∧vw t.1.A (mw b.d)=some a:=by
 obtain⟨m1,m2,m3,m4,m5,m6,m7⟩:=h1.mem h
 obtain⟨r1,r2,r3⟩:=h.fin hk pn hR
 have vU:=m5.all m6 m7 eZ
 have aa3:mE y.ws=y.n:=vU
 rcases r3 with⟨hf,_⟩|⟨z,hz,hzx,⟨cW,_⟩|⟨_,rfl,c,hc,hr,hv⟩⟩
 ·rw[k8.find h1.xb]at hf;cases hf
 ·rw[List.mem_singleton.1 hz]at cW;omega
 obtain⟨c0,sj,mO⟩:=h1.FP
 rw[hc]at sj
 injection sj with sj
 subst sj
 have hca:c=a:=mO.full mD m1 fun i h0 h2=>by
  obtain⟨i',rfl⟩:∃i':Nat,i=i':=⟨i.toNat,ah⟩
  exact eZ i' ah
 subst hca
 have pR:lA [y] b.d=[]:=by unfold lA;simp[h1.xb]
 rw[pR]at r2 ⊢
 refine⟨by rw[hr,RX];rfl,r1,r2,rfl,?_⟩
 rw[hv _ (jR _),RX]
 unfold mL
 rw[if_pos ⟨rfl,rfl⟩]
 exact hc
theorem k8.early{a:List UInt8}{b:Bl}{k w u j:Nat}{x t:SJ}{y:Tk}{dW:List Tk}{hJ:Bool}{r:Int}(h:mG k w u j x [y])(h1:k8 a b x y)(hk:k≤180)(pn:j<100)(iZ:∀i:Nat,i<y.n→cE y.ws y.n (i:Int)=false)(hR:RM b [y] x false r dW hJ t) :
  r=9∧hJ=false∧dW=[y]∧t=x:=by
 obtain⟨m1,m2,m3,m4,m5,m6,m7⟩:=h1.mem h
 obtain⟨r1,r2,r3⟩:=h.fin hk pn hR
 have vU:=m5.none m6 m7 iZ
 have aa3:mE y.ws=0:=vU
 rcases r3 with⟨hf,_⟩|⟨z,hz,hzx,⟨_,hr,pR,ht⟩|⟨fq,_⟩⟩
 ·rw[k8.find h1.xb]at hf;cases hf
 ·exact⟨hr,r1,pR,ht⟩
 ·rw[List.mem_singleton.1 hz]at fq;omega
theorem Dz(l:List Dg)(i:Nat)(hn:1<l.length):cL l.length l i=((fb l.length i).bind fun s=>l[s]?).toList++cL (bq l).length (bq l) (i/2):=by
 rw[Dy l.length l i (Nat.le_refl _) hn,pG l.length (bq l).length (bq l) (i/2) (by rw[cN];omega) (Nat.le_refl _)]
attribute [local irreducible] J K aD Ends ag aB aM bN aZ aP aV bh bW Sha.chunks Sha.chunk Sha.rounds Sha.sched dM ct cU g9
set_option maxRecDepth 20000 in
theorem Lw(A:HP)(v:Value)(l0:List Dg)(hv:Vw A v l0.length (l0.flatMap dC))(N9:l0.length≤1000000)(i:Int) :
    aD Tryz.prog 41 [v,.int .i64 i] [A] (fun r H=>(¬(0≤i∧i<l0.length∧l0.length≤1024)∧r = .tuple #[.slice none 0 0,.int .i64 1]∧H=[A]) ∨
      ∃rv,(0≤i∧i<l0.length∧l0.length≤1024)∧r = .tuple #[rv,.int .i64 0]∧H=[aB 35 32 rv (cL l0.length l0 i.toNat).length ((cL l0.length l0 i.toNat).flatMap dC),A]):=by
  obtain⟨a,c,rfl⟩:=hv.shape
  refine aD.enter Tryz.func41 ak rfl Tryz.ntmps41 zr zr ?_
  intro G F R hE
  by_cases lC:0≤i∧i<l0.length∧l0.length≤1024
  case neg =>
    repeat'(first|(with_reducible intro qh)|refine gO ?_|refine iC zr zr zr zr ?_ ?_|refine au zr zr ?_ ?_|fail)
    all_goals(first|(exfalso;omega)|skip)
    all_goals(
      refine go ?_
      ((refine ae hE Tryz.func41 rfl _ rfl (.inl ⟨lC,rfl,rfl⟩) ad)))
  obtain⟨k0,rfl⟩:∃k:Nat,i=k:=⟨i.toNat,ah⟩
  rw[Int.toNat_natCast]at hE
  refine go ?_
  ((refine az 10 ((.bool false)) rfl ((congrArg Value.bool (decide_eq_false ah))) ?_))
  refine go ?_
  ((refine az 16 ((.bool false)) rfl ((congrArg Value.bool (decide_eq_false ah))) ?_))
  refine go ?_
  ((refine bB 20 ((.bool false)) rfl ((congrArg Value.bool (decide_eq_false ah))) ?_))
  refine go ?_
  refine aj (bJ 35 32 none _) ?_
  refine bu (fun y:List Dg × HP × Option Addr × Nat × Nat × List Dg × Option Addr × Nat=>y.1.length≤l0.length∧y.2.2.2.2.1<y.1.length∧Vw y.2.1 (.slice y.2.2.1 y.1.length y.2.2.2.1) y.1.length (y.1.flatMap dC)∧(∀h,y.2.1 h→∃h',sub h' h∧A h')∧cL l0.length l0 k0=y.2.2.2.2.2.1++cL y.1.length y.1 y.2.2.2.2.1∧y.2.2.2.2.2.1.length+y.1.length≤l0.length+1) (fun y=>y.1.length)
    (fun y=>[(1,.int .i64 (y.2.2.2.2.1:Int)),(6,.slice y.2.2.2.2.2.2.1 y.2.2.2.2.2.1.length y.2.2.2.2.2.2.2),(7,.slice y.2.2.1 y.1.length y.2.2.2.1)])
    (fun y=>aB 35 32 (.slice y.2.2.2.2.2.2.1 y.2.2.2.2.2.1.length y.2.2.2.2.2.2.2) y.2.2.2.2.2.1.length (y.2.2.2.2.2.1.flatMap dC)::y.2.1::F) (l0,A,a,c,k0,[],none,0) ⟨Nat.le_refl _,by simp only;omega,hv,fun h hA=>⟨h,sub.refl h,hA⟩,rfl,by simp⟩ rfl cu ad ?_
  rintro⟨row,X,xa,xc,k,out,oa,oc⟩⟨D5,hk,hX,Xo,R4,QT⟩ ih
  simp only at D5 hk hX Xo R4 QT
  dsimp only
  refine go ?_
  refine au zr zr ?_ ?_
  case' refine_2 =>
    intro aaD
    rw[Gp row.length row k ah,List.append_nil]at R4
    rw[R4]at hE
    clear ih
    refine go ?_
    refine aj (ao.cons _ (ao.head (B:=[A]) fun h hs=>by obtain⟨h',s1,L5⟩:=Xo h hs;exact⟨h',s1,fU L5⟩)) ?_
    ((refine ae hE Tryz.func41 rfl _ rfl (.inr ⟨_,lC,rfl,rfl⟩) ad))
  intro PV
  have zK:1<row.length:=by omega
  have rB:=Dz row k zK
  have mD:=cN row
  have Q9:=A7 X _ _ hX ah
  obtain⟨bb,oo,cc,he⟩:=hX.some (by intro h;have:=congrArg List.length h;rw[cH db]at this;simp at this;omega)
  simp only[Value.slice.injEq,true_and]at he
  obtain⟨rfl,rfl⟩:=he
  have R3:∀s,fb row.length k=some s→cL row.length row k=[row.getD s Dg.zero]++cL (bq row).length (bq row) (k/2):=fun s hs=>by
    obtain⟨h1,_⟩:=wh hk hs
    rw[rB,hs,List.getD_eq_getElem?_getD]
    simp[List.getElem?_eq_getElem h1]
  have acG:fb row.length k=none→cL row.length row k=cL (bq row).length (bq row) (k/2):=fun hs=>by rw[rB,hs];rfl
  have Q8:∀x:Dg,out.flatMap dC++dC x=(out++[x]).flatMap dC∧out.length+1=(out++[x]).length:=fun x=>⟨by simp,by simp⟩
  have pj:∀(s:Nat) (hs:s<row.length) (q:Nat) (v:Value),(dC (row.getD s Dg.zero))[q]?=some v→(row.flatMap dC)[s*32+q]?=some v:=fun s hs q v hq=>by
    have hx:row[s]?=some (row.getD s Dg.zero):=by rw[List.getD_eq_getElem?_getD,List.getElem?_eq_getElem hs];rfl
    rw[cY db hx q (by rcases Nat.lt_or_ge q 32 with h|h;exact h;rw[List.getElem?_eq_none (by rw[db];exact h)]at hq;cases hq)]
    exact hq
  clear rB
  refine iR rfl ?_
  refine E8 2 (fun y:List Dg × Option Addr × Nat=>cL l0.length l0 k0=y.1++cL (bq row).length (bq row) (k/2)∧y.1.length≤out.length+1) (fun y=>[(1,.int .i64 (k:Int)),(6,.slice y.2.1 y.1.length y.2.2),(7,.slice (some ⟨bb,oo,none⟩) row.length xc)]) (fun y=>aB 35 32 (.slice y.2.1 y.1.length y.2.2) y.1.length (y.1.flatMap dC)::X::F) rfl ?_ ?_
  rotate_left
  · intro tail
    refine go ?_
    refine o8 zr zr zr ah ah ?_
    by_cases yf:k%2=1
    · have hs:fb row.length k=some (k-1):=by unfold fb;rw[if_pos yf]
      have zI:k-1<row.length:=by omega
      have hp:=R3 _ hs
      have ha:=Q8 (row.getD (k-1) Dg.zero)
      ((refine az 26 ((.int .i64 1)) rfl ((congrArg (Value.int .i64) ah)) ?_))
      refine go ?_
      refine cO (k-1) 32 zr zr zr zr zr zr zr ah zI ?_
      refine aK ?_
      refine de (U:=aN) (es:=dC (row.getD (k-1) Dg.zero)) 1 ((k-1)*32) zr zr zr hX rfl (pj _ zI) zr zr zr ?_
      refine al (cs:=dC (row.getD (k-1) Dg.zero)) zr zr zr zr zr zr zr zr zr bz ?_
      intro r1
      refine go ?_
      refine aO (mm:=1) (news:=dC (row.getD (k-1) Dg.zero)) 1 0 zr zr zr zr zr zr zr zr zr zr zr zr (Vw.ag rfl) rfl (by rw[dG];exact cR _) ah (by show(_+_)*32≤_;omega) (fun _=>rfl) bz ?_
      intro v1
      rw[ha.1,ha.2]
      ((refine aJ 1 rfl ?_))
      rintro ja jc rfl
      (refine rG ?_)
      refine vX tail (out++[row.getD (k-1) Dg.zero],ja,jc) rfl ⟨by rw[R4,hp,List.append_assoc],by simp⟩ cu ad
    · ((refine az 26 ((.int .i64 0)) rfl ((congrArg (Value.int .i64) ah)) ?_))
      refine go ?_
      by_cases zI:k+1<row.length
      · have hs:fb row.length k=some (k+1):=by unfold fb;rw[if_neg yf,if_pos zI]
        have hp:=R3 _ hs
        have ha:=Q8 (row.getD (k+1) Dg.zero)
        ((refine bB 40 ((.bool true)) rfl ((congrArg Value.bool (decide_eq_true ah))) ?_))
        refine go ?_
        refine cO (k+1) 32 zr zr zr zr zr zr zr ah zI ?_
        refine aK ?_
        refine de (U:=aN) (es:=dC (row.getD (k+1) Dg.zero)) 1 ((k+1)*32) zr zr zr hX rfl (pj _ zI) zr zr zr ?_
        refine al (cs:=dC (row.getD (k+1) Dg.zero)) zr zr zr zr zr zr zr zr zr bz ?_
        intro r1
        refine go ?_
        refine aO (mm:=1) (news:=dC (row.getD (k+1) Dg.zero)) 1 0 zr zr zr zr zr zr zr zr zr zr zr zr (Vw.ag rfl) rfl (by rw[dG];exact cR _) ah (by show(_+_)*32≤_;omega) (fun _=>rfl) bz ?_
        intro v1
        rw[ha.1,ha.2]
        ((refine aJ 1 rfl ?_))
        rintro ja jc rfl
        (refine rG ?_)
        refine vX tail (out++[row.getD (k+1) Dg.zero],ja,jc) rfl ⟨by rw[R4,hp,List.append_assoc],by simp⟩ cu ad
      · have hs:fb row.length k=none:=by unfold fb;rw[if_neg yf,if_neg zI]
        have hp:=acG hs
        ((refine bB 40 ((.bool false)) rfl ((congrArg Value.bool (decide_eq_false ah))) ?_))
        refine wF zr zr ?_
        refine vX tail (out,oa,oc) rfl ⟨by rw[R4,hp],by simp⟩ cu ad
  rintro⟨Qr,oa2,oc2⟩⟨aao,acz⟩
  simp only at aao acz
  dsimp only
  refine go ?_
  ((refine ai zr zr zr zr (Q9) ad ?_ bG))
  rintro r _ rfl
  ((refine aJ 0 rfl ?_))
  rintro ra rc rfl
  ((refine aG (H':=aB 35 32 (.slice ra (bq row).length rc) (bq row).length ((bq row).flatMap dC)::X::aB 35 32 (.slice oa2 Qr.length oc2) Qr.length (Qr.flatMap dC)::F) ad ?_))
  refine tV fun dK=>?_
  refine go ?_
  refine nZ zr zr zr ah ah (by simp only[gg];omega) ?_
  ((refine az 52 ((.int .i64 ((k/2:Nat):Int))) rfl ((congrArg (Value.int .i64) ah)) ?_))
  refine go ?_
  refine aj (ao.perm (List.Perm.swap ..)) ?_
  refine aL ih (bq row,Sep [aB 35 32 (.slice ra (bq row).length rc) (bq row).length ((bq row).flatMap dC),X],ra,rc,k/2,Qr,oa2,oc2) rfl ⟨by simp only;omega,by simp only;omega,dK.mono (aW (i:=0) rfl),(fun h hs=>by
      obtain⟨h1,s1,L5⟩:=aW (H:=[aB 35 32 (.slice ra (bq row).length rc) (bq row).length ((bq row).flatMap dC),X]) (i:=1) rfl h hs
      obtain⟨h2,s2,sg⟩:=Xo h1 L5
      exact⟨h2,s2.trans s1,sg⟩),aao,by simp only;omega⟩ (by simp only;omega) cu ad
end Go.Proofs.YtedjnjkijiddlaaGreatDoor
namespace Go.Proofs.YtedjnjkijiddlaaGreatDoor
open Go Go.SL
def oZ(b:List UInt8)(k:Nat)(t:UInt8):List UInt8:=b.set k (b.getD k 0 ^^^ t)
theorem zU(b:List UInt8)(k:Nat)(t:UInt8):(oZ b k t).length=b.length:=by simp[oZ]
theorem wN(b:List UInt8)(k:Nat):oZ b k 0=b:=by
 unfold oZ
 rcases Nat.lt_or_ge k b.length with h|h
 ·have:b.getD k 0 ^^^ 0=b[k]:=by
   rw[List.getD_eq_getElem?_getD,List.getElem?_eq_getElem h]
   simp
  rw[this]
  exact List.set_getElem_self h
 ·rw[List.set_eq_of_length_le h]
def o4(d:Dg)(k:Nat)(t:UInt8):Dg:=⟨oZ d.bs k t,by rw[zU];exact d.len⟩
theorem FZ(d:Dg)(k:Nat):o4 d k 0=d:=by
 cases d
 simp[o4,wN]
def o3(p:List Dg)(k:Nat)(t:UInt8):List Dg:=p.set (k%p.length) (o4 (p.getD (k%p.length) Dg.zero) (k%32) t)
theorem JB(p:List Dg)(k:Nat)(t:UInt8):(o3 p k t).length=p.length:=by simp[o3]
theorem FY(p:List Dg)(k:Nat):o3 p k 0=p:=by
 unfold o3
 rw[FZ]
 rcases Nat.lt_or_ge (k%p.length) p.length with h|h
 ·rw[List.getD_eq_getElem?_getD,List.getElem?_eq_getElem h]
  exact List.set_getElem_self h
 ·rw[List.set_eq_of_length_le h]
def mM(n:Int):Nat:=(BitVec.ofInt IntKind.i64.bits n &&& BitVec.ofInt IntKind.i64.bits 63).toNat
theorem DN(n:Int):mM n<64:=by
 unfold mM
 rw[BitVec.toNat_and]
 have e1:(BitVec.ofInt IntKind.i64.bits (63:Int)).toNat=63:=by decide
 rw[e1]
 have := @Nat.and_le_right (BitVec.ofInt IntKind.i64.bits n).toNat 63
 omega
theorem GD(n:Int):IntKind.i64.wrap ((BitVec.ofInt IntKind.i64.bits n &&& BitVec.ofInt IntKind.i64.bits 63).toNat:Int)=(mM n:Int):=by
 have:=DN n
 unfold mM at this ⊢
 exact cK (by simp only[gg];omega)
def qa(a:List UInt8)(m i n:Int)(t:UInt8):Bl × List UInt8 × List Dg:=match eC a m,cI a m with
 | some x,some l=>match cP x i with
  | none=>(x,[],[])
  | some (at_,sz) =>
   let b:=(a.drop at_.toNat).take sz.toNat
   let p:=cL l.length l i.toNat
   if mM n<b.length then(x,oZ b (mM n) t,p)else(x,b,if p=[]then p else o3 p (mM n) t)
 | _,_=>(Bl.zero,[],[])
theorem CM(p q:UInt8):IntKind.u8.wrap ((BitVec.ofInt IntKind.u8.bits (p.toNat:Int) ^^^ BitVec.ofInt IntKind.u8.bits (q.toNat:Int)).toNat:Int)=((p ^^^ q).toNat:Int):=by
 have e:∀z:UInt8,(BitVec.ofInt IntKind.u8.bits (z.toNat:Int)).toNat=z.toNat:=fun z=>by
  rw[BitVec.ofInt_natCast,BitVec.toNat_ofNat]
  have:=z.toNat_lt
  exact Nat.mod_eq_of_lt (by show z.toNat<2 ^ 8;omega)
 rw[BitVec.toNat_xor,e,e,← UInt8.toNat_xor]
 have:=(p ^^^ q).toNat_lt
 exact cK (by simp only[gg];omega)
theorem Hr(b:List UInt8)(k:Nat)(t:UInt8):(bV b).set k (u8 t)=bV (b.set k t):=by simp[bV,List.map_set]
theorem K3(p:List Dg)(q j:Nat)(t:UInt8)(hq:q<p.length)(hj:j<32)(x:Dg)(hx:p[q]?=some x):(p.flatMap dC).set (q*32+j) (u8 (x.bs.getD j 0 ^^^ t))=(p.set q (o4 x j t)).flatMap dC:=by
 have h1:dC (o4 x j t)=(dC x).set j (u8 (x.bs.getD j 0 ^^^ t)):=by
  rw[dG,dG,Hr]
  rfl
 refine List.ext_getElem? fun z=>?_
 have NK:∀l:List Dg,(l.flatMap dC).length=l.length*32:=fun l=>cH db l
 rcases Nat.lt_or_ge z (p.length*32)with hz|hz
 case inr =>
  rw[List.getElem?_eq_none (by rw[List.length_set,NK];omega),List.getElem?_eq_none (by rw[NK,List.length_set];omega)]
 have hzq:z/32<p.length:=by omega
 obtain⟨y,hy⟩:∃y,p[z/32]?=some y:=⟨p[z/32],by simp[hzq]⟩
 have RW:z=z/32*32+z%32:=by omega
 have hpz:(p.flatMap dC)[z]?=(dC y)[z%32]? := by
  conv=>lhs;rw[RW]
  exact cY db hy _ ah
 by_cases Yd:z/32=q
 ·have CF:y=x:=by rw[Yd,hx]at hy;injection hy with hy;exact hy.symm
  have hs:(p.set q (o4 x j t))[z/32]?=some (o4 x j t):=by rw[Yd,List.getElem?_set_self hq]
  have hrz:((p.set q (o4 x j t)).flatMap dC)[z]?=(dC (o4 x j t))[z%32]? := by
   conv=>lhs;rw[RW]
   exact cY db hs _ ah
  rw[hrz,h1]
  by_cases AK:z%32=j
  ·have hzz:z=q*32+j:=by omega
   rw[AK,List.getElem?_set_self (by rw[db];exact hj),hzz,List.getElem?_set_self (by rw[NK];omega)]
  ·rw[List.getElem?_set_ne ah,List.getElem?_set_ne ah,hpz,CF]
 ·have hs:(p.set q (o4 x j t))[z/32]?=some y:=by rw[List.getElem?_set_ne (fun e=>Yd e.symm),hy]
  have hrz:((p.set q (o4 x j t)).flatMap dC)[z]?=(dC y)[z%32]? := by
   conv=>lhs;rw[RW]
   exact cY db hs _ ah
  rw[hrz,List.getElem?_set_ne ah,hpz]
structure XU where
 d:Int
 aa:Option Addr
 ac:Nat
 a:List UInt8
 m:Int
 i:Int
 n:Int
 cut:Int
 t:UInt8
 ba:Option Addr
 bc:Nat
 b:List UInt8
def xo(s:XU):List Value:=[.int .i64 s.d,.slice s.aa s.a.length s.ac,.int .i64 s.m,.int .i64 s.i,.int .i64 s.n,.int .i64 s.cut,u8 s.t,.slice s.ba s.b.length s.bc]
def XU.g(s:XU):Bl × List UInt8 × List Dg:=qa s.a s.m s.i s.n s.t
theorem oP{a:List UInt8}{m:Int}{x:Bl}{l:List Dg}(hx:eC a m=some x)(hl:cI a m=some l):bO x=l.length∧x.size=a.length∧x.piece=m∧bo x=true:=by
 obtain⟨h1,h2,h3,_⟩:=oS hx
 refine⟨?_,h2,h3,h1⟩
 have hr:=h1
 simp only[bo,decide_eq_true_eq]at hr
 unfold cI at hl
 split at hl
 ·injection hl with hl
  rw[← hl,List.length_map,mK m.toNat ah]
  unfold bO
  rw[if_pos h1,h2,h3]
  obtain⟨k,rfl⟩:∃k:Nat,m=k:=⟨m.toNat,ah⟩
  rw[Int.toNat_natCast]
  have:(((a.length+k-1)/k:Nat):Int)=((a.length:Int)+k-1)/k:=by
   rw[Int.natCast_ediv]
   congr 1
   omega
  rw[this]
 ·cases hl
theorem DU{a:List UInt8}{m:Int}:(eC a m=none∧cI a m=none)∨∃x l,eC a m=some x∧cI a m=some l:=by
 unfold eC
 cases h:cI a m with
 | none=>exact .inl ⟨rfl,rfl⟩
 | some l=>exact .inr ⟨_,l,rfl,rfl⟩
section
variable{P:Program}{U:Tr}[hU:fT P U]{f:FuncId}{n:Nat}{R:Ending→World→Prop}{G:cC}{k:List Item}{L:fC}{H H':List HP}{S:World→Prop}{all:Array Oper}{rest:Pl}{ty:TypeId}{pos:String}{af:Array Edge}{gd:Option (Nat × Bool)}{m:Bool}{d:Tmp}
end
attribute [local irreducible] J K aD Ends ag aB aM bN aZ aP aV bh bW Sha.chunks Sha.chunk Sha.rounds Sha.sched dM ct cU g9 eC cI cL
set_option maxRecDepth 20000 in
theorem K0(X:HP)(s:XU)(ha:eJ X (.slice s.aa s.a.length s.ac) s.a)(Ov:s.a.length≤1000000) :
  aD Tryz.prog 12 [.agg (xo s).toArray] [X] (fun r H=>∃bv pv,r = .tuple #[eg s.g.1,bv,pv]∧H=[aB 5 1 bv s.g.2.1.length (bV s.g.2.1),aB 35 32 pv s.g.2.2.length (s.g.2.2.flatMap dC),X]):=by
 have hac:s.a.length≤s.ac:=by
  obtain⟨a',c',he,hc⟩:=ha.2
  simp only[Value.slice.injEq]at he
  obtain⟨-,-,rfl⟩:=he
  exact hc
 have aa5:=zm X _ s.a ha ah s.m
 have Sc:=za X _ s.a ha ah s.m
 refine aD.enter Tryz.func12 ak rfl Tryz.ntmps12 zr zr ?_
 intro G F R hE
 refine aE rfl ?_
 refine bC zr zr bz ?_
 intro b1
 refine aw zr zr zr bz ?_
 intro b2
 ((refine aG (H':=ag b1 (cl (xo s) 46)::ag b2 (cl (bD Bl.zero) 37)::X::F) (ad) ?_))
 refine go ?_
 ((refine ai zr zr zr zr (aa5) ad ?_ bG))
 rintro _ _⟨rfl,rfl⟩
 rcases DU (a:=s.a) (m:=s.m)with⟨rD,N9⟩|⟨x,l,vV,hlx⟩
 ·rw[rD]
  simp only
  have hg:s.g=(Bl.zero,[],[]):=by unfold XU.g qa;rw[rD]
  rw[hg]at hE
  have fW:cP Bl.zero s.i=none:=by
   cases h:cP Bl.zero s.i with
   | none=>rfl
   | some w=>exact absurd (iE (a:=w.1) (n:=w.2) (by rw[h])).2.2.2.2.2.2.2 (by decide)
  have o7:=EY Bl.zero s.i
  rw[fW]at o7
  unfold eg at o7 ⊢
  refine go ?_
  refine aw zr zr zr bz ?_
  intro b5
  refine go ?_
  ((refine aG (H':=ag b5 (cl (bD Bl.zero) 37)::ag b1 (cl (xo s) 46)::ag b2 (cl (bD Bl.zero) 37)::X::F) (ad) ?_))
  refine go ?_
  ((refine ai zr zr zr zr (Sc) ad ?_ bG))
  rintro _ _ (⟨_,rfl,rfl⟩|⟨ls,rv,h1,rfl,rfl⟩)
  case' inr=>(rw[N9]at h1;cases h1)
  ((refine aG (H':=ag b5 (cl (bD Bl.zero) 37)::ag b1 (cl (xo s) 46)::ag b2 (cl (bD Bl.zero) 37)::X::F) (ad) ?_))
  refine go ?_
  refine aH (U:=aN) (l:=bD Bl.zero) 0 zr zr zr zr zr zr ?_
  refine go ?_
  ((refine ai zr zr zr zr (o7) ad ?_ bG))
  rintro _ _⟨rfl,rfl⟩
  simp only
  refine go ?_
  refine aH (U:=aN) (l:=bD Bl.zero) 0 zr zr zr zr zr zr ?_
  refine go ?_
  ((refine aj (H':=ag b2 (cl (bD Bl.zero) 37)::X::F) (ad) ?_))
  refine aj (ao.trans (bJ 5 1 none _) (ao.cons _ (bJ 35 32 none _))) ?_
  (refine aS hE ?_;apply aQ (U:=aN) hE Tryz.func12 rfl (ao.refl _);(repeat(first|exact aI.nil|apply aI.tmp rfl|apply aI.agg 2 zr zr zr zr zr));exact⟨_,_,rfl,rfl⟩;exact ad)
 rw[vV]
 simp only
 obtain⟨vU,ir,tt,PO⟩:=oP vV hlx
 have o7:=EY x s.i
 have hll:=kL hlx
 have AN:s.g=(match cP x s.i with
  | none=>(x,[],[])
  | some (at_,sz) =>
   if mM s.n<((s.a.drop at_.toNat).take sz.toNat).length then(x,oZ ((s.a.drop at_.toNat).take sz.toNat) (mM s.n) s.t,cL l.length l s.i.toNat)else(x,(s.a.drop at_.toNat).take sz.toNat,if cL l.length l s.i.toNat=[]then cL l.length l s.i.toNat else o3 (cL l.length l s.i.toNat) (mM s.n) s.t)):=by
  unfold XU.g qa;rw[vV,hlx] <;> rfl
 unfold eg at o7 ⊢
 refine go ?_
 refine aw zr zr zr bz ?_
 intro b5
 refine go ?_
 ((refine aG (H':=ag b5 (cl (bD x) 37)::ag b1 (cl (xo s) 46)::ag b2 (cl (bD Bl.zero) 37)::X::F) (ad) ?_))
 refine go ?_
 ((refine ai zr zr zr zr (Sc) ad ?_ bG))
 rintro _ _ (⟨h1,rfl,rfl⟩|⟨ls,rv,h1,rfl,rfl⟩)
 case' inl=>(rw[hlx]at h1;cases h1)
 rw[hlx]at h1
 injection h1 with h1
 subst h1
 ((refine aJ 0 rfl ?_))
 rintro la lc rfl
 ((refine aG (H':=ag b5 (cl (bD x) 37)::ag b1 (cl (xo s) 46)::aB 35 32 (.slice la l.length lc) l.length (l.flatMap dC)::ag b2 (cl (bD Bl.zero) 37)::X::F) (ad) ?_))
 refine go ?_
 refine aH (U:=aN) (l:=bD x) 0 zr zr zr zr zr zr ?_
 refine go ?_
 ((refine ai zr zr zr zr (o7) ad ?_ bG))
 rintro _ _⟨rfl,rfl⟩
 cases fW:cP x s.i with
 | none =>
  rw[fW]at AN
  simp only at AN ⊢
  rw[AN]at hE
  refine go ?_
  refine aH (U:=aN) (l:=bD x) 0 zr zr zr zr zr zr ?_
  refine go ?_
  ((refine aj (H':=ag b2 (cl (bD x) 37)::X::F) (ad) ?_))
  refine aj (ao.trans (bJ 5 1 none _) (ao.cons _ (bJ 35 32 none _))) ?_
  (refine aS hE ?_;apply aQ (U:=aN) hE Tryz.func12 rfl (ao.refl _);(repeat(first|exact aI.nil|apply aI.tmp rfl|apply aI.agg 2 zr zr zr zr zr));exact⟨_,_,rfl,rfl⟩;exact ad)
 | some w =>
 obtain⟨at_,sz⟩:=w
 rw[fW]at AN
 obtain⟨g0,g1,g2,g3,g4,g5,g6,g7⟩:=iE fW
 simp only at AN ⊢
 obtain⟨an,rfl⟩:∃k:Nat,at_=k:=⟨at_.toNat,ah⟩
 obtain⟨zn,rfl⟩:∃k:Nat,sz=k:=⟨sz.toNat,ah⟩
 simp only[Int.toNat_natCast]at AN
 have IW:=ha.piece an (an+zn) ah ah
 rw[show an+zn-an=zn from by omega]at IW
 obtain⟨b,hb⟩:∃b,b=(s.a.drop an).take zn:=⟨_,rfl⟩
 have iD:b.length=zn:=by rw[hb,List.length_take,List.length_drop];omega
 rw[← hb]at IW AN
 rw[← iD]at IW
 ((refine aG (H':=ag b1 (cl (xo s) 46)::aB 35 32 (.slice la l.length lc) l.length (l.flatMap dC)::X::ag b5 (cl (bD x) 37)::ag b2 (cl (bD Bl.zero) 37)::F) (ad) ?_))
 refine go ?_
 refine al (cs:=[]) zr zr zr zr zr zr zr zr zr bz ?_
 intro r0
 refine go ?_
 refine bj (p:=(an:Int)) (q:=(an:Int)+(zn:Int)) zr zr zr zr zr zr zr ah ah (.inr ah) ?_
 ((refine az 50 ((.slice (sliceAt s.aa s.ac an 1) b.length (s.ac-an))) rfl ((by rw[iD,show((an:Int)+(zn:Int)).toNat=an+zn from by omega,Int.toNat_natCast,show an+zn-an=zn from by omega];rfl)) ?_))
 refine aG (eL 5 1 r0 0 0 [] [] _ rfl (Nat.le_refl _) (by simp)) ?_
 refine aO (mm:=b.length) (news:=bV b) 0 3 zr zr zr zr zr zr zr zr zr zr zr zr IW.1 (by show _=_*1;rw[bt];omega) (cR _) ah (by show(_+_)*1≤_;omega) (fun _=>rfl) bz ?_
 intro v1
 rw[show(0:Nat)+b.length=b.length from Nat.zero_add _,List.nil_append]
 ((refine aJ 0 rfl ?_))
 rintro da dc rfl
 ((refine aG (H':=aB 35 32 (.slice la l.length lc) l.length (l.flatMap dC)::ag b1 (cl (xo s) 46)::X::aB 5 1 (.slice da b.length dc) b.length (bV b)::ag b5 (cl (bD x) 37)::ag b2 (cl (bD Bl.zero) 37)::F) (ad) ?_))
 (refine rG ?_)
 refine iR rfl ?_
 refine dB 0 rfl ?_
 intro hvl
 have acq:=Lw _ _ l hvl ah s.i
 refine go ?_
 ((refine ai zr zr zr zr (acq) ad ?_ bG))
 rintro _ _ (⟨lp,rfl,rfl⟩|⟨rv,_,rfl,rfl⟩)
 case' inl=>exact absurd ⟨g3,ah,ah⟩ lp
 obtain⟨p,hp⟩:∃p,p=cL l.length l s.i.toNat:=⟨_,rfl⟩
 have pT:p.length≤10:=by
  rw[hp,sc l.length l s.i.toNat ah]
  exact uR 10 _ _ _ ah
 rw[← hp]at AN ⊢
 ((refine aJ 0 rfl ?_))
 rintro pa0 pc0 rfl
 refine iL 0 rfl ?_
 intro ab4
 refine go ?_
 refine al (cs:=[]) zr zr zr zr zr zr zr zr zr bz ?_
 intro r1
 refine go ?_
 refine aG (eL 35 32 r1 0 0 [] [] _ rfl (Nat.le_refl _) (by simp)) ?_
 refine aO (mm:=p.length) (news:=p.flatMap dC) 0 1 zr zr zr zr zr zr zr zr zr zr zr zr ab4 (by rw[cH db];rfl) (OH p) ah (by show(_+_)*32≤_;omega) (fun _=>rfl) bz ?_
 intro v2
 rw[show(0:Nat)+p.length=p.length from Nat.zero_add _,List.nil_append]
 ((refine aJ 0 rfl ?_))
 rintro pa pc rfl
 ((refine aG (H':=ag b1 (cl (xo s) 46)::aB 5 1 (.slice da b.length dc) b.length (bV b)::aB 35 32 (.slice pa p.length pc) p.length (p.flatMap dC)::X::ag b5 (cl (bD x) 37)::ag b2 (cl (bD Bl.zero) 37)::F) (ad) ?_))
 obtain⟨k,hk⟩:∃k,k=mM s.n:=⟨_,rfl⟩
 have adP:k<64:=by rw[hk];exact DN s.n
 rw[← hk]at AN
 have QX:=GD s.n
 rw[← hk]at QX
 refine go ?_
 by_cases hkb:k<b.length
 ·((refine bB 68 ((.bool true)) rfl ((congrArg Value.bool (decide_eq_true (by rw[QX];omega)))) ?_))
  ((refine bB 15 ((.int .i64 (k:Int))) rfl ((congrArg (Value.int .i64) QX)) ?_))
  rw[if_pos hkb]at AN
  rw[AN]at hE
  have hbk:b[k]?=some (b.getD k 0):=by rw[List.getD_eq_getElem?_getD,List.getElem?_eq_getElem hkb];rfl
  have Oq:(bV b)[k]?=some (u8 (b.getD k 0)):=oU hbk
  have gY:(bV b).set k (u8 (b.getD k 0 ^^^ s.t))=bV (oZ b k s.t):=Hr b k _
  ((refine aj (ao.pick [1] rfl) ?_))
  refine dB 0 rfl ?_
  intro hvb
  obtain⟨ob,oo,oc,he⟩:=hvb.some (by rw[← List.length_pos_iff,bt];omega)
  simp only[Value.slice.injEq,true_and]at he
  obtain⟨rfl,rfl⟩:=he
  refine go ?_
  refine aF (fun w=>Sat G w ([aB 5 1 (.slice (some ⟨ob,oo,none⟩) b.length dc) b.length (bV b),ag b1 (cl (xo s) 46)])) (.st 0 (.st 1 (.st 2 (.st 3 (.st 4 (.st 5 (.st 6 (.st 7 (.act 8 .nil))))))))) rfl ak ak ak ei ?_
  (repeat(first|refine gO ?_|refine bK k zr zr zr zr zr zr zr zr hkb ?_|(refine aK ?_;refine cJ 0 k zr zr zr hvb rfl Oq zr zr ?_)))
  ((refine az 75 ((u8 (b.getD k 0 ^^^ s.t))) rfl ((congrArg (Value.int .u8) (CM _ _))) ?_))
  (repeat(fail))
  refine aT ?_
  refine sC (U:=aN) (q:=k) 0 gE zr zr zr zr zr zr zr hkb rfl ?_
  rw[gY]
  ((refine aG (H':=ag b5 (cl (bD x) 37)::ag b2 (cl (bD Bl.zero) 37)::aB 5 1 (.slice (some ⟨ob,oo,none⟩) b.length dc) b.length (bV (oZ b k s.t))::aB 35 32 (.slice pa p.length pc) p.length (p.flatMap dC)::X::F) (ad) ?_))
  refine go ?_
  refine aH (U:=aN) (l:=bD x) 0 zr zr zr zr zr zr ?_
  refine go ?_
  ((refine aj (H':=aB 5 1 (.slice (some ⟨ob,oo,none⟩) b.length dc) (oZ b k s.t).length (bV (oZ b k s.t))::aB 35 32 (.slice pa p.length pc) p.length (p.flatMap dC)::X::ag b2 (cl (bD x) 37)::F) ((by rw[zU];exact ad)) ?_))
  (refine aS hE ?_;apply aQ (U:=aN) hE Tryz.func12 rfl (ao.refl _);(repeat(first|exact aI.nil|apply aI.tmp rfl|apply aI.agg 3 zr zr zr zr zr));exact⟨_,_,rfl,rfl⟩;exact ad)
 ((refine bB 68 ((.bool false)) rfl ((congrArg Value.bool (decide_eq_false (by rw[QX];omega)))) ?_))
 ((refine bB 15 ((.int .i64 (k:Int))) rfl ((congrArg (Value.int .i64) QX)) ?_))
 rw[if_neg hkb]at AN
 refine go ?_
 by_cases IM:p=[]
 ·rw[if_pos IM]at AN
  rw[AN]at hE
  have adF:p.length=0:=by rw[IM];rfl
  ((refine bB 79 ((.bool false)) rfl ((congrArg Value.bool (decide_eq_false ah))) ?_))
  ((refine aj (H':=ag b5 (cl (bD x) 37)::ag b2 (cl (bD Bl.zero) 37)::aB 5 1 (.slice da b.length dc) b.length (bV b)::aB 35 32 (.slice pa p.length pc) p.length (p.flatMap dC)::X::F) (ad) ?_))
  refine go ?_
  refine aH (U:=aN) (l:=bD x) 0 zr zr zr zr zr zr ?_
  refine go ?_
  ((refine aj (H':=aB 5 1 (.slice da b.length dc) b.length (bV b)::aB 35 32 (.slice pa p.length pc) p.length (p.flatMap dC)::X::ag b2 (cl (bD x) 37)::F) (ad) ?_))
  (refine aS hE ?_;apply aQ (U:=aN) hE Tryz.func12 rfl (ao.refl _);(repeat(first|exact aI.nil|apply aI.tmp rfl|apply aI.agg 3 zr zr zr zr zr));exact⟨_,_,rfl,rfl⟩;exact ad)
 rw[if_neg IM]at AN
 rw[AN]at hE
 have kX:=List.length_pos_iff.2 IM
 obtain⟨j,hj⟩:∃j,j=k%p.length:=⟨_,rfl⟩
 have yg:j<p.length:=by rw[hj];exact Nat.mod_lt _ kX
 have QI:p[j]?=some (p.getD j Dg.zero):=by rw[List.getD_eq_getElem?_getD,List.getElem?_eq_getElem yg];rfl
 obtain⟨d,hd⟩:∃d,d=p.getD j Dg.zero:=⟨_,rfl⟩
 rw[← hd]at QI
 have h31:=oV k 5 ah ah
 have QY:k%32<32:=Nat.mod_lt _ ah
 have dL:(p.flatMap dC)[j*32+k%32]?=some (u8 (d.bs.getD (k%32) 0)):=by
  rw[cY db QI _ QY,dG]
  refine oU ?_
  rw[List.getD_eq_getElem?_getD,List.getElem?_eq_getElem (by rw[d.len];exact QY)]
  rfl
 have gY:=K3 p j (k%32) s.t yg QY d QI
 have htp:o3 p k s.t=p.set j (o4 d (k%32) s.t):=by unfold o3;rw[← hj,← hd]
 ((refine bB 79 ((.bool true)) rfl ((congrArg Value.bool (decide_eq_true ah))) ?_))
 ((refine aj (ao.pick [2] rfl) ?_))
 refine dB 0 rfl ?_
 intro hvp
 obtain⟨ob,oo,oc,he⟩:=hvp.some (by rw[← List.length_pos_iff,cH db];omega)
 simp only[Value.slice.injEq,true_and]at he
 obtain⟨rfl,rfl⟩:=he
 refine go ?_
 refine aF (fun w=>Sat G w ([aB 35 32 (.slice (some ⟨ob,oo,none⟩) p.length pc) p.length (p.flatMap dC),ag b1 (cl (xo s) 46)])) (.st 0 (.st 1 (.st 2 (.st 3 (.st 4 (.st 5 (.st 6 (.st 7 (.st 8 (.st 9 (.st 10 (.st 11 (.st 12 (.st 13 (.st 14 (.act 15 .nil)))))))))))))))) rfl ak ak ak ei ?_
 refine go ?_
 refine lu ?_
 refine o8 zr zr zr ah ah ?_
 ((refine az 84 ((.int .i64 (j:Int))) rfl ((congrArg (Value.int .i64) (by rw[hj];omega))) ?_))
 refine go ?_
 ((refine az 86 ((.int .i64 ((k%32:Nat):Int))) rfl ((congrArg (Value.int .i64) h31)) ?_))
 (repeat(first|refine gO ?_|refine cO j 32 zr zr zr zr zr zr zr zr yg ?_|refine ed (U:=aN) (k%32) zr zr zr zr zr zr zr zr QY ?_|(refine aK ?_;refine cJ 0 (j*32+k%32) zr zr zr hvp (Nat.add_assoc _ _ _) dL zr zr ?_)))
 ((refine az 92 ((u8 (d.bs.getD (k%32) 0 ^^^ s.t))) rfl ((congrArg (Value.int .u8) (CM _ _))) ?_))
 (repeat(fail))
 refine aT ?_
 refine Fa (U:=aN) (q:=j*32+k%32) 0 gE rfl (Nat.add_assoc _ _ _) zr zr zr zr zr zr kX ah rfl ?_
 rw[gY,← htp]
 ((refine aG (H':=ag b5 (cl (bD x) 37)::ag b2 (cl (bD Bl.zero) 37)::aB 35 32 (.slice (some ⟨ob,oo,none⟩) p.length pc) p.length ((o3 p k s.t).flatMap dC)::aB 5 1 (.slice da b.length dc) b.length (bV b)::X::F) (ad) ?_))
 refine go ?_
 refine aH (U:=aN) (l:=bD x) 0 zr zr zr zr zr zr ?_
 refine go ?_
 ((refine aj (H':=aB 5 1 (.slice da b.length dc) b.length (bV b)::aB 35 32 (.slice (some ⟨ob,oo,none⟩) p.length pc) (o3 p k s.t).length ((o3 p k s.t).flatMap dC)::X::ag b2 (cl (bD x) 37)::F) ((by rw[JB];exact ad)) ?_))
 (refine aS hE ?_;apply aQ (U:=aN) hE Tryz.func12 rfl (ao.refl _);(repeat(first|exact aI.nil|apply aI.tmp rfl|apply aI.agg 3 zr zr zr zr zr));exact⟨_,_,rfl,rfl⟩;exact ad)
end Go.Proofs.YtedjnjkijiddlaaGreatDoor
namespace Go.Proofs.YtedjnjkijiddlaaGreatDoor
open Go Go.SL
theorem EZ(bs bd jb:Nat)(q:Int)(mb:Nat)(x:SJ)(F:List HP):ao (cd bs bd jb q mb [] x::F) (aC bd x.1.A::F):=by
 unfold cd cg
 refine(ao.cB _ _).trans ?_
 simp only[List.cons_append,List.nil_append]
 exact ad
theorem DQ.wr{k:Nat}{A:Ab}(h:DQ k A):A.writes=[]:=by
 cases hx:A.writes with
 | nil=>rfl
 | cons z l=>exact(h.cz.wr z (by rw[hx];simp)).elim
theorem mG.abd{k w u j:Nat}{x:SJ}{ts:List Tk}(h:mG k w u j x ts)(hj:j≤100){A':Ab}(hq:DQ k A')(hv:vw A' cS=vw x.1.A cS):∀B,qj A' 0 B→B.writes.length≤700000000∧(fH B cS).length≤900000∧(∀y∈fH B cS,y.length≤1000000)∧((fH B cS).foldl dm []).length≤100:=by
 intro B hB
 obtain⟨_,rfl⟩:=hq.open hB
 obtain⟨C,n,ls,h1,h2,h3,h4,h5,h6,h7⟩:=h.cj.jr
 have nJ:=l4 ls h6
 have hf:fH B cS=ls:=by
  rw[Ez hq.ha (hv.trans h1),h2.found ah ah]
  exact pD ls fun x hx=>by have:=h6 x hx;omega
 have ht:=(px ls).2
 rw[hf,hq.wr]
 exact⟨by simp,ah,fun y hy=>by have:=h6 y hy;omega,ah⟩
theorem mG.Sv{k w u j:Nat}{x:SJ}{ts:List Tk}(h:mG k w u j x ts)(hj:j≤100):∀B,qj (x.1.A.dp 0 [] (-1) 0) 0 B→B.writes.length≤700000000∧(fH B cS).length≤900000∧(∀y∈fH B cS,y.length≤1000000)∧((fH B cS).foldl dm []).length≤100:=by
 obtain⟨d1,d2,d3⟩:=h.cs.dq.dp
 exact h.abd hj d1 (d3 cS fun d e=>iK d e.symm)
theorem K1{a:List UInt8}{m i n:Int}{t:UInt8}{x:Bl}{l:List Dg}(hx:eC a m=some x)(hl:cI a m=some l):qa a m i n t=match cP x i with
  | none=>(x,[],[])
  | some (at_,sz) =>
   let b:=(a.drop at_.toNat).take sz.toNat
   let p:=cL l.length l i.toNat
   if mM n<b.length then(x,oZ b (mM n) t,p)else(x,b,if p=[]then p else o3 p (mM n) t):=by
 unfold qa
 rw[hx,hl] <;> rfl
theorem Mu{α:Type}(l:List α){k s:Nat}(h:s=min k l.length):l.take k=l.take s:=by
 subst h
 rcases Nat.le_total k l.length with hk|hk
 ·rw[Nat.min_eq_left hk]
 ·rw[Nat.min_eq_right hk,List.take_length,List.take_of_length_le hk]
theorem QC{a:List UInt8}{m:Int}{x:Bl}{l:List Dg}(hx:eC a m=some x)(hl:cI a m=some l){i:Nat}{at_ sz:Int}(fW:cP x i=some (at_,sz)):l[i]?=some (cU ((a.drop at_.toNat).take sz.toNat)):=by
 obtain⟨c1,c2,c3,c4⟩:=oP hx hl
 obtain⟨g0,g1,g2,g3,g4,g5,g6,gr⟩:=iE fW
 have hp:=df gr
 obtain⟨k,rfl⟩:∃k:Nat,m=(k:Int):=⟨m.toNat,ah⟩
 have e:at_=((i*k:Nat):Int):=by rw[g5,c3,Int.natCast_mul]
 unfold cI at hl
 split at hl
 ·injection hl with hl
  rw[← hl,List.getElem?_map,show(k:Int).toNat=k from rfl,ju k ah a.length a i (Nat.le_refl _),if_pos ah,Option.map_some]
  have e2:at_.toNat=i*k:=by omega
  rw[e2,Mu (a.drop (i*k)) (s:=sz.toNat) (by rw[List.length_drop];omega)]
 ·cases hl
theorem tC{a:List UInt8}{m i:Int}{x:Bl}(hx:eC a m=some x){at_ sz:Int}(fW:cP x i=some (at_,sz)):∃p,qa a m i 0 0=(x,(a.drop at_.toNat).take sz.toNat,p)∧cM x i ((a.drop at_.toNat).take sz.toNat) p=true:=by
 obtain⟨l,hl⟩:∃l,cI a m=some l:=by
  unfold eC at hx
  cases h:cI a m with
  | none=>rw[h]at hx;cases hx
  | some l=>exact⟨l,rfl⟩
 refine⟨cL l.length l i.toNat,?_,?_⟩
 ·rw[K1 hx hl,fW]
  simp only[wN,FY]
  split
  ·rfl
  ·split <;> rfl
 ·obtain⟨c1,c2,c3,c4⟩:=oP hx hl
  obtain⟨g0,g1,g2,g3,g4,g5,g6,gr⟩:=iE fW
  have hp:=df gr
  obtain⟨i,rfl⟩:∃i':Nat,i=i':=⟨i.toNat,ah⟩
  have x8:x.root=rl l:=by
   unfold eC at hx
   rw[hl]at hx
   injection hx with hx
   rw[← hx]
  have ln:=lE x
  have Yt:=Cb (l:=l) (i:=i) ah (QC hx hl fW)
  unfold cM
  rw[fW]
  simp only[Bool.and_eq_true,decide_eq_true_eq]
  refine⟨by rw[List.length_take,List.length_drop];omega,?_⟩
  rw[x8,c1]
  exact Yt
theorem Rt{ts:List Tk}{c:TC}(h:gh ts=[c]):∃y,ts=[y]∧y.c=c:=by
 have hl:ts.length=1:=by rw[← mU,h];rfl
 obtain⟨y,rfl⟩:=List.length_eq_one_iff.1 hl
 refine⟨y,rfl,?_⟩
 simpa[gh]using h
theorem abx{a:List UInt8}{b:Bl}{x t:SJ}{dW:List Tk}{hJ:Bool}{e:Nat}(hr:bo b=true)(hs:b.size≤600)(h:mG 1 0 100 0 x [])(hv:∀n,n≠cS→vw x.1.A n=none)(hR:FA 1048576 b [] x false e dW hJ t) :
  hJ=false∧e=0∧∃y,dW=[y]∧mG 2 1 120 1 t [y]∧k8 a b t y∧(∀l:Int,cE y.ws y.n l=false)∧vw t.1.A (mw b.d)=none:=by
 obtain⟨r1,r2,r3,r4,r5⟩:=h.begin ah ah ah (fun _=>hs) hR
 rw[if_neg (by simp),if_neg (by rw[hr];simp),if_neg (by rw[hv _ (jR _)];simp)]at r3
 obtain⟨c1,c2⟩:=r5 r3
 obtain⟨y,rfl,hy⟩:=Rt (show gh dW=[cQ b]from c1)
 refine⟨r1,r3,y,rfl,r2,k8.begin (x:=t) hy (by rw[c2 _ (iK _),if_pos rfl,hv _ (iK _)];rfl),fun l=>?_,?_⟩
 ·have h2:cE y.c.ws y.c.n l=false:=by rw[hy];exact tz _ _ _
  exact h2
 ·rw[c2 _ (jR _),if_neg (fun e=>fZ _ _ e.symm),hv _ (jR _)]
theorem abw{a:List UInt8}{b:Bl}{k w u j:Nat}{x t:SJ}{y:Tk}{dW:List Tk}{hJ:Bool}{e:Nat}(h:mG k w u j x [y])(h1:k8 a b x y)(hk:k≤180)(hw:w≤150)(hj:j<100)(hs:b.size≤600)(hR:FA 1048576 b [y] x false e dW hJ t) :
  hJ=false∧e=5∧dW=[y]∧t=x∧mG (k+1) (w+1) (u+20) (j+1) x [y]:=by
 obtain⟨r1,r2,r3,r4,r5⟩:=h.begin hk hw hj (fun _=>hs) hR
 rw[if_pos (by simp[h1.xb])]at r3
 obtain⟨rfl,rfl⟩:=r4 ah
 exact⟨r1,r3,rfl,rfl,r2⟩
theorem SC{b:Bl}{k w u j:Nat}{x t:SJ}{dW:List Tk}{hJ:Bool}{e:Nat}{fin:Bool}(h:mG k w u j x [])(hr:bo b=true)(hk:k≤180)(hw:w≤150)(hj:j<100)(hs:b.size≤600)(hf:(vw x.1.A (mw b.d)).isSome=fin)(hR:FA 1048576 b [] x false e dW hJ t) :
  hJ=false∧e=(if fin=true then 5 else 0):=by
 obtain⟨r1,r2,r3,r4,r5⟩:=h.begin hk hw hj (fun _=>hs) hR
 rw[if_neg (by simp),if_neg (by rw[hr];simp),hf]at r3
 exact⟨r1,r3⟩
theorem abv{a:List UInt8}{b:Bl}{piece:Int}{k w u j i:Nat}{x t:SJ}{y:Tk}{dW:List Tk}{hJ:Bool}{e:Nat}{bs:List UInt8}{p:List Dg}(hx:eC a piece=some b)(h:mG k w u j x [y])(h1:k8 a b x y)(hk:k≤180)(hj:j<100)(hi:i<y.n)(hg:qa a piece i 0 0=(b,bs,p))(eZ:∀l:Nat,l<i→cE y.ws y.n (l:Int)=true)(hR:HE b (i:Int) bs p [y] x false e dW hJ t) :
  hJ=false∧mG k (w+1) (u+20) (j+1) t dW∧∃y',dW=[y']∧y'.n=y.n∧k8 a b t y'∧∀l:Nat,l<i+1→cE y'.ws y'.n (l:Int)=true:=by
 obtain⟨m1,m2,m3,m4,m5,m6,m7⟩:=h1.mem h
 obtain⟨_,ir,_,_⟩:=oS hx
 obtain⟨at_,n,fW⟩:=Aj (b:=b) (i:=(i:Int)) ah ah
 obtain⟨p',g1,g2⟩:=tC hx fW
 rw[g1]at hg
 simp only[Prod.mk.injEq,true_and]at hg
 obtain⟨rfl,rfl⟩:=hg
 obtain⟨r1,r2,r3,y',rfl,r4,r5,r6⟩:=h1.put h ir.symm hk hj (fun _ at2 n2 qZ=>by
  rw[fW]at qZ
  injection qZ with qZ
  injection qZ with e1 e2
  rw[e1,e2]) hR
 have he:e=0:=by
  rw[r3,if_neg ah]
  split
  ·rfl
  ·rfl
 refine⟨r1,r2,y',rfl,r4,r5,fun l hl=>?_⟩
 rw[r6]
 by_cases IS:l=i
 ·rw[he,IS];simp
 ·rw[eZ l ah];rfl
end Go.Proofs.YtedjnjkijiddlaaGreatDoor
namespace Go.SL
open Go Go.RowKit Go.ChangeShapes Go.WideShapes
abbrev i64(x:Int):Prop := -9223372036854775808≤x∧x≤9223372036854775807
end Go.SL
namespace Go.Proofs.YtedjnjkijiddlaaGreatDoor
open Go Go.SL
theorem Ib{y:Tk}{b:Bl}(h:y.x=b):lA [y] b.d=[]:=by unfold lA;simp[h]
theorem abu{a:List UInt8}{x:Bl}{t1:SJ}{y:Tk}(tb bs jb bd:Nat)(tv:Value)(mb:Nat)(hC:mG 3 2 140 2 t1 [y])(hO:k8 a x t1 y)(hvB:vw t1.1.A (mw x.d)=none) :
  aD Tryz.prog 15 [ptr tb,eg x] (dr tb bs jb tv [y] false++[cd bs bd jb 1048576 mb [] t1])
  (fun r H=>∃(t':SJ) (nr:Value),r = .int .i64 0∧H=dr tb bs jb nr [] false++[cd bs bd jb 1048576 mb [] t']∧mG 4 2 160 3 t' []∧vw t'.1.A (mw x.d)=none):=by
 obtain⟨d1,d2,d3,d4,d5,d6,d7,d8⟩:=hC.SA ah ah
 refine aD.post (HX tb bs jb bd tv 1048576 mb [y] false t1 x ah ah ah 10000 ah (fun t h=>hC.sq ah ah h.2 ((qu h.1).mono ah))) (fun v H h=>?_)
 rcases h with⟨h0,_⟩|⟨_,hf,_⟩|⟨_,hf,e,t,hA,hc⟩
 ·cases h0
 ·rw[k8.find hO.xb]at hf;cases hf
 obtain⟨he,hn⟩:=hC.abort (e':=0) (t:=t1) ah ah hf hA
 rcases hc with⟨bT,_⟩|⟨_,e',t',nr,rfl,rfl,fG⟩
 ·exact absurd he bT
 obtain⟨rfl,hC',Wo⟩:=hn fG
 rw[Ib hO.xb]at hC'
 refine⟨t',nr,rfl,by rw[if_pos rfl,Ib hO.xb];rfl,hC',?_⟩
 rw[Wo _ (jR _),xJ,if_neg (fun e=>fZ _ _ e.symm)]
 exact hvB
attribute [local irreducible] J K aD Ends ag aB aM bN aZ aP aV bh bW Sha.chunks Sha.chunk Sha.rounds Sha.sched dM ct GI cU g9 eC cI cL aC cd aU qa
set_option maxRecDepth 20000 in
theorem O7(X:HP)(hK:oe X)(v:Value)(a:List UInt8)(ha:eJ X v a)(Ov:a.length≤9223372036854775807)(piece:Int)(Yf:SL.i64 piece)(fin:Bool) :
  aD Tryz.prog 3 [v,.int .i64 piece,.bool fin] [X] (fun r H=>r = .bool true∧H=[X]):=by
 have ha0:=ha
 obtain⟨aa,ac,rfl,hac⟩:=ha.2
 refine aD.enter Tryz.func3 ak rfl Tryz.ntmps3 zr zr ?_
 intro G F R hE
 refine go ?_
 ((refine ai zr zr zr zr (Lh X hK) ad ?_ bG))
 rintro _ _⟨rfl,rfl⟩
 refine go ?_
 ((refine ai zr zr zr zr (HF 16777216 ah ah) ad ?_ bG))
 rintro _ _⟨bd,rfl,rfl⟩
 refine go ?_
 refine au zr zr ?_ ?_
 ·intro h5
  refine go ?_
  refine aj (H':=X::F) ad ?_
  ((refine ae hE Tryz.func3 rfl _ rfl ⟨rfl,rfl⟩ ad))
 intro h5
 refine go ?_
 refine bC zr zr bz ?_
 intro wb
 refine go ?_
 ((refine ai zr zr zr zr (qw X hK wb bd (.pointer none) (.pointer none) 1048576 ah (Ab.new 16777216) rfl (by show 1≤_;omega) (Ex (HA.new _) rfl (by show 0≤_;omega))) ad ?_ bG))
 rintro _ _⟨e0,t0,Ja,hW,rfl,hz,-⟩
 obtain⟨rfl,rfl,lk,Xr⟩:=mG.first hW
 obtain⟨bs,mb,tb,jb,tv,ts,zv,rfl⟩:=hz rfl
 have pR:=I9 zv
 subst pR
 unfold dr
 refine go ?_
 have iD:=zm X _ a ha0 ah piece
 cases hx:eC a piece with
 | none =>
  rw[hx]at iD
  dsimp only at iD
  unfold eg at iD
  ((refine ai zr zr zr zr (iD) ad ?_ bG))
  rintro _ _⟨rfl,rfl⟩
  refine go ?_
  refine aw zr zr zr bz ?_
  intro EP
  refine go ?_
  refine aj (H':=X::F) ad ?_
  ((refine ae hE Tryz.func3 rfl _ rfl ⟨rfl,rfl⟩ ad))
 | some x =>
 obtain⟨hr,ir,tt,RX⟩:=oS hx
 rw[hx]at iD
 dsimp only at iD
 unfold eg at iD
 ((refine ai zr zr zr zr (iD) ad ?_ bG))
 rintro _ _⟨rfl,rfl⟩
 refine go ?_
 refine aw zr zr zr bz ?_
 intro EP
 refine go ?_
 obtain⟨b1,b2,b3,b4,b5,b6,b7,b8⟩:=Xr.SA ah ah
 have PO:=df hr
 have sk:=mq tb bs jb bd tv 1048576 ah mb [] false t0 x (by simp) ah ah b6 ah ah 10000 ah (fun t h=>Xr.sq ah ah h.2 ((gJ h.1).mono ah))
 unfold dr eg at sk
 refine aF (fun w=>Sat G w ([ag wb (cl [ptr bd,ptr bs,ptr tb] 32),ag EP (cl (bD x) 37),X])) (.st 0 (.st 1 (.st 2 (.st 3 (.st 4 (.act 5 (.st 6 .nil))))))) rfl ak ak ak ei ?_
 refine go ?_
 refine bL (U:=aN) (l:=bD x) 1 zr zr zr zr zr zr ?_
 refine go ?_
 ((refine ai rfl rfl rfl rfl (sk) ad ?_ (fun _ _ w hp hw=>by obtain⟨_,_,_,_,_,rfl,rfl,_⟩:=hp;exact hw.cy ad)))
 rintro _ _⟨e1,ts1,X7,br1,t1,rfl,rfl,Re⟩
 obtain⟨rfl,rfl,y,rfl,hC1,KW,iZ,ab6⟩:=abx (a:=a) hr ah Xr lk Re
 refine go ?_
 obtain⟨d1,d2,d3,d4,d5,d6,d7,d8⟩:=hC1.SA ah ah
 have Xl:=mq tb bs jb bd X7 1048576 ah mb [y] false t1 x ah ah ah d6 ah ah 10000 ah (fun t h=>hC1.sq ah ah h.2 ((gJ h.1).mono ah))
 unfold dr eg at Xl
 refine aF (fun w=>Sat G w ([ag wb (cl [ptr bd,ptr bs,ptr tb] 32),ag EP (cl (bD x) 37),X])) (.st 0 (.st 1 (.st 2 (.st 3 (.st 4 (.act 5 (.st 6 .nil))))))) rfl ak ak ak ei ?_
 refine go ?_
 refine bL (U:=aN) (l:=bD x) 1 zr zr zr zr zr zr ?_
 refine go ?_
 ((refine ai rfl rfl rfl rfl (Xl) ad ?_ (fun _ _ w hp hw=>by obtain⟨_,_,_,_,_,rfl,rfl,_⟩:=hp;exact hw.cy ad)))
 rintro _ _⟨e2,ts2,P6,br2,t2,rfl,rfl,Sr⟩
 obtain⟨rfl,rfl,rfl,Ya,hC2⟩:=abw hC1 KW ah ah ah ah Sr
 clear sk Xl Re Sr
 subst t2
 have GN:=(KW.mem hC1).2.2.1
 cases fin with
 | true =>
  refine go ?_
  refine bu (fun g:Nat × SJ × Tk=>g.1≤y.n∧g.2.2.n=y.n∧mG 3 (2+g.1) (140+20*g.1) (2+g.1) g.2.1 [g.2.2]∧k8 a x g.2.1 g.2.2∧∀l:Nat,l<g.1→cE g.2.2.ws g.2.2.n (l:Int)=true) (fun g=>y.n-g.1)
   (fun g=>[(0,.slice aa a.length ac),(1,.int .i64 piece),(2,.bool true),(8,ptr bd),(10,ptr wb),(12,ptr EP),(14,.int .i64 0),(15,.int .i64 5),(16,.int .i64 (g.1:Int))])
   (fun g=>X::ag EP (cl (bD x) 37)::ag wb (cl [ptr bd,ptr bs,ptr tb] 32)::ag tb (cl [ptr bs,ptr jb,P6,.bool false] 88)::aB 90 1 P6 1 ([g.2.2].map cm)::aU [g.2.2]::cd bs bd jb 1048576 mb [] g.2.1::F) (0,t1,y) ⟨Nat.zero_le _,rfl,hC2,KW,fun l hl=>absurd hl (Nat.not_lt_zero _)⟩ rfl cu ad ?_
  rintro⟨i,s,z⟩⟨hi,hzn,hC,hO,eZ⟩ ih
  simp only at hi hzn hC hO eZ
  dsimp only
  obtain⟨m1,m2,m3,m4,m5,m6,m7⟩:=hO.mem hC
  refine go ?_
  refine aH (U:=aN) (l:=bD x) 1 zr zr zr zr zr zr ?_
  refine go ?_
  have KR:=u5 x
  unfold eg at KR
  ((refine ai zr zr zr zr (KR) ad ?_ bG))
  rintro _ _⟨rfl,rfl⟩
  refine go ?_
  refine au zr zr ?_ ?_
  ·intro cW
   have gw:i<y.n:=by omega
   refine go ?_
   have hgv:=K0 X ⟨0,aa,ac,a,piece,(i:Int),0,0,0,none,0,[]⟩ ha0 (by show a.length≤1000000;omega)
   ((refine ai zr zr zr zr (hgv) ad ?_ bG))
   rintro _ _⟨bv,pv,rfl,rfl⟩
   obtain⟨at_,n,fW⟩:=Aj (b:=x) (i:=(i:Int)) ah ah
   obtain⟨p,hgE,FG⟩:=tC hx fW
   obtain⟨g0,g1,g2,g3,g4,g5,g6,gr⟩:=iE fW
   have pT:p.length≤10:=oB FG
   obtain⟨b,hbE⟩:∃b,b=(a.drop at_.toNat).take n.toNat:=⟨_,rfl⟩
   have adX:b.length≤a.length:=by rw[hbE,List.length_take,List.length_drop];omega
   rw[← hbE]at hgE FG
   rw[show XU.g ⟨0,aa,ac,a,piece,(i:Int),0,0,0,none,0,[]⟩=(x,b,p)from hgE]
   clear hbE
   dsimp only
   unfold eg
   refine go ?_
   refine aw zr zr zr bz ?_
   intro b17
   (refine rG ?_)
   ((refine dv 1 rfl ?_))
   rintro ba bc rfl
   ((refine dv 2 rfl ?_))
   rintro pa pc rfl
   refine aj (H':=aB 5 1 (.slice ba b.length bc) b.length (bV b)::aB 35 32 (.slice pa p.length pc) p.length (p.flatMap dC)::X::ag EP (cl (bD x) 37)::ag wb (cl [ptr bd,ptr bs,ptr tb] 32)::ag tb (cl [ptr bs,ptr jb,P6,.bool false] 88)::aB 90 1 P6 1 ([z].map cm)::aU [z]::cd bs bd jb 1048576 mb [] s::F) ad ?_
   refine mi 0 rfl ?_
   intro Oq
   refine dB 0 rfl ?_
   intro hbv
   refine mi 1 rfl ?_
   intro acu
   refine dB 1 rfl ?_
   intro WD
   obtain⟨Y,hY⟩:∃Y,Y=Sep [aB 5 1 (.slice ba b.length bc) b.length (bV b),aB 35 32 (.slice pa p.length pc) p.length (p.flatMap dC),X]:=⟨_,rfl⟩
   have hKY:oe Y:=hY ▸ hK.mono (aW (i:=2) rfl)
   have hbY:eJ Y (.slice ba b.length bc) b:=hY ▸ eJ.mono ⟨hbv,ba,bc,rfl,Oq⟩ (aW (i:=0) rfl)
   have hpY:HQ Y (.slice pa p.length pc) p:=hY ▸ HQ.mono ⟨WD,pa,pc,rfl,acu⟩ (aW (i:=1) rfl)
   refine aj (ao.bP [aB 5 1 (.slice ba b.length bc) b.length (bV b),aB 35 32 (.slice pa p.length pc) p.length (p.flatMap dC),X] _) ?_
   rw[← hY]
   obtain⟨c1,c2,c3,c4,c5,c6,c7,c8⟩:=hC.SA ah ah
   have wm:=E3 Y hKY tb bs jb bd P6 1048576 mb [z] false s x (i:Int) ah _ b hbY ah _ p hpY ah c2 c3 ah ah 10000 ah (fun t u h1 h2=>hC.sq ah ah (h2.2.trans h1.2) (by
    have g1:=nX h1.1
    have g2:=sw h2.1
    have g11:=g1.1
    have g12:=g1.2
    have g21:=g2.1
    have g22:=g2.2
    exact⟨ah,ah⟩))
   unfold dr eg at wm
   refine go ?_
   refine aF (fun w=>Sat G w ([ag wb (cl [ptr bd,ptr bs,ptr tb] 32),ag EP (cl (bD x) 37),Y])) (.st 0 (.st 1 (.st 2 (.st 3 (.st 4 (.st 5 (.st 6 (.st 7 (.act 8 .nil))))))))) rfl ak ak ak ei ?_
   (repeat(first|refine gO ?_|refine bL (U:=aN) (l:=bD x) 1 zr zr zr zr zr zr ?_))
   ((refine ai zr zr zr zr (wm) ad ?_ bG))
   rintro _ _⟨e,dW,hJ,t,rfl,rfl,hB⟩
   obtain⟨rfl,hC',z',rfl,adz,hO',aa9⟩:=abv hx hC hO ah ah ah hgE eZ hB
   refine go ?_
   refine aj (H':=Y::ag EP (cl (bD x) 37)::ag wb (cl [ptr bd,ptr bs,ptr tb] 32)::ag tb (cl [ptr bs,ptr jb,P6,.bool false] 88)::aB 90 1 P6 1 ([z'].map cm)::aU [z']::cd bs bd jb 1048576 mb [] t::F) ad ?_
   rw[hY]
   refine aj (ao.cB [aB 5 1 (.slice ba b.length bc) b.length (bV b),aB 35 32 (.slice pa p.length pc) p.length (p.flatMap dC),X] _) ?_
   refine aL ih (i+1,t,z') rfl ⟨by simp only;omega,by simp only;omega,by simp only;rw[show 2+(i+1)=2+i+1 by omega,show 140+20*(i+1)=140+20*i+20 by omega];exact hC',hO',aa9⟩ (by simp only;omega) cu ad
  intro fq
  obtain⟨c1,c2,c3,c4,c5,c6,c7,c8⟩:=hC.SA ah ah
  have KM:=vK X hK tb bs jb bd P6 1048576 mb [z] false s x ah c2 c4 ah ah 10000 ah (fun e t h=>hC.sq ah ah h.2 ((nq h.1).mono ah))
  unfold dr eg at KM
  refine go ?_
  refine aF (fun w=>Sat G w ([ag wb (cl [ptr bd,ptr bs,ptr tb] 32),ag EP (cl (bD x) 37),X])) (.st 0 (.st 1 (.st 2 (.st 3 (.st 4 (.act 5 (.st 6 .nil))))))) rfl ak ak ak ei ?_
  refine go ?_
  refine bL (U:=aN) (l:=bD x) 1 zr zr zr zr zr zr ?_
  refine go ?_
  ((refine ai rfl rfl rfl rfl (KM) ad ?_ (fun _ _ w hp hw=>by obtain⟨_,_,_,_,_,rfl,rfl,_⟩:=hp;exact hw.cy ad)))
  rintro _ _⟨ri,dW,tv3,hJ,t,rfl,rfl,hB⟩
  obtain⟨rfl,rfl,hC3,rfl,hvB⟩:=hO.done hC ir.symm RX ah ah (fun l hl=>eZ l ah) hB
  have pW:(vw t.1.A (mw x.d)).isSome=true:=by rw[hvB];rfl
  have Rc:mG 4 66 2000 67 t []:=⟨hC3.cs.mono ah ah ah,hC3.cj.mono ah⟩
  refine go ?_
  (((refine aG (H':=cd bs bd jb 1048576 mb [] t::X::ag wb (cl [ptr bd,ptr bs,ptr tb] 32)::ag EP (cl (bD x) 37)::F) ad ?_));((refine aG (EZ _ _ _ _ _ _ _) ?_));have WC:=Rc.cs.dq;have aci:=Rc.cs.kA;((refine ai zr zr zr zr (Fo bd (t).1.A 0 (-1) 0 X (.slice none 0 0) [] ⟨none,0,rfl,.inl rfl⟩ (by simp) ah (by rw[WC.wr];simp) ah ah ah) ad ?_ bG));rintro _ _ rfl;refine go ?_;((refine ai zr zr zr zr (qw X hK wb bd (ptr bs) (ptr tb) 1048576 ah ((t).1.A.dp 0 [] (-1) 0) rfl (by show 1≤_;omega) (Rc.Sv ah)) ad ?_ bG));rintro _ _⟨e3,t3,cs3,hW3,rfl,hz3,-⟩;obtain⟨rfl,Xc,hk3,hn3,hC5⟩:=Rc.back ah ah ah hW3;obtain⟨FQ,mb3,SH,jb3,YK,ts5,Oj,rfl⟩:=hz3 rfl;have Wp:ts5=[]:=List.eq_nil_of_length_eq_zero (by have:=Xc.1;rw[← Oj,mU,mU]at this;exact this);subst Wp;have Xq:=hC5 [] Oj;have W5:(vw t3.1.A (mw x.d)).isSome=true:=(by rw[hn3 _ (fun d e=>fZ _ _ e.symm) (jR _)];exact pW);unfold dr;refine go ?_;have Om:=zl SH FQ jb3 YK false [] (by simp);unfold dr at Om;((refine ai zr zr zr zr (Om) ad ?_ bG));rintro r3 _ rfl;((refine aJ 0 rfl ?_));rintro ra3 rc3 rfl;refine go ?_;obtain⟨q1,q2,q3,q4,q5,q6,q7,q8⟩:=Xq.SA ah ah;have Oo:=mq SH FQ jb3 bd YK 1048576 ah mb3 [] false t3 x (by simp) ah ah q6 ah ah 10000 ah (fun t h=>Xq.sq ah ah h.2 ((gJ h.1).mono ah));unfold dr eg at Oo;refine aF (fun w=>Sat G w ([ag wb (cl [ptr bd,ptr FQ,ptr SH] 32),ag EP (cl (bD x) 37),X])) (.st 0 (.st 1 (.st 2 (.st 3 (.st 4 (.act 5 (.st 6 .nil))))))) rfl ak ak ak ei ?_;refine go ?_;refine bL (U:=aN) (l:=bD x) 1 zr zr zr zr zr zr ?_;refine go ?_;((refine ai rfl rfl rfl rfl (Oo) ad ?_ (fun _ _ w hp hw=>by obtain⟨_,_,_,_,_,rfl,rfl,_⟩:=hp;exact hw.cy ad)));rintro _ _⟨e7,ts7,tv7,br7,t7,rfl,rfl,hB7⟩;obtain⟨rfl,rfl⟩:=SC Xq hr ah ah ah ah W5 hB7;refine go ?_;refine aj (H':=X::F) ad ?_;((refine ae hE Tryz.func3 rfl _ rfl ⟨rfl,rfl⟩ ad)))
 | false =>
  obtain⟨c1,c2,c3,c4,c5,c6,c7,c8⟩:=hC2.SA ah ah
  have KM:=vK X hK tb bs jb bd P6 1048576 mb [y] false t1 x ah c2 c4 ah ah 10000 ah (fun e t h=>hC2.sq ah ah h.2 ((nq h.1).mono ah))
  unfold dr eg at KM
  refine go ?_
  refine aF (fun w=>Sat G w ([ag wb (cl [ptr bd,ptr bs,ptr tb] 32),ag EP (cl (bD x) 37),X])) (.st 0 (.st 1 (.st 2 (.st 3 (.st 4 (.act 5 (.st 6 .nil))))))) rfl ak ak ak ei ?_
  refine go ?_
  refine bL (U:=aN) (l:=bD x) 1 zr zr zr zr zr zr ?_
  refine go ?_
  ((refine ai rfl rfl rfl rfl (KM) ad ?_ (fun _ _ w hp hw=>by obtain⟨_,_,_,_,_,rfl,rfl,_⟩:=hp;exact hw.cy ad)))
  rintro _ _⟨ri,dW,tv3,hJ,t,rfl,rfl,hB⟩
  obtain⟨rfl,rfl,rfl,ht3⟩:=KW.early hC2 ah ah (fun l hl=>iZ l) hB
  clear KM hB
  subst t
  have mD:=abu tb bs jb bd tv3 mb hC2 KW ab6
  unfold dr eg at mD
  refine go ?_
  refine aF (fun w=>Sat G w ([ag wb (cl [ptr bd,ptr bs,ptr tb] 32),ag EP (cl (bD x) 37),X])) (.st 0 (.st 1 (.st 2 (.st 3 (.st 4 (.act 5 (.st 6 .nil))))))) rfl ak ak ak ei ?_
  refine go ?_
  refine bL (U:=aN) (l:=bD x) 1 zr zr zr zr zr zr ?_
  refine go ?_
  ((refine ai rfl rfl rfl rfl (mD) ad ?_ (fun _ _ w hp hw=>by obtain⟨_,_,rfl,rfl,_⟩:=hp;exact hw.cy ad)))
  rintro _ _⟨t,tv4,rfl,rfl,hC3,hvB⟩
  have pW:(vw t.1.A (mw x.d)).isSome=false:=by rw[hvB];rfl
  have Rc:mG 4 66 2000 67 t []:=⟨hC3.cs.mono ah ah ah,hC3.cj.mono ah⟩
  refine go ?_
  (((refine aG (H':=cd bs bd jb 1048576 mb [] t::X::ag wb (cl [ptr bd,ptr bs,ptr tb] 32)::ag EP (cl (bD x) 37)::F) ad ?_));((refine aG (EZ _ _ _ _ _ _ _) ?_));have WC:=Rc.cs.dq;have aci:=Rc.cs.kA;((refine ai zr zr zr zr (Fo bd (t).1.A 0 (-1) 0 X (.slice none 0 0) [] ⟨none,0,rfl,.inl rfl⟩ (by simp) ah (by rw[WC.wr];simp) ah ah ah) ad ?_ bG));rintro _ _ rfl;refine go ?_;((refine ai zr zr zr zr (qw X hK wb bd (ptr bs) (ptr tb) 1048576 ah ((t).1.A.dp 0 [] (-1) 0) rfl (by show 1≤_;omega) (Rc.Sv ah)) ad ?_ bG));rintro _ _⟨e3,t3,cs3,hW3,rfl,hz3,-⟩;obtain⟨rfl,Xc,hk3,hn3,hC5⟩:=Rc.back ah ah ah hW3;obtain⟨FQ,mb3,SH,jb3,YK,ts5,Oj,rfl⟩:=hz3 rfl;have Wp:ts5=[]:=List.eq_nil_of_length_eq_zero (by have:=Xc.1;rw[← Oj,mU,mU]at this;exact this);subst Wp;have Xq:=hC5 [] Oj;have W5:(vw t3.1.A (mw x.d)).isSome=false:=(by rw[hn3 _ (fun d e=>fZ _ _ e.symm) (jR _)];exact pW);unfold dr;refine go ?_;have Om:=zl SH FQ jb3 YK false [] (by simp);unfold dr at Om;((refine ai zr zr zr zr (Om) ad ?_ bG));rintro r3 _ rfl;((refine aJ 0 rfl ?_));rintro ra3 rc3 rfl;refine go ?_;obtain⟨q1,q2,q3,q4,q5,q6,q7,q8⟩:=Xq.SA ah ah;have Oo:=mq SH FQ jb3 bd YK 1048576 ah mb3 [] false t3 x (by simp) ah ah q6 ah ah 10000 ah (fun t h=>Xq.sq ah ah h.2 ((gJ h.1).mono ah));unfold dr eg at Oo;refine aF (fun w=>Sat G w ([ag wb (cl [ptr bd,ptr FQ,ptr SH] 32),ag EP (cl (bD x) 37),X])) (.st 0 (.st 1 (.st 2 (.st 3 (.st 4 (.act 5 (.st 6 .nil))))))) rfl ak ak ak ei ?_;refine go ?_;refine bL (U:=aN) (l:=bD x) 1 zr zr zr zr zr zr ?_;refine go ?_;((refine ai rfl rfl rfl rfl (Oo) ad ?_ (fun _ _ w hp hw=>by obtain⟨_,_,_,_,_,rfl,rfl,_⟩:=hp;exact hw.cy ad)));rintro _ _⟨e7,ts7,tv7,br7,t7,rfl,rfl,hB7⟩;obtain⟨rfl,rfl⟩:=SC Xq hr ah ah ah ah W5 hB7;refine go ?_;refine aj (H':=X::F) ad ?_;((refine ae hE Tryz.func3 rfl _ rfl ⟨rfl,rfl⟩ ad)))
end Go.Proofs.YtedjnjkijiddlaaGreatDoor
namespace Go.Proofs.YtedjnjkijiddlaaGreatDoor
open Go Go.SL
theorem Li{P:Program}{H:Type}{enc:TypeId × Value→H}{W:World}{base:Nat}{spare:Nat→Bool}{held:Bool}{fuel n:Nat}{t e:TypeId}{k:IntKind}{l:List Value}{x:DataW H × List MemPlace}(ht:P.underlying t=some (.array n e))(he:P.underlying e=some (.int k))(hc:P.cellsOf e=1)(zv:P.cellsOf t=n)(h:DataW.trod enc P W base spare held fuel t l=some x)(ns:List Int)(hx:x.1 = .agg (ns.map fun z => .lit (.int k z))):l=ns.map (Value.int k):=by
 obtain⟨xs,m,_,NM,hlen,PJ,hf⟩:=DataW.trod_array ht h
 rw[zv]at hlen
 rw[NM]at hx
 simp only[DataW.agg.injEq]at hx
 apply List.ext_getElem?
 intro i
 rcases Nat.lt_or_ge i n with hi|hi
 ·have h1:=hf i hi
  obtain⟨y,hy⟩:∃y,xs[i]?=some y:=⟨xs[i]' (by rw[PJ];exact hi),by simp⟩
  rw[hy,hc,Nat.mul_one]at h1
  obtain⟨z,r,hz,w⟩:=DataW.trod_int he h1
  have h2:=congrArg (fun l:List Value=>l[0]?) r
  have h3:l[i]?=some (.int k z):=by simpa using h2
  have h4:=congrArg (fun l=>l[i]?) hx
  simp only[List.getElem?_map,hy,Option.map_some,hz]at h4
  rw[h3,List.getElem?_map]
  cases hn:ns[i]? with
  | none=>rw[hn]at h4;cases h4
  | some z2 =>
   rw[hn]at h4
   simp only[Option.map_some,Option.some.injEq,DataW.lit.injEq,Lit.int.injEq]at h4
   rw[h4.2]
   rfl
 ·have D9:ns.length=n:=by have:=congrArg List.length hx;simpa[PJ]using this.symm
  rw[List.getElem?_eq_none ah,List.getElem?_eq_none (by simp;omega)]
def PF:List Int:=Sha.ks.map fun w=>(w.toNat:Int)
theorem YE:wV Sha.ks=PF.map (Value.int .u32):=by unfold wV PF;rw[List.map_map];rfl
theorem Wg:Rows.laid_starling_digest_constants (H:=Unit) = .agg (PF.map fun z => .lit (.int .u32 z)):=by
 unfold Rows.laid_starling_digest_constants PF Sha.ks
 simp only[List.map_cons,List.map_nil,BitVec.toNat_ofNat]
 rfl
theorem qJ:Tryz.prog.globalNamed "starling/digest.constants" = some 0:=by kernel_rfl
theorem IA:(Tryz.prog.globals[0]?).map (·.type)=some 196:=by kernel_rfl
theorem NB:Tryz.prog.cellsOf 196=64:=by kernel_rfl
theorem JA:Tryz.prog.cellsOf 139=1:=by kernel_rfl
theorem zO{W:World}(h:laidMet Tryz.prog [("starling/digest.constants", Rows.laid_starling_digest_constants)] W):W.var? Tryz.prog "starling/digest.constants" = some (wV Sha.ks).toArray:=by
 obtain⟨ps,⟨g,t,cs,fuel,p,q,hg,ht,ab5,hd,_,_⟩,_⟩:=h
 obtain rfl:=Option.some.inj (qJ.symm.trans hg)
 obtain rfl:=Option.some.inj (IA.symm.trans ht)
 rw[ab5,YE]
 congr 1
 have:=Li Tryz.underlying196 Tryz.underlying139 JA NB hd PF Wg
 rw[← this]
theorem E9{W:World}(h:laidMet Tryz.prog [("starling/digest.constants", Rows.laid_starling_digest_constants)] W):oe (old W):=by
 have hv:=zO h
 refine⟨some ⟨0,0,none⟩,64,rfl,.inr ⟨_,0,rfl,fun hp ho j c hj=>?_⟩⟩
 rw[Nat.zero_add]
 refine rC ho ?_
 rw[World.var?_cell qJ hv j]
 simpa using hj
noncomputable def uG(os:Os):World :=
  { World.holding Tryz.prog os ⟨#[],#[],[]⟩with heap:=(World.holding Tryz.prog os ⟨#[],#[],[]⟩).heap.modify 0 fun
      | .cells _ t frozen => .cells (PF.map (Value.int .u32)).toArray t frozen
      | o=>o }
theorem zA(os:Os)(args:Array Value):((uG os).forCall (fun _ _=>0) ⟨#[],args,[]⟩).memory.heap[0]?=some (.cells (PF.map (Value.int .u32)).toArray 196 (0,0)):=by kernel_rfl
set_option maxRecDepth 20000 in
theorem zB(os:Os)(args:Array Value):laidMet Tryz.prog [("starling/digest.constants", Rows.laid_starling_digest_constants)] ((uG os).forCall (fun _ _=>0) ⟨#[],args,[]⟩).memory:=by
 have zG:=zA os args
 refine⟨_,⟨0,196,(PF.map (Value.int .u32)).toArray,8,[],[],qJ,IA,?_,?_,rfl,rfl⟩,?_,?_⟩
 ·unfold World.var?
  rw[qJ]
  simp only[Option.bind_some,zG]
 ·kernel_rfl
 ·rw[List.append_nil,List.append_nil]
  unfold MemPlace.row
  refine List.Pairwise.map (R:=fun a b=>a≠b) _ (fun i j AL e=>AL ?_) List.nodup_range
  exact Nat.add_left_cancel (MemPlace.cell.inj e).2
 ·intro b off h
  have hb:b=0:=by
   simp only[List.append_nil,MemPlace.row,List.mem_map]at h
   obtain⟨i,_,hi⟩:=h
   simp[MemPlace.cell.injEq]at hi
   exact hi.1.symm
  subst hb
  refine⟨⟨_,_,zG⟩,fun u v hc=>?_⟩
  simp only[World.cell?,zG]at hc
  exfalso
  have h2:∀x∈PF.map (Value.int .u32),∀u v,x ≠ .iface u v:=by
   intro x hx u v
   obtain⟨z,_,rfl⟩:=List.mem_map.1 hx
   simp
  have h3:(PF.map (Value.int .u32))[off]?=some (.iface u v):=by simpa using hc
  exact h2 _ (List.mem_of_getElem? h3) u v rfl
end Go.Proofs.YtedjnjkijiddlaaGreatDoor
namespace Go.Proofs.YtedjnjkijiddlaaGreatDoor.piecesOver
open Go Go.SL
open Go.ChangeShapes Go.WideShapes Go.ChangeAt Go.RowKit
open Go.ChangeMaps (open_string shut_string)
theorem own:ownKnob Tryz.prog.godebug=none:=by kernel_rfl
theorem laidOut:laidOutB Tryz.prog=true:=by kernel_rfl
set_option maxRecDepth 100000 in
theorem lifted(os:Os)(started:os.Started)(H:Type)(enc:TypeId × Value→H) :
    ReturnsInHanded {} Tryz.checked os 3 .any (fun w args=>(Rows.piecesOverSpec.pre enc Tryz.prog Tryz.f3 Rows.piecesOverRow.domain false w args∧laidMet Tryz.prog [("starling/digest.constants", Rows.laid_starling_digest_constants)] w)∧sizedMet enc Tryz.prog Tryz.f3 (OpenSpec.ofChange Rows.piecesOverSpec) false w args) (Rows.piecesOverSpec.post enc Tryz.prog Tryz.f3 false true false false):=by
  refine returnsInHanded_of_change_and (C:=Tryz.checked) (X:=fun w _=>laidMet Tryz.prog [("starling/digest.constants", Rows.laid_starling_digest_constants)] w) (fun _ _ _ hh h=>h.of_heap hh) own started ak Tryz.func3
    (ChangeSpec.witness_at (enc:=enc) (C:=Tryz.checked) (os:=os) (X:=fun w _=>laidMet Tryz.prog [("starling/digest.constants", Rows.laid_starling_digest_constants)] w) false (uG os) #[.slice none 0 0,.int .i64 0,.bool false] 8 rfl ak ak ak ak ak (zB os #[.slice none 0 0,.int .i64 0,.bool false])) ?_
  intro W base args ds gs before RY hW adW _ hL _
  have QK:∀(j:Nat) t v,Tryz.f3.params[j]?=some t→args[j]?=some v→Value.okWide Tryz.prog W .any base t v:=RY
  have hW':=hW
  obtain⟨p,q,hA0,hV,rfl,hfz,j4⟩:=hW
  have hA:DataW.TrodAll enc Tryz.prog W 0 (fun _=>true) true Tryz.f3.params.toList args.toList ds p:=hA0
  rw[Tryz.params3]at hA QK
  obtain⟨v0,vs0,d0,ds0,p0,q0,j5,rfl,rfl,h0,r0⟩:=trodAll_cons hA
  obtain⟨v1,vs1,d1,ds1,p1,q1,rfl,rfl,rfl,h1,r1⟩:=trodAll_cons r0
  obtain⟨v2,vs2,d2,ds2,p2,q2,rfl,rfl,rfl,h2,r2⟩:=trodAll_cons r1
  obtain⟨rfl,rfl,rfl⟩:=trodAll_nil r2
  obtain rfl:args = #[v0,v1,v2]:=by cases args;simp_all
  obtain⟨rfl,rfl⟩:=trodVars_none hV
  obtain⟨a0,Kl,XI,rfl⟩:=okWide_slice Tryz.underlying22 (QK 0 22 v0 rfl rfl)
  have k0:=h0
  have lt0:∀x∈p0,x.block<W.heap.size:=by obtain⟨m,hm⟩:=k0;exact DataW.trod_lt m _ _ _ hm
  obtain⟨bs0,ade,ada,lk⟩:∃bs:List UInt8,bs.length=Kl∧Kl≤9223372036854775807∧Vw (old W) (.slice a0 Kl XI) Kl (bV bs)∧Kl≤XI:=by
    obtain⟨fuel,hf⟩:=h0
    rcases open_ints Tryz.underlying22 Tryz.underlying5 ak hf with⟨si,_⟩|⟨x,l,c,zs,si,_,hl,hm,hz,_,dL,hwz⟩
    · simp[Value.cells]at si
      obtain⟨rfl,rfl,rfl⟩:=si
      exact⟨[],rfl,ah,Ng W,Nat.le_refl _⟩
    · simp[Value.cells]at si
      obtain⟨rfl,rfl,rfl⟩:=si
      obtain⟨bs,h1,h2⟩:=Hl (len:=Kl) (cap:=XI) (by simp at hz;omega) dL hwz
      exact ⟨bs, h1, by have : maxLen = 9223372036854775807 := by decide
                        omega,h2,hl⟩
  subst ade
  obtain⟨a1,rfl,rfl,rfl,w1⟩:=open_int Tryz.underlying3 (QK 1 3 v1 rfl rfl) h1
  obtain⟨a2,rfl,rfl,rfl⟩:=open_bool Tryz.underlying4 (QK 2 4 v2 rfl rfl) h2
  clear hA0 RY
  refine(MJ (O7 (old W) (E9 hL) _ bs0 ⟨lk.1,_,_,rfl,lk.2⟩ ada a1 (Ks w1) a2)).mono fun e W' ⟨he,bel⟩=>?_
  subst he
  exact⟨_,rfl,_,_,_,[],_,[],hW',trodAll_mk1 (shut_bool Tryz.underlying4 _),(trodAll_cons_mk (Below.trod laidOut ak (of_decide_eq_true ak) k0 bel lt0) (trodAll_cons_mk (shut_int Tryz.underlying3 w1) (trodAll_cons_mk (shut_bool Tryz.underlying4 _) trodAll_mk0))),rfl,bel.frame _,fun h=>by cases h⟩
theorem k10:(Rows.piecesOverRow.inPlace == (Tryz.pinned.checked.prog).inPlace 3)=true:=by kernel_rfl
theorem k11:(Rows.piecesOverRow.unfollowed == (Tryz.pinned.checked.prog).unfollowed 3)=true:=by kernel_rfl
theorem k12:(Rows.piecesOverRow.recurses == (Tryz.pinned.checked.prog).recurses 3)=true:=by kernel_rfl
theorem k13:(Rows.piecesOverRow.named == (Tryz.pinned.checked.prog).varsNamed 3)=true:=by kernel_rfl
theorem closed:joinedFacts Tryz.pinned.checked.prog 3 Tryz.f3 Rows.piecesOverSpec Rows.piecesOverRow=true:=by
 unfold joinedFacts
 rw[k10,k11,k12,k13]
 kernel_rfl
theorem proved:Rows.PiecesOverSaid :=
 OpenClaim.holds_of_wide 3 Tryz.f3 zr zr zr zr zr zr zr ⟨rfl,rfl,rfl,rfl,rfl⟩ zr zr zr zr zr ak Tryz.func3 closed
  (of_decide_eq_true ak) (by unfold Func.isWrapper;first|(rw[if_pos (by decide +kernel)];kernel_rfl)|(rw[if_neg (by decide +kernel)];exact⟨rfl,rfl⟩))
  (fun os started H enc _=>lifted os started H enc)
#print axioms proved
end Go.Proofs.YtedjnjkijiddlaaGreatDoor.piecesOver
