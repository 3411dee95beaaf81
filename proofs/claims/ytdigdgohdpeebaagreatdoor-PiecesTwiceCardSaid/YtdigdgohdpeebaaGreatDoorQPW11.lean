import Derived.Test.YtdigdgohdpeebaaGreatDoorQPW3
import Derived.Test.YtdigdgohdpeebaaGreatDoorQPW5
import Derived.Test.YtdigdgohdpeebaaGreatDoorQPW6
import Derived.Test.YtdigdgohdpeebaaGreatDoorQPW7
import Derived.Test.YtdigdgohdpeebaaGreatDoorQPW8
import Derived.Test.YtdigdgohdpeebaaGreatDoorQPW9
import Derived.Test.YtdigdgohdpeebaaGreatDoorQPW10
set_option linter.unusedSimpArgs false
set_option linter.unusedVariables false
set_option maxHeartbeats 1000000
set_option maxRecDepth 20000
set_option linter.defProp false
namespace Go.Proofs.YtdigdgohdpeebaaGreatDoor
open Go Go.SL
variable{A B:Ab}{x:Bl}{n nm:ByteArray}{ls:List (List UInt8)}{C b:List UInt8}{e j k m:Nat}{D:Nat→Prop}{t:e8}
def QY{l:List (ByteArray × Nat)}{f:Nat}(h1:(l.map (·.1)).Nodup)(h2:(l.map (·.2)).Nodup)(hf:∀x∈l,x.2≠f):((l.map fun x=>if x.1=n then(n,f)else x).map (·.2)).Nodup:=by
 unfold List.Nodup at h1 h2 ⊢
 rw[List.pairwise_map]at h1 h2
 rw[List.pairwise_map,List.pairwise_map]
 refine List.Pairwise.imp_of_mem ?_ (List.Pairwise.and h1 h2)
 intro a b ha hb pG
 by_cases ea:a.1=n
 ·rw[if_pos ea,if_neg (fun e=>pG.1 (ea.trans e.symm))]
  exact fun e=>hf b hb e.symm
 ·rw[if_neg ea]
  by_cases eb:b.1=n
  ·rw[if_pos eb];exact hf a ha
  ·rw[if_neg eb];exact pG.2
def NG(l:List (ByteArray × Nat))(n:ByteArray)(f:Nat):(l.map fun x=>if x.1=n then(n,f)else x).map (·.1)=l.map (·.1):=by
 rw[List.map_map]
 refine List.map_congr_left fun x _=>?_
 simp only[Function.comp]
 split
 ·rename_i h;exact h.symm
 ·rfl
def HA.QZ(h:HA A){o:ByteArray}{c d:List UInt8}(bZ:o≠n)(hv:vw A o=some c)(Jf:vw A n=some d)(hB:(e,B)=A.rename true o n) :
    e=0∧HA B∧vw B=eK (eK (vw A) o none) n (some c)∧B.room=A.room:=by
  obtain⟨f,hf,rfl⟩:∃f,A.look o=some f∧A.now f=c:=by
    unfold vw at hv
    cases hx:A.look o with
    | none=>rw[hx]at hv;cases hv
    | some f=>rw[hx]at hv;injection hv with hv;exact⟨f,rfl,hv⟩
  obtain⟨g,hg⟩:∃g,A.look n=some g:=by
    unfold vw at Jf
    cases hx:A.look n with
    | none=>rw[hx]at Jf;cases Jf
    | some g=>exact⟨g,rfl⟩
  have O0:Ab.cM (Ab.dE A.names o) n=some g:=by
    rw[nQ,if_neg (fun e=>bZ e.symm)]
    exact hg
  obtain⟨N,hN⟩:∃N,N=(Ab.dE A.names o).map (fun x=>if x.1=n then(n,f)else x):=⟨_,rfl⟩
  have iq:Ab.jT (Ab.dE A.names o) n f=N:=by
    unfold Ab.jT
    rw[O0,hN];simp
  have hc:A.rename true o n=(0,A.ni N):=by
    unfold Ab.rename
    rw[h.find,hf]
    show(0,A.ni (Ab.jT (Ab.dE A.names o) n f))=_
    rw[iq]
  rw[hc]at hB
  injection hB with h1 h2
  subst h1 h2
  have ef:∀x∈Ab.dE A.names o,x∈A.names∧x.1≠o:=fun x hx=>by
    obtain⟨h1,h2⟩:=List.mem_filter.1 hx
    exact⟨h1,by simpa using h2⟩
  have zY:((Ab.dE A.names o).map (·.1)).Nodup:=(List.filter_sublist.map _).nodup h.keys
  have yz:((Ab.dE A.names o).map (·.2)).Nodup:=(List.filter_sublist.map _).nodup h.own
  have hnf:∀x∈Ab.dE A.names o,x.2≠f:=fun x hx e=>by
    have h3:=fu h.keys (ef x hx).1
    rw[e]at h3
    exact(ef x hx).2 (h.Q6 h3 hf)
  have hkN:(N.map (·.1)).Nodup:=by rw[hN,NG];exact zY
  have e9:∀x∈N,x=(n,f)∨(x∈Ab.dE A.names o∧x.1≠n):=fun x hx=>by
    rw[hN]at hx
    obtain⟨y,hy,rfl⟩:=List.mem_map.1 hx
    split
    · exact .inl rfl
    · rename_i Gg;exact .inr ⟨hy,Gg⟩
  have hH:HA (A.ni N):=⟨h.dS,h.on,hkN,by show(N.map (·.2)).Nodup;rw[hN];exact QY zY yz hnf,h.ids,fun x hx=>by
    rcases e9 x hx with rfl|⟨hx,_⟩
    · exact h.known (o,f) (gG hf)
    · exact h.known x (ef x hx).1⟩
  refine⟨rfl,hH,funext fun m=>?_,rfl⟩
  have aba:(A.ni N).look m=if m=n then some f else if m=o then none else A.look m:=by
    have qY:∀x∈N,(A.ni N).look x.1=some x.2:=fun x hx=>fu (A:=A.ni N) hkN hx
    by_cases hm:m=n
    · rw[if_pos hm,hm]
      refine qY (n,f) ?_
      rw[hN]
      refine List.mem_map.2 ⟨(n,g),?_,if_pos rfl⟩
      exact gG (A:=A.ni (Ab.dE A.names o)) O0
    · rw[if_neg hm]
      have hd:Ab.cM (Ab.dE A.names o) m=if m=o then none else A.look m:=nQ A.names o m
      rw[← hd]
      cases hx:Ab.cM (Ab.dE A.names o) m with
      | some k =>
        refine qY (m,k) ?_
        rw[hN]
        exact List.mem_map.2 ⟨(m,k),gG (A:=A.ni (Ab.dE A.names o)) hx,if_neg hm⟩
      | none =>
        cases hy:(A.ni N).look m with
        | none=>rfl
        | some k =>
          rcases e9 _ (gG hy)with he|⟨adw,_⟩
          · injection he with he _;exact absurd he hm
          · have:=fu (A:=A.ni (Ab.dE A.names o)) zY adw
            have h2:(A.ni (Ab.dE A.names o)).look m=none:=hx
            simp only at this
            rw[h2]at this
            cases this
  unfold vw eK
  rw[aba]
  by_cases hm:m=n
  · rw[if_pos hm,if_pos hm];rfl
  · rw[if_neg hm,if_neg hm]
    by_cases ho:m=o
    · rw[if_pos ho,if_pos ho];rfl
    · rw[if_neg ho,if_neg ho];rfl
def AK{n s c:Int}{y:PS}(h:HA A)(hn:isName nm=true)(hf:isName (bM nm)=true)(bZ:bM nm≠nm)(Hm:vw A (bM nm)=none)(hl:A.names.length<200)(zK:(cf ls).length≤1048576)(hr:A.used+(cf ls).length≤A.room)(hR:Ag nm ls (A,n,s,c) e y) :
  e=0∧HA y.1∧vw y.1=eK (vw A) nm (some (cf ls))∧y.1.room=A.room∧y.2=(1,((ls.flatMap aZ).length:Int),((ls.flatMap aZ).length:Int)):=by
 unfold Ag gF at hR
 have iY:(A.size (bM nm)).2=4:=by
  have oB:A.look (bM nm)=none:=by
   unfold vw at Hm
   cases hx:A.look (bM nm)with
   | none=>rfl
   | some f=>rw[hx]at Hm;cases Hm
  unfold Ab.size
  rw[oB]
 simp only[iY]at hR
 rw[if_neg ag,List.nil_append]at hR
 obtain⟨e1,x1,⟨⟨f,h1f,Cm,yL⟩,h1c⟩,c1⟩:=hR
 rw[hf]at Cm yL
 obtain⟨g0,g1,g2,g3⟩:=h.JH Hm hl h1f (B:=x1.1) (e:=e1) (by rw[Cm,yL])
 subst g0
 rcases c1 with⟨fR,_⟩|⟨_,e2,x2,⟨⟨Lv,vY⟩,h2c⟩,c2⟩
 ·exact absurd rfl fR
 have hw:fX (bM nm) 0 (cf ls)=true:=by
  have:=qP hf 0 (cf ls) ag
  simpa using this
 rw[hw]at Lv vY
 obtain⟨hu,EF⟩:=h.pJ g1 Hm g2
 obtain⟨k0,k1,k2,k3⟩:=g1.uK (nm:=bM nm) (c:=[]) (by rw[g2,dp]) 0 (cf ls) (by rw[hu,g3];simp only[List.length_nil];omega) (B:=x2.1) (e:=e2) (by rw[Lv,vY])
 subst k0
 rcases c2 with⟨fR,_⟩|⟨_,e3,x3,⟨⟨HH,A9⟩,Y2⟩,c3⟩
 ·exact absurd rfl fR
 rw[hf]at HH A9
 have qd:bN [] 0 (cf ls)=cf ls:=by unfold bN;simp
 rw[qd]at k2
 obtain⟨m0,m1,m2,m3⟩:=k1.xB (nm:=bM nm) (c:=cf ls) (by rw[k2,dp]) (B:=x3.1) (e:=e3) (by rw[HH,A9])
 subst m0
 rcases c3 with⟨fR,_⟩|⟨_,e4,x4,⟨⟨Gp,E5⟩,h4c⟩,c4⟩
 ·exact absurd rfl fR
 have gp:[bM nm,nm].all isName=true:=by simp[hf,hn]
 rw[gp]at Gp E5
 have W2:vw x3.1 (bM nm)=some (cf ls):=by rw[m2,k2,dp]
 have Jf:vw x3.1 nm=vw A nm:=by rw[m2,k2,dH _ _ (fun e=>bZ e.symm),g2,dH _ _ (fun e=>bZ e.symm)]
 obtain⟨p0,p1,p2,p3⟩:e4=0∧HA x4.1∧vw x4.1=eK (eK (vw x3.1) (bM nm) none) nm (some (cf ls))∧x4.1.room=x3.1.room:=by
  cases hd:vw A nm with
  | none=>exact m1.IT bZ W2 (by rw[Jf,hd]) (B:=x4.1) (e:=e4) (by rw[Gp,E5])
  | some d=>exact m1.QZ bZ W2 (by rw[Jf,hd]) (B:=x4.1) (e:=e4) (by rw[Gp,E5])
 subst p0
 rcases c4 with⟨fR,_⟩|⟨_,e5,x5,⟨⟨RW,RV⟩,h5c⟩,c5⟩
 ·exact absurd rfl fR
 obtain⟨q0,q1,q2,q3⟩:=p1.xC (B:=x5.1) (e:=e5) (by rw[RW,RV])
 subst q0
 rcases c5 with⟨fR,_⟩|⟨_,e6,x6,⟨Y1,X1⟩,c6⟩
 ·exact absurd rfl fR
 subst Y1
 rcases c6 with⟨fR,_⟩|⟨_,he,hy⟩
 ·exact absurd rfl fR
 subst he
 rw[hy,X1]
 simp only
 refine⟨trivial,q1,?_,by rw[q3,p3,m3,k3,g3],trivial⟩
 rw[q2,p2,m2,k2,g2]
 funext m
 unfold eK
 by_cases h1:m=nm
 ·simp[h1]
 ·by_cases h2:m=bM nm
  ·rw[if_neg h1,if_neg h1,if_pos h2,h2];exact Hm.symm
  ·simp[h1,h2]
def Dn{n:Nat}(h:n<128):cZ [UInt8.ofNat n]=some n:=by
 have:=uM (n:=n) ag
 rwa[gb h]at this
def Gx{c:UInt8}(h:¬c.toNat<128):cZ [c]=none:=by
 unfold cZ dj
 simp[od,h]
def K0{x:List UInt8}(hx:x.length≤4096)(rest:List UInt8):mh (aZ x++rest)=some ((uv x.length).length,x.length):=by
 unfold mh aZ
 have hp:=Gw x.length
 rw[if_pos (by simp only[List.length_append];omega)]
 by_cases h:x.length<128
 ·rw[gb h]
  simp only[List.cons_append,List.nil_append,List.take_succ_cons,List.take_zero,Dn h,List.length_singleton]
 ·have h2:uv x.length=[UInt8.ofNat (x.length%128+128),UInt8.ofNat (x.length/128)]:=by rw[xo h,gb ag]
  have hu:=uM (n:=x.length) ag
  rw[h2]at hu ⊢
  have e:(UInt8.ofNat (x.length%128+128)).toNat=x.length%128+128:=by simp only[UInt8.toNat_ofNat'];omega
  simp only[List.cons_append,List.nil_append,List.take_succ_cons,List.take_zero]
  rw[Gx (by rw[e];omega)]
  simp only[List.length_cons]
  rw[if_pos ag,hu]
  rfl
def pS:∀(ls:List (List UInt8)),(∀x∈ls,x.length≤4096)→ck (ls.flatMap aZ)=ls
 | [],_=>by
  refine rI ?_
  unfold mh
  simp
 | x::ls,h=>by
  have hx:=h x (List.mem_cons_self ..)
  have hl:=K0 hx (ls.flatMap aZ)
  have XH:(aZ x).length=(uv x.length).length+x.length:=by simp[aZ]
  rw[List.flatMap_cons,rJ hl ⟨hx,by rw[List.length_append,XH];omega⟩]
  congr 1
  ·unfold aZ
   rw[List.append_assoc,List.drop_left,List.take_left]
  ·rw[← XH,List.drop_left,pS ls (fun y hy=>h y (List.mem_cons_of_mem _ hy))]
def tH{n:Nat}(hn:n<4294967296)(hm:m<4294967296):oV (cd n m)=n∧oV ((cd n m).drop 4)=m:=by
 unfold cd
 rw[List.append_assoc]
 refine⟨I8 n hn _,?_⟩
 rw[show(vQ n++(vQ m++(vQ n++vQ m))).drop 4=vQ m++(vQ n++vQ m)from rfl]
 exact I8 m hm _
def Ln{last n:Nat}(h:(C.drop (16*k)).take 16=cd n m)(hn:n<4294967296)(hm:m<4294967296):lD C k last=decide (last<n∧n≤1073741824∧n%2=k∧m+32≤C.length):=by
 unfold lD
 rw[h]
 simp only[(tH hn hm).1,(tH hn hm).2,and_true]
def EP{last:Nat}(h:(C.drop (16*k)).take 16=List.replicate 16 0):lD C k last=false:=by
 unfold lD
 rw[h]
 have:oV (List.replicate 16 0)=0:=by decide
 simp only[this]
 exact decide_eq_false (fun hh=>by have:=hh.1;omega)
def ku{n:Nat}{s:Nat × Nat}(h:(C.drop (16*k)).take 16=cd n m)(hn:n<4294967296)(hm:m<4294967296):fk C k s=if s.1<n∧n≤1073741824∧n%2=k∧m+32≤C.length then(n,m)else s:=by
 unfold fk
 rw[Ln h hn hm,h,(tH hn hm).1,(tH hn hm).2]
 by_cases hc:s.1<n∧n≤1073741824∧n%2=k∧m+32≤C.length
 ·rw[if_pos hc,if_pos (decide_eq_true hc)]
 ·rw[if_neg hc,if_neg (by rw[decide_eq_false hc];simp)]
def vT{s:Nat × Nat}(h:(C.drop (16*k)).take 16=List.replicate 16 0):fk C k s=s:=by
 unfold fk
 rw[EP h];simp
def abW(a b c:List UInt8)(ha:a.length=16)(hb:b.length=16):((a++b++c).drop (16*0)).take 16=a∧((a++b++c).drop (16*1)).take 16=b∧(a++b++c).drop 32=c:=by
 have Tq:(a++b).length=32:=by rw[List.length_append];omega
 refine⟨?_,?_,?_⟩
 ·rw[List.append_assoc,Nat.mul_zero,List.drop_zero,← ha,List.take_left]
 ·rw[List.append_assoc,show 16*1=a.length from by omega,List.drop_left,← hb,List.take_left]
 ·rw[← Tq,List.drop_left]
def Gs(C b:List UInt8):bN C C.length b=C++b:=by
 unfold bN
 rw[show C.length+b.length-C.length=b.length from by omega]
 simp
def Dh(a h r:List UInt8)(hl:h.length=a.length):bN (a++r) 0 h=h++r:=by
 unfold bN
 rw[show 0+h.length-(a++r).length=0 from by rw[List.length_append];omega]
 simp only[List.replicate_zero,List.append_nil,List.take_zero,List.nil_append,Nat.zero_add]
 rw[hl,List.drop_left]
def Oy(m:Nat)(body:List UInt8):List UInt8:=List.replicate 16 0++cd 1 m++body
def K2(m:Nat)(body:List UInt8):(Oy m body).length=32+body.length:=by
 unfold Oy;simp only[List.length_append,List.length_replicate,fY]
def Gv(ls:List (List UInt8)):cf ls=Oy (ls.flatMap aZ).length (ls.flatMap aZ):=rfl
structure Fl(A:Ab)(D:Nat→Prop):Prop where
 wr:∀w∈A.writes,D w.1
 cl:∀f∈A.fs.map (·.1),¬D f→(A.file f).2=(A.file f).1
def Cd.fl(h:Cd k A D):Fl A D:=⟨h.wr,h.cl⟩
def Fl.none{f:Nat}(h:Fl A (fun g=>(False∨g=f)∧g≠f)):Fl A (fun _=>False) :=
 ⟨fun w hw=>by rcases h.wr w hw with⟨hx|hx,hy⟩;exact hx;exact hy hx,fun g hg hd=>h.cl g hg (fun x=>by rcases x with⟨hx|hx,hy⟩;exact hx;exact hy hx)⟩
def Fl.create(h:Fl A D)(hs:iE n A 0 B):∃f,B.look n=some f∧Fl B D:=by
 rcases Cv hs with⟨bZ,_⟩|⟨_,jN,f,hf,hn,cL,mS,qd⟩
 ·exact absurd rfl bZ
 refine⟨f,?_,fun w hw=>h.wr w (qd ▸ hw),fun g hg hd=>?_⟩
 ·unfold Ab.look at jN ⊢
  rw[hn,Hg,jN]
  simp
 ·rw[Pn mS]
  split
  ·rfl
  ·rename_i EI
   rw[Rl mS]at hg
   rcases List.mem_cons.1 hg with e|hg
   ·exact absurd e.symm EI
   ·exact h.cl g hg hd
def Fl.write{at_:Nat}(h:Fl A D)(hw:fL n at_ b A 0 B):∃f,A.look n=some f∧B.look n=some f∧B.names=A.names∧B.aw=A.aw∧Fl B (fun g=>D g∨g=f):=by
 rcases vC hw with⟨bZ,_⟩|⟨_,f,hf,hn,hs,mS,qd⟩
 ·exact absurd rfl bZ
 refine⟨f,hf,by unfold Ab.look at hf ⊢;rw[hn];exact hf,hn,hs,fun w hw=>?_,fun g hg hd=>?_⟩
 ·rw[qd,List.mem_append,List.mem_singleton]at hw
  rcases hw with hw|rfl
  ·exact .inl (h.wr w hw)
  ·exact .inr rfl
 ·rw[Jc mS]at hg
  rw[yQ mS hg,if_neg (fun e=>hd (.inr e))]
  exact h.cl g hg (fun x=>hd (.inl x))
def Fl.sync(h:Fl A D)(hs:fj n A 0 B):∃f,A.look n=some f∧B.names=A.names∧B.aw=A.aw∧Fl B (fun g=>D g∧g≠f):=by
 rcases xA hs with⟨bZ,_⟩|⟨_,f,hf,hn,cL,mS,qd⟩
 ·exact absurd rfl bZ
 refine⟨f,hf,hn,cL,fun w hw=>?_,fun g hg hd=>?_⟩
 ·rw[qd,List.mem_filter]at hw
  exact⟨h.wr w hw.1,by simpa using hw.2⟩
 ·rw[Eu mS]at hg
  rw[vd mS hg]
  by_cases EI:g=f
  ·rw[if_pos EI]
  ·rw[if_neg EI];exact h.cl g hg (fun x=>hd ⟨x,EI⟩)
def Fl.aaI(h:Fl A D)(hf:B.fs=A.fs)(hw:B.writes=A.writes):Fl B D:=⟨fun w hm=>h.wr w (hw ▸ hm),fun f hm hd=>by rw[tV hf];exact h.cl f (hf ▸ hm) hd⟩
def Fl.rename{o:ByteArray}(h:Fl A D)(hs:kW o n A 0 B):Fl B D:=by
 rcases BW hs with⟨bZ,_⟩|⟨_,f,hf,hn,cL,mS,qd⟩
 ·exact absurd rfl bZ
 ·exact h.aaI mS qd
def Fl.names(h:Fl A (fun _=>False))(hB:HA B)(hs:dN A 0 B)(hk:B.names.length≤k):Cz k B:=by
 rcases wi hs with⟨bZ,_⟩|⟨_,hn,cL,mS,qd⟩
 ·exact absurd rfl bZ
 have h2:=h.aaI mS qd
 exact Cd.one hB (by rw[cL,hn]) h2.wr h2.cl hk
def Fl.put{C:Ab}{at_:Nat}(h:Fl A (fun _=>False))(hw:fL n at_ b A 0 B)(hs:fj n B 0 C):Fl C (fun _=>False):=by
 obtain⟨f,h1,h2,_,_,h3⟩:=h.write hw
 obtain⟨g,h4,_,_,h6⟩:=h3.sync hs
 rw[h2]at h4
 injection h4 with h4
 subst h4
 exact Fl.none h6
def Cz.begin{q:Int}{s:e8}(h:Cz k s.A)(hA:HA s.A)(hb:s.brk=false)(hn:s.A.names.length<k)(hk:k≤200)(hR:dU q x s e t):Cz k t.A:=by
 unfold dU at hR
 rw[if_neg (by rw[hb];simp)]at hR
 split at hR
 ·rw[hR.2];exact h
 split at hR
 ·rw[hR.2];exact h
 split at hR
 ·rw[hR.2];exact h
 split at hR
 ·rw[hR.2];exact h
 rename_i hS
 rw[nc]at hS
 have hv:vw s.A (fS x)=none:=by
  cases hx:vw s.A (fS x)with
  | none=>rfl
  | some c=>rw[hx]at hS;exact absurd rfl hS
 obtain⟨e1,s1,⟨B,⟨e2,A2,QD,mT⟩,rfl⟩,hc⟩:=hR
 have adO:=QD
 obtain⟨f,hf,QD⟩:=QD
 rw[gH]at QD
 obtain⟨rfl,h2,ry,rA,sR⟩:=hA.create hv ag hf QD
 obtain⟨_,_,nX⟩:=h.fl.create adO
 rcases mT with⟨bZ,_⟩|⟨_,e3,A3,OJ,XQ⟩
 ·exact absurd rfl bZ
 obtain⟨rfl,h3,hv3,Hy,YH⟩:=h2.ct OJ
 rcases XQ with⟨bZ,_⟩|⟨_,rfl,rfl⟩
 ·exact absurd rfl bZ
 rcases hc with⟨bZ,_⟩|⟨_,rfl,rfl⟩
 ·exact absurd rfl bZ
 exact nX.names h3 OJ (by rw[Hy,rA];omega)
def Cz.acu{i:Int}{s u:e8}{e:Nat}(h:Cz k s.A)(hA:HA s.A)(hB:HA t.A)(hR:mY x i b s 0 t)(hS:ki x t 0 u):Cz k u.A:=by
 unfold mY at hR
 split at hR
 ·exact absurd hR.1.symm (by assumption)
 split at hR
 ·cases hR.1
 split at hR
 ·cases hR.1
 obtain⟨B,⟨e1,A1,hw,hc⟩,rfl⟩:=hR
 unfold ki at hS
 split at hS
 ·exact absurd hS.1.symm (by assumption)
 obtain⟨C,⟨e2,A2,hs,mT⟩,rfl⟩:=hS
 rcases hc with⟨bZ,h0,_⟩|⟨h0,_,rfl⟩
 ·exact absurd h0.symm bZ
 rcases mT with⟨bZ,h02,_⟩|⟨h02,_,rfl⟩
 ·exact absurd h02.symm bZ
 subst h0 h02
 exact h.put hA hB hw hs
def Cz.PM{c:List UInt8}{s:e8}(h:Cz k s.A)(hA:HA s.A)(hv:vw s.A (iz x.d)=some c)(hc:c.length≤1000)(hR:gN x s 0 t):Cz k t.A:=by
 unfold gN at hR
 split at hR
 ·exact absurd hR.1.symm (by assumption)
 obtain⟨s1,⟨B,⟨e1,A1,hw,EW⟩,rfl⟩,ht⟩:=hR
 rw[if_neg (by simp)]at ht
 rcases EW with⟨bZ,h0,_⟩|⟨h0,_,rfl⟩
 ·exact absurd h0.symm bZ
 subst h0 ht
 exact h.remove hA hv hc hw
def Cz.OA{c:List UInt8}{s:e8}(h:Cz k s.A)(hA:HA s.A)(hb:s.brk=false)(ho:gK s.bq x.d=some x)(hv:vw s.A (iz x.d)=some c)(hc:c.length≤1000)(jN:vw s.A (fB x)=none)(hn:s.A.names.length<k)(hR:dQ x s e t):Cz k t.A:=by
 cases hw:ej x c with
 | false =>
  have hm:jh s x=0:=by unfold jh tC;simp[hb,ho]
  unfold dQ at hR
  rw[hm,if_neg (by simp),og hA,show vw s.A (fS x)=some c from hv,if_pos (by exact hw)]at hR
  obtain⟨e1,pG,he⟩:=hR
  obtain⟨rfl,_⟩:=uD hA hb ho hv pG
  exact h.PM hA hv hc pG
 | true =>
  obtain⟨A,bq,brk⟩:=s
  simp only at h hA hb ho hv jN hn
  subst hb
  have hm:jh ⟨A,bq,false⟩ x=0:=by unfold jh tC;simp[ho]
  unfold dQ at hR
  rw[hm,if_neg (by simp),og hA,show vw A (fS x)=some c from hv,if_neg (by show ¬ej x c=false;rw[hw];simp)]at hR
  obtain⟨s1,⟨B,⟨e1,A1,h1,EW⟩,rfl⟩,ht⟩:=hR
  have h10:=h1
  unfold fj at h1
  rw[gH]at h1
  obtain⟨rfl,g1,v1,l1,r1⟩:=hA.sync hv h1
  have z1:=h.WK hA h10
  rcases EW with⟨bZ,_⟩|⟨_,e2,A2,h2,mT⟩
  ·exact absurd rfl bZ
  have h20:=h2
  unfold kW at h2
  rw[show [fS x,fB x].all isName=true from by simp[gH,AU]]at h2
  obtain⟨rfl,g2,v2,r2,f,_,l2⟩:=g1.rename (Fc x x) ((v1 _).trans hv) ((v1 _).trans jN) h2
  have z2:=z1.fl.rename h20
  rcases mT with⟨bZ,_⟩|⟨_,e3,A3,h3,XQ⟩
  ·exact absurd rfl bZ
  obtain⟨rfl,g3,v3,l3,r3⟩:=g2.ct h3
  rcases XQ with⟨bZ,_⟩|⟨_,rfl,rfl⟩
  ·exact absurd rfl bZ
  rw[if_neg (by simp)]at ht
  subst ht
  refine z2.names g3 h3 ?_
  have:(Ab.dE A1.names (fS x)).length≤A1.names.length:=List.length_filter_le _ _
  rw[l3,l2,List.length_append,List.length_singleton]
  rw[l1]at this ⊢
  omega
def JC(C:List UInt8)(n:Nat)(ls:List (List UInt8)):Prop :=
  ∃h0 h1:List UInt8,C=h0++h1++ls.flatMap aZ∧h0.length=16∧h1.length=16∧1≤n ∧
    (if n%2=1 then h1=cd n (ls.flatMap aZ).length∧(h0=List.replicate 16 0∨∃s,s≤(ls.flatMap aZ).length∧h0=cd (n-1) s)
     else h0=cd n (ls.flatMap aZ).length∧(h1=List.replicate 16 0∨∃s,s≤(ls.flatMap aZ).length∧h1=cd (n-1) s))
def JC.len{n:Nat}(h:JC C n ls):C.length=32+(ls.flatMap aZ).length:=by
 obtain⟨h0,h1,rfl,l0,l1,_⟩:=h
 simp only[List.length_append];omega
def JC.whole(ls:List (List UInt8)):JC (cf ls) 1 ls:=⟨List.replicate 16 0,cd 1 (ls.flatMap aZ).length,rfl,by simp,fY _ _,ag,by rw[if_pos rfl];exact⟨rfl,.inl rfl⟩⟩
def JC.found{n:Nat}(h:JC C n ls)(hn:n≤1073741824)(hs:(ls.flatMap aZ).length<4294967296):fm C=ls.flatMap aZ:=by
 have hlen:=h.len
 obtain⟨h0,h1,rfl,l0,l1,h1n,hc⟩:=h
 obtain⟨k0,k1,k2⟩:=abW h0 h1 (ls.flatMap aZ) l0 l1
 unfold fm
 rw[if_neg ag,k2]
 have key:(fk (h0++h1++ls.flatMap aZ) 1 (fk (h0++h1++ls.flatMap aZ) 0 (0,0))).2=(ls.flatMap aZ).length:=by
  by_cases hp:n%2=1
  ·rw[if_pos hp]at hc
   obtain⟨rfl,rfl|⟨s,fO,rfl⟩⟩:=hc
   ·rw[vT k0,ku k1 ag hs,if_pos ⟨by simp only;omega,hn,hp,ag⟩]
   ·rw[ku k0 ag ag]
    split
    ·rw[ku k1 ag hs,if_pos ⟨by simp only;omega,hn,hp,ag⟩]
    ·rw[ku k1 ag hs,if_pos ⟨by simp only;omega,hn,hp,ag⟩]
  ·rw[if_neg hp]at hc
   obtain⟨rfl,rfl|⟨s,fO,rfl⟩⟩:=hc
   ·rw[ku k0 ag hs,if_pos ⟨by simp only;omega,hn,ag,ag⟩,vT k1]
   ·rw[ku k0 ag hs,if_pos ⟨by simp only;omega,hn,ag,ag⟩,ku k1 ag ag,if_neg (by intro h;have:=h.1;simp only at this;omega)]
 rw[key,List.take_length]
def BC(a h h' r:List UInt8)(hl:h'.length=h.length):bN (a++h++r) a.length h'=a++h'++r:=by
 unfold bN
 rw[show a.length+h'.length-(a++h++r).length=0 from by simp only[List.length_append];omega]
 simp only[List.replicate_zero,List.append_nil]
 rw[show(a++h++r).take a.length=a from by rw[List.append_assoc,List.take_left],hl,show a.length+h.length=(a++h).length from by simp,List.drop_left]
def JC.add{n:Nat}(h:JC C n ls)(b:List UInt8):JC (bN (bN C (32+(ls.flatMap aZ).length) (aZ b)) ((n+1)%2*16) (cd (n+1) ((ls.flatMap aZ).length+(aZ b).length))) (n+1) (ls++[b]):=by
 have hlen:=h.len
 rw[← hlen,Gs]
 obtain⟨h0,h1,rfl,l0,l1,h1n,hc⟩:=h
 have hf:(ls++[b]).flatMap aZ=ls.flatMap aZ++aZ b:=by simp
 have nX:((ls++[b]).flatMap aZ).length=(ls.flatMap aZ).length+(aZ b).length:=by rw[hf,List.length_append]
 by_cases hp:n%2=1
 ·rw[if_pos hp]at hc
  have zM:(n+1)%2=0:=by omega
  rw[zM,Nat.zero_mul,← nX,List.append_assoc,List.append_assoc,Dh h0 _ _ (by rw[fY,l0])]
  refine⟨cd (n+1) ((ls++[b]).flatMap aZ).length,h1,by simp only[hf,List.append_assoc],fY _ _,l1,ag,?_⟩
  rw[if_neg ag]
  exact⟨rfl,.inr ⟨(ls.flatMap aZ).length,by rw[nX];omega,by rw[hc.1,Nat.add_sub_cancel]⟩⟩
 ·rw[if_neg hp]at hc
  have zM:(n+1)%2=1:=by omega
  rw[zM,Nat.one_mul,← nX,List.append_assoc (h0++h1),← l0,BC h0 h1 _ _ (by rw[fY,l1])]
  refine⟨h0,cd (n+1) ((ls++[b]).flatMap aZ).length,by simp only[hf,List.append_assoc],l0,fY _ _,ag,?_⟩
  rw[if_pos zM]
  exact⟨rfl,.inr ⟨(ls.flatMap aZ).length,by rw[nX];omega,by rw[hc.1,Nat.add_sub_cancel]⟩⟩
def Di(h:HA A)(h':HA B){k:ByteArray}{c c':List UInt8}(hk:vw A k=some c)(hv:vw B=eK (vw A) k (some c')):B.used+c.length=A.used+c'.length:=by
 rw[jQ h,jQ h',hv]
 exact QP El h.BK (hv ▸ h'.BK) hk
def Ap(h:HA A)(h':HA B)(hv:vw B=vw A):B.used=A.used:=by
 rw[jQ h,jQ h',hv]
 exact xu El (hv ▸ h'.BK) h.BK
def G7{n:Nat}{bq:List (Dg × Bl)}{brk:Bool}{s:Int}{y:SJ}(h:HA A)(hz:Cz k A)(hv:vw A cS=some C)(hj:JC C n ls)(hs:s=((ls.flatMap aZ).length:Int))(hb:b.length≤4096)(yC:(ls.flatMap aZ).length+(aZ b).length≤524288)(S6:n<1073741824)(hr:A.used+(64+(ls.flatMap aZ).length+(aZ b).length)≤A.room)(hR:iA (jD b) (⟨A,bq,brk⟩,⟨n,s,s,false⟩) e y) :
  e=0∧HA y.1.A∧Cz k y.1.A∧(∃C',vw y.1.A=eK (vw A) cS (some C')∧JC C' (n+1) (ls++[b]))∧y.1.A.room=A.room∧y.1.bq=bq∧y.1.brk=brk∧y.2=⟨((n+1:Nat):Int),(((ls++[b]).flatMap aZ).length:Int),(((ls++[b]).flatMap aZ).length:Int),false⟩∧y.1.A.names.length=A.names.length∧y.1.A.used≤A.used+(32+(ls.flatMap aZ).length+(aZ b).length):=by
 subst hs
 have lA:0<(aZ b).length:=by have:=Gw b.length;simp[aZ];omega
 have hlen:=hj.len
 have hf:((ls++[b]).flatMap aZ).length=(ls.flatMap aZ).length+(aZ b).length:=by simp
 obtain⟨e1,x1,⟨Cm,yL⟩,c1⟩:=hR
 have hw:fX cS (32+((ls.flatMap aZ).length:Int)) (aZ b)=true:=by
  have:=qP ed (32+(ls.flatMap aZ).length) (aZ b) ag
  simpa using this
 have ht:(32+((ls.flatMap aZ).length:Int)).toNat=32+(ls.flatMap aZ).length:=by omega
 obtain⟨a0,a1,a2,a3⟩:=h.uK hv (32+(ls.flatMap aZ).length) (aZ b) ag (B:=(A.write true cS (32+(ls.flatMap aZ).length) (aZ b)).2) (e:=(A.write true cS (32+(ls.flatMap aZ).length) (aZ b)).1) rfl
 have SK:fL cS (32+(ls.flatMap aZ).length) (aZ b) A 0 (A.write true cS (32+(ls.flatMap aZ).length) (aZ b)).2:=by
  unfold fL
  have mR:fX cS ((32+(ls.flatMap aZ).length:Nat):Int) (aZ b)=true:=by simpa using hw
  rw[mR,← a0]
 have RQ:cU cS A ⟨n,((ls.flatMap aZ).length:Int),((ls.flatMap aZ).length:Int),false⟩ b=(0,(A.write true cS (32+(ls.flatMap aZ).length) (aZ b)).2,⟨n,(((ls++[b]).flatMap aZ).length:Int),((ls.flatMap aZ).length:Int),false⟩):=by
  unfold cU
  simp only[Bool.false_eq_true,if_false]
  rw[if_neg ag,if_neg ag,hw,ht,if_pos a0,hf]
  simp
 simp only[RQ]at Cm yL
 subst Cm
 rcases c1 with⟨bZ,_⟩|⟨_,e2,x2,⟨A',x',mT,vY⟩,c2⟩
 ·exact absurd rfl bZ
 rw[yL]at mT vY
 simp only at mT vY
 obtain⟨A1,sF⟩:∃A1,A1=(A.write true cS (32+(ls.flatMap aZ).length) (aZ b)).2:=⟨_,rfl⟩
 rw[← sF]at a1 a2 a3 SK mT
 have SR:=Di h a1 hv a2
 have w0:=fE C (32+(ls.flatMap aZ).length) (aZ b)
 unfold j7 at mT
 simp only[Bool.false_eq_true,if_false]at mT
 rw[if_neg (by rw[hf];omega),if_neg ag]at mT
 obtain⟨z,fU,rfl,rfl⟩:=mT
 obtain⟨e3,x3,⟨⟨HH,A9⟩,Y2⟩,c3⟩:=fU
 simp only[ed]at HH A9
 have Qy:fj cS A1 e3 x3.1:=by unfold fj;rw[ed,HH,A9]
 obtain⟨g0,g1,g2,g3⟩:=a1.xB (nm:=cS) (c:=bN C (32+(ls.flatMap aZ).length) (aZ b)) (by rw[a2,dp]) (B:=x3.1) (e:=e3) (by rw[HH,A9])
 subst g0
 have z3:Cz k x3.1:=hz.put h a1 SK Qy
 rcases c3 with⟨bZ,_⟩|⟨_,e4,x4,⟨⟨Gp,E5⟩,h4c⟩,c4⟩
 ·exact absurd rfl bZ
 have px:(n:Int).toNat+1=n+1:=by omega
 have K8:(((ls++[b]).flatMap aZ).length:Int).toNat=(ls.flatMap aZ).length+(aZ b).length:=by rw[hf];omega
 simp only[px,K8]at Gp E5
 have hhl:=fY (n+1) ((ls.flatMap aZ).length+(aZ b).length)
 have hw4:fX cS (((n+1)%2*16:Nat):Int) (cd (n+1) ((ls.flatMap aZ).length+(aZ b).length))=true:=qP ed _ _ ag
 rw[hw4]at Gp E5
 have hu3:=Ap a1 g1 g2
 obtain⟨k0,k1,k2,k3⟩:=g1.uK (nm:=cS) (c:=bN C (32+(ls.flatMap aZ).length) (aZ b)) (by rw[g2,a2,dp]) ((n+1)%2*16) (cd (n+1) ((ls.flatMap aZ).length+(aZ b).length)) (by rw[hu3,g3,a3];omega) (B:=x4.1) (e:=e4) (by rw[Gp,E5])
 subst k0
 have W9:fL cS ((n+1)%2*16) (cd (n+1) ((ls.flatMap aZ).length+(aZ b).length)) x3.1 0 x4.1:=by
  unfold fL
  rw[hw4,Gp,E5]
 have hu4:=Di g1 k1 (by rw[g2,a2,dp]) k2
 have w1:=fE C (32+(ls.flatMap aZ).length) (aZ b)
 have w2:=fE (bN C (32+(ls.flatMap aZ).length) (aZ b)) ((n+1)%2*16) (cd (n+1) ((ls.flatMap aZ).length+(aZ b).length))
 rcases c4 with⟨bZ,_⟩|⟨_,e5,x5,⟨⟨RW,RV⟩,h5c⟩,c5⟩
 ·exact absurd rfl bZ
 simp only[ed]at RW RV
 have hs5:fj cS x4.1 e5 x5.1:=by unfold fj;rw[ed,RW,RV]
 obtain⟨m0,m1,m2,m3⟩:=k1.xB (nm:=cS) (c:=bN (bN C (32+(ls.flatMap aZ).length) (aZ b)) ((n+1)%2*16) (cd (n+1) ((ls.flatMap aZ).length+(aZ b).length))) (by rw[k2,dp]) (B:=x5.1) (e:=e5) (by rw[RW,RV])
 subst m0
 have z5:Cz k x5.1:=z3.put g1 k1 W9 hs5
 have hu5:=Ap k1 m1 m2
 rcases c5 with⟨bZ,_⟩|⟨_,e6,x6,⟨Y1,X1⟩,c6⟩
 ·exact absurd rfl bZ
 subst Y1
 rcases c6 with⟨bZ,_⟩|⟨_,he,hy⟩
 ·exact absurd rfl bZ
 subst he
 rw[hy,X1]at vY
 simp only at vY
 rcases c2 with⟨bZ,_⟩|⟨_,he,AW⟩
 ·exact absurd rfl bZ
 subst he
 rw[AW,vY]
 simp only
 have oY:vw x5.1=eK (vw A) cS (some (bN (bN C (32+(ls.flatMap aZ).length) (aZ b)) ((n+1)%2*16) (cd (n+1) ((ls.flatMap aZ).length+(aZ b).length)))):=by
  rw[m2,k2,g2,a2]
  funext m
  unfold eK
  split <;> rfl
 refine⟨trivial,m1,z5,⟨_,oY,hj.add b⟩,by rw[m3,k3,g3,a3],trivial,trivial,?_,h.qa m1 (fun m=>?_),ag⟩
 ·have e5:x5.2=((n:Int),(((ls++[b]).flatMap aZ).length:Int),((ls.flatMap aZ).length:Int)):=by rw[h5c,h4c,Y2]
  rw[e5,px]
  simp
 ·rw[oY]
  unfold eK
  split
  ·rename_i hm;rw[hm,hv];rfl
  ·rfl
def Km(hv:vw A nm=none):(A.size nm).2=4:=by
 have oB:A.look nm=none:=by
  unfold vw at hv
  cases hx:A.look nm with
  | none=>rfl
  | some f=>rw[hx]at hv;cases hv
 unfold Ab.size
 rw[oB]
def GZ{k':Nat}{n s c:Int}{y:PS}(h:Cz k A)(Hm:vw A (bM nm)=none)(hB:HA y.1)(hk:y.1.names.length≤k')(hR:Ag nm ls (A,n,s,c) 0 y):Cz k' y.1:=by
 unfold Ag gF at hR
 simp only[Km Hm]at hR
 rw[if_neg ag,List.nil_append]at hR
 obtain⟨e1,x1,⟨⟨f,h1f,Cm,yL⟩,h1c⟩,⟨hx,hy,_⟩|⟨rfl,e2,x2,⟨⟨Lv,vY⟩,h2c⟩,c2⟩⟩:=hR
 ·exact absurd hy.symm hx
 obtain⟨_,_,f1⟩:=h.fl.create (n:=bM nm) (B:=x1.1) ⟨f,h1f,Prod.ext Cm yL⟩
 rcases c2 with⟨hx,hy,_⟩|⟨rfl,e3,x3,⟨⟨HH,A9⟩,Y2⟩,c3⟩
 ·exact absurd hy.symm hx
 rcases c3 with⟨hx,hy,_⟩|⟨rfl,e4,x4,⟨⟨Gp,E5⟩,h4c⟩,c4⟩
 ·exact absurd hy.symm hx
 have f3:=f1.put (n:=bM nm) (at_:=0) (b:=cf ls) (B:=x2.1) (C:=x3.1) (Prod.ext Lv vY) (Prod.ext HH A9)
 rcases c4 with⟨hx,hy,_⟩|⟨rfl,e5,x5,⟨⟨RW,RV⟩,h5c⟩,c5⟩
 ·exact absurd hy.symm hx
 have f4:=f3.rename (o:=bM nm) (n:=nm) (B:=x4.1) (Prod.ext Gp E5)
 rcases c5 with⟨hx,hy,_⟩|⟨rfl,e6,x6,⟨Y1,X1⟩,c6⟩
 ·exact absurd hy.symm hx
 rcases c6 with⟨hx,hy,_⟩|⟨_,_,hy⟩
 ·exact absurd hy.symm hx
 have Rm:y.1=x5.1:=by rw[hy,X1]
 rw[Rm]at hB hk ⊢
 exact f4.names hB (Prod.ext RW RV) hk
structure DQ(k:Nat)(A:Ab):Prop where
 ha:HA A
 cz:Cz k A
 room:A.room=16777216
 Qs:A.names.length≤k
 kd:∀n c,vw A n=some c→(n=cS∧c.length≤100000)∨(∃d,n=iz d)∧c.length≤1000∨(∃d,n=pA d∧dW c=d)∧c.length≤1000
def DQ.used(h:DQ k A):A.used≤100000+1000*k:=by
 have h0:rn El (ei A) (vw A)≤rn (fun n _=>wE n+1000) (ei A) (vw A):=by
  refine Nc _ _ fun n hn=>?_
  obtain⟨c,hc⟩:=Option.isSome_iff_exists.1 ((mem_keys h.ha n).1 hn)
  rw[hc]
  show c.length≤wE n+1000
  rcases h.kd n c hc with⟨rfl,hl⟩|⟨_,hl⟩|⟨_,hl⟩
  ·have:wE cS=100000:=if_pos rfl
   omega
  ·omega
  ·omega
 rw[Nb]at h0
 have h1:rn (fun n _=>wE n) (ei A) (vw A)=((ei A).map wE).sum:=rfl
 have h2:=TE (ei A) h.ha.keys
 have h3:rn (fun _ _=>1000) (ei A) (vw A)=A.names.length*1000:=by rw[BI,nT]
 have h4:=jQ h.ha
 have h5:=h.Qs
 omega
def DQ.rF(h:DQ k A):rF A≤1000*k:=by
 have h0:rn (fun n c=>rp n c) (ei A) (vw A)≤rn (fun _ _=>1000) (ei A) (vw A):=by
  refine Nc _ _ fun n hn=>?_
  obtain⟨c,hc⟩:=Option.isSome_iff_exists.1 ((mem_keys h.ha n).1 hn)
  rw[hc]
  show rp n c≤1000
  rcases h.kd n c hc with⟨rfl,hl⟩|⟨_,hl⟩|⟨_,hl⟩
  ·rw[Oo];omega
  ·have:rp n c≤c.length:=by unfold rp;split <;> omega
   omega
  ·have:rp n c≤c.length:=by unfold rp;split <;> omega
   omega
 have h3:rn (fun _ _=>1000) (ei A) (vw A)=A.names.length*1000:=by rw[BI,nT]
 have h5:=Aq h.ha
 have h6:=h.Qs
 rw[h5]
 have h7:rn (fun k c=>rp k c) (ei A) (vw A)=rn rp (ei A) (vw A):=rfl
 omega
def DQ.mono(h:DQ k A)(hk:k≤j):DQ j A:=⟨h.ha,h.cz.mono (fun _ x=>x) hk,h.room,by have:=h.Qs;omega,h.kd⟩
def DQ.dA(h:DQ k A):DQ k (A.dA 0 [] (-1) 0)∧(∀n c,vw A n=some c→vw (A.dA 0 [] (-1) 0) n=some c)∧(∀n,(∀d,n≠iz d)→vw (A.dA 0 [] (-1) 0) n=vw A n):=by
 obtain⟨h1,h2,h3,h4,h5,h6,h7,h8⟩:=h.cz.dA h.ha
 refine⟨⟨h1,h2,h3.trans h.room,h4,fun n c hc=>?_⟩,h7,fun n hn=>?_⟩
 ·rcases h8 n c hc with hc|hc
  ·exact h.kd n c hc
  ·exact .inr (.inl hc)
 ·cases hx:vw A n with
  | some c=>exact h7 n c hx
  | none =>
   cases hy:vw (A.dA 0 [] (-1) 0) n with
   | none=>rfl
   | some c =>
    rcases h8 n c hy with hc|⟨⟨d,hd⟩,_⟩
    ·rw[hx]at hc;cases hc
    ·exact absurd hd (hn d)
def DQ.next(h:DQ k A)(hB:HA B)(hz:Cz j B)(hr:B.room=A.room)(hn:B.names.length≤j)(hv:∀n c,vw B n=some c→vw A n=some c∨(n=cS∧c.length≤100000)∨(∃d,n=iz d)∧c.length≤1000∨(∃d,n=pA d∧dW c=d)∧c.length≤1000):DQ j B :=
  ⟨hB,hz,hr.trans h.room,hn,fun n c hc=>by
    rcases hv n c hc with hc|hc
    · exact h.kd n c hc
    · exact hc⟩
def DQ.open(h:DQ k A)(hO:pq A e B):e=0∧B=A:=by
 have hB:∀nm∈fW A,∀d,jG kB nm=some d→ju A d=true:=fun nm lG d hd=>by
  obtain rfl:nm=pA d:=(q9.1 hd)
  obtain⟨c,hc⟩:=Option.isSome_iff_exists.1 ((yf h.ha _).1 lG)
  have hs:dW c=d:=by
   rcases h.kd _ c hc with⟨he,_⟩|⟨⟨d',he⟩,_⟩|⟨⟨d',he,hs⟩,_⟩
   ·exact absurd he (gT kB d)
   ·exact absurd he.symm (kF _ _)
   ·rw[Jv he];exact hs
  unfold ju
  have hb:fp A (pA d)=some c:=by rw[og h.ha];exact hc
  simp only[show dy kB d=pA d from rfl,hb]
  simp[hs]
 have jN:∀(k:List UInt8) (nm:ByteArray) (d:Dg),nm∈fW A→jG k nm=some d→(k=kN∨k=kI)→False:=fun k nm d lG hd hk=>by
  obtain rfl:=q9.1 hd
  obtain⟨c,hc⟩:=Option.isSome_iff_exists.1 ((yf h.ha _).1 lG)
  rcases h.kd _ c hc with⟨he,_⟩|⟨⟨d',he⟩,_⟩|⟨⟨d',he,_⟩,_⟩
  ·exact gT k d he
  ·rcases hk with rfl|rfl
   ·exact LF _ _ he.symm
   ·exact LG _ _ he.symm
  ·rcases hk with rfl|rfl
   ·exact LH _ _ he.symm
   ·exact LJ _ _ he.symm
 obtain⟨e1,A1,⟨e2,A2,h2,c2⟩,hc⟩:=hO
 obtain⟨rfl,rfl⟩:=sg _ hB h2
 rcases c2 with⟨hx,_⟩|⟨_,e3,A3,h3,c3⟩
 ·exact absurd rfl hx
 obtain⟨rfl,rfl⟩:=sg _ (fun nm lG d hd=>(jN kN nm d lG hd (.inl rfl)).elim) h3
 rcases c3 with⟨hx,_⟩|⟨_,e4,A4,h4,c4⟩
 ·exact absurd rfl hx
 obtain⟨rfl,rfl⟩:=sg _ (fun nm lG d hd=>(jN kI nm d lG hd (.inr rfl)).elim) h4
 rcases c4 with⟨hx,_⟩|⟨_,rfl,rfl⟩
 ·exact absurd rfl hx
 rw[if_neg ag]at hc
 exact hc
attribute [local irreducible] J K aE Ends ae az aQ bP bj aT aU bp bW
def Lu{ws:List jl}{n:Nat}{w:jl}(hj:j<n)(hw:ws[j/64]?=some w):decide ((((w >>> (j%64)) &&& 1#64).toNat:Int)=1)=dF ws n (j:Int):=by
 unfold dF
 rw[decide_eq_true (show 0≤(j:Int)∧(j:Int)<n by omega),Bool.true_and,Int.toNat_natCast,List.getD_eq_getElem?_getD,hw,Option.getD_some,decide_eq_decide]
 constructor
 ·intro h
  apply BitVec.eq_of_toNat_eq
  have h1:(1#64).toNat=1:=rfl
  rw[h1]
  omega
 ·intro h
  rw[h];rfl
abbrev YC(p q:jl):jl:=p ||| q
def ab6(p:jl):IntKind.u64.wrap ((BitVec.ofInt IntKind.u64.bits (p.toNat:Int) &&& BitVec.ofInt IntKind.u64.bits 1).toNat:Int)=((p &&& 1#64).toNat:Int):=by
 rw[nP]
 exact mZ (p &&& 1#64)
def aaG(p q:jl):IntKind.u64.wrap ((BitVec.ofInt IntKind.u64.bits (p.toNat:Int) ||| BitVec.ofInt IntKind.u64.bits (q.toNat:Int)).toNat:Int)=((p ||| q).toNat:Int):=by
 rw[nP,nP]
 exact mZ (p ||| q)
def PJ(p q:jl):IntKind.u64.wrap ((BitVec.ofInt IntKind.u64.bits (p.toNat:Int) &&& ~~~ BitVec.ofInt IntKind.u64.bits (q.toNat:Int)).toNat:Int)=((p &&& ~~~q).toNat:Int):=by
 rw[nP,nP]
 exact mZ (p &&& ~~~q)
def qNe{ws:List jl}{i:Nat}(h:i<ws.length):qV ws≠[]:=fun e=>by have:=congrArg List.length e;rw[GY]at this;rw[this]at h;simp at h
def lp(sb n:Nat)(wv:Value):aE Tryz.prog 32 [ptr sb] [ae sb (cl [.int .i64 (n:Int),wv] 138)] (fun r H=>r = .int .i64 (n:Int)∧H=[ae sb (cl [.int .i64 (n:Int),wv] 138)]):=by
 refine aE.au Tryz.func32 Tryz.ntmps32 fun G F R hE=>?_
 refine go ?_
 refine ad hE Tryz.func32 zr zr ⟨rfl,rfl⟩
def uC(sb n:Nat)(wv:Value)(ws:List jl)(hn:n≤65536)(hw:n≤ws.length*64)(i:Int):aE Tryz.prog 33 [ptr sb,.int .i64 i] (eT sb n wv ws) (fun r H=>r = .bool (dF ws n i)∧H=eT sb n wv ws):=by
 unfold eT
 by_cases hi:0≤i∧i<(n:Int)
 case neg =>
  rw[qj ag]
  refine aE.au Tryz.func33 Tryz.ntmps33 fun G F R hE=>?_
  by_cases h0:0≤i
  ·refine go ?_
   refine aB 7 ((.bool true)) rfl ((congrArg Value.bool (decide_eq_true ag))) (go ?_)
   refine aB 15 ((.bool false)) rfl ((congrArg Value.bool (decide_eq_false ag))) (go ?_)
   refine ad hE Tryz.func33 zr zr ⟨rfl,rfl⟩
  ·refine go ?_
   refine aB 7 ((.bool false)) rfl ((congrArg Value.bool (decide_eq_false ag))) (go ?_)
   refine ad hE Tryz.func33 zr zr ⟨rfl,rfl⟩
 obtain⟨j,rfl⟩:∃j:Nat,i=j:=⟨i.toNat,ag⟩
 have uG:j/64<ws.length:=by omega
 obtain⟨w,SN⟩:∃w,ws[j/64]?=some w:=⟨ws[j/64],by simp[uG]⟩
 have dm:=BZ SN
 refine aE.au Tryz.func33 Tryz.ntmps33 fun G F R hE=>?_
 refine dg 1 rfl ?_
 rintro a c rfl
 refine cV 1 rfl ?_
 intro dM
 obtain⟨b,o,gQ,fO⟩:=dM.some (qNe uG)
 simp only[Value.slice.injEq]at fO
 obtain⟨rfl,_,rfl⟩:=fO
 refine go ?_
 refine aB 7 ((.bool true)) rfl ((congrArg Value.bool (decide_eq_true ag))) (go ?_)
 refine aB 15 ((.bool true)) rfl ((congrArg Value.bool (decide_eq_true ag))) (go ?_)
 refine lI zr zr zr ag ag (by simp only[gn];omega) ?_
 refine aB 21 ((.int .i64 ((j/64:Nat):Int))) rfl ((congrArg (Value.int .i64) ag)) (go ?_)
 refine bI (j/64) zr zr zr zr zr zr zr zr uG (go ?_)
 refine aK ?_
 refine aX 1 (j/64) zr zr zr dM rfl dm zr zr (go ?_)
 refine ou zr zr zr ag ag ?_
 refine aB 25 ((.int .i64 ((j%64:Nat):Int))) rfl ((congrArg (Value.int .i64) ag)) (go ?_)
 refine qB (p:=w) (j%64) zr zr zr zr ag (go ?_)
 ((refine bu 4 ((.bool (dF ws n (j:Int)))) rfl ((congrArg Value.bool (by rw[ab6];exact Lu ag SN))) ?_))
 refine ad hE Tryz.func33 zr zr ⟨rfl,rfl⟩
def Qo(n:Nat)(hn:n≤65536):aE Tryz.prog 85 [.int .i64 (n:Int)] [] (fun r H=>∃sb wv,r = .tuple #[ptr sb,.int .i64 0]∧H=eT sb n wv (List.replicate ((n+63)/64) 0#64)):=by
 refine aE.au Tryz.func85 Tryz.ntmps85 fun G F R hE=>?_
 refine go ?_
 refine bu 6 ((.bool false)) rfl ((congrArg Value.bool (decide_eq_false ag))) (go ?_)
 refine bu 9 ((.bool false)) rfl ((congrArg Value.bool (decide_eq_false ag))) (go ?_)
 refine lI zr zr zr ag ag (by simp only[gn];omega) ?_
 refine aB 14 ((.int .i64 (((n+63)/64:Nat):Int))) rfl ((congrArg (Value.int .i64) ag)) (go ?_)
 refine ij (p:=(n+63)/64) (q:=(n+63)/64) zr zr zr zr zr zr zr zr zr (Nat.le_refl _) ag (by show 8*_≤_;omega) bD ?_
 intro row
 refine go ?_
 refine bG zr zr bD ?_
 intro sb
 refine go ?_
 refine ai (H':=eT sb n (.slice (some ⟨row,0,none⟩) ((n+63)/64) ((n+63)/64)) (List.replicate ((n+63)/64) 0#64)++F) ?_ ?_
 ·have hq:qV (List.replicate ((n+63)/64) 0#64)=List.replicate ((n+63)/64) (.int .u64 0):=by simp[qV,Na]
  unfold eT
  rw[hq,List.length_replicate]
  refine ao.trans (H2:=ae row (cl (List.replicate ((n+63)/64) (.int .u64 0)) 134)::ae sb (cl [.int .i64 (n:Int),.slice (some ⟨row,0,none⟩) ((n+63)/64) ((n+63)/64)] 138)::F) ah ?_
  refine ao.trans (H2:=ae row (cl (List.replicate ((n+63)/64) (.int .u64 0)++[]) 134)::ae sb (cl [.int .i64 (n:Int),.slice (some ⟨row,0,none⟩) ((n+63)/64) ((n+63)/64)] 138)::F) (by rw[List.append_nil];exact ao.refl _) ?_
  refine(dR 134 1 row ((n+63)/64) ((n+63)/64) (List.replicate ((n+63)/64) (.int .u64 0)) [] _ (by simp) (Nat.le_refl _) (by simp)).trans ?_
  exact ao.perm (List.Perm.swap ..)
 ·refine ad hE Tryz.func85 zr zr ⟨_,_,rfl,rfl⟩
def Q1(ws:List jl)(i:Nat)(w:jl)(hw:ws[i/64]?=some w):(qV ws).set (i/64) (.int .u64 ((YC w (CE (i%64))).toNat:Int))=qV (kX ws i true):=by
 unfold kX
 rw[if_pos rfl,List.getD_eq_getElem?_getD,hw,Option.getD_some]
 exact NJ ws (i/64) _
def NK(ws:List jl)(i:Nat)(w:jl)(hw:ws[i/64]?=some w):(qV ws).set (i/64) (.int .u64 ((w &&& ~~~(CE (i%64))).toNat:Int))=qV (kX ws i false):=by
 unfold kX
 rw[if_neg (by simp),List.getD_eq_getElem?_getD,hw,Option.getD_some]
 exact NJ ws (i/64) _
def MJ(sb n:Nat)(wv:Value)(ws:List jl)(hn:n≤65536)(hw:n≤ws.length*64)(i:Nat)(hi:i<n)(one:Bool):aE Tryz.prog 156 [ptr sb,.int .i64 (i:Int),.int .i64 ((i:Int)+1),.bool one] (eT sb n wv ws) (fun r H=>r = .int .i64 0∧H=eT sb n wv (kX ws i one)):=by
 have lB:i/64<ws.length:=by omega
 obtain⟨w,SN⟩:∃w,ws[i/64]?=some w:=⟨ws[i/64],by simp[lB]⟩
 have dm:=BZ SN
 unfold eT
 rw[iH]
 refine aE.au Tryz.func156 Tryz.ntmps156 fun G F R hE=>?_
 refine dg 1 rfl ?_
 rintro a c rfl
 refine cV 1 rfl ?_
 intro dM
 obtain⟨b,o,gQ,fO⟩:=dM.some (qNe lB)
 simp only[Value.slice.injEq]at fO
 obtain⟨rfl,_,rfl⟩:=fO
 clear dM
 refine go ?_
 refine aB 14 ((.bool false)) rfl ((congrArg Value.bool (decide_eq_false ag))) (go ?_)
 refine aB 19 ((.bool false)) rfl ((congrArg Value.bool (decide_eq_false ag))) (go ?_)
 refine bu 26 ((.bool false)) rfl ((congrArg Value.bool (decide_eq_false ag))) (go ?_)
 refine bz (fun g:Nat=>g≤1) (fun g=>1-g) (fun g=>[(0,ptr sb),(1,.int .i64 ((i:Int)+(g:Int))),(2,.int .i64 ((i:Int)+1)),(3,.bool one)])
  (fun g=>ae sb (cl [.int .i64 (n:Int),.slice (some ⟨b,o,none⟩) ws.length c] 138)::az 134 1 (.slice (some ⟨b,o,none⟩) ws.length c) ws.length (qV (if g=0 then ws else kX ws i one))::F) 0 ag rfl cm ah ?_
 intro g hg ih
 rcases(by omega:g=0∨g=1)with rfl|rfl
 ·rw[if_pos rfl]
  refine cV 1 rfl ?_
  intro dM
  refine go ?_
  refine bu 29 ((.bool true)) rfl ((congrArg Value.bool (decide_eq_true ag))) (go ?_)
  refine lI zr zr zr ag ag (by simp only[gn];omega) ?_
  refine aB 31 ((.int .i64 ((i/64:Nat):Int))) rfl ((congrArg (Value.int .i64) ag)) (go ?_)
  refine ib zr zr zr (by simp only[gn];omega) ?_
  refine go ?_
  refine aB 40 ((.int .i64 63)) rfl ((congrArg (Value.int .i64) ag)) ?_
  refine qB (p:=18446744073709551615#64) 63 rfl (congrArg (fun z:Int=>some (Value.int .u64 z)) (by decide:(18446744073709551615:Int)=((18446744073709551615#64).toNat:Int))) zr zr ag ?_
  refine aB 41 ((.int .u64 ((1#64).toNat:Int))) rfl ((congrArg (fun w:jl=>Value.int .u64 (w.toNat:Int)) (by decide))) ?_
  refine go ?_
  refine ou zr zr zr ag ag ?_
  refine aB 43 ((.int .i64 ((i%64:Nat):Int))) rfl ((congrArg (Value.int .i64) ag)) ?_
  refine Yq (p:=1#64) (i%64) zr zr zr zr ag ?_
  rw[show 1#64 <<< (i%64)=CE (i%64)from rfl]
  cases one with
  | true =>
   refine go ?_
   refine bI (i/64) zr zr zr zr zr zr zr zr lB ?_
   refine aK ?_
   refine aX 1 (i/64) zr zr zr dM rfl dm zr zr (go ?_)
   refine aB 54 ((.int .u64 ((YC w (CE (i%64))).toNat:Int))) rfl ((congrArg (Value.int .u64) (aaG w _))) ?_
   refine bI (i/64) zr zr zr zr zr zr zr zr lB ?_
   refine aV ?_
   refine iT (q:=i/64) 1 gB zr zr zr zr zr zr zr lB rfl ?_
   rw[Q1 ws i w SN]
   refine go ?_
   refine bu 1 ((.int .i64 ((i:Int)+((1:Nat):Int)))) rfl ((congrArg (Value.int .i64) ag)) ?_
   refine aM ih 1 rfl ag ag cm ah
  | false =>
   refine go ?_
   refine bI (i/64) zr zr zr zr zr zr zr zr lB ?_
   refine aK ?_
   refine aX 1 (i/64) zr zr zr dM rfl dm zr zr (go ?_)
   refine aB 64 ((.int .u64 ((w &&& ~~~(CE (i%64))).toNat:Int))) rfl ((congrArg (Value.int .u64) (PJ w _))) ?_
   refine bI (i/64) zr zr zr zr zr zr zr zr lB ?_
   refine aV ?_
   refine iT (q:=i/64) 1 gB zr zr zr zr zr zr zr lB rfl ?_
   rw[NK ws i w SN]
   refine go ?_
   refine bu 1 ((.int .i64 ((i:Int)+((1:Nat):Int)))) rfl ((congrArg (Value.int .i64) ag)) ?_
   refine aM ih 1 rfl ag ag cm ah
 ·rw[if_neg ag]
  refine go ?_
  refine bu 29 ((.bool false)) rfl ((congrArg Value.bool (decide_eq_false ag))) (go ?_)
  refine ad hE Tryz.func156 zr zr ⟨rfl,rfl⟩
def Gc(sb n:Nat)(wv:Value)(ws:List jl)(hn:n≤65536)(hw:n≤ws.length*64)(i:Nat)(hi:i<n)(one:Bool):aE Tryz.prog 96 [ptr sb,.int .i64 (i:Int),.bool one] (eT sb n wv ws) (fun r H=>r = .int .i64 0∧H=eT sb n wv (kX ws i one)):=by
 have hf:=MJ sb n wv ws hn hw i hi one
 unfold eT at hf ⊢
 refine aE.au Tryz.func96 Tryz.ntmps96 fun G F R hE=>?_
 refine go ?_
 refine bu 9 ((.bool false)) rfl ((congrArg Value.bool (decide_eq_false ag))) (go ?_)
 refine bu 16 ((.bool false)) rfl ((congrArg Value.bool (decide_eq_false ag))) (go ?_)
 refine aO hf ?_
 refine go ?_
 refine ad hE Tryz.func96 zr zr ⟨rfl,rfl⟩
attribute [local irreducible] aD
def gi(e:Nat):Bool:=decide (e≠0∧e≠1∧e≠5∧e≠8∧e≠11)
def iD(tb bs jb:Nat)(tv:Value)(br:Bool):HP:=ae tb (cl [ptr bs,ptr jb,tv,.bool br] 73)
def qK{σ:Type}(I:σ→HP)(tb bs jb:Nat)(tv:Value)(V:HP)(v:Value)(lu:List Value)(hv:Vw V v lu.length lu)(hn:lu.length≤1000000000)(ss:List (σ→Nat→σ→Prop))(hlen:ss.length=lu.length)(Q:Nat→σ→Prop)(cL:∀(i:Nat) (fv:Value) (s:σ→Nat→σ→Prop),lu[i]?=some fv→ss[i]?=some s→∃g fi cap,fv = .func (.func g) fi cap∧∀x,Q i x→aE Tryz.prog g (fi.toList++cap.toList) [iD tb bs jb tv false,I x] (fun r H=>∃(e:Nat) (x':σ),r = .int .i64 (e:Int)∧H=[iD tb bs jb tv false,I x']∧s x e x'∧(e=0→Q (i+1) x')))(x0:σ)(hQ:Q 0 x0) :
  aE Tryz.prog 29 [ptr tb,v] [V,iD tb bs jb tv false,I x0] (fun r H=>∃(e:Nat) (x':σ),r = .int .i64 (e:Int)∧H=[V,iD tb bs jb tv (gi e),I x']∧iA ss x0 e x'):=by
 unfold iD at cL ⊢
 obtain⟨a,c,rfl⟩:=hv.shape
 refine aE.au Tryz.func29 Tryz.ntmps29 fun G F R hE=>?_
 refine go ?_
 refine bz (fun y:Nat × σ=>y.1≤lu.length∧Q y.1 y.2∧∀e x',iA (ss.drop y.1) y.2 e x'→iA ss x0 e x') (fun y=>lu.length-y.1)
  (fun y=>[(0,ptr tb),(8,.slice a lu.length c),(9,.int .i64 (lu.length:Int)),(10,.int .i64 (y.1:Int))])
  (fun y=>V::ae tb (cl [ptr bs,ptr jb,tv,.bool false] 73)::I y.2::F) (0,x0) ⟨Nat.zero_le _,hQ,fun _ _ h=>h⟩ rfl cm ah ?_
 rintro⟨i,x⟩⟨hi,hq,hr⟩ ih
 simp only at hi hq hr
 dsimp only
 refine go ?_
 refine aq zr zr ?_ ?_
 ·intro cW
  have lB:i<lu.length:=by omega
  obtain⟨fv,mX⟩:∃fv,lu[i]?=some fv:=⟨lu[i],List.getElem?_eq_getElem lB⟩
  obtain⟨s,hs⟩:∃s,ss[i]?=some s:=⟨ss[i],List.getElem?_eq_getElem ag⟩
  obtain⟨g,fi,cap,rfl,hc⟩:=cL i fv s mX hs
  have mo:ss.drop i=s::ss.drop (i+1):=by
   rw[List.drop_eq_getElem_cons ag]
   congr 1
   exact(List.getElem?_eq_some_iff.1 hs).2
  obtain⟨b0,o0,c0,qZ⟩:=hv.some (by intro h;rw[h]at lB;simp at lB)
  simp only[Value.slice.injEq]at qZ
  obtain⟨rfl,-,rfl⟩:=qZ
  refine go ?_
  refine bI i zr zr zr zr zr zr zr zr lB ?_
  refine aX 0 i zr zr zr hv rfl mX zr zr (go ?_)
  refine uz zr zr zr (by simp) (hc x hq) ah ?_ mO
  rintro _ _⟨e,x',rfl,rfl,K8,QA⟩
  by_cases qZ:e=0
  ·subst qZ
   refine go ?_
   refine aM ih (i+1,x') rfl (⟨by simp only;omega,QA rfl,fun e2 x2 h2=>hr e2 x2 (by rw[mo];exact⟨0,x',K8,.inr ⟨rfl,h2⟩⟩)⟩) (by simp only;omega) cm ah
  have iR:iA ss x0 e x':=hr e x' (by rw[mo];exact⟨e,x',K8,.inl ⟨qZ,rfl,rfl⟩⟩)
  clear ih
  by_cases OI:e=1∨e=5∨e=11∨e=8
  ·have hb:gi e=false:=decide_eq_false ag
   rcases OI with rfl|rfl|rfl|rfl
   all_goals(
    refine go ?_
    ((refine ad hE Tryz.func29 zr zr ⟨_,x',rfl,rfl,iR⟩)))
  ·have hb:gi e=true:=decide_eq_true ag
   refine go ?_
   refine aq zr zr ?_ ?_
   ·intro h;exfalso;omega
   intro _
   refine go ?_
   refine aq zr zr ?_ ?_
   ·intro h;exfalso;omega
   intro _
   refine go ?_
   refine aq zr zr ?_ ?_
   ·intro h;exfalso;omega
   intro _
   refine go ?_
   refine aq zr zr ?_ ?_
   ·intro h;exfalso;omega
   intro _
   refine go ?_
   refine aq zr zr ?_ ?_
   ·intro h;exfalso;omega
   intro _
   refine go ?_
   refine ai (H':=V::ae tb (cl [ptr bs,ptr jb,tv,.bool true] 73)::I x'::F) ah ?_
   rw[← hb]
   refine ad hE Tryz.func29 zr zr ⟨e,x',rfl,rfl,iR⟩
 ·intro fg
  have gh:i=lu.length:=by omega
  subst gh
  clear ih
  have h0:iA ss x0 0 x:=hr 0 x (by rw[List.drop_eq_nil_of_le ag];exact⟨rfl,rfl⟩)
  refine go ?_
  refine ad hE Tryz.func29 zr zr ⟨0,x,rfl,rfl,h0⟩
def Nf{ts:List Tk}{i:Nat}(h:i<ts.length):ts.map cg≠[]:=fun e=>by have:=congrArg List.length e;simp at this;rw[this]at h;simp at h
def fb(ts:List Tk)(x:Bl):Option Tk:=ts.find? fun y=>decide (y.x=x)
def Nd(o:Option Tk):Value:=match o with
 | none => .pointer none
 | some y=>ptr y.yb
def uB(A X:HP)(v:Value)(l:List Tk)(hv:Vw A v l.length (l.map cg))(hlen:l.length≤1000000)(g:FuncId)(cap:List Value)(p:Tk→Bool)(hf:∀x∈l,aE Tryz.prog g (ptr x.yb::cap) [X] (fun v H=>v = .bool (p x)∧H=[X])) :
  aE Tryz.prog 71 [v,.func (.func g) #[] cap.toArray] [A,X] (fun r H=>r = .int .i64 (kz p l)∧H=[A,X]):=by
 obtain⟨a,c0,rfl⟩:=hv.shape
 refine aE.enter Tryz.func71 ak rfl Tryz.ntmps71 zr zr ?_
 intro G F R hR
 refine go ?_
 refine bz (fun i:Nat=>i≤l.length∧∀y∈l.take i,p y=false) (fun i=>l.length-i) (fun i=>[(0,.slice a l.length c0),(1,.func (.func g) #[] cap.toArray),(7,.int .i64 l.length),(8,.int .i64 i)]) (fun _=>[A,X]++F) 0 ⟨by simp,by simp⟩ rfl cm (ao.refl _) ?_
 rintro i⟨hi,hb⟩ ih
 refine go ?_
 refine aq zr zr ?_ ?_
 ·intro cW
  refine go ?_
  have gh:i<l.length:=by omega
  obtain⟨x,hx⟩:∃x,l[i]?=some x:=⟨l[i],by simp[gh]⟩
  obtain⟨b,o,gQ,fO⟩:=hv.some (Nf gh)
  simp only[Value.slice.injEq]at fO
  obtain⟨rfl,_,rfl⟩:=fO
  refine bI i zr zr zr zr zr zr zr zr gh ?_
  refine aK ?_
  refine aX 0 i zr zr zr hv rfl (qI hx) zr zr ?_
  refine cF [1] zr zr zr zr (hf x (List.mem_of_getElem? hx)) rfl mO ?_
  rintro _ _⟨rfl,rfl⟩
  refine go ?_
  refine fQ zr zr ?_ ?_
  ·intro hp
   refine go ?_
   refine aL hR Tryz.func71 rfl _ rfl ⟨by rw[nU hx hp hb];rfl,rfl⟩ (ao.fin [1,0] 0 zr zr)
  ·intro hp
   refine go ?_
   refine aM ih (i+1) rfl ⟨ag,uf hb hx hp⟩ ag cm (ao.pick [1,0] rfl)
 ·intro fg
  refine go ?_
  have:i=l.length:=by omega
  subst this
  refine aL hR Tryz.func71 rfl _ rfl ⟨by rw[qW (fun x hx=>hb x (by simpa using hx))];rfl,rfl⟩ (ao.fin [0,1] 0 zr zr)
def wD(A X:HP)(v:Value)(l:List Tk)(hv:Vw A v l.length (l.map cg))(hlen:l.length≤1000000)(g:FuncId)(cap:List Value)(p:Tk→Bool)(hf:∀x∈l,aE Tryz.prog g (ptr x.yb::cap) [X] (fun v H=>v = .bool (p x)∧H=[X])) :
  aE Tryz.prog 23 [v,.func (.func g) #[] cap.toArray] [A,X] (fun r H=>r = .bool (l.any p)∧H=[A,X]):=by
 refine aE.enter Tryz.func23 ak rfl Tryz.ntmps23 zr zr ?_
 intro G F R hR
 refine go ?_
 refine cF [0,1] zr zr zr zr (uB A X v l hv hlen g cap p hf) rfl mO ?_
 rintro _ _⟨rfl,rfl⟩
 refine go ?_
 have hb:decide (0≤kz p l)=l.any p:=by
  rw[show decide (0≤kz p l)=decide (¬kz p l<0)from by rw[decide_eq_decide];omega]
  rw[Bool.eq_iff_iff,decide_eq_true_iff,nV (p:=p) (l:=l),Bool.not_eq_false]
 refine aL hR Tryz.func23 rfl _ rfl ⟨congrArg Value.bool hb,rfl⟩ (ao.fin [0,1] 0 zr zr)
def Fq(ts:List Tk)(x:Bl)(bx:Nat)(y:Tk)(hy:y∈ts):aE Tryz.prog 24 [ptr y.yb,ptr bx] [Sep [aW ts,ae bx (cl (bJ x) 38)] ] (fun r H=>r = .bool (decide (y.x.d=x.d))∧H=[Sep [aW ts,ae bx (cl (bJ x) 38)] ]):=by
 obtain⟨i,hi⟩:=List.mem_iff_getElem?.1 hy
 refine aE.au Tryz.func24 Tryz.ntmps24 fun G F R hE=>?_
 refine ai (ao.cJ [_,_] _) ?_
 refine ai (kO hi _) ?_
 refine er (gf y) ?_
 rintro z hz
 refine ai (H':=ae y.yb (cl (ly y) 79)::ae bx (cl (bJ x) 38)::ae y.sb (cl [.int .i64 (y.n:Int),z.1] 138)::az 134 1 z.1 y.ws.length (qV y.ws)::aQ (Value.int .i64) y.mb z.2.1::aU 36 z.2.2::aW (ts.take i++ts.drop (i+1))::F) ah (go ?_)
 refine aH (fun w=>Sat G w ([ae y.yb (cl (ly y) 79),ae bx (cl (bJ x) 38)])) (df 0 9 .nil) rfl ak ak ak eo ?_
 refine go ?_
 refine cD (U:=aS) 0 zr zr zr zr zr zr (go ?_)
 refine cD (U:=aS) 1 zr zr zr zr zr zr (go ?_)
 refine lR (b:=decide (y.x.d=x.d)) zr zr zr Lw (fun w=>LK y.x.d x.d w) ?_
 refine go ?_
 refine ai (H':=mP y z++(aW (ts.take i++ts.drop (i+1))::ae bx (cl (bJ x) 38)::F)) (by unfold mP;exact ah) ?_
 refine ai (iX hz _) ?_
 refine ai (lJ hi _) ?_
 refine ai (ao.bS [_,_] _) ?_
 refine ad hE Tryz.func24 zr zr ⟨rfl,rfl⟩
def n6(tb bs jb:Nat)(tv:Value)(br:Bool)(ts:List Tk)(x:Bl)(hl:ts.length≤1000000):aE Tryz.prog 31 [ptr tb,eS x] (dL tb bs jb tv ts br) (fun r H=>r=Nd (fb ts x)∧H=dL tb bs jb tv ts br):=by
  unfold dL eS
  refine aE.au Tryz.func31 Tryz.ntmps31 fun G F R hE=>?_
  refine dg 1 rfl ?_
  rintro a c rfl
  refine cV 1 rfl ?_
  intro dM
  refine aG rfl ?_
  refine bG zr zr bD ?_
  intro b3
  refine go ?_
  refine bz (fun i:Nat=>i≤ts.length∧∀y∈ts.take i,y.x≠x) (fun i=>ts.length-i) (fun i=>[(3,ptr b3),(10,.slice a ts.length c),(11,.int .i64 (ts.length:Int)),(12,.int .i64 (i:Int))])
    (fun _=>az 75 1 (.slice a ts.length c) ts.length (ts.map cg)::aW ts::ae tb (cl [ptr bs,ptr jb,.slice a ts.length c,.bool br] 73)::ae b3 (cl (bJ x) 38)::F) 0 ⟨Nat.zero_le _,by simp⟩ rfl cm ah ?_
  rintro i⟨hi,hb⟩ ih
  refine go ?_
  refine aq zr zr ?_ ?_
  · intro cW
    have gh:i<ts.length:=by omega
    obtain⟨y,hx⟩:∃x,ts[i]?=some x:=⟨ts[i],by simp[gh]⟩
    obtain⟨b,o,gQ,fO⟩:=dM.some (Nf gh)
    simp only[Value.slice.injEq]at fO
    obtain⟨rfl,_,rfl⟩:=fO
    refine go ?_
    refine bI i zr zr zr zr zr zr zr zr gh ?_
    refine aK ?_
    refine aX 0 i zr zr zr dM rfl (qI hx) zr zr (go ?_)
    refine ai (H':=aW ts::az 75 1 (.slice (some ⟨b,o,none⟩) ts.length c) ts.length (ts.map cg)::ae tb (cl [ptr bs,ptr jb,.slice (some ⟨b,o,none⟩) ts.length c,.bool br] 73)::ae b3 (cl (bJ x) 38)::F) ah ?_
    refine ai (kO hx _) ?_
    refine er (gf y) ?_
    rintro z hz
    refine ai (H':=ae y.yb (cl (ly y) 79)::ae b3 (cl (bJ x) 38)::ae y.sb (cl [.int .i64 (y.n:Int),z.1] 138)::az 134 1 z.1 y.ws.length (qV y.ws)::aQ (Value.int .i64) y.mb z.2.1::aU 36 z.2.2::aW (ts.take i++ts.drop (i+1))::az 75 1 (.slice (some ⟨b,o,none⟩) ts.length c) ts.length (ts.map cg)::ae tb (cl [ptr bs,ptr jb,.slice (some ⟨b,o,none⟩) ts.length c,.bool br] 73)::F) ah ?_
    refine aH (fun w=>Sat G w ([ae y.yb (cl (ly y) 79),ae b3 (cl (bJ x) 38)])) (df 0 6 .nil) rfl ak ak ak eo ?_
    refine go ?_
    refine cD (U:=aS) (cs:=bJ y.x) 0 zr zr zr zr zr zr (go ?_)
    refine bY (U:=aS) (l:=bJ x) 1 zr zr zr zr zr zr (go ?_)
    refine lR (b:=decide (y.x=x)) zr zr zr X3 (fun w=>X7 y.x x w) ?_
    by_cases AV:y.x=x
    · rw[decide_eq_true AV]
      have qg:fb ts x=some y:=by
        unfold fb
        rw[Gy hx,List.find?_append,List.find?_eq_none.2 (fun w hw=>by simpa using hb w hw)]
        simp[AV]
      rw[qg]at hE
      refine go ?_
      refine ai (H':=mP y z++(aW (ts.take i++ts.drop (i+1))::ae tb (cl [ptr bs,ptr jb,.slice (some ⟨b,o,none⟩) ts.length c,.bool br] 73)::az 75 1 (.slice (some ⟨b,o,none⟩) ts.length c) ts.length (ts.map cg)::F)) (by unfold mP;exact ah) ?_
      refine ai (iX hz _) ?_
      refine ai (lJ hx _) ?_
      refine ai (H':=ae tb (cl [ptr bs,ptr jb,.slice (some ⟨b,o,none⟩) ts.length c,.bool br] 73)::az 75 1 (.slice (some ⟨b,o,none⟩) ts.length c) ts.length (ts.map cg)::aW ts::F) ah ?_
      refine ad hE Tryz.func31 zr zr ⟨rfl,rfl⟩
    · rw[decide_eq_false AV]
      refine go ?_
      refine ai (H':=mP y z++(aW (ts.take i++ts.drop (i+1))::az 75 1 (.slice (some ⟨b,o,none⟩) ts.length c) ts.length (ts.map cg)::ae tb (cl [ptr bs,ptr jb,.slice (some ⟨b,o,none⟩) ts.length c,.bool br] 73)::ae b3 (cl (bJ x) 38)::F)) (by unfold mP;exact ah) ?_
      refine ai (iX hz _) ?_
      refine ai (lJ hx _) ?_
      refine ai (H':=az 75 1 (.slice (some ⟨b,o,none⟩) ts.length c) ts.length (ts.map cg)::aW ts::ae tb (cl [ptr bs,ptr jb,.slice (some ⟨b,o,none⟩) ts.length c,.bool br] 73)::ae b3 (cl (bJ x) 38)::F) ah ?_
      refine aM ih (i+1) rfl (⟨ag,fun w hw=>by
        rw[List.take_add_one,hx,Option.toList_some]at hw
        rcases List.mem_append.1 hw with h|h
        · exact hb w h
        · rw[List.mem_singleton.1 h];exact AV⟩) ag cm ah
  · intro fg
    have rB:i=ts.length:=by omega
    subst rB
    have qg:fb ts x=none:=by
      unfold fb
      exact List.find?_eq_none.2 (fun w hw=>by simpa using hb w (by simpa using hw))
    rw[qg]at hE
    clear ih
    refine go ?_
    refine ai (H':=ae tb (cl [ptr bs,ptr jb,.slice a ts.length c,.bool br] 73)::az 75 1 (.slice a ts.length c) ts.length (ts.map cg)::aW ts::F) ah ?_
    refine ad hE Tryz.func31 zr zr ⟨rfl,rfl⟩
def iu(b2 b3 jb:Nat):List Value:=[.func (.func 80) #[] #[ptr b2,ptr b3],.func (.func 82) #[ptr jb] #[] ]
def uY(tb bs jb:Nat)(tv:Value)(a:Option Addr)(n c:Nat):aE Tryz.prog 27 [ptr tb,.slice a n c] [iD tb bs jb tv false]
  (fun r H=>∃b2 b3 row,r = .slice (some ⟨row,0,none⟩) 2 2∧H=[ae row (cl (iu b2 b3 jb) 82),ae b2 (cl [ptr tb] 31),ae b3 (cl [.slice a n c] 39),iD tb bs jb tv false]):=by
 unfold iD
 refine aE.au Tryz.func27 Tryz.ntmps27 fun G F R hE=>?_
 refine aG rfl ?_
 refine bG zr zr bD ?_
 intro b2
 refine bG zr zr bD ?_
 intro b3
 refine go ?_
 refine aj (cs:=iu b2 b3 jb) zr zr zr zr zr zr zr zr zr bD ?_
 intro row
 refine go ?_
 refine ad hE Tryz.func27 zr zr ⟨b2,b3,row,rfl,rfl⟩
def G8(tb bs jb bd b2 b3:Nat)(tv:Value)(A:Ab)(x:JN)(Z:HP)(a:Option Addr)(c:Nat)(b:List UInt8)(hb:eM Z (.slice a b.length c) b)(hl:b.length≤9223372036854775807)(hs:0≤x.s∧x.s≤1000000000)(eQ:A.writes.length≤1000000000) :
  aE Tryz.prog 80 [ptr b2,ptr b3] [iD tb bs jb tv false,aD bd A,rq jb bd cS x,ae b2 (cl [ptr tb] 31),ae b3 (cl [.slice a b.length c] 39),Z]
  (fun r H=>r = .int .i64 ((cU cS A x b).1:Int)∧H=[iD tb bs jb tv false,aD bd (cU cS A x b).2.1,rq jb bd cS (cU cS A x b).2.2,ae b2 (cl [ptr tb] 31),ae b3 (cl [.slice a b.length c] 39),Z]):=by
 have Gn:=IE jb bd cS A x Z _ b hb hl hs eQ
 unfold iD
 refine aE.au Tryz.func80 Tryz.ntmps80 fun G F R hE=>?_
 refine go ?_
 refine aH (fun w=>Sat G w ([ae tb (cl [ptr bs,ptr jb,tv,.bool false] 73),ae b2 (cl [ptr tb] 31),ae b3 (cl [.slice a b.length c] 39)])) (df 0 5 (.act 5 (.st 6 .nil))) rfl ak ak ak eo ?_
 refine go ?_
 refine bC Gn ?_
 refine go ?_
 refine ai (H':=ae tb (cl [ptr bs,ptr jb,tv,.bool false] 73)::aD bd (cU cS A x b).2.1::rq jb bd cS (cU cS A x b).2.2::ae b2 (cl [ptr tb] 31)::ae b3 (cl [.slice a b.length c] 39)::Z::F) ah ?_
 refine ad hE Tryz.func80 zr zr ⟨rfl,rfl⟩
def Fo(tb bs jb bd b2 b3:Nat)(q:Int)(hq:0≤q∧q≤1073741824)(mb:Nat)(tv:Value)(s:e8)(x:Bl)(Pb:pt s.bq)(cL:s.A.aw.length≤900000000)(eQ:s.A.writes.length≤900000000) :
  aE Tryz.prog 25 [ptr b2,ptr b3] (iD tb bs jb tv false::(cC bs bd q mb s++[ae b2 (cl [ptr tb] 31),ae b3 (cl (bJ x) 38)]))
  (fun r H=>∃(e:Nat) (t:e8),r = .int .i64 (e:Int)∧H=iD tb bs jb tv false::(cC bs bd q mb t++[ae b2 (cl [ptr tb] 31),ae b3 (cl (bJ x) 38)])∧dU q x s e t):=by
 have sW:=Gb bs bd q hq mb s x Pb cL eQ
 unfold eS at sW
 unfold iD
 refine aE.au Tryz.func25 Tryz.ntmps25 fun G F R hE=>?_
 refine go ?_
 refine aH (fun w=>Sat G w ([ae tb (cl [ptr bs,ptr jb,tv,.bool false] 73),ae b2 (cl [ptr tb] 31),ae b3 (cl (bJ x) 38)])) (df 0 5 (.act 5 (.st 6 .nil))) rfl ak ak ak eo ?_
 refine go ?_
 refine bY (U:=aS) (l:=bJ x) 2 zr zr zr zr zr zr (go ?_)
 refine fq rfl rfl rfl rfl sW ah ?_ (fun _ _ w hp hw=>by obtain⟨_,_,rfl,rfl,_⟩:=hp;exact hw.cN ah)
 rintro _ _⟨e,t,rfl,rfl,hR⟩
 refine go ?_
 refine ai (H':=ae tb (cl [ptr bs,ptr jb,tv,.bool false] 73)::(cC bs bd q mb t++(ae b2 (cl [ptr tb] 31)::ae b3 (cl (bJ x) 38)::F))) ah ?_
 refine ad hE Tryz.func25 zr zr ⟨e,t,rfl,rfl,hR⟩
end Go.Proofs.YtdigdgohdpeebaaGreatDoor
namespace Go.Proofs.YtdigdgohdpeebaaGreatDoor
open Go Go.SL
def mU:Int→List (List UInt8)→List (Int × List UInt8)
 | _,[]=>[]
 | i,x::l=>(i,x)::mU (i+1) l
def tx(k:UInt8)(d:Dg)(ls:List (List UInt8)):List (Int × List UInt8):=(1,[k])::(2,d.bs)::mU 3 ls
def jJ(k:UInt8)(d:Dg)(ls:List (List UInt8)):List UInt8:=eB (tx k d ls)
def DU:∀(i:Int) (l:List (List UInt8)) (x:List UInt8),mU i (l++[x])=mU i l++[(i+l.length,x)]
 | i,[],x=>by simp[mU]
 | i,y::l,x=>by
  simp only[List.cons_append,mU,DU (i+1) l x,List.length_cons,List.cons_append]
  congr 4
  omega
def uW:∀(i:Int) (l:List (List UInt8)) (last:Int),last<i→i+l.length≤64→fH last (mU i l)=true
 | i,[],last,h,h2=>rfl
 | i,y::l,last,h,h2=>by
  simp only[mU,fH,List.length_cons]at h2 ⊢
  rw[decide_eq_true h,decide_eq_true (show i≤63 by omega),uW (i+1) l i ag ag]
  rfl
def K4{n:Int}{b:List UInt8}(h:b.length≤32):(mi (n,b)).length≤34:=by
 have h1:(uv b.length).length=1:=by rw[gb ag];rfl
 simp only[mi,List.length_cons,List.length_append,h1]
 omega
def xW:∀(i:Int) (l:List (List UInt8)) (z:Int × List UInt8),z∈mU i l→z.2∈l
 | i,[],z,h=>by cases h
 | i,y::l,z,h=>by
  rcases List.mem_cons.1 h with rfl|h
  ·exact List.mem_cons_self ..
  ·exact List.mem_cons_of_mem _ (xW (i+1) l z h)
def tw:∀(i:Int) (l:List (List UInt8)),(mU i l).length=l.length
 | i,[]=>rfl
 | i,y::l=>by simp[mU,tw (i+1) l]
def IU:∀(l:List (Int × List UInt8)),(∀z∈l,z.2.length≤32)→(eB l).length≤34*l.length
 | [],_=>by simp[eB]
 | z::l,h=>by
  have h1:=IU l (fun w hw=>h w (List.mem_cons_of_mem _ hw))
  have h2:=K4 (n:=z.1) (h z (List.mem_cons_self ..))
  simp only[eB,List.flatMap_cons,List.length_append,List.length_cons]at h1 ⊢
  have h3:(mi z).length≤34:=h2
  omega
def hD(k:UInt8)(d:Dg)(ls:List (List UInt8))(hl:ls.length≤20)(hx:∀x∈ls,x.length≤32):(jJ k d ls).length≤748:=by
 have:=IU (tx k d ls) (fun z hz=>by
  unfold tx at hz
  rcases List.mem_cons.1 hz with rfl|hz
  ·simp
  rcases List.mem_cons.1 hz with rfl|hz
  ·simp only;rw[d.len];omega
  ·exact hx _ (xW 3 ls z hz))
 have h2:(tx k d ls).length=2+ls.length:=by simp[tx,tw];omega
 unfold jJ
 omega
def Ky(k:UInt8)(d:Dg)(ls:List (List UInt8))(hl:ls.length≤20):fH 0 (tx k d ls)=true:=by
 simp only[tx,fH]
 rw[uW 3 ls 2 ag ag]
 rfl
attribute [local irreducible] J K aE Ends ae az aQ bP bj aT aU bp bW aD
def sr(k:UInt8)(d:Dg)(Z:HP)(mv:Value)(ls:List (List UInt8))(hv:qv Z mv ls)(hl:ls.length≤20)(acF:∀x∈ls,x.length≤32) :
  aE Tryz.prog 83 [u8 k,dV d,mv] [Z] (fun r H=>H=[az 5 1 r (jJ k d ls).length (bV (jJ k d ls)),Z]):=by
 have EB:=hD k d ls hl acF
 have hrr:=Ky k d ls hl
 obtain⟨cs,dM,lH,⟨a2,c2,rfl,mT⟩,oC⟩:=hv
 unfold dV
 refine aE.au Tryz.func83 Tryz.ntmps83 fun G F R hE=>?_
 refine aG rfl ?_
 refine bG zr zr bD ?_
 intro b4
 refine go ?_
 refine aj (cs:=bV [k]) zr zr zr zr zr zr zr zr zr bD ?_
 intro r0
 refine go ?_
 refine g8 (U:=aS) zr zr zr zr zr (go ?_)
 obtain⟨wk,yA⟩:∃wk:List It,wk=[⟨1,.slice (some ⟨r0,0,none⟩) 1 1,[k]⟩,⟨2,.slice (some ⟨b4,0,none⟩) 32 32,d.bs⟩]:=⟨_,rfl⟩
 have h2l:wk.length=2:=by rw[yA];rfl
 refine aj (cs:=wk.flatMap lT) zr zr zr zr zr zr zr zr (by rw[yA];rfl) bD ?_
 intro row
 refine go ?_
 obtain⟨Y,hY⟩:∃Y,Y=Sep [ae r0 (cl (bV [k]) 5),ae b4 (cl (dC d) 36),Z]:=⟨_,rfl⟩
 have hYZ:∀h,Y h→∃h',sub h' h∧Z h':=by rw[hY];exact bh (i:=2) rfl
 have hB0:∀z∈wk,eM Y z.v z.b:=by
  intro z hz
  rw[yA]at hz
  simp only[List.mem_cons,List.not_mem_nil,or_false]at hz
  rcases hz with rfl|rfl
  ·rw[hY];exact eM.mono (⟨Vw.ae rfl,_,_,rfl,Nat.le_refl _⟩) (bh (i:=0) rfl)
  ·rw[hY];exact(eM.block d.len (dz d)).mono (bh (i:=1) rfl)
 have Jl:wk.map It.p=(1,[k])::(2,d.bs)::mU 3 (ls.take 0):=by rw[yA];rfl
 refine ai (H':=az 194 2 (.slice (some ⟨row,0,none⟩) wk.length 2) wk.length (wk.flatMap lT)::Y::F) ?_ ?_
 ·rw[hY]
  refine ao.trans (H2:=ae r0 (cl (bV [k]) 5)::ae b4 (cl (dC d) 36)::Z::ae row (cl (wk.flatMap lT++[]) 194)::F) (by rw[List.append_nil];exact ah) ?_
  refine(ao.bS [_,_,_] _).trans ?_
  refine(ao.perm (List.Perm.swap ..)).trans ?_
  rw[h2l]
  exact dR 194 2 row 2 2 (wk.flatMap lT) [] _ (by rw[yA];rfl) (Nat.le_refl _) (by rw[yA];simp[lT])
 refine bz (fun y:Nat × List It × Option Addr × Nat=>y.1≤ls.length∧y.2.1.map It.p=(1,[k])::(2,d.bs)::mU 3 (ls.take y.1)∧∀z∈y.2.1,eM Y z.v z.b) (fun y=>ls.length-y.1)
  (fun y=>[(7,.slice y.2.2.1 y.2.1.length y.2.2.2),(18,.slice a2 ls.length c2),(19,.int .i64 (ls.length:Int)),(20,.int .i64 (y.1:Int))])
  (fun y=>az 194 2 (.slice y.2.2.1 y.2.1.length y.2.2.2) y.2.1.length (y.2.1.flatMap lT)::Y::F) (0,wk,some ⟨row,0,none⟩,2) ⟨Nat.zero_le _,Jl,hB0⟩ rfl (by rw[h2l];exact cm) ah ?_
 clear Jl hB0 h2l yA
 rintro⟨i,fM,ia,ic⟩⟨hi,pD,vX⟩ ih
 simp only at hi pD vX
 dsimp only
 have abm:fM.length=i+2:=by
  have:=congrArg List.length pD
  simp only[List.length_map,List.length_cons,tw,List.length_take]at this
  omega
 refine go ?_
 refine aq zr zr ?_ ?_
 ·intro cW
  have gh:i<ls.length:=by omega
  obtain⟨x,hx⟩:∃x,ls[i]?=some x:=⟨ls[i],by simp⟩
  obtain⟨cv,EW,uH⟩:=oC i x hx
  obtain⟨xa,xc,rfl,hxc⟩:=uH.2
  obtain⟨b,o,gQ,fO⟩:=dM.some (by intro h;rw[h]at lH;simp at lH;omega)
  simp only[Value.slice.injEq]at fO
  obtain⟨rfl,_,rfl⟩:=fO
  have acJ:=dM.mono hYZ
  refine go ?_
  refine bI i zr zr zr zr zr zr zr zr gh ?_
  refine aK ?_
  refine aX 1 i zr zr zr acJ rfl EW zr zr (go ?_)
  refine aj (cs:=lT ⟨3+(i:Int),.slice xa x.length xc,x⟩) zr zr zr zr zr zr zr zr zr bD ?_
  intro QV
  refine go ?_
  refine aR (mm:=1) (news:=lT ⟨3+(i:Int),.slice xa x.length xc,x⟩) 1 0 rfl rfl rfl rfl rfl rfl rfl rfl rfl rfl rfl rfl (Vw.ae rfl) rfl (by intro v hv;simp[lT]at hv;rcases hv with rfl|rfl <;> rfl) ag (by show(_+_)*32≤_;omega) (fun _=>rfl) bD ?_
  intro v1
  rw[show fM.flatMap lT++lT (⟨3+(i:Int),.slice xa x.length xc,x⟩:It)=(fM++[(⟨3+(i:Int),.slice xa x.length xc,x⟩:It)]).flatMap lT from by simp,show fM.length+1=(fM++[(⟨3+(i:Int),.slice xa x.length xc,x⟩:It)]).length from by simp]
  refine aN 1 rfl ?_
  rintro ja jc rfl
  have O6:(fM++[(⟨3+(i:Int),.slice xa x.length xc,x⟩:It)]).map It.p=(1,[k])::(2,d.bs)::mU 3 (ls.take (i+1)):=by
   rw[List.map_append,pD,List.take_add_one,hx,Option.toList_some,DU,List.length_take,Nat.min_eq_left ag]
   rfl
  refine go ?_
  refine aM ih (i+1,fM++[(⟨3+(i:Int),.slice xa x.length xc,x⟩:It)],ja,jc) rfl ⟨by simp only;omega,O6,fun z hz=>(by rcases List.mem_append.1 hz with h|h;exact vX z h;rw[List.mem_singleton.1 h];exact uH.mono hYZ)⟩ (by simp only;omega) cm ah
 ·intro fg
  have rB:i=ls.length:=by omega
  subst rB
  rw[List.take_length]at pD
  have Xz:fM.map It.p=tx k d ls:=pD
  clear ih
  refine cV 0 rfl ?_
  intro W3
  have EN:=np (Sep [az 194 2 (.slice ia fM.length ic) fM.length (fM.flatMap lT),Y]) (.slice ia fM.length ic) fM ⟨W3.mono (bh (i:=0) rfl),fun z hz=>(vX z hz).mono (bh (i:=1) rfl)⟩ ag (by rw[Xz];exact hrr) (by rw[Xz];exact Nat.le_trans EB ag)
  rw[Xz]at EN
  refine go ?_
  refine aI (ao.bS [_,_] _) ?_
  refine aF EN ?_
  rintro _ _⟨rr,rfl,rfl⟩
  refine go ?_
  refine ai (ao.cons _ (ao.cJ [_,_] _)) ?_
  refine ai (H':=Y::az 5 1 rr (jJ k d ls).length (bV (jJ k d ls))::F) ah ?_
  rw[hY]
  refine ai (ao.cJ [_,_,_] _) ?_
  refine ai (H':=az 5 1 rr (jJ k d ls).length (bV (jJ k d ls))::Z::F) ah ?_
  refine aL hE Tryz.func83 rfl _ zr zr ah
def gZ(x:Bl):List (List UInt8):=[uv x.size.toNat,uv x.piece.toNat,x.root.bs]
def bT(x:Bl):List UInt8:=jJ 1 x.d (gZ x)
def kH(x:Bl)(hs:x.size≤1000000000000)(hp:x.piece≤1000000000000):∀b∈gZ x,b.length≤32:=fun b hb=>by
 simp only[gZ,List.mem_cons,List.not_mem_nil,or_false]at hb
 rcases hb with rfl|rfl|rfl
 ·have:=pI (n:=x.size.toNat) ag;omega
 ·have:=pI (n:=x.piece.toNat) ag;omega
 ·rw[x.root.len];omega
def rV(x:Bl)(hs:0≤x.size∧x.size≤1000000000000)(hp:0≤x.piece∧x.piece≤1000000000000) :
  aE Tryz.prog 28 [eS x] [] (fun r H=>H=[az 5 1 r (bT x).length (bV (bT x))]):=by
 obtain⟨sz,iY⟩:∃m:Nat,x.size=m:=⟨x.size.toNat,ag⟩
 obtain⟨pc,sT⟩:∃m:Nat,x.piece=m:=⟨x.piece.toNat,ag⟩
 have hlen:=kH x hs.2 hp.2
 unfold eS
 refine aE.au Tryz.func28 Tryz.ntmps28 fun G F R hE=>?_
 refine aG rfl ?_
 refine bG zr zr bD ?_
 intro b1
 refine go ?_
 refine aH (fun w=>Sat G w ([ae b1 (cl (bJ x) 38)])) (df 0 5 (df 6 3 (.st 10 (.st 11 (.act 5 (.act 9 (.act 12 (.act 13 (.st 14 .nil))))))))) rfl ak ak ak eo ?_
 (repeat(first|refine gO ?_|refine cD (U:=aS) 0 zr zr zr zr zr zr ?_|refine g8 (U:=aS) zr zr zr zr zr ?_))
 refine aB 7 ((.int .u64 (sz:Int))) rfl ((congrArg (Value.int .u64) iY)) ?_
 refine aB 11 ((.int .u64 (pc:Int))) rfl ((congrArg (Value.int .u64) sT)) ?_
 refine dD (mE sz ag) ?_
 rintro r8 _ rfl
 refine aN 0 rfl ?_
 rintro a8 c8 rfl
 refine go ?_
 refine dD (mE pc ag) ?_
 rintro r9 _ rfl
 refine aN 0 rfl ?_
 rintro a9 c9 rfl
 refine gM (bs:=uv pc) 0 rfl ?_
 intro MV
 refine gM (bs:=uv sz) 1 rfl ?_
 intro Js
 refine go ?_
 obtain⟨cs,pE⟩:∃cs:List Value,cs=[.slice a8 (uv sz).length c8,.slice a9 (uv pc).length c9,.slice (some ⟨b1,34,none⟩) 32 32]:=⟨_,rfl⟩
 refine aj (cs:=cs) zr zr zr zr zr zr zr zr (by rw[pE];rfl) (fun _ _ hw=>hw.cN ah) ?_
 intro row
 have mW:qv (Sep [ae row (cl cs 39),az 5 1 (.slice a8 (uv sz).length c8) (uv sz).length (bV (uv sz)),az 5 1 (.slice a9 (uv pc).length c9) (uv pc).length (bV (uv pc)),ae b1 (cl (bJ x) 38)]) (.slice (some ⟨row,0,none⟩) 3 3) (gZ x):=by
  refine⟨cs,(Vw.ae (by rw[pE];rfl)).mono (bh (i:=0) rfl),by rw[pE];rfl,⟨_,_,rfl,Nat.le_refl _⟩,fun i y hy=>?_⟩
  have acV:x.size.toNat=sz:=by omega
  have ac7:x.piece.toNat=pc:=by omega
  unfold gZ at hy
  rw[acV,ac7]at hy
  match i,hy with
  | 0,hy=>cases hy;exact⟨_,by rw[pE];rfl,Js.mono (bh (i:=1) rfl)⟩
  | 1,hy=>cases hy;exact⟨_,by rw[pE];rfl,MV.mono (bh (i:=2) rfl)⟩
  | 2,hy=>cases hy;exact⟨_,by rw[pE];rfl,(eM.WN x.root.len (by rw[← dz];exact Se x)).mono (bh (i:=3) rfl)⟩
  | i+3,hy=>simp at hy
 have ON:=sr 1 x.d _ _ (gZ x) mW (by simp[gZ]) hlen
 unfold dV at ON
 clear mW
 clear pE
 refine go ?_
 refine aI (ao.trans (H2:=ae row (cl cs 39)::az 5 1 (.slice a8 (uv sz).length c8) (uv sz).length (bV (uv sz))::az 5 1 (.slice a9 (uv pc).length c9) (uv pc).length (bV (uv pc))::ae b1 (cl (bJ x) 38)::F) ah (ao.bS [_,_,_,_] _)) ?_
 refine fq rfl rfl rfl rfl ON ah ?_ (fun _ _ w hp hw=>by obtain rfl:=hp;exact hw.cN (ao.trans (ao.pick [1] rfl) (ao.trans (ao.cJ [_,_,_,_] _) ah)))
 rintro rr _ rfl
 refine go ?_
 refine ai (H':=az 5 1 rr (bT x).length (bV (bT x))::F) ah ?_
 refine aL hE Tryz.func28 rfl _ zr zr ah
end Go.Proofs.YtdigdgohdpeebaaGreatDoor
namespace Go.Proofs.YtdigdgohdpeebaaGreatDoor
open Go Go.SL
def LX(e:TypeId)(H:List HP):ao H (aU e []::H):=ao.qt H
attribute [local irreducible] J K aE Ends ae az aQ bP bj aT aU bp bW aD
def Bb(x:Bl):aE Tryz.prog 30 [eS x] [] (fun r H=>∃y:Tk,r=ptr y.yb∧H=[oA y]∧y.x=x∧(y.n:Int)=cq x∧y.ws=List.replicate ((y.n+63)/64) 0#64∧y.pf=fun _=>none):=by
 have lH:=oe x
 obtain⟨n,hn⟩:∃n:Nat,cq x=n:=⟨(cq x).toNat,ag⟩
 have hc:=vy x
 rw[hn]at hc
 have zW:=Qo n ag
 unfold eS at hc ⊢
 unfold eT at zW
 refine aE.au Tryz.func30 Tryz.ntmps30 fun G F R hE=>?_
 refine aG rfl ?_
 refine bG zr zr bD ?_
 intro b1
 refine go ?_
 refine aJ (U:=aS) (l:=bJ x) 0 zr zr zr zr zr zr ?_
 refine aO hc ?_
 refine go ?_
 refine aF zW ?_
 rintro _ _⟨sb,wv,rfl,rfl⟩
 refine go ?_
 refine aI (H':=ae b1 (cl (bJ x) 38)::ae sb (cl [.int .i64 (n:Int),wv] 138)::az 134 1 wv (List.replicate ((n+63)/64) 0#64).length (qV (List.replicate ((n+63)/64) 0#64))::F) ah (go ?_)
 refine aJ (U:=aS) (l:=bJ x) 0 zr zr zr zr zr zr (go ?_)
 refine ox rfl bD ?_
 intro mb
 refine aI (ao.fold (B:=[_]) (A:=aQ (Value.int .i64) mb []) (fun h hs=>⟨h,sub.refl h,p8 (Value.int .i64) mb h (eU hs)⟩)) ?_
 refine go ?_
 refine bG zr zr bD ?_
 intro yb
 refine go ?_
 obtain⟨y,hy⟩:∃y:Tk,y=⟨yb,sb,mb,x,n,List.replicate ((n+63)/64) 0#64,fun _=>none⟩:=⟨_,rfl⟩
 have hR:JQ (wv,[],[]) y:=fun k=>by rw[hy];rfl
 refine ai (H':=mP y (wv,[],[])++F) ?_ ?_
 ·rw[hy]
  unfold mP
  exact ao.trans (LX 36 _) ah
 refine ai (iX hR F) ?_
 ((refine ad hE Tryz.func30 zr zr ⟨y,by rw[hy];rfl,rfl,by rw[hy],by rw[hy];exact hn.symm,by rw[hy],by rw[hy]⟩))
end Go.Proofs.YtdigdgohdpeebaaGreatDoor
namespace Go.Proofs.YtdigdgohdpeebaaGreatDoor
open Go Go.SL
def WQ(x:jl):jl:=(x >>> 1 &&& BitVec.ofInt 64 6148914691236517205)+(x &&& BitVec.ofInt 64 6148914691236517205)
def WO(x:jl):jl:=(x >>> 2 &&& BitVec.ofInt 64 3689348814741910323)+(x &&& BitVec.ofInt 64 3689348814741910323)
def Q2(x:jl):jl:=(x >>> 4+x) &&& BitVec.ofInt 64 1085102592571150095
def B6(k:Nat)(x:jl):jl:=x+x >>> k
def KG(x:jl):jl:=B6 32 (B6 16 (B6 8 (Q2 (WO (WQ x)))))
def KH(y:jl):Int:=IntKind.i64.wrap ((BitVec.ofInt IntKind.i64.bits (IntKind.i64.wrap (y.toNat:Int)) &&& BitVec.ofInt IntKind.i64.bits 127).toNat:Int)
def IY(y:jl):0≤KH y∧KH y≤127:=by
 have h:(BitVec.ofInt IntKind.i64.bits (IntKind.i64.wrap (y.toNat:Int)) &&& BitVec.ofInt IntKind.i64.bits 127).toNat≤127:=by
  rw[BitVec.toNat_and]
  exact Nat.le_trans Nat.and_le_right (by decide)
 unfold KH
 generalize (BitVec.ofInt IntKind.i64.bits (IntKind.i64.wrap (y.toNat:Int)) &&& BitVec.ofInt IntKind.i64.bits 127).toNat=m at h
 have e:IntKind.i64.wrap (m:Int)=(m:Int):=cQ (by simp only[gn];omega)
 rw[e]
 omega
def vq(p:jl)(c:Int):IntKind.u64.wrap ((BitVec.ofInt IntKind.u64.bits (p.toNat:Int) &&& BitVec.ofInt IntKind.u64.bits c).toNat:Int)=((p &&& BitVec.ofInt 64 c).toNat:Int):=by
 rw[nP]
 exact mZ (p &&& BitVec.ofInt 64 c)
def rD(ws:List jl):Int:=(ws.map fun w=>KH (KG w)).sum
def CA(ws:List jl):0≤rD ws∧rD ws≤127*ws.length:=by
 unfold rD
 induction ws with
 | nil=>simp
 | cons w ws ih =>
  have:=IY (KG w)
  simp only[List.map_cons,List.sum_cons,List.length_cons]
  omega
attribute [local irreducible] J K aE Ends ae az aQ bP bj aT aU bp bW aD
def P0(x:jl):aE Tryz.prog 98 [.int .u64 (x.toNat:Int)] [] (fun r H=>r = .int .i64 (KH (KG x))∧H=[]):=by
 refine aE.au Tryz.func98 Tryz.ntmps98 fun G F R hE=>?_
 refine go ?_
 refine qB (p:=x) 1 zr zr zr zr ag (go ?_)
 refine aB 5 ((.int .u64 ((x >>> 1 &&& BitVec.ofInt 64 6148914691236517205).toNat:Int))) rfl ((congrArg (Value.int .u64) (vq _ _))) ?_
 refine aB 7 ((.int .u64 ((x &&& BitVec.ofInt 64 6148914691236517205).toNat:Int))) rfl ((congrArg (Value.int .u64) (vq _ _))) ?_
 refine vv (p:=x >>> 1 &&& BitVec.ofInt 64 6148914691236517205) (q:=x &&& BitVec.ofInt 64 6148914691236517205) zr zr zr ?_
 rw[show(x >>> 1 &&& BitVec.ofInt 64 6148914691236517205)+(x &&& BitVec.ofInt 64 6148914691236517205)=WQ x from rfl]
 obtain⟨a,ha⟩:∃a,a=WQ x:=⟨_,rfl⟩
 rw[← ha]
 refine go ?_
 refine qB (p:=a) 2 zr zr zr zr ag (go ?_)
 refine aB 11 ((.int .u64 ((a >>> 2 &&& BitVec.ofInt 64 3689348814741910323).toNat:Int))) rfl ((congrArg (Value.int .u64) (vq _ _))) ?_
 refine aB 13 ((.int .u64 ((a &&& BitVec.ofInt 64 3689348814741910323).toNat:Int))) rfl ((congrArg (Value.int .u64) (vq _ _))) ?_
 refine vv (p:=a >>> 2 &&& BitVec.ofInt 64 3689348814741910323) (q:=a &&& BitVec.ofInt 64 3689348814741910323) zr zr zr ?_
 rw[show(a >>> 2 &&& BitVec.ofInt 64 3689348814741910323)+(a &&& BitVec.ofInt 64 3689348814741910323)=WO a from rfl]
 obtain⟨b,hb⟩:∃b,b=WO a:=⟨_,rfl⟩
 rw[← hb]
 refine go ?_
 refine qB (p:=b) 4 zr zr zr zr ag (go ?_)
 refine vv (p:=b >>> 4) (q:=b) zr zr zr (go ?_)
 refine aB 20 ((.int .u64 ((Q2 b).toNat:Int))) rfl ((congrArg (Value.int .u64) (vq _ _))) ?_
 refine aB 21 ((.int .u64 ((Q2 b).toNat:Int))) rfl ((congrArg (Value.int .u64) (vq _ _))) ?_
 obtain⟨c,hc⟩:∃c,c=Q2 b:=⟨_,rfl⟩
 rw[← hc]
 refine qB (p:=c) 8 zr zr zr zr ag (go ?_)
 refine vv (p:=c) (q:=c >>> 8) zr zr zr ?_
 rw[show c+c >>> 8=B6 8 c from rfl]
 obtain⟨d,hd⟩:∃d,d=B6 8 c:=⟨_,rfl⟩
 rw[← hd]
 refine go ?_
 refine qB (p:=d) 16 zr zr zr zr ag (go ?_)
 refine vv (p:=d) (q:=d >>> 16) zr zr zr ?_
 rw[show d+d >>> 16=B6 16 d from rfl]
 obtain⟨e,he⟩:∃e,e=B6 16 d:=⟨_,rfl⟩
 rw[← he]
 refine go ?_
 refine qB (p:=e) 32 zr zr zr zr ag (go ?_)
 refine vv (p:=e) (q:=e >>> 32) zr zr zr ?_
 rw[show e+e >>> 32=B6 32 e from rfl,show B6 32 e=KG x from by rw[he,hd,hc,hb,ha];rfl]
 refine go ?_
 refine iV zr zr zr zr zr zr (go ?_)
 refine ad hE Tryz.func98 zr zr ⟨rfl,rfl⟩
def zI(sb n:Nat)(wv:Value)(ws:List jl)(hl:ws.length≤65536):aE Tryz.prog 41 [ptr sb] (eT sb n wv ws) (fun r H=>r = .int .i64 (rD ws)∧H=eT sb n wv ws):=by
 unfold eT
 refine aE.au Tryz.func41 Tryz.ntmps41 fun G F R hE=>?_
 refine dg 1 rfl ?_
 rintro a c rfl
 refine cV 1 rfl ?_
 intro dM
 refine go ?_
 refine bz (fun i:Nat=>i≤ws.length) (fun i=>ws.length-i) (fun i=>[(3,.int .i64 (rD (ws.take i))),(9,.slice a ws.length c),(10,.int .i64 (ws.length:Int)),(11,.int .i64 (i:Int))])
  (fun _=>ae sb (cl [.int .i64 (n:Int),.slice a ws.length c] 138)::az 134 1 (.slice a ws.length c) ws.length (qV ws)::F) 0 (Nat.zero_le _) rfl cm ah ?_
 intro i hi ih
 have YY:=CA (ws.take i)
 rw[List.length_take,Nat.min_eq_left hi]at YY
 refine go ?_
 refine aq zr zr ?_ ?_
 ·intro cW
  have gh:i<ws.length:=by omega
  obtain⟨w,hw⟩:∃w,ws[i]?=some w:=⟨ws[i],by simp[gh]⟩
  have lF:rD (ws.take (i+1))=rD (ws.take i)+KH (KG w):=by
   unfold rD
   rw[List.take_add_one,hw];simp
  have La:=IY (KG w)
  obtain⟨b,o,gQ,fO⟩:=dM.some (qNe gh)
  simp only[Value.slice.injEq]at fO
  obtain⟨rfl,_,rfl⟩:=fO
  refine go ?_
  refine bI i zr zr zr zr zr zr zr zr gh ?_
  refine aK ?_
  refine aX 1 i zr zr zr dM rfl (BZ hw) zr zr ?_
  unfold Na
  refine go ?_
  refine aO (P0 w) ?_
  refine go ?_
  refine bu 3 ((.int .i64 (rD (ws.take (i+1))))) rfl ((congrArg (Value.int .i64) lF.symm)) ?_
  refine aM ih (i+1) rfl ag ag cm ah
 ·intro fg
  have rB:i=ws.length:=by omega
  subst rB
  rw[List.take_length]
  clear ih
  refine go ?_
  refine ad hE Tryz.func41 zr zr ⟨rfl,rfl⟩
def Tk.put(y:Tk)(i:Nat)(l:List Dg):Tk:=⟨y.yb,y.sb,y.mb,y.x,y.n,kX y.ws i true,fun j=>if j=(i:Int)then some l else y.pf j⟩
def Dl(y:Tk)(i:Nat)(hi:i<y.n)(hn:y.n≤65536)(hw:y.n≤y.ws.length*64)(P:HP)(pv:Value)(l:List Dg)(hv:Vw P pv l.length (l.flatMap dC))(hl:l.length≤1000000) :
  aE Tryz.prog 40 [ptr y.yb,.int .i64 (i:Int),pv] [oA y,P] (fun r H=>r = .tuple #[]∧H=[oA (y.put i l),P]):=by
 have lH:=F8 P pv l hv hl
 obtain⟨a,c,rfl⟩:=hv.shape
 refine aE.au Tryz.func40 Tryz.ntmps40 fun G F R hE=>?_
 refine er (gf y) ?_
 rintro⟨wv,cs,M⟩ hz
 have tK:=Gc y.sb y.n wv y.ws hn hw i hi true
 unfold eT at tK
 refine ai (H':=ae y.yb (cl (ly y) 79)::ae y.sb (cl [.int .i64 (y.n:Int),wv] 138)::az 134 1 wv y.ws.length (qV y.ws)::aQ (Value.int .i64) y.mb cs::aU 36 M::P::F) (by unfold mP;exact ah) ?_
 refine go ?_
 refine aO tK ?_
 refine go ?_
 refine aH (fun w=>Sat G w ([ae y.yb (cl (ly y) 79)])) (df 0 6 (.act 6 (.act 7 .nil))) rfl ak ak ak eo ?_
 refine go ?_
 refine dD lH ?_
 rintro r8 _ rfl
 refine go ?_
 refine aI (H':=aQ (Value.int .i64) y.mb cs::az 36 32 r8 l.length (l.flatMap dC)::aU 36 M::ae y.yb (cl (ly y) 79)::ae y.sb (cl [.int .i64 (y.n:Int),wv] 138)::az 134 1 wv (kX y.ws i true).length (qV (kX y.ws i true))::P::F) ah ?_
 refine jq (kv:=Value.int .i64) (es:=cs) (key:=(i:Int)) (v:=r8) 0 (Cc Tryz.underlying3) gB zr zr zr zr zr zr zr zr (go ?_)
 refine ai (ao.perm (List.Perm.swap ..)) ?_
 refine ai (H':=az 36 32 r8 l.length (l.flatMap dC)::aU 36 M::aQ (Value.int .i64) y.mb (nD cs (i:Int) r8)::ae y.yb (cl (ly y) 79)::ae y.sb (cl [.int .i64 (y.n:Int),wv] 138)::az 134 1 wv (kX y.ws i true).length (qV (kX y.ws i true))::P::F) ah ?_
 refine ai (ao.join _ _ _) ?_
 refine er (xQ 36 32 l.length r8 (l.flatMap dC) M) ?_
 rintro M'⟨adY,ef⟩
 have hz':JQ (wv,nD cs (i:Int) r8,M') (y.put i l):=JQ.put hz (i:Int) r8 wv l M' ef adY _ rfl
 refine ai (H':=mP (y.put i l) (wv,nD cs (i:Int) r8,M')++(P::F)) (by unfold mP;exact ah) ?_
 refine ai (iX hz' _) ?_
 refine bU hE Tryz.func40 rfl _ rfl ⟨rfl,rfl⟩ ah
def lV{ts:List Tk}{x:Bl}{y:Tk}(h:fb ts x=some y):∃i:Nat,ts[i]?=some y∧y.x=x:=by
 unfold fb at h
 have h1:=List.find?_some h
 obtain⟨i,hi⟩:=List.mem_iff_getElem?.1 (List.mem_of_find?_eq_some h)
 exact⟨i,hi,by simpa using h1⟩
def Oa(o:Option Tk):Value:=match o with
 | none => .tuple #[.int .i64 0,.int .i64 4]
 | some y => .tuple #[.int .i64 ((y.n:Int)-rD y.ws),.int .i64 0]
def FI(tb bs jb:Nat)(tv:Value)(br:Bool)(ts:List Tk)(x:Bl)(hl:ts.length≤1000000)(hn:∀y∈ts,y.n≤65536)(hw:∀y∈ts,y.ws.length≤65536) :
  aE Tryz.prog 17 [ptr tb,eS x] (dL tb bs jb tv ts br) (fun r H=>r=Oa (fb ts x)∧H=dL tb bs jb tv ts br):=by
 have hf:=n6 tb bs jb tv br ts x hl
 unfold dL at hf ⊢
 unfold eS at hf ⊢
 refine aE.au Tryz.func17 Tryz.ntmps17 fun G F R hE=>?_
 refine aG rfl ?_
 refine bG zr zr bD ?_
 intro b3
 refine go ?_
 refine aJ (U:=aS) (l:=bJ x) 0 zr zr zr zr zr zr (go ?_)
 refine aO hf ?_
 refine go ?_
 cases qg:fb ts x with
 | none =>
  rw[qg]at hE
  unfold Nd
  refine go ?_
  refine ad hE Tryz.func17 zr zr ⟨rfl,rfl⟩
 | some y =>
  rw[qg]at hE
  obtain⟨i,hi,hx⟩:=lV qg
  have Cf:y∈ts:=List.mem_of_getElem? hi
  have Gg:=hn y Cf
  have Ev:=hw y Cf
  have YY:=CA y.ws
  unfold Nd
  refine go ?_
  refine ai (H':=aW ts::ae tb (cl [ptr bs,ptr jb,tv,.bool br] 73)::az 75 1 tv ts.length (ts.map cg)::F) ah ?_
  refine ai (kO hi _) ?_
  refine er (gf y) ?_
  rintro⟨wv,cs,M⟩ hz
  refine ai (H':=ae y.yb (cl (ly y) 79)::ae y.sb (cl [.int .i64 (y.n:Int),wv] 138)::az 134 1 wv y.ws.length (qV y.ws)::aQ (Value.int .i64) y.mb cs::aU 36 M::aW (ts.take i++ts.drop (i+1))::ae tb (cl [ptr bs,ptr jb,tv,.bool br] 73)::az 75 1 tv ts.length (ts.map cg)::F) (by unfold mP;exact ah) ?_
  have ET:=zI y.sb y.n wv y.ws Ev
  unfold eT at ET
  refine aH (fun w=>Sat G w ([ae y.yb (cl (ly y) 79)])) (df 0 4 (df 5 4 (.act 4 (.act 9 (df 10 3 .nil))))) rfl ak ak ak eo ?_
  refine go ?_
  refine bC (lp y.sb y.n wv) ?_
  refine go ?_
  refine bC ET ?_
  refine go ?_
  refine ai (H':=mP y (wv,cs,M)++(aW (ts.take i++ts.drop (i+1))::ae tb (cl [ptr bs,ptr jb,tv,.bool br] 73)::az 75 1 tv ts.length (ts.map cg)::F)) (by unfold mP;exact ah) ?_
  refine ai (iX hz _) ?_
  refine ai (lJ hi _) ?_
  refine ai (H':=ae tb (cl [ptr bs,ptr jb,tv,.bool br] 73)::az 75 1 tv ts.length (ts.map cg)::aW ts::F) ah ?_
  refine ad hE Tryz.func17 zr zr ⟨rfl,rfl⟩
def Ai(v:Value)(l:List Tk)(X:HP)(g:FuncId)(cap:List Value)(p:Tk→Bool)(hlen:l.length≤1000000)(hf:∀x∈l,aE Tryz.prog g (ptr x.yb::cap) [X] (fun v H=>v = .bool (p x)∧H=[X])) :
  aE Tryz.prog 161 [v,.func (.func g) #[] cap.toArray] [az 75 1 v l.length (l.map cg),X]
   (fun r H=>H=[az 75 1 r (l.filter fun x => !p x).length ((l.filter fun x => !p x).map cg),X]):=by
 refine aE.au Tryz.func161 Tryz.ntmps161 fun G F R hE=>?_
 refine dg 0 rfl ?_
 rintro a0 c rfl
 refine go ?_
 refine iw 0 rfl ?_
 intro hv
 refine cF [0,1] zr zr zr zr (uB _ X _ l hv hlen g cap p hf) rfl mO ?_
 rintro _ _⟨rfl,rfl⟩
 refine go ?_
 refine aq zr zr ?_ ?_
 ·intro h0
  have mq:l.any p=false:=nV.1 ag
  have nX:(l.filter fun x => !p x)=l:=List.filter_eq_self.2 fun x hx=>by
   have:=List.any_eq_false.1 mq x hx
   simpa using this
  rw[nX]at hE
  refine go ?_
  refine aL hE Tryz.func161 rfl _ zr zr (ao.fin [0,1] 0 zr zr)
 ·intro h0
  obtain⟨i0,x0,MR,W1,Jl,rP⟩:=ys h0
  have adA:i0<l.length:=by
   rcases Nat.lt_or_ge i0 l.length with h|h
   ·exact h
   ·rw[List.getElem?_eq_none h]at W1;cases W1
  rw[MR]
  refine go ?_
  refine sM (fun a lq hn _=>by omega) ?_
  rintro b o c' pre bR oY mV hnc jx lH
  simp only[Value.slice.injEq,true_and]at oY
  obtain⟨rfl,rfl⟩:=oY
  have h1:l.take (i0+1)=l.take i0++[x0]:=by rw[List.take_add_one,W1];rfl
  have Hz:(l.take i0).filter (fun x => !p x)=l.take i0:=List.filter_eq_self.2 fun x hx=>by simp[rP x hx]
  refine bz (fun s:Nat × Nat × List Tk=>s.1<s.2.1∧s.2.1≤l.length∧s.2.2.length=l.length∧s.2.2.take s.1=(l.take s.2.1).filter (fun x => !p x)∧s.2.2.drop s.2.1=l.drop s.2.1) (fun s=>l.length-s.2.1)
   (fun s=>[(0,.slice (some ⟨b,o,none⟩) l.length c),(1,.func (.func g) #[] cap.toArray),(5,.int .i64 s.1),(6,.int .i64 s.2.1)])
   (fun s=>ae b (cl (pre++s.2.2.map cg++bR) 75)::X::F) (i0,i0+1,l) ⟨by simp,by simp only;omega,rfl,by simp only[h1,List.filter_append,Hz];simp[Jl],rfl⟩ rfl cm (ao.refl _) ?_
  rintro⟨i,j,E⟩⟨A6,uG,QH,E4,RU⟩ ih
  simp only at A6 uG QH E4 RU
  have eQ:(E.map cg).length=l.length:=by rw[List.length_map,QH]
  have hvE:Vw (ae b (cl (pre++E.map cg++bR) 75)) (.slice (some ⟨b,o,none⟩) l.length c) l.length (E.map cg):=Vw.ae (by rw[List.append_assoc,← mV,List.drop_left,List.take_left])
  refine go ?_
  refine aq zr zr ?_ ?_
  ·intro cW
   simp only at cW
   have nF:j<l.length:=by omega
   obtain⟨x,hx⟩:∃x,l[j]?=some x:=⟨l[j],by simp[nF]⟩
   have hEx:E[j]?=some x:=by
    have:=congrArg (·[0]?) RU
    simp only[List.getElem?_drop,Nat.add_zero]at this
    rw[this];exact hx
   have e9:=List.mem_of_getElem? hx
   have XD:=hf _ e9
   refine go ?_
   refine bI j zr zr zr zr zr zr zr zr nF ?_
   refine aK ?_
   refine aX 0 j zr zr zr hvE rfl (qI hEx) zr zr (go ?_)
   refine cF [1] zr zr zr zr (XD) rfl mO ?_
   rintro _ _⟨rfl,rfl⟩
   refine go ?_
   refine fQ zr zr ?_ ?_
   ·intro hp
    have sU:p x=false:=by simpa using hp
    refine go ?_
    refine bI i zr zr zr zr zr zr zr zr ag ?_
    refine kK (U:=aS) (l':=pre++(E.set i x).map cg++bR) 1 gB zr zr zr zr zr zr zr ?_ ?_ rfl ?_
    ·show o+i+1≤_
     rw[List.length_append,List.length_append,eQ];omega
    ·show _=List.take (o+i) (pre++E.map cg++bR)++[cg x]++List.drop (o+i+1) (pre++E.map cg++bR)
     have hs:=oJ pre (E.map cg) bR [cg x] i (by rw[eQ];simp only[List.length_singleton];omega)
     rw[← mV]
     simp only[List.length_singleton]at hs
     rw[hs,List.map_set,List.set_eq_take_append_cons_drop,if_pos (by rw[eQ];omega)]
     simp
    refine go ?_
    refine aM ih (i+1,j+1,E.set i x) rfl ⟨by simp only;omega,by simp only;omega,by simp only[List.length_set];exact QH,?_,?_⟩ (by simp only;omega) cm ah
    ·simp only
     rw[List.take_add_one,List.take_set_of_le (Nat.le_refl i),E4,List.take_add_one (l:=l),hx,List.getElem?_set_self ag]
     simp[List.filter_append,sU]
    ·simp only
     rw[List.drop_set_of_lt ag,← List.drop_drop,RU,List.drop_drop]
   ·intro hp
    have sU:p x=true:=by simpa using hp
    refine go ?_
    refine aM ih (i,j+1,E) rfl ⟨by simp only;omega,by simp only;omega,QH,by simp only;rw[E4,List.take_add_one,hx];simp[List.filter_append,sU],by simp only;rw[← List.drop_drop,RU,List.drop_drop]⟩ (by simp only;omega) cm ah
  ·intro fg
   refine go ?_
   simp only at fg
   have RE:j=l.length:=by omega
   subst RE
   rw[List.take_length]at E4
   have yy:(l.filter fun x => !p x).length=i:=by rw[← E4,List.length_take];omega
   refine lX zr zr zr zr zr zr zr ag ag (.inl rfl) ?_
   intro o1 OV YK
   simp only[Int.toNat_natCast]at OV YK
   have OU:i≠c→o1=o+i:=fun h=>by have h2:o1=o+i*1:=OV h;omega
   have hL:(pre++E.map cg++bR).length=o+l.length+bR.length:=by rw[List.length_append,List.length_append,eQ,mV]
   obtain⟨rL,O3,adv⟩:∃rL,(pre++E.map cg++bR).take o1++(List.replicate (((l.length:Int).toNat-(i:Int).toNat)) [Value.pointer none]).flatten++(pre++E.map cg++bR).drop (o1+((l.length:Int).toNat-(i:Int).toNat)*1)=pre++(E.take i).map cg++rL∧c*1≤i*1+rL.length:=by
    have XA:i≠c:=by omega
    rw[OU XA,← mV,List.append_assoc pre,List.take_length_add_append,List.take_append_of_le_length (by rw[eQ];omega),List.map_take]
    refine⟨_,by rw[List.append_assoc],?_⟩
    rw[List.length_append,List.length_drop,mw]
    simp only[List.length_append,List.length_cons,List.length_nil,eQ,Int.toNat_natCast]
    have:=jx
    rw[List.length_map]at this
    omega
   refine J2 (U:=aS) (l':=pre++(E.take i).map cg++rL) 0 gB zr zr zr zr zr zr zr zr ?_ ?_ rfl ?_
   ·have XA:i≠c:=by omega
    show o1+((l.length:Int).toNat-(i:Int).toNat)*1≤_
    rw[OU XA,hL];omega
   ·rw[← O3];rfl
   refine go ?_
   refine lX zr zr zr zr zr zr zr ag ag (.inr ag) ?_
   intro o2 ho3 ho4
   have Xm:o2=o:=by
    by_cases Aa:(0:Int).toNat=c
    ·exact ho4 Aa
    ·have:=ho3 Aa;rw[this];simp
   subst Xm
   refine go ?_
   refine ai (l7 (sz:=1) (nn:=i) (c:=c) mV ag (by rw[List.length_map,List.length_take,Nat.min_eq_left ag];omega) (by rw[List.length_map,List.length_take];omega) _) ?_
   rw[← E4,E4,yy,← E4]at hE
   refine aL hE Tryz.func161 rfl _ zr zr (ao.fin [0,1] 0 zr zr)
def DO(ts:List Tk)(d:Dg)(bx:Nat)(y:Tk)(hy:y∈ts):aE Tryz.prog 162 [ptr y.yb,ptr bx] [Sep [aW ts,ae bx (cl (dC d) 36)] ] (fun r H=>r = .bool (decide (y.x.d=d))∧H=[Sep [aW ts,ae bx (cl (dC d) 36)] ]):=by
 obtain⟨i,hi⟩:=List.mem_iff_getElem?.1 hy
 refine aE.au Tryz.func162 Tryz.ntmps162 fun G F R hE=>?_
 refine ai (ao.cJ [_,_] _) ?_
 refine ai (kO hi _) ?_
 refine er (gf y) ?_
 rintro z hz
 refine ai (H':=ae y.yb (cl (ly y) 79)::ae bx (cl (dC d) 36)::ae y.sb (cl [.int .i64 (y.n:Int),z.1] 138)::az 134 1 z.1 y.ws.length (qV y.ws)::aQ (Value.int .i64) y.mb z.2.1::aU 36 z.2.2::aW (ts.take i++ts.drop (i+1))::F) ah (go ?_)
 refine aH (fun w=>Sat G w ([ae y.yb (cl (ly y) 79),ae bx (cl (dC d) 36)])) (df 0 8 .nil) rfl ak ak ak eo ?_
 refine go ?_
 refine cD (U:=aS) 0 zr zr zr zr zr zr (go ?_)
 refine bY (U:=aS) (l:=dC d) 1 zr zr zr zr zr zr (go ?_)
 refine lR (b:=decide (y.x.d=d)) zr zr zr Lw (fun w=>LK y.x.d d w) ?_
 refine go ?_
 refine ai (H':=mP y z++(aW (ts.take i++ts.drop (i+1))::ae bx (cl (dC d) 36)::F)) (by unfold mP;exact ah) ?_
 refine ai (iX hz _) ?_
 refine ai (lJ hi _) ?_
 refine ai (ao.bS [_,_] _) ?_
 refine ad hE Tryz.func162 zr zr ⟨rfl,rfl⟩
end Go.Proofs.YtdigdgohdpeebaaGreatDoor
namespace Go.Proofs.YtdigdgohdpeebaaGreatDoor
open Go Go.SL
def se(q:Tk→Bool):∀(ts:List Tk) (H:List HP),ao (aW ts::H) (aW (ts.filter q)::H)
 | [],H=>ao.refl _
 | y::ts,H=>by
  have h1:ao (aW (y::ts)::H) (oA y::aW ts::H):=BJ [] ts y H
  by_cases hq:q y=true
  ·rw[List.filter_cons_of_pos hq]
   have h2:ao (oA y::aW (ts.filter q)::H) (aW (y::ts.filter q)::H):=uN [] (ts.filter q) y H
   exact h1.trans ((ao.cons _ (se q ts H)).trans h2)
  ·rw[List.filter_cons_of_neg hq]
   exact h1.trans ((ao.drop _ _).trans (se q ts H))
def mQ(ts:List Tk)(d:Dg):List Tk:=ts.filter fun y => !decide (y.x.d=d)
attribute [local irreducible] J K aE Ends ae az aQ bP bj aT aU bp bW aD
def xU(tb bs jb:Nat)(tv:Value)(br:Bool)(ts:List Tk)(d:Dg)(hl:ts.length≤1000000):aE Tryz.prog 102 [ptr tb,dV d] (dL tb bs jb tv ts br)
  (fun r H=>r = .tuple #[]∧∃m5,H=dL tb bs jb m5 (mQ ts d) br):=by
 unfold dL dV
 refine aE.au Tryz.func102 Tryz.ntmps102 fun G F R hE=>?_
 refine dg 1 rfl ?_
 rintro a c rfl
 refine aG rfl ?_
 refine bG zr zr bD ?_
 intro b3
 refine go ?_
 refine aI (H':=ae tb (cl [ptr bs,ptr jb,.slice a ts.length c,.bool br] 73)::az 75 1 (.slice a ts.length c) ts.length (ts.map cg)::aW ts::ae b3 (cl (dC d) 36)::F) ah ?_
 refine aI (ao.cons _ (ao.cons _ (ao.bS [_,_] _))) (go ?_)
 refine aF (Ai _ ts _ 162 [ptr b3] (fun y=>decide (y.x.d=d)) hl (fun y hy=>DO ts d b3 y hy)) ?_
 rintro r _ rfl
 refine aN 0 rfl ?_
 rintro a2 c2 rfl
 refine go ?_
 refine ai (H':=Sep [aW ts,ae b3 (cl (dC d) 36)]::ae tb (cl [ptr bs,ptr jb,.slice a2 (mQ ts d).length c2,.bool br] 73)::az 75 1 (.slice a2 (mQ ts d).length c2) (mQ ts d).length ((mQ ts d).map cg)::F) ah ?_
 refine ai (ao.cJ [_,_] _) ?_
 refine ai (se (fun y => !decide (y.x.d=d)) ts _) ?_
 refine ai (H':=ae tb (cl [ptr bs,ptr jb,.slice a2 (mQ ts d).length c2,.bool br] 73)::az 75 1 (.slice a2 (mQ ts d).length c2) (mQ ts d).length ((mQ ts d).map cg)::aW (mQ ts d)::F) ah ?_
 refine bU hE Tryz.func102 rfl _ rfl ⟨rfl,_,rfl⟩ ah
end Go.Proofs.YtdigdgohdpeebaaGreatDoor
namespace Go.Proofs.YtdigdgohdpeebaaGreatDoor
open Go Go.SL
def cB(bs bd jb:Nat)(q:Int)(mb:Nat)(Xs:List HP)(x:SJ):HP:=Sep (cC bs bd q mb x.1++(rq jb bd cS x.2::Xs))
def r'(l:List HP):ao [Sep l] l:=by have:=ao.cJ l [];rwa[List.append_nil]at this
def sl(l:List HP):ao l [Sep l]:=by have:=ao.bS l [];rwa[List.append_nil]at this
def SQ(m:Nat)(i:Nat)(y:SJ):Prop:=0≤y.2.n∧(0≤y.2.s∧y.2.s≤1000000)∧y.1.A.aw.length≤m+10*i∧y.1.A.writes.length≤m+10*i
def SQ.append{m i:Nat}{x y:SJ}{b:List UInt8}{e:Nat}(h:SQ m i x)(hS:xK b x e y):SQ m (i+1) y:=by
 obtain⟨h1,h2⟩:=hS
 subst h2
 have hg:=ud x.1.A cS x.2 b
 obtain⟨a1,⟨a2,a3⟩,a4,a5⟩:=h
 unfold SQ
 dsimp only
 refine⟨?_,?_,ag,ag⟩
 ·unfold cU
  split
  ·exact a1
  split
  ·exact a1
  split
  ·exact a1
  split
  ·exact a1
  ·exact a1
 ·unfold cU
  split
  ·exact⟨a2,a3⟩
  split
  ·exact⟨a2,a3⟩
  split
  ·exact⟨a2,a3⟩
  split
  ·dsimp only;omega
  ·exact⟨a2,a3⟩
attribute [local irreducible] J K aE Ends ae az aQ bP bj aT aU bp bW aD
def uZ(tb bs jb bd b2 b3:Nat)(tv:Value)(q:Int)(mb:Nat)(x:SJ)(Z:HP)(Ys:List HP)(a:Option Addr)(c:Nat)(b:List UInt8)(hb:eM Z (.slice a b.length c) b)(hl:b.length≤1000000)(hs:0≤x.2.s∧x.2.s≤1000000000)(eQ:x.1.A.writes.length≤1000000000) :
  aE Tryz.prog 80 [ptr b2,ptr b3] [iD tb bs jb tv false,cB bs bd jb q mb (ae b2 (cl [ptr tb] 31)::ae b3 (cl [.slice a b.length c] 39)::Z::Ys) x]
  (fun r H=>∃(e:Nat) (x':SJ),r = .int .i64 (e:Int)∧H=[iD tb bs jb tv false,cB bs bd jb q mb (ae b2 (cl [ptr tb] 31)::ae b3 (cl [.slice a b.length c] 39)::Z::Ys) x']∧xK b x e x'):=by
 have c0:=aE.frame ([ae bs (cl (eA bd q mb x.1.brk) 113),aQ dV mb (dx x.1.bq)]++Ys) (G8 tb bs jb bd b2 b3 tv x.1.A x.2 Z a c b hb ag hs eQ)
 refine c0.conv ?_ ?_
 ·unfold cB cC
  exact(ao.cons _ (r' _)).trans ah
 ·rintro v H⟨H',⟨rfl,rfl⟩,rfl⟩
  refine⟨[iD tb bs jb tv false,cB bs bd jb q mb _ (⟨(cU cS x.1.A x.2 b).2.1,x.1.bq,x.1.brk⟩,(cU cS x.1.A x.2 b).2.2)],⟨_,_,rfl,rfl,rfl,rfl⟩,?_⟩
  unfold cB cC
  exact ao.trans ah (ao.cons _ (sl _))
def qq(tb bs jb bd:Nat)(tv:Value)(q:Int)(mb:Nat)(x:SJ)(Xs:List HP)(hn:0≤x.2.n)(hs:0≤x.2.s∧x.2.s≤1000000000)(cL:x.1.A.aw.length≤900000000)(qd:x.1.A.writes.length≤900000000) :
  aE Tryz.prog 82 [ptr jb] [iD tb bs jb tv false,cB bs bd jb q mb Xs x]
  (fun r H=>∃(e:Nat) (x':SJ),r = .int .i64 (e:Int)∧H=[iD tb bs jb tv false,cB bs bd jb q mb Xs x']∧Dz x e x'):=by
 have c0:=aE.frame ([iD tb bs jb tv false,ae bs (cl (eA bd q mb x.1.brk) 113),aQ dV mb (dx x.1.bq)]++Xs) (IA jb bd cS x.1.A x.2 hn hs cL qd)
 refine c0.conv ?_ ?_
 ·unfold cB cC
  exact(ao.cons _ (r' _)).trans ah
 ·rintro v H⟨H',⟨e,A',x',rfl,rfl,hC⟩,rfl⟩
  refine⟨[iD tb bs jb tv false,cB bs bd jb q mb _ (⟨A',x.1.bq,x.1.brk⟩,x')],⟨e,_,rfl,rfl,A',x',hC,rfl⟩,?_⟩
  unfold cB cC
  exact ao.trans ah (ao.cons _ (sl _))
def DH(tb bs jb bd b2 b3 row:Nat)(tv:Value)(q:Int)(mb:Nat)(x:SJ)(Z:HP)(Ys:List HP)(a:Option Addr)(c:Nat)(b:List UInt8)(hb:eM Z (.slice a b.length c) b)(hl:b.length≤1000000)(m:Nat)(hm:m≤800000000)(hx:SQ m 0 x) :
  aE Tryz.prog 29 [ptr tb,.slice (some ⟨row,0,none⟩) 2 2] [ae row (cl (iu b2 b3 jb) 82),iD tb bs jb tv false,cB bs bd jb q mb (ae b2 (cl [ptr tb] 31)::ae b3 (cl [.slice a b.length c] 39)::Z::Ys) x]
  (fun r H=>∃(e:Nat) (x':SJ),r = .int .i64 (e:Int)∧H=[ae row (cl (iu b2 b3 jb) 82),iD tb bs jb tv (gi e),cB bs bd jb q mb (ae b2 (cl [ptr tb] 31)::ae b3 (cl [.slice a b.length c] 39)::Z::Ys) x']∧iA (jD b) x e x'):=by
 refine qK (cB bs bd jb q mb (ae b2 (cl [ptr tb] 31)::ae b3 (cl [.slice a b.length c] 39)::Z::Ys)) tb bs jb tv _ _ (iu b2 b3 jb) (Vw.ae rfl) (by simp[iu]) (jD b) rfl (fun i y=>i≤1→SQ m i y) ?_ x (fun _=>hx)
 intro i fv s mX hs
 match i,mX,hs with
 | 0,mX,hs =>
  cases mX
  cases hs
  refine⟨_,_,_,rfl,fun y hy=>?_⟩
  have hq:=hy ag
  obtain⟨a1,⟨a2,a3⟩,a4,a5⟩:=hq
  refine aE.post (uZ tb bs jb bd b2 b3 tv q mb y Z Ys a c b hb hl ⟨a2,ag⟩ ag) ?_
  rintro v H⟨e,x',rfl,rfl,hS⟩
  exact⟨e,x',rfl,rfl,hS,fun _ _=>SQ.append ⟨a1,⟨a2,a3⟩,a4,a5⟩ hS⟩
 | 1,mX,hs =>
  cases mX
  cases hs
  refine⟨_,_,_,rfl,fun y hy=>?_⟩
  have hq:=hy ag
  obtain⟨a1,⟨a2,a3⟩,a4,a5⟩:=hq
  refine aE.post (qq tb bs jb bd tv q mb y _ a1 ⟨a2,ag⟩ ag ag) ?_
  rintro v H⟨e,x',rfl,rfl,hS⟩
  exact⟨e,x',rfl,rfl,hS,fun _ h=>absurd h ag⟩
 | n+2,mX,hs=>cases hs
end Go.Proofs.YtdigdgohdpeebaaGreatDoor
namespace Go.Proofs.YtdigdgohdpeebaaGreatDoor
open Go Go.SL
def zq(bs bd jb:Nat)(q:Int)(mb:Nat)(Xs:List HP)(x:SJ)(F:List HP):ao (cB bs bd jb q mb [] x::(Xs++F)) (cB bs bd jb q mb Xs x::F):=by
 unfold cB
 refine(ao.cJ _ _).trans ?_
 have h:cC bs bd q mb x.1++[rq jb bd cS x.2]++(Xs++F)=(cC bs bd q mb x.1++(rq jb bd cS x.2::Xs))++F:=by simp
 rw[h]
 exact ao.bS _ _
def uk(bs bd jb:Nat)(q:Int)(mb:Nat)(Xs:List HP)(x:SJ)(F:List HP):ao (cB bs bd jb q mb Xs x::F) (cB bs bd jb q mb [] x::(Xs++F)):=by
 unfold cB
 refine(ao.cJ _ _).trans ?_
 have h:(cC bs bd q mb x.1++(rq jb bd cS x.2::Xs))++F=cC bs bd q mb x.1++[rq jb bd cS x.2]++(Xs++F):=by simp
 rw[h]
 exact ao.bS _ _
def P6(X:HP):qv X (.slice none 0 0) []:=⟨[],Vw.nil X none 0,rfl,⟨none,0,rfl,Nat.le_refl _⟩,fun i x h=>by simp at h⟩
def Cu(d:Dg):List UInt8:=jJ 3 d []
attribute [local irreducible] J K aE Ends ae az aQ bP bj aT aU bp bW aD cB
def Jw(tb bs jb bd:Nat)(tv:Value)(q:Int)(mb:Nat)(ts:List Tk)(s:SJ)(x:Bl)(hl:ts.length≤1000000)(m:Nat)(hm:m≤800000000)(hx:SQ m 0 s) :
  aE Tryz.prog 44 [ptr tb,eS x] (dL tb bs jb tv ts false++[cB bs bd jb q mb [] s])
  (fun r H=>∃(e:Nat) (s':SJ) (m5:Value),r = .int .i64 (e:Int)∧H=dL tb bs jb m5 (if e=0 then mQ ts x.d else ts) (gi e)++[cB bs bd jb q mb [] s']∧iA (jD (Cu x.d)) s e s'):=by
 have hlen:=hD 3 x.d [] (by simp) (by simp)
 have Jj:=fun tv=>xU tb bs jb tv false ts x.d hl
 have S5:=fun a n c=>uY tb bs jb tv a n c
 have iR:=fun b2 b3 row Z Ys a c b hb hl=>DH tb bs jb bd b2 b3 row tv q mb s Z Ys a c b hb hl m hm hx
 unfold dL at Jj ⊢
 unfold iD at S5 iR
 unfold eS
 refine aE.au Tryz.func44 Tryz.ntmps44 fun G F R hE=>?_
 refine aG rfl ?_
 refine bG zr zr bD ?_
 intro b3
 refine go ?_
 refine dB 0 zr zr zr zr zr zr ?_
 refine aF (sr 3 x.d (ae b3 (cl (bJ x) 38)) (.slice none 0 0) [] (P6 _) (by simp) (by simp)) ?_
 rintro r _ rfl
 refine aN 0 rfl ?_
 rintro a8 c8 rfl
 refine go ?_
 refine aF (S5 a8 (jJ 3 x.d []).length c8) ?_
 rintro _ _⟨c2,c3,row,rfl,rfl⟩
 refine go ?_
 refine aI (H':=az 5 1 (.slice a8 (jJ 3 x.d []).length c8) (jJ 3 x.d []).length (bV (jJ 3 x.d []))::cB bs bd jb q mb [] s::ae c2 (cl [ptr tb] 31)::ae c3 (cl [.slice a8 (jJ 3 x.d []).length c8] 39)::ae row (cl (iu c2 c3 jb) 82)::ae tb (cl [ptr bs,ptr jb,tv,.bool false] 73)::az 75 1 tv ts.length (ts.map cg)::aW ts::ae b3 (cl (bJ x) 38)::F) ah ?_
 refine gM (bs:=jJ 3 x.d []) 0 rfl ?_
 intro Js
 refine aI (H':=cB bs bd jb q mb [] s::([ae c2 (cl [ptr tb] 31),ae c3 (cl [.slice a8 (jJ 3 x.d []).length c8] 39),az 5 1 (.slice a8 (jJ 3 x.d []).length c8) (jJ 3 x.d []).length (bV (jJ 3 x.d []))]++(ae row (cl (iu c2 c3 jb) 82)::ae tb (cl [ptr bs,ptr jb,tv,.bool false] 73)::az 75 1 tv ts.length (ts.map cg)::aW ts::ae b3 (cl (bJ x) 38)::F))) ah ?_
 refine aI (zq bs bd jb q mb _ s _) ?_
 refine aF (iR c2 c3 row _ [] a8 c8 (jJ 3 x.d []) Js ag) ?_
 rintro _ _⟨e,s',rfl,rfl,hR⟩
 refine aI (H':=cB bs bd jb q mb (ae c2 (cl [ptr tb] 31)::ae c3 (cl [.slice a8 (jJ 3 x.d []).length c8] 39)::az 5 1 (.slice a8 (jJ 3 x.d []).length c8) (jJ 3 x.d []).length (bV (jJ 3 x.d []))::[]) s'::ae tb (cl [ptr bs,ptr jb,tv,.bool (gi e)] 73)::az 75 1 tv ts.length (ts.map cg)::aW ts::ae b3 (cl (bJ x) 38)::F) ah ?_
 refine aI (uk bs bd jb q mb _ s' _) ?_
 by_cases he:e=0
 ·subst he
  refine aI (H':=ae b3 (cl (bJ x) 38)::ae tb (cl [ptr bs,ptr jb,tv,.bool false] 73)::az 75 1 tv ts.length (ts.map cg)::aW ts::cB bs bd jb q mb [] s'::F) ah (go ?_)
  refine dB 0 zr zr zr zr zr zr ?_
  refine aF (Jj tv) ?_
  rintro _ _⟨rfl,m5,rfl⟩
  refine go ?_
  refine ai (H':=ae tb (cl [ptr bs,ptr jb,m5,.bool false] 73)::az 75 1 m5 (mQ ts x.d).length ((mQ ts x.d).map cg)::aW (mQ ts x.d)::cB bs bd jb q mb [] s'::F) ah ?_
  refine ad hE Tryz.func44 zr zr ⟨0,s',m5,rfl,rfl,hR⟩
 ·refine aI (H':=ae tb (cl [ptr bs,ptr jb,tv,.bool (gi e)] 73)::az 75 1 tv ts.length (ts.map cg)::aW ts::cB bs bd jb q mb [] s'::F) ah (go ?_)
  refine aq zr zr ?_ ?_
  ·intro _
   refine go ?_
   (refine ad hE Tryz.func44 zr zr ⟨e,s',tv,rfl,by rw[if_neg he],hR⟩)
  ·intro h;exfalso;omega
end Go.Proofs.YtdigdgohdpeebaaGreatDoor
namespace Go.Proofs.YtdigdgohdpeebaaGreatDoor
open Go Go.SL
attribute [local irreducible] J K aE Ends ae az aQ bP bj aT aU bp bW aD
def Fy(tb bs jb bd b2 b3:Nat)(q:Int)(mb:Nat)(tv:Value)(s:e8)(x:Bl)(cL:s.A.aw.length≤900000000)(eQ:s.A.writes.length≤900000000) :
  aE Tryz.prog 45 [ptr b2,ptr b3] (iD tb bs jb tv false::(cC bs bd q mb s++[ae b2 (cl [ptr tb] 31),ae b3 (cl (bJ x) 38)]))
  (fun r H=>∃(e:Nat) (t:e8),r = .int .i64 (e:Int)∧H=iD tb bs jb tv false::(cC bs bd q mb t++[ae b2 (cl [ptr tb] 31),ae b3 (cl (bJ x) 38)])∧gN x s e t):=by
 have sW:=Gd bs bd q mb s x cL eQ
 unfold eS at sW
 unfold iD
 refine aE.au Tryz.func45 Tryz.ntmps45 fun G F R hE=>?_
 refine go ?_
 refine aH (fun w=>Sat G w ([ae tb (cl [ptr bs,ptr jb,tv,.bool false] 73),ae b2 (cl [ptr tb] 31),ae b3 (cl (bJ x) 38)])) (df 0 5 (.act 5 (.st 6 .nil))) rfl ak ak ak eo ?_
 refine go ?_
 refine bY (U:=aS) (l:=bJ x) 2 zr zr zr zr zr zr (go ?_)
 refine fq rfl rfl rfl rfl sW ah ?_ (fun _ _ w hp hw=>by obtain⟨_,_,rfl,rfl,_⟩:=hp;exact hw.cN ah)
 rintro _ _⟨e,t,rfl,rfl,hR⟩
 refine go ?_
 refine ai (H':=ae tb (cl [ptr bs,ptr jb,tv,.bool false] 73)::(cC bs bd q mb t++(ae b2 (cl [ptr tb] 31)::ae b3 (cl (bJ x) 38)::F))) ah ?_
 refine ad hE Tryz.func45 zr zr ⟨e,t,rfl,rfl,hR⟩
def Cp(X:HP)(hK:oD X)(tb bs jb bd b2 b3:Nat)(q:Int)(mb:Nat)(tv:Value)(s:e8)(x:Bl)(cL:s.A.aw.length≤900000000)(eQ:s.A.writes.length≤900000000) :
  aE Tryz.prog 42 [ptr b2,ptr b3] (iD tb bs jb tv false::(cC bs bd q mb s++[X,ae b2 (cl [ptr tb] 31),ae b3 (cl (bJ x) 38)]))
  (fun r H=>∃(e:Nat) (t:e8),r = .int .i64 (e:Int)∧H=iD tb bs jb tv false::(cC bs bd q mb t++[X,ae b2 (cl [ptr tb] 31),ae b3 (cl (bJ x) 38)])∧dQ x s e t):=by
 have sW:=Iv X hK bs bd q mb s x cL eQ
 unfold eS at sW
 unfold iD
 refine aE.au Tryz.func42 Tryz.ntmps42 fun G F R hE=>?_
 refine go ?_
 refine aH (fun w=>Sat G w ([ae tb (cl [ptr bs,ptr jb,tv,.bool false] 73),ae b2 (cl [ptr tb] 31),ae b3 (cl (bJ x) 38)])) (df 0 5 (.act 5 (.st 6 .nil))) rfl ak ak ak eo ?_
 refine go ?_
 refine bY (U:=aS) (l:=bJ x) 2 zr zr zr zr zr zr (go ?_)
 refine fq rfl rfl rfl rfl sW ah ?_ (fun _ _ w hp hw=>by obtain⟨_,_,rfl,rfl,_⟩:=hp;exact hw.cN ah)
 rintro _ _⟨e,t,rfl,rfl,hR⟩
 refine go ?_
 refine ai (H':=ae tb (cl [ptr bs,ptr jb,tv,.bool false] 73)::(cC bs bd q mb t++(X::ae b2 (cl [ptr tb] 31)::ae b3 (cl (bJ x) 38)::F))) ah ?_
 refine ad hE Tryz.func42 zr zr ⟨e,t,rfl,rfl,hR⟩
def Fz(tb bs jb bd b2 b3:Nat)(q:Int)(mb:Nat)(tv:Value)(s:SJ)(x:Bl)(Ys:List HP)(cL:s.1.A.aw.length≤900000000)(eQ:s.1.A.writes.length≤900000000) :
  aE Tryz.prog 45 [ptr b2,ptr b3] [iD tb bs jb tv false,cB bs bd jb q mb (ae b2 (cl [ptr tb] 31)::ae b3 (cl (bJ x) 38)::Ys) s]
  (fun r H=>∃(e:Nat) (t:SJ),r = .int .i64 (e:Int)∧H=[iD tb bs jb tv false,cB bs bd jb q mb (ae b2 (cl [ptr tb] 31)::ae b3 (cl (bJ x) 38)::Ys) t]∧dZ (gN x) s e t):=by
 have c0:=aE.frame ([rq jb bd cS s.2]++Ys) (Fy tb bs jb bd b2 b3 q mb tv s.1 x cL eQ)
 refine c0.conv ?_ ?_
 ·unfold cB cC
  exact(ao.cons _ (r' _)).trans ah
 ·rintro v H⟨H',⟨e,t,rfl,rfl,hC⟩,rfl⟩
  refine⟨[iD tb bs jb tv false,cB bs bd jb q mb _ (t,s.2)],⟨e,_,rfl,rfl,hC,rfl⟩,?_⟩
  unfold cB cC
  exact ao.trans ah (ao.cons _ (sl _))
def Cq(X:HP)(hK:oD X)(tb bs jb bd b2 b3:Nat)(q:Int)(mb:Nat)(tv:Value)(s:SJ)(x:Bl)(Ys:List HP)(cL:s.1.A.aw.length≤900000000)(eQ:s.1.A.writes.length≤900000000) :
  aE Tryz.prog 42 [ptr b2,ptr b3] [iD tb bs jb tv false,cB bs bd jb q mb (ae b2 (cl [ptr tb] 31)::ae b3 (cl (bJ x) 38)::X::Ys) s]
  (fun r H=>∃(e:Nat) (t:SJ),r = .int .i64 (e:Int)∧H=[iD tb bs jb tv false,cB bs bd jb q mb (ae b2 (cl [ptr tb] 31)::ae b3 (cl (bJ x) 38)::X::Ys) t]∧dZ (dQ x) s e t):=by
 have c0:=aE.frame ([rq jb bd cS s.2]++Ys) (Cp X hK tb bs jb bd b2 b3 q mb tv s.1 x cL eQ)
 refine c0.conv ?_ ?_
 ·unfold cB cC
  exact(ao.cons _ (r' _)).trans ah
 ·rintro v H⟨H',⟨e,t,rfl,rfl,hC⟩,rfl⟩
  refine⟨[iD tb bs jb tv false,cB bs bd jb q mb _ (t,s.2)],⟨e,_,rfl,rfl,hC,rfl⟩,?_⟩
  unfold cB cC
  exact ao.trans ah (ao.cons _ (sl _))
def DJ(tb bs jb bd row:Nat)(tv:Value)(q:Int)(mb:Nat)(s:SJ)(Xs:List HP)(g:FuncId)(cap:List Value)(S:SJ→Nat→SJ→Prop)(hc:aE Tryz.prog g cap [iD tb bs jb tv false,cB bs bd jb q mb Xs s] (fun r H=>∃(e:Nat) (t:SJ),r = .int .i64 (e:Int)∧H=[iD tb bs jb tv false,cB bs bd jb q mb Xs t]∧S s e t)) :
  aE Tryz.prog 29 [ptr tb,.slice (some ⟨row,0,none⟩) 1 1] [ae row (cl [.func (.func g) #[] cap.toArray] 82),iD tb bs jb tv false,cB bs bd jb q mb Xs s]
  (fun r H=>∃(e:Nat) (t:SJ),r = .int .i64 (e:Int)∧H=[ae row (cl [.func (.func g) #[] cap.toArray] 82),iD tb bs jb tv (gi e),cB bs bd jb q mb Xs t]∧S s e t):=by
 have h0:=qK (cB bs bd jb q mb Xs) tb bs jb tv (ae row (cl [.func (.func g) #[] cap.toArray] 82)) (.slice (some ⟨row,0,none⟩) 1 1) [.func (.func g) #[] cap.toArray] (Vw.ae rfl) (by simp) [S] rfl (fun i y=>i=0→y=s) (by
  intro i fv S' mX hs
  match i,mX,hs with
  | 0,mX,hs =>
   cases mX
   cases hs
   refine⟨_,_,_,rfl,fun y hy=>?_⟩
   have:=hy rfl
   subst this
   refine aE.post hc ?_
   rintro v H⟨e,t,rfl,rfl,hS⟩
   exact⟨e,t,rfl,rfl,hS,fun _ h=>absurd h ag⟩
  | n+1,mX,hs=>cases hs) s (fun _=>rfl)
 refine aE.post h0 ?_
 rintro v H⟨e,t,rfl,rfl,hR⟩
 refine⟨e,t,rfl,rfl,?_⟩
 obtain⟨e1,t1,hS,c1⟩:=hR
 rcases c1 with⟨_,rfl,rfl⟩|⟨rfl,rfl,rfl⟩
 ·exact hS
 ·exact hS
end Go.Proofs.YtdigdgohdpeebaaGreatDoor
