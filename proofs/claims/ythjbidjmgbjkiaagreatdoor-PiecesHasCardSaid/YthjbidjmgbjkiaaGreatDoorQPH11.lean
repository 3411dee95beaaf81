/- Texts of one claim, joined: Vc, Vd, Pd, Ve, Vr, Pe, Pf, Pg, Ph, Pi, Pj, Pk, Pl, Pm, Pn, Po, Pq, Pr, Ps, Pu, Pv, Pw, Px. -/
import Derived.Test.YthjbidjmgbjkiaaGreatDoorQPH3
import Derived.Test.YthjbidjmgbjkiaaGreatDoorQPH5
import Derived.Test.YthjbidjmgbjkiaaGreatDoorQPH6
import Derived.Test.YthjbidjmgbjkiaaGreatDoorQPH7
import Derived.Test.YthjbidjmgbjkiaaGreatDoorQPH8
import Derived.Test.YthjbidjmgbjkiaaGreatDoorQPH9
import Derived.Test.YthjbidjmgbjkiaaGreatDoorQPH10
set_option linter.unusedSimpArgs false
set_option linter.unusedVariables false
namespace Go.Proofs.YthjbidjmgbjkiaaGreatDoor
open Go Go.SL
theorem x8{A B:Ab}(h:HA A)(h':HA B){k:ByteArray}{c:List UInt8}(hk:vw A k=none)(hv:vw B=dk (vw A) k (some c)):gV B=gV A+jv k c:=by
 have hs:=h'.mo
 rw[hv]at hs
 have:=mY jv h.mo hs hk
 rw[eU h,eU h',hv]
 omega
theorem GL{A B:Ab}(h:HA A)(h':HA B){k:ByteArray}{c:List UInt8}(hk:vw A k=some c)(hv:vw B=dk (vw A) k none):gV A=gV B+jv k c:=by
 have hs:=h'.mo
 rw[hv]at hs
 have:=pg jv h.mo hs hk
 rw[eU h,eU h',hv]
 omega
theorem xZ{A B:Ab}(h:HA A)(h':HA B){k:ByteArray}{c c':List UInt8}(hk:vw A k=some c)(hv:vw B=dk (vw A) k (some c')):gV B+jv k c=gV A+jv k c':=by
 have hs:=h'.mo
 rw[hv]at hs
 have:=MX jv h.mo hs hk
 rw[eU h,eU h',hv]
 omega
theorem DC{A B:Ab}(h:HA A)(h':HA B)(hv:vw B=vw A):gV B=gV A:=by
 rw[eU h,eU h',hv]
 have hs:=h'.mo
 rw[hv]at hs
 exact u' jv hs h.mo
theorem DD{A B:Ab}(h:HA A)(h':HA B){o n:ByteArray}{c:List UInt8}(ct:n≠o)(ho:vw A o=some c)(hn:vw A n=none)(hv:vw B=dk (dk (vw A) o none) n (some c)):gV B+jv o c=gV A+jv n c∧B.names.length=A.names.length:=by
 have hs:=h'.mo
 rw[hv]at hs
 have h1:=h.mo.del o
 have h2:=pg jv h.mo h1 ho
 have h3:=mY jv h1 hs ((bX _ _ ct).trans hn)
 have h4:=pg (fun _ _=>1) h.mo h1 ho
 have h5:=mY (fun _ _=>1) h1 hs ((bX _ _ ct).trans hn)
 rw[eU h,eU h',hv,pA A,pA B,hv]
 omega
theorem mA{s:ek}{x:Bl}(hb:s.brk=false):jO s x=if di s.aT x.d=some x then 0 else 4:=by
 unfold jO yw
 rw[if_neg (by rw[hb];simp)]
 by_cases h:di s.aT x.d=some x <;> simp[h]
theorem nG(x:Bl):fS x=oI x.d:=rfl
theorem LA(x:Bl):fB x=EI x.d:=rfl
theorem fD.begin{q:Int}{s t:ek}{x:Bl}{e:Nat}(h:fD q s)(hl:s.A.names.length<200)(hR:dE q x s e t) :
  fD q t∧t.A.names.length≤s.A.names.length+1∧t.aT.length≤s.aT.length+1∧((e=0∧cw t=cw s+x.size∧t.aT=s.aT++[(x.d,x)]∧vw t.A=dk (vw s.A) (fS x) (some []))∨(e≠0∧t=s)):=by
 have O8:=hR
 unfold dE at hR
 rw[if_neg (by rw[h.brk];simp)]at hR
 by_cases hr:bz x=true
 case neg =>
  rw[if_pos (by simpa using hr)]at hR
  obtain⟨rfl,rfl⟩:=hR
  exact⟨h,ai,ai,.inr ⟨ai,rfl⟩⟩
 rw[if_neg (by rw[hr];simp)]at hR
 by_cases nM:(di s.aT x.d).isSome=true∨pW s.A (fB x)=true
 ·rw[if_pos nM]at hR
  obtain⟨rfl,rfl⟩:=hR
  exact⟨h,ai,ai,.inr ⟨ai,rfl⟩⟩
 rw[if_neg nM]at hR
 have qD:di s.aT x.d=none:=by
  cases hx:di s.aT x.d with
  | none=>rfl
  | some y=>exact absurd (.inl (by rw[hx];rfl)) nM
 have TH:vw s.A (EI x.d)=none:=by
  cases hx:vw s.A (EI x.d)with
  | none=>rfl
  | some y=>exact absurd (.inr (by rw[z7,LA,hx];rfl)) nM
 by_cases hq:q<cw s+x.size
 ·rw[if_pos hq]at hR
  obtain⟨rfl,rfl⟩:=hR
  exact⟨h,ai,ai,.inr ⟨ai,rfl⟩⟩
 have XI:vw s.A (oI x.d)=none:=by
  cases hx:vw s.A (oI x.d)with
  | none=>rfl
  | some c =>
   obtain⟨y,hy,_⟩:=h.isS hx
   rw[qD]at hy;cases hy
 obtain⟨rfl,a1,b1,c1,v1,n1,r1⟩:=Df h.ha h.brk hr qD TH ai XI hl O8
 have hv:vw t.A=dk (vw s.A) (oI x.d) (some []):=funext v1
 have rD:cw t=cw s+x.size:=by
  have:=x8 h.ha a1 XI hv
  rw[vJ]at this
  unfold cw
  rw[this,c1]
  simp only[List.map_append,List.sum_append,List.map_cons,List.map_nil,List.sum_cons,List.sum_nil]
  omega
 have F0:=hr
 simp only[bz,decide_eq_true_eq]at F0
 refine⟨⟨a1,b1,?_,?_,?_,?_,by rw[rD];omega,r1.trans h.room⟩,by rw[n1];omega,by rw[c1];simp,.inl ⟨rfl,rD,c1,hv⟩⟩
 ·rw[c1,List.map_append,List.nodup_append]
  refine⟨h.keys,by simp,fun a ha b hb=>?_⟩
  simp only[List.map_cons,List.map_nil,List.mem_singleton]at hb
  subst hb
  exact fun e=>Od qD (e ▸ ha)
 ·intro z hz
  rw[c1]at hz
  rcases List.mem_append.1 hz with hz|hz
  ·exact h.aT z hz
  ·rw[List.mem_singleton.1 hz];exact⟨rfl,hr⟩
 ·intro d y hy
  rw[c1,rX _ _ _ qD]at hy
  rw[hv,bX _ _ (fun e=>ei _ _ e.symm)]
  by_cases hd:d=x.d
  ·rw[hd,cY];exact⟨rfl,TH⟩
  ·rw[if_neg hd]at hy
   rw[bX _ _ (fun e=>hd (pL e))]
   exact h.has d y hy
 ·intro nm c hc
  rw[hv]at hc
  by_cases hn:nm=oI x.d
  ·subst hn
   rw[cY]at hc
   injection hc with hc
   subst hc
   exact .inl ⟨x.d,x,rfl,by rw[c1,rX _ _ _ qD,if_pos rfl],by simp;omega⟩
  ·rw[bX _ _ hn]at hc
   rcases h.kd nm c hc with⟨d,y,rfl,hb,hl⟩|hB|⟨d,l,rfl,h1,h2,h3,h4⟩
   ·exact .inl ⟨d,y,rfl,by rw[c1,rX _ _ _ qD,if_neg (fun e=>hn (by rw[e]))];exact hb,hl⟩
   ·exact .inr (.inl hB)
   ·exact .inr (.inr ⟨d,l,rfl,h1,h2,h3,fun y hy=>by rw[hv,bX _ _ (fun e=>ei _ _ e.symm)];exact h4 y hy⟩)
theorem fD.put{q:Int}{s t:ek}{x:Bl}{i:Int}{b:List UInt8}{e:Nat}(h:fD q s)(hq:q≤2097152)(hl:s.A.names.length<200)(hR:lJ x i b s e t) :
  fD q t∧t.A.names.length=s.A.names.length∧t.aT=s.aT∧cw t=cw s∧(∀n,n≠fS x→vw t.A n=vw s.A n):=by
 have O8:=hR
 unfold lJ at hR
 rw[mA h.brk]at hR
 by_cases ho:di s.aT x.d=some x
 case neg =>
  rw[if_neg ho,if_pos ai]at hR
  obtain⟨rfl,rfl⟩:=hR
  exact⟨h,rfl,rfl,rfl,fun _ _=>rfl⟩
 rw[if_pos ho,if_neg ai]at hR
 cases gw:dN x i with
 | none =>
  rw[gw]at hR
  obtain⟨rfl,rfl⟩:=hR
  exact⟨h,rfl,rfl,rfl,fun _ _=>rfl⟩
 | some w =>
  obtain⟨at_,n⟩:=w
  rw[gw]at hR
  simp only at hR
  by_cases tq:(b.length:Int)≠n
  ·rw[if_pos tq]at hR
   obtain⟨rfl,rfl⟩:=hR
   exact⟨h,rfl,rfl,rfl,fun _ _=>rfl⟩
  have aax:(b.length:Int)=n:=by omega
  have Z5:=gw
  unfold dN at gw
  split at gw
  ·cases gw
  rename_i cO
  obtain⟨hr,h0,h1⟩:=re (x:=x) (i:=i) ai ai
  injection gw with gw
  injection gw with ha hn
  have F0:=hr
  simp only[bz,decide_eq_true_eq]at F0
  obtain⟨c,hc⟩:=Option.isSome_iff_exists.1 (h.has _ _ ho).1
  obtain⟨y,hy,lz⟩:=h.isS hc
  rw[ho]at hy
  injection hy with hy
  subst hy
  have rD:=h.used
  have hqs:=h.tR
  have F1:=h.room
  obtain⟨rfl,a1,b1,c1,v1,n1,r1⟩:=E4 h.ha h.brk ho Z5 aax hc ai ai O8
  have hv:vw t.A=dk (vw s.A) (oI x.d) (some (dJ c at_.toNat b)):=funext v1
  have ZT:=xZ h.ha a1 hc hv
  rw[vJ,vJ]at ZT
  have Uj:cw t=cw s:=by unfold cw;rw[c1];omega
  refine⟨⟨a1,b1,by rw[c1];exact h.keys,by rw[c1];exact h.aT,?_,?_,by rw[Uj];exact h.tR,r1.trans h.room⟩,by rw[n1],c1,Uj,fun n hn=>by rw[hv];exact bX _ _ hn⟩
  ·intro d y hy
   rw[c1]at hy
   rw[hv,bX _ _ (fun e=>ei _ _ e.symm)]
   refine⟨?_,(h.has d y hy).2⟩
   unfold dk
   split
   ·rfl
   ·exact(h.has d y hy).1
  ·intro nm c' kH
   rw[hv]at kH
   by_cases hn:nm=oI x.d
   ·subst hn
    rw[cY]at kH
    injection kH with kH
    subst kH
    exact .inl ⟨x.d,x,rfl,by rw[c1];exact ho,by rw[fb];omega⟩
   ·rw[bX _ _ hn]at kH
    rcases h.kd nm c' kH with⟨d,y,rfl,hb,hl⟩|hB|⟨d,l,rfl,h1,h2,h3,h4⟩
    ·exact .inl ⟨d,y,rfl,by rw[c1];exact hb,hl⟩
    ·exact .inr (.inl hB)
    ·exact .inr (.inr ⟨d,l,rfl,h1,h2,h3,fun y hy=>by rw[hv,bX _ _ (fun e=>ei _ _ e.symm)];exact h4 y hy⟩)
theorem fD.gone{q:Int}{s t:ek}{x:Bl}(h:fD q s)(ho:di s.aT x.d=some x)(a1:HA t.A)(b1:t.brk=false)(c1:t.aT=gI s.aT x.d)(hv:vw t.A=dk (vw s.A) (oI x.d) none)(r1:t.A.room=s.A.room) :
  fD q t∧t.A.names.length≤s.A.names.length∧t.aT.length≤s.aT.length∧cw t≤cw s:=by
 obtain⟨c,hc⟩:=Option.isSome_iff_exists.1 (h.has _ _ ho).1
 have ZT:=GL h.ha a1 hc hv
 rw[vJ]at ZT
 have hud:=h.ha.JA a1 hc hv
 have hb:=yY h.keys ho
 obtain⟨_,_,AK,_⟩:=h.aa5 ho
 have Uj:cw t≤cw s:=by unfold cw;rw[c1];omega
 refine⟨⟨a1,b1,by rw[c1];exact(List.filter_sublist.map _).nodup h.keys,fun z hz=>h.aT z (Cw (c1 ▸ hz)),?_,?_,by have:=h.tR;omega,r1.trans h.room⟩,ai,by rw[c1];exact List.length_filter_le _ _,Uj⟩
 ·intro d y hy
  rw[c1,kL]at hy
  split at hy
  ·cases hy
  rename_i hd
  rw[hv,bX _ _ (fun e=>ei _ _ e.symm),bX _ _ (fun e=>hd (pL e))]
  exact h.has d y hy
 ·intro nm c' kH
  rw[hv]at kH
  by_cases hn:nm=oI x.d
  ·subst hn;rw[cY]at kH;cases kH
  ·rw[bX _ _ hn]at kH
   rcases h.kd nm c' kH with⟨d,y,rfl,hb,hl⟩|hB|⟨d,l,rfl,h1,h2,h3,h4⟩
   ·exact .inl ⟨d,y,rfl,by rw[c1,kL,if_neg (fun e=>hn (by rw[e]))];exact hb,hl⟩
   ·exact .inr (.inl hB)
   ·exact .inr (.inr ⟨d,l,rfl,h1,h2,h3,fun y hy=>by rw[hv,bX _ _ (fun e=>ei _ _ e.symm)];exact h4 y hy⟩)
theorem fD.abort{q:Int}{s t:ek}{x:Bl}{e:Nat}(h:fD q s)(hR:eL x s e t):fD q t∧t.A.names.length≤s.A.names.length∧t.aT.length≤s.aT.length∧cw t≤cw s:=by
 have O8:=hR
 unfold eL at hR
 rw[mA h.brk]at hR
 by_cases ho:di s.aT x.d=some x
 case neg =>
  rw[if_neg ho,if_pos ai]at hR
  obtain⟨rfl,rfl⟩:=hR
  exact⟨h,ai,ai,ai⟩
 obtain⟨c,hc⟩:=Option.isSome_iff_exists.1 (h.has _ _ ho).1
 obtain⟨rfl,a1,b1,c1,v1,n1,r1⟩:=xo h.ha h.brk ho hc O8
 exact h.gone ho a1 b1 c1 (funext v1) r1
theorem Dz{x:Bl}{b:List UInt8}(h:gk x b=true):x.size=b.length∧dA b=x.d:=by
 unfold gk fm cS at h
 simp only[decide_eq_true_eq]at h
 split at h
 ·simp only[Option.map_some,Option.some.injEq]at h
  rw[← h]
  exact⟨rfl,rfl⟩
 ·cases h
theorem fD.install{q:Int}{s t:ek}{x:Bl}{e:Nat}(h:fD q s)(hR:dr x s e t):fD q t∧t.A.names.length≤s.A.names.length∧t.aT.length≤s.aT.length∧cw t≤cw s:=by
 have O8:=hR
 unfold dr at hR
 rw[mA h.brk]at hR
 by_cases ho:di s.aT x.d=some x
 case neg =>
  rw[if_neg ho,if_pos ai]at hR
  obtain⟨rfl,rfl⟩:=hR
  exact⟨h,ai,ai,ai⟩
 obtain⟨c,hc⟩:=Option.isSome_iff_exists.1 (h.has _ _ ho).1
 cases hw:gk x c with
 | false =>
  obtain⟨rfl,a1,b1,c1,v1,n1,r1⟩:=uq h.ha h.brk ho hc hw O8
  exact h.gone ho a1 b1 c1 (funext v1) r1
 | true =>
  have rI:=(h.has _ _ ho).2
  obtain⟨rfl,a1,b1,c1,v1,r1,_⟩:=xg h.ha h.brk ho hc rI hw O8
  have hv:vw t.A=dk (dk (vw s.A) (oI x.d) none) (EI x.d) (some c):=funext v1
  obtain⟨g8,rF⟩:=Dz hw
  obtain⟨hu,hn⟩:=DD h.ha a1 (fun e=>ei _ _ e.symm) hc rI hv
  rw[vJ,KE]at hu
  have hb:=yY h.keys ho
  have Uj:cw t≤cw s:=by unfold cw;rw[c1];omega
  refine⟨⟨a1,b1,by rw[c1];exact(List.filter_sublist.map _).nodup h.keys,fun z hz=>h.aT z (Cw (c1 ▸ hz)),?_,?_,by have:=h.tR;omega,r1.trans h.room⟩,ai,by rw[c1];exact List.length_filter_le _ _,Uj⟩
  ·intro d y hy
   rw[c1,kL]at hy
   split at hy
   ·cases hy
   rename_i hd
   rw[hv,bX _ _ (ei _ _),bX _ _ (fun e=>hd (pL e)),bX _ _ (fun e=>hd (N5 e)),bX _ _ (fun e=>ei _ _ e.symm)]
   exact h.has d y hy
  ·intro nm c' kH
   rw[hv]at kH
   by_cases hn:nm=EI x.d
   ·subst hn
    rw[cY]at kH
    injection kH with kH
    subst kH
    exact .inr (.inl (.inl ⟨x.d,rfl,rF⟩))
   rw[bX _ _ hn]at kH
   by_cases S5:nm=oI x.d
   ·subst S5;rw[cY]at kH;cases kH
   ·rw[bX _ _ S5]at kH
    rcases h.kd nm c' kH with⟨d,y,rfl,hb,hl⟩|hB|⟨d,l,rfl,h1,h2,h3,h4⟩
    ·exact .inl ⟨d,y,rfl,by rw[c1,kL,if_neg (fun e=>S5 (by rw[e]))];exact hb,hl⟩
    ·exact .inr (.inl hB)
    ·refine .inr (.inr ⟨d,l,rfl,h1,h2,h3,fun y hy=>?_⟩)
     rw[hv]
     unfold dk
     split
     ·rfl
     ·rw[if_neg (fun e=>ei _ _ e.symm)];exact h4 y hy
theorem jw:isName dX=true:=by decide +kernel
theorem ud:isName (bN dX)=true:=by decide +kernel
theorem zJ:bN dX≠dX:=by decide +kernel
theorem Lq(k:List UInt8):ij k dX=none:=by
 cases h:ij k dX with
 | none=>rfl
 | some d=>exact absurd (mH.1 h).symm (dz k d)
theorem zN(c:List UInt8):jv dX c=0:=by unfold jv;rw[Lq];rfl
theorem fD.other{q:Int}{s:ek}{B:Ab}{c:List UInt8}(h:fD q s)(hB:HA B)(hv:vw B=dk (vw s.A) dX (some c))(hc:c.length≤100000)(hr:B.room=s.A.room):fD q ⟨B,s.aT,s.brk⟩∧cw ⟨B,s.aT,s.brk⟩=cw s:=by
 have hu:gV B=gV s.A:=by
  cases hx:vw s.A dX with
  | none =>
   have:=x8 h.ha hB hx hv
   rw[zN]at this
   omega
  | some c0 =>
   have:=xZ h.ha hB hx hv
   rw[zN,zN]at this
   omega
 have rD:cw ⟨B,s.aT,s.brk⟩=cw s:=by unfold cw;rw[hu]
 have ct:∀k d,vw B (cL k d)=vw s.A (cL k d):=fun k d=>by rw[hv,bX _ _ (dz k d)]
 refine⟨⟨hB,h.brk,h.keys,h.aT,fun d y hy=>?_,fun nm c' kH=>?_,by rw[rD];exact h.tR,hr.trans h.room⟩,rD⟩
 ·obtain⟨h1,h2⟩:=h.has d y hy
  exact⟨by show(vw B (cL kS d)).isSome=true;rw[ct];exact h1,by show vw B (cL kB d)=none;rw[ct];exact h2⟩
 ·have oD:vw B nm=some c':=kH
  rw[hv]at oD
  by_cases hn:nm=dX
  ·subst hn
   rw[cY]at oD
   injection oD with oD
   subst oD
   exact .inr (.inl (.inr ⟨rfl,hc⟩))
  ·rw[bX _ _ hn]at oD
   rcases h.kd nm c' oD with hS|hB'|⟨d,l,h1,h2,h3,h4,h5⟩
   ·exact .inl hS
   ·exact .inr (.inl hB')
   ·exact .inr (.inr ⟨d,l,h1,h2,h3,h4,fun y hy=>by show(vw B (cL kB y.d)).isSome=true;rw[ct];exact h5 y hy⟩)
theorem fD.sync{q:Int}{s t:ek}{x:Bl}{e:Nat}(h:fD q s)(hR:kh x s e t):fD q t∧vw t.A=vw s.A∧t.aT=s.aT∧cw t=cw s∧(di s.aT x.d=some x→e=0):=by
 unfold kh at hR
 rw[mA h.brk]at hR
 by_cases ho:di s.aT x.d=some x
 case neg =>
  rw[if_neg ho,if_pos ai]at hR
  obtain⟨rfl,rfl⟩:=hR
  exact⟨h,rfl,rfl,rfl,fun h'=>absurd h' ho⟩
 rw[if_pos ho,if_neg ai]at hR
 obtain⟨c,hc⟩:=Option.isSome_iff_exists.1 (h.has _ _ ho).1
 obtain⟨B,⟨e1,A1,h1,c1⟩,rfl⟩:=hR
 unfold kR at h1
 rw[show isName (fS x)=true from jx x]at h1
 obtain⟨rfl,g1,g2,g3⟩:=h.ha.yf hc h1
 rcases c1 with⟨ct,_⟩|⟨_,rfl,rfl⟩
 ·exact absurd rfl ct
 have hu:gV B=gV s.A:=DC h.ha g1 g2
 have rD:cw ⟨B,s.aT,s.brk || decide ((0:Nat)≠0)⟩=cw s:=by unfold cw;rw[hu]
 have hb:(s.brk || decide ((0:Nat)≠0))=false:=by rw[h.brk];rfl
 refine⟨⟨g1,hb,h.keys,h.aT,fun d y hy=>by show(vw B (oI d)).isSome=true∧vw B (EI d)=none;rw[g2];exact h.has d y hy,fun nm c' kH=>?_,by rw[rD];exact h.tR,g3.trans h.room⟩,g2,rfl,rD,fun _=>rfl⟩
 have oD:vw B nm=some c':=kH
 rw[g2]at oD
 rcases h.kd nm c' oD with hS|hB'|⟨d,l,h1,h2,h3,h4,h5⟩
 ·exact .inl hS
 ·exact .inr (.inl hB')
 ·exact .inr (.inr ⟨d,l,h1,h2,h3,h4,fun y hy=>by show(vw B (EI y.d)).isSome=true;rw[g2];exact h5 y hy⟩)
abbrev SJ:=ek × JN
def cX(R:ek→Nat→ek→Prop)(x:SJ)(e:Nat)(y:SJ):Prop:=R x.1 e y.1∧y.2=x.2
def vo(b:List UInt8)(x:SJ)(e:Nat)(y:SJ):Prop:=e=(cB dX x.1.A x.2 b).1∧y=(⟨(cB dX x.1.A x.2 b).2.1,x.1.aT,x.1.brk⟩,(cB dX x.1.A x.2 b).2.2)
def A5(x:SJ)(e:Nat)(y:SJ):Prop:=∃A' x',jK dX x.1.A x.2 e A' x'∧y=(⟨A',x.1.aT,x.1.brk⟩,x')
def iE(b:List UInt8):List (SJ→Nat→SJ→Prop):=[vo b,A5]
structure uD(m:Nat)(x:SJ):Prop where
 fl:∃C,vw x.1.A dX=some C∧C.length≤32+1000*m
 jn:∃(n c:Int) (s:Nat),x.2=⟨n,s,c,false⟩∧0≤n∧n≤m+1∧s≤1000*m
theorem uD.mono{m k:Nat}{x:SJ}(h:uD m x)(hk:m≤k):uD k x:=by
 obtain⟨C,h1,h2⟩:=h.fl
 obtain⟨n,c,s,h3,h4,h5,h6⟩:=h.jn
 exact⟨⟨C,h1,ai⟩,⟨n,c,s,h3,h4,ai,ai⟩⟩
theorem qx{q:Int}{m:Nat}{x y:SJ}{b:List UInt8}{e:Nat}(hq:q≤2097152)(h:fD q x.1)(hj:uD m x)(hm:m<90)(hn:x.1.A.names.length≤200)(hb:b.length≤900)(hR:gy (iE b) x e y) :
  e=0∧fD q y.1∧uD (m+1) y∧y.1.aT=x.1.aT∧cw y.1=cw x.1∧(∀nm,nm≠dX→vw y.1.A nm=vw x.1.A nm):=by
 obtain⟨⟨A,aT,brk⟩,jn⟩:=x
 obtain⟨C,hC,hCl⟩:=hj.fl
 obtain⟨n,c,s,Jm,MJ,Uu,hs⟩:=hj.jn
 simp only at hC hCl Jm hn h
 subst Jm
 have rD:=h.used
 have hqs:=h.tR
 have F1:=h.room
 simp only at rD hqs F1
 have nL:=oK b ai
 obtain⟨e1,x1,⟨AN,ug⟩,c1⟩:=hR
 have hA:HA A:=h.ha
 have abi:A.room=16777216:=h.room
 obtain⟨a0,a1,a2,a3,a4⟩:=rY (A:=A) (n:=n) (c:=c) (s:=s) (b:=b) hA jw hC ai ai ai
 simp only at AN ug
 rw[a0]at AN
 subst AN
 rcases c1 with⟨ct,_⟩|⟨_,e2,x2,⟨A',x',oD,uN⟩,c2⟩
 ·exact absurd rfl ct
 obtain⟨k1,k2⟩:=h.other a1 a2 (by rw[fb];omega) a3
 rw[ug]at oD uN
 simp only at oD uN
 rw[a4]at oD
 have SM:((cB dX A ⟨n,s,c,false⟩ b).2.1.used:Int)≤cw ⟨A,aT,brk⟩+1280*(cB dX A ⟨n,s,c,false⟩ b).2.1.names.length+100000:=by have:=k1.used;rw[k2]at this;exact this
 have F5:(cB dX A ⟨n,s,c,false⟩ b).2.1.names.length=A.names.length:=hA.jP a1 (fun m=>by
  rw[a2];unfold dk
  split
  ·rename_i hm;rw[hm,hC];rfl
  ·rfl)
 rw[F5]at SM
 obtain⟨g0,g1,⟨C',g2,g3⟩,g4,n',c',g5,g6,g7⟩:=rV a1 jw (by rw[a2,cY]) MJ ai (by rw[a3];omega) oD
 subst g0
 rcases c2 with⟨ct,_⟩|⟨_,he,hy⟩
 ·exact absurd rfl ct
 rw[fb]at g3
 obtain⟨m1,m2⟩:=k1.other g1 g2 ai g4
 rw[he,hy,uN]
 refine⟨rfl,m1,⟨⟨C',by show vw A' dX=_;rw[g2,cY],ai⟩,⟨n',c',s+(cy b).length,g5,ai,ai,ai⟩⟩,rfl,m2.trans k2,fun nm qB=>?_⟩
 show vw A' nm=vw A nm
 rw[g2,bX _ _ qB,a2,bX _ _ qB]
theorem uI{x:Bl}{k a n:Int}(h:dN x k=some (a,n)):0≤a∧1≤n∧a+n≤x.size∧0≤k∧k<cj x∧a=k*x.piece∧n=min x.piece (x.size-a)∧bz x=true:=by
 unfold dN at h
 split at h
 ·cases h
 rename_i cO
 obtain⟨hr,h0,h1⟩:=re (x:=x) (i:=k) ai ai
 injection h with h
 injection h with ha hn
 have F0:=hr
 simp only[bz,decide_eq_true_eq]at F0
 exact⟨ai,ai,ai,ai,ai,ha.symm,by rw[← hn,← ha],hr⟩
theorem qG{x:Bl}{s t:ek}{e:Nat}(h:kh x s e t):gu 1 s t:=by
 unfold kh at h
 split at h
 ·exact h.2 ▸ gu.refl _ _
 ·exact mJ (fun sp gw A e B hh=>by
   simp only[List.mem_cons,List.not_mem_nil,or_false]at gw
   subst gw
   exact lS hh) h
def SJg(n:Nat)(x y:SJ):Prop:=y.1.A.aH.length≤x.1.A.aH.length+n∧y.1.A.writes.length≤x.1.A.writes.length+n
theorem rZ(A:Ab)(nm:ByteArray)(x:JN)(b:List UInt8):(cB nm A x b).2.1.aH.length≤A.aH.length+1∧(cB nm A x b).2.1.writes.length≤A.writes.length+1:=by
 have hw:=jz A (fL nm (32+x.s) (cy b)) nm (32+x.s).toNat (cy b)
 obtain⟨h1,h2⟩:=hw
 unfold cB
 split
 ·exact⟨by simp only;omega,by simp only;omega⟩
 split
 ·exact⟨by simp only;omega,by simp only;omega⟩
 split
 ·exact⟨by simp only;omega,by simp only;omega⟩
 split
 ·exact⟨h1,h2⟩
 ·exact⟨h1,h2⟩
theorem AG{A A':Ab}{nm:ByteArray}{x x':JN}{e:Nat}(h:jK nm A x e A' x'):A'.aH.length≤A.aH.length+4∧A'.writes.length≤A.writes.length+4:=by
 unfold jK at h
 split at h
 ·obtain⟨_,rfl,_⟩:=h;omega
 split at h
 ·obtain⟨_,rfl,_⟩:=h;omega
 split at h
 ·obtain⟨_,rfl,_⟩:=h;omega
 obtain⟨y,⟨e1,x1,⟨⟨AN,ug⟩,_⟩,c1⟩,rfl,_⟩:=h
 have g1:=jA A (isName nm) nm
 rw[← ug]at g1
 rcases c1 with⟨_,_,rfl⟩|⟨_,e2,x2,⟨⟨Lx,uN⟩,_⟩,c2⟩
 ·obtain⟨a,b⟩:=g1;omega
 have g2:=jz x1.1 (fL nm (((x.n.toNat+1)%2*16:Nat):Int) (cJ (x.n.toNat+1) x.s.toNat)) nm ((x.n.toNat+1)%2*16) (cJ (x.n.toNat+1) x.s.toNat)
 rw[← uN]at g2
 rcases c2 with⟨_,_,rfl⟩|⟨_,e3,x3,⟨⟨NV,Gb⟩,_⟩,c3⟩
 ·obtain⟨a,b⟩:=g1;obtain⟨c,d⟩:=g2;omega
 have g3:=jA x2.1 (isName nm) nm
 rw[← Gb]at g3
 obtain⟨a,b⟩:=g1
 obtain⟨c,d⟩:=g2
 obtain⟨e',f'⟩:=g3
 rcases c3 with⟨_,_,rfl⟩|⟨_,e4,x4,⟨NU,MS⟩,c4⟩
 ·omega
 have h41:x4.1=x3.1:=by rw[MS]
 rcases c4 with⟨_,_,rfl⟩|⟨_,_,rfl⟩
 ·rw[h41];omega
 ·rw[h41];omega
theorem pw{b:List UInt8}{x y:SJ}{e:Nat}(h:gy (iE b) x e y):SJg 5 x y:=by
 obtain⟨e1,x1,⟨AN,ug⟩,c1⟩:=h
 have g1:=rZ x.1.A dX x.2 b
 have NX:x1.1.A=(cB dX x.1.A x.2 b).2.1:=by rw[ug]
 rw[← NX]at g1
 obtain⟨a,b⟩:=g1
 rcases c1 with⟨_,_,rfl⟩|⟨_,e2,x2,⟨A',x',hc,h2⟩,c2⟩
 ·exact⟨ai,ai⟩
 have g2:=AG hc
 have h21:x2.1.A=A':=by rw[h2]
 rw[← h21]at g2
 obtain⟨c,d⟩:=g2
 rcases c2 with⟨_,_,rfl⟩|⟨_,_,rfl⟩ <;> exact⟨ai,ai⟩
theorem lg(d:Dg):oI d≠dX:=dz kS d
theorem fD.over{q:Int}{s t:ek}{x:Bl}{e:Nat}(h:fD q s)(ho:di s.aT x.d=some x)(hR:dr x s e t∨eL x s e t) :
  (e=0∨e=8)∧(eL x s e t→e=0)∧fD q t∧t.aT=gI s.aT x.d∧t.A.names.length≤s.A.names.length∧(∀d,d≠x.d→vw t.A (oI d)=vw s.A (oI d))∧vw t.A dX=vw s.A dX∧gu 3 s t:=by
 obtain⟨c,hc⟩:=Option.isSome_iff_exists.1 (h.has _ _ ho).1
 have hS:∀d,d≠x.d→oI d≠oI x.d:=fun d hd e=>hd (pL e)
 have Lu:∀ {e:Nat} {t:ek},eL x s e t→e=0∧t.aT=gI s.aT x.d∧(∀d,d≠x.d→vw t.A (oI d)=vw s.A (oI d))∧vw t.A dX=vw s.A dX:=fun {e t} hR=>by
  obtain⟨h0,a1,b1,c1,v1,n1,r1⟩:=xo h.ha h.brk ho hc hR
  exact⟨h0,c1,fun d hd=>by rw[v1,nG,if_neg (hS d hd)],by rw[v1,nG,if_neg (fun e=>dz kS x.d e.symm)]⟩
 rcases hR with hR|hR
 ·obtain⟨k1,k2,k3,k4⟩:=h.install hR
  have hg:=qk hR
  cases hw:gk x c with
  | false =>
   obtain⟨rfl,a1,b1,c1,v1,n1,r1⟩:=uq h.ha h.brk ho hc hw hR
   exact⟨.inr rfl,fun ha=>(by have:=(Lu ha).1;omega),k1,c1,k2,fun d hd=>by rw[v1,nG,if_neg (hS d hd)],by rw[v1,nG,if_neg (fun e=>dz kS x.d e.symm)],hg⟩
  | true =>
   obtain⟨rfl,a1,b1,c1,v1,r1,_⟩:=xg h.ha h.brk ho hc (h.has _ _ ho).2 hw hR
   exact⟨.inl rfl,fun _=>rfl,k1,c1,k2,fun d hd=>by rw[v1,LA,if_neg (ei _ _),nG,if_neg (hS d hd)],by rw[v1,LA,if_neg (fun e=>dz kB x.d e.symm),nG,if_neg (fun e=>dz kS x.d e.symm)],hg⟩
 ·obtain⟨k1,k2,k3,k4⟩:=h.abort hR
  obtain⟨h0,h1,h2,h3⟩:=Lu hR
  exact⟨.inl h0,fun _=>h0,k1,h1,k2,h2,h3,(o8 hR).mono ai⟩
structure pZ(q:Int)(m:Nat)(x:SJ)(ts:List Tk):Prop where
 si:fD q x.1
 nm:x.1.A.names.length≤1+m
 bl:x.1.aT.length≤m
 ji:uD m x
 tl:ts.length≤m
 tk:∀y∈ts,di x.1.aT y.x.d=some y.x∧(y.n:Int)=cj y.x∧y.n≤y.ws.length*64
 nd:(ts.map fun y=>y.x.d).Nodup
 UF:∀y∈ts,∀i:Int,fZ y.ws y.n i=true→∃(c:List UInt8) (a k:Int),vw x.1.A (oI y.x.d)=some c∧dN y.x i=some (a,k)∧a+k≤c.length
 kE:x.1.A.aH.length≤100+100*m
 lK:x.1.A.writes.length≤100+100*m
theorem pZ.mono{q:Int}{m:Nat}{x:SJ}{ts:List Tk}(h:pZ q m x ts):pZ q (m+1) x ts :=
 ⟨h.si,by have:=h.nm;omega,by have:=h.bl;omega,h.ji.mono ai,by have:=h.tl;omega,h.tk,h.nd,h.UF,by have:=h.kE;omega,by have:=h.lK;omega⟩
theorem uD.Zj{m:Nat}{x:SJ}{t:ek}(h:uD m x)(hv:vw t.A dX=vw x.1.A dX):uD m (t,x.2):=by
 obtain⟨C,h1,h2⟩:=h.fl
 exact⟨⟨C,by show vw t.A dX=_;rw[hv];exact h1,h2⟩,h.jn⟩
theorem Di{q:Int}{x:Bl}{s t:ek}{e:Nat}(h:fD q s)(hl:s.A.names.length<200)(hR:dE q x s e t):e=0∨e=1∨e=5∨e=11:=by
 obtain⟨_,_,_,h4⟩:=h.begin hl hR
 rcases h4 with⟨h0,_⟩|⟨ct,En⟩
 ·exact .inl h0
 unfold dE at hR
 rw[if_neg (by rw[h.brk];simp)]at hR
 split at hR
 ·exact .inr (.inl hR.1)
 split at hR
 ·exact .inr (.inr (.inl hR.1))
 split at hR
 ·exact .inr (.inr (.inr hR.1))
 split at hR
 ·exact .inl hR.1
 ·obtain⟨e1,s1,⟨B,hB,rfl⟩,hc⟩:=hR
  rcases hc with⟨K5,rfl,ZX⟩|⟨_,h0,_⟩
  ·exfalso
   have:=congrArg ek.brk (ZX.symm.trans En)
   simp only[h.brk,Bool.false_or,decide_eq_false_iff_not]at this
   exact this K5
  ·exact .inl h0
theorem pZ.begin{q:Int}(hq:q≤2097152){m:Nat}{x y:SJ}{ts:List Tk}{b:Bl}{r:List UInt8}{e:Nat}(h:pZ q m x ts)(hm:m<90)(hr:r.length≤900)(rI:∀z∈ts,z.x.d≠b.d)(hR:gy (cX (dE q b)::iE r) x e y) :
  (e=0∨e=1∨e=5∨e=11)∧(e≠0→pZ q (m+1) y ts)∧(e=0→bz b=true∧∀z:Tk,z.x=b→(z.n:Int)=cj b→z.n≤z.ws.length*64→(∀i,fZ z.ws z.n i=false)→pZ q (m+1) y (ts++[z])):=by
 have qB:=h.nm
 obtain⟨e1,x1,⟨h1,ug⟩,c1⟩:=hR
 have aaJ:=Di h.si ai h1
 have hg:=jZ h1
 obtain⟨k1,k2,k3,k4⟩:=h.si.begin ai h1
 rcases c1 with⟨ct,rfl,rfl⟩|⟨h0,gp⟩
 ·refine⟨aaJ,fun _=>?_,fun h0=>absurd h0 ct⟩
  rcases k4 with⟨h0,_⟩|⟨_,En⟩
  ·exact absurd h0 ct
  ·have:y=x:=Prod.ext En ug
   rw[this];exact h.mono
 subst h0
 rcases k4 with⟨_,rD,Tw,dj⟩|⟨ct,_⟩
 case inr=>exact absurd rfl ct
 have KX:bz b=true:=(k1.aT (b.d,b) (by rw[Tw];simp)).2
 have qD:di x.1.aT b.d=none:=by
  have hk:=k1.keys
  rw[Tw,List.map_append,List.nodup_append]at hk
  cases hx:di x.1.aT b.d with
  | none=>rfl
  | some z=>exact absurd rfl (hk.2.2 b.d (List.mem_map.2 ⟨_,CD hx,rfl⟩) b.d (by simp))
 have Ev:uD m x1:=by
  have:=h.ji.Zj (t:=x1.1) (by rw[dj,nG,bX _ _ (fun e=>lg b.d e.symm)])
  rw[← ug]at this
  exact this
 have Du:=pw gp
 obtain⟨rfl,n1,n2,n3,n4,n5⟩:=qx hq k1 Ev hm ai hr gp
 refine⟨.inl rfl,fun h0=>absurd rfl h0,fun _=>⟨KX,fun z Zu Wf Ug hzh=>⟨n1,?_,?_,n2,?_,?_,?_,?_,?_,?_⟩⟩⟩
 ·have:y.1.A.names.length=x1.1.A.names.length:=k1.ha.jP n1.ha (fun nm=>by
   by_cases hp:nm=dX
   ·obtain⟨C,hC,_⟩:=n2.fl
    obtain⟨C',XL,_⟩:=Ev.fl
    rw[hp,hC,XL];rfl
   ·rw[n5 nm hp])
  omega
 ·rw[n3];have:=h.bl;omega
 ·have:=h.tl;simp;omega
 ·intro w hw
  rw[n3,Tw,rX _ _ _ qD]
  rcases List.mem_append.1 hw with hw|hw
  ·obtain⟨t1,t2⟩:=h.tk w hw
   rw[if_neg (rI w hw)]
   exact⟨t1,t2⟩
  ·rw[List.mem_singleton.1 hw,Zu,if_pos rfl]
   exact⟨rfl,Wf,Ug⟩
 ·rw[List.map_append,List.nodup_append]
  refine⟨h.nd,by simp,fun a ha c hc=>?_⟩
  obtain⟨w,hw,rfl⟩:=List.mem_map.1 ha
  simp only[List.map_cons,List.map_nil,List.mem_singleton]at hc
  rw[hc,Zu]
  exact rI w hw
 ·intro w hw i hi
  rcases List.mem_append.1 hw with hw|hw
  ·obtain⟨c,a,k,c1,c2,c3⟩:=h.UF w hw i hi
   refine⟨c,a,k,?_,c2,c3⟩
   rw[n5 _ (lg _),dj,nG,bX _ _ (fun e=>rI w hw (pL e))]
   exact c1
  ·rw[List.mem_singleton.1 hw,hzh]at hi
   cases hi
 ·have:=h.kE;have:=hg.1;have:=Du.1;omega
 ·have:=h.lK;have:=hg.2;have:=Du.2;omega
theorem pZ.put{q:Int}(hq:q≤2097152){m:Nat}{x y:SJ}{ts:List Tk}{k:Nat}{z:Tk}{i:Int}{b r:List UInt8}{a n:Int}{e:Nat}(h:pZ q m x ts)(hm:m<90)(hr:r.length≤900)(hk:ts[k]?=some z)(gw:dN z.x i=some (a,n))(hb:(b.length:Int)=n)(hR:gy (cX (lJ z.x i b)::cX (kh z.x)::iE r) x e y) :
  e=0∧∀pf,pZ q (m+1) y (ts.set k ⟨z.yb,z.sb,z.mb,z.x,z.n,ju z.ws i.toNat true,pf⟩):=by
 have qB:=h.nm
 have hz:=List.mem_of_getElem? hk
 obtain⟨ho,Wf,Ug⟩:=h.tk z hz
 obtain⟨g0,g1,g2,g3,g4,g5,g6,gr⟩:=uI gw
 obtain⟨c,hc⟩:=Option.isSome_iff_exists.1 (h.si.has _ _ ho).1
 have rD:=h.si.used
 have hqs:=h.si.tR
 have F1:=h.si.room
 have F0:=gr
 simp only[bz,decide_eq_true_eq]at F0
 obtain⟨e1,x1,⟨h1,ug⟩,c1⟩:=hR
 have Xh:=mQ h1
 obtain⟨k1,k2,k3,k4,k5⟩:=h.si.put hq ai h1
 obtain⟨rfl,-,-,-,v1,-⟩:=E4 h.si.ha h.si.brk ho gw hb hc ai ai h1
 rcases c1 with⟨ct,_⟩|⟨_,e2,x2,⟨h2,uN⟩,c2⟩
 ·exact absurd rfl ct
 have Xg:=qG h2
 obtain⟨s1,s2,s3,s4,s5⟩:=k1.sync h2
 obtain rfl:=s5 (by rw[k3];exact ho)
 rcases c2 with⟨ct,_⟩|⟨_,gp⟩
 ·exact absurd rfl ct
 have B8:uD m x2:=by
  have:=h.ji.Zj (t:=x2.1) (by rw[s2,v1,nG,if_neg (fun e=>dz kS z.x.d e.symm)])
  rw[← ug,← uN]at this
  exact this
 have Xj:=pw gp
 have aar:x2.1.A.names.length=x.1.A.names.length:=by
  rw[← k2];exact k1.ha.jP s1.ha (fun nm=>by rw[s2])
 obtain⟨rfl,n1,n2,n3,n4,n5⟩:=qx hq s1 B8 hm ai hr gp
 have fM:∀(pf:Int→Option (List Dg)) w,w∈ts.set k ⟨z.yb,z.sb,z.mb,z.x,z.n,ju z.ws i.toNat true,pf⟩→(w∈ts∧w.x.d≠z.x.d)∨w=⟨z.yb,z.sb,z.mb,z.x,z.n,ju z.ws i.toNat true,pf⟩:=fun pf w hw=>by
  obtain⟨j,hj⟩:=List.mem_iff_getElem?.1 hw
  have ND:=(List.getElem?_eq_some_iff.1 hk).1
  by_cases xK:j=k
  ·subst xK
   rw[List.getElem?_set_self ND]at hj
   injection hj with hj
   exact .inr hj.symm
  ·rw[List.getElem?_set_ne (fun e=>xK e.symm)]at hj
   refine .inl ⟨List.mem_of_getElem? hj,fun e=>xK ?_⟩
   have d1:(ts.map fun y=>y.x.d)[j]?=some w.x.d:=by rw[List.getElem?_map,hj];rfl
   have d2:(ts.map fun y=>y.x.d)[k]?=some z.x.d:=by rw[List.getElem?_map,hk];rfl
   have uy:=(List.getElem?_eq_some_iff.1 d1).1
   exact(List.getElem?_inj uy h.nd).1 (by rw[d1,d2,e])
 refine⟨rfl,fun pf=>⟨n1,?_,?_,n2,?_,?_,?_,?_,?_,?_⟩⟩
 ·have:y.1.A.names.length=x2.1.A.names.length:=s1.ha.jP n1.ha (fun nm=>by
   by_cases hp:nm=dX
   ·obtain⟨C,hC,_⟩:=n2.fl
    obtain⟨C',XL,_⟩:=B8.fl
    rw[hp,hC,XL];rfl
   ·rw[n5 nm hp])
  omega
 ·rw[n3,s3,k3];have:=h.bl;omega
 ·have:=h.tl;simp;omega
 ·intro w hw
  rw[n3,s3,k3]
  rcases fM pf w hw with⟨hw,_⟩|rfl
  ·exact h.tk w hw
  ·exact⟨ho,Wf,by simp only[kY];exact Ug⟩
 ·have:(ts.set k ⟨z.yb,z.sb,z.mb,z.x,z.n,ju z.ws i.toNat true,pf⟩).map (fun y=>y.x.d)=ts.map fun y=>y.x.d:=by
   rw[List.map_set]
   refine List.ext_getElem? fun j=>?_
   have ND:=(List.getElem?_eq_some_iff.1 hk).1
   by_cases xK:j=k
   ·subst xK
    rw[List.getElem?_set_self (by simpa using ND),List.getElem?_map,hk];rfl
   ·rw[List.getElem?_set_ne (fun e=>xK e.symm)]
  rw[this];exact h.nd
 ·intro w hw j hj
  rcases fM pf w hw with⟨hw,Yv⟩|rfl
  ·obtain⟨c',a',k',c1,c2,c3⟩:=h.UF w hw j hj
   refine⟨c',a',k',?_,c2,c3⟩
   rw[n5 _ (lg _),s2,v1,nG,if_neg (fun e=>Yv (pL e))]
   exact c1
  ·simp only at hj ⊢
   have B4:vw y.1.A (oI z.x.d)=some (dJ c a.toNat b):=by rw[n5 _ (lg _),s2,v1,nG,if_pos rfl]
   by_cases zW:j=i
   ·subst zW
    exact⟨_,a,n,B4,gw,by rw[fb];omega⟩
   ·have hold:fZ z.ws z.n j=true:=by
     by_cases qR:0≤j∧j<(z.n:Int)
     ·obtain⟨j',rfl⟩:∃j':Nat,j=j':=⟨j.toNat,ai⟩
      rw[Ls Ug ai ai,if_neg ai]at hj
      exact hj
     ·rw[Cj ai]at hj;cases hj
    obtain⟨c',a',k',c1,c2,c3⟩:=h.UF z hz j hold
    rw[hc]at c1
    injection c1 with c1
    subst c1
    exact⟨_,a',k',B4,c2,by rw[fb];omega⟩
 ·have:=h.kE;have:=Xh.1;have:=Xg.1;have:=Xj.1;omega
 ·have:=h.lK;have:=Xh.2;have:=Xg.2;have:=Xj.2;omega
theorem pZ.over{q:Int}(hq:q≤2097152){m:Nat}{x x1 y:SJ}{ts:List Tk}{z:Tk}{r:List UInt8}{e e':Nat}(h:pZ q m x ts)(hm:m<90)(hr:r.length≤900)(hz:z∈ts)(h1:dr z.x x.1 e x1.1∨eL z.x x.1 e x1.1)(ug:x1.2=x.2)(gp:gy (iE r) x1 e' y) :
  (e=0∨e=8)∧(eL z.x x.1 e x1.1→e=0)∧e'=0∧pZ q (m+1) y (ts.filter fun w => !decide (w.x.d=z.x.d)):=by
 have qB:=h.nm
 obtain⟨ho,-,-⟩:=h.tk z hz
 obtain⟨a1,a2,a3,a4,a5,a6,a7,a8⟩:=h.si.over ho h1
 have Ev:uD m x1:=by
  have:=h.ji.Zj (t:=x1.1) a7
  rw[← ug]at this
  exact this
 have Xj:=pw gp
 obtain⟨rfl,n1,n2,n3,n4,n5⟩:=qx hq a3 Ev hm ai hr gp
 have dH:∀w,w∈ts.filter (fun w => !decide (w.x.d=z.x.d))→w∈ts∧w.x.d≠z.x.d:=fun w hw=>by
  obtain⟨h1,h2⟩:=List.mem_filter.1 hw
  exact⟨h1,by simpa using h2⟩
 refine⟨a1,a2,rfl,n1,?_,?_,n2,?_,?_,?_,?_,?_,?_⟩
 ·have:y.1.A.names.length=x1.1.A.names.length:=a3.ha.jP n1.ha (fun nm=>by
   by_cases hp:nm=dX
   ·obtain⟨C,hC,_⟩:=n2.fl
    obtain⟨C',XL,_⟩:=Ev.fl
    rw[hp,hC,XL];rfl
   ·rw[n5 nm hp])
  omega
 ·rw[n3,a4]
  have:=h.bl
  have:=List.length_filter_le (fun w:Dg × Bl => !decide (w.1=z.x.d)) x.1.aT
  unfold gI
  omega
 ·have:=h.tl;have:=List.length_filter_le (fun w:Tk => !decide (w.x.d=z.x.d)) ts;omega
 ·intro w hw
  obtain⟨uM,KP⟩:=dH w hw
  rw[n3,a4,kL,if_neg KP]
  exact h.tk w uM
 ·exact(List.filter_sublist.map _).nodup h.nd
 ·intro w hw i hi
  obtain⟨uM,KP⟩:=dH w hw
  obtain⟨c,a,k,c1,c2,c3⟩:=h.UF w uM i hi
  refine⟨c,a,k,?_,c2,c3⟩
  rw[n5 _ (lg _),a6 _ KP]
  exact c1
 ·have:=h.kE;have:=a8.1;have:=Xj.1;omega
 ·have:=h.lK;have:=a8.2;have:=Xj.2;omega
attribute [local irreducible] J K aD Ends ag az aL bK aZ aQ aV bg bQ
theorem Ig{ws:List iq}{n j:Nat}{w:iq}(hj:j<n)(hw:ws[j/64]?=some w):decide ((((w >>> (j%64)) &&& 1#64).toNat:Int)=1)=fZ ws n (j:Int):=by
 unfold fZ
 rw[decide_eq_true (show 0≤(j:Int)∧(j:Int)<n by omega),Bool.true_and,Int.toNat_natCast,List.getD_eq_getElem?_getD,hw,Option.getD_some,decide_eq_decide]
 constructor
 ·intro h
  apply BitVec.eq_of_toNat_eq
  have h1:(1#64).toNat=1:=rfl
  rw[h1]
  omega
 ·intro h
  rw[h];rfl
abbrev Uf(p q:iq):iq:=p ||| q
theorem X3(p:iq):IntKind.u64.wrap ((BitVec.ofInt IntKind.u64.bits (p.toNat:Int) &&& BitVec.ofInt IntKind.u64.bits 1).toNat:Int)=((p &&& 1#64).toNat:Int):=by
 rw[mz]
 exact lL (p &&& 1#64)
theorem Wb(p q:iq):IntKind.u64.wrap ((BitVec.ofInt IntKind.u64.bits (p.toNat:Int) ||| BitVec.ofInt IntKind.u64.bits (q.toNat:Int)).toNat:Int)=((p ||| q).toNat:Int):=by
 rw[mz,mz]
 exact lL (p ||| q)
theorem LW(p q:iq):IntKind.u64.wrap ((BitVec.ofInt IntKind.u64.bits (p.toNat:Int) &&& ~~~ BitVec.ofInt IntKind.u64.bits (q.toNat:Int)).toNat:Int)=((p &&& ~~~q).toNat:Int):=by
 rw[mz,mz]
 exact lL (p &&& ~~~q)
theorem V9{ws:List iq}{i:Nat}(h:i<ws.length):qV ws≠[]:=fun e=>by have:=congrArg List.length e;rw[D2]at this;rw[this]at h;simp at h
theorem ly(sb n:Nat)(wv:Value):aD Tryz.prog 17 [ptr sb] [ag sb (cl [.int .i64 (n:Int),wv] 101)] (fun r H=>r = .int .i64 (n:Int)∧H=[ag sb (cl [.int .i64 (n:Int),wv] 101)]):=by
 refine aD.enter Tryz.func17 ak rfl Tryz.ntmps17 zr zr ?_
 intro G F R hE
 refine go ?_
 ((refine ae hE Tryz.func17 rfl _ rfl ⟨rfl,rfl⟩ ad))
set_option maxRecDepth 20000 in
theorem o7(sb n:Nat)(wv:Value)(ws:List iq)(hn:n≤65536)(hw:n≤ws.length*64)(i:Int):aD Tryz.prog 19 [ptr sb,.int .i64 i] (dO sb n wv ws) (fun r H=>r = .bool (fZ ws n i)∧H=dO sb n wv ws):=by
 unfold dO
 by_cases hi:0≤i∧i<(n:Int)
 case neg =>
  rw[Cj ai]
  refine aD.enter Tryz.func19 ak rfl Tryz.ntmps19 zr zr ?_
  intro G F R hE
  by_cases h0:0≤i
  ·refine go ?_
   ((refine aB 7 ((.bool true)) rfl ((congrArg Value.bool (decide_eq_true ai))) ?_))
   refine go ?_
   ((refine aB 15 ((.bool false)) rfl ((congrArg Value.bool (decide_eq_false ai))) ?_))
   refine go ?_
   ((refine ae hE Tryz.func19 rfl _ rfl ⟨rfl,rfl⟩ ad))
  ·refine go ?_
   ((refine aB 7 ((.bool false)) rfl ((congrArg Value.bool (decide_eq_false ai))) ?_))
   refine go ?_
   ((refine ae hE Tryz.func19 rfl _ rfl ⟨rfl,rfl⟩ ad))
 obtain⟨j,rfl⟩:∃j:Nat,i=j:=⟨i.toNat,ai⟩
 have uy:j/64<ws.length:=by omega
 obtain⟨w,OG⟩:∃w,ws[j/64]?=some w:=⟨ws[j/64],by simp[uy]⟩
 have cZ:=zD OG
 refine aD.enter Tryz.func19 ak rfl Tryz.ntmps19 zr zr ?_
 intro G F R hE
 ((refine db 1 rfl ?_))
 rintro a c rfl
 refine cM 1 rfl ?_
 intro dj
 obtain⟨b,o,fQ,fA⟩:=dj.some (V9 uy)
 simp only[Value.slice.injEq]at fA
 obtain⟨rfl,_,rfl⟩:=fA
 refine go ?_
 ((refine aB 7 ((.bool true)) rfl ((congrArg Value.bool (decide_eq_true ai))) ?_))
 refine go ?_
 ((refine aB 15 ((.bool true)) rfl ((congrArg Value.bool (decide_eq_true ai))) ?_))
 refine go ?_
 refine mR zr zr zr ai ai (by simp only[fz];omega) ?_
 ((refine aB 21 ((.int .i64 ((j/64:Nat):Int))) rfl ((congrArg (Value.int .i64) ai)) ?_))
 refine go ?_
 refine cK (U:=ao) (j/64) zr zr zr zr zr zr zr zr uy ?_
 refine go ?_
 refine aJ ?_
 refine bB (U:=ao) 1 (j/64) zr zr zr dj rfl cZ zr zr ?_
 refine go ?_
 refine nI zr zr zr ai ai ?_
 ((refine aB 25 ((.int .i64 ((j%64:Nat):Int))) rfl ((congrArg (Value.int .i64) ai)) ?_))
 refine go ?_
 refine oY (p:=w) (j%64) zr zr zr zr ai ?_
 refine go ?_
 ((refine bj 4 ((.bool (fZ ws n (j:Int)))) rfl ((congrArg Value.bool (by rw[X3];exact Ig ai OG))) ?_))
 ((refine ae hE Tryz.func19 rfl _ rfl ⟨rfl,rfl⟩ ad))
set_option maxRecDepth 20000 in
theorem Mx(n:Nat)(hn:n≤65536):aD Tryz.prog 85 [.int .i64 (n:Int)] [] (fun r H=>∃sb wv,r = .tuple #[ptr sb,.int .i64 0]∧H=dO sb n wv (List.replicate ((n+63)/64) 0#64)):=by
 refine aD.enter Tryz.func85 ak rfl Tryz.ntmps85 zr zr ?_
 intro G F R hE
 refine go ?_
 ((refine bj 6 ((.bool false)) rfl ((congrArg Value.bool (decide_eq_false ai))) ?_))
 refine go ?_
 ((refine bj 9 ((.bool false)) rfl ((congrArg Value.bool (decide_eq_false ai))) ?_))
 refine go ?_
 refine mR zr zr zr ai ai (by simp only[fz];omega) ?_
 ((refine aB 14 ((.int .i64 (((n+63)/64:Nat):Int))) rfl ((congrArg (Value.int .i64) ai)) ?_))
 refine go ?_
 refine lW (U:=ao) (p:=(n+63)/64) (q:=(n+63)/64) zr zr zr zr zr zr zr zr zr (Nat.le_refl _) ai (by show 8*_≤_;omega) bp ?_
 intro row
 refine go ?_
 refine bq zr zr bp ?_
 intro sb
 refine go ?_
 refine aj (H':=dO sb n (.slice (some ⟨row,0,none⟩) ((n+63)/64) ((n+63)/64)) (List.replicate ((n+63)/64) 0#64)++F) ?_ ?_
 ·have hq:qV (List.replicate ((n+63)/64) 0#64)=List.replicate ((n+63)/64) (.int .u64 0):=by simp[qV,JE]
  unfold dO
  rw[hq,List.length_replicate]
  refine aq.trans (H2:=ag row (cl (List.replicate ((n+63)/64) (.int .u64 0)) 102)::ag sb (cl [.int .i64 (n:Int),.slice (some ⟨row,0,none⟩) ((n+63)/64) ((n+63)/64)] 101)::F) ad ?_
  refine aq.trans (H2:=ag row (cl (List.replicate ((n+63)/64) (.int .u64 0)++[]) 102)::ag sb (cl [.int .i64 (n:Int),.slice (some ⟨row,0,none⟩) ((n+63)/64) ((n+63)/64)] 101)::F) (by rw[List.append_nil];exact aq.refl _) ?_
  refine(dZ 102 1 row ((n+63)/64) ((n+63)/64) (List.replicate ((n+63)/64) (.int .u64 0)) [] _ (by simp) (Nat.le_refl _) (by simp)).trans ?_
  exact aq.perm (List.Perm.swap ..)
 ·((refine ae hE Tryz.func85 rfl _ rfl ⟨_,_,rfl,rfl⟩ ad))
theorem Na(ws:List iq)(i:Nat)(w:iq)(hw:ws[i/64]?=some w):(qV ws).set (i/64) (.int .u64 ((Uf w (Aj (i%64))).toNat:Int))=qV (ju ws i true):=by
 unfold ju
 rw[if_pos rfl,List.getD_eq_getElem?_getD,hw,Option.getD_some]
 exact J7 ws (i/64) _
theorem J8(ws:List iq)(i:Nat)(w:iq)(hw:ws[i/64]?=some w):(qV ws).set (i/64) (.int .u64 ((w &&& ~~~(Aj (i%64))).toNat:Int))=qV (ju ws i false):=by
 unfold ju
 rw[if_neg (by simp),List.getD_eq_getElem?_getD,hw,Option.getD_some]
 exact J7 ws (i/64) _
set_option maxRecDepth 20000 in
set_option maxHeartbeats 1000000 in
theorem Jb(sb n:Nat)(wv:Value)(ws:List iq)(hn:n≤65536)(hw:n≤ws.length*64)(i:Nat)(hi:i<n)(one:Bool):aD Tryz.prog 155 [ptr sb,.int .i64 (i:Int),.int .i64 ((i:Int)+1),.bool one] (dO sb n wv ws) (fun r H=>r = .int .i64 0∧H=dO sb n wv (ju ws i one)):=by
 have kp:i/64<ws.length:=by omega
 obtain⟨w,OG⟩:∃w,ws[i/64]?=some w:=⟨ws[i/64],by simp[kp]⟩
 have cZ:=zD OG
 unfold dO
 rw[kY]
 refine aD.enter Tryz.func155 ak rfl Tryz.ntmps155 zr zr ?_
 intro G F R hE
 ((refine db 1 rfl ?_))
 rintro a c rfl
 refine cM 1 rfl ?_
 intro dj
 obtain⟨b,o,fQ,fA⟩:=dj.some (V9 kp)
 simp only[Value.slice.injEq]at fA
 obtain⟨rfl,_,rfl⟩:=fA
 clear dj
 refine go ?_
 ((refine aB 14 ((.bool false)) rfl ((congrArg Value.bool (decide_eq_false ai))) ?_))
 refine go ?_
 ((refine aB 19 ((.bool false)) rfl ((congrArg Value.bool (decide_eq_false ai))) ?_))
 refine go ?_
 ((refine bj 26 ((.bool false)) rfl ((congrArg Value.bool (decide_eq_false ai))) ?_))
 refine go ?_
 refine bo (fun g:Nat=>g≤1) (fun g=>1-g) (fun g=>[(0,ptr sb),(1,.int .i64 ((i:Int)+(g:Int))),(2,.int .i64 ((i:Int)+1)),(3,.bool one)])
  (fun g=>ag sb (cl [.int .i64 (n:Int),.slice (some ⟨b,o,none⟩) ws.length c] 101)::az 102 1 (.slice (some ⟨b,o,none⟩) ws.length c) ws.length (qV (if g=0 then ws else ju ws i one))::F) 0 ai rfl bY ad ?_
 intro g hg ih
 rcases(by omega:g=0∨g=1)with rfl|rfl
 ·rw[if_pos rfl]
  refine cM 1 rfl ?_
  intro dj
  refine go ?_
  ((refine bj 29 ((.bool true)) rfl ((congrArg Value.bool (decide_eq_true ai))) ?_))
  refine go ?_
  refine mR zr zr zr ai ai (by simp only[fz];omega) ?_
  ((refine aB 31 ((.int .i64 ((i/64:Nat):Int))) rfl ((congrArg (Value.int .i64) ai)) ?_))
  refine go ?_
  refine gi zr zr zr (by simp only[fz];omega) ?_
  refine go ?_
  ((refine aB 40 ((.int .i64 63)) rfl ((congrArg (Value.int .i64) ai)) ?_))
  refine oY (p:=18446744073709551615#64) 63 rfl (congrArg (fun z:Int=>some (Value.int .u64 z)) (by decide:(18446744073709551615:Int)=((18446744073709551615#64).toNat:Int))) zr zr ai ?_
  ((refine aB 41 ((.int .u64 ((1#64).toNat:Int))) rfl ((congrArg (fun w:iq=>Value.int .u64 (w.toNat:Int)) (by decide))) ?_))
  refine go ?_
  refine nI zr zr zr ai ai ?_
  ((refine aB 43 ((.int .i64 ((i%64:Nat):Int))) rfl ((congrArg (Value.int .i64) ai)) ?_))
  refine T7 (p:=1#64) (i%64) zr zr zr zr ai ?_
  rw[show 1#64 <<< (i%64)=Aj (i%64)from rfl]
  cases one with
  | true =>
   refine go ?_
   refine cK (U:=ao) (i/64) zr zr zr zr zr zr zr zr kp ?_
   refine aJ ?_
   refine bB (U:=ao) 1 (i/64) zr zr zr dj rfl cZ zr zr ?_
   refine go ?_
   ((refine aB 54 ((.int .u64 ((Uf w (Aj (i%64))).toNat:Int))) rfl ((congrArg (Value.int .u64) (Wb w _))) ?_))
   refine cK (U:=ao) (i/64) zr zr zr zr zr zr zr zr kp ?_
   refine aS ?_
   refine nC (U:=ao) (q:=i/64) 1 fR zr zr zr zr zr zr zr kp rfl ?_
   rw[Na ws i w OG]
   refine go ?_
   ((refine bj 1 ((.int .i64 ((i:Int)+((1:Nat):Int)))) rfl ((congrArg (Value.int .i64) ai)) ?_))
   refine aO ih 1 rfl ai ai bY ad
  | false =>
   refine go ?_
   refine cK (U:=ao) (i/64) zr zr zr zr zr zr zr zr kp ?_
   refine aJ ?_
   refine bB (U:=ao) 1 (i/64) zr zr zr dj rfl cZ zr zr ?_
   refine go ?_
   ((refine aB 64 ((.int .u64 ((w &&& ~~~(Aj (i%64))).toNat:Int))) rfl ((congrArg (Value.int .u64) (LW w _))) ?_))
   refine cK (U:=ao) (i/64) zr zr zr zr zr zr zr zr kp ?_
   refine aS ?_
   refine nC (U:=ao) (q:=i/64) 1 fR zr zr zr zr zr zr zr kp rfl ?_
   rw[J8 ws i w OG]
   refine go ?_
   ((refine bj 1 ((.int .i64 ((i:Int)+((1:Nat):Int)))) rfl ((congrArg (Value.int .i64) ai)) ?_))
   refine aO ih 1 rfl ai ai bY ad
 ·rw[if_neg ai]
  refine go ?_
  ((refine bj 29 ((.bool false)) rfl ((congrArg Value.bool (decide_eq_false ai))) ?_))
  refine go ?_
  ((refine ae hE Tryz.func155 rfl _ rfl ⟨rfl,rfl⟩ ad))
theorem Dj(sb n:Nat)(wv:Value)(ws:List iq)(hn:n≤65536)(hw:n≤ws.length*64)(i:Nat)(hi:i<n)(one:Bool):aD Tryz.prog 96 [ptr sb,.int .i64 (i:Int),.bool one] (dO sb n wv ws) (fun r H=>r = .int .i64 0∧H=dO sb n wv (ju ws i one)):=by
 have hf:=Jb sb n wv ws hn hw i hi one
 unfold dO at hf ⊢
 refine aD.enter Tryz.func96 ak rfl Tryz.ntmps96 zr zr ?_
 intro G F R hE
 refine go ?_
 ((refine bj 9 ((.bool false)) rfl ((congrArg Value.bool (decide_eq_false ai))) ?_))
 refine go ?_
 ((refine bj 16 ((.bool false)) rfl ((congrArg Value.bool (decide_eq_false ai))) ?_))
 refine go ?_
 ((refine ah zr zr zr zr (hf) ad ?_ bE))
 rintro _ _⟨rfl,rfl⟩
 refine go ?_
 ((refine ae hE Tryz.func96 rfl _ rfl ⟨rfl,rfl⟩ ad))
attribute [local irreducible] aC
def eZ(e:Nat):Bool:=decide (e≠0∧e≠1∧e≠5∧e≠8∧e≠11)
def gC(tb bs jb:Nat)(tv:Value)(br:Bool):HP:=ag tb (cl [ptr bs,ptr jb,tv,.bool br] 78)
set_option maxRecDepth 20000 in
theorem pk{σ:Type}(I:σ→HP)(tb bs jb:Nat)(tv:Value)(V:HP)(v:Value)(j0:List Value)(hv:Vw V v j0.length j0)(hn:j0.length≤1000000000)(ss:List (σ→Nat→σ→Prop))(hlen:ss.length=j0.length)(Q:Nat→σ→Prop)(cE:∀(i:Nat) (fv:Value) (s:σ→Nat→σ→Prop),j0[i]?=some fv→ss[i]?=some s→∃g fi cap,fv = .func (.func g) fi cap∧∀x,Q i x→aD Tryz.prog g (fi.toList++cap.toList) [gC tb bs jb tv false,I x] (fun r H=>∃(e:Nat) (x':σ),r = .int .i64 (e:Int)∧H=[gC tb bs jb tv false,I x']∧s x e x'∧(e=0→Q (i+1) x')))(x0:σ)(hQ:Q 0 x0) :
  aD Tryz.prog 32 [ptr tb,v] [V,gC tb bs jb tv false,I x0] (fun r H=>∃(e:Nat) (x':σ),r = .int .i64 (e:Int)∧H=[V,gC tb bs jb tv (eZ e),I x']∧gy ss x0 e x'):=by
 unfold gC at cE ⊢
 obtain⟨a,c,rfl⟩:=hv.shape
 refine aD.enter Tryz.func32 ak rfl Tryz.ntmps32 zr zr ?_
 intro G F R hE
 refine go ?_
 refine bo (fun y:Nat × σ=>y.1≤j0.length∧Q y.1 y.2∧∀e x',gy (ss.drop y.1) y.2 e x'→gy ss x0 e x') (fun y=>j0.length-y.1)
  (fun y=>[(0,ptr tb),(8,.slice a j0.length c),(9,.int .i64 (j0.length:Int)),(10,.int .i64 (y.1:Int))])
  (fun y=>V::ag tb (cl [ptr bs,ptr jb,tv,.bool false] 78)::I y.2::F) (0,x0) ⟨Nat.zero_le _,hQ,fun _ _ h=>h⟩ rfl bY ad ?_
 rintro⟨i,x⟩⟨hi,hq,hr⟩ ih
 simp only at hi hq hr
 dsimp only
 refine go ?_
 refine aw zr zr ?_ ?_
 ·intro cO
  have kp:i<j0.length:=by omega
  obtain⟨fv,lH⟩:∃fv,j0[i]?=some fv:=⟨j0[i],List.getElem?_eq_getElem kp⟩
  obtain⟨s,hs⟩:∃s,ss[i]?=some s:=⟨ss[i],List.getElem?_eq_getElem ai⟩
  obtain⟨g,fi,cap,rfl,hc⟩:=cE i fv s lH hs
  have k8:ss.drop i=s::ss.drop (i+1):=by
   rw[List.drop_eq_getElem_cons ai]
   congr 1
   exact(List.getElem?_eq_some_iff.1 hs).2
  obtain⟨b0,o0,c0,pG⟩:=hv.some (by intro h;rw[h]at kp;simp at kp)
  simp only[Value.slice.injEq]at pG
  obtain⟨rfl,-,rfl⟩:=pG
  refine go ?_
  refine cK (U:=ao) i zr zr zr zr zr zr zr zr kp ?_
  refine bB (U:=ao) 0 i zr zr zr hv rfl lH zr zr ?_
  refine go ?_
  refine sD zr zr zr (by simp) (hc x hq) ad ?_ bE
  rintro _ _⟨e,x',rfl,rfl,OJ,MI⟩
  by_cases pG:e=0
  ·subst pG
   refine go ?_
   refine aO ih (i+1,x') rfl (⟨by simp only;omega,MI rfl,fun e2 x2 h2=>hr e2 x2 (by rw[k8];exact⟨0,x',OJ,.inr ⟨rfl,h2⟩⟩)⟩) (by simp only;omega) bY ad
  have gS:gy ss x0 e x':=hr e x' (by rw[k8];exact⟨e,x',OJ,.inl ⟨pG,rfl,rfl⟩⟩)
  clear ih
  by_cases KT:e=1∨e=5∨e=11∨e=8
  ·have hb:eZ e=false:=decide_eq_false ai
   rcases KT with rfl|rfl|rfl|rfl
   all_goals(
    refine go ?_
    ((refine ae hE Tryz.func32 rfl _ rfl ⟨_,x',rfl,rfl,gS⟩ ad)))
  ·have hb:eZ e=true:=decide_eq_true ai
   refine go ?_
   refine aw zr zr ?_ ?_
   ·intro h;exfalso;omega
   intro _
   refine go ?_
   refine aw zr zr ?_ ?_
   ·intro h;exfalso;omega
   intro _
   refine go ?_
   refine aw zr zr ?_ ?_
   ·intro h;exfalso;omega
   intro _
   refine go ?_
   refine aw zr zr ?_ ?_
   ·intro h;exfalso;omega
   intro _
   refine go ?_
   refine aw zr zr ?_ ?_
   ·intro h;exfalso;omega
   intro _
   refine go ?_
   refine aj (H':=V::ag tb (cl [ptr bs,ptr jb,tv,.bool true] 78)::I x'::F) ad ?_
   rw[← hb]
   ((refine ae hE Tryz.func32 rfl _ rfl ⟨e,x',rfl,rfl,gS⟩ ad))
 ·intro eQ
  have fU:i=j0.length:=by omega
  subst fU
  clear ih
  have h0:gy ss x0 0 x:=hr 0 x (by rw[List.drop_eq_nil_of_le ai];exact⟨rfl,rfl⟩)
  refine go ?_
  ((refine ae hE Tryz.func32 rfl _ rfl ⟨0,x,rfl,rfl,h0⟩ ad))
theorem JF{ts:List Tk}{i:Nat}(h:i<ts.length):ts.map bP≠[]:=fun e=>by have:=congrArg List.length e;simp at this;rw[this]at h;simp at h
def eS(ts:List Tk)(x:Bl):Option Tk:=ts.find? fun y=>decide (y.x=x)
def GP(o:Option Tk):Value:=match o with
 | none => .pointer none
 | some y=>ptr y.yb
theorem sF(A X:HP)(v:Value)(l:List Tk)(hv:Vw A v l.length (l.map bP))(hlen:l.length≤1000000)(g:FuncId)(cap:List Value)(p:Tk→Bool)(hf:∀x∈l,aD Tryz.prog g (ptr x.yb::cap) [X] (fun v H=>v = .bool (p x)∧H=[X])) :
  aD Tryz.prog 71 [v,.func (.func g) #[] cap.toArray] [A,X] (fun r H=>r = .int .i64 (jy p l)∧H=[A,X]):=by
 obtain⟨a,c0,rfl⟩:=hv.shape
 refine aD.enter Tryz.func71 ak rfl Tryz.ntmps71 zr zr ?_
 intro G F R hR
 refine go ?_
 refine bo (fun i:Nat=>i≤l.length∧∀y∈l.take i,p y=false) (fun i=>l.length-i) (fun i=>[(0,.slice a l.length c0),(1,.func (.func g) #[] cap.toArray),(7,.int .i64 l.length),(8,.int .i64 i)]) (fun _=>[A,X]++F) 0 ⟨by simp,by simp⟩ rfl bY (aq.refl _) ?_
 rintro i⟨hi,hb⟩ ih
 refine go ?_
 refine aw zr zr ?_ ?_
 ·intro cO
  refine go ?_
  have fU:i<l.length:=by omega
  obtain⟨x,hx⟩:∃x,l[i]?=some x:=⟨l[i],by simp[fU]⟩
  obtain⟨b,o,fQ,fA⟩:=hv.some (JF fU)
  simp only[Value.slice.injEq]at fA
  obtain⟨rfl,_,rfl⟩:=fA
  refine cK (U:=ao) i zr zr zr zr zr zr zr zr fU ?_
  refine aJ ?_
  refine bB (U:=ao) 0 i zr zr zr hv rfl (ph hx) zr zr ?_
  refine ck [1] zr zr zr zr (hf x (List.mem_of_getElem? hx)) rfl bE ?_
  rintro _ _⟨rfl,rfl⟩
  refine go ?_
  refine eO zr zr ?_ ?_
  ·intro hp
   refine go ?_
   refine ae hR Tryz.func71 rfl _ rfl ⟨by rw[mD hx hp hb];rfl,rfl⟩ (aq.fin [1,0] 0 zr zr)
  ·intro hp
   refine go ?_
   refine aO ih (i+1) rfl ⟨ai,se hb hx hp⟩ ai bY (aq.pick [1,0] rfl)
 ·intro eQ
  refine go ?_
  have:i=l.length:=by omega
  subst this
  refine ae hR Tryz.func71 rfl _ rfl ⟨by rw[pE (fun x hx=>hb x (by simpa using hx))];rfl,rfl⟩ (aq.fin [0,1] 0 zr zr)
theorem uG(A X:HP)(v:Value)(l:List Tk)(hv:Vw A v l.length (l.map bP))(hlen:l.length≤1000000)(g:FuncId)(cap:List Value)(p:Tk→Bool)(hf:∀x∈l,aD Tryz.prog g (ptr x.yb::cap) [X] (fun v H=>v = .bool (p x)∧H=[X])) :
  aD Tryz.prog 26 [v,.func (.func g) #[] cap.toArray] [A,X] (fun r H=>r = .bool (l.any p)∧H=[A,X]):=by
 refine aD.enter Tryz.func26 ak rfl Tryz.ntmps26 zr zr ?_
 intro G F R hR
 refine go ?_
 refine ck [0,1] zr zr zr zr (sF A X v l hv hlen g cap p hf) rfl bE ?_
 rintro _ _⟨rfl,rfl⟩
 refine go ?_
 have hb:decide (0≤jy p l)=l.any p:=by
  rw[show decide (0≤jy p l)=decide (¬jy p l<0)from by rw[decide_eq_decide];omega]
  rw[Bool.eq_iff_iff,decide_eq_true_iff,mE (p:=p) (l:=l),Bool.not_eq_false]
 refine ae hR Tryz.func26 rfl _ rfl ⟨congrArg Value.bool hb,rfl⟩ (aq.fin [0,1] 0 zr zr)
set_option maxRecDepth 20000 in
theorem CC(ts:List Tk)(x:Bl)(bx:Nat)(y:Tk)(hy:y∈ts):aD Tryz.prog 27 [ptr y.yb,ptr bx] [Sep [aP ts,ag bx (cl (bn x) 38)] ] (fun r H=>r = .bool (decide (y.x.d=x.d))∧H=[Sep [aP ts,ag bx (cl (bn x) 38)] ]):=by
 obtain⟨i,hi⟩:=List.mem_iff_getElem?.1 hy
 refine aD.enter Tryz.func27 ak rfl Tryz.ntmps27 zr zr ?_
 intro G F R hE
 refine aj (aq.cg [_,_] _) ?_
 refine aj (iM hi _) ?_
 refine dM (eG y) ?_
 rintro z hz
 refine aj (H':=ag y.yb (cl (iY y) 83)::ag bx (cl (bn x) 38)::ag y.sb (cl [.int .i64 (y.n:Int),z.1] 101)::az 102 1 z.1 y.ws.length (qV y.ws)::aL (Value.int .i64) y.mb z.2.1::aV 36 z.2.2::aP (ts.take i++ts.drop (i+1))::F) ad ?_
 refine go ?_
 refine aF (fun w=>Sat G w ([ag y.yb (cl (iY y) 83),ag bx (cl (bn x) 38)])) (.st 0 (.st 1 (.st 2 (.st 3 (.st 4 (.st 5 (.st 6 (.st 7 (.st 8 .nil))))))))) rfl ak ak ak (fun w hw=>hw.aX ad) ?_
 refine go ?_
 refine bW (U:=ao) 0 zr zr zr zr zr zr ?_
 refine go ?_
 refine bW (U:=ao) 1 zr zr zr zr zr zr ?_
 refine go ?_
 refine jI (b:=decide (y.x.d=x.d)) zr zr zr Ih (fun w=>Iq y.x.d x.d w) ?_
 refine go ?_
 refine aj (H':=ki y z++(aP (ts.take i++ts.drop (i+1))::ag bx (cl (bn x) 38)::F)) (by unfold ki;exact ad) ?_
 refine aj (gB hz _) ?_
 refine aj (jE hi _) ?_
 refine aj (aq.bL [_,_] _) ?_
 ((refine ae hE Tryz.func27 rfl _ rfl ⟨rfl,rfl⟩ ad))
set_option maxRecDepth 20000 in
theorem kJ(tb bs jb:Nat)(tv:Value)(br:Bool)(ts:List Tk)(x:Bl)(hl:ts.length≤1000000):aD Tryz.prog 34 [ptr tb,dQ x] (dg tb bs jb tv ts br) (fun r H=>r=GP (eS ts x)∧H=dg tb bs jb tv ts br):=by
  unfold dg dQ
  refine aD.enter Tryz.func34 ak rfl Tryz.ntmps34 zr zr ?_
  intro G F R hE
  ((refine db 1 rfl ?_))
  rintro a c rfl
  refine cM 1 rfl ?_
  intro dj
  refine aE rfl ?_
  refine bq zr zr bp ?_
  intro b3
  refine go ?_
  refine bo (fun i:Nat=>i≤ts.length∧∀y∈ts.take i,y.x≠x) (fun i=>ts.length-i) (fun i=>[(3,ptr b3),(10,.slice a ts.length c),(11,.int .i64 (ts.length:Int)),(12,.int .i64 (i:Int))])
    (fun _=>az 80 1 (.slice a ts.length c) ts.length (ts.map bP)::aP ts::ag tb (cl [ptr bs,ptr jb,.slice a ts.length c,.bool br] 78)::ag b3 (cl (bn x) 38)::F) 0 ⟨Nat.zero_le _,by simp⟩ rfl bY ad ?_
  rintro i⟨hi,hb⟩ ih
  refine go ?_
  refine aw zr zr ?_ ?_
  · intro cO
    have fU:i<ts.length:=by omega
    obtain⟨y,hx⟩:∃x,ts[i]?=some x:=⟨ts[i],by simp[fU]⟩
    obtain⟨b,o,fQ,fA⟩:=dj.some (JF fU)
    simp only[Value.slice.injEq]at fA
    obtain⟨rfl,_,rfl⟩:=fA
    refine go ?_
    refine cK (U:=ao) i zr zr zr zr zr zr zr zr fU ?_
    refine aJ ?_
    refine bB (U:=ao) 0 i zr zr zr dj rfl (ph hx) zr zr ?_
    refine go ?_
    refine aj (H':=aP ts::az 80 1 (.slice (some ⟨b,o,none⟩) ts.length c) ts.length (ts.map bP)::ag tb (cl [ptr bs,ptr jb,.slice (some ⟨b,o,none⟩) ts.length c,.bool br] 78)::ag b3 (cl (bn x) 38)::F) ad ?_
    refine aj (iM hx _) ?_
    refine dM (eG y) ?_
    rintro z hz
    refine aj (H':=ag y.yb (cl (iY y) 83)::ag b3 (cl (bn x) 38)::ag y.sb (cl [.int .i64 (y.n:Int),z.1] 101)::az 102 1 z.1 y.ws.length (qV y.ws)::aL (Value.int .i64) y.mb z.2.1::aV 36 z.2.2::aP (ts.take i++ts.drop (i+1))::az 80 1 (.slice (some ⟨b,o,none⟩) ts.length c) ts.length (ts.map bP)::ag tb (cl [ptr bs,ptr jb,.slice (some ⟨b,o,none⟩) ts.length c,.bool br] 78)::F) ad ?_
    refine aF (fun w=>Sat G w ([ag y.yb (cl (iY y) 83),ag b3 (cl (bn x) 38)])) (.st 0 (.st 1 (.st 2 (.st 3 (.st 4 (.st 5 .nil)))))) rfl ak ak ak (fun w hw=>hw.aX ad) ?_
    refine go ?_
    refine bW (U:=ao) (cs:=bn y.x) 0 zr zr zr zr zr zr ?_
    refine go ?_
    refine bD (U:=ao) (l:=bn x) 1 zr zr zr zr zr zr ?_
    refine go ?_
    refine jI (b:=decide (y.x=x)) zr zr zr NY (fun w=>N7 y.x x w) ?_
    by_cases FW:y.x=x
    · rw[decide_eq_true FW]
      have l8:eS ts x=some y:=by
        unfold eS
        rw[DG hx,List.find?_append,List.find?_eq_none.2 (fun w hw=>by simpa using hb w hw)]
        simp[FW]
      rw[l8]at hE
      refine go ?_
      refine aj (H':=ki y z++(aP (ts.take i++ts.drop (i+1))::ag tb (cl [ptr bs,ptr jb,.slice (some ⟨b,o,none⟩) ts.length c,.bool br] 78)::az 80 1 (.slice (some ⟨b,o,none⟩) ts.length c) ts.length (ts.map bP)::F)) (by unfold ki;exact ad) ?_
      refine aj (gB hz _) ?_
      refine aj (jE hx _) ?_
      refine aj (H':=ag tb (cl [ptr bs,ptr jb,.slice (some ⟨b,o,none⟩) ts.length c,.bool br] 78)::az 80 1 (.slice (some ⟨b,o,none⟩) ts.length c) ts.length (ts.map bP)::aP ts::F) ad ?_
      ((refine ae hE Tryz.func34 rfl _ rfl ⟨rfl,rfl⟩ ad))
    · rw[decide_eq_false FW]
      refine go ?_
      refine aj (H':=ki y z++(aP (ts.take i++ts.drop (i+1))::az 80 1 (.slice (some ⟨b,o,none⟩) ts.length c) ts.length (ts.map bP)::ag tb (cl [ptr bs,ptr jb,.slice (some ⟨b,o,none⟩) ts.length c,.bool br] 78)::ag b3 (cl (bn x) 38)::F)) (by unfold ki;exact ad) ?_
      refine aj (gB hz _) ?_
      refine aj (jE hx _) ?_
      refine aj (H':=az 80 1 (.slice (some ⟨b,o,none⟩) ts.length c) ts.length (ts.map bP)::aP ts::ag tb (cl [ptr bs,ptr jb,.slice (some ⟨b,o,none⟩) ts.length c,.bool br] 78)::ag b3 (cl (bn x) 38)::F) ad ?_
      refine aO ih (i+1) rfl (⟨ai,fun w hw=>by
        rw[List.take_add_one,hx,Option.toList_some]at hw
        rcases List.mem_append.1 hw with h|h
        · exact hb w h
        · rw[List.mem_singleton.1 h];exact FW⟩) ai bY ad
  · intro eQ
    have sJ:i=ts.length:=by omega
    subst sJ
    have l8:eS ts x=none:=by
      unfold eS
      exact List.find?_eq_none.2 (fun w hw=>by simpa using hb w (by simpa using hw))
    rw[l8]at hE
    clear ih
    refine go ?_
    refine aj (H':=ag tb (cl [ptr bs,ptr jb,.slice a ts.length c,.bool br] 78)::az 80 1 (.slice a ts.length c) ts.length (ts.map bP)::aP ts::F) ad ?_
    ((refine ae hE Tryz.func34 rfl _ rfl ⟨rfl,rfl⟩ ad))
def gm(b2 b3 jb:Nat):List Value:=[.func (.func 80) #[] #[ptr b2,ptr b3],.func (.func 82) #[ptr jb] #[] ]
theorem sX(tb bs jb:Nat)(tv:Value)(a:Option Addr)(n c:Nat):aD Tryz.prog 30 [ptr tb,.slice a n c] [gC tb bs jb tv false]
  (fun r H=>∃b2 b3 row,r = .slice (some ⟨row,0,none⟩) 2 2∧H=[ag row (cl (gm b2 b3 jb) 86),ag b2 (cl [ptr tb] 31),ag b3 (cl [.slice a n c] 39),gC tb bs jb tv false]):=by
 unfold gC
 refine aD.enter Tryz.func30 ak rfl Tryz.ntmps30 zr zr ?_
 intro G F R hE
 refine aE rfl ?_
 refine bq zr zr bp ?_
 intro b2
 refine bq zr zr bp ?_
 intro b3
 refine go ?_
 refine au (U:=ao) (cs:=gm b2 b3 jb) zr zr zr zr zr zr zr zr zr bp ?_
 intro row
 refine go ?_
 ((refine ae hE Tryz.func30 rfl _ rfl ⟨b2,b3,row,rfl,rfl⟩ ad))
theorem Eb(tb bs jb bd b2 b3:Nat)(tv:Value)(A:Ab)(x:JN)(Z:HP)(a:Option Addr)(c:Nat)(b:List UInt8)(hb:dR Z (.slice a b.length c) b)(hl:b.length≤9223372036854775807)(hs:0≤x.s∧x.s≤1000000000)(eA:A.writes.length≤1000000000) :
  aD Tryz.prog 80 [ptr b2,ptr b3] [gC tb bs jb tv false,aC bd A,oz jb bd dX x,ag b2 (cl [ptr tb] 31),ag b3 (cl [.slice a b.length c] 39),Z]
  (fun r H=>r = .int .i64 ((cB dX A x b).1:Int)∧H=[gC tb bs jb tv false,aC bd (cB dX A x b).2.1,oz jb bd dX (cB dX A x b).2.2,ag b2 (cl [ptr tb] 31),ag b3 (cl [.slice a b.length c] 39),Z]):=by
 have EC:=Fo jb bd dX A x Z _ b hb hl hs eA
 unfold gC
 refine aD.enter Tryz.func80 ak rfl Tryz.ntmps80 zr zr ?_
 intro G F R hE
 refine go ?_
 refine aF (fun w=>Sat G w ([ag tb (cl [ptr bs,ptr jb,tv,.bool false] 78),ag b2 (cl [ptr tb] 31),ag b3 (cl [.slice a b.length c] 39)])) (.st 0 (.st 1 (.st 2 (.st 3 (.st 4 (.act 5 (.st 6 .nil))))))) rfl ak ak ak (fun w hw=>hw.aX ad) ?_
 refine go ?_
 ((refine ah rfl rfl rfl rfl (EC) ad ?_ (fun _ _ w hp hw=>by obtain⟨rfl,rfl⟩:=hp;exact hw.aX ad)))
 rintro _ _⟨rfl,rfl⟩
 refine go ?_
 refine aj (H':=ag tb (cl [ptr bs,ptr jb,tv,.bool false] 78)::aC bd (cB dX A x b).2.1::oz jb bd dX (cB dX A x b).2.2::ag b2 (cl [ptr tb] 31)::ag b3 (cl [.slice a b.length c] 39)::Z::F) ad ?_
 ((refine ae hE Tryz.func80 rfl _ rfl ⟨rfl,rfl⟩ ad))
theorem CA(tb bs jb bd b2 b3:Nat)(q:Int)(hq:0≤q∧q≤1073741824)(mb:Nat)(tv:Value)(s:ek)(x:Bl)(Lo:mU s.aT)(cE:s.A.aH.length≤900000000)(eA:s.A.writes.length≤900000000) :
  aD Tryz.prog 28 [ptr b2,ptr b3] (gC tb bs jb tv false::(bT bs bd q mb s++[ag b2 (cl [ptr tb] 31),ag b3 (cl (bn x) 38)]))
  (fun r H=>∃(e:Nat) (t:ek),r = .int .i64 (e:Int)∧H=gC tb bs jb tv false::(bT bs bd q mb t++[ag b2 (cl [ptr tb] 31),ag b3 (cl (bn x) 38)])∧dE q x s e t):=by
 have nM:=Dh bs bd q hq mb s x Lo cE eA
 unfold dQ at nM
 unfold gC
 refine aD.enter Tryz.func28 ak rfl Tryz.ntmps28 zr zr ?_
 intro G F R hE
 refine go ?_
 refine aF (fun w=>Sat G w ([ag tb (cl [ptr bs,ptr jb,tv,.bool false] 78),ag b2 (cl [ptr tb] 31),ag b3 (cl (bn x) 38)])) (.st 0 (.st 1 (.st 2 (.st 3 (.st 4 (.act 5 (.st 6 .nil))))))) rfl ak ak ak (fun w hw=>hw.aX ad) ?_
 refine go ?_
 refine bD (U:=ao) (l:=bn x) 2 zr zr zr zr zr zr ?_
 refine go ?_
 refine ah rfl rfl rfl rfl nM ad ?_ (fun _ _ w hp hw=>by obtain⟨_,_,rfl,rfl,_⟩:=hp;exact hw.aX ad)
 rintro _ _⟨e,t,rfl,rfl,hR⟩
 refine go ?_
 refine aj (H':=ag tb (cl [ptr bs,ptr jb,tv,.bool false] 78)::(bT bs bd q mb t++(ag b2 (cl [ptr tb] 31)::ag b3 (cl (bn x) 38)::F))) ad ?_
 ((refine ae hE Tryz.func28 rfl _ rfl ⟨e,t,rfl,rfl,hR⟩ ad))
end Go.Proofs.YthjbidjmgbjkiaaGreatDoor
namespace Go.Proofs.YthjbidjmgbjkiaaGreatDoor
open Go Go.SL
def rp:Int→List (List UInt8)→List (Int × List UInt8)
 | _,[]=>[]
 | i,x::l=>(i,x)::rp (i+1) l
def Bn(k:UInt8)(d:Dg)(ls:List (List UInt8)):List (Int × List UInt8):=(1,[k])::(2,d.bs)::rp 3 ls
def jM(k:UInt8)(d:Dg)(ls:List (List UInt8)):List UInt8:=eo (Bn k d ls)
theorem Bk:∀(i:Int) (l:List (List UInt8)) (x:List UInt8),rp i (l++[x])=rp i l++[(i+l.length,x)]
 | i,[],x=>by simp[rp]
 | i,y::l,x=>by
  simp only[List.cons_append,rp,Bk (i+1) l x,List.length_cons,List.cons_append]
  congr 4
  omega
theorem yr:∀(i:Int) (l:List (List UInt8)) (last:Int),last<i→i+l.length≤64→eT last (rp i l)=true
 | i,[],last,h,h2=>rfl
 | i,y::l,last,h,h2=>by
  simp only[rp,eT,List.length_cons]at h2 ⊢
  rw[decide_eq_true h,decide_eq_true (show i≤63 by omega),yr (i+1) l i ai ai]
  rfl
theorem HG{n:Int}{b:List UInt8}(h:b.length≤32):(lQ (n,b)).length≤34:=by
 have h1:(uv b.length).length=1:=by rw[hJ ai];rfl
 simp only[lQ,List.length_cons,List.length_append,h1]
 omega
theorem Bj:∀(i:Int) (l:List (List UInt8)) (z:Int × List UInt8),z∈rp i l→z.2∈l
 | i,[],z,h=>by cases h
 | i,y::l,z,h=>by
  rcases List.mem_cons.1 h with rfl|h
  ·exact List.mem_cons_self ..
  ·exact List.mem_cons_of_mem _ (Bj (i+1) l z h)
theorem vz:∀(i:Int) (l:List (List UInt8)),(rp i l).length=l.length
 | i,[]=>rfl
 | i,y::l=>by simp[rp,vz (i+1) l]
theorem FH:∀(l:List (Int × List UInt8)),(∀z∈l,z.2.length≤32)→(eo l).length≤34*l.length
 | [],_=>by simp[eo]
 | z::l,h=>by
  have h1:=FH l (fun w hw=>h w (List.mem_cons_of_mem _ hw))
  have h2:=HG (n:=z.1) (h z (List.mem_cons_self ..))
  simp only[eo,List.flatMap_cons,List.length_append,List.length_cons]at h1 ⊢
  have h3:(lQ z).length≤34:=h2
  omega
theorem gF(k:UInt8)(d:Dg)(ls:List (List UInt8))(hl:ls.length≤20)(hx:∀x∈ls,x.length≤32):(jM k d ls).length≤748:=by
 have:=FH (Bn k d ls) (fun z hz=>by
  unfold Bn at hz
  rcases List.mem_cons.1 hz with rfl|hz
  ·simp
  rcases List.mem_cons.1 hz with rfl|hz
  ·simp only;rw[d.len];omega
  ·exact hx _ (Bj 3 ls z hz))
 have h2:(Bn k d ls).length=2+ls.length:=by simp[Bn,vz];omega
 unfold jM
 omega
theorem G'(k:UInt8)(d:Dg)(ls:List (List UInt8))(hl:ls.length≤20):eT 0 (Bn k d ls)=true:=by
 simp only[Bn,eT]
 rw[yr 3 ls 2 ai ai]
 rfl
attribute [local irreducible] J K aD Ends ag az aL bK aZ aQ aV bg bQ aC
set_option maxRecDepth 20000 in
set_option maxHeartbeats 1000000 in
theorem qu(k:UInt8)(d:Dg)(Z:HP)(mv:Value)(ls:List (List UInt8))(hv:qi Z mv ls)(hl:ls.length≤20)(ZH:∀x∈ls,x.length≤32) :
  aD Tryz.prog 83 [u8 k,dV d,mv] [Z] (fun r H=>H=[az 5 1 r (jM k d ls).length (bV (jM k d ls)),Z]):=by
 have HR:=gF k d ls hl ZH
 have hrr:=G' k d ls hl
 obtain⟨cs,dj,lz,⟨a2,c2,rfl,oD⟩,qd⟩:=hv
 unfold dV
 refine aD.enter Tryz.func83 ak rfl Tryz.ntmps83 zr zr ?_
 intro G F R hE
 refine aE rfl ?_
 refine bq zr zr bp ?_
 intro b4
 refine go ?_
 refine au (U:=ao) (cs:=bV [k]) zr zr zr zr zr zr zr zr zr bp ?_
 intro r0
 refine go ?_
 refine gM (U:=ao) zr zr zr zr zr ?_
 refine go ?_
 obtain⟨ur,vV⟩:∃ur:List It,ur=[⟨1,.slice (some ⟨r0,0,none⟩) 1 1,[k]⟩,⟨2,.slice (some ⟨b4,0,none⟩) 32 32,d.bs⟩]:=⟨_,rfl⟩
 have h2l:ur.length=2:=by rw[vV];rfl
 refine au (U:=ao) (cs:=ur.flatMap kG) zr zr zr zr zr zr zr zr (by rw[vV];rfl) bp ?_
 intro row
 refine go ?_
 obtain⟨Y,hY⟩:∃Y,Y=Sep [ag r0 (cl (bV [k]) 5),ag b4 (cl (dC d) 36),Z]:=⟨_,rfl⟩
 have hYZ:∀h,Y h→∃h',sub h' h∧Z h':=by rw[hY];exact aW (i:=2) rfl
 have TH:∀z∈ur,dR Y z.v z.b:=by
  intro z hz
  rw[vV]at hz
  simp only[List.mem_cons,List.not_mem_nil,or_false]at hz
  rcases hz with rfl|rfl
  ·rw[hY];exact dR.mono (⟨Vw.ag rfl,_,_,rfl,Nat.le_refl _⟩) (aW (i:=0) rfl)
  ·rw[hY];exact(dR.block d.len (dp d)).mono (aW (i:=1) rfl)
 have Dr:ur.map It.p=(1,[k])::(2,d.bs)::rp 3 (ls.take 0):=by rw[vV];rfl
 refine aj (H':=az 187 2 (.slice (some ⟨row,0,none⟩) ur.length 2) ur.length (ur.flatMap kG)::Y::F) ?_ ?_
 ·rw[hY]
  refine aq.trans (H2:=ag r0 (cl (bV [k]) 5)::ag b4 (cl (dC d) 36)::Z::ag row (cl (ur.flatMap kG++[]) 187)::F) (by rw[List.append_nil];exact ad) ?_
  refine(aq.bL [_,_,_] _).trans ?_
  refine(aq.perm (List.Perm.swap ..)).trans ?_
  rw[h2l]
  exact dZ 187 2 row 2 2 (ur.flatMap kG) [] _ (by rw[vV];rfl) (Nat.le_refl _) (by rw[vV];simp[kG])
 refine bo (fun y:Nat × List It × Option Addr × Nat=>y.1≤ls.length∧y.2.1.map It.p=(1,[k])::(2,d.bs)::rp 3 (ls.take y.1)∧∀z∈y.2.1,dR Y z.v z.b) (fun y=>ls.length-y.1)
  (fun y=>[(7,.slice y.2.2.1 y.2.1.length y.2.2.2),(18,.slice a2 ls.length c2),(19,.int .i64 (ls.length:Int)),(20,.int .i64 (y.1:Int))])
  (fun y=>az 187 2 (.slice y.2.2.1 y.2.1.length y.2.2.2) y.2.1.length (y.2.1.flatMap kG)::Y::F) (0,ur,some ⟨row,0,none⟩,2) ⟨Nat.zero_le _,Dr,TH⟩ rfl (by rw[h2l];exact bY) ad ?_
 clear Dr TH h2l vV
 rintro⟨i,eM,ia,ic⟩⟨hi,nR,uf⟩ ih
 simp only at hi nR uf
 dsimp only
 have W9:eM.length=i+2:=by
  have:=congrArg List.length nR
  simp only[List.length_map,List.length_cons,vz,List.length_take]at this
  omega
 refine go ?_
 refine aw zr zr ?_ ?_
 ·intro cO
  have fU:i<ls.length:=by omega
  obtain⟨x,hx⟩:∃x,ls[i]?=some x:=⟨ls[i],by simp⟩
  obtain⟨cv,Js,uz⟩:=qd i x hx
  obtain⟨xa,xc,rfl,ZG⟩:=uz.2
  obtain⟨b,o,fQ,fA⟩:=dj.some (by intro h;rw[h]at lz;simp at lz;omega)
  simp only[Value.slice.injEq]at fA
  obtain⟨rfl,_,rfl⟩:=fA
  have ZL:=dj.mono hYZ
  refine go ?_
  refine cK (U:=ao) i zr zr zr zr zr zr zr zr fU ?_
  refine aJ ?_
  refine bB (U:=ao) 1 i zr zr zr ZL rfl Js zr zr ?_
  refine go ?_
  refine au (U:=ao) (cs:=kG ⟨3+(i:Int),.slice xa x.length xc,x⟩) zr zr zr zr zr zr zr zr zr bp ?_
  intro M3
  refine go ?_
  refine bh (U:=ao) (mm:=1) (news:=kG ⟨3+(i:Int),.slice xa x.length xc,x⟩) 1 0 rfl rfl rfl rfl rfl rfl rfl rfl rfl rfl rfl rfl (Vw.ag rfl) rfl (by intro v hv;simp[kG]at hv;rcases hv with rfl|rfl <;> rfl) ai (by show(_+_)*32≤_;omega) (fun _=>rfl) bp ?_
  intro v1
  rw[show eM.flatMap kG++kG (⟨3+(i:Int),.slice xa x.length xc,x⟩:It)=(eM++[(⟨3+(i:Int),.slice xa x.length xc,x⟩:It)]).flatMap kG from by simp,show eM.length+1=(eM++[(⟨3+(i:Int),.slice xa x.length xc,x⟩:It)]).length from by simp]
  ((refine aM 1 rfl ?_))
  rintro ja jc rfl
  have Lh:(eM++[(⟨3+(i:Int),.slice xa x.length xc,x⟩:It)]).map It.p=(1,[k])::(2,d.bs)::rp 3 (ls.take (i+1)):=by
   rw[List.map_append,nR,List.take_add_one,hx,Option.toList_some,Bk,List.length_take,Nat.min_eq_left ai]
   rfl
  refine go ?_
  refine aO ih (i+1,eM++[(⟨3+(i:Int),.slice xa x.length xc,x⟩:It)],ja,jc) rfl ⟨by simp only;omega,Lh,fun z hz=>(by rcases List.mem_append.1 hz with h|h;exact uf z h;rw[List.mem_singleton.1 h];exact uz.mono hYZ)⟩ (by simp only;omega) bY ad
 ·intro eQ
  have sJ:i=ls.length:=by omega
  subst sJ
  rw[List.take_length]at nR
  have Td:eM.map It.p=Bn k d ls:=nR
  clear ih
  refine cM 0 rfl ?_
  intro SG
  have Cd:=lZ (Sep [az 187 2 (.slice ia eM.length ic) eM.length (eM.flatMap kG),Y]) (.slice ia eM.length ic) eM ⟨SG.mono (aW (i:=0) rfl),fun z hz=>(uf z hz).mono (aW (i:=1) rfl)⟩ ai (by rw[Td];exact hrr) (by rw[Td];exact Nat.le_trans HR ai)
  rw[Td]at Cd
  refine go ?_
  refine aG (aq.bL [_,_] _) ?_
  ((refine ah zr zr zr zr (Cd) ad ?_ bE))
  rintro _ _⟨rr,rfl,rfl⟩
  refine go ?_
  refine aj (aq.cons _ (aq.cg [_,_] _)) ?_
  refine aj (H':=Y::az 5 1 rr (jM k d ls).length (bV (jM k d ls))::F) ad ?_
  rw[hY]
  refine aj (aq.cg [_,_,_] _) ?_
  refine aj (H':=az 5 1 rr (jM k d ls).length (bV (jM k d ls))::Z::F) ad ?_
  ((refine ae hE Tryz.func83 rfl _ zr zr ad))
def iA(x:Bl):List (List UInt8):=[uv x.size.toNat,uv x.piece.toNat,x.root.bs]
def bR(x:Bl):List UInt8:=jM 1 x.d (iA x)
theorem lk(x:Bl)(hs:x.size≤1000000000000)(hp:x.piece≤1000000000000):∀b∈iA x,b.length≤32:=fun b hb=>by
 simp only[iA,List.mem_cons,List.not_mem_nil,or_false]at hb
 rcases hb with rfl|rfl|rfl
 ·have:=nU (n:=x.size.toNat) ai;omega
 ·have:=nU (n:=x.piece.toNat) ai;omega
 ·rw[x.root.len];omega
set_option maxRecDepth 20000 in
set_option maxHeartbeats 1000000 in
theorem qh(x:Bl)(hs:0≤x.size∧x.size≤1000000000000)(hp:0≤x.piece∧x.piece≤1000000000000) :
  aD Tryz.prog 31 [dQ x] [] (fun r H=>H=[az 5 1 r (bR x).length (bV (bR x))]):=by
 obtain⟨sz,g8⟩:∃m:Nat,x.size=m:=⟨x.size.toNat,ai⟩
 obtain⟨pc,qa⟩:∃m:Nat,x.piece=m:=⟨x.piece.toNat,ai⟩
 have hlen:=lk x hs.2 hp.2
 unfold dQ
 refine aD.enter Tryz.func31 ak rfl Tryz.ntmps31 zr zr ?_
 intro G F R hE
 refine aE rfl ?_
 refine bq zr zr bp ?_
 intro b1
 refine go ?_
 refine aF (fun w=>Sat G w ([ag b1 (cl (bn x) 38)])) (.st 0 (.st 1 (.st 2 (.st 3 (.st 4 (.st 6 (.st 7 (.st 8 (.st 10 (.st 11 (.act 5 (.act 9 (.act 12 (.act 13 (.st 14 .nil))))))))))))))) rfl ak ak ak (fun w hw=>hw.aX ad) ?_
 (repeat(first|refine fk ?_|refine bW (U:=ao) 0 zr zr zr zr zr zr ?_|refine gM (U:=ao) zr zr zr zr zr ?_))
 ((refine aB 7 ((.int .u64 (sz:Int))) rfl ((congrArg (Value.int .u64) g8)) ?_))
 ((refine aB 11 ((.int .u64 (pc:Int))) rfl ((congrArg (Value.int .u64) qa)) ?_))
 ((refine ah rfl rfl rfl rfl (ll sz ai) ad ?_ (fun _ _ w hp hw=>by obtain rfl:=hp;exact hw.aX ad)))
 rintro r8 _ rfl
 ((refine aM 0 rfl ?_))
 rintro a8 c8 rfl
 refine go ?_
 ((refine ah rfl rfl rfl rfl (ll pc ai) ad ?_ (fun _ _ w hp hw=>by obtain rfl:=hp;exact hw.aX ad)))
 rintro r9 _ rfl
 ((refine aM 0 rfl ?_))
 rintro a9 c9 rfl
 refine fG (bs:=uv pc) 0 rfl ?_
 intro Tz
 refine fG (bs:=uv sz) 1 rfl ?_
 intro F'
 refine go ?_
 obtain⟨cs,pH⟩:∃cs:List Value,cs=[.slice a8 (uv sz).length c8,.slice a9 (uv pc).length c9,.slice (some ⟨b1,34,none⟩) 32 32]:=⟨_,rfl⟩
 refine au (U:=ao) (cs:=cs) zr zr zr zr zr zr zr zr (by rw[pH];rfl) (fun _ _ hw=>hw.aX ad) ?_
 intro row
 have lG:qi (Sep [ag row (cl cs 39),az 5 1 (.slice a8 (uv sz).length c8) (uv sz).length (bV (uv sz)),az 5 1 (.slice a9 (uv pc).length c9) (uv pc).length (bV (uv pc)),ag b1 (cl (bn x) 38)]) (.slice (some ⟨row,0,none⟩) 3 3) (iA x):=by
  refine⟨cs,(Vw.ag (by rw[pH];rfl)).mono (aW (i:=0) rfl),by rw[pH];rfl,⟨_,_,rfl,Nat.le_refl _⟩,fun i y hy=>?_⟩
  have Z1:x.size.toNat=sz:=by omega
  have aag:x.piece.toNat=pc:=by omega
  unfold iA at hy
  rw[Z1,aag]at hy
  match i,hy with
  | 0,hy=>cases hy;exact⟨_,by rw[pH];rfl,F'.mono (aW (i:=1) rfl)⟩
  | 1,hy=>cases hy;exact⟨_,by rw[pH];rfl,Tz.mono (aW (i:=2) rfl)⟩
  | 2,hy=>cases hy;exact⟨_,by rw[pH];rfl,(dR.Su x.root.len (by rw[← dp];exact Oa x)).mono (aW (i:=3) rfl)⟩
  | i+3,hy=>simp at hy
 have KW:=qu 1 x.d _ _ (iA x) lG (by simp[iA]) hlen
 unfold dV at KW
 clear lG
 clear pH
 refine go ?_
 refine aG (aq.trans (H2:=ag row (cl cs 39)::az 5 1 (.slice a8 (uv sz).length c8) (uv sz).length (bV (uv sz))::az 5 1 (.slice a9 (uv pc).length c9) (uv pc).length (bV (uv pc))::ag b1 (cl (bn x) 38)::F) ad (aq.bL [_,_,_,_] _)) ?_
 refine ah rfl rfl rfl rfl KW ad ?_ (fun _ _ w hp hw=>by obtain rfl:=hp;exact hw.aX (aq.trans (aq.pick [1] rfl) (aq.trans (aq.cg [_,_,_,_] _) ad)))
 rintro rr _ rfl
 refine go ?_
 refine aj (H':=az 5 1 rr (bR x).length (bV (bR x))::F) ad ?_
 ((refine ae hE Tryz.func31 rfl _ zr zr ad))
end Go.Proofs.YthjbidjmgbjkiaaGreatDoor
namespace Go.Proofs.YthjbidjmgbjkiaaGreatDoor
open Go Go.SL
theorem Iz(e:TypeId)(H:List HP):aq H (aV e []::H):=aq.oQ H
attribute [local irreducible] J K aD Ends ag az aL bK aZ aQ aV bg bQ aC
set_option maxRecDepth 20000 in
set_option maxHeartbeats 1000000 in
theorem yP(x:Bl):aD Tryz.prog 33 [dQ x] [] (fun r H=>∃y:Tk,r=ptr y.yb∧H=[mV y]∧y.x=x∧(y.n:Int)=cj x∧y.ws=List.replicate ((y.n+63)/64) 0#64∧y.pf=fun _=>none):=by
 have lz:=pM x
 obtain⟨n,hn⟩:∃n:Nat,cj x=n:=⟨(cj x).toNat,ai⟩
 have hc:=tK x
 rw[hn]at hc
 have B4:=Mx n ai
 unfold dQ at hc ⊢
 unfold dO at B4
 refine aD.enter Tryz.func33 ak rfl Tryz.ntmps33 zr zr ?_
 intro G F R hE
 refine aE rfl ?_
 refine bq zr zr bp ?_
 intro b1
 refine go ?_
 refine aI (U:=ao) (l:=bn x) 0 zr zr zr zr zr zr ?_
 ((refine ah zr zr zr zr (hc) ad ?_ bE))
 rintro _ _⟨rfl,rfl⟩
 refine go ?_
 ((refine ah zr zr zr zr (B4) ad ?_ bE))
 rintro _ _⟨sb,wv,rfl,rfl⟩
 refine go ?_
 ((refine aG (H':=ag b1 (cl (bn x) 38)::ag sb (cl [.int .i64 (n:Int),wv] 101)::az 102 1 wv (List.replicate ((n+63)/64) 0#64).length (qV (List.replicate ((n+63)/64) 0#64))::F) ad ?_))
 refine go ?_
 refine aI (U:=ao) (l:=bn x) 0 zr zr zr zr zr zr ?_
 refine go ?_
 refine mS rfl bp ?_
 intro mb
 refine aG (aq.fold (B:=[_]) (A:=aL (Value.int .i64) mb []) (fun h hs=>⟨h,sub.refl h,ot (Value.int .i64) mb h (ed hs)⟩)) ?_
 refine go ?_
 refine bq zr zr bp ?_
 intro yb
 refine go ?_
 obtain⟨y,hy⟩:∃y:Tk,y=⟨yb,sb,mb,x,n,List.replicate ((n+63)/64) 0#64,fun _=>none⟩:=⟨_,rfl⟩
 have hR:Gr (wv,[],[]) y:=fun k=>by rw[hy];rfl
 refine aj (H':=ki y (wv,[],[])++F) ?_ ?_
 ·rw[hy]
  unfold ki
  exact aq.trans (Iz 36 _) ad
 refine aj (gB hR F) ?_
 ((refine ae hE Tryz.func33 rfl _ rfl ⟨y,by rw[hy];rfl,rfl,by rw[hy],by rw[hy];exact hn.symm,by rw[hy],by rw[hy]⟩ ad))
end Go.Proofs.YthjbidjmgbjkiaaGreatDoor
namespace Go.Proofs.YthjbidjmgbjkiaaGreatDoor
open Go Go.SL
def Sw(x:iq):iq:=(x >>> 1 &&& BitVec.ofInt 64 6148914691236517205)+(x &&& BitVec.ofInt 64 6148914691236517205)
def Sv(x:iq):iq:=(x >>> 2 &&& BitVec.ofInt 64 3689348814741910323)+(x &&& BitVec.ofInt 64 3689348814741910323)
def Nb(x:iq):iq:=(x >>> 4+x) &&& BitVec.ofInt 64 1085102592571150095
def zI(k:Nat)(x:iq):iq:=x+x >>> k
def Hk(x:iq):iq:=zI 32 (zI 16 (zI 8 (Nb (Sv (Sw x)))))
def Hl(y:iq):Int:=IntKind.i64.wrap ((BitVec.ofInt IntKind.i64.bits (IntKind.i64.wrap (y.toNat:Int)) &&& BitVec.ofInt IntKind.i64.bits 127).toNat:Int)
theorem FJ(y:iq):0≤Hl y∧Hl y≤127:=by
 have h:(BitVec.ofInt IntKind.i64.bits (IntKind.i64.wrap (y.toNat:Int)) &&& BitVec.ofInt IntKind.i64.bits 127).toNat≤127:=by
  rw[BitVec.toNat_and]
  exact Nat.le_trans Nat.and_le_right (by decide)
 unfold Hl
 generalize (BitVec.ofInt IntKind.i64.bits (IntKind.i64.wrap (y.toNat:Int)) &&& BitVec.ofInt IntKind.i64.bits 127).toNat=m at h
 have e:IntKind.i64.wrap (m:Int)=(m:Int):=cD (by simp only[fz];omega)
 rw[e]
 omega
theorem tF(p:iq)(c:Int):IntKind.u64.wrap ((BitVec.ofInt IntKind.u64.bits (p.toNat:Int) &&& BitVec.ofInt IntKind.u64.bits c).toNat:Int)=((p &&& BitVec.ofInt 64 c).toNat:Int):=by
 rw[mz]
 exact lL (p &&& BitVec.ofInt 64 c)
def rW(ws:List iq):Int:=(ws.map fun w=>Hl (Hk w)).sum
theorem uQ(ws:List iq):0≤rW ws∧rW ws≤127*ws.length:=by
 unfold rW
 induction ws with
 | nil=>simp
 | cons w ws ih =>
  have:=FJ (Hk w)
  simp only[List.map_cons,List.sum_cons,List.length_cons]
  omega
attribute [local irreducible] J K aD Ends ag az aL bK aZ aQ aV bg bQ aC
set_option maxRecDepth 20000 in
theorem Mc(x:iq):aD Tryz.prog 50 [.int .u64 (x.toNat:Int)] [] (fun r H=>r = .int .i64 (Hl (Hk x))∧H=[]):=by
 refine aD.enter Tryz.func50 ak rfl Tryz.ntmps50 zr zr ?_
 intro G F R hE
 refine go ?_
 refine oY (p:=x) 1 zr zr zr zr ai ?_
 refine go ?_
 ((refine aB 5 ((.int .u64 ((x >>> 1 &&& BitVec.ofInt 64 6148914691236517205).toNat:Int))) rfl ((congrArg (Value.int .u64) (tF _ _))) ?_))
 ((refine aB 7 ((.int .u64 ((x &&& BitVec.ofInt 64 6148914691236517205).toNat:Int))) rfl ((congrArg (Value.int .u64) (tF _ _))) ?_))
 refine tI (p:=x >>> 1 &&& BitVec.ofInt 64 6148914691236517205) (q:=x &&& BitVec.ofInt 64 6148914691236517205) zr zr zr ?_
 rw[show(x >>> 1 &&& BitVec.ofInt 64 6148914691236517205)+(x &&& BitVec.ofInt 64 6148914691236517205)=Sw x from rfl]
 obtain⟨a,ha⟩:∃a,a=Sw x:=⟨_,rfl⟩
 rw[← ha]
 refine go ?_
 refine oY (p:=a) 2 zr zr zr zr ai ?_
 refine go ?_
 ((refine aB 11 ((.int .u64 ((a >>> 2 &&& BitVec.ofInt 64 3689348814741910323).toNat:Int))) rfl ((congrArg (Value.int .u64) (tF _ _))) ?_))
 ((refine aB 13 ((.int .u64 ((a &&& BitVec.ofInt 64 3689348814741910323).toNat:Int))) rfl ((congrArg (Value.int .u64) (tF _ _))) ?_))
 refine tI (p:=a >>> 2 &&& BitVec.ofInt 64 3689348814741910323) (q:=a &&& BitVec.ofInt 64 3689348814741910323) zr zr zr ?_
 rw[show(a >>> 2 &&& BitVec.ofInt 64 3689348814741910323)+(a &&& BitVec.ofInt 64 3689348814741910323)=Sv a from rfl]
 obtain⟨b,hb⟩:∃b,b=Sv a:=⟨_,rfl⟩
 rw[← hb]
 refine go ?_
 refine oY (p:=b) 4 zr zr zr zr ai ?_
 refine go ?_
 refine tI (p:=b >>> 4) (q:=b) zr zr zr ?_
 refine go ?_
 ((refine aB 20 ((.int .u64 ((Nb b).toNat:Int))) rfl ((congrArg (Value.int .u64) (tF _ _))) ?_))
 ((refine aB 21 ((.int .u64 ((Nb b).toNat:Int))) rfl ((congrArg (Value.int .u64) (tF _ _))) ?_))
 obtain⟨c,hc⟩:∃c,c=Nb b:=⟨_,rfl⟩
 rw[← hc]
 refine oY (p:=c) 8 zr zr zr zr ai ?_
 refine go ?_
 refine tI (p:=c) (q:=c >>> 8) zr zr zr ?_
 rw[show c+c >>> 8=zI 8 c from rfl]
 obtain⟨d,hd⟩:∃d,d=zI 8 c:=⟨_,rfl⟩
 rw[← hd]
 refine go ?_
 refine oY (p:=d) 16 zr zr zr zr ai ?_
 refine go ?_
 refine tI (p:=d) (q:=d >>> 16) zr zr zr ?_
 rw[show d+d >>> 16=zI 16 d from rfl]
 obtain⟨e,he⟩:∃e,e=zI 16 d:=⟨_,rfl⟩
 rw[← he]
 refine go ?_
 refine oY (p:=e) 32 zr zr zr zr ai ?_
 refine go ?_
 refine tI (p:=e) (q:=e >>> 32) zr zr zr ?_
 rw[show e+e >>> 32=zI 32 e from rfl,show zI 32 e=Hk x from by rw[he,hd,hc,hb,ha];rfl]
 refine go ?_
 refine jJ (U:=ao) zr zr zr zr zr zr ?_
 refine go ?_
 ((refine ae hE Tryz.func50 rfl _ rfl ⟨rfl,rfl⟩ ad))
set_option maxRecDepth 20000 in
theorem qN(sb n:Nat)(wv:Value)(ws:List iq)(hl:ws.length≤65536):aD Tryz.prog 18 [ptr sb] (dO sb n wv ws) (fun r H=>r = .int .i64 (rW ws)∧H=dO sb n wv ws):=by
 unfold dO
 refine aD.enter Tryz.func18 ak rfl Tryz.ntmps18 zr zr ?_
 intro G F R hE
 ((refine db 1 rfl ?_))
 rintro a c rfl
 refine cM 1 rfl ?_
 intro dj
 refine go ?_
 refine bo (fun i:Nat=>i≤ws.length) (fun i=>ws.length-i) (fun i=>[(3,.int .i64 (rW (ws.take i))),(9,.slice a ws.length c),(10,.int .i64 (ws.length:Int)),(11,.int .i64 (i:Int))])
  (fun _=>ag sb (cl [.int .i64 (n:Int),.slice a ws.length c] 101)::az 102 1 (.slice a ws.length c) ws.length (qV ws)::F) 0 (Nat.zero_le _) rfl bY ad ?_
 intro i hi ih
 have hcb:=uQ (ws.take i)
 rw[List.length_take,Nat.min_eq_left hi]at hcb
 refine go ?_
 refine aw zr zr ?_ ?_
 ·intro cO
  have fU:i<ws.length:=by omega
  obtain⟨w,hw⟩:∃w,ws[i]?=some w:=⟨ws[i],by simp[fU]⟩
  have iF:rW (ws.take (i+1))=rW (ws.take i)+Hl (Hk w):=by
   unfold rW
   rw[List.take_add_one,hw];simp
  have HU:=FJ (Hk w)
  obtain⟨b,o,fQ,fA⟩:=dj.some (V9 fU)
  simp only[Value.slice.injEq]at fA
  obtain⟨rfl,_,rfl⟩:=fA
  refine go ?_
  refine cK (U:=ao) i zr zr zr zr zr zr zr zr fU ?_
  refine aJ ?_
  refine bB (U:=ao) 1 i zr zr zr dj rfl (zD hw) zr zr ?_
  unfold JE
  refine go ?_
  ((refine ah zr zr zr zr (Mc w) ad ?_ bE))
  rintro _ _⟨rfl,rfl⟩
  refine go ?_
  ((refine bj 3 ((.int .i64 (rW (ws.take (i+1))))) rfl ((congrArg (Value.int .i64) iF.symm)) ?_))
  refine aO ih (i+1) rfl ai ai bY ad
 ·intro eQ
  have sJ:i=ws.length:=by omega
  subst sJ
  rw[List.take_length]
  clear ih
  refine go ?_
  ((refine ae hE Tryz.func18 rfl _ rfl ⟨rfl,rfl⟩ ad))
def Tk.put(y:Tk)(i:Nat)(l:List Dg):Tk:=⟨y.yb,y.sb,y.mb,y.x,y.n,ju y.ws i true,fun j=>if j=(i:Int)then some l else y.pf j⟩
set_option maxRecDepth 20000 in
set_option maxHeartbeats 1000000 in
theorem AQ(y:Tk)(i:Nat)(hi:i<y.n)(hn:y.n≤65536)(hw:y.n≤y.ws.length*64)(P:HP)(pv:Value)(l:List Dg)(hv:Vw P pv l.length (l.flatMap dC))(hl:l.length≤1000000) :
  aD Tryz.prog 41 [ptr y.yb,.int .i64 (i:Int),pv] [mV y,P] (fun r H=>r = .tuple #[]∧H=[mV (y.put i l),P]):=by
 have lz:=xi P pv l hv hl
 obtain⟨a,c,rfl⟩:=hv.shape
 refine aD.enter Tryz.func41 ak rfl Tryz.ntmps41 zr zr ?_
 intro G F R hE
 refine dM (eG y) ?_
 rintro⟨wv,cs,M⟩ hz
 have rH:=Dj y.sb y.n wv y.ws hn hw i hi true
 unfold dO at rH
 refine aj (H':=ag y.yb (cl (iY y) 83)::ag y.sb (cl [.int .i64 (y.n:Int),wv] 101)::az 102 1 wv y.ws.length (qV y.ws)::aL (Value.int .i64) y.mb cs::aV 36 M::P::F) (by unfold ki;exact ad) ?_
 refine go ?_
 ((refine ah zr zr zr zr (rH) ad ?_ bE))
 rintro _ _⟨rfl,rfl⟩
 refine go ?_
 refine aF (fun w=>Sat G w ([ag y.yb (cl (iY y) 83)])) (.st 0 (.st 1 (.st 2 (.st 3 (.st 4 (.st 5 (.act 6 (.act 7 .nil)))))))) rfl ak ak ak (fun w hw=>hw.aX ad) ?_
 refine go ?_
 ((refine ah rfl rfl rfl rfl (lz) ad ?_ (fun _ _ w hp hw=>by obtain rfl:=hp;exact hw.aX ad)))
 rintro r8 _ rfl
 refine go ?_
 ((refine aG (H':=aL (Value.int .i64) y.mb cs::az 36 32 r8 l.length (l.flatMap dC)::aV 36 M::ag y.yb (cl (iY y) 83)::ag y.sb (cl [.int .i64 (y.n:Int),wv] 101)::az 102 1 wv (ju y.ws i true).length (qV (ju y.ws i true))::P::F) ad ?_))
 refine jX (U:=ao) (kv:=Value.int .i64) (es:=cs) (key:=(i:Int)) (v:=r8) 0 (vL Tryz.underlying3) fR zr zr zr zr zr zr zr zr ?_
 refine go ?_
 refine aj (aq.perm (List.Perm.swap ..)) ?_
 refine aj (H':=az 36 32 r8 l.length (l.flatMap dC)::aV 36 M::aL (Value.int .i64) y.mb (mh cs (i:Int) r8)::ag y.yb (cl (iY y) 83)::ag y.sb (cl [.int .i64 (y.n:Int),wv] 101)::az 102 1 wv (ju y.ws i true).length (qV (ju y.ws i true))::P::F) ad ?_
 refine aj (aq.join _ _ _) ?_
 refine dM (Be 36 32 l.length r8 (l.flatMap dC) M) ?_
 rintro M'⟨aaY,dH⟩
 have Wh:Gr (wv,mh cs (i:Int) r8,M') (y.put i l):=Gr.put hz (i:Int) r8 wv l M' dH aaY _ rfl
 refine aj (H':=ki (y.put i l) (wv,mh cs (i:Int) r8,M')++(P::F)) (by unfold ki;exact ad) ?_
 refine aj (gB Wh _) ?_
 ((refine bO hE Tryz.func41 rfl _ rfl ⟨rfl,rfl⟩ ad))
theorem gU{ts:List Tk}{x:Bl}{y:Tk}(h:eS ts x=some y):∃i:Nat,ts[i]?=some y∧y.x=x:=by
 unfold eS at h
 have h1:=List.find?_some h
 obtain⟨i,hi⟩:=List.mem_iff_getElem?.1 (List.mem_of_find?_eq_some h)
 exact⟨i,hi,by simpa using h1⟩
def BF(o:Option Tk):Value:=match o with
 | none => .tuple #[.int .i64 0,.int .i64 4]
 | some y => .tuple #[.int .i64 ((y.n:Int)-rW y.ws),.int .i64 0]
set_option maxRecDepth 20000 in
theorem uo(tb bs jb:Nat)(tv:Value)(br:Bool)(ts:List Tk)(x:Bl)(hl:ts.length≤1000000)(hn:∀y∈ts,y.n≤65536)(hw:∀y∈ts,y.ws.length≤65536) :
  aD Tryz.prog 15 [ptr tb,dQ x] (dg tb bs jb tv ts br) (fun r H=>r=BF (eS ts x)∧H=dg tb bs jb tv ts br):=by
 have hf:=kJ tb bs jb tv br ts x hl
 unfold dg at hf ⊢
 unfold dQ at hf ⊢
 refine aD.enter Tryz.func15 ak rfl Tryz.ntmps15 zr zr ?_
 intro G F R hE
 refine aE rfl ?_
 refine bq zr zr bp ?_
 intro b3
 refine go ?_
 refine aI (U:=ao) (l:=bn x) 0 zr zr zr zr zr zr ?_
 refine go ?_
 ((refine ah zr zr zr zr (hf) ad ?_ bE))
 rintro _ _⟨rfl,rfl⟩
 refine go ?_
 cases l8:eS ts x with
 | none =>
  rw[l8]at hE
  unfold GP
  refine go ?_
  ((refine ae hE Tryz.func15 rfl _ rfl ⟨rfl,rfl⟩ ad))
 | some y =>
  rw[l8]at hE
  obtain⟨i,hi,hx⟩:=gU l8
  have xF:y∈ts:=List.mem_of_getElem? hi
  have BV:=hn y xF
  have zQ:=hw y xF
  have hcb:=uQ y.ws
  unfold GP
  refine go ?_
  refine aj (H':=aP ts::ag tb (cl [ptr bs,ptr jb,tv,.bool br] 78)::az 80 1 tv ts.length (ts.map bP)::F) ad ?_
  refine aj (iM hi _) ?_
  refine dM (eG y) ?_
  rintro⟨wv,cs,M⟩ hz
  refine aj (H':=ag y.yb (cl (iY y) 83)::ag y.sb (cl [.int .i64 (y.n:Int),wv] 101)::az 102 1 wv y.ws.length (qV y.ws)::aL (Value.int .i64) y.mb cs::aV 36 M::aP (ts.take i++ts.drop (i+1))::ag tb (cl [ptr bs,ptr jb,tv,.bool br] 78)::az 80 1 tv ts.length (ts.map bP)::F) (by unfold ki;exact ad) ?_
  have Cf:=qN y.sb y.n wv y.ws zQ
  unfold dO at Cf
  refine aF (fun w=>Sat G w ([ag y.yb (cl (iY y) 83)])) (.st 0 (.st 1 (.st 2 (.st 3 (.st 5 (.st 6 (.st 7 (.st 8 (.act 4 (.act 9 (.st 10 (.st 11 (.st 12 .nil))))))))))))) rfl ak ak ak (fun w hw=>hw.aX ad) ?_
  refine go ?_
  ((refine ah rfl rfl rfl rfl (ly y.sb y.n wv) ad ?_ (fun _ _ w hp hw=>by obtain⟨rfl,rfl⟩:=hp;exact hw.aX ad)))
  rintro _ _⟨rfl,rfl⟩
  refine go ?_
  ((refine ah rfl rfl rfl rfl (Cf) ad ?_ (fun _ _ w hp hw=>by obtain⟨rfl,rfl⟩:=hp;exact hw.aX ad)))
  rintro _ _⟨rfl,rfl⟩
  refine go ?_
  refine aj (H':=ki y (wv,cs,M)++(aP (ts.take i++ts.drop (i+1))::ag tb (cl [ptr bs,ptr jb,tv,.bool br] 78)::az 80 1 tv ts.length (ts.map bP)::F)) (by unfold ki;exact ad) ?_
  refine aj (gB hz _) ?_
  refine aj (jE hi _) ?_
  refine aj (H':=ag tb (cl [ptr bs,ptr jb,tv,.bool br] 78)::az 80 1 tv ts.length (ts.map bP)::aP ts::F) ad ?_
  ((refine ae hE Tryz.func15 rfl _ rfl ⟨rfl,rfl⟩ ad))
set_option maxRecDepth 20000 in
theorem xT(v:Value)(l:List Tk)(X:HP)(g:FuncId)(cap:List Value)(p:Tk→Bool)(hlen:l.length≤1000000)(hf:∀x∈l,aD Tryz.prog g (ptr x.yb::cap) [X] (fun v H=>v = .bool (p x)∧H=[X])) :
  aD Tryz.prog 160 [v,.func (.func g) #[] cap.toArray] [az 80 1 v l.length (l.map bP),X]
   (fun r H=>H=[az 80 1 r (l.filter fun x => !p x).length ((l.filter fun x => !p x).map bP),X]):=by
 refine aD.enter Tryz.func160 ak rfl Tryz.ntmps160 zr zr ?_
 intro G F R hE
 refine db 0 rfl ?_
 rintro a0 c rfl
 refine go ?_
 refine iu 0 rfl ?_
 intro hv
 refine ck [0,1] zr zr zr zr (sF _ X _ l hv hlen g cap p hf) rfl bE ?_
 rintro _ _⟨rfl,rfl⟩
 refine go ?_
 refine aw zr zr ?_ ?_
 ·intro h0
  have ku:l.any p=false:=mE.1 ai
  have qS:(l.filter fun x => !p x)=l:=List.filter_eq_self.2 fun x hx=>by
   have:=List.any_eq_false.1 ku x hx
   simpa using this
  rw[qS]at hE
  refine go ?_
  refine ae hE Tryz.func160 rfl _ zr zr (aq.fin [0,1] 0 zr zr)
 ·intro h0
  obtain⟨i0,x0,Jn,SF,Dr,qD⟩:=vQ h0
  have aaH:i0<l.length:=by
   rcases Nat.lt_or_ge i0 l.length with h|h
   ·exact h
   ·rw[List.getElem?_eq_none h]at SF;cases SF
  rw[Jn]
  refine go ?_
  refine qI (fun a lD hn _=>by omega) ?_
  rintro b o c' pre bM qP lE YG iy lz
  simp only[Value.slice.injEq,true_and]at qP
  obtain⟨rfl,rfl⟩:=qP
  have h1:l.take (i0+1)=l.take i0++[x0]:=by rw[List.take_add_one,SF];rfl
  have Ew:(l.take i0).filter (fun x => !p x)=l.take i0:=List.filter_eq_self.2 fun x hx=>by simp[qD x hx]
  refine bo (fun s:Nat × Nat × List Tk=>s.1<s.2.1∧s.2.1≤l.length∧s.2.2.length=l.length∧s.2.2.take s.1=(l.take s.2.1).filter (fun x => !p x)∧s.2.2.drop s.2.1=l.drop s.2.1) (fun s=>l.length-s.2.1)
   (fun s=>[(0,.slice (some ⟨b,o,none⟩) l.length c),(1,.func (.func g) #[] cap.toArray),(5,.int .i64 s.1),(6,.int .i64 s.2.1)])
   (fun s=>ag b (cl (pre++s.2.2.map bP++bM) 80)::X::F) (i0,i0+1,l) ⟨by simp,by simp only;omega,rfl,by simp only[h1,List.filter_append,Ew];simp[Dr],rfl⟩ rfl bY (aq.refl _) ?_
  rintro⟨i,j,E⟩⟨B9,uy,MR,Co,NT⟩ ih
  simp only at B9 uy MR Co NT
  have eA:(E.map bP).length=l.length:=by rw[List.length_map,MR]
  have ZO:Vw (ag b (cl (pre++E.map bP++bM) 80)) (.slice (some ⟨b,o,none⟩) l.length c) l.length (E.map bP):=Vw.ag (by rw[List.append_assoc,← lE,List.drop_left,List.take_left])
  refine go ?_
  refine aw zr zr ?_ ?_
  ·intro cO
   simp only at cO
   have nK:j<l.length:=by omega
   obtain⟨x,hx⟩:∃x,l[j]?=some x:=⟨l[j],by simp[nK]⟩
   have hEx:E[j]?=some x:=by
    have:=congrArg (·[0]?) NT
    simp only[List.getElem?_drop,Nat.add_zero]at this
    rw[this];exact hx
   have g9:=List.mem_of_getElem? hx
   have MM:=hf _ g9
   refine go ?_
   refine cK (U:=ao) j zr zr zr zr zr zr zr zr nK ?_
   refine aJ ?_
   refine bB (U:=ao) 0 j zr zr zr ZO rfl (ph hEx) zr zr ?_
   refine go ?_
   refine ck [1] zr zr zr zr (MM) rfl bE ?_
   rintro _ _⟨rfl,rfl⟩
   refine go ?_
   refine eO zr zr ?_ ?_
   ·intro hp
    have qQ:p x=false:=by simpa using hp
    refine go ?_
    refine cK (U:=ao) i zr zr zr zr zr zr zr zr ai ?_
    refine jC (U:=ao) (l':=pre++(E.set i x).map bP++bM) 1 fR zr zr zr zr zr zr zr ?_ ?_ rfl ?_
    ·show o+i+1≤_
     rw[List.length_append,List.length_append,eA];omega
    ·show _=List.take (o+i) (pre++E.map bP++bM)++[bP x]++List.drop (o+i+1) (pre++E.map bP++bM)
     have hs:=m8 pre (E.map bP) bM [bP x] i (by rw[eA];simp only[List.length_singleton];omega)
     rw[← lE]
     simp only[List.length_singleton]at hs
     rw[hs,List.map_set,List.set_eq_take_append_cons_drop,if_pos (by rw[eA];omega)]
     simp
    refine go ?_
    refine aO ih (i+1,j+1,E.set i x) rfl ⟨by simp only;omega,by simp only;omega,by simp only[List.length_set];exact MR,?_,?_⟩ (by simp only;omega) bY ad
    ·simp only
     rw[List.take_add_one,List.take_set_of_le (Nat.le_refl i),Co,List.take_add_one (l:=l),hx,List.getElem?_set_self ai]
     simp[List.filter_append,qQ]
    ·simp only
     rw[List.drop_set_of_lt ai,← List.drop_drop,NT,List.drop_drop]
   ·intro hp
    have qQ:p x=true:=by simpa using hp
    refine go ?_
    refine aO ih (i,j+1,E) rfl ⟨by simp only;omega,by simp only;omega,MR,by simp only;rw[Co,List.take_add_one,hx];simp[List.filter_append,qQ],by simp only;rw[← List.drop_drop,NT,List.drop_drop]⟩ (by simp only;omega) bY ad
  ·intro eQ
   refine go ?_
   simp only at eQ
   have Jm:j=l.length:=by omega
   subst Jm
   rw[List.take_length]at Co
   have B6:(l.filter fun x => !p x).length=i:=by rw[← Co,List.length_take];omega
   refine pQ (U:=ao) zr zr zr zr zr zr zr ai ai (.inl rfl) ?_
   intro o1 K3 Us
   simp only[Int.toNat_natCast]at K3 Us
   have K2:i≠c→o1=o+i:=fun h=>by have h2:o1=o+i*1:=K3 h;omega
   have hL:(pre++E.map bP++bM).length=o+l.length+bM.length:=by rw[List.length_append,List.length_append,eA,lE]
   obtain⟨p8,Ld,aaC⟩:∃p8,(pre++E.map bP++bM).take o1++(List.replicate (((l.length:Int).toNat-(i:Int).toNat)) [Value.pointer none]).flatten++(pre++E.map bP++bM).drop (o1+((l.length:Int).toNat-(i:Int).toNat)*1)=pre++(E.take i).map bP++p8∧c*1≤i*1+p8.length:=by
    have Te:i≠c:=by omega
    rw[K2 Te,← lE,List.append_assoc pre,List.take_length_add_append,List.take_append_of_le_length (by rw[eA];omega),List.map_take]
    refine⟨_,by rw[List.append_assoc],?_⟩
    rw[List.length_append,List.length_drop,ld]
    simp only[List.length_append,List.length_cons,List.length_nil,eA,Int.toNat_natCast]
    have:=iy
    rw[List.length_map]at this
    omega
   refine GA (U:=ao) (l':=pre++(E.take i).map bP++p8) 0 fR zr zr zr zr zr zr zr zr ?_ ?_ rfl ?_
   ·have Te:i≠c:=by omega
    show o1+((l.length:Int).toNat-(i:Int).toNat)*1≤_
    rw[K2 Te,hL];omega
   ·rw[← Ld];rfl
   refine go ?_
   refine pQ (U:=ao) zr zr zr zr zr zr zr ai ai (.inr ai) ?_
   intro o2 ho3 ho4
   have S3:o2=o:=by
    by_cases Dw:(0:Int).toNat=c
    ·exact ho4 Dw
    ·have:=ho3 Dw;rw[this];simp
   subst S3
   refine go ?_
   refine aj (kU (sz:=1) (nn:=i) (c:=c) lE ai (by rw[List.length_map,List.length_take,Nat.min_eq_left ai];omega) (by rw[List.length_map,List.length_take];omega) _) ?_
   rw[← Co,Co,B6,← Co]at hE
   refine ae hE Tryz.func160 rfl _ zr zr (aq.fin [0,1] 0 zr zr)
set_option maxRecDepth 20000 in
theorem Bh(ts:List Tk)(d:Dg)(bx:Nat)(y:Tk)(hy:y∈ts):aD Tryz.prog 161 [ptr y.yb,ptr bx] [Sep [aP ts,ag bx (cl (dC d) 36)] ] (fun r H=>r = .bool (decide (y.x.d=d))∧H=[Sep [aP ts,ag bx (cl (dC d) 36)] ]):=by
 obtain⟨i,hi⟩:=List.mem_iff_getElem?.1 hy
 refine aD.enter Tryz.func161 ak rfl Tryz.ntmps161 zr zr ?_
 intro G F R hE
 refine aj (aq.cg [_,_] _) ?_
 refine aj (iM hi _) ?_
 refine dM (eG y) ?_
 rintro z hz
 refine aj (H':=ag y.yb (cl (iY y) 83)::ag bx (cl (dC d) 36)::ag y.sb (cl [.int .i64 (y.n:Int),z.1] 101)::az 102 1 z.1 y.ws.length (qV y.ws)::aL (Value.int .i64) y.mb z.2.1::aV 36 z.2.2::aP (ts.take i++ts.drop (i+1))::F) ad ?_
 refine go ?_
 refine aF (fun w=>Sat G w ([ag y.yb (cl (iY y) 83),ag bx (cl (dC d) 36)])) (.st 0 (.st 1 (.st 2 (.st 3 (.st 4 (.st 5 (.st 6 (.st 7 .nil)))))))) rfl ak ak ak (fun w hw=>hw.aX ad) ?_
 refine go ?_
 refine bW (U:=ao) 0 zr zr zr zr zr zr ?_
 refine go ?_
 refine bD (U:=ao) (l:=dC d) 1 zr zr zr zr zr zr ?_
 refine go ?_
 refine jI (b:=decide (y.x.d=d)) zr zr zr Ih (fun w=>Iq y.x.d d w) ?_
 refine go ?_
 refine aj (H':=ki y z++(aP (ts.take i++ts.drop (i+1))::ag bx (cl (dC d) 36)::F)) (by unfold ki;exact ad) ?_
 refine aj (gB hz _) ?_
 refine aj (jE hi _) ?_
 refine aj (aq.bL [_,_] _) ?_
 ((refine ae hE Tryz.func161 rfl _ rfl ⟨rfl,rfl⟩ ad))
end Go.Proofs.YthjbidjmgbjkiaaGreatDoor
namespace Go.Proofs.YthjbidjmgbjkiaaGreatDoor
open Go Go.SL
theorem qn(q:Tk→Bool):∀(ts:List Tk) (H:List HP),aq (aP ts::H) (aP (ts.filter q)::H)
 | [],H=>aq.refl _
 | y::ts,H=>by
  have h1:aq (aP (y::ts)::H) (mV y::aP ts::H):=zp [] ts y H
  by_cases hq:q y=true
  ·rw[List.filter_cons_of_pos hq]
   have h2:aq (mV y::aP (ts.filter q)::H) (aP (y::ts.filter q)::H):=sM [] (ts.filter q) y H
   exact h1.trans ((aq.cons _ (qn q ts H)).trans h2)
  ·rw[List.filter_cons_of_neg hq]
   exact h1.trans ((aq.drop _ _).trans (qn q ts H))
def mW(ts:List Tk)(d:Dg):List Tk:=ts.filter fun y => !decide (y.x.d=d)
attribute [local irreducible] J K aD Ends ag az aL bK aZ aQ aV bg bQ aC
set_option maxRecDepth 20000 in
theorem vy(tb bs jb:Nat)(tv:Value)(br:Bool)(ts:List Tk)(d:Dg)(hl:ts.length≤1000000):aD Tryz.prog 100 [ptr tb,dV d] (dg tb bs jb tv ts br)
  (fun r H=>r = .tuple #[]∧∃lM,H=dg tb bs jb lM (mW ts d) br):=by
 unfold dg dV
 refine aD.enter Tryz.func100 ak rfl Tryz.ntmps100 zr zr ?_
 intro G F R hE
 ((refine db 1 rfl ?_))
 rintro a c rfl
 refine aE rfl ?_
 refine bq zr zr bp ?_
 intro b3
 refine go ?_
 refine aG (H':=ag tb (cl [ptr bs,ptr jb,.slice a ts.length c,.bool br] 78)::az 80 1 (.slice a ts.length c) ts.length (ts.map bP)::aP ts::ag b3 (cl (dC d) 36)::F) ad ?_
 refine aG (aq.cons _ (aq.cons _ (aq.bL [_,_] _))) ?_
 refine go ?_
 ((refine ah zr zr zr zr (xT _ ts _ 161 [ptr b3] (fun y=>decide (y.x.d=d)) hl (fun y hy=>Bh ts d b3 y hy)) ad ?_ bE))
 rintro r _ rfl
 ((refine aM 0 rfl ?_))
 rintro a2 c2 rfl
 refine go ?_
 refine aj (H':=Sep [aP ts,ag b3 (cl (dC d) 36)]::ag tb (cl [ptr bs,ptr jb,.slice a2 (mW ts d).length c2,.bool br] 78)::az 80 1 (.slice a2 (mW ts d).length c2) (mW ts d).length ((mW ts d).map bP)::F) ad ?_
 refine aj (aq.cg [_,_] _) ?_
 refine aj (qn (fun y => !decide (y.x.d=d)) ts _) ?_
 refine aj (H':=ag tb (cl [ptr bs,ptr jb,.slice a2 (mW ts d).length c2,.bool br] 78)::az 80 1 (.slice a2 (mW ts d).length c2) (mW ts d).length ((mW ts d).map bP)::aP (mW ts d)::F) ad ?_
 ((refine bO hE Tryz.func100 rfl _ rfl ⟨rfl,_,rfl⟩ ad))
end Go.Proofs.YthjbidjmgbjkiaaGreatDoor
namespace Go.Proofs.YthjbidjmgbjkiaaGreatDoor
open Go Go.SL
def bS(bs bd jb:Nat)(q:Int)(mb:Nat)(Xs:List HP)(x:SJ):HP:=Sep (bT bs bd q mb x.1++(oz jb bd dX x.2::Xs))
theorem qm(l:List HP):aq [Sep l] l:=by have:=aq.cg l [];rwa[List.append_nil]at this
theorem qt(l:List HP):aq l [Sep l]:=by have:=aq.bL l [];rwa[List.append_nil]at this
def SQ(m:Nat)(i:Nat)(y:SJ):Prop:=0≤y.2.n∧(0≤y.2.s∧y.2.s≤1000000)∧y.1.A.aH.length≤m+10*i∧y.1.A.writes.length≤m+10*i
theorem SQ.append{m i:Nat}{x y:SJ}{b:List UInt8}{e:Nat}(h:SQ m i x)(hS:vo b x e y):SQ m (i+1) y:=by
 obtain⟨h1,h2⟩:=hS
 subst h2
 have hg:=rZ x.1.A dX x.2 b
 obtain⟨a1,⟨a2,a3⟩,a4,a5⟩:=h
 unfold SQ
 dsimp only
 refine⟨?_,?_,ai,ai⟩
 ·unfold cB
  split
  ·exact a1
  split
  ·exact a1
  split
  ·exact a1
  split
  ·exact a1
  ·exact a1
 ·unfold cB
  split
  ·exact⟨a2,a3⟩
  split
  ·exact⟨a2,a3⟩
  split
  ·exact⟨a2,a3⟩
  split
  ·dsimp only;omega
  ·exact⟨a2,a3⟩
attribute [local irreducible] J K aD Ends ag az aL bK aZ aQ aV bg bQ aC
theorem sY(tb bs jb bd b2 b3:Nat)(tv:Value)(q:Int)(mb:Nat)(x:SJ)(Z:HP)(Ys:List HP)(a:Option Addr)(c:Nat)(b:List UInt8)(hb:dR Z (.slice a b.length c) b)(hl:b.length≤1000000)(hs:0≤x.2.s∧x.2.s≤1000000000)(eA:x.1.A.writes.length≤1000000000) :
  aD Tryz.prog 80 [ptr b2,ptr b3] [gC tb bs jb tv false,bS bs bd jb q mb (ag b2 (cl [ptr tb] 31)::ag b3 (cl [.slice a b.length c] 39)::Z::Ys) x]
  (fun r H=>∃(e:Nat) (x':SJ),r = .int .i64 (e:Int)∧H=[gC tb bs jb tv false,bS bs bd jb q mb (ag b2 (cl [ptr tb] 31)::ag b3 (cl [.slice a b.length c] 39)::Z::Ys) x']∧vo b x e x'):=by
 have c0:=aD.frame ([ag bs (cl (dK bd q mb x.1.brk) 108),aL dV mb (cW x.1.aT)]++Ys) (Eb tb bs jb bd b2 b3 tv x.1.A x.2 Z a c b hb ai hs eA)
 refine c0.conv ?_ ?_
 ·unfold bS bT
  exact(aq.cons _ (qm _)).trans ad
 ·rintro v H⟨H',⟨rfl,rfl⟩,rfl⟩
  refine⟨[gC tb bs jb tv false,bS bs bd jb q mb _ (⟨(cB dX x.1.A x.2 b).2.1,x.1.aT,x.1.brk⟩,(cB dX x.1.A x.2 b).2.2)],⟨_,_,rfl,rfl,rfl,rfl⟩,?_⟩
  unfold bS bT
  exact aq.trans ad (aq.cons _ (qt _))
theorem oN(tb bs jb bd:Nat)(tv:Value)(q:Int)(mb:Nat)(x:SJ)(Xs:List HP)(hn:0≤x.2.n)(hs:0≤x.2.s∧x.2.s≤1000000000)(cE:x.1.A.aH.length≤900000000)(zR:x.1.A.writes.length≤900000000) :
  aD Tryz.prog 82 [ptr jb] [gC tb bs jb tv false,bS bs bd jb q mb Xs x]
  (fun r H=>∃(e:Nat) (x':SJ),r = .int .i64 (e:Int)∧H=[gC tb bs jb tv false,bS bs bd jb q mb Xs x']∧A5 x e x'):=by
 have c0:=aD.frame ([gC tb bs jb tv false,ag bs (cl (dK bd q mb x.1.brk) 108),aL dV mb (cW x.1.aT)]++Xs) (Fj jb bd dX x.1.A x.2 hn hs cE zR)
 refine c0.conv ?_ ?_
 ·unfold bS bT
  exact(aq.cons _ (qm _)).trans ad
 ·rintro v H⟨H',⟨e,A',x',rfl,rfl,hC⟩,rfl⟩
  refine⟨[gC tb bs jb tv false,bS bs bd jb q mb _ (⟨A',x.1.aT,x.1.brk⟩,x')],⟨e,_,rfl,rfl,A',x',hC,rfl⟩,?_⟩
  unfold bS bT
  exact aq.trans ad (aq.cons _ (qt _))
theorem Bc(tb bs jb bd b2 b3 row:Nat)(tv:Value)(q:Int)(mb:Nat)(x:SJ)(Z:HP)(Ys:List HP)(a:Option Addr)(c:Nat)(b:List UInt8)(hb:dR Z (.slice a b.length c) b)(hl:b.length≤1000000)(m:Nat)(hm:m≤800000000)(hx:SQ m 0 x) :
  aD Tryz.prog 32 [ptr tb,.slice (some ⟨row,0,none⟩) 2 2] [ag row (cl (gm b2 b3 jb) 86),gC tb bs jb tv false,bS bs bd jb q mb (ag b2 (cl [ptr tb] 31)::ag b3 (cl [.slice a b.length c] 39)::Z::Ys) x]
  (fun r H=>∃(e:Nat) (x':SJ),r = .int .i64 (e:Int)∧H=[ag row (cl (gm b2 b3 jb) 86),gC tb bs jb tv (eZ e),bS bs bd jb q mb (ag b2 (cl [ptr tb] 31)::ag b3 (cl [.slice a b.length c] 39)::Z::Ys) x']∧gy (iE b) x e x'):=by
 refine pk (bS bs bd jb q mb (ag b2 (cl [ptr tb] 31)::ag b3 (cl [.slice a b.length c] 39)::Z::Ys)) tb bs jb tv _ _ (gm b2 b3 jb) (Vw.ag rfl) (by simp[gm]) (iE b) rfl (fun i y=>i≤1→SQ m i y) ?_ x (fun _=>hx)
 intro i fv s lH hs
 match i,lH,hs with
 | 0,lH,hs =>
  cases lH
  cases hs
  refine⟨_,_,_,rfl,fun y hy=>?_⟩
  have hq:=hy ai
  obtain⟨a1,⟨a2,a3⟩,a4,a5⟩:=hq
  refine aD.post (sY tb bs jb bd b2 b3 tv q mb y Z Ys a c b hb hl ⟨a2,ai⟩ ai) ?_
  rintro v H⟨e,x',rfl,rfl,hS⟩
  exact⟨e,x',rfl,rfl,hS,fun _ _=>SQ.append ⟨a1,⟨a2,a3⟩,a4,a5⟩ hS⟩
 | 1,lH,hs =>
  cases lH
  cases hs
  refine⟨_,_,_,rfl,fun y hy=>?_⟩
  have hq:=hy ai
  obtain⟨a1,⟨a2,a3⟩,a4,a5⟩:=hq
  refine aD.post (oN tb bs jb bd tv q mb y _ a1 ⟨a2,ai⟩ ai ai) ?_
  rintro v H⟨e,x',rfl,rfl,hS⟩
  exact⟨e,x',rfl,rfl,hS,fun _ h=>absurd h ai⟩
 | n+2,lH,hs=>cases hs
end Go.Proofs.YthjbidjmgbjkiaaGreatDoor
namespace Go.Proofs.YthjbidjmgbjkiaaGreatDoor
open Go Go.SL
theorem wQ(bs bd jb:Nat)(q:Int)(mb:Nat)(Xs:List HP)(x:SJ)(F:List HP):aq (bS bs bd jb q mb [] x::(Xs++F)) (bS bs bd jb q mb Xs x::F):=by
 unfold bS
 refine(aq.cg _ _).trans ?_
 have h:bT bs bd q mb x.1++[oz jb bd dX x.2]++(Xs++F)=(bT bs bd q mb x.1++(oz jb bd dX x.2::Xs))++F:=by simp
 rw[h]
 exact aq.bL _ _
theorem sk(bs bd jb:Nat)(q:Int)(mb:Nat)(Xs:List HP)(x:SJ)(F:List HP):aq (bS bs bd jb q mb Xs x::F) (bS bs bd jb q mb [] x::(Xs++F)):=by
 unfold bS
 refine(aq.cg _ _).trans ?_
 have h:(bT bs bd q mb x.1++(oz jb bd dX x.2::Xs))++F=bT bs bd q mb x.1++[oz jb bd dX x.2]++(Xs++F):=by simp
 rw[h]
 exact aq.bL _ _
theorem Mi(X:HP):qi X (.slice none 0 0) []:=⟨[],Vw.nil X none 0,rfl,⟨none,0,rfl,Nat.le_refl _⟩,fun i x h=>by simp at h⟩
def Ir(d:Dg):List UInt8:=jM 3 d []
attribute [local irreducible] J K aD Ends ag az aL bK aZ aQ aV bg bQ aC bS
set_option maxRecDepth 20000 in
set_option maxHeartbeats 1000000 in
theorem Gd(tb bs jb bd:Nat)(tv:Value)(q:Int)(mb:Nat)(ts:List Tk)(s:SJ)(x:Bl)(hl:ts.length≤1000000)(m:Nat)(hm:m≤800000000)(hx:SQ m 0 s) :
  aD Tryz.prog 44 [ptr tb,dQ x] (dg tb bs jb tv ts false++[bS bs bd jb q mb [] s])
  (fun r H=>∃(e:Nat) (s':SJ) (lM:Value),r = .int .i64 (e:Int)∧H=dg tb bs jb lM (if e=0 then mW ts x.d else ts) (eZ e)++[bS bs bd jb q mb [] s']∧gy (iE (Ir x.d)) s e s'):=by
 have hlen:=gF 3 x.d [] (by simp) (by simp)
 have F1:=fun tv=>vy tb bs jb tv false ts x.d hl
 have OQ:=fun a n c=>sX tb bs jb tv a n c
 have gS:=fun b2 b3 row Z Ys a c b hb hl=>Bc tb bs jb bd b2 b3 row tv q mb s Z Ys a c b hb hl m hm hx
 unfold dg at F1 ⊢
 unfold gC at OQ gS
 unfold dQ
 refine aD.enter Tryz.func44 ak rfl Tryz.ntmps44 zr zr ?_
 intro G F R hE
 refine aE rfl ?_
 refine bq zr zr bp ?_
 intro b3
 refine go ?_
 refine ef (U:=ao) 0 zr zr zr zr zr zr ?_
 ((refine ah zr zr zr zr (qu 3 x.d (ag b3 (cl (bn x) 38)) (.slice none 0 0) [] (Mi _) (by simp) (by simp)) ad ?_ bE))
 rintro r _ rfl
 ((refine aM 0 rfl ?_))
 rintro a8 c8 rfl
 refine go ?_
 ((refine ah zr zr zr zr (OQ a8 (jM 3 x.d []).length c8) ad ?_ bE))
 rintro _ _⟨c2,c3,row,rfl,rfl⟩
 refine go ?_
 refine aG (H':=az 5 1 (.slice a8 (jM 3 x.d []).length c8) (jM 3 x.d []).length (bV (jM 3 x.d []))::bS bs bd jb q mb [] s::ag c2 (cl [ptr tb] 31)::ag c3 (cl [.slice a8 (jM 3 x.d []).length c8] 39)::ag row (cl (gm c2 c3 jb) 86)::ag tb (cl [ptr bs,ptr jb,tv,.bool false] 78)::az 80 1 tv ts.length (ts.map bP)::aP ts::ag b3 (cl (bn x) 38)::F) ad ?_
 refine fG (bs:=jM 3 x.d []) 0 rfl ?_
 intro F'
 refine aG (H':=bS bs bd jb q mb [] s::([ag c2 (cl [ptr tb] 31),ag c3 (cl [.slice a8 (jM 3 x.d []).length c8] 39),az 5 1 (.slice a8 (jM 3 x.d []).length c8) (jM 3 x.d []).length (bV (jM 3 x.d []))]++(ag row (cl (gm c2 c3 jb) 86)::ag tb (cl [ptr bs,ptr jb,tv,.bool false] 78)::az 80 1 tv ts.length (ts.map bP)::aP ts::ag b3 (cl (bn x) 38)::F))) ad ?_
 refine aG (wQ bs bd jb q mb _ s _) ?_
 ((refine ah zr zr zr zr (gS c2 c3 row _ [] a8 c8 (jM 3 x.d []) F' ai) ad ?_ bE))
 rintro _ _⟨e,s',rfl,rfl,hR⟩
 ((refine aG (H':=bS bs bd jb q mb (ag c2 (cl [ptr tb] 31)::ag c3 (cl [.slice a8 (jM 3 x.d []).length c8] 39)::az 5 1 (.slice a8 (jM 3 x.d []).length c8) (jM 3 x.d []).length (bV (jM 3 x.d []))::[]) s'::ag tb (cl [ptr bs,ptr jb,tv,.bool (eZ e)] 78)::az 80 1 tv ts.length (ts.map bP)::aP ts::ag b3 (cl (bn x) 38)::F) ad ?_))
 refine aG (sk bs bd jb q mb _ s' _) ?_
 by_cases he:e=0
 ·subst he
  ((refine aG (H':=ag b3 (cl (bn x) 38)::ag tb (cl [ptr bs,ptr jb,tv,.bool false] 78)::az 80 1 tv ts.length (ts.map bP)::aP ts::bS bs bd jb q mb [] s'::F) ad ?_))
  refine go ?_
  refine ef (U:=ao) 0 zr zr zr zr zr zr ?_
  ((refine ah zr zr zr zr (F1 tv) ad ?_ bE))
  rintro _ _⟨rfl,lM,rfl⟩
  refine go ?_
  refine aj (H':=ag tb (cl [ptr bs,ptr jb,lM,.bool false] 78)::az 80 1 lM (mW ts x.d).length ((mW ts x.d).map bP)::aP (mW ts x.d)::bS bs bd jb q mb [] s'::F) ad ?_
  ((refine ae hE Tryz.func44 rfl _ rfl ⟨0,s',lM,rfl,rfl,hR⟩ ad))
 ·((refine aG (H':=ag tb (cl [ptr bs,ptr jb,tv,.bool (eZ e)] 78)::az 80 1 tv ts.length (ts.map bP)::aP ts::bS bs bd jb q mb [] s'::F) ad ?_))
  refine go ?_
  refine aw zr zr ?_ ?_
  ·intro _
   refine go ?_
   ((refine ae hE Tryz.func44 rfl _ rfl ⟨e,s',tv,rfl,by rw[if_neg he],hR⟩ ad))
  ·intro h;exfalso;omega
end Go.Proofs.YthjbidjmgbjkiaaGreatDoor
namespace Go.Proofs.YthjbidjmgbjkiaaGreatDoor
open Go Go.SL
attribute [local irreducible] J K aD Ends ag az aL bK aZ aQ aV bg bQ aC
theorem CH(tb bs jb bd b2 b3:Nat)(q:Int)(mb:Nat)(tv:Value)(s:ek)(x:Bl)(cE:s.A.aH.length≤900000000)(eA:s.A.writes.length≤900000000) :
  aD Tryz.prog 45 [ptr b2,ptr b3] (gC tb bs jb tv false::(bT bs bd q mb s++[ag b2 (cl [ptr tb] 31),ag b3 (cl (bn x) 38)]))
  (fun r H=>∃(e:Nat) (t:ek),r = .int .i64 (e:Int)∧H=gC tb bs jb tv false::(bT bs bd q mb t++[ag b2 (cl [ptr tb] 31),ag b3 (cl (bn x) 38)])∧eL x s e t):=by
 have nM:=Dl bs bd q mb s x cE eA
 unfold dQ at nM
 unfold gC
 refine aD.enter Tryz.func45 ak rfl Tryz.ntmps45 zr zr ?_
 intro G F R hE
 refine go ?_
 refine aF (fun w=>Sat G w ([ag tb (cl [ptr bs,ptr jb,tv,.bool false] 78),ag b2 (cl [ptr tb] 31),ag b3 (cl (bn x) 38)])) (.st 0 (.st 1 (.st 2 (.st 3 (.st 4 (.act 5 (.st 6 .nil))))))) rfl ak ak ak (fun w hw=>hw.aX ad) ?_
 refine go ?_
 refine bD (U:=ao) (l:=bn x) 2 zr zr zr zr zr zr ?_
 refine go ?_
 refine ah rfl rfl rfl rfl nM ad ?_ (fun _ _ w hp hw=>by obtain⟨_,_,rfl,rfl,_⟩:=hp;exact hw.aX ad)
 rintro _ _⟨e,t,rfl,rfl,hR⟩
 refine go ?_
 refine aj (H':=ag tb (cl [ptr bs,ptr jb,tv,.bool false] 78)::(bT bs bd q mb t++(ag b2 (cl [ptr tb] 31)::ag b3 (cl (bn x) 38)::F))) ad ?_
 ((refine ae hE Tryz.func45 rfl _ rfl ⟨e,t,rfl,rfl,hR⟩ ad))
theorem Aa(X:HP)(hK:mX X)(tb bs jb bd b2 b3:Nat)(q:Int)(mb:Nat)(tv:Value)(s:ek)(x:Bl)(cE:s.A.aH.length≤900000000)(eA:s.A.writes.length≤900000000) :
  aD Tryz.prog 42 [ptr b2,ptr b3] (gC tb bs jb tv false::(bT bs bd q mb s++[X,ag b2 (cl [ptr tb] 31),ag b3 (cl (bn x) 38)]))
  (fun r H=>∃(e:Nat) (t:ek),r = .int .i64 (e:Int)∧H=gC tb bs jb tv false::(bT bs bd q mb t++[X,ag b2 (cl [ptr tb] 31),ag b3 (cl (bn x) 38)])∧dr x s e t):=by
 have nM:=Fe X hK bs bd q mb s x cE eA
 unfold dQ at nM
 unfold gC
 refine aD.enter Tryz.func42 ak rfl Tryz.ntmps42 zr zr ?_
 intro G F R hE
 refine go ?_
 refine aF (fun w=>Sat G w ([ag tb (cl [ptr bs,ptr jb,tv,.bool false] 78),ag b2 (cl [ptr tb] 31),ag b3 (cl (bn x) 38)])) (.st 0 (.st 1 (.st 2 (.st 3 (.st 4 (.act 5 (.st 6 .nil))))))) rfl ak ak ak (fun w hw=>hw.aX ad) ?_
 refine go ?_
 refine bD (U:=ao) (l:=bn x) 2 zr zr zr zr zr zr ?_
 refine go ?_
 refine ah rfl rfl rfl rfl nM ad ?_ (fun _ _ w hp hw=>by obtain⟨_,_,rfl,rfl,_⟩:=hp;exact hw.aX ad)
 rintro _ _⟨e,t,rfl,rfl,hR⟩
 refine go ?_
 refine aj (H':=ag tb (cl [ptr bs,ptr jb,tv,.bool false] 78)::(bT bs bd q mb t++(X::ag b2 (cl [ptr tb] 31)::ag b3 (cl (bn x) 38)::F))) ad ?_
 ((refine ae hE Tryz.func42 rfl _ rfl ⟨e,t,rfl,rfl,hR⟩ ad))
theorem CJ(tb bs jb bd b2 b3:Nat)(q:Int)(mb:Nat)(tv:Value)(s:SJ)(x:Bl)(Ys:List HP)(cE:s.1.A.aH.length≤900000000)(eA:s.1.A.writes.length≤900000000) :
  aD Tryz.prog 45 [ptr b2,ptr b3] [gC tb bs jb tv false,bS bs bd jb q mb (ag b2 (cl [ptr tb] 31)::ag b3 (cl (bn x) 38)::Ys) s]
  (fun r H=>∃(e:Nat) (t:SJ),r = .int .i64 (e:Int)∧H=[gC tb bs jb tv false,bS bs bd jb q mb (ag b2 (cl [ptr tb] 31)::ag b3 (cl (bn x) 38)::Ys) t]∧cX (eL x) s e t):=by
 have c0:=aD.frame ([oz jb bd dX s.2]++Ys) (CH tb bs jb bd b2 b3 q mb tv s.1 x cE eA)
 refine c0.conv ?_ ?_
 ·unfold bS bT
  exact(aq.cons _ (qm _)).trans ad
 ·rintro v H⟨H',⟨e,t,rfl,rfl,hC⟩,rfl⟩
  refine⟨[gC tb bs jb tv false,bS bs bd jb q mb _ (t,s.2)],⟨e,_,rfl,rfl,hC,rfl⟩,?_⟩
  unfold bS bT
  exact aq.trans ad (aq.cons _ (qt _))
theorem Ac(X:HP)(hK:mX X)(tb bs jb bd b2 b3:Nat)(q:Int)(mb:Nat)(tv:Value)(s:SJ)(x:Bl)(Ys:List HP)(cE:s.1.A.aH.length≤900000000)(eA:s.1.A.writes.length≤900000000) :
  aD Tryz.prog 42 [ptr b2,ptr b3] [gC tb bs jb tv false,bS bs bd jb q mb (ag b2 (cl [ptr tb] 31)::ag b3 (cl (bn x) 38)::X::Ys) s]
  (fun r H=>∃(e:Nat) (t:SJ),r = .int .i64 (e:Int)∧H=[gC tb bs jb tv false,bS bs bd jb q mb (ag b2 (cl [ptr tb] 31)::ag b3 (cl (bn x) 38)::X::Ys) t]∧cX (dr x) s e t):=by
 have c0:=aD.frame ([oz jb bd dX s.2]++Ys) (Aa X hK tb bs jb bd b2 b3 q mb tv s.1 x cE eA)
 refine c0.conv ?_ ?_
 ·unfold bS bT
  exact(aq.cons _ (qm _)).trans ad
 ·rintro v H⟨H',⟨e,t,rfl,rfl,hC⟩,rfl⟩
  refine⟨[gC tb bs jb tv false,bS bs bd jb q mb _ (t,s.2)],⟨e,_,rfl,rfl,hC,rfl⟩,?_⟩
  unfold bS bT
  exact aq.trans ad (aq.cons _ (qt _))
theorem Bd(tb bs jb bd row:Nat)(tv:Value)(q:Int)(mb:Nat)(s:SJ)(Xs:List HP)(g:FuncId)(cap:List Value)(S:SJ→Nat→SJ→Prop)(hc:aD Tryz.prog g cap [gC tb bs jb tv false,bS bs bd jb q mb Xs s] (fun r H=>∃(e:Nat) (t:SJ),r = .int .i64 (e:Int)∧H=[gC tb bs jb tv false,bS bs bd jb q mb Xs t]∧S s e t)) :
  aD Tryz.prog 32 [ptr tb,.slice (some ⟨row,0,none⟩) 1 1] [ag row (cl [.func (.func g) #[] cap.toArray] 86),gC tb bs jb tv false,bS bs bd jb q mb Xs s]
  (fun r H=>∃(e:Nat) (t:SJ),r = .int .i64 (e:Int)∧H=[ag row (cl [.func (.func g) #[] cap.toArray] 86),gC tb bs jb tv (eZ e),bS bs bd jb q mb Xs t]∧S s e t):=by
 have h0:=pk (bS bs bd jb q mb Xs) tb bs jb tv (ag row (cl [.func (.func g) #[] cap.toArray] 86)) (.slice (some ⟨row,0,none⟩) 1 1) [.func (.func g) #[] cap.toArray] (Vw.ag rfl) (by simp) [S] rfl (fun i y=>i=0→y=s) (by
  intro i fv S' lH hs
  match i,lH,hs with
  | 0,lH,hs =>
   cases lH
   cases hs
   refine⟨_,_,_,rfl,fun y hy=>?_⟩
   have:=hy rfl
   subst this
   refine aD.post hc ?_
   rintro v H⟨e,t,rfl,rfl,hS⟩
   exact⟨e,t,rfl,rfl,hS,fun _ h=>absurd h ai⟩
  | n+1,lH,hs=>cases hs) s (fun _=>rfl)
 refine aD.post h0 ?_
 rintro v H⟨e,t,rfl,rfl,hR⟩
 refine⟨e,t,rfl,rfl,?_⟩
 obtain⟨e1,t1,hS,c1⟩:=hR
 rcases c1 with⟨_,rfl,rfl⟩|⟨rfl,rfl,rfl⟩
 ·exact hS
 ·exact hS
end Go.Proofs.YthjbidjmgbjkiaaGreatDoor
