import Derived.Test.YtedjnjkijiddlaaGreatDoorQPT8
import Derived.Test.YtedjnjkijiddlaaGreatDoorQPT9
import Derived.Test.YtedjnjkijiddlaaGreatDoorQPT11
import Derived.Test.YtedjnjkijiddlaaGreatDoorQPT12
import Derived.Test.YtedjnjkijiddlaaGreatDoorQPT13
set_option linter.unusedSimpArgs false
set_option linter.unusedVariables false
set_option maxHeartbeats 2000000
set_option maxRecDepth 20000
set_option linter.defProp false
namespace Go.Proofs.YtedjnjkijiddlaaGreatDoor
open Go Go.SL
variable{x:Bl}{br:Bool}{ts:List Tk}{e:Nat}{s t:SJ}
structure HJ(m:Nat)(x:SJ):Prop where
 ha:HA x.1.A
 brk:x.1.brk=false
 room:x.1.A.room=1048576
 nl:x.1.A.names.length≤4
 small:∀n c,vw x.1.A n=some c→c.length≤100000
 fl:∃C,vw x.1.A db=some C
 jn:∃(n c:Int) (s:Nat),x.2=⟨n,s,c,false⟩∧0≤n∧n≤m+1∧s≤1000*m
def HJ.used{m:Nat}{x:SJ}(h:HJ m x):x.1.A.used≤400000:=by
 have h1:=wR h.ha 100000 h.small
 have h2:=h.nl
 have:x.1.A.names.length*100000≤4*100000:=Nat.mul_le_mul_right _ h2
 omega
def IW{m:Nat}{x y:SJ}{b:List UInt8}(h:HJ m x)(hm:m<50)(hb:b.length≤900)(hR:iZ (kW b) x e y) :
  e=0∧HJ (m+1) y∧y.1.bt=x.1.bt∧(∀nm,nm≠db→vw y.1.A nm=vw x.1.A nm):=by
 have Ad:=h.used
 obtain⟨C,hC⟩:=h.fl
 have hCl:=h.small _ _ hC
 obtain⟨⟨A,bt,brk⟩,jn⟩:=x
 obtain⟨n,c,s,Jm,RH,Te,hs⟩:=h.jn
 simp only at hC Jm
 subst Jm
 have hA:HA A:=h.ha
 have Jf:A.room=1048576:=h.room
 have lD:A.names.length≤4:=h.nl
 have Ae:∀n c,vw A n=some c→c.length≤100000:=h.small
 simp only at Ad
 have pL:=n9 b ag
 obtain⟨e1,x1,⟨Cs,yX⟩,c1⟩:=hR
 obtain⟨a0,a1,a2,a3,a4⟩:=CU (A:=A) (n:=n) (c:=c) (s:=s) (b:=b) hA dZ hC ag ag ag
 simp only at Cs yX
 rw[a0]at Cs
 subst Cs
 rcases c1 with⟨bY,_⟩|⟨_,e2,x2,⟨A',x',mT,vZ⟩,c2⟩
 ·exact absurd rfl bY
 rw[yX]at mT vZ
 simp only at mT vZ
 rw[a4]at mT
 have EJ:(cY db A ⟨n,s,c,false⟩ b).2.1.names.length=A.names.length:=hA.qg a1 (fun m=>by
  rw[a2];unfold eK
  split
  ·rename_i hm;rw[hm,hC];rfl
  ·rfl)
 have Af:∀nm c',vw (cY db A ⟨n,s,c,false⟩ b).2.1 nm=some c'→c'.length≤100000:=fun nm c' ln=>by
  rw[a2]at ln
  unfold eK at ln
  split at ln
  ·injection ln with ln;rw[← ln,eW];omega
  ·exact Ae _ _ ln
 have S4:=wR a1 100000 Af
 rw[EJ]at S4
 have hu2:A.names.length*100000≤4*100000:=Nat.mul_le_mul_right _ lD
 obtain⟨g0,g1,⟨C',g2,g3⟩,g4,n',c',g5,g6,g7⟩:=CF a1 dZ (by rw[a2,dv]) RH ag (by rw[a3];omega) mT
 subst g0
 rcases c2 with⟨bY,_⟩|⟨_,he,hy⟩
 ·exact absurd rfl bY
 rw[eW]at g3
 have uH:∀nm c',vw A' nm=some c'→c'.length≤100000:=fun nm c' ln=>by
  rw[g2]at ln
  unfold eK at ln
  split at ln
  ·injection ln with ln;rw[← ln];omega
  ·exact Af _ _ ln
 have aeD:A'.names.length=A.names.length:=by
  rw[← EJ]
  exact a1.qg g1 (fun m=>by
   rw[g2];unfold eK
   split
   ·rename_i hm;rw[hm,a2,dv];rfl
   ·rfl)
 rw[he,hy,vZ]
 refine⟨rfl,⟨g1,h.brk,by show A'.room=_;rw[g4,a3];exact Jf,by show A'.names.length≤4;omega,uH,⟨C',by show vw A' db=_;rw[g2,dv]⟩,⟨n',c',s+(aV b).length,g5,ag,ag,ag⟩⟩,rfl,fun nm lD=>?_⟩
 show vw A' nm=vw A nm
 rw[g2,dL _ _ lD,a2,dL _ _ lD]
def AX(h:bO x=1):cW x=⟨x,1,[0#64],fun _=>none⟩:=by unfold cW;rw[h];rfl
def KB(hx:eu [7] 16=some x):cd x 0 [7] []=true:=by
 obtain⟨hr,iB,tj,Y1⟩:=ru hx
 have e7:=DF hr iB tj
 have hc:bO x=1:=by unfold bO;rw[if_pos hr,iB,tj];rfl
 have yG:x.root=cQ [7]:=by
  unfold eu cM at hx
  rw[if_pos (by decide)]at hx
  simp only[Option.map_some,Option.some.injEq]at hx
  rw[← hx]
  rfl
 unfold cd
 rw[e7,hc]
 simp only[List.length_cons,List.length_nil,Nat.zero_add]
 rw[show decide ((((0+1:Nat)):Int)=1)=true from rfl,Bool.true_and]
 unfold gb
 refine decide_eq_true ⟨ag,rfl,?_⟩
 rw[yG]
 rfl
def YF(hx:eu [7] 16=some x)(h:HJ 0 s)(hb:s.1.bt=[])(hn:s.1.A.names.length≤1)(hv:∀n,n≠db→vw s.1.A n=none)(hR:Mz 1000 x [] s false e ts br t) :
    ∃y:Tk,y.c=cW x∧ts=[y]∧br=false∧HJ 1 t∧gN t.1.bt x.d=some x∧vw t.1.A (iu x.d)=some []:=by
  obtain⟨hr,iB,tj,Y1⟩:=ru hx
  rcases hR with⟨h1,_⟩|⟨_,h1,_⟩|⟨_,_,MJ,⟨e1,x1,⟨hS,Tz⟩,gS⟩,pE⟩
  · cases h1
  · cases h1
  have Ad:jP s.1=0:=by
    have hf:rM s.1.A=0:=by
      rw[AB h.ha]
      unfold rC
      have hz:∀k∈eg s.1.A,rD k ((vw s.1.A k).getD [])=0:=fun k hk=>by
        by_cases hp:k=db
        · rw[hp,Of]
        · rw[hv k hp];unfold rD;split <;> rfl
      have:∀l:List ByteArray,(∀k∈l,rD k ((vw s.1.A k).getD [])=0)→(l.map fun k=>rD k ((vw s.1.A k).getD [])).sum=0:=by
        intro l
        induction l with
        | nil=>intro _;rfl
        | cons a l ih =>
          intro hl
          rw[List.map_cons,List.sum_cons,hl a (List.mem_cons_self ..),ih (fun k hk=>hl k (List.mem_cons_of_mem _ hk))]
      exact this _ hz
    unfold jP
    rw[hf,hb];rfl
  have hfS:fS x≠db:=gU kS x.d
  have hfB:fB x≠db:=gU kB x.d
  obtain⟨rfl,a1,b1,c1,v1,n1,r1⟩:=F5 h.ha h.brk hr (by rw[hb];rfl) (hv _ hfB) (by rw[Ad,iB];decide) (hv _ hfS) ag hS
  rcases gS with⟨bY,_⟩|⟨_,gS⟩
  · exact absurd rfl bY
  obtain⟨n,c,k,hj,pO,Bf,xe⟩:=h.jn
  obtain⟨C,hC⟩:=h.fl
  have h1:HJ 0 x1:=⟨a1,b1,by rw[r1];exact h.room,ag,fun n c hc=>by
    rw[v1]at hc
    split at hc
    · injection hc with hc;rw[← hc];simp
    · exact h.small _ _ hc,⟨C,by rw[v1,if_neg (fun e=>hfS e.symm)];exact hC⟩,n,c,k,by rw[Tz];exact hj,pO,Bf,xe⟩
  have iC:(bU x).length≤900:=by
    have:=g9 1 x.d (gY x) (by simp[gY]) (kG x (by rw[iB];decide) ag)
    unfold bU;omega
  obtain⟨rfl,h2,h3,h4⟩:=IW h1 ag iC gS
  rcases pE with⟨bY,_⟩|⟨_,y,hy,rfl⟩
  · exact absurd rfl bY
  refine⟨y,hy,rfl,MJ,h2,?_,?_⟩
  · rw[h3,c1,hb];simp[gN]
  · rw[← ab8,h4 _ hfS,v1];exact if_pos rfl
def YE(hx:eu [7] 16=some x){y:Tk}(h:HJ 1 s)(hy:y.c=cW x)(hb:gN s.1.bt x.d=some x)(hv:vw s.1.A (iu x.d)=some [])(hR:Ii x 0 [7] [] [y] s false e ts br t) :
    e=0∧IY (hD ts x) = .tuple #[.int .i64 0,.int .i64 0]∧∃z:Tk,ts=[z]∧z.n=1∧z.ws.length=1:=by
  obtain⟨hr,iB,tj,Y1⟩:=ru hx
  have e7:=DF hr iB tj
  have hc:bO x=1:=by unfold bO;rw[if_pos hr,iB,tj];rfl
  obtain⟨yb,sb,mb,yx,yn,yws,ypf⟩:=y
  rw[AX hc]at hy
  unfold Tk.c at hy
  simp only[TC.mk.injEq]at hy
  obtain⟨rfl,rfl,rfl,rfl⟩:=hy
  have yO:hD [(⟨yb,sb,mb,yx,1,[0#64],fun _=>none⟩:Tk)] yx=some ⟨yb,sb,mb,yx,1,[0#64],fun _=>none⟩:=by
    unfold hD;simp
  have jI:cy [0#64] 1 0=false:=by decide
  rcases hR with⟨h1,_⟩|⟨_,h1,_⟩|⟨_,k,z,hz,hk,hzx,hc⟩
  · cases h1
  · rw[yO]at h1;cases h1
  rw[yO]at hz
  injection hz with hz
  subst hz
  simp only at hc
  rcases hc with⟨h1,_⟩|⟨_,h1,_⟩|⟨_,_,h1,_⟩|⟨_,_,_,MJ,⟨e1,x1,⟨hS,Tz⟩,gS⟩,pE⟩
  · exfalso;omega
  · rw[jI]at h1;cases h1
  · rw[KB hx]at h1;cases h1
  have Ad:=h.used
  have Jf:=h.room
  have hfS:fS yx≠db:=gU kS yx.d
  obtain⟨rfl,a1,b1,c1,v1,n1,r1⟩:=Ih h.ha h.brk hb e7 rfl hv (by simp) (by simp;omega) hS
  rcases gS with⟨bY,_⟩|⟨_,e2,x2,⟨hY,hY2⟩,gS⟩
  · exact absurd rfl bY
  have mf:vw x1.1.A (fS yx)=some [7]:=by rw[v1,if_pos rfl];rfl
  unfold ko at hY
  have ho:gN x1.1.bt yx.d=some yx:=by rw[c1];exact hb
  rw[KP b1,if_pos ho,if_neg ag]at hY
  obtain⟨B,⟨e3,A1,h1,c2⟩,rE⟩:=hY
  unfold fg at h1
  rw[show isName (fS yx)=true from gK yx]at h1
  obtain⟨rfl,g1,g2,g3⟩:=a1.xP mf h1
  rcases c2 with⟨bY,_⟩|⟨_,rfl,rfl⟩
  · exact absurd rfl bY
  rcases gS with⟨bY,_⟩|⟨_,gS⟩
  · exact absurd rfl bY
  obtain⟨n,c,k',hj,pO,Bf,xe⟩:=h.jn
  obtain⟨C,hC⟩:=h.fl
  have EJ:B.names.length=s.1.A.names.length:=by
    rw[← n1]
    exact a1.qg g1 (fun m=>by rw[g2])
  have h2:HJ 1 x2:=by
    have e1:x2.1.A=B:=by rw[rE]
    have e2:x2.1.brk=false:=by rw[rE];simp[b1]
    exact⟨by rw[e1];exact g1,e2,by rw[e1,g3,r1];exact Jf,by rw[e1,EJ];exact h.nl,fun n c hc=>by
      rw[e1,g2,v1]at hc
      split at hc
      · injection hc with hc;rw[← hc];simp[eW]
      · exact h.small _ _ hc,⟨C,by rw[e1,g2,v1,if_neg (fun e=>hfS e.symm)];exact hC⟩,n,c,k',by rw[hY2,Tz];exact hj,pO,Bf,xe⟩
  have iC:(bJ yx.d (0:Int).toNat []).length≤900:=by
    have:=g9 2 yx.d (eB 0 []) (by simp[eB]) (ku 0 ag [])
    unfold bJ
    unfold eB at this
    simp only[Int.toNat_zero]
    omega
  obtain⟨rfl,-,-,-⟩:=IW h2 ag iC gS
  rcases pE with⟨bY,_⟩|⟨_,rfl⟩
  · exact absurd rfl bY
  refine⟨rfl,?_⟩
  refine⟨?_,?_⟩
  rotate_left
  · have Tl:k=0:=by
      rcases Nat.eq_zero_or_pos k with h|h
      · exact h
      · rw[List.getElem?_eq_none (by simp;omega)]at hk;cases hk
    subst Tl
    exact⟨_,rfl,rfl,by simp[Tk.put,jR]⟩
  have Tl:k=0:=by
    rcases Nat.eq_zero_or_pos k with h|h
    · exact h
    · rw[List.getElem?_eq_none (by simp;omega)]at hk;cases hk
  subst Tl
  unfold hD
  simp only[List.set_cons_zero,Tk.put,List.find?_cons,decide_true]
  have h9:oh (jR [0#64] (0:Int).toNat true)=1:=by decide +kernel
  unfold IY
  simp only[h9]
  rfl
def My{q:Int}{ed:List Tk}{jB:Bool}(h:Mz q x ts s br e ed jB t):SJg 7 s t:=by
 rcases h with⟨_,_,_,_,rfl⟩|⟨_,_,_,_,_,rfl⟩|⟨_,_,_,⟨e1,x1,⟨h1,yX⟩,c1⟩,_⟩
 ·exact⟨ag,ag⟩
 ·exact⟨ag,ag⟩
 have g1:=ll h1
 obtain⟨a,b⟩:=g1
 rcases c1 with⟨_,_,rfl⟩|⟨_,gS⟩
 ·exact⟨ag,ag⟩
 ·have g2:=AZ gS
  obtain⟨c,d⟩:=g2
  exact⟨ag,ag⟩
def JA(h:gz ts=[]):ts=[]:=by
 unfold gz at h
 exact List.map_eq_nil_iff.1 h
def E9{A:Ab}(h:HA A)(hn:A.names=[])(hw:A.writes.length≤700000000):∀B,qC A 0 B→B.writes.length≤700000000∧(fW B db).length≤900000∧(∀x∈fW B db,x.length≤1000000)∧((fW B db).foldl dB []).length≤100:=by
 intro B hO
 obtain⟨_,rfl⟩:=zD hn hO
 have hf:fW B db=[]:=HM h (by rw[BN hn])
 rw[hf]
 exact⟨hw,by simp,by simp,by simp⟩
attribute [local irreducible] J K aE Ends ae aB aP bP bq aS aZ bu bX Sha.chunks Sha.chunk Sha.rounds Sha.sched dK cm GI cQ aC cG aW
def LL(X:HP)(hK:oG X):aE Tryz.prog 6 [] [X] (fun r H=>r = .bool true∧H=[X]):=by
 obtain⟨x,hx⟩:=Pv
 obtain⟨hr,iB,tj,Y1⟩:=ru hx
 have aeu:x.size=1:=iB
 have Bj:bO x=1:=by unfold bO;rw[if_pos hr,iB,tj];rfl
 refine aE.ao Tryz.func6 Tryz.ntmps6 fun G F R hE=>?_
 refine go ?_
 refine aH (Ij 1048576 ag ag) ?_
 rintro _ _⟨bd,rfl,rfl⟩
 refine go ?_
 refine bG zr zr bD ?_
 intro wb
 refine go ?_
 ((refine aH (uO X hK wb bd (.pointer none) (.pointer none) 1000 ag (Ab.new 1048576) rfl (by show 1≤_;omega) (E9 (HA.new _) rfl (by show 0≤_;omega))) ?_))
 rintro _ _⟨e0,t0,JD,hW,rfl,hz,-⟩
 obtain⟨rfl,rfl,w1,w2,w3,w4,w5,w6,w7,w8,w9,w10⟩:=BC (HA.new _) rfl (by show 64≤1048576;omega) hW
 obtain⟨bs,mb,tb,jb,tv,ts,xh,rfl⟩:=hz rfl
 have pE:=JA xh
 subst pE
 have w9':t0.1.A.aw.length≤1+14:=w9
 have aeq:t0.1.A.writes.length≤0+14:=w10
 have ada:∀n c,vw t0.1.A n=some c→c.length≤100000:=fun n c hc=>by
  rw[w4]at hc
  unfold eK at hc
  split at hc
  ·injection hc with hc;rw[← hc,lP];omega
  ·cases hc
 have hJ0:HJ 0 t0:=⟨w1,w3,w5,ag,ada,⟨_,by rw[w4,dv]⟩,1,0,0,w6,ag,ag,ag⟩
 unfold eh
 refine go ?_
 refine aj (cs:=bV [7]) zr zr zr zr zr zr zr zr zr bD ?_
 intro row
 have iC:=zR _ _ [7] (IU row 7) (by decide) 16
 rw[hx]at iC
 ((refine go ?_;(refine aH iC ?_)))
 rintro _ _⟨rfl,rfl⟩
 unfold eL
 refine go ?_
 refine az zr zr zr bD ?_
 intro b6
 have uI:=zS tb bs jb bd tv 1000 ag mb [] false t0 x (by simp) ag ag (by rw[w2];exact⟨by simp,by simp⟩) ag ag 100 ag (fun t hS=>by
  have hg:=ll hS.1
  obtain⟨n,c,s,hj,pO,Bf,xe⟩:=hJ0.jn
  refine⟨?_,?_,?_,?_⟩
  ·rw[hS.2,hj];exact pO
  ·rw[hS.2,hj];exact⟨by simp only;omega,by simp only;omega⟩
  ·have:=hg.1;omega
  ·have:=hg.2;omega)
 unfold eh eL at uI
 refine go ?_
 refine aF (fun w=>Sat G w ([ae wb (cl [ptr bd,ptr bs,ptr tb] 32),ae b6 (cl (bH x) 37)])) (cZ 0 5 (.act 5 .nil)) rfl ak ak ak dT ?_
 refine go ?_
 refine bQ (U:=aQ) (l:=bH x) 1 zr zr zr zr zr zr (go ?_)
 refine aH uI ?_
 rintro _ _⟨e1,ts1,YY,br1,t1,rfl,rfl,hB⟩
 obtain⟨y,hy,rfl,rfl,hJ1,nX,mf⟩:=YF hx hJ0 w2 ag (fun n hn=>by rw[w4,dL _ _ hn]) hB
 have hgB:=My hB
 have aeO:=hgB.1
 have aeN:=hgB.2
 refine go ?_
 obtain⟨Y,hY⟩:∃Y,Y=Sep [X,ae row (cl (bV [7]) 5)]:=⟨_,rfl⟩
 have hKY:oG Y:=hY ▸ hK.mono (bg (i:=0) rfl)
 have hbY:eM Y (.slice (some ⟨row,0,none⟩) 1 1) [7]:=hY ▸ (IU row 7).mono (bg (i:=1) rfl)
 have Ja:=hy
 rw[AX Bj]at Ja
 have I':y.n=1:=congrArg TC.n Ja
 have Hi:y.ws=[0#64]:=congrArg TC.ws Ja
 have wA:=FC Y hKY tb bs jb bd YY 1000 mb [y] false t1 x 0 ag _ [7] hbY (by simp) (.slice none 0 0) [] ⟨Vw.nil Y none 0,none,0,rfl,Nat.le_refl _⟩ (by simp) (fun z hz=>by rw[List.mem_singleton.1 hz,I'];omega) (fun z hz=>by rw[List.mem_singleton.1 hz,I',Hi];simp) ag ag 100 ag (fun t u h1 h2=>by
  have g1:=ot h1.1
  have g2:=sU h2.1
  have g11:=g1.1
  have g12:=g1.2
  have g21:=g2.1
  have g22:=g2.2
  obtain⟨n,c,s,hj,pO,Bf,xe⟩:=hJ1.jn
  refine⟨?_,?_,ag,ag⟩
  ·rw[h2.2,h1.2,hj];exact pO
  ·rw[h2.2,h1.2,hj];exact⟨by simp only;omega,by simp only;omega⟩)
 unfold eh eL at wA
 refine ai (al.trans (H2:=X::ae row (cl (bV [7]) 5)::ae wb (cl [ptr bd,ptr bs,ptr tb] 32)::ae b6 (cl (bH x) 37)::ae tb (cl [ptr bs,ptr jb,YY,.bool false] 88)::aB 90 1 YY [y].length ([y].map cB)::aW [y]::cG bs bd jb 1000 mb [] t1::F) ah (al.bS [X,ae row (cl (bV [7]) 5)] _)) ?_
 rw[← hY]
 refine aF (fun w=>Sat G w ([ae wb (cl [ptr bd,ptr bs,ptr tb] 32),ae b6 (cl (bH x) 37)])) (cZ 0 6 (.act 6 (.st 7 .nil))) rfl ak ak ak dT ?_
 refine go ?_
 refine bQ (U:=aQ) (l:=bH x) 1 zr zr zr zr zr zr (go ?_)
 refine cN wA ?_
 rintro _ _⟨e2,ts2,br2,t2,rfl,rfl,hP⟩
 obtain⟨rfl,Tf,z,rfl,hzn,hzw⟩:=YE hx hJ1 hy nX mf hP
 have XJ:=wm tb bs jb YY br2 [z] x (by simp) (fun w hw=>by rw[List.mem_singleton.1 hw,hzn];omega) (fun w hw=>by rw[List.mem_singleton.1 hw,hzw];omega)
 rw[Tf]at XJ
 unfold eh eL at XJ
 refine go ?_
 refine aF (fun w=>Sat G w ([ae wb (cl [ptr bd,ptr bs,ptr tb] 32),ae b6 (cl (bH x) 37)])) (cZ 0 5 (.act 5 (cZ 6 5 .nil))) rfl ak ak ak dT ?_
 refine go ?_
 refine bQ (U:=aQ) (l:=bH x) 1 zr zr zr zr zr zr (go ?_)
 refine bo XJ ?_
 refine go ?_
 refine ai (H':=Y::F) ah ?_
 rw[hY]
 refine ai (al.cD [X,ae row (cl (bV [7]) 5)] _) ?_
 refine ad hE Tryz.func6 zr zr ⟨rfl,rfl⟩
end Go.Proofs.YtedjnjkijiddlaaGreatDoor
namespace Go.Proofs.YtedjnjkijiddlaaGreatDoor
open Go Go.SL
variable{A:Ab}{b:Bl}{jB:Bool}{d:Dg}{n:Int}{cs j9:List TC}{ed ts:List Tk}{C a bs:List UInt8}{e i j k u u' w:Nat}{t x:SJ}{c':TC}{y z:Tk}{s:fe}
def Dw:∀(l:List (Int × List UInt8)) (f:Nat),(∀x∈l,1≤x.1∧x.1≤63∧x.2.length≤100000)→(eA l).length≤f→pU f (eA l)=l
 | [],f,_,_=>by cases f <;> rfl
 | (n,b)::l,f,h,hf=>by
  obtain⟨h1,h2,h3⟩:=h (n,b) (List.mem_cons_self ..)
  simp only at h1 h2 h3
  have e:eA ((n,b)::l)=UInt8.ofNat n.toNat::(uv b.length++(b++eA l)):=by simp[eA,me]
  have hc:=Jy (n:=b.length) ag (b++eA l)
  rw[e]at hf ⊢
  cases f with
  | zero=>simp at hf
  | succ f =>
   rw[List.length_cons,List.length_append,List.length_append]at hf
   unfold pU
   simp only
   rw[hc]
   simp only
   rw[if_pos ⟨trivial,by rw[List.length_append];omega⟩,List.take_left,List.drop_left]
   rw[Dw l f (fun x hx=>h x (List.mem_cons_of_mem _ hx)) ag]
   have:((UInt8.ofNat n.toNat).toNat:Int)=n:=by simp only[UInt8.toNat_ofNat'];omega
   rw[this]
def D0:∀(i:Int) (l:List (List UInt8)) (z:Int × List UInt8),z∈mP i l→i≤z.1∧z.1<i+l.length
 | i,[],z,h=>by cases h
 | i,y::l,z,h=>by
  rw[List.length_cons]
  rcases List.mem_cons.1 h with rfl|h
  ·exact⟨Int.le_refl _,by simp only;omega⟩
  ·have:=D0 (i+1) l z h
   omega
def AR:∀(i:Int) (l:List (List UInt8)) (a:Int × List UInt8),a.1+1=i→((a::mP i l).getLast?.map (·.1))=some (i-1+l.length)
 | i,[],a,h=>by simp[mP];omega
 | i,y::l,a,h=>by
  rw[mP,List.getLast?_cons_cons,AR (i+1) l (i,y) rfl,List.length_cons]
  congr 1
  omega
def DZ:∀(i:Int) (l:List (List UInt8)),(mP i l).map (·.2)=l
 | i,[]=>rfl
 | i,y::l=>by rw[mP,List.map_cons,DZ (i+1) l]
def Ju(d:Dg):ue d.bs=d:=by unfold ue;rw[dif_pos d.len]
def sF(k:UInt8)(d:Dg)(ls:List (List UInt8))(hl:ls.length≤20)(hx:∀x∈ls,x.length≤32):iW (jL k d ls)=some (k,d,ls):=by
 have hlen:=g9 k d ls hl hx
 have kC:∀x∈tD k d ls,1≤x.1∧x.1≤63∧x.2.length≤100000:=fun x Ow=>by
  unfold tD at Ow
  rcases List.mem_cons.1 Ow with rfl|Ow
  ·exact⟨by simp only;omega,by simp only;omega,by simp⟩
  rcases List.mem_cons.1 Ow with rfl|Ow
  ·exact⟨by simp only;omega,by simp only;omega,by have:=d.len;simp only;omega⟩
  ·have h1:=D0 3 ls x Ow
   have h2:=hx _ (yh 3 ls x Ow)
   exact⟨ag,ag,ag⟩
 have ht:pJ (jL k d ls)=some (tD k d ls):=by
  unfold pJ
  have h1:pU (jL k d ls).length (jL k d ls)=tD k d ls:=Dw _ _ kC (Nat.le_refl _)
  rw[if_neg ag,h1,if_pos]
  unfold tD
  simp only[fF]
  rw[u3 3 ls 2 ag ag]
  rfl
 unfold iW
 rw[ht]
 unfold tD
 simp only
 have hg:(((1,[k])::(2,d.bs)::mP 3 ls:List (Int × List UInt8)).getLast?.map (·.1))=some ((2+(mP 3 ls).length:Nat):Int):=by
  rw[List.getLast?_cons_cons,AR 3 ls (2,d.bs) rfl,tC]
  congr 1
  all_goals omega
 rw[if_pos ⟨hg,rfl,d.len⟩,Ju,DZ]
 rfl
def Ci{n:Nat}(h:n≤1048576):qc (uv n)=some n:=by
 unfold qc
 rw[uQ ag]
 exact if_pos h
def E2(d:Dg):gL d.bs=some d:=by unfold gL;rw[if_pos d.len,Ju]
def yT:∀l:List Dg,mZ (l.map Dg.bs)=some l
 | []=>rfl
 | d::l=>by
  rw[List.map_cons]
  unfold mZ
  rw[E2,yT l]
def M4(cs:List TC)(d:Dg):dB cs (LC d)=DV cs d:=Dz (sF 3 d [] (by simp) (by simp))
def xN(cs:List TC){x:Bl}(hr:bz x=true):dB cs (bU x)=DV cs x.d++[cW x]:=by
 have hb:=dp hr
 have h1:iW (bU x)=some (1,x.d,gY x):=sF 1 x.d (gY x) (by simp[gY]) (kG x ag ag)
 unfold gY at h1
 rw[vG h1,Ci ag,Ci ag,E2]
 simp only
 have:(⟨x.d,((x.size.toNat:Nat):Int),((x.piece.toNat:Nat):Int),x.root⟩:Bl)=x:=by
  cases x
  simp only[Bl.mk.injEq,true_and,and_true]at hb ⊢
  omega
 rw[this,if_pos hr]
def xM(cs:List TC)(d:Dg)(hi:i≤1048576){p:List Dg}(hp:p.length≤10):dB cs (bJ d i p)=cs.map fun y=>if y.x.d=d∧i<y.n∧p.length=dx y.n i then y.put i p else y:=by
 have h1:iW (bJ d i p)=some (2,d,eB i p):=sF 2 d (eB i p) (by simp[eB];omega) (ku i ag p)
 rw[vF h1]
 unfold l8
 rw[Ci hi,yT]
structure QJ(c c':TC):Prop where
 x:c.x=c'.x
 n:c.n=c'.n
 w:c.n≤c.ws.length*64
 w':c'.n≤c'.ws.length*64
 b:∀i,cy c.ws c.n i=cy c'.ws c'.n i
 p:∀i,cy c.ws c.n i=true→c.pf i=c'.pf i
def QJ.refl{c:TC}(h:c.n≤c.ws.length*64):QJ c c:=⟨rfl,rfl,h,h,fun _=>rfl,fun _ _=>rfl⟩
def iT{ws:List jj}{n:Nat}(hw:n≤ws.length*64)(hi:i<n)(j:Int):cy (jR ws i true) n j=if j=(i:Int)then true else cy ws n j:=by
 by_cases qm:0≤j∧j<(n:Int)
 ·obtain⟨j',rfl⟩:∃j':Nat,j=j':=⟨j.toNat,ag⟩
  rw[O8 hw hi ag]
  by_cases h:j'=i
  ·rw[if_pos h,if_pos ag]
  ·rw[if_neg h,if_neg ag]
 ·rw[nY ag,nY ag,if_neg ag]
def QJ.put{c:TC}(h:QJ c c')(hi:i<c.n)(l:List Dg):QJ (c.put i l) (c'.put i l):=by
 have gl:i<c'.n:=h.n ▸ hi
 refine⟨h.x,h.n,by unfold TC.put;simp only[iI];exact h.w,by unfold TC.put;simp only[iI];exact h.w',fun j=>?_,fun j hj=>?_⟩
 ·unfold TC.put
  simp only
  rw[iT h.w hi,iT h.w' gl,h.b j]
 ·unfold TC.put at hj ⊢
  simp only at hj ⊢
  rw[iT h.w hi]at hj
  by_cases he:j=(i:Int)
  ·rw[if_pos he,if_pos he]
  ·rw[if_neg he]at hj
   rw[if_neg he,if_neg he]
   exact h.p j hj
abbrev Da(cs j9:List TC):Prop:=eZ QJ cs j9
def Da.rm(h:Da cs j9)(d:Dg):Da (DV cs d) (DV j9 d):=eZ.filter h fun x y Ac=>by rw[Ac.x]
def Cv(x:Bl):(cW x).n≤(cW x).ws.length*64:=by
 unfold cW
 simp only[List.length_replicate]
 omega
def DU(h:∀c∈cs,c.x.d≠d):DV cs d=cs:=by
 unfold DV
 exact List.filter_eq_self.2 fun c hc=>by simpa using h c hc
def Da.begin(h:Da cs j9){x:Bl}(jI:∀c∈j9,c.x.d≠x.d):Da (DV cs x.d++[cW x]) (j9++[cW x]):=by
 rw[DU (fun c hc=>by
  obtain⟨i,hi⟩:=List.mem_iff_getElem?.1 hc
  obtain⟨y,hy,hcy⟩:=h.left hi
  rw[hcy.x]
  exact jI y (List.mem_of_getElem? hy))]
 exact h.snoc (QJ.refl (Cv x))
def Da.piece(h:Da cs j9)(hn:(j9.map fun c=>c.x.d).Nodup)(hk:j9[k]?=some c')(hi:i<c'.n){p:List Dg}(hp:p.length=dx c'.n i) :
  Da (cs.map fun y=>if y.x.d=c'.x.d∧i<y.n∧p.length=dx y.n i then y.put i p else y) (j9.set k (c'.put i p)):=by
 refine⟨by rw[List.length_map,List.length_set];exact h.1,fun j a b ha hb=>?_⟩
 rw[List.getElem?_map]at ha
 obtain⟨a0,Zj,rfl⟩:=Option.map_eq_some_iff.1 ha
 obtain⟨b0,rj,m8⟩:=h.left Zj
 by_cases Be:k=j
 ·subst Be
  rw[hk]at rj
  injection rj with rj
  subst rj
  rw[List.getElem?_set_self ((List.getElem?_eq_some_iff.1 hk).1)]at hb
  injection hb with hb
  subst hb
  rw[if_pos ⟨by rw[m8.x],by rw[m8.n];exact hi,by rw[m8.n];exact hp⟩]
  exact m8.put (by rw[m8.n];exact hi) p
 ·rw[List.getElem?_set_ne Be,rj]at hb
  injection hb with hb
  subst hb
  rw[if_neg (fun hc=>Be ?_)]
  ·exact m8
  ·have e1:(j9.map fun c=>c.x.d)[j]?=some b0.x.d:=by rw[List.getElem?_map,rj];rfl
   have e2:(j9.map fun c=>c.x.d)[k]?=some c'.x.d:=by rw[List.getElem?_map,hk];rfl
   exact((List.getElem?_inj ((List.getElem?_eq_some_iff.1 e2).1) hn).1 (by rw[e1,e2,← m8.x,hc.1]))
def jw(c:TC):List Nat:=(List.range c.n).filter fun i=>cy c.ws c.n (i:Int)
def pD(c:TC):List (List UInt8):=bU c.x::(jw c).map fun i=>bJ c.x.d i ((c.pf i).getD [])
def EI{s:fe}{c:TC}(h:∀i:Nat,i<c.n→cy c.ws c.n (i:Int)=true→(eo s c.x i).2=0∧cd c.x i (eo s c.x i).1 ((c.pf i).getD [])=true):∀k,k≤c.n →
  iJ s c k=(c,bU c.x::((List.range k).filter fun i:Nat=>cy c.ws c.n (i:Int)).map fun i:Nat=>bJ c.x.d i ((c.pf i).getD []))
 | 0,_=>rfl
 | k+1,hk=>by
  rw[mg,EI h k ag,List.range_succ,List.filter_append,List.map_append]
  unfold k7
  by_cases hh:cy c.ws c.n (k:Int)=true
  ·obtain⟨h1,h2⟩:=h k ag hh
   simp only
   rw[if_pos hh,if_neg (by rw[h1,h2];simp)]
   simp[hh]
  ·simp only
   rw[if_neg hh]
   simp[hh]
def l7(c z:TC)(l:List Nat):TC:=l.foldl (fun z i=>z.put i ((c.pf i).getD [])) z
def IQ(c:TC):∀(l:List Nat) (z:TC),(l7 c z l).x=z.x∧(l7 c z l).n=z.n∧(l7 c z l).ws.length=z.ws.length
 | [],z=>⟨rfl,rfl,rfl⟩
 | i::l,z=>by
  obtain⟨h1,h2,h3⟩:=IQ c l (z.put i ((c.pf i).getD []))
  exact⟨h1,h2,h3.trans (iI _ _ _)⟩
def AT(c:TC):∀(l:List Nat) (z:TC),z.n≤z.ws.length*64→(∀i∈l,i<z.n)→∀j:Int,cy (l7 c z l).ws (l7 c z l).n j=(decide (∃i∈l,j=(i:Int)) || cy z.ws z.n j)
 | [],z,_,_,j=>by simp[l7]
 | i::l,z,hw,hl,j=>by
  have hi:=hl i (List.mem_cons_self ..)
  have ih:=AT c l (z.put i ((c.pf i).getD [])) (by unfold TC.put;simp only[iI];exact hw) (fun a ha=>hl a (List.mem_cons_of_mem _ ha)) j
  show cy (l7 c (z.put i ((c.pf i).getD [])) l).ws (l7 c (z.put i ((c.pf i).getD [])) l).n j=_
  rw[ih]
  unfold TC.put
  simp only
  rw[iT hw hi]
  by_cases he:j=(i:Int)
  ·simp[he]
  ·simp[he]
def D5(c:TC):∀(l:List Nat) (z:TC) (j:Nat),j∈l→(l7 c z l).pf j=some ((c.pf j).getD [])
 | [],z,j,h=>by cases h
 | i::l,z,j,h=>by
  by_cases wK:j∈l
  ·exact D5 c l _ j wK
  ·rcases List.mem_cons.1 h with rfl|h
   ·have:∀(l:List Nat) (z:TC),j ∉ l→(l7 c z l).pf j=z.pf j:=by
     intro l
     induction l with
     | nil=>intro z _;rfl
     | cons a l ih =>
      intro z hn
      rw[List.mem_cons,not_or]at hn
      show(l7 c (z.put a ((c.pf a).getD [])) l).pf j=_
      rw[ih _ hn.2]
      unfold TC.put
      simp only
      rw[if_neg (fun e=>hn.1 ag)]
    show(l7 c (z.put j ((c.pf j).getD [])) l).pf j=_
    rw[this l _ wK]
    unfold TC.put
    simp
   ·exact absurd h wK
def vO{cs:List TC}{c:TC}(jI:∀y∈cs,y.x.d≠c.x.d)(nV:∀i:Nat,i∈jw c→((c.pf i).getD []).length=dx c.n i∧((c.pf i).getD []).length≤10)(hc:c.n≤1048576):∀(l:List Nat) (z:TC),(∀i∈l,i∈jw c)→z.x=c.x→z.n=c.n →
  (l.map fun i=>bJ c.x.d i ((c.pf i).getD [])).foldl dB (cs++[z])=cs++[l7 c z l]
 | [],z,_,_,_=>rfl
 | i::l,z,hl,hx,hn=>by
  have hi:=hl i (List.mem_cons_self ..)
  have qm:i<c.n:=List.mem_range.1 (List.mem_filter.1 hi).1
  obtain⟨h1,h2⟩:=nV i hi
  rw[List.map_cons,List.foldl_cons,xM _ _ ag h2,List.map_append]
  have e1:cs.map (fun y=>if y.x.d=c.x.d∧i<y.n∧((c.pf i).getD []).length=dx y.n i then y.put i ((c.pf i).getD [])else y)=cs:=by
   conv=>rhs;rw[← List.map_id cs]
   refine List.map_congr_left fun y hy=>?_
   rw[if_neg (fun e=>jI y hy e.1)]
   rfl
  rw[e1,List.map_cons,List.map_nil,if_pos ⟨by rw[hx],by rw[hn];exact qm,by rw[hn];exact h1⟩]
  exact vO jI nV hc l (z.put i ((c.pf i).getD [])) (fun a ha=>hl a (List.mem_cons_of_mem _ ha)) hx hn
def Ks{c:TC}(jI:∀y∈cs,y.x.d≠c.x.d)(hr:bz c.x=true)(hn:c.n=(bO c.x).toNat)(hw:c.n≤c.ws.length*64)(hc:c.n≤1048576)(hp:∀i:Nat,cy c.ws c.n (i:Int)=true→∃p,c.pf i=some p∧p.length=dx c.n i∧p.length≤10) :
  ∃c',(pD c).foldl dB cs=cs++[c']∧QJ c' c:=by
 have fz:∀i:Nat,i∈jw c→i<c.n∧cy c.ws c.n (i:Int)=true:=fun i hi=>⟨List.mem_range.1 (List.mem_filter.1 hi).1,(List.mem_filter.1 hi).2⟩
 unfold pD
 rw[List.foldl_cons,xN _ hr,DU jI]
 have RO:(cW c.x).n=c.n:=hn.symm
 rw[vO jI (fun i hi=>by
  obtain⟨p,h1,h2,h3⟩:=hp i (fz i hi).2
  rw[h1]
  exact⟨h2,h3⟩) hc (jw c) (cW c.x) (fun i hi=>hi) rfl RO]
 obtain⟨e1,e2,e3⟩:=IQ c (jw c) (cW c.x)
 have rJ:=AT c (jw c) (cW c.x) (Cv c.x) (fun i hi=>by rw[RO];exact(fz i hi).1)
 have xg:∀j,cy (cW c.x).ws (cW c.x).n j=false:=fun j=>tT _ _ _
 have hb:∀j,cy (l7 c (cW c.x) (jw c)).ws (l7 c (cW c.x) (jw c)).n j=cy c.ws c.n j:=fun j=>by
  rw[rJ j,xg j,Bool.or_false]
  by_cases qm:0≤j∧j<(c.n:Int)
  ·obtain⟨j',rfl⟩:∃j':Nat,j=j':=⟨j.toNat,ag⟩
   cases hh:cy c.ws c.n (j':Int)with
   | true=>exact decide_eq_true ⟨j',List.mem_filter.2 ⟨List.mem_range.2 ag,hh⟩,rfl⟩
   | false =>
    refine decide_eq_false ?_
    rintro⟨i,hi,Bg⟩
    have:=(fz i hi).2
    rw[← Bg,hh]at this
    cases this
  ·rw[nY ag]
   refine decide_eq_false ?_
   rintro⟨i,hi,Bg⟩
   have:=(fz i hi).1
   omega
 refine⟨_,rfl,e1,e2.trans RO,by rw[e2,e3];exact Cv c.x,hw,hb,fun j hj=>?_⟩
 rw[hb]at hj
 by_cases qm:0≤j∧j<(c.n:Int)
 ·obtain⟨j',rfl⟩:∃j':Nat,j=j':=⟨j.toNat,ag⟩
  obtain⟨p,h1,_⟩:=hp j' hj
  rw[D5 c (jw c) (cW c.x) j' (List.mem_filter.2 ⟨List.mem_range.2 ag,hj⟩),h1]
  rfl
 ·rw[nY ag]at hj;cases hj
def uJ(c:TC):Prop:=c.ws.length=(c.n+63)/64∧∀j,c.n≤j→(c.ws.getD (j/64) 0#64).getLsbD (j%64)=false
def uJ.fresh(x:Bl):uJ (cW x):=by
 unfold uJ cW
 refine⟨by simp only[List.length_replicate],fun j _=>?_⟩
 simp only
 rw[List.getD_eq_getElem?_getD,List.getElem?_replicate]
 split <;> simp
def uJ.put{c:TC}(h:uJ c)(hi:i<c.n)(l:List Dg):uJ (c.put i l):=by
 obtain⟨h1,h2⟩:=h
 unfold uJ TC.put
 simp only[iI]
 refine⟨h1,fun j hj=>?_⟩
 have lx:i/64<c.ws.length:=by omega
 unfold jR
 rw[if_pos rfl]
 by_cases he:j/64=i/64
 ·rw[he,List.getD_eq_getElem?_getD,List.getElem?_set_self lx,Option.getD_some,BitVec.getLsbD_or,CO _ _ ag ag]
  have:=h2 j hj
  rw[he]at this
  rw[this,decide_eq_false ag]
  rfl
 ·rw[List.getD_eq_getElem?_getD,List.getElem?_set_ne (fun e=>he e.symm),← List.getD_eq_getElem?_getD]
  exact h2 j hj
def uJ.tell(h:∀c∈cs,uJ c)(b:List UInt8):∀c∈dB cs b,uJ c:=by
 have hp:∀d m l,∀c∈l8 cs d m l,uJ c:=fun d m l c hc=>by
  unfold l8 at hc
  split at hc
  ·obtain⟨y,hy,rfl⟩:=List.mem_map.1 hc
   split
   ·rename_i hh
    exact(h y hy).put hh.2.1 _
   ·exact h y hy
  ·exact h c hc
 have hr:∀d,∀c∈DV cs d,uJ c:=fun d c hc=>h c (List.mem_filter.1 hc).1
 unfold dB
 split
 ·exact h
 ·split
  ·exact hr _
  ·split
   ·split
    ·split
     ·split
      ·intro c hc
       rcases List.mem_append.1 hc with hc|hc
       ·exact hr _ c hc
       ·rw[List.mem_singleton.1 hc];exact uJ.fresh _
      ·exact h
     ·exact h
    ·split
     ·exact hp _ _ _
     ·exact h
   ·split
    ·exact hp _ _ _
    ·exact h
   ·exact h
def uJ.told:∀(ls:List (List UInt8)) (cs:List TC),(∀c∈cs,uJ c)→∀c∈ls.foldl dB cs,uJ c
 | [],cs,h=>h
 | b::ls,cs,h=>uJ.told ls _ (uJ.tell h b)
def Q4:∀n:Fin 65,GW (GV (BitVec.ofNat 64 (2 ^ n.1-1)))=(n.1:Int):=by decide +kernel
def uJ.one{c:TC}(h:uJ c)(h1:1≤c.n)(HD:c.n≤64)(p:Nat→Bool)(hp:∀i,i<c.n→cy c.ws c.n (i:Int)=p i):∃w,c.ws=[w]∧∀j,j<64→w.getLsbD j=(decide (j<c.n) && p j):=by
 obtain⟨a,b⟩:=h
 have hl:c.ws.length=1:=by omega
 obtain⟨w,hw⟩:=List.length_eq_one_iff.1 hl
 refine⟨w,hw,fun j hj=>?_⟩
 by_cases Jm:j<c.n
 ·rw[decide_eq_true Jm,Bool.true_and,← hp j Jm,yV Jm,hw,show j/64=0 by omega,show j%64=j by omega]
  rfl
 ·have:=b j ag
  rw[hw,show j/64=0 by omega,show j%64=j by omega]at this
  rw[decide_eq_false Jm,Bool.false_and]
  exact this
def uJ.all{c:TC}(h:uJ c)(h1:1≤c.n)(HD:c.n≤64)(ha:∀i:Nat,i<c.n→cy c.ws c.n (i:Int)=true):oh c.ws=c.n:=by
 obtain⟨w,hw,hb⟩:=h.one h1 HD (fun _=>true) ha
 have e:w=BitVec.ofNat 64 (2 ^ c.n-1):=by
  apply BitVec.eq_of_getLsbD_eq
  intro j hj
  rw[hb j hj,BitVec.getLsbD_ofNat,Nat.testBit_two_pow_sub_one,decide_eq_true hj,Bool.and_true,Bool.true_and]
 have:=Q4 ⟨c.n,ag⟩
 rw[hw,e]
 unfold oh
 simpa using this
def wT(ts:List Tk):Nat:=(ts.map fun y=>1+(jw y.c).length).sum
structure CS(k w u:Nat)(s:fe)(ts:List Tk):Prop where
 dq:DQ k s.A
 brk:s.brk=false
 bt:∀z∈s.bt,z.1=z.2.d∧∃y∈ts,y.x=z.2
 J8:∀y∈ts,gN s.bt y.x.d=some y.x
 keys:(s.bt.map (·.1)).Nodup
 bl:s.bt.length≤w
 ok:∀y∈ts,bz y.x=true∧y.x.size≤600∧(y.n:Int)=bO y.x∧ke y.c
 nd:(ts.map fun y=>y.x.d).Nodup
 has:∀y∈ts,(vw s.A (iu y.x.d)).isSome=true∧vw s.A (oF y.x.d)=none
 Dm:∀y∈ts,∀i:Nat,cy y.ws y.n i=true→∃(c:List UInt8) (a n:Int) (p:List Dg),vw s.A (iu y.x.d)=some c∧cC y.x i=some (a,n)∧a+n≤c.length∧y.pf i=some p∧cd y.x i ((c.drop a.toNat).take n.toNat) p=true
 wt:wT ts≤w
 kM:s.A.aw.length≤u
 ns:∀y∈ts,uJ y.c
structure CJ(j:Nat)(x:SJ)(cs:List TC):Prop where
 jr:∃(C:List UInt8) (n:Nat) (ls:List (List UInt8)),vw x.1.A db=some C∧JC C n ls∧x.2=⟨n,((ls.flatMap aV).length:Int),((ls.flatMap aV).length:Int),false⟩∧n≤1+j∧ls.length≤j∧(∀b∈ls,b.length≤900)∧Da (ls.foldl dB []) cs
def CS.mono{k' w':Nat}(h:CS k w u s ts)(hk:k≤k')(hw:w≤w')(hu:u≤u'):CS k' w' u' s ts :=
 ⟨h.dq.mono hk,h.brk,h.bt,h.J8,h.keys,by have:=h.bl;omega,h.ok,h.nd,h.has,h.Dm,by have:=h.wt;omega,by have:=h.kM;omega,h.ns⟩
def CJ.mono{j':Nat}(h:CJ j x cs)(hj:j≤j'):CJ j' x cs:=by
 obtain⟨C,n,ls,h1,h2,h3,h4,h5,h6,h7⟩:=h
 exact⟨C,n,ls,h1,h2,h3,ag,ag,h6,h7⟩
def mq:∀(ls:List (List UInt8)),(∀b∈ls,b.length≤900)→(ls.flatMap aV).length≤910*ls.length
 | [],_=>by simp
 | b::ls,h=>by
  have h1:=mq ls fun x hx=>h x (List.mem_cons_of_mem _ hx)
  have h2:=n9 b (by have:=h b (List.mem_cons_self ..);omega)
  have h3:=h b (List.mem_cons_self ..)
  rw[List.flatMap_cons,List.length_append,List.length_cons]
  omega
def iw(d:Dg):iu d≠db:=gU kS d
def nc(d:Dg):oF d≠db:=gU kB d
def CS.other{B:Ab}(h:CS k w u s ts)(hB:HA B)(hz:Cz k B)(hr:B.room=s.A.room)(hn:B.names.length=s.A.names.length)(hv:vw B=eK (vw s.A) db (some C))(hC:C.length≤100000)(hu:B.aw.length≤u'):CS k w u' ⟨B,s.bt,s.brk⟩ ts:=by
 have hS:∀d,vw B (iu d)=vw s.A (iu d):=fun d=>by rw[hv,dL _ _ (iw d)]
 have hBd:∀d,vw B (oF d)=vw s.A (oF d):=fun d=>by rw[hv,dL _ _ (nc d)]
 refine⟨h.dq.next hB hz hr (by rw[hn];exact h.dq.Qo) (fun n c hc=>?_),h.brk,h.bt,h.J8,h.keys,h.bl,h.ok,h.nd,fun y hy=>?_,fun y hy i hi=>?_,h.wt,hu,h.ns⟩
 ·rw[hv]at hc
  by_cases hp:n=db
  ·subst hp
   rw[dv]at hc
   injection hc with hc
   subst hc
   exact .inr (.inl ⟨rfl,hC⟩)
  ·rw[dL _ _ hp]at hc
   exact .inl hc
 ·show(vw B (iu y.x.d)).isSome=true∧vw B (oF y.x.d)=none
  rw[hS,hBd];exact h.has y hy
 ·show ∃c a n p,vw B (iu y.x.d)=some c∧_
  rw[hS];exact h.Dm y hy i hi
def CS.note{y:SJ}{b:List UInt8}(h:CS k w u x.1 ts)(hj:CJ j x cs)(hk:k≤190)(pO:j<100)(hb:b.length≤900)(hR:iZ (kW b) x e y) :
  e=0∧CS k w (u+5) y.1 ts∧(∀j9,(∀ls,Da (ls.foldl dB []) cs→Da ((ls++[b]).foldl dB []) j9)→CJ (j+1) y j9)∧y.1.bt=x.1.bt∧(∀n,n≠db→vw y.1.A n=vw x.1.A n):=by
 obtain⟨C,n,ls,h1,h2,h3,h4,h5,h6,h7⟩:=hj.jr
 have hg:=AZ hR
 obtain⟨⟨A,bt,brk⟩,jn⟩:=x
 simp only at h1 h3
 subst h3
 have hdq:DQ k A:=h.dq
 have Ad:=hdq.used
 have Jf:=hdq.room
 have nW:=mq ls h6
 have pL:=n9 b ag
 obtain⟨r1,r2,r3,⟨C',r4,r5⟩,r6,r7,r8,r9,r10,r11⟩:=G3 (A:=A) hdq.ha hdq.cz h1 h2 rfl ag ag ag ag hR
 have lA:=r5.len
 have adS:=mq (ls++[b]) (fun x hx=>by
  rcases List.mem_append.1 hx with hx|hx
  ·exact h6 x hx
  ·rw[List.mem_singleton.1 hx];exact hb)
 rw[List.length_append,List.length_singleton]at adS
 obtain⟨⟨A',aeV,aeU⟩,jn'⟩:=y
 simp only at r2 r3 r4 r6 r7 r8 r9 r10 r11
 subst r7 r8 r9
 have Xo:=h.kM
 have Ak:=hg.1
 simp only at Xo Ak
 refine⟨r1,h.other r2 r3 r6 r10 r4 ag ag,fun j9 j7=>⟨C',n+1,ls++[b],by show vw A' db=_;rw[r4,dv],r5,rfl,ag,by simp;omega,fun x hx=>?_,j7 ls h7⟩,rfl,fun m hm=>?_⟩
 ·rcases List.mem_append.1 hx with hx|hx
  ·exact h6 x hx
  ·rw[List.mem_singleton.1 hx];exact hb
 ·show vw A' m=vw A m
  rw[r4,dL _ _ hm]
def Fu{l:List (Dg × Bl)}(h:∀z∈l,z.2.size≤600):(l.map (·.2.size)).sum≤600*(l.length:Int):=by
 induction l with
 | nil=>simp
 | cons z l ih =>
  have h1:=ih fun x hx=>h x (List.mem_cons_of_mem _ hx)
  have h2:=h z (List.mem_cons_self ..)
  rw[List.map_cons,List.sum_cons,List.length_cons]
  omega
def CS.jP(h:CS k w u s ts):jP s≤1000*(k:Int)+600*(w:Int):=by
 have h1:=h.dq.rM
 have h2:=Fu (l:=s.bt) (fun z hz=>by
  obtain⟨_,y,hy,Xg⟩:=h.bt z hz
  rw[← Xg];exact(h.ok y hy).2.1)
 have h3:=h.bl
 unfold Proofs.YtedjnjkijiddlaaGreatDoor.jP
 omega
def CS.JI(h:CS k w u s ts)(jI:∀z∈ts,z.x.d≠d):gN s.bt d=none:=by
 cases hx:gN s.bt d with
 | none=>rfl
 | some z =>
  obtain⟨h1,y,hy,h2⟩:=h.bt _ (Py hx)
  simp only at h1 h2
  exact absurd (by rw[h2];exact h1.symm) (jI y hy)
def CS.YC{q:Int}{t:fe}(h:CS k w u s ts)(hk:k≤190)(jI:∀z∈ts,z.x.d≠b.d)(hq:bz b=true→1000*(k:Int)+600*(w:Int)+b.size≤q)(hR:dS q b s e t) :
    (bz b=false∧e=1∧t=s)∨(bz b=true∧(vw s.A (oF b.d)).isSome=true∧e=5∧t=s) ∨
    (bz b=true∧vw s.A (oF b.d)=none∧e=0∧HA t.A∧t.brk=false∧t.bt=s.bt++[(b.d,b)]∧(∀n,vw t.A n=if n=iu b.d then some ((vw s.A n).getD [])else vw s.A n)∧t.A.names.length≤s.A.names.length+1∧t.A.room=s.A.room∧Cz (k+1) t.A):=by
  have hn:=h.JI jI
  have Ad:=h.jP
  have Lk:=Cz.begin (h.dq.cz.mono (fun _ x=>x) (Nat.le_succ k)) h.dq.ha h.brk (by have:=h.dq.Qo;omega) ag hR
  have lD:=h.dq.Qo
  cases hr:bz b with
  | false =>
    unfold dS at hR
    rw[if_neg (by rw[h.brk];simp),if_pos hr]at hR
    exact .inl ⟨rfl,hR⟩
  | true =>
  have hq:=hq hr
  right
  cases hB:vw s.A (oF b.d)with
  | some c =>
    unfold dS at hR
    rw[if_neg (by rw[h.brk];simp),if_neg (by rw[hr];simp),if_pos (.inr (by rw[lM,show vw s.A (fB b)=some c from hB];rfl))]at hR
    exact .inl ⟨rfl,rfl,hR⟩
  | none =>
  right
  cases hS:vw s.A (iu b.d)with
  | none =>
    obtain⟨r1,r2,r3,r4,r5,r6,r7⟩:=F5 h.dq.ha h.brk hr hn hB ag hS ag hR
    exact⟨rfl,rfl,r1,r2,r3,r4,fun n=>by
      rw[r5 n]
      show(if n=iu b.d then _ else _)=_
      split
      · rename_i hx;rw[hx,hS];rfl
      · rfl,ag,r7,Lk⟩
  | some c =>
    unfold dS at hR
    rw[if_neg (by rw[h.brk];simp),if_neg (by rw[hr];simp),if_neg (by rw[hn,lM,show vw s.A (fB b)=none from hB];simp),if_neg ag,if_pos (by rw[lM,show vw s.A (fS b)=some c from hS];rfl)]at hR
    obtain⟨rfl,rfl⟩:=hR
    exact⟨rfl,rfl,rfl,h.dq.ha,h.brk,rfl,fun n=>by
      split
      · rename_i hx;rw[hx];show vw s.A (iu b.d)=_;rw[hS];rfl
      · rfl,by simp only;omega,rfl,Lk⟩
def KC{c:TC}(h:∀i,cy c.ws c.n i=false):jw c=[]:=by
 unfold jw
 exact List.filter_eq_nil_iff.2 fun i _=>by rw[h];simp
def QK(ts:List Tk)(y:Tk):wT (ts++[y])=wT ts+(1+(jw y.c).length):=by unfold wT;simp
def Fh(ts:List Tk)(y:Tk):gz (ts++[y])=gz ts++[y.c]:=by unfold gz;simp
def Fy(x:Bl):ke (cW x):=by
 have:=lS x
 unfold ke cW
 simp only[List.length_replicate]
 exact⟨ag,ag,ag,fun k l h=>by cases h⟩
def CS.add{t:fe}(h:CS k w u s ts)(jI:∀z∈ts,z.x.d≠b.d)(hr:bz b=true)(hs:b.size≤600)(Df:y.x=b)(I':(y.n:Int)=bO b)(hyo:ke y.c)(Xg:uJ y.c){c0:List UInt8}(sO:vw s.A (iu b.d)=some c0→c0.length≤1000)(hB:vw s.A (oF b.d)=none)(h1:HA t.A)(h2:t.brk=false)(h3:t.bt=s.bt++[(b.d,b)])(h4:∀n,vw t.A n=if n=iu b.d then some ((vw s.A n).getD [])else vw s.A n)(h5:t.A.names.length≤s.A.names.length+1)(h6:t.A.room=s.A.room)(h7:Cz (k+1) t.A)(hu:t.A.aw.length≤u')(ad2:∀i:Nat,cy y.ws y.n i=true→∃(c:List UInt8) (a n:Int) (p:List Dg),vw t.A (iu y.x.d)=some c∧cC y.x i=some (a,n)∧a+n≤c.length∧y.pf i=some p∧cd y.x i ((c.drop a.toNat).take n.toNat) p=true)(hw:1+(jw y.c).length+wT ts≤w+1+(jw y.c).length):CS (k+1) (w+1+(jw y.c).length) u' t (ts++[y]):=by
 have hn:=h.JI jI
 have ql:∀d,d≠b.d→vw t.A (iu d)=vw s.A (iu d):=fun d hd=>by rw[h4,if_neg (fun e=>hd (CB e))]
 have hkB:∀d,vw t.A (oF d)=vw s.A (oF d):=fun d=>by rw[h4,if_neg (fun e=>jA _ _ e.symm)]
 refine⟨h.dq.next h1 h7 h6 (by have:=h.dq.Qo;omega) (fun n c hc=>?_),h2,fun z hz=>?_,fun z hz=>?_,?_,?_,fun z hz=>?_,?_,fun z hz=>?_,fun z hz i hi=>?_,?_,hu,fun z hz=>?_⟩
 ·rw[h4]at hc
  by_cases hx:n=iu b.d
  ·rw[if_pos hx]at hc
   injection hc with hc
   cases hv:vw s.A n with
   | some c1=>rw[hv]at hc;exact .inl (by rw[← hc];rfl)
   | none =>
    rw[hv]at hc
    exact .inr (.inr (.inl ⟨⟨_,hx⟩,by rw[← hc];simp⟩))
  ·rw[if_neg hx]at hc
   exact .inl hc
 ·rw[h3]at hz
  rcases List.mem_append.1 hz with hz|hz
  ·obtain⟨g1,y',hy',g2⟩:=h.bt z hz
   exact⟨g1,y',List.mem_append_left _ hy',g2⟩
  ·rw[List.mem_singleton.1 hz]
   exact⟨rfl,y,by simp,Df⟩
 ·rw[h3,Fs _ _ _ hn]
  rcases List.mem_append.1 hz with hz|hz
  ·rw[if_neg (jI z hz)];exact h.J8 z hz
  ·rw[List.mem_singleton.1 hz,Df,if_pos rfl]
 ·rw[h3,List.map_append,List.nodup_append]
  refine⟨h.keys,by simp,fun a ha c hc=>?_⟩
  simp only[List.map_cons,List.map_nil,List.mem_singleton]at hc
  rintro rfl
  exact Sn hn (hc ▸ ha)
 ·rw[h3,List.length_append,List.length_singleton]
  have:=h.bl;omega
 ·rcases List.mem_append.1 hz with hz|hz
  ·exact h.ok z hz
  ·rw[List.mem_singleton.1 hz,Df]
   exact⟨hr,hs,I',hyo⟩
 ·rw[List.map_append,List.nodup_append]
  refine⟨h.nd,by simp,fun a ha c hc=>?_⟩
  obtain⟨z,hz,rfl⟩:=List.mem_map.1 ha
  simp only[List.map_cons,List.map_nil,List.mem_singleton]at hc
  rw[hc,Df]
  exact jI z hz
 ·rcases List.mem_append.1 hz with hz|hz
  ·rw[hkB,ql _ (jI z hz)];exact h.has z hz
  ·rw[List.mem_singleton.1 hz,Df,hkB,h4,if_pos rfl]
   exact⟨rfl,hB⟩
 ·rcases List.mem_append.1 hz with hz|hz
  ·rw[ql _ (jI z hz)];exact h.Dm z hz i hi
  ·rw[List.mem_singleton.1 hz]at hi ⊢
   exact ad2 i hi
 ·rw[QK];have:=h.wt;omega
 ·rcases List.mem_append.1 hz with hz|hz
  ·exact h.ns z hz
  ·rw[List.mem_singleton.1 hz];exact Xg
def sT(x:Bl)(hs:x.size≤1000000000000)(hp:x.piece≤1000000000000):(bU x).length≤900:=by
 have:=g9 1 x.d (gY x) (by simp[gY]) (kG x hs hp)
 unfold bU;omega
def Pj(d:Dg):(LC d).length≤900:=by
 have:=g9 3 d [] (by simp) (by simp)
 unfold LC;omega
def yj(d:Dg)(i:Nat)(hi:i≤1000000000000)(p:List Dg)(hp:p.length≤10):(bJ d i p).length≤900:=by
 have:=g9 2 d (eB i p) (by simp[eB];omega) (ku i hi p)
 unfold bJ
 unfold eB at this
 omega
def CJ.sto{t:fe}(h:CJ j x cs)(hv:vw t.A db=vw x.1.A db):CJ j (t,x.2) cs:=by
 obtain⟨C,n,ls,h1,h2,h3,h4⟩:=h
 exact⟨C,n,ls,by show vw t.A db=_;rw[hv];exact h1,h2,h3,h4⟩
def vg(ls:List (List UInt8))(b:List UInt8):(ls++[b]).foldl dB []=dB (ls.foldl dB []) b:=by rw[List.foldl_append];rfl
def Pr(ts:List Tk):(gz ts).map (fun c=>c.x.d)=ts.map fun y=>y.x.d:=by unfold gz;rw[List.map_map];rfl
def YG(h:(ts.any fun y=>decide (y.x.d=d))=false):∀z∈ts,z.x.d≠d:=fun z hz e=>by
 have:=List.any_eq_false.1 h z hz
 exact this (decide_eq_true e)
def CS.begin(h:CS k w u x.1 ts)(hj:CJ j x (gz ts))(hk:k≤180)(hw:w≤150)(pO:j<100)(hs:bz b=true→b.size≤600)(hR:Mz 1048576 b ts x false e ed jB t) :
  jB=false∧CS (k+1) (w+1) (u+20) t.1 ed∧CJ (j+1) t (gz ed)∧e=(if(ts.any fun y=>decide (y.x.d=b.d))=true then 5 else if bz b=false then 1 else if(vw x.1.A (oF b.d)).isSome=true then 5 else 0) ∧
   (e≠0→ed=ts∧t=x)∧(e=0→gz ed=gz ts++[cW b]∧∀n,n≠db→vw t.1.A n=if n=iu b.d then some ((vw x.1.A n).getD [])else vw x.1.A n):=by
 have hm:=h.mono (k':=k+1) (w':=w+1) (u':=u+20) ag ag ag
 rcases hR with⟨h1,_⟩|⟨_,ml,rfl,rfl,rfl,rfl⟩|⟨_,ml,rfl,hR,pE⟩
 ·cases h1
 ·exact⟨rfl,hm,hj.mono ag,by rw[if_pos ml],fun _=>⟨rfl,rfl⟩,fun h0=>by cases h0⟩
 have jI:=YG ml
 rw[if_neg (by rw[ml];simp)]
 obtain⟨e1,x1,⟨nX,rh⟩,c1⟩:=hR
 have hg:=ll nX
 have hg0:=hg.1
 have cK:=h.kM
 rcases h.YC ag jI (fun hr=>by have:=hs hr;omega) nX with⟨hr,rfl,hx⟩|⟨hr,hB,rfl,hx⟩|⟨hr,hB,rfl,g1,g2,g3,g4,g5,g6,g7⟩
 ·rw[if_pos hr]
  rcases c1 with⟨_,rfl,rfl⟩|⟨h0,_⟩
  ·rcases pE with⟨_,rfl⟩|⟨h0,_⟩
   ·have:t=x:=Prod.ext hx rh
    subst this
    exact⟨rfl,hm,hj.mono ag,rfl,fun _=>⟨rfl,rfl⟩,fun h0=>by cases h0⟩
   ·cases h0
  ·cases h0
 ·rw[if_neg (by rw[hr];simp),if_pos hB]
  rcases c1 with⟨_,rfl,rfl⟩|⟨h0,_⟩
  ·rcases pE with⟨_,rfl⟩|⟨h0,_⟩
   ·have:t=x:=Prod.ext hx rh
    subst this
    exact⟨rfl,hm,hj.mono ag,rfl,fun _=>⟨rfl,rfl⟩,fun h0=>by cases h0⟩
   ·cases h0
  ·cases h0
 ·rw[if_neg (by rw[hr];simp),if_neg (by rw[hB];simp)]
  rcases c1 with⟨bY,_⟩|⟨_,gS⟩
  ·exact absurd rfl bY
  have Jp:=dp hr
  obtain⟨y,hy⟩:∃y:Tk,y.c=cW b:=⟨⟨0,0,0,b,(bO b).toNat,List.replicate (((bO b).toNat+63)/64) 0#64,fun _=>none⟩,rfl⟩
  have yW:∀y:Tk,y.c=cW b→CS (k+1) (w+1) (u+10) x1.1 (ts++[y]):=fun y hy=>by
   have sO:=lS b
   have e1:y.x=b:=congrArg TC.x hy
   have e2:y.n=(bO b).toNat:=congrArg TC.n hy
   have e3:y.ws=List.replicate (((bO b).toNat+63)/64) 0#64:=congrArg TC.ws hy
   have abl:∀i,cy y.c.ws y.c.n i=false:=fun i=>by rw[hy];exact tT _ _ _
   have hp:jw y.c=[]:=KC abl
   have:=h.add (k:=k) (u':=u+10) (y:=y) (c0:=[]) jI hr (hs hr) e1 (by rw[e2];omega) (by rw[hy];exact Fy b) (by rw[hy];exact uJ.fresh b) (fun _=>by simp) hB g1 g2 g3 g4 g5 g6 g7 ag (fun i hi=>absurd hi (by
    have:=abl i
    show ¬cy y.c.ws y.c.n i=true
    rw[this];simp)) (by rw[hp];have:=h.wt;simp only[List.length_nil];omega)
   rw[hp]at this
   exact this
  have abB:CJ j x1 (gz ts):=by
   have:=hj.sto (t:=x1.1) (by rw[g4,if_neg (fun e=>iw b.d e.symm)])
   rw[← rh]at this
   exact this
  obtain⟨rfl,n1,n2,n3,n4⟩:=(yW y hy).note abB ag pO (sT b ag ag) gS
  rcases pE with⟨bY,_⟩|⟨_,y',hy',rfl⟩
  ·exact absurd rfl bY
  obtain⟨_,m1,m2,m3,m4⟩:=(yW y' hy').note abB ag pO (sT b ag ag) gS
  refine⟨by decide,m1.mono (Nat.le_refl _) (Nat.le_refl _) ag,m2 _ (fun ls Jj=>?_),rfl,fun h0=>absurd rfl h0,fun _=>⟨by rw[Fh,hy'],fun n hn=>by rw[m4 n hn,g4]⟩⟩
  rw[vg,xN _ hr,Fh,hy']
  exact Jj.begin fun c hc=>by
   obtain⟨z,hz,rfl⟩:=List.mem_map.1 hc
   exact jI z hz
def DD{x:Bl}{i i' a a' n':Int}(h:cC x i=some (a,n))(h':cC x i'=some (a',n'))(bY:i≠i'):a+n≤a'∨a'+n'≤a:=by
 obtain⟨_,_,_,_,_,g1,g2,gr⟩:=iQ h
 obtain⟨_,_,_,_,_,g1',g2',_⟩:=iQ h'
 have hp:=dp gr
 rcases Int.lt_or_gt_of_ne bY with hl|hl
 ·left
  have h1:(i+1)*x.piece≤i'*x.piece:=Int.mul_le_mul_of_nonneg_right ag ag
  rw[Int.add_mul,Int.one_mul]at h1
  omega
 ·right
  have h1:(i'+1)*x.piece≤i*x.piece:=Int.mul_le_mul_of_nonneg_right ag ag
  rw[Int.add_mul,Int.one_mul]at h1
  omega
def MR(c:List UInt8)(a:Nat)(b:List UInt8):((bK c a b).drop a).take b.length=b:=by
 refine List.ext_getElem? fun j=>?_
 rw[List.getElem?_take]
 split
 ·rename_i hj
  rw[List.getElem?_drop,Av c a b (a+j) ag ag,show a+j-a=j by omega]
 ·rename_i hj
  rw[List.getElem?_eq_none ag]
def Dq{c:List UInt8}{a:Nat}{b:List UInt8}{a' n':Nat}(hc:a'+n'≤c.length)(h:a'+n'≤a∨a+b.length≤a'):((bK c a b).drop a').take n'=(c.drop a').take n':=by
 refine List.ext_getElem? fun j=>?_
 rw[List.getElem?_take,List.getElem?_take]
 split
 ·rename_i hj
  rw[List.getElem?_drop,List.getElem?_drop]
  have hl:a'+j<c.length:=by omega
  rw[List.getElem?_eq_getElem hl]
  exact xD (List.getElem?_eq_getElem hl) ag
 ·rfl
def sf{α:Type}(f g:α→Bool):∀l:List α,(l.filter fun x=>f x || g x).length≤(l.filter f).length+(l.filter g).length
 | []=>by simp
 | x::l=>by
  have ih:=sf f g l
  rw[List.filter_cons,List.filter_cons,List.filter_cons]
  cases f x <;> cases g x <;> simp <;> omega
def range_one(i:Nat):∀n:Nat,((List.range n).filter fun j=>decide (j=i)).length≤if i<n then 1 else 0
 | 0=>by simp
 | n+1=>by
  have ih:=range_one i n
  rw[List.range_succ,List.filter_append,List.length_append]
  by_cases h:n=i
  ·rw[if_neg ag]at ih
   rw[if_pos ag]
   simp[h]at ih ⊢
   omega
  ·have:([n].filter fun j=>decide (j=i))=[]:=by simp[h]
   rw[this,List.length_nil]
   split at ih
   ·rw[if_pos ag];omega
   ·rw[if_neg ag];omega
def Q7{c:TC}(hw:c.n≤c.ws.length*64)(hi:i<c.n)(l:List Dg):(jw (c.put i l)).length≤(jw c).length+1:=by
 have e:jw (c.put i l)=(List.range c.n).filter fun j=>decide (j=i) || cy c.ws c.n (j:Int):=by
  unfold jw TC.put
  simp only
  refine List.filter_congr fun j _=>?_
  rw[iT hw hi]
  by_cases h:j=i
  ·rw[if_pos ag,decide_eq_true h,Bool.true_or]
  ·rw[if_neg ag,decide_eq_false h,Bool.false_or]
 rw[e]
 have h1:=sf (fun j=>decide (j=i)) (fun j:Nat=>cy c.ws c.n (j:Int)) (List.range c.n)
 have h2:=range_one i c.n
 rw[if_pos hi]at h2
 show _≤((List.range c.n).filter fun i:Nat=>cy c.ws c.n (i:Int)).length+1
 omega
def MU:∀(ts:List Tk) (k:Nat) (y z:Tk),ts[k]?=some y→wT (ts.set k z)+(1+(jw y.c).length)=wT ts+(1+(jw z.c).length)
 | [],k,y,z,h=>by cases h
 | t::ts,0,y,z,h=>by
  simp only[List.getElem?_cons_zero,Option.some.injEq]at h
  subst h
  unfold wT
  simp only[List.set_cons_zero,List.map_cons,List.sum_cons]
  omega
 | t::ts,k+1,y,z,h=>by
  have ih:=MU ts k y z (by simpa using h)
  unfold wT at ih ⊢
  simp only[List.set_cons_succ,List.map_cons,List.sum_cons]
  omega
def nH(hn:(ts.map fun y=>y.x.d).Nodup){z':Tk}(hk:ts[k]?=some z){w:Tk}(hw:w∈ts.set k z'):(w∈ts∧w.x.d≠z.x.d)∨w=z':=by
 obtain⟨j,hj⟩:=List.mem_iff_getElem?.1 hw
 have XQ:=(List.getElem?_eq_some_iff.1 hk).1
 by_cases Be:j=k
 ·subst Be
  rw[List.getElem?_set_self XQ]at hj
  injection hj with hj
  exact .inr hj.symm
 ·rw[List.getElem?_set_ne (fun e=>Be e.symm)]at hj
  refine .inl ⟨List.mem_of_getElem? hj,fun e=>Be ?_⟩
  have d1:(ts.map fun y=>y.x.d)[j]?=some w.x.d:=by rw[List.getElem?_map,hj];rfl
  have d2:(ts.map fun y=>y.x.d)[k]?=some z.x.d:=by rw[List.getElem?_map,hk];rfl
  exact(List.getElem?_inj ((List.getElem?_eq_some_iff.1 d1).1) hn).1 (by rw[d1,d2,e])
def Sg(ts:List Tk)(k:Nat)(z:Tk):gz (ts.set k z)=(gz ts).set k z.c:=by unfold gz;rw[List.map_set]
def CS.piece{t v:fe}{q:Nat}{p:List Dg}{a:Int}{c:List UInt8}(h:CS k w u s ts)(hq:ts[q]?=some z)(hc:vw s.A (iu z.x.d)=some c)(hi:i<z.n)(e7:cC z.x i=some (a,n))(tj:cd z.x i bs p=true)(nV:p.length≤10)(hP:mU z.x i bs s 0 t)(hY:ko z.x t 0 v)(hu:v.A.aw.length≤u')(hk:k≤190) :
  CS k (w+1) u' v (ts.set q (z.put i p))∧v.bt=s.bt∧(∀m,m≠iu z.x.d→vw v.A m=vw s.A m)∧vw v.A (iu z.x.d)=some (bK c a.toNat bs):=by
 have hz:=List.mem_of_getElem? hq
 obtain⟨k1,k2,k3,k4⟩:=h.ok z hz
 obtain⟨g0,g1,g2,g3,g4,g5,g6,gr⟩:=iQ e7
 have iC:(bs.length:Int)=n:=by
  unfold cd at tj
  rw[e7]at tj
  simp only[Bool.and_eq_true,decide_eq_true_eq]at tj
  exact tj.1
 have lA:c.length≤1000:=by
  rcases h.dq.kd _ c hc with⟨he,_⟩|⟨_,hl⟩|⟨_,hl⟩
  ·exact absurd he (iw _)
  ·exact hl
  ·exact hl
 have Ad:=h.dq.used
 have Jf:=h.dq.room
 obtain⟨_,p1,p2,p3,p4,p5,p6⟩:=Ih h.dq.ha h.brk (h.J8 z hz) e7 iC hc ag ag hP
 have Lk:=Cz.acJ (e:=0) h.dq.cz h.dq.ha p1 hP hY
 have mf:vw t.A (fS z.x)=some (bK c a.toNat bs):=by rw[p4,if_pos rfl]
 have hY2:HA v.A∧vw v.A=vw t.A∧v.A.names=t.A.names∧v.A.room=t.A.room∧v.bt=t.bt∧v.brk=false:=by
  unfold ko at hY
  split at hY
  ·exact absurd hY.1.symm (by assumption)
  obtain⟨B,⟨e1,A1,hs,mT⟩,rfl⟩:=hY
  rcases mT with⟨bY,h0,_⟩|⟨h0,_,rfl⟩
  ·exact absurd h0.symm bY
  subst h0
  unfold fg at hs
  rw[show isName (fS z.x)=true from gK z.x]at hs
  obtain⟨_,m1,m2,m3,m4⟩:=p1.sync mf hs
  exact⟨m1,funext m2,m3,m4,rfl,by simp[p2]⟩
 obtain⟨y1,y2,y3,y4,y5,y6⟩:=hY2
 have o4:∀m,vw v.A m=if m=iu z.x.d then some (bK c a.toNat bs)else vw s.A m:=fun m=>by rw[y2];exact p4 m
 have fb:=eW c a.toNat bs
 have wG:vw v.A (iu z.x.d)=some (bK c a.toNat bs):=by rw[o4,if_pos rfl]
 have hkB:∀d,vw v.A (oF d)=vw s.A (oF d):=fun d=>by rw[o4,if_neg (fun e=>jA _ _ e.symm)]
 have ql:∀d,d≠z.x.d→vw v.A (iu d)=vw s.A (iu d):=fun d hd=>by rw[o4,if_neg (fun e=>hd (CB e))]
 have Ln:v.bt=s.bt:=y5.trans p3
 refine⟨⟨h.dq.next y1 Lk (y4.trans p6) (by rw[y3,p5];exact h.dq.Qo) (fun m c' ln=>?_),y6,fun b hb=>?_,fun b hb=>?_,by rw[Ln];exact h.keys,by rw[Ln];have:=h.bl;omega,fun b hb=>?_,?_,fun b hb=>?_,fun b hb j hj=>?_,?_,hu,fun b hb=>?_⟩,Ln,fun m hm=>by rw[o4,if_neg hm],wG⟩
 ·rw[o4]at ln
  by_cases hm:m=iu z.x.d
  ·rw[if_pos hm]at ln
   injection ln with ln
   refine .inr (.inr (.inl ⟨⟨_,hm⟩,?_⟩))
   rw[← ln,fb]
   omega
  ·rw[if_neg hm]at ln
   exact .inl ln
 ·rw[Ln]at hb
  obtain⟨b1,y,hy,Dh⟩:=h.bt b hb
  refine⟨b1,?_⟩
  obtain⟨j,hj⟩:=List.mem_iff_getElem?.1 hy
  by_cases hjq:q=j
  ·subst hjq
   rw[hq]at hj
   injection hj with hj
   exact⟨z.put i p,List.mem_of_getElem? (List.getElem?_set_self ((List.getElem?_eq_some_iff.1 hq).1)),by rw[← Dh,← hj];rfl⟩
  ·exact⟨y,List.mem_of_getElem? (by rw[List.getElem?_set_ne hjq];exact hj),Dh⟩
 ·rw[Ln]
  rcases nH h.nd hq hb with⟨hb,_⟩|rfl
  ·exact h.J8 b hb
  ·exact h.J8 z hz
 ·rcases nH h.nd hq hb with⟨hb,_⟩|rfl
  ·exact h.ok b hb
  ·exact⟨k1,k2,k3,k4.put i nV⟩
 ·have:(ts.set q (z.put i p)).map (fun y=>y.x.d)=ts.map fun y=>y.x.d:=by
   rw[List.map_set]
   refine List.ext_getElem? fun j=>?_
   by_cases Be:j=q
   ·subst Be
    rw[List.getElem?_set_self (by simpa using(List.getElem?_eq_some_iff.1 hq).1),List.getElem?_map,hq];rfl
   ·rw[List.getElem?_set_ne (fun e=>Be e.symm)]
  rw[this];exact h.nd
 ·rcases nH h.nd hq hb with⟨hb,hd⟩|rfl
  ·rw[ql _ hd,hkB];exact h.has b hb
  ·show(vw v.A (iu z.x.d)).isSome=true∧vw v.A (oF z.x.d)=none
   rw[wG,hkB];exact⟨rfl,(h.has z hz).2⟩
 ·rcases nH h.nd hq hb with⟨hb,hd⟩|rfl
  ·rw[ql _ hd];exact h.Dm b hb j hj
  ·show ∃c' a' n' p',vw v.A (iu z.x.d)=some c'∧cC z.x j=some (a',n')∧a'+n'≤c'.length∧(if(j:Int)=(i:Int)then some p else z.pf j)=some p'∧cd z.x j ((c'.drop a'.toNat).take n'.toNat) p'=true
   by_cases Cp:j=i
   ·subst Cp
    refine⟨_,a,n,p,wG,e7,by rw[fb];omega,if_pos rfl,?_⟩
    rw[show n.toNat=bs.length by omega,MR]
    exact tj
   ·have hold:cy z.ws z.n (j:Int)=true:=by
     have rf:cy (jR z.ws i true) z.n (j:Int)=true:=hj
     rw[iT (show z.n≤z.ws.length*64 from k4.2.1) hi,if_neg ag]at rf
     exact rf
    obtain⟨c',a',n',p',c1,c2,c3,c4,c5⟩:=h.Dm z hz j hold
    rw[hc]at c1
    injection c1 with c1
    subst c1
    obtain⟨f0,f1,f2,_⟩:=iQ c2
    have Ge:=DD e7 c2 ag
    refine⟨_,a',n',p',wG,c2,by rw[fb];omega,by rw[if_neg ag];exact c4,?_⟩
    rw[Dq ag ag]
    exact c5
 ·have h1:=MU ts q z (z.put i p) hq
  have h2:(jw (z.put i p).c).length≤(jw z.c).length+1:=Q7 (c:=z.c) k4.2.1 hi p
  have h3:=h.wt
  omega
 ·rcases nH h.nd hq hb with⟨hb,_⟩|rfl
  ·exact h.ns b hb
  ·exact(h.ns z hz).put hi p
def NC(ts:List Tk)(b:Bl)(i:Int)(bs:List UInt8)(p:List Dg):Nat:=match hD ts b with
 | none=>4
 | some y=>if i<0∨(y.n:Int)≤i then 1 else if cy y.ws y.n i=true then 0 else if cd b i bs p=true then 0 else 8
def CS.put{i:Int}{p:List Dg}(h:CS k w u x.1 ts)(hj:CJ j x (gz ts))(hk:k≤180)(pO:j<100)(hR:Ii b i bs p ts x false e ed jB t) :
  jB=false∧CS k (w+1) (u+20) t.1 ed∧CJ (j+1) t (gz ed)∧e=NC ts b i bs p ∧
   ((ed=ts∧t=x)∨∃(q:Nat) (y:Tk),ts[q]?=some y∧y.x=b∧0≤i∧i<y.n∧cy y.ws y.n i=false∧cd b i bs p=true∧ed=ts.set q (y.put i.toNat p)∧(∀m,m≠db→m≠iu b.d→vw t.1.A m=vw x.1.A m)∧∃(c:List UInt8) (a n:Int),vw x.1.A (iu b.d)=some c∧cC b i=some (a,n)∧vw t.1.A (iu b.d)=some (bK c a.toNat bs)):=by
 have hm:=h.mono (k':=k) (w':=w+1) (u':=u+20) ag ag ag
 unfold NC
 rcases hR with⟨h1,_⟩|⟨_,hf,rfl,rfl,rfl,rfl⟩|⟨_,q,y,hf,hq,Df,hc⟩
 ·cases h1
 ·rw[hf];exact⟨rfl,hm,hj.mono ag,rfl,.inl ⟨rfl,rfl⟩⟩
 rw[hf]
 simp only
 rcases hc with⟨hi,rfl,rfl,rfl,rfl⟩|⟨hi,hh,rfl,rfl,rfl,rfl⟩|⟨hi,hh,hp,rfl,rfl,rfl,rfl⟩|⟨hi,hh,hp,rfl,hR,pE⟩
 ·rw[if_pos hi];exact⟨rfl,hm,hj.mono ag,rfl,.inl ⟨rfl,rfl⟩⟩
 ·rw[if_neg ag,if_pos hh];exact⟨rfl,hm,hj.mono ag,rfl,.inl ⟨rfl,rfl⟩⟩
 ·rw[if_neg ag,if_neg (by rw[hh];simp),if_neg (by rw[hp];simp)];exact⟨rfl,hm,hj.mono ag,rfl,.inl ⟨rfl,rfl⟩⟩
 rw[if_neg ag,if_neg (by rw[hh];simp),if_pos hp]
 subst Df
 obtain⟨i,rfl⟩:∃i':Nat,i=i':=⟨i.toNat,ag⟩
 have hy:=List.mem_of_getElem? hq
 obtain⟨k1,k2,k3,k4⟩:=h.ok y hy
 have nV:=sI hp
 have e7:∃a n,cC y.x i=some (a,n):=by
  unfold cd at hp
  cases e7:cC y.x i with
  | none=>rw[e7]at hp;cases hp
  | some an=>exact⟨an.1,an.2,rfl⟩
 obtain⟨a,n,e7⟩:=e7
 obtain⟨g0,g1,g2,g3,g4,g5,g6,gr⟩:=iQ e7
 have iC:(bs.length:Int)=n:=by
  have wD:=hp
  unfold cd at wD
  rw[e7]at wD
  simp only[Bool.and_eq_true,decide_eq_true_eq]at wD
  exact wD.1
 have adW:p.length=dx y.n i:=by
  have wD:=hp
  unfold cd at wD
  rw[e7]at wD
  simp only[Bool.and_eq_true,decide_eq_true_eq]at wD
  have h2:=wD.2
  unfold gb at h2
  rw[decide_eq_true_iff]at h2
  rw[h2.2.1,k3]
 have RH:y.n≤1024:=k4.1
 obtain⟨c,hc⟩:=Option.isSome_iff_exists.1 (h.has y hy).1
 have lA:c.length≤1000:=by
  rcases h.dq.kd _ c hc with⟨he,_⟩|⟨_,hl⟩|⟨_,hl⟩
  ·exact absurd he (iw _)
  ·exact hl
  ·exact hl
 have Ad:=h.dq.used
 have Jf:=h.dq.room
 obtain⟨e1,x1,⟨XB,adp⟩,c1⟩:=hR
 have Ak:=ot XB
 obtain⟨rfl,p1,p2,p3,p4,p5,p6⟩:=Ih h.dq.ha h.brk (h.J8 y hy) e7 iC hc ag ag XB
 rcases c1 with⟨bY,_⟩|⟨_,e2,x2,⟨wD,ado⟩,c2⟩
 ·exact absurd rfl bY
 have EO:=sU wD
 have Al:e2=0:=by
  unfold ko at wD
  have zY:jh x1.1 y.x=0:=by unfold jh tI;rw[p2,p3];simp[h.J8 y hy]
  rw[zY,if_neg (by simp)]at wD
  obtain⟨B,⟨e3,A1,hs,mT⟩,_⟩:=wD
  unfold fg at hs
  rw[show isName (fS y.x)=true from gK y.x]at hs
  obtain⟨h0,_⟩:=p1.sync (c:=bK c a.toNat bs) (by rw[p4,if_pos rfl]) hs
  rcases mT with⟨bY,h1,_⟩|⟨_,h1,_⟩
  ·exact absurd h0 bY
  ·exact h1
 subst Al
 rcases c2 with⟨bY,_⟩|⟨_,gS⟩
 ·exact absurd rfl bY
 have Xo:=h.kM
 have aeQ:=Ak.1
 have aeP:=EO.1
 obtain⟨n1,n2,n3,n4⟩:=h.piece (u':=u+10) hq hc ag e7 hp nV XB wD ag ag
 have Bf:CJ j x2 (gz ts):=by
  have:=hj.sto (t:=x2.1) (n3 db (fun e=>iw _ e.symm))
  rw[← adp,← ado]at this
  exact this
 obtain⟨rfl,m1,m2,m3,m4⟩:=n1.note Bf ag pO (yj _ _ ag p nV) gS
 rcases pE with⟨bY,_⟩|⟨_,rfl⟩
 ·exact absurd rfl bY
 have e2:((i:Int)).toNat=i:=by omega
 rw[e2]at m2 ⊢
 refine⟨by decide,m1.mono (Nat.le_refl _) (Nat.le_refl _) ag,m2 _ (fun ls Jj=>?_),rfl,.inr ⟨q,y,hq,rfl,ag,ag,hh,hp,rfl,fun m Zb XK=>by rw[m4 m Zb,n3 m XK],c,a,n,hc,e7,by rw[m4 _ (iw _),n4]⟩⟩
 rw[vg,xM _ _ (by have:=k4.1;omega) nV,Sg]
 have hcq:(gz ts)[q]?=some y.c:=by unfold gz;rw[List.getElem?_map,hq];rfl
 exact Jj.piece (by rw[Pr];exact h.nd) hcq (i:=i) (show i<y.n by omega) adW
def Az(p:Tk→Bool):∀ts:List Tk,wT (ts.filter p)≤wT ts
 | []=>Nat.le_refl _
 | t::ts=>by
  have ih:=Az p ts
  unfold wT at ih ⊢
  rw[List.filter_cons]
  split
  ·simp only[List.map_cons,List.sum_cons];omega
  ·simp only[List.map_cons,List.sum_cons];omega
def qS{w:Tk}(h:w∈nJ ts d):w∈ts∧w.x.d≠d:=by
 obtain⟨h1,h2⟩:=List.mem_filter.1 h
 exact⟨h1,by simpa using h2⟩
def CS.gone{k':Nat}{t:fe}(h:CS k w u s ts)(hk:k≤k')(hz:z∈ts)(h1:HA t.A)(h2:t.brk=false)(h3:t.bt=oe s.bt z.x.d)(SV:Cz k' t.A)(hr:t.A.room=s.A.room)(hn:t.A.names.length≤k')(hu:t.A.aw.length≤u')(hS:∀d,d≠z.x.d→vw t.A (iu d)=vw s.A (iu d))(hB:∀d,d≠z.x.d→vw t.A (oF d)=vw s.A (oF d))(hkd:∀n c,vw t.A n=some c→vw s.A n=some c∨(∃d,n=oF d∧dK c=d)∧c.length≤1000):CS k' w u' t (nJ ts z.x.d):=by
 have jI:∀b∈s.bt,b∈oe s.bt z.x.d→b.1≠z.x.d:=fun b _ hb=>by
  have:=(List.mem_filter.1 hb).2
  simpa using this
 refine⟨h.dq.next h1 SV hr hn (fun n c hc=>?_),h2,fun b hb=>?_,fun y hy=>?_,?_,?_,fun y hy=>h.ok y (qS hy).1,(List.filter_sublist.map _).nodup h.nd,fun y hy=>?_,fun y hy i hi=>?_,?_,hu,fun y hy=>h.ns y (qS hy).1⟩
 ·rcases hkd n c hc with hc|hc
  ·exact .inl hc
  ·exact .inr (.inr (.inr hc))
 ·rw[h3]at hb
  have rj:=Pm hb
  obtain⟨b1,y,hy,Dh⟩:=h.bt b rj
  refine⟨b1,y,List.mem_filter.2 ⟨hy,?_⟩,Dh⟩
  have:=jI b rj hb
  rw[b1]at this
  rw[Dh]
  simpa using this
 ·rw[h3,LJ,if_neg (qS hy).2]
  exact h.J8 y (qS hy).1
 ·rw[h3]
  exact(List.filter_sublist.map _).nodup h.keys
 ·rw[h3]
  have:=List.length_filter_le (fun x:Dg × Bl => !decide (x.1=z.x.d)) s.bt
  have:=h.bl
  unfold oe
  omega
 ·obtain⟨Rr,yF⟩:=qS hy
  rw[hS _ yF,hB _ yF]
  exact h.has y Rr
 ·obtain⟨Rr,yF⟩:=qS hy
  rw[hS _ yF]
  exact h.Dm y Rr i hi
 ·have:=Az (fun y => !decide (y.x.d=z.x.d)) ts
  have:=h.wt
  unfold nJ
  omega
def nM(v:ByteArray→Option (List UInt8))(x:Bl)(inst:Bool)(n:ByteArray):Option (List UInt8) :=
 if inst=true∧n=oF x.d then v (iu x.d)else if n=iu x.d then none else v n
def Ed(v:ByteArray→Option (List UInt8))(x:Bl)(n:ByteArray):nM v x false n=if n=iu x.d then none else v n:=by
 unfold nM
 exact if_neg fun e=>by cases e.1
def KD(v:ByteArray→Option (List UInt8))(x:Bl)(n:ByteArray):nM v x true n=if n=oF x.d then v (iu x.d)else if n=iu x.d then none else v n:=by
 unfold nM
 by_cases h:n=oF x.d
 ·rw[if_pos ⟨rfl,h⟩,if_pos h]
 ·rw[if_neg (fun e=>h e.2),if_neg h]
def CS.over{x1 y:SJ}{c:List UInt8}{e':Nat}(h:CS k w u x.1 ts)(hj:CJ j x (gz ts))(hk:k≤180)(pO:j<100)(hz:z∈ts)(hc:vw x.1.A (iu z.x.d)=some c){inst:Bool}(h1:(inst=true∧dR z.x x.1 e x1.1)∨(inst=false∧j6 z.x x.1 e x1.1))(yX:x1.2=x.2)(gS:iZ (kW (LC z.x.d)) x1 e' y) :
  e=(if inst=true∧dX z.x c=false then 8 else 0)∧e'=0∧CS (k+1) w (u+20) y.1 (nJ ts z.x.d)∧CJ (j+1) y (gz (nJ ts z.x.d))∧∀n,n≠db→vw y.1.A n=nM (vw x.1.A) z.x (inst && dX z.x c) n:=by
 have hb:=h.J8 z hz
 have lA:c.length≤1000:=by
  rcases h.dq.kd _ c hc with⟨he,_⟩|⟨_,hl⟩|⟨_,hl⟩
  ·exact absurd he (iw _)
  ·exact hl
  ·exact hl
 have Lk:=h.dq.cz.mono (fun _ x=>x) (Nat.le_succ k)
 have lD:=h.dq.Qo
 have Xo:=h.kM
 have iL:e=(if inst=true∧dX z.x c=false then 8 else 0)∧HA x1.1.A∧x1.1.brk=false∧x1.1.bt=oe x.1.bt z.x.d∧x1.1.A.room=x.1.A.room∧x1.1.A.names.length≤k+1∧Cz (k+1) x1.1.A∧x1.1.A.aw.length≤u+10∧∀n,vw x1.1.A n=nM (vw x.1.A) z.x (inst && dX z.x c) n:=by
  have m8:∀ {e:Nat} {t:fe},j6 z.x x.1 e t→e=0∧HA t.A∧t.brk=false∧t.bt=oe x.1.bt z.x.d∧t.A.room=x.1.A.room∧t.A.names.length≤k+1∧Cz (k+1) t.A∧∀n,vw t.A n=nM (vw x.1.A) z.x false n:=fun {e t} hA=>by
   obtain⟨rfl,a1,a2,a3,a4,a5,a6⟩:=zV h.dq.ha h.brk hb hc hA
   refine⟨rfl,a1,a2,a3,a6,?_,Cz.PG Lk h.dq.ha hc lA hA,fun n=>?_⟩
   ·rw[a5]
    have:=List.length_filter_le (fun q:ByteArray × Nat => !decide (q.1=fS z.x)) x.1.A.names
    unfold Ab.dI
    omega
   ·rw[a4,Ed]
    rfl
  rcases h1 with⟨rfl,h1⟩|⟨rfl,h1⟩
  ·have hg:=(sm h1).1
   have SU:=Cz.Oq Lk h.dq.ha h.brk hb hc lA (h.has z hz).2 ag h1
   cases hw:dX z.x c with
   | false =>
    obtain⟨rfl,a1,a2,a3,a4,a5,a6⟩:=wo h.dq.ha h.brk hb hc hw h1
    refine⟨by simp,a1,a2,a3,a6,?_,SU,ag,fun n=>?_⟩
    ·rw[a5]
     have:=List.length_filter_le (fun q:ByteArray × Nat => !decide (q.1=fS z.x)) x.1.A.names
     unfold Ab.dI
     omega
    ·rw[a4,Bool.true_and,Ed]
     rfl
   | true =>
    obtain⟨rfl,a1,a2,a3,a4,a5,f,a6⟩:=zP h.dq.ha h.brk hb hc (h.has z hz).2 hw h1
    refine⟨by simp,a1,a2,a3,a5,?_,SU,ag,fun n=>?_⟩
    ·rw[a6,List.length_append,List.length_singleton]
     have:=List.length_filter_le (fun q:ByteArray × Nat => !decide (q.1=fS z.x)) x.1.A.names
     unfold Ab.dI
     omega
    ·rw[a4,Bool.true_and,KD,hc]
     rfl
  ·have hg:=(wu h1).1
   obtain⟨rfl,a1,a2,a3,a4,a5,a6,a7⟩:=m8 h1
   exact⟨by simp,a1,a2,a3,a4,a5,a6,ag,a7⟩
 obtain⟨q0,q1,q2,q3,q4,q5,q6,q7,q8⟩:=iL
 have hS:∀d,d≠z.x.d→vw x1.1.A (iu d)=vw x.1.A (iu d):=fun d hd=>by
  rw[q8]
  unfold nM
  rw[if_neg (fun e=>jA _ _ e.2),if_neg (fun e=>hd (CB e))]
 have hB:∀d,d≠z.x.d→vw x1.1.A (oF d)=vw x.1.A (oF d):=fun d hd=>by
  rw[q8]
  unfold nM
  rw[if_neg (fun e=>hd (Jt e.2)),if_neg (fun e=>jA _ _ e.symm)]
 have hP:vw x1.1.A db=vw x.1.A db:=by
  rw[q8]
  unfold nM
  rw[if_neg (fun e=>nc _ e.2.symm),if_neg (fun e=>iw _ e.symm)]
 have Ak:=h.gone (k':=k+1) (u':=u+10) ag hz q1 q2 q3 q6 q4 q5 q7 hS hB (fun n c' ln=>by
  rw[q8]at ln
  unfold nM at ln
  split at ln
  ·rename_i hi
   rw[hc]at ln
   injection ln with ln
   subst ln
   have hw:dX z.x c=true:=by
    have:=hi.1
    rw[Bool.and_eq_true]at this
    exact this.2
   exact .inr ⟨⟨z.x.d,hi.2,(Gk hw).2⟩,lA⟩
  ·split at ln
   ·cases ln
   ·exact .inl ln)
 have Bf:CJ j x1 (gz ts):=by
  have:=hj.sto (t:=x1.1) hP
  rw[← yX]at this
  exact this
 obtain⟨rfl,m1,m2,m3,m4⟩:=Ak.note Bf ag pO (Pj _) gS
 refine⟨q0,rfl,m1.mono (Nat.le_refl _) (Nat.le_refl _) ag,m2 _ (fun ls Jj=>?_),fun n hn=>by rw[m4 n hn,q8]⟩
 rw[vg,M4,HS]
 exact Jj.rm _
def sd(k:List UInt8)(d:Dg):df k d≠bL db:=fun h=>by
 have h1:=congrArg (fun s:ByteArray=>s.data.toList.length) h
 simp only[df,db,strOf,bL,List.length_append,jD]at h1
 simp at h1
def DQ.fresh(h:DQ k A):vw A (bL db)=none:=by
 cases hx:vw A (bL db)with
 | none=>rfl
 | some c =>
  rcases h.kd _ c hx with⟨he,_⟩|⟨⟨d,he⟩,_⟩|⟨⟨d,he,_⟩,_⟩
  ·exact absurd he oR
  ·exact absurd he.symm (sd kS d)
  ·exact absurd he.symm (sd kB d)
def B7(h:HA A){nm:ByteArray}{c:List UInt8}(hv:vw A nm=some c){a:Int}(h1:0≤a)(h2:0≤n)(h3:a+n≤c.length):A.read nm a n=((c.drop a.toNat).take n.toNat,0):=by
 unfold vw at hv
 cases oE:A.look nm with
 | none=>rw[oE]at hv;cases hv
 | some f =>
  rw[oE]at hv
  simp only[Option.map_some,Option.some.injEq]at hv
  unfold Ab.read
  rw[if_neg (by rw[h.on];simp),oE]
  simp only
  rw[hv,if_neg ag]
def Fb(h:HA A){nm:ByteArray}(hv:vw A nm=some C):fW A nm=cp (fj C):=by
 have hs:(A.size nm).1=C.length:=by
  unfold vw at hv
  cases oE:A.look nm with
  | none=>rw[oE]at hv;cases hv
  | some f =>
   rw[oE]at hv
   simp only[Option.map_some,Option.some.injEq]at hv
   unfold Ab.size
   rw[oE]
   simp only
   rw[hv]
 unfold fW
 rw[hs,B7 h hv ag ag ag]
 simp
structure GB(A:Ab)(c:TC):Prop where
 r:bz c.x=true
 s:c.x.size≤600
 n:(c.n:Int)=bO c.x
 ok:ke c
 has:(vw A (iu c.x.d)).isSome=true∧vw A (oF c.x.d)=none
 Dm:∀i:Nat,cy c.ws c.n i=true→∃(b:List UInt8) (a n:Int) (p:List Dg),vw A (iu c.x.d)=some b∧cC c.x i=some (a,n)∧a+n≤b.length∧c.pf i=some p∧cd c.x i ((b.drop a.toNat).take n.toNat) p=true
def GB.of{c:TC}(h:GB A c')(e:QJ c c')(kC:ke c):GB A c :=
  ⟨by rw[e.x];exact h.r,by rw[e.x];exact h.s,by rw[e.n,e.x];exact h.n,kC,by rw[e.x];exact h.has,fun i hi=>by
    rw[e.x,e.p i hi]
    exact h.Dm i (by rw[← e.b i];exact hi)⟩
def GB.vw{B:Ab}{c:TC}(h:GB A c)(h1:∀b,Proofs.YtedjnjkijiddlaaGreatDoor.vw A (iu c.x.d)=some b→Proofs.YtedjnjkijiddlaaGreatDoor.vw B (iu c.x.d)=some b)(h2:Proofs.YtedjnjkijiddlaaGreatDoor.vw B (oF c.x.d)=Proofs.YtedjnjkijiddlaaGreatDoor.vw A (oF c.x.d)):GB B c:=by
 refine⟨h.r,h.s,h.n,h.ok,⟨?_,by rw[h2];exact h.has.2⟩,fun i hi=>?_⟩
 ·obtain⟨b,hb⟩:=Option.isSome_iff_exists.1 h.has.1
  rw[h1 b hb];rfl
 ·obtain⟨b,a,n,p,c1,c2⟩:=h.Dm i hi
  exact⟨b,a,n,p,h1 b c1,c2⟩
def GY{x:Bl}{p:List Dg}{n:Nat}(h:cd x i bs p=true)(hn:(n:Int)=bO x):p.length=dx n i:=by
 unfold cd at h
 split at h
 ·cases h
 ·rw[Bool.and_eq_true]at h
  have h2:=h.2
  unfold gb at h2
  rw[decide_eq_true_iff]at h2
  rw[h2.2.1,hn]
def nz(l:List TC):List (Dg × Bl):=l.map fun c=>(c.x.d,c.x)
def LK{l:List TC}(h:∀c∈l,c.x.d≠d):gN (nz l) d=none:=by
 unfold gN nz
 rw[List.find?_eq_none.2 (fun x hx=>by
  obtain⟨c,hc,rfl⟩:=List.mem_map.1 hx
  simpa using h c hc)]
 rfl
def Bv:∀ {l:List TC} {c:TC},(l.map fun c=>c.x.d).Nodup→c∈l→gN (nz l) c.x.d=some c.x
 | [],c,_,h=>by cases h
 | y::l,c,hn,h=>by
  rw[List.map_cons,List.nodup_cons]at hn
  rcases List.mem_cons.1 h with rfl|h
  ·unfold gN nz
   simp
  ·have bY:y.x.d≠c.x.d:=fun e=>hn.1 (List.mem_map.2 ⟨c,h,e.symm⟩)
   have ih:=Bv hn.2 h
   unfold gN nz at ih ⊢
   rw[List.map_cons,List.find?_cons_of_neg (by simpa using bY)]
   exact ih
def wk{k:Nat}{q:Int}{A:Ab}(hA:DQ k A):∀(l done:List TC) (s:fe) (rs:List (List UInt8)) (e:Nat) (t:fe) (j9:List TC) (AO:List (List UInt8)),s=⟨A,nz done,false⟩→(∀c∈l,GB A c)→(∀c∈done,c.x.size≤600)→((done++l).map fun c=>c.x.d).Nodup →
  1000*(k:Int)+600*((done.length+l.length:Nat):Int)≤q→si q l s done rs e t j9 AO→e=0∧j9=done++l∧AO=rs++l.flatMap pD∧t=⟨A,nz (done++l),false⟩
 | [],done,s,rs,e,t,j9,AO,hs,_,_,_,_,h=>by
  obtain⟨rfl,rfl,rfl,rfl⟩:=h
  exact⟨rfl,by simp,by simp,by rw[hs];simp⟩
 | c::l,done,s,rs,e,t,j9,AO,hs,hg,hd,hn,hq,h=>by
  subst hs
  have hc:=hg c (List.mem_cons_self ..)
  obtain⟨e1,s1,hb,gS⟩:=h
  have jI:∀y∈done,y.x.d≠c.x.d:=fun y hy=>by
   rw[List.map_append,List.nodup_append]at hn
   exact hn.2.2 _ (List.mem_map.2 ⟨y,hy,rfl⟩) _ (by simp)
  have Ad:jP ⟨A,nz done,false⟩≤1000*(k:Int)+600*(done.length:Int):=by
   have h1:=hA.rM
   have h2:=Fu (l:=nz done) (fun z hz=>by
    obtain⟨y,hy,rfl⟩:=List.mem_map.1 hz
    exact hd y hy)
   have h3:(nz done).length=done.length:=by simp[nz]
   unfold jP
   simp only
   omega
  have iB:=hc.s
  have abY:=LK jI
  unfold dS at hb
  rw[if_neg (by simp),if_neg (by rw[hc.r];simp),if_neg (by
   rw[lM,show vw A (fB c.x)=none from hc.has.2]
   simp only
   rw[abY];simp),if_neg (by
   rw[List.length_cons]at hq
   omega),if_pos (by rw[lM];exact hc.has.1)]at hb
  obtain⟨rfl,rfl⟩:=hb
  rw[if_neg ag,if_neg ag]at gS
  have nX:nz done++[(c.x.d,c.x)]=nz (done++[c]):=by simp[nz]
  have k6:qb (nz (done++[c])) c.x=true:=by
   unfold qb
   refine decide_eq_true ?_
   rw[← nX,Fs _ _ _ abY,if_pos rfl]
  have hh:ki ⟨A,nz done++[(c.x.d,c.x)],false⟩ c=(c,pD c):=by
   rw[nX]
   refine EI (fun i hi hh=>?_) c.n (Nat.le_refl _)
   obtain⟨b,a,n,p,c1,c2,c3,c4,c5⟩:=hc.Dm i hh
   obtain⟨f0,f1,f2,_⟩:=iQ c2
   have cK:eo ⟨A,nz (done++[c]),false⟩ c.x (i:Int)=((b.drop a.toNat).take n.toNat,0):=by
    unfold eo
    rw[if_pos k6,c2]
    exact B7 hA.ha c1 ag ag ag
   rw[cK,c4]
   exact⟨rfl,c5⟩
  simp only[hh]at gS
  have:=wk hA l (done++[c]) _ _ e t j9 AO (by rw[nX]) (fun y hy=>hg y (List.mem_cons_of_mem _ hy)) (fun y hy=>by
   rcases List.mem_append.1 hy with hy|hy
   ·exact hd y hy
   ·rw[List.mem_singleton.1 hy];exact hc.s) (by rw[List.append_assoc];exact hn) (by rw[List.length_append,List.length_singleton];rw[List.length_cons]at hq;omega) gS
  obtain⟨r1,r2,r3,r4⟩:=this
  exact⟨r1,by rw[r2,List.append_assoc];rfl,by rw[r3,List.flatMap_cons,List.append_assoc],by rw[r4,List.append_assoc];rfl⟩
def GB.aaU{c:TC}(h:GB A c)(hi:cy c.ws c.n (i:Int)=true):∃p,c.pf i=some p∧p.length=dx c.n i∧p.length≤10:=by
 obtain⟨b,a,n,p,c1,c2,c3,c4,c5⟩:=h.Dm i hi
 exact⟨p,c4,GY c5 h.n,sI c5⟩
def DX{A:Ab}:∀(l JD Zo:List TC),Da JD Zo→(∀c∈l,GB A c)→((Zo++l).map fun c=>c.x.d).Nodup→Da ((l.flatMap pD).foldl dB JD) (Zo++l)
 | [],JD,Zo,h,_,_=>by simpa using h
 | c::l,JD,Zo,h,hg,hn=>by
  have hc:=hg c (List.mem_cons_self ..)
  have jI:∀y∈JD,y.x.d≠c.x.d:=fun y hy=>by
   obtain⟨i,hi⟩:=List.mem_iff_getElem?.1 hy
   obtain⟨z,hz,Xg⟩:=h.left hi
   rw[Xg.x]
   rw[List.map_append,List.nodup_append]at hn
   exact hn.2.2 _ (List.mem_map.2 ⟨z,List.mem_of_getElem? hz,rfl⟩) _ (by simp)
  have h1:=hc.n
  have h2:=hc.ok
  obtain⟨c',e1,e2⟩:=Ks jI hc.r ag h2.2.1 (by have:=h2.1;omega) (fun i hi=>hc.aaU hi)
  rw[List.flatMap_cons,List.foldl_append,e1]
  have:=DX l (JD++[c']) (Zo++[c]) (h.snoc e2) (fun y hy=>hg y (List.mem_cons_of_mem _ hy)) (by rw[List.append_assoc];exact hn)
  rw[List.append_assoc]at this
  exact this
def Nv{c:TC}(h:GB A c):∀b∈pD c,b.length≤900:=fun b hb=>by
 have hr:=dp h.r
 have hn:=h.ok.1
 unfold pD at hb
 rcases List.mem_cons.1 hb with rfl|hb
 ·exact sT c.x ag ag
 ·obtain⟨i,hi,rfl⟩:=List.mem_map.1 hb
  have h1:=List.mem_filter.1 hi
  have h2:=List.mem_range.1 h1.1
  obtain⟨p,e1,_,e3⟩:=h.aaU h1.2
  rw[e1]
  exact yj _ _ ag _ e3
def wC(cs:List TC):Nat:=(cs.map fun c=>1+(jw c).length).sum
def Zu(ts:List Tk):wC (gz ts)=wT ts:=by unfold wC wT gz;rw[List.map_map];rfl
def yg:∀l:List TC,(l.flatMap pD).length=wC l
 | []=>rfl
 | c::l=>by
  have ih:=yg l
  unfold wC at ih ⊢
  rw[List.flatMap_cons,List.length_append,ih,List.map_cons,List.sum_cons]
  unfold pD
  rw[List.length_cons,List.length_map]
  omega
def W8{c:TC}(h:QJ c c'):jw c=jw c':=by
 unfold jw
 rw[h.n]
 refine List.filter_congr fun i _=>?_
 have:=h.b i
 rw[h.n]at this
 exact this
def Zt:∀ {cs j9:List TC},Da cs j9→wC cs=wC j9:=fun {cs j9} h=>by
 unfold wC
 congr 1
 refine List.ext_getElem? fun i=>?_
 rw[List.getElem?_map,List.getElem?_map]
 cases hx:cs[i]? with
 | none =>
  rw[List.getElem?_eq_none (by rw[← h.1];exact List.getElem?_eq_none_iff.1 hx)]
 | some c =>
  obtain⟨c',ln,e⟩:=h.left hx
  rw[ln,Option.map_some,Option.map_some,W8 e]
def Da.nodup(h:Da cs j9):cs.map (fun c=>c.x.d)=j9.map fun c=>c.x.d:=by
 refine List.ext_getElem? fun i=>?_
 rw[List.getElem?_map,List.getElem?_map]
 cases hx:cs[i]? with
 | none =>
  rw[List.getElem?_eq_none (by rw[← h.1];exact List.getElem?_eq_none_iff.1 hx)]
 | some c =>
  obtain⟨c',ln,e⟩:=h.left hx
  rw[ln,Option.map_some,Option.map_some,e.x]
def CS.vf(h:CS k w u s ts)(hy:y∈ts):GB s.A y.c:=by
 obtain⟨h1,h2,h3,h4⟩:=h.ok y hy
 exact⟨h1,h2,h3,h4,h.has y hy,h.Dm y hy⟩
def Oe(ts:List Tk):ts.length≤wT ts:=by
 induction ts with
 | nil=>exact Nat.zero_le _
 | cons t ts ih =>
  unfold wT at ih ⊢
  rw[List.map_cons,List.sum_cons,List.length_cons]
  omega
def J3(ls:List (List UInt8)):(ck ls).length=32+(ls.flatMap aV).length:=by
 rw[Gl,KV]
def DQ.put{ls:List (List UInt8)}{s c:Int}{y:PS}(h:DQ k A)(hv:vw A db=some C)(hk:k≤180)(hl:(ls.flatMap aV).length≤95000)(hR:Ap db ls (A,n,s,c) e y) :
  e=0∧DQ k y.1∧vw y.1=eK (vw A) db (some (ck ls))∧y.2=(1,((ls.flatMap aV).length:Int),((ls.flatMap aV).length:Int)):=by
 have fb:=J3 ls
 have Ad:=h.used
 have Jf:=h.room
 have lD:=h.Qo
 obtain⟨rfl,r1,r2,r3,r4⟩:=AU h.ha dZ jH oR h.fresh ag ag ag hR
 have hn:y.1.names.length=A.names.length:=h.ha.qg r1 (fun m=>by
  rw[r2]
  unfold eK
  split
  ·rename_i hm;rw[hm,hv];rfl
  ·rfl)
 refine⟨rfl,h.next r1 (GS h.cz h.fresh r1 ag hR) r3 ag (fun m c' ln=>?_),r2,r4⟩
 rw[r2]at ln
 by_cases hm:m=db
 ·subst hm
  rw[dv]at ln
  injection ln with ln
  exact .inr (.inl ⟨rfl,by rw[← ln];omega⟩)
 ·rw[dL _ _ hm]at ln
  exact .inl ln
def CS.open{jn:JN}{A':Ab}(h:CS k w u s ts)(hj:CJ j (s,jn) (gz ts))(hq:DQ k A')(ql:∀n c,vw s.A n=some c→vw A' n=some c)(XC:∀n,(∀d,n≠iu d)→vw A' n=vw s.A n)(hk:k≤180)(hw:w≤100)(pO:j≤100)(hO:zy 1048576 A' e t cs) :
  e=0∧Da cs (gz ts)∧(∀n,n≠db→vw t.1.A n=vw A' n)∧∀ed,gz ed=cs→CS k w (A'.aw.length+20) t.1 ed∧CJ w t (gz ed):=by
 obtain⟨C,n,ls,h1,h2,h3,h4,h5,h6,h7⟩:=hj.jr
 have S9:vw A' db=some C:=ql _ _ h1
 have nW:=mq ls h6
 have hlen:=h2.len
 have mi:fW A' db=ls:=by
  rw[Fb hq.ha S9,h2.found ag ag]
  exact pZ ls fun x hx=>by have:=h6 x hx;omega
 obtain⟨e1,B,ho,hO⟩:=hO
 obtain⟨rfl,rfl⟩:=hq.open ho
 rw[if_neg ag]at hO
 obtain⟨s',jn',hT,rfl⟩:=hO
 obtain⟨e2,A1,j1,hR,hT⟩:=hT
 simp only at hR hT
 have Ak:=sV hR
 rw[mi]at hT
 unfold ou at hR
 rw[if_neg (by rw[dZ,jH];simp),if_neg (by rw[hq.ha.on];simp),mi]at hR
 obtain⟨y1,hR,rfl,rfl⟩:=hR
 obtain⟨rfl,d1,v1,j1e⟩:=hq.put S9 hk ag hR
 rw[if_neg ag]at hT
 obtain⟨e3,s2,rs,hL,hT⟩:=hT
 obtain⟨C0,TB⟩:∃C0,C0=ls.foldl dB []:=⟨_,rfl⟩
 rw[← TB]at hL h7
 have ac6:∀c∈C0,MM c:=fun c hc=>(pT ls).1 c (TB ▸ hc)
 have lE:∀c∈C0,GB y1.1 c:=fun c hc=>by
  obtain⟨i,hi⟩:=List.mem_iff_getElem?.1 hc
  obtain⟨c',ln,he⟩:=h7.left hi
  obtain⟨y,hy,rfl⟩:=List.mem_map.1 (List.mem_of_getElem? ln)
  have hb:=(h.vf hy).of he (ac6 c hc).1
  refine hb.vw (fun b hb=>?_) ?_
  ·rw[v1,dL _ _ (iw _)];exact ql _ _ hb
  ·rw[v1,dL _ _ (nc _)];exact XC _ fun d e=>jA _ _ e.symm
 have kj:(C0.map fun c=>c.x.d).Nodup:=by rw[h7.nodup,Pr];exact h.nd
 have hlC:C0.length≤w:=by
  have e1:=h7.1
  rw[rq]at e1
  have:=Oe ts
  have:=h.wt
  omega
 obtain⟨rfl,rfl,rfl,rfl⟩:=wk (q:=1048576) d1 C0 [] _ [] e3 s2 _ rs rfl lE (fun c hc=>by cases hc) (by simpa using kj) (by simp only[List.length_nil];omega) hL
 rw[if_neg ag]at hT
 obtain⟨A3,hC,rfl⟩:=hT
 simp only[List.nil_append]at hC ⊢
 have hwC:wC cs=wT ts:=by rw[Zt h7,Zu]
 have hwt:=h.wt
 have EF:∀b∈cs.flatMap pD,b.length≤900:=fun b hb=>by
  obtain⟨c,hc,hb⟩:=List.mem_flatMap.1 hb
  exact Nv (lE c hc) b hb
 have OG:=yg cs
 have xg:=mq _ EF
 have XB:vw y1.1 db=some (ck ls):=by rw[v1,dv]
 unfold oA at hC
 simp only[j1e]at hC
 rw[if_neg (by simp),if_neg (by
  rw[Bool.not_eq_true,List.any_eq_false]
  intro b hb
  have:=EF b hb
  simp;omega),if_neg ag]at hC
 obtain⟨y3,hR3,rfl,rfl⟩:=hC
 have hg3:=vy hR3
 obtain⟨rfl,d3,v3,j3e⟩:=d1.put XB hk ag hR3
 have hv3:∀m,m≠db→vw y3.1 m=vw B m:=fun m hm=>by rw[v3,dL _ _ hm,v1,dL _ _ hm]
 refine⟨rfl,h7,hv3,fun ed pE=>?_⟩
 have hgB:∀c∈cs,GB y3.1 c:=fun c hc=>(lE c hc).vw (fun b hb=>by rw[v3,dL _ _ (iw _)];exact hb) (by rw[v3,dL _ _ (nc _)])
 have fz:∀y∈ed,GB y3.1 y.c:=fun y hy=>hgB _ (by rw[← pE];exact List.mem_map.2 ⟨y,hy,rfl⟩)
 have QB:∀y∈ed,uJ y.c:=fun y hy=>uJ.told ls [] (fun c h=>by cases h) _ (by rw[← TB,← pE];exact List.mem_map.2 ⟨y,hy,rfl⟩)
 have adQ:=Ak.1
 have adP:=hg3.1
 simp only at adQ adP
 refine⟨⟨d3,rfl,fun z hz=>?_,fun y hy=>?_,?_,?_,fun y hy=>?_,?_,fun y hy=>(fz y hy).has,fun y hy i hi=>(fz y hy).Dm i hi,?_,by simp only;omega,fun y hy=>QB y hy⟩,⟨ck (cs.flatMap pD),1,cs.flatMap pD,?_,JC.whole _,?_,ag,ag,EF,?_⟩⟩
 ·obtain⟨c,hc,rfl⟩:=List.mem_map.1 hz
  rw[← pE]at hc
  obtain⟨y,hy,rfl⟩:=List.mem_map.1 hc
  exact⟨rfl,y,hy,rfl⟩
 ·exact Bv (c:=y.c) kj (by rw[← pE];exact List.mem_map.2 ⟨y,hy,rfl⟩)
 ·show((nz cs).map (·.1)).Nodup
  unfold nz
  rw[List.map_map]
  exact kj
 ·show(nz cs).length≤w
  unfold nz
  rw[List.length_map]
  exact hlC
 ·exact⟨(fz y hy).r,(fz y hy).s,(fz y hy).n,(fz y hy).ok⟩
 ·rw[← Pr,pE];exact kj
 ·rw[← Zu,pE,hwC];exact hwt
 ·show vw y3.1 db=_
  rw[v3,dv]
 ·rw[j3e]
  simp
 ·rw[pE]
  have:=DX (A:=y3.1) cs [] [] eZ.nil hgB (by simpa using kj)
  simpa using this
structure oB(k w u j:Nat)(x:SJ)(ts:List Tk):Prop where
 cs:CS k w u x.1 ts
 cj:CJ j x (gz ts)
def oB.first(hR:zy 1048576 (Ab.new 16777216) e t cs):e=0∧cs=[]∧(∀n,n≠db→vw t.1.A n=none)∧oB 1 0 100 0 t []:=by
 have hR0:=hR
 obtain⟨rfl,rfl,a1,a2,a3,a4,a5,a6,a7,a8,a9,a10⟩:=BC (HA.new _) rfl (by show 64≤16777216;omega) hR0
 have Lk:Cz 1 t.1.A:=by
  obtain⟨e1,B,hO,hR⟩:=hR
  obtain⟨rfl,rfl⟩:=zD rfl hO
  rw[if_neg ag]at hR
  obtain⟨s,jn,⟨e2,A1,j1,Pc,hR⟩,rfl⟩:=hR
  simp only at Pc hR
  have lJ:=BN (A:=Ab.new 16777216) rfl
  have hu0:(Ab.new 16777216).used=0:=rfl
  have hO2:=Pc
  obtain⟨rfl,k1,k2,k3,k4,k5⟩:=yl (HA.new 16777216) dZ jH oR (by rw[lJ]) (by rw[lJ]) (by show 0<200;omega) (by rw[hu0];show 0+32≤16777216;omega) Pc
  rw[lJ]at k2
  obtain⟨S4,Te⟩:=(HA.new 16777216).pR k1 (k:=db) (c:=ck []) (by rw[lJ]) (by rw[k2,lJ])
  have aeG:A1.names.length=1:=Te
  have z1:Cz 1 A1:=by
   unfold ou at hO2
   rw[if_neg (by rw[dZ,jH];simp),if_neg (by show ¬false=true;simp)]at hO2
   obtain⟨y1,hP1,rfl,_⟩:=hO2
   exact GS (Cz.new 16777216) (by rw[lJ]) k1 ag hP1
  rw[if_neg ag,k5]at hR
  obtain⟨e3,s2,rs,⟨rfl,rfl,-,rfl⟩,hR⟩:=hR
  rw[if_neg ag]at hR
  obtain⟨A3,hC,rfl⟩:=hR
  simp only at hC a1 a7 ⊢
  subst k4
  unfold oA at hC
  rw[if_neg (by simp),if_neg (by simp),if_neg (by simp)]at hC
  obtain⟨y,hP,rfl,rfl⟩:=hC
  exact GS z1 (by rw[k2,dL _ _ oR]) a1 ag hP
 obtain⟨⟨A,bt,brk⟩,jn⟩:=t
 simp only at a1 a2 a3 a4 a5 a6 a7 a8 a9 a10 Lk
 subst a2 a3 a6
 have Af:(Ab.new 16777216).aw.length=1:=rfl
 refine⟨rfl,rfl,fun n hn=>by show vw A n=none;rw[a4,dL _ _ hn],⟨⟨⟨a1,Lk,a5,by simp only;omega,fun n c hc=>?_⟩,rfl,fun z hz=>(by cases hz),fun y hy=>(by cases hy),List.nodup_nil,Nat.le_refl _,fun y hy=>(by cases hy),List.nodup_nil,fun y hy=>(by cases hy),fun y hy=>(by cases hy),Nat.le_refl _,by simp only;omega,fun y hy=>(by cases hy)⟩,⟨ck [],1,[],?_,JC.whole _,rfl,ag,Nat.le_refl _,fun b hb=>(by cases hb),eZ.nil⟩⟩⟩
 ·have mT:vw A n=some c:=hc
  rw[a4]at mT
  by_cases hp:n=db
  ·subst hp
   rw[dv]at mT
   injection mT with mT
   refine .inl ⟨rfl,?_⟩
   rw[← mT,lP];omega
  ·rw[dL _ _ hp]at mT
   cases mT
 ·show vw A db=_
  rw[a4,dv]
def oB.bnd(h:oB k w u j x ts)(hw:w≤150)(hu:u≤9000):ts.length≤150∧(∀y∈ts,y.n≤65536)∧(∀y∈ts,y.n≤y.ws.length*64)∧(∀y∈ts,y.ws.length≤65536)∧(∀y∈ts,∀k l,y.pf k=some l→l.length≤1000000)∧pI x.1.bt∧x.1.A.aw.length≤9000∧x.1.A.writes.length≤9000:=by
 have h1:=Oe ts
 have h2:=h.cs.wt
 have h3:=h.cs.kM
 have h4:=h.cs.bl
 have kC:∀y∈ts,ke y.c:=fun y hy=>(h.cs.ok y hy).2.2.2
 have hw0:x.1.A.writes=[]:=by
  cases hx:x.1.A.writes with
  | nil=>rfl
  | cons z l=>exact(h.cs.dq.cz.wr z (by rw[hx];simp)).elim
 refine⟨ag,fun y hy=>?_,fun y hy=>(kC y hy).2.1,fun y hy=>(kC y hy).2.2.1,fun y hy k l hk=>?_,⟨fun z hz=>?_,ag⟩,ag,by rw[hw0];simp⟩
 ·have:y.n≤1024:=(kC y hy).1
  omega
 ·have:l.length≤10:=(kC y hy).2.2.2 k l hk
  omega
 ·obtain⟨_,y,hy,Xg⟩:=h.cs.bt z hz
  obtain⟨g1,g2,_⟩:=h.cs.ok y hy
  have:=dp g1
  rw[← Xg]
  omega
def oB.sq{v:SJ}(h:oB k w u j x ts)(hj:j≤150)(hu:u≤9000)(hv:v.2=x.2)(hg:iO 5 x.1 v.1):SQ 10000 0 v:=by
 obtain⟨C,n,ls,h1,h2,h3,h4,h5,h6,h7⟩:=h.cj.jr
 have nW:=mq ls h6
 have h8:=h.cs.kM
 have hw0:x.1.A.writes=[]:=by
  cases hx:x.1.A.writes with
  | nil=>rfl
  | cons z l=>exact(h.cs.dq.cz.wr z (by rw[hx];simp)).elim
 have Ak:=hg.1
 have EO:=hg.2
 rw[hw0,List.length_nil]at EO
 refine⟨?_,?_,ag,ag⟩
 ·rw[hv,h3];simp only;omega
 ·rw[hv,h3];exact⟨by simp only;omega,by simp only;omega⟩
def oB.begin(h:oB k w u j x ts)(hk:k≤180)(hw:w≤150)(pO:j<100)(hs:bz b=true→b.size≤600)(hR:Mz 1048576 b ts x false e ed jB t) :
  jB=false∧oB (k+1) (w+1) (u+20) (j+1) t ed∧e=(if(ts.any fun y=>decide (y.x.d=b.d))=true then 5 else if bz b=false then 1 else if(vw x.1.A (oF b.d)).isSome=true then 5 else 0) ∧
   (e≠0→ed=ts∧t=x)∧(e=0→gz ed=gz ts++[cW b]∧∀n,n≠db→vw t.1.A n=if n=iu b.d then some ((vw x.1.A n).getD [])else vw x.1.A n):=by
 obtain⟨h1,h2,h3,h4⟩:=h.cs.begin h.cj hk hw pO hs hR
 exact⟨h1,⟨h2,h3⟩,h4⟩
def oB.put{i:Int}{p:List Dg}(h:oB k w u j x ts)(hk:k≤180)(pO:j<100)(hR:Ii b i bs p ts x false e ed jB t) :
  jB=false∧oB k (w+1) (u+20) (j+1) t ed∧e=NC ts b i bs p ∧
   ((ed=ts∧t=x)∨∃(q:Nat) (y:Tk),ts[q]?=some y∧y.x=b∧0≤i∧i<y.n∧cy y.ws y.n i=false∧cd b i bs p=true∧ed=ts.set q (y.put i.toNat p)∧(∀m,m≠db→m≠iu b.d→vw t.1.A m=vw x.1.A m)∧∃(c:List UInt8) (a n:Int),vw x.1.A (iu b.d)=some c∧cC b i=some (a,n)∧vw t.1.A (iu b.d)=some (bK c a.toNat bs)):=by
 obtain⟨h1,h2,h3,h4⟩:=h.cs.put h.cj hk pO hR
 exact⟨h1,⟨h2,h3⟩,h4⟩
def oB.fin{r:Int}(h:oB k w u j x ts)(hk:k≤180)(pO:j<100)(hR:YW b ts x false r ed jB t) :
  jB=false∧oB (k+1) w (u+20) (j+1) t ed∧((hD ts b=none∧r=4∧ed=ts∧t=x)∨∃y∈ts,y.x=b∧((oh y.ws<y.n∧r=9∧ed=ts∧t=x) ∨
   (¬oh y.ws<y.n∧ed=nJ ts b.d∧∃c,vw x.1.A (iu b.d)=some c∧r=(if dX b c=false then 8 else 0)∧∀n,n≠db→vw t.1.A n=nM (vw x.1.A) b (dX b c) n))):=by
 have hm:oB (k+1) w (u+20) (j+1) x ts:=⟨h.cs.mono ag (Nat.le_refl _) ag,h.cj.mono ag⟩
 rcases hR with⟨h1,_⟩|⟨_,hf,rfl,rfl,rfl,rfl⟩|⟨_,y,hf,hc⟩
 ·cases h1
 ·exact⟨rfl,hm,.inl ⟨hf,rfl,rfl,rfl⟩⟩
 obtain⟨q,hq,rfl⟩:=n7 hf
 have hy:=List.mem_of_getElem? hq
 rcases hc with⟨h1,rfl,rfl,rfl,rfl⟩|⟨h1,e,v,⟨hI,hI2⟩,hc⟩
 ·exact⟨rfl,hm,.inr ⟨y,hy,rfl,.inl ⟨h1,rfl,rfl,rfl⟩⟩⟩
 obtain⟨c,nt⟩:=Option.isSome_iff_exists.1 (h.cs.has y hy).1
 have he:e=0∨e=8:=by
  cases hw:dX y.x c with
  | false=>exact .inr (wo h.cs.dq.ha h.cs.brk (h.cs.J8 y hy) nt hw hI).1
  | true=>exact .inl (zP h.cs.dq.ha h.cs.brk (h.cs.J8 y hy) nt (h.cs.has y hy).2 hw hI).1
 rcases hc with⟨h0,h8,_⟩|⟨_,e',hr,pE,rfl,gS⟩
 ·omega
 obtain⟨r0,rfl,r2,r3,r4⟩:=h.cs.over h.cj hk pO hy nt (inst:=true) (.inl ⟨rfl,hI⟩) hI2 gS
 rw[if_pos rfl]at hr pE
 subst pE
 refine⟨by decide,⟨r2,r3⟩,.inr ⟨y,hy,rfl,.inr ⟨h1,rfl,c,nt,?_,fun n hn=>by rw[r4 n hn,Bool.true_and]⟩⟩⟩
 rw[hr,r0]
 cases dX y.x c <;> rfl
def oB.back(h:oB k w u j x ts)(hk:k≤180)(hw:w≤100)(pO:j≤100)(hO:zy 1048576 (x.1.A.du 0 [] (-1) 0) e t cs) :
  e=0∧Da cs (gz ts)∧(∀n c,vw x.1.A n=some c→n≠db→vw t.1.A n=some c)∧(∀n,(∀d,n≠iu d)→n≠db→vw t.1.A n=vw x.1.A n)∧∀ed,gz ed=cs→oB k w 21 w t ed:=by
 obtain⟨d1,d2,d3⟩:=h.cs.dq.du
 obtain⟨r1,r2,r3,r4⟩:=h.cs.open (jn:=x.2) h.cj d1 d2 d3 hk hw pO hO
 refine⟨r1,r2,fun n c hc hn=>by rw[r3 n hn];exact d2 n c hc,fun n hn hp=>by rw[r3 n hp,d3 n hn],fun ed pE=>?_⟩
 obtain⟨q1,q2⟩:=r4 ed pE
 exact⟨q1,q2⟩
def Ps(hr:bz b=true)(hs:b.size≤600):1≤bO b∧bO b≤64:=by
 have h:=dp hr
 unfold bO
 rw[if_pos hr]
 constructor
 ·exact Int.le_ediv_of_mul_le ag ag
 ·exact Int.le_of_lt_add_one (Int.ediv_lt_of_lt_mul ag ag)
def Kd{i:Int}(h0:0≤i)(h1:i<bO b):∃a n,cC b i=some (a,n):=by
 unfold cC
 rw[if_neg ag]
 exact⟨_,_,rfl⟩
def Ke{i:Int}(h:i<0∨bO b≤i):cC b i=none:=by
 unfold cC
 rw[if_pos h]
structure kf(a:List UInt8)(b:Bl)(x:SJ)(y:Tk):Prop where
 xb:y.x=b
 Dm:∃c,vw x.1.A (iu b.d)=some c∧MO b a c (fun i=>cy y.ws y.n i=true)
def MO.sub{x:Bl}{w c:List UInt8}{P Q:Int→Prop}(h:MO x w c P)(hq:∀k,Q k→P k):MO x w c Q:=⟨h.len,fun k hk=>h.has k (hq k hk)⟩
def kf.mem(h:oB k w u j x [y])(h1:kf a b x y):bz b=true∧b.size≤600∧(y.n:Int)=bO b∧ke y.c∧uJ y.c∧1≤y.n∧y.n≤64:=by
 obtain⟨g1,g2,g3,g4⟩:=h.cs.ok y (by simp)
 rw[h1.xb]at g1 g2 g3
 have:=Ps g1 g2
 exact⟨g1,g2,g3,g4,h.cs.ns y (by simp),ag,ag⟩
def kf.find(h:y.x=b):hD [y] b=some y:=by
 unfold hD
 simp[h]
def kf.begin{x:SJ}(hy:y.c=cW b)(hv:vw t.1.A (iu b.d)=some []):kf a b t y:=by
 refine⟨congrArg TC.x hy,[],hv,(MO.nil b a).sub fun k hk=>?_⟩
 have h2:cy y.c.ws y.c.n k=false:=by rw[hy];exact tT _ _ _
 have h3:cy y.ws y.n k=false:=h2
 rw[h3]at hk
 cases hk
def kf.put{i:Int}{p:List Dg}(h:oB k w u j x [y])(h1:kf a b x y)(m8:(a.length:Int)=b.size)(hk:k≤180)(pO:j<100)(O5:cd b i bs p=true→∀at_ n,cC b i=some (at_,n)→bs=(a.drop at_.toNat).take n.toNat)(hR:Ii b i bs p [y] x false e ed jB t) :
  jB=false∧oB k (w+1) (u+20) (j+1) t ed∧e=(if i<0∨(y.n:Int)≤i then 1 else if cy y.ws y.n i=true then 0 else if cd b i bs p=true then 0 else 8) ∧
   ∃y',ed=[y']∧y'.n=y.n∧kf a b t y'∧∀l:Int,cy y'.ws y'.n l=(cy y.ws y.n l || (decide (e=0) && decide (l=i))):=by
 obtain⟨m1,m2,m3,m4,m5,m6,m7⟩:=h1.mem h
 obtain⟨r1,r2,r3,r4⟩:=h.put hk pO hR
 have he:e=(if i<0∨(y.n:Int)≤i then 1 else if cy y.ws y.n i=true then 0 else if cd b i bs p=true then 0 else 8):=by
  rw[r3];unfold NC;rw[kf.find h1.xb]
 refine⟨r1,r2,he,?_⟩
 rcases r4 with⟨rfl,rfl⟩|⟨q,y0,hq,Df,Li,RM,hh,hp,rfl,hv,c,at_,n,hc,e7,wG⟩
 ·refine⟨y,rfl,rfl,h1,fun l=>?_⟩
  by_cases hl:l=i
  ·subst hl
   rw[decide_eq_true rfl,Bool.and_true]
   cases hx:cy y.ws y.n l with
   | true=>rfl
   | false =>
    rw[Bool.false_or]
    symm
    refine decide_eq_false fun h0=>?_
    rw[h0]at he
    by_cases hr:l<0∨(y.n:Int)≤l
    ·rw[if_pos hr]at he;cases he
    ·rw[if_neg hr,hx,if_neg (by simp)]at he
     by_cases hp:cd b l bs p=true
     ·-- it would have been put
      exact absurd hR (by
       intro hR
       rcases hR with⟨hb,_⟩|⟨_,hf,_⟩|⟨_,q,z,hf,hq,hzx,hc⟩
       ·cases hb
       ·rw[kf.find h1.xb]at hf;cases hf
       ·rw[kf.find h1.xb]at hf
        injection hf with hf
        subst hf
        rcases hc with⟨hi,_⟩|⟨_,hh,_⟩|⟨_,_,wD,_⟩|⟨_,_,_,_,_,pE⟩
        ·exact hr hi
        ·rw[hx]at hh;cases hh
        ·rw[hp]at wD;cases wD
        ·rcases pE with⟨bY,_⟩|⟨_,pE⟩
         ·exact bY h0
         ·have Y6:q=0:=by
           cases q with
           | zero=>rfl
           | succ q=>simp at hq
          subst Y6
          simp only[List.set_cons_zero,List.cons.injEq,and_true]at pE
          have h9:=congrArg (fun z:Tk=>cy z.ws z.n l) pE
          replace h9:cy y.ws y.n l=cy (y.put l.toNat p).ws (y.put l.toNat p).n l:=h9
          rw[hx]at h9
          have rG:cy (y.put l.toNat p).ws (y.put l.toNat p).n l=true:=by
           show cy (jR y.ws l.toNat true) y.n l=true
           rw[iT (show y.n≤y.ws.length*64 from m4.2.1) (show l.toNat<y.n by omega),if_pos ag]
          rw[rG]at h9
          cases h9)
     ·rw[if_neg hp]at he;cases he
  ·rw[decide_eq_false hl,Bool.and_false,Bool.or_false]
 ·have Y6:q=0:=by
   cases q with
   | zero=>rfl
   | succ q=>simp at hq
  subst Y6
  simp only[List.getElem?_cons_zero,Option.some.injEq]at hq
  subst hq
  have pG:e=0:=by rw[he,if_neg ag,hh,if_neg (by simp),if_pos hp]
  obtain⟨c0,sO,nt⟩:=h1.Dm
  rw[hc]at sO
  injection sO with sO
  subst sO
  have hb:=O5 hp at_ n e7
  refine⟨y.put i.toNat p,rfl,rfl,⟨h1.xb,_,wG,?_⟩,fun l=>?_⟩
  ·rw[hb]
   refine(nt.put m8 e7).sub fun l hl=>?_
   have Ld:cy (jR y.ws i.toNat true) y.n l=true:=hl
   rw[iT (show y.n≤y.ws.length*64 from m4.2.1) (show i.toNat<y.n by omega)]at Ld
   by_cases he:l=i
   ·exact .inr he
   ·rw[if_neg ag]at Ld
    exact .inl Ld
  ·show cy (jR y.ws i.toNat true) y.n l=_
   rw[iT (show y.n≤y.ws.length*64 from m4.2.1) (show i.toNat<y.n by omega),pG]
   by_cases hl:l=i
   ·rw[if_pos ag];simp[hl]
   ·rw[if_neg ag];simp[hl]
def kf.back(h:oB k w u j x [y])(h1:kf a b x y)(hk:k≤180)(hw:w≤100)(pO:j≤100)(hO:zy 1048576 (x.1.A.du 0 [] (-1) 0) e t cs) :
  e=0∧∀ed,gz ed=cs→oB k w 21 w t ed∧∃y',ed=[y']∧y'.n=y.n∧kf a b t y'∧∀l:Int,cy y'.ws y'.n l=cy y.ws y.n l:=by
 obtain⟨r1,r2,r3,r4,r5⟩:=h.back hk hw pO hO
 refine⟨r1,fun ed pE=>⟨r5 ed pE,?_⟩⟩
 subst pE
 have hl:ed.length=1:=by have:=r2.1;rw[rq,rq]at this;exact this
 obtain⟨y',rfl⟩:=List.length_eq_one_iff.1 hl
 have he:=r2.2 0 y'.c y.c zr zr
 obtain⟨c,hc,nt⟩:=h1.Dm
 have hx:y'.x=y.x:=he.x
 have hb:∀l:Int,cy y'.ws y'.n l=cy y.ws y.n l:=he.b
 exact⟨y',rfl,he.n,⟨hx.trans h1.xb,c,r3 _ c hc (iw _),nt.sub fun l hl=>by rw[← hb];exact hl⟩,hb⟩
def kf.done{r:Int}(h:oB k w u j x [y])(h1:kf a b x y)(m8:(a.length:Int)=b.size)(SY:dX b a=true)(hk:k≤180)(pO:j<100)(fH:∀i:Nat,i<y.n→cy y.ws y.n (i:Int)=true)(hR:YW b [y] x false r ed jB t) :
  r=0∧jB=false∧oB (k+1) w (u+20) (j+1) t []∧ed=[]∧vw t.1.A (oF b.d)=some a:=by
 obtain⟨m1,m2,m3,m4,m5,m6,m7⟩:=h1.mem h
 obtain⟨r1,r2,r3⟩:=h.fin hk pO hR
 have yS:=m5.all m6 m7 fH
 have aeo:oh y.ws=y.n:=yS
 rcases r3 with⟨hf,_⟩|⟨z,hz,hzx,⟨de,_⟩|⟨_,rfl,c,hc,hr,hv⟩⟩
 ·rw[kf.find h1.xb]at hf;cases hf
 ·rw[List.mem_singleton.1 hz]at de;omega
 obtain⟨c0,sO,nt⟩:=h1.Dm
 rw[hc]at sO
 injection sO with sO
 subst sO
 have hca:c=a:=nt.full m8 m1 fun i h0 h2=>by
  obtain⟨i',rfl⟩:∃i':Nat,i=i':=⟨i.toNat,ag⟩
  exact fH i' ag
 subst hca
 have pE:nJ [y] b.d=[]:=by unfold nJ;simp[h1.xb]
 rw[pE]at r2 ⊢
 refine⟨by rw[hr,SY];rfl,r1,r2,rfl,?_⟩
 rw[hv _ (nc _),SY]
 unfold nM
 rw[if_pos ⟨rfl,rfl⟩]
 exact hc
def Rb:∀ {l:List (Dg × Bl)} {d:Dg},(l.map (·.1)).Nodup→(∀z∈l,z.1=d)→l.length≤1
 | [],_,_,_=>Nat.zero_le _
 | [_],_,_,_=>Nat.le_refl _
 | z::z'::l,d,hn,h=>by
  rw[List.map_cons,List.nodup_cons]at hn
  exact absurd (List.mem_map.2 ⟨z',by simp,(h z' (by simp)).trans (h z (by simp)).symm⟩) hn.1
def oB.acI(h:oB k w u j x [y])(h1:kf a b x y):oB k 65 u j x [y]:=by
 obtain⟨m1,m2,m3,m4,m5,m6,m7⟩:=h1.mem h
 have h0:=h.cs
 refine⟨⟨h0.dq,h0.brk,h0.bt,h0.J8,h0.keys,?_,h0.ok,h0.nd,h0.has,h0.Dm,?_,h0.kM,h0.ns⟩,h.cj⟩
 ·have:=Rb h0.keys (d:=y.x.d) fun z hz=>by
   obtain⟨e1,z',Xf,e2⟩:=h0.bt z hz
   rw[List.mem_singleton.1 Xf]at e2
   rw[e1,← e2]
  omega
 ·have h2:(jw y.c).length≤y.n:=by
   have:=List.length_filter_le (fun i:Nat=>cy y.c.ws y.c.n (i:Int)) (List.range y.c.n)
   rw[List.length_range]at this
   exact this
  unfold wT
  simp only[List.map_cons,List.map_nil,List.sum_cons,List.sum_nil]
  omega
def D8(l:List Dg)(i:Nat)(hn:1<l.length):cT l.length l i=((dt l.length i).bind fun s=>l[s]?).toList++cT (bF l).length (bF l) (i/2):=by
 rw[D7 l.length l i (Nat.le_refl _) hn,p9 l.length (bF l).length (bF l) (i/2) (by rw[cU];omega) (Nat.le_refl _)]
attribute [local irreducible] J K aE Ends ae aB aP bP bq aS aZ bu bX Sha.chunks Sha.chunk Sha.rounds Sha.sched dK cm cQ e8
def L3(A:HP)(v:Value)(l0:List Dg)(hv:Vw A v l0.length (l0.flatMap dC))(OT:l0.length≤1000000)(i:Int) :
    aE Tryz.prog 41 [v,.int .i64 i] [A] (fun r H=>(¬(0≤i∧i<l0.length∧l0.length≤1024)∧r = .tuple #[.slice none 0 0,.int .i64 1]∧H=[A]) ∨
      ∃rv,(0≤i∧i<l0.length∧l0.length≤1024)∧r = .tuple #[rv,.int .i64 0]∧H=[aB 35 32 rv (cT l0.length l0 i.toNat).length ((cT l0.length l0 i.toNat).flatMap dC),A]):=by
  obtain⟨a,c,rfl⟩:=hv.shape
  refine aE.ao Tryz.func41 Tryz.ntmps41 fun G F R hE=>?_
  by_cases kC:0≤i∧i<l0.length∧l0.length≤1024
  case neg =>
    repeat'(first|(with_reducible intro pM)|refine gy ?_|refine ie zr zr zr zr ?_ ?_|refine aq zr zr ?_ ?_|fail)
    all_goals(first|(exfalso;omega)|skip)
    all_goals(
      refine go ?_
      ((refine ad hE Tryz.func41 zr zr (.inl ⟨kC,rfl,rfl⟩))))
  obtain⟨k0,rfl⟩:∃k:Nat,i=k:=⟨i.toNat,ag⟩
  rw[Int.toNat_natCast]at hE
  refine go ?_
  refine au 10 ((.bool false)) rfl ((congrArg Value.bool (decide_eq_false ag))) (go ?_)
  refine au 16 ((.bool false)) rfl ((congrArg Value.bool (decide_eq_false ag))) (go ?_)
  refine aX 20 ((.bool false)) rfl ((congrArg Value.bool (decide_eq_false ag))) (go ?_)
  refine ai (bN 35 32 none _) ?_
  refine bB (fun y:List Dg × HP × Option Addr × Nat × Nat × List Dg × Option Addr × Nat=>y.1.length≤l0.length∧y.2.2.2.2.1<y.1.length∧Vw y.2.1 (.slice y.2.2.1 y.1.length y.2.2.2.1) y.1.length (y.1.flatMap dC)∧(∀h,y.2.1 h→∃h',sub h' h∧A h')∧cT l0.length l0 k0=y.2.2.2.2.2.1++cT y.1.length y.1 y.2.2.2.2.1∧y.2.2.2.2.2.1.length+y.1.length≤l0.length+1) (fun y=>y.1.length)
    (fun y=>[(1,.int .i64 (y.2.2.2.2.1:Int)),(6,.slice y.2.2.2.2.2.2.1 y.2.2.2.2.2.1.length y.2.2.2.2.2.2.2),(7,.slice y.2.2.1 y.1.length y.2.2.2.1)])
    (fun y=>aB 35 32 (.slice y.2.2.2.2.2.2.1 y.2.2.2.2.2.1.length y.2.2.2.2.2.2.2) y.2.2.2.2.2.1.length (y.2.2.2.2.2.1.flatMap dC)::y.2.1::F) (l0,A,a,c,k0,[],none,0) ⟨Nat.le_refl _,by simp only;omega,hv,fun h hA=>⟨h,sub.refl h,hA⟩,rfl,by simp⟩ rfl cg ah ?_
  rintro⟨row,X,xa,xc,k,out,oa,oc⟩⟨EF,hk,hX,Ye,Hn,QA⟩ ih
  simp only at EF hk hX Ye Hn QA
  dsimp only
  refine go ?_
  refine aq zr zr ?_ ?_
  case' refine_2 =>
    intro abu
    rw[GU row.length row k ag,List.append_nil]at Hn
    rw[Hn]at hE
    clear ih
    refine go ?_
    refine ai (al.cons _ (al.head (B:=[A]) fun h hs=>by obtain⟨h',s1,MF⟩:=Ye h hs;exact⟨h',s1,gm MF⟩)) ?_
    refine ad hE Tryz.func41 zr zr (.inr ⟨_,kC,rfl,rfl⟩)
  intro MG
  have Aj:1<row.length:=by omega
  have rZ:=D8 row k Aj
  have m8:=cU row
  have RX:=BA X _ _ hX ag
  obtain⟨bb,oo,cc,he⟩:=hX.some (by intro h;have:=congrArg List.length h;rw[cI dk]at this;simp at this;omega)
  simp only[Value.slice.injEq,true_and]at he
  obtain⟨rfl,rfl⟩:=he
  have S7:∀s,dt row.length k=some s→cT row.length row k=[row.getD s Dg.zero]++cT (bF row).length (bF row) (k/2):=fun s hs=>by
    obtain⟨h1,_⟩:=wW hk hs
    rw[rZ,hs,List.getD_eq_getElem?_getD]
    simp[List.getElem?_eq_getElem h1]
  have adz:dt row.length k=none→cT row.length row k=cT (bF row).length (bF row) (k/2):=fun hs=>by rw[rZ,hs];rfl
  have RW:∀x:Dg,out.flatMap dC++dC x=(out++[x]).flatMap dC∧out.length+1=(out++[x]).length:=fun x=>⟨by simp,by simp⟩
  have pL:∀(s:Nat) (hs:s<row.length) (q:Nat) (v:Value),(dC (row.getD s Dg.zero))[q]?=some v→(row.flatMap dC)[s*32+q]?=some v:=fun s hs q v hq=>by
    have hx:row[s]?=some (row.getD s Dg.zero):=by rw[List.getD_eq_getElem?_getD,List.getElem?_eq_getElem hs];rfl
    rw[cR dk hx q (by rcases Nat.lt_or_ge q 32 with h|h;exact h;rw[List.getElem?_eq_none (by rw[dk];exact h)]at hq;cases hq)]
    exact hq
  clear rZ
  refine fL rfl ?_
  refine sl 2 (fun y:List Dg × Option Addr × Nat=>cT l0.length l0 k0=y.1++cT (bF row).length (bF row) (k/2)∧y.1.length≤out.length+1) (fun y=>[(1,.int .i64 (k:Int)),(6,.slice y.2.1 y.1.length y.2.2),(7,.slice (some ⟨bb,oo,none⟩) row.length xc)]) (fun y=>aB 35 32 (.slice y.2.1 y.1.length y.2.2) y.1.length (y.1.flatMap dC)::X::F) rfl ?_ ?_
  rotate_left
  · intro tail
    refine go ?_
    refine mI zr zr zr ag ag ?_
    by_cases sM:k%2=1
    · have hs:dt row.length k=some (k-1):=by unfold dt;rw[if_pos sM]
      have ve:k-1<row.length:=by omega
      have hp:=S7 _ hs
      have ha:=RW (row.getD (k-1) Dg.zero)
      refine au 26 ((.int .i64 1)) rfl ((congrArg (Value.int .i64) ag)) (go ?_)
      refine cL (k-1) 32 zr zr zr zr zr zr zr ag ve ?_
      refine aK ?_
      refine dm (U:=aQ) (es:=dC (row.getD (k-1) Dg.zero)) 1 ((k-1)*32) zr zr zr hX rfl (pL _ ve) zr zr zr ?_
      refine aj (cs:=dC (row.getD (k-1) Dg.zero)) zr zr zr zr zr zr zr zr zr bD ?_
      intro r1
      refine go ?_
      refine aR (mm:=1) (news:=dC (row.getD (k-1) Dg.zero)) 1 0 zr zr zr zr zr zr zr zr zr zr zr zr (Vw.ae rfl) rfl (by rw[dG];exact cX _) ag (by show(_+_)*32≤_;omega) (fun _=>rfl) bD ?_
      intro v1
      rw[ha.1,ha.2]
      refine aO 1 rfl ?_
      rintro ja jc rfl
      refine ld ?_
      refine lh tail (out++[row.getD (k-1) Dg.zero],ja,jc) rfl ⟨by rw[Hn,hp,List.append_assoc],by simp⟩ cg ah
    · refine au 26 ((.int .i64 0)) rfl ((congrArg (Value.int .i64) ag)) (go ?_)
      by_cases ve:k+1<row.length
      · have hs:dt row.length k=some (k+1):=by unfold dt;rw[if_neg sM,if_pos ve]
        have hp:=S7 _ hs
        have ha:=RW (row.getD (k+1) Dg.zero)
        refine aX 40 ((.bool true)) rfl ((congrArg Value.bool (decide_eq_true ag))) (go ?_)
        refine cL (k+1) 32 zr zr zr zr zr zr zr ag ve ?_
        refine aK ?_
        refine dm (U:=aQ) (es:=dC (row.getD (k+1) Dg.zero)) 1 ((k+1)*32) zr zr zr hX rfl (pL _ ve) zr zr zr ?_
        refine aj (cs:=dC (row.getD (k+1) Dg.zero)) zr zr zr zr zr zr zr zr zr bD ?_
        intro r1
        refine go ?_
        refine aR (mm:=1) (news:=dC (row.getD (k+1) Dg.zero)) 1 0 zr zr zr zr zr zr zr zr zr zr zr zr (Vw.ae rfl) rfl (by rw[dG];exact cX _) ag (by show(_+_)*32≤_;omega) (fun _=>rfl) bD ?_
        intro v1
        rw[ha.1,ha.2]
        refine aO 1 rfl ?_
        rintro ja jc rfl
        refine ld ?_
        refine lh tail (out++[row.getD (k+1) Dg.zero],ja,jc) rfl ⟨by rw[Hn,hp,List.append_assoc],by simp⟩ cg ah
      · have hs:dt row.length k=none:=by unfold dt;rw[if_neg sM,if_neg ve]
        have hp:=adz hs
        refine aX 40 ((.bool false)) rfl ((congrArg Value.bool (decide_eq_false ag))) ?_
        refine ix zr zr ?_
        refine lh tail (out,oa,oc) rfl ⟨by rw[Hn,hp],by simp⟩ cg ah
  rintro⟨Q',oa2,oc2⟩⟨abe,ads⟩
  simp only at abe ads
  dsimp only
  refine go ?_
  refine aH RX ?_
  rintro r _ rfl
  refine aO 0 rfl ?_
  rintro ra rc rfl
  refine aI (H':=aB 35 32 (.slice ra (bF row).length rc) (bF row).length ((bF row).flatMap dC)::X::aB 35 32 (.slice oa2 Q'.length oc2) Q'.length (Q'.flatMap dC)::F) ah ?_
  refine uw fun dE=>?_
  refine go ?_
  refine lj zr zr zr ag ag (by simp only[gq];omega) ?_
  refine au 52 ((.int .i64 ((k/2:Nat):Int))) rfl ((congrArg (Value.int .i64) ag)) (go ?_)
  refine ai (al.perm (List.Perm.swap ..)) ?_
  refine aM ih (bF row,Sep [aB 35 32 (.slice ra (bF row).length rc) (bF row).length ((bF row).flatMap dC),X],ra,rc,k/2,Q',oa2,oc2) rfl ⟨by simp only;omega,by simp only;omega,dE.mono (bg (i:=0) rfl),(fun h hs=>by
      obtain⟨h1,s1,MF⟩:=bg (H:=[aB 35 32 (.slice ra (bF row).length rc) (bF row).length ((bF row).flatMap dC),X]) (i:=1) rfl h hs
      obtain⟨h2,s2,rE⟩:=Ye h1 MF
      exact⟨h2,s2.trans s1,rE⟩),abe,by simp only;omega⟩ (by simp only;omega) cg ah
end Go.Proofs.YtedjnjkijiddlaaGreatDoor
namespace Go.Proofs.YtedjnjkijiddlaaGreatDoor
open Go Go.SL
def pz(b:List UInt8)(k:Nat)(t:UInt8):List UInt8:=b.set k (b.getD k 0 ^^^ t)
def uK(b:List UInt8)(k:Nat)(t:UInt8):(pz b k t).length=b.length:=by simp[pz]
def xC(b:List UInt8)(k:Nat):pz b k 0=b:=by
 unfold pz
 rcases Nat.lt_or_ge k b.length with h|h
 ·have:b.getD k 0 ^^^ 0=b[k]:=by
   rw[List.getD_eq_getElem?_getD,List.getElem?_eq_getElem h]
   simp
  rw[this]
  exact List.set_getElem_self h
 ·rw[List.set_eq_of_length_le h]
def pB(d:Dg)(k:Nat)(t:UInt8):Dg:=⟨pz d.bs k t,by rw[uK];exact d.len⟩
def Gp(d:Dg)(k:Nat):pB d k 0=d:=by
 cases d
 simp[pB,xC]
def pA(p:List Dg)(k:Nat)(t:UInt8):List Dg:=p.set (k%p.length) (pB (p.getD (k%p.length) Dg.zero) (k%32) t)
def J7(p:List Dg)(k:Nat)(t:UInt8):(pA p k t).length=p.length:=by simp[pA]
def Gn(p:List Dg)(k:Nat):pA p k 0=p:=by
 unfold pA
 rw[Gp]
 rcases Nat.lt_or_ge (k%p.length) p.length with h|h
 ·rw[List.getD_eq_getElem?_getD,List.getElem?_eq_getElem h]
  exact List.set_getElem_self h
 ·rw[List.set_eq_of_length_le h]
def mY(n:Int):Nat:=(BitVec.ofInt IntKind.i64.bits n &&& BitVec.ofInt IntKind.i64.bits 63).toNat
def Em(n:Int):mY n<64:=by
 unfold mY
 rw[BitVec.toNat_and]
 have e1:(BitVec.ofInt IntKind.i64.bits (63:Int)).toNat=63:=by decide
 rw[e1]
 have := @Nat.and_le_right (BitVec.ofInt IntKind.i64.bits n).toNat 63
 omega
def G9(n:Int):IntKind.i64.wrap ((BitVec.ofInt IntKind.i64.bits n &&& BitVec.ofInt IntKind.i64.bits 63).toNat:Int)=(mY n:Int):=by
 have:=Em n
 unfold mY at this ⊢
 exact cS (by simp only[gq];omega)
def o7(a:List UInt8)(m i n:Int)(t:UInt8):Bl × List UInt8 × List Dg:=match eu a m,cM a m with
 | some x,some l=>match cC x i with
  | none=>(x,[],[])
  | some (at_,sz) =>
   let b:=(a.drop at_.toNat).take sz.toNat
   let p:=cT l.length l i.toNat
   if mY n<b.length then(x,pz b (mY n) t,p)else(x,b,if p=[]then p else pA p (mY n) t)
 | _,_=>(Bl.zero,[],[])
def Dp(p q:UInt8):IntKind.u8.wrap ((BitVec.ofInt IntKind.u8.bits (p.toNat:Int) ^^^ BitVec.ofInt IntKind.u8.bits (q.toNat:Int)).toNat:Int)=((p ^^^ q).toNat:Int):=by
 have e:∀z:UInt8,(BitVec.ofInt IntKind.u8.bits (z.toNat:Int)).toNat=z.toNat:=fun z=>by
  rw[BitVec.ofInt_natCast,BitVec.toNat_ofNat]
  have:=z.toNat_lt
  exact Nat.mod_eq_of_lt (by show z.toNat<2 ^ 8;omega)
 rw[BitVec.toNat_xor,e,e,← UInt8.toNat_xor]
 have:=(p ^^^ q).toNat_lt
 exact cS (by simp only[gq];omega)
def H5(b:List UInt8)(k:Nat)(t:UInt8):(bV b).set k (u8 t)=bV (b.set k t):=by simp[bV,List.map_set]
def Lv(p:List Dg)(q j:Nat)(t:UInt8)(hq:q<p.length)(hj:j<32)(x:Dg)(hx:p[q]?=some x):(p.flatMap dC).set (q*32+j) (u8 (x.bs.getD j 0 ^^^ t))=(p.set q (pB x j t)).flatMap dC:=by
 have h1:dC (pB x j t)=(dC x).set j (u8 (x.bs.getD j 0 ^^^ t)):=by
  rw[dG,dG,H5]
  rfl
 refine List.ext_getElem? fun z=>?_
 have Ou:∀l:List Dg,(l.flatMap dC).length=l.length*32:=fun l=>cI dk l
 rcases Nat.lt_or_ge z (p.length*32)with hz|hz
 case inr =>
  rw[List.getElem?_eq_none (by rw[List.length_set,Ou];omega),List.getElem?_eq_none (by rw[Ou,List.length_set];omega)]
 have hzq:z/32<p.length:=by omega
 obtain⟨y,hy⟩:∃y,p[z/32]?=some y:=⟨p[z/32],by simp[hzq]⟩
 have SW:z=z/32*32+z%32:=by omega
 have hpz:(p.flatMap dC)[z]?=(dC y)[z%32]? := by
  conv=>lhs;rw[SW]
  exact cR dk hy _ ag
 by_cases S8:z/32=q
 ·have Df:y=x:=by rw[S8,hx]at hy;injection hy with hy;exact hy.symm
  have hs:(p.set q (pB x j t))[z/32]?=some (pB x j t):=by rw[S8,List.getElem?_set_self hq]
  have hrz:((p.set q (pB x j t)).flatMap dC)[z]?=(dC (pB x j t))[z%32]? := by
   conv=>lhs;rw[SW]
   exact cR dk hs _ ag
  rw[hrz,h1]
  by_cases Bf:z%32=j
  ·have hzz:z=q*32+j:=by omega
   rw[Bf,List.getElem?_set_self (by rw[dk];exact hj),hzz,List.getElem?_set_self (by rw[Ou];omega)]
  ·rw[List.getElem?_set_ne ag,List.getElem?_set_ne ag,hpz,Df]
 ·have hs:(p.set q (pB x j t))[z/32]?=some y:=by rw[List.getElem?_set_ne (fun e=>S8 e.symm),hy]
  have hrz:((p.set q (pB x j t)).flatMap dC)[z]?=(dC y)[z%32]? := by
   conv=>lhs;rw[SW]
   exact cR dk hs _ ag
  rw[hrz,List.getElem?_set_ne ag,hpz]
end Go.Proofs.YtedjnjkijiddlaaGreatDoor
