import Derived.Test.YtedjnjkijiddlaaGreatDoorQPT2
import Derived.Test.YtedjnjkijiddlaaGreatDoorQPT3
import Derived.Test.YtedjnjkijiddlaaGreatDoorQPT4
import Derived.Test.YtedjnjkijiddlaaGreatDoorQPT5
import Derived.Test.YtedjnjkijiddlaaGreatDoorQPT8
set_option linter.unusedSectionVars false
set_option linter.unusedSimpArgs false
set_option linter.unusedVariables false
set_option maxHeartbeats 1000000
set_option maxRecDepth 20000
set_option linter.defProp false
namespace Go.Proofs.YtedjnjkijiddlaaGreatDoor
open Go Go.SL
attribute [local irreducible] J K aE Ends ae aB aP bP bq aS aZ bu bX Sha.chunks Sha.chunk Sha.rounds Sha.sched dK cm GI cQ aC
def YL(X:HP)(bs bd:Nat)(q:Int)(mb:Nat)(s:fe)(x:Bl)(i:Int)(bv:Value)(b:List UInt8)(hv:Vw X bv b.length (bV b))(iC:b.length≤1000000000)(hi : -9223372036854775808≤i∧i≤9223372036854775807)(cK:s.A.aw.length≤900000000)(fb:s.A.writes.length≤900000000) :
  aE Tryz.prog 46 [ptr bs,eL x,.int .i64 i,bv] (cH bs bd q mb s++[X])
  (fun r H=>∃(e:Nat) (t:fe),r = .int .i64 (e:Int)∧H=cH bs bd q mb t++[X]∧mU x i b s e t):=by
 obtain⟨A,bt,brk⟩:=s
 simp only at cK fb
 obtain⟨a,c,rfl⟩:=hv.shape
 have yJ:=tM bs bd q mb brk bt x
 unfold eL at yJ ⊢
 refine aE.ao Tryz.func46 Tryz.ntmps46 fun G F R hE=>?_
 refine ai (H':=ae bs (cl (ei bd q mb brk) 123)::aP dV mb (dD bt)::aC bd A::X::F) (al.refl _) ?_
 refine aD rfl ?_
 refine bG zr zr bD ?_
 intro b4
 refine bG zr zr bD ?_
 intro b5
 refine bG zr zr bD ?_
 intro b7
 refine go ?_
 refine aG (U:=aQ) (l:=bH x) 1 zr zr zr zr zr zr ?_
 refine aJ yJ ?_
 refine go ?_
 refine aq zr zr ?_ ?_
 ·intro bY
  have fT:jh ⟨A,bt,brk⟩ x≠0:=by show oU brk bt x≠0;omega
  refine go ?_
  refine ai (H':=cH bs bd q mb ⟨A,bt,brk⟩++(X::F)) ah ?_
  ((refine ad hE Tryz.func46 zr zr ⟨oU brk bt x,⟨A,bt,brk⟩,rfl,rfl,by unfold mU;rw[if_pos fT];exact⟨rfl,rfl⟩⟩))
 intro heq
 have o6:¬jh ⟨A,bt,brk⟩ x≠0:=by show ¬oU brk bt x≠0;omega
 refine go ?_
 refine aG (U:=aQ) (l:=bH x) 3 zr zr zr zr zr zr ?_
 have pF:=zB x i
 unfold eL at pF
 have hP1:∀(e:Nat) (t:fe),cC x i=none→e=1→t=⟨A,bt,brk⟩→mU x i b ⟨A,bt,brk⟩ e t:=fun e t h he ht=>by
  unfold mU;rw[if_neg o6,h];exact⟨he,ht⟩
 have hP2:∀(at_ n:Int),cC x i=some (at_,n)→(b.length:Int)≠n→mU x i b ⟨A,bt,brk⟩ 1 ⟨A,bt,brk⟩:=fun at_ n h hl=>by
  unfold mU;rw[if_neg o6,h];dsimp only;rw[if_pos hl];exact⟨rfl,rfl⟩
 have hP3:∀(at_ n:Int) (e:Nat) (t:fe),cC x i=some (at_,n)→¬(b.length:Int)≠n→CK [fM (fS x) at_.toNat b] ⟨A,bt,brk⟩ e t→mU x i b ⟨A,bt,brk⟩ e t:=fun at_ n e t h hl hc=>by
  unfold mU;rw[if_neg o6,h];dsimp only;rw[if_neg hl];exact hc
 have QE:∀at_ n,cC x i=some (at_,n)→0≤at_∧at_≤9223372036854775807:=fun at_ n h=>by
  unfold cC at h
  split at h
  ·cases h
  ·rename_i hn
   injection h with h
   injection h with h1 h2
   obtain⟨hr,zY,Tf⟩:=wU (x:=x) (i:=i) ag ag
   simp only[bz,decide_eq_true_eq]at hr
   omega
 refine go ?_
 refine aJ pF ?_
 cases e7:cC x i with
 | none =>
  simp only
  refine go ?_
  refine az zr zr zr bD ?_
  intro Fv
  refine go ?_
  refine ai (H':=cH bs bd q mb ⟨A,bt,brk⟩++(X::F)) ah ?_
  refine ad hE Tryz.func46 zr zr ⟨1,⟨A,bt,brk⟩,rfl,rfl,hP1 _ _ e7 zr zr⟩
 | some w =>
  obtain⟨at_,n⟩:=w
  simp only
  refine go ?_
  refine az zr zr zr bD ?_
  intro Fv
  refine go ?_
  refine aq zr zr ?_ ?_
  ·intro wI
   have hl:(b.length:Int)≠n:=wI
   refine go ?_
   refine ai (H':=cH bs bd q mb ⟨A,bt,brk⟩++(X::F)) ah ?_
   refine ad hE Tryz.func46 zr zr ⟨1,⟨A,bt,brk⟩,rfl,rfl,hP2 at_ n e7 hl⟩
  ·intro wI
   have hl:¬(b.length:Int)≠n:=wI
   obtain⟨Y,hY⟩:∃Y,Y=([ae b4 (cl [ptr bs] 29),ae b5 (cl (bH x) 37),ae Fv (cl [.int .i64 at_] 3),ae b7 (cl [.slice a b.length c] 22),X]:List HP):=⟨_,rfl⟩
   have qm:∀F,al (ae bs (cl (ei bd q mb brk) 123)::aC bd A::([ae b4 (cl [ptr bs] 29),ae b5 (cl (bH x) 37),ae Fv (cl [.int .i64 at_] 3),ae b7 (cl [.slice a b.length c] 22),X]++F)) (nC bs bd q mb brk (Sep Y) A::F):=fun F=>by rw[hY];exact uU bs bd q mb brk _ A F
   have rH:∀(bk:Bool) B F,al (nC bs bd q mb bk (Sep Y) B::F) (ae bs (cl (ei bd q mb bk) 123)::aC bd B::([ae b4 (cl [ptr bs] 29),ae b5 (cl (bH x) 37),ae Fv (cl [.int .i64 at_] 3),ae b7 (cl [.slice a b.length c] 22),X]++F)):=fun bk B F=>by rw[hY];exact oK bs bd q mb bk _ B F
   have vd:∀(i:Nat) (fv:Value) (sp:BD),[.func (.func 101) #[] #[ptr b4,ptr b5,ptr Fv,ptr b7] ][i]?=some fv→[fM (fS x) at_.toNat b][i]?=some sp→∃g fi cap,fv = .func (.func g) fi cap∧∀y,GQ A i y→aE Tryz.prog g (fi.toList++cap.toList) [nC bs bd q mb brk (Sep Y) y] (fun r H=>∃(e:Nat) (x':Ab),r = .int .i64 (e:Int)∧H=[nC bs bd q mb brk (Sep Y) x']∧sp y e x'∧(e=0→GQ A (i+1) x')):=by
    intro i fv sp hi hs
    match i,hi,hs with
    | 0,hi,hs =>
     cases hi;cases hs
     refine⟨_,_,_,rfl,fun y hy=>?_⟩
     subst hY
     have h0:=Kv bs bd b4 b5 Fv b7 q mb brk x at_ X (.slice a b.length c) b hv y (by have:=hy.2;omega) iC (QE at_ n e7)
     refine(pe (p:=fM (fS x) at_.toNat b y) h0).post ?_
     rintro r H⟨e,B,rfl,rfl,h1⟩
     exact⟨e,B,rfl,rfl,h1,fun _=>hy.next (tU h1)⟩
    | k+1,hi,hs=>simp at hi
   refine go ?_
   refine aj (cs:=[.func (.func 101) #[] #[ptr b4,ptr b5,ptr Fv,ptr b7] ]) zr zr zr zr zr zr zr zr zr bD ?_
   intro row
   have EY:=lg bs bd q mb brk (Sep Y) (ae row (cl [.func (.func 101) #[] #[ptr b4,ptr b5,ptr Fv,ptr b7] ] 96)) (.slice (some ⟨row,0,none⟩) 1 1) [.func (.func 101) #[] #[ptr b4,ptr b5,ptr Fv,ptr b7] ] (Vw.ae rfl) (by show 1≤_;omega) [fM (fS x) at_.toNat b] rfl (GQ A) vd A (GQ.zero A)
   refine aI (H':=ae row (cl [.func (.func 101) #[] #[ptr b4,ptr b5,ptr Fv,ptr b7] ] 96)::nC bs bd q mb brk (Sep Y) A::aP dV mb (dD bt)::F) (al.trans (H2:=ae bs (cl (ei bd q mb brk) 123)::aC bd A::([ae b4 (cl [ptr bs] 29),ae b5 (cl (bH x) 37),ae Fv (cl [.int .i64 at_] 3),ae b7 (cl [.slice a b.length c] 22),X]++(ae row (cl [.func (.func 101) #[] #[ptr b4,ptr b5,ptr Fv,ptr b7] ] 96)::aP dV mb (dD bt)::F))) ah (al.trans (qm _) ah)) ?_
   refine aH EY ?_
   rintro _ _⟨e,B,rfl,rfl,fV,-⟩
   refine go ?_
   refine ai (H':=cH bs bd q mb ⟨B,bt,brk || decide (e≠0)⟩++(X::F)) (al.trans (al.pick [1] rfl) (al.trans (rH _ B _) ah)) ?_
   refine ad hE Tryz.func46 zr zr ⟨e,⟨B,bt,or brk (decide (e≠0))⟩,rfl,rfl,hP3 at_ n e _ e7 hl ⟨B,fV,rfl⟩⟩
def nN(A:Ab)(nm:ByteArray):Nat:=if(jJ kB nm).isSome then(A.size nm).1 else 0
def BT{α:Type}{l m:List α}(h:l.Perm m)(f:α→Nat):(l.map f).sum=(m.map f).sum:=by
 induction h with
 | nil=>rfl
 | cons x _ ih=>simp[ih]
 | swap x y l=>simp;omega
 | trans _ _ ih1 Hh=>exact ih1.trans Hh
def fp{A:Ab}(h:(A.names.map (·.1)).Nodup){x:ByteArray × Nat}(hx:x∈A.names):A.look x.1=some x.2:=by
 have key:∀(l:List (ByteArray × Nat)),(l.map (·.1)).Nodup→x∈l→(l.find? (fun y=>decide (y.1=x.1))).map (·.2)=some x.2:=by
  intro l
  induction l with
  | nil=>intro _ h;cases h
  | cons y l ih =>
   intro hn hm
   rw[List.map_cons,List.nodup_cons]at hn
   rw[List.find?_cons]
   rcases List.mem_cons.1 hm with rfl|hm
   ·simp
   ·have:y.1≠x.1:=fun e=>hn.1 (List.mem_map.2 ⟨x,hm,e.symm⟩)
    simp only[this,decide_false]
    exact ih hn.2 hm
 exact key A.names h hx
def vQ(A:Ab):(fY A).Perm (A.names.map (·.1)):=by
 unfold fY eg
 have h:=(mW (A.names.map (·.1))).map strOf
 rw[List.map_map]at h
 have h2:(A.names.map (·.1)).map (strOf ∘ fun b=>b.data.toList)=A.names.map (·.1):=by
  rw[List.map_map]
  refine List.map_congr_left fun x _=>?_
  exact xS x.1
 rwa[h2]at h
def xH{A:Ab}(h:(A.names.map (·.1)).Nodup):rM A=((fY A).map (nN A)).sum:=by
 rw[BT (vQ A),List.map_map]
 unfold rM
 congr 1
 refine List.map_congr_left fun x hx=>?_
 have hl:=fp h hx
 simp only[Function.comp,nN,Ab.size,hl]
def Ch{A:Ab}(h:J0 A)(nm:ByteArray):nN A nm≤1048576:=by
 unfold nN Ab.size
 split
 ·cases A.look nm with
  | none=>simp
  | some f=>exact h.now f
 ·omega
def uT{α:Type}(l:List α)(f:α→Nat)(m:Nat)(h:∀x∈l,f x≤m):(l.map f).sum≤l.length*m:=by
 induction l with
 | nil=>simp
 | cons x l ih =>
  have h1:=h x (List.mem_cons_self ..)
  have h2:=ih (fun y hy=>h y (List.mem_cons_of_mem _ hy))
  simp only[List.map_cons,List.sum_cons,List.length_cons,Nat.add_mul,Nat.one_mul]
  omega
def np(bt:List (Dg × Bl))(dn:List Dg):Int:=((bt.filter fun x=>decide (x.1∈dn)).map (·.2.size)).sum
def N3(bt:List (Dg × Bl)):np bt []=0:=by unfold np;rw[List.filter_eq_nil_iff.2 (by simp)];rfl
def Ek(bt:List (Dg × Bl))(dn:List Dg)(h:∀x∈bt,x.1∈dn):np bt dn=(bt.map (·.2.size)).sum:=by
 unfold np
 rw[List.filter_eq_self.2 (fun x hx=>decide_eq_true (h x hx))]
def KM(bt:List (Dg × Bl))(key:Dg)(dn:List Dg)(h:key ∉ bt.map (·.1)):np bt (key::dn)=np bt dn:=by
 unfold np
 congr 2
 refine List.filter_congr fun x hx=>?_
 have:x.1≠key:=fun e=>h (List.mem_map.2 ⟨x,hx,e⟩)
 simp[this]
def KN(bt:List (Dg × Bl))(key:Dg)(y:Bl)(dn:List Dg)(hn:(bt.map (·.1)).Nodup)(hm:(key,y)∈bt)(hd:key ∉ dn):np bt (key::dn)=np bt dn+y.size:=by
 induction bt with
 | nil=>cases hm
 | cons x l ih =>
  rw[List.map_cons,List.nodup_cons]at hn
  rcases List.mem_cons.1 hm with rfl|hm
  ·have h1:=KM l key dn hn.1
   unfold np at h1 ⊢
   rw[List.filter_cons,List.filter_cons]
   simp only[List.mem_cons,true_or,decide_true,if_true,hd,decide_false,Bool.false_eq_true,if_false,List.map_cons,List.sum_cons]
   simp only[List.mem_cons]at h1
   rw[h1]
   omega
  ·have bY:x.1≠key:=fun e=>hn.1 (List.mem_map.2 ⟨_,hm,e.symm⟩)
   have h1:=ih hn.2 hm
   unfold np at h1 ⊢
   rw[List.filter_cons,List.filter_cons]
   by_cases hx:x.1∈dn
   ·simp only[List.mem_cons,hx,or_true,decide_true,if_true,List.map_cons,List.sum_cons]at h1 ⊢
    omega
   ·simp only[List.mem_cons,hx,bY,or_self,decide_false,Bool.false_eq_true,if_false]at h1 ⊢
    exact h1
def IZ(bt:List (Dg × Bl))(dn:List Dg)(h:∀x∈bt,0≤x.2.size∧x.2.size≤1048576):0≤np bt dn∧np bt dn≤bt.length*1048576:=by
 unfold np
 induction bt with
 | nil=>simp
 | cons x l ih =>
  obtain⟨h1,h2⟩:=h x (List.mem_cons_self ..)
  obtain⟨h3,h4⟩:=ih (fun y hy=>h y (List.mem_cons_of_mem _ hy))
  rw[List.filter_cons]
  split
  ·simp only[List.map_cons,List.sum_cons,List.length_cons,Int.natCast_add];omega
  ·simp only[List.length_cons,Int.natCast_add];omega
def pI(bt:List (Dg × Bl)):Prop:=(∀x∈bt,0≤x.2.size∧x.2.size≤1048576)∧bt.length≤1000000
def Sq(bs bd:Nat)(q:Int)(mb:Nat)(s:fe)(hb:pI s.bt):aE Tryz.prog 85 [ptr bs] (cH bs bd q mb s)
  (fun r H=>r = .int .i64 (jP s)∧H=cH bs bd q mb s):=by
 obtain⟨A,bt,brk⟩:=s
 obtain⟨nX,rh⟩:=hb
 simp only at nX rh
 refine aE.ao Tryz.func85 Tryz.ntmps85 fun G F R hE=>?_
 refine ai (H':=ae bs (cl (ei bd q mb brk) 123)::aC bd A::aP dV mb (dD bt)::F) ah ?_
 refine uu (bd:=bd) (A:=A) 1 rfl ?_
 intro Hw
 have OP:=sJ Hw
 have Ad:jP ⟨A,bt,brk⟩=((fY A).map (nN A)).sum+(bt.map (·.2.size)).sum:=by
  unfold jP
  rw[xH (Hw.nodup _ (List.mem_cons_self ..))]
 obtain⟨l,hl⟩:∃l,l=fY A:=⟨_,rfl⟩
 rw[← hl]at Ad OP
 rw[Ad]at hE
 have hle:∀i,((l.take i).map (nN A)).sum≤209715200:=fun i=>by
  have h1:=uT (l.take i) (nN A) 1048576 (fun x _=>Ch Hw x)
  have h2:(l.take i).length≤200:=by rw[List.length_take];omega
  omega
 refine go ?_
 have lD:=ur bd A
 rw[← hl]at lD
 refine aH lD ?_
 rintro r _ rfl
 refine aO 0 rfl ?_
 rintro ra rc rfl
 refine iy 0 rfl ?_
 intro dE
 refine go ?_
 refine bB (fun i:Nat=>i≤l.length) (fun i=>l.length-i)
  (fun i=>[(0,ptr bs),(3,.int .i64 (((l.take i).map (nN A)).sum:Nat)),(16,.slice ra l.length rc),(17,.int .i64 (l.length:Int)),(18,.int .i64 (i:Int))])
  (fun i=>aB 9 1 (.slice ra l.length rc) l.length (l.map Value.string)::ae bs (cl (ei bd q mb brk) 123)::aC bd A::aP dV mb (dD bt)::F) 0 (Nat.zero_le _) rfl cg ah ?_
 rintro i hi ih
 have Jk:=hle i
 refine go ?_
 refine aq zr zr ?_ ?_
 ·intro de
  have gl:i<l.length:=by omega
  obtain⟨nm,hx⟩:∃x,l[i]?=some x:=⟨l[i],by simp⟩
  have lC:((l.take (i+1)).map (nN A)).sum=((l.take i).map (nN A)).sum+nN A nm:=by
   rw[List.take_add_one,hx];simp
  have dF:(l.map Value.string)[i]?=some (.string nm):=by rw[List.getElem?_map,hx];rfl
  have gw:=Ch Hw nm
  obtain⟨b,o,gM,gk⟩:=dE.some (by intro h;rw[h]at dF;simp at dF)
  simp only[Value.slice.injEq]at gk
  obtain⟨rfl,_,rfl⟩:=gk
  refine go ?_
  refine cL i 1 zr zr zr zr zr zr zr zr gl ?_
  refine aK ?_
  refine bj 0 (i*1) zr zr zr dE rfl (by rw[Nat.mul_one];exact dF) zr zr ?_
  refine go ?_
  refine aJ (E0 kB nm (by decide)) ?_
  cases hh:jJ kB nm with
  | none =>
   have hz:nN A nm=0:=by unfold nN;rw[hh];rfl
   have Xp:((l.take i).map (nN A)).sum=((l.take (i+1)).map (nN A)).sum:=by omega
   simp only[E1]
   unfold dV
   refine go ?_
   refine az zr zr zr bD ?_
   intro b9
   refine go ?_
   rw[Xp]
   refine aM ih (i+1) rfl ag ag cg ah
  | some d =>
   have hz:nN A nm=(A.size nm).1:=by unfold nN;rw[hh];rfl
   rw[hz]at lC gw
   simp only[E1]
   unfold dV
   refine go ?_
   refine az zr zr zr bD ?_
   intro b9
   refine go ?_
   refine aJ (um bd A nm) ?_
   refine go ?_
   refine aX 3 (.int .i64 (((l.take (i+1)).map (nN A)).sum:Nat)) rfl (congrArg (Value.int .i64) (by rw[lC];omega)) ?_
   refine aM ih (i+1) rfl ag ag cg ah
 ·intro fA
  have tl:i=l.length:=by omega
  subst tl
  rw[List.take_length]
  obtain⟨n0,RH⟩:∃n0,n0=(l.map (nN A)).sum:=⟨_,rfl⟩
  rw[List.take_length]at Jk
  rw[← RH]at Jk hE ⊢
  refine sk fun⟨w,hw⟩=>?_
  have kj:(bt.map (·.1)).Nodup:=by
   obtain⟨h1,hA⟩:=Cu hw (i:=3) rfl
   have:=G' hA
   unfold dD at this
   rwa[List.map_map]at this
  clear hw w
  refine go ?_
  refine xu (kv:=dV) (es:=dD bt) (U:=aQ) 3 zr zr zr zr zr (fun _=>rfl) bD ?_
  intro it
  refine go ?_
  have Bd:(dD bt).map (·.1)=bt.map (·.1):=by unfold dD;rw[List.map_map];rfl
  have iB:∀dn,0≤np bt dn∧np bt dn≤1048576000000:=fun dn=>by
   have:=IZ bt dn nX
   omega
  have h00:(n0:Int)=(n0:Int)+np bt []:=by rw[N3];omega
  refine aX 3 (.int .i64 ((n0:Int)+np bt [])) rfl (congrArg (Value.int .i64) h00) ?_
  refine bB (fun s:List Dg=>s.Nodup∧∀x∈s,x∈bt.map (·.1)) (fun s=>bt.length-s.length) (fun s=>[(0,ptr bs),(3,.int .i64 ((n0:Int)+np bt s)),(45,.pointer (some ⟨it,0,none⟩))])
   (fun s=>bP dV mb it (dD bt) s::ae bs (cl (ei bd q mb brk) 123)::aC bd A::F) [] ⟨List.nodup_nil,by simp⟩ rfl cg ah ?_
  clear ih
  rintro dn⟨yQ,eF⟩ ih
  have hsd:=iB dn
  refine go ?_
  refine C5 (kv:=dV) (es:=dD bt) 0 rfl Ro.inj zr zr (fun _=>rfl) gB bD ?_ ?_
  ·intro fH
   have hme:np bt dn=(bt.map (·.2.size)).sum:=Ek bt dn (fun x hx=>fH (x.1,eL x.2) (List.mem_map.2 ⟨x,hx,rfl⟩))
   rw[hme]
   refine go ?_
   refine ai (al.head (B:=[aP dV mb (dD bt)]) (fun h hs=>by obtain⟨h',s,hm⟩:=qW h hs;exact⟨h',s,gm hm⟩)) ?_
   refine ai (H':=cH bs bd q mb ⟨A,bt,brk⟩++F) ah ?_
   refine ad hE Tryz.func85 zr zr ⟨rfl,rfl⟩
  ·intro key v fz wF
   obtain⟨y,hy,hye⟩:∃y,(key,y)∈bt∧v=eL y:=by
    obtain⟨z,hz,he⟩:=List.mem_map.1 fz
    cases he
    exact⟨z.2,hz,rfl⟩
   subst hye
   have Tf:=KN bt key y dn kj hy wF
   have aew:=iB (key::dn)
   have hk:key∈bt.map (·.1):=List.mem_map.2 ⟨_,hy,rfl⟩
   have de:dn.length<bt.length:=by
    have h1:(key::dn).length≤(bt.map (·.1)).length:=(List.nodup_cons.2 ⟨wF,yQ⟩).length_le_of_subset (fun x hx=>by rcases List.mem_cons.1 hx with rfl|h;exact hk;exact eF x h)
    simp only[List.length_cons,List.length_map]at h1
    omega
   refine go ?_
   refine xA (kv:=dV) (es:=dD bt) 0 rfl Ro.inj zr zr fz ?_
   unfold eL
   refine go ?_
   refine az zr zr zr bD ?_
   intro TK
   refine go ?_
   refine aX 3 (.int .i64 ((n0:Int)+np bt (key::dn))) rfl (congrArg (Value.int .i64) (by rw[Tf];omega)) ?_
   refine aM ih (key::dn) rfl (⟨List.nodup_cons.2 ⟨wF,yQ⟩,fun x hx=>by rcases List.mem_cons.1 hx with rfl|h;exact hk;exact eF x h⟩) (by show _-(key::dn).length<_;simp only[List.length_cons];omega) cg ah
end Go.Proofs.YtedjnjkijiddlaaGreatDoor
namespace Go.Proofs.YtedjnjkijiddlaaGreatDoor
open Go Go.SL
structure HA(A:Ab):Prop where
 er:A.er=[]
 on:A.off=false
 keys:(A.names.map (·.1)).Nodup
 own:(A.names.map (·.2)).Nodup
 ids:(A.fs.map (·.1)).Nodup
 known:∀x∈A.names,x.2∈A.fs.map (·.1)
def vw(A:Ab)(nm:ByteArray):Option (List UInt8):=(A.look nm).map A.now
def HA.new(room:Nat):HA (Ab.new room):=⟨rfl,rfl,List.nodup_nil,List.nodup_nil,List.nodup_nil,fun _ h=>by cases h⟩
def HA.meet{A:Ab}(h:HA A):A.meet true=(0,A):=by unfold Ab.meet;rw[if_neg (by simp),if_neg (by rw[h.on];simp),h.er]
def HA.find{A:Ab}(h:HA A)(nm:ByteArray):A.find nm true=match A.look nm with|none=>(4,none,A)|some f=>(0,some f,A):=by
 unfold Ab.find
 rw[h.meet,if_pos rfl]
 dsimp only
 cases A.look nm <;> rfl
def gJ{A:Ab}{nm:ByteArray}{f:Nat}(h:A.look nm=some f):(nm,f)∈A.names:=by
 unfold Ab.look Ab.cP at h
 cases hx:A.names.find? (fun x=>decide (x.1=nm))with
 | none=>rw[hx]at h;cases h
 | some x =>
  rw[hx]at h
  injection h with h
  have h1:=List.mem_of_find?_eq_some hx
  have h2:x.1=nm:=by simpa using List.find?_some hx
  rw[← h2,← h]
  exact h1
def HA.Q9{A:Ab}(h:HA A){a b:ByteArray}{f:Nat}(ha:A.look a=some f)(hb:A.look b=some f):a=b:=by
 have h1:=gJ ha
 have h2:=gJ hb
 have hn:=h.own
 have key:∀l:List (ByteArray × Nat),(l.map (·.2)).Nodup→(a,f)∈l→(b,f)∈l→a=b:=by
  intro l
  induction l with
  | nil=>intro _ h;cases h
  | cons y l ih =>
   intro hn h1 h2
   rw[List.map_cons,List.nodup_cons]at hn
   rcases List.mem_cons.1 h1 with e1|h1
   ·rcases List.mem_cons.1 h2 with e2|h2
    ·rw[← e2]at e1;exact congrArg Prod.fst e1
    ·exact absurd (List.mem_map.2 ⟨_,h2,rfl⟩) (by rw[← e1]at hn;exact hn.1)
   ·rcases List.mem_cons.1 h2 with e2|h2
    ·exact absurd (List.mem_map.2 ⟨_,h1,rfl⟩) (by rw[← e2]at hn;exact hn.1)
    ·exact ih hn.2 h1 h2
 exact key A.names hn h1 h2
def Er(l:List (ByteArray × Nat))(k nm:ByteArray)(f:Nat)(hk:Ab.cP l k=none):Ab.cP (l++[(k,f)]) nm=if nm=k then some f else Ab.cP l nm:=by
 unfold Ab.cP at hk ⊢
 rw[List.find?_append]
 by_cases h:nm=k
 ·subst h
  rw[if_pos rfl]
  cases hx:l.find? (fun x=>decide (x.1=nm))with
  | none=>simp
  | some x=>rw[hx]at hk;cases hk
 ·rw[if_neg h]
  cases hx:l.find? (fun x=>decide (x.1=nm))with
  | none=>simp;exact fun e=>h e.symm
  | some x=>simp
def IV{A:Ab}{f g:Nat}(names:List (ByteArray × Nat))(aw:List (List (ByteArray × Nat))):({ A with names:=names,aw:=aw,fs:=(f,[],[])::A.fs }:Ab).now g=if f=g then []else A.now g:=by
 unfold Ab.now Ab.file
 rw[List.find?_cons]
 by_cases h:f=g <;> simp[h]
def HA.create{A:Ab}(h:HA A){nm:ByteArray}{f:Nat}(hv:vw A nm=none)(hl:A.names.length<200)(hf:f ∉ A.fs.map (·.1)){e:Nat}{B:Ab}(hB:(e,B)=A.create true nm f) :
  e=0∧HA B∧(∀n,vw B n=if n=nm then some []else vw A n)∧B.names.length=A.names.length+1∧B.room=A.room:=by
 have oE:A.look nm=none:=by
  unfold vw at hv
  cases hx:A.look nm with
  | none=>rfl
  | some x=>rw[hx]at hv;cases hv
 have hc:A.create true nm f=(0,{ A.ng (A.names++[(nm,f)])with fs:=(f,[],[])::A.fs }):=by
  unfold Ab.create
  rw[h.meet,if_pos rfl]
  simp only
  rw[oE,if_neg (by simp),if_neg ag]
 rw[hc]at hB
 injection hB with h1 h2
 subst h1 h2
 have adr:∀n g,A.look n=some g→f≠g:=fun n g hg e=>hf (e ▸ h.known _ (gJ hg))
 refine⟨rfl,⟨h.er,h.on,?_,?_,?_,?_⟩,?_,?_,rfl⟩
 ·show((A.names++[(nm,f)]).map (·.1)).Nodup
  rw[List.map_append,List.nodup_append]
  refine⟨h.keys,by simp,fun a ha b hb=>?_⟩
  simp only[List.map_cons,List.map_nil,List.mem_singleton]at hb
  subst hb
  rintro rfl
  obtain⟨x,hx,Ox⟩:=List.mem_map.1 ha
  have:=fp h.keys hx
  rw[Ox,oE]at this
  cases this
 ·show((A.names++[(nm,f)]).map (·.2)).Nodup
  rw[List.map_append,List.nodup_append]
  refine⟨h.own,by simp,fun a ha b hb=>?_⟩
  simp only[List.map_cons,List.map_nil,List.mem_singleton]at hb
  subst hb
  rintro rfl
  obtain⟨x,hx,rfl⟩:=List.mem_map.1 ha
  exact hf (h.known x hx)
 ·exact List.nodup_cons.2 ⟨hf,h.ids⟩
 ·intro x hx
  rcases List.mem_append.1 hx with hx|hx
  ·exact List.mem_cons_of_mem _ (h.known x hx)
  ·simp only[List.mem_singleton]at hx
   subst hx
   exact List.mem_cons_self ..
 ·intro n
  unfold vw
  have e1:({ A.ng (A.names++[(nm,f)])with fs:=(f,[],[])::A.fs }:Ab).look n=if n=nm then some f else A.look n:=Er A.names nm n f oE
  rw[e1]
  by_cases hn:n=nm
  ·rw[if_pos hn,if_pos hn]
   show some _=_
   exact congrArg some ((IV _ _).trans (if_pos rfl))
  ·rw[if_neg hn,if_neg hn]
   cases hg:A.look n with
   | none=>rfl
   | some g=>exact congrArg some ((IV _ _).trans (if_neg (adr n g hg)))
 ·show(A.names++[(nm,f)]).length=_
  simp
def NY(A:Ab)(f g:Nat)(n:List UInt8)(w:List (Nat × Nat × List UInt8))(hg:g∈A.fs.map (·.1)):({ A with fs:=Ab.BP A.fs f n,writes:=w }:Ab).now g=if g=f then n else A.now g:=by
 unfold Ab.now Ab.file Ab.BP
 simp only[List.find?_map]
 have:((fun x:Nat × List UInt8 × List UInt8=>decide (x.1=g)) ∘ fun x=>if x.1=f then(x.1,n,x.2.2)else x)=fun x=>decide (x.1=g):=by
  funext x
  simp only[Function.comp]
  split <;> rfl
 rw[this]
 cases hx:A.fs.find? (fun x=>decide (x.1=g))with
 | none =>
  obtain⟨y,hy,hyg⟩:=List.mem_map.1 hg
  have:=List.find?_eq_none.1 hx y hy
  simp[hyg]at this
 | some x =>
  have hxg:x.1=g:=by simpa using List.find?_some hx
  simp only[Option.map_some,Option.getD_some]
  by_cases EM:g=f
  ·rw[if_pos (hxg.trans EM),if_pos EM]
  ·rw[if_neg (fun e=>EM (hxg ▸ e)),if_neg EM]
def HA.write{A:Ab}(h:HA A){nm:ByteArray}{c:List UInt8}(hv:vw A nm=some c)(at_:Nat)(b:List UInt8)(hr:A.used+(at_+b.length)≤A.room){e:Nat}{B:Ab}(hB:(e,B)=A.write true nm at_ b) :
  e=0∧HA B∧(∀n,vw B n=if n=nm then some (bK c at_ b)else vw A n)∧B.names=A.names∧B.room=A.room:=by
 obtain⟨f,hf,rfl⟩:∃f,A.look nm=some f∧A.now f=c:=by
  unfold vw at hv
  cases hx:A.look nm with
  | none=>rw[hx]at hv;cases hv
  | some f=>rw[hx]at hv;injection hv with hv;exact⟨f,rfl,hv⟩
 have hc:A.write true nm at_ b=(0,{ A with fs:=Ab.BP A.fs f (bK (A.now f) at_ b),writes:=A.writes++[(f,at_,b)] }):=by
  unfold Ab.write
  rw[h.find,hf]
  dsimp only
  rw[if_pos rfl,if_neg ag]
 rw[hc]at hB
 injection hB with h1 h2
 subst h1 h2
 have abk:∀g,g∈A.fs.map (·.1)→({ A with fs:=Ab.BP A.fs f (bK (A.now f) at_ b),writes:=A.writes++[(f,at_,b)] }:Ab).now g=if g=f then bK (A.now f) at_ b else A.now g:=fun g hg=>NY A f g _ _ hg
 refine⟨rfl,⟨h.er,h.on,h.keys,h.own,?_,?_⟩,?_,rfl,rfl⟩
 ·show((Ab.BP A.fs f _).map (·.1)).Nodup
  rw[tn]
  exact h.ids
 ·intro x hx
  show x.2∈(Ab.BP A.fs f _).map (·.1)
  rw[tn]
  exact h.known x hx
 ·intro n
  unfold vw
  show(A.look n).map _=_
  by_cases hn:n=nm
  ·subst hn
   rw[if_pos rfl,hf]
   exact congrArg some ((abk f (h.known _ (gJ hf))).trans (if_pos rfl))
  ·rw[if_neg hn]
   cases hg:A.look n with
   | none=>rfl
   | some g=>exact congrArg some ((abk g (h.known _ (gJ hg))).trans (if_neg (fun e=>hn (h.Q9 (e ▸ hg) hf))))
def AD(fs:List (Nat × List UInt8 × List UInt8))(f:Nat):(Ab.nD fs f).map (·.1)=fs.map (·.1):=by
 unfold Ab.nD
 rw[List.map_map]
 refine List.map_congr_left fun x _=>?_
 simp only[Function.comp]
 split <;> rfl
def KJ(A:Ab)(f g:Nat)(w:List (Nat × Nat × List UInt8)):({ A with fs:=Ab.nD A.fs f,writes:=w }:Ab).now g=A.now g:=by
 unfold Ab.now Ab.file Ab.nD
 simp only[List.find?_map]
 have:((fun x:Nat × List UInt8 × List UInt8=>decide (x.1=g)) ∘ fun x=>if x.1=f then(x.1,x.2.1,x.2.1)else x)=fun x=>decide (x.1=g):=by
  funext x
  simp only[Function.comp]
  split <;> rfl
 rw[this]
 cases A.fs.find? (fun x=>decide (x.1=g))with
 | none=>rfl
 | some x =>
  simp only[Option.map_some,Option.getD_some]
  split <;> rfl
def HA.sync{A:Ab}(h:HA A){nm:ByteArray}{c:List UInt8}(hv:vw A nm=some c){e:Nat}{B:Ab}(hB:(e,B)=A.sync true nm) :
  e=0∧HA B∧(∀n,vw B n=vw A n)∧B.names=A.names∧B.room=A.room:=by
 obtain⟨f,hf⟩:∃f,A.look nm=some f:=by
  unfold vw at hv
  cases hx:A.look nm with
  | none=>rw[hx]at hv;cases hv
  | some f=>exact⟨f,rfl⟩
 have hc:A.sync true nm=(0,{ A with fs:=Ab.nD A.fs f,writes:=A.writes.filter fun x => !decide (x.1=f) }):=by
  unfold Ab.sync
  rw[h.find,hf]
  dsimp only
  rw[if_pos rfl]
 rw[hc]at hB
 injection hB with h1 h2
 subst h1 h2
 refine⟨rfl,⟨h.er,h.on,h.keys,h.own,?_,?_⟩,?_,rfl,rfl⟩
 ·show((Ab.nD A.fs f).map (·.1)).Nodup
  rw[AD]
  exact h.ids
 ·intro x hx
  show x.2∈(Ab.nD A.fs f).map (·.1)
  rw[AD]
  exact h.known x hx
 ·intro n
  unfold vw
  show(A.look n).map _=_
  cases hg:A.look n with
  | none=>rfl
  | some g=>exact congrArg some (KJ A f g _)
def HA.cu{A:Ab}(h:HA A){e:Nat}{B:Ab}(hB:(e,B)=A.cu):e=0∧HA B∧(∀n,vw B n=vw A n)∧B.names=A.names∧B.room=A.room:=by
 have hc:A.cu=(0,{ A with aw:=[A.names] }):=by
  unfold Ab.cu
  rw[h.meet,if_pos rfl]
 rw[hc]at hB
 injection hB with h1 h2
 subst h1 h2
 exact⟨rfl,⟨h.er,h.on,h.keys,h.own,h.ids,h.known⟩,fun n=>rfl,rfl,rfl⟩
def nP(l:List (ByteArray × Nat))(k n:ByteArray):Ab.cP (Ab.dI l k) n=if n=k then none else Ab.cP l n:=by
 unfold Ab.cP Ab.dI
 induction l with
 | nil=>simp
 | cons x l ih =>
  rw[List.filter_cons]
  by_cases hx:x.1=k
  ·simp only[hx,decide_true,Bool.not_true,Bool.false_eq_true,if_false,List.find?_cons]
   rw[ih]
   by_cases hn:n=k
   ·simp[hn]
   ·have:¬k=n:=fun e=>hn e.symm
    simp[hn,this]
  ·simp only[hx,decide_false,Bool.not_false,if_true,List.find?_cons]
   by_cases hxn:x.1=n
   ·have:¬n=k:=fun e=>hx (hxn.trans e)
    simp[hxn,this]
   ·simp only[hxn,decide_false]
    exact ih
def HA.remove{A:Ab}(h:HA A){nm:ByteArray}{c:List UInt8}(hv:vw A nm=some c){e:Nat}{B:Ab}(hB:(e,B)=A.remove true nm) :
  e=0∧HA B∧(∀n,vw B n=if n=nm then none else vw A n)∧B.names=Ab.dI A.names nm∧B.room=A.room:=by
 obtain⟨f,hf⟩:∃f,A.look nm=some f:=by
  unfold vw at hv
  cases hx:A.look nm with
  | none=>rw[hx]at hv;cases hv
  | some f=>exact⟨f,rfl⟩
 have hc:A.remove true nm=(0,A.ng (Ab.dI A.names nm)):=by
  unfold Ab.remove
  rw[h.find,hf]
  rfl
 rw[hc]at hB
 injection hB with h1 h2
 subst h1 h2
 refine⟨rfl,⟨h.er,h.on,?_,?_,h.ids,?_⟩,?_,rfl,rfl⟩
 ·exact(List.filter_sublist.map _).nodup h.keys
 ·exact(List.filter_sublist.map _).nodup h.own
 ·intro x hx
  exact h.known x (List.mem_filter.1 hx).1
 ·intro n
  unfold vw
  have e1:(A.ng (Ab.dI A.names nm)).look n=if n=nm then none else A.look n:=nP A.names nm n
  rw[e1]
  by_cases hn:n=nm
  ·rw[if_pos hn,if_pos hn];rfl
  ·rw[if_neg hn,if_neg hn];rfl
def HA.rename{A:Ab}(h:HA A){o n:ByteArray}{c:List UInt8}(bY:o≠n)(hv:vw A o=some c)(Jb:vw A n=none){e:Nat}{B:Ab}(hB:(e,B)=A.rename true o n) :
  e=0∧HA B∧(∀m,vw B m=if m=n then some c else if m=o then none else vw A m)∧B.room=A.room∧∃f,A.look o=some f∧B.names=Ab.dI A.names o++[(n,f)]:=by
 obtain⟨f,hf,rfl⟩:∃f,A.look o=some f∧A.now f=c:=by
  unfold vw at hv
  cases hx:A.look o with
  | none=>rw[hx]at hv;cases hv
  | some f=>rw[hx]at hv;injection hv with hv;exact⟨f,rfl,hv⟩
 have wI:A.look n=none:=by
  unfold vw at Jb
  cases hx:A.look n with
  | none=>rfl
  | some x=>rw[hx]at Jb;cases Jb
 have OS:Ab.cP (Ab.dI A.names o) n=none:=by
  rw[nP]
  split
  ·rfl
  ·exact wI
 have ir:Ab.jQ (Ab.dI A.names o) n f=Ab.dI A.names o++[(n,f)]:=by
  unfold Ab.jQ
  rw[OS];simp
 have hc:A.rename true o n=(0,A.ng (Ab.dI A.names o++[(n,f)])):=by
  unfold Ab.rename
  rw[h.find,hf]
  show(0,A.ng (Ab.jQ (Ab.dI A.names o) n f))=_
  rw[ir]
 rw[hc]at hB
 injection hB with h1 h2
 subst h1 h2
 have eF:∀x∈Ab.dI A.names o,x∈A.names∧x.1≠o:=fun x hx=>by
  obtain⟨h1,h2⟩:=List.mem_filter.1 hx
  exact⟨h1,by simpa using h2⟩
 refine⟨rfl,⟨h.er,h.on,?_,?_,h.ids,?_⟩,?_,rfl,f,hf,rfl⟩
 ·show((Ab.dI A.names o++[(n,f)]).map (·.1)).Nodup
  rw[List.map_append,List.nodup_append]
  refine⟨(List.filter_sublist.map _).nodup h.keys,by simp,fun a ha b hb=>?_⟩
  simp only[List.map_cons,List.map_nil,List.mem_singleton]at hb
  subst hb
  rintro rfl
  obtain⟨x,hx,rfl⟩:=List.mem_map.1 ha
  have:=fp h.keys (eF x hx).1
  rw[wI]at this
  cases this
 ·show((Ab.dI A.names o++[(n,f)]).map (·.2)).Nodup
  rw[List.map_append,List.nodup_append]
  refine⟨(List.filter_sublist.map _).nodup h.own,by simp,fun a ha b hb=>?_⟩
  simp only[List.map_cons,List.map_nil,List.mem_singleton]at hb
  subst hb
  rintro rfl
  obtain⟨x,hx,Ox⟩:=List.mem_map.1 ha
  have h3:=fp h.keys (eF x hx).1
  rw[Ox]at h3
  exact(eF x hx).2 (h.Q9 h3 hf)
 ·intro x hx
  rcases List.mem_append.1 hx with hx|hx
  ·exact h.known x (eF x hx).1
  ·simp only[List.mem_singleton]at hx
   subst hx
   exact h.known (o,f) (gJ hf)
 ·intro m
  unfold vw
  have e1:(A.ng (Ab.dI A.names o++[(n,f)])).look m=if m=n then some f else if m=o then none else A.look m:=by
   refine(Er (Ab.dI A.names o) n m f OS).trans ?_
   rw[nP]
   rfl
  rw[e1]
  by_cases hm:m=n
  ·rw[if_pos hm,if_pos hm];rfl
  ·rw[if_neg hm,if_neg hm]
   by_cases hmo:m=o
   ·rw[if_pos hmo,if_pos hmo];rfl
   ·rw[if_neg hmo,if_neg hmo];rfl
def M3(d:Dg):(g8 d).all Xc=true:=by
 rw[List.all_eq_true]
 intro x hx
 unfold g8 at hx
 obtain⟨i,_,rfl⟩:=List.mem_map.1 hx
 have h:=tx d i
 unfold ly at h
 unfold Xc
 rw[decide_eq_true_eq]
 split at h
 ·rename_i h1;right;left;exact h1
 ·split at h
  ·rename_i h1;left;omega
  ·cases h
def vX(k:List UInt8)(d:Dg)(hk:k.length≤10)(ho:k.all Xc=true):isName (df k d)=true:=by
 unfold isName df
 rw[sy]
 have hs:(strOf (k++g8 d)).size=k.length+64:=by
  show(k++g8 d).toArray.size=_
  rw[List.size_toArray,List.length_append,jD]
 rw[hs,List.all_append,ho,M3]
 simp
 omega
def gK(x:Bl):isName (fS x)=true:=vX kS x.d (by decide) (by decide)
def A7(x:Bl):isName (fB x)=true:=vX kB x.d (by decide) (by decide)
def Fc(x y:Bl):fS x≠fB y:=fun h=>absurd (zc (by rfl) h) (by decide)
def Rk(x:Bl)(at_:Nat)(b:List UInt8)(h:at_+b.length≤1048576):fZ (fS x) at_ b=true:=by
 unfold fZ
 rw[gK]
 simp
 omega
def lM(A:Ab)(nm:ByteArray):qp A nm=(vw A nm).isSome:=by
 unfold qp vw
 cases A.look nm <;> rfl
def om{A:Ab}(h:HA A)(nm:ByteArray):fm A nm=vw A nm:=by
 unfold fm vw
 cases A.look nm with
 | none=>rfl
 | some f=>simp[h.on]
def F5{q:Int}{x:Bl}{s t:fe}{e:Nat}(h:HA s.A)(hb:s.brk=false)(hr:bz x=true)(jI:gN s.bt x.d=none)(hB:vw s.A (fB x)=none)(hq:jP s+x.size≤q)(hS:vw s.A (fS x)=none)(hn:s.A.names.length<200)(hR:dS q x s e t) :
  e=0∧HA t.A∧t.brk=false∧t.bt=s.bt++[(x.d,x)]∧(∀n,vw t.A n=if n=fS x then some []else vw s.A n)∧t.A.names.length=s.A.names.length+1∧t.A.room=s.A.room:=by
 obtain⟨A,bt,brk⟩:=s
 simp only at h hb jI hB hS hn
 subst hb
 unfold dS at hR
 rw[if_neg (by simp),if_neg (by rw[hr];simp),if_neg (by rw[jI,lM,hB];simp),if_neg ag,if_neg (by rw[lM,hS];simp)]at hR
 obtain⟨e1,s1,⟨B,fV,rfl⟩,hc⟩:=hR
 obtain⟨e2,A2,⟨f,hf,Ll⟩,mT⟩:=fV
 rw[gK]at Ll
 obtain⟨rfl,h2,rW,rI,zW⟩:=h.create hS hn hf Ll
 rcases mT with⟨bY,_⟩|⟨_,e3,A3,Xq,X'⟩
 ·exact absurd rfl bY
 obtain⟨rfl,h3,hv3,Lb,Y4⟩:=h2.cu Xq
 rcases X' with⟨bY,_⟩|⟨_,rfl,rfl⟩
 ·exact absurd rfl bY
 rcases hc with⟨bY,_⟩|⟨_,rfl,rfl⟩
 ·exact absurd rfl bY
 exact⟨rfl,h3,rfl,rfl,fun n=>(hv3 n).trans (rW n),by rw[Lb];exact rI,Y4.trans zW⟩
def Ih{x:Bl}{i at_ n:Int}{b c:List UInt8}{s t:fe}{e:Nat}(h:HA s.A)(hb:s.brk=false)(ho:gN s.bt x.d=some x)(e7:cC x i=some (at_,n))(hl:(b.length:Int)=n)(hv:vw s.A (fS x)=some c)(QE:0≤at_∧at_+b.length≤1048576)(qk:s.A.used+(at_.toNat+b.length)≤s.A.room)(hR:mU x i b s e t) :
  e=0∧HA t.A∧t.brk=false∧t.bt=s.bt∧(∀n,vw t.A n=if n=fS x then some (bK c at_.toNat b)else vw s.A n)∧t.A.names=s.A.names∧t.A.room=s.A.room:=by
 obtain⟨A,bt,brk⟩:=s
 simp only at h hb ho hv qk
 subst hb
 unfold mU at hR
 have hm:jh ⟨A,bt,false⟩ x=0:=by unfold jh tI;simp[ho]
 rw[hm,if_neg (by simp),e7]at hR
 dsimp only at hR
 rw[if_neg ag]at hR
 obtain⟨B,⟨e1,A1,hw,hc⟩,rfl⟩:=hR
 unfold fM at hw
 rw[Rk x at_.toNat b ag]at hw
 obtain⟨rfl,h1,mf,Lc,Co⟩:=h.write hv at_.toNat b qk hw
 rcases hc with⟨bY,_⟩|⟨_,rfl,rfl⟩
 ·exact absurd rfl bY
 exact⟨rfl,h1,rfl,rfl,mf,Lc,Co⟩
def zV{x:Bl}{c:List UInt8}{s t:fe}{e:Nat}(h:HA s.A)(hb:s.brk=false)(ho:gN s.bt x.d=some x)(hv:vw s.A (fS x)=some c)(hR:j6 x s e t) :
  e=0∧HA t.A∧t.brk=false∧t.bt=oe s.bt x.d∧(∀n,vw t.A n=if n=fS x then none else vw s.A n)∧t.A.names=Ab.dI s.A.names (fS x)∧t.A.room=s.A.room:=by
 obtain⟨A,bt,brk⟩:=s
 simp only at h hb ho hv
 subst hb
 unfold j6 at hR
 have hm:jh ⟨A,bt,false⟩ x=0:=by unfold jh tI;simp[ho]
 rw[hm,if_neg (by simp)]at hR
 obtain⟨s1,⟨B,⟨e1,A1,hw,hc⟩,rfl⟩,ht⟩:=hR
 unfold jg at hw
 rw[gK]at hw
 obtain⟨rfl,h1,mf,Lc,Co⟩:=h.remove hv hw
 rcases hc with⟨bY,_⟩|⟨_,rfl,rfl⟩
 ·exact absurd rfl bY
 rw[if_neg (by simp)]at ht
 subst ht
 exact⟨rfl,h1,rfl,rfl,mf,Lc,Co⟩
def wo{x:Bl}{c:List UInt8}{s t:fe}{e:Nat}(h:HA s.A)(hb:s.brk=false)(ho:gN s.bt x.d=some x)(hv:vw s.A (fS x)=some c)(hw:dX x c=false)(hR:dR x s e t) :
  e=8∧HA t.A∧t.brk=false∧t.bt=oe s.bt x.d∧(∀n,vw t.A n=if n=fS x then none else vw s.A n)∧t.A.names=Ab.dI s.A.names (fS x)∧t.A.room=s.A.room:=by
 have hm:jh s x=0:=by unfold jh tI;simp[hb,ho]
 unfold dR at hR
 rw[hm,if_neg (by simp),om h,hv,if_pos (by exact hw)]at hR
 obtain⟨e1,m8,he⟩:=hR
 obtain⟨rfl,h1,h2,h3,h4,h5,h6⟩:=zV h hb ho hv m8
 rw[if_neg (by simp)]at he
 exact⟨he,h1,h2,h3,h4,h5,h6⟩
def zP{x:Bl}{c:List UInt8}{s t:fe}{e:Nat}(h:HA s.A)(hb:s.brk=false)(ho:gN s.bt x.d=some x)(hv:vw s.A (fS x)=some c)(jI:vw s.A (fB x)=none)(hw:dX x c=true)(hR:dR x s e t) :
  e=0∧HA t.A∧t.brk=false∧t.bt=oe s.bt x.d∧(∀n,vw t.A n=if n=fB x then some c else if n=fS x then none else vw s.A n)∧t.A.room=s.A.room∧∃f,t.A.names=Ab.dI s.A.names (fS x)++[(fB x,f)]:=by
 obtain⟨A,bt,brk⟩:=s
 simp only at h hb ho hv jI
 subst hb
 have hm:jh ⟨A,bt,false⟩ x=0:=by unfold jh tI;simp[ho]
 unfold dR at hR
 rw[hm,if_neg (by simp),om h,hv,if_neg (by show ¬dX x c=false;rw[hw];simp)]at hR
 obtain⟨s1,⟨B,⟨e1,A1,h1,Bj⟩,rfl⟩,ht⟩:=hR
 unfold fg at h1
 rw[gK]at h1
 obtain⟨rfl,g1,v1,l1,r1⟩:=h.sync hv h1
 rcases Bj with⟨bY,_⟩|⟨_,e2,A2,h2,mT⟩
 ·exact absurd rfl bY
 unfold kV at h2
 rw[show [fS x,fB x].all isName=true from by simp[gK,A7]]at h2
 obtain⟨rfl,g2,v2,r2,f,_,l2⟩:=g1.rename (Fc x x) ((v1 _).trans hv) ((v1 _).trans jI) h2
 rcases mT with⟨bY,_⟩|⟨_,e3,A3,h3,X'⟩
 ·exact absurd rfl bY
 obtain⟨rfl,g3,v3,l3,r3⟩:=g2.cu h3
 rcases X' with⟨bY,_⟩|⟨_,rfl,rfl⟩
 ·exact absurd rfl bY
 rw[if_neg (by simp)]at ht
 subst ht
 refine⟨rfl,g3,rfl,rfl,fun n=>?_,r3.trans (r2.trans r1),f,by rw[l3,l2,l1]⟩
 rw[v3,v2]
 split
 ·rfl
 ·split
  ·rfl
  ·exact v1 n
def stE(bs bd:Nat)(q:Int)(mb:Nat):HP:=fun h=>∃b,ae bs (cl (ei bd q mb b) 123) h
def Gv(bs bd:Nat)(q:Int)(mb:Nat)(b:Bool)(H:List HP):al (ae bs (cl (ei bd q mb b) 123)::H) (stE bs bd q mb::H) :=
 al.fold (B:=[_]) fun h' hs=>⟨h',sub.refl h',b,eU hs⟩
def M8{G:cJ}{w:World}{bs bd:Nat}{q:Int}{mb:Nat}{H:List HP}(hw:Sat G w (stE bs bd q mb::H)):w.cell? ⟨bs,0,none⟩=some (ptr bd):=by
 obtain⟨h,hh,b,hA⟩:=hw.lf (i:=0) rfl
 have hb:h bs=some (cl (ei bd q mb b) 123):=by rw[hA bs,if_pos rfl]
 exact dW hh (by unfold dF;rw[hb];rfl)
attribute [local irreducible] J K aE Ends ae aB aP bP bq aS aZ bu bX Sha.chunks Sha.chunk Sha.rounds Sha.sched dK cm GI cQ aC
section
variable{P:Program}{f:FuncId}{n:Nat}{R:Ending→World→Prop}{G:cJ}{L:fJ}{H:List HP}{S:World→Prop}{all:Array Oper}{rest:Pl}
def acu{k k':List Item}{α:Type}(I:α→Prop)(Lf:α→fJ)(Hf:α→List HP)(hk:iA 1000 k = .mk k')(tail:∀y,I y→K P f n R G k' (Lf y) (Hf y))(h:(∀y,I y→K P f n R G k' (Lf y) (Hf y))→J P f n R G S all rest k L H):J P f n R G S all rest k L H:=h tail
def YS{k k':List Item}{α:Type}(m:Nat)(I:α→Prop)(Lf:α→fJ)(Hf:α→List HP)(hk:iA 1000 (k.drop m) = .mk k')(tail:∀y,I y→K P f n R G k' (Lf y) (Hf y))(h:(∀y,I y→K P f n R G k' (Lf y) (Hf y))→J P f n R G S all rest k L H):J P f n R G S all rest k L H:=h tail
end
def MV{A:Ab}{bt:List (Dg × Bl)}{brk:Bool}(h:J0 A)(hb:pI bt):0≤jP ⟨A,bt,brk⟩∧jP ⟨A,bt,brk⟩≤1048786000000:=by
 have h1:=IZ bt (bt.map (·.1)) hb.1
 rw[Ek bt _ (fun x hx=>List.mem_map.2 ⟨x,hx,rfl⟩)]at h1
 have h2:=xH (h.nodup _ (List.mem_cons_self ..))
 have h3:=uT (fY A) (nN A) 1048576 (fun x _=>Ch h x)
 have h4:=sJ h
 have h5:=hb.2
 unfold jP
 simp only
 rw[h2]
 omega
def Pz(l:List (Dg × Bl))(x:Bl)(h:gN l x.d=none):nA (dD l) x.d (eL x)=dD (l++[(x.d,x)]):=by
 have hn:x.d ∉ (dD l).map (·.1):=by
  rw[← zx,ry,h];rfl
 unfold nA
 rw[if_neg hn]
 simp[dD]
def F6(bs bd:Nat)(q:Int)(hq:0≤q∧q≤1073741824)(mb:Nat)(s:fe)(x:Bl)(O6:pI s.bt)(cK:s.A.aw.length≤900000000)(fb:s.A.writes.length≤900000000) :
  aE Tryz.prog 35 [ptr bs,eL x] (cH bs bd q mb s)
  (fun r H=>∃(e:Nat) (t:fe),r = .int .i64 (e:Int)∧H=cH bs bd q mb t∧dS q x s e t):=by
 obtain⟨A,bt,brk⟩:=s
 have aa7:=Sq bs bd q mb ⟨A,bt,brk⟩ O6
 have oE:=ry bt x.d
 obtain⟨nX,rh⟩:=O6
 simp only at cK fb nX rh
 have sL:=oq x
 have rJ:=JX bs bd q mb brk A x.d
 unfold dV at rJ
 unfold eL at sL ⊢
 refine aE.ao Tryz.func35 Tryz.ntmps35 fun G F R hE=>?_
 refine ai (H':=ae bs (cl (ei bd q mb brk) 123)::aP dV mb (dD bt)::aC bd A::F) (al.refl _) ?_
 refine aD rfl ?_
 refine bG zr zr bD ?_
 intro b2
 refine bG zr zr bD ?_
 intro b3
 refine ld ?_
 refine aF (fun w=>Sat G w ([ae b3 (cl (bH x) 37),ae b2 (cl [ptr bs] 29),ae bs (cl (ei bd q mb brk) 123),aP dV mb (dD bt)])) (cZ 0 10 (.act 10 (.act 11 (.st 12 .nil)))) rfl ak ak ak dT ?_
 refine acu (fun Xe:Bool=>Xe=(gN bt x.d).isSome) (fun Xe=>[(2,ptr b2),(3,ptr b3),(6,.bool Xe)]) (fun _=>ae b3 (cl (bH x) 37)::ae b2 (cl [ptr bs] 29)::ae bs (cl (ei bd q mb brk) 123)::aP dV mb (dD bt)::aC bd A::F) rfl ?_ ?_
 ·rintro Xe RK
  have hB0:brk=true→dS q x ⟨A,bt,brk⟩ 10 ⟨A,bt,brk⟩:=fun h=>by unfold dS;rw[if_pos h];exact⟨rfl,rfl⟩
  have R1:¬brk=true→bz x=false→dS q x ⟨A,bt,brk⟩ 1 ⟨A,bt,brk⟩:=fun h h1=>by unfold dS;rw[if_neg h,if_pos h1];exact⟨rfl,rfl⟩
  have hB2:¬brk=true→¬bz x=false→(Xe=true∨qp A (fB x)=true)→dS q x ⟨A,bt,brk⟩ 5 ⟨A,bt,brk⟩:=fun h h1 h2=>by unfold dS;rw[RK]at h2;rw[if_neg h,if_neg h1,if_pos h2];exact⟨rfl,rfl⟩
  have hB3:∀e t,¬brk=true→¬bz x=false→¬(Xe=true∨qp A (fB x)=true)→(if q<jP ⟨A,bt,brk⟩+x.size then e=11∧t=⟨A,bt,brk⟩
    else if qp A (fS x)then e=0∧t=⟨A,bt++[(x.d,x)],brk⟩
    else ∃e1 s1,CK [iF (fS x),dO] ⟨A,bt,brk⟩ e1 s1∧((e1≠0∧e=e1∧t=s1)∨(e1=0∧e=0∧t=⟨s1.A,s1.bt++[(x.d,x)],s1.brk⟩)))→dS q x ⟨A,bt,brk⟩ e t:=fun e t h h1 h2 h3=>by
   unfold dS;rw[RK]at h2;rw[if_neg h,if_neg h1,if_neg h2];exact h3
  cases brk with
  | true =>
   refine go ?_
   refine ai (H':=cH bs bd q mb ⟨A,bt,true⟩++F) ah ?_
   refine ad hE Tryz.func35 zr zr ⟨10,⟨A,bt,true⟩,rfl,rfl,hB0 rfl⟩
  | false =>
   refine uu (bd:=bd) (A:=A) 4 rfl ?_
   intro Hw
   have hul:=MV (brk:=false) Hw ⟨nX,rh⟩
   refine go ?_
   refine aG (U:=aQ) (l:=bH x) 0 zr zr zr zr zr zr ?_
   refine aJ sL ?_
   cases hr:bz x with
   | false =>
    refine go ?_
    refine ai (H':=cH bs bd q mb ⟨A,bt,false⟩++F) ah ?_
    refine ad hE Tryz.func35 zr zr ⟨1,⟨A,bt,false⟩,rfl,rfl,R1 (by simp) hr⟩
   | true =>
    have Hm:¬bz x=false:=by rw[hr];simp
    have Qv:=hr
    simp only[bz,decide_eq_true_eq]at Qv
    cases Xe with
    | true =>
     refine go ?_
     refine ai (H':=cH bs bd q mb ⟨A,bt,false⟩++F) ah ?_
     refine ad hE Tryz.func35 zr zr ⟨5,⟨A,bt,false⟩,rfl,rfl,hB2 (by simp) Hm (.inl rfl)⟩
    | false =>
     refine go ?_
     refine dH 0 zr zr zr zr zr zr ?_
     ((refine go ?_;(refine aH rJ ?_)))
     rintro _ _⟨rfl,rfl⟩
     cases Zf:qp A (df kB x.d)with
     | true =>
      refine go ?_
      refine ai (H':=cH bs bd q mb ⟨A,bt,false⟩++F) ah ?_
      refine ad hE Tryz.func35 zr zr ⟨5,⟨A,bt,false⟩,rfl,rfl,hB2 (by simp) Hm (.inr Zf)⟩
     | false =>
      have jI:¬(false=true∨qp A (fB x)=true):=by
       have:qp A (fB x)=false:=Zf
       rw[this];simp
      refine go ?_
      refine aF (fun w=>Sat G w ([ae b3 (cl (bH x) 37),ae b2 (cl [ptr bs] 29),ae bs (cl (ei bd q mb false) 123)])) (.st 0 (.st 2 (.st 3 (cZ 5 4 (.act 1 (.st 4 (.st 9 (.st 10 .nil)))))))) rfl ak ak ak dT ?_
      refine go ?_
      refine bo aa7 ?_
      refine go ?_
      refine aq zr zr ?_ ?_
      ·intro hqu
       have Qy:q<jP ⟨A,bt,false⟩+x.size:=hqu
       refine go ?_
       refine ai (H':=cH bs bd q mb ⟨A,bt,false⟩++F) ah ?_
       ((refine ad hE Tryz.func35 zr zr ⟨11,⟨A,bt,false⟩,rfl,rfl,hB3 _ _ (by simp) Hm jI (by rw[if_pos Qy];exact⟨rfl,rfl⟩)⟩))
      ·intro hqu
       have Qy:¬q<jP ⟨A,bt,false⟩+x.size:=hqu
       refine ai (H':=ae b3 (cl (bH x) 37)::ae b2 (cl [ptr bs] 29)::ae bs (cl (ei bd q mb false) 123)::aP dV mb (dD bt)::aC bd A::F) ah (go ?_)
       refine dH 0 zr zr zr zr zr zr ?_
       refine aJ (vk x) ?_
       refine az zr zr zr bD ?_
       intro b7
       refine go ?_
       refine aJ (Oo bs bd q mb false A (fS x)) ?_
       refine YS 1 (fun B:Ab=>dS q x ⟨A,bt,false⟩ 0 ⟨B,bt++[(x.d,x)],false⟩) (fun B=>[(2,ptr b2),(3,ptr b3)]) (fun B=>ae b3 (cl (bH x) 37)::ae b2 (cl [ptr bs] 29)::ae bs (cl (ei bd q mb false) 123)::aP dV mb (dD bt)::aC bd B::F) rfl ?_ ?_
       ·intro B Yg
        have ir:=Pz bt x (by cases h:gN bt x.d with|none=>rfl|some y=>rw[h]at RK;cases RK)
        refine aF (fun w=>Sat G w ([ae b3 (cl (bH x) 37),ae b2 (cl [ptr bs] 29),ae bs (cl (ei bd q mb false) 123)])) (cZ 0 7 (.act 7 .nil)) rfl ak ak ak dT ?_
        refine go ?_
        refine cf (U:=aQ) 0 zr zr zr zr zr zr (go ?_)
        refine cf (U:=aQ) (cs:=bH x) 0 zr zr zr zr zr zr (go ?_)
        refine jo (es:=dD bt) (key:=x.d) (v:=eL x) 3 Ro (fun _ _=>by exact trivial) zr zr zr zr zr zr zr zr ?_
        rw[ir]
        refine go ?_
        refine ai (H':=cH bs bd q mb ⟨B,bt++[(x.d,x)],false⟩++F) ah ?_
        refine ad hE Tryz.func35 zr zr ⟨0,⟨B,bt++[(x.d,x)],false⟩,rfl,rfl,Yg⟩
       ·intro tail
        cases hsf:qp A (fS x)with
        | true =>
         refine go ?_
         refine lh tail A rfl (hB3 _ _ (by simp) Hm jI (by rw[if_neg Qy,if_pos hsf];exact⟨rfl,rfl⟩)) cg ah
        | false =>
         have vd:∀(i:Nat) (fv:Value) (sp:BD),[.func (.func 88) #[] #[ptr b2,ptr b7],.func (.func 75) #[ptr bd] #[] ][i]?=some fv→[iF (fS x),dO][i]?=some sp→∃g fi cap,fv = .func (.func g) fi cap∧∀y,GQ A i y→aE Tryz.prog g (fi.toList++cap.toList) [nC bs bd q mb false (Sep [ae b2 (cl [ptr bs] 29),ae b7 (cl [.string (fS x)] 9)]) y] (fun r H=>∃(e:Nat) (x':Ab),r = .int .i64 (e:Int)∧H=[nC bs bd q mb false (Sep [ae b2 (cl [ptr bs] 29),ae b7 (cl [.string (fS x)] 9)]) x']∧sp y e x'∧(e=0→GQ A (i+1) x')):=by
          intro i fv sp hi hs
          match i,hi,hs with
          | 0,hi,hs =>
           cases hi;cases hs
           refine⟨_,_,_,rfl,fun y hy=>?_⟩
           refine(pe (p:=iF (fS x) y) (H4 bs bd b2 b7 q mb false (fS x) y (by have:=hy.1;omega))).post ?_
           rintro r H⟨e,B,rfl,rfl,h1⟩
           exact⟨e,B,rfl,rfl,h1,fun _=>hy.next (sc h1)⟩
          | 1,hi,hs =>
           cases hi;cases hs
           refine⟨_,_,_,rfl,fun y hy=>(IX bs bd q mb false [ae b2 (cl [ptr bs] 29),ae b7 (cl [.string (fS x)] 9)] y).post ?_⟩
           rintro r H⟨e,B,rfl,rfl,h1⟩
           exact⟨e,B,rfl,rfl,h1,fun _=>hy.next (iU h1)⟩
          | k+2,hi,hs=>simp at hi
         refine go ?_
         refine aF (fun w=>Sat G w [stE bs bd q mb,ae b2 (cl [ptr bs] 29)]) (cZ 0 7 (.act 7 (.act 8 (.st 9 .nil)))) rfl ak ak ak (fun w hw=>hw.cV (al.trans (H2:=[ae bs (cl (ei bd q mb false) 123),ae b2 (cl [ptr bs] 29)]) ah (Gv bs bd q mb _ _))) ?_
         refine go ?_
         refine aK ?_
         refine lU zr zr (fun w hw=>M8 hw) zr zr ?_
         refine go ?_
         refine aj (cs:=[.func (.func 88) #[] #[ptr b2,ptr b7],.func (.func 75) #[ptr bd] #[] ]) zr zr zr zr zr zr zr zr zr (fun _ w hw=>by exact hw.cV (al.trans (H2:=[ae bs (cl (ei bd q mb false) 123),ae b2 (cl [ptr bs] 29)]) ah (Gv bs bd q mb _ _))) ?_
         intro row
         have EY:=lg bs bd q mb false (Sep [ae b2 (cl [ptr bs] 29),ae b7 (cl [.string (fS x)] 9)]) (ae row (cl [.func (.func 88) #[] #[ptr b2,ptr b7],.func (.func 75) #[ptr bd] #[] ] 96)) (.slice (some ⟨row,0,none⟩) 2 2) [.func (.func 88) #[] #[ptr b2,ptr b7],.func (.func 75) #[ptr bd] #[] ] (Vw.ae rfl) (by show 2≤_;omega) [iF (fS x),dO] rfl (GQ A) vd A (GQ.zero A)
         refine aI (H':=ae row (cl [.func (.func 88) #[] #[ptr b2,ptr b7],.func (.func 75) #[ptr bd] #[] ] 96)::nC bs bd q mb false (Sep [ae b2 (cl [ptr bs] 29),ae b7 (cl [.string (fS x)] 9)]) A::aP dV mb (dD bt)::ae b3 (cl (bH x) 37)::F) (al.trans (H2:=ae bs (cl (ei bd q mb false) 123)::aC bd A::([ae b2 (cl [ptr bs] 29),ae b7 (cl [.string (fS x)] 9)]++(ae row (cl [.func (.func 88) #[] #[ptr b2,ptr b7],.func (.func 75) #[ptr bd] #[] ] 96)::aP dV mb (dD bt)::ae b3 (cl (bH x) 37)::F))) ah (al.trans (uU bs bd q mb false _ A _) ah)) ?_
         refine gD zr zr zr zr EY ah ?_ (fun _ _ w hp hw=>by
          obtain⟨e,B,rfl,rfl,fV,_⟩:=hp
          exact hw.cV (al.trans (al.pick [1] rfl) (al.trans (oK bs bd q mb (or false (decide (e≠0))) _ B _) (al.trans (H2:=[ae bs (cl (ei bd q mb (or false (decide (e≠0)))) 123),ae b2 (cl [ptr bs] 29)]) ah (Gv bs bd q mb _ _)))))
         rintro _ _⟨e,B,rfl,rfl,fV,-⟩
         refine aI (al.trans (al.pick [1] rfl) (oK bs bd q mb (or false (decide (e≠0))) _ B _)) ?_
         have mh:∀e' t,(∃e1 s1,CK [iF (fS x),dO] ⟨A,bt,false⟩ e1 s1∧((e1≠0∧e'=e1∧t=s1)∨(e1=0∧e'=0∧t=⟨s1.A,s1.bt++[(x.d,x)],s1.brk⟩)))→dS q x ⟨A,bt,false⟩ e' t:=fun e' t h=>hB3 e' t (by simp) Hm jI (by rw[if_neg Qy,if_neg (by rw[hsf];simp)];exact h)
         refine go ?_
         refine aq zr zr ?_ ?_
         ·intro XG
          have he:e≠0:=by omega
          refine go ?_
          refine ai (H':=cH bs bd q mb ⟨B,bt,or false (decide (e≠0))⟩++F) ah ?_
          refine ad hE Tryz.func35 zr zr ⟨e,⟨B,bt,or false (decide (e≠0))⟩,rfl,rfl,mh _ _ ⟨e,_,⟨B,fV,rfl⟩,.inl ⟨he,rfl,rfl⟩⟩⟩
         ·intro XZ
          have he:e=0:=by omega
          subst he
          refine go ?_
          refine lh tail B rfl (mh _ _ ⟨0,_,⟨B,fV,rfl⟩,.inr ⟨rfl,rfl,rfl⟩⟩) cg ah
 ·intro tail
  refine go ?_
  refine cf (U:=aQ) 0 zr zr zr zr zr zr (go ?_)
  refine qJ (U:=aQ) (es:=dD bt) (key:=x.d) rfl Ro zr zr zr zr zr zr zr (fun w hw=>hw.o8 (i:=3) rfl) ?_
  rw[ry]
  cases hb:gN bt x.d with
  | none =>
   rw[hb]at tail
   simp only[Option.map_none,Option.getD_none,Option.isSome_none]
   refine go ?_
   refine az zr zr zr (fun _ w hw=>hw.cV ah) ?_
   intro b5
   refine ld ?_
   (refine aT ?_;(refine cq 0 dT zr zr zr zr zr zr zr zr zr ?_))
   refine ld ?_
   refine lh tail false zr zr cg ah
  | some y =>
   rw[hb]at tail
   simp only[Option.map_some,Option.getD_some,Option.isSome_some]
   unfold eL
   refine go ?_
   refine az zr zr zr (fun _ w hw=>hw.cV ah) ?_
   intro b5
   refine ld ?_
   (refine aT ?_;(refine cq 0 dT zr zr zr zr zr zr zr zr zr ?_))
   refine ld ?_
   refine lh tail true zr zr cg ah
end Go.Proofs.YtedjnjkijiddlaaGreatDoor
namespace Go.Proofs.YtedjnjkijiddlaaGreatDoor
open Go Go.SL
variable{A:Ab}{x:Bl}{e:Nat}{s t:fe}
attribute [local irreducible] J K aE Ends ae aB aP bP bq aS aZ bu bX Sha.chunks Sha.chunk Sha.rounds Sha.sched dK cm GI cQ aC
def G8(h:A.names=[]):fY A=[]:=by
 have:=jT A
 rw[h]at this
 exact List.length_eq_zero_iff.1 this
def pX{kind:List UInt8}{right:Ab→Dg→Bool}{B:Ab}(h:A.names=[])(hs:eH kind right A e B):e=0∧B=A:=by
 unfold eH at hs
 rw[G8 h]at hs
 exact hs
def zD{B:Ab}(h:A.names=[])(ho:qC A e B):e=0∧B=A:=by
 obtain⟨e1,A1,⟨e2,A2,h2,c2⟩,mh⟩:=ho
 obtain⟨rfl,rfl⟩:=pX h h2
 rcases c2 with⟨bY,_⟩|⟨_,e3,A3,h3,c3⟩
 ·exact absurd rfl bY
 obtain⟨rfl,rfl⟩:=pX h h3
 rcases c3 with⟨bY,_⟩|⟨_,e4,A4,h4,c4⟩
 ·exact absurd rfl bY
 obtain⟨rfl,rfl⟩:=pX h h4
 rcases c4 with⟨bY,_⟩|⟨_,rfl,rfl⟩
 ·exact absurd rfl bY
 rw[if_neg ag]at mh
 exact mh
def ru{b:List UInt8}{k:Int}(h:eu b k=some x):bz x=true∧x.size=b.length∧x.piece=k∧dX x b=true:=by
 have h0:=h
 unfold eu cM at h
 split at h
 ·rename_i hr
  simp only[Option.map_some,Option.some.injEq]at h
  subst h
  refine⟨?_,rfl,rfl,?_⟩
  ·simpa[bz]using hr
  ·unfold dX;simpa using h0
 ·cases h
def Pv:∃x,eu [7] 16=some x:=by
 unfold eu cM
 rw[if_pos (by decide)]
 exact⟨_,rfl⟩
def DF(h:bz x=true)(h1:x.size=1)(h2:x.piece=16):cC x 0=some (0,1):=by
 unfold cC bO
 rw[if_pos h,h1,h2,if_neg ag]
 simp
 omega
def iO(n:Nat)(s t:fe):Prop:=t.A.aw.length≤s.A.aw.length+n∧t.A.writes.length≤s.A.writes.length+n
def Ls(ss:List BD)(hs:∀sp∈ss,∀A e B,sp A e B→j0 A B)(A:Ab)(e:Nat)(B:Ab)(h:iZ ss A e B):B.aw.length≤A.aw.length+ss.length∧B.writes.length≤A.writes.length+ss.length:=by
 induction ss generalizing A with
 | nil=>obtain⟨_,rfl⟩:=h;exact⟨Nat.le_refl _,Nat.le_refl _⟩
 | cons sp ss ih =>
  obtain⟨e1,A1,h1,hc⟩:=h
  have g:=hs sp (List.mem_cons_self ..) _ _ _ h1
  have g1:=g.1
  have g2:=g.2
  simp only[List.length_cons]
  rcases hc with⟨_,_,rfl⟩|⟨_,h2⟩
  ·omega
  ·have:=ih (fun s h=>hs s (List.mem_cons_of_mem _ h)) A1 h2
   omega
def n5{ss:List BD}(hs:∀sp∈ss,∀A e B,sp A e B→j0 A B)(h:CK ss s e t):iO ss.length s t:=by
 obtain⟨B,h,rfl⟩:=h
 exact Ls ss hs _ _ _ h
def iO.mono{m n:Nat}(h:iO m s t)(Za:m≤n):iO n s t:=⟨by have:=h.1;omega,by have:=h.2;omega⟩
def iO.refl(n:Nat)(s:fe):iO n s s:=⟨ag,ag⟩
def ll{q:Int}(h:dS q x s e t):iO 2 s t:=by
 unfold dS at h
 split at h
 ·exact h.2 ▸ iO.refl _ _
 split at h
 ·exact h.2 ▸ iO.refl _ _
 split at h
 ·exact h.2 ▸ iO.refl _ _
 split at h
 ·exact h.2 ▸ iO.refl _ _
 split at h
 ·rw[h.2];exact iO.refl 2 s
 ·obtain⟨e1,s1,hc,hd⟩:=h
  have g:=n5 (ss:=[iF (fS x),dO]) (fun sp e7 A e B hh=>by
   simp only[List.mem_cons,List.not_mem_nil,or_false]at e7
   rcases e7 with rfl|rfl
   ·exact sc hh
   ·exact iU hh) hc
  rcases hd with⟨_,_,rfl⟩|⟨_,_,rfl⟩ <;> exact g
def ot{i:Int}{b:List UInt8}(h:mU x i b s e t):iO 1 s t:=by
 unfold mU at h
 split at h
 ·exact h.2 ▸ iO.refl _ _
 split at h
 ·exact h.2 ▸ iO.refl _ _
 split at h
 ·exact h.2 ▸ iO.refl _ _
 ·exact n5 (fun sp e7 A e B hh=>by
   simp only[List.mem_cons,List.not_mem_nil,or_false]at e7
   subst e7
   exact tU hh) h
def wu(h:j6 x s e t):iO 1 s t:=by
 unfold j6 at h
 split at h
 ·exact h.2 ▸ iO.refl _ _
 ·obtain⟨s1,hc,rfl⟩:=h
  have g:=n5 (fun sp e7 A e B hh=>by
   simp only[List.mem_cons,List.not_mem_nil,or_false]at e7
   subst e7
   exact nv hh) hc
  split <;> exact g
def sm(h:dR x s e t):iO 3 s t:=by
 unfold dR at h
 split at h
 ·exact h.2 ▸ iO.refl _ _
 split at h
 ·obtain⟨e1,h1,_⟩:=h
  exact(wu h1).mono ag
 ·obtain⟨s1,hc,rfl⟩:=h
  have g:=n5 (ss:=Ej (fS x) (fB x)) (fun sp e7 A e B hh=>by
   simp only[Ej,List.mem_cons,List.not_mem_nil,or_false]at e7
   rcases e7 with rfl|rfl|rfl
   ·exact m9 hh
   ·exact r' hh
   ·exact iU hh) hc
  split <;> exact g
def wR(h:HA A)(m:Nat)(hm:∀n c,vw A n=some c→c.length≤m):A.used≤A.names.length*m:=by
 unfold Ab.used
 refine uT A.names _ m fun x hx=>?_
 refine hm x.1 _ ?_
 unfold vw
 rw[fp h.keys hx]
 rfl
def IU(b:Nat)(x:UInt8):eM (ae b (cl (bV [x]) 5)) (.slice (some ⟨b,0,none⟩) 1 1) [x]:=⟨Vw.ae rfl,_,_,rfl,Nat.le_refl _⟩
end Go.Proofs.YtedjnjkijiddlaaGreatDoor
namespace Go.Proofs.YtedjnjkijiddlaaGreatDoor
open Go Go.SL
variable{A B:Ab}{k nm:ByteArray}{d:Dg}{K':List ByteArray}{e f:Nat}
abbrev Vm:=ByteArray→Option (List UInt8)
structure pN(K:List ByteArray)(v:Vm):Prop where
 nd:K.Nodup
 mem:∀n,n∈K↔(v n).isSome=true
def rC(w:ByteArray→List UInt8→Nat)(K:List ByteArray)(v:Vm):Nat:=(K.map fun k=>w k ((v k).getD [])).sum
def eK(v:Vm)(k:ByteArray)(o:Option (List UInt8)):Vm:=fun n=>if n=k then o else v n
def dv(v:Vm)(k:ByteArray)(o:Option (List UInt8)):eK v k o k=o:=if_pos rfl
def dL(v:Vm){n:ByteArray}(o:Option (List UInt8))(h:n≠k):eK v k o n=v n:=if_neg h
def DJ(v:Vm)(k:ByteArray)(o p:Option (List UInt8)):eK (eK v k o) k p=eK v k p:=by
 funext n
 unfold eK
 split <;> rfl
def Ki(v:Vm)(k:ByteArray):eK v k (v k)=v:=by
 funext n
 unfold eK
 split
 ·rename_i h;rw[h]
 ·rfl
def IK{v:Vm}{o:Option (List UInt8)}(h:v k=o):eK v k o=v:=by rw[← h];exact Ki v k
def pN.perm{K:List ByteArray}{v:Vm}(h:pN K v)(h':pN K' v):K.Perm K':=(List.perm_ext_iff_of_nodup h.nd h'.nd).2 fun n=>(h.mem n).trans (h'.mem n).symm
def xK{K:List ByteArray}{v:Vm}(w:ByteArray→List UInt8→Nat)(h:pN K v)(h':pN K' v):rC w K v=rC w K' v:=((h.perm h').map _).sum_nat
def pN.add{K:List ByteArray}{v:Vm}(h:pN K v)(hk:v k=none)(c:List UInt8):pN (k::K) (eK v k (some c)):=by
 refine⟨List.nodup_cons.2 ⟨fun hm=>?_,h.nd⟩,fun n=>?_⟩
 ·have:=(h.mem k).1 hm
  rw[hk]at this;cases this
 ·rw[List.mem_cons]
  by_cases hn:n=k
  ·simp[hn,dv]
  ·rw[dL _ _ hn,← h.mem n]
   simp[hn]
def pN.del{K:List ByteArray}{v:Vm}(h:pN K v)(k:ByteArray):pN (K.filter fun n => !decide (n=k)) (eK v k none):=by
 refine⟨List.filter_sublist.nodup h.nd,fun n=>?_⟩
 rw[List.mem_filter]
 by_cases hn:n=k
 ·simp[hn,dv]
 ·rw[dL _ _ hn,← h.mem n]
  simp[hn]
def wS{K:List ByteArray}{v:Vm}{c:List UInt8}(w:ByteArray→List UInt8→Nat)(h:pN K v)(h':pN K' (eK v k (some c)))(hk:v k=none):rC w K' (eK v k (some c))=w k c+rC w K v:=by
 rw[xK w h' (h.add hk c)]
 unfold rC
 rw[List.map_cons,List.sum_cons,dv]
 congr 1
 have hnk:∀n∈K,n≠k:=fun n hn e=>by
  have:=(h.mem n).1 hn
  rw[e,hk]at this;cases this
 exact congrArg List.sum (List.map_congr_left fun x hx=>by rw[dL _ _ (hnk x hx)])
def QR{K:List ByteArray}{v:Vm}{c:List UInt8}(w:ByteArray→List UInt8→Nat)(h:pN K v)(h':pN K' (eK v k none))(hk:v k=some c):rC w K v=w k c+rC w K' (eK v k none):=by
 have h2:eK (eK v k none) k (some c)=v:=by rw[DJ];exact IK hk
 have:=wS (K':=K) (c:=c) w h' (by rw[h2];exact h) (dv _ _ _)
 rwa[h2]at this
def QQ{K:List ByteArray}{v:Vm}{c c':List UInt8}(w:ByteArray→List UInt8→Nat)(h:pN K v)(h':pN K' (eK v k (some c')))(hk:v k=some c):rC w K' (eK v k (some c'))+w k c=rC w K v+w k c':=by
 have hd:=h.del k
 have h1:=QR w h hd hk
 have h2:eK (eK v k none) k (some c')=eK v k (some c'):=DJ ..
 have h3:=wS (K':=K') (c:=c') w hd (by rw[h2];exact h') (dv _ _ _)
 rw[h2]at h3
 omega
def M0{K:List ByteArray}{v:Vm}(w1 w2:ByteArray→List UInt8→Nat)(h:∀n∈K,w1 n ((v n).getD [])≤w2 n ((v n).getD [])):rC w1 K v≤rC w2 K v:=by
 unfold rC
 revert h
 induction K with
 | nil=>intro _;exact Nat.le_refl _
 | cons x l ih =>
  intro h
  have h1:=h x (List.mem_cons_self ..)
  have h2:=ih fun n hn=>h n (List.mem_cons_of_mem _ hn)
  simp only[List.map_cons,List.sum_cons]
  omega
def MZ{K:List ByteArray}{v:Vm}(w1 w2:ByteArray→List UInt8→Nat):rC (fun n c=>w1 n c+w2 n c) K v=rC w1 K v+rC w2 K v:=by
 unfold rC
 induction K with
 | nil=>rfl
 | cons x l ih =>
  simp only[List.map_cons,List.sum_cons]
  simp only at ih
  omega
def BQ(K:List ByteArray)(v:Vm)(m:Nat):rC (fun _ _=>m) K v=K.length*m:=by
 unfold rC
 induction K with
 | nil=>simp
 | cons x l ih =>
  simp only[List.map_cons,List.sum_cons,List.length_cons,Nat.add_mul,Nat.one_mul]at ih ⊢
  omega
def mem_keys(h:HA A)(n:ByteArray):n∈eg A↔(vw A n).isSome=true:=by
 unfold eg vw
 constructor
 ·intro hn
  obtain⟨x,hx,rfl⟩:=List.mem_map.1 hn
  rw[fp h.keys hx]
  rfl
 ·intro hn
  cases hl:A.look n with
  | none=>rw[hl]at hn;cases hn
  | some f=>exact List.mem_map.2 ⟨_,gJ hl,rfl⟩
def HA.BS(h:HA A):pN (eg A) (vw A):=⟨h.keys,mem_keys h⟩
def Es(_:ByteArray)(c:List UInt8):Nat:=c.length
def rD(k:ByteArray)(c:List UInt8):Nat:=if(jJ kB k).isSome then c.length else 0
def NX(h:HA A){x:ByteArray × Nat}(hx:x∈A.names):A.now x.2=(vw A x.1).getD []:=by
 unfold vw
 rw[fp h.keys hx]
 rfl
def jO(h:HA A):A.used=rC Es (eg A) (vw A):=by
 unfold Ab.used rC eg Es
 rw[List.map_map]
 exact congrArg List.sum (List.map_congr_left fun x hx=>by simp only[Function.comp];rw[NX h hx])
def AB(h:HA A):rM A=rC rD (eg A) (vw A):=by
 unfold rM rC eg rD
 rw[List.map_map]
 exact congrArg List.sum (List.map_congr_left fun x hx=>by simp only[Function.comp];rw[NX h hx])
def nR(A:Ab):(eg A).length=A.names.length:=by unfold eg;rw[List.length_map]
def I3(A:Ab):A.names.length=rC (fun _ _=>1) (eg A) (vw A):=by rw[BQ,nR];omega
def fI(d:Dg):ByteArray:=df kI d
def fN(d:Dg):ByteArray:=df kN d
def oF(d:Dg):ByteArray:=df kB d
def iu(d:Dg):ByteArray:=df kS d
def Ey{j k:List UInt8}(hl:j.length=k.length)(Be:j≠k)(a b:Dg):df j a≠df k b:=fun h=>Be (zc hl h)
def HA.JE(h:HA A)(hv:vw A nm=none)(hl:A.names.length<200)(hf:f ∉ A.fs.map (·.1))(hB:(e,B)=A.create true nm f) :
  e=0∧HA B∧vw B=eK (vw A) nm (some [])∧B.room=A.room :=
 let ⟨h1,h2,h3,_,h5⟩:=h.create hv hl hf hB;⟨h1,h2,funext h3,h5⟩
def HA.uM(h:HA A){c:List UInt8}(hv:vw A nm=some c)(at_:Nat)(b:List UInt8)(hr:A.used+(at_+b.length)≤A.room)(hB:(e,B)=A.write true nm at_ b) :
  e=0∧HA B∧vw B=eK (vw A) nm (some (bK c at_ b))∧B.room=A.room :=
 let ⟨h1,h2,h3,_,h5⟩:=h.write hv at_ b hr hB;⟨h1,h2,funext h3,h5⟩
def HA.xP(h:HA A){c:List UInt8}(hv:vw A nm=some c)(hB:(e,B)=A.sync true nm) :
  e=0∧HA B∧vw B=vw A∧B.room=A.room :=
 let ⟨h1,h2,h3,_,h5⟩:=h.sync hv hB;⟨h1,h2,funext h3,h5⟩
def HA.xQ(h:HA A)(hB:(e,B)=A.cu):e=0∧HA B∧vw B=vw A∧B.room=A.room :=
 let ⟨h1,h2,h3,_,h5⟩:=h.cu hB;⟨h1,h2,funext h3,h5⟩
def HA.IN(h:HA A){o n:ByteArray}{c:List UInt8}(bY:o≠n)(hv:vw A o=some c)(Jb:vw A n=none)(hB:(e,B)=A.rename true o n) :
  e=0∧HA B∧vw B=eK (eK (vw A) o none) n (some c)∧B.room=A.room :=
 let ⟨h1,h2,h3,h4,_⟩:=h.rename bY hv Jb hB;⟨h1,h2,funext h3,h4⟩
def HA.pR(h:HA A)(h':HA B){c:List UInt8}(hk:vw A k=none)(hv:vw B=eK (vw A) k (some c)):B.used=A.used+c.length∧B.names.length=A.names.length+1:=by
 have hs:=h'.BS
 rw[hv]at hs
 have h1:=wS Es h.BS hs hk
 have h2:=wS (fun _ _=>1) h.BS hs hk
 rw[jO h,jO h',hv,I3 A,I3 B,hv]
 have h3:Es k c=c.length:=rfl
 omega
def HA.qg(h:HA A)(h':HA B)(hv:∀n,(vw B n).isSome=(vw A n).isSome):B.names.length=A.names.length:=by
 rw[← nR,← nR]
 exact((List.perm_ext_iff_of_nodup h'.keys h.keys).2 fun n=>(mem_keys h' n).trans ((by rw[hv n]):_↔_) |>.trans (mem_keys h n).symm).length_eq
def Py{l:List (Dg × Bl)}{y:Bl}(h:gN l d=some y):(d,y)∈l:=by
 unfold gN at h
 cases hx:l.find? (fun x=>decide (x.1=d))with
 | none=>rw[hx]at h;cases h
 | some x =>
  rw[hx]at h
  injection h with h
  have h1:=List.mem_of_find?_eq_some hx
  have h2:x.1=d:=by simpa using List.find?_some hx
  rw[← h2,← h]
  exact h1
def LJ(l:List (Dg × Bl))(d d':Dg):gN (oe l d) d'=if d'=d then none else gN l d':=by
 unfold gN oe
 rw[List.find?_filter]
 by_cases h:d'=d
 ·subst h
  rw[if_pos rfl,List.find?_eq_none.2 (fun x _=>by simp)]
  rfl
 ·rw[if_neg h]
  have:(fun a:Dg × Bl=>decide ((!decide (a.1=d))=true∧decide (a.1=d')=true))=fun a=>decide (a.1=d'):=by
   funext a
   by_cases ha:a.1=d'
   ·simp[ha,h]
   ·simp[ha]
  rw[this]
def Fs(l:List (Dg × Bl))(x:Bl)(d:Dg)(h:gN l x.d=none):gN (l++[(x.d,x)]) d=if d=x.d then some x else gN l d:=by
 unfold gN at h ⊢
 rw[List.find?_append]
 by_cases hd:d=x.d
 ·subst hd
  rw[if_pos rfl]
  cases hx:l.find? (fun z=>decide (z.1=x.d))with
  | none=>simp
  | some z=>rw[hx]at h;cases h
 ·rw[if_neg hd]
  have:¬x.d=d:=fun e=>hd e.symm
  cases hx:l.find? (fun z=>decide (z.1=d)) <;> simp[this]
def Sn{l:List (Dg × Bl)}(h:gN l d=none):d ∉ l.map (·.1):=fun hm=>by
 obtain⟨x,hx,rfl⟩:=List.mem_map.1 hm
 unfold gN at h
 cases hf:l.find? (fun z=>decide (z.1=x.1))with
 | none=>have:=List.find?_eq_none.1 hf x hx;simp at this
 | some z=>rw[hf]at h;cases h
def Pm{l:List (Dg × Bl)}{x:Dg × Bl}(h:x∈oe l d):x∈l:=(List.mem_filter.1 h).1
def db:ByteArray:=strOf [112,105,101,99,101,115]
def gU(k:List UInt8)(d:Dg):df k d≠db:=fun h=>by
 have h1:=congrArg (fun s:ByteArray=>s.data.toList.length) h
 simp only[df,db,strOf,List.length_append,jD]at h1
 simp at h1
def wE(k:ByteArray):Nat:=if k=db then 100000 else 0
def TO:∀(K:List ByteArray),K.Nodup→(K.map wE).sum≤100000:=by
 intro K
 induction K with
 | nil=>intro _;exact Nat.zero_le _
 | cons k K ih =>
  intro hK
  rw[List.nodup_cons]at hK
  rw[List.map_cons,List.sum_cons]
  by_cases hk:k=db
  ·have h0:K.map wE=K.map fun _=>0:=List.map_congr_left fun x hx=>by
    unfold wE
    rw[if_neg (fun e=>hK.1 (by rw[hk,← e];exact hx))]
   have h1:(K.map fun _:ByteArray=>0).sum=0:=by
    clear ih hK h0
    induction K with
    | nil=>rfl
    | cons y K ih=>simpa using ih
   rw[h0,h1]
   unfold wE
   rw[if_pos hk]
   omega
  ·have:=ih hK.2
   unfold wE at this ⊢
   rw[if_neg hk]
   omega
def CB{a b:Dg}(h:iu a=iu b):a=b:=Br h
def Jt{a b:Dg}(h:oF a=oF b):a=b:=Br h
def jA(a b:Dg):iu a≠oF b:=Ey (by rfl) (by decide) a b
def Lz(a b:Dg):iu a≠fI b:=Ey (by rfl) (by decide) a b
def Ly(a b:Dg):iu a≠fN b:=Ey (by rfl) (by decide) a b
def LB(a b:Dg):oF a≠fI b:=Ey (by rfl) (by decide) a b
def LA(a b:Dg):oF a≠fN b:=Ey (by rfl) (by decide) a b
def sA{kind:List UInt8}{right:Ab→Dg→Bool}(l:List ByteArray)(h:∀nm∈l,∀d,jJ kind nm=some d→right A d=true)(hs:mF kind right l A e B):e=0∧B=A:=by
 induction l with
 | nil=>exact hs
 | cons nm l ih =>
  have Hh:=ih fun n hn=>h n (List.mem_cons_of_mem _ hn)
  unfold mF at hs
  cases hh:jJ kind nm with
  | none=>rw[hh]at hs;exact Hh hs
  | some d =>
   rw[hh]at hs
   simp only at hs
   rw[if_pos (h nm (List.mem_cons_self ..) d hh)]at hs
   exact Hh hs
def yq(h:HA A)(n:ByteArray):n∈fY A↔(vw A n).isSome=true:=by
 rw[(vQ A).mem_iff]
 exact mem_keys h n
def KP{s:fe}{x:Bl}(hb:s.brk=false):jh s x=if gN s.bt x.d=some x then 0 else 4:=by
 unfold jh tI
 rw[if_neg (by rw[hb];simp)]
 by_cases h:gN s.bt x.d=some x <;> simp[h]
def ab8(x:Bl):fS x=iu x.d:=rfl
def Gk{x:Bl}{b:List UInt8}(h:dX x b=true):x.size=b.length∧dK b=x.d:=by
 unfold dX eu cM at h
 simp only[decide_eq_true_eq]at h
 split at h
 ·simp only[Option.map_some,Option.some.injEq]at h
  rw[← h]
  exact⟨rfl,rfl⟩
 ·cases h
def kP{fs:List (Nat × List UInt8 × List UInt8)}(u:Nat × List UInt8 × List UInt8→Nat × List UInt8 × List UInt8)(hu:∀x,(u x).1=x.1)(f:Nat) :
  (fs.map u).find? (fun x=>decide (x.1=f))=(fs.find? (fun x=>decide (x.1=f))).map u:=by
 induction fs with
 | nil=>rfl
 | cons x l ih =>
  simp only[List.map_cons,List.find?_cons,hu]
  by_cases h:x.1=f
  ·simp[h]
  ·simp[h,ih]
def y8{fs:List (Nat × List UInt8 × List UInt8)}(h:f∈fs.map (·.1)):∃x,fs.find? (fun x=>decide (x.1=f))=some x∧x.1=f:=by
 obtain⟨y,hy,hyf⟩:=List.mem_map.1 h
 cases hx:fs.find? (fun x=>decide (x.1=f))with
 | none=>exact absurd hyf (by simpa using List.find?_eq_none.1 hx y hy)
 | some x=>exact⟨x,rfl,by simpa using List.find?_some hx⟩
def Fa(A:Ab)(u:Nat × List UInt8 × List UInt8→Nat × List UInt8 × List UInt8)(hu:∀x,(u x).1=x.1)(h:f∈A.fs.map (·.1)):({ A with fs:=A.fs.map u }:Ab).file f=(u (f,A.file f)).2:=by
 obtain⟨x,hx,hxf⟩:=y8 h
 simp only[Ab.file]
 rw[kP u hu,hx]
 obtain⟨a,b⟩:=x
 simp only at hxf
 subst hxf
 rfl
def xd(fs:List (Nat × List UInt8 × List UInt8))(u:Nat × List UInt8 × List UInt8→Nat × List UInt8 × List UInt8)(hu:∀x,(u x).1=x.1):(fs.map u).map (·.1)=fs.map (·.1):=by
 rw[List.map_map]
 exact List.map_congr_left fun x _=>hu x
def BO(fs:List (Nat × List UInt8 × List UInt8))(k f:Nat)(s:List UInt8)(h:k≠f):(Ab.tp fs k s).find? (fun x=>decide (x.1=f))=fs.find? (fun x=>decide (x.1=f)):=by
 unfold Ab.tp
 rw[kP _ (fun x=>by split <;> rfl)]
 cases hx:fs.find? (fun x=>decide (x.1=f))with
 | none=>rfl
 | some x =>
  have:x.1=f:=by simpa using List.find?_some hx
  have bY:¬x.1=k:=by rw[this];exact fun e=>h e.symm
  simp[bY]
def sK(stay:List UInt8)(dN cut:Int)(f:Nat):∀(ws:List (Nat × Nat × List UInt8)) (i:Nat) (fs:List (Nat × List UInt8 × List UInt8)),(∀w∈ws,w.1≠f) →
  (Ab.jG stay dN cut i ws fs).find? (fun x=>decide (x.1=f))=fs.find? (fun x=>decide (x.1=f))
 | [],i,fs,_=>rfl
 | w::ws,i,fs,h=>by
  unfold Ab.jG
  split
  ·exact sK stay dN cut f ws (i+1) fs (fun v hv=>h v (List.mem_cons_of_mem _ hv))
  ·rw[sK stay dN cut f ws (i+1) _ (fun v hv=>h v (List.mem_cons_of_mem _ hv)),BO _ _ _ _ (h w (List.mem_cons_self ..))]
def tO(stay:List UInt8)(dN cut:Int):∀(ws:List (Nat × Nat × List UInt8)) (i:Nat) (fs:List (Nat × List UInt8 × List UInt8)),(Ab.jG stay dN cut i ws fs).map (·.1)=fs.map (·.1)
 | [],i,fs=>rfl
 | w::ws,i,fs=>by
  unfold Ab.jG
  split
  ·exact tO stay dN cut ws (i+1) fs
  ·rw[tO stay dN cut ws (i+1) _]
   unfold Ab.tp
   exact xd _ _ (fun x=>by split <;> rfl)
structure Mm(A B:Ab):Prop where
 names:B.names=A.names
 aw:B.aw=A.aw
 fs:B.fs=A.fs
 writes:B.writes=A.writes
 room:B.room=A.room
def Mm.refl(A:Ab):Mm A A:=⟨rfl,rfl,rfl,rfl,rfl⟩
def yr(A:Ab)(ok:Bool):Mm A (A.meet ok).2:=by
 unfold Ab.meet
 split
 ·exact Mm.refl A
 split
 ·exact Mm.refl A
 split
 ·exact Mm.refl A
 split
 ·exact⟨rfl,rfl,rfl,rfl,rfl⟩
 split <;> exact⟨rfl,rfl,rfl,rfl,rfl⟩
def tX(A:Ab)(nm:ByteArray)(ok:Bool):Mm A (A.find nm ok).2.2∧((A.find nm ok).1=0→∃f,A.look nm=some f∧(A.find nm ok).2.1=some f):=by
 have hm:=yr A ok
 unfold Ab.find
 split
 ·have hl:(A.meet ok).2.look nm=A.look nm:=by unfold Ab.look;rw[hm.names]
  rw[hl]
  cases A.look nm with
  | none=>exact⟨hm,fun h=>absurd h (by simp)⟩
  | some f=>exact⟨hm,fun _=>⟨f,rfl,rfl⟩⟩
 ·rename_i h
  exact⟨hm,fun h2=>absurd h2 h⟩
def Ri{ok:Bool}(h:(A.meet ok).1=0):(A.meet ok).2.off=false∧A.off=false:=by
 unfold Ab.meet at h ⊢
 by_cases h1:ok=false
 ·rw[if_pos h1]at h;cases h
 rw[if_neg h1]at h ⊢
 by_cases h2:A.off=true
 ·rw[if_pos h2]at h;cases h
 rw[if_neg h2]at h ⊢
 have h2':A.off=false:=by simpa using h2
 cases hp:A.er with
 | nil=>exact⟨h2',h2'⟩
 | cons x p =>
  rw[hp]at h
  simp only at h ⊢
  split
  ·rename_i hx;rw[if_pos hx]at h;cases h
  ·rename_i hx
   rw[if_neg hx]at h
   split
   ·rename_i hy;rw[if_pos hy]at h;cases h
   ·exact⟨h2',h2'⟩
def R7{ok:Bool}(h:(A.find nm ok).1=0):(A.find nm ok).2.2.off=false:=by
 unfold Ab.find at h ⊢
 split
 ·rename_i h0
  split <;> exact(Ri h0).1
 ·rename_i h0
  rw[if_neg h0]at h
  exact absurd h h0
def CD(h:iF nm A e B):(e≠0∧Mm A B)∨(e=0∧A.look nm=none∧∃f,f ∉ A.fs.map (·.1)∧B.names=A.names++[(nm,f)]∧B.aw=A.aw++[A.names++[(nm,f)]]∧B.fs=(f,[],[])::A.fs∧B.writes=A.writes):=by
 obtain⟨f,hf,hc⟩:=h
 have hm:=yr A (isName nm)
 unfold Ab.create at hc
 have hl:(A.meet (isName nm)).2.look nm=A.look nm:=by unfold Ab.look;rw[hm.names]
 split at hc
 ·split at hc
  ·injection hc with h1 h2;subst h1 h2;exact .inl ⟨ag,hm⟩
  split at hc
  ·injection hc with h1 h2;subst h1 h2;exact .inl ⟨ag,hm⟩
  ·rename_i h1 h2 h3
   injection hc with h4 h5
   subst h4 h5
   refine .inr ⟨rfl,?_,f,hf,by simp[Ab.ng,hm.names],by simp[Ab.ng,hm.names,hm.aw],by simp[hm.fs],hm.writes⟩
   rw[hl]at h2
   cases hx:A.look nm with
   | none=>rfl
   | some g=>rw[hx]at h2;exact absurd rfl h2
 ·rename_i h1
  injection hc with h2 h3;subst h2 h3;exact .inl ⟨h1,hm⟩
def B5(h:jg nm A e B):(e≠0∧Mm A B)∨(e=0∧(∃f,A.look nm=some f)∧B.names=Ab.dI A.names nm∧B.aw=A.aw++[Ab.dI A.names nm]∧B.fs=A.fs∧B.writes=A.writes∧B.off=false):=by
 have hf:=tX A nm (isName nm)
 have hon := @R7 A nm (isName nm)
 unfold jg Ab.remove at h
 generalize hx:A.find nm (isName nm)=r at h hf hon
 obtain⟨e1,o,A1⟩:=r
 obtain⟨hq,hs⟩:=hf
 simp only at hq hs h hon
 by_cases h0:e1=0
 ·subst h0
  obtain⟨f,h1,rfl⟩:=hs rfl
  simp only at h
  injection h with h2 h3
  subst h2 h3
  exact .inr ⟨rfl,⟨f,h1⟩,by simp[Ab.ng,hq.names],by simp[Ab.ng,hq.names,hq.aw],hq.fs,hq.writes,hon rfl⟩
 ·have:(e,B)=(e1,A1):=by
   cases e1 with
   | zero=>exact absurd rfl h0
   | succ n=>exact h
  injection this with h2 h3
  subst h2 h3
  exact .inl ⟨h0,hq⟩
def B4{o:ByteArray}(h:kV o nm A e B):(e≠0∧Mm A B)∨(e=0∧∃f,A.look o=some f∧B.names=Ab.jQ (Ab.dI A.names o) nm f∧B.aw=A.aw++[Ab.jQ (Ab.dI A.names o) nm f]∧B.fs=A.fs∧B.writes=A.writes):=by
 have hf:=tX A o ([o,nm].all isName)
 unfold kV Ab.rename at h
 generalize hx:A.find o ([o,nm].all isName)=r at h hf
 obtain⟨e1,oo,A1⟩:=r
 obtain⟨hq,hs⟩:=hf
 simp only at hq hs h
 by_cases h0:e1=0
 ·subst h0
  obtain⟨f,h1,rfl⟩:=hs rfl
  simp only at h
  injection h with h2 h3
  subst h2 h3
  exact .inr ⟨rfl,f,h1,by simp[Ab.ng,hq.names],by simp[Ab.ng,hq.names,hq.aw],hq.fs,hq.writes⟩
 ·have:(e,B)=(e1,A1):=by
   cases e1 with
   | zero=>exact absurd rfl h0
   | succ n=>exact h
  injection this with h2 h3
  subst h2 h3
  exact .inl ⟨h0,hq⟩
def vE{at_:Nat}{b:List UInt8}(h:fM nm at_ b A e B):(e≠0∧Mm A B)∨(e=0∧∃f,A.look nm=some f∧B.names=A.names∧B.aw=A.aw∧B.fs=Ab.BP A.fs f (bK (A.now f) at_ b)∧B.writes=A.writes++[(f,at_,b)]):=by
 have hf:=tX A nm (fZ nm at_ b)
 unfold fM Ab.write at h
 generalize hx:A.find nm (fZ nm at_ b)=r at h hf
 obtain⟨e1,oo,A1⟩:=r
 obtain⟨hq,hs⟩:=hf
 simp only at hq hs h
 by_cases h0:e1=0
 ·subst h0
  obtain⟨f,h1,rfl⟩:=hs rfl
  rw[if_pos rfl]at h
  simp only at h
  split at h
  ·injection h with h2 h3
   subst h2 h3
   exact .inl ⟨ag,hq⟩
  ·injection h with h2 h3
   subst h2 h3
   have hn:A1.now f=A.now f:=by unfold Ab.now Ab.file;rw[hq.fs]
   exact .inr ⟨rfl,f,h1,hq.names,hq.aw,by simp only;rw[hq.fs,hn],by simp only;rw[hq.writes]⟩
 ·rw[if_neg h0]at h
  injection h with h2 h3
  subst h2 h3
  exact .inl ⟨h0,hq⟩
def xO(h:fg nm A e B):(e≠0∧Mm A B)∨(e=0∧∃f,A.look nm=some f∧B.names=A.names∧B.aw=A.aw∧B.fs=Ab.nD A.fs f∧B.writes=A.writes.filter fun x => !decide (x.1=f)):=by
 have hf:=tX A nm (isName nm)
 unfold fg Ab.sync at h
 generalize hx:A.find nm (isName nm)=r at h hf
 obtain⟨e1,oo,A1⟩:=r
 obtain⟨hq,hs⟩:=hf
 simp only at hq hs h
 by_cases h0:e1=0
 ·subst h0
  obtain⟨f,h1,rfl⟩:=hs rfl
  rw[if_pos rfl]at h
  simp only at h
  injection h with h2 h3
  subst h2 h3
  exact .inr ⟨rfl,f,h1,hq.names,hq.aw,by simp only;rw[hq.fs],by simp only;rw[hq.writes]⟩
 ·rw[if_neg h0]at h
  injection h with h2 h3
  subst h2 h3
  exact .inl ⟨h0,hq⟩
def wx(h:dO A e B):(e≠0∧Mm A B)∨(e=0∧B.names=A.names∧B.aw=[A.names]∧B.fs=A.fs∧B.writes=A.writes):=by
 have hm:=yr A true
 unfold dO Ab.cu at h
 split at h
 ·injection h with h1 h2
  subst h1 h2
  exact .inr ⟨rfl,hm.names,by simp[hm.names],hm.fs,hm.writes⟩
 ·rename_i h0
  injection h with h1 h2
  subst h1 h2
  exact .inl ⟨h0,hm⟩
abbrev Nms:=List (ByteArray × Nat)
def Ha(l:Nms)(k nm:ByteArray)(f:Nat):Ab.cP (l++[(k,f)]) nm=(Ab.cP l nm).or (if nm=k then some f else none):=by
 unfold Ab.cP
 rw[List.find?_append]
 cases hx:l.find? (fun x=>decide (x.1=nm))with
 | some x=>simp
 | none =>
  by_cases h:nm=k
  ·simp[h]
  ·have:¬k=nm:=fun e=>h e.symm
   simp[h,this]
def tZ(h:B.fs=A.fs)(f:Nat):B.file f=A.file f:=by unfold Ab.file;rw[h]
def Pf(h:B.fs=(f,[],[])::A.fs)(g:Nat):B.file g=if f=g then([],[])else A.file g:=by
 unfold Ab.file
 rw[h,List.find?_cons]
 by_cases he:f=g <;> simp[he]
def za{c:List UInt8}(h:B.fs=Ab.BP A.fs f c){g:Nat}(hg:g∈A.fs.map (·.1)):B.file g=if g=f then(c,(A.file g).2)else A.file g:=by
 have h1:B.file g=({ A with fs:=A.fs.map fun x=>if x.1=f then(x.1,c,x.2.2)else x }:Ab).file g:=tZ h g
 rw[h1,Fa A (fun x=>if x.1=f then(x.1,c,x.2.2)else x) (fun x=>by split <;> rfl) hg]
 by_cases he:g=f <;> simp[he]
def vh(h:B.fs=Ab.nD A.fs f){g:Nat}(hg:g∈A.fs.map (·.1)):B.file g=if g=f then((A.file g).1,(A.file g).1)else A.file g:=by
 have h1:B.file g=({ A with fs:=A.fs.map fun x=>if x.1=f then(x.1,x.2.1,x.2.1)else x }:Ab).file g:=tZ h g
 rw[h1,Fa A (fun x=>if x.1=f then(x.1,x.2.1,x.2.1)else x) (fun x=>by split <;> rfl) hg]
 by_cases he:g=f <;> simp[he]
def Rq(h:B.fs=(f,[],[])::A.fs):B.fs.map (·.1)=f::A.fs.map (·.1):=by rw[h];rfl
def I9{c:List UInt8}(h:B.fs=Ab.BP A.fs f c):B.fs.map (·.1)=A.fs.map (·.1):=by rw[h];exact xd _ _ (fun x=>by split <;> rfl)
def EA(h:B.fs=Ab.nD A.fs f):B.fs.map (·.1)=A.fs.map (·.1):=by rw[h];exact xd _ _ (fun x=>by split <;> rfl)
def Cl(A:Ab)(f:Nat):Prop:=(A.file f).2=(A.file f).1∧∀w∈A.writes,w.1≠f
def HT(last:Int)(stay:List UInt8)(dN cut:Int)(hf:f∈A.fs.map (·.1))(hr:f∈Ab.reach (A.aw++[(A.du last stay dN cut).names])):(A.du last stay dN cut).file f=(((A.du last stay dN cut).file f).1,((A.du last stay dN cut).file f).1)∧(Cl A f→(A.du last stay dN cut).file f=A.file f):=by
 have EL:=tO stay dN cut A.writes 0 A.fs
 have fz:f∈(Ab.jG stay dN cut 0 A.writes A.fs).map (·.1):=by rw[EL];exact hf
 obtain⟨x,hx,hxf⟩:=y8 fz
 have mi:(A.du last stay dN cut).file f=(x.2.2,x.2.2):=by
  have Hm:=hr
  simp only[Ab.du]at Hm ⊢
  unfold Ab.file
  simp only
  rw[kP _ (fun x=>by split <;> rfl),hx]
  simp only[Option.map_some,Option.getD_some]
  rw[if_pos (by rw[hxf];exact Hm)]
 refine⟨by rw[mi],fun hc=>?_⟩
 have hl:=sK stay dN cut f A.writes 0 A.fs hc.2
 have hA:A.file f=x.2:=by
  unfold Ab.file
  rw[← hl,hx]
  rfl
 have h2:=hc.1
 rw[hA]at h2
 rw[mi,hA]
 exact Prod.ext h2 rfl
end Go.Proofs.YtedjnjkijiddlaaGreatDoor
namespace Go.SL
open Go
abbrev jj:=BitVec 64
def MY(x:jj):Value := .int .u64 (x.toNat:Int)
def qV(l:List jj):List Value:=l.map MY
def GR(l:List jj):(qV l).length=l.length:=by simp[qV]
def B8{l:List jj}{i:Nat}{x:jj}(h:l[i]?=some x):(qV l)[i]?=some (MY x):=by simp[qV,h]
def Nx(l:List jj)(i:Nat)(x:jj):(qV l).set i (MY x)=qV (l.set i x):=by simp[qV]
def BL(n:Nat):IntKind.u64.wrap (n:Int)=((n%18446744073709551616:Nat):Int):=by
 simp[IntKind.wrap,IntKind.bits,IntKind.signed]
def nO(p:jj):BitVec.ofInt IntKind.u64.bits ((p.toNat:Nat):Int)=p:=by
 apply BitVec.eq_of_toNat_eq
 have h:IntKind.u64.bits=64:=rfl
 rw[BitVec.toNat_ofInt]
 have:=p.isLt
 show(((p.toNat:Nat):Int)%((2 ^ 64:Nat):Int)).toNat=p.toNat
 omega
section
variable{P:Program}{U:Tr}[hU:fX P U]{f:FuncId}{n:Nat}{R:Ending→World→Prop}{G:cJ}{k:List Item}{L:fJ}{H H':List HP}{S:World→Prop}{all:Array Oper}{rest:Pl}{ty:TypeId}{pos:String}{af:Array Edge}{gd:Option (Nat × Bool)}{m:Bool}{d:Tmp}
def vz{t yt:TypeId}{x y:Operand}{p q:jj}(hd:Nat.blt d n=true)(hx:ev L x=some (.int .u64 (p.toNat:Int)))(hy:ev L y=some (.int .u64 (q.toNat:Int)))(h:J P f n R G S all rest k ((d,.int .u64 ((p+q).toNat:Int))::L) H):J P f n R G S all (.cons m true ⟨some d,.binOp .add t x y yt,ty,pos,af,gd⟩ rest) k L H:=by
 refine Qc hd hx hy ?_
 have e:IntKind.u64.wrap ((p.toNat:Int)+(q.toNat:Int))=((p+q).toNat:Int):=by
  rw[← Int.natCast_add,BL,BitVec.toNat_add]
 rw[e];exact h
def mV(p:jj):IntKind.u64.wrap (p.toNat:Int)=(p.toNat:Int):=by
 rw[BL];have:=p.isLt;congr 1;omega
def qI{t yt:TypeId}{x y:Operand}{p:jj}{j':IntKind}{q:Int}(s:Nat)(hd:Nat.blt d n=true)(hx:ev L x=some (.int .u64 (p.toNat:Int)))(hy:ev L y=some (.int j' q))(hq:q=(s:Int))(hs:s≤64)(h:J P f n R G S all rest k ((d,.int .u64 ((p >>> s).toNat:Int))::L) H):J P f n R G S all (.cons m true ⟨some d,.binOp .shr t x y yt,ty,pos,af,gd⟩ rest) k L H:=by
 subst hq
 refine jl hd hx hy ag ?_
 have e:(p.toNat:Int)/2 ^ (min ((s:Int).toNat) IntKind.u64.bits)=((p >>> s).toNat:Int):=by
  rw[BitVec.toNat_ushiftRight,Nat.shiftRight_eq_div_pow,Int.toNat_natCast,show min s IntKind.u64.bits=s from by show min s 64=s;omega]
  simp
 rw[e];exact h
def YO{t yt:TypeId}{x y:Operand}{p:jj}{j':IntKind}{q:Int}(s:Nat)(hd:Nat.blt d n=true)(hx:ev L x=some (.int .u64 (p.toNat:Int)))(hy:ev L y=some (.int j' q))(hq:q=(s:Int))(hs:s≤64)(h:J P f n R G S all rest k ((d,.int .u64 ((p <<< s).toNat:Int))::L) H):J P f n R G S all (.cons m true ⟨some d,.binOp .shl t x y yt,ty,pos,af,gd⟩ rest) k L H:=by
 subst hq
 refine nB hd hx hy ag ?_
 have e:IntKind.u64.wrap ((p.toNat:Int)*2 ^ (min ((s:Int).toNat) IntKind.u64.bits))=((p <<< s).toNat:Int):=by
  rw[BitVec.toNat_shiftLeft,Nat.shiftLeft_eq,Int.toNat_natCast,show min s IntKind.u64.bits=s from by show min s 64=s;omega]
  rw[show(p.toNat:Int)*2 ^ s=((p.toNat*2 ^ s:Nat):Int)from by simp,BL]
 rw[e];exact h
end
end Go.SL
namespace Go.Proofs.YtedjnjkijiddlaaGreatDoor
open Go Go.SL
variable{i n:Nat}
def dt(n i:Nat):Option Nat:=if i%2=1 then some (i-1)else if i+1<n then some (i+1)else none
def eP:Nat→Nat→Nat→Nat
 | 0,_,_=>0
 | f+1,n,i=>if n≤1 then 0 else(if(dt n i).isSome then 1 else 0)+eP f ((n+1)/2) (i/2)
def dx(n i:Int):Nat:=if 1≤n∧n≤1024∧0≤i∧i<n then eP n.toNat n.toNat i.toNat else 0
def cT:Nat→List Dg→Nat→List Dg
 | 0,_,_=>[]
 | f+1,l,i=>if l.length≤1 then []else((dt l.length i).bind fun s=>l[s]?).toList++cT f (bF l) (i/2)
def fk:Nat→Nat→Nat→Dg→List Dg→Dg
 | 0,_,_,x,_=>x
 | f+1,n,i,x,p=>if n≤1 then x else match dt n i with
  | none=>fk f ((n+1)/2) (i/2) x p
  | some s=>fk f ((n+1)/2) (i/2) (if s<i then e8 (p.headD Dg.zero) x else e8 x (p.headD Dg.zero)) p.tail
def gb(root:Dg)(n i:Int)(x:Dg)(p:List Dg):Bool:=decide ((1≤n∧n≤1024∧0≤i∧i<n)∧p.length=dx n i∧fk n.toNat n.toNat i.toNat x p=root)
def cd(x:Bl)(i:Int)(b:List UInt8)(p:List Dg):Bool:=match cC x i with
 | none=>false
 | some (_,m)=>decide ((b.length:Int)=m) && gb x.root (bO x) i (cQ b) p
def v8:∀(f g n i:Nat),n≤f→n≤g→eP f n i=eP g n i
 | 0,0,_,_,_,_=>rfl
 | 0,g+1,n,i,hf,_=>by
  obtain rfl:n=0:=by omega
  rfl
 | f+1,0,n,i,_,hg=>by
  obtain rfl:n=0:=by omega
  rfl
 | f+1,g+1,n,i,hf,hg=>by
  unfold eP
  split
  ·rfl
  ·rw[v8 f g ((n+1)/2) (i/2) ag ag]
def v7(f n i:Nat)(hf:n≤f)(hn:1<n):eP f n i=(if(dt n i).isSome then 1 else 0)+eP f ((n+1)/2) (i/2):=by
 rw[v8 f (f+1) n i hf ag]
 conv=>lhs;unfold eP
 rw[if_neg ag]
def HQ(f n i:Nat)(hn:n≤1):eP f n i=0:=by
 cases f with
 | zero=>rfl
 | succ f=>unfold eP;rw[if_pos hn]
def qz:∀(f g n i:Nat) (x:Dg) (p:List Dg),n≤f→n≤g→fk f n i x p=fk g n i x p
 | 0,0,_,_,_,_,_,_=>rfl
 | 0,g+1,n,i,x,p,hf,_=>by
  obtain rfl:n=0:=by omega
  rfl
 | f+1,0,n,i,x,p,_,hg=>by
  obtain rfl:n=0:=by omega
  rfl
 | f+1,g+1,n,i,x,p,hf,hg=>by
  unfold fk
  split
  ·rfl
  ·split
   ·exact qz f g _ _ _ _ ag ag
   ·exact qz f g _ _ _ _ ag ag
def Fk(f n i:Nat)(x:Dg)(p:List Dg)(hf:n≤f)(hn:1<n):fk f n i x p=match dt n i with
  | none=>fk f ((n+1)/2) (i/2) x p
  | some s=>fk f ((n+1)/2) (i/2) (if s<i then e8 (p.headD Dg.zero) x else e8 x (p.headD Dg.zero)) p.tail:=by
 rw[qz f (f+1) n i x p hf ag]
 conv=>lhs;unfold fk
 rw[if_neg ag]
def HW(f n i:Nat)(x:Dg)(p:List Dg)(hn:n≤1):fk f n i x p=x:=by
 cases f with
 | zero=>rfl
 | succ f=>unfold fk;rw[if_pos hn]
def p9:∀(f g:Nat) (l:List Dg) (i:Nat),l.length≤f→l.length≤g→cT f l i=cT g l i
 | 0,0,_,_,_,_=>rfl
 | 0,g+1,l,i,hf,_=>by
  unfold cT
  rw[if_pos ag]
 | f+1,0,l,i,_,hg=>by
  unfold cT
  rw[if_pos ag]
 | f+1,g+1,l,i,hf,hg=>by
  unfold cT
  split
  ·rfl
  ·rw[p9 f g (bF l) (i/2) (by rw[cU];omega) (by rw[cU];omega)]
def D7(f:Nat)(l:List Dg)(i:Nat)(hf:l.length≤f)(hn:1<l.length):cT f l i=((dt l.length i).bind fun s=>l[s]?).toList++cT f (bF l) (i/2):=by
 rw[p9 f (f+1) l i hf ag]
 conv=>lhs;unfold cT
 rw[if_neg ag]
def GU(f:Nat)(l:List Dg)(i:Nat)(hn:l.length≤1):cT f l i=[]:=by
 cases f with
 | zero=>rfl
 | succ f=>unfold cT;rw[if_pos hn]
def wW{s:Nat}(hi:i<n)(h:dt n i=some s):s<n∧s/2=i/2∧s≠i:=by
 unfold dt at h
 split at h
 ·injection h with h;omega
 ·split at h
  ·injection h with h;omega
  ·cases h
def sG:∀(f:Nat) (l:List Dg) (i:Nat),i<l.length→(cT f l i).length=eP f l.length i
 | 0,_,_,_=>rfl
 | f+1,l,i,hi=>by
  unfold cT eP
  split
  ·rfl
  ·have ih:=sG f (bF l) (i/2) (by rw[cU];omega)
   rw[List.length_append,ih,cU]
   congr 1
   cases hs:dt l.length i with
   | none=>rfl
   | some s =>
    obtain⟨h1,_⟩:=wW hi hs
    simp[List.getElem?_eq_getElem h1]
def vm:∀(k f n i:Nat),n≤2 ^ k→eP f n i≤k
 | 0,f,n,i,h=>by rw[HQ f n i (by simpa using h)];exact Nat.le_refl _
 | k+1,0,n,i,h=>Nat.zero_le _
 | k+1,f+1,n,i,h=>by
  unfold eP
  split
  ·exact Nat.zero_le _
  ·have:=vm k f ((n+1)/2) (i/2) (by rw[Nat.pow_succ]at h;omega)
   split <;> omega
def od(n i:Int):dx n i≤10:=by
 unfold dx
 split
 ·rename_i h
  exact vm 10 _ _ _ ag
 ·exact Nat.zero_le _
def we:∀(f:Nat) (l:List Dg) (i:Nat) (x:Dg),l.length≤f→l[i]?=some x→fk f l.length i x (cT f l i)=((SM f l).head?).getD Dg.zero
 | 0,l,i,x,hf,hx=>by
  have:=(List.getElem?_eq_some_iff.1 hx).1
  omega
 | f+1,l,i,x,hf,hx=>by
  have hi:=(List.getElem?_eq_some_iff.1 hx).1
  by_cases hn:l.length≤1
  ·rw[HW _ _ _ _ _ hn]
   unfold SM
   rw[if_pos hn]
   match l,hi,hx with
   | [y],hi,hx =>
    have:i=0:=by simp at hi;omega
    subst this
    simpa using hx.symm
  ·unfold fk cT SM
   rw[if_neg hn,if_neg hn,if_neg hn]
   have O9:=cU l
   have m8:=pt l (i/2)
   have key:∀y,(bF l)[i/2]?=some y→fk f ((l.length+1)/2) (i/2) y (cT f (bF l) (i/2))=((SM f (bF l)).head?).getD Dg.zero:=fun y hy=>by
    have:=we f (bF l) (i/2) y ag hy
    rw[O9]at this
    exact this
   cases hs:dt l.length i with
   | none =>
    have h2:i%2=0∧¬i+1<l.length:=by
     unfold dt at hs
     split at hs
     ·cases hs
     ·split at hs
      ·cases hs
      ·exact⟨ag,by assumption⟩
    rw[show 2*(i/2)=i from by omega,hx,List.getElem?_eq_none (show l.length≤i+1 by omega)]at m8
    simp only[Option.bind_none,Option.toList_none,List.nil_append]
    exact key x m8
   | some s =>
    obtain⟨h1,h2,h3⟩:=wW hi hs
    have Ry:l[s]?=some l[s]:=List.getElem?_eq_getElem h1
    simp only[Option.bind_some,Ry,Option.toList_some,List.cons_append,List.nil_append,List.headD_cons,List.tail_cons]
    by_cases hsi:s<i
    ·rw[if_pos hsi]
     refine key _ ?_
     rw[m8,show 2*(i/2)=s from by omega,show s+1=i from by omega,Ry,hx]
    ·rw[if_neg hsi]
     refine key _ ?_
     rw[m8,show 2*(i/2)=i from by omega,show i+1=s from by omega,Ry,hx]
def CM{l:List Dg}{x:Dg}(hl:l.length≤1024)(hx:l[i]?=some x):gb (rO l) l.length i x (cT l.length l i)=true:=by
 have hi:=(List.getElem?_eq_some_iff.1 hx).1
 have bY:l≠[]:=fun e=>by rw[e]at hi;simp at hi
 unfold gb
 refine decide_eq_true ⟨ag,?_,?_⟩
 ·unfold dx
  rw[if_pos ag,sG _ _ _ hi]
  simp
 ·have:=we l.length l i x (Nat.le_refl _) hx
  simp only[Int.toNat_natCast]
  rw[this]
  unfold rO
  rw[if_neg bY]
def H7{κ:Type}[DecidableEq κ](es:List (κ × Value))(k d:κ)(v:Value):ew (nA es k v) d=if d=k then some v else ew es d:=by
 unfold nA
 by_cases hk:k∈es.map (·.1)
 ·rw[if_pos hk]
  unfold ew
  rw[List.find?_map]
  have hf:((fun x:κ × Value=>decide (x.1=d)) ∘ fun x:κ × Value=>if x.1=k then(k,v)else x)=fun x=>decide (x.1=d):=by
   funext x
   simp only[Function.comp]
   have he:(if x.1=k then(k,v)else x).1=x.1:=by
    split
    ·rename_i h;exact h.symm
    ·rfl
   exact decide_eq_decide.2 (by rw[he])
  rw[hf]
  by_cases hd:d=k
  ·subst hd
   rw[if_pos rfl]
   obtain⟨y,hy,Y0⟩:=List.mem_map.1 hk
   cases hx:es.find? (fun x=>decide (x.1=d))with
   | none=>have:=List.find?_eq_none.1 hx y hy;simp[Y0]at this
   | some x =>
    have:x.1=d:=by simpa using List.find?_some hx
    simp[this]
  ·rw[if_neg hd]
   cases hx:es.find? (fun x=>decide (x.1=d))with
   | none=>rfl
   | some x =>
    have:x.1=d:=by simpa using List.find?_some hx
    have bY:¬x.1=k:=fun e=>hd (this.symm.trans e)
    simp[bY]
 ·rw[if_neg hk]
  unfold ew
  rw[List.find?_append]
  by_cases hd:d=k
  ·subst hd
   rw[if_pos rfl]
   cases hx:es.find? (fun x=>decide (x.1=d))with
   | none=>simp
   | some x=>exact absurd (List.mem_map.2 ⟨x,List.mem_of_find?_eq_some hx,by simpa using List.find?_some hx⟩) hk
  ·rw[if_neg hd]
   have:¬k=d:=fun e=>hd e.symm
   cases hx:es.find? (fun x=>decide (x.1=d)) <;> simp[this]
def CP(k:Nat):jj:=(1#64) <<< k
def cy(ws:List jj)(n:Nat)(i:Int):Bool:=decide (0≤i∧i<n) && decide (((ws.getD (i.toNat/64) 0#64) >>> (i.toNat%64)) &&& 1#64=1#64)
def jR(ws:List jj)(i:Nat)(one:Bool):List jj:=ws.set (i/64) (if one then ws.getD (i/64) 0#64 ||| CP (i%64)else ws.getD (i/64) 0#64 &&& ~~~(CP (i%64)))
def iI(ws:List jj)(i:Nat)(one:Bool):(jR ws i one).length=ws.length:=by simp[jR]
def Sm(w:jj)(k:Nat):(w >>> k &&& 1#64=1#64)↔w.getLsbD k=true:=by
 constructor
 ·intro h
  have:=congrArg (fun x:jj=>x.getLsbD 0) h
  simpa using this
 ·intro h
  apply BitVec.eq_of_getLsbD_eq
  intro i hi
  by_cases h0:i=0
  ·subst h0;simpa using h
  ·have:(1#64).getLsbD i=false:=by
    rw[BitVec.getLsbD_one];simp[h0]
   simp[this]
def CO(k i:Nat)(hk:k<64)(hi:i<64):(CP k).getLsbD i=decide (i=k):=by
 unfold CP
 rw[BitVec.getLsbD_shiftLeft,BitVec.getLsbD_one]
 by_cases h:i=k
 ·subst h;simp[hi]
 ·by_cases h2:i<k
  ·simp[h2,h]
  ·have:¬i-k=0:=by omega
   simp[hi,h2,h,this]
def yV{ws:List jj}(hi:i<n):cy ws n (i:Int)=(ws.getD (i/64) 0#64).getLsbD (i%64):=by
 unfold cy
 rw[decide_eq_true (show 0≤(i:Int)∧(i:Int)<n by omega),Bool.true_and,Int.toNat_natCast,Bool.eq_iff_iff,decide_eq_true_iff]
 exact Sm _ _
def O8{ws:List jj}{j:Nat}{one:Bool}(hw:n≤ws.length*64)(hi:i<n)(hj:j<n):cy (jR ws i one) n (j:Int)=if j=i then one else cy ws n (j:Int):=by
 rw[yV hj,yV hj]
 unfold jR
 have lx:i/64<ws.length:=by omega
 by_cases h:j/64=i/64
 ·rw[h,List.getD_eq_getElem?_getD,List.getElem?_set_self lx,Option.getD_some]
  cases one with
  | true =>
   rw[if_pos rfl,BitVec.getLsbD_or,CO _ _ ag ag]
   by_cases Cp:j=i
   ·subst Cp;simp
   ·have:¬j%64=i%64:=by omega
    simp[Cp,this]
  | false =>
   rw[if_neg (by simp),BitVec.getLsbD_and,BitVec.getLsbD_not,CO _ _ ag ag]
   by_cases Cp:j=i
   ·subst Cp;simp
   ·have:¬j%64=i%64:=by omega
    have HD:j%64<64:=by omega
    simp[Cp,this,HD]
 ·have Cp:¬j=i:=fun e=>h (by rw[e])
  rw[if_neg Cp,List.getD_eq_getElem?_getD,List.getElem?_set_ne (fun e=>h e.symm),← List.getD_eq_getElem?_getD]
def nY{ws:List jj}{i:Int}(h:i<0∨(n:Int)≤i):cy ws n i=false:=by
 unfold cy
 rw[decide_eq_false ag,Bool.false_and]
def tT(m n:Nat)(i:Int):cy (List.replicate m 0#64) n i=false:=by
 unfold cy
 have h:(List.replicate m 0#64).getD (i.toNat/64) 0#64=0#64:=by
  rw[List.getD_eq_getElem?_getD,List.getElem?_replicate]
  split <;> rfl
 rw[h]
 simp
def eQ(sb n:Nat)(wv:Value)(ws:List jj):List HP:=[ae sb (cl [.int .i64 (n:Int),wv] 117),aB 118 1 wv ws.length (qV ws)]
structure Tk where
 yb:Nat
 sb:Nat
 mb:Nat
 x:Bl
 n:Nat
 ws:List jj
 pf:Int→Option (List Dg)
def JK(z:Value × List (Int × Value) × fU)(y:Tk):Prop:=∀k,match ew z.2.1 k with
 | none=>y.pf k=none
 | some v=>∃l,y.pf k=some l∧Dn z.2.2 32 v l.length (l.flatMap dC)
def lr(y:Tk):List Value:=bH y.x++[ptr y.sb,.map (some y.mb)]
def mN(y:Tk)(z:Value × List (Int × Value) × fU):List HP:=[ae y.yb (cl (lr y) 93),ae y.sb (cl [.int .i64 (y.n:Int),z.1] 117),aB 118 1 z.1 y.ws.length (qV y.ws),aP (Value.int .i64) y.mb z.2.1,aZ 35 z.2.2]
def oD(y:Tk):HP:=fun h=>∃z:Value × List (Int × Value) × fU,JK z y∧Sep (mN y z) h
def gi(y:Tk):∀h,oD y h→∃z:Value × List (Int × Value) × fU,JK z y∧Sep (mN y z) h:=fun h hs=>hs
def iX{y:Tk}{z:Value × List (Int × Value) × fU}(hR:JK z y)(H:List HP):al (mN y z++H) (oD y::H) :=
 al.fold (B:=mN y z) fun h hp=>⟨h,sub.refl h,z,hR,hp⟩
def JK.put{z:Value × List (Int × Value) × fU}{y:Tk}(h:JK z y)(k:Int)(v wv:Value)(l:List Dg)(M:fU)(hM:∀a∈z.2.2,a∈M)(hv:Dn M 32 v l.length (l.flatMap dC))(y':Tk)(hy:y'.pf=fun j=>if j=k then some l else y.pf j):JK (wv,nA z.2.1 k v,M) y':=fun j=>by
 rw[hy]
 simp only
 rw[H7]
 by_cases hj:j=k
 ·rw[if_pos hj,if_pos hj];exact⟨l,rfl,hv⟩
 ·rw[if_neg hj,if_neg hj]
  have:=h j
  cases hx:ew z.2.1 j with
  | none=>rw[hx]at this;exact this
  | some u =>
   rw[hx]at this
   obtain⟨l',h1,h2⟩:=this
   exact⟨l',h1,h2.mono hM⟩
def aW(ts:List Tk):HP:=Sep (ts.map oD)
def IF(H:List HP):al H (aW []::H):=al.qA H
def BR(a b:List Tk)(y:Tk)(H:List HP):al (aW (a++y::b)::H) (oD y::aW (a++b)::H):=by
 unfold aW
 rw[List.map_append,List.map_cons,List.map_append]
 refine(al.cD _ _).trans ((al.perm (H':=oD y::((a.map oD++b.map oD)++H)) ?_).trans (al.cons _ (al.bS _ _)))
 rw[List.append_assoc,List.cons_append,List.append_assoc]
 exact List.perm_middle
def uR(a b:List Tk)(y:Tk)(H:List HP):al (oD y::aW (a++b)::H) (aW (a++y::b)::H):=by
 unfold aW
 rw[List.map_append,List.map_append,List.map_cons]
 refine(al.cons _ (al.cD _ _)).trans ((al.perm (H':=(a.map oD++oD y::b.map oD)++H) ?_).trans (al.bS _ _))
 rw[List.append_assoc,List.append_assoc,List.cons_append]
 exact List.perm_middle.symm
def Gr{ts:List Tk}{y:Tk}(h:ts[i]?=some y):ts=ts.take i++y::ts.drop (i+1):=by
 obtain⟨hi,rfl⟩:=List.getElem?_eq_some_iff.1 h
 rw[← List.drop_eq_getElem_cons hi,List.take_append_drop]
def kL{ts:List Tk}{y:Tk}(h:ts[i]?=some y)(H:List HP):al (aW ts::H) (oD y::aW (ts.take i++ts.drop (i+1))::H):=by
 have:=BR (ts.take i) (ts.drop (i+1)) y H
 rwa[← Gr h]at this
def IE{ts:List Tk}{y:Tk}(h:ts[i]?=some y)(y':Tk)(H:List HP):al (oD y'::aW (ts.take i++ts.drop (i+1))::H) (aW (ts.set i y')::H):=by
 have hi:=(List.getElem?_eq_some_iff.1 h).1
 rw[List.set_eq_take_append_cons_drop,if_pos hi]
 exact uR (ts.take i) (ts.drop (i+1)) y' H
def lF{ts:List Tk}{y:Tk}(h:ts[i]?=some y)(H:List HP):al (oD y::aW (ts.take i++ts.drop (i+1))::H) (aW ts::H):=by
 have:=uR (ts.take i) (ts.drop (i+1)) y H
 rwa[← Gr h]at this
def cB(y:Tk):Value:=ptr y.yb
def eh(tb bs jb:Nat)(v:Value)(ts:List Tk)(br:Bool):List HP:=[ae tb (cl [ptr bs,ptr jb,v,.bool br] 88),aB 90 1 v ts.length (ts.map cB),aW ts]
def qN{ts:List Tk}{y:Tk}(h:ts[i]?=some y):(ts.map cB)[i]?=some (ptr y.yb):=by rw[List.getElem?_map,h];rfl
attribute [local irreducible] J K aE Ends ae aB aP bP bq aS aZ bu
def ym(n:Nat)(h:n<9223372036854775808):aE Tryz.prog 204 [.int .i64 (n:Int)] [] (fun v H=>∃b,v = .slice (some ⟨b,0,none⟩) 4 4∧H=[ae b (cl (bV (vS n)) 5)]):=by
 refine aE.ao Tryz.func204 Tryz.ntmps204 fun G F R hE=>?_
 (repeat(first|refine gy ?_|refine il zr zr zr zr zr zr ?_|refine jl zr zr zr ag ?_))
 refine au 4 (u8 (UInt8.ofNat n)) rfl (lN n) ?_
 refine au 7 (u8 (UInt8.ofNat (n/256))) rfl (by rw[show(n:Int)/2 ^ (min (Int.toNat 8) IntKind.i64.bits)=((n/256:Nat):Int)from by show(n:Int)/256=_;omega];exact lN _) ?_
 refine au 10 (u8 (UInt8.ofNat (n/65536))) rfl (by rw[show(n:Int)/2 ^ (min (Int.toNat 16) IntKind.i64.bits)=((n/65536:Nat):Int)from by show(n:Int)/65536=_;omega];exact lN _) ?_
 refine au 13 (u8 (UInt8.ofNat (n/16777216))) rfl (by rw[show(n:Int)/2 ^ (min (Int.toNat 24) IntKind.i64.bits)=((n/16777216:Nat):Int)from by show(n:Int)/16777216=_;omega];exact lN _) ?_
 refine aj (cs:=bV (vS n)) zr zr zr zr zr zr zr zr zr bD ?_
 intro b
 refine go ?_
 refine ad hE Tryz.func204 zr zr ⟨b,rfl,rfl⟩
def Du(A:HP)(v:Value)(bs:List UInt8)(hv:Vw A v bs.length (bV bs))(h:4≤bs.length):aE Tryz.prog 189 [v] [A] (fun r H=>r = .int .i64 (oX bs:Int)∧H=[A]):=by
 obtain⟨b,o,c,rfl⟩:=PA hv ag
 have hx:∀x:UInt8,x.toNat<256:=fun x=>x.toNat_lt
 have h0:=hx (bs.getD 0 0);have h1:=hx (bs.getD 1 0);have h2:=hx (bs.getD 2 0);have h3:=hx (bs.getD 3 0)
 refine aE.ao Tryz.func189 Tryz.ntmps189 fun G F R hE=>?_
 refine go ?_
 refine aF (fun w=>Sat G w ([A])) (kM 0 23 .nil) rfl ak ak ak dT ?_
 refine go ?_
 refine bM 0 zr zr zr zr zr zr zr zr ag ?_
 refine cO 0 0 zr zr zr hv rfl (xl ag) zr zr (go ?_)
 refine bM 1 zr zr zr zr zr zr zr zr ag ?_
 refine cO 0 1 zr zr zr hv rfl (xl ag) zr zr (go ?_)
 refine nB zr zr zr ag ?_
 refine au 11 (.int .i64 (((bs.getD 1 0).toNat*2 ^ 8:Nat):Int)) rfl (xX (q:=8) _ rfl ag) (go ?_)
 refine au 12 (.int .i64 (((bs.getD 0 0).toNat+(bs.getD 1 0).toNat*2 ^ 8:Nat):Int)) rfl (congrArg (Value.int .i64) (G0 ag ag)) ?_
 refine bM 2 zr zr zr zr zr zr zr zr ag ?_
 refine cO 0 2 zr zr zr hv rfl (xl ag) zr zr (go ?_)
 refine nB zr zr zr ag ?_
 refine au 17 (.int .i64 (((bs.getD 2 0).toNat*2 ^ 16:Nat):Int)) rfl (xX (q:=16) _ rfl ag) (go ?_)
 refine au 18 (.int .i64 (((bs.getD 0 0).toNat+(bs.getD 1 0).toNat*2 ^ 8+(bs.getD 2 0).toNat*2 ^ 16:Nat):Int)) rfl (congrArg (Value.int .i64) (G0 ag ag)) ?_
 refine bM 3 zr zr zr zr zr zr zr zr ag ?_
 refine cO 0 3 zr zr zr hv rfl (xl ag) zr zr (go ?_)
 refine nB zr zr zr ag ?_
 refine au 23 (.int .i64 (((bs.getD 3 0).toNat*2 ^ 24:Nat):Int)) rfl (xX (q:=24) _ rfl ag) (go ?_)
 refine aX 2 (.int .i64 (oX bs:Int)) rfl (congrArg (Value.int .i64) (G0 ag ag)) ?_
 refine ad hE Tryz.func189 zr zr ⟨rfl,rfl⟩
def Mn(A B:HP)(v1 v2:Value)(b1 b2:List UInt8)(h1:Vw A v1 b1.length (bV b1))(h2:Vw B v2 b2.length (bV b2)):aE Tryz.prog 190 [v1,v2] [A,B] (fun r H=>r = .bool (decide (b1=b2))∧H=[A,B]):=by
 obtain⟨a1,c1,rfl⟩:=h1.shape
 obtain⟨a2,c2,rfl⟩:=h2.shape
 refine aE.ao Tryz.func190 Tryz.ntmps190 fun G F R hE=>?_
 refine go ?_
 refine ox 0 zr zr zr zr zr zr zr zr zr h1 (go ?_)
 refine ox 1 zr zr zr zr zr zr zr zr zr h2 (go ?_)
 rw[n8]
 refine ad hE Tryz.func190 zr zr ⟨rfl,rfl⟩
def Mc(a b:Nat)(ha:a<4294967296)(hb:b<4294967296):aE Tryz.prog 243 [.int .u64 (a:Int),.int .u64 (b:Int)] [] (fun r H=>r = .tuple #[.int .u64 0,.int .u64 ((a*b:Nat):Int)]∧H=[]):=by
 have m8:a*b<18446744073709551616:=Nat.lt_of_lt_of_le (Nat.mul_lt_mul'' ha hb) ag
 have hw:∀x:Nat,x<18446744073709551616→IntKind.u64.wrap (x:Int)=(x:Int):=fun x hx=>cS (by simp only[gq];omega)
 have hm:∀x:Nat,x<4294967296→IntKind.u64.wrap ((BitVec.ofInt IntKind.u64.bits (x:Int) &&& BitVec.ofInt IntKind.u64.bits 4294967295).toNat:Int)=(x:Int):=fun x hx=>by
  have:=CV x 32 ag ag
  rw[show((2 ^ 32-1:Nat):Int)=4294967295 from rfl,show x%2 ^ 32=x from by omega]at this
  exact this
 have hs:∀x:Nat,x<4294967296→(x:Int)/2 ^ (min (Int.toNat 32) IntKind.u64.bits)=0:=fun x hx=>by show(x:Int)/4294967296=0;omega
 refine aE.ao Tryz.func243 Tryz.ntmps243 fun G F R hE=>?_
 refine go ?_
 refine au 6 (.int .u64 (a:Int)) rfl (congrArg (Value.int .u64) (hm a ha)) ?_
 refine jl zr zr zr ag ?_
 refine au 17 (.int .u64 0) rfl (congrArg (Value.int .u64) (hs a ha)) (go ?_)
 refine au 8 (.int .u64 (b:Int)) rfl (congrArg (Value.int .u64) (hm b hb)) ?_
 refine jl zr zr zr ag ?_
 refine au 21 (.int .u64 0) rfl (congrArg (Value.int .u64) (hs b hb)) (go ?_)
 refine ib zr zr zr (by rw[← Int.natCast_mul];simp only[gq];omega) ?_
 refine au 24 (.int .u64 ((a*b:Nat):Int)) rfl (by rw[Int.natCast_mul]) (go ?_)
 refine ib zr zr zr (by simp[gq]) ?_
 refine au 27 (.int .u64 0) rfl (by simp) (go ?_)
 refine jl zr zr zr ag ?_
 refine au 29 (.int .u64 ((a*b/4294967296:Nat):Int)) rfl (congrArg (Value.int .u64) (by show((a*b:Nat):Int)/4294967296=_;omega)) ?_
 refine go ?_
 refine au 11 (.int .u64 ((a*b/4294967296:Nat):Int)) rfl (congrArg (Value.int .u64) ag) (go ?_)
 have hq:a*b/4294967296<4294967296:=by omega
 refine au 12 (.int .u64 ((a*b/4294967296:Nat):Int)) rfl (congrArg (Value.int .u64) (by rw[show(0:Int)+((a*b/4294967296:Nat):Int)=((a*b/4294967296:Nat):Int)from by omega];exact hm _ hq)) ?_
 refine jl zr zr zr ag ?_
 refine au 34 (.int .u64 0) rfl (congrArg (Value.int .u64) (by simp only[Int.zero_add,Int.add_zero];exact hs _ hq)) ?_
 refine go ?_
 refine ib zr zr zr (by simp[gq]) ?_
 refine au 38 (.int .u64 0) rfl (by simp) (go ?_)
 refine ib zr zr zr (by simp[gq]) ?_
 refine au 42 (.int .u64 0) rfl (by simp) (go ?_)
 refine jl zr zr zr ag ?_
 refine au 46 (.int .u64 0) rfl (congrArg (Value.int .u64) (by rw[show((a*b/4294967296:Nat):Int)+0=((a*b/4294967296:Nat):Int)from by omega];exact hs (a*b/4294967296) hq)) ?_
 refine go ?_
 refine ib zr zr zr (by rw[← Int.natCast_mul];simp only[gq];omega) ?_
 refine au 50 (.int .u64 ((a*b:Nat):Int)) rfl (by rw[Int.natCast_mul]) (go ?_)
 refine ad hE Tryz.func243 zr zr ⟨rfl,rfl⟩
def Sw(a b:Nat)(ha:a<4294967296)(hb:b<4294967296):aE Tryz.prog 223 [.int .u64 (a:Int),.int .u64 (b:Int)] [] (fun r H=>r = .tuple #[.int .u64 0,.int .u64 ((a*b:Nat):Int)]∧H=[]):=by
 refine aE.ao Tryz.func223 Tryz.ntmps223 fun G F R hE=>?_
 refine go ?_
 refine aJ (Mc a b ha hb) ?_
 refine go ?_
 refine ad hE Tryz.func223 zr zr ⟨rfl,rfl⟩
def FA(v:Value)(bs:List UInt8)(h0:0<bs.length)(hl:bs.length≤1000) :
  aE Tryz.prog 203 [v,.int .i64 2] [aB 5 1 v bs.length (bV bs)] (fun r H=>H=[aB 5 1 r (bs++bs).length (bV (bs++bs))]):=by
 refine aE.ao Tryz.func203 Tryz.ntmps203 fun G F R hE=>?_
 refine YM 0 rfl h0 ?_
 rintro b o c rfl hc _ dE
 refine go ?_
 refine aJ (Sw bs.length 2 ag ag) ?_
 repeat'(first|(with_reducible intro pM)|refine gy ?_|refine aq zr zr ?_ ?_)
 any_goals (exfalso;omega)
 obtain⟨N,hN⟩:∃N,N=bs.length*2:=⟨_,rfl⟩
 rw[← hN]
 refine C6 (U:=aQ) (t:=22) (elem:=5) (q:=N) rfl Tryz.func224 zr zr ak zr zr zr zr ag (fun _ _ _ _=>trivial) ?_
 intro nb c2 l mT rI
 refine go ?_
 refine Mf (U:=aQ) (q:=(N:Int)) (r:=(N:Int)) zr zr zr zr zr zr zr ag ag ag ?_
 refine au 57 (.slice (some ⟨nb,0,none⟩) N N) rfl (by rw[show((N:Int)).toNat=N from by omega];rw[SL.iR]) ?_
 refine go ?_
 refine JT (U:=aQ) (src:=bV bs) (mm:=bs.length) (l':=bV bs++l.drop bs.length) 0 1 zr zr zr zr zr zr zr zr dE (by show _=_*1;rw[bC];omega) (fun u hu=>cX bs u (List.mem_of_mem_take hu)) (by show 0+_*1≤_;omega) ?_ rfl gB ?_
 ·show _=List.take 0 l++List.take (min bs.length N*1) (bV bs)++List.drop (0+min bs.length N*1) l
  rw[show min bs.length N*1=bs.length from by omega,List.take_of_length_le (l:=bV bs) (by rw[bC];omega)]
  simp
 rw[show((min bs.length N:Nat):Int)=(bs.length:Int)from by omega]
 refine go ?_
 refine bB (fun _:Bool=>True) (fun s=>bif s then 0 else 1)
  (fun s=>[(7,.int .i64 (N:Int)),(8,.int .i64 (N:Int)),(9,.slice (some ⟨nb,0,none⟩) N N),(10,.int .i64 ((bif s then N else bs.length:Nat):Int))])
  (fun s=>ae nb (cl (bif s then bV (bs++bs)++l.drop N else bV bs++l.drop bs.length) 5)::F) false trivial rfl cg ah ?_
 rintro s _ ih
 cases s with
 | true =>
  repeat'(first|(with_reducible intro pM)|refine gy ?_|refine aq zr zr ?_ ?_)
  any_goals (exfalso;simp only[cond_true]at *;omega)
  simp only[cond_true]
  refine ai (eJ 5 1 nb N N (bV (bs++bs)) (l.drop N) _ (by rw[bC,List.length_append];omega) (Nat.le_refl _) (by rw[bC,List.length_append,List.length_drop];omega)) ?_
  rw[show N=(bs++bs).length from by rw[List.length_append];omega]
  refine aL hE Tryz.func203 rfl _ zr zr ah
 | false =>
  repeat'(first|(with_reducible intro pM)|refine gy ?_|refine aq zr zr ?_ ?_)
  any_goals (exfalso;simp only[cond_false]at *;omega)
  simp only[cond_false]
  rw[show min (bs.length:Int) (N:Int)=(bs.length:Int)from by omega]
  refine aF (fun w=>Sat G w ([])) (kM 0 7 (.act 7 (kM 8 2 .nil))) rfl ak ak ak dT ?_
  refine go ?_
  refine bh (p:=(bs.length:Int)) (q:=(N:Int)) zr zr zr zr zr zr zr ag ag (.inl rfl) ?_
  refine au 70 (.slice (some ⟨nb,bs.length,none⟩) bs.length bs.length) rfl (by rw[show((N:Int)).toNat=N from by omega,show((bs.length:Int)).toNat=bs.length from by omega,show N-bs.length=bs.length from by omega];show Value.slice (sliceAt _ N bs.length 1) _ _=_;rw[tw _ _ _ _ _ ag,Nat.zero_add,Nat.mul_one]) ?_
  refine go ?_
  refine bh (p:=0) (q:=(bs.length:Int)) zr zr zr zr zr zr zr ag ag (.inr ag) ?_
  refine au 73 (.slice (some ⟨nb,0,none⟩) bs.length N) rfl (by rw[show(0:Int).toNat=0 from rfl,show((bs.length:Int)).toNat=bs.length from by omega,SL.iR];rfl) ?_
  refine JT (U:=aQ) (src:=bV bs) (mm:=bs.length) (l':=bV (bs++bs)++l.drop N) 0 0 zr zr zr zr zr zr zr zr (Vw.ae (by simp)) (by show _=_*1;rw[bC];omega) (fun u hu=>cX bs u (List.mem_of_mem_take hu)) (by show bs.length+_*1≤_;rw[List.length_append,bC,List.length_drop];omega) ?_ rfl (fun _ hw=>hw.cV (al.SN _)) ?_
  ·show _=List.take bs.length _++List.take (min bs.length bs.length*1) (bV bs)++List.drop (bs.length+min bs.length bs.length*1) _
   rw[show min bs.length bs.length*1=bs.length from by omega,List.take_of_length_le (l:=bV bs) (by rw[bC];omega),List.take_left' (bC bs),List.drop_append,bC,show(bV bs).drop (bs.length+bs.length)=[]from List.drop_eq_nil_of_le (by rw[bC];omega),List.drop_drop,show bs.length+(bs.length+bs.length-bs.length)=N from by omega]
   simp[bV]
  rw[show((min bs.length bs.length:Nat):Int)=(bs.length:Int)from by omega]
  refine go ?_
  refine aX 10 (.int .i64 (N:Int)) rfl (congrArg (Value.int .i64) ag) ?_
  refine aM ih true rfl trivial (by simp) cg ah
def bZ(n m:Nat):List UInt8:=(vS n++vS m)++(vS n++vS m)
def gf(n m:Nat):(bZ n m).length=16:=rfl
def yP(n m:Nat)(h:n<9223372036854775808)(h2:m<9223372036854775808):aE Tryz.prog 154 [.int .i64 (n:Int),.int .i64 (m:Int)] [] (fun r H=>H=[aB 5 1 r (bZ n m).length (bV (bZ n m))]):=by
 refine aE.ao Tryz.func154 Tryz.ntmps154 fun G F R hE=>?_
 refine go ?_
 refine aH (ym n h) ?_
 rintro _ _⟨b1,rfl,rfl⟩
 refine go ?_
 refine aH (ym m h2) ?_
 rintro _ _⟨b2,rfl,rfl⟩
 refine aI (al.pick [1] rfl) ?_
 refine aI (eJ 5 1 b1 4 4 (bV (vS n)) [] _ rfl (Nat.le_refl _) (by simp[bC,Cj])) ?_
 refine aR (mm:=4) (news:=bV (vS m)) 0 1 zr zr zr zr zr zr zr zr zr zr zr zr (Vw.ae rfl) rfl (cX _) ag (by show(4+4)*1≤_;omega) (fun _=>rfl) bD ?_
 intro v1
 rw[show bV (vS n)++bV (vS m)=bV (vS n++vS m)from by simp[bV],show 4+4=(vS n++vS m).length from rfl]
 refine aH (FA v1 (vS n++vS m) (by simp[Cj]) (by simp[Cj])) ?_
 rintro r _ rfl
 refine go ?_
 refine aL hE Tryz.func154 rfl _ zr zr ah
end Go.Proofs.YtedjnjkijiddlaaGreatDoor
