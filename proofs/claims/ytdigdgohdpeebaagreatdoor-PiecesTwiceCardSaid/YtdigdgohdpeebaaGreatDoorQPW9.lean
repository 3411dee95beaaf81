import Derived.Test.YtdigdgohdpeebaaGreatDoorQPW2
import Derived.Test.YtdigdgohdpeebaaGreatDoorQPW3
import Derived.Test.YtdigdgohdpeebaaGreatDoorQPW4
import Derived.Test.YtdigdgohdpeebaaGreatDoorQPW5
import Derived.Test.YtdigdgohdpeebaaGreatDoorQPW8
set_option linter.unusedSectionVars false
set_option linter.unusedSimpArgs false
set_option linter.unusedVariables false
set_option maxHeartbeats 1000000
set_option maxRecDepth 20000
set_option linter.defProp false
namespace Go.Proofs.YtdigdgohdpeebaaGreatDoor
open Go Go.SL
attribute [local irreducible] J K aE Ends ae az aQ bP bj aT aU bp bW Sha.chunks Sha.chunk Sha.rounds Sha.sched dW cH GI db aD
def Yn(X:HP)(bs bd:Nat)(q:Int)(mb:Nat)(s:e8)(x:Bl)(i:Int)(bv:Value)(b:List UInt8)(hv:Vw X bv b.length (bV b))(jO:b.length≤1000000000)(hi : -9223372036854775808≤i∧i≤9223372036854775807)(cL:s.A.aw.length≤900000000)(eQ:s.A.writes.length≤900000000) :
  aE Tryz.prog 36 [ptr bs,eS x,.int .i64 i,bv] (cC bs bd q mb s++[X])
  (fun r H=>∃(e:Nat) (t:e8),r = .int .i64 (e:Int)∧H=cC bs bd q mb t++[X]∧mY x i b s e t):=by
 obtain⟨A,bq,brk⟩:=s
 simp only at cL eQ
 obtain⟨a,c,rfl⟩:=hv.shape
 have yw:=tG bs bd q mb brk bq x
 unfold eS at yw ⊢
 refine aE.au Tryz.func36 Tryz.ntmps36 fun G F R hE=>?_
 refine ai (H':=ae bs (cl (eA bd q mb brk) 113)::aQ dV mb (dx bq)::aD bd A::X::F) (ao.refl _) ?_
 refine aG rfl ?_
 refine bG zr zr bD ?_
 intro b4
 refine bG zr zr bD ?_
 intro b5
 refine bG zr zr bD ?_
 intro b7
 refine go ?_
 refine aJ (U:=aS) (l:=bJ x) 1 zr zr zr zr zr zr ?_
 refine aO yw ?_
 refine go ?_
 refine aq zr zr ?_ ?_
 ·intro bZ
  have fR:jh ⟨A,bq,brk⟩ x≠0:=by show oS brk bq x≠0;omega
  refine go ?_
  refine ai (H':=cC bs bd q mb ⟨A,bq,brk⟩++(X::F)) ah ?_
  ((refine ad hE Tryz.func36 zr zr ⟨oS brk bq x,⟨A,bq,brk⟩,rfl,rfl,by unfold mY;rw[if_pos fR];exact⟨rfl,rfl⟩⟩))
 intro heq
 have o4:¬jh ⟨A,bq,brk⟩ x≠0:=by show ¬oS brk bq x≠0;omega
 refine go ?_
 refine aJ (U:=aS) (l:=bJ x) 3 zr zr zr zr zr zr ?_
 have po:=zo x i
 unfold eS at po
 have hP1:∀(e:Nat) (t:e8),dJ x i=none→e=1→t=⟨A,bq,brk⟩→mY x i b ⟨A,bq,brk⟩ e t:=fun e t h he ht=>by
  unfold mY;rw[if_neg o4,h];exact⟨he,ht⟩
 have hP2:∀(at_ n:Int),dJ x i=some (at_,n)→(b.length:Int)≠n→mY x i b ⟨A,bq,brk⟩ 1 ⟨A,bq,brk⟩:=fun at_ n h hl=>by
  unfold mY;rw[if_neg o4,h];dsimp only;rw[if_pos hl];exact⟨rfl,rfl⟩
 have hP3:∀(at_ n:Int) (e:Nat) (t:e8),dJ x i=some (at_,n)→¬(b.length:Int)≠n→CC [fL (fS x) at_.toNat b] ⟨A,bq,brk⟩ e t→mY x i b ⟨A,bq,brk⟩ e t:=fun at_ n e t h hl hc=>by
  unfold mY;rw[if_neg o4,h];dsimp only;rw[if_neg hl];exact hc
 have QG:∀at_ n,dJ x i=some (at_,n)→0≤at_∧at_≤9223372036854775807:=fun at_ n h=>by
  unfold dJ at h
  split at h
  ·cases h
  ·rename_i hn
   injection h with h
   injection h with h1 h2
   obtain⟨hr,zN,S7⟩:=wH (x:=x) (i:=i) ag ag
   simp only[bF,decide_eq_true_eq]at hr
   omega
 refine go ?_
 refine aO po ?_
 cases iQ:dJ x i with
 | none =>
  simp only
  refine go ?_
  refine aC zr zr zr bD ?_
  intro zi
  refine go ?_
  refine ai (H':=cC bs bd q mb ⟨A,bq,brk⟩++(X::F)) ah ?_
  refine ad hE Tryz.func36 zr zr ⟨1,⟨A,bq,brk⟩,rfl,rfl,hP1 _ _ iQ zr zr⟩
 | some w =>
  obtain⟨at_,n⟩:=w
  simp only
  refine go ?_
  refine aC zr zr zr bD ?_
  intro zi
  refine go ?_
  refine aq zr zr ?_ ?_
  ·intro wu
   have hl:(b.length:Int)≠n:=wu
   refine go ?_
   refine ai (H':=cC bs bd q mb ⟨A,bq,brk⟩++(X::F)) ah ?_
   refine ad hE Tryz.func36 zr zr ⟨1,⟨A,bq,brk⟩,rfl,rfl,hP2 at_ n iQ hl⟩
  ·intro wu
   have hl:¬(b.length:Int)≠n:=wu
   obtain⟨Y,hY⟩:∃Y,Y=([ae b4 (cl [ptr bs] 30),ae b5 (cl (bJ x) 38),ae zi (cl [.int .i64 at_] 3),ae b7 (cl [.slice a b.length c] 39),X]:List HP):=⟨_,rfl⟩
   have qY:∀F,ao (ae bs (cl (eA bd q mb brk) 113)::aD bd A::([ae b4 (cl [ptr bs] 30),ae b5 (cl (bJ x) 38),ae zi (cl [.int .i64 at_] 3),ae b7 (cl [.slice a b.length c] 39),X]++F)) (nE bs bd q mb brk (Sep Y) A::F):=fun F=>by rw[hY];exact uQ bs bd q mb brk _ A F
   have rz:∀(bk:Bool) B F,ao (nE bs bd q mb bk (Sep Y) B::F) (ae bs (cl (eA bd q mb bk) 113)::aD bd B::([ae b4 (cl [ptr bs] 30),ae b5 (cl (bJ x) 38),ae zi (cl [.int .i64 at_] 3),ae b7 (cl [.slice a b.length c] 39),X]++F)):=fun bk B F=>by rw[hY];exact oH bs bd q mb bk _ B F
   have u5:∀(i:Nat) (fv:Value) (sp:Bt),[.func (.func 91) #[] #[ptr b4,ptr b5,ptr zi,ptr b7] ][i]?=some fv→[fL (fS x) at_.toNat b][i]?=some sp→∃g fi cap,fv = .func (.func g) fi cap∧∀y,GQ A i y→aE Tryz.prog g (fi.toList++cap.toList) [nE bs bd q mb brk (Sep Y) y] (fun r H=>∃(e:Nat) (x':Ab),r = .int .i64 (e:Int)∧H=[nE bs bd q mb brk (Sep Y) x']∧sp y e x'∧(e=0→GQ A (i+1) x')):=by
    intro i fv sp hi hs
    match i,hi,hs with
    | 0,hi,hs =>
     cases hi;cases hs
     refine⟨_,_,_,rfl,fun y hy=>?_⟩
     subst hY
     have h0:=KA bs bd b4 b5 zi b7 q mb brk x at_ X (.slice a b.length c) b hv y (by have:=hy.2;omega) jO (QG at_ n iQ)
     refine(o6 (p:=fL (fS x) at_.toNat b y) h0).post ?_
     rintro r H⟨e,B,rfl,rfl,h1⟩
     exact⟨e,B,rfl,rfl,h1,fun _=>hy.next (tQ h1)⟩
    | k+1,hi,hs=>simp at hi
   refine go ?_
   refine aj (cs:=[.func (.func 91) #[] #[ptr b4,ptr b5,ptr zi,ptr b7] ]) zr zr zr zr zr zr zr zr zr bD ?_
   intro row
   have EU:=lk bs bd q mb brk (Sep Y) (ae row (cl [.func (.func 91) #[] #[ptr b4,ptr b5,ptr zi,ptr b7] ] 82)) (.slice (some ⟨row,0,none⟩) 1 1) [.func (.func 91) #[] #[ptr b4,ptr b5,ptr zi,ptr b7] ] (Vw.ae rfl) (by show 1≤_;omega) [fL (fS x) at_.toNat b] rfl (GQ A) u5 A (GQ.zero A)
   refine aI (H':=ae row (cl [.func (.func 91) #[] #[ptr b4,ptr b5,ptr zi,ptr b7] ] 82)::nE bs bd q mb brk (Sep Y) A::aQ dV mb (dx bq)::F) (ao.trans (H2:=ae bs (cl (eA bd q mb brk) 113)::aD bd A::([ae b4 (cl [ptr bs] 30),ae b5 (cl (bJ x) 38),ae zi (cl [.int .i64 at_] 3),ae b7 (cl [.slice a b.length c] 39),X]++(ae row (cl [.func (.func 91) #[] #[ptr b4,ptr b5,ptr zi,ptr b7] ] 82)::aQ dV mb (dx bq)::F))) ah (ao.trans (qY _) ah)) ?_
   refine aF EU ?_
   rintro _ _⟨e,B,rfl,rfl,fU,-⟩
   refine go ?_
   refine ai (H':=cC bs bd q mb ⟨B,bq,brk || decide (e≠0)⟩++(X::F)) (ao.trans (ao.pick [1] rfl) (ao.trans (rz _ B _) ah)) ?_
   refine ad hE Tryz.func36 zr zr ⟨e,⟨B,bq,or brk (decide (e≠0))⟩,rfl,rfl,hP3 at_ n e _ iQ hl ⟨B,fU,rfl⟩⟩
def nO(A:Ab)(nm:ByteArray):Nat:=if(jG kB nm).isSome then(A.size nm).1 else 0
def BL{α:Type}{l m:List α}(h:l.Perm m)(f:α→Nat):(l.map f).sum=(m.map f).sum:=by
 induction h with
 | nil=>rfl
 | cons x _ ih=>simp[ih]
 | swap x y l=>simp;omega
 | trans _ _ ih1 Hl=>exact ih1.trans Hl
def fu{A:Ab}(h:(A.names.map (·.1)).Nodup){x:ByteArray × Nat}(hx:x∈A.names):A.look x.1=some x.2:=by
 have key:∀(l:List (ByteArray × Nat)),(l.map (·.1)).Nodup→x∈l→(l.find? (fun y=>decide (y.1=x.1))).map (·.2)=some x.2:=by
  intro l
  induction l with
  | nil=>intro _ h;cases h
  | cons y l ih =>
   intro hn hm
   rw[List.map_cons,List.nodup_cons]at hn
   rw[List.find?_cons]
   rcases List.mem_cons.1 hm with rfl|hm
   ·simp
   ·have:y.1≠x.1:=fun e=>hn.1 (List.mem_map.2 ⟨x,hm,e.symm⟩)
    simp only[this,decide_false]
    exact ih hn.2 hm
 exact key A.names h hx
def vP(A:Ab):(fW A).Perm (A.names.map (·.1)):=by
 unfold fW ei
 have h:=(m7 (A.names.map (·.1))).map strOf
 rw[List.map_map]at h
 have h2:(A.names.map (·.1)).map (strOf ∘ fun b=>b.data.toList)=A.names.map (·.1):=by
  rw[List.map_map]
  refine List.map_congr_left fun x _=>?_
  exact xE x.1
 rwa[h2]at h
def xp{A:Ab}(h:(A.names.map (·.1)).Nodup):rF A=((fW A).map (nO A)).sum:=by
 rw[BL (vP A),List.map_map]
 unfold rF
 congr 1
 refine List.map_congr_left fun x hx=>?_
 have hl:=fu h hx
 simp only[Function.comp,nO,Ab.size,hl]
def B9{A:Ab}(h:J6 A)(nm:ByteArray):nO A nm≤1048576:=by
 unfold nO Ab.size
 split
 ·cases A.look nm with
  | none=>simp
  | some f=>exact h.now f
 ·omega
def uP{α:Type}(l:List α)(f:α→Nat)(m:Nat)(h:∀x∈l,f x≤m):(l.map f).sum≤l.length*m:=by
 induction l with
 | nil=>simp
 | cons x l ih =>
  have h1:=h x (List.mem_cons_self ..)
  have h2:=ih (fun y hy=>h y (List.mem_cons_of_mem _ hy))
  simp only[List.map_cons,List.sum_cons,List.length_cons,Nat.add_mul,Nat.one_mul]
  omega
def nt(bq:List (Dg × Bl))(dn:List Dg):Int:=((bq.filter fun x=>decide (x.1∈dn)).map (·.2.size)).sum
def Ob(bq:List (Dg × Bl)):nt bq []=0:=by unfold nt;rw[List.filter_eq_nil_iff.2 (by simp)];rfl
def Ed(bq:List (Dg × Bl))(dn:List Dg)(h:∀x∈bq,x.1∈dn):nt bq dn=(bq.map (·.2.size)).sum:=by
 unfold nt
 rw[List.filter_eq_self.2 (fun x hx=>decide_eq_true (h x hx))]
def KU(bq:List (Dg × Bl))(key:Dg)(dn:List Dg)(h:key ∉ bq.map (·.1)):nt bq (key::dn)=nt bq dn:=by
 unfold nt
 congr 2
 refine List.filter_congr fun x hx=>?_
 have:x.1≠key:=fun e=>h (List.mem_map.2 ⟨x,hx,e⟩)
 simp[this]
def KV(bq:List (Dg × Bl))(key:Dg)(y:Bl)(dn:List Dg)(hn:(bq.map (·.1)).Nodup)(hm:(key,y)∈bq)(hd:key ∉ dn):nt bq (key::dn)=nt bq dn+y.size:=by
 induction bq with
 | nil=>cases hm
 | cons x l ih =>
  rw[List.map_cons,List.nodup_cons]at hn
  rcases List.mem_cons.1 hm with rfl|hm
  ·have h1:=KU l key dn hn.1
   unfold nt at h1 ⊢
   rw[List.filter_cons,List.filter_cons]
   simp only[List.mem_cons,true_or,decide_true,if_true,hd,decide_false,Bool.false_eq_true,if_false,List.map_cons,List.sum_cons]
   simp only[List.mem_cons]at h1
   rw[h1]
   omega
  ·have bZ:x.1≠key:=fun e=>hn.1 (List.mem_map.2 ⟨_,hm,e.symm⟩)
   have h1:=ih hn.2 hm
   unfold nt at h1 ⊢
   rw[List.filter_cons,List.filter_cons]
   by_cases hx:x.1∈dn
   ·simp only[List.mem_cons,hx,or_true,decide_true,if_true,List.map_cons,List.sum_cons]at h1 ⊢
    omega
   ·simp only[List.mem_cons,hx,bZ,or_self,decide_false,Bool.false_eq_true,if_false]at h1 ⊢
    exact h1
def I3(bq:List (Dg × Bl))(dn:List Dg)(h:∀x∈bq,0≤x.2.size∧x.2.size≤1048576):0≤nt bq dn∧nt bq dn≤bq.length*1048576:=by
 unfold nt
 induction bq with
 | nil=>simp
 | cons x l ih =>
  obtain⟨h1,h2⟩:=h x (List.mem_cons_self ..)
  obtain⟨h3,h4⟩:=ih (fun y hy=>h y (List.mem_cons_of_mem _ hy))
  rw[List.filter_cons]
  split
  ·simp only[List.map_cons,List.sum_cons,List.length_cons,Int.natCast_add];omega
  ·simp only[List.length_cons,Int.natCast_add];omega
def pt(bq:List (Dg × Bl)):Prop:=(∀x∈bq,0≤x.2.size∧x.2.size≤1048576)∧bq.length≤1000000
def Sk(bs bd:Nat)(q:Int)(mb:Nat)(s:e8)(hb:pt s.bq):aE Tryz.prog 74 [ptr bs] (cC bs bd q mb s)
  (fun r H=>r = .int .i64 (jR s)∧H=cC bs bd q mb s):=by
 obtain⟨A,bq,brk⟩:=s
 obtain⟨nw,pF⟩:=hb
 simp only at nw pF
 refine aE.au Tryz.func74 Tryz.ntmps74 fun G F R hE=>?_
 refine ai (H':=ae bs (cl (eA bd q mb brk) 113)::aD bd A::aQ dV mb (dx bq)::F) ah ?_
 refine uo (bd:=bd) (A:=A) 1 rfl ?_
 intro HC
 have OX:=sA HC
 have zU:jR ⟨A,bq,brk⟩=((fW A).map (nO A)).sum+(bq.map (·.2.size)).sum:=by
  unfold jR
  rw[xp (HC.nodup _ (List.mem_cons_self ..))]
 obtain⟨l,hl⟩:∃l,l=fW A:=⟨_,rfl⟩
 rw[← hl]at zU OX
 rw[zU]at hE
 have hle:∀i,((l.take i).map (nO A)).sum≤209715200:=fun i=>by
  have h1:=uP (l.take i) (nO A) 1048576 (fun x _=>B9 HC x)
  have h2:(l.take i).length≤200:=by rw[List.length_take];omega
  omega
 refine go ?_
 have lG:=um bd A
 rw[← hl]at lG
 refine aF lG ?_
 rintro r _ rfl
 refine aN 0 rfl ?_
 rintro ra rc rfl
 refine iw 0 rfl ?_
 intro dM
 refine go ?_
 refine bz (fun i:Nat=>i≤l.length) (fun i=>l.length-i)
  (fun i=>[(0,ptr bs),(3,.int .i64 (((l.take i).map (nO A)).sum:Nat)),(16,.slice ra l.length rc),(17,.int .i64 (l.length:Int)),(18,.int .i64 (i:Int))])
  (fun i=>az 9 1 (.slice ra l.length rc) l.length (l.map Value.string)::ae bs (cl (eA bd q mb brk) 113)::aD bd A::aQ dV mb (dx bq)::F) 0 (Nat.zero_le _) rfl cm ah ?_
 rintro i hi ih
 have MP:=hle i
 refine go ?_
 refine aq zr zr ?_ ?_
 ·intro cW
  have gh:i<l.length:=by omega
  obtain⟨nm,hx⟩:∃x,l[i]?=some x:=⟨l[i],by simp⟩
  have lF:((l.take (i+1)).map (nO A)).sum=((l.take i).map (nO A)).sum+nO A nm:=by
   rw[List.take_add_one,hx];simp
  have dm:(l.map Value.string)[i]?=some (.string nm):=by rw[List.getElem?_map,hx];rfl
  have gI:=B9 HC nm
  obtain⟨b,o,gQ,fO⟩:=dM.some (by intro h;rw[h]at dm;simp at dm)
  simp only[Value.slice.injEq]at fO
  obtain⟨rfl,_,rfl⟩:=fO
  refine go ?_
  refine cG i 1 zr zr zr zr zr zr zr zr gh ?_
  refine aK ?_
  refine aX 0 (i*1) zr zr zr dM rfl (by rw[Nat.mul_one];exact dm) zr zr ?_
  refine go ?_
  refine aO (EX kB nm (by decide)) ?_
  cases hh:jG kB nm with
  | none =>
   have hz:nO A nm=0:=by unfold nO;rw[hh];rfl
   have W8:((l.take i).map (nO A)).sum=((l.take (i+1)).map (nO A)).sum:=by omega
   simp only[EY]
   unfold dV
   refine go ?_
   refine aC zr zr zr bD ?_
   intro b9
   refine go ?_
   rw[W8]
   refine aM ih (i+1) rfl ag ag cm ah
  | some d =>
   have hz:nO A nm=(A.size nm).1:=by unfold nO;rw[hh];rfl
   rw[hz]at lF gI
   simp only[EY]
   unfold dV
   refine go ?_
   refine aC zr zr zr bD ?_
   intro b9
   refine go ?_
   refine aO (ui bd A nm) ?_
   refine go ?_
   refine bu 3 (.int .i64 (((l.take (i+1)).map (nO A)).sum:Nat)) rfl (congrArg (Value.int .i64) (by rw[lF];omega)) ?_
   refine aM ih (i+1) rfl ag ag cm ah
 ·intro fg
  have rB:i=l.length:=by omega
  subst rB
  rw[List.take_length]
  obtain⟨n0,RA⟩:∃n0,n0=(l.map (nO A)).sum:=⟨_,rfl⟩
  rw[List.take_length]at MP
  rw[← RA]at MP hE ⊢
  refine rX fun⟨w,hw⟩=>?_
  have kf:(bq.map (·.1)).Nodup:=by
   obtain⟨h1,hA⟩:=Cn hw (i:=3) rfl
   have:=He hA
   unfold dx at this
   rwa[List.map_map]at this
  clear hw w
  refine go ?_
  refine wZ (kv:=dV) (es:=dx bq) (U:=aS) 3 zr zr zr zr zr (fun _=>rfl) bD ?_
  intro it
  refine go ?_
  have A0:(dx bq).map (·.1)=bq.map (·.1):=by unfold dx;rw[List.map_map];rfl
  have iY:∀dn,0≤nt bq dn∧nt bq dn≤1048576000000:=fun dn=>by
   have:=I3 bq dn nw
   omega
  have h00:(n0:Int)=(n0:Int)+nt bq []:=by rw[Ob];omega
  refine bu 3 (.int .i64 ((n0:Int)+nt bq [])) rfl (congrArg (Value.int .i64) h00) ?_
  refine bz (fun s:List Dg=>s.Nodup∧∀x∈s,x∈bq.map (·.1)) (fun s=>bq.length-s.length) (fun s=>[(0,ptr bs),(3,.int .i64 ((n0:Int)+nt bq s)),(45,.pointer (some ⟨it,0,none⟩))])
   (fun s=>bP dV mb it (dx bq) s::ae bs (cl (eA bd q mb brk) 113)::aD bd A::F) [] ⟨List.nodup_nil,by simp⟩ rfl cm ah ?_
  clear ih
  rintro dn⟨yG,ef⟩ ih
  have hsd:=iY dn
  refine go ?_
  refine CZ (kv:=dV) (es:=dx bq) 0 rfl Rj.inj zr zr (fun _=>rfl) gB bD ?_ ?_
  ·intro gp
   have hme:nt bq dn=(bq.map (·.2.size)).sum:=Ed bq dn (fun x hx=>gp (x.1,eS x.2) (List.mem_map.2 ⟨x,hx,rfl⟩))
   rw[hme]
   refine go ?_
   refine ai (ao.head (B:=[aQ dV mb (dx bq)]) (fun h hs=>by obtain⟨h',s,hm⟩:=qQ h hs;exact⟨h',s,gk hm⟩)) ?_
   refine ai (H':=cC bs bd q mb ⟨A,bq,brk⟩++F) ah ?_
   refine ad hE Tryz.func74 zr zr ⟨rfl,rfl⟩
  ·intro key v e9 wo
   obtain⟨y,hy,hye⟩:∃y,(key,y)∈bq∧v=eS y:=by
    obtain⟨z,hz,he⟩:=List.mem_map.1 e9
    cases he
    exact⟨z.2,hz,rfl⟩
   subst hye
   have S7:=KV bq key y dn kf hy wo
   have aej:=iY (key::dn)
   have hk:key∈bq.map (·.1):=List.mem_map.2 ⟨_,hy,rfl⟩
   have cW:dn.length<bq.length:=by
    have h1:(key::dn).length≤(bq.map (·.1)).length:=(List.nodup_cons.2 ⟨wo,yG⟩).length_le_of_subset (fun x hx=>by rcases List.mem_cons.1 hx with rfl|h;exact hk;exact ef x h)
    simp only[List.length_cons,List.length_map]at h1
    omega
   refine go ?_
   refine xh (kv:=dV) (es:=dx bq) 0 rfl Rj.inj zr zr e9 ?_
   unfold eS
   refine go ?_
   refine aC zr zr zr bD ?_
   intro b11
   refine go ?_
   refine bu 3 (.int .i64 ((n0:Int)+nt bq (key::dn))) rfl (congrArg (Value.int .i64) (by rw[S7];omega)) ?_
   refine aM ih (key::dn) rfl (⟨List.nodup_cons.2 ⟨wo,yG⟩,fun x hx=>by rcases List.mem_cons.1 hx with rfl|h;exact hk;exact ef x h⟩) (by show _-(key::dn).length<_;simp only[List.length_cons];omega) cm ah
end Go.Proofs.YtdigdgohdpeebaaGreatDoor
namespace Go.Proofs.YtdigdgohdpeebaaGreatDoor
open Go Go.SL
structure HA(A:Ab):Prop where
 dS:A.dS=[]
 on:A.off=false
 keys:(A.names.map (·.1)).Nodup
 own:(A.names.map (·.2)).Nodup
 ids:(A.fs.map (·.1)).Nodup
 known:∀x∈A.names,x.2∈A.fs.map (·.1)
def vw(A:Ab)(nm:ByteArray):Option (List UInt8):=(A.look nm).map A.now
def HA.new(room:Nat):HA (Ab.new room):=⟨rfl,rfl,List.nodup_nil,List.nodup_nil,List.nodup_nil,fun _ h=>by cases h⟩
def HA.meet{A:Ab}(h:HA A):A.meet true=(0,A):=by unfold Ab.meet;rw[if_neg (by simp),if_neg (by rw[h.on];simp),h.dS]
def HA.find{A:Ab}(h:HA A)(nm:ByteArray):A.find nm true=match A.look nm with|none=>(4,none,A)|some f=>(0,some f,A):=by
 unfold Ab.find
 rw[h.meet,if_pos rfl]
 dsimp only
 cases A.look nm <;> rfl
def gG{A:Ab}{nm:ByteArray}{f:Nat}(h:A.look nm=some f):(nm,f)∈A.names:=by
 unfold Ab.look Ab.cM at h
 cases hx:A.names.find? (fun x=>decide (x.1=nm))with
 | none=>rw[hx]at h;cases h
 | some x =>
  rw[hx]at h
  injection h with h
  have h1:=List.mem_of_find?_eq_some hx
  have h2:x.1=nm:=by simpa using List.find?_some hx
  rw[← h2,← h]
  exact h1
def HA.Q6{A:Ab}(h:HA A){a b:ByteArray}{f:Nat}(ha:A.look a=some f)(hb:A.look b=some f):a=b:=by
 have h1:=gG ha
 have h2:=gG hb
 have hn:=h.own
 have key:∀l:List (ByteArray × Nat),(l.map (·.2)).Nodup→(a,f)∈l→(b,f)∈l→a=b:=by
  intro l
  induction l with
  | nil=>intro _ h;cases h
  | cons y l ih =>
   intro hn h1 h2
   rw[List.map_cons,List.nodup_cons]at hn
   rcases List.mem_cons.1 h1 with e1|h1
   ·rcases List.mem_cons.1 h2 with e2|h2
    ·rw[← e2]at e1;exact congrArg Prod.fst e1
    ·exact absurd (List.mem_map.2 ⟨_,h2,rfl⟩) (by rw[← e1]at hn;exact hn.1)
   ·rcases List.mem_cons.1 h2 with e2|h2
    ·exact absurd (List.mem_map.2 ⟨_,h1,rfl⟩) (by rw[← e2]at hn;exact hn.1)
    ·exact ih hn.2 h1 h2
 exact key A.names hn h1 h2
def Ej(l:List (ByteArray × Nat))(k nm:ByteArray)(f:Nat)(hk:Ab.cM l k=none):Ab.cM (l++[(k,f)]) nm=if nm=k then some f else Ab.cM l nm:=by
 unfold Ab.cM at hk ⊢
 rw[List.find?_append]
 by_cases h:nm=k
 ·subst h
  rw[if_pos rfl]
  cases hx:l.find? (fun x=>decide (x.1=nm))with
  | none=>simp
  | some x=>rw[hx]at hk;cases hk
 ·rw[if_neg h]
  cases hx:l.find? (fun x=>decide (x.1=nm))with
  | none=>simp;exact fun e=>h e.symm
  | some x=>simp
def I0{A:Ab}{f g:Nat}(names:List (ByteArray × Nat))(aw:List (List (ByteArray × Nat))):({ A with names:=names,aw:=aw,fs:=(f,[],[])::A.fs }:Ab).now g=if f=g then []else A.now g:=by
 unfold Ab.now Ab.file
 rw[List.find?_cons]
 by_cases h:f=g <;> simp[h]
def HA.create{A:Ab}(h:HA A){nm:ByteArray}{f:Nat}(hv:vw A nm=none)(hl:A.names.length<200)(hf:f ∉ A.fs.map (·.1)){e:Nat}{B:Ab}(hB:(e,B)=A.create true nm f) :
  e=0∧HA B∧(∀n,vw B n=if n=nm then some []else vw A n)∧B.names.length=A.names.length+1∧B.room=A.room:=by
 have oB:A.look nm=none:=by
  unfold vw at hv
  cases hx:A.look nm with
  | none=>rfl
  | some x=>rw[hx]at hv;cases hv
 have hc:A.create true nm f=(0,{ A.ni (A.names++[(nm,f)])with fs:=(f,[],[])::A.fs }):=by
  unfold Ab.create
  rw[h.meet,if_pos rfl]
  simp only
  rw[oB,if_neg (by simp),if_neg ag]
 rw[hc]at hB
 injection hB with h1 h2
 subst h1 h2
 have ada:∀n g,A.look n=some g→f≠g:=fun n g hg e=>hf (e ▸ h.known _ (gG hg))
 refine⟨rfl,⟨h.dS,h.on,?_,?_,?_,?_⟩,?_,?_,rfl⟩
 ·show((A.names++[(nm,f)]).map (·.1)).Nodup
  rw[List.map_append,List.nodup_append]
  refine⟨h.keys,by simp,fun a ha b hb=>?_⟩
  simp only[List.map_cons,List.map_nil,List.mem_singleton]at hb
  subst hb
  rintro rfl
  obtain⟨x,hx,OE⟩:=List.mem_map.1 ha
  have:=fu h.keys hx
  rw[OE,oB]at this
  cases this
 ·show((A.names++[(nm,f)]).map (·.2)).Nodup
  rw[List.map_append,List.nodup_append]
  refine⟨h.own,by simp,fun a ha b hb=>?_⟩
  simp only[List.map_cons,List.map_nil,List.mem_singleton]at hb
  subst hb
  rintro rfl
  obtain⟨x,hx,rfl⟩:=List.mem_map.1 ha
  exact hf (h.known x hx)
 ·exact List.nodup_cons.2 ⟨hf,h.ids⟩
 ·intro x hx
  rcases List.mem_append.1 hx with hx|hx
  ·exact List.mem_cons_of_mem _ (h.known x hx)
  ·simp only[List.mem_singleton]at hx
   subst hx
   exact List.mem_cons_self ..
 ·intro n
  unfold vw
  have e1:({ A.ni (A.names++[(nm,f)])with fs:=(f,[],[])::A.fs }:Ab).look n=if n=nm then some f else A.look n:=Ej A.names nm n f oB
  rw[e1]
  by_cases hn:n=nm
  ·rw[if_pos hn,if_pos hn]
   show some _=_
   exact congrArg some ((I0 _ _).trans (if_pos rfl))
  ·rw[if_neg hn,if_neg hn]
   cases hg:A.look n with
   | none=>rfl
   | some g=>exact congrArg some ((I0 _ _).trans (if_neg (ada n g hg)))
 ·show(A.names++[(nm,f)]).length=_
  simp
def N7(A:Ab)(f g:Nat)(n:List UInt8)(w:List (Nat × Nat × List UInt8))(hg:g∈A.fs.map (·.1)):({ A with fs:=Ab.BH A.fs f n,writes:=w }:Ab).now g=if g=f then n else A.now g:=by
 unfold Ab.now Ab.file Ab.BH
 simp only[List.find?_map]
 have:((fun x:Nat × List UInt8 × List UInt8=>decide (x.1=g)) ∘ fun x=>if x.1=f then(x.1,n,x.2.2)else x)=fun x=>decide (x.1=g):=by
  funext x
  simp only[Function.comp]
  split <;> rfl
 rw[this]
 cases hx:A.fs.find? (fun x=>decide (x.1=g))with
 | none =>
  obtain⟨y,hy,hyg⟩:=List.mem_map.1 hg
  have:=List.find?_eq_none.1 hx y hy
  simp[hyg]at this
 | some x =>
  have hxg:x.1=g:=by simpa using List.find?_some hx
  simp only[Option.map_some,Option.getD_some]
  by_cases EI:g=f
  ·rw[if_pos (hxg.trans EI),if_pos EI]
  ·rw[if_neg (fun e=>EI (hxg ▸ e)),if_neg EI]
def HA.write{A:Ab}(h:HA A){nm:ByteArray}{c:List UInt8}(hv:vw A nm=some c)(at_:Nat)(b:List UInt8)(hr:A.used+(at_+b.length)≤A.room){e:Nat}{B:Ab}(hB:(e,B)=A.write true nm at_ b) :
  e=0∧HA B∧(∀n,vw B n=if n=nm then some (bN c at_ b)else vw A n)∧B.names=A.names∧B.room=A.room:=by
 obtain⟨f,hf,rfl⟩:∃f,A.look nm=some f∧A.now f=c:=by
  unfold vw at hv
  cases hx:A.look nm with
  | none=>rw[hx]at hv;cases hv
  | some f=>rw[hx]at hv;injection hv with hv;exact⟨f,rfl,hv⟩
 have hc:A.write true nm at_ b=(0,{ A with fs:=Ab.BH A.fs f (bN (A.now f) at_ b),writes:=A.writes++[(f,at_,b)] }):=by
  unfold Ab.write
  rw[h.find,hf]
  dsimp only
  rw[if_pos rfl,if_neg ag]
 rw[hc]at hB
 injection hB with h1 h2
 subst h1 h2
 have aa4:∀g,g∈A.fs.map (·.1)→({ A with fs:=Ab.BH A.fs f (bN (A.now f) at_ b),writes:=A.writes++[(f,at_,b)] }:Ab).now g=if g=f then bN (A.now f) at_ b else A.now g:=fun g hg=>N7 A f g _ _ hg
 refine⟨rfl,⟨h.dS,h.on,h.keys,h.own,?_,?_⟩,?_,rfl,rfl⟩
 ·show((Ab.BH A.fs f _).map (·.1)).Nodup
  rw[sZ]
  exact h.ids
 ·intro x hx
  show x.2∈(Ab.BH A.fs f _).map (·.1)
  rw[sZ]
  exact h.known x hx
 ·intro n
  unfold vw
  show(A.look n).map _=_
  by_cases hn:n=nm
  ·subst hn
   rw[if_pos rfl,hf]
   exact congrArg some ((aa4 f (h.known _ (gG hf))).trans (if_pos rfl))
  ·rw[if_neg hn]
   cases hg:A.look n with
   | none=>rfl
   | some g=>exact congrArg some ((aa4 g (h.known _ (gG hg))).trans (if_neg (fun e=>hn (h.Q6 (e ▸ hg) hf))))
def Ar(fs:List (Nat × List UInt8 × List UInt8))(f:Nat):(Ab.nG fs f).map (·.1)=fs.map (·.1):=by
 unfold Ab.nG
 rw[List.map_map]
 refine List.map_congr_left fun x _=>?_
 simp only[Function.comp]
 split <;> rfl
def KQ(A:Ab)(f g:Nat)(w:List (Nat × Nat × List UInt8)):({ A with fs:=Ab.nG A.fs f,writes:=w }:Ab).now g=A.now g:=by
 unfold Ab.now Ab.file Ab.nG
 simp only[List.find?_map]
 have:((fun x:Nat × List UInt8 × List UInt8=>decide (x.1=g)) ∘ fun x=>if x.1=f then(x.1,x.2.1,x.2.1)else x)=fun x=>decide (x.1=g):=by
  funext x
  simp only[Function.comp]
  split <;> rfl
 rw[this]
 cases A.fs.find? (fun x=>decide (x.1=g))with
 | none=>rfl
 | some x =>
  simp only[Option.map_some,Option.getD_some]
  split <;> rfl
def HA.sync{A:Ab}(h:HA A){nm:ByteArray}{c:List UInt8}(hv:vw A nm=some c){e:Nat}{B:Ab}(hB:(e,B)=A.sync true nm) :
  e=0∧HA B∧(∀n,vw B n=vw A n)∧B.names=A.names∧B.room=A.room:=by
 obtain⟨f,hf⟩:∃f,A.look nm=some f:=by
  unfold vw at hv
  cases hx:A.look nm with
  | none=>rw[hx]at hv;cases hv
  | some f=>exact⟨f,rfl⟩
 have hc:A.sync true nm=(0,{ A with fs:=Ab.nG A.fs f,writes:=A.writes.filter fun x => !decide (x.1=f) }):=by
  unfold Ab.sync
  rw[h.find,hf]
  dsimp only
  rw[if_pos rfl]
 rw[hc]at hB
 injection hB with h1 h2
 subst h1 h2
 refine⟨rfl,⟨h.dS,h.on,h.keys,h.own,?_,?_⟩,?_,rfl,rfl⟩
 ·show((Ab.nG A.fs f).map (·.1)).Nodup
  rw[Ar]
  exact h.ids
 ·intro x hx
  show x.2∈(Ab.nG A.fs f).map (·.1)
  rw[Ar]
  exact h.known x hx
 ·intro n
  unfold vw
  show(A.look n).map _=_
  cases hg:A.look n with
  | none=>rfl
  | some g=>exact congrArg some (KQ A f g _)
def HA.ct{A:Ab}(h:HA A){e:Nat}{B:Ab}(hB:(e,B)=A.ct):e=0∧HA B∧(∀n,vw B n=vw A n)∧B.names=A.names∧B.room=A.room:=by
 have hc:A.ct=(0,{ A with aw:=[A.names] }):=by
  unfold Ab.ct
  rw[h.meet,if_pos rfl]
 rw[hc]at hB
 injection hB with h1 h2
 subst h1 h2
 exact⟨rfl,⟨h.dS,h.on,h.keys,h.own,h.ids,h.known⟩,fun n=>rfl,rfl,rfl⟩
def nQ(l:List (ByteArray × Nat))(k n:ByteArray):Ab.cM (Ab.dE l k) n=if n=k then none else Ab.cM l n:=by
 unfold Ab.cM Ab.dE
 induction l with
 | nil=>simp
 | cons x l ih =>
  rw[List.filter_cons]
  by_cases hx:x.1=k
  ·simp only[hx,decide_true,Bool.not_true,Bool.false_eq_true,if_false,List.find?_cons]
   rw[ih]
   by_cases hn:n=k
   ·simp[hn]
   ·have:¬k=n:=fun e=>hn e.symm
    simp[hn,this]
  ·simp only[hx,decide_false,Bool.not_false,if_true,List.find?_cons]
   by_cases hxn:x.1=n
   ·have:¬n=k:=fun e=>hx (hxn.trans e)
    simp[hxn,this]
   ·simp only[hxn,decide_false]
    exact ih
def HA.remove{A:Ab}(h:HA A){nm:ByteArray}{c:List UInt8}(hv:vw A nm=some c){e:Nat}{B:Ab}(hB:(e,B)=A.remove true nm) :
  e=0∧HA B∧(∀n,vw B n=if n=nm then none else vw A n)∧B.names=Ab.dE A.names nm∧B.room=A.room:=by
 obtain⟨f,hf⟩:∃f,A.look nm=some f:=by
  unfold vw at hv
  cases hx:A.look nm with
  | none=>rw[hx]at hv;cases hv
  | some f=>exact⟨f,rfl⟩
 have hc:A.remove true nm=(0,A.ni (Ab.dE A.names nm)):=by
  unfold Ab.remove
  rw[h.find,hf]
  rfl
 rw[hc]at hB
 injection hB with h1 h2
 subst h1 h2
 refine⟨rfl,⟨h.dS,h.on,?_,?_,h.ids,?_⟩,?_,rfl,rfl⟩
 ·exact(List.filter_sublist.map _).nodup h.keys
 ·exact(List.filter_sublist.map _).nodup h.own
 ·intro x hx
  exact h.known x (List.mem_filter.1 hx).1
 ·intro n
  unfold vw
  have e1:(A.ni (Ab.dE A.names nm)).look n=if n=nm then none else A.look n:=nQ A.names nm n
  rw[e1]
  by_cases hn:n=nm
  ·rw[if_pos hn,if_pos hn];rfl
  ·rw[if_neg hn,if_neg hn];rfl
def HA.rename{A:Ab}(h:HA A){o n:ByteArray}{c:List UInt8}(bZ:o≠n)(hv:vw A o=some c)(Jf:vw A n=none){e:Nat}{B:Ab}(hB:(e,B)=A.rename true o n) :
  e=0∧HA B∧(∀m,vw B m=if m=n then some c else if m=o then none else vw A m)∧B.room=A.room∧∃f,A.look o=some f∧B.names=Ab.dE A.names o++[(n,f)]:=by
 obtain⟨f,hf,rfl⟩:∃f,A.look o=some f∧A.now f=c:=by
  unfold vw at hv
  cases hx:A.look o with
  | none=>rw[hx]at hv;cases hv
  | some f=>rw[hx]at hv;injection hv with hv;exact⟨f,rfl,hv⟩
 have wu:A.look n=none:=by
  unfold vw at Jf
  cases hx:A.look n with
  | none=>rfl
  | some x=>rw[hx]at Jf;cases Jf
 have O0:Ab.cM (Ab.dE A.names o) n=none:=by
  rw[nQ]
  split
  ·rfl
  ·exact wu
 have iq:Ab.jT (Ab.dE A.names o) n f=Ab.dE A.names o++[(n,f)]:=by
  unfold Ab.jT
  rw[O0];simp
 have hc:A.rename true o n=(0,A.ni (Ab.dE A.names o++[(n,f)])):=by
  unfold Ab.rename
  rw[h.find,hf]
  show(0,A.ni (Ab.jT (Ab.dE A.names o) n f))=_
  rw[iq]
 rw[hc]at hB
 injection hB with h1 h2
 subst h1 h2
 have ef:∀x∈Ab.dE A.names o,x∈A.names∧x.1≠o:=fun x hx=>by
  obtain⟨h1,h2⟩:=List.mem_filter.1 hx
  exact⟨h1,by simpa using h2⟩
 refine⟨rfl,⟨h.dS,h.on,?_,?_,h.ids,?_⟩,?_,rfl,f,hf,rfl⟩
 ·show((Ab.dE A.names o++[(n,f)]).map (·.1)).Nodup
  rw[List.map_append,List.nodup_append]
  refine⟨(List.filter_sublist.map _).nodup h.keys,by simp,fun a ha b hb=>?_⟩
  simp only[List.map_cons,List.map_nil,List.mem_singleton]at hb
  subst hb
  rintro rfl
  obtain⟨x,hx,rfl⟩:=List.mem_map.1 ha
  have:=fu h.keys (ef x hx).1
  rw[wu]at this
  cases this
 ·show((Ab.dE A.names o++[(n,f)]).map (·.2)).Nodup
  rw[List.map_append,List.nodup_append]
  refine⟨(List.filter_sublist.map _).nodup h.own,by simp,fun a ha b hb=>?_⟩
  simp only[List.map_cons,List.map_nil,List.mem_singleton]at hb
  subst hb
  rintro rfl
  obtain⟨x,hx,OE⟩:=List.mem_map.1 ha
  have h3:=fu h.keys (ef x hx).1
  rw[OE]at h3
  exact(ef x hx).2 (h.Q6 h3 hf)
 ·intro x hx
  rcases List.mem_append.1 hx with hx|hx
  ·exact h.known x (ef x hx).1
  ·simp only[List.mem_singleton]at hx
   subst hx
   exact h.known (o,f) (gG hf)
 ·intro m
  unfold vw
  have e1:(A.ni (Ab.dE A.names o++[(n,f)])).look m=if m=n then some f else if m=o then none else A.look m:=by
   refine(Ej (Ab.dE A.names o) n m f O0).trans ?_
   rw[nQ]
   rfl
  rw[e1]
  by_cases hm:m=n
  ·rw[if_pos hm,if_pos hm];rfl
  ·rw[if_neg hm,if_neg hm]
   by_cases hmo:m=o
   ·rw[if_pos hmo,if_pos hmo];rfl
   ·rw[if_neg hmo,if_neg hmo];rfl
def Ng(d:Dg):(g9 d).all WV=true:=by
 rw[List.all_eq_true]
 intro x hx
 unfold g9 at hx
 obtain⟨i,_,rfl⟩:=List.mem_map.1 hx
 have h:=tq d i
 unfold lC at h
 unfold WV
 rw[decide_eq_true_eq]
 split at h
 ·rename_i h1;right;left;exact h1
 ·split at h
  ·rename_i h1;left;omega
  ·cases h
def vV(k:List UInt8)(d:Dg)(hk:k.length≤10)(ho:k.all WV=true):isName (dy k d)=true:=by
 unfold isName dy
 rw[sf]
 have hs:(strOf (k++g9 d)).size=k.length+64:=by
  show(k++g9 d).toArray.size=_
  rw[List.size_toArray,List.length_append,jB]
 rw[hs,List.all_append,ho,Ng]
 simp
 omega
def gH(x:Bl):isName (fS x)=true:=vV kS x.d (by decide) (by decide)
def AU(x:Bl):isName (fB x)=true:=vV kB x.d (by decide) (by decide)
def Fc(x y:Bl):fS x≠fB y:=fun h=>absurd (yS (by rfl) h) (by decide)
def Rg(x:Bl)(at_:Nat)(b:List UInt8)(h:at_+b.length≤1048576):fX (fS x) at_ b=true:=by
 unfold fX
 rw[gH]
 simp
 omega
def nc(A:Ab)(nm:ByteArray):sE A nm=(vw A nm).isSome:=by
 unfold sE vw
 cases A.look nm <;> rfl
def og{A:Ab}(h:HA A)(nm:ByteArray):fp A nm=vw A nm:=by
 unfold fp vw
 cases A.look nm with
 | none=>rfl
 | some f=>simp[h.on]
def Ga{q:Int}{x:Bl}{s t:e8}{e:Nat}(h:HA s.A)(hb:s.brk=false)(hr:bF x=true)(jN:gK s.bq x.d=none)(hB:vw s.A (fB x)=none)(hq:jR s+x.size≤q)(hS:vw s.A (fS x)=none)(hn:s.A.names.length<200)(hR:dU q x s e t) :
  e=0∧HA t.A∧t.brk=false∧t.bq=s.bq++[(x.d,x)]∧(∀n,vw t.A n=if n=fS x then some []else vw s.A n)∧t.A.names.length=s.A.names.length+1∧t.A.room=s.A.room:=by
 obtain⟨A,bq,brk⟩:=s
 simp only at h hb jN hB hS hn
 subst hb
 unfold dU at hR
 rw[if_neg (by simp),if_neg (by rw[hr];simp),if_neg (by rw[jN,nc,hB];simp),if_neg ag,if_neg (by rw[nc,hS];simp)]at hR
 obtain⟨e1,s1,⟨B,fU,rfl⟩,hc⟩:=hR
 obtain⟨e2,A2,⟨f,hf,QD⟩,mT⟩:=fU
 rw[gH]at QD
 obtain⟨rfl,h2,ry,rA,sR⟩:=h.create hS hn hf QD
 rcases mT with⟨bZ,_⟩|⟨_,e3,A3,OJ,XQ⟩
 ·exact absurd rfl bZ
 obtain⟨rfl,h3,hv3,Hy,YH⟩:=h2.ct OJ
 rcases XQ with⟨bZ,_⟩|⟨_,rfl,rfl⟩
 ·exact absurd rfl bZ
 rcases hc with⟨bZ,_⟩|⟨_,rfl,rfl⟩
 ·exact absurd rfl bZ
 exact⟨rfl,h3,rfl,rfl,fun n=>(hv3 n).trans (ry n),by rw[Hy];exact rA,YH.trans sR⟩
def Ij{x:Bl}{i at_ n:Int}{b c:List UInt8}{s t:e8}{e:Nat}(h:HA s.A)(hb:s.brk=false)(ho:gK s.bq x.d=some x)(iQ:dJ x i=some (at_,n))(hl:(b.length:Int)=n)(hv:vw s.A (fS x)=some c)(QG:0≤at_∧at_+b.length≤1048576)(qe:s.A.used+(at_.toNat+b.length)≤s.A.room)(hR:mY x i b s e t) :
  e=0∧HA t.A∧t.brk=false∧t.bq=s.bq∧(∀n,vw t.A n=if n=fS x then some (bN c at_.toNat b)else vw s.A n)∧t.A.names=s.A.names∧t.A.room=s.A.room:=by
 obtain⟨A,bq,brk⟩:=s
 simp only at h hb ho hv qe
 subst hb
 unfold mY at hR
 have hm:jh ⟨A,bq,false⟩ x=0:=by unfold jh tC;simp[ho]
 rw[hm,if_neg (by simp),iQ]at hR
 dsimp only at hR
 rw[if_neg ag]at hR
 obtain⟨B,⟨e1,A1,hw,hc⟩,rfl⟩:=hR
 unfold fL at hw
 rw[Rg x at_.toNat b ag]at hw
 obtain⟨rfl,h1,lz,Li,zL⟩:=h.write hv at_.toNat b qe hw
 rcases hc with⟨bZ,_⟩|⟨_,rfl,rfl⟩
 ·exact absurd rfl bZ
 exact⟨rfl,h1,rfl,rfl,lz,Li,zL⟩
def uD{x:Bl}{c:List UInt8}{s t:e8}{e:Nat}(h:HA s.A)(hb:s.brk=false)(ho:gK s.bq x.d=some x)(hv:vw s.A (fS x)=some c)(hR:gN x s e t) :
  e=0∧HA t.A∧t.brk=false∧t.bq=n9 s.bq x.d∧(∀n,vw t.A n=if n=fS x then none else vw s.A n)∧t.A.names=Ab.dE s.A.names (fS x)∧t.A.room=s.A.room:=by
 obtain⟨A,bq,brk⟩:=s
 simp only at h hb ho hv
 subst hb
 unfold gN at hR
 have hm:jh ⟨A,bq,false⟩ x=0:=by unfold jh tC;simp[ho]
 rw[hm,if_neg (by simp)]at hR
 obtain⟨s1,⟨B,⟨e1,A1,hw,hc⟩,rfl⟩,ht⟩:=hR
 unfold jg at hw
 rw[gH]at hw
 obtain⟨rfl,h1,lz,Li,zL⟩:=h.remove hv hw
 rcases hc with⟨bZ,_⟩|⟨_,rfl,rfl⟩
 ·exact absurd rfl bZ
 rw[if_neg (by simp)]at ht
 subst ht
 exact⟨rfl,h1,rfl,rfl,lz,Li,zL⟩
def wh{x:Bl}{c:List UInt8}{s t:e8}{e:Nat}(h:HA s.A)(hb:s.brk=false)(ho:gK s.bq x.d=some x)(hv:vw s.A (fS x)=some c)(hw:ej x c=false)(hR:dQ x s e t) :
  e=8∧HA t.A∧t.brk=false∧t.bq=n9 s.bq x.d∧(∀n,vw t.A n=if n=fS x then none else vw s.A n)∧t.A.names=Ab.dE s.A.names (fS x)∧t.A.room=s.A.room:=by
 have hm:jh s x=0:=by unfold jh tC;simp[hb,ho]
 unfold dQ at hR
 rw[hm,if_neg (by simp),og h,hv,if_pos (by exact hw)]at hR
 obtain⟨e1,pG,he⟩:=hR
 obtain⟨rfl,h1,h2,h3,h4,h5,h6⟩:=uD h hb ho hv pG
 rw[if_neg (by simp)]at he
 exact⟨he,h1,h2,h3,h4,h5,h6⟩
def zF{x:Bl}{c:List UInt8}{s t:e8}{e:Nat}(h:HA s.A)(hb:s.brk=false)(ho:gK s.bq x.d=some x)(hv:vw s.A (fS x)=some c)(jN:vw s.A (fB x)=none)(hw:ej x c=true)(hR:dQ x s e t) :
  e=0∧HA t.A∧t.brk=false∧t.bq=n9 s.bq x.d∧(∀n,vw t.A n=if n=fB x then some c else if n=fS x then none else vw s.A n)∧t.A.room=s.A.room∧∃f,t.A.names=Ab.dE s.A.names (fS x)++[(fB x,f)]:=by
 obtain⟨A,bq,brk⟩:=s
 simp only at h hb ho hv jN
 subst hb
 have hm:jh ⟨A,bq,false⟩ x=0:=by unfold jh tC;simp[ho]
 unfold dQ at hR
 rw[hm,if_neg (by simp),og h,hv,if_neg (by show ¬ej x c=false;rw[hw];simp)]at hR
 obtain⟨s1,⟨B,⟨e1,A1,h1,EW⟩,rfl⟩,ht⟩:=hR
 unfold fj at h1
 rw[gH]at h1
 obtain⟨rfl,g1,v1,l1,r1⟩:=h.sync hv h1
 rcases EW with⟨bZ,_⟩|⟨_,e2,A2,h2,mT⟩
 ·exact absurd rfl bZ
 unfold kW at h2
 rw[show [fS x,fB x].all isName=true from by simp[gH,AU]]at h2
 obtain⟨rfl,g2,v2,r2,f,_,l2⟩:=g1.rename (Fc x x) ((v1 _).trans hv) ((v1 _).trans jN) h2
 rcases mT with⟨bZ,_⟩|⟨_,e3,A3,h3,XQ⟩
 ·exact absurd rfl bZ
 obtain⟨rfl,g3,v3,l3,r3⟩:=g2.ct h3
 rcases XQ with⟨bZ,_⟩|⟨_,rfl,rfl⟩
 ·exact absurd rfl bZ
 rw[if_neg (by simp)]at ht
 subst ht
 refine⟨rfl,g3,rfl,rfl,fun n=>?_,r3.trans (r2.trans r1),f,by rw[l3,l2,l1]⟩
 rw[v3,v2]
 split
 ·rfl
 ·split
  ·rfl
  ·exact v1 n
def stE(bs bd:Nat)(q:Int)(mb:Nat):HP:=fun h=>∃b,ae bs (cl (eA bd q mb b) 113) h
def GD(bs bd:Nat)(q:Int)(mb:Nat)(b:Bool)(H:List HP):ao (ae bs (cl (eA bd q mb b) 113)::H) (stE bs bd q mb::H) :=
 ao.fold (B:=[_]) fun h' hs=>⟨h',sub.refl h',b,eU hs⟩
def Nk{G:cI}{w:World}{bs bd:Nat}{q:Int}{mb:Nat}{H:List HP}(hw:Sat G w (stE bs bd q mb::H)):w.cell? ⟨bs,0,none⟩=some (ptr bd):=by
 obtain⟨h,hh,b,hA⟩:=hw.lj (i:=0) rfl
 have hb:h bs=some (cl (eA bd q mb b) 113):=by rw[hA bs,if_pos rfl]
 exact dY hh (by unfold dm;rw[hb];rfl)
attribute [local irreducible] J K aE Ends ae az aQ bP bj aT aU bp bW Sha.chunks Sha.chunk Sha.rounds Sha.sched dW cH GI db aD
section
variable{P:Program}{f:FuncId}{n:Nat}{R:Ending→World→Prop}{G:cI}{L:fD}{H:List HP}{S:World→Prop}{all:Array Oper}{rest:Pl}
def acb{k k':List Item}{α:Type}(I:α→Prop)(Lf:α→fD)(Hf:α→List HP)(hk:ir 1000 k = .mk k')(tail:∀y,I y→K P f n R G k' (Lf y) (Hf y))(h:(∀y,I y→K P f n R G k' (Lf y) (Hf y))→J P f n R G S all rest k L H):J P f n R G S all rest k L H:=h tail
def Yv{k k':List Item}{α:Type}(m:Nat)(I:α→Prop)(Lf:α→fD)(Hf:α→List HP)(hk:ir 1000 (k.drop m) = .mk k')(tail:∀y,I y→K P f n R G k' (Lf y) (Hf y))(h:(∀y,I y→K P f n R G k' (Lf y) (Hf y))→J P f n R G S all rest k L H):J P f n R G S all rest k L H:=h tail
end
def M6{A:Ab}{bq:List (Dg × Bl)}{brk:Bool}(h:J6 A)(hb:pt bq):0≤jR ⟨A,bq,brk⟩∧jR ⟨A,bq,brk⟩≤1048786000000:=by
 have h1:=I3 bq (bq.map (·.1)) hb.1
 rw[Ed bq _ (fun x hx=>List.mem_map.2 ⟨x,hx,rfl⟩)]at h1
 have h2:=xp (h.nodup _ (List.mem_cons_self ..))
 have h3:=uP (fW A) (nO A) 1048576 (fun x _=>B9 h x)
 have h4:=sA h
 have h5:=hb.2
 unfold jR
 simp only
 rw[h2]
 omega
def PE(l:List (Dg × Bl))(x:Bl)(h:gK l x.d=none):nD (dx l) x.d (eS x)=dx (l++[(x.d,x)]):=by
 have hn:x.d ∉ (dx l).map (·.1):=by
  rw[← zk,rj,h];rfl
 unfold nD
 rw[if_neg hn]
 simp[dx]
def Gb(bs bd:Nat)(q:Int)(hq:0≤q∧q≤1073741824)(mb:Nat)(s:e8)(x:Bl)(Pb:pt s.bq)(cL:s.A.aw.length≤900000000)(eQ:s.A.writes.length≤900000000) :
  aE Tryz.prog 26 [ptr bs,eS x] (cC bs bd q mb s)
  (fun r H=>∃(e:Nat) (t:e8),r = .int .i64 (e:Int)∧H=cC bs bd q mb t∧dU q x s e t):=by
 obtain⟨A,bq,brk⟩:=s
 have aaR:=Sk bs bd q mb ⟨A,bq,brk⟩ Pb
 have oB:=rj bq x.d
 obtain⟨nw,pF⟩:=Pb
 simp only at cL eQ nw pF
 have sD:=om x
 have u7:=Sy bs bd q mb brk A x.d
 unfold dV at u7
 unfold eS at sD ⊢
 refine aE.au Tryz.func26 Tryz.ntmps26 fun G F R hE=>?_
 refine ai (H':=ae bs (cl (eA bd q mb brk) 113)::aQ dV mb (dx bq)::aD bd A::F) (ao.refl _) ?_
 refine aG rfl ?_
 refine bG zr zr bD ?_
 intro b2
 refine bG zr zr bD ?_
 intro b3
 refine pz ?_
 refine aH (fun w=>Sat G w ([ae b3 (cl (bJ x) 38),ae b2 (cl [ptr bs] 30),ae bs (cl (eA bd q mb brk) 113),aQ dV mb (dx bq)])) (df 0 10 (.act 10 (.act 11 (.st 12 .nil)))) rfl ak ak ak eo ?_
 refine acb (fun WX:Bool=>WX=(gK bq x.d).isSome) (fun WX=>[(2,ptr b2),(3,ptr b3),(6,.bool WX)]) (fun _=>ae b3 (cl (bJ x) 38)::ae b2 (cl [ptr bs] 30)::ae bs (cl (eA bd q mb brk) 113)::aQ dV mb (dx bq)::aD bd A::F) rfl ?_ ?_
 ·rintro WX RF
  have hB0:brk=true→dU q x ⟨A,bq,brk⟩ 10 ⟨A,bq,brk⟩:=fun h=>by unfold dU;rw[if_pos h];exact⟨rfl,rfl⟩
  have Y0:¬brk=true→bF x=false→dU q x ⟨A,bq,brk⟩ 1 ⟨A,bq,brk⟩:=fun h h1=>by unfold dU;rw[if_neg h,if_pos h1];exact⟨rfl,rfl⟩
  have hB2:¬brk=true→¬bF x=false→(WX=true∨sE A (fB x)=true)→dU q x ⟨A,bq,brk⟩ 5 ⟨A,bq,brk⟩:=fun h h1 h2=>by unfold dU;rw[RF]at h2;rw[if_neg h,if_neg h1,if_pos h2];exact⟨rfl,rfl⟩
  have hB3:∀e t,¬brk=true→¬bF x=false→¬(WX=true∨sE A (fB x)=true)→(if q<jR ⟨A,bq,brk⟩+x.size then e=11∧t=⟨A,bq,brk⟩
    else if sE A (fS x)then e=0∧t=⟨A,bq++[(x.d,x)],brk⟩
    else ∃e1 s1,CC [iE (fS x),dN] ⟨A,bq,brk⟩ e1 s1∧((e1≠0∧e=e1∧t=s1)∨(e1=0∧e=0∧t=⟨s1.A,s1.bq++[(x.d,x)],s1.brk⟩)))→dU q x ⟨A,bq,brk⟩ e t:=fun e t h h1 h2 h3=>by
   unfold dU;rw[RF]at h2;rw[if_neg h,if_neg h1,if_neg h2];exact h3
  cases brk with
  | true =>
   refine go ?_
   refine ai (H':=cC bs bd q mb ⟨A,bq,true⟩++F) ah ?_
   refine ad hE Tryz.func26 zr zr ⟨10,⟨A,bq,true⟩,rfl,rfl,hB0 rfl⟩
  | false =>
   refine uo (bd:=bd) (A:=A) 4 rfl ?_
   intro HC
   have hul:=M6 (brk:=false) HC ⟨nw,pF⟩
   refine go ?_
   refine aJ (U:=aS) (l:=bJ x) 0 zr zr zr zr zr zr ?_
   refine aO sD ?_
   cases hr:bF x with
   | false =>
    refine go ?_
    refine ai (H':=cC bs bd q mb ⟨A,bq,false⟩++F) ah ?_
    refine ad hE Tryz.func26 zr zr ⟨1,⟨A,bq,false⟩,rfl,rfl,Y0 (by simp) hr⟩
   | true =>
    have Hr:¬bF x=false:=by rw[hr];simp
    have SX:=hr
    simp only[bF,decide_eq_true_eq]at SX
    cases WX with
    | true =>
     refine go ?_
     refine ai (H':=cC bs bd q mb ⟨A,bq,false⟩++F) ah ?_
     refine ad hE Tryz.func26 zr zr ⟨5,⟨A,bq,false⟩,rfl,rfl,hB2 (by simp) Hr (.inl rfl)⟩
    | false =>
     refine go ?_
     refine dB 0 zr zr zr zr zr zr ?_
     ((refine go ?_;(refine aF u7 ?_)))
     rintro _ _⟨rfl,rfl⟩
     cases YS:sE A (dy kB x.d)with
     | true =>
      refine go ?_
      refine ai (H':=cC bs bd q mb ⟨A,bq,false⟩++F) ah ?_
      refine ad hE Tryz.func26 zr zr ⟨5,⟨A,bq,false⟩,rfl,rfl,hB2 (by simp) Hr (.inr YS)⟩
     | false =>
      have jN:¬(false=true∨sE A (fB x)=true):=by
       have:sE A (fB x)=false:=YS
       rw[this];simp
      refine go ?_
      refine aH (fun w=>Sat G w ([ae b3 (cl (bJ x) 38),ae b2 (cl [ptr bs] 30),ae bs (cl (eA bd q mb false) 113)])) (.st 0 (.st 2 (.st 3 (df 5 4 (.act 1 (.st 4 (.st 9 (.st 10 .nil)))))))) rfl ak ak ak eo ?_
      refine go ?_
      refine bC aaR ?_
      refine go ?_
      refine aq zr zr ?_ ?_
      ·intro hqu
       have QA:q<jR ⟨A,bq,false⟩+x.size:=hqu
       refine go ?_
       refine ai (H':=cC bs bd q mb ⟨A,bq,false⟩++F) ah ?_
       ((refine ad hE Tryz.func26 zr zr ⟨11,⟨A,bq,false⟩,rfl,rfl,hB3 _ _ (by simp) Hr jN (by rw[if_pos QA];exact⟨rfl,rfl⟩)⟩))
      ·intro hqu
       have QA:¬q<jR ⟨A,bq,false⟩+x.size:=hqu
       refine ai (H':=ae b3 (cl (bJ x) 38)::ae b2 (cl [ptr bs] 30)::ae bs (cl (eA bd q mb false) 113)::aQ dV mb (dx bq)::aD bd A::F) ah (go ?_)
       refine dB 0 zr zr zr zr zr zr ?_
       refine aO (vf x) ?_
       refine aC zr zr zr bD ?_
       intro b7
       refine go ?_
       refine aO (Oz bs bd q mb false A (fS x)) ?_
       refine Yv 1 (fun B:Ab=>dU q x ⟨A,bq,false⟩ 0 ⟨B,bq++[(x.d,x)],false⟩) (fun B=>[(2,ptr b2),(3,ptr b3)]) (fun B=>ae b3 (cl (bJ x) 38)::ae b2 (cl [ptr bs] 30)::ae bs (cl (eA bd q mb false) 113)::aQ dV mb (dx bq)::aD bd B::F) rfl ?_ ?_
       ·intro B XY
        have iq:=PE bq x (by cases h:gK bq x.d with|none=>rfl|some y=>rw[h]at RF;cases RF)
        refine aH (fun w=>Sat G w ([ae b3 (cl (bJ x) 38),ae b2 (cl [ptr bs] 30),ae bs (cl (eA bd q mb false) 113)])) (df 0 7 (.act 7 .nil)) rfl ak ak ak eo ?_
        refine go ?_
        refine cD (U:=aS) 0 zr zr zr zr zr zr (go ?_)
        refine cD (U:=aS) (cs:=bJ x) 0 zr zr zr zr zr zr (go ?_)
        refine jq (es:=dx bq) (key:=x.d) (v:=eS x) 3 Rj (fun _ _=>by exact trivial) zr zr zr zr zr zr zr zr ?_
        rw[iq]
        refine go ?_
        refine ai (H':=cC bs bd q mb ⟨B,bq++[(x.d,x)],false⟩++F) ah ?_
        refine ad hE Tryz.func26 zr zr ⟨0,⟨B,bq++[(x.d,x)],false⟩,rfl,rfl,XY⟩
       ·intro tail
        cases hsf:sE A (fS x)with
        | true =>
         refine go ?_
         refine pC tail A rfl (hB3 _ _ (by simp) Hr jN (by rw[if_neg QA,if_pos hsf];exact⟨rfl,rfl⟩)) cm ah
        | false =>
         have u5:∀(i:Nat) (fv:Value) (sp:Bt),[.func (.func 78) #[] #[ptr b2,ptr b7],.func (.func 63) #[ptr bd] #[] ][i]?=some fv→[iE (fS x),dN][i]?=some sp→∃g fi cap,fv = .func (.func g) fi cap∧∀y,GQ A i y→aE Tryz.prog g (fi.toList++cap.toList) [nE bs bd q mb false (Sep [ae b2 (cl [ptr bs] 30),ae b7 (cl [.string (fS x)] 9)]) y] (fun r H=>∃(e:Nat) (x':Ab),r = .int .i64 (e:Int)∧H=[nE bs bd q mb false (Sep [ae b2 (cl [ptr bs] 30),ae b7 (cl [.string (fS x)] 9)]) x']∧sp y e x'∧(e=0→GQ A (i+1) x')):=by
          intro i fv sp hi hs
          match i,hi,hs with
          | 0,hi,hs =>
           cases hi;cases hs
           refine⟨_,_,_,rfl,fun y hy=>?_⟩
           refine(o6 (p:=iE (fS x) y) (H5 bs bd b2 b7 q mb false (fS x) y (by have:=hy.1;omega))).post ?_
           rintro r H⟨e,B,rfl,rfl,h1⟩
           exact⟨e,B,rfl,rfl,h1,fun _=>hy.next (rR h1)⟩
          | 1,hi,hs =>
           cases hi;cases hs
           refine⟨_,_,_,rfl,fun y hy=>(I2 bs bd q mb false [ae b2 (cl [ptr bs] 30),ae b7 (cl [.string (fS x)] 9)] y).post ?_⟩
           rintro r H⟨e,B,rfl,rfl,h1⟩
           exact⟨e,B,rfl,rfl,h1,fun _=>hy.next (iS h1)⟩
          | k+2,hi,hs=>simp at hi
         refine go ?_
         refine aH (fun w=>Sat G w [stE bs bd q mb,ae b2 (cl [ptr bs] 30)]) (df 0 7 (.act 7 (.act 8 (.st 9 .nil)))) rfl ak ak ak (fun w hw=>hw.cN (ao.trans (H2:=[ae bs (cl (eA bd q mb false) 113),ae b2 (cl [ptr bs] 30)]) ah (GD bs bd q mb _ _))) ?_
         refine go ?_
         refine aK ?_
         refine lY zr zr (fun w hw=>Nk hw) zr zr ?_
         refine go ?_
         refine aj (cs:=[.func (.func 78) #[] #[ptr b2,ptr b7],.func (.func 63) #[ptr bd] #[] ]) zr zr zr zr zr zr zr zr zr (fun _ w hw=>by exact hw.cN (ao.trans (H2:=[ae bs (cl (eA bd q mb false) 113),ae b2 (cl [ptr bs] 30)]) ah (GD bs bd q mb _ _))) ?_
         intro row
         have EU:=lk bs bd q mb false (Sep [ae b2 (cl [ptr bs] 30),ae b7 (cl [.string (fS x)] 9)]) (ae row (cl [.func (.func 78) #[] #[ptr b2,ptr b7],.func (.func 63) #[ptr bd] #[] ] 82)) (.slice (some ⟨row,0,none⟩) 2 2) [.func (.func 78) #[] #[ptr b2,ptr b7],.func (.func 63) #[ptr bd] #[] ] (Vw.ae rfl) (by show 2≤_;omega) [iE (fS x),dN] rfl (GQ A) u5 A (GQ.zero A)
         refine aI (H':=ae row (cl [.func (.func 78) #[] #[ptr b2,ptr b7],.func (.func 63) #[ptr bd] #[] ] 82)::nE bs bd q mb false (Sep [ae b2 (cl [ptr bs] 30),ae b7 (cl [.string (fS x)] 9)]) A::aQ dV mb (dx bq)::ae b3 (cl (bJ x) 38)::F) (ao.trans (H2:=ae bs (cl (eA bd q mb false) 113)::aD bd A::([ae b2 (cl [ptr bs] 30),ae b7 (cl [.string (fS x)] 9)]++(ae row (cl [.func (.func 78) #[] #[ptr b2,ptr b7],.func (.func 63) #[ptr bd] #[] ] 82)::aQ dV mb (dx bq)::ae b3 (cl (bJ x) 38)::F))) ah (ao.trans (uQ bs bd q mb false _ A _) ah)) ?_
         refine fq zr zr zr zr EU ah ?_ (fun _ _ w hp hw=>by
          obtain⟨e,B,rfl,rfl,fU,_⟩:=hp
          exact hw.cN (ao.trans (ao.pick [1] rfl) (ao.trans (oH bs bd q mb (or false (decide (e≠0))) _ B _) (ao.trans (H2:=[ae bs (cl (eA bd q mb (or false (decide (e≠0)))) 113),ae b2 (cl [ptr bs] 30)]) ah (GD bs bd q mb _ _)))))
         rintro _ _⟨e,B,rfl,rfl,fU,-⟩
         refine aI (ao.trans (ao.pick [1] rfl) (oH bs bd q mb (or false (decide (e≠0))) _ B _)) ?_
         have lg:∀e' t,(∃e1 s1,CC [iE (fS x),dN] ⟨A,bq,false⟩ e1 s1∧((e1≠0∧e'=e1∧t=s1)∨(e1=0∧e'=0∧t=⟨s1.A,s1.bq++[(x.d,x)],s1.brk⟩)))→dU q x ⟨A,bq,false⟩ e' t:=fun e' t h=>hB3 e' t (by simp) Hr jN (by rw[if_neg QA,if_neg (by rw[hsf];simp)];exact h)
         refine go ?_
         refine aq zr zr ?_ ?_
         ·intro Xo
          have he:e≠0:=by omega
          refine go ?_
          refine ai (H':=cC bs bd q mb ⟨B,bq,or false (decide (e≠0))⟩++F) ah ?_
          refine ad hE Tryz.func26 zr zr ⟨e,⟨B,bq,or false (decide (e≠0))⟩,rfl,rfl,lg _ _ ⟨e,_,⟨B,fU,rfl⟩,.inl ⟨he,rfl,rfl⟩⟩⟩
         ·intro XG
          have he:e=0:=by omega
          subst he
          refine go ?_
          refine pC tail B rfl (lg _ _ ⟨0,_,⟨B,fU,rfl⟩,.inr ⟨rfl,rfl,rfl⟩⟩) cm ah
 ·intro tail
  refine go ?_
  refine cD (U:=aS) 0 zr zr zr zr zr zr (go ?_)
  refine qC (U:=aS) (es:=dx bq) (key:=x.d) rfl Rj zr zr zr zr zr zr zr (fun w hw=>hw.o5 (i:=3) rfl) ?_
  rw[rj]
  cases hb:gK bq x.d with
  | none =>
   rw[hb]at tail
   simp only[Option.map_none,Option.getD_none,Option.isSome_none]
   refine go ?_
   refine aC zr zr zr (fun _ w hw=>hw.cN ah) ?_
   intro b5
   refine pz ?_
   (refine aV ?_;(refine cp 0 eo zr zr zr zr zr zr zr zr zr ?_))
   refine pz ?_
   refine pC tail false zr zr cm ah
  | some y =>
   rw[hb]at tail
   simp only[Option.map_some,Option.getD_some,Option.isSome_some]
   unfold eS
   refine go ?_
   refine aC zr zr zr (fun _ w hw=>hw.cN ah) ?_
   intro b5
   refine pz ?_
   (refine aV ?_;(refine cp 0 eo zr zr zr zr zr zr zr zr zr ?_))
   refine pz ?_
   refine pC tail true zr zr cm ah
end Go.Proofs.YtdigdgohdpeebaaGreatDoor
namespace Go.Proofs.YtdigdgohdpeebaaGreatDoor
open Go Go.SL
variable{A:Ab}{x:Bl}{e:Nat}{s t:e8}
attribute [local irreducible] J K aE Ends ae az aQ bP bj aT aU bp bW Sha.chunks Sha.chunk Sha.rounds Sha.sched dW cH GI db aD
def Hc(h:A.names=[]):fW A=[]:=by
 have:=jV A
 rw[h]at this
 exact List.length_eq_zero_iff.1 this
def pP{kind:List UInt8}{right:Ab→Dg→Bool}{B:Ab}(h:A.names=[])(hs:eJ kind right A e B):e=0∧B=A:=by
 unfold eJ at hs
 rw[Hc h]at hs
 exact hs
def zt{B:Ab}(h:A.names=[])(ho:pq A e B):e=0∧B=A:=by
 obtain⟨e1,A1,⟨e2,A2,h2,c2⟩,lg⟩:=ho
 obtain⟨rfl,rfl⟩:=pP h h2
 rcases c2 with⟨bZ,_⟩|⟨_,e3,A3,h3,c3⟩
 ·exact absurd rfl bZ
 obtain⟨rfl,rfl⟩:=pP h h3
 rcases c3 with⟨bZ,_⟩|⟨_,e4,A4,h4,c4⟩
 ·exact absurd rfl bZ
 obtain⟨rfl,rfl⟩:=pP h h4
 rcases c4 with⟨bZ,_⟩|⟨_,rfl,rfl⟩
 ·exact absurd rfl bZ
 rw[if_neg ag]at lg
 exact lg
def pb{b:List UInt8}{k:Int}(h:gx b k=some x):bF x=true∧x.size=b.length∧x.piece=k∧ej x b=true:=by
 have h0:=h
 unfold gx dt at h
 split at h
 ·rename_i hr
  simp only[Option.map_some,Option.some.injEq]at h
  subst h
  refine⟨?_,rfl,rfl,?_⟩
  ·simpa[bF]using hr
  ·unfold ej;simpa using h0
 ·cases h
def PA:∃x,gx [7] 16=some x:=by
 unfold gx dt
 rw[if_pos (by decide)]
 exact⟨_,rfl⟩
def Dx(h:bF x=true)(h1:x.size=1)(h2:x.piece=16):dJ x 0=some (0,1):=by
 unfold dJ cq
 rw[if_pos h,h1,h2,if_neg ag]
 simp
 omega
def iM(n:Nat)(s t:e8):Prop:=t.A.aw.length≤s.A.aw.length+n∧t.A.writes.length≤s.A.writes.length+n
def Lx(ss:List Bt)(hs:∀sp∈ss,∀A e B,sp A e B→j5 A B)(A:Ab)(e:Nat)(B:Ab)(h:iA ss A e B):B.aw.length≤A.aw.length+ss.length∧B.writes.length≤A.writes.length+ss.length:=by
 induction ss generalizing A with
 | nil=>obtain⟨_,rfl⟩:=h;exact⟨Nat.le_refl _,Nat.le_refl _⟩
 | cons sp ss ih =>
  obtain⟨e1,A1,h1,hc⟩:=h
  have g:=hs sp (List.mem_cons_self ..) _ _ _ h1
  have g1:=g.1
  have g2:=g.2
  simp only[List.length_cons]
  rcases hc with⟨_,_,rfl⟩|⟨_,h2⟩
  ·omega
  ·have:=ih (fun s h=>hs s (List.mem_cons_of_mem _ h)) A1 h2
   omega
def nZ{ss:List Bt}(hs:∀sp∈ss,∀A e B,sp A e B→j5 A B){e:Nat}(h:CC ss s e t):iM ss.length s t:=by
 obtain⟨B,h,rfl⟩:=h
 exact Lx ss hs _ _ _ h
def iM.mono{m n:Nat}(h:iM m s t)(YM:m≤n):iM n s t:=⟨by have:=h.1;omega,by have:=h.2;omega⟩
def iM.refl(n:Nat)(s:e8):iM n s s:=⟨ag,ag⟩
def ln{q:Int}(h:dU q x s e t):iM 2 s t:=by
 unfold dU at h
 split at h
 ·exact h.2 ▸ iM.refl _ _
 split at h
 ·exact h.2 ▸ iM.refl _ _
 split at h
 ·exact h.2 ▸ iM.refl _ _
 split at h
 ·exact h.2 ▸ iM.refl _ _
 split at h
 ·rw[h.2];exact iM.refl 2 s
 ·obtain⟨e1,s1,hc,hd⟩:=h
  have g:=nZ (ss:=[iE (fS x),dN]) (fun sp iQ A e B hh=>by
   simp only[List.mem_cons,List.not_mem_nil,or_false]at iQ
   rcases iQ with rfl|rfl
   ·exact rR hh
   ·exact iS hh) hc
  rcases hd with⟨_,_,rfl⟩|⟨_,_,rfl⟩ <;> exact g
def oq{i:Int}{b:List UInt8}(h:mY x i b s e t):iM 1 s t:=by
 unfold mY at h
 split at h
 ·exact h.2 ▸ iM.refl _ _
 split at h
 ·exact h.2 ▸ iM.refl _ _
 split at h
 ·exact h.2 ▸ iM.refl _ _
 ·exact nZ (fun sp iQ A e B hh=>by
   simp only[List.mem_cons,List.not_mem_nil,or_false]at iQ
   subst iQ
   exact tQ hh) h
def qF(h:gN x s e t):iM 1 s t:=by
 unfold gN at h
 split at h
 ·exact h.2 ▸ iM.refl _ _
 ·obtain⟨s1,hc,rfl⟩:=h
  have g:=nZ (fun sp iQ A e B hh=>by
   simp only[List.mem_cons,List.not_mem_nil,or_false]at iQ
   subst iQ
   exact ny hh) hc
  split <;> exact g
def rY(h:dQ x s e t):iM 3 s t:=by
 unfold dQ at h
 split at h
 ·exact h.2 ▸ iM.refl _ _
 split at h
 ·obtain⟨e1,h1,_⟩:=h
  exact(qF h1).mono ag
 ·obtain⟨s1,hc,rfl⟩:=h
  have g:=nZ (ss:=Ec (fS x) (fB x)) (fun sp iQ A e B hh=>by
   simp only[Ec,List.mem_cons,List.not_mem_nil,or_false]at iQ
   rcases iQ with rfl|rfl|rfl
   ·exact nf hh
   ·exact rQ hh
   ·exact iS hh) hc
  split <;> exact g
def wF(h:HA A)(m:Nat)(hm:∀n c,vw A n=some c→c.length≤m):A.used≤A.names.length*m:=by
 unfold Ab.used
 refine uP A.names _ m fun x hx=>?_
 refine hm x.1 _ ?_
 unfold vw
 rw[fu h.keys hx]
 rfl
def IZ(b:Nat)(x:UInt8):eM (ae b (cl (bV [x]) 5)) (.slice (some ⟨b,0,none⟩) 1 1) [x]:=⟨Vw.ae rfl,_,_,rfl,Nat.le_refl _⟩
end Go.Proofs.YtdigdgohdpeebaaGreatDoor
namespace Go.Proofs.YtdigdgohdpeebaaGreatDoor
open Go Go.SL
variable{A B:Ab}{k nm:ByteArray}{d:Dg}{K':List ByteArray}{e f:Nat}
abbrev Vm:=ByteArray→Option (List UInt8)
structure pB(K:List ByteArray)(v:Vm):Prop where
 nd:K.Nodup
 mem:∀n,n∈K↔(v n).isSome=true
def rn(w:ByteArray→List UInt8→Nat)(K:List ByteArray)(v:Vm):Nat:=(K.map fun k=>w k ((v k).getD [])).sum
def eK(v:Vm)(k:ByteArray)(o:Option (List UInt8)):Vm:=fun n=>if n=k then o else v n
def dp(v:Vm)(k:ByteArray)(o:Option (List UInt8)):eK v k o k=o:=if_pos rfl
def dH(v:Vm){n:ByteArray}(o:Option (List UInt8))(h:n≠k):eK v k o n=v n:=if_neg h
def DA(v:Vm)(k:ByteArray)(o p:Option (List UInt8)):eK (eK v k o) k p=eK v k p:=by
 funext n
 unfold eK
 split <;> rfl
def Kn(v:Vm)(k:ByteArray):eK v k (v k)=v:=by
 funext n
 unfold eK
 split
 ·rename_i h;rw[h]
 ·rfl
def IP{v:Vm}{o:Option (List UInt8)}(h:v k=o):eK v k o=v:=by rw[← h];exact Kn v k
def pB.perm{K:List ByteArray}{v:Vm}(h:pB K v)(h':pB K' v):K.Perm K':=(List.perm_ext_iff_of_nodup h.nd h'.nd).2 fun n=>(h.mem n).trans (h'.mem n).symm
def xu{K:List ByteArray}{v:Vm}(w:ByteArray→List UInt8→Nat)(h:pB K v)(h':pB K' v):rn w K v=rn w K' v:=((h.perm h').map _).sum_nat
def pB.add{K:List ByteArray}{v:Vm}(h:pB K v)(hk:v k=none)(c:List UInt8):pB (k::K) (eK v k (some c)):=by
 refine⟨List.nodup_cons.2 ⟨fun hm=>?_,h.nd⟩,fun n=>?_⟩
 ·have:=(h.mem k).1 hm
  rw[hk]at this;cases this
 ·rw[List.mem_cons]
  by_cases hn:n=k
  ·simp[hn,dp]
  ·rw[dH _ _ hn,← h.mem n]
   simp[hn]
def pB.del{K:List ByteArray}{v:Vm}(h:pB K v)(k:ByteArray):pB (K.filter fun n => !decide (n=k)) (eK v k none):=by
 refine⟨List.filter_sublist.nodup h.nd,fun n=>?_⟩
 rw[List.mem_filter]
 by_cases hn:n=k
 ·simp[hn,dp]
 ·rw[dH _ _ hn,← h.mem n]
  simp[hn]
def wG{K:List ByteArray}{v:Vm}{c:List UInt8}(w:ByteArray→List UInt8→Nat)(h:pB K v)(h':pB K' (eK v k (some c)))(hk:v k=none):rn w K' (eK v k (some c))=w k c+rn w K v:=by
 rw[xu w h' (h.add hk c)]
 unfold rn
 rw[List.map_cons,List.sum_cons,dp]
 congr 1
 have hnk:∀n∈K,n≠k:=fun n hn e=>by
  have:=(h.mem n).1 hn
  rw[e,hk]at this;cases this
 exact congrArg List.sum (List.map_congr_left fun x hx=>by rw[dH _ _ (hnk x hx)])
def QQ{K:List ByteArray}{v:Vm}{c:List UInt8}(w:ByteArray→List UInt8→Nat)(h:pB K v)(h':pB K' (eK v k none))(hk:v k=some c):rn w K v=w k c+rn w K' (eK v k none):=by
 have h2:eK (eK v k none) k (some c)=v:=by rw[DA];exact IP hk
 have:=wG (K':=K) (c:=c) w h' (by rw[h2];exact h) (dp _ _ _)
 rwa[h2]at this
def QP{K:List ByteArray}{v:Vm}{c c':List UInt8}(w:ByteArray→List UInt8→Nat)(h:pB K v)(h':pB K' (eK v k (some c')))(hk:v k=some c):rn w K' (eK v k (some c'))+w k c=rn w K v+w k c':=by
 have hd:=h.del k
 have h1:=QQ w h hd hk
 have h2:eK (eK v k none) k (some c')=eK v k (some c'):=DA ..
 have h3:=wG (K':=K') (c:=c') w hd (by rw[h2];exact h') (dp _ _ _)
 rw[h2]at h3
 omega
def Nc{K:List ByteArray}{v:Vm}(w1 w2:ByteArray→List UInt8→Nat)(h:∀n∈K,w1 n ((v n).getD [])≤w2 n ((v n).getD [])):rn w1 K v≤rn w2 K v:=by
 unfold rn
 revert h
 induction K with
 | nil=>intro _;exact Nat.le_refl _
 | cons x l ih =>
  intro h
  have h1:=h x (List.mem_cons_self ..)
  have h2:=ih fun n hn=>h n (List.mem_cons_of_mem _ hn)
  simp only[List.map_cons,List.sum_cons]
  omega
def Nb{K:List ByteArray}{v:Vm}(w1 w2:ByteArray→List UInt8→Nat):rn (fun n c=>w1 n c+w2 n c) K v=rn w1 K v+rn w2 K v:=by
 unfold rn
 induction K with
 | nil=>rfl
 | cons x l ih =>
  simp only[List.map_cons,List.sum_cons]
  simp only at ih
  omega
def BI(K:List ByteArray)(v:Vm)(m:Nat):rn (fun _ _=>m) K v=K.length*m:=by
 unfold rn
 induction K with
 | nil=>simp
 | cons x l ih =>
  simp only[List.map_cons,List.sum_cons,List.length_cons,Nat.add_mul,Nat.one_mul]at ih ⊢
  omega
def mem_keys(h:HA A)(n:ByteArray):n∈ei A↔(vw A n).isSome=true:=by
 unfold ei vw
 constructor
 ·intro hn
  obtain⟨x,hx,rfl⟩:=List.mem_map.1 hn
  rw[fu h.keys hx]
  rfl
 ·intro hn
  cases hl:A.look n with
  | none=>rw[hl]at hn;cases hn
  | some f=>exact List.mem_map.2 ⟨_,gG hl,rfl⟩
def HA.BK(h:HA A):pB (ei A) (vw A):=⟨h.keys,mem_keys h⟩
def El(_:ByteArray)(c:List UInt8):Nat:=c.length
def rp(k:ByteArray)(c:List UInt8):Nat:=if(jG kB k).isSome then c.length else 0
def N6(h:HA A){x:ByteArray × Nat}(hx:x∈A.names):A.now x.2=(vw A x.1).getD []:=by
 unfold vw
 rw[fu h.keys hx]
 rfl
def jQ(h:HA A):A.used=rn El (ei A) (vw A):=by
 unfold Ab.used rn ei El
 rw[List.map_map]
 exact congrArg List.sum (List.map_congr_left fun x hx=>by simp only[Function.comp];rw[N6 h hx])
def Aq(h:HA A):rF A=rn rp (ei A) (vw A):=by
 unfold rF rn ei rp
 rw[List.map_map]
 exact congrArg List.sum (List.map_congr_left fun x hx=>by simp only[Function.comp];rw[N6 h hx])
def nT(A:Ab):(ei A).length=A.names.length:=by unfold ei;rw[List.length_map]
def I7(A:Ab):A.names.length=rn (fun _ _=>1) (ei A) (vw A):=by rw[BI,nT];omega
def fI(d:Dg):ByteArray:=dy kI d
def fN(d:Dg):ByteArray:=dy kN d
def pA(d:Dg):ByteArray:=dy kB d
def iz(d:Dg):ByteArray:=dy kS d
def Es{j k:List UInt8}(hl:j.length=k.length)(A5:j≠k)(a b:Dg):dy j a≠dy k b:=fun h=>A5 (yS hl h)
def HA.JH(h:HA A)(hv:vw A nm=none)(hl:A.names.length<200)(hf:f ∉ A.fs.map (·.1))(hB:(e,B)=A.create true nm f) :
  e=0∧HA B∧vw B=eK (vw A) nm (some [])∧B.room=A.room :=
 let ⟨h1,h2,h3,_,h5⟩:=h.create hv hl hf hB;⟨h1,h2,funext h3,h5⟩
def HA.uK(h:HA A){c:List UInt8}(hv:vw A nm=some c)(at_:Nat)(b:List UInt8)(hr:A.used+(at_+b.length)≤A.room)(hB:(e,B)=A.write true nm at_ b) :
  e=0∧HA B∧vw B=eK (vw A) nm (some (bN c at_ b))∧B.room=A.room :=
 let ⟨h1,h2,h3,_,h5⟩:=h.write hv at_ b hr hB;⟨h1,h2,funext h3,h5⟩
def HA.xB(h:HA A){c:List UInt8}(hv:vw A nm=some c)(hB:(e,B)=A.sync true nm) :
  e=0∧HA B∧vw B=vw A∧B.room=A.room :=
 let ⟨h1,h2,h3,_,h5⟩:=h.sync hv hB;⟨h1,h2,funext h3,h5⟩
def HA.xC(h:HA A)(hB:(e,B)=A.ct):e=0∧HA B∧vw B=vw A∧B.room=A.room :=
 let ⟨h1,h2,h3,_,h5⟩:=h.ct hB;⟨h1,h2,funext h3,h5⟩
def HA.IT(h:HA A){o n:ByteArray}{c:List UInt8}(bZ:o≠n)(hv:vw A o=some c)(Jf:vw A n=none)(hB:(e,B)=A.rename true o n) :
  e=0∧HA B∧vw B=eK (eK (vw A) o none) n (some c)∧B.room=A.room :=
 let ⟨h1,h2,h3,h4,_⟩:=h.rename bZ hv Jf hB;⟨h1,h2,funext h3,h4⟩
def HA.pJ(h:HA A)(h':HA B){c:List UInt8}(hk:vw A k=none)(hv:vw B=eK (vw A) k (some c)):B.used=A.used+c.length∧B.names.length=A.names.length+1:=by
 have hs:=h'.BK
 rw[hv]at hs
 have h1:=wG El h.BK hs hk
 have h2:=wG (fun _ _=>1) h.BK hs hk
 rw[jQ h,jQ h',hv,I7 A,I7 B,hv]
 have h3:El k c=c.length:=rfl
 omega
def HA.qa(h:HA A)(h':HA B)(hv:∀n,(vw B n).isSome=(vw A n).isSome):B.names.length=A.names.length:=by
 rw[← nT,← nT]
 exact((List.perm_ext_iff_of_nodup h'.keys h.keys).2 fun n=>(mem_keys h' n).trans ((by rw[hv n]):_↔_) |>.trans (mem_keys h n).symm).length_eq
def PD{l:List (Dg × Bl)}{y:Bl}(h:gK l d=some y):(d,y)∈l:=by
 unfold gK at h
 cases hx:l.find? (fun x=>decide (x.1=d))with
 | none=>rw[hx]at h;cases h
 | some x =>
  rw[hx]at h
  injection h with h
  have h1:=List.mem_of_find?_eq_some hx
  have h2:x.1=d:=by simpa using List.find?_some hx
  rw[← h2,← h]
  exact h1
def LR(l:List (Dg × Bl))(d d':Dg):gK (n9 l d) d'=if d'=d then none else gK l d':=by
 unfold gK n9
 rw[List.find?_filter]
 by_cases h:d'=d
 ·subst h
  rw[if_pos rfl,List.find?_eq_none.2 (fun x _=>by simp)]
  rfl
 ·rw[if_neg h]
  have:(fun a:Dg × Bl=>decide ((!decide (a.1=d))=true∧decide (a.1=d')=true))=fun a=>decide (a.1=d'):=by
   funext a
   by_cases ha:a.1=d'
   ·simp[ha,h]
   ·simp[ha]
  rw[this]
def Fs(l:List (Dg × Bl))(x:Bl)(d:Dg)(h:gK l x.d=none):gK (l++[(x.d,x)]) d=if d=x.d then some x else gK l d:=by
 unfold gK at h ⊢
 rw[List.find?_append]
 by_cases hd:d=x.d
 ·subst hd
  rw[if_pos rfl]
  cases hx:l.find? (fun z=>decide (z.1=x.d))with
  | none=>simp
  | some z=>rw[hx]at h;cases h
 ·rw[if_neg hd]
  have:¬x.d=d:=fun e=>hd e.symm
  cases hx:l.find? (fun z=>decide (z.1=d)) <;> simp[this]
def Si{l:List (Dg × Bl)}(h:gK l d=none):d ∉ l.map (·.1):=fun hm=>by
 obtain⟨x,hx,rfl⟩:=List.mem_map.1 hm
 unfold gK at h
 cases hf:l.find? (fun z=>decide (z.1=x.1))with
 | none=>have:=List.find?_eq_none.1 hf x hx;simp at this
 | some z=>rw[hf]at h;cases h
def Pu{l:List (Dg × Bl)}{x:Dg × Bl}(h:x∈n9 l d):x∈l:=(List.mem_filter.1 h).1
def cS:ByteArray:=strOf [112,105,101,99,101,115]
def gT(k:List UInt8)(d:Dg):dy k d≠cS:=fun h=>by
 have h1:=congrArg (fun s:ByteArray=>s.data.toList.length) h
 simp only[dy,cS,strOf,List.length_append,jB]at h1
 simp at h1
def wE(k:ByteArray):Nat:=if k=cS then 100000 else 0
def TE:∀(K:List ByteArray),K.Nodup→(K.map wE).sum≤100000:=by
 intro K
 induction K with
 | nil=>intro _;exact Nat.zero_le _
 | cons k K ih =>
  intro hK
  rw[List.nodup_cons]at hK
  rw[List.map_cons,List.sum_cons]
  by_cases hk:k=cS
  ·have h0:K.map wE=K.map fun _=>0:=List.map_congr_left fun x hx=>by
    unfold wE
    rw[if_neg (fun e=>hK.1 (by rw[hk,← e];exact hx))]
   have h1:(K.map fun _:ByteArray=>0).sum=0:=by
    clear ih hK h0
    induction K with
    | nil=>rfl
    | cons y K ih=>simpa using ih
   rw[h0,h1]
   unfold wE
   rw[if_pos hk]
   omega
  ·have:=ih hK.2
   unfold wE at this ⊢
   rw[if_neg hk]
   omega
def Ct{a b:Dg}(h:iz a=iz b):a=b:=Bf h
def Jv{a b:Dg}(h:pA a=pA b):a=b:=Bf h
def kF(a b:Dg):iz a≠pA b:=Es (by rfl) (by decide) a b
def LG(a b:Dg):iz a≠fI b:=Es (by rfl) (by decide) a b
def LF(a b:Dg):iz a≠fN b:=Es (by rfl) (by decide) a b
def LJ(a b:Dg):pA a≠fI b:=Es (by rfl) (by decide) a b
def LH(a b:Dg):pA a≠fN b:=Es (by rfl) (by decide) a b
def sg{kind:List UInt8}{right:Ab→Dg→Bool}(l:List ByteArray)(h:∀nm∈l,∀d,jG kind nm=some d→right A d=true)(hs:mH kind right l A e B):e=0∧B=A:=by
 induction l with
 | nil=>exact hs
 | cons nm l ih =>
  have Hl:=ih fun n hn=>h n (List.mem_cons_of_mem _ hn)
  unfold mH at hs
  cases hh:jG kind nm with
  | none=>rw[hh]at hs;exact Hl hs
  | some d =>
   rw[hh]at hs
   simp only at hs
   rw[if_pos (h nm (List.mem_cons_self ..) d hh)]at hs
   exact Hl hs
def yf(h:HA A)(n:ByteArray):n∈fW A↔(vw A n).isSome=true:=by
 rw[(vP A).mem_iff]
 exact mem_keys h n
def KX{s:e8}{x:Bl}(hb:s.brk=false):jh s x=if gK s.bq x.d=some x then 0 else 4:=by
 unfold jh tC
 rw[if_neg (by rw[hb];simp)]
 by_cases h:gK s.bq x.d=some x <;> simp[h]
def abT(x:Bl):fS x=iz x.d:=rfl
def Gu{x:Bl}{b:List UInt8}(h:ej x b=true):x.size=b.length∧dW b=x.d:=by
 unfold ej gx dt at h
 simp only[decide_eq_true_eq]at h
 split at h
 ·simp only[Option.map_some,Option.some.injEq]at h
  rw[← h]
  exact⟨rfl,rfl⟩
 ·cases h
def kR{fs:List (Nat × List UInt8 × List UInt8)}(u:Nat × List UInt8 × List UInt8→Nat × List UInt8 × List UInt8)(hu:∀x,(u x).1=x.1)(f:Nat) :
  (fs.map u).find? (fun x=>decide (x.1=f))=(fs.find? (fun x=>decide (x.1=f))).map u:=by
 induction fs with
 | nil=>rfl
 | cons x l ih =>
  simp only[List.map_cons,List.find?_cons,hu]
  by_cases h:x.1=f
  ·simp[h]
  ·simp[h,ih]
def yO{fs:List (Nat × List UInt8 × List UInt8)}(h:f∈fs.map (·.1)):∃x,fs.find? (fun x=>decide (x.1=f))=some x∧x.1=f:=by
 obtain⟨y,hy,hyf⟩:=List.mem_map.1 h
 cases hx:fs.find? (fun x=>decide (x.1=f))with
 | none=>exact absurd hyf (by simpa using List.find?_eq_none.1 hx y hy)
 | some x=>exact⟨x,rfl,by simpa using List.find?_some hx⟩
def Fa(A:Ab)(u:Nat × List UInt8 × List UInt8→Nat × List UInt8 × List UInt8)(hu:∀x,(u x).1=x.1)(h:f∈A.fs.map (·.1)):({ A with fs:=A.fs.map u }:Ab).file f=(u (f,A.file f)).2:=by
 obtain⟨x,hx,hxf⟩:=yO h
 simp only[Ab.file]
 rw[kR u hu,hx]
 obtain⟨a,b⟩:=x
 simp only at hxf
 subst hxf
 rfl
def wK(fs:List (Nat × List UInt8 × List UInt8))(u:Nat × List UInt8 × List UInt8→Nat × List UInt8 × List UInt8)(hu:∀x,(u x).1=x.1):(fs.map u).map (·.1)=fs.map (·.1):=by
 rw[List.map_map]
 exact List.map_congr_left fun x _=>hu x
def BG(fs:List (Nat × List UInt8 × List UInt8))(k f:Nat)(s:List UInt8)(h:k≠f):(Ab.s9 fs k s).find? (fun x=>decide (x.1=f))=fs.find? (fun x=>decide (x.1=f)):=by
 unfold Ab.s9
 rw[kR _ (fun x=>by split <;> rfl)]
 cases hx:fs.find? (fun x=>decide (x.1=f))with
 | none=>rfl
 | some x =>
  have:x.1=f:=by simpa using List.find?_some hx
  have bZ:¬x.1=k:=by rw[this];exact fun e=>h e.symm
  simp[bZ]
def sB(stay:List UInt8)(dK cut:Int)(f:Nat):∀(ws:List (Nat × Nat × List UInt8)) (i:Nat) (fs:List (Nat × List UInt8 × List UInt8)),(∀w∈ws,w.1≠f) →
  (Ab.jE stay dK cut i ws fs).find? (fun x=>decide (x.1=f))=fs.find? (fun x=>decide (x.1=f))
 | [],i,fs,_=>rfl
 | w::ws,i,fs,h=>by
  unfold Ab.jE
  split
  ·exact sB stay dK cut f ws (i+1) fs (fun v hv=>h v (List.mem_cons_of_mem _ hv))
  ·rw[sB stay dK cut f ws (i+1) _ (fun v hv=>h v (List.mem_cons_of_mem _ hv)),BG _ _ _ _ (h w (List.mem_cons_self ..))]
def tI(stay:List UInt8)(dK cut:Int):∀(ws:List (Nat × Nat × List UInt8)) (i:Nat) (fs:List (Nat × List UInt8 × List UInt8)),(Ab.jE stay dK cut i ws fs).map (·.1)=fs.map (·.1)
 | [],i,fs=>rfl
 | w::ws,i,fs=>by
  unfold Ab.jE
  split
  ·exact tI stay dK cut ws (i+1) fs
  ·rw[tI stay dK cut ws (i+1) _]
   unfold Ab.s9
   exact wK _ _ (fun x=>by split <;> rfl)
structure Mv(A B:Ab):Prop where
 names:B.names=A.names
 aw:B.aw=A.aw
 fs:B.fs=A.fs
 writes:B.writes=A.writes
 room:B.room=A.room
def Mv.refl(A:Ab):Mv A A:=⟨rfl,rfl,rfl,rfl,rfl⟩
def yg(A:Ab)(ok:Bool):Mv A (A.meet ok).2:=by
 unfold Ab.meet
 split
 ·exact Mv.refl A
 split
 ·exact Mv.refl A
 split
 ·exact Mv.refl A
 split
 ·exact⟨rfl,rfl,rfl,rfl,rfl⟩
 split <;> exact⟨rfl,rfl,rfl,rfl,rfl⟩
def tT(A:Ab)(nm:ByteArray)(ok:Bool):Mv A (A.find nm ok).2.2∧((A.find nm ok).1=0→∃f,A.look nm=some f∧(A.find nm ok).2.1=some f):=by
 have hm:=yg A ok
 unfold Ab.find
 split
 ·have hl:(A.meet ok).2.look nm=A.look nm:=by unfold Ab.look;rw[hm.names]
  rw[hl]
  cases A.look nm with
  | none=>exact⟨hm,fun h=>absurd h (by simp)⟩
  | some f=>exact⟨hm,fun _=>⟨f,rfl,rfl⟩⟩
 ·rename_i h
  exact⟨hm,fun h2=>absurd h2 h⟩
def Re{ok:Bool}(h:(A.meet ok).1=0):(A.meet ok).2.off=false∧A.off=false:=by
 unfold Ab.meet at h ⊢
 by_cases h1:ok=false
 ·rw[if_pos h1]at h;cases h
 rw[if_neg h1]at h ⊢
 by_cases h2:A.off=true
 ·rw[if_pos h2]at h;cases h
 rw[if_neg h2]at h ⊢
 have h2':A.off=false:=by simpa using h2
 cases hp:A.dS with
 | nil=>exact⟨h2',h2'⟩
 | cons x p =>
  rw[hp]at h
  simp only at h ⊢
  split
  ·rename_i hx;rw[if_pos hx]at h;cases h
  ·rename_i hx
   rw[if_neg hx]at h
   split
   ·rename_i hy;rw[if_pos hy]at h;cases h
   ·exact⟨h2',h2'⟩
def RZ{ok:Bool}(h:(A.find nm ok).1=0):(A.find nm ok).2.2.off=false:=by
 unfold Ab.find at h ⊢
 split
 ·rename_i h0
  split <;> exact(Re h0).1
 ·rename_i h0
  rw[if_neg h0]at h
  exact absurd h h0
def Cv(h:iE nm A e B):(e≠0∧Mv A B)∨(e=0∧A.look nm=none∧∃f,f ∉ A.fs.map (·.1)∧B.names=A.names++[(nm,f)]∧B.aw=A.aw++[A.names++[(nm,f)]]∧B.fs=(f,[],[])::A.fs∧B.writes=A.writes):=by
 obtain⟨f,hf,hc⟩:=h
 have hm:=yg A (isName nm)
 unfold Ab.create at hc
 have hl:(A.meet (isName nm)).2.look nm=A.look nm:=by unfold Ab.look;rw[hm.names]
 split at hc
 ·split at hc
  ·injection hc with h1 h2;subst h1 h2;exact .inl ⟨ag,hm⟩
  split at hc
  ·injection hc with h1 h2;subst h1 h2;exact .inl ⟨ag,hm⟩
  ·rename_i h1 h2 h3
   injection hc with h4 h5
   subst h4 h5
   refine .inr ⟨rfl,?_,f,hf,by simp[Ab.ni,hm.names],by simp[Ab.ni,hm.names,hm.aw],by simp[hm.fs],hm.writes⟩
   rw[hl]at h2
   cases hx:A.look nm with
   | none=>rfl
   | some g=>rw[hx]at h2;exact absurd rfl h2
 ·rename_i h1
  injection hc with h2 h3;subst h2 h3;exact .inl ⟨h1,hm⟩
def BX(h:jg nm A e B):(e≠0∧Mv A B)∨(e=0∧(∃f,A.look nm=some f)∧B.names=Ab.dE A.names nm∧B.aw=A.aw++[Ab.dE A.names nm]∧B.fs=A.fs∧B.writes=A.writes∧B.off=false):=by
 have hf:=tT A nm (isName nm)
 have hon := @RZ A nm (isName nm)
 unfold jg Ab.remove at h
 generalize hx:A.find nm (isName nm)=r at h hf hon
 obtain⟨e1,o,A1⟩:=r
 obtain⟨hq,hs⟩:=hf
 simp only at hq hs h hon
 by_cases h0:e1=0
 ·subst h0
  obtain⟨f,h1,rfl⟩:=hs rfl
  simp only at h
  injection h with h2 h3
  subst h2 h3
  exact .inr ⟨rfl,⟨f,h1⟩,by simp[Ab.ni,hq.names],by simp[Ab.ni,hq.names,hq.aw],hq.fs,hq.writes,hon rfl⟩
 ·have:(e,B)=(e1,A1):=by
   cases e1 with
   | zero=>exact absurd rfl h0
   | succ n=>exact h
  injection this with h2 h3
  subst h2 h3
  exact .inl ⟨h0,hq⟩
def BW{o:ByteArray}(h:kW o nm A e B):(e≠0∧Mv A B)∨(e=0∧∃f,A.look o=some f∧B.names=Ab.jT (Ab.dE A.names o) nm f∧B.aw=A.aw++[Ab.jT (Ab.dE A.names o) nm f]∧B.fs=A.fs∧B.writes=A.writes):=by
 have hf:=tT A o ([o,nm].all isName)
 unfold kW Ab.rename at h
 generalize hx:A.find o ([o,nm].all isName)=r at h hf
 obtain⟨e1,oo,A1⟩:=r
 obtain⟨hq,hs⟩:=hf
 simp only at hq hs h
 by_cases h0:e1=0
 ·subst h0
  obtain⟨f,h1,rfl⟩:=hs rfl
  simp only at h
  injection h with h2 h3
  subst h2 h3
  exact .inr ⟨rfl,f,h1,by simp[Ab.ni,hq.names],by simp[Ab.ni,hq.names,hq.aw],hq.fs,hq.writes⟩
 ·have:(e,B)=(e1,A1):=by
   cases e1 with
   | zero=>exact absurd rfl h0
   | succ n=>exact h
  injection this with h2 h3
  subst h2 h3
  exact .inl ⟨h0,hq⟩
def vC{at_:Nat}{b:List UInt8}(h:fL nm at_ b A e B):(e≠0∧Mv A B)∨(e=0∧∃f,A.look nm=some f∧B.names=A.names∧B.aw=A.aw∧B.fs=Ab.BH A.fs f (bN (A.now f) at_ b)∧B.writes=A.writes++[(f,at_,b)]):=by
 have hf:=tT A nm (fX nm at_ b)
 unfold fL Ab.write at h
 generalize hx:A.find nm (fX nm at_ b)=r at h hf
 obtain⟨e1,oo,A1⟩:=r
 obtain⟨hq,hs⟩:=hf
 simp only at hq hs h
 by_cases h0:e1=0
 ·subst h0
  obtain⟨f,h1,rfl⟩:=hs rfl
  rw[if_pos rfl]at h
  simp only at h
  split at h
  ·injection h with h2 h3
   subst h2 h3
   exact .inl ⟨ag,hq⟩
  ·injection h with h2 h3
   subst h2 h3
   have hn:A1.now f=A.now f:=by unfold Ab.now Ab.file;rw[hq.fs]
   exact .inr ⟨rfl,f,h1,hq.names,hq.aw,by simp only;rw[hq.fs,hn],by simp only;rw[hq.writes]⟩
 ·rw[if_neg h0]at h
  injection h with h2 h3
  subst h2 h3
  exact .inl ⟨h0,hq⟩
def xA(h:fj nm A e B):(e≠0∧Mv A B)∨(e=0∧∃f,A.look nm=some f∧B.names=A.names∧B.aw=A.aw∧B.fs=Ab.nG A.fs f∧B.writes=A.writes.filter fun x => !decide (x.1=f)):=by
 have hf:=tT A nm (isName nm)
 unfold fj Ab.sync at h
 generalize hx:A.find nm (isName nm)=r at h hf
 obtain⟨e1,oo,A1⟩:=r
 obtain⟨hq,hs⟩:=hf
 simp only at hq hs h
 by_cases h0:e1=0
 ·subst h0
  obtain⟨f,h1,rfl⟩:=hs rfl
  rw[if_pos rfl]at h
  simp only at h
  injection h with h2 h3
  subst h2 h3
  exact .inr ⟨rfl,f,h1,hq.names,hq.aw,by simp only;rw[hq.fs],by simp only;rw[hq.writes]⟩
 ·rw[if_neg h0]at h
  injection h with h2 h3
  subst h2 h3
  exact .inl ⟨h0,hq⟩
def wi(h:dN A e B):(e≠0∧Mv A B)∨(e=0∧B.names=A.names∧B.aw=[A.names]∧B.fs=A.fs∧B.writes=A.writes):=by
 have hm:=yg A true
 unfold dN Ab.ct at h
 split at h
 ·injection h with h1 h2
  subst h1 h2
  exact .inr ⟨rfl,hm.names,by simp[hm.names],hm.fs,hm.writes⟩
 ·rename_i h0
  injection h with h1 h2
  subst h1 h2
  exact .inl ⟨h0,hm⟩
abbrev Nms:=List (ByteArray × Nat)
def Hg(l:Nms)(k nm:ByteArray)(f:Nat):Ab.cM (l++[(k,f)]) nm=(Ab.cM l nm).or (if nm=k then some f else none):=by
 unfold Ab.cM
 rw[List.find?_append]
 cases hx:l.find? (fun x=>decide (x.1=nm))with
 | some x=>simp
 | none =>
  by_cases h:nm=k
  ·simp[h]
  ·have:¬k=nm:=fun e=>h e.symm
   simp[h,this]
def tV(h:B.fs=A.fs)(f:Nat):B.file f=A.file f:=by unfold Ab.file;rw[h]
def Pn(h:B.fs=(f,[],[])::A.fs)(g:Nat):B.file g=if f=g then([],[])else A.file g:=by
 unfold Ab.file
 rw[h,List.find?_cons]
 by_cases he:f=g <;> simp[he]
def yQ{c:List UInt8}(h:B.fs=Ab.BH A.fs f c){g:Nat}(hg:g∈A.fs.map (·.1)):B.file g=if g=f then(c,(A.file g).2)else A.file g:=by
 have h1:B.file g=({ A with fs:=A.fs.map fun x=>if x.1=f then(x.1,c,x.2.2)else x }:Ab).file g:=tV h g
 rw[h1,Fa A (fun x=>if x.1=f then(x.1,c,x.2.2)else x) (fun x=>by split <;> rfl) hg]
 by_cases he:g=f <;> simp[he]
def vd(h:B.fs=Ab.nG A.fs f){g:Nat}(hg:g∈A.fs.map (·.1)):B.file g=if g=f then((A.file g).1,(A.file g).1)else A.file g:=by
 have h1:B.file g=({ A with fs:=A.fs.map fun x=>if x.1=f then(x.1,x.2.1,x.2.1)else x }:Ab).file g:=tV h g
 rw[h1,Fa A (fun x=>if x.1=f then(x.1,x.2.1,x.2.1)else x) (fun x=>by split <;> rfl) hg]
 by_cases he:g=f <;> simp[he]
def Rl(h:B.fs=(f,[],[])::A.fs):B.fs.map (·.1)=f::A.fs.map (·.1):=by rw[h];rfl
def Jc{c:List UInt8}(h:B.fs=Ab.BH A.fs f c):B.fs.map (·.1)=A.fs.map (·.1):=by rw[h];exact wK _ _ (fun x=>by split <;> rfl)
def Eu(h:B.fs=Ab.nG A.fs f):B.fs.map (·.1)=A.fs.map (·.1):=by rw[h];exact wK _ _ (fun x=>by split <;> rfl)
def Cl(A:Ab)(f:Nat):Prop:=(A.file f).2=(A.file f).1∧∀w∈A.writes,w.1≠f
def HU(last:Int)(stay:List UInt8)(dK cut:Int)(hf:f∈A.fs.map (·.1))(hr:f∈Ab.reach (A.aw++[(A.dA last stay dK cut).names])):(A.dA last stay dK cut).file f=(((A.dA last stay dK cut).file f).1,((A.dA last stay dK cut).file f).1)∧(Cl A f→(A.dA last stay dK cut).file f=A.file f):=by
 have EH:=tI stay dK cut A.writes 0 A.fs
 have e9:f∈(Ab.jE stay dK cut 0 A.writes A.fs).map (·.1):=by rw[EH];exact hf
 obtain⟨x,hx,hxf⟩:=yO e9
 have ml:(A.dA last stay dK cut).file f=(x.2.2,x.2.2):=by
  have Hr:=hr
  simp only[Ab.dA]at Hr ⊢
  unfold Ab.file
  simp only
  rw[kR _ (fun x=>by split <;> rfl),hx]
  simp only[Option.map_some,Option.getD_some]
  rw[if_pos (by rw[hxf];exact Hr)]
 refine⟨by rw[ml],fun hc=>?_⟩
 have hl:=sB stay dK cut f A.writes 0 A.fs hc.2
 have hA:A.file f=x.2:=by
  unfold Ab.file
  rw[← hl,hx]
  rfl
 have h2:=hc.1
 rw[hA]at h2
 rw[ml,hA]
 exact Prod.ext h2 rfl
end Go.Proofs.YtdigdgohdpeebaaGreatDoor
namespace Go.SL
open Go
abbrev jl:=BitVec 64
def Na(x:jl):Value := .int .u64 (x.toNat:Int)
def qV(l:List jl):List Value:=l.map Na
def GY(l:List jl):(qV l).length=l.length:=by simp[qV]
def BZ{l:List jl}{i:Nat}{x:jl}(h:l[i]?=some x):(qV l)[i]?=some (Na x):=by simp[qV,h]
def NJ(l:List jl)(i:Nat)(x:jl):(qV l).set i (Na x)=qV (l.set i x):=by simp[qV]
def BD(n:Nat):IntKind.u64.wrap (n:Int)=((n%18446744073709551616:Nat):Int):=by
 simp[IntKind.wrap,IntKind.bits,IntKind.signed]
def nP(p:jl):BitVec.ofInt IntKind.u64.bits ((p.toNat:Nat):Int)=p:=by
 apply BitVec.eq_of_toNat_eq
 have h:IntKind.u64.bits=64:=rfl
 rw[BitVec.toNat_ofInt]
 have:=p.isLt
 show(((p.toNat:Nat):Int)%((2 ^ 64:Nat):Int)).toNat=p.toNat
 omega
section
variable{P:Program}{U:Tr}[hU:fV P U]{f:FuncId}{n:Nat}{R:Ending→World→Prop}{G:cI}{k:List Item}{L:fD}{H H':List HP}{S:World→Prop}{all:Array Oper}{rest:Pl}{ty:TypeId}{pos:String}{af:Array Edge}{gd:Option (Nat × Bool)}{m:Bool}{d:Tmp}
def vv{t yt:TypeId}{x y:Operand}{p q:jl}(hd:Nat.blt d n=true)(hx:ev L x=some (.int .u64 (p.toNat:Int)))(hy:ev L y=some (.int .u64 (q.toNat:Int)))(h:J P f n R G S all rest k ((d,.int .u64 ((p+q).toNat:Int))::L) H):J P f n R G S all (.cons m true ⟨some d,.binOp .add t x y yt,ty,pos,af,gd⟩ rest) k L H:=by
 refine Iu hd hx hy ?_
 have e:IntKind.u64.wrap ((p.toNat:Int)+(q.toNat:Int))=((p+q).toNat:Int):=by
  rw[← Int.natCast_add,BD,BitVec.toNat_add]
 rw[e];exact h
def mZ(p:jl):IntKind.u64.wrap (p.toNat:Int)=(p.toNat:Int):=by
 rw[BD];have:=p.isLt;congr 1;omega
def qB{t yt:TypeId}{x y:Operand}{p:jl}{j':IntKind}{q:Int}(s:Nat)(hd:Nat.blt d n=true)(hx:ev L x=some (.int .u64 (p.toNat:Int)))(hy:ev L y=some (.int j' q))(hq:q=(s:Int))(hs:s≤64)(h:J P f n R G S all rest k ((d,.int .u64 ((p >>> s).toNat:Int))::L) H):J P f n R G S all (.cons m true ⟨some d,.binOp .shr t x y yt,ty,pos,af,gd⟩ rest) k L H:=by
 subst hq
 refine jo hd hx hy ag ?_
 have e:(p.toNat:Int)/2 ^ (min ((s:Int).toNat) IntKind.u64.bits)=((p >>> s).toNat:Int):=by
  rw[BitVec.toNat_ushiftRight,Nat.shiftRight_eq_div_pow,Int.toNat_natCast,show min s IntKind.u64.bits=s from by show min s 64=s;omega]
  simp
 rw[e];exact h
def Yq{t yt:TypeId}{x y:Operand}{p:jl}{j':IntKind}{q:Int}(s:Nat)(hd:Nat.blt d n=true)(hx:ev L x=some (.int .u64 (p.toNat:Int)))(hy:ev L y=some (.int j' q))(hq:q=(s:Int))(hs:s≤64)(h:J P f n R G S all rest k ((d,.int .u64 ((p <<< s).toNat:Int))::L) H):J P f n R G S all (.cons m true ⟨some d,.binOp .shl t x y yt,ty,pos,af,gd⟩ rest) k L H:=by
 subst hq
 refine mK hd hx hy ag ?_
 have e:IntKind.u64.wrap ((p.toNat:Int)*2 ^ (min ((s:Int).toNat) IntKind.u64.bits))=((p <<< s).toNat:Int):=by
  rw[BitVec.toNat_shiftLeft,Nat.shiftLeft_eq,Int.toNat_natCast,show min s IntKind.u64.bits=s from by show min s 64=s;omega]
  rw[show(p.toNat:Int)*2 ^ s=((p.toNat*2 ^ s:Nat):Int)from by simp,BD]
 rw[e];exact h
end
end Go.SL
namespace Go.Proofs.YtdigdgohdpeebaaGreatDoor
open Go Go.SL
variable{i n:Nat}
def fT(n i:Nat):Option Nat:=if i%2=1 then some (i-1)else if i+1<n then some (i+1)else none
def nz:Nat→Nat→Nat→Nat
 | 0,_,_=>0
 | f+1,n,i=>if n≤1 then 0 else(if(fT n i).isSome then 1 else 0)+nz f ((n+1)/2) (i/2)
def eX(n i:Int):Nat:=if 1≤n∧n≤1024∧0≤i∧i<n then nz n.toNat n.toNat i.toNat else 0
def dv:Nat→List Dg→Nat→List Dg
 | 0,_,_=>[]
 | f+1,l,i=>if l.length≤1 then []else((fT l.length i).bind fun s=>l[s]?).toList++dv f (bH l) (i/2)
def zb:Nat→Nat→Nat→Dg→List Dg→Dg
 | 0,_,_,x,_=>x
 | f+1,n,i,x,p=>if n≤1 then x else match fT n i with
  | none=>zb f ((n+1)/2) (i/2) x p
  | some s=>zb f ((n+1)/2) (i/2) (if s<i then iv (p.headD Dg.zero) x else iv x (p.headD Dg.zero)) p.tail
def kG(root:Dg)(n i:Int)(x:Dg)(p:List Dg):Bool:=decide ((1≤n∧n≤1024∧0≤i∧i<n)∧p.length=eX n i∧zb n.toNat n.toNat i.toNat x p=root)
def dw(x:Bl)(i:Int)(b:List UInt8)(p:List Dg):Bool:=match dJ x i with
 | none=>false
 | some (_,m)=>decide ((b.length:Int)=m) && kG x.root (cq x) i (db b) p
def HQ(f n i:Nat)(hn:n≤1):nz f n i=0:=by
 cases f with
 | zero=>rfl
 | succ f=>unfold nz;rw[if_pos hn]
def pV:∀(f g:Nat) (l:List Dg) (i:Nat),l.length≤f→l.length≤g→dv f l i=dv g l i
 | 0,0,_,_,_,_=>rfl
 | 0,g+1,l,i,hf,_=>by
  unfold dv
  rw[if_pos ag]
 | f+1,0,l,i,_,hg=>by
  unfold dv
  rw[if_pos ag]
 | f+1,g+1,l,i,hf,hg=>by
  unfold dv
  split
  ·rfl
  ·rw[pV f g (bH l) (i/2) (by rw[cY];omega) (by rw[cY];omega)]
def D0(f:Nat)(l:List Dg)(i:Nat)(hf:l.length≤f)(hn:1<l.length):dv f l i=((fT l.length i).bind fun s=>l[s]?).toList++dv f (bH l) (i/2):=by
 rw[pV f (f+1) l i hf ag]
 conv=>lhs;unfold dv
 rw[if_neg ag]
def G0(f:Nat)(l:List Dg)(i:Nat)(hn:l.length≤1):dv f l i=[]:=by
 cases f with
 | zero=>rfl
 | succ f=>unfold dv;rw[if_pos hn]
def BN{s:Nat}(hi:i<n)(h:fT n i=some s):s<n∧s/2=i/2∧s≠i:=by
 unfold fT at h
 split at h
 ·injection h with h;omega
 ·split at h
  ·injection h with h;omega
  ·cases h
def xX:∀(f:Nat) (l:List Dg) (i:Nat),i<l.length→(dv f l i).length=nz f l.length i
 | 0,_,_,_=>rfl
 | f+1,l,i,hi=>by
  unfold dv nz
  split
  ·rfl
  ·have ih:=xX f (bH l) (i/2) (by rw[cY];omega)
   rw[List.length_append,ih,cY]
   congr 1
   cases hs:fT l.length i with
   | none=>rfl
   | some s =>
    obtain⟨h1,_⟩:=BN hi hs
    simp[List.getElem?_eq_getElem h1]
def vj:∀(k f n i:Nat),n≤2 ^ k→nz f n i≤k
 | 0,f,n,i,h=>by rw[HQ f n i (by simpa using h)];exact Nat.le_refl _
 | k+1,0,n,i,h=>Nat.zero_le _
 | k+1,f+1,n,i,h=>by
  unfold nz
  split
  ·exact Nat.zero_le _
  ·have:=vj k f ((n+1)/2) (i/2) (by rw[Nat.pow_succ]at h;omega)
   split <;> omega
def rh(n i:Int):eX n i≤10:=by
 unfold eX
 split
 ·rename_i h
  exact vj 10 _ _ _ ag
 ·exact Nat.zero_le _
def H8{κ:Type}[DecidableEq κ](es:List (κ × Value))(k d:κ)(v:Value):ez (nD es k v) d=if d=k then some v else ez es d:=by
 unfold nD
 by_cases hk:k∈es.map (·.1)
 ·rw[if_pos hk]
  unfold ez
  rw[List.find?_map]
  have hf:((fun x:κ × Value=>decide (x.1=d)) ∘ fun x:κ × Value=>if x.1=k then(k,v)else x)=fun x=>decide (x.1=d):=by
   funext x
   simp only[Function.comp]
   have he:(if x.1=k then(k,v)else x).1=x.1:=by
    split
    ·rename_i h;exact h.symm
    ·rfl
   exact decide_eq_decide.2 (by rw[he])
  rw[hf]
  by_cases hd:d=k
  ·subst hd
   rw[if_pos rfl]
   obtain⟨y,hy,YD⟩:=List.mem_map.1 hk
   cases hx:es.find? (fun x=>decide (x.1=d))with
   | none=>have:=List.find?_eq_none.1 hx y hy;simp[YD]at this
   | some x =>
    have:x.1=d:=by simpa using List.find?_some hx
    simp[this]
  ·rw[if_neg hd]
   cases hx:es.find? (fun x=>decide (x.1=d))with
   | none=>rfl
   | some x =>
    have:x.1=d:=by simpa using List.find?_some hx
    have bZ:¬x.1=k:=fun e=>hd (this.symm.trans e)
    simp[bZ]
 ·rw[if_neg hk]
  unfold ez
  rw[List.find?_append]
  by_cases hd:d=k
  ·subst hd
   rw[if_pos rfl]
   cases hx:es.find? (fun x=>decide (x.1=d))with
   | none=>simp
   | some x=>exact absurd (List.mem_map.2 ⟨x,List.mem_of_find?_eq_some hx,by simpa using List.find?_some hx⟩) hk
  ·rw[if_neg hd]
   have:¬k=d:=fun e=>hd e.symm
   cases hx:es.find? (fun x=>decide (x.1=d)) <;> simp[this]
def CE(k:Nat):jl:=(1#64) <<< k
def dF(ws:List jl)(n:Nat)(i:Int):Bool:=decide (0≤i∧i<n) && decide (((ws.getD (i.toNat/64) 0#64) >>> (i.toNat%64)) &&& 1#64=1#64)
def kX(ws:List jl)(i:Nat)(one:Bool):List jl:=ws.set (i/64) (if one then ws.getD (i/64) 0#64 ||| CE (i%64)else ws.getD (i/64) 0#64 &&& ~~~(CE (i%64)))
def iH(ws:List jl)(i:Nat)(one:Bool):(kX ws i one).length=ws.length:=by simp[kX]
def Sg(w:jl)(k:Nat):(w >>> k &&& 1#64=1#64)↔w.getLsbD k=true:=by
 constructor
 ·intro h
  have:=congrArg (fun x:jl=>x.getLsbD 0) h
  simpa using this
 ·intro h
  apply BitVec.eq_of_getLsbD_eq
  intro i hi
  by_cases h0:i=0
  ·subst h0;simpa using h
  ·have:(1#64).getLsbD i=false:=by
    rw[BitVec.getLsbD_one];simp[h0]
   simp[this]
def CD(k i:Nat)(hk:k<64)(hi:i<64):(CE k).getLsbD i=decide (i=k):=by
 unfold CE
 rw[BitVec.getLsbD_shiftLeft,BitVec.getLsbD_one]
 by_cases h:i=k
 ·subst h;simp[hi]
 ·by_cases h2:i<k
  ·simp[h2,h]
  ·have:¬i-k=0:=by omega
   simp[hi,h2,h,this]
def E1{ws:List jl}(hi:i<n):dF ws n (i:Int)=(ws.getD (i/64) 0#64).getLsbD (i%64):=by
 unfold dF
 rw[decide_eq_true (show 0≤(i:Int)∧(i:Int)<n by omega),Bool.true_and,Int.toNat_natCast,Bool.eq_iff_iff,decide_eq_true_iff]
 exact Sg _ _
def Pe{ws:List jl}{j:Nat}{one:Bool}(hw:n≤ws.length*64)(hi:i<n)(hj:j<n):dF (kX ws i one) n (j:Int)=if j=i then one else dF ws n (j:Int):=by
 rw[E1 hj,E1 hj]
 unfold kX
 have lB:i/64<ws.length:=by omega
 by_cases h:j/64=i/64
 ·rw[h,List.getD_eq_getElem?_getD,List.getElem?_set_self lB,Option.getD_some]
  cases one with
  | true =>
   rw[if_pos rfl,BitVec.getLsbD_or,CD _ _ ag ag]
   by_cases Ci:j=i
   ·subst Ci;simp
   ·have:¬j%64=i%64:=by omega
    simp[Ci,this]
  | false =>
   rw[if_neg (by simp),BitVec.getLsbD_and,BitVec.getLsbD_not,CD _ _ ag ag]
   by_cases Ci:j=i
   ·subst Ci;simp
   ·have:¬j%64=i%64:=by omega
    have MW:j%64<64:=by omega
    simp[Ci,this,MW]
 ·have Ci:¬j=i:=fun e=>h (by rw[e])
  rw[if_neg Ci,List.getD_eq_getElem?_getD,List.getElem?_set_ne (fun e=>h e.symm),← List.getD_eq_getElem?_getD]
def qj{ws:List jl}{i:Int}(h:i<0∨(n:Int)≤i):dF ws n i=false:=by
 unfold dF
 rw[decide_eq_false ag,Bool.false_and]
def E0(m n:Nat)(i:Int):dF (List.replicate m 0#64) n i=false:=by
 unfold dF
 have h:(List.replicate m 0#64).getD (i.toNat/64) 0#64=0#64:=by
  rw[List.getD_eq_getElem?_getD,List.getElem?_replicate]
  split <;> rfl
 rw[h]
 simp
def eT(sb n:Nat)(wv:Value)(ws:List jl):List HP:=[ae sb (cl [.int .i64 (n:Int),wv] 138),az 134 1 wv ws.length (qV ws)]
structure Tk where
 yb:Nat
 sb:Nat
 mb:Nat
 x:Bl
 n:Nat
 ws:List jl
 pf:Int→Option (List Dg)
def JQ(z:Value × List (Int × Value) × fC)(y:Tk):Prop:=∀k,match ez z.2.1 k with
 | none=>y.pf k=none
 | some v=>∃l,y.pf k=some l∧CT z.2.2 32 v l.length (l.flatMap dC)
def ly(y:Tk):List Value:=bJ y.x++[ptr y.sb,.map (some y.mb)]
def mP(y:Tk)(z:Value × List (Int × Value) × fC):List HP:=[ae y.yb (cl (ly y) 79),ae y.sb (cl [.int .i64 (y.n:Int),z.1] 138),az 134 1 z.1 y.ws.length (qV y.ws),aQ (Value.int .i64) y.mb z.2.1,aU 36 z.2.2]
def oA(y:Tk):HP:=fun h=>∃z:Value × List (Int × Value) × fC,JQ z y∧Sep (mP y z) h
def gf(y:Tk):∀h,oA y h→∃z:Value × List (Int × Value) × fC,JQ z y∧Sep (mP y z) h:=fun h hs=>hs
def iX{y:Tk}{z:Value × List (Int × Value) × fC}(hR:JQ z y)(H:List HP):ao (mP y z++H) (oA y::H) :=
 ao.fold (B:=mP y z) fun h hp=>⟨h,sub.refl h,z,hR,hp⟩
def JQ.put{z:Value × List (Int × Value) × fC}{y:Tk}(h:JQ z y)(k:Int)(v wv:Value)(l:List Dg)(M:fC)(hM:∀a∈z.2.2,a∈M)(hv:CT M 32 v l.length (l.flatMap dC))(y':Tk)(hy:y'.pf=fun j=>if j=k then some l else y.pf j):JQ (wv,nD z.2.1 k v,M) y':=fun j=>by
 rw[hy]
 simp only
 rw[H8]
 by_cases hj:j=k
 ·rw[if_pos hj,if_pos hj];exact⟨l,rfl,hv⟩
 ·rw[if_neg hj,if_neg hj]
  have:=h j
  cases hx:ez z.2.1 j with
  | none=>rw[hx]at this;exact this
  | some u =>
   rw[hx]at this
   obtain⟨l',h1,h2⟩:=this
   exact⟨l',h1,h2.mono hM⟩
def aW(ts:List Tk):HP:=Sep (ts.map oA)
def IK(H:List HP):ao H (aW []::H):=ao.qt H
def BJ(a b:List Tk)(y:Tk)(H:List HP):ao (aW (a++y::b)::H) (oA y::aW (a++b)::H):=by
 unfold aW
 rw[List.map_append,List.map_cons,List.map_append]
 refine(ao.cJ _ _).trans ((ao.perm (H':=oA y::((a.map oA++b.map oA)++H)) ?_).trans (ao.cons _ (ao.bS _ _)))
 rw[List.append_assoc,List.cons_append,List.append_assoc]
 exact List.perm_middle
def uN(a b:List Tk)(y:Tk)(H:List HP):ao (oA y::aW (a++b)::H) (aW (a++y::b)::H):=by
 unfold aW
 rw[List.map_append,List.map_append,List.map_cons]
 refine(ao.cons _ (ao.cJ _ _)).trans ((ao.perm (H':=(a.map oA++oA y::b.map oA)++H) ?_).trans (ao.bS _ _))
 rw[List.append_assoc,List.append_assoc,List.cons_append]
 exact List.perm_middle.symm
def Gy{ts:List Tk}{y:Tk}(h:ts[i]?=some y):ts=ts.take i++y::ts.drop (i+1):=by
 obtain⟨hi,rfl⟩:=List.getElem?_eq_some_iff.1 h
 rw[← List.drop_eq_getElem_cons hi,List.take_append_drop]
def kO{ts:List Tk}{y:Tk}(h:ts[i]?=some y)(H:List HP):ao (aW ts::H) (oA y::aW (ts.take i++ts.drop (i+1))::H):=by
 have:=BJ (ts.take i) (ts.drop (i+1)) y H
 rwa[← Gy h]at this
def IJ{ts:List Tk}{y:Tk}(h:ts[i]?=some y)(y':Tk)(H:List HP):ao (oA y'::aW (ts.take i++ts.drop (i+1))::H) (aW (ts.set i y')::H):=by
 have hi:=(List.getElem?_eq_some_iff.1 h).1
 rw[List.set_eq_take_append_cons_drop,if_pos hi]
 exact uN (ts.take i) (ts.drop (i+1)) y' H
def lJ{ts:List Tk}{y:Tk}(h:ts[i]?=some y)(H:List HP):ao (oA y::aW (ts.take i++ts.drop (i+1))::H) (aW ts::H):=by
 have:=uN (ts.take i) (ts.drop (i+1)) y H
 rwa[← Gy h]at this
def cg(y:Tk):Value:=ptr y.yb
def dL(tb bs jb:Nat)(v:Value)(ts:List Tk)(br:Bool):List HP:=[ae tb (cl [ptr bs,ptr jb,v,.bool br] 73),az 75 1 v ts.length (ts.map cg),aW ts]
def qI{ts:List Tk}{y:Tk}(h:ts[i]?=some y):(ts.map cg)[i]?=some (ptr y.yb):=by rw[List.getElem?_map,h];rfl
attribute [local irreducible] J K aE Ends ae az aQ bP bj aT aU bp
def yc(n:Nat)(h:n<9223372036854775808):aE Tryz.prog 197 [.int .i64 (n:Int)] [] (fun v H=>∃b,v = .slice (some ⟨b,0,none⟩) 4 4∧H=[ae b (cl (bV (vQ n)) 5)]):=by
 refine aE.au Tryz.func197 Tryz.ntmps197 fun G F R hE=>?_
 (repeat(first|refine gO ?_|refine iV zr zr zr zr zr zr ?_|refine jo zr zr zr ag ?_))
 refine aB 4 (u8 (UInt8.ofNat n)) rfl (lP n) ?_
 refine aB 7 (u8 (UInt8.ofNat (n/256))) rfl (by rw[show(n:Int)/2 ^ (min (Int.toNat 8) IntKind.i64.bits)=((n/256:Nat):Int)from by show(n:Int)/256=_;omega];exact lP _) ?_
 refine aB 10 (u8 (UInt8.ofNat (n/65536))) rfl (by rw[show(n:Int)/2 ^ (min (Int.toNat 16) IntKind.i64.bits)=((n/65536:Nat):Int)from by show(n:Int)/65536=_;omega];exact lP _) ?_
 refine aB 13 (u8 (UInt8.ofNat (n/16777216))) rfl (by rw[show(n:Int)/2 ^ (min (Int.toNat 24) IntKind.i64.bits)=((n/16777216:Nat):Int)from by show(n:Int)/16777216=_;omega];exact lP _) ?_
 refine aj (cs:=bV (vQ n)) zr zr zr zr zr zr zr zr zr bD ?_
 intro b
 refine go ?_
 refine ad hE Tryz.func197 zr zr ⟨b,rfl,rfl⟩
def Dm(A:HP)(v:Value)(bs:List UInt8)(hv:Vw A v bs.length (bV bs))(h:4≤bs.length):aE Tryz.prog 182 [v] [A] (fun r H=>r = .int .i64 (oV bs:Int)∧H=[A]):=by
 obtain⟨b,o,c,rfl⟩:=PF hv ag
 have hx:∀x:UInt8,x.toNat<256:=fun x=>x.toNat_lt
 have h0:=hx (bs.getD 0 0);have h1:=hx (bs.getD 1 0);have h2:=hx (bs.getD 2 0);have h3:=hx (bs.getD 3 0)
 refine aE.au Tryz.func182 Tryz.ntmps182 fun G F R hE=>?_
 refine go ?_
 refine aH (fun w=>Sat G w ([A])) (kj 0 23 .nil) rfl ak ak ak eo ?_
 refine go ?_
 refine bI 0 zr zr zr zr zr zr zr zr ag ?_
 refine bX 0 0 zr zr zr hv rfl (wU ag) zr zr (go ?_)
 refine bI 1 zr zr zr zr zr zr zr zr ag ?_
 refine bX 0 1 zr zr zr hv rfl (wU ag) zr zr (go ?_)
 refine mK zr zr zr ag ?_
 refine aB 11 (.int .i64 (((bs.getD 1 0).toNat*2 ^ 8:Nat):Int)) rfl (xJ (q:=8) _ rfl ag) (go ?_)
 refine aB 12 (.int .i64 (((bs.getD 0 0).toNat+(bs.getD 1 0).toNat*2 ^ 8:Nat):Int)) rfl (congrArg (Value.int .i64) (G5 ag ag)) ?_
 refine bI 2 zr zr zr zr zr zr zr zr ag ?_
 refine bX 0 2 zr zr zr hv rfl (wU ag) zr zr (go ?_)
 refine mK zr zr zr ag ?_
 refine aB 17 (.int .i64 (((bs.getD 2 0).toNat*2 ^ 16:Nat):Int)) rfl (xJ (q:=16) _ rfl ag) (go ?_)
 refine aB 18 (.int .i64 (((bs.getD 0 0).toNat+(bs.getD 1 0).toNat*2 ^ 8+(bs.getD 2 0).toNat*2 ^ 16:Nat):Int)) rfl (congrArg (Value.int .i64) (G5 ag ag)) ?_
 refine bI 3 zr zr zr zr zr zr zr zr ag ?_
 refine bX 0 3 zr zr zr hv rfl (wU ag) zr zr (go ?_)
 refine mK zr zr zr ag ?_
 refine aB 23 (.int .i64 (((bs.getD 3 0).toNat*2 ^ 24:Nat):Int)) rfl (xJ (q:=24) _ rfl ag) (go ?_)
 refine bu 2 (.int .i64 (oV bs:Int)) rfl (congrArg (Value.int .i64) (G5 ag ag)) ?_
 refine ad hE Tryz.func182 zr zr ⟨rfl,rfl⟩
def Mw(A B:HP)(v1 v2:Value)(b1 b2:List UInt8)(h1:Vw A v1 b1.length (bV b1))(h2:Vw B v2 b2.length (bV b2)):aE Tryz.prog 183 [v1,v2] [A,B] (fun r H=>r = .bool (decide (b1=b2))∧H=[A,B]):=by
 obtain⟨a1,c1,rfl⟩:=h1.shape
 obtain⟨a2,c2,rfl⟩:=h2.shape
 refine aE.au Tryz.func183 Tryz.ntmps183 fun G F R hE=>?_
 refine go ?_
 refine CX (U:=aS) 0 zr zr zr zr zr zr zr zr zr h1 (go ?_)
 refine CX (U:=aS) 1 zr zr zr zr zr zr zr zr zr h2 (go ?_)
 rw[vg]
 refine ad hE Tryz.func183 zr zr ⟨rfl,rfl⟩
def Ml(a b:Nat)(ha:a<4294967296)(hb:b<4294967296):aE Tryz.prog 237 [.int .u64 (a:Int),.int .u64 (b:Int)] [] (fun r H=>r = .tuple #[.int .u64 0,.int .u64 ((a*b:Nat):Int)]∧H=[]):=by
 have pG:a*b<18446744073709551616:=Nat.lt_of_lt_of_le (Nat.mul_lt_mul'' ha hb) ag
 have hw:∀x:Nat,x<18446744073709551616→IntKind.u64.wrap (x:Int)=(x:Int):=fun x hx=>cQ (by simp only[gn];omega)
 have hm:∀x:Nat,x<4294967296→IntKind.u64.wrap ((BitVec.ofInt IntKind.u64.bits (x:Int) &&& BitVec.ofInt IntKind.u64.bits 4294967295).toNat:Int)=(x:Int):=fun x hx=>by
  have:=CK x 32 ag ag
  rw[show((2 ^ 32-1:Nat):Int)=4294967295 from rfl,show x%2 ^ 32=x from by omega]at this
  exact this
 have hs:∀x:Nat,x<4294967296→(x:Int)/2 ^ (min (Int.toNat 32) IntKind.u64.bits)=0:=fun x hx=>by show(x:Int)/4294967296=0;omega
 refine aE.au Tryz.func237 Tryz.ntmps237 fun G F R hE=>?_
 refine go ?_
 refine aB 6 (.int .u64 (a:Int)) rfl (congrArg (Value.int .u64) (hm a ha)) ?_
 refine jo zr zr zr ag ?_
 refine aB 17 (.int .u64 0) rfl (congrArg (Value.int .u64) (hs a ha)) (go ?_)
 refine aB 8 (.int .u64 (b:Int)) rfl (congrArg (Value.int .u64) (hm b hb)) ?_
 refine jo zr zr zr ag ?_
 refine aB 21 (.int .u64 0) rfl (congrArg (Value.int .u64) (hs b hb)) (go ?_)
 refine ib zr zr zr (by rw[← Int.natCast_mul];simp only[gn];omega) ?_
 refine aB 24 (.int .u64 ((a*b:Nat):Int)) rfl (by rw[Int.natCast_mul]) (go ?_)
 refine ib zr zr zr (by simp[gn]) ?_
 refine aB 27 (.int .u64 0) rfl (by simp) (go ?_)
 refine jo zr zr zr ag ?_
 refine aB 29 (.int .u64 ((a*b/4294967296:Nat):Int)) rfl (congrArg (Value.int .u64) (by show((a*b:Nat):Int)/4294967296=_;omega)) ?_
 refine go ?_
 refine aB 11 (.int .u64 ((a*b/4294967296:Nat):Int)) rfl (congrArg (Value.int .u64) ag) (go ?_)
 have hq:a*b/4294967296<4294967296:=by omega
 refine aB 12 (.int .u64 ((a*b/4294967296:Nat):Int)) rfl (congrArg (Value.int .u64) (by rw[show(0:Int)+((a*b/4294967296:Nat):Int)=((a*b/4294967296:Nat):Int)from by omega];exact hm _ hq)) ?_
 refine jo zr zr zr ag ?_
 refine aB 34 (.int .u64 0) rfl (congrArg (Value.int .u64) (by simp only[Int.zero_add,Int.add_zero];exact hs _ hq)) ?_
 refine go ?_
 refine ib zr zr zr (by simp[gn]) ?_
 refine aB 38 (.int .u64 0) rfl (by simp) (go ?_)
 refine ib zr zr zr (by simp[gn]) ?_
 refine aB 42 (.int .u64 0) rfl (by simp) (go ?_)
 refine jo zr zr zr ag ?_
 refine aB 46 (.int .u64 0) rfl (congrArg (Value.int .u64) (by rw[show((a*b/4294967296:Nat):Int)+0=((a*b/4294967296:Nat):Int)from by omega];exact hs (a*b/4294967296) hq)) ?_
 refine go ?_
 refine ib zr zr zr (by rw[← Int.natCast_mul];simp only[gn];omega) ?_
 refine aB 50 (.int .u64 ((a*b:Nat):Int)) rfl (by rw[Int.natCast_mul]) (go ?_)
 refine ad hE Tryz.func237 zr zr ⟨rfl,rfl⟩
def Sp(a b:Nat)(ha:a<4294967296)(hb:b<4294967296):aE Tryz.prog 217 [.int .u64 (a:Int),.int .u64 (b:Int)] [] (fun r H=>r = .tuple #[.int .u64 0,.int .u64 ((a*b:Nat):Int)]∧H=[]):=by
 refine aE.au Tryz.func217 Tryz.ntmps217 fun G F R hE=>?_
 refine go ?_
 refine aO (Ml a b ha hb) ?_
 refine go ?_
 refine ad hE Tryz.func217 zr zr ⟨rfl,rfl⟩
def FE(v:Value)(bs:List UInt8)(h0:0<bs.length)(hl:bs.length≤1000) :
  aE Tryz.prog 196 [v,.int .i64 2] [az 5 1 v bs.length (bV bs)] (fun r H=>H=[az 5 1 r (bs++bs).length (bV (bs++bs))]):=by
 refine aE.au Tryz.func196 Tryz.ntmps196 fun G F R hE=>?_
 refine Yo 0 rfl h0 ?_
 rintro b o c rfl hc _ dM
 refine go ?_
 refine aO (Sp bs.length 2 ag ag) ?_
 repeat'(first|(with_reducible intro pH)|refine gO ?_|refine aq zr zr ?_ ?_)
 any_goals (exfalso;omega)
 obtain⟨N,hN⟩:∃N,N=bs.length*2:=⟨_,rfl⟩
 rw[← hN]
 refine C1 (U:=aS) (t:=39) (elem:=5) (q:=N) rfl Tryz.func218 zr zr ak zr zr zr zr ag (fun _ _ _ _=>trivial) ?_
 intro nb c2 l mT rA
 refine go ?_
 refine Mo (U:=aS) (q:=(N:Int)) (r:=(N:Int)) zr zr zr zr zr zr zr ag ag ag ?_
 refine aB 57 (.slice (some ⟨nb,0,none⟩) N N) rfl (by rw[show((N:Int)).toNat=N from by omega];rw[SL.iO]) ?_
 refine go ?_
 refine J0 (U:=aS) (src:=bV bs) (mm:=bs.length) (l':=bV bs++l.drop bs.length) 0 1 zr zr zr zr zr zr zr zr dM (by show _=_*1;rw[bt];omega) (fun u hu=>cO bs u (List.mem_of_mem_take hu)) (by show 0+_*1≤_;omega) ?_ rfl gB ?_
 ·show _=List.take 0 l++List.take (min bs.length N*1) (bV bs)++List.drop (0+min bs.length N*1) l
  rw[show min bs.length N*1=bs.length from by omega,List.take_of_length_le (l:=bV bs) (by rw[bt];omega)]
  simp
 rw[show((min bs.length N:Nat):Int)=(bs.length:Int)from by omega]
 refine go ?_
 refine bz (fun _:Bool=>True) (fun s=>bif s then 0 else 1)
  (fun s=>[(7,.int .i64 (N:Int)),(8,.int .i64 (N:Int)),(9,.slice (some ⟨nb,0,none⟩) N N),(10,.int .i64 ((bif s then N else bs.length:Nat):Int))])
  (fun s=>ae nb (cl (bif s then bV (bs++bs)++l.drop N else bV bs++l.drop bs.length) 5)::F) false trivial rfl cm ah ?_
 rintro s _ ih
 cases s with
 | true =>
  repeat'(first|(with_reducible intro pH)|refine gO ?_|refine aq zr zr ?_ ?_)
  any_goals (exfalso;simp only[cond_true]at *;omega)
  simp only[cond_true]
  refine ai (dR 5 1 nb N N (bV (bs++bs)) (l.drop N) _ (by rw[bt,List.length_append];omega) (Nat.le_refl _) (by rw[bt,List.length_append,List.length_drop];omega)) ?_
  rw[show N=(bs++bs).length from by rw[List.length_append];omega]
  refine aL hE Tryz.func196 rfl _ zr zr ah
 | false =>
  repeat'(first|(with_reducible intro pH)|refine gO ?_|refine aq zr zr ?_ ?_)
  any_goals (exfalso;simp only[cond_false]at *;omega)
  simp only[cond_false]
  rw[show min (bs.length:Int) (N:Int)=(bs.length:Int)from by omega]
  refine aH (fun w=>Sat G w ([])) (kj 0 7 (.act 7 (kj 8 2 .nil))) rfl ak ak ak eo ?_
  refine go ?_
  refine bB (p:=(bs.length:Int)) (q:=(N:Int)) zr zr zr zr zr zr zr ag ag (.inl rfl) ?_
  refine aB 70 (.slice (some ⟨nb,bs.length,none⟩) bs.length bs.length) rfl (by rw[show((N:Int)).toNat=N from by omega,show((bs.length:Int)).toNat=bs.length from by omega,show N-bs.length=bs.length from by omega];show Value.slice (sliceAt _ N bs.length 1) _ _=_;rw[tp _ _ _ _ _ ag,Nat.zero_add,Nat.mul_one]) ?_
  refine go ?_
  refine bB (p:=0) (q:=(bs.length:Int)) zr zr zr zr zr zr zr ag ag (.inr ag) ?_
  refine aB 73 (.slice (some ⟨nb,0,none⟩) bs.length N) rfl (by rw[show(0:Int).toNat=0 from rfl,show((bs.length:Int)).toNat=bs.length from by omega,SL.iO];rfl) ?_
  refine J0 (U:=aS) (src:=bV bs) (mm:=bs.length) (l':=bV (bs++bs)++l.drop N) 0 0 zr zr zr zr zr zr zr zr (Vw.ae (by simp)) (by show _=_*1;rw[bt];omega) (fun u hu=>cO bs u (List.mem_of_mem_take hu)) (by show bs.length+_*1≤_;rw[List.length_append,bt,List.length_drop];omega) ?_ rfl (fun _ hw=>hw.cN (ao.SD _)) ?_
  ·show _=List.take bs.length _++List.take (min bs.length bs.length*1) (bV bs)++List.drop (bs.length+min bs.length bs.length*1) _
   rw[show min bs.length bs.length*1=bs.length from by omega,List.take_of_length_le (l:=bV bs) (by rw[bt];omega),List.take_left' (bt bs),List.drop_append,bt,show(bV bs).drop (bs.length+bs.length)=[]from List.drop_eq_nil_of_le (by rw[bt];omega),List.drop_drop,show bs.length+(bs.length+bs.length-bs.length)=N from by omega]
   simp[bV]
  rw[show((min bs.length bs.length:Nat):Int)=(bs.length:Int)from by omega]
  refine go ?_
  refine bu 10 (.int .i64 (N:Int)) rfl (congrArg (Value.int .i64) ag) ?_
  refine aM ih true rfl trivial (by simp) cm ah
def cd(n m:Nat):List UInt8:=(vQ n++vQ m)++(vQ n++vQ m)
def fY(n m:Nat):(cd n m).length=16:=rfl
def yE(n m:Nat)(h:n<9223372036854775808)(h2:m<9223372036854775808):aE Tryz.prog 141 [.int .i64 (n:Int),.int .i64 (m:Int)] [] (fun r H=>H=[az 5 1 r (cd n m).length (bV (cd n m))]):=by
 refine aE.au Tryz.func141 Tryz.ntmps141 fun G F R hE=>?_
 refine go ?_
 refine aF (yc n h) ?_
 rintro _ _⟨b1,rfl,rfl⟩
 refine go ?_
 refine aF (yc m h2) ?_
 rintro _ _⟨b2,rfl,rfl⟩
 refine aI (ao.pick [1] rfl) ?_
 refine aI (dR 5 1 b1 4 4 (bV (vQ n)) [] _ rfl (Nat.le_refl _) (by simp[bt,Cb])) ?_
 refine aR (mm:=4) (news:=bV (vQ m)) 0 1 zr zr zr zr zr zr zr zr zr zr zr zr (Vw.ae rfl) rfl (cO _) ag (by show(4+4)*1≤_;omega) (fun _=>rfl) bD ?_
 intro v1
 rw[show bV (vQ n)++bV (vQ m)=bV (vQ n++vQ m)from by simp[bV],show 4+4=(vQ n++vQ m).length from rfl]
 refine aF (FE v1 (vQ n++vQ m) (by simp[Cb]) (by simp[Cb])) ?_
 rintro r _ rfl
 refine go ?_
 refine aL hE Tryz.func141 rfl _ zr zr ah
end Go.Proofs.YtdigdgohdpeebaaGreatDoor
