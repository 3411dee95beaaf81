import Derived.Test.YtlionahpheehaaaGreatDoorQTP3
import Derived.Test.YtlionahpheehaaaGreatDoorQTP7
import Derived.Test.YtlionahpheehaaaGreatDoorQTP8
import Derived.Test.YtlionahpheehaaaGreatDoorQTP9
import Derived.Test.YtlionahpheehaaaGreatDoorQTP11
set_option linter.unusedSimpArgs false
set_option linter.unusedVariables false
set_option maxHeartbeats 4000000
set_option maxRecDepth 20000
set_option linter.defProp false
namespace Go.Proofs.YtlionahpheehaaaGreatDoor
open Go Go.SL
def yA(n i:Nat):Int:=match gY n i with
 | some s=>(s:Int)
 | none => -1
theorem Pf(n:Nat):n ^^^ 1=if n%2=1 then n-1 else n+1:=by
 have h1:=Nat.xor_div_two (a:=n) (b:=1)
 have h2:(n ^^^ 1)%2=(n+1)%2:=by
  rcases Nat.mod_two_eq_zero_or_one n with h|h
  ·have:=(Nat.xor_mod_two_eq_one (a:=n) (b:=1)).2 (by simp[h])
   omega
  ·have:=(Nat.xor_mod_two_eq_one (a:=n) (b:=1))
   grind
 grind
theorem Pg(n:Nat)(h:n<1000000000):IntKind.i64.wrap ((BitVec.ofInt IntKind.i64.bits (n:Int) ^^^ BitVec.ofInt IntKind.i64.bits 1).toNat:Int)=((if n%2=1 then n-1 else n+1:Nat):Int):=by
 grind [zE,Pf,dr,js]
def bT:Nat→Nat→Nat→List (Nat × Nat)
 | 0,_,_=>[]
 | f+1,n,i=>if n≤1 then []else(n,i)::bT f ((n+1)/2) (i/2)
def vQ:∀(f g n i:Nat),n≤f→n≤g→bT f n i=bT g n i
 | 0,0,_,_,_,_=>rfl
 | 0,g+1,n,i,hf,_=>by
  obtain rfl:n=0:=by omega
  rfl
 | f+1,0,n,i,_,hg=>by
  obtain rfl:n=0:=by omega
  rfl
 | f+1,g+1,n,i,hf,hg=>by
  unfold bT
  split
  ·rfl
  ·rw[vQ f g ((n+1)/2) (i/2) aj aj]
theorem EI(f n i:Nat)(hf:n≤f)(hn:1<n):bT f n i=(n,i)::bT f ((n+1)/2) (i/2):=by
 rw[vQ f (f+1) n i hf aj]
 grind [bT]
def GH(f n i:Nat)(hn:n≤1):bT f n i=[]:=by
 cases f with
 | zero=>rfl
 | succ f=>unfold bT;rw[if_pos hn]
theorem uS:∀(f n i:Nat),i<n→∀p∈bT f n i,p.2<p.1∧p.1≤n
 | 0,_,_,_,p,h=>by cases h
 | f+1,n,i,hi,p,h=>by
  unfold bT at h
  split at h
  ·cases h
  ·rcases List.mem_cons.1 h with rfl|h
   ·grind
   ·obtain⟨h1,h2⟩:=uS f ((n+1)/2) (i/2) aj p h
    grind
def pz(l:List (Nat × Nat)):Nat:=(l.filter fun p=>(gY p.1 p.2).isSome).length
theorem HV(l:List (Nat × Nat))(p:Nat × Nat):pz (l++[p])=pz l+if(gY p.1 p.2).isSome then 1 else 0:=by
 grind [pz,gY]
theorem yi:∀(f n i:Nat),oz f n i=pz (bT f n i)
 | 0,_,_=>rfl
 | f+1,n,i=>by
  unfold oz bT
  split
  ·rfl
  ·rw[yi f]
   grind [pz,gY]
def Ak(z:Dg × List Dg)(p:Nat × Nat):Dg × List Dg:=match gY p.1 p.2 with
 | none=>z
 | some s=>(if s<p.2 then kE (z.2.headD Dg.zero) z.1 else kE z.1 (z.2.headD Dg.zero),z.2.tail)
def sj(l:List (Nat × Nat))(z:Dg × List Dg):Dg × List Dg:=l.foldl Ak z
def RU(l:List (Nat × Nat))(p:Nat × Nat)(z:Dg × List Dg):sj (l++[p]) z=Ak (sj l z) p:=by unfold sj;rw[List.foldl_append];rfl
theorem yl:∀(f n i:Nat) (x:Dg) (p:List Dg),oA f n i x p=(sj (bT f n i) (x,p)).1
 | 0,_,_,_,_=>rfl
 | f+1,n,i,x,p=>by
  unfold oA bT
  split
  ·rfl
  ·unfold sj
   rw[List.foldl_cons]
   unfold Ak
   cases h:gY n i with
   | none=>simp only;exact yl f _ _ _ _
   | some s=>simp only;exact yl f _ _ _ _
theorem HW:∀(l:List (Nat × Nat)) (z:Dg × List Dg),(sj l z).2.length=z.2.length-pz l
 | [],z=>rfl
 | p::l,z=>by
  have:=HW l (Ak z p)
  grind [sj,Ak,pz,gY]
theorem Mf(l:List (Nat × Nat))(j:Nat):pz (l.take j)≤pz l:=by
 conv=>rhs;rw[← List.take_append_drop j l]
 grind [pz]
attribute [local irreducible] J K aH Ends ak aK aV bX bj aS bp bD cp Sha.chunks Sha.chunk Sha.rounds Sha.sched fz cY fG kE
def m8(n i:Int):Bool:=decide (1≤n∧n≤1024∧0≤i∧i<n)
def qm(n i:Int):aH Tryz.prog 213 [.int .i64 n,.int .i64 i] [] (fun r H=>r = .bool (m8 n i)∧H=[]):=by
 have hF:(¬(1≤n∧n≤1024∧0≤i))→Value.bool false = .bool (m8 n i):=fun h=>by unfold m8;rw[decide_eq_false aj]
 have hT:(1≤n∧n≤1024∧0≤i)→Value.bool (decide (i<n)) = .bool (m8 n i):=fun h=>by unfold m8;exact congrArg Value.bool (decide_eq_decide.2 aj)
 refine aH.aC Tryz.func213 Tryz.ntmps213 fun G F R hE=>?_
 repeat'(first|(with_reducible intro k9)|refine g9 ?_|refine dA zr zr zr zr ?_ ?_|fail)
 all_goals(first|((refine ah hE Tryz.func213 zr zr ⟨hF aj,rfl⟩))|((refine ah hE Tryz.func213 zr zr ⟨hT aj,rfl⟩)))
theorem ly(n i:Nat)(hi:i<n)(hn:n≤1000000):aH Tryz.prog 53 [.int .i64 (n:Int),.int .i64 (i:Int)] [] (fun r H=>r = .int .i64 (yA n i)∧H=[]):=by
 refine aH.aC Tryz.func53 Tryz.ntmps53 fun G F R hE=>?_
 have hx:=Pg i aj
 refine go ?_
 refine aB zr zr ?_ ?_
 ·intro dk
  have hs:yA n i=((if i%2=1 then i-1 else i+1:Nat):Int):=by
   grind [yA,gY]
  refine go ?_
  refine ah hE Tryz.func53 zr zr ⟨congrArg (Value.int .i64) (hx.trans hs.symm),rfl⟩
 ·intro fO
  have hs:yA n i = -1:=by
   grind [yA,gY]
  refine go ?_
  refine ah hE Tryz.func53 zr zr ⟨congrArg (Value.int .i64) hs.symm,rfl⟩
def qi(n i:Int):aH Tryz.prog 214 [.int .i64 n,.int .i64 i] [] (fun r H=>∃b1 b2,r = .func (.func 239) #[] #[ptr b1,ptr b2]∧H=[ak b1 (cl [.int .i64 n] 3),ak b2 (cl [.int .i64 i] 3)]):=by
 refine aH.aC Tryz.func214 Tryz.ntmps214 fun G F R hE=>?_
 refine aP rfl ?_
 refine bJ zr zr bO ?_
 intro b1
 refine bJ zr zr bO ?_
 intro b2
 refine go ?_
 refine ah hE Tryz.func214 zr zr ⟨b1,b2,rfl,rfl⟩
theorem yJ(b1 b2 n i:Nat)(hn:n≤1000000)(hi:i≤1000000)(l:Nat)(Lp:HP)(Inv:Nat→HP)(hy:∀j p,(bT n n i)[j]?=some p→cp Tryz.prog l [.int .i64 (p.1:Int),.int .i64 (p.2:Int)] [Lp,Inv j] (fun v H=>v = .bool true∧H=[Lp,Inv (j+1)])) :
  aH Tryz.prog 239 [.func (.yield l) #[] #[],ptr b1,ptr b2] [Lp,Inv 0,ak b1 (cl [.int .i64 (n:Int)] 3),ak b2 (cl [.int .i64 (i:Int)] 3)] (fun _ H=>H=[Lp,Inv (bT n n i).length]):=by
 refine aH.aC Tryz.func239 Tryz.ntmps239 fun G F R hE=>?_
 refine bF (fun y:Nat × Nat × Nat=>y.1≤n∧y.2.1≤i∧(bT n n i).drop y.2.2=bT n y.1 y.2.1∧y.2.2≤(bT n n i).length) (fun y=>y.1)
  (fun _=>[(0,.func (.yield l) #[] #[]),(1,ptr b1),(2,ptr b2)])
  (fun y=>Lp::Inv y.2.2::ak b1 (cl [.int .i64 (y.1:Int)] 3)::ak b2 (cl [.int .i64 (y.2.1:Int)] 3)::F) (n,i,0) ⟨Nat.le_refl _,Nat.le_refl _,rfl,Nat.zero_le _⟩ rfl cF ad ?_
 rintro⟨m,k,j⟩⟨hm,hk,hd,hj⟩ ih
 simp only at hm hk hd hj
 refine go ?_
 refine aB zr zr ?_ ?_
 ·intro O6
  have Ru:1<m:=by omega
  rw[EI n m k hm Ru]at hd
  have hx:(bT n n i)[j]?=some (m,k):=by
   have:=congrArg (fun l=>l[0]?) hd
   grind
  have I2:=(List.getElem?_eq_some_iff.1 hx).1
  have NZ:(bT n n i).drop (j+1)=bT n ((m+1)/2) (k/2):=by
   have:=congrArg (fun l=>l.drop 1) hd
   simpa[List.drop_drop]using this
  refine go ?_
  refine jf zr zr zr (hy j (m,k) hx) ad ?_ bI
  rintro _ _⟨rfl,rfl⟩
  refine go ?_
  refine al (H':=ak b1 (cl [.int .i64 (m:Int)] 3)::ak b2 (cl [.int .i64 (k:Int)] 3)::Lp::Inv (j+1)::F) ad ?_
  refine aO (fun w=>Sat G w ([])) (.fork (.act 0 (.st 1 (.st 2 (.fork (.act 3 (.st 4 (.act 5 (.act 6 .nil)))) (.act 5 (.act 3 (.st 4 (.act 6 .nil)))))))) (.act 3 (.st 4 (.act 0 (.st 1 (.st 2 (.act 5 (.act 6 .nil)))))))) rfl aw aw aw dI ?_
  repeat'(first|refine g9 ?_|refine bG ?_ ?_|(refine tH ?_;refine iQ zr zr zr aj ?_;first|(refine au 8 (.int .i64 (((m+1)/2:Nat):Int)) rfl (congrArg (Value.int .i64) (by show((m:Int)+1)/2 ^ 1=_;omega)) ?_)|(refine au 10 (.int .i64 ((k/2:Nat):Int)) rfl (congrArg (Value.int .i64) (by show(k:Int)/2 ^ 1=_;omega)) ?_))|(refine bE ?_;(refine aD 0 dI zr zr zr zr zr zr zr zr zr ?_)))
  all_goals(
   refine aQ ih ((m+1)/2,k/2,j+1) rfl ⟨by simp only;omega,by simp only;omega,NZ,by simp only;omega⟩ (by simp only;omega) cF ad)
 ·intro fO
  have hz:bT n m k=[]:=GH n m k aj
  have Rq:j=(bT n n i).length:=by
   have:=congrArg List.length hd
   grind
  subst Rq
  refine go ?_
  refine ag hE Tryz.func239 rfl _ zr zr ad
theorem tK(n i:Int):aH Tryz.prog 192 [.int .i64 n,.int .i64 i] [] (fun r H=>r = .int .i64 (fU n i:Int)∧H=[]):=by
 refine aH.aC Tryz.func192 Tryz.ntmps192 fun G F R hE=>?_
 refine go ?_
 refine aL zr zr zr bO ?_
 intro b5
 refine go ?_
 refine aeb (qm n i) ?_
 cases hr:m8 n i with
 | false =>
  have hd:fU n i=0:=by
   grind [fU,m8]
  rw[hd]at hE
  refine go ?_
  refine ah hE Tryz.func192 zr zr ⟨rfl,rfl⟩
 | true =>
  have LV:1≤n∧n≤1024∧0≤i∧i<n:=by unfold m8 at hr;simpa using hr
  obtain⟨m,rfl⟩:∃m:Nat,n=m:=⟨n.toNat,aj⟩
  obtain⟨k,rfl⟩:∃m:Nat,i=m:=⟨i.toNat,aj⟩
  have hd:fU (m:Int) (k:Int)=pz (bT m m k):=by
   grind [fU,yi]
  have nI:=uS m m k aj
  have NY:=tz (m:Int) (k:Int)
  rw[hd]at hE NY
  refine go ?_
  refine ao (qi (m:Int) (k:Int)) ?_
  rintro _ _⟨b1,b2,rfl,rfl⟩
  refine go ?_
  refine jw rfl ?_
  have Ci:pz ((bT m m k).take 0)=0:=rfl
  refine pJ (Fr:=F) (Pre:=fun _ _=>[ak b5 (cl [.int .i64 (pz ((bT m m k).take 0):Int)] 3),ak b1 (cl [.int .i64 (m:Int)] 3),ak b2 (cl [.int .i64 (k:Int)] 3)]) (fun _ _ Lp v H=>H=[Lp .ready none,ak b5 (cl [.int .i64 (pz ((bT m m k).take (bT m m k).length):Int)] 3)]) rfl hE.1.1 rfl ?c (fun l r=>ad) ?eA
  case c =>
   intro l r
   refine yJ b1 b2 m k aj aj l _ (fun j=>ak b5 (cl [.int .i64 (pz ((bT m m k).take j):Int)] 3)) ?_
   rintro j⟨p,q⟩ hp
   obtain⟨h1,h2⟩:=nI _ (List.mem_of_getElem? hp)
   have om:(bT m m k).take (j+1)=(bT m m k).take j++[(p,q)]:=by rw[List.take_add_one,hp];rfl
   have FV:pz ((bT m m k).take (j+1))=pz ((bT m m k).take j)+if(gY p q).isSome then 1 else 0:=by rw[om,HV]
   have kJ:=Mf (bT m m k) j
   refine cp.Cr zr zr ?_
   intro G2 F2 R2 hY
   refine go ?_
   refine eY rfl hY (go ?_)
   refine aeb (ly p q h1 aj) ?_
   unfold yA
   cases hs:gY p q with
   | none =>
    rw[hs]at FV
    rw[FV]at hY
    refine go ?_
    refine eF hY rfl ad ⟨rfl,rfl⟩
   | some s =>
    rw[hs]at FV
    rw[FV]at hY
    refine go ?_
    refine eF hY rfl ad ⟨rfl,rfl⟩
  rintro l r v H' rfl
  refine⟨_,_,_,rfl,by decide,?_⟩
  rw[hE.1.2,List.take_length]
  refine go ?_
  (apply bH (U:=bh) hE Tryz.func192 rfl ad;(repeat(first|exact ae.nil|apply ae.tmp rfl));exact⟨rfl,rfl⟩;exact ad)
end Go.Proofs.YtlionahpheehaaaGreatDoor
namespace Go.Proofs.YtlionahpheehaaaGreatDoor
open Go Go.SL
def CkI(b8 b9:Nat)(X:HP)(z:Dg × List Dg):HP:=fun h=>∃v:Value,K4 X v z.2∧Sep [ak b8 (cl (dC z.1) 29),ak b9 (cl [v] 34),X] h
def IS(b8 b9:Nat)(X:HP)(z:Dg × List Dg):∀h,CkI b8 b9 X z h→∃v:Value,K4 X v z.2∧Sep [ak b8 (cl (dC z.1) 29),ak b9 (cl [v] 34),X] h:=fun h hs=>hs
def FQ{b8 b9:Nat}{X:HP}{z:Dg × List Dg}{v:Value}(hv:K4 X v z.2)(H:List HP):aq (ak b8 (cl (dC z.1) 29)::ak b9 (cl [v] 34)::X::H) (CkI b8 b9 X z::H) :=
 aq.fold (A:=CkI b8 b9 X z) (B:=[ak b8 (cl (dC z.1) 29),ak b9 (cl [v] 34),X]) fun h hs=>⟨h,sub.refl h,v,hv,hs⟩
def K4.tail{X:HP}{a:Option Addr}{c:Nat}{x:Dg}{l:List Dg}(h:K4 X (.slice a (x::l).length c) (x::l)):K4 X (.slice (sliceAt a c 1 32) l.length (c-1)) l:=by
 obtain⟨hv,a',c',he,hc⟩:=h
 obtain⟨rfl,rfl⟩:=he
 have:=hv.Kv (s:=32) (bR ff _) hc 1 (by simp)
 exact⟨this,_,_,rfl,by simp only[List.length_cons]at hc;omega⟩
attribute [local irreducible] J K aH Ends ak aK aV bX bj aS bp bD cp Sha.chunks Sha.chunk Sha.rounds Sha.sched fz cY fG kE CkI
theorem OU(X:HP)(hK:qI X)(root leaf:Dg)(n i:Int)(pv:Value)(proof:List Dg)(hp:K4 X pv proof) :
  aH Tryz.prog 149 [dV root,.int .i64 n,.int .i64 i,dV leaf,pv] [X] (fun r H=>r = .bool (kP root n i leaf proof)∧H=[X]):=by
 have zq:=hp
 obtain⟨hv,a,c,rfl,hc⟩:=hp
 refine aH.aC Tryz.func149 Tryz.ntmps149 fun G F R hE=>?_
 refine aP rfl ?_
 refine bJ zr zr bO ?_
 intro b5
 refine bJ zr zr bO ?_
 intro b8
 refine bJ zr zr bO ?_
 intro b9
 refine go ?_
 refine aO (fun w=>Sat G w ([ak b9 (cl [.slice a proof.length c] 34)])) (.st 0 (.st 1 (.act 2 (dM 3 6 (.act 9 (.st 10 (.st 11 .nil))))))) rfl aw aw aw dI ?_
 refine go ?_
 refine Vd (qm n i) ?_
 cases hr:m8 n i with
 | false =>
  have hcf:kP root n i leaf proof=false:=by
   grind [kP,m8]
  rw[hcf]at hE
  refine go ?_
  (refine bL hE ?_;apply bH (U:=bh) hE Tryz.func149 rfl (aq.refl _);(repeat(first|exact ae.nil|apply ae.tmp rfl));exact⟨rfl,rfl⟩;exact ad)
 | true =>
  have LV:1≤n∧n≤1024∧0≤i∧i<n:=by unfold m8 at hr;simpa using hr
  refine go ?_
  refine Vd (tK n i) ?_
  refine go ?_
  refine eX zr zr ?_ ?_
  ·intro dw
   have hcf:kP root n i leaf proof=false:=by
    grind [kP]
   rw[hcf]at hE
   refine go ?_
   (refine bL hE ?_;apply bH (U:=bh) hE Tryz.func149 rfl (aq.refl _);(repeat(first|exact ae.nil|apply ae.tmp rfl));exact⟨rfl,rfl⟩;exact ad)
  intro heq
  have wg:proof.length=fU n i:=by
   grind
  obtain⟨m,rfl⟩:∃m:Nat,n=m:=⟨n.toNat,aj⟩
  obtain⟨k,rfl⟩:∃m:Nat,i=m:=⟨i.toNat,aj⟩
  have hd:fU (m:Int) (k:Int)=pz (bT m m k):=by
   grind [fU,yi]
  have nI:=uS m m k aj
  have hck:kP root (m:Int) (k:Int) leaf proof=decide ((sj (bT m m k) (leaf,proof)).1=root):=by
   grind [kP,yl]
  rw[hck]at hE
  refine go ?_
  refine ao (qi (m:Int) (k:Int)) ?_
  rintro _ _⟨b1,b2,rfl,rfl⟩
  refine go ?_
  refine jw rfl ?_
  refine al (aq.pick [3,2,5] rfl) ?_
  refine al (FQ (z:=sj ((bT m m k).take 0) (leaf,proof)) zq _) ?_
  refine pJ (Fr:=ak b5 (cl (dC root) 29)::F) (Pre:=fun _ _=>[CkI b8 b9 X (sj ((bT m m k).take 0) (leaf,proof)),ak b1 (cl [.int .i64 (m:Int)] 3),ak b2 (cl [.int .i64 (k:Int)] 3)]) (fun _ _ Lp v H=>H=[Lp .ready none,CkI b8 b9 X (sj ((bT m m k).take (bT m m k).length) (leaf,proof))]) rfl hE.1.1 rfl ?c (fun l r=>ad) ?eA
  case c =>
   intro l r
   refine yJ b1 b2 m k aj aj l _ (fun j=>CkI b8 b9 X (sj ((bT m m k).take j) (leaf,proof))) ?_
   rintro j⟨p,q⟩ LW
   obtain⟨h1,h2⟩:=nI _ (List.mem_of_getElem? LW)
   have om:(bT m m k).take (j+1)=(bT m m k).take j++[(p,q)]:=by rw[List.take_add_one,LW];rfl
   have O8:sj ((bT m m k).take (j+1)) (leaf,proof)=Ak (sj ((bT m m k).take j) (leaf,proof)) (p,q):=by rw[om,RU]
   have hzl:=HW ((bT m m k).take j) (leaf,proof)
   have FV:pz ((bT m m k).take (j+1))=pz ((bT m m k).take j)+if(gY p q).isSome then 1 else 0:=by rw[om,HV]
   have kJ:=Mf (bT m m k) (j+1)
   rw[O8]
   obtain⟨z,hz⟩:∃z,z=sj ((bT m m k).take j) (leaf,proof):=⟨_,rfl⟩
   rw[← hz]at hzl ⊢
   refine cp.Cr zr zr ?_
   intro G F2 R2 hY
   unfold Ak at hY
   obtain⟨x,prf⟩:=z
   refine go ?_
   refine eY rfl hY ?_
   refine al (aq.pick [1] rfl) ?_
   refine dZ (IS b8 b9 X (x,prf)) ?_
   rintro v hdv
   refine go ?_
   refine aeb (ly p q h1 aj) ?_
   unfold yA
   cases hs:gY p q with
   | none =>
    rw[hs]at FV hY
    refine go ?_
    refine al (FQ (z:=(x,prf)) hdv _) ?_
    refine eF hY rfl ad ⟨rfl,rfl⟩
   | some s =>
    rw[hs]at FV hY
    simp only[Option.isSome_some,if_true]at FV
    simp only at hY ⊢
    simp only at hzl
    obtain⟨p0,rest,rfl⟩:∃p0 rest,prf=p0::rest:=by
     cases prf with
     | nil=>rw[List.length_nil]at hzl;exfalso;omega
     | cons p0 rest=>exact⟨p0,rest,rfl⟩
    obtain⟨dH,a1,c1,rfl,y7⟩:=hdv
    obtain⟨bb,oo,cc,he⟩:=dH.some (by rw[List.flatMap_cons];intro h;simp[dC]at h)
    obtain⟨rfl,rfl⟩:=he
    have l8:=K4.tail ⟨dH,_,_,rfl,y7⟩
    have fO:∀(q':Nat) (v:Value),(dC p0)[q']?=some v→((p0::rest).flatMap dC)[0+q']?=some v:=fun q' v hq=>by
     grind
    refine go ?_
    refine aB zr zr ?_ ?_
    ·intro dk
     have qX:s<q:=by omega
     rw[if_pos qX]at hY
     refine go ?_
     refine aO (fun w=>Sat G w ([ak b8 (cl (dC x) 29),ak b9 (cl [.slice (some ⟨bb,oo,none⟩) (p0::rest).length c1] 34),X])) (dM 0 4 (.act 4 (.act 5 .nil))) rfl aw aw aw dI ?_
     (repeat(first|refine g9 ?_|refine cu 0 32 zr zr zr zr zr zr zr zr (by simp) ?_|refine dv (U:=bh) (l:=dC x) 0 zr zr zr zr zr zr ?_|(refine aY ?_;refine dP (U:=bh) (es:=dC p0) 2 0 zr zr zr dH rfl fO zr zr zr ?_)))
     refine Vd (pF X hK p0 x) ?_
     refine bE ?_
     refine gp (U:=bh) (l':=dC (kE p0 x)) 1 eH rfl rfl rfl rfl (by intro e;cases e) (by rw[fg];exact lz _) rfl rfl rfl ?_
     refine go ?_
     refine aU (p:=1) (q:=((p0::rest).length:Int)) zr zr zr zr zr zr zr aj (by simp only[List.length_cons];omega) (.inl rfl) ?_
     ((refine au 52 ((.slice (sliceAt (some ⟨bb,oo,none⟩) c1 1 32) rest.length (c1-1))) rfl ((by rw[show((p0::rest).length:Int).toNat=rest.length+1 from by simp[List.length_cons],show(1:Int).toNat=1 from rfl,show rest.length+1-1=rest.length by omega];rfl)) ?_))
     refine go ?_
     refine al (aq.trans ad (FQ (z:=(kE p0 x,rest)) l8 _)) ?_
     refine eF hY rfl ad ⟨rfl,rfl⟩
    ·intro dk
     have qX:¬s<q:=by omega
     rw[if_neg qX]at hY
     refine go ?_
     refine aO (fun w=>Sat G w ([ak b8 (cl (dC x) 29),ak b9 (cl [.slice (some ⟨bb,oo,none⟩) (p0::rest).length c1] 34),X])) (dM 0 4 (.act 4 (.act 5 .nil))) rfl aw aw aw dI ?_
     (repeat(first|refine g9 ?_|refine cu 0 32 zr zr zr zr zr zr zr zr (by simp) ?_|refine dv (U:=bh) (l:=dC x) 0 zr zr zr zr zr zr ?_|(refine aY ?_;refine dP (U:=bh) (es:=dC p0) 2 0 zr zr zr dH rfl fO zr zr zr ?_)))
     refine Vd (pF X hK x p0) ?_
     refine bE ?_
     refine gp (U:=bh) (l':=dC (kE x p0)) 1 eH rfl rfl rfl rfl (by intro e;cases e) (by rw[fg];exact lz _) rfl rfl rfl ?_
     refine go ?_
     refine aU (p:=1) (q:=((p0::rest).length:Int)) zr zr zr zr zr zr zr aj (by simp only[List.length_cons];omega) (.inl rfl) ?_
     ((refine au 52 ((.slice (sliceAt (some ⟨bb,oo,none⟩) c1 1 32) rest.length (c1-1))) rfl ((by rw[show((p0::rest).length:Int).toNat=rest.length+1 from by simp[List.length_cons],show(1:Int).toNat=1 from rfl,show rest.length+1-1=rest.length by omega];rfl)) ?_))
     refine go ?_
     refine al (aq.trans ad (FQ (z:=(kE x p0,rest)) l8 _)) ?_
     refine eF hY rfl ad ⟨rfl,rfl⟩
  rintro l r v H' rfl
  refine⟨_,_,_,rfl,by decide,?_⟩
  rw[hE.1.2,List.take_length]
  refine dZ (IS b8 b9 X _) ?_
  rintro v -
  refine go ?_
  refine aW (U:=bh) (l:=dC (sj (bT m m k) (leaf,proof)).1) 0 zr zr zr zr zr zr (go ?_)
  refine aW (U:=bh) (l:=dC root) 4 zr zr zr zr zr zr (go ?_)
  refine lJ (b:=decide ((sj (bT m m k) (leaf,proof)).1=root)) zr zr zr N7 (fun w=>Of _ root w) ?_
  refine go ?_
  (apply bH (U:=bh) hE Tryz.func149 rfl ad;(repeat(first|exact ae.nil|apply ae.tmp rfl));exact⟨rfl,rfl⟩;exact ad)
def AT(X:HP)(hK:qI X)(x:Bl)(i:Int)(bv:Value)(b:List UInt8)(hb:eU X bv b)(jx:b.length≤900000000)(pv:Value)(proof:List Dg)(hp:K4 X pv proof) :
  aH Tryz.prog 73 [ix x,.int .i64 i,bv,pv] [X] (fun r H=>r = .bool (di x i b proof)∧H=[X]):=by
 have Dt:=wQ x i
 have Ry:=yv x
 have hck:=OU X hK x.root (fG b) (cT x) i pv proof hp
 have hlf:=BT X hK bv b hb jx
 obtain⟨ba,bc,rfl,hbc⟩:=hb.2
 refine aH.aC Tryz.func73 Tryz.ntmps73 fun G F R hE=>?_
 refine aP rfl ?_
 refine bJ zr zr bO ?_
 intro b4
 refine go ?_
 refine aW (U:=bh) (l:=ck x) 0 zr zr zr zr zr zr (go ?_)
 refine aeb Dt ?_
 unfold di at hE
 cases hX:dX x i with
 | none =>
  rw[hX]at hE
  refine go ?_
  refine aO (fun w=>Sat G w ([ak b4 (cl (ck x) 31)])) (dM 0 12 (.st 13 (.st 14 (.st 16 (.act 12 (.act 15 (.act 17 (.st 18 (.st 19 .nil))))))))) rfl aw aw aw dI ?_
  refine go ?_
  refine ah hE Tryz.func73 zr zr ⟨rfl,rfl⟩
 | some w =>
  obtain⟨at_,n⟩:=w
  rw[hX]at hE
  simp only at hE ⊢
  refine go ?_
  refine aO (fun w=>Sat G w ([ak b4 (cl (ck x) 31)])) (dM 0 12 (.st 13 (.st 14 (.st 16 (.act 12 (.act 15 (.act 17 (.st 18 (.st 19 .nil))))))))) rfl aw aw aw dI ?_
  refine go ?_
  by_cases hl:(b.length:Int)=n
  case neg =>
   rw[decide_eq_false hl,Bool.false_and]at hE
   refine au 27 ((.bool false)) rfl ((congrArg Value.bool (decide_eq_false hl))) (go ?_)
   refine ah hE Tryz.func73 zr zr ⟨rfl,rfl⟩
  rw[decide_eq_true hl,Bool.true_and]at hE
  refine au 27 ((.bool true)) rfl ((congrArg Value.bool (decide_eq_true hl))) (go ?_)
  refine cE (U:=bh) (cs:=dC x.root) 0 zr zr zr zr zr zr (go ?_)
  refine dv (U:=bh) (l:=ck x) 0 zr zr zr zr zr zr (go ?_)
  refine Vd Ry ?_
  refine go ?_
  refine Vd hlf ?_
  refine go ?_
  refine Vd hck ?_
  refine go ?_
  refine ah hE Tryz.func73 zr zr ⟨rfl,rfl⟩
end Go.Proofs.YtlionahpheehaaaGreatDoor
namespace Go.Proofs.YtlionahpheehaaaGreatDoor
open Go Go.SL
structure TC where
 x:Bl
 n:Nat
 ws:List ku
 pf:Int→Option (List Dg)
def Tk.c(y:Tk):TC:=⟨y.x,y.n,y.ws,y.pf⟩
def gI(ts:List Tk):List TC:=ts.map Tk.c
namespace TC
def put(c:TC)(i:Nat)(l:List Dg):TC:=⟨c.x,c.n,jQ c.ws i true,fun j=>if j=(i:Int)then some l else c.pf j⟩
def drop(c:TC)(i:Nat):TC:=⟨c.x,c.n,jQ c.ws i false,fun j=>if j=(i:Int)then none else c.pf j⟩
end TC
def dG(x:Bl):TC:=⟨x,(cT x).toNat,List.replicate (((cT x).toNat+63)/64) 0#64,fun _=>none⟩
def nZ:List (List UInt8)→Option (List Dg)
 | []=>some []
 | b::l=>match ij b,nZ l with
  | some d,some ds=>some (d::ds)
  | _,_=>none
def ni(cs:List TC)(d:Dg)(m:List UInt8)(l:List (List UInt8)):List TC:=match rN m,nZ l with
 | some i,some p=>cs.map fun y=>if y.x.d=d∧i<y.n∧p.length=fU y.n i then y.put i p else y
 | _,_=>cs
def Gs(cs:List TC)(d:Dg):List TC:=cs.filter fun y => !decide (y.x.d=d)
def dL(cs:List TC)(b:List UInt8):List TC:=match jj b with
 | none=>cs
 | some (k,d,more) =>
  if k=3∧more=[]then Gs cs d
  else match more with
   | [s,p,r]=>if k=1 then(match rN s,rN p,ij r with
     | some s,some p,some r=>if bP ⟨d,s,p,r⟩then Gs cs d++[dG ⟨d,s,p,r⟩]else cs
     | _,_,_=>cs)
    else if k=2 then ni cs d s [p,r]else cs
   | m::l=>if k=2 then ni cs d m l else cs
   | []=>cs
def bQ(d:Dg)(i:Nat)(p:List Dg):List UInt8:=jB 2 d (uv i::p.map Dg.bs)
def nX(s:fW)(z:TC × List (List UInt8))(i:Nat):TC × List (List UInt8) :=
 if cy z.1.ws z.1.n (i:Int)then(if(eL s z.1.x i).2≠0∨di z.1.x i (eL s z.1.x i).1 ((z.1.pf i).getD [])=false then(z.1.drop i,z.2)else(z.1,z.2++[bQ z.1.x.d i ((z.1.pf i).getD [])]))else z
def jl(s:fW)(c:TC)(k:Nat):TC × List (List UInt8):=(List.range k).foldl (nX s) (c,[cm c.x])
def lU(s:fW)(c:TC):TC × List (List UInt8):=jl s c c.n
def ux(q:Int):List TC→fW→List TC→List (List UInt8)→Nat→fW→List TC→List (List UInt8)→Prop
 | [],s,cs,rs,e,t,k6,CY=>e=0∧t=s∧k6=cs∧CY=rs
 | c::l,s,cs,rs,e,t,k6,CY=>∃e1 s1,eh q c.x s e1 s1 ∧
  if e1=5∨e1=11 then ux q l s1 cs rs e t k6 CY
  else if e1≠0 then e=e1∧t=s1
  else ux q l s1 (cs++[(lU s1 c).1]) (rs++(lU s1 c).2) e t k6 CY
def FA(q:Int)(s:fW)(e:Nat)(t:fW)(jn:JN)(cs:List TC):Prop :=
 ∃e1 A1 j1,mD s.A dF e1 A1 j1∧if e1≠0 then e=e1∧t=⟨A1,s.bu,s.brk⟩else
  ∃e2 s2 rs,ux q ((gU s.A dF).foldl dL []) ⟨A1,s.bu,s.brk⟩ [] [] e2 s2 cs rs∧if e2≠0 then e=e2∧t=s2 else
   ∃A3,pO dF s2.A j1 rs e A3 jn∧t=⟨A3,s2.bu,s2.brk⟩
def nq(s:fW)(c:TC)(k:Nat):jl s c (k+1)=nX s (jl s c k) k:=by
 unfold jl
 rw[List.range_succ,List.foldl_append]
 rfl
theorem T'(s:fW)(z:TC × List (List UInt8))(i:Nat):(nX s z i).1.x=z.1.x∧(nX s z i).1.n=z.1.n∧(nX s z i).1.ws.length=z.1.ws.length:=by
 unfold nX
 split
 ·split
  ·exact⟨rfl,rfl,iH _ _ _⟩
  grind
 grind
theorem LY(s:fW)(c:TC):∀k,(jl s c k).1.x=c.x∧(jl s c k).1.n=c.n∧(jl s c k).1.ws.length=c.ws.length
 | 0=>⟨rfl,rfl,rfl⟩
 | k+1=>by
  rw[nq]
  obtain⟨h1,h2,h3⟩:=T' s (jl s c k) k
  obtain⟨g1,g2,g3⟩:=LY s c k
  grind
theorem tB(ts:List Tk):(gI ts).length=ts.length:=by simp[gI]
def gy(i:Nat)(l:List Dg):List (List UInt8):=uv i::l.map Dg.bs
def nh(i:Nat)(hi:i≤1000000000000)(l:List Dg):∀b∈gy i l,b.length≤32:=fun b hb=>by
  rcases List.mem_cons.1 hb with rfl|hb
  · have := xl 5 i (by have : (128 : Nat) ^ 6 = 4398046511104 := by decide
                       omega)
    omega
  · obtain⟨d,_,rfl⟩:=List.mem_map.1 hb
    rw[d.len];omega
def GK(i:Nat){l:List Dg}{j:Nat}{d:Dg}(h:l[j]?=some d):gy i (l.take (j+1))=gy i (l.take j)++[d.bs]:=by
 unfold gy
 rw[List.take_add_one,h]
 simp
structure Rws where
 cs:List Value
 Z:HP
def Fy(M:Rws)(ls:List (List UInt8)):Prop:=M.cs.length=ls.length∧∀(i:Nat) (x:List UInt8),ls[i]?=some x→∃cv,M.cs[i]?=some cv∧eU M.Z cv x
theorem Fy.add{M:Rws}{ls:List (List UInt8)}(h:Fy M ls){A:HP}{cv:Value}{x:List UInt8}(hx:eU A cv x):Fy ⟨M.cs++[cv],Sep [A,M.Z]⟩ (ls++[x]):=by
 obtain⟨h1,h2⟩:=h
 refine⟨by simp[h1],fun i y hy=>?_⟩
 rw[List.getElem?_append]at hy ⊢
 rw[h1]
 split at hy
 ·rename_i dk
  rw[if_pos dk]
  obtain⟨cv',h3,h4⟩:=h2 i y hy
  exact⟨cv',h3,h4.mono (aX (i:=1) rfl)⟩
 ·rename_i fO
  rw[if_neg fO]
  have h0:i-ls.length=0:=by
   grind
  rw[h0]at hy ⊢
  cases hy
  exact⟨cv,rfl,hx.mono (aX (i:=0) rfl)⟩
attribute [local irreducible] J K aH Ends ak aK aV bX bj aS bp bD cp aJ
theorem C7(d:Dg)(i:Nat)(hi:i≤1000000000000)(P:HP)(pv:Value)(l:List Dg)(hp:Vw P pv l.length (l.flatMap dC))(hl:l.length≤16) :
  aH Tryz.prog 78 [dV d,.int .i64 (i:Int),pv] [P] (fun r H=>H=[aK 5 1 r (bQ d i l).length (bV (bQ d i l)),P]):=by
 obtain⟨a,c,rfl⟩:=hp.shape
 have hlen:=nh i hi l
 refine aH.aC Tryz.func78 Tryz.ntmps78 fun G F R hE=>?_
 refine aP rfl ?_
 refine bJ zr zr bO ?_
 intro b3
 refine go ?_
 refine ao (fK i aj) ?_
 rintro r8 _ rfl
 refine aN 0 rfl ?_
 rintro a8 c8 rfl
 refine fY (bs:=uv i) 0 rfl ?_
 intro N2
 refine go ?_
 refine az (cs:=[.slice a8 (uv i).length c8]) zr zr zr zr zr zr zr zr zr bO ?_
 intro row
 refine go ?_
 refine al (fp 22 1 row 1 1 [.slice a8 (uv i).length c8] [] _ rfl (Nat.le_refl _) (by simp)) ?_
 refine bF (fun y:Nat × Rws × Option Addr × Nat=>y.1≤l.length∧Fy y.2.1 (gy i (l.take y.1))) (fun y=>l.length-y.1)
  (fun y=>[(3,ptr b3),(7,.slice y.2.2.1 (y.1+1) y.2.2.2),(14,.slice a l.length c),(15,.int .i64 (l.length:Int)),(16,.int .i64 (y.1:Int))])
  (fun y=>aK 22 1 (.slice y.2.2.1 (y.1+1) y.2.2.2) (y.1+1) y.2.1.cs::y.2.1.Z::ak b3 (cl (dC d) 29)::P::F) (0,⟨[.slice a8 (uv i).length c8],aK 5 1 (.slice a8 (uv i).length c8) (uv i).length (bV (uv i))⟩,some ⟨row,0,none⟩,1) ⟨Nat.zero_le _,?_⟩ rfl cF ad ?_
 ·refine⟨rfl,fun j x hx=>?_⟩
  grind [gy]
 rintro⟨j,M,ma,mc⟩⟨hj,hM⟩ ih
 refine go ?_
 refine aB zr zr ?_ ?_
 ·intro dk
  have tP:j<l.length:=by omega
  obtain⟨x,hx⟩:∃x,l[j]?=some x:=⟨l[j],by simp⟩
  have om:=GK i hx
  obtain⟨bb,oo,cc,he⟩:=hp.some (by intro h;have:=congrArg List.length h;rw[bR ff]at this;simp at this;omega)
  obtain⟨rfl,rfl⟩:=he
  refine go ?_
  refine cu j 32 zr zr zr zr zr zr zr zr tP ?_
  refine aY ?_
  refine cK (U:=bh) (es:=dC x) 3 (j*32) zr zr zr hp rfl (fun q v hq=>?_) zr zr zr ?_
  ·rw[cM ff hx q (by rcases Nat.lt_or_ge q 32 with h|h;exact h;rw[List.getElem?_eq_none (by rw[ff];exact h)]at hq;cases hq)];exact hq
  refine aL zr zr zr bO ?_
  intro b9
  refine go ?_
  refine iP (U:=bh) zr zr zr zr zr ?_
  have DF:eU (ak b9 (cl (dC x) 29)) (.slice (some ⟨b9,0,none⟩) 32 32) x.bs:=eU.block x.len (fg x)
  have kJ:=iR (ak b9 (cl (dC x) 29)) (.slice (some ⟨b9,0,none⟩) x.bs.length 32) x.bs (by have:=DF.1;rw[x.len]at this ⊢;exact this) (by rw[x.len];omega)
  rw[x.len]at kJ
  refine ao kJ ?_
  rintro r9 _ rfl
  rw[← x.len]
  refine aN 0 rfl ?_
  rintro a9 c9 rfl
  refine fY (bs:=x.bs) 0 rfl ?_
  intro hb9
  refine go ?_
  refine az (cs:=[.slice a9 x.bs.length c9]) zr zr zr zr zr zr zr zr zr bO ?_
  intro PU
  refine go ?_
  refine bg (mm:=1) (news:=[.slice a9 x.bs.length c9]) 3 0 rfl rfl rfl rfl rfl rfl rfl rfl rfl rfl rfl rfl (Vw.ak rfl) rfl (by intro v hv;simp at hv;rw[hv];rfl) aj (by show(_+_)*24≤_;omega) (fun _=>rfl) bO ?_
  intro v1
  refine aN 3 rfl ?_
  rintro ja jc rfl
  refine go ?_
  refine al (aq.pick [1,4,3,5,6] rfl) ?_
  refine al (aq.cg [aK 5 1 (.slice a9 x.bs.length c9) x.bs.length (bV x.bs),M.Z] _) ?_
  have Bm:=hM.add hb9
  rw[← om]at Bm
  refine aQ ih (j+1,⟨M.cs++[.slice a9 x.bs.length c9],Sep [aK 5 1 (.slice a9 x.bs.length c9) x.bs.length (bV x.bs),M.Z]⟩,ja,jc) rfl ⟨by simp only;omega,Bm⟩ aj cF ad
 ·intro fO
  have Rq:j=l.length:=by omega
  subst Rq
  rw[List.take_length]at hM
  have EX:(gy i l).length=l.length+1:=by simp[gy]
  refine sA 0 rfl ?_
  intro jE
  refine eE 0 rfl ?_
  intro QX
  have oq:xh (Sep [aK 22 1 (.slice ma (l.length+1) mc) (l.length+1) M.cs,M.Z]) (.slice ma (l.length+1) mc) (gy i l):=by
   rw[← EX]at QX jE ⊢
   exact xh.ofP QX jE hM.1 hM.2
  have Q5:=qf 2 d _ _ (gy i l) oq aj hlen
  refine al (aq.cg [aK 22 1 (.slice ma (l.length+1) mc) (l.length+1) M.cs,M.Z] _) (go ?_)
  refine aW (U:=bh) (l:=dC d) 1 zr zr zr zr zr zr ?_
  ((refine go ?_;(refine ao Q5 ?_)))
  rintro rr _ rfl
  refine go ?_
  refine aG hE Tryz.func78 rfl _ zr zr ad
end Go.Proofs.YtlionahpheehaaaGreatDoor
namespace Go.Proofs.YtlionahpheehaaaGreatDoor
open Go Go.SL
def SK(q:Int)(x:Bl)(ts:List Tk)(s:SJ)(br:Bool)(e:Nat)(eG:List Tk)(jN:Bool)(t:SJ):Prop :=
 (br=true∧e=10∧eG=ts∧jN=br∧t=s)∨(br=false∧(ts.any fun y=>decide (y.x.d=x.d))=true∧e=5∧eG=ts∧jN=br∧t=s) ∨
 (br=false∧(ts.any fun y=>decide (y.x.d=x.d))=false∧jN=eQ e∧jG (gu (eh q x)::mw (cm x)) s e t∧((e≠0∧eG=ts)∨(e=0∧∃y:Tk,y.c=dG x∧eG=ts++[y])))
attribute [local irreducible] J K aH Ends ak aK aV bX bj aS bp bD cp aJ
def H0(tb bs jb bd b2 b3:Nat)(q:Int)(hq:0≤q∧q≤1073741824)(mb:Nat)(tv:Value)(s:SJ)(x:Bl)(A B C:HP)(RA:qS s.1.bu)(cN:s.1.A.aF.length≤900000000)(fD:s.1.A.writes.length≤900000000) :
  aH Tryz.prog 46 [ptr b2,ptr b3] [kW tb bs jb tv false,dj bs bd jb q mb (A::B::C::[ak b2 (cl [ptr tb] 43),ak b3 (cl (ck x) 31)]) s]
  (fun r H=>∃(e:Nat) (t:SJ),r = .int .i64 (e:Int)∧H=[kW tb bs jb tv false,dj bs bd jb q mb (A::B::C::[ak b2 (cl [ptr tb] 43),ak b3 (cl (ck x) 31)]) t]∧gu (eh q x) s e t):=by
 have c0:=aH.frame ([uY jb bd dF s.2]++[A,B,C]) (HZ tb bs jb bd b2 b3 q hq mb tv s.1 x RA cN fD)
 refine c0.conv ?_ ?_
 ·exact(aq.cons _ (xp _)).trans ad
 ·rintro v H⟨H',⟨e,t,rfl,rfl,hC⟩,rfl⟩
  refine⟨[kW tb bs jb tv false,dj bs bd jb q mb _ (t,s.2)],⟨e,_,rfl,rfl,hC,rfl⟩,?_⟩
  exact aq.trans ad (aq.cons _ (xF _))
theorem PO(tb bs jb bd:Nat)(tv:Value)(q:Int)(mb:Nat)(s:SJ)(g:FuncId)(cap:List Value)(c2 c3:Nat)(Z:HP)(Ys:List HP)(S:SJ→Nat→SJ→Prop)(a:Option Addr)(c:Nat)(b:List UInt8)(hb:eU Z (.slice a b.length c) b)(hl:b.length≤1000000)(m:Nat)(hm:m≤800000000)(hx:∀t,S s 0 t→SQ m 0 t)(hc:aH Tryz.prog g cap [kW tb bs jb tv false,dj bs bd jb q mb (ak c2 (cl [ptr tb] 43)::ak c3 (cl [.slice a b.length c] 22)::Z::Ys) s] (fun r H=>∃(e:Nat) (t:SJ),r = .int .i64 (e:Int)∧H=[kW tb bs jb tv false,dj bs bd jb q mb (ak c2 (cl [ptr tb] 43)::ak c3 (cl [.slice a b.length c] 22)::Z::Ys) t]∧S s e t))(V:HP)(v:Value)(hv:Vw V v 3 (.func (.func g) #[] cap.toArray::jC c2 c3 jb)) :
  aH Tryz.prog 49 [ptr tb,v] [V,kW tb bs jb tv false,dj bs bd jb q mb (ak c2 (cl [ptr tb] 43)::ak c3 (cl [.slice a b.length c] 22)::Z::Ys) s]
  (fun r H=>∃(e:Nat) (t:SJ),r = .int .i64 (e:Int)∧H=[V,kW tb bs jb tv (eQ e),dj bs bd jb q mb (ak c2 (cl [ptr tb] 43)::ak c3 (cl [.slice a b.length c] 22)::Z::Ys) t]∧jG (S::mw b) s e t):=by
 refine sO (dj bs bd jb q mb _) tb bs jb tv V v (.func (.func g) #[] cap.toArray::jC c2 c3 jb) hv (by simp[jC]) (S::mw b) rfl (fun i y=>(i=0→y=s)∧(i=1→SQ m 0 y)∧(i=2→SQ m 1 y)) ?_ s ⟨fun _=>rfl,fun h=>by omega,fun h=>by omega⟩
 intro i fv S' mA hs
 match i,mA,hs with
 | 0,mA,hs =>
  cases mA
  cases hs
  refine⟨_,_,_,rfl,fun y hy=>?_⟩
  have:=hy.1 rfl
  subst this
  refine aH.post hc ?_
  rintro v H⟨e,t,rfl,rfl,hS⟩
  exact⟨e,t,rfl,rfl,hS,fun h0=>⟨fun h=>absurd h aj,fun _=>hx t (by grind),fun h=>absurd h aj⟩⟩
 | 1,mA,hs =>
  cases mA
  cases hs
  refine⟨_,_,_,rfl,fun y hy=>?_⟩
  obtain⟨a1,⟨a2,a3⟩,a4,a5⟩:=hy.2.1 rfl
  refine aH.post (xO tb bs jb bd c2 c3 tv q mb y Z Ys a c b hb hl ⟨a2,aj⟩ aj) ?_
  rintro v H⟨e,x',rfl,rfl,hS⟩
  exact⟨e,x',rfl,rfl,hS,fun _=>⟨fun h=>absurd h aj,fun h=>absurd h aj,fun _=>SQ.append ⟨a1,⟨a2,a3⟩,a4,a5⟩ hS⟩⟩
 | 2,mA,hs =>
  cases mA
  cases hs
  refine⟨_,_,_,rfl,fun y hy=>?_⟩
  obtain⟨a1,⟨a2,a3⟩,a4,a5⟩:=hy.2.2 rfl
  refine aH.post (si tb bs jb bd tv q mb y _ a1 ⟨a2,aj⟩ aj aj) ?_
  rintro v H⟨e,x',rfl,rfl,hS⟩
  exact⟨e,x',rfl,rfl,hS,fun _=>⟨fun h=>absurd h aj,fun h=>absurd h aj,fun h=>absurd h aj⟩⟩
 | n+3,mA,hs=>cases hs
def La(tb bs jb bd:Nat)(tv:Value)(q:Int)(hq:0≤q∧q≤1073741824)(mb:Nat)(ts:List Tk)(br:Bool)(s:SJ)(x:Bl)(hl:ts.length≤1000000)(hs:0≤x.size∧x.size≤1000000000000)(hp:0≤x.piece∧x.piece≤1000000000000)(RA:qS s.1.bu)(cN:s.1.A.aF.length≤900000000)(fD:s.1.A.writes.length≤900000000)(m:Nat)(hm:m≤800000000)(hx:∀t,gu (eh q x) s 0 t→SQ m 0 t) :
  aH Tryz.prog 10 [ptr tb,ix x] (lN tb bs jb tv ts br++[dj bs bd jb q mb [] s])
  (fun r H=>∃(e:Nat) (eG:List Tk) (sJ:Value) (jN:Bool) (t:SJ),r = .int .i64 (e:Int)∧H=lN tb bs jb sJ eG jN++[dj bs bd jb q mb [] t]∧SK q x ts s br e eG jN t):=by
 have y8:=uw x hs hp
 have jx:(cm x).length≤1000000:=by
  have:=jA 1 x.d (jv x) (by simp[jv]) (nC x hs.2 hp.2)
  unfold cm;omega
 have VN:=fun a n c=>xN tb bs jb tv a n c
 have tQ:=DL x
 refine aH.aC Tryz.func10 Tryz.ntmps10 fun G F R hE=>?_
 refine aP rfl ?_
 refine bJ zr zr bO ?_
 intro b2
 refine bJ zr zr bO ?_
 intro b3
 cases br with
 | true =>
  refine go ?_
  refine ah hE Tryz.func10 zr zr ⟨10,ts,tv,true,s,rfl,rfl,.inl ⟨rfl,rfl,rfl,rfl,rfl⟩⟩
 | false =>
 refine go ?_
 refine aN 3 rfl ?_
 rintro a c rfl
 refine aT (aq.pick [3,2,4,5,1] rfl) ?_
 refine eZ 0 rfl ?_
 intro dH
 refine aT (aq.pick [2,5] rfl) ?_
 refine aT (aq.cg [bK ts,ak b3 (cl (ck x) 31)] _) ?_
 refine aeb (qR (aK 103 1 (.slice a ts.length c) ts.length (ts.map dm)) (Sep [bK ts,ak b3 (cl (ck x) 31)]) _ ts dH hl 45 [ptr b3] (fun y=>decide (y.x.d=x.d)) (fun y hy=>zb ts x b3 y hy)) ?_
 refine aT (H':=Sep [bK ts,ak b3 (cl (ck x) 31)]::aK 103 1 (.slice a ts.length c) ts.length (ts.map dm)::ak tb (cl [ptr bs,ptr jb,.slice a ts.length c,.bool false] 101)::dj bs bd jb q mb [] s::ak b2 (cl [ptr tb] 43)::F) ad ?_
 refine aT (aq.cR [bK ts,ak b3 (cl (ck x) 31)] _) ?_
 cases mJ:ts.any (fun y=>decide (y.x.d=x.d))with
 | true =>
  refine go ?_
  refine ah hE Tryz.func10 zr zr ⟨5,ts,_,false,s,rfl,rfl,.inr (.inl ⟨rfl,mJ,rfl,rfl,rfl,rfl⟩)⟩
 | false =>
 refine go ?_
 refine jw rfl ?_
 refine Mq 1 (fun y:(Option Addr × Nat) × (Option Addr × Nat) × Nat × Nat=>True) (fun y=>[(2,ptr b2),(3,ptr b3),(5,.slice y.1.1 3 y.1.2)]) (fun y=>aK 94 1 (.slice y.1.1 3 y.1.2) 3 ([.func (.func 46) #[] #[ptr b2,ptr b3] ]++jC y.2.2.1 y.2.2.2 jb)::aK 5 1 (.slice y.2.1.1 (cm x).length y.2.1.2) (cm x).length (bV (cm x))::ak y.2.2.1 (cl [ptr tb] 43)::ak y.2.2.2 (cl [.slice y.2.1.1 (cm x).length y.2.1.2] 22)::ak tb (cl [ptr bs,ptr jb,.slice a ts.length c,.bool false] 101)::aK 103 1 (.slice a ts.length c) ts.length (ts.map dm)::bK ts::dj bs bd jb q mb [] s::ak b2 (cl [ptr tb] 43)::ak b3 (cl (ck x) 31)::F) rfl ?_ ?_
 rotate_left
 ·intro tail
  refine aO (fun w=>Sat G w ([ak b2 (cl [ptr tb] 43),ak b3 (cl (ck x) 31)])) (.st 0 (.st 2 (.st 3 (.fork (.act 1 (.act 4 (.act 5 (.act 6 (.st 7 .nil))))) (.act 4 (.fork (.act 1 (.act 5 (.act 6 (.st 7 .nil)))) (.act 5 (.act 1 (.act 6 (.st 7 .nil)))))))))) rfl aw aw aw dI ?_
  refine go ?_
  refine dv (U:=bh) (l:=ck x) 1 zr zr zr zr zr zr ?_
  repeat'(first|refine bG ?_ ?_|(refine az (cs:=[.func (.func 46) #[] #[ptr b2,ptr b3] ]) zr zr zr zr zr zr zr zr zr (fun _ w hw=>by exact hw.cI ad) ?_;intro r0)|(((refine bz y8 ?_));rintro _ _ rfl;((refine aN 0 rfl ?_));rintro a8 c8 rfl)|(((refine bz (VN a8 (cm x).length c8) ?_));rintro _ _⟨c2,c3,row,rfl,rfl⟩)|fail)
  all_goals(
   refine aT (H':=ak r0 (cl [.func (.func 46) #[] #[ptr b2,ptr b3] ] 94)::ak row (cl (jC c2 c3 jb) 94)::aK 5 1 (.slice a8 (cm x).length c8) (cm x).length (bV (cm x))::ak c2 (cl [ptr tb] 43)::ak c3 (cl [.slice a8 (cm x).length c8] 22)::ak tb (cl [ptr bs,ptr jb,.slice a ts.length c,.bool false] 101)::aK 103 1 (.slice a ts.length c) ts.length (ts.map dm)::bK ts::dj bs bd jb q mb [] s::ak b2 (cl [ptr tb] 43)::ak b3 (cl (ck x) 31)::F) ad ?_
   refine aT (fp 94 1 r0 1 1 [.func (.func 46) #[] #[ptr b2,ptr b3] ] [] _ rfl (Nat.le_refl _) (by simp)) ?_
   refine bg (mm:=2) (news:=jC c2 c3 jb) 0 1 rfl rfl rfl rfl rfl rfl rfl rfl rfl rfl rfl rfl (Vw.ak rfl) rfl (by intro v hv;simp[jC]at hv;rcases hv with rfl|rfl <;> rfl) aj (by show(_+_)*8≤_;omega) (fun _=>rfl) (fun _ w hw=>by exact hw.cI ad) ?_
   intro v1
   refine aN 0 rfl ?_
   rintro ja jc rfl
   refine zt ?_
   refine FC tail ((ja,jc),(a8,c8),c2,c3) rfl trivial cF ad)
 rintro⟨⟨ja,jc⟩,⟨a8,c8⟩,c2,c3⟩ -
 refine eE 0 rfl ?_
 intro rk
 refine qG (bs:=cm x) 1 rfl ?_
 intro N2
 have iJ:=PO tb bs jb bd (.slice a ts.length c) q mb s 46 [ptr b2,ptr b3] c2 c3 _ [ak b2 (cl [ptr tb] 43),ak b3 (cl (ck x) 31)] _ a8 c8 (cm x) N2 jx m hm hx (H0 tb bs jb bd b2 b3 q hq mb (.slice a ts.length c) s x _ _ _ RA cN fD) _ _ rk
 refine al (aq.pick [8] rfl) (go ?_)
 refine aT (aq.pick [8,3,4,2,0,9] rfl) ?_
 refine aT (Fx bs bd jb q mb _ s _) ?_
 refine ao iJ ?_
 rintro _ _⟨e,t,rfl,rfl,hR⟩
 refine aT (H':=dj bs bd jb q mb [ak c2 (cl [ptr tb] 43),ak c3 (cl [.slice a8 (cm x).length c8] 22),aK 5 1 (.slice a8 (cm x).length c8) (cm x).length (bV (cm x)),ak b2 (cl [ptr tb] 43),ak b3 (cl (ck x) 31)] t::ak tb (cl [ptr bs,ptr jb,.slice a ts.length c,.bool (eQ e)] 101)::aK 103 1 (.slice a ts.length c) ts.length (ts.map dm)::bK ts::F) ad ?_
 refine aT (zP bs bd jb q mb _ t _) ?_
 by_cases he:e=0
 ·subst he
  refine aT (H':=aK 103 1 (.slice a ts.length c) ts.length (ts.map dm)::ak tb (cl [ptr bs,ptr jb,.slice a ts.length c,.bool (eQ 0)] 101)::ak b2 (cl [ptr tb] 43)::ak b3 (cl (ck x) 31)::bK ts::dj bs bd jb q mb [] t::F) ad (go ?_)
  refine aO (fun w=>Sat G w ([ak tb (cl [ptr bs,ptr jb,.slice a ts.length c,.bool (eQ 0)] 101),ak b2 (cl [ptr tb] 43),ak b3 (cl (ck x) 31)])) (dM 0 6 (.act 6 (.act 7 (.act 8 (.st 9 (.st 10 (.act 11 .nil))))))) rfl aw aw aw dI ?_
  refine go ?_
  refine dv (U:=bh) (l:=ck x) 2 zr zr zr zr zr zr (go ?_)
  refine bz tQ ?_
  rintro _ _⟨y,rfl,rfl,Vu,J1,hy3,hy4⟩
  refine go ?_
  refine az (cs:=[ptr y.yb]) zr zr zr zr zr zr zr zr zr (fun _ w hw=>hw.cI ad) ?_
  intro r1
  refine go ?_
  refine bg (mm:=1) (news:=[ptr y.yb]) 2 0 rfl rfl rfl rfl rfl rfl rfl rfl rfl rfl rfl rfl (Vw.ak rfl) rfl (by intro v hv;simp at hv;rw[hv];rfl) aj (by show(_+_)*8≤_;omega) (fun _=>rfl) (fun _ w hw=>hw.cI ad) ?_
  intro v1
  refine aN 2 rfl ?_
  rintro ka kc rfl
  refine go ?_
  have NO:ts.map dm++[ptr y.yb]=(ts++[y]).map dm:=by simp[dm]
  have EX:ts.length+1=(ts++[y]).length:=by simp
  have nI:=xr ts [] y
  rw[List.append_nil]at nI
  rw[NO,EX]
  refine al (aq.pick [1,6,3,2,7] rfl) ?_
  refine al (nI _) ?_
  have O0:y.c=dG x:=by
   unfold Tk.c dG
   rw[Vu,hy3,hy4,← J1,Int.toNat_natCast]
  refine ah hE Tryz.func10 zr zr ⟨0,ts++[y],_,eQ 0,t,rfl,rfl,.inr (.inr ⟨rfl,mJ,rfl,hR,.inr ⟨rfl,y,O0,rfl⟩⟩)⟩
 ·refine aT (H':=ak tb (cl [ptr bs,ptr jb,.slice a ts.length c,.bool (eQ e)] 101)::aK 103 1 (.slice a ts.length c) ts.length (ts.map dm)::bK ts::dj bs bd jb q mb [] t::F) ad (go ?_)
  refine aB zr zr ?_ ?_
  ·intro _
   refine go ?_
   refine ah hE Tryz.func10 zr zr ⟨e,ts,_,eQ e,t,rfl,rfl,.inr (.inr ⟨rfl,mJ,rfl,hR,.inl ⟨he,rfl⟩⟩)⟩
  ·intro h;exfalso;omega
end Go.Proofs.YtlionahpheehaaaGreatDoor
namespace Go.Proofs.YtlionahpheehaaaGreatDoor
open Go Go.SL
def OA(x:Bl)(i:Int)(b:List UInt8)(p:List Dg)(ts:List Tk)(s:SJ)(br:Bool)(e:Nat)(eG:List Tk)(jN:Bool)(t:SJ):Prop :=
 (br=true∧e=10∧eG=ts∧jN=br∧t=s)∨(br=false∧lX ts x=none∧e=4∧eG=ts∧jN=br∧t=s) ∨
 (br=false∧∃(k:Nat) (y:Tk),lX ts x=some y∧ts[k]?=some y∧y.x=x∧(((i<0∨(y.n:Int)≤i)∧e=1∧eG=ts∧jN=br∧t=s)∨((0≤i∧i<y.n)∧cy y.ws y.n i=true∧e=0∧eG=ts∧jN=br∧t=s) ∨
  ((0≤i∧i<y.n)∧cy y.ws y.n i=false∧di x i b p=false∧e=8∧eG=ts∧jN=br∧t=s) ∨
  ((0≤i∧i<y.n)∧cy y.ws y.n i=false∧di x i b p=true∧jN=eQ e∧jG (gu (nE x i b)::gu (kQ x)::mw (bQ x.d i.toNat p)) s e t∧((e≠0∧eG=ts)∨(e=0∧eG=ts.set k (y.put i.toNat p))))))
attribute [local irreducible] J K aH Ends ak aK aV bX bj aS bp bD cp aJ
def M6(X:HP)(tb bs jb bd b2 b3 b4 b5:Nat)(q:Int)(mb:Nat)(tv:Value)(s:SJ)(x:Bl)(i:Int)(a:Option Addr)(c:Nat)(b:List UInt8)(A B C:HP)(hv:Vw X (.slice a b.length c) b.length (bV b))(jx:b.length≤1000000000)(hi : -9223372036854775808≤i∧i≤9223372036854775807)(cN:s.1.A.aF.length≤900000000)(fD:s.1.A.writes.length≤900000000) :
  aH Tryz.prog 74 [ptr b2,ptr b3,ptr b4,ptr b5] [kW tb bs jb tv false,dj bs bd jb q mb (A::B::C::[X,ak b2 (cl [ptr tb] 43),ak b3 (cl (ck x) 31),ak b4 (cl [.int .i64 i] 3),ak b5 (cl [.slice a b.length c] 22)]) s]
  (fun r H=>∃(e:Nat) (t:SJ),r = .int .i64 (e:Int)∧H=[kW tb bs jb tv false,dj bs bd jb q mb (A::B::C::[X,ak b2 (cl [ptr tb] 43),ak b3 (cl (ck x) 31),ak b4 (cl [.int .i64 i] 3),ak b5 (cl [.slice a b.length c] 22)]) t]∧gu (nE x i b) s e t):=by
 have c0:=aH.frame ([uY jb bd dF s.2]++[A,B,C]) (M7 X tb bs jb bd b2 b3 b4 b5 q mb tv s.1 x i a c b hv jx hi cN fD)
 refine c0.conv ?_ ?_
 ·exact(aq.cons _ (xp _)).trans ad
 ·rintro v H⟨H',⟨e,t,rfl,rfl,hC⟩,rfl⟩
  refine⟨[kW tb bs jb tv false,dj bs bd jb q mb _ (t,s.2)],⟨e,_,rfl,rfl,hC,rfl⟩,?_⟩
  exact aq.trans ad (aq.cons _ (xF _))
def M4(tb bs jb bd b2 b3:Nat)(q:Int)(mb:Nat)(tv:Value)(s:SJ)(x:Bl)(A B C X D E:HP)(cN:s.1.A.aF.length≤900000000)(fD:s.1.A.writes.length≤900000000) :
  aH Tryz.prog 76 [ptr b2,ptr b3] [kW tb bs jb tv false,dj bs bd jb q mb (A::B::C::[X,ak b2 (cl [ptr tb] 43),ak b3 (cl (ck x) 31),D,E]) s]
  (fun r H=>∃(e:Nat) (t:SJ),r = .int .i64 (e:Int)∧H=[kW tb bs jb tv false,dj bs bd jb q mb (A::B::C::[X,ak b2 (cl [ptr tb] 43),ak b3 (cl (ck x) 31),D,E]) t]∧gu (kQ x) s e t):=by
 have c0:=aH.frame ([uY jb bd dF s.2]++[A,B,C,X,D,E]) (M5 tb bs jb bd b2 b3 q mb tv s.1 x cN fD)
 refine c0.conv ?_ ?_
 ·exact(aq.cons _ (xp _)).trans ad
 ·rintro v H⟨H',⟨e,t,rfl,rfl,hC⟩,rfl⟩
  refine⟨[kW tb bs jb tv false,dj bs bd jb q mb _ (t,s.2)],⟨e,_,rfl,rfl,hC,rfl⟩,?_⟩
  exact aq.trans ad (aq.cons _ (xF _))
theorem PN(tb bs jb bd:Nat)(tv:Value)(q:Int)(mb:Nat)(s:SJ)(g1 g2:FuncId)(aaT oB:List Value)(c2 c3:Nat)(Z:HP)(Ys:List HP)(S1 S2:SJ→Nat→SJ→Prop)(a:Option Addr)(c:Nat)(b:List UInt8)(hb:eU Z (.slice a b.length c) b)(hl:b.length≤1000000)(m:Nat)(hm:m≤800000000)(hx:∀t u,S1 s 0 t→S2 t 0 u→SQ m 0 u)(y7:aH Tryz.prog g1 aaT [kW tb bs jb tv false,dj bs bd jb q mb (ak c2 (cl [ptr tb] 43)::ak c3 (cl [.slice a b.length c] 22)::Z::Ys) s] (fun r H=>∃(e:Nat) (t:SJ),r = .int .i64 (e:Int)∧H=[kW tb bs jb tv false,dj bs bd jb q mb (ak c2 (cl [ptr tb] 43)::ak c3 (cl [.slice a b.length c] 22)::Z::Ys) t]∧S1 s e t))(qu:∀u,S1 s 0 u→aH Tryz.prog g2 oB [kW tb bs jb tv false,dj bs bd jb q mb (ak c2 (cl [ptr tb] 43)::ak c3 (cl [.slice a b.length c] 22)::Z::Ys) u] (fun r H=>∃(e:Nat) (t:SJ),r = .int .i64 (e:Int)∧H=[kW tb bs jb tv false,dj bs bd jb q mb (ak c2 (cl [ptr tb] 43)::ak c3 (cl [.slice a b.length c] 22)::Z::Ys) t]∧S2 u e t))(V:HP)(v:Value)(hv:Vw V v 4 (.func (.func g1) #[] aaT.toArray :: .func (.func g2) #[] oB.toArray::jC c2 c3 jb)) :
  aH Tryz.prog 49 [ptr tb,v] [V,kW tb bs jb tv false,dj bs bd jb q mb (ak c2 (cl [ptr tb] 43)::ak c3 (cl [.slice a b.length c] 22)::Z::Ys) s]
  (fun r H=>∃(e:Nat) (t:SJ),r = .int .i64 (e:Int)∧H=[V,kW tb bs jb tv (eQ e),dj bs bd jb q mb (ak c2 (cl [ptr tb] 43)::ak c3 (cl [.slice a b.length c] 22)::Z::Ys) t]∧jG (S1::S2::mw b) s e t):=by
 refine sO (dj bs bd jb q mb _) tb bs jb tv V v (.func (.func g1) #[] aaT.toArray :: .func (.func g2) #[] oB.toArray::jC c2 c3 jb) hv (by simp[jC]) (S1::S2::mw b) rfl (fun i y=>(i=0→y=s)∧(i=1→S1 s 0 y)∧(i=2→SQ m 0 y)∧(i=3→SQ m 1 y)) ?_ s ⟨fun _=>rfl,fun h=>by omega,fun h=>by omega,fun h=>by omega⟩
 intro i fv S' mA hs
 match i,mA,hs with
 | 0,mA,hs =>
  cases mA
  cases hs
  grind
 | 1,mA,hs =>
  cases mA
  cases hs
  grind
 | 2,mA,hs =>
  cases mA
  cases hs
  refine⟨_,_,_,rfl,fun y hy=>?_⟩
  obtain⟨a1,⟨a2,a3⟩,a4,a5⟩:=hy.2.2.1 rfl
  refine aH.post (xO tb bs jb bd c2 c3 tv q mb y Z Ys a c b hb hl ⟨a2,aj⟩ aj) ?_
  grind [SQ.append]
 | 3,mA,hs =>
  cases mA
  cases hs
  refine⟨_,_,_,rfl,fun y hy=>?_⟩
  obtain⟨a1,⟨a2,a3⟩,a4,a5⟩:=hy.2.2.2 rfl
  refine aH.post (si tb bs jb bd tv q mb y _ a1 ⟨a2,aj⟩ aj aj) ?_
  grind
 | n+4,mA,hs=>cases hs
end Go.Proofs.YtlionahpheehaaaGreatDoor
namespace Go.Proofs.YtlionahpheehaaaGreatDoor
open Go Go.SL
theorem List.uK{α:Type}{l:List α}{i:Nat}{x:α}(h:l[i]?=some x):l.set i x=l:=by
 refine List.ext_getElem? fun j=>?_
 grind
attribute [local irreducible] J K aH Ends ak aK aV bX bj aS bp bD cp aJ dj
theorem Sd(X:HP)(hK:qI X)(tb bs jb bd:Nat)(tv:Value)(q:Int)(mb:Nat)(ts:List Tk)(br:Bool)(s:SJ)(x:Bl)(i:Int)(hi : -9223372036854775808≤i∧i≤9223372036854775807)(bv:Value)(b:List UInt8)(hb:eU X bv b)(jx:b.length≤900000000)(pv:Value)(p:List Dg)(hp:K4 X pv p)(hl:ts.length≤1000000)(hn:∀y∈ts,y.n≤65536)(hw:∀y∈ts,y.n≤y.ws.length*64)(cN:s.1.A.aF.length≤800000000)(fD:s.1.A.writes.length≤800000000)(m:Nat)(hm:m≤800000000)(hx:∀t u,gu (nE x i b) s 0 t→gu (kQ x) t 0 u→SQ m 0 u) :
  aH Tryz.prog 19 [ptr tb,ix x,.int .i64 i,bv,pv] (lN tb bs jb tv ts br++[dj bs bd jb q mb [] s,X])
  (fun r H=>∃(e:Nat) (eG:List Tk) (jN:Bool) (t:SJ),r = .int .i64 (e:Int)∧H=lN tb bs jb tv eG jN++[dj bs bd jb q mb [] t,X]∧OA x i b p ts s br e eG jN t):=by
 have hf:=DP tb bs jb tv br ts x hl
 have J7:=AT X hK x i bv b hb jx pv p hp
 have VN:=fun a n c=>xN tb bs jb tv a n c
 have hbv:=hb.1
 have hpv:=hp.1
 obtain⟨ba,bc,rfl,hbc⟩:=hb.2
 obtain⟨pa,pc,rfl,agf⟩:=hp.2
 refine aH.aC Tryz.func19 Tryz.ntmps19 fun G F R hE=>?_
 refine aP rfl ?_
 refine bJ zr zr bO ?_
 intro b2
 refine bJ zr zr bO ?_
 intro b3
 refine bJ zr zr bO ?_
 intro b4
 refine bJ zr zr bO ?_
 intro b5
 cases br with
 | true =>
  refine go ?_
  refine ah hE Tryz.func19 zr zr ⟨10,ts,true,s,rfl,rfl,.inl ⟨rfl,rfl,rfl,rfl,rfl⟩⟩
 | false =>
 refine aT (aq.pick [3,2,4,5,6,7,8,1] rfl) (go ?_)
 refine aW (U:=bh) (l:=ck x) 1 zr zr zr zr zr zr ?_
 refine aeb hf ?_
 cases xe:lX ts x with
 | none =>
  refine go ?_
  refine ah hE Tryz.func19 zr zr ⟨4,ts,false,s,rfl,rfl,.inr (.inl ⟨rfl,xe,rfl,rfl,rfl,rfl⟩)⟩
 | some y =>
 obtain⟨k,hk,QU⟩:=yd xe
 have QV:y∈ts:=List.mem_of_getElem? hk
 have Z8:=hn y QV
 have T1:=hw y QV
 have np:∀e eG jN t,(((i<0∨(y.n:Int)≤i)∧e=1∧eG=ts∧jN=false∧t=s)∨((0≤i∧i<y.n)∧cy y.ws y.n i=true∧e=0∧eG=ts∧jN=false∧t=s) ∨
  ((0≤i∧i<y.n)∧cy y.ws y.n i=false∧di x i b p=false∧e=8∧eG=ts∧jN=false∧t=s) ∨
  ((0≤i∧i<y.n)∧cy y.ws y.n i=false∧di x i b p=true∧jN=eQ e∧jG (gu (nE x i b)::gu (kQ x)::mw (bQ x.d i.toNat p)) s e t∧((e≠0∧eG=ts)∨(e=0∧eG=ts.set k (y.put i.toNat p)))))→OA x i b p ts s false e eG jN t:=fun e eG jN t h => .inr (.inr ⟨rfl,k,y,xe,hk,QU,h⟩)
 refine go ?_
 refine al (aq.pick [2,0,1,5,6] rfl) ?_
 refine al (pX hk _) ?_
 refine dZ (iF y) ?_
 rintro⟨wv,cs,M⟩ hz
 have jo:∀H,aq (ak y.yb (cl (qT y) 107)::ak y.sb (cl [.int .i64 (y.n:Int),wv] 225)::aK 159 1 wv y.ws.length (qV y.ws)::aV (Value.int .i64) y.mb cs::bp 29 M::bK (ts.take k++ts.drop (k+1))::H) (bK ts::H):=fun H=>aq.trans (H2:=zx y (wv,cs,M)++(bK (ts.take k++ts.drop (k+1))::H)) ad (aq.trans (ld hz _) (sM hk _))
 refine aO (fun w=>Sat G w ([ak y.yb (cl (qT y) 107),ak b4 (cl [.int .i64 i] 3)])) (dM 0 8 (.act 8 (dM 9 3 .nil))) rfl aw aw aw dI ?_
 refine go ?_
 by_cases DC:i<0
 ·refine au 27 ((.bool true)) rfl ((congrArg Value.bool (decide_eq_true DC))) (go ?_)
  refine al (jo _) ?_
  refine ah hE Tryz.func19 zr zr ⟨1,ts,false,s,rfl,rfl,np _ _ _ _ (.inl ⟨.inl DC,rfl,rfl,rfl,rfl⟩)⟩
 refine au 27 ((.bool false)) rfl ((congrArg Value.bool (decide_eq_false DC))) (go ?_)
 refine Vd (jK y.sb y.n wv) ?_
 refine go ?_
 by_cases nI:(y.n:Int)≤i
 ·refine aE 24 ((.bool true)) rfl ((congrArg Value.bool (decide_eq_true nI))) (go ?_)
  refine al (aq.trans ad (jo (ak tb (cl [ptr bs,ptr jb,tv,.bool false] 101)::aK 103 1 tv ts.length (ts.map dm)::dj bs bd jb q mb [] s::X::F))) ?_
  refine ah hE Tryz.func19 zr zr ⟨1,ts,false,s,rfl,rfl,np _ _ _ _ (.inl ⟨.inr nI,rfl,rfl,rfl,rfl⟩)⟩
 refine aE 24 ((.bool false)) rfl ((congrArg Value.bool (decide_eq_false nI))) ?_
 obtain⟨j,hj⟩:∃j:Nat,i=j:=⟨i.toNat,aj⟩
 have I1:i.toNat=j:=by omega
 have VH:0≤i∧i<y.n:=by omega
 have u0:=IV y.sb y.n wv y.ws Z8 T1 i
 refine go ?_
 refine aO (fun w=>Sat G w ([ak y.yb (cl (qT y) 107),ak b4 (cl [.int .i64 i] 3)])) (dM 0 5 (.act 5 (.st 6 .nil))) rfl aw aw aw dI ?_
 refine go ?_
 refine Vd u0 ?_
 cases SZ:cy y.ws y.n i with
 | true =>
  refine go ?_
  refine al (aq.trans ad (jo (ak tb (cl [ptr bs,ptr jb,tv,.bool false] 101)::aK 103 1 tv ts.length (ts.map dm)::dj bs bd jb q mb [] s::X::F))) ?_
  refine ah hE Tryz.func19 zr zr ⟨0,ts,false,s,rfl,rfl,np _ _ _ _ (.inr (.inl ⟨VH,SZ,rfl,rfl,rfl,rfl⟩))⟩
 | false =>
 refine go ?_
 refine aT (aq.trans ad (jo (ak b2 (cl [ptr tb] 43)::ak b3 (cl (ck x) 31)::ak b4 (cl [.int .i64 i] 3)::ak b5 (cl [.slice ba b.length bc] 22)::ak tb (cl [ptr bs,ptr jb,tv,.bool false] 101)::aK 103 1 tv ts.length (ts.map dm)::dj bs bd jb q mb [] s::X::F))) ?_
 refine aT (H':=ak b3 (cl (ck x) 31)::ak b4 (cl [.int .i64 i] 3)::ak b5 (cl [.slice ba b.length bc] 22)::ak b2 (cl [ptr tb] 43)::X::ak tb (cl [ptr bs,ptr jb,tv,.bool false] 101)::aK 103 1 tv ts.length (ts.map dm)::bK ts::dj bs bd jb q mb [] s::F) ad (go ?_)
 refine aW (U:=bh) (l:=ck x) 0 zr zr zr zr zr zr (go ?_)
 refine aeb J7 ?_
 cases Q9:di x i b p with
 | false =>
  refine go ?_
  refine ah hE Tryz.func19 zr zr ⟨8,ts,false,s,rfl,rfl,np _ _ _ _ (.inr (.inr (.inl ⟨VH,SZ,Q9,rfl,rfl,rfl,rfl⟩)))⟩
 | true =>
 have qO:p.length≤10:=by
  grind [di,kP,tz]
 have LX:=C7 x.d j aj X (.slice pa p.length pc) p hpv aj
 rw[← hj]at LX
 have Kc:(bQ x.d j p).length≤1000000:=by
  have:=jA 2 x.d (gy j p) (by simp[gy];omega) (nh j aj p)
  grind [bQ,gy]
 refine go ?_
 refine jw rfl ?_
 refine Mq 1 (fun y:(Option Addr × Nat) × (Option Addr × Nat) × Nat × Nat=>True) (fun z=>[(4,.slice pa p.length pc),(5,ptr b2),(6,ptr b3),(7,ptr b4),(8,ptr b5),(11,ptr y.yb),(12,.slice z.1.1 4 z.1.2)]) (fun z=>aK 94 1 (.slice z.1.1 4 z.1.2) 4 ([.func (.func 74) #[] #[ptr b2,ptr b3,ptr b4,ptr b5],.func (.func 76) #[] #[ptr b2,ptr b3] ]++jC z.2.2.1 z.2.2.2 jb)::aK 5 1 (.slice z.2.1.1 (bQ x.d j p).length z.2.1.2) (bQ x.d j p).length (bV (bQ x.d j p))::ak z.2.2.1 (cl [ptr tb] 43)::ak z.2.2.2 (cl [.slice z.2.1.1 (bQ x.d j p).length z.2.1.2] 22)::ak tb (cl [ptr bs,ptr jb,tv,.bool false] 101)::aK 103 1 tv ts.length (ts.map dm)::bK ts::dj bs bd jb q mb [] s::X::ak b2 (cl [ptr tb] 43)::ak b3 (cl (ck x) 31)::ak b4 (cl [.int .i64 i] 3)::ak b5 (cl [.slice ba b.length bc] 22)::F) rfl ?_ ?_
 rotate_left
 ·intro tail
  refine aO (fun w=>Sat G w ([ak b2 (cl [ptr tb] 43),ak b3 (cl (ck x) 31),ak b4 (cl [.int .i64 i] 3)])) (.st 0 (.st 1 (dM 3 5 (.fork (.act 2 (.act 8 (.act 9 (.act 10 (.st 11 .nil))))) (.act 8 (.fork (.act 2 (.act 9 (.act 10 (.st 11 .nil)))) (.act 9 (.act 2 (.act 10 (.st 11 .nil)))))))))) rfl aw aw aw dI ?_
  refine go ?_
  refine cE (U:=bh) (cs:=dC x.d) 1 zr zr zr zr zr zr ?_
  repeat'(first|refine bG ?_ ?_|(refine az (cs:=[.func (.func 74) #[] #[ptr b2,ptr b3,ptr b4,ptr b5],.func (.func 76) #[] #[ptr b2,ptr b3] ]) zr zr zr zr zr zr zr zr zr (fun _ w hw=>by exact hw.cI ad) ?_;intro r0)|(((refine bz LX ?_));rintro _ _ rfl;((refine aN 0 rfl ?_));rintro a8 c8 rfl)|(((refine bz (VN a8 (bQ x.d j p).length c8) ?_));rintro _ _⟨c2,c3,row,rfl,rfl⟩)|(refine g9 ?_)|fail)
  all_goals(
   refine aT (H':=ak r0 (cl [.func (.func 74) #[] #[ptr b2,ptr b3,ptr b4,ptr b5],.func (.func 76) #[] #[ptr b2,ptr b3] ] 94)::ak row (cl (jC c2 c3 jb) 94)::aK 5 1 (.slice a8 (bQ x.d j p).length c8) (bQ x.d j p).length (bV (bQ x.d j p))::ak c2 (cl [ptr tb] 43)::ak c3 (cl [.slice a8 (bQ x.d j p).length c8] 22)::ak tb (cl [ptr bs,ptr jb,tv,.bool false] 101)::aK 103 1 tv ts.length (ts.map dm)::bK ts::dj bs bd jb q mb [] s::X::ak b2 (cl [ptr tb] 43)::ak b3 (cl (ck x) 31)::ak b4 (cl [.int .i64 i] 3)::ak b5 (cl [.slice ba b.length bc] 22)::F) ad ?_
   refine aT (fp 94 1 r0 2 2 [.func (.func 74) #[] #[ptr b2,ptr b3,ptr b4,ptr b5],.func (.func 76) #[] #[ptr b2,ptr b3] ] [] _ rfl (Nat.le_refl _) (by simp)) ?_
   refine bg (mm:=2) (news:=jC c2 c3 jb) 0 1 rfl rfl rfl rfl rfl rfl rfl rfl rfl rfl rfl rfl (Vw.ak rfl) rfl (by intro v hv;simp[jC]at hv;rcases hv with rfl|rfl <;> rfl) aj (by show(_+_)*8≤_;omega) (fun _=>rfl) (fun _ w hw=>by exact hw.cI ad) ?_
   intro v1
   refine aN 0 rfl ?_
   rintro ja jc rfl
   refine zt ?_
   refine FC tail ((ja,jc),(a8,c8),c2,c3) rfl trivial cF ad)
 rintro⟨⟨ja,jc⟩,⟨a8,c8⟩,c2,c3⟩ -
 refine eE 0 rfl ?_
 intro rk
 refine qG (bs:=(bQ x.d j p)) 1 rfl ?_
 intro N2
 have iJ:=PN tb bs jb bd tv q mb s 74 76 [ptr b2,ptr b3,ptr b4,ptr b5] [ptr b2,ptr b3] c2 c3 _ [X,ak b2 (cl [ptr tb] 43),ak b3 (cl (ck x) 31),ak b4 (cl [.int .i64 i] 3),ak b5 (cl [.slice ba b.length bc] 22)] (gu (nE x i b)) (gu (kQ x)) a8 c8 (bQ x.d j p) N2 Kc m hm hx
  (M6 X tb bs jb bd b2 b3 b4 b5 q mb tv s x i ba bc b _ _ _ hbv aj hi aj aj) (fun u hu=>M4 tb bs jb bd b2 b3 q mb tv u x _ _ _ X _ _ (by have:=(tF hu.1).1;omega) (by have:=(tF hu.1).2;omega)) _ _ rk
 refine al (aq.pick [9] rfl) (go ?_)
 refine aT (aq.pick [8,3,4,2,9,0,10,11,12] rfl) ?_
 refine aT (Fx bs bd jb q mb _ s _) ?_
 refine ao iJ ?_
 rintro _ _⟨e,t,rfl,rfl,hR⟩
 refine aT (H':=dj bs bd jb q mb [ak c2 (cl [ptr tb] 43),ak c3 (cl [.slice a8 (bQ x.d j p).length c8] 22),aK 5 1 (.slice a8 (bQ x.d j p).length c8) (bQ x.d j p).length (bV (bQ x.d j p)),X,ak b2 (cl [ptr tb] 43),ak b3 (cl (ck x) 31),ak b4 (cl [.int .i64 i] 3),ak b5 (cl [.slice ba b.length bc] 22)] t::ak tb (cl [ptr bs,ptr jb,tv,.bool (eQ e)] 101)::aK 103 1 tv ts.length (ts.map dm)::bK ts::F) ad ?_
 refine aT (zP bs bd jb q mb _ t _) ?_
 have gE:jG (gu (nE x i b)::gu (kQ x)::mw (bQ x.d i.toNat p)) s e t:=by rw[I1];exact hR
 by_cases he:e=0
 ·subst he
  have mg:=F3 y j aj Z8 T1 X (.slice pa p.length pc) p hpv aj
  rw[← hj]at mg
  refine aT (H':=bK ts::ak b4 (cl [.int .i64 i] 3)::ak tb (cl [ptr bs,ptr jb,tv,.bool (eQ 0)] 101)::aK 103 1 tv ts.length (ts.map dm)::dj bs bd jb q mb [] t::X::F) ad ?_
  refine aT (pX hk _) ?_
  refine aT (H':=ak b4 (cl [.int .i64 i] 3)::pY y::bK (ts.take k++ts.drop (k+1))::ak tb (cl [ptr bs,ptr jb,tv,.bool (eQ 0)] 101)::aK 103 1 tv ts.length (ts.map dm)::dj bs bd jb q mb [] t::X::F) ad (go ?_)
  refine aeb mg ?_
  refine aT (H':=pY (y.put j p)::bK (ts.take k++ts.drop (k+1))::ak tb (cl [ptr bs,ptr jb,tv,.bool (eQ 0)] 101)::aK 103 1 tv ts.length (ts.map dm)::dj bs bd jb q mb [] t::X::F) ad ?_
  refine aT (Lj hk (y.put j p) _) ?_
  have ez:(ts.set k (y.put j p)).length=ts.length:=List.length_set
  have Du:(ts.set k (y.put j p)).map dm=ts.map dm:=by
   rw[List.map_set]
   exact List.uK (by rw[List.getElem?_map,hk];rfl)
  refine go ?_
  refine al (H':=ak tb (cl [ptr bs,ptr jb,tv,.bool (eQ 0)] 101)::aK 103 1 tv (ts.set k (y.put j p)).length ((ts.set k (y.put j p)).map dm)::bK (ts.set k (y.put j p))::dj bs bd jb q mb [] t::X::F) (by rw[ez,Du];exact ad) ?_
  refine ah hE Tryz.func19 zr zr ⟨0,ts.set k (y.put j p),eQ 0,t,rfl,rfl,np _ _ _ _ (.inr (.inr (.inr ⟨VH,SZ,Q9,rfl,gE,.inr ⟨rfl,by rw[I1]⟩⟩)))⟩
 ·refine aT (H':=ak tb (cl [ptr bs,ptr jb,tv,.bool (eQ e)] 101)::aK 103 1 tv ts.length (ts.map dm)::bK ts::dj bs bd jb q mb [] t::X::F) ad (go ?_)
  refine aB zr zr ?_ ?_
  ·intro _
   refine go ?_
   refine ah hE Tryz.func19 zr zr ⟨e,ts,eQ e,t,rfl,rfl,np _ _ _ _ (.inr (.inr (.inr ⟨VH,SZ,Q9,rfl,gE,.inl ⟨he,rfl⟩⟩)))⟩
  grind
end Go.Proofs.YtlionahpheehaaaGreatDoor
namespace Go.Proofs.YtlionahpheehaaaGreatDoor
open Go Go.SL
def KO(bs bd jb:Nat)(q:Int)(mb:Nat)(x:SJ)(F:List HP):aq (dj bs bd jb q mb [] x::F) (cV bs bd q mb x.1++(uY jb bd dF x.2::F)):=by
 refine(aq.cR _ _).trans ?_
 exact aq.refl _
def BR(bs bd jb:Nat)(q:Int)(mb:Nat)(x:SJ)(F:List HP):aq (cV bs bd q mb x.1++(uY jb bd dF x.2::F)) (dj bs bd jb q mb [] x::F):=by
 refine aq.trans ?_ (aq.cg _ _)
 exact aq.refl _
theorem Mk.look{z:Value × List (Int × Value) × gw}{y:Tk}(h:Mk z y)(i:Int):∃v,(fh z.2.1 i).getD (.slice none 0 0)=v∧FX z.2.2 32 v ((y.pf i).getD []).length (((y.pf i).getD []).flatMap dC):=by
 have:=h i
 cases hx:fh z.2.1 i with
 | none =>
  grind [FX.nil]
 | some v =>
  grind
attribute [local irreducible] J K aH Ends ak aK aV bX bj aS bp bD cp aJ dj
end Go.Proofs.YtlionahpheehaaaGreatDoor
namespace Go.Proofs.YtlionahpheehaaaGreatDoor
open Go Go.SL
def hz(b:List UInt8):Dg:=(ij b).getD Dg.zero
def GR(m:List UInt8)(l:List (List UInt8)):Bool:=(rN m).isSome && l.all fun b=>(ij b).isSome
def TI(m:List UInt8)(l:List (List UInt8))(b:List UInt8):GR m (l++[b])=(GR m l && (ij b).isSome):=by unfold GR;simp[Bool.and_assoc]
theorem wh:∀(l:List (List UInt8)),(l.all fun b=>(ij b).isSome)=true→nZ l=some (l.map hz)
 | [],_=>rfl
 | b::l,h=>by
  rw[List.all_cons,Bool.and_eq_true]at h
  unfold nZ
  rw[wh l h.2]
  grind [hz,ij]
def wi:∀(l:List (List UInt8)),(l.all fun b=>(ij b).isSome)=false→nZ l=none
 | [],h=>by cases h
 | b::l,h=>by
  unfold nZ
  cases hb:ij b with
  | none=>rfl
  | some d =>
   rw[List.all_cons,hb]at h
   rw[wi l (by simpa using h)]
def fP(ok:Bool)(d:Dg)(i:Nat)(p:List Dg)(y:Tk):Tk:=if ok=true∧y.x.d=d∧i<y.n∧p.length=fU y.n i then y.put i p else y
def adN(ok:Bool)(d:Dg)(i:Nat)(p:List Dg)(y:Tk):(fP ok d i p y).yb=y.yb:=by unfold fP;split <;> rfl
def ll(f:Tk→Tk)(j:Nat)(ts:List Tk):List Tk:=(ts.take j).map f++ts.drop j
theorem QJ(f:Tk→Tk)(j:Nat)(ts:List Tk):(ll f j ts)[j]?=ts[j]? := by
 grind [ll]
def QI(f:Tk→Tk){j:Nat}{ts:List Tk}{y:Tk}(h:ts[j]?=some y):(ll f j ts).set j (f y)=ll f (j+1) ts:=by
 obtain⟨hj,rfl⟩:=List.getElem?_eq_some_iff.1 h
 unfold ll
 rw[List.set_append_right _ _ (by rw[List.length_map,List.length_take];omega),List.length_map,List.length_take,Nat.min_eq_left aj,Nat.sub_self,List.drop_eq_getElem_cons hj,List.set_cons_zero,List.take_add_one,h,Option.toList_some,List.map_append,List.append_assoc]
 rfl
def G1(f:Tk→Tk)(ts:List Tk):ll f ts.length ts=ts.map f:=by unfold ll;simp
theorem QH(f:Tk→Tk)(hf:∀y,(f y).yb=y.yb)(j:Nat)(ts:List Tk):(ll f j ts).map dm=ts.map dm:=by
 unfold ll
 conv=>rhs;rw[← List.take_append_drop j ts]
 rw[List.map_append,List.map_append,List.map_map]
 congr 1
 refine List.map_congr_left fun y _=>?_
 grind [dm]
theorem AE(ts:List Tk)(d:Dg)(m:List UInt8)(l:List (List UInt8))(k:Nat)(hk:∀n,rN m=some n→k=n):gI (ts.map (fP (GR m l) d k (l.map hz)))=ni (gI ts) d m l:=by
 unfold ni GR
 cases hm:rN m with
 | none =>
  simp only[Option.isSome_none,Bool.false_and]
  have:ts.map (fP false d k (l.map hz))=ts:=by
   conv=>rhs;rw[← List.map_id ts]
   refine List.map_congr_left fun y _=>?_
   grind [fP]
  rw[this]
 | some n =>
  obtain rfl:=hk n hm
  simp only[Option.isSome_some,Bool.true_and]
  cases ha:l.all (fun b=>(ij b).isSome)with
  | false =>
   rw[wi l ha]
   have:ts.map (fP false d k (l.map hz))=ts:=by
    conv=>rhs;rw[← List.map_id ts]
    refine List.map_congr_left fun y _=>?_
    grind [fP]
   rw[this]
  | true =>
   rw[wh l ha]
   unfold gI
   simp only
   rw[List.map_map,List.map_map]
   refine List.map_congr_left fun y _=>?_
   unfold fP
   simp only[true_and,Function.comp]
   split
   ·rename_i h
    exact(if_pos (α:=TC) (t:=y.c.put k (l.map hz)) (e:=y.c) h).symm
   ·rename_i h
    exact(if_neg (α:=TC) (t:=y.c.put k (l.map hz)) (e:=y.c) h).symm
attribute [local irreducible] J K aH Ends ak aK aV bX bj aS bp bD cp aJ
def MG(Z:HP)(tb bs jb:Nat)(tv:Value)(br:Bool)(ts:List Tk)(d:Dg)(mv:Value)(m:List UInt8)(l:List (List UInt8))(hv:xh Z mv (m::l))(hm:∀x∈m::l,x.length≤65536)(EX:(m::l).length≤65536)(hl:ts.length≤1000000)(hn:∀y∈ts,y.n≤65536)(hw:∀y∈ts,y.n≤y.ws.length*64) :
  aH Tryz.prog 115 [ptr tb,dV d,mv] (lN tb bs jb tv ts br++[Z]) (fun r H=>r = .tuple #[]∧∃k:Nat,(∀n,rN m=some n→k=n)∧H=lN tb bs jb tv (ts.map (fP (GR m l) d k (l.map hz))) br++[Z]):=by
 obtain⟨cs,dH,kJ,⟨ma,mc,rfl,hmc⟩,tq⟩:=hv
 obtain⟨c0,Ci,u4⟩:=tq 0 m rfl
 have xV:=rJ Z c0 m u4 (by have:=hm m (List.mem_cons_self ..);omega)
 obtain⟨bb,oo,cc,he⟩:=dH.some (by intro h;rw[h]at kJ;simp at kJ)
 obtain⟨rfl,rfl⟩:=he
 refine aH.aC Tryz.func115 Tryz.ntmps115 fun G F R hE=>?_
 refine aP rfl ?_
 refine bJ zr zr bO ?_
 intro b4
 refine aT (aq.pick [4] rfl) (go ?_)
 refine bW 0 zr zr zr zr zr zr zr zr (by simp) ?_
 refine aY ?_
 refine aZ 0 0 zr zr zr dH rfl Ci zr zr ?_
 refine ao xV ?_
 rintro _ _⟨rfl,k,DA,rfl,Ch⟩
 refine go ?_
 refine aU (p:=1) (q:=((m::l).length:Int)) zr zr zr zr zr zr zr aj (by simp only[List.length_cons];omega) (.inl rfl) ?_
 ((refine au 23 ((.slice (sliceAt (some ⟨bb,oo,none⟩) mc 1 1) l.length (mc-1))) rfl ((by rw[show((m::l).length:Int).toNat=l.length+1 from by simp[List.length_cons],show(1:Int).toNat=1 from rfl,show l.length+1-1=l.length by omega];rfl)) ?_))
 have Hg:=dH.Kv (s:=1) (by rw[kJ];simp) hmc 1 (by simp)
 simp only[List.length_cons]at EX hmc
 have afl:∀(j:Nat) (x:List UInt8),l[j]?=some x→∃cv,(cs.drop (1*1))[j]?=some cv∧eU Z cv x:=fun j x hx=>by
  simp_all
 have hmr:∀x∈l,x.length≤65536:=fun x hx=>hm x (List.mem_cons_of_mem _ hx)
 have aeY:GR m (l.take 0)=(rN m).isSome:=by unfold GR;simp
 refine go ?_
 refine al (bS 29 32 none _) ?_
 rw[← aeY]
 refine bF (fun y:Nat × Option Addr × Nat=>y.1≤l.length) (fun y=>l.length-y.1)
  (fun y=>[(0,ptr tb),(4,ptr b4),(6,.int .i64 (k:Int)),(7,.bool (GR m (l.take y.1))),(8,.slice y.2.1 ((l.take y.1).map hz).length y.2.2),(23,.slice (sliceAt (some ⟨bb,oo,none⟩) mc 1 1) l.length (mc-1)),(24,.int .i64 (l.length:Int)),(25,.int .i64 (y.1:Int))])
  (fun y=>aK 29 32 (.slice y.2.1 ((l.take y.1).map hz).length y.2.2) ((l.take y.1).map hz).length (((l.take y.1).map hz).flatMap dC)::Z::ak b4 (cl (dC d) 29)::ak tb (cl [ptr bs,ptr jb,tv,.bool br] 101)::aK 103 1 tv ts.length (ts.map dm)::bK ts::F) (0,none,0) (Nat.zero_le _) rfl cF ad ?_
 rintro⟨j,pa,pc⟩ hj ih
 dsimp only
 refine go ?_
 refine aB zr zr ?_ ?_
 ·intro dk
  have tP:j<l.length:=by omega
  obtain⟨x,hx⟩:∃x,l[j]?=some x:=⟨l[j],by simp⟩
  obtain⟨cv,qP,DF⟩:=afl j x hx
  have hph:=sV Z cv x DF (by have:=hmr x (List.mem_of_getElem? hx);omega)
  have om:l.take (j+1)=l.take j++[x]:=by rw[List.take_add_one,hx];rfl
  have qO:((l.take j).map hz).length=j:=by rw[List.length_map,List.length_take];omega
  have T9:((l.take j).map hz).flatMap dC++dC (hz x)=((l.take (j+1)).map hz).flatMap dC:=by rw[om];simp
  have I0:((l.take j).map hz).length+1=((l.take (j+1)).map hz).length:=by rw[om];simp
  have k8:GR m (l.take (j+1))=(GR m (l.take j) && (ij x).isSome):=by rw[om,TI]
  have NJ:sliceAt (some ⟨bb,oo,none⟩) mc 1 1=some ⟨bb,oo+1,none⟩:=by
   unfold sliceAt
   rw[if_neg aj]
   rfl
  have acR:=Hg
  rw[NJ]at acR
  refine aE 23 (.slice (some ⟨bb,oo+1,none⟩) l.length (mc-1)) rfl (by rw[NJ]) (go ?_)
  refine bW j zr zr zr zr zr zr zr zr tP ?_
  refine aY ?_
  refine aZ 1 j zr zr zr acR rfl qP zr zr (go ?_)
  refine aeb hph ?_
  refine go ?_
  refine aL zr zr zr bO ?_
  intro b11
  cases hoj:GR m (l.take j)
  all_goals(
   rw[hoj]at k8
   refine go ?_
   ((refine au 7 ((.bool (GR m (l.take (j+1))))) rfl ((congrArg Value.bool (by rw[k8];rfl))) ?_))
   refine go ?_
   refine aW (U:=bh) (l:=dC (hz x)) 0 zr zr zr zr zr zr ?_
   refine az (cs:=dC (hz x)) zr zr zr zr zr zr zr zr zr bO ?_
   intro row
   refine go ?_
   refine bg (mm:=1) (news:=dC (hz x)) 3 0 zr zr zr zr zr zr zr zr zr zr zr zr (Vw.ak rfl) rfl (by rw[fg];exact dR _) aj (by show(((l.take j).map hz).length+1)*32≤_;omega) (fun _=>rfl) bO ?_
   intro v1
   rw[T9,I0]
   refine aN 3 rfl ?_
   rintro ja jc rfl
   refine go ?_
   refine aE 23 ((.slice (sliceAt (some ⟨bb,oo,none⟩) mc 1 1) l.length (mc-1))) rfl ((by rw[NJ])) ?_
   refine aQ ih (j+1,ja,jc) rfl (by simp only;omega) (by simp only;omega) cF ad)
 ·intro fO
  have Rq:j=l.length:=by omega
  subst Rq
  rw[List.take_length]
  obtain⟨p,hp⟩:∃p,p=l.map hz:=⟨_,rfl⟩
  obtain⟨ok,k8⟩:∃ok,ok=GR m l:=⟨_,rfl⟩
  have qO:p.length≤65536:=by rw[hp,List.length_map];omega
  rw[← hp,← k8]at hE ⊢
  have hfy:=adN ok d k p
  refine al (aq.pick [4] rfl) ?_
  refine aM 0 rfl ?_
  rintro ta tc rfl
  refine eE 0 rfl ?_
  intro hvt
  refine go ?_
  refine bF (fun j:Nat=>j≤ts.length) (fun j=>ts.length-j)
   (fun j=>[(0,ptr tb),(4,ptr b4),(6,.int .i64 (k:Int)),(7,.bool ok),(8,.slice pa p.length pc),(46,.slice ta ts.length tc),(47,.int .i64 (ts.length:Int)),(48,.int .i64 (j:Int))])
   (fun j=>ak tb (cl [ptr bs,ptr jb,.slice ta ts.length tc,.bool br] 101)::aK 103 1 (.slice ta ts.length tc) ts.length (ts.map dm)::bK (ll (fP ok d k p) j ts)::aK 29 32 (.slice pa p.length pc) p.length (p.flatMap dC)::ak b4 (cl (dC d) 29)::Z::F) 0 (Nat.zero_le _) rfl cF ad ?_
  intro j hj ih
  refine go ?_
  refine aB zr zr ?_ ?_
  ·intro dk
   have tP:j<ts.length:=by omega
   obtain⟨y,hy⟩:∃y,ts[j]?=some y:=⟨ts[j],by simp⟩
   have QV:=List.mem_of_getElem? hy
   have Z8:=hn y QV
   have T1:=hw y QV
   have hgy:(ll (fP ok d k p) j ts)[j]?=some y:=by rw[QJ,hy]
   have nM:=QI (fP ok d k p) hy
   obtain⟨b9,o9,c9,he9⟩:=hvt.some (Tj tP)
   obtain⟨rfl,rfl⟩:=he9
   refine go ?_
   refine bW j zr zr zr zr zr zr zr zr tP ?_
   refine aY ?_
   refine aZ 1 j zr zr zr hvt rfl (vF hy) zr zr (go ?_)
   refine al (aq.pick [2] rfl) ?_
   refine al (pX hgy _) ?_
   have ou:∀H,aq (pY (fP ok d k p y)::bK ((ll (fP ok d k p) j ts).take j++(ll (fP ok d k p) j ts).drop (j+1))::H) (bK (ll (fP ok d k p) (j+1) ts)::H):=fun H=>by rw[← nM];exact Lj hgy _ H
   refine dZ (iF y) ?_
   rintro⟨wv,I9,M⟩ hz2
   have jo:∀H,aq (ak y.yb (cl (qT y) 107)::ak y.sb (cl [.int .i64 (y.n:Int),wv] 225)::aK 159 1 wv y.ws.length (qV y.ws)::aV (Value.int .i64) y.mb I9::bp 29 M::bK ((ll (fP ok d k p) j ts).take j++(ll (fP ok d k p) j ts).drop (j+1))::H) (pY y::bK ((ll (fP ok d k p) j ts).take j++(ll (fP ok d k p) j ts).drop (j+1))::H):=fun H=>aq.trans (H2:=zx y (wv,I9,M)++(bK ((ll (fP ok d k p) j ts).take j++(ll (fP ok d k p) j ts).drop (j+1))::H)) ad (ld hz2 _)
   have kZ:fP ok d k p y=y→∀H,aq (ak y.yb (cl (qT y) 107)::ak y.sb (cl [.int .i64 (y.n:Int),wv] 225)::aK 159 1 wv y.ws.length (qV y.ws)::aV (Value.int .i64) y.mb I9::bp 29 M::bK ((ll (fP ok d k p) j ts).take j++(ll (fP ok d k p) j ts).drop (j+1))::H) (bK (ll (fP ok d k p) (j+1) ts)::H):=fun h H=>by
    have:=ou H
    rw[h]at this
    exact(jo H).trans this
   refine aO (fun w=>Sat G w ([ak y.yb (cl (qT y) 107),ak b4 (cl (dC d) 29)])) (dM 0 16 (.act 16 (dM 17 9 (.st 27 (.act 26 (.act 28 (.st 29 (.st 30 .nil)))))))) rfl aw aw aw dI ?_
   cases ok with
   | false =>
    have Uk:fP false d k p y=y:=by unfold fP;rw[if_neg (by simp)]
    refine go ?_
    refine al (aq.trans ad (kZ Uk (ak tb (cl [ptr bs,ptr jb,.slice (some ⟨b9,o9,none⟩) ts.length tc,.bool br] 101)::aK 103 1 (.slice (some ⟨b9,o9,none⟩) ts.length tc) ts.length (ts.map dm)::aK 29 32 (.slice pa p.length pc) p.length (p.flatMap dC)::ak b4 (cl (dC d) 29)::Z::F))) ?_
    refine aQ ih (j+1) rfl aj aj cF ad
   | true =>
   refine go ?_
   refine cE (U:=bh) (cs:=dC y.x.d) 0 zr zr zr zr zr zr (go ?_)
   refine dv (U:=bh) (l:=dC d) 1 zr zr zr zr zr zr (go ?_)
   refine lJ (b:=decide (y.x.d=d)) zr zr zr N7 (fun w=>Of y.x.d d w) ?_
   by_cases hyd:y.x.d=d
   case neg =>
    rw[decide_eq_false hyd]
    have Uk:fP true d k p y=y:=by unfold fP;rw[if_neg (fun h=>hyd h.2.1)]
    refine go ?_
    refine al (aq.trans ad (kZ Uk (ak tb (cl [ptr bs,ptr jb,.slice (some ⟨b9,o9,none⟩) ts.length tc,.bool br] 101)::aK 103 1 (.slice (some ⟨b9,o9,none⟩) ts.length tc) ts.length (ts.map dm)::aK 29 32 (.slice pa p.length pc) p.length (p.flatMap dC)::ak b4 (cl (dC d) 29)::Z::F))) ?_
    refine aQ ih (j+1) rfl aj aj cF ad
   rw[decide_eq_true hyd]
   refine go ?_
   refine Vd (jK y.sb y.n wv) ?_
   refine go ?_
   by_cases hkn:k<y.n
   case neg =>
    have Uk:fP true d k p y=y:=by unfold fP;rw[if_neg (fun h=>hkn h.2.2.1)]
    refine au 71 ((.bool false)) rfl ((congrArg Value.bool (decide_eq_false aj))) (go ?_)
    refine al (aq.trans ad (kZ Uk (ak tb (cl [ptr bs,ptr jb,.slice (some ⟨b9,o9,none⟩) ts.length tc,.bool br] 101)::aK 103 1 (.slice (some ⟨b9,o9,none⟩) ts.length tc) ts.length (ts.map dm)::aK 29 32 (.slice pa p.length pc) p.length (p.flatMap dC)::ak b4 (cl (dC d) 29)::Z::F))) ?_
    refine aQ ih (j+1) rfl aj aj cF ad
   refine au 71 ((.bool true)) rfl ((congrArg Value.bool (decide_eq_true aj))) (go ?_)
   refine Vd (jK y.sb y.n wv) ?_
   refine go ?_
   refine Vd (tK (y.n:Int) (k:Int)) ?_
   refine go ?_
   by_cases hpd:p.length=fU y.n k
   case neg =>
    have Uk:fP true d k p y=y:=by unfold fP;rw[if_neg (fun h=>hpd h.2.2.2)]
    refine aE 82 ((.bool false)) rfl ((congrArg Value.bool (decide_eq_false aj))) (go ?_)
    refine al (aq.trans ad (kZ Uk (ak tb (cl [ptr bs,ptr jb,.slice (some ⟨b9,o9,none⟩) ts.length tc,.bool br] 101)::aK 103 1 (.slice (some ⟨b9,o9,none⟩) ts.length tc) ts.length (ts.map dm)::aK 29 32 (.slice pa p.length pc) p.length (p.flatMap dC)::ak b4 (cl (dC d) 29)::Z::F))) ?_
    refine aQ ih (j+1) rfl aj aj cF ad
   refine aE 82 ((.bool true)) rfl ((congrArg Value.bool (decide_eq_true aj))) ?_
   have Uk:fP true d k p y=y.put k p:=by unfold fP;rw[if_pos ⟨rfl,hyd,hkn,hpd⟩]
   rw[Uk]at ou
   refine al (aq.trans ad (jo (ak tb (cl [ptr bs,ptr jb,.slice (some ⟨b9,o9,none⟩) ts.length tc,.bool br] 101)::aK 103 1 (.slice (some ⟨b9,o9,none⟩) ts.length tc) ts.length (ts.map dm)::aK 29 32 (.slice pa p.length pc) p.length (p.flatMap dC)::ak b4 (cl (dC d) 29)::Z::F))) ?_
   refine al (H':=aK 29 32 (.slice pa p.length pc) p.length (p.flatMap dC)::pY y::bK ((ll (fP true d k p) j ts).take j++(ll (fP true d k p) j ts).drop (j+1))::ak tb (cl [ptr bs,ptr jb,.slice (some ⟨b9,o9,none⟩) ts.length tc,.bool br] 101)::aK 103 1 (.slice (some ⟨b9,o9,none⟩) ts.length tc) ts.length (ts.map dm)::ak b4 (cl (dC d) 29)::Z::F) ad ?_
   refine eE 0 rfl ?_
   intro hvp
   have mg:=F3 y k hkn Z8 T1 _ (.slice pa p.length pc) p hvp aj
   refine go ?_
   refine aeb mg ?_
   refine go ?_
   refine al (aq.pick [0,2,3,4] rfl) ?_
   refine al (ou _) ?_
   refine aQ ih (j+1) rfl aj aj cF ad
  ·intro fO
   have Rq:j=ts.length:=by omega
   subst Rq
   rw[G1]
   have NO:(ts.map (fP ok d k p)).map dm=ts.map dm:=by rw[← G1];exact QH _ hfy _ _
   have ae2:(ts.map (fP ok d k p)).length=ts.length:=List.length_map ..
   refine go ?_
   refine al (H':=ak tb (cl [ptr bs,ptr jb,.slice ta ts.length tc,.bool br] 101)::aK 103 1 (.slice ta ts.length tc) (ts.map (fP ok d k p)).length ((ts.map (fP ok d k p)).map dm)::bK (ts.map (fP ok d k p))::Z::F) (by rw[NO,ae2];exact ad) ?_
   refine ag hE Tryz.func115 rfl _ rfl ⟨rfl,k,Ch,rfl⟩ ad
end Go.Proofs.YtlionahpheehaaaGreatDoor
namespace Go.Proofs.YtlionahpheehaaaGreatDoor
open Go Go.SL
def Ff(ts:List Tk)(d:Dg):gI (vr ts d)=Gs (gI ts) d:=by
 unfold gI vr Gs
 rw[List.filter_map]
 rfl
def Fg(ts:List Tk)(y:Tk):gI (ts++[y])=gI ts++[y.c]:=by simp[gI]
def abh(k:UInt8)(n:Nat)(hn:n<256):decide ((k.toNat:Int)=(n:Int))=decide (k=UInt8.ofNat n):=by
 rw[decide_eq_decide]
 constructor
 ·intro h
  have h2:k.toNat=n:=by omega
  rw[← h2]
  exact(UInt8.ofNat_toNat).symm
 ·rintro rfl
  rw[UInt8.toNat_ofNat']
  omega
def Af{cs:List TC}{b:List UInt8}(h:jj b=none):dL cs b=cs:=by unfold dL;rw[h]
def F8{cs:List TC}{b:List UInt8}{d:Dg}(h:jj b=some (3,d,[])):dL cs b=Gs cs d:=by unfold dL;rw[h];simp
theorem yy{cs:List TC}{b:List UInt8}{d:Dg}{m:List UInt8}{l:List (List UInt8)}(h:jj b=some (2,d,m::l)):dL cs b=ni cs d m l:=by
 grind [dL]
theorem yz{cs:List TC}{b:List UInt8}{d:Dg}{s p r:List UInt8}(h:jj b=some (1,d,[s,p,r])):dL cs b=(match rN s,rN p,ij r with
  | some s,some p,some r=>if bP ⟨d,s,p,r⟩then Gs cs d++[dG ⟨d,s,p,r⟩]else cs
  | _,_,_=>cs):=by
 grind [dL]
theorem pZ{cs:List TC}{b:List UInt8}{k:UInt8}{d:Dg}{l:List (List UInt8)}(h:jj b=some (k,d,l))(h3:¬(k=3∧l.length=0))(h1:¬(k=1∧l.length=3))(h2:¬(k=2∧0<l.length)):dL cs b=cs:=by
 grind [dL]
attribute [local irreducible] J K aH Ends ak aK aV bX bj aS bp bD cp aJ
theorem Pw(X:HP)(tb bs jb:Nat)(tv:Value)(br:Bool)(ts:List Tk)(bv:Value)(b:List UInt8)(hb:eU X bv b)(jx:b.length≤1000000)(hl:ts.length≤900000)(hn:∀y∈ts,y.n≤65536)(hw:∀y∈ts,y.n≤y.ws.length*64) :
  aH Tryz.prog 40 [ptr tb,bv] (lN tb bs jb tv ts br++[X]) (fun r H=>r = .tuple #[]∧∃(eG:List Tk) (sJ:Value),gI eG=dL (gI ts) b∧H=lN tb bs jb sJ eG br++[X]):=by
 have rV:=M8 X bv b hb jx
 have Q4:=fun d=>Ay tb bs jb tv br ts d aj
 refine aH.aC Tryz.func40 Tryz.ntmps40 fun G F R hE=>?_
 refine go ?_
 refine ao rV ?_
 rintro _ _ (⟨Re,⟨k,d,ma,mn,mc,rfl⟩,rfl⟩|⟨k,d,more,mv,Z,hr,oq,hm1,hm2,rfl,rfl⟩)
 ·refine go ?_
  refine aL zr zr zr bO ?_
  intro b5
  refine go ?_
  refine ag hE Tryz.func40 rfl _ rfl ⟨rfl,ts,tv,(Af Re).symm,rfl⟩ ad
 have adn:=oq
 obtain⟨cs,dH,kJ,⟨ma,mc,rfl,hmc⟩,tq⟩:=oq
 refine go ?_
 refine aL zr zr zr bO ?_
 intro b5
 refine go ?_
 have dw:∀j:Nat,j<256→k≠UInt8.ofNat j→decide ((k.toNat:Int)=(j:Int))=false:=fun j hj h=>by rw[abh k j hj];exact decide_eq_false h
 have eA:dL (gI ts) b=gI ts→∃(eG:List Tk) (sJ:Value),gI eG=dL (gI ts) b∧[ak tb (cl [ptr bs,ptr jb,tv,.bool br] 101),aK 103 1 tv ts.length (ts.map dm),bK ts]++[X]=[ak tb (cl [ptr bs,ptr jb,sJ,.bool br] 101),aK 103 1 sJ eG.length (eG.map dm),bK eG]++[X]:=fun h=>⟨ts,tv,h.symm,rfl⟩
 by_cases h3:k=3
 ·subst h3
  by_cases h0:more.length=0
  ·have hmn:more=[]:=List.eq_nil_of_length_eq_zero h0
   subst hmn
   have qt:=F8 (cs:=gI ts) hr
   refine go ?_
   refine aW (U:=bh) (l:=dC d) 0 zr zr zr zr zr zr ?_
   refine ao (Q4 d) ?_
   rintro _ _⟨rfl,sJ,rfl⟩
   refine go ?_
   (refine ag hE Tryz.func40 rfl _ rfl ⟨rfl,vr ts d,sJ,by rw[Ff,qt],rfl⟩ ad)
  ·have qt:=pZ (cs:=gI ts) hr (fun h=>h0 h.2) (fun h=>absurd h.1 (by decide)) (fun h=>absurd h.1 (by decide))
   refine go ?_
   refine aE 25 ((.bool false)) rfl ((congrArg Value.bool (decide_eq_false aj))) (go ?_)
   refine ag hE Tryz.func40 rfl _ rfl ⟨rfl,eA qt⟩ ad
 have hn3:=dw 3 aj h3
 refine au 28 ((.bool false)) rfl ((congrArg Value.bool hn3)) ?_
 by_cases h1:k=1
 ·subst h1
  by_cases h0:more.length=3
  case neg =>
   have qt:=pZ (cs:=gI ts) hr (fun h=>absurd h.1 (by decide)) (fun h=>h0 h.2) (fun h=>absurd h.1 (by decide))
   refine go ?_
   refine aE 36 ((.bool false)) rfl ((congrArg Value.bool (decide_eq_false aj))) (go ?_)
   refine ag hE Tryz.func40 rfl _ rfl ⟨rfl,eA qt⟩ ad
  obtain⟨ms,mp,mr,rfl⟩:∃ms mp mr,more=[ms,mp,mr]:=by
   match more,h0 with
   | [ms,mp,mr],_=>exact⟨ms,mp,mr,rfl⟩
  have qt:=yz (cs:=gI ts) hr
  obtain⟨c0,Ci,u4⟩:=tq 0 ms rfl
  obtain⟨c1,y7,nN⟩:=tq 1 mp rfl
  obtain⟨c2,qu,qZ⟩:=tq 2 mr rfl
  have T5:=rJ Z c0 ms u4 (by have:=hm1 ms (by simp);omega)
  have hq1:=rJ Z c1 mp nN (by have:=hm1 mp (by simp);omega)
  have hq2:=sV Z c2 mr qZ (by have:=hm1 mr (by simp);omega)
  obtain⟨bb,oo,cc,he⟩:=dH.some (by intro h;rw[h]at kJ;simp at kJ)
  obtain⟨rfl,rfl⟩:=he
  refine aT (H':=ak b5 (cl (dC d) 29)::Z::ak tb (cl [ptr bs,ptr jb,tv,.bool br] 101)::aK 103 1 tv ts.length (ts.map dm)::bK ts::X::F) ad (go ?_)
  refine bW 0 zr zr zr zr zr zr zr zr (by simp) ?_
  refine aY ?_
  refine aZ 1 0 zr zr zr dH rfl Ci zr zr ?_
  refine ao T5 ?_
  rintro _ _⟨rfl,k1,DA,rfl,ae8⟩
  refine go ?_
  refine bW 1 zr zr zr zr zr zr zr zr (by simp) ?_
  refine aY ?_
  refine aZ 0 1 zr zr zr dH rfl y7 zr zr ?_
  refine ao hq1 ?_
  rintro _ _⟨rfl,k2,Ch,rfl,ado⟩
  refine go ?_
  refine bW 2 zr zr zr zr zr zr zr zr (by simp) ?_
  refine aY ?_
  refine aZ 0 2 zr zr zr dH rfl qu zr zr ?_
  refine aeb hq2 ?_
  refine go ?_
  refine aL zr zr zr bO ?_
  intro b12
  refine go ?_
  refine aW (U:=bh) (l:=dC d) 2 zr zr zr zr zr zr (go ?_)
  refine aW (U:=bh) (l:=dC (hz mr)) 0 zr zr zr zr zr zr (go ?_)
  obtain⟨x,hx⟩:∃x:Bl,x=⟨d,(k1:Int),(k2:Int),hz mr⟩:=⟨_,rfl⟩
  refine aL zr zr zr bO ?_
  intro b14
  refine go ?_
  ((refine aT (H':=ak b14 (cl (ck x) 31)::ak b5 (cl (dC d) 29)::ak tb (cl [ptr bs,ptr jb,tv,.bool br] 101)::aK 103 1 tv ts.length (ts.map dm)::bK ts::X::F) ((by rw[hx];exact ad)) ?_))
  have rU:=km x
  cases e0:rN ms with
  | none =>
   rw[e0]at qt
   refine go ?_
   refine ag hE Tryz.func40 rfl _ rfl ⟨rfl,eA qt⟩ ad
  | some v0 =>
  obtain rfl:=ae8 v0 e0
  rw[e0]at qt
  cases e1:rN mp with
  | none =>
   rw[e1]at qt
   refine go ?_
   refine ag hE Tryz.func40 rfl _ rfl ⟨rfl,eA qt⟩ ad
  | some v1 =>
  obtain rfl:=ado v1 e1
  rw[e1]at qt
  cases e2:ij mr with
  | none =>
   rw[e2]at qt
   refine go ?_
   refine ag hE Tryz.func40 rfl _ rfl ⟨rfl,eA qt⟩ ad
  | some v2 =>
  have rl:hz mr=v2:=by unfold hz;rw[e2];rfl
  rw[e2]at qt
  simp only at qt
  rw[rl]at hx
  rw[← hx]at qt
  refine go ?_
  refine aW (U:=bh) (l:=ck x) 0 zr zr zr zr zr zr ?_
  ((refine go ?_;(refine ao rU ?_)))
  rintro _ _⟨rfl,rfl⟩
  cases T4:bP x with
  | false =>
   rw[T4]at qt
   refine go ?_
   refine ag hE Tryz.func40 rfl _ rfl ⟨rfl,eA qt⟩ ad
  | true =>
  rw[T4]at qt
  simp only[if_true]at qt
  have tQ:=DL x
  refine aT (H':=ak b5 (cl (dC d) 29)::ak tb (cl [ptr bs,ptr jb,tv,.bool br] 101)::aK 103 1 tv ts.length (ts.map dm)::bK ts::X::ak b14 (cl (ck x) 31)::F) ad (go ?_)
  refine aW (U:=bh) (l:=dC d) 0 zr zr zr zr zr zr ?_
  refine ao (Q4 d) ?_
  rintro _ _⟨rfl,sJ,rfl⟩
  refine aT (H':=ak tb (cl [ptr bs,ptr jb,sJ,.bool br] 101)::aK 103 1 sJ (vr ts d).length ((vr ts d).map dm)::bK (vr ts d)::X::ak b14 (cl (ck x) 31)::F) ad ?_
  have w9:(vr ts d).length≤ts.length:=List.length_filter_le _ _
  obtain⟨us,IZ⟩:∃us,us=vr ts d:=⟨_,rfl⟩
  rw[← IZ]at w9 ⊢
  have hcu:gI us=Gs (gI ts) d:=by rw[IZ,Ff]
  refine go ?_
  refine aM 1 rfl ?_
  rintro ua uc rfl
  refine aO (fun w=>Sat G w ([ak tb (cl [ptr bs,ptr jb,.slice ua us.length uc,.bool br] 101),ak b14 (cl (ck x) 31)])) (dM 0 6 (.act 6 (.act 7 (.act 8 (.st 9 (.st 10 (.act 11 .nil))))))) rfl aw aw aw dI ?_
  refine go ?_
  refine dv (U:=bh) (l:=ck x) 1 zr zr zr zr zr zr (go ?_)
  refine bz tQ ?_
  rintro _ _⟨y,rfl,rfl,Vu,J1,hy3,hy4⟩
  refine go ?_
  refine az (cs:=[ptr y.yb]) zr zr zr zr zr zr zr zr zr (fun _ w hw=>hw.cI ad) ?_
  intro r1
  refine go ?_
  refine bg (mm:=1) (news:=[ptr y.yb]) 3 0 rfl rfl rfl rfl rfl rfl rfl rfl rfl rfl rfl rfl (Vw.ak rfl) rfl (by intro v hv;simp at hv;rw[hv];rfl) aj (by show(_+_)*8≤_;omega) (fun _=>rfl) (fun _ w hw=>hw.cI ad) ?_
  intro v1
  refine aN 3 rfl ?_
  rintro ka kc rfl
  refine go ?_
  have NO:us.map dm++[ptr y.yb]=(us++[y]).map dm:=by simp[dm]
  have EX:us.length+1=(us++[y]).length:=by simp
  have nI:=xr us [] y
  rw[List.append_nil]at nI
  rw[NO,EX]
  refine al (aq.pick [1,4,2,3,5] rfl) ?_
  refine al (nI _) ?_
  have O0:y.c=dG x:=by
   grind [Tk.c,dG]
  (refine ag hE Tryz.func40 rfl _ rfl ⟨rfl,us++[y],_,by rw[Fg,hcu,O0,qt],rfl⟩ ad)
 have hn1:=dw 1 aj h1
 by_cases h2:k=2
 ·subst h2
  by_cases h0:0<more.length
  case neg =>
   have qt:=pZ (cs:=gI ts) hr (fun h=>absurd h.1 (by decide)) (fun h=>absurd h.1 (by decide)) (fun h=>h0 h.2)
   refine go ?_
   refine aE 95 ((.bool false)) rfl ((congrArg Value.bool (decide_eq_false aj))) (go ?_)
   refine ag hE Tryz.func40 rfl _ rfl ⟨rfl,eA qt⟩ ad
  obtain⟨m,l,rfl⟩:∃m l,more=m::l:=by
   match more,h0 with
   | m::l,_=>exact⟨m,l,rfl⟩
  have qt:=yy (cs:=gI ts) hr
  have htp:=MG Z tb bs jb tv br ts d _ m l adn hm1 hm2 aj hn hw
  refine go ?_
  refine aE 95 ((.bool true)) rfl ((congrArg Value.bool (decide_eq_true aj))) (go ?_)
  refine aW (U:=bh) (l:=dC d) 0 zr zr zr zr zr zr ?_
  ((refine go ?_;(refine ao htp ?_)))
  rintro _ _⟨rfl,kk,hkk,rfl⟩
  refine go ?_
  (refine ag hE Tryz.func40 rfl _ rfl ⟨rfl,ts.map (fP (GR m l) d kk (l.map hz)),tv,by rw[AE ts d m l kk hkk,qt],rfl⟩ ad)
 have VO:=dw 2 aj h2
 have qt:=pZ (cs:=gI ts) hr (fun h=>h3 h.1) (fun h=>h1 h.1) (fun h=>h2 h.1)
 refine go ?_
 refine au 39 ((.bool false)) rfl ((congrArg Value.bool hn1)) (go ?_)
 refine au 98 ((.bool false)) rfl ((congrArg Value.bool VO)) (go ?_)
 refine ag hE Tryz.func40 rfl _ rfl ⟨rfl,eA qt⟩ ad
end Go.Proofs.YtlionahpheehaaaGreatDoor
namespace Go.Proofs.YtlionahpheehaaaGreatDoor
open Go Go.SL
def Tk.drop(y:Tk)(i:Nat):Tk:=⟨y.yb,y.sb,y.mb,y.x,y.n,jQ y.ws i false,fun j=>if j=(i:Int)then none else y.pf j⟩
theorem KJ(es:List (Int × Value))(k j:Int):fh (wO es k) j=if j=k then none else fh es j:=by
 grind [wO,fh]
theorem Mk.drop{z:Value × List (Int × Value) × gw}{y:Tk}(h:Mk z y)(i:Nat):Mk (z.1,wO z.2.1 (i:Int),z.2.2) (y.drop i):=fun j=>by
 rw[KJ]
 by_cases hj:j=(i:Int)
 ·rw[if_pos hj]
  show(if j=(i:Int)then none else y.pf j)=none
  grind
 ·rw[if_neg hj]
  have:=h j
  show match fh z.2.1 j with
   | none=>(if j=(i:Int)then none else y.pf j)=none
   | some v=>∃l,(if j=(i:Int)then none else y.pf j)=some l∧FX z.2.2 32 v l.length (l.flatMap dC)
  grind
attribute [local irreducible] J K aH Ends ak aK aV bX bj aS bp bD cp aJ
def MH(y:Tk)(i:Nat)(hi:i<y.n)(hn:y.n≤65536)(hw:y.n≤y.ws.length*64) :
  aH Tryz.prog 122 [ptr y.yb,.int .i64 (i:Int)] [pY y] (fun r H=>r = .tuple #[]∧H=[pY (y.drop i)]):=by
 refine aH.aC Tryz.func122 Tryz.ntmps122 fun G F R hE=>?_
 refine dZ (iF y) ?_
 rintro⟨wv,cs,M⟩ hz
 have mg:=IU y.sb y.n wv y.ws hn hw i hi false
 refine go ?_
 refine aeb mg ?_
 refine aT (H':=ak y.yb (cl (qT y) 107)::aV (Value.int .i64) y.mb cs::ak y.sb (cl [.int .i64 (y.n:Int),wv] 225)::aK 159 1 wv (jQ y.ws i false).length (qV (jQ y.ws i false))::bp 29 M::F) ad (go ?_)
 refine nH (es:=cs) (key:=(i:Int)) 1 (EP Tryz.underlying3) (fun w hw=>by exact trivial) zr zr zr zr zr zr zr ?_
 refine go ?_
 refine al (aq.pick [0,2,3] rfl) ?_
 refine al (ld (hz.drop i) _) ?_
 refine ag hE Tryz.func122 rfl _ rfl ⟨rfl,rfl⟩ ad
end Go.Proofs.YtlionahpheehaaaGreatDoor
namespace Go.Proofs.YtlionahpheehaaaGreatDoor
open Go Go.SL
def k7(c:TC):Prop:=c.n≤1024∧c.n≤c.ws.length*64∧c.ws.length≤65536∧∀k l,c.pf k=some l→l.length≤10
def k7.drop{c:TC}(h:k7 c)(i:Nat):k7 (c.drop i):=⟨h.1,by unfold TC.drop;simp only[iH];exact h.2.1,by unfold TC.drop;simp only[iH];exact h.2.2.1,fun k l hk=>by
  unfold TC.drop at hk
  simp only at hk
  split at hk
  · cases hk
  · exact h.2.2.2 k l hk⟩
def k7.hold{s:fW}{c:TC}(h:k7 c):∀k,k7 (jl s c k).1
 | 0=>h
 | k+1=>by
  rw[nq]
  have ih:=k7.hold (s:=s) h k
  unfold nX
  split
  ·split
   ·exact ih.drop k
   ·exact ih
  ·exact ih
theorem uT{x:Bl}{i:Int}{b:List UInt8}{p:List Dg}(h:di x i b p=true):p.length≤10:=by
 grind [di,kP,tz]
def Ra{s:fW}{y:Tk}{ls:List (List UInt8)}{i:Nat}(h:cy y.ws y.n (i:Int)=false):nX s (y.c,ls) i=(y.c,ls):=by
 exact if_neg (show ¬cy y.ws y.n (i:Int)=true by rw[h];simp)
theorem J9{s:fW}{y:Tk}{ls:List (List UInt8)}{i:Nat}(h:cy y.ws y.n (i:Int)=true)(h2:(eL s y.x (i:Int)).2≠0∨di y.x i (eL s y.x (i:Int)).1 ((y.pf i).getD [])=false):nX s (y.c,ls) i=(y.c.drop i,ls):=by
 exact(if_pos (show cy y.ws y.n (i:Int)=true from h)).trans (if_pos h2)
theorem J8{s:fW}{y:Tk}{ls:List (List UInt8)}{i:Nat}(h:cy y.ws y.n (i:Int)=true)(h2:¬((eL s y.x (i:Int)).2≠0∨di y.x i (eL s y.x (i:Int)).1 ((y.pf i).getD [])=false)):nX s (y.c,ls) i=(y.c,ls++[bQ y.x.d i ((y.pf i).getD [])]):=by
 exact(if_pos (show cy y.ws y.n (i:Int)=true from h)).trans (if_neg h2)
attribute [local irreducible] J K aH Ends ak aK aV bX bj aS bp bD cp aJ dj
theorem Q'(X:HP)(hK:qI X)(tb bs jb bd:Nat)(tv:Value)(br:Bool)(q:Int)(mb:Nat)(s:SJ)(hRd:∀nm at_ n,(s.1.A.read nm at_ n).1.length≤1048576)(y0:Tk)(k8:k7 y0.c)(kr:0≤y0.x.size∧y0.x.size≤1000000000000)(hps:0≤y0.x.piece∧y0.x.piece≤1000000000000) :
  aH Tryz.prog 42 [ptr tb,ptr y0.yb] [ak tb (cl [ptr bs,ptr jb,tv,.bool br] 101),pY y0,dj bs bd jb q mb [] s,X]
  (fun r H=>∃(y:Tk) (Z:HP),y.yb=y0.yb∧y.c=(lU s.1 y0.c).1∧xh Z r (lU s.1 y0.c).2∧H=[ak tb (cl [ptr bs,ptr jb,tv,.bool br] 101),pY y,dj bs bd jb q mb [] s,X,Z]):=by
 have y8:=uw y0.x kr hps
 refine aH.aC Tryz.func42 Tryz.ntmps42 fun G F R hE=>?_
 refine al (aq.pick [1] rfl) ?_
 refine dZ (iF y0) ?_
 rintro⟨wv,cs,N⟩ hz0
 refine go ?_
 refine ct (cs:=ck y0.x) 0 zr zr zr zr zr zr ?_
 refine ao y8 ?_
 rintro r _ rfl
 refine aN 0 rfl ?_
 rintro a8 c8 rfl
 refine fY (bs:=cm y0.x) 0 rfl ?_
 intro N2
 refine go ?_
 refine az (cs:=[.slice a8 (cm y0.x).length c8]) zr zr zr zr zr zr zr zr zr bO ?_
 intro row
 refine aT (H':=ak y0.yb (cl (qT y0) 107)::ak y0.sb (cl [.int .i64 (y0.n:Int),wv] 225)::aK 159 1 wv y0.ws.length (qV y0.ws)::aV (Value.int .i64) y0.mb cs::bp 29 N::ak row (cl [.slice a8 (cm y0.x).length c8] 22)::aK 5 1 (.slice a8 (cm y0.x).length c8) (cm y0.x).length (bV (cm y0.x))::ak tb (cl [ptr bs,ptr jb,tv,.bool br] 101)::dj bs bd jb q mb [] s::X::F) ad (go ?_)
 refine aeb (jK y0.sb y0.n wv) ?_
 refine go ?_
 refine al (aq.trans (H2:=zx y0 (wv,cs,N)++(ak row (cl [.slice a8 (cm y0.x).length c8] 22)::aK 5 1 (.slice a8 (cm y0.x).length c8) (cm y0.x).length (bV (cm y0.x))::ak tb (cl [ptr bs,ptr jb,tv,.bool br] 101)::dj bs bd jb q mb [] s::X::F)) ad (ld hz0 _)) ?_
 refine al (aq.pick [1,2] rfl) ?_
 refine al (fp 22 1 row 1 1 [.slice a8 (cm y0.x).length c8] [] _ rfl (Nat.le_refl _) (by simp)) ?_
 refine bF (fun z:Nat × Tk × Rws × Option Addr × Nat=>z.1≤y0.n∧z.2.1.yb=y0.yb∧z.2.1.c=(jl s.1 y0.c z.1).1∧Fy z.2.2.1 (jl s.1 y0.c z.1).2∧z.2.2.1.cs.length≤z.1+1) (fun z=>y0.n-z.1)
  (fun z=>[(0,ptr tb),(1,ptr y0.yb),(5,.slice z.2.2.2.1 z.2.2.1.cs.length z.2.2.2.2),(19,.int .i64 (y0.n:Int)),(20,.int .i64 (z.1:Int))])
  (fun z=>aK 22 1 (.slice z.2.2.2.1 z.2.2.1.cs.length z.2.2.2.2) z.2.2.1.cs.length z.2.2.1.cs::z.2.2.1.Z::pY z.2.1::ak tb (cl [ptr bs,ptr jb,tv,.bool br] 101)::dj bs bd jb q mb [] s::X::F) (0,y0,⟨[.slice a8 (cm y0.x).length c8],aK 5 1 (.slice a8 (cm y0.x).length c8) (cm y0.x).length (bV (cm y0.x))⟩,some ⟨row,0,none⟩,1) ⟨Nat.zero_le _,rfl,rfl,?_,by simp⟩ rfl cF ad ?_
 ·refine⟨rfl,fun j x hx=>?_⟩
  match j,hx with
  | 0,hx=>cases hx;exact⟨_,rfl,N2⟩
  | j+1,hx=>cases hx
 rintro⟨i,y,M,oa,oc⟩⟨hi,Bb,O0,hM,hMl⟩ ih
 simp only at hi Bb O0 hM hMl
 refine go ?_
 refine aB zr zr ?_ ?_
 ·intro dk
  obtain⟨ls,Dy⟩:∃ls,ls=(jl s.1 y0.c i).2:=⟨_,rfl⟩
  have ac3:jl s.1 y0.c i=(y.c,ls):=by rw[O0,Dy]
  have yX:=nq s.1 y0.c i
  rw[ac3]at yX
  rw[← Dy]at hM
  have ac7:k7 y.c:=by rw[O0];exact k8.hold i
  have hxx:=LY s.1 y0.c i
  rw[← O0]at hxx
  have Z8:y.n=y0.n:=hxx.2.1
  have acL:y.n≤65536:=Nat.le_trans ac7.1 aj
  have T1:y.n≤y.ws.length*64:=ac7.2.1
  rw[← Bb]
  refine al (aq.pick [2] rfl) ?_
  refine dZ (iF y) ?_
  rintro⟨wv,cs,N⟩ hz
  have jo:∀H,aq (ak y.yb (cl (qT y) 107)::ak y.sb (cl [.int .i64 (y.n:Int),wv] 225)::aK 159 1 wv y.ws.length (qV y.ws)::aV (Value.int .i64) y.mb cs::bp 29 N::H) (pY y::H):=fun H=>aq.trans (H2:=zx y (wv,cs,N)++H) ad (ld hz _)
  have u0:=IV y.sb y.n wv y.ws acL T1 (i:Int)
  refine go ?_
  refine aeb u0 ?_
  cases SZ:cy y.ws y.n (i:Int)with
  | false =>
   have vt:jl s.1 y0.c (i+1)=(y.c,ls):=by rw[yX,Ra SZ]
   refine go ?_
   refine aE 1 ((ptr y0.yb)) rfl ((by rw[Bb])) ?_
   refine al (aq.trans ad (jo (aK 22 1 (.slice oa M.cs.length oc) M.cs.length M.cs::M.Z::ak tb (cl [ptr bs,ptr jb,tv,.bool br] 101)::dj bs bd jb q mb [] s::X::F))) ?_
   refine aQ ih (i+1,y,M,oa,oc) rfl ⟨by simp only;omega,Bb,by rw[vt],by rw[vt];exact hM,by simp only;omega⟩ aj cF ad
  | true =>
  have hsg:=KL bs bd q mb s.1 y.x (i:Int)
  obtain⟨bb,S7⟩:∃b,b=(eL s.1 y.x (i:Int)).1:=⟨_,rfl⟩
  obtain⟨ee,hee⟩:∃e,e=(eL s.1 y.x (i:Int)).2:=⟨_,rfl⟩
  have jx:bb.length≤1048576:=by
   grind [eL]
  have LQ:(ee≠0∨di y.x i bb ((y.pf i).getD [])=false)→jl s.1 y0.c (i+1)=(y.c.drop i,ls):=fun h=>by
   grind [J9]
  have hs4:¬(ee≠0∨di y.x i bb ((y.pf i).getD [])=false)→jl s.1 y0.c (i+1)=(y.c,ls++[bQ y.x.d i ((y.pf i).getD [])]):=fun h=>by
   grind [J8]
  rw[← S7,← hee]at hsg
  obtain⟨pv,Q7,T6⟩:=hz.look (i:Int)
  obtain⟨pa,pc,aeP,VL⟩:=T6.shape
  subst aeP
  refine go ?_
  refine al (aq.pick [8,2] rfl) ?_
  refine al (KO bs bd jb q mb s _) ?_
  refine aO (fun w=>Sat G w ([ak tb (cl [ptr bs,ptr jb,tv,.bool br] 101),ak y.yb (cl (qT y) 107)])) (dM 0 9 (.act 9 (dM 10 5 .nil))) rfl aw aw aw dI ?_
  refine go ?_
  refine cE (U:=bh) (cs:=ck y.x) 1 zr zr zr zr zr zr (go ?_)
  ((refine fq zr zr zr zr (hsg) ad ?_ (fun _ _ w hp hw=>by obtain⟨_,rfl,rfl⟩:=hp;exact hw.cI ad)))
  rintro _ _⟨rv,rfl,rfl⟩
  refine aN 0 rfl ?_
  rintro ra rc rfl
  refine zt ?_
  refine jw rfl ?_
  refine al (aq.trans ad (BR bs bd jb q mb s (aK 5 1 (.slice ra bb.length rc) bb.length (bV bb)::ak y.yb (cl (qT y) 107)::ak y.sb (cl [.int .i64 (y.n:Int),wv] 225)::aK 159 1 wv y.ws.length (qV y.ws)::aV (Value.int .i64) y.mb cs::bp 29 N::aK 22 1 (.slice oa M.cs.length oc) M.cs.length M.cs::M.Z::ak tb (cl [ptr bs,ptr jb,tv,.bool br] 101)::X::F))) ?_
  refine qG (bs:=bb) 1 rfl ?_
  intro afC
  obtain⟨pf,hpf⟩:∃l,l=(y.pf (i:Int)).getD []:=⟨_,rfl⟩
  rw[← hpf]at Q7 T6 VL LQ hs4
  have NO:=AT (Sep [X,aK 5 1 (.slice ra bb.length rc) bb.length (bV bb),bp 29 N]) (hK.mono (aX (H:=[X,aK 5 1 (.slice ra bb.length rc) bb.length (bV bb),bp 29 N]) (i:=0) rfl)) y.x (i:Int) (.slice ra bb.length rc) bb (afC.mono (aX (i:=1) rfl)) aj (.slice pa pf.length pc) pf ⟨(T6.view _).mono (aX (i:=2) rfl),pa,pc,rfl,VL⟩
  have S5:=MH y i aj acL T1
  refine al (aq.pick [10,1,6,2,5,3,4,7,8,9] rfl) ?_
  refine al (aq.cg [X,aK 5 1 (.slice ra bb.length rc) bb.length (bV bb),bp 29 N] _) ?_
  have iK:∀H,aq (Sep [X,aK 5 1 (.slice ra bb.length rc) bb.length (bV bb),bp 29 N]::ak y.yb (cl (qT y) 107)::aV (Value.int .i64) y.mb cs::ak y.sb (cl [.int .i64 (y.n:Int),wv] 225)::aK 159 1 wv y.ws.length (qV y.ws)::H) (ak y.yb (cl (qT y) 107)::ak y.sb (cl [.int .i64 (y.n:Int),wv] 225)::aK 159 1 wv y.ws.length (qV y.ws)::aV (Value.int .i64) y.mb cs::bp 29 N::X::H):=fun H=>(aq.cR [X,aK 5 1 (.slice ra bb.length rc) bb.length (bV bb),bp 29 N] _).trans ad
  refine aO (fun w=>Sat G w ([ak y.yb (cl (qT y) 107),aV (Value.int .i64) y.mb cs])) (dM 0 15 (.act 15 (.st 16 (.st 17 .nil)))) rfl aw aw aw dI ?_
  refine go ?_
  by_cases he:ee=0
  case neg =>
   have vt:=LQ (.inl he)
   refine au 45 ((.bool true)) rfl ((congrArg Value.bool (decide_eq_true aj))) (go ?_)
   refine aT (aq.trans ad (iK (aK 22 1 (.slice oa M.cs.length oc) M.cs.length M.cs::M.Z::ak tb (cl [ptr bs,ptr jb,tv,.bool br] 101)::dj bs bd jb q mb [] s::F))) ?_
   refine aT (jo _) (go ?_)
   refine aeb S5 ?_
   refine go ?_
   refine aE 1 ((ptr y0.yb)) rfl ((by rw[Bb])) ?_
   refine aQ ih (i+1,y.drop i,M,oa,oc) rfl ⟨by simp only;omega,Bb,by rw[vt];rfl,by rw[vt];exact hM,by simp only;omega⟩ aj cF ad
  refine au 45 ((.bool false)) rfl ((congrArg Value.bool (decide_eq_false aj))) (go ?_)
  refine cE (U:=bh) (cs:=ck y.x) 0 zr zr zr zr zr zr (go ?_)
  refine D8 (U:=bh) (kv:=Value.int .i64) (es:=cs) (key:=(i:Int)) rfl (EP Tryz.underlying3) zr zr zr zr zr zr zr (fun w hw=>hw.qv (i:=1) rfl) ?_
  refine au 57 ((.slice pa pf.length pc)) rfl (Q7) (go ?_)
  refine Vd NO ?_
  cases Q9:di y.x i bb pf with
  | false =>
   have vt:=LQ (.inr Q9)
   refine go ?_
   refine aT (aq.trans ad (iK (aK 22 1 (.slice oa M.cs.length oc) M.cs.length M.cs::M.Z::ak tb (cl [ptr bs,ptr jb,tv,.bool br] 101)::dj bs bd jb q mb [] s::F))) ?_
   refine aT (jo _) (go ?_)
   refine aeb S5 ?_
   refine go ?_
   refine aE 1 ((ptr y0.yb)) rfl ((by rw[Bb])) ?_
   refine aQ ih (i+1,y.drop i,M,oa,oc) rfl ⟨by simp only;omega,Bb,by rw[vt];rfl,by rw[vt];exact hM,by simp only;omega⟩ aj cF ad
  | true =>
  have vt:=hs4 (fun h=>by rcases h with h|h;exact h he;rw[Q9]at h;cases h)
  have qO:=uT Q9
  have LX:=C7 y.x.d i aj (bp 29 N) (.slice pa pf.length pc) pf (T6.view _) aj
  refine go ?_
  refine al (aq.trans ad (iK (aK 22 1 (.slice oa M.cs.length oc) M.cs.length M.cs::M.Z::ak tb (cl [ptr bs,ptr jb,tv,.bool br] 101)::dj bs bd jb q mb [] s::F))) ?_
  refine aO (fun w=>Sat G w ([ak y.yb (cl (qT y) 107),aV (Value.int .i64) y.mb cs])) (dM 0 13 (.act 13 (.act 14 (.act 15 (.st 16 .nil))))) rfl aw aw aw dI ?_
  refine go ?_
  refine cE (U:=bh) (cs:=dC y.x.d) 0 zr zr zr zr zr zr (go ?_)
  refine D8 (U:=bh) (kv:=Value.int .i64) (es:=cs) (key:=(i:Int)) rfl (EP Tryz.underlying3) zr zr zr zr zr zr zr (fun w hw=>hw.qv (i:=1) rfl) ?_
  refine au 76 ((.slice pa pf.length pc)) rfl (Q7) (go ?_)
  refine bz LX ?_
  rintro r9 _ rfl
  refine aN 0 rfl ?_
  rintro a9 c9 rfl
  refine fY (bs:=bQ y.x.d i pf) 0 rfl ?_
  intro hb9
  refine go ?_
  refine az (cs:=[.slice a9 (bQ y.x.d i pf).length c9]) zr zr zr zr zr zr zr zr zr (fun _ w hw=>hw.cI ad) ?_
  intro PU
  refine aT (H':=ak PU (cl [.slice a9 (bQ y.x.d i pf).length c9] 22)::aK 22 1 (.slice oa M.cs.length oc) M.cs.length M.cs::aK 5 1 (.slice a9 (bQ y.x.d i pf).length c9) (bQ y.x.d i pf).length (bV (bQ y.x.d i pf))::M.Z::ak y.yb (cl (qT y) 107)::ak y.sb (cl [.int .i64 (y.n:Int),wv] 225)::aK 159 1 wv y.ws.length (qV y.ws)::aV (Value.int .i64) y.mb cs::bp 29 N::ak tb (cl [ptr bs,ptr jb,tv,.bool br] 101)::dj bs bd jb q mb [] s::X::F) ad (go ?_)
  refine bg (mm:=1) (news:=[.slice a9 (bQ y.x.d i pf).length c9]) 1 0 rfl rfl rfl rfl rfl rfl rfl rfl rfl rfl rfl rfl (Vw.ak rfl) rfl (by intro v hv;simp at hv;rw[hv];rfl) aj (by show(_+_)*24≤_;omega) (fun _=>rfl) (fun _ w hw=>hw.cI ad) ?_
  intro v1
  refine aN 1 rfl ?_
  rintro ja jc rfl
  refine go ?_
  have Bm:=hM.add hb9
  have Uq:(M.cs++[Value.slice a9 (bQ y.x.d i pf).length c9]).length=M.cs.length+1:=by simp
  refine al (H':=aK 5 1 (.slice a9 (bQ y.x.d i pf).length c9) (bQ y.x.d i pf).length (bV (bQ y.x.d i pf))::M.Z::ak y.yb (cl (qT y) 107)::ak y.sb (cl [.int .i64 (y.n:Int),wv] 225)::aK 159 1 wv y.ws.length (qV y.ws)::aV (Value.int .i64) y.mb cs::bp 29 N::aK 22 1 (.slice ja (M.cs++[Value.slice a9 (bQ y.x.d i pf).length c9]).length jc) (M.cs++[Value.slice a9 (bQ y.x.d i pf).length c9]).length (M.cs++[Value.slice a9 (bQ y.x.d i pf).length c9])::ak tb (cl [ptr bs,ptr jb,tv,.bool br] 101)::dj bs bd jb q mb [] s::X::F) (by rw[Uq];exact ad) ?_
  refine al (aq.cg [aK 5 1 (.slice a9 (bQ y.x.d i pf).length c9) (bQ y.x.d i pf).length (bV (bQ y.x.d i pf)),M.Z] _) ?_
  refine al (aq.trans ad (jo (Sep [aK 5 1 (.slice a9 (bQ y.x.d i pf).length c9) (bQ y.x.d i pf).length (bV (bQ y.x.d i pf)),M.Z]::aK 22 1 (.slice ja (M.cs++[Value.slice a9 (bQ y.x.d i pf).length c9]).length jc) (M.cs++[Value.slice a9 (bQ y.x.d i pf).length c9]).length (M.cs++[Value.slice a9 (bQ y.x.d i pf).length c9])::ak tb (cl [ptr bs,ptr jb,tv,.bool br] 101)::dj bs bd jb q mb [] s::X::F))) ?_
  refine aE 1 ((ptr y0.yb)) rfl ((by rw[Bb])) ?_
  refine aE 5 ((.slice ja (M.cs++[Value.slice a9 (bQ y.x.d i pf).length c9]).length jc)) rfl ((by rw[Uq])) ?_
  refine aQ ih (i+1,y,⟨M.cs++[Value.slice a9 (bQ y.x.d i pf).length c9],Sep [aK 5 1 (.slice a9 (bQ y.x.d i pf).length c9) (bQ y.x.d i pf).length (bV (bQ y.x.d i pf)),M.Z]⟩,ja,jc) rfl ⟨by simp only;omega,Bb,by rw[vt],by rw[vt];exact Bm,by simp only[Uq];omega⟩ aj cF ad
 ·intro fO
  have ue:i=y0.n:=by omega
  subst ue
  refine sA 0 rfl ?_
  intro jE
  refine eE 0 rfl ?_
  intro QX
  have EX:=hM.1
  have oq:xh (Sep [aK 22 1 (.slice oa M.cs.length oc) M.cs.length M.cs,M.Z]) (.slice oa M.cs.length oc) (lU s.1 y0.c).2:=by
   rw[EX]at QX jE ⊢
   exact xh.ofP QX jE EX hM.2
  refine al (aq.cg [aK 22 1 (.slice oa M.cs.length oc) M.cs.length M.cs,M.Z] _) (go ?_)
  refine ah hE Tryz.func42 zr zr ⟨y,_,Bb,O0,oq,rfl⟩
end Go.Proofs.YtlionahpheehaaaGreatDoor
namespace Go.Proofs.YtlionahpheehaaaGreatDoor
open Go Go.SL
def Pc(c:TC):Prop:=k7 c∧bP c.x=true
theorem k7.fresh(x:Bl):k7 (dG x):=by
 have h:=py x
 unfold k7 dG
 grind
theorem k7.put{c:TC}(h:k7 c)(i:Nat){l:List Dg}(hl:l.length≤10):k7 (c.put i l):=⟨h.1,by unfold TC.put;simp only[iH];exact h.2.1,by unfold TC.put;simp only[iH];exact h.2.2.1,fun k l' hk=>by
  unfold TC.put at hk
  simp only at hk
  split at hk
  · grind
  · exact h.2.2.2 k l' hk⟩
theorem C8{cs:List TC}(h:∀c∈cs,Pc c)(d:Dg)(m:List UInt8)(l:List (List UInt8)):(∀c∈ni cs d m l,Pc c)∧(ni cs d m l).length=cs.length:=by
 unfold ni
 split
 ·refine⟨fun c hc=>?_,by simp⟩
  obtain⟨y,hy,rfl⟩:=List.mem_map.1 hc
  split
  ·rename_i hh
   exact⟨(h y hy).1.put _ (by rw[hh.2.2];exact tz _ _),(h y hy).2⟩
  grind
 grind
def ZO{cs:List TC}(h:∀c∈cs,Pc c)(d:Dg):(∀c∈Gs cs d,Pc c)∧(Gs cs d).length≤cs.length:=⟨fun c hc=>h c (List.mem_filter.1 hc).1,List.length_filter_le _ _⟩
theorem Px{cs:List TC}(h:∀c∈cs,Pc c)(b:List UInt8):(∀c∈dL cs b,Pc c)∧(dL cs b).length≤cs.length+1:=by
 unfold dL
 split
 ·grind
 ·rename_i k d more _
  have hr:=ZO h d
  split
  ·grind
  ·split
   ·split
    ·split
     ·split
      ·rename_i T4
       refine⟨fun c hc=>?_,by rw[List.length_append];simp;omega⟩
       rcases List.mem_append.1 hc with hc|hc
       ·exact hr.1 c hc
       ·rw[List.mem_singleton.1 hc];exact⟨k7.fresh _,T4⟩
      grind
     grind
    grind [C8]
   ·grind [C8]
   grind
theorem Li:∀(ls:List (List UInt8)) (cs:List TC),(∀c∈cs,Pc c)→(∀c∈ls.foldl dL cs,Pc c)∧(ls.foldl dL cs).length≤cs.length+ls.length
 | [],cs,h=>⟨h,by simp⟩
 | b::ls,cs,h=>by
  obtain⟨h1,h2⟩:=Px h b
  obtain⟨h3,h4⟩:=Li ls (dL cs b) h1
  grind
theorem rz(ls:List (List UInt8)):(∀c∈ls.foldl dL [],Pc c)∧(ls.foldl dL []).length≤ls.length:=by
 grind [Li]
theorem Lb{q:Int}{x:Bl}{s t:fW}{e:Nat}(h:eh q x s e t):t.bu=s.bu∨t.bu=s.bu++[(x.d,x)]:=by
 unfold eh at h
 split at h
 ·grind
 split at h
 ·grind
 split at h
 ·grind
 split at h
 ·grind
 split at h
 ·grind
 ·obtain⟨e1,s1,⟨B,_,rfl⟩,h2⟩:=h
  grind
theorem dB{x:Bl}(h:bP x=true):1≤x.size∧x.size≤1048576∧16≤x.piece∧x.piece≤16384:=by
 grind [bP]
theorem qS.begin{q:Int}{x:Bl}{s t:fW}{e:Nat}(h:qS s.bu)(hl:s.bu.length<1000000)(hr:bP x=true)(hR:eh q x s e t):qS t.bu∧t.bu.length≤s.bu.length+1:=by
 rcases Lb hR with h1|h1
 ·grind
 ·rw[h1]
  have:=dB hr
  refine⟨⟨fun y hy=>?_,by simp;omega⟩,by simp⟩
  rcases List.mem_append.1 hy with hy|hy
  ·exact h.1 y hy
  grind
theorem yC:∀(ss:List (PS→Nat→PS→Prop)),(∀sp∈ss,∀x e y,sp x e y→kU x.1 y.1)→∀(x:PS) (e:Nat) (y:PS),jG ss x e y→y.1.aF.length≤x.1.aF.length+ss.length∧y.1.writes.length≤x.1.writes.length+ss.length
 | [],_,x,e,y,h=>by obtain⟨_,rfl⟩:=h;simp
 | sp::ss,hs,x,e,y,⟨e1,x1,h1,h2⟩=>by
  have hg:=hs sp (List.mem_cons_self ..) x e1 x1 h1
  unfold kU at hg
  rcases h2 with⟨_,_,rfl⟩|⟨_,h2⟩
  ·grind
  ·have:=yC ss (fun sp h=>hs sp (List.mem_cons_of_mem _ h)) x1 e y h2
   grind
theorem yp{nm:ByteArray}{ls:List (List UInt8)}{x y:PS}{e:Nat}(h:CB nm ls x e y):y.1.aF.length≤x.1.aF.length+7∧y.1.writes.length≤x.1.writes.length+7:=by
 have hg:=yC (ie nm ls x.1) (fun sp hX x e y hS=>by
  unfold ie at hX
  have key:sp=Eu (bU nm)∨sp∈[Ev (bU nm),Ju (bU nm) (cB ls),PM (bU nm),Et (bU nm) nm,Jv,ZM (ls.flatMap bB).length]:=by
   grind
  simp only[List.mem_cons,List.not_mem_nil,or_false]at key
  rcases key with rfl|rfl|rfl|rfl|rfl|rfl|rfl
  ·obtain⟨⟨h1,h2⟩,_⟩:=hS;rw[h2];exact se _ _ _
  ·obtain⟨⟨f,_,h1,h2⟩,_⟩:=hS;rw[h2];exact sf _ _ _ _
  ·obtain⟨⟨h1,h2⟩,_⟩:=hS;rw[h2];exact lr _ _ _ _ _
  ·obtain⟨⟨h1,h2⟩,_⟩:=hS;rw[h2];exact lu _ _ _
  ·obtain⟨⟨h1,h2⟩,_⟩:=hS;rw[h2];exact sd _ _ _ _
  ·obtain⟨⟨h1,h2⟩,_⟩:=hS;rw[h2];exact kK _
  ·obtain⟨h1,h2⟩:=hS;rw[h2];exact⟨by simp,by simp⟩) x e y h
 grind [ie]
theorem vg{A A':Ab}{nm:ByteArray}{e:Nat}{j:JN}(h:mD A nm e A' j):A'.aF.length≤A.aF.length+7∧A'.writes.length≤A.writes.length+7:=by
 unfold mD at h
 split at h
 ·grind
 split at h
 ·grind
 obtain⟨y,hy,rfl,_⟩:=h
 exact yp hy
theorem NL(s:fW)(z:TC × List (List UInt8))(hz:k7 z.1)(i:Nat)(hi:i≤1000000000000):(∀x∈(nX s z i).2,x∈z.2∨x.length≤760)∧(nX s z i).2.length≤z.2.length+1:=by
 unfold nX
 split
 ·split
  ·grind
  ·refine⟨fun x hx=>?_,by simp⟩
   rcases List.mem_append.1 hx with hx|hx
   ·exact .inl hx
   ·right
    rw[List.mem_singleton.1 hx]
    have qO:((z.1.pf i).getD []).length≤10:=by
     cases hp:z.1.pf i with
     | none=>simp
     | some l=>exact hz.2.2.2 _ l hp
    have:=jA 2 z.1.x.d (gy i ((z.1.pf i).getD [])) (by simp[gy];omega) (nh i hi _)
    grind [bQ,gy]
 grind
theorem Dw(s:fW)(c:TC)(hc:k7 c)(hr:bP c.x=true):∀k,k≤1024→(∀x∈(jl s c k).2,x.length≤760)∧(jl s c k).2.length≤k+1
 | 0,_=>by
  refine⟨fun x hx=>?_,by simp[jl]⟩
  have:x=cm c.x:=by simpa[jl]using hx
  rw[this]
  have hb:=dB hr
  have:=jA 1 c.x.d (jv c.x) (by simp[jv]) (nC c.x aj aj)
  unfold cm
  omega
 | k+1,hk=>by
  obtain⟨h1,h2⟩:=Dw s c hc hr k aj
  rw[nq]
  obtain⟨h3,h4⟩:=NL s (jl s c k) (hc.hold k) k aj
  grind
theorem NM(s:fW)(c:TC)(h:Pc c):(∀x∈(lU s c).2,x.length≤760)∧(lU s c).2.length≤1025:=by
 obtain⟨h1,h2⟩:=Dw s c h.1 h.2 c.n h.1.1
 have:=h.1.1
 grind [lU]
theorem Bo:∀(ls:List (List UInt8)) (n:Nat),(∀x∈ls,x.length≤760)→ls.length≤n→(ls.flatMap bB).length≤770*n
 | [],n,_,_=>by simp
 | x::ls,n,h,hn=>by
  rw[List.length_cons]at hn
  have:=Bo ls (n-1) (fun y hy=>h y (List.mem_cons_of_mem _ hy)) aj
  grind [sg]
end Go.Proofs.YtlionahpheehaaaGreatDoor
