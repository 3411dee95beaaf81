import Derived.Test.YtlcoaflddajjcaaGreatDoorQNF3
import Derived.Test.YtlcoaflddajjcaaGreatDoorQNF5
import Derived.Test.YtlcoaflddajjcaaGreatDoorQNF6
import Derived.Test.YtlcoaflddajjcaaGreatDoorQNF7
import Derived.Test.YtlcoaflddajjcaaGreatDoorQNF9
import Derived.Test.YtlcoaflddajjcaaGreatDoorQNF10
set_option linter.unusedSimpArgs false
set_option linter.unusedVariables false
set_option maxHeartbeats 4000000
set_option maxRecDepth 20000
set_option linter.defProp false
namespace Go.Proofs.YtlcoaflddajjcaaGreatDoor
open Go Go.SL
attribute [local irreducible] J K au Ends ae aB aI bB aW aS a7 aX bF aC LI uq
theorem DW(jb bd:Nat)(name:ByteArray)(Hj:name.size≤1000000000)(A:Ab)(x:JN)(V:HP)(lv:Value)(ls:List (List UInt8))(hv:qN V lv ls)(hl:(ls.flatMap cQ).length≤100000000)(hn:ls.length≤1000000000)(dK:A.aV.length≤900000000)(xV:A.writes.length≤900000000) :
    au Tryz.prog 66 [ptr jb,lv] [aC bd A,kx jb bd name x,V]
      (fun r H=>∃(e:Nat) (A':Ab) (x':JN),r = .int .i64 (e:Int)∧H=[aC bd A',kx jb bd name x',V]∧sD name A x ls e A' x'):=by
  obtain⟨n,s,c,bk⟩:=x
  have mU:=hv
  obtain⟨cs,cW,mX,⟨a,cc,rfl,hcc⟩,qf⟩:=hv
  dsimp only [kx,jr]
  refine au.ak Tryz.func66 Tryz.ntmps66 fun G F R hE=>?_
  unfold sD at hE
  cases bk with
  | true =>
    simp only[if_true]at hE
    refine go ?_
    refine ad hE Tryz.func66 zr zr ⟨10,_,⟨n,s,c,true⟩,rfl,rfl,rfl,rfl,rfl⟩
  | false =>
    simp only[Bool.false_eq_true,if_false]at hE
    refine go ?_
    refine bj (fun i:Nat=>i≤ls.length∧∀(j:Nat) (y:List UInt8),j<i→ls[j]?=some y→y.length≤4096) (fun i=>ls.length-i)
      (fun i=>[(0,ptr jb),(0+1,.slice a ls.length cc),(5,.int .i64 (((ls.take i).flatMap cQ).length:Int)),(12,.slice a ls.length cc),(13,.int .i64 ls.length),(14,.int .i64 (i:Int))])
      (fun _=>aC bd A::ae jb (cl [ptr bd,.string name,.int .i64 n,.int .i64 s,.int .i64 c,.bool false] 250)::V::F) 0 ⟨Nat.zero_le _,fun j y hj=>by omega⟩ rfl bS ag ?_
    rintro i⟨hi,xW⟩ ih
    refine go ?_
    refine aq zr zr ?_ ?_
    case' refine_1 =>
      intro cL
      have KL:i<ls.length:=by omega
      obtain⟨y,hy⟩:∃y,ls[i]?=some y:=⟨ls[i],by simp⟩
      obtain⟨cv,qg,hby⟩:=qf i y hy
      obtain⟨b1,o1,k1,u3⟩:=cW.some (by intro e;rw[e]at qg;simp at qg)
      simp only[Value.slice.injEq,true_and]at u3
      obtain⟨rfl,rfl⟩:=u3
      obtain⟨ay,ky,rfl,hky⟩:=hby.2
      have Ec:=zD hy
      have sM:((ls.take (i+1)).flatMap cQ).length=((ls.take i).flatMap cQ).length+(cQ y).length:=by rw[Ec,List.length_append]
      have hle:=HD ls (i+1)
      refine go ?_
      refine bp i zr zr zr zr zr zr zr zr KL ?_
      refine aQ 2 i zr zr zr cW rfl qg zr zr (go ?_)
      refine aq zr zr ?_ ?_
      · intro qE
        have lC:(ls.any fun b=>decide (4096<b.length))=true:=List.any_eq_true.2 ⟨y,List.mem_of_getElem? hy,decide_eq_true ai⟩
        simp only[if_pos lC]at hE
        refine go ?_
        refine ad hE Tryz.func66 zr zr ⟨1,_,⟨n,s,c,false⟩,rfl,rfl,rfl,rfl,rfl⟩
      intro nD
      have aeY:=w5 y ai
      refine go ?_
      refine aF (oY V _ y hby ai) ?_
      rintro r _ rfl
      refine aH 0 rfl ?_
      rintro ra rc rfl
      refine go ?_
      ((refine bq 5 ((.int .i64 (((ls.take (i+1)).flatMap cQ).length:Int))) rfl ((congrArg (Value.int .i64) (by rw[sM];simp))) ?_))
      refine go ?_
      refine aM ih (i+1) rfl (⟨ai,fun j z hj hz=>by
        rcases Nat.lt_or_ge j i with h|h
        · exact xW j z h hz
        · have:j=i:=by omega
          subst this
          rw[hy]at hz;cases hz;omega⟩) ai bS ag
    intro ep
    have qY:i=ls.length:=by omega
    subst qY
    rw[List.take_length]
    have lC:¬(ls.any fun b=>decide (4096<b.length))=true:=fun h=>by
      obtain⟨y,hy,hb⟩:=List.any_eq_true.1 h
      obtain⟨j,hj,rfl⟩:=List.getElem_of_mem hy
      have:=xW j _ ai (List.getElem?_eq_getElem hj)
      grind
    simp only[if_neg lC]at hE
    refine go ?_
    refine aq zr zr ?_ ?_
    · intro qE
      have rR:524288<(ls.flatMap cQ).length:=by omega
      simp only[if_pos rR]at hE
      refine go ?_
      refine ad hE Tryz.func66 zr zr ⟨3,_,⟨n,s,c,false⟩,rfl,rfl,rfl,rfl,rfl⟩
    intro nD
    have rR:¬524288<(ls.flatMap cQ).length:=by omega
    simp only[if_neg rR]at hE
    refine go ?_
    refine aF (GY jb bd name n s c false A V _ ls mU ai hn Hj dK xV) ?_
    rintro _ _⟨e,⟨A',n',s',c'⟩,rfl,rfl,ym⟩
    refine go ?_
    refine aw (qJ jb bd name n' s' c' false e) ?_
    refine go ?_
    refine ad hE Tryz.func66 zr zr ⟨e,A',⟨n',s',c',decide (e≠0)⟩,rfl,rfl,_,ym,rfl,rfl⟩
end Go.Proofs.YtlcoaflddajjcaaGreatDoor
namespace Go.Proofs.YtlcoaflddajjcaaGreatDoor
open Go Go.SL
def js(b:List UInt8):Option (UInt8 × Dg × List (List UInt8)):=match nW b with
 | some (x1::x2::l)=>if((x1::x2::l).getLast?.map (·.1))=some ((2+l.length:Nat):Int)∧x1.2.length=1∧x2.2.length=32 then some (x1.2.headD 0,tF x2.2,l.map (·.2))else none
 | _=>none
def qw(b:List UInt8):Option Nat:=(cY b).bind fun n=>if n≤1048576 then some n else none
def gC(b:List UInt8):Option Dg:=if b.length=32 then some (tF b)else none
def Cw(n:Nat):Int:=IntKind.u64.wrap ((BitVec.ofInt IntKind.u64.bits (n:Int) &&& BitVec.ofInt IntKind.u64.bits 4294967295).toNat:Int)
theorem zk(n:Nat):∃k:Nat,Cw n=k∧k<4294967296∧(n≤1048576→k=n):=by
 have e1:(BitVec.ofInt IntKind.u64.bits (4294967295:Int)).toNat=4294967295:=by decide
 obtain⟨k,hk⟩:∃k,k=(BitVec.ofInt IntKind.u64.bits (n:Int) &&& BitVec.ofInt IntKind.u64.bits 4294967295).toNat:=⟨_,rfl⟩
 have hle:k≤4294967295:=by
  rw[hk,BitVec.toNat_and,e1]
  exact Nat.and_le_right
 refine⟨k,?_,ai,fun hn=>?_⟩
 ·grind [Cw,dx,fz]
 ·rw[hk,BitVec.toNat_and,e1]
  have e2:(BitVec.ofInt IntKind.u64.bits (n:Int)).toNat=n:=by
   grind
  rw[e2,show(4294967295:Nat)=2 ^ 32-1 from rfl,Nat.and_two_pow_sub_one_eq_mod]
  grind
attribute [local irreducible] J K au Ends ae aB aI bB aW aS a7 aX bF Sha.chunks Sha.chunk Sha.rounds Sha.sched ej cz dq Cw
def oB(X:HP)(v:Value)(b:List UInt8)(hb:ew X v b)(hl:b.length≤1000000) :
  au Tryz.prog 130 [v] [X] (fun r H=>H=[X]∧∃k:Nat,k<4294967296∧r = .tuple #[.int .i64 (k:Int),.bool (qw b).isSome]∧∀m,qw b=some m→k=m):=by
 have htu:=ll X v b hb ai
 refine au.ak Tryz.func130 Tryz.ntmps130 fun G F R hE=>?_
 refine go ?_
 refine aw htu ?_
 unfold qw at hE
 cases hu:cY b with
 | none =>
  rw[hu]at hE
  obtain⟨k,BD,AU,_⟩:=zk 0
  refine go ?_
  ((refine aG 12 ((.int .u64 (k:Int))) rfl ((congrArg (Value.int .u64) (by rw[← BD];unfold Cw;rfl))) ?_))
  refine go ?_
  (refine ad hE Tryz.func130 zr zr ⟨rfl,k,AU,rfl,fun m h=>by cases h⟩)
 | some n =>
  rw[hu]at hE
  simp only[Option.bind_some]at hE ⊢
  obtain⟨k,BD,AU,hk3⟩:=zk n
  refine go ?_
  ((refine aG 12 ((.int .u64 (k:Int))) rfl ((congrArg (Value.int .u64) (by rw[← BD];unfold Cw;rfl))) ?_))
  refine go ?_
  by_cases hn:n≤1048576
  ·rw[if_pos hn]at hE
   refine bq 3 ((.bool true)) rfl ((congrArg Value.bool (decide_eq_true ai))) (go ?_)
   ((refine ad hE Tryz.func130 zr zr ⟨rfl,k,AU,rfl,fun m h=>by injection h with h;rw[← h];exact hk3 hn⟩))
  ·rw[if_neg hn]at hE
   refine bq 3 ((.bool false)) rfl ((congrArg Value.bool (decide_eq_false ai))) (go ?_)
   (refine ad hE Tryz.func130 zr zr ⟨rfl,k,AU,rfl,fun m h=>by cases h⟩)
def tl(X:HP)(v:Value)(b:List UInt8)(hb:ew X v b)(hl:b.length≤1000000) :
  au Tryz.prog 131 [v] [X] (fun r H=>H=[X]∧r = .tuple #[dV ((gC b).getD Dg.zero),.bool (gC b).isSome]):=by
 obtain⟨cW,a,c,rfl,hc⟩:=hb
 refine au.ak Tryz.func131 Tryz.ntmps131 fun G F R hE=>?_
 refine aD rfl ?_
 refine az zr zr zr bh ?_
 intro b2
 unfold gC at hE
 refine go ?_
 refine aq zr zr ?_ ?_
 ·intro fu
  rw[if_neg ai]at hE
  refine go ?_
  refine gH (U:=aU) zr zr zr zr zr (go ?_)
  (refine a6 hE ?_;apply aZ (U:=aU) hE Tryz.func131 rfl (ao.refl _);(repeat(first|exact aR.nil|apply aR.tmp rfl|apply aR.agg 0 zr zr zr zr zr));exact⟨rfl,rfl⟩;exact ag)
 ·intro heq
  have h32:b.length=32:=by omega
  rw[if_pos h32]at hE
  rw[w7 h32]at cW
  obtain⟨bb,oo,cc,he⟩:=cW.some (by intro h;have:=congrArg List.length h;rw[mf]at this;cases this)
  obtain⟨rfl,rfl⟩:=he
  refine go ?_
  refine Ad (U:=aU) zr zr zr zr ai (go ?_)
  refine aP ?_
  refine cd (U:=aU) (es:=dC (tF b)) 1 0 zr zr zr cW rfl (fun j v hj=>by rw[Nat.zero_add];exact hj) zr zr zr ?_
  refine go ?_
  (refine a6 hE ?_;apply aZ (U:=aU) hE Tryz.func131 rfl (ao.refl _);(repeat(first|exact aR.nil|apply aR.tmp rfl|apply aR.agg 0 zr zr zr zr zr));exact⟨rfl,rfl⟩;exact ag)
def EN{b:List UInt8}(h:nW b=none):js b=none:=by unfold js;rw[h]
theorem Ci{b:List UInt8}{xs:List (Int × List UInt8)}(h:nW b=some xs)(hl:xs.length<2):js b=none:=by
 grind [js]
theorem IC{b:List UInt8}{n1 n2:Int}{b1 b2:List UInt8}{l:List (Int × List UInt8)}{n:Int}(h:nW b=some ((n1,b1)::(n2,b2)::l))(hn:(((n1,b1)::(n2,b2)::l).getLast?.map (·.1))=some n) :
  js b=if n=((2+l.length:Nat):Int)∧b1.length=1∧b2.length=32 then some (b1.headD 0,tF b2,l.map (·.2))else none:=by
 grind [js]
def qN.ofP{X:HP}{a:Option Addr}{c:Nat}{ls:List (List UInt8)}{cs:List Value}(hv:Vw (aB 22 1 (.slice a ls.length c) ls.length cs) (.slice a ls.length c) ls.length cs)(hc:ls.length≤c)(hl:cs.length=ls.length)(qh:∀(j:Nat) (z:List UInt8),ls[j]?=some z→∃cv,cs[j]?=some cv∧ew X cv z):qN (Sep [aB 22 1 (.slice a ls.length c) ls.length cs,X]) (.slice a ls.length c) ls :=
  ⟨cs,hv.mono (bn (i:=0) rfl),hl,⟨a,c,rfl,hc⟩,fun i x hx=>by
    obtain⟨cv,h1,h2⟩:=qh i x hx
    exact⟨cv,h1,h2.mono (bn (i:=1) rfl)⟩⟩
def C1(l:List It):l.map It.v=l.flatMap fun x=>[x.v]:=by induction l with|nil=>rfl|cons x l ih=>simp[ih]
theorem IE(X:HP)(v:Value)(b:List UInt8)(hb:ew X v b)(hl:b.length≤1000000) :
  au Tryz.prog 128 [v] [X] (fun r H=>(js b=none∧(∃(k:UInt8) (d:Dg) (a:Option Addr) (n c:Nat),r = .tuple #[u8 k,dV d,.slice a n c,.bool false])∧H=[X]) ∨
   ∃k d more mv Z,js b=some (k,d,more)∧qN Z mv more∧(∀x∈more,x.length≤65536)∧more.length≤65536∧r = .tuple #[u8 k,dV d,mv,.bool true]∧H=[Z,X]):=by
 have htd:=l3 X v b hb ai
 obtain⟨a,c,rfl,hc⟩:=hb.2
 refine au.ak Tryz.func128 Tryz.ntmps128 fun G F R hE=>?_
 refine aD rfl (go ?_)
 refine az zr zr zr bh ?_
 intro b3
 refine go ?_
 refine aF htd ?_
 rintro _ _ (⟨hn,rfl,rfl⟩|⟨xs,dJ,Z0,rv,hs,nT,⟨cW,sL⟩,rfl,rfl,ra,rc,rfl,Oi⟩)
 ·have hd:=EN hn
  refine go ?_
  refine gH (U:=aU) zr zr zr zr zr (go ?_)
  (refine a6 hE ?_;apply aZ (U:=aU) hE Tryz.func128 rfl (ao.refl _);(repeat(first|exact aR.nil|apply aR.tmp rfl|apply aR.agg 1 zr zr zr zr zr));exact(.inl ⟨hd,⟨0,Dg.zero,none,0,0,rfl⟩,rfl⟩);exact ag)
 have hxm:=q8 hs
 have MB:dJ.length≤65536:=by
  have h1:xs.length≤65536:=by
   unfold nW at hs
   split at hs
   ·cases hs
   ·split at hs
    ·cases hs
     have:=q7 _ b (Nat.le_refl _)
     grind [dQ]
    ·cases hs
  grind
 by_cases h2:dJ.length<2
 ·have hd:=Ci hs (by rw[← nT,List.length_map];exact h2)
  refine go ?_
  refine aG 25 ((.bool true)) rfl ((congrArg Value.bool (decide_eq_true ai))) (go ?_)
  refine gH (U:=aU) zr zr zr zr zr (go ?_)
  (refine a6 hE ?_;apply aZ (U:=aU) hE Tryz.func128 rfl (ao.refl _);(repeat(first|exact aR.nil|apply aR.tmp rfl|apply aR.agg 2 zr zr zr zr zr));exact(.inl ⟨hd,⟨0,Dg.zero,none,0,0,rfl⟩,rfl⟩);exact ag)
 obtain⟨i1,i2,rest,yo⟩:∃i1 i2 rest,dJ=i1::i2::rest:=by
  match dJ,h2 with
  | i1::i2::rest,_=>exact⟨i1,i2,rest,rfl⟩
  | [],h=>exact absurd (by simp) h
  | [_],h=>exact absurd (by simp) h
 have hlen:dJ.length=rest.length+2:=by rw[yo];rfl
 obtain⟨lst,Za⟩:∃x,dJ[rest.length+1]?=some x:=⟨dJ[rest.length+1]' ai,by simp⟩
 have lN:((dJ.map It.p).getLast?.map (·.1))=some lst.n:=by
  rw[List.getLast?_eq_getElem?,List.length_map,List.getElem?_map,show dJ.length-1=rest.length+1 from by omega,Za]
  rfl
 obtain⟨rb,ro,rcc,he⟩:=cW.some (by rw[yo];intro h;simp[gY]at h)
 simp only[Value.slice.injEq,true_and]at he
 obtain⟨rfl,rfl⟩:=he
 have Jr:dJ[0]?=some i1:=by rw[yo];rfl
 have Hu:dJ[1]?=some i2:=by rw[yo];rfl
 have sO:=sL i1 (List.mem_of_getElem? Jr)
 have rR:=sL i2 (List.mem_of_getElem? Hu)
 have zp:(dJ.flatMap gY)[0*2+1]?=some i1.v:=cM fT Jr 1 ai
 have YR:(dJ.flatMap gY)[1*2+1]?=some i2.v:=cM fT Hu 1 ai
 have ir:(dJ.flatMap gY)[(rest.length+1)*2+0]?=some (.int .i64 lst.n):=cM fT Za 0 ai
 have Y':=hxm i2.p (by rw[← nT];exact List.mem_map.2 ⟨_,List.mem_of_getElem? Hu,rfl⟩)
 obtain⟨n1,v1,b1⟩:=i1
 obtain⟨n2,v2,b2⟩:=i2
 simp only at sO rR zp YR
 obtain⟨a1,c1,rfl,hc1⟩:=sO.2
 obtain⟨a2,c2,rfl,hc2⟩:=rR.2
 simp only[It.p]at Y'
 have hre:=IC (n1:=n1) (b1:=b1) (n2:=n2) (b2:=b2) (l:=rest.map It.p) (n:=lst.n) (by rw[hs,← nT,yo];rfl) (by rw[yo]at lN;exact lN)
 rw[List.length_map]at hre
 refine go ?_
 refine aG 25 ((.bool false)) rfl ((congrArg Value.bool (decide_eq_false ai))) (go ?_)
 refine bW (rest.length+1) 2 zr zr zr zr zr zr zr ai ai (go ?_)
 refine aP ?_
 refine aQ 0 ((rest.length+1)*2+0) zr zr zr cW (Nat.add_assoc _ _ _) ir zr zr (go ?_)
 by_cases Hk:lst.n=((2+rest.length:Nat):Int)
 case neg =>
  have hd:js b=none:=by rw[hre,if_neg (fun h=>Hk h.1)]
  refine aG 37 ((.bool true)) rfl ((congrArg Value.bool (decide_eq_true ai))) (go ?_)
  refine gH (U:=aU) zr zr zr zr zr (go ?_)
  (refine a6 hE ?_;apply aZ (U:=aU) hE Tryz.func128 rfl (ao.refl _);(repeat(first|exact aR.nil|apply aR.tmp rfl|apply aR.agg 2 zr zr zr zr zr));exact(.inl ⟨hd,⟨0,Dg.zero,none,0,0,rfl⟩,rfl⟩);exact ag)
 refine aG 37 ((.bool false)) rfl ((congrArg Value.bool (decide_eq_false ai))) (go ?_)
 refine bW 0 2 zr zr zr zr zr zr zr zr ai (go ?_)
 refine aP ?_
 refine aQ 0 (0*2+1) zr zr zr cW (Nat.add_assoc _ _ _) zp zr zr (go ?_)
 by_cases h1l:b1.length=1
 case neg =>
  have hd:js b=none:=by rw[hre,if_neg (fun h=>h1l h.2.1)]
  refine bq 44 ((.bool true)) rfl ((congrArg Value.bool (decide_eq_true ai))) (go ?_)
  refine gH (U:=aU) zr zr zr zr zr (go ?_)
  (refine a6 hE ?_;apply aZ (U:=aU) hE Tryz.func128 rfl (ao.refl _);(repeat(first|exact aR.nil|apply aR.tmp rfl|apply aR.agg 2 zr zr zr zr zr));exact(.inl ⟨hd,⟨0,Dg.zero,none,0,0,rfl⟩,rfl⟩);exact ag)
 obtain⟨kb,rfl⟩:∃k,b1=[k]:=by
  match b1,h1l with
  | [k],_=>exact⟨k,rfl⟩
 refine bq 44 ((.bool false)) rfl ((congrArg Value.bool (decide_eq_false (by simp)))) (go ?_)
 refine bW 1 2 zr zr zr zr zr zr zr zr ai (go ?_)
 refine aP ?_
 refine aQ 0 (1*2+1) zr zr zr cW (Nat.add_assoc _ _ _) YR zr zr (go ?_)
 refine aw (tl Z0 _ b2 rR ai) ?_
 unfold dV
 refine go ?_
 refine az zr zr zr bh ?_
 intro b8
 refine go ?_
 refine bw (p:=2) (q:=(dJ.length:Int)) zr zr zr zr zr zr zr ai ai (.inl rfl) ?_
 ((refine aG 55 ((.slice (sliceAt (some ⟨rb,ro,none⟩) rc 2 2) rest.length (rc-2))) rfl ((by rw[show(dJ.length:Int).toNat=rest.length+2 from by omega,show(2:Int).toNat=2 from rfl,show rest.length+2-2=rest.length by omega];rfl)) ?_))
 have CK:=cW.JM (s:=2) (bT fT _) Oi 2 ai
 have hdr:(dJ.flatMap gY).drop (2*2)=rest.flatMap gY:=by rw[yo];rfl
 rw[hdr,show dJ.length-2=rest.length from by omega]at CK
 have acf:∀x∈rest,ew Z0 x.v x.b:=fun x hx=>sL x (by rw[yo];simp[hx])
 have YP:∀x∈rest,x.b.length≤65536:=fun x hx=>hxm x.p (by rw[← nT,yo];simp;right;right;exact⟨x,hx,rfl⟩)
 clear YR ir Za lN Jr Hu hs nT sL hxm yo
 refine go ?_
 refine al (bg 22 1 none _) ?_
 obtain⟨dh,hdh⟩:∃d,d=(gC b2).getD Dg.zero:=⟨_,rfl⟩
 rw[← hdh]
 refine bj (fun y:Nat × Option Addr × Nat=>y.1≤rest.length) (fun y=>rest.length-y.1)
  (fun y=>[(3,ptr b3),(6,.slice (some ⟨rb,ro,none⟩) dJ.length rc),(8,ptr b8),(9,.bool (gC b2).isSome),(10,.slice y.2.1 y.1 y.2.2),(55,.slice (sliceAt (some ⟨rb,ro,none⟩) rc 2 2) rest.length (rc-2)),(56,.int .i64 (rest.length:Int)),(57,.int .i64 (y.1:Int))])
  (fun y=>aB 22 1 (.slice y.2.1 y.1 y.2.2) y.1 ((rest.take y.1).flatMap fun x=>[x.v])::Z0::X::ae b3 (cl (dC Dg.zero) 32)::ae b8 (cl (dC dh) 32)::F) (0,none,0) (Nat.zero_le _) rfl bS ag ?_
 rintro⟨j,ma,mc⟩ hj ih
 simp only at hj
 dsimp only
 refine go ?_
 refine aq zr zr ?_ ?_
 ·intro cL
  have p8:j<rest.length:=by omega
  obtain⟨it,Hr⟩:∃x,rest[j]?=some x:=⟨rest[j],by simp⟩
  have Ju:=acf it (List.mem_of_getElem? Hr)
  obtain⟨xn,xv,xb⟩:=it
  simp only at Ju
  obtain⟨va,vc,rfl,_⟩:=Ju.2
  have YY:sliceAt (some ⟨rb,ro,none⟩) rc 2 2=some ⟨rb,ro+4,none⟩:=by
   unfold sliceAt
   rw[if_neg ai]
   rfl
  rw[YY]at CK
  refine bq 55 (.slice (some ⟨rb,ro+4,none⟩) rest.length (rc-2)) rfl (by rw[YY]) (go ?_)
  refine bW j 2 zr zr zr zr zr zr zr zr p8 ?_
  refine aP ?_
  refine cd (U:=aU) (es:=gY ⟨xn,.slice va xb.length vc,xb⟩) 1 (j*2) zr zr zr CK rfl (fun q v hq=>?_) zr zr zr ?_
  ·rw[cM fT Hr q (by rcases Nat.lt_or_ge q 2 with h|h;exact h;rw[List.getElem?_eq_none (by rw[fT];exact h)]at hq;cases hq)];exact hq
  refine az zr zr zr bh ?_
  intro Dn
  refine go ?_
  refine aj (cs:=[.slice va xb.length vc]) zr zr zr zr zr zr zr zr zr bh ?_
  intro row
  refine go ?_
  have jl:(rest.take (j+1)).flatMap (fun x=>[x.v])=(rest.take j).flatMap (fun x=>[x.v])++[.slice va xb.length vc]:=by rw[List.take_add_one,Hr];simp
  refine aJ (mm:=1) (news:=[.slice va xb.length vc]) 2 0 rfl rfl rfl rfl rfl rfl rfl rfl rfl rfl rfl rfl (Vw.ae rfl) rfl (by intro v hv;simp at hv;rw[hv];rfl) ai (by show(_+_)*24≤_;omega) (fun _=>rfl) bh ?_
  intro v1
  rw[← jl]
  refine aH 2 rfl ?_
  rintro ja jc rfl
  refine go ?_
  refine bq 55 ((.slice (sliceAt (some ⟨rb,ro,none⟩) rc 2 2) rest.length (rc-2))) rfl ((by rw[YY])) ?_
  refine aM ih (j+1,ja,jc) rfl (by simp only;omega) (by simp only;omega) bS ag
 ·intro ep
  have Px:j=rest.length:=by omega
  subst Px
  rw[List.take_length]
  clear ih
  obtain⟨bb1,oo1,cc1,Q0⟩:=sO.1.some (by simp[bV])
  simp only[Value.slice.injEq,true_and]at Q0
  obtain⟨rfl,rfl⟩:=Q0
  have mH:Vw Z0 (.slice (some ⟨bb1,oo1,none⟩) 1 c1) 1 (bV [kb]):=sO.1
  have uB:(rest.map It.b).length=rest.length:=List.length_map ..
  refine pk 0 rfl ?_
  intro fY
  refine eh 0 rfl ?_
  intro I'
  have lz:qN (Sep [aB 22 1 (.slice ma rest.length mc) rest.length (rest.flatMap fun x=>[x.v]),Z0]) (.slice ma rest.length mc) (rest.map It.b):=by
   rw[← uB]at I' fY ⊢
   refine qN.ofP I' fY (by rw[← C1];simp) (fun i z hz=>?_)
   rw[List.getElem?_map]at hz
   cases hx:rest[i]? with
   | none=>rw[hx]at hz;cases hz
   | some y =>
    rw[hx]at hz
    injection hz with hz
    subst hz
    exact⟨y.v,by rw[← C1,List.getElem?_map,hx];rfl,acf y (List.mem_of_getElem? hx)⟩
  have hmb:(rest.map It.p).map (·.2)=rest.map It.b:=by rw[List.map_map];rfl
  rw[hmb]at hre
  have hdd:∀d,gC b2=some d→js b=some (kb,d,rest.map It.b):=fun d hd=>by
   grind [gC]
  have nE:gC b2=none→js b=none:=fun hd=>by
   grind [gC]
  refine go ?_
  refine aL (fun w=>Sat G w ([Z0,ae b8 (cl (dC dh) 32)])) (cJ 0 10 (.act 10 (.st 11 (.st 12 .nil)))) rfl ah ah ah dv ?_
  refine go ?_
  refine bW 0 2 zr zr zr zr zr zr zr zr ai (go ?_)
  refine aP ?_
  refine cO 0 (0*2+1) zr zr zr cW (Nat.add_assoc _ _ _) zp zr zr (go ?_)
  refine bp 0 zr zr zr zr zr zr zr zr (by simp) (go ?_)
  refine aP ?_
  refine cO 0 0 zr zr zr mH zr zr zr zr (go ?_)
  refine bX (U:=aU) (l:=dC dh) 1 zr zr zr zr zr zr (go ?_)
  refine aY ?_
  refine cH (U:=aU) (l':=dC dh) 3 dv rfl rfl rfl rfl (by intro e;cases e) (by rw[dW];exact kP _) rfl rfl rfl ?_
  refine go ?_
  refine al (H':=Sep [aB 22 1 (.slice ma rest.length mc) rest.length (rest.flatMap fun x=>[x.v]),Z0]::X::ae b3 (cl (dC dh) 32)::ae b8 (cl (dC dh) 32)::F) (ao.trans ag (ao.bK [aB 22 1 (.slice ma rest.length mc) rest.length (rest.flatMap fun x=>[x.v]),Z0] _)) ?_
  cases hhb:gC b2 with
  | none =>
   simp only[Option.isSome_none]
   (refine a6 hE ?_;apply aZ (U:=aU) hE Tryz.func128 rfl (ao.refl _);(repeat(first|exact aR.nil|apply aR.tmp rfl|apply aR.agg 2 zr zr zr zr zr));exact(.inl ⟨nE hhb,⟨kb,dh,_,_,_,rfl⟩,rfl⟩);exact ag)
  | some d =>
   rw[hhb]at hdh
   simp only[Option.getD_some]at hdh
   subst hdh
   simp only[Option.isSome_some]
   (refine a6 hE ?_;apply aZ (U:=aU) hE Tryz.func128 rfl (ao.refl _);(repeat(first|exact aR.nil|apply aR.tmp rfl|apply aR.agg 2 rfl rfl rfl rfl rfl));exact(.inr ⟨kb,dh,_,_,_,hdd dh hhb,lz,(fun x hx=>by obtain⟨y,hy,rfl⟩:=List.mem_map.1 hx;exact YP y hy),ai,rfl,rfl⟩);exact ag)
end Go.Proofs.YtlcoaflddajjcaaGreatDoor
namespace Go.Proofs.YtlcoaflddajjcaaGreatDoor
open Go Go.SL
def vL(n i:Nat):Int:=match ke n i with
 | some s=>(s:Int)
 | none => -1
theorem KS(n:Nat):n ^^^ 1=if n%2=1 then n-1 else n+1:=by
 have h1:=Nat.xor_div_two (a:=n) (b:=1)
 have h2:(n ^^^ 1)%2=(n+1)%2:=by
  rcases Nat.mod_two_eq_zero_or_one n with h|h
  ·have:=(Nat.xor_mod_two_eq_one (a:=n) (b:=1)).2 (by simp[h])
   omega
  ·have:=(Nat.xor_mod_two_eq_one (a:=n) (b:=1))
   grind
 grind
theorem KT(n:Nat)(h:n<1000000000):IntKind.i64.wrap ((BitVec.ofInt IntKind.i64.bits (n:Int) ^^^ BitVec.ofInt IntKind.i64.bits 1).toNat:Int)=((if n%2=1 then n-1 else n+1:Nat):Int):=by
 grind [AL,KS,dx,fz]
def bI:Nat→Nat→Nat→List (Nat × Nat)
 | 0,_,_=>[]
 | f+1,n,i=>if n≤1 then []else(n,i)::bI f ((n+1)/2) (i/2)
def rD:∀(f g n i:Nat),n≤f→n≤g→bI f n i=bI g n i
 | 0,0,_,_,_,_=>rfl
 | 0,g+1,n,i,hf,_=>by
  obtain rfl:n=0:=by omega
  rfl
 | f+1,0,n,i,_,hg=>by
  obtain rfl:n=0:=by omega
  rfl
 | f+1,g+1,n,i,hf,hg=>by
  unfold bI
  split
  ·rfl
  ·rw[rD f g ((n+1)/2) (i/2) ai ai]
theorem AG(f n i:Nat)(hf:n≤f)(hn:1<n):bI f n i=(n,i)::bI f ((n+1)/2) (i/2):=by
 rw[rD f (f+1) n i hf ai]
 grind [bI]
def Cl(f n i:Nat)(hn:n≤1):bI f n i=[]:=by
 cases f with
 | zero=>rfl
 | succ f=>unfold bI;rw[if_pos hn]
theorem qu:∀(f n i:Nat),i<n→∀p∈bI f n i,p.2<p.1∧p.1≤n
 | 0,_,_,_,p,h=>by cases h
 | f+1,n,i,hi,p,h=>by
  unfold bI at h
  split at h
  ·cases h
  ·rcases List.mem_cons.1 h with rfl|h
   ·grind
   ·obtain⟨h1,h2⟩:=qu f ((n+1)/2) (i/2) ai p h
    grind
def mQ(l:List (Nat × Nat)):Nat:=(l.filter fun p=>(ke p.1 p.2).isSome).length
theorem C9(l:List (Nat × Nat))(p:Nat × Nat):mQ (l++[p])=mQ l+if(ke p.1 p.2).isSome then 1 else 0:=by
 grind [mQ,ke]
theorem tG:∀(f n i:Nat),oZ f n i=mQ (bI f n i)
 | 0,_,_=>rfl
 | f+1,n,i=>by
  unfold oZ bI
  split
  ·rfl
  ·rw[tG f]
   grind [mQ,ke]
def vI(z:Dg × List Dg)(p:Nat × Nat):Dg × List Dg:=match ke p.1 p.2 with
 | none=>z
 | some s=>(if s<p.2 then iR (z.2.headD Dg.zero) z.1 else iR z.1 (z.2.headD Dg.zero),z.2.tail)
def o6(l:List (Nat × Nat))(z:Dg × List Dg):Dg × List Dg:=l.foldl vI z
def Nl(l:List (Nat × Nat))(p:Nat × Nat)(z:Dg × List Dg):o6 (l++[p]) z=vI (o6 l z) p:=by unfold o6;rw[List.foldl_append];rfl
theorem tI:∀(f n i:Nat) (x:Dg) (p:List Dg),xh f n i x p=(o6 (bI f n i) (x,p)).1
 | 0,_,_,_,_=>rfl
 | f+1,n,i,x,p=>by
  unfold xh bI
  split
  ·rfl
  ·unfold o6
   rw[List.foldl_cons]
   unfold vI
   cases h:ke n i with
   | none=>simp only;exact tI f _ _ _ _
   | some s=>simp only;exact tI f _ _ _ _
theorem Db:∀(l:List (Nat × Nat)) (z:Dg × List Dg),(o6 l z).2.length=z.2.length-mQ l
 | [],z=>rfl
 | p::l,z=>by
  have:=Db l (vI z p)
  grind [o6,vI,mQ,ke]
theorem HN(l:List (Nat × Nat))(j:Nat):mQ (l.take j)≤mQ l:=by
 conv=>rhs;rw[← List.take_append_drop j l]
 grind [mQ]
attribute [local irreducible] J K au Ends ae aB aI bB aW aS a7 aX bF Sha.chunks Sha.chunk Sha.rounds Sha.sched ej cz dq iR
def kY(n i:Int):Bool:=decide (1≤n∧n≤1024∧0≤i∧i<n)
def wm(n i:Int):au Tryz.prog 344 [.int .i64 n,.int .i64 i] [] (fun r H=>r = .bool (kY n i)∧H=[]):=by
 have hF:(¬(1≤n∧n≤1024∧0≤i))→Value.bool false = .bool (kY n i):=fun h=>by unfold kY;rw[decide_eq_false ai]
 have hT:(1≤n∧n≤1024∧0≤i)→Value.bool (decide (i<n)) = .bool (kY n i):=fun h=>by unfold kY;exact congrArg Value.bool (decide_eq_decide.2 ai)
 refine au.ak Tryz.func344 Tryz.ntmps344 fun G F R hE=>?_
 repeat'(first|(with_reducible intro jg)|refine er ?_|refine dP zr zr zr zr ?_ ?_|fail)
 all_goals(first|((refine ad hE Tryz.func344 zr zr ⟨hF ai,rfl⟩))|((refine ad hE Tryz.func344 zr zr ⟨hT ai,rfl⟩)))
theorem xr(n i:Nat)(hi:i<n)(hn:n≤1000000):au Tryz.prog 346 [.int .i64 (n:Int),.int .i64 (i:Int)] [] (fun r H=>r = .int .i64 (vL n i)∧H=[]):=by
 refine au.ak Tryz.func346 Tryz.ntmps346 fun G F R hE=>?_
 have hx:=KT i ai
 refine go ?_
 refine aq zr zr ?_ ?_
 ·intro cL
  have hs:vL n i=((if i%2=1 then i-1 else i+1:Nat):Int):=by
   grind [vL,ke]
  refine go ?_
  refine ad hE Tryz.func346 zr zr ⟨congrArg (Value.int .i64) (hx.trans hs.symm),rfl⟩
 ·intro ep
  have hs:vL n i = -1:=by
   grind [vL,ke]
  refine go ?_
  refine ad hE Tryz.func346 zr zr ⟨congrArg (Value.int .i64) hs.symm,rfl⟩
def wb(n i:Int):au Tryz.prog 345 [.int .i64 n,.int .i64 i] [] (fun r H=>∃b1 b2,r = .func (.func 421) #[] #[ptr b1,ptr b2]∧H=[ae b1 (cl [.int .i64 n] 3),ae b2 (cl [.int .i64 i] 3)]):=by
 refine au.ak Tryz.func345 Tryz.ntmps345 fun G F R hE=>?_
 refine aD rfl ?_
 refine bu zr zr bh ?_
 intro b1
 refine bu zr zr bh ?_
 intro b2
 refine go ?_
 refine ad hE Tryz.func345 zr zr ⟨b1,b2,rfl,rfl⟩
theorem ui(b1 b2 n i:Nat)(hn:n≤1000000)(hi:i≤1000000)(l:Nat)(Lp:HP)(Inv:Nat→HP)(hy:∀j p,(bI n n i)[j]?=some p→bF Tryz.prog l [.int .i64 (p.1:Int),.int .i64 (p.2:Int)] [Lp,Inv j] (fun v H=>v = .bool true∧H=[Lp,Inv (j+1)])) :
  au Tryz.prog 421 [.func (.yield l) #[] #[],ptr b1,ptr b2] [Lp,Inv 0,ae b1 (cl [.int .i64 (n:Int)] 3),ae b2 (cl [.int .i64 (i:Int)] 3)] (fun _ H=>H=[Lp,Inv (bI n n i).length]):=by
 refine au.ak Tryz.func421 Tryz.ntmps421 fun G F R hE=>?_
 refine bj (fun y:Nat × Nat × Nat=>y.1≤n∧y.2.1≤i∧(bI n n i).drop y.2.2=bI n y.1 y.2.1∧y.2.2≤(bI n n i).length) (fun y=>y.1)
  (fun _=>[(0,.func (.yield l) #[] #[]),(1,ptr b1),(2,ptr b2)])
  (fun y=>Lp::Inv y.2.2::ae b1 (cl [.int .i64 (y.1:Int)] 3)::ae b2 (cl [.int .i64 (y.2.1:Int)] 3)::F) (n,i,0) ⟨Nat.le_refl _,Nat.le_refl _,rfl,Nat.zero_le _⟩ rfl bS ag ?_
 rintro⟨m,k,j⟩⟨hm,hk,hd,hj⟩ ih
 simp only at hm hk hd hj
 refine go ?_
 refine aq zr zr ?_ ?_
 ·intro MZ
  have MY:1<m:=by omega
  rw[AG n m k hm MY]at hd
  have hx:(bI n n i)[j]?=some (m,k):=by
   have:=congrArg (fun l=>l[0]?) hd
   grind
  have KK:=(List.getElem?_eq_some_iff.1 hx).1
  have Q3:(bI n n i).drop (j+1)=bI n ((m+1)/2) (k/2):=by
   have:=congrArg (fun l=>l.drop 1) hd
   simpa[List.drop_drop]using this
  refine go ?_
  refine kE zr zr zr (hy j (m,k) hx) ag ?_ jk
  rintro _ _⟨rfl,rfl⟩
  refine go ?_
  refine al (H':=ae b1 (cl [.int .i64 (m:Int)] 3)::ae b2 (cl [.int .i64 (k:Int)] 3)::Lp::Inv (j+1)::F) ag ?_
  refine aL (fun w=>Sat G w ([])) (.fork (.act 0 (.st 1 (.st 2 (.fork (.act 3 (.st 4 (.act 5 (.act 6 .nil)))) (.act 5 (.act 3 (.st 4 (.act 6 .nil)))))))) (.act 3 (.st 4 (.act 0 (.st 1 (.st 2 (.act 5 (.act 6 .nil)))))))) rfl ah ah ah dv ?_
  repeat'(first|refine er ?_|refine nM ?_ ?_|(refine lU ?_;refine iI zr zr zr ai ?_;first|(refine aG 8 (.int .i64 (((m+1)/2:Nat):Int)) rfl (congrArg (Value.int .i64) (by show((m:Int)+1)/2 ^ 1=_;omega)) ?_)|(refine aG 10 (.int .i64 ((k/2:Nat):Int)) rfl (congrArg (Value.int .i64) (by show(k:Int)/2 ^ 1=_;omega)) ?_))|(refine aY ?_;(refine bN 0 dv zr zr zr zr zr zr zr zr zr ?_)))
  all_goals(
   refine aM ih ((m+1)/2,k/2,j+1) rfl ⟨by simp only;omega,by simp only;omega,Q3,by simp only;omega⟩ (by simp only;omega) bS ag)
 ·intro ep
  have hz:bI n m k=[]:=Cl n m k ai
  have Px:j=(bI n n i).length:=by
   have:=congrArg List.length hd
   grind
  subst Px
  refine go ?_
  refine bL hE Tryz.func421 rfl _ zr zr ag
theorem Ag(n i:Int):au Tryz.prog 250 [.int .i64 n,.int .i64 i] [] (fun r H=>r = .int .i64 (je n i:Int)∧H=[]):=by
 refine au.ak Tryz.func250 Tryz.ntmps250 fun G F R hE=>?_
 refine go ?_
 refine az zr zr zr bh ?_
 intro b5
 refine go ?_
 refine aw (wm n i) ?_
 cases hr:kY n i with
 | false =>
  have hd:je n i=0:=by
   grind [je,kY]
  rw[hd]at hE
  refine go ?_
  refine ad hE Tryz.func250 zr zr ⟨rfl,rfl⟩
 | true =>
  have Oj:1≤n∧n≤1024∧0≤i∧i<n:=by unfold kY at hr;simpa using hr
  obtain⟨m,rfl⟩:∃m:Nat,n=m:=⟨n.toNat,ai⟩
  obtain⟨k,rfl⟩:∃m:Nat,i=m:=⟨i.toNat,ai⟩
  have hd:je (m:Int) (k:Int)=mQ (bI m m k):=by
   grind [je,tG]
  have tB:=qu m m k ai
  have CV:=tH (m:Int) (k:Int)
  rw[hd]at hE CV
  refine go ?_
  refine aF (wb (m:Int) (k:Int)) ?_
  rintro _ _⟨b1,b2,rfl,rfl⟩
  refine go ?_
  refine gG rfl ?_
  have M5:mQ ((bI m m k).take 0)=0:=rfl
  refine xI (Fr:=F) (Pre:=fun _ _=>[ae b5 (cl [.int .i64 (mQ ((bI m m k).take 0):Int)] 3),ae b1 (cl [.int .i64 (m:Int)] 3),ae b2 (cl [.int .i64 (k:Int)] 3)]) (fun _ _ Lp v H=>H=[Lp .ready none,ae b5 (cl [.int .i64 (mQ ((bI m m k).take (bI m m k).length):Int)] 3)]) rfl hE.1.1 rfl ?c (fun l r=>ag) ?jq
  case c =>
   intro l r
   refine ui b1 b2 m k ai ai l _ (fun j=>ae b5 (cl [.int .i64 (mQ ((bI m m k).take j):Int)] 3)) ?_
   rintro j⟨p,q⟩ hp
   obtain⟨h1,h2⟩:=tB _ (List.mem_of_getElem? hp)
   have jl:(bI m m k).take (j+1)=(bI m m k).take j++[(p,q)]:=by rw[List.take_add_one,hp];rfl
   have M4:mQ ((bI m m k).take (j+1))=mQ ((bI m m k).take j)+if(ke p q).isSome then 1 else 0:=by rw[jl,C9]
   have mX:=HN (bI m m k) j
   refine bF.IN zr zr ?_
   intro G2 F2 R2 hY
   refine go ?_
   refine gN rfl hY (go ?_)
   refine aw (xr p q h1 ai) ?_
   unfold vL
   cases hs:ke p q with
   | none =>
    rw[hs]at M4
    rw[M4]at hY
    refine go ?_
    refine fV hY rfl ag ⟨rfl,rfl⟩
   | some s =>
    rw[hs]at M4
    rw[M4]at hY
    refine go ?_
    refine fV hY rfl ag ⟨rfl,rfl⟩
  rintro l r v H' rfl
  refine⟨_,_,_,rfl,by decide,?_⟩
  rw[hE.1.2,List.take_length]
  refine go ?_
  (apply aZ (U:=aU) hE Tryz.func250 rfl ag;(repeat(first|exact aR.nil|apply aR.tmp rfl));exact⟨rfl,rfl⟩;exact ag)
end Go.Proofs.YtlcoaflddajjcaaGreatDoor
namespace Go.Proofs.YtlcoaflddajjcaaGreatDoor
open Go Go.SL
def Z7(b8 b9:Nat)(X:HP)(z:Dg × List Dg):HP:=fun h=>∃v:Value,Ot X v z.2∧Sep [ae b8 (cl (dC z.1) 32),ae b9 (cl [v] 50),X] h
def D2(b8 b9:Nat)(X:HP)(z:Dg × List Dg):∀h,Z7 b8 b9 X z h→∃v:Value,Ot X v z.2∧Sep [ae b8 (cl (dC z.1) 32),ae b9 (cl [v] 50),X] h:=fun h hs=>hs
def Bz{b8 b9:Nat}{X:HP}{z:Dg × List Dg}{v:Value}(hv:Ot X v z.2)(H:List HP):ao (ae b8 (cl (dC z.1) 32)::ae b9 (cl [v] 50)::X::H) (Z7 b8 b9 X z::H) :=
 ao.fold (A:=Z7 b8 b9 X z) (B:=[ae b8 (cl (dC z.1) 32),ae b9 (cl [v] 50),X]) fun h hs=>⟨h,sub.refl h,v,hv,hs⟩
def Ot.tail{X:HP}{a:Option Addr}{c:Nat}{x:Dg}{l:List Dg}(h:Ot X (.slice a (x::l).length c) (x::l)):Ot X (.slice (sliceAt a c 1 32) l.length (c-1)) l:=by
 obtain⟨hv,a',c',he,hc⟩:=h
 obtain⟨rfl,rfl⟩:=he
 have:=hv.JM (s:=32) (bT mf _) hc 1 (by simp)
 exact⟨this,_,_,rfl,by simp only[List.length_cons]at hc;omega⟩
attribute [local irreducible] J K au Ends ae aB aI bB aW aS a7 aX bF Sha.chunks Sha.chunk Sha.rounds Sha.sched ej cz dq iR Z7
theorem KA(X:HP)(hK:pY X)(root leaf:Dg)(n i:Int)(pv:Value)(proof:List Dg)(hp:Ot X pv proof) :
  au Tryz.prog 257 [dV root,.int .i64 n,.int .i64 i,dV leaf,pv] [X] (fun r H=>r = .bool (nH root n i leaf proof)∧H=[X]):=by
 have Fs:=hp
 obtain⟨hv,a,c,rfl,hc⟩:=hp
 refine au.ak Tryz.func257 Tryz.ntmps257 fun G F R hE=>?_
 refine aD rfl ?_
 refine bu zr zr bh ?_
 intro b5
 refine bu zr zr bh ?_
 intro b8
 refine bu zr zr bh ?_
 intro b9
 refine go ?_
 refine aL (fun w=>Sat G w ([ae b9 (cl [.slice a proof.length c] 50)])) (.st 0 (.st 1 (.act 2 (cJ 3 6 (.act 9 (.st 10 (.st 11 .nil))))))) rfl ah ah ah dv ?_
 refine go ?_
 refine bE (wm n i) ?_
 cases hr:kY n i with
 | false =>
  have hcf:nH root n i leaf proof=false:=by
   grind [nH,kY]
  rw[hcf]at hE
  refine go ?_
  (refine a6 hE ?_;apply aZ (U:=aU) hE Tryz.func257 rfl (ao.refl _);(repeat(first|exact aR.nil|apply aR.tmp rfl));exact⟨rfl,rfl⟩;exact ag)
 | true =>
  have Oj:1≤n∧n≤1024∧0≤i∧i<n:=by unfold kY at hr;simpa using hr
  refine go ?_
  refine bE (Ag n i) ?_
  refine go ?_
  refine dY zr zr ?_ ?_
  ·intro fu
   have hcf:nH root n i leaf proof=false:=by
    grind [nH]
   rw[hcf]at hE
   refine go ?_
   (refine a6 hE ?_;apply aZ (U:=aU) hE Tryz.func257 rfl (ao.refl _);(repeat(first|exact aR.nil|apply aR.tmp rfl));exact⟨rfl,rfl⟩;exact ag)
  intro heq
  have AW:proof.length=je n i:=by
   grind
  obtain⟨m,rfl⟩:∃m:Nat,n=m:=⟨n.toNat,ai⟩
  obtain⟨k,rfl⟩:∃m:Nat,i=m:=⟨i.toNat,ai⟩
  have hd:je (m:Int) (k:Int)=mQ (bI m m k):=by
   grind [je,tG]
  have tB:=qu m m k ai
  have hck:nH root (m:Int) (k:Int) leaf proof=decide ((o6 (bI m m k) (leaf,proof)).1=root):=by
   grind [nH,tI]
  rw[hck]at hE
  refine go ?_
  refine aF (wb (m:Int) (k:Int)) ?_
  rintro _ _⟨b1,b2,rfl,rfl⟩
  refine go ?_
  refine gG rfl ?_
  refine al (ao.pick [3,2,5] rfl) ?_
  refine al (Bz (z:=o6 ((bI m m k).take 0) (leaf,proof)) Fs _) ?_
  refine xI (Fr:=ae b5 (cl (dC root) 32)::F) (Pre:=fun _ _=>[Z7 b8 b9 X (o6 ((bI m m k).take 0) (leaf,proof)),ae b1 (cl [.int .i64 (m:Int)] 3),ae b2 (cl [.int .i64 (k:Int)] 3)]) (fun _ _ Lp v H=>H=[Lp .ready none,Z7 b8 b9 X (o6 ((bI m m k).take (bI m m k).length) (leaf,proof))]) rfl hE.1.1 rfl ?c (fun l r=>ag) ?jq
  case c =>
   intro l r
   refine ui b1 b2 m k ai ai l _ (fun j=>Z7 b8 b9 X (o6 ((bI m m k).take j) (leaf,proof))) ?_
   rintro j⟨p,q⟩ MJ
   obtain⟨h1,h2⟩:=tB _ (List.mem_of_getElem? MJ)
   have jl:(bI m m k).take (j+1)=(bI m m k).take j++[(p,q)]:=by rw[List.take_add_one,MJ];rfl
   have hcz:o6 ((bI m m k).take (j+1)) (leaf,proof)=vI (o6 ((bI m m k).take j) (leaf,proof)) (p,q):=by rw[jl,Nl]
   have Z9:=Db ((bI m m k).take j) (leaf,proof)
   have M4:mQ ((bI m m k).take (j+1))=mQ ((bI m m k).take j)+if(ke p q).isSome then 1 else 0:=by rw[jl,C9]
   have mX:=HN (bI m m k) (j+1)
   rw[hcz]
   obtain⟨z,hz⟩:∃z,z=o6 ((bI m m k).take j) (leaf,proof):=⟨_,rfl⟩
   rw[← hz]at Z9 ⊢
   refine bF.IN zr zr ?_
   intro G F2 R2 hY
   unfold vI at hY
   obtain⟨x,prf⟩:=z
   refine go ?_
   refine gN rfl hY ?_
   refine al (ao.pick [1] rfl) ?_
   refine cX (D2 b8 b9 X (x,prf)) ?_
   rintro v hdv
   refine go ?_
   refine aw (xr p q h1 ai) ?_
   unfold vL
   cases hs:ke p q with
   | none =>
    rw[hs]at M4 hY
    refine go ?_
    refine al (Bz (z:=(x,prf)) hdv _) ?_
    refine fV hY rfl ag ⟨rfl,rfl⟩
   | some s =>
    rw[hs]at M4 hY
    simp only[Option.isSome_some,if_true]at M4
    simp only at hY ⊢
    simp only at Z9
    obtain⟨p0,rest,rfl⟩:∃p0 rest,prf=p0::rest:=by
     cases prf with
     | nil=>rw[List.length_nil]at Z9;exfalso;omega
     | cons p0 rest=>exact⟨p0,rest,rfl⟩
    obtain⟨cW,a1,c1,rfl,hc1⟩:=hdv
    obtain⟨bb,oo,cc,he⟩:=cW.some (by rw[List.flatMap_cons];intro h;simp[dC]at h)
    obtain⟨rfl,rfl⟩:=he
    have uz:=Ot.tail ⟨cW,_,_,rfl,hc1⟩
    have ep:∀(q':Nat) (v:Value),(dC p0)[q']?=some v→((p0::rest).flatMap dC)[0+q']?=some v:=fun q' v hq=>by
     grind
    refine go ?_
    refine aq zr zr ?_ ?_
    ·intro cL
     have Jk:s<q:=by omega
     rw[if_pos Jk]at hY
     refine go ?_
     refine aL (fun w=>Sat G w ([ae b8 (cl (dC x) 32),ae b9 (cl [.slice (some ⟨bb,oo,none⟩) (p0::rest).length c1] 50),X])) (cJ 0 4 (.act 4 (.act 5 .nil))) rfl ah ah ah dv ?_
     (repeat(first|refine er ?_|refine bW 0 32 zr zr zr zr zr zr zr zr (by simp) ?_|refine bX (U:=aU) (l:=dC x) 0 zr zr zr zr zr zr ?_|(refine aP ?_;refine eC (U:=aU) (es:=dC p0) 2 0 zr zr zr cW rfl ep zr zr zr ?_)))
     refine bE (DB X hK p0 x) ?_
     refine aY ?_
     refine cH (U:=aU) (l':=dC (iR p0 x)) 1 e8 rfl rfl rfl rfl (by intro e;cases e) (by rw[dW];exact kP _) rfl rfl rfl ?_
     refine go ?_
     refine bw (p:=1) (q:=((p0::rest).length:Int)) zr zr zr zr zr zr zr ai (by simp only[List.length_cons];omega) (.inl rfl) ?_
     ((refine aG 52 ((.slice (sliceAt (some ⟨bb,oo,none⟩) c1 1 32) rest.length (c1-1))) rfl ((by rw[show((p0::rest).length:Int).toNat=rest.length+1 from by simp[List.length_cons],show(1:Int).toNat=1 from rfl,show rest.length+1-1=rest.length by omega];rfl)) ?_))
     refine go ?_
     refine al (ao.trans ag (Bz (z:=(iR p0 x,rest)) uz _)) ?_
     refine fV hY rfl ag ⟨rfl,rfl⟩
    ·intro cL
     have Jk:¬s<q:=by omega
     rw[if_neg Jk]at hY
     refine go ?_
     refine aL (fun w=>Sat G w ([ae b8 (cl (dC x) 32),ae b9 (cl [.slice (some ⟨bb,oo,none⟩) (p0::rest).length c1] 50),X])) (cJ 0 4 (.act 4 (.act 5 .nil))) rfl ah ah ah dv ?_
     (repeat(first|refine er ?_|refine bW 0 32 zr zr zr zr zr zr zr zr (by simp) ?_|refine bX (U:=aU) (l:=dC x) 0 zr zr zr zr zr zr ?_|(refine aP ?_;refine eC (U:=aU) (es:=dC p0) 2 0 zr zr zr cW rfl ep zr zr zr ?_)))
     refine bE (DB X hK x p0) ?_
     refine aY ?_
     refine cH (U:=aU) (l':=dC (iR x p0)) 1 e8 rfl rfl rfl rfl (by intro e;cases e) (by rw[dW];exact kP _) rfl rfl rfl ?_
     refine go ?_
     refine bw (p:=1) (q:=((p0::rest).length:Int)) zr zr zr zr zr zr zr ai (by simp only[List.length_cons];omega) (.inl rfl) ?_
     ((refine aG 52 ((.slice (sliceAt (some ⟨bb,oo,none⟩) c1 1 32) rest.length (c1-1))) rfl ((by rw[show((p0::rest).length:Int).toNat=rest.length+1 from by simp[List.length_cons],show(1:Int).toNat=1 from rfl,show rest.length+1-1=rest.length by omega];rfl)) ?_))
     refine go ?_
     refine al (ao.trans ag (Bz (z:=(iR x p0,rest)) uz _)) ?_
     refine fV hY rfl ag ⟨rfl,rfl⟩
  rintro l r v H' rfl
  refine⟨_,_,_,rfl,by decide,?_⟩
  rw[hE.1.2,List.take_length]
  refine cX (D2 b8 b9 X _) ?_
  rintro v -
  refine go ?_
  refine aO (U:=aU) (l:=dC (o6 (bI m m k) (leaf,proof)).1) 0 zr zr zr zr zr zr (go ?_)
  refine aO (U:=aU) (l:=dC root) 4 zr zr zr zr zr zr (go ?_)
  refine gQ (b:=decide ((o6 (bI m m k) (leaf,proof)).1=root)) zr zr zr yq (fun w=>yu _ root w) ?_
  refine go ?_
  (apply aZ (U:=aU) hE Tryz.func257 rfl ag;(repeat(first|exact aR.nil|apply aR.tmp rfl));exact⟨rfl,rfl⟩;exact ag)
def Fg(X:HP)(hK:pY X)(x:Bl)(i:Int)(bv:Value)(b:List UInt8)(hb:ew X bv b)(uC:b.length≤900000000)(pv:Value)(proof:List Dg)(hp:Ot X pv proof) :
  au Tryz.prog 144 [jU x,.int .i64 i,bv,pv] [X] (fun r H=>r = .bool (l6 x i b proof)∧H=[X]):=by
 have abN:=Dw x i
 have Zo:=tU x
 have hck:=KA X hK x.root (dq b) (dM x) i pv proof hp
 have hlf:=NR X hK bv b hb uC
 obtain⟨ba,bc,rfl,hbc⟩:=hb.2
 refine au.ak Tryz.func144 Tryz.ntmps144 fun G F R hE=>?_
 refine aD rfl ?_
 refine bu zr zr bh ?_
 intro b4
 refine go ?_
 refine aO (U:=aU) (l:=ck x) 0 zr zr zr zr zr zr (go ?_)
 refine aw abN ?_
 unfold l6 at hE
 cases Hc:rp x i with
 | none =>
  rw[Hc]at hE
  refine go ?_
  refine aL (fun w=>Sat G w ([ae b4 (cl (ck x) 77)])) (cJ 0 12 (.st 13 (.st 14 (.st 16 (.act 12 (.act 15 (.act 17 (.st 18 (.st 19 .nil))))))))) rfl ah ah ah dv ?_
  refine go ?_
  refine ad hE Tryz.func144 zr zr ⟨rfl,rfl⟩
 | some w =>
  obtain⟨at_,n⟩:=w
  rw[Hc]at hE
  simp only at hE ⊢
  refine go ?_
  refine aL (fun w=>Sat G w ([ae b4 (cl (ck x) 77)])) (cJ 0 12 (.st 13 (.st 14 (.st 16 (.act 12 (.act 15 (.act 17 (.st 18 (.st 19 .nil))))))))) rfl ah ah ah dv ?_
  refine go ?_
  by_cases hl:(b.length:Int)=n
  case neg =>
   rw[decide_eq_false hl,Bool.false_and]at hE
   refine aG 27 ((.bool false)) rfl ((congrArg Value.bool (decide_eq_false hl))) (go ?_)
   refine ad hE Tryz.func144 zr zr ⟨rfl,rfl⟩
  rw[decide_eq_true hl,Bool.true_and]at hE
  refine aG 27 ((.bool true)) rfl ((congrArg Value.bool (decide_eq_true hl))) (go ?_)
  refine cC (U:=aU) (cs:=dC x.root) 0 zr zr zr zr zr zr (go ?_)
  refine bX (U:=aU) (l:=ck x) 0 zr zr zr zr zr zr (go ?_)
  refine bE Zo ?_
  refine go ?_
  refine bE hlf ?_
  refine go ?_
  refine bE hck ?_
  refine go ?_
  refine ad hE Tryz.func144 zr zr ⟨rfl,rfl⟩
end Go.Proofs.YtlcoaflddajjcaaGreatDoor
namespace Go.Proofs.YtlcoaflddajjcaaGreatDoor
open Go Go.SL
structure TC where
 x:Bl
 n:Nat
 ws:List jM
 pf:Int→Option (List Dg)
def Tk.c(y:Tk):TC:=⟨y.x,y.n,y.ws,y.pf⟩
def kO(ts:List Tk):List TC:=ts.map Tk.c
namespace TC
def put(c:TC)(i:Nat)(l:List Dg):TC:=⟨c.x,c.n,nk c.ws i true,fun j=>if j=(i:Int)then some l else c.pf j⟩
def drop(c:TC)(i:Nat):TC:=⟨c.x,c.n,nk c.ws i false,fun j=>if j=(i:Int)then none else c.pf j⟩
end TC
def nG(x:Bl):TC:=⟨x,(dM x).toNat,List.replicate (((dM x).toNat+63)/64) 0#64,fun _=>none⟩
def pP:List (List UInt8)→Option (List Dg)
 | []=>some []
 | b::l=>match gC b,pP l with
  | some d,some ds=>some (d::ds)
  | _,_=>none
def oE(cs:List TC)(d:Dg)(m:List UInt8)(l:List (List UInt8)):List TC:=match qw m,pP l with
 | some i,some p=>cs.map fun y=>if y.x.d=d∧i<y.n∧p.length=je y.n i then y.put i p else y
 | _,_=>cs
def ON(cs:List TC)(d:Dg):List TC:=cs.filter fun y => !decide (y.x.d=d)
def fM(cs:List TC)(b:List UInt8):List TC:=match js b with
 | none=>cs
 | some (k,d,more) =>
  if k=3∧more=[]then ON cs d
  else match more with
   | [s,p,r]=>if k=1 then(match qw s,qw p,gC r with
     | some s,some p,some r=>if bJ ⟨d,s,p,r⟩then ON cs d++[nG ⟨d,s,p,r⟩]else cs
     | _,_,_=>cs)
    else if k=2 then oE cs d s [p,r]else cs
   | m::l=>if k=2 then oE cs d m l else cs
   | []=>cs
def cP(d:Dg)(i:Nat)(p:List Dg):List UInt8:=yf 2 d (uv i::p.map Dg.bs)
def mJ(s:ml)(z:TC × List (List UInt8))(i:Nat):TC × List (List UInt8) :=
 if rU z.1.ws z.1.n (i:Int)then(if(eO s z.1.x i).2≠0∨l6 z.1.x i (eO s z.1.x i).1 ((z.1.pf i).getD [])=false then(z.1.drop i,z.2)else(z.1,z.2++[cP z.1.x.d i ((z.1.pf i).getD [])]))else z
def ie(s:ml)(c:TC)(k:Nat):TC × List (List UInt8):=(List.range k).foldl (mJ s) (c,[cE c.x])
def ki(s:ml)(c:TC):TC × List (List UInt8):=ie s c c.n
def sj(q:Int):List TC→ml→List TC→List (List UInt8)→Nat→ml→List TC→List (List UInt8)→Prop
 | [],s,cs,rs,e,t,yv,GP=>e=0∧t=s∧yv=cs∧GP=rs
 | c::l,s,cs,rs,e,t,yv,GP=>∃e1 s1,e7 q c.x s e1 s1 ∧
  if e1=5∨e1=11 then sj q l s1 cs rs e t yv GP
  else if e1≠0 then e=e1∧t=s1
  else sj q l s1 (cs++[(ki s1 c).1]) (rs++(ki s1 c).2) e t yv GP
def Bp(q:Int)(s:ml)(e:Nat)(t:ml)(jn:JN)(cs:List TC):Prop :=
 ∃e1 A1 j1,ph s.A gm e1 A1 j1∧if e1≠0 then e=e1∧t=⟨A1,s.cq,s.brk⟩else
  ∃e2 s2 rs,sj q ((jT s.A gm).foldl fM []) ⟨A1,s.cq,s.brk⟩ [] [] e2 s2 cs rs∧if e2≠0 then e=e2∧t=s2 else
   ∃A3,sD gm s2.A j1 rs e A3 jn∧t=⟨A3,s2.cq,s2.brk⟩
def nC(s:ml)(c:TC)(k:Nat):ie s c (k+1)=mJ s (ie s c k) k:=by
 unfold ie
 rw[List.range_succ,List.foldl_append]
 rfl
theorem Pp(s:ml)(z:TC × List (List UInt8))(i:Nat):(mJ s z i).1.x=z.1.x∧(mJ s z i).1.n=z.1.n∧(mJ s z i).1.ws.length=z.1.ws.length:=by
 unfold mJ
 split
 ·split
  ·exact⟨rfl,rfl,mA _ _ _⟩
  grind
 grind
theorem Hh(s:ml)(c:TC):∀k,(ie s c k).1.x=c.x∧(ie s c k).1.n=c.n∧(ie s c k).1.ws.length=c.ws.length
 | 0=>⟨rfl,rfl,rfl⟩
 | k+1=>by
  rw[nC]
  obtain⟨h1,h2,h3⟩:=Pp s (ie s c k) k
  obtain⟨g1,g2,g3⟩:=Hh s c k
  grind
theorem HK(ts:List Tk):(kO ts).length=ts.length:=by simp[kO]
def jC(i:Nat)(l:List Dg):List (List UInt8):=uv i::l.map Dg.bs
def we(i:Nat)(hi:i≤1000000000000)(l:List Dg):∀b∈jC i l,b.length≤32:=fun b hb=>by
  rcases List.mem_cons.1 hb with rfl|hb
  · have := vt 5 i (by have : (128 : Nat) ^ 6 = 4398046511104 := by decide
                       omega)
    omega
  · obtain⟨d,_,rfl⟩:=List.mem_map.1 hb
    rw[d.len];omega
def Cm(i:Nat){l:List Dg}{j:Nat}{d:Dg}(h:l[j]?=some d):jC i (l.take (j+1))=jC i (l.take j)++[d.bs]:=by
 unfold jC
 rw[List.take_add_one,h]
 simp
structure Rws where
 cs:List Value
 Z:HP
def Bm(M:Rws)(ls:List (List UInt8)):Prop:=M.cs.length=ls.length∧∀(i:Nat) (x:List UInt8),ls[i]?=some x→∃cv,M.cs[i]?=some cv∧ew M.Z cv x
theorem Bm.add{M:Rws}{ls:List (List UInt8)}(h:Bm M ls){A:HP}{cv:Value}{x:List UInt8}(hx:ew A cv x):Bm ⟨M.cs++[cv],Sep [A,M.Z]⟩ (ls++[x]):=by
 obtain⟨h1,h2⟩:=h
 refine⟨by simp[h1],fun i y hy=>?_⟩
 rw[List.getElem?_append]at hy ⊢
 rw[h1]
 split at hy
 ·rename_i cL
  rw[if_pos cL]
  obtain⟨cv',h3,h4⟩:=h2 i y hy
  exact⟨cv',h3,h4.mono (bn (i:=1) rfl)⟩
 ·rename_i ep
  rw[if_neg ep]
  have h0:i-ls.length=0:=by
   grind
  rw[h0]at hy ⊢
  cases hy
  exact⟨cv,rfl,hx.mono (bn (i:=0) rfl)⟩
attribute [local irreducible] J K au Ends ae aB aI bB aW aS a7 aX bF aC
theorem IJ(d:Dg)(i:Nat)(hi:i≤1000000000000)(P:HP)(pv:Value)(l:List Dg)(hp:Vw P pv l.length (l.flatMap dC))(hl:l.length≤16) :
  au Tryz.prog 146 [dV d,.int .i64 (i:Int),pv] [P] (fun r H=>H=[aB 5 1 r (cP d i l).length (bV (cP d i l)),P]):=by
 obtain⟨a,c,rfl⟩:=hp.shape
 have hlen:=we i hi l
 refine au.ak Tryz.func146 Tryz.ntmps146 fun G F R hE=>?_
 refine aD rfl ?_
 refine bu zr zr bh ?_
 intro b3
 refine go ?_
 refine aF (lk i ai) ?_
 rintro r8 _ rfl
 refine aH 0 rfl ?_
 rintro a8 c8 rfl
 refine eZ (bs:=uv i) 0 rfl ?_
 intro Oo
 refine go ?_
 refine aj (cs:=[.slice a8 (uv i).length c8]) zr zr zr zr zr zr zr zr zr bh ?_
 intro row
 refine go ?_
 refine al (ef 22 1 row 1 1 [.slice a8 (uv i).length c8] [] _ rfl (Nat.le_refl _) (by simp)) ?_
 refine bj (fun y:Nat × Rws × Option Addr × Nat=>y.1≤l.length∧Bm y.2.1 (jC i (l.take y.1))) (fun y=>l.length-y.1)
  (fun y=>[(3,ptr b3),(7,.slice y.2.2.1 (y.1+1) y.2.2.2),(14,.slice a l.length c),(15,.int .i64 (l.length:Int)),(16,.int .i64 (y.1:Int))])
  (fun y=>aB 22 1 (.slice y.2.2.1 (y.1+1) y.2.2.2) (y.1+1) y.2.1.cs::y.2.1.Z::ae b3 (cl (dC d) 32)::P::F) (0,⟨[.slice a8 (uv i).length c8],aB 5 1 (.slice a8 (uv i).length c8) (uv i).length (bV (uv i))⟩,some ⟨row,0,none⟩,1) ⟨Nat.zero_le _,?_⟩ rfl bS ag ?_
 ·refine⟨rfl,fun j x hx=>?_⟩
  grind [jC]
 rintro⟨j,M,ma,mc⟩⟨hj,hM⟩ ih
 refine go ?_
 refine aq zr zr ?_ ?_
 ·intro cL
  have p8:j<l.length:=by omega
  obtain⟨x,hx⟩:∃x,l[j]?=some x:=⟨l[j],by simp⟩
  have jl:=Cm i hx
  obtain⟨bb,oo,cc,he⟩:=hp.some (by intro h;have:=congrArg List.length h;rw[bT mf]at this;simp at this;omega)
  obtain⟨rfl,rfl⟩:=he
  refine go ?_
  refine bW j 32 zr zr zr zr zr zr zr zr p8 ?_
  refine aP ?_
  refine cd (U:=aU) (es:=dC x) 3 (j*32) zr zr zr hp rfl (fun q v hq=>?_) zr zr zr ?_
  ·rw[cM mf hx q (by rcases Nat.lt_or_ge q 32 with h|h;exact h;rw[List.getElem?_eq_none (by rw[mf];exact h)]at hq;cases hq)];exact hq
  refine az zr zr zr bh ?_
  intro b9
  refine go ?_
  refine fW (U:=aU) zr zr zr zr zr ?_
  have wO:ew (ae b9 (cl (dC x) 32)) (.slice (some ⟨b9,0,none⟩) 32 32) x.bs:=ew.block x.len (dW x)
  have mX:=jV (ae b9 (cl (dC x) 32)) (.slice (some ⟨b9,0,none⟩) x.bs.length 32) x.bs (by have:=wO.1;rw[x.len]at this ⊢;exact this) (by rw[x.len];omega)
  rw[show(Value.slice (some ⟨b9,0,none⟩) x.bs.length 32)=Value.slice (some ⟨b9,0,none⟩) 32 32 from by rw[x.len]]at mX
  refine aF mX ?_
  rintro r9 _ rfl
  refine aH 0 rfl ?_
  rintro a9 c9 rfl
  refine eZ (bs:=x.bs) 0 rfl ?_
  intro PK
  refine go ?_
  refine aj (cs:=[.slice a9 x.bs.length c9]) zr zr zr zr zr zr zr zr zr bh ?_
  intro Iw
  refine go ?_
  refine aJ (mm:=1) (news:=[.slice a9 x.bs.length c9]) 3 0 rfl rfl rfl rfl rfl rfl rfl rfl rfl rfl rfl rfl (Vw.ae rfl) rfl (by intro v hv;simp at hv;rw[hv];rfl) ai (by show(_+_)*24≤_;omega) (fun _=>rfl) bh ?_
  intro v1
  refine aH 3 rfl ?_
  rintro ja jc rfl
  refine go ?_
  refine al (ao.pick [1,4,3,5,6] rfl) ?_
  refine al (ao.bK [aB 5 1 (.slice a9 x.bs.length c9) x.bs.length (bV x.bs),M.Z] _) ?_
  have CY:=hM.add PK
  rw[← jl]at CY
  refine aM ih (j+1,⟨M.cs++[.slice a9 x.bs.length c9],Sep [aB 5 1 (.slice a9 x.bs.length c9) x.bs.length (bV x.bs),M.Z]⟩,ja,jc) rfl ⟨by simp only;omega,CY⟩ ai bS ag
 ·intro ep
  have Px:j=l.length:=by omega
  subst Px
  rw[List.take_length]at hM
  have uB:(jC i l).length=l.length+1:=by simp[jC]
  refine pk 0 rfl ?_
  intro fY
  refine eh 0 rfl ?_
  intro I'
  have lz:qN (Sep [aB 22 1 (.slice ma (l.length+1) mc) (l.length+1) M.cs,M.Z]) (.slice ma (l.length+1) mc) (jC i l):=by
   rw[← uB]at I' fY ⊢
   exact qN.ofP I' fY hM.1 hM.2
  have Pg:=vY 2 d _ _ (jC i l) lz ai hlen
  refine al (ao.bK [aB 22 1 (.slice ma (l.length+1) mc) (l.length+1) M.cs,M.Z] _) (go ?_)
  refine aO (U:=aU) (l:=dC d) 1 zr zr zr zr zr zr ?_
  ((refine go ?_;(refine aF Pg ?_)))
  rintro rr _ rfl
  refine go ?_
  refine aK hE Tryz.func146 rfl _ zr zr ag
end Go.Proofs.YtlcoaflddajjcaaGreatDoor
namespace Go.Proofs.YtlcoaflddajjcaaGreatDoor
open Go Go.SL
def ac0(q:Int)(x:Bl)(ts:List Tk)(s:SJ)(br:Bool)(e:Nat)(vB:List Tk)(Oq:Bool)(t:SJ):Prop :=
 (br=true∧e=10∧vB=ts∧Oq=br∧t=s)∨(br=false∧(ts.any fun y=>decide (y.x.d=x.d))=true∧e=5∧vB=ts∧Oq=br∧t=s) ∨
 (br=false∧(ts.any fun y=>decide (y.x.d=x.d))=false∧Oq=xu e∧mh (Ap (e7 q x)::Mb (cE x)) s e t∧((e≠0∧vB=ts)∨(e=0∧∃y:Tk,y.c=nG x∧vB=ts++[y])))
attribute [local irreducible] J K au Ends ae aB aI bB aW aS a7 aX bF aC
def Dj(tb bs jb bd b2 b3:Nat)(q:Int)(hq:0≤q∧q≤1073741824)(mb:Nat)(tv:Value)(s:SJ)(x:Bl)(A B C:HP)(M6:py s.1.cq)(dK:s.1.A.aV.length≤900000000)(ir:s.1.A.writes.length≤900000000) :
  au Tryz.prog 279 [ptr b2,ptr b3] [sF tb bs jb tv false,da bs bd jb q mb (A::B::C::[ae b2 (cl [ptr tb] 92),ae b3 (cl (ck x) 77)]) s]
  (fun r H=>∃(e:Nat) (t:SJ),r = .int .i64 (e:Int)∧H=[sF tb bs jb tv false,da bs bd jb q mb (A::B::C::[ae b2 (cl [ptr tb] 92),ae b3 (cl (ck x) 77)]) t]∧Ap (e7 q x) s e t):=by
 have c0:=au.frame ([kx jb bd gm s.2]++[A,B,C]) (Di tb bs jb bd b2 b3 q hq mb tv s.1 x M6 dK ir)
 refine c0.conv ?_ ?_
 ·exact(ao.cons _ (Ej _)).trans ag
 ·rintro v H⟨H',⟨e,t,rfl,rfl,hC⟩,rfl⟩
  refine⟨[sF tb bs jb tv false,da bs bd jb q mb _ (t,s.2)],⟨e,_,rfl,rfl,hC,rfl⟩,?_⟩
  exact ao.trans ag (ao.cons _ (EJ _))
theorem Lu(tb bs jb bd:Nat)(tv:Value)(q:Int)(mb:Nat)(s:SJ)(g:FuncId)(cap:List Value)(c2 c3:Nat)(Z:HP)(Ys:List HP)(S:SJ→Nat→SJ→Prop)(a:Option Addr)(c:Nat)(b:List UInt8)(hb:ew Z (.slice a b.length c) b)(hl:b.length≤1000000)(m:Nat)(hm:m≤800000000)(hx:∀t,S s 0 t→SQ m 0 t)(hc:au Tryz.prog g cap [sF tb bs jb tv false,da bs bd jb q mb (ae c2 (cl [ptr tb] 92)::ae c3 (cl [.slice a b.length c] 22)::Z::Ys) s] (fun r H=>∃(e:Nat) (t:SJ),r = .int .i64 (e:Int)∧H=[sF tb bs jb tv false,da bs bd jb q mb (ae c2 (cl [ptr tb] 92)::ae c3 (cl [.slice a b.length c] 22)::Z::Ys) t]∧S s e t))(V:HP)(v:Value)(hv:Vw V v 3 (.func (.func g) #[] cap.toArray::rK c2 c3 jb)) :
  au Tryz.prog 281 [ptr tb,v] [V,sF tb bs jb tv false,da bs bd jb q mb (ae c2 (cl [ptr tb] 92)::ae c3 (cl [.slice a b.length c] 22)::Z::Ys) s]
  (fun r H=>∃(e:Nat) (t:SJ),r = .int .i64 (e:Int)∧H=[V,sF tb bs jb tv (xu e),da bs bd jb q mb (ae c2 (cl [ptr tb] 92)::ae c3 (cl [.slice a b.length c] 22)::Z::Ys) t]∧mh (S::Mb b) s e t):=by
 refine Ip (da bs bd jb q mb _) tb bs jb tv V v (.func (.func g) #[] cap.toArray::rK c2 c3 jb) hv (by simp[rK]) (S::Mb b) rfl (fun i y=>(i=0→y=s)∧(i=1→SQ m 0 y)∧(i=2→SQ m 1 y)) ?_ s ⟨fun _=>rfl,fun h=>by omega,fun h=>by omega⟩
 intro i fv S' yp hs
 match i,yp,hs with
 | 0,yp,hs =>
  cases yp
  cases hs
  refine⟨_,_,_,rfl,fun y hy=>?_⟩
  have:=hy.1 rfl
  subst this
  refine au.post hc ?_
  rintro v H⟨e,t,rfl,rfl,hS⟩
  exact⟨e,t,rfl,rfl,hS,fun h0=>⟨fun h=>absurd h ai,fun _=>hx t (by grind),fun h=>absurd h ai⟩⟩
 | 1,yp,hs =>
  cases yp
  cases hs
  refine⟨_,_,_,rfl,fun y hy=>?_⟩
  obtain⟨a1,⟨a2,a3⟩,a4,a5⟩:=hy.2.1 rfl
  refine au.post (IU tb bs jb bd c2 c3 tv q mb y Z Ys a c b hb hl ⟨a2,ai⟩ ai) ?_
  rintro v H⟨e,x',rfl,rfl,hS⟩
  exact⟨e,x',rfl,rfl,hS,fun _=>⟨fun h=>absurd h ai,fun h=>absurd h ai,fun _=>SQ.append ⟨a1,⟨a2,a3⟩,a4,a5⟩ hS⟩⟩
 | 2,yp,hs =>
  cases yp
  cases hs
  refine⟨_,_,_,rfl,fun y hy=>?_⟩
  obtain⟨a1,⟨a2,a3⟩,a4,a5⟩:=hy.2.2 rfl
  refine au.post (C8 tb bs jb bd tv q mb y _ a1 ⟨a2,ai⟩ ai ai) ?_
  rintro v H⟨e,x',rfl,rfl,hS⟩
  exact⟨e,x',rfl,rfl,hS,fun _=>⟨fun h=>absurd h ai,fun h=>absurd h ai,fun h=>absurd h ai⟩⟩
 | n+3,yp,hs=>cases hs
def Gy(tb bs jb bd:Nat)(tv:Value)(q:Int)(hq:0≤q∧q≤1073741824)(mb:Nat)(ts:List Tk)(br:Bool)(s:SJ)(x:Bl)(hl:ts.length≤1000000)(hs:0≤x.size∧x.size≤1000000000000)(hp:0≤x.piece∧x.piece≤1000000000000)(M6:py s.1.cq)(dK:s.1.A.aV.length≤900000000)(ir:s.1.A.writes.length≤900000000)(m:Nat)(hm:m≤800000000)(hx:∀t,Ap (e7 q x) s 0 t→SQ m 0 t) :
  au Tryz.prog 158 [ptr tb,jU x] (fq tb bs jb tv ts br++[da bs bd jb q mb [] s])
  (fun r H=>∃(e:Nat) (vB:List Tk) (qW:Value) (Oq:Bool) (t:SJ),r = .int .i64 (e:Int)∧H=fq tb bs jb qW vB Oq++[da bs bd jb q mb [] t]∧ac0 q x ts s br e vB Oq t):=by
 have Jv:=ql x hs hp
 have uC:(cE x).length≤1000000:=by
  have:=rB 1 x.d (lh x) (by simp[lh]) (qL x hs.2 hp.2)
  unfold cE;omega
 have hnt:=fun a n c=>IT tb bs jb tv a n c
 have BF:=zB x
 refine au.ak Tryz.func158 Tryz.ntmps158 fun G F R hE=>?_
 refine aD rfl ?_
 refine bu zr zr bh ?_
 intro b2
 refine bu zr zr bh ?_
 intro b3
 cases br with
 | true =>
  refine go ?_
  refine ad hE Tryz.func158 zr zr ⟨10,ts,tv,true,s,rfl,rfl,.inl ⟨rfl,rfl,rfl,rfl,rfl⟩⟩
 | false =>
 refine go ?_
 refine aH 3 rfl ?_
 rintro a c rfl
 refine aN (ao.pick [3,2,4,5,1] rfl) ?_
 refine dH 0 rfl ?_
 intro cW
 refine aN (ao.pick [2,5] rfl) ?_
 refine aN (ao.bK [bC ts,ae b3 (cl (ck x) 77)] _) ?_
 refine aw (uU (aB 158 1 (.slice a ts.length c) ts.length (ts.map df)) (Sep [bC ts,ae b3 (cl (ck x) 77)]) _ ts cW hl 278 [ptr b3] (fun y=>decide (y.x.d=x.d)) (fun y hy=>Dl ts x b3 y hy)) ?_
 refine aN (H':=Sep [bC ts,ae b3 (cl (ck x) 77)]::aB 158 1 (.slice a ts.length c) ts.length (ts.map df)::ae tb (cl [ptr bs,ptr jb,.slice a ts.length c,.bool false] 156)::da bs bd jb q mb [] s::ae b2 (cl [ptr tb] 92)::F) ag ?_
 refine aN (ao.bY [bC ts,ae b3 (cl (ck x) 77)] _) ?_
 cases lC:ts.any (fun y=>decide (y.x.d=x.d))with
 | true =>
  refine go ?_
  refine ad hE Tryz.func158 zr zr ⟨5,ts,_,false,s,rfl,rfl,.inr (.inl ⟨rfl,lC,rfl,rfl,rfl,rfl⟩)⟩
 | false =>
 refine go ?_
 refine gG rfl ?_
 refine sl 1 (fun y:(Option Addr × Nat) × (Option Addr × Nat) × Nat × Nat=>True) (fun y=>[(2,ptr b2),(3,ptr b3),(5,.slice y.1.1 3 y.1.2)]) (fun y=>aB 101 1 (.slice y.1.1 3 y.1.2) 3 ([.func (.func 279) #[] #[ptr b2,ptr b3] ]++rK y.2.2.1 y.2.2.2 jb)::aB 5 1 (.slice y.2.1.1 (cE x).length y.2.1.2) (cE x).length (bV (cE x))::ae y.2.2.1 (cl [ptr tb] 92)::ae y.2.2.2 (cl [.slice y.2.1.1 (cE x).length y.2.1.2] 22)::ae tb (cl [ptr bs,ptr jb,.slice a ts.length c,.bool false] 156)::aB 158 1 (.slice a ts.length c) ts.length (ts.map df)::bC ts::da bs bd jb q mb [] s::ae b2 (cl [ptr tb] 92)::ae b3 (cl (ck x) 77)::F) rfl ?_ ?_
 rotate_left
 ·intro tail
  refine aL (fun w=>Sat G w ([ae b2 (cl [ptr tb] 92),ae b3 (cl (ck x) 77)])) (.st 0 (.st 2 (.st 3 (.fork (.act 1 (.act 4 (.act 5 (.act 6 (.st 7 .nil))))) (.act 4 (.fork (.act 1 (.act 5 (.act 6 (.st 7 .nil)))) (.act 5 (.act 1 (.act 6 (.st 7 .nil)))))))))) rfl ah ah ah dv ?_
  refine go ?_
  refine bX (U:=aU) (l:=ck x) 1 zr zr zr zr zr zr ?_
  repeat'(first|refine nM ?_ ?_|(refine aj (cs:=[.func (.func 279) #[] #[ptr b2,ptr b3] ]) zr zr zr zr zr zr zr zr zr (fun _ w hw=>by exact hw.cu ag) ?_;intro r0)|(((refine cT Jv ?_));rintro _ _ rfl;((refine aH 0 rfl ?_));rintro a8 c8 rfl)|(((refine cT (hnt a8 (cE x).length c8) ?_));rintro _ _⟨c2,c3,row,rfl,rfl⟩)|fail)
  all_goals(
   refine aN (H':=ae r0 (cl [.func (.func 279) #[] #[ptr b2,ptr b3] ] 101)::ae row (cl (rK c2 c3 jb) 101)::aB 5 1 (.slice a8 (cE x).length c8) (cE x).length (bV (cE x))::ae c2 (cl [ptr tb] 92)::ae c3 (cl [.slice a8 (cE x).length c8] 22)::ae tb (cl [ptr bs,ptr jb,.slice a ts.length c,.bool false] 156)::aB 158 1 (.slice a ts.length c) ts.length (ts.map df)::bC ts::da bs bd jb q mb [] s::ae b2 (cl [ptr tb] 92)::ae b3 (cl (ck x) 77)::F) ag ?_
   refine aN (ef 101 1 r0 1 1 [.func (.func 279) #[] #[ptr b2,ptr b3] ] [] _ rfl (Nat.le_refl _) (by simp)) ?_
   refine aJ (mm:=2) (news:=rK c2 c3 jb) 0 1 rfl rfl rfl rfl rfl rfl rfl rfl rfl rfl rfl rfl (Vw.ae rfl) rfl (by intro v hv;simp[rK]at hv;rcases hv with rfl|rfl <;> rfl) ai (by show(_+_)*8≤_;omega) (fun _=>rfl) (fun _ w hw=>by exact hw.cu ag) ?_
   intro v1
   refine aH 0 rfl ?_
   rintro ja jc rfl
   refine oe ?_
   refine mi tail ((ja,jc),(a8,c8),c2,c3) rfl trivial bS ag)
 rintro⟨⟨ja,jc⟩,⟨a8,c8⟩,c2,c3⟩ -
 refine eh 0 rfl ?_
 intro sI
 refine qP (bs:=cE x) 1 rfl ?_
 intro Oo
 have me:=Lu tb bs jb bd (.slice a ts.length c) q mb s 279 [ptr b2,ptr b3] c2 c3 _ [ae b2 (cl [ptr tb] 92),ae b3 (cl (ck x) 77)] _ a8 c8 (cE x) Oo uC m hm hx (Dj tb bs jb bd b2 b3 q hq mb (.slice a ts.length c) s x _ _ _ M6 dK ir) _ _ sI
 refine al (ao.pick [8] rfl) (go ?_)
 refine aN (ao.pick [8,3,4,2,0,9] rfl) ?_
 refine aN (ZU bs bd jb q mb _ s _) ?_
 refine aF me ?_
 rintro _ _⟨e,t,rfl,rfl,hR⟩
 refine aN (H':=da bs bd jb q mb [ae c2 (cl [ptr tb] 92),ae c3 (cl [.slice a8 (cE x).length c8] 22),aB 5 1 (.slice a8 (cE x).length c8) (cE x).length (bV (cE x)),ae b2 (cl [ptr tb] 92),ae b3 (cl (ck x) 77)] t::ae tb (cl [ptr bs,ptr jb,.slice a ts.length c,.bool (xu e)] 156)::aB 158 1 (.slice a ts.length c) ts.length (ts.map df)::bC ts::F) ag ?_
 refine aN (Qf bs bd jb q mb _ t _) ?_
 by_cases he:e=0
 ·subst he
  refine aN (H':=aB 158 1 (.slice a ts.length c) ts.length (ts.map df)::ae tb (cl [ptr bs,ptr jb,.slice a ts.length c,.bool (xu 0)] 156)::ae b2 (cl [ptr tb] 92)::ae b3 (cl (ck x) 77)::bC ts::da bs bd jb q mb [] t::F) ag (go ?_)
  refine aL (fun w=>Sat G w ([ae tb (cl [ptr bs,ptr jb,.slice a ts.length c,.bool (xu 0)] 156),ae b2 (cl [ptr tb] 92),ae b3 (cl (ck x) 77)])) (cJ 0 6 (.act 6 (.act 7 (.act 8 (.st 9 (.st 10 (.act 11 .nil))))))) rfl ah ah ah dv ?_
  refine go ?_
  refine bX (U:=aU) (l:=ck x) 2 zr zr zr zr zr zr (go ?_)
  refine cT BF ?_
  rintro _ _⟨y,rfl,rfl,hy1,QH,hy3,hy4⟩
  refine go ?_
  refine aj (cs:=[ptr y.yb]) zr zr zr zr zr zr zr zr zr (fun _ w hw=>hw.cu ag) ?_
  intro r1
  refine go ?_
  refine aJ (mm:=1) (news:=[ptr y.yb]) 2 0 rfl rfl rfl rfl rfl rfl rfl rfl rfl rfl rfl rfl (Vw.ae rfl) rfl (by intro v hv;simp at hv;rw[hv];rfl) ai (by show(_+_)*8≤_;omega) (fun _=>rfl) (fun _ w hw=>hw.cu ag) ?_
  intro v1
  refine aH 2 rfl ?_
  rintro ka kc rfl
  refine go ?_
  have Ps:ts.map df++[ptr y.yb]=(ts++[y]).map df:=by simp[df]
  have uB:ts.length+1=(ts++[y]).length:=by simp
  have tB:=sT ts [] y
  rw[List.append_nil]at tB
  rw[Ps,uB]
  refine al (ao.pick [1,6,3,2,7] rfl) ?_
  refine al (tB _) ?_
  have O':y.c=nG x:=by
   unfold Tk.c nG
   rw[hy1,hy3,hy4,← QH,Int.toNat_natCast]
  refine ad hE Tryz.func158 zr zr ⟨0,ts++[y],_,xu 0,t,rfl,rfl,.inr (.inr ⟨rfl,lC,rfl,hR,.inr ⟨rfl,y,O',rfl⟩⟩)⟩
 ·refine aN (H':=ae tb (cl [ptr bs,ptr jb,.slice a ts.length c,.bool (xu e)] 156)::aB 158 1 (.slice a ts.length c) ts.length (ts.map df)::bC ts::da bs bd jb q mb [] t::F) ag (go ?_)
  refine aq zr zr ?_ ?_
  ·intro _
   refine go ?_
   refine ad hE Tryz.func158 zr zr ⟨e,ts,_,xu e,t,rfl,rfl,.inr (.inr ⟨rfl,lC,rfl,hR,.inl ⟨he,rfl⟩⟩)⟩
  ·intro h;exfalso;omega
end Go.Proofs.YtlcoaflddajjcaaGreatDoor
namespace Go.Proofs.YtlcoaflddajjcaaGreatDoor
open Go Go.SL
def Gb(bs bd jb:Nat)(q:Int)(mb:Nat)(x:SJ)(F:List HP):ao (da bs bd jb q mb [] x::F) (jo bs bd q mb x.1++(kx jb bd gm x.2::F)):=by
 refine(ao.bY _ _).trans ?_
 exact ao.refl _
def xD(bs bd jb:Nat)(q:Int)(mb:Nat)(x:SJ)(F:List HP):ao (jo bs bd q mb x.1++(kx jb bd gm x.2::F)) (da bs bd jb q mb [] x::F):=by
 refine ao.trans ?_ (ao.bK _ _)
 exact ao.refl _
theorem HU.look{z:Value × List (Int × Value) × fJ}{y:Tk}(h:HU z y)(i:Int):∃v,(cU z.2.1 i).getD (.slice none 0 0)=v∧BI z.2.2 32 v ((y.pf i).getD []).length (((y.pf i).getD []).flatMap dC):=by
 have:=h i
 cases hx:cU z.2.1 i with
 | none =>
  grind [BI.nil]
 | some v =>
  grind
attribute [local irreducible] J K au Ends ae aB aI bB aW aS a7 aX bF aC da
end Go.Proofs.YtlcoaflddajjcaaGreatDoor
namespace Go.Proofs.YtlcoaflddajjcaaGreatDoor
open Go Go.SL
def hz(b:List UInt8):Dg:=(gC b).getD Dg.zero
def EX(m:List UInt8)(l:List (List UInt8)):Bool:=(qw m).isSome && l.all fun b=>(gC b).isSome
def OW(m:List UInt8)(l:List (List UInt8))(b:List UInt8):EX m (l++[b])=(EX m l && (gC b).isSome):=by unfold EX;simp[Bool.and_assoc]
theorem rS:∀(l:List (List UInt8)),(l.all fun b=>(gC b).isSome)=true→pP l=some (l.map hz)
 | [],_=>rfl
 | b::l,h=>by
  rw[List.all_cons,Bool.and_eq_true]at h
  unfold pP
  rw[rS l h.2]
  grind [hz,gC]
def rT:∀(l:List (List UInt8)),(l.all fun b=>(gC b).isSome)=false→pP l=none
 | [],h=>by cases h
 | b::l,h=>by
  unfold pP
  cases hb:gC b with
  | none=>rfl
  | some d =>
   rw[List.all_cons,hb]at h
   rw[rT l (by simpa using h)]
def fP(ok:Bool)(d:Dg)(i:Nat)(p:List Dg)(y:Tk):Tk:=if ok=true∧y.x.d=d∧i<y.n∧p.length=je y.n i then y.put i p else y
def acD(ok:Bool)(d:Dg)(i:Nat)(p:List Dg)(y:Tk):(fP ok d i p y).yb=y.yb:=by unfold fP;split <;> rfl
def j5(f:Tk→Tk)(j:Nat)(ts:List Tk):List Tk:=(ts.take j).map f++ts.drop j
theorem Ml(f:Tk→Tk)(j:Nat)(ts:List Tk):(j5 f j ts)[j]?=ts[j]? := by
 grind [j5]
def Mk(f:Tk→Tk){j:Nat}{ts:List Tk}{y:Tk}(h:ts[j]?=some y):(j5 f j ts).set j (f y)=j5 f (j+1) ts:=by
 obtain⟨hj,rfl⟩:=List.getElem?_eq_some_iff.1 h
 unfold j5
 rw[List.set_append_right _ _ (by rw[List.length_map,List.length_take];omega),List.length_map,List.length_take,Nat.min_eq_left ai,Nat.sub_self,List.drop_eq_getElem_cons hj,List.set_cons_zero,List.take_add_one,h,Option.toList_some,List.map_append,List.append_assoc]
 rfl
def Cx(f:Tk→Tk)(ts:List Tk):j5 f ts.length ts=ts.map f:=by unfold j5;simp
theorem Mj(f:Tk→Tk)(hf:∀y,(f y).yb=y.yb)(j:Nat)(ts:List Tk):(j5 f j ts).map df=ts.map df:=by
 unfold j5
 conv=>rhs;rw[← List.take_append_drop j ts]
 rw[List.map_append,List.map_append,List.map_map]
 congr 1
 refine List.map_congr_left fun y _=>?_
 grind [df]
theorem ER(ts:List Tk)(d:Dg)(m:List UInt8)(l:List (List UInt8))(k:Nat)(hk:∀n,qw m=some n→k=n):kO (ts.map (fP (EX m l) d k (l.map hz)))=oE (kO ts) d m l:=by
 unfold oE EX
 cases hm:qw m with
 | none =>
  simp only[Option.isSome_none,Bool.false_and]
  have:ts.map (fP false d k (l.map hz))=ts:=by
   conv=>rhs;rw[← List.map_id ts]
   refine List.map_congr_left fun y _=>?_
   grind [fP]
  rw[this]
 | some n =>
  obtain rfl:=hk n hm
  simp only[Option.isSome_some,Bool.true_and]
  cases ha:l.all (fun b=>(gC b).isSome)with
  | false =>
   rw[rT l ha]
   have:ts.map (fP false d k (l.map hz))=ts:=by
    conv=>rhs;rw[← List.map_id ts]
    refine List.map_congr_left fun y _=>?_
    grind [fP]
   rw[this]
  | true =>
   rw[rS l ha]
   unfold kO
   simp only
   rw[List.map_map,List.map_map]
   refine List.map_congr_left fun y _=>?_
   unfold fP
   simp only[true_and,Function.comp]
   split
   ·rename_i h
    exact(if_pos (α:=TC) (t:=y.c.put k (l.map hz)) (e:=y.c) h).symm
   ·rename_i h
    exact(if_neg (α:=TC) (t:=y.c.put k (l.map hz)) (e:=y.c) h).symm
attribute [local irreducible] J K au Ends ae aB aI bB aW aS a7 aX bF aC
def Ik(Z:HP)(tb bs jb:Nat)(tv:Value)(br:Bool)(ts:List Tk)(d:Dg)(mv:Value)(m:List UInt8)(l:List (List UInt8))(hv:qN Z mv (m::l))(hm:∀x∈m::l,x.length≤65536)(uB:(m::l).length≤65536)(hl:ts.length≤1000000)(hn:∀y∈ts,y.n≤65536)(hw:∀y∈ts,y.n≤y.ws.length*64) :
  au Tryz.prog 134 [ptr tb,dV d,mv] (fq tb bs jb tv ts br++[Z]) (fun r H=>r = .tuple #[]∧∃k:Nat,(∀n,qw m=some n→k=n)∧H=fq tb bs jb tv (ts.map (fP (EX m l) d k (l.map hz))) br++[Z]):=by
 obtain⟨cs,cW,mX,⟨ma,mc,rfl,hmc⟩,qf⟩:=hv
 obtain⟨c0,M5,zz⟩:=qf 0 m rfl
 have adQ:=oB Z c0 m zz (by have:=hm m (List.mem_cons_self ..);omega)
 obtain⟨bb,oo,cc,he⟩:=cW.some (by intro h;rw[h]at mX;simp at mX)
 obtain⟨rfl,rfl⟩:=he
 refine au.ak Tryz.func134 Tryz.ntmps134 fun G F R hE=>?_
 refine aD rfl ?_
 refine bu zr zr bh ?_
 intro b4
 refine aN (ao.pick [4] rfl) (go ?_)
 refine bp 0 zr zr zr zr zr zr zr zr (by simp) ?_
 refine aP ?_
 refine aQ 0 0 zr zr zr cW rfl M5 zr zr ?_
 refine aF adQ ?_
 rintro _ _⟨rfl,k,BD,rfl,AU⟩
 refine go ?_
 refine bw (p:=1) (q:=((m::l).length:Int)) zr zr zr zr zr zr zr ai (by simp only[List.length_cons];omega) (.inl rfl) ?_
 ((refine aG 23 ((.slice (sliceAt (some ⟨bb,oo,none⟩) mc 1 1) l.length (mc-1))) rfl ((by rw[show((m::l).length:Int).toNat=l.length+1 from by simp[List.length_cons],show(1:Int).toNat=1 from rfl,show l.length+1-1=l.length by omega];rfl)) ?_))
 have CK:=cW.JM (s:=1) (by rw[mX];simp) hmc 1 (by simp)
 simp only[List.length_cons]at uB hmc
 have ad8:∀(j:Nat) (x:List UInt8),l[j]?=some x→∃cv,(cs.drop (1*1))[j]?=some cv∧ew Z cv x:=fun j x hx=>by
  simp_all
 have hmr:∀x∈l,x.length≤65536:=fun x hx=>hm x (List.mem_cons_of_mem _ hx)
 have adN:EX m (l.take 0)=(qw m).isSome:=by unfold EX;simp
 refine go ?_
 refine al (bg 32 32 none _) ?_
 rw[← adN]
 refine bj (fun y:Nat × Option Addr × Nat=>y.1≤l.length) (fun y=>l.length-y.1)
  (fun y=>[(0,ptr tb),(4,ptr b4),(6,.int .i64 (k:Int)),(7,.bool (EX m (l.take y.1))),(8,.slice y.2.1 ((l.take y.1).map hz).length y.2.2),(23,.slice (sliceAt (some ⟨bb,oo,none⟩) mc 1 1) l.length (mc-1)),(24,.int .i64 (l.length:Int)),(25,.int .i64 (y.1:Int))])
  (fun y=>aB 32 32 (.slice y.2.1 ((l.take y.1).map hz).length y.2.2) ((l.take y.1).map hz).length (((l.take y.1).map hz).flatMap dC)::Z::ae b4 (cl (dC d) 32)::ae tb (cl [ptr bs,ptr jb,tv,.bool br] 156)::aB 158 1 tv ts.length (ts.map df)::bC ts::F) (0,none,0) (Nat.zero_le _) rfl bS ag ?_
 rintro⟨j,pa,pc⟩ hj ih
 dsimp only
 refine go ?_
 refine aq zr zr ?_ ?_
 ·intro cL
  have p8:j<l.length:=by omega
  obtain⟨x,hx⟩:∃x,l[j]?=some x:=⟨l[j],by simp⟩
  obtain⟨cv,qg,wO⟩:=ad8 j x hx
  have hph:=tl Z cv x wO (by have:=hmr x (List.mem_of_getElem? hx);omega)
  have jl:l.take (j+1)=l.take j++[x]:=by rw[List.take_add_one,hx];rfl
  have AT:((l.take j).map hz).length=j:=by rw[List.length_map,List.length_take];omega
  have hp1:((l.take j).map hz).flatMap dC++dC (hz x)=((l.take (j+1)).map hz).flatMap dC:=by rw[jl];simp
  have hp2:((l.take j).map hz).length+1=((l.take (j+1)).map hz).length:=by rw[jl];simp
  have nD:EX m (l.take (j+1))=(EX m (l.take j) && (gC x).isSome):=by rw[jl,OW]
  have YY:sliceAt (some ⟨bb,oo,none⟩) mc 1 1=some ⟨bb,oo+1,none⟩:=by
   unfold sliceAt
   rw[if_neg ai]
   rfl
  have abJ:=CK
  rw[YY]at abJ
  refine bq 23 (.slice (some ⟨bb,oo+1,none⟩) l.length (mc-1)) rfl (by rw[YY]) (go ?_)
  refine bp j zr zr zr zr zr zr zr zr p8 ?_
  refine aP ?_
  refine aQ 1 j zr zr zr abJ rfl qg zr zr (go ?_)
  refine aw hph ?_
  refine go ?_
  refine az zr zr zr bh ?_
  intro b11
  cases hoj:EX m (l.take j)
  all_goals(
   rw[hoj]at nD
   refine go ?_
   ((refine aG 7 ((.bool (EX m (l.take (j+1))))) rfl ((congrArg Value.bool (by rw[nD];rfl))) ?_))
   refine go ?_
   refine aO (U:=aU) (l:=dC (hz x)) 0 zr zr zr zr zr zr ?_
   refine aj (cs:=dC (hz x)) zr zr zr zr zr zr zr zr zr bh ?_
   intro row
   refine go ?_
   refine aJ (mm:=1) (news:=dC (hz x)) 3 0 zr zr zr zr zr zr zr zr zr zr zr zr (Vw.ae rfl) rfl (by rw[dW];exact cB _) ai (by show(((l.take j).map hz).length+1)*32≤_;omega) (fun _=>rfl) bh ?_
   intro v1
   rw[hp1,hp2]
   refine aH 3 rfl ?_
   rintro ja jc rfl
   refine go ?_
   refine bq 23 ((.slice (sliceAt (some ⟨bb,oo,none⟩) mc 1 1) l.length (mc-1))) rfl ((by rw[YY])) ?_
   refine aM ih (j+1,ja,jc) rfl (by simp only;omega) (by simp only;omega) bS ag)
 ·intro ep
  have Px:j=l.length:=by omega
  subst Px
  rw[List.take_length]
  obtain⟨p,hp⟩:∃p,p=l.map hz:=⟨_,rfl⟩
  obtain⟨ok,nD⟩:∃ok,ok=EX m l:=⟨_,rfl⟩
  have AT:p.length≤65536:=by rw[hp,List.length_map];omega
  rw[← hp,← nD]at hE ⊢
  have hfy:=acD ok d k p
  refine al (ao.pick [4] rfl) ?_
  refine db 0 rfl ?_
  rintro ta tc rfl
  refine eh 0 rfl ?_
  intro hvt
  refine go ?_
  refine bj (fun j:Nat=>j≤ts.length) (fun j=>ts.length-j)
   (fun j=>[(0,ptr tb),(4,ptr b4),(6,.int .i64 (k:Int)),(7,.bool ok),(8,.slice pa p.length pc),(46,.slice ta ts.length tc),(47,.int .i64 (ts.length:Int)),(48,.int .i64 (j:Int))])
   (fun j=>ae tb (cl [ptr bs,ptr jb,.slice ta ts.length tc,.bool br] 156)::aB 158 1 (.slice ta ts.length tc) ts.length (ts.map df)::bC (j5 (fP ok d k p) j ts)::aB 32 32 (.slice pa p.length pc) p.length (p.flatMap dC)::ae b4 (cl (dC d) 32)::Z::F) 0 (Nat.zero_le _) rfl bS ag ?_
  intro j hj ih
  refine go ?_
  refine aq zr zr ?_ ?_
  ·intro cL
   have p8:j<ts.length:=by omega
   obtain⟨y,hy⟩:∃y,ts[j]?=some y:=⟨ts[j],by simp⟩
   have hym:=List.mem_of_getElem? hy
   have hyn:=hn y hym
   have Z':=hw y hym
   have hgy:(j5 (fP ok d k p) j ts)[j]?=some y:=by rw[Ml,hy]
   have iW:=Mk (fP ok d k p) hy
   obtain⟨b9,o9,c9,he9⟩:=hvt.some (OA p8)
   obtain⟨rfl,rfl⟩:=he9
   refine go ?_
   refine bp j zr zr zr zr zr zr zr zr p8 ?_
   refine aP ?_
   refine aQ 1 j zr zr zr hvt rfl (rh hy) zr zr (go ?_)
   refine al (ao.pick [2] rfl) ?_
   refine al (rf hgy _) ?_
   have j9:∀H,ao (qa (fP ok d k p y)::bC ((j5 (fP ok d k p) j ts).take j++(j5 (fP ok d k p) j ts).drop (j+1))::H) (bC (j5 (fP ok d k p) (j+1) ts)::H):=fun H=>by rw[← iW];exact Oz hgy _ H
   refine cX (hD y) ?_
   rintro⟨wv,KQ,M⟩ QG
   have mL:∀H,ao (ae y.yb (cl (ri y) 163)::ae y.sb (cl [.int .i64 (y.n:Int),wv] 376)::aB 46 1 wv y.ws.length (qV y.ws)::aI (Value.int .i64) y.mb KQ::a7 32 M::bC ((j5 (fP ok d k p) j ts).take j++(j5 (fP ok d k p) j ts).drop (j+1))::H) (qa y::bC ((j5 (fP ok d k p) j ts).take j++(j5 (fP ok d k p) j ts).drop (j+1))::H):=fun H=>ao.trans (H2:=uW y (wv,KQ,M)++(bC ((j5 (fP ok d k p) j ts).take j++(j5 (fP ok d k p) j ts).drop (j+1))::H)) ag (jY QG _)
   have tz:fP ok d k p y=y→∀H,ao (ae y.yb (cl (ri y) 163)::ae y.sb (cl [.int .i64 (y.n:Int),wv] 376)::aB 46 1 wv y.ws.length (qV y.ws)::aI (Value.int .i64) y.mb KQ::a7 32 M::bC ((j5 (fP ok d k p) j ts).take j++(j5 (fP ok d k p) j ts).drop (j+1))::H) (bC (j5 (fP ok d k p) (j+1) ts)::H):=fun h H=>by
    have:=j9 H
    rw[h]at this
    exact(mL H).trans this
   refine aL (fun w=>Sat G w ([ae y.yb (cl (ri y) 163),ae b4 (cl (dC d) 32)])) (cJ 0 16 (.act 16 (cJ 17 9 (.st 27 (.act 26 (.act 28 (.st 29 (.st 30 .nil)))))))) rfl ah ah ah dv ?_
   cases ok with
   | false =>
    have PB:fP false d k p y=y:=by unfold fP;rw[if_neg (by simp)]
    refine go ?_
    refine al (ao.trans ag (tz PB (ae tb (cl [ptr bs,ptr jb,.slice (some ⟨b9,o9,none⟩) ts.length tc,.bool br] 156)::aB 158 1 (.slice (some ⟨b9,o9,none⟩) ts.length tc) ts.length (ts.map df)::aB 32 32 (.slice pa p.length pc) p.length (p.flatMap dC)::ae b4 (cl (dC d) 32)::Z::F))) ?_
    refine aM ih (j+1) rfl ai ai bS ag
   | true =>
   refine go ?_
   refine cC (U:=aU) (cs:=dC y.x.d) 0 zr zr zr zr zr zr (go ?_)
   refine bX (U:=aU) (l:=dC d) 1 zr zr zr zr zr zr (go ?_)
   refine gQ (b:=decide (y.x.d=d)) zr zr zr yq (fun w=>yu y.x.d d w) ?_
   by_cases hyd:y.x.d=d
   case neg =>
    rw[decide_eq_false hyd]
    have PB:fP true d k p y=y:=by unfold fP;rw[if_neg (fun h=>hyd h.2.1)]
    refine go ?_
    refine al (ao.trans ag (tz PB (ae tb (cl [ptr bs,ptr jb,.slice (some ⟨b9,o9,none⟩) ts.length tc,.bool br] 156)::aB 158 1 (.slice (some ⟨b9,o9,none⟩) ts.length tc) ts.length (ts.map df)::aB 32 32 (.slice pa p.length pc) p.length (p.flatMap dC)::ae b4 (cl (dC d) 32)::Z::F))) ?_
    refine aM ih (j+1) rfl ai ai bS ag
   rw[decide_eq_true hyd]
   refine go ?_
   refine bE (sE y.sb y.n wv) ?_
   refine go ?_
   by_cases hkn:k<y.n
   case neg =>
    have PB:fP true d k p y=y:=by unfold fP;rw[if_neg (fun h=>hkn h.2.2.1)]
    refine aG 71 ((.bool false)) rfl ((congrArg Value.bool (decide_eq_false ai))) (go ?_)
    refine al (ao.trans ag (tz PB (ae tb (cl [ptr bs,ptr jb,.slice (some ⟨b9,o9,none⟩) ts.length tc,.bool br] 156)::aB 158 1 (.slice (some ⟨b9,o9,none⟩) ts.length tc) ts.length (ts.map df)::aB 32 32 (.slice pa p.length pc) p.length (p.flatMap dC)::ae b4 (cl (dC d) 32)::Z::F))) ?_
    refine aM ih (j+1) rfl ai ai bS ag
   refine aG 71 ((.bool true)) rfl ((congrArg Value.bool (decide_eq_true ai))) (go ?_)
   refine bE (sE y.sb y.n wv) ?_
   refine go ?_
   refine bE (Ag (y.n:Int) (k:Int)) ?_
   refine go ?_
   by_cases hpd:p.length=je y.n k
   case neg =>
    have PB:fP true d k p y=y:=by unfold fP;rw[if_neg (fun h=>hpd h.2.2.2)]
    refine bq 82 ((.bool false)) rfl ((congrArg Value.bool (decide_eq_false ai))) (go ?_)
    refine al (ao.trans ag (tz PB (ae tb (cl [ptr bs,ptr jb,.slice (some ⟨b9,o9,none⟩) ts.length tc,.bool br] 156)::aB 158 1 (.slice (some ⟨b9,o9,none⟩) ts.length tc) ts.length (ts.map df)::aB 32 32 (.slice pa p.length pc) p.length (p.flatMap dC)::ae b4 (cl (dC d) 32)::Z::F))) ?_
    refine aM ih (j+1) rfl ai ai bS ag
   refine bq 82 ((.bool true)) rfl ((congrArg Value.bool (decide_eq_true ai))) ?_
   have PB:fP true d k p y=y.put k p:=by unfold fP;rw[if_pos ⟨rfl,hyd,hkn,hpd⟩]
   rw[PB]at j9
   refine al (ao.trans ag (mL (ae tb (cl [ptr bs,ptr jb,.slice (some ⟨b9,o9,none⟩) ts.length tc,.bool br] 156)::aB 158 1 (.slice (some ⟨b9,o9,none⟩) ts.length tc) ts.length (ts.map df)::aB 32 32 (.slice pa p.length pc) p.length (p.flatMap dC)::ae b4 (cl (dC d) 32)::Z::F))) ?_
   refine al (H':=aB 32 32 (.slice pa p.length pc) p.length (p.flatMap dC)::qa y::bC ((j5 (fP true d k p) j ts).take j++(j5 (fP true d k p) j ts).drop (j+1))::ae tb (cl [ptr bs,ptr jb,.slice (some ⟨b9,o9,none⟩) ts.length tc,.bool br] 156)::aB 158 1 (.slice (some ⟨b9,o9,none⟩) ts.length tc) ts.length (ts.map df)::ae b4 (cl (dC d) 32)::Z::F) ag ?_
   refine eh 0 rfl ?_
   intro hvp
   have ym:=K9 y k hkn hyn Z' _ (.slice pa p.length pc) p hvp ai
   refine go ?_
   refine aw ym ?_
   refine go ?_
   refine al (ao.pick [0,2,3,4] rfl) ?_
   refine al (j9 _) ?_
   refine aM ih (j+1) rfl ai ai bS ag
  ·intro ep
   have Px:j=ts.length:=by omega
   subst Px
   rw[Cx]
   have Ps:(ts.map (fP ok d k p)).map df=ts.map df:=by rw[← Cx];exact Mj _ hfy _ _
   have adT:(ts.map (fP ok d k p)).length=ts.length:=List.length_map ..
   refine go ?_
   refine al (H':=ae tb (cl [ptr bs,ptr jb,.slice ta ts.length tc,.bool br] 156)::aB 158 1 (.slice ta ts.length tc) (ts.map (fP ok d k p)).length ((ts.map (fP ok d k p)).map df)::bC (ts.map (fP ok d k p))::Z::F) (by rw[Ps,adT];exact ag) ?_
   refine bL hE Tryz.func134 rfl _ rfl ⟨rfl,k,AU,rfl⟩ ag
end Go.Proofs.YtlcoaflddajjcaaGreatDoor
namespace Go.Proofs.YtlcoaflddajjcaaGreatDoor
open Go Go.SL
variable{d:Dg}{b:List UInt8}
def Nk(ts:List Tk)(d:Dg):kO (OM ts d)=ON (kO ts) d:=by
 unfold kO OM ON
 rw[List.filter_map]
 rfl
def HL(ts:List Tk)(y:Tk):kO (ts++[y])=kO ts++[y.c]:=by simp[kO]
def aad(k:UInt8)(n:Nat)(hn:n<256):decide ((k.toNat:Int)=(n:Int))=decide (k=UInt8.ofNat n):=by
 rw[decide_eq_decide]
 constructor
 ·intro h
  have h2:k.toNat=n:=by omega
  rw[← h2]
  exact(UInt8.ofNat_toNat).symm
 ·rintro rfl
  rw[UInt8.toNat_ofNat']
  omega
def En{cs:List TC}(h:js b=none):fM cs b=cs:=by unfold fM;rw[h]
def Ld{cs:List TC}(h:js b=some (3,d,[])):fM cs b=ON cs d:=by unfold fM;rw[h];simp
theorem BP{cs:List TC}{m:List UInt8}{l:List (List UInt8)}(h:js b=some (2,d,m::l)):fM cs b=oE cs d m l:=by
 grind [fM]
theorem BQ{cs:List TC}{s p r:List UInt8}(h:js b=some (1,d,[s,p,r])):fM cs b=(match qw s,qw p,gC r with
  | some s,some p,some r=>if bJ ⟨d,s,p,r⟩then ON cs d++[nG ⟨d,s,p,r⟩]else cs
  | _,_,_=>cs):=by
 grind [fM]
theorem na{cs:List TC}{k:UInt8}{l:List (List UInt8)}(h:js b=some (k,d,l))(h3:¬(k=3∧l.length=0))(h1:¬(k=1∧l.length=3))(h2:¬(k=2∧0<l.length)):fM cs b=cs:=by
 grind [fM]
attribute [local irreducible] J K au Ends ae aB aI bB aW aS a7 aX bF aC
theorem Lc(X:HP)(tb bs jb:Nat)(tv:Value)(br:Bool)(ts:List Tk)(bv:Value)(b:List UInt8)(hb:ew X bv b)(uC:b.length≤1000000)(hl:ts.length≤900000)(hn:∀y∈ts,y.n≤65536)(hw:∀y∈ts,y.n≤y.ws.length*64) :
  au Tryz.prog 63 [ptr tb,bv] (fq tb bs jb tv ts br++[X]) (fun r H=>r = .tuple #[]∧∃(vB:List Tk) (qW:Value),kO vB=fM (kO ts) b∧H=fq tb bs jb qW vB br++[X]):=by
 have u4:=IE X bv b hb uC
 have hrm:=fun d=>EL tb bs jb tv br ts d ai
 refine au.ak Tryz.func63 Tryz.ntmps63 fun G F R hE=>?_
 refine go ?_
 refine aF u4 ?_
 rintro _ _ (⟨hn0,⟨k,d,ma,mn,mc,rfl⟩,rfl⟩|⟨k,d,more,mv,Z,hr,lz,On,Y',rfl,rfl⟩)
 ·refine go ?_
  refine az zr zr zr bh ?_
  intro b5
  refine go ?_
  refine bL hE Tryz.func63 rfl _ rfl ⟨rfl,ts,tv,(En hn0).symm,rfl⟩ ag
 have ab5:=lz
 obtain⟨cs,cW,mX,⟨ma,mc,rfl,hmc⟩,qf⟩:=lz
 refine go ?_
 refine az zr zr zr bh ?_
 intro b5
 refine go ?_
 have fu:∀j:Nat,j<256→k≠UInt8.ofNat j→decide ((k.toNat:Int)=(j:Int))=false:=fun j hj h=>by rw[aad k j hj];exact decide_eq_false h
 have jq:fM (kO ts) b=kO ts→∃(vB:List Tk) (qW:Value),kO vB=fM (kO ts) b∧[ae tb (cl [ptr bs,ptr jb,tv,.bool br] 156),aB 158 1 tv ts.length (ts.map df),bC ts]++[X]=[ae tb (cl [ptr bs,ptr jb,qW,.bool br] 156),aB 158 1 qW vB.length (vB.map df),bC vB]++[X]:=fun h=>⟨ts,tv,h.symm,rfl⟩
 by_cases h3:k=3
 ·subst h3
  by_cases h0:more.length=0
  ·have hmn:more=[]:=List.eq_nil_of_length_eq_zero h0
   subst hmn
   have sJ:=Ld (cs:=kO ts) hr
   refine go ?_
   refine aO (U:=aU) (l:=dC d) 0 zr zr zr zr zr zr ?_
   refine aF (hrm d) ?_
   rintro _ _⟨rfl,qW,rfl⟩
   refine go ?_
   (refine bL hE Tryz.func63 rfl _ rfl ⟨rfl,OM ts d,qW,by rw[Nk,sJ],rfl⟩ ag)
  ·have sJ:=na (cs:=kO ts) hr (fun h=>h0 h.2) (fun h=>absurd h.1 (by decide)) (fun h=>absurd h.1 (by decide))
   refine go ?_
   refine bq 25 ((.bool false)) rfl ((congrArg Value.bool (decide_eq_false ai))) (go ?_)
   refine bL hE Tryz.func63 rfl _ rfl ⟨rfl,jq sJ⟩ ag
 have hn3:=fu 3 ai h3
 refine aG 28 ((.bool false)) rfl ((congrArg Value.bool hn3)) ?_
 by_cases h1:k=1
 ·subst h1
  by_cases h0:more.length=3
  case neg =>
   have sJ:=na (cs:=kO ts) hr (fun h=>absurd h.1 (by decide)) (fun h=>h0 h.2) (fun h=>absurd h.1 (by decide))
   refine go ?_
   refine bq 36 ((.bool false)) rfl ((congrArg Value.bool (decide_eq_false ai))) (go ?_)
   refine bL hE Tryz.func63 rfl _ rfl ⟨rfl,jq sJ⟩ ag
  obtain⟨ms,mp,mr,rfl⟩:∃ms mp mr,more=[ms,mp,mr]:=by
   match more,h0 with
   | [ms,mp,mr],_=>exact⟨ms,mp,mr,rfl⟩
  have sJ:=BQ (cs:=kO ts) hr
  obtain⟨c0,M5,zz⟩:=qf 0 ms rfl
  obtain⟨c1,hc1,sO⟩:=qf 1 mp rfl
  obtain⟨c2,hc2,rR⟩:=qf 2 mr rfl
  have hq0:=oB Z c0 ms zz (by have:=On ms (by simp);omega)
  have hq1:=oB Z c1 mp sO (by have:=On mp (by simp);omega)
  have hq2:=tl Z c2 mr rR (by have:=On mr (by simp);omega)
  obtain⟨bb,oo,cc,he⟩:=cW.some (by intro h;rw[h]at mX;simp at mX)
  obtain⟨rfl,rfl⟩:=he
  refine aN (H':=ae b5 (cl (dC d) 32)::Z::ae tb (cl [ptr bs,ptr jb,tv,.bool br] 156)::aB 158 1 tv ts.length (ts.map df)::bC ts::X::F) ag (go ?_)
  refine bp 0 zr zr zr zr zr zr zr zr (by simp) ?_
  refine aP ?_
  refine aQ 1 0 zr zr zr cW rfl M5 zr zr ?_
  refine aF hq0 ?_
  rintro _ _⟨rfl,k1,BD,rfl,ad0⟩
  refine go ?_
  refine bp 1 zr zr zr zr zr zr zr zr (by simp) ?_
  refine aP ?_
  refine aQ 0 1 zr zr zr cW rfl hc1 zr zr ?_
  refine aF hq1 ?_
  rintro _ _⟨rfl,k2,AU,rfl,adY⟩
  refine go ?_
  refine bp 2 zr zr zr zr zr zr zr zr (by simp) ?_
  refine aP ?_
  refine aQ 0 2 zr zr zr cW rfl hc2 zr zr ?_
  refine aw hq2 ?_
  refine go ?_
  refine az zr zr zr bh ?_
  intro Dn
  refine go ?_
  refine aO (U:=aU) (l:=dC d) 2 zr zr zr zr zr zr (go ?_)
  refine aO (U:=aU) (l:=dC (hz mr)) 0 zr zr zr zr zr zr (go ?_)
  obtain⟨x,hx⟩:∃x:Bl,x=⟨d,(k1:Int),(k2:Int),hz mr⟩:=⟨_,rfl⟩
  refine az zr zr zr bh ?_
  intro b14
  refine go ?_
  ((refine aN (H':=ae b14 (cl (ck x) 77)::ae b5 (cl (dC d) 32)::ae tb (cl [ptr bs,ptr jb,tv,.bool br] 156)::aB 158 1 tv ts.length (ts.map df)::bC ts::X::F) ((by rw[hx];exact ag)) ?_))
  have qC:=pW x
  cases e0:qw ms with
  | none =>
   rw[e0]at sJ
   refine go ?_
   refine bL hE Tryz.func63 rfl _ rfl ⟨rfl,jq sJ⟩ ag
  | some v0 =>
  obtain rfl:=ad0 v0 e0
  rw[e0]at sJ
  cases e1:qw mp with
  | none =>
   rw[e1]at sJ
   refine go ?_
   refine bL hE Tryz.func63 rfl _ rfl ⟨rfl,jq sJ⟩ ag
  | some v1 =>
  obtain rfl:=adY v1 e1
  rw[e1]at sJ
  cases e2:gC mr with
  | none =>
   rw[e2]at sJ
   refine go ?_
   refine bL hE Tryz.func63 rfl _ rfl ⟨rfl,jq sJ⟩ ag
  | some v2 =>
  have pN:hz mr=v2:=by unfold hz;rw[e2];rfl
  rw[e2]at sJ
  simp only at sJ
  rw[pN]at hx
  rw[← hx]at sJ
  refine go ?_
  refine aO (U:=aU) (l:=ck x) 0 zr zr zr zr zr zr ?_
  ((refine go ?_;(refine aF qC ?_)))
  rintro _ _⟨rfl,rfl⟩
  cases QP:bJ x with
  | false =>
   rw[QP]at sJ
   refine go ?_
   refine bL hE Tryz.func63 rfl _ rfl ⟨rfl,jq sJ⟩ ag
  | true =>
  rw[QP]at sJ
  simp only[if_true]at sJ
  have BF:=zB x
  refine aN (H':=ae b5 (cl (dC d) 32)::ae tb (cl [ptr bs,ptr jb,tv,.bool br] 156)::aB 158 1 tv ts.length (ts.map df)::bC ts::X::ae b14 (cl (ck x) 77)::F) ag (go ?_)
  refine aO (U:=aU) (l:=dC d) 0 zr zr zr zr zr zr ?_
  refine aF (hrm d) ?_
  rintro _ _⟨rfl,qW,rfl⟩
  refine aN (H':=ae tb (cl [ptr bs,ptr jb,qW,.bool br] 156)::aB 158 1 qW (OM ts d).length ((OM ts d).map df)::bC (OM ts d)::X::ae b14 (cl (ck x) 77)::F) ag ?_
  have Jd:(OM ts d).length≤ts.length:=List.length_filter_le _ _
  obtain⟨us,Og⟩:∃us,us=OM ts d:=⟨_,rfl⟩
  rw[← Og]at Jd ⊢
  have hcu:kO us=ON (kO ts) d:=by rw[Og,Nk]
  refine go ?_
  refine db 1 rfl ?_
  rintro ua uc rfl
  refine aL (fun w=>Sat G w ([ae tb (cl [ptr bs,ptr jb,.slice ua us.length uc,.bool br] 156),ae b14 (cl (ck x) 77)])) (cJ 0 6 (.act 6 (.act 7 (.act 8 (.st 9 (.st 10 (.act 11 .nil))))))) rfl ah ah ah dv ?_
  refine go ?_
  refine bX (U:=aU) (l:=ck x) 1 zr zr zr zr zr zr (go ?_)
  refine cT BF ?_
  rintro _ _⟨y,rfl,rfl,hy1,QH,hy3,hy4⟩
  refine go ?_
  refine aj (cs:=[ptr y.yb]) zr zr zr zr zr zr zr zr zr (fun _ w hw=>hw.cu ag) ?_
  intro r1
  refine go ?_
  refine aJ (mm:=1) (news:=[ptr y.yb]) 3 0 rfl rfl rfl rfl rfl rfl rfl rfl rfl rfl rfl rfl (Vw.ae rfl) rfl (by intro v hv;simp at hv;rw[hv];rfl) ai (by show(_+_)*8≤_;omega) (fun _=>rfl) (fun _ w hw=>hw.cu ag) ?_
  intro v1
  refine aH 3 rfl ?_
  rintro ka kc rfl
  refine go ?_
  have Ps:us.map df++[ptr y.yb]=(us++[y]).map df:=by simp[df]
  have uB:us.length+1=(us++[y]).length:=by simp
  have tB:=sT us [] y
  rw[List.append_nil]at tB
  rw[Ps,uB]
  refine al (ao.pick [1,4,2,3,5] rfl) ?_
  refine al (tB _) ?_
  have O':y.c=nG x:=by
   grind [Tk.c,nG]
  (refine bL hE Tryz.func63 rfl _ rfl ⟨rfl,us++[y],_,by rw[HL,hcu,O',sJ],rfl⟩ ag)
 have hn1:=fu 1 ai h1
 by_cases h2:k=2
 ·subst h2
  by_cases h0:0<more.length
  case neg =>
   have sJ:=na (cs:=kO ts) hr (fun h=>absurd h.1 (by decide)) (fun h=>absurd h.1 (by decide)) (fun h=>h0 h.2)
   refine go ?_
   refine bq 95 ((.bool false)) rfl ((congrArg Value.bool (decide_eq_false ai))) (go ?_)
   refine bL hE Tryz.func63 rfl _ rfl ⟨rfl,jq sJ⟩ ag
  obtain⟨m,l,rfl⟩:∃m l,more=m::l:=by
   match more,h0 with
   | m::l,_=>exact⟨m,l,rfl⟩
  have sJ:=BP (cs:=kO ts) hr
  have htp:=Ik Z tb bs jb tv br ts d _ m l ab5 On Y' ai hn hw
  refine go ?_
  refine bq 95 ((.bool true)) rfl ((congrArg Value.bool (decide_eq_true ai))) (go ?_)
  refine aO (U:=aU) (l:=dC d) 0 zr zr zr zr zr zr ?_
  ((refine go ?_;(refine aF htp ?_)))
  rintro _ _⟨rfl,kk,hkk,rfl⟩
  refine go ?_
  (refine bL hE Tryz.func63 rfl _ rfl ⟨rfl,ts.map (fP (EX m l) d kk (l.map hz)),tv,by rw[ER ts d m l kk hkk,sJ],rfl⟩ ag)
 have hn2:=fu 2 ai h2
 have sJ:=na (cs:=kO ts) hr (fun h=>h3 h.1) (fun h=>h1 h.1) (fun h=>h2 h.1)
 refine go ?_
 refine aG 39 ((.bool false)) rfl ((congrArg Value.bool hn1)) (go ?_)
 refine aG 98 ((.bool false)) rfl ((congrArg Value.bool hn2)) (go ?_)
 refine bL hE Tryz.func63 rfl _ rfl ⟨rfl,jq sJ⟩ ag
end Go.Proofs.YtlcoaflddajjcaaGreatDoor
namespace Go.Proofs.YtlcoaflddajjcaaGreatDoor
open Go Go.SL
def Tk.drop(y:Tk)(i:Nat):Tk:=⟨y.yb,y.sb,y.mb,y.x,y.n,nk y.ws i false,fun j=>if j=(i:Int)then none else y.pf j⟩
theorem F8(es:List (Int × Value))(k j:Int):cU (se es k) j=if j=k then none else cU es j:=by
 grind [se,cU]
theorem HU.drop{z:Value × List (Int × Value) × fJ}{y:Tk}(h:HU z y)(i:Nat):HU (z.1,se z.2.1 (i:Int),z.2.2) (y.drop i):=fun j=>by
 rw[F8]
 by_cases hj:j=(i:Int)
 ·rw[if_pos hj]
  show(if j=(i:Int)then none else y.pf j)=none
  grind
 ·rw[if_neg hj]
  have:=h j
  show match cU z.2.1 j with
   | none=>(if j=(i:Int)then none else y.pf j)=none
   | some v=>∃l,(if j=(i:Int)then none else y.pf j)=some l∧BI z.2.2 32 v l.length (l.flatMap dC)
  grind
attribute [local irreducible] J K au Ends ae aB aI bB aW aS a7 aX bF aC
def Il(y:Tk)(i:Nat)(hi:i<y.n)(hn:y.n≤65536)(hw:y.n≤y.ws.length*64) :
  au Tryz.prog 145 [ptr y.yb,.int .i64 (i:Int)] [qa y] (fun r H=>r = .tuple #[]∧H=[qa (y.drop i)]):=by
 refine au.ak Tryz.func145 Tryz.ntmps145 fun G F R hE=>?_
 refine cX (hD y) ?_
 rintro⟨wv,cs,M⟩ hz
 have ym:=D7 y.sb y.n wv y.ws hn hw i hi false
 refine go ?_
 refine aw ym ?_
 refine aN (H':=ae y.yb (cl (ri y) 163)::aI (Value.int .i64) y.mb cs::ae y.sb (cl [.int .i64 (y.n:Int),wv] 376)::aB 46 1 wv (nk y.ws i false).length (qV (nk y.ws i false))::a7 32 M::F) ag (go ?_)
 refine sy (U:=aU) (es:=cs) (key:=(i:Int)) 1 (qy Tryz.underlying3) (fun w hw=>by exact trivial) zr zr zr zr zr zr zr ?_
 refine go ?_
 refine al (ao.pick [0,2,3] rfl) ?_
 refine al (jY (hz.drop i) _) ?_
 refine bL hE Tryz.func145 rfl _ rfl ⟨rfl,rfl⟩ ag
end Go.Proofs.YtlcoaflddajjcaaGreatDoor
namespace Go.Proofs.YtlcoaflddajjcaaGreatDoor
open Go Go.SL
variable{ls:List (List UInt8)}{i:Nat}{s:ml}
def mR(c:TC):Prop:=c.n≤1024∧c.n≤c.ws.length*64∧c.ws.length≤65536∧∀k l,c.pf k=some l→l.length≤10
def mR.drop{c:TC}(h:mR c)(i:Nat):mR (c.drop i):=⟨h.1,by unfold TC.drop;simp only[mA];exact h.2.1,by unfold TC.drop;simp only[mA];exact h.2.2.1,fun k l hk=>by
  unfold TC.drop at hk
  simp only at hk
  split at hk
  · cases hk
  · exact h.2.2.2 k l hk⟩
def mR.hold{s:ml}{c:TC}(h:mR c):∀k,mR (ie s c k).1
 | 0=>h
 | k+1=>by
  rw[nC]
  have ih:=mR.hold (s:=s) h k
  unfold mJ
  split
  ·split
   ·exact ih.drop k
   ·exact ih
  ·exact ih
theorem ES{x:Bl}{i:Int}{b:List UInt8}{p:List Dg}(h:l6 x i b p=true):p.length≤10:=by
 grind [l6,nH,tH]
def MN{y:Tk}(h:rU y.ws y.n (i:Int)=false):mJ s (y.c,ls) i=(y.c,ls):=by
 exact if_neg (show ¬rU y.ws y.n (i:Int)=true by rw[h];simp)
theorem Fu{y:Tk}(h:rU y.ws y.n (i:Int)=true)(h2:(eO s y.x (i:Int)).2≠0∨l6 y.x i (eO s y.x (i:Int)).1 ((y.pf i).getD [])=false):mJ s (y.c,ls) i=(y.c.drop i,ls):=by
 exact(if_pos (show rU y.ws y.n (i:Int)=true from h)).trans (if_pos h2)
theorem Ft{y:Tk}(h:rU y.ws y.n (i:Int)=true)(h2:¬((eO s y.x (i:Int)).2≠0∨l6 y.x i (eO s y.x (i:Int)).1 ((y.pf i).getD [])=false)):mJ s (y.c,ls) i=(y.c,ls++[cP y.x.d i ((y.pf i).getD [])]):=by
 exact(if_pos (show rU y.ws y.n (i:Int)=true from h)).trans (if_neg h2)
attribute [local irreducible] J K au Ends ae aB aI bB aW aS a7 aX bF aC da
theorem MM(X:HP)(hK:pY X)(tb bs jb bd:Nat)(tv:Value)(br:Bool)(q:Int)(mb:Nat)(s:SJ)(hRd:∀nm at_ n,(s.1.A.read nm at_ n).1.length≤1048576)(y0:Tk)(nD:mR y0.c)(iJ:0≤y0.x.size∧y0.x.size≤1000000000000)(Y4:0≤y0.x.piece∧y0.x.piece≤1000000000000) :
  au Tryz.prog 65 [ptr tb,ptr y0.yb] [ae tb (cl [ptr bs,ptr jb,tv,.bool br] 156),qa y0,da bs bd jb q mb [] s,X]
  (fun r H=>∃(y:Tk) (Z:HP),y.yb=y0.yb∧y.c=(ki s.1 y0.c).1∧qN Z r (ki s.1 y0.c).2∧H=[ae tb (cl [ptr bs,ptr jb,tv,.bool br] 156),qa y,da bs bd jb q mb [] s,X,Z]):=by
 have Jv:=ql y0.x iJ Y4
 refine au.ak Tryz.func65 Tryz.ntmps65 fun G F R hE=>?_
 refine al (ao.pick [1] rfl) ?_
 refine cX (hD y0) ?_
 rintro⟨wv,cs,N⟩ hz0
 refine go ?_
 refine bP (cs:=ck y0.x) 0 zr zr zr zr zr zr ?_
 refine aF Jv ?_
 rintro r _ rfl
 refine aH 0 rfl ?_
 rintro a8 c8 rfl
 refine eZ (bs:=cE y0.x) 0 rfl ?_
 intro Oo
 refine go ?_
 refine aj (cs:=[.slice a8 (cE y0.x).length c8]) zr zr zr zr zr zr zr zr zr bh ?_
 intro row
 refine aN (H':=ae y0.yb (cl (ri y0) 163)::ae y0.sb (cl [.int .i64 (y0.n:Int),wv] 376)::aB 46 1 wv y0.ws.length (qV y0.ws)::aI (Value.int .i64) y0.mb cs::a7 32 N::ae row (cl [.slice a8 (cE y0.x).length c8] 22)::aB 5 1 (.slice a8 (cE y0.x).length c8) (cE y0.x).length (bV (cE y0.x))::ae tb (cl [ptr bs,ptr jb,tv,.bool br] 156)::da bs bd jb q mb [] s::X::F) ag (go ?_)
 refine aw (sE y0.sb y0.n wv) ?_
 refine go ?_
 refine al (ao.trans (H2:=uW y0 (wv,cs,N)++(ae row (cl [.slice a8 (cE y0.x).length c8] 22)::aB 5 1 (.slice a8 (cE y0.x).length c8) (cE y0.x).length (bV (cE y0.x))::ae tb (cl [ptr bs,ptr jb,tv,.bool br] 156)::da bs bd jb q mb [] s::X::F)) ag (jY hz0 _)) ?_
 refine al (ao.pick [1,2] rfl) ?_
 refine al (ef 22 1 row 1 1 [.slice a8 (cE y0.x).length c8] [] _ rfl (Nat.le_refl _) (by simp)) ?_
 refine bj (fun z:Nat × Tk × Rws × Option Addr × Nat=>z.1≤y0.n∧z.2.1.yb=y0.yb∧z.2.1.c=(ie s.1 y0.c z.1).1∧Bm z.2.2.1 (ie s.1 y0.c z.1).2∧z.2.2.1.cs.length≤z.1+1) (fun z=>y0.n-z.1)
  (fun z=>[(0,ptr tb),(1,ptr y0.yb),(5,.slice z.2.2.2.1 z.2.2.1.cs.length z.2.2.2.2),(19,.int .i64 (y0.n:Int)),(20,.int .i64 (z.1:Int))])
  (fun z=>aB 22 1 (.slice z.2.2.2.1 z.2.2.1.cs.length z.2.2.2.2) z.2.2.1.cs.length z.2.2.1.cs::z.2.2.1.Z::qa z.2.1::ae tb (cl [ptr bs,ptr jb,tv,.bool br] 156)::da bs bd jb q mb [] s::X::F) (0,y0,⟨[.slice a8 (cE y0.x).length c8],aB 5 1 (.slice a8 (cE y0.x).length c8) (cE y0.x).length (bV (cE y0.x))⟩,some ⟨row,0,none⟩,1) ⟨Nat.zero_le _,rfl,rfl,?_,by simp⟩ rfl bS ag ?_
 ·refine⟨rfl,fun j x hx=>?_⟩
  match j,hx with
  | 0,hx=>cases hx;exact⟨_,rfl,Oo⟩
  | j+1,hx=>cases hx
 rintro⟨i,y,M,oa,oc⟩⟨hi,KF,O',hM,hMl⟩ ih
 simp only at hi KF O' hM hMl
 refine go ?_
 refine aq zr zr ?_ ?_
 ·intro cL
  obtain⟨ls,hls⟩:∃ls,ls=(ie s.1 y0.c i).2:=⟨_,rfl⟩
  have abX:ie s.1 y0.c i=(y.c,ls):=by rw[O',hls]
  have gS:=nC s.1 y0.c i
  rw[abX]at gS
  rw[← hls]at hM
  have ab0:mR y.c:=by rw[O'];exact nD.hold i
  have YN:=Hh s.1 y0.c i
  rw[← O']at YN
  have hyn:y.n=y0.n:=YN.2.1
  have abF:y.n≤65536:=Nat.le_trans ab0.1 ai
  have Z':y.n≤y.ws.length*64:=ab0.2.1
  rw[← KF]
  refine al (ao.pick [2] rfl) ?_
  refine cX (hD y) ?_
  rintro⟨wv,cs,N⟩ hz
  have mL:∀H,ao (ae y.yb (cl (ri y) 163)::ae y.sb (cl [.int .i64 (y.n:Int),wv] 376)::aB 46 1 wv y.ws.length (qV y.ws)::aI (Value.int .i64) y.mb cs::a7 32 N::H) (qa y::H):=fun H=>ao.trans (H2:=uW y (wv,cs,N)++H) ag (jY hz _)
  have Zh:=Ob y.sb y.n wv y.ws abF Z' (i:Int)
  refine go ?_
  refine aw Zh ?_
  cases hhq:rU y.ws y.n (i:Int)with
  | false =>
   have zq:ie s.1 y0.c (i+1)=(y.c,ls):=by rw[gS,MN hhq]
   refine go ?_
   refine bq 1 ((ptr y0.yb)) rfl ((by rw[KF])) ?_
   refine al (ao.trans ag (mL (aB 22 1 (.slice oa M.cs.length oc) M.cs.length M.cs::M.Z::ae tb (cl [ptr bs,ptr jb,tv,.bool br] 156)::da bs bd jb q mb [] s::X::F))) ?_
   refine aM ih (i+1,y,M,oa,oc) rfl ⟨by simp only;omega,KF,by rw[zq],by rw[zq];exact hM,by simp only;omega⟩ ai bS ag
  | true =>
  have hsg:=F9 bs bd q mb s.1 y.x (i:Int)
  obtain⟨bb,hbb⟩:∃b,b=(eO s.1 y.x (i:Int)).1:=⟨_,rfl⟩
  obtain⟨ee,hee⟩:∃e,e=(eO s.1 y.x (i:Int)).2:=⟨_,rfl⟩
  have uC:bb.length≤1048576:=by
   grind [eO]
  have He:(ee≠0∨l6 y.x i bb ((y.pf i).getD [])=false)→ie s.1 y0.c (i+1)=(y.c.drop i,ls):=fun h=>by
   grind [Fu]
  have hs4:¬(ee≠0∨l6 y.x i bb ((y.pf i).getD [])=false)→ie s.1 y0.c (i+1)=(y.c,ls++[cP y.x.d i ((y.pf i).getD [])]):=fun h=>by
   grind [Ft]
  rw[← hbb,← hee]at hsg
  obtain⟨pv,Y3,Ph⟩:=hz.look (i:Int)
  obtain⟨pa,pc,adG,QR⟩:=Ph.shape
  subst adG
  refine go ?_
  refine al (ao.pick [8,2] rfl) ?_
  refine al (Gb bs bd jb q mb s _) ?_
  refine aL (fun w=>Sat G w ([ae tb (cl [ptr bs,ptr jb,tv,.bool br] 156),ae y.yb (cl (ri y) 163)])) (cJ 0 9 (.act 9 (cJ 10 5 .nil))) rfl ah ah ah dv ?_
  refine go ?_
  refine cC (U:=aU) (cs:=ck y.x) 1 zr zr zr zr zr zr (go ?_)
  ((refine de zr zr zr zr (hsg) ag ?_ (fun _ _ w hp hw=>by obtain⟨_,rfl,rfl⟩:=hp;exact hw.cu ag)))
  rintro _ _⟨rv,rfl,rfl⟩
  refine aH 0 rfl ?_
  rintro ra rc rfl
  refine oe ?_
  refine gG rfl ?_
  refine al (ao.trans ag (xD bs bd jb q mb s (aB 5 1 (.slice ra bb.length rc) bb.length (bV bb)::ae y.yb (cl (ri y) 163)::ae y.sb (cl [.int .i64 (y.n:Int),wv] 376)::aB 46 1 wv y.ws.length (qV y.ws)::aI (Value.int .i64) y.mb cs::a7 32 N::aB 22 1 (.slice oa M.cs.length oc) M.cs.length M.cs::M.Z::ae tb (cl [ptr bs,ptr jb,tv,.bool br] 156)::X::F))) ?_
  refine qP (bs:=bb) 1 rfl ?_
  intro aei
  obtain⟨pf,hpf⟩:∃l,l=(y.pf (i:Int)).getD []:=⟨_,rfl⟩
  rw[← hpf]at Y3 Ph QR He hs4
  have Ps:=Fg (Sep [X,aB 5 1 (.slice ra bb.length rc) bb.length (bV bb),a7 32 N]) (hK.mono (bn (H:=[X,aB 5 1 (.slice ra bb.length rc) bb.length (bV bb),a7 32 N]) (i:=0) rfl)) y.x (i:Int) (.slice ra bb.length rc) bb (aei.mono (bn (i:=1) rfl)) ai (.slice pa pf.length pc) pf ⟨(Ph.view _).mono (bn (i:=2) rfl),pa,pc,rfl,QR⟩
  have hdr:=Il y i ai abF Z'
  refine al (ao.pick [10,1,6,2,5,3,4,7,8,9] rfl) ?_
  refine al (ao.bK [X,aB 5 1 (.slice ra bb.length rc) bb.length (bV bb),a7 32 N] _) ?_
  have mI:∀H,ao (Sep [X,aB 5 1 (.slice ra bb.length rc) bb.length (bV bb),a7 32 N]::ae y.yb (cl (ri y) 163)::aI (Value.int .i64) y.mb cs::ae y.sb (cl [.int .i64 (y.n:Int),wv] 376)::aB 46 1 wv y.ws.length (qV y.ws)::H) (ae y.yb (cl (ri y) 163)::ae y.sb (cl [.int .i64 (y.n:Int),wv] 376)::aB 46 1 wv y.ws.length (qV y.ws)::aI (Value.int .i64) y.mb cs::a7 32 N::X::H):=fun H=>(ao.bY [X,aB 5 1 (.slice ra bb.length rc) bb.length (bV bb),a7 32 N] _).trans ag
  refine aL (fun w=>Sat G w ([ae y.yb (cl (ri y) 163),aI (Value.int .i64) y.mb cs])) (cJ 0 15 (.act 15 (.st 16 (.st 17 .nil)))) rfl ah ah ah dv ?_
  refine go ?_
  by_cases he:ee=0
  case neg =>
   have zq:=He (.inl he)
   refine aG 45 ((.bool true)) rfl ((congrArg Value.bool (decide_eq_true ai))) (go ?_)
   refine aN (ao.trans ag (mI (aB 22 1 (.slice oa M.cs.length oc) M.cs.length M.cs::M.Z::ae tb (cl [ptr bs,ptr jb,tv,.bool br] 156)::da bs bd jb q mb [] s::F))) ?_
   refine aN (mL _) (go ?_)
   refine aw hdr ?_
   refine go ?_
   refine bq 1 ((ptr y0.yb)) rfl ((by rw[KF])) ?_
   refine aM ih (i+1,y.drop i,M,oa,oc) rfl ⟨by simp only;omega,KF,by rw[zq];rfl,by rw[zq];exact hM,by simp only;omega⟩ ai bS ag
  refine aG 45 ((.bool false)) rfl ((congrArg Value.bool (decide_eq_false ai))) (go ?_)
  refine cC (U:=aU) (cs:=ck y.x) 0 zr zr zr zr zr zr (go ?_)
  refine Aa (U:=aU) (kv:=Value.int .i64) (es:=cs) (key:=(i:Int)) rfl (qy Tryz.underlying3) zr zr zr zr zr zr zr (fun w hw=>hw.k9 (i:=1) rfl) ?_
  refine aG 57 ((.slice pa pf.length pc)) rfl (Y3) (go ?_)
  refine bE Ps ?_
  cases hpb:l6 y.x i bb pf with
  | false =>
   have zq:=He (.inr hpb)
   refine go ?_
   refine aN (ao.trans ag (mI (aB 22 1 (.slice oa M.cs.length oc) M.cs.length M.cs::M.Z::ae tb (cl [ptr bs,ptr jb,tv,.bool br] 156)::da bs bd jb q mb [] s::F))) ?_
   refine aN (mL _) (go ?_)
   refine aw hdr ?_
   refine go ?_
   refine bq 1 ((ptr y0.yb)) rfl ((by rw[KF])) ?_
   refine aM ih (i+1,y.drop i,M,oa,oc) rfl ⟨by simp only;omega,KF,by rw[zq];rfl,by rw[zq];exact hM,by simp only;omega⟩ ai bS ag
  | true =>
  have zq:=hs4 (fun h=>by rcases h with h|h;exact h he;rw[hpb]at h;cases h)
  have AT:=ES hpb
  have Pm:=IJ y.x.d i ai (a7 32 N) (.slice pa pf.length pc) pf (Ph.view _) ai
  refine go ?_
  refine al (ao.trans ag (mI (aB 22 1 (.slice oa M.cs.length oc) M.cs.length M.cs::M.Z::ae tb (cl [ptr bs,ptr jb,tv,.bool br] 156)::da bs bd jb q mb [] s::F))) ?_
  refine aL (fun w=>Sat G w ([ae y.yb (cl (ri y) 163),aI (Value.int .i64) y.mb cs])) (cJ 0 13 (.act 13 (.act 14 (.act 15 (.st 16 .nil))))) rfl ah ah ah dv ?_
  refine go ?_
  refine cC (U:=aU) (cs:=dC y.x.d) 0 zr zr zr zr zr zr (go ?_)
  refine Aa (U:=aU) (kv:=Value.int .i64) (es:=cs) (key:=(i:Int)) rfl (qy Tryz.underlying3) zr zr zr zr zr zr zr (fun w hw=>hw.k9 (i:=1) rfl) ?_
  refine aG 76 ((.slice pa pf.length pc)) rfl (Y3) (go ?_)
  refine cT Pm ?_
  rintro r9 _ rfl
  refine aH 0 rfl ?_
  rintro a9 c9 rfl
  refine eZ (bs:=cP y.x.d i pf) 0 rfl ?_
  intro PK
  refine go ?_
  refine aj (cs:=[.slice a9 (cP y.x.d i pf).length c9]) zr zr zr zr zr zr zr zr zr (fun _ w hw=>hw.cu ag) ?_
  intro Iw
  refine aN (H':=ae Iw (cl [.slice a9 (cP y.x.d i pf).length c9] 22)::aB 22 1 (.slice oa M.cs.length oc) M.cs.length M.cs::aB 5 1 (.slice a9 (cP y.x.d i pf).length c9) (cP y.x.d i pf).length (bV (cP y.x.d i pf))::M.Z::ae y.yb (cl (ri y) 163)::ae y.sb (cl [.int .i64 (y.n:Int),wv] 376)::aB 46 1 wv y.ws.length (qV y.ws)::aI (Value.int .i64) y.mb cs::a7 32 N::ae tb (cl [ptr bs,ptr jb,tv,.bool br] 156)::da bs bd jb q mb [] s::X::F) ag (go ?_)
  refine aJ (mm:=1) (news:=[.slice a9 (cP y.x.d i pf).length c9]) 1 0 rfl rfl rfl rfl rfl rfl rfl rfl rfl rfl rfl rfl (Vw.ae rfl) rfl (by intro v hv;simp at hv;rw[hv];rfl) ai (by show(_+_)*24≤_;omega) (fun _=>rfl) (fun _ w hw=>hw.cu ag) ?_
  intro v1
  refine aH 1 rfl ?_
  rintro ja jc rfl
  refine go ?_
  have CY:=hM.add PK
  have Zq:(M.cs++[Value.slice a9 (cP y.x.d i pf).length c9]).length=M.cs.length+1:=by simp
  refine al (H':=aB 5 1 (.slice a9 (cP y.x.d i pf).length c9) (cP y.x.d i pf).length (bV (cP y.x.d i pf))::M.Z::ae y.yb (cl (ri y) 163)::ae y.sb (cl [.int .i64 (y.n:Int),wv] 376)::aB 46 1 wv y.ws.length (qV y.ws)::aI (Value.int .i64) y.mb cs::a7 32 N::aB 22 1 (.slice ja (M.cs++[Value.slice a9 (cP y.x.d i pf).length c9]).length jc) (M.cs++[Value.slice a9 (cP y.x.d i pf).length c9]).length (M.cs++[Value.slice a9 (cP y.x.d i pf).length c9])::ae tb (cl [ptr bs,ptr jb,tv,.bool br] 156)::da bs bd jb q mb [] s::X::F) (by rw[Zq];exact ag) ?_
  refine al (ao.bK [aB 5 1 (.slice a9 (cP y.x.d i pf).length c9) (cP y.x.d i pf).length (bV (cP y.x.d i pf)),M.Z] _) ?_
  refine al (ao.trans ag (mL (Sep [aB 5 1 (.slice a9 (cP y.x.d i pf).length c9) (cP y.x.d i pf).length (bV (cP y.x.d i pf)),M.Z]::aB 22 1 (.slice ja (M.cs++[Value.slice a9 (cP y.x.d i pf).length c9]).length jc) (M.cs++[Value.slice a9 (cP y.x.d i pf).length c9]).length (M.cs++[Value.slice a9 (cP y.x.d i pf).length c9])::ae tb (cl [ptr bs,ptr jb,tv,.bool br] 156)::da bs bd jb q mb [] s::X::F))) ?_
  refine bq 1 ((ptr y0.yb)) rfl ((by rw[KF])) ?_
  refine bq 5 ((.slice ja (M.cs++[Value.slice a9 (cP y.x.d i pf).length c9]).length jc)) rfl ((by rw[Zq])) ?_
  refine aM ih (i+1,y,⟨M.cs++[Value.slice a9 (cP y.x.d i pf).length c9],Sep [aB 5 1 (.slice a9 (cP y.x.d i pf).length c9) (cP y.x.d i pf).length (bV (cP y.x.d i pf)),M.Z]⟩,ja,jc) rfl ⟨by simp only;omega,KF,by rw[zq],by rw[zq];exact CY,by simp only[Zq];omega⟩ ai bS ag
 ·intro ep
  have qY:i=y0.n:=by omega
  subst qY
  refine pk 0 rfl ?_
  intro fY
  refine eh 0 rfl ?_
  intro I'
  have uB:=hM.1
  have lz:qN (Sep [aB 22 1 (.slice oa M.cs.length oc) M.cs.length M.cs,M.Z]) (.slice oa M.cs.length oc) (ki s.1 y0.c).2:=by
   rw[uB]at I' fY ⊢
   exact qN.ofP I' fY uB hM.2
  refine al (ao.bK [aB 22 1 (.slice oa M.cs.length oc) M.cs.length M.cs,M.Z] _) (go ?_)
  refine ad hE Tryz.func65 zr zr ⟨y,_,KF,O',lz,rfl⟩
end Go.Proofs.YtlcoaflddajjcaaGreatDoor
namespace Go.Proofs.YtlcoaflddajjcaaGreatDoor
open Go Go.SL
def ND(c:TC):Prop:=mR c∧bJ c.x=true
theorem mR.fresh(x:Bl):mR (nG x):=by
 have h:=zK x
 unfold mR nG
 grind
theorem mR.put{c:TC}(h:mR c)(i:Nat){l:List Dg}(hl:l.length≤10):mR (c.put i l):=⟨h.1,by unfold TC.put;simp only[mA];exact h.2.1,by unfold TC.put;simp only[mA];exact h.2.2.1,fun k l' hk=>by
  unfold TC.put at hk
  simp only at hk
  split at hk
  · grind
  · exact h.2.2.2 k l' hk⟩
theorem zd{cs:List TC}(h:∀c∈cs,ND c)(d:Dg)(m:List UInt8)(l:List (List UInt8)):(∀c∈oE cs d m l,ND c)∧(oE cs d m l).length=cs.length:=by
 unfold oE
 split
 ·refine⟨fun c hc=>?_,by simp⟩
  obtain⟨y,hy,rfl⟩:=List.mem_map.1 hc
  split
  ·rename_i hh
   exact⟨(h y hy).1.put _ (by rw[hh.2.2];exact tH _ _),(h y hy).2⟩
  grind
 grind
def Yt{cs:List TC}(h:∀c∈cs,ND c)(d:Dg):(∀c∈ON cs d,ND c)∧(ON cs d).length≤cs.length:=⟨fun c hc=>h c (List.mem_filter.1 hc).1,List.length_filter_le _ _⟩
theorem Le{cs:List TC}(h:∀c∈cs,ND c)(b:List UInt8):(∀c∈fM cs b,ND c)∧(fM cs b).length≤cs.length+1:=by
 unfold fM
 split
 ·grind
 ·rename_i k d more _
  have hr:=Yt h d
  split
  ·grind
  ·split
   ·split
    ·split
     ·split
      ·rename_i QP
       refine⟨fun c hc=>?_,by rw[List.length_append];simp;omega⟩
       rcases List.mem_append.1 hc with hc|hc
       ·exact hr.1 c hc
       ·rw[List.mem_singleton.1 hc];exact⟨mR.fresh _,QP⟩
      grind
     grind
    grind [zd]
   ·grind [zd]
   grind
theorem GJ:∀(ls:List (List UInt8)) (cs:List TC),(∀c∈cs,ND c)→(∀c∈ls.foldl fM cs,ND c)∧(ls.foldl fM cs).length≤cs.length+ls.length
 | [],cs,h=>⟨h,by simp⟩
 | b::ls,cs,h=>by
  obtain⟨h1,h2⟩:=Le h b
  obtain⟨h3,h4⟩:=GJ ls (fM cs b) h1
  grind
theorem vC(ls:List (List UInt8)):(∀c∈ls.foldl fM [],ND c)∧(ls.foldl fM []).length≤ls.length:=by
 grind [GJ]
theorem Gz{q:Int}{x:Bl}{s t:ml}{e:Nat}(h:e7 q x s e t):t.cq=s.cq∨t.cq=s.cq++[(x.d,x)]:=by
 unfold e7 at h
 split at h
 ·grind
 split at h
 ·grind
 split at h
 ·grind
 split at h
 ·grind
 split at h
 ·grind
 ·obtain⟨e1,s1,⟨B,_,rfl⟩,h2⟩:=h
  grind
theorem l4{x:Bl}(h:bJ x=true):1≤x.size∧x.size≤1048576∧16≤x.piece∧x.piece≤16384:=by
 grind [bJ]
theorem py.begin{q:Int}{x:Bl}{s t:ml}{e:Nat}(h:py s.cq)(hl:s.cq.length<1000000)(hr:bJ x=true)(hR:e7 q x s e t):py t.cq∧t.cq.length≤s.cq.length+1:=by
 rcases Gz hR with h1|h1
 ·grind
 ·rw[h1]
  have:=l4 hr
  refine⟨⟨fun y hy=>?_,by simp;omega⟩,by simp⟩
  rcases List.mem_append.1 hy with hy|hy
  ·exact h.1 y hy
  grind
theorem ud:∀(ss:List (PS→Nat→PS→Prop)),(∀sp∈ss,∀x e y,sp x e y→ko x.1 y.1)→∀(x:PS) (e:Nat) (y:PS),mh ss x e y→y.1.aV.length≤x.1.aV.length+ss.length∧y.1.writes.length≤x.1.writes.length+ss.length
 | [],_,x,e,y,h=>by obtain⟨_,rfl⟩:=h;simp
 | sp::ss,hs,x,e,y,⟨e1,x1,h1,h2⟩=>by
  have hg:=hs sp (List.mem_cons_self ..) x e1 x1 h1
  unfold ko at hg
  rcases h2 with⟨_,_,rfl⟩|⟨_,h2⟩
  ·grind
  ·have:=ud ss (fun sp h=>hs sp (List.mem_cons_of_mem _ h)) x1 e y h2
   grind
theorem zY{nm:ByteArray}{ls:List (List UInt8)}{x y:PS}{e:Nat}(h:Ge nm ls x e y):y.1.aV.length≤x.1.aV.length+7∧y.1.writes.length≤x.1.writes.length+7:=by
 have hg:=ud (gx nm ls x.1) (fun sp Hc x e y hS=>by
  unfold gx at Hc
  have key:sp=As (bU nm)∨sp∈[Au (bU nm),Ez (bU nm) (cD ls),Lt (bU nm),Ar (bU nm) nm,EA,Yq (ls.flatMap cQ).length]:=by
   grind
  simp only[List.mem_cons,List.not_mem_nil,or_false]at key
  rcases key with rfl|rfl|rfl|rfl|rfl|rfl|rfl
  ·obtain⟨⟨h1,h2⟩,_⟩:=hS;rw[h2];exact oT _ _ _
  ·obtain⟨⟨f,_,h1,h2⟩,_⟩:=hS;rw[h2];exact oU _ _ _ _
  ·obtain⟨⟨h1,h2⟩,_⟩:=hS;rw[h2];exact nF _ _ _ _ _
  ·obtain⟨⟨h1,h2⟩,_⟩:=hS;rw[h2];exact pQ _ _ _
  ·obtain⟨⟨h1,h2⟩,_⟩:=hS;rw[h2];exact uE _ _ _ _
  ·obtain⟨⟨h1,h2⟩,_⟩:=hS;rw[h2];exact iY _
  ·obtain⟨h1,h2⟩:=hS;rw[h2];exact⟨by simp,by simp⟩) x e y h
 grind [gx]
theorem xF{A A':Ab}{nm:ByteArray}{e:Nat}{j:JN}(h:ph A nm e A' j):A'.aV.length≤A.aV.length+7∧A'.writes.length≤A.writes.length+7:=by
 unfold ph at h
 split at h
 ·grind
 split at h
 ·grind
 obtain⟨y,hy,rfl,_⟩:=h
 exact zY hy
theorem Jf(s:ml)(z:TC × List (List UInt8))(hz:mR z.1)(i:Nat)(hi:i≤1000000000000):(∀x∈(mJ s z i).2,x∈z.2∨x.length≤760)∧(mJ s z i).2.length≤z.2.length+1:=by
 unfold mJ
 split
 ·split
  ·grind
  ·refine⟨fun x hx=>?_,by simp⟩
   rcases List.mem_append.1 hx with hx|hx
   ·exact .inl hx
   ·right
    rw[List.mem_singleton.1 hx]
    have AT:((z.1.pf i).getD []).length≤10:=by
     cases hp:z.1.pf i with
     | none=>simp
     | some l=>exact hz.2.2.2 _ l hp
    have:=rB 2 z.1.x.d (jC i ((z.1.pf i).getD [])) (by simp[jC];omega) (we i hi _)
    grind [cP,jC]
 grind
theorem zt(s:ml)(c:TC)(hc:mR c)(hr:bJ c.x=true):∀k,k≤1024→(∀x∈(ie s c k).2,x.length≤760)∧(ie s c k).2.length≤k+1
 | 0,_=>by
  refine⟨fun x hx=>?_,by simp[ie]⟩
  have:x=cE c.x:=by simpa[ie]using hx
  rw[this]
  have hb:=l4 hr
  have:=rB 1 c.x.d (lh c.x) (by simp[lh]) (qL c.x ai ai)
  unfold cE
  omega
 | k+1,hk=>by
  obtain⟨h1,h2⟩:=zt s c hc hr k ai
  rw[nC]
  obtain⟨h3,h4⟩:=Jf s (ie s c k) (hc.hold k) k ai
  grind
theorem Jg(s:ml)(c:TC)(h:ND c):(∀x∈(ki s c).2,x.length≤760)∧(ki s c).2.length≤1025:=by
 obtain⟨h1,h2⟩:=zt s c h.1 h.2 c.n h.1.1
 have:=h.1.1
 grind [ki]
theorem wW:∀(ls:List (List UInt8)) (n:Nat),(∀x∈ls,x.length≤760)→ls.length≤n→(ls.flatMap cQ).length≤770*n
 | [],n,_,_=>by simp
 | x::ls,n,h,hn=>by
  rw[List.length_cons]at hn
  have:=wW ls (n-1) (fun y hy=>h y (List.mem_cons_of_mem _ hy)) ai
  grind [w5]
end Go.Proofs.YtlcoaflddajjcaaGreatDoor
