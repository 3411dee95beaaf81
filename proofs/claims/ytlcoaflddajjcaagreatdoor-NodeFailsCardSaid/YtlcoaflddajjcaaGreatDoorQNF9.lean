import Derived.Test.YtlcoaflddajjcaaGreatDoorQNF2
import Derived.Test.YtlcoaflddajjcaaGreatDoorQNF3
import Derived.Test.YtlcoaflddajjcaaGreatDoorQNF5
import Derived.Test.YtlcoaflddajjcaaGreatDoorQNF6
import Derived.Test.YtlcoaflddajjcaaGreatDoorQNF7
import Derived.Test.YtlcoaflddajjcaaGreatDoorQNF8
import Derived.Shelf.SortG.Plain
import Derived.Shelf.SortG.SortNone
import Derived.Test.YtlcoaflddajjcaaGreatDoorChecked
set_option linter.unusedSectionVars false
set_option linter.unusedSimpArgs false
set_option linter.unusedVariables false
set_option maxHeartbeats 1000000
set_option maxRecDepth 20000
set_option linter.defProp false
namespace Go.Proofs.YtlcoaflddajjcaaGreatDoor
open Go Go.SL
def kS:List UInt8:=[115,45]
def kB:List UInt8:=[98,45]
def kN:List UInt8:=[110,45]
def kI:List UInt8:=[105,45]
def nZ(A:Ab)(nm:ByteArray):Bool:=(A.look nm).isSome
def gg(A:Ab)(nm:ByteArray):Option (List UInt8):=match A.look nm with
 | none=>none
 | some f=>if A.off then none else some (A.now f)
def gf(A:Ab)(d:Dg):Option (List Bl):=(gg A (eS kI d)).bind qG
def jx(A:Ab)(d:Dg):Bool:=match gg A (eS kB d)with
 | none=>false
 | some b=>decide (ej b=d)
def fe(A:Ab)(d:Dg):Bool:=match gf A d with
 | none=>false
 | some x=>decide (cw x=d) && x.all fun y=>jx A y.d
def K4(A:Ab):Nat:=(A.names.map fun x=>if(gT kB x.1).isSome then(A.now x.2).length else 0).sum
def eW(A:Ab):List ByteArray:=(ou (gj A)).map strOf
def lL(A:Ab):List Dg:=(eW A).filterMap (gT kI)
abbrev KR:=Ab→Nat→Ab→Prop
def iO(nm:ByteArray):KR:=fun A e B=>∃f,f ∉ A.fs.map (·.1)∧(e,B)=A.create (isName nm) nm f
def BU(nm:ByteArray):KR:=fun A e B=>(e,B)=A.remove (isName nm) nm
def ff:KR:=fun A e B=>(e,B)=A.cF
def mS(kind:List UInt8)(right:Ab→Dg→Bool):List ByteArray→KR
 | [],A,e,B=>e=0∧B=A
 | nm::l,A,e,B=>match gT kind nm with
  | none=>mS kind right l A e B
  | some d=>if right A d then mS kind right l A e B else ∃e1 A1,BU nm A e1 A1∧((e1≠0∧e=e1∧B=A1)∨(e1=0∧mS kind right l A1 e B))
def dX(kind:List UInt8)(right:Ab→Dg→Bool):KR:=fun A=>mS kind right (eW A) A
def pg:KR:=fun A e B=>∃e1 A1,mh [dX kB jx,dX kN (fun _ _=>false),dX kI fe] A e1 A1 ∧
 if e1=0∧A1.names.length<A.names.length then ff A1 e B else e=e1∧B=A1
structure ml where
 A:Ab
 cq:List (Dg × Bl)
 brk:Bool
def yz(l:List (Dg × Bl))(d:Dg):Option Bl:=(l.find? fun x=>decide (x.1=d)).map (·.2)
def nO(s:ml):Int:=K4 s.A+(s.cq.map (·.2.size)).sum
def P7(ss:List KR)(s:ml)(e:Nat)(t:ml):Prop:=∃B,mh ss s.A e B∧t=⟨B,s.cq,s.brk || decide (e≠0)⟩
def fS(x:Bl):ByteArray:=eS kS x.d
def fB(x:Bl):ByteArray:=eS kB x.d
def e7(q:Int)(x:Bl)(s:ml)(e:Nat)(t:ml):Prop :=
 if s.brk then e=10∧t=s else if bJ x=false then e=1∧t=s else if(yz s.cq x.d).isSome∨nZ s.A (fB x)then e=5∧t=s
 else if q<nO s+x.size then e=11∧t=s
 else if nZ s.A (fS x)then e=0∧t=⟨s.A,s.cq++[(x.d,x)],s.brk⟩
 else ∃e1 s1,P7 [iO (fS x),ff] s e1 s1∧((e1≠0∧e=e1∧t=s1)∨(e1=0∧e=0∧t=⟨s1.A,s1.cq++[(x.d,x)],s1.brk⟩))
attribute [local irreducible] J K au Ends ae aB aI bB aW aS a7 aX bF Sha.chunks Sha.chunk Sha.rounds Sha.sched ej cz GI dq
def Np(o:Option Bl):Value:=match o with
 | none => .tuple #[jU Bl.zero,.bool false]
 | some x => .tuple #[jU x,.bool true]
def F0{b:List UInt8}(h:nW b=none):kj b=none:=by unfold kj;rw[h]
theorem JS{b:List UInt8}{xs:List (Int × List UInt8)}(h:nW b=some xs)(hl:xs.length≠4):kj b=none:=by
 grind [kj]
def F1{b:List UInt8}{n1 n2 n3 n4:Int}{b1 b2 b3 b4:List UInt8}(h:nW b=some [(n1,b1),(n2,b2),(n3,b3),(n4,b4)]) :
  kj b=if n4≠4∨b1.length≠32∨b4.length≠32 then none else match cY b2,cY b3 with
  | some s,some p=>if 1048576<max s p then none else some ⟨tF b1,s,p,tF b4⟩
  | _,_=>none:=by unfold kj;rw[h];rfl
theorem w7{b:List UInt8}(h:b.length=32):bV b=dC (tF b):=by
 grind [tF,dW]
theorem BM:∀(f:Nat) (b:List UInt8) (x:Int × List UInt8),x∈q6 f b→x.2.length≤b.length
 | 0,b,x,h=>by simp[q6]at h
 | f+1,[],x,h=>by simp[q6]at h
 | f+1,c::r,x,h=>by
  have h1:=o4 r
  rw[q6]at h
  split at h
  ·rcases List.mem_cons.1 h with rfl|h
   ·grind
   ·have:=BM f _ x h
    grind
  grind
def q8{b:List UInt8}{l:List (Int × List UInt8)}(h:nW b=some l):∀x∈l,x.2.length≤65536:=by
 unfold nW at h
 split at h
 ·cases h
 ·split at h
  ·cases h
   intro x hx
   have:=BM _ _ x hx;omega
  ·cases h
def IY(A:HP)(v:Value)(b:List UInt8)(hv:ew A v b)(hl:b.length≤1000000000) :
  au Tryz.prog 261 [v] [A] (fun r H=>r=Np (kj b)∧H=[A]):=by
 have htd:=l3 A v b hv hl
 obtain⟨a,c,rfl,hc⟩:=hv.2
 refine au.ak Tryz.func261 Tryz.ntmps261 fun G F R hE=>?_
 refine aD rfl ?_
 refine az zr zr zr bh ?_
 intro b2
 refine go ?_
 refine aF htd ?_
 rintro _ _ (⟨hn,rfl,rfl⟩|⟨xs,dJ,Z,rv,hs,nT,⟨cW,sL⟩,rfl,rfl,-⟩)
 ·rw[F0 hn]at hE
  repeat'(first|refine er ?_|fail)
  all_goals((skip))
  (refine a6 hE ?_;apply aZ (U:=aU) hE Tryz.func261 rfl (ao.refl _);(repeat(first|exact aR.nil|apply aR.tmp rfl|apply aR.agg 1 zr zr zr zr zr));exact⟨rfl,rfl⟩;exact ag)
 obtain⟨ra,rc,rfl⟩:=cW.shape
 by_cases h4:dJ.length=4
 case neg =>
  rw[JS hs (by rw[← nT,List.length_map];exact h4)]at hE
  repeat'(first|(with_reducible intro jg)|refine er ?_|refine dP zr zr zr zr ?_ ?_|fail)
  all_goals(first|(exfalso;omega)|skip)
  (refine a6 hE ?_;apply aZ (U:=aU) hE Tryz.func261 rfl (ao.refl _);(repeat(first|exact aR.nil|apply aR.tmp rfl|apply aR.agg 2 zr zr zr zr zr));exact⟨rfl,rfl⟩;exact ag)
 obtain⟨i1,i2,i3,i4,rfl⟩:∃i1 i2 i3 i4,dJ=[i1,i2,i3,i4]:=by
  match dJ,h4 with
  | [i1,i2,i3,i4],_=>exact⟨i1,i2,i3,i4,rfl⟩
 obtain⟨n1,v1,b1⟩:=i1
 obtain⟨n2,v2,bs2⟩:=i2
 obtain⟨n3,v3,Ra⟩:=i3
 obtain⟨n4,v4,bs4⟩:=i4
 have sO:ew Z v1 b1:=sL ⟨n1,v1,b1⟩ (by simp)
 have rR:ew Z v2 bs2:=sL ⟨n2,v2,bs2⟩ (by simp)
 have Zu:ew Z v3 Ra:=sL ⟨n3,v3,Ra⟩ (by simp)
 have hb4:ew Z v4 bs4:=sL ⟨n4,v4,bs4⟩ (by simp)
 obtain⟨a1,c1,rfl,_⟩:=sO.2
 obtain⟨a2,c2,rfl,_⟩:=rR.2
 obtain⟨a3,c3,rfl,_⟩:=Zu.2
 obtain⟨a4,c4,rfl,_⟩:=hb4.2
 obtain⟨rb,ro,rcc,he⟩:=cW.some (by simp[gY])
 simp only[Value.slice.injEq]at he
 obtain⟨rfl,_,rfl⟩:=he
 simp only[List.map_cons,List.map_nil,It.p]at nT
 subst nT
 have BH:=F1 hs
 have CJ:Vw Z (.slice (some ⟨rb,ro,none⟩) 4 rc) 4 [.int .i64 n1,.slice a1 b1.length c1,.int .i64 n2,.slice a2 bs2.length c2,.int .i64 n3,.slice a3 Ra.length c3,.int .i64 n4,.slice a4 bs4.length c4]:=cW
 have hN:(n4≠4∨b1.length≠32∨bs4.length≠32)→kj b=none:=fun h=>by rw[BH,if_pos h]
 simp only[List.length_cons,List.length_nil,Nat.zero_add,Nat.reduceAdd]
 clear cW sL htd h4
 repeat'(first|(with_reducible intro jg)|refine er ?_|refine dP zr zr zr zr ?_ ?_|refine aq zr zr ?_ ?_|refine bW 3 2 zr zr zr zr zr zr zr zr (by simp) ?_|refine bW 0 2 zr zr zr zr zr zr zr zr (by simp) ?_|refine aQ 0 (3*2+0) zr zr zr CJ (Nat.add_assoc _ _ _) zr zr zr ?_|refine aQ 0 (3*2+1) zr zr zr CJ (Nat.add_assoc _ _ _) zr zr zr ?_|refine aQ 0 (0*2+1) zr zr zr CJ (Nat.add_assoc _ _ _) zr zr zr ?_)
 ·rw[hN ai]at hE
  refine go ?_
  (refine a6 hE ?_;apply aZ (U:=aU) hE Tryz.func261 rfl (ao.refl _);(repeat(first|exact aR.nil|apply aR.tmp rfl|apply aR.agg 2 zr zr zr zr zr));exact⟨rfl,rfl⟩;exact ag)
 ·rw[hN ai]at hE
  refine go ?_
  (refine a6 hE ?_;apply aZ (U:=aU) hE Tryz.func261 rfl (ao.refl _);(repeat(first|exact aR.nil|apply aR.tmp rfl|apply aR.agg 2 zr zr zr zr zr));exact⟨rfl,rfl⟩;exact ag)
 ·rw[hN ai]at hE
  refine go ?_
  (refine a6 hE ?_;apply aZ (U:=aU) hE Tryz.func261 rfl (ao.refl _);(repeat(first|exact aR.nil|apply aR.tmp rfl|apply aR.agg 2 zr zr zr zr zr));exact⟨rfl,rfl⟩;exact ag)
 have hk4:n4=4:=by omega
 have wH:b1.length=32:=by omega
 have hl4:bs4.length=32:=by omega
 rw[if_neg (by rintro(h|h|h) <;> exact h (by assumption))]at BH
 refine go ?_
 refine bW 1 2 zr zr zr zr zr zr zr zr ai (go ?_)
 refine aP ?_
 refine aQ 0 (1*2+1) zr zr zr CJ (Nat.add_assoc _ _ _) zr zr zr ?_
 have Y':=q8 hs (n2,bs2) (by simp)
 have hm3:=q8 hs (n3,Ra) (by simp)
 simp only at Y' hm3
 refine aw (ll Z _ bs2 rR ai) ?_
 cases hu2:cY bs2 with
 | none =>
  rw[hu2]at BH
  rw[BH]at hE
  simp only
  refine go ?_
  refine bW 2 2 zr zr zr zr zr zr zr zr ai (go ?_)
  refine aP ?_
  refine aQ 0 (2*2+1) zr zr zr CJ (Nat.add_assoc _ _ _) zr zr zr ?_
  refine aw (ll Z _ Ra Zu ai) ?_
  cases cY Ra with
  | none =>
   simp only
   repeat'(first|refine er ?_|fail)
   all_goals((skip))
   (refine a6 hE ?_;apply aZ (U:=aU) hE Tryz.func261 rfl (ao.refl _);(repeat(first|exact aR.nil|apply aR.tmp rfl|apply aR.agg 2 zr zr zr zr zr));exact⟨rfl,rfl⟩;exact ag)
  | some p =>
   simp only
   repeat'(first|refine er ?_|fail)
   all_goals((skip))
   (refine a6 hE ?_;apply aZ (U:=aU) hE Tryz.func261 rfl (ao.refl _);(repeat(first|exact aR.nil|apply aR.tmp rfl|apply aR.agg 2 zr zr zr zr zr));exact⟨rfl,rfl⟩;exact ag)
 | some s =>
  rw[hu2]at BH
  simp only
  refine go ?_
  refine bW 2 2 zr zr zr zr zr zr zr zr ai (go ?_)
  refine aP ?_
  refine aQ 0 (2*2+1) zr zr zr CJ (Nat.add_assoc _ _ _) zr zr zr ?_
  refine aw (ll Z _ Ra Zu ai) ?_
  cases hu3:cY Ra with
  | none =>
   rw[hu3]at BH
   rw[BH]at hE
   simp only
   repeat'(first|refine er ?_|fail)
   all_goals((skip))
   (refine a6 hE ?_;apply aZ (U:=aU) hE Tryz.func261 rfl (ao.refl _);(repeat(first|exact aR.nil|apply aR.tmp rfl|apply aR.agg 2 zr zr zr zr zr));exact⟨rfl,rfl⟩;exact ag)
  | some p =>
   rw[hu3]at BH
   simp only at BH ⊢
   repeat'(first|(with_reducible intro jg)|refine er ?_|refine aq zr zr ?_ ?_)
   all_goals((skip))
   ·rw[if_pos ai]at BH
    rw[BH]at hE
    refine go ?_
    (refine a6 hE ?_;apply aZ (U:=aU) hE Tryz.func261 rfl (ao.refl _);(repeat(first|exact aR.nil|apply aR.tmp rfl|apply aR.agg 2 zr zr zr zr zr));exact⟨rfl,rfl⟩;exact ag)
   ·rw[if_neg ai]at BH
    rw[BH]at hE
    have aeL:s≤1048576:=by omega
    have aeN:p≤1048576:=by omega
    obtain⟨xb1,xo1,xc1,Q0⟩:=sO.1.some (by intro h;have:=congrArg List.length h;rw[bD,wH]at this;cases this)
    simp only[Value.slice.injEq]at Q0
    obtain⟨rfl,_,rfl⟩:=Q0
    obtain⟨xb4,xo4,xc4,he4⟩:=hb4.1.some (by intro h;have:=congrArg List.length h;rw[bD,hl4]at this;cases this)
    simp only[Value.slice.injEq]at he4
    obtain⟨rfl,_,rfl⟩:=he4
    have mH:=sO.1
    rw[w7 wH]at mH
    have hv4:=hb4.1
    rw[w7 hl4]at hv4
    refine aL (fun w=>Sat G w ([Z])) (cJ 0 17 (.act 17 (.st 18 .nil))) rfl ah ah ah dv ?_
    refine go ?_
    (repeat(first|refine er ?_|refine bW 0 2 zr zr zr zr zr zr zr zr ai ?_|refine bW 3 2 zr zr zr zr zr zr zr zr ai ?_|(refine aP ?_;first|refine cO 0 (0*2+1) zr zr zr CJ (Nat.add_assoc _ _ _) zr zr zr ?_|refine cO 0 (3*2+1) zr zr zr CJ (Nat.add_assoc _ _ _) zr zr zr ?_|refine eC (U:=aU) (es:=dC (tF b1)) 0 0 zr zr zr mH rfl (fun j v hj=>by rw[Nat.zero_add];exact hj) zr zr zr ?_|refine eC (U:=aU) (es:=dC (tF bs4)) 0 0 zr zr zr hv4 rfl (fun j v hj=>by rw[Nat.zero_add];exact hj) zr zr zr ?_)|refine Ad (U:=aU) zr zr zr zr ai ?_))
    refine aY ?_
    refine bN 2 dv zr zr zr zr zr zr zr zr zr (go ?_)
    (refine a6 hE ?_;apply aZ (U:=aU) hE Tryz.func261 rfl (ao.refl _);(repeat(first|exact aR.nil|apply aR.tmp rfl|apply aR.agg 2 zr zr zr zr zr));exact⟨rfl,rfl⟩;exact ag)
theorem ux:∀(l:List (Int × List UInt8)) (i:Nat) (x:Int × List UInt8),gi i (l++[x])=match gi i l with
  | none=>none
  | some y=>match kj x.2 with
   | none=>none
   | some z=>if x.1≠((i+l.length:Nat):Int)+1 then none else some (y++[z])
 | [],i,(n,b)=>by
  grind [gi,kj]
 | (m,c)::l,i,(n,b)=>by
  simp only[List.cons_append,gi,ux l (i+1) (n,b),List.length_cons]
  cases kj c with
  | none=>rfl
  | some y =>
   grind
def uu:∀(l r:List (Int × List UInt8)) (i:Nat),gi i l=none→gi i (l++r)=none
 | [],r,i,h=>by cases h
 | (n,b)::l,r,i,h=>by
  simp only[List.cons_append,gi]at h ⊢
  cases hb:kj b with
  | none=>rfl
  | some x =>
   rw[hb]at h
   simp only at h ⊢
   split at h
   ·rename_i hn;rw[if_pos hn]
   ·rename_i hn
    rw[if_neg hn]
    rw[uu l r (i+1) (by simpa using h)];rfl
theorem uo(A:HP)(v:Value)(b:List UInt8)(hv:ew A v b)(hl:b.length≤1000000000) :
  au Tryz.prog 151 [v] [A] (fun r H=>(qG b=none∧(∃e,e≠0∧r = .tuple #[tt (.slice none 0 0),.int .i64 e])∧H=[A]) ∨
   ∃l rv,qG b=some l∧r = .tuple #[tt rv,.int .i64 0]∧H=[aB 77 66 rv l.length (l.flatMap ck),A]):=by
 have htd:=l3 A v b hv hl
 obtain⟨a,c,rfl,hc⟩:=hv.2
 refine au.ak Tryz.func151 Tryz.ntmps151 fun G F R hE=>?_
 refine aD rfl ?_
 refine az zr zr zr bh ?_
 intro b2
 refine go ?_
 refine aF htd ?_
 rintro _ _ (⟨hn,rfl,rfl⟩|⟨xs,dJ,Z,rv,hs,nT,⟨cW,sL⟩,rfl,rfl,-⟩)
 ·have hd:qG b=none:=by unfold qG;rw[hn]
  repeat'(first|refine er ?_|fail)
  all_goals((skip))
  (refine a6 hE ?_;apply aZ (U:=aU) hE Tryz.func151 rfl (ao.refl _);(repeat(first|exact aR.nil|apply aR.tmp rfl|apply aR.agg 1 zr zr zr zr zr));exact(.inl ⟨hd,⟨2,by decide,rfl⟩,rfl⟩);exact ag)
 have Q2:qG b=match gi 0 xs with|some x=>if cG x=0 then some x else none|none=>none:=by unfold qG;rw[hs];rfl
 obtain⟨ra,rc,rfl⟩:=cW.shape
 have MB:dJ.length≤65536:=by
  have h1:xs.length≤65536:=by
   unfold nW at hs
   split at hs
   ·cases hs
   ·split at hs
    ·cases hs
     have:=q7 _ b (Nat.le_refl _)
     grind [dQ]
    ·cases hs
  grind
 repeat'(first|refine er ?_|fail)
 all_goals((skip))
 refine az zr zr zr bh ?_
 intro b6
 refine go ?_
 refine al (ao.trans (ao.bK [] _) (bg 77 66 none _)) ?_
 refine bj (fun y:Nat × List Bl × Option Addr × Nat=>y.1≤dJ.length∧gi 0 (xs.take y.1)=some y.2.1∧y.2.1.length=y.1) (fun y=>dJ.length-y.1)
  (fun y=>[(2,ptr b2),(6,ptr b6),(20,.slice ra dJ.length rc),(21,.int .i64 (dJ.length:Int)),(22,.int .i64 (y.1:Int))])
  (fun y=>ae b6 (cl [.slice y.2.2.1 y.2.1.length y.2.2.2] 75)::aB 77 66 (.slice y.2.2.1 y.2.1.length y.2.2.2) y.2.1.length (y.2.1.flatMap ck)::Z::A::ae b2 (cl [.slice none 0 0] 75)::F) (0,[],none,0) ⟨Nat.zero_le _,rfl,rfl⟩ rfl bS ag ?_
 rintro⟨i,acc,xa,xc⟩⟨hi,eX,KO⟩ ih
 simp only at hi eX KO
 dsimp only
 refine go ?_
 refine aq zr zr ?_ ?_
 ·intro cL
  have dA:i<dJ.length:=by omega
  obtain⟨it,Hr⟩:∃x,dJ[i]?=some x:=⟨dJ[i],by simp⟩
  have hxi:xs[i]?=some (it.n,it.b):=by rw[← nT,List.getElem?_map,Hr];rfl
  have Ju:=sL it (List.mem_of_getElem? Hr)
  have ab':=q8 hs _ (List.mem_of_getElem? hxi)
  have jl:xs.take (i+1)=xs.take i++[(it.n,it.b)]:=by rw[List.take_add_one,hxi];rfl
  have FE:=ux (xs.take i) 0 (it.n,it.b)
  have uz:(xs.take i).length=i:=by rw[List.length_take,← nT,List.length_map];omega
  rw[← jl,eX,uz,Nat.zero_add]at FE
  simp only at FE ab'
  have lB:gi 0 (xs.take (i+1))=none→qG b=none:=fun h=>by
   have:=uu _ (xs.drop (i+1)) 0 h
   rw[List.take_append_drop]at this
   grind
  obtain⟨rb,ro,rcc,he⟩:=cW.some (by rw[← List.length_pos_iff,bT fT];omega)
  simp only[Value.slice.injEq]at he
  obtain⟨rfl,_,rfl⟩:=he
  obtain⟨xn,xv,xb⟩:=it
  simp only at Ju FE ab'
  obtain⟨va,vc,rfl,_⟩:=Ju.2
  refine go ?_
  refine bW i 2 zr zr zr zr zr zr zr zr dA ?_
  refine aP ?_
  refine cd (U:=aU) (es:=gY ⟨xn,.slice va xb.length vc,xb⟩) 2 (i*2) zr zr zr cW rfl (fun j v hj=>?_) zr zr zr ?_
  ·rw[cM fT Hr j (by rcases Nat.lt_or_ge j 2 with h|h;exact h;rw[List.getElem?_eq_none (by rw[fT];exact h)]at hj;cases hj)];exact hj
  refine az zr zr zr bh ?_
  intro b8
  refine go ?_
  refine aw (IY Z _ xb Ju ai) ?_
  cases BH:kj xb with
  | none =>
   rw[BH]at FE
   have nE:=lB FE
   simp only[Np]
   refine go ?_
   refine az zr zr zr bh ?_
   intro b9
   refine go ?_
   (refine aY ?_;(refine bN 6 e8 zr zr zr zr zr zr zr zr zr ?_))
   refine go ?_
   (refine a6 hE ?_;apply aZ (U:=aU) hE Tryz.func151 rfl (ao.refl _);(repeat(first|exact aR.nil|apply aR.tmp rfl|apply aR.agg 6 zr zr zr zr zr));exact(.inl ⟨nE,⟨2,by decide,rfl⟩,rfl⟩);exact ag)
  | some z =>
   rw[BH]at FE
   simp only[Np]at FE ⊢
   unfold jU
   refine go ?_
   refine az zr zr zr bh ?_
   intro b9
   repeat'(first|(with_reducible intro jg)|refine er ?_|refine aq zr zr ?_ ?_)
   ·rw[if_pos ai]at FE
    have nE:=lB FE
    (refine aY ?_;(refine bN 6 e8 zr zr zr zr zr zr zr zr zr ?_))
    refine go ?_
    (refine a6 hE ?_;apply aZ (U:=aU) hE Tryz.func151 rfl (ao.refl _);(repeat(first|exact aR.nil|apply aR.tmp rfl|apply aR.agg 6 zr zr zr zr zr));exact(.inl ⟨nE,⟨2,by decide,rfl⟩,rfl⟩);exact ag)
   ·rw[if_neg ai]at FE
    refine aO (U:=aU) (l:=ck z) 0 zr zr zr zr zr zr ?_
    refine aj (cs:=ck z) zr zr zr zr zr zr zr zr zr bh ?_
    intro row
    refine go ?_
    refine aJ (mm:=1) (news:=ck z) 5 0 zr zr zr zr zr zr zr zr zr zr zr zr (Vw.ae rfl) rfl (by have:=vd [z];simpa using this) ai (by show(_+_)*80≤_;omega) (fun _=>rfl) bh ?_
    intro v1
    rw[show acc.flatMap ck++ck z=(acc++[z]).flatMap ck from by simp,show acc.length+1=(acc++[z]).length from by simp]
    refine aH 5 rfl ?_
    rintro ja jc rfl
    refine go ?_
    refine aY ?_
    refine bN 4 e8 zr zr zr zr zr zr zr zr zr (go ?_)
    refine aM ih (i+1,acc++[z],ja,jc) rfl ⟨by simp only;omega,FE,by simp only[List.length_append,List.length_singleton];omega⟩ (by simp only;omega) bS ag
 ·intro ep
  have qY:i=dJ.length:=by omega
  have fI:xs.take i=xs:=by rw[List.take_of_length_le];rw[← nT,List.length_map];omega
  rw[fI]at eX
  rw[eX]at Q2
  simp only at Q2
  clear ih
  refine eh 1 rfl ?_
  intro hva
  refine go ?_
  refine aO (U:=aU) (l:=[.slice xa acc.length xc]) 0 zr zr zr zr zr zr ?_
  refine aw (Af _ _ acc hva ai) ?_
  repeat'(first|(with_reducible intro jg)|refine er ?_|refine aq zr zr ?_ ?_)
  ·rw[if_neg ai]at Q2
   (refine aY ?_;(refine bN 4 e8 zr zr zr zr zr zr zr zr zr ?_))
   refine go ?_
   (refine a6 hE ?_;apply aZ (U:=aU) hE Tryz.func151 rfl (ao.refl _);(repeat(first|exact aR.nil|apply aR.tmp rfl|apply aR.agg 4 zr zr zr zr zr));exact(.inl ⟨Q2,⟨2,by decide,rfl⟩,rfl⟩);exact ag)
  ·rw[if_pos ai]at Q2
   refine aO (U:=aU) (l:=[.slice xa acc.length xc]) 1 zr zr zr zr zr zr (go ?_)
   refine aY ?_
   refine bN 4 e8 zr zr zr zr zr zr zr zr zr (go ?_)
   (refine a6 hE ?_;apply aZ (U:=aU) hE Tryz.func151 rfl (ao.refl _);(repeat(first|exact aR.nil|apply aR.tmp rfl|apply aR.agg 4 zr zr zr zr zr));exact(.inr ⟨acc,_,Q2,rfl,rfl⟩);exact ag)
end Go.Proofs.YtlcoaflddajjcaaGreatDoor
namespace Go.SL
open Go.Proofs Go.Shelf Go.RowKit Go.Lib Go.Sort
theorem Sat.grown{G:ct}{w:World}{H:List HP}(hs:Sat G w H)(os:Array Obj):Sat G (Sort.grow w os) H:=by
 obtain⟨a,b,c,h,hw,hh⟩:=hs
 refine⟨a,b,c,h,fun x o e=>?_,hh⟩
 have h1:=hw x o e
 obtain⟨h2,-⟩:=Array.getElem?_eq_some_iff.1 h1
 show(w.heap++os)[x]?=some o
 grind
def Sat.ahead{G:ct}{w:World}{H:List HP}(hs:Sat G w H)(n:Nat):Sat G (Sort.ahead w n) H:=hs.draw _ (Nat.le_add_right _ _)
theorem Sat.YF{G:ct}{w:World}{H:List HP}{b:Nat}{l l':List Value}{e:TypeId}(hs:Sat G w (ae b (cl l e)::H))(f:Array Value→Array Value)(hf:f l.toArray=l'.toArray):Sat G (Sort.mapBlock w b f) (ae b (cl l' e)::H):=by
 have hb:=hs.get (i:=0) rfl
 obtain⟨cL,rR⟩:=Array.getElem?_eq_some_iff.1 hb
 have hm:w.heap.modify b (Sort.onCells f)=w.heap.setIfInBounds b (cl l' e):=by
  apply Array.ext_getElem?
  intro i
  rw[Array.getElem?_modify,Array.getElem?_setIfInBounds]
  by_cases h:b=i
  ·subst h
   rw[if_pos rfl,if_pos rfl,if_pos cL,hb]
   simp only[Option.map_some]
   unfold cl Sort.onCells
   grind
  grind
 unfold Sort.mapBlock
 rw[hm]
 exact hs.Aq
theorem CZ{W W':World}(h:Sat { tape:=W.tape,os:=W.os,output:=W.output,lo:=W.drawn } W' [old W]):∃q os',W'=Sort.grow (W.drewN q) os':=by
 obtain⟨⟨h1,h2⟩,h3,h4,h0,hw,hs⟩:=h
 have ho:=dp hs
 have hb:∀k,k<W.heap.size→W'.heap[k]?=W.heap[k]? := fun k hk=>by
  have e:W.heap[k]?=some W.heap[k]:=by simp[hk]
  rw[e]
  exact hw k _ (by rw[ho k,e])
 have hle:W.heap.size≤W'.heap.size:=by
  grind
 refine⟨W'.drawn-W.drawn,W'.heap.extract W.heap.size W'.heap.size,?_⟩
 have aci:W'.heap=W.heap++W'.heap.extract W.heap.size W'.heap.size:=by
  grind
 have hd:W'.drawn=W.drawn+(W'.drawn-W.drawn):=by simp only at h2;omega
 cases W' with
 | mk hp tp dr os out =>
  simp only at h1 h2 h3 h4 aci hd
  subst h1 h3 h4
  unfold Sort.grow World.drewN
  grind
variable{P:Program}{ρ:Ren}{α:Type}[Inhabited α]
theorem nq(pre cs yv junk:List Value)(hl:yv.length=cs.length):Sort.putCells id pre.length yv.toArray (pre++cs++junk).toArray=(pre++yv++junk).toArray:=by
 apply Array.ext_getElem?
 intro i
 unfold Sort.putCells
 grind
theorem tx{w:World}{b:Nat}{e:TypeId}{pre cs junk:List Value}(hb:w.heap[b]?=some (cl (pre++cs++junk) e)):Sort.Holds id w b pre.length cs.toArray:=by
 intro j hj
 simp only[List.size_toArray]at hj
 constructor
 ·unfold World.cell?
  grind [cl]
 ·unfold World.frozen?
  grind [cl]
theorem BX(L:SlLaysN.n53 P ρ)(e:TypeId)(v:Value)(l:List Int)(KN:P.funcs[ρ.f 53]?.map jf=some true)(iJ:l.length<4611686018427387904) :
  au P (ρ.f 53) [v] [aB e 1 v l.length (l.map (Value.int .i64))] (fun r H=>r = .tuple #[]∧H=[aB e 1 v l.length ((l.mergeSort fun x y=>decide (x≤y)).map (Value.int .i64))]):=by
 refine⟨KN,fun G w F hs=>?_⟩
 obtain⟨t,o,u,hp,BC,hA,hB,⟨hl,ig⟩,Jz,hd,he⟩:=hs
 rcases ig with⟨a0,rfl,hn,wM⟩|⟨b,oo,cap,pre,junk,rfl,j8,hn,fY,u5⟩
 ·have QW:l=[]:=List.eq_nil_of_length_eq_zero hn
  subst QW
  refine(AnyG.slices_Sort_int_none L a0 0 w).mono ?_
  rintro e' w'⟨rfl,rfl⟩
  exact⟨_,_,rfl,⟨rfl,rfl⟩,t,o,u,hp,BC,hA,hB,⟨by simp,.inl ⟨a0,rfl,rfl,wM⟩⟩,Jz,hd,he⟩
 ·have u3:Sat G w (ae b (cl (pre++l.map (Value.int .i64)++junk) e)::F):=⟨t,o,u,hp,BC,hA,hB,u5,Jz,hd,he⟩
  have hb:=u3.get (i:=0) rfl
  have cL:=u3.lt (i:=0) rfl
  subst j8
  have hH:Sort.Holds (Value.int .i64) w b pre.length l.toArray:=by
   have h0:=tx hb
   intro j hj
   have:=h0 j (by simpa using hj)
   grind
  have hS:=AnyG.slices_Sort_int L b pre.length cap l w hH cL iJ
  refine hS.mono ?_
  rintro e' w'⟨rfl,n,os,rfl⟩
  refine⟨_,_,rfl,⟨rfl,rfl⟩,?_⟩
  have uB:(l.mergeSort fun x y=>decide (x≤y)).length=l.length:=List.length_mergeSort _
  have h3:=(u3.ahead n).YF (Sort.putCells (Value.int .i64) pre.length (l.mergeSort fun x y=>decide (x≤y)).toArray) (l':=pre++(l.mergeSort fun x y=>decide (x≤y)).map (Value.int .i64)++junk) (by
   refine Eq.trans ?_ (nq pre (l.map (Value.int .i64)) ((l.mergeSort fun x y=>decide (x≤y)).map (Value.int .i64)) junk (by rw[List.length_map,List.length_map,uB]))
   unfold Sort.putCells
   congr 1
   funext i x
   simp only[List.size_toArray,List.length_map,id]
   split
   ·rename_i h
    rw[getElem!_pos (List.map (Value.int .i64) _).toArray (i-pre.length) (by simp;omega),getElem!_pos (l.mergeSort fun x y=>decide (x≤y)).toArray (i-pre.length) (by simp;omega)]
    simp
   ·rfl)
  have h4:=h3.grown os
  refine h4.cu ?_
  exact gq rfl hn (by rw[List.length_map]at fY ⊢;rw[uB];exact fY) (by rw[List.length_map,uB,Nat.mul_one]) F
end Go.SL
namespace Go.SL
open Go.Proofs Go.Shelf Go.RowKit Go.Lib Go.Sort
variable{P:Program}{ρ:Ren}
theorem BW(L:SlLaysN.n54 P ρ)(e:TypeId)(v:Value)(l:List (List UInt8))(KN:P.funcs[ρ.f 54]?.map jf=some true)(iJ:l.length<4611686018427387904) :
  au P (ρ.f 54) [v] [aB e 1 v l.length (l.map encStr)] (fun r H=>r = .tuple #[]∧H=[aB e 1 v l.length ((l.mergeSort fun x y=>decide (x≤y)).map encStr)]):=by
 refine⟨KN,fun G w F hs=>?_⟩
 obtain⟨t,o,u,hp,BC,hA,hB,⟨hl,ig⟩,Jz,hd,he⟩:=hs
 rcases ig with⟨a0,rfl,hn,wM⟩|⟨b,oo,cap,pre,junk,rfl,j8,hn,fY,u5⟩
 ·have QW:l=[]:=List.eq_nil_of_length_eq_zero hn
  subst QW
  refine(AnyG.slices_Sort_string_none L a0 0 w).mono ?_
  rintro e' w'⟨rfl,rfl⟩
  exact⟨_,_,rfl,⟨rfl,rfl⟩,t,o,u,hp,BC,hA,hB,⟨by simp,.inl ⟨a0,rfl,rfl,wM⟩⟩,Jz,hd,he⟩
 ·have u3:Sat G w (ae b (cl (pre++l.map encStr++junk) e)::F):=⟨t,o,u,hp,BC,hA,hB,u5,Jz,hd,he⟩
  have hb:=u3.get (i:=0) rfl
  have cL:=u3.lt (i:=0) rfl
  subst j8
  have hH:Sort.Holds encStr w b pre.length l.toArray:=by
   have h0:=tx hb
   intro j hj
   have:=h0 j (by simpa using hj)
   grind
  have hS:=AnyG.slices_Sort_string L b pre.length cap l w hH cL iJ
  refine hS.mono ?_
  rintro e' w'⟨rfl,n,os,rfl⟩
  refine⟨_,_,rfl,⟨rfl,rfl⟩,?_⟩
  have uB:(l.mergeSort fun x y=>decide (x≤y)).length=l.length:=List.length_mergeSort _
  have h3:=(u3.ahead n).YF (Sort.putCells encStr pre.length (l.mergeSort fun x y=>decide (x≤y)).toArray) (l':=pre++(l.mergeSort fun x y=>decide (x≤y)).map encStr++junk) (by
   refine Eq.trans ?_ (nq pre (l.map encStr) ((l.mergeSort fun x y=>decide (x≤y)).map encStr) junk (by rw[List.length_map,List.length_map,uB]))
   unfold Sort.putCells
   congr 1
   funext i x
   simp only[List.size_toArray,List.length_map,id]
   split
   ·rename_i h
    rw[getElem!_pos (List.map encStr _).toArray (i-pre.length) (by simp;omega),getElem!_pos (l.mergeSort fun x y=>decide (x≤y)).toArray (i-pre.length) (by simp;omega)]
    simp
   ·rfl)
  have h4:=h3.grown os
  refine h4.cu ?_
  exact gq rfl hn (by rw[List.length_map]at fY ⊢;rw[uB];exact fY) (by rw[List.length_map,uB,Nat.mul_one]) F
end Go.SL
namespace Go.Proofs.YtlcoaflddajjcaaGreatDoor
open Go Go.Shelf
def yY:Go.Shelf.Ren:=⟨fun|54=>219|64=>265|65=>329|78=>359|79=>360|80=>405|81=>406|82=>407|83=>408|84=>409|85=>410|61=>411|86=>412|87=>413|93=>460|89=>423|90=>424|94=>461|95=>462|69=>463|97=>480|n=>n,fun|25=>147|26=>9|3=>3|51=>220|0=>0|67=>221|69=>46|4=>4|61=>449|60=>448|44=>127|5=>5|9=>9|75=>496|79=>499|83=>529|84=>530|n=>n,fun|n=>n⟩
def abw:Go.Proofs.SlLaysN.n54 Tryz.prog yY:={
  mixed:=by kernel_rfl,
  f54:=⟨Tryz.f219.name,by decide,Tryz.func219.trans (congrArg some (by kernel_rfl))⟩,
  f61:=⟨Tryz.f411.name,by decide,Tryz.func411.trans (congrArg some (by kernel_rfl))⟩,
  f64:=Tryz.func265.trans (congrArg some (by kernel_rfl)),
  f65:=⟨Tryz.f329.name,by decide,Tryz.func329.trans (congrArg some (by kernel_rfl))⟩,
  f69:=⟨Tryz.f463.name,by decide,Tryz.func463.trans (congrArg some (by kernel_rfl))⟩,
  f78:=Tryz.func359.trans (congrArg some (by kernel_rfl)),
  f79:=Tryz.func360.trans (congrArg some (by kernel_rfl)),
  f80:=⟨Tryz.f405.name,by decide,Tryz.func405.trans (congrArg some (by kernel_rfl))⟩,
  f81:=⟨Tryz.f406.name,by decide,Tryz.func406.trans (congrArg some (by kernel_rfl))⟩,
  f82:=⟨Tryz.f407.name,by decide,Tryz.func407.trans (congrArg some (by kernel_rfl))⟩,
  f83:=⟨Tryz.f408.name,by decide,Tryz.func408.trans (congrArg some (by kernel_rfl))⟩,
  f84:=⟨Tryz.f409.name,by decide,Tryz.func409.trans (congrArg some (by kernel_rfl))⟩,
  f85:=⟨Tryz.f410.name,by decide,Tryz.func410.trans (congrArg some (by kernel_rfl))⟩,
  f86:=⟨Tryz.f412.name,by decide,Tryz.func412.trans (congrArg some (by kernel_rfl))⟩,
  f87:=⟨Tryz.f413.name,by decide,Tryz.func413.trans (congrArg some (by kernel_rfl))⟩,
  f89:=Tryz.func423.trans (congrArg some (by kernel_rfl)),
  f90:=Tryz.func424.trans (congrArg some (by kernel_rfl)),
  f93:=⟨Tryz.f460.name,by decide,Tryz.func460.trans (congrArg some (by kernel_rfl))⟩,
  f94:=⟨Tryz.f461.name,by decide,Tryz.func461.trans (congrArg some (by kernel_rfl))⟩,
  f95:=⟨Tryz.f462.name,by decide,Tryz.func462.trans (congrArg some (by kernel_rfl))⟩,
  f97:=⟨Tryz.f480.name,by decide,Tryz.func480.trans (congrArg some (by kernel_rfl))⟩,
  t0:=Tryz.underlying0,
  a0:=Tryz.isAgg0,
  z0:=Tryz.sizeOf0,
  v0:=Tryz.zeroValue0,
  t3:=Tryz.underlying3,
  a3:=Tryz.isAgg3,
  z3:=Tryz.sizeOf3,
  v3:=Tryz.zeroValue3,
  t4:=Tryz.underlying4,
  a4:=Tryz.isAgg4,
  z4:=Tryz.sizeOf4,
  v4:=Tryz.zeroValue4,
  t5:=Tryz.underlying5,
  a5:=Tryz.isAgg5,
  z5:=Tryz.sizeOf5,
  v5:=Tryz.zeroValue5,
  t9:=Tryz.underlying9,
  a9:=Tryz.isAgg9,
  z9:=Tryz.sizeOf9,
  v9:=Tryz.zeroValue9,
  t25:=Tryz.underlying147,
  a25:=Tryz.isAgg147,
  z25:=Tryz.sizeOf147,
  v25:=Tryz.zeroValue147,
  t26:=Tryz.underlying9,
  a26:=Tryz.isAgg9,
  z26:=Tryz.sizeOf9,
  v26:=Tryz.zeroValue9,
  t44:=Tryz.underlying127,
  a44:=Tryz.isAgg127,
  z44:=Tryz.sizeOf127,
  v44:=Tryz.zeroValue127,
  t51:=Tryz.underlying220,
  a51:=Tryz.isAgg220,
  z51:=Tryz.sizeOf220,
  v51:=Tryz.zeroValue220,
  t60:=Tryz.underlying448,
  a60:=Tryz.isAgg448,
  z60:=Tryz.sizeOf448,
  v60:=Tryz.zeroValue448,
  t61:=Tryz.underlying449,
  a61:=Tryz.isAgg449,
  z61:=Tryz.sizeOf449,
  v61:=Tryz.zeroValue449,
  t67:=Tryz.underlying221,
  a67:=Tryz.isAgg221,
  z67:=Tryz.sizeOf221,
  v67:=Tryz.zeroValue221,
  t69:=Tryz.underlying46,
  a69:=Tryz.isAgg46,
  z69:=Tryz.sizeOf46,
  v69:=Tryz.zeroValue46,
  t75:=Tryz.underlying496,
  a75:=Tryz.isAgg496,
  z75:=Tryz.sizeOf496,
  v75:=Tryz.zeroValue496,
  t79:=Tryz.underlying499,
  a79:=Tryz.isAgg499,
  z79:=Tryz.sizeOf499,
  v79:=Tryz.zeroValue499,
  t83:=Tryz.underlying529,
  a83:=Tryz.isAgg529,
  z83:=Tryz.sizeOf529,
  v83:=Tryz.zeroValue529,
  t84:=Tryz.underlying530,
  a84:=Tryz.isAgg530,
  z84:=Tryz.sizeOf530,
  v84:=Tryz.zeroValue530 }
end Go.Proofs.YtlcoaflddajjcaaGreatDoor
namespace Go.Proofs.YtlcoaflddajjcaaGreatDoor
open Go Go.SL
def sS(l:List ByteArray):List Value:=l.map Value.string
def Yr(l:List ByteArray):∀v∈sS l,v.oneCell'=true:=by
 intro v hv
 obtain⟨x,_,rfl⟩:=List.mem_map.1 hv
 rfl
def SI(bs:Nat)(ks:List ByteArray):HP:=fun h=>∃v:Value,True∧Sep [ae bs (cl [v] 147),aB 9 1 v ks.length (sS ks)] h
def HV(bs:Nat)(ks:List ByteArray):∀h,SI bs ks h→∃v:Value,True∧Sep [ae bs (cl [v] 147),aB 9 1 v ks.length (sS ks)] h:=fun h hs=>hs
def Dy(bs:Nat)(ks:List ByteArray)(v:Value)(H:List HP):ao (ae bs (cl [v] 147)::aB 9 1 v ks.length (sS ks)::H) (SI bs ks::H) :=
 ao.fold (A:=SI bs ks) (B:=[ae bs (cl [v] 147),aB 9 1 v ks.length (sS ks)]) fun h hs=>⟨h,sub.refl h,v,trivial,hs⟩
def QF:jv Tryz.prog 9 Value.string:=Mv Tryz.underlying9
attribute [local irreducible] J K au Ends ae aB aI bB aW aS a7 aX bF SI
def NT(bm:Nat):au Tryz.prog 114 [.map (some bm)] [] (fun r H=>∃bx,r = .func (.func 220) #[] #[ptr bx]∧H=[ae bx (cl [.map (some bm)] 68)]):=by
 refine au.ak Tryz.func114 Tryz.ntmps114 fun G F R hE=>?_
 refine go ?_
 refine bu zr zr bh ?_
 intro bx
 refine go ?_
 refine ad hE Tryz.func114 zr zr ⟨bx,rfl,rfl⟩
theorem Kl(l bx bm:Nat)(es:List (ByteArray × Value))(iK:(es.map (·.1)).Nodup)(Lp:HP)(Inv:List ByteArray→HP)(hy:∀dn k,k∈es.map (·.1)→dn.length<es.length→bF Tryz.prog l [.string k] [Lp,Inv dn] (fun v H=>v = .bool true∧H=[Lp,Inv (dn++[k])])) :
  au Tryz.prog 220 [.func (.yield l) #[] #[],ptr bx] [Lp,ae bx (cl [.map (some bm)] 68),aI Value.string bm es,Inv [] ] (fun _ H=>∃dn:List ByteArray,dn.Perm (es.map (·.1))∧H=[Lp,ae bx (cl [.map (some bm)] 68),aI Value.string bm es,Inv dn]):=by
 refine au.ak Tryz.func220 Tryz.ntmps220 fun G F R hE=>?_
 refine al (ao.pick [2,0,1] rfl) (go ?_)
 refine nL (kv:=Value.string) (es:=es) (U:=aU) 0 zr zr zr zr zr (fun _=>rfl) bh ?_
 intro it
 refine go ?_
 refine bj (fun s:List ByteArray=>s.Nodup∧∀x∈s,x∈es.map (·.1)) (fun s=>es.length-s.length) (fun s=>[(0,.func (.yield l) #[] #[]),(5,.pointer (some ⟨it,0,none⟩))])
  (fun s=>bB Value.string bm it es s::Lp::ae bx (cl [.map (some bm)] 68)::Inv s.reverse::F) [] ⟨List.nodup_nil,by simp⟩ rfl bS ag ?_
 rintro dn⟨nE,dj⟩ ih
 refine go ?_
 refine qR (kv:=Value.string) (es:=es) 0 rfl QF.inj zr zr (fun _=>rfl) e8 bh ?_ ?_
 ·intro fI
  refine go ?_
  refine al (ao.head (B:=[aI Value.string bm es]) (fun h hs=>by obtain⟨h',s,hm⟩:=jD h hs;exact⟨h',s,dG hm⟩)) ?_
  have hp:dn.reverse.Perm (es.map (·.1)):=(List.reverse_perm dn).trans ((List.perm_ext_iff_of_nodup nE iK).2 fun a=>⟨dj a,fun h=>by obtain⟨y,hy,rfl⟩:=List.mem_map.1 h;exact fI y hy⟩)
  refine bL hE Tryz.func220 rfl _ rfl ⟨_,hp,rfl⟩ ag
 ·intro key v eR mK
  have hk:key∈es.map (·.1):=List.mem_map.2 ⟨_,eR,rfl⟩
  have cL:dn.length<es.length:=by
   have h1:((List.filter (fun x=>decide (x∈dn)) (es.map (·.1)))).length≤(es.map (·.1)).length:=List.length_filter_le _ _
   have h2:dn.length=(List.filter (fun x=>decide (x∈dn)) (es.map (·.1))).length:=Fa nE (iK.sublist List.filter_sublist) (fun n=>by
    simp only[List.mem_filter,decide_eq_true_eq]
    exact⟨fun h=>⟨dj n h,h⟩,fun h=>h.2⟩)
   rw[List.length_map]at h1
   rcases Nat.lt_or_ge dn.length es.length with h|h
   ·exact h
   ·exfalso
    have h3:(List.filter (fun x=>decide (x∈dn)) (es.map (·.1))).length=(es.map (·.1)).length:=by rw[List.length_map];omega
    have h4:=List.filter_eq_self.1 ((List.filter_sublist (p:=fun x=>decide (x∈dn)) (l:=es.map (·.1))).eq_of_length h3) key hk
    grind
  refine go ?_
  refine nN (kv:=Value.string) (es:=es) 0 rfl QF.inj zr zr eR (go ?_)
  refine kE zr zr zr (hy dn.reverse key hk (by rw[List.length_reverse];exact cL)) ag ?_ jk
  rintro _ _⟨rfl,rfl⟩
  rw[show dn.reverse++[key]=(key::dn).reverse from by simp]
  refine go ?_
  refine aM ih (key::dn) rfl (⟨List.nodup_cons.2 ⟨mK,nE⟩,fun x hx=>by rcases List.mem_cons.1 hx with rfl|h;exact hk;exact dj x h⟩) (by show _-(key::dn).length<_;simp only[List.length_cons];omega) bS ag
def yJ(bx bm:Nat)(es:List (ByteArray × Value))(iK:(es.map (·.1)).Nodup)(n9:es.length≤1000000) :
  au Tryz.prog 328 [.slice none 0 0,.func (.func 220) #[] #[ptr bx] ] [ae bx (cl [.map (some bm)] 68),aI Value.string bm es] (fun r H=>∃dn:List ByteArray,dn.Perm (es.map (·.1))∧H=[aB 9 1 r dn.length (sS dn),ae bx (cl [.map (some bm)] 68),aI Value.string bm es]):=by
 refine au.ak Tryz.func328 Tryz.ntmps328 fun G F R hE=>?_
 refine aD rfl ?_
 refine bu zr zr bh ?_
 intro bs
 refine go ?_
 refine gG rfl ?_
 refine al (ao.trans (ao.cons _ (bg 9 1 none _)) (Dy bs [] (.slice none 0 0) _)) ?_
 refine vf (Fr:=F) (Pre:=fun _ _=>[ae bx (cl [.map (some bm)] 68),aI Value.string bm es,SI bs [] ]) (Post:=?Po) rfl hE.1.1 rfl ?c (fun l r=>ag) ?jq
 case c =>
  intro l r
  refine Kl l bx bm es iK _ (fun dn=>SI bs dn) ?_
  intro dn k hk cL
  refine bF.IN zr zr ?_
  intro G2 F2 R2 hY
  refine go ?_
  refine gN rfl hY ?_
  refine al (ao.pick [1] rfl) ?_
  refine cX (HV bs dn) ?_
  rintro v -
  refine db 1 rfl ?_
  rintro va vc rfl
  refine go ?_
  refine aj (cs:=sS [k]) zr zr zr zr zr zr zr zr zr bh ?_
  intro row
  refine go ?_
  refine aJ (mm:=1) (news:=sS [k]) 2 0 zr zr zr zr zr zr zr zr zr zr zr zr (Vw.ae rfl) rfl (Yr _) ai (by show(_+1)*16≤_;omega) (fun _=>rfl) bh ?_
  intro v1
  rw[show sS dn++sS [k]=sS (dn++[k])from by simp[sS],show dn.length+1=(dn++[k]).length from by simp]
  refine aH 2 rfl ?_
  rintro Od Oc rfl
  refine go ?_
  refine al (ao.trans ag (Dy bs (dn++[k]) (.slice Od (dn++[k]).length Oc) _)) ?_
  refine fV hY rfl ag ⟨rfl,rfl⟩
 intro l r v H eL
 obtain⟨dn,hp,rfl⟩:=eL
 refine⟨_,_,_,rfl,by decide,?_⟩
 rw[hE.1.2]
 refine al (ao.pick [2] rfl) ?_
 refine cX (HV bs dn) ?_
 rintro w -
 refine go ?_
 refine pX hE Tryz.func328 rfl _ rfl ⟨dn,hp,rfl⟩ ag
def D1(bx bm:Nat)(es:List (ByteArray × Value))(iK:(es.map (·.1)).Nodup)(n9:es.length≤1000000) :
  au Tryz.prog 218 [.func (.func 220) #[] #[ptr bx] ] [ae bx (cl [.map (some bm)] 68),aI Value.string bm es] (fun r H=>∃dn:List ByteArray,dn.Perm (es.map (·.1))∧H=[aB 9 1 r dn.length (sS dn),ae bx (cl [.map (some bm)] 68),aI Value.string bm es]):=by
 refine au.ak Tryz.func218 Tryz.ntmps218 fun G F R hE=>?_
 refine go ?_
 refine aF (yJ bx bm es iK n9) ?_
 rintro w _⟨dn,hp,rfl⟩
 refine go ?_
 refine ad hE Tryz.func218 zr zr ⟨dn,hp,rfl⟩
def nS(l:List (List UInt8)):List Value:=l.map Go.Proofs.encStr
def abz(l:List ByteArray):sS l=nS (l.map fun b=>b.data.toList):=by
 unfold sS nS
 rw[List.map_map]
 rfl
def J9(v:Value)(l:List ByteArray)(hl:l.length≤1000000000):au Tryz.prog 219 [v] [aB 9 1 v l.length (sS l)] (fun r H=>r = .tuple #[]∧H=[aB 9 1 v l.length (nS (ou l))]):=by
 have h:=BW (ρ:=yY) abw 9 v (l.map fun b=>b.data.toList) ah (by rw[List.length_map];omega)
 rw[List.length_map]at h
 rw[abz]
 exact h
def F'(bx bm:Nat)(es:List (ByteArray × Value))(iK:(es.map (·.1)).Nodup)(n9:es.length≤1000000) :
  au Tryz.prog 113 [.func (.func 220) #[] #[ptr bx] ] [ae bx (cl [.map (some bm)] 68),aI Value.string bm es] (fun r H=>H=[aB 9 1 r es.length (nS (ou (es.map (·.1)))),ae bx (cl [.map (some bm)] 68),aI Value.string bm es]):=by
 refine au.ak Tryz.func113 Tryz.ntmps113 fun G F R hE=>?_
 refine go ?_
 refine aF (D1 bx bm es iK n9) ?_
 rintro w _⟨dn,hp,rfl⟩
 have hlen:dn.length=es.length:=by rw[hp.length_eq,List.length_map]
 refine aH 0 rfl ?_
 rintro wa wc rfl
 refine go ?_
 refine aw (J9 (.slice wa dn.length wc) dn ai) ?_
 rw[Es hp,hlen]
 refine go ?_
 refine aK hE Tryz.func113 rfl _ zr zr ag
def Kj(bd:Nat)(D:Dk)(A:Ab)(hR:Rel D A):au Tryz.prog 52 [ptr bd] [gn bd D] (fun r H=>H=[aB 9 1 r (gj A).length (nS (ou (gj A))),gn bd D]):=by
 have iK:=hR.nodup _ (List.mem_cons_self ..)
 have xW:=hR.fj _ (List.mem_cons_self ..)
 have Ho:(fk A.names).map (·.1)=gj A:=by simp[fk,gj,Function.comp_def]
 have Pw:(fk A.names).length=(gj A).length:=by simp[fk,gj]
 have dL:(gj A).length≤200:=by unfold gj;rw[List.length_map];exact xW
 obtain⟨jm,hjm⟩:=List.getElem?_of_mem hR.names
 obtain⟨room,bm,mz,nV,oC,off,maps,fy,files,lx,wl⟩:=D
 simp only at hjm
 refine au.ak Tryz.func52 Tryz.ntmps52 fun G F R hE=>?_
 refine al (iz _ _ _ _ _ _ _ _ _ _ _ _ _) (go ?_)
 refine aF (NT bm) ?_
 rintro _ _⟨bx,rfl,rfl⟩
 have QL:=F' bx bm (fk A.names) (by rw[Ho];exact iK) ai
 rw[Ho,Pw]at QL
 refine aN (ao.pick [2] rfl) ?_
 refine aN (kG mF hjm _) ?_
 refine aN (ao.pick [2,0] rfl) (go ?_)
 refine aF QL ?_
 rintro v _ rfl
 refine aN (ao.pick [2,3] rfl) ?_
 refine aN (rk mF hjm _) (go ?_)
 refine al ((ao.pick [3,0,4,5,6,7] rfl).trans (dU _ _ _ _ _ _ _ _ _ _ _ _ _)) ?_
 refine aK hE Tryz.func52 rfl _ zr zr ag
end Go.Proofs.YtlcoaflddajjcaaGreatDoor
namespace Go.Proofs.YtlcoaflddajjcaaGreatDoor
open Go Go.SL
attribute [local irreducible] J K au Ends ae aB aI bB aW aS a7 aX bF Sha.chunks Sha.chunk Sha.rounds Sha.sched ej cz GI dq
structure H8(A:Ab):Prop where
 ids:(A.fs.map (·.1)).Nodup
 known:∀st∈A.names::A.aV,∀x∈st,x.2∈A.fs.map (·.1)
 gV:∀x∈A.writes,x.1∈A.fs.map (·.1)
 nodup:∀st∈A.names::A.aV,(st.map (·.1)).Nodup
 gb:∀x∈A.fs,x.2.1.length≤1048576∧x.2.2.length≤1048576
 iw:∀x∈A.writes,x.2.1+x.2.2.length≤1048576
 fj:∀st∈A.names::A.aV,st.length≤200
 gU:A.room≤1073741824
 full:A.aV≠[]
def H8.of{D:Dk}{A:Ab}(h:Rel D A):H8 A:=⟨h.ids,h.known,h.gV,h.nodup,h.gb,h.iw,h.fj,h.gU,h.full⟩
def H8.file{A:Ab}(h:H8 A)(f:Nat):(A.file f).1.length≤1048576∧(A.file f).2.length≤1048576:=by
 unfold Ab.file
 cases hx:A.fs.find? (fun x=>decide (x.1=f))with
 | none=>simp
 | some x=>exact h.gb x (List.mem_of_find?_eq_some hx)
def H8.now{A:Ab}(h:H8 A)(f:Nat):(A.now f).length≤1048576:=(h.file f).1
def AY{G:ct}{w:World}{H:List HP}(hs:Sat G w H){i:Nat}{A:HP}(hi:bZ H i=some A):∃h,A h:=let ⟨h,_,hA⟩:=hs.jF hi;⟨h,hA⟩
def C3{bd:Nat}{A:Ab}{h:Hp}(hd:aC bd A h):H8 A:=let ⟨_,hR,_⟩:=hd;H8.of hR
section
variable{P:Program}{f:FuncId}{n:Nat}{R:Ending→World→Prop}{G:ct}{k:List Item}{L:eH}{H:List HP}{S:World→Prop}{all:Array Oper}{rest:Pl}
def sm{bd:Nat}{A:Ab}(i:Nat)(hi:bZ H i=some (aC bd A))(h:H8 A→K P f n R G k L H):K P f n R G k L H :=
 pn fun⟨w,hw⟩=>by obtain⟨h1,hA⟩:=AY hw hi;exact h (C3 hA)
def HZ{bd:Nat}{A:Ab}(i:Nat)(hi:bZ H i=some (aC bd A))(h:H8 A→J P f n R G S all rest k L H):J P f n R G S all rest k L H :=
 xL fun w hw=>by obtain⟨h1,hA⟩:=AY hw hi;exact h (C3 hA)
end
attribute [local irreducible] aC
def dg(bd:Nat)(q:Int)(mb:Nat)(brk:Bool):List Value:=[ptr bd,.int .i64 q,.map (some mb),.bool brk]
def oX(kind:List UInt8)(d:Dg)(hk:kind.length≤1000):au Tryz.prog 117 [.string (strOf kind),dV d] [] (fun r H=>r = .string (eS kind d)∧H=[]):=by
 have ht:=NC d
 unfold dV at ht ⊢
 refine au.ak Tryz.func117 Tryz.ntmps117 fun G F R hE=>?_
 refine aD rfl ?_
 refine bu zr zr bh ?_
 intro b3
 refine go ?_
 refine aO (U:=aU) (l:=dC d) 0 zr zr zr zr zr zr ?_
 refine aw ht ?_
 refine xJ zr zr zr (by show kind.length+(hG d).length≤_;rw[mw];omega) ?_
 ((refine aG 8 ((.string (eS kind d))) rfl ((congrArg Value.string (by unfold eS strOf;apply ByteArray.ext;simp))) ?_))
 refine go ?_
 refine ad hE Tryz.func117 zr zr ⟨rfl,rfl⟩
def wQ(o:Option Dg):Value:=match o with
 | none => .tuple #[dV Dg.zero,.bool false]
 | some d => .tuple #[dV d,.bool true]
def Nf(s:ByteArray)(k:Nat):s.extract (0:Int).toNat (k:Int).toNat=strOf (s.data.toList.take k):=by
 unfold strOf
 apply ByteArray.ext
 apply Array.ext'
 simp_all
def Ng(s:ByteArray)(k:Nat):s.extract (k:Int).toNat (s.size:Int).toNat=strOf (s.data.toList.drop k):=by
 unfold strOf
 apply ByteArray.ext
 apply Array.ext'
 have:s.size=s.data.toList.length:=rfl
 rw[ByteArray.data_extract,this]
 simp
 rw[List.take_of_length_le (by simp)]
def wP(kind:List UInt8)(nm:ByteArray)(hk:kind.length≤1000):au Tryz.prog 104 [.string (strOf kind),.string nm] [] (fun r H=>r=wQ (gT kind nm)∧H=[]):=by
 have Hn:(strOf kind).size=kind.length:=rfl
 have Om:nm.size=nm.data.toList.length:=rfl
 refine au.ak Tryz.func104 Tryz.ntmps104 fun G F R hE=>?_
 refine aD rfl ?_
 refine az zr zr zr bh ?_
 intro b4
 have hN:¬kind.isPrefixOf nm.data.toList=true→gT kind nm=none:=fun h=>by unfold gT;rw[if_neg h]
 have hP:kind.isPrefixOf nm.data.toList=true→gT kind nm=iQ (nm.data.toList.drop kind.length):=fun h=>by unfold gT;rw[if_pos h]
 have Pz:kind.isPrefixOf nm.data.toList=true↔nm.data.toList.take kind.length=kind:=by
  rw[List.isPrefixOf_iff_prefix,List.prefix_iff_eq_take]
  exact eq_comm
 refine go ?_
 refine dP zr zr zr zr ?_ ?_
 ·intro cL
  have MP:=hN (fun h=>by rw[Pz]at h;have:=congrArg List.length h;rw[List.length_take]at this;omega)
  rw[MP]at hE
  refine go ?_
  refine gH (U:=aU) zr zr zr zr zr (go ?_)
  (refine a6 hE ?_;apply aZ (U:=aU) hE Tryz.func104 rfl (ao.refl _);(repeat(first|exact aR.nil|apply aR.tmp rfl|apply aR.agg 0 zr zr zr zr zr));exact⟨rfl,rfl⟩;exact ag)
 ·intro ep
  have hkn:(kind.length:Int)≤(nm.size:Int):=by omega
  refine go ?_
  refine xK (U:=aU) (p:=0) (q:=(kind.length:Int)) zr zr zr zr zr zr (Int.le_refl _) (Int.natCast_nonneg _) hkn ?_
  refine aG 17 ((.string (strOf (nm.data.toList.take kind.length)))) rfl ((congrArg Value.string (Nf nm kind.length))) (go ?_)
  refine bq 20 (.bool (!decide (nm.data.toList.take kind.length=kind))) rfl (by rw[zF]) ?_
  by_cases hp:nm.data.toList.take kind.length=kind
  ·rw[decide_eq_true hp]
   have hh:=hP (Pz.2 hp)
   rw[hh]at hE
   refine go ?_
   refine xK (U:=aU) (p:=(kind.length:Int)) (q:=(nm.size:Int)) zr zr zr zr zr zr (Int.natCast_nonneg _) hkn (Int.le_refl _) ?_
   refine aG 26 ((.string (strOf (nm.data.toList.drop kind.length)))) rfl ((congrArg Value.string (Ng nm kind.length))) ?_
   have abW:=Ke (strOf (nm.data.toList.drop kind.length))
   rw[vG]at abW
   refine aw abW ?_
   cases AT:iQ (nm.data.toList.drop kind.length)with
   | none =>
    rw[AT]at hE
    simp only
    unfold dV
    refine go ?_
    refine az zr zr zr bh ?_
    intro b6
    refine go ?_
    refine aO (U:=aU) (l:=dC Dg.zero) 0 zr zr zr zr zr zr (go ?_)
    (refine a6 hE ?_;apply aZ (U:=aU) hE Tryz.func104 rfl (ao.refl _);(repeat(first|exact aR.nil|apply aR.tmp rfl|apply aR.agg 1 zr zr zr zr zr));exact⟨rfl,rfl⟩;exact ag)
   | some d =>
    rw[AT]at hE
    simp only
    unfold dV
    refine go ?_
    refine az zr zr zr bh ?_
    intro b6
    refine go ?_
    refine aO (U:=aU) (l:=dC d) 0 zr zr zr zr zr zr (go ?_)
    (refine a6 hE ?_;apply aZ (U:=aU) hE Tryz.func104 rfl (ao.refl _);(repeat(first|exact aR.nil|apply aR.tmp rfl|apply aR.agg 1 zr zr zr zr zr));exact⟨rfl,rfl⟩;exact ag)
  ·rw[decide_eq_false hp]
   have MP:=hN (fun h=>hp (Pz.1 h))
   rw[MP]at hE
   refine go ?_
   refine gH (U:=aU) zr zr zr zr zr (go ?_)
   (refine a6 hE ?_;apply aZ (U:=aU) hE Tryz.func104 rfl (ao.refl _);(repeat(first|exact aR.nil|apply aR.tmp rfl|apply aR.agg 0 zr zr zr zr zr));exact⟨rfl,rfl⟩;exact ag)
def Lm(A:Ab)(nm:ByteArray):decide (((A.size nm).2:Int)=0)=nZ A nm:=by
 unfold Ab.size nZ
 cases A.look nm <;> rfl
def My(bs bd:Nat)(q:Int)(mb:Nat)(brk:Bool)(A:Ab)(nm:ByteArray):au Tryz.prog 136 [ptr bs,.string nm] [ae bs (cl (dg bd q mb brk) 146),aC bd A]
  (fun r H=>r = .bool (nZ A nm)∧H=[ae bs (cl (dg bd q mb brk) 146),aC bd A]):=by
 have hs:=Lm A nm
 refine au.ak Tryz.func136 Tryz.ntmps136 fun G F R hE=>?_
 refine go ?_
 refine aw (sf bd A nm) ?_
 refine go ?_
 rw[← hs]at hE
 refine ad hE Tryz.func136 zr zr ⟨rfl,rfl⟩
def zO(bs bd:Nat)(q:Int)(mb:Nat)(brk:Bool)(A:Ab)(nm:ByteArray):au Tryz.prog 116 [ptr bs,.string nm] [ae bs (cl (dg bd q mb brk) 146),aC bd A]
  (fun r H=>∃rv,r = .tuple #[rv,.bool (gg A nm).isSome]∧H=[aB 5 1 rv ((gg A nm).getD []).length (bV ((gg A nm).getD [])),ae bs (cl (dg bd q mb brk) 146),aC bd A]):=by
 refine au.ak Tryz.func116 Tryz.ntmps116 fun G F R hE=>?_
 refine go ?_
 refine aw (sf bd A nm) ?_
 have hn:A.look nm=none→gg A nm=none∧A.size nm=(0,4):=fun h=>by unfold gg Ab.size;rw[h];exact⟨rfl,rfl⟩
 have hr:∀f,A.look nm=some f→A.size nm=((A.now f).length,0)∧A.read nm 0 ((A.now f).length:Int)=((gg A nm).getD [],if(gg A nm).isSome then 0 else 7):=fun f h=>by
  unfold gg Ab.size Ab.read
  rw[h]
  cases jR:A.off with
  | true=>exact⟨rfl,rfl⟩
  | false =>
   simp_all
 cases hl:A.look nm with
 | none =>
  obtain⟨h1,h2⟩:=hn hl
  rw[h2]
  rw[h1]at hE
  simp only
  refine go ?_
  refine al (bg 5 1 none _) ?_
  refine ad hE Tryz.func116 zr zr ⟨_,rfl,rfl⟩
 | some f =>
  obtain⟨h1,h2⟩:=hr f hl
  rw[h1]
  simp only
  have u4:=Bo bd A nm 0 ((A.now f).length:Int)
  rw[h2]at u4
  refine go ?_
  refine aF u4 ?_
  rintro _ _⟨r,rfl,rfl⟩
  generalize gg A nm=o at hE ⊢
  cases o with
  | none =>
   refine go ?_
   refine ad hE Tryz.func116 zr zr ⟨_,rfl,rfl⟩
  | some b =>
   refine go ?_
   refine ad hE Tryz.func116 zr zr ⟨_,rfl,rfl⟩
end Go.Proofs.YtlcoaflddajjcaaGreatDoor
namespace Go.Proofs.YtlcoaflddajjcaaGreatDoor
open Go Go.SL
attribute [local irreducible] J K au Ends ae aB aI bB aW aS a7 aX bF Sha.chunks Sha.chunk Sha.rounds Sha.sched ej cz GI dq aC
def xi{A:Ab}(h:H8 A)(nm:ByteArray):((gg A nm).getD []).length≤1048576:=by
 unfold gg
 cases A.look nm with
 | none=>simp
 | some f =>
  cases A.off with
  | true=>simp
  | false=>simpa using h.now f
def yN(X:HP)(hK:pY X)(bs bd:Nat)(q:Int)(mb:Nat)(brk:Bool)(A:Ab)(d:Dg):au Tryz.prog 57 [ptr bs,dV d] [ae bs (cl (dg bd q mb brk) 146),aC bd A,X]
  (fun r H=>r = .bool (jx A d)∧H=[ae bs (cl (dg bd q mb brk) 146),aC bd A,X]):=by
 have hf:=oX kB d (by decide)
 refine au.ak Tryz.func57 Tryz.ntmps57 fun G F R hE=>?_
 refine aD rfl ?_
 refine bu zr zr bh ?_
 intro b3
 refine HZ (bd:=bd) (A:=A) 2 rfl ?_
 intro FB
 refine go ?_
 refine aO (U:=aU) (l:=dC d) 0 zr zr zr zr zr zr ?_
 refine aw hf ?_
 refine aF (zO bs bd q mb brk A (eS kB d)) ?_
 rintro _ _⟨rv,rfl,rfl⟩
 have hw:jx A d=match gg A (eS kB d)with|none=>false|some b=>decide (ej b=d):=rfl
 have uC:=xi FB (eS kB d)
 cases hb:gg A (eS kB d)with
 | none =>
  rw[hb]at hw
  rw[hw]at hE
  refine go ?_
  refine aL (fun w=>Sat G w ([])) (cJ 0 3 (.st 4 (.act 3 (cJ 5 3 .nil)))) rfl ah ah ah dv ?_
  refine go ?_
  refine ad hE Tryz.func57 zr zr ⟨rfl,rfl⟩
 | some b =>
  rw[hb]at hw uC
  rw[hw]at hE
  simp only[Option.getD_some]at uC ⊢
  refine eZ (bs:=b) 0 rfl ?_
  intro hbb
  refine aN (ao.trans (ao.pick [0,4] rfl) (ao.bK [aB 5 1 rv b.length (bV b),X] _)) ?_
  have nX:=Bi _ (hK.mono (bn (H:=[aB 5 1 rv b.length (bV b),X]) (i:=1) rfl)) rv b (hbb.mono (bn (i:=0) rfl)) ai
  refine go ?_
  refine aL (fun w=>Sat G w ([ae b3 (cl (dC d) 32)])) (cJ 0 3 (.st 4 (.act 3 (cJ 5 3 .nil)))) rfl ah ah ah dv ?_
  refine go ?_
  refine bX (U:=aU) (l:=dC d) 0 zr zr zr zr zr zr (go ?_)
  refine bE nX ?_
  refine go ?_
  refine gQ (b:=decide (ej b=d)) zr zr zr yq (fun w=>yu (ej b) d w) ?_
  refine go ?_
  refine al (ao.bY _ _) ?_
  refine ad hE Tryz.func57 zr zr ⟨rfl,rfl⟩
def xT(bs bd:Nat)(q:Int)(mb:Nat)(brk:Bool)(A:Ab)(d:Dg):au Tryz.prog 72 [ptr bs,dV d] [ae bs (cl (dg bd q mb brk) 146),aC bd A]
  (fun r H=>∃rv,r = .tuple #[tt rv,.bool (gf A d).isSome]∧H=[aB 77 66 rv ((gf A d).getD []).length (((gf A d).getD []).flatMap ck),ae bs (cl (dg bd q mb brk) 146),aC bd A]):=by
 have hf:=oX kI d (by decide)
 refine au.ak Tryz.func72 Tryz.ntmps72 fun G F R hE=>?_
 refine aD rfl ?_
 refine bu zr zr bh ?_
 intro b3
 refine az zr zr zr bh ?_
 intro b4
 refine HZ (bd:=bd) (A:=A) 3 rfl ?_
 intro FB
 refine go ?_
 refine aO (U:=aU) (l:=dC d) 1 zr zr zr zr zr zr ?_
 refine aw hf ?_
 refine aF (zO bs bd q mb brk A (eS kI d)) ?_
 rintro _ _⟨rv,rfl,rfl⟩
 have hw:gf A d=(gg A (eS kI d)).bind qG:=rfl
 have uC:=xi FB (eS kI d)
 cases hb:gg A (eS kI d)with
 | none =>
  rw[hb]at hw
  rw[hw]at hE
  refine go ?_
  refine al (bg 77 66 none _) ?_
  (refine a6 hE ?_;apply aZ (U:=aU) hE Tryz.func72 rfl (ao.refl _);(repeat(first|exact aR.nil|apply aR.tmp rfl|apply aR.agg 4 zr zr zr zr zr));exact⟨_,rfl,rfl⟩;exact ag)
 | some b =>
  rw[hb]at hw uC
  simp only[Option.getD_some,Option.bind_some]at uC hw ⊢
  rw[hw]at hE
  refine eZ (bs:=b) 0 rfl ?_
  intro hbb
  refine go ?_
  refine aF (uo _ rv b hbb ai) ?_
  rintro _ _ (⟨hn,⟨e,he,rfl⟩,rfl⟩|⟨l,lv,hs,rfl,rfl⟩)
  ·rw[hn]at hE
   refine go ?_
   refine az zr zr zr bh ?_
   intro b8
   refine go ?_
   refine aO (U:=aU) (l:=[.slice none 0 0]) 0 zr zr zr zr zr zr (go ?_)
   refine aG 27 ((.bool false)) rfl ((congrArg Value.bool (decide_eq_false he))) (go ?_)
   (refine aY ?_;(refine bN 4 e8 zr zr zr zr zr zr zr zr zr ?_))
   refine go ?_
   refine al (bg 77 66 none _) ?_
   (refine a6 hE ?_;apply aZ (U:=aU) hE Tryz.func72 rfl (ao.refl _);(repeat(first|exact aR.nil|apply aR.tmp rfl|apply aR.agg 5 zr zr zr zr zr));exact⟨_,rfl,rfl⟩;exact ag)
  ·rw[hs]at hE
   refine aH 0 rfl ?_
   rintro la lc rfl
   refine go ?_
   refine az zr zr zr bh ?_
   intro b8
   refine go ?_
   refine aO (U:=aU) (l:=[.slice la l.length lc]) 0 zr zr zr zr zr zr (go ?_)
   (refine aY ?_;(refine bN 5 e8 zr zr zr zr zr zr zr zr zr ?_))
   refine go ?_
   (refine a6 hE ?_;apply aZ (U:=aU) hE Tryz.func72 rfl (ao.refl _);(repeat(first|exact aR.nil|apply aR.tmp rfl|apply aR.agg 5 zr zr zr zr zr));exact⟨_,rfl,rfl⟩;exact ag)
def FV(X:HP)(hK:pY X)(b2 bs bd:Nat)(q:Int)(mb:Nat)(brk:Bool)(A:Ab)(y:Bl) :
  au Tryz.prog 120 [jU y,ptr b2] [Sep [ae b2 (cl [ptr bs] 91),ae bs (cl (dg bd q mb brk) 146),aC bd A,X] ]
  (fun r H=>r = .bool (!jx A y.d)∧H=[Sep [ae b2 (cl [ptr bs] 91),ae bs (cl (dg bd q mb brk) 146),aC bd A,X] ]):=by
 have hw:=yN X hK bs bd q mb brk A y.d
 refine au.ak Tryz.func120 Tryz.ntmps120 fun G F R hE=>?_
 refine aD rfl ?_
 refine bu zr zr bh ?_
 intro b0
 refine aN (ao.trans (ao.pick [1] rfl) (ao.bY [_,_,_,_] _)) (go ?_)
 refine bP 4 zr zr zr zr zr zr ?_
 refine aw hw ?_
 refine go ?_
 refine al (ao.trans (ao.pick [3,0,1,2] rfl) (ao.bK [_,_,_,_] _)) ?_
 refine ad hE Tryz.func120 zr zr ⟨rfl,rfl⟩
def xd{A:Ab}{d:Dg}(h:gf A d=none):fe A d=false:=by unfold fe;rw[h]
theorem w9{A:Ab}{d:Dg}{l:List Bl}(h:gf A d=some l):fe A d=(decide (cw l=d) && !l.any fun y => !jx A y.d):=by
 grind [fe]
def I7{A:Ab}{d:Dg}{l:List Bl}(h:gf A d=some l):cG l=0:=by
 obtain⟨b,_,hb⟩:=Option.bind_eq_some_iff.1 h
 exact FQ hb
def A5(X:HP)(hK:pY X)(bs bd:Nat)(q:Int)(mb:Nat)(brk:Bool)(A:Ab)(d:Dg):au Tryz.prog 60 [ptr bs,dV d] [ae bs (cl (dg bd q mb brk) 146),aC bd A,X]
  (fun r H=>r = .bool (fe A d)∧H=[ae bs (cl (dg bd q mb brk) 146),aC bd A,X]):=by
 have hi:=xT bs bd q mb brk A d
 refine au.ak Tryz.func60 Tryz.ntmps60 fun G F R hE=>?_
 refine aD rfl ?_
 refine bu zr zr bh ?_
 intro b2
 refine bu zr zr bh ?_
 intro b3
 refine go ?_
 refine aO (U:=aU) (l:=dC d) 0 zr zr zr zr zr zr ?_
 refine aF hi ?_
 rintro _ _⟨rv,rfl,rfl⟩
 refine aH 0 rfl ?_
 rintro ra rc rfl
 refine go ?_
 refine az zr zr zr bh ?_
 intro b5
 refine go ?_
 cases sK:gf A d with
 | none =>
  rw[xd sK]at hE
  have tA:=xG X hK (.slice ra 0 rc) [] (Vw.nil X ra rc) (by simp)
  refine aO (U:=aU) (l:=[.slice ra 0 rc]) 0 zr zr zr zr zr zr ?_
  refine aw tA ?_
  refine go ?_
  refine az zr zr zr bh ?_
  intro b7
  refine go ?_
  refine ad hE Tryz.func60 zr zr ⟨rfl,rfl⟩
 | some l =>
  have nD:=I7 sK
  have hlr:=iU nD
  rw[w9 sK]at hE
  refine Bt 1 rfl ?_
  intro cW fY
  refine aN (H':=Sep [aB 77 66 (.slice ra l.length rc) l.length (l.flatMap ck),X]::ae b5 (cl [.slice ra l.length rc] 75)::ae bs (cl (dg bd q mb brk) 146)::aC bd A::ae b3 (cl (dC d) 32)::ae b2 (cl [ptr bs] 91)::F) (ao.trans (H2:=aB 77 66 (.slice ra l.length rc) l.length (l.flatMap ck)::X::ae b5 (cl [.slice ra l.length rc] 75)::ae bs (cl (dg bd q mb brk) 146)::aC bd A::ae b3 (cl (dC d) 32)::ae b2 (cl [ptr bs] 91)::F) ag (ao.bK [_,_] _)) ?_
  have tA:=xG _ (hK.mono (bn (H:=[aB 77 66 (.slice ra l.length rc) l.length (l.flatMap ck),X]) (i:=1) rfl)) _ l (cW.mono (bn (i:=0) rfl)) ai
  rw[if_pos nD]at tA
  refine aO (U:=aU) (l:=[.slice ra l.length rc]) 1 zr zr zr zr zr zr ?_
  refine aw tA ?_
  refine go ?_
  refine az zr zr zr bh ?_
  intro b7
  refine go ?_
  refine aO (U:=aU) (l:=dC (cw l)) 0 zr zr zr zr zr zr (go ?_)
  refine aO (U:=aU) (l:=dC d) 5 zr zr zr zr zr zr (go ?_)
  refine gQ (b:=decide (cw l=d)) zr zr zr yq (fun w=>yu (cw l) d w) ?_
  by_cases iK:cw l=d
  ·rw[decide_eq_true iK]at hE ⊢
   refine go ?_
   refine aN (H':=aB 77 66 (.slice ra l.length rc) l.length (l.flatMap ck)::Sep [ae b2 (cl [ptr bs] 91),ae bs (cl (dg bd q mb brk) 146),aC bd A,X]::F) (ao.trans (ao.trans (ao.pick [1] rfl) (ao.bY [_,_] _)) (ao.trans (H2:=ae b2 (cl [ptr bs] 91)::ae bs (cl (dg bd q mb brk) 146)::aC bd A::X::aB 77 66 (.slice ra l.length rc) l.length (l.flatMap ck)::F) ag (ao.trans (ao.bK [_,_,_,_] _) ag))) ?_
   refine aw (nU _ (Sep [ae b2 (cl [ptr bs] 91),ae bs (cl (dg bd q mb brk) 146),aC bd A,X]) _ l cW ai 120 [ptr b2] (fun y => !jx A y.d) (fun y _=>FV X hK b2 bs bd q mb brk A y)) ?_
   refine go ?_
   refine al (ao.trans (ao.pick [1] rfl) (ao.bY [_,_,_,_] _)) ?_
   refine ad hE Tryz.func60 zr zr ⟨rfl,rfl⟩
  ·rw[decide_eq_false iK]at hE ⊢
   refine go ?_
   refine al (ao.trans (ao.pick [1] rfl) (ao.bY [_,_] _)) ?_
   refine ad hE Tryz.func60 zr zr ⟨rfl,rfl⟩
def Bn(g:FuncId)(fi:List Value)(Y:Ab→HP)(right:Ab→Dg→Bool):Prop:=∀(A:Ab) (d:Dg),au Tryz.prog g (fi++[dV d]) [Y A] (fun r H=>r = .bool (right A d)∧H=[Y A])
end Go.Proofs.YtlcoaflddajjcaaGreatDoor
namespace Go.Proofs.YtlcoaflddajjcaaGreatDoor
open Go Go.SL
attribute [local irreducible] J K au Ends ae aB aI bB aW aS a7 aX bF
theorem Dr{σ:Type}(I:σ→HP)(V:HP)(v:Value)(jW:List Value)(hv:Vw V v jW.length jW)(hn:jW.length≤1000000000)(ss:List (σ→Nat→σ→Prop))(hlen:ss.length=jW.length)(Q:Nat→σ→Prop)(dK:∀(i:Nat) (fv:Value) (s:σ→Nat→σ→Prop),jW[i]?=some fv→ss[i]?=some s→∃g fi cap,fv = .func (.func g) fi cap∧∀x,Q i x→au Tryz.prog g (fi.toList++cap.toList) [I x] (fun r H=>∃(e:Nat) (x':σ),r = .int .i64 (e:Int)∧H=[I x']∧s x e x'∧(e=0→Q (i+1) x')))(x0:σ)(hQ:Q 0 x0) :
  au Tryz.prog 54 [v] [V,I x0] (fun r H=>∃(e:Nat) (x':σ),r = .int .i64 (e:Int)∧H=[V,I x']∧mh ss x0 e x'∧(e=0→Q jW.length x')):=by
 obtain⟨a,c,rfl⟩:=hv.shape
 refine au.ak Tryz.func54 Tryz.ntmps54 fun G F R hE=>?_
 refine go ?_
 refine bj (fun y:Nat × σ=>y.1≤jW.length∧Q y.1 y.2∧∀e x',mh (ss.drop y.1) y.2 e x'→mh ss x0 e x') (fun y=>jW.length-y.1)
  (fun y=>[(0,.slice a jW.length c),(6,.slice a jW.length c),(7,.int .i64 (jW.length:Int)),(8,.int .i64 (y.1:Int))])
  (fun y=>V::I y.2::F) (0,x0) ⟨Nat.zero_le _,hQ,fun _ _ h=>h⟩ rfl bS ag ?_
 rintro⟨i,x⟩⟨hi,hq,hr⟩ ih
 simp only at hi hq hr
 refine go ?_
 refine aq zr zr ?_ ?_
 ·intro cL
  simp only at cL
  have jL:i<jW.length:=by omega
  obtain⟨fv,yp⟩:∃fv,jW[i]?=some fv:=⟨jW[i],List.getElem?_eq_getElem jL⟩
  obtain⟨s,hs⟩:∃s,ss[i]?=some s:=⟨ss[i],List.getElem?_eq_getElem ai⟩
  obtain⟨g,fi,cap,rfl,hc⟩:=dK i fv s yp hs
  have iX:ss.drop i=s::ss.drop (i+1):=by
   rw[List.drop_eq_getElem_cons ai]
   grind
  obtain⟨b0,o0,c0,sN⟩:=hv.some (by intro h;rw[h]at jL;simp at jL)
  simp only[Value.slice.injEq]at sN
  obtain⟨rfl,-,rfl⟩:=sN
  refine go ?_
  refine bp i zr zr zr zr zr zr zr zr jL ?_
  refine aQ 0 i zr zr zr hv rfl yp zr zr (go ?_)
  refine ji zr zr zr (by simp) (hc x hq) ag ?_ jk
  rintro _ _⟨e,x',rfl,rfl,QK,Ol⟩
  refine go ?_
  refine aq zr zr ?_ ?_
  ·intro fu
   have he:e≠0:=by omega
   refine go ?_
   ((refine ad hE Tryz.func54 zr zr ⟨e,x',rfl,rfl,hr e x' (by rw[iX];exact⟨e,x',QK,.inl ⟨he,rfl,rfl⟩⟩),fun h=>absurd h he⟩))
  ·intro heq
   have he:e=0:=by omega
   refine go ?_
   refine aM ih (i+1,x') rfl (⟨by simp only;omega,Ol he,fun e2 x2 h2=>hr e2 x2 (by rw[iX];exact⟨e,x',QK,.inr ⟨he,h2⟩⟩)⟩) (by simp only;omega) bS ag
 ·intro ep
  simp only at ep
  have dA:i=jW.length:=by omega
  subst dA
  refine go ?_
  ((refine ad hE Tryz.func54 zr zr ⟨0,x,rfl,rfl,hr 0 x (by rw[List.drop_eq_nil_of_le ai];exact⟨rfl,rfl⟩),fun _=>hq⟩))
attribute [local irreducible] Sha.chunks Sha.chunk Sha.rounds Sha.sched ej cz GI dq
def pj(bd:Nat)(A:Ab):au Tryz.prog 52 [ptr bd] [aC bd A] (fun r H=>H=[aB 9 1 r (eW A).length ((eW A).map Value.string),aC bd A]):=by
 have hl:(eW A).length=(gj A).length:=by unfold eW;rw[List.length_map,sX]
 have hm:(eW A).map Value.string=nS (ou (gj A)):=by unfold eW nS;rw[List.map_map];rfl
 rw[hl,hm]
 exact ij (Post:=fun v H=>∃D,Rel D A∧H=[aB 9 1 v (gj A).length (nS (ou (gj A))),gn bd D]) ah (fun D hR=>(Kj bd D A hR).post (fun v H h=>⟨D,hR,h⟩)) (by rintro v H⟨D',hR,rfl⟩;exact⟨_,rfl,ao.cons _ (gD hR [])⟩)
attribute [local irreducible] aC
def nt{A:Ab}(h:H8 A):(eW A).length≤200:=by
 unfold eW gj
 rw[List.length_map,sX,List.length_map]
 exact h.fj _ (List.mem_cons_self ..)
def sG(bs bd:Nat)(q:Int)(mb:Nat)(brk:Bool)(X:HP)(A:Ab):HP:=Sep [ae bs (cl (dg bd q mb brk) 146),aC bd A,X]
def yr{A B:Ab}{nm:ByteArray}{e:Nat}(h:BU nm A e B):ko A B:=by
 have:=oT A (isName nm) nm
 rw[← h]at this
 exact this
theorem s9(bs bd:Nat)(q:Int)(mb:Nat)(brk:Bool)(X:HP)(kind:List UInt8)(hk:kind.length≤1000)(g:FuncId)(fi:List Value)(right:Ab→Dg→Bool)(hr:Bn g fi (sG bs bd q mb brk X) right)(A:Ab)(dK:A.aV.length≤900000000) :
  au Tryz.prog 56 [ptr bs,.string (strOf kind),.func (.func g) fi.toArray #[] ] [sG bs bd q mb brk X A]
  (fun r H=>∃(e:Nat) (B:Ab),r = .int .i64 (e:Int)∧H=[sG bs bd q mb brk X B]∧dX kind right A e B∧B.aV.length≤A.aV.length+200):=by
 refine au.ak Tryz.func56 Tryz.ntmps56 fun G F R hE=>?_
 refine al (ao.bY [_,_,_] _) ?_
 refine sm (bd:=bd) (A:=A) 1 rfl ?_
 intro FB
 have CN:=nt FB
 obtain⟨l,hl⟩:∃l,l=eW A:=⟨_,rfl⟩
 have hsd:∀e B,mS kind right l A e B→dX kind right A e B:=fun e B h=>by unfold dX;rw[← hl];exact h
 refine go ?_
 have tA:=pj bd A
 rw[← hl]at tA CN
 refine aF tA ?_
 rintro r _ rfl
 refine aH 0 rfl ?_
 rintro ra rc rfl
 refine dH 0 rfl ?_
 intro cW
 refine go ?_
 refine bj (fun y:Nat × Ab=>y.1≤l.length∧y.2.aV.length≤A.aV.length+y.1∧∀e B,mS kind right (l.drop y.1) y.2 e B→dX kind right A e B) (fun y=>l.length-y.1)
  (fun y=>[(0,ptr bs),(1,.string (strOf kind)),(2,.func (.func g) fi.toArray #[]),(16,.slice ra l.length rc),(17,.int .i64 (l.length:Int)),(18,.int .i64 (y.1:Int))])
  (fun y=>aB 9 1 (.slice ra l.length rc) l.length (l.map Value.string)::ae bs (cl (dg bd q mb brk) 146)::aC bd y.2::X::F) (0,A) ⟨Nat.zero_le _,by simp,hsd⟩ rfl bS ag ?_
 rintro⟨i,B⟩⟨hi,hbs,YX⟩ ih
 simp only at hi hbs YX
 dsimp only
 refine go ?_
 refine aq zr zr ?_ ?_
 ·intro cL
  have dA:i<l.length:=by omega
  obtain⟨nm,hx⟩:∃x,l[i]?=some x:=⟨l[i],by simp⟩
  have iX:l.drop i=nm::l.drop (i+1):=by
   rw[List.drop_eq_getElem_cons dA]
   grind
  rw[iX]at YX
  have dt:(l.map Value.string)[i]?=some (.string nm):=by rw[List.getElem?_map,hx];rfl
  obtain⟨b,o,eY,dL⟩:=cW.some (by intro h;rw[h]at dt;simp at dt)
  simp only[Value.slice.injEq]at dL
  obtain⟨rfl,_,rfl⟩:=dL
  refine go ?_
  refine bW i 1 zr zr zr zr zr zr zr zr dA ?_
  refine aP ?_
  refine aQ 0 (i*1) zr zr zr cW rfl (by rw[Nat.mul_one];exact dt) zr zr ?_
  refine go ?_
  refine aw (wP kind nm hk) ?_
  cases hh:gT kind nm with
  | none =>
   have Jb:∀e B',mS kind right (l.drop (i+1)) B e B'→dX kind right A e B':=fun e B' h=>YX e B' (by unfold mS;rw[hh];exact h)
   simp only[wQ]
   unfold dV
   refine go ?_
   refine az zr zr zr bh ?_
   intro b9
   refine go ?_
   refine aM ih (i+1,B) rfl ⟨by simp only;omega,by simp only;omega,Jb⟩ (by simp only;omega) bS ag
  | some d =>
   have Oi:=hr B d
   simp only[wQ]
   unfold dV
   refine go ?_
   refine az zr zr zr bh ?_
   intro b9
   refine go ?_
   refine aO (U:=aU) (l:=dC d) 0 zr zr zr zr zr zr (go ?_)
   refine aN (ao.trans (ao.pick [2,3,4] rfl) (ao.bK [ae bs (cl (dg bd q mb brk) 146),aC bd B,X] _)) ?_
   refine ji zr zr zr (by simp;rfl) Oi ag ?_ jk
   rintro _ _⟨rfl,rfl⟩
   refine aN (ao.bY [ae bs (cl (dg bd q mb brk) 146),aC bd B,X] _) ?_
   cases KH:right B d with
   | true =>
    have Jb:∀e B',mS kind right (l.drop (i+1)) B e B'→dX kind right A e B':=fun e B' h=>YX e B' (by unfold mS;rw[hh];simp only;rw[if_pos KH];exact h)
    refine go ?_
    refine aM ih (i+1,B) rfl ⟨by simp only;omega,by simp only;omega,Jb⟩ (by simp only;omega) bS ag
   | false =>
    have abU:=zX bd B nm ai
    obtain⟨e1,B1,QP⟩:∃e1 B1,B.remove (isName nm) nm=(e1,B1):=⟨_,_,rfl⟩
    rw[QP]at abU
    have hgr:=yr (A:=B) (B:=B1) (nm:=nm) (e:=e1) QP.symm
    have Jb:∀e B',((e1≠0∧e=e1∧B'=B1)∨(e1=0∧mS kind right (l.drop (i+1)) B1 e B'))→dX kind right A e B':=fun e B' h=>YX e B' (by unfold mS;rw[hh];simp only;rw[if_neg (by rw[KH];simp)];exact⟨e1,B1,QP.symm,h⟩)
    have Jr:=hgr.1
    refine go ?_
    refine aw abU ?_
    refine go ?_
    refine aq zr zr ?_ ?_
    ·intro fu
     have jS:e1≠0:=by simp only at fu;omega
     refine go ?_
     refine al (H':=sG bs bd q mb brk X B1::F) (ao.trans (H2:=ae bs (cl (dg bd q mb brk) 146)::aC bd B1::X::F) ag (ao.bK [ae bs (cl (dg bd q mb brk) 146),aC bd B1,X] _)) ?_
     refine ad hE Tryz.func56 zr zr ⟨e1,B1,rfl,rfl,Jb e1 B1 (.inl ⟨jS,rfl,rfl⟩),ai⟩
    ·intro heq
     have AW:e1=0:=by simp only at heq;omega
     refine go ?_
     refine aM ih (i+1,B1) rfl ⟨by simp only;omega,by simp only;omega,fun e B' h=>Jb e B' (.inr ⟨AW,h⟩)⟩ (by simp only;omega) bS ag
 ·intro ep
  have qY:i=l.length:=by omega
  rw[qY,List.drop_length]at YX
  refine go ?_
  refine al (H':=sG bs bd q mb brk X B::F) (ao.trans (H2:=ae bs (cl (dg bd q mb brk) 146)::aC bd B::X::F) ag (ao.bK [ae bs (cl (dg bd q mb brk) 146),aC bd B,X] _)) ?_
  ((refine ad hE Tryz.func56 zr zr ⟨0,B,rfl,rfl,YX 0 B (by unfold mS;exact⟨rfl,rfl⟩),ai⟩))
def HJ{P:Program}{f:FuncId}{args:List Value}{l:List HP}{p:Value→Prop}(h:au P f args l (fun r H=>p r∧H=l)):au P f args [Sep l] (fun r H=>p r∧H=[Sep l]) :=
 h.conv (by have:=ao.bY l [];rwa[List.append_nil]at this) (by intro v H hh;obtain⟨hp,hH⟩:=hh;exact⟨[Sep l],⟨hp,rfl⟩,by rw[hH];have:=ao.bK l [];rwa[List.append_nil]at this⟩)
def EG(X:HP)(hK:pY X)(bs bd:Nat)(q:Int)(mb:Nat)(brk:Bool):Bn 57 [ptr bs] (sG bs bd q mb brk X) jx:=fun A d=>HJ (p:=fun r=>r = .bool (jx A d)) (yN X hK bs bd q mb brk A d)
def ya(X:HP)(hK:pY X)(bs bd:Nat)(q:Int)(mb:Nat)(brk:Bool):Bn 60 [ptr bs] (sG bs bd q mb brk X) fe:=fun A d=>HJ (p:=fun r=>r = .bool (fe A d)) (A5 X hK bs bd q mb brk A d)
def EH(Y:Ab→HP):Bn 53 [] Y (fun _ _=>false):=fun A d=>by
 show au Tryz.prog 53 [dV d] [Y A] _
 unfold dV
 refine au.ak Tryz.func53 Tryz.ntmps53 fun G F R hE=>?_
 refine aD rfl ?_
 refine bu zr zr bh ?_
 intro b1
 refine go ?_
 refine ad hE Tryz.func53 zr zr ⟨rfl,rfl⟩
def L4(bs bd b6 b8:Nat)(q:Int)(mb:Nat)(X:HP)(A:Ab):HP:=Sep [sG bs bd q mb false X A,ae b6 (cl [ptr bs] 91),ae b8 (cl [.func (.func 53) #[] #[] ] 114)]
def IM(X:HP)(hK:pY X)(bs bd b6 b8:Nat)(q:Int)(mb:Nat)(A:Ab)(dK:A.aV.length≤900000000):au Tryz.prog 55 [ptr b6] [L4 bs bd b6 b8 q mb X A]
  (fun r H=>∃(e:Nat) (B:Ab),r = .int .i64 (e:Int)∧H=[L4 bs bd b6 b8 q mb X B]∧dX kB jx A e B∧B.aV.length≤A.aV.length+200):=by
 refine au.ak Tryz.func55 Tryz.ntmps55 fun G F R hE=>?_
 refine al (ao.bY [_,_,_] _) (go ?_)
 refine aF (s9 bs bd q mb false X kB (by decide) _ [ptr bs] jx (EG X hK bs bd q mb false) A dK) ?_
 rintro _ _⟨e,B,rfl,rfl,h1,h2⟩
 refine go ?_
 refine al (ao.bK [sG bs bd q mb false X B,_,_] _) ?_
 refine ad hE Tryz.func55 zr zr ⟨e,B,rfl,rfl,h1,h2⟩
def IL(X:HP)(bs bd b6 b8:Nat)(q:Int)(mb:Nat)(A:Ab)(dK:A.aV.length≤900000000):au Tryz.prog 58 [ptr b6,ptr b8] [L4 bs bd b6 b8 q mb X A]
  (fun r H=>∃(e:Nat) (B:Ab),r = .int .i64 (e:Int)∧H=[L4 bs bd b6 b8 q mb X B]∧dX kN (fun _ _=>false) A e B∧B.aV.length≤A.aV.length+200):=by
 refine au.ak Tryz.func58 Tryz.ntmps58 fun G F R hE=>?_
 refine al (ao.bY [_,_,_] _) (go ?_)
 refine aF (s9 bs bd q mb false X kN (by decide) _ [] (fun _ _=>false) (EH _) A dK) ?_
 rintro _ _⟨e,B,rfl,rfl,h1,h2⟩
 refine go ?_
 refine al (ao.bK [sG bs bd q mb false X B,_,_] _) ?_
 refine ad hE Tryz.func58 zr zr ⟨e,B,rfl,rfl,h1,h2⟩
def IK(X:HP)(hK:pY X)(bs bd b6 b8:Nat)(q:Int)(mb:Nat)(A:Ab)(dK:A.aV.length≤900000000):au Tryz.prog 59 [ptr b6] [L4 bs bd b6 b8 q mb X A]
  (fun r H=>∃(e:Nat) (B:Ab),r = .int .i64 (e:Int)∧H=[L4 bs bd b6 b8 q mb X B]∧dX kI fe A e B∧B.aV.length≤A.aV.length+200):=by
 refine au.ak Tryz.func59 Tryz.ntmps59 fun G F R hE=>?_
 refine al (ao.bY [_,_,_] _) (go ?_)
 refine aF (s9 bs bd q mb false X kI (by decide) _ [ptr bs] fe (ya X hK bs bd q mb false) A dK) ?_
 rintro _ _⟨e,B,rfl,rfl,h1,h2⟩
 refine go ?_
 refine al (ao.bK [sG bs bd q mb false X B,_,_] _) ?_
 refine ad hE Tryz.func59 zr zr ⟨e,B,rfl,rfl,h1,h2⟩
def du(l:List (Dg × Bl)):List (Dg × Value):=l.map fun x=>(x.1,jU x.2)
theorem nr(A:Ab):(eW A).length=A.names.length:=by unfold eW gj;rw[List.length_map,sX,List.length_map]
theorem Kh(X:HP)(hK:pY X)(bd:Nat)(q:Int)(A:Ab)(dK:A.aV.length≤800000000):au Tryz.prog 23 [ptr bd,.int .i64 q] [aC bd A,X]
  (fun r H=>((q<1∨1073741824<q)∧r = .tuple #[.pointer none,.int .i64 1]∧H=[aC bd A,X])∨(¬(q<1∨1073741824<q)∧A.off=true∧r = .tuple #[.pointer none,.int .i64 7]∧H=[aC bd A,X]) ∨
   (¬(q<1∨1073741824<q)∧A.off=false∧∃(e:Nat) (B:Ab),pg A e B∧((e≠0∧r = .tuple #[.pointer none,.int .i64 (e:Int)]∧H=[aC bd B,X]) ∨
    (e=0∧B.aV.length≤A.aV.length+601∧∃bs mb,r = .tuple #[ptr bs,.int .i64 0]∧H=[ae bs (cl (dg bd q mb false) 146),aI dV mb (du []),aC bd B,X])))):=by
 refine au.ak Tryz.func23 Tryz.ntmps23 fun G F R hE=>?_
 refine sm (bd:=bd) (A:=A) 0 rfl ?_
 intro FB
 repeat'(first|(with_reducible intro jg)|refine er ?_|refine dP zr zr zr zr ?_ ?_|refine aq zr zr ?_ ?_|(refine aF (NM bd A) ?_;rintro _ _⟨rfl,rfl⟩))
 ·refine ad hE Tryz.func23 zr zr (.inl ⟨.inl ai,rfl,rfl⟩)
 ·refine ad hE Tryz.func23 zr zr (.inl ⟨.inr ai,rfl,rfl⟩)
 have hq:¬(q<1∨1073741824<q):=by omega
 cases jR:A.off with
 | true =>
  refine go ?_
  refine ad hE Tryz.func23 zr zr (.inr (.inl ⟨hq,jR,rfl,rfl⟩))
 | false =>
  rw[jR]at hE
  refine go ?_
  refine eG rfl bh ?_
  intro mb
  refine aN (ao.fold (B:=[_]) (A:=aI dV mb (du [])) (fun h hs=>⟨h,sub.refl h,gA dV mb h (dp hs)⟩)) ?_
  refine go ?_
  refine bu zr zr bh ?_
  intro bs
  refine az zr zr zr bh ?_
  intro b6
  refine go ?_
  refine aF (pj bd A) ?_
  rintro r _ rfl
  refine aH 0 rfl ?_
  rintro ra rc rfl
  refine go ?_
  refine az zr zr zr bh ?_
  intro b8
  refine go ?_
  refine aj (cs:=[.func (.func 55) #[] #[ptr b6],.func (.func 58) #[] #[ptr b6,ptr b8],.func (.func 59) #[] #[ptr b6] ]) zr zr zr zr zr zr zr zr zr bh ?_
  intro row
  refine aN (H':=ae row (cl [.func (.func 55) #[] #[ptr b6],.func (.func 58) #[] #[ptr b6,ptr b8],.func (.func 59) #[] #[ptr b6] ] 101)::L4 bs bd b6 b8 q mb X A::aI dV mb (du [])::F) (ao.trans (H2:=ae bs (cl (dg bd q mb false) 146)::aC bd A::X::ae b6 (cl [ptr bs] 91)::ae b8 (cl [.func (.func 53) #[] #[] ] 114)::ae row (cl [.func (.func 55) #[] #[ptr b6],.func (.func 58) #[] #[ptr b6,ptr b8],.func (.func 59) #[] #[ptr b6] ] 101)::aI dV mb (du [])::F) ag (ao.trans (ao.bK [ae bs (cl (dg bd q mb false) 146),aC bd A,X] _) (ao.trans (ao.bK [sG bs bd q mb false X A,ae b6 (cl [ptr bs] 91),ae b8 (cl [.func (.func 53) #[] #[] ] 114)] _) ag))) ?_
  have Fp:∀(i:Nat) (fv:Value) (sp:Ab→Nat→Ab→Prop),[.func (.func 55) #[] #[ptr b6],.func (.func 58) #[] #[ptr b6,ptr b8],.func (.func 59) #[] #[ptr b6] ][i]?=some fv→[dX kB jx,dX kN (fun _ _=>false),dX kI fe][i]?=some sp→∃g fi cap,fv = .func (.func g) fi cap∧∀x:Ab,x.aV.length≤A.aV.length+200*i→au Tryz.prog g (fi.toList++cap.toList) [L4 bs bd b6 b8 q mb X x] (fun r H=>∃(e:Nat) (x':Ab),r = .int .i64 (e:Int)∧H=[L4 bs bd b6 b8 q mb X x']∧sp x e x'∧(e=0→x'.aV.length≤A.aV.length+200*(i+1))):=by
   intro i fv sp hi hs
   match i,hi,hs with
   | 0,hi,hs =>
    cases hi;cases hs
    refine⟨_,_,_,rfl,fun x hx=>(IM X hK bs bd b6 b8 q mb x ai).post ?_⟩
    grind
   | 1,hi,hs =>
    cases hi;cases hs
    refine⟨_,_,_,rfl,fun x hx=>(IL X bs bd b6 b8 q mb x ai).post ?_⟩
    grind
   | 2,hi,hs =>
    cases hi;cases hs
    refine⟨_,_,_,rfl,fun x hx=>(IK X hK bs bd b6 b8 q mb x ai).post ?_⟩
    grind
   | k+3,hi,hs=>simp at hi
  have fI:=Dr (L4 bs bd b6 b8 q mb X) (ae row (cl [.func (.func 55) #[] #[ptr b6],.func (.func 58) #[] #[ptr b6,ptr b8],.func (.func 59) #[] #[ptr b6] ] 101)) (.slice (some ⟨row,0,none⟩) 3 3) [.func (.func 55) #[] #[ptr b6],.func (.func 58) #[] #[ptr b6,ptr b8],.func (.func 59) #[] #[ptr b6] ] (Vw.ae rfl) (by show 3≤_;omega) [dX kB jx,dX kN (fun _ _=>false),dX kI fe] rfl (fun i x=>x.aV.length≤A.aV.length+200*i) Fp A (by simp)
  refine aF fI ?_
  rintro _ _⟨e,B,rfl,rfl,k8,hb⟩
  refine aN (H':=ae bs (cl (dg bd q mb false) 146)::aC bd B::X::ae b6 (cl [ptr bs] 91)::aI dV mb (du [])::F) (ao.trans (H2:=L4 bs bd b6 b8 q mb X B::aI dV mb (du [])::F) ag (ao.trans (ao.bY [sG bs bd q mb false X B,ae b6 (cl [ptr bs] 91),ae b8 (cl [.func (.func 53) #[] #[] ] 114)] _) (ao.trans (ao.bY [ae bs (cl (dg bd q mb false) 146),aC bd B,X] _) ag))) ?_
  by_cases he:e=0
  ·subst he
   have Zv:=hb rfl
   simp only[List.length_cons,List.length_nil]at Zv
   refine go ?_
   refine aF (pj bd B) ?_
   rintro r2 _ rfl
   refine aH 0 rfl ?_
   rintro ra2 rc2 rfl
   refine go ?_
   refine aq zr zr ?_ ?_
   ·intro cL
    have Jk:B.names.length<A.names.length:=by
     grind [nr]
    have hsn:=nK bd B
    obtain⟨e2,B2,hse⟩:∃e2 B2,B.cF=(e2,B2):=⟨_,_,rfl⟩
    rw[hse]at hsn
    have mI:pg A e2 B2:=⟨0,B,k8,by rw[if_pos ⟨rfl,Jk⟩];exact hse.symm⟩
    refine go ?_
    refine aw hsn ?_
    refine go ?_
    refine aq zr zr ?_ ?_
    ·intro fu
     have jS:e2≠0:=by simp only at fu;omega
     refine go ?_
     refine ad hE Tryz.func23 zr zr (.inr (.inr ⟨hq,rfl,e2,B2,mI,.inl ⟨jS,rfl,rfl⟩⟩))
    ·intro heq
     have AW:e2=0:=by simp only at heq;omega
     subst AW
     have hg:B2.aV.length≤B.aV.length+1:=by
      have h1:B2=B.cF.2:=by rw[hse]
      rw[h1]
      exact(iY B).1
     refine go ?_
     refine al (H':=ae bs (cl (dg bd q mb false) 146)::aI dV mb (du [])::aC bd B2::X::F) ag ?_
     refine ad hE Tryz.func23 zr zr (.inr (.inr ⟨hq,rfl,0,B2,mI,.inr ⟨rfl,ai,bs,mb,rfl,rfl⟩⟩))
   ·intro ep
    have Jk:¬B.names.length<A.names.length:=by
     grind [nr]
    have mI:pg A 0 B:=⟨0,B,k8,by rw[if_neg ai];exact⟨rfl,rfl⟩⟩
    refine go ?_
    refine al (H':=ae bs (cl (dg bd q mb false) 146)::aI dV mb (du [])::aC bd B::X::F) ag ?_
    refine ad hE Tryz.func23 zr zr (.inr (.inr ⟨hq,rfl,0,B,mI,.inr ⟨rfl,ai,bs,mb,rfl,rfl⟩⟩))
  ·have mI:pg A e B:=⟨e,B,k8,by rw[if_neg ai];exact⟨rfl,rfl⟩⟩
   refine go ?_
   have hd:decide ((e:Int)=0)=false:=by simp;exact he
   rw[hd]
   refine go ?_
   refine aq zr zr ?_ ?_
   ·intro _
    refine go ?_
    refine al (H':=aC bd B::X::F) ag ?_
    refine ad hE Tryz.func23 zr zr (.inr (.inr ⟨hq,rfl,e,B,mI,.inl ⟨he,rfl,rfl⟩⟩))
   ·intro h0
    exact absurd (by omega:e=0) he
section
variable{P:Program}{U:Tr}[hU:eT P U]{f:FuncId}{n:Nat}{R:Ending→World→Prop}{G:ct}{k:List Item}{L:eH}{H H':List HP}{all:Array Oper}{rest:Pl}{ty:TypeId}{pos:String}{af:Array Edge}{gd:Option (Nat × Bool)}{d:Tmp}
end
def H6(bs bd:Nat)(q:Int)(mb:Nat)(brk:Bool)(A:Ab)(d:Dg):au Tryz.prog 84 [ptr bs,dV d] [ae bs (cl (dg bd q mb brk) 146),aC bd A]
  (fun r H=>r = .bool (nZ A (eS kB d))∧H=[ae bs (cl (dg bd q mb brk) 146),aC bd A]):=by
 have hf:=oX kB d (by decide)
 unfold dV at hf ⊢
 refine au.ak Tryz.func84 Tryz.ntmps84 fun G F R hE=>?_
 refine aD rfl ?_
 refine bu zr zr bh ?_
 intro b3
 refine go ?_
 refine aO (U:=aU) (l:=dC d) 0 zr zr zr zr zr zr ?_
 refine aw hf ?_
 refine aw (My bs bd q mb brk A (eS kB d)) ?_
 refine go ?_
 refine ad hE Tryz.func84 zr zr ⟨rfl,rfl⟩
def wi(l:List (Dg × Bl))(x:Bl):Bool:=decide (yz l x.d=some x)
theorem tN(l:List (Dg × Bl))(d:Dg):cU (du l) d=(yz l d).map jU:=by
 unfold du yz cU
 induction l with
 | nil=>rfl
 | cons y l ih =>
  grind
def L3(bs bd:Nat)(q:Int)(mb:Nat)(brk:Bool)(l:List (Dg × Bl))(x:Bl):au Tryz.prog 255 [ptr bs,jU x] [ae bs (cl (dg bd q mb brk) 146),aI dV mb (du l)]
  (fun r H=>r = .bool (wi l x)∧H=[ae bs (cl (dg bd q mb brk) 146),aI dV mb (du l)]):=by
 unfold jU
 refine au.ak Tryz.func255 Tryz.ntmps255 fun G F R hE=>?_
 refine aD rfl ?_
 refine bu zr zr bh ?_
 intro b3
 refine go ?_
 refine aL (fun w=>Sat G w ([ae b3 (cl (ck x) 77),ae bs (cl (dg bd q mb brk) 146),aI dV mb (du l)])) (cJ 0 10 (.act 10 (.act 11 (.st 12 .nil)))) rfl ah ah ah dv ?_
 refine go ?_
 refine cC (U:=aU) 0 zr zr zr zr zr zr (go ?_)
 refine pw (U:=aU) (es:=du l) (key:=x.d) rfl YI zr zr zr zr zr zr zr (fun w hw=>hw.k9 (i:=2) rfl) ?_
 rw[tN]
 cases hb:yz l x.d with
 | none =>
  simp only[Option.map_none,Option.getD_none,Option.isSome_none]
  refine go ?_
  refine az zr zr zr (fun _ w hw=>hw.cu ag) ?_
  intro b5
  refine go ?_
  (refine aY ?_;(refine bN 0 dv zr zr zr zr zr zr zr zr zr ?_))
  refine go ?_
  have hw:wi l x=false:=by unfold wi;rw[hb];rfl
  rw[hw]at hE
  refine ad hE Tryz.func255 zr zr ⟨rfl,rfl⟩
 | some y =>
  simp only[Option.map_some,Option.getD_some,Option.isSome_some]
  unfold jU
  refine go ?_
  refine az zr zr zr (fun _ w hw=>hw.cu ag) ?_
  intro b5
  refine go ?_
  (refine aY ?_;(refine bN 0 dv zr zr zr zr zr zr zr zr zr ?_))
  refine go ?_
  have hw:wi l x=decide (x=y):=by unfold wi;rw[hb];simp only[Option.some.injEq];rw[decide_eq_decide];exact eq_comm
  rw[hw]at hE
  (repeat(first|refine er ?_|refine aO (U:=aU) (l:=ck x) 1 zr zr zr zr zr zr ?_|refine aO (U:=aU) (l:=ck y) 0 zr zr zr zr zr zr ?_|refine gQ (b:=decide (x=y)) zr zr zr acB (fun w=>acF x y w) ?_))
  refine ad hE Tryz.func255 zr zr ⟨rfl,rfl⟩
def Dc(bs bd:Nat)(q:Int)(mb:Nat)(brk:Bool)(Y:HP)(V:HP)(v:Value)(jW:List Value)(hv:Vw V v jW.length jW)(hn:jW.length≤1000000000)(ss:List KR)(hlen:ss.length=jW.length)(Q:Nat→Ab→Prop)(dK:∀(i:Nat) (fv:Value) (s:KR),jW[i]?=some fv→ss[i]?=some s→∃g fi cap,fv = .func (.func g) fi cap∧∀x,Q i x→au Tryz.prog g (fi.toList++cap.toList) [sG bs bd q mb brk Y x] (fun r H=>∃(e:Nat) (x':Ab),r = .int .i64 (e:Int)∧H=[sG bs bd q mb brk Y x']∧s x e x'∧(e=0→Q (i+1) x')))(A:Ab)(hQ:Q 0 A) :
  au Tryz.prog 137 [ptr bs,v] [V,sG bs bd q mb brk Y A]
   (fun r H=>∃(e:Nat) (B:Ab),r = .int .i64 (e:Int)∧H=[V,sG bs bd q mb (brk || decide (e≠0)) Y B]∧mh ss A e B∧(e=0→Q jW.length B)):=by
 have fI:=Dr (sG bs bd q mb brk Y) V v jW hv hn ss hlen Q dK A hQ
 obtain⟨a,c,rfl⟩:=hv.shape
 refine au.ak Tryz.func137 Tryz.ntmps137 fun G F R hE=>?_
 refine go ?_
 refine aF fI ?_
 rintro _ _⟨e,B,rfl,rfl,k8,hb⟩
 refine aN (ao.trans (ao.pick [1] rfl) (ao.bY [ae bs (cl (dg bd q mb brk) 146),aC bd B,Y] _)) ?_
 have mX:ao (ae bs (cl (dg bd q mb (brk || decide (e≠0))) 146)::aC bd B::Y::V::F) (V::sG bs bd q mb (brk || decide (e≠0)) Y B::F) :=
  ao.trans (ao.bK [ae bs (cl (dg bd q mb (brk || decide (e≠0))) 146),aC bd B,Y] _) ag
 cases brk with
 | true =>
  refine go ?_
  refine al (ao.trans ag mX) ?_
  refine ad hE Tryz.func137 zr zr ⟨e,B,rfl,rfl,k8,hb⟩
 | false =>
  refine go ?_
  have PJ:decide ((e:Int)≠0)=(false || decide (e≠0)):=by by_cases h:e=0 <;> simp[h]
  rw[PJ]
  refine al (ao.trans ag mX) ?_
  refine ad hE Tryz.func137 zr zr ⟨e,B,rfl,rfl,k8,hb⟩
end Go.Proofs.YtlcoaflddajjcaaGreatDoor
namespace Go.Proofs.YtlcoaflddajjcaaGreatDoor
open Go Go.SL
def FT{P:Program}{f:FuncId}{args:List Value}{Pre:List HP}{Post:Value→List HP→Prop}(X:List HP)(c:au P f args Pre Post):au P f args (Pre++X) (fun v H=>∃H',Post v H'∧H=H'++X) :=
 ⟨c.1,fun G w F hw=>(c.2 G w (X++F) (by rw[List.append_assoc]at hw;exact hw)).mono fun e w' h'=>let ⟨v,H,he,Pk,hs⟩:=h';⟨v,H++X,he,⟨H,Pk,rfl⟩,by rw[List.append_assoc];exact hs⟩⟩
attribute [local irreducible] J K au Ends ae aB aI bB aW aS a7 aX bF Sha.chunks Sha.chunk Sha.rounds Sha.sched ej cz GI dq aC
def Al(bs bd:Nat)(q:Int)(mb:Nat)(brk:Bool)(Xs:List HP)(A:Ab)(F:List HP):ao (sG bs bd q mb brk (Sep Xs) A::F) (ae bs (cl (dg bd q mb brk) 146)::aC bd A::(Xs++F)) :=
 ao.trans (ao.bY [ae bs (cl (dg bd q mb brk) 146),aC bd A,Sep Xs] F) (ao.cons _ (ao.cons _ (ao.bY Xs F)))
def Lg(bs bd:Nat)(q:Int)(mb:Nat)(brk:Bool)(Xs:List HP)(A:Ab)(F:List HP):ao (ae bs (cl (dg bd q mb brk) 146)::aC bd A::(Xs++F)) (sG bs bd q mb brk (Sep Xs) A::F) :=
 ao.trans (ao.cons _ (ao.cons _ (ao.bK Xs F))) (ao.bK [ae bs (cl (dg bd q mb brk) 146),aC bd A,Sep Xs] F)
def HI{f:FuncId}{args:List Value}{bs bd:Nat}{q:Int}{mb:Nat}{brk:Bool}{Xs:List HP}{A:Ab}{p:Nat→Ab→Prop}(h:au Tryz.prog f args (ae bs (cl (dg bd q mb brk) 146)::aC bd A::Xs) (fun r H=>∃(e:Nat) (B:Ab),r = .int .i64 (e:Int)∧H=ae bs (cl (dg bd q mb brk) 146)::aC bd B::Xs∧p e B)) :
  au Tryz.prog f args [sG bs bd q mb brk (Sep Xs) A] (fun r H=>∃(e:Nat) (B:Ab),r = .int .i64 (e:Int)∧H=[sG bs bd q mb brk (Sep Xs) B]∧p e B) :=
 h.conv (by have:=Al bs bd q mb brk Xs A [];rwa[List.append_nil]at this) (by
  rintro v H⟨e,B,rfl,rfl,hp⟩
  exact⟨_,⟨e,B,rfl,rfl,hp⟩,by have:=Lg bs bd q mb brk Xs B [];rwa[List.append_nil]at this⟩)
def ZH(x:Bl):au Tryz.prog 117 [.string (strOf kS),.agg (dC x.d).toArray] [] (fun r H=>r = .string (fS x)∧H=[]):=by
 have:=oX kS x.d (by decide)
 unfold dV at this
 exact this
def F4(bs bd b2 b7:Nat)(q:Int)(mb:Nat)(brk:Bool)(n:ByteArray)(A:Ab)(dK:A.aV.length≤1000000000) :
  au Tryz.prog 138 [ptr b2,ptr b7] (ae bs (cl (dg bd q mb brk) 146)::aC bd A::[ae b2 (cl [ptr bs] 91),ae b7 (cl [.string n] 9)])
   (fun r H=>∃(e:Nat) (B:Ab),r = .int .i64 (e:Int)∧H=ae bs (cl (dg bd q mb brk) 146)::aC bd B::[ae b2 (cl [ptr bs] 91),ae b7 (cl [.string n] 9)]∧iO n A e B):=by
 refine au.ak Tryz.func138 Tryz.ntmps138 fun G F R hE=>?_
 refine go ?_
 refine aL (fun w=>Sat G w ([ae bs (cl (dg bd q mb brk) 146),ae b2 (cl [ptr bs] 91),ae b7 (cl [.string n] 9)])) (cJ 0 5 (.act 5 (.st 6 .nil))) rfl ah ah ah dv ?_
 refine go ?_
 ((refine de zr zr zr zr (tT bd A n dK) ag ?_ (fun _ _ w hp hw=>by obtain⟨f,hf,rfl,rfl⟩:=hp;exact hw.cu ag)))
 rintro _ _⟨f,hf,rfl,rfl⟩
 refine go ?_
 refine ad hE Tryz.func138 zr zr ⟨_,_,rfl,rfl,⟨f,hf,rfl⟩⟩
def OZ(bs bd:Nat)(q:Int)(mb:Nat)(brk:Bool)(Xs:List HP)(A:Ab):au Tryz.prog 61 [ptr bd] [sG bs bd q mb brk (Sep Xs) A]
  (fun r H=>∃(e:Nat) (B:Ab),r = .int .i64 (e:Int)∧H=[sG bs bd q mb brk (Sep Xs) B]∧ff A e B) :=
 HI ((FT (ae bs (cl (dg bd q mb brk) 146)::Xs) (nK bd A)).conv (ao.perm (List.Perm.swap ..)) (by
  rintro v H⟨H1,⟨rfl,rfl⟩,rfl⟩
  exact⟨_,⟨_,_,rfl,rfl,rfl⟩,ao.perm (List.Perm.swap ..)⟩))
def jo(bs bd:Nat)(q:Int)(mb:Nat)(s:ml):List HP:=[ae bs (cl (dg bd q mb s.brk) 146),aI dV mb (du s.cq),aC bd s.A]
def GQ(A:Ab)(i:Nat)(x:Ab):Prop:=x.aV.length≤A.aV.length+i∧x.writes.length≤A.writes.length+i
def GQ.zero(A:Ab):GQ A 0 A:=⟨Nat.le_refl _,Nat.le_refl _⟩
def GQ.next{A x y:Ab}{i:Nat}(h:GQ A i x)(g:ko x y):GQ A (i+1) y:=⟨by have:=h.1;have:=g.1;omega,by have:=h.2;have:=g.2;omega⟩
def mM{A B:Ab}{e:Nat}(h:ff A e B):ko A B:=by
 have:=iY A
 rw[← h]at this
 exact this
theorem qj{A B:Ab}{nm:ByteArray}{e:Nat}(h:iO nm A e B):ko A B:=by
 obtain⟨f,_,h⟩:=h
 grind [oU,isName]
def mB(A:Ab)(nm:ByteArray):Nat:=if(gT kB nm).isSome then(A.size nm).1 else 0
theorem Ak{α:Type}{l m:List α}(h:l.Perm m)(f:α→Nat):(l.map f).sum=(m.map f).sum:=by
 grind
theorem eA{A:Ab}(h:(A.names.map (·.1)).Nodup){x:ByteArray × Nat}(hx:x∈A.names):A.look x.1=some x.2:=by
 have key:∀(l:List (ByteArray × Nat)),(l.map (·.1)).Nodup→x∈l→(l.find? (fun y=>decide (y.1=x.1))).map (·.2)=some x.2:=by
  intro l
  induction l with
  | nil=>intro _ h;cases h
  | cons y l ih =>
   grind
 exact key A.names h hx
theorem um(A:Ab):(eW A).Perm (A.names.map (·.1)):=by
 unfold eW gj
 have h:=(lF (A.names.map (·.1))).map strOf
 rw[List.map_map]at h
 have h2:(A.names.map (·.1)).map (strOf ∘ fun b=>b.data.toList)=A.names.map (·.1):=by
  rw[List.map_map]
  refine List.map_congr_left fun x _=>?_
  exact vH x.1
 grind
def vv{A:Ab}(h:(A.names.map (·.1)).Nodup):K4 A=((eW A).map (mB A)).sum:=by
 rw[Ak (um A),List.map_map]
 unfold K4
 congr 1
 refine List.map_congr_left fun x hx=>?_
 have hl:=eA h hx
 simp only[Function.comp,mB,Ab.size,hl]
def AK{A:Ab}(h:H8 A)(nm:ByteArray):mB A nm≤1048576:=by
 unfold mB Ab.size
 split
 ·cases A.look nm with
  | none=>simp
  | some f=>exact h.now f
 ·omega
def sW{α:Type}(l:List α)(f:α→Nat)(m:Nat)(h:∀x∈l,f x≤m):(l.map f).sum≤l.length*m:=by
 induction l with
 | nil=>simp
 | cons x l ih =>
  have h1:=h x (List.mem_cons_self ..)
  have h2:=ih (fun y hy=>h y (List.mem_cons_of_mem _ hy))
  simp only[List.map_cons,List.sum_cons,List.length_cons,Nat.add_mul,Nat.one_mul]
  omega
def mE(cq:List (Dg × Bl))(dn:List Dg):Int:=((cq.filter fun x=>decide (x.1∈dn)).map (·.2.size)).sum
def Mg(cq:List (Dg × Bl)):mE cq []=0:=by unfold mE;rw[List.filter_eq_nil_iff.2 (by simp)];rfl
def Cu(cq:List (Dg × Bl))(dn:List Dg)(h:∀x∈cq,x.1∈dn):mE cq dn=(cq.map (·.2.size)).sum:=by
 unfold mE
 rw[List.filter_eq_self.2 (fun x hx=>decide_eq_true (h x hx))]
theorem IW(cq:List (Dg × Bl))(key:Dg)(dn:List Dg)(h:key ∉ cq.map (·.1)):mE cq (key::dn)=mE cq dn:=by
 unfold mE
 congr 2
 refine List.filter_congr fun x hx=>?_
 grind
theorem IX(cq:List (Dg × Bl))(key:Dg)(y:Bl)(dn:List Dg)(hn:(cq.map (·.1)).Nodup)(hm:(key,y)∈cq)(hd:key ∉ dn):mE cq (key::dn)=mE cq dn+y.size:=by
 induction cq with
 | nil=>cases hm
 | cons x l ih =>
  grind [IW,mE]
theorem G4(cq:List (Dg × Bl))(dn:List Dg)(h:∀x∈cq,0≤x.2.size∧x.2.size≤1048576):0≤mE cq dn∧mE cq dn≤cq.length*1048576:=by
 unfold mE
 induction cq with
 | nil=>simp
 | cons x l ih =>
  obtain⟨h1,h2⟩:=h x (List.mem_cons_self ..)
  obtain⟨h3,h4⟩:=ih (fun y hy=>h y (List.mem_cons_of_mem _ hy))
  grind
def py(cq:List (Dg × Bl)):Prop:=(∀x∈cq,0≤x.2.size∧x.2.size≤1048576)∧cq.length≤1000000
theorem Qc(bs bd:Nat)(q:Int)(mb:Nat)(s:ml)(hb:py s.cq):au Tryz.prog 135 [ptr bs] (jo bs bd q mb s)
  (fun r H=>r = .int .i64 (nO s)∧H=jo bs bd q mb s):=by
 obtain⟨A,cq,brk⟩:=s
 obtain⟨sO,rR⟩:=hb
 simp only at sO rR
 refine au.ak Tryz.func135 Tryz.ntmps135 fun G F R hE=>?_
 refine al (H':=ae bs (cl (dg bd q mb brk) 146)::aC bd A::aI dV mb (du cq)::F) ag ?_
 refine sm (bd:=bd) (A:=A) 1 rfl ?_
 intro FB
 have CN:=nt FB
 have Og:nO ⟨A,cq,brk⟩=((eW A).map (mB A)).sum+(cq.map (·.2.size)).sum:=by
  unfold nO
  rw[vv (FB.nodup _ (List.mem_cons_self ..))]
 obtain⟨l,hl⟩:∃l,l=eW A:=⟨_,rfl⟩
 rw[← hl]at Og CN
 rw[Og]at hE
 have hle:∀i,((l.take i).map (mB A)).sum≤209715200:=fun i=>by
  have h1:=sW (l.take i) (mB A) 1048576 (fun x _=>AK FB x)
  grind
 refine go ?_
 have tA:=pj bd A
 rw[← hl]at tA
 refine aF tA ?_
 rintro r _ rfl
 refine aH 0 rfl ?_
 rintro ra rc rfl
 refine dH 0 rfl ?_
 intro cW
 refine go ?_
 refine bj (fun i:Nat=>i≤l.length) (fun i=>l.length-i)
  (fun i=>[(0,ptr bs),(3,.int .i64 (((l.take i).map (mB A)).sum:Nat)),(16,.slice ra l.length rc),(17,.int .i64 (l.length:Int)),(18,.int .i64 (i:Int))])
  (fun i=>aB 9 1 (.slice ra l.length rc) l.length (l.map Value.string)::ae bs (cl (dg bd q mb brk) 146)::aC bd A::aI dV mb (du cq)::F) 0 (Nat.zero_le _) rfl bS ag ?_
 rintro i hi ih
 have Hm:=hle i
 refine go ?_
 refine aq zr zr ?_ ?_
 ·intro cL
  have dA:i<l.length:=by omega
  obtain⟨nm,hx⟩:∃x,l[i]?=some x:=⟨l[i],by simp⟩
  have gS:((l.take (i+1)).map (mB A)).sum=((l.take i).map (mB A)).sum+mB A nm:=by
   rw[List.take_add_one,hx];simp
  have dt:(l.map Value.string)[i]?=some (.string nm):=by rw[List.getElem?_map,hx];rfl
  have eM:=AK FB nm
  obtain⟨b,o,eY,dL⟩:=cW.some (by intro h;rw[h]at dt;simp at dt)
  simp only[Value.slice.injEq]at dL
  obtain⟨rfl,_,rfl⟩:=dL
  refine go ?_
  refine bW i 1 zr zr zr zr zr zr zr zr dA ?_
  refine aP ?_
  refine aQ 0 (i*1) zr zr zr cW rfl (by rw[Nat.mul_one];exact dt) zr zr ?_
  refine go ?_
  refine aw (wP kB nm (by decide)) ?_
  cases hh:gT kB nm with
  | none =>
   have hz:mB A nm=0:=by unfold mB;rw[hh];rfl
   have YV:((l.take i).map (mB A)).sum=((l.take (i+1)).map (mB A)).sum:=by omega
   simp only[wQ]
   unfold dV
   refine go ?_
   refine az zr zr zr bh ?_
   intro b9
   refine go ?_
   rw[YV]
   refine aM ih (i+1) rfl ai ai bS ag
  | some d =>
   have hz:mB A nm=(A.size nm).1:=by unfold mB;rw[hh];rfl
   rw[hz]at gS eM
   simp only[wQ]
   unfold dV
   refine go ?_
   refine az zr zr zr bh ?_
   intro b9
   refine go ?_
   refine aw (sf bd A nm) ?_
   refine go ?_
   refine bq 3 (.int .i64 (((l.take (i+1)).map (mB A)).sum:Nat)) rfl (congrArg (Value.int .i64) (by rw[gS];omega)) ?_
   refine aM ih (i+1) rfl ai ai bS ag
 ·intro ep
  have qY:i=l.length:=by omega
  subst qY
  rw[List.take_length]
  obtain⟨n0,hn0⟩:∃n0,n0=(l.map (mB A)).sum:=⟨_,rfl⟩
  rw[List.take_length]at Hm
  rw[← hn0]at Hm hE ⊢
  refine pn fun⟨w,hw⟩=>?_
  have iK:(cq.map (·.1)).Nodup:=by
   obtain⟨h1,hA⟩:=AY hw (i:=3) rfl
   have:=Ff hA
   grind [du]
  clear hw w
  refine go ?_
  refine nL (kv:=dV) (es:=du cq) (U:=aU) 3 zr zr zr zr zr (fun _=>rfl) bh ?_
  intro it
  refine go ?_
  have Ho:(du cq).map (·.1)=cq.map (·.1):=by unfold du;rw[List.map_map];rfl
  have iJ:∀dn,0≤mE cq dn∧mE cq dn≤1048576000000:=fun dn=>by
   have:=G4 cq dn sO
   omega
  have h00:(n0:Int)=(n0:Int)+mE cq []:=by rw[Mg];omega
  refine bq 3 (.int .i64 ((n0:Int)+mE cq [])) rfl (congrArg (Value.int .i64) h00) ?_
  refine bj (fun s:List Dg=>s.Nodup∧∀x∈s,x∈cq.map (·.1)) (fun s=>cq.length-s.length) (fun s=>[(0,ptr bs),(3,.int .i64 ((n0:Int)+mE cq s)),(45,.pointer (some ⟨it,0,none⟩))])
   (fun s=>bB dV mb it (du cq) s::ae bs (cl (dg bd q mb brk) 146)::aC bd A::F) [] ⟨List.nodup_nil,by simp⟩ rfl bS ag ?_
  clear ih
  rintro dn⟨nE,dj⟩ ih
  have hsd:=iJ dn
  refine go ?_
  refine qR (kv:=dV) (es:=du cq) 0 rfl YI.inj zr zr (fun _=>rfl) e8 bh ?_ ?_
  ·intro fI
   have hme:mE cq dn=(cq.map (·.2.size)).sum:=Cu cq dn (fun x hx=>fI (x.1,jU x.2) (List.mem_map.2 ⟨x,hx,rfl⟩))
   rw[hme]
   refine go ?_
   refine al (ao.head (B:=[aI dV mb (du cq)]) (fun h hs=>by obtain⟨h',s,hm⟩:=jD h hs;exact⟨h',s,dG hm⟩)) ?_
   refine al (H':=jo bs bd q mb ⟨A,cq,brk⟩++F) ag ?_
   refine ad hE Tryz.func135 zr zr ⟨rfl,rfl⟩
  ·intro key v eR mK
   obtain⟨y,hy,YM⟩:∃y,(key,y)∈cq∧v=jU y:=by
    obtain⟨z,hz,he⟩:=List.mem_map.1 eR
    cases he
    grind
   subst YM
   have hms:=IX cq key y dn iK hy mK
   have aeJ:=iJ (key::dn)
   have hk:key∈cq.map (·.1):=List.mem_map.2 ⟨_,hy,rfl⟩
   have cL:dn.length<cq.length:=by
    have h1:(key::dn).length≤(cq.map (·.1)).length:=(List.nodup_cons.2 ⟨mK,nE⟩).length_le_of_subset (fun x hx=>by rcases List.mem_cons.1 hx with rfl|h;exact hk;exact dj x h)
    grind
   refine go ?_
   refine nN (kv:=dV) (es:=du cq) 0 rfl YI.inj zr zr eR ?_
   unfold jU
   refine go ?_
   refine az zr zr zr bh ?_
   intro b11
   refine go ?_
   refine bq 3 (.int .i64 ((n0:Int)+mE cq (key::dn))) rfl (congrArg (Value.int .i64) (by rw[hms];omega)) ?_
   refine aM ih (key::dn) rfl (⟨List.nodup_cons.2 ⟨mK,nE⟩,fun x hx=>by rcases List.mem_cons.1 hx with rfl|h;exact hk;exact dj x h⟩) (by show _-(key::dn).length<_;simp only[List.length_cons];omega) bS ag
end Go.Proofs.YtlcoaflddajjcaaGreatDoor
namespace Go.Proofs.YtlcoaflddajjcaaGreatDoor
open Go Go.SL
variable{A B:Ab}{nm:ByteArray}{e f:Nat}
structure HA(A:Ab):Prop where
 dN:A.dN=[]
 on:A.off=false
 keys:(A.names.map (·.1)).Nodup
 own:(A.names.map (·.2)).Nodup
 ids:(A.fs.map (·.1)).Nodup
 known:∀x∈A.names,x.2∈A.fs.map (·.1)
def vw(A:Ab)(nm:ByteArray):Option (List UInt8):=(A.look nm).map A.now
def HA.new(room:Nat):HA (Ab.new room):=⟨rfl,rfl,List.nodup_nil,List.nodup_nil,List.nodup_nil,fun _ h=>by cases h⟩
def HA.meet(h:HA A):A.meet true=(0,A):=by unfold Ab.meet;rw[if_neg (by simp),if_neg (by rw[h.on];simp),h.dN]
theorem HA.find(h:HA A)(nm:ByteArray):A.find nm true=match A.look nm with|none=>(4,none,A)|some f=>(0,some f,A):=by
 unfold Ab.find
 rw[h.meet,if_pos rfl]
 grind
theorem gB(h:A.look nm=some f):(nm,f)∈A.names:=by
 unfold Ab.look Ab.dy at h
 cases hx:A.names.find? (fun x=>decide (x.1=nm))with
 | none=>rw[hx]at h;cases h
 | some x =>
  grind
theorem HA.Yz(h:HA A){a b:ByteArray}(ha:A.look a=some f)(hb:A.look b=some f):a=b:=by
 have h1:=gB ha
 have h2:=gB hb
 have hn:=h.own
 have key:∀l:List (ByteArray × Nat),(l.map (·.2)).Nodup→(a,f)∈l→(b,f)∈l→a=b:=by
  intro l
  induction l with
  | nil=>intro _ h;cases h
  | cons y l ih =>
   grind
 grind
theorem Cz(l:List (ByteArray × Nat))(k nm:ByteArray)(f:Nat)(hk:Ab.dy l k=none):Ab.dy (l++[(k,f)]) nm=if nm=k then some f else Ab.dy l nm:=by
 unfold Ab.dy at hk ⊢
 grind
theorem G3{g:Nat}(names:List (ByteArray × Nat))(aV:List (List (ByteArray × Nat))):({ A with names:=names,aV:=aV,fs:=(f,[],[])::A.fs }:Ab).now g=if f=g then []else A.now g:=by
 unfold Ab.now Ab.file
 grind
theorem HA.create(h:HA A)(hv:vw A nm=none)(hl:A.names.length<200)(hf:f ∉ A.fs.map (·.1))(hB:(e,B)=A.create true nm f) :
  e=0∧HA B∧(∀n,vw B n=if n=nm then some []else vw A n)∧B.names.length=A.names.length+1∧B.room=A.room:=by
 have Hl:A.look nm=none:=by
  unfold vw at hv
  cases hx:A.look nm with
  | none=>rfl
  | some x=>rw[hx]at hv;cases hv
 have hc:A.create true nm f=(0,{ A.pV (A.names++[(nm,f)])with fs:=(f,[],[])::A.fs }):=by
  unfold Ab.create
  rw[h.meet,if_pos rfl]
  grind
 rw[hc]at hB
 injection hB with h1 h2
 subst h1 h2
 have adL:∀n g,A.look n=some g→f≠g:=fun n g hg e=>hf (e ▸ h.known _ (gB hg))
 refine⟨rfl,⟨h.dN,h.on,?_,?_,?_,?_⟩,?_,?_,rfl⟩
 ·show((A.names++[(nm,f)]).map (·.1)).Nodup
  rw[List.map_append,List.nodup_append]
  refine⟨h.keys,by simp,fun a ha b hb=>?_⟩
  simp only[List.map_cons,List.map_nil,List.mem_singleton]at hb
  subst hb
  rintro rfl
  obtain⟨x,hx,Pa⟩:=List.mem_map.1 ha
  have:=eA h.keys hx
  grind
 ·show((A.names++[(nm,f)]).map (·.2)).Nodup
  rw[List.map_append,List.nodup_append]
  refine⟨h.own,by simp,fun a ha b hb=>?_⟩
  simp only[List.map_cons,List.map_nil,List.mem_singleton]at hb
  subst hb
  rintro rfl
  obtain⟨x,hx,rfl⟩:=List.mem_map.1 ha
  exact hf (h.known x hx)
 ·exact List.nodup_cons.2 ⟨hf,h.ids⟩
 ·intro x hx
  rcases List.mem_append.1 hx with hx|hx
  ·exact List.mem_cons_of_mem _ (h.known x hx)
  grind
 ·intro n
  unfold vw
  have e1:({ A.pV (A.names++[(nm,f)])with fs:=(f,[],[])::A.fs }:Ab).look n=if n=nm then some f else A.look n:=Cz A.names nm n f Hl
  rw[e1]
  by_cases hn:n=nm
  ·rw[if_pos hn,if_pos hn]
   show some _=_
   exact congrArg some ((G3 _ _).trans (if_pos rfl))
  ·rw[if_neg hn,if_neg hn]
   cases hg:A.look n with
   | none=>rfl
   | some g=>exact congrArg some ((G3 _ _).trans (if_neg (adL n g hg)))
 ·show(A.names++[(nm,f)]).length=_
  simp
theorem Ma(A:Ab)(f g:Nat)(n:List UInt8)(w:List (Nat × Nat × List UInt8))(hg:g∈A.fs.map (·.1)):({ A with fs:=Ab.D8 A.fs f n,writes:=w }:Ab).now g=if g=f then n else A.now g:=by
 unfold Ab.now Ab.file Ab.D8
 simp only[List.find?_map]
 have:((fun x:Nat × List UInt8 × List UInt8=>decide (x.1=g)) ∘ fun x=>if x.1=f then(x.1,n,x.2.2)else x)=fun x=>decide (x.1=g):=by
  grind
 rw[this]
 cases hx:A.fs.find? (fun x=>decide (x.1=g))with
 | none =>
  grind
 | some x =>
  grind
theorem HA.write(h:HA A){c:List UInt8}(hv:vw A nm=some c)(at_:Nat)(b:List UInt8)(hr:A.used+(at_+b.length)≤A.room)(hB:(e,B)=A.write true nm at_ b) :
  e=0∧HA B∧(∀n,vw B n=if n=nm then some (eU c at_ b)else vw A n)∧B.names=A.names∧B.room=A.room:=by
 obtain⟨f,hf,rfl⟩:∃f,A.look nm=some f∧A.now f=c:=by
  unfold vw at hv
  cases hx:A.look nm with
  | none=>rw[hx]at hv;cases hv
  | some f=>rw[hx]at hv;injection hv with hv;exact⟨f,rfl,hv⟩
 have hc:A.write true nm at_ b=(0,{ A with fs:=Ab.D8 A.fs f (eU (A.now f) at_ b),writes:=A.writes++[(f,at_,b)] }):=by
  unfold Ab.write
  rw[h.find,hf]
  grind
 rw[hc]at hB
 injection hB with h1 h2
 subst h1 h2
 have qD:∀g,g∈A.fs.map (·.1)→({ A with fs:=Ab.D8 A.fs f (eU (A.now f) at_ b),writes:=A.writes++[(f,at_,b)] }:Ab).now g=if g=f then eU (A.now f) at_ b else A.now g:=fun g hg=>Ma A f g _ _ hg
 refine⟨rfl,⟨h.dN,h.on,h.keys,h.own,?_,?_⟩,?_,rfl,rfl⟩
 ·show((Ab.D8 A.fs f _).map (·.1)).Nodup
  rw[q5]
  exact h.ids
 ·intro x hx
  show x.2∈(Ab.D8 A.fs f _).map (·.1)
  rw[q5]
  exact h.known x hx
 ·intro n
  unfold vw
  show(A.look n).map _=_
  by_cases hn:n=nm
  ·subst hn
   rw[if_pos rfl,hf]
   exact congrArg some ((qD f (h.known _ (gB hf))).trans (if_pos rfl))
  ·rw[if_neg hn]
   cases hg:A.look n with
   | none=>rfl
   | some g=>exact congrArg some ((qD g (h.known _ (gB hg))).trans (if_neg (fun e=>hn (h.Yz (e ▸ hg) hf))))
theorem yP(fs:List (Nat × List UInt8 × List UInt8))(f:Nat):(Ab.oh fs f).map (·.1)=fs.map (·.1):=by
 unfold Ab.oh
 rw[List.map_map]
 refine List.map_congr_left fun x _=>?_
 grind
theorem IS(A:Ab)(f g:Nat)(w:List (Nat × Nat × List UInt8)):({ A with fs:=Ab.oh A.fs f,writes:=w }:Ab).now g=A.now g:=by
 unfold Ab.now Ab.file Ab.oh
 simp only[List.find?_map]
 have:((fun x:Nat × List UInt8 × List UInt8=>decide (x.1=g)) ∘ fun x=>if x.1=f then(x.1,x.2.1,x.2.1)else x)=fun x=>decide (x.1=g):=by
  grind
 rw[this]
 cases A.fs.find? (fun x=>decide (x.1=g))with
 | none=>rfl
 | some x =>
  grind
theorem HA.sync(h:HA A){c:List UInt8}(hv:vw A nm=some c)(hB:(e,B)=A.sync true nm) :
  e=0∧HA B∧(∀n,vw B n=vw A n)∧B.names=A.names∧B.room=A.room:=by
 obtain⟨f,hf⟩:∃f,A.look nm=some f:=by
  unfold vw at hv
  cases hx:A.look nm with
  | none=>rw[hx]at hv;cases hv
  | some f=>exact⟨f,rfl⟩
 have hc:A.sync true nm=(0,{ A with fs:=Ab.oh A.fs f,writes:=A.writes.filter fun x => !decide (x.1=f) }):=by
  unfold Ab.sync
  rw[h.find,hf]
  grind
 rw[hc]at hB
 injection hB with h1 h2
 subst h1 h2
 refine⟨rfl,⟨h.dN,h.on,h.keys,h.own,?_,?_⟩,?_,rfl,rfl⟩
 ·show((Ab.oh A.fs f).map (·.1)).Nodup
  rw[yP]
  exact h.ids
 ·intro x hx
  show x.2∈(Ab.oh A.fs f).map (·.1)
  rw[yP]
  exact h.known x hx
 ·intro n
  unfold vw
  show(A.look n).map _=_
  cases hg:A.look n with
  | none=>rfl
  | some g=>exact congrArg some (IS A f g _)
def HA.cF(h:HA A)(hB:(e,B)=A.cF):e=0∧HA B∧(∀n,vw B n=vw A n)∧B.names=A.names∧B.room=A.room:=by
 have hc:A.cF=(0,{ A with aV:=[A.names] }):=by
  unfold Ab.cF
  rw[h.meet,if_pos rfl]
 rw[hc]at hB
 injection hB with h1 h2
 subst h1 h2
 exact⟨rfl,⟨h.dN,h.on,h.keys,h.own,h.ids,h.known⟩,fun n=>rfl,rfl,rfl⟩
theorem rM(l:List (ByteArray × Nat))(k n:ByteArray):Ab.dy (Ab.ez l k) n=if n=k then none else Ab.dy l n:=by
 unfold Ab.dy Ab.ez
 grind
theorem HA.rename(h:HA A){o n:ByteArray}{c:List UInt8}(fu:o≠n)(hv:vw A o=some c)(KG:vw A n=none)(hB:(e,B)=A.rename true o n) :
  e=0∧HA B∧(∀m,vw B m=if m=n then some c else if m=o then none else vw A m)∧B.room=A.room∧∃f,A.look o=some f∧B.names=Ab.ez A.names o++[(n,f)]:=by
 obtain⟨f,hf,rfl⟩:∃f,A.look o=some f∧A.now f=c:=by
  unfold vw at hv
  cases hx:A.look o with
  | none=>rw[hx]at hv;cases hv
  | some f=>rw[hx]at hv;injection hv with hv;exact⟨f,rfl,hv⟩
 have Hk:A.look n=none:=by
  unfold vw at KG
  cases hx:A.look n with
  | none=>rfl
  | some x=>rw[hx]at KG;cases KG
 have Pu:Ab.dy (Ab.ez A.names o) n=none:=by
  rw[rM]
  split
  ·rfl
  ·exact Hk
 have iW:Ab.j0 (Ab.ez A.names o) n f=Ab.ez A.names o++[(n,f)]:=by
  unfold Ab.j0
  grind
 have hc:A.rename true o n=(0,A.pV (Ab.ez A.names o++[(n,f)])):=by
  unfold Ab.rename
  rw[h.find,hf]
  grind
 rw[hc]at hB
 injection hB with h1 h2
 subst h1 h2
 have dj:∀x∈Ab.ez A.names o,x∈A.names∧x.1≠o:=fun x hx=>by
  obtain⟨h1,h2⟩:=List.mem_filter.1 hx
  grind
 refine⟨rfl,⟨h.dN,h.on,?_,?_,h.ids,?_⟩,?_,rfl,f,hf,rfl⟩
 ·show((Ab.ez A.names o++[(n,f)]).map (·.1)).Nodup
  rw[List.map_append,List.nodup_append]
  refine⟨(List.filter_sublist.map _).nodup h.keys,by simp,fun a ha b hb=>?_⟩
  simp only[List.map_cons,List.map_nil,List.mem_singleton]at hb
  subst hb
  rintro rfl
  obtain⟨x,hx,rfl⟩:=List.mem_map.1 ha
  have:=eA h.keys (dj x hx).1
  grind
 ·show((Ab.ez A.names o++[(n,f)]).map (·.2)).Nodup
  rw[List.map_append,List.nodup_append]
  refine⟨(List.filter_sublist.map _).nodup h.own,by simp,fun a ha b hb=>?_⟩
  simp only[List.map_cons,List.map_nil,List.mem_singleton]at hb
  subst hb
  rintro rfl
  obtain⟨x,hx,Pa⟩:=List.mem_map.1 ha
  have h3:=eA h.keys (dj x hx).1
  rw[Pa]at h3
  exact(dj x hx).2 (h.Yz h3 hf)
 ·intro x hx
  rcases List.mem_append.1 hx with hx|hx
  ·exact h.known x (dj x hx).1
  ·simp only[List.mem_singleton]at hx
   subst hx
   exact h.known (o,f) (gB hf)
 ·intro m
  unfold vw
  have e1:(A.pV (Ab.ez A.names o++[(n,f)])).look m=if m=n then some f else if m=o then none else A.look m:=by
   refine(Cz (Ab.ez A.names o) n m f Pu).trans ?_
   rw[rM]
   rfl
  rw[e1]
  by_cases hm:m=n
  ·rw[if_pos hm,if_pos hm];rfl
  ·rw[if_neg hm,if_neg hm]
   by_cases hmo:m=o
   ·grind
   ·rw[if_neg hmo,if_neg hmo];rfl
theorem PL(A:Ab)(nm:ByteArray):nZ A nm=(vw A nm).isSome:=by
 grind [nZ,vw]
end Go.Proofs.YtlcoaflddajjcaaGreatDoor
