import Derived.Test.YthnfckodljbgbaaGreatDoorQPL2
import Derived.Test.YthnfckodljbgbaaGreatDoorQPL3
import Derived.Test.YthnfckodljbgbaaGreatDoorQPL5
import Derived.Test.YthnfckodljbgbaaGreatDoorQPL6
import Derived.ProofKit
import Derived.Below
import Derived.Shelf.SortG.Plain
import Derived.Shelf.SortG.SortNone
import Derived.Test.YthnfckodljbgbaaGreatDoorChecked
set_option linter.unusedSectionVars false
set_option linter.unusedSimpArgs false
set_option linter.unusedVariables false
set_option maxHeartbeats 1000000
set_option maxRecDepth 20000
set_option linter.defProp false
namespace Go.Proofs.YthnfckodljbgbaaGreatDoor
open Go Go.SL
attribute [local irreducible] J K aD Ends ae aF aL bU bo aU bh bq cg Sha.chunks Sha.chunk Sha.rounds Sha.sched dW cy GI cS
def Rz(o:Option Bl):Value:=match o with
 | none => .tuple #[dG Bl.zero,.bool false]
 | some x => .tuple #[dG x,.bool true]
def JQ{b:List UInt8}(h:qb b=none):nP b=none:=by unfold nP;rw[h]
theorem NK{b:List UInt8}{xs:List (Int × List UInt8)}(h:qb b=some xs)(hl:xs.length≠4):nP b=none:=by
 grind [nP]
def JR{b:List UInt8}{n1 n2 n3 n4:Int}{b1 b2 b3 b4:List UInt8}(h:qb b=some [(n1,b1),(n2,b2),(n3,b3),(n4,b4)]) :
  nP b=if n4≠4∨b1.length≠32∨b4.length≠32 then none else match dr b2,dr b3 with
  | some s,some p=>if 1048576<max s p then none else some ⟨u0 b1,s,p,u0 b4⟩
  | _,_=>none:=by unfold nP;rw[h];rfl
theorem Ai{b:List UInt8}(h:b.length=32):bV b=dC (u0 b):=by
 grind [u0,dL]
theorem ER:∀(f:Nat) (b:List UInt8) (x:Int × List UInt8),x∈qk f b→x.2.length≤b.length
 | 0,b,x,h=>by simp[qk]at h
 | f+1,[],x,h=>by simp[qk]at h
 | f+1,c::r,x,h=>by
  have h1:=qN r
  rw[qk]at h
  split at h
  ·rcases List.mem_cons.1 h with rfl|h
   ·grind
   ·have:=ER f _ x h
    grind
  grind
def ud{b:List UInt8}{l:List (Int × List UInt8)}(h:qb b=some l):∀x∈l,x.2.length≤65536:=by
 unfold qb at h
 split at h
 ·cases h
 ·split at h
  ·cases h
   intro x hx
   have:=ER _ _ x hx;omega
  ·cases h
def MJ(A:HP)(v:Value)(b:List UInt8)(hv:eO A v b)(hl:b.length≤1000000000) :
  aD Tryz.prog 214 [v] [A] (fun r H=>r=Rz (nP b)∧H=[A]):=by
 have TA:=nX A v b hv hl
 obtain⟨a,c,rfl,hc⟩:=hv.2
 refine aD.aw Tryz.func214 Tryz.ntmps214 fun G F R hE=>?_
 refine aB rfl ?_
 refine aC zr zr zr bE ?_
 intro b2
 refine go ?_
 refine aI TA ?_
 rintro _ _ (⟨hn,rfl,rfl⟩|⟨xs,fX,Z,rv,hs,rW,⟨dO,xO⟩,rfl,rfl,-⟩)
 ·rw[JQ hn]at hE
  repeat'(first|refine eZ ?_|fail)
  all_goals((skip))
  (refine aZ hE ?_;apply aW (U:=aR) hE Tryz.func214 rfl (ak.refl _);(repeat(first|exact aQ.nil|apply aQ.tmp rfl|apply aQ.agg 1 zr zr zr zr zr));exact⟨rfl,rfl⟩;exact ah)
 obtain⟨ra,rc,rfl⟩:=dO.shape
 by_cases h4:fX.length=4
 case neg =>
  rw[NK hs (by rw[← rW,List.length_map];exact h4)]at hE
  repeat'(first|(with_reducible intro p6)|refine eZ ?_|refine hJ zr zr zr zr ?_ ?_|fail)
  all_goals(first|(exfalso;omega)|skip)
  (refine aZ hE ?_;apply aW (U:=aR) hE Tryz.func214 rfl (ak.refl _);(repeat(first|exact aQ.nil|apply aQ.tmp rfl|apply aQ.agg 2 zr zr zr zr zr));exact⟨rfl,rfl⟩;exact ah)
 obtain⟨i1,i2,i3,i4,rfl⟩:∃i1 i2 i3 i4,fX=[i1,i2,i3,i4]:=by
  match fX,h4 with
  | [i1,i2,i3,i4],_=>exact⟨i1,i2,i3,i4,rfl⟩
 obtain⟨n1,v1,b1⟩:=i1
 obtain⟨n2,v2,bs2⟩:=i2
 obtain⟨n3,v3,SG⟩:=i3
 obtain⟨n4,v4,bs4⟩:=i4
 have pZ:eO Z v1 b1:=xO ⟨n1,v1,b1⟩ (by simp)
 have tC:eO Z v2 bs2:=xO ⟨n2,v2,bs2⟩ (by simp)
 have SA:eO Z v3 SG:=xO ⟨n3,v3,SG⟩ (by simp)
 have hb4:eO Z v4 bs4:=xO ⟨n4,v4,bs4⟩ (by simp)
 obtain⟨a1,c1,rfl,_⟩:=pZ.2
 obtain⟨a2,c2,rfl,_⟩:=tC.2
 obtain⟨a3,c3,rfl,_⟩:=SA.2
 obtain⟨a4,c4,rfl,_⟩:=hb4.2
 obtain⟨rb,ro,rcc,he⟩:=dO.some (by simp[my])
 simp only[Value.slice.injEq]at he
 obtain⟨rfl,_,rfl⟩:=he
 simp only[List.map_cons,List.map_nil,It.p]at rW
 subst rW
 have pJ:=JR hs
 have Ga:Vw Z (.slice (some ⟨rb,ro,none⟩) 4 rc) 4 [.int .i64 n1,.slice a1 b1.length c1,.int .i64 n2,.slice a2 bs2.length c2,.int .i64 n3,.slice a3 SG.length c3,.int .i64 n4,.slice a4 bs4.length c4]:=dO
 have hN:(n4≠4∨b1.length≠32∨bs4.length≠32)→nP b=none:=fun h=>by rw[pJ,if_pos h]
 simp only[List.length_cons,List.length_nil,Nat.zero_add,Nat.reduceAdd]
 clear dO xO TA h4
 repeat'(first|(with_reducible intro p6)|refine eZ ?_|refine hJ zr zr zr zr ?_ ?_|refine au zr zr ?_ ?_|refine bZ 3 2 zr zr zr zr zr zr zr zr (by simp) ?_|refine bZ 0 2 zr zr zr zr zr zr zr zr (by simp) ?_|refine aX 0 (3*2+0) zr zr zr Ga (Nat.add_assoc _ _ _) zr zr zr ?_|refine aX 0 (3*2+1) zr zr zr Ga (Nat.add_assoc _ _ _) zr zr zr ?_|refine aX 0 (0*2+1) zr zr zr Ga (Nat.add_assoc _ _ _) zr zr zr ?_)
 ·rw[hN ag]at hE
  refine go ?_
  (refine aZ hE ?_;apply aW (U:=aR) hE Tryz.func214 rfl (ak.refl _);(repeat(first|exact aQ.nil|apply aQ.tmp rfl|apply aQ.agg 2 zr zr zr zr zr));exact⟨rfl,rfl⟩;exact ah)
 ·rw[hN ag]at hE
  refine go ?_
  (refine aZ hE ?_;apply aW (U:=aR) hE Tryz.func214 rfl (ak.refl _);(repeat(first|exact aQ.nil|apply aQ.tmp rfl|apply aQ.agg 2 zr zr zr zr zr));exact⟨rfl,rfl⟩;exact ah)
 ·rw[hN ag]at hE
  refine go ?_
  (refine aZ hE ?_;apply aW (U:=aR) hE Tryz.func214 rfl (ak.refl _);(repeat(first|exact aQ.nil|apply aQ.tmp rfl|apply aQ.agg 2 zr zr zr zr zr));exact⟨rfl,rfl⟩;exact ah)
 have hk4:n4=4:=by omega
 have Gl:b1.length=32:=by omega
 have hl4:bs4.length=32:=by omega
 rw[if_neg (by rintro(h|h|h) <;> exact h (by assumption))]at pJ
 refine go ?_
 refine bZ 1 2 zr zr zr zr zr zr zr zr ag (go ?_)
 refine aK ?_
 refine aX 0 (1*2+1) zr zr zr Ga (Nat.add_assoc _ _ _) zr zr zr ?_
 have Vp:=ud hs (n2,bs2) (by simp)
 have hm3:=ud hs (n3,SG) (by simp)
 simp only at Vp hm3
 refine aN (nf Z _ bs2 tC ag) ?_
 cases hu2:dr bs2 with
 | none =>
  rw[hu2]at pJ
  rw[pJ]at hE
  simp only
  refine go ?_
  refine bZ 2 2 zr zr zr zr zr zr zr zr ag (go ?_)
  refine aK ?_
  refine aX 0 (2*2+1) zr zr zr Ga (Nat.add_assoc _ _ _) zr zr zr ?_
  refine aN (nf Z _ SG SA ag) ?_
  cases dr SG with
  | none =>
   simp only
   repeat'(first|refine eZ ?_|fail)
   all_goals((skip))
   (refine aZ hE ?_;apply aW (U:=aR) hE Tryz.func214 rfl (ak.refl _);(repeat(first|exact aQ.nil|apply aQ.tmp rfl|apply aQ.agg 2 zr zr zr zr zr));exact⟨rfl,rfl⟩;exact ah)
  | some p =>
   simp only
   repeat'(first|refine eZ ?_|fail)
   all_goals((skip))
   (refine aZ hE ?_;apply aW (U:=aR) hE Tryz.func214 rfl (ak.refl _);(repeat(first|exact aQ.nil|apply aQ.tmp rfl|apply aQ.agg 2 zr zr zr zr zr));exact⟨rfl,rfl⟩;exact ah)
 | some s =>
  rw[hu2]at pJ
  simp only
  refine go ?_
  refine bZ 2 2 zr zr zr zr zr zr zr zr ag (go ?_)
  refine aK ?_
  refine aX 0 (2*2+1) zr zr zr Ga (Nat.add_assoc _ _ _) zr zr zr ?_
  refine aN (nf Z _ SG SA ag) ?_
  cases hu3:dr SG with
  | none =>
   rw[hu3]at pJ
   rw[pJ]at hE
   simp only
   repeat'(first|refine eZ ?_|fail)
   all_goals((skip))
   (refine aZ hE ?_;apply aW (U:=aR) hE Tryz.func214 rfl (ak.refl _);(repeat(first|exact aQ.nil|apply aQ.tmp rfl|apply aQ.agg 2 zr zr zr zr zr));exact⟨rfl,rfl⟩;exact ah)
  | some p =>
   rw[hu3]at pJ
   simp only at pJ ⊢
   repeat'(first|(with_reducible intro p6)|refine eZ ?_|refine au zr zr ?_ ?_)
   all_goals((skip))
   ·rw[if_pos ag]at pJ
    rw[pJ]at hE
    refine go ?_
    (refine aZ hE ?_;apply aW (U:=aR) hE Tryz.func214 rfl (ak.refl _);(repeat(first|exact aQ.nil|apply aQ.tmp rfl|apply aQ.agg 2 zr zr zr zr zr));exact⟨rfl,rfl⟩;exact ah)
   ·rw[if_neg ag]at pJ
    rw[pJ]at hE
    have afQ:s≤1048576:=by omega
    have afU:p≤1048576:=by omega
    obtain⟨xb1,xo1,xc1,DK⟩:=pZ.1.some (by intro h;have:=congrArg List.length h;rw[bM,Gl]at this;cases this)
    simp only[Value.slice.injEq]at DK
    obtain⟨rfl,_,rfl⟩:=DK
    obtain⟨xb4,xo4,xc4,he4⟩:=hb4.1.some (by intro h;have:=congrArg List.length h;rw[bM,hl4]at this;cases this)
    simp only[Value.slice.injEq]at he4
    obtain⟨rfl,_,rfl⟩:=he4
    have nr:=pZ.1
    rw[Ai Gl]at nr
    have hv4:=hb4.1
    rw[Ai hl4]at hv4
    refine aG (fun w=>Sat G w ([Z])) (dj 0 17 (.act 17 (.st 18 .nil))) rfl aq aq aq eo ?_
    refine go ?_
    (repeat(first|refine eZ ?_|refine bZ 0 2 zr zr zr zr zr zr zr zr ag ?_|refine bZ 3 2 zr zr zr zr zr zr zr zr ag ?_|(refine aK ?_;first|refine bW 0 (0*2+1) zr zr zr Ga (Nat.add_assoc _ _ _) zr zr zr ?_|refine bW 0 (3*2+1) zr zr zr Ga (Nat.add_assoc _ _ _) zr zr zr ?_|refine e8 (U:=aR) (es:=dC (u0 b1)) 0 0 zr zr zr nr rfl (fun j v hj=>by rw[Nat.zero_add];exact hj) zr zr zr ?_|refine e8 (U:=aR) (es:=dC (u0 bs4)) 0 0 zr zr zr hv4 rfl (fun j v hj=>by rw[Nat.zero_add];exact hj) zr zr zr ?_)|refine CU (U:=aR) zr zr zr zr ag ?_))
    refine aV ?_
    refine cF 2 eo zr zr zr zr zr zr zr zr zr (go ?_)
    (refine aZ hE ?_;apply aW (U:=aR) hE Tryz.func214 rfl (ak.refl _);(repeat(first|exact aQ.nil|apply aQ.tmp rfl|apply aQ.agg 2 zr zr zr zr zr));exact⟨rfl,rfl⟩;exact ah)
theorem xJ:∀(l:List (Int × List UInt8)) (i:Nat) (x:Int × List UInt8),jP i (l++[x])=match jP i l with
  | none=>none
  | some y=>match nP x.2 with
   | none=>none
   | some z=>if x.1≠((i+l.length:Nat):Int)+1 then none else some (y++[z])
 | [],i,(n,b)=>by
  grind [jP,nP]
 | (m,c)::l,i,(n,b)=>by
  simp only[List.cons_append,jP,xJ l (i+1) (n,b),List.length_cons]
  cases nP c with
  | none=>rfl
  | some y =>
   grind
def xI:∀(l r:List (Int × List UInt8)) (i:Nat),jP i l=none→jP i (l++r)=none
 | [],r,i,h=>by cases h
 | (n,b)::l,r,i,h=>by
  simp only[List.cons_append,jP]at h ⊢
  cases hb:nP b with
  | none=>rfl
  | some x =>
   rw[hb]at h
   simp only at h ⊢
   split at h
   ·rename_i hn;rw[if_pos hn]
   ·rename_i hn
    rw[if_neg hn]
    rw[xI l r (i+1) (by simpa using h)];rfl
theorem FY(A:HP)(v:Value)(b:List UInt8)(hv:eO A v b)(hl:b.length≤1000000000) :
  aD Tryz.prog 181 [v] [A] (fun r H=>(Ak b=none∧(∃e,e≠0∧r = .tuple #[Tv (.slice none 0 0),.int .i64 e])∧H=[A]) ∨
   ∃l rv,Ak b=some l∧r = .tuple #[Tv rv,.int .i64 0]∧H=[aF 39 66 rv l.length (l.flatMap bH),A]):=by
 have TA:=nX A v b hv hl
 obtain⟨a,c,rfl,hc⟩:=hv.2
 refine aD.aw Tryz.func181 Tryz.ntmps181 fun G F R hE=>?_
 refine aB rfl ?_
 refine aC zr zr zr bE ?_
 intro b2
 refine go ?_
 refine aI TA ?_
 rintro _ _ (⟨hn,rfl,rfl⟩|⟨xs,fX,Z,rv,hs,rW,⟨dO,xO⟩,rfl,rfl,-⟩)
 ·have hd:Ak b=none:=by unfold Ak;rw[hn]
  repeat'(first|refine eZ ?_|fail)
  all_goals((skip))
  (refine aZ hE ?_;apply aW (U:=aR) hE Tryz.func181 rfl (ak.refl _);(repeat(first|exact aQ.nil|apply aQ.tmp rfl|apply aQ.agg 1 zr zr zr zr zr));exact(.inl ⟨hd,⟨2,by decide,rfl⟩,rfl⟩);exact ah)
 have hde:Ak b=match jP 0 xs with|some x=>if ig x=0 then some x else none|none=>none:=by unfold Ak;rw[hs];rfl
 obtain⟨ra,rc,rfl⟩:=dO.shape
 have Ev:fX.length≤65536:=by
  have h1:xs.length≤65536:=by
   unfold qb at hs
   split at hs
   ·cases hs
   ·split at hs
    ·cases hs
     have:=ub _ b (Nat.le_refl _)
     grind [fm]
    ·cases hs
  grind
 repeat'(first|refine eZ ?_|fail)
 all_goals((skip))
 refine aC zr zr zr bE ?_
 intro b6
 refine go ?_
 refine ai (ak.trans (ak.bX [] _) (bK 39 66 none _)) ?_
 refine bB (fun y:Nat × List Bl × Option Addr × Nat=>y.1≤fX.length∧jP 0 (xs.take y.1)=some y.2.1∧y.2.1.length=y.1) (fun y=>fX.length-y.1)
  (fun y=>[(2,ptr b2),(6,ptr b6),(20,.slice ra fX.length rc),(21,.int .i64 (fX.length:Int)),(22,.int .i64 (y.1:Int))])
  (fun y=>ae b6 (cl [.slice y.2.2.1 y.2.1.length y.2.2.2] 161)::aF 39 66 (.slice y.2.2.1 y.2.1.length y.2.2.2) y.2.1.length (y.2.1.flatMap bH)::Z::A::ae b2 (cl [.slice none 0 0] 161)::F) (0,[],none,0) ⟨Nat.zero_le _,rfl,rfl⟩ rfl ck ah ?_
 rintro⟨i,acc,xa,xc⟩⟨hi,yd,SC⟩ ih
 simp only at hi yd SC
 dsimp only
 refine go ?_
 refine au zr zr ?_ ?_
 ·intro dJ
  have gz:i<fX.length:=by omega
  obtain⟨it,Ng⟩:∃x,fX[i]?=some x:=⟨fX[i],by simp⟩
  have hxi:xs[i]?=some (it.n,it.b):=by rw[← rW,List.getElem?_map,Ng];rfl
  have No:=xO it (List.mem_of_getElem? Ng)
  have acX:=ud hs _ (List.mem_of_getElem? hxi)
  have kU:xs.take (i+1)=xs.take i++[(it.n,it.b)]:=by rw[List.take_add_one,hxi];rfl
  have Ib:=xJ (xs.take i) 0 (it.n,it.b)
  have pY:(xs.take i).length=i:=by rw[List.length_take,← rW,List.length_map];omega
  rw[← kU,yd,pY,Nat.zero_add]at Ib
  simp only at Ib acX
  have jj:jP 0 (xs.take (i+1))=none→Ak b=none:=fun h=>by
   have:=xI _ (xs.drop (i+1)) 0 h
   rw[List.take_append_drop]at this
   grind
  obtain⟨rb,ro,rcc,he⟩:=dO.some (by rw[← List.length_pos_iff,cE jQ];omega)
  simp only[Value.slice.injEq]at he
  obtain⟨rfl,_,rfl⟩:=he
  obtain⟨xn,xv,xb⟩:=it
  simp only at No Ib acX
  obtain⟨va,vc,rfl,_⟩:=No.2
  refine go ?_
  refine bZ i 2 zr zr zr zr zr zr zr zr gz ?_
  refine aK ?_
  refine cI (U:=aR) (es:=my ⟨xn,.slice va xb.length vc,xb⟩) 2 (i*2) zr zr zr dO rfl (fun j v hj=>?_) zr zr zr ?_
  ·rw[cU jQ Ng j (by rcases Nat.lt_or_ge j 2 with h|h;exact h;rw[List.getElem?_eq_none (by rw[jQ];exact h)]at hj;cases hj)];exact hj
  refine aC zr zr zr bE ?_
  intro b8
  refine go ?_
  refine aN (MJ Z _ xb No ag) ?_
  cases pJ:nP xb with
  | none =>
   rw[pJ]at Ib
   have uP:=jj Ib
   simp only[Rz]
   refine go ?_
   refine aC zr zr zr bE ?_
   intro b9
   refine go ?_
   (refine aV ?_;(refine cF 6 gf zr zr zr zr zr zr zr zr zr ?_))
   refine go ?_
   (refine aZ hE ?_;apply aW (U:=aR) hE Tryz.func181 rfl (ak.refl _);(repeat(first|exact aQ.nil|apply aQ.tmp rfl|apply aQ.agg 6 zr zr zr zr zr));exact(.inl ⟨uP,⟨2,by decide,rfl⟩,rfl⟩);exact ah)
  | some z =>
   rw[pJ]at Ib
   simp only[Rz]at Ib ⊢
   unfold dG
   refine go ?_
   refine aC zr zr zr bE ?_
   intro b9
   repeat'(first|(with_reducible intro p6)|refine eZ ?_|refine au zr zr ?_ ?_)
   ·rw[if_pos ag]at Ib
    have uP:=jj Ib
    (refine aV ?_;(refine cF 6 gf zr zr zr zr zr zr zr zr zr ?_))
    refine go ?_
    (refine aZ hE ?_;apply aW (U:=aR) hE Tryz.func181 rfl (ak.refl _);(repeat(first|exact aQ.nil|apply aQ.tmp rfl|apply aQ.agg 6 zr zr zr zr zr));exact(.inl ⟨uP,⟨2,by decide,rfl⟩,rfl⟩);exact ah)
   ·rw[if_neg ag]at Ib
    refine aH (U:=aR) (l:=bH z) 0 zr zr zr zr zr zr ?_
    refine ao (cs:=bH z) zr zr zr zr zr zr zr zr zr bE ?_
    intro row
    refine go ?_
    refine aT (mm:=1) (news:=bH z) 5 0 zr zr zr zr zr zr zr zr zr zr zr zr (Vw.ae rfl) rfl (by have:=Lx [z];simpa using this) ag (by show(_+_)*80≤_;omega) (fun _=>rfl) bE ?_
    intro v1
    rw[show acc.flatMap bH++bH z=(acc++[z]).flatMap bH from by simp,show acc.length+1=(acc++[z]).length from by simp]
    refine aP 5 rfl ?_
    rintro ja jc rfl
    refine go ?_
    refine aV ?_
    refine cF 4 gf zr zr zr zr zr zr zr zr zr (go ?_)
    refine aM ih (i+1,acc++[z],ja,jc) rfl ⟨by simp only;omega,Ib,by simp only[List.length_append,List.length_singleton];omega⟩ (by simp only;omega) ck ah
 ·intro fO
  have tR:i=fX.length:=by omega
  have iy:xs.take i=xs:=by rw[List.take_of_length_le];rw[← rW,List.length_map];omega
  rw[iy]at yd
  rw[yd]at hde
  simp only at hde
  clear ih
  refine dg 1 rfl ?_
  intro hva
  refine go ?_
  refine aH (U:=aR) (l:=[.slice xa acc.length xc]) 0 zr zr zr zr zr zr ?_
  refine aN (CV _ _ acc hva ag) ?_
  repeat'(first|(with_reducible intro p6)|refine eZ ?_|refine au zr zr ?_ ?_)
  ·rw[if_neg ag]at hde
   (refine aV ?_;(refine cF 4 gf zr zr zr zr zr zr zr zr zr ?_))
   refine go ?_
   (refine aZ hE ?_;apply aW (U:=aR) hE Tryz.func181 rfl (ak.refl _);(repeat(first|exact aQ.nil|apply aQ.tmp rfl|apply aQ.agg 4 zr zr zr zr zr));exact(.inl ⟨hde,⟨2,by decide,rfl⟩,rfl⟩);exact ah)
  ·rw[if_pos ag]at hde
   refine aH (U:=aR) (l:=[.slice xa acc.length xc]) 1 zr zr zr zr zr zr (go ?_)
   refine aV ?_
   refine cF 4 gf zr zr zr zr zr zr zr zr zr (go ?_)
   (refine aZ hE ?_;apply aW (U:=aR) hE Tryz.func181 rfl (ak.refl _);(repeat(first|exact aQ.nil|apply aQ.tmp rfl|apply aQ.agg 4 zr zr zr zr zr));exact(.inr ⟨acc,_,hde,rfl,rfl⟩);exact ah)
end Go.Proofs.YthnfckodljbgbaaGreatDoor
namespace Go.SL
open Go.RowKit
def old(W:World):HP:=fun h=>∀b,h b=W.heap[b]?
def aah(W:World):cQ:={ tape:=W.tape,os:=W.os,output:=W.output }
def UL(W:World):Sat (aah W) W [old W]:=⟨⟨rfl,Nat.zero_le _⟩,rfl,rfl,fun b=>W.heap[b]?,fun _ _ h=>h,gu fun _=>rfl⟩
theorem D1{W W':World}(h:Sat (aah W) W' [old W]):Below W.heap.size W W':=by
 obtain⟨h1,h2,h3,h0,hw,hs⟩:=h
 have ho:=ez hs
 have hb:∀k,k<W.heap.size→W'.heap[k]?=W.heap[k]? := fun k hk=>by
  have e:W.heap[k]?=some W.heap[k]:=by simp[hk]
  rw[e]
  exact hw k _ (by rw[ho k,e])
 refine⟨h2,h1.1,h3,?_,hb⟩
 grind
theorem PF{P:Program}{f:FuncId}{args:List Value}{W:World}(c:aD P f args [old W] (fun v H=>v = .bool true∧H=[old W])) :
  Calls P f args.toArray W fun e W'=>e = .returned (.bool true)∧Below W.heap.size W W' :=
 (c.2 (aah W) W [] (UL W)).mono fun e W' h=>by
  grind [D1]
theorem n5{W:World}{h:Hp}{b off:Nat}{v:Value}(ho:old W h)(hc:W.cell? ⟨b,off,none⟩=some v):dK h b off=some v:=by
 unfold dK
 rw[ho b]
 unfold World.cell? at hc
 grind
theorem JP{W:World}{a:Addr}{len cap:Nat}{zs:List Int}(hl:len≤zs.length)(dK:∀i,i<zs.length→W.cell? (a.add i)=some (.int .u8 (zs.getD i 0)))(hwf:∀n∈zs,(Lit.int .u8 n).wf=true) :
  ∃bs:List UInt8,bs.length=len∧Vw (old W) (.slice (some a) len cap) len (bV bs):=by
 refine⟨(zs.take len).map fun z=>UInt8.ofNat z.toNat,by simp;omega,some a,cap,rfl,?_⟩
 rcases Nat.eq_zero_or_pos len with h0|h0
 ·grind [bV]
 ·right
  obtain⟨b,o,spot⟩:=a
  have iC:spot=none:=by simpa[Addr.add]using World.cell?_spot (dK 0 ag)
  subst iC
  refine⟨b,o,rfl,fun h ho j c hj=>?_⟩
  have uL:j<len:=by
   grind [bV]
  have h1:=dK j ag
  rw[Addr.add_eq]at h1
  have h2:=n5 ho h1
  rw[h2]
  have hm:zs[j]' ag∈zs:=List.getElem_mem _
  have hw:=hwf _ hm
  have hb:0≤zs[j]' ag∧zs[j]' ag<256:=by
   simp only[Lit.wf,Bool.and_eq_true,decide_eq_true_eq]at hw
   have e1:IntKind.u8.min=0:=by decide
   have e2:IntKind.u8.max=255:=by decide
   omega
  simp only[bV,List.map_map,List.getElem?_map,List.getElem?_take,uL,if_true]at hj
  rw[List.getElem?_eq_getElem ag]at hj
  simp only[Option.map_some,Option.some.injEq,Function.comp]at hj
  rw[← hj,List.getD_eq_getElem?_getD,List.getElem?_eq_getElem ag]
  simp only[Option.getD_some,u8,UInt8.toNat_ofNat',Option.some.injEq]
  grind
def Qg(W:World):Vw (old W) (.slice none 0 0) 0 (bV []):=⟨none,0,rfl,.inl rfl⟩
def oE{z:Int}(h:(Lit.int .i64 z).wf=true) : -9223372036854775808≤z∧z≤9223372036854775807:=by
 simp only[Lit.wf,Bool.and_eq_true,decide_eq_true_eq]at h
 have e1:IntKind.i64.min = -9223372036854775808:=by decide
 simp_all
end Go.SL
namespace Go.SL
open Go.Proofs Go.Shelf Go.RowKit Go.Lib Go.Sort
theorem Sat.grown{G:cQ}{w:World}{H:List HP}(hs:Sat G w H)(os:Array Obj):Sat G (Sort.grow w os) H:=by
 obtain⟨a,b,c,h,hw,hh⟩:=hs
 refine⟨a,b,c,h,fun x o e=>?_,hh⟩
 have h1:=hw x o e
 obtain⟨h2,-⟩:=Array.getElem?_eq_some_iff.1 h1
 show(w.heap++os)[x]?=some o
 grind
def Sat.ahead{G:cQ}{w:World}{H:List HP}(hs:Sat G w H)(n:Nat):Sat G (Sort.ahead w n) H:=hs.draw _ (Nat.le_add_right _ _)
theorem Sat.ad2{G:cQ}{w:World}{H:List HP}{b:Nat}{l l':List Value}{e:TypeId}(hs:Sat G w (ae b (cl l e)::H))(f:Array Value→Array Value)(hf:f l.toArray=l'.toArray):Sat G (Sort.mapBlock w b f) (ae b (cl l' e)::H):=by
 have hb:=hs.get (i:=0) rfl
 obtain⟨dJ,tC⟩:=Array.getElem?_eq_some_iff.1 hb
 have hm:w.heap.modify b (Sort.onCells f)=w.heap.setIfInBounds b (cl l' e):=by
  apply Array.ext_getElem?
  intro i
  rw[Array.getElem?_modify,Array.getElem?_setIfInBounds]
  by_cases h:b=i
  ·subst h
   rw[if_pos rfl,if_pos rfl,if_pos dJ,hb]
   simp only[Option.map_some]
   unfold cl Sort.onCells
   grind
  grind
 unfold Sort.mapBlock
 rw[hm]
 exact hs.Da
variable{P:Program}{ρ:Ren}{α:Type}[Inhabited α]
theorem Dn(pre cs lA cf:List Value)(hl:lA.length=cs.length):Sort.putCells id pre.length lA.toArray (pre++cs++cf).toArray=(pre++lA++cf).toArray:=by
 apply Array.ext_getElem?
 intro i
 unfold Sort.putCells
 grind
theorem M6{w:World}{b:Nat}{e:TypeId}{pre cs cf:List Value}(hb:w.heap[b]?=some (cl (pre++cs++cf) e)):Sort.Holds id w b pre.length cs.toArray:=by
 intro j hj
 simp only[List.size_toArray]at hj
 constructor
 ·unfold World.cell?
  grind [cl]
 ·unfold World.frozen?
  grind [cl]
end Go.SL
namespace Go.SL
open Go.Proofs Go.Shelf Go.RowKit Go.Lib Go.Sort
variable{P:Program}{ρ:Ren}
theorem E4(L:SlLaysN.n54 P ρ)(e:TypeId)(v:Value)(l:List (List UInt8))(Z3:P.funcs[ρ.f 54]?.map mZ=some true)(iY:l.length<4611686018427387904) :
  aD P (ρ.f 54) [v] [aF e 1 v l.length (l.map encStr)] (fun r H=>r = .tuple #[]∧H=[aF e 1 v l.length ((l.mergeSort fun x y=>decide (x≤y)).map encStr)]):=by
 refine⟨Z3,fun G w F hs=>?_⟩
 obtain⟨t,o,u,hp,OT,hA,hB,⟨hl,iF⟩,hBB,hd,he⟩:=hs
 rcases iF with⟨a0,rfl,hn,Jj⟩|⟨b,oo,cap,pre,cf,rfl,nv,hn,kj,wD⟩
 ·have Q3:l=[]:=List.eq_nil_of_length_eq_zero hn
  subst Q3
  refine(AnyG.slices_Sort_string_none L a0 0 w).mono ?_
  rintro e' w'⟨rfl,rfl⟩
  exact⟨_,_,rfl,⟨rfl,rfl⟩,t,o,u,hp,OT,hA,hB,⟨by simp,.inl ⟨a0,rfl,rfl,Jj⟩⟩,hBB,hd,he⟩
 ·have zN:Sat G w (ae b (cl (pre++l.map encStr++cf) e)::F):=⟨t,o,u,hp,OT,hA,hB,wD,hBB,hd,he⟩
  have hb:=zN.get (i:=0) rfl
  have dJ:=zN.lt (i:=0) rfl
  subst nv
  have hH:Sort.Holds encStr w b pre.length l.toArray:=by
   have h0:=M6 hb
   intro j hj
   have:=h0 j (by simpa using hj)
   grind
  have hS:=AnyG.slices_Sort_string L b pre.length cap l w hH dJ iY
  refine hS.mono ?_
  rintro e' w'⟨rfl,n,os,rfl⟩
  refine⟨_,_,rfl,⟨rfl,rfl⟩,?_⟩
  have DF:(l.mergeSort fun x y=>decide (x≤y)).length=l.length:=List.length_mergeSort _
  have h3:=(zN.ahead n).ad2 (Sort.putCells encStr pre.length (l.mergeSort fun x y=>decide (x≤y)).toArray) (l':=pre++(l.mergeSort fun x y=>decide (x≤y)).map encStr++cf) (by
   refine Eq.trans ?_ (Dn pre (l.map encStr) ((l.mergeSort fun x y=>decide (x≤y)).map encStr) cf (by rw[List.length_map,List.length_map,DF]))
   unfold Sort.putCells
   congr 1
   funext i x
   simp only[List.size_toArray,List.length_map,id]
   split
   ·rename_i h
    rw[getElem!_pos (List.map encStr _).toArray (i-pre.length) (by simp;omega),getElem!_pos (l.mergeSort fun x y=>decide (x≤y)).toArray (i-pre.length) (by simp;omega)]
    simp
   ·rfl)
  have h4:=h3.grown os
  refine h4.cL ?_
  exact mK rfl hn (by rw[List.length_map]at kj ⊢;rw[DF];exact kj) (by rw[List.length_map,DF,Nat.mul_one]) F
end Go.SL
namespace Go.Proofs.YthnfckodljbgbaaGreatDoor
open Go Go.Shelf
def BS:Go.Shelf.Ren:=⟨fun|54=>176|64=>210|65=>209|78=>235|79=>236|80=>226|81=>227|82=>228|83=>229|84=>230|85=>231|61=>232|86=>233|87=>234|93=>246|89=>247|90=>248|94=>249|95=>250|69=>251|97=>253|n=>n,fun|25=>114|26=>9|3=>3|51=>98|0=>0|67=>150|69=>133|4=>4|61=>266|60=>265|44=>177|5=>5|9=>9|75=>282|79=>286|83=>288|84=>289|n=>n,fun|n=>n⟩
def ab5:Go.Proofs.SlLaysN.n54 Tryz.prog BS:={
  mixed:=by kernel_rfl,
  f54:=⟨Tryz.f176.name,by decide,Tryz.func176.trans (congrArg some (by kernel_rfl))⟩,
  f61:=⟨Tryz.f232.name,by decide,Tryz.func232.trans (congrArg some (by kernel_rfl))⟩,
  f64:=Tryz.func210.trans (congrArg some (by kernel_rfl)),
  f65:=⟨Tryz.f209.name,by decide,Tryz.func209.trans (congrArg some (by kernel_rfl))⟩,
  f69:=⟨Tryz.f251.name,by decide,Tryz.func251.trans (congrArg some (by kernel_rfl))⟩,
  f78:=Tryz.func235.trans (congrArg some (by kernel_rfl)),
  f79:=Tryz.func236.trans (congrArg some (by kernel_rfl)),
  f80:=⟨Tryz.f226.name,by decide,Tryz.func226.trans (congrArg some (by kernel_rfl))⟩,
  f81:=⟨Tryz.f227.name,by decide,Tryz.func227.trans (congrArg some (by kernel_rfl))⟩,
  f82:=⟨Tryz.f228.name,by decide,Tryz.func228.trans (congrArg some (by kernel_rfl))⟩,
  f83:=⟨Tryz.f229.name,by decide,Tryz.func229.trans (congrArg some (by kernel_rfl))⟩,
  f84:=⟨Tryz.f230.name,by decide,Tryz.func230.trans (congrArg some (by kernel_rfl))⟩,
  f85:=⟨Tryz.f231.name,by decide,Tryz.func231.trans (congrArg some (by kernel_rfl))⟩,
  f86:=⟨Tryz.f233.name,by decide,Tryz.func233.trans (congrArg some (by kernel_rfl))⟩,
  f87:=⟨Tryz.f234.name,by decide,Tryz.func234.trans (congrArg some (by kernel_rfl))⟩,
  f89:=Tryz.func247.trans (congrArg some (by kernel_rfl)),
  f90:=Tryz.func248.trans (congrArg some (by kernel_rfl)),
  f93:=⟨Tryz.f246.name,by decide,Tryz.func246.trans (congrArg some (by kernel_rfl))⟩,
  f94:=⟨Tryz.f249.name,by decide,Tryz.func249.trans (congrArg some (by kernel_rfl))⟩,
  f95:=⟨Tryz.f250.name,by decide,Tryz.func250.trans (congrArg some (by kernel_rfl))⟩,
  f97:=⟨Tryz.f253.name,by decide,Tryz.func253.trans (congrArg some (by kernel_rfl))⟩,
  t0:=Tryz.underlying0,
  a0:=Tryz.isAgg0,
  z0:=Tryz.sizeOf0,
  v0:=Tryz.zeroValue0,
  t3:=Tryz.underlying3,
  a3:=Tryz.isAgg3,
  z3:=Tryz.sizeOf3,
  v3:=Tryz.zeroValue3,
  t4:=Tryz.underlying4,
  a4:=Tryz.isAgg4,
  z4:=Tryz.sizeOf4,
  v4:=Tryz.zeroValue4,
  t5:=Tryz.underlying5,
  a5:=Tryz.isAgg5,
  z5:=Tryz.sizeOf5,
  v5:=Tryz.zeroValue5,
  t9:=Tryz.underlying9,
  a9:=Tryz.isAgg9,
  z9:=Tryz.sizeOf9,
  v9:=Tryz.zeroValue9,
  t25:=Tryz.underlying114,
  a25:=Tryz.isAgg114,
  z25:=Tryz.sizeOf114,
  v25:=Tryz.zeroValue114,
  t26:=Tryz.underlying9,
  a26:=Tryz.isAgg9,
  z26:=Tryz.sizeOf9,
  v26:=Tryz.zeroValue9,
  t44:=Tryz.underlying177,
  a44:=Tryz.isAgg177,
  z44:=Tryz.sizeOf177,
  v44:=Tryz.zeroValue177,
  t51:=Tryz.underlying98,
  a51:=Tryz.isAgg98,
  z51:=Tryz.sizeOf98,
  v51:=Tryz.zeroValue98,
  t60:=Tryz.underlying265,
  a60:=Tryz.isAgg265,
  z60:=Tryz.sizeOf265,
  v60:=Tryz.zeroValue265,
  t61:=Tryz.underlying266,
  a61:=Tryz.isAgg266,
  z61:=Tryz.sizeOf266,
  v61:=Tryz.zeroValue266,
  t67:=Tryz.underlying150,
  a67:=Tryz.isAgg150,
  z67:=Tryz.sizeOf150,
  v67:=Tryz.zeroValue150,
  t69:=Tryz.underlying133,
  a69:=Tryz.isAgg133,
  z69:=Tryz.sizeOf133,
  v69:=Tryz.zeroValue133,
  t75:=Tryz.underlying282,
  a75:=Tryz.isAgg282,
  z75:=Tryz.sizeOf282,
  v75:=Tryz.zeroValue282,
  t79:=Tryz.underlying286,
  a79:=Tryz.isAgg286,
  z79:=Tryz.sizeOf286,
  v79:=Tryz.zeroValue286,
  t83:=Tryz.underlying288,
  a83:=Tryz.isAgg288,
  z83:=Tryz.sizeOf288,
  v83:=Tryz.zeroValue288,
  t84:=Tryz.underlying289,
  a84:=Tryz.isAgg289,
  z84:=Tryz.sizeOf289,
  v84:=Tryz.zeroValue289 }
end Go.Proofs.YthnfckodljbgbaaGreatDoor
namespace Go.Proofs.YthnfckodljbgbaaGreatDoor
open Go Go.SL
def sS(l:List ByteArray):List Value:=l.map Value.string
def Y0(l:List ByteArray):∀v∈sS l,v.oneCell'=true:=by
 intro v hv
 obtain⟨x,_,rfl⟩:=List.mem_map.1 hv
 rfl
def SI(bs:Nat)(ks:List ByteArray):HP:=fun h=>∃v:Value,True∧Sep [ae bs (cl [v] 114),aF 9 1 v ks.length (sS ks)] h
def LD(bs:Nat)(ks:List ByteArray):∀h,SI bs ks h→∃v:Value,True∧Sep [ae bs (cl [v] 114),aF 9 1 v ks.length (sS ks)] h:=fun h hs=>hs
def Hh(bs:Nat)(ks:List ByteArray)(v:Value)(H:List HP):ak (ae bs (cl [v] 114)::aF 9 1 v ks.length (sS ks)::H) (SI bs ks::H) :=
 ak.fold (A:=SI bs ks) (B:=[ae bs (cl [v] 114),aF 9 1 v ks.length (sS ks)]) fun h hs=>⟨h,sub.refl h,v,trivial,hs⟩
def U':kG Tryz.prog 9 Value.string:=QB Tryz.underlying9
attribute [local irreducible] J K aD Ends ae aF aL bU bo aU bh bq cg SI
def R1(bm:Nat):aD Tryz.prog 114 [.map (some bm)] [] (fun r H=>∃bx,r = .func (.func 177) #[] #[ptr bx]∧H=[ae bx (cl [.map (some bm)] 57)]):=by
 refine aD.aw Tryz.func114 Tryz.ntmps114 fun G F R hE=>?_
 refine go ?_
 refine bG zr zr bE ?_
 intro bx
 refine go ?_
 refine ad hE Tryz.func114 zr zr ⟨bx,rfl,rfl⟩
theorem Ol(l bx bm:Nat)(es:List (ByteArray × Value))(jh:(es.map (·.1)).Nodup)(Lp:HP)(Inv:List ByteArray→HP)(hy:∀dn k,k∈es.map (·.1)→dn.length<es.length→cg Tryz.prog l [.string k] [Lp,Inv dn] (fun v H=>v = .bool true∧H=[Lp,Inv (dn++[k])])) :
  aD Tryz.prog 177 [.func (.yield l) #[] #[],ptr bx] [Lp,ae bx (cl [.map (some bm)] 57),aL Value.string bm es,Inv [] ] (fun _ H=>∃dn:List ByteArray,dn.Perm (es.map (·.1))∧H=[Lp,ae bx (cl [.map (some bm)] 57),aL Value.string bm es,Inv dn]):=by
 refine aD.aw Tryz.func177 Tryz.ntmps177 fun G F R hE=>?_
 refine ai (ak.pick [2,0,1] rfl) (go ?_)
 refine yC (kv:=Value.string) (es:=es) (U:=aR) 0 zr zr zr zr zr (fun _=>rfl) bE ?_
 intro it
 refine go ?_
 refine bB (fun s:List ByteArray=>s.Nodup∧∀x∈s,x∈es.map (·.1)) (fun s=>es.length-s.length) (fun s=>[(0,.func (.yield l) #[] #[]),(5,.pointer (some ⟨it,0,none⟩))])
  (fun s=>bU Value.string bm it es s::Lp::ae bx (cl [.map (some bm)] 57)::Inv s.reverse::F) [] ⟨List.nodup_nil,by simp⟩ rfl ck ah ?_
 rintro dn⟨uP,dU⟩ ih
 refine go ?_
 refine Ek (kv:=Value.string) (es:=es) 0 rfl U'.inj zr zr (fun _=>rfl) gf bE ?_ ?_
 ·intro iy
  refine go ?_
  refine ai (ak.head (B:=[aL Value.string bm es]) (fun h hs=>by obtain⟨h',s,hm⟩:=rC h hs;exact⟨h',s,gu hm⟩)) ?_
  have hp:dn.reverse.Perm (es.map (·.1)):=(List.reverse_perm dn).trans ((List.perm_ext_iff_of_nodup uP jh).2 fun a=>⟨dU a,fun h=>by obtain⟨y,hy,rfl⟩:=List.mem_map.1 h;exact iy y hy⟩)
  refine cd hE Tryz.func177 rfl _ rfl ⟨_,hp,rfl⟩ ah
 ·intro key v gp zP
  have hk:key∈es.map (·.1):=List.mem_map.2 ⟨_,gp,rfl⟩
  have dJ:dn.length<es.length:=by
   have h1:((List.filter (fun x=>decide (x∈dn)) (es.map (·.1)))).length≤(es.map (·.1)).length:=List.length_filter_le _ _
   have h2:dn.length=(List.filter (fun x=>decide (x∈dn)) (es.map (·.1))).length:=IW uP (jh.sublist List.filter_sublist) (fun n=>by
    simp only[List.mem_filter,decide_eq_true_eq]
    exact⟨fun h=>⟨dU n h,h⟩,fun h=>h.2⟩)
   rw[List.length_map]at h1
   rcases Nat.lt_or_ge dn.length es.length with h|h
   ·exact h
   ·exfalso
    have h3:(List.filter (fun x=>decide (x∈dn)) (es.map (·.1))).length=(es.map (·.1)).length:=by rw[List.length_map];omega
    have h4:=List.filter_eq_self.1 ((List.filter_sublist (p:=fun x=>decide (x∈dn)) (l:=es.map (·.1))).eq_of_length h3) key hk
    grind
  refine go ?_
  refine yG (kv:=Value.string) (es:=es) 0 rfl U'.inj zr zr gp (go ?_)
  refine lB zr zr zr (hy dn.reverse key hk (by rw[List.length_reverse];exact dJ)) ah ?_ nq
  rintro _ _⟨rfl,rfl⟩
  rw[show dn.reverse++[key]=(key::dn).reverse from by simp]
  refine go ?_
  refine aM ih (key::dn) rfl (⟨List.nodup_cons.2 ⟨zP,uP⟩,fun x hx=>by rcases List.mem_cons.1 hx with rfl|h;exact hk;exact dU x h⟩) (by show _-(key::dn).length<_;simp only[List.length_cons];omega) ck ah
def BB(bx bm:Nat)(es:List (ByteArray × Value))(jh:(es.map (·.1)).Nodup)(tA:es.length≤1000000) :
  aD Tryz.prog 208 [.slice none 0 0,.func (.func 177) #[] #[ptr bx] ] [ae bx (cl [.map (some bm)] 57),aL Value.string bm es] (fun r H=>∃dn:List ByteArray,dn.Perm (es.map (·.1))∧H=[aF 9 1 r dn.length (sS dn),ae bx (cl [.map (some bm)] 57),aL Value.string bm es]):=by
 refine aD.aw Tryz.func208 Tryz.ntmps208 fun G F R hE=>?_
 refine aB rfl ?_
 refine bG zr zr bE ?_
 intro bs
 refine go ?_
 refine gE rfl ?_
 refine ai (ak.trans (ak.cons _ (bK 9 1 none _)) (Hh bs [] (.slice none 0 0) _)) ?_
 refine yB (Fr:=F) (Pre:=fun _ _=>[ae bx (cl [.map (some bm)] 57),aL Value.string bm es,SI bs [] ]) (Post:=?Po) rfl hE.1.1 rfl ?c (fun l r=>ah) ?ij
 case c =>
  intro l r
  refine Ol l bx bm es jh _ (fun dn=>SI bs dn) ?_
  intro dn k hk dJ
  refine cg.FO zr zr ?_
  intro G2 F2 R2 hY
  refine go ?_
  refine gx rfl hY ?_
  refine ai (ak.pick [1] rfl) ?_
  refine eB (LD bs dn) ?_
  rintro v -
  refine dN 1 rfl ?_
  rintro va vc rfl
  refine go ?_
  refine ao (cs:=sS [k]) zr zr zr zr zr zr zr zr zr bE ?_
  intro row
  refine go ?_
  refine aT (mm:=1) (news:=sS [k]) 2 0 zr zr zr zr zr zr zr zr zr zr zr zr (Vw.ae rfl) rfl (Y0 _) ag (by show(_+1)*16≤_;omega) (fun _=>rfl) bE ?_
  intro v1
  rw[show sS dn++sS [k]=sS (dn++[k])from by simp[sS],show dn.length+1=(dn++[k]).length from by simp]
  refine aP 2 rfl ?_
  rintro va2 vc2 rfl
  refine go ?_
  refine ai (ak.trans ah (Hh bs (dn++[k]) (.slice va2 (dn++[k]).length vc2) _)) ?_
  refine fV hY rfl ah ⟨rfl,rfl⟩
 intro l r v H fU
 obtain⟨dn,hp,rfl⟩:=fU
 refine⟨_,_,_,rfl,by decide,?_⟩
 rw[hE.1.2]
 refine ai (ak.pick [2] rfl) ?_
 refine eB (LD bs dn) ?_
 rintro w -
 refine go ?_
 refine rO hE Tryz.func208 rfl _ rfl ⟨dn,hp,rfl⟩ ah
def HQ(bx bm:Nat)(es:List (ByteArray × Value))(jh:(es.map (·.1)).Nodup)(tA:es.length≤1000000) :
  aD Tryz.prog 175 [.func (.func 177) #[] #[ptr bx] ] [ae bx (cl [.map (some bm)] 57),aL Value.string bm es] (fun r H=>∃dn:List ByteArray,dn.Perm (es.map (·.1))∧H=[aF 9 1 r dn.length (sS dn),ae bx (cl [.map (some bm)] 57),aL Value.string bm es]):=by
 refine aD.aw Tryz.func175 Tryz.ntmps175 fun G F R hE=>?_
 refine go ?_
 refine aI (BB bx bm es jh tA) ?_
 rintro w _⟨dn,hp,rfl⟩
 refine go ?_
 refine ad hE Tryz.func175 zr zr ⟨dn,hp,rfl⟩
def nS(l:List (List UInt8)):List Value:=l.map Go.Proofs.encStr
def ab6(l:List ByteArray):sS l=nS (l.map fun b=>b.data.toList):=by
 unfold sS nS
 rw[List.map_map]
 rfl
def N3(v:Value)(l:List ByteArray)(hl:l.length≤1000000000):aD Tryz.prog 176 [v] [aF 9 1 v l.length (sS l)] (fun r H=>r = .tuple #[]∧H=[aF 9 1 v l.length (nS (qs l))]):=by
 have h:=E4 (ρ:=BS) ab5 9 v (l.map fun b=>b.data.toList) aq (by rw[List.length_map];omega)
 rw[List.length_map]at h
 rw[ab6]
 exact h
def J1(bx bm:Nat)(es:List (ByteArray × Value))(jh:(es.map (·.1)).Nodup)(tA:es.length≤1000000) :
  aD Tryz.prog 113 [.func (.func 177) #[] #[ptr bx] ] [ae bx (cl [.map (some bm)] 57),aL Value.string bm es] (fun r H=>H=[aF 9 1 r es.length (nS (qs (es.map (·.1)))),ae bx (cl [.map (some bm)] 57),aL Value.string bm es]):=by
 refine aD.aw Tryz.func113 Tryz.ntmps113 fun G F R hE=>?_
 refine go ?_
 refine aI (HQ bx bm es jh tA) ?_
 rintro w _⟨dn,hp,rfl⟩
 have hlen:dn.length=es.length:=by rw[hp.length_eq,List.length_map]
 refine aP 0 rfl ?_
 rintro wa wc rfl
 refine go ?_
 refine aN (N3 (.slice wa dn.length wc) dn ag) ?_
 rw[Iu hp,hlen]
 refine go ?_
 refine aO hE Tryz.func113 rfl _ zr zr ah
def Oh(bd:Nat)(D:Dk)(A:Ab)(hR:Rel D A):aD Tryz.prog 58 [ptr bd] [gY bd D] (fun r H=>H=[aF 9 1 r (eP A).length (nS (qs (eP A))),gY bd D]):=by
 have jh:=hR.nodup _ (List.mem_cons_self ..)
 have xM:=hR.fF _ (List.mem_cons_self ..)
 have Gm:(ff A.names).map (·.1)=eP A:=by simp[ff,eP,Function.comp_def]
 have hkl:(ff A.names).length=(eP A).length:=by simp[ff,eP]
 have fL:(eP A).length≤200:=by unfold eP;rw[List.length_map];exact xM
 obtain⟨jm,hjm⟩:=List.getElem?_of_mem hR.names
 obtain⟨room,bm,ly,ml,od,off,maps,ej,files,gI,wl⟩:=D
 simp only at hjm
 refine aD.aw Tryz.func58 Tryz.ntmps58 fun G F R hE=>?_
 refine ai (iU _ _ _ _ _ _ _ _ _ _ _ _ _) (go ?_)
 refine aI (R1 bm) ?_
 rintro _ _⟨bx,rfl,rfl⟩
 have DB:=J1 bx bm (ff A.names) (by rw[Gm];exact jh) ag
 rw[Gm,hkl]at DB
 refine aJ (ak.pick [2] rfl) ?_
 refine aJ (iB lH hjm _) ?_
 refine aJ (ak.pick [2,0] rfl) (go ?_)
 refine aI DB ?_
 rintro v _ rfl
 refine aJ (ak.pick [2,3] rfl) ?_
 refine aJ (qm lH hjm _) (go ?_)
 refine ai ((ak.pick [3,0,4,5,6,7] rfl).trans (ew _ _ _ _ _ _ _ _ _ _ _ _ _)) ?_
 refine aO hE Tryz.func58 rfl _ zr zr ah
end Go.Proofs.YthnfckodljbgbaaGreatDoor
namespace Go.Proofs.YthnfckodljbgbaaGreatDoor
open Go Go.SL
attribute [local irreducible] J K aD Ends ae aF aL bU bo aU bh bq cg Sha.chunks Sha.chunk Sha.rounds Sha.sched dW cy GI cS
structure LR(A:Ab):Prop where
 ids:(A.fs.map (·.1)).Nodup
 known:∀st∈A.names::A.aj,∀x∈st,x.2∈A.fs.map (·.1)
 eg:∀x∈A.writes,x.1∈A.fs.map (·.1)
 nodup:∀st∈A.names::A.aj,(st.map (·.1)).Nodup
 gC:∀x∈A.fs,x.2.1.length≤1048576∧x.2.2.length≤1048576
 ib:∀x∈A.writes,x.2.1+x.2.2.length≤1048576
 fF:∀st∈A.names::A.aj,st.length≤200
 ie:A.room≤1073741824
 full:A.aj≠[]
def LR.of{D:Dk}{A:Ab}(h:Rel D A):LR A:=⟨h.ids,h.known,h.eg,h.nodup,h.gC,h.ib,h.fF,h.ie,h.full⟩
def LR.file{A:Ab}(h:LR A)(f:Nat):(A.file f).1.length≤1048576∧(A.file f).2.length≤1048576:=by
 unfold Ab.file
 cases hx:A.fs.find? (fun x=>decide (x.1=f))with
 | none=>simp
 | some x=>exact h.gC x (List.mem_of_find?_eq_some hx)
def LR.now{A:Ab}(h:LR A)(f:Nat):(A.now f).length≤1048576:=(h.file f).1
def DL{G:cQ}{w:World}{H:List HP}(hs:Sat G w H){i:Nat}{A:HP}(hi:cM H i=some A):∃h,A h:=let ⟨h,_,hA⟩:=hs.lN hi;⟨h,hA⟩
def GP{bd:Nat}{A:Ab}{h:Hp}(hd:aE bd A h):LR A:=let ⟨_,hR,_⟩:=hd;LR.of hR
section
variable{P:Program}{f:FuncId}{n:Nat}{R:Ending→World→Prop}{G:cQ}{k:List Item}{L:fY}{H:List HP}{S:World→Prop}{all:Array Oper}{rest:Pl}
def vt{bd:Nat}{A:Ab}(i:Nat)(hi:cM H i=some (aE bd A))(h:LR A→K P f n R G k L H):K P f n R G k L H :=
 sK fun⟨w,hw⟩=>by obtain⟨h1,hA⟩:=DL hw hi;exact h (GP hA)
def LK{bd:Nat}{A:Ab}(i:Nat)(hi:cM H i=some (aE bd A))(h:LR A→J P f n R G S all rest k L H):J P f n R G S all rest k L H :=
 AS fun w hw=>by obtain⟨h1,hA⟩:=DL hw hi;exact h (GP hA)
end
attribute [local irreducible] aE
def eR(bd:Nat)(q:Int)(mb:Nat)(brk:Bool):List Value:=[ptr bd,.int .i64 q,.map (some mb),.bool brk]
def oO(kind:List UInt8)(d:Dg)(hk:kind.length≤1000):aD Tryz.prog 78 [.string (strOf kind),dV d] [] (fun r H=>r = .string (dv kind d)∧H=[]):=by
 have ht:=RM d
 unfold dV at ht ⊢
 refine aD.aw Tryz.func78 Tryz.ntmps78 fun G F R hE=>?_
 refine aB rfl ?_
 refine bG zr zr bE ?_
 intro b3
 refine go ?_
 refine aH (U:=aR) (l:=dC d) 0 zr zr zr zr zr zr ?_
 refine aN ht ?_
 refine AQ zr zr zr (by show kind.length+(ir d).length≤_;rw[kZ];omega) ?_
 ((refine az 8 ((.string (dv kind d))) rfl ((congrArg Value.string (by unfold dv strOf;apply ByteArray.ext;simp))) ?_))
 refine go ?_
 refine ad hE Tryz.func78 zr zr ⟨rfl,rfl⟩
def Gw(o:Option Dg):Value:=match o with
 | none => .tuple #[dV Dg.zero,.bool false]
 | some d => .tuple #[dV d,.bool true]
def Rn(s:ByteArray)(k:Nat):s.extract (0:Int).toNat (k:Int).toNat=strOf (s.data.toList.take k):=by
 unfold strOf
 apply ByteArray.ext
 apply Array.ext'
 simp_all
def Ro(s:ByteArray)(k:Nat):s.extract (k:Int).toNat (s.size:Int).toNat=strOf (s.data.toList.drop k):=by
 unfold strOf
 apply ByteArray.ext
 apply Array.ext'
 have:s.size=s.data.toList.length:=rfl
 rw[ByteArray.data_extract,this]
 simp
 rw[List.take_of_length_le (by simp)]
def Gv(kind:List UInt8)(nm:ByteArray)(hk:kind.length≤1000):aD Tryz.prog 115 [.string (strOf kind),.string nm] [] (fun r H=>r=Gw (j0 kind nm)∧H=[]):=by
 have Sw:(strOf kind).size=kind.length:=rfl
 have Sv:nm.size=nm.data.toList.length:=rfl
 refine aD.aw Tryz.func115 Tryz.ntmps115 fun G F R hE=>?_
 refine aB rfl ?_
 refine aC zr zr zr bE ?_
 intro b4
 have hN:¬kind.isPrefixOf nm.data.toList=true→j0 kind nm=none:=fun h=>by unfold j0;rw[if_neg h]
 have hP:kind.isPrefixOf nm.data.toList=true→j0 kind nm=kx (nm.data.toList.drop kind.length):=fun h=>by unfold j0;rw[if_pos h]
 have TX:kind.isPrefixOf nm.data.toList=true↔nm.data.toList.take kind.length=kind:=by
  rw[List.isPrefixOf_iff_prefix,List.prefix_iff_eq_take]
  exact eq_comm
 refine go ?_
 refine hJ zr zr zr zr ?_ ?_
 ·intro dJ
  have QY:=hN (fun h=>by rw[TX]at h;have:=congrArg List.length h;rw[List.length_take]at this;omega)
  rw[QY]at hE
  refine go ?_
  refine kK (U:=aR) zr zr zr zr zr (go ?_)
  (refine aZ hE ?_;apply aW (U:=aR) hE Tryz.func115 rfl (ak.refl _);(repeat(first|exact aQ.nil|apply aQ.tmp rfl|apply aQ.agg 0 zr zr zr zr zr));exact⟨rfl,rfl⟩;exact ah)
 ·intro fO
  have TS:(kind.length:Int)≤(nm.size:Int):=by omega
  refine go ?_
  refine AR (U:=aR) (p:=0) (q:=(kind.length:Int)) zr zr zr zr zr zr (Int.le_refl _) (Int.natCast_nonneg _) TS ?_
  refine az 17 ((.string (strOf (nm.data.toList.take kind.length)))) rfl ((congrArg Value.string (Rn nm kind.length))) (go ?_)
  refine bj 20 (.bool (!decide (nm.data.toList.take kind.length=kind))) rfl (by rw[Cx]) ?_
  by_cases hp:nm.data.toList.take kind.length=kind
  ·rw[decide_eq_true hp]
   have hh:=hP (TX.2 hp)
   rw[hh]at hE
   refine go ?_
   refine AR (U:=aR) (p:=(kind.length:Int)) (q:=(nm.size:Int)) zr zr zr zr zr zr (Int.natCast_nonneg _) TS (Int.le_refl _) ?_
   refine az 26 ((.string (strOf (nm.data.toList.drop kind.length)))) rfl ((congrArg Value.string (Ro nm kind.length))) ?_
   have acx:=Oa (strOf (nm.data.toList.drop kind.length))
   rw[sR]at acx
   refine aN acx ?_
   cases qg:kx (nm.data.toList.drop kind.length)with
   | none =>
    rw[qg]at hE
    simp only
    unfold dV
    refine go ?_
    refine aC zr zr zr bE ?_
    intro b6
    refine go ?_
    refine aH (U:=aR) (l:=dC Dg.zero) 0 zr zr zr zr zr zr (go ?_)
    (refine aZ hE ?_;apply aW (U:=aR) hE Tryz.func115 rfl (ak.refl _);(repeat(first|exact aQ.nil|apply aQ.tmp rfl|apply aQ.agg 1 zr zr zr zr zr));exact⟨rfl,rfl⟩;exact ah)
   | some d =>
    rw[qg]at hE
    simp only
    unfold dV
    refine go ?_
    refine aC zr zr zr bE ?_
    intro b6
    refine go ?_
    refine aH (U:=aR) (l:=dC d) 0 zr zr zr zr zr zr (go ?_)
    (refine aZ hE ?_;apply aW (U:=aR) hE Tryz.func115 rfl (ak.refl _);(repeat(first|exact aQ.nil|apply aQ.tmp rfl|apply aQ.agg 1 zr zr zr zr zr));exact⟨rfl,rfl⟩;exact ah)
  ·rw[decide_eq_false hp]
   have QY:=hN (fun h=>hp (TX.1 h))
   rw[QY]at hE
   refine go ?_
   refine kK (U:=aR) zr zr zr zr zr (go ?_)
   (refine aZ hE ?_;apply aW (U:=aR) hE Tryz.func115 rfl (ak.refl _);(repeat(first|exact aQ.nil|apply aQ.tmp rfl|apply aQ.agg 0 zr zr zr zr zr));exact⟨rfl,rfl⟩;exact ah)
def Pv(A:Ab)(nm:ByteArray):decide (((A.size nm).2:Int)=0)=pK A nm:=by
 unfold Ab.size pK
 cases A.look nm <;> rfl
def QF(bs bd:Nat)(q:Int)(mb:Nat)(brk:Bool)(A:Ab)(nm:ByteArray):aD Tryz.prog 79 [ptr bs,.string nm] [ae bs (cl (eR bd q mb brk) 113),aE bd A]
  (fun r H=>r = .bool (pK A nm)∧H=[ae bs (cl (eR bd q mb brk) 113),aE bd A]):=by
 have hs:=Pv A nm
 refine aD.aw Tryz.func79 Tryz.ntmps79 fun G F R hE=>?_
 refine go ?_
 refine aN (vl bd A nm) ?_
 refine go ?_
 rw[← hs]at hE
 refine ad hE Tryz.func79 zr zr ⟨rfl,rfl⟩
def wP(bs bd:Nat)(q:Int)(mb:Nat)(brk:Bool)(A:Ab)(nm:ByteArray):aD Tryz.prog 101 [ptr bs,.string nm] [ae bs (cl (eR bd q mb brk) 113),aE bd A]
  (fun r H=>∃rv,r = .tuple #[rv,.bool (eN A nm).isSome]∧H=[aF 5 1 rv ((eN A nm).getD []).length (bV ((eN A nm).getD [])),ae bs (cl (eR bd q mb brk) 113),aE bd A]):=by
 refine aD.aw Tryz.func101 Tryz.ntmps101 fun G F R hE=>?_
 refine go ?_
 refine aN (vl bd A nm) ?_
 have hn:A.look nm=none→eN A nm=none∧A.size nm=(0,4):=fun h=>by unfold eN Ab.size;rw[h];exact⟨rfl,rfl⟩
 have hr:∀f,A.look nm=some f→A.size nm=((A.now f).length,0)∧A.read nm 0 ((A.now f).length:Int)=((eN A nm).getD [],if(eN A nm).isSome then 0 else 7):=fun f h=>by
  unfold eN Ab.size Ab.read
  rw[h]
  cases iw:A.off with
  | true=>exact⟨rfl,rfl⟩
  | false =>
   simp_all
 cases hl:A.look nm with
 | none =>
  obtain⟨h1,h2⟩:=hn hl
  rw[h2]
  rw[h1]at hE
  simp only
  refine go ?_
  refine ai (bK 5 1 none _) ?_
  refine ad hE Tryz.func101 zr zr ⟨_,rfl,rfl⟩
 | some f =>
  obtain⟨h1,h2⟩:=hr f hl
  rw[h1]
  simp only
  have yq:=Ed bd A nm 0 ((A.now f).length:Int)
  rw[h2]at yq
  refine go ?_
  refine aI yq ?_
  rintro _ _⟨r,rfl,rfl⟩
  generalize eN A nm=o at hE ⊢
  cases o with
  | none =>
   refine go ?_
   refine ad hE Tryz.func101 zr zr ⟨_,rfl,rfl⟩
  | some b =>
   refine go ?_
   refine ad hE Tryz.func101 zr zr ⟨_,rfl,rfl⟩
end Go.Proofs.YthnfckodljbgbaaGreatDoor
namespace Go.SL
open Go
namespace Sha
def C8(c:UInt8)(k:Nat)(hk:k≤24):(wB c <<< k).toNat=c.toNat*2 ^ k:=by
 have:=c.toNat_lt
 rw[BitVec.toNat_shiftLeft,sN,Nat.shiftLeft_eq]
 have h2:2 ^ k≤2 ^ 24:=Nat.pow_le_pow_right ag hk
 rw[Nat.mod_eq_of_lt]
 calc c.toNat*2 ^ k<2 ^ 8*2 ^ 24:=Nat.mul_lt_mul_of_lt_of_le ag h2 (Nat.pow_pos ag)
  _=2 ^ 32:=by decide
theorem O6(a b c d:Nat)(ha:a<256)(hb:b<256)(hc:c<256)(hd:d<256):((a*2 ^ 24 ||| b*2 ^ 16) ||| c*2 ^ 8) ||| d=((a*256+b)*256+c)*256+d:=by
 have e1:a*2 ^ 24 ||| b*2 ^ 16=(a*256+b)*2 ^ 16:=by
  rw[Nat.or_comm,py (k:=24) ag];omega
 have e2:(a*256+b)*2 ^ 16 ||| c*2 ^ 8=((a*256+b)*256+c)*2 ^ 8:=by
  rw[Nat.or_comm,py (k:=16) ag];omega
 have e3:((a*256+b)*256+c)*2 ^ 8 ||| d=((a*256+b)*256+c)*256+d:=by
  rw[Nat.or_comm,py (k:=8) ag];omega
 grind
theorem O7(a b c d:UInt8):wB a*16777216#32+wB b*65536#32+wB c*256#32+wB d=(wB a <<< 24 ||| wB b <<< 16 ||| wB c <<< 8 ||| wB d:jR):=by
 have ha:=a.toNat_lt;have hb:=b.toNat_lt;have hc:=c.toNat_lt;have hd:=d.toNat_lt
 apply BitVec.eq_of_toNat_eq
 rw[BitVec.toNat_or,BitVec.toNat_or,BitVec.toNat_or,C8 _ 24 ag,C8 _ 16 ag,C8 _ 8 ag,sN,O6 _ _ _ _ ha hb hc hd,
  BitVec.toNat_add,BitVec.toNat_add,BitVec.toNat_add,BitVec.toNat_mul,BitVec.toNat_mul,BitVec.toNat_mul,sN,sN,sN,sN,BitVec.toNat_ofNat,BitVec.toNat_ofNat,BitVec.toNat_ofNat]
 grind
end Sha
end Go.SL
namespace Go.Proofs.YthnfckodljbgbaaGreatDoor
open Go Go.SL
attribute [local irreducible] J K aD Ends ae aF aL bU bo aU bh bq cg
def gB(x:jR)(n:Nat)(h1:1≤n)(h2:n≤31):aD Tryz.prog 172 [u32 x,.int .u64 (n:Int)] [] (fun r H=>r=u32 (Sha.vH x n)∧H=[]):=by
 unfold u32
 rw[← Sha.S0 x n h1 h2]
 refine aD.aw Tryz.func172 Tryz.ntmps172 fun G F R hE=>?_
 refine go ?_
 refine qY n zr zr zr zr ag (go ?_)
 refine az 10 ((.int .u64 ((32-n:Nat):Int))) rfl ((congrArg (Value.int .u64) ag)) ?_
 refine Ka (32-n) zr zr zr zr ag ?_
 refine jC zr zr zr (go ?_)
 refine ad hE Tryz.func172 zr zr ⟨rfl,rfl⟩
def SP(a b c:jR):aD Tryz.prog 173 [u32 a,u32 b,u32 c] [] (fun r H=>r=u32 (Sha.maj a b c)∧H=[]):=by
 unfold u32
 rw[← Sha.Tp a b c]
 refine aD.aw Tryz.func173 Tryz.ntmps173 fun G F R hE=>?_
 refine go ?_
 (repeat(first|refine eZ ?_|refine En zr zr zr ?_|refine Hv zr zr zr ?_))
 refine ad hE Tryz.func173 zr zr ⟨rfl,rfl⟩
def Bs:aD Tryz.prog 171 [] [] (fun r H=>r = .agg (wV Sha.ks).toArray∧H=[]):=by
 refine aD.aw Tryz.func171 Tryz.ntmps171 fun G F R hE=>?_
 refine aB rfl ?_
 refine aC zr zr zr bE ?_
 intro b0
 refine ln ?_
 refine aB rfl ?_
 refine nj (U:=aR) (cs:=wV Sha.ks) zr zr zr zr zr zr ?_
 refine cH (U:=aR) (l':=wV Sha.ks) 0 gf zr zr zr zr (by decide) (fM _) zr zr zr (go ?_)
 refine jY (U:=aR) 0 hE Tryz.func171 zr zr zr zr zr zr zr ⟨rfl,rfl⟩ ah
theorem E9(b:List UInt8)(t:Nat)(h:t<16):(Sha.eX b t).set t (Sha.word b t)=Sha.eX b (t+1):=by
 unfold Sha.eX
 rw[List.set_append_right _ _ (by rw[Sha.eG];exact Nat.le_refl _),Sha.eG,Nat.sub_self,show 64-t=(64-(t+1))+1 from by omega,List.replicate_succ,List.set_cons_zero]
 conv=>rhs;unfold Sha.sched
 grind
attribute [local irreducible] Sha.chunks Sha.chunk Sha.rounds Sha.sched dW
theorem LV(A:HP)(v:Value)(b:List UInt8)(hv:eO A v b)(SF:64≤b.length) :
  aD Tryz.prog 170 [v] [A] (fun r H=>r = .agg (wV (Sha.sched b 64)).toArray∧H=[A]):=by
 obtain⟨a,c,rfl,hc⟩:=hv.2
 refine aD.aw Tryz.func170 Tryz.ntmps170 fun G F R hE=>?_
 refine aB rfl ?_
 refine aC zr zr zr bE ?_
 intro b2
 refine ln ?_
 (refine aB rfl ?_;refine ln ?_)
 refine aC zr zr zr bE ?_
 intro b3
 refine go ?_
 have hz:Sha.eX b 0=List.replicate 64 0:=by unfold Sha.eX;unfold Sha.sched;rfl
 refine bB (fun t:Nat=>t≤16) (fun t=>16-t)
  (fun t=>[(0,.slice a b.length c),(2,ptr b2),(3,ptr b3),(4,.int .i64 (t:Int))])
  (fun t=>ae b3 (cl (wV (Sha.eX b t)) 209)::ae b2 (cl (wV (List.replicate 64 0)) 209)::A::F) 0 (Nat.zero_le _) rfl ck (by rw[hz];exact ah) ?_
 rintro t ht ih
 have hlen:=Sha.sU b t ag
 refine go ?_
 refine au zr zr ?_ ?_
 ·intro dJ
  have rU:t<16:=by omega
  obtain⟨bb,oo,cc,fL⟩:=hv.1.some (by intro e;have:=congrArg List.length e;rw[bM,List.length_nil]at this;omega)
  simp only[Value.slice.injEq,true_and]at fL
  obtain⟨rfl,rfl⟩:=fL
  have hg:∀j,j<4→(bV b)[4*t+j]?=some (u8 (b.getD (4*t+j) 0)):=fun j hj=>pP (by rw[List.getD_eq_getElem?_getD,List.getElem?_eq_getElem ag];rfl)
  have jA:=E9 b t rU
  have hw:wB (b.getD (4*t+0) 0)*16777216#32+wB (b.getD (4*t+1) 0)*65536#32+wB (b.getD (4*t+2) 0)*256#32+wB (b.getD (4*t+3) 0)=Sha.word b t:=Sha.O7 _ _ _ _
  have g0:=hg 0 ag
  have g1:=hg 1 ag
  have g2:=hg 2 ag
  have g3:=hg 3 ag
  generalize b.getD (4*t+0) 0=x0 at hw g0
  generalize b.getD (4*t+1) 0=x1 at hw g1
  generalize b.getD (4*t+2) 0=x2 at hw g2
  generalize b.getD (4*t+3) 0=x3 at hw g3
  refine go ?_
  refine aG (fun w=>Sat G w ([A])) (dj 0 35 (.act 35 .nil)) rfl aq aq aq eo ?_
  refine go ?_
  (refine go ?_;refine iA zr zr zr (by simp only[gy];omega) ?_;refine go ?_;refine bR (4*t+0) zr zr zr zr zr zr zr ag ag ?_;refine aK ?_;refine bW 0 (4*t+0) zr zr zr hv.1 rfl g0 zr zr ?_;refine fb ?_;refine qX (U:=aR) zr zr zr zr zr zr ?_)
  refine Kb (q:=16777216#32) zr zr zr ?_
  (refine go ?_;refine iA zr zr zr (by simp only[gy];omega) ?_;refine go ?_;refine bR (4*t+1) zr zr zr zr zr zr zr ag ag ?_;refine aK ?_;refine bW 0 (4*t+1) zr zr zr hv.1 rfl g1 zr zr ?_;refine fb ?_;refine qX (U:=aR) zr zr zr zr zr zr ?_)
  refine Kb (q:=65536#32) zr zr zr ?_
  refine kL zr zr zr ?_
  (refine go ?_;refine iA zr zr zr (by simp only[gy];omega) ?_;refine go ?_;refine bR (4*t+2) zr zr zr zr zr zr zr ag ag ?_;refine aK ?_;refine bW 0 (4*t+2) zr zr zr hv.1 rfl g2 zr zr ?_;refine fb ?_;refine qX (U:=aR) zr zr zr zr zr zr ?_)
  refine Kb (q:=256#32) zr zr zr ?_
  refine kL zr zr zr ?_
  (refine go ?_;refine iA zr zr zr (by simp only[gy];omega) ?_;refine go ?_;refine bR (4*t+3) zr zr zr zr zr zr zr ag ag ?_;refine aK ?_;refine bW 0 (4*t+3) zr zr zr hv.1 rfl g3 zr zr ?_;refine fb ?_;refine qX (U:=aR) zr zr zr zr zr zr ?_)
  refine kL zr zr zr ?_
  rw[hw]
  refine eE (U:=aR) t zr zr zr zr zr zr zr zr ag ?_
  refine aV ?_
  refine hG (U:=aR) 0 gf zr zr zr zr zr zr zr (by rw[lT,hlen];omega) rfl ?_
  rw[show 0+t=t from Nat.zero_add _]
  refine go ?_
  have Gc:=(yK (Sha.eX b t) t _).trans (congrArg wV jA)
  refine ai (H':=ae b3 (cl (wV (Sha.eX b (t+1))) 209)::ae b2 (cl (wV (List.replicate 64 0)) 209)::A::F) (by rw[← Gc];exact ak.refl _) ?_
  refine aM ih (t+1) rfl ag ag ck ah
 intro fO
 have aeo:t=16:=by omega
 subst aeo
 clear ih
 refine go ?_
 refine bB (fun t:Nat=>16≤t∧t≤64) (fun t=>64-t)
  (fun t=>[(2,ptr b2),(3,ptr b3),(5,.int .i64 (t:Int))])
  (fun t=>ae b3 (cl (wV (Sha.eX b t)) 209)::ae b2 (cl (wV (List.replicate 64 0)) 209)::A::F) 16 ⟨ag,ag⟩ rfl ck ah ?_
 rintro t⟨rU,Zn⟩ ih
 have hlen:=Sha.sU b t Zn
 refine go ?_
 refine au zr zr ?_ ?_
 ·intro dJ
  have ht:t<64:=by omega
  have g2:=Sha.iO b t (t-2) ag
  have g7:=Sha.iO b t (t-7) ag
  have g15:=Sha.iO b t (t-15) ag
  have g16:=Sha.iO b t (t-16) ag
  have kV:=Sha.xr b t rU ht
  generalize (Sha.sched b t).getD (t-2) 0=y2 at g2 kV
  generalize (Sha.sched b t).getD (t-7) 0=y7 at g7 kV
  generalize (Sha.sched b t).getD (t-15) 0=y15 at g15 kV
  generalize (Sha.sched b t).getD (t-16) 0=y16 at g16 kV
  have ade:y16+y7+(Sha.vH y15 7 ^^^ Sha.vH y15 18 ^^^ y15 >>> 3)+(Sha.vH y2 17 ^^^ Sha.vH y2 19 ^^^ y2 >>> 10)=y16+y7+Sha.s1 y2+Sha.s0 y15:=by
   show y16+y7+Sha.s0 y15+Sha.s1 y2=_
   grind
  refine go ?_
  refine eE (U:=aR) (t-15) zr zr zr zr zr zr zr ag ag ?_
  refine aK ?_
  refine ni (U:=aR) 0 (t-15) zr zr zr (Nat.zero_add _) (iL g15) zr zr (go ?_)
  refine eE (U:=aR) (t-2) zr zr zr zr zr zr zr ag ag ?_
  refine aK ?_
  refine ni (U:=aR) 0 (t-2) zr zr zr (Nat.zero_add _) (iL g2) zr zr (go ?_)
  refine aG (fun w=>Sat G w ([ae b3 (cl (wV (Sha.eX b t)) 209)])) (dj 0 11 (.st 12 (.st 15 (.st 16 (.st 19 (.st 21 (.st 24 (.st 25 (.act 11 (.act 13 (.st 14 (.st 17 (.st 18 (.act 20 (.act 22 (.st 23 (dj 26 3 (.act 29 .nil)))))))))))))))))) rfl aq aq aq eo ?_
  refine go ?_
  refine eE (U:=aR) (t-16) zr zr zr zr zr zr zr ag ag ?_
  refine aK ?_
  refine e9 (U:=aR) 0 (t-16) zr zr zr (Nat.zero_add _) (iL g16) zr zr (go ?_)
  refine eE (U:=aR) (t-7) zr zr zr zr zr zr zr ag ag ?_
  refine aK ?_
  refine e9 (U:=aR) 0 (t-7) zr zr zr (Nat.zero_add _) (iL g7) zr zr ?_
  refine kL zr zr zr (go ?_)
  refine qY 3 zr zr zr zr ag (go ?_)
  refine qY 10 zr zr zr zr ag ?_
  refine bp ((gB y15 7 ag ag)) ?_
  refine bp ((gB y15 18 ag ag)) ?_
  refine jC zr zr zr ?_
  refine jC zr zr zr ?_
  refine kL zr zr zr ?_
  refine bp ((gB y2 17 ag ag)) ?_
  refine bp ((gB y2 19 ag ag)) ?_
  refine jC zr zr zr ?_
  refine jC zr zr zr ?_
  refine kL zr zr zr ?_
  rw[ade]
  refine eE (U:=aR) t zr zr zr zr zr zr zr zr ag ?_
  refine aV ?_
  refine hG (U:=aR) 0 gf zr zr zr zr zr zr zr (by rw[lT,hlen];omega) rfl ?_
  rw[show 0+t=t from Nat.zero_add _]
  refine go ?_
  have Gc:=(yK (Sha.eX b t) t _).trans (congrArg wV kV)
  refine ai (H':=ae b3 (cl (wV (Sha.eX b (t+1))) 209)::ae b2 (cl (wV (List.replicate 64 0)) 209)::A::F) (by rw[← Gc];exact ak.refl _) ?_
  refine aM ih (t+1) rfl ⟨ag,ag⟩ ag ck ah
 intro fO
 have I9:t=64:=by omega
 subst I9
 rw[Sha.zb]
 have GD:(wV (Sha.sched b 64)).length=64:=by rw[lT,Sha.eG]
 have fq:iV (wV (Sha.sched b 64))=true:=fM _
 generalize wV (Sha.sched b 64)=W at GD fq hE ⊢
 refine go ?_
 refine aH (U:=aR) 0 zr zr zr zr zr GD ?_
 refine cH (U:=aR) 1 gf rfl rfl rfl GD (by intro e;rw[e]at GD;cases GD) fq rfl (by rw[GD];simp[lT]) rfl ?_
 refine go ?_
 refine jY (U:=aR) 1 hE Tryz.func170 zr zr zr zr zr GD rfl ⟨rfl,rfl⟩ ah
end Go.Proofs.YthnfckodljbgbaaGreatDoor
namespace Go.SL
open Go
namespace Sha
def kX(n o:List jR)(i:Nat):List jR:=(List.zipWith (· + ·) n o).take i++n.drop i
theorem NU{n o:List jR}{k i:Nat}(hn:n.length=k)(ho:o.length=k)(hi:i≤k):(kX n o i).length=k:=by
 grind [kX]
theorem NV{n o:List jR}{k i:Nat}(hn:n.length=k)(ho:o.length=k)(hi:i<k):(kX n o i)[i]?=some (n.getD i 0):=by
 grind [kX]
theorem NT{n o:List jR}{k i:Nat}(hn:n.length=k)(ho:o.length=k)(hi:i<k):(kX n o i).set i (n.getD i 0+o.getD i 0)=kX n o (i+1):=by
 unfold kX
 have h1:((List.zipWith (· + ·) n o).take i).length=i:=by rw[List.length_take,List.length_zipWith];omega
 rw[List.set_append_right _ _ ag,h1,Nat.sub_self,List.take_add_one]
 have h2:n.drop i=n[i]::n.drop (i+1):=List.drop_eq_getElem_cons ag
 grind
def NW(s t:St):kX t.l s.l 8=(plus s t).l:=by
 unfold kX
 simp only[St.l,plus,List.zipWith_cons_cons,List.zipWith_nil_left,List.take_succ_cons,List.take_zero,List.drop_succ_cons,List.drop_zero,List.append_nil,BitVec.add_comm]
end Sha
end Go.SL
namespace Go.Proofs.YthnfckodljbgbaaGreatDoor
open Go Go.SL
attribute [local irreducible] J K aD Ends ae aF aL bU bo aU bh bq cg Sha.chunks Sha.chunk Sha.rounds Sha.sched dW Sha.kX
def NI(A:HP)(v:Value)(b:List UInt8)(hv:eO A v b)(SF:64≤b.length)(s:Sha.St) :
  aD Tryz.prog 111 [Sn s,v] [A] (fun r H=>r=Sn (Sha.chunk s b)∧H=[A]):=by
 have hwd:=LV A v b hv SF
 obtain⟨a,c,rfl,hc⟩:=hv.2
 have eW:(Sha.sched b 64).length=64:=Sha.eG b 64
 have Gt:Sha.chunk s b=Sha.plus s (Sha.rounds s (Sha.sched b 64) 64):=by unfold Sha.chunk;rfl
 rw[Gt]
 generalize Sha.sched b 64=W at hwd eW ⊢
 have Nb:∀s:Sha.St,(wV s.l).length=8:=fun s=>rfl
 have acT:∀s:Sha.St,s.l.length=8:=fun s=>rfl
 have hWV:(wV W).length=64:=by rw[lT];exact eW
 have TO:∀s:Sha.St,wV s.l≠[]:=fun s e=>by have:=congrArg List.length e;rw[Nb]at this;cases this
 unfold Sn
 refine aD.aw Tryz.func111 Tryz.ntmps111 fun G F R hE=>?_
 refine aB rfl ?_
 refine bG zr zr bE ?_
 intro b2
 refine aC zr zr zr bE ?_
 intro b4
 refine go ?_
 refine aN hwd ?_
 refine aC zr zr zr bE ?_
 intro b5
 refine aV ?_
 refine cH (U:=aR) (l':=wV W) 0 gf rfl rfl rfl hWV (by intro e;rw[e]at hWV;cases hWV) (fM _) rfl (by rw[hWV];rfl) rfl ?_
 refine go ?_
 refine aN Bs ?_
 refine aC zr zr zr bE ?_
 intro b6
 refine aV ?_
 refine cH (U:=aR) (l':=wV Sha.ks) 0 gf zr zr zr zr (by decide) (fM _) zr zr zr (go ?_)
 refine aJ (H':=ae b2 (cl (wV s.l) 151)::ae b6 (cl (wV Sha.ks) 209)::ae b5 (cl (wV W) 209)::ae b4 (cl (wV (List.replicate 8 0)) 151)::A::F) ah ?_
 refine aH (U:=aR) (l:=wV s.l) 0 zr zr zr zr zr zr ?_
 refine aC zr zr zr bE ?_
 intro b7
 refine aV ?_
 refine cH (U:=aR) (l':=wV s.l) 0 gf zr zr zr zr (TO s) (fM _) zr zr zr (go ?_)
 refine bB (fun t:Nat=>t≤64) (fun t=>64-t)
  (fun t=>[(2,ptr b2),(4,ptr b4),(5,ptr b5),(6,ptr b6),(7,ptr b7),(8,.int .i64 (t:Int))])
  (fun t=>ae b7 (cl (wV (Sha.rounds s W t).l) 151)::ae b2 (cl (wV s.l) 151)::ae b6 (cl (wV Sha.ks) 209)::ae b5 (cl (wV W) 209)::ae b4 (cl (wV (List.replicate 8 0)) 151)::A::F) 0 (Nat.zero_le _) rfl ck (by unfold Sha.rounds;exact ah) ?_
 rintro t ht ih
 refine go ?_
 refine au zr zr ?_ ?_
 ·intro dJ
  have rU:t<64:=by omega
  have hr:Sha.rounds s W (t+1)=Sha.round (Sha.rounds s W t) (Sha.ks.getD t 0) (W.getD t 0):=by conv=>lhs;unfold Sha.rounds
  generalize Sha.rounds s W t=T at hr ⊢
  obtain⟨ta,tb,tc,td,te,tf,tg,th⟩:=T
  have MZ:(wV W)[t]?=some (u32 (W.getD t 0)):=iL (by rw[List.getD_eq_getElem?_getD,List.getElem?_eq_getElem ag];rfl)
  have hkg:=iL (Qz rU)
  generalize Sha.ks.getD t 0=kt at hr hkg
  generalize W.getD t 0=wt at hr MZ
  rw[show wV (Sha.St.l ⟨ta,tb,tc,td,te,tf,tg,th⟩)=[u32 ta,u32 tb,u32 tc,u32 td,u32 te,u32 tf,u32 tg,u32 th]from rfl]
  have Zr:wV (Sha.rounds s W (t+1)).l=[u32 (th+(Sha.vH te 6 ^^^ Sha.vH te 11 ^^^ Sha.vH te 25)+(te &&& tf ||| ~~~te &&& tg)+kt+wt+((Sha.vH ta 2 ^^^ Sha.vH ta 13 ^^^ Sha.vH ta 22)+Sha.maj ta tb tc)),u32 ta,u32 tb,u32 tc,u32 (td+(th+(Sha.vH te 6 ^^^ Sha.vH te 11 ^^^ Sha.vH te 25)+(te &&& tf ||| ~~~te &&& tg)+kt+wt)),u32 te,u32 tf,u32 tg]:=by
   rw[hr,Sha.aam];rfl
  clear hr
  refine go ?_
  (repeat(first|refine eZ ?_|refine ju zr zr zr zr zr zr ag ag ?_))
  refine aG (fun w=>Sat G w ([ae b7 (cl [u32 ta,u32 tb,u32 tc,u32 td,u32 te,u32 tf,u32 tg,u32 th] 151),ae b6 (cl (wV Sha.ks) 209),ae b5 (cl (wV W) 209)])) (dj 0 3 (.st 4 (.st 7 (dj 11 10 (dj 22 3 (dj 26 3 (.act 3 (.act 5 (.st 6 (.act 8 (.st 9 (.st 10 (.st 21 (.st 25 (.st 29 (.st 30 .nil)))))))))))))))) rfl aq aq aq eo ?_
  refine go ?_
  (repeat(first|refine eZ ?_|refine eE (U:=aR) t zr zr zr zr zr zr zr zr rU ?_|refine ju zr zr zr zr zr zr ag ag ?_|refine En zr zr zr ?_|refine aaA zr zr ?_|refine Hv zr zr zr ?_|(refine aK ?_;first|refine e9 (U:=aR) 1 t zr zr zr (Nat.zero_add _) hkg zr zr ?_|refine e9 (U:=aR) 2 t zr zr zr (Nat.zero_add _) MZ zr zr ?_)))
  refine bp ((gB te 6 ag ag)) ?_
  refine bp ((gB te 11 ag ag)) ?_
  refine jC zr zr zr ?_
  refine bp ((gB te 25 ag ag)) ?_
  (repeat(first|refine eZ ?_|refine jC zr zr zr ?_|refine kL zr zr zr ?_))
  refine aG (fun w=>Sat G w ([ae b7 (cl [u32 ta,u32 tb,u32 tc,u32 td,u32 te,u32 tf,u32 tg,u32 th] 151)])) (.st 0 (.st 2 (.st 5 (dj 8 5 (.act 1 (.act 3 (.st 4 (.act 6 (.st 7 (.act 13 (.st 14 (.st 15 .nil)))))))))))) rfl aq aq aq eo ?_
  refine go ?_
  (repeat(first|refine eZ ?_|refine ju zr zr zr zr zr zr ag ag ?_))
  refine bp ((gB ta 2 ag ag)) ?_
  refine bp ((gB ta 13 ag ag)) ?_
  refine jC zr zr zr ?_
  refine bp ((gB ta 22 ag ag)) ?_
  refine jC zr zr zr ?_
  refine bp ((SP ta tb tc)) ?_
  refine kL zr zr zr ?_
  (repeat(first|refine eZ ?_|refine ju zr zr zr zr zr zr ag ag ?_|refine kL zr zr zr ?_))
  refine nj (U:=aR) (cs:=wV (Sha.rounds s W (t+1)).l) zr zr zr zr zr (by rw[Zr];rfl) ?_
  refine aV ?_
  refine cH (U:=aR) (l':=wV (Sha.rounds s W (t+1)).l) 0 gf zr zr zr zr (TO _) (fM _) zr zr zr (go ?_)
  refine aM ih (t+1) rfl ag ag ck ah
 intro fO
 have I9:t=64:=by omega
 subst I9
 clear ih
 rw[← Sha.NW]at hE
 generalize Sha.rounds s W 64=T at hE ⊢
 refine go ?_
 have hT8:=acT T
 have hs8:=acT s
 refine bB (fun i:Nat=>i≤8) (fun i=>8-i)
  (fun i=>[(2,ptr b2),(4,ptr b4),(7,ptr b7),(13,.int .i64 (i:Int))])
  (fun i=>ae b7 (cl (wV (Sha.kX T.l s.l i)) 151)::ae b2 (cl (wV s.l) 151)::ae b4 (cl (wV (List.replicate 8 0)) 151)::A::F) 0 (Nat.zero_le _) rfl ck (by unfold Sha.kX;exact ah) ?_
 rintro i hi ih
 have SC:=Sha.NU hT8 hs8 hi
 refine go ?_
 refine au zr zr ?_ ?_
 ·intro dJ
  have H9:i<8:=by omega
  have Sz:=Sha.NV hT8 hs8 H9
  have Q':s.l[i]?=some (s.l.getD i 0):=by rw[List.getD_eq_getElem?_getD,List.getElem?_eq_getElem ag];rfl
  have jA:=Sha.NT hT8 hs8 H9
  generalize T.l.getD i 0=x at Sz jA
  generalize s.l.getD i 0=y at Q' jA
  refine go ?_
  refine aG (fun w=>Sat G w ([ae b7 (cl (wV (Sha.kX T.l s.l i)) 151),ae b2 (cl (wV s.l) 151)])) (dj 0 9 (.act 9 .nil)) rfl aq aq aq eo ?_
  refine go ?_
  (repeat(first|refine eZ ?_|refine eE (U:=aR) i zr zr zr zr zr zr zr zr H9 ?_|(refine aK ?_;first|refine e9 (U:=aR) 0 i zr zr zr (Nat.zero_add _) (iL Sz) zr zr ?_|refine e9 (U:=aR) 1 i zr zr zr (Nat.zero_add _) (iL Q') zr zr ?_)|refine kL zr zr zr ?_))
  refine aV ?_
  refine hG (U:=aR) 0 gf zr zr zr zr zr zr zr (by rw[lT,SC];omega) rfl ?_
  rw[show 0+i=i from Nat.zero_add _]
  refine go ?_
  have Gc:=(yK (Sha.kX T.l s.l i) i _).trans (congrArg wV jA)
  refine ai (H':=ae b7 (cl (wV (Sha.kX T.l s.l (i+1))) 151)::ae b2 (cl (wV s.l) 151)::ae b4 (cl (wV (List.replicate 8 0)) 151)::A::F) (by rw[← Gc];exact ak.refl _) ?_
  refine aM ih (i+1) rfl ag ag ck ah
 intro fO
 have H9:i=8:=by omega
 subst H9
 clear ih
 have fq:=fM (Sha.kX T.l s.l 8)
 have hXl:(wV (Sha.kX T.l s.l 8)).length=8:=by rw[lT];exact SC
 generalize wV (Sha.kX T.l s.l 8)=X at fq hXl hE ⊢
 refine go ?_
 refine aH (U:=aR) 0 zr zr zr zr zr hXl ?_
 refine cH (U:=aR) 2 gf rfl rfl rfl hXl (by intro e;rw[e]at hXl;cases hXl) fq rfl (by rw[hXl];rfl) rfl ?_
 refine go ?_
 refine jY (U:=aR) 2 hE Tryz.func111 zr zr zr zr zr hXl rfl ⟨rfl,rfl⟩ ah
end Go.Proofs.YthnfckodljbgbaaGreatDoor
namespace Go.Proofs.YthnfckodljbgbaaGreatDoor
open Go Go.SL
attribute [local irreducible] J K aD Ends ae aF aL bU bo aU bh bq cg Sha.chunks Sha.chunk Sha.rounds Sha.sched dW
theorem LB(A:HP)(v:Value)(b:List UInt8)(hv:eO A v b)(hl:b.length≤1000000000) :
  aD Tryz.prog 56 [v] [A] (fun r H=>r=dV (dW b)∧H=[A]):=by
 obtain⟨a,c,rfl,hc⟩:=hv.2
 refine aD.aw Tryz.func56 Tryz.ntmps56 fun G F R hE=>?_
 refine aB rfl ?_
 refine aC zr zr zr bE ?_
 intro b2
 refine ln ?_
 (refine aB rfl ?_;refine ln ?_)
 refine ao (cs:=[]) zr zr zr zr zr zr zr zr zr bE ?_
 intro b0
 refine go ?_
 (refine aJ (eS 5 1 b0 0 0 [] [] _ rfl (Nat.le_refl _) (by simp)) ?_;refine aT (mm:=(b).length) (news:=bV (b)) 0 2 zr zr zr zr zr zr zr zr zr zr zr zr (hv.1) (by show _=_*1;rw[bM];omega) (db _) ag (by show(_+_)*1≤_;omega) (fun _=>rfl) bE ?_;intro vA;rw[Nat.zero_add,List.nil_append];((refine aP 0 rfl ?_));rintro aA cA rfl)
 refine go ?_
 (refine ao (cs:=bV [(128:UInt8)]) zr zr zr zr zr zr zr zr zr bE ?_;intro bA;refine aT (mm:=1) (news:=bV [(128:UInt8)]) 1 0 zr zr zr zr zr zr zr zr zr zr zr zr (Vw.ae rfl) rfl (db _) ag (by show(_+_)*1≤_;omega) (fun _=>rfl) bE ?_;intro vA;rw[show bV (b)++bV [(128:UInt8)]=bV ((b)++[(128:UInt8)])from by simp[bV],show(b).length+1=((b)++[(128:UInt8)]).length from(@List.length_append _ (b) [(128:UInt8)]).symm];((refine aP 1 rfl ?_));rintro aA cA rfl)
 refine go ?_
 obtain⟨z,hz⟩:∃z,z=(119-b.length%64)%64:=⟨_,rfl⟩
 have Ze:(b.length+1+z)%64=56:=by omega
 have Va:z<64:=by omega
 have mT:∀j:Nat,(b++128::List.replicate j (0:UInt8)).length=b.length+1+j:=fun j=>by simp;omega
 refine bB (fun y:Nat × Option Addr × Nat=>y.1≤z) (fun y=>z-y.1)
  (fun y=>[(0,.slice a b.length c),(2,ptr b2),(3,.slice y.2.1 (b++128::List.replicate y.1 (0:UInt8)).length y.2.2)])
  (fun y=>aF 5 1 (.slice y.2.1 (b++128::List.replicate y.1 (0:UInt8)).length y.2.2) (b++128::List.replicate y.1 (0:UInt8)).length (bV (b++128::List.replicate y.1 (0:UInt8)))::A::ae b2 (cl (dC Dg.zero) 37)::F) (0,aA,cA) (Nat.zero_le _) rfl ck ah ?_
 rintro⟨j,a2,c2⟩ hj ih
 simp only at hj
 have Bb:=mT j
 dsimp only
 refine go ?_
 refine nT zr zr zr ag ag (go ?_)
 refine au zr zr ?_ ?_
 ·intro df
  have hjz:j<z:=by
   grind
  refine go ?_
  (refine ao (cs:=bV [(0:UInt8)]) zr zr zr zr zr zr zr zr zr bE ?_;intro bA;refine aT (mm:=1) (news:=bV [(0:UInt8)]) 1 0 zr zr zr zr zr zr zr zr zr zr zr zr (Vw.ae rfl) rfl (db _) (by(rw[Bb];omega)) (by show(_+_)*1≤_;(rw[Bb];omega)) (fun _=>rfl) bE ?_;intro vA;rw[show bV ((b++128::List.replicate j (0:UInt8)))++bV [(0:UInt8)]=bV (((b++128::List.replicate j (0:UInt8)))++[(0:UInt8)])from by simp[bV],show((b++128::List.replicate j (0:UInt8))).length+1=(((b++128::List.replicate j (0:UInt8)))++[(0:UInt8)]).length from(@List.length_append _ ((b++128::List.replicate j (0:UInt8))) [(0:UInt8)]).symm];((refine aP 1 rfl ?_));rintro aA cA rfl)
  rw[show b++128::List.replicate j (0:UInt8)++[0]=b++128::List.replicate (j+1) (0:UInt8)from by rw[List.replicate_succ'];simp]
  refine go ?_
  refine aM ih (j+1,aA,cA) rfl (by simp only;omega) (by simp only;omega) ck ah
 intro heq
 have hjz:j=z:=by
  grind
 subst hjz
 clear ih
 obtain⟨T0,Rg⟩:∃T0,T0=b++128::List.replicate j (0:UInt8):=⟨_,rfl⟩
 rw[← Rg]at Bb ⊢
 have K6:∀i:Nat,i≤8→(T0++(Sha.pO (8*b.length)).take i).length=T0.length+i:=fun i hi=>by
  rw[List.length_append,List.length_take];simp only[Sha.pO,List.length_map,List.length_range];omega
 refine go ?_
 refine iA zr zr zr (by simp only[gy];omega) ?_
 refine az 24 ((.int .u64 ((8*b.length:Nat):Int))) rfl ((congrArg (Value.int .u64) ag)) (go ?_)
 refine bB (fun y:Nat × Option Addr × Nat=>y.1≤8) (fun y=>8-y.1)
  (fun y=>[(2,ptr b2),(3,.slice y.2.1 (T0++(Sha.pO (8*b.length)).take y.1).length y.2.2),(4,.int .u64 ((8*b.length:Nat):Int)),(5,.int .i64 (y.1:Int))])
  (fun y=>aF 5 1 (.slice y.2.1 (T0++(Sha.pO (8*b.length)).take y.1).length y.2.2) (T0++(Sha.pO (8*b.length)).take y.1).length (bV (T0++(Sha.pO (8*b.length)).take y.1))::A::ae b2 (cl (dC Dg.zero) 37)::F) (0,a2,c2) (Nat.zero_le _) rfl (by simp only[List.take_zero,List.append_nil];exact ck) (by simp only[List.take_zero,List.append_nil];exact ah) ?_
 rintro⟨i,a3,c3⟩ hi ih
 simp only at hi
 have tQ:=K6 i hi
 dsimp only
 refine go ?_
 refine au zr zr ?_ ?_
 ·intro dJ
  have H9:i<8:=by omega
  have hbe:(Sha.pO (8*b.length)).take (i+1)=(Sha.pO (8*b.length)).take i++[UInt8.ofNat (8*b.length/2 ^ (56-8*i))]:=by
   rw[List.take_add_one];simp[Sha.pO,H9]
  refine go ?_
  refine iA zr zr zr (by simp only[gy];omega) ?_
  refine go ?_
  refine az 34 ((.int .u64 ((56-8*i:Nat):Int))) rfl ((congrArg (Value.int .u64) ag)) ?_
  refine jN zr zr zr ag ?_
  ((refine az 35 ((.int .u64 ((8*b.length/2 ^ (56-8*i):Nat):Int))) rfl ((congrArg (Value.int .u64) (by rw[Int.toNat_natCast,show min (56-8*i) IntKind.u64.bits=56-8*i from by show min (56-8*i) 64=_;omega];simp))) ?_))
  refine fb ?_
  refine jv zr zr zr zr zr zr ?_
  refine az 36 ((u8 (UInt8.ofNat (8*b.length/2 ^ (56-8*i))))) rfl ((mg _)) ?_
  (refine ao (cs:=bV [(UInt8.ofNat (8*b.length/2 ^ (56-8*i)))]) zr zr zr zr zr zr zr zr zr bE ?_;intro bA;refine aT (mm:=1) (news:=bV [(UInt8.ofNat (8*b.length/2 ^ (56-8*i)))]) 1 0 zr zr zr zr zr zr zr zr zr zr zr zr (Vw.ae rfl) rfl (db _) (by(rw[tQ];omega)) (by show(_+_)*1≤_;(rw[tQ];omega)) (fun _=>rfl) bE ?_;intro vA;rw[show bV ((T0++(Sha.pO (8*b.length)).take i))++bV [(UInt8.ofNat (8*b.length/2 ^ (56-8*i)))]=bV (((T0++(Sha.pO (8*b.length)).take i))++[(UInt8.ofNat (8*b.length/2 ^ (56-8*i)))])from by simp[bV],show((T0++(Sha.pO (8*b.length)).take i)).length+1=(((T0++(Sha.pO (8*b.length)).take i))++[(UInt8.ofNat (8*b.length/2 ^ (56-8*i)))]).length from(@List.length_append _ ((T0++(Sha.pO (8*b.length)).take i)) [(UInt8.ofNat (8*b.length/2 ^ (56-8*i)))]).symm];((refine aP 1 rfl ?_));rintro aA cA rfl)
  rw[show T0++(Sha.pO (8*b.length)).take i++[UInt8.ofNat (8*b.length/2 ^ (56-8*i))]=T0++(Sha.pO (8*b.length)).take (i+1)from by rw[hbe,List.append_assoc]]
  refine go ?_
  refine aM ih (i+1,aA,cA) rfl (by simp only;omega) (by simp only;omega) ck ah
 intro fO
 have H9:i=8:=by omega
 subst H9
 clear ih
 have Gj:T0++(Sha.pO (8*b.length)).take 8=Sha.msg b:=by
  rw[Rg,List.take_of_length_le (by simp[Sha.pO])]
  unfold Sha.msg Sha.pad
  grind
 have qc:(dW b).bs=Sha.out (Sha.chunks Sha.start (Sha.msg b) ((Sha.msg b).length/64)):=Kt b
 rw[← Gj]at qc
 generalize T0++(Sha.pO (8*b.length)).take 8=T at tQ qc ⊢
 have afq:T.length%64=0:=by omega
 have hTl:T.length≤1000000200:=by omega
 clear Bb K6 Rg mT hz Ze Va tQ Gj
 have Nb:∀s:Sha.St,(wV s.l).length=8:=fun s=>rfl
 have TO:∀s:Sha.St,wV s.l≠[]:=fun s e=>by have:=congrArg List.length e;rw[Nb]at this;cases this
 refine qU (bs:=T) 0 rfl ?_
 intro Tx
 have Zk:eO (Sep [aF 5 1 (.slice a3 T.length c3) T.length (bV T),A]) (.slice a3 T.length c3) T:=Tx.mono (aY (i:=0) rfl)
 refine ai (ak.bX [_,_] _) (go ?_)
 refine nj (U:=aR) (cs:=wV Sha.start.l) zr zr zr zr zr zr ?_
 refine aC zr zr zr bE ?_
 intro b6
 refine aV ?_
 refine cH (U:=aR) (l':=wV Sha.start.l) 0 gf zr zr zr zr (by decide) (fM _) zr zr zr (go ?_)
 refine bB (fun y:Nat × Option Addr × Nat=>64*y.1≤T.length∧eO (Sep [aF 5 1 (.slice a3 T.length c3) T.length (bV T),A]) (.slice y.2.1 (T.length-64*y.1) y.2.2) (T.drop (64*y.1))) (fun y=>T.length-64*y.1)
  (fun y=>[(2,ptr b2),(6,ptr b6),(3,.slice y.2.1 (T.length-64*y.1) y.2.2)])
  (fun y=>ae b6 (cl (wV (Sha.chunks Sha.start T y.1).l) 151)::Sep [aF 5 1 (.slice a3 T.length c3) T.length (bV T),A]::ae b2 (cl (dC Dg.zero) 37)::F) (0,a3,c3) ⟨ag,Zk⟩ rfl ck (by unfold Sha.chunks;exact ah) ?_
 rintro⟨q,a4,c4⟩⟨hq,hbq⟩ ih
 simp only at hq hbq
 dsimp only
 refine go ?_
 refine au zr zr ?_ ?_
 ·intro dJ
  have hq1:64*q+64≤T.length:=by omega
  have ED:(T.drop (64*q)).length=T.length-64*q:=List.length_drop
  have Bp:=hbq.front 64 (by rw[ED];omega)
  have zY:=hbq.cut 64 (by rw[ED];omega)
  have kU:((T.drop (64*q)).take 64).length=64:=by rw[List.length_take,ED];omega
  have Gt:=NI _ _ _ Bp (by rw[kU];omega) (Sha.chunks Sha.start T q)
  have qd:Sha.chunk (Sha.chunks Sha.start T q) ((T.drop (64*q)).take 64)=Sha.chunks Sha.start T (q+1):=by
   have h1:=Sha.CB (Sha.chunks Sha.start T q) ((T.drop (64*q)).take 64) ((T.drop (64*q)).drop 64) (by rw[kU];omega)
   rw[List.take_append_drop]at h1
   rw[← h1]
   conv=>rhs;unfold Sha.chunks
  rw[qd]at Gt
  refine go ?_
  refine aG (fun w=>Sat G w ([ae b6 (cl (wV (Sha.chunks Sha.start T q).l) 151)])) (dj 0 3 (.act 3 (.act 4 .nil))) rfl aq aq aq eo ?_
  refine go ?_
  refine bT (U:=aR) 0 zr zr zr zr zr zr (go ?_)
  refine bt (p:=0) (q:=64) rfl rfl rfl rfl rfl rfl rfl ag ag (.inr (by obtain⟨_,_,_,he,hcc⟩:=hbq;simp only[Value.slice.injEq]at he;rw[ED]at hcc;omega)) ?_
  refine az 45 ((.slice (sliceAt a4 c4 0 1) 64 c4)) rfl (rfl) ?_
  refine bp Gt ?_
  unfold Sn
  refine aV ?_
  refine cH (U:=aR) 1 gf zr zr zr zr (TO _) (fM _) rfl (by rw[Nb,Nb]) rfl (go ?_)
  refine bt (p:=64) (q:=((T.length-64*q:Nat):Int)) zr zr zr zr zr zr zr ag ag (.inl rfl) ?_
  ((refine az 48 ((.slice (sliceAt a4 c4 64 1) (T.length-64*(q+1)) (c4-64))) rfl ((by rw[show(((T.length-64*q:Nat):Int)).toNat-(64:Int).toNat=T.length-64*(q+1)from by omega];rfl)) ?_))
  refine go ?_
  rw[List.drop_drop,ED,show T.length-64*q-64=T.length-64*(q+1)from by omega,show 64*q+64=64*(q+1)from by omega]at zY
  refine aM ih (q+1,sliceAt a4 c4 64 1,c4-64) rfl ⟨by simp only;omega,zY⟩ (by simp only;omega) ck ah
 intro fO
 have Zt:q=T.length/64:=by omega
 subst Zt
 clear ih
 generalize Sha.chunks Sha.start T (T.length/64)=S2 at qc ⊢
 refine ai (ak.trans (ak.pick [1] rfl) (ak.cK _ _)) (go ?_)
 refine aC zr zr zr bE ?_
 intro b9
 refine go ?_
 have ZA:=Sha.Dt S2
 have ED:∀i,i≤32→((Sha.out S2).take i++List.replicate (32-i) (0:UInt8)).length=32:=fun i hi=>by
  grind
 refine bB (fun i:Nat=>i≤32) (fun i=>32-i)
  (fun i=>[(2,ptr b2),(6,ptr b6),(7,ptr b9),(8,.int .i64 (i:Int))])
  (fun i=>ae b9 (cl (bV ((Sha.out S2).take i++List.replicate (32-i) (0:UInt8))) 37)::ae b6 (cl (wV S2.l) 151)::ae b2 (cl (dC Dg.zero) 37)::A::F) 0 (Nat.zero_le _) rfl ck ah ?_
 rintro i hi ih
 refine go ?_
 refine au zr zr ?_ ?_
 ·intro dJ
  have uM:i<32:=by omega
  have hq4:(i:Int)/4=((i/4:Nat):Int):=by omega
  have hr4:24-8*((i:Int)%4)=((24-8*(i%4):Nat):Int):=by omega
  have MZ:(wV S2.l)[i/4]?=some (u32 (S2.l.getD (i/4) 0)):=iL (by rw[List.getD_eq_getElem?_getD,List.getElem?_eq_getElem (show i/4<S2.l.length from by show i/4<8;omega)];rfl)
  have tz:(Sha.out S2)[i]?=some (UInt8.ofNat ((S2.l.getD (i/4) 0) >>> (24-8*(i%4))).toNat):=by simp[Sha.out,uM]
  (repeat(first|refine eZ ?_|refine lP zr zr zr ag ag (by simp only[gy];omega) ?_|refine nT zr zr zr ag ag ?_|refine iA zr zr zr (by simp only[gy];omega) ?_|refine eE (U:=aR) (i/4) zr zr zr zr zr zr zr hq4 ag ?_|(refine aK ?_;refine ni (U:=aR) 1 (i/4) zr zr zr (Nat.zero_add _) MZ zr zr ?_)|refine qY (24-8*(i%4)) zr zr zr hr4 ag ?_|(refine fb ?_;refine CT (U:=aR) zr zr zr zr zr zr ?_)|refine eE (U:=aR) i zr zr zr zr zr zr zr zr uM ?_))
  refine aV ?_
  refine hG (U:=aR) 0 gf zr zr zr zr zr zr zr (by rw[bM,ED i ag];omega) rfl ?_
  rw[show 0+i=i from Nat.zero_add _,FD ZA tz]
  refine go ?_
  refine aM ih (i+1) rfl ag ag ck ah
 intro fO
 have uM:i=32:=by omega
 subst uM
 rw[List.take_of_length_le ag,show 32-32=0 from rfl,List.replicate_zero,List.append_nil,← qc,← dL]
 clear ih ED ZA qc
 refine go ?_
 refine aH (U:=aR) (l:=dC (dW b)) 0 zr zr zr zr zr zr ?_
 refine cH (U:=aR) (l':=dC (dW b)) 2 gf rfl rfl rfl rfl (by intro e;cases e) (by rw[dL];exact gU _) rfl rfl rfl ?_
 refine go ?_
 (refine aZ hE ?_;apply aW (U:=aR) hE Tryz.func56 rfl (ak.refl _);(repeat(first|exact aQ.nil|apply aQ.agg 2 zr zr zr zr zr));exact⟨rfl,rfl⟩;exact ah)
attribute [local irreducible] cy
theorem N'(A:HP)(tag:UInt8)(v:Value)(ps:List (List UInt8))(hv:sJ A v ps)(hl:(dm tag ps).length≤1000000000) :
  aD Tryz.prog 174 [u8 tag,v] [A] (fun r H=>H=[aF 5 1 r (dm tag ps).length (bV (dm tag ps)),A]):=by
 obtain⟨cs,dO,ki,⟨a,c,rfl,hc⟩,tB⟩:=hv
 have Jn:=uy tag ps
 refine aD.aw Tryz.func174 Tryz.ntmps174 fun G F R hE=>?_
 refine go ?_
 refine ao (cs:=bV [tag]) zr zr zr zr zr zr zr zr zr bE ?_
 intro b0
 refine go ?_
 refine ai (eS 5 1 b0 1 1 (bV [tag]) [] _ rfl (Nat.le_refl _) (by simp[bV])) ?_
 refine bB (fun y:Nat × Option Addr × Nat=>y.1≤ps.length) (fun y=>ps.length-y.1)
  (fun y=>[(1,.slice a ps.length c),(6,.int .i64 (y.1:Int)),(5,.slice y.2.1 (dm tag (ps.take y.1)).length y.2.2)])
  (fun y=>aF 5 1 (.slice y.2.1 (dm tag (ps.take y.1)).length y.2.2) (dm tag (ps.take y.1)).length (bV (dm tag (ps.take y.1)))::A::F) (0,some ⟨b0,0,none⟩,1) (Nat.zero_le _) rfl ck ah ?_
 rintro⟨i,a1,c1⟩ hi ih
 simp only at hi
 dsimp only
 refine go ?_
 refine au zr zr ?_ ?_
 ·intro dJ
  have me:i<ps.length:=by omega
  obtain⟨p,hp⟩:∃p,ps[i]?=some p:=⟨ps[i],List.getElem?_eq_getElem me⟩
  obtain⟨cv,sw,hb⟩:=tB i p hp
  obtain⟨b1,o1,c0,pH⟩:=dO.some (by intro h;rw[h]at sw;simp at sw)
  simp only[Value.slice.injEq]at pH
  obtain⟨rfl,-,rfl⟩:=pH
  have kU:=xD (tag:=tag) hp
  have hle:=B7 tag ps (i+1)
  have acN:=KT p.length
  rw[kU]at hle
  simp only[List.length_append]at hle
  obtain⟨T0,Rg⟩:∃T0,T0=dm tag (ps.take i):=⟨_,rfl⟩
  rw[← Rg]at kU hle ⊢
  obtain⟨ax,cx,rfl,OZ⟩:=hb.2
  have K6:∀j:Nat,j≤8→(T0++(mw p.length).take j).length=T0.length+j:=fun j hj=>by
   grind
  refine go ?_
  refine bR i zr zr zr zr zr zr zr zr me ?_
  refine aK ?_
  refine aX 1 i zr zr zr dO rfl sw zr zr (go ?_)
  refine bB (fun y:Nat × Option Addr × Nat=>y.1≤8) (fun y=>8-y.1)
   (fun y=>[(1,.slice (some ⟨b1,o1,none⟩) ps.length c),(6,.int .i64 (i:Int)),(7,.int .u64 ((p.length/2 ^ (8*y.1):Nat):Int)),(5,.slice y.2.1 (T0++(mw p.length).take y.1).length y.2.2),(8,.int .i64 (y.1:Int))])
   (fun y=>aF 5 1 (.slice y.2.1 (T0++(mw p.length).take y.1).length y.2.2) (T0++(mw p.length).take y.1).length (bV (T0++(mw p.length).take y.1))::A::F) (0,a1,c1) (Nat.zero_le _) rfl (by simp only[List.take_zero,List.append_nil,Nat.mul_zero,Nat.pow_zero,Nat.div_one];exact ck) (by simp only[List.take_zero,List.append_nil];exact ah) ?_
  rintro⟨j,a2,c2⟩ hj Tw
  simp only at hj
  have Bb:=K6 j hj
  dsimp only
  refine go ?_
  refine au zr zr ?_ ?_
  ·intro hj8
   have ZP:j<8:=by omega
   have htj:=F3 (n:=p.length) ZP
   obtain⟨m,hm⟩:∃m,m=p.length/2 ^ (8*j):=⟨_,rfl⟩
   have afY:m≤p.length:=by rw[hm];exact Nat.div_le_self _ _
   have hmn:p.length/2 ^ (8*(j+1))=m/256:=by
    rw[hm,Nat.div_div_eq_div_mul,show 8*(j+1)=8*j+8 from by omega,Nat.pow_add]
   rw[← hm]at htj ⊢
   refine go ?_
   refine nT zr zr zr ag ag ?_
   refine fb ?_
   refine jv zr zr zr zr zr zr ?_
   ((refine az 30 ((u8 (UInt8.ofNat m))) rfl ((by rw[show((m:Int)%256)=((m%256:Nat):Int)from by omega,mg];congr 1;apply UInt8.toNat.inj;simp only[UInt8.toNat_ofNat'];omega)) ?_))
   (refine ao (cs:=bV [(UInt8.ofNat m)]) zr zr zr zr zr zr zr zr zr bE ?_;intro bA;refine aT (mm:=1) (news:=bV [(UInt8.ofNat m)]) 1 0 zr zr zr zr zr zr zr zr zr zr zr zr (Vw.ae rfl) rfl (db _) (by(rw[Bb];omega)) (by show(_+_)*1≤_;(rw[Bb];omega)) (fun _=>rfl) bE ?_;intro vA;rw[show bV ((T0++(mw p.length).take j))++bV [(UInt8.ofNat m)]=bV (((T0++(mw p.length).take j))++[(UInt8.ofNat m)])from by simp[bV],show((T0++(mw p.length).take j)).length+1=(((T0++(mw p.length).take j))++[(UInt8.ofNat m)]).length from(@List.length_append _ ((T0++(mw p.length).take j)) [(UInt8.ofNat m)]).symm];((refine aP 1 rfl ?_));rintro aA cA rfl)
   rw[show T0++(mw p.length).take j++[UInt8.ofNat m]=T0++(mw p.length).take (j+1)from by rw[htj,List.append_assoc]]
   refine go ?_
   refine lP zr zr zr ag ag (by simp only[gy];omega) ?_
   ((refine az 34 ((.int .u64 ((p.length/2 ^ (8*(j+1)):Nat):Int))) rfl ((congrArg (Value.int .u64) (by rw[hmn];omega))) ?_))
   refine go ?_
   refine aM Tw (j+1,aA,cA) rfl (by simp only;omega) (by simp only;omega) ck ah
  intro fO
  have hj8:j=8:=by omega
  subst hj8
  rw[List.take_of_length_le ag]at Bb ⊢
  refine go ?_
  refine bR i zr zr zr zr zr zr zr zr me ?_
  refine aK ?_
  refine aX 1 i zr zr zr dO rfl sw zr zr ?_
  (refine aT (mm:=(p).length) (news:=bV (p)) 0 1 zr zr zr zr zr zr zr zr zr zr zr zr (hb.1) (by show _=_*1;rw[bM];omega) (db _) (by(rw[Bb];omega)) (by show(_+_)*1≤_;(rw[Bb];omega)) (fun _=>rfl) bE ?_;intro vA;rw[show bV ((T0++mw p.length))++bV (p)=bV (((T0++mw p.length))++(p))from by simp[bV],show((T0++mw p.length)).length+(p).length=(((T0++mw p.length))++(p)).length from(@List.length_append _ ((T0++mw p.length)) (p)).symm];((refine aP 0 rfl ?_));rintro aA cA rfl)
  rw[show T0++mw p.length++p=dm tag (ps.take (i+1))from by rw[kU,List.append_assoc]]
  refine go ?_
  refine aM ih (i+1,aA,cA) rfl (by simp only;omega) (by simp only;omega) ck ah
 intro fO
 have gz:i=ps.length:=by omega
 subst gz
 rw[List.take_length]
 refine go ?_
 refine aO hE Tryz.func174 rfl _ zr zr ah
def AE(A:HP)(tag:UInt8)(v:Value)(ps:List (List UInt8))(hv:sJ A v ps)(hl:(dm tag ps).length≤1000000000) :
  aD Tryz.prog 112 [u8 tag,v] [A] (fun r H=>r=dV (cy tag ps)∧H=[A]):=by
 have Zv:=N' A tag v ps hv hl
 obtain⟨cs,dO,ki,⟨a,c,rfl,hc⟩,tB⟩:=hv
 have htg:cy tag ps=dW (dm tag ps):=by unfold cy;rfl
 rw[htg]
 refine aD.aw Tryz.func112 Tryz.ntmps112 fun G F R hE=>?_
 refine aB rfl ?_
 refine aC zr zr zr bE ?_
 intro b4
 refine go ?_
 refine aI Zv ?_
 rintro r _ rfl
 refine gX (bs:=dm tag ps) 0 rfl ?_
 intro Tx
 refine aJ (ak.bX [_,_] _) ?_
 refine aN (LB _ _ (dm tag ps) (Tx.mono (aY (H:=[aF 5 1 r (dm tag ps).length (bV (dm tag ps)),A]) (i:=0) rfl)) hl) ?_
 refine aJ (ak.cK _ _) (go ?_)
 (refine aZ hE ?_;apply aW (U:=aR) hE Tryz.func112 rfl (ak.refl _);(repeat(first|exact aQ.nil|apply aQ.agg 2 zr zr zr zr zr));exact⟨rfl,rfl⟩;exact ah)
def Hn(A:HP)(v:Value)(b:List UInt8)(hv:eO A v b)(hl:b.length≤900000000):aD Tryz.prog 72 [v] [A] (fun r H=>r=dV (cS b)∧H=[A]):=by
 obtain⟨a,c,rfl,hc⟩:=hv.2
 refine aD.aw Tryz.func72 Tryz.ntmps72 fun G F R hE=>?_
 refine aB rfl ?_
 refine aC zr zr zr bE ?_
 intro b2
 refine ln ?_
 (refine aB rfl ?_;refine ln ?_)
 refine ao (cs:=[.slice a b.length c]) zr zr zr zr zr zr zr zr zr bE ?_
 intro b0
 refine aJ (ak.trans (ak.pick [0,2] rfl) (ak.bX [_,_] _)) ?_
 ((refine aI (AE (Sep [ae b0 (cl [.slice a b.length c] 40),A]) 0 _ [b] (sJ.row rfl rfl (fun i x hx=>by cases i with|zero=>(simp at hx;subst hx;exact⟨_,rfl,hv⟩)|succ i=>simp at hx)) (by simp[dm,mw];omega)) ?_))
 rintro _ _⟨rfl,rfl⟩
 refine aJ (ak.cK _ _) (go ?_)
 (refine aZ hE ?_;apply aW (U:=aR) hE Tryz.func72 rfl (ak.refl _);(repeat(first|exact aQ.nil|apply aQ.agg 2 zr zr zr zr zr));exact⟨rfl,rfl⟩;exact ah)
def AM(l r:Dg):aD Tryz.prog 135 [dV l,dV r] [] (fun x H=>x=dV (eY l r)∧H=[]):=by
 unfold dV
 refine aD.aw Tryz.func135 Tryz.ntmps135 fun G F R hE=>?_
 refine aB rfl ?_
 refine bG zr zr bE ?_
 intro b2
 refine bG zr zr bE ?_
 intro b3
 refine aC zr zr zr bE ?_
 intro b4
 refine go ?_
 refine aG (fun w=>Sat G w ([])) (.st 0 (.st 1 (.act 2 (.act 3 (.act 4 .nil))))) rfl aq aq aq eo ?_
 refine go ?_
 refine iW (U:=aR) zr zr zr zr zr (go ?_)
 refine iW (U:=aR) zr zr zr zr zr ?_
 refine ao (cs:=[.slice (some ⟨b2,0,none⟩) 32 32,.slice (some ⟨b3,0,none⟩) 32 32]) zr zr zr zr zr zr zr zr zr (fun _ _ hw=>hw.cL ah) ?_
 intro b0
 refine aJ (ak.trans (ak.pick [3,2] rfl) (ak.trans (ak.bX [_,_] _) (ak.trans (ak.pick [1,0] rfl) (ak.bX [_,_] _)))) ?_
 have nw:sJ (Sep [ae b0 (cl [.slice (some ⟨b2,0,none⟩) 32 32,.slice (some ⟨b3,0,none⟩) 32 32] 40),Sep [ae b2 (cl (dC l) 37),ae b3 (cl (dC r) 37)] ]) (.slice (some ⟨b0,0,none⟩) 2 2) [l.bs,r.bs]:=by
  refine sJ.row zr zr (fun i x hx=>?_)
  match i,hx with
  | 0,hx =>
   simp at hx
   subst hx
   exact⟨_,rfl,(eO.block l.len (dL l)).mono (aY (i:=0) rfl)⟩
  | 1,hx =>
   simp at hx
   subst hx
   exact⟨_,rfl,(eO.block r.len (dL r)).mono (aY (i:=1) rfl)⟩
  | i+2,hx=>simp at hx
 have Zm:=AE _ 1 _ [l.bs,r.bs] nw (by simp[dm,mw,l.len,r.len])
 refine bp Zm ?_
 refine aJ (ak.trans (ak.cK _ _) (ak.trans (ak.pick [1] rfl) (ak.cK _ _))) (go ?_)
 (refine aZ hE ?_;apply aW (U:=aR) hE Tryz.func135 rfl (ak.refl _);(repeat(first|exact aQ.nil|apply aQ.agg 3 zr zr zr zr zr));exact⟨rfl,rfl⟩;exact ah)
def dgE{l:List Dg}{i:Nat}{x:Dg}(hx:l[i]?=some x)(q:Nat)(v:Value)(hq:(dC x)[q]?=some v):(l.flatMap dC)[i*32+q]?=some v:=by
 rw[cU dD hx q (by rcases Nat.lt_or_ge q 32 with h|h;exact h;rw[List.getElem?_eq_none (by rw[dD];exact h)]at hq;cases hq)]
 exact hq
def aft{l:List Dg}{i:Nat}(h:i<l.length):l.flatMap dC≠[]:=by
 rw[← List.length_pos_iff,cE dD];omega
def CL(A:HP)(v:Value)(l:List Dg)(hv:Vw A v l.length (l.flatMap dC))(hl:l.length≤1000000) :
  aD Tryz.prog 73 [v] [A] (fun r H=>H=[aF 37 32 r (bN l).length ((bN l).flatMap dC),A]):=by
 obtain⟨a,c,rfl⟩:=hv.shape
 have SC:=dp l
 refine aD.aw Tryz.func73 Tryz.ntmps73 fun G F R hE=>?_
 refine go ?_
 refine ai (bK 37 32 none _) ?_
 refine bB (fun y:Nat × Option Addr × Nat=>y.1≤(l.length+1)/2) (fun y=>(l.length+1)/2-y.1)
  (fun y=>[(0,.slice a l.length c),(3,.slice y.2.1 ((bN l).take y.1).length y.2.2),(4,.int .i64 ((2*y.1:Nat):Int))])
  (fun y=>aF 37 32 (.slice y.2.1 ((bN l).take y.1).length y.2.2) ((bN l).take y.1).length (((bN l).take y.1).flatMap dC)::A::F) (0,none,0) (Nat.zero_le _) rfl ck ah ?_
 rintro⟨q,oa,oc⟩ hq ih
 simp only at hq
 dsimp only
 have pY:((bN l).take q).length=q:=by rw[List.length_take];omega
 refine go ?_
 refine au zr zr ?_ ?_
 ·intro dJ
  have hql:2*q<l.length:=by omega
  obtain⟨x,hx⟩:∃x,l[2*q]?=some x:=⟨l[2*q],by simp⟩
  obtain⟨b,o,gZ,fL⟩:=hv.some (aft hql)
  simp only[Value.slice.injEq]at fL
  obtain⟨rfl,_,rfl⟩:=fL
  refine go ?_
  refine au zr zr ?_ ?_
  ·intro acK
   have aew:2*q+1<l.length:=by omega
   obtain⟨y,hy⟩:∃x,l[2*q+1]?=some x:=⟨l[2*q+1],by simp⟩
   have xP:=CM hx hy
   have kU:(bN l).take (q+1)=(bN l).take q++[eY x y]:=by rw[List.take_add_one,xP];rfl
   refine go ?_
   refine aG (fun w=>Sat G w ([A])) (dj 0 10 (.act 10 (.act 11 (.act 12 (.st 13 .nil))))) rfl aq aq aq eo ?_
   refine go ?_
   refine bZ (2*q) 32 zr zr zr zr zr zr zr zr hql ?_
   refine aK ?_
   refine e8 (U:=aR) (es:=dC x) 0 ((2*q)*32) zr zr zr hv rfl (dgE hx) zr zr zr (go ?_)
   refine bZ (2*q+1) 32 zr zr zr zr zr zr zr zr aew ?_
   refine aK ?_
   refine e8 (U:=aR) (es:=dC y) 0 ((2*q+1)*32) zr zr zr hv rfl (dgE hy) zr zr zr ?_
   refine bp ((AM x y)) ?_
   refine ao (cs:=dC (eY x y)) zr zr zr zr zr zr zr zr zr (fun _ _ hw=>hw.cL ah) ?_
   intro row
   refine go ?_
   refine aT (mm:=1) (news:=dC (eY x y)) 1 0 zr zr zr zr zr zr zr zr zr zr zr zr (Vw.ae rfl) rfl (by rw[dL];exact db _) (by rw[pY];omega) (by show(_+_)*32≤_;rw[pY];omega) (fun _=>rfl) (fun _ _ hw=>hw.cL ah) ?_
   intro v1
   rw[show((bN l).take q).flatMap dC++dC (eY x y)=((bN l).take (q+1)).flatMap dC from by rw[kU];simp,show((bN l).take q).length+1=((bN l).take (q+1)).length from by rw[kU];simp]
   refine aP 1 rfl ?_
   rintro ja jc rfl
   refine go ?_
   refine bj 4 ((.int .i64 ((2*(q+1):Nat):Int))) rfl ((congrArg (Value.int .i64) ag)) ?_
   refine aM ih (q+1,ja,jc) rfl (by simp only;omega) (by simp only;omega) ck ah
  ·intro ac4
   have xP:=xU hx ag
   have kU:(bN l).take (q+1)=(bN l).take q++[x]:=by rw[List.take_add_one,xP];rfl
   refine go ?_
   refine bZ (2*q) 32 zr zr zr zr zr zr zr zr hql ?_
   refine aK ?_
   refine cI (U:=aR) (es:=dC x) 1 ((2*q)*32) zr zr zr hv rfl (dgE hx) zr zr zr ?_
   refine ao (cs:=dC x) zr zr zr zr zr zr zr zr zr bE ?_
   intro row
   refine go ?_
   refine aT (mm:=1) (news:=dC x) 1 0 zr zr zr zr zr zr zr zr zr zr zr zr (Vw.ae rfl) rfl (by rw[dL];exact db _) (by rw[pY];omega) (by show(_+_)*32≤_;rw[pY];omega) (fun _=>rfl) bE ?_
   intro v1
   rw[show((bN l).take q).flatMap dC++dC x=((bN l).take (q+1)).flatMap dC from by rw[kU];simp,show((bN l).take q).length+1=((bN l).take (q+1)).length from by rw[kU];simp]
   refine aP 1 rfl ?_
   rintro ja jc rfl
   refine go ?_
   refine bj 4 ((.int .i64 ((2*(q+1):Nat):Int))) rfl ((congrArg (Value.int .i64) ag)) ?_
   refine aM ih (q+1,ja,jc) rfl (by simp only;omega) (by simp only;omega) ck ah
 intro fO
 have Zt:(bN l).take q=bN l:=by rw[List.take_of_length_le];omega
 rw[Zt]
 refine go ?_
 refine aO hE Tryz.func73 rfl _ zr zr ah
def RR(A:HP)(v:Value)(l0:List Dg)(hv:Vw A v l0.length (l0.flatMap dC))(Q3:l0.length≤1000000)(df:l0≠[]):aD Tryz.prog 57 [v] [A] (fun r H=>r=dV (zh l0)∧H=[A]):=by
  obtain⟨a,c,rfl⟩:=hv.shape
  have lY:0<l0.length:=List.length_pos_iff.2 df
  refine aD.aw Tryz.func57 Tryz.ntmps57 fun G F R hE=>?_
  refine aB rfl ?_
  refine aC zr zr zr bE ?_
  intro b2
  refine go ?_
  refine au zr zr ?_ ?_
  · intro h0;exfalso;omega
  intro _
  refine go ?_
  refine bB (fun y:Nat × HP × Option Addr × Nat=>(∀i,i<y.1→1<(dM i l0).length)∧Vw y.2.1 (.slice y.2.2.1 (dM y.1 l0).length y.2.2.2) (dM y.1 l0).length ((dM y.1 l0).flatMap dC)∧∀h,y.2.1 h→∃h',sub h' h∧A h') (fun y=>(dM y.1 l0).length)
    (fun y=>[(2,ptr b2),(3,.slice y.2.2.1 (dM y.1 l0).length y.2.2.2)])
    (fun y=>y.2.1::ae b2 (cl (dC Dg.zero) 37)::F) (0,A,a,c) ⟨fun i h=>by omega,hv,fun h hA=>⟨h,sub.refl h,hA⟩⟩ rfl ck ah ?_
  rintro⟨j,X,xa,xc⟩⟨hI,hX,hXA⟩ ih
  simp only at hI hX hXA
  dsimp only
  have hle:=De l0 j
  refine go ?_
  refine au zr zr ?_ ?_
  · intro OY
    have DH:1<(dM j l0).length:=by omega
    have qd:dM (j+1) l0=bN (dM j l0):=rfl
    have xP:=dp (dM j l0)
    have Uc:=CL X _ _ hX ag
    rw[← qd]at Uc xP
    refine go ?_
    refine aI Uc ?_
    rintro r _ rfl
    refine aP 0 rfl ?_
    rintro ra rc rfl
    refine vu fun dO=>?_
    refine go ?_
    refine aM ih (j+1,Sep [aF 37 32 (.slice ra (dM (j+1) l0).length rc) (dM (j+1) l0).length ((dM (j+1) l0).flatMap dC),X],ra,rc) rfl ⟨fun i hi=>by
      rcases Nat.lt_or_ge i j with h|h
      · exact hI i h
      · rw[show i=j from by simp only at hi;omega];exact DH,dO.mono (aY (i:=0) rfl),fun h hs=>by
      obtain⟨h1,s1,A9⟩:=aY (H:=[aF 37 32 (.slice ra (dM (j+1) l0).length rc) (dM (j+1) l0).length ((dM (j+1) l0).flatMap dC),X]) (i:=1) rfl h hs
      obtain⟨h2,s2,yp⟩:=hXA h1 A9
      exact⟨h2,s2.trans s1,yp⟩⟩ (by simp only;omega) ck ah
  intro acP
  have Zx:=um l0 lY j
  obtain⟨x,hx⟩:∃x,dM j l0=[x]:=by
    match h:dM j l0,Zx,(show(dM j l0).length≤1 by omega)with
    | [x],_,_=>exact⟨x,rfl⟩
  have Ge:=Fi df hI hx
  rw[Ge]at hE
  rw[hx]at hX ⊢
  obtain⟨b,o,gZ,fL⟩:=hX.some (by simp[dC])
  simp only[Value.slice.injEq]at fL
  obtain⟨rfl,_,rfl⟩:=fL
  refine go ?_
  refine bZ 0 32 zr zr zr zr zr zr zr zr (by simp) ?_
  refine aK ?_
  refine cI (U:=aR) (es:=dC x) 0 (0*32) zr zr zr hX rfl (dgE (l:=[x]) rfl) zr zr zr ?_
  (refine aV ?_;(refine cF 1 gf zr zr zr zr zr zr zr zr zr ?_))
  refine go ?_
  refine ai (ak.head (B:=[A]) fun h hs=>by obtain⟨h',s1,A9⟩:=hXA h hs;exact⟨h',s1,gu A9⟩) ?_
  (refine aZ hE ?_;apply aW (U:=aR) hE Tryz.func57 rfl (ak.refl _);(repeat(first|exact aQ.nil|apply aQ.agg 1 zr zr zr zr zr));exact⟨rfl,rfl⟩;exact ah)
attribute [local irreducible] GI cS
theorem PN{s p:Int}(hs:1≤s∧s≤1048576)(hp:1≤p∧p≤16384):gy .i64 ((s+p-1)/p):=by
 have h1:0≤(s+p-1)/p:=Int.ediv_nonneg ag ag
 have h2:(s+p-1)/p≤s+p-1:=Int.ediv_le_self _ ag
 grind [gy]
def N6(x:Bl):aD Tryz.prog 108 [dG x] [] (fun r H=>r = .bool (bI x)∧H=[]):=by
 have hF:¬(1≤x.size∧x.size≤1048576∧16≤x.piece∧x.piece≤16384)→Value.bool false = .bool (bI x):=fun h=>congrArg Value.bool (by unfold bI;rw[decide_eq_false (by rintro⟨a,b,c,e,_⟩;exact h ⟨a,b,c,e⟩)])
 have hT:(1≤x.size∧x.size≤1048576∧16≤x.piece∧x.piece≤16384)→Value.bool (decide ((x.size+x.piece-1)/x.piece≤1024)) = .bool (bI x):=fun h=>congrArg Value.bool (by unfold bI;rw[decide_eq_decide];exact⟨fun g=>⟨h.1,h.2.1,h.2.2.1,h.2.2.2,g⟩,fun g=>g.2.2.2.2⟩)
 unfold dG
 refine aD.aw Tryz.func108 Tryz.ntmps108 fun G F R hE=>?_
 refine aB rfl ?_
 refine bG zr zr bE ?_
 intro b1
 repeat'(first|(with_reducible intro p6)|refine eZ ?_|refine hJ zr zr zr zr ?_ ?_|(refine mj ?_;refine lP zr zr zr ag ag (PN ag ag) ?_))
 all_goals(first|((refine ad hE Tryz.func108 zr zr ⟨hF ag,rfl⟩))|((refine ad hE Tryz.func108 zr zr ⟨hT ag,rfl⟩)))
def rR(x:Bl):aD Tryz.prog 53 [dG x] [] (fun r H=>r = .int .i64 (cC x)∧H=[]):=by
 unfold dG
 refine aD.aw Tryz.func53 Tryz.ntmps53 fun G F R hE=>?_
 refine aB rfl ?_
 refine bG zr zr bE ?_
 intro b1
 refine go ?_
 refine aH (U:=aR) 0 zr zr zr zr zr zr ?_
 refine aN (N6 x) ?_
 cases hr:bI x with
 | false =>
  have hc:cC x=0:=by unfold cC;rw[if_neg (by rw[hr];simp)]
  rw[hc]at hE
  refine go ?_
  refine ad hE Tryz.func53 zr zr ⟨rfl,rfl⟩
 | true =>
  have hc:cC x=(x.size+x.piece-1)/x.piece:=by unfold cC;rw[if_pos hr]
  rw[hc]at hE
  simp only[bI,decide_eq_true_eq]at hr
  refine go ?_
  refine lP zr zr zr ag ag (PN ag ag) (go ?_)
  refine ad hE Tryz.func53 zr zr ⟨rfl,rfl⟩
def AI(x:Bl)(i:Int):aD Tryz.prog 23 [dG x,.int .i64 i] [] (fun r H=>r=(match dI x i with
  | none => .tuple #[.int .i64 0,.int .i64 0,.int .i64 1]
  | some (a,n) => .tuple #[.int .i64 a,.int .i64 n,.int .i64 0])∧H=[]):=by
 unfold dG
 refine aD.aw Tryz.func23 Tryz.ntmps23 fun G F R hE=>?_
 refine aB rfl ?_
 refine bG zr zr bE ?_
 intro b1
 have hN:(i<0∨cC x≤i)→dI x i=none:=fun h=>by unfold dI;rw[if_pos h]
 repeat'(first|(with_reducible intro p6)|refine eZ ?_|refine hJ zr zr zr zr ?_ ?_|refine au zr zr ?_ ?_|refine aH (U:=aR) 0 zr zr zr zr zr zr ?_|(refine aI (rR x) ?_;rintro _ _⟨rfl,rfl⟩))
 all_goals(first|(rw[hN ag]at hE;((refine ad hE Tryz.func23 zr zr ⟨rfl,rfl⟩)))|skip)
 have hs:dI x i=some (i*x.piece,min x.piece (x.size-i*x.piece)):=by unfold dI;rw[if_neg ag]
 rw[hs]at hE
 obtain⟨hr,Cj,Vn⟩:=yl (x:=x) (i:=i) ag ag
 simp only[bI,decide_eq_true_eq]at hr
 obtain⟨q,hq⟩:∃q,q=i*x.piece:=⟨_,rfl⟩
 rw[← hq]at Cj Vn hE
 refine aG (fun w=>Sat G w ([ae b1 (cl (bH x) 39)])) (dj 0 17 .nil) rfl aq aq aq eo ?_
 (repeat(first|refine eZ ?_|(refine mj ?_;refine iA zr zr zr (by rw[← hq];simp only[gy];omega) ?_;rw[← hq])))
 refine ad hE Tryz.func23 zr zr ⟨rfl,rfl⟩
def Jx:Tryz.prog.eqGuardType Tryz.prog.depth 37=false:=by kernel_rfl
def JH(a b:Dg)(w:World):(Op.equal 37 (.agg (dC a).toArray) (.agg (dC b).toArray)).run Tryz.prog w = .ok (decide (a=b)) w :=
 sV Tryz.underlying37 Tryz.underlying5 UF a b 9998 w
theorem AO(A:HP)(v:Value)(b:List UInt8)(hv:eO A v b)(hl:b.length≤900000000)(k:Int) :
  aD Tryz.prog 22 [v,.int .i64 k] [A] (fun r H=>(de b k=none∧r = .tuple #[.slice none 0 0,.int .i64 1]∧H=[A])∨∃ls rv,de b k=some ls∧r = .tuple #[rv,.int .i64 0]∧H=[aF 37 32 rv ls.length (ls.flatMap dC),A]):=by
 obtain⟨a,c,rfl,hc⟩:=hv.2
 refine aD.aw Tryz.func22 Tryz.ntmps22 fun G F R hE=>?_
 refine go ?_
 refine aN (rR ⟨Dg.zero,b.length,k,Dg.zero⟩) ?_
 cases hr:bI ⟨Dg.zero,b.length,k,Dg.zero⟩with
 | false =>
  have hn:de b k=none:=by unfold de;rw[if_neg (by rw[hr];simp)]
  have Lc:cC ⟨Dg.zero,b.length,k,Dg.zero⟩=0:=by unfold cC;rw[if_neg (by rw[hr];simp)]
  rw[Lc]
  refine go ?_
  refine ad hE Tryz.func22 zr zr (.inl ⟨hn,rfl,rfl⟩)
 | true =>
  have hs:de b k=some ((gJ k.toNat b.length b).map cS):=by unfold de;rw[if_pos hr]
  have Nm:cC ⟨Dg.zero,b.length,k,Dg.zero⟩=((b.length:Int)+k-1)/k:=by unfold cC;rw[if_pos hr]
  have zR:=lI hs
  simp only[bI,decide_eq_true_eq]at hr
  obtain⟨k,rfl⟩:∃m:Nat,k=m:=⟨k.toNat,ag⟩
  rw[Int.toNat_natCast]at hs zR
  have qg:=nC k (show 0<k by omega) b
  have hpg:=lF k (show 0<k by omega) b.length b
  rw[Nm,show((b.length:Int)+(k:Int)-1)/(k:Int)=(((gJ k b.length b).length:Nat):Int)from by rw[qg,Int.natCast_ediv];congr 1;omega]
  rw[List.length_map]at zR
  obtain⟨ps,Zv⟩:∃ps,ps=gJ k b.length b:=⟨_,rfl⟩
  rw[← Zv]at hs zR qg hpg ⊢
  refine go ?_
  refine au zr zr ?_ ?_
  ·grind
  intro _
  refine go ?_
  refine ai (bK 37 32 none _) ?_
  refine bB (fun y:Nat × Option Addr × Nat=>y.1≤ps.length) (fun y=>ps.length-y.1)
   (fun y=>[(0,.slice a b.length c),(1,.int .i64 (k:Int)),(6,.int .i64 (ps.length:Int)),(7,.slice y.2.1 ((ps.take y.1).map cS).length y.2.2),(8,.int .i64 (y.1:Int))])
   (fun y=>aF 37 32 (.slice y.2.1 ((ps.take y.1).map cS).length y.2.2) ((ps.take y.1).map cS).length (((ps.take y.1).map cS).flatMap dC)::A::F) (0,none,0) (Nat.zero_le _) rfl ck ah ?_
  rintro⟨i,oa,oc⟩ hi ih
  simp only at hi
  dsimp only
  have pY:((ps.take i).map cS).length=i:=by rw[List.length_map,List.length_take];omega
  refine go ?_
  refine au zr zr ?_ ?_
  ·intro dJ
   have gz:i<ps.length:=by omega
   obtain⟨p,hp⟩:∃p,ps[i]?=some p:=⟨ps[i],by simp⟩
   have hpi:=hpg i (Nat.le_refl _)
   rw[hp]at hpi
   have Nh:i*k<b.length:=by
    grind
   rw[if_pos Nh]at hpi
   have hpe:p=(b.drop (i*k)).take k:=Option.some.inj hpi
   have Gh:p.length=min k (b.length-i*k):=by rw[hpe,List.length_take,List.length_drop]
   have af4:(i+1)*k=i*k+k:=by rw[Nat.add_mul,Nat.one_mul]
   have Cr:(i:Int)*(k:Int)=((i*k:Nat):Int):=(Int.natCast_mul i k).symm
   have Jp:((i:Int)+1)*(k:Int)=((i*k:Nat):Int)+k:=by rw[Int.add_mul,Int.one_mul,Cr]
   obtain⟨ik,aeZ⟩:∃ik,ik=i*k:=⟨_,rfl⟩
   rw[← aeZ]at Nh hpe Gh Cr Jp
   have Ld:=hv.piece ik (ik+p.length) ag ag
   rw[show ik+p.length-ik=p.length from by omega]at Ld
   have Zy:(b.drop ik).take p.length=p:=by
    grind
   rw[Zy]at Ld
   have kU:(ps.take (i+1)).map cS=(ps.take i).map cS++[cS p]:=by rw[List.take_add_one,hp];simp
   refine go ?_
   refine iA zr zr zr (by rw[Cr];simp only[gy];omega) ?_
   rw[Cr]
   refine go ?_
   refine iA zr zr zr (by rw[Jp];simp only[gy];omega) ?_
   rw[Jp]
   refine go ?_
   have Q0:min (b.length:Int) (((ik:Nat):Int)+(k:Int))=((ik+p.length:Nat):Int):=by rw[Gh];omega
   refine bt (p:=((ik:Nat):Int)) (q:=min (b.length:Int) (((ik:Nat):Int)+(k:Int))) zr zr zr zr zr zr zr ag ag (.inr ag) ?_
   ((refine az 33 ((.slice (sliceAt a c ik 1) p.length (c-ik))) rfl ((by rw[Q0,Int.toNat_natCast,Int.toNat_natCast,show ik+p.length-ik=p.length from by omega];rfl)) ?_))
   refine aN (Hn A _ p Ld ag) ?_
   refine ao (cs:=dC (cS p)) zr zr zr zr zr zr zr zr zr bE ?_
   intro row
   refine aT (mm:=1) (news:=dC (cS p)) 2 0 zr zr zr zr zr zr zr zr zr zr zr zr (Vw.ae rfl) rfl (by rw[dL];exact db _) (by rw[pY];omega) (by show(_+_)*32≤_;rw[pY];omega) (fun _=>rfl) bE ?_
   intro v1
   rw[show((ps.take i).map cS).flatMap dC++dC (cS p)=((ps.take (i+1)).map cS).flatMap dC from by rw[kU];simp,show((ps.take i).map cS).length+1=((ps.take (i+1)).map cS).length from by rw[kU];simp]
   refine aP 2 rfl ?_
   rintro ja jc rfl
   refine go ?_
   refine aM ih (i+1,ja,jc) rfl (by simp only;omega) (by simp only;omega) ck ah
  ·intro fO
   have tR:i=ps.length:=by omega
   subst tR
   rw[List.take_length]
   refine go ?_
   refine ad hE Tryz.func22 zr zr (.inr ⟨_,_,hs,rfl,rfl⟩)
def HS(A:HP)(v:Value)(b:List UInt8)(hv:eO A v b)(hl:b.length≤900000000)(k:Int) :
  aD Tryz.prog 18 [v,.int .i64 k] [A] (fun r H=>r=(match gg b k with
   | none => .tuple #[dG Bl.zero,.int .i64 1]
   | some x => .tuple #[dG x,.int .i64 0])∧H=[A]):=by
 have vI:=hv
 obtain⟨a,c,rfl,hc⟩:=hv.2
 refine aD.aw Tryz.func18 Tryz.ntmps18 fun G F R hE=>?_
 refine aB rfl ?_
 refine aC zr zr zr bE ?_
 intro b4
 refine go ?_
 refine aI (AO A _ b hv hl k) ?_
 rintro _ _ (⟨hn,rfl,rfl⟩|⟨ls,rv,hs,rfl,rfl⟩)
 ·have hb:gg b k=none:=by unfold gg;rw[hn];rfl
  rw[hb]at hE
  refine go ?_
  (refine aZ hE ?_;apply aW (U:=aR) hE Tryz.func18 rfl (ak.refl _);(repeat(first|exact aQ.nil|apply aQ.tmp rfl|apply aQ.agg 1 zr zr zr zr zr));exact⟨rfl,rfl⟩;exact ah)
 ·have hb:gg b k=some ⟨dW b,b.length,k,zh ls⟩:=by unfold gg;rw[hs];rfl
  rw[hb]at hE
  have zR:=lI hs
  refine aP 0 rfl ?_
  rintro ra rc rfl
  refine go ?_
  refine aN (LB A _ b hv ag) ?_
  refine go ?_
  refine aJ (ak.pick [1,0] rfl) ?_
  refine vu fun dO=>?_
  ((refine aI (RR _ _ ls (dO.mono (aY (i:=0) rfl)) ag (by intro e;rw[e]at zR;simp at zR)) ?_))
  rintro _ _⟨rfl,rfl⟩
  refine aJ (ak.cK _ _) (go ?_)
  (refine aZ hE ?_;apply aW (U:=aR) hE Tryz.func18 rfl (ak.refl _);(repeat(first|exact aQ.nil|apply aQ.tmp rfl|apply aQ.agg 2 zr zr zr zr zr));exact⟨rfl,rfl⟩;exact ah)
attribute [local irreducible] aE
def tE{A:Ab}(h:LR A)(nm:ByteArray):((eN A nm).getD []).length≤1048576:=by
 unfold eN
 cases A.look nm with
 | none=>simp
 | some f =>
  cases A.off with
  | true=>simp
  | false=>simpa using h.now f
def BF(X:HP)(hK:oZ X)(bs bd:Nat)(q:Int)(mb:Nat)(brk:Bool)(A:Ab)(d:Dg):aD Tryz.prog 63 [ptr bs,dV d] [ae bs (cl (eR bd q mb brk) 113),aE bd A,X]
  (fun r H=>r = .bool (jS A d)∧H=[ae bs (cl (eR bd q mb brk) 113),aE bd A,X]):=by
 have hf:=oO kB d (by decide)
 refine aD.aw Tryz.func63 Tryz.ntmps63 fun G F R hE=>?_
 refine aB rfl ?_
 refine bG zr zr bE ?_
 intro b3
 refine LK (bd:=bd) (A:=A) 2 rfl ?_
 intro Jm
 refine go ?_
 refine aH (U:=aR) (l:=dC d) 0 zr zr zr zr zr zr ?_
 refine aN hf ?_
 refine aI (wP bs bd q mb brk A (dv kB d)) ?_
 rintro _ _⟨rv,rfl,rfl⟩
 have hw:jS A d=match eN A (dv kB d)with|none=>false|some b=>decide (dW b=d):=rfl
 have kQ:=tE Jm (dv kB d)
 cases hb:eN A (dv kB d)with
 | none =>
  rw[hb]at hw
  rw[hw]at hE
  refine go ?_
  refine aG (fun w=>Sat G w ([])) (dj 0 3 (.st 4 (.act 3 (dj 5 3 .nil)))) rfl aq aq aq eo ?_
  refine go ?_
  refine ad hE Tryz.func63 zr zr ⟨rfl,rfl⟩
 | some b =>
  rw[hb]at hw kQ
  rw[hw]at hE
  simp only[Option.getD_some]at kQ ⊢
  refine gX (bs:=b) 0 rfl ?_
  intro VI
  refine aJ (ak.trans (ak.pick [0,4] rfl) (ak.bX [aF 5 1 rv b.length (bV b),X] _)) ?_
  have qc:=yA _ (hK.mono (aY (H:=[aF 5 1 rv b.length (bV b),X]) (i:=1) rfl)) rv b (VI.mono (aY (i:=0) rfl)) ag
  refine go ?_
  refine aG (fun w=>Sat G w ([ae b3 (cl (dC d) 37)])) (dj 0 3 (.st 4 (.act 3 (dj 5 3 .nil)))) rfl aq aq aq eo ?_
  refine go ?_
  refine bT (U:=aR) (l:=dC d) 0 zr zr zr zr zr zr (go ?_)
  refine bp qc ?_
  refine go ?_
  refine lC (b:=decide (dW b=d)) zr zr zr Jx (fun w=>JH (dW b) d w) ?_
  refine go ?_
  refine ai (ak.cK _ _) ?_
  refine ad hE Tryz.func63 zr zr ⟨rfl,rfl⟩
def Kd(bs bd:Nat)(q:Int)(mb:Nat)(brk:Bool)(A:Ab)(d:Dg):aD Tryz.prog 117 [ptr bs,dV d] [ae bs (cl (eR bd q mb brk) 113),aE bd A]
  (fun r H=>∃rv,r = .tuple #[Tv rv,.bool (pF A d).isSome]∧H=[aF 39 66 rv ((pF A d).getD []).length (((pF A d).getD []).flatMap bH),ae bs (cl (eR bd q mb brk) 113),aE bd A]):=by
 have hf:=oO kI d (by decide)
 refine aD.aw Tryz.func117 Tryz.ntmps117 fun G F R hE=>?_
 refine aB rfl ?_
 refine bG zr zr bE ?_
 intro b3
 refine aC zr zr zr bE ?_
 intro b4
 refine LK (bd:=bd) (A:=A) 3 rfl ?_
 intro Jm
 refine go ?_
 refine aH (U:=aR) (l:=dC d) 1 zr zr zr zr zr zr ?_
 refine aN hf ?_
 refine aI (wP bs bd q mb brk A (dv kI d)) ?_
 rintro _ _⟨rv,rfl,rfl⟩
 have hw:pF A d=(eN A (dv kI d)).bind Ak:=rfl
 have kQ:=tE Jm (dv kI d)
 cases hb:eN A (dv kI d)with
 | none =>
  rw[hb]at hw
  rw[hw]at hE
  refine go ?_
  refine ai (bK 39 66 none _) ?_
  (refine aZ hE ?_;apply aW (U:=aR) hE Tryz.func117 rfl (ak.refl _);(repeat(first|exact aQ.nil|apply aQ.tmp rfl|apply aQ.agg 4 zr zr zr zr zr));exact⟨_,rfl,rfl⟩;exact ah)
 | some b =>
  rw[hb]at hw kQ
  simp only[Option.getD_some,Option.bind_some]at kQ hw ⊢
  rw[hw]at hE
  refine gX (bs:=b) 0 rfl ?_
  intro VI
  refine go ?_
  refine aI (FY _ rv b VI ag) ?_
  rintro _ _ (⟨hn,⟨e,he,rfl⟩,rfl⟩|⟨l,lv,hs,rfl,rfl⟩)
  ·rw[hn]at hE
   refine go ?_
   refine aC zr zr zr bE ?_
   intro b8
   refine go ?_
   refine aH (U:=aR) (l:=[.slice none 0 0]) 0 zr zr zr zr zr zr (go ?_)
   refine az 27 ((.bool false)) rfl ((congrArg Value.bool (decide_eq_false he))) (go ?_)
   (refine aV ?_;(refine cF 4 gf zr zr zr zr zr zr zr zr zr ?_))
   refine go ?_
   refine ai (bK 39 66 none _) ?_
   (refine aZ hE ?_;apply aW (U:=aR) hE Tryz.func117 rfl (ak.refl _);(repeat(first|exact aQ.nil|apply aQ.tmp rfl|apply aQ.agg 5 zr zr zr zr zr));exact⟨_,rfl,rfl⟩;exact ah)
  ·rw[hs]at hE
   refine aP 0 rfl ?_
   rintro la lc rfl
   refine go ?_
   refine aC zr zr zr bE ?_
   intro b8
   refine go ?_
   refine aH (U:=aR) (l:=[.slice la l.length lc]) 0 zr zr zr zr zr zr (go ?_)
   (refine aV ?_;(refine cF 5 gf zr zr zr zr zr zr zr zr zr ?_))
   refine go ?_
   (refine aZ hE ?_;apply aW (U:=aR) hE Tryz.func117 rfl (ak.refl _);(repeat(first|exact aQ.nil|apply aQ.tmp rfl|apply aQ.agg 5 zr zr zr zr zr));exact⟨_,rfl,rfl⟩;exact ah)
def JL(X:HP)(hK:oZ X)(b2 bs bd:Nat)(q:Int)(mb:Nat)(brk:Bool)(A:Ab)(y:Bl) :
  aD Tryz.prog 119 [dG y,ptr b2] [Sep [ae b2 (cl [ptr bs] 30),ae bs (cl (eR bd q mb brk) 113),aE bd A,X] ]
  (fun r H=>r = .bool (!jS A y.d)∧H=[Sep [ae b2 (cl [ptr bs] 30),ae bs (cl (eR bd q mb brk) 113),aE bd A,X] ]):=by
 have hw:=BF X hK bs bd q mb brk A y.d
 refine aD.aw Tryz.func119 Tryz.ntmps119 fun G F R hE=>?_
 refine aB rfl ?_
 refine bG zr zr bE ?_
 intro b0
 refine aJ (ak.trans (ak.pick [1] rfl) (ak.cK [_,_,_,_] _)) (go ?_)
 refine dT 4 zr zr zr zr zr zr ?_
 refine aN hw ?_
 refine go ?_
 refine ai (ak.trans (ak.pick [3,0,1,2] rfl) (ak.bX [_,_,_,_] _)) ?_
 refine ad hE Tryz.func119 zr zr ⟨rfl,rfl⟩
def Ao{A:Ab}{d:Dg}(h:pF A d=none):gk A d=false:=by unfold gk;rw[h]
theorem An{A:Ab}{d:Dg}{l:List Bl}(h:pF A d=some l):gk A d=(decide (zx l=d) && !l.any fun y => !jS A y.d):=by
 grind [gk]
def MX{A:Ab}{d:Dg}{l:List Bl}(h:pF A d=some l):ig l=0:=by
 obtain⟨b,_,hb⟩:=Option.bind_eq_some_iff.1 h
 exact JJ hb
def DW(X:HP)(hK:oZ X)(bs bd:Nat)(q:Int)(mb:Nat)(brk:Bool)(A:Ab)(d:Dg):aD Tryz.prog 66 [ptr bs,dV d] [ae bs (cl (eR bd q mb brk) 113),aE bd A,X]
  (fun r H=>r = .bool (gk A d)∧H=[ae bs (cl (eR bd q mb brk) 113),aE bd A,X]):=by
 have hi:=Kd bs bd q mb brk A d
 refine aD.aw Tryz.func66 Tryz.ntmps66 fun G F R hE=>?_
 refine aB rfl ?_
 refine bG zr zr bE ?_
 intro b2
 refine bG zr zr bE ?_
 intro b3
 refine go ?_
 refine aH (U:=aR) (l:=dC d) 0 zr zr zr zr zr zr ?_
 refine aI hi ?_
 rintro _ _⟨rv,rfl,rfl⟩
 refine aP 0 rfl ?_
 rintro ra rc rfl
 refine go ?_
 refine aC zr zr zr bE ?_
 intro b5
 refine go ?_
 cases TW:pF A d with
 | none =>
  rw[Ao TW]at hE
  have oG:=Hl X hK (.slice ra 0 rc) [] (Vw.nil X ra rc) (by simp)
  refine aH (U:=aR) (l:=[.slice ra 0 rc]) 0 zr zr zr zr zr zr ?_
  refine aN oG ?_
  refine go ?_
  refine aC zr zr zr bE ?_
  intro b7
  refine go ?_
  refine ad hE Tryz.func66 zr zr ⟨rfl,rfl⟩
 | some l =>
  have iJ:=MX TW
  have hlr:=pG iJ
  rw[An TW]at hE
  refine UT 1 rfl ?_
  intro dO kj
  refine aJ (H':=Sep [aF 39 66 (.slice ra l.length rc) l.length (l.flatMap bH),X]::ae b5 (cl [.slice ra l.length rc] 161)::ae bs (cl (eR bd q mb brk) 113)::aE bd A::ae b3 (cl (dC d) 37)::ae b2 (cl [ptr bs] 30)::F) (ak.trans (H2:=aF 39 66 (.slice ra l.length rc) l.length (l.flatMap bH)::X::ae b5 (cl [.slice ra l.length rc] 161)::ae bs (cl (eR bd q mb brk) 113)::aE bd A::ae b3 (cl (dC d) 37)::ae b2 (cl [ptr bs] 30)::F) ah (ak.bX [_,_] _)) ?_
  have oG:=Hl _ (hK.mono (aY (H:=[aF 39 66 (.slice ra l.length rc) l.length (l.flatMap bH),X]) (i:=1) rfl)) _ l (dO.mono (aY (i:=0) rfl)) ag
  rw[if_pos iJ]at oG
  refine aH (U:=aR) (l:=[.slice ra l.length rc]) 1 zr zr zr zr zr zr ?_
  refine aN oG ?_
  refine go ?_
  refine aC zr zr zr bE ?_
  intro b7
  refine go ?_
  refine aH (U:=aR) (l:=dC (zx l)) 0 zr zr zr zr zr zr (go ?_)
  refine aH (U:=aR) (l:=dC d) 5 zr zr zr zr zr zr (go ?_)
  refine lC (b:=decide (zx l=d)) zr zr zr Jx (fun w=>JH (zx l) d w) ?_
  by_cases jh:zx l=d
  ·rw[decide_eq_true jh]at hE ⊢
   refine go ?_
   refine aJ (H':=aF 39 66 (.slice ra l.length rc) l.length (l.flatMap bH)::Sep [ae b2 (cl [ptr bs] 30),ae bs (cl (eR bd q mb brk) 113),aE bd A,X]::F) (ak.trans (ak.trans (ak.pick [1] rfl) (ak.cK [_,_] _)) (ak.trans (H2:=ae b2 (cl [ptr bs] 30)::ae bs (cl (eR bd q mb brk) 113)::aE bd A::X::aF 39 66 (.slice ra l.length rc) l.length (l.flatMap bH)::F) ah (ak.trans (ak.bX [_,_,_,_] _) ah))) ?_
   refine aN (p9 _ (Sep [ae b2 (cl [ptr bs] 30),ae bs (cl (eR bd q mb brk) 113),aE bd A,X]) _ l dO ag 119 [ptr b2] (fun y => !jS A y.d) (fun y _=>JL X hK b2 bs bd q mb brk A y)) ?_
   refine go ?_
   refine ai (ak.trans (ak.pick [1] rfl) (ak.cK [_,_,_,_] _)) ?_
   refine ad hE Tryz.func66 zr zr ⟨rfl,rfl⟩
  ·rw[decide_eq_false jh]at hE ⊢
   refine go ?_
   refine ai (ak.trans (ak.pick [1] rfl) (ak.cK [_,_] _)) ?_
   refine ad hE Tryz.func66 zr zr ⟨rfl,rfl⟩
def Ec(g:FuncId)(fi:List Value)(Y:Ab→HP)(right:Ab→Dg→Bool):Prop:=∀(A:Ab) (d:Dg),aD Tryz.prog g (fi++[dV d]) [Y A] (fun r H=>r = .bool (right A d)∧H=[Y A])
end Go.Proofs.YthnfckodljbgbaaGreatDoor
