import Derived.Test.YtlionahpheehaaaGreatDoorQTP2
import Derived.Test.YtlionahpheehaaaGreatDoorQTP3
import Derived.Test.YtlionahpheehaaaGreatDoorQTP6
import Derived.Test.YtlionahpheehaaaGreatDoorQTP7
import Derived.Shelf.SortG.Plain
import Derived.Shelf.SortG.SortNone
import Derived.Test.YtlionahpheehaaaGreatDoorChecked
set_option linter.unusedSectionVars false
set_option linter.unusedSimpArgs false
set_option linter.unusedVariables false
set_option maxHeartbeats 1000000
set_option maxRecDepth 20000
set_option linter.defProp false
namespace Go.Proofs.YtlionahpheehaaaGreatDoor
open Go Go.SL
attribute [local irreducible] J K aH Ends ak aK aV bX bj aS bp bD cp Sha.chunks Sha.chunk Sha.rounds Sha.sched fz cY GI fG
def RX(o:Option Bl):Value:=match o with
 | none => .tuple #[ix Bl.zero,.bool false]
 | some x => .tuple #[ix x,.bool true]
def KE{b:List UInt8}(h:nJ b=none):n7 b=none:=by unfold n7;rw[h]
theorem Oj{b:List UInt8}{xs:List (Int × List UInt8)}(h:nJ b=some xs)(hl:xs.length≠4):n7 b=none:=by
 grind [n7]
def KF{b:List UInt8}{n1 n2 n3 n4:Int}{b1 b2 b3 b4:List UInt8}(h:nJ b=some [(n1,b1),(n2,b2),(n3,b3),(n4,b4)]) :
  n7 b=if n4≠4∨b1.length≠32∨b4.length≠32 then none else match cH b2,cH b3 with
  | some s,some p=>if 1048576<max s p then none else some ⟨wI b1,s,p,wI b4⟩
  | _,_=>none:=by unfold n7;rw[h];rfl
theorem Bw{b:List UInt8}(h:b.length=32):bV b=dC (wI b):=by
 grind [wI,fg]
theorem F7:∀(f:Nat) (b:List UInt8) (x:Int × List UInt8),x∈rA f b→x.2.length≤b.length
 | 0,b,x,h=>by simp[rA]at h
 | f+1,[],x,h=>by simp[rA]at h
 | f+1,c::r,x,h=>by
  have h1:=px r
  rw[rA]at h
  rw[List.length_cons]
  split at h
  ·rcases List.mem_cons.1 h with rfl|h
   ·grind
   ·have:=F7 f _ x h
    grind
  grind
def vE{b:List UInt8}{l:List (Int × List UInt8)}(h:nJ b=some l):∀x∈l,x.2.length≤65536:=by
 unfold nJ at h
 split at h
 ·cases h
 ·split at h
  ·cases h
   intro x hx
   have:=F7 _ _ x hx;omega
  ·cases h
def Dh(A:HP)(v:Value)(b:List UInt8)(hv:eU A v b)(hl:b.length≤1000000000) :
  aH Tryz.prog 230 [v] [A] (fun r H=>r=RX (n7 b)∧H=[A]):=by
 have O2:=jy A v b hv hl
 obtain⟨a,c,rfl,hc⟩:=hv.2
 refine aH.aC Tryz.func230 Tryz.ntmps230 fun G F R hE=>?_
 refine aP rfl ?_
 refine aL zr zr zr bO ?_
 intro b2
 refine go ?_
 refine ao O2 ?_
 rintro _ _ (⟨hn,rfl,rfl⟩|⟨xs,eu,Z,rv,hs,mO,⟨dH,vv⟩,rfl,rfl,-⟩)
 ·rw[KE hn]at hE
  repeat'(first|refine g9 ?_|fail)
  all_goals((skip))
  (refine bL hE ?_;apply bH (U:=bh) hE Tryz.func230 rfl (aq.refl _);(repeat(first|exact ae.nil|apply ae.tmp rfl|apply ae.agg 1 zr zr zr zr zr));exact⟨rfl,rfl⟩;exact ad)
 obtain⟨ra,rc,rfl⟩:=dH.shape
 by_cases h4:eu.length=4
 case neg =>
  rw[Oj hs (by rw[← mO,List.length_map];exact h4)]at hE
  repeat'(first|(with_reducible intro k9)|refine g9 ?_|refine dA zr zr zr zr ?_ ?_|fail)
  all_goals(first|(exfalso;omega)|skip)
  (refine bL hE ?_;apply bH (U:=bh) hE Tryz.func230 rfl (aq.refl _);(repeat(first|exact ae.nil|apply ae.tmp rfl|apply ae.agg 2 zr zr zr zr zr));exact⟨rfl,rfl⟩;exact ad)
 obtain⟨i1,i2,i3,i4,rfl⟩:∃i1 i2 i3 i4,eu=[i1,i2,i3,i4]:=by
  match eu,h4 with
  | [i1,i2,i3,i4],_=>exact⟨i1,i2,i3,i4,rfl⟩
 obtain⟨n1,v1,b1⟩:=i1
 obtain⟨n2,v2,RV⟩:=i2
 obtain⟨n3,v3,KD⟩:=i3
 obtain⟨n4,v4,bs4⟩:=i4
 have nN:eU Z v1 b1:=vv ⟨n1,v1,b1⟩ (by simp)
 have qZ:eU Z v2 RV:=vv ⟨n2,v2,RV⟩ (by simp)
 have I7:eU Z v3 KD:=vv ⟨n3,v3,KD⟩ (by simp)
 have hb4:eU Z v4 bs4:=vv ⟨n4,v4,bs4⟩ (by simp)
 obtain⟨a1,c1,rfl,_⟩:=nN.2
 obtain⟨a2,c2,rfl,_⟩:=qZ.2
 obtain⟨a3,c3,rfl,_⟩:=I7.2
 obtain⟨a4,c4,rfl,_⟩:=hb4.2
 obtain⟨rb,ro,rcc,he⟩:=dH.some (by simp[kq])
 simp only[Value.slice.injEq]at he
 obtain⟨rfl,_,rfl⟩:=he
 simp only[List.map_cons,List.map_nil,It.p]at mO
 subst mO
 have FW:=KF hs
 have He:Vw Z (.slice (some ⟨rb,ro,none⟩) 4 rc) 4 [.int .i64 n1,.slice a1 b1.length c1,.int .i64 n2,.slice a2 RV.length c2,.int .i64 n3,.slice a3 KD.length c3,.int .i64 n4,.slice a4 bs4.length c4]:=dH
 have hN:(n4≠4∨b1.length≠32∨bs4.length≠32)→n7 b=none:=fun h=>by rw[FW,if_pos h]
 simp only[List.length_cons,List.length_nil,Nat.zero_add,Nat.reduceAdd]
 clear dH vv O2 h4
 repeat'(first|(with_reducible intro k9)|refine g9 ?_|refine dA zr zr zr zr ?_ ?_|refine aB zr zr ?_ ?_|refine cu 3 2 zr zr zr zr zr zr zr zr (by simp) ?_|refine cu 0 2 zr zr zr zr zr zr zr zr (by simp) ?_|refine aZ 0 (3*2+0) zr zr zr He (Nat.add_assoc _ _ _) zr zr zr ?_|refine aZ 0 (3*2+1) zr zr zr He (Nat.add_assoc _ _ _) zr zr zr ?_|refine aZ 0 (0*2+1) zr zr zr He (Nat.add_assoc _ _ _) zr zr zr ?_)
 ·rw[hN aj]at hE
  refine go ?_
  (refine bL hE ?_;apply bH (U:=bh) hE Tryz.func230 rfl (aq.refl _);(repeat(first|exact ae.nil|apply ae.tmp rfl|apply ae.agg 2 zr zr zr zr zr));exact⟨rfl,rfl⟩;exact ad)
 ·rw[hN aj]at hE
  refine go ?_
  (refine bL hE ?_;apply bH (U:=bh) hE Tryz.func230 rfl (aq.refl _);(repeat(first|exact ae.nil|apply ae.tmp rfl|apply ae.agg 2 zr zr zr zr zr));exact⟨rfl,rfl⟩;exact ad)
 ·rw[hN aj]at hE
  refine go ?_
  (refine bL hE ?_;apply bH (U:=bh) hE Tryz.func230 rfl (aq.refl _);(repeat(first|exact ae.nil|apply ae.tmp rfl|apply ae.agg 2 zr zr zr zr zr));exact⟨rfl,rfl⟩;exact ad)
 have hk4:n4=4:=by omega
 have Kb:b1.length=32:=by omega
 have hl4:bs4.length=32:=by omega
 rw[if_neg (by rintro(h|h|h) <;> exact h (by assumption))]at FW
 refine go ?_
 refine cu 1 2 zr zr zr zr zr zr zr zr aj (go ?_)
 refine aY ?_
 refine aZ 0 (1*2+1) zr zr zr He (Nat.add_assoc _ _ _) zr zr zr ?_
 have hm2:=vE hs (n2,RV) (by simp)
 have hm3:=vE hs (n3,KD) (by simp)
 simp only at hm2 hm3
 refine aeb (gn Z _ RV qZ aj) ?_
 cases hu2:cH RV with
 | none =>
  rw[hu2]at FW
  rw[FW]at hE
  simp only
  refine go ?_
  refine cu 2 2 zr zr zr zr zr zr zr zr aj (go ?_)
  refine aY ?_
  refine aZ 0 (2*2+1) zr zr zr He (Nat.add_assoc _ _ _) zr zr zr ?_
  refine aeb (gn Z _ KD I7 aj) ?_
  cases cH KD with
  | none =>
   simp only
   repeat'(first|refine g9 ?_|fail)
   all_goals((skip))
   (refine bL hE ?_;apply bH (U:=bh) hE Tryz.func230 rfl (aq.refl _);(repeat(first|exact ae.nil|apply ae.tmp rfl|apply ae.agg 2 zr zr zr zr zr));exact⟨rfl,rfl⟩;exact ad)
  | some p =>
   simp only
   repeat'(first|refine g9 ?_|fail)
   all_goals((skip))
   (refine bL hE ?_;apply bH (U:=bh) hE Tryz.func230 rfl (aq.refl _);(repeat(first|exact ae.nil|apply ae.tmp rfl|apply ae.agg 2 zr zr zr zr zr));exact⟨rfl,rfl⟩;exact ad)
 | some s =>
  rw[hu2]at FW
  simp only
  refine go ?_
  refine cu 2 2 zr zr zr zr zr zr zr zr aj (go ?_)
  refine aY ?_
  refine aZ 0 (2*2+1) zr zr zr He (Nat.add_assoc _ _ _) zr zr zr ?_
  refine aeb (gn Z _ KD I7 aj) ?_
  cases hu3:cH KD with
  | none =>
   rw[hu3]at FW
   rw[FW]at hE
   simp only
   repeat'(first|refine g9 ?_|fail)
   all_goals((skip))
   (refine bL hE ?_;apply bH (U:=bh) hE Tryz.func230 rfl (aq.refl _);(repeat(first|exact ae.nil|apply ae.tmp rfl|apply ae.agg 2 zr zr zr zr zr));exact⟨rfl,rfl⟩;exact ad)
  | some p =>
   rw[hu3]at FW
   simp only at FW ⊢
   repeat'(first|(with_reducible intro k9)|refine g9 ?_|refine aB zr zr ?_ ?_)
   all_goals((skip))
   ·rw[if_pos aj]at FW
    rw[FW]at hE
    refine go ?_
    (refine bL hE ?_;apply bH (U:=bh) hE Tryz.func230 rfl (aq.refl _);(repeat(first|exact ae.nil|apply ae.tmp rfl|apply ae.agg 2 zr zr zr zr zr));exact⟨rfl,rfl⟩;exact ad)
   ·rw[if_neg aj]at FW
    rw[FW]at hE
    have agc:s≤1048576:=by omega
    have agi:p≤1048576:=by omega
    obtain⟨xb1,xo1,xc1,S4⟩:=nN.1.some (by intro h;have:=congrArg List.length h;rw[bN,Kb]at this;cases this)
    simp only[Value.slice.injEq]at S4
    obtain⟨rfl,_,rfl⟩:=S4
    obtain⟨xb4,xo4,xc4,he4⟩:=hb4.1.some (by intro h;have:=congrArg List.length h;rw[bN,hl4]at this;cases this)
    simp only[Value.slice.injEq]at he4
    obtain⟨rfl,_,rfl⟩:=he4
    have ko:=nN.1
    rw[Bw Kb]at ko
    have hv4:=hb4.1
    rw[Bw hl4]at hv4
    refine aO (fun w=>Sat G w ([Z])) (dM 0 17 (.act 17 (.st 18 .nil))) rfl aw aw aw dI ?_
    refine go ?_
    (repeat(first|refine g9 ?_|refine cu 0 2 zr zr zr zr zr zr zr zr aj ?_|refine cu 3 2 zr zr zr zr zr zr zr zr aj ?_|(refine aY ?_;first|refine cQ 0 (0*2+1) zr zr zr He (Nat.add_assoc _ _ _) zr zr zr ?_|refine cQ 0 (3*2+1) zr zr zr He (Nat.add_assoc _ _ _) zr zr zr ?_|refine dP (U:=bh) (es:=dC (wI b1)) 0 0 zr zr zr ko rfl (fun j v hj=>by rw[Nat.zero_add];exact hj) zr zr zr ?_|refine dP (U:=bh) (es:=dC (wI bs4)) 0 0 zr zr zr hv4 rfl (fun j v hj=>by rw[Nat.zero_add];exact hj) zr zr zr ?_)|refine tJ (U:=bh) zr zr zr zr aj ?_))
    refine bE ?_
    refine aD 2 dI zr zr zr zr zr zr zr zr zr (go ?_)
    (refine bL hE ?_;apply bH (U:=bh) hE Tryz.func230 rfl (aq.refl _);(repeat(first|exact ae.nil|apply ae.tmp rfl|apply ae.agg 2 zr zr zr zr zr));exact⟨rfl,rfl⟩;exact ad)
theorem yS:∀(l:List (Int × List UInt8)) (i:Nat) (x:Int × List UInt8),jM i (l++[x])=match jM i l with
  | none=>none
  | some y=>match n7 x.2 with
   | none=>none
   | some z=>if x.1≠((i+l.length:Nat):Int)+1 then none else some (y++[z])
 | [],i,(n,b)=>by
  grind [jM,n7]
 | (m,c)::l,i,(n,b)=>by
  simp only[List.cons_append,jM,yS l (i+1) (n,b),List.length_cons]
  cases n7 c with
  | none=>rfl
  | some y =>
   grind
def yR:∀(l r:List (Int × List UInt8)) (i:Nat),jM i l=none→jM i (l++r)=none
 | [],r,i,h=>by cases h
 | (n,b)::l,r,i,h=>by
  simp only[List.cons_append,jM]at h ⊢
  cases hb:n7 b with
  | none=>rfl
  | some x =>
   rw[hb]at h
   simp only at h ⊢
   split at h
   ·rename_i hn;rw[if_pos hn]
   ·rename_i hn
    rw[if_neg hn]
    rw[yR l r (i+1) (by simpa using h)];rfl
theorem yO(A:HP)(v:Value)(b:List UInt8)(hv:eU A v b)(hl:b.length≤1000000000) :
  aH Tryz.prog 172 [v] [A] (fun r H=>(By b=none∧(∃e,e≠0∧r = .tuple #[LH (.slice none 0 0),.int .i64 e])∧H=[A]) ∨
   ∃l rv,By b=some l∧r = .tuple #[LH rv,.int .i64 0]∧H=[aK 31 66 rv l.length (l.flatMap ck),A]):=by
 have O2:=jy A v b hv hl
 obtain⟨a,c,rfl,hc⟩:=hv.2
 refine aH.aC Tryz.func172 Tryz.ntmps172 fun G F R hE=>?_
 refine aP rfl ?_
 refine aL zr zr zr bO ?_
 intro b2
 refine go ?_
 refine ao O2 ?_
 rintro _ _ (⟨hn,rfl,rfl⟩|⟨xs,eu,Z,rv,hs,mO,⟨dH,vv⟩,rfl,rfl,-⟩)
 ·have hd:By b=none:=by unfold By;rw[hn]
  repeat'(first|refine g9 ?_|fail)
  all_goals((skip))
  (refine bL hE ?_;apply bH (U:=bh) hE Tryz.func172 rfl (aq.refl _);(repeat(first|exact ae.nil|apply ae.tmp rfl|apply ae.agg 1 zr zr zr zr zr));exact(.inl ⟨hd,⟨2,by decide,rfl⟩,rfl⟩);exact ad)
 have Uo:By b=match jM 0 xs with|some x=>if hG x=0 then some x else none|none=>none:=by unfold By;rw[hs];rfl
 obtain⟨ra,rc,rfl⟩:=dH.shape
 have IX:eu.length≤65536:=by
  have h1:xs.length≤65536:=by
   unfold nJ at hs
   split at hs
   ·cases hs
   ·split at hs
    ·cases hs
     have:=vD _ b (Nat.le_refl _)
     grind [eP]
    ·cases hs
  grind
 repeat'(first|refine g9 ?_|fail)
 all_goals((skip))
 refine aL zr zr zr bO ?_
 intro b6
 refine go ?_
 refine al (aq.trans (aq.cg [] _) (bS 31 66 none _)) ?_
 refine bF (fun y:Nat × List Bl × Option Addr × Nat=>y.1≤eu.length∧jM 0 (xs.take y.1)=some y.2.1∧y.2.1.length=y.1) (fun y=>eu.length-y.1)
  (fun y=>[(2,ptr b2),(6,ptr b6),(20,.slice ra eu.length rc),(21,.int .i64 (eu.length:Int)),(22,.int .i64 (y.1:Int))])
  (fun y=>ak b6 (cl [.slice y.2.2.1 y.2.1.length y.2.2.2] 176)::aK 31 66 (.slice y.2.2.1 y.2.1.length y.2.2.2) y.2.1.length (y.2.1.flatMap ck)::Z::A::ak b2 (cl [.slice none 0 0] 176)::F) (0,[],none,0) ⟨Nat.zero_le _,rfl,rfl⟩ rfl cF ad ?_
 rintro⟨i,acc,xa,xc⟩⟨hi,gH,Ck⟩ ih
 simp only at hi gH Ck
 dsimp only
 refine go ?_
 refine aB zr zr ?_ ?_
 ·intro dk
  have e9:i<eu.length:=by omega
  obtain⟨it,NS⟩:∃x,eu[i]?=some x:=⟨eu[i],by simp⟩
  have hxi:xs[i]?=some (it.n,it.b):=by rw[← mO,List.getElem?_map,NS];rfl
  have Ki:=vv it (List.mem_of_getElem? NS)
  have adr:=vE hs _ (List.mem_of_getElem? hxi)
  have om:xs.take (i+1)=xs.take i++[(it.n,it.b)]:=by rw[List.take_add_one,hxi];rfl
  have HD:=yS (xs.take i) 0 (it.n,it.b)
  have l8:(xs.take i).length=i:=by rw[List.length_take,← mO,List.length_map];omega
  rw[← om,gH,l8,Nat.zero_add]at HD
  simp only at HD adr
  have ml:jM 0 (xs.take (i+1))=none→By b=none:=fun h=>by
   have:=yR _ (xs.drop (i+1)) 0 h
   rw[List.take_append_drop]at this
   grind
  obtain⟨rb,ro,rcc,he⟩:=dH.some (by rw[← List.length_pos_iff,bR iy];omega)
  simp only[Value.slice.injEq]at he
  obtain⟨rfl,_,rfl⟩:=he
  obtain⟨xn,xv,xb⟩:=it
  simp only at Ki HD adr
  obtain⟨va,vc,rfl,_⟩:=Ki.2
  refine go ?_
  refine cu i 2 zr zr zr zr zr zr zr zr e9 ?_
  refine aY ?_
  refine cK (U:=bh) (es:=kq ⟨xn,.slice va xb.length vc,xb⟩) 2 (i*2) zr zr zr dH rfl (fun j v hj=>?_) zr zr zr ?_
  ·rw[cM iy NS j (by rcases Nat.lt_or_ge j 2 with h|h;exact h;rw[List.getElem?_eq_none (by rw[iy];exact h)]at hj;cases hj)];exact hj
  refine aL zr zr zr bO ?_
  intro b8
  refine go ?_
  refine aeb (Dh Z _ xb Ki aj) ?_
  cases FW:n7 xb with
  | none =>
   rw[FW]at HD
   have u3:=ml HD
   simp only[RX]
   refine go ?_
   refine aL zr zr zr bO ?_
   intro b9
   refine go ?_
   (refine bE ?_;(refine aD 6 eH zr zr zr zr zr zr zr zr zr ?_))
   refine go ?_
   (refine bL hE ?_;apply bH (U:=bh) hE Tryz.func172 rfl (aq.refl _);(repeat(first|exact ae.nil|apply ae.tmp rfl|apply ae.agg 6 zr zr zr zr zr));exact(.inl ⟨u3,⟨2,by decide,rfl⟩,rfl⟩);exact ad)
  | some z =>
   rw[FW]at HD
   simp only[RX]at HD ⊢
   unfold ix
   refine go ?_
   refine aL zr zr zr bO ?_
   intro b9
   repeat'(first|(with_reducible intro k9)|refine g9 ?_|refine aB zr zr ?_ ?_)
   ·rw[if_pos aj]at HD
    have u3:=ml HD
    (refine bE ?_;(refine aD 6 eH zr zr zr zr zr zr zr zr zr ?_))
    refine go ?_
    (refine bL hE ?_;apply bH (U:=bh) hE Tryz.func172 rfl (aq.refl _);(repeat(first|exact ae.nil|apply ae.tmp rfl|apply ae.agg 6 zr zr zr zr zr));exact(.inl ⟨u3,⟨2,by decide,rfl⟩,rfl⟩);exact ad)
   ·rw[if_neg aj]at HD
    refine aW (U:=bh) (l:=ck z) 0 zr zr zr zr zr zr ?_
    refine az (cs:=ck z) zr zr zr zr zr zr zr zr zr bO ?_
    intro row
    refine go ?_
    refine bg (mm:=1) (news:=ck z) 5 0 zr zr zr zr zr zr zr zr zr zr zr zr (Vw.ak rfl) rfl (by have:=UX [z];simpa using this) aj (by show(_+_)*80≤_;omega) (fun _=>rfl) bO ?_
    intro v1
    rw[show acc.flatMap ck++ck z=(acc++[z]).flatMap ck from by simp,show acc.length+1=(acc++[z]).length from by simp]
    refine aN 5 rfl ?_
    rintro ja jc rfl
    refine go ?_
    refine bE ?_
    refine aD 4 eH zr zr zr zr zr zr zr zr zr (go ?_)
    refine aQ ih (i+1,acc++[z],ja,jc) rfl ⟨by simp only;omega,HD,by simp only[List.length_append,List.length_singleton];omega⟩ (by simp only;omega) cF ad
 ·intro fO
  have ue:i=eu.length:=by omega
  have fH:xs.take i=xs:=by rw[List.take_of_length_le];rw[← mO,List.length_map];omega
  rw[fH]at gH
  rw[gH]at Uo
  simp only at Uo
  clear ih
  refine eE 1 rfl ?_
  intro hva
  refine go ?_
  refine aW (U:=bh) (l:=[.slice xa acc.length xc]) 0 zr zr zr zr zr zr ?_
  refine aeb (yu _ _ acc hva aj) ?_
  repeat'(first|(with_reducible intro k9)|refine g9 ?_|refine aB zr zr ?_ ?_)
  ·rw[if_neg aj]at Uo
   (refine bE ?_;(refine aD 4 eH zr zr zr zr zr zr zr zr zr ?_))
   refine go ?_
   (refine bL hE ?_;apply bH (U:=bh) hE Tryz.func172 rfl (aq.refl _);(repeat(first|exact ae.nil|apply ae.tmp rfl|apply ae.agg 4 zr zr zr zr zr));exact(.inl ⟨Uo,⟨2,by decide,rfl⟩,rfl⟩);exact ad)
  ·rw[if_pos aj]at Uo
   refine aW (U:=bh) (l:=[.slice xa acc.length xc]) 1 zr zr zr zr zr zr (go ?_)
   refine bE ?_
   refine aD 4 eH zr zr zr zr zr zr zr zr zr (go ?_)
   (refine bL hE ?_;apply bH (U:=bh) hE Tryz.func172 rfl (aq.refl _);(repeat(first|exact ae.nil|apply ae.tmp rfl|apply ae.agg 4 zr zr zr zr zr));exact(.inr ⟨acc,_,Uo,rfl,rfl⟩);exact ad)
end Go.Proofs.YtlionahpheehaaaGreatDoor
namespace Go.SL
open Go.Proofs Go.Shelf Go.RowKit Go.Lib Go.Sort
theorem Sat.grown{G:cL}{w:World}{H:List HP}(hs:Sat G w H)(os:Array Obj):Sat G (Sort.grow w os) H:=by
 obtain⟨a,b,c,h,hw,hh⟩:=hs
 refine⟨a,b,c,h,fun x o e=>?_,hh⟩
 have h1:=hw x o e
 obtain⟨h2,-⟩:=Array.getElem?_eq_some_iff.1 h1
 show(w.heap++os)[x]?=some o
 grind
def Sat.ahead{G:cL}{w:World}{H:List HP}(hs:Sat G w H)(n:Nat):Sat G (Sort.ahead w n) H:=hs.draw _ (Nat.le_add_right _ _)
theorem Sat.aen{G:cL}{w:World}{H:List HP}{b:Nat}{l l':List Value}{e:TypeId}(hs:Sat G w (ak b (cl l e)::H))(f:Array Value→Array Value)(hf:f l.toArray=l'.toArray):Sat G (Sort.mapBlock w b f) (ak b (cl l' e)::H):=by
 have hb:=hs.get (i:=0) rfl
 obtain⟨dk,qZ⟩:=Array.getElem?_eq_some_iff.1 hb
 have hm:w.heap.modify b (Sort.onCells f)=w.heap.setIfInBounds b (cl l' e):=by
  apply Array.ext_getElem?
  intro i
  rw[Array.getElem?_modify,Array.getElem?_setIfInBounds]
  by_cases h:b=i
  ·subst h
   rw[if_pos rfl,if_pos rfl,if_pos dk,hb]
   simp only[Option.map_some]
   unfold cl Sort.onCells
   grind
  grind
 unfold Sort.mapBlock
 rw[hm]
 exact hs.Es
variable{P:Program}{ρ:Ren}{α:Type}[Inhabited α]
theorem EE(pre cs k6 junk:List Value)(hl:k6.length=cs.length):Sort.putCells id pre.length k6.toArray (pre++cs++junk).toArray=(pre++k6++junk).toArray:=by
 apply Array.ext_getElem?
 intro i
 unfold Sort.putCells
 grind
theorem NK{w:World}{b:Nat}{e:TypeId}{pre cs junk:List Value}(hb:w.heap[b]?=some (cl (pre++cs++junk) e)):Sort.Holds id w b pre.length cs.toArray:=by
 intro j hj
 simp only[List.size_toArray]at hj
 constructor
 ·unfold World.cell?
  grind [cl]
 ·unfold World.frozen?
  grind [cl]
end Go.SL
namespace Go.SL
open Go.Proofs Go.Shelf Go.RowKit Go.Lib Go.Sort
variable{P:Program}{ρ:Ren}
theorem Ge(L:SlLaysN.n54 P ρ)(e:TypeId)(v:Value)(l:List (List UInt8))(Rx:P.funcs[ρ.f 54]?.map nB=some true)(kr:l.length<4611686018427387904) :
  aH P (ρ.f 54) [v] [aK e 1 v l.length (l.map encStr)] (fun r H=>r = .tuple #[]∧H=[aK e 1 v l.length ((l.mergeSort fun x y=>decide (x≤y)).map encStr)]):=by
 refine⟨Rx,fun G w F hs=>?_⟩
 obtain⟨t,o,u,hp,O3,hA,hB,⟨hl,g8⟩,V6,hd,he⟩:=hs
 rcases g8 with⟨a0,rfl,hn,Kf⟩|⟨b,oo,cap,pre,junk,rfl,mH,hn,jE,Bc⟩
 ·have Ue:l=[]:=List.eq_nil_of_length_eq_zero hn
  subst Ue
  refine(AnyG.slices_Sort_string_none L a0 0 w).mono ?_
  rintro e' w'⟨rfl,rfl⟩
  exact⟨_,_,rfl,⟨rfl,rfl⟩,t,o,u,hp,O3,hA,hB,⟨by simp,.inl ⟨a0,rfl,rfl,Kf⟩⟩,V6,hd,he⟩
 ·have zI:Sat G w (ak b (cl (pre++l.map encStr++junk) e)::F):=⟨t,o,u,hp,O3,hA,hB,Bc,V6,hd,he⟩
  have hb:=zI.get (i:=0) rfl
  have dk:=zI.lt (i:=0) rfl
  subst mH
  have hH:Sort.Holds encStr w b pre.length l.toArray:=by
   have h0:=NK hb
   intro j hj
   have:=h0 j (by simpa using hj)
   grind
  have hS:=AnyG.slices_Sort_string L b pre.length cap l w hH dk kr
  refine hS.mono ?_
  rintro e' w'⟨rfl,n,os,rfl⟩
  refine⟨_,_,rfl,⟨rfl,rfl⟩,?_⟩
  have EX:(l.mergeSort fun x y=>decide (x≤y)).length=l.length:=List.length_mergeSort _
  have h3:=(zI.ahead n).aen (Sort.putCells encStr pre.length (l.mergeSort fun x y=>decide (x≤y)).toArray) (l':=pre++(l.mergeSort fun x y=>decide (x≤y)).map encStr++junk) (by
   refine Eq.trans ?_ (EE pre (l.map encStr) ((l.mergeSort fun x y=>decide (x≤y)).map encStr) junk (by rw[List.length_map,List.length_map,EX]))
   unfold Sort.putCells
   congr 1
   funext i x
   simp only[List.size_toArray,List.length_map,id]
   split
   ·rename_i h
    rw[getElem!_pos (List.map encStr _).toArray (i-pre.length) (by simp;omega),getElem!_pos (l.mergeSort fun x y=>decide (x≤y)).toArray (i-pre.length) (by simp;omega)]
    simp
   ·rfl)
  have h4:=h3.grown os
  refine h4.cI ?_
  exact jP rfl hn (by rw[List.length_map]at jE ⊢;rw[EX];exact jE) (by rw[List.length_map,EX,Nat.mul_one]) F
end Go.SL
namespace Go.Proofs.YtlionahpheehaaaGreatDoor
open Go Go.Shelf
def CX:Go.Shelf.Ren:=⟨fun|54=>165|64=>225|65=>224|78=>250|79=>251|80=>241|81=>242|82=>243|83=>244|84=>245|85=>246|61=>247|86=>248|87=>249|93=>258|89=>259|90=>260|94=>261|95=>262|69=>263|97=>266|n=>n,fun|25=>89|26=>9|3=>3|51=>121|0=>0|67=>154|69=>159|4=>4|61=>295|60=>294|44=>137|5=>5|9=>9|75=>308|79=>312|83=>318|84=>319|n=>n,fun|n=>n⟩
def acC:Go.Proofs.SlLaysN.n54 Tryz.prog CX:={
  mixed:=by kernel_rfl,
  f54:=⟨Tryz.f165.name,by decide,Tryz.func165.trans (congrArg some (by kernel_rfl))⟩,
  f61:=⟨Tryz.f247.name,by decide,Tryz.func247.trans (congrArg some (by kernel_rfl))⟩,
  f64:=Tryz.func225.trans (congrArg some (by kernel_rfl)),
  f65:=⟨Tryz.f224.name,by decide,Tryz.func224.trans (congrArg some (by kernel_rfl))⟩,
  f69:=⟨Tryz.f263.name,by decide,Tryz.func263.trans (congrArg some (by kernel_rfl))⟩,
  f78:=Tryz.func250.trans (congrArg some (by kernel_rfl)),
  f79:=Tryz.func251.trans (congrArg some (by kernel_rfl)),
  f80:=⟨Tryz.f241.name,by decide,Tryz.func241.trans (congrArg some (by kernel_rfl))⟩,
  f81:=⟨Tryz.f242.name,by decide,Tryz.func242.trans (congrArg some (by kernel_rfl))⟩,
  f82:=⟨Tryz.f243.name,by decide,Tryz.func243.trans (congrArg some (by kernel_rfl))⟩,
  f83:=⟨Tryz.f244.name,by decide,Tryz.func244.trans (congrArg some (by kernel_rfl))⟩,
  f84:=⟨Tryz.f245.name,by decide,Tryz.func245.trans (congrArg some (by kernel_rfl))⟩,
  f85:=⟨Tryz.f246.name,by decide,Tryz.func246.trans (congrArg some (by kernel_rfl))⟩,
  f86:=⟨Tryz.f248.name,by decide,Tryz.func248.trans (congrArg some (by kernel_rfl))⟩,
  f87:=⟨Tryz.f249.name,by decide,Tryz.func249.trans (congrArg some (by kernel_rfl))⟩,
  f89:=Tryz.func259.trans (congrArg some (by kernel_rfl)),
  f90:=Tryz.func260.trans (congrArg some (by kernel_rfl)),
  f93:=⟨Tryz.f258.name,by decide,Tryz.func258.trans (congrArg some (by kernel_rfl))⟩,
  f94:=⟨Tryz.f261.name,by decide,Tryz.func261.trans (congrArg some (by kernel_rfl))⟩,
  f95:=⟨Tryz.f262.name,by decide,Tryz.func262.trans (congrArg some (by kernel_rfl))⟩,
  f97:=⟨Tryz.f266.name,by decide,Tryz.func266.trans (congrArg some (by kernel_rfl))⟩,
  t0:=Tryz.underlying0,
  a0:=Tryz.isAgg0,
  z0:=Tryz.sizeOf0,
  v0:=Tryz.zeroValue0,
  t3:=Tryz.underlying3,
  a3:=Tryz.isAgg3,
  z3:=Tryz.sizeOf3,
  v3:=Tryz.zeroValue3,
  t4:=Tryz.underlying4,
  a4:=Tryz.isAgg4,
  z4:=Tryz.sizeOf4,
  v4:=Tryz.zeroValue4,
  t5:=Tryz.underlying5,
  a5:=Tryz.isAgg5,
  z5:=Tryz.sizeOf5,
  v5:=Tryz.zeroValue5,
  t9:=Tryz.underlying9,
  a9:=Tryz.isAgg9,
  z9:=Tryz.sizeOf9,
  v9:=Tryz.zeroValue9,
  t25:=Tryz.underlying89,
  a25:=Tryz.isAgg89,
  z25:=Tryz.sizeOf89,
  v25:=Tryz.zeroValue89,
  t26:=Tryz.underlying9,
  a26:=Tryz.isAgg9,
  z26:=Tryz.sizeOf9,
  v26:=Tryz.zeroValue9,
  t44:=Tryz.underlying137,
  a44:=Tryz.isAgg137,
  z44:=Tryz.sizeOf137,
  v44:=Tryz.zeroValue137,
  t51:=Tryz.underlying121,
  a51:=Tryz.isAgg121,
  z51:=Tryz.sizeOf121,
  v51:=Tryz.zeroValue121,
  t60:=Tryz.underlying294,
  a60:=Tryz.isAgg294,
  z60:=Tryz.sizeOf294,
  v60:=Tryz.zeroValue294,
  t61:=Tryz.underlying295,
  a61:=Tryz.isAgg295,
  z61:=Tryz.sizeOf295,
  v61:=Tryz.zeroValue295,
  t67:=Tryz.underlying154,
  a67:=Tryz.isAgg154,
  z67:=Tryz.sizeOf154,
  v67:=Tryz.zeroValue154,
  t69:=Tryz.underlying159,
  a69:=Tryz.isAgg159,
  z69:=Tryz.sizeOf159,
  v69:=Tryz.zeroValue159,
  t75:=Tryz.underlying308,
  a75:=Tryz.isAgg308,
  z75:=Tryz.sizeOf308,
  v75:=Tryz.zeroValue308,
  t79:=Tryz.underlying312,
  a79:=Tryz.isAgg312,
  z79:=Tryz.sizeOf312,
  v79:=Tryz.zeroValue312,
  t83:=Tryz.underlying318,
  a83:=Tryz.isAgg318,
  z83:=Tryz.sizeOf318,
  v83:=Tryz.zeroValue318,
  t84:=Tryz.underlying319,
  a84:=Tryz.isAgg319,
  z84:=Tryz.sizeOf319,
  v84:=Tryz.zeroValue319 }
end Go.Proofs.YtlionahpheehaaaGreatDoor
namespace Go.Proofs.YtlionahpheehaaaGreatDoor
open Go Go.SL
def sS(l:List ByteArray):List Value:=l.map Value.string
def ZN(l:List ByteArray):∀v∈sS l,v.oneCell'=true:=by
 intro v hv
 obtain⟨x,_,rfl⟩:=List.mem_map.1 hv
 rfl
def SI(bs:Nat)(ks:List ByteArray):HP:=fun h=>∃v:Value,True∧Sep [ak bs (cl [v] 89),aK 9 1 v ks.length (sS ks)] h
def Mm(bs:Nat)(ks:List ByteArray):∀h,SI bs ks h→∃v:Value,True∧Sep [ak bs (cl [v] 89),aK 9 1 v ks.length (sS ks)] h:=fun h hs=>hs
def Ik(bs:Nat)(ks:List ByteArray)(v:Value)(H:List HP):aq (ak bs (cl [v] 89)::aK 9 1 v ks.length (sS ks)::H) (SI bs ks::H) :=
 aq.fold (A:=SI bs ks) (B:=[ak bs (cl [v] 89),aK 9 1 v ks.length (sS ks)]) fun h hs=>⟨h,sub.refl h,v,trivial,hs⟩
def Vs:nF Tryz.prog 9 Value.string:=QP Tryz.underlying9
attribute [local irreducible] J K aH Ends ak aK aV bX bj aS bp bD cp SI
def Iu(bm:Nat):aH Tryz.prog 97 [.map (some bm)] [] (fun r H=>∃bx,r = .func (.func 166) #[] #[ptr bx]∧H=[ak bx (cl [.map (some bm)] 71)]):=by
 refine aH.aC Tryz.func97 Tryz.ntmps97 fun G F R hE=>?_
 refine go ?_
 refine bJ zr zr bO ?_
 intro bx
 refine go ?_
 refine ah hE Tryz.func97 zr zr ⟨bx,rfl,rfl⟩
theorem OF(l bx bm:Nat)(es:List (ByteArray × Value))(lq:(es.map (·.1)).Nodup)(Lp:HP)(Inv:List ByteArray→HP)(hy:∀dn k,k∈es.map (·.1)→dn.length<es.length→cp Tryz.prog l [.string k] [Lp,Inv dn] (fun v H=>v = .bool true∧H=[Lp,Inv (dn++[k])])) :
  aH Tryz.prog 166 [.func (.yield l) #[] #[],ptr bx] [Lp,ak bx (cl [.map (some bm)] 71),aV Value.string bm es,Inv [] ] (fun _ H=>∃dn:List ByteArray,dn.Perm (es.map (·.1))∧H=[Lp,ak bx (cl [.map (some bm)] 71),aV Value.string bm es,Inv dn]):=by
 refine aH.aC Tryz.func166 Tryz.ntmps166 fun G F R hE=>?_
 refine al (aq.pick [2,0,1] rfl) (go ?_)
 refine zS (kv:=Value.string) (es:=es) (U:=bh) 0 zr zr zr zr zr (fun _=>rfl) bO ?_
 intro it
 refine go ?_
 refine bF (fun s:List ByteArray=>s.Nodup∧∀x∈s,x∈es.map (·.1)) (fun s=>es.length-s.length) (fun s=>[(0,.func (.yield l) #[] #[]),(5,.pointer (some ⟨it,0,none⟩))])
  (fun s=>bX Value.string bm it es s::Lp::ak bx (cl [.map (some bm)] 71)::Inv s.reverse::F) [] ⟨List.nodup_nil,by simp⟩ rfl cF ad ?_
 rintro dn⟨u3,eg⟩ ih
 refine go ?_
 refine FI (kv:=Value.string) (es:=es) 0 rfl Vs.inj zr zr (fun _=>rfl) eH bO ?_ ?_
 ·intro fH
  refine go ?_
  refine al (aq.head (B:=[aV Value.string bm es]) (fun h hs=>by obtain⟨h',s,hm⟩:=sZ h hs;exact⟨h',s,fL hm⟩)) ?_
  have hp:dn.reverse.Perm (es.map (·.1)):=(List.reverse_perm dn).trans ((List.perm_ext_iff_of_nodup u3 lq).2 fun a=>⟨eg a,fun h=>by obtain⟨y,hy,rfl⟩:=List.mem_map.1 h;exact fH y hy⟩)
  refine ag hE Tryz.func166 rfl _ rfl ⟨_,hp,rfl⟩ ad
 ·intro key v fk tO
  have hk:key∈es.map (·.1):=List.mem_map.2 ⟨_,fk,rfl⟩
  have dk:dn.length<es.length:=by
   have h1:((List.filter (fun x=>decide (x∈dn)) (es.map (·.1)))).length≤(es.map (·.1)).length:=List.length_filter_le _ _
   have h2:dn.length=(List.filter (fun x=>decide (x∈dn)) (es.map (·.1))).length:=JS u3 (lq.sublist List.filter_sublist) (fun n=>by
    simp only[List.mem_filter,decide_eq_true_eq]
    exact⟨fun h=>⟨eg n h,h⟩,fun h=>h.2⟩)
   rw[List.length_map]at h1
   rcases Nat.lt_or_ge dn.length es.length with h|h
   ·exact h
   ·exfalso
    have h3:(List.filter (fun x=>decide (x∈dn)) (es.map (·.1))).length=(es.map (·.1)).length:=by rw[List.length_map];omega
    have h4:=List.filter_eq_self.1 ((List.filter_sublist (p:=fun x=>decide (x∈dn)) (l:=es.map (·.1))).eq_of_length h3) key hk
    grind
  refine go ?_
  refine zW (kv:=Value.string) (es:=es) 0 rfl Vs.inj zr zr fk (go ?_)
  refine jf zr zr zr (hy dn.reverse key hk (by rw[List.length_reverse];exact dk)) ad ?_ bI
  rintro _ _⟨rfl,rfl⟩
  rw[show dn.reverse++[key]=(key::dn).reverse from by simp]
  refine go ?_
  refine aQ ih (key::dn) rfl (⟨List.nodup_cons.2 ⟨tO,u3⟩,fun x hx=>by rcases List.mem_cons.1 hx with rfl|h;exact hk;exact eg x h⟩) (by show _-(key::dn).length<_;simp only[List.length_cons];omega) cF ad
def uE(bx bm:Nat)(es:List (ByteArray × Value))(lq:(es.map (·.1)).Nodup)(tR:es.length≤1000000) :
  aH Tryz.prog 223 [.slice none 0 0,.func (.func 166) #[] #[ptr bx] ] [ak bx (cl [.map (some bm)] 71),aV Value.string bm es] (fun r H=>∃dn:List ByteArray,dn.Perm (es.map (·.1))∧H=[aK 9 1 r dn.length (sS dn),ak bx (cl [.map (some bm)] 71),aV Value.string bm es]):=by
 refine aH.aC Tryz.func223 Tryz.ntmps223 fun G F R hE=>?_
 refine aP rfl ?_
 refine bJ zr zr bO ?_
 intro bs
 refine go ?_
 refine jw rfl ?_
 refine al (aq.trans (aq.cons _ (bS 9 1 none _)) (Ik bs [] (.slice none 0 0) _)) ?_
 refine wW (Fr:=F) (Pre:=fun _ _=>[ak bx (cl [.map (some bm)] 71),aV Value.string bm es,SI bs [] ]) (Post:=?Po) rfl hE.1.1 rfl ?c (fun l r=>ad) ?eA
 case c =>
  intro l r
  refine OF l bx bm es lq _ (fun dn=>SI bs dn) ?_
  intro dn k hk dk
  refine cp.Cr zr zr ?_
  intro G2 F2 R2 hY
  refine go ?_
  refine eY rfl hY ?_
  refine al (aq.pick [1] rfl) ?_
  refine dZ (Mm bs dn) ?_
  rintro v -
  refine aM 1 rfl ?_
  rintro va vc rfl
  refine go ?_
  refine az (cs:=sS [k]) zr zr zr zr zr zr zr zr zr bO ?_
  intro row
  refine go ?_
  refine bg (mm:=1) (news:=sS [k]) 2 0 zr zr zr zr zr zr zr zr zr zr zr zr (Vw.ak rfl) rfl (ZN _) aj (by show(_+1)*16≤_;omega) (fun _=>rfl) bO ?_
  intro v1
  rw[show sS dn++sS [k]=sS (dn++[k])from by simp[sS],show dn.length+1=(dn++[k]).length from by simp]
  refine aN 2 rfl ?_
  rintro va2 vc2 rfl
  refine go ?_
  refine al (aq.trans ad (Ik bs (dn++[k]) (.slice va2 (dn++[k]).length vc2) _)) ?_
  refine eF hY rfl ad ⟨rfl,rfl⟩
 intro l r v H dQ
 obtain⟨dn,hp,rfl⟩:=dQ
 refine⟨_,_,_,rfl,by decide,?_⟩
 rw[hE.1.2]
 refine al (aq.pick [2] rfl) ?_
 refine dZ (Mm bs dn) ?_
 rintro w -
 refine go ?_
 refine pI hE Tryz.func223 rfl _ rfl ⟨dn,hp,rfl⟩ ad
def zk(bx bm:Nat)(es:List (ByteArray × Value))(lq:(es.map (·.1)).Nodup)(tR:es.length≤1000000) :
  aH Tryz.prog 164 [.func (.func 166) #[] #[ptr bx] ] [ak bx (cl [.map (some bm)] 71),aV Value.string bm es] (fun r H=>∃dn:List ByteArray,dn.Perm (es.map (·.1))∧H=[aK 9 1 r dn.length (sS dn),ak bx (cl [.map (some bm)] 71),aV Value.string bm es]):=by
 refine aH.aC Tryz.func164 Tryz.ntmps164 fun G F R hE=>?_
 refine go ?_
 refine ao (uE bx bm es lq tR) ?_
 rintro w _⟨dn,hp,rfl⟩
 refine go ?_
 refine ah hE Tryz.func164 zr zr ⟨dn,hp,rfl⟩
def nS(l:List (List UInt8)):List Value:=l.map Go.Proofs.encStr
def acD(l:List ByteArray):sS l=nS (l.map fun b=>b.data.toList):=by
 unfold sS nS
 rw[List.map_map]
 rfl
def D4(v:Value)(l:List ByteArray)(hl:l.length≤1000000000):aH Tryz.prog 165 [v] [aK 9 1 v l.length (sS l)] (fun r H=>r = .tuple #[]∧H=[aK 9 1 v l.length (nS (rE l))]):=by
 have h:=Ge (ρ:=CX) acC 9 v (l.map fun b=>b.data.toList) aw (by rw[List.length_map];omega)
 rw[List.length_map]at h
 rw[acD]
 exact h
def KM(bx bm:Nat)(es:List (ByteArray × Value))(lq:(es.map (·.1)).Nodup)(tR:es.length≤1000000) :
  aH Tryz.prog 96 [.func (.func 166) #[] #[ptr bx] ] [ak bx (cl [.map (some bm)] 71),aV Value.string bm es] (fun r H=>H=[aK 9 1 r es.length (nS (rE (es.map (·.1)))),ak bx (cl [.map (some bm)] 71),aV Value.string bm es]):=by
 refine aH.aC Tryz.func96 Tryz.ntmps96 fun G F R hE=>?_
 refine go ?_
 refine ao (zk bx bm es lq tR) ?_
 rintro w _⟨dn,hp,rfl⟩
 have hlen:dn.length=es.length:=by rw[hp.length_eq,List.length_map]
 refine aN 0 rfl ?_
 rintro wa wc rfl
 refine go ?_
 refine aeb (D4 (.slice wa dn.length wc) dn aj) ?_
 rw[Jo hp,hlen]
 refine go ?_
 refine aG hE Tryz.func96 rfl _ zr zr ad
def OE(bd:Nat)(D:Dk)(A:Ab)(hR:Rel D A):aH Tryz.prog 29 [ptr bd] [im bd D] (fun r H=>H=[aK 9 1 r (fb A).length (nS (rE (fb A))),im bd D]):=by
 have lq:=hR.nodup _ (List.mem_cons_self ..)
 have Du:=hR.gk _ (List.mem_cons_self ..)
 have Hm:(fj A.names).map (·.1)=fb A:=by simp[fj,fb,Function.comp_def]
 have Kc:(fj A.names).length=(fb A).length:=by simp[fj,fb]
 have ez:(fb A).length≤200:=by unfold fb;rw[List.length_map];exact Du
 obtain⟨jm,hjm⟩:=List.getElem?_of_mem hR.names
 obtain⟨room,bm,lO,pT,oP,off,maps,eC,files,gO,wl⟩:=D
 simp only at hjm
 refine aH.aC Tryz.func29 Tryz.ntmps29 fun G F R hE=>?_
 refine al (ju _ _ _ _ _ _ _ _ _ _ _ _ _) (go ?_)
 refine ao (Iu bm) ?_
 rintro _ _⟨bx,rfl,rfl⟩
 have hso:=KM bx bm (fj A.names) (by rw[Hm];exact lq) aj
 rw[Hm,Kc]at hso
 refine aT (aq.pick [2] rfl) ?_
 refine aT (gN lS hjm _) ?_
 refine aT (aq.pick [2,0] rfl) (go ?_)
 refine ao hso ?_
 rintro v _ rfl
 refine aT (aq.pick [2,3] rfl) ?_
 refine aT (oM lS hjm _) (go ?_)
 refine al ((aq.pick [3,0,4,5,6,7] rfl).trans (eK _ _ _ _ _ _ _ _ _ _ _ _ _)) ?_
 refine aG hE Tryz.func29 rfl _ zr zr ad
end Go.Proofs.YtlionahpheehaaaGreatDoor
namespace Go.Proofs.YtlionahpheehaaaGreatDoor
open Go Go.SL
attribute [local irreducible] J K aH Ends ak aK aV bX bj aS bp bD cp Sha.chunks Sha.chunk Sha.rounds Sha.sched fz cY GI fG
structure MA(A:Ab):Prop where
 ids:(A.fs.map (·.1)).Nodup
 known:∀st∈A.names::A.aF,∀x∈st,x.2∈A.fs.map (·.1)
 g':∀x∈A.writes,x.1∈A.fs.map (·.1)
 nodup:∀st∈A.names::A.aF,(st.map (·.1)).Nodup
 gP:∀x∈A.fs,x.2.1.length≤1048576∧x.2.2.length≤1048576
 iv:∀x∈A.writes,x.2.1+x.2.2.length≤1048576
 gk:∀st∈A.names::A.aF,st.length≤200
 iw:A.room≤1073741824
 full:A.aF≠[]
def MA.of{D:Dk}{A:Ab}(h:Rel D A):MA A:=⟨h.ids,h.known,h.g',h.nodup,h.gP,h.iv,h.gk,h.iw,h.full⟩
def MA.file{A:Ab}(h:MA A)(f:Nat):(A.file f).1.length≤1048576∧(A.file f).2.length≤1048576:=by
 unfold Ab.file
 cases hx:A.fs.find? (fun x=>decide (x.1=f))with
 | none=>simp
 | some x=>exact h.gP x (List.mem_of_find?_eq_some hx)
def MA.now{A:Ab}(h:MA A)(f:Nat):(A.now f).length≤1048576:=(h.file f).1
def E3{G:cL}{w:World}{H:List HP}(hs:Sat G w H){i:Nat}{A:HP}(hi:cD H i=some A):∃h,A h:=let ⟨h,_,hA⟩:=hs.kp hi;⟨h,hA⟩
def HR{bd:Nat}{A:Ab}{h:Hp}(hd:aJ bd A h):MA A:=let ⟨_,hR,_⟩:=hd;MA.of hR
section
variable{P:Program}{f:FuncId}{n:Nat}{R:Ending→World→Prop}{G:cL}{k:List Item}{L:gh}{H:List HP}{S:World→Prop}{all:Array Oper}{rest:Pl}
def wX{bd:Nat}{A:Ab}(i:Nat)(hi:cD H i=some (aJ bd A))(h:MA A→K P f n R G k L H):K P f n R G k L H :=
 pH fun⟨w,hw⟩=>by obtain⟨h1,hA⟩:=E3 hw hi;exact h (HR hA)
def Mt{bd:Nat}{A:Ab}(i:Nat)(hi:cD H i=some (aJ bd A))(h:MA A→J P f n R G S all rest k L H):J P f n R G S all rest k L H :=
 zg fun w hw=>by obtain⟨h1,hA⟩:=E3 hw hi;exact h (HR hA)
end
attribute [local irreducible] aJ
def eJ(bd:Nat)(q:Int)(mb:Nat)(brk:Bool):List Value:=[ptr bd,.int .i64 q,.map (some mb),.bool brk]
def ny(kind:List UInt8)(d:Dg)(hk:kind.length≤1000):aH Tryz.prog 87 [.string (strOf kind),dV d] [] (fun r H=>r = .string (cX kind d)∧H=[]):=by
 have ht:=R9 d
 unfold dV at ht ⊢
 refine aH.aC Tryz.func87 Tryz.ntmps87 fun G F R hE=>?_
 refine aP rfl ?_
 refine bJ zr zr bO ?_
 intro b3
 refine go ?_
 refine aW (U:=bh) (l:=dC d) 0 zr zr zr zr zr zr ?_
 refine aeb ht ?_
 refine BV zr zr zr (by show kind.length+(ib d).length≤_;rw[jX];omega) ?_
 ((refine au 8 ((.string (cX kind d))) rfl ((congrArg Value.string (by unfold cX strOf;apply ByteArray.ext;simp))) ?_))
 refine go ?_
 refine ah hE Tryz.func87 zr zr ⟨rfl,rfl⟩
def Hz(o:Option Dg):Value:=match o with
 | none => .tuple #[dV Dg.zero,.bool false]
 | some d => .tuple #[dV d,.bool true]
def HN(s:ByteArray)(k:Nat):s.extract (0:Int).toNat (k:Int).toNat=strOf (s.data.toList.take k):=by
 unfold strOf
 apply ByteArray.ext
 apply Array.ext'
 simp_all
def HO(s:ByteArray)(k:Nat):s.extract (k:Int).toNat (s.size:Int).toNat=strOf (s.data.toList.drop k):=by
 unfold strOf
 apply ByteArray.ext
 apply Array.ext'
 have:s.size=s.data.toList.length:=rfl
 rw[ByteArray.data_extract,this]
 simp
 rw[List.take_of_length_le (by simp)]
def wj(kind:List UInt8)(nm:ByteArray)(hk:kind.length≤1000):aH Tryz.prog 98 [.string (strOf kind),.string nm] [] (fun r H=>r=Hz (kf kind nm)∧H=[]):=by
 have hks:(strOf kind).size=kind.length:=rfl
 have O4:nm.size=nm.data.toList.length:=rfl
 refine aH.aC Tryz.func98 Tryz.ntmps98 fun G F R hE=>?_
 refine aP rfl ?_
 refine aL zr zr zr bO ?_
 intro b4
 have hN:¬kind.isPrefixOf nm.data.toList=true→kf kind nm=none:=fun h=>by unfold kf;rw[if_neg h]
 have hP:kind.isPrefixOf nm.data.toList=true→kf kind nm=kD (nm.data.toList.drop kind.length):=fun h=>by unfold kf;rw[if_pos h]
 have Ug:kind.isPrefixOf nm.data.toList=true↔nm.data.toList.take kind.length=kind:=by
  rw[List.isPrefixOf_iff_prefix,List.prefix_iff_eq_take]
  exact eq_comm
 refine go ?_
 refine dA zr zr zr zr ?_ ?_
 ·intro dk
  have Hj:=hN (fun h=>by rw[Ug]at h;have:=congrArg List.length h;rw[List.length_take]at this;omega)
  rw[Hj]at hE
  refine go ?_
  refine jJ (U:=bh) zr zr zr zr zr (go ?_)
  (refine bL hE ?_;apply bH (U:=bh) hE Tryz.func98 rfl (aq.refl _);(repeat(first|exact ae.nil|apply ae.tmp rfl|apply ae.agg 0 zr zr zr zr zr));exact⟨rfl,rfl⟩;exact ad)
 ·intro fO
  have hkn:(kind.length:Int)≤(nm.size:Int):=by omega
  refine go ?_
  refine BX (U:=bh) (p:=0) (q:=(kind.length:Int)) zr zr zr zr zr zr (Int.le_refl _) (Int.natCast_nonneg _) hkn ?_
  refine au 17 ((.string (strOf (nm.data.toList.take kind.length)))) rfl ((congrArg Value.string (HN nm kind.length))) (go ?_)
  refine aE 20 (.bool (!decide (nm.data.toList.take kind.length=kind))) rfl (by rw[tx]) ?_
  by_cases hp:nm.data.toList.take kind.length=kind
  ·rw[decide_eq_true hp]
   have hh:=hP (Ug.2 hp)
   rw[hh]at hE
   refine go ?_
   refine BX (U:=bh) (p:=(kind.length:Int)) (q:=(nm.size:Int)) zr zr zr zr zr zr (Int.natCast_nonneg _) hkn (Int.le_refl _) ?_
   refine au 26 ((.string (strOf (nm.data.toList.drop kind.length)))) rfl ((congrArg Value.string (HO nm kind.length))) ?_
   have aag:=OB (strOf (nm.data.toList.drop kind.length))
   rw[uI]at aag
   refine aeb aag ?_
   cases qO:kD (nm.data.toList.drop kind.length)with
   | none =>
    rw[qO]at hE
    simp only
    unfold dV
    refine go ?_
    refine aL zr zr zr bO ?_
    intro b6
    refine go ?_
    refine aW (U:=bh) (l:=dC Dg.zero) 0 zr zr zr zr zr zr (go ?_)
    (refine bL hE ?_;apply bH (U:=bh) hE Tryz.func98 rfl (aq.refl _);(repeat(first|exact ae.nil|apply ae.tmp rfl|apply ae.agg 1 zr zr zr zr zr));exact⟨rfl,rfl⟩;exact ad)
   | some d =>
    rw[qO]at hE
    simp only
    unfold dV
    refine go ?_
    refine aL zr zr zr bO ?_
    intro b6
    refine go ?_
    refine aW (U:=bh) (l:=dC d) 0 zr zr zr zr zr zr (go ?_)
    (refine bL hE ?_;apply bH (U:=bh) hE Tryz.func98 rfl (aq.refl _);(repeat(first|exact ae.nil|apply ae.tmp rfl|apply ae.agg 1 zr zr zr zr zr));exact⟨rfl,rfl⟩;exact ad)
  ·rw[decide_eq_false hp]
   have Hj:=hN (fun h=>hp (Ug.1 h))
   rw[Hj]at hE
   refine go ?_
   refine jJ (U:=bh) zr zr zr zr zr (go ?_)
   (refine bL hE ?_;apply bH (U:=bh) hE Tryz.func98 rfl (aq.refl _);(repeat(first|exact ae.nil|apply ae.tmp rfl|apply ae.agg 0 zr zr zr zr zr));exact⟨rfl,rfl⟩;exact ad)
def PF(A:Ab)(nm:ByteArray):decide (((A.size nm).2:Int)=0)=sc A nm:=by
 unfold Ab.size sc
 cases A.look nm <;> rfl
def ER(bs bd:Nat)(q:Int)(mb:Nat)(brk:Bool)(A:Ab)(nm:ByteArray):aH Tryz.prog 117 [ptr bs,.string nm] [ak bs (cl (eJ bd q mb brk) 88),aJ bd A]
  (fun r H=>r = .bool (sc A nm)∧H=[ak bs (cl (eJ bd q mb brk) 88),aJ bd A]):=by
 have hs:=PF A nm
 refine aH.aC Tryz.func117 Tryz.ntmps117 fun G F R hE=>?_
 refine go ?_
 refine aeb (lI bd A nm) ?_
 refine go ?_
 rw[← hs]at hE
 refine ah hE Tryz.func117 zr zr ⟨rfl,rfl⟩
def mR(bs bd:Nat)(q:Int)(mb:Nat)(brk:Bool)(A:Ab)(nm:ByteArray):aH Tryz.prog 100 [ptr bs,.string nm] [ak bs (cl (eJ bd q mb brk) 88),aJ bd A]
  (fun r H=>∃rv,r = .tuple #[rv,.bool (fV A nm).isSome]∧H=[aK 5 1 rv ((fV A nm).getD []).length (bV ((fV A nm).getD [])),ak bs (cl (eJ bd q mb brk) 88),aJ bd A]):=by
 refine aH.aC Tryz.func100 Tryz.ntmps100 fun G F R hE=>?_
 refine go ?_
 refine aeb (lI bd A nm) ?_
 have hn:A.look nm=none→fV A nm=none∧A.size nm=(0,4):=fun h=>by unfold fV Ab.size;rw[h];exact⟨rfl,rfl⟩
 have hr:∀f,A.look nm=some f→A.size nm=((A.now f).length,0)∧A.read nm 0 ((A.now f).length:Int)=((fV A nm).getD [],if(fV A nm).isSome then 0 else 7):=fun f h=>by
  unfold fV Ab.size Ab.read
  rw[h]
  cases mh:A.off with
  | true=>exact⟨rfl,rfl⟩
  | false =>
   simp_all
 cases hl:A.look nm with
 | none =>
  obtain⟨h1,h2⟩:=hn hl
  rw[h2]
  rw[h1]at hE
  simp only
  refine go ?_
  refine al (bS 5 1 none _) ?_
  refine ah hE Tryz.func100 zr zr ⟨_,rfl,rfl⟩
 | some f =>
  obtain⟨h1,h2⟩:=hr f hl
  rw[h1]
  simp only
  have rV:=wS bd A nm 0 ((A.now f).length:Int)
  rw[h2]at rV
  refine go ?_
  refine ao rV ?_
  rintro _ _⟨r,rfl,rfl⟩
  generalize fV A nm=o at hE ⊢
  cases o with
  | none =>
   refine go ?_
   refine ah hE Tryz.func100 zr zr ⟨_,rfl,rfl⟩
  | some b =>
   refine go ?_
   refine ah hE Tryz.func100 zr zr ⟨_,rfl,rfl⟩
end Go.Proofs.YtlionahpheehaaaGreatDoor
namespace Go.SL
open Go
namespace Sha
def adZ(n o:List l5)(i:Nat):List l5:=(List.zipWith (· + ·) n o).take i++n.drop i
end Sha
end Go.SL
namespace Go.Proofs.YtlionahpheehaaaGreatDoor
open Go Go.SL
attribute [local irreducible] J K aH Ends ak aK aV bX bj aS bp bD cp Sha.chunks Sha.chunk Sha.rounds Sha.sched fz Sha.adZ
end Go.Proofs.YtlionahpheehaaaGreatDoor
namespace Go.Proofs.YtlionahpheehaaaGreatDoor
open Go Go.SL
attribute [local irreducible] J K aH Ends ak aK aV bX bj aS bp bD cp Sha.chunks Sha.chunk Sha.rounds Sha.sched fz cY GI fG
def N7:Tryz.prog.eqGuardType Tryz.prog.depth 29=false:=by kernel_rfl
def Of(a b:Dg)(w:World):(Op.equal 29 (.agg (dC a).toArray) (.agg (dC b).toArray)).run Tryz.prog w = .ok (decide (a=b)) w :=
 qc Tryz.underlying29 Tryz.underlying5 aaW a b 9998 w
attribute [local irreducible] aJ
def qz{A:Ab}(h:MA A)(nm:ByteArray):((fV A nm).getD []).length≤1048576:=by
 unfold fV
 cases A.look nm with
 | none=>simp
 | some f =>
  cases A.off with
  | true=>simp
  | false=>simpa using h.now f
def CK(X:HP)(hK:qI X)(bs bd:Nat)(q:Int)(mb:Nat)(brk:Bool)(A:Ab)(d:Dg):aH Tryz.prog 34 [ptr bs,dV d] [ak bs (cl (eJ bd q mb brk) 88),aJ bd A,X]
  (fun r H=>r = .bool (iD A d)∧H=[ak bs (cl (eJ bd q mb brk) 88),aJ bd A,X]):=by
 have hf:=ny kB d (by decide)
 have jx := @qz A
 unfold dV at hf ⊢
 refine aH.aC Tryz.func34 Tryz.ntmps34 fun G F R hE=>?_
 refine aP rfl ?_
 refine bJ zr zr bO ?_
 intro b3
 refine Mt (bd:=bd) (A:=A) 2 rfl ?_
 intro Kg
 refine go ?_
 refine aW (U:=bh) (l:=dC d) 0 zr zr zr zr zr zr ?_
 refine aeb hf ?_
 refine ao (mR bs bd q mb brk A (cX kB d)) ?_
 rintro _ _⟨rv,rfl,rfl⟩
 have hw:iD A d=match fV A (cX kB d)with|none=>false|some b=>decide (fz b=d):=rfl
 have jx:=qz Kg (cX kB d)
 cases hb:fV A (cX kB d)with
 | none =>
  rw[hb]at hw
  rw[hw]at hE
  refine go ?_
  refine aO (fun w=>Sat G w ([])) (dM 0 3 (.st 4 (.act 3 (dM 5 3 .nil)))) rfl aw aw aw dI ?_
  refine go ?_
  refine ah hE Tryz.func34 zr zr ⟨rfl,rfl⟩
 | some b =>
  rw[hb]at hw jx
  rw[hw]at hE
  simp only[Option.getD_some,Option.isSome_some]at jx ⊢
  refine fY (bs:=b) 0 rfl ?_
  intro S7
  refine aT (aq.trans (aq.pick [0,4] rfl) (aq.cg [aK 5 1 rv b.length (bV b),X] _)) ?_
  have tM:=qE _ (hK.mono (aX (H:=[aK 5 1 rv b.length (bV b),X]) (i:=1) rfl)) rv b (S7.mono (aX (i:=0) rfl)) aj
  unfold dV at tM
  refine go ?_
  refine aO (fun w=>Sat G w ([ak b3 (cl (dC d) 29)])) (dM 0 3 (.st 4 (.act 3 (dM 5 3 .nil)))) rfl aw aw aw dI ?_
  refine go ?_
  refine dv (U:=bh) (l:=dC d) 0 zr zr zr zr zr zr (go ?_)
  refine Vd tM ?_
  refine go ?_
  refine lJ (b:=decide (fz b=d)) zr zr zr N7 (fun w=>Of (fz b) d w) ?_
  refine go ?_
  refine al (aq.cR _ _) ?_
  refine ah hE Tryz.func34 zr zr ⟨rfl,rfl⟩
def K1(bs bd:Nat)(q:Int)(mb:Nat)(brk:Bool)(A:Ab)(d:Dg):aH Tryz.prog 101 [ptr bs,dV d] [ak bs (cl (eJ bd q mb brk) 88),aJ bd A]
  (fun r H=>∃rv,r = .tuple #[LH rv,.bool (oh A d).isSome]∧H=[aK 31 66 rv ((oh A d).getD []).length (((oh A d).getD []).flatMap ck),ak bs (cl (eJ bd q mb brk) 88),aJ bd A]):=by
 have hf:=ny kI d (by decide)
 unfold dV at hf ⊢
 refine aH.aC Tryz.func101 Tryz.ntmps101 fun G F R hE=>?_
 refine aP rfl ?_
 refine bJ zr zr bO ?_
 intro b3
 refine aL zr zr zr bO ?_
 intro b4
 refine Mt (bd:=bd) (A:=A) 3 rfl ?_
 intro Kg
 refine go ?_
 refine aW (U:=bh) (l:=dC d) 1 zr zr zr zr zr zr ?_
 refine aeb hf ?_
 refine ao (mR bs bd q mb brk A (cX kI d)) ?_
 rintro _ _⟨rv,rfl,rfl⟩
 have hw:oh A d=(fV A (cX kI d)).bind By:=rfl
 have jx:=qz Kg (cX kI d)
 cases hb:fV A (cX kI d)with
 | none =>
  rw[hb]at hw
  rw[hw]at hE
  refine go ?_
  refine al (bS 31 66 none _) ?_
  (refine bL hE ?_;apply bH (U:=bh) hE Tryz.func101 rfl (aq.refl _);(repeat(first|exact ae.nil|apply ae.tmp rfl|apply ae.agg 4 zr zr zr zr zr));exact⟨_,rfl,rfl⟩;exact ad)
 | some b =>
  rw[hb]at hw jx
  simp only[Option.getD_some,Option.isSome_some,Option.bind_some]at jx hw ⊢
  rw[hw]at hE
  refine fY (bs:=b) 0 rfl ?_
  intro S7
  refine go ?_
  refine ao (yO _ rv b S7 aj) ?_
  rintro _ _ (⟨hn,⟨e,he,rfl⟩,rfl⟩|⟨l,lv,hs,rfl,rfl⟩)
  ·rw[hn]at hE
   unfold LH
   refine go ?_
   refine aL zr zr zr bO ?_
   intro b8
   refine go ?_
   refine aW (U:=bh) (l:=[.slice none 0 0]) 0 zr zr zr zr zr zr (go ?_)
   refine au 27 ((.bool false)) rfl ((congrArg Value.bool (decide_eq_false he))) (go ?_)
   (refine bE ?_;(refine aD 4 eH zr zr zr zr zr zr zr zr zr ?_))
   refine go ?_
   refine al (bS 31 66 none _) ?_
   (refine bL hE ?_;apply bH (U:=bh) hE Tryz.func101 rfl (aq.refl _);(repeat(first|exact ae.nil|apply ae.tmp rfl|apply ae.agg 5 zr zr zr zr zr));exact⟨_,rfl,rfl⟩;exact ad)
  ·rw[hs]at hE
   unfold LH
   refine aN 0 rfl ?_
   rintro la lc rfl
   refine go ?_
   refine aL zr zr zr bO ?_
   intro b8
   refine go ?_
   refine aW (U:=bh) (l:=[.slice la l.length lc]) 0 zr zr zr zr zr zr (go ?_)
   (refine bE ?_;(refine aD 5 eH zr zr zr zr zr zr zr zr zr ?_))
   refine go ?_
   (refine bL hE ?_;apply bH (U:=bh) hE Tryz.func101 rfl (aq.refl _);(repeat(first|exact ae.nil|apply ae.tmp rfl|apply ae.agg 5 zr zr zr zr zr));exact⟨_,rfl,rfl⟩;exact ad)
def BD(X:HP)(hK:qI X)(b2 bs bd:Nat)(q:Int)(mb:Nat)(brk:Bool)(A:Ab)(y:Bl) :
  aH Tryz.prog 103 [ix y,ptr b2] [Sep [ak b2 (cl [ptr bs] 40),ak bs (cl (eJ bd q mb brk) 88),aJ bd A,X] ]
  (fun r H=>r = .bool (!iD A y.d)∧H=[Sep [ak b2 (cl [ptr bs] 40),ak bs (cl (eJ bd q mb brk) 88),aJ bd A,X] ]):=by
 have hw:=CK X hK bs bd q mb brk A y.d
 unfold dV at hw
 unfold ix
 refine aH.aC Tryz.func103 Tryz.ntmps103 fun G F R hE=>?_
 refine aP rfl ?_
 refine bJ zr zr bO ?_
 intro b0
 refine aT (aq.trans (aq.pick [1] rfl) (aq.cR [_,_,_,_] _)) (go ?_)
 refine ct 4 zr zr zr zr zr zr ?_
 refine aeb hw ?_
 refine go ?_
 refine al (aq.trans (aq.pick [3,0,1,2] rfl) (aq.cg [_,_,_,_] _)) ?_
 refine ah hE Tryz.func103 zr zr ⟨rfl,rfl⟩
def BC{A:Ab}{d:Dg}(h:oh A d=none):gg A d=false:=by unfold gg;rw[h]
theorem BB{A:Ab}{d:Dg}{l:List Bl}(h:oh A d=some l):gg A d=(decide (AN l=d) && !l.any fun y => !iD A y.d):=by
 grind [gg]
def NG{A:Ab}{d:Dg}{l:List Bl}(h:oh A d=some l):hG l=0:=by
 unfold oh at h
 obtain⟨b,_,hb⟩:=Option.bind_eq_some_iff.1 h
 exact Ku hb
def Fi(X:HP)(hK:qI X)(bs bd:Nat)(q:Int)(mb:Nat)(brk:Bool)(A:Ab)(d:Dg):aH Tryz.prog 37 [ptr bs,dV d] [ak bs (cl (eJ bd q mb brk) 88),aJ bd A,X]
  (fun r H=>r = .bool (gg A d)∧H=[ak bs (cl (eJ bd q mb brk) 88),aJ bd A,X]):=by
 have hi:=K1 bs bd q mb brk A d
 unfold dV at hi ⊢
 refine aH.aC Tryz.func37 Tryz.ntmps37 fun G F R hE=>?_
 refine aP rfl ?_
 refine bJ zr zr bO ?_
 intro b2
 refine bJ zr zr bO ?_
 intro b3
 refine go ?_
 refine aW (U:=bh) (l:=dC d) 0 zr zr zr zr zr zr ?_
 refine ao hi ?_
 rintro _ _⟨rv,rfl,rfl⟩
 unfold LH
 refine aN 0 rfl ?_
 rintro ra rc rfl
 refine go ?_
 refine aL zr zr zr bO ?_
 intro b5
 refine go ?_
 cases Rt:oh A d with
 | none =>
  rw[BC Rt]at hE
  simp only[Option.getD_none,Option.isSome_none]
  have nr:=Iq X hK (.slice ra 0 rc) [] (Vw.nil X ra rc) (by simp)
  unfold LH at nr
  rw[if_neg (by decide)]at nr
  refine aW (U:=bh) (l:=[.slice ra 0 rc]) 0 zr zr zr zr zr zr ?_
  refine aeb nr ?_
  unfold dV
  refine go ?_
  refine aL zr zr zr bO ?_
  intro b7
  refine go ?_
  refine ah hE Tryz.func37 zr zr ⟨rfl,rfl⟩
 | some l =>
  have k8:=NG Rt
  have hlr:=qs k8
  rw[BB Rt]at hE
  simp only[Option.getD_some,Option.isSome_some]
  refine Vb 1 rfl ?_
  intro dH jE
  refine aT (H':=Sep [aK 31 66 (.slice ra l.length rc) l.length (l.flatMap ck),X]::ak b5 (cl [.slice ra l.length rc] 176)::ak bs (cl (eJ bd q mb brk) 88)::aJ bd A::ak b3 (cl (dC d) 29)::ak b2 (cl [ptr bs] 40)::F) (aq.trans (H2:=aK 31 66 (.slice ra l.length rc) l.length (l.flatMap ck)::X::ak b5 (cl [.slice ra l.length rc] 176)::ak bs (cl (eJ bd q mb brk) 88)::aJ bd A::ak b3 (cl (dC d) 29)::ak b2 (cl [ptr bs] 40)::F) ad (aq.cg [_,_] _)) ?_
  have nr:=Iq _ (hK.mono (aX (H:=[aK 31 66 (.slice ra l.length rc) l.length (l.flatMap ck),X]) (i:=1) rfl)) _ l (dH.mono (aX (i:=0) rfl)) aj
  unfold LH at nr
  rw[if_pos k8]at nr
  refine aW (U:=bh) (l:=[.slice ra l.length rc]) 1 zr zr zr zr zr zr ?_
  refine aeb nr ?_
  unfold dV
  refine go ?_
  refine aL zr zr zr bO ?_
  intro b7
  refine go ?_
  refine aW (U:=bh) (l:=dC (AN l)) 0 zr zr zr zr zr zr (go ?_)
  refine aW (U:=bh) (l:=dC d) 5 zr zr zr zr zr zr (go ?_)
  refine lJ (b:=decide (AN l=d)) zr zr zr N7 (fun w=>Of (AN l) d w) ?_
  by_cases lq:AN l=d
  ·rw[decide_eq_true lq]at hE ⊢
   rw[Bool.true_and]at hE
   refine go ?_
   refine aT (H':=aK 31 66 (.slice ra l.length rc) l.length (l.flatMap ck)::Sep [ak b2 (cl [ptr bs] 40),ak bs (cl (eJ bd q mb brk) 88),aJ bd A,X]::F) (aq.trans (aq.trans (aq.pick [1] rfl) (aq.cR [_,_] _)) (aq.trans (H2:=ak b2 (cl [ptr bs] 40)::ak bs (cl (eJ bd q mb brk) 88)::aJ bd A::X::aK 31 66 (.slice ra l.length rc) l.length (l.flatMap ck)::F) ad (aq.trans (aq.cg [_,_,_,_] _) ad))) ?_
   refine aeb (mu _ (Sep [ak b2 (cl [ptr bs] 40),ak bs (cl (eJ bd q mb brk) 88),aJ bd A,X]) _ l dH aj 103 [ptr b2] (fun y => !iD A y.d) (fun y _=>BD X hK b2 bs bd q mb brk A y)) ?_
   refine go ?_
   refine al (aq.trans (aq.pick [1] rfl) (aq.cR [_,_,_,_] _)) ?_
   refine ah hE Tryz.func37 zr zr ⟨rfl,rfl⟩
  ·rw[decide_eq_false lq]at hE ⊢
   rw[Bool.false_and]at hE
   refine go ?_
   refine al (aq.trans (aq.pick [1] rfl) (aq.cR [_,_] _)) ?_
   refine ah hE Tryz.func37 zr zr ⟨rfl,rfl⟩
def Fz(g:FuncId)(fi:List Value)(Y:Ab→HP)(right:Ab→Dg→Bool):Prop:=∀(A:Ab) (d:Dg),aH Tryz.prog g (fi++[dV d]) [Y A] (fun r H=>r = .bool (right A d)∧H=[Y A])
end Go.Proofs.YtlionahpheehaaaGreatDoor
namespace Go.Proofs.YtlionahpheehaaaGreatDoor
open Go Go.SL
attribute [local irreducible] J K aH Ends ak aK aV bX bj aS bp bD cp
theorem Ie{σ:Type}(I:σ→HP)(V:HP)(v:Value)(me:List Value)(hv:Vw V v me.length me)(hn:me.length≤1000000000)(ss:List (σ→Nat→σ→Prop))(hlen:ss.length=me.length)(Q:Nat→σ→Prop)(cN:∀(i:Nat) (fv:Value) (s:σ→Nat→σ→Prop),me[i]?=some fv→ss[i]?=some s→∃g fi cap,fv = .func (.func g) fi cap∧∀x,Q i x→aH Tryz.prog g (fi.toList++cap.toList) [I x] (fun r H=>∃(e:Nat) (x':σ),r = .int .i64 (e:Int)∧H=[I x']∧s x e x'∧(e=0→Q (i+1) x')))(x0:σ)(hQ:Q 0 x0) :
  aH Tryz.prog 31 [v] [V,I x0] (fun r H=>∃(e:Nat) (x':σ),r = .int .i64 (e:Int)∧H=[V,I x']∧jG ss x0 e x'∧(e=0→Q me.length x')):=by
 obtain⟨a,c,rfl⟩:=hv.shape
 refine aH.aC Tryz.func31 Tryz.ntmps31 fun G F R hE=>?_
 refine go ?_
 refine bF (fun y:Nat × σ=>y.1≤me.length∧Q y.1 y.2∧∀e x',jG (ss.drop y.1) y.2 e x'→jG ss x0 e x') (fun y=>me.length-y.1)
  (fun y=>[(0,.slice a me.length c),(6,.slice a me.length c),(7,.int .i64 (me.length:Int)),(8,.int .i64 (y.1:Int))])
  (fun y=>V::I y.2::F) (0,x0) ⟨Nat.zero_le _,hQ,fun _ _ h=>h⟩ rfl cF ad ?_
 rintro⟨i,x⟩⟨hi,hq,hr⟩ ih
 simp only at hi hq hr
 refine go ?_
 refine aB zr zr ?_ ?_
 ·intro dk
  simp only at dk
  have l9:i<me.length:=by omega
  obtain⟨fv,mA⟩:∃fv,me[i]?=some fv:=⟨me[i],List.getElem?_eq_getElem l9⟩
  obtain⟨s,hs⟩:∃s,ss[i]?=some s:=⟨ss[i],List.getElem?_eq_getElem aj⟩
  obtain⟨g,fi,cap,rfl,hc⟩:=cN i fv s mA hs
  have ke:ss.drop i=s::ss.drop (i+1):=by
   rw[List.drop_eq_getElem_cons aj]
   grind
  obtain⟨b0,o0,c0,tT⟩:=hv.some (by intro h;rw[h]at l9;simp at l9)
  simp only[Value.slice.injEq]at tT
  obtain⟨rfl,-,rfl⟩:=tT
  refine go ?_
  refine bW i zr zr zr zr zr zr zr zr l9 ?_
  refine aZ 0 i zr zr zr hv rfl mA zr zr (go ?_)
  refine zX zr zr zr (by simp) (hc x hq) ad ?_ bI
  rintro _ _⟨e,x',rfl,rfl,J2,Q6⟩
  refine go ?_
  refine aB zr zr ?_ ?_
  ·intro dw
   have he:e≠0:=by omega
   refine go ?_
   ((refine ah hE Tryz.func31 zr zr ⟨e,x',rfl,rfl,hr e x' (by rw[ke];exact⟨e,x',J2,.inl ⟨he,rfl,rfl⟩⟩),fun h=>absurd h he⟩))
  ·intro heq
   have he:e=0:=by omega
   refine go ?_
   refine aQ ih (i+1,x') rfl (⟨by simp only;omega,Q6 he,fun e2 x2 h2=>hr e2 x2 (by rw[ke];exact⟨e,x',J2,.inr ⟨he,h2⟩⟩)⟩) (by simp only;omega) cF ad
 ·intro fO
  simp only at fO
  have e9:i=me.length:=by omega
  subst e9
  refine go ?_
  ((refine ah hE Tryz.func31 zr zr ⟨0,x,rfl,rfl,hr 0 x (by rw[List.drop_eq_nil_of_le aj];exact⟨rfl,rfl⟩),fun _=>hq⟩))
attribute [local irreducible] Sha.chunks Sha.chunk Sha.rounds Sha.sched fz cY GI fG
def pG(bd:Nat)(A:Ab):aH Tryz.prog 29 [ptr bd] [aJ bd A] (fun r H=>H=[aK 9 1 r (gA A).length ((gA A).map Value.string),aJ bd A]):=by
 have hl:(gA A).length=(fb A).length:=by unfold gA;rw[List.length_map,xA]
 have hm:(gA A).map Value.string=nS (rE (fb A)):=by unfold gA nS;rw[List.map_map];rfl
 rw[hl,hm]
 exact iM (Post:=fun v H=>∃D,Rel D A∧H=[aK 9 1 v (fb A).length (nS (rE (fb A))),im bd D]) aw (fun D hR=>(OE bd D A hR).post (fun v H h=>⟨D,hR,h⟩)) (by rintro v H⟨D',hR,rfl⟩;exact⟨_,rfl,aq.cons _ (il hR [])⟩)
attribute [local irreducible] aJ
def uV{A:Ab}(h:MA A):(gA A).length≤200:=by
 unfold gA fb
 rw[List.length_map,xA,List.length_map]
 exact h.gk _ (List.mem_cons_self ..)
def oE(bs bd:Nat)(q:Int)(mb:Nat)(brk:Bool)(X:HP)(A:Ab):HP:=Sep [ak bs (cl (eJ bd q mb brk) 88),aJ bd A,X]
def oy{A B:Ab}{nm:ByteArray}{e:Nat}(h:jz nm A e B):kU A B:=by
 have:=se A (isName nm) nm
 rw[← h]at this
 exact this
theorem mM(bs bd:Nat)(q:Int)(mb:Nat)(brk:Bool)(X:HP)(kind:List UInt8)(hk:kind.length≤1000)(g:FuncId)(fi:List Value)(right:Ab→Dg→Bool)(hr:Fz g fi (oE bs bd q mb brk X) right)(A:Ab)(cN:A.aF.length≤900000000) :
  aH Tryz.prog 33 [ptr bs,.string (strOf kind),.func (.func g) fi.toArray #[] ] [oE bs bd q mb brk X A]
  (fun r H=>∃(e:Nat) (B:Ab),r = .int .i64 (e:Int)∧H=[oE bs bd q mb brk X B]∧eV kind right A e B∧B.aF.length≤A.aF.length+200):=by
 refine aH.aC Tryz.func33 Tryz.ntmps33 fun G F R hE=>?_
 refine al (aq.cR [_,_,_] _) ?_
 refine wX (bd:=bd) (A:=A) 1 rfl ?_
 intro Kg
 have Rc:=uV Kg
 obtain⟨l,hl⟩:∃l,l=gA A:=⟨_,rfl⟩
 have hsd:∀e B,mB kind right l A e B→eV kind right A e B:=fun e B h=>by unfold eV;rw[← hl];exact h
 refine go ?_
 have nr:=pG bd A
 rw[← hl]at nr Rc
 refine ao nr ?_
 rintro r _ rfl
 refine aN 0 rfl ?_
 rintro ra rc rfl
 refine eZ 0 rfl ?_
 intro dH
 refine go ?_
 refine bF (fun y:Nat × Ab=>y.1≤l.length∧y.2.aF.length≤A.aF.length+y.1∧∀e B,mB kind right (l.drop y.1) y.2 e B→eV kind right A e B) (fun y=>l.length-y.1)
  (fun y=>[(0,ptr bs),(1,.string (strOf kind)),(2,.func (.func g) fi.toArray #[]),(16,.slice ra l.length rc),(17,.int .i64 (l.length:Int)),(18,.int .i64 (y.1:Int))])
  (fun y=>aK 9 1 (.slice ra l.length rc) l.length (l.map Value.string)::ak bs (cl (eJ bd q mb brk) 88)::aJ bd y.2::X::F) (0,A) ⟨Nat.zero_le _,by simp,hsd⟩ rfl cF ad ?_
 rintro⟨i,B⟩⟨hi,N1,VD⟩ ih
 simp only at hi N1 VD
 dsimp only
 refine go ?_
 refine aB zr zr ?_ ?_
 ·intro dk
  have e9:i<l.length:=by omega
  obtain⟨nm,hx⟩:∃x,l[i]?=some x:=⟨l[i],by simp⟩
  have ke:l.drop i=nm::l.drop (i+1):=by
   rw[List.drop_eq_getElem_cons e9]
   grind
  rw[ke]at VD
  have eB:(l.map Value.string)[i]?=some (.string nm):=by rw[List.getElem?_map,hx];rfl
  obtain⟨b,o,gV,ez⟩:=dH.some (by intro h;rw[h]at eB;simp at eB)
  simp only[Value.slice.injEq]at ez
  obtain⟨rfl,_,rfl⟩:=ez
  refine go ?_
  refine cu i 1 zr zr zr zr zr zr zr zr e9 ?_
  refine aY ?_
  refine aZ 0 (i*1) zr zr zr dH rfl (by rw[Nat.mul_one];exact eB) zr zr ?_
  refine go ?_
  refine aeb (wj kind nm hk) ?_
  cases hh:kf kind nm with
  | none =>
   have J3:∀e B',mB kind right (l.drop (i+1)) B e B'→eV kind right A e B':=fun e B' h=>VD e B' (by unfold mB;rw[hh];exact h)
   simp only[Hz]
   unfold dV
   refine go ?_
   refine aL zr zr zr bO ?_
   intro b9
   refine go ?_
   refine aQ ih (i+1,B) rfl ⟨by simp only;omega,by simp only;omega,J3⟩ (by simp only;omega) cF ad
  | some d =>
   have LR:=hr B d
   simp only[Hz]
   unfold dV
   refine go ?_
   refine aL zr zr zr bO ?_
   intro b9
   refine go ?_
   refine aW (U:=bh) (l:=dC d) 0 zr zr zr zr zr zr (go ?_)
   refine aT (aq.trans (aq.pick [2,3,4] rfl) (aq.cg [ak bs (cl (eJ bd q mb brk) 88),aJ bd B,X] _)) ?_
   refine zX zr zr zr (by simp;rfl) LR ad ?_ bI
   rintro _ _⟨rfl,rfl⟩
   refine aT (aq.cR [ak bs (cl (eJ bd q mb brk) 88),aJ bd B,X] _) ?_
   cases hri:right B d with
   | true =>
    have J3:∀e B',mB kind right (l.drop (i+1)) B e B'→eV kind right A e B':=fun e B' h=>VD e B' (by unfold mB;rw[hh];simp only;rw[if_pos hri];exact h)
    refine go ?_
    refine aQ ih (i+1,B) rfl ⟨by simp only;omega,by simp only;omega,J3⟩ (by simp only;omega) cF ad
   | false =>
    have aae:=pE bd B nm aj
    obtain⟨e1,B1,T4⟩:∃e1 B1,B.remove (isName nm) nm=(e1,B1):=⟨_,_,rfl⟩
    rw[T4]at aae
    have hgr:=oy (A:=B) (B:=B1) (nm:=nm) (e:=e1) T4.symm
    have J3:∀e B',((e1≠0∧e=e1∧B'=B1)∨(e1=0∧mB kind right (l.drop (i+1)) B1 e B'))→eV kind right A e B':=fun e B' h=>VD e B' (by unfold mB;rw[hh];simp only;rw[if_neg (by rw[hri];simp)];exact⟨e1,B1,T4.symm,h⟩)
    have I4:=hgr.1
    refine go ?_
    refine aeb aae ?_
    refine go ?_
    refine aB zr zr ?_ ?_
    ·intro dw
     have hJ:e1≠0:=by simp only at dw;omega
     refine go ?_
     refine al (H':=oE bs bd q mb brk X B1::F) (aq.trans (H2:=ak bs (cl (eJ bd q mb brk) 88)::aJ bd B1::X::F) ad (aq.cg [ak bs (cl (eJ bd q mb brk) 88),aJ bd B1,X] _)) ?_
     refine ah hE Tryz.func33 zr zr ⟨e1,B1,rfl,rfl,J3 e1 B1 (.inl ⟨hJ,rfl,rfl⟩),aj⟩
    ·intro heq
     have wg:e1=0:=by simp only at heq;omega
     refine go ?_
     refine aQ ih (i+1,B1) rfl ⟨by simp only;omega,by simp only;omega,fun e B' h=>J3 e B' (.inr ⟨wg,h⟩)⟩ (by simp only;omega) cF ad
 ·intro fO
  have ue:i=l.length:=by omega
  rw[ue,List.drop_length]at VD
  refine go ?_
  refine al (H':=oE bs bd q mb brk X B::F) (aq.trans (H2:=ak bs (cl (eJ bd q mb brk) 88)::aJ bd B::X::F) ad (aq.cg [ak bs (cl (eJ bd q mb brk) 88),aJ bd B,X] _)) ?_
  ((refine ah hE Tryz.func33 zr zr ⟨0,B,rfl,rfl,VD 0 B (by unfold mB;exact⟨rfl,rfl⟩),aj⟩))
def Mc{P:Program}{f:FuncId}{args:List Value}{l:List HP}{p:Value→Prop}(h:aH P f args l (fun r H=>p r∧H=l)):aH P f args [Sep l] (fun r H=>p r∧H=[Sep l]) :=
 h.conv (by have:=aq.cR l [];rwa[List.append_nil]at this) (by intro v H hh;obtain⟨hp,hH⟩:=hh;exact⟨[Sep l],⟨hp,rfl⟩,by rw[hH];have:=aq.cg l [];rwa[List.append_nil]at this⟩)
def Au(X:HP)(hK:qI X)(bs bd:Nat)(q:Int)(mb:Nat)(brk:Bool):Fz 34 [ptr bs] (oE bs bd q mb brk X) iD:=fun A d=>Mc (p:=fun r=>r = .bool (iD A d)) (CK X hK bs bd q mb brk A d)
def tU(X:HP)(hK:qI X)(bs bd:Nat)(q:Int)(mb:Nat)(brk:Bool):Fz 37 [ptr bs] (oE bs bd q mb brk X) gg:=fun A d=>Mc (p:=fun r=>r = .bool (gg A d)) (Fi X hK bs bd q mb brk A d)
def Av(Y:Ab→HP):Fz 30 [] Y (fun _ _=>false):=fun A d=>by
 show aH Tryz.prog 30 [dV d] [Y A] _
 unfold dV
 refine aH.aC Tryz.func30 Tryz.ntmps30 fun G F R hE=>?_
 refine aP rfl ?_
 refine bJ zr zr bO ?_
 intro b1
 refine go ?_
 refine ah hE Tryz.func30 zr zr ⟨rfl,rfl⟩
def Qq(bs bd b6 b8:Nat)(q:Int)(mb:Nat)(X:HP)(A:Ab):HP:=Sep [oE bs bd q mb false X A,ak b6 (cl [ptr bs] 40),ak b8 (cl [.func (.func 30) #[] #[] ] 91)]
def Ni(X:HP)(hK:qI X)(bs bd b6 b8:Nat)(q:Int)(mb:Nat)(A:Ab)(cN:A.aF.length≤900000000):aH Tryz.prog 32 [ptr b6] [Qq bs bd b6 b8 q mb X A]
  (fun r H=>∃(e:Nat) (B:Ab),r = .int .i64 (e:Int)∧H=[Qq bs bd b6 b8 q mb X B]∧eV kB iD A e B∧B.aF.length≤A.aF.length+200):=by
 refine aH.aC Tryz.func32 Tryz.ntmps32 fun G F R hE=>?_
 refine al (aq.cR [_,_,_] _) (go ?_)
 refine ao (mM bs bd q mb false X kB (by decide) _ [ptr bs] iD (Au X hK bs bd q mb false) A cN) ?_
 rintro _ _⟨e,B,rfl,rfl,h1,h2⟩
 refine go ?_
 refine al (aq.cg [oE bs bd q mb false X B,_,_] _) ?_
 refine ah hE Tryz.func32 zr zr ⟨e,B,rfl,rfl,h1,h2⟩
def Nh(X:HP)(bs bd b6 b8:Nat)(q:Int)(mb:Nat)(A:Ab)(cN:A.aF.length≤900000000):aH Tryz.prog 35 [ptr b6,ptr b8] [Qq bs bd b6 b8 q mb X A]
  (fun r H=>∃(e:Nat) (B:Ab),r = .int .i64 (e:Int)∧H=[Qq bs bd b6 b8 q mb X B]∧eV kN (fun _ _=>false) A e B∧B.aF.length≤A.aF.length+200):=by
 refine aH.aC Tryz.func35 Tryz.ntmps35 fun G F R hE=>?_
 refine al (aq.cR [_,_,_] _) (go ?_)
 refine ao (mM bs bd q mb false X kN (by decide) _ [] (fun _ _=>false) (Av _) A cN) ?_
 rintro _ _⟨e,B,rfl,rfl,h1,h2⟩
 refine go ?_
 refine al (aq.cg [oE bs bd q mb false X B,_,_] _) ?_
 refine ah hE Tryz.func35 zr zr ⟨e,B,rfl,rfl,h1,h2⟩
def Ng(X:HP)(hK:qI X)(bs bd b6 b8:Nat)(q:Int)(mb:Nat)(A:Ab)(cN:A.aF.length≤900000000):aH Tryz.prog 36 [ptr b6] [Qq bs bd b6 b8 q mb X A]
  (fun r H=>∃(e:Nat) (B:Ab),r = .int .i64 (e:Int)∧H=[Qq bs bd b6 b8 q mb X B]∧eV kI gg A e B∧B.aF.length≤A.aF.length+200):=by
 refine aH.aC Tryz.func36 Tryz.ntmps36 fun G F R hE=>?_
 refine al (aq.cR [_,_,_] _) (go ?_)
 refine ao (mM bs bd q mb false X kI (by decide) _ [ptr bs] gg (tU X hK bs bd q mb false) A cN) ?_
 rintro _ _⟨e,B,rfl,rfl,h1,h2⟩
 refine go ?_
 refine al (aq.cg [oE bs bd q mb false X B,_,_] _) ?_
 refine ah hE Tryz.func36 zr zr ⟨e,B,rfl,rfl,h1,h2⟩
def dJ(l:List (Dg × Bl)):List (Dg × Value):=l.map fun x=>(x.1,ix x.2)
theorem ql(A:Ab):(gA A).length=A.names.length:=by unfold gA fb;rw[List.length_map,xA,List.length_map]
theorem tG(X:HP)(hK:qI X)(bd:Nat)(q:Int)(A:Ab)(cN:A.aF.length≤800000000):aH Tryz.prog 8 [ptr bd,.int .i64 q] [aJ bd A,X]
  (fun r H=>((q<1∨1073741824<q)∧r = .tuple #[.pointer none,.int .i64 1]∧H=[aJ bd A,X])∨(¬(q<1∨1073741824<q)∧A.off=true∧r = .tuple #[.pointer none,.int .i64 7]∧H=[aJ bd A,X]) ∨
   (¬(q<1∨1073741824<q)∧A.off=false∧∃(e:Nat) (B:Ab),sw A e B∧((e≠0∧r = .tuple #[.pointer none,.int .i64 (e:Int)]∧H=[aJ bd B,X]) ∨
    (e=0∧B.aF.length≤A.aF.length+601∧∃bs mb,r = .tuple #[ptr bs,.int .i64 0]∧H=[ak bs (cl (eJ bd q mb false) 88),aV dV mb (dJ []),aJ bd B,X])))):=by
 refine aH.aC Tryz.func8 Tryz.ntmps8 fun G F R hE=>?_
 refine wX (bd:=bd) (A:=A) 0 rfl ?_
 intro Kg
 repeat'(first|(with_reducible intro k9)|refine g9 ?_|refine dA zr zr zr zr ?_ ?_|refine aB zr zr ?_ ?_|(refine ao (KT bd A) ?_;rintro _ _⟨rfl,rfl⟩))
 ·refine ah hE Tryz.func8 zr zr (.inl ⟨.inl aj,rfl,rfl⟩)
 ·refine ah hE Tryz.func8 zr zr (.inl ⟨.inr aj,rfl,rfl⟩)
 have hq:¬(q<1∨1073741824<q):=by omega
 cases mh:A.off with
 | true =>
  refine go ?_
  refine ah hE Tryz.func8 zr zr (.inr (.inl ⟨hq,mh,rfl,rfl⟩))
 | false =>
  rw[mh]at hE
  refine go ?_
  refine pL rfl bO ?_
  intro mb
  refine aT (aq.fold (B:=[_]) (A:=aV dV mb (dJ [])) (fun h hs=>⟨h,sub.refl h,oW dV mb h (eO hs)⟩)) ?_
  refine go ?_
  refine bJ zr zr bO ?_
  intro bs
  refine aL zr zr zr bO ?_
  intro b6
  refine go ?_
  refine ao (pG bd A) ?_
  rintro r _ rfl
  refine aN 0 rfl ?_
  rintro ra rc rfl
  refine go ?_
  refine aL zr zr zr bO ?_
  intro b8
  refine go ?_
  refine az (cs:=[.func (.func 32) #[] #[ptr b6],.func (.func 35) #[] #[ptr b6,ptr b8],.func (.func 36) #[] #[ptr b6] ]) zr zr zr zr zr zr zr zr zr bO ?_
  intro row
  refine aT (H':=ak row (cl [.func (.func 32) #[] #[ptr b6],.func (.func 35) #[] #[ptr b6,ptr b8],.func (.func 36) #[] #[ptr b6] ] 94)::Qq bs bd b6 b8 q mb X A::aV dV mb (dJ [])::F) (aq.trans (H2:=ak bs (cl (eJ bd q mb false) 88)::aJ bd A::X::ak b6 (cl [ptr bs] 40)::ak b8 (cl [.func (.func 30) #[] #[] ] 91)::ak row (cl [.func (.func 32) #[] #[ptr b6],.func (.func 35) #[] #[ptr b6,ptr b8],.func (.func 36) #[] #[ptr b6] ] 94)::aV dV mb (dJ [])::F) ad (aq.trans (aq.cg [ak bs (cl (eJ bd q mb false) 88),aJ bd A,X] _) (aq.trans (aq.cg [oE bs bd q mb false X A,ak b6 (cl [ptr bs] 40),ak b8 (cl [.func (.func 30) #[] #[] ] 91)] _) ad))) ?_
  have xT:∀(i:Nat) (fv:Value) (sp:Ab→Nat→Ab→Prop),[.func (.func 32) #[] #[ptr b6],.func (.func 35) #[] #[ptr b6,ptr b8],.func (.func 36) #[] #[ptr b6] ][i]?=some fv→[eV kB iD,eV kN (fun _ _=>false),eV kI gg][i]?=some sp→∃g fi cap,fv = .func (.func g) fi cap∧∀x:Ab,x.aF.length≤A.aF.length+200*i→aH Tryz.prog g (fi.toList++cap.toList) [Qq bs bd b6 b8 q mb X x] (fun r H=>∃(e:Nat) (x':Ab),r = .int .i64 (e:Int)∧H=[Qq bs bd b6 b8 q mb X x']∧sp x e x'∧(e=0→x'.aF.length≤A.aF.length+200*(i+1))):=by
   intro i fv sp hi hs
   match i,hi,hs with
   | 0,hi,hs =>
    cases hi;cases hs
    refine⟨_,_,_,rfl,fun x hx=>(Ni X hK bs bd b6 b8 q mb x aj).post ?_⟩
    grind
   | 1,hi,hs =>
    cases hi;cases hs
    refine⟨_,_,_,rfl,fun x hx=>(Nh X bs bd b6 b8 q mb x aj).post ?_⟩
    grind
   | 2,hi,hs =>
    cases hi;cases hs
    refine⟨_,_,_,rfl,fun x hx=>(Ng X hK bs bd b6 b8 q mb x aj).post ?_⟩
    grind
   | k+3,hi,hs=>simp at hi
  have fH:=Ie (Qq bs bd b6 b8 q mb X) (ak row (cl [.func (.func 32) #[] #[ptr b6],.func (.func 35) #[] #[ptr b6,ptr b8],.func (.func 36) #[] #[ptr b6] ] 94)) (.slice (some ⟨row,0,none⟩) 3 3) [.func (.func 32) #[] #[ptr b6],.func (.func 35) #[] #[ptr b6,ptr b8],.func (.func 36) #[] #[ptr b6] ] (Vw.ak rfl) (by show 3≤_;omega) [eV kB iD,eV kN (fun _ _=>false),eV kI gg] rfl (fun i x=>x.aF.length≤A.aF.length+200*i) xT A (by simp)
  refine ao fH ?_
  rintro _ _⟨e,B,rfl,rfl,fe,hb⟩
  refine aT (H':=ak bs (cl (eJ bd q mb false) 88)::aJ bd B::X::ak b6 (cl [ptr bs] 40)::aV dV mb (dJ [])::F) (aq.trans (H2:=Qq bs bd b6 b8 q mb X B::aV dV mb (dJ [])::F) ad (aq.trans (aq.cR [oE bs bd q mb false X B,ak b6 (cl [ptr bs] 40),ak b8 (cl [.func (.func 30) #[] #[] ] 91)] _) (aq.trans (aq.cR [ak bs (cl (eJ bd q mb false) 88),aJ bd B,X] _) ad))) ?_
  by_cases he:e=0
  ·subst he
   have L4:=hb rfl
   simp only[List.length_cons,List.length_nil]at L4
   refine go ?_
   refine ao (pG bd B) ?_
   rintro r2 _ rfl
   refine aN 0 rfl ?_
   rintro ra2 rc2 rfl
   refine go ?_
   refine aB zr zr ?_ ?_
   ·intro dk
    have qX:B.names.length<A.names.length:=by
     grind [ql]
    have LO:=qD bd B
    obtain⟨e2,B2,hse⟩:∃e2 B2,B.cG=(e2,B2):=⟨_,_,rfl⟩
    rw[hse]at LO
    have iK:sw A e2 B2:=⟨0,B,fe,by rw[if_pos ⟨rfl,qX⟩];exact hse.symm⟩
    refine go ?_
    refine aeb LO ?_
    refine go ?_
    refine aB zr zr ?_ ?_
    ·intro dw
     have hJ:e2≠0:=by simp only at dw;omega
     refine go ?_
     refine ah hE Tryz.func8 zr zr (.inr (.inr ⟨hq,rfl,e2,B2,iK,.inl ⟨hJ,rfl,rfl⟩⟩))
    ·intro heq
     have wg:e2=0:=by simp only at heq;omega
     subst wg
     have hg:B2.aF.length≤B.aF.length+1:=by
      have h1:B2=B.cG.2:=by rw[hse]
      rw[h1]
      exact(kK B).1
     refine go ?_
     refine al (H':=ak bs (cl (eJ bd q mb false) 88)::aV dV mb (dJ [])::aJ bd B2::X::F) ad ?_
     refine ah hE Tryz.func8 zr zr (.inr (.inr ⟨hq,rfl,0,B2,iK,.inr ⟨rfl,aj,bs,mb,rfl,rfl⟩⟩))
   ·intro fO
    have qX:¬B.names.length<A.names.length:=by
     grind [ql]
    have iK:sw A 0 B:=⟨0,B,fe,by rw[if_neg aj];exact⟨rfl,rfl⟩⟩
    refine go ?_
    refine al (H':=ak bs (cl (eJ bd q mb false) 88)::aV dV mb (dJ [])::aJ bd B::X::F) ad ?_
    refine ah hE Tryz.func8 zr zr (.inr (.inr ⟨hq,rfl,0,B,iK,.inr ⟨rfl,aj,bs,mb,rfl,rfl⟩⟩))
  ·have iK:sw A e B:=⟨e,B,fe,by rw[if_neg aj];exact⟨rfl,rfl⟩⟩
   refine go ?_
   have hd:decide ((e:Int)=0)=false:=by simp;exact he
   rw[hd]
   refine go ?_
   refine aB zr zr ?_ ?_
   ·intro _
    refine go ?_
    refine al (H':=aJ bd B::X::F) ad ?_
    refine ah hE Tryz.func8 zr zr (.inr (.inr ⟨hq,rfl,e,B,iK,.inl ⟨he,rfl,rfl⟩⟩))
   ·intro h0
    exact absurd (by omega:e=0) he
end Go.Proofs.YtlionahpheehaaaGreatDoor
namespace Go.Proofs.YtlionahpheehaaaGreatDoor
open Go Go.SL
attribute [local irreducible] J K aH Ends ak aK aV bX bj
section
variable{P:Program}{U:Tr}[hU:gF P U]{f:FuncId}{n:Nat}{R:Ending→World→Prop}{G:cL}{k:List Item}{L:gh}{H H':List HP}{all:Array Oper}{rest:Pl}{ty:TypeId}{pos:String}{af:Array Edge}{gd:Option (Nat × Bool)}{d:Tmp}
theorem cE{Hs:List HP}{t:TypeId}{x:Operand}{b off:Nat}{cd:Ty}{l:List Value}{e:TypeId}{cs:List Value}(i:Nat)(hd:Nat.blt d n=true)(hx:ev L x=some (.pointer (some ⟨b,off,none⟩)))(hi:cD Hs i=some (ak b (cl l e)))(ht:U.get t=some cd)(hg:cd.isAgg=true)(hv:vG l off cd.info.size [] = .mk cs)(h:J P f n R G (fun w=>Sat G w Hs) all rest k ((d,.agg cs.toArray)::L) H):J P f n R G (fun w=>Sat G w Hs) all (.cons true true ⟨some d,.load t x,ty,pos,af,gd⟩ rest) k L H :=
 mK hd (fun a w ha hw=>by
  obtain⟨h1,h2⟩:=F' _ _ _ _ _ hv
  simp only[List.reverse_nil,List.nil_append]at h1
  have hc:∀j v,cs[j]?=some v→w.cell? ⟨b,off+j,none⟩=some v:=fun j v hj=>by
   grind [dD,Sat.q9]
  have:=gZ (P:=P) ht hg (by rw[h1];simp;omega) hc
  simp[execOp,ha.ev hx,this]) h
end
end Go.Proofs.YtlionahpheehaaaGreatDoor
namespace Go.Proofs.YtlionahpheehaaaGreatDoor
open Go Go.SL
attribute [local irreducible] J K aH Ends ak aK aV bX bj aS bp bD cp Sha.chunks Sha.chunk Sha.rounds Sha.sched fz cY GI fG aJ
section
variable{P:Program}{U:Tr}[hU:gF P U]{f:FuncId}{n:Nat}{R:Ending→World→Prop}{G:cL}{k:List Item}{L:gh}{H H':List HP}{all:Array Oper}{rest:Pl}{ty:TypeId}{pos:String}{af:Array Edge}{gd:Option (Nat × Bool)}{d:Tmp}
end
def Mx(bs bd:Nat)(q:Int)(mb:Nat)(brk:Bool)(A:Ab)(d:Dg):aH Tryz.prog 85 [ptr bs,dV d] [ak bs (cl (eJ bd q mb brk) 88),aJ bd A]
  (fun r H=>r = .bool (sc A (cX kB d))∧H=[ak bs (cl (eJ bd q mb brk) 88),aJ bd A]):=by
 have hf:=ny kB d (by decide)
 unfold dV at hf ⊢
 refine aH.aC Tryz.func85 Tryz.ntmps85 fun G F R hE=>?_
 refine aP rfl ?_
 refine bJ zr zr bO ?_
 intro b3
 refine go ?_
 refine aW (U:=bh) (l:=dC d) 0 zr zr zr zr zr zr ?_
 refine aeb hf ?_
 refine aeb (ER bs bd q mb brk A (cX kB d)) ?_
 refine go ?_
 refine ah hE Tryz.func85 zr zr ⟨rfl,rfl⟩
def rM(l:List (Dg × Bl))(x:Bl):Bool:=decide (iN l x.d=some x)
theorem tC(l:List (Dg × Bl))(d:Dg):fh (dJ l) d=(iN l d).map ix:=by
 unfold dJ iN fh
 induction l with
 | nil=>rfl
 | cons y l ih =>
  grind
def GP(bs bd:Nat)(q:Int)(mb:Nat)(brk:Bool)(l:List (Dg × Bl))(x:Bl):aH Tryz.prog 194 [ptr bs,ix x] [ak bs (cl (eJ bd q mb brk) 88),aV dV mb (dJ l)]
  (fun r H=>r = .bool (rM l x)∧H=[ak bs (cl (eJ bd q mb brk) 88),aV dV mb (dJ l)]):=by
 unfold ix
 refine aH.aC Tryz.func194 Tryz.ntmps194 fun G F R hE=>?_
 refine aP rfl ?_
 refine bJ zr zr bO ?_
 intro b3
 refine go ?_
 refine aO (fun w=>Sat G w ([ak b3 (cl (ck x) 31),ak bs (cl (eJ bd q mb brk) 88),aV dV mb (dJ l)])) (dM 0 10 (.act 10 (.act 11 (.st 12 .nil)))) rfl aw aw aw dI ?_
 refine go ?_
 refine cE (U:=bh) 0 zr zr zr zr zr zr (go ?_)
 refine sD (U:=bh) (es:=dJ l) (key:=x.d) rfl TX zr zr zr zr zr zr zr (fun w hw=>hw.qv (i:=2) rfl) ?_
 rw[tC]
 cases hb:iN l x.d with
 | none =>
  simp only[Option.map_none,Option.getD_none,Option.isSome_none]
  refine go ?_
  refine aL zr zr zr (fun _ w hw=>hw.cI ad) ?_
  intro b5
  refine go ?_
  (refine bE ?_;(refine aD 0 dI zr zr zr zr zr zr zr zr zr ?_))
  refine go ?_
  have hw:rM l x=false:=by unfold rM;rw[hb];rfl
  rw[hw]at hE
  refine ah hE Tryz.func194 zr zr ⟨rfl,rfl⟩
 | some y =>
  simp only[Option.map_some,Option.getD_some,Option.isSome_some]
  unfold ix
  refine go ?_
  refine aL zr zr zr (fun _ w hw=>hw.cI ad) ?_
  intro b5
  refine go ?_
  (refine bE ?_;(refine aD 0 dI zr zr zr zr zr zr zr zr zr ?_))
  refine go ?_
  have hw:rM l x=decide (x=y):=by unfold rM;rw[hb];simp only[Option.some.injEq];rw[decide_eq_decide];exact eq_comm
  rw[hw]at hE
  (repeat(first|refine g9 ?_|refine aW (U:=bh) (l:=ck x) 1 zr zr zr zr zr zr ?_|refine aW (U:=bh) (l:=ck y) 0 zr zr zr zr zr zr ?_|refine lJ (b:=decide (x=y)) zr zr zr aaK (fun w=>aaO x y w) ?_))
  refine ah hE Tryz.func194 zr zr ⟨rfl,rfl⟩
def mF(brk:Bool)(l:List (Dg × Bl))(x:Bl):Nat:=if brk then 10 else if rM l x then 0 else 4
def vV(bs bd:Nat)(q:Int)(mb:Nat)(brk:Bool)(l:List (Dg × Bl))(x:Bl):aH Tryz.prog 150 [ptr bs,ix x] [ak bs (cl (eJ bd q mb brk) 88),aV dV mb (dJ l)]
  (fun r H=>r = .int .i64 (mF brk l x:Int)∧H=[ak bs (cl (eJ bd q mb brk) 88),aV dV mb (dJ l)]):=by
 have ho:=GP bs bd q mb brk l x
 unfold ix at ho ⊢
 refine aH.aC Tryz.func150 Tryz.ntmps150 fun G F R hE=>?_
 refine aP rfl ?_
 refine bJ zr zr bO ?_
 intro b3
 cases brk with
 | true =>
  refine go ?_
  refine ah hE Tryz.func150 zr zr ⟨rfl,rfl⟩
 | false =>
  refine go ?_
  refine aW (U:=bh) (l:=ck x) 0 zr zr zr zr zr zr ?_
  refine aeb ho ?_
  cases hob:rM l x with
  | true =>
   have hm:mF false l x=0:=by unfold mF;rw[hob];rfl
   rw[hm]at hE
   refine go ?_
   refine ah hE Tryz.func150 zr zr ⟨rfl,rfl⟩
  | false =>
   have hm:mF false l x=4:=by unfold mF;rw[hob];rfl
   rw[hm]at hE
   refine go ?_
   refine ah hE Tryz.func150 zr zr ⟨rfl,rfl⟩
def lZ(bs bd:Nat)(q:Int)(mb:Nat)(brk:Bool)(Y:HP)(V:HP)(v:Value)(me:List Value)(hv:Vw V v me.length me)(hn:me.length≤1000000000)(ss:List D3)(hlen:ss.length=me.length)(Q:Nat→Ab→Prop)(cN:∀(i:Nat) (fv:Value) (s:D3),me[i]?=some fv→ss[i]?=some s→∃g fi cap,fv = .func (.func g) fi cap∧∀x,Q i x→aH Tryz.prog g (fi.toList++cap.toList) [oE bs bd q mb brk Y x] (fun r H=>∃(e:Nat) (x':Ab),r = .int .i64 (e:Int)∧H=[oE bs bd q mb brk Y x']∧s x e x'∧(e=0→Q (i+1) x')))(A:Ab)(hQ:Q 0 A) :
  aH Tryz.prog 118 [ptr bs,v] [V,oE bs bd q mb brk Y A]
   (fun r H=>∃(e:Nat) (B:Ab),r = .int .i64 (e:Int)∧H=[V,oE bs bd q mb (brk || decide (e≠0)) Y B]∧jG ss A e B∧(e=0→Q me.length B)):=by
 have fH:=Ie (oE bs bd q mb brk Y) V v me hv hn ss hlen Q cN A hQ
 obtain⟨a,c,rfl⟩:=hv.shape
 refine aH.aC Tryz.func118 Tryz.ntmps118 fun G F R hE=>?_
 refine go ?_
 refine ao fH ?_
 rintro _ _⟨e,B,rfl,rfl,fe,hb⟩
 refine aT (aq.trans (aq.pick [1] rfl) (aq.cR [ak bs (cl (eJ bd q mb brk) 88),aJ bd B,Y] _)) ?_
 have kJ:aq (ak bs (cl (eJ bd q mb (brk || decide (e≠0))) 88)::aJ bd B::Y::V::F) (V::oE bs bd q mb (brk || decide (e≠0)) Y B::F) :=
  aq.trans (aq.cg [ak bs (cl (eJ bd q mb (brk || decide (e≠0))) 88),aJ bd B,Y] _) ad
 cases brk with
 | true =>
  refine go ?_
  refine al (aq.trans ad kJ) ?_
  refine ah hE Tryz.func118 zr zr ⟨e,B,rfl,rfl,fe,hb⟩
 | false =>
  refine go ?_
  have O9:decide ((e:Int)≠0)=(false || decide (e≠0)):=by by_cases h:e=0 <;> simp[h]
  rw[O9]
  refine al (aq.trans ad kJ) ?_
  refine ah hE Tryz.func118 zr zr ⟨e,B,rfl,rfl,fe,hb⟩
end Go.Proofs.YtlionahpheehaaaGreatDoor
namespace Go.Proofs.YtlionahpheehaaaGreatDoor
open Go Go.SL
variable{A B:Ab}{nm:ByteArray}{e:Nat}
def BA{P:Program}{f:FuncId}{args:List Value}{Pre:List HP}{Post:Value→List HP→Prop}(X:List HP)(c:aH P f args Pre Post):aH P f args (Pre++X) (fun v H=>∃H',Post v H'∧H=H'++X) :=
 ⟨c.1,fun G w F hw=>(c.2 G w (X++F) (by rw[List.append_assoc]at hw;exact hw)).mono fun e w' h'=>let ⟨v,H,he,T8,hs⟩:=h';⟨v,H++X,he,⟨H,T8,rfl⟩,by rw[List.append_assoc];exact hs⟩⟩
attribute [local irreducible] J K aH Ends ak aK aV bX bj aS bp bD cp Sha.chunks Sha.chunk Sha.rounds Sha.sched fz cY GI fG aJ
def p7(bs bd:Nat)(q:Int)(mb:Nat)(brk:Bool)(Xs:List HP)(A:Ab)(F:List HP):aq (oE bs bd q mb brk (Sep Xs) A::F) (ak bs (cl (eJ bd q mb brk) 88)::aJ bd A::(Xs++F)) :=
 aq.trans (aq.cR [ak bs (cl (eJ bd q mb brk) 88),aJ bd A,Sep Xs] F) (aq.cons _ (aq.cons _ (aq.cR Xs F)))
def xz(bs bd:Nat)(q:Int)(mb:Nat)(brk:Bool)(Xs:List HP)(A:Ab)(F:List HP):aq (ak bs (cl (eJ bd q mb brk) 88)::aJ bd A::(Xs++F)) (oE bs bd q mb brk (Sep Xs) A::F) :=
 aq.trans (aq.cons _ (aq.cons _ (aq.cg Xs F))) (aq.cg [ak bs (cl (eJ bd q mb brk) 88),aJ bd A,Sep Xs] F)
def qx{f:FuncId}{args:List Value}{bs bd:Nat}{q:Int}{mb:Nat}{brk:Bool}{Xs:List HP}{p:Nat→Ab→Prop}(h:aH Tryz.prog f args (ak bs (cl (eJ bd q mb brk) 88)::aJ bd A::Xs) (fun r H=>∃(e:Nat) (B:Ab),r = .int .i64 (e:Int)∧H=ak bs (cl (eJ bd q mb brk) 88)::aJ bd B::Xs∧p e B)) :
  aH Tryz.prog f args [oE bs bd q mb brk (Sep Xs) A] (fun r H=>∃(e:Nat) (B:Ab),r = .int .i64 (e:Int)∧H=[oE bs bd q mb brk (Sep Xs) B]∧p e B) :=
 h.conv (by have:=p7 bs bd q mb brk Xs A [];rwa[List.append_nil]at this) (by
  rintro v H⟨e,B,rfl,rfl,hp⟩
  exact⟨_,⟨e,B,rfl,rfl,hp⟩,by have:=xz bs bd q mb brk Xs B [];rwa[List.append_nil]at this⟩)
def mo(x:Bl):aH Tryz.prog 87 [.string (strOf kS),.agg (dC x.d).toArray] [] (fun r H=>r = .string (fS x)∧H=[]):=by
 have:=ny kS x.d (by decide)
 unfold dV at this
 exact this
def MI(bs bd b2 b3:Nat)(q:Int)(mb:Nat)(brk:Bool)(x:Bl)(A:Ab)(fD:A.writes.length≤1000000000) :
  aH Tryz.prog 153 [ptr b2,ptr b3] (ak bs (cl (eJ bd q mb brk) 88)::aJ bd A::[ak b2 (cl [ptr bs] 40),ak b3 (cl (ck x) 31)])
   (fun r H=>∃(e:Nat) (B:Ab),r = .int .i64 (e:Int)∧H=ak bs (cl (eJ bd q mb brk) 88)::aJ bd B::[ak b2 (cl [ptr bs] 40),ak b3 (cl (ck x) 31)]∧gj (fS x) A e B):=by
 refine aH.aC Tryz.func153 Tryz.ntmps153 fun G F R hE=>?_
 refine go ?_
 refine aO (fun w=>Sat G w ([ak bs (cl (eJ bd q mb brk) 88),ak b2 (cl [ptr bs] 40),ak b3 (cl (ck x) 31)])) (dM 0 6 (.act 6 (.act 7 (.st 8 .nil)))) rfl aw aw aw dI ?_
 refine go ?_
 refine cE (U:=bh) 2 zr zr zr zr zr zr (go ?_)
 refine Vd (mo x) ?_
 refine go ?_
 refine Vd (lH bd A (fS x) fD) ?_
 refine go ?_
 refine ah hE Tryz.func153 zr zr ⟨_,_,rfl,rfl,rfl⟩
def KK(bs bd b2 b3:Nat)(q:Int)(mb:Nat)(brk:Bool)(x:Bl)(A:Ab)(cN:A.aF.length≤1000000000) :
  aH Tryz.prog 219 [ptr b2,ptr b3] (ak bs (cl (eJ bd q mb brk) 88)::aJ bd A::[ak b2 (cl [ptr bs] 40),ak b3 (cl (ck x) 31)])
   (fun r H=>∃(e:Nat) (B:Ab),r = .int .i64 (e:Int)∧H=ak bs (cl (eJ bd q mb brk) 88)::aJ bd B::[ak b2 (cl [ptr bs] 40),ak b3 (cl (ck x) 31)]∧jz (fS x) A e B):=by
 refine aH.aC Tryz.func219 Tryz.ntmps219 fun G F R hE=>?_
 refine go ?_
 refine aO (fun w=>Sat G w ([ak bs (cl (eJ bd q mb brk) 88),ak b2 (cl [ptr bs] 40),ak b3 (cl (ck x) 31)])) (dM 0 6 (.act 6 (.act 7 (.st 8 .nil)))) rfl aw aw aw dI ?_
 refine go ?_
 refine cE (U:=bh) 2 zr zr zr zr zr zr (go ?_)
 refine Vd (mo x) ?_
 refine go ?_
 refine Vd (pE bd A (fS x) cN) ?_
 refine go ?_
 refine ah hE Tryz.func219 zr zr ⟨_,_,rfl,rfl,rfl⟩
def Nn(bs bd b2 b4:Nat)(q:Int)(mb:Nat)(brk:Bool)(o:ByteArray)(A:Ab)(fD:A.writes.length≤1000000000) :
  aH Tryz.prog 220 [ptr b2,ptr b4] (ak bs (cl (eJ bd q mb brk) 88)::aJ bd A::[ak b2 (cl [ptr bs] 40),ak b4 (cl [.string o] 9)])
   (fun r H=>∃(e:Nat) (B:Ab),r = .int .i64 (e:Int)∧H=ak bs (cl (eJ bd q mb brk) 88)::aJ bd B::[ak b2 (cl [ptr bs] 40),ak b4 (cl [.string o] 9)]∧gj o A e B):=by
 refine aH.aC Tryz.func220 Tryz.ntmps220 fun G F R hE=>?_
 refine go ?_
 refine aO (fun w=>Sat G w ([ak bs (cl (eJ bd q mb brk) 88),ak b2 (cl [ptr bs] 40),ak b4 (cl [.string o] 9)])) (dM 0 5 (.act 5 (.st 6 .nil))) rfl aw aw aw dI ?_
 refine go ?_
 refine Vd (lH bd A o fD) ?_
 refine go ?_
 refine ah hE Tryz.func220 zr zr ⟨_,_,rfl,rfl,rfl⟩
def Nm(bs bd b2 b4 b5:Nat)(q:Int)(mb:Nat)(brk:Bool)(o n:ByteArray)(A:Ab)(cN:A.aF.length≤1000000000) :
  aH Tryz.prog 221 [ptr b2,ptr b4,ptr b5] (ak bs (cl (eJ bd q mb brk) 88)::aJ bd A::[ak b2 (cl [ptr bs] 40),ak b4 (cl [.string o] 9),ak b5 (cl [.string n] 9)])
   (fun r H=>∃(e:Nat) (B:Ab),r = .int .i64 (e:Int)∧H=ak bs (cl (eJ bd q mb brk) 88)::aJ bd B::[ak b2 (cl [ptr bs] 40),ak b4 (cl [.string o] 9),ak b5 (cl [.string n] 9)]∧lP o n A e B):=by
 refine aH.aC Tryz.func221 Tryz.ntmps221 fun G F R hE=>?_
 refine go ?_
 refine aO (fun w=>Sat G w ([ak bs (cl (eJ bd q mb brk) 88),ak b2 (cl [ptr bs] 40),ak b4 (cl [.string o] 9),ak b5 (cl [.string n] 9)])) (dM 0 6 (.act 6 (.st 7 .nil))) rfl aw aw aw dI ?_
 refine go ?_
 refine mU 3 zr zr zr zr zr zr (go ?_)
 refine Vd (tE bd A o n cN) ?_
 refine go ?_
 refine ah hE Tryz.func221 zr zr ⟨_,_,rfl,rfl,rfl⟩
def KG(bs bd b2 b7:Nat)(q:Int)(mb:Nat)(brk:Bool)(n:ByteArray)(A:Ab)(cN:A.aF.length≤1000000000) :
  aH Tryz.prog 119 [ptr b2,ptr b7] (ak bs (cl (eJ bd q mb brk) 88)::aJ bd A::[ak b2 (cl [ptr bs] 40),ak b7 (cl [.string n] 9)])
   (fun r H=>∃(e:Nat) (B:Ab),r = .int .i64 (e:Int)∧H=ak bs (cl (eJ bd q mb brk) 88)::aJ bd B::[ak b2 (cl [ptr bs] 40),ak b7 (cl [.string n] 9)]∧iG n A e B):=by
 refine aH.aC Tryz.func119 Tryz.ntmps119 fun G F R hE=>?_
 refine go ?_
 refine aO (fun w=>Sat G w ([ak bs (cl (eJ bd q mb brk) 88),ak b2 (cl [ptr bs] 40),ak b7 (cl [.string n] 9)])) (dM 0 5 (.act 5 (.st 6 .nil))) rfl aw aw aw dI ?_
 refine go ?_
 refine bz (mW bd A n cN) ?_
 rintro _ _⟨f,hf,rfl,rfl⟩
 refine go ?_
 refine ah hE Tryz.func119 zr zr ⟨_,_,rfl,rfl,⟨f,hf,rfl⟩⟩
def M1(bs bd b4 b5 H9 b7:Nat)(q:Int)(mb:Nat)(brk:Bool)(x:Bl)(at_:Int)(X:HP)(bv:Value)(b:List UInt8)(hv:Vw X bv b.length (bV b))(A:Ab)(fD:A.writes.length≤1000000000)(jx:b.length≤1000000000)(S8:0≤at_∧at_≤9223372036854775807) :
  aH Tryz.prog 151 [ptr b4,ptr b5,ptr H9,ptr b7] (ak bs (cl (eJ bd q mb brk) 88)::aJ bd A::[ak b4 (cl [ptr bs] 40),ak b5 (cl (ck x) 31),ak H9 (cl [.int .i64 at_] 3),ak b7 (cl [bv] 22),X])
   (fun r H=>∃(e:Nat) (B:Ab),r = .int .i64 (e:Int)∧H=ak bs (cl (eJ bd q mb brk) 88)::aJ bd B::[ak b4 (cl [ptr bs] 40),ak b5 (cl (ck x) 31),ak H9 (cl [.int .i64 at_] 3),ak b7 (cl [bv] 22),X]∧gq (fS x) at_.toNat b A e B):=by
 obtain⟨a,c,rfl⟩:=hv.shape
 have hmw:gG (fS x) at_ b=gG (fS x) at_.toNat b:=by rw[Int.toNat_of_nonneg S8.1]
 have hw:=sn bd A (fS x) at_ X _ b hv fD jx ⟨aj,S8.2⟩
 rw[hmw]at hw
 refine aH.aC Tryz.func151 Tryz.ntmps151 fun G F R hE=>?_
 refine go ?_
 refine aO (fun w=>Sat G w ([ak bs (cl (eJ bd q mb brk) 88),ak b4 (cl [ptr bs] 40),ak b5 (cl (ck x) 31),ak H9 (cl [.int .i64 at_] 3),ak b7 (cl [.slice a b.length c] 22)])) (dM 0 6 (.st 7 (.st 8 (.act 6 (.act 9 (.st 10 .nil)))))) rfl aw aw aw dI ?_
 refine go ?_
 refine cE (U:=bh) 2 zr zr zr zr zr zr (go ?_)
 refine mU 3 zr zr zr zr zr zr (go ?_)
 refine mU 4 zr zr zr zr zr zr (go ?_)
 refine Vd (mo x) ?_
 refine go ?_
 refine Vd hw ?_
 refine go ?_
 refine ah hE Tryz.func151 zr zr ⟨_,_,rfl,rfl,rfl⟩
def LA(bs bd:Nat)(q:Int)(mb:Nat)(brk:Bool)(Xs:List HP)(A:Ab):aH Tryz.prog 38 [ptr bd] [oE bs bd q mb brk (Sep Xs) A]
  (fun r H=>∃(e:Nat) (B:Ab),r = .int .i64 (e:Int)∧H=[oE bs bd q mb brk (Sep Xs) B]∧eb A e B) :=
 qx ((BA (ak bs (cl (eJ bd q mb brk) 88)::Xs) (qD bd A)).conv (aq.perm (List.Perm.swap ..)) (by
  rintro v H⟨H1,⟨rfl,rfl⟩,rfl⟩
  exact⟨_,⟨_,_,rfl,rfl,rfl⟩,aq.perm (List.Perm.swap ..)⟩))
def cV(bs bd:Nat)(q:Int)(mb:Nat)(s:fW):List HP:=[ak bs (cl (eJ bd q mb s.brk) 88),aV dV mb (dJ s.bu),aJ bd s.A]
def GQ(A:Ab)(i:Nat)(x:Ab):Prop:=x.aF.length≤A.aF.length+i∧x.writes.length≤A.writes.length+i
def GQ.zero(A:Ab):GQ A 0 A:=⟨Nat.le_refl _,Nat.le_refl _⟩
def GQ.next{x y:Ab}{i:Nat}(h:GQ A i x)(g:kU x y):GQ A (i+1) y:=⟨by have:=h.1;have:=g.1;omega,by have:=h.2;have:=g.2;omega⟩
def n5(h:gj nm A e B):kU A B:=by
 have:=lu A (isName nm) nm
 rw[← h]at this
 exact this
def uj{o n:ByteArray}(h:lP o n A e B):kU A B:=by
 have:=sd A ([o,n].all isName) o n
 rw[← h]at this
 exact this
def iZ(h:eb A e B):kU A B:=by
 have:=kK A
 rw[← h]at this
 exact this
def wu{at_:Nat}{b:List UInt8}(h:gq nm at_ b A e B):kU A B:=by
 have:=lr A (gG nm at_ b) nm at_ b
 rw[← h]at this
 exact this
theorem uk(h:iG nm A e B):kU A B:=by
 obtain⟨f,_,h⟩:=h
 grind [sf,isName]
def U3(bs bd:Nat)(q:Int)(mb:Nat)(s:fW)(x:Bl)(cN:s.A.aF.length≤900000000)(fD:s.A.writes.length≤900000000):aH Tryz.prog 77 [ptr bs,ix x] (cV bs bd q mb s)
  (fun r H=>∃(e:Nat) (t:fW),r = .int .i64 (e:Int)∧H=cV bs bd q mb t∧kQ x s e t):=by
 obtain⟨A,bu,brk⟩:=s
 simp only at cN fD
 have uZ:=vV bs bd q mb brk bu x
 unfold ix at uZ ⊢
 refine aH.aC Tryz.func77 Tryz.ntmps77 fun G F R hE=>?_
 refine al (H':=ak bs (cl (eJ bd q mb brk) 88)::aV dV mb (dJ bu)::aJ bd A::F) (aq.refl _) ?_
 refine aP rfl ?_
 refine bJ zr zr bO ?_
 intro b2
 refine bJ zr zr bO ?_
 intro b3
 refine go ?_
 refine aW (U:=bh) (l:=ck x) 0 zr zr zr zr zr zr ?_
 refine aeb uZ ?_
 refine go ?_
 refine aB zr zr ?_ ?_
 ·intro dw
  have hJ:mF brk bu x≠0:=by omega
  refine go ?_
  refine al (H':=cV bs bd q mb ⟨A,bu,brk⟩++F) ad ?_
  ((refine ah hE Tryz.func77 zr zr ⟨mF brk bu x,⟨A,bu,brk⟩,rfl,rfl,by unfold kQ;rw[if_pos (show jD ⟨A,bu,brk⟩ x≠0 from hJ)];exact⟨rfl,rfl⟩⟩))
 ·intro heq
  have wg:mF brk bu x=0:=by omega
  refine go ?_
  refine az (cs:=[.func (.func 153) #[] #[ptr b2,ptr b3] ]) zr zr zr zr zr zr zr zr zr bO ?_
  intro row
  have xT:∀(i:Nat) (fv:Value) (sp:D3),[.func (.func 153) #[] #[ptr b2,ptr b3] ][i]?=some fv→[gj (fS x)][i]?=some sp→∃g fi cap,fv = .func (.func g) fi cap∧∀y,GQ A i y→aH Tryz.prog g (fi.toList++cap.toList) [oE bs bd q mb brk (Sep [ak b2 (cl [ptr bs] 40),ak b3 (cl (ck x) 31)]) y] (fun r H=>∃(e:Nat) (x':Ab),r = .int .i64 (e:Int)∧H=[oE bs bd q mb brk (Sep [ak b2 (cl [ptr bs] 40),ak b3 (cl (ck x) 31)]) x']∧sp y e x'∧(e=0→GQ A (i+1) x')):=by
   intro i fv sp hi hs
   match i,hi,hs with
   | 0,hi,hs =>
    cases hi;cases hs
    refine⟨_,_,_,rfl,fun y hy=>(qx (MI bs bd b2 b3 q mb brk x y (by have:=hy.2;omega))).post ?_⟩
    rintro r H⟨e,B,rfl,rfl,h1⟩
    exact⟨e,B,rfl,rfl,h1,fun _=>hy.next (n5 h1)⟩
   | k+1,hi,hs=>simp at hi
  have I5:=lZ bs bd q mb brk (Sep [ak b2 (cl [ptr bs] 40),ak b3 (cl (ck x) 31)]) (ak row (cl [.func (.func 153) #[] #[ptr b2,ptr b3] ] 94)) (.slice (some ⟨row,0,none⟩) 1 1) [.func (.func 153) #[] #[ptr b2,ptr b3] ] (Vw.ak rfl) (by show 1≤_;omega) [gj (fS x)] rfl (GQ A) xT A (GQ.zero A)
  refine aT (H':=ak row (cl [.func (.func 153) #[] #[ptr b2,ptr b3] ] 94)::oE bs bd q mb brk (Sep [ak b2 (cl [ptr bs] 40),ak b3 (cl (ck x) 31)]) A::aV dV mb (dJ bu)::F) (aq.trans (H2:=ak bs (cl (eJ bd q mb brk) 88)::aJ bd A::([ak b2 (cl [ptr bs] 40),ak b3 (cl (ck x) 31)]++(ak row (cl [.func (.func 153) #[] #[ptr b2,ptr b3] ] 94)::aV dV mb (dJ bu)::F))) ad (aq.trans (xz bs bd q mb brk _ A _) ad)) ?_
  refine ao I5 ?_
  rintro _ _⟨e,B,rfl,rfl,fe,-⟩
  refine go ?_
  refine al (H':=cV bs bd q mb ⟨B,bu,brk || decide (e≠0)⟩++F) (aq.trans (aq.pick [1] rfl) (aq.trans (p7 bs bd q mb (brk || decide (e≠0)) _ B _) ad)) ?_
  ((refine ah hE Tryz.func77 zr zr ⟨e,⟨B,bu,or brk (decide (e≠0))⟩,rfl,rfl,by unfold kQ;rw[if_neg (show ¬jD ⟨A,bu,brk⟩ x≠0 from by show ¬mF brk bu x≠0;omega)];exact⟨B,fe,rfl⟩⟩))
def H5(l:List (Dg × Bl))(d:Dg):wO (dJ l) d=dJ (nO l d):=by
 unfold wO dJ nO
 rw[List.filter_map]
 rfl
def SN(bs bd:Nat)(q:Int)(mb:Nat)(s:fW)(x:Bl)(cN:s.A.aF.length≤900000000)(fD:s.A.writes.length≤900000000):aH Tryz.prog 158 [ptr bs,ix x] (cV bs bd q mb s)
  (fun r H=>∃(e:Nat) (t:fW),r = .int .i64 (e:Int)∧H=cV bs bd q mb t∧iS x s e t):=by
 obtain⟨A,bu,brk⟩:=s
 simp only at cN fD
 have uZ:=vV bs bd q mb brk bu x
 unfold ix at uZ ⊢
 refine aH.aC Tryz.func158 Tryz.ntmps158 fun G F R hE=>?_
 refine al (H':=ak bs (cl (eJ bd q mb brk) 88)::aV dV mb (dJ bu)::aJ bd A::F) (aq.refl _) ?_
 refine aP rfl ?_
 refine bJ zr zr bO ?_
 intro b2
 refine bJ zr zr bO ?_
 intro b3
 refine go ?_
 refine aW (U:=bh) (l:=ck x) 0 zr zr zr zr zr zr ?_
 refine aeb uZ ?_
 refine go ?_
 refine aB zr zr ?_ ?_
 ·intro dw
  have hJ:mF brk bu x≠0:=by omega
  refine go ?_
  refine al (H':=cV bs bd q mb ⟨A,bu,brk⟩++F) ad ?_
  ((refine ah hE Tryz.func158 zr zr ⟨mF brk bu x,⟨A,bu,brk⟩,rfl,rfl,by unfold iS;rw[if_pos (show jD ⟨A,bu,brk⟩ x≠0 from hJ)];exact⟨rfl,rfl⟩⟩))
 ·intro heq
  have wg:mF brk bu x=0:=by omega
  refine go ?_
  refine az (cs:=[.func (.func 219) #[] #[ptr b2,ptr b3] ]) zr zr zr zr zr zr zr zr zr bO ?_
  intro row
  have xT:∀(i:Nat) (fv:Value) (sp:D3),[.func (.func 219) #[] #[ptr b2,ptr b3] ][i]?=some fv→[jz (fS x)][i]?=some sp→∃g fi cap,fv = .func (.func g) fi cap∧∀y,GQ A i y→aH Tryz.prog g (fi.toList++cap.toList) [oE bs bd q mb brk (Sep [ak b2 (cl [ptr bs] 40),ak b3 (cl (ck x) 31)]) y] (fun r H=>∃(e:Nat) (x':Ab),r = .int .i64 (e:Int)∧H=[oE bs bd q mb brk (Sep [ak b2 (cl [ptr bs] 40),ak b3 (cl (ck x) 31)]) x']∧sp y e x'∧(e=0→GQ A (i+1) x')):=by
   intro i fv sp hi hs
   match i,hi,hs with
   | 0,hi,hs =>
    cases hi;cases hs
    refine⟨_,_,_,rfl,fun y hy=>(qx (KK bs bd b2 b3 q mb brk x y (by have:=hy.1;omega))).post ?_⟩
    rintro r H⟨e,B,rfl,rfl,h1⟩
    exact⟨e,B,rfl,rfl,h1,fun _=>hy.next (oy h1)⟩
   | k+1,hi,hs=>simp at hi
  have I5:=lZ bs bd q mb brk (Sep [ak b2 (cl [ptr bs] 40),ak b3 (cl (ck x) 31)]) (ak row (cl [.func (.func 219) #[] #[ptr b2,ptr b3] ] 94)) (.slice (some ⟨row,0,none⟩) 1 1) [.func (.func 219) #[] #[ptr b2,ptr b3] ] (Vw.ak rfl) (by show 1≤_;omega) [jz (fS x)] rfl (GQ A) xT A (GQ.zero A)
  refine aT (H':=ak row (cl [.func (.func 219) #[] #[ptr b2,ptr b3] ] 94)::oE bs bd q mb brk (Sep [ak b2 (cl [ptr bs] 40),ak b3 (cl (ck x) 31)]) A::aV dV mb (dJ bu)::F) (aq.trans (H2:=ak bs (cl (eJ bd q mb brk) 88)::aJ bd A::([ak b2 (cl [ptr bs] 40),ak b3 (cl (ck x) 31)]++(ak row (cl [.func (.func 219) #[] #[ptr b2,ptr b3] ] 94)::aV dV mb (dJ bu)::F))) ad (aq.trans (xz bs bd q mb brk _ A _) ad)) ?_
  refine ao I5 ?_
  rintro _ _⟨e,B,rfl,rfl,fe,-⟩
  refine aT (aq.trans (aq.pick [1] rfl) (p7 bs bd q mb (brk || decide (e≠0)) _ B _)) ?_
  have VE:¬jD ⟨A,bu,brk⟩ x≠0:=by show ¬mF brk bu x≠0;omega
  refine go ?_
  refine aB zr zr ?_ ?_
  ·intro aal
   have he:e≠0:=by omega
   refine go ?_
   refine al (H':=cV bs bd q mb ⟨B,bu,brk || decide (e≠0)⟩++F) ad ?_
   ((refine ah hE Tryz.func158 zr zr ⟨e,⟨B,bu,or brk (decide (e≠0))⟩,rfl,rfl,by unfold iS;rw[if_neg VE];exact⟨_,⟨B,fe,rfl⟩,by rw[if_pos he]⟩⟩))
  ·intro aaz
   have he:e=0:=by omega
   subst he
   refine go ?_
   refine aO (fun w=>Sat G w ([ak b2 (cl [ptr bs] 40),ak bs (cl (eJ bd q mb (or brk (decide (0≠0)))) 88),ak b3 (cl (ck x) 31)])) (dM 0 6 (.act 6 .nil)) rfl aw aw aw dI ?_
   refine go ?_
   refine cE (U:=bh) 2 zr zr zr zr zr zr (go ?_)
   refine nH (es:=dJ bu) (key:=x.d) 5 TX (fun w hw=>by exact trivial) zr zr zr zr zr zr zr ?_
   rw[H5]
   refine go ?_
   refine al (H':=cV bs bd q mb ⟨B,nO bu x.d,brk || decide (0≠0)⟩++F) ad ?_
   ((refine ah hE Tryz.func158 zr zr ⟨0,⟨B,nO bu x.d,or brk (decide (0≠0))⟩,rfl,rfl,by unfold iS;rw[if_neg VE];exact⟨_,⟨B,fe,rfl⟩,by rw[if_neg aj]⟩⟩))
def TN(bd b3 b4 b5:Nat):List Value:=[.func (.func 220) #[] #[ptr b3,ptr b4],.func (.func 221) #[] #[ptr b3,ptr b4,ptr b5],.func (.func 38) #[ptr bd] #[] ]
def TM(bs b3 b4 b5:Nat)(o n:ByteArray):List HP:=[ak b3 (cl [ptr bs] 40),ak b4 (cl [.string o] 9),ak b5 (cl [.string n] 9)]
def GV(bs bd:Nat)(q:Int)(mb:Nat)(brk:Bool)(o n:ByteArray):aH Tryz.prog 159 [ptr bs,.string o,.string n] [ak bs (cl (eJ bd q mb brk) 88)]
  (fun r H=>∃row b3 b4 b5,r = .slice (some ⟨row,0,none⟩) 3 3∧H=ak row (cl (TN bd b3 b4 b5) 94)::ak bs (cl (eJ bd q mb brk) 88)::TM bs b3 b4 b5 o n):=by
 refine aH.aC Tryz.func159 Tryz.ntmps159 fun G F R hE=>?_
 refine aP rfl ?_
 refine bJ zr zr bO ?_
 intro b3
 refine bJ zr zr bO ?_
 intro b4
 refine bJ zr zr bO ?_
 intro b5
 refine go ?_
 refine az (cs:=TN bd b3 b4 b5) zr zr zr zr zr zr zr zr zr bO ?_
 intro row
 refine go ?_
 refine al (H':=ak row (cl (TN bd b3 b4 b5) 94)::ak bs (cl (eJ bd q mb brk) 88)::(TM bs b3 b4 b5 o n++F)) ad ?_
 refine ah hE Tryz.func159 zr zr ⟨row,b3,b4,b5,rfl,rfl⟩
def Qz(bs bd:Nat)(q:Int)(mb:Nat)(brk:Bool)(b3 b4 b5:Nat)(o n:ByteArray)(A:Ab)(cN:A.aF.length≤900000000)(fD:A.writes.length≤900000000)(i:Nat)(fv:Value)(sp:D3)(hi:(TN bd b3 b4 b5)[i]?=some fv)(hs:(GW o n)[i]?=some sp) :
  ∃g fi cap,fv = .func (.func g) fi cap∧∀y,GQ A i y→aH Tryz.prog g (fi.toList++cap.toList) [oE bs bd q mb brk (Sep (TM bs b3 b4 b5 o n)) y] (fun r H=>∃(e:Nat) (x':Ab),r = .int .i64 (e:Int)∧H=[oE bs bd q mb brk (Sep (TM bs b3 b4 b5 o n)) x']∧sp y e x'∧(e=0→GQ A (i+1) x')):=by
 match i,hi,hs with
 | 0,hi,hs =>
  cases hi;cases hs
  refine⟨_,_,_,rfl,fun y hy=>?_⟩
  have h0:=BA [ak b5 (cl [.string n] 9)] (Nn bs bd b3 b4 q mb brk o y (by have:=hy.2;omega))
  refine(qx (p:=gj o y) (Xs:=TM bs b3 b4 b5 o n) (h0.post ?_)).post ?_
  ·rintro r H⟨_,⟨e,B,rfl,rfl,h1⟩,rfl⟩
   exact⟨e,B,rfl,rfl,h1⟩
  ·rintro r H⟨e,B,rfl,rfl,h1⟩
   exact⟨e,B,rfl,rfl,h1,fun _=>hy.next (n5 h1)⟩
 | 1,hi,hs =>
  cases hi;cases hs
  refine⟨_,_,_,rfl,fun y hy=>(qx (Nm bs bd b3 b4 b5 q mb brk o n y (by have:=hy.1;omega))).post ?_⟩
  rintro r H⟨e,B,rfl,rfl,h1⟩
  exact⟨e,B,rfl,rfl,h1,fun _=>hy.next (uj h1)⟩
 | 2,hi,hs =>
  cases hi;cases hs
  refine⟨_,_,_,rfl,fun y hy=>(LA bs bd q mb brk (TM bs b3 b4 b5 o n) y).post ?_⟩
  rintro r H⟨e,B,rfl,rfl,h1⟩
  exact⟨e,B,rfl,rfl,h1,fun _=>hy.next (iZ h1)⟩
 | k+3,hi,hs=>simp[TN]at hi
theorem KY(X:HP)(hK:qI X)(bs bd:Nat)(q:Int)(mb:Nat)(s:fW)(x:Bl)(cN:s.A.aF.length≤900000000)(fD:s.A.writes.length≤900000000):aH Tryz.prog 83 [ptr bs,ix x] (cV bs bd q mb s++[X])
  (fun r H=>∃(e:Nat) (t:fW),r = .int .i64 (e:Int)∧H=cV bs bd q mb t++[X]∧dS x s e t):=by
 obtain⟨A,bu,brk⟩:=s
 simp only at cN fD
 have uZ:=vV bs bd q mb brk bu x
 have uh:=SN bs bd q mb ⟨A,bu,brk⟩ x cN fD
 have hfb:=ny kB x.d (by decide)
 unfold dV at hfb
 unfold ix at uZ uh ⊢
 refine aH.aC Tryz.func83 Tryz.ntmps83 fun G F R hE=>?_
 refine al (H':=ak bs (cl (eJ bd q mb brk) 88)::aV dV mb (dJ bu)::aJ bd A::X::F) (aq.refl _) ?_
 refine wX (bd:=bd) (A:=A) 2 rfl ?_
 intro Kg
 refine aP rfl ?_
 refine bJ zr zr bO ?_
 intro b3
 refine go ?_
 refine aW (U:=bh) (l:=ck x) 0 zr zr zr zr zr zr ?_
 refine aeb uZ ?_
 refine go ?_
 refine aB zr zr ?_ ?_
 ·intro dw
  have hJ:jD ⟨A,bu,brk⟩ x≠0:=by show mF brk bu x≠0;omega
  refine go ?_
  refine al (H':=cV bs bd q mb ⟨A,bu,brk⟩++(X::F)) ad ?_
  ((refine ah hE Tryz.func83 zr zr ⟨mF brk bu x,⟨A,bu,brk⟩,rfl,rfl,by unfold dS;rw[if_pos hJ];exact⟨rfl,rfl⟩⟩))
 intro heq
 have wg:¬jD ⟨A,bu,brk⟩ x≠0:=by show ¬mF brk bu x≠0;omega
 have jx:=qz Kg (fS x)
 refine go ?_
 refine ct 2 zr zr zr zr zr zr ?_
 refine aeb (mo x) ?_
 refine ao (mR bs bd q mb brk A (fS x)) ?_
 rintro _ _⟨rv,rfl,rfl⟩
 obtain⟨bb,S7⟩:∃bb,bb=(fV A (fS x)).getD []:=⟨_,rfl⟩
 rw[← S7]at jx ⊢
 refine fY (bs:=bb) 0 rfl ?_
 intro hbv
 refine aT (aq.trans (aq.pick [0,5] rfl) (aq.cg [aK 5 1 rv bb.length (bV bb),X] _)) ?_
 have hwh:=Ow _ (hK.mono (aX (H:=[aK 5 1 rv bb.length (bV bb),X]) (i:=1) rfl)) x rv bb (hbv.mono (aX (i:=0) rfl)) aj
 unfold ix at hwh
 refine go ?_
 refine aW (U:=bh) (l:=ck x) 4 zr zr zr zr zr zr ?_
 ((refine go ?_;(refine ao hwh ?_)))
 rintro _ _⟨rfl,rfl⟩
 refine aT (aq.cR [aK 5 1 rv bb.length (bV bb),X] _) ?_
 cases hw:eo x bb with
 | false =>
  have hI:∀e1 t,iS x ⟨A,bu,brk⟩ e1 t→∀e,e=(if e1≠0 then e1 else 8)→dS x ⟨A,bu,brk⟩ e t:=fun e1 t h e he=>by
   grind [dS,eo,fV,fS]
  refine go ?_
  refine aW (U:=bh) (l:=ck x) 5 zr zr zr zr zr zr ?_
  refine ao uh ?_
  rintro _ _⟨e1,t,rfl,rfl,Uu⟩
  refine go ?_
  refine aB zr zr ?_ ?_
  ·intro aal
   have he:e1≠0:=by omega
   refine go ?_
   refine al (H':=cV bs bd q mb t++(X::F)) ad ?_
   refine ah hE Tryz.func83 zr zr ⟨e1,t,rfl,rfl,hI e1 t Uu e1 (by rw[if_pos he])⟩
  ·intro aaz
   have he:e1=0:=by omega
   refine go ?_
   refine al (H':=cV bs bd q mb t++(X::F)) ad ?_
   refine ah hE Tryz.func83 zr zr ⟨8,t,rfl,rfl,hI e1 t Uu 8 (by rw[if_neg aj])⟩
 | true =>
  have hwn:¬eo x ((fV A (fS x)).getD [])=false:=by rw[← S7,hw];simp
  refine go ?_
  refine aO (fun w=>Sat G w ([ak b3 (cl (ck x) 31)])) (dM 0 4 (.st 5 (.st 6 (.act 4 (.act 7 (.act 8 (.act 9 (.st 10 .nil)))))))) rfl aw aw aw dI ?_
  refine go ?_
  refine cE (U:=bh) 0 zr zr zr zr zr zr (go ?_)
  refine cE (U:=bh) 0 zr zr zr zr zr zr (go ?_)
  refine Vd (mo x) ?_
  refine go ?_
  refine Vd hfb ?_
  refine go ?_
  refine bz (GV bs bd q mb brk (fS x) (fB x)) ?_
  rintro _ _⟨row,c3,c4,c5,rfl,rfl⟩
  have I5:=lZ bs bd q mb brk (Sep (TM bs c3 c4 c5 (fS x) (fB x))) (ak row (cl (TN bd c3 c4 c5) 94)) (.slice (some ⟨row,0,none⟩) 3 3) (TN bd c3 c4 c5) (Vw.ak rfl) (by show 3≤_;omega) (GW (fS x) (fB x)) rfl (GQ A) (Qz bs bd q mb brk c3 c4 c5 (fS x) (fB x) A cN fD) A (GQ.zero A)
  refine go ?_
  refine aT (H':=ak row (cl (TN bd c3 c4 c5) 94)::oE bs bd q mb brk (Sep (TM bs c3 c4 c5 (fS x) (fB x))) A::aV dV mb (dJ bu)::ak b3 (cl (ck x) 31)::X::F) (aq.trans (H2:=ak bs (cl (eJ bd q mb brk) 88)::aJ bd A::(TM bs c3 c4 c5 (fS x) (fB x)++(ak row (cl (TN bd c3 c4 c5) 94)::aV dV mb (dJ bu)::ak b3 (cl (ck x) 31)::X::F))) ad (aq.trans (xz bs bd q mb brk _ A _) ad)) ?_
  refine bz I5 ?_
  rintro _ _⟨e,B,rfl,rfl,fe,-⟩
  refine aT (aq.trans (aq.pick [1] rfl) (p7 bs bd q mb (brk || decide (e≠0)) _ B _)) ?_
  have hI:∀t,t=(if e≠0 then(⟨B,bu,brk || decide (e≠0)⟩:fW)else⟨B,nO bu x.d,brk || decide (e≠0)⟩)→dS x ⟨A,bu,brk⟩ e t:=fun t ht=>by
   unfold dS
   rw[if_neg wg,if_neg hwn]
   exact⟨_,⟨B,fe,rfl⟩,ht⟩
  refine go ?_
  refine aB zr zr ?_ ?_
  ·intro aal
   have he:e≠0:=by omega
   refine go ?_
   refine al (H':=cV bs bd q mb ⟨B,bu,brk || decide (e≠0)⟩++(X::F)) ad ?_
   refine ah hE Tryz.func83 zr zr ⟨e,⟨B,bu,or brk (decide (e≠0))⟩,rfl,rfl,hI _ (by rw[if_pos he])⟩
  ·intro aaz
   have he:e=0:=by omega
   subst he
   refine go ?_
   refine aO (fun w=>Sat G w ([ak bs (cl (eJ bd q mb (or brk (decide (0≠0)))) 88),ak b3 (cl (ck x) 31)])) (dM 0 6 (.act 6 .nil)) rfl aw aw aw dI ?_
   refine go ?_
   refine cE (U:=bh) 1 zr zr zr zr zr zr (go ?_)
   refine nH (es:=dJ bu) (key:=x.d) 6 TX (fun w hw=>by exact trivial) zr zr zr zr zr zr zr ?_
   rw[H5]
   refine go ?_
   refine al (H':=cV bs bd q mb ⟨B,nO bu x.d,brk || decide (0≠0)⟩++(X::F)) ad ?_
   refine ah hE Tryz.func83 zr zr ⟨0,⟨B,nO bu x.d,or brk (decide (0≠0))⟩,rfl,rfl,hI _ (by rw[if_neg aj])⟩
theorem aa5(X:HP)(bs bd:Nat)(q:Int)(mb:Nat)(s:fW)(x:Bl)(i:Int)(bv:Value)(b:List UInt8)(hv:Vw X bv b.length (bV b))(jx:b.length≤1000000000)(hi : -9223372036854775808≤i∧i≤9223372036854775807)(cN:s.A.aF.length≤900000000)(fD:s.A.writes.length≤900000000) :
  aH Tryz.prog 75 [ptr bs,ix x,.int .i64 i,bv] (cV bs bd q mb s++[X])
  (fun r H=>∃(e:Nat) (t:fW),r = .int .i64 (e:Int)∧H=cV bs bd q mb t++[X]∧nE x i b s e t):=by
 obtain⟨A,bu,brk⟩:=s
 simp only at cN fD
 obtain⟨a,c,rfl⟩:=hv.shape
 have uZ:=vV bs bd q mb brk bu x
 unfold ix at uZ ⊢
 refine aH.aC Tryz.func75 Tryz.ntmps75 fun G F R hE=>?_
 refine al (H':=ak bs (cl (eJ bd q mb brk) 88)::aV dV mb (dJ bu)::aJ bd A::X::F) (aq.refl _) ?_
 refine aP rfl ?_
 refine bJ zr zr bO ?_
 intro b4
 refine bJ zr zr bO ?_
 intro b5
 refine bJ zr zr bO ?_
 intro b7
 refine go ?_
 refine aW (U:=bh) (l:=ck x) 1 zr zr zr zr zr zr ?_
 refine aeb uZ ?_
 refine go ?_
 refine aB zr zr ?_ ?_
 ·intro dw
  have hJ:jD ⟨A,bu,brk⟩ x≠0:=by show mF brk bu x≠0;omega
  refine go ?_
  refine al (H':=cV bs bd q mb ⟨A,bu,brk⟩++(X::F)) ad ?_
  ((refine ah hE Tryz.func75 zr zr ⟨mF brk bu x,⟨A,bu,brk⟩,rfl,rfl,by unfold nE;rw[if_pos hJ];exact⟨rfl,rfl⟩⟩))
 intro heq
 have wg:¬jD ⟨A,bu,brk⟩ x≠0:=by show ¬mF brk bu x≠0;omega
 refine go ?_
 refine aW (U:=bh) (l:=ck x) 3 zr zr zr zr zr zr ?_
 have Dt:=wQ x i
 unfold ix at Dt
 have hP1:∀(e:Nat) (t:fW),dX x i=none→e=1→t=⟨A,bu,brk⟩→nE x i b ⟨A,bu,brk⟩ e t:=fun e t h he ht=>by
  grind [nE]
 have hP2:∀(at_ n:Int),dX x i=some (at_,n)→(b.length:Int)≠n→nE x i b ⟨A,bu,brk⟩ 1 ⟨A,bu,brk⟩:=fun at_ n h hl=>by
  grind [nE]
 have hP3:∀(at_ n:Int) (e:Nat) (t:fW),dX x i=some (at_,n)→¬(b.length:Int)≠n→Fk [gq (fS x) at_.toNat b] ⟨A,bu,brk⟩ e t→nE x i b ⟨A,bu,brk⟩ e t:=fun at_ n e t h hl hc=>by
  grind [nE]
 have S8:∀at_ n,dX x i=some (at_,n)→0≤at_∧at_≤9223372036854775807:=fun at_ n h=>by
  unfold dX at h
  split at h
  ·cases h
  ·rename_i hn
   injection h with h
   injection h with h1 h2
   obtain⟨hr,yZ,hms⟩:=Eo (x:=x) (i:=i) aj aj
   grind [bP]
 refine go ?_
 refine aeb Dt ?_
 cases hX:dX x i with
 | none =>
  simp only
  refine go ?_
  refine aL zr zr zr bO ?_
  intro H9
  refine go ?_
  refine al (H':=cV bs bd q mb ⟨A,bu,brk⟩++(X::F)) ad ?_
  refine ah hE Tryz.func75 zr zr ⟨1,⟨A,bu,brk⟩,rfl,rfl,hP1 _ _ hX zr zr⟩
 | some w =>
  obtain⟨at_,n⟩:=w
  simp only
  refine go ?_
  refine aL zr zr zr bO ?_
  intro H9
  refine go ?_
  refine aB zr zr ?_ ?_
  ·intro FR
   have hl:(b.length:Int)≠n:=FR
   refine go ?_
   refine al (H':=cV bs bd q mb ⟨A,bu,brk⟩++(X::F)) ad ?_
   refine ah hE Tryz.func75 zr zr ⟨1,⟨A,bu,brk⟩,rfl,rfl,hP2 at_ n hX hl⟩
  ·intro FR
   have hl:¬(b.length:Int)≠n:=FR
   obtain⟨Y,hY⟩:∃Y,Y=([ak b4 (cl [ptr bs] 40),ak b5 (cl (ck x) 31),ak H9 (cl [.int .i64 at_] 3),ak b7 (cl [.slice a b.length c] 22),X]:List HP):=⟨_,rfl⟩
   have nI:∀F,aq (ak bs (cl (eJ bd q mb brk) 88)::aJ bd A::([ak b4 (cl [ptr bs] 40),ak b5 (cl (ck x) 31),ak H9 (cl [.int .i64 at_] 3),ak b7 (cl [.slice a b.length c] 22),X]++F)) (oE bs bd q mb brk (Sep Y) A::F):=fun F=>by rw[hY];exact xz bs bd q mb brk _ A F
   have np:∀(bk:Bool) B F,aq (oE bs bd q mb bk (Sep Y) B::F) (ak bs (cl (eJ bd q mb bk) 88)::aJ bd B::([ak b4 (cl [ptr bs] 40),ak b5 (cl (ck x) 31),ak H9 (cl [.int .i64 at_] 3),ak b7 (cl [.slice a b.length c] 22),X]++F)):=fun bk B F=>by rw[hY];exact p7 bs bd q mb bk _ B F
   have xT:∀(i:Nat) (fv:Value) (sp:D3),[.func (.func 151) #[] #[ptr b4,ptr b5,ptr H9,ptr b7] ][i]?=some fv→[gq (fS x) at_.toNat b][i]?=some sp→∃g fi cap,fv = .func (.func g) fi cap∧∀y,GQ A i y→aH Tryz.prog g (fi.toList++cap.toList) [oE bs bd q mb brk (Sep Y) y] (fun r H=>∃(e:Nat) (x':Ab),r = .int .i64 (e:Int)∧H=[oE bs bd q mb brk (Sep Y) x']∧sp y e x'∧(e=0→GQ A (i+1) x')):=by
    intro i fv sp hi hs
    match i,hi,hs with
    | 0,hi,hs =>
     cases hi;cases hs
     refine⟨_,_,_,rfl,fun y hy=>?_⟩
     subst hY
     have h0:=M1 bs bd b4 b5 H9 b7 q mb brk x at_ X (.slice a b.length c) b hv y (by have:=hy.2;omega) jx (S8 at_ n hX)
     refine(qx (p:=gq (fS x) at_.toNat b y) h0).post ?_
     rintro r H⟨e,B,rfl,rfl,h1⟩
     exact⟨e,B,rfl,rfl,h1,fun _=>hy.next (wu h1)⟩
    | k+1,hi,hs=>simp at hi
   refine go ?_
   refine az (cs:=[.func (.func 151) #[] #[ptr b4,ptr b5,ptr H9,ptr b7] ]) zr zr zr zr zr zr zr zr zr bO ?_
   intro row
   have I5:=lZ bs bd q mb brk (Sep Y) (ak row (cl [.func (.func 151) #[] #[ptr b4,ptr b5,ptr H9,ptr b7] ] 94)) (.slice (some ⟨row,0,none⟩) 1 1) [.func (.func 151) #[] #[ptr b4,ptr b5,ptr H9,ptr b7] ] (Vw.ak rfl) (by show 1≤_;omega) [gq (fS x) at_.toNat b] rfl (GQ A) xT A (GQ.zero A)
   refine aT (H':=ak row (cl [.func (.func 151) #[] #[ptr b4,ptr b5,ptr H9,ptr b7] ] 94)::oE bs bd q mb brk (Sep Y) A::aV dV mb (dJ bu)::F) (aq.trans (H2:=ak bs (cl (eJ bd q mb brk) 88)::aJ bd A::([ak b4 (cl [ptr bs] 40),ak b5 (cl (ck x) 31),ak H9 (cl [.int .i64 at_] 3),ak b7 (cl [.slice a b.length c] 22),X]++(ak row (cl [.func (.func 151) #[] #[ptr b4,ptr b5,ptr H9,ptr b7] ] 94)::aV dV mb (dJ bu)::F))) ad (aq.trans (nI _) ad)) ?_
   refine ao I5 ?_
   rintro _ _⟨e,B,rfl,rfl,fe,-⟩
   refine go ?_
   refine al (H':=cV bs bd q mb ⟨B,bu,brk || decide (e≠0)⟩++(X::F)) (aq.trans (aq.pick [1] rfl) (aq.trans (np _ B _) ad)) ?_
   refine ah hE Tryz.func75 zr zr ⟨e,⟨B,bu,or brk (decide (e≠0))⟩,rfl,rfl,hP3 at_ n e _ hX hl ⟨B,fe,rfl⟩⟩
end Go.Proofs.YtlionahpheehaaaGreatDoor
