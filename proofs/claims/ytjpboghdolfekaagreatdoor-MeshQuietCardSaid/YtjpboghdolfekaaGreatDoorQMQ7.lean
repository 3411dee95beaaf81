import Derived.Test.YtjpboghdolfekaaGreatDoorQMQ2
import Derived.Test.YtjpboghdolfekaaGreatDoorQMQ4
import Derived.Test.YtjpboghdolfekaaGreatDoorQMQ6
import Derived.Laws.StructEq
import Derived.ProofKit
import Derived.Below
import Derived.Shelf.SortG.Plain
import Derived.Shelf.SortG.SortNone
set_option linter.unusedSectionVars false
set_option linter.unusedSimpArgs false
set_option linter.unusedVariables false
set_option maxHeartbeats 1000000
set_option maxRecDepth 20000
set_option linter.defProp false
namespace Go.Proofs.YtjpboghdolfekaaGreatDoor
open Go Go.SL
attribute [local irreducible] J K aw Ends ag aH au bE aW aJ a6 aZ bI Sha.chunks Sha.chunk Sha.rounds Sha.sched ff cI
def fb.block{b n:Nat}{bs:List UInt8}{l:List Value}{e:TypeId}(hn:bs.length=n)(hl:l=bV bs):fb (ag b (cl l e)) (.slice (some ⟨b,0,none⟩) n n) bs:=by
 subst hn hl
 exact⟨Vw.ag (by rw[List.drop_zero,List.take_length]),_,_,rfl,Nat.le_refl _⟩
def Dq(A:HP)(hK:lL A)(v:Value)(b:List UInt8)(hv:fb A v b)(hl:b.length≤900000000):aw Tryz.prog 279 [v] [A] (fun r H=>r=dV (fA b)∧H=[A]):=by
 obtain⟨a,c,rfl,hc⟩:=hv.2
 refine aw.ao Tryz.func279 Tryz.ntmps279 fun G F R hE=>?_
 refine aN rfl ?_
 refine aB zr zr zr bq ?_
 intro b2
 refine rW ?_
 (refine aN rfl ?_;refine rW ?_)
 refine aq (cs:=[.slice a b.length c]) zr zr zr zr zr zr zr zr zr bq ?_
 intro b0
 refine aR (ak.trans (ak.pick [0,2] rfl) (ak.bT [_,_] _)) ?_
 ((refine az (wZ (Sep [ag b0 (cl [.slice a b.length c] 37),A]) (hK.mono (bz (i:=1) rfl)) 0 _ [b] (qx.row rfl rfl (fun i x hx=>by cases i with|zero=>(simp at hx;subst hx;exact⟨_,rfl,hv⟩)|succ i=>simp at hx)) (by simp[fz,rS];omega)) ?_))
 rintro _ _⟨rfl,rfl⟩
 refine aR (ak.cL _ _) (go ?_)
 (refine bh hE ?_;apply a7 (U:=aY) hE Tryz.func279 rfl (ak.refl _);(repeat(first|exact aT.nil|apply aT.agg 2 zr zr zr zr zr));exact⟨rfl,rfl⟩;exact ah)
def w7(A:HP)(hK:lL A)(l r:Dg):aw Tryz.prog 401 [dV l,dV r] [A] (fun x H=>x=dV (jR l r)∧H=[A]):=by
 refine aw.ao Tryz.func401 Tryz.ntmps401 fun G F R hE=>?_
 refine aN rfl ?_
 refine bC zr zr bq ?_
 intro b2
 refine bC zr zr bq ?_
 intro b3
 refine aB zr zr zr bq ?_
 intro b4
 refine go ?_
 refine aO (fun w=>Sat G w ([])) (.st 0 (.st 1 (.act 2 (.act 3 (.act 4 .nil))))) rfl ae ae ae dv ?_
 refine go ?_
 refine jw (U:=aY) zr zr zr zr zr (go ?_)
 refine jw (U:=aY) zr zr zr zr zr ?_
 refine aq (cs:=[.slice (some ⟨b2,0,none⟩) 32 32,.slice (some ⟨b3,0,none⟩) 32 32]) zr zr zr zr zr zr zr zr zr (fun _ _ hw=>hw.cp ah) ?_
 intro b0
 refine aR (ak.trans (ak.pick [3,2,4] rfl) (ak.trans (ak.bT [_,_,_] _) (ak.trans (ak.pick [1,0] rfl) (ak.bT [_,_] _)))) ?_
 have mz:qx (Sep [ag b0 (cl [.slice (some ⟨b2,0,none⟩) 32 32,.slice (some ⟨b3,0,none⟩) 32 32] 37),Sep [ag b2 (cl (dC l) 35),ag b3 (cl (dC r) 35),A] ]) (.slice (some ⟨b0,0,none⟩) 2 2) [l.bs,r.bs]:=by
  refine qx.row zr zr (fun i x hx=>?_)
  match i,hx with
  | 0,hx =>
   simp at hx
   subst hx
   exact⟨_,rfl,(fb.block l.len (eF l)).mono (bz (i:=0) rfl)⟩
  | 1,hx =>
   simp at hx
   subst hx
   exact⟨_,rfl,(fb.block r.len (eF r)).mono (bz (i:=1) rfl)⟩
  | i+2,hx=>simp at hx
 have aeM:=wZ _ ((hK.mono (bz (H:=[ag b2 (cl (dC l) 35),ag b3 (cl (dC r) 35),A]) (i:=2) rfl)).mono (bz (i:=1) rfl)) 1 _ [l.bs,r.bs] mz (by simp[fz,rS,l.len,r.len])
 refine bP aeM ?_
 refine aR (ak.trans (ak.cL _ _) (ak.trans (ak.pick [1] rfl) (ak.cL _ _))) (go ?_)
 refine aX ?_
 refine eb (U:=aY) (l':=dC (cI 1 [l.bs,r.bs])) 4 fE rfl rfl rfl rfl (by intro e;cases e) (by rw[eF];exact jv _) rfl rfl rfl ?_
 refine go ?_
 (refine bh hE ?_;apply a7 (U:=aY) hE Tryz.func401 rfl (ak.refl _);(repeat(first|exact aT.nil|apply aT.agg 4 zr zr zr zr zr));exact⟨rfl,rfl⟩;exact ah)
theorem FB(l:List Dg):∀v∈l.flatMap dC,v.oneCell'=true:=by
 grind [eF,dL]
theorem xx(A:HP)(v:Value)(W:List Dg)(hv:Vw A v W.length (W.flatMap dC))(hlen:W.length≤1000000) :
  aw Tryz.prog 37 [v] [A] (fun r H=>H=[aH 35 32 r W.length (W.flatMap dC),A]):=by
 obtain⟨a,c0,rfl⟩:=hv.shape
 cases a with
 | none =>
  have hb:W=[]:=by
   obtain⟨a,cap,h1,h2|⟨b,o,h2,_⟩⟩:=hv
   ·have:=congrArg List.length h2
    rw[bt eE]at this
    exact List.eq_nil_of_length_eq_zero (by simp at this;omega)
   grind
  subst hb
  refine aw.enter Tryz.func37 ae rfl Tryz.ntmps37 zr zr ?_
  intro G F R hR
  refine go ?_
  refine ai (bp 35 32 none _) ?_
  refine aL hR Tryz.func37 rfl _ zr zr (ak.fin [0,1] 0 zr zr)
 | some a =>
  refine aw.enter Tryz.func37 ae rfl Tryz.ntmps37 zr zr ?_
  intro G F R hR
  refine go ?_
  refine aq (cs:=[]) zr zr zr zr zr zr zr zr zr bq ?_
  intro b0
  refine go ?_
  refine aR (eW 35 32 b0 0 0 [] [] _ rfl (Nat.le_refl _) (by simp)) ?_
  refine aU (mm:=W.length) (news:=W.flatMap dC) 0 1 zr zr zr zr zr zr zr zr zr zr zr zr hv (by rw[bt eE];rfl) (FB W) aj (by show _*32≤_;omega) (fun _=>rfl) bq ?_
  intro v'
  have e1:(0:Nat)+W.length=W.length:=by omega
  rw[e1,List.nil_append]
  refine go ?_
  refine aL hR Tryz.func37 rfl _ zr zr (ak.fin [0,1] 0 zr zr)
def La(a:Option Addr)(n c:Nat):aw Tryz.prog 274 [.slice a n c] [] (fun r H=>∃b,r = .func (.func 400) #[] #[ptr b]∧H=[ag b (cl [.slice a n c] 43)]):=by
 refine aw.ao Tryz.func274 Tryz.ntmps274 fun G F R hE=>?_
 refine go ?_
 refine bC zr zr bq ?_
 intro bx
 refine go ?_
 refine ad hE Tryz.func274 zr zr ⟨bx,rfl,rfl⟩
def CS(n:Nat):(n:Int)/2 ^ (min ((1:Int).toNat) IntKind.i64.bits)=((n/2:Nat):Int):=by
 show(n:Int)/2 ^ 1=_
 omega
theorem Hm(n:Nat)(h:n<1000000000):IntKind.i64.wrap ((n:Int)*2 ^ (min ((1:Int).toNat) IntKind.i64.bits))=((2*n:Nat):Int):=by
 show IntKind.i64.wrap ((n:Int)*2 ^ 1)=_
 grind [cz,fZ]
theorem ON(n:Nat)(h:n<1000000000):IntKind.i64.wrap ((BitVec.ofInt IntKind.i64.bits ((2*n:Nat):Int) ||| BitVec.ofInt IntKind.i64.bits 1).toNat:Int)=((2*n+1:Nat):Int):=by
 have h1:=uz (a:=1) (c:=n) (k:=1) (by decide)
 grind [uB,cz,fZ]
def ry(n:Nat)(h:n<1000000000):IntKind.i64.wrap ((BitVec.ofInt IntKind.i64.bits (n:Int) &&& BitVec.ofInt IntKind.i64.bits 1).toNat:Int)=((n%2:Nat):Int):=ru n 1 aj aj
def gK{b o c m m':Nat}(h:0<c)(hm:m'=m):Value.slice (sliceAt (some ⟨b,o,none⟩) c (0:Int).toNat 32) (((m:Nat):Int).toNat-(0:Int).toNat) (c-(0:Int).toNat) = .slice (some ⟨b,o,none⟩) m' c:=by
 subst hm
 unfold sliceAt
 simp[Addr.add]
theorem BP{b o c n:Nat}{pre junk:List Value}{acI W:List Dg}{e:TypeId}(hp:pre.length=o)(hn:n≤c)(hc:c*32≤(acI.flatMap dC).length+junk.length)(hl:(acI.flatMap dC).length=n*32)(V:List Dg)(hV:V.length=n)(hW:W=V.take W.length)(H:List HP) :
  ak (ag b (cl (pre++V.flatMap dC++junk) e)::H) (aH e 32 (.slice (some ⟨b,o,none⟩) W.length c) W.length (W.flatMap dC)::H):=by
 have h1:V.flatMap dC=W.flatMap dC++(V.drop W.length).flatMap dC:=by
  conv=>lhs;rw[← List.take_append_drop W.length V]
  grind
 have k4:W.length≤n:=by
  grind
 have h2:((V.drop W.length).flatMap dC).length=(n-W.length)*32:=by rw[bt eE,List.length_drop,hV]
 have h3:=bt eE W
 rw[h1,List.append_assoc,List.append_assoc,← List.append_assoc]
 refine fQ hp aj ?_ h3 H
 grind
theorem Ih(A:HP)(hK:lL A)(bx:Nat)(v:Value)(l0:List Dg)(hv:Vw A v l0.length (l0.flatMap dC))(I7:l0.length≤1000000)(l:Nat)(Lp:HP)(Inv:Nat→HP)(hy:∀j va vc,(∀i,i<j→1<(ed i l0).length)→bI Tryz.prog l [.slice va (ed j l0).length vc] [Lp,Inv j,aH 35 32 (.slice va (ed j l0).length vc) (ed j l0).length ((ed j l0).flatMap dC)] (fun r H=>r = .bool true∧H=[Lp,Inv (j+1),aH 35 32 (.slice va (ed j l0).length vc) (ed j l0).length ((ed j l0).flatMap dC)])) :
  aw Tryz.prog 400 [.func (.yield l) #[] #[],ptr bx] [Lp,Inv 0,ag bx (cl [v] 43),A] (fun _ H=>∃j,(∀i,i<j→1<(ed i l0).length)∧(ed j l0).length≤1∧H=[Lp,Inv (j+1),A]):=by
 refine aw.ao Tryz.func400 Tryz.ntmps400 fun G F R hE=>?_
 refine go ?_
 refine az (xx A v l0 hv I7) ?_
 rintro r _ rfl
 refine aM 0 rfl ?_
 rintro ra rc rfl
 refine go ?_
 refine bj (fun y:Nat × Option Addr × Nat=>∀i,i<y.1→1<(ed i l0).length) (fun y=>(ed y.1 l0).length)
  (fun y=>[(0,.func (.yield l) #[] #[]),(3,.slice y.2.1 (ed y.1 l0).length y.2.2)])
  (fun y=>aH 35 32 (.slice y.2.1 (ed y.1 l0).length y.2.2) (ed y.1 l0).length ((ed y.1 l0).flatMap dC)::Lp::Inv y.1::A::F) (0,ra,rc) (fun i h=>by omega) rfl bO ah ?_
 rintro⟨j,a1,c1⟩ hI ih
 dsimp only
 have hle:=GC l0 j
 refine go ?_
 refine aD zr zr ?_ ?_
 ·intro Kx
  have MK:1<(ed j l0).length:=by omega
  have hI2:∀i,i<j+1→1<(ed i l0).length:=fun i hi=>by
   grind
  have ug:ed (j+1) l0=dQ (ed j l0):=rfl
  have hyj:=hy j a1 c1 hI
  obtain⟨row,Am⟩:∃row,row=ed j l0:=⟨_,rfl⟩
  rw[← Am]at hle Kx MK ug hyj ⊢
  have hab:=e9 row
  refine go ?_
  refine gQ zr zr zr hyj ah ?_ iM
  rintro _ _⟨rfl,rfl⟩
  refine go ?_
  refine fL zr zr zr aj ?_
  refine aC 16 ((.int .i64 ((row.length/2:Nat):Int))) rfl ((congrArg (Value.int .i64) (CS row.length))) (go ?_)
  refine ai (ak.pick [2,0,1] rfl) ?_
  refine nG (fun a qu hn _=>by omega) ?_
  rintro b o cc pre junk vS gZ hnc fF jF
  obtain⟨rfl,rfl⟩:=vS
  have q5:∀i,i≤row.length/2→((fJ row i).flatMap dC).length=row.length*32:=fun i hi=>by rw[bt eE,sq row hi]
  refine bj (fun i:Nat=>i≤row.length/2) (fun i=>row.length/2-i)
   (fun i=>[(0,.func (.yield l) #[] #[]),(3,.slice (some ⟨b,o,none⟩) row.length c1),(16,.int .i64 ((row.length/2:Nat):Int)),(17,.int .i64 (i:Int))])
   (fun i=>ag b (cl (pre++(fJ row i).flatMap dC++junk) 35)::Lp::Inv (j+1)::A::F) 0 (Nat.zero_le _) rfl bO ah ?_
  rintro i hi O2
  have E8:=sq row hi
  refine go ?_
  refine aD zr zr ?_ ?_
  ·intro cB
   have Kw:i<row.length/2:=by omega
   obtain⟨x,hx⟩:∃x,row[2*i]?=some x:=⟨row[2*i]' aj,by simp⟩
   obtain⟨y,O6⟩:∃x,row[2*i+1]?=some x:=⟨row[2*i+1]' aj,by simp⟩
   have hgx:=(sr row hi (show i≤2*i by omega)).trans hx
   have hgy:=(sr row hi (show i≤2*i+1 by omega)).trans O6
   have jL:=Ii row Kw (JI hx O6)
   have dt:Vw (ag b (cl (pre++(fJ row i).flatMap dC++junk) 35)) (.slice (some ⟨b,o,none⟩) row.length c1) row.length ((fJ row i).flatMap dC):=Vw.ag (by rw[← gZ,List.append_assoc,List.drop_left,List.take_left])
   refine go ?_
   refine aO (fun w=>Sat G w ([ag b (cl (pre++(fJ row i).flatMap dC++junk) 35)])) (cM 0 13 (.act 13 (.st 14 (.act 15 .nil)))) rfl ae ae ae dv ?_
   refine go ?_
   refine l4 zr zr zr aj ?_
   refine aC 24 ((.int .i64 ((2*i:Nat):Int))) rfl ((congrArg (Value.int .i64) (Hm i aj))) ?_
   refine bM (2*i) 32 zr zr zr zr zr zr zr zr aj ?_
   refine aS ?_
   refine gH (U:=aY) (es:=dC x) 0 ((2*i)*32) zr zr zr dt rfl (fun q v hq=>?_) zr zr zr ?_
   ·rw[cd eE hgx q (by rcases Nat.lt_or_ge q 32 with h|h;exact h;rw[List.getElem?_eq_none (by rw[eE];exact h)]at hq;cases hq)];exact hq
   refine go ?_
   refine l4 zr zr zr aj ?_
   refine aC 29 ((.int .i64 ((2*i:Nat):Int))) rfl ((congrArg (Value.int .i64) (Hm i aj))) (go ?_)
   refine aC 30 ((.int .i64 ((2*i+1:Nat):Int))) rfl ((congrArg (Value.int .i64) (ON i aj))) ?_
   refine bM (2*i+1) 32 zr zr zr zr zr zr zr zr aj ?_
   refine aS ?_
   refine gH (U:=aY) (es:=dC y) 0 ((2*i+1)*32) zr zr zr dt rfl (fun q v hq=>?_) zr zr zr ?_
   ·rw[cd eE hgy q (by rcases Nat.lt_or_ge q 32 with h|h;exact h;rw[List.getElem?_eq_none (by rw[eE];exact h)]at hq;cases hq)];exact hq
   refine go ?_
   refine bP ((w7 A hK x y)) ?_
   refine go ?_
   refine bM i 32 zr zr zr zr zr zr zr zr aj ?_
   refine aX ?_
   refine iz (U:=aY) (l':=pre++(fJ row (i+1)).flatMap dC++junk) 1 fE zr zr zr zr zr zr zr ?_ ?_ rfl ?_
   ·show o+i*32+32≤_
    rw[List.length_append,List.length_append,q5 i hi];omega
   ·show _=List.take (o+i*32) (pre++(fJ row i).flatMap dC++junk)++dC (jR x y)++List.drop (o+i*32+(dC (jR x y)).length) (pre++(fJ row i).flatMap dC++junk)
    rw[← gZ,kD _ _ _ _ _ (by rw[eE,q5 i hi];omega),← jL,py eE aj]
    rfl
   refine go ?_
   refine aK O2 (i+1) rfl aj aj bO ah
  intro eN
  have tK:i=row.length/2:=by omega
  subst tK
  have afl:=q5 (row.length/2) (Nat.le_refl _)
  refine go ?_
  refine aQ 38 ((.int .i64 ((row.length%2:Nat):Int))) rfl ((congrArg (Value.int .i64) (ry row.length aj))) ?_
  refine aD zr zr ?_ ?_
  ·intro ae0
   have adf:row.length%2=1:=by rw[ry _ aj]at ae0;omega
   obtain⟨x,hx⟩:∃x,row[row.length-1]?=some x:=⟨row[row.length-1]' aj,by simp⟩
   have hgx:=(sr row (Nat.le_refl (row.length/2)) (show row.length/2≤row.length-1 by omega)).trans hx
   have dt:Vw (ag b (cl (pre++(fJ row (row.length/2)).flatMap dC++junk) 35)) (.slice (some ⟨b,o,none⟩) row.length c1) row.length ((fJ row (row.length/2)).flatMap dC):=Vw.ag (by rw[← gZ,List.append_assoc,List.drop_left,List.take_left])
   have fR:=Ij row adf hx
   refine go ?_
   refine fL zr zr zr aj ?_
   refine aC 43 ((.int .i64 ((row.length/2:Nat):Int))) rfl ((congrArg (Value.int .i64) (CS row.length))) (go ?_)
   refine aC 47 ((.int .i64 ((row.length-1:Nat):Int))) rfl ((congrArg (Value.int .i64) aj)) ?_
   refine bM (row.length-1) 32 zr zr zr zr zr zr zr zr aj ?_
   refine aS ?_
   refine bZ (U:=aY) (es:=dC x) 0 ((row.length-1)*32) zr zr zr dt rfl (fun q v hq=>?_) zr zr zr ?_
   ·rw[cd eE hgx q (by rcases Nat.lt_or_ge q 32 with h|h;exact h;rw[List.getElem?_eq_none (by rw[eE];exact h)]at hq;cases hq)];exact hq
   refine bM (row.length/2) 32 zr zr zr zr zr zr zr zr aj ?_
   refine aX ?_
   refine iz (U:=aY) (l':=pre++((fJ row (row.length/2)).set (row.length/2) x).flatMap dC++junk) 0 fE zr zr zr zr zr zr zr ?_ ?_ rfl ?_
   ·show o+row.length/2*32+32≤_
    grind
   ·show _=List.take (o+row.length/2*32) (pre++(fJ row (row.length/2)).flatMap dC++junk)++dC x++List.drop (o+row.length/2*32+(dC x).length) (pre++(fJ row (row.length/2)).flatMap dC++junk)
    rw[← gZ,kD _ _ _ _ _ (by rw[eE,afl];omega),py eE aj]
    rfl
   (refine go ?_;refine fL zr zr zr aj ?_;((refine aC 55 ((.int .i64 (((row.length+1)/2:Nat):Int))) rfl ((congrArg (Value.int .i64) (by show((row.length:Int)+1)/2 ^ 1=_;omega))) ?_));refine bo (p:=0) (q:=(((row.length+1)/2:Nat):Int)) zr zr zr zr zr zr zr aj aj (.inr aj) ?_;((refine aC 56 ((.slice (some ⟨b,o,none⟩) (ed (j+1) l0).length c1)) rfl ((gK aj (by rw[ug,hab]))) ?_));((refine aR (BP (W:=ed (j+1) l0) gZ hnc fF jF ((fJ row (row.length/2)).set (row.length/2) x) (by rw[List.length_set];exact E8) (by rw[ug,hab];exact fR.symm) _) ?_));refine go ?_;refine aK ih (j+1,some ⟨b,o,none⟩,c1) rfl hI2 (by simp only;rw[ug,← Am];omega) bO ah)
  ·intro adE
   have aav:row.length%2=0:=by rw[ry _ aj]at adE;omega
   have fR:=Eu row aav
   (refine go ?_;refine fL zr zr zr aj ?_;((refine aC 55 ((.int .i64 (((row.length+1)/2:Nat):Int))) rfl ((congrArg (Value.int .i64) (by show((row.length:Int)+1)/2 ^ 1=_;omega))) ?_));refine bo (p:=0) (q:=(((row.length+1)/2:Nat):Int)) zr zr zr zr zr zr zr aj aj (.inr aj) ?_;((refine aC 56 ((.slice (some ⟨b,o,none⟩) (ed (j+1) l0).length c1)) rfl ((gK aj (by rw[ug,hab]))) ?_));((refine aR (BP (W:=ed (j+1) l0) gZ hnc fF jF (fJ row (row.length/2)) E8 (by rw[ug,hab];exact fR.symm) _) ?_));refine go ?_;refine aK ih (j+1,some ⟨b,o,none⟩,c1) rfl hI2 (by simp only;rw[ug,← Am];omega) bO ah)
 ·intro age
  have adl:(ed j l0).length≤1:=by omega
  refine go ?_
  refine gQ zr zr zr (hy j a1 c1 hI) ah ?_ iM
  rintro _ _⟨rfl,rfl⟩
  refine go ?_
  refine bB hE Tryz.func400 rfl _ rfl ⟨j,hI,adl,rfl⟩ ah
theorem Nu(A:HP)(hK:lL A)(v:Value)(l0:List Dg)(hv:Vw A v l0.length (l0.flatMap dC))(I7:l0.length≤1000000)(gf:l0≠[]):aw Tryz.prog 160 [v] [A] (fun r H=>r=dV (BQ l0)∧H=[A]):=by
 obtain⟨a,c,rfl⟩:=hv.shape
 have nv:0<l0.length:=List.length_pos_iff.2 gf
 refine aw.ao Tryz.func160 Tryz.ntmps160 fun G F R hE=>?_
 refine aN rfl ?_
 refine aB zr zr zr bq ?_
 intro b2
 refine go ?_
 refine aD zr zr ?_ ?_
 ·grind
 intro _
 (refine aN rfl ?_;refine rW ?_)
 refine aB zr zr zr bq ?_
 intro b3
 refine go ?_
 refine az (La a l0.length c) ?_
 rintro _ _⟨bx,rfl,rfl⟩
 refine go ?_
 refine gG rfl ?_
 let rt:Nat→Dg:=fun j=>match j with|0=>Dg.zero|j+1=>((ed j l0).head?).getD Dg.zero
 refine ai (ak.trans (ak.pick [2,1] rfl) (ak.bT [ag b2 (cl (dC Dg.zero) 35),ag b3 (cl (dC (rt 0)) 35)] _)) ?_
 refine o4 (Fr:=F) (Pre:=fun _ _=>[Sep [ag b2 (cl (dC Dg.zero) 35),ag b3 (cl (dC (rt 0)) 35)],ag bx (cl [.slice a l0.length c] 43),A]) (fun _ _ Lp v H=>∃j,(∀i,i<j→1<(ed i l0).length)∧(ed j l0).length≤1∧H=[Lp .ready none,Sep [ag b2 (cl (dC Dg.zero) 35),ag b3 (cl (dC (rt (j+1))) 35)],A]) rfl hE.1.1 rfl ?c (fun l r=>ah) ?fR
 case c =>
  intro l r
  refine Ih A hK bx _ l0 hv I7 l _ (fun j=>Sep [ag b2 (cl (dC Dg.zero) 35),ag b3 (cl (dC (rt j)) 35)]) ?_
  intro j va vc hI
  refine bI.Af zr zr ?_
  intro G2 F2 R2 hY
  have hpj:=vh l0 nv j
  have hrt:rt (j+1)=((ed j l0).head?).getD Dg.zero:=rfl
  obtain⟨x,row,Am⟩:∃x row,ed j l0=x::row:=by
   cases h:ed j l0 with
   | nil=>rw[h]at hpj;simp at hpj
   | cons x row=>exact⟨x,row,rfl⟩
  rw[Am]at hrt hpj
  rw[Am]at hY ⊢
  rw[hrt]at hY
  clear_value rt
  refine go ?_
  refine er rfl hY ?_
  refine ai (ak.trans (ak.pick [1] rfl) (ak.cL [_,_] _)) ?_
  refine dz 3 rfl ?_
  intro dt
  obtain⟨b,o,cc,xU⟩:=dt.some (by rw[List.flatMap_cons];intro h;simp[dC]at h)
  obtain⟨rfl,rfl⟩:=xU
  refine go ?_
  refine bM 0 32 zr zr zr zr zr zr zr zr (by simp) ?_
  refine aS ?_
  refine bZ (U:=aY) (es:=dC x) 3 0 zr zr zr dt rfl (fun q v hq=>?_) zr zr zr ?_
  ·grind
  refine aX ?_
  refine eb (U:=aY) (l':=dC x) 1 fE rfl rfl rfl rfl (by intro e;cases e) (by rw[eF];exact jv _) rfl rfl rfl ?_
  refine go ?_
  refine ai (ak.bT [_,_] _) ?_
  refine ea hY rfl ah ⟨rfl,rfl⟩
 rintro l r v H'⟨j,hI,hj,rfl⟩
 refine⟨_,_,_,rfl,by decide,?_⟩
 have hpj:=vh l0 nv j
 obtain⟨x,hx⟩:∃x,ed j l0=[x]:=by
  match h:ed j l0,hpj,hj with
  | [x],_,_=>exact⟨x,rfl⟩
 have ac6:=Ld gf hI hx
 have hrt:rt (j+1)=x:=by show((ed j l0).head?).getD Dg.zero=x;rw[hx];rfl
 rw[hrt,hE.1.2]
 rw[ac6]at hE
 clear_value rt
 refine ai (ak.cL [_,_] _) (go ?_)
 refine aV (U:=aY) 1 zr zr zr zr zr zr ?_
 refine eb (U:=aY) (l':=dC x) 0 fE rfl rfl rfl rfl (by intro e;cases e) (by rw[eF];exact jv _) rfl rfl rfl ?_
 refine go ?_
 (apply a7 (U:=aY) hE Tryz.func160 rfl ah;(repeat(first|exact aT.nil|apply aT.agg 0 zr zr zr zr zr));exact⟨rfl,rfl⟩;exact ah)
end Go.Proofs.YtjpboghdolfekaaGreatDoor
namespace Go.Proofs.YtjpboghdolfekaaGreatDoor
open Go Go.SL
def l7(x:Bl):Value := .agg (dN x).toArray
def HJ(g:FuncId)(cap:List Value)(ds:List Dg)(Pre Post:List HP):Prop :=
 ∀(l:Nat) (Lp:HP) (Inv:Nat→HP),(∀j d,ds[j]?=some d→bI Tryz.prog l [dV d] [Lp,Inv j] (fun v H=>v = .bool true∧H=[Lp,Inv (j+1)])) →
  aw Tryz.prog g (.func (.yield l) #[] #[]::cap) (Lp::Inv 0::Pre) (fun _ H=>H=Lp::Inv ds.length::Post)
def GI(bs:Nat)(ks:List Dg):HP:=fun h=>∃v:Value,True∧Sep [ag bs (cl [v] 43),aH 35 32 v ks.length (ks.flatMap dC)] h
def HL(bs:Nat)(ks:List Dg):∀h,GI bs ks h→∃v,True∧Sep [ag bs (cl [v] 43),aH 35 32 v ks.length (ks.flatMap dC)] h:=fun h hs=>hs
def DF(bs:Nat)(ks:List Dg)(v:Value)(H:List HP):ak (ag bs (cl [v] 43)::aH 35 32 v ks.length (ks.flatMap dC)::H) (GI bs ks::H) :=
 ak.fold (A:=GI bs ks) (B:=[ag bs (cl [v] 43),aH 35 32 v ks.length (ks.flatMap dC)]) fun h hs=>⟨h,sub.refl h,v,trivial,hs⟩
attribute [local irreducible] J K aw Ends ag aH au bE aW aJ a6 aZ bI Sha.chunks Sha.chunk Sha.rounds Sha.sched ff cI GI
def xB(g:FuncId)(cap:List Value)(ds:List Dg)(Pre Post:List HP)(hN:ds.length≤1000000)(hi:HJ g cap ds Pre Post) :
  aw Tryz.prog 276 [.slice none 0 0,.func (.func g) #[] cap.toArray] Pre (fun r H=>H=aH 35 32 r ds.length (ds.flatMap dC)::Post):=by
 refine aw.ao Tryz.func276 Tryz.ntmps276 fun G F R hE=>?_
 refine aN rfl ?_
 refine bC zr zr bq ?_
 intro bs
 refine go ?_
 refine gG rfl ?_
 refine ai (ak.trans (ak.cons _ (bp 35 32 none _)) (DF bs [] (.slice none 0 0) _)) ?_
 refine rF (Fr:=F) (Pre:=fun _ _=>GI bs []::Pre) (Post:=?Po) rfl hE.1.1 rfl ?c (fun l r=>ak.refl _) ?fR
 case c =>
  intro l r
  refine hi l _ (fun j=>GI bs (ds.take j)) ?_
  intro j k hjk
  have Ff:=(List.getElem?_eq_some_iff.1 hjk).1
  have xQ:(ds.take j).length=j:=by rw[List.length_take];omega
  have l6:ds.take (j+1)=ds.take j++[k]:=by rw[List.take_add_one,hjk];rfl
  refine bI.Af zr zr ?_
  intro G2 F2 R2 hY
  refine aN rfl ?_
  refine aB zr zr zr bq ?_
  intro b5
  refine go ?_
  refine ai (ak.pick [1] rfl) ?_
  refine er rfl hY ?_
  refine ai (ak.pick [2] rfl) ?_
  refine cG (HL bs (ds.take j)) ?_
  rintro v -
  refine cU 1 rfl ?_
  rintro va vc rfl
  refine go ?_
  refine aV (U:=aY) 3 zr zr zr zr zr zr ?_
  refine aq (cs:=dC k) zr zr zr zr zr zr zr zr zr bq ?_
  intro row
  refine go ?_
  refine aU (mm:=1) (news:=dC k) 2 0 zr zr zr zr zr zr zr zr zr zr zr zr (Vw.ag rfl) rfl (by rw[eF];exact dL _) (by rw[xQ];omega) (by show(_+1)*32≤_;rw[xQ];omega) (fun _=>rfl) bq ?_
  intro v1
  rw[show(ds.take j).flatMap dC++dC k=(ds.take (j+1)).flatMap dC from by rw[l6];simp,show(ds.take j).length+1=(ds.take (j+1)).length from by rw[l6];simp]
  refine aM 2 rfl ?_
  rintro Km Kl rfl
  refine go ?_
  refine ai (ak.trans ah (DF bs (ds.take (j+1)) (.slice Km (ds.take (j+1)).length Kl) _)) ?_
  refine ea hY rfl ah ⟨rfl,rfl⟩
 intro l r v H ef
 subst ef
 refine⟨_,_,_,rfl,by decide,?_⟩
 rw[hE.1.2,List.take_length]
 refine cG (HL bs ds) ?_
 rintro w -
 refine go ?_
 refine mI hE Tryz.func276 rfl _ zr zr ?_
 exact(ak.drop _ _).trans (ak.perm (((List.perm_middle (a:=ag r (.deferred (some []))) (l₁:=Post) (l₂:=F)).cons _).trans (List.Perm.swap _ _ _)))
def rQ(g:FuncId)(cap:List Value)(ds:List Dg)(Pre Post:List HP)(hN:ds.length≤1000000)(hi:HJ g cap ds Pre Post) :
  aw Tryz.prog 162 [.func (.func g) #[] cap.toArray] Pre (fun r H=>H=aH 35 32 r ds.length (ds.flatMap dC)::Post):=by
 refine aw.ao Tryz.func162 Tryz.ntmps162 fun G F R hE=>?_
 refine go ?_
 refine az (xB g cap ds Pre Post hN hi) ?_
 rintro w _ rfl
 refine go ?_
 refine aL hE Tryz.func162 rfl _ zr zr ah
def zj(s p:Int)(hs:1≤s∧s≤1048576)(hp:1≤p∧p≤16384):aw Tryz.prog 275 [.int .i64 s,.int .i64 p] [] (fun r H=>r = .int .i64 ((s+p-1)/p)∧H=[]):=by
 have h1:0≤(s+p-1)/p:=Int.ediv_nonneg aj aj
 have h2:(s+p-1)/p≤s+p-1:=Int.ediv_le_self _ aj
 refine aw.ao Tryz.func275 Tryz.ntmps275 fun G F R hE=>?_
 refine go ?_
 refine tU zr zr zr aj aj (by simp only[fZ];omega) ?_
 refine go ?_
 refine ad hE Tryz.func275 zr zr ⟨rfl,rfl⟩
def mH(x:Bl):aw Tryz.prog 161 [l7 x] [] (fun r H=>r = .bool (bY x)∧H=[]):=by
 have hF:¬(1≤x.size∧x.size≤1048576∧16≤x.piece∧x.piece≤16384)→Value.bool false = .bool (bY x):=fun h=>congrArg Value.bool (by unfold bY;rw[decide_eq_false (by rintro⟨a,b,c,e,_⟩;exact h ⟨a,b,c,e⟩)])
 have hT:(1≤x.size∧x.size≤1048576∧16≤x.piece∧x.piece≤16384)→Value.bool (decide ((x.size+x.piece-1)/x.piece≤1024)) = .bool (bY x):=fun h=>congrArg Value.bool (by unfold bY;rw[decide_eq_decide];exact⟨fun g=>⟨h.1,h.2.1,h.2.2.1,h.2.2.2,g⟩,fun g=>g.2.2.2.2⟩)
 unfold l7
 refine aw.ao Tryz.func161 Tryz.ntmps161 fun G F R hE=>?_
 refine aN rfl ?_
 refine bC zr zr bq ?_
 intro b1
 repeat'(first|(with_reducible intro kQ)|refine eK ?_|refine ew zr zr zr zr ?_ ?_|(refine az (zj x.size x.piece aj aj) ?_;rintro _ _⟨rfl,rfl⟩))
 all_goals(first|((refine ad hE Tryz.func161 zr zr ⟨hF aj,rfl⟩))|((refine ad hE Tryz.func161 zr zr ⟨hT aj,rfl⟩)))
def sX(x:Bl):aw Tryz.prog 240 [l7 x] [] (fun r H=>r = .int .i64 (fT x)∧H=[]):=by
 unfold l7
 refine aw.ao Tryz.func240 Tryz.ntmps240 fun G F R hE=>?_
 refine aN rfl ?_
 refine bC zr zr bq ?_
 intro b1
 refine go ?_
 refine aV (U:=aY) 0 zr zr zr zr zr zr ?_
 refine aF (mH x) ?_
 cases hr:bY x with
 | false =>
  have hc:fT x=0:=by unfold fT;rw[if_neg (by rw[hr];simp)]
  rw[hc]at hE
  refine go ?_
  refine ad hE Tryz.func240 zr zr ⟨rfl,rfl⟩
 | true =>
  have hc:fT x=(x.size+x.piece-1)/x.piece:=by unfold fT;rw[if_pos hr]
  rw[hc]at hE
  simp only[bY,decide_eq_true_eq]at hr
  refine go ?_
  refine aF (zj x.size x.piece aj aj) ?_
  refine go ?_
  refine ad hE Tryz.func240 zr zr ⟨rfl,rfl⟩
def zk(x:Bl):0≤fT x∧fT x≤1024:=by
 unfold fT
 split
 ·rename_i hr
  simp only[bY,decide_eq_true_eq]at hr
  exact⟨Int.ediv_nonneg aj aj,hr.2.2.2.2⟩
 ·omega
theorem Oy{x:Bl}{i:Int}(h0:0≤i)(h1:i<fT x):bY x=true∧0≤i*x.piece∧i*x.piece<x.size:=by
 unfold fT at h1
 split at h1
 ·rename_i hr
  have O':=hr
  simp only[bY,decide_eq_true_eq]at hr
  refine⟨O',Int.mul_nonneg h0 aj,?_⟩
  have h2:(i+1)*x.piece≤x.size+x.piece-1:=by
   have:=(Int.le_ediv_iff_mul_le (a:=i+1) (b:=x.size+x.piece-1) (c:=x.piece) aj).1 aj
   exact this
  grind
 ·omega
def Dh(x:Bl)(i:Int):aw Tryz.prog 220 [l7 x,.int .i64 i] [] (fun r H=>r=(match qG x i with
  | none => .tuple #[.int .i64 0,.int .i64 0,.int .i64 1]
  | some (a,n) => .tuple #[.int .i64 a,.int .i64 n,.int .i64 0])∧H=[]):=by
 unfold l7
 refine aw.ao Tryz.func220 Tryz.ntmps220 fun G F R hE=>?_
 refine aN rfl ?_
 refine bC zr zr bq ?_
 intro b1
 have hN:(i<0∨fT x≤i)→qG x i=none:=fun h=>by unfold qG;rw[if_pos h]
 repeat'(first|(with_reducible intro kQ)|refine eK ?_|refine ew zr zr zr zr ?_ ?_|refine aD zr zr ?_ ?_|refine aV (U:=aY) 0 zr zr zr zr zr zr ?_|(refine az (sX x) ?_;rintro _ _⟨rfl,rfl⟩))
 all_goals(first|(rw[hN aj]at hE;((refine ad hE Tryz.func220 zr zr ⟨rfl,rfl⟩)))|skip)
 have hs:qG x i=some (i*x.piece,min x.piece (x.size-i*x.piece)):=by unfold qG;rw[if_neg aj]
 rw[hs]at hE
 obtain⟨hr,CC,hms⟩:=Oy (x:=x) (i:=i) aj aj
 simp only[bY,decide_eq_true_eq]at hr
 obtain⟨q,hq⟩:∃q,q=i*x.piece:=⟨_,rfl⟩
 rw[← hq]at CC hms hE
 refine aO (fun w=>Sat G w ([ag b1 (cl (dN x) 182)])) (cM 0 17 .nil) rfl ae ae ae dv ?_
 (repeat(first|refine eK ?_|(refine nJ ?_;refine iG zr zr zr (by rw[← hq];simp only[fZ];omega) ?_;rw[← hq])))
 refine ad hE Tryz.func220 zr zr ⟨rfl,rfl⟩
theorem Kh(a:Option Addr)(n c:Nat)(k:Int)(hk:1≤k):aw Tryz.prog 278 [.slice a n c,.int .i64 k] [] (fun r H=>∃b1 b2,r = .func (.func 402) #[] #[ptr b1,ptr b2]∧H=[ag b1 (cl [.slice a n c] 37),ag b2 (cl [.int .i64 k] 3)]):=by
 refine aw.ao Tryz.func278 Tryz.ntmps278 fun G F R hE=>?_
 refine aN rfl ?_
 refine bC zr zr bq ?_
 intro b1
 refine bC zr zr bq ?_
 intro b2
 refine go ?_
 refine aD zr zr ?_ ?_
 ·grind
 intro _
 refine go ?_
 refine ad hE Tryz.func278 zr zr ⟨b1,b2,rfl,rfl⟩
theorem Gk(A:HP)(b1 b2:Nat)(v:Value)(b:List UInt8)(hv:fb A v b)(hl:b.length≤1000000000)(k:Nat)(hk:1≤k)(Bk:k≤1000000000)(l:Nat)(Lp:HP)(Inv:Nat→HP)(hy:∀j p rv,(gL k b.length b)[j]?=some p→fb A rv p→bI Tryz.prog l [rv] [Lp,Inv j,A] (fun r H=>r = .bool true∧H=[Lp,Inv (j+1),A])) :
  aw Tryz.prog 402 [.func (.yield l) #[] #[],ptr b1,ptr b2] [Lp,Inv 0,ag b1 (cl [v] 37),ag b2 (cl [.int .i64 (k:Int)] 3),A] (fun _ H=>H=[Lp,Inv (gL k b.length b).length,A]):=by
 obtain⟨a,c,rfl,hc⟩:=hv.2
 have hpg:=lq k hk b.length b
 have uf:=tu k hk b
 refine aw.ao Tryz.func402 Tryz.ntmps402 fun G F R hE=>?_
 refine go ?_
 refine bj (fun j:Nat=>j≤(b.length+k-1)/k) (fun j=>(b.length+k-1)/k-j)
  (fun j=>[(0,.func (.yield l) #[] #[]),(1,ptr b1),(2,ptr b2),(4,.int .i64 ((j*k:Nat):Int))])
  (fun j=>Lp::Inv j::ag b1 (cl [.slice a b.length c] 37)::ag b2 (cl [.int .i64 (k:Int)] 3)::A::F) 0 (Nat.zero_le _) rfl (by rw[Nat.zero_mul];exact bO) ah ?_
 rintro j hj ih
 have hjk:j*k≤b.length+k-1:=by
  have:=(Nat.le_div_iff_mul_le hk).1 hj
  exact this
 refine go ?_
 refine aD zr zr ?_ ?_
 ·intro cB
  have ui:j*k<b.length:=by omega
  have hj1:j+1≤(b.length+k-1)/k:=by
   grind
  have hp:=hpg j (Nat.le_refl _)
  rw[if_pos ui]at hp
  obtain⟨p,hpe⟩:∃p,p=(b.drop (j*k)).take k:=⟨_,rfl⟩
  rw[← hpe]at hp
  have QE:p.length=min k (b.length-j*k):=by rw[hpe,List.length_take,List.length_drop]
  obtain⟨jk,adr⟩:∃jk,jk=j*k:=⟨_,rfl⟩
  rw[← adr]at ui hpe QE hjk ⊢
  refine go ?_
  refine aO (fun w=>Sat G w ([ag b1 (cl [.slice a b.length c] 37),ag b2 (cl [.int .i64 (k:Int)] 3)])) (cM 0 7 .nil) rfl ae ae ae dv ?_
  refine go ?_
  refine bo (p:=((jk:Nat):Int)) (q:=(b.length:Int)) zr zr zr zr zr zr zr aj aj (.inl rfl) (go ?_)
  have aak:(jk:Int)+min (k:Int) (((((b.length:Int)).toNat-((jk:Nat):Int).toNat:Nat)):Int)=((jk+p.length:Nat):Int):=by rw[QE];omega
  refine J6 (U:=aY) zr zr zr zr zr zr zr zr aj aj aj aj ?_
  have hbp:=hv.piece jk (jk+p.length) aj aj
  rw[show jk+p.length-jk=p.length from by omega]at hbp
  have aeT:(b.drop jk).take p.length=p:=by
   simp_all
  rw[aeT]at hbp
  have afu:fb A (.slice (sliceAt a (jk+p.length) jk 1) p.length p.length) p:=by
   obtain⟨k6,a2,c2,Fi,hc2⟩:=hbp
   refine⟨?_,_,_,rfl,Nat.le_refl _⟩
   obtain⟨a3,c3,he3,gB⟩:=k6
   simp only[Value.slice.injEq,true_and]at he3
   have e:sliceAt a (jk+p.length) jk 1=sliceAt a c jk 1:=by
    unfold sliceAt
    rw[if_neg aj,if_neg aj]
   rw[e]
   exact⟨_,_,rfl,by rw[he3.1];exact gB⟩
  refine aC 28 (.slice (sliceAt a (jk+p.length) jk 1) p.length p.length) rfl (by rw[aak,Int.toNat_natCast,Int.toNat_natCast,show jk+p.length-jk=p.length from by omega];rfl) ?_
  refine go ?_
  refine gQ zr zr zr (hy j p _ hp afu) ah ?_ iM
  rintro _ _⟨rfl,rfl⟩
  refine go ?_
  ((refine aQ 4 ((.int .i64 (((j+1)*k:Nat):Int))) rfl ((congrArg (Value.int .i64) (by rw[Nat.add_mul,Nat.one_mul,← adr];omega))) ?_))
  refine aK ih (j+1) rfl hj1 aj bO ah
 intro eN
 have MF:j=(b.length+k-1)/k:=by
  rcases Nat.lt_or_ge j ((b.length+k-1)/k)with h|h
  ·exfalso
   have h2:=(Nat.le_div_iff_mul_le (x:=j+1) hk).1 h
   rw[Nat.add_mul,Nat.one_mul]at h2
   omega
  ·omega
 refine go ?_
 rw[uf,← MF]at hE
 refine bB hE Tryz.func402 rfl _ zr zr ah
end Go.Proofs.YtjpboghdolfekaaGreatDoor
namespace Go.SL
open Go
section
variable{P:Program}
theorem uy{t e:TypeId}(hu:P.underlying t=some (.array 32 e))(hc:P.cellsOf t=32)(xs:List Value)(off:Nat)(d:Dg)(h:(xs.drop off).take 32=dC d)(w:World):(part t xs.toArray off).run P w = .ok (dV d) w:=by
 obtain⟨i,hi⟩:=info_of_underlying hu
 have hs:=Go.run_sizeOf w hi
 rw[hc]at hs
 simp only[part,isAgg,Sem.run_bind,Go.run_underlying hu,Result.andThen_ok,Sem.run_pure,if_true,hs]
 have:xs.toArray.extract off (off+32)=(dC d).toArray:=by
  grind
 rw[this]
 rfl
def Ie{t:TypeId}(hu:P.underlying t=some (.int .i64))(a b:Int)(D:Nat)(w:World):(Op.equalIn (D+1) t (.int .i64 a) (.int .i64 b)).run P w = .ok (decide (a=b)) w:=by
 simp only[Op.equalIn,Sem.run_bind,Go.run_underlying hu,Result.andThen_ok,if_true,Sem.run_pure]
 rfl
theorem xH{td ti:TypeId}{f1 f2 f3 f4:Field}(n1:f1.name ≠ "_")(n2:f2.name ≠ "_")(n3:f3.name ≠ "_")(n4:f4.name ≠ "_")(E:Nat)(w:World)(c1 c2:List Value)(d1 d2 r1 r2:Dg)(s1 s2 p1 p2:Int)(eD:∀a b:Dg,(Op.equalIn E td (dV a) (dV b)).run P w = .ok (decide (a=b)) w)(eI:∀a b:Int,(Op.equalIn E ti (.int .i64 a) (.int .i64 b)).run P w = .ok (decide (a=b)) w)(t1:f1.type=td)(t2:f2.type=ti)(t3:f3.type=ti)(t4:f4.type=td)(p01:(part td c1.toArray f1.offset).run P w = .ok (dV d1) w)(p02:(part td c2.toArray f1.offset).run P w = .ok (dV d2) w)(p11:(part ti c1.toArray f2.offset).run P w = .ok (.int .i64 s1) w)(p12:(part ti c2.toArray f2.offset).run P w = .ok (.int .i64 s2) w)(p21:(part ti c1.toArray f3.offset).run P w = .ok (.int .i64 p1) w)(p22:(part ti c2.toArray f3.offset).run P w = .ok (.int .i64 p2) w)(p31:(part td c1.toArray f4.offset).run P w = .ok (dV r1) w)(p32:(part td c2.toArray f4.offset).run P w = .ok (dV r2) w) :
  (Op.eqFields E c1.toArray c2.toArray [f1,f2,f3,f4]).run P w = .ok (decide (d1=d2∧s1=s2∧p1=p2∧r1=r2)) w:=by
 by_cases h1:d1=d2
 ·by_cases h2:s1=s2
  ·by_cases h3:p1=p2
   ·simp[Op.eqFields,n1,n2,n3,n4,t1,t2,t3,t4,p01,p02,p11,p12,p21,p22,p31,p32,eD,eI,h1,h2,h3]
    grind
   ·simp[Op.eqFields,n1,n2,n3,n4,t1,t2,t3,t4,p01,p02,p11,p12,p21,p22,p31,p32,eD,eI,h1,h2,h3]
  ·simp[Op.eqFields,n1,n2,n3,n4,t1,t2,t3,t4,p01,p02,p11,p12,p21,p22,p31,p32,eD,eI,h1,h2]
 ·simp[Op.eqFields,n1,n2,n3,n4,t1,t2,t3,t4,p01,p02,p11,p12,p21,p22,p31,p32,eD,eI,h1]
end
end Go.SL
namespace Go.Proofs.YtjpboghdolfekaaGreatDoor
open Go Go.SL
attribute [local irreducible] J K aw Ends ag aH au bE aW aJ a6 aZ bI Sha.chunks Sha.chunk Sha.rounds Sha.sched ff cI GI fA
theorem Cp(A:HP)(hK:lL A)(b1 b2:Nat)(v:Value)(b:List UInt8)(hv:fb A v b)(hl:b.length≤900000000)(k:Nat)(hk:1≤k)(Bk:k≤1000000000) :
  HJ 277 [ptr b1,ptr b2] ((gL k b.length b).map fA) [ag b1 (cl [v] 37),ag b2 (cl [.int .i64 (k:Int)] 3),A] [A]:=by
 intro l Lp Inv hy
 obtain⟨a,c,rfl,hc⟩:=hv.2
 refine aw.ao Tryz.func277 Tryz.ntmps277 fun G F R hE=>?_
 refine aN rfl ?_
 refine bC zr zr bq ?_
 intro b3
 refine go ?_
 refine az (Kh a b.length c (k:Int) aj) ?_
 rintro _ _⟨c1,c2,rfl,rfl⟩
 refine go ?_
 refine gG rfl ?_
 refine ai (ak.trans (ak.pick [3,4,2] rfl) (ak.bT [Lp,Inv 0,ag b3 (cl [.func (.yield l) #[] #[] ] 201)] _)) ?_
 refine o4 (Fr:=F) (Pre:=fun _ _=>[Sep [Lp,Inv 0,ag b3 (cl [.func (.yield l) #[] #[] ] 201)],ag c1 (cl [.slice a b.length c] 37),ag c2 (cl [.int .i64 (k:Int)] 3),A]) (fun _ _ Lp2 v H=>H=[Lp2 .ready none,Sep [Lp,Inv (gL k b.length b).length,ag b3 (cl [.func (.yield l) #[] #[] ] 201)],A]) rfl hE.1.1 rfl ?c (fun l r=>ah) ?fR
 case c =>
  intro l2 r2
  refine Gk A c1 c2 _ b hv aj k hk Bk l2 _ (fun j=>Sep [Lp,Inv j,ag b3 (cl [.func (.yield l) #[] #[] ] 201)]) ?_
  intro j p rv hp hbp
  have hyj:=hy j (fA p) (by rw[List.getElem?_map,hp];rfl)
  have uf:p.length≤900000000:=by
   grind [lq]
  refine bI.Af zr zr ?_
  intro G F2 R2 hY
  refine go ?_
  refine er rfl hY ?_
  refine ai (ak.trans (ak.pick [1] rfl) (ak.cL [_,_,_] _)) ?_
  refine aO (fun w=>Sat G w ([ag b3 (cl [.func (.yield l) #[] #[] ] 201)])) (.st 0 (.st 1 (.act 2 (.act 3 (.st 4 .nil))))) rfl ae ae ae dv ?_
  refine go ?_
  refine bP ((Dq A hK rv p hbp uf)) ?_
  refine go ?_
  refine gQ rfl rfl rfl hyj ah ?_ tqg
  rintro _ _⟨rfl,rfl⟩
  refine go ?_
  refine ai (ak.trans (ak.pick [0,1,3] rfl) (ak.bT [Lp,Inv (j+1),ag b3 (cl [.func (.yield l) #[] #[] ] 201)] _)) ?_
  refine ea hY rfl ah ⟨rfl,rfl⟩
 rintro l2 r2 v2 H' rfl
 refine⟨_,_,_,rfl,by decide,?_⟩
 rw[hE.1.2]
 rw[List.length_map]at hE
 refine ai (ak.cL [_,_,_] _) (go ?_)
 apply F8 hE Tryz.func277 rfl _ zr zr
 exact ah
def E5(a:Option Addr)(n c:Nat)(k:Int):aw Tryz.prog 163 [.slice a n c,.int .i64 k] [] (fun r H=>∃b1 b2,r = .func (.func 277) #[] #[ptr b1,ptr b2]∧H=[ag b1 (cl [.slice a n c] 37),ag b2 (cl [.int .i64 k] 3)]):=by
 refine aw.ao Tryz.func163 Tryz.ntmps163 fun G F R hE=>?_
 refine aN rfl ?_
 refine bC zr zr bq ?_
 intro b1
 refine bC zr zr bq ?_
 intro b2
 refine go ?_
 refine ad hE Tryz.func163 zr zr ⟨b1,b2,rfl,rfl⟩
theorem tD{b:List UInt8}{k:Int}{ls:List Dg}(h:gN b k=some ls):1≤ls.length∧ls.length≤1024:=by
 unfold gN at h
 split at h
 ·rename_i hr
  cases h
  simp only[bY,decide_eq_true_eq]at hr
  obtain⟨k,rfl⟩:∃m:Nat,k=m:=⟨k.toNat,aj⟩
  rw[List.length_map,Int.toNat_natCast,tu k aj]
  have h2:=hr.2.2.2.2
  have h3:((b.length:Int)+(k:Int)-1)/(k:Int)=(((b.length+k-1)/k:Nat):Int):=by
   grind
  rw[h3]at h2
  have h4:1≤(b.length+k-1)/k:=by rw[Nat.le_div_iff_mul_le aj];omega
  omega
 ·cases h
def xd(A:HP)(hK:lL A)(v:Value)(b:List UInt8)(hv:fb A v b)(hl:b.length≤9223372036854775807)(k:Int) :
  aw Tryz.prog 92 [v,.int .i64 k] [A] (fun r H=>(gN b k=none∧r = .tuple #[.slice none 0 0,.int .i64 1]∧H=[A])∨∃ls rv,gN b k=some ls∧r = .tuple #[rv,.int .i64 0]∧H=[aH 35 32 rv ls.length (ls.flatMap dC),A]):=by
 obtain⟨a,c,rfl,hc⟩:=hv.2
 refine aw.ao Tryz.func92 Tryz.ntmps92 fun G F R hE=>?_
 ((refine go ?_;(refine az (mH ⟨Dg.zero,b.length,k,Dg.zero⟩) ?_)))
 rintro _ _⟨rfl,rfl⟩
 cases hr:bY ⟨Dg.zero,b.length,k,Dg.zero⟩with
 | false =>
  have hn:gN b k=none:=by unfold gN;rw[if_neg (by rw[hr];simp)]
  refine go ?_
  refine ad hE Tryz.func92 zr zr (.inl ⟨hn,rfl,rfl⟩)
 | true =>
  have hs:gN b k=some ((gL k.toNat b.length b).map fA):=by unfold gN;rw[if_pos hr]
  have Ku:=tD hs
  simp only[bY,decide_eq_true_eq]at hr
  obtain⟨k,rfl⟩:∃m:Nat,k=m:=⟨k.toNat,aj⟩
  rw[Int.toNat_natCast]at hs Ku
  refine go ?_
  refine az (E5 a b.length c (k:Int)) ?_
  rintro _ _⟨b1,b2,rfl,rfl⟩
  refine go ?_
  refine az (rQ 277 [ptr b1,ptr b2] _ [ag b1 (cl [.slice a b.length c] 37),ag b2 (cl [.int .i64 (k:Int)] 3),A] [A] aj (Cp A hK b1 b2 _ b hv aj k aj aj)) ?_
  rintro rv _ rfl
  refine go ?_
  refine ad hE Tryz.func92 zr zr (.inr ⟨_,_,hs,rfl,rfl⟩)
def NP{P:Program}{f:FuncId}{n:Nat}{R:Ending→World→Prop}{G:cg}{k:List Item}{L:eC}{H:List HP}{S:World→Prop}{all:Array Oper}{rest:Pl}{e:TypeId}{sz nn:Nat}{v:Value}{cs:List Value}{A:HP}(h:Vw (aH e sz v nn cs) v nn cs→J P f n R G S all rest k L (Sep [aH e sz v nn cs,A]::H)):J P f n R G S all rest k L (aH e sz v nn cs::A::H) :=
 xk fun w hw=>by
  obtain⟨h1,_,hA⟩:=hw.jM (i:=0) rfl
  exact aR (ak.bT [_,_] _) (h (Vw.lV e sz v nn cs ⟨h1,hA⟩))
theorem N5(A:HP)(hK:lL A)(v:Value)(b:List UInt8)(hv:fb A v b)(hl:b.length≤9223372036854775807)(k:Int) :
  aw Tryz.prog 91 [v,.int .i64 k] [A] (fun r H=>r=(match gl b k with
   | none => .tuple #[l7 Bl.zero,.int .i64 1]
   | some x => .tuple #[l7 x,.int .i64 0])∧H=[A]):=by
 have vS:=hv
 obtain⟨a,c,rfl,hc⟩:=hv.2
 refine aw.ao Tryz.func91 Tryz.ntmps91 fun G F R hE=>?_
 refine aN rfl ?_
 refine aB zr zr zr bq ?_
 intro b4
 refine go ?_
 refine az (xd A hK _ b hv hl k) ?_
 rintro _ _ (⟨hn,rfl,rfl⟩|⟨ls,rv,hs,rfl,rfl⟩)
 ·have hb:gl b k=none:=by unfold gl;rw[hn];rfl
  rw[hb]at hE
  refine go ?_
  (refine bh hE ?_;apply a7 (U:=aY) hE Tryz.func91 rfl (ak.refl _);(repeat(first|exact aT.nil|apply aT.tmp rfl|apply aT.agg 1 zr zr zr zr zr));exact⟨rfl,rfl⟩;exact ah)
 ·have hb:gl b k=some ⟨ff b,b.length,k,BQ ls⟩:=by unfold gl;rw[hs];rfl
  rw[hb]at hE
  have Ku:=tD hs
  have yZ:b.length≤1048576:=by
   grind [gN,bY]
  refine aM 0 rfl ?_
  rintro ra rc rfl
  refine go ?_
  refine aF (uI A hK _ b hv aj) ?_
  refine go ?_
  refine aR (ak.pick [1,0] rfl) ?_
  refine NP fun dt=>?_
  ((refine az (Nu _ (hK.mono (bz (i:=1) rfl)) _ ls (dt.mono (bz (i:=0) rfl)) aj (by intro e;rw[e]at Ku;simp at Ku)) ?_))
  rintro _ _⟨rfl,rfl⟩
  refine aR (ak.cL _ _) (go ?_)
  (refine bh hE ?_;apply a7 (U:=aY) hE Tryz.func91 rfl (ak.refl _);(repeat(first|exact aT.nil|apply aT.tmp rfl|apply aT.agg 2 zr zr zr zr zr));exact⟨rfl,rfl⟩;exact ah)
def aaT(x:Bl):((dN x).drop 0).take 32=dC x.d:=rfl
def P3(x:Bl):((dN x).drop 34).take 32=dC x.root:=rfl
def adY(x:Bl):(dN x).toArray[32]?=some (.int .i64 x.size):=rfl
def adX(x:Bl):(dN x).toArray[33]?=some (.int .i64 x.piece):=rfl
def aaX : Tryz.prog.fieldsOf 182 = #[{ name := "Digest", type := 35, offset := 0, embedded := false, tag := "", pkgPath := "", byteOffset := 0 },
        { name := "Size", type:=3,offset:=32,embedded:=false,tag := "", pkgPath := "", byteOffset:=32 },
        { name := "Piece", type:=3,offset:=33,embedded:=false,tag := "", pkgPath := "", byteOffset:=40 },
        { name := "Root", type:=35,offset:=34,embedded:=false,tag := "", pkgPath := "", byteOffset:=48 }]:=by kernel_rfl
def aaW:Tryz.prog.underlying 182=some (.struct (Tryz.prog.fieldsOf 182)):=by kernel_rfl
def P5:Tryz.prog.stoodInHeld 182=false:=by kernel_rfl
def afG:Tryz.prog.cellsOf 35=32:=by kernel_rfl
def aaU:Tryz.prog.cellsOf 5=1:=by kernel_rfl
def afF:Tryz.prog.plainKey 3=true:=by kernel_rfl
def afC:Tryz.prog.eqGuardType Tryz.prog.depth 182=false:=by kernel_rfl
def adS{P : Program}(h1 : P.fieldsOf 182 = #[{ name := "Digest", type := 35, offset := 0, embedded := false, tag := "", pkgPath := "", byteOffset := 0 },
        { name := "Size", type:=3,offset:=32,embedded:=false,tag := "", pkgPath := "", byteOffset:=32 },
        { name := "Piece", type:=3,offset:=33,embedded:=false,tag := "", pkgPath := "", byteOffset:=40 },
        { name := "Root", type:=35,offset:=34,embedded:=false,tag := "", pkgPath := "", byteOffset:=48 }])(h2:P.underlying 182=some (.struct (P.fieldsOf 182)))(h3:P.stoodInHeld 182=false)(h4:P.cellsOf 35=32)(h5:P.cellsOf 5=1)(h6:P.plainKey 3=true)(h7:P.underlying 35=some (.array 32 5))(h8:P.underlying 5=some (.int .u8))(h9:P.underlying 3=some (.int .i64))(x y:Bl)(D:Nat)(w:World) :
    (Op.equalIn (D+2+1) 182 (l7 x) (l7 y)).run P w = .ok (decide (x=y)) w:=by
  unfold l7
  rw[run_equalIn_struct w (D+2) 182 _ _ h2 h3,h1]
  have h:=xH (P:=P) (td:=35) (ti:=3) (f1:={ name := "Digest", type:=35,offset:=0,embedded:=false,tag := "", pkgPath := "", byteOffset:=0 })
    (f2:={ name := "Size", type:=3,offset:=32,embedded:=false,tag := "", pkgPath := "", byteOffset:=32 }) (f3:={ name := "Piece", type:=3,offset:=33,embedded:=false,tag := "", pkgPath := "", byteOffset:=40 })
    (f4:={ name := "Root", type:=35,offset:=34,embedded:=false,tag := "", pkgPath := "", byteOffset:=48 }) (by decide) (by decide) (by decide) (by decide) (D+2) w (dN x) (dN y) x.d y.d x.root y.root x.size y.size x.piece y.piece
    (fun a b=>p7 h7 h8 h5 a b D w) (fun a b=>Ie h9 a b (D+1) w) zr zr zr zr
    (uy h7 h4 _ 0 _ (aaT x) w) (uy h7 h4 _ 0 _ (aaT y) w) (Go.run_part_plain w h6 (adY x)) (Go.run_part_plain w h6 (adY y)) (Go.run_part_plain w h6 (adX x)) (Go.run_part_plain w h6 (adX y)) (uy h7 h4 _ 34 _ (P3 x) w) (uy h7 h4 _ 34 _ (P3 y) w)
  refine Eq.trans h ?_
  congr 1
  rw[decide_eq_decide]
  obtain⟨d1,s1,p1,r1⟩:=x
  obtain⟨d2,s2,p2,r2⟩:=y
  simp
def afD(x y:Bl)(w:World):(Op.equal 182 (l7 x) (l7 y)).run Tryz.prog w = .ok (decide (x=y)) w :=
 adS aaX aaW P5 afG aaU afF Tryz.underlying35 Tryz.underlying5 Tryz.underlying3 x y 9997 w
end Go.Proofs.YtjpboghdolfekaaGreatDoor
namespace Go.Proofs.YtjpboghdolfekaaGreatDoor
open Go Go.SL
attribute [local irreducible] J K aw Ends ag aH au bE aW aJ a6 aZ bI
def oY{P:Program}{f:FuncId}{n:Nat}{R:Ending→World→Prop}{G:cg}{k:List Item}{L:eC}{H:List HP}{e:TypeId}{sz nn c:Nat}{a:Option Addr}{cs:List Value}(i:Nat)(hi:bU H i=some (aH e sz (.slice a nn c) nn cs))(h:nn≤c→K P f n R G k L H):K P f n R G k L H :=
 oZ fun⟨w,hw⟩=>by
  obtain⟨h1,_,hA⟩:=hw.jM hi
  exact h (Gz hA)
theorem lQ(X:HP)(v:Value)(l:List It)(hv:rN X v l)(hl:l.length≤100)(hr:eP 0 (l.map It.p)=true)(hs:(eA (l.map It.p)).length≤65536) :
    aw Tryz.prog 158 [v] [X] (fun r H=>∃rv,r = .tuple #[rv,.int .i64 0]∧H=[aH 5 1 rv (eA (l.map It.p)).length (bV (eA (l.map It.p))),X]):=by
  obtain⟨dt,hvb⟩:=hv
  obtain⟨a,c,rfl⟩:=dt.shape
  refine aw.ao Tryz.func158 Tryz.ntmps158 fun G F R hE=>?_
  refine go ?_
  refine ai (bp 5 1 none _) ?_
  refine bj (fun y:Nat × List UInt8 × Option Addr × Nat=>y.1≤l.length∧y.2.1=eA ((l.map It.p).take y.1)) (fun y=>l.length-y.1)
    (fun y=>[(4,.slice y.2.2.1 y.2.1.length y.2.2.2),(5,.int .i64 (nP (l.map It.p) y.1)),(8,.slice a l.length c),(9,.int .i64 (l.length:Int)),(10,.int .i64 (y.1:Int))])
    (fun y=>aH 5 1 (.slice y.2.2.1 y.2.1.length y.2.2.2) y.2.1.length (bV y.2.1)::X::F) (0,[],none,0) ⟨Nat.zero_le _,rfl⟩ rfl bO ah ?_
  rintro⟨i,acc,a1,c1⟩⟨hi,gP⟩ ih
  simp only at hi gP
  have hal:=yK (l.map It.p) i
  refine go ?_
  refine aD zr zr ?_ ?_
  case' refine_2 =>
    intro eN
    have fR:acc=eA (l.map It.p):=by rw[gP,List.take_of_length_le (by rw[List.length_map];omega)]
    subst fR
    refine go ?_
    refine ad hE Tryz.func158 zr zr ⟨_,rfl,rfl⟩
  intro cB
  have dP:i<l.length:=by omega
  obtain⟨x,hx⟩:∃x,l[i]?=some x:=⟨l[i],by simp⟩
  have Ob:(l.map It.p)[i]?=some x.p:=by rw[List.getElem?_map,hx];rfl
  obtain⟨Ao,An⟩:=Lg _ 0 i x.p hr Ob
  have Ao:nP (l.map It.p) i<x.n:=Ao
  have An:x.n≤63:=An
  have qZ:=vM Ob
  have tM:=hvb x (List.mem_of_getElem? hx)
  obtain⟨xn,xv,xb⟩:=x
  simp only at Ao An tM
  obtain⟨xa,xc,rfl,hxc⟩:=tM.2
  have ht:eA ((l.map It.p).take (i+1))=acc++ly (xn,xb):=by
    rw[List.take_add_one,Ob,Option.toList_some,BV,← gP];simp[eA,It.p]
  have afz:=yK (l.map It.p) (i+1)
  rw[ht,List.length_append]at afz
  have I9:(ly (xn,xb)).length=1+(uv xb.length).length+xb.length:=by simp only[ly,List.length_cons,List.length_append];omega
  obtain⟨b,o,c',he⟩:=dt.some (by rw[← List.length_pos_iff,bt ij];omega)
  obtain⟨rfl,rfl⟩:=he
  refine go ?_
  refine bM i 2 zr zr zr zr zr zr zr zr dP ?_
  refine bZ (U:=aY) (es:=kf ⟨xn,.slice xa xb.length xc,xb⟩) 1 (i*2) zr zr zr dt rfl (fun j v hj=>?_) zr zr zr ?_
  · have y3:j<2:=by
      grind [ij]
    rw[cd ij hx j y3];exact hj
  refine aB zr zr zr bq ?_
  intro bd
  repeat'(first|(with_reducible intro kQ)|refine eK ?_|refine ew zr zr zr zr ?_ ?_|refine aD zr zr ?_ ?_)
  any_goals (exfalso;simp only at *;omega)
  rename_i h1 h2 h3
  obtain⟨xm,rfl⟩:∃m:Nat,xn=m:=⟨xn.toNat,by
    have:0<xn:=Le _ 0 hr (Int.le_refl _) _ (List.mem_of_getElem? Ob)
    omega⟩
  refine go ?_
  refine aO (fun w=>Sat G w ([X,ag bd (cl [.int .i64 (xm:Int),.slice xa xb.length xc] 247)])) (cM 0 3 (cM 5 4 (.st 11 (.st 12 (.act 3 (.act 4 (.act 9 (.act 10 (.act 13 (.st 14 .nil)))))))))) rfl ae ae ae dv ?_
  refine DA (U:=aY) rfl ?_
  refine ib ?_
  refine kr zr zr zr zr zr zr ?_
  refine aC 36 ((u8 (UInt8.ofNat xm))) rfl ((nz xm)) (go ?_)
  refine aq (cs:=bV [UInt8.ofNat xm]) zr zr zr zr zr zr zr zr zr (fun _ w hw=>hw.cp ah) ?_
  intro row
  refine go ?_
  refine aU (mm:=1) (news:=bV [UInt8.ofNat xm]) 2 0 zr zr zr zr zr zr zr zr zr zr zr zr (Vw.ag rfl) rfl (dL _) aj (by show(_+_)*1≤_;simp only;omega) (fun _=>rfl) (fun _ w hw=>hw.cp ah) ?_
  intro v1
  rw[show bV acc++bV [UInt8.ofNat xm]=bV (acc++[UInt8.ofNat xm])from by simp[bV],show acc.length+1=(acc++[UInt8.ofNat xm]).length from by simp]
  refine aM 2 rfl ?_
  rintro a2 c2 rfl
  refine go ?_
  refine cP (kR xb.length aj) ?_
  rintro r _ rfl
  refine aM 0 rfl ?_
  rintro ra rc rfl
  refine eL 0 rfl ?_
  intro hbr
  refine go ?_
  refine aU (mm:=(uv xb.length).length) (news:=bV (uv xb.length)) 3 0 zr zr zr zr zr zr zr zr zr zr zr zr hbr (by show _=_*1;rw[bK];omega) (dL _) (by simp only[List.length_append,List.length_singleton];omega) (by show(_+_)*1≤_;simp only[List.length_append,List.length_singleton];omega) (fun _=>rfl) (fun _ w hw=>hw.cp ah) ?_
  intro v2
  rw[show bV (acc++[UInt8.ofNat xm])++bV (uv xb.length)=bV (acc++[UInt8.ofNat xm]++uv xb.length)from by simp[bV],show(acc++[UInt8.ofNat xm]).length+(uv xb.length).length=(acc++[UInt8.ofNat xm]++uv xb.length).length from by simp;omega]
  refine aM 3 rfl ?_
  rintro a3 c3 rfl
  refine go ?_
  refine aU (mm:=xb.length) (news:=bV xb) 3 4 zr zr zr zr zr zr zr zr zr zr zr zr tM.1 (by show _=_*1;rw[bK];omega) (dL _) (by simp only[List.length_append,List.length_singleton];omega) (by show(_+_)*1≤_;simp only[List.length_append,List.length_singleton];omega) (fun _=>rfl) (fun _ w hw=>hw.cp ah) ?_
  intro v3
  rw[show bV (acc++[UInt8.ofNat xm]++uv xb.length)++bV xb=bV (acc++ly (xm,xb))from by simp[bV,ly],show(acc++[UInt8.ofNat xm]++uv xb.length).length+xb.length=(acc++ly (xm,xb)).length from by simp[ly];omega]
  refine aM 3 rfl ?_
  rintro a4 c4 rfl
  refine go ?_
  refine aD zr zr ?_ ?_
  · grind
  intro _
  refine go ?_
  refine aQ 5 ((.int .i64 (nP (l.map It.p) (i+1)))) rfl ((congrArg (Value.int .i64) qZ.symm)) ?_
  refine aK ih (i+1,acc++ly (xm,xb),a4,c4) rfl ⟨by simp only;omega,by simp only;rw[ht]⟩ aj bO ah
def IU(v:Value)(h1:∃a n c,v = .slice a n c):aw Tryz.prog 215 [v] [] (fun r H=>∃b,r = .func (.func 326) #[] #[ptr b]∧H=[ag b (cl [v] 37)]):=by
 obtain⟨a,n,c,rfl⟩:=h1
 refine aw.ao Tryz.func215 Tryz.ntmps215 fun G F R hE=>?_
 refine go ?_
 refine bC zr zr bq ?_
 intro b
 refine go ?_
 refine ad hE Tryz.func215 zr zr ⟨b,rfl,rfl⟩
theorem E7(A:HP)(bx:Nat)(v:Value)(bs:List UInt8)(hv:fb A v bs)(hl:bs.length≤1000000000)(l:Nat)(Lp LpD aeb:HP)(Inv:Nat→HP)(wi:Nat→Bool)(hy:∀i x,(dY bs)[i]?=some x→(∀j,j<i→wi j=true)→∀r,(∃a n c,r = .slice a n c)→bI Tryz.prog l [.agg #[.int .i64 x.1,r] ] [Lp,Inv i,aH 5 1 r x.2.length (bV x.2)]
      (fun v H=>(wi i=true∧v = .bool true∧H=[Lp,Inv (i+1)])∨(wi i=false∧v = .bool false∧H=[LpD,aeb]))) :
    aw Tryz.prog 326 [.func (.yield l) #[] #[],ptr bx] [Lp,Inv 0,ag bx (cl [v] 37),A]
      (fun _ H=>((∀i,i<(dY bs).length→wi i=true)∧H=[Lp,Inv (dY bs).length,A])∨((∃i,i<(dY bs).length∧wi i=false)∧H=[LpD,aeb,A])):=by
  refine aw.ao Tryz.func326 Tryz.ntmps326 fun G F R hE=>?_
  refine bj (fun y:Value × List UInt8 × Nat=>fb A y.1 y.2.1∧y.2.1.length≤bs.length∧(dY bs).drop y.2.2=dY y.2.1∧y.2.2≤(dY bs).length∧∀j,j<y.2.2→wi j=true) (fun y=>y.2.1.length)
    (fun _=>[(0,.func (.yield l) #[] #[]),(1,ptr bx)])
    (fun y=>Lp::Inv y.2.2::ag bx (cl [y.1] 37)::A::F) (v,bs,0) ⟨hv,Nat.le_refl _,by simp,Nat.zero_le _,fun j hj=>absurd hj (Nat.not_lt_zero j)⟩ rfl bO ah ?_
  rintro⟨v1,rest,i⟩⟨k6,Ao,An,hr3,hgd⟩ ih
  simp only at k6 Ao An hr3 hgd
  obtain⟨a,c,rfl,hc⟩:=k6.2
  refine go ?_
  match rest,An,k6,Ao,hc,ih with
  | [],An,k6,Ao,hc,ih =>
    have jW:i=(dY bs).length:=by
      rw[uU]at An
      have:(dY bs).length≤i:=by simpa using An
      omega
    subst jW
    refine go ?_
    refine bB hE Tryz.func326 rfl _ rfl (.inl ⟨hgd,rfl⟩) ah
  | c0::rst,An,k6,Ao,hc,ih =>
    have lg:=k6.cut 1 (by simp)
    rw[List.drop_succ_cons,List.drop_zero]at lg
    ((refine aQ 8 ((.bool true)) rfl ((congrArg Value.bool (decide_eq_true (by simp only[List.length_cons];omega)))) ?_))
    refine go ?_
    refine bo (p:=1) (q:=((c0::rst).length:Int)) zr zr zr zr zr zr zr aj (by simp only[List.length_cons];omega) (.inl rfl) ?_
    ((refine aC 11 ((.slice (sliceAt a c 1 1) rst.length (c-1))) rfl ((by rw[show((c0::rst).length:Int).toNat=rst.length+1 from by simp[List.length_cons],show(1:Int).toNat=1 from rfl,show rst.length+1-1=rst.length by omega];rfl)) ?_))
    ((refine az (Hn A _ rst lg.1 lg.2 (by simp only[List.length_cons]at Ao;omega)) ?_))
    rintro _ _⟨rv,rfl,Of,rfl⟩
    have Of:fb A rv (cQ rst).2.1:=Of
    have jF:=oT rst
    have E8:rst.length<1000000000:=by simp only[List.length_cons]at Ao;omega
    have Fg:∀x,dY (c0::rst)=x::dY ((cQ rst).2.1.drop (cQ rst).1)∨dY (c0::rst)=[x]→(dY bs)[i]?=some x:=by
      intro x hx
      have:=congrArg (fun l=>l[0]?) An
      grind
    obtain⟨ra,rc,rfl,Og⟩:=Of.2
    by_cases mL:(cQ rst).2.2=true∧(cQ rst).1≤(cQ rst).2.1.length
    · have CM:=yv (c:=c0) mL
      have hx:=Fg _ (.inl CM)
      rw[mL.1]
      have Hc:=Of.front (cQ rst).1 mL.2
      have xV:=Of.cut (cQ rst).1 mL.2
      have k9:=(List.getElem?_eq_some_iff.1 hx).1
      refine go ?_
      refine aD zr zr ?_ ?_
      · intro Au;exfalso;omega
      intro _
      have nv:0<(c0::rst).length:=by simp only[List.length_cons];omega
      obtain⟨ba,oa,ca,eR⟩:=Nc k6.1 nv
      simp only[Value.slice.injEq,true_and]at eR
      obtain⟨rfl,rfl⟩:=eR
      obtain⟨n,hn⟩:∃n,n=(cQ rst).1:=⟨_,rfl⟩
      have Cu:((cQ rst).2.1.take n).length=n:=by rw[hn,List.length_take];omega
      rw[← hn]at Hc xV CM hx mL ⊢
      have QY:c0.toNat<256:=c0.toNat_lt
      have G9:=mL.2
      have af9:rst.length+1≤bs.length:=Ao
      refine aO (fun w=>Sat G w ([A,ag bx (cl [.slice (some ⟨ba,oa,none⟩) (c0::rst).length c] 37)])) (cM 0 8 (.act 8 (.st 9 (.act 10 (.st 11 .nil))))) rfl ae ae ae dv ?_
      refine go ?_
      refine bD 0 zr zr zr zr zr zr zr zr nv (go ?_)
      refine aS ?_
      refine cV 0 0 zr zr zr k6.1 rfl (show(bV (c0::rst))[0]?=some (u8 c0)from rfl) zr zr (go ?_)
      refine bo (p:=0) (q:=(n:Int)) zr zr zr zr zr zr zr aj aj (.inr aj) ?_
      ((refine aC 35 ((.slice (sliceAt ra rc 0 1) ((cQ rst).2.1.take n).length rc)) rfl ((by rw[Cu,show((n:Int)).toNat=n from by omega];rfl)) ?_))
      have Hc:fb A (.slice (sliceAt ra rc 0 1) ((cQ rst).2.1.take n).length rc) ((cQ rst).2.1.take n):=by rw[Cu];exact Hc
      refine cP (gI A _ ((cQ rst).2.1.take n) Hc.1 aj) ?_
      rintro r _ rfl
      refine aM 0 rfl ?_
      rintro rr rrc rfl
      refine go ?_
      refine gQ rfl rfl rfl (hy i _ hx hgd (.slice rr ((cQ rst).2.1.take n).length rrc) ⟨_,_,_,rfl⟩) ah ?_ (fun _ _ w hp hw=>by rcases hp with⟨_,_,rfl⟩|⟨_,_,rfl⟩ <;> exact hw.cp ah)
      rintro _ _ (⟨hg,rfl,rfl⟩|⟨hg,rfl,rfl⟩)
      · refine go ?_
        refine bo (p:=(n:Int)) (q:=((cQ rst).2.1.length:Int)) zr zr zr zr zr zr zr aj aj (.inl rfl) ?_
        ((refine aC 42 ((.slice (sliceAt ra rc n 1) ((cQ rst).2.1.length-n) (rc-n))) rfl ((by rw[show((n:Int)).toNat=n from by omega,show(((cQ rst).2.1.length:Int)).toNat=(cQ rst).2.1.length from by omega];rfl)) ?_))
        refine go ?_
        have ug:(dY bs).drop (i+1)=dY ((cQ rst).2.1.drop n):=by
          have:=congrArg (fun l=>l.drop 1) An
          simp only[List.drop_drop]at this
          grind
        refine aK ih (.slice (sliceAt ra rc n 1) ((cQ rst).2.1.length-n) (rc-n),(cQ rst).2.1.drop n,i+1) rfl (⟨xV,by simp only[List.length_drop];omega,ug,by simp only;omega,fun j hj=>by
          rcases Nat.lt_or_ge j i with h|h
          · exact hgd j h
          · rw[show j=i by simp only at hj;omega];exact hg⟩) (by simp only[List.length_drop,List.length_cons];omega) bO ah
      · refine go ?_
        refine ad hE Tryz.func326 zr zr (.inr ⟨⟨i,k9,hg⟩,rfl⟩)
    · have jC:=Bv (c:=c0) mL
      have hx:=Fg _ (.inr jC)
      cases aeY:(cQ rst).2.2 with
      | false =>
        refine go ?_
        refine aR (bp 5 1 none _) ?_
        refine gQ zr zr zr (hy i (0,[]) hx hgd (.slice none 0 0) ⟨_,_,_,rfl⟩) ah ?_ iM
        rintro _ _ (⟨hg,rfl,rfl⟩|⟨hg,rfl,rfl⟩)
        · refine go ?_
          have jW:i+1=(dY bs).length:=by
            have:=congrArg List.length An
            grind
          rw[jW]
          have eY:∀j,j<(dY bs).length→wi j=true:=fun j hj=>by
            grind
          refine ad hE Tryz.func326 zr zr (.inl ⟨eY,rfl⟩)
        · refine go ?_
          have k9:=(List.getElem?_eq_some_iff.1 hx).1
          refine ad hE Tryz.func326 zr zr (.inr ⟨⟨i,k9,hg⟩,rfl⟩)
      | true =>
        have Kx:¬(cQ rst).1≤(cQ rst).2.1.length:=fun h=>mL ⟨aeY,h⟩
        refine go ?_
        refine aD zr zr ?_ ?_
        case' refine_2=>(intro h;exfalso;omega)
        intro _
        refine go ?_
        refine aR (bp 5 1 none _) ?_
        refine gQ zr zr zr (hy i (0,[]) hx hgd (.slice none 0 0) ⟨_,_,_,rfl⟩) ah ?_ iM
        rintro _ _ (⟨hg,rfl,rfl⟩|⟨hg,rfl,rfl⟩)
        · refine go ?_
          have jW:i+1=(dY bs).length:=by
            have:=congrArg List.length An
            grind
          rw[jW]
          have eY:∀j,j<(dY bs).length→wi j=true:=fun j hj=>by
            grind
          refine ad hE Tryz.func326 zr zr (.inl ⟨eY,rfl⟩)
        · refine go ?_
          have k9:=(List.getElem?_eq_some_iff.1 hx).1
          refine ad hE Tryz.func326 zr zr (.inr ⟨⟨i,k9,hg⟩,rfl⟩)
end Go.Proofs.YtjpboghdolfekaaGreatDoor
namespace Go.Proofs.YtjpboghdolfekaaGreatDoor
open Go Go.SL
def DI(b2 b3 b4 b5:Nat)(xs:List (Int × List UInt8))(i:Nat):HP:=fun h=>∃x:List It × HP × Value,(x.1.map It.p=xs.take i∧∀y∈x.1,fb x.2.1 y.v y.b) ∧
 Sep [ag b2 (cl [.slice none 0 0] 243),ag b3 (cl [.int .i64 0] 26),ag b4 (cl [x.2.2] 243),ag b5 (cl [.int .i64 (nP xs i)] 3),aH 247 2 x.2.2 x.1.length (x.1.flatMap kf),x.2.1] h
def HO(b2 b3 b4 b5:Nat)(xs:List (Int × List UInt8))(i:Nat):∀h,DI b2 b3 b4 b5 xs i h→∃x:List It × HP × Value,(x.1.map It.p=xs.take i∧∀y∈x.1,fb x.2.1 y.v y.b) ∧
 Sep [ag b2 (cl [.slice none 0 0] 243),ag b3 (cl [.int .i64 0] 26),ag b4 (cl [x.2.2] 243),ag b5 (cl [.int .i64 (nP xs i)] 3),aH 247 2 x.2.2 x.1.length (x.1.flatMap kf),x.2.1] h:=fun h hs=>hs
def DH(b2 b3 b4 b5:Nat)(xs:List (Int × List UInt8))(i:Nat)(eJ:List It)(Z:HP)(v:Value)(h1:eJ.map It.p=xs.take i)(h2:∀y∈eJ,fb Z y.v y.b)(H:List HP) :
  ak (ag b2 (cl [.slice none 0 0] 243)::ag b3 (cl [.int .i64 0] 26)::ag b4 (cl [v] 243)::ag b5 (cl [.int .i64 (nP xs i)] 3)::aH 247 2 v eJ.length (eJ.flatMap kf)::Z::H) (DI b2 b3 b4 b5 xs i::H) :=
 ak.fold (A:=DI b2 b3 b4 b5 xs i) (B:=[ag b2 (cl [.slice none 0 0] 243),ag b3 (cl [.int .i64 0] 26),ag b4 (cl [v] 243),ag b5 (cl [.int .i64 (nP xs i)] 3),aH 247 2 v eJ.length (eJ.flatMap kf),Z]) fun h hs=>⟨h,sub.refl h,(eJ,Z,v),⟨h1,h2⟩,hs⟩
def DE(b2 b3:Nat):HP:=Sep [ag b2 (cl [.slice none 0 0] 243),ag b3 (cl [.int .i64 2] 26)]
def DJ(b2 b3:Nat)(H:List HP):ak (ag b2 (cl [.slice none 0 0] 243)::ag b3 (cl [.int .i64 2] 26)::H) (DE b2 b3::H):=ak.bT [ag b2 (cl [.slice none 0 0] 243),ag b3 (cl [.int .i64 2] 26)] H
def Qj(b2 b3:Nat)(H:List HP):ak (DE b2 b3::H) (ag b2 (cl [.slice none 0 0] 243)::ag b3 (cl [.int .i64 2] 26)::H):=ak.cL [ag b2 (cl [.slice none 0 0] 243),ag b3 (cl [.int .i64 2] 26)] H
attribute [local irreducible] J K aw Ends ag aH au bE aW aJ a6 aZ bI DI DE
theorem lR(A:HP)(v:Value)(bs:List UInt8)(hv:fb A v bs)(hl:bs.length≤1000000000) :
  aw Tryz.prog 124 [v] [A] (fun r H=>(pB bs=none∧r = .tuple #[.slice none 0 0,.int .i64 2]∧H=[A])∨(∃(xs:List (Int × List UInt8)) (eJ:List It) (Z:HP) (rv:Value),pB bs=some xs∧eJ.map It.p=xs∧rN Z rv eJ∧r = .tuple #[rv,.int .i64 0]∧H=[Z,A]∧∃ra rc,rv = .slice ra eJ.length rc∧eJ.length≤rc)):=by
 obtain⟨a,c,rfl,hc⟩:=hv.2
 have xQ:pB bs=if 65536<bs.length then none else if eP 0 (dY bs)then some (dY bs)else none:=rfl
 refine aw.ao Tryz.func124 Tryz.ntmps124 fun G F R hE=>?_
 refine aN rfl ?_
 refine aB zr zr zr bq ?_
 intro b2
 refine aB zr zr zr bq ?_
 intro b3
 refine go ?_
 refine aD zr zr ?_ ?_
 ·intro Au
  have Au:65536<bs.length:=by omega
  rw[if_pos Au]at xQ
  refine go ?_
  refine bh hE ?_
  refine qm (U:=aY) 1 0 hE Tryz.func124 zr zr zr zr zr zr zr zr (ak.refl _) zr zr (.inl ⟨xQ,rfl,rfl⟩) ah
 intro nu
 have nu:¬65536<bs.length:=by omega
 rw[if_neg nu]at xQ
 refine go ?_
 refine aB zr zr zr bq ?_
 intro b4
 refine go ?_
 refine aB zr zr zr bq ?_
 intro b5
 refine go ?_
 refine az (IU _ ⟨a,_,c,rfl⟩) ?_
 rintro _ _⟨bx,rfl,rfl⟩
 refine go ?_
 refine gG rfl ?_
 refine ai (ak.trans (ak.bT [] _) (ak.trans (bp 247 2 none _) (ak.trans ah (DH b2 b3 b4 b5 (dY bs) 0 [] (Sep []) (.slice none 0 0) rfl (by simp) (ag bx (cl [.slice a bs.length c] 37)::A::F))))) ?_
 refine o4 (Fr:=F) (Pre:=fun _ _=>[DI b2 b3 b4 b5 (dY bs) 0,ag bx (cl [.slice a bs.length c] 37),A]) (fun _ _ Lp v H=>((∀i,i<(dY bs).length→q9 (dY bs) i=true)∧H=[Lp .ready none,DI b2 b3 b4 b5 (dY bs) (dY bs).length,A])∨((∃i,i<(dY bs).length∧q9 (dY bs) i=false)∧H=[Lp .done (some .ret),DE b2 b3,A])) rfl hE.1.1 rfl ?c (fun l r=>ah) ?fR
 case c =>
  intro l r
  refine aw.pre (E7 A bx _ bs hv hl l _ _ (DE b2 b3) (DI b2 b3 b4 b5 (dY bs)) (q9 (dY bs)) ?hy) ah
  case hy =>
   intro i x hx hgd rv Of
   obtain⟨va,vn,vc,rfl⟩:=Of
   refine bI.Af zr zr ?_
   intro G2 F2 R2 hY
   refine aN rfl ?_
   refine aB zr zr zr bq ?_
   intro b6
   refine go ?_
   refine ai (ak.pick [1] rfl) ?_
   refine er rfl hY ?_
   refine ai (ak.pick [2] rfl) ?_
   refine cG (HO b2 b3 b4 b5 (dY bs) i) ?_
   rintro⟨eJ,Z,vi⟩⟨qf,uD⟩
   have ML:=wg hx
   obtain⟨xn,xb⟩:=x
   have Ku:=vM hx
   refine cU 4 rfl ?_
   intro ia ic hvi
   simp only at hvi
   simp only
   refine ai (ak.pick [7,0,1,2,3] rfl) ?_
   repeat'(first|(with_reducible intro kQ)|refine eK ?_|refine ew zr zr zr zr ?_ ?_|refine aD zr zr ?_ ?_)
   ·have jC:q9 (dY bs) i=false:=by rw[ML,decide_eq_false aj,Bool.false_and]
    refine ai (ak.trans (ak.pick [1,2] rfl) (DJ b2 b3 _)) ?_
    refine xg hY rfl ah (.inr ⟨jC,rfl,rfl⟩)
   ·have jC:q9 (dY bs) i=false:=by rw[ML,decide_eq_false (show ¬xn≤63 by omega),Bool.and_false]
    refine ai (ak.trans (ak.pick [1,2] rfl) (DJ b2 b3 _)) ?_
    refine xg hY rfl ah (.inr ⟨jC,rfl,rfl⟩)
   ·have q4:q9 (dY bs) i=true:=by rw[ML,decide_eq_true aj,decide_eq_true aj];rfl
    refine aX ?_
    refine bG 4 fE zr zr zr zr zr zr zr zr zr (go ?_)
    refine cC 0 zr zr zr zr zr zr (go ?_)
    refine iA (bs:=xb) 8 rfl ?_
    intro tM
    obtain⟨_,_,hvx,hxc⟩:=tM.2
    obtain⟨-,rfl,rfl⟩:=hvx
    have k9:=(List.getElem?_eq_some_iff.1 hx).1
    have Cu:=qB bs.length bs (Nat.le_refl _)
    have adt:eJ.length=i:=by
     have:=congrArg List.length qf
     grind
    refine aq (cs:=kf ⟨xn,.slice va xb.length vc,xb⟩) zr zr zr zr zr zr zr zr zr bq ?_
    intro row
    refine go ?_
    refine aU (mm:=1) (news:=kf ⟨xn,.slice va xb.length vc,xb⟩) 6 0 rfl rfl rfl rfl rfl rfl rfl rfl rfl rfl rfl rfl (Vw.ag rfl) rfl (by intro v hv;simp[kf]at hv;rcases hv with rfl|rfl <;> rfl) aj (by show(_+_)*32≤_;omega) (fun _=>rfl) bq ?_
    intro v1
    rw[show eJ.flatMap kf++kf (⟨xn,.slice va xb.length vc,xb⟩:It)=(eJ++[(⟨xn,.slice va xb.length vc,xb⟩:It)]).flatMap kf from by simp,show eJ.length+1=(eJ++[(⟨xn,.slice va xb.length vc,xb⟩:It)]).length from by simp]
    refine aM 6 rfl ?_
    rintro ja jc rfl
    refine go ?_
    refine aX ?_
    refine bG 4 fE zr zr zr zr zr zr zr zr zr (go ?_)
    have ae9:nP (dY bs) (i+1)=xn:=Ku
    have MH:(eJ++[(⟨xn,.slice va xb.length vc,xb⟩:It)]).map It.p=(dY bs).take (i+1):=by
     rw[List.map_append,qf,List.take_add_one,hx];rfl
    have jF:=DH b2 b3 b4 b5 (dY bs) (i+1) (eJ++[(⟨xn,.slice va xb.length vc,xb⟩:It)]) (Sep [aH 5 1 (.slice va xb.length vc) xb.length (bV xb),Z]) (.slice ja (eJ++[(⟨xn,.slice va xb.length vc,xb⟩:It)]).length jc) MH (fun y hy=>by
     rcases List.mem_append.1 hy with h|h
     ·exact(uD y h).mono (bz (i:=1) rfl)
     ·rw[List.mem_singleton.1 h];exact tM.mono (bz (i:=0) rfl))
    rw[ae9]at jF
    refine ai (ak.trans (ak.pick [9,7] rfl) (ak.trans (ak.bT [_,_] _) (ak.trans ah (jF _)))) ?_
    refine ea hY rfl ah (.inl ⟨q4,rfl,rfl⟩)
 rintro l r v H' (⟨eY,rfl⟩|⟨⟨i,hi,jC⟩,rfl⟩)
 ·refine⟨_,_,_,rfl,by decide,?_⟩
  have hr:eP 0 (dY bs)=true:=(yI _).2 eY
  rw[if_pos hr]at xQ
  rw[hE.1.2]
  refine cG (HO b2 b3 b4 b5 (dY bs) _) ?_
  rintro⟨eJ,Z,vi⟩⟨qf,uD⟩
  rw[List.take_length]at qf
  refine cU 4 rfl ?_
  intro ia ic hvi
  simp only at hvi
  subst hvi
  refine oY 4 rfl ?_
  intro fF
  refine dz 4 rfl ?_
  intro dt
  have Hb:rN (Sep [aH 247 2 (.slice ia eJ.length ic) eJ.length (eJ.flatMap kf),Z]) (.slice ia eJ.length ic) eJ:=⟨dt.mono (bz (i:=0) rfl),fun y hy=>(uD y hy).mono (bz (i:=1) rfl)⟩
  refine go ?_
  refine ai (ak.trans (ak.pick [4,5] rfl) (ak.bT [aH 247 2 (.slice ia eJ.length ic) eJ.length (eJ.flatMap kf),Z] _)) ?_
  refine qm (U:=aY) 1 2 hE Tryz.func124 zr zr zr zr zr zr zr zr ah zr zr (.inr ⟨dY bs,eJ,_,_,xQ,qf,Hb,rfl,rfl,_,_,rfl,fF⟩) ah
 ·refine⟨_,_,_,rfl,by decide,?_⟩
  have hr:¬eP 0 (dY bs)=true:=fun h=>by rw[(yI _).1 h i hi]at jC;cases jC
  rw[if_neg hr]at xQ
  rw[hE.1.2]
  refine ai (Qj b2 b3 _) ?_
  refine qm (U:=aY) 0 1 hE Tryz.func124 zr zr zr zr zr zr zr zr ah zr zr (.inl ⟨xQ,rfl,rfl⟩) ah
end Go.Proofs.YtjpboghdolfekaaGreatDoor
namespace Go.Proofs.YtjpboghdolfekaaGreatDoor
open Go Go.SL
attribute [local irreducible] J K aw Ends ag aH au bE aW aJ a6 aZ bI Sha.chunks Sha.chunk Sha.rounds Sha.sched ff cI GI fA
def Ko:jg Tryz.prog 35 dV:=acM Tryz.underlying35 Tryz.underlying5 aaU
def Qq(l:List Dg):List (Dg × Value):=l.map fun d=>(d,.bool true)
theorem KZ(l:List Dg)(d:Dg):(cF (Qq l) d).getD (.bool false) = .bool (decide (d∈l)):=by
 induction l with
 | nil=>simp[Qq,cF]
 | cons x l ih =>
  grind [Qq,cF]
theorem Ox{l:List Dg}{d:Dg}(h:d ∉ l):gT (Qq l) d (.bool true)=Qq (l++[d]):=by
 grind [gT,Qq]
theorem ys(l:List Bl):ot l=false↔(l.map Bl.d).Nodup:=by
 induction l with
 | nil=>simp[ot]
 | cons x l ih =>
  grind [ot]
theorem uG(l:List Bl):∀v∈l.flatMap dN,v.oneCell'=true:=by
 intro v hv
 obtain⟨x,_,h⟩:=List.mem_flatMap.1 hv
 simp only[dN,List.mem_append,List.mem_cons,List.not_mem_nil,or_false]at h
 rcases h with(h|rfl|rfl)|h
 ·grind [eF,dL]
 ·rfl
 ·rfl
 grind [eF,dL]
def blE{l:List Bl}{i:Nat}{x:Bl}(hx:l[i]?=some x)(q:Nat)(v:Value)(hq:(dN x)[q]?=some v):(l.flatMap dN)[i*66+q]?=some v:=by
 rw[cd AH hx q (by rcases Nat.lt_or_ge q 66 with h|h;exact h;rw[List.getElem?_eq_none (by rw[AH];exact h)]at hq;cases hq)]
 exact hq
def aaV{l:List Bl}{i:Nat}(h:i<l.length):l.flatMap dN≠[]:=by
 rw[← List.length_pos_iff,bt AH];omega
def Bc(A X:HP)(v:Value)(l:List Bl)(hv:Vw A v l.length (l.flatMap dN))(hlen:l.length≤1000000)(g:FuncId)(cap:List Value)(p:Bl→Bool)(hf:∀x∈l,aw Tryz.prog g (l7 x::cap) [X] (fun v H=>v = .bool (p x)∧H=[X])) :
  aw Tryz.prog 258 [v,.func (.func g) #[] cap.toArray] [A,X] (fun r H=>r = .int .i64 (iR p l)∧H=[A,X]):=by
 obtain⟨a,c0,rfl⟩:=hv.shape
 unfold l7 at hf
 refine aw.enter Tryz.func258 ae rfl Tryz.ntmps258 zr zr ?_
 intro G F R hR
 refine go ?_
 refine bj (fun i:Nat=>i≤l.length∧∀y∈l.take i,p y=false) (fun i=>l.length-i) (fun i=>[(0,.slice a l.length c0),(1,.func (.func g) #[] cap.toArray),(7,.int .i64 l.length),(8,.int .i64 i)]) (fun _=>[A,X]++F) 0 ⟨by simp,by simp⟩ rfl bO (ak.refl _) ?_
 rintro i⟨hi,hb⟩ ih
 refine go ?_
 refine aD zr zr ?_ ?_
 ·intro cB
  refine go ?_
  have dP:i<l.length:=by omega
  have hx:l[i]?=some l[i]:=by simp[dP]
  generalize hxx:l[i]=x at hx
  obtain⟨b,o,fX,eR⟩:=hv.some (aaV dP)
  simp only[Value.slice.injEq]at eR
  obtain⟨rfl,_,rfl⟩:=eR
  refine bM i 66 zr zr zr zr zr zr zr zr dP ?_
  refine bZ (U:=aY) (es:=dN x) 0 (i*66) zr zr zr hv rfl (blE hx) zr zr zr ?_
  refine bS [1] zr zr zr zr (hf x (List.mem_of_getElem? hx)) rfl iM ?_
  rintro _ _⟨rfl,rfl⟩
  refine go ?_
  refine ep zr zr ?_ ?_
  ·intro hp
   refine go ?_
   refine aL hR Tryz.func258 rfl _ rfl ⟨by rw[jq hx hp hb];rfl,rfl⟩ (ak.fin [1,0] 0 zr zr)
  ·intro hp
   refine go ?_
   refine aK ih (i+1) rfl ⟨aj,nE hb hx hp⟩ aj bO (ak.pick [1,0] rfl)
 ·intro eN
  refine go ?_
  have:i=l.length:=by omega
  subst this
  refine aL hR Tryz.func258 rfl _ rfl ⟨by rw[ki (fun x hx=>hb x (by simpa using hx))];rfl,rfl⟩ (ak.fin [0,1] 0 zr zr)
def nW(A X:HP)(v:Value)(l:List Bl)(hv:Vw A v l.length (l.flatMap dN))(hlen:l.length≤1000000)(g:FuncId)(cap:List Value)(p:Bl→Bool)(hf:∀x∈l,aw Tryz.prog g (l7 x::cap) [X] (fun v H=>v = .bool (p x)∧H=[X])) :
  aw Tryz.prog 148 [v,.func (.func g) #[] cap.toArray] [A,X] (fun r H=>r = .bool (l.any p)∧H=[A,X]):=by
 refine aw.enter Tryz.func148 ae rfl Tryz.ntmps148 zr zr ?_
 intro G F R hR
 refine go ?_
 refine bS [0,1] zr zr zr zr (Bc A X v l hv hlen g cap p hf) rfl iM ?_
 rintro _ _⟨rfl,rfl⟩
 refine go ?_
 have hb:decide (0≤iR p l)=l.any p:=by
  rw[show decide (0≤iR p l)=decide (¬iR p l<0)from by rw[decide_eq_decide];omega]
  rw[Bool.eq_iff_iff,decide_eq_true_iff,kJ (p:=p) (l:=l),Bool.not_eq_false]
 refine aL hR Tryz.func148 rfl _ rfl ⟨congrArg Value.bool hb,rfl⟩ (ak.fin [0,1] 0 zr zr)
def OQ(x:Bl):aw Tryz.prog 393 [l7 x] [emp] (fun r H=>r = .bool (!bY x)∧H=[emp]):=by
 unfold l7
 refine aw.ao Tryz.func393 Tryz.ntmps393 fun G F R hE=>?_
 refine aN rfl ?_
 refine bC zr zr bq ?_
 intro b1
 refine go ?_
 refine aV (U:=aY) 0 zr zr zr zr zr zr ?_
 refine aF (mH x) ?_
 refine go ?_
 refine ad hE Tryz.func393 zr zr ⟨rfl,rfl⟩
def Kp(v:Value):Value := .agg #[v]
theorem zF(A:HP)(v:Value)(l:List Bl)(hv:Vw A v l.length (l.flatMap dN))(hlen:l.length≤1000000) :
  aw Tryz.prog 259 [Kp v] [A] (fun r H=>r = .int .i64 (df l:Int)∧H=[A]):=by
 obtain⟨a,c,rfl⟩:=hv.shape
 unfold Kp
 refine aw.ao Tryz.func259 Tryz.ntmps259 fun G F R hE=>?_
 refine aN rfl ?_
 refine bC zr zr bq ?_
 intro b1
 refine aR (ak.jO _) ?_
 have h1:(l.length<1∨16<l.length∨l.any (fun x => !bY x)=true)→df l=1:=fun h=>by unfold df;rw[if_pos h]
 have h2:¬(l.length<1∨16<l.length∨l.any (fun x => !bY x)=true)→df l=if ot l then 5 else 0:=fun h=>by unfold df;rw[if_neg h]
 repeat'(first|(with_reducible intro kQ)|refine eK ?_|refine ew zr zr zr zr ?_ ?_|(refine az (nW A emp _ l hv hlen 393 [] (fun x => !bY x) (fun x _=>OQ x)) ?_;rintro _ _⟨rfl,rfl⟩))
 ·rw[h1 (.inl aj)]at hE
  refine ad hE Tryz.func259 zr zr ⟨rfl,rfl⟩
 ·rw[h1 (.inr (.inl aj))]at hE
  refine ad hE Tryz.func259 zr zr ⟨rfl,rfl⟩
 cases nZ:l.any (fun x => !bY x)with
 | true =>
  rw[h1 (.inr (.inr nZ))]at hE
  refine go ?_
  refine ad hE Tryz.func259 zr zr ⟨rfl,rfl⟩
 | false =>
  have h3:=h2 (fun h=>by rcases h with h|h|h;exact absurd h aj;exact absurd h aj;rw[nZ]at h;cases h)
  rw[h3]at hE
  refine go ?_
  refine dA rfl bq ?_
  intro bm
  refine aR (ak.fold (B:=[_]) (A:=au dV bm (Qq [])) (fun h hs=>⟨h,sub.refl h,eX dV bm h (cT hs)⟩)) ?_
  refine go ?_
  refine bj (fun i:Nat=>i≤l.length∧((l.take i).map Bl.d).Nodup) (fun i=>l.length-i)
   (fun i=>[(1,ptr b1),(4,.map (some bm)),(25,.slice a l.length c),(26,.int .i64 (l.length:Int)),(27,.int .i64 (i:Int))])
   (fun i=>au dV bm (Qq ((l.take i).map Bl.d))::A::F) 0 ⟨Nat.zero_le _,by simp⟩ rfl bO ah ?_
  rintro i⟨hi,iJ⟩ ih
  refine go ?_
  refine aD zr zr ?_ ?_
  ·intro cB
   have dP:i<l.length:=by omega
   obtain⟨x,hx⟩:∃x,l[i]?=some x:=⟨l[i],by simp⟩
   obtain⟨b,o,fX,eR⟩:=hv.some (aaV dP)
   simp only[Value.slice.injEq]at eR
   obtain⟨rfl,_,rfl⟩:=eR
   have l6:(l.take (i+1)).map Bl.d=(l.take i).map Bl.d++[x.d]:=by rw[List.take_add_one,hx];simp
   refine go ?_
   refine bM i 66 zr zr zr zr zr zr zr zr dP ?_
   refine aS ?_
   refine bZ (U:=aY) (es:=dN x) 1 (i*66) zr zr zr hv rfl (blE hx) zr zr zr ?_
   refine aB zr zr zr bq ?_
   intro b6
   refine go ?_
   refine cC 0 zr zr zr zr zr zr ?_
   refine kX (key:=x.d) 1 rfl Ko zr zr zr zr zr zr zr zr ?_
   refine aC 34 (.bool (decide (x.d∈(l.take i).map Bl.d))) rfl (KZ _ _) (go ?_)
   refine aD zr zr ?_ ?_
   ·intro Aq
    have htw:ot l=true:=by
     cases h:ot l with
     | true=>rfl
     | false =>
      exfalso
      have hN:=(ys l).1 h
      have cH:((l.take (i+1)).map Bl.d).Nodup:=hN.sublist ((List.take_sublist _ _).map _)
      grind
    rw[htw]at hE
    refine go ?_
    refine ad hE Tryz.func259 zr zr ⟨rfl,rfl⟩
   ·intro Ph
    refine go ?_
    refine cC 0 zr zr zr zr zr zr ?_
    refine du (key:=x.d) 1 Ko fE zr zr zr zr zr zr zr zr ?_
    rw[Ox Ph,← l6]
    refine go ?_
    refine aK ih (i+1) rfl ⟨aj,by rw[l6,List.nodup_append];exact⟨iJ,by simp,fun p hp q hq=>by simp at hq;subst hq;exact fun e=>Ph (e ▸ hp)⟩⟩ aj bO ah
  intro eN
  have tK:i=l.length:=by omega
  subst tK
  rw[List.take_length]at iJ
  rw[(ys l).2 iJ]at hE
  refine go ?_
  refine ad hE Tryz.func259 zr zr ⟨rfl,rfl⟩
def fb.ZS{b o n:Nat}{bs:List UInt8}{l:List Value}{e:TypeId}(hn:bs.length=n)(hl:(l.drop o).take n=bV bs):fb (ag b (cl l e)) (.slice (some ⟨b,o,none⟩) n n) bs:=by
 subst hn
 exact⟨Vw.ag (by rw[bK];exact hl),_,_,rfl,Nat.le_refl _⟩
theorem vP:∀(l:List Bl) (i:Nat) (x:Bl),ix i (l++[x])=ix i l++[(((i+l.length:Nat):Int)+1,eA (dx x))]
 | [],i,x=>by simp[ix]
 | y::l,i,x=>by
  simp only[List.cons_append,ix,vP l (i+1) x,List.length_cons]
  grind
theorem pP:∀(l:List Bl) (i:Nat),(ix i l).length=l.length
 | [],i=>rfl
 | y::l,i=>by simp only[ix,List.length_cons,pP l (i+1)]
structure Its where
 l:List It
 Z:HP
theorem Cm(A:HP)(v:Value)(l:List Bl)(hv:Vw A v l.length (l.flatMap dN))(hlen:l.length≤1000000) :
    aw Tryz.prog 164 [Kp v] [A] (fun r H=>(df l≠0∧r = .tuple #[.slice none 0 0,.int .i64 (df l:Int)]∧H=[A]) ∨
      ∃rv,df l=0∧r = .tuple #[rv,.int .i64 0]∧H=[aH 5 1 rv (wA l).length (bV (wA l)),A]):=by
  have Ha:=zF A v l hv hlen
  obtain⟨a,c,rfl⟩:=hv.shape
  unfold Kp at Ha ⊢
  refine aw.ao Tryz.func164 Tryz.ntmps164 fun G F R hE=>?_
  refine aN rfl ?_
  refine bC zr zr bq ?_
  intro b1
  refine go ?_
  refine aV (U:=aY) (l:=[.slice a l.length c]) 0 zr zr zr zr zr zr ?_
  refine aF Ha ?_
  refine go ?_
  refine aD zr zr ?_ ?_
  · intro gf
    have qe:df l≠0:=by omega
    refine go ?_
    refine ad hE Tryz.func164 zr zr (.inl ⟨qe,rfl,rfl⟩)
  intro heq
  have h0:df l=0:=by omega
  obtain⟨agh,yZ,vU⟩:=nr h0
  refine go ?_
  refine ai (ak.trans (ak.bT [] _) (bp 247 2 none _)) ?_
  refine bj (fun y:Nat × Its × Option Addr × Nat=>y.1≤l.length∧y.2.1.l.map It.p=ix 0 (l.take y.1)∧∀z∈y.2.1.l,fb y.2.1.Z z.v z.b) (fun y=>l.length-y.1)
    (fun y=>[(1,ptr b1),(5,.slice y.2.2.1 y.2.1.l.length y.2.2.2),(18,.slice a l.length c),(19,.int .i64 (l.length:Int)),(20,.int .i64 (y.1:Int))])
    (fun y=>aH 247 2 (.slice y.2.2.1 y.2.1.l.length y.2.2.2) y.2.1.l.length (y.2.1.l.flatMap kf)::y.2.1.Z::A::F) (0,⟨[],Sep []⟩,none,0) ⟨Nat.zero_le _,rfl,by simp⟩ rfl bO ah ?_
  rintro⟨i,⟨eJ,Z⟩,ia,ic⟩⟨hi,qf,uD⟩ ih
  simp only at hi qf uD
  dsimp only
  have adt:eJ.length=i:=by
    grind [pP]
  refine go ?_
  refine aD zr zr ?_ ?_
  · intro cB
    have dP:i<l.length:=by omega
    obtain⟨x,hx⟩:∃x,l[i]?=some x:=⟨l[i],by simp⟩
    have hxr:=vU x (List.mem_of_getElem? hx)
    have aex:=hxr
    simp only[bY,decide_eq_true_eq]at aex
    obtain⟨sz,js⟩:∃m:Nat,x.size=m:=⟨x.size.toNat,aj⟩
    obtain⟨pc,QG⟩:∃m:Nat,x.piece=m:=⟨x.piece.toNat,aj⟩
    obtain⟨b,o,fX,eR⟩:=hv.some (aaV dP)
    simp only[Value.slice.injEq]at eR
    obtain⟨rfl,_,rfl⟩:=eR
    refine go ?_
    refine bM i 66 zr zr zr zr zr zr zr zr dP ?_
    refine aS ?_
    refine bZ (U:=aY) (es:=dN x) 2 (i*66) zr zr zr hv rfl (blE hx) zr zr zr ?_
    refine aB zr zr zr bq ?_
    intro b7
    refine go ?_
    refine aO (fun w=>Sat G w ([ag b7 (cl (dN x) 182)])) (cM 0 3 (cM 4 3 (.act 3 (.act 7 (.st 8 (.st 9 .nil)))))) rfl ae ae ae dv ?_
    refine go ?_
    refine aC 27 ((.int .u64 (sz:Int))) rfl ((congrArg (Value.int .u64) js)) ?_
    refine aC 31 ((.int .u64 (pc:Int))) rfl ((congrArg (Value.int .u64) QG)) ?_
    refine cP (kR sz aj) ?_
    rintro r8 _ rfl
    refine cP (kR pc aj) ?_
    rintro r9 _ rfl
    refine aM 0 rfl ?_
    rintro a9 c9 rfl
    refine aM 1 rfl ?_
    rintro a8 c8 rfl
    refine iA (bs:=uv pc) 0 rfl ?_
    intro hb9
    refine iA (bs:=uv sz) 1 rfl ?_
    intro hb8
    refine go ?_
    obtain⟨Oa,MG⟩:∃Oa:List It,Oa=[⟨1,.slice (some ⟨b7,0,none⟩) 32 32,x.d.bs⟩,⟨2,.slice a8 (uv sz).length c8,uv sz⟩,⟨3,.slice a9 (uv pc).length c9,uv pc⟩,⟨4,.slice (some ⟨b7,34,none⟩) 32 32,x.root.bs⟩]:=⟨_,rfl⟩
    have hp4:Oa.map It.p=dx x:=by rw[MG];simp only[dx,List.map_cons,List.map_nil,It.p,js,QG,Int.toNat_natCast]
    have E8:=vQ x hxr
    refine aO (fun w=>Sat G w ([])) (cM 0 10 (.act 10 (.act 11 (cM 12 5 .nil)))) rfl ae ae ae dv ?_
    (repeat(first|refine eK ?_|refine jw (U:=aY) zr zr zr zr zr ?_))
    refine aq (cs:=Oa.flatMap kf) zr zr zr zr zr zr zr zr (by rw[MG];rfl) (fun _ _ hw=>hw.cp ah) ?_
    intro row
    have h4:Oa.length=4:=by rw[MG];rfl
    have PC:rN (Sep [ag row (cl (Oa.flatMap kf) 247),ag b7 (cl (dN x) 182),aH 5 1 (.slice a8 (uv sz).length c8) (uv sz).length (bV (uv sz)),aH 5 1 (.slice a9 (uv pc).length c9) (uv pc).length (bV (uv pc))]) (.slice (some ⟨row,0,none⟩) 4 4) Oa:=by
      refine⟨?_,fun y hy=>?_⟩
      · rw[h4]
        exact(Vw.ag (by rw[List.drop_zero,List.take_length])).mono (bz (i:=0) rfl)
      · rw[MG]at hy
        simp only[List.mem_cons,List.not_mem_nil,or_false]at hy
        rcases hy with rfl|rfl|rfl|rfl
        · exact(fb.ZS x.d.len (by rw[← eF];exact aaT x)).mono (bz (i:=1) rfl)
        · exact hb8.mono (bz (i:=2) rfl)
        · exact hb9.mono (bz (i:=3) rfl)
        · exact(fb.ZS x.root.len (by rw[← eF];exact P3 x)).mono (bz (i:=1) rfl)
    have Cz:eP 0 (Oa.map It.p)=true:=by rw[hp4];simp[dx,eP]
    have CJ:=lQ _ _ Oa PC aj Cz (by rw[hp4];omega)
    rw[hp4]at CJ
    clear Cz PC hp4 h4
    clear MG
    refine aR (ak.trans (ak.pick [0,3,2,1] rfl) (ak.bT [ag row (cl (Oa.flatMap kf) 247),ag b7 (cl (dN x) 182),aH 5 1 (.slice a8 (uv sz).length c8) (uv sz).length (bV (uv sz)),aH 5 1 (.slice a9 (uv pc).length c9) (uv pc).length (bV (uv pc))] _)) ?_
    refine cP CJ ?_
    rintro _ _⟨rr,rfl,rfl⟩
    refine aM 0 rfl ?_
    rintro ra rc rfl
    refine iA (bs:=eA (dx x)) 0 rfl ?_
    intro hbr
    refine go ?_
    refine aq (cs:=kf ⟨(i:Int)+1,.slice ra (eA (dx x)).length rc,eA (dx x)⟩) zr zr zr zr zr zr zr zr zr bq ?_
    intro Ik
    refine go ?_
    refine aU (mm:=1) (news:=kf ⟨(i:Int)+1,.slice ra (eA (dx x)).length rc,eA (dx x)⟩) 3 0 rfl rfl rfl rfl rfl rfl rfl rfl rfl rfl rfl rfl (Vw.ag rfl) rfl (by intro v hv;simp[kf]at hv;rcases hv with rfl|rfl <;> rfl) aj (by show(_+_)*32≤_;omega) (fun _=>rfl) bq ?_
    intro v1
    rw[show eJ.flatMap kf++kf (⟨(i:Int)+1,.slice ra (eA (dx x)).length rc,eA (dx x)⟩:It)=(eJ++[(⟨(i:Int)+1,.slice ra (eA (dx x)).length rc,eA (dx x)⟩:It)]).flatMap kf from by simp,show eJ.length+1=(eJ++[(⟨(i:Int)+1,.slice ra (eA (dx x)).length rc,eA (dx x)⟩:It)]).length from by simp]
    refine aM 3 rfl ?_
    rintro ja jc rfl
    refine go ?_
    have MH:(eJ++[(⟨(i:Int)+1,.slice ra (eA (dx x)).length rc,eA (dx x)⟩:It)]).map It.p=ix 0 (l.take (i+1)):=by
      rw[List.take_add_one,hx,List.map_append,qf]
      grind [vP,It.p]
    refine ai (ak.trans (ak.pick [1,4] rfl) (ak.bT [aH 5 1 (.slice ra (eA (dx x)).length rc) (eA (dx x)).length (bV (eA (dx x))),Z] _)) ?_
    refine aK ih (i+1,⟨eJ++[(⟨(i:Int)+1,.slice ra (eA (dx x)).length rc,eA (dx x)⟩:It)],Sep [aH 5 1 (.slice ra (eA (dx x)).length rc) (eA (dx x)).length (bV (eA (dx x))),Z]⟩,ja,jc) rfl ⟨by simp only;omega,MH,fun z hz=>by
      rcases List.mem_append.1 hz with h|h
      · exact(uD z h).mono (bz (i:=1) rfl)
      · rw[List.mem_singleton.1 h];exact hbr.mono (bz (i:=0) rfl)⟩ (by simp only;omega) bO ah
  · intro eN
    have tK:i=l.length:=by omega
    subst tK
    rw[List.take_length]at qf
    have rU:=C0 h0
    unfold wA at rU
    have Cz:=tG l 0 aj
    rw[← qf]at rU Cz
    refine dz 0 rfl ?_
    intro dt
    have PC:rN (Sep [aH 247 2 (.slice ia eJ.length ic) eJ.length (eJ.flatMap kf),Z]) (.slice ia eJ.length ic) eJ:=⟨dt.mono (bz (i:=0) rfl),fun y hy=>(uD y hy).mono (bz (i:=1) rfl)⟩
    have CJ:=lQ _ _ eJ PC aj Cz aj
    have hee:eA (eJ.map It.p)=wA l:=by rw[qf];rfl
    rw[hee]at CJ
    refine go ?_
    refine aR (ak.bT [_,_] _) ?_
    refine az CJ ?_
    rintro _ _⟨rr,rfl,rfl⟩
    refine go ?_
    refine ad hE Tryz.func164 zr zr (.inr ⟨rr,h0,rfl,rfl⟩)
def w9(A:HP)(hK:lL A)(v:Value)(l:List Bl)(hv:Vw A v l.length (l.flatMap dN))(hlen:l.length≤1000000) :
  aw Tryz.prog 93 [Kp v] [A] (fun r H=>r=(if df l=0 then .tuple #[dV (tz l),.int .i64 0]else .tuple #[dV Dg.zero,.int .i64 (df l:Int)])∧H=[A]):=by
 have Ha:=Cm A v l hv hlen
 obtain⟨a,c,rfl⟩:=hv.shape
 unfold Kp at Ha ⊢
 refine aw.ao Tryz.func93 Tryz.ntmps93 fun G F R hE=>?_
 refine aN rfl ?_
 refine bC zr zr bq ?_
 intro b1
 refine aB zr zr zr bq ?_
 intro b2
 refine go ?_
 refine aV (U:=aY) (l:=[.slice a l.length c]) 1 zr zr zr zr zr zr ?_
 refine az Ha ?_
 rintro _ _ (⟨h0,rfl,rfl⟩|⟨rv,h0,rfl,rfl⟩)
 ·rw[if_neg h0]at hE
  refine go ?_
  refine aD zr zr ?_ ?_
  case' refine_2=>(intro h;exfalso;omega)
  intro _
  refine go ?_
  refine fY (U:=aY) zr zr zr zr zr (go ?_)
  (refine bh hE ?_;apply a7 (U:=aY) hE Tryz.func93 rfl (ak.refl _);(repeat(first|exact aT.nil|apply aT.tmp rfl|apply aT.agg 1 zr zr zr zr zr));exact⟨rfl,rfl⟩;exact ah)
 ·rw[if_pos h0]at hE
  have rU:=C0 h0
  refine iA (bs:=wA l) 0 rfl ?_
  intro hbe
  refine aR (ak.bT [_,_] _) (go ?_)
  refine aF (uI _ (hK.mono (bz (H:=[aH 5 1 rv (wA l).length (bV (wA l)),A]) (i:=1) rfl)) rv (wA l) (hbe.mono (bz (i:=0) rfl)) aj) ?_
  refine aR (ak.cL _ _) (go ?_)
  (refine bh hE ?_;apply a7 (U:=aY) hE Tryz.func93 rfl (ak.refl _);(repeat(first|exact aT.nil|apply aT.tmp rfl|apply aT.agg 2 zr zr zr zr zr));exact⟨rfl,rfl⟩;exact ah)
def M8(o:Option Bl):Value:=match o with
 | none => .tuple #[l7 Bl.zero,.bool false]
 | some x => .tuple #[l7 x,.bool true]
def FJ{b:List UInt8}(h:pB b=none):lH b=none:=by unfold lH;rw[h]
theorem JE{b:List UInt8}{xs:List (Int × List UInt8)}(h:pB b=some xs)(hl:xs.length≠4):lH b=none:=by
 grind [lH]
def FK{b:List UInt8}{n1 n2 n3 n4:Int}{b1 b2 b3 b4:List UInt8}(h:pB b=some [(n1,b1),(n2,b2),(n3,b3),(n4,b4)]) :
  lH b=if n4≠4∨b1.length≠32∨b4.length≠32 then none else match dj b2,dj b3 with
  | some s,some p=>if 1048576<max s p then none else some ⟨uk b1,s,p,uk b4⟩
  | _,_=>none:=by unfold lH;rw[h];rfl
theorem wE{b:List UInt8}(h:b.length=32):bV b=dC (uk b):=by
 grind [uk,eF]
theorem Bu:∀(f:Nat) (b:List UInt8) (x:Int × List UInt8),x∈qA f b→x.2.length≤b.length
 | 0,b,x,h=>by simp[qA]at h
 | f+1,[],x,h=>by simp[qA]at h
 | f+1,c::r,x,h=>by
  have h1:=oT r
  rw[qA]at h
  split at h
  ·rcases List.mem_cons.1 h with rfl|h
   ·grind
   ·have:=Bu f _ x h
    grind
  grind
def qC{b:List UInt8}{l:List (Int × List UInt8)}(h:pB b=some l):∀x∈l,x.2.length≤65536:=by
 unfold pB at h
 split at h
 ·cases h
 ·split at h
  ·cases h
   intro x hx
   have:=Bu _ _ x hx;omega
  ·cases h
def IL(A:HP)(v:Value)(b:List UInt8)(hv:fb A v b)(hl:b.length≤1000000000) :
  aw Tryz.prog 353 [v] [A] (fun r H=>r=M8 (lH b)∧H=[A]):=by
 have O7:=lR A v b hv hl
 obtain⟨a,c,rfl,hc⟩:=hv.2
 refine aw.ao Tryz.func353 Tryz.ntmps353 fun G F R hE=>?_
 refine aN rfl ?_
 refine aB zr zr zr bq ?_
 intro b2
 refine go ?_
 refine az O7 ?_
 rintro _ _ (⟨hn,rfl,rfl⟩|⟨xs,eJ,Z,rv,hs,qf,⟨dt,uD⟩,rfl,rfl,-⟩)
 ·rw[FJ hn]at hE
  repeat'(first|refine eK ?_|fail)
  all_goals((skip))
  (refine bh hE ?_;apply a7 (U:=aY) hE Tryz.func353 rfl (ak.refl _);(repeat(first|exact aT.nil|apply aT.tmp rfl|apply aT.agg 1 zr zr zr zr zr));exact⟨rfl,rfl⟩;exact ah)
 obtain⟨ra,rc,rfl⟩:=dt.shape
 by_cases h4:eJ.length=4
 case neg =>
  rw[JE hs (by rw[← qf,List.length_map];exact h4)]at hE
  repeat'(first|(with_reducible intro kQ)|refine eK ?_|refine ew zr zr zr zr ?_ ?_|fail)
  all_goals(first|(exfalso;omega)|skip)
  (refine bh hE ?_;apply a7 (U:=aY) hE Tryz.func353 rfl (ak.refl _);(repeat(first|exact aT.nil|apply aT.tmp rfl|apply aT.agg 2 zr zr zr zr zr));exact⟨rfl,rfl⟩;exact ah)
 obtain⟨i1,i2,i3,i4,rfl⟩:∃i1 i2 i3 i4,eJ=[i1,i2,i3,i4]:=by
  match eJ,h4 with
  | [i1,i2,i3,i4],_=>exact⟨i1,i2,i3,i4,rfl⟩
 obtain⟨n1,v1,b1⟩:=i1
 obtain⟨n2,v2,bs2⟩:=i2
 obtain⟨n3,v3,Q5⟩:=i3
 obtain⟨n4,v4,bs4⟩:=i4
 have pH:fb Z v1 b1:=uD ⟨n1,v1,b1⟩ (by simp)
 have pR:fb Z v2 bs2:=uD ⟨n2,v2,bs2⟩ (by simp)
 have Oi:fb Z v3 Q5:=uD ⟨n3,v3,Q5⟩ (by simp)
 have hb4:fb Z v4 bs4:=uD ⟨n4,v4,bs4⟩ (by simp)
 obtain⟨a1,c1,rfl,_⟩:=pH.2
 obtain⟨a2,c2,rfl,_⟩:=pR.2
 obtain⟨a3,c3,rfl,_⟩:=Oi.2
 obtain⟨a4,c4,rfl,_⟩:=hb4.2
 obtain⟨rb,ro,rcc,he⟩:=dt.some (by simp[kf])
 simp only[Value.slice.injEq]at he
 obtain⟨rfl,_,rfl⟩:=he
 simp only[List.map_cons,List.map_nil,It.p]at qf
 subst qf
 have Bn:=FK hs
 have xP:Vw Z (.slice (some ⟨rb,ro,none⟩) 4 rc) 4 [.int .i64 n1,.slice a1 b1.length c1,.int .i64 n2,.slice a2 bs2.length c2,.int .i64 n3,.slice a3 Q5.length c3,.int .i64 n4,.slice a4 bs4.length c4]:=dt
 have hN:(n4≠4∨b1.length≠32∨bs4.length≠32)→lH b=none:=fun h=>by rw[Bn,if_pos h]
 simp only[List.length_cons,List.length_nil,Nat.zero_add,Nat.reduceAdd]
 clear dt uD O7 h4
 repeat'(first|(with_reducible intro kQ)|refine eK ?_|refine ew zr zr zr zr ?_ ?_|refine aD zr zr ?_ ?_|refine bM 3 2 zr zr zr zr zr zr zr zr (by simp) ?_|refine bM 0 2 zr zr zr zr zr zr zr zr (by simp) ?_|refine aP 0 (3*2+0) zr zr zr xP (Nat.add_assoc _ _ _) zr zr zr ?_|refine aP 0 (3*2+1) zr zr zr xP (Nat.add_assoc _ _ _) zr zr zr ?_|refine aP 0 (0*2+1) zr zr zr xP (Nat.add_assoc _ _ _) zr zr zr ?_)
 ·rw[hN aj]at hE
  refine go ?_
  (refine bh hE ?_;apply a7 (U:=aY) hE Tryz.func353 rfl (ak.refl _);(repeat(first|exact aT.nil|apply aT.tmp rfl|apply aT.agg 2 zr zr zr zr zr));exact⟨rfl,rfl⟩;exact ah)
 ·rw[hN aj]at hE
  refine go ?_
  (refine bh hE ?_;apply a7 (U:=aY) hE Tryz.func353 rfl (ak.refl _);(repeat(first|exact aT.nil|apply aT.tmp rfl|apply aT.agg 2 zr zr zr zr zr));exact⟨rfl,rfl⟩;exact ah)
 ·rw[hN aj]at hE
  refine go ?_
  (refine bh hE ?_;apply a7 (U:=aY) hE Tryz.func353 rfl (ak.refl _);(repeat(first|exact aT.nil|apply aT.tmp rfl|apply aT.agg 2 zr zr zr zr zr));exact⟨rfl,rfl⟩;exact ah)
 have hk4:n4=4:=by omega
 have yZ:b1.length=32:=by omega
 have hl4:bs4.length=32:=by omega
 rw[if_neg (by rintro(h|h|h) <;> exact h (by assumption))]at Bn
 refine go ?_
 refine bM 1 2 zr zr zr zr zr zr zr zr aj (go ?_)
 refine aS ?_
 refine aP 0 (1*2+1) zr zr zr xP (Nat.add_assoc _ _ _) zr zr zr ?_
 have hm2:=qC hs (n2,bs2) (by simp)
 have hm3:=qC hs (n3,Q5) (by simp)
 simp only at hm2 hm3
 refine aF (kT Z _ bs2 pR aj) ?_
 cases hu2:dj bs2 with
 | none =>
  rw[hu2]at Bn
  rw[Bn]at hE
  simp only
  refine go ?_
  refine bM 2 2 zr zr zr zr zr zr zr zr aj (go ?_)
  refine aS ?_
  refine aP 0 (2*2+1) zr zr zr xP (Nat.add_assoc _ _ _) zr zr zr ?_
  refine aF (kT Z _ Q5 Oi aj) ?_
  cases dj Q5 with
  | none =>
   simp only
   repeat'(first|refine eK ?_|fail)
   all_goals((skip))
   (refine bh hE ?_;apply a7 (U:=aY) hE Tryz.func353 rfl (ak.refl _);(repeat(first|exact aT.nil|apply aT.tmp rfl|apply aT.agg 2 zr zr zr zr zr));exact⟨rfl,rfl⟩;exact ah)
  | some p =>
   simp only
   repeat'(first|refine eK ?_|fail)
   all_goals((skip))
   (refine bh hE ?_;apply a7 (U:=aY) hE Tryz.func353 rfl (ak.refl _);(repeat(first|exact aT.nil|apply aT.tmp rfl|apply aT.agg 2 zr zr zr zr zr));exact⟨rfl,rfl⟩;exact ah)
 | some s =>
  rw[hu2]at Bn
  simp only
  refine go ?_
  refine bM 2 2 zr zr zr zr zr zr zr zr aj (go ?_)
  refine aS ?_
  refine aP 0 (2*2+1) zr zr zr xP (Nat.add_assoc _ _ _) zr zr zr ?_
  refine aF (kT Z _ Q5 Oi aj) ?_
  cases hu3:dj Q5 with
  | none =>
   rw[hu3]at Bn
   rw[Bn]at hE
   simp only
   repeat'(first|refine eK ?_|fail)
   all_goals((skip))
   (refine bh hE ?_;apply a7 (U:=aY) hE Tryz.func353 rfl (ak.refl _);(repeat(first|exact aT.nil|apply aT.tmp rfl|apply aT.agg 2 zr zr zr zr zr));exact⟨rfl,rfl⟩;exact ah)
  | some p =>
   rw[hu3]at Bn
   simp only at Bn ⊢
   repeat'(first|(with_reducible intro kQ)|refine eK ?_|refine aD zr zr ?_ ?_)
   all_goals((skip))
   ·rw[if_pos aj]at Bn
    rw[Bn]at hE
    refine go ?_
    (refine bh hE ?_;apply a7 (U:=aY) hE Tryz.func353 rfl (ak.refl _);(repeat(first|exact aT.nil|apply aT.tmp rfl|apply aT.agg 2 zr zr zr zr zr));exact⟨rfl,rfl⟩;exact ah)
   ·rw[if_neg aj]at Bn
    rw[Bn]at hE
    have af8:s≤1048576:=by omega
    have aga:p≤1048576:=by omega
    obtain⟨xb1,xo1,xc1,QT⟩:=pH.1.some (by intro h;have:=congrArg List.length h;rw[bK,yZ]at this;cases this)
    simp only[Value.slice.injEq]at QT
    obtain⟨rfl,_,rfl⟩:=QT
    obtain⟨xb4,xo4,xc4,he4⟩:=hb4.1.some (by intro h;have:=congrArg List.length h;rw[bK,hl4]at this;cases this)
    simp only[Value.slice.injEq]at he4
    obtain⟨rfl,_,rfl⟩:=he4
    have k6:=pH.1
    rw[wE yZ]at k6
    have hv4:=hb4.1
    rw[wE hl4]at hv4
    refine aO (fun w=>Sat G w ([Z])) (cM 0 17 (.act 17 (.st 18 .nil))) rfl ae ae ae dv ?_
    refine go ?_
    (repeat(first|refine eK ?_|refine bM 0 2 zr zr zr zr zr zr zr zr aj ?_|refine bM 3 2 zr zr zr zr zr zr zr zr aj ?_|(refine aS ?_;first|refine cV 0 (0*2+1) zr zr zr xP (Nat.add_assoc _ _ _) zr zr zr ?_|refine cV 0 (3*2+1) zr zr zr xP (Nat.add_assoc _ _ _) zr zr zr ?_|refine gH (U:=aY) (es:=dC (uk b1)) 0 0 zr zr zr k6 rfl (fun j v hj=>by rw[Nat.zero_add];exact hj) zr zr zr ?_|refine gH (U:=aY) (es:=dC (uk bs4)) 0 0 zr zr zr hv4 rfl (fun j v hj=>by rw[Nat.zero_add];exact hj) zr zr zr ?_)|refine zC (U:=aY) zr zr zr zr aj ?_))
    refine aX ?_
    refine bG 2 dv zr zr zr zr zr zr zr zr zr (go ?_)
    (refine bh hE ?_;apply a7 (U:=aY) hE Tryz.func353 rfl (ak.refl _);(repeat(first|exact aT.nil|apply aT.tmp rfl|apply aT.agg 2 zr zr zr zr zr));exact⟨rfl,rfl⟩;exact ah)
theorem tF:∀(l:List (Int × List UInt8)) (i:Nat) (x:Int × List UInt8),ig i (l++[x])=match ig i l with
  | none=>none
  | some y=>match lH x.2 with
   | none=>none
   | some z=>if x.1≠((i+l.length:Nat):Int)+1 then none else some (y++[z])
 | [],i,(n,b)=>by
  grind [ig,lH]
 | (m,c)::l,i,(n,b)=>by
  simp only[List.cons_append,ig,tF l (i+1) (n,b),List.length_cons]
  cases lH c with
  | none=>rfl
  | some y =>
   grind
def tE:∀(l r:List (Int × List UInt8)) (i:Nat),ig i l=none→ig i (l++r)=none
 | [],r,i,h=>by cases h
 | (n,b)::l,r,i,h=>by
  simp only[List.cons_append,ig]at h ⊢
  cases hb:lH b with
  | none=>rfl
  | some x =>
   rw[hb]at h
   simp only at h ⊢
   split at h
   ·rename_i hn;rw[if_pos hn]
   ·rename_i hn
    rw[if_neg hn]
    rw[tE l r (i+1) (by simpa using h)];rfl
theorem Cn(A:HP)(v:Value)(b:List UInt8)(hv:fb A v b)(hl:b.length≤1000000000) :
  aw Tryz.prog 232 [v] [A] (fun r H=>(wG b=none∧(∃e,e≠0∧r = .tuple #[Kp (.slice none 0 0),.int .i64 e])∧H=[A]) ∨
   ∃l rv,wG b=some l∧r = .tuple #[Kp rv,.int .i64 0]∧H=[aH 182 66 rv l.length (l.flatMap dN),A]):=by
 have O7:=lR A v b hv hl
 obtain⟨a,c,rfl,hc⟩:=hv.2
 refine aw.ao Tryz.func232 Tryz.ntmps232 fun G F R hE=>?_
 refine aN rfl ?_
 refine aB zr zr zr bq ?_
 intro b2
 refine go ?_
 refine az O7 ?_
 rintro _ _ (⟨hn,rfl,rfl⟩|⟨xs,eJ,Z,rv,hs,qf,⟨dt,uD⟩,rfl,rfl,-⟩)
 ·have hd:wG b=none:=by unfold wG;rw[hn]
  repeat'(first|refine eK ?_|fail)
  all_goals((skip))
  (refine bh hE ?_;apply a7 (U:=aY) hE Tryz.func232 rfl (ak.refl _);(repeat(first|exact aT.nil|apply aT.tmp rfl|apply aT.agg 1 zr zr zr zr zr));exact(.inl ⟨hd,⟨2,by decide,rfl⟩,rfl⟩);exact ah)
 have hde:wG b=match ig 0 xs with|some x=>if df x=0 then some x else none|none=>none:=by unfold wG;rw[hs];rfl
 obtain⟨ra,rc,rfl⟩:=dt.shape
 have Cu:eJ.length≤65536:=by
  have h1:xs.length≤65536:=by
   unfold pB at hs
   split at hs
   ·cases hs
   ·split at hs
    ·cases hs
     have:=qB _ b (Nat.le_refl _)
     grind [dY]
    ·cases hs
  grind
 repeat'(first|refine eK ?_|fail)
 all_goals((skip))
 refine aB zr zr zr bq ?_
 intro b6
 refine go ?_
 refine ai (ak.trans (ak.bT [] _) (bp 182 66 none _)) ?_
 refine bj (fun y:Nat × List Bl × Option Addr × Nat=>y.1≤eJ.length∧ig 0 (xs.take y.1)=some y.2.1∧y.2.1.length=y.1) (fun y=>eJ.length-y.1)
  (fun y=>[(2,ptr b2),(6,ptr b6),(20,.slice ra eJ.length rc),(21,.int .i64 (eJ.length:Int)),(22,.int .i64 (y.1:Int))])
  (fun y=>ag b6 (cl [.slice y.2.2.1 y.2.1.length y.2.2.2] 179)::aH 182 66 (.slice y.2.2.1 y.2.1.length y.2.2.2) y.2.1.length (y.2.1.flatMap dN)::Z::A::ag b2 (cl [.slice none 0 0] 179)::F) (0,[],none,0) ⟨Nat.zero_le _,rfl,rfl⟩ rfl bO ah ?_
 rintro⟨i,acc,xa,xc⟩⟨hi,gP,hal⟩ ih
 simp only at hi gP hal
 dsimp only
 refine go ?_
 refine aD zr zr ?_ ?_
 ·intro cB
  have dP:i<eJ.length:=by omega
  obtain⟨it,I9⟩:∃x,eJ[i]?=some x:=⟨eJ[i],by simp⟩
  have hxi:xs[i]?=some (it.n,it.b):=by rw[← qf,List.getElem?_map,I9];rfl
  have Jf:=uD it (List.mem_of_getElem? I9)
  have ads:=qC hs _ (List.mem_of_getElem? hxi)
  have l6:xs.take (i+1)=xs.take i++[(it.n,it.b)]:=by rw[List.take_add_one,hxi];rfl
  have Jj:=tF (xs.take i) 0 (it.n,it.b)
  have xQ:(xs.take i).length=i:=by rw[List.length_take,← qf,List.length_map];omega
  rw[← l6,gP,xQ,Nat.zero_add]at Jj
  simp only at Jj ads
  have jC:ig 0 (xs.take (i+1))=none→wG b=none:=fun h=>by
   have:=tE _ (xs.drop (i+1)) 0 h
   rw[List.take_append_drop]at this
   grind
  obtain⟨rb,ro,rcc,he⟩:=dt.some (by rw[← List.length_pos_iff,bt ij];omega)
  simp only[Value.slice.injEq]at he
  obtain⟨rfl,_,rfl⟩:=he
  obtain⟨xn,xv,xb⟩:=it
  simp only at Jf Jj ads
  obtain⟨va,vc,rfl,_⟩:=Jf.2
  refine go ?_
  refine bM i 2 zr zr zr zr zr zr zr zr dP ?_
  refine aS ?_
  refine bZ (U:=aY) (es:=kf ⟨xn,.slice va xb.length vc,xb⟩) 2 (i*2) zr zr zr dt rfl (fun j v hj=>?_) zr zr zr ?_
  ·rw[cd ij I9 j (by rcases Nat.lt_or_ge j 2 with h|h;exact h;rw[List.getElem?_eq_none (by rw[ij];exact h)]at hj;cases hj)];exact hj
  refine aB zr zr zr bq ?_
  intro b8
  refine go ?_
  refine aF (IL Z _ xb Jf aj) ?_
  cases Bn:lH xb with
  | none =>
   rw[Bn]at Jj
   have nx:=jC Jj
   simp only[M8]
   refine go ?_
   refine aB zr zr zr bq ?_
   intro b9
   refine go ?_
   (refine aX ?_;(refine bG 6 fE zr zr zr zr zr zr zr zr zr ?_))
   refine go ?_
   (refine bh hE ?_;apply a7 (U:=aY) hE Tryz.func232 rfl (ak.refl _);(repeat(first|exact aT.nil|apply aT.tmp rfl|apply aT.agg 6 zr zr zr zr zr));exact(.inl ⟨nx,⟨2,by decide,rfl⟩,rfl⟩);exact ah)
  | some z =>
   rw[Bn]at Jj
   simp only[M8]at Jj ⊢
   unfold l7
   refine go ?_
   refine aB zr zr zr bq ?_
   intro b9
   repeat'(first|(with_reducible intro kQ)|refine eK ?_|refine aD zr zr ?_ ?_)
   ·rw[if_pos aj]at Jj
    have nx:=jC Jj
    (refine aX ?_;(refine bG 6 fE zr zr zr zr zr zr zr zr zr ?_))
    refine go ?_
    (refine bh hE ?_;apply a7 (U:=aY) hE Tryz.func232 rfl (ak.refl _);(repeat(first|exact aT.nil|apply aT.tmp rfl|apply aT.agg 6 zr zr zr zr zr));exact(.inl ⟨nx,⟨2,by decide,rfl⟩,rfl⟩);exact ah)
   ·rw[if_neg aj]at Jj
    refine aV (U:=aY) (l:=dN z) 0 zr zr zr zr zr zr ?_
    refine aq (cs:=dN z) zr zr zr zr zr zr zr zr zr bq ?_
    intro row
    refine go ?_
    refine aU (mm:=1) (news:=dN z) 5 0 zr zr zr zr zr zr zr zr zr zr zr zr (Vw.ag rfl) rfl (by have:=uG [z];simpa using this) aj (by show(_+_)*80≤_;omega) (fun _=>rfl) bq ?_
    intro v1
    rw[show acc.flatMap dN++dN z=(acc++[z]).flatMap dN from by simp,show acc.length+1=(acc++[z]).length from by simp]
    refine aM 5 rfl ?_
    rintro ja jc rfl
    refine go ?_
    refine aX ?_
    refine bG 4 fE zr zr zr zr zr zr zr zr zr (go ?_)
    refine aK ih (i+1,acc++[z],ja,jc) rfl ⟨by simp only;omega,Jj,by simp only[List.length_append,List.length_singleton];omega⟩ (by simp only;omega) bO ah
 ·intro eN
  have tK:i=eJ.length:=by omega
  have eY:xs.take i=xs:=by rw[List.take_of_length_le];rw[← qf,List.length_map];omega
  rw[eY]at gP
  rw[gP]at hde
  simp only at hde
  clear ih
  refine dz 1 rfl ?_
  intro hva
  refine go ?_
  refine aV (U:=aY) (l:=[.slice xa acc.length xc]) 0 zr zr zr zr zr zr ?_
  refine aF (zF _ _ acc hva aj) ?_
  repeat'(first|(with_reducible intro kQ)|refine eK ?_|refine aD zr zr ?_ ?_)
  ·rw[if_neg aj]at hde
   (refine aX ?_;(refine bG 4 fE zr zr zr zr zr zr zr zr zr ?_))
   refine go ?_
   (refine bh hE ?_;apply a7 (U:=aY) hE Tryz.func232 rfl (ak.refl _);(repeat(first|exact aT.nil|apply aT.tmp rfl|apply aT.agg 4 zr zr zr zr zr));exact(.inl ⟨hde,⟨2,by decide,rfl⟩,rfl⟩);exact ah)
  ·rw[if_pos aj]at hde
   refine aV (U:=aY) (l:=[.slice xa acc.length xc]) 1 zr zr zr zr zr zr (go ?_)
   refine aX ?_
   refine bG 4 fE zr zr zr zr zr zr zr zr zr (go ?_)
   (refine bh hE ?_;apply a7 (U:=aY) hE Tryz.func232 rfl (ak.refl _);(repeat(first|exact aT.nil|apply aT.tmp rfl|apply aT.agg 4 zr zr zr zr zr));exact(.inr ⟨acc,_,hde,rfl,rfl⟩);exact ah)
end Go.Proofs.YtjpboghdolfekaaGreatDoor
namespace Go.SL
open Go.RowKit
def old(W:World):HP:=fun h=>∀b,h b=W.heap[b]?
def aaH(W:World):cg:={ tape:=W.tape,os:=W.os,output:=W.output }
def P'(W:World):Sat (aaH W) W [old W]:=⟨⟨rfl,Nat.zero_le _⟩,rfl,rfl,fun b=>W.heap[b]?,fun _ _ h=>h,di fun _=>rfl⟩
theorem AI{W W':World}(h:Sat (aaH W) W' [old W]):Below W.heap.size W W':=by
 obtain⟨h1,h2,h3,h0,hw,hs⟩:=h
 have ho:=cT hs
 have hb:∀k,k<W.heap.size→W'.heap[k]?=W.heap[k]? := fun k hk=>by
  have e:W.heap[k]?=some W.heap[k]:=by simp[hk]
  rw[e]
  exact hw k _ (by rw[ho k,e])
 refine⟨h2,h1.1,h3,?_,hb⟩
 grind
theorem Lb{P:Program}{f:FuncId}{args:List Value}{W:World}(c:aw P f args [old W] (fun v H=>v = .bool true∧H=[old W])) :
  Calls P f args.toArray W fun e W'=>e = .returned (.bool true)∧Below W.heap.size W W' :=
 (c.2 (aaH W) W [] (P' W)).mono fun e W' h=>by
  grind [AI]
theorem lY{W:World}{h:Hp}{b off:Nat}{v:Value}(ho:old W h)(hc:W.cell? ⟨b,off,none⟩=some v):dq h b off=some v:=by
 unfold dq
 rw[ho b]
 unfold World.cell? at hc
 grind
theorem wN{W:World}{a:Addr}{len cap:Nat}{zs:List Int}(hl:len≤zs.length)(dq:∀i,i<zs.length→W.cell? (a.add i)=some (.int .u8 (zs.getD i 0)))(hwf:∀n∈zs,(Lit.int .u8 n).wf=true) :
  ∃bs:List UInt8,bs.length=len∧Vw (old W) (.slice (some a) len cap) len (bV bs):=by
 refine⟨(zs.take len).map fun z=>UInt8.ofNat z.toNat,by simp;omega,some a,cap,rfl,?_⟩
 rcases Nat.eq_zero_or_pos len with h0|h0
 ·grind [bV]
 ·right
  obtain⟨b,o,spot⟩:=a
  have DV:spot=none:=by simpa[Addr.add]using World.cell?_spot (dq 0 aj)
  subst DV
  refine⟨b,o,rfl,fun h ho j c hj=>?_⟩
  have Ff:j<len:=by
   grind [bV]
  have h1:=dq j aj
  rw[Addr.add_eq]at h1
  have h2:=lY ho h1
  rw[h2]
  have hm:zs[j]' aj∈zs:=List.getElem_mem _
  have hw:=hwf _ hm
  have hb:0≤zs[j]' aj∧zs[j]' aj<256:=by
   simp only[Lit.wf,Bool.and_eq_true,decide_eq_true_eq]at hw
   have e1:IntKind.u8.min=0:=by decide
   have e2:IntKind.u8.max=255:=by decide
   omega
  simp only[bV,List.map_map,List.getElem?_map,List.getElem?_take,Ff,if_true]at hj
  rw[List.getElem?_eq_getElem aj]at hj
  simp only[Option.map_some,Option.some.injEq,Function.comp]at hj
  rw[← hj,List.getD_eq_getElem?_getD,List.getElem?_eq_getElem aj]
  simp only[Option.getD_some,u8,UInt8.toNat_ofNat',Option.some.injEq]
  grind
def Cc(W:World):Vw (old W) (.slice none 0 0) 0 (bV []):=⟨none,0,rfl,.inl rfl⟩
def pq{z:Int}(h:(Lit.int .i64 z).wf=true) : -9223372036854775808≤z∧z≤9223372036854775807:=by
 simp only[Lit.wf,Bool.and_eq_true,decide_eq_true_eq]at h
 have e1:IntKind.i64.min = -9223372036854775808:=by decide
 simp_all
end Go.SL
namespace Go.SL
open Go.Proofs Go.Shelf Go.RowKit Go.Lib Go.Sort
theorem Sat.grown{G:cg}{w:World}{H:List HP}(hs:Sat G w H)(os:Array Obj):Sat G (Sort.grow w os) H:=by
 obtain⟨a,b,c,h,hw,hh⟩:=hs
 refine⟨a,b,c,h,fun x o e=>?_,hh⟩
 have h1:=hw x o e
 obtain⟨h2,-⟩:=Array.getElem?_eq_some_iff.1 h1
 show(w.heap++os)[x]?=some o
 grind
def Sat.ahead{G:cg}{w:World}{H:List HP}(hs:Sat G w H)(n:Nat):Sat G (Sort.ahead w n) H:=hs.draw _ (Nat.le_add_right _ _)
theorem Sat.ZZ{G:cg}{w:World}{H:List HP}{b:Nat}{l l':List Value}{e:TypeId}(hs:Sat G w (ag b (cl l e)::H))(f:Array Value→Array Value)(hf:f l.toArray=l'.toArray):Sat G (Sort.mapBlock w b f) (ag b (cl l' e)::H):=by
 have hb:=hs.get (i:=0) rfl
 obtain⟨cB,pR⟩:=Array.getElem?_eq_some_iff.1 hb
 have hm:w.heap.modify b (Sort.onCells f)=w.heap.setIfInBounds b (cl l' e):=by
  apply Array.ext_getElem?
  intro i
  rw[Array.getElem?_modify,Array.getElem?_setIfInBounds]
  by_cases h:b=i
  ·subst h
   rw[if_pos rfl,if_pos rfl,if_pos cB,hb]
   simp only[Option.map_some]
   unfold cl Sort.onCells
   grind
  grind
 unfold Sort.mapBlock
 rw[hm]
 exact hs.zS
theorem CV{W W':World}(h:Sat { tape:=W.tape,os:=W.os,output:=W.output,lo:=W.drawn } W' [old W]):∃q os',W'=Sort.grow (W.drewN q) os':=by
 obtain⟨⟨h1,h2⟩,h3,h4,h0,hw,hs⟩:=h
 have ho:=cT hs
 have hb:∀k,k<W.heap.size→W'.heap[k]?=W.heap[k]? := fun k hk=>by
  have e:W.heap[k]?=some W.heap[k]:=by simp[hk]
  rw[e]
  exact hw k _ (by rw[ho k,e])
 have hle:W.heap.size≤W'.heap.size:=by
  grind
 refine⟨W'.drawn-W.drawn,W'.heap.extract W.heap.size W'.heap.size,?_⟩
 have adB:W'.heap=W.heap++W'.heap.extract W.heap.size W'.heap.size:=by
  grind
 have hd:W'.drawn=W.drawn+(W'.drawn-W.drawn):=by simp only at h2;omega
 cases W' with
 | mk hp tp dr os out =>
  simp only at h1 h2 h3 h4 adB hd
  subst h1 h3 h4
  unfold Sort.grow World.drewN
  grind
variable{P:Program}{ρ:Ren}{α:Type}[Inhabited α]
theorem ng(pre cs wH junk:List Value)(hl:wH.length=cs.length):Sort.putCells id pre.length wH.toArray (pre++cs++junk).toArray=(pre++wH++junk).toArray:=by
 apply Array.ext_getElem?
 intro i
 unfold Sort.putCells
 grind
theorem sE{w:World}{b:Nat}{e:TypeId}{pre cs junk:List Value}(hb:w.heap[b]?=some (cl (pre++cs++junk) e)):Sort.Holds id w b pre.length cs.toArray:=by
 intro j hj
 simp only[List.size_toArray]at hj
 constructor
 ·unfold World.cell?
  grind [cl]
 ·unfold World.frozen?
  grind [cl]
theorem BG(L:SlLaysN.n53 P ρ)(e:TypeId)(v:Value)(l:List Int)(QR:P.funcs[ρ.f 53]?.map hG=some true)(js:l.length<4611686018427387904) :
  aw P (ρ.f 53) [v] [aH e 1 v l.length (l.map (Value.int .i64))] (fun r H=>r = .tuple #[]∧H=[aH e 1 v l.length ((l.mergeSort fun x y=>decide (x≤y)).map (Value.int .i64))]):=by
 refine⟨QR,fun G w F hs=>?_⟩
 obtain⟨t,o,u,hp,yV,hA,hB,⟨hl,gB⟩,Jk,hd,he⟩:=hs
 rcases gB with⟨a0,rfl,hn,vZ⟩|⟨b,oo,cap,pre,junk,rfl,gZ,hn,fF,vW⟩
 ·have I7:l=[]:=List.eq_nil_of_length_eq_zero hn
  subst I7
  refine(AnyG.slices_Sort_int_none L a0 0 w).mono ?_
  rintro e' w'⟨rfl,rfl⟩
  exact⟨_,_,rfl,⟨rfl,rfl⟩,t,o,u,hp,yV,hA,hB,⟨by simp,.inl ⟨a0,rfl,rfl,vZ⟩⟩,Jk,hd,he⟩
 ·have pF:Sat G w (ag b (cl (pre++l.map (Value.int .i64)++junk) e)::F):=⟨t,o,u,hp,yV,hA,hB,vW,Jk,hd,he⟩
  have hb:=pF.get (i:=0) rfl
  have cB:=pF.lt (i:=0) rfl
  subst gZ
  have hH:Sort.Holds (Value.int .i64) w b pre.length l.toArray:=by
   have h0:=sE hb
   intro j hj
   have:=h0 j (by simpa using hj)
   grind
  have hS:=AnyG.slices_Sort_int L b pre.length cap l w hH cB js
  refine hS.mono ?_
  rintro e' w'⟨rfl,n,os,rfl⟩
  refine⟨_,_,rfl,⟨rfl,rfl⟩,?_⟩
  have uh:(l.mergeSort fun x y=>decide (x≤y)).length=l.length:=List.length_mergeSort _
  have h3:=(pF.ahead n).ZZ (Sort.putCells (Value.int .i64) pre.length (l.mergeSort fun x y=>decide (x≤y)).toArray) (l':=pre++(l.mergeSort fun x y=>decide (x≤y)).map (Value.int .i64)++junk) (by
   refine Eq.trans ?_ (ng pre (l.map (Value.int .i64)) ((l.mergeSort fun x y=>decide (x≤y)).map (Value.int .i64)) junk (by rw[List.length_map,List.length_map,uh]))
   unfold Sort.putCells
   congr 1
   funext i x
   simp only[List.size_toArray,List.length_map,id]
   split
   ·rename_i h
    rw[getElem!_pos (List.map (Value.int .i64) _).toArray (i-pre.length) (by simp;omega),getElem!_pos (l.mergeSort fun x y=>decide (x≤y)).toArray (i-pre.length) (by simp;omega)]
    simp
   ·rfl)
  have h4:=h3.grown os
  refine h4.cp ?_
  exact fQ rfl hn (by rw[List.length_map]at fF ⊢;rw[uh];exact fF) (by rw[List.length_map,uh,Nat.mul_one]) F
end Go.SL
namespace Go.SL
open Go.Proofs Go.Shelf Go.RowKit Go.Lib Go.Sort
variable{P:Program}{ρ:Ren}
theorem BF(L:SlLaysN.n54 P ρ)(e:TypeId)(v:Value)(l:List (List UInt8))(QR:P.funcs[ρ.f 54]?.map hG=some true)(js:l.length<4611686018427387904) :
  aw P (ρ.f 54) [v] [aH e 1 v l.length (l.map encStr)] (fun r H=>r = .tuple #[]∧H=[aH e 1 v l.length ((l.mergeSort fun x y=>decide (x≤y)).map encStr)]):=by
 refine⟨QR,fun G w F hs=>?_⟩
 obtain⟨t,o,u,hp,yV,hA,hB,⟨hl,gB⟩,Jk,hd,he⟩:=hs
 rcases gB with⟨a0,rfl,hn,vZ⟩|⟨b,oo,cap,pre,junk,rfl,gZ,hn,fF,vW⟩
 ·have I7:l=[]:=List.eq_nil_of_length_eq_zero hn
  subst I7
  refine(AnyG.slices_Sort_string_none L a0 0 w).mono ?_
  rintro e' w'⟨rfl,rfl⟩
  exact⟨_,_,rfl,⟨rfl,rfl⟩,t,o,u,hp,yV,hA,hB,⟨by simp,.inl ⟨a0,rfl,rfl,vZ⟩⟩,Jk,hd,he⟩
 ·have pF:Sat G w (ag b (cl (pre++l.map encStr++junk) e)::F):=⟨t,o,u,hp,yV,hA,hB,vW,Jk,hd,he⟩
  have hb:=pF.get (i:=0) rfl
  have cB:=pF.lt (i:=0) rfl
  subst gZ
  have hH:Sort.Holds encStr w b pre.length l.toArray:=by
   have h0:=sE hb
   intro j hj
   have:=h0 j (by simpa using hj)
   grind
  have hS:=AnyG.slices_Sort_string L b pre.length cap l w hH cB js
  refine hS.mono ?_
  rintro e' w'⟨rfl,n,os,rfl⟩
  refine⟨_,_,rfl,⟨rfl,rfl⟩,?_⟩
  have uh:(l.mergeSort fun x y=>decide (x≤y)).length=l.length:=List.length_mergeSort _
  have h3:=(pF.ahead n).ZZ (Sort.putCells encStr pre.length (l.mergeSort fun x y=>decide (x≤y)).toArray) (l':=pre++(l.mergeSort fun x y=>decide (x≤y)).map encStr++junk) (by
   refine Eq.trans ?_ (ng pre (l.map encStr) ((l.mergeSort fun x y=>decide (x≤y)).map encStr) junk (by rw[List.length_map,List.length_map,uh]))
   unfold Sort.putCells
   congr 1
   funext i x
   simp only[List.size_toArray,List.length_map,id]
   split
   ·rename_i h
    rw[getElem!_pos (List.map encStr _).toArray (i-pre.length) (by simp;omega),getElem!_pos (l.mergeSort fun x y=>decide (x≤y)).toArray (i-pre.length) (by simp;omega)]
    simp
   ·rfl)
  have h4:=h3.grown os
  refine h4.cp ?_
  exact fQ rfl hn (by rw[List.length_map]at fF ⊢;rw[uh];exact fF) (by rw[List.length_map,uh,Nat.mul_one]) F
end Go.SL
