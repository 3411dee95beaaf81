import Derived.Test.YtedjnjkijiddlaaGreatDoorQPT3
import Derived.Test.YtedjnjkijiddlaaGreatDoorQPT4
import Derived.Test.YtedjnjkijiddlaaGreatDoorQPT5
import Derived.Test.YtedjnjkijiddlaaGreatDoorQPT6
import Derived.ProofKit
import Derived.Below
import Derived.Shelf.SortG.Plain
import Derived.Shelf.SortG.SortNone
import Derived.Test.YtedjnjkijiddlaaGreatDoorChecked
set_option linter.unusedSectionVars false
set_option linter.unusedSimpArgs false
set_option linter.unusedVariables false
set_option maxHeartbeats 1000000
set_option maxRecDepth 20000
set_option linter.defProp false
namespace Go.Proofs.YtedjnjkijiddlaaGreatDoor
open Go Go.SL
attribute [local irreducible] J K aE Ends ae aB aP bP bq aS aZ bu bX Sha.chunks Sha.chunk Sha.rounds Sha.sched dK cm GI cQ
def Eu(A:HP)(hK:oG A)(b1 b2:Nat)(v:Value)(b:List UInt8)(hv:eM A v b)(hl:b.length≤900000000)(k:Nat)(hk:1≤k)(sM:k≤1000000000) :
  Qe 245 [ptr b1,ptr b2] ((gC k b.length b).map cQ) [ae b1 (cl [v] 22),ae b2 (cl [.int .i64 (k:Int)] 3),A] [A]:=by
 intro l Lp Inv hy
 obtain⟨a,c,rfl,hc⟩:=hv.2
 refine aE.ao Tryz.func245 Tryz.ntmps245 fun G F R hE=>?_
 refine aD rfl ?_
 refine bG zr zr bD ?_
 intro b3
 refine go ?_
 refine aH (Mu a b.length c (k:Int) ag) ?_
 rintro _ _⟨c1,c2,rfl,rfl⟩
 refine go ?_
 refine fL rfl ?_
 refine ai (al.trans (al.pick [3,4,2] rfl) (al.bS [Lp,Inv 0,ae b3 (cl [.func (.yield l) #[] #[] ] 120)] _)) ?_
 refine qF (Fr:=F) (Pre:=fun _ _=>[Sep [Lp,Inv 0,ae b3 (cl [.func (.yield l) #[] #[] ] 120)],ae c1 (cl [.slice a b.length c] 22),ae c2 (cl [.int .i64 (k:Int)] 3),A]) (fun _ _ Lp2 v H=>H=[Lp2 .ready none,Sep [Lp,Inv (gC k b.length b).length,ae b3 (cl [.func (.yield l) #[] #[] ] 120)],A]) rfl hE.1.1 rfl ?c (fun l r=>ah) ?iK
 case c =>
  intro l2 r2
  refine Ix A c1 c2 _ b hv ag k hk sM l2 _ (fun j=>Sep [Lp,Inv j,ae b3 (cl [.func (.yield l) #[] #[] ] 120)]) ?_
  intro j p rv hp Jo
  have hyj:=hy j (cQ p) (by rw[List.getElem?_map,hp];rfl)
  have nV:p.length≤900000000:=by
   have h1:=jF k hk b.length b j (Nat.le_refl _)
   rw[hp]at h1
   split at h1
   ·cases h1;rw[List.length_take,List.length_drop];omega
   ·cases h1
  refine bX.Eg zr zr ?_
  intro G F2 R2 hY
  refine go ?_
  refine gn rfl hY ?_
  refine ai (al.trans (al.pick [1] rfl) (al.cD [_,_,_] _)) ?_
  refine aF (fun w=>Sat G w ([ae b3 (cl [.func (.yield l) #[] #[] ] 120)])) (.st 0 (.st 1 (.act 2 (.act 3 (.st 4 .nil))))) rfl ak ak ak dT ?_
  refine go ?_
  refine bo ((FF A hK rv p Jo nV)) ?_
  refine go ?_
  refine kQ rfl rfl rfl hyj ah ?_ TQ
  rintro _ _⟨rfl,rfl⟩
  refine go ?_
  refine ai (al.trans (al.pick [0,1,3] rfl) (al.bS [Lp,Inv (j+1),ae b3 (cl [.func (.yield l) #[] #[] ] 120)] _)) ?_
  refine fK hY rfl ah ⟨rfl,rfl⟩
 rintro l2 r2 v2 H' rfl
 refine⟨_,_,_,rfl,by decide,?_⟩
 rw[hE.1.2]
 rw[List.length_map]at hE
 refine ai (al.cD [_,_,_] _) (go ?_)
 apply Il hE Tryz.func245 rfl _ zr zr
 exact ah
def Hd(a:Option Addr)(n c:Nat)(k:Int):aE Tryz.prog 226 [.slice a n c,.int .i64 k] [] (fun r H=>∃b1 b2,r = .func (.func 245) #[] #[ptr b1,ptr b2]∧H=[ae b1 (cl [.slice a n c] 22),ae b2 (cl [.int .i64 k] 3)]):=by
 refine aE.ao Tryz.func226 Tryz.ntmps226 fun G F R hE=>?_
 refine aD rfl ?_
 refine bG zr zr bD ?_
 intro b1
 refine bG zr zr bD ?_
 intro b2
 refine go ?_
 refine ad hE Tryz.func226 zr zr ⟨b1,b2,rfl,rfl⟩
def kZ{b:List UInt8}{k:Int}{ls:List Dg}(h:cM b k=some ls):1≤ls.length∧ls.length≤1024:=by
 unfold cM at h
 split at h
 ·rename_i hr
  cases h
  simp only[bz,decide_eq_true_eq]at hr
  obtain⟨k,rfl⟩:∃m:Nat,k=m:=⟨k.toNat,ag⟩
  rw[List.length_map,Int.toNat_natCast,mX k ag]
  have h2:=hr.2.2.2.2
  have h3:((b.length:Int)+(k:Int)-1)/(k:Int)=(((b.length+k-1)/k:Nat):Int):=by
   rw[Int.natCast_ediv];congr 1;omega
  rw[h3]at h2
  have h4:1≤(b.length+k-1)/k:=by rw[Nat.le_div_iff_mul_le ag];omega
  omega
 ·cases h
def Ik(A:HP)(hK:oG A)(v:Value)(b:List UInt8)(hv:eM A v b)(hl:b.length≤900000000)(k:Int) :
  aE Tryz.prog 207 [v,.int .i64 k] [A] (fun r H=>(cM b k=none∧r = .tuple #[.slice none 0 0,.int .i64 1]∧H=[A])∨∃ls rv,cM b k=some ls∧r = .tuple #[rv,.int .i64 0]∧H=[aB 35 32 rv ls.length (ls.flatMap dC),A]):=by
 obtain⟨a,c,rfl,hc⟩:=hv.2
 refine aE.ao Tryz.func207 Tryz.ntmps207 fun G F R hE=>?_
 ((refine go ?_;(refine aH (oq ⟨Dg.zero,b.length,k,Dg.zero⟩) ?_)))
 rintro _ _⟨rfl,rfl⟩
 cases hr:bz ⟨Dg.zero,b.length,k,Dg.zero⟩with
 | false =>
  have hn:cM b k=none:=by unfold cM;rw[if_neg (by rw[hr];simp)]
  refine go ?_
  refine ad hE Tryz.func207 zr zr (.inl ⟨hn,rfl,rfl⟩)
 | true =>
  have hs:cM b k=some ((gC k.toNat b.length b).map cQ):=by unfold cM;rw[if_pos hr]
  have wI:=kZ hs
  simp only[bz,decide_eq_true_eq]at hr
  obtain⟨k,rfl⟩:∃m:Nat,k=m:=⟨k.toNat,ag⟩
  rw[Int.toNat_natCast]at hs wI
  refine go ?_
  refine aH (Hd a b.length c (k:Int)) ?_
  rintro _ _⟨b1,b2,rfl,rfl⟩
  refine go ?_
  refine aH (Dc 245 [ptr b1,ptr b2] _ [ae b1 (cl [.slice a b.length c] 22),ae b2 (cl [.int .i64 (k:Int)] 3),A] [A] ag (Eu A hK b1 b2 _ b hv hl k ag ag)) ?_
  rintro rv _ rfl
  refine go ?_
  refine ad hE Tryz.func207 zr zr (.inr ⟨_,_,hs,rfl,rfl⟩)
def uw{P:Program}{f:FuncId}{n:Nat}{R:Ending→World→Prop}{G:cJ}{k:List Item}{L:fJ}{H:List HP}{S:World→Prop}{all:Array Oper}{rest:Pl}{e:TypeId}{sz nn:Nat}{v:Value}{cs:List Value}{A:HP}(h:Vw (aB e sz v nn cs) v nn cs→J P f n R G S all rest k L (Sep [aB e sz v nn cs,A]::H)):J P f n R G S all rest k L (aB e sz v nn cs::A::H) :=
 zK fun w hw=>by
  obtain⟨h1,_,hA⟩:=hw.lf (i:=0) rfl
  exact aI (al.bS [_,_] _) (h (Vw.oT e sz v nn cs ⟨h1,hA⟩))
def Qh(A:HP)(hK:oG A)(v:Value)(b:List UInt8)(hv:eM A v b)(hl:b.length≤900000000)(k:Int) :
  aE Tryz.prog 170 [v,.int .i64 k] [A] (fun r H=>r=(match eu b k with
   | none => .tuple #[eL Bl.zero,.int .i64 1]
   | some x => .tuple #[eL x,.int .i64 0])∧H=[A]):=by
 have o4:=hv
 obtain⟨a,c,rfl,hc⟩:=hv.2
 refine aE.ao Tryz.func170 Tryz.ntmps170 fun G F R hE=>?_
 refine aD rfl ?_
 refine az zr zr zr bD ?_
 intro b4
 refine go ?_
 refine aH (Ik A hK _ b hv hl k) ?_
 rintro _ _ (⟨hn,rfl,rfl⟩|⟨ls,rv,hs,rfl,rfl⟩)
 ·have hb:eu b k=none:=by unfold eu;rw[hn];rfl
  rw[hb]at hE
  refine go ?_
  (refine aY hE ?_;apply aU (U:=aQ) hE Tryz.func170 rfl (al.refl _);(repeat(first|exact aN.nil|apply aN.tmp rfl|apply aN.agg 1 zr zr zr zr zr));exact⟨rfl,rfl⟩;exact ah)
 ·have hb:eu b k=some ⟨dK b,b.length,k,rO ls⟩:=by unfold eu;rw[hs];rfl
  rw[hb]at hE
  have wI:=kZ hs
  refine aO 0 rfl ?_
  rintro ra rc rfl
  refine go ?_
  refine aJ (xo A hK _ b hv ag) ?_
  refine go ?_
  refine aI (al.pick [1,0] rfl) ?_
  refine uw fun dE=>?_
  ((refine aH (PO _ (hK.mono (bg (i:=1) rfl)) _ ls (dE.mono (bg (i:=0) rfl)) ag (by intro e;rw[e]at wI;simp at wI)) ?_))
  rintro _ _⟨rfl,rfl⟩
  refine aI (al.cD _ _) (go ?_)
  (refine aY hE ?_;apply aU (U:=aQ) hE Tryz.func170 rfl (al.refl _);(repeat(first|exact aN.nil|apply aN.tmp rfl|apply aN.agg 2 zr zr zr zr zr));exact⟨rfl,rfl⟩;exact ah)
def Yx(x:Bl):((bH x).drop 0).take 32=dC x.d:=rfl
def Sk(x:Bl):((bH x).drop 34).take 32=dC x.root:=rfl
def aci(x:Bl):(bH x).toArray[32]?=some (.int .i64 x.size):=rfl
def ach(x:Bl):(bH x).toArray[33]?=some (.int .i64 x.piece):=rfl
def YB : Tryz.prog.fieldsOf 37 = #[{ name := "Digest", type := 35, offset := 0, embedded := false, tag := "", pkgPath := "", byteOffset := 0 },
        { name := "Size", type:=3,offset:=32,embedded:=false,tag := "", pkgPath := "", byteOffset:=32 },
        { name := "Piece", type:=3,offset:=33,embedded:=false,tag := "", pkgPath := "", byteOffset:=40 },
        { name := "Root", type:=35,offset:=34,embedded:=false,tag := "", pkgPath := "", byteOffset:=48 }]:=by kernel_rfl
def YA:Tryz.prog.underlying 37=some (.struct (Tryz.prog.fieldsOf 37)):=by kernel_rfl
def Sl:Tryz.prog.stoodInHeld 37=false:=by kernel_rfl
def aeh:Tryz.prog.cellsOf 35=32:=by kernel_rfl
def Yy:Tryz.prog.cellsOf 5=1:=by kernel_rfl
def aeg:Tryz.prog.plainKey 3=true:=by kernel_rfl
def Yl:Tryz.prog.eqGuardType Tryz.prog.depth 37=false:=by kernel_rfl
def ab'{P : Program}(h1 : P.fieldsOf 37 = #[{ name := "Digest", type := 35, offset := 0, embedded := false, tag := "", pkgPath := "", byteOffset := 0 },
        { name := "Size", type:=3,offset:=32,embedded:=false,tag := "", pkgPath := "", byteOffset:=32 },
        { name := "Piece", type:=3,offset:=33,embedded:=false,tag := "", pkgPath := "", byteOffset:=40 },
        { name := "Root", type:=35,offset:=34,embedded:=false,tag := "", pkgPath := "", byteOffset:=48 }])(h2:P.underlying 37=some (.struct (P.fieldsOf 37)))(h3:P.stoodInHeld 37=false)(h4:P.cellsOf 35=32)(h5:P.cellsOf 5=1)(h6:P.plainKey 3=true)(h7:P.underlying 35=some (.array 32 5))(h8:P.underlying 5=some (.int .u8))(h9:P.underlying 3=some (.int .i64))(x y:Bl)(D:Nat)(w:World) :
    (Op.equalIn (D+2+1) 37 (eL x) (eL y)).run P w = .ok (decide (x=y)) w:=by
  unfold eL
  rw[run_equalIn_struct w (D+2) 37 _ _ h2 h3,h1]
  have h:=zZ (P:=P) (td:=35) (ti:=3) (f1:={ name := "Digest", type:=35,offset:=0,embedded:=false,tag := "", pkgPath := "", byteOffset:=0 })
    (f2:={ name := "Size", type:=3,offset:=32,embedded:=false,tag := "", pkgPath := "", byteOffset:=32 }) (f3:={ name := "Piece", type:=3,offset:=33,embedded:=false,tag := "", pkgPath := "", byteOffset:=40 })
    (f4:={ name := "Root", type:=35,offset:=34,embedded:=false,tag := "", pkgPath := "", byteOffset:=48 }) (by decide) (by decide) (by decide) (by decide) (D+2) w (bH x) (bH y) x.d y.d x.root y.root x.size y.size x.piece y.piece
    (fun a b=>sC h7 h8 h5 a b D w) (fun a b=>Kl h9 a b (D+1) w) zr zr zr zr
    (wY h7 h4 _ 0 _ (Yx x) w) (wY h7 h4 _ 0 _ (Yx y) w) (Go.run_part_plain w h6 (aci x)) (Go.run_part_plain w h6 (aci y)) (Go.run_part_plain w h6 (ach x)) (Go.run_part_plain w h6 (ach y)) (wY h7 h4 _ 34 _ (Sk x) w) (wY h7 h4 _ 34 _ (Sk y) w)
  refine Eq.trans h ?_
  congr 1
  rw[decide_eq_decide]
  obtain⟨d1,s1,p1,r1⟩:=x
  obtain⟨d2,s2,p2,r2⟩:=y
  simp
def Yp(x y:Bl)(w:World):(Op.equal 37 (eL x) (eL y)).run Tryz.prog w = .ok (decide (x=y)) w :=
 ab' YB YA Sl aeh Yy aeg Tryz.underlying35 Tryz.underlying5 Tryz.underlying3 x y 9997 w
def LW(A:HP)(hK:oG A)(x:Bl)(v:Value)(b:List UInt8)(hv:eM A v b)(hl:b.length≤900000000) :
  aE Tryz.prog 110 [eL x,v] [A] (fun r H=>r = .bool (dX x b)∧H=[A]):=by
 have o4:=hv
 obtain⟨a,c,rfl,hc⟩:=hv.2
 have iC:=Qh A hK _ b hv hl x.piece
 unfold eL at iC ⊢
 refine aE.ao Tryz.func110 Tryz.ntmps110 fun G F R hE=>?_
 refine aD rfl ?_
 refine bG zr zr bD ?_
 intro b2
 refine go ?_
 refine aJ iC ?_
 cases hb:eu b x.piece with
 | none =>
  have hw:dX x b=false:=by unfold dX;rw[hb];rfl
  rw[hw]at hE
  refine go ?_
  refine az zr zr zr bD ?_
  intro b5
  refine go ?_
  refine ad hE Tryz.func110 zr zr ⟨rfl,rfl⟩
 | some y =>
  have hw:dX x b=decide (x=y):=by unfold dX;rw[hb];simp only[Option.some.injEq];rw[decide_eq_decide];exact eq_comm
  rw[hw]at hE
  simp only
  refine go ?_
  refine az zr zr zr bD ?_
  intro b5
  refine go ?_
  (repeat(first|refine gy ?_|refine aG (U:=aQ) (l:=bH x) 2 zr zr zr zr zr zr ?_|refine aG (U:=aQ) (l:=bH y) 0 zr zr zr zr zr zr ?_|refine kT (b:=decide (x=y)) zr zr zr Yl (fun w=>Yp x y w) ?_))
  refine ad hE Tryz.func110 zr zr ⟨rfl,rfl⟩
end Go.Proofs.YtedjnjkijiddlaaGreatDoor
namespace Go.Proofs.YtedjnjkijiddlaaGreatDoor
open Go Go.SL
attribute [local irreducible] J K aE Ends ae aB aP bP bq aS aZ bu bX
def mH{P:Program}{f:FuncId}{n:Nat}{R:Ending→World→Prop}{G:cJ}{k:List Item}{L:fJ}{H:List HP}{e:TypeId}{sz nn c:Nat}{a:Option Addr}{cs:List Value}(i:Nat)(hi:cE H i=some (aB e sz (.slice a nn c) nn cs))(h:nn≤c→K P f n R G k L H):K P f n R G k L H :=
 sk fun⟨w,hw⟩=>by
  obtain⟨h1,_,hA⟩:=hw.lf hi
  exact h (II hA)
def ni(X:HP)(v:Value)(l:List It)(hv:uD X v l)(hl:l.length≤100)(hr:fF 0 (l.map It.p)=true)(hs:(eA (l.map It.p)).length≤65536) :
    aE Tryz.prog 157 [v] [X] (fun r H=>∃rv,r = .tuple #[rv,.int .i64 0]∧H=[aB 5 1 rv (eA (l.map It.p)).length (bV (eA (l.map It.p))),X]):=by
  obtain⟨dE,hvb⟩:=hv
  obtain⟨a,c,rfl⟩:=dE.shape
  refine aE.ao Tryz.func157 Tryz.ntmps157 fun G F R hE=>?_
  refine go ?_
  refine ai (bN 5 1 none _) ?_
  refine bB (fun y:Nat × List UInt8 × Option Addr × Nat=>y.1≤l.length∧y.2.1=eA ((l.map It.p).take y.1)) (fun y=>l.length-y.1)
    (fun y=>[(4,.slice y.2.2.1 y.2.1.length y.2.2.2),(5,.int .i64 (nQ (l.map It.p) y.1)),(8,.slice a l.length c),(9,.int .i64 (l.length:Int)),(10,.int .i64 (y.1:Int))])
    (fun y=>aB 5 1 (.slice y.2.2.1 y.2.1.length y.2.2.2) y.2.1.length (bV y.2.1)::X::F) (0,[],none,0) ⟨Nat.zero_le _,rfl⟩ rfl cg ah ?_
  rintro⟨i,acc,a1,c1⟩⟨hi,wM⟩ ih
  simp only at hi wM
  have O9:=AS (l.map It.p) i
  rw[← wM]at O9
  refine go ?_
  refine aq zr zr ?_ ?_
  case' refine_2 =>
    intro fA
    simp only at fA
    have iK:acc=eA (l.map It.p):=by rw[wM,List.take_of_length_le (by rw[List.length_map];omega)]
    subst iK
    refine go ?_
    refine ad hE Tryz.func157 zr zr ⟨_,rfl,rfl⟩
  intro de
  simp only at de
  have gl:i<l.length:=by omega
  obtain⟨x,hx⟩:∃x,l[i]?=some x:=⟨l[i],by simp⟩
  have Qr:(l.map It.p)[i]?=some x.p:=by rw[List.getElem?_map,hx];rfl
  obtain⟨Co,zW⟩:=Nr _ 0 i x.p hr Qr
  have Co:nQ (l.map It.p) i<x.n:=Co
  have zW:x.n≤63:=zW
  have rI:=yz Qr
  have wL:=hvb x (List.mem_of_getElem? hx)
  obtain⟨xn,xv,xb⟩:=x
  simp only at Co zW wL
  have rI:nQ (l.map It.p) (i+1)=xn:=rI
  obtain⟨xa,xc,rfl,hxc⟩:=wL.2
  have ht:eA ((l.map It.p).take (i+1))=acc++me (xn,xb):=by
    rw[List.take_add_one,Qr,Option.toList_some,D2,← wM];simp[eA,It.p]
  have aea:=AS (l.map It.p) (i+1)
  rw[ht,List.length_append]at aea
  have Lg:(me (xn,xb)).length=1+(uv xb.length).length+xb.length:=by simp only[me,List.length_cons,List.length_append];omega
  obtain⟨b,o,c',he⟩:=dE.some (by rw[← List.length_pos_iff,cI js];omega)
  simp only[Value.slice.injEq,true_and]at he
  obtain⟨rfl,rfl⟩:=he
  refine go ?_
  refine cL i 2 zr zr zr zr zr zr zr zr gl ?_
  refine dm (U:=aQ) (es:=lQ ⟨xn,.slice xa xb.length xc,xb⟩) 1 (i*2) zr zr zr dE rfl (fun j v hj=>?_) zr zr zr ?_
  · have xe:j<2:=by
      rcases Nat.lt_or_ge j 2 with h|h
      · exact h
      · rw[List.getElem?_eq_none (by rw[js];exact h)]at hj;cases hj
    rw[cR js hx j xe];exact hj
  refine az zr zr zr bD ?_
  intro bd
  repeat'(first|(with_reducible intro pM)|refine gy ?_|refine ie zr zr zr zr ?_ ?_|refine aq zr zr ?_ ?_)
  any_goals (exfalso;simp only at *;omega)
  rename_i h1 h2 h3
  simp only at h1 h2 h3
  obtain⟨xm,rfl⟩:∃m:Nat,xn=m:=⟨xn.toNat,by
    have:0<xn:=Nq _ 0 hr (Int.le_refl _) _ (List.mem_of_getElem? Qr)
    omega⟩
  refine go ?_
  refine aF (fun w=>Sat G w ([X,ae bd (cl [.int .i64 (xm:Int),.slice xa xb.length xc] 207)])) (cZ 0 3 (cZ 5 4 (.st 11 (.st 12 (.act 3 (.act 4 (.act 9 (.act 10 (.act 13 (.st 14 .nil)))))))))) rfl ak ak ak dT ?_
  refine FP (U:=aQ) rfl ?_
  refine ez ?_
  refine il zr zr zr zr zr zr ?_
  refine au 36 ((u8 (UInt8.ofNat xm))) rfl ((lN xm)) (go ?_)
  refine aj (cs:=bV [UInt8.ofNat xm]) zr zr zr zr zr zr zr zr zr (fun _ w hw=>hw.cV ah) ?_
  intro row
  refine go ?_
  refine aR (mm:=1) (news:=bV [UInt8.ofNat xm]) 2 0 zr zr zr zr zr zr zr zr zr zr zr zr (Vw.ae rfl) rfl (cX _) (by simp only;omega) (by show(_+_)*1≤_;simp only;omega) (fun _=>rfl) (fun _ w hw=>hw.cV ah) ?_
  intro v1
  simp only
  rw[show bV acc++bV [UInt8.ofNat xm]=bV (acc++[UInt8.ofNat xm])from by simp[bV],show acc.length+1=(acc++[UInt8.ofNat xm]).length from by simp]
  refine aO 2 rfl ?_
  rintro a2 c2 rfl
  refine go ?_
  refine cN (mC xb.length ag) ?_
  rintro r _ rfl
  refine aO 0 rfl ?_
  rintro ra rc rfl
  refine iy 0 rfl ?_
  intro MJ
  refine go ?_
  refine aR (mm:=(uv xb.length).length) (news:=bV (uv xb.length)) 3 0 zr zr zr zr zr zr zr zr zr zr zr zr MJ (by show _=_*1;rw[bC];omega) (cX _) (by simp only[List.length_append,List.length_singleton];omega) (by show(_+_)*1≤_;simp only[List.length_append,List.length_singleton];omega) (fun _=>rfl) (fun _ w hw=>hw.cV ah) ?_
  intro v2
  rw[show bV (acc++[UInt8.ofNat xm])++bV (uv xb.length)=bV (acc++[UInt8.ofNat xm]++uv xb.length)from by simp[bV],show(acc++[UInt8.ofNat xm]).length+(uv xb.length).length=(acc++[UInt8.ofNat xm]++uv xb.length).length from by simp;omega]
  refine aO 3 rfl ?_
  rintro a3 c3 rfl
  refine go ?_
  refine aR (mm:=xb.length) (news:=bV xb) 3 4 zr zr zr zr zr zr zr zr zr zr zr zr wL.1 (by show _=_*1;rw[bC];omega) (cX _) (by simp only[List.length_append,List.length_singleton];omega) (by show(_+_)*1≤_;simp only[List.length_append,List.length_singleton];omega) (fun _=>rfl) (fun _ w hw=>hw.cV ah) ?_
  intro v3
  rw[show bV (acc++[UInt8.ofNat xm]++uv xb.length)++bV xb=bV (acc++me (xm,xb))from by simp[bV,me],show(acc++[UInt8.ofNat xm]++uv xb.length).length+xb.length=(acc++me (xm,xb)).length from by simp[me];omega]
  refine aO 3 rfl ?_
  rintro a4 c4 rfl
  refine go ?_
  refine aq zr zr ?_ ?_
  · intro tQ;exfalso;simp only[List.length_append]at tQ;omega
  intro _
  refine go ?_
  refine aX 5 ((.int .i64 (nQ (l.map It.p) (i+1)))) rfl ((congrArg (Value.int .i64) rI.symm)) ?_
  refine aM ih (i+1,acc++me (xm,xb),a4,c4) rfl ⟨by simp only;omega,by simp only;rw[ht]⟩ (by simp only;omega) cg ah
def KW(v:Value)(h1:∃a n c,v = .slice a n c):aE Tryz.prog 219 [v] [] (fun r H=>∃b,r = .func (.func 241) #[] #[ptr b]∧H=[ae b (cl [v] 22)]):=by
 obtain⟨a,n,c,rfl⟩:=h1
 refine aE.ao Tryz.func219 Tryz.ntmps219 fun G F R hE=>?_
 refine go ?_
 refine bG zr zr bD ?_
 intro b
 refine go ?_
 refine ad hE Tryz.func219 zr zr ⟨b,rfl,rfl⟩
def Hg(A:HP)(bx:Nat)(v:Value)(bs:List UInt8)(hv:eM A v bs)(hl:bs.length≤1000000000)(l:Nat)(Lp LpD acx:HP)(Inv:Nat→HP)(vf:Nat→Bool)(hy:∀i x,(eX bs)[i]?=some x→(∀j,j<i→vf j=true)→∀r,(∃a n c,r = .slice a n c)→bX Tryz.prog l [.agg #[.int .i64 x.1,r] ] [Lp,Inv i,aB 5 1 r x.2.length (bV x.2)]
      (fun v H=>(vf i=true∧v = .bool true∧H=[Lp,Inv (i+1)])∨(vf i=false∧v = .bool false∧H=[LpD,acx]))) :
    aE Tryz.prog 241 [.func (.yield l) #[] #[],ptr bx] [Lp,Inv 0,ae bx (cl [v] 22),A]
      (fun _ H=>((∀i,i<(eX bs).length→vf i=true)∧H=[Lp,Inv (eX bs).length,A])∨((∃i,i<(eX bs).length∧vf i=false)∧H=[LpD,acx,A])):=by
  refine aE.ao Tryz.func241 Tryz.ntmps241 fun G F R hE=>?_
  refine bB (fun y:Value × List UInt8 × Nat=>eM A y.1 y.2.1∧y.2.1.length≤bs.length∧(eX bs).drop y.2.2=eX y.2.1∧y.2.2≤(eX bs).length∧∀j,j<y.2.2→vf j=true) (fun y=>y.2.1.length)
    (fun _=>[(0,.func (.yield l) #[] #[]),(1,ptr bx)])
    (fun y=>Lp::Inv y.2.2::ae bx (cl [y.1] 22)::A::F) (v,bs,0) ⟨hv,Nat.le_refl _,by simp,Nat.zero_le _,fun j hj=>absurd hj (Nat.not_lt_zero j)⟩ rfl cg ah ?_
  rintro⟨v1,rest,i⟩⟨mf,Co,zW,Y4,RN⟩ ih
  simp only at mf Co zW Y4 RN
  obtain⟨a,c,rfl,hc⟩:=mf.2
  refine go ?_
  match rest,zW,mf,Co,hc,ih with
  | [],zW,mf,Co,hc,ih =>
    have mh:i=(eX bs).length:=by
      rw[xL]at zW
      have:(eX bs).length≤i:=by simpa using zW
      omega
    subst mh
    refine go ?_
    refine bW hE Tryz.func241 rfl _ rfl (.inl ⟨RN,rfl⟩) ah
  | c0::rst,zW,mf,Co,hc,ih =>
    have lK:=mf.cut 1 (by simp)
    rw[List.drop_succ_cons,List.drop_zero]at lK
    ((refine aX 8 ((.bool true)) rfl ((congrArg Value.bool (decide_eq_true (by simp only[List.length_cons];omega)))) ?_))
    refine go ?_
    refine bh (p:=1) (q:=((c0::rst).length:Int)) zr zr zr zr zr zr zr ag (by simp only[List.length_cons];omega) (.inl rfl) ?_
    ((refine au 11 ((.slice (sliceAt a c 1 1) rst.length (c-1))) rfl ((by rw[show((c0::rst).length:Int).toNat=rst.length+1 from by simp[List.length_cons],show(1:Int).toNat=1 from rfl,show rst.length+1-1=rst.length by omega];rfl)) ?_))
    ((refine aH (Jw A _ rst lK.1 lK.2 (by simp only[List.length_cons]at Co;omega)) ?_))
    rintro _ _⟨rv,rfl,Qu,rfl⟩
    have Qu:eM A rv (dr rst).2.1:=Qu
    have lA:=qv rst
    have EF:rst.length<1000000000:=by simp only[List.length_cons]at Co;omega
    have EN:∀x,eX (c0::rst)=x::eX ((dr rst).2.1.drop (dr rst).1)∨eX (c0::rst)=[x]→(eX bs)[i]?=some x:=by
      intro x hx
      have:=congrArg (fun l=>l[0]?) zW
      simp only[List.getElem?_drop,Nat.add_zero]at this
      rw[this]
      rcases hx with h|h <;> rw[h] <;> rfl
    obtain⟨ra,rc,rfl,OG⟩:=Qu.2
    by_cases kC:(dr rst).2.2=true∧(dr rst).1≤(dr rst).2.1.length
    · have yR:=AG (c:=c0) kC
      have hx:=EN _ (.inl yR)
      rw[kC.1]
      have xg:=Qu.front (dr rst).1 kC.2
      have xh:=Qu.cut (dr rst).1 kC.2
      have lx:=(List.getElem?_eq_some_iff.1 hx).1
      refine go ?_
      refine aq zr zr ?_ ?_
      · intro tQ;exfalso;omega
      intro _
      have lu:0<(c0::rst).length:=by simp only[List.length_cons];omega
      obtain⟨ba,oa,ca,gk⟩:=PA mf.1 lu
      simp only[Value.slice.injEq,true_and]at gk
      obtain⟨rfl,rfl⟩:=gk
      obtain⟨n,hn⟩:∃n,n=(dr rst).1:=⟨_,rfl⟩
      have ME:((dr rst).2.1.take n).length=n:=by rw[hn,List.length_take];omega
      rw[← hn]at xg xh yR hx kC ⊢
      have Tw:c0.toNat<256:=c0.toNat_lt
      have EJ:=kC.2
      have aey:rst.length+1≤bs.length:=Co
      refine aF (fun w=>Sat G w ([A,ae bx (cl [.slice (some ⟨ba,oa,none⟩) (c0::rst).length c] 22)])) (cZ 0 8 (.act 8 (.st 9 (.act 10 (.st 11 .nil))))) rfl ak ak ak dT ?_
      refine go ?_
      refine bM 0 zr zr zr zr zr zr zr zr lu (go ?_)
      refine aK ?_
      refine cO 0 0 zr zr zr mf.1 rfl (show(bV (c0::rst))[0]?=some (u8 c0)from rfl) zr zr (go ?_)
      refine bh (p:=0) (q:=(n:Int)) zr zr zr zr zr zr zr ag ag (.inr ag) ?_
      ((refine au 35 ((.slice (sliceAt ra rc 0 1) ((dr rst).2.1.take n).length rc)) rfl ((by rw[ME,show((n:Int)).toNat=n from by omega];rfl)) ?_))
      have xg:eM A (.slice (sliceAt ra rc 0 1) ((dr rst).2.1.take n).length rc) ((dr rst).2.1.take n):=by rw[ME];exact xg
      refine cN (lk A _ ((dr rst).2.1.take n) xg.1 ag) ?_
      rintro r _ rfl
      refine aO 0 rfl ?_
      rintro rr rrc rfl
      refine go ?_
      refine kQ rfl rfl rfl (hy i _ hx RN (.slice rr ((dr rst).2.1.take n).length rrc) ⟨_,_,_,rfl⟩) ah ?_ (fun _ _ w hp hw=>by rcases hp with⟨_,_,rfl⟩|⟨_,_,rfl⟩ <;> exact hw.cV ah)
      rintro _ _ (⟨hg,rfl,rfl⟩|⟨hg,rfl,rfl⟩)
      · refine go ?_
        refine bh (p:=(n:Int)) (q:=((dr rst).2.1.length:Int)) zr zr zr zr zr zr zr ag ag (.inl rfl) ?_
        ((refine au 42 ((.slice (sliceAt ra rc n 1) ((dr rst).2.1.length-n) (rc-n))) rfl ((by rw[show((n:Int)).toNat=n from by omega,show(((dr rst).2.1.length:Int)).toNat=(dr rst).2.1.length from by omega];rfl)) ?_))
        refine go ?_
        have pK:(eX bs).drop (i+1)=eX ((dr rst).2.1.drop n):=by
          have:=congrArg (fun l=>l.drop 1) zW
          simp only[yR,List.drop_drop]at this
          simpa using this
        refine aM ih (.slice (sliceAt ra rc n 1) ((dr rst).2.1.length-n) (rc-n),(dr rst).2.1.drop n,i+1) rfl (⟨xh,by simp only[List.length_drop];omega,pK,by simp only;omega,fun j hj=>by
          rcases Nat.lt_or_ge j i with h|h
          · exact RN j h
          · rw[show j=i by simp only at hj;omega];exact hg⟩) (by simp only[List.length_drop,List.length_cons];omega) cg ah
      · refine go ?_
        refine ad hE Tryz.func241 zr zr (.inr ⟨⟨i,lx,hg⟩,rfl⟩)
    · have lL:=Dy (c:=c0) kC
      have hx:=EN _ (.inr lL)
      cases adt:(dr rst).2.2 with
      | false =>
        refine go ?_
        refine aI (bN 5 1 none _) ?_
        refine kQ zr zr zr (hy i (0,[]) hx RN (.slice none 0 0) ⟨_,_,_,rfl⟩) ah ?_ mM
        rintro _ _ (⟨hg,rfl,rfl⟩|⟨hg,rfl,rfl⟩)
        · refine go ?_
          have mh:i+1=(eX bs).length:=by
            have:=congrArg List.length zW
            rw[lL,List.length_drop]at this
            simp only[List.length_singleton]at this
            omega
          rw[mh]
          have fH:∀j,j<(eX bs).length→vf j=true:=fun j hj=>by
            rcases Nat.lt_or_ge j i with h|h
            · exact RN j h
            · rw[show j=i by omega];exact hg
          refine ad hE Tryz.func241 zr zr (.inl ⟨fH,rfl⟩)
        · refine go ?_
          have lx:=(List.getElem?_eq_some_iff.1 hx).1
          refine ad hE Tryz.func241 zr zr (.inr ⟨⟨i,lx,hg⟩,rfl⟩)
      | true =>
        have MG:¬(dr rst).1≤(dr rst).2.1.length:=fun h=>kC ⟨adt,h⟩
        refine go ?_
        refine aq zr zr ?_ ?_
        case' refine_2=>(intro h;exfalso;omega)
        intro _
        refine go ?_
        refine aI (bN 5 1 none _) ?_
        refine kQ zr zr zr (hy i (0,[]) hx RN (.slice none 0 0) ⟨_,_,_,rfl⟩) ah ?_ mM
        rintro _ _ (⟨hg,rfl,rfl⟩|⟨hg,rfl,rfl⟩)
        · refine go ?_
          have mh:i+1=(eX bs).length:=by
            have:=congrArg List.length zW
            rw[lL,List.length_drop]at this
            simp only[List.length_singleton]at this
            omega
          rw[mh]
          have fH:∀j,j<(eX bs).length→vf j=true:=fun j hj=>by
            rcases Nat.lt_or_ge j i with h|h
            · exact RN j h
            · rw[show j=i by omega];exact hg
          refine ad hE Tryz.func241 zr zr (.inl ⟨fH,rfl⟩)
        · refine go ?_
          have lx:=(List.getElem?_eq_some_iff.1 hx).1
          refine ad hE Tryz.func241 zr zr (.inr ⟨⟨i,lx,hg⟩,rfl⟩)
end Go.Proofs.YtedjnjkijiddlaaGreatDoor
namespace Go.Proofs.YtedjnjkijiddlaaGreatDoor
open Go Go.SL
def DI(b2 b3 b4 b5:Nat)(xs:List (Int × List UInt8))(i:Nat):HP:=fun h=>∃x:List It × HP × Value,(x.1.map It.p=xs.take i∧∀y∈x.1,eM x.2.1 y.v y.b) ∧
 Sep [ae b2 (cl [.slice none 0 0] 208),ae b3 (cl [.int .i64 0] 25),ae b4 (cl [x.2.2] 208),ae b5 (cl [.int .i64 (nQ xs i)] 3),aB 207 2 x.2.2 x.1.length (x.1.flatMap lQ),x.2.1] h
def J1(b2 b3 b4 b5:Nat)(xs:List (Int × List UInt8))(i:Nat):∀h,DI b2 b3 b4 b5 xs i h→∃x:List It × HP × Value,(x.1.map It.p=xs.take i∧∀y∈x.1,eM x.2.1 y.v y.b) ∧
 Sep [ae b2 (cl [.slice none 0 0] 208),ae b3 (cl [.int .i64 0] 25),ae b4 (cl [x.2.2] 208),ae b5 (cl [.int .i64 (nQ xs i)] 3),aB 207 2 x.2.2 x.1.length (x.1.flatMap lQ),x.2.1] h:=fun h hs=>hs
def FT(b2 b3 b4 b5:Nat)(xs:List (Int × List UInt8))(i:Nat)(fQ:List It)(Z:HP)(v:Value)(h1:fQ.map It.p=xs.take i)(h2:∀y∈fQ,eM Z y.v y.b)(H:List HP) :
  al (ae b2 (cl [.slice none 0 0] 208)::ae b3 (cl [.int .i64 0] 25)::ae b4 (cl [v] 208)::ae b5 (cl [.int .i64 (nQ xs i)] 3)::aB 207 2 v fQ.length (fQ.flatMap lQ)::Z::H) (DI b2 b3 b4 b5 xs i::H) :=
 al.fold (A:=DI b2 b3 b4 b5 xs i) (B:=[ae b2 (cl [.slice none 0 0] 208),ae b3 (cl [.int .i64 0] 25),ae b4 (cl [v] 208),ae b5 (cl [.int .i64 (nQ xs i)] 3),aB 207 2 v fQ.length (fQ.flatMap lQ),Z]) fun h hs=>⟨h,sub.refl h,(fQ,Z,v),⟨h1,h2⟩,hs⟩
def DE(b2 b3:Nat):HP:=Sep [ae b2 (cl [.slice none 0 0] 208),ae b3 (cl [.int .i64 2] 25)]
def FU(b2 b3:Nat)(H:List HP):al (ae b2 (cl [.slice none 0 0] 208)::ae b3 (cl [.int .i64 2] 25)::H) (DE b2 b3::H):=al.bS [ae b2 (cl [.slice none 0 0] 208),ae b3 (cl [.int .i64 2] 25)] H
def SF(b2 b3:Nat)(H:List HP):al (DE b2 b3::H) (ae b2 (cl [.slice none 0 0] 208)::ae b3 (cl [.int .i64 2] 25)::H):=al.cD [ae b2 (cl [.slice none 0 0] 208),ae b3 (cl [.int .i64 2] 25)] H
attribute [local irreducible] J K aE Ends ae aB aP bP bq aS aZ bu bX DI DE
def nj(A:HP)(v:Value)(bs:List UInt8)(hv:eM A v bs)(hl:bs.length≤1000000000) :
  aE Tryz.prog 198 [v] [A] (fun r H=>(pJ bs=none∧r = .tuple #[.slice none 0 0,.int .i64 2]∧H=[A])∨(∃(xs:List (Int × List UInt8)) (fQ:List It) (Z:HP) (rv:Value),pJ bs=some xs∧fQ.map It.p=xs∧uD Z rv fQ∧r = .tuple #[rv,.int .i64 0]∧H=[Z,A]∧∃ra rc,rv = .slice ra fQ.length rc∧fQ.length≤rc)):=by
 obtain⟨a,c,rfl,hc⟩:=hv.2
 have rF:pJ bs=if 65536<bs.length then none else if fF 0 (eX bs)then some (eX bs)else none:=rfl
 refine aE.ao Tryz.func198 Tryz.ntmps198 fun G F R hE=>?_
 refine aD rfl ?_
 refine az zr zr zr bD ?_
 intro b2
 refine az zr zr zr bD ?_
 intro b3
 refine go ?_
 refine aq zr zr ?_ ?_
 ·intro tQ
  have tQ:65536<bs.length:=by omega
  rw[if_pos tQ]at rF
  refine go ?_
  refine aY hE ?_
  refine sX (U:=aQ) 1 0 hE Tryz.func198 zr zr zr zr zr zr zr zr (al.refl _) zr zr (.inl ⟨rF,rfl,rfl⟩) ah
 intro Ae
 have Ae:¬65536<bs.length:=by omega
 rw[if_neg Ae]at rF
 refine go ?_
 refine az zr zr zr bD ?_
 intro b4
 refine go ?_
 refine az zr zr zr bD ?_
 intro b5
 refine go ?_
 refine aH (KW _ ⟨a,_,c,rfl⟩) ?_
 rintro _ _⟨bx,rfl,rfl⟩
 refine go ?_
 refine fL rfl ?_
 refine ai (al.trans (al.bS [] _) (al.trans (bN 207 2 none _) (al.trans ah (FT b2 b3 b4 b5 (eX bs) 0 [] (Sep []) (.slice none 0 0) rfl (by simp) (ae bx (cl [.slice a bs.length c] 22)::A::F))))) ?_
 refine qF (Fr:=F) (Pre:=fun _ _=>[DI b2 b3 b4 b5 (eX bs) 0,ae bx (cl [.slice a bs.length c] 22),A]) (fun _ _ Lp v H=>((∀i,i<(eX bs).length→tV (eX bs) i=true)∧H=[Lp .ready none,DI b2 b3 b4 b5 (eX bs) (eX bs).length,A])∨((∃i,i<(eX bs).length∧tV (eX bs) i=false)∧H=[Lp .done (some .ret),DE b2 b3,A])) rfl hE.1.1 rfl ?c (fun l r=>ah) ?iK
 case c =>
  intro l r
  refine aE.pre (Hg A bx _ bs hv hl l _ _ (DE b2 b3) (DI b2 b3 b4 b5 (eX bs)) (tV (eX bs)) ?hy) ah
  case hy =>
   intro i x hx RN rv Qu
   obtain⟨va,vn,vc,rfl⟩:=Qu
   refine bX.Eg zr zr ?_
   intro G2 F2 R2 hY
   refine aD rfl ?_
   refine az zr zr zr bD ?_
   intro b6
   refine go ?_
   refine ai (al.pick [1] rfl) ?_
   refine gn rfl hY ?_
   refine ai (al.pick [2] rfl) ?_
   refine eG (J1 b2 b3 b4 b5 (eX bs) i) ?_
   rintro⟨fQ,Z,vi⟩⟨pP,vY⟩
   simp only at pP vY
   have Tn:=yY hx
   obtain⟨xn,xb⟩:=x
   simp only at Tn
   have wI:=yz hx
   refine dz 4 rfl ?_
   intro ia ic Xk
   simp only at Xk
   subst Xk
   simp only
   refine ai (al.pick [7,0,1,2,3] rfl) ?_
   repeat'(first|(with_reducible intro pM)|refine gy ?_|refine ie zr zr zr zr ?_ ?_|refine aq zr zr ?_ ?_)
   ·have lL:tV (eX bs) i=false:=by rw[Tn,decide_eq_false ag,Bool.false_and]
    refine ai (al.trans (al.pick [1,2] rfl) (FU b2 b3 _)) ?_
    refine zH hY rfl ah (.inr ⟨lL,rfl,rfl⟩)
   ·have lL:tV (eX bs) i=false:=by rw[Tn,decide_eq_false (show ¬xn≤63 by omega),Bool.and_false]
    refine ai (al.trans (al.pick [1,2] rfl) (FU b2 b3 _)) ?_
    refine zH hY rfl ah (.inr ⟨lL,rfl,rfl⟩)
   ·rename_i h1
    have lE:tV (eX bs) i=true:=by rw[Tn,decide_eq_true ag,decide_eq_true ag];rfl
    refine aT ?_
    refine cq 4 gB zr zr zr zr zr zr zr zr zr (go ?_)
    refine dH 0 zr zr zr zr zr zr (go ?_)
    refine gQ (bs:=xb) 8 rfl ?_
    intro wL
    obtain⟨_,_,hvx,hxc⟩:=wL.2
    simp only[Value.slice.injEq,true_and]at hvx
    obtain⟨-,rfl,rfl⟩:=hvx
    have lx:=(List.getElem?_eq_some_iff.1 hx).1
    have ME:=tq bs.length bs (Nat.le_refl _)
    have abD:fQ.length=i:=by
     have:=congrArg List.length pP
     rw[List.length_map,List.length_take]at this
     omega
    refine aj (cs:=lQ ⟨xn,.slice va xb.length vc,xb⟩) zr zr zr zr zr zr zr zr zr bD ?_
    intro row
    refine go ?_
    refine aR (mm:=1) (news:=lQ ⟨xn,.slice va xb.length vc,xb⟩) 6 0 rfl rfl rfl rfl rfl rfl rfl rfl rfl rfl rfl rfl (Vw.ae rfl) rfl (by intro v hv;simp[lQ]at hv;rcases hv with rfl|rfl <;> rfl) ag (by show(_+_)*32≤_;omega) (fun _=>rfl) bD ?_
    intro v1
    rw[show fQ.flatMap lQ++lQ (⟨xn,.slice va xb.length vc,xb⟩:It)=(fQ++[(⟨xn,.slice va xb.length vc,xb⟩:It)]).flatMap lQ from by simp,show fQ.length+1=(fQ++[(⟨xn,.slice va xb.length vc,xb⟩:It)]).length from by simp]
    refine aO 6 rfl ?_
    rintro ja jc rfl
    refine go ?_
    refine aT ?_
    refine cq 4 gB zr zr zr zr zr zr zr zr zr (go ?_)
    have adE:nQ (eX bs) (i+1)=xn:=wI
    have OZ:(fQ++[(⟨xn,.slice va xb.length vc,xb⟩:It)]).map It.p=(eX bs).take (i+1):=by
     rw[List.map_append,pP,List.take_add_one,hx];rfl
    have lA:=FT b2 b3 b4 b5 (eX bs) (i+1) (fQ++[(⟨xn,.slice va xb.length vc,xb⟩:It)]) (Sep [aB 5 1 (.slice va xb.length vc) xb.length (bV xb),Z]) (.slice ja (fQ++[(⟨xn,.slice va xb.length vc,xb⟩:It)]).length jc) OZ (fun y hy=>by
     rcases List.mem_append.1 hy with h|h
     ·exact(vY y h).mono (bg (i:=1) rfl)
     ·rw[List.mem_singleton.1 h];exact wL.mono (bg (i:=0) rfl))
    rw[adE]at lA
    refine ai (al.trans (al.pick [9,7] rfl) (al.trans (al.bS [_,_] _) (al.trans ah (lA _)))) ?_
    refine fK hY rfl ah (.inl ⟨lE,rfl,rfl⟩)
 rintro l r v H' (⟨fH,rfl⟩|⟨⟨i,hi,lL⟩,rfl⟩)
 ·refine⟨_,_,_,rfl,by decide,?_⟩
  have hr:fF 0 (eX bs)=true:=(AQ _).2 fH
  rw[if_pos hr]at rF
  rw[hE.1.2]
  refine eG (J1 b2 b3 b4 b5 (eX bs) _) ?_
  rintro⟨fQ,Z,vi⟩⟨pP,vY⟩
  simp only at pP vY
  rw[List.take_length]at pP
  refine dz 4 rfl ?_
  intro ia ic Xk
  simp only at Xk
  subst Xk
  simp only
  refine mH 4 rfl ?_
  intro jz
  refine dy 4 rfl ?_
  intro dE
  have Gb:uD (Sep [aB 207 2 (.slice ia fQ.length ic) fQ.length (fQ.flatMap lQ),Z]) (.slice ia fQ.length ic) fQ:=⟨dE.mono (bg (i:=0) rfl),fun y hy=>(vY y hy).mono (bg (i:=1) rfl)⟩
  refine go ?_
  refine ai (al.trans (al.pick [4,5] rfl) (al.bS [aB 207 2 (.slice ia fQ.length ic) fQ.length (fQ.flatMap lQ),Z] _)) ?_
  refine sX (U:=aQ) 1 2 hE Tryz.func198 zr zr zr zr zr zr zr zr ah zr zr (.inr ⟨eX bs,fQ,_,_,rF,pP,Gb,rfl,rfl,_,_,rfl,jz⟩) ah
 ·refine⟨_,_,_,rfl,by decide,?_⟩
  have hr:¬fF 0 (eX bs)=true:=fun h=>by rw[(AQ _).1 h i hi]at lL;cases lL
  rw[if_neg hr]at rF
  rw[hE.1.2]
  refine ai (SF b2 b3 _) ?_
  refine sX (U:=aQ) 0 1 hE Tryz.func198 zr zr zr zr zr zr zr zr ah zr zr (.inl ⟨rF,rfl,rfl⟩) ah
end Go.Proofs.YtedjnjkijiddlaaGreatDoor
namespace Go.Proofs.YtedjnjkijiddlaaGreatDoor
open Go Go.SL
attribute [local irreducible] J K aE Ends ae aB aP bP bq aS aZ bu bX Sha.chunks Sha.chunk Sha.rounds Sha.sched dK cm GI cQ
def Ro:mG Tryz.prog 35 dV:=aaY Tryz.underlying35 Tryz.underlying5 Yy
def Qm(l:List Dg):List (Dg × Value):=l.map fun d=>(d,.bool true)
def M9(l:List Dg)(d:Dg):(ew (Qm l) d).getD (.bool false) = .bool (decide (d∈l)):=by
 induction l with
 | nil=>simp[Qm,ew]
 | cons x l ih =>
  simp only[Qm,ew,List.map_cons,List.find?_cons]at ih ⊢
  by_cases h:x=d
  ·simp[h]
  ·have h2:¬d=x:=fun e=>h e.symm
   simp only[h,decide_false]
   rw[ih];simp[h2]
def QU{l:List Dg}{d:Dg}(h:d ∉ l):nA (Qm l) d (.bool true)=Qm (l++[d]):=by
 unfold nA
 have:d ∉ (Qm l).map (·.1):=by simpa[Qm]using h
 rw[if_neg this];simp[Qm]
def AE(l:List Bl):pS l=false↔(l.map Bl.d).Nodup:=by
 induction l with
 | nil=>simp[pS]
 | cons x l ih =>
  simp only[pS,Bool.or_eq_false_iff,ih,List.map_cons,List.nodup_cons]
  constructor
  ·rintro⟨h1,h2⟩
   refine⟨fun h=>?_,h2⟩
   obtain⟨y,hy,he⟩:=List.mem_map.1 h
   have:=List.any_eq_false.1 h1 y hy
   exact this (by simpa using he)
  ·rintro⟨h1,h2⟩
   refine⟨List.any_eq_false.2 fun y hy he=>h1 (List.mem_map.2 ⟨y,hy,by simpa using he⟩),h2⟩
def JH(l:List Bl):∀v∈l.flatMap bH,v.oneCell'=true:=by
 intro v hv
 obtain⟨x,_,h⟩:=List.mem_flatMap.1 hv
 simp only[bH,List.mem_append,List.mem_cons,List.not_mem_nil,or_false]at h
 rcases h with(h|rfl|rfl)|h
 ·rw[dG]at h;exact cX _ v h
 ·rfl
 ·rfl
 ·rw[dG]at h;exact cX _ v h
def blE{l:List Bl}{i:Nat}{x:Bl}(hx:l[i]?=some x)(q:Nat)(v:Value)(hq:(bH x)[q]?=some v):(l.flatMap bH)[i*66+q]?=some v:=by
 rw[cR CN hx q (by rcases Nat.lt_or_ge q 66 with h|h;exact h;rw[List.getElem?_eq_none (by rw[CN];exact h)]at hq;cases hq)]
 exact hq
def Yz{l:List Bl}{i:Nat}(h:i<l.length):l.flatMap bH≠[]:=by
 rw[← List.length_pos_iff,cI CN];omega
def C9(A X:HP)(v:Value)(l:List Bl)(hv:Vw A v l.length (l.flatMap bH))(hlen:l.length≤1000000)(g:FuncId)(cap:List Value)(p:Bl→Bool)(hf:∀x∈l,aE Tryz.prog g (eL x::cap) [X] (fun v H=>v = .bool (p x)∧H=[X])) :
  aE Tryz.prog 186 [v,.func (.func g) #[] cap.toArray] [A,X] (fun r H=>r = .int .i64 (kA p l)∧H=[A,X]):=by
 obtain⟨a,c0,rfl⟩:=hv.shape
 unfold eL at hf
 refine aE.enter Tryz.func186 ak rfl Tryz.ntmps186 zr zr ?_
 intro G F R hR
 refine go ?_
 refine bB (fun i:Nat=>i≤l.length∧∀y∈l.take i,p y=false) (fun i=>l.length-i) (fun i=>[(0,.slice a l.length c0),(1,.func (.func g) #[] cap.toArray),(7,.int .i64 l.length),(8,.int .i64 i)]) (fun _=>[A,X]++F) 0 ⟨by simp,by simp⟩ rfl cg (al.refl _) ?_
 rintro i⟨hi,hb⟩ ih
 refine go ?_
 refine aq zr zr ?_ ?_
 ·intro de
  refine go ?_
  have gl:i<l.length:=by omega
  have hx:l[i]?=some l[i]:=by simp[gl]
  generalize hxx:l[i]=x at hx
  obtain⟨b,o,gM,gk⟩:=hv.some (Yz gl)
  simp only[Value.slice.injEq]at gk
  obtain⟨rfl,_,rfl⟩:=gk
  refine cL i 66 zr zr zr zr zr zr zr zr gl ?_
  refine dm (U:=aQ) (es:=bH x) 0 (i*66) zr zr zr hv rfl (blE hx) zr zr zr ?_
  refine cF [1] zr zr zr zr (hf x (List.mem_of_getElem? hx)) rfl mM ?_
  rintro _ _⟨rfl,rfl⟩
  refine go ?_
  refine fR zr zr ?_ ?_
  ·intro hp
   refine go ?_
   refine aL hR Tryz.func186 rfl _ rfl ⟨by rw[nT hx hp hb];rfl,rfl⟩ (al.fin [1,0] 0 zr zr)
  ·intro hp
   refine go ?_
   refine aM ih (i+1) rfl ⟨ag,uh hb hx hp⟩ ag cg (al.pick [1,0] rfl)
 ·intro fA
  refine go ?_
  have:i=l.length:=by omega
  subst this
  refine aL hR Tryz.func186 rfl _ rfl ⟨by rw[re (fun x hx=>hb x (by simpa using hx))];rfl,rfl⟩ (al.fin [0,1] 0 zr zr)
def pH(A X:HP)(v:Value)(l:List Bl)(hv:Vw A v l.length (l.flatMap bH))(hlen:l.length≤1000000)(g:FuncId)(cap:List Value)(p:Bl→Bool)(hf:∀x∈l,aE Tryz.prog g (eL x::cap) [X] (fun v H=>v = .bool (p x)∧H=[X])) :
  aE Tryz.prog 127 [v,.func (.func g) #[] cap.toArray] [A,X] (fun r H=>r = .bool (l.any p)∧H=[A,X]):=by
 refine aE.enter Tryz.func127 ak rfl Tryz.ntmps127 zr zr ?_
 intro G F R hR
 refine go ?_
 refine cF [0,1] zr zr zr zr (C9 A X v l hv hlen g cap p hf) rfl mM ?_
 rintro _ _⟨rfl,rfl⟩
 refine go ?_
 have hb:decide (0≤kA p l)=l.any p:=by
  rw[show decide (0≤kA p l)=decide (¬kA p l<0)from by rw[decide_eq_decide];omega]
  rw[Bool.eq_iff_iff,decide_eq_true_iff,nU (p:=p) (l:=l),Bool.not_eq_false]
 refine aL hR Tryz.func127 rfl _ rfl ⟨congrArg Value.bool hb,rfl⟩ (al.fin [0,1] 0 zr zr)
def Re(x:Bl):aE Tryz.prog 240 [eL x] [emp] (fun r H=>r = .bool (!bz x)∧H=[emp]):=by
 unfold eL
 refine aE.ao Tryz.func240 Tryz.ntmps240 fun G F R hE=>?_
 refine aD rfl ?_
 refine bG zr zr bD ?_
 intro b1
 refine go ?_
 refine aG (U:=aQ) 0 zr zr zr zr zr zr ?_
 refine aJ (oq x) ?_
 refine go ?_
 refine ad hE Tryz.func240 zr zr ⟨rfl,rfl⟩
def I7(v:Value):Value := .agg #[v]
def BI(A:HP)(v:Value)(l:List Bl)(hv:Vw A v l.length (l.flatMap bH))(hlen:l.length≤1000000) :
  aE Tryz.prog 217 [I7 v] [A] (fun r H=>r = .int .i64 (gX l:Int)∧H=[A]):=by
 obtain⟨a,c,rfl⟩:=hv.shape
 unfold I7
 refine aE.ao Tryz.func217 Tryz.ntmps217 fun G F R hE=>?_
 refine aD rfl ?_
 refine bG zr zr bD ?_
 intro b1
 refine aI (al.qA _) ?_
 have h1:(l.length<1∨16<l.length∨l.any (fun x => !bz x)=true)→gX l=1:=fun h=>by unfold gX;rw[if_pos h]
 have h2:¬(l.length<1∨16<l.length∨l.any (fun x => !bz x)=true)→gX l=if pS l then 5 else 0:=fun h=>by unfold gX;rw[if_neg h]
 repeat'(first|(with_reducible intro pM)|refine gy ?_|refine ie zr zr zr zr ?_ ?_|(refine aH (pH A emp _ l hv hlen 240 [] (fun x => !bz x) (fun x _=>Re x)) ?_;rintro _ _⟨rfl,rfl⟩))
 ·rw[h1 (.inl ag)]at hE
  refine ad hE Tryz.func217 zr zr ⟨rfl,rfl⟩
 ·rw[h1 (.inr (.inl ag))]at hE
  refine ad hE Tryz.func217 zr zr ⟨rfl,rfl⟩
 cases ml:l.any (fun x => !bz x)with
 | true =>
  rw[h1 (.inr (.inr ml))]at hE
  refine go ?_
  refine ad hE Tryz.func217 zr zr ⟨rfl,rfl⟩
 | false =>
  have h3:=h2 (fun h=>by rcases h with h|h|h;exact absurd h ag;exact absurd h ag;rw[ml]at h;cases h)
  rw[h3]at hE
  refine go ?_
  refine oy rfl bD ?_
  intro bm
  refine aI (al.fold (B:=[_]) (A:=aP dV bm (Qm [])) (fun h hs=>⟨h,sub.refl h,qe dV bm h (eU hs)⟩)) ?_
  refine go ?_
  refine bB (fun i:Nat=>i≤l.length∧((l.take i).map Bl.d).Nodup) (fun i=>l.length-i)
   (fun i=>[(1,ptr b1),(4,.map (some bm)),(25,.slice a l.length c),(26,.int .i64 (l.length:Int)),(27,.int .i64 (i:Int))])
   (fun i=>aP dV bm (Qm ((l.take i).map Bl.d))::A::F) 0 ⟨Nat.zero_le _,by simp⟩ rfl cg ah ?_
  rintro i⟨hi,kj⟩ ih
  refine go ?_
  refine aq zr zr ?_ ?_
  ·intro de
   have gl:i<l.length:=by omega
   obtain⟨x,hx⟩:∃x,l[i]?=some x:=⟨l[i],by simp⟩
   obtain⟨b,o,gM,gk⟩:=hv.some (Yz gl)
   simp only[Value.slice.injEq]at gk
   obtain⟨rfl,_,rfl⟩:=gk
   have j8:(l.take (i+1)).map Bl.d=(l.take i).map Bl.d++[x.d]:=by rw[List.take_add_one,hx];simp
   refine go ?_
   refine cL i 66 zr zr zr zr zr zr zr zr gl ?_
   refine aK ?_
   refine dm (U:=aQ) (es:=bH x) 1 (i*66) zr zr zr hv rfl (blE hx) zr zr zr ?_
   refine az zr zr zr bD ?_
   intro b6
   refine go ?_
   refine dH 0 zr zr zr zr zr zr ?_
   refine P7 (U:=aQ) (key:=x.d) 1 rfl Ro zr zr zr zr zr zr zr zr ?_
   refine au 34 (.bool (decide (x.d∈(l.take i).map Bl.d))) rfl (M9 _ _) (go ?_)
   refine aq zr zr ?_ ?_
   ·intro qm
    have htw:pS l=true:=by
     cases h:pS l with
     | true=>rfl
     | false =>
      exfalso
      have hN:=(AE l).1 h
      have eF:((l.take (i+1)).map Bl.d).Nodup:=hN.sublist ((List.take_sublist _ _).map _)
      rw[j8,List.nodup_append]at eF
      exact eF.2.2 _ qm _ (by simp) rfl
    rw[htw]at hE
    refine go ?_
    refine ad hE Tryz.func217 zr zr ⟨rfl,rfl⟩
   ·intro RF
    refine go ?_
    refine dH 0 zr zr zr zr zr zr ?_
    refine jo (key:=x.d) 1 Ro gB zr zr zr zr zr zr zr zr ?_
    rw[QU RF,← j8]
    refine go ?_
    refine aM ih (i+1) rfl ⟨ag,by rw[j8,List.nodup_append];exact⟨kj,by simp,fun p hp q hq=>by simp at hq;subst hq;exact fun e=>RF (e ▸ hp)⟩⟩ ag cg ah
  intro fA
  have tl:i=l.length:=by omega
  subst tl
  rw[List.take_length]at kj
  rw[(AE l).2 kj]at hE
  refine go ?_
  refine ad hE Tryz.func217 zr zr ⟨rfl,rfl⟩
def eM.W5{b o n:Nat}{bs:List UInt8}{l:List Value}{e:TypeId}(hn:bs.length=n)(hl:(l.drop o).take n=bV bs):eM (ae b (cl l e)) (.slice (some ⟨b,o,none⟩) n n) bs:=by
 subst hn
 exact⟨Vw.ae (by rw[bC];exact hl),_,_,rfl,Nat.le_refl _⟩
def yC:∀(l:List Bl) (i:Nat) (x:Bl),jx i (l++[x])=jx i l++[(((i+l.length:Nat):Int)+1,eA (dY x))]
 | [],i,x=>by simp[jx]
 | y::l,i,x=>by
  simp only[List.cons_append,jx,yC l (i+1) x,List.length_cons]
  rw[show i+1+l.length=i+(l.length+1)from by omega]
def rV:∀(l:List Bl) (i:Nat),(jx i l).length=l.length
 | [],i=>rfl
 | y::l,i=>by simp only[jx,List.length_cons,rV l (i+1)]
structure Its where
 l:List It
 Z:HP
def Eo(A:HP)(v:Value)(l:List Bl)(hv:Vw A v l.length (l.flatMap bH))(hlen:l.length≤1000000) :
    aE Tryz.prog 185 [I7 v] [A] (fun r H=>(gX l≠0∧r = .tuple #[.slice none 0 0,.int .i64 (gX l:Int)]∧H=[A]) ∨
      ∃rv,gX l=0∧r = .tuple #[rv,.int .i64 0]∧H=[aB 5 1 rv (zd l).length (bV (zd l)),A]):=by
  have RL:=BI A v l hv hlen
  obtain⟨a,c,rfl⟩:=hv.shape
  unfold I7 at RL ⊢
  refine aE.ao Tryz.func185 Tryz.ntmps185 fun G F R hE=>?_
  refine aD rfl ?_
  refine bG zr zr bD ?_
  intro b1
  refine go ?_
  refine aG (U:=aQ) (l:=[.slice a l.length c]) 0 zr zr zr zr zr zr ?_
  refine aJ RL ?_
  refine go ?_
  refine aq zr zr ?_ ?_
  · intro bY
    have fT:gX l≠0:=by omega
    refine go ?_
    refine ad hE Tryz.func185 zr zr (.inl ⟨fT,rfl,rfl⟩)
  intro heq
  have h0:gX l=0:=by omega
  obtain⟨aeK,Lc,sL⟩:=oZ h0
  refine go ?_
  refine ai (al.trans (al.bS [] _) (bN 207 2 none _)) ?_
  refine bB (fun y:Nat × Its × Option Addr × Nat=>y.1≤l.length∧y.2.1.l.map It.p=jx 0 (l.take y.1)∧∀z∈y.2.1.l,eM y.2.1.Z z.v z.b) (fun y=>l.length-y.1)
    (fun y=>[(1,ptr b1),(5,.slice y.2.2.1 y.2.1.l.length y.2.2.2),(18,.slice a l.length c),(19,.int .i64 (l.length:Int)),(20,.int .i64 (y.1:Int))])
    (fun y=>aB 207 2 (.slice y.2.2.1 y.2.1.l.length y.2.2.2) y.2.1.l.length (y.2.1.l.flatMap lQ)::y.2.1.Z::A::F) (0,⟨[],Sep []⟩,none,0) ⟨Nat.zero_le _,rfl,by simp⟩ rfl cg ah ?_
  rintro⟨i,⟨fQ,Z⟩,ia,ic⟩⟨hi,pP,vY⟩ ih
  simp only at hi pP vY
  dsimp only
  have abD:fQ.length=i:=by
    have:=congrArg List.length pP
    rw[List.length_map,rV,List.length_take]at this;omega
  refine go ?_
  refine aq zr zr ?_ ?_
  · intro de
    have gl:i<l.length:=by omega
    obtain⟨x,hx⟩:∃x,l[i]?=some x:=⟨l[i],by simp⟩
    have hxr:=sL x (List.mem_of_getElem? hx)
    have acQ:=hxr
    simp only[bz,decide_eq_true_eq]at acQ
    obtain⟨sz,iB⟩:∃m:Nat,x.size=m:=⟨x.size.toNat,ag⟩
    obtain⟨pc,tj⟩:∃m:Nat,x.piece=m:=⟨x.piece.toNat,ag⟩
    obtain⟨b,o,gM,gk⟩:=hv.some (Yz gl)
    simp only[Value.slice.injEq]at gk
    obtain⟨rfl,_,rfl⟩:=gk
    refine go ?_
    refine cL i 66 zr zr zr zr zr zr zr zr gl ?_
    refine aK ?_
    refine dm (U:=aQ) (es:=bH x) 2 (i*66) zr zr zr hv rfl (blE hx) zr zr zr ?_
    refine az zr zr zr bD ?_
    intro b7
    refine go ?_
    refine aF (fun w=>Sat G w ([ae b7 (cl (bH x) 37)])) (cZ 0 3 (cZ 4 3 (.act 3 (.act 7 (.st 8 (.st 9 .nil)))))) rfl ak ak ak dT ?_
    refine go ?_
    refine au 27 ((.int .u64 (sz:Int))) rfl ((congrArg (Value.int .u64) iB)) ?_
    refine au 31 ((.int .u64 (pc:Int))) rfl ((congrArg (Value.int .u64) tj)) ?_
    refine cN (mC sz ag) ?_
    rintro r8 _ rfl
    refine cN (mC pc ag) ?_
    rintro r9 _ rfl
    refine aO 0 rfl ?_
    rintro a9 c9 rfl
    refine aO 1 rfl ?_
    rintro a8 c8 rfl
    refine gQ (bs:=uv pc) 0 rfl ?_
    intro Yc
    refine gQ (bs:=uv sz) 1 rfl ?_
    intro Jq
    refine go ?_
    obtain⟨Qq,OY⟩:∃Qq:List It,Qq=[⟨1,.slice (some ⟨b7,0,none⟩) 32 32,x.d.bs⟩,⟨2,.slice a8 (uv sz).length c8,uv sz⟩,⟨3,.slice a9 (uv pc).length c9,uv pc⟩,⟨4,.slice (some ⟨b7,34,none⟩) 32 32,x.root.bs⟩]:=⟨_,rfl⟩
    have hp4:Qq.map It.p=dY x:=by rw[OY];simp only[dY,List.map_cons,List.map_nil,It.p,iB,tj,Int.toNat_natCast]
    have EF:=yD x hxr
    refine aF (fun w=>Sat G w ([])) (cZ 0 10 (.act 10 (.act 11 (cZ 12 5 .nil)))) rfl ak ak ak dT ?_
    (repeat(first|refine gy ?_|refine iP (U:=aQ) zr zr zr zr zr ?_))
    refine aj (cs:=Qq.flatMap lQ) zr zr zr zr zr zr zr zr (by rw[OY];rfl) (fun _ _ hw=>hw.cV ah) ?_
    intro row
    have h4:Qq.length=4:=by rw[OY];rfl
    have RZ:uD (Sep [ae row (cl (Qq.flatMap lQ) 207),ae b7 (cl (bH x) 37),aB 5 1 (.slice a8 (uv sz).length c8) (uv sz).length (bV (uv sz)),aB 5 1 (.slice a9 (uv pc).length c9) (uv pc).length (bV (uv pc))]) (.slice (some ⟨row,0,none⟩) 4 4) Qq:=by
      refine⟨?_,fun y hy=>?_⟩
      · rw[h4]
        exact(Vw.ae (by rw[List.drop_zero,List.take_length])).mono (bg (i:=0) rfl)
      · rw[OY]at hy
        simp only[List.mem_cons,List.not_mem_nil,or_false]at hy
        rcases hy with rfl|rfl|rfl|rfl
        · exact(eM.W5 x.d.len (by rw[← dG];exact Yx x)).mono (bg (i:=1) rfl)
        · exact Jq.mono (bg (i:=2) rfl)
        · exact Yc.mono (bg (i:=3) rfl)
        · exact(eM.W5 x.root.len (by rw[← dG];exact Sk x)).mono (bg (i:=1) rfl)
    have EG:fF 0 (Qq.map It.p)=true:=by rw[hp4];simp[dY,fF]
    have ES:=ni _ _ Qq RZ ag EG (by rw[hp4];omega)
    rw[hp4]at ES
    clear EG RZ hp4 h4
    clear OY
    refine aI (al.trans (al.pick [0,3,2,1] rfl) (al.bS [ae row (cl (Qq.flatMap lQ) 207),ae b7 (cl (bH x) 37),aB 5 1 (.slice a8 (uv sz).length c8) (uv sz).length (bV (uv sz)),aB 5 1 (.slice a9 (uv pc).length c9) (uv pc).length (bV (uv pc))] _)) ?_
    refine cN ES ?_
    rintro _ _⟨rr,rfl,rfl⟩
    refine aO 0 rfl ?_
    rintro ra rc rfl
    refine gQ (bs:=eA (dY x)) 0 rfl ?_
    intro MJ
    refine go ?_
    refine aj (cs:=lQ ⟨(i:Int)+1,.slice ra (eA (dY x)).length rc,eA (dY x)⟩) zr zr zr zr zr zr zr zr zr bD ?_
    intro QX
    refine go ?_
    refine aR (mm:=1) (news:=lQ ⟨(i:Int)+1,.slice ra (eA (dY x)).length rc,eA (dY x)⟩) 3 0 rfl rfl rfl rfl rfl rfl rfl rfl rfl rfl rfl rfl (Vw.ae rfl) rfl (by intro v hv;simp[lQ]at hv;rcases hv with rfl|rfl <;> rfl) ag (by show(_+_)*32≤_;omega) (fun _=>rfl) bD ?_
    intro v1
    rw[show fQ.flatMap lQ++lQ (⟨(i:Int)+1,.slice ra (eA (dY x)).length rc,eA (dY x)⟩:It)=(fQ++[(⟨(i:Int)+1,.slice ra (eA (dY x)).length rc,eA (dY x)⟩:It)]).flatMap lQ from by simp,show fQ.length+1=(fQ++[(⟨(i:Int)+1,.slice ra (eA (dY x)).length rc,eA (dY x)⟩:It)]).length from by simp]
    refine aO 3 rfl ?_
    rintro ja jc rfl
    refine go ?_
    have OZ:(fQ++[(⟨(i:Int)+1,.slice ra (eA (dY x)).length rc,eA (dY x)⟩:It)]).map It.p=jx 0 (l.take (i+1)):=by
      rw[List.take_add_one,hx,List.map_append,pP]
      simp only[Option.toList_some,yC,List.length_take,Nat.min_eq_left hi,Nat.zero_add,List.map_cons,List.map_nil,It.p]
    refine ai (al.trans (al.pick [1,4] rfl) (al.bS [aB 5 1 (.slice ra (eA (dY x)).length rc) (eA (dY x)).length (bV (eA (dY x))),Z] _)) ?_
    refine aM ih (i+1,⟨fQ++[(⟨(i:Int)+1,.slice ra (eA (dY x)).length rc,eA (dY x)⟩:It)],Sep [aB 5 1 (.slice ra (eA (dY x)).length rc) (eA (dY x)).length (bV (eA (dY x))),Z]⟩,ja,jc) rfl ⟨by simp only;omega,OZ,fun z hz=>by
      rcases List.mem_append.1 hz with h|h
      · exact(vY z h).mono (bg (i:=1) rfl)
      · rw[List.mem_singleton.1 h];exact MJ.mono (bg (i:=0) rfl)⟩ (by simp only;omega) cg ah
  · intro fA
    have tl:i=l.length:=by omega
    subst tl
    rw[List.take_length]at pP
    have pL:=Fe h0
    unfold zd at pL
    have EG:=vW l 0 ag
    rw[← pP]at pL EG
    refine dy 0 rfl ?_
    intro dE
    have RZ:uD (Sep [aB 207 2 (.slice ia fQ.length ic) fQ.length (fQ.flatMap lQ),Z]) (.slice ia fQ.length ic) fQ:=⟨dE.mono (bg (i:=0) rfl),fun y hy=>(vY y hy).mono (bg (i:=1) rfl)⟩
    have ES:=ni _ _ fQ RZ ag EG ag
    have Zh:eA (fQ.map It.p)=zd l:=by rw[pP];rfl
    rw[Zh]at ES
    refine go ?_
    refine aI (al.bS [_,_] _) ?_
    refine aH ES ?_
    rintro _ _⟨rr,rfl,rfl⟩
    refine go ?_
    refine ad hE Tryz.func185 zr zr (.inr ⟨rr,h0,rfl,rfl⟩)
def FD(A:HP)(hK:oG A)(v:Value)(l:List Bl)(hv:Vw A v l.length (l.flatMap bH))(hlen:l.length≤1000000) :
  aE Tryz.prog 125 [I7 v] [A] (fun r H=>r=(if gX l=0 then .tuple #[dV (yo l),.int .i64 0]else .tuple #[dV Dg.zero,.int .i64 (gX l:Int)])∧H=[A]):=by
 have RL:=Eo A v l hv hlen
 obtain⟨a,c,rfl⟩:=hv.shape
 unfold I7 at RL ⊢
 refine aE.ao Tryz.func125 Tryz.ntmps125 fun G F R hE=>?_
 refine aD rfl ?_
 refine bG zr zr bD ?_
 intro b1
 refine az zr zr zr bD ?_
 intro b2
 refine go ?_
 refine aG (U:=aQ) (l:=[.slice a l.length c]) 1 zr zr zr zr zr zr ?_
 refine aH RL ?_
 rintro _ _ (⟨h0,rfl,rfl⟩|⟨rv,h0,rfl,rfl⟩)
 ·rw[if_neg h0]at hE
  refine go ?_
  refine aq zr zr ?_ ?_
  case' refine_2=>(intro h;exfalso;omega)
  intro _
  refine go ?_
  refine jY (U:=aQ) zr zr zr zr zr (go ?_)
  (refine aY hE ?_;apply aU (U:=aQ) hE Tryz.func125 rfl (al.refl _);(repeat(first|exact aN.nil|apply aN.tmp rfl|apply aN.agg 1 zr zr zr zr zr));exact⟨rfl,rfl⟩;exact ah)
 ·rw[if_pos h0]at hE
  have pL:=Fe h0
  refine gQ (bs:=zd l) 0 rfl ?_
  intro Ln
  refine aI (al.bS [_,_] _) (go ?_)
  refine aJ (xo _ (hK.mono (bg (H:=[aB 5 1 rv (zd l).length (bV (zd l)),A]) (i:=1) rfl)) rv (zd l) (Ln.mono (bg (i:=0) rfl)) ag) ?_
  refine aI (al.cD _ _) (go ?_)
  (refine aY hE ?_;apply aU (U:=aQ) hE Tryz.func125 rfl (al.refl _);(repeat(first|exact aN.nil|apply aN.tmp rfl|apply aN.agg 2 zr zr zr zr zr));exact⟨rfl,rfl⟩;exact ah)
def Pw(o:Option Bl):Value:=match o with
 | none => .tuple #[eL Bl.zero,.bool false]
 | some x => .tuple #[eL x,.bool true]
def HZ{b:List UInt8}(h:pJ b=none):mA b=none:=by unfold mA;rw[h]
def LH{b:List UInt8}{xs:List (Int × List UInt8)}(h:pJ b=some xs)(hl:xs.length≠4):mA b=none:=by
 unfold mA;rw[h]
 match xs,hl with
 | [],_=>rfl
 | [_],_=>rfl
 | [_,_],_=>rfl
 | [_,_,_],_=>rfl
 | _::_::_::_::_::_,_=>rfl
 | [_,_,_,_],h=>exact absurd rfl h
def H0{b:List UInt8}{n1 n2 n3 n4:Int}{b1 b2 b3 b4:List UInt8}(h:pJ b=some [(n1,b1),(n2,b2),(n3,b3),(n4,b4)]) :
  mA b=if n4≠4∨b1.length≠32∨b4.length≠32 then none else match di b2,di b3 with
  | some s,some p=>if 1048576<max s p then none else some ⟨ue b1,s,p,ue b4⟩
  | _,_=>none:=by unfold mA;rw[h];rfl
def zf{b:List UInt8}(h:b.length=32):bV b=dC (ue b):=by
 unfold ue;rw[dif_pos h,dG]
def Dx:∀(f:Nat) (b:List UInt8) (x:Int × List UInt8),x∈pU f b→x.2.length≤b.length
 | 0,b,x,h=>by simp[pU]at h
 | f+1,[],x,h=>by simp[pU]at h
 | f+1,c::r,x,h=>by
  have h1:=qv r
  rw[pU]at h
  rw[List.length_cons]
  split at h
  ·rcases List.mem_cons.1 h with rfl|h
   ·simp only[List.length_take];omega
   ·have:=Dx f _ x h
    rw[List.length_drop]at this;omega
  ·simp at h;subst h;simp
def tr{b:List UInt8}{l:List (Int × List UInt8)}(h:pJ b=some l):∀x∈l,x.2.length≤65536:=by
 unfold pJ at h
 split at h
 ·cases h
 ·split at h
  ·cases h
   intro x hx
   have:=Dx _ _ x hx;omega
  ·cases h
def KO(A:HP)(v:Value)(b:List UInt8)(hv:eM A v b)(hl:b.length≤1000000000) :
  aE Tryz.prog 216 [v] [A] (fun r H=>r=Pw (mA b)∧H=[A]):=by
 have Rw:=nj A v b hv hl
 obtain⟨a,c,rfl,hc⟩:=hv.2
 refine aE.ao Tryz.func216 Tryz.ntmps216 fun G F R hE=>?_
 refine aD rfl ?_
 refine az zr zr zr bD ?_
 intro b2
 refine go ?_
 refine aH Rw ?_
 rintro _ _ (⟨hn,rfl,rfl⟩|⟨xs,fQ,Z,rv,hs,pP,⟨dE,vY⟩,rfl,rfl,-⟩)
 ·rw[HZ hn]at hE
  repeat'(first|refine gy ?_|fail)
  all_goals((skip))
  (refine aY hE ?_;apply aU (U:=aQ) hE Tryz.func216 rfl (al.refl _);(repeat(first|exact aN.nil|apply aN.tmp rfl|apply aN.agg 1 zr zr zr zr zr));exact⟨rfl,rfl⟩;exact ah)
 obtain⟨ra,rc,rfl⟩:=dE.shape
 by_cases h4:fQ.length=4
 case neg =>
  rw[LH hs (by rw[← pP,List.length_map];exact h4)]at hE
  repeat'(first|(with_reducible intro pM)|refine gy ?_|refine ie zr zr zr zr ?_ ?_|fail)
  all_goals(first|(exfalso;omega)|skip)
  (refine aY hE ?_;apply aU (U:=aQ) hE Tryz.func216 rfl (al.refl _);(repeat(first|exact aN.nil|apply aN.tmp rfl|apply aN.agg 2 zr zr zr zr zr));exact⟨rfl,rfl⟩;exact ah)
 obtain⟨i1,i2,i3,i4,rfl⟩:∃i1 i2 i3 i4,fQ=[i1,i2,i3,i4]:=by
  match fQ,h4 with
  | [i1,i2,i3,i4],_=>exact⟨i1,i2,i3,i4,rfl⟩
 obtain⟨n1,v1,b1⟩:=i1
 obtain⟨n2,v2,QG⟩:=i2
 obtain⟨n3,v3,LG⟩:=i3
 obtain⟨n4,v4,Zq⟩:=i4
 have nX:eM Z v1 b1:=vY ⟨n1,v1,b1⟩ (by simp)
 have rh:eM Z v2 QG:=vY ⟨n2,v2,QG⟩ (by simp)
 have ML:eM Z v3 LG:=vY ⟨n3,v3,LG⟩ (by simp)
 have hb4:eM Z v4 Zq:=vY ⟨n4,v4,Zq⟩ (by simp)
 obtain⟨a1,c1,rfl,_⟩:=nX.2
 obtain⟨a2,c2,rfl,_⟩:=rh.2
 obtain⟨a3,c3,rfl,_⟩:=ML.2
 obtain⟨a4,c4,rfl,_⟩:=hb4.2
 obtain⟨rb,ro,rcc,he⟩:=dE.some (by simp[lQ])
 simp only[Value.slice.injEq]at he
 obtain⟨rfl,_,rfl⟩:=he
 simp only[List.map_cons,List.map_nil,It.p]at pP
 subst pP
 have Dl:=H0 hs
 have EC:Vw Z (.slice (some ⟨rb,ro,none⟩) 4 rc) 4 [.int .i64 n1,.slice a1 b1.length c1,.int .i64 n2,.slice a2 QG.length c2,.int .i64 n3,.slice a3 LG.length c3,.int .i64 n4,.slice a4 Zq.length c4]:=dE
 have hN:(n4≠4∨b1.length≠32∨Zq.length≠32)→mA b=none:=fun h=>by rw[Dl,if_pos h]
 simp only[List.length_cons,List.length_nil,Nat.zero_add,Nat.reduceAdd]
 clear dE vY Rw h4
 repeat'(first|(with_reducible intro pM)|refine gy ?_|refine ie zr zr zr zr ?_ ?_|refine aq zr zr ?_ ?_|refine cL 3 2 zr zr zr zr zr zr zr zr (by simp) ?_|refine cL 0 2 zr zr zr zr zr zr zr zr (by simp) ?_|refine bj 0 (3*2+0) zr zr zr EC (Nat.add_assoc _ _ _) zr zr zr ?_|refine bj 0 (3*2+1) zr zr zr EC (Nat.add_assoc _ _ _) zr zr zr ?_|refine bj 0 (0*2+1) zr zr zr EC (Nat.add_assoc _ _ _) zr zr zr ?_)
 ·rw[hN ag]at hE
  refine go ?_
  (refine aY hE ?_;apply aU (U:=aQ) hE Tryz.func216 rfl (al.refl _);(repeat(first|exact aN.nil|apply aN.tmp rfl|apply aN.agg 2 zr zr zr zr zr));exact⟨rfl,rfl⟩;exact ah)
 ·rw[hN ag]at hE
  refine go ?_
  (refine aY hE ?_;apply aU (U:=aQ) hE Tryz.func216 rfl (al.refl _);(repeat(first|exact aN.nil|apply aN.tmp rfl|apply aN.agg 2 zr zr zr zr zr));exact⟨rfl,rfl⟩;exact ah)
 ·rw[hN ag]at hE
  refine go ?_
  (refine aY hE ?_;apply aU (U:=aQ) hE Tryz.func216 rfl (al.refl _);(repeat(first|exact aN.nil|apply aN.tmp rfl|apply aN.agg 2 zr zr zr zr zr));exact⟨rfl,rfl⟩;exact ah)
 have hk4:n4=4:=by omega
 have Lc:b1.length=32:=by omega
 have hl4:Zq.length=32:=by omega
 rw[if_neg (by rintro(h|h|h) <;> exact h (by assumption))]at Dl
 refine go ?_
 refine cL 1 2 zr zr zr zr zr zr zr zr ag (go ?_)
 refine aK ?_
 refine bj 0 (1*2+1) zr zr zr EC (Nat.add_assoc _ _ _) zr zr zr ?_
 have XK:=tr hs (n2,QG) (by simp)
 have hm3:=tr hs (n3,LG) (by simp)
 simp only at XK hm3
 refine aJ (mD Z _ QG rh ag) ?_
 cases hu2:di QG with
 | none =>
  rw[hu2]at Dl
  rw[Dl]at hE
  simp only
  refine go ?_
  refine cL 2 2 zr zr zr zr zr zr zr zr ag (go ?_)
  refine aK ?_
  refine bj 0 (2*2+1) zr zr zr EC (Nat.add_assoc _ _ _) zr zr zr ?_
  refine aJ (mD Z _ LG ML ag) ?_
  cases di LG with
  | none =>
   simp only
   repeat'(first|refine gy ?_|fail)
   all_goals((skip))
   (refine aY hE ?_;apply aU (U:=aQ) hE Tryz.func216 rfl (al.refl _);(repeat(first|exact aN.nil|apply aN.tmp rfl|apply aN.agg 2 zr zr zr zr zr));exact⟨rfl,rfl⟩;exact ah)
  | some p =>
   simp only
   repeat'(first|refine gy ?_|fail)
   all_goals((skip))
   (refine aY hE ?_;apply aU (U:=aQ) hE Tryz.func216 rfl (al.refl _);(repeat(first|exact aN.nil|apply aN.tmp rfl|apply aN.agg 2 zr zr zr zr zr));exact⟨rfl,rfl⟩;exact ah)
 | some s =>
  rw[hu2]at Dl
  simp only
  refine go ?_
  refine cL 2 2 zr zr zr zr zr zr zr zr ag (go ?_)
  refine aK ?_
  refine bj 0 (2*2+1) zr zr zr EC (Nat.add_assoc _ _ _) zr zr zr ?_
  refine aJ (mD Z _ LG ML ag) ?_
  cases hu3:di LG with
  | none =>
   rw[hu3]at Dl
   rw[Dl]at hE
   simp only
   repeat'(first|refine gy ?_|fail)
   all_goals((skip))
   (refine aY hE ?_;apply aU (U:=aQ) hE Tryz.func216 rfl (al.refl _);(repeat(first|exact aN.nil|apply aN.tmp rfl|apply aN.agg 2 zr zr zr zr zr));exact⟨rfl,rfl⟩;exact ah)
  | some p =>
   rw[hu3]at Dl
   simp only at Dl ⊢
   repeat'(first|(with_reducible intro pM)|refine gy ?_|refine aq zr zr ?_ ?_)
   all_goals((skip))
   ·rw[if_pos ag]at Dl
    rw[Dl]at hE
    refine go ?_
    (refine aY hE ?_;apply aU (U:=aQ) hE Tryz.func216 rfl (al.refl _);(repeat(first|exact aN.nil|apply aN.tmp rfl|apply aN.agg 2 zr zr zr zr zr));exact⟨rfl,rfl⟩;exact ah)
   ·rw[if_neg ag]at Dl
    rw[Dl]at hE
    have aex:s≤1048576:=by omega
    have aeC:p≤1048576:=by omega
    obtain⟨xb1,xo1,xc1,EV⟩:=nX.1.some (by intro h;have:=congrArg List.length h;rw[bC,Lc]at this;cases this)
    simp only[Value.slice.injEq]at EV
    obtain⟨rfl,_,rfl⟩:=EV
    obtain⟨xb4,xo4,xc4,he4⟩:=hb4.1.some (by intro h;have:=congrArg List.length h;rw[bC,hl4]at this;cases this)
    simp only[Value.slice.injEq]at he4
    obtain⟨rfl,_,rfl⟩:=he4
    have mf:=nX.1
    rw[zf Lc]at mf
    have hv4:=hb4.1
    rw[zf hl4]at hv4
    refine aF (fun w=>Sat G w ([Z])) (cZ 0 17 (.act 17 (.st 18 .nil))) rfl ak ak ak dT ?_
    refine go ?_
    (repeat(first|refine gy ?_|refine cL 0 2 zr zr zr zr zr zr zr zr ag ?_|refine cL 3 2 zr zr zr zr zr zr zr zr ag ?_|(refine aK ?_;first|refine cO 0 (0*2+1) zr zr zr EC (Nat.add_assoc _ _ _) zr zr zr ?_|refine cO 0 (3*2+1) zr zr zr EC (Nat.add_assoc _ _ _) zr zr zr ?_|refine fq (U:=aQ) (es:=dC (ue b1)) 0 0 zr zr zr mf rfl (fun j v hj=>by rw[Nat.zero_add];exact hj) zr zr zr ?_|refine fq (U:=aQ) (es:=dC (ue Zq)) 0 0 zr zr zr hv4 rfl (fun j v hj=>by rw[Nat.zero_add];exact hj) zr zr zr ?_)|refine BH (U:=aQ) zr zr zr zr ag ?_))
    refine aT ?_
    refine cq 2 dT zr zr zr zr zr zr zr zr zr (go ?_)
    (refine aY hE ?_;apply aU (U:=aQ) hE Tryz.func216 rfl (al.refl _);(repeat(first|exact aN.nil|apply aN.tmp rfl|apply aN.agg 2 zr zr zr zr zr));exact⟨rfl,rfl⟩;exact ah)
def vU:∀(l:List (Int × List UInt8)) (i:Nat) (x:Int × List UInt8),iS i (l++[x])=match iS i l with
  | none=>none
  | some y=>match mA x.2 with
   | none=>none
   | some z=>if x.1≠((i+l.length:Nat):Int)+1 then none else some (y++[z])
 | [],i,(n,b)=>by
  simp only[List.nil_append,iS,List.length_nil,Nat.add_zero]
  cases mA b with
  | none=>rfl
  | some z =>
   simp only
   split <;> simp
 | (m,c)::l,i,(n,b)=>by
  simp only[List.cons_append,iS,vU l (i+1) (n,b),List.length_cons]
  cases mA c with
  | none=>rfl
  | some y =>
   simp only
   split
   ·rfl
   ·cases iS (i+1) l with
    | none=>rfl
    | some w =>
     simp only[Option.map_some]
     cases mA b with
     | none=>rfl
     | some z =>
      simp only[show i+1+l.length=i+(l.length+1)from by omega]
      split <;> simp
def vT:∀(l r:List (Int × List UInt8)) (i:Nat),iS i l=none→iS i (l++r)=none
 | [],r,i,h=>by cases h
 | (n,b)::l,r,i,h=>by
  simp only[List.cons_append,iS]at h ⊢
  cases hb:mA b with
  | none=>rfl
  | some x =>
   rw[hb]at h
   simp only at h ⊢
   split at h
   ·rename_i hn;rw[if_pos hn]
   ·rename_i hn
    rw[if_neg hn]
    rw[vT l r (i+1) (by simpa using h)];rfl
def Ep(A:HP)(v:Value)(b:List UInt8)(hv:eM A v b)(hl:b.length≤1000000000) :
  aE Tryz.prog 184 [v] [A] (fun r H=>(zh b=none∧(∃e,e≠0∧r = .tuple #[I7 (.slice none 0 0),.int .i64 e])∧H=[A]) ∨
   ∃l rv,zh b=some l∧r = .tuple #[I7 rv,.int .i64 0]∧H=[aB 37 66 rv l.length (l.flatMap bH),A]):=by
 have Rw:=nj A v b hv hl
 obtain⟨a,c,rfl,hc⟩:=hv.2
 refine aE.ao Tryz.func184 Tryz.ntmps184 fun G F R hE=>?_
 refine aD rfl ?_
 refine az zr zr zr bD ?_
 intro b2
 refine go ?_
 refine aH Rw ?_
 rintro _ _ (⟨hn,rfl,rfl⟩|⟨xs,fQ,Z,rv,hs,pP,⟨dE,vY⟩,rfl,rfl,-⟩)
 ·have hd:zh b=none:=by unfold zh;rw[hn]
  repeat'(first|refine gy ?_|fail)
  all_goals((skip))
  (refine aY hE ?_;apply aU (U:=aQ) hE Tryz.func184 rfl (al.refl _);(repeat(first|exact aN.nil|apply aN.tmp rfl|apply aN.agg 1 zr zr zr zr zr));exact(.inl ⟨hd,⟨2,by decide,rfl⟩,rfl⟩);exact ah)
 have X3:zh b=match iS 0 xs with|some x=>if gX x=0 then some x else none|none=>none:=by unfold zh;rw[hs];rfl
 obtain⟨ra,rc,rfl⟩:=dE.shape
 have ME:fQ.length≤65536:=by
  have h1:xs.length≤65536:=by
   unfold pJ at hs
   split at hs
   ·cases hs
   ·split at hs
    ·cases hs
     have:=tq _ b (Nat.le_refl _)
     unfold eX at this;omega
    ·cases hs
  rw[← pP,List.length_map]at h1;exact h1
 repeat'(first|refine gy ?_|fail)
 all_goals((skip))
 refine az zr zr zr bD ?_
 intro b6
 refine go ?_
 refine ai (al.trans (al.bS [] _) (bN 37 66 none _)) ?_
 refine bB (fun y:Nat × List Bl × Option Addr × Nat=>y.1≤fQ.length∧iS 0 (xs.take y.1)=some y.2.1∧y.2.1.length=y.1) (fun y=>fQ.length-y.1)
  (fun y=>[(2,ptr b2),(6,ptr b6),(20,.slice ra fQ.length rc),(21,.int .i64 (fQ.length:Int)),(22,.int .i64 (y.1:Int))])
  (fun y=>ae b6 (cl [.slice y.2.2.1 y.2.1.length y.2.2.2] 174)::aB 37 66 (.slice y.2.2.1 y.2.1.length y.2.2.2) y.2.1.length (y.2.1.flatMap bH)::Z::A::ae b2 (cl [.slice none 0 0] 174)::F) (0,[],none,0) ⟨Nat.zero_le _,rfl,rfl⟩ rfl cg ah ?_
 rintro⟨i,acc,xa,xc⟩⟨hi,wM,O9⟩ ih
 simp only at hi wM O9
 dsimp only
 refine go ?_
 refine aq zr zr ?_ ?_
 ·intro de
  have gl:i<fQ.length:=by omega
  obtain⟨it,Lg⟩:∃x,fQ[i]?=some x:=⟨fQ[i],by simp⟩
  have hxi:xs[i]?=some (it.n,it.b):=by rw[← pP,List.getElem?_map,Lg];rfl
  have Lm:=vY it (List.mem_of_getElem? Lg)
  have abC:=tr hs _ (List.mem_of_getElem? hxi)
  have j8:xs.take (i+1)=xs.take i++[(it.n,it.b)]:=by rw[List.take_add_one,hxi];rfl
  have Ge:=vU (xs.take i) 0 (it.n,it.b)
  have rF:(xs.take i).length=i:=by rw[List.length_take,← pP,List.length_map];omega
  rw[← j8,wM,rF,Nat.zero_add]at Ge
  simp only at Ge abC
  have lL:iS 0 (xs.take (i+1))=none→zh b=none:=fun h=>by
   have:=vT _ (xs.drop (i+1)) 0 h
   rw[List.take_append_drop]at this
   rw[X3,this]
  obtain⟨rb,ro,rcc,he⟩:=dE.some (by rw[← List.length_pos_iff,cI js];omega)
  simp only[Value.slice.injEq]at he
  obtain⟨rfl,_,rfl⟩:=he
  obtain⟨xn,xv,xb⟩:=it
  simp only at Lm Ge abC
  obtain⟨va,vc,rfl,_⟩:=Lm.2
  refine go ?_
  refine cL i 2 zr zr zr zr zr zr zr zr gl ?_
  refine aK ?_
  refine dm (U:=aQ) (es:=lQ ⟨xn,.slice va xb.length vc,xb⟩) 2 (i*2) zr zr zr dE rfl (fun j v hj=>?_) zr zr zr ?_
  ·rw[cR js Lg j (by rcases Nat.lt_or_ge j 2 with h|h;exact h;rw[List.getElem?_eq_none (by rw[js];exact h)]at hj;cases hj)];exact hj
  refine az zr zr zr bD ?_
  intro b8
  refine go ?_
  refine aJ (KO Z _ xb Lm ag) ?_
  cases Dl:mA xb with
  | none =>
   rw[Dl]at Ge
   have yQ:=lL Ge
   simp only[Pw]
   refine go ?_
   refine az zr zr zr bD ?_
   intro b9
   refine go ?_
   (refine aT ?_;(refine cq 6 gB zr zr zr zr zr zr zr zr zr ?_))
   refine go ?_
   (refine aY hE ?_;apply aU (U:=aQ) hE Tryz.func184 rfl (al.refl _);(repeat(first|exact aN.nil|apply aN.tmp rfl|apply aN.agg 6 zr zr zr zr zr));exact(.inl ⟨yQ,⟨2,by decide,rfl⟩,rfl⟩);exact ah)
  | some z =>
   rw[Dl]at Ge
   simp only[Pw]at Ge ⊢
   unfold eL
   refine go ?_
   refine az zr zr zr bD ?_
   intro b9
   repeat'(first|(with_reducible intro pM)|refine gy ?_|refine aq zr zr ?_ ?_)
   ·rw[if_pos ag]at Ge
    have yQ:=lL Ge
    (refine aT ?_;(refine cq 6 gB zr zr zr zr zr zr zr zr zr ?_))
    refine go ?_
    (refine aY hE ?_;apply aU (U:=aQ) hE Tryz.func184 rfl (al.refl _);(repeat(first|exact aN.nil|apply aN.tmp rfl|apply aN.agg 6 zr zr zr zr zr));exact(.inl ⟨yQ,⟨2,by decide,rfl⟩,rfl⟩);exact ah)
   ·rw[if_neg ag]at Ge
    refine aG (U:=aQ) (l:=bH z) 0 zr zr zr zr zr zr ?_
    refine aj (cs:=bH z) zr zr zr zr zr zr zr zr zr bD ?_
    intro row
    refine go ?_
    refine aR (mm:=1) (news:=bH z) 5 0 zr zr zr zr zr zr zr zr zr zr zr zr (Vw.ae rfl) rfl (by have:=JH [z];simpa using this) ag (by show(_+_)*80≤_;omega) (fun _=>rfl) bD ?_
    intro v1
    rw[show acc.flatMap bH++bH z=(acc++[z]).flatMap bH from by simp,show acc.length+1=(acc++[z]).length from by simp]
    refine aO 5 rfl ?_
    rintro ja jc rfl
    refine go ?_
    refine aT ?_
    refine cq 4 gB zr zr zr zr zr zr zr zr zr (go ?_)
    refine aM ih (i+1,acc++[z],ja,jc) rfl ⟨by simp only;omega,Ge,by simp only[List.length_append,List.length_singleton];omega⟩ (by simp only;omega) cg ah
 ·intro fA
  have tl:i=fQ.length:=by omega
  have fH:xs.take i=xs:=by rw[List.take_of_length_le];rw[← pP,List.length_map];omega
  rw[fH]at wM
  rw[wM]at X3
  simp only at X3
  clear ih
  refine dy 1 rfl ?_
  intro hva
  refine go ?_
  refine aG (U:=aQ) (l:=[.slice xa acc.length xc]) 0 zr zr zr zr zr zr ?_
  refine aJ (BI _ _ acc hva ag) ?_
  repeat'(first|(with_reducible intro pM)|refine gy ?_|refine aq zr zr ?_ ?_)
  ·rw[if_neg ag]at X3
   (refine aT ?_;(refine cq 4 gB zr zr zr zr zr zr zr zr zr ?_))
   refine go ?_
   (refine aY hE ?_;apply aU (U:=aQ) hE Tryz.func184 rfl (al.refl _);(repeat(first|exact aN.nil|apply aN.tmp rfl|apply aN.agg 4 zr zr zr zr zr));exact(.inl ⟨X3,⟨2,by decide,rfl⟩,rfl⟩);exact ah)
  ·rw[if_pos ag]at X3
   refine aG (U:=aQ) (l:=[.slice xa acc.length xc]) 1 zr zr zr zr zr zr (go ?_)
   refine aT ?_
   refine cq 4 gB zr zr zr zr zr zr zr zr zr (go ?_)
   (refine aY hE ?_;apply aU (U:=aQ) hE Tryz.func184 rfl (al.refl _);(repeat(first|exact aN.nil|apply aN.tmp rfl|apply aN.agg 4 zr zr zr zr zr));exact(.inr ⟨acc,_,X3,rfl,rfl⟩);exact ah)
end Go.Proofs.YtedjnjkijiddlaaGreatDoor
namespace Go.SL
open Go.RowKit
def old(W:World):HP:=fun h=>∀b,h b=W.heap[b]?
def Ym(W:World):cJ:={ tape:=W.tape,os:=W.os,output:=W.output }
def Ss(W:World):Sat (Ym W) W [old W]:=⟨⟨rfl,Nat.zero_le _⟩,rfl,rfl,fun b=>W.heap[b]?,fun _ _ h=>h,gm fun _=>rfl⟩
def CR{W W':World}(h:Sat (Ym W) W' [old W]):Below W.heap.size W W':=by
 obtain⟨h1,h2,h3,h0,hw,hs⟩:=h
 have ho:=eU hs
 have hb:∀k,k<W.heap.size→W'.heap[k]?=W.heap[k]? := fun k hk=>by
  have e:W.heap[k]?=some W.heap[k]:=by simp[hk]
  rw[e]
  exact hw k _ (by rw[ho k,e])
 refine⟨h2,h1.1,h3,?_,hb⟩
 rcases Nat.eq_zero_or_pos W.heap.size with h0|h0
 ·omega
 ·have:=hb (W.heap.size-1) ag
  have e:W.heap[W.heap.size-1]?=some W.heap[W.heap.size-1]:=by simp[h0]
  rw[e]at this
  have:=(Array.getElem?_eq_some_iff.1 this).1
  omega
def No{P:Program}{f:FuncId}{args:List Value}{W:World}(c:aE P f args [old W] (fun v H=>v = .bool true∧H=[old W])) :
  Calls P f args.toArray W fun e W'=>e = .returned (.bool true)∧Below W.heap.size W W' :=
 (c.2 (Ym W) W [] (Ss W)).mono fun e W' h=>by
  obtain⟨v,H,rfl,⟨rfl,rfl⟩,hs⟩:=h
  exact⟨rfl,CR hs⟩
def nu{W:World}{h:Hp}{b off:Nat}{v:Value}(ho:old W h)(hc:W.cell? ⟨b,off,none⟩=some v):dF h b off=some v:=by
 unfold dF
 rw[ho b]
 unfold World.cell? at hc
 simp only at hc
 split at hc
 ·rename_i c _ _ he
  rw[he]
  simpa using hc
 ·cases hc
def HY{W:World}{a:Addr}{len cap:Nat}{zs:List Int}(hl:len≤zs.length)(dF:∀i,i<zs.length→W.cell? (a.add i)=some (.int .u8 (zs.getD i 0)))(hwf:∀n∈zs,(Lit.int .u8 n).wf=true) :
  ∃bs:List UInt8,bs.length=len∧Vw (old W) (.slice (some a) len cap) len (bV bs):=by
 refine⟨(zs.take len).map fun z=>UInt8.ofNat z.toNat,by simp;omega,some a,cap,rfl,?_⟩
 rcases Nat.eq_zero_or_pos len with h0|h0
 ·left;subst h0;simp[bV]
 ·right
  obtain⟨b,o,spot⟩:=a
  have e7:spot=none:=by simpa[Addr.add]using World.cell?_spot (dF 0 ag)
  subst e7
  refine⟨b,o,rfl,fun h ho j c hj=>?_⟩
  have wK:j<len:=by
   rcases Nat.lt_or_ge j len with h|h
   ·exact h
   ·rw[List.getElem?_eq_none (by simp[bV];omega)]at hj;cases hj
  have h1:=dF j ag
  rw[Addr.add_eq]at h1
  have h2:=nu ho h1
  rw[h2]
  have hm:zs[j]' ag∈zs:=List.getElem_mem _
  have hw:=hwf _ hm
  have hb:0≤zs[j]' ag∧zs[j]' ag<256:=by
   simp only[Lit.wf,Bool.and_eq_true,decide_eq_true_eq]at hw
   have e1:IntKind.u8.min=0:=by decide
   have e2:IntKind.u8.max=255:=by decide
   omega
  simp only[bV,List.map_map,List.getElem?_map,List.getElem?_take,wK,if_true]at hj
  rw[List.getElem?_eq_getElem ag]at hj
  simp only[Option.map_some,Option.some.injEq,Function.comp]at hj
  rw[← hj,List.getD_eq_getElem?_getD,List.getElem?_eq_getElem ag]
  simp only[Option.getD_some,u8,UInt8.toNat_ofNat',Option.some.injEq]
  congr 1
  omega
def NZ(W:World):Vw (old W) (.slice none 0 0) 0 (bV []):=⟨none,0,rfl,.inl rfl⟩
def A8{z:Int}(h:(Lit.int .i64 z).wf=true) : -9223372036854775808≤z∧z≤9223372036854775807:=by
 simp only[Lit.wf,Bool.and_eq_true,decide_eq_true_eq]at h
 have e1:IntKind.i64.min = -9223372036854775808:=by decide
 have e2:IntKind.i64.max=9223372036854775807:=by decide
 omega
end Go.SL
namespace Go.SL
open Go.Proofs Go.Shelf Go.RowKit Go.Lib Go.Sort
def Sat.grown{G:cJ}{w:World}{H:List HP}(hs:Sat G w H)(os:Array Obj):Sat G (Sort.grow w os) H:=by
 obtain⟨a,b,c,h,hw,hh⟩:=hs
 refine⟨a,b,c,h,fun x o e=>?_,hh⟩
 have h1:=hw x o e
 obtain⟨h2,-⟩:=Array.getElem?_eq_some_iff.1 h1
 show(w.heap++os)[x]?=some o
 rw[Array.getElem?_append_left h2]
 exact h1
def Sat.ahead{G:cJ}{w:World}{H:List HP}(hs:Sat G w H)(n:Nat):Sat G (Sort.ahead w n) H:=hs.draw _ (Nat.le_add_right _ _)
def Sat.acL{G:cJ}{w:World}{H:List HP}{b:Nat}{l l':List Value}{e:TypeId}(hs:Sat G w (ae b (cl l e)::H))(f:Array Value→Array Value)(hf:f l.toArray=l'.toArray):Sat G (Sort.mapBlock w b f) (ae b (cl l' e)::H):=by
 have hb:=hs.get (i:=0) rfl
 obtain⟨de,rh⟩:=Array.getElem?_eq_some_iff.1 hb
 have hm:w.heap.modify b (Sort.onCells f)=w.heap.setIfInBounds b (cl l' e):=by
  apply Array.ext_getElem?
  intro i
  rw[Array.getElem?_modify,Array.getElem?_setIfInBounds]
  by_cases h:b=i
  ·subst h
   rw[if_pos rfl,if_pos rfl,if_pos de,hb]
   simp only[Option.map_some]
   unfold cl Sort.onCells
   simp only[hf]
  ·rw[if_neg h,if_neg h]
 unfold Sort.mapBlock
 rw[hm]
 exact hs.BW
variable{P:Program}{ρ:Ren}{α:Type}[Inhabited α]
def Ca(pre cs j9 bT:List Value)(hl:j9.length=cs.length):Sort.putCells id pre.length j9.toArray (pre++cs++bT).toArray=(pre++j9++bT).toArray:=by
 apply Array.ext_getElem?
 intro i
 unfold Sort.putCells
 rw[Array.getElem?_mapIdx]
 simp only[List.getElem?_toArray,id,List.size_toArray]
 rcases Nat.lt_or_ge i pre.length with h|h
 ·rw[List.append_assoc,List.append_assoc,List.getElem?_append_left h,List.getElem?_append_left h]
  cases pre[i]? with
  | none=>rfl
  | some x=>simp only[Option.map_some];rw[if_neg ag]
 ·rw[List.append_assoc,List.append_assoc,List.getElem?_append_right h,List.getElem?_append_right h]
  rcases Nat.lt_or_ge (i-pre.length) j9.length with h2|h2
  ·rw[List.getElem?_append_left ag,List.getElem?_append_left h2,List.getElem?_eq_getElem ag,List.getElem?_eq_getElem h2]
   simp only[Option.map_some]
   rw[if_pos ⟨h,ag⟩,getElem!_pos _ _ (by simpa using h2)]
   simp
  ·rw[List.getElem?_append_right ag,List.getElem?_append_right h2,hl]
   cases bT[i-pre.length-cs.length]? with
   | none=>rfl
   | some x=>simp only[Option.map_some];rw[if_neg ag]
def K5{w:World}{b:Nat}{e:TypeId}{pre cs bT:List Value}(hb:w.heap[b]?=some (cl (pre++cs++bT) e)):Sort.Holds id w b pre.length cs.toArray:=by
 intro j hj
 simp only[List.size_toArray]at hj
 constructor
 ·unfold World.cell?
  simp only[hb,cl,Option.isSome_none,Bool.false_eq_true,if_false,List.getElem?_toArray]
  rw[List.append_assoc,List.getElem?_append_right ag,Nat.add_sub_cancel_left,List.getElem?_append_left hj,getElem!_pos _ _ (by simpa using hj),List.getElem?_eq_getElem hj]
  simp
 ·unfold World.frozen?
  simp only[hb,cl]
  simp
end Go.SL
namespace Go.SL
open Go.Proofs Go.Shelf Go.RowKit Go.Lib Go.Sort
variable{P:Program}{ρ:Ren}
def DG(L:SlLaysN.n54 P ρ)(e:TypeId)(v:Value)(l:List (List UInt8))(X0:P.funcs[ρ.f 54]?.map mz=some true)(iB:l.length<4611686018427387904) :
  aE P (ρ.f 54) [v] [aB e 1 v l.length (l.map encStr)] (fun r H=>r = .tuple #[]∧H=[aB e 1 v l.length ((l.mergeSort fun x y=>decide (x≤y)).map encStr)]):=by
 refine⟨X0,fun G w F hs=>?_⟩
 obtain⟨t,o,u,hp,K3,hA,hB,⟨hl,iL⟩,Yg,hd,he⟩:=hs
 rcases iL with⟨a0,rfl,hn,ET⟩|⟨b,oo,cap,pre,bT,rfl,mQ,hn,jz,wA⟩
 ·have OT:l=[]:=List.eq_nil_of_length_eq_zero hn
  subst OT
  refine(AnyG.slices_Sort_string_none L a0 0 w).mono ?_
  rintro e' w'⟨rfl,rfl⟩
  exact⟨_,_,rfl,⟨rfl,rfl⟩,t,o,u,hp,K3,hA,hB,⟨by simp,.inl ⟨a0,rfl,rfl,ET⟩⟩,Yg,hd,he⟩
 ·have Af:Sat G w (ae b (cl (pre++l.map encStr++bT) e)::F):=⟨t,o,u,hp,K3,hA,hB,wA,Yg,hd,he⟩
  have hb:=Af.get (i:=0) rfl
  have de:=Af.lt (i:=0) rfl
  subst mQ
  have hH:Sort.Holds encStr w b pre.length l.toArray:=by
   have h0:=K5 hb
   intro j hj
   have:=h0 j (by simpa using hj)
   simp only[List.size_toArray]at hj
   rw[getElem!_pos (l.map encStr).toArray j (by simpa using hj)]at this
   rw[getElem!_pos l.toArray j (by simpa using hj)]
   simpa using this
  have hS:=AnyG.slices_Sort_string L b pre.length cap l w hH de iB
  refine hS.mono ?_
  rintro e' w'⟨rfl,n,os,rfl⟩
  refine⟨_,_,rfl,⟨rfl,rfl⟩,?_⟩
  have Bb:(l.mergeSort fun x y=>decide (x≤y)).length=l.length:=List.length_mergeSort _
  have h3:=(Af.ahead n).acL (Sort.putCells encStr pre.length (l.mergeSort fun x y=>decide (x≤y)).toArray) (l':=pre++(l.mergeSort fun x y=>decide (x≤y)).map encStr++bT) (by
   refine Eq.trans ?_ (Ca pre (l.map encStr) ((l.mergeSort fun x y=>decide (x≤y)).map encStr) bT (by rw[List.length_map,List.length_map,Bb]))
   unfold Sort.putCells
   congr 1
   funext i x
   simp only[List.size_toArray,List.length_map,id]
   split
   ·rename_i h
    rw[getElem!_pos (List.map encStr _).toArray (i-pre.length) (by simp;omega),getElem!_pos (l.mergeSort fun x y=>decide (x≤y)).toArray (i-pre.length) (by simp;omega)]
    simp
   ·rfl)
  have h4:=h3.grown os
  refine h4.cV ?_
  exact lZ rfl hn (by rw[List.length_map]at jz ⊢;rw[Bb];exact jz) (by rw[List.length_map,Bb,Nat.mul_one]) F
end Go.SL
namespace Go.Proofs.YtedjnjkijiddlaaGreatDoor
open Go Go.Shelf
def AM:Go.Shelf.Ren:=⟨fun|54=>179|64=>212|65=>211|78=>237|79=>238|80=>228|81=>229|82=>230|83=>231|84=>232|85=>233|61=>234|86=>235|87=>236|93=>248|89=>249|90=>250|94=>251|95=>252|69=>253|97=>255|n=>n,fun|25=>131|26=>9|3=>3|51=>110|0=>0|67=>139|69=>118|4=>4|61=>273|60=>272|44=>189|5=>5|9=>9|75=>289|79=>293|83=>295|84=>296|n=>n,fun|n=>n⟩
def aaR:Go.Proofs.SlLaysN.n54 Tryz.prog AM:={
  mixed:=by kernel_rfl,
  f54:=⟨Tryz.f179.name,by decide,Tryz.func179.trans (congrArg some (by kernel_rfl))⟩,
  f61:=⟨Tryz.f234.name,by decide,Tryz.func234.trans (congrArg some (by kernel_rfl))⟩,
  f64:=Tryz.func212.trans (congrArg some (by kernel_rfl)),
  f65:=⟨Tryz.f211.name,by decide,Tryz.func211.trans (congrArg some (by kernel_rfl))⟩,
  f69:=⟨Tryz.f253.name,by decide,Tryz.func253.trans (congrArg some (by kernel_rfl))⟩,
  f78:=Tryz.func237.trans (congrArg some (by kernel_rfl)),
  f79:=Tryz.func238.trans (congrArg some (by kernel_rfl)),
  f80:=⟨Tryz.f228.name,by decide,Tryz.func228.trans (congrArg some (by kernel_rfl))⟩,
  f81:=⟨Tryz.f229.name,by decide,Tryz.func229.trans (congrArg some (by kernel_rfl))⟩,
  f82:=⟨Tryz.f230.name,by decide,Tryz.func230.trans (congrArg some (by kernel_rfl))⟩,
  f83:=⟨Tryz.f231.name,by decide,Tryz.func231.trans (congrArg some (by kernel_rfl))⟩,
  f84:=⟨Tryz.f232.name,by decide,Tryz.func232.trans (congrArg some (by kernel_rfl))⟩,
  f85:=⟨Tryz.f233.name,by decide,Tryz.func233.trans (congrArg some (by kernel_rfl))⟩,
  f86:=⟨Tryz.f235.name,by decide,Tryz.func235.trans (congrArg some (by kernel_rfl))⟩,
  f87:=⟨Tryz.f236.name,by decide,Tryz.func236.trans (congrArg some (by kernel_rfl))⟩,
  f89:=Tryz.func249.trans (congrArg some (by kernel_rfl)),
  f90:=Tryz.func250.trans (congrArg some (by kernel_rfl)),
  f93:=⟨Tryz.f248.name,by decide,Tryz.func248.trans (congrArg some (by kernel_rfl))⟩,
  f94:=⟨Tryz.f251.name,by decide,Tryz.func251.trans (congrArg some (by kernel_rfl))⟩,
  f95:=⟨Tryz.f252.name,by decide,Tryz.func252.trans (congrArg some (by kernel_rfl))⟩,
  f97:=⟨Tryz.f255.name,by decide,Tryz.func255.trans (congrArg some (by kernel_rfl))⟩,
  t0:=Tryz.underlying0,
  a0:=Tryz.isAgg0,
  z0:=Tryz.sizeOf0,
  v0:=Tryz.zeroValue0,
  t3:=Tryz.underlying3,
  a3:=Tryz.isAgg3,
  z3:=Tryz.sizeOf3,
  v3:=Tryz.zeroValue3,
  t4:=Tryz.underlying4,
  a4:=Tryz.isAgg4,
  z4:=Tryz.sizeOf4,
  v4:=Tryz.zeroValue4,
  t5:=Tryz.underlying5,
  a5:=Tryz.isAgg5,
  z5:=Tryz.sizeOf5,
  v5:=Tryz.zeroValue5,
  t9:=Tryz.underlying9,
  a9:=Tryz.isAgg9,
  z9:=Tryz.sizeOf9,
  v9:=Tryz.zeroValue9,
  t25:=Tryz.underlying131,
  a25:=Tryz.isAgg131,
  z25:=Tryz.sizeOf131,
  v25:=Tryz.zeroValue131,
  t26:=Tryz.underlying9,
  a26:=Tryz.isAgg9,
  z26:=Tryz.sizeOf9,
  v26:=Tryz.zeroValue9,
  t44:=Tryz.underlying189,
  a44:=Tryz.isAgg189,
  z44:=Tryz.sizeOf189,
  v44:=Tryz.zeroValue189,
  t51:=Tryz.underlying110,
  a51:=Tryz.isAgg110,
  z51:=Tryz.sizeOf110,
  v51:=Tryz.zeroValue110,
  t60:=Tryz.underlying272,
  a60:=Tryz.isAgg272,
  z60:=Tryz.sizeOf272,
  v60:=Tryz.zeroValue272,
  t61:=Tryz.underlying273,
  a61:=Tryz.isAgg273,
  z61:=Tryz.sizeOf273,
  v61:=Tryz.zeroValue273,
  t67:=Tryz.underlying139,
  a67:=Tryz.isAgg139,
  z67:=Tryz.sizeOf139,
  v67:=Tryz.zeroValue139,
  t69:=Tryz.underlying118,
  a69:=Tryz.isAgg118,
  z69:=Tryz.sizeOf118,
  v69:=Tryz.zeroValue118,
  t75:=Tryz.underlying289,
  a75:=Tryz.isAgg289,
  z75:=Tryz.sizeOf289,
  v75:=Tryz.zeroValue289,
  t79:=Tryz.underlying293,
  a79:=Tryz.isAgg293,
  z79:=Tryz.sizeOf293,
  v79:=Tryz.zeroValue293,
  t83:=Tryz.underlying295,
  a83:=Tryz.isAgg295,
  z83:=Tryz.sizeOf295,
  v83:=Tryz.zeroValue295,
  t84:=Tryz.underlying296,
  a84:=Tryz.isAgg296,
  z84:=Tryz.sizeOf296,
  v84:=Tryz.zeroValue296 }
end Go.Proofs.YtedjnjkijiddlaaGreatDoor
namespace Go.Proofs.YtedjnjkijiddlaaGreatDoor
open Go Go.SL
def sS(l:List ByteArray):List Value:=l.map Value.string
def W1(l:List ByteArray):∀v∈sS l,v.oneCell'=true:=by
 intro v hv
 obtain⟨x,_,rfl⟩:=List.mem_map.1 hv
 rfl
def SI(bs:Nat)(ks:List ByteArray):HP:=fun h=>∃v:Value,True∧Sep [ae bs (cl [v] 131),aB 9 1 v ks.length (sS ks)] h
def JM(bs:Nat)(ks:List ByteArray):∀h,SI bs ks h→∃v:Value,True∧Sep [ae bs (cl [v] 131),aB 9 1 v ks.length (sS ks)] h:=fun h hs=>hs
def Fz(bs:Nat)(ks:List ByteArray)(v:Value)(H:List HP):al (ae bs (cl [v] 131)::aB 9 1 v ks.length (sS ks)::H) (SI bs ks::H) :=
 al.fold (A:=SI bs ks) (B:=[ae bs (cl [v] 131),aB 9 1 v ks.length (sS ks)]) fun h hs=>⟨h,sub.refl h,v,trivial,hs⟩
def SS:mG Tryz.prog 9 Value.string:=Oj Tryz.underlying9
attribute [local irreducible] J K aE Ends ae aB aP bP bq aS aZ bu bX SI
def P1(bm:Nat):aE Tryz.prog 121 [.map (some bm)] [] (fun r H=>∃bx,r = .func (.func 180) #[] #[ptr bx]∧H=[ae bx (cl [.map (some bm)] 72)]):=by
 refine aE.ao Tryz.func121 Tryz.ntmps121 fun G F R hE=>?_
 refine go ?_
 refine bG zr zr bD ?_
 intro bx
 refine go ?_
 refine ad hE Tryz.func121 zr zr ⟨bx,rfl,rfl⟩
def Md(l bx bm:Nat)(es:List (ByteArray × Value))(kj:(es.map (·.1)).Nodup)(Lp:HP)(Inv:List ByteArray→HP)(hy:∀dn k,k∈es.map (·.1)→dn.length<es.length→bX Tryz.prog l [.string k] [Lp,Inv dn] (fun v H=>v = .bool true∧H=[Lp,Inv (dn++[k])])) :
  aE Tryz.prog 180 [.func (.yield l) #[] #[],ptr bx] [Lp,ae bx (cl [.map (some bm)] 72),aP Value.string bm es,Inv [] ] (fun _ H=>∃dn:List ByteArray,dn.Perm (es.map (·.1))∧H=[Lp,ae bx (cl [.map (some bm)] 72),aP Value.string bm es,Inv dn]):=by
 refine aE.ao Tryz.func180 Tryz.ntmps180 fun G F R hE=>?_
 refine ai (al.pick [2,0,1] rfl) (go ?_)
 refine xu (kv:=Value.string) (es:=es) (U:=aQ) 0 zr zr zr zr zr (fun _=>rfl) bD ?_
 intro it
 refine go ?_
 refine bB (fun s:List ByteArray=>s.Nodup∧∀x∈s,x∈es.map (·.1)) (fun s=>es.length-s.length) (fun s=>[(0,.func (.yield l) #[] #[]),(5,.pointer (some ⟨it,0,none⟩))])
  (fun s=>bP Value.string bm it es s::Lp::ae bx (cl [.map (some bm)] 72)::Inv s.reverse::F) [] ⟨List.nodup_nil,by simp⟩ rfl cg ah ?_
 rintro dn⟨yQ,eF⟩ ih
 refine go ?_
 refine C5 (kv:=Value.string) (es:=es) 0 rfl SS.inj zr zr (fun _=>rfl) gB bD ?_ ?_
 ·intro fH
  refine go ?_
  refine ai (al.head (B:=[aP Value.string bm es]) (fun h hs=>by obtain⟨h',s,hm⟩:=qW h hs;exact⟨h',s,gm hm⟩)) ?_
  have hp:dn.reverse.Perm (es.map (·.1)):=(List.reverse_perm dn).trans ((List.perm_ext_iff_of_nodup yQ kj).2 fun a=>⟨eF a,fun h=>by obtain⟨y,hy,rfl⟩:=List.mem_map.1 h;exact fH y hy⟩)
  refine bW hE Tryz.func180 rfl _ rfl ⟨_,hp,rfl⟩ ah
 ·intro key v fz wF
  have hk:key∈es.map (·.1):=List.mem_map.2 ⟨_,fz,rfl⟩
  have de:dn.length<es.length:=by
   have h1:((List.filter (fun x=>decide (x∈dn)) (es.map (·.1)))).length≤(es.map (·.1)).length:=List.length_filter_le _ _
   have h2:dn.length=(List.filter (fun x=>decide (x∈dn)) (es.map (·.1))).length:=G6 yQ (kj.sublist List.filter_sublist) (fun n=>by
    simp only[List.mem_filter,decide_eq_true_eq]
    exact⟨fun h=>⟨eF n h,h⟩,fun h=>h.2⟩)
   rw[List.length_map]at h1
   rcases Nat.lt_or_ge dn.length es.length with h|h
   ·exact h
   ·exfalso
    have h3:(List.filter (fun x=>decide (x∈dn)) (es.map (·.1))).length=(es.map (·.1)).length:=by rw[List.length_map];omega
    have h4:=List.filter_eq_self.1 ((List.filter_sublist (p:=fun x=>decide (x∈dn)) (l:=es.map (·.1))).eq_of_length h3) key hk
    exact wF (of_decide_eq_true h4)
  refine go ?_
  refine xA (kv:=Value.string) (es:=es) 0 rfl SS.inj zr zr fz (go ?_)
  refine kQ zr zr zr (hy dn.reverse key hk (by rw[List.length_reverse];exact de)) ah ?_ mM
  rintro _ _⟨rfl,rfl⟩
  rw[show dn.reverse++[key]=(key::dn).reverse from by simp]
  refine go ?_
  refine aM ih (key::dn) rfl (⟨List.nodup_cons.2 ⟨wF,yQ⟩,fun x hx=>by rcases List.mem_cons.1 hx with rfl|h;exact hk;exact eF x h⟩) (by show _-(key::dn).length<_;simp only[List.length_cons];omega) cg ah
def Au(bx bm:Nat)(es:List (ByteArray × Value))(kj:(es.map (·.1)).Nodup)(rK:es.length≤1000000) :
  aE Tryz.prog 210 [.slice none 0 0,.func (.func 180) #[] #[ptr bx] ] [ae bx (cl [.map (some bm)] 72),aP Value.string bm es] (fun r H=>∃dn:List ByteArray,dn.Perm (es.map (·.1))∧H=[aB 9 1 r dn.length (sS dn),ae bx (cl [.map (some bm)] 72),aP Value.string bm es]):=by
 refine aE.ao Tryz.func210 Tryz.ntmps210 fun G F R hE=>?_
 refine aD rfl ?_
 refine bG zr zr bD ?_
 intro bs
 refine go ?_
 refine fL rfl ?_
 refine ai (al.trans (al.cons _ (bN 9 1 none _)) (Fz bs [] (.slice none 0 0) _)) ?_
 refine xr (Fr:=F) (Pre:=fun _ _=>[ae bx (cl [.map (some bm)] 72),aP Value.string bm es,SI bs [] ]) (Post:=?Po) rfl hE.1.1 rfl ?c (fun l r=>ah) ?iK
 case c =>
  intro l r
  refine Md l bx bm es kj _ (fun dn=>SI bs dn) ?_
  intro dn k hk de
  refine bX.Eg zr zr ?_
  intro G2 F2 R2 hY
  refine go ?_
  refine gn rfl hY ?_
  refine ai (al.pick [1] rfl) ?_
  refine eG (JM bs dn) ?_
  rintro v -
  refine dz 1 rfl ?_
  rintro va vc rfl
  refine go ?_
  refine aj (cs:=sS [k]) zr zr zr zr zr zr zr zr zr bD ?_
  intro row
  refine go ?_
  refine aR (mm:=1) (news:=sS [k]) 2 0 zr zr zr zr zr zr zr zr zr zr zr zr (Vw.ae rfl) rfl (W1 _) ag (by show(_+1)*16≤_;omega) (fun _=>rfl) bD ?_
  intro v1
  rw[show sS dn++sS [k]=sS (dn++[k])from by simp[sS],show dn.length+1=(dn++[k]).length from by simp]
  refine aO 2 rfl ?_
  rintro va2 vc2 rfl
  refine go ?_
  refine ai (al.trans ah (Fz bs (dn++[k]) (.slice va2 (dn++[k]).length vc2) _)) ?_
  refine fK hY rfl ah ⟨rfl,rfl⟩
 intro l r v H fG
 obtain⟨dn,hp,rfl⟩:=fG
 refine⟨_,_,_,rfl,by decide,?_⟩
 rw[hE.1.2]
 refine ai (al.pick [2] rfl) ?_
 refine eG (JM bs dn) ?_
 rintro w -
 refine go ?_
 refine rz hE Tryz.func210 rfl _ rfl ⟨dn,hp,rfl⟩ ah
def F1(bx bm:Nat)(es:List (ByteArray × Value))(kj:(es.map (·.1)).Nodup)(rK:es.length≤1000000) :
  aE Tryz.prog 178 [.func (.func 180) #[] #[ptr bx] ] [ae bx (cl [.map (some bm)] 72),aP Value.string bm es] (fun r H=>∃dn:List ByteArray,dn.Perm (es.map (·.1))∧H=[aB 9 1 r dn.length (sS dn),ae bx (cl [.map (some bm)] 72),aP Value.string bm es]):=by
 refine aE.ao Tryz.func178 Tryz.ntmps178 fun G F R hE=>?_
 refine go ?_
 refine aH (Au bx bm es kj rK) ?_
 rintro w _⟨dn,hp,rfl⟩
 refine go ?_
 refine ad hE Tryz.func178 zr zr ⟨dn,hp,rfl⟩
def nS(l:List (List UInt8)):List Value:=l.map Go.Proofs.encStr
def aaS(l:List ByteArray):sS l=nS (l.map fun b=>b.data.toList):=by
 unfold sS nS
 rw[List.map_map]
 rfl
def LZ(v:Value)(l:List ByteArray)(hl:l.length≤1000000000):aE Tryz.prog 179 [v] [aB 9 1 v l.length (sS l)] (fun r H=>r = .tuple #[]∧H=[aB 9 1 v l.length (nS (pY l))]):=by
 have h:=DG (ρ:=AM) aaR 9 v (l.map fun b=>b.data.toList) ak (by rw[List.length_map];omega)
 rw[List.length_map]at h
 rw[aaS]
 exact h
def Ib(bx bm:Nat)(es:List (ByteArray × Value))(kj:(es.map (·.1)).Nodup)(rK:es.length≤1000000) :
  aE Tryz.prog 120 [.func (.func 180) #[] #[ptr bx] ] [ae bx (cl [.map (some bm)] 72),aP Value.string bm es] (fun r H=>H=[aB 9 1 r es.length (nS (pY (es.map (·.1)))),ae bx (cl [.map (some bm)] 72),aP Value.string bm es]):=by
 refine aE.ao Tryz.func120 Tryz.ntmps120 fun G F R hE=>?_
 refine go ?_
 refine aH (F1 bx bm es kj rK) ?_
 rintro w _⟨dn,hp,rfl⟩
 have hlen:dn.length=es.length:=by rw[hp.length_eq,List.length_map]
 refine aO 0 rfl ?_
 rintro wa wc rfl
 refine go ?_
 refine aJ (LZ (.slice wa dn.length wc) dn ag) ?_
 rw[Gx hp,hlen]
 refine go ?_
 refine aL hE Tryz.func120 rfl _ zr zr ah
def Mb(bd:Nat)(D:Dk)(A:Ab)(hR:Rel D A):aE Tryz.prog 66 [ptr bd] [hJ bd D] (fun r H=>H=[aB 9 1 r (eg A).length (nS (pY (eg A))),hJ bd D]):=by
 have kj:=hR.nodup _ (List.mem_cons_self ..)
 have Ae:=hR.fE _ (List.mem_cons_self ..)
 have Bd:(eS A.names).map (·.1)=eg A:=by simp[eS,eg,Function.comp_def]
 have XQ:(eS A.names).length=(eg A).length:=by simp[eS,eg]
 have gk:(eg A).length≤200:=by unfold eg;rw[List.length_map];exact Ae
 obtain⟨jm,Ze⟩:=List.getElem?_of_mem hR.names
 obtain⟨room,bm,kM,oH,nK,off,maps,ec,files,gF,wl⟩:=D
 simp only at Ze
 refine aE.ao Tryz.func66 Tryz.ntmps66 fun G F R hE=>?_
 refine ai (iY _ _ _ _ _ _ _ _ _ _ _ _ _) (go ?_)
 refine aH (P1 bm) ?_
 rintro _ _⟨bx,rfl,rfl⟩
 have hso:=Ib bx bm (eS A.names) (by rw[Bd];exact kj) ag
 rw[Bd,XQ]at hso
 refine aI (al.pick [2] rfl) ?_
 refine aI (ig kX Ze _) ?_
 refine aI (al.pick [2,0] rfl) (go ?_)
 refine aH hso ?_
 rintro v _ rfl
 refine aI (al.pick [2,3] rfl) ?_
 refine aI (pV kX Ze _) (go ?_)
 refine ai ((al.pick [3,0,4,5,6,7] rfl).trans (ek _ _ _ _ _ _ _ _ _ _ _ _ _)) ?_
 refine aL hE Tryz.func66 rfl _ zr zr ah
end Go.Proofs.YtedjnjkijiddlaaGreatDoor
namespace Go.Proofs.YtedjnjkijiddlaaGreatDoor
open Go Go.SL
attribute [local irreducible] J K aE Ends ae aB aP bP bq aS aZ bu bX Sha.chunks Sha.chunk Sha.rounds Sha.sched dK cm GI cQ
structure J0(A:Ab):Prop where
 ids:(A.fs.map (·.1)).Nodup
 known:∀st∈A.names::A.aw,∀x∈st,x.2∈A.fs.map (·.1)
 gW:∀x∈A.writes,x.1∈A.fs.map (·.1)
 nodup:∀st∈A.names::A.aw,(st.map (·.1)).Nodup
 gG:∀x∈A.fs,x.2.1.length≤1048576∧x.2.2.length≤1048576
 im:∀x∈A.writes,x.2.1+x.2.2.length≤1048576
 fE:∀st∈A.names::A.aw,st.length≤200
 iq:A.room≤1073741824
 full:A.aw≠[]
def J0.of{D:Dk}{A:Ab}(h:Rel D A):J0 A:=⟨h.ids,h.known,h.gW,h.nodup,h.gG,h.im,h.fE,h.iq,h.full⟩
def J0.file{A:Ab}(h:J0 A)(f:Nat):(A.file f).1.length≤1048576∧(A.file f).2.length≤1048576:=by
 unfold Ab.file
 cases hx:A.fs.find? (fun x=>decide (x.1=f))with
 | none=>simp
 | some x=>exact h.gG x (List.mem_of_find?_eq_some hx)
def J0.now{A:Ab}(h:J0 A)(f:Nat):(A.now f).length≤1048576:=(h.file f).1
def Cu{G:cJ}{w:World}{H:List HP}(hs:Sat G w H){i:Nat}{A:HP}(hi:cE H i=some A):∃h,A h:=let ⟨h,_,hA⟩:=hs.lf hi;⟨h,hA⟩
def Ff{bd:Nat}{A:Ab}{h:Hp}(hd:aC bd A h):J0 A:=let ⟨_,hR,_⟩:=hd;J0.of hR
section
variable{P:Program}{f:FuncId}{n:Nat}{R:Ending→World→Prop}{G:cJ}{k:List Item}{L:fJ}{H:List HP}{S:World→Prop}{all:Array Oper}{rest:Pl}
def uu{bd:Nat}{A:Ab}(i:Nat)(hi:cE H i=some (aC bd A))(h:J0 A→K P f n R G k L H):K P f n R G k L H :=
 sk fun⟨w,hw⟩=>by obtain⟨h1,hA⟩:=Cu hw hi;exact h (Ff hA)
def JS{bd:Nat}{A:Ab}(i:Nat)(hi:cE H i=some (aC bd A))(h:J0 A→J P f n R G S all rest k L H):J P f n R G S all rest k L H :=
 zK fun w hw=>by obtain⟨h1,hA⟩:=Cu hw hi;exact h (Ff hA)
end
attribute [local irreducible] aC
def ei(bd:Nat)(q:Int)(mb:Nat)(brk:Bool):List Value:=[ptr bd,.int .i64 q,.map (some mb),.bool brk]
def mw(kind:List UInt8)(d:Dg)(hk:kind.length≤1000):aE Tryz.prog 63 [.string (strOf kind),dV d] [] (fun r H=>r = .string (df kind d)∧H=[]):=by
 have ht:=PJ d
 unfold dV at ht ⊢
 refine aE.ao Tryz.func63 Tryz.ntmps63 fun G F R hE=>?_
 refine aD rfl ?_
 refine bG zr zr bD ?_
 intro b3
 refine go ?_
 refine aG (U:=aQ) (l:=dC d) 0 zr zr zr zr zr zr ?_
 refine aJ ht ?_
 refine zI zr zr zr (by show kind.length+(g8 d).length≤_;rw[jD];omega) ?_
 ((refine au 8 ((.string (df kind d))) rfl ((congrArg Value.string (by unfold df strOf;apply ByteArray.ext;simp))) ?_))
 refine go ?_
 refine ad hE Tryz.func63 zr zr ⟨rfl,rfl⟩
def E1(o:Option Dg):Value:=match o with
 | none => .tuple #[dV Dg.zero,.bool false]
 | some d => .tuple #[dV d,.bool true]
def Pg(s:ByteArray)(k:Nat):s.extract (0:Int).toNat (k:Int).toNat=strOf (s.data.toList.take k):=by
 unfold strOf
 apply ByteArray.ext
 apply Array.ext'
 rw[ByteArray.data_extract]
 simp
def Ph(s:ByteArray)(k:Nat):s.extract (k:Int).toNat (s.size:Int).toNat=strOf (s.data.toList.drop k):=by
 unfold strOf
 apply ByteArray.ext
 apply Array.ext'
 have:s.size=s.data.toList.length:=rfl
 rw[ByteArray.data_extract,this]
 simp
 rw[List.take_of_length_le (by simp)]
def E0(kind:List UInt8)(nm:ByteArray)(hk:kind.length≤1000):aE Tryz.prog 122 [.string (strOf kind),.string nm] [] (fun r H=>r=E1 (jJ kind nm)∧H=[]):=by
 have XP:(strOf kind).size=kind.length:=rfl
 have QB:nm.size=nm.data.toList.length:=rfl
 refine aE.ao Tryz.func122 Tryz.ntmps122 fun G F R hE=>?_
 refine aD rfl ?_
 refine az zr zr zr bD ?_
 intro b4
 have hN:¬kind.isPrefixOf nm.data.toList=true→jJ kind nm=none:=fun h=>by unfold jJ;rw[if_neg h]
 have hP:kind.isPrefixOf nm.data.toList=true→jJ kind nm=jS (nm.data.toList.drop kind.length):=fun h=>by unfold jJ;rw[if_pos h]
 have O0:kind.isPrefixOf nm.data.toList=true↔nm.data.toList.take kind.length=kind:=by
  rw[List.isPrefixOf_iff_prefix,List.prefix_iff_eq_take]
  exact eq_comm
 refine go ?_
 refine ie zr zr zr zr ?_ ?_
 ·intro de
  have OO:=hN (fun h=>by rw[O0]at h;have:=congrArg List.length h;rw[List.length_take]at this;omega)
  rw[OO]at hE
  refine go ?_
  refine jY (U:=aQ) zr zr zr zr zr (go ?_)
  (refine aY hE ?_;apply aU (U:=aQ) hE Tryz.func122 rfl (al.refl _);(repeat(first|exact aN.nil|apply aN.tmp rfl|apply aN.agg 0 zr zr zr zr zr));exact⟨rfl,rfl⟩;exact ah)
 ·intro fA
  have Zc:(kind.length:Int)≤(nm.size:Int):=by omega
  refine go ?_
  refine zJ (U:=aQ) (p:=0) (q:=(kind.length:Int)) zr zr zr zr zr zr (Int.le_refl _) (Int.natCast_nonneg _) Zc ?_
  refine au 17 ((.string (strOf (nm.data.toList.take kind.length)))) rfl ((congrArg Value.string (Pg nm kind.length))) (go ?_)
  refine aX 20 (.bool (!decide (nm.data.toList.take kind.length=kind))) rfl (by rw[n8]) ?_
  by_cases hp:nm.data.toList.take kind.length=kind
  ·rw[decide_eq_true hp]
   have hh:=hP (O0.2 hp)
   rw[hh]at hE
   refine go ?_
   refine zJ (U:=aQ) (p:=(kind.length:Int)) (q:=(nm.size:Int)) zr zr zr zr zr zr (Int.natCast_nonneg _) Zc (Int.le_refl _) ?_
   refine au 26 ((.string (strOf (nm.data.toList.drop kind.length)))) rfl ((congrArg Value.string (Ph nm kind.length))) ?_
   have abg:=L6 (strOf (nm.data.toList.drop kind.length))
   rw[sy]at abg
   refine aJ abg ?_
   cases nV:jS (nm.data.toList.drop kind.length)with
   | none =>
    rw[nV]at hE
    simp only
    unfold dV
    refine go ?_
    refine az zr zr zr bD ?_
    intro b6
    refine go ?_
    refine aG (U:=aQ) (l:=dC Dg.zero) 0 zr zr zr zr zr zr (go ?_)
    (refine aY hE ?_;apply aU (U:=aQ) hE Tryz.func122 rfl (al.refl _);(repeat(first|exact aN.nil|apply aN.tmp rfl|apply aN.agg 1 zr zr zr zr zr));exact⟨rfl,rfl⟩;exact ah)
   | some d =>
    rw[nV]at hE
    simp only
    unfold dV
    refine go ?_
    refine az zr zr zr bD ?_
    intro b6
    refine go ?_
    refine aG (U:=aQ) (l:=dC d) 0 zr zr zr zr zr zr (go ?_)
    (refine aY hE ?_;apply aU (U:=aQ) hE Tryz.func122 rfl (al.refl _);(repeat(first|exact aN.nil|apply aN.tmp rfl|apply aN.agg 1 zr zr zr zr zr));exact⟨rfl,rfl⟩;exact ah)
  ·rw[decide_eq_false hp]
   have OO:=hN (fun h=>hp (O0.1 h))
   rw[OO]at hE
   refine go ?_
   refine jY (U:=aQ) zr zr zr zr zr (go ?_)
   (refine aY hE ?_;apply aU (U:=aQ) hE Tryz.func122 rfl (al.refl _);(repeat(first|exact aN.nil|apply aN.tmp rfl|apply aN.agg 0 zr zr zr zr zr));exact⟨rfl,rfl⟩;exact ah)
def Nc(A:Ab)(nm:ByteArray):decide (((A.size nm).2:Int)=0)=qp A nm:=by
 unfold Ab.size qp
 cases A.look nm <;> rfl
def Oo(bs bd:Nat)(q:Int)(mb:Nat)(brk:Bool)(A:Ab)(nm:ByteArray):aE Tryz.prog 86 [ptr bs,.string nm] [ae bs (cl (ei bd q mb brk) 123),aC bd A]
  (fun r H=>r = .bool (qp A nm)∧H=[ae bs (cl (ei bd q mb brk) 123),aC bd A]):=by
 have hs:=Nc A nm
 refine aE.ao Tryz.func86 Tryz.ntmps86 fun G F R hE=>?_
 refine go ?_
 refine aJ (um bd A nm) ?_
 refine go ?_
 rw[← hs]at hE
 refine ad hE Tryz.func86 zr zr ⟨rfl,rfl⟩
def vq(bs bd:Nat)(q:Int)(mb:Nat)(brk:Bool)(A:Ab)(nm:ByteArray):aE Tryz.prog 109 [ptr bs,.string nm] [ae bs (cl (ei bd q mb brk) 123),aC bd A]
  (fun r H=>∃rv,r = .tuple #[rv,.bool (fm A nm).isSome]∧H=[aB 5 1 rv ((fm A nm).getD []).length (bV ((fm A nm).getD [])),ae bs (cl (ei bd q mb brk) 123),aC bd A]):=by
 refine aE.ao Tryz.func109 Tryz.ntmps109 fun G F R hE=>?_
 refine go ?_
 refine aJ (um bd A nm) ?_
 have hn:A.look nm=none→fm A nm=none∧A.size nm=(0,4):=fun h=>by unfold fm Ab.size;rw[h];exact⟨rfl,rfl⟩
 have hr:∀f,A.look nm=some f→A.size nm=((A.now f).length,0)∧A.read nm 0 ((A.now f).length:Int)=((fm A nm).getD [],if(fm A nm).isSome then 0 else 7):=fun f h=>by
  unfold fm Ab.size Ab.read
  rw[h]
  cases jV:A.off with
  | true=>exact⟨rfl,rfl⟩
  | false =>
   refine⟨rfl,?_⟩
   simp only[Bool.false_eq_true,if_false,Option.getD_some,Option.isSome_some,if_true]
   rw[if_neg ag]
   simp
 cases hl:A.look nm with
 | none =>
  obtain⟨h1,h2⟩:=hn hl
  rw[h2]
  rw[h1]at hE
  simp only
  refine go ?_
  refine ai (bN 5 1 none _) ?_
  refine ad hE Tryz.func109 zr zr ⟨_,rfl,rfl⟩
 | some f =>
  obtain⟨h1,h2⟩:=hr f hl
  rw[h1]
  simp only
  have rY:=xq bd A nm 0 ((A.now f).length:Int)
  rw[h2]at rY
  refine go ?_
  refine aH rY ?_
  rintro _ _⟨r,rfl,rfl⟩
  generalize fm A nm=o at hE ⊢
  cases o with
  | none =>
   refine go ?_
   refine ad hE Tryz.func109 zr zr ⟨_,rfl,rfl⟩
  | some b =>
   refine go ?_
   refine ad hE Tryz.func109 zr zr ⟨_,rfl,rfl⟩
end Go.Proofs.YtedjnjkijiddlaaGreatDoor
namespace Go.SL
open Go
namespace Sha
def BU(c:UInt8)(k:Nat)(hk:k≤24):(wB c <<< k).toNat=c.toNat*2 ^ k:=by
 have:=c.toNat_lt
 rw[BitVec.toNat_shiftLeft,sr,Nat.shiftLeft_eq]
 have h2:2 ^ k≤2 ^ 24:=Nat.pow_le_pow_right ag hk
 rw[Nat.mod_eq_of_lt]
 calc c.toNat*2 ^ k<2 ^ 8*2 ^ 24:=Nat.mul_lt_mul_of_lt_of_le ag h2 (Nat.pow_pos ag)
  _=2 ^ 32:=by decide
def MS(a b c d:Nat)(ha:a<256)(hb:b<256)(hc:c<256)(hd:d<256):((a*2 ^ 24 ||| b*2 ^ 16) ||| c*2 ^ 8) ||| d=((a*256+b)*256+c)*256+d:=by
 have e1:a*2 ^ 24 ||| b*2 ^ 16=(a*256+b)*2 ^ 16:=by
  rw[Nat.or_comm,oS (k:=24) ag];omega
 have e2:(a*256+b)*2 ^ 16 ||| c*2 ^ 8=((a*256+b)*256+c)*2 ^ 8:=by
  rw[Nat.or_comm,oS (k:=16) ag];omega
 have e3:((a*256+b)*256+c)*2 ^ 8 ||| d=((a*256+b)*256+c)*256+d:=by
  rw[Nat.or_comm,oS (k:=8) ag];omega
 rw[e1,e2,e3]
def MT(a b c d:UInt8):wB a*16777216#32+wB b*65536#32+wB c*256#32+wB d=(wB a <<< 24 ||| wB b <<< 16 ||| wB c <<< 8 ||| wB d:jt):=by
 have ha:=a.toNat_lt;have hb:=b.toNat_lt;have hc:=c.toNat_lt;have hd:=d.toNat_lt
 apply BitVec.eq_of_toNat_eq
 rw[BitVec.toNat_or,BitVec.toNat_or,BitVec.toNat_or,BU _ 24 ag,BU _ 16 ag,BU _ 8 ag,sr,MS _ _ _ _ ha hb hc hd,
  BitVec.toNat_add,BitVec.toNat_add,BitVec.toNat_add,BitVec.toNat_mul,BitVec.toNat_mul,BitVec.toNat_mul,sr,sr,sr,sr,BitVec.toNat_ofNat,BitVec.toNat_ofNat,BitVec.toNat_ofNat]
 generalize a.toNat=p at *
 generalize b.toNat=q at *
 generalize c.toNat=r at *
 generalize d.toNat=u at *
 omega
end Sha
end Go.SL
namespace Go.Proofs.YtedjnjkijiddlaaGreatDoor
open Go Go.SL
attribute [local irreducible] J K aE Ends ae aB aP bP bq aS aZ bu bX
def gu(x:jt)(n:Nat)(h1:1≤n)(h2:n≤31):aE Tryz.prog 144 [u32 x,.int .u64 (n:Int)] [] (fun r H=>r=u32 (Sha.uG x n)∧H=[]):=by
 unfold u32
 rw[← Sha.QY x n h1 h2]
 refine aE.ao Tryz.func144 Tryz.ntmps144 fun G F R hE=>?_
 refine go ?_
 refine qH n zr zr zr zr ag (go ?_)
 refine au 10 ((.int .u64 ((32-n:Nat):Int))) rfl ((congrArg (Value.int .u64) ag)) ?_
 refine Io (32-n) zr zr zr zr ag ?_
 refine je zr zr zr (go ?_)
 refine ad hE Tryz.func144 zr zr ⟨rfl,rfl⟩
def QO(a b c:jt):aE Tryz.prog 145 [u32 a,u32 b,u32 c] [] (fun r H=>r=u32 (Sha.maj a b c)∧H=[]):=by
 unfold u32
 rw[← Sha.Rl a b c]
 refine aE.ao Tryz.func145 Tryz.ntmps145 fun G F R hE=>?_
 refine go ?_
 (repeat(first|refine gy ?_|refine C8 zr zr zr ?_|refine FK zr zr zr ?_))
 refine ad hE Tryz.func145 zr zr ⟨rfl,rfl⟩
def Am:aE Tryz.prog 143 [] [] (fun r H=>r = .agg (wV Sha.ks).toArray∧H=[]):=by
 refine aE.ao Tryz.func143 Tryz.ntmps143 fun G F R hE=>?_
 refine aD rfl ?_
 refine az zr zr zr bD ?_
 intro b0
 refine ld ?_
 refine aD rfl ?_
 refine mL (U:=aQ) (cs:=wV Sha.ks) zr zr zr zr zr zr ?_
 refine ct (U:=aQ) (l':=wV Sha.ks) 0 gB zr zr zr zr (by decide) (fC _) zr zr zr (go ?_)
 refine jC (U:=aQ) 0 hE Tryz.func143 zr zr zr zr zr zr zr ⟨rfl,rfl⟩ ah
def DL(b:List UInt8)(t:Nat)(h:t<16):(Sha.eN b t).set t (Sha.word b t)=Sha.eN b (t+1):=by
 unfold Sha.eN
 rw[List.set_append_right _ _ (by rw[Sha.dP];exact Nat.le_refl _),Sha.dP,Nat.sub_self,show 64-t=(64-(t+1))+1 from by omega,List.replicate_succ,List.set_cons_zero]
 conv=>rhs;unfold Sha.sched
 rw[if_pos h]
 simp
attribute [local irreducible] Sha.chunks Sha.chunk Sha.rounds Sha.sched dK
def J2(A:HP)(v:Value)(b:List UInt8)(hv:eM A v b)(HD:64≤b.length) :
  aE Tryz.prog 142 [v] [A] (fun r H=>r = .agg (wV (Sha.sched b 64)).toArray∧H=[A]):=by
 obtain⟨a,c,rfl,hc⟩:=hv.2
 refine aE.ao Tryz.func142 Tryz.ntmps142 fun G F R hE=>?_
 refine aD rfl ?_
 refine az zr zr zr bD ?_
 intro b2
 refine ld ?_
 (refine aD rfl ?_;refine ld ?_)
 refine az zr zr zr bD ?_
 intro b3
 refine go ?_
 have hz:Sha.eN b 0=List.replicate 64 0:=by unfold Sha.eN;unfold Sha.sched;rfl
 refine bB (fun t:Nat=>t≤16) (fun t=>16-t)
  (fun t=>[(0,.slice a b.length c),(2,ptr b2),(3,ptr b3),(4,.int .i64 (t:Int))])
  (fun t=>ae b3 (cl (wV (Sha.eN b t)) 196)::ae b2 (cl (wV (List.replicate 64 0)) 196)::A::F) 0 (Nat.zero_le _) rfl cg (by rw[hz];exact ah) ?_
 rintro t ht ih
 have hlen:=Sha.sB b t ag
 refine go ?_
 refine aq zr zr ?_ ?_
 ·intro de
  have K0:t<16:=by omega
  obtain⟨bb,oo,cc,gk⟩:=hv.1.some (by intro e;have:=congrArg List.length e;rw[bC,List.length_nil]at this;omega)
  simp only[Value.slice.injEq,true_and]at gk
  obtain⟨rfl,rfl⟩:=gk
  have hg:∀j,j<4→(bV b)[4*t+j]?=some (u8 (b.getD (4*t+j) 0)):=fun j hj=>pk (by rw[List.getD_eq_getElem?_getD,List.getElem?_eq_getElem ag];rfl)
  have ir:=DL b t K0
  have hw:wB (b.getD (4*t+0) 0)*16777216#32+wB (b.getD (4*t+1) 0)*65536#32+wB (b.getD (4*t+2) 0)*256#32+wB (b.getD (4*t+3) 0)=Sha.word b t:=Sha.MT _ _ _ _
  have g0:=hg 0 ag
  have g1:=hg 1 ag
  have g2:=hg 2 ag
  have g3:=hg 3 ag
  generalize b.getD (4*t+0) 0=x0 at hw g0
  generalize b.getD (4*t+1) 0=x1 at hw g1
  generalize b.getD (4*t+2) 0=x2 at hw g2
  generalize b.getD (4*t+3) 0=x3 at hw g3
  refine go ?_
  refine aF (fun w=>Sat G w ([A])) (cZ 0 35 (.act 35 .nil)) rfl ak ak ak dT ?_
  refine go ?_
  (refine go ?_;refine ib zr zr zr (by simp only[gq];omega) ?_;refine go ?_;refine bM (4*t+0) zr zr zr zr zr zr zr ag ag ?_;refine aK ?_;refine cO 0 (4*t+0) zr zr zr hv.1 rfl g0 zr zr ?_;refine ez ?_;refine qG (U:=aQ) zr zr zr zr zr zr ?_)
  refine Iq (q:=16777216#32) zr zr zr ?_
  (refine go ?_;refine ib zr zr zr (by simp only[gq];omega) ?_;refine go ?_;refine bM (4*t+1) zr zr zr zr zr zr zr ag ag ?_;refine aK ?_;refine cO 0 (4*t+1) zr zr zr hv.1 rfl g1 zr zr ?_;refine ez ?_;refine qG (U:=aQ) zr zr zr zr zr zr ?_)
  refine Iq (q:=65536#32) zr zr zr ?_
  refine jZ zr zr zr ?_
  (refine go ?_;refine ib zr zr zr (by simp only[gq];omega) ?_;refine go ?_;refine bM (4*t+2) zr zr zr zr zr zr zr ag ag ?_;refine aK ?_;refine cO 0 (4*t+2) zr zr zr hv.1 rfl g2 zr zr ?_;refine ez ?_;refine qG (U:=aQ) zr zr zr zr zr zr ?_)
  refine Iq (q:=256#32) zr zr zr ?_
  refine jZ zr zr zr ?_
  (refine go ?_;refine ib zr zr zr (by simp only[gq];omega) ?_;refine go ?_;refine bM (4*t+3) zr zr zr zr zr zr zr ag ag ?_;refine aK ?_;refine cO 0 (4*t+3) zr zr zr hv.1 rfl g3 zr zr ?_;refine ez ?_;refine qG (U:=aQ) zr zr zr zr zr zr ?_)
  refine jZ zr zr zr ?_
  rw[hw]
  refine ep (U:=aQ) t zr zr zr zr zr zr zr zr ag ?_
  refine aT ?_
  refine gV (U:=aQ) 0 gB zr zr zr zr zr zr zr (by rw[lq,hlen];omega) rfl ?_
  rw[show 0+t=t from Nat.zero_add _]
  refine go ?_
  have EE:=(xE (Sha.eN b t) t _).trans (congrArg wV ir)
  refine ai (H':=ae b3 (cl (wV (Sha.eN b (t+1))) 196)::ae b2 (cl (wV (List.replicate 64 0)) 196)::A::F) (by rw[← EE];exact al.refl _) ?_
  refine aM ih (t+1) rfl ag ag cg ah
 intro fA
 have ac7:t=16:=by omega
 subst ac7
 clear ih
 refine go ?_
 refine bB (fun t:Nat=>16≤t∧t≤64) (fun t=>64-t)
  (fun t=>[(2,ptr b2),(3,ptr b3),(5,.int .i64 (t:Int))])
  (fun t=>ae b3 (cl (wV (Sha.eN b t)) 196)::ae b2 (cl (wV (List.replicate 64 0)) 196)::A::F) 16 ⟨ag,ag⟩ rfl cg ah ?_
 rintro t⟨K0,ht2⟩ ih
 have hlen:=Sha.sB b t ht2
 refine go ?_
 refine aq zr zr ?_ ?_
 ·intro de
  have ht:t<64:=by omega
  have g2:=Sha.iG b t (t-2) ag
  have g7:=Sha.iG b t (t-7) ag
  have g15:=Sha.iG b t (t-15) ag
  have g16:=Sha.iG b t (t-16) ag
  have lC:=Sha.vI b t K0 ht
  generalize (Sha.sched b t).getD (t-2) 0=y2 at g2 lC
  generalize (Sha.sched b t).getD (t-7) 0=y7 at g7 lC
  generalize (Sha.sched b t).getD (t-15) 0=y15 at g15 lC
  generalize (Sha.sched b t).getD (t-16) 0=y16 at g16 lC
  have abT:y16+y7+(Sha.uG y15 7 ^^^ Sha.uG y15 18 ^^^ y15 >>> 3)+(Sha.uG y2 17 ^^^ Sha.uG y2 19 ^^^ y2 >>> 10)=y16+y7+Sha.s1 y2+Sha.s0 y15:=by
   show y16+y7+Sha.s0 y15+Sha.s1 y2=_
   rw[BitVec.add_assoc,BitVec.add_comm (Sha.s0 y15),← BitVec.add_assoc]
  refine go ?_
  refine ep (U:=aQ) (t-15) zr zr zr zr zr zr zr ag ag ?_
  refine aK ?_
  refine mJ (U:=aQ) 0 (t-15) zr zr zr (Nat.zero_add _) (iE g15) zr zr (go ?_)
  refine ep (U:=aQ) (t-2) zr zr zr zr zr zr zr ag ag ?_
  refine aK ?_
  refine mJ (U:=aQ) 0 (t-2) zr zr zr (Nat.zero_add _) (iE g2) zr zr (go ?_)
  refine aF (fun w=>Sat G w ([ae b3 (cl (wV (Sha.eN b t)) 196)])) (cZ 0 11 (.st 12 (.st 15 (.st 16 (.st 19 (.st 21 (.st 24 (.st 25 (.act 11 (.act 13 (.st 14 (.st 17 (.st 18 (.act 20 (.act 22 (.st 23 (cZ 26 3 (.act 29 .nil)))))))))))))))))) rfl ak ak ak dT ?_
  refine go ?_
  refine ep (U:=aQ) (t-16) zr zr zr zr zr zr zr ag ag ?_
  refine aK ?_
  refine eR (U:=aQ) 0 (t-16) zr zr zr (Nat.zero_add _) (iE g16) zr zr (go ?_)
  refine ep (U:=aQ) (t-7) zr zr zr zr zr zr zr ag ag ?_
  refine aK ?_
  refine eR (U:=aQ) 0 (t-7) zr zr zr (Nat.zero_add _) (iE g7) zr zr ?_
  refine jZ zr zr zr (go ?_)
  refine qH 3 zr zr zr zr ag (go ?_)
  refine qH 10 zr zr zr zr ag ?_
  refine bo ((gu y15 7 ag ag)) ?_
  refine bo ((gu y15 18 ag ag)) ?_
  refine je zr zr zr ?_
  refine je zr zr zr ?_
  refine jZ zr zr zr ?_
  refine bo ((gu y2 17 ag ag)) ?_
  refine bo ((gu y2 19 ag ag)) ?_
  refine je zr zr zr ?_
  refine je zr zr zr ?_
  refine jZ zr zr zr ?_
  rw[abT]
  refine ep (U:=aQ) t zr zr zr zr zr zr zr zr ag ?_
  refine aT ?_
  refine gV (U:=aQ) 0 gB zr zr zr zr zr zr zr (by rw[lq,hlen];omega) rfl ?_
  rw[show 0+t=t from Nat.zero_add _]
  refine go ?_
  have EE:=(xE (Sha.eN b t) t _).trans (congrArg wV lC)
  refine ai (H':=ae b3 (cl (wV (Sha.eN b (t+1))) 196)::ae b2 (cl (wV (List.replicate 64 0)) 196)::A::F) (by rw[← EE];exact al.refl _) ?_
  refine aM ih (t+1) rfl ⟨ag,ag⟩ ag cg ah
 intro fA
 have Hk:t=64:=by omega
 subst Hk
 rw[Sha.x7]
 have E4:(wV (Sha.sched b 64)).length=64:=by rw[lq,Sha.dP]
 have gw:iN (wV (Sha.sched b 64))=true:=fC _
 generalize wV (Sha.sched b 64)=W at E4 gw hE ⊢
 refine go ?_
 refine aG (U:=aQ) 0 zr zr zr zr zr E4 ?_
 refine ct (U:=aQ) 1 gB rfl rfl rfl E4 (by intro e;rw[e]at E4;cases E4) gw rfl (by rw[E4];simp[lq]) rfl ?_
 refine go ?_
 refine jC (U:=aQ) 1 hE Tryz.func142 zr zr zr zr zr E4 rfl ⟨rfl,rfl⟩ ah
end Go.Proofs.YtedjnjkijiddlaaGreatDoor
