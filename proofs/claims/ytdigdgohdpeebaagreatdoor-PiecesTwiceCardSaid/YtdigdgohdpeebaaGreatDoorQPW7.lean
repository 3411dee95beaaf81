import Derived.Test.YtdigdgohdpeebaaGreatDoorQPW3
import Derived.Test.YtdigdgohdpeebaaGreatDoorQPW4
import Derived.Test.YtdigdgohdpeebaaGreatDoorQPW5
import Derived.Test.YtdigdgohdpeebaaGreatDoorQPW6
import Derived.ProofKit
import Derived.Below
import Derived.Shelf.SortG.Plain
import Derived.Shelf.SortG.SortNone
import Derived.Test.YtdigdgohdpeebaaGreatDoorChecked
set_option linter.unusedSectionVars false
set_option linter.unusedSimpArgs false
set_option linter.unusedVariables false
set_option maxHeartbeats 1000000
set_option maxRecDepth 20000
set_option linter.defProp false
namespace Go.Proofs.YtdigdgohdpeebaaGreatDoor
open Go Go.SL
attribute [local irreducible] J K aE Ends ae az aQ bP bj aT aU bp bW Sha.chunks Sha.chunk Sha.rounds Sha.sched dW cH GI db
def En(A:HP)(hK:oD A)(b1 b2:Nat)(v:Value)(b:List UInt8)(hv:eM A v b)(hl:b.length≤900000000)(k:Nat)(hk:1≤k)(yz:k≤1000000000) :
  Qj 239 [ptr b1,ptr b2] ((gz k b.length b).map db) [ae b1 (cl [v] 39),ae b2 (cl [.int .i64 (k:Int)] 3),A] [A]:=by
 intro l Lp Inv hy
 obtain⟨a,c,rfl,hc⟩:=hv.2
 refine aE.au Tryz.func239 Tryz.ntmps239 fun G F R hE=>?_
 refine aG rfl ?_
 refine bG zr zr bD ?_
 intro b3
 refine go ?_
 refine aF (MC a b.length c (k:Int) ag) ?_
 rintro _ _⟨c1,c2,rfl,rfl⟩
 refine go ?_
 refine iN rfl ?_
 refine ai (ao.trans (ao.pick [3,4,2] rfl) (ao.bS [Lp,Inv 0,ae b3 (cl [.func (.yield l) #[] #[] ] 116)] _)) ?_
 refine qy (Fr:=F) (Pre:=fun _ _=>[Sep [Lp,Inv 0,ae b3 (cl [.func (.yield l) #[] #[] ] 116)],ae c1 (cl [.slice a b.length c] 39),ae c2 (cl [.int .i64 (k:Int)] 3),A]) (fun _ _ Lp2 v H=>H=[Lp2 .ready none,Sep [Lp,Inv (gz k b.length b).length,ae b3 (cl [.func (.yield l) #[] #[] ] 116)],A]) rfl hE.1.1 rfl ?c (fun l r=>ah) ?gP
 case c =>
  intro l2 r2
  refine IB A c1 c2 _ b hv ag k hk yz l2 _ (fun j=>Sep [Lp,Inv j,ae b3 (cl [.func (.yield l) #[] #[] ] 116)]) ?_
  intro j p rv hp Jq
  have hyj:=hy j (db p) (by rw[List.getElem?_map,hp];rfl)
  have qX:p.length≤900000000:=by
   have h1:=kY k hk b.length b j (Nat.le_refl _)
   rw[hp]at h1
   split at h1
   ·cases h1;rw[List.length_take,List.length_drop];omega
   ·cases h1
  refine bW.Ea zr zr ?_
  intro G F2 R2 hY
  refine go ?_
  refine gl rfl hY ?_
  refine ai (ao.trans (ao.pick [1] rfl) (ao.cJ [_,_,_] _)) ?_
  refine aH (fun w=>Sat G w ([ae b3 (cl [.func (.yield l) #[] #[] ] 116)])) (.st 0 (.st 1 (.act 2 (.act 3 (.st 4 .nil))))) rfl ak ak ak eo ?_
  refine go ?_
  refine bC ((FJ A hK rv p Jq qX)) ?_
  refine go ?_
  refine kT rfl rfl rfl hyj ah ?_ tqg
  rintro _ _⟨rfl,rfl⟩
  refine go ?_
  refine ai (ao.trans (ao.pick [0,1,3] rfl) (ao.bS [Lp,Inv (j+1),ae b3 (cl [.func (.yield l) #[] #[] ] 116)] _)) ?_
  refine fK hY rfl ah ⟨rfl,rfl⟩
 rintro l2 r2 v2 H' rfl
 refine⟨_,_,_,rfl,by decide,?_⟩
 rw[hE.1.2]
 rw[List.length_map]at hE
 refine ai (ao.cJ [_,_,_] _) (go ?_)
 apply Im hE Tryz.func239 rfl _ zr zr
 exact ah
def Hi(a:Option Addr)(n c:Nat)(k:Int):aE Tryz.prog 220 [.slice a n c,.int .i64 k] [] (fun r H=>∃b1 b2,r = .func (.func 239) #[] #[ptr b1,ptr b2]∧H=[ae b1 (cl [.slice a n c] 39),ae b2 (cl [.int .i64 k] 3)]):=by
 refine aE.au Tryz.func220 Tryz.ntmps220 fun G F R hE=>?_
 refine aG rfl ?_
 refine bG zr zr bD ?_
 intro b1
 refine bG zr zr bD ?_
 intro b2
 refine go ?_
 refine ad hE Tryz.func220 zr zr ⟨b1,b2,rfl,rfl⟩
def k8{b:List UInt8}{k:Int}{ls:List Dg}(h:dt b k=some ls):1≤ls.length∧ls.length≤1024:=by
 unfold dt at h
 split at h
 ·rename_i hr
  cases h
  simp only[bF,decide_eq_true_eq]at hr
  obtain⟨k,rfl⟩:∃m:Nat,k=m:=⟨k.toNat,ag⟩
  rw[List.length_map,Int.toNat_natCast,m8 k ag]
  have h2:=hr.2.2.2.2
  have h3:((b.length:Int)+(k:Int)-1)/(k:Int)=(((b.length+k-1)/k:Nat):Int):=by
   rw[Int.natCast_ediv];congr 1;omega
  rw[h3]at h2
  have h4:1≤(b.length+k-1)/k:=by rw[Nat.le_div_iff_mul_le ag];omega
  omega
 ·cases h
def Il(A:HP)(hK:oD A)(v:Value)(b:List UInt8)(hv:eM A v b)(hl:b.length≤900000000)(k:Int) :
  aE Tryz.prog 200 [v,.int .i64 k] [A] (fun r H=>(dt b k=none∧r = .tuple #[.slice none 0 0,.int .i64 1]∧H=[A])∨∃ls rv,dt b k=some ls∧r = .tuple #[rv,.int .i64 0]∧H=[az 36 32 rv ls.length (ls.flatMap dC),A]):=by
 obtain⟨a,c,rfl,hc⟩:=hv.2
 refine aE.au Tryz.func200 Tryz.ntmps200 fun G F R hE=>?_
 ((refine go ?_;(refine aF (om ⟨Dg.zero,b.length,k,Dg.zero⟩) ?_)))
 rintro _ _⟨rfl,rfl⟩
 cases hr:bF ⟨Dg.zero,b.length,k,Dg.zero⟩with
 | false =>
  have hn:dt b k=none:=by unfold dt;rw[if_neg (by rw[hr];simp)]
  refine go ?_
  refine ad hE Tryz.func200 zr zr (.inl ⟨hn,rfl,rfl⟩)
 | true =>
  have hs:dt b k=some ((gz k.toNat b.length b).map db):=by unfold dt;rw[if_pos hr]
  have wu:=k8 hs
  simp only[bF,decide_eq_true_eq]at hr
  obtain⟨k,rfl⟩:∃m:Nat,k=m:=⟨k.toNat,ag⟩
  rw[Int.toNat_natCast]at hs wu
  refine go ?_
  refine aF (Hi a b.length c (k:Int)) ?_
  rintro _ _⟨b1,b2,rfl,rfl⟩
  refine go ?_
  refine aF (C6 239 [ptr b1,ptr b2] _ [ae b1 (cl [.slice a b.length c] 39),ae b2 (cl [.int .i64 (k:Int)] 3),A] [A] ag (En A hK b1 b2 _ b hv hl k ag ag)) ?_
  rintro rv _ rfl
  refine go ?_
  refine ad hE Tryz.func200 zr zr (.inr ⟨_,_,hs,rfl,rfl⟩)
def uq{P:Program}{f:FuncId}{n:Nat}{R:Ending→World→Prop}{G:cI}{k:List Item}{L:fD}{H:List HP}{S:World→Prop}{all:Array Oper}{rest:Pl}{e:TypeId}{sz nn:Nat}{v:Value}{cs:List Value}{A:HP}(h:Vw (az e sz v nn cs) v nn cs→J P f n R G S all rest k L (Sep [az e sz v nn cs,A]::H)):J P f n R G S all rest k L (az e sz v nn cs::A::H) :=
 zA fun w hw=>by
  obtain⟨h1,_,hA⟩:=hw.lj (i:=0) rfl
  exact aI (ao.bS [_,_] _) (h (Vw.oR e sz v nn cs ⟨h1,hA⟩))
def Qn(A:HP)(hK:oD A)(v:Value)(b:List UInt8)(hv:eM A v b)(hl:b.length≤900000000)(k:Int) :
  aE Tryz.prog 157 [v,.int .i64 k] [A] (fun r H=>r=(match gx b k with
   | none => .tuple #[eS Bl.zero,.int .i64 1]
   | some x => .tuple #[eS x,.int .i64 0])∧H=[A]):=by
 have oY:=hv
 obtain⟨a,c,rfl,hc⟩:=hv.2
 refine aE.au Tryz.func157 Tryz.ntmps157 fun G F R hE=>?_
 refine aG rfl ?_
 refine aC zr zr zr bD ?_
 intro b4
 refine go ?_
 refine aF (Il A hK _ b hv hl k) ?_
 rintro _ _ (⟨hn,rfl,rfl⟩|⟨ls,rv,hs,rfl,rfl⟩)
 ·have hb:gx b k=none:=by unfold gx;rw[hn];rfl
  rw[hb]at hE
  refine go ?_
  (refine bg hE ?_;apply aY (U:=aS) hE Tryz.func157 rfl (ao.refl _);(repeat(first|exact aP.nil|apply aP.tmp rfl|apply aP.agg 1 zr zr zr zr zr));exact⟨rfl,rfl⟩;exact ah)
 ·have hb:gx b k=some ⟨dW b,b.length,k,xR ls⟩:=by unfold gx;rw[hs];rfl
  rw[hb]at hE
  have wu:=k8 hs
  refine aN 0 rfl ?_
  rintro ra rc rfl
  refine go ?_
  refine aO (wW A hK _ b hv ag) ?_
  refine go ?_
  refine aI (ao.pick [1,0] rfl) ?_
  refine uq fun dM=>?_
  ((refine aF (PW _ (hK.mono (bh (i:=1) rfl)) _ ls (dM.mono (bh (i:=0) rfl)) ag (by intro e;rw[e]at wu;simp at wu)) ?_))
  rintro _ _⟨rfl,rfl⟩
  refine aI (ao.cJ _ _) (go ?_)
  (refine bg hE ?_;apply aY (U:=aS) hE Tryz.func157 rfl (ao.refl _);(repeat(first|exact aP.nil|apply aP.tmp rfl|apply aP.agg 2 zr zr zr zr zr));exact⟨rfl,rfl⟩;exact ah)
def Yd(x:Bl):((bJ x).drop 0).take 32=dC x.d:=rfl
def Se(x:Bl):((bJ x).drop 34).take 32=dC x.root:=rfl
def ab3(x:Bl):(bJ x).toArray[32]?=some (.int .i64 x.size):=rfl
def ab2(x:Bl):(bJ x).toArray[33]?=some (.int .i64 x.piece):=rfl
def Yh : Tryz.prog.fieldsOf 38 = #[{ name := "Digest", type := 36, offset := 0, embedded := false, tag := "", pkgPath := "", byteOffset := 0 },
        { name := "Size", type:=3,offset:=32,embedded:=false,tag := "", pkgPath := "", byteOffset:=32 },
        { name := "Piece", type:=3,offset:=33,embedded:=false,tag := "", pkgPath := "", byteOffset:=40 },
        { name := "Root", type:=36,offset:=34,embedded:=false,tag := "", pkgPath := "", byteOffset:=48 }]:=by kernel_rfl
def Yg:Tryz.prog.underlying 38=some (.struct (Tryz.prog.fieldsOf 38)):=by kernel_rfl
def Sf:Tryz.prog.stoodInHeld 38=false:=by kernel_rfl
def ad4:Tryz.prog.cellsOf 36=32:=by kernel_rfl
def Ye:Tryz.prog.cellsOf 5=1:=by kernel_rfl
def ad3:Tryz.prog.plainKey 3=true:=by kernel_rfl
def X3:Tryz.prog.eqGuardType Tryz.prog.depth 38=false:=by kernel_rfl
def abV{P : Program}(h1 : P.fieldsOf 38 = #[{ name := "Digest", type := 36, offset := 0, embedded := false, tag := "", pkgPath := "", byteOffset := 0 },
        { name := "Size", type:=3,offset:=32,embedded:=false,tag := "", pkgPath := "", byteOffset:=32 },
        { name := "Piece", type:=3,offset:=33,embedded:=false,tag := "", pkgPath := "", byteOffset:=40 },
        { name := "Root", type:=36,offset:=34,embedded:=false,tag := "", pkgPath := "", byteOffset:=48 }])(h2:P.underlying 38=some (.struct (P.fieldsOf 38)))(h3:P.stoodInHeld 38=false)(h4:P.cellsOf 36=32)(h5:P.cellsOf 5=1)(h6:P.plainKey 3=true)(h7:P.underlying 36=some (.array 32 5))(h8:P.underlying 5=some (.int .u8))(h9:P.underlying 3=some (.int .i64))(x y:Bl)(D:Nat)(w:World) :
    (Op.equalIn (D+2+1) 38 (eS x) (eS y)).run P w = .ok (decide (x=y)) w:=by
  unfold eS
  rw[run_equalIn_struct w (D+2) 38 _ _ h2 h3,h1]
  have h:=zP (P:=P) (td:=36) (ti:=3) (f1:={ name := "Digest", type:=36,offset:=0,embedded:=false,tag := "", pkgPath := "", byteOffset:=0 })
    (f2:={ name := "Size", type:=3,offset:=32,embedded:=false,tag := "", pkgPath := "", byteOffset:=32 }) (f3:={ name := "Piece", type:=3,offset:=33,embedded:=false,tag := "", pkgPath := "", byteOffset:=40 })
    (f4:={ name := "Root", type:=36,offset:=34,embedded:=false,tag := "", pkgPath := "", byteOffset:=48 }) (by decide) (by decide) (by decide) (by decide) (D+2) w (bJ x) (bJ y) x.d y.d x.root y.root x.size y.size x.piece y.piece
    (fun a b=>sj h7 h8 h5 a b D w) (fun a b=>Kq h9 a b (D+1) w) zr zr zr zr
    (wI h7 h4 _ 0 _ (Yd x) w) (wI h7 h4 _ 0 _ (Yd y) w) (Go.run_part_plain w h6 (ab3 x)) (Go.run_part_plain w h6 (ab3 y)) (Go.run_part_plain w h6 (ab2 x)) (Go.run_part_plain w h6 (ab2 y)) (wI h7 h4 _ 34 _ (Se x) w) (wI h7 h4 _ 34 _ (Se y) w)
  refine Eq.trans h ?_
  congr 1
  rw[decide_eq_decide]
  obtain⟨d1,s1,p1,r1⟩:=x
  obtain⟨d2,s2,p2,r2⟩:=y
  simp
def X7(x y:Bl)(w:World):(Op.equal 38 (eS x) (eS y)).run Tryz.prog w = .ok (decide (x=y)) w :=
 abV Yh Yg Sf ad4 Ye ad3 Tryz.underlying36 Tryz.underlying5 Tryz.underlying3 x y 9997 w
def L7(A:HP)(hK:oD A)(x:Bl)(v:Value)(b:List UInt8)(hv:eM A v b)(hl:b.length≤900000000) :
  aE Tryz.prog 100 [eS x,v] [A] (fun r H=>r = .bool (ej x b)∧H=[A]):=by
 have oY:=hv
 obtain⟨a,c,rfl,hc⟩:=hv.2
 have jO:=Qn A hK _ b hv hl x.piece
 unfold eS at jO ⊢
 refine aE.au Tryz.func100 Tryz.ntmps100 fun G F R hE=>?_
 refine aG rfl ?_
 refine bG zr zr bD ?_
 intro b2
 refine go ?_
 refine aO jO ?_
 cases hb:gx b x.piece with
 | none =>
  have hw:ej x b=false:=by unfold ej;rw[hb];rfl
  rw[hw]at hE
  refine go ?_
  refine aC zr zr zr bD ?_
  intro b5
  refine go ?_
  refine ad hE Tryz.func100 zr zr ⟨rfl,rfl⟩
 | some y =>
  have hw:ej x b=decide (x=y):=by unfold ej;rw[hb];simp only[Option.some.injEq];rw[decide_eq_decide];exact eq_comm
  rw[hw]at hE
  simp only
  refine go ?_
  refine aC zr zr zr bD ?_
  intro b5
  refine go ?_
  (repeat(first|refine gO ?_|refine aJ (U:=aS) (l:=bJ x) 2 zr zr zr zr zr zr ?_|refine aJ (U:=aS) (l:=bJ y) 0 zr zr zr zr zr zr ?_|refine lR (b:=decide (x=y)) zr zr zr X3 (fun w=>X7 x y w) ?_))
  refine ad hE Tryz.func100 zr zr ⟨rfl,rfl⟩
end Go.Proofs.YtdigdgohdpeebaaGreatDoor
namespace Go.Proofs.YtdigdgohdpeebaaGreatDoor
open Go Go.SL
attribute [local irreducible] J K aE Ends ae az aQ bP bj aT aU bp bW
def mJ{P:Program}{f:FuncId}{n:Nat}{R:Ending→World→Prop}{G:cI}{k:List Item}{L:fD}{H:List HP}{e:TypeId}{sz nn c:Nat}{a:Option Addr}{cs:List Value}(i:Nat)(hi:cE H i=some (az e sz (.slice a nn c) nn cs))(h:nn≤c→K P f n R G k L H):K P f n R G k L H :=
 rX fun⟨w,hw⟩=>by
  obtain⟨h1,_,hA⟩:=hw.lj hi
  exact h (BM hA)
def np(X:HP)(v:Value)(l:List It)(hv:uA X v l)(hl:l.length≤100)(hr:fH 0 (l.map It.p)=true)(hs:(eB (l.map It.p)).length≤65536) :
    aE Tryz.prog 144 [v] [X] (fun r H=>∃rv,r = .tuple #[rv,.int .i64 0]∧H=[az 5 1 rv (eB (l.map It.p)).length (bV (eB (l.map It.p))),X]):=by
  obtain⟨dM,SO⟩:=hv
  obtain⟨a,c,rfl⟩:=dM.shape
  refine aE.au Tryz.func144 Tryz.ntmps144 fun G F R hE=>?_
  refine go ?_
  refine ai (bO 5 1 none _) ?_
  refine bz (fun y:Nat × List UInt8 × Option Addr × Nat=>y.1≤l.length∧y.2.1=eB ((l.map It.p).take y.1)) (fun y=>l.length-y.1)
    (fun y=>[(4,.slice y.2.2.1 y.2.1.length y.2.2.2),(5,.int .i64 (nR (l.map It.p) y.1)),(8,.slice a l.length c),(9,.int .i64 (l.length:Int)),(10,.int .i64 (y.1:Int))])
    (fun y=>az 5 1 (.slice y.2.2.1 y.2.1.length y.2.2.2) y.2.1.length (bV y.2.1)::X::F) (0,[],none,0) ⟨Nat.zero_le _,rfl⟩ rfl cm ah ?_
  rintro⟨i,acc,a1,c1⟩⟨hi,wy⟩ ih
  simp only at hi wy
  have Pf:=AI (l.map It.p) i
  rw[← wy]at Pf
  refine go ?_
  refine aq zr zr ?_ ?_
  case' refine_2 =>
    intro fg
    simp only at fg
    have gP:acc=eB (l.map It.p):=by rw[wy,List.take_of_length_le (by rw[List.length_map];omega)]
    subst gP
    refine go ?_
    refine ad hE Tryz.func144 zr zr ⟨_,rfl,rfl⟩
  intro cW
  simp only at cW
  have gh:i<l.length:=by omega
  obtain⟨x,hx⟩:∃x,l[i]?=some x:=⟨l[i],by simp⟩
  have Qv:(l.map It.p)[i]?=some x.p:=by rw[List.getElem?_map,hx];rfl
  obtain⟨zL,sR⟩:=NC _ 0 i x.p hr Qv
  have zL:nR (l.map It.p) i<x.n:=zL
  have sR:x.n≤63:=sR
  have rA:=ym Qv
  have uH:=SO x (List.mem_of_getElem? hx)
  obtain⟨xn,xv,xb⟩:=x
  simp only at zL sR uH
  have rA:nR (l.map It.p) (i+1)=xn:=rA
  obtain⟨xa,xc,rfl,hxc⟩:=uH.2
  have ht:eB ((l.map It.p).take (i+1))=acc++mi (xn,xb):=by
    rw[List.take_add_one,Qv,Option.toList_some,DV,← wy];simp[eB,It.p]
  have adW:=AI (l.map It.p) (i+1)
  rw[ht,List.length_append]at adW
  have Ll:(mi (xn,xb)).length=1+(uv xb.length).length+xb.length:=by simp only[mi,List.length_cons,List.length_append];omega
  obtain⟨b,o,c',he⟩:=dM.some (by rw[← List.length_pos_iff,cu js];omega)
  simp only[Value.slice.injEq,true_and]at he
  obtain⟨rfl,rfl⟩:=he
  refine go ?_
  refine cG i 2 zr zr zr zr zr zr zr zr gh ?_
  refine cR (U:=aS) (es:=lT ⟨xn,.slice xa xb.length xc,xb⟩) 1 (i*2) zr zr zr dM rfl (fun j v hj=>?_) zr zr zr ?_
  · have wN:j<2:=by
      rcases Nat.lt_or_ge j 2 with h|h
      · exact h
      · rw[List.getElem?_eq_none (by rw[js];exact h)]at hj;cases hj
    rw[cP js hx j wN];exact hj
  refine aC zr zr zr bD ?_
  intro bd
  repeat'(first|(with_reducible intro pH)|refine gO ?_|refine iy zr zr zr zr ?_ ?_|refine aq zr zr ?_ ?_)
  any_goals (exfalso;simp only at *;omega)
  rename_i h1 h2 h3
  simp only at h1 h2 h3
  obtain⟨xm,rfl⟩:∃m:Nat,xn=m:=⟨xn.toNat,by
    have:0<xn:=NB _ 0 hr (Int.le_refl _) _ (List.mem_of_getElem? Qv)
    omega⟩
  refine go ?_
  refine aH (fun w=>Sat G w ([X,ae bd (cl [.int .i64 (xm:Int),.slice xa xb.length xc] 194)])) (df 0 3 (df 5 4 (.st 11 (.st 12 (.act 3 (.act 4 (.act 9 (.act 10 (.act 13 (.st 14 .nil)))))))))) rfl ak ak ak eo ?_
  refine FV (U:=aS) rfl ?_
  refine eP ?_
  refine iV zr zr zr zr zr zr ?_
  refine aB 36 ((u8 (UInt8.ofNat xm))) rfl ((lP xm)) (go ?_)
  refine aj (cs:=bV [UInt8.ofNat xm]) zr zr zr zr zr zr zr zr zr (fun _ w hw=>hw.cN ah) ?_
  intro row
  refine go ?_
  refine aR (mm:=1) (news:=bV [UInt8.ofNat xm]) 2 0 zr zr zr zr zr zr zr zr zr zr zr zr (Vw.ae rfl) rfl (cO _) (by simp only;omega) (by show(_+_)*1≤_;simp only;omega) (fun _=>rfl) (fun _ w hw=>hw.cN ah) ?_
  intro v1
  simp only
  rw[show bV acc++bV [UInt8.ofNat xm]=bV (acc++[UInt8.ofNat xm])from by simp[bV],show acc.length+1=(acc++[UInt8.ofNat xm]).length from by simp]
  refine aN 2 rfl ?_
  rintro a2 c2 rfl
  refine go ?_
  refine dD (mE xb.length ag) ?_
  rintro r _ rfl
  refine aN 0 rfl ?_
  rintro ra rc rfl
  refine iw 0 rfl ?_
  intro MU
  refine go ?_
  refine aR (mm:=(uv xb.length).length) (news:=bV (uv xb.length)) 3 0 zr zr zr zr zr zr zr zr zr zr zr zr MU (by show _=_*1;rw[bt];omega) (cO _) (by simp only[List.length_append,List.length_singleton];omega) (by show(_+_)*1≤_;simp only[List.length_append,List.length_singleton];omega) (fun _=>rfl) (fun _ w hw=>hw.cN ah) ?_
  intro v2
  rw[show bV (acc++[UInt8.ofNat xm])++bV (uv xb.length)=bV (acc++[UInt8.ofNat xm]++uv xb.length)from by simp[bV],show(acc++[UInt8.ofNat xm]).length+(uv xb.length).length=(acc++[UInt8.ofNat xm]++uv xb.length).length from by simp;omega]
  refine aN 3 rfl ?_
  rintro a3 c3 rfl
  refine go ?_
  refine aR (mm:=xb.length) (news:=bV xb) 3 4 zr zr zr zr zr zr zr zr zr zr zr zr uH.1 (by show _=_*1;rw[bt];omega) (cO _) (by simp only[List.length_append,List.length_singleton];omega) (by show(_+_)*1≤_;simp only[List.length_append,List.length_singleton];omega) (fun _=>rfl) (fun _ w hw=>hw.cN ah) ?_
  intro v3
  rw[show bV (acc++[UInt8.ofNat xm]++uv xb.length)++bV xb=bV (acc++mi (xm,xb))from by simp[bV,mi],show(acc++[UInt8.ofNat xm]++uv xb.length).length+xb.length=(acc++mi (xm,xb)).length from by simp[mi];omega]
  refine aN 3 rfl ?_
  rintro a4 c4 rfl
  refine go ?_
  refine aq zr zr ?_ ?_
  · intro tN;exfalso;simp only[List.length_append]at tN;omega
  intro _
  refine go ?_
  refine bu 5 ((.int .i64 (nR (l.map It.p) (i+1)))) rfl ((congrArg (Value.int .i64) rA.symm)) ?_
  refine aM ih (i+1,acc++mi (xm,xb),a4,c4) rfl ⟨by simp only;omega,by simp only;rw[ht]⟩ (by simp only;omega) cm ah
def K3(v:Value)(h1:∃a n c,v = .slice a n c):aE Tryz.prog 213 [v] [] (fun r H=>∃b,r = .func (.func 235) #[] #[ptr b]∧H=[ae b (cl [v] 39)]):=by
 obtain⟨a,n,c,rfl⟩:=h1
 refine aE.au Tryz.func213 Tryz.ntmps213 fun G F R hE=>?_
 refine go ?_
 refine bG zr zr bD ?_
 intro b
 refine go ?_
 refine ad hE Tryz.func213 zr zr ⟨b,rfl,rfl⟩
def Hk(A:HP)(bx:Nat)(v:Value)(bs:List UInt8)(hv:eM A v bs)(hl:bs.length≤1000000000)(l:Nat)(Lp LpD acf:HP)(Inv:Nat→HP)(u9:Nat→Bool)(hy:∀i x,(eW bs)[i]?=some x→(∀j,j<i→u9 j=true)→∀r,(∃a n c,r = .slice a n c)→bW Tryz.prog l [.agg #[.int .i64 x.1,r] ] [Lp,Inv i,az 5 1 r x.2.length (bV x.2)]
      (fun v H=>(u9 i=true∧v = .bool true∧H=[Lp,Inv (i+1)])∨(u9 i=false∧v = .bool false∧H=[LpD,acf]))) :
    aE Tryz.prog 235 [.func (.yield l) #[] #[],ptr bx] [Lp,Inv 0,ae bx (cl [v] 39),A]
      (fun _ H=>((∀i,i<(eW bs).length→u9 i=true)∧H=[Lp,Inv (eW bs).length,A])∨((∃i,i<(eW bs).length∧u9 i=false)∧H=[LpD,acf,A])):=by
  refine aE.au Tryz.func235 Tryz.ntmps235 fun G F R hE=>?_
  refine bz (fun y:Value × List UInt8 × Nat=>eM A y.1 y.2.1∧y.2.1.length≤bs.length∧(eW bs).drop y.2.2=eW y.2.1∧y.2.2≤(eW bs).length∧∀j,j<y.2.2→u9 j=true) (fun y=>y.2.1.length)
    (fun _=>[(0,.func (.yield l) #[] #[]),(1,ptr bx)])
    (fun y=>Lp::Inv y.2.2::ae bx (cl [y.1] 39)::A::F) (v,bs,0) ⟨hv,Nat.le_refl _,by simp,Nat.zero_le _,fun j hj=>absurd hj (Nat.not_lt_zero j)⟩ rfl cm ah ?_
  rintro⟨v1,rest,i⟩⟨lz,zL,sR,YH,RH⟩ ih
  simp only at lz zL sR YH RH
  obtain⟨a,c,rfl,hc⟩:=lz.2
  refine go ?_
  match rest,sR,lz,zL,hc,ih with
  | [],sR,lz,zL,hc,ih =>
    have lg:i=(eW bs).length:=by
      rw[xx]at sR
      have:(eW bs).length≤i:=by simpa using sR
      omega
    subst lg
    refine go ?_
    refine bU hE Tryz.func235 rfl _ rfl (.inl ⟨RH,rfl⟩) ah
  | c0::rst,sR,lz,zL,hc,ih =>
    have lN:=lz.cut 1 (by simp)
    rw[List.drop_succ_cons,List.drop_zero]at lN
    ((refine bu 8 ((.bool true)) rfl ((congrArg Value.bool (decide_eq_true (by simp only[List.length_cons];omega)))) ?_))
    refine go ?_
    refine bB (p:=1) (q:=((c0::rst).length:Int)) zr zr zr zr zr zr zr ag (by simp only[List.length_cons];omega) (.inl rfl) ?_
    ((refine aB 11 ((.slice (sliceAt a c 1 1) rst.length (c-1))) rfl ((by rw[show((c0::rst).length:Int).toNat=rst.length+1 from by simp[List.length_cons],show(1:Int).toNat=1 from rfl,show rst.length+1-1=rst.length by omega];rfl)) ?_))
    ((refine aF (Jz A _ rst lN.1 lN.2 (by simp only[List.length_cons]at zL;omega)) ?_))
    rintro _ _⟨rv,rfl,Qz,rfl⟩
    have Qz:eM A rv (dj rst).2.1:=Qz
    have lH:=qo rst
    have EB:rst.length<1000000000:=by simp only[List.length_cons]at zL;omega
    have EJ:∀x,eW (c0::rst)=x::eW ((dj rst).2.1.drop (dj rst).1)∨eW (c0::rst)=[x]→(eW bs)[i]?=some x:=by
      intro x hx
      have:=congrArg (fun l=>l[0]?) sR
      simp only[List.getElem?_drop,Nat.add_zero]at this
      rw[this]
      rcases hx with h|h <;> rw[h] <;> rfl
    obtain⟨ra,rc,rfl,OO⟩:=Qz.2
    by_cases kQ:(dj rst).2.2=true∧(dj rst).1≤(dj rst).2.1.length
    · have yH:=Av (c:=c0) kQ
      have hx:=EJ _ (.inl yH)
      rw[kQ.1]
      have wO:=Qz.front (dj rst).1 kQ.2
      have zO:=Qz.cut (dj rst).1 kQ.2
      have lB:=(List.getElem?_eq_some_iff.1 hx).1
      refine go ?_
      refine aq zr zr ?_ ?_
      · intro tN;exfalso;omega
      intro _
      have lA:0<(c0::rst).length:=by simp only[List.length_cons];omega
      obtain⟨ba,oa,ca,fO⟩:=PF lz.1 lA
      simp only[Value.slice.injEq,true_and]at fO
      obtain⟨rfl,rfl⟩:=fO
      obtain⟨n,hn⟩:∃n,n=(dj rst).1:=⟨_,rfl⟩
      have MM:((dj rst).2.1.take n).length=n:=by rw[hn,List.length_take];omega
      rw[← hn]at wO zO yH hx kQ ⊢
      have Tm:c0.toNat<256:=c0.toNat_lt
      have EF:=kQ.2
      have ael:rst.length+1≤bs.length:=zL
      refine aH (fun w=>Sat G w ([A,ae bx (cl [.slice (some ⟨ba,oa,none⟩) (c0::rst).length c] 39)])) (df 0 8 (.act 8 (.st 9 (.act 10 (.st 11 .nil))))) rfl ak ak ak eo ?_
      refine go ?_
      refine bI 0 zr zr zr zr zr zr zr zr lA (go ?_)
      refine aK ?_
      refine bX 0 0 zr zr zr lz.1 rfl (show(bV (c0::rst))[0]?=some (u8 c0)from rfl) zr zr (go ?_)
      refine bB (p:=0) (q:=(n:Int)) zr zr zr zr zr zr zr ag ag (.inr ag) ?_
      ((refine aB 35 ((.slice (sliceAt ra rc 0 1) ((dj rst).2.1.take n).length rc)) rfl ((by rw[MM,show((n:Int)).toNat=n from by omega];rfl)) ?_))
      have wO:eM A (.slice (sliceAt ra rc 0 1) ((dj rst).2.1.take n).length rc) ((dj rst).2.1.take n):=by rw[MM];exact wO
      refine dD (ll A _ ((dj rst).2.1.take n) wO.1 ag) ?_
      rintro r _ rfl
      refine aN 0 rfl ?_
      rintro rr rrc rfl
      refine go ?_
      refine kT rfl rfl rfl (hy i _ hx RH (.slice rr ((dj rst).2.1.take n).length rrc) ⟨_,_,_,rfl⟩) ah ?_ (fun _ _ w hp hw=>by rcases hp with⟨_,_,rfl⟩|⟨_,_,rfl⟩ <;> exact hw.cN ah)
      rintro _ _ (⟨hg,rfl,rfl⟩|⟨hg,rfl,rfl⟩)
      · refine go ?_
        refine bB (p:=(n:Int)) (q:=((dj rst).2.1.length:Int)) zr zr zr zr zr zr zr ag ag (.inl rfl) ?_
        ((refine aB 42 ((.slice (sliceAt ra rc n 1) ((dj rst).2.1.length-n) (rc-n))) rfl ((by rw[show((n:Int)).toNat=n from by omega,show(((dj rst).2.1.length:Int)).toNat=(dj rst).2.1.length from by omega];rfl)) ?_))
        refine go ?_
        have px:(eW bs).drop (i+1)=eW ((dj rst).2.1.drop n):=by
          have:=congrArg (fun l=>l.drop 1) sR
          simp only[yH,List.drop_drop]at this
          simpa using this
        refine aM ih (.slice (sliceAt ra rc n 1) ((dj rst).2.1.length-n) (rc-n),(dj rst).2.1.drop n,i+1) rfl (⟨zO,by simp only[List.length_drop];omega,px,by simp only;omega,fun j hj=>by
          rcases Nat.lt_or_ge j i with h|h
          · exact RH j h
          · rw[show j=i by simp only at hj;omega];exact hg⟩) (by simp only[List.length_drop,List.length_cons];omega) cm ah
      · refine go ?_
        refine ad hE Tryz.func235 zr zr (.inr ⟨⟨i,lB,hg⟩,rfl⟩)
    · have lO:=Dr (c:=c0) kQ
      have hx:=EJ _ (.inr lO)
      cases ade:(dj rst).2.2 with
      | false =>
        refine go ?_
        refine aI (bO 5 1 none _) ?_
        refine kT zr zr zr (hy i (0,[]) hx RH (.slice none 0 0) ⟨_,_,_,rfl⟩) ah ?_ mO
        rintro _ _ (⟨hg,rfl,rfl⟩|⟨hg,rfl,rfl⟩)
        · refine go ?_
          have lg:i+1=(eW bs).length:=by
            have:=congrArg List.length sR
            rw[lO,List.length_drop]at this
            simp only[List.length_singleton]at this
            omega
          rw[lg]
          have gp:∀j,j<(eW bs).length→u9 j=true:=fun j hj=>by
            rcases Nat.lt_or_ge j i with h|h
            · exact RH j h
            · rw[show j=i by omega];exact hg
          refine ad hE Tryz.func235 zr zr (.inl ⟨gp,rfl⟩)
        · refine go ?_
          have lB:=(List.getElem?_eq_some_iff.1 hx).1
          refine ad hE Tryz.func235 zr zr (.inr ⟨⟨i,lB,hg⟩,rfl⟩)
      | true =>
        have QC:¬(dj rst).1≤(dj rst).2.1.length:=fun h=>kQ ⟨ade,h⟩
        refine go ?_
        refine aq zr zr ?_ ?_
        case' refine_2=>(intro h;exfalso;omega)
        intro _
        refine go ?_
        refine aI (bO 5 1 none _) ?_
        refine kT zr zr zr (hy i (0,[]) hx RH (.slice none 0 0) ⟨_,_,_,rfl⟩) ah ?_ mO
        rintro _ _ (⟨hg,rfl,rfl⟩|⟨hg,rfl,rfl⟩)
        · refine go ?_
          have lg:i+1=(eW bs).length:=by
            have:=congrArg List.length sR
            rw[lO,List.length_drop]at this
            simp only[List.length_singleton]at this
            omega
          rw[lg]
          have gp:∀j,j<(eW bs).length→u9 j=true:=fun j hj=>by
            rcases Nat.lt_or_ge j i with h|h
            · exact RH j h
            · rw[show j=i by omega];exact hg
          refine ad hE Tryz.func235 zr zr (.inl ⟨gp,rfl⟩)
        · refine go ?_
          have lB:=(List.getElem?_eq_some_iff.1 hx).1
          refine ad hE Tryz.func235 zr zr (.inr ⟨⟨i,lB,hg⟩,rfl⟩)
end Go.Proofs.YtdigdgohdpeebaaGreatDoor
namespace Go.Proofs.YtdigdgohdpeebaaGreatDoor
open Go Go.SL
def DI(b2 b3 b4 b5:Nat)(xs:List (Int × List UInt8))(i:Nat):HP:=fun h=>∃x:List It × HP × Value,(x.1.map It.p=xs.take i∧∀y∈x.1,eM x.2.1 y.v y.b) ∧
 Sep [ae b2 (cl [.slice none 0 0] 195),ae b3 (cl [.int .i64 0] 26),ae b4 (cl [x.2.2] 195),ae b5 (cl [.int .i64 (nR xs i)] 3),az 194 2 x.2.2 x.1.length (x.1.flatMap lT),x.2.1] h
def J7(b2 b3 b4 b5:Nat)(xs:List (Int × List UInt8))(i:Nat):∀h,DI b2 b3 b4 b5 xs i h→∃x:List It × HP × Value,(x.1.map It.p=xs.take i∧∀y∈x.1,eM x.2.1 y.v y.b) ∧
 Sep [ae b2 (cl [.slice none 0 0] 195),ae b3 (cl [.int .i64 0] 26),ae b4 (cl [x.2.2] 195),ae b5 (cl [.int .i64 (nR xs i)] 3),az 194 2 x.2.2 x.1.length (x.1.flatMap lT),x.2.1] h:=fun h hs=>hs
def FY(b2 b3 b4 b5:Nat)(xs:List (Int × List UInt8))(i:Nat)(fM:List It)(Z:HP)(v:Value)(h1:fM.map It.p=xs.take i)(h2:∀y∈fM,eM Z y.v y.b)(H:List HP) :
  ao (ae b2 (cl [.slice none 0 0] 195)::ae b3 (cl [.int .i64 0] 26)::ae b4 (cl [v] 195)::ae b5 (cl [.int .i64 (nR xs i)] 3)::az 194 2 v fM.length (fM.flatMap lT)::Z::H) (DI b2 b3 b4 b5 xs i::H) :=
 ao.fold (A:=DI b2 b3 b4 b5 xs i) (B:=[ae b2 (cl [.slice none 0 0] 195),ae b3 (cl [.int .i64 0] 26),ae b4 (cl [v] 195),ae b5 (cl [.int .i64 (nR xs i)] 3),az 194 2 v fM.length (fM.flatMap lT),Z]) fun h hs=>⟨h,sub.refl h,(fM,Z,v),⟨h1,h2⟩,hs⟩
def DE(b2 b3:Nat):HP:=Sep [ae b2 (cl [.slice none 0 0] 195),ae b3 (cl [.int .i64 2] 26)]
def FZ(b2 b3:Nat)(H:List HP):ao (ae b2 (cl [.slice none 0 0] 195)::ae b3 (cl [.int .i64 2] 26)::H) (DE b2 b3::H):=ao.bS [ae b2 (cl [.slice none 0 0] 195),ae b3 (cl [.int .i64 2] 26)] H
def Sz(b2 b3:Nat)(H:List HP):ao (DE b2 b3::H) (ae b2 (cl [.slice none 0 0] 195)::ae b3 (cl [.int .i64 2] 26)::H):=ao.cJ [ae b2 (cl [.slice none 0 0] 195),ae b3 (cl [.int .i64 2] 26)] H
attribute [local irreducible] J K aE Ends ae az aQ bP bj aT aU bp bW DI DE
def nq(A:HP)(v:Value)(bs:List UInt8)(hv:eM A v bs)(hl:bs.length≤1000000000) :
  aE Tryz.prog 191 [v] [A] (fun r H=>(pw bs=none∧r = .tuple #[.slice none 0 0,.int .i64 2]∧H=[A])∨(∃(xs:List (Int × List UInt8)) (fM:List It) (Z:HP) (rv:Value),pw bs=some xs∧fM.map It.p=xs∧uA Z rv fM∧r = .tuple #[rv,.int .i64 0]∧H=[Z,A]∧∃ra rc,rv = .slice ra fM.length rc∧fM.length≤rc)):=by
 obtain⟨a,c,rfl,hc⟩:=hv.2
 have tJ:pw bs=if 65536<bs.length then none else if fH 0 (eW bs)then some (eW bs)else none:=rfl
 refine aE.au Tryz.func191 Tryz.ntmps191 fun G F R hE=>?_
 refine aG rfl ?_
 refine aC zr zr zr bD ?_
 intro b2
 refine aC zr zr zr bD ?_
 intro b3
 refine go ?_
 refine aq zr zr ?_ ?_
 ·intro tN
  have tN:65536<bs.length:=by omega
  rw[if_pos tN]at tJ
  refine go ?_
  refine bg hE ?_
  refine sN (U:=aS) 1 0 hE Tryz.func191 zr zr zr zr zr zr zr zr (ao.refl _) zr zr (.inl ⟨tJ,rfl,rfl⟩) ah
 intro u6
 have u6:¬65536<bs.length:=by omega
 rw[if_neg u6]at tJ
 refine go ?_
 refine aC zr zr zr bD ?_
 intro b4
 refine go ?_
 refine aC zr zr zr bD ?_
 intro b5
 refine go ?_
 refine aF (K3 _ ⟨a,_,c,rfl⟩) ?_
 rintro _ _⟨bx,rfl,rfl⟩
 refine go ?_
 refine iN rfl ?_
 refine ai (ao.trans (ao.bS [] _) (ao.trans (bO 194 2 none _) (ao.trans ah (FY b2 b3 b4 b5 (eW bs) 0 [] (Sep []) (.slice none 0 0) rfl (by simp) (ae bx (cl [.slice a bs.length c] 39)::A::F))))) ?_
 refine qy (Fr:=F) (Pre:=fun _ _=>[DI b2 b3 b4 b5 (eW bs) 0,ae bx (cl [.slice a bs.length c] 39),A]) (fun _ _ Lp v H=>((∀i,i<(eW bs).length→tR (eW bs) i=true)∧H=[Lp .ready none,DI b2 b3 b4 b5 (eW bs) (eW bs).length,A])∨((∃i,i<(eW bs).length∧tR (eW bs) i=false)∧H=[Lp .done (some .ret),DE b2 b3,A])) rfl hE.1.1 rfl ?c (fun l r=>ah) ?gP
 case c =>
  intro l r
  refine aE.pre (Hk A bx _ bs hv hl l _ _ (DE b2 b3) (DI b2 b3 b4 b5 (eW bs)) (tR (eW bs)) ?hy) ah
  case hy =>
   intro i x hx RH rv Qz
   obtain⟨va,vn,vc,rfl⟩:=Qz
   refine bW.Ea zr zr ?_
   intro G2 F2 R2 hY
   refine aG rfl ?_
   refine aC zr zr zr bD ?_
   intro b6
   refine go ?_
   refine ai (ao.pick [1] rfl) ?_
   refine gl rfl hY ?_
   refine ai (ao.pick [2] rfl) ?_
   refine er (J7 b2 b3 b4 b5 (eW bs) i) ?_
   rintro⟨fM,Z,vi⟩⟨pD,vX⟩
   simp only at pD vX
   have Te:=yM hx
   obtain⟨xn,xb⟩:=x
   simp only at Te
   have wu:=ym hx
   refine dg 4 rfl ?_
   intro ia ic W3
   simp only at W3
   subst W3
   simp only
   refine ai (ao.pick [7,0,1,2,3] rfl) ?_
   repeat'(first|(with_reducible intro pH)|refine gO ?_|refine iy zr zr zr zr ?_ ?_|refine aq zr zr ?_ ?_)
   ·have lO:tR (eW bs) i=false:=by rw[Te,decide_eq_false ag,Bool.false_and]
    refine ai (ao.trans (ao.pick [1,2] rfl) (FZ b2 b3 _)) ?_
    refine zx hY rfl ah (.inr ⟨lO,rfl,rfl⟩)
   ·have lO:tR (eW bs) i=false:=by rw[Te,decide_eq_false (show ¬xn≤63 by omega),Bool.and_false]
    refine ai (ao.trans (ao.pick [1,2] rfl) (FZ b2 b3 _)) ?_
    refine zx hY rfl ah (.inr ⟨lO,rfl,rfl⟩)
   ·rename_i h1
    have m9:tR (eW bs) i=true:=by rw[Te,decide_eq_true ag,decide_eq_true ag];rfl
    refine aV ?_
    refine cp 4 gB zr zr zr zr zr zr zr zr zr (go ?_)
    refine dB 0 zr zr zr zr zr zr (go ?_)
    refine gM (bs:=xb) 8 rfl ?_
    intro uH
    obtain⟨_,_,hvx,hxc⟩:=uH.2
    simp only[Value.slice.injEq,true_and]at hvx
    obtain⟨-,rfl,rfl⟩:=hvx
    have lB:=(List.getElem?_eq_some_iff.1 hx).1
    have MM:=tk bs.length bs (Nat.le_refl _)
    have abm:fM.length=i:=by
     have:=congrArg List.length pD
     rw[List.length_map,List.length_take]at this
     omega
    refine aj (cs:=lT ⟨xn,.slice va xb.length vc,xb⟩) zr zr zr zr zr zr zr zr zr bD ?_
    intro row
    refine go ?_
    refine aR (mm:=1) (news:=lT ⟨xn,.slice va xb.length vc,xb⟩) 6 0 rfl rfl rfl rfl rfl rfl rfl rfl rfl rfl rfl rfl (Vw.ae rfl) rfl (by intro v hv;simp[lT]at hv;rcases hv with rfl|rfl <;> rfl) ag (by show(_+_)*32≤_;omega) (fun _=>rfl) bD ?_
    intro v1
    rw[show fM.flatMap lT++lT (⟨xn,.slice va xb.length vc,xb⟩:It)=(fM++[(⟨xn,.slice va xb.length vc,xb⟩:It)]).flatMap lT from by simp,show fM.length+1=(fM++[(⟨xn,.slice va xb.length vc,xb⟩:It)]).length from by simp]
    refine aN 6 rfl ?_
    rintro ja jc rfl
    refine go ?_
    refine aV ?_
    refine cp 4 gB zr zr zr zr zr zr zr zr zr (go ?_)
    have adq:nR (eW bs) (i+1)=xn:=wu
    have O6:(fM++[(⟨xn,.slice va xb.length vc,xb⟩:It)]).map It.p=(eW bs).take (i+1):=by
     rw[List.map_append,pD,List.take_add_one,hx];rfl
    have lH:=FY b2 b3 b4 b5 (eW bs) (i+1) (fM++[(⟨xn,.slice va xb.length vc,xb⟩:It)]) (Sep [az 5 1 (.slice va xb.length vc) xb.length (bV xb),Z]) (.slice ja (fM++[(⟨xn,.slice va xb.length vc,xb⟩:It)]).length jc) O6 (fun y hy=>by
     rcases List.mem_append.1 hy with h|h
     ·exact(vX y h).mono (bh (i:=1) rfl)
     ·rw[List.mem_singleton.1 h];exact uH.mono (bh (i:=0) rfl))
    rw[adq]at lH
    refine ai (ao.trans (ao.pick [9,7] rfl) (ao.trans (ao.bS [_,_] _) (ao.trans ah (lH _)))) ?_
    refine fK hY rfl ah (.inl ⟨m9,rfl,rfl⟩)
 rintro l r v H' (⟨gp,rfl⟩|⟨⟨i,hi,lO⟩,rfl⟩)
 ·refine⟨_,_,_,rfl,by decide,?_⟩
  have hr:fH 0 (eW bs)=true:=(AG _).2 gp
  rw[if_pos hr]at tJ
  rw[hE.1.2]
  refine er (J7 b2 b3 b4 b5 (eW bs) _) ?_
  rintro⟨fM,Z,vi⟩⟨pD,vX⟩
  simp only at pD vX
  rw[List.take_length]at pD
  refine dg 4 rfl ?_
  intro ia ic W3
  simp only at W3
  subst W3
  simp only
  refine mJ 4 rfl ?_
  intro jx
  refine cV 4 rfl ?_
  intro dM
  have Gi:uA (Sep [az 194 2 (.slice ia fM.length ic) fM.length (fM.flatMap lT),Z]) (.slice ia fM.length ic) fM:=⟨dM.mono (bh (i:=0) rfl),fun y hy=>(vX y hy).mono (bh (i:=1) rfl)⟩
  refine go ?_
  refine ai (ao.trans (ao.pick [4,5] rfl) (ao.bS [az 194 2 (.slice ia fM.length ic) fM.length (fM.flatMap lT),Z] _)) ?_
  refine sN (U:=aS) 1 2 hE Tryz.func191 zr zr zr zr zr zr zr zr ah zr zr (.inr ⟨eW bs,fM,_,_,tJ,pD,Gi,rfl,rfl,_,_,rfl,jx⟩) ah
 ·refine⟨_,_,_,rfl,by decide,?_⟩
  have hr:¬fH 0 (eW bs)=true:=fun h=>by rw[(AG _).1 h i hi]at lO;cases lO
  rw[if_neg hr]at tJ
  rw[hE.1.2]
  refine ai (Sz b2 b3 _) ?_
  refine sN (U:=aS) 0 1 hE Tryz.func191 zr zr zr zr zr zr zr zr ah zr zr (.inl ⟨tJ,rfl,rfl⟩) ah
end Go.Proofs.YtdigdgohdpeebaaGreatDoor
namespace Go.Proofs.YtdigdgohdpeebaaGreatDoor
open Go Go.SL
attribute [local irreducible] J K aE Ends ae az aQ bP bj aT aU bp bW Sha.chunks Sha.chunk Sha.rounds Sha.sched dW cH GI db
def Rj:mI Tryz.prog 36 dV:=aaH Tryz.underlying36 Tryz.underlying5 Ye
def Qq(l:List Dg):List (Dg × Value):=l.map fun d=>(d,.bool true)
def Nl(l:List Dg)(d:Dg):(ez (Qq l) d).getD (.bool false) = .bool (decide (d∈l)):=by
 induction l with
 | nil=>simp[Qq,ez]
 | cons x l ih =>
  simp only[Qq,ez,List.map_cons,List.find?_cons]at ih ⊢
  by_cases h:x=d
  ·simp[h]
  ·have h2:¬d=x:=fun e=>h e.symm
   simp only[h,decide_false]
   rw[ih];simp[h2]
def QS{l:List Dg}{d:Dg}(h:d ∉ l):nD (Qq l) d (.bool true)=Qq (l++[d]):=by
 unfold nD
 have:d ∉ (Qq l).map (·.1):=by simpa[Qq]using h
 rw[if_neg this];simp[Qq]
def As(l:List Bl):pK l=false↔(l.map Bl.d).Nodup:=by
 induction l with
 | nil=>simp[pK]
 | cons x l ih =>
  simp only[pK,Bool.or_eq_false_iff,ih,List.map_cons,List.nodup_cons]
  constructor
  ·rintro⟨h1,h2⟩
   refine⟨fun h=>?_,h2⟩
   obtain⟨y,hy,he⟩:=List.mem_map.1 h
   have:=List.any_eq_false.1 h1 y hy
   exact this (by simpa using he)
  ·rintro⟨h1,h2⟩
   refine⟨List.any_eq_false.2 fun y hy he=>h1 (List.mem_map.2 ⟨y,hy,by simpa using he⟩),h2⟩
def JM(l:List Bl):∀v∈l.flatMap bJ,v.oneCell'=true:=by
 intro v hv
 obtain⟨x,_,h⟩:=List.mem_flatMap.1 hv
 simp only[bJ,List.mem_append,List.mem_cons,List.not_mem_nil,or_false]at h
 rcases h with(h|rfl|rfl)|h
 ·rw[dz]at h;exact cO _ v h
 ·rfl
 ·rfl
 ·rw[dz]at h;exact cO _ v h
def blE{l:List Bl}{i:Nat}{x:Bl}(hx:l[i]?=some x)(q:Nat)(v:Value)(hq:(bJ x)[q]?=some v):(l.flatMap bJ)[i*66+q]?=some v:=by
 rw[cP wS hx q (by rcases Nat.lt_or_ge q 66 with h|h;exact h;rw[List.getElem?_eq_none (by rw[wS];exact h)]at hq;cases hq)]
 exact hq
def Yf{l:List Bl}{i:Nat}(h:i<l.length):l.flatMap bJ≠[]:=by
 rw[← List.length_pos_iff,cu wS];omega
def C4(A X:HP)(v:Value)(l:List Bl)(hv:Vw A v l.length (l.flatMap bJ))(hlen:l.length≤1000000)(g:FuncId)(cap:List Value)(p:Bl→Bool)(hf:∀x∈l,aE Tryz.prog g (eS x::cap) [X] (fun v H=>v = .bool (p x)∧H=[X])) :
  aE Tryz.prog 179 [v,.func (.func g) #[] cap.toArray] [A,X] (fun r H=>r = .int .i64 (kz p l)∧H=[A,X]):=by
 obtain⟨a,c0,rfl⟩:=hv.shape
 unfold eS at hf
 refine aE.enter Tryz.func179 ak rfl Tryz.ntmps179 zr zr ?_
 intro G F R hR
 refine go ?_
 refine bz (fun i:Nat=>i≤l.length∧∀y∈l.take i,p y=false) (fun i=>l.length-i) (fun i=>[(0,.slice a l.length c0),(1,.func (.func g) #[] cap.toArray),(7,.int .i64 l.length),(8,.int .i64 i)]) (fun _=>[A,X]++F) 0 ⟨by simp,by simp⟩ rfl cm (ao.refl _) ?_
 rintro i⟨hi,hb⟩ ih
 refine go ?_
 refine aq zr zr ?_ ?_
 ·intro cW
  refine go ?_
  have gh:i<l.length:=by omega
  have hx:l[i]?=some l[i]:=by simp[gh]
  generalize hxx:l[i]=x at hx
  obtain⟨b,o,gQ,fO⟩:=hv.some (Yf gh)
  simp only[Value.slice.injEq]at fO
  obtain⟨rfl,_,rfl⟩:=fO
  refine cG i 66 zr zr zr zr zr zr zr zr gh ?_
  refine cR (U:=aS) (es:=bJ x) 0 (i*66) zr zr zr hv rfl (blE hx) zr zr zr ?_
  refine cF [1] zr zr zr zr (hf x (List.mem_of_getElem? hx)) rfl mO ?_
  rintro _ _⟨rfl,rfl⟩
  refine go ?_
  refine fQ zr zr ?_ ?_
  ·intro hp
   refine go ?_
   refine aL hR Tryz.func179 rfl _ rfl ⟨by rw[nU hx hp hb];rfl,rfl⟩ (ao.fin [1,0] 0 zr zr)
  ·intro hp
   refine go ?_
   refine aM ih (i+1) rfl ⟨ag,uf hb hx hp⟩ ag cm (ao.pick [1,0] rfl)
 ·intro fg
  refine go ?_
  have:i=l.length:=by omega
  subst this
  refine aL hR Tryz.func179 rfl _ rfl ⟨by rw[qW (fun x hx=>hb x (by simpa using hx))];rfl,rfl⟩ (ao.fin [0,1] 0 zr zr)
def pr(A X:HP)(v:Value)(l:List Bl)(hv:Vw A v l.length (l.flatMap bJ))(hlen:l.length≤1000000)(g:FuncId)(cap:List Value)(p:Bl→Bool)(hf:∀x∈l,aE Tryz.prog g (eS x::cap) [X] (fun v H=>v = .bool (p x)∧H=[X])) :
  aE Tryz.prog 115 [v,.func (.func g) #[] cap.toArray] [A,X] (fun r H=>r = .bool (l.any p)∧H=[A,X]):=by
 refine aE.enter Tryz.func115 ak rfl Tryz.ntmps115 zr zr ?_
 intro G F R hR
 refine go ?_
 refine cF [0,1] zr zr zr zr (C4 A X v l hv hlen g cap p hf) rfl mO ?_
 rintro _ _⟨rfl,rfl⟩
 refine go ?_
 have hb:decide (0≤kz p l)=l.any p:=by
  rw[show decide (0≤kz p l)=decide (¬kz p l<0)from by rw[decide_eq_decide];omega]
  rw[Bool.eq_iff_iff,decide_eq_true_iff,nV (p:=p) (l:=l),Bool.not_eq_false]
 refine aL hR Tryz.func115 rfl _ rfl ⟨congrArg Value.bool hb,rfl⟩ (ao.fin [0,1] 0 zr zr)
def Q'(x:Bl):aE Tryz.prog 234 [eS x] [emp] (fun r H=>r = .bool (!bF x)∧H=[emp]):=by
 unfold eS
 refine aE.au Tryz.func234 Tryz.ntmps234 fun G F R hE=>?_
 refine aG rfl ?_
 refine bG zr zr bD ?_
 intro b1
 refine go ?_
 refine aJ (U:=aS) 0 zr zr zr zr zr zr ?_
 refine aO (om x) ?_
 refine go ?_
 refine ad hE Tryz.func234 zr zr ⟨rfl,rfl⟩
def Ja(v:Value):Value := .agg #[v]
def Bz(A:HP)(v:Value)(l:List Bl)(hv:Vw A v l.length (l.flatMap bJ))(hlen:l.length≤1000000) :
  aE Tryz.prog 211 [Ja v] [A] (fun r H=>r = .int .i64 (gY l:Int)∧H=[A]):=by
 obtain⟨a,c,rfl⟩:=hv.shape
 unfold Ja
 refine aE.au Tryz.func211 Tryz.ntmps211 fun G F R hE=>?_
 refine aG rfl ?_
 refine bG zr zr bD ?_
 intro b1
 refine aI (ao.qt _) ?_
 have h1:(l.length<1∨16<l.length∨l.any (fun x => !bF x)=true)→gY l=1:=fun h=>by unfold gY;rw[if_pos h]
 have h2:¬(l.length<1∨16<l.length∨l.any (fun x => !bF x)=true)→gY l=if pK l then 5 else 0:=fun h=>by unfold gY;rw[if_neg h]
 repeat'(first|(with_reducible intro pH)|refine gO ?_|refine iy zr zr zr zr ?_ ?_|(refine aF (pr A emp _ l hv hlen 234 [] (fun x => !bF x) (fun x _=>Q' x)) ?_;rintro _ _⟨rfl,rfl⟩))
 ·rw[h1 (.inl ag)]at hE
  refine ad hE Tryz.func211 zr zr ⟨rfl,rfl⟩
 ·rw[h1 (.inr (.inl ag))]at hE
  refine ad hE Tryz.func211 zr zr ⟨rfl,rfl⟩
 cases mq:l.any (fun x => !bF x)with
 | true =>
  rw[h1 (.inr (.inr mq))]at hE
  refine go ?_
  refine ad hE Tryz.func211 zr zr ⟨rfl,rfl⟩
 | false =>
  have h3:=h2 (fun h=>by rcases h with h|h|h;exact absurd h ag;exact absurd h ag;rw[mq]at h;cases h)
  rw[h3]at hE
  refine go ?_
  refine ox rfl bD ?_
  intro bm
  refine aI (ao.fold (B:=[_]) (A:=aQ dV bm (Qq [])) (fun h hs=>⟨h,sub.refl h,p8 dV bm h (eU hs)⟩)) ?_
  refine go ?_
  refine bz (fun i:Nat=>i≤l.length∧((l.take i).map Bl.d).Nodup) (fun i=>l.length-i)
   (fun i=>[(1,ptr b1),(4,.map (some bm)),(25,.slice a l.length c),(26,.int .i64 (l.length:Int)),(27,.int .i64 (i:Int))])
   (fun i=>aQ dV bm (Qq ((l.take i).map Bl.d))::A::F) 0 ⟨Nat.zero_le _,by simp⟩ rfl cm ah ?_
  rintro i⟨hi,kf⟩ ih
  refine go ?_
  refine aq zr zr ?_ ?_
  ·intro cW
   have gh:i<l.length:=by omega
   obtain⟨x,hx⟩:∃x,l[i]?=some x:=⟨l[i],by simp⟩
   obtain⟨b,o,gQ,fO⟩:=hv.some (Yf gh)
   simp only[Value.slice.injEq]at fO
   obtain⟨rfl,_,rfl⟩:=fO
   have j8:(l.take (i+1)).map Bl.d=(l.take i).map Bl.d++[x.d]:=by rw[List.take_add_one,hx];simp
   refine go ?_
   refine cG i 66 zr zr zr zr zr zr zr zr gh ?_
   refine aK ?_
   refine cR (U:=aS) (es:=bJ x) 1 (i*66) zr zr zr hv rfl (blE hx) zr zr zr ?_
   refine aC zr zr zr bD ?_
   intro b6
   refine go ?_
   refine dB 0 zr zr zr zr zr zr ?_
   refine Qc (U:=aS) (key:=x.d) 1 rfl Rj zr zr zr zr zr zr zr zr ?_
   refine aB 34 (.bool (decide (x.d∈(l.take i).map Bl.d))) rfl (Nl _ _) (go ?_)
   refine aq zr zr ?_ ?_
   ·intro qY
    have htw:pK l=true:=by
     cases h:pK l with
     | true=>rfl
     | false =>
      exfalso
      have hN:=(As l).1 h
      have ef:((l.take (i+1)).map Bl.d).Nodup:=hN.sublist ((List.take_sublist _ _).map _)
      rw[j8,List.nodup_append]at ef
      exact ef.2.2 _ qY _ (by simp) rfl
    rw[htw]at hE
    refine go ?_
    refine ad hE Tryz.func211 zr zr ⟨rfl,rfl⟩
   ·intro Ry
    refine go ?_
    refine dB 0 zr zr zr zr zr zr ?_
    refine jq (key:=x.d) 1 Rj gB zr zr zr zr zr zr zr zr ?_
    rw[QS Ry,← j8]
    refine go ?_
    refine aM ih (i+1) rfl ⟨ag,by rw[j8,List.nodup_append];exact⟨kf,by simp,fun p hp q hq=>by simp at hq;subst hq;exact fun e=>Ry (e ▸ hp)⟩⟩ ag cm ah
  intro fg
  have rB:i=l.length:=by omega
  subst rB
  rw[List.take_length]at kf
  rw[(As l).2 kf]at hE
  refine go ?_
  refine ad hE Tryz.func211 zr zr ⟨rfl,rfl⟩
def eM.WN{b o n:Nat}{bs:List UInt8}{l:List Value}{e:TypeId}(hn:bs.length=n)(hl:(l.drop o).take n=bV bs):eM (ae b (cl l e)) (.slice (some ⟨b,o,none⟩) n n) bs:=by
 subst hn
 exact⟨Vw.ae (by rw[bt];exact hl),_,_,rfl,Nat.le_refl _⟩
def yq:∀(l:List Bl) (i:Nat) (x:Bl),jw i (l++[x])=jw i l++[(((i+l.length:Nat):Int)+1,eB (ec x))]
 | [],i,x=>by simp[jw]
 | y::l,i,x=>by
  simp only[List.cons_append,jw,yq l (i+1) x,List.length_cons]
  rw[show i+1+l.length=i+(l.length+1)from by omega]
def rM:∀(l:List Bl) (i:Nat),(jw i l).length=l.length
 | [],i=>rfl
 | y::l,i=>by simp only[jw,List.length_cons,rM l (i+1)]
structure Its where
 l:List It
 Z:HP
def Eh(A:HP)(v:Value)(l:List Bl)(hv:Vw A v l.length (l.flatMap bJ))(hlen:l.length≤1000000) :
    aE Tryz.prog 178 [Ja v] [A] (fun r H=>(gY l≠0∧r = .tuple #[.slice none 0 0,.int .i64 (gY l:Int)]∧H=[A]) ∨
      ∃rv,gY l=0∧r = .tuple #[rv,.int .i64 0]∧H=[az 5 1 rv (yT l).length (bV (yT l)),A]):=by
  have RG:=Bz A v l hv hlen
  obtain⟨a,c,rfl⟩:=hv.shape
  unfold Ja at RG ⊢
  refine aE.au Tryz.func178 Tryz.ntmps178 fun G F R hE=>?_
  refine aG rfl ?_
  refine bG zr zr bD ?_
  intro b1
  refine go ?_
  refine aJ (U:=aS) (l:=[.slice a l.length c]) 0 zr zr zr zr zr zr ?_
  refine aO RG ?_
  refine go ?_
  refine aq zr zr ?_ ?_
  · intro bZ
    have fR:gY l≠0:=by omega
    refine go ?_
    refine ad hE Tryz.func178 zr zr (.inl ⟨fR,rfl,rfl⟩)
  intro heq
  have h0:gY l=0:=by omega
  obtain⟨aew,Li,sD⟩:=oX h0
  refine go ?_
  refine ai (ao.trans (ao.bS [] _) (bO 194 2 none _)) ?_
  refine bz (fun y:Nat × Its × Option Addr × Nat=>y.1≤l.length∧y.2.1.l.map It.p=jw 0 (l.take y.1)∧∀z∈y.2.1.l,eM y.2.1.Z z.v z.b) (fun y=>l.length-y.1)
    (fun y=>[(1,ptr b1),(5,.slice y.2.2.1 y.2.1.l.length y.2.2.2),(18,.slice a l.length c),(19,.int .i64 (l.length:Int)),(20,.int .i64 (y.1:Int))])
    (fun y=>az 194 2 (.slice y.2.2.1 y.2.1.l.length y.2.2.2) y.2.1.l.length (y.2.1.l.flatMap lT)::y.2.1.Z::A::F) (0,⟨[],Sep []⟩,none,0) ⟨Nat.zero_le _,rfl,by simp⟩ rfl cm ah ?_
  rintro⟨i,⟨fM,Z⟩,ia,ic⟩⟨hi,pD,vX⟩ ih
  simp only at hi pD vX
  dsimp only
  have abm:fM.length=i:=by
    have:=congrArg List.length pD
    rw[List.length_map,rM,List.length_take]at this;omega
  refine go ?_
  refine aq zr zr ?_ ?_
  · intro cW
    have gh:i<l.length:=by omega
    obtain⟨x,hx⟩:∃x,l[i]?=some x:=⟨l[i],by simp⟩
    have hxr:=sD x (List.mem_of_getElem? hx)
    have acD:=hxr
    simp only[bF,decide_eq_true_eq]at acD
    obtain⟨sz,iY⟩:∃m:Nat,x.size=m:=⟨x.size.toNat,ag⟩
    obtain⟨pc,sT⟩:∃m:Nat,x.piece=m:=⟨x.piece.toNat,ag⟩
    obtain⟨b,o,gQ,fO⟩:=hv.some (Yf gh)
    simp only[Value.slice.injEq]at fO
    obtain⟨rfl,_,rfl⟩:=fO
    refine go ?_
    refine cG i 66 zr zr zr zr zr zr zr zr gh ?_
    refine aK ?_
    refine cR (U:=aS) (es:=bJ x) 2 (i*66) zr zr zr hv rfl (blE hx) zr zr zr ?_
    refine aC zr zr zr bD ?_
    intro b7
    refine go ?_
    refine aH (fun w=>Sat G w ([ae b7 (cl (bJ x) 38)])) (df 0 3 (df 4 3 (.act 3 (.act 7 (.st 8 (.st 9 .nil)))))) rfl ak ak ak eo ?_
    refine go ?_
    refine aB 27 ((.int .u64 (sz:Int))) rfl ((congrArg (Value.int .u64) iY)) ?_
    refine aB 31 ((.int .u64 (pc:Int))) rfl ((congrArg (Value.int .u64) sT)) ?_
    refine dD (mE sz ag) ?_
    rintro r8 _ rfl
    refine dD (mE pc ag) ?_
    rintro r9 _ rfl
    refine aN 0 rfl ?_
    rintro a9 c9 rfl
    refine aN 1 rfl ?_
    rintro a8 c8 rfl
    refine gM (bs:=uv pc) 0 rfl ?_
    intro MV
    refine gM (bs:=uv sz) 1 rfl ?_
    intro Js
    refine go ?_
    obtain⟨Qu,O5⟩:∃Qu:List It,Qu=[⟨1,.slice (some ⟨b7,0,none⟩) 32 32,x.d.bs⟩,⟨2,.slice a8 (uv sz).length c8,uv sz⟩,⟨3,.slice a9 (uv pc).length c9,uv pc⟩,⟨4,.slice (some ⟨b7,34,none⟩) 32 32,x.root.bs⟩]:=⟨_,rfl⟩
    have hp4:Qu.map It.p=ec x:=by rw[O5];simp only[ec,List.map_cons,List.map_nil,It.p,iY,sT,Int.toNat_natCast]
    have EB:=yr x hxr
    refine aH (fun w=>Sat G w ([])) (df 0 10 (.act 10 (.act 11 (df 12 5 .nil)))) rfl ak ak ak eo ?_
    (repeat(first|refine gO ?_|refine g8 (U:=aS) zr zr zr zr zr ?_))
    refine aj (cs:=Qu.flatMap lT) zr zr zr zr zr zr zr zr (by rw[O5];rfl) (fun _ _ hw=>hw.cN ah) ?_
    intro row
    have h4:Qu.length=4:=by rw[O5];rfl
    have RT:uA (Sep [ae row (cl (Qu.flatMap lT) 194),ae b7 (cl (bJ x) 38),az 5 1 (.slice a8 (uv sz).length c8) (uv sz).length (bV (uv sz)),az 5 1 (.slice a9 (uv pc).length c9) (uv pc).length (bV (uv pc))]) (.slice (some ⟨row,0,none⟩) 4 4) Qu:=by
      refine⟨?_,fun y hy=>?_⟩
      · rw[h4]
        exact(Vw.ae (by rw[List.drop_zero,List.take_length])).mono (bh (i:=0) rfl)
      · rw[O5]at hy
        simp only[List.mem_cons,List.not_mem_nil,or_false]at hy
        rcases hy with rfl|rfl|rfl|rfl
        · exact(eM.WN x.d.len (by rw[← dz];exact Yd x)).mono (bh (i:=1) rfl)
        · exact Js.mono (bh (i:=2) rfl)
        · exact MV.mono (bh (i:=3) rfl)
        · exact(eM.WN x.root.len (by rw[← dz];exact Se x)).mono (bh (i:=1) rfl)
    have EC:fH 0 (Qu.map It.p)=true:=by rw[hp4];simp[ec,fH]
    have EN:=np _ _ Qu RT ag EC (by rw[hp4];omega)
    rw[hp4]at EN
    clear EC RT hp4 h4
    clear O5
    refine aI (ao.trans (ao.pick [0,3,2,1] rfl) (ao.bS [ae row (cl (Qu.flatMap lT) 194),ae b7 (cl (bJ x) 38),az 5 1 (.slice a8 (uv sz).length c8) (uv sz).length (bV (uv sz)),az 5 1 (.slice a9 (uv pc).length c9) (uv pc).length (bV (uv pc))] _)) ?_
    refine dD EN ?_
    rintro _ _⟨rr,rfl,rfl⟩
    refine aN 0 rfl ?_
    rintro ra rc rfl
    refine gM (bs:=eB (ec x)) 0 rfl ?_
    intro MU
    refine go ?_
    refine aj (cs:=lT ⟨(i:Int)+1,.slice ra (eB (ec x)).length rc,eB (ec x)⟩) zr zr zr zr zr zr zr zr zr bD ?_
    intro QV
    refine go ?_
    refine aR (mm:=1) (news:=lT ⟨(i:Int)+1,.slice ra (eB (ec x)).length rc,eB (ec x)⟩) 3 0 rfl rfl rfl rfl rfl rfl rfl rfl rfl rfl rfl rfl (Vw.ae rfl) rfl (by intro v hv;simp[lT]at hv;rcases hv with rfl|rfl <;> rfl) ag (by show(_+_)*32≤_;omega) (fun _=>rfl) bD ?_
    intro v1
    rw[show fM.flatMap lT++lT (⟨(i:Int)+1,.slice ra (eB (ec x)).length rc,eB (ec x)⟩:It)=(fM++[(⟨(i:Int)+1,.slice ra (eB (ec x)).length rc,eB (ec x)⟩:It)]).flatMap lT from by simp,show fM.length+1=(fM++[(⟨(i:Int)+1,.slice ra (eB (ec x)).length rc,eB (ec x)⟩:It)]).length from by simp]
    refine aN 3 rfl ?_
    rintro ja jc rfl
    refine go ?_
    have O6:(fM++[(⟨(i:Int)+1,.slice ra (eB (ec x)).length rc,eB (ec x)⟩:It)]).map It.p=jw 0 (l.take (i+1)):=by
      rw[List.take_add_one,hx,List.map_append,pD]
      simp only[Option.toList_some,yq,List.length_take,Nat.min_eq_left hi,Nat.zero_add,List.map_cons,List.map_nil,It.p]
    refine ai (ao.trans (ao.pick [1,4] rfl) (ao.bS [az 5 1 (.slice ra (eB (ec x)).length rc) (eB (ec x)).length (bV (eB (ec x))),Z] _)) ?_
    refine aM ih (i+1,⟨fM++[(⟨(i:Int)+1,.slice ra (eB (ec x)).length rc,eB (ec x)⟩:It)],Sep [az 5 1 (.slice ra (eB (ec x)).length rc) (eB (ec x)).length (bV (eB (ec x))),Z]⟩,ja,jc) rfl ⟨by simp only;omega,O6,fun z hz=>by
      rcases List.mem_append.1 hz with h|h
      · exact(vX z h).mono (bh (i:=1) rfl)
      · rw[List.mem_singleton.1 h];exact MU.mono (bh (i:=0) rfl)⟩ (by simp only;omega) cm ah
  · intro fg
    have rB:i=l.length:=by omega
    subst rB
    rw[List.take_length]at pD
    have py:=Fe h0
    unfold yT at py
    have EC:=vU l 0 ag
    rw[← pD]at py EC
    refine cV 0 rfl ?_
    intro dM
    have RT:uA (Sep [az 194 2 (.slice ia fM.length ic) fM.length (fM.flatMap lT),Z]) (.slice ia fM.length ic) fM:=⟨dM.mono (bh (i:=0) rfl),fun y hy=>(vX y hy).mono (bh (i:=1) rfl)⟩
    have EN:=np _ _ fM RT ag EC ag
    have YV:eB (fM.map It.p)=yT l:=by rw[pD];rfl
    rw[YV]at EN
    refine go ?_
    refine aI (ao.bS [_,_] _) ?_
    refine aF EN ?_
    rintro _ _⟨rr,rfl,rfl⟩
    refine go ?_
    refine ad hE Tryz.func178 zr zr (.inr ⟨rr,h0,rfl,rfl⟩)
def FH(A:HP)(hK:oD A)(v:Value)(l:List Bl)(hv:Vw A v l.length (l.flatMap bJ))(hlen:l.length≤1000000) :
  aE Tryz.prog 113 [Ja v] [A] (fun r H=>r=(if gY l=0 then .tuple #[dV (yd l),.int .i64 0]else .tuple #[dV Dg.zero,.int .i64 (gY l:Int)])∧H=[A]):=by
 have RG:=Eh A v l hv hlen
 obtain⟨a,c,rfl⟩:=hv.shape
 unfold Ja at RG ⊢
 refine aE.au Tryz.func113 Tryz.ntmps113 fun G F R hE=>?_
 refine aG rfl ?_
 refine bG zr zr bD ?_
 intro b1
 refine aC zr zr zr bD ?_
 intro b2
 refine go ?_
 refine aJ (U:=aS) (l:=[.slice a l.length c]) 1 zr zr zr zr zr zr ?_
 refine aF RG ?_
 rintro _ _ (⟨h0,rfl,rfl⟩|⟨rv,h0,rfl,rfl⟩)
 ·rw[if_neg h0]at hE
  refine go ?_
  refine aq zr zr ?_ ?_
  case' refine_2=>(intro h;exfalso;omega)
  intro _
  refine go ?_
  refine j0 (U:=aS) zr zr zr zr zr (go ?_)
  (refine bg hE ?_;apply aY (U:=aS) hE Tryz.func113 rfl (ao.refl _);(repeat(first|exact aP.nil|apply aP.tmp rfl|apply aP.agg 1 zr zr zr zr zr));exact⟨rfl,rfl⟩;exact ah)
 ·rw[if_pos h0]at hE
  have py:=Fe h0
  refine gM (bs:=yT l) 0 rfl ?_
  intro Ls
  refine aI (ao.bS [_,_] _) (go ?_)
  refine aO (wW _ (hK.mono (bh (H:=[az 5 1 rv (yT l).length (bV (yT l)),A]) (i:=1) rfl)) rv (yT l) (Ls.mono (bh (i:=0) rfl)) ag) ?_
  refine aI (ao.cJ _ _) (go ?_)
  (refine bg hE ?_;apply aY (U:=aS) hE Tryz.func113 rfl (ao.refl _);(repeat(first|exact aP.nil|apply aP.tmp rfl|apply aP.agg 2 zr zr zr zr zr));exact⟨rfl,rfl⟩;exact ah)
def PB(o:Option Bl):Value:=match o with
 | none => .tuple #[eS Bl.zero,.bool false]
 | some x => .tuple #[eS x,.bool true]
def H0{b:List UInt8}(h:pw b=none):mC b=none:=by unfold mC;rw[h]
def LP{b:List UInt8}{xs:List (Int × List UInt8)}(h:pw b=some xs)(hl:xs.length≠4):mC b=none:=by
 unfold mC;rw[h]
 match xs,hl with
 | [],_=>rfl
 | [_],_=>rfl
 | [_,_],_=>rfl
 | [_,_,_],_=>rfl
 | _::_::_::_::_::_,_=>rfl
 | [_,_,_,_],h=>exact absurd rfl h
def H4{b:List UInt8}{n1 n2 n3 n4:Int}{b1 b2 b3 b4:List UInt8}(h:pw b=some [(n1,b1),(n2,b2),(n3,b3),(n4,b4)]) :
  mC b=if n4≠4∨b1.length≠32∨b4.length≠32 then none else match cZ b2,cZ b3 with
  | some s,some p=>if 1048576<max s p then none else some ⟨tY b1,s,p,tY b4⟩
  | _,_=>none:=by unfold mC;rw[h];rfl
def yV{b:List UInt8}(h:b.length=32):bV b=dC (tY b):=by
 unfold tY;rw[dif_pos h,dz]
def Dq:∀(f:Nat) (b:List UInt8) (x:Int × List UInt8),x∈pM f b→x.2.length≤b.length
 | 0,b,x,h=>by simp[pM]at h
 | f+1,[],x,h=>by simp[pM]at h
 | f+1,c::r,x,h=>by
  have h1:=qo r
  rw[pM]at h
  rw[List.length_cons]
  split at h
  ·rcases List.mem_cons.1 h with rfl|h
   ·simp only[List.length_take];omega
   ·have:=Dq f _ x h
    rw[List.length_drop]at this;omega
  ·simp at h;subst h;simp
def tl{b:List UInt8}{l:List (Int × List UInt8)}(h:pw b=some l):∀x∈l,x.2.length≤65536:=by
 unfold pw at h
 split at h
 ·cases h
 ·split at h
  ·cases h
   intro x hx
   have:=Dq _ _ x hx;omega
  ·cases h
def KW(A:HP)(v:Value)(b:List UInt8)(hv:eM A v b)(hl:b.length≤1000000000) :
  aE Tryz.prog 210 [v] [A] (fun r H=>r=PB (mC b)∧H=[A]):=by
 have Rq:=nq A v b hv hl
 obtain⟨a,c,rfl,hc⟩:=hv.2
 refine aE.au Tryz.func210 Tryz.ntmps210 fun G F R hE=>?_
 refine aG rfl ?_
 refine aC zr zr zr bD ?_
 intro b2
 refine go ?_
 refine aF Rq ?_
 rintro _ _ (⟨hn,rfl,rfl⟩|⟨xs,fM,Z,rv,hs,pD,⟨dM,vX⟩,rfl,rfl,-⟩)
 ·rw[H0 hn]at hE
  repeat'(first|refine gO ?_|fail)
  all_goals((skip))
  (refine bg hE ?_;apply aY (U:=aS) hE Tryz.func210 rfl (ao.refl _);(repeat(first|exact aP.nil|apply aP.tmp rfl|apply aP.agg 1 zr zr zr zr zr));exact⟨rfl,rfl⟩;exact ah)
 obtain⟨ra,rc,rfl⟩:=dM.shape
 by_cases h4:fM.length=4
 case neg =>
  rw[LP hs (by rw[← pD,List.length_map];exact h4)]at hE
  repeat'(first|(with_reducible intro pH)|refine gO ?_|refine iy zr zr zr zr ?_ ?_|fail)
  all_goals(first|(exfalso;omega)|skip)
  (refine bg hE ?_;apply aY (U:=aS) hE Tryz.func210 rfl (ao.refl _);(repeat(first|exact aP.nil|apply aP.tmp rfl|apply aP.agg 2 zr zr zr zr zr));exact⟨rfl,rfl⟩;exact ah)
 obtain⟨i1,i2,i3,i4,rfl⟩:∃i1 i2 i3 i4,fM=[i1,i2,i3,i4]:=by
  match fM,h4 with
  | [i1,i2,i3,i4],_=>exact⟨i1,i2,i3,i4,rfl⟩
 obtain⟨n1,v1,b1⟩:=i1
 obtain⟨n2,v2,Y7⟩:=i2
 obtain⟨n3,v3,LO⟩:=i3
 obtain⟨n4,v4,Y6⟩:=i4
 have nw:eM Z v1 b1:=vX ⟨n1,v1,b1⟩ (by simp)
 have pF:eM Z v2 Y7:=vX ⟨n2,v2,Y7⟩ (by simp)
 have QF:eM Z v3 LO:=vX ⟨n3,v3,LO⟩ (by simp)
 have hb4:eM Z v4 Y6:=vX ⟨n4,v4,Y6⟩ (by simp)
 obtain⟨a1,c1,rfl,_⟩:=nw.2
 obtain⟨a2,c2,rfl,_⟩:=pF.2
 obtain⟨a3,c3,rfl,_⟩:=QF.2
 obtain⟨a4,c4,rfl,_⟩:=hb4.2
 obtain⟨rb,ro,rcc,he⟩:=dM.some (by simp[lT])
 simp only[Value.slice.injEq]at he
 obtain⟨rfl,_,rfl⟩:=he
 simp only[List.map_cons,List.map_nil,It.p]at pD
 subst pD
 have Dd:=H4 hs
 have Ex:Vw Z (.slice (some ⟨rb,ro,none⟩) 4 rc) 4 [.int .i64 n1,.slice a1 b1.length c1,.int .i64 n2,.slice a2 Y7.length c2,.int .i64 n3,.slice a3 LO.length c3,.int .i64 n4,.slice a4 Y6.length c4]:=dM
 have hN:(n4≠4∨b1.length≠32∨Y6.length≠32)→mC b=none:=fun h=>by rw[Dd,if_pos h]
 simp only[List.length_cons,List.length_nil,Nat.zero_add,Nat.reduceAdd]
 clear dM vX Rq h4
 repeat'(first|(with_reducible intro pH)|refine gO ?_|refine iy zr zr zr zr ?_ ?_|refine aq zr zr ?_ ?_|refine cG 3 2 zr zr zr zr zr zr zr zr (by simp) ?_|refine cG 0 2 zr zr zr zr zr zr zr zr (by simp) ?_|refine aX 0 (3*2+0) zr zr zr Ex (Nat.add_assoc _ _ _) zr zr zr ?_|refine aX 0 (3*2+1) zr zr zr Ex (Nat.add_assoc _ _ _) zr zr zr ?_|refine aX 0 (0*2+1) zr zr zr Ex (Nat.add_assoc _ _ _) zr zr zr ?_)
 ·rw[hN ag]at hE
  refine go ?_
  (refine bg hE ?_;apply aY (U:=aS) hE Tryz.func210 rfl (ao.refl _);(repeat(first|exact aP.nil|apply aP.tmp rfl|apply aP.agg 2 zr zr zr zr zr));exact⟨rfl,rfl⟩;exact ah)
 ·rw[hN ag]at hE
  refine go ?_
  (refine bg hE ?_;apply aY (U:=aS) hE Tryz.func210 rfl (ao.refl _);(repeat(first|exact aP.nil|apply aP.tmp rfl|apply aP.agg 2 zr zr zr zr zr));exact⟨rfl,rfl⟩;exact ah)
 ·rw[hN ag]at hE
  refine go ?_
  (refine bg hE ?_;apply aY (U:=aS) hE Tryz.func210 rfl (ao.refl _);(repeat(first|exact aP.nil|apply aP.tmp rfl|apply aP.agg 2 zr zr zr zr zr));exact⟨rfl,rfl⟩;exact ah)
 have hk4:n4=4:=by omega
 have Li:b1.length=32:=by omega
 have hl4:Y6.length=32:=by omega
 rw[if_neg (by rintro(h|h|h) <;> exact h (by assumption))]at Dd
 refine go ?_
 refine cG 1 2 zr zr zr zr zr zr zr zr ag (go ?_)
 refine aK ?_
 refine aX 0 (1*2+1) zr zr zr Ex (Nat.add_assoc _ _ _) zr zr zr ?_
 have Xr:=tl hs (n2,Y7) (by simp)
 have hm3:=tl hs (n3,LO) (by simp)
 simp only at Xr hm3
 refine aO (mF Z _ Y7 pF ag) ?_
 cases hu2:cZ Y7 with
 | none =>
  rw[hu2]at Dd
  rw[Dd]at hE
  simp only
  refine go ?_
  refine cG 2 2 zr zr zr zr zr zr zr zr ag (go ?_)
  refine aK ?_
  refine aX 0 (2*2+1) zr zr zr Ex (Nat.add_assoc _ _ _) zr zr zr ?_
  refine aO (mF Z _ LO QF ag) ?_
  cases cZ LO with
  | none =>
   simp only
   repeat'(first|refine gO ?_|fail)
   all_goals((skip))
   (refine bg hE ?_;apply aY (U:=aS) hE Tryz.func210 rfl (ao.refl _);(repeat(first|exact aP.nil|apply aP.tmp rfl|apply aP.agg 2 zr zr zr zr zr));exact⟨rfl,rfl⟩;exact ah)
  | some p =>
   simp only
   repeat'(first|refine gO ?_|fail)
   all_goals((skip))
   (refine bg hE ?_;apply aY (U:=aS) hE Tryz.func210 rfl (ao.refl _);(repeat(first|exact aP.nil|apply aP.tmp rfl|apply aP.agg 2 zr zr zr zr zr));exact⟨rfl,rfl⟩;exact ah)
 | some s =>
  rw[hu2]at Dd
  simp only
  refine go ?_
  refine cG 2 2 zr zr zr zr zr zr zr zr ag (go ?_)
  refine aK ?_
  refine aX 0 (2*2+1) zr zr zr Ex (Nat.add_assoc _ _ _) zr zr zr ?_
  refine aO (mF Z _ LO QF ag) ?_
  cases hu3:cZ LO with
  | none =>
   rw[hu3]at Dd
   rw[Dd]at hE
   simp only
   repeat'(first|refine gO ?_|fail)
   all_goals((skip))
   (refine bg hE ?_;apply aY (U:=aS) hE Tryz.func210 rfl (ao.refl _);(repeat(first|exact aP.nil|apply aP.tmp rfl|apply aP.agg 2 zr zr zr zr zr));exact⟨rfl,rfl⟩;exact ah)
  | some p =>
   rw[hu3]at Dd
   simp only at Dd ⊢
   repeat'(first|(with_reducible intro pH)|refine gO ?_|refine aq zr zr ?_ ?_)
   all_goals((skip))
   ·rw[if_pos ag]at Dd
    rw[Dd]at hE
    refine go ?_
    (refine bg hE ?_;apply aY (U:=aS) hE Tryz.func210 rfl (ao.refl _);(repeat(first|exact aP.nil|apply aP.tmp rfl|apply aP.agg 2 zr zr zr zr zr));exact⟨rfl,rfl⟩;exact ah)
   ·rw[if_neg ag]at Dd
    rw[Dd]at hE
    have aek:s≤1048576:=by omega
    have aep:p≤1048576:=by omega
    obtain⟨xb1,xo1,xc1,Lo⟩:=nw.1.some (by intro h;have:=congrArg List.length h;rw[bt,Li]at this;cases this)
    simp only[Value.slice.injEq]at Lo
    obtain⟨rfl,_,rfl⟩:=Lo
    obtain⟨xb4,xo4,xc4,he4⟩:=hb4.1.some (by intro h;have:=congrArg List.length h;rw[bt,hl4]at this;cases this)
    simp only[Value.slice.injEq]at he4
    obtain⟨rfl,_,rfl⟩:=he4
    have lz:=nw.1
    rw[yV Li]at lz
    have hv4:=hb4.1
    rw[yV hl4]at hv4
    refine aH (fun w=>Sat G w ([Z])) (df 0 17 (.act 17 (.st 18 .nil))) rfl ak ak ak eo ?_
    refine go ?_
    (repeat(first|refine gO ?_|refine cG 0 2 zr zr zr zr zr zr zr zr ag ?_|refine cG 3 2 zr zr zr zr zr zr zr zr ag ?_|(refine aK ?_;first|refine bX 0 (0*2+1) zr zr zr Ex (Nat.add_assoc _ _ _) zr zr zr ?_|refine bX 0 (3*2+1) zr zr zr Ex (Nat.add_assoc _ _ _) zr zr zr ?_|refine gW (U:=aS) (es:=dC (tY b1)) 0 0 zr zr zr lz rfl (fun j v hj=>by rw[Nat.zero_add];exact hj) zr zr zr ?_|refine gW (U:=aS) (es:=dC (tY Y6)) 0 0 zr zr zr hv4 rfl (fun j v hj=>by rw[Nat.zero_add];exact hj) zr zr zr ?_)|refine By (U:=aS) zr zr zr zr ag ?_))
    refine aV ?_
    refine cp 2 eo zr zr zr zr zr zr zr zr zr (go ?_)
    (refine bg hE ?_;apply aY (U:=aS) hE Tryz.func210 rfl (ao.refl _);(repeat(first|exact aP.nil|apply aP.tmp rfl|apply aP.agg 2 zr zr zr zr zr));exact⟨rfl,rfl⟩;exact ah)
def vS:∀(l:List (Int × List UInt8)) (i:Nat) (x:Int × List UInt8),iP i (l++[x])=match iP i l with
  | none=>none
  | some y=>match mC x.2 with
   | none=>none
   | some z=>if x.1≠((i+l.length:Nat):Int)+1 then none else some (y++[z])
 | [],i,(n,b)=>by
  simp only[List.nil_append,iP,List.length_nil,Nat.add_zero]
  cases mC b with
  | none=>rfl
  | some z =>
   simp only
   split <;> simp
 | (m,c)::l,i,(n,b)=>by
  simp only[List.cons_append,iP,vS l (i+1) (n,b),List.length_cons]
  cases mC c with
  | none=>rfl
  | some y =>
   simp only
   split
   ·rfl
   ·cases iP (i+1) l with
    | none=>rfl
    | some w =>
     simp only[Option.map_some]
     cases mC b with
     | none=>rfl
     | some z =>
      simp only[show i+1+l.length=i+(l.length+1)from by omega]
      split <;> simp
def vR:∀(l r:List (Int × List UInt8)) (i:Nat),iP i l=none→iP i (l++r)=none
 | [],r,i,h=>by cases h
 | (n,b)::l,r,i,h=>by
  simp only[List.cons_append,iP]at h ⊢
  cases hb:mC b with
  | none=>rfl
  | some x =>
   rw[hb]at h
   simp only at h ⊢
   split at h
   ·rename_i hn;rw[if_pos hn]
   ·rename_i hn
    rw[if_neg hn]
    rw[vR l r (i+1) (by simpa using h)];rfl
def Ei(A:HP)(v:Value)(b:List UInt8)(hv:eM A v b)(hl:b.length≤1000000000) :
  aE Tryz.prog 177 [v] [A] (fun r H=>(yX b=none∧(∃e,e≠0∧r = .tuple #[Ja (.slice none 0 0),.int .i64 e])∧H=[A]) ∨
   ∃l rv,yX b=some l∧r = .tuple #[Ja rv,.int .i64 0]∧H=[az 38 66 rv l.length (l.flatMap bJ),A]):=by
 have Rq:=nq A v b hv hl
 obtain⟨a,c,rfl,hc⟩:=hv.2
 refine aE.au Tryz.func177 Tryz.ntmps177 fun G F R hE=>?_
 refine aG rfl ?_
 refine aC zr zr zr bD ?_
 intro b2
 refine go ?_
 refine aF Rq ?_
 rintro _ _ (⟨hn,rfl,rfl⟩|⟨xs,fM,Z,rv,hs,pD,⟨dM,vX⟩,rfl,rfl,-⟩)
 ·have hd:yX b=none:=by unfold yX;rw[hn]
  repeat'(first|refine gO ?_|fail)
  all_goals((skip))
  (refine bg hE ?_;apply aY (U:=aS) hE Tryz.func177 rfl (ao.refl _);(repeat(first|exact aP.nil|apply aP.tmp rfl|apply aP.agg 1 zr zr zr zr zr));exact(.inl ⟨hd,⟨2,by decide,rfl⟩,rfl⟩);exact ah)
 have XK:yX b=match iP 0 xs with|some x=>if gY x=0 then some x else none|none=>none:=by unfold yX;rw[hs];rfl
 obtain⟨ra,rc,rfl⟩:=dM.shape
 have MM:fM.length≤65536:=by
  have h1:xs.length≤65536:=by
   unfold pw at hs
   split at hs
   ·cases hs
   ·split at hs
    ·cases hs
     have:=tk _ b (Nat.le_refl _)
     unfold eW at this;omega
    ·cases hs
  rw[← pD,List.length_map]at h1;exact h1
 repeat'(first|refine gO ?_|fail)
 all_goals((skip))
 refine aC zr zr zr bD ?_
 intro b6
 refine go ?_
 refine ai (ao.trans (ao.bS [] _) (bO 38 66 none _)) ?_
 refine bz (fun y:Nat × List Bl × Option Addr × Nat=>y.1≤fM.length∧iP 0 (xs.take y.1)=some y.2.1∧y.2.1.length=y.1) (fun y=>fM.length-y.1)
  (fun y=>[(2,ptr b2),(6,ptr b6),(20,.slice ra fM.length rc),(21,.int .i64 (fM.length:Int)),(22,.int .i64 (y.1:Int))])
  (fun y=>ae b6 (cl [.slice y.2.2.1 y.2.1.length y.2.2.2] 161)::az 38 66 (.slice y.2.2.1 y.2.1.length y.2.2.2) y.2.1.length (y.2.1.flatMap bJ)::Z::A::ae b2 (cl [.slice none 0 0] 161)::F) (0,[],none,0) ⟨Nat.zero_le _,rfl,rfl⟩ rfl cm ah ?_
 rintro⟨i,acc,xa,xc⟩⟨hi,wy,Pf⟩ ih
 simp only at hi wy Pf
 dsimp only
 refine go ?_
 refine aq zr zr ?_ ?_
 ·intro cW
  have gh:i<fM.length:=by omega
  obtain⟨it,Ll⟩:∃x,fM[i]?=some x:=⟨fM[i],by simp⟩
  have hxi:xs[i]?=some (it.n,it.b):=by rw[← pD,List.getElem?_map,Ll];rfl
  have Lr:=vX it (List.mem_of_getElem? Ll)
  have abl:=tl hs _ (List.mem_of_getElem? hxi)
  have j8:xs.take (i+1)=xs.take i++[(it.n,it.b)]:=by rw[List.take_add_one,hxi];rfl
  have Gn:=vS (xs.take i) 0 (it.n,it.b)
  have tJ:(xs.take i).length=i:=by rw[List.length_take,← pD,List.length_map];omega
  rw[← j8,wy,tJ,Nat.zero_add]at Gn
  simp only at Gn abl
  have lO:iP 0 (xs.take (i+1))=none→yX b=none:=fun h=>by
   have:=vR _ (xs.drop (i+1)) 0 h
   rw[List.take_append_drop]at this
   rw[XK,this]
  obtain⟨rb,ro,rcc,he⟩:=dM.some (by rw[← List.length_pos_iff,cu js];omega)
  simp only[Value.slice.injEq]at he
  obtain⟨rfl,_,rfl⟩:=he
  obtain⟨xn,xv,xb⟩:=it
  simp only at Lr Gn abl
  obtain⟨va,vc,rfl,_⟩:=Lr.2
  refine go ?_
  refine cG i 2 zr zr zr zr zr zr zr zr gh ?_
  refine aK ?_
  refine cR (U:=aS) (es:=lT ⟨xn,.slice va xb.length vc,xb⟩) 2 (i*2) zr zr zr dM rfl (fun j v hj=>?_) zr zr zr ?_
  ·rw[cP js Ll j (by rcases Nat.lt_or_ge j 2 with h|h;exact h;rw[List.getElem?_eq_none (by rw[js];exact h)]at hj;cases hj)];exact hj
  refine aC zr zr zr bD ?_
  intro b8
  refine go ?_
  refine aO (KW Z _ xb Lr ag) ?_
  cases Dd:mC xb with
  | none =>
   rw[Dd]at Gn
   have yG:=lO Gn
   simp only[PB]
   refine go ?_
   refine aC zr zr zr bD ?_
   intro b9
   refine go ?_
   (refine aV ?_;(refine cp 6 gB zr zr zr zr zr zr zr zr zr ?_))
   refine go ?_
   (refine bg hE ?_;apply aY (U:=aS) hE Tryz.func177 rfl (ao.refl _);(repeat(first|exact aP.nil|apply aP.tmp rfl|apply aP.agg 6 zr zr zr zr zr));exact(.inl ⟨yG,⟨2,by decide,rfl⟩,rfl⟩);exact ah)
  | some z =>
   rw[Dd]at Gn
   simp only[PB]at Gn ⊢
   unfold eS
   refine go ?_
   refine aC zr zr zr bD ?_
   intro b9
   repeat'(first|(with_reducible intro pH)|refine gO ?_|refine aq zr zr ?_ ?_)
   ·rw[if_pos ag]at Gn
    have yG:=lO Gn
    (refine aV ?_;(refine cp 6 gB zr zr zr zr zr zr zr zr zr ?_))
    refine go ?_
    (refine bg hE ?_;apply aY (U:=aS) hE Tryz.func177 rfl (ao.refl _);(repeat(first|exact aP.nil|apply aP.tmp rfl|apply aP.agg 6 zr zr zr zr zr));exact(.inl ⟨yG,⟨2,by decide,rfl⟩,rfl⟩);exact ah)
   ·rw[if_neg ag]at Gn
    refine aJ (U:=aS) (l:=bJ z) 0 zr zr zr zr zr zr ?_
    refine aj (cs:=bJ z) zr zr zr zr zr zr zr zr zr bD ?_
    intro row
    refine go ?_
    refine aR (mm:=1) (news:=bJ z) 5 0 zr zr zr zr zr zr zr zr zr zr zr zr (Vw.ae rfl) rfl (by have:=JM [z];simpa using this) ag (by show(_+_)*80≤_;omega) (fun _=>rfl) bD ?_
    intro v1
    rw[show acc.flatMap bJ++bJ z=(acc++[z]).flatMap bJ from by simp,show acc.length+1=(acc++[z]).length from by simp]
    refine aN 5 rfl ?_
    rintro ja jc rfl
    refine go ?_
    refine aV ?_
    refine cp 4 gB zr zr zr zr zr zr zr zr zr (go ?_)
    refine aM ih (i+1,acc++[z],ja,jc) rfl ⟨by simp only;omega,Gn,by simp only[List.length_append,List.length_singleton];omega⟩ (by simp only;omega) cm ah
 ·intro fg
  have rB:i=fM.length:=by omega
  have gp:xs.take i=xs:=by rw[List.take_of_length_le];rw[← pD,List.length_map];omega
  rw[gp]at wy
  rw[wy]at XK
  simp only at XK
  clear ih
  refine cV 1 rfl ?_
  intro hva
  refine go ?_
  refine aJ (U:=aS) (l:=[.slice xa acc.length xc]) 0 zr zr zr zr zr zr ?_
  refine aO (Bz _ _ acc hva ag) ?_
  repeat'(first|(with_reducible intro pH)|refine gO ?_|refine aq zr zr ?_ ?_)
  ·rw[if_neg ag]at XK
   (refine aV ?_;(refine cp 4 gB zr zr zr zr zr zr zr zr zr ?_))
   refine go ?_
   (refine bg hE ?_;apply aY (U:=aS) hE Tryz.func177 rfl (ao.refl _);(repeat(first|exact aP.nil|apply aP.tmp rfl|apply aP.agg 4 zr zr zr zr zr));exact(.inl ⟨XK,⟨2,by decide,rfl⟩,rfl⟩);exact ah)
  ·rw[if_pos ag]at XK
   refine aJ (U:=aS) (l:=[.slice xa acc.length xc]) 1 zr zr zr zr zr zr (go ?_)
   refine aV ?_
   refine cp 4 gB zr zr zr zr zr zr zr zr zr (go ?_)
   (refine bg hE ?_;apply aY (U:=aS) hE Tryz.func177 rfl (ao.refl _);(repeat(first|exact aP.nil|apply aP.tmp rfl|apply aP.agg 4 zr zr zr zr zr));exact(.inr ⟨acc,_,XK,rfl,rfl⟩);exact ah)
end Go.Proofs.YtdigdgohdpeebaaGreatDoor
namespace Go.SL
open Go.RowKit
def old(W:World):HP:=fun h=>∀b,h b=W.heap[b]?
def X4(W:World):cI:={ tape:=W.tape,os:=W.os,output:=W.output }
def Sm(W:World):Sat (X4 W) W [old W]:=⟨⟨rfl,Nat.zero_le _⟩,rfl,rfl,fun b=>W.heap[b]?,fun _ _ h=>h,gk fun _=>rfl⟩
def CF{W W':World}(h:Sat (X4 W) W' [old W]):Below W.heap.size W W':=by
 obtain⟨h1,h2,h3,h0,hw,hs⟩:=h
 have ho:=eU hs
 have hb:∀k,k<W.heap.size→W'.heap[k]?=W.heap[k]? := fun k hk=>by
  have e:W.heap[k]?=some W.heap[k]:=by simp[hk]
  rw[e]
  exact hw k _ (by rw[ho k,e])
 refine⟨h2,h1.1,h3,?_,hb⟩
 rcases Nat.eq_zero_or_pos W.heap.size with h0|h0
 ·omega
 ·have:=hb (W.heap.size-1) ag
  have e:W.heap[W.heap.size-1]?=some W.heap[W.heap.size-1]:=by simp[h0]
  rw[e]at this
  have:=(Array.getElem?_eq_some_iff.1 this).1
  omega
def Ny{P:Program}{f:FuncId}{args:List Value}{W:World}(c:aE P f args [old W] (fun v H=>v = .bool true∧H=[old W])) :
  Calls P f args.toArray W fun e W'=>e = .returned (.bool true)∧Below W.heap.size W W' :=
 (c.2 (X4 W) W [] (Sm W)).mono fun e W' h=>by
  obtain⟨v,H,rfl,⟨rfl,rfl⟩,hs⟩:=h
  exact⟨rfl,CF hs⟩
def nv{W:World}{h:Hp}{b off:Nat}{v:Value}(ho:old W h)(hc:W.cell? ⟨b,off,none⟩=some v):dm h b off=some v:=by
 unfold dm
 rw[ho b]
 unfold World.cell? at hc
 simp only at hc
 split at hc
 ·rename_i c _ _ he
  rw[he]
  simpa using hc
 ·cases hc
def HY{W:World}{a:Addr}{len cap:Nat}{zs:List Int}(hl:len≤zs.length)(dm:∀i,i<zs.length→W.cell? (a.add i)=some (.int .u8 (zs.getD i 0)))(hwf:∀n∈zs,(Lit.int .u8 n).wf=true) :
  ∃bs:List UInt8,bs.length=len∧Vw (old W) (.slice (some a) len cap) len (bV bs):=by
 refine⟨(zs.take len).map fun z=>UInt8.ofNat z.toNat,by simp;omega,some a,cap,rfl,?_⟩
 rcases Nat.eq_zero_or_pos len with h0|h0
 ·left;subst h0;simp[bV]
 ·right
  obtain⟨b,o,spot⟩:=a
  have iQ:spot=none:=by simpa[Addr.add]using World.cell?_spot (dm 0 ag)
  subst iQ
  refine⟨b,o,rfl,fun h ho j c hj=>?_⟩
  have uG:j<len:=by
   rcases Nat.lt_or_ge j len with h|h
   ·exact h
   ·rw[List.getElem?_eq_none (by simp[bV];omega)]at hj;cases hj
  have h1:=dm j ag
  rw[Addr.add_eq]at h1
  have h2:=nv ho h1
  rw[h2]
  have hm:zs[j]' ag∈zs:=List.getElem_mem _
  have hw:=hwf _ hm
  have hb:0≤zs[j]' ag∧zs[j]' ag<256:=by
   simp only[Lit.wf,Bool.and_eq_true,decide_eq_true_eq]at hw
   have e1:IntKind.u8.min=0:=by decide
   have e2:IntKind.u8.max=255:=by decide
   omega
  simp only[bV,List.map_map,List.getElem?_map,List.getElem?_take,uG,if_true]at hj
  rw[List.getElem?_eq_getElem ag]at hj
  simp only[Option.map_some,Option.some.injEq,Function.comp]at hj
  rw[← hj,List.getD_eq_getElem?_getD,List.getElem?_eq_getElem ag]
  simp only[Option.getD_some,u8,UInt8.toNat_ofNat',Option.some.injEq]
  congr 1
  omega
def N8(W:World):Vw (old W) (.slice none 0 0) 0 (bV []):=⟨none,0,rfl,.inl rfl⟩
def nW{z:Int}(h:(Lit.int .i64 z).wf=true) : -9223372036854775808≤z∧z≤9223372036854775807:=by
 simp only[Lit.wf,Bool.and_eq_true,decide_eq_true_eq]at h
 have e1:IntKind.i64.min = -9223372036854775808:=by decide
 have e2:IntKind.i64.max=9223372036854775807:=by decide
 omega
end Go.SL
namespace Go.SL
open Go.Proofs Go.Shelf Go.RowKit Go.Lib Go.Sort
def Sat.grown{G:cI}{w:World}{H:List HP}(hs:Sat G w H)(os:Array Obj):Sat G (Sort.grow w os) H:=by
 obtain⟨a,b,c,h,hw,hh⟩:=hs
 refine⟨a,b,c,h,fun x o e=>?_,hh⟩
 have h1:=hw x o e
 obtain⟨h2,-⟩:=Array.getElem?_eq_some_iff.1 h1
 show(w.heap++os)[x]?=some o
 rw[Array.getElem?_append_left h2]
 exact h1
def Sat.ahead{G:cI}{w:World}{H:List HP}(hs:Sat G w H)(n:Nat):Sat G (Sort.ahead w n) H:=hs.draw _ (Nat.le_add_right _ _)
def Sat.acw{G:cI}{w:World}{H:List HP}{b:Nat}{l l':List Value}{e:TypeId}(hs:Sat G w (ae b (cl l e)::H))(f:Array Value→Array Value)(hf:f l.toArray=l'.toArray):Sat G (Sort.mapBlock w b f) (ae b (cl l' e)::H):=by
 have hb:=hs.get (i:=0) rfl
 obtain⟨cW,pF⟩:=Array.getElem?_eq_some_iff.1 hb
 have hm:w.heap.modify b (Sort.onCells f)=w.heap.setIfInBounds b (cl l' e):=by
  apply Array.ext_getElem?
  intro i
  rw[Array.getElem?_modify,Array.getElem?_setIfInBounds]
  by_cases h:b=i
  ·subst h
   rw[if_pos rfl,if_pos rfl,if_pos cW,hb]
   simp only[Option.map_some]
   unfold cl Sort.onCells
   simp only[hf]
  ·rw[if_neg h,if_neg h]
 unfold Sort.mapBlock
 rw[hm]
 exact hs.BQ
variable{P:Program}{ρ:Ren}{α:Type}[Inhabited α]
def B3(pre cs j9 bR:List Value)(hl:j9.length=cs.length):Sort.putCells id pre.length j9.toArray (pre++cs++bR).toArray=(pre++j9++bR).toArray:=by
 apply Array.ext_getElem?
 intro i
 unfold Sort.putCells
 rw[Array.getElem?_mapIdx]
 simp only[List.getElem?_toArray,id,List.size_toArray]
 rcases Nat.lt_or_ge i pre.length with h|h
 ·rw[List.append_assoc,List.append_assoc,List.getElem?_append_left h,List.getElem?_append_left h]
  cases pre[i]? with
  | none=>rfl
  | some x=>simp only[Option.map_some];rw[if_neg ag]
 ·rw[List.append_assoc,List.append_assoc,List.getElem?_append_right h,List.getElem?_append_right h]
  rcases Nat.lt_or_ge (i-pre.length) j9.length with h2|h2
  ·rw[List.getElem?_append_left ag,List.getElem?_append_left h2,List.getElem?_eq_getElem ag,List.getElem?_eq_getElem h2]
   simp only[Option.map_some]
   rw[if_pos ⟨h,ag⟩,getElem!_pos _ _ (by simpa using h2)]
   simp
  ·rw[List.getElem?_append_right ag,List.getElem?_append_right h2,hl]
   cases bR[i-pre.length-cs.length]? with
   | none=>rfl
   | some x=>simp only[Option.map_some];rw[if_neg ag]
def Lb{w:World}{b:Nat}{e:TypeId}{pre cs bR:List Value}(hb:w.heap[b]?=some (cl (pre++cs++bR) e)):Sort.Holds id w b pre.length cs.toArray:=by
 intro j hj
 simp only[List.size_toArray]at hj
 constructor
 ·unfold World.cell?
  simp only[hb,cl,Option.isSome_none,Bool.false_eq_true,if_false,List.getElem?_toArray]
  rw[List.append_assoc,List.getElem?_append_right ag,Nat.add_sub_cancel_left,List.getElem?_append_left hj,getElem!_pos _ _ (by simpa using hj),List.getElem?_eq_getElem hj]
  simp
 ·unfold World.frozen?
  simp only[hb,cl]
  simp
end Go.SL
namespace Go.SL
open Go.Proofs Go.Shelf Go.RowKit Go.Lib Go.Sort
variable{P:Program}{ρ:Ren}
def Dy(L:SlLaysN.n54 P ρ)(e:TypeId)(v:Value)(l:List (List UInt8))(XH:P.funcs[ρ.f 54]?.map mB=some true)(iY:l.length<4611686018427387904) :
  aE P (ρ.f 54) [v] [az e 1 v l.length (l.map encStr)] (fun r H=>r = .tuple #[]∧H=[az e 1 v l.length ((l.mergeSort fun x y=>decide (x≤y)).map encStr)]):=by
 refine⟨XH,fun G w F hs=>?_⟩
 obtain⟨t,o,u,hp,Ht,hA,hB,⟨hl,iJ⟩,XY,hd,he⟩:=hs
 rcases iJ with⟨a0,rfl,hn,EO⟩|⟨b,oo,cap,pre,bR,rfl,mV,hn,jx,wM⟩
 ·have O1:l=[]:=List.eq_nil_of_length_eq_zero hn
  subst O1
  refine(AnyG.slices_Sort_string_none L a0 0 w).mono ?_
  rintro e' w'⟨rfl,rfl⟩
  exact⟨_,_,rfl,⟨rfl,rfl⟩,t,o,u,hp,Ht,hA,hB,⟨by simp,.inl ⟨a0,rfl,rfl,EO⟩⟩,XY,hd,he⟩
 ·have wL:Sat G w (ae b (cl (pre++l.map encStr++bR) e)::F):=⟨t,o,u,hp,Ht,hA,hB,wM,XY,hd,he⟩
  have hb:=wL.get (i:=0) rfl
  have cW:=wL.lt (i:=0) rfl
  subst mV
  have hH:Sort.Holds encStr w b pre.length l.toArray:=by
   have h0:=Lb hb
   intro j hj
   have:=h0 j (by simpa using hj)
   simp only[List.size_toArray]at hj
   rw[getElem!_pos (l.map encStr).toArray j (by simpa using hj)]at this
   rw[getElem!_pos l.toArray j (by simpa using hj)]
   simpa using this
  have hS:=AnyG.slices_Sort_string L b pre.length cap l w hH cW iY
  refine hS.mono ?_
  rintro e' w'⟨rfl,n,os,rfl⟩
  refine⟨_,_,rfl,⟨rfl,rfl⟩,?_⟩
  have AY:(l.mergeSort fun x y=>decide (x≤y)).length=l.length:=List.length_mergeSort _
  have h3:=(wL.ahead n).acw (Sort.putCells encStr pre.length (l.mergeSort fun x y=>decide (x≤y)).toArray) (l':=pre++(l.mergeSort fun x y=>decide (x≤y)).map encStr++bR) (by
   refine Eq.trans ?_ (B3 pre (l.map encStr) ((l.mergeSort fun x y=>decide (x≤y)).map encStr) bR (by rw[List.length_map,List.length_map,AY]))
   unfold Sort.putCells
   congr 1
   funext i x
   simp only[List.size_toArray,List.length_map,id]
   split
   ·rename_i h
    rw[getElem!_pos (List.map encStr _).toArray (i-pre.length) (by simp;omega),getElem!_pos (l.mergeSort fun x y=>decide (x≤y)).toArray (i-pre.length) (by simp;omega)]
    simp
   ·rfl)
  have h4:=h3.grown os
  refine h4.cN ?_
  exact l7 rfl hn (by rw[List.length_map]at jx ⊢;rw[AY];exact jx) (by rw[List.length_map,AY,Nat.mul_one]) F
end Go.SL
namespace Go.Proofs.YtdigdgohdpeebaaGreatDoor
open Go Go.Shelf
def AB:Go.Shelf.Ren:=⟨fun|54=>172|64=>206|65=>205|78=>231|79=>232|80=>222|81=>223|82=>224|83=>225|84=>226|85=>227|61=>228|86=>229|87=>230|93=>242|89=>243|90=>244|94=>245|95=>246|69=>247|97=>249|n=>n,fun|25=>114|26=>9|3=>3|51=>96|0=>0|67=>150|69=>134|4=>4|61=>268|60=>267|44=>178|5=>5|9=>9|75=>284|79=>288|83=>290|84=>291|n=>n,fun|n=>n⟩
def aaA:Go.Proofs.SlLaysN.n54 Tryz.prog AB:={
  mixed:=by kernel_rfl,
  f54:=⟨Tryz.f172.name,by decide,Tryz.func172.trans (congrArg some (by kernel_rfl))⟩,
  f61:=⟨Tryz.f228.name,by decide,Tryz.func228.trans (congrArg some (by kernel_rfl))⟩,
  f64:=Tryz.func206.trans (congrArg some (by kernel_rfl)),
  f65:=⟨Tryz.f205.name,by decide,Tryz.func205.trans (congrArg some (by kernel_rfl))⟩,
  f69:=⟨Tryz.f247.name,by decide,Tryz.func247.trans (congrArg some (by kernel_rfl))⟩,
  f78:=Tryz.func231.trans (congrArg some (by kernel_rfl)),
  f79:=Tryz.func232.trans (congrArg some (by kernel_rfl)),
  f80:=⟨Tryz.f222.name,by decide,Tryz.func222.trans (congrArg some (by kernel_rfl))⟩,
  f81:=⟨Tryz.f223.name,by decide,Tryz.func223.trans (congrArg some (by kernel_rfl))⟩,
  f82:=⟨Tryz.f224.name,by decide,Tryz.func224.trans (congrArg some (by kernel_rfl))⟩,
  f83:=⟨Tryz.f225.name,by decide,Tryz.func225.trans (congrArg some (by kernel_rfl))⟩,
  f84:=⟨Tryz.f226.name,by decide,Tryz.func226.trans (congrArg some (by kernel_rfl))⟩,
  f85:=⟨Tryz.f227.name,by decide,Tryz.func227.trans (congrArg some (by kernel_rfl))⟩,
  f86:=⟨Tryz.f229.name,by decide,Tryz.func229.trans (congrArg some (by kernel_rfl))⟩,
  f87:=⟨Tryz.f230.name,by decide,Tryz.func230.trans (congrArg some (by kernel_rfl))⟩,
  f89:=Tryz.func243.trans (congrArg some (by kernel_rfl)),
  f90:=Tryz.func244.trans (congrArg some (by kernel_rfl)),
  f93:=⟨Tryz.f242.name,by decide,Tryz.func242.trans (congrArg some (by kernel_rfl))⟩,
  f94:=⟨Tryz.f245.name,by decide,Tryz.func245.trans (congrArg some (by kernel_rfl))⟩,
  f95:=⟨Tryz.f246.name,by decide,Tryz.func246.trans (congrArg some (by kernel_rfl))⟩,
  f97:=⟨Tryz.f249.name,by decide,Tryz.func249.trans (congrArg some (by kernel_rfl))⟩,
  t0:=Tryz.underlying0,
  a0:=Tryz.isAgg0,
  z0:=Tryz.sizeOf0,
  v0:=Tryz.zeroValue0,
  t3:=Tryz.underlying3,
  a3:=Tryz.isAgg3,
  z3:=Tryz.sizeOf3,
  v3:=Tryz.zeroValue3,
  t4:=Tryz.underlying4,
  a4:=Tryz.isAgg4,
  z4:=Tryz.sizeOf4,
  v4:=Tryz.zeroValue4,
  t5:=Tryz.underlying5,
  a5:=Tryz.isAgg5,
  z5:=Tryz.sizeOf5,
  v5:=Tryz.zeroValue5,
  t9:=Tryz.underlying9,
  a9:=Tryz.isAgg9,
  z9:=Tryz.sizeOf9,
  v9:=Tryz.zeroValue9,
  t25:=Tryz.underlying114,
  a25:=Tryz.isAgg114,
  z25:=Tryz.sizeOf114,
  v25:=Tryz.zeroValue114,
  t26:=Tryz.underlying9,
  a26:=Tryz.isAgg9,
  z26:=Tryz.sizeOf9,
  v26:=Tryz.zeroValue9,
  t44:=Tryz.underlying178,
  a44:=Tryz.isAgg178,
  z44:=Tryz.sizeOf178,
  v44:=Tryz.zeroValue178,
  t51:=Tryz.underlying96,
  a51:=Tryz.isAgg96,
  z51:=Tryz.sizeOf96,
  v51:=Tryz.zeroValue96,
  t60:=Tryz.underlying267,
  a60:=Tryz.isAgg267,
  z60:=Tryz.sizeOf267,
  v60:=Tryz.zeroValue267,
  t61:=Tryz.underlying268,
  a61:=Tryz.isAgg268,
  z61:=Tryz.sizeOf268,
  v61:=Tryz.zeroValue268,
  t67:=Tryz.underlying150,
  a67:=Tryz.isAgg150,
  z67:=Tryz.sizeOf150,
  v67:=Tryz.zeroValue150,
  t69:=Tryz.underlying134,
  a69:=Tryz.isAgg134,
  z69:=Tryz.sizeOf134,
  v69:=Tryz.zeroValue134,
  t75:=Tryz.underlying284,
  a75:=Tryz.isAgg284,
  z75:=Tryz.sizeOf284,
  v75:=Tryz.zeroValue284,
  t79:=Tryz.underlying288,
  a79:=Tryz.isAgg288,
  z79:=Tryz.sizeOf288,
  v79:=Tryz.zeroValue288,
  t83:=Tryz.underlying290,
  a83:=Tryz.isAgg290,
  z83:=Tryz.sizeOf290,
  v83:=Tryz.zeroValue290,
  t84:=Tryz.underlying291,
  a84:=Tryz.isAgg291,
  z84:=Tryz.sizeOf291,
  v84:=Tryz.zeroValue291 }
end Go.Proofs.YtdigdgohdpeebaaGreatDoor
namespace Go.Proofs.YtdigdgohdpeebaaGreatDoor
open Go Go.SL
def sS(l:List ByteArray):List Value:=l.map Value.string
def WI(l:List ByteArray):∀v∈sS l,v.oneCell'=true:=by
 intro v hv
 obtain⟨x,_,rfl⟩:=List.mem_map.1 hv
 rfl
def SI(bs:Nat)(ks:List ByteArray):HP:=fun h=>∃v:Value,True∧Sep [ae bs (cl [v] 114),az 9 1 v ks.length (sS ks)] h
def JT(bs:Nat)(ks:List ByteArray):∀h,SI bs ks h→∃v:Value,True∧Sep [ae bs (cl [v] 114),az 9 1 v ks.length (sS ks)] h:=fun h hs=>hs
def FD(bs:Nat)(ks:List ByteArray)(v:Value)(H:List HP):ao (ae bs (cl [v] 114)::az 9 1 v ks.length (sS ks)::H) (SI bs ks::H) :=
 ao.fold (A:=SI bs ks) (B:=[ae bs (cl [v] 114),az 9 1 v ks.length (sS ks)]) fun h hs=>⟨h,sub.refl h,v,trivial,hs⟩
def SG:mI Tryz.prog 9 Value.string:=Ov Tryz.underlying9
attribute [local irreducible] J K aE Ends ae az aQ bP bj aT aU bp bW SI
def P7(bm:Nat):aE Tryz.prog 109 [.map (some bm)] [] (fun r H=>∃bx,r = .func (.func 173) #[] #[ptr bx]∧H=[ae bx (cl [.map (some bm)] 56)]):=by
 refine aE.au Tryz.func109 Tryz.ntmps109 fun G F R hE=>?_
 refine go ?_
 refine bG zr zr bD ?_
 intro bx
 refine go ?_
 refine ad hE Tryz.func109 zr zr ⟨bx,rfl,rfl⟩
def Mm(l bx bm:Nat)(es:List (ByteArray × Value))(kf:(es.map (·.1)).Nodup)(Lp:HP)(Inv:List ByteArray→HP)(hy:∀dn k,k∈es.map (·.1)→dn.length<es.length→bW Tryz.prog l [.string k] [Lp,Inv dn] (fun v H=>v = .bool true∧H=[Lp,Inv (dn++[k])])) :
  aE Tryz.prog 173 [.func (.yield l) #[] #[],ptr bx] [Lp,ae bx (cl [.map (some bm)] 56),aQ Value.string bm es,Inv [] ] (fun _ H=>∃dn:List ByteArray,dn.Perm (es.map (·.1))∧H=[Lp,ae bx (cl [.map (some bm)] 56),aQ Value.string bm es,Inv dn]):=by
 refine aE.au Tryz.func173 Tryz.ntmps173 fun G F R hE=>?_
 refine ai (ao.pick [2,0,1] rfl) (go ?_)
 refine wZ (kv:=Value.string) (es:=es) (U:=aS) 0 zr zr zr zr zr (fun _=>rfl) bD ?_
 intro it
 refine go ?_
 refine bz (fun s:List ByteArray=>s.Nodup∧∀x∈s,x∈es.map (·.1)) (fun s=>es.length-s.length) (fun s=>[(0,.func (.yield l) #[] #[]),(5,.pointer (some ⟨it,0,none⟩))])
  (fun s=>bP Value.string bm it es s::Lp::ae bx (cl [.map (some bm)] 56)::Inv s.reverse::F) [] ⟨List.nodup_nil,by simp⟩ rfl cm ah ?_
 rintro dn⟨yG,ef⟩ ih
 refine go ?_
 refine CZ (kv:=Value.string) (es:=es) 0 rfl SG.inj zr zr (fun _=>rfl) gB bD ?_ ?_
 ·intro gp
  refine go ?_
  refine ai (ao.head (B:=[aQ Value.string bm es]) (fun h hs=>by obtain⟨h',s,hm⟩:=qQ h hs;exact⟨h',s,gk hm⟩)) ?_
  have hp:dn.reverse.Perm (es.map (·.1)):=(List.reverse_perm dn).trans ((List.perm_ext_iff_of_nodup yG kf).2 fun a=>⟨ef a,fun h=>by obtain⟨y,hy,rfl⟩:=List.mem_map.1 h;exact gp y hy⟩)
  refine bU hE Tryz.func173 rfl _ rfl ⟨_,hp,rfl⟩ ah
 ·intro key v e9 wo
  have hk:key∈es.map (·.1):=List.mem_map.2 ⟨_,e9,rfl⟩
  have cW:dn.length<es.length:=by
   have h1:((List.filter (fun x=>decide (x∈dn)) (es.map (·.1)))).length≤(es.map (·.1)).length:=List.length_filter_le _ _
   have h2:dn.length=(List.filter (fun x=>decide (x∈dn)) (es.map (·.1))).length:=G' yG (kf.sublist List.filter_sublist) (fun n=>by
    simp only[List.mem_filter,decide_eq_true_eq]
    exact⟨fun h=>⟨ef n h,h⟩,fun h=>h.2⟩)
   rw[List.length_map]at h1
   rcases Nat.lt_or_ge dn.length es.length with h|h
   ·exact h
   ·exfalso
    have h3:(List.filter (fun x=>decide (x∈dn)) (es.map (·.1))).length=(es.map (·.1)).length:=by rw[List.length_map];omega
    have h4:=List.filter_eq_self.1 ((List.filter_sublist (p:=fun x=>decide (x∈dn)) (l:=es.map (·.1))).eq_of_length h3) key hk
    exact wo (of_decide_eq_true h4)
  refine go ?_
  refine xh (kv:=Value.string) (es:=es) 0 rfl SG.inj zr zr e9 (go ?_)
  refine kT zr zr zr (hy dn.reverse key hk (by rw[List.length_reverse];exact cW)) ah ?_ mO
  rintro _ _⟨rfl,rfl⟩
  rw[show dn.reverse++[key]=(key::dn).reverse from by simp]
  refine go ?_
  refine aM ih (key::dn) rfl (⟨List.nodup_cons.2 ⟨wo,yG⟩,fun x hx=>by rcases List.mem_cons.1 hx with rfl|h;exact hk;exact ef x h⟩) (by show _-(key::dn).length<_;simp only[List.length_cons];omega) cm ah
def Ak(bx bm:Nat)(es:List (ByteArray × Value))(kf:(es.map (·.1)).Nodup)(rC:es.length≤1000000) :
  aE Tryz.prog 204 [.slice none 0 0,.func (.func 173) #[] #[ptr bx] ] [ae bx (cl [.map (some bm)] 56),aQ Value.string bm es] (fun r H=>∃dn:List ByteArray,dn.Perm (es.map (·.1))∧H=[az 9 1 r dn.length (sS dn),ae bx (cl [.map (some bm)] 56),aQ Value.string bm es]):=by
 refine aE.au Tryz.func204 Tryz.ntmps204 fun G F R hE=>?_
 refine aG rfl ?_
 refine bG zr zr bD ?_
 intro bs
 refine go ?_
 refine iN rfl ?_
 refine ai (ao.trans (ao.cons _ (bO 9 1 none _)) (FD bs [] (.slice none 0 0) _)) ?_
 refine wX (Fr:=F) (Pre:=fun _ _=>[ae bx (cl [.map (some bm)] 56),aQ Value.string bm es,SI bs [] ]) (Post:=?Po) rfl hE.1.1 rfl ?c (fun l r=>ah) ?gP
 case c =>
  intro l r
  refine Mm l bx bm es kf _ (fun dn=>SI bs dn) ?_
  intro dn k hk cW
  refine bW.Ea zr zr ?_
  intro G2 F2 R2 hY
  refine go ?_
  refine gl rfl hY ?_
  refine ai (ao.pick [1] rfl) ?_
  refine er (JT bs dn) ?_
  rintro v -
  refine dg 1 rfl ?_
  rintro va vc rfl
  refine go ?_
  refine aj (cs:=sS [k]) zr zr zr zr zr zr zr zr zr bD ?_
  intro row
  refine go ?_
  refine aR (mm:=1) (news:=sS [k]) 2 0 zr zr zr zr zr zr zr zr zr zr zr zr (Vw.ae rfl) rfl (WI _) ag (by show(_+1)*16≤_;omega) (fun _=>rfl) bD ?_
  intro v1
  rw[show sS dn++sS [k]=sS (dn++[k])from by simp[sS],show dn.length+1=(dn++[k]).length from by simp]
  refine aN 2 rfl ?_
  rintro va2 vc2 rfl
  refine go ?_
  refine ai (ao.trans ah (FD bs (dn++[k]) (.slice va2 (dn++[k]).length vc2) _)) ?_
  refine fK hY rfl ah ⟨rfl,rfl⟩
 intro l r v H fJ
 obtain⟨dn,hp,rfl⟩:=fJ
 refine⟨_,_,_,rfl,by decide,?_⟩
 rw[hE.1.2]
 refine ai (ao.pick [2] rfl) ?_
 refine er (JT bs dn) ?_
 rintro w -
 refine go ?_
 refine rk hE Tryz.func204 rfl _ rfl ⟨dn,hp,rfl⟩ ah
def F7(bx bm:Nat)(es:List (ByteArray × Value))(kf:(es.map (·.1)).Nodup)(rC:es.length≤1000000) :
  aE Tryz.prog 171 [.func (.func 173) #[] #[ptr bx] ] [ae bx (cl [.map (some bm)] 56),aQ Value.string bm es] (fun r H=>∃dn:List ByteArray,dn.Perm (es.map (·.1))∧H=[az 9 1 r dn.length (sS dn),ae bx (cl [.map (some bm)] 56),aQ Value.string bm es]):=by
 refine aE.au Tryz.func171 Tryz.ntmps171 fun G F R hE=>?_
 refine go ?_
 refine aF (Ak bx bm es kf rC) ?_
 rintro w _⟨dn,hp,rfl⟩
 refine go ?_
 refine ad hE Tryz.func171 zr zr ⟨dn,hp,rfl⟩
def nS(l:List (List UInt8)):List Value:=l.map Go.Proofs.encStr
def aaB(l:List ByteArray):sS l=nS (l.map fun b=>b.data.toList):=by
 unfold sS nS
 rw[List.map_map]
 rfl
def Ma(v:Value)(l:List ByteArray)(hl:l.length≤1000000000):aE Tryz.prog 172 [v] [az 9 1 v l.length (sS l)] (fun r H=>r = .tuple #[]∧H=[az 9 1 v l.length (nS (pR l))]):=by
 have h:=Dy (ρ:=AB) aaA 9 v (l.map fun b=>b.data.toList) ak (by rw[List.length_map];omega)
 rw[List.length_map]at h
 rw[aaB]
 exact h
def Ie(bx bm:Nat)(es:List (ByteArray × Value))(kf:(es.map (·.1)).Nodup)(rC:es.length≤1000000) :
  aE Tryz.prog 108 [.func (.func 173) #[] #[ptr bx] ] [ae bx (cl [.map (some bm)] 56),aQ Value.string bm es] (fun r H=>H=[az 9 1 r es.length (nS (pR (es.map (·.1)))),ae bx (cl [.map (some bm)] 56),aQ Value.string bm es]):=by
 refine aE.au Tryz.func108 Tryz.ntmps108 fun G F R hE=>?_
 refine go ?_
 refine aF (F7 bx bm es kf rC) ?_
 rintro w _⟨dn,hp,rfl⟩
 have hlen:dn.length=es.length:=by rw[hp.length_eq,List.length_map]
 refine aN 0 rfl ?_
 rintro wa wc rfl
 refine go ?_
 refine aO (Ma (.slice wa dn.length wc) dn ag) ?_
 rw[GG hp,hlen]
 refine go ?_
 refine aL hE Tryz.func108 rfl _ zr zr ah
def Mk(bd:Nat)(D:Dk)(A:Ab)(hR:Rel D A):aE Tryz.prog 54 [ptr bd] [hJ bd D] (fun r H=>H=[az 9 1 r (ei A).length (nS (pR (ei A))),hJ bd D]):=by
 have kf:=hR.nodup _ (List.mem_cons_self ..)
 have u6:=hR.fG _ (List.mem_cons_self ..)
 have A0:(eR A.names).map (·.1)=ei A:=by simp[eR,ei,Function.comp_def]
 have Xx:(eR A.names).length=(ei A).length:=by simp[eR,ei]
 have fO:(ei A).length≤200:=by unfold ei;rw[List.length_map];exact u6
 obtain⟨jm,YR⟩:=List.getElem?_of_mem hR.names
 obtain⟨room,bm,kj,oE,nL,off,maps,eg,files,gC,wl⟩:=D
 simp only at YR
 refine aE.au Tryz.func54 Tryz.ntmps54 fun G F R hE=>?_
 refine ai (iZ _ _ _ _ _ _ _ _ _ _ _ _ _) (go ?_)
 refine aF (P7 bm) ?_
 rintro _ _⟨bx,rfl,rfl⟩
 have hso:=Ie bx bm (eR A.names) (by rw[A0];exact kf) ag
 rw[A0,Xx]at hso
 refine aI (ao.pick [2] rfl) ?_
 refine aI (ie kZ YR _) ?_
 refine aI (ao.pick [2,0] rfl) (go ?_)
 refine aF hso ?_
 rintro v _ rfl
 refine aI (ao.pick [2,3] rfl) ?_
 refine aI (pN kZ YR _) (go ?_)
 refine ai ((ao.pick [3,0,4,5,6,7] rfl).trans (ep _ _ _ _ _ _ _ _ _ _ _ _ _)) ?_
 refine aL hE Tryz.func54 rfl _ zr zr ah
end Go.Proofs.YtdigdgohdpeebaaGreatDoor
namespace Go.Proofs.YtdigdgohdpeebaaGreatDoor
open Go Go.SL
attribute [local irreducible] J K aE Ends ae az aQ bP bj aT aU bp bW Sha.chunks Sha.chunk Sha.rounds Sha.sched dW cH GI db
structure J6(A:Ab):Prop where
 ids:(A.fs.map (·.1)).Nodup
 known:∀st∈A.names::A.aw,∀x∈st,x.2∈A.fs.map (·.1)
 gX:∀x∈A.writes,x.1∈A.fs.map (·.1)
 nodup:∀st∈A.names::A.aw,(st.map (·.1)).Nodup
 gD:∀x∈A.fs,x.2.1.length≤1048576∧x.2.2.length≤1048576
 il:∀x∈A.writes,x.2.1+x.2.2.length≤1048576
 fG:∀st∈A.names::A.aw,st.length≤200
 im:A.room≤1073741824
 full:A.aw≠[]
def J6.of{D:Dk}{A:Ab}(h:Rel D A):J6 A:=⟨h.ids,h.known,h.gX,h.nodup,h.gD,h.il,h.fG,h.im,h.full⟩
def J6.file{A:Ab}(h:J6 A)(f:Nat):(A.file f).1.length≤1048576∧(A.file f).2.length≤1048576:=by
 unfold Ab.file
 cases hx:A.fs.find? (fun x=>decide (x.1=f))with
 | none=>simp
 | some x=>exact h.gD x (List.mem_of_find?_eq_some hx)
def J6.now{A:Ab}(h:J6 A)(f:Nat):(A.now f).length≤1048576:=(h.file f).1
def Cn{G:cI}{w:World}{H:List HP}(hs:Sat G w H){i:Nat}{A:HP}(hi:cE H i=some A):∃h,A h:=let ⟨h,_,hA⟩:=hs.lj hi;⟨h,hA⟩
def Ff{bd:Nat}{A:Ab}{h:Hp}(hd:aD bd A h):J6 A:=let ⟨_,hR,_⟩:=hd;J6.of hR
section
variable{P:Program}{f:FuncId}{n:Nat}{R:Ending→World→Prop}{G:cI}{k:List Item}{L:fD}{H:List HP}{S:World→Prop}{all:Array Oper}{rest:Pl}
def uo{bd:Nat}{A:Ab}(i:Nat)(hi:cE H i=some (aD bd A))(h:J6 A→K P f n R G k L H):K P f n R G k L H :=
 rX fun⟨w,hw⟩=>by obtain⟨h1,hA⟩:=Cn hw hi;exact h (Ff hA)
def JZ{bd:Nat}{A:Ab}(i:Nat)(hi:cE H i=some (aD bd A))(h:J6 A→J P f n R G S all rest k L H):J P f n R G S all rest k L H :=
 zA fun w hw=>by obtain⟨h1,hA⟩:=Cn hw hi;exact h (Ff hA)
end
attribute [local irreducible] aD
def eA(bd:Nat)(q:Int)(mb:Nat)(brk:Bool):List Value:=[ptr bd,.int .i64 q,.map (some mb),.bool brk]
def n7(kind:List UInt8)(d:Dg)(hk:kind.length≤1000):aE Tryz.prog 75 [.string (strOf kind),dV d] [] (fun r H=>r = .string (dy kind d)∧H=[]):=by
 have ht:=PO d
 unfold dV at ht ⊢
 refine aE.au Tryz.func75 Tryz.ntmps75 fun G F R hE=>?_
 refine aG rfl ?_
 refine bG zr zr bD ?_
 intro b3
 refine go ?_
 refine aJ (U:=aS) (l:=dC d) 0 zr zr zr zr zr zr ?_
 refine aO ht ?_
 refine zy zr zr zr (by show kind.length+(g9 d).length≤_;rw[jB];omega) ?_
 ((refine aB 8 ((.string (dy kind d))) rfl ((congrArg Value.string (by unfold dy strOf;apply ByteArray.ext;simp))) ?_))
 refine go ?_
 refine ad hE Tryz.func75 zr zr ⟨rfl,rfl⟩
def EY(o:Option Dg):Value:=match o with
 | none => .tuple #[dV Dg.zero,.bool false]
 | some d => .tuple #[dV d,.bool true]
def Pp(s:ByteArray)(k:Nat):s.extract (0:Int).toNat (k:Int).toNat=strOf (s.data.toList.take k):=by
 unfold strOf
 apply ByteArray.ext
 apply Array.ext'
 rw[ByteArray.data_extract]
 simp
def Pq(s:ByteArray)(k:Nat):s.extract (k:Int).toNat (s.size:Int).toNat=strOf (s.data.toList.drop k):=by
 unfold strOf
 apply ByteArray.ext
 apply Array.ext'
 have:s.size=s.data.toList.length:=rfl
 rw[ByteArray.data_extract,this]
 simp
 rw[List.take_of_length_le (by simp)]
def EX(kind:List UInt8)(nm:ByteArray)(hk:kind.length≤1000):aE Tryz.prog 110 [.string (strOf kind),.string nm] [] (fun r H=>r=EY (jG kind nm)∧H=[]):=by
 have Xw:(strOf kind).size=kind.length:=rfl
 have MO:nm.size=nm.data.toList.length:=rfl
 refine aE.au Tryz.func110 Tryz.ntmps110 fun G F R hE=>?_
 refine aG rfl ?_
 refine aC zr zr zr bD ?_
 intro b4
 have hN:¬kind.isPrefixOf nm.data.toList=true→jG kind nm=none:=fun h=>by unfold jG;rw[if_neg h]
 have hP:kind.isPrefixOf nm.data.toList=true→jG kind nm=jU (nm.data.toList.drop kind.length):=fun h=>by unfold jG;rw[if_pos h]
 have O7:kind.isPrefixOf nm.data.toList=true↔nm.data.toList.take kind.length=kind:=by
  rw[List.isPrefixOf_iff_prefix,List.prefix_iff_eq_take]
  exact eq_comm
 refine go ?_
 refine iy zr zr zr zr ?_ ?_
 ·intro cW
  have OW:=hN (fun h=>by rw[O7]at h;have:=congrArg List.length h;rw[List.length_take]at this;omega)
  rw[OW]at hE
  refine go ?_
  refine j0 (U:=aS) zr zr zr zr zr (go ?_)
  (refine bg hE ?_;apply aY (U:=aS) hE Tryz.func110 rfl (ao.refl _);(repeat(first|exact aP.nil|apply aP.tmp rfl|apply aP.agg 0 zr zr zr zr zr));exact⟨rfl,rfl⟩;exact ah)
 ·intro fg
  have YO:(kind.length:Int)≤(nm.size:Int):=by omega
  refine go ?_
  refine zz (U:=aS) (p:=0) (q:=(kind.length:Int)) zr zr zr zr zr zr (Int.le_refl _) (Int.natCast_nonneg _) YO ?_
  refine aB 17 ((.string (strOf (nm.data.toList.take kind.length)))) rfl ((congrArg Value.string (Pp nm kind.length))) (go ?_)
  refine bu 20 (.bool (!decide (nm.data.toList.take kind.length=kind))) rfl (by rw[vg]) ?_
  by_cases hp:nm.data.toList.take kind.length=kind
  ·rw[decide_eq_true hp]
   have hh:=hP (O7.2 hp)
   rw[hh]at hE
   refine go ?_
   refine zz (U:=aS) (p:=(kind.length:Int)) (q:=(nm.size:Int)) zr zr zr zr zr zr (Int.natCast_nonneg _) YO (Int.le_refl _) ?_
   refine aB 26 ((.string (strOf (nm.data.toList.drop kind.length)))) rfl ((congrArg Value.string (Pq nm kind.length))) ?_
   have aa0:=Mf (strOf (nm.data.toList.drop kind.length))
   rw[sf]at aa0
   refine aO aa0 ?_
   cases qX:jU (nm.data.toList.drop kind.length)with
   | none =>
    rw[qX]at hE
    simp only
    unfold dV
    refine go ?_
    refine aC zr zr zr bD ?_
    intro b6
    refine go ?_
    refine aJ (U:=aS) (l:=dC Dg.zero) 0 zr zr zr zr zr zr (go ?_)
    (refine bg hE ?_;apply aY (U:=aS) hE Tryz.func110 rfl (ao.refl _);(repeat(first|exact aP.nil|apply aP.tmp rfl|apply aP.agg 1 zr zr zr zr zr));exact⟨rfl,rfl⟩;exact ah)
   | some d =>
    rw[qX]at hE
    simp only
    unfold dV
    refine go ?_
    refine aC zr zr zr bD ?_
    intro b6
    refine go ?_
    refine aJ (U:=aS) (l:=dC d) 0 zr zr zr zr zr zr (go ?_)
    (refine bg hE ?_;apply aY (U:=aS) hE Tryz.func110 rfl (ao.refl _);(repeat(first|exact aP.nil|apply aP.tmp rfl|apply aP.agg 1 zr zr zr zr zr));exact⟨rfl,rfl⟩;exact ah)
  ·rw[decide_eq_false hp]
   have OW:=hN (fun h=>hp (O7.1 h))
   rw[OW]at hE
   refine go ?_
   refine j0 (U:=aS) zr zr zr zr zr (go ?_)
   (refine bg hE ?_;apply aY (U:=aS) hE Tryz.func110 rfl (ao.refl _);(repeat(first|exact aP.nil|apply aP.tmp rfl|apply aP.agg 0 zr zr zr zr zr));exact⟨rfl,rfl⟩;exact ah)
def No(A:Ab)(nm:ByteArray):decide (((A.size nm).2:Int)=0)=sE A nm:=by
 unfold Ab.size sE
 cases A.look nm <;> rfl
def Oz(bs bd:Nat)(q:Int)(mb:Nat)(brk:Bool)(A:Ab)(nm:ByteArray):aE Tryz.prog 76 [ptr bs,.string nm] [ae bs (cl (eA bd q mb brk) 113),aD bd A]
  (fun r H=>r = .bool (sE A nm)∧H=[ae bs (cl (eA bd q mb brk) 113),aD bd A]):=by
 have hs:=No A nm
 refine aE.au Tryz.func76 Tryz.ntmps76 fun G F R hE=>?_
 refine go ?_
 refine aO (ui bd A nm) ?_
 refine go ?_
 rw[← hs]at hE
 refine ad hE Tryz.func76 zr zr ⟨rfl,rfl⟩
def vm(bs bd:Nat)(q:Int)(mb:Nat)(brk:Bool)(A:Ab)(nm:ByteArray):aE Tryz.prog 99 [ptr bs,.string nm] [ae bs (cl (eA bd q mb brk) 113),aD bd A]
  (fun r H=>∃rv,r = .tuple #[rv,.bool (fp A nm).isSome]∧H=[az 5 1 rv ((fp A nm).getD []).length (bV ((fp A nm).getD [])),ae bs (cl (eA bd q mb brk) 113),aD bd A]):=by
 refine aE.au Tryz.func99 Tryz.ntmps99 fun G F R hE=>?_
 refine go ?_
 refine aO (ui bd A nm) ?_
 have hn:A.look nm=none→fp A nm=none∧A.size nm=(0,4):=fun h=>by unfold fp Ab.size;rw[h];exact⟨rfl,rfl⟩
 have hr:∀f,A.look nm=some f→A.size nm=((A.now f).length,0)∧A.read nm 0 ((A.now f).length:Int)=((fp A nm).getD [],if(fp A nm).isSome then 0 else 7):=fun f h=>by
  unfold fp Ab.size Ab.read
  rw[h]
  cases ji:A.off with
  | true=>exact⟨rfl,rfl⟩
  | false =>
   refine⟨rfl,?_⟩
   simp only[Bool.false_eq_true,if_false,Option.getD_some,Option.isSome_some,if_true]
   rw[if_neg ag]
   simp
 cases hl:A.look nm with
 | none =>
  obtain⟨h1,h2⟩:=hn hl
  rw[h2]
  rw[h1]at hE
  simp only
  refine go ?_
  refine ai (bO 5 1 none _) ?_
  refine ad hE Tryz.func99 zr zr ⟨_,rfl,rfl⟩
 | some f =>
  obtain⟨h1,h2⟩:=hr f hl
  rw[h1]
  simp only
  have vW:=CR bd A nm 0 ((A.now f).length:Int)
  rw[h2]at vW
  refine go ?_
  refine aF vW ?_
  rintro _ _⟨r,rfl,rfl⟩
  generalize fp A nm=o at hE ⊢
  cases o with
  | none =>
   refine go ?_
   refine ad hE Tryz.func99 zr zr ⟨_,rfl,rfl⟩
  | some b =>
   refine go ?_
   refine ad hE Tryz.func99 zr zr ⟨_,rfl,rfl⟩
end Go.Proofs.YtdigdgohdpeebaaGreatDoor
namespace Go.SL
open Go
namespace Sha
def BO(c:UInt8)(k:Nat)(hk:k≤24):(wB c <<< k).toNat=c.toNat*2 ^ k:=by
 have:=c.toNat_lt
 rw[BitVec.toNat_shiftLeft,rZ,Nat.shiftLeft_eq]
 have h2:2 ^ k≤2 ^ 24:=Nat.pow_le_pow_right ag hk
 rw[Nat.mod_eq_of_lt]
 calc c.toNat*2 ^ k<2 ^ 8*2 ^ 24:=Nat.mul_lt_mul_of_lt_of_le ag h2 (Nat.pow_pos ag)
  _=2 ^ 32:=by decide
def M3(a b c d:Nat)(ha:a<256)(hb:b<256)(hc:c<256)(hd:d<256):((a*2 ^ 24 ||| b*2 ^ 16) ||| c*2 ^ 8) ||| d=((a*256+b)*256+c)*256+d:=by
 have e1:a*2 ^ 24 ||| b*2 ^ 16=(a*256+b)*2 ^ 16:=by
  rw[Nat.or_comm,oQ (k:=24) ag];omega
 have e2:(a*256+b)*2 ^ 16 ||| c*2 ^ 8=((a*256+b)*256+c)*2 ^ 8:=by
  rw[Nat.or_comm,oQ (k:=16) ag];omega
 have e3:((a*256+b)*256+c)*2 ^ 8 ||| d=((a*256+b)*256+c)*256+d:=by
  rw[Nat.or_comm,oQ (k:=8) ag];omega
 rw[e1,e2,e3]
def M4(a b c d:UInt8):wB a*16777216#32+wB b*65536#32+wB c*256#32+wB d=(wB a <<< 24 ||| wB b <<< 16 ||| wB c <<< 8 ||| wB d:jt):=by
 have ha:=a.toNat_lt;have hb:=b.toNat_lt;have hc:=c.toNat_lt;have hd:=d.toNat_lt
 apply BitVec.eq_of_toNat_eq
 rw[BitVec.toNat_or,BitVec.toNat_or,BitVec.toNat_or,BO _ 24 ag,BO _ 16 ag,BO _ 8 ag,rZ,M3 _ _ _ _ ha hb hc hd,
  BitVec.toNat_add,BitVec.toNat_add,BitVec.toNat_add,BitVec.toNat_mul,BitVec.toNat_mul,BitVec.toNat_mul,rZ,rZ,rZ,rZ,BitVec.toNat_ofNat,BitVec.toNat_ofNat,BitVec.toNat_ofNat]
 generalize a.toNat=p at *
 generalize b.toNat=q at *
 generalize c.toNat=r at *
 generalize d.toNat=u at *
 omega
end Sha
end Go.SL
namespace Go.Proofs.YtdigdgohdpeebaaGreatDoor
open Go Go.SL
attribute [local irreducible] J K aE Ends ae az aQ bP bj aT aU bp bW
def gm(x:jt)(n:Nat)(h1:1≤n)(h2:n≤31):aE Tryz.prog 168 [u32 x,.int .u64 (n:Int)] [] (fun r H=>r=u32 (Sha.uE x n)∧H=[]):=by
 unfold u32
 rw[← Sha.QW x n h1 h2]
 refine aE.au Tryz.func168 Tryz.ntmps168 fun G F R hE=>?_
 refine go ?_
 refine qA n zr zr zr zr ag (go ?_)
 refine aB 10 ((.int .u64 ((32-n:Nat):Int))) rfl ((congrArg (Value.int .u64) ag)) ?_
 refine Iq (32-n) zr zr zr zr ag ?_
 refine je zr zr zr (go ?_)
 refine ad hE Tryz.func168 zr zr ⟨rfl,rfl⟩
def QN(a b c:jt):aE Tryz.prog 169 [u32 a,u32 b,u32 c] [] (fun r H=>r=u32 (Sha.maj a b c)∧H=[]):=by
 unfold u32
 rw[← Sha.Rh a b c]
 refine aE.au Tryz.func169 Tryz.ntmps169 fun G F R hE=>?_
 refine go ?_
 (repeat(first|refine gO ?_|refine C3 zr zr zr ?_|refine FO zr zr zr ?_))
 refine ad hE Tryz.func169 zr zr ⟨rfl,rfl⟩
def Ac:aE Tryz.prog 167 [] [] (fun r H=>r = .agg (wV Sha.ks).toArray∧H=[]):=by
 refine aE.au Tryz.func167 Tryz.ntmps167 fun G F R hE=>?_
 refine aG rfl ?_
 refine aC zr zr zr bD ?_
 intro b0
 refine pz ?_
 refine aG rfl ?_
 refine mN (U:=aS) (cs:=wV Sha.ks) zr zr zr zr zr zr ?_
 refine cK (U:=aS) (l':=wV Sha.ks) 0 gB zr zr zr zr (by decide) (fA _) zr zr zr (go ?_)
 refine jA (U:=aS) 0 hE Tryz.func167 zr zr zr zr zr zr zr ⟨rfl,rfl⟩ ah
def DC(b:List UInt8)(t:Nat)(h:t<16):(Sha.eN b t).set t (Sha.word b t)=Sha.eN b (t+1):=by
 unfold Sha.eN
 rw[List.set_append_right _ _ (by rw[Sha.dO];exact Nat.le_refl _),Sha.dO,Nat.sub_self,show 64-t=(64-(t+1))+1 from by omega,List.replicate_succ,List.set_cons_zero]
 conv=>rhs;unfold Sha.sched
 rw[if_pos h]
 simp
attribute [local irreducible] Sha.chunks Sha.chunk Sha.rounds Sha.sched dW
def J9(A:HP)(v:Value)(b:List UInt8)(hv:eM A v b)(MW:64≤b.length) :
  aE Tryz.prog 166 [v] [A] (fun r H=>r = .agg (wV (Sha.sched b 64)).toArray∧H=[A]):=by
 obtain⟨a,c,rfl,hc⟩:=hv.2
 refine aE.au Tryz.func166 Tryz.ntmps166 fun G F R hE=>?_
 refine aG rfl ?_
 refine aC zr zr zr bD ?_
 intro b2
 refine pz ?_
 (refine aG rfl ?_;refine pz ?_)
 refine aC zr zr zr bD ?_
 intro b3
 refine go ?_
 have hz:Sha.eN b 0=List.replicate 64 0:=by unfold Sha.eN;unfold Sha.sched;rfl
 refine bz (fun t:Nat=>t≤16) (fun t=>16-t)
  (fun t=>[(0,.slice a b.length c),(2,ptr b2),(3,ptr b3),(4,.int .i64 (t:Int))])
  (fun t=>ae b3 (cl (wV (Sha.eN b t)) 211)::ae b2 (cl (wV (List.replicate 64 0)) 211)::A::F) 0 (Nat.zero_le _) rfl cm (by rw[hz];exact ah) ?_
 rintro t ht ih
 have hlen:=Sha.sh b t ag
 refine go ?_
 refine aq zr zr ?_ ?_
 ·intro cW
  have K7:t<16:=by omega
  obtain⟨bb,oo,cc,fO⟩:=hv.1.some (by intro e;have:=congrArg List.length e;rw[bt,List.length_nil]at this;omega)
  simp only[Value.slice.injEq,true_and]at fO
  obtain⟨rfl,rfl⟩:=fO
  have hg:∀j,j<4→(bV b)[4*t+j]?=some (u8 (b.getD (4*t+j) 0)):=fun j hj=>nC (by rw[List.getD_eq_getElem?_getD,List.getElem?_eq_getElem ag];rfl)
  have iq:=DC b t K7
  have hw:wB (b.getD (4*t+0) 0)*16777216#32+wB (b.getD (4*t+1) 0)*65536#32+wB (b.getD (4*t+2) 0)*256#32+wB (b.getD (4*t+3) 0)=Sha.word b t:=Sha.M4 _ _ _ _
  have g0:=hg 0 ag
  have g1:=hg 1 ag
  have g2:=hg 2 ag
  have g3:=hg 3 ag
  generalize b.getD (4*t+0) 0=x0 at hw g0
  generalize b.getD (4*t+1) 0=x1 at hw g1
  generalize b.getD (4*t+2) 0=x2 at hw g2
  generalize b.getD (4*t+3) 0=x3 at hw g3
  refine go ?_
  refine aH (fun w=>Sat G w ([A])) (df 0 35 (.act 35 .nil)) rfl ak ak ak eo ?_
  refine go ?_
  (refine go ?_;refine ib zr zr zr (by simp only[gn];omega) ?_;refine go ?_;refine bI (4*t+0) zr zr zr zr zr zr zr ag ag ?_;refine aK ?_;refine bX 0 (4*t+0) zr zr zr hv.1 rfl g0 zr zr ?_;refine eP ?_;refine qz (U:=aS) zr zr zr zr zr zr ?_)
  refine Is (q:=16777216#32) zr zr zr ?_
  (refine go ?_;refine ib zr zr zr (by simp only[gn];omega) ?_;refine go ?_;refine bI (4*t+1) zr zr zr zr zr zr zr ag ag ?_;refine aK ?_;refine bX 0 (4*t+1) zr zr zr hv.1 rfl g1 zr zr ?_;refine eP ?_;refine qz (U:=aS) zr zr zr zr zr zr ?_)
  refine Is (q:=65536#32) zr zr zr ?_
  refine j4 zr zr zr ?_
  (refine go ?_;refine ib zr zr zr (by simp only[gn];omega) ?_;refine go ?_;refine bI (4*t+2) zr zr zr zr zr zr zr ag ag ?_;refine aK ?_;refine bX 0 (4*t+2) zr zr zr hv.1 rfl g2 zr zr ?_;refine eP ?_;refine qz (U:=aS) zr zr zr zr zr zr ?_)
  refine Is (q:=256#32) zr zr zr ?_
  refine j4 zr zr zr ?_
  (refine go ?_;refine ib zr zr zr (by simp only[gn];omega) ?_;refine go ?_;refine bI (4*t+3) zr zr zr zr zr zr zr ag ag ?_;refine aK ?_;refine bX 0 (4*t+3) zr zr zr hv.1 rfl g3 zr zr ?_;refine eP ?_;refine qz (U:=aS) zr zr zr zr zr zr ?_)
  refine j4 zr zr zr ?_
  rw[hw]
  refine ew (U:=aS) t zr zr zr zr zr zr zr zr ag ?_
  refine aV ?_
  refine gV (U:=aS) 0 gB zr zr zr zr zr zr zr (by rw[lx,hlen];omega) rfl ?_
  rw[show 0+t=t from Nat.zero_add _]
  refine go ?_
  have Ez:=(xk (Sha.eN b t) t _).trans (congrArg wV iq)
  refine ai (H':=ae b3 (cl (wV (Sha.eN b (t+1))) 211)::ae b2 (cl (wV (List.replicate 64 0)) 211)::A::F) (by rw[← Ez];exact ao.refl _) ?_
  refine aM ih (t+1) rfl ag ag cm ah
 intro fg
 have acU:t=16:=by omega
 subst acU
 clear ih
 refine go ?_
 refine bz (fun t:Nat=>16≤t∧t≤64) (fun t=>64-t)
  (fun t=>[(2,ptr b2),(3,ptr b3),(5,.int .i64 (t:Int))])
  (fun t=>ae b3 (cl (wV (Sha.eN b t)) 211)::ae b2 (cl (wV (List.replicate 64 0)) 211)::A::F) 16 ⟨ag,ag⟩ rfl cm ah ?_
 rintro t⟨K7,ht2⟩ ih
 have hlen:=Sha.sh b t ht2
 refine go ?_
 refine aq zr zr ?_ ?_
 ·intro cW
  have ht:t<64:=by omega
  have g2:=Sha.iF b t (t-2) ag
  have g7:=Sha.iF b t (t-7) ag
  have g15:=Sha.iF b t (t-15) ag
  have g16:=Sha.iF b t (t-16) ag
  have lF:=Sha.vG b t K7 ht
  generalize (Sha.sched b t).getD (t-2) 0=y2 at g2 lF
  generalize (Sha.sched b t).getD (t-7) 0=y7 at g7 lF
  generalize (Sha.sched b t).getD (t-15) 0=y15 at g15 lF
  generalize (Sha.sched b t).getD (t-16) 0=y16 at g16 lF
  have abF:y16+y7+(Sha.uE y15 7 ^^^ Sha.uE y15 18 ^^^ y15 >>> 3)+(Sha.uE y2 17 ^^^ Sha.uE y2 19 ^^^ y2 >>> 10)=y16+y7+Sha.s1 y2+Sha.s0 y15:=by
   show y16+y7+Sha.s0 y15+Sha.s1 y2=_
   rw[BitVec.add_assoc,BitVec.add_comm (Sha.s0 y15),← BitVec.add_assoc]
  refine go ?_
  refine ew (U:=aS) (t-15) zr zr zr zr zr zr zr ag ag ?_
  refine aK ?_
  refine mL (U:=aS) 0 (t-15) zr zr zr (Nat.zero_add _) (iC g15) zr zr (go ?_)
  refine ew (U:=aS) (t-2) zr zr zr zr zr zr zr ag ag ?_
  refine aK ?_
  refine mL (U:=aS) 0 (t-2) zr zr zr (Nat.zero_add _) (iC g2) zr zr (go ?_)
  refine aH (fun w=>Sat G w ([ae b3 (cl (wV (Sha.eN b t)) 211)])) (df 0 11 (.st 12 (.st 15 (.st 16 (.st 19 (.st 21 (.st 24 (.st 25 (.act 11 (.act 13 (.st 14 (.st 17 (.st 18 (.act 20 (.act 22 (.st 23 (df 26 3 (.act 29 .nil)))))))))))))))))) rfl ak ak ak eo ?_
  refine go ?_
  refine ew (U:=aS) (t-16) zr zr zr zr zr zr zr ag ag ?_
  refine aK ?_
  refine eO (U:=aS) 0 (t-16) zr zr zr (Nat.zero_add _) (iC g16) zr zr (go ?_)
  refine ew (U:=aS) (t-7) zr zr zr zr zr zr zr ag ag ?_
  refine aK ?_
  refine eO (U:=aS) 0 (t-7) zr zr zr (Nat.zero_add _) (iC g7) zr zr ?_
  refine j4 zr zr zr (go ?_)
  refine qA 3 zr zr zr zr ag (go ?_)
  refine qA 10 zr zr zr zr ag ?_
  refine bC ((gm y15 7 ag ag)) ?_
  refine bC ((gm y15 18 ag ag)) ?_
  refine je zr zr zr ?_
  refine je zr zr zr ?_
  refine j4 zr zr zr ?_
  refine bC ((gm y2 17 ag ag)) ?_
  refine bC ((gm y2 19 ag ag)) ?_
  refine je zr zr zr ?_
  refine je zr zr zr ?_
  refine j4 zr zr zr ?_
  rw[abF]
  refine ew (U:=aS) t zr zr zr zr zr zr zr zr ag ?_
  refine aV ?_
  refine gV (U:=aS) 0 gB zr zr zr zr zr zr zr (by rw[lx,hlen];omega) rfl ?_
  rw[show 0+t=t from Nat.zero_add _]
  refine go ?_
  have Ez:=(xk (Sha.eN b t) t _).trans (congrArg wV lF)
  refine ai (H':=ae b3 (cl (wV (Sha.eN b (t+1))) 211)::ae b2 (cl (wV (List.replicate 64 0)) 211)::A::F) (by rw[← Ez];exact ao.refl _) ?_
  refine aM ih (t+1) rfl ⟨ag,ag⟩ ag cm ah
 intro fg
 have Hn:t=64:=by omega
 subst Hn
 rw[Sha.xM]
 have E3:(wV (Sha.sched b 64)).length=64:=by rw[lx,Sha.dO]
 have gI:iL (wV (Sha.sched b 64))=true:=fA _
 generalize wV (Sha.sched b 64)=W at E3 gI hE ⊢
 refine go ?_
 refine aJ (U:=aS) 0 zr zr zr zr zr E3 ?_
 refine cK (U:=aS) 1 gB rfl rfl rfl E3 (by intro e;rw[e]at E3;cases E3) gI rfl (by rw[E3];simp[lx]) rfl ?_
 refine go ?_
 refine jA (U:=aS) 1 hE Tryz.func166 zr zr zr zr zr E3 rfl ⟨rfl,rfl⟩ ah
end Go.Proofs.YtdigdgohdpeebaaGreatDoor
