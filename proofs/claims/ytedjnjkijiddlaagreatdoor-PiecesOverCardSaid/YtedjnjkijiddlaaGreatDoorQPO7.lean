import Derived.Test.YtedjnjkijiddlaaGreatDoorQPO3
import Derived.Test.YtedjnjkijiddlaaGreatDoorQPO4
import Derived.Test.YtedjnjkijiddlaaGreatDoorQPO5
import Derived.Test.YtedjnjkijiddlaaGreatDoorQPO6
import Derived.Laws.StructEq
import Derived.ProofKit
import Derived.Below
import Derived.Shelf.SortG.Plain
import Derived.Shelf.SortG.SortNone
import Derived.Test.YtedjnjkijiddlaaGreatDoorChecked
set_option linter.unusedSectionVars false
set_option linter.unusedSimpArgs false
set_option linter.unusedVariables false
set_option maxHeartbeats 1000000
namespace Go.SL
open Go
section
variable{P:Program}
theorem wi{t e:TypeId}(hu:P.underlying t=some (.array 32 e))(hc:P.cellsOf t=32)(xs:List Value)(off:Nat)(d:Dg)(h:(xs.drop off).take 32=dC d)(w:World):(part t xs.toArray off).run P w = .ok (dV d) w:=by
 obtain⟨i,hi⟩:=info_of_underlying hu
 have hs:=Go.run_sizeOf w hi
 rw[hc]at hs
 simp only[part,isAgg,Sem.run_bind,Go.run_underlying hu,Result.andThen_ok,Sem.run_pure,if_true,hs]
 have:xs.toArray.extract off (off+32)=(dC d).toArray:=by
  apply Array.ext'
  rw[← h]
  simp
 rw[this]
 rfl
theorem JQ{t:TypeId}(hu:P.underlying t=some (.int .i64))(a b:Int)(D:Nat)(w:World):(Op.equalIn (D+1) t (.int .i64 a) (.int .i64 b)).run P w = .ok (decide (a=b)) w:=by
 simp only[Op.equalIn,Sem.run_bind,Go.run_underlying hu,Result.andThen_ok,if_true,Sem.run_pure]
 rfl
theorem zw{td ti:TypeId}{f1 f2 f3 f4:Field}(n1:f1.name ≠ "_")(n2:f2.name ≠ "_")(n3:f3.name ≠ "_")(n4:f4.name ≠ "_")(E:Nat)(w:World)(c1 c2:List Value)(d1 d2 r1 r2:Dg)(s1 s2 p1 p2:Int)(eD:∀a b:Dg,(Op.equalIn E td (dV a) (dV b)).run P w = .ok (decide (a=b)) w)(eI:∀a b:Int,(Op.equalIn E ti (.int .i64 a) (.int .i64 b)).run P w = .ok (decide (a=b)) w)(t1:f1.type=td)(t2:f2.type=ti)(t3:f3.type=ti)(t4:f4.type=td)(p01:(part td c1.toArray f1.offset).run P w = .ok (dV d1) w)(p02:(part td c2.toArray f1.offset).run P w = .ok (dV d2) w)(p11:(part ti c1.toArray f2.offset).run P w = .ok (.int .i64 s1) w)(p12:(part ti c2.toArray f2.offset).run P w = .ok (.int .i64 s2) w)(p21:(part ti c1.toArray f3.offset).run P w = .ok (.int .i64 p1) w)(p22:(part ti c2.toArray f3.offset).run P w = .ok (.int .i64 p2) w)(p31:(part td c1.toArray f4.offset).run P w = .ok (dV r1) w)(p32:(part td c2.toArray f4.offset).run P w = .ok (dV r2) w) :
  (Op.eqFields E c1.toArray c2.toArray [f1,f2,f3,f4]).run P w = .ok (decide (d1=d2∧s1=s2∧p1=p2∧r1=r2)) w:=by
 by_cases h1:d1=d2
 ·by_cases h2:s1=s2
  ·by_cases h3:p1=p2
   ·simp[Op.eqFields,n1,n2,n3,n4,t1,t2,t3,t4,p01,p02,p11,p12,p21,p22,p31,p32,eD,eI,h1,h2,h3]
    by_cases h4:r1=r2 <;> simp[h4]
   ·simp[Op.eqFields,n1,n2,n3,n4,t1,t2,t3,t4,p01,p02,p11,p12,p21,p22,p31,p32,eD,eI,h1,h2,h3]
  ·simp[Op.eqFields,n1,n2,n3,n4,t1,t2,t3,t4,p01,p02,p11,p12,p21,p22,p31,p32,eD,eI,h1,h2]
 ·simp[Op.eqFields,n1,n2,n3,n4,t1,t2,t3,t4,p01,p02,p11,p12,p21,p22,p31,p32,eD,eI,h1]
end
end Go.SL
namespace Go.Proofs.YtedjnjkijiddlaaGreatDoor
open Go Go.SL
attribute [local irreducible] J K aD Ends ag aB aM bN aZ aP aV bh bW Sha.chunks Sha.chunk Sha.rounds Sha.sched dM ct GI cU
set_option maxRecDepth 20000 in
theorem DV(A:HP)(hK:oe A)(b1 b2:Nat)(v:Value)(b:List UInt8)(hv:eJ A v b)(hl:b.length≤900000000)(k:Nat)(hk:1≤k)(yf:k≤1000000000) :
  Px 245 [ptr b1,ptr b2] ((gf k b.length b).map cU) [ag b1 (cl [v] 22),ag b2 (cl [.int .i64 (k:Int)] 3),A] [A]:=by
 intro l Lp Inv hy
 obtain⟨a,c,rfl,hc⟩:=hv.2
 refine aD.enter Tryz.func245 ak rfl Tryz.ntmps245 zr zr ?_
 intro G F R hE
 refine aE rfl ?_
 refine bC zr zr bz ?_
 intro b3
 refine go ?_
 ((refine ai zr zr zr zr (LY a b.length c (k:Int) ah) ad ?_ bG))
 rintro _ _⟨c1,c2,rfl,rfl⟩
 refine go ?_
 refine iR rfl ?_
 refine aj (ao.trans (ao.pick [3,4,2] rfl) (ao.bP [Lp,Inv 0,ag b3 (cl [.func (.yield l) #[] #[] ] 120)] _)) ?_
 refine qm (Fr:=F) (Pre:=fun _ _=>[Sep [Lp,Inv 0,ag b3 (cl [.func (.yield l) #[] #[] ] 120)],ag c1 (cl [.slice a b.length c] 22),ag c2 (cl [.int .i64 (k:Int)] 3),A]) (fun _ _ Lp2 v H=>H=[Lp2 .ready none,Sep [Lp,Inv (gf k b.length b).length,ag b3 (cl [.func (.yield l) #[] #[] ] 120)],A]) rfl hE.1.1 rfl ?c (fun l r=>ad) ?hG
 case c =>
  intro l2 r2
  refine HU A c1 c2 _ b hv ah k hk yf l2 _ (fun j=>Sep [Lp,Inv j,ag b3 (cl [.func (.yield l) #[] #[] ] 120)]) ?_
  intro j p rv hp IW
  have hyj:=hy j (cU p) (by rw[List.getElem?_map,hp];rfl)
  have pT:p.length≤900000000:=by
   have h1:=ju k hk b.length b j (Nat.le_refl _)
   rw[hp]at h1
   split at h1
   ·cases h1;rw[List.length_take,List.length_drop];omega
   ·cases h1
  refine bW.DG zr zr ?_
  intro G F2 R2 hY
  refine go ?_
  refine fV rfl hY ?_
  refine aj (ao.trans (ao.pick [1] rfl) (ao.cB [_,_,_] _)) ?_
  refine aF (fun w=>Sat G w ([ag b3 (cl [.func (.yield l) #[] #[] ] 120)])) (.st 0 (.st 1 (.act 2 (.act 3 (.st 4 .nil))))) rfl ak ak ak ei ?_
  refine go ?_
  ((refine ai rfl rfl rfl rfl ((E6 A hK rv p IW pT)) ad ?_ jg))
  rintro _ _⟨rfl,rfl⟩
  refine go ?_
  refine kE rfl rfl rfl hyj ad ?_ (fun _ _ w hp hw=>by obtain⟨_,rfl⟩:=hp;exact hw.cy ad)
  rintro _ _⟨rfl,rfl⟩
  refine go ?_
  refine aj (ao.trans (ao.pick [0,1,3] rfl) (ao.bP [Lp,Inv (j+1),ag b3 (cl [.func (.yield l) #[] #[] ] 120)] _)) ?_
  refine fu hY rfl ad ⟨rfl,rfl⟩
 rintro l2 r2 v2 H' rfl
 refine⟨_,_,_,rfl,by decide,?_⟩
 rw[hE.1.2]
 rw[List.length_map]at hE
 refine aj (ao.cB [_,_,_] _) ?_
 refine go ?_
 apply HH hE Tryz.func245 rfl _ zr zr
 exact ad
theorem GJ(a:Option Addr)(n c:Nat)(k:Int):aD Tryz.prog 226 [.slice a n c,.int .i64 k] [] (fun r H=>∃b1 b2,r = .func (.func 245) #[] #[ptr b1,ptr b2]∧H=[ag b1 (cl [.slice a n c] 22),ag b2 (cl [.int .i64 k] 3)]):=by
 refine aD.enter Tryz.func226 ak rfl Tryz.ntmps226 zr zr ?_
 intro G F R hE
 refine aE rfl ?_
 refine bC zr zr bz ?_
 intro b1
 refine bC zr zr bz ?_
 intro b2
 refine go ?_
 ((refine ae hE Tryz.func226 rfl _ rfl ⟨b1,b2,rfl,rfl⟩ ad))
theorem kL{b:List UInt8}{k:Int}{ls:List Dg}(h:cI b k=some ls):1≤ls.length∧ls.length≤1024:=by
 unfold cI at h
 split at h
 ·rename_i hr
  cases h
  simp only[bo,decide_eq_true_eq]at hr
  obtain⟨k,rfl⟩:∃m:Nat,k=m:=⟨k.toNat,ah⟩
  rw[List.length_map,Int.toNat_natCast,mK k ah]
  have h2:=hr.2.2.2.2
  have h3:((b.length:Int)+(k:Int)-1)/(k:Int)=(((b.length+k-1)/k:Nat):Int):=by
   rw[Int.natCast_ediv];congr 1;omega
  rw[h3]at h2
  have h4:1≤(b.length+k-1)/k:=by rw[Nat.le_div_iff_mul_le ah];omega
  omega
 ·cases h
set_option maxRecDepth 20000 in
theorem HG(A:HP)(hK:oe A)(v:Value)(b:List UInt8)(hv:eJ A v b)(hl:b.length≤900000000)(k:Int) :
  aD Tryz.prog 207 [v,.int .i64 k] [A] (fun r H=>(cI b k=none∧r = .tuple #[.slice none 0 0,.int .i64 1]∧H=[A])∨∃ls rv,cI b k=some ls∧r = .tuple #[rv,.int .i64 0]∧H=[aB 35 32 rv ls.length (ls.flatMap dC),A]):=by
 obtain⟨a,c,rfl,hc⟩:=hv.2
 refine aD.enter Tryz.func207 ak rfl Tryz.ntmps207 zr zr ?_
 intro G F R hE
 ((refine go ?_;(refine ai zr zr zr zr (nW ⟨Dg.zero,b.length,k,Dg.zero⟩) ad ?_ bG)))
 rintro _ _⟨rfl,rfl⟩
 cases hr:bo ⟨Dg.zero,b.length,k,Dg.zero⟩with
 | false =>
  have hn:cI b k=none:=by unfold cI;rw[if_neg (by rw[hr];simp)]
  refine go ?_
  ((refine ae hE Tryz.func207 rfl _ rfl (.inl ⟨hn,rfl,rfl⟩) ad))
 | true =>
  have hs:cI b k=some ((gf k.toNat b.length b).map cU):=by unfold cI;rw[if_pos hr]
  have vS:=kL hs
  simp only[bo,decide_eq_true_eq]at hr
  obtain⟨k,rfl⟩:∃m:Nat,k=m:=⟨k.toNat,ah⟩
  rw[Int.toNat_natCast]at hs vS
  refine go ?_
  ((refine ai zr zr zr zr (GJ a b.length c (k:Int)) ad ?_ bG))
  rintro _ _⟨b1,b2,rfl,rfl⟩
  refine go ?_
  ((refine ai zr zr zr zr (CC 245 [ptr b1,ptr b2] _ [ag b1 (cl [.slice a b.length c] 22),ag b2 (cl [.int .i64 (k:Int)] 3),A] [A] ah (DV A hK b1 b2 _ b hv hl k ah ah)) ad ?_ bG))
  rintro rv _ rfl
  refine go ?_
  ((refine ae hE Tryz.func207 rfl _ rfl (.inr ⟨_,_,hs,rfl,rfl⟩) ad))
theorem tV{P:Program}{f:FuncId}{n:Nat}{R:Ending→World→Prop}{G:cC}{k:List Item}{L:fC}{H:List HP}{S:World→Prop}{all:Array Oper}{rest:Pl}{e:TypeId}{sz nn:Nat}{v:Value}{cs:List Value}{A:HP}(h:Vw (aB e sz v nn cs) v nn cs→J P f n R G S all rest k L (Sep [aB e sz v nn cs,A]::H)):J P f n R G S all rest k L (aB e sz v nn cs::A::H) :=
 ze fun w hw=>by
  obtain⟨h1,_,hA⟩:=hw.kQ (i:=0) rfl
  exact aG (ao.bP [_,_] _) (h (Vw.oD e sz v nn cs ⟨h1,hA⟩))
set_option maxRecDepth 20000 in
theorem Pz(A:HP)(hK:oe A)(v:Value)(b:List UInt8)(hv:eJ A v b)(hl:b.length≤900000000)(k:Int) :
  aD Tryz.prog 170 [v,.int .i64 k] [A] (fun r H=>r=(match eC b k with
   | none => .tuple #[eg Bl.zero,.int .i64 1]
   | some x => .tuple #[eg x,.int .i64 0])∧H=[A]):=by
 have oK:=hv
 obtain⟨a,c,rfl,hc⟩:=hv.2
 refine aD.enter Tryz.func170 ak rfl Tryz.ntmps170 zr zr ?_
 intro G F R hE
 refine aE rfl ?_
 refine aw zr zr zr bz ?_
 intro b4
 refine go ?_
 ((refine ai zr zr zr zr (HG A hK _ b hv hl k) ad ?_ bG))
 rintro _ _ (⟨hn,rfl,rfl⟩|⟨ls,rv,hs,rfl,rfl⟩)
 ·have hb:eC b k=none:=by unfold eC;rw[hn];rfl
  rw[hb]at hE
  refine go ?_
  (refine aS hE ?_;apply aQ (U:=aN) hE Tryz.func170 rfl (ao.refl _);(repeat(first|exact aI.nil|apply aI.tmp rfl|apply aI.agg 1 zr zr zr zr zr));exact⟨rfl,rfl⟩;exact ad)
 ·have hb:eC b k=some ⟨dM b,b.length,k,rl ls⟩:=by unfold eC;rw[hs];rfl
  rw[hb]at hE
  have vS:=kL hs
  ((refine aJ 0 rfl ?_))
  rintro ra rc rfl
  refine go ?_
  ((refine ai zr zr zr zr (wA A hK _ b hv ah) ad ?_ bG))
  rintro _ _⟨rfl,rfl⟩
  refine go ?_
  refine aG (ao.pick [1,0] rfl) ?_
  refine tV fun dK=>?_
  ((refine ai rfl rfl rfl rfl (O4 _ (hK.mono (aW (i:=1) rfl)) _ ls (dK.mono (aW (i:=0) rfl)) ah (by intro e;rw[e]at vS;simp at vS)) ad ?_ bG))
  rintro _ _⟨rfl,rfl⟩
  refine aG (ao.cB _ _) ?_
  refine go ?_
  (refine aS hE ?_;apply aQ (U:=aN) hE Tryz.func170 rfl (ao.refl _);(repeat(first|exact aI.nil|apply aI.tmp rfl|apply aI.agg 2 zr zr zr zr zr));exact⟨rfl,rfl⟩;exact ad)
theorem XJ(x:Bl):((bD x).drop 0).take 32=dC x.d:=rfl
theorem Rw(x:Bl):((bD x).drop 34).take 32=dC x.root:=rfl
theorem abp(x:Bl):(bD x).toArray[32]?=some (.int .i64 x.size):=rfl
theorem abo(x:Bl):(bD x).toArray[33]?=some (.int .i64 x.piece):=rfl
theorem XN : Tryz.prog.fieldsOf 37 = #[{ name := "Digest", type := 35, offset := 0, embedded := false, tag := "", pkgPath := "", byteOffset := 0 },
        { name := "Size", type:=3,offset:=32,embedded:=false,tag := "", pkgPath := "", byteOffset:=32 },
        { name := "Piece", type:=3,offset:=33,embedded:=false,tag := "", pkgPath := "", byteOffset:=40 },
        { name := "Root", type:=35,offset:=34,embedded:=false,tag := "", pkgPath := "", byteOffset:=48 }]:=by kernel_rfl
theorem XM:Tryz.prog.underlying 37=some (.struct (Tryz.prog.fieldsOf 37)):=by kernel_rfl
theorem Rx:Tryz.prog.stoodInHeld 37=false:=by kernel_rfl
theorem adq:Tryz.prog.cellsOf 35=32:=by kernel_rfl
theorem XK:Tryz.prog.cellsOf 5=1:=by kernel_rfl
theorem adp:Tryz.prog.plainKey 3=true:=by kernel_rfl
theorem Xy:Tryz.prog.eqGuardType Tryz.prog.depth 37=false:=by kernel_rfl
theorem abh{P : Program}(h1 : P.fieldsOf 37 = #[{ name := "Digest", type := 35, offset := 0, embedded := false, tag := "", pkgPath := "", byteOffset := 0 },
        { name := "Size", type:=3,offset:=32,embedded:=false,tag := "", pkgPath := "", byteOffset:=32 },
        { name := "Piece", type:=3,offset:=33,embedded:=false,tag := "", pkgPath := "", byteOffset:=40 },
        { name := "Root", type:=35,offset:=34,embedded:=false,tag := "", pkgPath := "", byteOffset:=48 }])(h2:P.underlying 37=some (.struct (P.fieldsOf 37)))(h3:P.stoodInHeld 37=false)(h4:P.cellsOf 35=32)(h5:P.cellsOf 5=1)(h6:P.plainKey 3=true)(h7:P.underlying 35=some (.array 32 5))(h8:P.underlying 5=some (.int .u8))(h9:P.underlying 3=some (.int .i64))(x y:Bl)(D:Nat)(w:World) :
    (Op.equalIn (D+2+1) 37 (eg x) (eg y)).run P w = .ok (decide (x=y)) w:=by
  unfold eg
  rw[run_equalIn_struct w (D+2) 37 _ _ h2 h3,h1]
  have h:=zw (P:=P) (td:=35) (ti:=3) (f1:={ name := "Digest", type:=35,offset:=0,embedded:=false,tag := "", pkgPath := "", byteOffset:=0 })
    (f2:={ name := "Size", type:=3,offset:=32,embedded:=false,tag := "", pkgPath := "", byteOffset:=32 }) (f3:={ name := "Piece", type:=3,offset:=33,embedded:=false,tag := "", pkgPath := "", byteOffset:=40 })
    (f4:={ name := "Root", type:=35,offset:=34,embedded:=false,tag := "", pkgPath := "", byteOffset:=48 }) (by decide) (by decide) (by decide) (by decide) (D+2) w (bD x) (bD y) x.d y.d x.root y.root x.size y.size x.piece y.piece
    (fun a b=>rW h7 h8 h5 a b D w) (fun a b=>JQ h9 a b (D+1) w) zr zr zr zr
    (wi h7 h4 _ 0 _ (XJ x) w) (wi h7 h4 _ 0 _ (XJ y) w) (Go.run_part_plain w h6 (abp x)) (Go.run_part_plain w h6 (abp y)) (Go.run_part_plain w h6 (abo x)) (Go.run_part_plain w h6 (abo y)) (wi h7 h4 _ 34 _ (Rw x) w) (wi h7 h4 _ 34 _ (Rw y) w)
  refine Eq.trans h ?_
  congr 1
  rw[decide_eq_decide]
  obtain⟨d1,s1,p1,r1⟩:=x
  obtain⟨d2,s2,p2,r2⟩:=y
  simp
theorem XC(x y:Bl)(w:World):(Op.equal 37 (eg x) (eg y)).run Tryz.prog w = .ok (decide (x=y)) w :=
 abh XN XM Rx adq XK adp Tryz.underlying35 Tryz.underlying5 Tryz.underlying3 x y 9997 w
set_option maxRecDepth 20000 in
theorem Ls(A:HP)(hK:oe A)(x:Bl)(v:Value)(b:List UInt8)(hv:eJ A v b)(hl:b.length≤900000000) :
  aD Tryz.prog 110 [eg x,v] [A] (fun r H=>r = .bool (dP x b)∧H=[A]):=by
 have oK:=hv
 obtain⟨a,c,rfl,hc⟩:=hv.2
 have iD:=Pz A hK _ b hv hl x.piece
 unfold eg at iD ⊢
 refine aD.enter Tryz.func110 ak rfl Tryz.ntmps110 zr zr ?_
 intro G F R hE
 refine aE rfl ?_
 refine bC zr zr bz ?_
 intro b2
 refine go ?_
 ((refine ai zr zr zr zr (iD) ad ?_ bG))
 rintro _ _⟨rfl,rfl⟩
 cases hb:eC b x.piece with
 | none =>
  have hw:dP x b=false:=by unfold dP;rw[hb];rfl
  rw[hw]at hE
  refine go ?_
  refine aw zr zr zr bz ?_
  intro b5
  refine go ?_
  ((refine ae hE Tryz.func110 rfl _ rfl ⟨rfl,rfl⟩ ad))
 | some y =>
  have hw:dP x b=decide (x=y):=by unfold dP;rw[hb];simp only[Option.some.injEq];rw[decide_eq_decide];exact eq_comm
  rw[hw]at hE
  simp only
  refine go ?_
  refine aw zr zr zr bz ?_
  intro b5
  refine go ?_
  (repeat(first|refine gO ?_|refine aH (U:=aN) (l:=bD x) 2 zr zr zr zr zr zr ?_|refine aH (U:=aN) (l:=bD y) 0 zr zr zr zr zr zr ?_|refine lx (b:=decide (x=y)) zr zr zr Xy (fun w=>XC x y w) ?_))
  ((refine ae hE Tryz.func110 rfl _ rfl ⟨rfl,rfl⟩ ad))
end Go.Proofs.YtedjnjkijiddlaaGreatDoor
namespace Go.Proofs.YtedjnjkijiddlaaGreatDoor
open Go Go.SL
attribute [local irreducible] J K aD Ends ag aB aM bN aZ aP aV bh bW
theorem mi{P:Program}{f:FuncId}{n:Nat}{R:Ending→World→Prop}{G:cC}{k:List Item}{L:fC}{H:List HP}{e:TypeId}{sz nn c:Nat}{a:Option Addr}{cs:List Value}(i:Nat)(hi:cq H i=some (aB e sz (.slice a nn c) nn cs))(h:nn≤c→K P f n R G k L H):K P f n R G k L H :=
 rN fun⟨w,hw⟩=>by
  obtain⟨h1,_,hA⟩:=hw.kQ hi
  exact h (H8 hA)
set_option maxRecDepth 20000 in
theorem mX(X:HP)(v:Value)(l:List It)(hv:ud X v l)(hl:l.length≤100)(hr:fk 0 (l.map It.p)=true)(hs:(ek (l.map It.p)).length≤65536) :
    aD Tryz.prog 157 [v] [X] (fun r H=>∃rv,r = .tuple #[rv,.int .i64 0]∧H=[aB 5 1 rv (ek (l.map It.p)).length (bV (ek (l.map It.p))),X]):=by
  obtain⟨dK,hvb⟩:=hv
  obtain⟨a,c,rfl⟩:=dK.shape
  refine aD.enter Tryz.func157 ak rfl Tryz.ntmps157 zr zr ?_
  intro G F R hE
  refine go ?_
  refine aj (bJ 5 1 none _) ?_
  refine bu (fun y:Nat × List UInt8 × Option Addr × Nat=>y.1≤l.length∧y.2.1=ek ((l.map It.p).take y.1)) (fun y=>l.length-y.1)
    (fun y=>[(4,.slice y.2.2.1 y.2.1.length y.2.2.2),(5,.int .i64 (nF (l.map It.p) y.1)),(8,.slice a l.length c),(9,.int .i64 (l.length:Int)),(10,.int .i64 (y.1:Int))])
    (fun y=>aB 5 1 (.slice y.2.2.1 y.2.1.length y.2.2.2) y.2.1.length (bV y.2.1)::X::F) (0,[],none,0) ⟨Nat.zero_le _,rfl⟩ rfl cu ad ?_
  rintro⟨i,acc,a1,c1⟩⟨hi,vW⟩ ih
  simp only at hi vW
  have Ov:=Aq (l.map It.p) i
  rw[← vW]at Ov
  refine go ?_
  refine au zr zr ?_ ?_
  case' refine_2 =>
    intro fq
    simp only at fq
    have hG:acc=ek (l.map It.p):=by rw[vW,List.take_of_length_le (by rw[List.length_map];omega)]
    subst hG
    refine go ?_
    ((refine ae hE Tryz.func157 rfl _ rfl ⟨_,rfl,rfl⟩ ad))
  intro cW
  simp only at cW
  have gw:i<l.length:=by omega
  obtain⟨x,hx⟩:∃x,l[i]?=some x:=⟨l[i],by simp⟩
  have PH:(l.map It.p)[i]?=some x.p:=by rw[List.getElem?_map,hx];rfl
  obtain⟨BQ,zt⟩:=MM _ 0 i x.p hr PH
  have BQ:nF (l.map It.p) i<x.n:=BQ
  have zt:x.n≤63:=zt
  have rf:=xV PH
  have vV:=hvb x (List.mem_of_getElem? hx)
  obtain⟨xn,xv,xb⟩:=x
  simp only at BQ zt vV
  have rf:nF (l.map It.p) (i+1)=xn:=rf
  obtain⟨xa,xc,rfl,hxc⟩:=vV.2
  have ht:ek ((l.map It.p).take (i+1))=acc++lR (xn,xb):=by
    rw[List.take_add_one,PH,Option.toList_some,Dt,← vW];simp[ek,It.p]
  have adi:=Aq (l.map It.p) (i+1)
  rw[ht,List.length_append]at adi
  have KJ:(lR (xn,xb)).length=1+(uv xb.length).length+xb.length:=by simp only[lR,List.length_cons,List.length_append];omega
  obtain⟨b,o,c',he⟩:=dK.some (by rw[← List.length_pos_iff,cH iY];omega)
  simp only[Value.slice.injEq,true_and]at he
  obtain⟨rfl,rfl⟩:=he
  refine go ?_
  refine cO i 2 zr zr zr zr zr zr zr zr gw ?_
  refine de (U:=aN) (es:=lB ⟨xn,.slice xa xb.length xc,xb⟩) 1 (i*2) zr zr zr dK rfl (fun j v hj=>?_) zr zr zr ?_
  · have wo:j<2:=by
      rcases Nat.lt_or_ge j 2 with h|h
      · exact h
      · rw[List.getElem?_eq_none (by rw[iY];exact h)]at hj;cases hj
    rw[cY iY hx j wo];exact hj
  refine aw zr zr zr bz ?_
  intro bd
  repeat'(first|(with_reducible intro qh)|refine gO ?_|refine iC zr zr zr zr ?_ ?_|refine au zr zr ?_ ?_)
  any_goals (exfalso;simp only at *;omega)
  rename_i h1 h2 h3
  simp only at h1 h2 h3
  obtain⟨xm,rfl⟩:∃m:Nat,xn=m:=⟨xn.toNat,by
    have:0<xn:=ML _ 0 hr (Int.le_refl _) _ (List.mem_of_getElem? PH)
    omega⟩
  refine go ?_
  refine aF (fun w=>Sat G w ([X,ag bd (cl [.int .i64 (xm:Int),.slice xa xb.length xc] 207)])) (.st 0 (.st 1 (.st 2 (.st 5 (.st 6 (.st 7 (.st 8 (.st 11 (.st 12 (.act 3 (.act 4 (.act 9 (.act 10 (.act 13 (.st 14 .nil))))))))))))))) rfl ak ak ak ei ?_
  refine Fh (U:=aN) rfl ?_
  refine eG ?_
  refine iN zr zr zr zr zr zr ?_
  ((refine az 36 ((u8 (UInt8.ofNat xm))) rfl ((lq xm)) ?_))
  refine go ?_
  refine al (cs:=bV [UInt8.ofNat xm]) zr zr zr zr zr zr zr zr zr (fun _ w hw=>hw.cy ad) ?_
  intro row
  refine go ?_
  refine aO (mm:=1) (news:=bV [UInt8.ofNat xm]) 2 0 zr zr zr zr zr zr zr zr zr zr zr zr (Vw.ag rfl) rfl (cR _) (by simp only;omega) (by show(_+_)*1≤_;simp only;omega) (fun _=>rfl) (fun _ w hw=>hw.cy ad) ?_
  intro v1
  simp only
  rw[show bV acc++bV [UInt8.ofNat xm]=bV (acc++[UInt8.ofNat xm])from by simp[bV],show acc.length+1=(acc++[UInt8.ofNat xm]).length from by simp]
  ((refine aJ 2 rfl ?_))
  rintro a2 c2 rfl
  refine go ?_
  ((refine ai rfl rfl rfl rfl (l9 xb.length ah) ad ?_ (fun _ _ w hp hw=>by obtain rfl:=hp;exact hw.cy ad)))
  rintro r _ rfl
  ((refine aJ 0 rfl ?_))
  rintro ra rc rfl
  refine iL 0 rfl ?_
  intro L8
  refine go ?_
  refine aO (mm:=(uv xb.length).length) (news:=bV (uv xb.length)) 3 0 zr zr zr zr zr zr zr zr zr zr zr zr L8 (by show _=_*1;rw[bt];omega) (cR _) (by simp only[List.length_append,List.length_singleton];omega) (by show(_+_)*1≤_;simp only[List.length_append,List.length_singleton];omega) (fun _=>rfl) (fun _ w hw=>hw.cy ad) ?_
  intro v2
  rw[show bV (acc++[UInt8.ofNat xm])++bV (uv xb.length)=bV (acc++[UInt8.ofNat xm]++uv xb.length)from by simp[bV],show(acc++[UInt8.ofNat xm]).length+(uv xb.length).length=(acc++[UInt8.ofNat xm]++uv xb.length).length from by simp;omega]
  ((refine aJ 3 rfl ?_))
  rintro a3 c3 rfl
  refine go ?_
  refine aO (mm:=xb.length) (news:=bV xb) 3 4 zr zr zr zr zr zr zr zr zr zr zr zr vV.1 (by show _=_*1;rw[bt];omega) (cR _) (by simp only[List.length_append,List.length_singleton];omega) (by show(_+_)*1≤_;simp only[List.length_append,List.length_singleton];omega) (fun _=>rfl) (fun _ w hw=>hw.cy ad) ?_
  intro v3
  rw[show bV (acc++[UInt8.ofNat xm]++uv xb.length)++bV xb=bV (acc++lR (xm,xb))from by simp[bV,lR],show(acc++[UInt8.ofNat xm]++uv xb.length).length+xb.length=(acc++lR (xm,xb)).length from by simp[lR];omega]
  ((refine aJ 3 rfl ?_))
  rintro a4 c4 rfl
  refine go ?_
  refine au zr zr ?_ ?_
  · intro uK;exfalso;simp only[List.length_append]at uK;omega
  intro _
  refine go ?_
  ((refine bB 5 ((.int .i64 (nF (l.map It.p) (i+1)))) rfl ((congrArg (Value.int .i64) rf.symm)) ?_))
  refine aL ih (i+1,acc++lR (xm,xb),a4,c4) rfl ⟨by simp only;omega,by simp only;rw[ht]⟩ (by simp only;omega) cu ad
theorem Ko(v:Value)(h1:∃a n c,v = .slice a n c):aD Tryz.prog 219 [v] [] (fun r H=>∃b,r = .func (.func 241) #[] #[ptr b]∧H=[ag b (cl [v] 22)]):=by
 obtain⟨a,n,c,rfl⟩:=h1
 refine aD.enter Tryz.func219 ak rfl Tryz.ntmps219 zr zr ?_
 intro G F R hE
 refine go ?_
 refine bC zr zr bz ?_
 intro b
 refine go ?_
 ((refine ae hE Tryz.func219 rfl _ rfl ⟨b,rfl,rfl⟩ ad))
set_option maxRecDepth 20000 in
theorem GL(A:HP)(bx:Nat)(v:Value)(bs:List UInt8)(hv:eJ A v bs)(hl:bs.length≤1000000000)(l:Nat)(Lp LpD abG:HP)(Inv:Nat→HP)(uL:Nat→Bool)(hy:∀i x,(eQ bs)[i]?=some x→(∀j,j<i→uL j=true)→∀r,(∃a n c,r = .slice a n c)→bW Tryz.prog l [.agg #[.int .i64 x.1,r] ] [Lp,Inv i,aB 5 1 r x.2.length (bV x.2)]
      (fun v H=>(uL i=true∧v = .bool true∧H=[Lp,Inv (i+1)])∨(uL i=false∧v = .bool false∧H=[LpD,abG]))) :
    aD Tryz.prog 241 [.func (.yield l) #[] #[],ptr bx] [Lp,Inv 0,ag bx (cl [v] 22),A]
      (fun _ H=>((∀i,i<(eQ bs).length→uL i=true)∧H=[Lp,Inv (eQ bs).length,A])∨((∃i,i<(eQ bs).length∧uL i=false)∧H=[LpD,abG,A])):=by
  refine aD.enter Tryz.func241 ak rfl Tryz.ntmps241 zr zr ?_
  intro G F R hE
  refine bu (fun y:Value × List UInt8 × Nat=>eJ A y.1 y.2.1∧y.2.1.length≤bs.length∧(eQ bs).drop y.2.2=eQ y.2.1∧y.2.2≤(eQ bs).length∧∀j,j<y.2.2→uL j=true) (fun y=>y.2.1.length)
    (fun _=>[(0,.func (.yield l) #[] #[]),(1,ptr bx)])
    (fun y=>Lp::Inv y.2.2::ag bx (cl [y.1] 22)::A::F) (v,bs,0) ⟨hv,Nat.le_refl _,by simp,Nat.zero_le _,fun j hj=>absurd hj (Nat.not_lt_zero j)⟩ rfl cu ad ?_
  rintro⟨v1,rest,i⟩⟨lS,BQ,zt,Yc,Q1⟩ ih
  simp only at lS BQ zt Yc Q1
  obtain⟨a,c,rfl,hc⟩:=lS.2
  refine go ?_
  match rest,zt,lS,BQ,hc,ih with
  | [],zt,lS,BQ,hc,ih =>
    have lV:i=(eQ bs).length:=by
      rw[wX]at zt
      have:(eQ bs).length≤i:=by simpa using zt
      omega
    subst lV
    refine go ?_
    ((refine bS hE Tryz.func241 rfl _ rfl (.inl ⟨Q1,rfl⟩) ad))
  | c0::rst,zt,lS,BQ,hc,ih =>
    have ll:=lS.cut 1 (by simp)
    rw[List.drop_succ_cons,List.drop_zero]at ll
    ((refine bB 8 ((.bool true)) rfl ((congrArg Value.bool (decide_eq_true (by simp only[List.length_cons];omega)))) ?_))
    refine go ?_
    refine bj (p:=1) (q:=((c0::rst).length:Int)) zr zr zr zr zr zr zr ah (by simp only[List.length_cons];omega) (.inl rfl) ?_
    ((refine az 11 ((.slice (sliceAt a c 1 1) rst.length (c-1))) rfl ((by rw[show((c0::rst).length:Int).toNat=rst.length+1 from by simp[List.length_cons],show(1:Int).toNat=1 from rfl,show rst.length+1-1=rst.length by omega];rfl)) ?_))
    ((refine ai zr zr zr zr (I5 A _ rst ll.1 ll.2 (by simp only[List.length_cons]at BQ;omega)) ad ?_ bG))
    rintro _ _⟨rv,rfl,PM,rfl⟩
    have PM:eJ A rv (dg rst).2.1:=PM
    have ln:=qc rst
    have D5:rst.length<1000000000:=by simp only[List.length_cons]at BQ;omega
    have Ed:∀x,eQ (c0::rst)=x::eQ ((dg rst).2.1.drop (dg rst).1)∨eQ (c0::rst)=[x]→(eQ bs)[i]?=some x:=by
      intro x hx
      have:=congrArg (fun l=>l[0]?) zt
      simp only[List.getElem?_drop,Nat.add_zero]at this
      rw[this]
      rcases hx with h|h <;> rw[h] <;> rfl
    obtain⟨ra,rc,rfl,NV⟩:=PM.2
    by_cases lC:(dg rst).2.2=true∧(dg rst).1≤(dg rst).2.1.length
    · have yo:=Ad (c:=c0) lC
      have hx:=Ed _ (.inl yo)
      rw[lC.1]
      have wu:=PM.front (dg rst).1 lC.2
      have zv:=PM.cut (dg rst).1 lC.2
      have kY:=(List.getElem?_eq_some_iff.1 hx).1
      refine go ?_
      refine au zr zr ?_ ?_
      · intro uK;exfalso;omega
      intro _
      have kX:0<(c0::rst).length:=by simp only[List.length_cons];omega
      obtain⟨ba,oa,ca,gb⟩:=OS lS.1 kX
      simp only[Value.slice.injEq,true_and]at gb
      obtain⟨rfl,rfl⟩:=gb
      obtain⟨n,hn⟩:∃n,n=(dg rst).1:=⟨_,rfl⟩
      have PJ:((dg rst).2.1.take n).length=n:=by rw[hn,List.length_take];omega
      rw[← hn]at wu zv yo hx lC ⊢
      have Sn:c0.toNat<256:=c0.toNat_lt
      have D9:=lC.2
      have adD:rst.length+1≤bs.length:=BQ
      refine aF (fun w=>Sat G w ([A,ag bx (cl [.slice (some ⟨ba,oa,none⟩) (c0::rst).length c] 22)])) (.st 0 (.st 1 (.st 2 (.st 3 (.st 4 (.st 5 (.st 6 (.st 7 (.act 8 (.st 9 (.act 10 (.st 11 .nil)))))))))))) rfl ak ak ak ei ?_
      refine go ?_
      refine bK 0 zr zr zr zr zr zr zr zr kX ?_
      refine go ?_
      refine aK ?_
      refine cJ 0 0 zr zr zr lS.1 rfl (show(bV (c0::rst))[0]?=some (u8 c0)from rfl) zr zr ?_
      refine go ?_
      refine bj (p:=0) (q:=(n:Int)) zr zr zr zr zr zr zr ah ah (.inr ah) ?_
      ((refine az 35 ((.slice (sliceAt ra rc 0 1) ((dg rst).2.1.take n).length rc)) rfl ((by rw[PJ,show((n:Int)).toNat=n from by omega];rfl)) ?_))
      have wu:eJ A (.slice (sliceAt ra rc 0 1) ((dg rst).2.1.take n).length rc) ((dg rst).2.1.take n):=by rw[PJ];exact wu
      ((refine ai rfl rfl rfl rfl (kT A _ ((dg rst).2.1.take n) wu.1 ah) ad ?_ (fun _ _ w hp hw=>by obtain rfl:=hp;exact hw.cy ad)))
      rintro r _ rfl
      ((refine aJ 0 rfl ?_))
      rintro rr rrc rfl
      refine go ?_
      refine kE rfl rfl rfl (hy i _ hx Q1 (.slice rr ((dg rst).2.1.take n).length rrc) ⟨_,_,_,rfl⟩) ad ?_ (fun _ _ w hp hw=>by rcases hp with⟨_,_,rfl⟩|⟨_,_,rfl⟩ <;> exact hw.cy ad)
      rintro _ _ (⟨hg,rfl,rfl⟩|⟨hg,rfl,rfl⟩)
      · refine go ?_
        refine bj (p:=(n:Int)) (q:=((dg rst).2.1.length:Int)) zr zr zr zr zr zr zr ah ah (.inl rfl) ?_
        ((refine az 42 ((.slice (sliceAt ra rc n 1) ((dg rst).2.1.length-n) (rc-n))) rfl ((by rw[show((n:Int)).toNat=n from by omega,show(((dg rst).2.1.length:Int)).toNat=(dg rst).2.1.length from by omega];rfl)) ?_))
        refine go ?_
        have ph:(eQ bs).drop (i+1)=eQ ((dg rst).2.1.drop n):=by
          have:=congrArg (fun l=>l.drop 1) zt
          simp only[yo,List.drop_drop]at this
          simpa using this
        refine aL ih (.slice (sliceAt ra rc n 1) ((dg rst).2.1.length-n) (rc-n),(dg rst).2.1.drop n,i+1) rfl (⟨zv,by simp only[List.length_drop];omega,ph,by simp only;omega,fun j hj=>by
          rcases Nat.lt_or_ge j i with h|h
          · exact Q1 j h
          · rw[show j=i by simp only at hj;omega];exact hg⟩) (by simp only[List.length_drop,List.length_cons];omega) cu ad
      · refine go ?_
        ((refine ae hE Tryz.func241 rfl _ rfl (.inr ⟨⟨i,kY,hg⟩,rfl⟩) ad))
    · have lp:=CX (c:=c0) lC
      have hx:=Ed _ (.inr lp)
      cases acA:(dg rst).2.2 with
      | false =>
        refine go ?_
        refine aG (bJ 5 1 none _) ?_
        refine kE zr zr zr (hy i (0,[]) hx Q1 (.slice none 0 0) ⟨_,_,_,rfl⟩) ad ?_ bG
        rintro _ _ (⟨hg,rfl,rfl⟩|⟨hg,rfl,rfl⟩)
        · refine go ?_
          have lV:i+1=(eQ bs).length:=by
            have:=congrArg List.length zt
            rw[lp,List.length_drop]at this
            simp only[List.length_singleton]at this
            omega
          rw[lV]
          have eZ:∀j,j<(eQ bs).length→uL j=true:=fun j hj=>by
            rcases Nat.lt_or_ge j i with h|h
            · exact Q1 j h
            · rw[show j=i by omega];exact hg
          ((refine ae hE Tryz.func241 rfl _ rfl (.inl ⟨eZ,rfl⟩) ad))
        · refine go ?_
          have kY:=(List.getElem?_eq_some_iff.1 hx).1
          ((refine ae hE Tryz.func241 rfl _ rfl (.inr ⟨⟨i,kY,hg⟩,rfl⟩) ad))
      | true =>
        have PV:¬(dg rst).1≤(dg rst).2.1.length:=fun h=>lC ⟨acA,h⟩
        refine go ?_
        refine au zr zr ?_ ?_
        case' refine_2=>(intro h;exfalso;omega)
        intro _
        refine go ?_
        refine aG (bJ 5 1 none _) ?_
        refine kE zr zr zr (hy i (0,[]) hx Q1 (.slice none 0 0) ⟨_,_,_,rfl⟩) ad ?_ bG
        rintro _ _ (⟨hg,rfl,rfl⟩|⟨hg,rfl,rfl⟩)
        · refine go ?_
          have lV:i+1=(eQ bs).length:=by
            have:=congrArg List.length zt
            rw[lp,List.length_drop]at this
            simp only[List.length_singleton]at this
            omega
          rw[lV]
          have eZ:∀j,j<(eQ bs).length→uL j=true:=fun j hj=>by
            rcases Nat.lt_or_ge j i with h|h
            · exact Q1 j h
            · rw[show j=i by omega];exact hg
          ((refine ae hE Tryz.func241 rfl _ rfl (.inl ⟨eZ,rfl⟩) ad))
        · refine go ?_
          have kY:=(List.getElem?_eq_some_iff.1 hx).1
          ((refine ae hE Tryz.func241 rfl _ rfl (.inr ⟨⟨i,kY,hg⟩,rfl⟩) ad))
end Go.Proofs.YtedjnjkijiddlaaGreatDoor
namespace Go.Proofs.YtedjnjkijiddlaaGreatDoor
open Go Go.SL
def DI(b2 b3 b4 b5:Nat)(xs:List (Int × List UInt8))(i:Nat):HP:=fun h=>∃x:List It × HP × Value,(x.1.map It.p=xs.take i∧∀y∈x.1,eJ x.2.1 y.v y.b) ∧
 Sep [ag b2 (cl [.slice none 0 0] 208),ag b3 (cl [.int .i64 0] 25),ag b4 (cl [x.2.2] 208),ag b5 (cl [.int .i64 (nF xs i)] 3),aB 207 2 x.2.2 x.1.length (x.1.flatMap lB),x.2.1] h
theorem Jw(b2 b3 b4 b5:Nat)(xs:List (Int × List UInt8))(i:Nat):∀h,DI b2 b3 b4 b5 xs i h→∃x:List It × HP × Value,(x.1.map It.p=xs.take i∧∀y∈x.1,eJ x.2.1 y.v y.b) ∧
 Sep [ag b2 (cl [.slice none 0 0] 208),ag b3 (cl [.int .i64 0] 25),ag b4 (cl [x.2.2] 208),ag b5 (cl [.int .i64 (nF xs i)] 3),aB 207 2 x.2.2 x.1.length (x.1.flatMap lB),x.2.1] h:=fun h hs=>hs
theorem Fj(b2 b3 b4 b5:Nat)(xs:List (Int × List UInt8))(i:Nat)(fA:List It)(Z:HP)(v:Value)(h1:fA.map It.p=xs.take i)(h2:∀y∈fA,eJ Z y.v y.b)(H:List HP) :
  ao (ag b2 (cl [.slice none 0 0] 208)::ag b3 (cl [.int .i64 0] 25)::ag b4 (cl [v] 208)::ag b5 (cl [.int .i64 (nF xs i)] 3)::aB 207 2 v fA.length (fA.flatMap lB)::Z::H) (DI b2 b3 b4 b5 xs i::H) :=
 ao.fold (A:=DI b2 b3 b4 b5 xs i) (B:=[ag b2 (cl [.slice none 0 0] 208),ag b3 (cl [.int .i64 0] 25),ag b4 (cl [v] 208),ag b5 (cl [.int .i64 (nF xs i)] 3),aB 207 2 v fA.length (fA.flatMap lB),Z]) fun h hs=>⟨h,sub.refl h,(fA,Z,v),⟨h1,h2⟩,hs⟩
def DE(b2 b3:Nat):HP:=Sep [ag b2 (cl [.slice none 0 0] 208),ag b3 (cl [.int .i64 2] 25)]
theorem Fk(b2 b3:Nat)(H:List HP):ao (ag b2 (cl [.slice none 0 0] 208)::ag b3 (cl [.int .i64 2] 25)::H) (DE b2 b3::H):=ao.bP [ag b2 (cl [.slice none 0 0] 208),ag b3 (cl [.int .i64 2] 25)] H
theorem RN(b2 b3:Nat)(H:List HP):ao (DE b2 b3::H) (ag b2 (cl [.slice none 0 0] 208)::ag b3 (cl [.int .i64 2] 25)::H):=ao.cB [ag b2 (cl [.slice none 0 0] 208),ag b3 (cl [.int .i64 2] 25)] H
attribute [local irreducible] J K aD Ends ag aB aM bN aZ aP aV bh bW DI DE
set_option maxRecDepth 20000 in
theorem mY(A:HP)(v:Value)(bs:List UInt8)(hv:eJ A v bs)(hl:bs.length≤1000000000) :
  aD Tryz.prog 198 [v] [A] (fun r H=>(pg bs=none∧r = .tuple #[.slice none 0 0,.int .i64 2]∧H=[A])∨(∃(xs:List (Int × List UInt8)) (fA:List It) (Z:HP) (rv:Value),pg bs=some xs∧fA.map It.p=xs∧ud Z rv fA∧r = .tuple #[rv,.int .i64 0]∧H=[Z,A]∧∃ra rc,rv = .slice ra fA.length rc∧fA.length≤rc)):=by
 obtain⟨a,c,rfl,hc⟩:=hv.2
 have tr:pg bs=if 65536<bs.length then none else if fk 0 (eQ bs)then some (eQ bs)else none:=rfl
 refine aD.enter Tryz.func198 ak rfl Tryz.ntmps198 zr zr ?_
 intro G F R hE
 refine aE rfl ?_
 refine aw zr zr zr bz ?_
 intro b2
 refine aw zr zr zr bz ?_
 intro b3
 refine go ?_
 refine au zr zr ?_ ?_
 ·intro uK
  have uK:65536<bs.length:=by omega
  rw[if_pos uK]at tr
  refine go ?_
  refine aS hE ?_
  refine sB (U:=aN) 1 0 hE Tryz.func198 zr zr zr zr zr zr zr zr (ao.refl _) zr zr (.inl ⟨tr,rfl,rfl⟩) ad
 intro zE
 have zE:¬65536<bs.length:=by omega
 rw[if_neg zE]at tr
 refine go ?_
 refine aw zr zr zr bz ?_
 intro b4
 refine go ?_
 refine aw zr zr zr bz ?_
 intro b5
 refine go ?_
 ((refine ai zr zr zr zr (Ko _ ⟨a,_,c,rfl⟩) ad ?_ bG))
 rintro _ _⟨bx,rfl,rfl⟩
 refine go ?_
 refine iR rfl ?_
 refine aj (ao.trans (ao.bP [] _) (ao.trans (bJ 207 2 none _) (ao.trans ad (Fj b2 b3 b4 b5 (eQ bs) 0 [] (Sep []) (.slice none 0 0) rfl (by simp) (ag bx (cl [.slice a bs.length c] 22)::A::F))))) ?_
 refine qm (Fr:=F) (Pre:=fun _ _=>[DI b2 b3 b4 b5 (eQ bs) 0,ag bx (cl [.slice a bs.length c] 22),A]) (fun _ _ Lp v H=>((∀i,i<(eQ bs).length→tB (eQ bs) i=true)∧H=[Lp .ready none,DI b2 b3 b4 b5 (eQ bs) (eQ bs).length,A])∨((∃i,i<(eQ bs).length∧tB (eQ bs) i=false)∧H=[Lp .done (some .ret),DE b2 b3,A])) rfl hE.1.1 rfl ?c (fun l r=>ad) ?hG
 case c =>
  intro l r
  refine aD.pre (GL A bx _ bs hv hl l _ _ (DE b2 b3) (DI b2 b3 b4 b5 (eQ bs)) (tB (eQ bs)) ?hy) ad
  case hy =>
   intro i x hx Q1 rv PM
   obtain⟨va,vn,vc,rfl⟩:=PM
   refine bW.DG zr zr ?_
   intro G2 F2 R2 hY
   refine aE rfl ?_
   refine aw zr zr zr bz ?_
   intro b6
   refine go ?_
   refine aj (ao.pick [1] rfl) ?_
   refine fV rfl hY ?_
   refine aj (ao.pick [2] rfl) ?_
   refine eE (Jw b2 b3 b4 b5 (eQ bs) i) ?_
   rintro⟨fA,Z,vi⟩⟨po,vB⟩
   simp only at po vB
   have Sh:=yv hx
   obtain⟨xn,xb⟩:=x
   simp only at Sh
   have vS:=xV hx
   refine dv 4 rfl ?_
   intro ia ic Wm
   simp only at Wm
   subst Wm
   simp only
   refine aj (ao.pick [7,0,1,2,3] rfl) ?_
   repeat'(first|(with_reducible intro qh)|refine gO ?_|refine iC zr zr zr zr ?_ ?_|refine au zr zr ?_ ?_)
   ·have lp:tB (eQ bs) i=false:=by rw[Sh,decide_eq_false ah,Bool.false_and]
    refine aj (ao.trans (ao.pick [1,2] rfl) (Fk b2 b3 _)) ?_
    refine zb hY rfl ad (.inr ⟨lp,rfl,rfl⟩)
   ·have lp:tB (eQ bs) i=false:=by rw[Sh,decide_eq_false (show ¬xn≤63 by omega),Bool.and_false]
    refine aj (ao.trans (ao.pick [1,2] rfl) (Fk b2 b3 _)) ?_
    refine zb hY rfl ad (.inr ⟨lp,rfl,rfl⟩)
   ·rename_i h1
    have mN:tB (eQ bs) i=true:=by rw[Sh,decide_eq_true ah,decide_eq_true ah];rfl
    refine aT ?_
    refine bZ 4 gE zr zr zr zr zr zr zr zr zr ?_
    refine go ?_
    refine dw 0 zr zr zr zr zr zr ?_
    refine go ?_
    refine gB (bs:=xb) 8 rfl ?_
    intro vV
    obtain⟨_,_,hvx,hxc⟩:=vV.2
    simp only[Value.slice.injEq,true_and]at hvx
    obtain⟨-,rfl,rfl⟩:=hvx
    have kY:=(List.getElem?_eq_some_iff.1 hx).1
    have PJ:=sM bs.length bs (Nat.le_refl _)
    have aaM:fA.length=i:=by
     have:=congrArg List.length po
     rw[List.length_map,List.length_take]at this
     omega
    refine al (cs:=lB ⟨xn,.slice va xb.length vc,xb⟩) zr zr zr zr zr zr zr zr zr bz ?_
    intro row
    refine go ?_
    refine aO (mm:=1) (news:=lB ⟨xn,.slice va xb.length vc,xb⟩) 6 0 rfl rfl rfl rfl rfl rfl rfl rfl rfl rfl rfl rfl (Vw.ag rfl) rfl (by intro v hv;simp[lB]at hv;rcases hv with rfl|rfl <;> rfl) ah (by show(_+_)*32≤_;omega) (fun _=>rfl) bz ?_
    intro v1
    rw[show fA.flatMap lB++lB (⟨xn,.slice va xb.length vc,xb⟩:It)=(fA++[(⟨xn,.slice va xb.length vc,xb⟩:It)]).flatMap lB from by simp,show fA.length+1=(fA++[(⟨xn,.slice va xb.length vc,xb⟩:It)]).length from by simp]
    ((refine aJ 6 rfl ?_))
    rintro ja jc rfl
    refine go ?_
    refine aT ?_
    refine bZ 4 gE zr zr zr zr zr zr zr zr zr ?_
    refine go ?_
    have acL:nF (eQ bs) (i+1)=xn:=vS
    have Oe:(fA++[(⟨xn,.slice va xb.length vc,xb⟩:It)]).map It.p=(eQ bs).take (i+1):=by
     rw[List.map_append,po,List.take_add_one,hx];rfl
    have ln:=Fj b2 b3 b4 b5 (eQ bs) (i+1) (fA++[(⟨xn,.slice va xb.length vc,xb⟩:It)]) (Sep [aB 5 1 (.slice va xb.length vc) xb.length (bV xb),Z]) (.slice ja (fA++[(⟨xn,.slice va xb.length vc,xb⟩:It)]).length jc) Oe (fun y hy=>by
     rcases List.mem_append.1 hy with h|h
     ·exact(vB y h).mono (aW (i:=1) rfl)
     ·rw[List.mem_singleton.1 h];exact vV.mono (aW (i:=0) rfl))
    rw[acL]at ln
    refine aj (ao.trans (ao.pick [9,7] rfl) (ao.trans (ao.bP [_,_] _) (ao.trans ad (ln _)))) ?_
    refine fu hY rfl ad (.inl ⟨mN,rfl,rfl⟩)
 rintro l r v H' (⟨eZ,rfl⟩|⟨⟨i,hi,lp⟩,rfl⟩)
 ·refine⟨_,_,_,rfl,by decide,?_⟩
  have hr:fk 0 (eQ bs)=true:=(Ao _).2 eZ
  rw[if_pos hr]at tr
  rw[hE.1.2]
  refine eE (Jw b2 b3 b4 b5 (eQ bs) _) ?_
  rintro⟨fA,Z,vi⟩⟨po,vB⟩
  simp only at po vB
  rw[List.take_length]at po
  refine dv 4 rfl ?_
  intro ia ic Wm
  simp only at Wm
  subst Wm
  simp only
  refine mi 4 rfl ?_
  intro jl
  refine dB 4 rfl ?_
  intro dK
  have FH:ud (Sep [aB 207 2 (.slice ia fA.length ic) fA.length (fA.flatMap lB),Z]) (.slice ia fA.length ic) fA:=⟨dK.mono (aW (i:=0) rfl),fun y hy=>(vB y hy).mono (aW (i:=1) rfl)⟩
  refine go ?_
  refine aj (ao.trans (ao.pick [4,5] rfl) (ao.bP [aB 207 2 (.slice ia fA.length ic) fA.length (fA.flatMap lB),Z] _)) ?_
  refine sB (U:=aN) 1 2 hE Tryz.func198 zr zr zr zr zr zr zr zr ad zr zr (.inr ⟨eQ bs,fA,_,_,tr,po,FH,rfl,rfl,_,_,rfl,jl⟩) ad
 ·refine⟨_,_,_,rfl,by decide,?_⟩
  have hr:¬fk 0 (eQ bs)=true:=fun h=>by rw[(Ao _).1 h i hi]at lp;cases lp
  rw[if_neg hr]at tr
  rw[hE.1.2]
  refine aj (RN b2 b3 _) ?_
  refine sB (U:=aN) 0 1 hE Tryz.func198 zr zr zr zr zr zr zr zr ad zr zr (.inl ⟨tr,rfl,rfl⟩) ad
end Go.Proofs.YtedjnjkijiddlaaGreatDoor
namespace Go.Proofs.YtedjnjkijiddlaaGreatDoor
open Go Go.SL
attribute [local irreducible] J K aD Ends ag aB aM bN aZ aP aV bh bW Sha.chunks Sha.chunk Sha.rounds Sha.sched dM ct GI cU
theorem QE:mh Tryz.prog 35 dV:=aaa Tryz.underlying35 Tryz.underlying5 XK
def PC(l:List Dg):List (Dg × Value):=l.map fun d=>(d,.bool true)
theorem Mw(l:List Dg)(d:Dg):(eh (PC l) d).getD (.bool false) = .bool (decide (d∈l)):=by
 induction l with
 | nil=>simp[PC,eh]
 | cons x l ih =>
  simp only[PC,eh,List.map_cons,List.find?_cons]at ih ⊢
  by_cases h:x=d
  ·simp[h]
  ·have h2:¬d=x:=fun e=>h e.symm
   simp only[h,decide_false]
   rw[ih];simp[h2]
theorem Qa{l:List Dg}{d:Dg}(h:d ∉ l):nk (PC l) d (.bool true)=PC (l++[d]):=by
 unfold nk
 have:d ∉ (PC l).map (·.1):=by simpa[PC]using h
 rw[if_neg this];simp[PC]
theorem Aa(l:List Bl):pw l=false↔(l.map Bl.d).Nodup:=by
 induction l with
 | nil=>simp[pw]
 | cons x l ih =>
  simp only[pw,Bool.or_eq_false_iff,ih,List.map_cons,List.nodup_cons]
  constructor
  ·rintro⟨h1,h2⟩
   refine⟨fun h=>?_,h2⟩
   obtain⟨y,hy,he⟩:=List.mem_map.1 h
   have:=List.any_eq_false.1 h1 y hy
   exact this (by simpa using he)
  ·rintro⟨h1,h2⟩
   refine⟨List.any_eq_false.2 fun y hy he=>h1 (List.mem_map.2 ⟨y,hy,by simpa using he⟩),h2⟩
theorem Je(l:List Bl):∀v∈l.flatMap bD,v.oneCell'=true:=by
 intro v hv
 obtain⟨x,_,h⟩:=List.mem_flatMap.1 hv
 simp only[bD,List.mem_append,List.mem_cons,List.not_mem_nil,or_false]at h
 rcases h with(h|rfl|rfl)|h
 ·rw[dG]at h;exact cR _ v h
 ·rfl
 ·rfl
 ·rw[dG]at h;exact cR _ v h
theorem blE{l:List Bl}{i:Nat}{x:Bl}(hx:l[i]?=some x)(q:Nat)(v:Value)(hq:(bD x)[q]?=some v):(l.flatMap bD)[i*66+q]?=some v:=by
 rw[cY Cc hx q (by rcases Nat.lt_or_ge q 66 with h|h;exact h;rw[List.getElem?_eq_none (by rw[Cc];exact h)]at hq;cases hq)]
 exact hq
theorem XL{l:List Bl}{i:Nat}(h:i<l.length):l.flatMap bD≠[]:=by
 rw[← List.length_pos_iff,cH Cc];omega
theorem Cy(A X:HP)(v:Value)(l:List Bl)(hv:Vw A v l.length (l.flatMap bD))(hlen:l.length≤1000000)(g:FuncId)(cap:List Value)(p:Bl→Bool)(hf:∀x∈l,aD Tryz.prog g (eg x::cap) [X] (fun v H=>v = .bool (p x)∧H=[X])) :
  aD Tryz.prog 186 [v,.func (.func g) #[] cap.toArray] [A,X] (fun r H=>r = .int .i64 (kj p l)∧H=[A,X]):=by
 obtain⟨a,c0,rfl⟩:=hv.shape
 unfold eg at hf
 refine aD.enter Tryz.func186 ak rfl Tryz.ntmps186 zr zr ?_
 intro G F R hR
 refine go ?_
 refine bu (fun i:Nat=>i≤l.length∧∀y∈l.take i,p y=false) (fun i=>l.length-i) (fun i=>[(0,.slice a l.length c0),(1,.func (.func g) #[] cap.toArray),(7,.int .i64 l.length),(8,.int .i64 i)]) (fun _=>[A,X]++F) 0 ⟨by simp,by simp⟩ rfl cu (ao.refl _) ?_
 rintro i⟨hi,hb⟩ ih
 refine go ?_
 refine au zr zr ?_ ?_
 ·intro cW
  refine go ?_
  have gw:i<l.length:=by omega
  have hx:l[i]?=some l[i]:=by simp[gw]
  generalize hxx:l[i]=x at hx
  obtain⟨b,o,gD,gb⟩:=hv.some (XL gw)
  simp only[Value.slice.injEq]at gb
  obtain⟨rfl,_,rfl⟩:=gb
  refine cO i 66 zr zr zr zr zr zr zr zr gw ?_
  refine de (U:=aN) (es:=bD x) 0 (i*66) zr zr zr hv rfl (blE hx) zr zr zr ?_
  refine cp [1] zr zr zr zr (hf x (List.mem_of_getElem? hx)) rfl bG ?_
  rintro _ _⟨rfl,rfl⟩
  refine go ?_
  refine fD zr zr ?_ ?_
  ·intro hp
   refine go ?_
   refine ae hR Tryz.func186 rfl _ rfl ⟨by rw[nH hx hp hb];rfl,rfl⟩ (ao.fin [1,0] 0 zr zr)
  ·intro hp
   refine go ?_
   refine aL ih (i+1) rfl ⟨ah,tM hb hx hp⟩ ah cu (ao.pick [1,0] rfl)
 ·intro fq
  refine go ?_
  have:i=l.length:=by omega
  subst this
  refine ae hR Tryz.func186 rfl _ rfl ⟨by rw[qK (fun x hx=>hb x (by simpa using hx))];rfl,rfl⟩ (ao.fin [0,1] 0 zr zr)
theorem pb(A X:HP)(v:Value)(l:List Bl)(hv:Vw A v l.length (l.flatMap bD))(hlen:l.length≤1000000)(g:FuncId)(cap:List Value)(p:Bl→Bool)(hf:∀x∈l,aD Tryz.prog g (eg x::cap) [X] (fun v H=>v = .bool (p x)∧H=[X])) :
  aD Tryz.prog 127 [v,.func (.func g) #[] cap.toArray] [A,X] (fun r H=>r = .bool (l.any p)∧H=[A,X]):=by
 refine aD.enter Tryz.func127 ak rfl Tryz.ntmps127 zr zr ?_
 intro G F R hR
 refine go ?_
 refine cp [0,1] zr zr zr zr (Cy A X v l hv hlen g cap p hf) rfl bG ?_
 rintro _ _⟨rfl,rfl⟩
 refine go ?_
 have hb:decide (0≤kj p l)=l.any p:=by
  rw[show decide (0≤kj p l)=decide (¬kj p l<0)from by rw[decide_eq_decide];omega]
  rw[Bool.eq_iff_iff,decide_eq_true_iff,nI (p:=p) (l:=l),Bool.not_eq_false]
 refine ae hR Tryz.func127 rfl _ rfl ⟨congrArg Value.bool hb,rfl⟩ (ao.fin [0,1] 0 zr zr)
theorem Qu(x:Bl):aD Tryz.prog 240 [eg x] [emp] (fun r H=>r = .bool (!bo x)∧H=[emp]):=by
 unfold eg
 refine aD.enter Tryz.func240 ak rfl Tryz.ntmps240 zr zr ?_
 intro G F R hE
 refine aE rfl ?_
 refine bC zr zr bz ?_
 intro b1
 refine go ?_
 refine aH (U:=aN) 0 zr zr zr zr zr zr ?_
 ((refine ai zr zr zr zr (nW x) ad ?_ bG))
 rintro _ _⟨rfl,rfl⟩
 refine go ?_
 ((refine ae hE Tryz.func240 rfl _ rfl ⟨rfl,rfl⟩ ad))
def IB(v:Value):Value := .agg #[v]
set_option maxRecDepth 20000 in
theorem Bf(A:HP)(v:Value)(l:List Bl)(hv:Vw A v l.length (l.flatMap bD))(hlen:l.length≤1000000) :
  aD Tryz.prog 217 [IB v] [A] (fun r H=>r = .int .i64 (gL l:Int)∧H=[A]):=by
 obtain⟨a,c,rfl⟩:=hv.shape
 unfold IB
 refine aD.enter Tryz.func217 ak rfl Tryz.ntmps217 zr zr ?_
 intro G F R hE
 refine aE rfl ?_
 refine bC zr zr bz ?_
 intro b1
 refine aG (ao.qg _) ?_
 have h1:(l.length<1∨16<l.length∨l.any (fun x => !bo x)=true)→gL l=1:=fun h=>by unfold gL;rw[if_pos h]
 have h2:¬(l.length<1∨16<l.length∨l.any (fun x => !bo x)=true)→gL l=if pw l then 5 else 0:=fun h=>by unfold gL;rw[if_neg h]
 repeat'(first|(with_reducible intro qh)|refine gO ?_|refine iC zr zr zr zr ?_ ?_|(refine ai zr zr zr zr (pb A emp _ l hv hlen 240 [] (fun x => !bo x) (fun x _=>Qu x)) ad ?_ bG;rintro _ _⟨rfl,rfl⟩))
 ·rw[h1 (.inl ah)]at hE
  ((refine ae hE Tryz.func217 rfl _ rfl ⟨rfl,rfl⟩ ad))
 ·rw[h1 (.inr (.inl ah))]at hE
  ((refine ae hE Tryz.func217 rfl _ rfl ⟨rfl,rfl⟩ ad))
 cases lY:l.any (fun x => !bo x)with
 | true =>
  rw[h1 (.inr (.inr lY))]at hE
  refine go ?_
  ((refine ae hE Tryz.func217 rfl _ rfl ⟨rfl,rfl⟩ ad))
 | false =>
  have h3:=h2 (fun h=>by rcases h with h|h|h;exact absurd h ah;exact absurd h ah;rw[lY]at h;cases h)
  rw[h3]at hE
  refine go ?_
  refine n5 rfl bz ?_
  intro bm
  ((refine aG (ao.fold (B:=[_]) (A:=aM dV bm (PC [])) (fun h hs=>⟨h,sub.refl h,pL dV bm h (eN hs)⟩)) ?_))
  refine go ?_
  refine bu (fun i:Nat=>i≤l.length∧((l.take i).map Bl.d).Nodup) (fun i=>l.length-i)
   (fun i=>[(1,ptr b1),(4,.map (some bm)),(25,.slice a l.length c),(26,.int .i64 (l.length:Int)),(27,.int .i64 (i:Int))])
   (fun i=>aM dV bm (PC ((l.take i).map Bl.d))::A::F) 0 ⟨Nat.zero_le _,by simp⟩ rfl cu ad ?_
  rintro i⟨hi,j4⟩ ih
  refine go ?_
  refine au zr zr ?_ ?_
  ·intro cW
   have gw:i<l.length:=by omega
   obtain⟨x,hx⟩:∃x,l[i]?=some x:=⟨l[i],by simp⟩
   obtain⟨b,o,gD,gb⟩:=hv.some (XL gw)
   simp only[Value.slice.injEq]at gb
   obtain⟨rfl,_,rfl⟩:=gb
   have jY:(l.take (i+1)).map Bl.d=(l.take i).map Bl.d++[x.d]:=by rw[List.take_add_one,hx];simp
   refine go ?_
   refine cO i 66 zr zr zr zr zr zr zr zr gw ?_
   refine aK ?_
   refine de (U:=aN) (es:=bD x) 1 (i*66) zr zr zr hv rfl (blE hx) zr zr zr ?_
   refine aw zr zr zr bz ?_
   intro b6
   refine go ?_
   refine dw 0 zr zr zr zr zr zr ?_
   refine Pn (U:=aN) (key:=x.d) 1 rfl QE zr zr zr zr zr zr zr zr ?_
   refine az 34 (.bool (decide (x.d∈(l.take i).map Bl.d))) rfl (Mw _ _) ?_
   refine go ?_
   refine au zr zr ?_ ?_
   ·intro pV
    have htw:pw l=true:=by
     cases h:pw l with
     | true=>rfl
     | false =>
      exfalso
      have hN:=(Aa l).1 h
      have er:((l.take (i+1)).map Bl.d).Nodup:=hN.sublist ((List.take_sublist _ _).map _)
      rw[jY,List.nodup_append]at er
      exact er.2.2 _ pV _ (by simp) rfl
    rw[htw]at hE
    refine go ?_
    ((refine ae hE Tryz.func217 rfl _ rfl ⟨rfl,rfl⟩ ad))
   ·intro QU
    refine go ?_
    refine dw 0 zr zr zr zr zr zr ?_
    refine iX (key:=x.d) 1 QE gE zr zr zr zr zr zr zr zr ?_
    rw[Qa QU,← jY]
    refine go ?_
    refine aL ih (i+1) rfl ⟨ah,by rw[jY,List.nodup_append];exact⟨j4,by simp,fun p hp q hq=>by simp at hq;subst hq;exact fun e=>QU (e ▸ hp)⟩⟩ ah cu ad
  intro fq
  have sH:i=l.length:=by omega
  subst sH
  rw[List.take_length]at j4
  rw[(Aa l).2 j4]at hE
  refine go ?_
  ((refine ae hE Tryz.func217 rfl _ rfl ⟨rfl,rfl⟩ ad))
theorem eJ.V9{b o n:Nat}{bs:List UInt8}{l:List Value}{e:TypeId}(hn:bs.length=n)(hl:(l.drop o).take n=bV bs):eJ (ag b (cl l e)) (.slice (some ⟨b,o,none⟩) n n) bs:=by
 subst hn
 exact⟨Vw.ag (by rw[bt];exact hl),_,_,rfl,Nat.le_refl _⟩
theorem xY:∀(l:List Bl) (i:Nat) (x:Bl),jj i (l++[x])=jj i l++[(((i+l.length:Nat):Int)+1,ek (dQ x))]
 | [],i,x=>by simp[jj]
 | y::l,i,x=>by
  simp only[List.cons_append,jj,xY l (i+1) x,List.length_cons]
  rw[show i+1+l.length=i+(l.length+1)from by omega]
theorem rz:∀(l:List Bl) (i:Nat),(jj i l).length=l.length
 | [],i=>rfl
 | y::l,i=>by simp only[jj,List.length_cons,rz l (i+1)]
structure Its where
 l:List It
 Z:HP
set_option maxRecDepth 20000 in
theorem DP(A:HP)(v:Value)(l:List Bl)(hv:Vw A v l.length (l.flatMap bD))(hlen:l.length≤1000000) :
    aD Tryz.prog 185 [IB v] [A] (fun r H=>(gL l≠0∧r = .tuple #[.slice none 0 0,.int .i64 (gL l:Int)]∧H=[A]) ∨
      ∃rv,gL l=0∧r = .tuple #[rv,.int .i64 0]∧H=[aB 5 1 rv (yD l).length (bV (yD l)),A]):=by
  have Q0:=Bf A v l hv hlen
  obtain⟨a,c,rfl⟩:=hv.shape
  unfold IB at Q0 ⊢
  refine aD.enter Tryz.func185 ak rfl Tryz.ntmps185 zr zr ?_
  intro G F R hE
  refine aE rfl ?_
  refine bC zr zr bz ?_
  intro b1
  refine go ?_
  refine aH (U:=aN) (l:=[.slice a l.length c]) 0 zr zr zr zr zr zr ?_
  ((refine ai zr zr zr zr (Q0) ad ?_ bG))
  rintro _ _⟨rfl,rfl⟩
  refine go ?_
  refine au zr zr ?_ ?_
  · intro bT
    have fE:gL l≠0:=by omega
    refine go ?_
    ((refine ae hE Tryz.func185 rfl _ rfl (.inl ⟨fE,rfl,rfl⟩) ad))
  intro heq
  have h0:gL l=0:=by omega
  obtain⟨adO,KG,sh⟩:=oJ h0
  refine go ?_
  refine aj (ao.trans (ao.bP [] _) (bJ 207 2 none _)) ?_
  refine bu (fun y:Nat × Its × Option Addr × Nat=>y.1≤l.length∧y.2.1.l.map It.p=jj 0 (l.take y.1)∧∀z∈y.2.1.l,eJ y.2.1.Z z.v z.b) (fun y=>l.length-y.1)
    (fun y=>[(1,ptr b1),(5,.slice y.2.2.1 y.2.1.l.length y.2.2.2),(18,.slice a l.length c),(19,.int .i64 (l.length:Int)),(20,.int .i64 (y.1:Int))])
    (fun y=>aB 207 2 (.slice y.2.2.1 y.2.1.l.length y.2.2.2) y.2.1.l.length (y.2.1.l.flatMap lB)::y.2.1.Z::A::F) (0,⟨[],Sep []⟩,none,0) ⟨Nat.zero_le _,rfl,by simp⟩ rfl cu ad ?_
  rintro⟨i,⟨fA,Z⟩,ia,ic⟩⟨hi,po,vB⟩ ih
  simp only at hi po vB
  dsimp only
  have aaM:fA.length=i:=by
    have:=congrArg List.length po
    rw[List.length_map,rz,List.length_take]at this;omega
  refine go ?_
  refine au zr zr ?_ ?_
  · intro cW
    have gw:i<l.length:=by omega
    obtain⟨x,hx⟩:∃x,l[i]?=some x:=⟨l[i],by simp⟩
    have hxr:=sh x (List.mem_of_getElem? hx)
    have abY:=hxr
    simp only[bo,decide_eq_true_eq]at abY
    obtain⟨sz,ir⟩:∃m:Nat,x.size=m:=⟨x.size.toNat,ah⟩
    obtain⟨pc,tt⟩:∃m:Nat,x.piece=m:=⟨x.piece.toNat,ah⟩
    obtain⟨b,o,gD,gb⟩:=hv.some (XL gw)
    simp only[Value.slice.injEq]at gb
    obtain⟨rfl,_,rfl⟩:=gb
    refine go ?_
    refine cO i 66 zr zr zr zr zr zr zr zr gw ?_
    refine aK ?_
    refine de (U:=aN) (es:=bD x) 2 (i*66) zr zr zr hv rfl (blE hx) zr zr zr ?_
    refine aw zr zr zr bz ?_
    intro b7
    refine go ?_
    refine aF (fun w=>Sat G w ([ag b7 (cl (bD x) 37)])) (.st 0 (.st 1 (.st 2 (.st 4 (.st 5 (.st 6 (.act 3 (.act 7 (.st 8 (.st 9 .nil)))))))))) rfl ak ak ak ei ?_
    refine go ?_
    ((refine az 27 ((.int .u64 (sz:Int))) rfl ((congrArg (Value.int .u64) ir)) ?_))
    ((refine az 31 ((.int .u64 (pc:Int))) rfl ((congrArg (Value.int .u64) tt)) ?_))
    ((refine ai rfl rfl rfl rfl (l9 sz ah) ad ?_ (fun _ _ w hp hw=>by obtain rfl:=hp;exact hw.cy ad)))
    rintro r8 _ rfl
    ((refine ai rfl rfl rfl rfl (l9 pc ah) ad ?_ (fun _ _ w hp hw=>by obtain rfl:=hp;exact hw.cy ad)))
    rintro r9 _ rfl
    ((refine aJ 0 rfl ?_))
    rintro a9 c9 rfl
    ((refine aJ 1 rfl ?_))
    rintro a8 c8 rfl
    refine gB (bs:=uv pc) 0 rfl ?_
    intro Xm
    refine gB (bs:=uv sz) 1 rfl ?_
    intro IY
    refine go ?_
    obtain⟨PG,Od⟩:∃PG:List It,PG=[⟨1,.slice (some ⟨b7,0,none⟩) 32 32,x.d.bs⟩,⟨2,.slice a8 (uv sz).length c8,uv sz⟩,⟨3,.slice a9 (uv pc).length c9,uv pc⟩,⟨4,.slice (some ⟨b7,34,none⟩) 32 32,x.root.bs⟩]:=⟨_,rfl⟩
    have hp4:PG.map It.p=dQ x:=by rw[Od];simp only[dQ,List.map_cons,List.map_nil,It.p,ir,tt,Int.toNat_natCast]
    have D5:=xZ x hxr
    refine aF (fun w=>Sat G w ([])) (.st 0 (.st 1 (.st 2 (.st 3 (.st 4 (.st 5 (.st 6 (.st 7 (.st 8 (.st 9 (.act 10 (.act 11 (.st 12 (.st 13 (.st 14 (.st 15 (.st 16 .nil))))))))))))))))) rfl ak ak ak ei ?_
    (repeat(first|refine gO ?_|refine iB (U:=aN) zr zr zr zr zr ?_))
    refine al (cs:=PG.flatMap lB) zr zr zr zr zr zr zr zr (by rw[Od];rfl) (fun _ _ hw=>hw.cy ad) ?_
    intro row
    have h4:PG.length=4:=by rw[Od];rfl
    have Ra:ud (Sep [ag row (cl (PG.flatMap lB) 207),ag b7 (cl (bD x) 37),aB 5 1 (.slice a8 (uv sz).length c8) (uv sz).length (bV (uv sz)),aB 5 1 (.slice a9 (uv pc).length c9) (uv pc).length (bV (uv pc))]) (.slice (some ⟨row,0,none⟩) 4 4) PG:=by
      refine⟨?_,fun y hy=>?_⟩
      · rw[h4]
        exact(Vw.ag (by rw[List.drop_zero,List.take_length])).mono (aW (i:=0) rfl)
      · rw[Od]at hy
        simp only[List.mem_cons,List.not_mem_nil,or_false]at hy
        rcases hy with rfl|rfl|rfl|rfl
        · exact(eJ.V9 x.d.len (by rw[← dG];exact XJ x)).mono (aW (i:=1) rfl)
        · exact IY.mono (aW (i:=2) rfl)
        · exact Xm.mono (aW (i:=3) rfl)
        · exact(eJ.V9 x.root.len (by rw[← dG];exact Rw x)).mono (aW (i:=1) rfl)
    have D6:fk 0 (PG.map It.p)=true:=by rw[hp4];simp[dQ,fk]
    have Eh:=mX _ _ PG Ra ah D6 (by rw[hp4];omega)
    rw[hp4]at Eh
    clear D6 Ra hp4 h4
    clear Od
    refine aG (ao.trans (ao.pick [0,3,2,1] rfl) (ao.bP [ag row (cl (PG.flatMap lB) 207),ag b7 (cl (bD x) 37),aB 5 1 (.slice a8 (uv sz).length c8) (uv sz).length (bV (uv sz)),aB 5 1 (.slice a9 (uv pc).length c9) (uv pc).length (bV (uv pc))] _)) ?_
    ((refine ai rfl rfl rfl rfl (Eh) ad ?_ (fun _ _ w hp hw=>by obtain⟨_,_,rfl⟩:=hp;exact hw.cy ad)))
    rintro _ _⟨rr,rfl,rfl⟩
    ((refine aJ 0 rfl ?_))
    rintro ra rc rfl
    refine gB (bs:=ek (dQ x)) 0 rfl ?_
    intro L8
    refine go ?_
    refine al (cs:=lB ⟨(i:Int)+1,.slice ra (ek (dQ x)).length rc,ek (dQ x)⟩) zr zr zr zr zr zr zr zr zr bz ?_
    intro Qd
    refine go ?_
    refine aO (mm:=1) (news:=lB ⟨(i:Int)+1,.slice ra (ek (dQ x)).length rc,ek (dQ x)⟩) 3 0 rfl rfl rfl rfl rfl rfl rfl rfl rfl rfl rfl rfl (Vw.ag rfl) rfl (by intro v hv;simp[lB]at hv;rcases hv with rfl|rfl <;> rfl) ah (by show(_+_)*32≤_;omega) (fun _=>rfl) bz ?_
    intro v1
    rw[show fA.flatMap lB++lB (⟨(i:Int)+1,.slice ra (ek (dQ x)).length rc,ek (dQ x)⟩:It)=(fA++[(⟨(i:Int)+1,.slice ra (ek (dQ x)).length rc,ek (dQ x)⟩:It)]).flatMap lB from by simp,show fA.length+1=(fA++[(⟨(i:Int)+1,.slice ra (ek (dQ x)).length rc,ek (dQ x)⟩:It)]).length from by simp]
    ((refine aJ 3 rfl ?_))
    rintro ja jc rfl
    refine go ?_
    have Oe:(fA++[(⟨(i:Int)+1,.slice ra (ek (dQ x)).length rc,ek (dQ x)⟩:It)]).map It.p=jj 0 (l.take (i+1)):=by
      rw[List.take_add_one,hx,List.map_append,po]
      simp only[Option.toList_some,xY,List.length_take,Nat.min_eq_left hi,Nat.zero_add,List.map_cons,List.map_nil,It.p]
    refine aj (ao.trans (ao.pick [1,4] rfl) (ao.bP [aB 5 1 (.slice ra (ek (dQ x)).length rc) (ek (dQ x)).length (bV (ek (dQ x))),Z] _)) ?_
    refine aL ih (i+1,⟨fA++[(⟨(i:Int)+1,.slice ra (ek (dQ x)).length rc,ek (dQ x)⟩:It)],Sep [aB 5 1 (.slice ra (ek (dQ x)).length rc) (ek (dQ x)).length (bV (ek (dQ x))),Z]⟩,ja,jc) rfl ⟨by simp only;omega,Oe,fun z hz=>by
      rcases List.mem_append.1 hz with h|h
      · exact(vB z h).mono (aW (i:=1) rfl)
      · rw[List.mem_singleton.1 h];exact L8.mono (aW (i:=0) rfl)⟩ (by simp only;omega) cu ad
  · intro fq
    have sH:i=l.length:=by omega
    subst sH
    rw[List.take_length]at po
    have pj:=EC h0
    unfold yD at pj
    have D6:=vx l 0 ah
    rw[← po]at pj D6
    refine dB 0 rfl ?_
    intro dK
    have Ra:ud (Sep [aB 207 2 (.slice ia fA.length ic) fA.length (fA.flatMap lB),Z]) (.slice ia fA.length ic) fA:=⟨dK.mono (aW (i:=0) rfl),fun y hy=>(vB y hy).mono (aW (i:=1) rfl)⟩
    have Eh:=mX _ _ fA Ra ah D6 ah
    have Yq:ek (fA.map It.p)=yD l:=by rw[po];rfl
    rw[Yq]at Eh
    refine go ?_
    refine aG (ao.bP [_,_] _) ?_
    ((refine ai zr zr zr zr (Eh) ad ?_ bG))
    rintro _ _⟨rr,rfl,rfl⟩
    refine go ?_
    ((refine ae hE Tryz.func185 rfl _ rfl (.inr ⟨rr,h0,rfl,rfl⟩) ad))
set_option maxRecDepth 20000 in
theorem E4(A:HP)(hK:oe A)(v:Value)(l:List Bl)(hv:Vw A v l.length (l.flatMap bD))(hlen:l.length≤1000000) :
  aD Tryz.prog 125 [IB v] [A] (fun r H=>r=(if gL l=0 then .tuple #[dV (xM l),.int .i64 0]else .tuple #[dV Dg.zero,.int .i64 (gL l:Int)])∧H=[A]):=by
 have Q0:=DP A v l hv hlen
 obtain⟨a,c,rfl⟩:=hv.shape
 unfold IB at Q0 ⊢
 refine aD.enter Tryz.func125 ak rfl Tryz.ntmps125 zr zr ?_
 intro G F R hE
 refine aE rfl ?_
 refine bC zr zr bz ?_
 intro b1
 refine aw zr zr zr bz ?_
 intro b2
 refine go ?_
 refine aH (U:=aN) (l:=[.slice a l.length c]) 1 zr zr zr zr zr zr ?_
 ((refine ai zr zr zr zr (Q0) ad ?_ bG))
 rintro _ _ (⟨h0,rfl,rfl⟩|⟨rv,h0,rfl,rfl⟩)
 ·rw[if_neg h0]at hE
  refine go ?_
  refine au zr zr ?_ ?_
  case' refine_2=>(intro h;exfalso;omega)
  intro _
  refine go ?_
  refine jT (U:=aN) zr zr zr zr zr ?_
  refine go ?_
  (refine aS hE ?_;apply aQ (U:=aN) hE Tryz.func125 rfl (ao.refl _);(repeat(first|exact aI.nil|apply aI.tmp rfl|apply aI.agg 1 zr zr zr zr zr));exact⟨rfl,rfl⟩;exact ad)
 ·rw[if_pos h0]at hE
  have pj:=EC h0
  refine gB (bs:=yD l) 0 rfl ?_
  intro KT
  refine aG (ao.bP [_,_] _) ?_
  refine go ?_
  ((refine ai zr zr zr zr (wA _ (hK.mono (aW (H:=[aB 5 1 rv (yD l).length (bV (yD l)),A]) (i:=1) rfl)) rv (yD l) (KT.mono (aW (i:=0) rfl)) ah) ad ?_ bG))
  rintro _ _⟨rfl,rfl⟩
  refine aG (ao.cB _ _) ?_
  refine go ?_
  (refine aS hE ?_;apply aQ (U:=aN) hE Tryz.func125 rfl (ao.refl _);(repeat(first|exact aI.nil|apply aI.tmp rfl|apply aI.agg 2 zr zr zr zr zr));exact⟨rfl,rfl⟩;exact ad)
def OO(o:Option Bl):Value:=match o with
 | none => .tuple #[eg Bl.zero,.bool false]
 | some x => .tuple #[eg x,.bool true]
theorem Hm{b:List UInt8}(h:pg b=none):l7 b=none:=by unfold l7;rw[h]
theorem Ld{b:List UInt8}{xs:List (Int × List UInt8)}(h:pg b=some xs)(hl:xs.length≠4):l7 b=none:=by
 unfold l7;rw[h]
 match xs,hl with
 | [],_=>rfl
 | [_],_=>rfl
 | [_,_],_=>rfl
 | [_,_,_],_=>rfl
 | _::_::_::_::_::_,_=>rfl
 | [_,_,_,_],h=>exact absurd rfl h
theorem Hn{b:List UInt8}{n1 n2 n3 n4:Int}{b1 b2 b3 b4:List UInt8}(h:pg b=some [(n1,b1),(n2,b2),(n3,b3),(n4,b4)]) :
  l7 b=if n4≠4∨b1.length≠32∨b4.length≠32 then none else match cX b2,cX b3 with
  | some s,some p=>if 1048576<max s p then none else some ⟨tJ b1,s,p,tJ b4⟩
  | _,_=>none:=by unfold l7;rw[h];rfl
theorem yF{b:List UInt8}(h:b.length=32):bV b=dC (tJ b):=by
 unfold tJ;rw[dif_pos h,dG]
theorem CW:∀(f:Nat) (b:List UInt8) (x:Int × List UInt8),x∈py f b→x.2.length≤b.length
 | 0,b,x,h=>by simp[py]at h
 | f+1,[],x,h=>by simp[py]at h
 | f+1,c::r,x,h=>by
  have h1:=qc r
  rw[py]at h
  rw[List.length_cons]
  split at h
  ·rcases List.mem_cons.1 h with rfl|h
   ·simp only[List.length_take];omega
   ·have:=CW f _ x h
    rw[List.length_drop]at this;omega
  ·simp at h;subst h;simp
theorem sN{b:List UInt8}{l:List (Int × List UInt8)}(h:pg b=some l):∀x∈l,x.2.length≤65536:=by
 unfold pg at h
 split at h
 ·cases h
 ·split at h
  ·cases h
   intro x hx
   have:=CW _ _ x hx;omega
  ·cases h
set_option maxRecDepth 20000 in
theorem Kg(A:HP)(v:Value)(b:List UInt8)(hv:eJ A v b)(hl:b.length≤1000000000) :
  aD Tryz.prog 216 [v] [A] (fun r H=>r=OO (l7 b)∧H=[A]):=by
 have QM:=mY A v b hv hl
 obtain⟨a,c,rfl,hc⟩:=hv.2
 refine aD.enter Tryz.func216 ak rfl Tryz.ntmps216 zr zr ?_
 intro G F R hE
 refine aE rfl ?_
 refine aw zr zr zr bz ?_
 intro b2
 refine go ?_
 ((refine ai zr zr zr zr (QM) ad ?_ bG))
 rintro _ _ (⟨hn,rfl,rfl⟩|⟨xs,fA,Z,rv,hs,po,⟨dK,vB⟩,rfl,rfl,-⟩)
 ·rw[Hm hn]at hE
  repeat'(first|refine gO ?_|fail)
  all_goals((skip))
  (refine aS hE ?_;apply aQ (U:=aN) hE Tryz.func216 rfl (ao.refl _);(repeat(first|exact aI.nil|apply aI.tmp rfl|apply aI.agg 1 zr zr zr zr zr));exact⟨rfl,rfl⟩;exact ad)
 obtain⟨ra,rc,rfl⟩:=dK.shape
 by_cases h4:fA.length=4
 case neg =>
  rw[Ld hs (by rw[← po,List.length_map];exact h4)]at hE
  repeat'(first|(with_reducible intro qh)|refine gO ?_|refine iC zr zr zr zr ?_ ?_|fail)
  all_goals(first|(exfalso;omega)|skip)
  (refine aS hE ?_;apply aQ (U:=aN) hE Tryz.func216 rfl (ao.refl _);(repeat(first|exact aI.nil|apply aI.tmp rfl|apply aI.agg 2 zr zr zr zr zr));exact⟨rfl,rfl⟩;exact ad)
 obtain⟨i1,i2,i3,i4,rfl⟩:∃i1 i2 i3 i4,fA=[i1,i2,i3,i4]:=by
  match fA,h4 with
  | [i1,i2,i3,i4],_=>exact⟨i1,i2,i3,i4,rfl⟩
 obtain⟨n1,v1,b1⟩:=i1
 obtain⟨n2,v2,YC⟩:=i2
 obtain⟨n3,v3,FQ⟩:=i3
 obtain⟨n4,v4,YB⟩:=i4
 have nK:eJ Z v1 b1:=vB ⟨n1,v1,b1⟩ (by simp)
 have qM:eJ Z v2 YC:=vB ⟨n2,v2,YC⟩ (by simp)
 have PX:eJ Z v3 FQ:=vB ⟨n3,v3,FQ⟩ (by simp)
 have hb4:eJ Z v4 YB:=vB ⟨n4,v4,YB⟩ (by simp)
 obtain⟨a1,c1,rfl,_⟩:=nK.2
 obtain⟨a2,c2,rfl,_⟩:=qM.2
 obtain⟨a3,c3,rfl,_⟩:=PX.2
 obtain⟨a4,c4,rfl,_⟩:=hb4.2
 obtain⟨rb,ro,rcc,he⟩:=dK.some (by simp[lB])
 simp only[Value.slice.injEq]at he
 obtain⟨rfl,_,rfl⟩:=he
 simp only[List.map_cons,List.map_nil,It.p]at po
 subst po
 have CK:=Hn hs
 have D3:Vw Z (.slice (some ⟨rb,ro,none⟩) 4 rc) 4 [.int .i64 n1,.slice a1 b1.length c1,.int .i64 n2,.slice a2 YC.length c2,.int .i64 n3,.slice a3 FQ.length c3,.int .i64 n4,.slice a4 YB.length c4]:=dK
 have hN:(n4≠4∨b1.length≠32∨YB.length≠32)→l7 b=none:=fun h=>by rw[CK,if_pos h]
 simp only[List.length_cons,List.length_nil,Nat.zero_add,Nat.reduceAdd]
 clear dK vB QM h4
 repeat'(first|(with_reducible intro qh)|refine gO ?_|refine iC zr zr zr zr ?_ ?_|refine au zr zr ?_ ?_|refine cO 3 2 zr zr zr zr zr zr zr zr (by simp) ?_|refine cO 0 2 zr zr zr zr zr zr zr zr (by simp) ?_|refine bg 0 (3*2+0) zr zr zr D3 (Nat.add_assoc _ _ _) zr zr zr ?_|refine bg 0 (3*2+1) zr zr zr D3 (Nat.add_assoc _ _ _) zr zr zr ?_|refine bg 0 (0*2+1) zr zr zr D3 (Nat.add_assoc _ _ _) zr zr zr ?_)
 ·rw[hN ah]at hE
  refine go ?_
  (refine aS hE ?_;apply aQ (U:=aN) hE Tryz.func216 rfl (ao.refl _);(repeat(first|exact aI.nil|apply aI.tmp rfl|apply aI.agg 2 zr zr zr zr zr));exact⟨rfl,rfl⟩;exact ad)
 ·rw[hN ah]at hE
  refine go ?_
  (refine aS hE ?_;apply aQ (U:=aN) hE Tryz.func216 rfl (ao.refl _);(repeat(first|exact aI.nil|apply aI.tmp rfl|apply aI.agg 2 zr zr zr zr zr));exact⟨rfl,rfl⟩;exact ad)
 ·rw[hN ah]at hE
  refine go ?_
  (refine aS hE ?_;apply aQ (U:=aN) hE Tryz.func216 rfl (ao.refl _);(repeat(first|exact aI.nil|apply aI.tmp rfl|apply aI.agg 2 zr zr zr zr zr));exact⟨rfl,rfl⟩;exact ad)
 have hk4:n4=4:=by omega
 have KG:b1.length=32:=by omega
 have hl4:YB.length=32:=by omega
 rw[if_neg (by rintro(h|h|h) <;> exact h (by assumption))]at CK
 refine go ?_
 refine cO 1 2 zr zr zr zr zr zr zr zr ah ?_
 refine go ?_
 refine aK ?_
 refine bg 0 (1*2+1) zr zr zr D3 (Nat.add_assoc _ _ _) zr zr zr ?_
 have WS:=sN hs (n2,YC) (by simp)
 have hm3:=sN hs (n3,FQ) (by simp)
 simp only at WS hm3
 ((refine ai zr zr zr zr (me Z _ YC qM ah) ad ?_ bG))
 rintro _ _⟨rfl,rfl⟩
 cases hu2:cX YC with
 | none =>
  rw[hu2]at CK
  rw[CK]at hE
  simp only
  refine go ?_
  refine cO 2 2 zr zr zr zr zr zr zr zr ah ?_
  refine go ?_
  refine aK ?_
  refine bg 0 (2*2+1) zr zr zr D3 (Nat.add_assoc _ _ _) zr zr zr ?_
  ((refine ai zr zr zr zr (me Z _ FQ PX ah) ad ?_ bG))
  rintro _ _⟨rfl,rfl⟩
  cases cX FQ with
  | none =>
   simp only
   repeat'(first|refine gO ?_|fail)
   all_goals((skip))
   (refine aS hE ?_;apply aQ (U:=aN) hE Tryz.func216 rfl (ao.refl _);(repeat(first|exact aI.nil|apply aI.tmp rfl|apply aI.agg 2 zr zr zr zr zr));exact⟨rfl,rfl⟩;exact ad)
  | some p =>
   simp only
   repeat'(first|refine gO ?_|fail)
   all_goals((skip))
   (refine aS hE ?_;apply aQ (U:=aN) hE Tryz.func216 rfl (ao.refl _);(repeat(first|exact aI.nil|apply aI.tmp rfl|apply aI.agg 2 zr zr zr zr zr));exact⟨rfl,rfl⟩;exact ad)
 | some s =>
  rw[hu2]at CK
  simp only
  refine go ?_
  refine cO 2 2 zr zr zr zr zr zr zr zr ah ?_
  refine go ?_
  refine aK ?_
  refine bg 0 (2*2+1) zr zr zr D3 (Nat.add_assoc _ _ _) zr zr zr ?_
  ((refine ai zr zr zr zr (me Z _ FQ PX ah) ad ?_ bG))
  rintro _ _⟨rfl,rfl⟩
  cases hu3:cX FQ with
  | none =>
   rw[hu3]at CK
   rw[CK]at hE
   simp only
   repeat'(first|refine gO ?_|fail)
   all_goals((skip))
   (refine aS hE ?_;apply aQ (U:=aN) hE Tryz.func216 rfl (ao.refl _);(repeat(first|exact aI.nil|apply aI.tmp rfl|apply aI.agg 2 zr zr zr zr zr));exact⟨rfl,rfl⟩;exact ad)
  | some p =>
   rw[hu3]at CK
   simp only at CK ⊢
   repeat'(first|(with_reducible intro qh)|refine gO ?_|refine au zr zr ?_ ?_)
   all_goals((skip))
   ·rw[if_pos ah]at CK
    rw[CK]at hE
    refine go ?_
    (refine aS hE ?_;apply aQ (U:=aN) hE Tryz.func216 rfl (ao.refl _);(repeat(first|exact aI.nil|apply aI.tmp rfl|apply aI.agg 2 zr zr zr zr zr));exact⟨rfl,rfl⟩;exact ad)
   ·rw[if_neg ah]at CK
    rw[CK]at hE
    have adC:s≤1048576:=by omega
    have adH:p≤1048576:=by omega
    obtain⟨xb1,xo1,xc1,Sk⟩:=nK.1.some (by intro h;have:=congrArg List.length h;rw[bt,KG]at this;cases this)
    simp only[Value.slice.injEq]at Sk
    obtain⟨rfl,_,rfl⟩:=Sk
    obtain⟨xb4,xo4,xc4,he4⟩:=hb4.1.some (by intro h;have:=congrArg List.length h;rw[bt,hl4]at this;cases this)
    simp only[Value.slice.injEq]at he4
    obtain⟨rfl,_,rfl⟩:=he4
    have lS:=nK.1
    rw[yF KG]at lS
    have hv4:=hb4.1
    rw[yF hl4]at hv4
    refine aF (fun w=>Sat G w ([Z])) (.st 0 (.st 1 (.st 2 (.st 3 (.st 4 (.st 5 (.st 6 (.st 7 (.st 8 (.st 9 (.st 10 (.st 11 (.st 12 (.st 13 (.st 14 (.st 15 (.st 16 (.act 17 (.st 18 .nil))))))))))))))))))) rfl ak ak ak ei ?_
    refine go ?_
    (repeat(first|refine gO ?_|refine cO 0 2 zr zr zr zr zr zr zr zr ah ?_|refine cO 3 2 zr zr zr zr zr zr zr zr ah ?_|(refine aK ?_;first|refine cJ 0 (0*2+1) zr zr zr D3 (Nat.add_assoc _ _ _) zr zr zr ?_|refine cJ 0 (3*2+1) zr zr zr D3 (Nat.add_assoc _ _ _) zr zr zr ?_|refine gI (U:=aN) (es:=dC (tJ b1)) 0 0 zr zr zr lS rfl (fun j v hj=>by rw[Nat.zero_add];exact hj) zr zr zr ?_|refine gI (U:=aN) (es:=dC (tJ YB)) 0 0 zr zr zr hv4 rfl (fun j v hj=>by rw[Nat.zero_add];exact hj) zr zr zr ?_)|refine Be (U:=aN) zr zr zr zr ah ?_))
    refine aT ?_
    refine bZ 2 ei zr zr zr zr zr zr zr zr zr ?_
    refine go ?_
    (refine aS hE ?_;apply aQ (U:=aN) hE Tryz.func216 rfl (ao.refl _);(repeat(first|exact aI.nil|apply aI.tmp rfl|apply aI.agg 2 zr zr zr zr zr));exact⟨rfl,rfl⟩;exact ad)
theorem vu:∀(l:List (Int × List UInt8)) (i:Nat) (x:Int × List UInt8),iG i (l++[x])=match iG i l with
  | none=>none
  | some y=>match l7 x.2 with
   | none=>none
   | some z=>if x.1≠((i+l.length:Nat):Int)+1 then none else some (y++[z])
 | [],i,(n,b)=>by
  simp only[List.nil_append,iG,List.length_nil,Nat.add_zero]
  cases l7 b with
  | none=>rfl
  | some z =>
   simp only
   split <;> simp
 | (m,c)::l,i,(n,b)=>by
  simp only[List.cons_append,iG,vu l (i+1) (n,b),List.length_cons]
  cases l7 c with
  | none=>rfl
  | some y =>
   simp only
   split
   ·rfl
   ·cases iG (i+1) l with
    | none=>rfl
    | some w =>
     simp only[Option.map_some]
     cases l7 b with
     | none=>rfl
     | some z =>
      simp only[show i+1+l.length=i+(l.length+1)from by omega]
      split <;> simp
theorem vt:∀(l r:List (Int × List UInt8)) (i:Nat),iG i l=none→iG i (l++r)=none
 | [],r,i,h=>by cases h
 | (n,b)::l,r,i,h=>by
  simp only[List.cons_append,iG]at h ⊢
  cases hb:l7 b with
  | none=>rfl
  | some x =>
   rw[hb]at h
   simp only at h ⊢
   split at h
   ·rename_i hn;rw[if_pos hn]
   ·rename_i hn
    rw[if_neg hn]
    rw[vt l r (i+1) (by simpa using h)];rfl
set_option maxRecDepth 20000 in
theorem DR(A:HP)(v:Value)(b:List UInt8)(hv:eJ A v b)(hl:b.length≤1000000000) :
  aD Tryz.prog 184 [v] [A] (fun r H=>(yH b=none∧(∃e,e≠0∧r = .tuple #[IB (.slice none 0 0),.int .i64 e])∧H=[A]) ∨
   ∃l rv,yH b=some l∧r = .tuple #[IB rv,.int .i64 0]∧H=[aB 37 66 rv l.length (l.flatMap bD),A]):=by
 have QM:=mY A v b hv hl
 obtain⟨a,c,rfl,hc⟩:=hv.2
 refine aD.enter Tryz.func184 ak rfl Tryz.ntmps184 zr zr ?_
 intro G F R hE
 refine aE rfl ?_
 refine aw zr zr zr bz ?_
 intro b2
 refine go ?_
 ((refine ai zr zr zr zr (QM) ad ?_ bG))
 rintro _ _ (⟨hn,rfl,rfl⟩|⟨xs,fA,Z,rv,hs,po,⟨dK,vB⟩,rfl,rfl,-⟩)
 ·have hd:yH b=none:=by unfold yH;rw[hn]
  repeat'(first|refine gO ?_|fail)
  all_goals((skip))
  (refine aS hE ?_;apply aQ (U:=aN) hE Tryz.func184 rfl (ao.refl _);(repeat(first|exact aI.nil|apply aI.tmp rfl|apply aI.agg 1 zr zr zr zr zr));exact(.inl ⟨hd,⟨2,by decide,rfl⟩,rfl⟩);exact ad)
 have Xb:yH b=match iG 0 xs with|some x=>if gL x=0 then some x else none|none=>none:=by unfold yH;rw[hs];rfl
 obtain⟨ra,rc,rfl⟩:=dK.shape
 have PJ:fA.length≤65536:=by
  have h1:xs.length≤65536:=by
   unfold pg at hs
   split at hs
   ·cases hs
   ·split at hs
    ·cases hs
     have:=sM _ b (Nat.le_refl _)
     unfold eQ at this;omega
    ·cases hs
  rw[← po,List.length_map]at h1;exact h1
 repeat'(first|refine gO ?_|fail)
 all_goals((skip))
 refine aw zr zr zr bz ?_
 intro b6
 refine go ?_
 refine aj (ao.trans (ao.bP [] _) (bJ 37 66 none _)) ?_
 refine bu (fun y:Nat × List Bl × Option Addr × Nat=>y.1≤fA.length∧iG 0 (xs.take y.1)=some y.2.1∧y.2.1.length=y.1) (fun y=>fA.length-y.1)
  (fun y=>[(2,ptr b2),(6,ptr b6),(20,.slice ra fA.length rc),(21,.int .i64 (fA.length:Int)),(22,.int .i64 (y.1:Int))])
  (fun y=>ag b6 (cl [.slice y.2.2.1 y.2.1.length y.2.2.2] 174)::aB 37 66 (.slice y.2.2.1 y.2.1.length y.2.2.2) y.2.1.length (y.2.1.flatMap bD)::Z::A::ag b2 (cl [.slice none 0 0] 174)::F) (0,[],none,0) ⟨Nat.zero_le _,rfl,rfl⟩ rfl cu ad ?_
 rintro⟨i,acc,xa,xc⟩⟨hi,vW,Ov⟩ ih
 simp only at hi vW Ov
 dsimp only
 refine go ?_
 refine au zr zr ?_ ?_
 ·intro cW
  have gw:i<fA.length:=by omega
  obtain⟨it,KJ⟩:∃x,fA[i]?=some x:=⟨fA[i],by simp⟩
  have hxi:xs[i]?=some (it.n,it.b):=by rw[← po,List.getElem?_map,KJ];rfl
  have KS:=vB it (List.mem_of_getElem? KJ)
  have aaL:=sN hs _ (List.mem_of_getElem? hxi)
  have jY:xs.take (i+1)=xs.take i++[(it.n,it.b)]:=by rw[List.take_add_one,hxi];rfl
  have FM:=vu (xs.take i) 0 (it.n,it.b)
  have tr:(xs.take i).length=i:=by rw[List.length_take,← po,List.length_map];omega
  rw[← jY,vW,tr,Nat.zero_add]at FM
  simp only at FM aaL
  have lp:iG 0 (xs.take (i+1))=none→yH b=none:=fun h=>by
   have:=vt _ (xs.drop (i+1)) 0 h
   rw[List.take_append_drop]at this
   rw[Xb,this]
  obtain⟨rb,ro,rcc,he⟩:=dK.some (by rw[← List.length_pos_iff,cH iY];omega)
  simp only[Value.slice.injEq]at he
  obtain⟨rfl,_,rfl⟩:=he
  obtain⟨xn,xv,xb⟩:=it
  simp only at KS FM aaL
  obtain⟨va,vc,rfl,_⟩:=KS.2
  refine go ?_
  refine cO i 2 zr zr zr zr zr zr zr zr gw ?_
  refine aK ?_
  refine de (U:=aN) (es:=lB ⟨xn,.slice va xb.length vc,xb⟩) 2 (i*2) zr zr zr dK rfl (fun j v hj=>?_) zr zr zr ?_
  ·rw[cY iY KJ j (by rcases Nat.lt_or_ge j 2 with h|h;exact h;rw[List.getElem?_eq_none (by rw[iY];exact h)]at hj;cases hj)];exact hj
  refine aw zr zr zr bz ?_
  intro b8
  refine go ?_
  ((refine ai zr zr zr zr (Kg Z _ xb KS ah) ad ?_ bG))
  rintro _ _⟨rfl,rfl⟩
  cases CK:l7 xb with
  | none =>
   rw[CK]at FM
   have ym:=lp FM
   simp only[OO]
   refine go ?_
   refine aw zr zr zr bz ?_
   intro b9
   refine go ?_
   (refine aT ?_;(refine bZ 6 gE zr zr zr zr zr zr zr zr zr ?_))
   refine go ?_
   (refine aS hE ?_;apply aQ (U:=aN) hE Tryz.func184 rfl (ao.refl _);(repeat(first|exact aI.nil|apply aI.tmp rfl|apply aI.agg 6 zr zr zr zr zr));exact(.inl ⟨ym,⟨2,by decide,rfl⟩,rfl⟩);exact ad)
  | some z =>
   rw[CK]at FM
   simp only[OO]at FM ⊢
   unfold eg
   refine go ?_
   refine aw zr zr zr bz ?_
   intro b9
   repeat'(first|(with_reducible intro qh)|refine gO ?_|refine au zr zr ?_ ?_)
   ·rw[if_pos ah]at FM
    have ym:=lp FM
    (refine aT ?_;(refine bZ 6 gE zr zr zr zr zr zr zr zr zr ?_))
    refine go ?_
    (refine aS hE ?_;apply aQ (U:=aN) hE Tryz.func184 rfl (ao.refl _);(repeat(first|exact aI.nil|apply aI.tmp rfl|apply aI.agg 6 zr zr zr zr zr));exact(.inl ⟨ym,⟨2,by decide,rfl⟩,rfl⟩);exact ad)
   ·rw[if_neg ah]at FM
    refine aH (U:=aN) (l:=bD z) 0 zr zr zr zr zr zr ?_
    refine al (cs:=bD z) zr zr zr zr zr zr zr zr zr bz ?_
    intro row
    refine go ?_
    refine aO (mm:=1) (news:=bD z) 5 0 zr zr zr zr zr zr zr zr zr zr zr zr (Vw.ag rfl) rfl (by have:=Je [z];simpa using this) ah (by show(_+_)*80≤_;omega) (fun _=>rfl) bz ?_
    intro v1
    rw[show acc.flatMap bD++bD z=(acc++[z]).flatMap bD from by simp,show acc.length+1=(acc++[z]).length from by simp]
    ((refine aJ 5 rfl ?_))
    rintro ja jc rfl
    refine go ?_
    refine aT ?_
    refine bZ 4 gE zr zr zr zr zr zr zr zr zr ?_
    refine go ?_
    refine aL ih (i+1,acc++[z],ja,jc) rfl ⟨by simp only;omega,FM,by simp only[List.length_append,List.length_singleton];omega⟩ (by simp only;omega) cu ad
 ·intro fq
  have sH:i=fA.length:=by omega
  have eZ:xs.take i=xs:=by rw[List.take_of_length_le];rw[← po,List.length_map];omega
  rw[eZ]at vW
  rw[vW]at Xb
  simp only at Xb
  clear ih
  refine dB 1 rfl ?_
  intro hva
  refine go ?_
  refine aH (U:=aN) (l:=[.slice xa acc.length xc]) 0 zr zr zr zr zr zr ?_
  ((refine ai zr zr zr zr (Bf _ _ acc hva ah) ad ?_ bG))
  rintro _ _⟨rfl,rfl⟩
  repeat'(first|(with_reducible intro qh)|refine gO ?_|refine au zr zr ?_ ?_)
  ·rw[if_neg ah]at Xb
   (refine aT ?_;(refine bZ 4 gE zr zr zr zr zr zr zr zr zr ?_))
   refine go ?_
   (refine aS hE ?_;apply aQ (U:=aN) hE Tryz.func184 rfl (ao.refl _);(repeat(first|exact aI.nil|apply aI.tmp rfl|apply aI.agg 4 zr zr zr zr zr));exact(.inl ⟨Xb,⟨2,by decide,rfl⟩,rfl⟩);exact ad)
  ·rw[if_pos ah]at Xb
   refine aH (U:=aN) (l:=[.slice xa acc.length xc]) 1 zr zr zr zr zr zr ?_
   refine go ?_
   refine aT ?_
   refine bZ 4 gE zr zr zr zr zr zr zr zr zr ?_
   refine go ?_
   (refine aS hE ?_;apply aQ (U:=aN) hE Tryz.func184 rfl (ao.refl _);(repeat(first|exact aI.nil|apply aI.tmp rfl|apply aI.agg 4 zr zr zr zr zr));exact(.inr ⟨acc,_,Xb,rfl,rfl⟩);exact ad)
end Go.Proofs.YtedjnjkijiddlaaGreatDoor
namespace Go.SL
open Go.RowKit
def old(W:World):HP:=fun h=>∀b,h b=W.heap[b]?
def Xz(W:World):cC:={ tape:=W.tape,os:=W.os,output:=W.output }
theorem RD(W:World):Sat (Xz W) W [old W]:=⟨⟨rfl,Nat.zero_le _⟩,rfl,rfl,fun b=>W.heap[b]?,fun _ _ h=>h,fU fun _=>rfl⟩
theorem Cg{W W':World}(h:Sat (Xz W) W' [old W]):Below W.heap.size W W':=by
 obtain⟨h1,h2,h3,h0,hw,hs⟩:=h
 have ho:=eN hs
 have hb:∀k,k<W.heap.size→W'.heap[k]?=W.heap[k]? := fun k hk=>by
  have e:W.heap[k]?=some W.heap[k]:=by simp[hk]
  rw[e]
  exact hw k _ (by rw[ho k,e])
 refine⟨h2,h1.1,h3,?_,hb⟩
 rcases Nat.eq_zero_or_pos W.heap.size with h0|h0
 ·omega
 ·have:=hb (W.heap.size-1) ah
  have e:W.heap[W.heap.size-1]?=some W.heap[W.heap.size-1]:=by simp[h0]
  rw[e]at this
  have:=(Array.getElem?_eq_some_iff.1 this).1
  omega
theorem MJ{P:Program}{f:FuncId}{args:List Value}{W:World}(c:aD P f args [old W] (fun v H=>v = .bool true∧H=[old W])) :
  Calls P f args.toArray W fun e W'=>e = .returned (.bool true)∧Below W.heap.size W W' :=
 (c.2 (Xz W) W [] (RD W)).mono fun e W' h=>by
  obtain⟨v,H,rfl,⟨rfl,rfl⟩,hs⟩:=h
  exact⟨rfl,Cg hs⟩
theorem rC{W:World}{h:Hp}{b off:Nat}{v:Value}(ho:old W h)(hc:W.cell? ⟨b,off,none⟩=some v):dL h b off=some v:=by
 unfold dL
 rw[ho b]
 unfold World.cell? at hc
 simp only at hc
 split at hc
 ·rename_i c _ _ he
  rw[he]
  simpa using hc
 ·cases hc
theorem Hl{W:World}{a:Addr}{len cap:Nat}{zs:List Int}(hl:len≤zs.length)(dL:∀i,i<zs.length→W.cell? (a.add i)=some (.int .u8 (zs.getD i 0)))(hwf:∀n∈zs,(Lit.int .u8 n).wf=true) :
  ∃bs:List UInt8,bs.length=len∧Vw (old W) (.slice (some a) len cap) len (bV bs):=by
 refine⟨(zs.take len).map fun z=>UInt8.ofNat z.toNat,by simp;omega,some a,cap,rfl,?_⟩
 rcases Nat.eq_zero_or_pos len with h0|h0
 ·left;subst h0;simp[bV]
 ·right
  obtain⟨b,o,spot⟩:=a
  have fW:spot=none:=by simpa[Addr.add]using World.cell?_spot (dL 0 ah)
  subst fW
  refine⟨b,o,rfl,fun h ho j c hj=>?_⟩
  have yg:j<len:=by
   rcases Nat.lt_or_ge j len with h|h
   ·exact h
   ·rw[List.getElem?_eq_none (by simp[bV];omega)]at hj;cases hj
  have h1:=dL j ah
  rw[Addr.add_eq]at h1
  have h2:=rC ho h1
  rw[h2]
  have hm:zs[j]' ah∈zs:=List.getElem_mem _
  have hw:=hwf _ hm
  have hb:0≤zs[j]' ah∧zs[j]' ah<256:=by
   simp only[Lit.wf,Bool.and_eq_true,decide_eq_true_eq]at hw
   have e1:IntKind.u8.min=0:=by decide
   have e2:IntKind.u8.max=255:=by decide
   omega
  simp only[bV,List.map_map,List.getElem?_map,List.getElem?_take,yg,if_true]at hj
  rw[List.getElem?_eq_getElem ah]at hj
  simp only[Option.map_some,Option.some.injEq,Function.comp]at hj
  rw[← hj,List.getD_eq_getElem?_getD,List.getElem?_eq_getElem ah]
  simp only[Option.getD_some,u8,UInt8.toNat_ofNat',Option.some.injEq]
  congr 1
  omega
theorem Ng(W:World):Vw (old W) (.slice none 0 0) 0 (bV []):=⟨none,0,rfl,.inl rfl⟩
theorem Ks{z:Int}(h:(Lit.int .i64 z).wf=true) : -9223372036854775808≤z∧z≤9223372036854775807:=by
 simp only[Lit.wf,Bool.and_eq_true,decide_eq_true_eq]at h
 have e1:IntKind.i64.min = -9223372036854775808:=by decide
 have e2:IntKind.i64.max=9223372036854775807:=by decide
 omega
end Go.SL
namespace Go.SL
open Go.Proofs Go.Shelf Go.RowKit Go.Lib Go.Sort
theorem Sat.grown{G:cC}{w:World}{H:List HP}(hs:Sat G w H)(os:Array Obj):Sat G (Sort.grow w os) H:=by
 obtain⟨a,b,c,h,hw,hh⟩:=hs
 refine⟨a,b,c,h,fun x o e=>?_,hh⟩
 have h1:=hw x o e
 obtain⟨h2,-⟩:=Array.getElem?_eq_some_iff.1 h1
 show(w.heap++os)[x]?=some o
 rw[Array.getElem?_append_left h2]
 exact h1
theorem Sat.ahead{G:cC}{w:World}{H:List HP}(hs:Sat G w H)(n:Nat):Sat G (Sort.ahead w n) H:=hs.draw _ (Nat.le_add_right _ _)
theorem Sat.abU{G:cC}{w:World}{H:List HP}{b:Nat}{l l':List Value}{e:TypeId}(hs:Sat G w (ag b (cl l e)::H))(f:Array Value→Array Value)(hf:f l.toArray=l'.toArray):Sat G (Sort.mapBlock w b f) (ag b (cl l' e)::H):=by
 have hb:=hs.get (i:=0) rfl
 obtain⟨cW,qM⟩:=Array.getElem?_eq_some_iff.1 hb
 have hm:w.heap.modify b (Sort.onCells f)=w.heap.setIfInBounds b (cl l' e):=by
  apply Array.ext_getElem?
  intro i
  rw[Array.getElem?_modify,Array.getElem?_setIfInBounds]
  by_cases h:b=i
  ·subst h
   rw[if_pos rfl,if_pos rfl,if_pos cW,hb]
   simp only[Option.map_some]
   unfold cl Sort.onCells
   simp only[hf]
  ·rw[if_neg h,if_neg h]
 unfold Sort.mapBlock
 rw[hm]
 exact hs.Bu
variable{P:Program}{ρ:Ren}{α:Type}[Inhabited α]
theorem BE(pre cs j6 bQ:List Value)(hl:j6.length=cs.length):Sort.putCells id pre.length j6.toArray (pre++cs++bQ).toArray=(pre++j6++bQ).toArray:=by
 apply Array.ext_getElem?
 intro i
 unfold Sort.putCells
 rw[Array.getElem?_mapIdx]
 simp only[List.getElem?_toArray,id,List.size_toArray]
 rcases Nat.lt_or_ge i pre.length with h|h
 ·rw[List.append_assoc,List.append_assoc,List.getElem?_append_left h,List.getElem?_append_left h]
  cases pre[i]? with
  | none=>rfl
  | some x=>simp only[Option.map_some];rw[if_neg ah]
 ·rw[List.append_assoc,List.append_assoc,List.getElem?_append_right h,List.getElem?_append_right h]
  rcases Nat.lt_or_ge (i-pre.length) j6.length with h2|h2
  ·rw[List.getElem?_append_left ah,List.getElem?_append_left h2,List.getElem?_eq_getElem ah,List.getElem?_eq_getElem h2]
   simp only[Option.map_some]
   rw[if_pos ⟨h,ah⟩,getElem!_pos _ _ (by simpa using h2)]
   simp
  ·rw[List.getElem?_append_right ah,List.getElem?_append_right h2,hl]
   cases bQ[i-pre.length-cs.length]? with
   | none=>rfl
   | some x=>simp only[Option.map_some];rw[if_neg ah]
theorem Kz{w:World}{b:Nat}{e:TypeId}{pre cs bQ:List Value}(hb:w.heap[b]?=some (cl (pre++cs++bQ) e)):Sort.Holds id w b pre.length cs.toArray:=by
 intro j hj
 simp only[List.size_toArray]at hj
 constructor
 ·unfold World.cell?
  simp only[hb,cl,Option.isSome_none,Bool.false_eq_true,if_false,List.getElem?_toArray]
  rw[List.append_assoc,List.getElem?_append_right ah,Nat.add_sub_cancel_left,List.getElem?_append_left hj,getElem!_pos _ _ (by simpa using hj),List.getElem?_eq_getElem hj]
  simp
 ·unfold World.frozen?
  simp only[hb,cl]
  simp
end Go.SL
namespace Go.SL
open Go.Proofs Go.Shelf Go.RowKit Go.Lib Go.Sort
variable{P:Program}{ρ:Ren}
theorem C5(L:SlLaysN.n54 P ρ)(e:TypeId)(v:Value)(l:List (List UInt8))(W8:P.funcs[ρ.f 54]?.map nU=some true)(ir:l.length<4611686018427387904) :
  aD P (ρ.f 54) [v] [aB e 1 v l.length (l.map encStr)] (fun r H=>r = .tuple #[]∧H=[aB e 1 v l.length ((l.mergeSort fun x y=>decide (x≤y)).map encStr)]):=by
 refine⟨W8,fun G w F hs=>?_⟩
 obtain⟨t,o,u,hp,Ky,hA,hB,⟨hl,iv⟩,Xt,hd,he⟩:=hs
 rcases iv with⟨a0,rfl,hn,Ei⟩|⟨b,oo,cap,pre,bQ,rfl,mz,hn,jl,wm⟩
 ·have N9:l=[]:=List.eq_nil_of_length_eq_zero hn
  subst N9
  refine(AnyG.slices_Sort_string_none L a0 0 w).mono ?_
  rintro e' w'⟨rfl,rfl⟩
  exact⟨_,_,rfl,⟨rfl,rfl⟩,t,o,u,hp,Ky,hA,hB,⟨by simp,.inl ⟨a0,rfl,rfl,Ei⟩⟩,Xt,hd,he⟩
 ·have zF:Sat G w (ag b (cl (pre++l.map encStr++bQ) e)::F):=⟨t,o,u,hp,Ky,hA,hB,wm,Xt,hd,he⟩
  have hb:=zF.get (i:=0) rfl
  have cW:=zF.lt (i:=0) rfl
  subst mz
  have hH:Sort.Holds encStr w b pre.length l.toArray:=by
   have h0:=Kz hb
   intro j hj
   have:=h0 j (by simpa using hj)
   simp only[List.size_toArray]at hj
   rw[getElem!_pos (l.map encStr).toArray j (by simpa using hj)]at this
   rw[getElem!_pos l.toArray j (by simpa using hj)]
   simpa using this
  have hS:=AnyG.slices_Sort_string L b pre.length cap l w hH cW ir
  refine hS.mono ?_
  rintro e' w'⟨rfl,n,os,rfl⟩
  refine⟨_,_,rfl,⟨rfl,rfl⟩,?_⟩
  have BR:(l.mergeSort fun x y=>decide (x≤y)).length=l.length:=List.length_mergeSort _
  have h3:=(zF.ahead n).abU (Sort.putCells encStr pre.length (l.mergeSort fun x y=>decide (x≤y)).toArray) (l':=pre++(l.mergeSort fun x y=>decide (x≤y)).map encStr++bQ) (by
   refine Eq.trans ?_ (BE pre (l.map encStr) ((l.mergeSort fun x y=>decide (x≤y)).map encStr) bQ (by rw[List.length_map,List.length_map,BR]))
   unfold Sort.putCells
   congr 1
   funext i x
   simp only[List.size_toArray,List.length_map,id]
   split
   ·rename_i h
    rw[getElem!_pos (List.map encStr _).toArray (i-pre.length) (by simp;omega),getElem!_pos (l.mergeSort fun x y=>decide (x≤y)).toArray (i-pre.length) (by simp;omega)]
    simp
   ·rfl)
  have h4:=h3.grown os
  refine h4.cy ?_
  exact lL rfl hn (by rw[List.length_map]at jl ⊢;rw[BR];exact jl) (by rw[List.length_map,BR,Nat.mul_one]) F
end Go.SL
namespace Go.Proofs.YtedjnjkijiddlaaGreatDoor
open Go Go.Shelf
def Ak:Go.Shelf.Ren:=⟨fun|54=>179|64=>212|65=>211|78=>237|79=>238|80=>228|81=>229|82=>230|83=>231|84=>232|85=>233|61=>234|86=>235|87=>236|93=>248|89=>249|90=>250|94=>251|95=>252|69=>253|97=>255|n=>n,fun|25=>131|26=>9|3=>3|51=>110|0=>0|67=>139|69=>118|4=>4|61=>273|60=>272|44=>189|5=>5|9=>9|75=>289|79=>293|83=>295|84=>296|n=>n,fun|n=>n⟩
theorem Z4:Go.Proofs.SlLaysN.n54 Tryz.prog Ak:={
  mixed:=by kernel_rfl,
  f54:=⟨Tryz.f179.name,by decide,Tryz.func179.trans (congrArg some (by kernel_rfl))⟩,
  f61:=⟨Tryz.f234.name,by decide,Tryz.func234.trans (congrArg some (by kernel_rfl))⟩,
  f64:=Tryz.func212.trans (congrArg some (by kernel_rfl)),
  f65:=⟨Tryz.f211.name,by decide,Tryz.func211.trans (congrArg some (by kernel_rfl))⟩,
  f69:=⟨Tryz.f253.name,by decide,Tryz.func253.trans (congrArg some (by kernel_rfl))⟩,
  f78:=Tryz.func237.trans (congrArg some (by kernel_rfl)),
  f79:=Tryz.func238.trans (congrArg some (by kernel_rfl)),
  f80:=⟨Tryz.f228.name,by decide,Tryz.func228.trans (congrArg some (by kernel_rfl))⟩,
  f81:=⟨Tryz.f229.name,by decide,Tryz.func229.trans (congrArg some (by kernel_rfl))⟩,
  f82:=⟨Tryz.f230.name,by decide,Tryz.func230.trans (congrArg some (by kernel_rfl))⟩,
  f83:=⟨Tryz.f231.name,by decide,Tryz.func231.trans (congrArg some (by kernel_rfl))⟩,
  f84:=⟨Tryz.f232.name,by decide,Tryz.func232.trans (congrArg some (by kernel_rfl))⟩,
  f85:=⟨Tryz.f233.name,by decide,Tryz.func233.trans (congrArg some (by kernel_rfl))⟩,
  f86:=⟨Tryz.f235.name,by decide,Tryz.func235.trans (congrArg some (by kernel_rfl))⟩,
  f87:=⟨Tryz.f236.name,by decide,Tryz.func236.trans (congrArg some (by kernel_rfl))⟩,
  f89:=Tryz.func249.trans (congrArg some (by kernel_rfl)),
  f90:=Tryz.func250.trans (congrArg some (by kernel_rfl)),
  f93:=⟨Tryz.f248.name,by decide,Tryz.func248.trans (congrArg some (by kernel_rfl))⟩,
  f94:=⟨Tryz.f251.name,by decide,Tryz.func251.trans (congrArg some (by kernel_rfl))⟩,
  f95:=⟨Tryz.f252.name,by decide,Tryz.func252.trans (congrArg some (by kernel_rfl))⟩,
  f97:=⟨Tryz.f255.name,by decide,Tryz.func255.trans (congrArg some (by kernel_rfl))⟩,
  t0:=Tryz.underlying0,
  a0:=Tryz.isAgg0,
  z0:=Tryz.sizeOf0,
  v0:=Tryz.zeroValue0,
  t3:=Tryz.underlying3,
  a3:=Tryz.isAgg3,
  z3:=Tryz.sizeOf3,
  v3:=Tryz.zeroValue3,
  t4:=Tryz.underlying4,
  a4:=Tryz.isAgg4,
  z4:=Tryz.sizeOf4,
  v4:=Tryz.zeroValue4,
  t5:=Tryz.underlying5,
  a5:=Tryz.isAgg5,
  z5:=Tryz.sizeOf5,
  v5:=Tryz.zeroValue5,
  t9:=Tryz.underlying9,
  a9:=Tryz.isAgg9,
  z9:=Tryz.sizeOf9,
  v9:=Tryz.zeroValue9,
  t25:=Tryz.underlying131,
  a25:=Tryz.isAgg131,
  z25:=Tryz.sizeOf131,
  v25:=Tryz.zeroValue131,
  t26:=Tryz.underlying9,
  a26:=Tryz.isAgg9,
  z26:=Tryz.sizeOf9,
  v26:=Tryz.zeroValue9,
  t44:=Tryz.underlying189,
  a44:=Tryz.isAgg189,
  z44:=Tryz.sizeOf189,
  v44:=Tryz.zeroValue189,
  t51:=Tryz.underlying110,
  a51:=Tryz.isAgg110,
  z51:=Tryz.sizeOf110,
  v51:=Tryz.zeroValue110,
  t60:=Tryz.underlying272,
  a60:=Tryz.isAgg272,
  z60:=Tryz.sizeOf272,
  v60:=Tryz.zeroValue272,
  t61:=Tryz.underlying273,
  a61:=Tryz.isAgg273,
  z61:=Tryz.sizeOf273,
  v61:=Tryz.zeroValue273,
  t67:=Tryz.underlying139,
  a67:=Tryz.isAgg139,
  z67:=Tryz.sizeOf139,
  v67:=Tryz.zeroValue139,
  t69:=Tryz.underlying118,
  a69:=Tryz.isAgg118,
  z69:=Tryz.sizeOf118,
  v69:=Tryz.zeroValue118,
  t75:=Tryz.underlying289,
  a75:=Tryz.isAgg289,
  z75:=Tryz.sizeOf289,
  v75:=Tryz.zeroValue289,
  t79:=Tryz.underlying293,
  a79:=Tryz.isAgg293,
  z79:=Tryz.sizeOf293,
  v79:=Tryz.zeroValue293,
  t83:=Tryz.underlying295,
  a83:=Tryz.isAgg295,
  z83:=Tryz.sizeOf295,
  v83:=Tryz.zeroValue295,
  t84:=Tryz.underlying296,
  a84:=Tryz.isAgg296,
  z84:=Tryz.sizeOf296,
  v84:=Tryz.zeroValue296 }
end Go.Proofs.YtedjnjkijiddlaaGreatDoor
namespace Go.Proofs.YtedjnjkijiddlaaGreatDoor
open Go Go.SL
def sS(l:List ByteArray):List Value:=l.map Value.string
theorem V4(l:List ByteArray):∀v∈sS l,v.oneCell'=true:=by
 intro v hv
 obtain⟨x,_,rfl⟩:=List.mem_map.1 hv
 rfl
def SI(bs:Nat)(ks:List ByteArray):HP:=fun h=>∃v:Value,True∧Sep [ag bs (cl [v] 131),aB 9 1 v ks.length (sS ks)] h
theorem Jj(bs:Nat)(ks:List ByteArray):∀h,SI bs ks h→∃v:Value,True∧Sep [ag bs (cl [v] 131),aB 9 1 v ks.length (sS ks)] h:=fun h hs=>hs
theorem E0(bs:Nat)(ks:List ByteArray)(v:Value)(H:List HP):ao (ag bs (cl [v] 131)::aB 9 1 v ks.length (sS ks)::H) (SI bs ks::H) :=
 ao.fold (A:=SI bs ks) (B:=[ag bs (cl [v] 131),aB 9 1 v ks.length (sS ks)]) fun h hs=>⟨h,sub.refl h,v,trivial,hs⟩
theorem RT:mh Tryz.prog 9 Value.string:=NC Tryz.underlying9
attribute [local irreducible] J K aD Ends ag aB aM bN aZ aP aV bh bW SI
theorem Pf(bm:Nat):aD Tryz.prog 121 [.map (some bm)] [] (fun r H=>∃bx,r = .func (.func 180) #[] #[ptr bx]∧H=[ag bx (cl [.map (some bm)] 72)]):=by
 refine aD.enter Tryz.func121 ak rfl Tryz.ntmps121 zr zr ?_
 intro G F R hE
 refine go ?_
 refine bC zr zr bz ?_
 intro bx
 refine go ?_
 ((refine ae hE Tryz.func121 rfl _ rfl ⟨bx,rfl,rfl⟩ ad))
theorem LG(l bx bm:Nat)(es:List (ByteArray × Value))(j4:(es.map (·.1)).Nodup)(Lp:HP)(Inv:List ByteArray→HP)(hy:∀dn k,k∈es.map (·.1)→dn.length<es.length→bW Tryz.prog l [.string k] [Lp,Inv dn] (fun v H=>v = .bool true∧H=[Lp,Inv (dn++[k])])) :
  aD Tryz.prog 180 [.func (.yield l) #[] #[],ptr bx] [Lp,ag bx (cl [.map (some bm)] 72),aM Value.string bm es,Inv [] ] (fun _ H=>∃dn:List ByteArray,dn.Perm (es.map (·.1))∧H=[Lp,ag bx (cl [.map (some bm)] 72),aM Value.string bm es,Inv dn]):=by
 refine aD.enter Tryz.func180 ak rfl Tryz.ntmps180 zr zr ?_
 intro G F R hE
 refine aj (ao.pick [2,0,1] rfl) ?_
 refine go ?_
 refine wG (kv:=Value.string) (es:=es) (U:=aN) 0 zr zr zr zr zr (fun _=>rfl) bz ?_
 intro it
 refine go ?_
 refine bu (fun s:List ByteArray=>s.Nodup∧∀x∈s,x∈es.map (·.1)) (fun s=>es.length-s.length) (fun s=>[(0,.func (.yield l) #[] #[]),(5,.pointer (some ⟨it,0,none⟩))])
  (fun s=>bN Value.string bm it es s::Lp::ag bx (cl [.map (some bm)] 72)::Inv s.reverse::F) [] ⟨List.nodup_nil,by simp⟩ rfl cu ad ?_
 rintro dn⟨ym,er⟩ ih
 refine go ?_
 refine Cu (kv:=Value.string) (es:=es) 0 rfl RT.inj zr zr (fun _=>rfl) gE bz ?_ ?_
 ·intro eZ
  refine go ?_
  refine aj (ao.head (B:=[aM Value.string bm es]) (fun h hs=>by obtain⟨h',s,hm⟩:=qF h hs;exact⟨h',s,fU hm⟩)) ?_
  have hp:dn.reverse.Perm (es.map (·.1)):=(List.reverse_perm dn).trans ((List.perm_ext_iff_of_nodup ym j4).2 fun a=>⟨er a,fun h=>by obtain⟨y,hy,rfl⟩:=List.mem_map.1 h;exact eZ y hy⟩)
  ((refine bS hE Tryz.func180 rfl _ rfl ⟨_,hp,rfl⟩ ad))
 ·intro key v fg vP
  have hk:key∈es.map (·.1):=List.mem_map.2 ⟨_,fg,rfl⟩
  have cW:dn.length<es.length:=by
   have h1:((List.filter (fun x=>decide (x∈dn)) (es.map (·.1)))).length≤(es.map (·.1)).length:=List.length_filter_le _ _
   have h2:dn.length=(List.filter (fun x=>decide (x∈dn)) (es.map (·.1))).length:=Gz ym (j4.sublist List.filter_sublist) (fun n=>by
    simp only[List.mem_filter,decide_eq_true_eq]
    exact⟨fun h=>⟨er n h,h⟩,fun h=>h.2⟩)
   rw[List.length_map]at h1
   rcases Nat.lt_or_ge dn.length es.length with h|h
   ·exact h
   ·exfalso
    have h3:(List.filter (fun x=>decide (x∈dn)) (es.map (·.1))).length=(es.map (·.1)).length:=by rw[List.length_map];omega
    have h4:=List.filter_eq_self.1 ((List.filter_sublist (p:=fun x=>decide (x∈dn)) (l:=es.map (·.1))).eq_of_length h3) key hk
    exact vP (of_decide_eq_true h4)
  refine go ?_
  refine wK (kv:=Value.string) (es:=es) 0 rfl RT.inj zr zr fg ?_
  refine go ?_
  refine kE zr zr zr (hy dn.reverse key hk (by rw[List.length_reverse];exact cW)) ad ?_ bG
  rintro _ _⟨rfl,rfl⟩
  rw[show dn.reverse++[key]=(key::dn).reverse from by simp]
  refine go ?_
  refine aL ih (key::dn) rfl (⟨List.nodup_cons.2 ⟨vP,ym⟩,fun x hx=>by rcases List.mem_cons.1 hx with rfl|h;exact hk;exact er x h⟩) (by show _-(key::dn).length<_;simp only[List.length_cons];omega) cu ad
theorem zT(bx bm:Nat)(es:List (ByteArray × Value))(j4:(es.map (·.1)).Nodup)(rh:es.length≤1000000) :
  aD Tryz.prog 210 [.slice none 0 0,.func (.func 180) #[] #[ptr bx] ] [ag bx (cl [.map (some bm)] 72),aM Value.string bm es] (fun r H=>∃dn:List ByteArray,dn.Perm (es.map (·.1))∧H=[aB 9 1 r dn.length (sS dn),ag bx (cl [.map (some bm)] 72),aM Value.string bm es]):=by
 refine aD.enter Tryz.func210 ak rfl Tryz.ntmps210 zr zr ?_
 intro G F R hE
 refine aE rfl ?_
 refine bC zr zr bz ?_
 intro bs
 refine go ?_
 refine iR rfl ?_
 refine aj (ao.trans (ao.cons _ (bJ 9 1 none _)) (E0 bs [] (.slice none 0 0) _)) ?_
 refine wD (Fr:=F) (Pre:=fun _ _=>[ag bx (cl [.map (some bm)] 72),aM Value.string bm es,SI bs [] ]) (Post:=?Po) rfl hE.1.1 rfl ?c (fun l r=>ad) ?hG
 case c =>
  intro l r
  refine LG l bx bm es j4 _ (fun dn=>SI bs dn) ?_
  intro dn k hk cW
  refine bW.DG zr zr ?_
  intro G2 F2 R2 hY
  refine go ?_
  refine fV rfl hY ?_
  refine aj (ao.pick [1] rfl) ?_
  refine eE (Jj bs dn) ?_
  rintro v -
  refine dv 1 rfl ?_
  rintro va vc rfl
  refine go ?_
  refine al (cs:=sS [k]) zr zr zr zr zr zr zr zr zr bz ?_
  intro row
  refine go ?_
  refine aO (mm:=1) (news:=sS [k]) 2 0 zr zr zr zr zr zr zr zr zr zr zr zr (Vw.ag rfl) rfl (V4 _) ah (by show(_+1)*16≤_;omega) (fun _=>rfl) bz ?_
  intro v1
  rw[show sS dn++sS [k]=sS (dn++[k])from by simp[sS],show dn.length+1=(dn++[k]).length from by simp]
  ((refine aJ 2 rfl ?_))
  rintro va2 vc2 rfl
  refine go ?_
  refine aj (ao.trans ad (E0 bs (dn++[k]) (.slice va2 (dn++[k]).length vc2) _)) ?_
  refine fu hY rfl ad ⟨rfl,rfl⟩
 intro l r v H fp
 obtain⟨dn,hp,rfl⟩:=fp
 refine⟨_,_,_,rfl,by decide,?_⟩
 rw[hE.1.2]
 refine aj (ao.pick [2] rfl) ?_
 refine eE (Jj bs dn) ?_
 rintro w -
 refine go ?_
 refine qT hE Tryz.func210 rfl _ rfl ⟨dn,hp,rfl⟩ ad
theorem Fv(bx bm:Nat)(es:List (ByteArray × Value))(j4:(es.map (·.1)).Nodup)(rh:es.length≤1000000) :
  aD Tryz.prog 178 [.func (.func 180) #[] #[ptr bx] ] [ag bx (cl [.map (some bm)] 72),aM Value.string bm es] (fun r H=>∃dn:List ByteArray,dn.Perm (es.map (·.1))∧H=[aB 9 1 r dn.length (sS dn),ag bx (cl [.map (some bm)] 72),aM Value.string bm es]):=by
 refine aD.enter Tryz.func178 ak rfl Tryz.ntmps178 zr zr ?_
 intro G F R hE
 refine go ?_
 ((refine ai zr zr zr zr (zT bx bm es j4 rh) ad ?_ bG))
 rintro w _⟨dn,hp,rfl⟩
 refine go ?_
 ((refine ae hE Tryz.func178 rfl _ rfl ⟨dn,hp,rfl⟩ ad))
def nS(l:List (List UInt8)):List Value:=l.map Go.Proofs.encStr
theorem Z5(l:List ByteArray):sS l=nS (l.map fun b=>b.data.toList):=by
 unfold sS nS
 rw[List.map_map]
 rfl
theorem Lu(v:Value)(l:List ByteArray)(hl:l.length≤1000000000):aD Tryz.prog 179 [v] [aB 9 1 v l.length (sS l)] (fun r H=>r = .tuple #[]∧H=[aB 9 1 v l.length (nS (pC l))]):=by
 have h:=C5 (ρ:=Ak) Z4 9 v (l.map fun b=>b.data.toList) ak (by rw[List.length_map];omega)
 rw[List.length_map]at h
 rw[Z5]
 exact h
theorem Hy(bx bm:Nat)(es:List (ByteArray × Value))(j4:(es.map (·.1)).Nodup)(rh:es.length≤1000000) :
  aD Tryz.prog 120 [.func (.func 180) #[] #[ptr bx] ] [ag bx (cl [.map (some bm)] 72),aM Value.string bm es] (fun r H=>H=[aB 9 1 r es.length (nS (pC (es.map (·.1)))),ag bx (cl [.map (some bm)] 72),aM Value.string bm es]):=by
 refine aD.enter Tryz.func120 ak rfl Tryz.ntmps120 zr zr ?_
 intro G F R hE
 refine go ?_
 ((refine ai zr zr zr zr (Fv bx bm es j4 rh) ad ?_ bG))
 rintro w _⟨dn,hp,rfl⟩
 have hlen:dn.length=es.length:=by rw[hp.length_eq,List.length_map]
 ((refine aJ 0 rfl ?_))
 rintro wa wc rfl
 refine go ?_
 ((refine ai zr zr zr zr (Lu (.slice wa dn.length wc) dn ah) ad ?_ bG))
 rintro _ _⟨rfl,rfl⟩
 rw[F8 hp,hlen]
 refine go ?_
 ((refine ae hE Tryz.func120 rfl _ zr zr ad))
theorem LD(bd:Nat)(D:Dk)(A:Ab)(hR:Rel D A):aD Tryz.prog 66 [ptr bd] [gS bd D] (fun r H=>H=[aB 9 1 r (dU A).length (nS (pC (dU A))),gS bd D]):=by
 have j4:=hR.nodup _ (List.mem_cons_self ..)
 have zE:=hR.fj _ (List.mem_cons_self ..)
 have AI:(eK A.names).map (·.1)=dU A:=by simp[eK,dU,Function.comp_def]
 have WX:(eK A.names).length=(dU A).length:=by simp[eK,dU]
 have gb:(dU A).length≤200:=by unfold dU;rw[List.length_map];exact zE
 obtain⟨jm,Yn⟩:=List.getElem?_of_mem hR.names
 obtain⟨room,bm,kA,og,nA,off,maps,dS,files,gk,wl⟩:=D
 simp only at Yn
 refine aD.enter Tryz.func66 ak rfl Tryz.ntmps66 zr zr ?_
 intro G F R hE
 refine aj (iQ _ _ _ _ _ _ _ _ _ _ _ _ _) ?_
 refine go ?_
 ((refine ai zr zr zr zr (Pf bm) ad ?_ bG))
 rintro _ _⟨bx,rfl,rfl⟩
 have hso:=Hy bx bm (eK A.names) (by rw[AI];exact j4) ah
 rw[AI,WX]at hso
 refine aG (ao.pick [2] rfl) ?_
 refine aG (gU kJ Yn _) ?_
 refine aG (ao.pick [2,0] rfl) ?_
 refine go ?_
 refine ai zr zr zr zr hso ad ?_ bG
 rintro v _ rfl
 refine aG (ao.pick [2,3] rfl) ?_
 refine aG (pz kJ Yn _) ?_
 refine go ?_
 refine aj ((ao.pick [3,0,4,5,6,7] rfl).trans (dY _ _ _ _ _ _ _ _ _ _ _ _ _)) ?_
 ((refine ae hE Tryz.func66 rfl _ zr zr ad))
end Go.Proofs.YtedjnjkijiddlaaGreatDoor
namespace Go.Proofs.YtedjnjkijiddlaaGreatDoor
open Go Go.SL
attribute [local irreducible] J K aD Ends ag aB aM bN aZ aP aV bh bW Sha.chunks Sha.chunk Sha.rounds Sha.sched dM ct GI cU
structure Jv(A:Ab):Prop where
 ids:(A.fs.map (·.1)).Nodup
 known:∀st∈A.names::A.aq,∀x∈st,x.2∈A.fs.map (·.1)
 gK:∀x∈A.writes,x.1∈A.fs.map (·.1)
 nodup:∀st∈A.names::A.aq,(st.map (·.1)).Nodup
 gl:∀x∈A.fs,x.2.1.length≤1048576∧x.2.2.length≤1048576
 gW:∀x∈A.writes,x.2.1+x.2.2.length≤1048576
 fj:∀st∈A.names::A.aq,st.length≤200
 gX:A.room≤1073741824
 full:A.aq≠[]
theorem Jv.of{D:Dk}{A:Ab}(h:Rel D A):Jv A:=⟨h.ids,h.known,h.gK,h.nodup,h.gl,h.gW,h.fj,h.gX,h.full⟩
theorem Jv.file{A:Ab}(h:Jv A)(f:Nat):(A.file f).1.length≤1048576∧(A.file f).2.length≤1048576:=by
 unfold Ab.file
 cases hx:A.fs.find? (fun x=>decide (x.1=f))with
 | none=>simp
 | some x=>exact h.gl x (List.mem_of_find?_eq_some hx)
theorem Jv.now{A:Ab}(h:Jv A)(f:Nat):(A.now f).length≤1048576:=(h.file f).1
theorem BW{G:cC}{w:World}{H:List HP}(hs:Sat G w H){i:Nat}{A:HP}(hi:cq H i=some A):∃h,A h:=let ⟨h,_,hA⟩:=hs.kQ hi;⟨h,hA⟩
theorem ED{bd:Nat}{A:Ab}{h:Hp}(hd:aC bd A h):Jv A:=let ⟨_,hR,_⟩:=hd;Jv.of hR
section
variable{P:Program}{f:FuncId}{n:Nat}{R:Ending→World→Prop}{G:cC}{k:List Item}{L:fC}{H:List HP}{S:World→Prop}{all:Array Oper}{rest:Pl}
theorem tU{bd:Nat}{A:Ab}(i:Nat)(hi:cq H i=some (aC bd A))(h:Jv A→K P f n R G k L H):K P f n R G k L H :=
 rN fun⟨w,hw⟩=>by obtain⟨h1,hA⟩:=BW hw hi;exact h (ED hA)
theorem Jo{bd:Nat}{A:Ab}(i:Nat)(hi:cq H i=some (aC bd A))(h:Jv A→J P f n R G S all rest k L H):J P f n R G S all rest k L H :=
 ze fun w hw=>by obtain⟨h1,hA⟩:=BW hw hi;exact h (ED hA)
end
attribute [local irreducible] aC
def ej(bd:Nat)(q:Int)(mb:Nat)(brk:Bool):List Value:=[ptr bd,.int .i64 q,.map (some mb),.bool brk]
theorem nP(kind:List UInt8)(d:Dg)(hk:kind.length≤1000):aD Tryz.prog 63 [.string (strOf kind),dV d] [] (fun r H=>r = .string (du kind d)∧H=[]):=by
 have ht:=O0 d
 unfold dV at ht ⊢
 refine aD.enter Tryz.func63 ak rfl Tryz.ntmps63 zr zr ?_
 intro G F R hE
 refine aE rfl ?_
 refine bC zr zr bz ?_
 intro b3
 refine go ?_
 refine aH (U:=aN) (l:=dC d) 0 zr zr zr zr zr zr ?_
 ((refine ai zr zr zr zr (ht) ad ?_ bG))
 rintro _ _⟨rfl,rfl⟩
 refine zc zr zr zr (by show kind.length+(gP d).length≤_;rw[js];omega) ?_
 ((refine az 8 ((.string (du kind d))) rfl ((congrArg Value.string (by unfold du strOf;apply ByteArray.ext;simp))) ?_))
 refine go ?_
 ((refine ae hE Tryz.func63 rfl _ rfl ⟨rfl,rfl⟩ ad))
def En(o:Option Dg):Value:=match o with
 | none => .tuple #[dV Dg.zero,.bool false]
 | some d => .tuple #[dV d,.bool true]
theorem OC(s:ByteArray)(k:Nat):s.extract (0:Int).toNat (k:Int).toNat=strOf (s.data.toList.take k):=by
 unfold strOf
 apply ByteArray.ext
 apply Array.ext'
 rw[ByteArray.data_extract]
 simp
theorem OD(s:ByteArray)(k:Nat):s.extract (k:Int).toNat (s.size:Int).toNat=strOf (s.data.toList.drop k):=by
 unfold strOf
 apply ByteArray.ext
 apply Array.ext'
 have:s.size=s.data.toList.length:=rfl
 rw[ByteArray.data_extract,this]
 simp
 rw[List.take_of_length_le (by simp)]
set_option maxRecDepth 20000 in
theorem Em(kind:List UInt8)(nm:ByteArray)(hk:kind.length≤1000):aD Tryz.prog 122 [.string (strOf kind),.string nm] [] (fun r H=>r=En (jx kind nm)∧H=[]):=by
 have WW:(strOf kind).size=kind.length:=rfl
 have PT:nm.size=nm.data.toList.length:=rfl
 refine aD.enter Tryz.func122 ak rfl Tryz.ntmps122 zr zr ?_
 intro G F R hE
 refine aE rfl ?_
 refine aw zr zr zr bz ?_
 intro b4
 have hN:¬kind.isPrefixOf nm.data.toList=true→jx kind nm=none:=fun h=>by unfold jx;rw[if_neg h]
 have hP:kind.isPrefixOf nm.data.toList=true→jx kind nm=jJ (nm.data.toList.drop kind.length):=fun h=>by unfold jx;rw[if_pos h]
 have Of:kind.isPrefixOf nm.data.toList=true↔nm.data.toList.take kind.length=kind:=by
  rw[List.isPrefixOf_iff_prefix,List.prefix_iff_eq_take]
  exact eq_comm
 refine go ?_
 refine iC zr zr zr zr ?_ ?_
 ·intro cW
  have N4:=hN (fun h=>by rw[Of]at h;have:=congrArg List.length h;rw[List.length_take]at this;omega)
  rw[N4]at hE
  refine go ?_
  refine jT (U:=aN) zr zr zr zr zr ?_
  refine go ?_
  (refine aS hE ?_;apply aQ (U:=aN) hE Tryz.func122 rfl (ao.refl _);(repeat(first|exact aI.nil|apply aI.tmp rfl|apply aI.agg 0 zr zr zr zr zr));exact⟨rfl,rfl⟩;exact ad)
 ·intro fq
  have Yl:(kind.length:Int)≤(nm.size:Int):=by omega
  refine go ?_
  refine zd (U:=aN) (p:=0) (q:=(kind.length:Int)) zr zr zr zr zr zr (Int.le_refl _) (Int.natCast_nonneg _) Yl ?_
  ((refine az 17 ((.string (strOf (nm.data.toList.take kind.length)))) rfl ((congrArg Value.string (OC nm kind.length))) ?_))
  refine go ?_
  refine bB 20 (.bool (!decide (nm.data.toList.take kind.length=kind))) rfl (by rw[AU]) ?_
  by_cases hp:nm.data.toList.take kind.length=kind
  ·rw[decide_eq_true hp]
   have hh:=hP (Of.2 hp)
   rw[hh]at hE
   refine go ?_
   refine zd (U:=aN) (p:=(kind.length:Int)) (q:=(nm.size:Int)) zr zr zr zr zr zr (Int.natCast_nonneg _) Yl (Int.le_refl _) ?_
   ((refine az 26 ((.string (strOf (nm.data.toList.drop kind.length)))) rfl ((congrArg Value.string (OD nm kind.length))) ?_))
   have aaq:=Ly (strOf (nm.data.toList.drop kind.length))
   rw[rS]at aaq
   ((refine ai zr zr zr zr (aaq) ad ?_ bG))
   rintro _ _⟨rfl,rfl⟩
   cases pT:jJ (nm.data.toList.drop kind.length)with
   | none =>
    rw[pT]at hE
    simp only
    unfold dV
    refine go ?_
    refine aw zr zr zr bz ?_
    intro b6
    refine go ?_
    refine aH (U:=aN) (l:=dC Dg.zero) 0 zr zr zr zr zr zr ?_
    refine go ?_
    (refine aS hE ?_;apply aQ (U:=aN) hE Tryz.func122 rfl (ao.refl _);(repeat(first|exact aI.nil|apply aI.tmp rfl|apply aI.agg 1 zr zr zr zr zr));exact⟨rfl,rfl⟩;exact ad)
   | some d =>
    rw[pT]at hE
    simp only
    unfold dV
    refine go ?_
    refine aw zr zr zr bz ?_
    intro b6
    refine go ?_
    refine aH (U:=aN) (l:=dC d) 0 zr zr zr zr zr zr ?_
    refine go ?_
    (refine aS hE ?_;apply aQ (U:=aN) hE Tryz.func122 rfl (ao.refl _);(repeat(first|exact aI.nil|apply aI.tmp rfl|apply aI.agg 1 zr zr zr zr zr));exact⟨rfl,rfl⟩;exact ad)
  ·rw[decide_eq_false hp]
   have N4:=hN (fun h=>hp (Of.1 h))
   rw[N4]at hE
   refine go ?_
   refine jT (U:=aN) zr zr zr zr zr ?_
   refine go ?_
   (refine aS hE ?_;apply aQ (U:=aN) hE Tryz.func122 rfl (ao.refl _);(repeat(first|exact aI.nil|apply aI.tmp rfl|apply aI.agg 0 zr zr zr zr zr));exact⟨rfl,rfl⟩;exact ad)
theorem Mz(A:Ab)(nm:ByteArray):decide (((A.size nm).2:Int)=0)=sl A nm:=by
 unfold Ab.size sl
 cases A.look nm <;> rfl
theorem NH(bs bd:Nat)(q:Int)(mb:Nat)(brk:Bool)(A:Ab)(nm:ByteArray):aD Tryz.prog 86 [ptr bs,.string nm] [ag bs (cl (ej bd q mb brk) 123),aC bd A]
  (fun r H=>r = .bool (sl A nm)∧H=[ag bs (cl (ej bd q mb brk) 123),aC bd A]):=by
 have hs:=Mz A nm
 refine aD.enter Tryz.func86 ak rfl Tryz.ntmps86 zr zr ?_
 intro G F R hE
 refine go ?_
 ((refine ai zr zr zr zr (tP bd A nm) ad ?_ bG))
 rintro _ _⟨rfl,rfl⟩
 refine go ?_
 rw[← hs]at hE
 ((refine ae hE Tryz.func86 rfl _ rfl ⟨rfl,rfl⟩ ad))
theorem uU(bs bd:Nat)(q:Int)(mb:Nat)(brk:Bool)(A:Ab)(nm:ByteArray):aD Tryz.prog 109 [ptr bs,.string nm] [ag bs (cl (ej bd q mb brk) 123),aC bd A]
  (fun r H=>∃rv,r = .tuple #[rv,.bool (e9 A nm).isSome]∧H=[aB 5 1 rv ((e9 A nm).getD []).length (bV ((e9 A nm).getD [])),ag bs (cl (ej bd q mb brk) 123),aC bd A]):=by
 refine aD.enter Tryz.func109 ak rfl Tryz.ntmps109 zr zr ?_
 intro G F R hE
 refine go ?_
 ((refine ai zr zr zr zr (tP bd A nm) ad ?_ bG))
 rintro _ _⟨rfl,rfl⟩
 have hn:A.look nm=none→e9 A nm=none∧A.size nm=(0,4):=fun h=>by unfold e9 Ab.size;rw[h];exact⟨rfl,rfl⟩
 have hr:∀f,A.look nm=some f→A.size nm=((A.now f).length,0)∧A.read nm 0 ((A.now f).length:Int)=((e9 A nm).getD [],if(e9 A nm).isSome then 0 else 7):=fun f h=>by
  unfold e9 Ab.size Ab.read
  rw[h]
  cases jN:A.off with
  | true=>exact⟨rfl,rfl⟩
  | false =>
   refine⟨rfl,?_⟩
   simp only[Bool.false_eq_true,if_false,Option.getD_some,Option.isSome_some,if_true]
   rw[if_neg ah]
   simp
 cases hl:A.look nm with
 | none =>
  obtain⟨h1,h2⟩:=hn hl
  rw[h2]
  rw[h1]at hE
  simp only
  refine go ?_
  refine aj (bJ 5 1 none _) ?_
  ((refine ae hE Tryz.func109 rfl _ rfl ⟨_,rfl,rfl⟩ ad))
 | some f =>
  obtain⟨h1,h2⟩:=hr f hl
  rw[h1]
  simp only
  have vz:=Co bd A nm 0 ((A.now f).length:Int)
  rw[h2]at vz
  refine go ?_
  ((refine ai zr zr zr zr (vz) ad ?_ bG))
  rintro _ _⟨r,rfl,rfl⟩
  generalize e9 A nm=o at hE ⊢
  cases o with
  | none =>
   refine go ?_
   ((refine ae hE Tryz.func109 rfl _ rfl ⟨_,rfl,rfl⟩ ad))
  | some b =>
   refine go ?_
   ((refine ae hE Tryz.func109 rfl _ rfl ⟨_,rfl,rfl⟩ ad))
end Go.Proofs.YtedjnjkijiddlaaGreatDoor
