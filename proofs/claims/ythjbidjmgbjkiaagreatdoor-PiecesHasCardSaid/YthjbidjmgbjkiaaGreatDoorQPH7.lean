/- Texts of one claim, joined: Dd, EngT4, De, Hc, Df, Dh, EngBl, Di. -/
import Derived.Test.YthjbidjmgbjkiaaGreatDoorQPH3
import Derived.Test.YthjbidjmgbjkiaaGreatDoorQPH5
import Derived.Test.YthjbidjmgbjkiaaGreatDoorQPH6
import Derived.Laws.StructEq
set_option linter.unusedSimpArgs false
set_option linter.unusedVariables false
namespace Go.Proofs.YthjbidjmgbjkiaaGreatDoor
open Go Go.SL
attribute [local irreducible] J K aD Ends ag az aL bK aZ aQ aV bg bQ Sha.chunks Sha.chunk Sha.rounds Sha.sched dA
theorem wF(A:HP)(v:Value)(b:List UInt8)(hv:dR A v b)(hl:b.length≤1000000000):aD Tryz.prog 174 [v] [A] (fun r H=>H=[az 5 1 r b.length (bV b),A]):=by
 obtain⟨a,c,rfl,hc⟩:=hv.2
 refine aD.enter Tryz.func174 ak rfl Tryz.ntmps174 zr zr ?_
 intro G F R hE
 cases a with
 | none =>
  have hb:b=[]:=by
   obtain⟨a,cap,h1,h2|⟨x,o,h2,_⟩⟩:=hv.1
   ·simpa[bV]using h2
   ·simp only[Value.slice.injEq]at h1;rw[← h1.1]at h2;cases h2
  subst hb
  refine go ?_
  refine aj (bw 5 1 none _) ?_
  ((refine ae hE Tryz.func174 rfl _ zr zr ad))
 | some a =>
  refine go ?_
  refine au (U:=ao) zr zr zr zr zr zr zr zr zr bp ?_
  intro b0
  refine go ?_
  (refine aG (dZ 5 1 b0 0 0 [] [] _ rfl (Nat.le_refl _) (by simp)) ?_;refine bh (U:=ao) (mm:=(b).length) (news:=bV (b)) 0 1 zr zr zr zr zr zr zr zr zr zr zr zr (hv.1) (by show _=_*1;rw[bt];omega) (cC _) ai (by show(_+_)*1≤_;omega) (fun _=>rfl) bp ?_;intro vA;rw[Nat.zero_add,List.nil_append];((refine aM 0 rfl ?_));rintro aA cA rfl)
  refine go ?_
  ((refine ae hE Tryz.func174 rfl _ zr zr ad))
set_option maxRecDepth 20000 in
theorem uT(A:HP)(hK:mX A)(v:Value)(b:List UInt8)(hv:dR A v b)(hl:b.length≤1000000000) :
    aD Tryz.prog 112 [v] [A] (fun r H=>r=dV (dA b)∧H=[A]):=by
  obtain⟨a,c,rfl,hc⟩:=hv.2
  refine aD.enter Tryz.func112 ak rfl Tryz.ntmps112 zr zr ?_
  intro G F R hE
  refine aE rfl ?_
  refine aN (U:=ao) zr zr zr bp ?_
  intro b2
  (refine nN ?_)
  refine aE rfl ?_
  refine lx (U:=ao) (cs:=wV Sha.start.l) zr zr zr zr zr zr ?_
  refine aN (U:=ao) zr zr zr bp ?_
  intro b3
  refine cn (U:=ao) (l':=wV Sha.start.l) 0 fR zr zr zr zr (by decide) (eC _) zr zr zr ?_
  refine aG (H':=ag b3 (cl (wV (Sha.chunks Sha.start b 0).l) 214)::ag b2 (cl (dC Dg.zero) 36)::A::F) (by unfold Sha.chunks;exact ad) ?_
  refine go ?_
  refine mR zr zr zr ai ai (by simp only[fz];omega) ?_
  refine go ?_
  refine gi zr zr zr (by simp only[fz];omega) ?_
  ((refine aB 15 ((.int .i64 ((64*(b.length/64):Nat):Int))) rfl ((congrArg (Value.int .i64) ai)) ?_))
  refine go ?_
  refine bo (fun q:Nat=>q≤b.length/64) (fun q=>b.length/64-q)
    (fun q=>[(0,.slice a b.length c),(2,ptr b2),(3,ptr b3),(4,.int .i64 ((64*(b.length/64):Nat):Int)),(5,.int .i64 ((64*q:Nat):Int))])
    (fun q=>ag b3 (cl (wV (Sha.chunks Sha.start b q).l) 214)::ag b2 (cl (dC Dg.zero) 36)::A::F) 0 (Nat.zero_le _) rfl bY ad ?_
  rintro q hq ih
  refine go ?_
  refine aw zr zr ?_ ?_
  · intro cO
    have YB:q<b.length/64:=by omega
    have kq:=hv.cut (64*q) ai
    have iZ:=AW A hK _ _ kq (by rw[List.length_drop];omega) (Sha.chunks Sha.start b q)
    have pF:Sha.chunk (Sha.chunks Sha.start b q) (b.drop (64*q))=Sha.chunks Sha.start b (q+1):=by conv=>rhs;unfold Sha.chunks
    rw[pF]at iZ
    have H0:∀s:Sha.St,(wV s.l).length=8:=fun s=>rfl
    refine go ?_
    refine aF (fun w=>Sat G w ([ag b3 (cl (wV (Sha.chunks Sha.start b q).l) 214)])) (.st 0 (.st 1 (.st 2 (.st 3 (.act 4 (.act 5 .nil)))))) rfl ak ak ak (fun w hw=>hw.aX ad) ?_
    refine go ?_
    refine bD (U:=ao) 0 zr zr zr zr zr zr ?_
    refine go ?_
    refine bG (U:=ao) (p:=((64*q:Nat):Int)) (q:=(b.length:Int)) zr zr zr zr zr zr zr ai ai (.inl rfl) ?_
    ((refine aB 24 ((.slice (sliceAt a c (64*q) 1) (b.length-64*q) (c-64*q))) rfl (rfl) ?_))
    ((refine ah rfl rfl rfl rfl (iZ) ad ?_ (fun _ _ w hp hw=>by obtain⟨rfl,rfl⟩:=hp;exact hw.aX ad)))
    rintro _ _⟨rfl,rfl⟩
    unfold My
    refine aS ?_
    refine cn (U:=ao) 1 fR rfl rfl rfl rfl (by intro e;have:=congrArg List.length e;rw[H0]at this;cases this) (eC _) rfl (by rw[H0,H0]) rfl ?_
    refine go ?_
    ((refine bj 5 ((.int .i64 ((64*(q+1):Nat):Int))) rfl ((congrArg (Value.int .i64) ai)) ?_))
    refine aO ih (q+1) rfl ai ai bY ad
  intro eQ
  have SU:q=b.length/64:=by omega
  subst SU
  clear ih
  have kq:=hv.cut (64*(b.length/64)) ai
  obtain⟨B1,UD⟩:∃B1,B1=b.drop (64*(b.length/64)):=⟨_,rfl⟩
  have TG:B1.length=b.length-64*(b.length/64):=by rw[UD,List.length_drop]
  rw[← UD,← TG]at kq
  refine go ?_
  refine bG (U:=ao) (p:=((64*(b.length/64):Nat):Int)) (q:=(b.length:Int)) zr zr zr zr zr zr zr ai ai (.inl rfl) ?_
  ((refine aB 28 ((.slice (sliceAt a c (64*(b.length/64)) 1) B1.length (c-64*(b.length/64)))) rfl ((by rw[TG];rfl)) ?_))
  refine go ?_
  ((refine ah zr zr zr zr (wF A _ B1 kq ai) ad ?_ bE))
  rintro r _ rfl
  ((refine aM 0 rfl ?_))
  rintro ra rc rfl
  refine go ?_
  (refine au (U:=ao) (cs:=bV [(128:UInt8)]) zr zr zr zr zr zr zr zr zr bp ?_;intro bA;refine bh (U:=ao) (mm:=1) (news:=bV [(128:UInt8)]) 1 0 zr zr zr zr zr zr zr zr zr zr zr zr (Vw.ag rfl) rfl (cC _) ai (by show(_+_)*1≤_;omega) (fun _=>rfl) bp ?_;intro vA;rw[show bV (B1)++bV [(128:UInt8)]=bV ((B1)++[(128:UInt8)])from by simp[bV],show(B1).length+1=((B1)++[(128:UInt8)]).length from(@List.length_append _ (B1) [(128:UInt8)]).symm];((refine aM 1 rfl ?_));rintro aA cA rfl)
  refine go ?_
  obtain⟨z,hz⟩:∃z,z=(119-b.length%64)%64:=⟨_,rfl⟩
  have Zy:(B1.length+1+z)%64=56:=by omega
  have Wg:z<64:=by omega
  have XO:B1.length<64:=by omega
  have qC:∀j:Nat,(B1++128::List.replicate j (0:UInt8)).length=B1.length+1+j:=fun j=>by simp;omega
  obtain⟨S1,hS1⟩:∃S1,S1=Sha.chunks Sha.start b (b.length/64):=⟨_,rfl⟩
  rw[← hS1]
  refine bo (fun y:Nat × Option Addr × Nat=>y.1≤z) (fun y=>z-y.1)
    (fun y=>[(0,.slice a b.length c),(2,ptr b2),(3,ptr b3),(6,.slice y.2.1 (B1++128::List.replicate y.1 (0:UInt8)).length y.2.2)])
    (fun y=>az 5 1 (.slice y.2.1 (B1++128::List.replicate y.1 (0:UInt8)).length y.2.2) (B1++128::List.replicate y.1 (0:UInt8)).length (bV (B1++128::List.replicate y.1 (0:UInt8)))::A::ag b3 (cl (wV S1.l) 214)::ag b2 (cl (dC Dg.zero) 36)::F) (0,aA,cA) (Nat.zero_le _) rfl bY ad ?_
  rintro⟨j,a2,c2⟩ hj ih
  simp only at hj
  have ux:=qC j
  dsimp only
  refine go ?_
  refine nI zr zr zr ai ai ?_
  refine go ?_
  refine aw zr zr ?_ ?_
  · intro ct
    have W4 : j < z := by rcases Nat.lt_or_ge j z with h | h; exact h; exfalso; apply ct; rw [ux]; have : j = z := by omega
                          subst this;omega
    refine go ?_
    (refine au (U:=ao) (cs:=bV [(0:UInt8)]) zr zr zr zr zr zr zr zr zr bp ?_;intro bA;refine bh (U:=ao) (mm:=1) (news:=bV [(0:UInt8)]) 1 0 zr zr zr zr zr zr zr zr zr zr zr zr (Vw.ag rfl) rfl (cC _) (by(rw[ux];omega)) (by show(_+_)*1≤_;(rw[ux];omega)) (fun _=>rfl) bp ?_;intro vA;rw[show bV ((B1++128::List.replicate j (0:UInt8)))++bV [(0:UInt8)]=bV (((B1++128::List.replicate j (0:UInt8)))++[(0:UInt8)])from by simp[bV],show((B1++128::List.replicate j (0:UInt8))).length+1=(((B1++128::List.replicate j (0:UInt8)))++[(0:UInt8)]).length from(@List.length_append _ ((B1++128::List.replicate j (0:UInt8))) [(0:UInt8)]).symm];((refine aM 1 rfl ?_));rintro aA cA rfl)
    rw[show B1++128::List.replicate j (0:UInt8)++[0]=B1++128::List.replicate (j+1) (0:UInt8)from by rw[List.replicate_succ'];simp]
    refine go ?_
    refine aO ih (j+1,aA,cA) rfl (by simp only;omega) (by simp only;omega) bY ad
  intro heq
  have W4:j=z:=by
    have aaK:((B1.length+1+j:Nat):Int)%64=56:=by rw[← ux];exact Decidable.not_not.1 heq
    omega
  subst W4
  clear ih
  obtain⟨T0,Lv⟩:∃T0,T0=B1++128::List.replicate j (0:UInt8):=⟨_,rfl⟩
  rw[← Lv]at ux ⊢
  have La:∀i:Nat,i≤8→(T0++(Sha.nz (8*b.length)).take i).length=T0.length+i:=fun i hi=>by
    rw[List.length_append,List.length_take];simp only[Sha.nz,List.length_map,List.length_range];omega
  refine go ?_
  refine bo (fun y:Nat × Option Addr × Nat=>y.1≤8) (fun y=>8-y.1)
    (fun y=>[(0,.slice a b.length c),(2,ptr b2),(3,ptr b3),(6,.slice y.2.1 (T0++(Sha.nz (8*b.length)).take y.1).length y.2.2),(39,.int .i64 (y.1:Int))])
    (fun y=>az 5 1 (.slice y.2.1 (T0++(Sha.nz (8*b.length)).take y.1).length y.2.2) (T0++(Sha.nz (8*b.length)).take y.1).length (bV (T0++(Sha.nz (8*b.length)).take y.1))::A::ag b3 (cl (wV S1.l) 214)::ag b2 (cl (dC Dg.zero) 36)::F) (0,a2,c2) (Nat.zero_le _) rfl (by simp only[List.take_zero,List.append_nil];exact bY) (by simp only[List.take_zero,List.append_nil];exact ad) ?_
  rintro⟨i,a3,c3⟩ hi ih
  simp only at hi
  have Jk:=La i hi
  dsimp only
  refine go ?_
  refine aw zr zr ?_ ?_
  · intro cO
    have H8:i<8:=by omega
    have Tx:(Sha.nz (8*b.length)).take (i+1)=(Sha.nz (8*b.length)).take i++[UInt8.ofNat (8*b.length/2 ^ (56-8*i))]:=by
      rw[List.take_add_one];simp[Sha.nz,H8]
    refine go ?_
    refine mi zr zr zr ai ?_
    ((refine aB 46 ((.int .u64 ((8*b.length:Nat):Int))) rfl ((yo (x:=b.length) (q:=3) ai ai ai)) ?_))
    refine go ?_
    refine gi zr zr zr (by simp only[fz];omega) ?_
    refine go ?_
    ((refine aB 49 ((.int .i64 ((56-8*i:Nat):Int))) rfl ((congrArg (Value.int .i64) ai)) ?_))
    refine jg zr zr zr ai ?_
    ((refine aB 50 ((.int .u64 ((8*b.length/2 ^ (56-8*i):Nat):Int))) rfl ((congrArg (Value.int .u64) (by rw[Int.toNat_natCast,show min (56-8*i) IntKind.u64.bits=56-8*i from by show min (56-8*i) 64=_;omega];simp))) ?_))
    refine dW ?_
    refine jJ (U:=ao) zr zr zr zr zr zr ?_
    ((refine aB 51 ((u8 (UInt8.ofNat (8*b.length/2 ^ (56-8*i))))) rfl ((kA _)) ?_))
    (refine au (U:=ao) (cs:=bV [(UInt8.ofNat (8*b.length/2 ^ (56-8*i)))]) zr zr zr zr zr zr zr zr zr bp ?_;intro bA;refine bh (U:=ao) (mm:=1) (news:=bV [(UInt8.ofNat (8*b.length/2 ^ (56-8*i)))]) 1 0 zr zr zr zr zr zr zr zr zr zr zr zr (Vw.ag rfl) rfl (cC _) (by(rw[Jk];omega)) (by show(_+_)*1≤_;(rw[Jk];omega)) (fun _=>rfl) bp ?_;intro vA;rw[show bV ((T0++(Sha.nz (8*b.length)).take i))++bV [(UInt8.ofNat (8*b.length/2 ^ (56-8*i)))]=bV (((T0++(Sha.nz (8*b.length)).take i))++[(UInt8.ofNat (8*b.length/2 ^ (56-8*i)))])from by simp[bV],show((T0++(Sha.nz (8*b.length)).take i)).length+1=(((T0++(Sha.nz (8*b.length)).take i))++[(UInt8.ofNat (8*b.length/2 ^ (56-8*i)))]).length from(@List.length_append _ ((T0++(Sha.nz (8*b.length)).take i)) [(UInt8.ofNat (8*b.length/2 ^ (56-8*i)))]).symm];((refine aM 1 rfl ?_));rintro aA cA rfl)
    rw[show T0++(Sha.nz (8*b.length)).take i++[UInt8.ofNat (8*b.length/2 ^ (56-8*i))]=T0++(Sha.nz (8*b.length)).take (i+1)from by rw[Tx,List.append_assoc]]
    refine go ?_
    refine aO ih (i+1,aA,cA) rfl (by simp only;omega) (by simp only;omega) bY ad
  intro eQ
  have H8:i=8:=by omega
  subst H8
  clear ih
  have B5:=Sha.GW b
  rw[← hS1,← UD]at B5
  have WJ:B1++Sha.pad b.length=T0++(Sha.nz (8*b.length)).take 8:=by
    rw[Lv,List.take_of_length_le (by simp[Sha.nz])]
    unfold Sha.pad
    rw[← hz];simp
  rw[WJ]at B5
  generalize T0++(Sha.nz (8*b.length)).take 8=T at Jk B5 ⊢
  have aaX:T.length%64=0:=by omega
  have hTl:T.length≤1000000200:=by omega
  clear ux La WJ Lv qC UD TG kq hz Zy Wg XO hS1 Jk
  have H0:∀s:Sha.St,(wV s.l).length=8:=fun s=>rfl
  refine oU (bs:=T) 0 rfl ?_
  intro Nu
  have SK:dR (Sep [az 5 1 (.slice a3 T.length c3) T.length (bV T),A]) (.slice a3 T.length c3) T:=Nu.mono (aW (i:=0) rfl)
  have hK2:mX (Sep [az 5 1 (.slice a3 T.length c3) T.length (bV T),A]):=hK.mono (aW (i:=1) rfl)
  refine aj (aq.bL [_,_] _) ?_
  refine go ?_
  refine bo (fun q:Nat=>q≤T.length/64) (fun q=>T.length/64-q)
    (fun q=>[(2,ptr b2),(3,ptr b3),(6,.slice a3 T.length c3),(8,.int .i64 ((64*q:Nat):Int))])
    (fun q=>Sep [az 5 1 (.slice a3 T.length c3) T.length (bV T),A]::ag b3 (cl (wV (Sha.chunks S1 T q).l) 214)::ag b2 (cl (dC Dg.zero) 36)::F) 0 (Nat.zero_le _) rfl bY (by unfold Sha.chunks;exact ad) ?_
  rintro q hq ih
  refine go ?_
  refine aw zr zr ?_ ?_
  · intro cO
    have YB:q<T.length/64:=by omega
    have kq:=SK.cut (64*q) ai
    have iZ:=AW _ hK2 _ _ kq (by rw[List.length_drop];omega) (Sha.chunks S1 T q)
    have pF:Sha.chunk (Sha.chunks S1 T q) (T.drop (64*q))=Sha.chunks S1 T (q+1):=by conv=>rhs;unfold Sha.chunks
    rw[pF]at iZ
    refine go ?_
    refine aF (fun w=>Sat G w ([ag b3 (cl (wV (Sha.chunks S1 T q).l) 214)])) (.st 0 (.st 1 (.st 2 (.st 3 (.act 4 (.act 5 .nil)))))) rfl ak ak ak (fun w hw=>hw.aX ad) ?_
    refine go ?_
    refine bD (U:=ao) 0 zr zr zr zr zr zr ?_
    refine go ?_
    refine bG (U:=ao) (p:=((64*q:Nat):Int)) (q:=(T.length:Int)) zr zr zr zr zr zr zr ai ai (.inl rfl) ?_
    ((refine aB 64 ((.slice (sliceAt a3 c3 (64*q) 1) (T.length-64*q) (c3-64*q))) rfl (rfl) ?_))
    ((refine ah rfl rfl rfl rfl (iZ) ad ?_ (fun _ _ w hp hw=>by obtain⟨rfl,rfl⟩:=hp;exact hw.aX ad)))
    rintro _ _⟨rfl,rfl⟩
    unfold My
    refine aS ?_
    refine cn (U:=ao) 1 fR rfl rfl rfl rfl (by intro e;have:=congrArg List.length e;rw[H0]at this;cases this) (eC _) rfl (by rw[H0,H0]) rfl ?_
    refine go ?_
    ((refine bj 8 ((.int .i64 ((64*(q+1):Nat):Int))) rfl ((congrArg (Value.int .i64) ai)) ?_))
    refine aO ih (q+1) rfl ai ai bY ad
  intro eQ
  have SU:q=T.length/64:=by omega
  subst SU
  rw[← B5]
  have nq:(dA b).bs=Sha.out (Sha.chunks Sha.start (Sha.msg b) ((Sha.msg b).length/64)):=Fx b
  clear B5 ih
  generalize Sha.chunks Sha.start (Sha.msg b) ((Sha.msg b).length/64)=S2 at nq ⊢
  refine aj (aq.cg _ _) ?_
  refine go ?_
  refine aN (U:=ao) zr zr zr bp ?_
  intro b9
  refine go ?_
  have Nz:=Sha.zL S2
  have Dv:∀i,i≤32→((Sha.out S2).take i++List.replicate (32-i) (0:UInt8)).length=32:=fun i hi=>by
    rw[List.length_append,List.length_take,List.length_replicate,Nz];omega
  refine bo (fun i:Nat=>i≤32) (fun i=>32-i)
    (fun i=>[(2,ptr b2),(3,ptr b3),(9,ptr b9),(66,.int .i64 (i:Int))])
    (fun i=>ag b9 (cl (bV ((Sha.out S2).take i++List.replicate (32-i) (0:UInt8))) 36)::ag b3 (cl (wV S2.l) 214)::ag b2 (cl (dC Dg.zero) 36)::A::F) 0 (Nat.zero_le _) rfl bY ad ?_
  rintro i hi ih
  refine go ?_
  refine aw zr zr ?_ ?_
  · intro cO
    have rJ:i<32:=by omega
    have hq4:(i:Int)/4=((i/4:Nat):Int):=by omega
    have hr4:24-8*((i:Int)%4)=((24-8*(i%4):Nat):Int):=by omega
    have Nt:(wV S2.l)[i/4]?=some (u32 (S2.l.getD (i/4) 0)):=gA (by rw[List.getD_eq_getElem?_getD,List.getElem?_eq_getElem (show i/4<S2.l.length from by show i/4<8;omega)];rfl)
    have pU:(Sha.out S2)[i]?=some (UInt8.ofNat ((S2.l.getD (i/4) 0) >>> (24-8*(i%4))).toNat):=by simp[Sha.out,rJ]
    (repeat(first|refine fk ?_|refine mR zr zr zr ai ai (by simp only[fz];omega) ?_|refine nI zr zr zr ai ai ?_|refine gi zr zr zr (by simp only[fz];omega) ?_|refine dF (U:=ao) (i/4) zr zr zr zr zr zr zr hq4 ai ?_|(refine aJ ?_;refine lu (U:=ao) 1 (i/4) zr zr zr (Nat.zero_add _) Nt zr zr ?_)|refine oX (24-8*(i%4)) zr zr zr hr4 ai ?_|(refine dW ?_;refine zf (U:=ao) zr zr zr zr zr zr ?_)|refine dF (U:=ao) i zr zr zr zr zr zr zr zr rJ ?_))
    refine aS ?_
    refine fV (U:=ao) 0 fR zr zr zr zr zr zr zr (by rw[bt,Dv i ai];omega) rfl ?_
    rw[show 0+i=i from Nat.zero_add _,Bq Nz pU]
    refine go ?_
    refine aO ih (i+1) rfl ai ai bY ad
  intro eQ
  have rJ:i=32:=by omega
  subst rJ
  rw[List.take_of_length_le ai,show 32-32=0 from rfl,List.replicate_zero,List.append_nil,← nq,← dp]
  clear ih Dv Nz nq
  have hd:(dC (dA b)).length=32:=rfl
  have fC:gJ (dC (dA b))=true:=by rw[dp];exact iH _
  have Xw:dV (dA b) = .agg (dC (dA b)).toArray:=rfl
  rw[Xw]at hE
  generalize dC (dA b)=cs at hd fC hE ⊢
  refine go ?_
  refine aI (U:=ao) 0 zr zr zr zr zr hd ?_
  refine cn (U:=ao) 2 fR rfl rfl rfl hd (by intro e;rw[e]at hd;cases hd) fC rfl (by rw[hd];rfl) rfl ?_
  refine go ?_
  refine iB (U:=ao) 2 hE Tryz.func112 zr zr zr zr zr hd rfl ⟨rfl,rfl⟩ ad
end Go.Proofs.YthjbidjmgbjkiaaGreatDoor
namespace Go.SL
open Go
inductive aK(P:Program)(U:Tr)(L:eN)(H:List HP):List ResultVar→List Value→Prop where
 | nil:aK P U L H [] []
 | tmp {q:Nat} {u:Value} {rs:List ResultVar} {us:List Value} (hq:dB L q=some u) (h:aK P U L H rs us):aK P U L H (.tmp q::rs) (u::us)
 | agg {p b:Nat} {t e:TypeId} {bJ:Ty} {cs:List Value} {rs:List ResultVar} {us:List Value} (i:Nat) (hp:dB L p=some (.pointer (some ⟨b,0,none⟩))) (ht:U.get t=some bJ) (hg:bJ.isAgg=true) (hi:cf H i=some (ag b (cl cs e))) (hl:cs.length=bJ.info.size) (h:aK P U L H rs us):aK P U L H (.cell p t::rs) (.agg cs.toArray::us)
 | one {p b:Nat} {t e:TypeId} {bJ:Ty} {u:Value} {rs:List ResultVar} {us:List Value} (i:Nat) (hp:dB L p=some (.pointer (some ⟨b,0,none⟩))) (ht:U.get t=some bJ) (hg:bJ.isAgg=false) (hi:cf H i=some (ag b (cl [u] e))) (h:aK P U L H rs us):aK P U L H (.cell p t::rs) (u::us)
theorem aK.run{P:Program}{U:Tr}[hU:e7 P U]{n:Nat}{G:cm}{L:eN}{H:List HP}{a:Act}{w:World}(ha:Has n L a)(hw:Sat G w H):∀ {rs us},aK P U L H rs us→(rs.mapM (zB a.tmps)).run P w = .ok us w:=by
 intro rs us h
 induction h with
 | nil=>simp
 | @tmp q u rs us hq h ih =>
  have g2:a.tmps.getD q undef=u:=by rw[Array.getD_eq_getD_getElem?,ha.2.2 _ _ hq];rfl
  simp only[List.mapM_cons,Sem.run_bind,zB,g2,Sem.run_pure,Result.andThen_ok,ih]
 | @agg p b t e bJ cs rs us i hp ht hg hi hl h ih =>
  have hc:∀j v,cs[j]?=some v→w.cell? ⟨b,0+j,none⟩=some v:=fun j v hj=>by rw[de (hw.rR hi),Nat.zero_add];exact hj
  have K9:=gE (P:=P) (w:=w) ht hg hl hc
  have Ta:(loadVar t ⟨b,0,none⟩).run P w = .ok (.agg cs.toArray) w:=by simpa[Instr.loadAt,Instr.sureAddr]using K9
  have g1:a.tmps.getD p undef = .pointer (some ⟨b,0,none⟩):=by simp[Array.getD_eq_getD_getElem?,ha.2.2 p _ hp]
  simp only[List.mapM_cons,Sem.run_bind,zB,g1,asAddr,Sem.run_pure,Result.andThen_ok,Ta,ih]
 | @one p b t e bJ u rs us i hp ht hg hi h ih =>
  have g1:=vu (P:=P) i ha hw hp ht hg hi
  simp only[List.mapM_cons,Sem.run_bind,g1,Sem.run_pure,Result.andThen_ok,ih]
theorem aR{P:Program}{U:Tr}[hU:e7 P U]{f:FuncId}{n:Nat}{R:Ending→World→Prop}{G:cm}{ds:List Nat}{k k0:List Item}{L:eN}{H H':List HP}{fn:Func}{F:List HP}{Post:Value→List HP→Prop}{us:List Value}{Hq:List HP}(hR:Ends R G F Post)(hf:P.funcs[f]?=some fn)(hk:gK 1000 k0 = .mk (.code .ret::k))(he:aq H (ds.map (fun r=>ag r (.deferred (some [])))++H'))(hr:aK P U L H' fn.results.toList us)(eH:Post (eh us) Hq)(zZ:aq H' (Hq++F)):K P f n R { G with ds:=ds } k0 L H:=by
 refine Mk hR hf hk he (fun a w ha hw=>?_) eH zZ
 have h1:=hr.run (P:=P) ha hw
 rw[nf,Array.mapM_eq_mapM_toList]
 simp only[Sem.run_bind,Sem.run_map,h1,Sem.run_pure,Result.andThen_ok]
 match us with
 | []=>simp[eh]
 | [v]=>simp[eh]
 | v::u::vs=>simp[eh]
section
variable{P:Program}{U:Tr}[hU:e7 P U]{f:FuncId}{n:Nat}{R:Ending→World→Prop}{G:cm}{k:List Item}{L:eN}{H H':List HP}{S:World→Prop}{all:Array Oper}{rest:Pl}{ty:TypeId}{pos:String}{af:Array Edge}{gd:Option (Nat × Bool)}{m:Bool}{d:Tmp}
theorem IY{t elem:TypeId}{bJ te:Ty}{x lo hi mx:Operand}{a0:Option Addr}{len cap:Nat}{p q r:Int}{j1 j2 j3:IntKind}(hd:Nat.blt d n=true)(ht:U.get t=some bJ)(hu:bJ.fK = .slice elem)(he:U.get elem=some te)(hx:ev L x=some (.slice a0 len cap))(yH:ev L lo=some (.int j1 p))(Dt:ev L hi=some (.int j2 q))(WO:ev L mx=some (.int j3 r))(h0:0≤p)(B3:p≤q)(hqr:q≤r)(MH:r≤(cap:Int))(h:J P f n R G S all rest k ((d,.slice (sliceAt a0 r.toNat p.toNat te.info.size) (q.toNat-p.toNat) (r.toNat-p.toNat))::L) H) :
  J P f n R G S all (.cons m true ⟨some d,.slice t x (some lo) (some hi) (some mx),ty,pos,af,gd⟩ rest) k L H:=by
 refine cT hd (fun a ha w=>?_) h
 have hb:(Instr.sliceBounds true len cap (some (a.eval lo)) (some (a.eval hi)) (some (a.eval mx))).run P w = .ok (p.toNat,q.toNat,r.toNat) w:=by
  unfold Instr.sliceBounds
  have e1:0≤r∧r≤(cap:Int):=⟨ai,MH⟩
  have e2:0≤q∧q≤((r.toNat:Nat):Int):=⟨ai,ai⟩
  have e3:0≤p∧p≤((q.toNat:Nat):Int):=⟨ai,ai⟩
  have e4:q≤max r 0:=by omega
  have e5:p≤max q 0:=by omega
  have e6:0≤q:=by omega
  simp[ha.ev yH,ha.ev Dt,ha.ev WO,Instr.sliceBound,asIntOf,e1,e2,e3,e4,e5,e6,h0]
 simp only[execOp,ha.ev hx,Instr.sliceAt,Sem.run_bind,run_underlying ht,Result.andThen_ok,hu,Instr.slice,Option.map_some,hb,run_sizeOf he,Sem.run_pure,sliceAt]
 by_cases hc:p.toNat=r.toNat
 ·simp[hc]
 ·simp[hc]
  intro YA
  exfalso;omega
end
end Go.SL
namespace Go.Proofs.YthjbidjmgbjkiaaGreatDoor
open Go Go.SL
attribute [local irreducible] J K aD Ends ag az aL bK aZ aQ aV bg bQ Sha.chunks Sha.chunk Sha.rounds Sha.sched dA
theorem tU{tag:UInt8}{ps:List (List UInt8)}{i:Nat}{p:List UInt8}(h:ps[i]?=some p):cG tag (ps.take (i+1))=cG tag (ps.take i)++(ko p.length++p):=by
 unfold cG
 rw[List.take_add_one,h]
 simp
theorem yv(tag:UInt8)(ps:List (List UInt8))(i:Nat):(cG tag (ps.take i)).length≤(cG tag ps).length:=by
 conv=>rhs;rw[← List.take_append_drop i ps]
 unfold cG
 rw[List.flatMap_append]
 simp only[List.length_cons,List.length_append];omega
theorem ry(tag:UInt8)(ps:List (List UInt8)):ps.length≤(cG tag ps).length:=by
 unfold cG
 induction ps with
 | nil=>simp
 | cons p ps ih =>
  have h8:(ko p.length).length=8:=by simp[ko]
  simp only[List.flatMap_cons,List.length_cons,List.length_append,h8]at ih ⊢
  omega
theorem FR(n:Nat):(ko n).length=8:=by simp[ko]
theorem BQ{n i:Nat}(h:i<8):(ko n).take (i+1)=(ko n).take i++[UInt8.ofNat (n/2 ^ (8*i))]:=by
 rw[List.take_add_one];simp[ko,h]
set_option maxRecDepth 20000 in
theorem wN(A:HP)(hK:mX A)(tag:UInt8)(v:Value)(ps:List (List UInt8))(hv:qi A v ps)(hl:(cG tag ps).length≤1000000000) :
  aD Tryz.prog 149 [u8 tag,v] [A] (fun r H=>r=dV (cd tag ps)∧H=[A]):=by
 obtain⟨cs,dj,lz,⟨a,c,rfl,hc⟩,nL⟩:=hv
 have Cf:=ry tag ps
 refine aD.enter Tryz.func149 ak rfl Tryz.ntmps149 zr zr ?_
 intro G F R hE
 refine aE rfl ?_
 refine aN (U:=ao) zr zr zr bp ?_
 intro b4
 (refine nN ?_)
 refine aE rfl ?_
 (refine nN ?_)
 refine au (U:=ao) (cs:=bV [tag]) zr zr zr zr zr zr zr zr zr bp ?_
 intro b0
 refine go ?_
 refine aj (dZ 5 1 b0 1 1 (bV [tag]) [] _ rfl (Nat.le_refl _) (by simp[bV])) ?_
 refine bo (fun y:Nat × Option Addr × Nat=>y.1≤ps.length) (fun y=>ps.length-y.1)
  (fun y=>[(4,ptr b4),(11,.slice a ps.length c),(12,.int .i64 (ps.length:Int)),(13,.int .i64 (y.1:Int)),(5,.slice y.2.1 (cG tag (ps.take y.1)).length y.2.2)])
  (fun y=>az 5 1 (.slice y.2.1 (cG tag (ps.take y.1)).length y.2.2) (cG tag (ps.take y.1)).length (bV (cG tag (ps.take y.1)))::A::ag b4 (cl (dC Dg.zero) 36)::F) (0,some ⟨b0,0,none⟩,1) (Nat.zero_le _) rfl bY ad ?_
 rintro⟨i,a1,c1⟩ hi ih
 simp only at hi
 dsimp only
 refine go ?_
 refine aw zr zr ?_ ?_
 ·intro cO
  have kp:i<ps.length:=by omega
  obtain⟨p,hp⟩:∃p,ps[i]?=some p:=⟨ps[i],List.getElem?_eq_getElem kp⟩
  obtain⟨cv,qd,hb⟩:=nL i p hp
  obtain⟨b1,o1,c0,pG⟩:=dj.some (by intro h;rw[h]at qd;simp at qd)
  simp only[Value.slice.injEq]at pG
  obtain⟨rfl,-,rfl⟩:=pG
  have iZ:=tU (tag:=tag) hp
  have hle:=yv tag ps (i+1)
  have WV:=FR p.length
  rw[iZ]at hle
  simp only[List.length_append]at hle
  obtain⟨T0,Lv⟩:∃T0,T0=cG tag (ps.take i):=⟨_,rfl⟩
  rw[← Lv]at iZ hle ⊢
  obtain⟨ax,cx,rfl,YU⟩:=hb.2
  have La:∀j:Nat,j≤8→(T0++(ko p.length).take j).length=T0.length+j:=fun j hj=>by
   rw[List.length_append,List.length_take];omega
  refine go ?_
  refine cK (U:=ao) i zr zr zr zr zr zr zr zr kp ?_
  refine aJ ?_
  refine bB (U:=ao) 1 i zr zr zr dj rfl qd zr zr ?_
  refine go ?_
  refine bo (fun y:Nat × Option Addr × Nat=>y.1≤8) (fun y=>8-y.1)
   (fun y=>[(4,ptr b4),(7,.slice ax p.length cx),(11,.slice (some ⟨b1,o1,none⟩) ps.length c),(12,.int .i64 (ps.length:Int)),(13,.int .i64 (i:Int)),(5,.slice y.2.1 (T0++(ko p.length).take y.1).length y.2.2),(17,.int .i64 (y.1:Int))])
   (fun y=>az 5 1 (.slice y.2.1 (T0++(ko p.length).take y.1).length y.2.2) (T0++(ko p.length).take y.1).length (bV (T0++(ko p.length).take y.1))::A::ag b4 (cl (dC Dg.zero) 36)::F) (0,a1,c1) (Nat.zero_le _) rfl (by simp only[List.take_zero,List.append_nil];exact bY) (by simp only[List.take_zero,List.append_nil];exact ad) ?_
  rintro⟨j,a2,c2⟩ hj MD
  simp only at hj
  have ux:=La j hj
  dsimp only
  refine go ?_
  refine aw zr zr ?_ ?_
  ·intro W7
   have Tc:j<8:=by omega
   have Yx:=BQ (n:=p.length) Tc
   refine go ?_
   refine gi zr zr zr (by simp only[fz];omega) ?_
   ((refine aB 25 ((.int .i64 ((8*j:Nat):Int))) rfl ((congrArg (Value.int .i64) ai)) ?_))
   refine jg zr zr zr ai ?_
   ((refine aB 26 ((.int .u64 ((p.length/2 ^ (8*j):Nat):Int))) rfl ((congrArg (Value.int .u64) (by rw[Int.toNat_natCast,show min (8*j) IntKind.u64.bits=8*j from by show min (8*j) 64=_;omega];simp))) ?_))
   refine dW ?_
   refine jJ (U:=ao) zr zr zr zr zr zr ?_
   ((refine aB 27 ((u8 (UInt8.ofNat (p.length/2 ^ (8*j))))) rfl ((kA _)) ?_))
   (refine au (U:=ao) (cs:=bV [(UInt8.ofNat (p.length/2 ^ (8*j)))]) zr zr zr zr zr zr zr zr zr bp ?_;intro bA;refine bh (U:=ao) (mm:=1) (news:=bV [(UInt8.ofNat (p.length/2 ^ (8*j)))]) 1 0 zr zr zr zr zr zr zr zr zr zr zr zr (Vw.ag rfl) rfl (cC _) (by(rw[ux];omega)) (by show(_+_)*1≤_;(rw[ux];omega)) (fun _=>rfl) bp ?_;intro vA;rw[show bV ((T0++(ko p.length).take j))++bV [(UInt8.ofNat (p.length/2 ^ (8*j)))]=bV (((T0++(ko p.length).take j))++[(UInt8.ofNat (p.length/2 ^ (8*j)))])from by simp[bV],show((T0++(ko p.length).take j)).length+1=(((T0++(ko p.length).take j))++[(UInt8.ofNat (p.length/2 ^ (8*j)))]).length from(@List.length_append _ ((T0++(ko p.length).take j)) [(UInt8.ofNat (p.length/2 ^ (8*j)))]).symm];((refine aM 1 rfl ?_));rintro aA cA rfl)
   rw[show T0++(ko p.length).take j++[UInt8.ofNat (p.length/2 ^ (8*j))]=T0++(ko p.length).take (j+1)from by rw[Yx,List.append_assoc]]
   refine go ?_
   refine aO MD (j+1,aA,cA) rfl (by simp only;omega) (by simp only;omega) bY ad
  intro eQ
  have W7:j=8:=by omega
  subst W7
  rw[List.take_of_length_le ai]at ux ⊢
  refine go ?_
  (refine bh (U:=ao) (mm:=(p).length) (news:=bV (p)) 0 1 zr zr zr zr zr zr zr zr zr zr zr zr (hb.1) (by show _=_*1;rw[bt];omega) (cC _) (by(rw[ux];omega)) (by show(_+_)*1≤_;(rw[ux];omega)) (fun _=>rfl) bp ?_;intro vA;rw[show bV ((T0++ko p.length))++bV (p)=bV (((T0++ko p.length))++(p))from by simp[bV],show((T0++ko p.length)).length+(p).length=(((T0++ko p.length))++(p)).length from(@List.length_append _ ((T0++ko p.length)) (p)).symm];((refine aM 0 rfl ?_));rintro aA cA rfl)
  rw[show T0++ko p.length++p=cG tag (ps.take (i+1))from by rw[iZ,List.append_assoc]]
  refine go ?_
  refine aO ih (i+1,aA,cA) rfl (by simp only;omega) (by simp only;omega) bY ad
 intro eQ
 have fU:i=ps.length:=by omega
 subst fU
 rw[List.take_length]
 refine oU (bs:=cG tag ps) 0 rfl ?_
 intro Nu
 refine aj (aq.bL [_,_] _) ?_
 refine go ?_
 ((refine ah zr zr zr zr (uT _ (hK.mono (aW (i:=1) rfl)) _ (cG tag ps) (Nu.mono (aW (i:=0) rfl)) hl) ad ?_ bE))
 rintro _ _⟨rfl,rfl⟩
 refine aG (aq.cg _ _) ?_
 refine go ?_
 refine iB (U:=ao) 2 hE Tryz.func149 zr zr zr zr zr zr zr ⟨rfl,rfl⟩ ad
theorem LX(x:Nat)(hx:x<256):IntKind.u8.wrap ((BitVec.ofInt IntKind.u8.bits (x:Int) &&& BitVec.ofInt IntKind.u8.bits 15).toNat:Int)=((x%16:Nat):Int):=by
 have e2:(BitVec.ofInt IntKind.u8.bits (15:Int)).toNat=2 ^ 4-1:=by decide
 rw[BitVec.toNat_and,rz hx,e2,Nat.and_two_pow_sub_one_eq_mod]
 exact cD (by simp only[fz];omega)
theorem KN(n:Nat)(h:n<16):tD ⟨#[48,49,50,51,52,53,54,55,56,57,97,98,99,100,101,102]⟩ n=zv n:=by
 have:∀n:Nat,n<16→tD ⟨#[48,49,50,51,52,53,54,55,56,57,97,98,99,100,101,102]⟩ n=zv n:=by decide
 exact this n h
theorem DJ{d:Dg}{i:Nat}(h:i<32):(gb d).take (2*(i+1))=(gb d).take (2*i)++[zv ((d.at i).toNat/16),zv ((d.at i).toNat%16)]:=by
 have e1:tM d (2*i)=zv ((d.at i).toNat/16):=by unfold tM;rw[if_pos ai,show 2*i/2=i from by omega]
 have e2:tM d (2*i+1)=zv ((d.at i).toNat%16):=by unfold tM;rw[if_neg ai,show(2*i+1)/2=i from by omega]
 rw[show 2*(i+1)=2*i+1+1 from by omega,List.take_add_one,List.take_add_one,ml d ai,ml d ai,e1,e2]
 simp
theorem TO(d:Dg){i:Nat}(h:i<32):(dC d)[i]?=some (u8 (d.at i)):=by
 rw[dp]
 exact oP (d.LS h)
set_option maxRecDepth 20000 in
theorem L2(d:Dg):aD Tryz.prog 133 [dV d] [] (fun r H=>r = .string (strOf (gb d))∧H=[]):=by
 unfold dV
 refine aD.enter Tryz.func133 ak rfl Tryz.ntmps133 zr zr ?_
 intro G F R hE
 refine aE rfl ?_
 refine bq zr zr bp ?_
 intro b1
 refine go ?_
 refine lW (U:=ao) (p:=0) (q:=64) zr zr zr zr zr zr zr zr zr ai ai (by decide) bp ?_
 intro b3
 refine go ?_
 have aaL:=dZ 5 1 b3 0 64 [] (List.replicate 64 (u8 0)) (ag b1 (cl (dC d) 36)::F) rfl ai (by rw[List.length_replicate];exact Nat.le_add_left _ _)
 refine aG aaL ?_
 refine aI (U:=ao) 1 zr zr zr zr zr zr ?_
 refine go ?_
 refine bo (fun y:Nat × Option Addr × Nat=>y.1≤32) (fun y=>32-y.1)
  (fun y=>[(3,.slice y.2.1 ((gb d).take (2*y.1)).length y.2.2),(7,dV d),(8,.int .i64 (y.1:Int))])
  (fun y=>az 5 1 (.slice y.2.1 ((gb d).take (2*y.1)).length y.2.2) ((gb d).take (2*y.1)).length (bV ((gb d).take (2*y.1)))::F) (0,some ⟨b3,0,none⟩,64) (Nat.zero_le _) rfl bY ad ?_
 rintro⟨i,a1,c1⟩ hi ih
 simp only at hi
 dsimp only
 have hlen:((gb d).take (2*i)).length=2*i:=by rw[List.length_take,jl];omega
 refine go ?_
 refine aw zr zr ?_ ?_
 ·intro cO
  have rJ:i<32:=by omega
  have hg:=TO d rJ
  have iZ:=DJ (d:=d) rJ
  have hx:=(d.at i).toNat_lt
  unfold dV
  refine go ?_
  refine xd (U:=ao) zr zr zr zr zr zr zr zr ai ai (show(dC d).toArray.toList[((i:Nat):Int).toNat]?=some (u8 (d.at i))from by rw[Int.toNat_natCast];exact hg) ?_
  generalize d.at i=x at iZ hx
  refine go ?_
  refine aF (fun w=>Sat G w ([])) (.st 0 (.st 1 (.st 2 (.st 3 (.st 4 (.st 5 (.st 6 (.act 7 (.act 8 (.st 9 .nil)))))))))) rfl ak ak ak (fun w hw=>hw.aX ad) ?_
  refine go ?_
  refine jg zr zr zr ai ?_
  ((refine aB 13 ((.int .u8 ((x.toNat/16:Nat):Int))) rfl ((congrArg (Value.int .u8) (by show(x.toNat:Int)/2 ^ 4=_;omega))) ?_))
  refine qK (U:=ao) zr zr zr zr zr ai (by show((x.toNat/16:Nat):Int)<16;omega) ?_
  ((refine aB 14 ((u8 (zv (x.toNat/16)))) rfl ((congrArg u8 (KN (x.toNat/16) ai))) ?_))
  refine go ?_
  refine go ?_
  ((refine aB 16 ((.int .u8 ((x.toNat%16:Nat):Int))) rfl ((congrArg (Value.int .u8) (LX x.toNat hx))) ?_))
  refine qK (U:=ao) zr zr zr zr zr ai (by show((x.toNat%16:Nat):Int)<16;omega) ?_
  ((refine aB 17 ((u8 (zv (x.toNat%16)))) rfl ((congrArg u8 (KN (x.toNat%16) ai))) ?_))
  refine au (U:=ao) (cs:=bV [zv (x.toNat/16),zv (x.toNat%16)]) zr zr zr zr zr zr zr zr zr (fun _ _ hw=>hw.aX ad) ?_
  intro bA
  refine bh (U:=ao) (mm:=2) (news:=bV [zv (x.toNat/16),zv (x.toNat%16)]) 1 0 zr zr zr zr zr zr zr zr zr zr zr zr (Vw.ag rfl) rfl (cC _) (by rw[hlen];omega) (by show(_+_)*1≤_;rw[hlen];omega) (fun _=>rfl) (fun _ _ hw=>hw.aX ad) ?_
  intro vA
  rw[show bV ((gb d).take (2*i))++bV [zv (x.toNat/16),zv (x.toNat%16)]=bV ((gb d).take (2*(i+1)))from by rw[iZ];simp[bV],show((gb d).take (2*i)).length+2=((gb d).take (2*(i+1))).length from by rw[iZ,List.length_append];rfl]
  ((refine aM 1 rfl ?_))
  rintro aA cA rfl
  refine go ?_
  refine aO ih (i+1,aA,cA) rfl (by simp only;omega) (by simp only;omega) bY ad
 intro eQ
 have rJ:i=32:=by omega
 subst rJ
 rw[List.take_of_length_le (by rw[jl];omega)]
 refine oU (bs:=gb d) 0 rfl ?_
 intro Nu
 refine go ?_
 refine Ax (U:=ao) 0 zr zr zr zr zr zr zr zr zr Nu.1 ?_
 refine go ?_
 ((refine ae hE Tryz.func133 rfl _ rfl ⟨rfl,rfl⟩ ad))
theorem GK(c:UInt8):aD Tryz.prog 204 [u8 c] [] (fun r H=>r = .tuple #[.int .u8 (((j6 c).getD 0:Nat):Int),.bool (j6 c).isSome]∧H=[]):=by
 have hx:=c.toNat_lt
 have h1:(48≤c.toNat∧c.toNat≤57)→Value.tuple #[.int .u8 ((c.toNat:Int)-48),.bool true] = .tuple #[.int .u8 (((j6 c).getD 0:Nat):Int),.bool (j6 c).isSome]:=fun h=>by
  unfold j6;rw[if_pos h];simp only[Option.getD_some,Option.isSome_some];rw[show((c.toNat-48:Nat):Int)=(c.toNat:Int)-48 from by omega]
 have h2:(97≤c.toNat∧c.toNat≤102)→Value.tuple #[.int .u8 ((c.toNat:Int)-97+10),.bool true] = .tuple #[.int .u8 (((j6 c).getD 0:Nat):Int),.bool (j6 c).isSome]:=fun h=>by
  unfold j6;rw[if_neg ai,if_pos h];simp only[Option.getD_some,Option.isSome_some];rw[show((c.toNat-87:Nat):Int)=(c.toNat:Int)-97+10 from by omega]
 have h3:¬(48≤c.toNat∧c.toNat≤57)∧¬(97≤c.toNat∧c.toNat≤102)→Value.tuple #[.int .u8 0,.bool false] = .tuple #[.int .u8 (((j6 c).getD 0:Nat):Int),.bool (j6 c).isSome]:=fun h=>by
  unfold j6;rw[if_neg h.1,if_neg h.2];rfl
 unfold u8
 refine aD.enter Tryz.func204 ak rfl Tryz.ntmps204 zr zr ?_
 intro G F R hE
 repeat'(first|(with_reducible intro nT)|refine fk ?_|refine gN zr zr zr zr ?_ ?_|refine aw zr zr ?_ ?_)
 all_goals(first|((refine ae hE Tryz.func204 rfl _ rfl ⟨h1 ⟨ai,ai⟩,rfl⟩ ad))|((refine ae hE Tryz.func204 rfl _ rfl ⟨h2 ⟨ai,ai⟩,rfl⟩ ad))|((refine ae hE Tryz.func204 rfl _ rfl ⟨h3 ai,rfl⟩ ad)))
theorem Nc(s:List UInt8){i:Nat}(h:i<64):(Dp s i)[i/2]?=some (UInt8.ofNat (if i%2=0 then 0 else lD s (i-1))):=by
 rw[pq s i ai]
 by_cases hm:i%2=0
 ·rw[if_neg ai,if_neg ai,if_pos hm]
 ·rw[if_neg ai,if_pos ai,if_neg hm,show 2*(i/2)=i-1 from by omega]
theorem Km(s:List UInt8){i:Nat}(h:i<64):(Dp s i).set (i/2) (UInt8.ofNat (16*(if i%2=0 then 0 else lD s (i-1))+lD s i))=Dp s (i+1):=by
 apply List.ext_getElem?
 intro j
 rw[List.getElem?_set,jG]
 rcases Nat.lt_or_ge j 32 with hj|hj
 ·rw[pq s i hj,pq s (i+1) hj]
  by_cases e:i/2=j
  ·subst e
   rw[if_pos rfl,if_pos hj]
   congr 2
   by_cases hm:i%2=0
   ·rw[if_pos hm,if_neg ai,if_pos ai,show 2*(i/2)=i from by omega];omega
   ·rw[if_neg hm,if_pos ai,show 2*(i/2)=i-1 from by omega,show i-1+1=i from by omega]
  ·rw[if_neg e]
   congr 2
   have e1:(2*j+1<i)↔(2*j+1<i+1):=by omega
   have e2:¬2*j+1<i→((2*j<i)↔(2*j<i+1)):=by omega
   by_cases h1:2*j+1<i
   ·rw[if_pos h1,if_pos (e1.1 h1)]
   ·rw[if_neg h1,if_neg (fun h=>h1 (e1.2 h))]
    by_cases h2:2*j<i
    ·rw[if_pos h2,if_pos ((e2 h1).1 h2)]
    ·rw[if_neg h2,if_neg (fun h=>h2 ((e2 h1).2 h))]
 ·rw[if_neg ai,List.getElem?_eq_none (by rw[jG];exact hj),List.getElem?_eq_none (by rw[jG];exact hj)]
theorem SA(x y:Nat)(hx:x<16)(hy:y<16):IntKind.u8.wrap ((BitVec.ofInt IntKind.u8.bits ((16*x:Nat):Int) ||| BitVec.ofInt IntKind.u8.bits (y:Int)).toNat:Int)=((16*x+y:Nat):Int):=by
 have h:=nh (a:=y) (c:=x) (k:=4) ai
 rw[BitVec.toNat_or,rz ai,rz ai,Nat.or_comm,show 16*x=x*2 ^ 4 from by omega,h]
 exact(cD (by simp only[fz];omega)).trans (congrArg _ ai)
set_option maxRecDepth 20000 in
theorem IM(s:ByteArray):aD Tryz.prog 172 [.string s] [] (fun r H=>r=(match iO s.data.toList with
    | some d => .tuple #[dV d,.int .i64 0]
    | none => .tuple #[dV Dg.zero,.int .i64 2])∧H=[]):=by
  obtain⟨l,hl⟩:∃l,l=s.data.toList:=⟨_,rfl⟩
  have g8:s.size=l.length:=by rw[hl];rfl
  rw[← hl]
  refine aD.enter Tryz.func172 ak rfl Tryz.ntmps172 zr zr ?_
  intro G F R hE
  refine aE rfl ?_
  refine aN (U:=ao) zr zr zr bp ?_
  intro b2
  (refine nN ?_)
  refine aE rfl ?_
  refine aN (U:=ao) zr zr zr bp ?_
  intro b4
  refine go ?_
  refine aw zr zr ?_ ?_
  · intro ct
    have hp:iO l=none:=by unfold iO;rw[if_neg (by intro h;apply ct;rw[g8,h.1];rfl)]
    rw[hp]at hE
    refine aE rfl ?_
    refine aI (U:=ao) 0 zr zr zr zr zr zr ?_
    refine go ?_
    (refine aU hE ?_;apply aR (U:=ao) hE Tryz.func172 rfl (aq.refl _);(repeat(first|exact aK.nil|apply aK.tmp rfl|apply aK.agg 1 zr zr zr zr zr));exact⟨rfl,rfl⟩;exact ad)
  intro heq
  have Ju:l.length=64:=by rw[g8]at heq;omega
  have h8:∀x:UInt8,x.toNat<256:=fun x=>x.toNat_lt
  refine go ?_
  ((refine bj 13 ((.int .i64 64)) rfl ((congrArg (Value.int .i64) (by rw[g8];omega))) ?_))
  refine bo (fun i:Nat=>i≤64∧∀j,j<i→j6 (l.getD j 0)≠none) (fun i=>64-i)
    (fun i=>[(0,.string s),(2,ptr b2),(3,.int .i64 0),(4,ptr b4),(13,.int .i64 64),(14,.int .i64 (i:Int))])
    (fun i=>ag b4 (cl (bV (Dp l i)) 36)::ag b2 (cl (dC Dg.zero) 36)::F) 0 ⟨Nat.zero_le _,fun j hj=>by omega⟩ rfl bY (by rw[Kl];exact ad) ?_
  rintro i⟨hi,qc⟩ ih
  refine go ?_
  refine aw zr zr ?_ ?_
  · intro cO
    have H9:i<64:=by omega
    have hold:=Nc l H9
    have B4:=Km l H9
    have ZQ:=zS l i
    have Wn:=zS l (i-1)
    refine go ?_
    refine qK (U:=ao) zr zr zr zr zr ai (by rw[g8];omega) ?_
    ((refine aB 20 ((u8 (l.getD i 0))) rfl ((by rw[Int.toNat_natCast];unfold tD;rw[← hl];rfl)) ?_))
    refine go ?_
    ((refine ah zr zr zr zr (GK (l.getD i 0)) ad ?_ bE))
    rintro _ _⟨rfl,rfl⟩
    have hh0:(j6 (l.getD i 0)).getD 0=lD l i:=rfl
    cases hx:j6 (l.getD i 0)with
    | none =>
      have hp:iO l=none:=by
        unfold iO;rw[if_neg]
        intro h
        have hm:l.getD i 0∈l:=by rw[List.getD_eq_getElem?_getD,List.getElem?_eq_getElem ai];exact List.getElem_mem _
        exact h.2 _ hm hx
      rw[hp]at hE
      refine go ?_
      refine iU (U:=ao) zr zr zr zr zr ?_
      refine go ?_
      (refine aU hE ?_;apply aR (U:=ao) hE Tryz.func172 rfl (aq.refl _);(repeat(first|exact aK.nil|apply aK.tmp rfl|apply aK.agg 1 zr zr zr zr zr));exact⟨rfl,rfl⟩;exact ad)
    | some v =>
      have hv:v=lD l i:=by rw[hx]at hh0;exact hh0
      simp only[Option.getD_some,Option.isSome_some]
      rw[hv]
      obtain⟨o,ho⟩:∃o,o=(if i%2=0 then 0 else lD l (i-1)):=⟨_,rfl⟩
      have aan:o<16:=by rw[ho];split <;> omega
      rw[← ho]at hold B4
      have hq:(i:Int)/2=((i/2:Nat):Int):=by omega
      refine go ?_
      (repeat(first|refine fk ?_|refine mR zr zr zr ai ai (by simp only[fz];omega) ?_|refine dF (U:=ao) (i/2) zr zr zr zr zr zr zr hq ai ?_|(refine aJ ?_;refine lu (U:=ao) 0 (i/2) zr zr zr (Nat.zero_add _) (oP hold) zr zr ?_)))
      refine mi zr zr zr ai ?_
      ((refine aB 33 ((.int .u8 ((16*o:Nat):Int))) rfl ((congrArg (Value.int .u8) (by rw[show(UInt8.ofNat o).toNat=o from by rw[UInt8.toNat_ofNat'];omega];exact(cD (by show 0≤(o:Int)*2 ^ 4∧_;simp only[show min ((4:Int).toNat) IntKind.u8.bits=4 from rfl];omega)).trans (by show(o:Int)*2 ^ 4=_;omega)))) ?_))
      refine go ?_
      ((refine aB 35 ((u8 (UInt8.ofNat (16*o+lD l i)))) rfl ((congrArg (Value.int .u8) (by rw[SA o (lD l i) aan ZQ,UInt8.toNat_ofNat'];omega))) ?_))
      (repeat((refine dF (U:=ao) (i/2) zr zr zr zr zr zr zr hq ai ?_)))
      refine aS ?_
      refine fV (U:=ao) 0 fR zr zr zr zr zr zr zr (by rw[bt,jG];omega) rfl ?_
      rw[show 0+i/2=i/2 from Nat.zero_add _,show(bV (Dp l i)).set (i/2) (u8 (UInt8.ofNat (16*o+lD l i)))=bV (Dp l (i+1))from by rw[← B4];simp[bV]]
      refine go ?_
      refine aO ih (i+1) rfl ⟨ai,fun j hj=>by
        rcases Nat.lt_or_ge j i with h|h
        · exact qc j h
        · rw[show j=i from by omega,hx];simp⟩ ai bY ad
  intro eQ
  have H9:i=64:=by omega
  subst H9
  have hp:iO l=some ⟨Dp l 64,jG l 64⟩:=by
    unfold iO
    rw[if_pos ⟨Ju,fun c hc=>by
      obtain⟨j,hj,rfl⟩:=List.mem_iff_getElem.1 hc
      have:=qc j ai
      rwa[List.getD_eq_getElem?_getD,List.getElem?_eq_getElem hj]at this⟩]
  rw[hp]at hE
  obtain⟨d,hd⟩:∃d:Dg,d=⟨Dp l 64,jG l 64⟩:=⟨_,rfl⟩
  rw[← hd]at hE
  have Tu:bV (Dp l 64)=dC d:=by rw[dp,hd]
  rw[Tu]
  clear ih
  refine go ?_
  refine aI (U:=ao) 0 zr zr zr zr zr zr ?_
  refine go ?_
  (refine aU hE ?_;apply aR (U:=ao) hE Tryz.func172 rfl (aq.refl _);(repeat(first|exact aK.nil|apply aK.tmp rfl|apply aK.agg 1 zr zr zr zr zr));exact⟨rfl,rfl⟩;exact ad)
end Go.Proofs.YthjbidjmgbjkiaaGreatDoor
namespace Go.Proofs.YthjbidjmgbjkiaaGreatDoor
open Go Go.SL
def fT(l:List Dg)(i:Nat):List Dg:=(bu l).take i++l.drop i
theorem po(l:List Dg){i:Nat}(h:i≤l.length/2):(fT l i).length=l.length:=by
 unfold fT
 rw[List.length_append,List.length_take,List.length_drop,cH];omega
theorem sV(l:List Dg){i j:Nat}(h:i≤l.length/2)(hj:i≤j):(fT l i)[j]?=l[j]? := by
 unfold fT
 have h1:((bu l).take i).length=i:=by rw[List.length_take,cH];omega
 rw[List.getElem?_append_right ai,h1,List.getElem?_drop,show i+(j-i)=j from by omega]
theorem y6{l:List Dg}{i:Nat}{a b:Dg}(ha:l[2*i]?=some a)(hb:l[2*i+1]?=some b):(bu l)[i]?=some (gn a b):=by
 rw[qF,ha,hb]
theorem uj{l:List Dg}{i:Nat}{a:Dg}(ha:l[2*i]?=some a)(hb:l.length≤2*i+1):(bu l)[i]?=some a:=by
 rw[qF,ha,List.getElem?_eq_none hb]
theorem G6(l:List Dg){i:Nat}(h:i<l.length/2){x:Dg}(hx:(bu l)[i]?=some x):(fT l i).set i x=fT l (i+1):=by
 unfold fT
 have h1:((bu l).take i).length=i:=by rw[List.length_take,cH];omega
 rw[List.set_append_right _ _ ai,h1,Nat.sub_self,List.take_add_one,hx]
 have h2:l.drop i=l[i]::l.drop (i+1):=List.drop_eq_getElem_cons ai
 rw[h2,List.set_cons_zero]
 simp
theorem DX(l:List Dg)(h:l.length%2=0):(fT l (l.length/2)).take ((l.length+1)/2)=bu l:=by
 unfold fT
 have h1:(bu l).length=(l.length+1)/2:=cH l
 rw[List.take_of_length_le (l:=bu l) ai,List.take_append_of_le_length ai,List.take_of_length_le ai]
theorem G7(l:List Dg)(h:l.length%2=1){x:Dg}(hx:l[l.length-1]?=some x):((fT l (l.length/2)).set (l.length/2) x).take ((l.length+1)/2)=bu l:=by
 have h1:(bu l).length=(l.length+1)/2:=cH l
 have h2:(bu l)[l.length/2]?=some x:=uj (by rw[← hx];congr 1;omega) ai
 apply List.ext_getElem?
 intro j
 rw[List.getElem?_take]
 rcases Nat.lt_or_ge j ((l.length+1)/2)with hj|hj
 ·rw[if_pos hj,List.getElem?_set]
  by_cases uy:l.length/2=j
  ·rw[if_pos uy,if_pos (by rw[po l (Nat.le_refl _)];omega),← uy,h2]
  ·rw[if_neg uy]
   unfold fT
   rw[List.getElem?_append_left (by rw[List.length_take];omega),List.getElem?_take,if_pos ai]
 ·rw[if_neg ai,List.getElem?_eq_none ai]
def cR:Nat→List Dg→List Dg
 | 0,l=>l
 | j+1,l=>bu (cR j l)
theorem nc(l:List Dg):∀j,cR j (bu l)=cR (j+1) l
 | 0=>rfl
 | j+1=>by
  show bu (cR j (bu l))=_
  rw[nc l j];rfl
theorem zA(l:List Dg):∀j,(cR j l).length≤l.length
 | 0=>Nat.le_refl _
 | j+1=>by
  have:=zA l j
  simp only[cR,cH];omega
theorem rl(l:List Dg)(h:1≤l.length):∀j,1≤(cR j l).length
 | 0=>h
 | j+1=>by
  have:=rl l h j
  simp only[cR,cH];omega
theorem Fs:∀(f:Nat) (l:List Dg) (j:Nat),l.length≤f+1→(∀i,i<j→1<(cR i l).length)→(cR j l).length≤1→Yd f l=cR j l
 | 0,l,j,hf,hi,hj=>by
  cases j with
  | zero=>rfl
  | succ j =>
   have:=hi 0 ai
   simp only[cR]at this;omega
 | f+1,l,j,hf,hi,hj=>by
  unfold Yd
  cases j with
  | zero=>rw[if_pos (show l.length≤1 from hj)];rfl
  | succ j =>
   have h0:=hi 0 ai
   simp only[cR]at h0
   rw[if_neg ai,Fs f (bu l) j (by rw[cH];omega) (fun i h=>by rw[nc];exact hi (i+1) ai) (by rw[nc];exact hj),nc]
theorem Bg{l:List Dg}{j:Nat}(h1:l≠[])(hi:∀i,i<j→1<(cR i l).length){x:Dg}(hj:cR j l=[x]):vv l=x:=by
 unfold vv
 rw[if_neg h1,Fs _ l j ai hi (by rw[hj];simp),hj]
 rfl
theorem jN(k:Nat)(hk:0<k):∀(f:Nat) (b:List UInt8) (j:Nat),b.length≤f→(fq k f b)[j]?=if j*k<b.length then some ((b.drop (j*k)).take k)else none
 | 0,b,j,h=>by
  have:b=[]:=List.eq_nil_of_length_eq_zero ai
  subst this;simp[fq]
 | f+1,b,j,h=>by
  unfold fq
  by_cases hb:b=[]
  ·subst hb;simp
  ·rw[if_neg hb]
   have k6:0<b.length:=List.length_pos_iff.2 hb
   cases j with
   | zero=>simp[k6]
   | succ j =>
    rw[List.getElem?_cons_succ,jN k hk f (b.drop k) j (by rw[List.length_drop];omega),List.length_drop,List.drop_drop]
    have e:(j+1)*k=j*k+k:=by rw[Nat.add_mul,Nat.one_mul]
    rw[e,show k+j*k=j*k+k from Nat.add_comm _ _]
    by_cases cO:j*k<b.length-k
    ·rw[if_pos cO,if_pos ai]
    ·rw[if_neg cO,if_neg ai]
theorem lP(k:Nat)(hk:0<k)(b:List UInt8):(fq k b.length b).length=(b.length+k-1)/k:=by
 have hg:=jN k hk b.length b
 have h1:∀j,j<(fq k b.length b).length↔j<(b.length+k-1)/k:=by
  intro j
  have h2:=hg j (Nat.le_refl _)
  have h3:j<(b.length+k-1)/k↔j*k<b.length:=by
   rw[show j<(b.length+k-1)/k↔j+1≤(b.length+k-1)/k from Iff.rfl,Nat.le_div_iff_mul_le hk,Nat.add_mul,Nat.one_mul]
   omega
  rw[h3]
  constructor
  ·intro h
   rw[List.getElem?_eq_getElem h]at h2
   split at h2
   ·assumption
   ·cases h2
  ·intro h
   rw[if_pos h]at h2
   exact(List.getElem?_eq_some_iff.1 h2).1
 rcases Nat.lt_trichotomy (fq k b.length b).length ((b.length+k-1)/k)with h|h|h
 ·have:=(h1 _).2 h;omega
 ·exact h
 ·have:=(h1 _).1 h;omega
attribute [local irreducible] J K aD Ends ag az aL bK aZ aQ aV bg bQ Sha.chunks Sha.chunk Sha.rounds Sha.sched dA cd
theorem dR.block{b n:Nat}{bs:List UInt8}{l:List Value}{e:TypeId}(hn:bs.length=n)(hl:l=bV bs):dR (ag b (cl l e)) (.slice (some ⟨b,0,none⟩) n n) bs:=by
 subst hn hl
 exact⟨Vw.ag (by rw[List.drop_zero,List.take_length]),_,_,rfl,Nat.le_refl _⟩
set_option maxRecDepth 20000 in
theorem CS(A:HP)(hK:mX A)(v:Value)(b:List UInt8)(hv:dR A v b)(hl:b.length≤900000000):aD Tryz.prog 89 [v] [A] (fun r H=>r=dV (cI b)∧H=[A]):=by
 obtain⟨a,c,rfl,hc⟩:=hv.2
 refine aD.enter Tryz.func89 ak rfl Tryz.ntmps89 zr zr ?_
 intro G F R hE
 refine aE rfl ?_
 refine aN (U:=ao) zr zr zr bp ?_
 intro b2
 (refine nN ?_)
 (refine aE rfl ?_;refine nN ?_)
 refine au (U:=ao) (cs:=[.slice a b.length c]) zr zr zr zr zr zr zr zr zr bp ?_
 intro b0
 refine aG (aq.trans (aq.pick [0,2] rfl) (aq.bL [_,_] _)) ?_
 ((refine ah rfl rfl rfl rfl (wN (Sep [ag b0 (cl [.slice a b.length c] 39),A]) (hK.mono (aW (i:=1) rfl)) 0 _ [b] (qi.row rfl rfl (fun i x hx=>by cases i with|zero=>(simp at hx;subst hx;exact⟨_,rfl,hv⟩)|succ i=>simp at hx)) (by simp[cG,ko];omega)) ad ?_ bE))
 rintro _ _⟨rfl,rfl⟩
 refine aG (aq.cg _ _) ?_
 refine go ?_
 (refine aU hE ?_;apply aR (U:=ao) hE Tryz.func89 rfl (aq.refl _);(repeat(first|exact aK.nil|apply aK.agg 2 zr zr zr zr zr));exact⟨rfl,rfl⟩;exact ad)
set_option maxRecDepth 20000 in
theorem wT(A:HP)(hK:mX A)(l r:Dg):aD Tryz.prog 148 [dV l,dV r] [A] (fun x H=>x=dV (gn l r)∧H=[A]):=by
 unfold dV
 refine aD.enter Tryz.func148 ak rfl Tryz.ntmps148 zr zr ?_
 intro G F R hE
 refine aE rfl ?_
 refine bq zr zr bp ?_
 intro b2
 refine bq zr zr bp ?_
 intro b3
 refine aN (U:=ao) zr zr zr bp ?_
 intro b4
 refine go ?_
 refine aF (fun w=>Sat G w ([])) (.st 0 (.st 1 (.act 2 (.act 3 (.act 4 .nil))))) rfl ak ak ak (fun w hw=>hw.aX ad) ?_
 refine go ?_
 refine gM (U:=ao) zr zr zr zr zr ?_
 refine go ?_
 refine gM (U:=ao) zr zr zr zr zr ?_
 refine au (U:=ao) (cs:=[.slice (some ⟨b2,0,none⟩) 32 32,.slice (some ⟨b3,0,none⟩) 32 32]) zr zr zr zr zr zr zr zr zr (fun _ _ hw=>hw.aX ad) ?_
 intro b0
 refine aG (aq.trans (aq.pick [3,2,4] rfl) (aq.trans (aq.bL [_,_,_] _) (aq.trans (aq.pick [1,0] rfl) (aq.bL [_,_] _)))) ?_
 have lG:qi (Sep [ag b0 (cl [.slice (some ⟨b2,0,none⟩) 32 32,.slice (some ⟨b3,0,none⟩) 32 32] 39),Sep [ag b2 (cl (dC l) 36),ag b3 (cl (dC r) 36),A] ]) (.slice (some ⟨b0,0,none⟩) 2 2) [l.bs,r.bs]:=by
  refine qi.row zr zr (fun i x hx=>?_)
  match i,hx with
  | 0,hx =>
   simp at hx
   subst hx
   exact⟨_,rfl,(dR.block l.len (dp l)).mono (aW (i:=0) rfl)⟩
  | 1,hx =>
   simp at hx
   subst hx
   exact⟨_,rfl,(dR.block r.len (dp r)).mono (aW (i:=1) rfl)⟩
  | i+2,hx=>simp at hx
 have SN:=wN _ ((hK.mono (aW (H:=[ag b2 (cl (dC l) 36),ag b3 (cl (dC r) 36),A]) (i:=2) rfl)).mono (aW (i:=1) rfl)) 1 _ [l.bs,r.bs] lG (by simp[cG,ko,l.len,r.len])
 ((refine ah rfl rfl rfl rfl (SN) ad ?_ (fun _ _ w hp hw=>by obtain⟨rfl,rfl⟩:=hp;exact hw.aX ad)))
 rintro _ _⟨rfl,rfl⟩
 refine aG (aq.trans (aq.cg _ _) (aq.trans (aq.pick [1] rfl) (aq.cg _ _))) ?_
 refine go ?_
 refine aS ?_
 refine cn (U:=ao) (l':=dC (cd 1 [l.bs,r.bs])) 4 fR rfl rfl rfl rfl (by intro e;cases e) (by rw[dp];exact iH _) rfl rfl rfl ?_
 refine go ?_
 (refine aU hE ?_;apply aR (U:=ao) hE Tryz.func148 rfl (aq.refl _);(repeat(first|exact aK.nil|apply aK.agg 4 zr zr zr zr zr));exact⟨rfl,rfl⟩;exact ad)
theorem LF(l:List Dg):∀v∈l.flatMap dC,v.oneCell'=true:=by
 intro v hv
 obtain⟨d,_,hd⟩:=List.mem_flatMap.1 hv
 rw[dp]at hd
 exact cC _ v hd
theorem xi(A:HP)(v:Value)(W:List Dg)(hv:Vw A v W.length (W.flatMap dC))(hlen:W.length≤1000000) :
  aD Tryz.prog 49 [v] [A] (fun r H=>H=[az 36 32 r W.length (W.flatMap dC),A]):=by
 obtain⟨a,c0,rfl⟩:=hv.shape
 cases a with
 | none =>
  have hb:W=[]:=by
   obtain⟨a,cap,h1,h2|⟨b,o,h2,_⟩⟩:=hv
   ·have:=congrArg List.length h2
    rw[bZ cP]at this
    exact List.eq_nil_of_length_eq_zero (by simp at this;omega)
   ·simp only[Value.slice.injEq]at h1;rw[← h1.1]at h2;cases h2
  subst hb
  refine aD.enter Tryz.func49 ak rfl Tryz.ntmps49 zr zr ?_
  intro G F R hR
  refine go ?_
  refine aj (bw 36 32 none _) ?_
  refine ae hR Tryz.func49 rfl _ zr zr (aq.fin [0,1] 0 zr zr)
 | some a =>
  refine aD.enter Tryz.func49 ak rfl Tryz.ntmps49 zr zr ?_
  intro G F R hR
  refine go ?_
  refine au (U:=ao) (cs:=[]) zr zr zr zr zr zr zr zr zr bp ?_
  intro b0
  refine go ?_
  refine aG (dZ 36 32 b0 0 0 [] [] _ rfl (Nat.le_refl _) (by simp)) ?_
  refine bh (U:=ao) (mm:=W.length) (news:=W.flatMap dC) 0 1 zr zr zr zr zr zr zr zr zr zr zr zr hv (by rw[bZ cP];rfl) (LF W) ai (by show _*32≤_;omega) (fun _=>rfl) bp ?_
  intro v'
  have e1:(0:Nat)+W.length=W.length:=by omega
  rw[e1,List.nil_append]
  refine go ?_
  refine ae hR Tryz.func49 rfl _ zr zr (aq.fin [0,1] 0 zr zr)
theorem JY(a:Option Addr)(n c:Nat):aD Tryz.prog 218 [.slice a n c] [] (fun r H=>∃b,r = .func (.func 238) #[] #[ptr b]∧H=[ag b (cl [.slice a n c] 40)]):=by
 refine aD.enter Tryz.func218 ak rfl Tryz.ntmps218 zr zr ?_
 intro G F R hE
 refine go ?_
 refine bq zr zr bp ?_
 intro bx
 refine go ?_
 ((refine ae hE Tryz.func218 rfl _ rfl ⟨bx,rfl,rfl⟩ ad))
theorem Cl(n:Nat):(n:Int)/2 ^ (min ((1:Int).toNat) IntKind.i64.bits)=((n/2:Nat):Int):=by
 show(n:Int)/2 ^ 1=_
 omega
theorem Ge(n:Nat)(h:n<1000000000):IntKind.i64.wrap ((n:Int)*2 ^ (min ((1:Int).toNat) IntKind.i64.bits))=((2*n:Nat):Int):=by
 show IntKind.i64.wrap ((n:Int)*2 ^ 1)=_
 rw[cD (by simp only[fz];omega)];omega
theorem Ng(n:Nat)(h:n<1000000000):IntKind.i64.wrap ((BitVec.ofInt IntKind.i64.bits ((2*n:Nat):Int) ||| BitVec.ofInt IntKind.i64.bits 1).toNat:Int)=((2*n+1:Nat):Int):=by
 have h1:=nh (a:=1) (c:=n) (k:=1) (by decide)
 have e1:(BitVec.ofInt IntKind.i64.bits (1:Int)).toNat=1:=by decide
 rw[BitVec.toNat_or,uK ai,e1,Nat.or_comm,show 2*n=n*2 ^ 1 from by omega,h1]
 exact(cD (by simp only[fz];omega)).trans (congrArg _ ai)
theorem sc(n:Nat)(h:n<1000000000):IntKind.i64.wrap ((BitVec.ofInt IntKind.i64.bits (n:Int) &&& BitVec.ofInt IntKind.i64.bits 1).toNat:Int)=((n%2:Nat):Int):=r' n 1 ai ai
theorem gP{b o c m m':Nat}(h:0<c)(hm:m'=m):Value.slice (sliceAt (some ⟨b,o,none⟩) c (0:Int).toNat 32) (((m:Nat):Int).toNat-(0:Int).toNat) (c-(0:Int).toNat) = .slice (some ⟨b,o,none⟩) m' c:=by
 subst hm
 unfold sliceAt
 rw[if_neg (by show ¬(0=c);omega)]
 simp[Addr.add]
theorem Bf{b o c n:Nat}{pre bM:List Value}{V8 W:List Dg}{e:TypeId}(hp:pre.length=o)(hn:n≤c)(hc:c*32≤(V8.flatMap dC).length+bM.length)(hl:(V8.flatMap dC).length=n*32)(V:List Dg)(hV:V.length=n)(hW:W=V.take W.length)(H:List HP) :
  aq (ag b (cl (pre++V.flatMap dC++bM) e)::H) (az e 32 (.slice (some ⟨b,o,none⟩) W.length c) W.length (W.flatMap dC)::H):=by
 have h1:V.flatMap dC=W.flatMap dC++(V.drop W.length).flatMap dC:=by
  conv=>lhs;rw[← List.take_append_drop W.length V]
  rw[List.flatMap_append,← hW]
 have eA:W.length≤n:=by
  have:=congrArg List.length hW
  rw[List.length_take]at this;omega
 have h2:((V.drop W.length).flatMap dC).length=(n-W.length)*32:=by rw[bZ cP,List.length_drop,hV]
 have h3:=bZ cP W
 rw[h1,List.append_assoc,List.append_assoc,← List.append_assoc]
 refine kU hp ai ?_ h3 H
 rw[List.length_append,h2,h3];omega
set_option maxRecDepth 20000 in
set_option maxHeartbeats 1000000 in
theorem G5(A:HP)(hK:mX A)(bx:Nat)(v:Value)(l0:List Dg)(hv:Vw A v l0.length (l0.flatMap dC))(Lb:l0.length≤1000000)(l:Nat)(Lp:HP)(Inv:Nat→HP)(hy:∀j va vc,(∀i,i<j→1<(cR i l0).length)→bQ Tryz.prog l [.slice va (cR j l0).length vc] [Lp,Inv j,az 36 32 (.slice va (cR j l0).length vc) (cR j l0).length ((cR j l0).flatMap dC)] (fun r H=>r = .bool true∧H=[Lp,Inv (j+1),az 36 32 (.slice va (cR j l0).length vc) (cR j l0).length ((cR j l0).flatMap dC)])) :
  aD Tryz.prog 238 [.func (.yield l) #[] #[],ptr bx] [Lp,Inv 0,ag bx (cl [v] 40),A] (fun _ H=>∃j,(∀i,i<j→1<(cR i l0).length)∧(cR j l0).length≤1∧H=[Lp,Inv (j+1),A]):=by
 refine aD.enter Tryz.func238 ak rfl Tryz.ntmps238 zr zr ?_
 intro G F R hE
 refine go ?_
 ((refine ah zr zr zr zr (xi A v l0 hv Lb) ad ?_ bE))
 rintro r _ rfl
 ((refine aM 0 rfl ?_))
 rintro ra rc rfl
 refine go ?_
 refine bo (fun y:Nat × Option Addr × Nat=>∀i,i<y.1→1<(cR i l0).length) (fun y=>(cR y.1 l0).length)
  (fun y=>[(0,.func (.yield l) #[] #[]),(3,.slice y.2.1 (cR y.1 l0).length y.2.2)])
  (fun y=>az 36 32 (.slice y.2.1 (cR y.1 l0).length y.2.2) (cR y.1 l0).length ((cR y.1 l0).flatMap dC)::Lp::Inv y.1::A::F) (0,ra,rc) (fun i h=>by omega) rfl bY ad ?_
 rintro⟨j,a1,c1⟩ hI ih
 simp only at hI
 dsimp only
 have hle:=zA l0 j
 refine go ?_
 refine aw zr zr ?_ ?_
 ·intro ML
  have xM:1<(cR j l0).length:=by omega
  have Y4:∀i,i<j+1→1<(cR i l0).length:=fun i hi=>by
   rcases Nat.lt_or_ge i j with h|h
   ·exact hI i h
   ·rw[show i=j from by omega];exact xM
  have pF:cR (j+1) l0=bu (cR j l0):=rfl
  have Yr:=hy j a1 c1 hI
  obtain⟨row,xG⟩:∃row,row=cR j l0:=⟨_,rfl⟩
  rw[← xG]at hle ML xM pF Yr ⊢
  have vZ:=cH row
  refine go ?_
  refine jH zr zr zr Yr ad ?_ bE
  rintro _ _⟨rfl,rfl⟩
  refine go ?_
  refine jg zr zr zr ai ?_
  ((refine aB 16 ((.int .i64 ((row.length/2:Nat):Int))) rfl ((congrArg (Value.int .i64) (Cl row.length))) ?_))
  refine go ?_
  refine aj (aq.pick [2,0,1] rfl) ?_
  refine qI (fun a lD hn _=>by omega) ?_
  rintro b o cc pre bM qP lE YG iy lz
  simp only[Value.slice.injEq,true_and]at qP
  obtain⟨rfl,rfl⟩:=qP
  have qS:∀i,i≤row.length/2→((fT row i).flatMap dC).length=row.length*32:=fun i hi=>by rw[bZ cP,po row hi]
  refine bo (fun i:Nat=>i≤row.length/2) (fun i=>row.length/2-i)
   (fun i=>[(0,.func (.yield l) #[] #[]),(3,.slice (some ⟨b,o,none⟩) row.length c1),(16,.int .i64 ((row.length/2:Nat):Int)),(17,.int .i64 (i:Int))])
   (fun i=>ag b (cl (pre++(fT row i).flatMap dC++bM) 36)::Lp::Inv (j+1)::A::F) 0 (Nat.zero_le _) rfl bY ad ?_
  rintro i hi MD
  have HR:=po row hi
  refine go ?_
  refine aw zr zr ?_ ?_
  ·intro cO
   have YL:i<row.length/2:=by omega
   obtain⟨x,hx⟩:∃x,row[2*i]?=some x:=⟨row[2*i]' ai,by simp⟩
   obtain⟨y,HL⟩:∃x,row[2*i+1]?=some x:=⟨row[2*i+1]' ai,by simp⟩
   have yK:=(sV row hi (show i≤2*i by omega)).trans hx
   have YN:=(sV row hi (show i≤2*i+1 by omega)).trans HL
   have fM:=G6 row YL (y6 hx HL)
   have dj:Vw (ag b (cl (pre++(fT row i).flatMap dC++bM) 36)) (.slice (some ⟨b,o,none⟩) row.length c1) row.length ((fT row i).flatMap dC):=Vw.ag (by rw[← lE,List.append_assoc,List.drop_left,List.take_left])
   refine go ?_
   refine aF (fun w=>Sat G w ([ag b (cl (pre++(fT row i).flatMap dC++bM) 36)])) (.st 0 (.st 1 (.st 2 (.st 3 (.st 4 (.st 5 (.st 6 (.st 7 (.st 8 (.st 9 (.st 10 (.st 11 (.st 12 (.act 13 (.st 14 (.act 15 .nil)))))))))))))))) rfl ak ak ak (fun w hw=>hw.aX ad) ?_
   refine go ?_
   refine mi zr zr zr ai ?_
   ((refine aB 24 ((.int .i64 ((2*i:Nat):Int))) rfl ((congrArg (Value.int .i64) (Ge i ai))) ?_))
   refine eE (U:=ao) (2*i) 32 zr zr zr zr zr zr zr zr ai ?_
   refine aJ ?_
   refine e9 (U:=ao) (es:=dC x) 0 ((2*i)*32) zr zr zr dj rfl (fun q v hq=>?_) zr zr zr ?_
   ·rw[cF cP yK q (by rcases Nat.lt_or_ge q 32 with h|h;exact h;rw[List.getElem?_eq_none (by rw[cP];exact h)]at hq;cases hq)];exact hq
   refine go ?_
   refine mi zr zr zr ai ?_
   ((refine aB 29 ((.int .i64 ((2*i:Nat):Int))) rfl ((congrArg (Value.int .i64) (Ge i ai))) ?_))
   refine go ?_
   ((refine aB 30 ((.int .i64 ((2*i+1:Nat):Int))) rfl ((congrArg (Value.int .i64) (Ng i ai))) ?_))
   refine eE (U:=ao) (2*i+1) 32 zr zr zr zr zr zr zr zr ai ?_
   refine aJ ?_
   refine e9 (U:=ao) (es:=dC y) 0 ((2*i+1)*32) zr zr zr dj rfl (fun q v hq=>?_) zr zr zr ?_
   ·rw[cF cP YN q (by rcases Nat.lt_or_ge q 32 with h|h;exact h;rw[List.getElem?_eq_none (by rw[cP];exact h)]at hq;cases hq)];exact hq
   refine go ?_
   ((refine ah rfl rfl rfl rfl ((wT A hK x y)) ad ?_ (fun _ _ w hp hw=>by obtain⟨rfl,rfl⟩:=hp;exact hw.aX ad)))
   rintro _ _⟨rfl,rfl⟩
   refine go ?_
   refine eE (U:=ao) i 32 zr zr zr zr zr zr zr zr ai ?_
   refine aS ?_
   refine jC (U:=ao) (l':=pre++(fT row (i+1)).flatMap dC++bM) 1 fR zr zr zr zr zr zr zr ?_ ?_ rfl ?_
   ·show o+i*32+32≤_
    rw[List.length_append,List.length_append,qS i hi];omega
   ·show _=List.take (o+i*32) (pre++(fT row i).flatMap dC++bM)++dC (gn x y)++List.drop (o+i*32+(dC (gn x y)).length) (pre++(fT row i).flatMap dC++bM)
    rw[← lE,m8 _ _ _ _ _ (by rw[cP,qS i hi];omega),← fM,tz cP ai]
    rfl
   refine go ?_
   refine aO MD (i+1) rfl ai ai bY ad
  intro eQ
  have sJ:i=row.length/2:=by omega
  subst sJ
  clear MD
  have Xn:=qS (row.length/2) (Nat.le_refl _)
  have HR:=po row (Nat.le_refl (row.length/2))
  refine go ?_
  ((refine bj 38 ((.int .i64 ((row.length%2:Nat):Int))) rfl ((congrArg (Value.int .i64) (sc row.length ai))) ?_))
  refine aw zr zr ?_ ?_
  ·intro aam
   have WL:row.length%2=1:=by rw[sc _ ai]at aam;omega
   obtain⟨x,hx⟩:∃x,row[row.length-1]?=some x:=⟨row[row.length-1]' ai,by simp⟩
   have yK:=(sV row (Nat.le_refl (row.length/2)) (show row.length/2≤row.length-1 by omega)).trans hx
   have dj:Vw (ag b (cl (pre++(fT row (row.length/2)).flatMap dC++bM) 36)) (.slice (some ⟨b,o,none⟩) row.length c1) row.length ((fT row (row.length/2)).flatMap dC):=Vw.ag (by rw[← lE,List.append_assoc,List.drop_left,List.take_left])
   have fN:=G7 row WL hx
   refine go ?_
   refine jg zr zr zr ai ?_
   ((refine aB 43 ((.int .i64 ((row.length/2:Nat):Int))) rfl ((congrArg (Value.int .i64) (Cl row.length))) ?_))
   refine go ?_
   ((refine aB 47 ((.int .i64 ((row.length-1:Nat):Int))) rfl ((congrArg (Value.int .i64) ai)) ?_))
   refine eE (U:=ao) (row.length-1) 32 zr zr zr zr zr zr zr zr ai ?_
   refine aJ ?_
   refine cQ (U:=ao) (es:=dC x) 0 ((row.length-1)*32) zr zr zr dj rfl (fun q v hq=>?_) zr zr zr ?_
   ·rw[cF cP yK q (by rcases Nat.lt_or_ge q 32 with h|h;exact h;rw[List.getElem?_eq_none (by rw[cP];exact h)]at hq;cases hq)];exact hq
   refine eE (U:=ao) (row.length/2) 32 zr zr zr zr zr zr zr zr ai ?_
   refine aS ?_
   refine jC (U:=ao) (l':=pre++((fT row (row.length/2)).set (row.length/2) x).flatMap dC++bM) 0 fR zr zr zr zr zr zr zr ?_ ?_ rfl ?_
   ·show o+row.length/2*32+32≤_
    rw[List.length_append,List.length_append,Xn];omega
   ·show _=List.take (o+row.length/2*32) (pre++(fT row (row.length/2)).flatMap dC++bM)++dC x++List.drop (o+row.length/2*32+(dC x).length) (pre++(fT row (row.length/2)).flatMap dC++bM)
    rw[← lE,m8 _ _ _ _ _ (by rw[cP,Xn];omega),tz cP ai]
    rfl
   (refine go ?_;refine jg zr zr zr ai ?_;((refine aB 55 ((.int .i64 (((row.length+1)/2:Nat):Int))) rfl ((congrArg (Value.int .i64) (by show((row.length:Int)+1)/2 ^ 1=_;omega))) ?_));refine bG (U:=ao) (p:=0) (q:=(((row.length+1)/2:Nat):Int)) zr zr zr zr zr zr zr ai ai (.inr ai) ?_;((refine aB 56 ((.slice (some ⟨b,o,none⟩) (cR (j+1) l0).length c1)) rfl ((gP ai (by rw[pF,vZ]))) ?_));((refine aG (Bf (W:=cR (j+1) l0) lE YG iy lz ((fT row (row.length/2)).set (row.length/2) x) (by rw[List.length_set];exact HR) (by rw[pF,vZ];exact fN.symm) _) ?_));refine go ?_;refine aO ih (j+1,some ⟨b,o,none⟩,c1) rfl Y4 (by simp only;rw[pF,← xG];omega) bY ad)
  ·intro Xr
   have Ti:row.length%2=0:=by rw[sc _ ai]at Xr;omega
   have fN:=DX row Ti
   (refine go ?_;refine jg zr zr zr ai ?_;((refine aB 55 ((.int .i64 (((row.length+1)/2:Nat):Int))) rfl ((congrArg (Value.int .i64) (by show((row.length:Int)+1)/2 ^ 1=_;omega))) ?_));refine bG (U:=ao) (p:=0) (q:=(((row.length+1)/2:Nat):Int)) zr zr zr zr zr zr zr ai ai (.inr ai) ?_;((refine aB 56 ((.slice (some ⟨b,o,none⟩) (cR (j+1) l0).length c1)) rfl ((gP ai (by rw[pF,vZ]))) ?_));((refine aG (Bf (W:=cR (j+1) l0) lE YG iy lz (fT row (row.length/2)) HR (by rw[pF,vZ];exact fN.symm) _) ?_));refine go ?_;refine aO ih (j+1,some ⟨b,o,none⟩,c1) rfl Y4 (by simp only;rw[pF,← xG];omega) bY ad)
 ·intro WX
  have WW:(cR j l0).length≤1:=by omega
  refine go ?_
  refine jH zr zr zr (hy j a1 c1 hI) ad ?_ bE
  rintro _ _⟨rfl,rfl⟩
  refine go ?_
  ((refine bO hE Tryz.func238 rfl _ rfl ⟨j,hI,WW,rfl⟩ ad))
set_option maxRecDepth 20000 in
theorem L7(A:HP)(hK:mX A)(v:Value)(l0:List Dg)(hv:Vw A v l0.length (l0.flatMap dC))(Lb:l0.length≤1000000)(ct:l0≠[]):aD Tryz.prog 199 [v] [A] (fun r H=>r=dV (vv l0)∧H=[A]):=by
 obtain⟨a,c,rfl⟩:=hv.shape
 have k6:0<l0.length:=List.length_pos_iff.2 ct
 refine aD.enter Tryz.func199 ak rfl Tryz.ntmps199 zr zr ?_
 intro G F R hE
 refine aE rfl ?_
 refine aN (U:=ao) zr zr zr bp ?_
 intro b2
 refine go ?_
 refine aw zr zr ?_ ?_
 ·intro h0;exfalso;omega
 intro _
 (refine aE rfl ?_;refine nN ?_)
 refine aN (U:=ao) zr zr zr bp ?_
 intro b3
 refine go ?_
 ((refine ah zr zr zr zr (JY a l0.length c) ad ?_ bE))
 rintro _ _⟨bx,rfl,rfl⟩
 refine go ?_
 refine gL rfl ?_
 let rt:Nat→Dg:=fun j=>match j with|0=>Dg.zero|j+1=>((cR j l0).head?).getD Dg.zero
 refine aj (aq.trans (aq.pick [2,1] rfl) (aq.bL [ag b2 (cl (dC Dg.zero) 36),ag b3 (cl (dC (rt 0)) 36)] _)) ?_
 refine oV (Fr:=F) (Pre:=fun _ _=>[Sep [ag b2 (cl (dC Dg.zero) 36),ag b3 (cl (dC (rt 0)) 36)],ag bx (cl [.slice a l0.length c] 40),A]) (fun _ _ Lp v H=>∃j,(∀i,i<j→1<(cR i l0).length)∧(cR j l0).length≤1∧H=[Lp .ready none,Sep [ag b2 (cl (dC Dg.zero) 36),ag b3 (cl (dC (rt (j+1))) 36)],A]) rfl hE.1.1 rfl ?c (fun l r=>ad) ?fN
 case c =>
  intro l r
  refine G5 A hK bx _ l0 hv Lb l _ (fun j=>Sep [ag b2 (cl (dC Dg.zero) 36),ag b3 (cl (dC (rt j)) 36)]) ?_
  intro j va vc hI
  refine bQ.BA zr zr ?_
  intro G2 F2 R2 hY
  have SY:=rl l0 k6 j
  have WA:rt (j+1)=((cR j l0).head?).getD Dg.zero:=rfl
  obtain⟨x,row,xG⟩:∃x row,cR j l0=x::row:=by
   cases h:cR j l0 with
   | nil=>rw[h]at SY;simp at SY
   | cons x row=>exact⟨x,row,rfl⟩
  rw[xG]at WA SY
  simp only[List.head?_cons,Option.getD_some]at WA
  rw[xG]at hY ⊢
  rw[WA]at hY
  clear_value rt
  refine go ?_
  refine e8 rfl hY ?_
  refine aj (aq.trans (aq.pick [1] rfl) (aq.cg [_,_] _)) ?_
  refine cM 3 rfl ?_
  intro dj
  obtain⟨b,o,cc,pG⟩:=dj.some (by rw[List.flatMap_cons];intro h;simp[dC]at h)
  simp only[Value.slice.injEq,true_and]at pG
  obtain⟨rfl,rfl⟩:=pG
  refine go ?_
  refine eE (U:=ao) 0 32 zr zr zr zr zr zr zr zr (by simp) ?_
  refine aJ ?_
  refine cQ (U:=ao) (es:=dC x) 3 0 zr zr zr dj rfl (fun q v hq=>?_) zr zr zr ?_
  ·rw[Nat.zero_add,List.flatMap_cons,List.getElem?_append_left]
   ·exact hq
   ·exact(List.getElem?_eq_some_iff.1 hq).1
  refine aS ?_
  refine cn (U:=ao) (l':=dC x) 1 fR rfl rfl rfl rfl (by intro e;cases e) (by rw[dp];exact iH _) rfl rfl rfl ?_
  refine go ?_
  refine aj (aq.bL [_,_] _) ?_
  refine eK hY rfl ad ⟨rfl,rfl⟩
 rintro l r v H'⟨j,hI,hj,rfl⟩
 refine⟨_,_,_,rfl,by decide,?_⟩
 have SY:=rl l0 k6 j
 obtain⟨x,hx⟩:∃x,cR j l0=[x]:=by
  match h:cR j l0,SY,hj with
  | [x],_,_=>exact⟨x,rfl⟩
 have BZ:=Bg ct hI hx
 have WA:rt (j+1)=x:=by show((cR j l0).head?).getD Dg.zero=x;rw[hx];rfl
 rw[WA,hE.1.2]
 rw[BZ]at hE
 clear_value rt
 refine aj (aq.cg [_,_] _) ?_
 refine go ?_
 refine aI (U:=ao) 1 zr zr zr zr zr zr ?_
 refine cn (U:=ao) (l':=dC x) 0 fR rfl rfl rfl rfl (by intro e;cases e) (by rw[dp];exact iH _) rfl rfl rfl ?_
 refine go ?_
 (apply aR (U:=ao) hE Tryz.func199 rfl ad;(repeat(first|exact aK.nil|apply aK.agg 0 zr zr zr zr zr));exact⟨rfl,rfl⟩;exact ad)
end Go.Proofs.YthjbidjmgbjkiaaGreatDoor
namespace Go.Proofs.YthjbidjmgbjkiaaGreatDoor
open Go Go.SL
def dQ(x:Bl):Value := .agg (bn x).toArray
def Mt(g:FuncId)(cap:List Value)(ds:List Dg)(Pre Post:List HP):Prop :=
 ∀(l:Nat) (Lp:HP) (Inv:Nat→HP),(∀j d,ds[j]?=some d→bQ Tryz.prog l [dV d] [Lp,Inv j] (fun v H=>v = .bool true∧H=[Lp,Inv (j+1)])) →
  aD Tryz.prog g (.func (.yield l) #[] #[]::cap) (Lp::Inv 0::Pre) (fun _ H=>H=Lp::Inv ds.length::Post)
def GI(bs:Nat)(ks:List Dg):HP:=fun h=>∃v:Value,True∧Sep [ag bs (cl [v] 40),az 36 32 v ks.length (ks.flatMap dC)] h
theorem GC(bs:Nat)(ks:List Dg):∀h,GI bs ks h→∃v,True∧Sep [ag bs (cl [v] 40),az 36 32 v ks.length (ks.flatMap dC)] h:=fun h hs=>hs
theorem C2(bs:Nat)(ks:List Dg)(v:Value)(H:List HP):aq (ag bs (cl [v] 40)::az 36 32 v ks.length (ks.flatMap dC)::H) (GI bs ks::H) :=
 aq.fold (A:=GI bs ks) (B:=[ag bs (cl [v] 40),az 36 32 v ks.length (ks.flatMap dC)]) fun h hs=>⟨h,sub.refl h,v,trivial,hs⟩
attribute [local irreducible] J K aD Ends ag az aL bK aZ aQ aV bg bQ Sha.chunks Sha.chunk Sha.rounds Sha.sched dA cd GI
theorem xl(g:FuncId)(cap:List Value)(ds:List Dg)(Pre Post:List HP)(hN:ds.length≤1000000)(hi:Mt g cap ds Pre Post) :
  aD Tryz.prog 235 [.slice none 0 0,.func (.func g) #[] cap.toArray] Pre (fun r H=>H=az 36 32 r ds.length (ds.flatMap dC)::Post):=by
 refine aD.enter Tryz.func235 ak rfl Tryz.ntmps235 zr zr ?_
 intro G F R hE
 refine aE rfl ?_
 refine bq zr zr bp ?_
 intro bs
 refine go ?_
 refine gL rfl ?_
 refine aj (aq.trans (aq.cons _ (bw 36 32 none _)) (C2 bs [] (.slice none 0 0) _)) ?_
 refine uU (Fr:=F) (Pre:=fun _ _=>GI bs []::Pre) (Post:=?Po) rfl hE.1.1 rfl ?c (fun l r=>aq.refl _) ?fN
 case c =>
  intro l r
  refine hi l _ (fun j=>GI bs (ds.take j)) ?_
  intro j k xK
  have uy:=(List.getElem?_eq_some_iff.1 xK).1
  have rE:(ds.take j).length=j:=by rw[List.length_take];omega
  have iZ:ds.take (j+1)=ds.take j++[k]:=by rw[List.take_add_one,xK];rfl
  refine bQ.BA zr zr ?_
  intro G2 F2 R2 hY
  refine aE rfl ?_
  refine aN (U:=ao) zr zr zr bp ?_
  intro b5
  refine go ?_
  refine aj (aq.pick [1] rfl) ?_
  refine e8 rfl hY ?_
  refine aj (aq.pick [2] rfl) ?_
  refine dM (GC bs (ds.take j)) ?_
  rintro v -
  refine db 1 rfl ?_
  rintro va vc rfl
  refine go ?_
  refine aI (U:=ao) 3 zr zr zr zr zr zr ?_
  refine au (U:=ao) (cs:=dC k) zr zr zr zr zr zr zr zr zr bp ?_
  intro row
  refine go ?_
  refine bh (U:=ao) (mm:=1) (news:=dC k) 2 0 zr zr zr zr zr zr zr zr zr zr zr zr (Vw.ag rfl) rfl (by rw[dp];exact cC _) (by rw[rE];omega) (by show(_+1)*32≤_;rw[rE];omega) (fun _=>rfl) bp ?_
  intro v1
  rw[show(ds.take j).flatMap dC++dC k=(ds.take (j+1)).flatMap dC from by rw[iZ];simp,show(ds.take j).length+1=(ds.take (j+1)).length from by rw[iZ];simp]
  ((refine aM 2 rfl ?_))
  rintro Yc Yb rfl
  refine go ?_
  refine aj (aq.trans ad (C2 bs (ds.take (j+1)) (.slice Yc (ds.take (j+1)).length Yb) _)) ?_
  refine eK hY rfl ad ⟨rfl,rfl⟩
 intro l r v H eH
 subst eH
 refine⟨_,_,_,rfl,by decide,?_⟩
 rw[hE.1.2,List.take_length]
 refine dM (GC bs ds) ?_
 rintro w -
 refine go ?_
 refine pP hE Tryz.func235 rfl _ zr zr ?_
 exact(aq.drop _ _).trans (aq.perm (((List.perm_middle (a:=ag r (.deferred (some []))) (l₁:=Post) (l₂:=F)).cons _).trans (List.Perm.swap _ _ _)))
theorem AH(g:FuncId)(cap:List Value)(ds:List Dg)(Pre Post:List HP)(hN:ds.length≤1000000)(hi:Mt g cap ds Pre Post) :
  aD Tryz.prog 216 [.func (.func g) #[] cap.toArray] Pre (fun r H=>H=az 36 32 r ds.length (ds.flatMap dC)::Post):=by
 refine aD.enter Tryz.func216 ak rfl Tryz.ntmps216 zr zr ?_
 intro G F R hE
 refine go ?_
 ((refine ah zr zr zr zr (xl g cap ds Pre Post hN hi) ad ?_ bE))
 rintro w _ rfl
 refine go ?_
 ((refine ae hE Tryz.func216 rfl _ zr zr ad))
theorem yV(s p:Int)(hs:1≤s∧s≤1048576)(hp:1≤p∧p≤16384):aD Tryz.prog 132 [.int .i64 s,.int .i64 p] [] (fun r H=>r = .int .i64 ((s+p-1)/p)∧H=[]):=by
 have h1:0≤(s+p-1)/p:=Int.ediv_nonneg ai ai
 have h2:(s+p-1)/p≤s+p-1:=Int.ediv_le_self _ ai
 refine aD.enter Tryz.func132 ak rfl Tryz.ntmps132 zr zr ?_
 intro G F R hE
 refine go ?_
 refine mR zr zr zr ai ai (by simp only[fz];omega) ?_
 refine go ?_
 ((refine ae hE Tryz.func132 rfl _ rfl ⟨rfl,rfl⟩ ad))
theorem mP(x:Bl):aD Tryz.prog 72 [dQ x] [] (fun r H=>r = .bool (bz x)∧H=[]):=by
 have hF:¬(1≤x.size∧x.size≤1048576∧16≤x.piece∧x.piece≤16384)→Value.bool false = .bool (bz x):=fun h=>congrArg Value.bool (by unfold bz;rw[decide_eq_false (by rintro⟨a,b,c,e,_⟩;exact h ⟨a,b,c,e⟩)])
 have hT:(1≤x.size∧x.size≤1048576∧16≤x.piece∧x.piece≤16384)→Value.bool (decide ((x.size+x.piece-1)/x.piece≤1024)) = .bool (bz x):=fun h=>congrArg Value.bool (by unfold bz;rw[decide_eq_decide];exact⟨fun g=>⟨h.1,h.2.1,h.2.2.1,h.2.2.2,g⟩,fun g=>g.2.2.2.2⟩)
 unfold dQ
 refine aD.enter Tryz.func72 ak rfl Tryz.ntmps72 zr zr ?_
 intro G F R hE
 refine aE rfl ?_
 refine bq zr zr bp ?_
 intro b1
 repeat'(first|(with_reducible intro nT)|refine fk ?_|refine gN zr zr zr zr ?_ ?_|(refine ah zr zr zr zr (yV x.size x.piece ai ai) ad ?_ bE;rintro _ _⟨rfl,rfl⟩))
 all_goals(first|((refine ae hE Tryz.func72 rfl _ rfl ⟨hF ai,rfl⟩ ad))|((refine ae hE Tryz.func72 rfl _ rfl ⟨hT ai,rfl⟩ ad)))
theorem tK(x:Bl):aD Tryz.prog 86 [dQ x] [] (fun r H=>r = .int .i64 (cj x)∧H=[]):=by
 unfold dQ
 refine aD.enter Tryz.func86 ak rfl Tryz.ntmps86 zr zr ?_
 intro G F R hE
 refine aE rfl ?_
 refine bq zr zr bp ?_
 intro b1
 refine go ?_
 refine aI (U:=ao) 0 zr zr zr zr zr zr ?_
 ((refine ah zr zr zr zr (mP x) ad ?_ bE))
 rintro _ _⟨rfl,rfl⟩
 cases hr:bz x with
 | false =>
  have hc:cj x=0:=by unfold cj;rw[if_neg (by rw[hr];simp)]
  rw[hc]at hE
  refine go ?_
  ((refine ae hE Tryz.func86 rfl _ rfl ⟨rfl,rfl⟩ ad))
 | true =>
  have hc:cj x=(x.size+x.piece-1)/x.piece:=by unfold cj;rw[if_pos hr]
  rw[hc]at hE
  simp only[bz,decide_eq_true_eq]at hr
  refine go ?_
  ((refine ah zr zr zr zr (yV x.size x.piece ai ai) ad ?_ bE))
  rintro _ _⟨rfl,rfl⟩
  refine go ?_
  ((refine ae hE Tryz.func86 rfl _ rfl ⟨rfl,rfl⟩ ad))
theorem pM(x:Bl):0≤cj x∧cj x≤1024:=by
 unfold cj
 split
 ·rename_i hr
  simp only[bz,decide_eq_true_eq]at hr
  exact⟨Int.ediv_nonneg ai ai,hr.2.2.2.2⟩
 ·omega
theorem re{x:Bl}{i:Int}(h0:0≤i)(h1:i<cj x):bz x=true∧0≤i*x.piece∧i*x.piece<x.size:=by
 unfold cj at h1
 split at h1
 ·rename_i hr
  have Ji:=hr
  simp only[bz,decide_eq_true_eq]at hr
  refine⟨Ji,Int.mul_nonneg h0 ai,?_⟩
  have h2:(i+1)*x.piece≤x.size+x.piece-1:=by
   have:=(Int.le_ediv_iff_mul_le (a:=i+1) (b:=x.size+x.piece-1) (c:=x.piece) ai).1 ai
   exact this
  rw[Int.add_mul,Int.one_mul]at h2
  omega
 ·omega
theorem wP(x:Bl)(i:Int):aD Tryz.prog 87 [dQ x,.int .i64 i] [] (fun r H=>r=(match dN x i with
  | none => .tuple #[.int .i64 0,.int .i64 0,.int .i64 1]
  | some (a,n) => .tuple #[.int .i64 a,.int .i64 n,.int .i64 0])∧H=[]):=by
 unfold dQ
 refine aD.enter Tryz.func87 ak rfl Tryz.ntmps87 zr zr ?_
 intro G F R hE
 refine aE rfl ?_
 refine bq zr zr bp ?_
 intro b1
 have hN:(i<0∨cj x≤i)→dN x i=none:=fun h=>by unfold dN;rw[if_pos h]
 repeat'(first|(with_reducible intro nT)|refine fk ?_|refine gN zr zr zr zr ?_ ?_|refine aw zr zr ?_ ?_|refine aI (U:=ao) 0 zr zr zr zr zr zr ?_|(refine ah zr zr zr zr (tK x) ad ?_ bE;rintro _ _⟨rfl,rfl⟩))
 all_goals(first|(rw[hN ai]at hE;((refine ae hE Tryz.func87 rfl _ rfl ⟨rfl,rfl⟩ ad)))|skip)
 have hs:dN x i=some (i*x.piece,min x.piece (x.size-i*x.piece)):=by unfold dN;rw[if_neg ai]
 rw[hs]at hE
 obtain⟨hr,yG,OS⟩:=re (x:=x) (i:=i) ai ai
 simp only[bz,decide_eq_true_eq]at hr
 obtain⟨q,hq⟩:∃q,q=i*x.piece:=⟨_,rfl⟩
 rw[← hq]at yG OS hE
 refine aF (fun w=>Sat G w ([ag b1 (cl (bn x) 38)])) (.st 0 (.st 1 (.st 2 (.st 3 (.st 4 (.st 5 (.st 6 (.st 7 (.st 8 (.st 9 (.st 10 (.st 11 (.st 12 (.st 13 (.st 14 (.st 15 (.st 16 .nil))))))))))))))))) rfl ak ak ak (fun w hw=>hw.aX ad) ?_
 (repeat(first|refine fk ?_|(refine kD ?_;refine gi zr zr zr (by rw[← hq];simp only[fz];omega) ?_;rw[← hq])))
 ((refine ae hE Tryz.func87 rfl _ rfl ⟨rfl,rfl⟩ ad))
theorem I7(a:Option Addr)(n c:Nat)(k:Int)(hk:1≤k):aD Tryz.prog 237 [.slice a n c,.int .i64 k] [] (fun r H=>∃b1 b2,r = .func (.func 245) #[] #[ptr b1,ptr b2]∧H=[ag b1 (cl [.slice a n c] 39),ag b2 (cl [.int .i64 k] 3)]):=by
 refine aD.enter Tryz.func237 ak rfl Tryz.ntmps237 zr zr ?_
 intro G F R hE
 refine aE rfl ?_
 refine bq zr zr bp ?_
 intro b1
 refine bq zr zr bp ?_
 intro b2
 refine go ?_
 refine aw zr zr ?_ ?_
 ·intro h;exfalso;omega
 intro _
 refine go ?_
 ((refine ae hE Tryz.func237 rfl _ rfl ⟨b1,b2,rfl,rfl⟩ ad))
set_option maxRecDepth 20000 in
theorem Fk(A:HP)(b1 b2:Nat)(v:Value)(b:List UInt8)(hv:dR A v b)(hl:b.length≤1000000000)(k:Nat)(hk:1≤k)(vU:k≤1000000000)(l:Nat)(Lp:HP)(Inv:Nat→HP)(hy:∀j p rv,(fq k b.length b)[j]?=some p→dR A rv p→bQ Tryz.prog l [rv] [Lp,Inv j,A] (fun r H=>r = .bool true∧H=[Lp,Inv (j+1),A])) :
  aD Tryz.prog 245 [.func (.yield l) #[] #[],ptr b1,ptr b2] [Lp,Inv 0,ag b1 (cl [v] 39),ag b2 (cl [.int .i64 (k:Int)] 3),A] (fun _ H=>H=[Lp,Inv (fq k b.length b).length,A]):=by
 obtain⟨a,c,rfl,hc⟩:=hv.2
 have YC:=jN k hk b.length b
 have sI:=lP k hk b
 refine aD.enter Tryz.func245 ak rfl Tryz.ntmps245 zr zr ?_
 intro G F R hE
 refine go ?_
 refine bo (fun j:Nat=>j≤(b.length+k-1)/k) (fun j=>(b.length+k-1)/k-j)
  (fun j=>[(0,.func (.yield l) #[] #[]),(1,ptr b1),(2,ptr b2),(4,.int .i64 ((j*k:Nat):Int))])
  (fun j=>Lp::Inv j::ag b1 (cl [.slice a b.length c] 39)::ag b2 (cl [.int .i64 (k:Int)] 3)::A::F) 0 (Nat.zero_le _) rfl (by rw[Nat.zero_mul];exact bY) ad ?_
 rintro j hj ih
 have xK:j*k≤b.length+k-1:=by
  have:=(Nat.le_div_iff_mul_le hk).1 hj
  exact this
 refine go ?_
 refine aw zr zr ?_ ?_
 ·intro cO
  have zV:j*k<b.length:=by omega
  have Ev:j+1≤(b.length+k-1)/k:=by
   rw[Nat.le_div_iff_mul_le hk,Nat.add_mul,Nat.one_mul];omega
  have hp:=YC j (Nat.le_refl _)
  rw[if_pos zV]at hp
  obtain⟨p,ON⟩:∃p,p=(b.drop (j*k)).take k:=⟨_,rfl⟩
  rw[← ON]at hp
  have vS:p.length=min k (b.length-j*k):=by rw[ON,List.length_take,List.length_drop]
  obtain⟨jk,W6⟩:∃jk,jk=j*k:=⟨_,rfl⟩
  rw[← W6]at zV ON vS xK ⊢
  refine go ?_
  refine aF (fun w=>Sat G w ([ag b1 (cl [.slice a b.length c] 39),ag b2 (cl [.int .i64 (k:Int)] 3)])) (.st 0 (.st 1 (.st 2 (.st 3 (.st 4 (.st 5 (.st 6 .nil))))))) rfl ak ak ak (fun w hw=>hw.aX ad) ?_
  refine go ?_
  refine bG (U:=ao) (p:=((jk:Nat):Int)) (q:=(b.length:Int)) zr zr zr zr zr zr zr ai ai (.inl rfl) ?_
  refine go ?_
  have HY:(jk:Int)+min (k:Int) (((((b.length:Int)).toNat-((jk:Nat):Int).toNat:Nat)):Int)=((jk+p.length:Nat):Int):=by rw[vS];omega
  refine IY (U:=ao) zr zr zr zr zr zr zr zr ai ai ai ai ?_
  have F9:=hv.piece jk (jk+p.length) ai ai
  rw[show jk+p.length-jk=p.length from by omega]at F9
  have SZ:(b.drop jk).take p.length=p:=by
   rw[vS,ON,List.take_eq_take_iff,List.length_drop];omega
  rw[SZ]at F9
  have aaS:dR A (.slice (sliceAt a (jk+p.length) jk 1) p.length p.length) p:=by
   obtain⟨lC,a2,c2,zZ,oD⟩:=F9
   refine⟨?_,_,_,rfl,Nat.le_refl _⟩
   obtain⟨a3,c3,O2,ig⟩:=lC
   simp only[Value.slice.injEq,true_and]at O2
   have e:sliceAt a (jk+p.length) jk 1=sliceAt a c jk 1:=by
    unfold sliceAt
    rw[if_neg ai,if_neg ai]
   rw[e]
   exact⟨_,_,rfl,by rw[O2.1];exact ig⟩
  refine aB 28 (.slice (sliceAt a (jk+p.length) jk 1) p.length p.length) rfl (by rw[HY,Int.toNat_natCast,Int.toNat_natCast,show jk+p.length-jk=p.length from by omega];rfl) ?_
  refine go ?_
  refine jH zr zr zr (hy j p _ hp aaS) ad ?_ bE
  rintro _ _⟨rfl,rfl⟩
  refine go ?_
  ((refine bj 4 ((.int .i64 (((j+1)*k:Nat):Int))) rfl ((congrArg (Value.int .i64) (by rw[Nat.add_mul,Nat.one_mul,← W6];omega))) ?_))
  refine aO ih (j+1) rfl Ev ai bY ad
 intro eQ
 have H5:j=(b.length+k-1)/k:=by
  rcases Nat.lt_or_ge j ((b.length+k-1)/k)with h|h
  ·exfalso
   have h2:=(Nat.le_div_iff_mul_le (x:=j+1) hk).1 h
   rw[Nat.add_mul,Nat.one_mul]at h2
   omega
  ·omega
 refine go ?_
 rw[sI,← H5]at hE
 ((refine bO hE Tryz.func245 rfl _ zr zr ad))
end Go.Proofs.YthjbidjmgbjkiaaGreatDoor
namespace Go.SL
open Go
section
variable{P:Program}
theorem uJ{t e:TypeId}(hu:P.underlying t=some (.array 32 e))(hc:P.cellsOf t=32)(xs:List Value)(off:Nat)(d:Dg)(h:(xs.drop off).take 32=dC d)(w:World):(part t xs.toArray off).run P w = .ok (dV d) w:=by
 obtain⟨i,hi⟩:=info_of_underlying hu
 have hs:=Go.run_sizeOf w hi
 rw[hc]at hs
 simp only[part,isAgg,Sem.run_bind,Go.run_underlying hu,Result.andThen_ok,Sem.run_pure,if_true,hs]
 have:xs.toArray.extract off (off+32)=(dC d).toArray:=by
  apply Array.ext'
  rw[← h]
  simp
 rw[this]
 rfl
theorem G3{t:TypeId}(hu:P.underlying t=some (.int .i64))(a b:Int)(D:Nat)(w:World):(Op.equalIn (D+1) t (.int .i64 a) (.int .i64 b)).run P w = .ok (decide (a=b)) w:=by
 simp only[Op.equalIn,Sem.run_bind,Go.run_underlying hu,Result.andThen_ok,if_true,Sem.run_pure]
 rfl
theorem xu{td ti:TypeId}{f1 f2 f3 f4:Field}(n1:f1.name ≠ "_")(n2:f2.name ≠ "_")(n3:f3.name ≠ "_")(n4:f4.name ≠ "_")(E:Nat)(w:World)(c1 c2:List Value)(d1 d2 r1 r2:Dg)(s1 s2 p1 p2:Int)(eD:∀a b:Dg,(Op.equalIn E td (dV a) (dV b)).run P w = .ok (decide (a=b)) w)(eI:∀a b:Int,(Op.equalIn E ti (.int .i64 a) (.int .i64 b)).run P w = .ok (decide (a=b)) w)(t1:f1.type=td)(t2:f2.type=ti)(t3:f3.type=ti)(t4:f4.type=td)(Ym:(part td c1.toArray f1.offset).run P w = .ok (dV d1) w)(Yl:(part td c2.toArray f1.offset).run P w = .ok (dV d2) w)(Yk:(part ti c1.toArray f2.offset).run P w = .ok (.int .i64 s1) w)(Yj:(part ti c2.toArray f2.offset).run P w = .ok (.int .i64 s2) w)(Yi:(part ti c1.toArray f3.offset).run P w = .ok (.int .i64 p1) w)(Yh:(part ti c2.toArray f3.offset).run P w = .ok (.int .i64 p2) w)(Yg:(part td c1.toArray f4.offset).run P w = .ok (dV r1) w)(Yf:(part td c2.toArray f4.offset).run P w = .ok (dV r2) w) :
  (Op.eqFields E c1.toArray c2.toArray [f1,f2,f3,f4]).run P w = .ok (decide (d1=d2∧s1=s2∧p1=p2∧r1=r2)) w:=by
 by_cases h1:d1=d2
 ·by_cases h2:s1=s2
  ·by_cases h3:p1=p2
   ·simp[Op.eqFields,n1,n2,n3,n4,t1,t2,t3,t4,Ym,Yl,Yk,Yj,Yi,Yh,Yg,Yf,eD,eI,h1,h2,h3]
    by_cases h4:r1=r2 <;> simp[h4]
   ·simp[Op.eqFields,n1,n2,n3,n4,t1,t2,t3,t4,Ym,Yl,Yk,Yj,Yi,Yh,Yg,Yf,eD,eI,h1,h2,h3]
  ·simp[Op.eqFields,n1,n2,n3,n4,t1,t2,t3,t4,Ym,Yl,Yk,Yj,Yi,Yh,Yg,Yf,eD,eI,h1,h2]
 ·simp[Op.eqFields,n1,n2,n3,n4,t1,t2,t3,t4,Ym,Yl,Yk,Yj,Yi,Yh,Yg,Yf,eD,eI,h1]
end
end Go.SL
namespace Go.Proofs.YthjbidjmgbjkiaaGreatDoor
open Go Go.SL
attribute [local irreducible] J K aD Ends ag az aL bK aZ aQ aV bg bQ Sha.chunks Sha.chunk Sha.rounds Sha.sched dA cd GI cI
set_option maxRecDepth 20000 in
theorem BP(A:HP)(hK:mX A)(b1 b2:Nat)(v:Value)(b:List UInt8)(hv:dR A v b)(hl:b.length≤900000000)(k:Nat)(hk:1≤k)(vU:k≤1000000000) :
  Mt 236 [ptr b1,ptr b2] ((fq k b.length b).map cI) [ag b1 (cl [v] 39),ag b2 (cl [.int .i64 (k:Int)] 3),A] [A]:=by
 intro l Lp Inv hy
 obtain⟨a,c,rfl,hc⟩:=hv.2
 refine aD.enter Tryz.func236 ak rfl Tryz.ntmps236 zr zr ?_
 intro G F R hE
 refine aE rfl ?_
 refine bq zr zr bp ?_
 intro b3
 refine go ?_
 ((refine ah zr zr zr zr (I7 a b.length c (k:Int) ai) ad ?_ bE))
 rintro _ _⟨c1,c2,rfl,rfl⟩
 refine go ?_
 refine gL rfl ?_
 refine aj (aq.trans (aq.pick [3,4,2] rfl) (aq.bL [Lp,Inv 0,ag b3 (cl [.func (.yield l) #[] #[] ] 111)] _)) ?_
 refine oV (Fr:=F) (Pre:=fun _ _=>[Sep [Lp,Inv 0,ag b3 (cl [.func (.yield l) #[] #[] ] 111)],ag c1 (cl [.slice a b.length c] 39),ag c2 (cl [.int .i64 (k:Int)] 3),A]) (fun _ _ Lp2 v H=>H=[Lp2 .ready none,Sep [Lp,Inv (fq k b.length b).length,ag b3 (cl [.func (.yield l) #[] #[] ] 111)],A]) rfl hE.1.1 rfl ?c (fun l r=>ad) ?fN
 case c =>
  intro l2 r2
  refine Fk A c1 c2 _ b hv ai k hk vU l2 _ (fun j=>Sep [Lp,Inv j,ag b3 (cl [.func (.yield l) #[] #[] ] 111)]) ?_
  intro j p rv hp F9
  have Yr:=hy j (cI p) (by rw[List.getElem?_map,hp];rfl)
  have sI:p.length≤900000000:=by
   have h1:=jN k hk b.length b j (Nat.le_refl _)
   rw[hp]at h1
   split at h1
   ·cases h1;rw[List.length_take,List.length_drop];omega
   ·cases h1
  refine bQ.BA zr zr ?_
  intro G F2 R2 hY
  refine go ?_
  refine e8 rfl hY ?_
  refine aj (aq.trans (aq.pick [1] rfl) (aq.cg [_,_,_] _)) ?_
  refine aF (fun w=>Sat G w ([ag b3 (cl [.func (.yield l) #[] #[] ] 111)])) (.st 0 (.st 1 (.act 2 (.act 3 (.st 4 .nil))))) rfl ak ak ak (fun w hw=>hw.aX ad) ?_
  refine go ?_
  ((refine ah rfl rfl rfl rfl ((CS A hK rv p F9 sI)) ad ?_ (fun _ _ w hp hw=>by obtain⟨rfl,rfl⟩:=hp;exact hw.aX ad)))
  rintro _ _⟨rfl,rfl⟩
  refine go ?_
  refine jH rfl rfl rfl Yr ad ?_ (fun _ _ w hp hw=>by obtain⟨_,rfl⟩:=hp;exact hw.aX ad)
  rintro _ _⟨rfl,rfl⟩
  refine go ?_
  refine aj (aq.trans (aq.pick [0,1,3] rfl) (aq.bL [Lp,Inv (j+1),ag b3 (cl [.func (.yield l) #[] #[] ] 111)] _)) ?_
  refine eK hY rfl ad ⟨rfl,rfl⟩
 rintro l2 r2 v2 H' rfl
 refine⟨_,_,_,rfl,by decide,?_⟩
 rw[hE.1.2]
 rw[List.length_map]at hE
 refine aj (aq.cg [_,_,_] _) ?_
 refine go ?_
 apply E9 hE Tryz.func236 rfl _ zr zr
 exact ad
theorem Ej(a:Option Addr)(n c:Nat)(k:Int):aD Tryz.prog 217 [.slice a n c,.int .i64 k] [] (fun r H=>∃b1 b2,r = .func (.func 236) #[] #[ptr b1,ptr b2]∧H=[ag b1 (cl [.slice a n c] 39),ag b2 (cl [.int .i64 k] 3)]):=by
 refine aD.enter Tryz.func217 ak rfl Tryz.ntmps217 zr zr ?_
 intro G F R hE
 refine aE rfl ?_
 refine bq zr zr bp ?_
 intro b1
 refine bq zr zr bp ?_
 intro b2
 refine go ?_
 ((refine ae hE Tryz.func217 rfl _ rfl ⟨b1,b2,rfl,rfl⟩ ad))
theorem jQ{b:List UInt8}{k:Int}{ls:List Dg}(h:cS b k=some ls):1≤ls.length∧ls.length≤1024:=by
 unfold cS at h
 split at h
 ·rename_i hr
  cases h
  simp only[bz,decide_eq_true_eq]at hr
  obtain⟨k,rfl⟩:∃m:Nat,k=m:=⟨k.toNat,ai⟩
  rw[List.length_map,Int.toNat_natCast,lP k ai]
  have h2:=hr.2.2.2.2
  have h3:((b.length:Int)+(k:Int)-1)/(k:Int)=(((b.length+k-1)/k:Nat):Int):=by
   rw[Int.natCast_ediv];congr 1;omega
  rw[h3]at h2
  have h4:1≤(b.length+k-1)/k:=by rw[Nat.le_div_iff_mul_le ai];omega
  omega
 ·cases h
set_option maxRecDepth 20000 in
theorem E8(A:HP)(hK:mX A)(v:Value)(b:List UInt8)(hv:dR A v b)(hl:b.length≤900000000)(k:Int) :
  aD Tryz.prog 198 [v,.int .i64 k] [A] (fun r H=>(cS b k=none∧r = .tuple #[.slice none 0 0,.int .i64 1]∧H=[A])∨∃ls rv,cS b k=some ls∧r = .tuple #[rv,.int .i64 0]∧H=[az 36 32 rv ls.length (ls.flatMap dC),A]):=by
 obtain⟨a,c,rfl,hc⟩:=hv.2
 refine aD.enter Tryz.func198 ak rfl Tryz.ntmps198 zr zr ?_
 intro G F R hE
 ((refine go ?_;(refine ah zr zr zr zr (mP ⟨Dg.zero,b.length,k,Dg.zero⟩) ad ?_ bE)))
 rintro _ _⟨rfl,rfl⟩
 cases hr:bz ⟨Dg.zero,b.length,k,Dg.zero⟩with
 | false =>
  have hn:cS b k=none:=by unfold cS;rw[if_neg (by rw[hr];simp)]
  refine go ?_
  ((refine ae hE Tryz.func198 rfl _ rfl (.inl ⟨hn,rfl,rfl⟩) ad))
 | true =>
  have hs:cS b k=some ((fq k.toNat b.length b).map cI):=by unfold cS;rw[if_pos hr]
  have tq:=jQ hs
  simp only[bz,decide_eq_true_eq]at hr
  obtain⟨k,rfl⟩:∃m:Nat,k=m:=⟨k.toNat,ai⟩
  rw[Int.toNat_natCast]at hs tq
  refine go ?_
  ((refine ah zr zr zr zr (Ej a b.length c (k:Int)) ad ?_ bE))
  rintro _ _⟨b1,b2,rfl,rfl⟩
  refine go ?_
  ((refine ah zr zr zr zr (AH 236 [ptr b1,ptr b2] _ [ag b1 (cl [.slice a b.length c] 39),ag b2 (cl [.int .i64 (k:Int)] 3),A] [A] ai (BP A hK b1 b2 _ b hv hl k ai ai)) ad ?_ bE))
  rintro rv _ rfl
  refine go ?_
  ((refine ae hE Tryz.func198 rfl _ rfl (.inr ⟨_,_,hs,rfl,rfl⟩) ad))
theorem sx{P:Program}{f:FuncId}{n:Nat}{R:Ending→World→Prop}{G:cm}{k:List Item}{L:eN}{H:List HP}{S:World→Prop}{all:Array Oper}{rest:Pl}{e:TypeId}{sz nn:Nat}{v:Value}{cs:List Value}{A:HP}(h:Vw (az e sz v nn cs) v nn cs→J P f n R G S all rest k L (Sep [az e sz v nn cs,A]::H)):J P f n R G S all rest k L (az e sz v nn cs::A::H) :=
 zd fun w hw=>by
  obtain⟨h1,_,hA⟩:=hw.j7 (i:=0) rfl
  exact aG (aq.bL [_,_] _) (h (Vw.oh e sz v nn cs ⟨h1,hA⟩))
set_option maxRecDepth 20000 in
theorem Mw(A:HP)(hK:mX A)(v:Value)(b:List UInt8)(hv:dR A v b)(hl:b.length≤900000000)(k:Int) :
  aD Tryz.prog 156 [v,.int .i64 k] [A] (fun r H=>r=(match fm b k with
   | none => .tuple #[dQ Bl.zero,.int .i64 1]
   | some x => .tuple #[dQ x,.int .i64 0])∧H=[A]):=by
 have qP:=hv
 obtain⟨a,c,rfl,hc⟩:=hv.2
 refine aD.enter Tryz.func156 ak rfl Tryz.ntmps156 zr zr ?_
 intro G F R hE
 refine aE rfl ?_
 refine aN (U:=ao) zr zr zr bp ?_
 intro b4
 refine go ?_
 ((refine ah zr zr zr zr (E8 A hK _ b hv hl k) ad ?_ bE))
 rintro _ _ (⟨hn,rfl,rfl⟩|⟨ls,rv,hs,rfl,rfl⟩)
 ·have hb:fm b k=none:=by unfold fm;rw[hn];rfl
  rw[hb]at hE
  refine go ?_
  (refine aU hE ?_;apply aR (U:=ao) hE Tryz.func156 rfl (aq.refl _);(repeat(first|exact aK.nil|apply aK.tmp rfl|apply aK.agg 1 zr zr zr zr zr));exact⟨rfl,rfl⟩;exact ad)
 ·have hb:fm b k=some ⟨dA b,b.length,k,vv ls⟩:=by unfold fm;rw[hs];rfl
  rw[hb]at hE
  have tq:=jQ hs
  ((refine aM 0 rfl ?_))
  rintro ra rc rfl
  refine go ?_
  ((refine ah zr zr zr zr (uT A hK _ b hv ai) ad ?_ bE))
  rintro _ _⟨rfl,rfl⟩
  refine go ?_
  refine aG (aq.pick [1,0] rfl) ?_
  refine sx fun dj=>?_
  ((refine ah rfl rfl rfl rfl (L7 _ (hK.mono (aW (i:=1) rfl)) _ ls (dj.mono (aW (i:=0) rfl)) ai (by intro e;rw[e]at tq;simp at tq)) ad ?_ bE))
  rintro _ _⟨rfl,rfl⟩
  refine aG (aq.cg _ _) ?_
  refine go ?_
  (refine aU hE ?_;apply aR (U:=ao) hE Tryz.func156 rfl (aq.refl _);(repeat(first|exact aK.nil|apply aK.tmp rfl|apply aK.agg 2 zr zr zr zr zr));exact⟨rfl,rfl⟩;exact ad)
theorem TT(x:Bl):((bn x).drop 0).take 32=dC x.d:=rfl
theorem Oa(x:Bl):((bn x).drop 34).take 32=dC x.root:=rfl
theorem XZ(x:Bl):(bn x).toArray[32]?=some (.int .i64 x.size):=rfl
theorem XY(x:Bl):(bn x).toArray[33]?=some (.int .i64 x.piece):=rfl
theorem TX : Tryz.prog.fieldsOf 38 = #[{ name := "Digest", type := 36, offset := 0, embedded := false, tag := "", pkgPath := "", byteOffset := 0 },
        { name := "Size", type:=3,offset:=32,embedded:=false,tag := "", pkgPath := "", byteOffset:=32 },
        { name := "Piece", type:=3,offset:=33,embedded:=false,tag := "", pkgPath := "", byteOffset:=40 },
        { name := "Root", type:=36,offset:=34,embedded:=false,tag := "", pkgPath := "", byteOffset:=48 }]:=by kernel_rfl
theorem TW:Tryz.prog.underlying 38=some (.struct (Tryz.prog.fieldsOf 38)):=by kernel_rfl
theorem Ob:Tryz.prog.stoodInHeld 38=false:=by kernel_rfl
theorem aa4:Tryz.prog.cellsOf 36=32:=by kernel_rfl
theorem TU:Tryz.prog.cellsOf 5=1:=by kernel_rfl
theorem aa3:Tryz.prog.plainKey 3=true:=by kernel_rfl
theorem NY:Tryz.prog.eqGuardType Tryz.prog.depth 38=false:=by kernel_rfl
theorem XR{P : Program}(h1 : P.fieldsOf 38 = #[{ name := "Digest", type := 36, offset := 0, embedded := false, tag := "", pkgPath := "", byteOffset := 0 },
        { name := "Size", type:=3,offset:=32,embedded:=false,tag := "", pkgPath := "", byteOffset:=32 },
        { name := "Piece", type:=3,offset:=33,embedded:=false,tag := "", pkgPath := "", byteOffset:=40 },
        { name := "Root", type:=36,offset:=34,embedded:=false,tag := "", pkgPath := "", byteOffset:=48 }])(h2:P.underlying 38=some (.struct (P.fieldsOf 38)))(h3:P.stoodInHeld 38=false)(h4:P.cellsOf 36=32)(h5:P.cellsOf 5=1)(h6:P.plainKey 3=true)(h7:P.underlying 36=some (.array 32 5))(h8:P.underlying 5=some (.int .u8))(h9:P.underlying 3=some (.int .i64))(x y:Bl)(D:Nat)(w:World) :
    (Op.equalIn (D+2+1) 38 (dQ x) (dQ y)).run P w = .ok (decide (x=y)) w:=by
  unfold dQ
  rw[run_equalIn_struct w (D+2) 38 _ _ h2 h3,h1]
  have h:=xu (P:=P) (td:=36) (ti:=3) (f1:={ name := "Digest", type:=36,offset:=0,embedded:=false,tag := "", pkgPath := "", byteOffset:=0 })
    (f2:={ name := "Size", type:=3,offset:=32,embedded:=false,tag := "", pkgPath := "", byteOffset:=32 }) (f3:={ name := "Piece", type:=3,offset:=33,embedded:=false,tag := "", pkgPath := "", byteOffset:=40 })
    (f4:={ name := "Root", type:=36,offset:=34,embedded:=false,tag := "", pkgPath := "", byteOffset:=48 }) (by decide) (by decide) (by decide) (by decide) (D+2) w (bn x) (bn y) x.d y.d x.root y.root x.size y.size x.piece y.piece
    (fun a b=>qq h7 h8 h5 a b D w) (fun a b=>G3 h9 a b (D+1) w) zr zr zr zr
    (uJ h7 h4 _ 0 _ (TT x) w) (uJ h7 h4 _ 0 _ (TT y) w) (Go.run_part_plain w h6 (XZ x)) (Go.run_part_plain w h6 (XZ y)) (Go.run_part_plain w h6 (XY x)) (Go.run_part_plain w h6 (XY y)) (uJ h7 h4 _ 34 _ (Oa x) w) (uJ h7 h4 _ 34 _ (Oa y) w)
  refine Eq.trans h ?_
  congr 1
  rw[decide_eq_decide]
  obtain⟨d1,s1,p1,r1⟩:=x
  obtain⟨d2,s2,p2,r2⟩:=y
  simp
theorem N7(x y:Bl)(w:World):(Op.equal 38 (dQ x) (dQ y)).run Tryz.prog w = .ok (decide (x=y)) w :=
 XR TX TW Ob aa4 TU aa3 Tryz.underlying36 Tryz.underlying5 Tryz.underlying3 x y 9997 w
set_option maxRecDepth 20000 in
theorem IG(A:HP)(hK:mX A)(x:Bl)(v:Value)(b:List UInt8)(hv:dR A v b)(hl:b.length≤900000000) :
  aD Tryz.prog 98 [dQ x,v] [A] (fun r H=>r = .bool (gk x b)∧H=[A]):=by
 have qP:=hv
 obtain⟨a,c,rfl,hc⟩:=hv.2
 have jV:=Mw A hK _ b hv hl x.piece
 unfold dQ at jV ⊢
 refine aD.enter Tryz.func98 ak rfl Tryz.ntmps98 zr zr ?_
 intro G F R hE
 refine aE rfl ?_
 refine bq zr zr bp ?_
 intro b2
 refine go ?_
 ((refine ah zr zr zr zr (jV) ad ?_ bE))
 rintro _ _⟨rfl,rfl⟩
 cases hb:fm b x.piece with
 | none =>
  have hw:gk x b=false:=by unfold gk;rw[hb];rfl
  rw[hw]at hE
  refine go ?_
  refine aN (U:=ao) zr zr zr bp ?_
  intro b5
  refine go ?_
  ((refine ae hE Tryz.func98 rfl _ rfl ⟨rfl,rfl⟩ ad))
 | some y =>
  have hw:gk x b=decide (x=y):=by unfold gk;rw[hb];simp only[Option.some.injEq];rw[decide_eq_decide];exact eq_comm
  rw[hw]at hE
  simp only
  refine go ?_
  refine aN (U:=ao) zr zr zr bp ?_
  intro b5
  refine go ?_
  (repeat(first|refine fk ?_|refine aI (U:=ao) (l:=bn x) 2 zr zr zr zr zr zr ?_|refine aI (U:=ao) (l:=bn y) 0 zr zr zr zr zr zr ?_|refine jI (b:=decide (x=y)) zr zr zr NY (fun w=>N7 x y w) ?_))
  ((refine ae hE Tryz.func98 rfl _ rfl ⟨rfl,rfl⟩ ad))
end Go.Proofs.YthjbidjmgbjkiaaGreatDoor
