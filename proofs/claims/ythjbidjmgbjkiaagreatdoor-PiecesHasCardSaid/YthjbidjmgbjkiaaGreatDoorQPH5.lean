/- Texts of one claim, joined: Jb, Tl, Jc, Lt, Jd, EngK, Dk0, Jg, Jh, Ji. -/
import Derived.Test.YthjbidjmgbjkiaaGreatDoorQPH3
import Derived.Test.YthjbidjmgbjkiaaGreatDoorQPH4
set_option linter.unusedSimpArgs false
set_option linter.unusedVariables false
namespace Go.SL
def uv(n:Nat):List UInt8:=if n<128 then [UInt8.ofNat n]else UInt8.ofNat (n%128+128)::uv (n/128)
termination_by n
decreasing_by omega
theorem hJ{n:Nat}(h:n<128):uv n=[UInt8.ofNat n]:=by rw[uv,if_pos h]
theorem DA{n:Nat}(h:¬n<128):uv n=UInt8.ofNat (n%128+128)::uv (n/128):=by rw[uv,if_neg h]
theorem u4:∀(k n:Nat),n<128 ^ (k+1)→(uv n).length≤k+1
 | 0,n,h=>by rw[hJ (by simpa using h)];simp
 | k+1,n,h=>by
  by_cases hn:n<128
  ·rw[hJ hn];simp
  ·rw[DA hn,List.length_cons]
   have:=u4 k (n/128) (Nat.div_lt_of_lt_mul (by rw[Nat.pow_succ,Nat.mul_comm]at h;exact h))
   omega
theorem nU{n:Nat}(h:n<18446744073709551616):(uv n).length≤10:=u4 9 n (Nat.lt_of_lt_of_le h (by decide))
theorem Pj(n:Nat):0<(uv n).length:=by
 by_cases h:n<128
 ·rw[hJ h];simp
 ·rw[DA h];simp
theorem XT(m:Nat):Value.int .u8 (IntKind.u8.wrap (m:Int)) = .int .u8 ((m%256:Nat):Int):=by
 have h:IntKind.u8.wrap (m:Int)=(m:Int)%256:=by simp[IntKind.wrap,IntKind.bits,IntKind.signed]
 rw[h];congr 1
theorem Nl(m:Nat):Value.int .u8 (IntKind.u8.wrap ((BitVec.ofInt IntKind.u8.bits ((m%256:Nat):Int) ||| BitVec.ofInt IntKind.u8.bits 128).toNat:Int))=u8 (UInt8.ofNat (m%128+128)):=by
 rw[Ko _ ai]
 simp only[u8,UInt8.toNat_ofNat']
 congr 1
 omega
def pX:Nat→Nat→List UInt8→Option (Nat × List UInt8 × Bool)
 | _,_,[]=>none
 | i,acc,c::r=>if i=10∨(i=9∧1<c.toNat)then none else if c.toNat<128 then some (acc+c.toNat*2 ^ (7*i),r,decide (i=0∨0<c.toNat))else pX (i+1) (acc+(c.toNat%128)*2 ^ (7*i)) r
def cV(bs:List UInt8):Nat × List UInt8 × Bool:=(pX 0 0 bs).getD (0,[],false)
def dt(bs:List UInt8):Option Nat:=if(cV bs).2.2=true∧(cV bs).2.1=[]then some (cV bs).1 else none
theorem Fy{i acc c:Nat}(ha:acc<2 ^ (7*i))(hc:c<128):acc+c*2 ^ (7*i)<2 ^ (7*(i+1)):=by
 have h1:acc+c*2 ^ (7*i)<(c+1)*2 ^ (7*i):=by rw[Nat.add_mul,Nat.one_mul];omega
 have h2:(c+1)*2 ^ (7*i)≤128*2 ^ (7*i):=Nat.mul_le_mul_right _ ai
 have h3:2 ^ (7*(i+1))=128*2 ^ (7*i):=by rw[show 7*(i+1)=7*i+7 from by omega,Nat.pow_add,Nat.mul_comm]
 omega
theorem MY{i acc c:Nat}(hi:i≤9)(ha:acc<2 ^ (7*i))(hc:c<128)(h9:i=9→c≤1):acc+c*2 ^ (7*i)<18446744073709551616:=by
 by_cases h:i=9
 ·subst h
  have:=h9 rfl
  have h63:(2:Nat) ^ (7*9)=9223372036854775808:=by decide
  rw[h63]at ha ⊢
  have:c*9223372036854775808≤1*9223372036854775808:=Nat.mul_le_mul_right _ this
  omega
 ·have h1:=Fy ha hc
  have h2:2 ^ (7*(i+1))≤2 ^ 63:=Nat.pow_le_pow_right ai ai
  omega
def nE(bs:List UInt8):Option (Nat × Nat) :=
 if 1≤bs.length then match dt (bs.take 1)with
  | some n=>some (1,n)
  | none=>if 2≤bs.length then(dt (bs.take 2)).map fun n=>(2,n)else none
 else none
theorem mZ{bs:List UInt8}{n:Nat}(h:dt bs=some n)(hl:bs.length≤2):n<16384:=by
 unfold dt cV at h
 split at h
 ·rename_i hh
  cases h
  match bs,hl with
  | [],_=>simp[pX]at hh
  | [a],_ =>
   by_cases ha:a.toNat<128
   ·simp[pX,ha];omega
   ·simp[pX,ha]at hh
  | [a,b],_ =>
   by_cases ha:a.toNat<128
   ·simp[pX,ha];omega
   ·by_cases hb:b.toNat<128
    ·simp[pX,ha,hb];omega
    ·simp[pX,ha,hb]at hh
 ·cases h
end Go.SL
namespace Go.Proofs.YthjbidjmgbjkiaaGreatDoor
open Go Go.SL
attribute [local irreducible] J K aD Ends ag az aL bK aZ aQ aV bg
theorem ll(n:Nat)(h:n<18446744073709551616):aD Tryz.prog 84 [.int .u64 (n:Int)] [] (fun r H=>H=[az 5 1 r (uv n).length (bV (uv n))]):=by
 refine aD.enter Tryz.func84 ak rfl Tryz.ntmps84 zr zr ?_
 intro G F R hE
 refine go ?_
 (first|refine aj (bw 5 1 none _) ?_|refine aG (bw 5 1 none _) ?_)
 have ZU:=nU h
 refine bo (fun s:Nat × List UInt8 × Value=>s.2.1++uv s.1=uv n∧s.1≤n) (fun s=>s.1)
  (fun s=>[(0,.int .u64 (s.1:Int)),(3,s.2.2)])
  (fun s=>az 5 1 s.2.2 s.2.1.length (bV s.2.1)::F) (n,[],.slice none 0 0) ⟨rfl,Nat.le_refl _⟩ rfl bY ad ?_
 rintro⟨m,done,v⟩⟨hm,Uv⟩ ih
 simp only at hm Uv
 have hlen:done.length+(uv m).length≤10:=by rw[← List.length_append,hm];exact ZU
 have k6:=Pj m
 (first|refine aM 0 rfl ?_|refine db 0 rfl ?_)
 rintro va vc hve
 simp only at hve
 subst hve
 refine go ?_
 refine aw zr zr ?_ ?_
 ·intro eQ
  simp only at eQ
  have rL:¬m<128:=by omega
  refine go ?_
  refine jJ (U:=ao) zr zr zr zr zr zr ?_
  refine aB 10 (.int .u8 ((m%256:Nat):Int)) rfl (XT m) ?_
  refine go ?_
  refine aB 11 (u8 (UInt8.ofNat (m%128+128))) rfl (Nl m) ?_
  refine au (U:=ao) (cs:=bV [UInt8.ofNat (m%128+128)]) zr zr zr zr zr zr zr zr zr bp ?_
  intro b1
  refine bh (U:=ao) (mm:=1) (news:=bV [UInt8.ofNat (m%128+128)]) 1 0 zr zr zr zr zr zr zr zr zr zr zr zr (Vw.ag rfl) rfl (cC _) (by simp only;omega) (by show(_+1)*1≤_;simp only;omega) (fun _=>rfl) bp ?_
  intro v1
  rw[show bV done++bV [UInt8.ofNat (m%128+128)]=bV (done++[UInt8.ofNat (m%128+128)])from by simp[bV],show done.length+1=(done++[UInt8.ofNat (m%128+128)]).length from by simp]
  (first|refine aM 1 rfl ?_|refine db 1 rfl ?_)
  rintro wa wc rfl
  refine go ?_
  refine jg zr zr zr ai ?_
  refine aB 7 (.int .u64 ((m/128:Nat):Int)) rfl (congrArg (Value.int .u64) (by show(m:Int)/128=_;omega)) ?_
  refine go ?_
  refine aO ih (m/128,done++[UInt8.ofNat (m%128+128)],_) rfl ⟨by simp only[List.append_assoc,List.singleton_append];rw[← DA rL];exact hm,by simp only;omega⟩ (by simp only;omega) bY ad
 ·intro cO
  simp only at cO
  have rF:m<128:=by omega
  refine go ?_
  refine aB 16 (u8 (UInt8.ofNat m)) rfl (by simp only[u8,UInt8.toNat_ofNat'];congr 1;omega) ?_
  refine au (U:=ao) (cs:=bV [UInt8.ofNat m]) zr zr zr zr zr zr zr zr zr bp ?_
  intro b1
  refine bh (U:=ao) (mm:=1) (news:=bV [UInt8.ofNat m]) 1 0 zr zr zr zr zr zr zr zr zr zr zr zr (Vw.ag rfl) rfl (cC _) (by simp only;omega) (by show(_+1)*1≤_;simp only;omega) (fun _=>rfl) bp ?_
  intro v1
  rw[show bV done++bV [UInt8.ofNat m]=bV (uv n)from by rw[← hm,hJ rF];simp[bV],show done.length+1=(uv n).length from by rw[← hm,hJ rF];simp]
  refine go ?_
  (first|refine ae hE Tryz.func84 rfl _ zr zr ad|refine bO hE Tryz.func84 rfl _ zr zr ad)
theorem yo{x q y:Nat}(hq:q≤64)(h:x*2 ^ q=y)(hy:y<18446744073709551616):Value.int .u64 (IntKind.u64.wrap ((x:Int)*2 ^ (min ((q:Int).toNat) IntKind.u64.bits))) = .int .u64 (y:Int):=by
 have e:(x:Int)*2 ^ (min ((q:Int).toNat) IntKind.u64.bits)=(y:Int):=by
  show(x:Int)*2 ^ (min q 64)=_
  rw[Nat.min_eq_left hq,← h];push_cast;rfl
 rw[e,cD (by simp only[fz];omega)]
theorem BC(A:HP):Vw A (.slice none 0 0) ([]:List UInt8).length (bV []):=⟨none,0,rfl,.inl rfl⟩
set_option maxRecDepth 20000 in
theorem Gf(A:HP)(v:Value)(bs:List UInt8)(hv:Vw A v bs.length (bV bs))(iy:∃a c,v = .slice a bs.length c∧bs.length≤c)(hl:bs.length≤9223372036854775807) :
    aD Tryz.prog 211 [v] [A] (fun r H=>∃rv,r = .tuple #[.int .u64 ((cV bs).1:Int),rv,.bool (cV bs).2.2]∧(Vw A rv (cV bs).2.1.length (bV (cV bs).2.1)∧∃a c,rv = .slice a (cV bs).2.1.length c∧(cV bs).2.1.length≤c)∧H=[A]):=by
  obtain⟨a0,c0,rfl,Dw⟩:=iy
  refine aD.enter Tryz.func211 ak rfl Tryz.ntmps211 zr zr ?_
  intro G F R hE
  refine go ?_
  refine bo (fun s:Nat × Nat=>s.1≤bs.length∧s.1≤10∧(s.1≤9→s.2<2 ^ (7*s.1))∧pX 0 0 bs=pX s.1 s.2 (bs.drop s.1)) (fun s=>bs.length-s.1)
    (fun s=>[(0,.slice a0 bs.length c0),(5,.int .u64 (s.2:Int)),(8,.slice a0 bs.length c0),(9,.int .i64 bs.length),(10,.int .i64 s.1)])
    (fun _=>A::F) (0,0) ⟨Nat.zero_le _,ai,by simp,by simp⟩ rfl bY ad ?_
  rintro⟨i,acc⟩⟨hi,vW,uA,kq⟩ ih
  simp only at hi vW uA kq
  refine go ?_
  refine aw zr zr ?_ ?_
  case' refine_2 =>
    intro eQ
    simp only at eQ
    have S4:cV bs=(0,[],false):=by
      unfold cV;rw[kq,List.drop_eq_nil_of_le ai];simp[pX]
    refine go ?_
    rw[S4]at hE
    (first|refine ae hE Tryz.func211 rfl _ rfl ⟨_,rfl,⟨BC A,none,0,rfl,Nat.le_refl _⟩,rfl⟩ ad|refine bO hE Tryz.func211 rfl _ rfl ⟨_,rfl,⟨BC A,none,0,rfl,Nat.le_refl _⟩,rfl⟩ ad)
  intro cO
  simp only at cO
  have fU:i<bs.length:=by omega
  obtain⟨ba,oa,ca,fA⟩:=LR hv ai
  simp only[Value.slice.injEq,true_and]at fA
  obtain⟨rfl,rfl⟩:=fA
  obtain⟨c,hc⟩:∃c,bs[i]?=some c:=⟨bs[i],by simp⟩
  have UB:bs.drop i=c::bs.drop (i+1):=by
    rw[List.drop_eq_getElem_cons fU];congr 1
    rw[List.getElem?_eq_getElem fU]at hc;exact Option.some.inj hc
  have O6:c.toNat<256:=c.toNat_lt
  rw[UB]at kq
  simp only[pX]at kq
  refine go ?_
  refine cK (U:=ao) i zr zr zr zr zr zr zr zr fU ?_
  refine bB (U:=ao) 0 i zr zr zr hv rfl (oP hc) zr zr ?_
  repeat'(first|(with_reducible intro nT)|refine fk ?_|refine o5 ?_ ?_|refine gN zr zr zr zr ?_ ?_|refine aw zr zr ?_ ?_)
  case' refine_1 =>
    have kr:(i=10∨(i=9∧1<c.toNat)):=by simp only at *;omega
  case' refine_2.refine_1.refine_1 =>
    have kr:(i=10∨(i=9∧1<c.toNat)):=by simp only at *;omega
  case' refine_2.refine_1.refine_2 => 
    have qc:¬(i=10∨(i=9∧1<c.toNat)):=by simp only at *;omega
  case' refine_2.refine_2 => 
    have qc:¬(i=10∨(i=9∧1<c.toNat)):=by simp only at *;omega
  any_goals (
    have S4:cV bs=(0,[],false):=by unfold cV;rw[kq,if_pos kr];rfl
    rw[S4]at hE
    (first|refine ae hE Tryz.func211 rfl _ rfl ⟨_,rfl,⟨BC A,none,0,rfl,Nat.le_refl _⟩,rfl⟩ ad|refine bO hE Tryz.func211 rfl _ rfl ⟨_,rfl,⟨BC A,none,0,rfl,Nat.le_refl _⟩,rfl⟩ ad))
  all_goals(
    have hi9:i≤9:=by omega
    have YZ:=uA hi9
    have OU:c.toNat%128<128:=Nat.mod_lt _ ai
    have Ju:=MY (c:=c.toNat%128) hi9 YZ OU (by intro h;omega)
    refine aB 27 (.int .u8 ((c.toNat%128:Nat):Int)) rfl (congrArg (Value.int .u8) (Am _ O6)) ?_
    refine go ?_
    refine gi zr zr zr (by simp only[fz];omega) ?_
    refine aB 30 (.int .i64 ((7*i:Nat):Int)) rfl (congrArg (Value.int .i64) (by simp only;omega)) ?_
    refine mi zr zr zr ai ?_
    refine aB 31 (.int .u64 ((c.toNat%128*2 ^ (7*i):Nat):Int)) rfl (yo ai rfl ai) ?_
    refine go ?_
    refine bj 5 (.int .u64 ((acc+c.toNat%128*2 ^ (7*i):Nat):Int)) rfl (congrArg (Value.int .u64) (Sz YZ Ju)) ?_
    refine go ?_
    refine aw zr zr ?_ ?_
    · intro abq
      have hcm:c.toNat%128=c.toNat:=by omega
      have Ep:cV bs=(acc+c.toNat%128*2 ^ (7*i),bs.drop (i+1),decide (i=0∨0<c.toNat)):=by
        unfold cV;rw[kq,if_neg qc,if_pos ai,hcm];rfl
      refine aF (fun w=>Sat G w ([])) (kE 0 14 .nil) rfl ak ak ak (fun w hw=>hw.aX ad) ?_
      refine go ?_
      refine bG (U:=ao) (p:=(i:Int)+1) (q:=(bs.length:Int)) zr zr zr zr zr zr zr ai ai (.inl rfl) ?_
      refine aB 39 (.slice (sliceAt (some ⟨ba,oa,none⟩) c0 (i+1) 1) (bs.drop (i+1)).length (c0-(i+1))) rfl (by rw[show((i:Int)+1).toNat=i+1 from by omega,show((bs.length:Int)).toNat=bs.length from by omega,List.length_drop];rfl) ?_
      have FX:Vw A (.slice (sliceAt (some ⟨ba,oa,none⟩) c0 (i+1) 1) (bs.drop (i+1)).length (c0-(i+1))) (bs.drop (i+1)).length (bV (bs.drop (i+1))):=by
        have:=hv.LG (s:=1) (by rw[bt];omega) Dw (i+1) ai
        rw[List.length_drop,show bV (bs.drop (i+1))=(bV bs).drop ((i+1)*1)from by simp[bV,List.map_drop]]
        exact this
      rw[Ep]at hE
      repeat'(first|(with_reducible intro nT)|refine fk ?_|refine o5 ?_ ?_|refine gN zr zr zr zr ?_ ?_|refine aw zr zr ?_ ?_)
      all_goals first
        | (have Jn:i=0:=(by simp only at nT;omega)
           rw[decide_eq_true (Or.inl Jn:i=0∨0<c.toNat)]at hE
           (first|refine ae hE Tryz.func211 rfl _ rfl ⟨_,rfl,⟨FX,_,_,rfl,by simp only[List.length_drop];omega⟩,rfl⟩ ad|refine bO hE Tryz.func211 rfl _ rfl ⟨_,rfl,⟨FX,_,_,rfl,by simp only[List.length_drop];omega⟩,rfl⟩ ad))
        | (have Jn:¬i=0:=(by simp only at nT;omega)
           rw[show decide (i=0∨0<c.toNat)=decide ((0:Int)<(c.toNat:Int))from decide_eq_decide.2 ⟨fun h=>by omega,fun h => .inr ai⟩]at hE
           (first|refine ae hE Tryz.func211 rfl _ rfl ⟨_,rfl,⟨FX,_,_,rfl,by simp only[List.length_drop];omega⟩,rfl⟩ ad|refine bO hE Tryz.func211 rfl _ rfl ⟨_,rfl,⟨FX,_,_,rfl,by simp only[List.length_drop];omega⟩,rfl⟩ ad))
    · intro abc
      refine go ?_
      refine aO ih (i+1,acc+c.toNat%128*2 ^ (7*i)) rfl ⟨by simp only;omega,by simp only;omega,fun _=>Fy YZ OU,by rw[kq,if_neg qc,if_neg ai]⟩ (by simp only;omega) bY ad)
def dR(A:HP)(v:Value)(bs:List UInt8):Prop:=Vw A v bs.length (bV bs)∧∃a c,v = .slice a bs.length c∧bs.length≤c
theorem dR.cut{A:HP}{a:Option Addr}{n c:Nat}{bs:List UInt8}(h:dR A (.slice a n c) bs)(p:Nat)(hp:p≤bs.length):dR A (.slice (sliceAt a c p 1) (bs.length-p) (c-p)) (bs.drop p):=by
 obtain⟨hv,a',c',he,hc⟩:=h
 simp only[Value.slice.injEq]at he
 obtain⟨rfl,rfl,rfl⟩:=he
 refine⟨?_,_,_,by rw[List.length_drop],by rw[List.length_drop];omega⟩
 have:=hv.LG (s:=1) (by rw[bt];omega) hc p hp
 rw[List.length_drop,show bV (bs.drop p)=(bV bs).drop (p*1)from by simp[bV,List.map_drop]]
 exact this
theorem dR.front{A:HP}{a:Option Addr}{n c:Nat}{bs:List UInt8}(h:dR A (.slice a n c) bs)(q:Nat)(hq:q≤bs.length):dR A (.slice (sliceAt a c 0 1) q c) (bs.take q):=by
 obtain⟨hv,a',c',he,hc⟩:=h
 simp only[Value.slice.injEq]at he
 obtain⟨rfl,rfl,rfl⟩:=he
 have hl:(bs.take q).length=q:=by rw[List.length_take];omega
 refine⟨?_,_,_,by rw[hl],by rw[hl];omega⟩
 have:=hv.aa1 (s:=1) q
 rw[hl,show bV (bs.take q)=(bV bs).take (q*1)from by simp[bV,List.map_take]]
 exact this
theorem dR.mono{A B:HP}{v:Value}{bs:List UInt8}(h:dR A v bs)(TI:∀h,B h→∃h',sub h' h∧A h'):dR B v bs:=⟨h.1.mono TI,h.2⟩
theorem dR.piece{A:HP}{a:Option Addr}{n c:Nat}{bs:List UInt8}(h:dR A (.slice a n c) bs)(p q:Nat)(hp:p≤q)(hq:q≤bs.length):dR A (.slice (sliceAt a c p 1) (q-p) (c-p)) ((bs.drop p).take (q-p)):=by
 have h1:=h.cut p ai
 obtain⟨hv,a',c',he,hc⟩:=h1
 have hlen:((bs.drop p).take (q-p)).length=q-p:=by rw[List.length_take,List.length_drop];omega
 refine⟨?_,_,_,by rw[hlen],by rw[hlen];obtain⟨_,_,_,zZ,oD⟩:=h;simp only[Value.slice.injEq]at zZ;omega⟩
 obtain⟨a2,tB,zZ,h0|⟨b,o,ha,oD⟩⟩:=hv
 ·simp only[Value.slice.injEq]at zZ
  have:(bs.drop p)=[]:=by simpa[bV]using h0
  refine⟨_,_,by rw[hlen],.inl ?_⟩
  rw[this];simp[bV]
 ·simp only[Value.slice.injEq]at zZ
  refine⟨_,_,by rw[hlen],.inr ⟨b,o,by rw[zZ.1,ha],fun h' hA j x hj=>?_⟩⟩
  refine oD h' hA j x ?_
  rw[show bV ((bs.drop p).take (q-p))=(bV (bs.drop p)).take (q-p)from by simp[bV,List.map_take]]at hj
  rw[List.getElem?_take]at hj
  split at hj
  ·exact hj
  ·cases hj
theorem ln(A:HP)(v:Value)(bs:List UInt8)(hv:dR A v bs)(hl:bs.length≤9223372036854775807) :
  aD Tryz.prog 190 [v] [A] (fun r H=>r=(match dt bs with
   | some n => .tuple #[.int .u64 (n:Int),.int .i64 0]
   | none => .tuple #[.int .u64 0,.int .i64 2])∧H=[A]):=by
 refine aD.enter Tryz.func190 ak rfl Tryz.ntmps190 zr zr ?_
 intro G F R hE
 refine go ?_
 ((refine ah zr zr zr zr (Gf A v bs hv.1 hv.2 hl) ad ?_ bE))
 rintro _ _⟨rv,rfl,⟨FX,a,c,rfl,_⟩,rfl⟩
 cases lF:(cV bs).2.2 with
 | false =>
  have hn:dt bs=none:=by unfold dt;rw[if_neg (by rw[lF];simp)]
  rw[hn]at hE
  refine go ?_
  ((refine ae hE Tryz.func190 rfl _ rfl ⟨rfl,rfl⟩ ad))
 | true =>
  repeat'(first|(with_reducible intro nT)|refine fk ?_|refine aw zr zr ?_ ?_)
  ·have hn:dt bs=none:=by unfold dt;rw[if_neg (fun h=>by rw[h.2]at nT;simp at nT)]
   rw[hn]at hE
   ((refine ae hE Tryz.func190 rfl _ rfl ⟨rfl,rfl⟩ ad))
  ·have hn:dt bs=some (cV bs).1:=by unfold dt;rw[if_pos ⟨lF,List.eq_nil_of_length_eq_zero ai⟩]
   rw[hn]at hE
   ((refine ae hE Tryz.func190 rfl _ rfl ⟨rfl,rfl⟩ ad))
def cy(bs:List UInt8):List UInt8:=uv bs.length++bs
end Go.Proofs.YthjbidjmgbjkiaaGreatDoor
namespace Go.Proofs.YthjbidjmgbjkiaaGreatDoor
open Go Go.SL
theorem FA{e:TypeId}{v:Value}{bs:List UInt8}(h0:∃h,az e 1 v bs.length (bV bs) h):dR (az e 1 v bs.length (bV bs)) v bs:=by
 refine⟨Vw.oh e 1 v bs.length (bV bs) h0,?_⟩
 obtain⟨h,hl,⟨a,rfl,hn,_⟩|⟨b,o,cap,pre,bM,rfl,hp,hn,hc,_⟩⟩:=h0
 ·exact⟨a,0,by rw[hn],ai⟩
 ·exact⟨_,cap,rfl,hn⟩
section
variable{P:Program}{f:FuncId}{n:Nat}{R:Ending→World→Prop}{G:cm}{k:List Item}{L:eN}{H:List HP}{S:World→Prop}{all:Array Oper}{rest:Pl}
theorem fG{e:TypeId}{v:Value}{bs:List UInt8}(i:Nat)(hi:cf H i=some (az e 1 v bs.length (bV bs)))(h:dR (az e 1 v bs.length (bV bs)) v bs→J P f n R G S all rest k L H):J P f n R G S all rest k L H :=
 zd fun w hw=>by
  obtain⟨h1,_,hA⟩:=hw.j7 hi
  exact h (FA ⟨h1,hA⟩)
theorem oU{e:TypeId}{v:Value}{bs:List UInt8}(i:Nat)(hi:cf H i=some (az e 1 v bs.length (bV bs)))(h:dR (az e 1 v bs.length (bV bs)) v bs→K P f n R G k L H):K P f n R G k L H :=
 qj fun⟨w,hw⟩=>by
  obtain⟨h1,_,hA⟩:=hw.j7 hi
  exact h (FA ⟨h1,hA⟩)
end
theorem aW{H:List HP}{i:Nat}{A:HP}(hi:cf H i=some A):∀h,Sep H h→∃h',sub h' h∧A h':=fun h hs=>by
 rw[df]at hi
 obtain⟨h',Nv,hA⟩:=aq.perm (cN hi) h hs
 obtain⟨h1,h2,ha,_,hd,hj⟩:=hA
 refine⟨h1,fun b o hb=>?_,ha⟩
 refine Nv b o ?_
 rw[hj b,hb];rfl
end Go.Proofs.YthjbidjmgbjkiaaGreatDoor
namespace Go.Proofs.YthjbidjmgbjkiaaGreatDoor
open Go Go.SL
attribute [local irreducible] J K aD Ends ag az aL bK aZ aQ aV bg
theorem oJ(A:HP)(v:Value)(bs:List UInt8)(hv:dR A v bs)(hl:bs.length≤1000000000000):aD Tryz.prog 128 [v] [A] (fun r H=>H=[az 5 1 r (cy bs).length (bV (cy bs)),A]):=by
 obtain⟨a,c,rfl,hc⟩:=hv.2
 refine aD.enter Tryz.func128 ak rfl Tryz.ntmps128 zr zr ?_
 intro G F R hE
 refine go ?_
 ((refine ah zr zr zr zr (ll bs.length ai) ad ?_ bE))
 rintro r _ rfl
 ((refine aM 0 rfl ?_))
 rintro ra rc rfl
 refine go ?_
 have hu:=nU (n:=bs.length) ai
 refine bh (U:=ao) (mm:=bs.length) (news:=bV bs) 0 1 zr zr zr zr zr zr zr zr zr zr zr zr hv.1 (by show _=_*1;rw[bt];omega) (cC _) ai (by show(_+_)*1≤_;omega) (fun _=>rfl) bp ?_
 intro v1
 rw[show bV (uv bs.length)++bV bs=bV (cy bs)from by simp[bV,cy],show(uv bs.length).length+bs.length=(cy bs).length from by simp[cy]]
 refine go ?_
 ((refine ae hE Tryz.func128 rfl _ zr zr ad))
set_option maxRecDepth 20000 in
theorem KC(A:HP)(v:Value)(bs:List UInt8)(hv:dR A v bs)(hl:bs.length≤9223372036854775807) :
    aD Tryz.prog 179 [v] [A] (fun r H=>r=(match nE bs with
      | some (k,n) => .tuple #[.int .i64 (k:Int),.int .i64 (n:Int),.bool (decide (n≤4096))]
      | none => .tuple #[.int .i64 0,.int .i64 0,.bool false])∧H=[A]):=by
  obtain⟨a,c,rfl,hc⟩:=hv.2
  refine aD.enter Tryz.func179 ak rfl Tryz.ntmps179 zr zr ?_
  intro G F R hE
  refine go ?_
  refine bo (fun k:Nat=>1≤k∧k≤3∧(2≤k→1≤bs.length∧dt (bs.take 1)=none)∧(3≤k→2≤bs.length∧dt (bs.take 2)=none)) (fun k=>3-k)
    (fun k=>[(0,.slice a bs.length c),(5,.int .i64 (k:Int))])
    (fun _=>A::F) 1 ⟨ai,ai,ai,ai⟩ rfl bY ad ?_
  rintro k⟨xJ,vU,h1,h2⟩ ih
  refine go ?_
  refine aw zr zr ?_ ?_
  case' refine_2 =>
    intro eQ
    have hn:nE bs=none:=by
      unfold nE
      split
      · obtain⟨_,h3⟩:=h1 ai
        rw[h3]
        simp only
        split
        · obtain⟨_,h4⟩:=h2 ai
          rw[h4];rfl
        · rfl
      · rfl
    rw[hn]at hE
    refine go ?_
    ((refine ae hE Tryz.func179 rfl _ rfl ⟨rfl,rfl⟩ ad))
  intro cO
  have ND:k≤bs.length:=by omega
  refine go ?_
  refine bG (U:=ao) (p:=0) (q:=(k:Int)) zr zr zr zr zr zr zr ai ai (.inr ai) ?_
  have hf:=hv.front k ND
  refine aB 18 (.slice (sliceAt a c 0 1) k c) rfl (by rw[show(0:Int).toNat=0 from rfl,show((k:Int)).toNat=k from by omega];rfl) ?_
  ((refine ah zr zr zr zr (ln A _ (bs.take k) hf (by rw[List.length_take];omega)) ad ?_ bE))
  cases hu:dt (bs.take k)with
  | none =>
    rintro _ _⟨rfl,rfl⟩
    refine go ?_
    refine aO ih (k+1) rfl ⟨ai,ai,fun h=>by
      by_cases hk:k=1
      · subst hk;exact⟨ai,hu⟩
      · exact h1 ai,fun h=>by
      have hk:k=2:=by omega
      subst hk;exact⟨ai,hu⟩⟩ ai bY ad
  | some n =>
    rintro _ _⟨rfl,rfl⟩
    have abo:=mZ hu (by rw[List.length_take];omega)
    have Ep:nE bs=some (k,n):=by
      unfold nE
      rw[if_pos ai]
      by_cases hk:k=1
      · subst hk;rw[hu]
      · have hk:k=2:=by omega
        subst hk
        obtain⟨_,h3⟩:=h1 ai
        rw[h3]
        simp only
        rw[if_pos ai,hu];rfl
    rw[Ep]at hE
    simp only at hE
    rw[show decide (n≤4096)=decide ((n:Int)≤4096)from decide_eq_decide.2 ⟨fun _=>by omega,fun _=>by omega⟩]at hE
    refine go ?_
    ((refine ae hE Tryz.func179 rfl _ rfl ⟨rfl,rfl⟩ ad))
def oC(b:List UInt8)(k last:Nat):Bool :=
 let h:=(b.drop (16*k)).take 16
 decide (last<pB h∧pB h≤1073741824∧pB h%2=k∧pB (h.drop 4)+32≤b.length∧h=cJ (pB h) (pB (h.drop 4)))
def gR(b:List UInt8)(k:Nat)(s:Nat × Nat):Nat × Nat:=if oC b k s.1 then(pB ((b.drop (16*k)).take 16),pB (((b.drop (16*k)).take 16).drop 4))else s
def fj(b:List UInt8):List UInt8:=if b.length<32 then []else(b.drop 32).take (gR b 1 (gR b 0 (0,0))).2
theorem aaO{b:List UInt8}{k:Nat}(hk:16*k+16≤b.length):((b.drop (16*k)).take 16).length=16:=by rw[List.length_take,List.length_drop];omega
set_option maxRecDepth 20000 in
theorem Ik(A:HP)(v:Value)(b:List UInt8)(hv:dR A v b)(hl:b.length≤9223372036854775807) :
  aD Tryz.prog 121 [v] [A] (fun r H=>dR A r (fj b)∧H=[A]):=by
 obtain⟨a,c,rfl,hc⟩:=hv.2
 refine aD.enter Tryz.func121 ak rfl Tryz.ntmps121 zr zr ?_
 intro G F R hE
 repeat'(first|(with_reducible intro nT)|refine fk ?_|refine aw zr zr ?_ ?_)
 case' refine_1 =>
  have hn:fj b=[]:=by unfold fj;rw[if_pos ai]
  rw[hn]at hE
  ((refine ae hE Tryz.func121 rfl _ rfl ⟨⟨BC A,none,0,rfl,Nat.le_refl _⟩,rfl⟩ ad))
 have abC:32≤b.length:=by omega
 refine bo (fun s:Nat × Nat × Nat=>s.1≤2∧(s.1=0→s.2=(0,0))∧(s.1=1→s.2=gR b 0 (0,0))∧(s.1=2→s.2=gR b 1 (gR b 0 (0,0)))∧s.2.2+32≤b.length∧s.2.1≤1073741824) (fun s=>2-s.1)
  (fun s=>[(0,.slice a b.length c),(3,.int .i64 (s.2.1:Int)),(4,.int .i64 (s.2.2:Int)),(12,.int .i64 (s.1:Int))])
  (fun _=>A::F) (0,0,0) ⟨ai,fun _=>rfl,ai,ai,by simp only;omega,by simp only;omega⟩ rfl bY ad ?_
 rintro⟨k,last,len⟩⟨hk,Ux,xJ,vU,hlen,jS⟩ ih
 simp only at hk Ux xJ vU hlen jS
 refine go ?_
 refine aw zr zr ?_ ?_
 case' refine_2 =>
  intro eQ
  simp only at eQ
  have h2:=vU ai
  have hf:fj b=(b.drop 32).take len:=by unfold fj;rw[if_neg ai,← h2]
  refine go ?_
  refine bG (U:=ao) (p:=32) (q:=32+(len:Int)) zr zr zr zr zr zr zr ai ai (.inr ai) ?_
  have hp:=hv.piece 32 (32+len) ai ai
  rw[show 32+len-32=len from by omega,← hf]at hp
  refine aB 58 (.slice (sliceAt a c 32 1) len (c-32)) rfl (by rw[show(32:Int).toNat=32 from rfl,show(32+(len:Int)).toNat=32+len from by omega,show 32+len-32=len from by omega];rfl) ?_
  refine go ?_
  ((refine ae hE Tryz.func121 rfl _ rfl ⟨hp,rfl⟩ ad))
 intro cO
 simp only at cO
 have aaA:16*k+16≤b.length:=by omega
 refine go ?_
 refine gi zr zr zr (by simp only[fz];omega) ?_
 refine aB 17 (.int .i64 ((16*k:Nat):Int)) rfl (congrArg (Value.int .i64) (by simp only;omega)) ?_
 refine bG (U:=ao) (p:=((16*k:Nat):Int)) (q:=(b.length:Int)) zr zr zr zr zr zr zr ai ai (.inl rfl) ?_
 refine aB 18 (.slice (sliceAt a c (16*k) 1) (b.length-16*k) (c-16*k)) rfl (by rw[show(((16*k:Nat):Int)).toNat=16*k from by omega,show((b.length:Int)).toNat=b.length from by omega];rfl) ?_
 have hh1:=hv.cut (16*k) ai
 refine bG (U:=ao) (p:=0) (q:=16) zr zr zr zr zr zr zr ai ai (.inr ai) ?_
 obtain⟨hd,YM⟩:∃hd,hd=(b.drop (16*k)).take 16:=⟨_,rfl⟩
 have Dv:hd.length=16:=by rw[YM];exact aaO aaA
 obtain⟨a1,Y0⟩:∃a1,a1=sliceAt (sliceAt a c (16*k) 1) (c-16*k) 0 1:=⟨_,rfl⟩
 have hh2:dR A (.slice a1 16 (c-16*k)) hd:=by
  rw[show b.length-16*k=(b.drop (16*k)).length from by rw[List.length_drop]]at hh1
  have:=hh1.front 16 (by rw[List.length_drop];omega)
  rw[Y0,YM];exact this
 refine aB 19 (.slice a1 16 (c-16*k)) rfl (by rw[show(0:Int).toNat=0 from rfl,show(16:Int).toNat=16 from rfl,Y0];rfl) ?_
 refine go ?_
 refine aF (fun w=>Sat G w ([])) (.st 0 (.st 2 (.st 3 (.act 1 (.act 4 (.st 5 (.st 6 .nil))))))) rfl ak ak ak (fun w hw=>hw.aX ad) ?_
 refine go ?_
 refine bG (U:=ao) (p:=4) (q:=16) zr zr zr zr zr zr zr ai ai (.inl rfl) ?_
 have hh3:=(show dR A (.slice a1 hd.length (c-16*k)) hd by rw[Dv];exact hh2).cut 4 ai
 rw[Dv]at hh3
 refine aB 23 (.slice (sliceAt a1 (c-16*k) 4 1) (16-4) (c-16*k-4)) rfl (by rw[show(4:Int).toNat=4 from rfl,show(16:Int).toNat=16 from rfl];rfl) ?_
 ((refine ah rfl rfl rfl rfl (AR A _ hd hh2.1 ai) ad ?_ (fun _ _ w hp hw=>by obtain⟨_,rfl⟩:=hp;exact hw.aX ad)))
 rintro _ _⟨rfl,rfl⟩
 ((refine ah zr zr zr zr (AR A _ (hd.drop 4) hh3.1 (by rw[List.length_drop];omega)) ad ?_ (fun _ _ w hp hw=>by obtain⟨_,rfl⟩:=hp;exact hw.aX ad)))
 rintro _ _⟨rfl,rfl⟩
 have hn:=KF hd
 have hm:=KF (hd.drop 4)
 have lF:oC b k last=decide (last<pB hd∧pB hd≤1073741824∧pB hd%2=k∧pB (hd.drop 4)+32≤b.length∧hd=cJ (pB hd) (pB (hd.drop 4))):=by unfold oC;rw[← YM]
 have pF:∀s':Nat × Nat,s'=gR b k (last,len)→s'.2+32≤b.length∧s'.1≤1073741824→(k+1≤2∧(k+1=0→s'=(0,0))∧(k+1=1→s'=gR b 0 (0,0))∧(k+1=2→s'=gR b 1 (gR b 0 (0,0)))∧s'.2+32≤b.length∧s'.1≤1073741824):=by
  intro s' h1 h2
  refine⟨ai,ai,fun h=>?_,fun h=>?_,h2⟩
  ·have:k=0:=by omega
   subst this;rw[h1,Ux rfl]
  ·have:k=1:=by omega
   subst this;rw[h1,xJ rfl]
 have kr:oC b k last=false→(last,len)=gR b k (last,len):=fun h=>by unfold gR;rw[if_neg (by rw[h];simp)]
 have qc:oC b k last=true→(pB hd,pB (hd.drop 4))=gR b k (last,len):=fun h=>by unfold gR;rw[if_pos h,← YM]
 repeat'(first|(with_reducible intro nT)|refine fk ?_|refine gN zr zr zr zr ?_ ?_|refine nI zr zr zr ai ai ?_)
 any_goals (
  have hf:oC b k last=false:=by rw[lF];exact decide_eq_false (fun h=>by simp only at *;omega)
  refine aO ih (k+1,last,len) rfl (pF _ (kr hf) ⟨hlen,jS⟩) (by simp only;omega) bY ad)
 ((refine ah zr zr zr zr (vX (pB hd) (pB (hd.drop 4)) ai ai) ad ?_ bE))
 rintro tm _ rfl
 refine iu 0 rfl ?_
 intro hvh
 ((refine aM 0 rfl ?_))
 rintro xa xc rfl
 refine go ?_
 ((refine ah zr zr zr zr (I2 A (az 5 1 (.slice xa (cJ (pB hd) (pB (hd.drop 4))).length xc) (cJ (pB hd) (pB (hd.drop 4))).length (bV (cJ (pB hd) (pB (hd.drop 4))))) (.slice a1 16 (c-16*k)) (.slice xa (cJ (pB hd) (pB (hd.drop 4))).length xc) hd (cJ (pB hd) (pB (hd.drop 4))) hh2.1 hvh) ad ?_ bE))
 rintro _ _⟨rfl,rfl⟩
 repeat'(first|(with_reducible intro nT)|refine fk ?_|refine aw zr zr ?_ ?_)
 ·have hf:oC b k last=true:=by rw[lF];exact decide_eq_true (by refine⟨?_,?_,?_,?_,‹_›⟩ <;> (simp only at *;omega))
  refine go ?_
  refine aO ih (k+1,pB hd,pB (hd.drop 4)) rfl (pF _ (qc hf) ⟨by simp only at *;omega,by simp only at *;omega⟩) (by simp only;omega) bY ad
 ·have hf:oC b k last=false:=by rw[lF];exact decide_eq_false (fun h=>‹¬_› h.2.2.2.2)
  refine aO ih (k+1,last,len) rfl (pF _ (kr hf) ⟨hlen,jS⟩) (by simp only;omega) bY ad
end Go.Proofs.YthjbidjmgbjkiaaGreatDoor
namespace Go.Proofs.YthjbidjmgbjkiaaGreatDoor
open Go Go.SL
def qi(A:HP)(v:Value)(ls:List (List UInt8)):Prop:=∃cs:List Value,Vw A v ls.length cs∧cs.length=ls.length∧(∃a c,v = .slice a ls.length c∧ls.length≤c)∧∀(i:Nat) (x:List UInt8),ls[i]?=some x→∃cv,cs[i]?=some cv∧dR A cv x
theorem qi.row{X:HP}{b:Nat}{e:TypeId}{n:Nat}{cs:List Value}{ls:List (List UInt8)}(hn:ls.length=n)(hc:cs.length=n)(h:∀(i:Nat) (x:List UInt8),ls[i]?=some x→∃cv,cs[i]?=some cv∧dR X cv x) :
  qi (Sep [ag b (cl cs e),X]) (.slice (some ⟨b,0,none⟩) n n) ls:=by
 subst hn
 refine⟨cs,(Vw.ag (by rw[List.drop_zero,List.take_length])).mono (aW (i:=0) rfl),hc,⟨_,_,rfl,Nat.le_refl _⟩,fun i x hx=>?_⟩
 obtain⟨cv,h1,h2⟩:=h i x hx
 exact⟨cv,h1,h2.mono (aW (i:=1) rfl)⟩
attribute [local irreducible] J K aD Ends ag az aL bK aZ aQ aV bg bQ
theorem pz{bs:List UInt8}{k n:Nat}(h:nE bs=some (k,n)):1≤k∧k≤2∧k≤bs.length∧n<16384:=by
 unfold nE at h
 split at h
 ·rename_i h1
  split at h
  ·rename_i m hm
   cases h
   exact⟨ai,ai,h1,mZ hm (by rw[List.length_take];omega)⟩
  ·split at h
   ·rename_i h2
    cases hu:dt (bs.take 2)with
    | none=>rw[hu]at h;cases h
    | some m =>
     rw[hu]at h
     cases h
     exact⟨ai,ai,h2,mZ hu (by rw[List.length_take];omega)⟩
   ·cases h
 ·cases h
def eX:Nat→List UInt8→List (List UInt8)
 | 0,_=>[]
 | f+1,bs=>match nE bs with
  | none=>[]
  | some (k,n)=>if n≤4096∧k+n≤bs.length then(bs.drop k).take n::eX f (bs.drop (k+n))else []
theorem p5:∀(f g:Nat) (bs:List UInt8),bs.length≤f→bs.length≤g→eX f bs=eX g bs
 | 0,0,_,_,_=>rfl
 | 0,g+1,bs,hf,_=>by
  have:bs=[]:=List.eq_nil_of_length_eq_zero ai
  subst this;rfl
 | f+1,0,bs,_,hg=>by
  have:bs=[]:=List.eq_nil_of_length_eq_zero ai
  subst this;rfl
 | f+1,g+1,bs,hf,hg=>by
  unfold eX
  split
  ·rfl
  ·rename_i k n hl
   have:=pz hl
   split
   ·rw[p5 f g _ (by rw[List.length_drop];omega) (by rw[List.length_drop];omega)]
   ·rfl
def bU(bs:List UInt8):List (List UInt8):=eX bs.length bs
theorem xz{bs:List UInt8}(h:nE bs=none):bU bs=[]:=by
 unfold bU
 cases hl:bs.length with
 | zero=>rfl
 | succ f=>unfold eX;rw[h]
theorem rn{bs:List UInt8}{k n:Nat}(h:nE bs=some (k,n))(hb:¬(n≤4096∧k+n≤bs.length)):bU bs=[]:=by
 unfold bU
 cases hl:bs.length with
 | zero=>rfl
 | succ f=>unfold eX;rw[h];simp only;rw[if_neg hb]
theorem xA{bs:List UInt8}{k n:Nat}(h:nE bs=some (k,n))(hb:n≤4096∧k+n≤bs.length):bU bs=(bs.drop k).take n::bU (bs.drop (k+n)):=by
 have h1:=pz h
 unfold bU
 obtain⟨f,hf⟩:∃f,bs.length=f+1:=⟨bs.length-1,ai⟩
 rw[hf]
 show eX (f+1) bs=_
 rw[eX,h]
 simp only
 rw[if_pos hb,p5 f _ _ (by rw[List.length_drop];omega) (Nat.le_refl _)]
theorem Bi(a:Option Addr)(n c:Nat):aD Tryz.prog 120 [.slice a n c] [] (fun r H=>∃b,r = .func (.func 178) #[] #[ptr b]∧H=[ag b (cl [.slice a n c] 39)]):=by
 refine aD.enter Tryz.func120 ak rfl Tryz.ntmps120 zr zr ?_
 intro G F R hE
 refine go ?_
 refine bq zr zr bp ?_
 intro b
 refine go ?_
 ((refine ae hE Tryz.func120 rfl _ rfl ⟨b,rfl,rfl⟩ ad))
set_option maxRecDepth 20000 in
theorem zC(A:HP)(l bx:Nat)(v:Value)(bs:List UInt8)(hv:dR A v bs)(hl:bs.length≤1000000000)(Lp:HP)(Inv:Nat→HP)(hy:∀i x,(bU bs)[i]?=some x→∀r,bQ Tryz.prog l [r] [Lp,Inv i,az 5 1 r x.length (bV x)] (fun v H=>v = .bool true∧H=[Lp,Inv (i+1)])) :
  aD Tryz.prog 178 [.func (.yield l) #[] #[],ptr bx] [Lp,ag bx (cl [v] 39),A,Inv 0] (fun _ H=>∃v',H=[Lp,ag bx (cl [v'] 39),A,Inv (bU bs).length]):=by
 refine aD.enter Tryz.func178 ak rfl Tryz.ntmps178 zr zr ?_
 intro G F R hE
 refine go ?_
 refine bo (fun y:Value × List UInt8 × Nat=>dR A y.1 y.2.1∧y.2.1.length≤bs.length∧bU y.2.1=(bU bs).drop y.2.2∧y.2.2≤(bU bs).length) (fun y=>y.2.1.length)
  (fun _=>[(0,.func (.yield l) #[] #[]),(1,ptr bx)])
  (fun y=>[Lp,ag bx (cl [y.1] 39),A,Inv y.2.2]++F) (v,bs,0) ⟨hv,Nat.le_refl _,by simp,Nat.zero_le _⟩ rfl bY ad ?_
 rintro⟨v1,rest,i⟩⟨lC,uw,rG,WC⟩ ih
 simp only at lC uw rG WC
 have jT:bU rest=[]→i=(bU bs).length:=fun h=>by
  rw[rG]at h
  have:(bU bs).length≤i:=by simpa using h
  omega
 obtain⟨a,c,rfl,hc⟩:=lC.2
 refine go ?_
 ((refine ah zr zr zr zr (KC A _ rest lC ai) ad ?_ bE))
 rintro _ _⟨rfl,rfl⟩
 cases yH:nE rest with
 | none =>
  obtain rfl:=jT (xz yH)
  refine go ?_
  ((refine ae hE Tryz.func178 rfl _ rfl ⟨_,rfl⟩ ad))
 | some kn =>
  obtain⟨k,n⟩:=kn
  have hp:=pz yH
  by_cases hn:n≤4096
  case neg =>
   have fN:bU rest=[]:=rn yH ai
   obtain rfl:=jT fN
   have hd:decide (n≤4096)=false:=decide_eq_false hn
   simp only[hd]
   refine go ?_
   ((refine ae hE Tryz.func178 rfl _ rfl ⟨_,rfl⟩ ad))
  have hd:decide (n≤4096)=true:=decide_eq_true hn
  simp only[hd]
  refine go ?_
  by_cases hk:(rest.length:Int)<(k:Int)+n
  case pos =>
   obtain rfl:=jT (rn yH ai)
   have O4:decide ((rest.length:Int)<(k:Int)+n)=true:=decide_eq_true hk
   simp only[O4]
   refine go ?_
   ((refine ae hE Tryz.func178 rfl _ rfl ⟨_,rfl⟩ ad))
  have O4:decide ((rest.length:Int)<(k:Int)+n)=false:=decide_eq_false hk
  simp only[O4]
  have vY:=xA yH ⟨hn,ai⟩
  obtain⟨x,hx⟩:∃x,x=(rest.drop k).take n:=⟨_,rfl⟩
  have Jf:x.length=n:=by rw[hx,List.length_take,List.length_drop];omega
  rw[← hx]at vY
  have Cb:(bU bs)[i]?=some x:=by
   have:=congrArg (fun l=>l[0]?) rG
   simp only[List.getElem?_drop,vY]at this
   simpa using this.symm
  have qb:bU (rest.drop (k+n))=(bU bs).drop (i+1):=by
   have:=congrArg (fun l=>l.drop 1) rG
   simp only[vY,List.drop_drop]at this
   simpa using this
  have Ca:i+1≤(bU bs).length:=by
   have:=(List.getElem?_eq_some_iff.1 Cb).1
   omega
  have qa:=lC.piece k (k+n) ai ai
  rw[show k+n-k=n from by omega,← hx]at qa
  refine go ?_
  refine bG (U:=ao) (p:=(k:Int)) (q:=((k+n:Nat):Int)) zr zr zr zr zr zr zr ai ai (.inr ai) ?_
  refine aB 29 (.slice (sliceAt a c k 1) n (c-k)) rfl (by rw[show((k:Int)).toNat=k from by omega,show(((k+n:Nat):Int)).toNat=k+n from by omega,show k+n-k=n from by omega];rfl) ?_
  refine go ?_
  ((refine ah zr zr zr zr (jY A _ x qa.1 ai) ad ?_ bE))
  rintro r _ rfl
  refine go ?_
  refine jH zr zr zr (hy i x Cb r) ad ?_ bE
  rintro _ _⟨rfl,rfl⟩
  refine go ?_
  refine bG (U:=ao) (p:=((k+n:Nat):Int)) (q:=(rest.length:Int)) zr zr zr zr zr zr zr ai ai (.inl rfl) ?_
  have kq:=lC.cut (k+n) ai
  refine aB 38 (.slice (sliceAt a c (k+n) 1) (rest.length-(k+n)) (c-(k+n))) rfl (by rw[show(((k+n:Nat):Int)).toNat=k+n from by omega,show((rest.length:Int)).toNat=rest.length from by omega];rfl) ?_
  refine go ?_
  refine aO ih (.slice (sliceAt a c (k+n) 1) (rest.length-(k+n)) (c-(k+n)),rest.drop (k+n),i+1) rfl (⟨kq,by simp only[List.length_drop];omega,qb,Ca⟩) (by simp only[List.length_drop];omega) bY ad
end Go.Proofs.YthjbidjmgbjkiaaGreatDoor
namespace Go.Proofs.YthjbidjmgbjkiaaGreatDoor
open Go Go.SL
theorem JM{e:TypeId}{sz n c:Nat}{a:Option Addr}{cs:List Value}(H:List HP):aq (az e sz (.slice a n c) n cs::H) (az e sz (.slice (sliceAt a c 0 sz) 0 c) 0 []::H) :=
 aq.fold (A:=az e sz (.slice (sliceAt a c 0 sz) 0 c) 0 []) (B:=[az e sz (.slice a n c) n cs]) fun h hs=>by
  refine⟨h,sub.refl h,?_⟩
  obtain⟨hl,⟨a',he,hn,hem⟩|⟨b,o,cap,pre,bM,he,hp,hn,hc,tp⟩⟩:=ed hs
  ·simp only[Value.slice.injEq]at he
   obtain⟨rfl,rfl,rfl⟩:=he
   exact⟨by simp,.inl ⟨_,rfl,rfl,hem⟩⟩
  ·simp only[Value.slice.injEq]at he
   obtain⟨rfl,-,rfl⟩:=he
   refine⟨by simp,.inr ⟨b,o,c,pre,cs++bM,?_,hp,Nat.zero_le _,by rw[List.length_append];simpa using hc,by simpa using tp⟩⟩
   unfold sliceAt
   split
   ·rfl
   ·simp[Addr.add]
attribute [local irreducible] J K aD Ends ag az aL bK aZ aQ aV bg bQ
theorem vk(ls:List (List UInt8))(i:Nat):((ls.take i).flatten).length≤ls.flatten.length:=by
 conv=>rhs;rw[← List.take_append_drop i ls,List.flatten_append,List.length_append]
 omega
theorem Mv(n:Nat)(hn:n≤1000000000):aD Tryz.prog 209 [.slice none 0 0,.int .i64 (n:Int)] [] (fun r H=>H=[az 5 1 r 0 []]):=by
 refine aD.enter Tryz.func209 ak rfl Tryz.ntmps209 zr zr ?_
 intro G F R hE
 (repeat(first|refine fk ?_|refine Pf (U:=ao) zr zr zr zr ?_))
 ((refine bj 1 ((.int .i64 (n:Int))) rfl ((congrArg (Value.int .i64) ai)) ?_))
 refine aw zr zr ?_ ?_
 ·intro k6
  have hp:0<n:=by omega
  (repeat(first|refine fk ?_|refine Pf (U:=ao) zr zr zr zr ?_))
  refine bG (U:=ao) (p:=0) (q:=0) zr zr zr zr zr zr zr ai ai (.inr ai) ?_
  refine aB 20 (.slice none 0 0) zr zr ?_
  refine aG (bw 5 1 none _) ?_
  refine iu 0 rfl ?_
  intro lD
  refine go ?_
  refine I1 (U:=ao) (mm:=n) (cs:=[]) 0 zr zr zr zr zr zr zr zr zr zr zr zr lD rfl ai hp ai (by show _*1≤_;omega) (by show _*1≤_;omega) bp ?_
  intro v'
  ((refine aM 0 rfl ?_))
  rintro a' c' rfl
  refine go ?_
  refine bG (U:=ao) (p:=0) (q:=0) zr zr zr zr zr zr zr ai ai (.inr ai) ?_
  refine aB 25 (.slice (sliceAt a' c' 0 1) 0 c') zr zr ?_
  refine aG (JM _) ?_
  refine go ?_
  ((refine ae hE Tryz.func209 rfl _ zr zr ad))
 ·intro hz
  have OE:n=0:=by omega
  subst OE
  refine go ?_
  refine aj (bw 5 1 none _) ?_
  ((refine ae hE Tryz.func209 rfl _ zr zr ad))
theorem Fi(A:HP)(v:Value)(ls:List (List UInt8))(hv:qi A v ls)(hl:ls.flatten.length≤1000000000)(hn:ls.length≤1000000000):aD Tryz.prog 182 [v] [A] (fun r H=>H=[az 5 1 r ls.flatten.length (bV ls.flatten),A]):=by
 obtain⟨cs,dj,lz,⟨a,c,rfl,hc⟩,nL⟩:=hv
 refine aD.enter Tryz.func182 ak rfl Tryz.ntmps182 zr zr ?_
 intro G F R hE
 refine go ?_
 refine bo (fun i:Nat=>i≤ls.length) (fun i=>ls.length-i)
  (fun i=>[(0,.slice a ls.length c),(9,.slice a ls.length c),(10,.int .i64 (ls.length:Int)),(11,.int .i64 (i:Int)),(3,.int .i64 (((ls.take i).flatten.length:Nat):Int))])
  (fun _=>A::F) 0 (Nat.zero_le _) rfl bY ad ?_
 rintro i hi ih
 refine go ?_
 refine aw zr zr ?_ ?_
 ·intro cO
  have kp:i<ls.length:=by omega
  obtain⟨x,hx⟩:∃x,ls[i]?=some x:=⟨ls[i],List.getElem?_eq_getElem kp⟩
  obtain⟨cv,qd,hb⟩:=nL i x hx
  obtain⟨b0,o0,c0,pG⟩:=dj.some (by intro h;rw[h]at qd;simp at qd)
  simp only[Value.slice.injEq]at pG
  obtain⟨rfl,-,rfl⟩:=pG
  refine go ?_
  refine cK (U:=ao) i zr zr zr zr zr zr zr zr kp ?_
  obtain⟨ax,cx,rfl,YU⟩:=hb.2
  have nq:(ls.take (i+1)).flatten.length=(ls.take i).flatten.length+x.length:=by rw[List.take_add_one,hx];simp
  have hle:=vk ls (i+1)
  refine bB (U:=ao) 0 i zr zr zr dj rfl qd zr zr ?_
  refine go ?_
  ((refine bj 3 ((.int .i64 (((ls.take (i+1)).flatten.length:Nat):Int))) rfl ((congrArg (Value.int .i64) ai)) ?_))
  refine aO ih (i+1) rfl ai ai bY ad
 intro eQ
 have fU:i=ls.length:=by omega
 subst fU
 rw[List.take_length]
 ((refine go ?_;(refine ah zr zr zr zr (Mv ls.flatten.length hl) ad ?_ bE)))
 rintro gv _ rfl
 ((refine aM 0 rfl ?_))
 rintro ga gc rfl
 refine go ?_
 refine bo (fun i:Value × Nat=>i.2≤ls.length) (fun i=>ls.length-i.2)
  (fun i=>[(0,.slice a ls.length c),(25,.slice a ls.length c),(26,.int .i64 (ls.length:Int)),(27,.int .i64 (i.2:Int)),(6,i.1)])
  (fun i=>az 5 1 i.1 (ls.take i.2).flatten.length (bV (ls.take i.2).flatten)::A::F) (.slice ga 0 gc,0) (Nat.zero_le _) rfl bY ad ?_
 rintro⟨v,i⟩ hi ih
 simp only at hi
 refine go ?_
 refine aw zr zr ?_ ?_
 ·intro cO
  simp only at cO
  have kp:i<ls.length:=by omega
  obtain⟨x,hx⟩:∃x,ls[i]?=some x:=⟨ls[i],List.getElem?_eq_getElem kp⟩
  obtain⟨cv,qd,hb⟩:=nL i x hx
  obtain⟨b0,o0,c0,pG⟩:=dj.some (by intro h;rw[h]at qd;simp at qd)
  simp only[Value.slice.injEq]at pG
  obtain⟨rfl,-,rfl⟩:=pG
  refine go ?_
  refine cK (U:=ao) i zr zr zr zr zr zr zr zr kp ?_
  obtain⟨ax,cx,rfl,YU⟩:=hb.2
  have nq:(ls.take (i+1)).flatten=(ls.take i).flatten++x:=by rw[List.take_add_one,hx];simp
  have fA:(ls.take (i+1)).flatten.length=(ls.take i).flatten.length+x.length:=by rw[nq,List.length_append]
  have hle:=vk ls (i+1)
  refine bB (U:=ao) 1 i zr zr zr dj rfl qd zr zr ?_
  ((refine aM 0 rfl ?_))
  intro av cv qP
  simp only at qP
  subst qP
  refine go ?_
  refine bh (U:=ao) (mm:=x.length) (news:=bV x) 0 1 zr zr zr zr zr zr zr zr zr zr zr zr hb.1 (by show _=_*1;rw[bt];omega) (cC _) (by simp only;omega) (by show(_+_)*1≤_;simp only;omega) (fun _=>rfl) bp ?_
  intro v1
  simp only
  rw[show bV (ls.take i).flatten++bV x=bV (ls.take (i+1)).flatten from by rw[nq];simp[bV],← fA]
  refine go ?_
  refine aO ih (v1,i+1) rfl (by simp only;omega) (by simp only;omega) bY ad
 intro eQ
 simp only at eQ
 have fU:i=ls.length:=by omega
 subst fU
 rw[List.take_length]
 ((refine db 0 rfl ?_))
 intro av cv qP
 simp only at qP
 subst qP
 refine go ?_
 ((refine ae hE Tryz.func182 rfl _ zr zr ad))
end Go.Proofs.YthjbidjmgbjkiaaGreatDoor
namespace Go.SL
def AO(M:fH)(s:Nat)(v:Value)(n:Nat)(cs:List Value):Prop :=
 cs.length=n*s∧∃a cap,v = .slice a n cap∧n≤cap∧(n=0∨∃b o row,a=Option.some ⟨b,o,none⟩∧(b,row)∈M∧(row.drop o).take cs.length=cs)
theorem AO.mono{M M':fH}{s n:Nat}{v:Value}{cs:List Value}(h:AO M s v n cs)(hs:∀x∈M,x∈M'):AO M' s v n cs:=by
 obtain⟨hl,a,cap,hv,hc,h0|⟨b,o,row,ha,hm,ht⟩⟩:=h
 ·exact⟨hl,a,cap,hv,hc,.inl h0⟩
 ·exact⟨hl,a,cap,hv,hc,.inr ⟨b,o,row,ha,hs _ hm,ht⟩⟩
theorem AO.nil(M:fH)(s:Nat)(a:Option Addr)(cap:Nat):AO M s (.slice a 0 cap) 0 []:=⟨by simp,a,cap,rfl,Nat.zero_le _,.inl rfl⟩
theorem AO.shape{M:fH}{s n:Nat}{v:Value}{cs:List Value}(h:AO M s v n cs):∃a cap,v = .slice a n cap∧n≤cap:=by
 obtain⟨_,a,cap,hv,hc,_⟩:=h;exact⟨a,cap,hv,hc⟩
theorem AO.view{M:fH}{s n:Nat}{v:Value}{cs:List Value}(h:AO M s v n cs)(e:TypeId):Vw (aV e M) v n cs:=by
 obtain⟨hl,a,cap,rfl,hc,h0|⟨b,o,row,ha,hm,ht⟩⟩:=h
 ·have:cs=[]:=List.eq_nil_of_length_eq_zero (by rw[hl,h0,Nat.zero_mul])
  subst h0 this;exact⟨a,cap,rfl,.inl rfl⟩
 ·have h1:Vw (ag b (cl row e)) (.slice a n cap) n cs:=by rw[ha];exact Vw.ag ht
  exact h1.mono fun h hs=>Ao (List.mem_map.2 ⟨(b,row),hm,rfl⟩) hs
theorem Be(e:TypeId)(s n:Nat)(v:Value)(cs:List Value)(M:fH):∀h,star (az e s v n cs) (aV e M) h→∃M',(AO M' s v n cs∧∀x∈M,x∈M')∧Sep [aV e M'] h:=by
 rintro h⟨h1,h2,⟨hl,⟨a,rfl,hn,he⟩|⟨b,o,cap,pre,bM,rfl,hp,hn,hc,tp⟩⟩,hM,hd,hj⟩
 ·have:cs=[]:=List.eq_nil_of_length_eq_zero (by rw[hl,hn,Nat.zero_mul])
  subst hn this
  exact⟨M,⟨AO.nil M s a 0,fun _ h=>h⟩,fE (wk ⟨h1,h2,he,hM,hd,hj⟩)⟩
 ·refine⟨(b,pre++cs++bM)::M,⟨⟨hl,_,cap,rfl,hn,.inr ⟨b,o,pre++cs++bM,rfl,by simp,?_⟩⟩,fun x hx=>by simp[hx]⟩,fE ⟨h1,h2,tp,hM,hd,hj⟩⟩
  subst hp
  rw[List.append_assoc,List.drop_left,List.take_left]
theorem aD.conv{P:Program}{f:FuncId}{args:List Value}{Pre L9:List HP}{Post uk:Value→List HP→Prop}(c:aD P f args Pre Post)(h:aq L9 Pre)(hp:∀v H,Post v H→∃H',uk v H'∧aq H H'):aD P f args L9 uk :=
 ⟨c.1,fun G w F hw=>(c.2 G w F (hw.aX (aq.append F h))).mono fun e w' h'=>let ⟨v,H,he,Nx,hs⟩:=h';let ⟨H',hq,hE⟩:=hp v H Nx;⟨v,H',he,hq,hs.aX (aq.append F hE)⟩⟩
theorem aD.frame{P:Program}{f:FuncId}{args:List Value}{Pre:List HP}{Post:Value→List HP→Prop}(X:List HP)(c:aD P f args Pre Post):aD P f args (Pre++X) (fun v H=>∃H',Post v H'∧H=H'++X) :=
 ⟨c.1,fun G w F hw=>(c.2 G w (X++F) (by rw[List.append_assoc]at hw;exact hw)).mono fun e w' h'=>let ⟨v,H,he,Nx,hs⟩:=h';⟨v,H++X,he,⟨H,Nx,rfl⟩,by rw[List.append_assoc];exact hs⟩⟩
end Go.SL
namespace Go.Proofs.YthjbidjmgbjkiaaGreatDoor
open Go Go.SL
def gy{σ:Type}:List (σ→Nat→σ→Prop)→σ→Nat→σ→Prop
 | [],x,e,y=>e=0∧y=x
 | s::ss,x,e,y=>∃e1 x1,s x e1 x1∧((e1≠0∧e=e1∧y=x1)∨(e1=0∧gy ss x1 e y))
attribute [local irreducible] J K aD Ends ag az aL bK aZ aQ aV
def aC(bd:Nat)(A:Ab):HP:=fun h=>∃D,Rel D A∧gx bd D h
theorem gH{bd:Nat}{D:Dk}{A:Ab}(h:Rel D A)(H:List HP):aq (gx bd D::H) (aC bd A::H):=aq.fold (B:=[_]) fun h' hs=>⟨h',sub.refl h',D,h,ed hs⟩
theorem G1{G:cm}{w:World}{bd:Nat}{A:Ab}{H:List HP}(hs:Sat G w (aC bd A::H)):∃D,Rel D A∧Sat G w (gx bd D::H):=by
 obtain⟨t,o,u,hp,HS,h1,h2,⟨D,hR,hA⟩,hH,hd,he⟩:=hs
 exact⟨D,hR,t,o,u,hp,HS,h1,h2,hA,hH,hd,he⟩
end Go.Proofs.YthjbidjmgbjkiaaGreatDoor
namespace Go.Proofs.YthjbidjmgbjkiaaGreatDoor
open Go Go.SL
theorem il{P:Program}{f:FuncId}{args:List Value}{bd:Nat}{A:Ab}{Pre:List HP}{Post uk:Value→List HP→Prop}(hc:P.funcs[f]?.map mN=some true)(h:∀D,Rel D A→aD P f args (gx bd D::Pre) Post)(hp:∀v H,Post v H→∃H',uk v H'∧aq H H'):aD P f args (aC bd A::Pre) uk :=
  ⟨hc,fun G w F hw=>by
    obtain⟨D,hR,uM⟩:=G1 hw
    exact((h D hR).2 G w F uM).mono fun e w' h'=>let ⟨v,H,he,Nx,hs⟩:=h';let ⟨H',hq,hE⟩:=hp v H Nx;⟨v,H',he,hq,hs.aX (aq.append F hE)⟩⟩
attribute [local irreducible] J K aD Ends ag az aL bK aZ aQ aV
theorem Md(bd:Nat)(A:Ab):aD Tryz.prog 53 [ptr bd] [aC bd A] (fun v H=>v = .bool A.off∧H=[aC bd A]):=by
 refine il ak (Post:=fun v H=>v = .bool A.off∧H=[aC bd A]) (fun D hR=>?_) (fun v H h=>⟨H,h,aq.refl _⟩)
 obtain⟨room,bm,kE,lK,oe,off,maps,fp,files,lB,wl⟩:=D
 have ie:=hR.off
 simp only at ie
 subst ie
 refine aD.enter Tryz.func53 ak rfl Tryz.ntmps53 zr zr ?_
 intro G F R hE
 refine aj (iz _ _ _ _ _ _ _ _ _ _ _ _ _) ?_
 refine go ?_
 refine aj ((aq.pick [0,1,2,3,4,5] rfl).trans (dL _ _ _ _ _ _ _ _ _ _ _ _ _)) ?_
 refine aj (gH hR _) ?_
 ((refine ae hE Tryz.func53 rfl _ rfl ⟨rfl,rfl⟩ ad))
theorem E7(room:Nat)(h1:1≤room)(h2:room≤1073741824):aD Tryz.prog 6 [.int .i64 room] [] (fun v H=>∃bd,v = .tuple #[ptr bd,.int .i64 0]∧H=[aC bd (Ab.new room)]) :=
 (Mf room h1 h2).conv (aq.refl _) (by rintro v H⟨bd,D,hR,rfl,rfl⟩;exact⟨_,⟨bd,rfl,rfl⟩,gH hR _⟩)
theorem sh(bd:Nat)(A:Ab)(name:ByteArray):aD Tryz.prog 119 [ptr bd,.string name] [aC bd A] (fun v H=>H=[aC bd A]∧v = .tuple #[.int .i64 (A.size name).1,.int .i64 (A.size name).2]) :=
 il ak (Post:=fun v H=>∃D,Rel D A∧H=[gx bd D]∧v = .tuple #[.int .i64 (A.size name).1,.int .i64 (A.size name).2]) (fun D hR=>(L5 bd D A hR name).conv (aq.refl _) (by rintro v H⟨rfl,rfl⟩;exact⟨_,⟨D,hR,rfl,rfl⟩,aq.refl _⟩)) (by rintro v H⟨D,hR,rfl,rfl⟩;exact⟨_,⟨rfl,rfl⟩,gH hR _⟩)
theorem As(bd:Nat)(A:Ab)(name:ByteArray)(at_ n:Int):aD Tryz.prog 106 [ptr bd,.string name,.int .i64 at_,.int .i64 n] [aC bd A]
  (fun v H=>∃r,H=[aC bd A,az 5 1 r (A.read name at_ n).1.length (bV (A.read name at_ n).1)]∧v = .tuple #[r,.int .i64 (A.read name at_ n).2]) :=
 il ak (Post:=fun v H=>∃D r,Rel D A∧H=[az 5 1 r (A.read name at_ n).1.length (bV (A.read name at_ n).1),gx bd D]∧v = .tuple #[r,.int .i64 (A.read name at_ n).2])
  (fun D hR=>(L8 bd D A hR name at_ n).conv (aq.refl _) (by rintro v H⟨r,rfl,rfl⟩;exact⟨_,⟨D,r,hR,rfl,rfl⟩,aq.refl _⟩)) (by rintro v H⟨D,r,hR,rfl,rfl⟩;exact⟨_,⟨r,rfl,rfl⟩,(aq.pick [1,0] rfl).trans (gH hR _)⟩)
theorem tJ(bd:Nat)(A:Ab)(name:ByteArray)(cE:A.aH.length≤1000000000):aD Tryz.prog 79 [ptr bd,.string name] [aC bd A]
  (fun v H=>∃f,f ∉ A.fs.map (·.1)∧H=[aC bd (A.create (isName name) name f).2]∧v = .int .i64 (A.create (isName name) name f).1) :=
 il ak (fun D hR=>Fh bd D A hR name cE) (by rintro v H⟨f,D',hf,hR,rfl,rfl⟩;exact⟨_,⟨f,hf,rfl,rfl⟩,gH hR _⟩)
theorem tH(bd:Nat)(A:Ab)(name:ByteArray)(cE:A.aH.length≤1000000000):aD Tryz.prog 102 [ptr bd,.string name] [aC bd A]
  (fun v H=>H=[aC bd (A.remove (isName name) name).2]∧v = .int .i64 (A.remove (isName name) name).1) :=
 il ak (fun D hR=>E3 bd D A hR name cE) (by rintro v H⟨D',hR,rfl,rfl⟩;exact⟨_,⟨rfl,rfl⟩,gH hR _⟩)
theorem sf(bd:Nat)(A:Ab)(name:ByteArray)(at_:Int)(X:HP)(bv:Value)(b:List UInt8)(hv:Vw X bv b.length (bV b))(eA:A.writes.length≤1000000000)(jV:b.length≤1000000000)(MP : -9223372036854775808≤at_∧at_≤9223372036854775807) :
  aD Tryz.prog 92 [ptr bd,.string name,.int .i64 at_,bv] [aC bd A,X]
   (fun v H=>H=[aC bd (A.write (fL name at_ b) name at_.toNat b).2,X]∧v = .int .i64 (A.write (fL name at_ b) name at_.toNat b).1) :=
 il ak (fun D hR=>IF bd D A hR name at_ X bv b hv eA jV MP) (by rintro v H⟨D',hR,rfl,rfl⟩;exact⟨_,⟨rfl,rfl⟩,gH hR _⟩)
theorem sg(bd:Nat)(A:Ab)(name:ByteArray)(eA:A.writes.length≤1000000000):aD Tryz.prog 94 [ptr bd,.string name] [aC bd A]
  (fun v H=>H=[aC bd (A.sync (isName name) name).2]∧v = .int .i64 (A.sync (isName name) name).1) :=
 il ak (fun D hR=>L4 bd D A hR name eA) (by rintro v H⟨D',hR,rfl,rfl⟩;exact⟨_,⟨rfl,rfl⟩,gH hR _⟩)
theorem nB(bd:Nat)(A:Ab):aD Tryz.prog 63 [ptr bd] [aC bd A]
  (fun v H=>H=[aC bd A.cp.2]∧v = .int .i64 A.cp.1) :=
 il ak (fun D hR=>xR bd D A hR) (by rintro v H⟨D',hR,rfl,rfl⟩;exact⟨_,⟨rfl,rfl⟩,gH hR _⟩)
theorem za(bd:Nat)(A:Ab)(old name:ByteArray)(cE:A.aH.length≤1000000000):aD Tryz.prog 159 [ptr bd,.string old,.string name] [aC bd A]
  (fun v H=>H=[aC bd (A.rename ([old,name].all isName) old name).2]∧v = .int .i64 (A.rename ([old,name].all isName) old name).1) :=
 il ak (fun D hR=>E2 bd D A hR old name cE) (by rintro v H⟨D',hR,rfl,rfl⟩;exact⟨_,⟨rfl,rfl⟩,gH hR _⟩)
end Go.Proofs.YthjbidjmgbjkiaaGreatDoor
namespace Go.Proofs.YthjbidjmgbjkiaaGreatDoor
open Go Go.SL
def iW(A B:Ab):Prop:=B.aH.length≤A.aH.length+1∧B.writes.length≤A.writes.length+1
theorem pJ(A:Ab)(n:ByteArray)(ok:Bool):(A.find n ok).2.2.aH.length=A.aH.length∧(A.find n ok).2.2.writes.length=A.writes.length:=by
 have h:=mK A n ok
 rw[h.2.2.1,h.2.2.2.1];exact⟨rfl,rfl⟩
theorem yO(A:Ab)(ok:Bool):(A.meet ok).2.aH.length=A.aH.length∧(A.meet ok).2.writes.length=A.writes.length:=by
 unfold Ab.meet
 split
 ·exact⟨rfl,rfl⟩
 split
 ·exact⟨rfl,rfl⟩
 split
 ·exact⟨rfl,rfl⟩
 ·split
  ·exact⟨rfl,rfl⟩
  split <;> exact⟨rfl,rfl⟩
theorem oG(A:Ab)(ok:Bool)(n:ByteArray):iW A (A.remove ok n).2:=by
 have h:=pJ A n ok
 unfold Ab.remove
 split
 ·rename_i f A1 he
  rw[he]at h
  simp only at h
  constructor <;> simp[Ab.nH] <;> omega
 ·rename_i e o A1 _ he
  rw[he]at h
  simp only at h
  constructor <;> simp only <;> omega
theorem oF(A:Ab)(ok:Bool)(o n:ByteArray):iW A (A.rename ok o n).2:=by
 have h:=pJ A o ok
 unfold Ab.rename
 split
 ·rename_i f A1 he
  rw[he]at h
  simp only at h
  constructor <;> simp[Ab.nH] <;> omega
 ·rename_i e o A1 _ he
  rw[he]at h
  simp only at h
  constructor <;> simp only <;> omega
theorem oH(A:Ab)(ok:Bool)(n:ByteArray)(f:Nat):iW A (A.create ok n f).2:=by
 have h:=yO A ok
 unfold Ab.create
 split
 ·split
  ·constructor <;> simp only <;> omega
  split
  ·constructor <;> simp only <;> omega
  ·constructor <;> simp[Ab.nH] <;> omega
 ·constructor <;> simp only <;> omega
theorem jz(A:Ab)(ok:Bool)(n:ByteArray)(at_:Nat)(b:List UInt8):iW A (A.write ok n at_ b).2:=by
 have h:=pJ A n ok
 unfold Ab.write
 split
 ·split
  ·split
   ·constructor <;> simp only <;> omega
   ·constructor <;> simp <;> omega
  ·constructor <;> simp only <;> omega
 ·constructor <;> simp only <;> omega
theorem jA(A:Ab)(ok:Bool)(n:ByteArray):iW A (A.sync ok n).2:=by
 have h:=pJ A n ok
 unfold Ab.sync
 split
 ·split
  ·constructor
   ·simp only;omega
   ·simp only
    refine Nat.le_trans (List.length_filter_le _ _) ?_
    omega
  ·constructor <;> simp only <;> omega
 ·constructor <;> simp only <;> omega
theorem iR(A:Ab):iW A A.cp.2:=by
 have h:=yO A true
 unfold Ab.cp
 split
 ·constructor <;> simp only[List.length_singleton] <;> omega
 ·constructor <;> simp only <;> omega
attribute [local irreducible] J K aD Ends ag az aL bK aZ aQ aV bg bQ
theorem Gq{σ:Type}(I:σ→HP)(V:HP)(v:Value)(j0:List Value)(hv:Vw V v j0.length j0)(hn:j0.length≤1000000000)(ss:List (σ→Nat→σ→Prop))(hlen:ss.length=j0.length)(Q:Nat→σ→Prop)(cE:∀(i:Nat) (fv:Value) (s:σ→Nat→σ→Prop),j0[i]?=some fv→ss[i]?=some s→∃g fi cap,fv = .func (.func g) fi cap∧∀x,Q i x→aD Tryz.prog g (fi.toList++cap.toList) [I x] (fun r H=>∃(e:Nat) (x':σ),r = .int .i64 (e:Int)∧H=[I x']∧s x e x'∧(e=0→Q (i+1) x')))(x0:σ)(hQ:Q 0 x0) :
  aD Tryz.prog 137 [v] [V,I x0] (fun r H=>∃(e:Nat) (x':σ),r = .int .i64 (e:Int)∧H=[V,I x']∧gy ss x0 e x'):=by
 obtain⟨a,c,rfl⟩:=hv.shape
 refine aD.enter Tryz.func137 ak rfl Tryz.ntmps137 zr zr ?_
 intro G F R hE
 refine go ?_
 refine bo (fun y:Nat × σ=>y.1≤j0.length∧Q y.1 y.2∧∀e x',gy (ss.drop y.1) y.2 e x'→gy ss x0 e x') (fun y=>j0.length-y.1)
  (fun y=>[(0,.slice a j0.length c),(6,.slice a j0.length c),(7,.int .i64 (j0.length:Int)),(8,.int .i64 (y.1:Int))])
  (fun y=>V::I y.2::F) (0,x0) ⟨Nat.zero_le _,hQ,fun _ _ h=>h⟩ rfl bY ad ?_
 rintro⟨i,x⟩⟨hi,hq,hr⟩ ih
 simp only at hi hq hr
 refine go ?_
 refine aw zr zr ?_ ?_
 ·intro cO
  simp only at cO
  have kp:i<j0.length:=by omega
  obtain⟨fv,lH⟩:∃fv,j0[i]?=some fv:=⟨j0[i],List.getElem?_eq_getElem kp⟩
  obtain⟨s,hs⟩:∃s,ss[i]?=some s:=⟨ss[i],List.getElem?_eq_getElem ai⟩
  obtain⟨g,fi,cap,rfl,hc⟩:=cE i fv s lH hs
  have k8:ss.drop i=s::ss.drop (i+1):=by
   rw[List.drop_eq_getElem_cons ai]
   congr 1
   have:=List.getElem?_eq_some_iff.1 hs
   exact this.2
  obtain⟨b0,o0,c0,pG⟩:=hv.some (by intro h;rw[h]at kp;simp at kp)
  simp only[Value.slice.injEq]at pG
  obtain⟨rfl,-,rfl⟩:=pG
  refine go ?_
  refine cK (U:=ao) i zr zr zr zr zr zr zr zr kp ?_
  refine bB (U:=ao) 0 i zr zr zr hv rfl lH zr zr ?_
  refine go ?_
  refine sD zr zr zr (by simp) (hc x hq) ad ?_ bE
  rintro _ _⟨e,x',rfl,rfl,OJ,MI⟩
  refine go ?_
  refine aw zr zr ?_ ?_
  ·intro ct
   have he:e≠0:=by omega
   refine go ?_
   ((refine ae hE Tryz.func137 rfl _ rfl ⟨e,x',rfl,rfl,hr e x' (by rw[k8];exact⟨e,x',OJ,.inl ⟨he,rfl,rfl⟩⟩)⟩ ad))
  ·intro heq
   have he:e=0:=by omega
   refine go ?_
   refine aO ih (i+1,x') rfl (⟨by simp only;omega,MI he,fun e2 x2 h2=>hr e2 x2 (by rw[k8];exact⟨e,x',OJ,.inr ⟨he,h2⟩⟩)⟩) (by simp only;omega) bY ad
 ·intro eQ
  simp only at eQ
  have fU:i=j0.length:=by omega
  subst fU
  refine go ?_
  ((refine ae hE Tryz.func137 rfl _ rfl ⟨0,x,rfl,rfl,hr 0 x (by rw[List.drop_eq_nil_of_le ai];exact⟨rfl,rfl⟩)⟩ ad))
attribute [local irreducible] aC
theorem Kk(bd jb xj xf xw xb:Nat)(name fresh:ByteArray)(wa ba:Option Addr)(wc bl bc:Nat)(whole:List UInt8)(br:Bool)(A:Ab)(n s c:Int)(cE:A.aH.length≤1000000000) :
  aD Tryz.prog 183 [ptr xj,ptr xf] ([aC bd A,ag jb (cl [ptr bd,.string name,.int .i64 n,.int .i64 s,.int .i64 c,.bool br] 167),ag xj (cl [ptr jb] 75),ag xf (cl [.string fresh] 9),ag xw (cl [.slice wa whole.length wc] 39),ag xb (cl [.slice ba bl bc] 39),az 5 1 (.slice wa whole.length wc) whole.length (bV whole)]) (fun r H=>∃(e:Nat) (A1:Ab),e=(A.remove (isName fresh) fresh).1∧A1=(A.remove (isName fresh) fresh).2∧r = .int .i64 (e:Int)∧H=[aC bd A1,ag jb (cl [ptr bd,.string name,.int .i64 n,.int .i64 s,.int .i64 c,.bool br] 167),ag xj (cl [ptr jb] 75),ag xf (cl [.string fresh] 9),ag xw (cl [.slice wa whole.length wc] 39),ag xb (cl [.slice ba bl bc] 39),az 5 1 (.slice wa whole.length wc) whole.length (bV whole)]):=by
 refine aD.enter Tryz.func183 ak rfl Tryz.ntmps183 zr zr ?_
 intro G F R hE
 refine go ?_
 refine aF (fun w=>Sat G w ([ag jb (cl [ptr bd,.string name,.int .i64 n,.int .i64 s,.int .i64 c,.bool br] 167),ag xj (cl [ptr jb] 75),ag xf (cl [.string fresh] 9),ag xw (cl [.slice wa whole.length wc] 39),az 5 1 (.slice wa whole.length wc) whole.length (bV whole)])) (.st 0 (.st 1 (.st 2 (.st 3 (.st 4 (.act 5 (.st 6 .nil))))))) rfl ak ak ak (fun w hw=>hw.aX ad) ?_
 refine go ?_
 ((refine ah rfl rfl rfl rfl (tH bd A fresh cE) ad ?_ (fun _ _ w hp hw=>by obtain⟨rfl,rfl⟩:=hp;exact hw.aX ad)))
 rintro _ _⟨rfl,rfl⟩
 refine go ?_
 ((refine ae hE Tryz.func183 rfl _ rfl ⟨_,_,rfl,rfl,rfl,rfl⟩ ad))
theorem Ki(bd jb xj xf xw xb:Nat)(name fresh:ByteArray)(wa ba:Option Addr)(wc bl bc:Nat)(whole:List UInt8)(br:Bool)(A:Ab)(n s c:Int)(cE:A.aH.length≤1000000000) :
  aD Tryz.prog 184 [ptr xj,ptr xf] ([aC bd A,ag jb (cl [ptr bd,.string name,.int .i64 n,.int .i64 s,.int .i64 c,.bool br] 167),ag xj (cl [ptr jb] 75),ag xf (cl [.string fresh] 9),ag xw (cl [.slice wa whole.length wc] 39),ag xb (cl [.slice ba bl bc] 39),az 5 1 (.slice wa whole.length wc) whole.length (bV whole)]) (fun r H=>∃(e:Nat) (A1:Ab),(∃f,f ∉ A.fs.map (·.1)∧e=(A.create (isName fresh) fresh f).1∧A1=(A.create (isName fresh) fresh f).2)∧r = .int .i64 (e:Int)∧H=[aC bd A1,ag jb (cl [ptr bd,.string name,.int .i64 n,.int .i64 s,.int .i64 c,.bool br] 167),ag xj (cl [ptr jb] 75),ag xf (cl [.string fresh] 9),ag xw (cl [.slice wa whole.length wc] 39),ag xb (cl [.slice ba bl bc] 39),az 5 1 (.slice wa whole.length wc) whole.length (bV whole)]):=by
 refine aD.enter Tryz.func184 ak rfl Tryz.ntmps184 zr zr ?_
 intro G F R hE
 refine go ?_
 refine aF (fun w=>Sat G w ([ag jb (cl [ptr bd,.string name,.int .i64 n,.int .i64 s,.int .i64 c,.bool br] 167),ag xj (cl [ptr jb] 75),ag xf (cl [.string fresh] 9),ag xw (cl [.slice wa whole.length wc] 39),az 5 1 (.slice wa whole.length wc) whole.length (bV whole)])) (.st 0 (.st 1 (.st 2 (.st 3 (.st 4 (.act 5 (.st 6 .nil))))))) rfl ak ak ak (fun w hw=>hw.aX ad) ?_
 refine go ?_
 ((refine ah rfl rfl rfl rfl (tJ bd A fresh cE) ad ?_ (fun _ _ w hp hw=>by obtain⟨_,_,rfl,_⟩:=hp;exact hw.aX ad)))
 rintro _ _⟨f,hf,rfl,rfl⟩
 refine go ?_
 ((refine ae hE Tryz.func184 rfl _ rfl ⟨_,_,⟨f,hf,rfl,rfl⟩,rfl,rfl⟩ ad))
theorem Kg(bd jb xj xf xw xb:Nat)(name fresh:ByteArray)(wa ba:Option Addr)(wc bl bc:Nat)(whole:List UInt8)(br:Bool)(A:Ab)(n s c:Int)(eA:A.writes.length≤1000000000)(jV:whole.length≤1000000000) :
  aD Tryz.prog 185 [ptr xj,ptr xf,ptr xw] ([aC bd A,ag jb (cl [ptr bd,.string name,.int .i64 n,.int .i64 s,.int .i64 c,.bool br] 167),ag xj (cl [ptr jb] 75),ag xf (cl [.string fresh] 9),ag xw (cl [.slice wa whole.length wc] 39),ag xb (cl [.slice ba bl bc] 39),az 5 1 (.slice wa whole.length wc) whole.length (bV whole)]) (fun r H=>∃(e:Nat) (A1:Ab),e=(A.write (fL fresh 0 whole) fresh 0 whole).1∧A1=(A.write (fL fresh 0 whole) fresh 0 whole).2∧r = .int .i64 (e:Int)∧H=[aC bd A1,ag jb (cl [ptr bd,.string name,.int .i64 n,.int .i64 s,.int .i64 c,.bool br] 167),ag xj (cl [ptr jb] 75),ag xf (cl [.string fresh] 9),ag xw (cl [.slice wa whole.length wc] 39),ag xb (cl [.slice ba bl bc] 39),az 5 1 (.slice wa whole.length wc) whole.length (bV whole)]):=by
 refine aD.enter Tryz.func185 ak rfl Tryz.ntmps185 zr zr ?_
 intro G F R hE
 refine go ?_
 refine aF (fun w=>Sat G w ([ag jb (cl [ptr bd,.string name,.int .i64 n,.int .i64 s,.int .i64 c,.bool br] 167),ag xj (cl [ptr jb] 75),ag xf (cl [.string fresh] 9),ag xw (cl [.slice wa whole.length wc] 39),az 5 1 (.slice wa whole.length wc) whole.length (bV whole)])) (.st 0 (.st 1 (.st 2 (.st 3 (.st 4 (.st 5 (.act 6 (.st 7 .nil)))))))) rfl ak ak ak (fun w hw=>hw.aX ad) ?_
 refine go ?_
 refine iu 6 rfl ?_
 intro dj
 refine go ?_
 refine aJ ?_
 refine eu (U:=ao) 3 zr zr zr zr zr zr ?_
 refine go ?_
 ((refine ah rfl rfl rfl rfl (sf bd A fresh 0 _ _ whole dj eA jV ai) ad ?_ (fun _ _ w hp hw=>by obtain⟨rfl,rfl⟩:=hp;exact hw.aX ad)))
 rintro _ _⟨rfl,rfl⟩
 refine go ?_
 ((refine ae hE Tryz.func185 rfl _ rfl ⟨_,_,rfl,rfl,rfl,rfl⟩ ad))
theorem Ke(bd jb xj xf xw xb:Nat)(name fresh:ByteArray)(wa ba:Option Addr)(wc bl bc:Nat)(whole:List UInt8)(br:Bool)(A:Ab)(n s c:Int)(eA:A.writes.length≤1000000000) :
  aD Tryz.prog 186 [ptr xj,ptr xf] ([aC bd A,ag jb (cl [ptr bd,.string name,.int .i64 n,.int .i64 s,.int .i64 c,.bool br] 167),ag xj (cl [ptr jb] 75),ag xf (cl [.string fresh] 9),ag xw (cl [.slice wa whole.length wc] 39),ag xb (cl [.slice ba bl bc] 39),az 5 1 (.slice wa whole.length wc) whole.length (bV whole)]) (fun r H=>∃(e:Nat) (A1:Ab),e=(A.sync (isName fresh) fresh).1∧A1=(A.sync (isName fresh) fresh).2∧r = .int .i64 (e:Int)∧H=[aC bd A1,ag jb (cl [ptr bd,.string name,.int .i64 n,.int .i64 s,.int .i64 c,.bool br] 167),ag xj (cl [ptr jb] 75),ag xf (cl [.string fresh] 9),ag xw (cl [.slice wa whole.length wc] 39),ag xb (cl [.slice ba bl bc] 39),az 5 1 (.slice wa whole.length wc) whole.length (bV whole)]):=by
 refine aD.enter Tryz.func186 ak rfl Tryz.ntmps186 zr zr ?_
 intro G F R hE
 refine go ?_
 refine aF (fun w=>Sat G w ([ag jb (cl [ptr bd,.string name,.int .i64 n,.int .i64 s,.int .i64 c,.bool br] 167),ag xj (cl [ptr jb] 75),ag xf (cl [.string fresh] 9),ag xw (cl [.slice wa whole.length wc] 39),az 5 1 (.slice wa whole.length wc) whole.length (bV whole)])) (.st 0 (.st 1 (.st 2 (.st 3 (.st 4 (.act 5 (.st 6 .nil))))))) rfl ak ak ak (fun w hw=>hw.aX ad) ?_
 refine go ?_
 ((refine ah rfl rfl rfl rfl (sg bd A fresh eA) ad ?_ (fun _ _ w hp hw=>by obtain⟨rfl,rfl⟩:=hp;exact hw.aX ad)))
 rintro _ _⟨rfl,rfl⟩
 refine go ?_
 ((refine ae hE Tryz.func186 rfl _ rfl ⟨_,_,rfl,rfl,rfl,rfl⟩ ad))
theorem Kc(bd jb xj xf xw xb:Nat)(name fresh:ByteArray)(wa ba:Option Addr)(wc bl bc:Nat)(whole:List UInt8)(br:Bool)(A:Ab)(n s c:Int)(cE:A.aH.length≤1000000000) :
  aD Tryz.prog 187 [ptr xj,ptr xf] ([aC bd A,ag jb (cl [ptr bd,.string name,.int .i64 n,.int .i64 s,.int .i64 c,.bool br] 167),ag xj (cl [ptr jb] 75),ag xf (cl [.string fresh] 9),ag xw (cl [.slice wa whole.length wc] 39),ag xb (cl [.slice ba bl bc] 39),az 5 1 (.slice wa whole.length wc) whole.length (bV whole)]) (fun r H=>∃(e:Nat) (A1:Ab),e=(A.rename ([fresh,name].all isName) fresh name).1∧A1=(A.rename ([fresh,name].all isName) fresh name).2∧r = .int .i64 (e:Int)∧H=[aC bd A1,ag jb (cl [ptr bd,.string name,.int .i64 n,.int .i64 s,.int .i64 c,.bool br] 167),ag xj (cl [ptr jb] 75),ag xf (cl [.string fresh] 9),ag xw (cl [.slice wa whole.length wc] 39),ag xb (cl [.slice ba bl bc] 39),az 5 1 (.slice wa whole.length wc) whole.length (bV whole)]):=by
 refine aD.enter Tryz.func187 ak rfl Tryz.ntmps187 zr zr ?_
 intro G F R hE
 refine go ?_
 refine aF (fun w=>Sat G w ([ag jb (cl [ptr bd,.string name,.int .i64 n,.int .i64 s,.int .i64 c,.bool br] 167),ag xj (cl [ptr jb] 75),ag xf (cl [.string fresh] 9),ag xw (cl [.slice wa whole.length wc] 39),az 5 1 (.slice wa whole.length wc) whole.length (bV whole)])) (.st 0 (.st 1 (.st 2 (.st 3 (.st 4 (.st 5 (.st 6 (.st 7 (.st 8 (.act 9 (.st 10 .nil))))))))))) rfl ak ak ak (fun w hw=>hw.aX ad) ?_
 refine go ?_
 ((refine ah rfl rfl rfl rfl (za bd A fresh name cE) ad ?_ (fun _ _ w hp hw=>by obtain⟨rfl,rfl⟩:=hp;exact hw.aX ad)))
 rintro _ _⟨rfl,rfl⟩
 refine go ?_
 ((refine ae hE Tryz.func187 rfl _ rfl ⟨_,_,rfl,rfl,rfl,rfl⟩ ad))
theorem Ka(bd jb xj xf xw xb:Nat)(name fresh:ByteArray)(wa ba:Option Addr)(wc bl bc:Nat)(whole:List UInt8)(br:Bool)(A:Ab)(n s c:Int) :
  aD Tryz.prog 188 [ptr xb,ptr xj] ([aC bd A,ag jb (cl [ptr bd,.string name,.int .i64 n,.int .i64 s,.int .i64 c,.bool br] 167),ag xj (cl [ptr jb] 75),ag xf (cl [.string fresh] 9),ag xw (cl [.slice wa whole.length wc] 39),ag xb (cl [.slice ba bl bc] 39),az 5 1 (.slice wa whole.length wc) whole.length (bV whole)]) (fun r H=>r = .int .i64 0∧H=[aC bd A,ag jb (cl [ptr bd,.string name,.int .i64 1,.int .i64 (bl:Int),.int .i64 (bl:Int),.bool br] 167),ag xj (cl [ptr jb] 75),ag xf (cl [.string fresh] 9),ag xw (cl [.slice wa whole.length wc] 39),ag xb (cl [.slice ba bl bc] 39),az 5 1 (.slice wa whole.length wc) whole.length (bV whole)]):=by
 refine aD.enter Tryz.func188 ak rfl Tryz.ntmps188 zr zr ?_
 intro G F R hE
 refine go ?_
 refine aF (fun w=>Sat G w ([ag xj (cl [ptr jb] 75),ag xb (cl [.slice ba bl bc] 39)])) (.st 0 (.st 1 (.st 2 (.st 3 (.st 4 (.st 5 (.st 6 (.st 7 (.st 8 (.act 9 (.st 10 (.st 11 (.act 12 (.st 13 (.st 14 (.act 15 .nil)))))))))))))))) rfl ak ak ak (fun w hw=>hw.aX ad) ?_
 refine go ?_
 refine aS ?_
 refine bI (U:=ao) 1 (fun w hw=>by exact hw.aX ad) zr zr zr zr zr zr zr zr zr ?_
 refine go ?_
 refine aS ?_
 refine bI (U:=ao) 1 (fun w hw=>by exact hw.aX ad) zr zr zr zr zr zr zr zr zr ?_
 refine go ?_
 ((refine ae hE Tryz.func188 rfl _ rfl ⟨rfl,rfl⟩ ad))
end Go.Proofs.YthjbidjmgbjkiaaGreatDoor
namespace Go.Proofs.YthjbidjmgbjkiaaGreatDoor
open Go Go.SL
abbrev PS:=Ab × Int × Int × Int
def OB(g:Ab→Nat→Ab→Prop)(x:PS)(e:Nat)(y:PS):Prop:=g x.1 e y.1∧y.2=x.2
def zy(fresh:ByteArray):=OB fun A e B=>e=(A.remove (isName fresh) fresh).1∧B=(A.remove (isName fresh) fresh).2
def zz(fresh:ByteArray):=OB fun A e B=>∃f,f ∉ A.fs.map (·.1)∧e=(A.create (isName fresh) fresh f).1∧B=(A.create (isName fresh) fresh f).2
def DR(fresh:ByteArray)(whole:List UInt8):=OB fun A e B=>e=(A.write (fL fresh 0 whole) fresh 0 whole).1∧B=(A.write (fL fresh 0 whole) fresh 0 whole).2
def JV(fresh:ByteArray):=OB fun A e B=>e=(A.sync (isName fresh) fresh).1∧B=(A.sync (isName fresh) fresh).2
def zx(fresh name:ByteArray):=OB fun A e B=>e=(A.rename ([fresh,name].all isName) fresh name).1∧B=(A.rename ([fresh,name].all isName) fresh name).2
def DS:=OB fun A e B=>e=A.cp.1∧B=A.cp.2
def Sp(bl:Nat)(x:PS)(e:Nat)(y:PS):Prop:=e=0∧y=(x.1,1,(bl:Int),(bl:Int))
def bN(name:ByteArray):ByteArray:=name++⟨#[46,110,101,119]⟩
def cu(ls:List (List UInt8)):List UInt8:=List.replicate 16 0++cJ 1 (ls.flatMap cy).length++ls.flatMap cy
def gf(name:ByteArray)(ls:List (List UInt8))(A:Ab):List (PS→Nat→PS→Prop) :=
 (if(A.size (bN name)).2=0 then [zy (bN name)]else []) ++
 [zz (bN name),DR (bN name) (cu ls),JV (bN name),zx (bN name) name,DS,Sp (ls.flatMap cy).length]
def E5(name:ByteArray)(ls:List (List UInt8))(x:PS)(e:Nat)(y:PS):Prop:=gy (gf name ls x.1) x e y
attribute [local irreducible] J K aD Ends ag az aL bK aZ aQ aV bg bQ aC
theorem _root_.Go.SL.aq.kP(l:List HP):aq [Sep l] l:=by have:=aq.cg l [];rwa[List.append_nil]at this
theorem _root_.Go.SL.aq.kX(l:List HP):aq l [Sep l]:=by have:=aq.bL l [];rwa[List.append_nil]at this
def PI(bd jb xj xf xw xb:Nat)(name fresh:ByteArray)(wa ba:Option Addr)(wc bl bc:Nat)(whole:List UInt8)(br:Bool)(x:PS):HP:=Sep [aC bd x.1,ag jb (cl [ptr bd,.string name,.int .i64 x.2.1,.int .i64 x.2.2.1,.int .i64 x.2.2.2,.bool br] 167),ag xj (cl [ptr jb] 75),ag xf (cl [.string fresh] 9),ag xw (cl [.slice wa whole.length wc] 39),ag xb (cl [.slice ba bl bc] 39),az 5 1 (.slice wa whole.length wc) whole.length (bV whole)]
def PQ(i:Nat)(x:PS):Prop:=x.1.aH.length≤900000000+i∧x.1.writes.length≤900000000+i
theorem PQ.next{i:Nat}{x:PS}(h:PQ i x){B:Ab}(g:iW x.1 B):PQ (i+1) (B,x.2):=by
 obtain⟨h1,h2⟩:=h
 obtain⟨g1,g2⟩:=g
 exact⟨by simp only;omega,by simp only;omega⟩
end Go.Proofs.YthjbidjmgbjkiaaGreatDoor
namespace Go.Proofs.YthjbidjmgbjkiaaGreatDoor
open Go Go.SL
theorem Is{P:Program}{f:FuncId}{args:List Value}{Pre:List HP}{Post:Value→List HP→Prop}(X:List HP)(c:aD P f args Pre Post):aD P f args (Pre++X) (fun v H=>∃H',Post v H'∧H=H'++X) :=
 ⟨c.1,fun G w F hw=>(c.2 G w (X++F) (by rw[List.append_assoc]at hw;exact hw)).mono fun e w' h'=>let ⟨v,H,he,Nx,hs⟩:=h';⟨v,H++X,he,⟨H,Nx,rfl⟩,by rw[List.append_assoc];exact hs⟩⟩
attribute [local irreducible] J K aD Ends ag az aL bK aZ aQ aV bg bQ aC
theorem Ss(bd jb xj xf xw xb:Nat)(name fresh:ByteArray)(wa ba:Option Addr)(wc bl bc:Nat)(whole:List UInt8)(br:Bool)(i:Nat)(hi:i≤10)(x:PS)(hq:PQ i x) :
  aD Tryz.prog 183 [ptr xj,ptr xf] [PI bd jb xj xf xw xb name fresh wa ba wc bl bc whole br x] (fun r H=>∃(e:Nat) (x':PS),r = .int .i64 (e:Int)∧H=[PI bd jb xj xf xw xb name fresh wa ba wc bl bc whole br x']∧zy fresh x e x'∧(e=0→PQ (i+1) x')) :=
 (Kk bd jb xj xf xw xb name fresh wa ba wc bl bc whole br x.1 x.2.1 x.2.2.1 x.2.2.2 (by have:=hq.1;omega)).conv (aq.kP _) (by
  rintro v H⟨e,A1,he,rO,rfl,rfl⟩
  exact⟨_,⟨_,(A1,x.2),rfl,rfl,⟨⟨he,rO⟩,rfl⟩,fun _=>hq.next (rO ▸ oG _ _ _)⟩,aq.kX _⟩)
theorem Kj(bd jb xj xf xw xb:Nat)(name fresh:ByteArray)(wa ba:Option Addr)(wc bl bc:Nat)(whole:List UInt8)(br:Bool)(i:Nat)(hi:i≤10)(x:PS)(hq:PQ i x) :
  aD Tryz.prog 184 [ptr xj,ptr xf] [PI bd jb xj xf xw xb name fresh wa ba wc bl bc whole br x] (fun r H=>∃(e:Nat) (x':PS),r = .int .i64 (e:Int)∧H=[PI bd jb xj xf xw xb name fresh wa ba wc bl bc whole br x']∧zz fresh x e x'∧(e=0→PQ (i+1) x')) :=
 (Ki bd jb xj xf xw xb name fresh wa ba wc bl bc whole br x.1 x.2.1 x.2.2.1 x.2.2.2 (by have:=hq.1;omega)).conv (aq.kP _) (by
  rintro v H⟨e,A1,⟨f,hf,he,rO⟩,rfl,rfl⟩
  exact⟨_,⟨_,(A1,x.2),rfl,rfl,⟨⟨f,hf,he,rO⟩,rfl⟩,fun _=>hq.next (rO ▸ oH _ _ _ _)⟩,aq.kX _⟩)
theorem Kh(bd jb xj xf xw xb:Nat)(name fresh:ByteArray)(wa ba:Option Addr)(wc bl bc:Nat)(whole:List UInt8)(br:Bool)(i:Nat)(hi:i≤10)(jV:whole.length≤1000000000)(x:PS)(hq:PQ i x) :
  aD Tryz.prog 185 [ptr xj,ptr xf,ptr xw] [PI bd jb xj xf xw xb name fresh wa ba wc bl bc whole br x] (fun r H=>∃(e:Nat) (x':PS),r = .int .i64 (e:Int)∧H=[PI bd jb xj xf xw xb name fresh wa ba wc bl bc whole br x']∧DR fresh whole x e x'∧(e=0→PQ (i+1) x')) :=
 (Kg bd jb xj xf xw xb name fresh wa ba wc bl bc whole br x.1 x.2.1 x.2.2.1 x.2.2.2 (by have:=hq.2;omega) jV).conv (aq.kP _) (by
  rintro v H⟨e,A1,he,rO,rfl,rfl⟩
  exact⟨_,⟨_,(A1,x.2),rfl,rfl,⟨⟨he,rO⟩,rfl⟩,fun _=>hq.next (rO ▸ jz _ _ _ _ _)⟩,aq.kX _⟩)
theorem Kf(bd jb xj xf xw xb:Nat)(name fresh:ByteArray)(wa ba:Option Addr)(wc bl bc:Nat)(whole:List UInt8)(br:Bool)(i:Nat)(hi:i≤10)(x:PS)(hq:PQ i x) :
  aD Tryz.prog 186 [ptr xj,ptr xf] [PI bd jb xj xf xw xb name fresh wa ba wc bl bc whole br x] (fun r H=>∃(e:Nat) (x':PS),r = .int .i64 (e:Int)∧H=[PI bd jb xj xf xw xb name fresh wa ba wc bl bc whole br x']∧JV fresh x e x'∧(e=0→PQ (i+1) x')) :=
 (Ke bd jb xj xf xw xb name fresh wa ba wc bl bc whole br x.1 x.2.1 x.2.2.1 x.2.2.2 (by have:=hq.2;omega)).conv (aq.kP _) (by
  rintro v H⟨e,A1,he,rO,rfl,rfl⟩
  exact⟨_,⟨_,(A1,x.2),rfl,rfl,⟨⟨he,rO⟩,rfl⟩,fun _=>hq.next (rO ▸ jA _ _ _)⟩,aq.kX _⟩)
theorem Kd(bd jb xj xf xw xb:Nat)(name fresh:ByteArray)(wa ba:Option Addr)(wc bl bc:Nat)(whole:List UInt8)(br:Bool)(i:Nat)(hi:i≤10)(x:PS)(hq:PQ i x) :
  aD Tryz.prog 187 [ptr xj,ptr xf] [PI bd jb xj xf xw xb name fresh wa ba wc bl bc whole br x] (fun r H=>∃(e:Nat) (x':PS),r = .int .i64 (e:Int)∧H=[PI bd jb xj xf xw xb name fresh wa ba wc bl bc whole br x']∧zx fresh name x e x'∧(e=0→PQ (i+1) x')) :=
 (Kc bd jb xj xf xw xb name fresh wa ba wc bl bc whole br x.1 x.2.1 x.2.2.1 x.2.2.2 (by have:=hq.1;omega)).conv (aq.kP _) (by
  rintro v H⟨e,A1,he,rO,rfl,rfl⟩
  exact⟨_,⟨_,(A1,x.2),rfl,rfl,⟨⟨he,rO⟩,rfl⟩,fun _=>hq.next (rO ▸ oF _ _ _ _)⟩,aq.kX _⟩)
theorem J9(bd jb xj xf xw xb:Nat)(name fresh:ByteArray)(wa ba:Option Addr)(wc bl bc:Nat)(whole:List UInt8)(br:Bool)(i:Nat)(x:PS)(hq:PQ i x) :
  aD Tryz.prog 63 [ptr bd] [PI bd jb xj xf xw xb name fresh wa ba wc bl bc whole br x] (fun r H=>∃(e:Nat) (x':PS),r = .int .i64 (e:Int)∧H=[PI bd jb xj xf xw xb name fresh wa ba wc bl bc whole br x']∧DS x e x'∧(e=0→PQ (i+1) x')) :=
 (Is ([aC bd x.1,ag jb (cl [ptr bd,.string name,.int .i64 x.2.1,.int .i64 x.2.2.1,.int .i64 x.2.2.2,.bool br] 167),ag xj (cl [ptr jb] 75),ag xf (cl [.string fresh] 9),ag xw (cl [.slice wa whole.length wc] 39),ag xb (cl [.slice ba bl bc] 39),az 5 1 (.slice wa whole.length wc) whole.length (bV whole)].drop 1) (nB bd x.1)).conv (aq.kP _) (by
  rintro v H⟨_,⟨rfl,rfl⟩,rfl⟩
  exact⟨_,⟨_,(x.1.cp.2,x.2),rfl,rfl,⟨⟨rfl,rfl⟩,rfl⟩,fun _=>hq.next (iR _)⟩,aq.kX _⟩)
theorem Kb(bd jb xj xf xw xb:Nat)(name fresh:ByteArray)(wa ba:Option Addr)(wc bl bc:Nat)(whole:List UInt8)(br:Bool)(i:Nat)(x:PS)(hq:PQ i x) :
  aD Tryz.prog 188 [ptr xb,ptr xj] [PI bd jb xj xf xw xb name fresh wa ba wc bl bc whole br x] (fun r H=>∃(e:Nat) (x':PS),r = .int .i64 (e:Int)∧H=[PI bd jb xj xf xw xb name fresh wa ba wc bl bc whole br x']∧Sp bl x e x'∧(e=0→PQ (i+1) x')) :=
 (Ka bd jb xj xf xw xb name fresh wa ba wc bl bc whole br x.1 x.2.1 x.2.2.1 x.2.2.2).conv (aq.kP _) (by
  rintro v H⟨rfl,rfl⟩
  exact⟨_,⟨0,(x.1,1,(bl:Int),(bl:Int)),rfl,rfl,⟨rfl,rfl⟩,fun _=>⟨by have:=hq.1;simp only;omega,by have:=hq.2;simp only;omega⟩⟩,aq.kX _⟩)
def jr(jb bd:Nat)(name:ByteArray)(n s c:Int)(br:Bool):HP:=ag jb (cl [ptr bd,.string name,.int .i64 n,.int .i64 s,.int .i64 c,.bool br] 167)
theorem yR{ls:List (List UInt8)}{i:Nat}{x:List UInt8}(h:ls[i]?=some x):(ls.take (i+1)).flatMap cy=(ls.take i).flatMap cy++cy x:=by
 rw[List.take_add_one,h];simp
theorem Gc(ls:List (List UInt8))(i:Nat):((ls.take i).flatMap cy).length≤(ls.flatMap cy).length:=by
 conv=>rhs;rw[← List.take_append_drop i ls,List.flatMap_append,List.length_append]
 omega
set_option maxRecDepth 20000 in
theorem FI(jb bd:Nat)(name:ByteArray)(n s c:Int)(br:Bool)(A:Ab)(V:HP)(lv:Value)(ls:List (List UInt8))(hv:qi V lv ls)(hl:(ls.flatMap cy).length≤500000000)(tq:ls.length≤1000000000)(F6:name.size≤1000000000)(cE:A.aH.length≤900000000)(zR:A.writes.length≤900000000) :
    aD Tryz.prog 122 [ptr jb,lv] [aC bd A,jr jb bd name n s c br,V]
      (fun r H=>∃(e:Nat) (y:PS),r = .int .i64 (e:Int)∧H=[aC bd y.1,jr jb bd name y.2.1 y.2.2.1 y.2.2.2 br,V]∧E5 name ls (A,n,s,c) e y):=by
  obtain⟨cs,dj,lz,⟨a,cc,rfl,hc⟩,nL⟩:=hv
  unfold jr
  refine aD.enter Tryz.func122 ak rfl Tryz.ntmps122 zr zr ?_
  intro G F R hE
  refine go ?_
  refine bq zr zr bp ?_
  intro xj
  refine go ?_
  refine wX zr zr zr (by show name.size+4≤_;omega) ?_
  refine go ?_
  refine aB 17 (.string (bN name)) zr zr ?_
  generalize xN:bN name=fresh
  refine aN (U:=ao) zr zr zr bp ?_
  intro xf
  refine go ?_
  refine aN (U:=ao) zr zr zr bp ?_
  intro xb
  refine go ?_
  refine aj (bw 5 1 none _) ?_
  refine bo (fun y:Value × Nat=>y.2≤ls.length) (fun y=>ls.length-y.2)
    (fun y=>[(0,ptr jb),(2,ptr xj),(5,ptr xf),(6,ptr xb),(18,.slice a ls.length cc),(19,.int .i64 (ls.length:Int)),(20,.int .i64 (y.2:Int))])
    (fun y=>ag xb (cl [y.1] 39)::az 5 1 y.1 ((ls.take y.2).flatMap cy).length (bV ((ls.take y.2).flatMap cy))::ag xf (cl [.string fresh] 9)::ag xj (cl [ptr jb] 75)::aC bd A::ag jb (cl [ptr bd,.string name,.int .i64 n,.int .i64 s,.int .i64 c,.bool br] 167)::V::F) (.slice none 0 0,0) (Nat.zero_le _) rfl bY ad ?_
  rintro⟨v,i⟩ hi ih
  simp only at hi
  refine go ?_
  refine aw zr zr ?_ ?_
  · intro cO
    simp only at cO
    have kp:i<ls.length:=by omega
    obtain⟨x,hx⟩:∃x,ls[i]?=some x:=⟨ls[i],List.getElem?_eq_getElem kp⟩
    obtain⟨cv,qd,hb⟩:=nL i x hx
    obtain⟨b0,o0,c0,pG⟩:=dj.some (by intro h;rw[h]at qd;simp at qd)
    simp only[Value.slice.injEq]at pG
    obtain⟨rfl,-,rfl⟩:=pG
    refine go ?_
    refine cK (U:=ao) i zr zr zr zr zr zr zr zr kp ?_
    obtain⟨ax,cx,rfl,YU⟩:=hb.2
    have nq:=yR hx
    have fA:((ls.take (i+1)).flatMap cy).length=((ls.take i).flatMap cy).length+(cy x).length:=by rw[nq,List.length_append]
    have hle:=Gc ls (i+1)
    have Jf:x.length≤(cy x).length:=by simp[cy]
    refine bB (U:=ao) 6 i zr zr zr dj rfl qd zr zr ?_
    ((refine aM 1 rfl ?_))
    intro av cv qP
    simp only at qP
    subst qP
    refine go ?_
    refine aF (fun w=>Sat G w ([ag xb (cl [.slice av ((ls.take i).flatMap cy).length cv] 39)])) (.st 0 (.st 1 (.act 2 (.act 3 (.act 4 .nil))))) rfl ak ak ak (fun w hw=>hw.aX ad) ?_
    refine go ?_
    ((refine ah rfl rfl rfl rfl (oJ V _ x hb ai) ad ?_ (fun _ _ w hp hw=>by obtain rfl:=hp;exact hw.aX ad)))
    rintro r _ rfl
    ((refine aM 0 rfl ?_))
    rintro ra rc rfl
    refine iu 0 rfl ?_
    intro FX
    refine go ?_
    refine bh (U:=ao) (mm:=(cy x).length) (news:=bV (cy x)) 3 0 zr zr zr zr zr zr zr zr zr zr zr zr FX (by show _=_*1;rw[bt];omega) (cC _) (by simp only;omega) (by show(_+_)*1≤_;simp only;omega) (fun _=>rfl) (fun _ w hw=>by exact hw.aX ad) ?_
    intro v1
    simp only
    rw[show bV ((ls.take i).flatMap cy)++bV (cy x)=bV ((ls.take (i+1)).flatMap cy)from by rw[nq];simp[bV],← fA]
    ((refine aM 3 rfl ?_))
    rintro va vc rfl
    refine go ?_
    refine aO ih (.slice va ((ls.take (i+1)).flatMap cy).length vc,i+1) rfl (by simp only;omega) (by simp only;omega) bY ad
  intro eQ
  simp only at eQ
  have fU:i=ls.length:=by omega
  subst fU
  rw[List.take_length]
  ((refine db 1 rfl ?_))
  intro av cv qP
  simp only at qP
  subst qP
  obtain⟨B,hB⟩:∃B,B=ls.flatMap cy:=⟨_,rfl⟩
  rw[← hB]at hl ⊢
  have hhl:(cJ 1 B.length).length=16:=mG _ _
  have eA:(cu ls)=List.replicate 16 0++cJ 1 B.length++B:=by rw[hB];rfl
  obtain⟨W,hW⟩:∃W,W=cu ls:=⟨_,rfl⟩
  rw[← hW]at eA
  have Cn:W.length=32+B.length:=by rw[eA];simp only[List.length_append,List.length_replicate,hhl]
  have aaQ:∀(m:Nat) (ra:Option Addr) (rc row:Nat),dR (az 5 1 (.slice ra (cJ 1 B.length).length rc) (cJ 1 B.length).length (bV (cJ 1 B.length))) (.slice ra (cJ 1 B.length).length rc) (cJ 1 B.length) →
      dR (az 5 1 (.slice av B.length cv) B.length (bV B)) (.slice av B.length cv) B→aD Tryz.prog 182 [.slice (some ⟨row,0,none⟩) 3 3]
      [Sep [ag row (cl [.slice (some ⟨m,0,none⟩) 16 16,.slice ra (cJ 1 B.length).length rc,.slice av B.length cv] 39),ag m (cl (bV (List.replicate 16 0)) 5),az 5 1 (.slice ra (cJ 1 B.length).length rc) (cJ 1 B.length).length (bV (cJ 1 B.length)),az 5 1 (.slice av B.length cv) B.length (bV B)]]
      (fun r H=>H=[az 5 1 r W.length (bV W),Sep [ag row (cl [.slice (some ⟨m,0,none⟩) 16 16,.slice ra (cJ 1 B.length).length rc,.slice av B.length cv] 39),ag m (cl (bV (List.replicate 16 0)) 5),az 5 1 (.slice ra (cJ 1 B.length).length rc) (cJ 1 B.length).length (bV (cJ 1 B.length)),az 5 1 (.slice av B.length cv) B.length (bV B)]]):=by
    intro m ra rc row pV qe
    have qS:[List.replicate 16 0,cJ 1 B.length,B].flatten=W:=by rw[eA];simp only[List.flatten_cons,List.flatten_nil,List.append_nil,List.append_assoc]
    have:=Fi (Sep [ag row (cl [.slice (some ⟨m,0,none⟩) 16 16,.slice ra (cJ 1 B.length).length rc,.slice av B.length cv] 39),ag m (cl (bV (List.replicate 16 0)) 5),az 5 1 (.slice ra (cJ 1 B.length).length rc) (cJ 1 B.length).length (bV (cJ 1 B.length)),az 5 1 (.slice av B.length cv) B.length (bV B)]) (.slice (some ⟨row,0,none⟩) 3 3) [List.replicate 16 0,cJ 1 B.length,B]
      ⟨[.slice (some ⟨m,0,none⟩) 16 16,.slice ra (cJ 1 B.length).length rc,.slice av B.length cv],(Vw.ag rfl).mono (aW (i:=0) rfl),rfl,⟨_,_,rfl,Nat.le_refl 3⟩,fun i x hx=>by
        match i,hx with
        | 0,hx=>cases hx;exact⟨_,rfl,⟨(Vw.ag (b:=m) (l:=bV (List.replicate 16 0)) (e:=5) rfl).mono (aW (i:=1) rfl),_,_,rfl,by decide⟩⟩
        | 1,hx=>cases hx;exact⟨_,rfl,pV.mono (aW (i:=2) rfl)⟩
        | 2,hx=>cases hx;exact⟨_,rfl,qe.mono (aW (i:=3) rfl)⟩
        | k+3,hx=>simp at hx⟩ (by rw[qS,Cn];omega) (by show 3≤_;omega)
    rw[qS]at this
    exact this
  refine oU (bs:=B) 1 rfl ?_
  intro qe
  refine gL rfl ?_
  refine zc 1 (fun y:Option Addr × Nat × Nat=>True) (fun y=>[(0,ptr jb),(2,ptr xj),(5,ptr xf),(6,ptr xb),(9,ptr y.2.2)]) (fun y=>ag y.2.2 (cl [.slice y.1 W.length y.2.1] 39)::az 5 1 (.slice y.1 W.length y.2.1) W.length (bV W)::ag xb (cl [.slice av B.length cv] 39)::ag xf (cl [.string fresh] 9)::ag xj (cl [ptr jb] 75)::aC bd A::ag jb (cl [ptr bd,.string name,.int .i64 n,.int .i64 s,.int .i64 c,.bool br] 167)::V::F) rfl ?_ ?_
  rotate_left
  · intro tail
    refine aF (fun w=>Sat G w ([ag xb (cl [.slice av B.length cv] 39)])) (.st 1 (.st 2 (.st 4 (.fork (.fork (.act 0 (.fork (.act 3 (.fork (.act 5 (.fork (.act 6 (.act 7 (.act 8 .nil))) (.act 7 (.act 6 (.act 8 .nil))))) (.act 7 (.act 5 (.act 6 (.act 8 .nil)))))) (.act 7 (.act 3 (.act 5 (.act 6 (.act 8 .nil))))))) (.act 3 (.fork (.act 0 (.fork (.act 5 (.fork (.act 6 (.act 7 (.act 8 .nil))) (.act 7 (.act 6 (.act 8 .nil))))) (.act 7 (.act 5 (.act 6 (.act 8 .nil)))))) (.act 7 (.act 0 (.act 5 (.act 6 (.act 8 .nil)))))))) (.act 7 (.fork (.act 0 (.act 3 (.act 5 (.act 6 (.act 8 .nil))))) (.act 3 (.act 0 (.act 5 (.act 6 (.act 8 .nil))))))))))) rfl ak ak ak (fun w hw=>hw.aX ad) ?_
    repeat'(first|refine o5 ?_ ?_|(refine lW (U:=ao) (p:=16) (q:=16) zr zr zr zr zr zr zr zr zr ai ai (by show 1*16≤_;omega) (fun _ w hw=>by exact hw.aX ad) ?_;intro m)|(((refine ah rfl rfl rfl rfl (vX 1 B.length ai ai) ad ?_ (fun _ _ w hp hw=>by obtain rfl:=hp;exact hw.aX ad)));rintro _ _ rfl;((refine aM 0 rfl ?_));rintro ra rc rfl;refine fG (bs:=cJ 1 B.length) 0 rfl ?_;intro pV)|(refine au (U:=ao) zr zr zr zr zr zr zr zr zr (fun _ w hw=>by exact hw.aX ad) ?_;intro row)|(refine aN (U:=ao) zr zr zr (fun _ w hw=>by exact hw.aX ad) ?_;intro x9)|(refine ah rfl rfl rfl rfl (aaQ m ra rc row pV qe) (aq.trans ad (aq.bL [_,_,_,_] _)) ?_ (fun _ _ w hp hw=>by obtain rfl:=hp;exact hw.aX ad);rintro _ _ rfl;((refine aM 0 rfl ?_));rintro wa wc rfl)|(refine aS ?_;(first|refine bI (U:=ao) 0 fR zr zr zr zr zr zr zr zr zr ?_|refine bI (U:=ao) 2 fR zr zr zr zr zr zr zr zr zr ?_);refine C0 ?_;refine nQ tail (wa,wc,x9) rfl trivial bY ad)|(refine fk ?_)|fail)
  rintro⟨wa,wc,x9⟩ -
  simp only
  refine go ?_
  refine aF (fun w=>Sat G w ([ag jb (cl [ptr bd,.string name,.int .i64 n,.int .i64 s,.int .i64 c,.bool br] 167),ag xj (cl [ptr jb] 75),ag xf (cl [.string fresh] 9)])) (.st 0 (.st 1 (.st 2 (.st 3 (.st 4 (.act 5 (.st 6 (.st 7 (.st 8 (.st 9 (.st 10 .nil))))))))))) rfl ak ak ak (fun w hw=>hw.aX ad) ?_
  refine go ?_
  ((refine ah rfl rfl rfl rfl (sh bd A fresh) ad ?_ (fun _ _ w hp hw=>by obtain⟨rfl,rfl⟩:=hp;exact hw.aX ad)))
  rintro _ _⟨rfl,rfl⟩
  refine go ?_
  refine zc 1 (fun y:Value × List Value=>y.2=if(A.size fresh).2=0 then [.func (.func 183) #[] #[ptr xj,ptr xf] ]else []) (fun y=>[(0,ptr jb),(2,ptr xj),(5,ptr xf),(6,ptr xb),(9,ptr x9),(10,y.1)]) (fun y=>ag xj (cl [ptr jb] 75)::ag jb (cl [ptr bd,.string name,.int .i64 n,.int .i64 s,.int .i64 c,.bool br] 167)::az 86 1 y.1 y.2.length y.2::ag x9 (cl [.slice wa W.length wc] 39)::az 5 1 (.slice wa W.length wc) W.length (bV W)::ag xb (cl [.slice av B.length cv] 39)::ag xf (cl [.string fresh] 9)::aC bd A::V::F) rfl ?_ ?_
  rotate_left
  · intro tail
    refine aj (bw 86 1 none _) ?_
    refine aw zr zr ?_ ?_
    · intro he
      refine go ?_
      refine au (U:=ao) zr zr zr zr zr zr zr zr zr bp ?_
      intro row
      refine go ?_
      refine bh (U:=ao) (mm:=1) (news:=[.func (.func 183) #[] #[ptr xj,ptr xf]]) 1 0 zr zr zr zr zr zr zr zr zr zr zr zr (Vw.ag rfl) rfl (by simp[Value.oneCell']) ai (by show(0+1)*8≤_;omega) (fun _=>rfl) bp ?_
      intro v1
      ((refine aM 1 rfl ?_))
      rintro va vc rfl
      (refine nN ?_)
      refine nQ tail (.slice va (0+1) vc,[.func (.func 183) #[] #[ptr xj,ptr xf] ]) rfl (by rw[if_pos ai]) bY ad
    · intro he
      refine nQ tail (.slice none 0 0,[]) rfl (by rw[if_neg ai]) bY ad
  rintro⟨sv,fv⟩ lH
  simp only at lH ⊢
  ((refine db 2 rfl ?_))
  rintro va vc rfl
  refine go ?_
  have qS:fv.length≤1:=by rw[lH];split <;> simp
  refine au (U:=ao) (cs:=[.func (.func 184) #[] #[ptr xj,ptr xf],.func (.func 185) #[] #[ptr xj,ptr xf,ptr x9],.func (.func 186) #[] #[ptr xj,ptr xf],.func (.func 187) #[] #[ptr xj,ptr xf],.func (.func 63) #[ptr bd] #[],.func (.func 188) #[] #[ptr xb,ptr xj] ]) zr zr zr zr zr zr zr zr zr bp ?_
  intro row
  refine go ?_
  refine bh (U:=ao) (mm:=6) (news:=[.func (.func 184) #[] #[ptr xj,ptr xf],.func (.func 185) #[] #[ptr xj,ptr xf,ptr x9],.func (.func 186) #[] #[ptr xj,ptr xf],.func (.func 187) #[] #[ptr xj,ptr xf],.func (.func 63) #[ptr bd] #[],.func (.func 188) #[] #[ptr xb,ptr xj] ]) 3 0 zr zr zr zr zr zr zr zr zr zr zr zr (Vw.ag rfl) rfl (by simp[Value.oneCell']) ai (by show(_+6)*8≤_;omega) (fun _=>rfl) bp ?_
  intro v1
  refine iu 3 rfl ?_
  intro lC
  obtain⟨fs,yL⟩:∃fs,fs=fv++[.func (.func 184) #[] #[ptr xj,ptr xf],.func (.func 185) #[] #[ptr xj,ptr xf,ptr x9],.func (.func 186) #[] #[ptr xj,ptr xf],.func (.func 187) #[] #[ptr xj,ptr xf],.func (.func 63) #[ptr bd] #[],.func (.func 188) #[] #[ptr xb,ptr xj] ]:=⟨_,rfl⟩
  rw[← yL]at lC ⊢
  have Xl:fs.length=fv.length+6:=by rw[yL,List.length_append];rfl
  rw[← Xl]at lC ⊢
  have sI:(gf name ls A).length=fs.length:=by
    rw[Xl,lH];unfold gf;rw[xN]
    split <;> rfl
  have hWb:W.length≤1000000000:=by omega
  have tn:∀(i:Nat) (fv:Value) (s:PS→Nat→PS→Prop),fs[i]?=some fv→(gf name ls A)[i]?=some s→∃g fi cap,fv = .func (.func g) fi cap∧∀x,PQ i x→aD Tryz.prog g (fi.toList++cap.toList) [PI bd jb xj xf x9 xb name fresh wa av wc B.length cv W br x] (fun r H=>∃(e:Nat) (x':PS),r = .int .i64 (e:Int)∧H=[PI bd jb xj xf x9 xb name fresh wa av wc B.length cv W br x']∧s x e x'∧(e=0→PQ (i+1) x')):=by
    intro i f1 s1 h1 h2
    have hi:i<fs.length:=(List.getElem?_eq_some_iff.1 h1).1
    have vW:i≤10:=by omega
    unfold gf at h2
    rw[xN,← hW,← hB]at h2
    rw[yL,lH]at h1
    by_cases hz:(A.size fresh).2=0
    · rw[if_pos hz]at h1 h2
      match i,h1,h2 with
      | 0,h1,h2=>cases h1;cases h2;exact⟨_,_,_,rfl,fun x hq=>Ss _ _ _ _ _ _ _ _ _ _ _ _ _ _ _ _ vW x hq⟩
      | 1,h1,h2=>cases h1;cases h2;exact⟨_,_,_,rfl,fun x hq=>Kj _ _ _ _ _ _ _ _ _ _ _ _ _ _ _ _ vW x hq⟩
      | 2,h1,h2=>cases h1;cases h2;exact⟨_,_,_,rfl,fun x hq=>Kh _ _ _ _ _ _ _ _ _ _ _ _ _ _ _ _ vW hWb x hq⟩
      | 3,h1,h2=>cases h1;cases h2;exact⟨_,_,_,rfl,fun x hq=>Kf _ _ _ _ _ _ _ _ _ _ _ _ _ _ _ _ vW x hq⟩
      | 4,h1,h2=>cases h1;cases h2;exact⟨_,_,_,rfl,fun x hq=>Kd _ _ _ _ _ _ _ _ _ _ _ _ _ _ _ _ vW x hq⟩
      | 5,h1,h2=>cases h1;cases h2;exact⟨_,_,_,rfl,fun x hq=>J9 _ _ _ _ _ _ _ _ _ _ _ _ _ _ _ _ x hq⟩
      | 6,h1,h2=>cases h1;cases h2;exact⟨_,_,_,rfl,fun x hq=>Kb _ _ _ _ _ _ _ _ _ _ _ _ _ _ _ _ x hq⟩
      | k+7,h1,h2=>simp at h1
    · rw[if_neg hz]at h1 h2
      match i,h1,h2 with
      | 0,h1,h2=>cases h1;cases h2;exact⟨_,_,_,rfl,fun x hq=>Kj _ _ _ _ _ _ _ _ _ _ _ _ _ _ _ _ vW x hq⟩
      | 1,h1,h2=>cases h1;cases h2;exact⟨_,_,_,rfl,fun x hq=>Kh _ _ _ _ _ _ _ _ _ _ _ _ _ _ _ _ vW hWb x hq⟩
      | 2,h1,h2=>cases h1;cases h2;exact⟨_,_,_,rfl,fun x hq=>Kf _ _ _ _ _ _ _ _ _ _ _ _ _ _ _ _ vW x hq⟩
      | 3,h1,h2=>cases h1;cases h2;exact⟨_,_,_,rfl,fun x hq=>Kd _ _ _ _ _ _ _ _ _ _ _ _ _ _ _ _ vW x hq⟩
      | 4,h1,h2=>cases h1;cases h2;exact⟨_,_,_,rfl,fun x hq=>J9 _ _ _ _ _ _ _ _ _ _ _ _ _ _ _ _ x hq⟩
      | 5,h1,h2=>cases h1;cases h2;exact⟨_,_,_,rfl,fun x hq=>Kb _ _ _ _ _ _ _ _ _ _ _ _ _ _ _ _ x hq⟩
      | k+6,h1,h2=>simp at h1
  have fO:=Gq (PI bd jb xj xf x9 xb name fresh wa av wc B.length cv W br) (az 86 1 v1 fs.length fs) v1 fs lC ai (gf name ls A) sI PQ tn (A,n,s,c) ⟨by simp only;omega,by simp only;omega⟩
  ((refine aM 3 rfl ?_))
  rintro Yc Yb rfl
  refine go ?_
  refine ah zr zr zr zr fO (aq.trans ad (aq.cons _ (aq.bL [aC bd A,ag jb (cl [ptr bd,.string name,.int .i64 n,.int .i64 s,.int .i64 c,.bool br] 167),ag xj (cl [ptr jb] 75),ag xf (cl [.string fresh] 9),ag x9 (cl [.slice wa W.length wc] 39),ag xb (cl [.slice av B.length cv] 39),az 5 1 (.slice wa W.length wc) W.length (bV W)] _))) ?_ bE
  rintro _ _⟨e,y,rfl,rfl,hr⟩
  refine aG (aq.trans (aq.pick [1] rfl) (aq.cg [aC bd y.1,ag jb (cl [ptr bd,.string name,.int .i64 y.2.1,.int .i64 y.2.2.1,.int .i64 y.2.2.2,.bool br] 167),ag xj (cl [ptr jb] 75),ag xf (cl [.string fresh] 9),ag x9 (cl [.slice wa W.length wc] 39),ag xb (cl [.slice av B.length cv] 39),az 5 1 (.slice wa W.length wc) W.length (bV W)] _)) ?_
  refine go ?_
  ((refine ae hE Tryz.func122 rfl _ rfl ⟨e,y,rfl,rfl,hr⟩ ad))
theorem Nm(name:ByteArray)(f:Nat):((Ab.new 1).create (isName name) name f).1=if isName name then 0 else 1:=by
 cases h:isName name <;> simp[Ab.create,Ab.meet,Ab.new,Ab.look,Ab.du]
theorem FQ(name:ByteArray):aD Tryz.prog 118 [.string name] [] (fun r H=>r = .bool (isName name)∧H=[]):=by
 refine aD.enter Tryz.func118 ak rfl Tryz.ntmps118 zr zr ?_
 intro G F R hE
 refine go ?_
 ((refine ah zr zr zr zr (E7 1 ai ai) ad ?_ bE))
 rintro _ _⟨bd,rfl,rfl⟩
 refine go ?_
 ((refine ah zr zr zr zr (tJ bd (Ab.new 1) name (by simp[Ab.new])) ad ?_ bE))
 rintro _ _⟨f,hf,rfl,rfl⟩
 rw[Nm]
 refine go ?_
 ((refine bj 2 ((.bool (isName name))) rfl ((congrArg Value.bool (by cases isName name <;> rfl))) ?_))
 refine aj (aq.drop _ _) ?_
 ((refine ae hE Tryz.func118 rfl _ rfl ⟨rfl,rfl⟩ ad))
theorem qE(jb bd:Nat)(name:ByteArray)(n s c:Int)(br:Bool)(e:Nat):aD Tryz.prog 129 [ptr jb,.int .i64 (e:Int)] [jr jb bd name n s c br] (fun r H=>r = .int .i64 (e:Int)∧H=[jr jb bd name n s c (br || decide (e≠0))]):=by
 unfold jr
 refine aD.enter Tryz.func129 ak rfl Tryz.ntmps129 zr zr ?_
 intro G F R hE
 cases br
 ·refine go ?_
  have hd:decide ((e:Int)≠0)=(false || decide (e≠0)):=by by_cases h:e=0 <;> simp[h]
  simp only[hd]
  ((refine ae hE Tryz.func129 rfl _ rfl ⟨rfl,rfl⟩ ad))
 ·refine go ?_
  ((refine ae hE Tryz.func129 rfl _ rfl ⟨rfl,rfl⟩ ad))
structure JN where
 n:Int
 s:Int
 c:Int
 br:Bool
def oz(jb bd:Nat)(name:ByteArray)(x:JN):HP:=jr jb bd name x.n x.s x.c x.br
def cB(name:ByteArray)(A:Ab)(x:JN)(b:List UInt8):Nat × Ab × JN :=
 if x.br then(10,A,x)else if 4096<b.length then(1,A,x)else if 524288<x.s+(cy b).length then(3,A,x)else
 if(A.write (fL name (32+x.s) (cy b)) name (32+x.s).toNat (cy b)).1=0 then(0,(A.write (fL name (32+x.s) (cy b)) name (32+x.s).toNat (cy b)).2,{ x with s:=x.s+(cy b).length })
 else((A.write (fL name (32+x.s) (cy b)) name (32+x.s).toNat (cy b)).1,(A.write (fL name (32+x.s) (cy b)) name (32+x.s).toNat (cy b)).2,{ x with br:=true })
theorem oK(b:List UInt8)(h:b.length≤1000000000000):(cy b).length≤b.length+10:=by
 have:=nU (n:=b.length) ai
 simp[cy];omega
def Zs(jb bd:Nat)(name:ByteArray)(n s c:Int):HP:=fun h=>∃br,ag jb (cl [ptr bd,.string name,.int .i64 n,.int .i64 s,.int .i64 c,.bool br] 167) h
theorem Ek(jb bd:Nat)(name:ByteArray)(n s c:Int)(br:Bool)(H:List HP):aq (ag jb (cl [ptr bd,.string name,.int .i64 n,.int .i64 s,.int .i64 c,.bool br] 167)::H) (Zs jb bd name n s c::H) :=
 aq.fold (B:=[_]) fun h' hs=>⟨h',sub.refl h',br,ed hs⟩
end Go.Proofs.YthjbidjmgbjkiaaGreatDoor
namespace Go.Proofs.YthjbidjmgbjkiaaGreatDoor
open Go Go.SL
theorem vM{G:cm}{w:World}{jb bd:Nat}{name:ByteArray}{n s c:Int}(hw:Sat G w [Zs jb bd name n s c]):w.cell? ⟨jb,0,none⟩=some (ptr bd)∧w.cell? ⟨jb,1,none⟩=some (.string name)∧w.cell? ⟨jb,3,none⟩=some (.int .i64 s):=by
 obtain⟨h,hh,br,hA⟩:=hw.j7 (i:=0) rfl
 have hb:h jb=some (cl [ptr bd,.string name,.int .i64 n,.int .i64 s,.int .i64 c,.bool br] 167):=by rw[hA jb,if_pos rfl]
 exact⟨dw hh (by unfold cZ;rw[hb];rfl),dw hh (by unfold cZ;rw[hb];rfl),dw hh (by unfold cZ;rw[hb];rfl)⟩
attribute [local irreducible] J K aD Ends ag az aL bK aZ aQ aV bg bQ aC
set_option maxRecDepth 20000 in
theorem Fo(jb bd:Nat)(name:ByteArray)(A:Ab)(x:JN)(X:HP)(bv:Value)(b:List UInt8)(hv:dR X bv b)(hl:b.length≤9223372036854775807)(hs:0≤x.s∧x.s≤1000000000)(eA:A.writes.length≤1000000000) :
  aD Tryz.prog 81 [ptr jb,bv] [aC bd A,oz jb bd name x,X]
   (fun r H=>r = .int .i64 ((cB name A x b).1:Int)∧H=[aC bd (cB name A x b).2.1,oz jb bd name (cB name A x b).2.2,X]):=by
 obtain⟨n,s,c,br⟩:=x
 obtain⟨a,cc,rfl,hc⟩:=hv.2
 simp only at hs
 dsimp only [oz,jr]
 refine aD.enter Tryz.func81 ak rfl Tryz.ntmps81 zr zr ?_
 intro G F R hE
 dsimp only [cB]at hE
 cases br with
 | true =>
  simp only[if_true]at hE
  refine go ?_
  ((refine ae hE Tryz.func81 rfl _ rfl ⟨rfl,rfl⟩ ad))
 | false =>
  simp only[Bool.false_eq_true,if_false]at hE
  refine go ?_
  refine aw zr zr ?_ ?_
  ·intro rL
   rw[if_pos ai]at hE
   refine go ?_
   ((refine ae hE Tryz.func81 rfl _ rfl ⟨rfl,rfl⟩ ad))
  intro rF
  have YY:b.length≤4096:=by omega
  have nL:=oK b ai
  rw[if_neg ai]at hE
  refine go ?_
  ((refine ah zr zr zr zr (oJ X _ b hv ai) ad ?_ bE))
  rintro r _ rfl
  ((refine aM 0 rfl ?_))
  rintro ra rc rfl
  refine fG (bs:=cy b) 0 rfl ?_
  intro Jt
  refine go ?_
  refine aw zr zr ?_ ?_
  ·intro rL
   rw[if_pos ai]at hE
   refine go ?_
   ((refine ae hE Tryz.func81 rfl _ rfl ⟨rfl,rfl⟩ ad))
  intro xO
  rw[if_neg ai]at hE
  refine go ?_
  refine aF (fun w=>Sat G w [Zs jb bd name n s c]) (.st 0 (.st 1 (.st 2 (.st 3 (.st 4 (.st 5 (.st 6 (.st 7 (.st 8 (.st 9 (.st 10 (.st 11 (.st 12 (.st 13 (.st 14 (.act 15 (.act 16 (.st 17 .nil)))))))))))))))))) rfl ak ak ak (fun w hw=>hw.aX (aq.trans ad (Ek jb bd name n s c false []))) ?_
  refine go ?_
  refine aJ ?_
  refine lX (U:=ao) zr zr (fun w hw=>(vM hw).1) zr zr ?_
  refine go ?_
  refine aJ ?_
  refine lX (U:=ao) zr zr (fun w hw=>(vM hw).2.1) zr zr ?_
  refine go ?_
  refine aJ ?_
  refine lX (U:=ao) zr zr (fun w hw=>(vM hw).2.2) zr zr ?_
  refine go ?_
  obtain⟨W,hW⟩:∃W,W=A.write (fL name (32+s) (cy b)) name (32+s).toNat (cy b):=⟨_,rfl⟩
  have zR:=sf bd A name (32+s) (az 5 1 (.slice ra (cy b).length rc) (cy b).length (bV (cy b))) (.slice ra (cy b).length rc) (cy b) Jt.1 eA ai ai
  rw[← hW]at hE zR
  refine ah rfl rfl rfl rfl zR ad ?_ (fun _ _ w hp hw=>by obtain⟨rfl,rfl⟩:=hp;exact hw.aX (aq.trans ad (Ek jb bd name n s c false [])))
  rintro _ _⟨rfl,rfl⟩
  refine ah rfl rfl rfl rfl (qE jb bd name n s c false W.1) ad ?_ (fun _ _ w hp hw=>by obtain⟨rfl,rfl⟩:=hp;exact hw.aX (aq.trans ad (Ek jb bd name n s c _ [])))
  rintro _ _⟨rfl,rfl⟩
  unfold jr
  refine go ?_
  refine aw zr zr ?_ ?_
  ·intro ct
   have eP:¬W.1=0:=by omega
   rw[if_neg eP]at hE
   have hd:(false || decide (W.1≠0))=true:=by simp[eP]
   simp only[hd]
   refine go ?_
   ((refine ae hE Tryz.func81 rfl _ rfl ⟨rfl,rfl⟩ ad))
  ·intro heq
   have nt:W.1=0:=by omega
   rw[if_pos nt]at hE
   have hd:(false || decide (W.1≠0))=false:=by simp[nt]
   simp only[hd]
   refine go ?_
   ((refine ae hE Tryz.func81 rfl _ rfl ⟨rfl,rfl⟩ ad))
end Go.Proofs.YthjbidjmgbjkiaaGreatDoor
