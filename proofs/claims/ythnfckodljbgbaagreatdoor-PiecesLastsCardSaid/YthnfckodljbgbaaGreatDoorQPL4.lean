import Derived.Test.YthnfckodljbgbaaGreatDoorQPL2
import Derived.Test.YthnfckodljbgbaaGreatDoorQPL3
set_option linter.unusedSimpArgs false
set_option linter.unusedVariables false
set_option linter.defProp false
namespace Go.SL
def uv(n:Nat):List UInt8:=if n<128 then [UInt8.ofNat n]else UInt8.ofNat (n%128+128)::uv (n/128)
termination_by n
decreasing_by omega
theorem gl{n:Nat}(h:n<128):uv n=[UInt8.ofNat n]:=by rw[uv,if_pos h]
theorem yM{n:Nat}(h:¬n<128):uv n=UInt8.ofNat (n%128+128)::uv (n/128):=by rw[uv,if_neg h]
def yL:∀(k n:Nat),n<128 ^ (k+1)→(uv n).length≤k+1
 | 0,n,h=>by rw[gl (by simpa using h)];simp
 | k+1,n,h=>by
  by_cases hn:n<128
  ·rw[gl hn];simp
  ·rw[yM hn,List.length_cons]
   have:=yL k (n/128) (Nat.div_lt_of_lt_mul (by rw[Nat.pow_succ,Nat.mul_comm]at h;exact h))
   omega
theorem qh{n:Nat}(h:n<18446744073709551616):(uv n).length≤10:=yL 9 n (Nat.lt_of_lt_of_le h (by decide))
theorem Ii(n:Nat):0<(uv n).length:=by
 grind [gl,yM]
theorem adu(m:Nat):Value.int .u8 (IntKind.u8.wrap (m:Int)) = .int .u8 ((m%256:Nat):Int):=by
 have h:IntKind.u8.wrap (m:Int)=(m:Int)%256:=by simp[IntKind.wrap,IntKind.bits,IntKind.signed]
 grind
theorem Tm(m:Nat):Value.int .u8 (IntKind.u8.wrap ((BitVec.ofInt IntKind.u8.bits ((m%256:Nat):Int) ||| BitVec.ofInt IntKind.u8.bits 128).toNat:Int))=u8 (UInt8.ofNat (m%128+128)):=by
 rw[Qb _ ag]
 simp only[u8,UInt8.toNat_ofNat']
 grind
def qM:Nat→Nat→List UInt8→Option (Nat × List UInt8 × Bool)
 | _,_,[]=>none
 | i,acc,c::r=>if i=10∨(i=9∧1<c.toNat)then none else if c.toNat<128 then some (acc+c.toNat*2 ^ (7*i),r,decide (i=0∨0<c.toNat))else qM (i+1) (acc+(c.toNat%128)*2 ^ (7*i)) r
def dH(bs:List UInt8):Nat × List UInt8 × Bool:=(qM 0 0 bs).getD (0,[],false)
def dr(bs:List UInt8):Option Nat:=if(dH bs).2.2=true∧(dH bs).2.1=[]then some (dH bs).1 else none
theorem Kv{i acc c:Nat}(ha:acc<2 ^ (7*i))(hc:c<128):acc+c*2 ^ (7*i)<2 ^ (7*(i+1)):=by
 have h1:acc+c*2 ^ (7*i)<(c+1)*2 ^ (7*i):=by rw[Nat.add_mul,Nat.one_mul];omega
 have h2:(c+1)*2 ^ (7*i)≤128*2 ^ (7*i):=Nat.mul_le_mul_right _ ag
 grind
theorem SU{i acc c:Nat}(hi:i≤9)(ha:acc<2 ^ (7*i))(hc:c<128)(h9:i=9→c≤1):acc+c*2 ^ (7*i)<18446744073709551616:=by
 by_cases h:i=9
 ·grind
 ·have h1:=Kv ha hc
  have h2:2 ^ (7*(i+1))≤2 ^ 63:=Nat.pow_le_pow_right ag ag
  omega
theorem Ln:∀(k n i acc:Nat) (rest:List UInt8),n<128 ^ (k+1)→i+k≤8→(i≠0→n≠0)→qM i acc (uv n++rest)=some (acc+n*2 ^ (7*i),rest,true)
 | k,n,i,acc,rest,hn,Nh,h0=>by
  by_cases h:n<128
  ·rw[gl h]
   have e:(UInt8.ofNat n).toNat=n:=by simp only[UInt8.toNat_ofNat'];omega
   simp only[List.cons_append,List.nil_append,qM,e]
   rw[if_neg ag,if_pos h]
   have:(i=0∨0<n):=by
    grind
   grind
  ·cases k with
   | zero=>simp at hn;omega
   | succ k =>
    rw[yM h]
    have e:(UInt8.ofNat (n%128+128)).toNat=n%128+128:=by simp only[UInt8.toNat_ofNat'];omega
    simp only[List.cons_append,qM,e]
    rw[if_neg ag,if_neg ag,show(n%128+128)%128=n%128 from by omega,
     Ln k (n/128) (i+1) _ rest (Nat.div_lt_of_lt_mul (by rw[Nat.pow_succ,Nat.mul_comm]at hn;exact hn)) ag (by intro _;omega)]
    have h3:n/128*2 ^ (7*(i+1))=n/128*128*2 ^ (7*i):=by rw[show 7*(i+1)=7+7*i from by omega,Nat.pow_add,Nat.mul_assoc]
    have h4:n%128*2 ^ (7*i)+n/128*128*2 ^ (7*i)=n*2 ^ (7*i):=by rw[← Nat.add_mul];congr 1;omega
    grind
def Lo{n:Nat}(h:n<9223372036854775808)(rest:List UInt8):dH (uv n++rest)=(n,rest,true):=by
 unfold dH
 rw[Ln 8 n 0 0 rest (Nat.lt_of_lt_of_le h (by decide)) ag (by intro h;exact absurd rfl h)]
 simp
theorem vP{n:Nat}(h:n<9223372036854775808):dr (uv n)=some n:=by
 have:=Lo h []
 grind [dr]
def mP(bs:List UInt8):Option (Nat × Nat) :=
 if 1≤bs.length then match dr (bs.take 1)with
  | some n=>some (1,n)
  | none=>if 2≤bs.length then(dr (bs.take 2)).map fun n=>(2,n)else none
 else none
theorem pg{bs:List UInt8}{n:Nat}(h:dr bs=some n)(hl:bs.length≤2):n<16384:=by
 unfold dr dH at h
 split at h
 ·rename_i hh
  cases h
  match bs,hl with
  | [],_=>simp[qM]at hh
  | [a],_ =>
   grind [qM]
  | [a,b],_ =>
   grind [qM]
 ·cases h
end Go.SL
namespace Go.Proofs.YthnfckodljbgbaaGreatDoor
open Go Go.SL
variable{A:HP}{bs:List UInt8}{n:Nat}{a:Option Addr}
attribute [local irreducible] J K aD Ends ae aF aL bU bo aU bh bq
def nc(n:Nat)(h:n<18446744073709551616):aD Tryz.prog 87 [.int .u64 (n:Int)] [] (fun r H=>H=[aF 5 1 r (uv n).length (bV (uv n))]):=by
 refine aD.aw Tryz.func87 Tryz.ntmps87 fun G F R hE=>?_
 refine go ?_
 first|refine ai (bK 5 1 none _) ?_|refine aJ (bK 5 1 none _) ?_
 have aej:=qh h
 refine bB (fun s:Nat × List UInt8 × Value=>s.2.1++uv s.1=uv n∧s.1≤n) (fun s=>s.1)
  (fun s=>[(0,.int .u64 (s.1:Int)),(3,s.2.2)])
  (fun s=>aF 5 1 s.2.2 s.2.1.length (bV s.2.1)::F) (n,[],.slice none 0 0) ⟨rfl,Nat.le_refl _⟩ rfl ck ah ?_
 rintro⟨m,done,v⟩⟨hm,hmn⟩ ih
 simp only at hm hmn
 have hlen:done.length+(uv m).length≤10:=by rw[← List.length_append,hm];exact aej
 have lY:=Ii m
 first|refine aP 0 rfl ?_|refine dN 0 rfl ?_
 rintro va vc hve
 simp only at hve
 subst hve
 refine go ?_
 refine au zr zr ?_ ?_
 ·intro fO
  simp only at fO
  have yc:¬m<128:=by omega
  refine go ?_
  refine jv zr zr zr zr zr zr ?_
  refine az 10 (.int .u8 ((m%256:Nat):Int)) rfl (adu m) (go ?_)
  refine az 11 (u8 (UInt8.ofNat (m%128+128))) rfl (Tm m) ?_
  refine ao (cs:=bV [UInt8.ofNat (m%128+128)]) zr zr zr zr zr zr zr zr zr bE ?_
  intro b1
  refine aT (mm:=1) (news:=bV [UInt8.ofNat (m%128+128)]) 1 0 zr zr zr zr zr zr zr zr zr zr zr zr (Vw.ae rfl) rfl (db _) (by simp only;omega) (by show(_+1)*1≤_;simp only;omega) (fun _=>rfl) bE ?_
  intro v1
  rw[show bV done++bV [UInt8.ofNat (m%128+128)]=bV (done++[UInt8.ofNat (m%128+128)])from by simp[bV],show done.length+1=(done++[UInt8.ofNat (m%128+128)]).length from by simp]
  first|refine aP 1 rfl ?_|refine dN 1 rfl ?_
  rintro wa wc rfl
  refine go ?_
  refine jN zr zr zr ag ?_
  refine az 7 (.int .u64 ((m/128:Nat):Int)) rfl (congrArg (Value.int .u64) (by show(m:Int)/128=_;omega)) ?_
  refine go ?_
  refine aM ih (m/128,done++[UInt8.ofNat (m%128+128)],_) rfl ⟨by simp only[List.append_assoc,List.singleton_append];rw[← yM yc];exact hm,by simp only;omega⟩ (by simp only;omega) ck ah
 ·intro dJ
  simp only at dJ
  have xM:m<128:=by omega
  refine go ?_
  refine az 16 (u8 (UInt8.ofNat m)) rfl (by simp only[u8,UInt8.toNat_ofNat'];congr 1;omega) ?_
  refine ao (cs:=bV [UInt8.ofNat m]) zr zr zr zr zr zr zr zr zr bE ?_
  intro b1
  refine aT (mm:=1) (news:=bV [UInt8.ofNat m]) 1 0 zr zr zr zr zr zr zr zr zr zr zr zr (Vw.ae rfl) rfl (db _) (by simp only;omega) (by show(_+1)*1≤_;simp only;omega) (fun _=>rfl) bE ?_
  intro v1
  rw[show bV done++bV [UInt8.ofNat m]=bV (uv n)from by rw[← hm,gl xM];simp[bV],show done.length+1=(uv n).length from by rw[← hm,gl xM];simp]
  refine go ?_
  first|refine aO hE Tryz.func87 rfl _ zr zr ah|refine cd hE Tryz.func87 rfl _ zr zr ah
theorem BU{x q y:Nat}(hq:q≤64)(h:x*2 ^ q=y)(hy:y<18446744073709551616):Value.int .u64 (IntKind.u64.wrap ((x:Int)*2 ^ (min ((q:Int).toNat) IntKind.u64.bits))) = .int .u64 (y:Int):=by
 have e:(x:Int)*2 ^ (min ((q:Int).toNat) IntKind.u64.bits)=(y:Int):=by
  show(x:Int)*2 ^ (min q 64)=_
  grind
 grind [cV,gy]
def FP(A:HP):Vw A (.slice none 0 0) ([]:List UInt8).length (bV []):=⟨none,0,rfl,.inl rfl⟩
set_option maxRecDepth 20000 in
theorem Lm(A:HP)(v:Value)(bs:List UInt8)(hv:Vw A v bs.length (bV bs))(kj:∃a c,v = .slice a bs.length c∧bs.length≤c)(hl:bs.length≤9223372036854775807) :
    aD Tryz.prog 218 [v] [A] (fun r H=>∃rv,r = .tuple #[.int .u64 ((dH bs).1:Int),rv,.bool (dH bs).2.2]∧(Vw A rv (dH bs).2.1.length (bV (dH bs).2.1)∧∃a c,rv = .slice a (dH bs).2.1.length c∧(dH bs).2.1.length≤c)∧H=[A]):=by
  obtain⟨a0,c0,rfl,Lc⟩:=kj
  refine aD.aw Tryz.func218 Tryz.ntmps218 fun G F R hE=>?_
  refine go ?_
  refine bB (fun s:Nat × Nat=>s.1≤bs.length∧s.1≤10∧(s.1≤9→s.2<2 ^ (7*s.1))∧qM 0 0 bs=qM s.1 s.2 (bs.drop s.1)) (fun s=>bs.length-s.1)
    (fun s=>[(0,.slice a0 bs.length c0),(5,.int .u64 (s.2:Int)),(8,.slice a0 bs.length c0),(9,.int .i64 bs.length),(10,.int .i64 s.1)])
    (fun _=>A::F) (0,0) ⟨Nat.zero_le _,ag,by simp,by simp⟩ rfl ck ah ?_
  rintro⟨i,acc⟩⟨hi,zV,yd,ny⟩ ih
  simp only at hi zV yd ny
  refine go ?_
  refine au zr zr ?_ ?_
  case' refine_2 =>
    intro fO
    simp only at fO
    have ZE:dH bs=(0,[],false):=by
      grind [dH,qM]
    refine go ?_
    rw[ZE]at hE
    first|refine ad hE Tryz.func218 zr zr ⟨_,rfl,⟨FP A,none,0,rfl,Nat.le_refl _⟩,rfl⟩|refine cd hE Tryz.func218 rfl _ rfl ⟨_,rfl,⟨FP A,none,0,rfl,Nat.le_refl _⟩,rfl⟩ ah
  intro dJ
  simp only at dJ
  have gz:i<bs.length:=by omega
  obtain⟨ba,oa,ca,fL⟩:=RF hv ag
  simp only[Value.slice.injEq,true_and]at fL
  obtain⟨rfl,rfl⟩:=fL
  obtain⟨c,hc⟩:∃c,bs[i]?=some c:=⟨bs[i],by simp⟩
  have hdr:bs.drop i=c::bs.drop (i+1):=by
    rw[List.drop_eq_getElem_cons gz];congr 1
    grind
  have VF:c.toNat<256:=c.toNat_lt
  rw[hdr]at ny
  simp only[qM]at ny
  refine go ?_
  refine bR i zr zr zr zr zr zr zr zr gz ?_
  refine aX 0 i zr zr zr hv rfl (pP hc) zr zr ?_
  repeat'(first|(with_reducible intro p6)|refine eZ ?_|refine rh ?_ ?_|refine hJ zr zr zr zr ?_ ?_|refine au zr zr ?_ ?_)
  case' refine_1 =>
    have jj:(i=10∨(i=9∧1<c.toNat)):=by simp only at *;omega
  case' refine_2.refine_1.refine_1 =>
    have jj:(i=10∨(i=9∧1<c.toNat)):=by simp only at *;omega
  case' refine_2.refine_1.refine_2 => 
    have uN:¬(i=10∨(i=9∧1<c.toNat)):=by simp only at *;omega
  case' refine_2.refine_2 => 
    have uN:¬(i=10∨(i=9∧1<c.toNat)):=by simp only at *;omega
  any_goals (
    have ZE:dH bs=(0,[],false):=by unfold dH;rw[ny,if_pos jj];rfl
    rw[ZE]at hE
    (first|refine ad hE Tryz.func218 zr zr ⟨_,rfl,⟨FP A,none,0,rfl,Nat.le_refl _⟩,rfl⟩|refine cd hE Tryz.func218 rfl _ rfl ⟨_,rfl,⟨FP A,none,0,rfl,Nat.le_refl _⟩,rfl⟩ ah))
  all_goals(
    have hi9:i≤9:=by omega
    have hac:=yd hi9
    have Vq:c.toNat%128<128:=Nat.mod_lt _ ag
    have SF:=SU (c:=c.toNat%128) hi9 hac Vq (by intro h;omega)
    refine az 27 (.int .u8 ((c.toNat%128:Nat):Int)) rfl (congrArg (Value.int .u8) (D7 _ VF)) (go ?_)
    refine iA zr zr zr (by simp only[gy];omega) ?_
    refine az 30 (.int .i64 ((7*i:Nat):Int)) rfl (congrArg (Value.int .i64) (by simp only;omega)) ?_
    refine n8 zr zr zr ag ?_
    refine az 31 (.int .u64 ((c.toNat%128*2 ^ (7*i):Nat):Int)) rfl (BU ag rfl ag) (go ?_)
    refine bj 5 (.int .u64 ((acc+c.toNat%128*2 ^ (7*i):Nat):Int)) rfl (congrArg (Value.int .u64) (Y7 hac SF)) (go ?_)
    refine au zr zr ?_ ?_
    · intro afZ
      have VC:c.toNat%128=c.toNat:=by omega
      have I':dH bs=(acc+c.toNat%128*2 ^ (7*i),bs.drop (i+1),decide (i=0∨0<c.toNat)):=by
        grind [dH]
      refine aG (fun w=>Sat G w ([])) (ly 0 14 .nil) rfl aq aq aq eo ?_
      refine go ?_
      refine bt (p:=(i:Int)+1) (q:=(bs.length:Int)) zr zr zr zr zr zr zr ag ag (.inl rfl) ?_
      refine az 39 (.slice (sliceAt (some ⟨ba,oa,none⟩) c0 (i+1) 1) (bs.drop (i+1)).length (c0-(i+1))) rfl (by rw[show((i:Int)+1).toNat=i+1 from by omega,show((bs.length:Int)).toNat=bs.length from by omega,List.length_drop];rfl) ?_
      have M0:Vw A (.slice (sliceAt (some ⟨ba,oa,none⟩) c0 (i+1) 1) (bs.drop (i+1)).length (c0-(i+1))) (bs.drop (i+1)).length (bV (bs.drop (i+1))):=by
        have:=hv.Rs (s:=1) (by rw[bM];omega) Lc (i+1) ag
        rw[List.length_drop,show bV (bs.drop (i+1))=(bV bs).drop ((i+1)*1)from by simp[bV,List.map_drop]]
        exact this
      rw[I']at hE
      repeat'(first|(with_reducible intro p6)|refine eZ ?_|refine rh ?_ ?_|refine hJ zr zr zr zr ?_ ?_|refine au zr zr ?_ ?_)
      all_goals first
        | (have OX:i=0:=(by simp only at p6;omega)
           rw[decide_eq_true (Or.inl OX:i=0∨0<c.toNat)]at hE
           (first|refine ad hE Tryz.func218 zr zr ⟨_,rfl,⟨M0,_,_,rfl,by simp only[List.length_drop];omega⟩,rfl⟩|refine cd hE Tryz.func218 rfl _ rfl ⟨_,rfl,⟨M0,_,_,rfl,by simp only[List.length_drop];omega⟩,rfl⟩ ah))
        | (have OX:¬i=0:=(by simp only at p6;omega)
           rw[show decide (i=0∨0<c.toNat)=decide ((0:Int)<(c.toNat:Int))from decide_eq_decide.2 ⟨fun h=>by omega,fun h => .inr ag⟩]at hE
           (first|refine ad hE Tryz.func218 zr zr ⟨_,rfl,⟨M0,_,_,rfl,by simp only[List.length_drop];omega⟩,rfl⟩|refine cd hE Tryz.func218 rfl _ rfl ⟨_,rfl,⟨M0,_,_,rfl,by simp only[List.length_drop];omega⟩,rfl⟩ ah))
    · intro afE
      refine go ?_
      refine aM ih (i+1,acc+c.toNat%128*2 ^ (7*i)) rfl ⟨by simp only;omega,by simp only;omega,fun _=>Kv hac Vq,by rw[ny,if_neg uN,if_neg ag]⟩ (by simp only;omega) ck ah)
def eO(A:HP)(v:Value)(bs:List UInt8):Prop:=Vw A v bs.length (bV bs)∧∃a c,v = .slice a bs.length c∧bs.length≤c
def eO.cut{c:Nat}(h:eO A (.slice a n c) bs)(p:Nat)(hp:p≤bs.length):eO A (.slice (sliceAt a c p 1) (bs.length-p) (c-p)) (bs.drop p):=by
 obtain⟨hv,a',c',he,hc⟩:=h
 simp only[Value.slice.injEq]at he
 obtain⟨rfl,rfl,rfl⟩:=he
 refine⟨?_,_,_,by rw[List.length_drop],by rw[List.length_drop];omega⟩
 have:=hv.Rs (s:=1) (by rw[bM];omega) hc p hp
 rw[List.length_drop,show bV (bs.drop p)=(bV bs).drop (p*1)from by simp[bV,List.map_drop]]
 exact this
def eO.front{c:Nat}(h:eO A (.slice a n c) bs)(q:Nat)(hq:q≤bs.length):eO A (.slice (sliceAt a c 0 1) q c) (bs.take q):=by
 obtain⟨hv,a',c',he,hc⟩:=h
 simp only[Value.slice.injEq]at he
 obtain⟨rfl,rfl,rfl⟩:=he
 have hl:(bs.take q).length=q:=by rw[List.length_take];omega
 refine⟨?_,_,_,by rw[hl],by rw[hl];omega⟩
 have:=hv.afu (s:=1) q
 rw[hl,show bV (bs.take q)=(bV bs).take (q*1)from by simp[bV,List.map_take]]
 exact this
def eO.mono{B:HP}{v:Value}(h:eO A v bs)(hAB:∀h,B h→∃h',sub h' h∧A h'):eO B v bs:=⟨h.1.mono hAB,h.2⟩
theorem eO.piece{c:Nat}(h:eO A (.slice a n c) bs)(p q:Nat)(hp:p≤q)(hq:q≤bs.length):eO A (.slice (sliceAt a c p 1) (q-p) (c-p)) ((bs.drop p).take (q-p)):=by
 have h1:=h.cut p ag
 obtain⟨hv,a',c',he,hc⟩:=h1
 have hlen:((bs.drop p).take (q-p)).length=q-p:=by rw[List.length_take,List.length_drop];omega
 refine⟨?_,_,_,by rw[hlen],by rw[hlen];obtain⟨_,_,_,Jl,ya⟩:=h;simp only[Value.slice.injEq]at Jl;omega⟩
 obtain⟨a2,pM,Jl,h0|⟨b,o,ha,ya⟩⟩:=hv
 ·simp only[Value.slice.injEq]at Jl
  have:(bs.drop p)=[]:=by simpa[bV]using h0
  refine⟨_,_,by rw[hlen],.inl ?_⟩
  grind
 ·simp only[Value.slice.injEq]at Jl
  refine⟨_,_,by rw[hlen],.inr ⟨b,o,by rw[Jl.1,ha],fun h' hA j x hj=>?_⟩⟩
  grind [bV]
def nf(A:HP)(v:Value)(bs:List UInt8)(hv:eO A v bs)(hl:bs.length≤9223372036854775807) :
  aD Tryz.prog 196 [v] [A] (fun r H=>r=(match dr bs with
   | some n => .tuple #[.int .u64 (n:Int),.int .i64 0]
   | none => .tuple #[.int .u64 0,.int .i64 2])∧H=[A]):=by
 refine aD.aw Tryz.func196 Tryz.ntmps196 fun G F R hE=>?_
 refine go ?_
 refine aI (Lm A v bs hv.1 hv.2 hl) ?_
 rintro _ _⟨rv,rfl,⟨M0,a,c,rfl,_⟩,rfl⟩
 cases iJ:(dH bs).2.2 with
 | false =>
  have hn:dr bs=none:=by unfold dr;rw[if_neg (by rw[iJ];simp)]
  rw[hn]at hE
  refine go ?_
  refine ad hE Tryz.func196 zr zr ⟨rfl,rfl⟩
 | true =>
  repeat'(first|(with_reducible intro p6)|refine eZ ?_|refine au zr zr ?_ ?_)
  ·have hn:dr bs=none:=by unfold dr;rw[if_neg (fun h=>by rw[h.2]at p6;simp at p6)]
   rw[hn]at hE
   refine ad hE Tryz.func196 zr zr ⟨rfl,rfl⟩
  ·have hn:dr bs=some (dH bs).1:=by unfold dr;rw[if_pos ⟨iJ,List.eq_nil_of_length_eq_zero ag⟩]
   rw[hn]at hE
   refine ad hE Tryz.func196 zr zr ⟨rfl,rfl⟩
def aS(bs:List UInt8):List UInt8:=uv bs.length++bs
end Go.Proofs.YthnfckodljbgbaaGreatDoor
namespace Go.Proofs.YthnfckodljbgbaaGreatDoor
open Go Go.SL
theorem Kx{e:TypeId}{v:Value}{bs:List UInt8}(h0:∃h,aF e 1 v bs.length (bV bs) h):eO (aF e 1 v bs.length (bV bs)) v bs:=by
 refine⟨Vw.pz e 1 v bs.length (bV bs) h0,?_⟩
 obtain⟨h,hl,⟨a,rfl,hn,_⟩|⟨b,o,cap,pre,cf,rfl,hp,hn,hc,_⟩⟩:=h0
 ·simp_all
 grind
section
variable{P:Program}{f:FuncId}{n:Nat}{R:Ending→World→Prop}{G:cQ}{k:List Item}{L:fY}{H:List HP}{S:World→Prop}{all:Array Oper}{rest:Pl}
def gX{e:TypeId}{v:Value}{bs:List UInt8}(i:Nat)(hi:cM H i=some (aF e 1 v bs.length (bV bs)))(h:eO (aF e 1 v bs.length (bV bs)) v bs→J P f n R G S all rest k L H):J P f n R G S all rest k L H :=
 AS fun w hw=>by
  obtain⟨h1,_,hA⟩:=hw.lN hi
  exact h (Kx ⟨h1,hA⟩)
def qU{e:TypeId}{v:Value}{bs:List UInt8}(i:Nat)(hi:cM H i=some (aF e 1 v bs.length (bV bs)))(h:eO (aF e 1 v bs.length (bV bs)) v bs→K P f n R G k L H):K P f n R G k L H :=
 sK fun⟨w,hw⟩=>by
  obtain⟨h1,_,hA⟩:=hw.lN hi
  exact h (Kx ⟨h1,hA⟩)
end
theorem aY{H:List HP}{i:Nat}{A:HP}(hi:cM H i=some A):∀h,Sep H h→∃h',sub h' h∧A h':=fun h hs=>by
 rw[ed]at hi
 obtain⟨h',hs',hA⟩:=ak.perm (dA hi) h hs
 obtain⟨h1,h2,ha,_,hd,hj⟩:=hA
 refine⟨h1,fun b o hb=>?_,ha⟩
 refine hs' b o ?_
 grind
end Go.Proofs.YthnfckodljbgbaaGreatDoor
namespace Go.Proofs.YthnfckodljbgbaaGreatDoor
open Go Go.SL
def mQ(x:Int × List UInt8):List UInt8:=UInt8.ofNat x.1.toNat::(uv x.2.length++x.2)
def eT(l:List (Int × List UInt8)):List UInt8:=l.flatMap mQ
def qk:Nat→List UInt8→List (Int × List UInt8)
 | 0,_=>[]
 | f+1,b=>match b with
  | []=>[]
  | c::r=>if(dH r).2.2=true∧(dH r).1≤(dH r).2.1.length then((c.toNat:Int),(dH r).2.1.take (dH r).1)::qk f ((dH r).2.1.drop (dH r).1)else [(0,[])]
def fT:Int→List (Int × List UInt8)→Bool
 | _,[]=>true
 | last,x::l=>decide (last<x.1) && decide (x.1≤63) && fT x.1 l
def qb(b:List UInt8):Option (List (Int × List UInt8)):=if 65536<b.length then none else if fT 0 (qk b.length b)then some (qk b.length b)else none
structure It where
 n:Int
 v:Value
 b:List UInt8
instance:Inhabited It:=⟨⟨0,.slice none 0 0,[]⟩⟩
def my(x:It):List Value:=[.int .i64 x.n,x.v]
theorem jQ(x:It):(my x).length=2:=rfl
def It.p(x:It):Int × List UInt8:=(x.n,x.b)
def vD(X:HP)(v:Value)(l:List It):Prop:=Vw X v l.length (l.flatMap my)∧∀x∈l,eO X x.v x.b
theorem Fz(a b:List (Int × List UInt8)):eT (a++b)=eT a++eT b:=by simp[eT]
theorem B0(l:List (Int × List UInt8))(i:Nat):(eT (l.take i)).length≤(eT l).length:=by
 conv=>rhs;rw[← List.take_append_drop i l]
 grind [Fz]
def oz(l:List (Int × List UInt8))(i:Nat):Int:=match (l.take i).getLast? with
 | some x=>x.1
 | none=>0
theorem PJ:∀(l:List (Int × List UInt8)) (last:Int) (i:Nat) (x:Int × List UInt8),fT last l=true→l[i]?=some x→(match (l.take i).getLast? with|some y=>y.1|none=>last)<x.1∧x.1≤63:=by
 intro l
 induction l with
 | nil=>intro last i x h hx;simp at hx
 | cons y l ih =>
  grind [fT]
theorem zF{l:List (Int × List UInt8)}{i:Nat}{x:Int × List UInt8}(h:l[i]?=some x):oz l (i+1)=x.1:=by
 grind [oz]
theorem PH:∀(l:List (Int × List UInt8)) (last:Int),fT last l=true→0≤last→∀x∈l,0<x.1:=by
 intro l
 induction l with
 | nil=>intro last h h0 x hx;cases hx
 | cons y l ih =>
  grind [fT]
theorem Rt:∀(bs:List UInt8) (i acc n:Nat) (r:List UInt8) (ok:Bool),qM i acc bs=some (n,r,ok)→r.length<bs.length:=by
 intro bs
 induction bs with
 | nil=>intro i acc n r ok h;simp[qM]at h
 | cons c bs ih =>
  grind [qM]
theorem qN(bs:List UInt8):(dH bs).2.1.length≤bs.length:=by
 unfold dH
 cases h:qM 0 0 bs with
 | none=>simp
 | some x =>
  have:=Rt bs 0 0 _ _ _ h
  grind
theorem BL:∀(f g:Nat) (b:List UInt8),b.length≤f→b.length≤g→qk f b=qk g b
 | 0,0,_,_,_=>rfl
 | 0,g+1,b,hf,_=>by
  have:b=[]:=List.eq_nil_of_length_eq_zero ag
  subst this;rfl
 | f+1,0,b,_,hg=>by
  have:b=[]:=List.eq_nil_of_length_eq_zero ag
  subst this;rfl
 | f+1,g+1,[],_,_=>rfl
 | f+1,g+1,c::r,hf,hg=>by
  rw[qk,qk]
  have:=qN r
  rw[List.length_cons]at hf hg
  split
  ·rw[BL f g _ (by grind) (by grind)]
  ·rfl
def fm(b:List UInt8):List (Int × List UInt8):=qk b.length b
theorem yQ:fm []=[]:=rfl
theorem BM{c:UInt8}{r:List UInt8}(h:(dH r).2.2=true∧(dH r).1≤(dH r).2.1.length):fm (c::r)=((c.toNat:Int),(dH r).2.1.take (dH r).1)::fm ((dH r).2.1.drop (dH r).1):=by
 grind [qN,fm,qk,BL]
theorem ES{c:UInt8}{r:List UInt8}(h:¬((dH r).2.2=true∧(dH r).1≤(dH r).2.1.length)):fm (c::r)=[(0,[])]:=by
 grind [fm,qk]
theorem ub:∀(f:Nat) (b:List UInt8),b.length≤f→(fm b).length≤b.length
 | 0,b,h=>by
  grind [yQ]
 | f+1,[],_=>by simp[yQ]
 | f+1,c::r,h=>by
  have h1:=qN r
  rw[List.length_cons]at h
  by_cases hk:(dH r).2.2=true∧(dH r).1≤(dH r).2.1.length
  ·have h2:=ub f ((dH r).2.1.drop (dH r).1) (by grind)
   grind [BM]
  grind [ES]
def uU(xs:List (Int × List UInt8))(i:Nat):Bool:=match xs[i]? with
 | some x=>decide (oz xs i<x.1) && decide (x.1≤63)
 | none=>true
def z8{xs:List (Int × List UInt8)}{i:Nat}{x:Int × List UInt8}(h:xs[i]?=some x):uU xs i=(decide (oz xs i<x.1) && decide (x.1≤63)):=by unfold uU;rw[h]
theorem PK:∀(l:List (Int × List UInt8)) (last:Int),(fT last l=true↔∀i x,l[i]?=some x→(match (l.take i).getLast? with|some y=>y.1|none=>last)<x.1∧x.1≤63):=by
 intro l
 induction l with
 | nil=>intro last;simp[fT]
 | cons y l ih =>
  intro last
  simp only[fT,Bool.and_eq_true,ih]
  constructor
  ·grind
  ·intro h
   refine⟨by simpa using h 0 y rfl,fun i x hx=>?_⟩
   have:=h (i+1) x (by grind)
   grind
def BY(xs:List (Int × List UInt8)):fT 0 xs=true↔∀i,i<xs.length→uU xs i=true:=by
 rw[PK]
 constructor
 ·intro h i hi
  have hx:xs[i]?=some xs[i]:=by simp
  rw[z8 hx,Bool.and_eq_true,decide_eq_true_eq,decide_eq_true_eq]
  exact h i _ hx
 ·intro h i x hx
  have:=h i (List.getElem?_eq_some_iff.1 hx).1
  rw[z8 hx,Bool.and_eq_true,decide_eq_true_eq,decide_eq_true_eq]at this
  exact this
def cS(b:List UInt8):Dg:=cy 0 [b]
def eY(l r:Dg):Dg:=cy 1 [l.bs,r.bs]
def bN:List Dg→List Dg
 | a::b::r=>eY a b::bN r
 | l=>l
theorem dp:∀l:List Dg,(bN l).length=(l.length+1)/2
 | []=>rfl
 | [a]=>by simp[bN]
 | a::b::r=>by simp only[bN,List.length_cons,dp r];omega
theorem tH:∀(l:List Dg) (i:Nat),(bN l)[i]?=match l[2*i]?,l[2*i+1]? with
  | some a,some b=>some (eY a b)
  | x,_=>x
 | [],i=>by simp[bN]
 | [a],i=>by
  cases i with
  | zero=>rfl
  | succ i=>simp[bN,show 2*(i+1)=2*i+1+1 from by omega]
 | a::b::r,i=>by
  cases i with
  | zero=>rfl
  | succ i =>
   simp only[bN,List.getElem?_cons_succ,show 2*(i+1)=2*i+1+1 from by omega]
   exact tH r i
def upL:Nat→List Dg→List Dg
 | 0,l=>l
 | f+1,l=>if l.length≤1 then l else upL f (bN l)
def zh(l:List Dg):Dg:=if l=[]then cy 2 []else((upL l.length l).head?).getD Dg.zero
structure Bl where
 d:Dg
 size:Int
 piece:Int
 root:Dg
deriving DecidableEq
instance:Inhabited Bl:=⟨⟨Dg.zero,0,0,Dg.zero⟩⟩
def Bl.zero:Bl:=⟨Dg.zero,0,0,Dg.zero⟩
def bH(x:Bl):List Value:=dC x.d++[.int .i64 x.size,.int .i64 x.piece]++dC x.root
def ve(x:Bl):(bH x).length=66:=rfl
def bI(x:Bl):Bool:=decide (1≤x.size∧x.size≤1048576∧16≤x.piece∧x.piece≤16384∧(x.size+x.piece-1)/x.piece≤1024)
def cC(x:Bl):Int:=if bI x then(x.size+x.piece-1)/x.piece else 0
def dI(x:Bl)(i:Int):Option (Int × Int):=if i<0∨cC x≤i then none else some (i*x.piece,min x.piece (x.size-i*x.piece))
def gJ(k:Nat):Nat→List UInt8→List (List UInt8)
 | 0,_=>[]
 | f+1,b=>if b=[]then []else b.take k::gJ k f (b.drop k)
def de(b:List UInt8)(piece:Int):Option (List Dg):=if bI ⟨Dg.zero,b.length,piece,Dg.zero⟩then some ((gJ piece.toNat b.length b).map cS)else none
def gg(b:List UInt8)(piece:Int):Option Bl:=(de b piece).map fun l=>⟨dW b,b.length,piece,zh l⟩
def jz(x:Bl)(b:List UInt8):Bool:=decide (gg b x.piece=some x)
def qj:List Bl→Bool
 | []=>false
 | x::l=>l.any (fun y=>decide (y.d=x.d)) || qj l
def ig(l:List Bl):Nat:=if l.length<1∨16<l.length∨l.any (fun x => !bI x)=true then 1 else if qj l then 5 else 0
def eu(x:Bl):List (Int × List UInt8):=[(1,x.d.bs),(2,uv x.size.toNat),(3,uv x.piece.toNat),(4,x.root.bs)]
def jV:Nat→List Bl→List (Int × List UInt8)
 | _,[]=>[]
 | i,x::l=>((i:Int)+1,eT (eu x))::jV (i+1) l
def Ag(l:List Bl):List UInt8:=eT (jV 0 l)
def zx(l:List Bl):Dg:=dW (Ag l)
def u0(b:List UInt8):Dg:=if h:b.length=32 then⟨b,h⟩else Dg.zero
def nP(b:List UInt8):Option Bl:=match qb b with
 | some [(_,a),(_,s),(_,p),(n,r)]=>if n≠4∨a.length≠32∨r.length≠32 then none else match dr s,dr p with
  | some s,some p=>if 1048576<max s p then none else some ⟨u0 a,s,p,u0 r⟩
  | _,_=>none
 | _=>none
def jP:Nat→List (Int × List UInt8)→Option (List Bl)
 | _,[]=>some []
 | i,(n,b)::l=>match nP b with
  | some x=>if n≠(i:Int)+1 then none else(jP (i+1) l).map (x::·)
  | none=>none
def Ak(b:List UInt8):Option (List Bl):=match qb b with
 | some l=>match jP 0 l with
  | some x=>if ig x=0 then some x else none
  | none=>none
 | none=>none
def Kn{n:Nat}(h:n≤1048576):(uv n).length≤3:=yL 2 n ag
def zK(x:Bl)(h:bI x=true):(eT (eu x)).length≤78:=by
 simp only[bI,decide_eq_true_eq]at h
 have h1:=Kn (n:=x.size.toNat) ag
 have h2:=Kn (n:=x.piece.toNat) ag
 have h3:uv 32=[32]:=by rw[gl ag];rfl
 have h4:(uv (uv x.size.toNat).length).length=1:=by rw[gl ag];rfl
 have h5:(uv (uv x.piece.toNat).length).length=1:=by rw[gl ag];rfl
 simp only[eT,eu,mQ,List.flatMap_cons,List.flatMap_nil,List.length_append,List.length_cons,List.length_nil,x.d.len,x.root.len,h3,h4,h5]
 omega
theorem xK:∀(l:List Bl) (i:Nat),i+l.length≤63→fT (i:Int) (jV i l)=true
 | [],i,_=>rfl
 | x::l,i,h=>by
  rw[List.length_cons]at h
  simp only[jV,fT,Bool.and_eq_true,decide_eq_true_eq]
  refine⟨⟨ag,ag⟩,?_⟩
  have:=xK l (i+1) ag
  grind
theorem zI:∀(l:List Bl) (i:Nat),(∀x∈l,bI x=true)→(eT (jV i l)).length≤80*l.length
 | [],i,_=>by simp[jV,eT]
 | x::l,i,h=>by
  have h1:=zK x (h x (List.mem_cons_self ..))
  have h2:=zI l (i+1) fun y hy=>h y (List.mem_cons_of_mem _ hy)
  have h3:(uv (eT (eu x)).length).length=1:=by rw[gl ag];rfl
  grind [eT,jV,mQ]
theorem pG{l:List Bl}(h:ig l=0):l.length≤16∧1≤l.length∧∀x∈l,bI x=true:=by
 grind [ig]
theorem GN{l:List Bl}(h:ig l=0):(Ag l).length≤1280:=by
 grind [pG,zI,Ag]
theorem JJ{b:List UInt8}{l:List Bl}(h:Ak b=some l):ig l=0:=by
 grind [Ak]
end Go.Proofs.YthnfckodljbgbaaGreatDoor
namespace Go.SL
open Go
def C9(n:Nat):UInt8:=UInt8.ofNat (if n<10 then 48+n else 87+n)
def l3(c:UInt8):Option Nat:=if 48≤c.toNat∧c.toNat≤57 then some (c.toNat-48)else if 97≤c.toNat∧c.toNat≤102 then some (c.toNat-87)else none
def kT(s:List UInt8)(i:Nat):Nat:=(l3 (s.getD i 0)).getD 0
def xq(d:Dg)(i:Nat):UInt8:=C9 (if i%2=0 then(d.at (i/2)).toNat/16 else(d.at (i/2)).toNat%16)
def ir(d:Dg):List UInt8:=(List.range 64).map (xq d)
theorem kZ(d:Dg):(ir d).length=64:=by simp[ir]
def om(d:Dg){i:Nat}(h:i<64):(ir d)[i]?=some (xq d i):=by simp[ir,h]
def HZ(s:List UInt8)(i:Nat):List UInt8:=(List.range 32).map fun j=>UInt8.ofNat (if 2*j+1<i then 16*kT s (2*j)+kT s (2*j+1)else if 2*j<i then kT s (2*j)else 0)
theorem nD(s:List UInt8)(i:Nat):(HZ s i).length=32:=by simp[HZ]
theorem ux(s:List UInt8)(i:Nat){j:Nat}(h:j<32):(HZ s i)[j]?=some (UInt8.ofNat (if 2*j+1<i then 16*kT s (2*j)+kT s (2*j+1)else if 2*j<i then kT s (2*j)else 0)):=by simp[HZ,h]
theorem P8(s:List UInt8):HZ s 0=List.replicate 32 0:=by
 apply List.ext_getElem?
 grind [ux,nD]
theorem T4{c:UInt8}{v:Nat}(h:l3 c=some v):v<16:=by
 grind [l3]
theorem DA(s:List UInt8)(i:Nat):kT s i<16:=by
 grind [kT,l3,T4]
def Ra{n:Nat}(h:n<16):l3 (C9 n)=some n:=by
 have:∀n:Nat,n<16→l3 (C9 n)=some n:=by decide
 exact this n h
theorem Pw{c:UInt8}{v:Nat}(h:l3 c=some v):C9 v=c:=by
 apply UInt8.toNat.inj
 unfold l3 at h
 unfold C9
 simp only[UInt8.toNat_ofNat']
 grind
def kx(s:List UInt8):Option Dg:=if s.length=64∧∀c∈s,l3 c≠none then some ⟨HZ s 64,nD s 64⟩else none
theorem yv{s:List UInt8}{i:Nat}{c:UInt8}(h:s[i]?=some c):s.getD i 0=c:=by rw[List.getD_eq_getElem?_getD,h];rfl
theorem ui(d:Dg)(i:Nat):l3 (xq d i)=some (if i%2=0 then(d.at (i/2)).toNat/16 else(d.at (i/2)).toNat%16):=by
 have:=(d.at (i/2)).toNat_lt
 exact Ra (by split <;> omega)
def Dg.RG(d:Dg){j:Nat}(h:j<32):d.bs[j]?=some (d.at j):=by
 unfold Dg.at
 rw[List.getD_eq_getElem?_getD,List.getElem?_eq_getElem (by rw[d.len];exact h)];rfl
theorem IP(d:Dg):kx (ir d)=some d:=by
  unfold kx
  rw[if_pos ⟨kZ d,fun c hc=>by
    obtain⟨i,hi,rfl⟩:=List.mem_map.1 hc
    rw[ui];simp⟩]
  congr 1
  obtain⟨bs,hl⟩:=d
  simp only[Dg.mk.injEq]
  apply List.ext_getElem?
  intro j
  rcases Nat.lt_or_ge j 32 with h|h
  · rw[ux _ _ h,if_pos ag,(⟨bs,hl⟩:Dg).RG h]
    unfold kT
    rw[yv (om _ (show 2*j<64 by omega)),yv (om _ (show 2*j+1<64 by omega)),ui,ui]
    simp only[Option.getD_some,Option.some.injEq]
    rw[if_pos ag,if_neg ag,show 2*j/2=j from by omega,show(2*j+1)/2=j from by omega]
    apply UInt8.toNat.inj
    simp only[UInt8.toNat_ofNat']
    have:=((⟨bs,hl⟩:Dg).at j).toNat_lt
    omega
  grind [nD]
theorem Il{s:List UInt8}{d:Dg}(h:kx s=some d):s=ir d:=by
 unfold kx at h
 split at h
 ·rename_i hs
  cases h
  apply List.ext_getElem?
  intro i
  rcases Nat.lt_or_ge i 64 with hi|hi
  ·rw[om _ hi]
   obtain⟨c,hc⟩:∃c,s[i]?=some c:=⟨s[i],List.getElem?_eq_getElem ag⟩
   rw[hc]
   congr 1
   obtain⟨v,hv⟩:=Option.ne_none_iff_exists'.1 (hs.2 c (List.mem_of_getElem? hc))
   rw[← Pw hv]
   unfold xq
   congr 1
   have SB:(Dg.at ⟨HZ s 64,nD s 64⟩ (i/2))=UInt8.ofNat (16*kT s (2*(i/2))+kT s (2*(i/2)+1)):=by
    grind [Dg.at,yv,ux]
   rw[SB]
   have h1:=DA s (2*(i/2))
   have h2:=DA s (2*(i/2)+1)
   have h3:kT s i=v:=by unfold kT;rw[yv hc,hv];rfl
   simp only[UInt8.toNat_ofNat']
   grind
  grind [kZ]
 ·cases h
def dv(kind:List UInt8)(d:Dg):ByteArray:=strOf (kind++ir d)
def j0(kind:List UInt8)(name:ByteArray):Option Dg:=if kind.isPrefixOf name.data.toList then kx (name.data.toList.drop kind.length)else none
theorem sR(l:List UInt8):(strOf l).data.toList=l:=by simp[strOf]
theorem rI{kind:List UInt8}{name:ByteArray}{d:Dg}:j0 kind name=some d↔name=dv kind d:=by
 unfold j0 dv
 constructor
 ·intro h
  split at h
  ·rename_i hp
   have h2:=Il h
   obtain⟨t,ht⟩:=List.isPrefixOf_iff_prefix.1 hp
   grind [yX]
  ·cases h
 grind [sR,IP]
theorem Ju(kind:List UInt8)(d:Dg):j0 kind (dv kind d)=some d:=rI.2 rfl
theorem Cw{k:List UInt8}{a b:Dg}(h:dv k a=dv k b):a=b:=by
 grind [Ju]
def JE{j k:List UInt8}{a b:Dg}(hl:j.length=k.length)(h:dv j a=dv k b):j=k:=by
 unfold dv at h
 have:=BN.1 h
 exact(List.append_inj this hl).1
end Go.SL
namespace Go.Proofs.YthnfckodljbgbaaGreatDoor
open Go Go.SL
variable{A:Ab}{k s:ByteArray}{H:List HP}{f i:Nat}{v v1 v2:Value}{w:World}{G:cQ}
def ptr(f:Nat):Value := .pointer (some ⟨f,0,none⟩)
attribute [local irreducible] J K aD Ends ae aF aL bU bo
theorem ke(A:HP)(v:Value)(bs:List UInt8)(hv:Vw A v bs.length (bV bs))(hlen:bs.length≤1000000000) :
  aD Tryz.prog 49 [v] [A] (fun r H=>H=[aF 5 1 r bs.length (bV bs),A]):=by
 obtain⟨a,c0,rfl⟩:=hv.shape
 cases a with
 | none =>
  have hb:bs=[]:=by
   obtain⟨a,cap,h1,h2|⟨b,o,h2,_⟩⟩:=hv
   ·simpa[bV]using h2
   grind
  subst hb
  refine aD.enter Tryz.func49 aq rfl Tryz.ntmps49 zr zr ?_
  intro G F R hR
  refine go ?_
  have he:c0=c0:=rfl
  refine ai (bK 5 1 none _) ?_
  refine aO hR Tryz.func49 rfl _ zr zr (ak.fin [0,1] 0 zr zr)
 | some a =>
  refine aD.enter Tryz.func49 aq rfl Tryz.ntmps49 zr zr ?_
  intro G F R hR
  refine go ?_
  refine ao zr zr zr zr zr zr zr zr zr bE ?_
  intro b0
  refine go ?_
  refine aJ (eS 5 1 b0 0 0 [] [] _ rfl (Nat.le_refl _) (by simp)) ?_
  refine aT (mm:=bs.length) (news:=bV bs) 0 1 zr zr zr zr zr zr zr zr zr zr zr zr hv (by show _=_*1;rw[bM];omega) (db bs) ag (by show _*1≤_;omega) (fun _=>rfl) bE ?_
  intro v'
  have e1:(0:Nat)+bs.length=bs.length:=by omega
  rw[e1,List.nil_append]
  refine go ?_
  refine aO hR Tryz.func49 rfl _ zr zr (ak.fin [0,1] 0 zr zr)
def yg(A X:HP)(v:Value)(bs:List UInt8)(hv:Vw A v bs.length (bV bs))(hlen:bs.length≤9223372036854775807)(g:FuncId)(cap:List Value)(p:UInt8→Bool)(hf:∀x∈bs,aD Tryz.prog g (u8 x::cap) [X] (fun v H=>v = .bool (p x)∧H=[X])) :
  aD Tryz.prog 219 [v,.func (.func g) #[] cap.toArray] [A,X] (fun r H=>r = .int .i64 (lK p bs)∧H=[A,X]):=by
 obtain⟨a,c0,rfl⟩:=hv.shape
 refine aD.enter Tryz.func219 aq rfl Tryz.ntmps219 zr zr ?_
 intro G F R hR
 refine go ?_
 refine bB (fun i:Nat=>i≤bs.length∧∀y∈bs.take i,p y=false) (fun i=>bs.length-i) (fun i=>[(0,.slice a bs.length c0),(1,.func (.func g) #[] cap.toArray),(7,.int .i64 bs.length),(8,.int .i64 i)]) (fun _=>[A,X]++F) 0 ⟨by simp,by simp⟩ rfl ck (ak.refl _) ?_
 rintro i⟨hi,hb⟩ ih
 refine go ?_
 refine au zr zr ?_ ?_
 ·intro dJ
  refine go ?_
  have gz:i<bs.length:=by omega
  obtain⟨b,o,gZ,fL⟩:=hv.some (by rw[← List.length_pos_iff,bM];omega)
  simp only[Value.slice.injEq]at fL
  obtain⟨rfl,_,rfl⟩:=fL
  refine bR i zr zr zr zr zr zr zr zr gz ?_
  have hx:bs[i]?=some bs[i]:=by simp[gz]
  refine vv (U:=aR) 0 zr zr zr (hv.cell (pP hx)) zr zr ?_
  refine cO [1] zr zr zr zr (hf bs[i] (List.getElem_mem gz)) rfl nq ?_
  rintro _ _⟨rfl,rfl⟩
  refine go ?_
  refine fZ zr zr ?_ ?_
  ·intro hp
   refine go ?_
   refine aO hR Tryz.func219 rfl _ rfl ⟨by rw[oC hx hp hb];rfl,rfl⟩ (ak.fin [1,0] 0 zr zr)
  ·intro hp
   refine go ?_
   refine aM ih (i+1) rfl ⟨ag,vh hb hx hp⟩ ag ck (ak.pick [1,0] rfl)
 ·intro fO
  refine go ?_
  have:i=bs.length:=by omega
  subst this
  refine aO hR Tryz.func219 rfl _ rfl ⟨by rw[rH (fun x hx=>hb x (by simpa using hx))];rfl,rfl⟩ (ak.fin [0,1] 0 zr zr)
def Y'(x:UInt8):Bool:=decide (97≤x.toNat∧x.toNat≤122∨48≤x.toNat∧x.toNat≤57∨x.toNat=45∨x.toNat=46)
def Mi(X:HP)(x:UInt8):aD Tryz.prog 197 [u8 x] [X] (fun v H=>v = .bool (!Y' x)∧H=[X]):=by
 refine aD.enter Tryz.func197 aq rfl Tryz.ntmps197 zr zr ?_
 intro G F R hR
 have hx:=aaJ x
 repeat'(first|(with_reducible intro p6)|refine eZ ?_|refine hJ zr zr zr zr ?_ ?_|fail)
 all_goals refine aO hR Tryz.func197 rfl _ rfl ⟨congrArg Value.bool (by rw[Bool.eq_iff_iff];simp[Y'];omega),rfl⟩ (ak.fin [0] 0 zr zr)
theorem tO(A X:HP)(v:Value)(bs:List UInt8)(hv:Vw A v bs.length (bV bs))(hlen:bs.length≤9223372036854775807)(g:FuncId)(cap:List Value)(p:UInt8→Bool)(hf:∀x∈bs,aD Tryz.prog g (u8 x::cap) [X] (fun v H=>v = .bool (p x)∧H=[X])) :
  aD Tryz.prog 198 [v,.func (.func g) #[] cap.toArray] [A,X] (fun r H=>r = .bool (bs.any p)∧H=[A,X]):=by
 refine aD.enter Tryz.func198 aq rfl Tryz.ntmps198 zr zr ?_
 intro G F R hR
 refine go ?_
 refine cO [0,1] zr zr zr zr (yg A X v bs hv hlen g cap p hf) rfl nq ?_
 rintro _ _⟨rfl,rfl⟩
 refine go ?_
 have hb:decide (0≤lK p bs)=bs.any p:=by
  have := @oD _ p bs
  cases h:bs.any p with
  | false=>rw[h]at this;exact decide_eq_false (by have:=this.2 rfl;omega)
  | true =>
   grind
 refine aO hR Tryz.func198 rfl _ rfl ⟨congrArg Value.bool hb,rfl⟩ (ak.fin [0,1] 0 zr zr)
def isName(s:ByteArray):Bool:=decide (1≤s.size∧s.size≤80) && s.data.toList.all Y'
theorem MV(h1:1≤s.size)(h2:s.size≤80):isName s = !(s.data.toList.any fun x => !Y' x):=by
 grind [isName]
theorem Dy(h1:s.size<1):isName s=false:=by simp[isName];omega
theorem F8(h1:80<s.size):isName s=false:=by simp[isName];omega
theorem jZ(A:HP)(v:Value)(l:List ByteArray)(hv:Vw A v l.length (l.map Value.string))(hlen:l.length≤1000000) :
  aD Tryz.prog 138 [v] [A] (fun r H=>r = .bool (l.all isName)∧H=[A]):=by
 obtain⟨a,c0,rfl⟩:=hv.shape
 refine aD.enter Tryz.func138 aq rfl Tryz.ntmps138 zr zr ?_
 intro G F R hR
 refine ai (ak.pS _) (go ?_)
 refine bB (fun i:Nat=>i≤l.length∧∀y∈l.take i,isName y=true) (fun i=>l.length-i) (fun i=>[(3,.func (.func 197) #[] #[]),(6,.slice a l.length c0),(7,.int .i64 l.length),(8,.int .i64 i)]) (fun _=>emp::([A]++F)) 0 ⟨by simp,by simp⟩ rfl ck (ak.refl _) ?_
 rintro i⟨hi,hb⟩ ih
 refine go ?_
 refine au zr zr ?_ ?_
 ·intro dJ
  refine go ?_
  have gz:i<l.length:=by omega
  obtain⟨b,o,gZ,fL⟩:=hv.some (by rw[← List.length_pos_iff,List.length_map];omega)
  simp only[Value.slice.injEq]at fL
  obtain⟨rfl,_,rfl⟩:=fL
  refine bR i zr zr zr zr zr zr zr zr gz ?_
  obtain⟨s,hs⟩:∃s,l[i]?=some s:=⟨l[i],by simp[gz]⟩
  refine vv (U:=aR) 1 zr zr zr (hv.cell (c := .string s) (by simp[hs])) zr zr ?_
  have gp:s∈l:=List.mem_of_getElem? hs
  repeat'(first|(with_reducible intro p6)|refine eZ ?_|refine hJ zr zr zr zr ?_ ?_|fail)
  ·have hn:l.all isName=false:=by
    grind [Dy]
   refine aO hR Tryz.func138 rfl _ rfl ⟨congrArg Value.bool hn.symm,rfl⟩ (ak.fin [1] 1 zr zr)
  ·have hn:l.all isName=false:=by
    grind [F8]
   refine aO hR Tryz.func138 rfl _ rfl ⟨congrArg Value.bool hn.symm,rfl⟩ (ak.fin [1] 1 zr zr)
  ·have oG:=MV (s:=s) ag ag
   refine Om (U:=aR) zr zr zr zr zr zr zr zr (fun _ _ _ _=>trivial) ?_
   intro bb cc
   refine go ?_
   refine cO [0,1] zr zr zr zr (tO (bo bb s _ cc) emp _ s.data.toList (by simpa using Ix bb s _ cc cc) (by simp;omega) _ [] _ (fun x _=>Mi emp x)) rfl nq ?_
   rintro _ _⟨rfl,rfl⟩
   refine go ?_
   refine fZ zr zr ?_ ?_
   ·intro ht
    refine go ?_
    have hn:l.all isName=false:=by
     grind
    refine aO hR Tryz.func138 rfl _ rfl ⟨congrArg Value.bool hn.symm,rfl⟩ (ak.fin [2] 2 zr zr)
   ·intro hf
    refine go ?_
    refine aM ih (i+1) rfl ⟨ag,vh hb hs (by rw[oG,hf];rfl)⟩ ag ck (ak.to [1,2] 1 zr zr zr)
 ·intro fO
  refine go ?_
  have:i=l.length:=by omega
  subst this
  refine aO hR Tryz.func138 rfl _ rfl ⟨congrArg Value.bool (by rw[eq_comm,List.all_eq_true];intro x hx;exact hb x (by simpa using hx)),rfl⟩ (ak.fin [1] 1 rfl rfl)
theorem vL(A:HP)(v1 v2:Value)(old b:List UInt8)(at_:Nat)(h1:Vw A v1 old.length (bV old))(h2:Vw A v2 b.length (bV b))(hb:old.length+at_+b.length≤1000000000) :
  aD Tryz.prog 50 [v1,.int .i64 at_,v2] [A] (fun r H=>∃bl cap,r = .slice (some ⟨bl,0,none⟩) (bJ old at_ b).length cap∧(bJ old at_ b).length≤cap∧H=[ae bl (cl (bV (bJ old at_ b)) 5),A]):=by
 obtain⟨a1,c1,rfl⟩:=h1.shape
 obtain⟨a2,c2,rfl⟩:=h2.shape
 refine aD.enter Tryz.func50 aq rfl Tryz.ntmps50 zr zr ?_
 intro G F R hR
 refine go ?_
 have hN:(max old.length (at_+b.length):Nat)=max old.length (at_+b.length):=rfl
 generalize hM:max old.length (at_+b.length)=M at *
 refine az 14 (.int .i64 (M:Int)) rfl (congrArg (Value.int .i64) ag) ?_
 refine nU (U:=aR) (p:=M) (q:=M) zr zr zr zr zr zr zr zr zr (Nat.le_refl _) ag (by show 1*M≤_;omega) bE ?_
 intro bl
 refine go ?_
 refine Sb (U:=aR) (src:=bV old) (mm:=old.length) (l':=bV (old++List.replicate (M-old.length) 0)) 0 1 zr zr zr zr zr zr zr zr h1 (by show _=_*1;rw[bM];omega) (db old) (by show 0+_*1≤_;simp;omega) ?_ rfl gf ?_
 ·show bV (old++List.replicate (M-old.length) 0)=List.take 0 (List.replicate M (Value.int .u8 0))++List.take (min old.length M*1) (bV old)++List.drop (0+min old.length M*1) (List.replicate M (Value.int .u8 0))
  have e:min old.length M*1=old.length:=by omega
  rw[e,List.take_of_length_le (l:=bV old) (by rw[bM];omega)]
  simp[bV,u8]
 refine go ?_
 refine mC zr zr zr zr zr zr zr ag ag (.inl rfl) ?_
 intro o' QX ho2
 have hA:at_≠M→o'=at_:=fun h=>by have:=QX (by simpa using h);rw[this];show 0+(at_:Int).toNat*1=at_;simp
 have hB:at_=M→o'=0:=fun h=>ho2 (by simpa using h)
 clear QX ho2
 have Q0:(min b.length ((M:Int).toNat-(at_:Int).toNat))*1=b.length:=by simp;omega
 refine go ?_
 refine Sb (U:=aR) (src:=bV b) (mm:=b.length) (l':=bV (bJ old at_ b)) 0 1 zr zr zr zr zr zr zr zr h2 (by show _=_*1;rw[bM];omega) (db b) ?_ ?_ rfl gf ?_
 ·show o'+(min b.length ((M:Int).toNat-(at_:Int).toNat))*1≤_
  grind [bM]
 ·show bV (bJ old at_ b)=List.take o' _++List.take (min b.length ((M:Int).toNat-(at_:Int).toNat)*1) (bV b)++List.drop (o'+min b.length ((M:Int).toNat-(at_:Int).toNat)*1) _
  rw[Q0,List.take_of_length_le (l:=bV b) (by rw[bM];omega)]
  have Zs:at_+b.length-old.length=M-old.length:=by omega
  unfold bJ
  rw[Zs]
  by_cases h:at_=M
  ·have h3:=hB h
   have h4:b=[]:=List.eq_nil_of_length_eq_zero ag
   grind [bV]
  ·rw[hA h]
   simp[bV]
 ·have hl:(bJ old at_ b).length=M:=by unfold bJ;simp;omega
  rw[← hl]
  refine go ?_
  refine aO hR Tryz.func50 rfl _ rfl ⟨bl,_,rfl,Nat.le_refl _,rfl⟩ (ak.fin [0,1] 0 zr zr)
attribute [local irreducible] aU bh
def ff(l:List (ByteArray × Nat)):List (ByteArray × Value):=l.map fun x=>(x.1,ptr x.2)
structure Dk where
 room:Nat
 bm:Nat
 ly:Value
 ml:Value
 od:Value
 off:Bool
 maps:List (Nat × List (ByteArray × Value))
 ej:fW
 files:List (Nat × Value × Value)
 gI:List Nat
 wl:List (Nat × Nat × Value)
def lH(x:Nat × List (ByteArray × Value)):HP:=aL Value.string x.1 x.2
def fA(x:Nat × Value × Value):HP:=ae x.1 (cl [x.2.1,x.2.2] 101)
def fE(l:List (Nat × Nat × Value)):List Value:=l.flatMap fun x=>[ptr x.1,.int .i64 x.2.1,x.2.2]
def VO(bd:Nat)(D:Dk):List HP :=
  [ae bd (cl [.int .i64 D.room,.map (some D.bm),D.ly,D.ml,D.od,.bool D.off] 61),aU lH D.maps,bh 5 D.ej,aU fA D.files,
   aF 57 1 D.ly D.gI.length (D.gI.map fun b => .map (some b)),aF 97 3 D.ml D.wl.length (fE D.wl)]
def gY(bd:Nat)(D:Dk):HP:=Sep (VO bd D)
def iU(bd room bm:Nat)(ly ml od:Value)(off:Bool)(maps:List (Nat × List (ByteArray × Value)))(ej:fW)(files:List (Nat × Value × Value))(gI:List Nat)(wl:List (Nat × Nat × Value))(H:List HP) :
  ak (gY bd ⟨room,bm,ly,ml,od,off,maps,ej,files,gI,wl⟩::H)
   (ae bd (cl [.int .i64 room,.map (some bm),ly,ml,od,.bool off] 61)::aU lH maps::bh 5 ej::aU fA files::aF 57 1 ly gI.length (gI.map fun b => .map (some b))::aF 97 3 ml wl.length (fE wl)::H):=ak.cK _ _
def ew(bd room bm:Nat)(ly ml od:Value)(off:Bool)(maps:List (Nat × List (ByteArray × Value)))(ej:fW)(files:List (Nat × Value × Value))(gI:List Nat)(wl:List (Nat × Nat × Value))(H:List HP) :
  ak (ae bd (cl [.int .i64 room,.map (some bm),ly,ml,od,.bool off] 61)::aU lH maps::bh 5 ej::aU fA files::aF 57 1 ly gI.length (gI.map fun b => .map (some b))::aF 97 3 ml wl.length (fE wl)::H)
   (gY bd ⟨room,bm,ly,ml,od,off,maps,ej,files,gI,wl⟩::H):=ak.bX (VO bd ⟨room,bm,ly,ml,od,off,maps,ej,files,gI,wl⟩) H
structure Rel(D:Dk)(A:Ab):Prop where
 room:D.room=A.room
 off:D.off=A.off
 names:(D.bm,ff A.names)∈D.maps
 aj:fD (fun b es=>(b,ff es)∈D.maps) D.gI A.aj
 fs:fD (fun x y=>x.1=y.1∧lr D.ej x.2.1 y.2.1∧lr D.ej x.2.2 y.2.2) D.files A.fs
 writes:fD (fun x y=>x.1=y.1∧x.2.1=y.2.1∧lr D.ej x.2.2 y.2.2) D.wl A.writes
 ec:lr D.ej D.od A.ec
 ids:(A.fs.map (·.1)).Nodup
 known:∀st∈A.names::A.aj,∀x∈st,x.2∈A.fs.map (·.1)
 eg:∀x∈A.writes,x.1∈A.fs.map (·.1)
 nodup:∀st∈A.names::A.aj,(st.map (·.1)).Nodup
 gC:∀x∈A.fs,x.2.1.length≤1048576∧x.2.2.length≤1048576
 ib:∀x∈A.writes,x.2.1+x.2.2.length≤1048576
 fF:∀st∈A.names::A.aj,st.length≤200
 ie:A.room≤1073741824
 kr:A.ec.length≤1000000000
 full:A.aj≠[]
def Rel.SY{D:Dk}(h:Rel D A){p:List UInt8}(o:Bool)(hp:lr D.ej v p)(hl:p.length≤1000000000):Rel { D with od:=v,off:=o } { A with ec:=p,off:=o } :=
 ⟨h.room,rfl,h.names,h.aj,h.fs,h.writes,hp,h.ids,h.known,h.eg,h.nodup,h.gC,h.ib,h.fF,h.ie,hl,h.full⟩
def Rel.E6{D:Dk}(h:Rel D A){p:List UInt8}(hp:lr D.ej v p)(hl:p.length≤1000000000):Rel { D with od:=v } { A with ec:=p } :=
 ⟨h.room,h.off,h.names,h.aj,h.fs,h.writes,hp,h.ids,h.known,h.eg,h.nodup,h.gC,h.ib,h.fF,h.ie,hl,h.full⟩
def zA(bd:Nat)(D:Dk)(A:Ab)(hR:Rel D A)(may:Bool) :
  aD Tryz.prog 121 [ptr bd,.bool may] [gY bd D] (fun v H=>∃D',Rel D' (A.meet may).2∧H=[gY bd D']∧v = .int .i64 (A.meet may).1):=by
 obtain⟨room,bm,ly,ml,od,off,maps,ej,files,gI,wl⟩:=D
 obtain⟨a,cap,qg,kj⟩:=hR.ec.shape
 simp only at qg
 subst qg
 have iw:=hR.off
 simp only at iw
 refine aD.aw Tryz.func121 Tryz.ntmps121 fun G F R hE=>?_
 refine ai (iU _ _ _ _ _ _ _ _ _ _ _ _ _) ?_
 cases may with
 | false =>
  refine go ?_
  refine aO hE Tryz.func121 rfl _ rfl ⟨_,hR,rfl,rfl⟩ ((ak.pick [0,1,2,3,4,5] rfl).trans (ew _ _ _ _ _ _ _ _ _ _ _ _ _))
 | true =>
  cases off with
  | true =>
   have hm:A.meet true=(7,A):=by simp[Ab.meet,← iw]
   rw[hm]at hE
   refine go ?_
   refine aO hE Tryz.func121 rfl _ rfl ⟨_,hR,rfl,rfl⟩ ((ak.pick [0,1,2,3,4,5] rfl).trans (ew _ _ _ _ _ _ _ _ _ _ _ _ _))
  | false =>
   refine go ?_
   refine fZ zr zr ?_ ?_
   ·intro h0
    have p5:A.ec=[]:=List.eq_nil_of_length_eq_zero (by have:=of_decide_eq_true h0;omega)
    have hm:A.meet true=(0,A):=by simp[Ab.meet,← iw,p5]
    rw[hm]at hE
    refine go ?_
    refine aO hE Tryz.func121 rfl _ rfl ⟨_,hR,rfl,rfl⟩ ((ak.pick [0,1,2,3,4,5] rfl).trans (ew _ _ _ _ _ _ _ _ _ _ _ _ _))
   ·intro h0
    obtain⟨x,p,Sq⟩:∃x p,A.ec=x::p:=by
     cases h:A.ec with
     | nil=>rw[h]at h0;simp at h0
     | cons x p=>exact⟨x,p,rfl⟩
    have hm:A.meet true=if x=1 then(6,{ A with ec:=p })else if x=2 then(7,{ A with ec:=p,off:=true })else(0,{ A with ec:=p }):=by simp[Ab.meet,← iw,Sq]
    have aad:lr ej (.slice a A.ec.length cap) (x::p):=by have:=hR.ec;rw[Sq]at this;rw[Sq];exact this
    have hlen:A.ec.length=p.length+1:=by rw[Sq];rfl
    have xM:=hR.kr
    obtain⟨b,o,gZ,fL⟩:=(aad.view 5).some (by simp[bV])
    simp only[Value.slice.injEq]at fL
    obtain⟨rfl,_,rfl⟩:=fL
    refine go ?_
    refine bR 0 zr zr zr zr zr zr zr zr ag ?_
    refine vv (U:=aR) 2 zr zr zr (Vw.cell (cap:=cap) (n:=(x::p).length) (cs:=bV (x::p)) (by rw[← Sq];exact hR.ec.view _) (c:=u8 x) (by simp[bV])) zr zr ?_
    refine go ?_
    refine mC zr zr zr zr zr zr zr ag ag (.inl rfl) ?_
    intro o' QX _
    have hn:(A.ec.length:Int).toNat-(1:Int).toNat=p.length:=by omega
    rw[hn]
    have hp:lr ej (.slice (some ⟨b,o',none⟩) p.length (cap-(1:Int).toNat)) p:=aad.tail o' _ (fun df=>QX (by
     have:0<p.length:=List.length_pos_iff.2 df
     omega)) ag
    have hoA:A.off=false:=iw.symm
    have hR1:=hR.E6 hp ag
    have Ri:=hR.SY true hp ag
    clear aad hp QX
    refine go ?_
    refine au zr zr ?_ ?_
    ·intro hx
     have A9:x=1:=O' hx
     rw[hm,if_pos A9]at hE
     refine go ?_
     refine aO hE Tryz.func121 rfl _ rfl ⟨_,hR1,rfl,rfl⟩ ((ak.pick [0,1,2,3,4,5] rfl).trans (ew _ _ _ _ _ _ _ _ _ _ _ _ _))
    ·intro hx
     have A9:x≠1:=fun h=>hx (by rw[h];rfl)
     refine go ?_
     refine au zr zr ?_ ?_
     ·intro hy
      have yp:x=2:=O' hy
      rw[hm,if_neg A9,if_pos yp]at hE
      refine go ?_
      refine aO hE Tryz.func121 rfl _ rfl ⟨_,Ri,rfl,rfl⟩ ((ak.pick [0,1,2,3,4,5] rfl).trans (ew _ _ _ _ _ _ _ _ _ _ _ _ _))
     ·intro hy
      have yp:x≠2:=fun h=>hy (by rw[h];rfl)
      rw[hm,if_neg A9,if_neg yp]at hE
      refine go ?_
      refine aO hE Tryz.func121 rfl _ rfl ⟨_,hR1,rfl,rfl⟩ ((ak.pick [0,1,2,3,4,5] rfl).trans (ew _ _ _ _ _ _ _ _ _ _ _ _ _))
theorem pR(l:List (ByteArray × Nat))(name:ByteArray):dP (ff l) name=(Ab.bC l name).map ptr:=by
 unfold dP Ab.bC ff
 induction l with
 | nil=>rfl
 | cons x l ih =>
  grind
def kz{maps:List (Nat × List (ByteArray × Value))}{b:Nat}{es:List (ByteArray × Value)}(hs:Sat G w H)(hi:cM H i=some (aU lH maps))(hm:(b,es)∈maps) :
  ∃o,qA Value.string o es∧w.heap[b]?=some o:=by
 obtain⟨h,hh,hA⟩:=hs.lN hi
 obtain⟨h',s,hb⟩:=BP hm hA
 unfold lH aL at hb
 obtain⟨o,ho,hp⟩:=hb
 unfold ae at hp
 exact⟨o,ho,hh b o (s b o (by rw[hp b];simp))⟩
def xY:kG Tryz.prog 9 Value.string:=QB Tryz.underlying9
def Y9:Option Nat→Value
 | none => .pointer none
 | some f=>ptr f
def kF(bd:Nat)(D:Dk)(A:Ab)(hR:Rel D A)(name:ByteArray)(may:Bool) :
  aD Tryz.prog 155 [ptr bd,.string name,.bool may] [gY bd D] (fun v H=>∃D',Rel D' (A.find name may).2.2∧H=[gY bd D']∧v = .tuple #[Y9 (A.find name may).2.1,.int .i64 (A.find name may).1]):=by
 refine aD.aw Tryz.func155 Tryz.ntmps155 fun G F R hE=>?_
 refine go ?_
 refine cO [0] zr zr zr zr (zA bd D A hR may) rfl nq ?_
 rintro _ _⟨D',gD,rfl,rfl⟩
 refine go ?_
 refine fZ zr zr ?_ ?_
 ·intro h0
  have p5:¬(A.meet may).1=0:=by have:=of_decide_eq_true h0;omega
  have hf:A.find name may=((A.meet may).1,none,(A.meet may).2):=by simp[Ab.find,p5]
  rw[hf]at hE
  refine go ?_
  refine aO hE Tryz.func155 rfl _ rfl ⟨D',gD,rfl,rfl⟩ (ak.pick [0] rfl)
 ·intro h0
  have p5:(A.meet may).1=0:=by have:=of_decide_eq_false h0;omega
  obtain⟨room,bm,ly,ml,od,off,maps,ej,files,gI,wl⟩:=D'
  refine ai (iU _ _ _ _ _ _ _ _ _ _ _ _ _) (go ?_)
  refine rf (U:=aR) rfl xY zr zr zr zr zr zr zr (fun w hw=>kz (i:=1) hw rfl gD.names) ?_
  rw[pR]
  cases hl:Ab.bC (A.meet may).2.names name with
  | none =>
   have hf:A.find name may=(4,none,(A.meet may).2):=by simp[Ab.find,p5,Ab.look,hl]
   rw[hf]at hE
   refine go ?_
   refine aO hE Tryz.func155 rfl _ rfl ⟨_,gD,rfl,rfl⟩ ((ak.pick [0,1,2,3,4,5] rfl).trans (ew _ _ _ _ _ _ _ _ _ _ _ _ _))
  | some fl =>
   have hf:A.find name may=(0,some fl,(A.meet may).2):=by simp[Ab.find,p5,Ab.look,hl]
   rw[hf]at hE
   refine go ?_
   refine aO hE Tryz.func155 rfl _ rfl ⟨_,gD,rfl,rfl⟩ ((ak.pick [0,1,2,3,4,5] rfl).trans (ew _ _ _ _ _ _ _ _ _ _ _ _ _))
theorem tD{α:Type}{l:List (Nat × α)}(hn:(l.map (·.1)).Nodup){x:α}(hi:l[i]?=some (f,x)):(l.find? fun x=>decide (x.1=f))=some (f,x):=by
 induction l generalizing i with
 | nil=>simp at hi
 | cons y l ih =>
  grind
def Rel.file{D:Dk}(h:Rel D A)(hf:f∈A.fs.map (·.1)):∃(i:Nat) (v1 v2:Value),D.files[i]?=some (f,v1,v2)∧A.fs[i]?=some (f,A.now f,A.sure f)∧lr D.ej v1 (A.now f)∧lr D.ej v2 (A.sure f):=by
 obtain⟨⟨f',n,s⟩,hm,rfl⟩:=List.mem_map.1 hf
 obtain⟨i,hi⟩:=List.getElem?_of_mem hm
 obtain⟨⟨f2,v1,v2⟩,hx,h1,h2,h3⟩:=h.fs.right hi
 simp only at h1 h2 h3
 subst h1
 have oI:A.file f2=(n,s):=by unfold Ab.file;rw[tD h.ids hi];rfl
 refine⟨i,v1,v2,hx,?_,?_,?_⟩
 ·rw[hi];simp[Ab.now,Ab.sure,oI]
 ·simpa[Ab.now,oI]using h2
 ·simpa[Ab.sure,oI]using h3
def Rel.small{D:Dk}(h:Rel D A)(f:Nat):(A.now f).length≤1048576∧(A.sure f).length≤1048576:=by
 unfold Ab.now Ab.sure Ab.file
 cases hf:A.fs.find? fun x=>decide (x.1=f)with
 | none=>simp
 | some x=>simpa using h.gC x (List.mem_of_find?_eq_some hf)
def Ae{files:List (Nat × Value × Value)}{j:Nat}(hs:Sat G w H)(hi:cM H i=some (aU fA files))(hm:files[j]?=some (f,v1,v2)) :
  w.heap[f]?=some (cl [v1,v2] 101):=by
 obtain⟨h,hh,hA⟩:=hs.lN hi
 obtain⟨h',s,hb⟩:=BP (List.mem_of_getElem? hm) hA
 unfold fA ae at hb
 exact hh f _ (s f _ (by rw[hb f];simp))
def uX{files:List (Nat × Value × Value)}{j:Nat}(hs:Sat G w H)(hi:cM H i=some (aU fA files))(hm:files[j]?=some (f,v1,v2)) :
  w.cell? ⟨f,0,none⟩=some v1:=by rw[ea (Ae hs hi hm)];rfl
theorem pC{l:List (ByteArray × Nat)}(hn:(l.map (·.1)).Nodup)(h:(k,f)∈l):Ab.bC l k=some f:=by
  obtain⟨i,hi⟩:=List.getElem?_of_mem h
  have:dP (l.map fun x=>(x.1,Value.int .i64 x.2)) k=some (.int .i64 f):=CH (i:=i) (by simp[hi]) (fun j hj he=>by
    rw[List.map_map]at he
    have h1:(l.map (·.1))[j]?=(l.map (·.1))[i]? := by
      grind
    have:=(List.getElem?_inj (by
      rcases Nat.lt_or_ge j (l.map (·.1)).length with h|h
      · exact h
      · rw[List.getElem?_eq_none h]at h1;simp[hi]at h1) hn).1 h1
    omega)
  unfold dP at this
  unfold Ab.bC
  rw[List.find?_map]at this
  simp only[Option.map_map]at this
  cases hx:l.find? fun x=>decide (x.1=k)with
  | none => have e : (l.find? ((fun x => decide (x.1 = k)) ∘ fun x => (x.1, Value.int IntKind.i64 (x.2 : Nat)))) = none := hx
            rw[e]at this;cases this
  | some y => 
    have e:(l.find? ((fun x=>decide (x.1=k)) ∘ fun x=>(x.1,Value.int IntKind.i64 (x.2:Nat))))=some y:=hx
    grind
theorem qB{l:List (ByteArray × Nat)}(h:Ab.bC l k=some f):(k,f)∈l:=by
 unfold Ab.bC at h
 cases hx:l.find? fun x=>decide (x.1=k)with
 | none=>rw[hx]at h;cases h
 | some y =>
  grind
def lenOf(A:Ab)(k:ByteArray):Nat:=(A.look k).elim 0 fun f=>(A.now f).length
def sumOf(A:Ab)(l:List ByteArray):Nat:=(l.map (lenOf A)).sum
theorem EY(h:∀f,(A.now f).length≤1048576)(l:List ByteArray):sumOf A l≤l.length*1048576:=by
 induction l with
 | nil=>simp[sumOf]
 | cons k l ih =>
  have h1:lenOf A k≤1048576:=by unfold lenOf;cases A.look k with|none=>simp|some f=>exact h f
  grind [sumOf]
def IV{α:Type}[DecidableEq α]{l r:List α}(h1:l.Nodup)(h2:r.Nodup)(h:∀x,x∈l↔x∈r):l.Perm r:=(List.perm_ext_iff_of_nodup h1 h2).2 h
theorem wj{α:Type}[DecidableEq α]{l r:List α}(h1:l.Nodup)(h:∀x∈l,x∈r):l.length≤r.length:=by
 induction l generalizing r with
 | nil=>simp
 | cons x l ih =>
  simp only[List.nodup_cons]at h1
  have:=ih (r:=r.erase x) h1.2 (fun y hy=>(List.mem_erase_of_ne (by rintro rfl;exact h1.1 hy)).2 (h y (by simp[hy])))
  grind
def yV(hn:(A.names.map (·.1)).Nodup):sumOf A (A.names.map (·.1))=A.used:=by
 unfold sumOf Ab.used
 rw[List.map_map]
 congr 1
 apply List.map_congr_left
 rintro⟨k,f⟩ hx
 have:A.look k=some f:=pC hn hx
 simp[lenOf,this]
theorem RL(bd:Nat)(D:Dk)(A:Ab)(hR:Rel D A) :
  aD Tryz.prog 156 [ptr bd] [gY bd D] (fun v H=>H=[gY bd D]∧v = .int .i64 A.used):=by
 obtain⟨room,bm,ly,ml,od,off,maps,ej,files,gI,wl⟩:=D
 refine aD.aw Tryz.func156 Tryz.ntmps156 fun G F R hE=>?_
 refine ai (iU _ _ _ _ _ _ _ _ _ _ _ _ _) (go ?_)
 obtain⟨j,hj⟩:=List.getElem?_of_mem hR.names
 simp only at hj
 refine aJ (ak.pick [1] rfl) ?_
 refine aJ (iB lH hj _) ?_
 refine yC (kv:=Value.string) (es:=ff A.names) (U:=aR) 0 zr zr zr zr zr (fun _=>rfl) bE ?_
 intro it
 refine go ?_
 have jh:=hR.nodup _ (List.mem_cons_self ..)
 have Gm:(ff A.names).map (·.1)=A.names.map (·.1):=by simp[ff,Function.comp_def]
 refine bB (fun dn:List ByteArray=>dn.Nodup∧∀x∈dn,x∈A.names.map (·.1)) (fun dn=>A.names.length-dn.length)
  (fun dn=>[(3,.int .i64 (sumOf A dn)),(10,.pointer (some ⟨it,0,none⟩))])
  (fun dn=>bU Value.string bm it (ff A.names) dn::aU lH (maps.eraseIdx j)::ae bd (cl [.int .i64 room,.map (some bm),ly,ml,od,.bool off] 61)::bh 5 ej::aU fA files::aF 57 1 ly gI.length (gI.map fun b => .map (some b))::aF 97 3 ml wl.length (fE wl)::F)
  [] ⟨List.nodup_nil,by simp⟩ rfl ck (ak.refl _) ?_
 rintro dn⟨uP,dU⟩ ih
 have hlen:=wj uP dU
 have hb:=EY (fun f=>(hR.small f).1) dn
 have hN:=hR.fF _ (List.mem_cons_self ..)
 rw[List.length_map]at hlen
 refine go ?_
 refine Ek (kv:=Value.string) (es:=ff A.names) 0 rfl xY.inj zr zr (fun _=>rfl) gf bE ?_ ?_
 ·intro iy
  refine go ?_
  have hp:sumOf A dn=A.used:=by
   rw[← yV jh]
   refine List.Perm.sum_nat ((IV uP jh fun x=>⟨dU x,fun hx=>?_⟩).map _)
   grind
  refine ai ((ak.head (B:=[lH (bm,ff A.names)]) (fun h hs=>by obtain⟨h',s,hm⟩:=rC h hs;exact⟨h',s,gu hm⟩)).trans (qm lH hj _)) ?_
  rw[hp]
  refine aO hE Tryz.func156 rfl _ rfl ⟨rfl,rfl⟩ ((ak.pick [1,0] rfl).trans ((ak.pick [0,1,2,3,4,5] rfl).trans (ew _ _ _ _ _ _ _ _ _ _ _ _ _)))
 ·intro key v gp zP
  obtain⟨⟨k',f⟩,hx,OR⟩:=List.mem_map.1 gp
  simp only[Prod.mk.injEq]at OR
  obtain⟨rfl,rfl⟩:=OR
  refine go ?_
  refine yG (kv:=Value.string) (es:=ff A.names) 0 rfl xY.inj zr zr gp (go ?_)
  obtain⟨i,v1,v2,hi,rX,nr,wx⟩:=hR.file (hR.known _ (List.mem_cons_self ..) _ hx)
  obtain⟨a,cap,rfl,kj⟩:=nr.shape
  refine yF (U:=aR) zr zr (fun w hw=>uX (i:=4) hw rfl hi) zr zr ?_
  have l9:A.look k'=some f:=pC jh hx
  have hl:lenOf A k'=(A.now f).length:=by simp[lenOf,l9]
  have xM:=(hR.small f).1
  have ZI:k'∈A.names.map (·.1):=List.mem_map.2 ⟨_,hx,rfl⟩
  have La:(k'::dn).Nodup:=List.nodup_cons.2 ⟨zP,uP⟩
  have wz:∀x∈k'::dn,x∈A.names.map (·.1):=fun x hx=>by
   grind
  have zS:=wj La wz
  rw[List.length_map,List.length_cons]at zS
  refine go ?_
  refine bj 3 (.int .i64 (sumOf A (k'::dn))) rfl (congrArg (Value.int .i64) (by simp only[sumOf,List.map_cons,List.sum_cons,hl];omega)) ?_
  refine aM ih (k'::dn) rfl ⟨La,wz⟩ (by show _-(_+1)<_;omega) ck (ak.refl _)
def Bg(b:Nat)(es:List (ByteArray × Value)) :
  aD Tryz.prog 199 [.map (some b)] [aL Value.string b es] (fun v H=>∃b',v = .map (some b')∧H=[aL Value.string b' es,aL Value.string b es]):=by
 refine aD.enter Tryz.func199 aq rfl Tryz.ntmps199 zr zr ?_
 intro G F R hR
 refine go ?_
 refine Oq (U:=aR) zr zr zr zr ?_
 refine Hw (kv:=Value.string) (es:=es) 0 rfl Tryz.func220 aq aq aq aq zr zr bE ?_
 intro b'
 refine Sc (U:=aR) zr zr zr zr (go ?_)
 refine aO hR Tryz.func199 rfl _ rfl ⟨b',rfl,rfl⟩ (ak.fin [0,1] 0 zr zr)
def mY{α:Type}(bd:Nat)(D:Dk)(nm:List (ByteArray × Nat))(hm:(D.bm,ff nm)∈D.maps)(g:FuncId)(cap:Array Value)(E:HP)(nm':α→List (ByteArray × Nat))(E':α→HP)(q:α→Prop)(hc:∀b',aD Tryz.prog g (.map (some b')::cap.toList) [aL Value.string b' (ff nm),E] (fun _ H=>∃x,q x∧H=[aL Value.string b' (ff (nm' x)),E' x]))(hlen:D.gI.length≤1000000000) :
  aD Tryz.prog 139 [ptr bd,.func (.func g) #[] cap] [gY bd D,E]
   (fun _ H=>∃x b' v,q x∧H=[gY bd { D with bm:=b',maps:=(b',ff (nm' x))::D.maps,ly:=v,gI:=D.gI++[b'] },E' x]):=by
 obtain⟨room,bm,ly,ml,od,off,maps,ej,files,gI,wl⟩:=D
 simp only at hm hlen ⊢
 refine aD.aw Tryz.func139 Tryz.ntmps139 fun G F R hE=>?_
 refine ai (iU _ _ _ _ _ _ _ _ _ _ _ _ _) (go ?_)
 obtain⟨j,hj⟩:=List.getElem?_of_mem hm
 refine aJ (ak.pick [1] rfl) ?_
 refine aJ (iB lH hj _) ?_
 refine cO [0] zr zr zr zr (Bg bm (ff nm)) rfl nq ?_
 rintro _ _⟨b',rfl,rfl⟩
 refine aJ (ak.pick [1,2] rfl) ?_
 refine aJ (qm lH hj _) (go ?_)
 refine cO [1,7] zr zr zr zr (hc b') rfl nq ?_
 rintro _ _⟨x,hq,rfl⟩
 refine aJ (ak.pick [0,2] rfl) ?_
 refine aJ (rq lH (b',ff (nm' x)) maps _) (go ?_)
 refine aG (fun w=>Sat G w ([ae bd (cl [.int .i64 room,.map (some b'),ly,ml,od,.bool off] 61)])) (dj 0 9 (.act 9 (.act 10 (.st 11 (.st 12 (.act 13 .nil)))))) rfl aq aq aq (fun w hw=>hw.cL (ak.bF ([2]) rfl)) ?_
 refine go ?_
 refine ao zr zr zr zr zr zr zr zr zr (fun _ w hw=>hw.cL (ak.bF ([3]) rfl)) ?_
 intro b0
 refine aT (mm:=1) (news:=[.map (some b')]) 6 0 zr zr zr zr zr zr zr zr zr zr zr zr (Vw.ae rfl) rfl (by simp[Value.oneCell']) ag (by show _*8≤_;omega) (fun _=>rfl) (fun _ w hw=>hw.cL (ak.bF ([3]) rfl)) ?_
 intro v'
 have e1:(gI.map fun b=>Value.map (some b))++[.map (some b')]=(gI++[b']).map fun b=>Value.map (some b):=by simp
 have e2:gI.length+1=(gI++[b']).length:=by simp
 rw[e1,e2]
 refine aP 6 rfl ?_
 rintro av cv rfl
 refine go ?_
 refine ai (ak.pick [3,1,4,5,6,7,2] rfl) ?_
 refine ai (ew bd room b' _ ml od off _ ej files (gI++[b']) wl _) ?_
 refine cd hE Tryz.func139 rfl _ rfl ⟨x,b',_,hq,rfl⟩ (ak.fin [0,1] 1 zr zr)
def Rel.new(room bm UC:Nat)(v:Value)(h:room≤1073741824):Rel ⟨room,bm,v,.slice none 0 0,.slice none 0 0,false,[(UC,[]),(bm,[])],[],[],[UC],[]⟩ (Ab.new room) where
 room:=rfl
 off:=rfl
 names:=by simp[Ab.new,ff]
 aj:=fD.one (by simp[ff])
 fs:=fD.nil
 writes:=fD.nil
 ec:=lr.nil _ _ _
 ids:=by simp[Ab.new]
 known:=by simp[Ab.new]
 eg:=by simp[Ab.new]
 nodup:=by simp[Ab.new]
 gC:=by simp[Ab.new]
 ib:=by simp[Ab.new]
 fF:=by simp[Ab.new]
 ie:=h
 kr:=by simp[Ab.new]
 full:=by simp[Ab.new]
def RY(room:Nat)(h1:1≤room)(h2:room≤1073741824) :
  aD Tryz.prog 6 [.int .i64 room] [] (fun v H=>∃bd D,Rel D (Ab.new room)∧v = .tuple #[ptr bd,.int .i64 0]∧H=[gY bd D]):=by
 refine aD.aw Tryz.func6 Tryz.ntmps6 fun G F R hE=>?_
 repeat'(first|(with_reducible intro p6)|refine eZ ?_|refine hJ zr zr zr zr ?_ ?_|refine au zr zr ?_ ?_)
 ·omega
 ·omega
 refine j9 rfl bE ?_
 intro bm
 refine aJ (ak.head (B:=[lH (bm,[])]) (fun h hs=>⟨h,sub.refl h,gu (lG _ _ h hs)⟩)) ?_
 refine j9 rfl bE ?_
 intro UC
 refine aJ (ak.head (B:=[lH (UC,[])]) (fun h hs=>⟨h,sub.refl h,gu (lG _ _ h hs)⟩)) ?_
 refine ao zr zr zr zr zr zr zr zr zr bE ?_
 intro b0
 refine go ?_
 refine bG zr zr bE ?_
 intro bd
 refine go ?_
 refine ai (BO lH _) ?_
 refine ai (ak.pick [4,0] rfl) ?_
 refine ai (rq lH (bm,[]) [] _) ?_
 refine ai (ak.pick [3,0] rfl) ?_
 refine ai (rq lH (UC,[]) [(bm,[])] _) ?_
 refine ai (ak.pick [2] rfl) ?_
 refine ai (eS 57 1 b0 1 1 [.map (some UC)] [] _ rfl (Nat.le_refl _) (by simp)) ?_
 refine ai (bK 97 3 none _) ?_
 refine ai (Ay 5 _) ?_
 refine ai (BO fA _) ?_
 refine ai (ak.pick [5,4,1,0,3,2] rfl) ?_
 refine ai (ew bd room bm (.slice (some ⟨b0,0,none⟩) 1 1) (.slice none 0 0) (.slice none 0 0) false [(UC,[]),(bm,[])] [] [] [UC] [] _) ?_
 refine aO hE Tryz.func6 rfl _ rfl ⟨bd,_,Rel.new room bm UC _ h2,rfl,rfl⟩ (ak.fin [0] 0 zr zr)
theorem pD{l:List (ByteArray × Nat)}:(Ab.bC l k).isSome=true↔k∈l.map (·.1):=by
 unfold Ab.bC
 grind
def CK(l:List (ByteArray × Nat))(k:ByteArray):rZ (ff l) k=ff (Ab.ef l k):=by
 unfold rZ ff Ab.ef
 rw[List.filter_map]
 rfl
theorem CE(l:List (ByteArray × Nat))(k:ByteArray)(f:Nat):gG (ff l) k (ptr f)=ff (Ab.jT l k f):=by
 have hk:(ff l).map (·.1)=l.map (·.1):=by simp[ff,Function.comp_def]
 unfold gG Ab.jT
 rw[hk]
 by_cases h:(Ab.bC l k).isSome=true
 ·rw[if_pos (pD.1 h),if_pos h]
  simp only[ff,List.map_map]
  apply List.map_congr_left
  grind
 ·rw[if_neg (fun h'=>h (pD.2 h')),if_neg h]
  simp[ff]
def Hj(b box:Nat)(l:List (ByteArray × Nat))(k:ByteArray) :
  aD Tryz.prog 166 [.map (some b),ptr box] [aL Value.string b (ff l),ae box (cl [.string k] 9)] (fun _ H=>H=[aL Value.string b (ff (Ab.ef l k)),ae box (cl [.string k] 9)]):=by
 refine aD.aw Tryz.func166 Tryz.ntmps166 fun G F R hE=>?_
 refine go ?_
 refine gF 0 xY gf zr zr zr zr zr zr zr ?_
 rw[CK]
 refine go ?_
 refine cd hE Tryz.func166 rfl _ zr zr (ak.fin [0,1] 0 zr zr)
def qS(b Av Au ady f:Nat)(l:List (ByteArray × Nat))(k k2:ByteArray) :
  aD Tryz.prog 206 [.map (some b),ptr Av,ptr Au,ptr ady] [aL Value.string b (ff l),Sep [ae Av (cl [.string k] 9),ae Au (cl [ptr f] 95),ae ady (cl [.string k2] 9)]]
   (fun _ H=>H=[aL Value.string b (ff (Ab.jT (Ab.ef l k) k2 f)),emp]):=by
 refine aD.aw Tryz.func206 Tryz.ntmps206 fun G F R hE=>?_
 refine ai (ak.pick [1] rfl) ?_
 refine ai (ak.cK _ _) (go ?_)
 refine gF 3 xY gf zr zr zr zr zr zr zr ?_
 rw[CK]
 refine go ?_
 refine eV 3 xY gf zr zr zr zr zr zr zr zr ?_
 rw[CE]
 refine go ?_
 refine ai (ak.pS _) ?_
 refine cd hE Tryz.func206 rfl _ zr zr (ak.fin [4,0] 3 zr zr)
def HI(b box:Nat)(l:List (ByteArray × Nat))(k:ByteArray) :
  aD Tryz.prog 140 [.map (some b),ptr box] [aL Value.string b (ff l),ae box (cl [.string k] 9)]
   (fun _ H=>∃f,True∧H=[aL Value.string b (ff (Ab.jT l k f)),fA (f,.slice none 0 0,.slice none 0 0)]):=by
 refine aD.aw Tryz.func140 Tryz.ntmps140 fun G F R hE=>?_
 refine go ?_
 refine bG zr zr bE ?_
 intro f
 refine go ?_
 refine eV (v:=ptr f) 1 xY gf zr zr zr zr zr zr zr zr ?_
 rw[CE]
 refine go ?_
 refine cd hE Tryz.func140 rfl _ rfl ⟨f,trivial,rfl⟩ (ak.fin [1,0] 1 zr zr)
def fresh(l:List Nat):∃n,n ∉ l:=by
  suffices h:∃n,∀x∈l,x<n from let ⟨n,hn⟩:=h;⟨n,fun hx=>Nat.lt_irrefl _ (hn n hx)⟩
  induction l with
  | nil=>exact⟨0,by simp⟩
  | cons a l ih =>
    obtain⟨n,hn⟩:=ih
    exact⟨max n (a+1),fun x hx=>by
      rcases List.mem_cons.1 hx with rfl|h
      · omega
      · have:=hn x h;omega⟩
def JD{files:List (Nat × Value × Value)}{x:Nat × Value × Value}(hs:Sat G w (fA x::aU fA files::H)):x.1 ∉ files.map (·.1):=by
 intro hx
 obtain⟨y,hy,he⟩:=List.mem_map.1 hx
 obtain⟨i,hi⟩:=List.getElem?_of_mem hy
 have h1:=hs.cL ((ak.perm (List.Perm.swap _ _ _)).trans ((iB fA hi _).trans (ak.pick [2,0] rfl)))
 unfold fA at h1
 exact h1.ne he.symm
theorem KO(A:Ab)(may:Bool):(A.meet may).2.fs=A.fs∧(A.meet may).2.names=A.names∧(A.meet may).2.aj=A.aj∧(A.meet may).2.writes=A.writes∧(A.meet may).2.room=A.room:=by
 unfold Ab.meet
 grind
theorem Rel.n7{D:Dk}(h:Rel D A){b':Nat}{nm:List (ByteArray × Nat)}(hk:∀x∈nm,x.2∈A.fs.map (·.1))(hn:(nm.map (·.1)).Nodup)(hl:nm.length≤200) :
  Rel { D with bm:=b',maps:=(b',ff nm)::D.maps,ly:=v,gI:=D.gI++[b'] } (A.n7 nm) where
 room:=h.room
 off:=h.off
 names:=by simp[Ab.n7]
 aj:=fD.snoc (h.aj.mono fun b es hb=>List.mem_cons_of_mem _ hb) (by simp)
 fs:=h.fs
 writes:=h.writes
 ec:=h.ec
 ids:=h.ids
 known:=by
  intro st bP
  simp only[Ab.n7,List.mem_cons,List.mem_append,List.not_mem_nil,or_false]at bP
  rcases bP with rfl|bP|rfl
  ·exact hk
  ·exact h.known _ (List.mem_cons_of_mem _ bP)
  ·exact hk
 eg:=h.eg
 nodup:=by
  intro st bP
  simp only[Ab.n7,List.mem_cons,List.mem_append,List.not_mem_nil,or_false]at bP
  rcases bP with rfl|bP|rfl
  ·exact hn
  ·exact h.nodup _ (List.mem_cons_of_mem _ bP)
  ·exact hn
 gC:=h.gC
 ib:=h.ib
 fF:=by
  intro st bP
  simp only[Ab.n7,List.mem_cons,List.mem_append,List.not_mem_nil,or_false]at bP
  rcases bP with rfl|bP|rfl
  ·exact hl
  ·exact h.fF _ (List.mem_cons_of_mem _ bP)
  ·exact hl
 ie:=h.ie
 kr:=h.kr
 full:=by simp[Ab.n7]
def Rel.UI{D:Dk}(h:Rel D A)(hf:f ∉ A.fs.map (·.1)):Rel { D with files:=(f,.slice none 0 0,.slice none 0 0)::D.files } { A with fs:=(f,[],[])::A.fs } where
 room:=h.room
 off:=h.off
 names:=h.names
 aj:=h.aj
 fs:=h.fs.cons ⟨rfl,lr.nil _ _ _,lr.nil _ _ _⟩
 writes:=h.writes
 ec:=h.ec
 ids:=by simp only[List.map_cons,List.nodup_cons];exact⟨hf,h.ids⟩
 known:=fun st bP x hx=>List.mem_cons_of_mem _ (h.known st bP x hx)
 eg:=fun x hx=>List.mem_cons_of_mem _ (h.eg x hx)
 nodup:=h.nodup
 gC:=fun x hx=>by
  rcases List.mem_cons.1 hx with rfl|hx
  ·simp
  ·exact h.gC x hx
 ib:=h.ib
 fF:=h.fF
 ie:=h.ie
 kr:=h.kr
 full:=h.full
theorem fD.ids{q:Nat × Value × Value→Nat × List UInt8 × List UInt8→Prop}{l:List (Nat × Value × Value)}{r:List (Nat × List UInt8 × List UInt8)}(h:fD q l r)(hq:∀x y,q x y→x.1=y.1):l.map (·.1)=r.map (·.1):=by
 apply List.ext_getElem?
 intro i
 simp only[List.getElem?_map]
 cases hx:l[i]? with
 | none =>
  have:r[i]?=none:=by rw[List.getElem?_eq_none_iff]at hx ⊢;rw[← h.1];exact hx
  grind
 | some x =>
  obtain⟨y,hy,tP⟩:=h.left hx
  grind
def Rel.adp{D:Dk}(h:Rel D A):D.files.map (·.1)=A.fs.map (·.1):=fD.ids h.fs fun x y tP=>tP.1
def E7{l:List (ByteArray × Nat)}(h:Ab.bC l k=none):Ab.jT l k f=l++[(k,f)]:=by simp[Ab.jT,h]
theorem Ke(bd:Nat)(D:Dk)(A:Ab)(hR:Rel D A)(name:ByteArray)(bP:A.aj.length≤1000000000) :
  aD Tryz.prog 82 [ptr bd,.string name] [gY bd D]
   (fun v H=>∃f D',f ∉ A.fs.map (·.1)∧Rel D' (A.create (isName name) name f).2∧H=[gY bd D']∧v = .int .i64 (A.create (isName name) name f).1):=by
 refine aD.aw Tryz.func82 Tryz.ntmps82 fun G F R hE=>?_
 refine go ?_
 refine bG zr zr bE ?_
 intro box
 refine go ?_
 refine ao zr zr zr zr zr zr zr zr zr bE ?_
 intro b0
 refine go ?_
 refine cO [0] zr zr zr zr (jZ _ _ [name] (Vw.ae rfl) (by simp)) rfl nq ?_
 rintro _ _⟨rfl,rfl⟩
 have e1:[name].all isName=isName name:=by simp
 rw[e1]
 refine go ?_
 refine cO [2] zr zr zr zr (zA bd D A hR (isName name)) rfl nq ?_
 rintro _ _⟨D',gD,rfl,rfl⟩
 obtain⟨f0,hf0⟩:=fresh (A.fs.map (·.1))
 have hmf:=KO A (isName name)
 refine go ?_
 refine fZ zr zr ?_ ?_
 ·intro h0
  have p5:¬(A.meet (isName name)).1=0:=by have:=of_decide_eq_true h0;omega
  have hf:A.create (isName name) name f0=((A.meet (isName name)).1,(A.meet (isName name)).2):=by simp[Ab.create,p5]
  refine go ?_
  refine aO hE Tryz.func82 rfl _ rfl ⟨f0,D',hf0,by rw[hf];exact gD,rfl,by rw[hf];rfl⟩ (ak.fin [0] 2 zr zr)
 ·intro h0
  have p5:(A.meet (isName name)).1=0:=by have:=of_decide_eq_false h0;omega
  obtain⟨room,bm,ly,ml,od,off,maps,ej,files,gI,wl⟩:=D'
  have QK:gI.length≤1000000000:=by have:=gD.aj.1;simp only at this;rw[this,hmf.2.2.1];exact bP
  refine ai (iU _ _ _ _ _ _ _ _ _ _ _ _ _) ?_
  refine aG (fun w=>Sat G w ([ae bd (cl [.int .i64 room,.map (some bm),ly,ml,od,.bool off] 61),aU lH maps,ae box (cl [.string name] 9)])) (dj 0 11 .nil) rfl aq aq aq (fun w hw=>hw.cL (ak.bF ([0,1,7]) rfl)) ?_
  refine go ?_
  refine re (U:=aR) rfl xY zr zr zr zr zr zr zr (fun w hw=>kz (i:=1) hw rfl gD.names) ?_
  rw[pR]
  cases hl:Ab.bC (A.meet (isName name)).2.names name with
  | some fl =>
   have hf:A.create (isName name) name f0=(5,(A.meet (isName name)).2):=by simp[Ab.create,p5,Ab.look,hl]
   refine go ?_
   refine ai ((ak.pick [0,1,2,3,4,5] rfl).trans (ew _ _ _ _ _ _ _ _ _ _ _ _ _)) ?_
   refine aO hE Tryz.func82 rfl _ rfl ⟨f0,_,hf0,by rw[hf];exact gD,rfl,by rw[hf];rfl⟩ (ak.fin [0] 2 zr zr)
  | none =>
   refine go ?_
   refine Ov (kv:=Value.string) (U:=aR) zr zr zr zr (fun w hw=>kz (i:=1) hw rfl gD.names) ?_
   have qg:(ff (A.meet (isName name)).2.names).length=(A.meet (isName name)).2.names.length:=by simp[ff]
   rw[qg]
   refine go ?_
   refine au zr zr ?_ ?_
   ·intro Gp
    have hf:A.create (isName name) name f0=(3,(A.meet (isName name)).2):=by simp[Ab.create,p5,Ab.look,hl];omega
    refine go ?_
    refine ai ((ak.pick [0,1,2,3,4,5] rfl).trans (ew _ _ _ _ _ _ _ _ _ _ _ _ _)) ?_
    refine aO hE Tryz.func82 rfl _ rfl ⟨f0,_,hf0,by rw[hf];exact gD,rfl,by rw[hf];rfl⟩ (ak.fin [0] 2 zr zr)
   ·intro Gp
    refine go ?_
    refine aJ ((ak.pick [0,1,2,3,4,5] rfl).trans (ew _ _ _ _ _ _ _ _ _ _ _ _ _)) ?_
    refine cO [0,2] zr zr zr zr (mY (α:=Nat) bd _ _ gD.names 140 #[ptr box] (ae box (cl [.string name] 9)) (fun f=>Ab.jT (A.meet (isName name)).2.names name f) (fun f=>fA (f,.slice none 0 0,.slice none 0 0)) (fun _=>True) (fun b'=>HI b' box _ name) QK) rfl nq ?_
    rintro _ _⟨f,b',v,_,rfl⟩
    refine go ?_
    refine ai (iU _ _ _ _ _ _ _ _ _ _ _ _ _) ?_
    refine ai (ak.pick [6,3] rfl) ?_
    refine sK fun⟨w,hw⟩=>?_
    have hff:f ∉ A.fs.map (·.1):=by have:=JD hw;have h2:=gD.adp;simp only at h2;rw[h2,hmf.1]at this;exact this
    clear hw
    refine ai (rq fA (f,.slice none 0 0,.slice none 0 0) files _) ?_
    have l9:(A.meet (isName name)).2.look name=none:=hl
    have hf:A.create (isName name) name f=(0,{ (A.meet (isName name)).2.n7 ((A.meet (isName name)).2.names++[(name,f)])with fs:=(f,[],[])::(A.meet (isName name)).2.fs }):=by
     simp only[Ab.create,p5,if_true,l9,Option.isSome_none,Bool.false_eq_true,if_false]
     grind
    have jA:Ab.jT (A.meet (isName name)).2.names name f=(A.meet (isName name)).2.names++[(name,f)]:=E7 hl
    have TN:name ∉ (A.meet (isName name)).2.names.map (·.1):=fun h=>by have:=pD.2 h;rw[hl]at this;cases this
    have Ri:=(gD.UI (f:=f) (by rw[hmf.1];exact hff)).n7 (b':=b') (v:=v) (nm:=(A.meet (isName name)).2.names++[(name,f)])
     (fun x hx=>by
      rcases List.mem_append.1 hx with hx|hx
      ·exact List.mem_cons_of_mem _ (gD.known _ (List.mem_cons_self ..) x hx)
      ·simp only[List.mem_singleton]at hx;subst hx;exact List.mem_cons_self ..)
     (by
      rw[List.map_append,List.nodup_append]
      exact⟨gD.nodup _ (List.mem_cons_self ..),by simp,fun a ha b hb=>by simp at hb;subst hb;rintro rfl;exact TN ha⟩)
     (by rw[List.length_append];simp only[List.length_singleton];omega)
    rw[jA]
    refine ai (ak.pick [1,2,3,0,4,5] rfl) ?_
    refine ai (ew bd room b' _ ml od off _ ej _ (gI++[b']) wl _) ?_
    refine aO hE Tryz.func82 rfl _ rfl ⟨f,_,hff,by rw[hf];exact Ri,rfl,by rw[hf];rfl⟩ (ak.fin [0] 1 zr zr)
def RP(bd:Nat)(D:Dk)(A:Ab)(hR:Rel D A)(name:ByteArray) :
  aD Tryz.prog 123 [ptr bd,.string name] [gY bd D] (fun v H=>H=[gY bd D]∧v = .tuple #[.int .i64 (A.size name).1,.int .i64 (A.size name).2]):=by
 obtain⟨room,bm,ly,ml,od,off,maps,ej,files,gI,wl⟩:=D
 refine aD.aw Tryz.func123 Tryz.ntmps123 fun G F R hE=>?_
 refine ai (iU _ _ _ _ _ _ _ _ _ _ _ _ _) (go ?_)
 refine rf (U:=aR) rfl xY zr zr zr zr zr zr zr (fun w hw=>kz (i:=1) hw rfl hR.names) ?_
 rw[pR]
 cases hl:Ab.bC A.names name with
 | none =>
  have hs:A.size name=(0,4):=by simp[Ab.size,Ab.look,hl]
  rw[hs]at hE
  refine go ?_
  refine ai ((ak.pick [0,1,2,3,4,5] rfl).trans (ew _ _ _ _ _ _ _ _ _ _ _ _ _)) ?_
  refine aO hE Tryz.func123 rfl _ rfl ⟨rfl,rfl⟩ (ak.fin [0] 0 zr zr)
 | some fl =>
  have hs:A.size name=((A.now fl).length,0):=by simp[Ab.size,Ab.look,hl]
  rw[hs]at hE
  obtain⟨i,v1,v2,hi,rX,nr,wx⟩:=hR.file (f:=fl) (hR.known _ (List.mem_cons_self ..) _ (qB hl))
  obtain⟨a,cap,rfl,kj⟩:=nr.shape
  refine go ?_
  refine yF (U:=aR) zr zr (fun w hw=>uX (i:=3) hw rfl hi) zr zr ?_
  refine go ?_
  refine ai ((ak.pick [0,1,2,3,4,5] rfl).trans (ew _ _ _ _ _ _ _ _ _ _ _ _ _)) ?_
  refine aO hE Tryz.func123 rfl _ rfl ⟨rfl,rfl⟩ (ak.fin [0] 0 zr zr)
def RT(bd:Nat)(D:Dk)(A:Ab)(hR:Rel D A)(name:ByteArray)(at_ n:Int) :
  aD Tryz.prog 124 [ptr bd,.string name,.int .i64 at_,.int .i64 n] [gY bd D]
   (fun v H=>∃r,H=[aF 5 1 r (A.read name at_ n).1.length (bV (A.read name at_ n).1),gY bd D]∧v = .tuple #[r,.int .i64 (A.read name at_ n).2]):=by
 obtain⟨room,bm,ly,ml,od,off,maps,ej,files,gI,wl⟩:=D
 have iw:=hR.off
 simp only at iw
 refine aD.aw Tryz.func124 Tryz.ntmps124 fun G F R hE=>?_
 refine ai (iU _ _ _ _ _ _ _ _ _ _ _ _ _) ?_
 cases off with
 | true =>
  have hs:A.read name at_ n=([],7):=by simp[Ab.read,← iw]
  rw[hs]at hE
  refine go ?_
  refine ai ((ak.pick [0,1,2,3,4,5] rfl).trans (ew _ _ _ _ _ _ _ _ _ _ _ _ _)) ?_
  refine ai (bK 5 1 none _) ?_
  refine aO hE Tryz.func124 rfl _ rfl ⟨_,rfl,rfl⟩ (ak.fin [0,1] 0 zr zr)
 | false =>
  refine go ?_
  refine rf (U:=aR) rfl xY zr zr zr zr zr zr zr (fun w hw=>kz (i:=1) hw rfl hR.names) ?_
  rw[pR]
  cases hl:Ab.bC A.names name with
  | none =>
   have hs:A.read name at_ n=([],4):=by simp[Ab.read,Ab.look,hl,← iw]
   rw[hs]at hE
   refine go ?_
   refine ai ((ak.pick [0,1,2,3,4,5] rfl).trans (ew _ _ _ _ _ _ _ _ _ _ _ _ _)) ?_
   refine ai (bK 5 1 none _) ?_
   refine aO hE Tryz.func124 rfl _ rfl ⟨_,rfl,rfl⟩ (ak.fin [0,1] 0 zr zr)
  | some fl =>
   have hs:A.read name at_ n=if at_<0∨n<0∨((A.now fl).length:Int)<at_∨((A.now fl).length:Int)-at_<n then([],1)else(((A.now fl).drop at_.toNat).take n.toNat,0):=by simp[Ab.read,Ab.look,hl,← iw]
   obtain⟨i,v1,v2,hi,rX,nr,wx⟩:=hR.file (f:=fl) (hR.known _ (List.mem_cons_self ..) _ (qB hl))
   obtain⟨a,cap,rfl,kj⟩:=nr.shape
   have xM:=(hR.small fl).1
   have jj:∀(h:at_<0∨n<0∨((A.now fl).length:Int)<at_∨((A.now fl).length:Int)-at_<n),A.read name at_ n=([],1):=fun h=>by rw[hs,if_pos h]
   repeat'(first|(with_reducible intro p6)|refine eZ ?_|refine hJ zr zr zr zr ?_ ?_|refine au zr zr ?_ ?_|refine yF (U:=aR) zr zr (fun w hw=>uX (i:=3) hw rfl hi) zr zr ?_)
   any_goals (
    have wz:=jj ag
    rw[wz]at hE
    refine ai ((ak.pick [0,1,2,3,4,5] rfl).trans (ew _ _ _ _ _ _ _ _ _ _ _ _ _)) ?_
    refine ai (bK 5 1 none _) ?_
    refine aO hE Tryz.func124 rfl _ rfl ⟨_,rfl,rfl⟩ (ak.fin [0,1] 0 zr zr))
   refine bt zr zr zr zr zr zr zr ag ag (.inr ag) ?_
   have hr:A.read name at_ n=(((A.now fl).drop at_.toNat).take n.toNat,0):=by rw[hs,if_neg ag]
   have ny:=nr.cut at_.toNat n.toNat ag
   have hlen:(((A.now fl).drop at_.toNat).take n.toNat).length=n.toNat:=by rw[List.length_take,List.length_drop];omega
   refine az 61 (.slice (sliceAt a cap at_.toNat 1) (((A.now fl).drop at_.toNat).take n.toNat).length (cap-at_.toNat)) rfl (by rw[hlen];congr 1;omega) ?_
   have VB:lr ej (.slice (sliceAt a cap at_.toNat 1) (((A.now fl).drop at_.toNat).take n.toNat).length (cap-at_.toNat)) (((A.now fl).drop at_.toNat).take n.toNat):=by rw[hlen];exact ny
   rw[hr]at hE
   clear ny hr hs jj
   generalize VG:((A.now fl).drop at_.toNat).take n.toNat=bs at hE VB hlen ⊢
   refine go ?_
   refine cO [2] zr zr zr zr (ke _ _ bs (VB.view _) ag) rfl nq ?_
   rintro r _ rfl
   refine go ?_
   refine ai (ak.pick [2,3,1,4,5,6] rfl) ?_
   refine ai (ew bd room bm ly ml od false maps ej files gI wl _) ?_
   refine aO hE Tryz.func124 rfl _ rfl ⟨r,rfl,rfl⟩ (ak.fin [1,0] 0 zr zr)
def fK(name:ByteArray)(at_:Int)(b:List UInt8):Bool:=isName name && decide (0≤at_) && decide (at_≤1048576) && decide ((b.length:Int)≤1048576-at_)
def Ad(A:Ab)(name:ByteArray):A.find name false=(1,none,A):=by simp[Ab.find,Ab.meet]
def BC(A:Ab)(name:ByteArray)(at_:Nat)(b:List UInt8):A.write false name at_ b=(1,A):=by simp[Ab.write,Ad]
theorem SN{fs:List (Nat × List UInt8 × List UInt8)}(hn:(fs.map (·.1)).Nodup){x:List UInt8 × List UInt8}(hi:fs[i]?=some (f,x))(n:List UInt8):Ab.BI fs f n=fs.set i (f,n,x.2):=by
 induction fs generalizing i with
 | nil=>simp at hi
 | cons y l ih =>
  simp only[List.map_cons,List.nodup_cons]at hn
  cases i with
  | zero =>
   simp at hi
   subst hi
   simp only[Ab.BI,List.map_cons,if_true,List.set_cons_zero,List.cons.injEq,true_and]
   rw[List.map_congr_left (g:=id) (fun z hz=>?_),List.map_id]
   grind
  | succ i =>
   simp at hi
   have df:y.1≠f:=fun e=>hn.1 (List.mem_map.2 ⟨_,List.mem_of_getElem? hi,e.symm⟩)
   have:=ih hn.2 hi
   simp only[Ab.BI]at this
   simp only[Ab.BI,List.map_cons,df,if_false,List.set_cons_succ,this]
theorem tX(fs:List (Nat × List UInt8 × List UInt8))(f:Nat)(n:List UInt8):(Ab.BI fs f n).map (·.1)=fs.map (·.1):=by
 simp only[Ab.BI,List.map_map]
 apply List.map_congr_left
 grind
theorem Rel.wrote{D:Dk}(h:Rel D A){at_:Nat}{v3 v4:Value}{n b:List UInt8}{arrs':fW}{w:Value}(hi:D.files[i]?=some (f,v1,v2))(ha:A.fs[i]?=some (f,A.now f,A.sure f))(dU:∀x∈D.ej,x∈arrs')(hn:lr arrs' v3 n)(hb:lr arrs' v4 b)(H6:n.length≤1048576)(kQ:at_+b.length≤1048576) :
  Rel { D with files:=D.files.set i (f,v3,v2),ej:=arrs',ml:=w,wl:=D.wl++[(f,at_,v4)] } { A with fs:=Ab.BI A.fs f n,writes:=A.writes++[(f,at_,b)] } where
 room:=h.room
 off:=h.off
 names:=h.names
 aj:=h.aj
 fs:=by
  rw[SN h.ids ha]
  have h2:=h.fs.2 i _ _ hi ha
  exact fD.set (h.fs.mono fun x y tP=>⟨tP.1,tP.2.1.mono dU,tP.2.2.mono dU⟩) i ⟨rfl,hn,h2.2.2.mono dU⟩
 writes:=fD.snoc (h.writes.mono fun x y tP=>⟨tP.1,tP.2.1,tP.2.2.mono dU⟩) ⟨rfl,rfl,hb⟩
 ec:=h.ec.mono dU
 ids:=by simp only[tX];exact h.ids
 known:=by simp only[tX];exact h.known
 eg:=by
  simp only[tX]
  intro x hx
  rcases List.mem_append.1 hx with hx|hx
  ·exact h.eg x hx
  grind
 nodup:=h.nodup
 gC:=by
  intro x hx
  simp only[Ab.BI,List.mem_map]at hx
  obtain⟨y,hy,rfl⟩:=hx
  have:=h.gC y hy
  grind
 ib:=by
  intro x hx
  rcases List.mem_append.1 hx with hx|hx
  ·exact h.ib x hx
  grind
 fF:=h.fF
 ie:=h.ie
 kr:=h.kr
 full:=h.full
theorem gA(old:List UInt8)(at_:Nat)(b:List UInt8):(bJ old at_ b).length=max old.length (at_+b.length):=by
 grind [bJ]
theorem oL(A:Ab)(name:ByteArray)(ok:Bool):(A.find name ok).2.2.fs=A.fs∧(A.find name ok).2.2.names=A.names∧(A.find name ok).2.2.aj=A.aj∧(A.find name ok).2.2.writes=A.writes∧(A.find name ok).2.2.room=A.room:=by
 have:=KO A ok
 unfold Ab.find
 grind
theorem Rel.yk{D:Dk}(h:Rel D A):A.used≤209715200:=by
 rw[← yV (h.nodup _ (List.mem_cons_self ..))]
 have:=EY (fun f=>(h.small f).1) (A.names.map (·.1))
 have h2:=h.fF _ (List.mem_cons_self ..)
 grind
theorem CG(e:TypeId)(v:Value)(bs:List UInt8)(M:fW):∀h,star (aF e 1 v bs.length (bV bs)) (bh e M) h→∃M',(lr M' v bs∧∀x∈M,x∈M')∧Sep [bh e M'] h:=fun h hs=>by
 grind [RH,gu]
theorem mX{name:ByteArray}{ok:Bool}(h:(A.find name ok).1=0):ok=true∧∃fl,(A.find name ok).2.1=some fl∧(name,fl)∈(A.find name ok).2.2.names:=by
 unfold Ab.find at h ⊢
 split
 ·rename_i h0
  rw[if_pos h0]at h
  cases hl:(A.meet ok).2.look name with
  | none=>rw[hl]at h;cases h
  | some f =>
   refine⟨?_,f,rfl,qB hl⟩
   cases ok with
   | true=>rfl
   | false=>simp[Ab.meet]at h0
 grind
def NX(bd:Nat)(D:Dk)(A:Ab)(hR:Rel D A)(name:ByteArray)(at_:Int)(X:HP)(bv:Value)(b:List UInt8)(hv:Vw X bv b.length (bV b))(eW:A.writes.length≤1000000000)(kQ:b.length≤1000000000)(SB : -9223372036854775808≤at_∧at_≤9223372036854775807) :
  aD Tryz.prog 95 [ptr bd,.string name,.int .i64 at_,bv] [gY bd D,X]
   (fun v H=>∃D',Rel D' (A.write (fK name at_ b) name at_.toNat b).2∧H=[gY bd D',X]∧v = .int .i64 (A.write (fK name at_ b) name at_.toNat b).1):=by
 obtain⟨a0,c0,rfl⟩:=hv.shape
 refine aD.aw Tryz.func95 Tryz.ntmps95 fun G F R hE=>?_
 refine go ?_
 refine ao zr zr zr zr zr zr zr zr zr bE ?_
 intro b0
 refine go ?_
 refine cO [0] zr zr zr zr (jZ _ _ [name] (Vw.ae rfl) (by simp)) rfl nq ?_
 rintro _ _⟨rfl,rfl⟩
 have e1:[name].all isName=isName name:=by simp
 rw[e1]
 cases oG:isName name with
 | false =>
  have hm:fK name at_ b=false:=by simp[fK,oG]
  rw[hm,BC]at hE
  refine go ?_
  refine cO [1] zr zr zr zr (kF bd D A hR name false) rfl nq ?_
  rw[Ad]
  rintro _ _⟨D',gD,rfl,rfl⟩
  refine go ?_
  refine aO hE Tryz.func95 rfl _ rfl ⟨D',gD,rfl,rfl⟩ (ak.fin [0,2] 1 zr zr)
 | true =>
  repeat'(first|(with_reducible intro p6)|refine eZ ?_|refine hJ zr zr zr zr ?_ ?_|fail)
  any_goals (
   have hm:fK name at_ b=false:=by simp[fK,oG, *]
   rw[hm,BC]at hE
   refine cO [1] zr zr zr zr (kF bd D A hR name false) rfl nq ?_
   rw[Ad]
   rintro _ _⟨D',gD,rfl,rfl⟩
   refine go ?_
   refine aO hE Tryz.func95 rfl _ rfl ⟨D',gD,rfl,rfl⟩ (ak.fin [0,2] 1 zr zr))
  rename_i h2
  obtain⟨at_,rfl⟩:=Int.eq_ofNat_of_zero_le h2
  simp only[Int.toNat_natCast]at hE
  have hm:fK name at_ b=decide ((b.length:Int)≤1048576-at_):=by simp[fK,oG, *]
  refine az 31 (.bool (fK name at_ b)) rfl (congrArg Value.bool hm.symm) ?_
  refine cO [1] zr zr zr zr (kF bd D A hR name (fK name at_ b)) rfl nq ?_
  generalize iJ:fK name at_ b=ok at hE hm ⊢
  rintro _ _⟨D',gD,rfl,rfl⟩
  refine go ?_
  refine fZ zr zr ?_ ?_
  ·intro h0
   have p5:¬(A.find name ok).1=0:=by have:=of_decide_eq_true h0;omega
   have hw:A.write ok name at_ b=((A.find name ok).1,(A.find name ok).2.2):=by simp[Ab.write,p5]
   rw[hw]at hE
   refine go ?_
   refine aO hE Tryz.func95 rfl _ rfl ⟨D',gD,rfl,rfl⟩ (ak.fin [0,2] 1 zr zr)
  ·intro h0
   have p5:(A.find name ok).1=0:=by have:=of_decide_eq_false h0;omega
   obtain⟨ZB,fl,oH,gp⟩:=mX p5
   rw[ZB]at hm
   have hlen:=of_decide_eq_true hm.symm
   have hw:A.write ok name at_ b=if(A.find name ok).2.2.room<(A.find name ok).2.2.used+(at_+b.length-((A.find name ok).2.2.now fl).length)then(3,(A.find name ok).2.2)
    else(0,{ (A.find name ok).2.2 with fs:=Ab.BI (A.find name ok).2.2.fs fl (bJ ((A.find name ok).2.2.now fl) at_ b),writes:=(A.find name ok).2.2.writes++[(fl,at_,b)] }):=by simp[Ab.write,p5,oH]
   rw[oH]
   have aeb:(A.find name ok).2.2.writes.length≤1000000000:=by rw[(oL A name ok).2.2.2.1];exact eW
   generalize (A.find name ok).2.2=A1 at *
   obtain⟨room,bm,ly,ml,od,off,maps,ej,files,gI,wl⟩:=D'
   obtain⟨i,v1,v2,hi,rX,nr,wx⟩:=gD.file (f:=fl) (gD.known _ (List.mem_cons_self ..) _ gp)
   obtain⟨a,cap,rfl,kj⟩:=nr.shape
   have xM:=(gD.small fl).1
   have oF:=gD.room
   have QN:=gD.ie
   simp only at oF
   refine ai (iU _ _ _ _ _ _ _ _ _ _ _ _ _) ?_
   refine aG (fun w=>Sat G w ([ae bd (cl [.int .i64 room,.map (some bm),ly,ml,od,.bool off] 61),aU fA files])) (.st 0 (dj 2 11 (dj 14 4 (.act 1 (.st 13 (.st 18 .nil)))))) rfl aq aq aq (fun w hw=>hw.cL (ak.bF ([0,3]) rfl)) ?_
   refine go ?_
   refine mD zr zr (fun w hw=>uX (i:=1) hw rfl hi) zr zr ?_
   refine go ?_
   refine aJ ((ak.pick [0,1,2,3,4,5] rfl).trans (ew _ _ _ _ _ _ _ _ _ _ _ _ _)) ?_
   have hul:=gD.yk
   refine cO [0] rfl rfl rfl rfl (RL bd _ A1 gD) rfl (fun _ _ w hp hw=>by obtain⟨rfl,_⟩:=hp;exact hw.cL ((iU _ _ _ _ _ _ _ _ _ _ _ _ _).trans (ak.bF [0,3] rfl))) ?_
   rintro _ _⟨rfl,rfl⟩
   refine go ?_
   refine au zr zr ?_ ?_
   ·intro Gp
    rw[if_pos ag]at hw
    rw[hw]at hE
    refine go ?_
    refine aO hE Tryz.func95 rfl _ rfl ⟨_,gD,rfl,rfl⟩ (ak.fin [0,2] 1 zr zr)
   ·intro Gp
    rw[if_neg ag]at hw
    rw[hw]at hE
    refine go ?_
    refine aJ (iU _ _ _ _ _ _ _ _ _ _ _ _ _) (go ?_)
    refine aJ (ak.pick [3] rfl) ?_
    refine aJ (iB fA hi _) (go ?_)
    refine aJ (ak.pick [4,8] rfl) ?_
    refine aJ (ak.join _ _ _) ?_
    refine cO [0] zr zr zr zr (vL (star (bh 5 ej) X) _ _ (A1.now fl) b at_ (nr.view _).left hv.right ag) rfl nq ?_
    rintro _ _⟨bl,pM,rfl,Gu,rfl⟩
    refine aJ (ak.pick [1] rfl) ?_
    refine aJ (ak.part _ _ _) ?_
    refine aJ (ak.pick [2,0] rfl) ?_
    refine aJ (Az 5 bl _ ej _) (go ?_)
    refine ai (ak.pick [2,3] rfl) ?_
    refine ai (oq fA (y:=(fl,.slice (some ⟨bl,0,none⟩) (bJ (A1.now fl) at_ b).length pM,v2)) hi _) ?_
    refine aG (fun w=>Sat G w ([ae bd (cl [.int .i64 room,.map (some bm),ly,ml,od,.bool off] 61)])) (dj 0 8 (.act 8 (.st 9 (.act 10 (.act 11 (.st 12 (.st 13 (.act 14 .nil)))))))) rfl aq aq aq (fun w hw=>hw.cL (ak.bF ([3]) rfl)) ?_
    refine go ?_
    refine cO [2] rfl rfl rfl rfl (ke X _ b hv kQ) rfl (fun _ _ w hp hw=>by subst hp;exact hw.cL (ak.bF [4] rfl)) ?_
    rintro r _ rfl
    refine aP 0 rfl ?_
    rintro ar cr rfl
    refine go ?_
    refine ao zr zr zr zr zr zr zr zr zr (fun _ w hw=>hw.cL (ak.bF ([5]) rfl)) ?_
    intro b1
    refine aT (mm:=1) (news:=[ptr fl,.int .i64 at_,.slice ar b.length cr]) 8 0 zr zr zr zr zr zr zr zr zr zr zr zr (Vw.ae rfl) rfl (by simp[Value.oneCell',ptr]) (by have:=gD.writes.1;simp only at this;omega) (by have:=gD.writes.1;simp only at this;show _*40≤_;omega) (fun _=>rfl) (fun _ w hw=>hw.cL (ak.bF ([5]) rfl)) ?_
    intro v'
    have e2:fE wl++[ptr fl,.int .i64 at_,.slice ar b.length cr]=fE (wl++[(fl,at_,.slice ar b.length cr)]):=by simp[fE]
    have e3:wl.length+1=(wl++[(fl,at_,Value.slice ar b.length cr)]).length:=by simp
    rw[e2,e3]
    refine aP 8 rfl ?_
    rintro av cv rfl
    refine go ?_
    refine aV ?_;refine cF 5 gf zr zr zr zr zr zr zr zr zr ?_
    refine go ?_
    refine ai (ak.pick [1,4] rfl) ?_
    refine ai (ak.join _ _ _) ?_
    refine eB (CG 5 _ b _) ?_
    rintro arrs'⟨Le,dU⟩
    have Ri:=gD.wrote (w := .slice av (wl++[(fl,at_,Value.slice ar b.length cr)]).length cv) hi rX (fun x hx=>dU x (List.mem_cons_of_mem _ hx)) ((lr.row (cap:=pM) Gu).mono dU) Le (by rw[gA];omega) (by omega:at_+b.length≤1048576)
    refine ai (ak.pick [4,5,0,3,6,7] rfl) ?_
    refine ai (ew bd room bm ly _ od off maps arrs' _ gI _ _) ?_
    refine aO hE Tryz.func95 rfl _ rfl ⟨_,Ri,rfl,rfl⟩ (ak.fin [0,2] 2 zr zr)
def GS{l:List (ByteArray × Nat)}{x:ByteArray × Nat}(h:x∈Ab.ef l k):x∈l∧x.1≠k:=by
 simpa[Ab.ef]using h
def Rq(l:List (ByteArray × Nat))(k:ByteArray):(Ab.ef l k).length≤l.length:=List.length_filter_le _ _
def Aj{l:List (ByteArray × Nat)}(h:(l.map (·.1)).Nodup)(k:ByteArray):((Ab.ef l k).map (·.1)).Nodup:=(List.filter_sublist.map _).nodup h
theorem Ux{l:List (ByteArray × Nat)}(h:(k,f)∈l):(Ab.ef l k).length+1≤l.length:=by
 have:(Ab.ef l k).length<l.length:=by
  unfold Ab.ef
  rw[List.length_filter_lt_length_iff_exists]
  grind
 omega
theorem Py(l:List (ByteArray × Nat))(k:ByteArray)(f:Nat):(Ab.jT l k f).length≤l.length+1:=by
 unfold Ab.jT
 grind
theorem Px{l:List (ByteArray × Nat)}{x:ByteArray × Nat}(h:x∈Ab.jT l k f):x=(k,f)∨x∈l:=by
 unfold Ab.jT at h
 grind
theorem Iv{l:List (ByteArray × Nat)}(h:(l.map (·.1)).Nodup)(k:ByteArray)(f:Nat):((Ab.jT l k f).map (·.1)).Nodup:=by
 unfold Ab.jT
 split
 ·grind
 ·rename_i hk
  rw[List.map_append,List.nodup_append]
  exact⟨h,by simp,fun a ha b hb=>by simp at hb;subst hb;rintro rfl;exact hk (pD.2 ha)⟩
theorem J4(bd:Nat)(D:Dk)(A:Ab)(hR:Rel D A)(name:ByteArray)(bP:A.aj.length≤1000000000) :
  aD Tryz.prog 106 [ptr bd,.string name] [gY bd D]
   (fun v H=>∃D',Rel D' (A.remove (isName name) name).2∧H=[gY bd D']∧v = .int .i64 (A.remove (isName name) name).1):=by
 refine aD.aw Tryz.func106 Tryz.ntmps106 fun G F R hE=>?_
 refine go ?_
 refine bG zr zr bE ?_
 intro box
 refine go ?_
 refine aG (fun w=>Sat G w ([ae box (cl [.string name] 9)])) (dj 0 3 (.act 3 (.act 4 (.act 5 (dj 6 5 .nil))))) rfl aq aq aq (fun w hw=>hw.cL (ak.bF ([0]) rfl)) ?_
 refine go ?_
 refine ao zr zr zr zr zr zr zr zr zr (fun _ w hw=>hw.cL (ak.bF ([1]) rfl)) ?_
 intro b0
 refine cO [0] rfl rfl rfl rfl (jZ _ _ [name] (Vw.ae rfl) (by simp)) rfl (fun _ _ w hp hw=>by obtain⟨_,rfl⟩:=hp;exact hw.cL (ak.bF [1] rfl)) ?_
 rintro _ _⟨rfl,rfl⟩
 have e1:[name].all isName=isName name:=by simp
 rw[e1]
 refine cO [2] rfl rfl rfl rfl (kF bd D A hR name (isName name)) rfl (fun _ _ w hp hw=>by obtain⟨_,_,rfl,_⟩:=hp;exact hw.cL (ak.bF [2] rfl)) ?_
 generalize iJ:isName name=ok at hE ⊢
 rintro _ _⟨D',gD,rfl,rfl⟩
 refine go ?_
 refine fZ zr zr ?_ ?_
 ·intro h0
  have p5:¬(A.find name ok).1=0:=by have:=of_decide_eq_true h0;omega
  have hw:A.remove ok name=((A.find name ok).1,(A.find name ok).2.2):=by
   unfold Ab.remove
   grind
  rw[hw]at hE
  refine go ?_
  refine aO hE Tryz.func106 rfl _ rfl ⟨D',gD,rfl,rfl⟩ (ak.fin [0] 2 zr zr)
 ·intro h0
  have p5:(A.find name ok).1=0:=by have:=of_decide_eq_false h0;omega
  obtain⟨ZB,fl,oH,gp⟩:=mX p5
  have hw:A.remove ok name=(0,(A.find name ok).2.2.n7 (Ab.ef (A.find name ok).2.2.names name)):=by
   unfold Ab.remove
   grind
  have QK:(A.find name ok).2.2.aj.length≤1000000000:=by rw[(oL A name ok).2.2.1];exact bP
  rw[hw]at hE
  generalize (A.find name ok).2.2=A1 at *
  have QJ:D'.gI.length≤1000000000:=by rw[gD.aj.1];exact QK
  refine go ?_
  refine cO [0,2] zr zr zr zr (mY (α:=Unit) bd D' A1.names gD.names 166 #[ptr box] (ae box (cl [.string name] 9)) (fun _=>Ab.ef A1.names name) (fun _=>ae box (cl [.string name] 9)) (fun _=>True) (fun b'=>aD.post (Hj b' box A1.names name) (fun v H h=>⟨(),trivial,h⟩)) QJ) rfl nq ?_
  rintro _ _⟨_,b',v,_,rfl⟩
  have Ri:=gD.n7 (b':=b') (v:=v) (nm:=Ab.ef A1.names name) (fun x hx=>gD.known _ (List.mem_cons_self ..) x (GS hx).1) (Aj (gD.nodup _ (List.mem_cons_self ..)) name) (Nat.le_trans (Rq _ _) (gD.fF _ (List.mem_cons_self ..)))
  refine go ?_
  refine aO hE Tryz.func106 rfl _ rfl ⟨_,Ri,rfl,rfl⟩ (ak.fin [0] 2 zr zr)
abbrev Hr:=Nat × Nat × Value
def zC(x:Hr):List Value:=[ptr x.1,.int .i64 x.2.1,x.2.2]
def gK(l:List Hr):fE l=l.flatMap zC:=rfl
theorem eL(x:Hr):(zC x).length=3:=rfl
theorem AX(A X:HP)(v:Value)(l:List Hr)(hv:Vw A v l.length (fE l))(hlen:l.length≤1000000000)(g:FuncId)(cap:List Value)(p:Hr→Bool)(hf:∀x∈l,aD Tryz.prog g (.agg #[ptr x.1,.int .i64 x.2.1,x.2.2]::cap) [X] (fun v H=>v = .bool (p x)∧H=[X])) :
  aD Tryz.prog 203 [v,.func (.func g) #[] cap.toArray] [A,X] (fun r H=>r = .int .i64 (lK p l)∧H=[A,X]):=by
 obtain⟨a,c0,rfl⟩:=hv.shape
 refine aD.enter Tryz.func203 aq rfl Tryz.ntmps203 zr zr ?_
 intro G F R hR
 refine go ?_
 refine bB (fun i:Nat=>i≤l.length∧∀y∈l.take i,p y=false) (fun i=>l.length-i) (fun i=>[(0,.slice a l.length c0),(1,.func (.func g) #[] cap.toArray),(7,.int .i64 l.length),(8,.int .i64 i)]) (fun _=>[A,X]++F) 0 ⟨by simp,by simp⟩ rfl ck (ak.refl _) ?_
 rintro i⟨hi,hb⟩ ih
 refine go ?_
 refine au zr zr ?_ ?_
 ·intro dJ
  refine go ?_
  have gz:i<l.length:=by omega
  have hx:l[i]?=some l[i]:=by simp[gz]
  generalize hxx:l[i]=x at hx
  obtain⟨b,o,gZ,fL⟩:=hv.some (by rw[← List.length_pos_iff,gK,cE eL];omega)
  simp only[Value.slice.injEq]at fL
  obtain⟨rfl,_,rfl⟩:=fL
  refine bZ i 3 zr zr zr zr zr zr zr zr gz ?_
  refine cI (U:=aR) (es:=zC x) 0 (i*3) zr zr zr hv rfl (fun j v hj=>?_) zr zr zr ?_
  ·have Cm:j<3:=by
    grind [eL]
   rw[gK,cU eL hx j Cm];exact hj
  refine cO [1] zr zr zr zr (hf x (List.mem_of_getElem? hx)) rfl nq ?_
  rintro _ _⟨rfl,rfl⟩
  refine go ?_
  refine fZ zr zr ?_ ?_
  ·intro hp
   refine go ?_
   refine aO hR Tryz.func203 rfl _ rfl ⟨by rw[oC hx hp hb];rfl,rfl⟩ (ak.fin [1,0] 0 zr zr)
  ·intro hp
   refine go ?_
   refine aM ih (i+1) rfl ⟨ag,vh hb hx hp⟩ ag ck (ak.pick [1,0] rfl)
 ·intro fO
  refine go ?_
  have:i=l.length:=by omega
  subst this
  refine aO hR Tryz.func203 rfl _ rfl ⟨by rw[rH (fun x hx=>hb x (by simpa using hx))];rfl,rfl⟩ (ak.fin [0,1] 0 zr zr)
def N2(c5 f g at_:Nat)(bv:Value)(files:List (Nat × Value × Value))(hf:f∈files.map (·.1))(hg:g∈files.map (·.1))(fq:bv.oneCell'=true) :
  aD Tryz.prog 158 [.agg #[ptr g,.int .i64 at_,bv],ptr c5] [star (ae c5 (cl [ptr f] 95)) (aU fA files)] (fun v H=>v = .bool (decide (g=f))∧H=[star (ae c5 (cl [ptr f] 95)) (aU fA files)]):=by
 have row:∀ {G:cQ} {w:World} {H:List HP} {i y:Nat},Sat G w H→cM H i=some (aU fA files)→y∈files.map (·.1)→Row w y:=by
  intro G w H i y hs hi hy
  obtain⟨⟨y',v1,v2⟩,hm,rfl⟩:=List.mem_map.1 hy
  obtain⟨j,hj⟩:=List.getElem?_of_mem hm
  exact⟨_,_,Ae hs hi hj⟩
 refine aD.aw Tryz.func158 Tryz.ntmps158 fun G F R hE=>?_
 refine ai (ak.part _ _ _) (go ?_)
 refine bG zr zr bE ?_
 intro bx
 refine go ?_
 refine UU (U:=aR) zr zr zr zr zr zr zr (fun w hw=>row (i:=2) hw rfl hg) (fun w hw=>row (i:=2) hw rfl hf) ?_
 refine go ?_
 refine ai (ak.pick [1,2] rfl) ?_
 refine ai (ak.join _ _ _) ?_
 refine aO hE Tryz.func158 rfl _ rfl ⟨congrArg Value.bool (by simp),rfl⟩ (ak.fin [0] 1 zr zr)
theorem yh(v:Value)(l:List Hr)(X:HP)(g:FuncId)(cap:List Value)(p:Hr→Bool)(hlen:l.length≤1000000000)(fL:∀x∈l,∃a n c,x.2.2 = .slice a n c)(hf:∀x∈l,aD Tryz.prog g (.agg #[ptr x.1,.int .i64 x.2.1,x.2.2]::cap) [X] (fun v H=>v = .bool (p x)∧H=[X])) :
  aD Tryz.prog 157 [v,.func (.func g) #[] cap.toArray] [aF 97 3 v l.length (fE l),X]
   (fun r H=>H=[aF 97 3 r (l.filter fun x => !p x).length (fE (l.filter fun x => !p x)),X]):=by
 refine aD.aw Tryz.func157 Tryz.ntmps157 fun G F R hE=>?_
 refine dN 0 rfl ?_
 rintro a0 c rfl
 refine go ?_
 refine jt 0 rfl ?_
 intro hv
 refine cO [0,1] zr zr zr zr (AX _ X _ l hv hlen g cap p hf) rfl nq ?_
 rintro _ _⟨rfl,rfl⟩
 refine go ?_
 refine au zr zr ?_ ?_
 ·intro h0
  have rY:l.any p=false:=oD.1 ag
  have oH:(l.filter fun x => !p x)=l:=List.filter_eq_self.2 fun x hx=>by
   grind
  rw[oH]at hE
  refine go ?_
  refine aO hE Tryz.func157 rfl _ zr zr (ak.fin [0,1] 0 zr zr)
 ·intro h0
  obtain⟨i0,x0,OX,hx0,Ez,wF⟩:=zL h0
  have ae1:i0<l.length:=by
   grind
  rw[OX]
  refine go ?_
  refine tK (fun a kT hn _=>by omega) ?_
  rintro b o c' pre cf vI nv hnc kj ki
  simp only[Value.slice.injEq,true_and]at vI
  obtain⟨rfl,rfl⟩:=vI
  have h1:l.take (i0+1)=l.take i0++[x0]:=by rw[List.take_add_one,hx0];rfl
  have K9:(l.take i0).filter (fun x => !p x)=l.take i0:=List.filter_eq_self.2 fun x hx=>by simp[wF x hx]
  refine bB (fun s:Nat × Nat × List Hr=>s.1<s.2.1∧s.2.1≤l.length∧s.2.2.length=l.length∧s.2.2.take s.1=(l.take s.2.1).filter (fun x => !p x)∧s.2.2.drop s.2.1=l.drop s.2.1) (fun s=>l.length-s.2.1)
   (fun s=>[(0,.slice (some ⟨b,o,none⟩) l.length c),(1,.func (.func g) #[] cap.toArray),(5,.int .i64 s.1),(6,.int .i64 s.2.1)])
   (fun s=>ae b (cl (pre++fE s.2.2++cf) 97)::X::F) (i0,i0+1,l) ⟨by simp,by simp only;omega,rfl,by simp only[h1,List.filter_append,K9];simp[Ez],rfl⟩ rfl ck (ak.refl _) ?_
  rintro⟨i,j,E⟩⟨DG,uL,SE,GF,Uf⟩ ih
  simp only at DG uL SE GF Uf
  have eW:(fE E).length=l.length*3:=by rw[gK,cE eL,SE]
  have hvE:Vw (ae b (cl (pre++fE E++cf) 97)) (.slice (some ⟨b,o,none⟩) l.length c) l.length (fE E):=Vw.ae (by rw[List.append_assoc,← nv,List.drop_left,List.take_left])
  refine go ?_
  refine au zr zr ?_ ?_
  ·intro dJ
   simp only at dJ
   have oX:j<l.length:=by omega
   obtain⟨⟨fx,ax,bx⟩,hx⟩:∃x,l[j]?=some x:=⟨l[j],by simp[oX]⟩
   have hEx:E[j]?=some (fx,ax,bx):=by
    have:=congrArg (·[0]?) Uf
    grind
   have gp:=List.mem_of_getElem? hx
   obtain⟨ab,nb,cb,zZ⟩:=fL _ gp
   simp only at zZ
   subst zZ
   have ZW:=hf _ gp
   refine go ?_
   refine bZ j 3 zr zr zr zr zr zr zr zr oX ?_
   refine cI (U:=aR) (es:=zC (fx,ax,.slice ab nb cb)) 0 (j*3) zr zr zr hvE rfl (fun q v hq=>?_) zr zr zr ?_
   ·have Cm:q<3:=by
     grind [eL]
    rw[gK,cU eL hEx q Cm];exact hq
   refine aC zr zr zr bE ?_
   intro bv
   refine go ?_
   refine dT 0 zr zr zr zr zr zr ?_
   refine cO [2] zr zr zr zr (ZW) rfl nq ?_
   rintro _ _⟨rfl,rfl⟩
   refine go ?_
   refine fZ zr zr ?_ ?_
   ·intro hp
    have tx:p (fx,ax,.slice ab nb cb)=false:=by simpa using hp
    refine go ?_
    refine dT 1 zr zr zr zr zr zr (go ?_)
    refine bZ i 3 zr zr zr zr zr zr zr zr ag ?_
    refine lq (U:=aR) (l':=pre++fE (E.set i (fx,ax,.slice ab nb cb))++cf) 2 gf zr zr zr zr zr zr zr ?_ ?_ rfl ?_
    ·show o+i*3+3≤_
     rw[List.length_append,List.length_append,eW];omega
    ·show _=List.take (o+i*3) (pre++fE E++cf)++zC (fx,ax,.slice ab nb cb)++List.drop (o+i*3+(zC (fx,ax,.slice ab nb cb)).length) (pre++fE E++cf)
     rw[← nv,pk _ _ _ _ _ (by rw[eL,eW];omega),gK,wN eL ag]
     rfl
    refine go ?_
    refine aM ih (i+1,j+1,E.set i (fx,ax,.slice ab nb cb)) rfl ⟨by simp only;omega,by simp only;omega,by simp only[List.length_set];exact SE,?_,?_⟩ (by simp only;omega) ck (ak.to [2,0] 1 zr zr zr)
    ·simp only
     rw[List.take_add_one,List.take_set_of_le (Nat.le_refl i),GF,List.take_add_one (l:=l),hx,List.getElem?_set_self ag]
     simp[List.filter_append,tx]
    ·simp only
     rw[List.drop_set_of_lt ag,← List.drop_drop,Uf,List.drop_drop]
   ·intro hp
    have tx:p (fx,ax,.slice ab nb cb)=true:=by simpa using hp
    refine go ?_
    refine aM ih (i,j+1,E) rfl ⟨by simp only;omega,by simp only;omega,SE,by simp only;rw[GF,List.take_add_one,hx];simp[List.filter_append,tx],by simp only;rw[← List.drop_drop,Uf,List.drop_drop]⟩ (by simp only;omega) ck (ak.to [2,0] 1 zr zr zr)
  ·intro fO
   refine go ?_
   simp only at fO
   have TU:j=l.length:=by omega
   subst TU
   rw[List.take_length]at GF
   have zS:(l.filter fun x => !p x).length=i:=by rw[← GF,List.length_take];omega
   refine mC zr zr zr zr zr zr zr ag ag (.inl rfl) ?_
   intro o1 QX ho2
   simp only[Int.toNat_natCast]at QX ho2
   have QW:i≠c→o1=o+i*3:=QX
   have hL:(pre++fE E++cf).length=o+l.length*3+cf.length:=by rw[List.length_append,List.length_append,eW,nv]
   obtain⟨sr,Q5,aeX⟩:∃sr,(pre++fE E++cf).take o1++(List.replicate (((l.length:Int).toNat-(i:Int).toNat)) [Value.pointer none,.int .i64 0,.slice none 0 0]).flatten++(pre++fE E++cf).drop (o1+((l.length:Int).toNat-(i:Int).toNat)*3)=pre++fE (E.take i)++sr∧c*3≤i*3+sr.length:=by
    have ZS:i≠c:=by omega
    rw[QW ZS,← nv,List.append_assoc pre,List.take_length_add_append,List.take_append_of_le_length (by rw[eW];omega),gK,gK,JM eL E i ag]
    refine⟨_,by rw[List.append_assoc],?_⟩
    rw[List.length_append,List.length_drop,mV]
    simp only[List.length_append,List.length_cons,List.length_nil,cE eL,SE,Int.toNat_natCast]
    grind
   refine LN (U:=aR) (l':=pre++fE (E.take i)++sr) 0 gf zr zr zr zr zr zr zr zr ?_ ?_ rfl ?_
   ·have ZS:i≠c:=by omega
    show o1+((l.length:Int).toNat-(i:Int).toNat)*3≤_
    rw[QW ZS,hL];omega
   ·rw[← Q5];rfl
   refine go ?_
   refine mC zr zr zr zr zr zr zr ag ag (.inr ag) ?_
   intro o2 ho3 ho4
   have ZC:o2=o:=by
    grind
   subst ZC
   refine go ?_
   refine ai (mK (sz:=3) (nn:=i) (c:=c) nv ag (by rw[gK,cE eL,List.length_take];omega) (by rw[gK,cE eL,List.length_take];omega) _) ?_
   rw[← GF,GF,zS,← GF]at hE
   refine aO hE Tryz.func157 rfl _ zr zr (ak.fin [0,1] 0 zr zr)
end Go.Proofs.YthnfckodljbgbaaGreatDoor
