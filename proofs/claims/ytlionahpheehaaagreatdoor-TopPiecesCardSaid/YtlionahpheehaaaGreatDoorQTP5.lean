import Derived.Test.YtlionahpheehaaaGreatDoorQTP2
import Derived.Test.YtlionahpheehaaaGreatDoorQTP3
import Derived.Test.YtlionahpheehaaaGreatDoorQTP4
set_option linter.unusedSimpArgs false
set_option linter.unusedVariables false
set_option linter.defProp false
namespace Go.SL
def uv(n:Nat):List UInt8:=if n<128 then [UInt8.ofNat n]else UInt8.ofNat (n%128+128)::uv (n/128)
termination_by n
decreasing_by omega
theorem gi{n:Nat}(h:n<128):uv n=[UInt8.ofNat n]:=by rw[uv,if_pos h]
theorem xo{n:Nat}(h:¬n<128):uv n=UInt8.ofNat (n%128+128)::uv (n/128):=by rw[uv,if_neg h]
def xl:∀(k n:Nat),n<128 ^ (k+1)→(uv n).length≤k+1
 | 0,n,h=>by rw[gi (by simpa using h)];simp
 | k+1,n,h=>by
  by_cases hn:n<128
  ·rw[gi hn];simp
  ·rw[xo hn,List.length_cons]
   have:=xl k (n/128) (Nat.div_lt_of_lt_mul (by rw[Nat.pow_succ,Nat.mul_comm]at h;exact h))
   omega
theorem lL{n:Nat}(h:n<18446744073709551616):(uv n).length≤10:=xl 9 n (Nat.lt_of_lt_of_le h (by decide))
theorem Eh(n:Nat):0<(uv n).length:=by
 grind [gi,xo]
theorem adR(m:Nat):Value.int .u8 (IntKind.u8.wrap (m:Int)) = .int .u8 ((m%256:Nat):Int):=by
 have h:IntKind.u8.wrap (m:Int)=(m:Int)%256:=by simp[IntKind.wrap,IntKind.bits,IntKind.signed]
 grind
theorem TO(m:Nat):Value.int .u8 (IntKind.u8.wrap ((BitVec.ofInt IntKind.u8.bits ((m%256:Nat):Int) ||| BitVec.ofInt IntKind.u8.bits 128).toNat:Int))=u8 (UInt8.ofNat (m%128+128)):=by
 rw[Qo _ aj]
 simp only[u8,UInt8.toNat_ofNat']
 grind
def nz:Nat→Nat→List UInt8→Option (Nat × List UInt8 × Bool)
 | _,_,[]=>none
 | i,acc,c::r=>if i=10∨(i=9∧1<c.toNat)then none else if c.toNat<128 then some (acc+c.toNat*2 ^ (7*i),r,decide (i=0∨0<c.toNat))else nz (i+1) (acc+(c.toNat%128)*2 ^ (7*i)) r
def db(bs:List UInt8):Nat × List UInt8 × Bool:=(nz 0 0 bs).getD (0,[],false)
def cH(bs:List UInt8):Option Nat:=if(db bs).2.2=true∧(db bs).2.1=[]then some (db bs).1 else none
theorem zy{i acc c:Nat}(ha:acc<2 ^ (7*i))(hc:c<128):acc+c*2 ^ (7*i)<2 ^ (7*(i+1)):=by
 have h1:acc+c*2 ^ (7*i)<(c+1)*2 ^ (7*i):=by rw[Nat.add_mul,Nat.one_mul];omega
 have h2:(c+1)*2 ^ (7*i)≤128*2 ^ (7*i):=Nat.mul_le_mul_right _ aj
 grind
theorem Tm{i acc c:Nat}(hi:i≤9)(ha:acc<2 ^ (7*i))(hc:c<128)(h9:i=9→c≤1):acc+c*2 ^ (7*i)<18446744073709551616:=by
 by_cases h:i=9
 ·grind
 ·have h1:=zy ha hc
  have h2:2 ^ (7*(i+1))≤2 ^ 63:=Nat.pow_le_pow_right aj aj
  omega
theorem Mb:∀(k n i acc:Nat) (rest:List UInt8),n<128 ^ (k+1)→i+k≤8→(i≠0→n≠0)→nz i acc (uv n++rest)=some (acc+n*2 ^ (7*i),rest,true)
 | k,n,i,acc,rest,hn,hik,h0=>by
  by_cases h:n<128
  ·rw[gi h]
   have e:(UInt8.ofNat n).toNat=n:=by simp only[UInt8.toNat_ofNat'];omega
   simp only[List.cons_append,List.nil_append,nz,e]
   rw[if_neg aj,if_pos h]
   have:(i=0∨0<n):=by
    grind
   grind
  ·cases k with
   | zero=>simp at hn;omega
   | succ k =>
    rw[xo h]
    have e:(UInt8.ofNat (n%128+128)).toNat=n%128+128:=by simp only[UInt8.toNat_ofNat'];omega
    simp only[List.cons_append,nz,e]
    rw[if_neg aj,if_neg aj,show(n%128+128)%128=n%128 from by omega,
     Mb k (n/128) (i+1) _ rest (Nat.div_lt_of_lt_mul (by rw[Nat.pow_succ,Nat.mul_comm]at hn;exact hn)) aj (by intro _;omega)]
    have h3:n/128*2 ^ (7*(i+1))=n/128*128*2 ^ (7*i):=by rw[show 7*(i+1)=7+7*i from by omega,Nat.pow_add,Nat.mul_assoc]
    have h4:n%128*2 ^ (7*i)+n/128*128*2 ^ (7*i)=n*2 ^ (7*i):=by rw[← Nat.add_mul];congr 1;omega
    grind
def Fe{n:Nat}(h:n<9223372036854775808)(rest:List UInt8):db (uv n++rest)=(n,rest,true):=by
 unfold db
 rw[Mb 8 n 0 0 rest (Nat.lt_of_lt_of_le h (by decide)) aj (by intro h;exact absurd rfl h)]
 simp
theorem sK{n:Nat}(h:n<9223372036854775808):cH (uv n)=some n:=by
 have:=Fe h []
 grind [cH]
def nj(bs:List UInt8):Option (Nat × Nat) :=
 if 1≤bs.length then match cH (bs.take 1)with
  | some n=>some (1,n)
  | none=>if 2≤bs.length then(cH (bs.take 2)).map fun n=>(2,n)else none
 else none
theorem pW{bs:List UInt8}{n:Nat}(h:cH bs=some n)(hl:bs.length≤2):n<16384:=by
 unfold cH db at h
 split at h
 ·rename_i hh
  cases h
  match bs,hl with
  | [],_=>simp[nz]at hh
  | [a],_ =>
   grind [nz]
  | [a,b],_ =>
   grind [nz]
 ·cases h
end Go.SL
namespace Go.Proofs.YtlionahpheehaaaGreatDoor
open Go Go.SL
variable{A:HP}{bs:List UInt8}{n:Nat}
attribute [local irreducible] J K aH Ends ak aK aV bX bj aS bp bD
def fK(n:Nat)(h:n<18446744073709551616):aH Tryz.prog 130 [.int .u64 (n:Int)] [] (fun r H=>H=[aK 5 1 r (uv n).length (bV (uv n))]):=by
 refine aH.aC Tryz.func130 Tryz.ntmps130 fun G F R hE=>?_
 refine go ?_
 first|refine al (bS 5 1 none _) ?_|refine aT (bS 5 1 none _) ?_
 have aeD:=lL h
 refine bF (fun s:Nat × List UInt8 × Value=>s.2.1++uv s.1=uv n∧s.1≤n) (fun s=>s.1)
  (fun s=>[(0,.int .u64 (s.1:Int)),(3,s.2.2)])
  (fun s=>aK 5 1 s.2.2 s.2.1.length (bV s.2.1)::F) (n,[],.slice none 0 0) ⟨rfl,Nat.le_refl _⟩ rfl cF ad ?_
 rintro⟨m,done,v⟩⟨hm,hmn⟩ ih
 simp only at hm hmn
 have hlen:done.length+(uv m).length≤10:=by rw[← List.length_append,hm];exact aeD
 have kY:=Eh m
 first|refine aN 0 rfl ?_|refine aM 0 rfl ?_
 rintro va vc hve
 simp only at hve
 subst hve
 refine go ?_
 refine aB zr zr ?_ ?_
 ·intro fO
  simp only at fO
  have xZ:¬m<128:=by omega
  refine go ?_
  refine lB zr zr zr zr zr zr ?_
  refine au 10 (.int .u8 ((m%256:Nat):Int)) rfl (adR m) (go ?_)
  refine au 11 (u8 (UInt8.ofNat (m%128+128))) rfl (TO m) ?_
  refine az (cs:=bV [UInt8.ofNat (m%128+128)]) zr zr zr zr zr zr zr zr zr bO ?_
  intro b1
  refine bg (mm:=1) (news:=bV [UInt8.ofNat (m%128+128)]) 1 0 zr zr zr zr zr zr zr zr zr zr zr zr (Vw.ak rfl) rfl (dR _) (by simp only;omega) (by show(_+1)*1≤_;simp only;omega) (fun _=>rfl) bO ?_
  intro v1
  rw[show bV done++bV [UInt8.ofNat (m%128+128)]=bV (done++[UInt8.ofNat (m%128+128)])from by simp[bV],show done.length+1=(done++[UInt8.ofNat (m%128+128)]).length from by simp]
  first|refine aN 1 rfl ?_|refine aM 1 rfl ?_
  rintro wa wc rfl
  refine go ?_
  refine iQ zr zr zr aj ?_
  refine au 7 (.int .u64 ((m/128:Nat):Int)) rfl (congrArg (Value.int .u64) (by show(m:Int)/128=_;omega)) ?_
  refine go ?_
  refine aQ ih (m/128,done++[UInt8.ofNat (m%128+128)],_) rfl ⟨by simp only[List.append_assoc,List.singleton_append];rw[← xo xZ];exact hm,by simp only;omega⟩ (by simp only;omega) cF ad
 ·intro dk
  simp only at dk
  have Du:m<128:=by omega
  refine go ?_
  refine au 16 (u8 (UInt8.ofNat m)) rfl (by simp only[u8,UInt8.toNat_ofNat'];congr 1;omega) ?_
  refine az (cs:=bV [UInt8.ofNat m]) zr zr zr zr zr zr zr zr zr bO ?_
  intro b1
  refine bg (mm:=1) (news:=bV [UInt8.ofNat m]) 1 0 zr zr zr zr zr zr zr zr zr zr zr zr (Vw.ak rfl) rfl (dR _) (by simp only;omega) (by show(_+1)*1≤_;simp only;omega) (fun _=>rfl) bO ?_
  intro v1
  rw[show bV done++bV [UInt8.ofNat m]=bV (uv n)from by rw[← hm,gi Du];simp[bV],show done.length+1=(uv n).length from by rw[← hm,gi Du];simp]
  refine go ?_
  first|refine aG hE Tryz.func130 rfl _ zr zr ad|refine ag hE Tryz.func130 rfl _ zr zr ad
theorem xC{x q y:Nat}(hq:q≤64)(h:x*2 ^ q=y)(hy:y<18446744073709551616):Value.int .u64 (IntKind.u64.wrap ((x:Int)*2 ^ (min ((q:Int).toNat) IntKind.u64.bits))) = .int .u64 (y:Int):=by
 have e:(x:Int)*2 ^ (min ((q:Int).toNat) IntKind.u64.bits)=(y:Int):=by
  show(x:Int)*2 ^ (min q 64)=_
  grind
 grind [dr,js]
def Dd(A:HP):Vw A (.slice none 0 0) ([]:List UInt8).length (bV []):=⟨none,0,rfl,.inl rfl⟩
set_option maxRecDepth 20000 in
theorem zM(A:HP)(v:Value)(bs:List UInt8)(hv:Vw A v bs.length (bV bs))(jE:∃a c,v = .slice a bs.length c∧bs.length≤c)(hl:bs.length≤9223372036854775807) :
    aH Tryz.prog 210 [v] [A] (fun r H=>∃rv,r = .tuple #[.int .u64 ((db bs).1:Int),rv,.bool (db bs).2.2]∧(Vw A rv (db bs).2.1.length (bV (db bs).2.1)∧∃a c,rv = .slice a (db bs).2.1.length c∧(db bs).2.1.length≤c)∧H=[A]):=by
  obtain⟨a0,c0,rfl,Ci⟩:=jE
  refine aH.aC Tryz.func210 Tryz.ntmps210 fun G F R hE=>?_
  refine go ?_
  refine bF (fun s:Nat × Nat=>s.1≤bs.length∧s.1≤10∧(s.1≤9→s.2<2 ^ (7*s.1))∧nz 0 0 bs=nz s.1 s.2 (bs.drop s.1)) (fun s=>bs.length-s.1)
    (fun s=>[(0,.slice a0 bs.length c0),(5,.int .u64 (s.2:Int)),(8,.slice a0 bs.length c0),(9,.int .i64 bs.length),(10,.int .i64 s.1)])
    (fun _=>A::F) (0,0) ⟨Nat.zero_le _,aj,by simp,by simp⟩ rfl cF ad ?_
  rintro⟨i,acc⟩⟨hi,Bg,gH,kH⟩ ih
  simp only at hi Bg gH kH
  refine go ?_
  refine aB zr zr ?_ ?_
  case' refine_2 =>
    intro fO
    simp only at fO
    have EW:db bs=(0,[],false):=by
      grind [db,nz]
    refine go ?_
    rw[EW]at hE
    first|refine ah hE Tryz.func210 zr zr ⟨_,rfl,⟨Dd A,none,0,rfl,Nat.le_refl _⟩,rfl⟩|refine ag hE Tryz.func210 rfl _ rfl ⟨_,rfl,⟨Dd A,none,0,rfl,Nat.le_refl _⟩,rfl⟩ ad
  intro dk
  simp only at dk
  have e9:i<bs.length:=by omega
  obtain⟨ba,oa,ca,ez⟩:=H8 hv aj
  simp only[Value.slice.injEq,true_and]at ez
  obtain⟨rfl,rfl⟩:=ez
  obtain⟨c,hc⟩:∃c,bs[i]?=some c:=⟨bs[i],by simp⟩
  have S5:bs.drop i=c::bs.drop (i+1):=by
    rw[List.drop_eq_getElem_cons e9];congr 1
    grind
  have V2:c.toNat<256:=c.toNat_lt
  rw[S5]at kH
  simp only[nz]at kH
  refine go ?_
  refine bW i zr zr zr zr zr zr zr zr e9 ?_
  refine aZ 0 i zr zr zr hv rfl (yn hc) zr zr ?_
  repeat'(first|(with_reducible intro k9)|refine g9 ?_|refine bG ?_ ?_|refine dA zr zr zr zr ?_ ?_|refine aB zr zr ?_ ?_)
  case' refine_1 =>
    have ml:(i=10∨(i=9∧1<c.toNat)):=by simp only at *;omega
  case' refine_2.refine_1.refine_1 =>
    have ml:(i=10∨(i=9∧1<c.toNat)):=by simp only at *;omega
  case' refine_2.refine_1.refine_2 => 
    have nY:¬(i=10∨(i=9∧1<c.toNat)):=by simp only at *;omega
  case' refine_2.refine_2 => 
    have nY:¬(i=10∨(i=9∧1<c.toNat)):=by simp only at *;omega
  any_goals (
    have EW:db bs=(0,[],false):=by unfold db;rw[kH,if_pos ml];rfl
    rw[EW]at hE
    (first|refine ah hE Tryz.func210 zr zr ⟨_,rfl,⟨Dd A,none,0,rfl,Nat.le_refl _⟩,rfl⟩|refine ag hE Tryz.func210 rfl _ rfl ⟨_,rfl,⟨Dd A,none,0,rfl,Nat.le_refl _⟩,rfl⟩ ad))
  all_goals(
    have hi9:i≤9:=by omega
    have hac:=gH hi9
    have VR:c.toNat%128<128:=Nat.mod_lt _ aj
    have Tc:=Tm (c:=c.toNat%128) hi9 hac VR (by intro h;omega)
    refine au 27 (.int .u8 ((c.toNat%128:Nat):Int)) rfl (congrArg (Value.int .u8) (Fv _ V2)) (go ?_)
    refine nG zr zr zr (by simp only[js];omega) ?_
    refine au 30 (.int .i64 ((7*i:Nat):Int)) rfl (congrArg (Value.int .i64) (by simp only;omega)) ?_
    refine oD zr zr zr aj ?_
    refine au 31 (.int .u64 ((c.toNat%128*2 ^ (7*i):Nat):Int)) rfl (xC aj rfl aj) (go ?_)
    refine aE 5 (.int .u64 ((acc+c.toNat%128*2 ^ (7*i):Nat):Int)) rfl (congrArg (Value.int .u64) (ZW hac Tc)) (go ?_)
    refine aB zr zr ?_ ?_
    · intro agq
      have hcm:c.toNat%128=c.toNat:=by omega
      have J5:db bs=(acc+c.toNat%128*2 ^ (7*i),bs.drop (i+1),decide (i=0∨0<c.toNat)):=by
        grind [db]
      refine aO (fun w=>Sat G w ([])) (lO 0 14 .nil) rfl aw aw aw dI ?_
      refine go ?_
      refine aU (p:=(i:Int)+1) (q:=(bs.length:Int)) zr zr zr zr zr zr zr aj aj (.inl rfl) ?_
      refine au 39 (.slice (sliceAt (some ⟨ba,oa,none⟩) c0 (i+1) 1) (bs.drop (i+1)).length (c0-(i+1))) rfl (by rw[show((i:Int)+1).toNat=i+1 from by omega,show((bs.length:Int)).toNat=bs.length from by omega,List.length_drop];rfl) ?_
      have Hg:Vw A (.slice (sliceAt (some ⟨ba,oa,none⟩) c0 (i+1) 1) (bs.drop (i+1)).length (c0-(i+1))) (bs.drop (i+1)).length (bV (bs.drop (i+1))):=by
        have:=hv.Kv (s:=1) (by rw[bN];omega) Ci (i+1) aj
        rw[List.length_drop,show bV (bs.drop (i+1))=(bV bs).drop ((i+1)*1)from by simp[bV,List.map_drop]]
        exact this
      rw[J5]at hE
      repeat'(first|(with_reducible intro k9)|refine g9 ?_|refine bG ?_ ?_|refine dA zr zr zr zr ?_ ?_|refine aB zr zr ?_ ?_)
      all_goals first
        | (have DC:i=0:=(by simp only at k9;omega)
           rw[decide_eq_true (Or.inl DC:i=0∨0<c.toNat)]at hE
           (first|refine ah hE Tryz.func210 zr zr ⟨_,rfl,⟨Hg,_,_,rfl,by simp only[List.length_drop];omega⟩,rfl⟩|refine ag hE Tryz.func210 rfl _ rfl ⟨_,rfl,⟨Hg,_,_,rfl,by simp only[List.length_drop];omega⟩,rfl⟩ ad))
        | (have DC:¬i=0:=(by simp only at k9;omega)
           rw[show decide (i=0∨0<c.toNat)=decide ((0:Int)<(c.toNat:Int))from decide_eq_decide.2 ⟨fun h=>by omega,fun h => .inr aj⟩]at hE
           (first|refine ah hE Tryz.func210 zr zr ⟨_,rfl,⟨Hg,_,_,rfl,by simp only[List.length_drop];omega⟩,rfl⟩|refine ag hE Tryz.func210 rfl _ rfl ⟨_,rfl,⟨Hg,_,_,rfl,by simp only[List.length_drop];omega⟩,rfl⟩ ad))
    · intro afX
      refine go ?_
      refine aQ ih (i+1,acc+c.toNat%128*2 ^ (7*i)) rfl ⟨by simp only;omega,by simp only;omega,fun _=>zy hac VR,by rw[kH,if_neg nY,if_neg aj]⟩ (by simp only;omega) cF ad)
def eU(A:HP)(v:Value)(bs:List UInt8):Prop:=Vw A v bs.length (bV bs)∧∃a c,v = .slice a bs.length c∧bs.length≤c
def eU.cut{a:Option Addr}{c:Nat}(h:eU A (.slice a n c) bs)(p:Nat)(hp:p≤bs.length):eU A (.slice (sliceAt a c p 1) (bs.length-p) (c-p)) (bs.drop p):=by
 obtain⟨hv,a',c',he,hc⟩:=h
 simp only[Value.slice.injEq]at he
 obtain⟨rfl,rfl,rfl⟩:=he
 refine⟨?_,_,_,by rw[List.length_drop],by rw[List.length_drop];omega⟩
 have:=hv.Kv (s:=1) (by rw[bN];omega) hc p hp
 rw[List.length_drop,show bV (bs.drop p)=(bV bs).drop (p*1)from by simp[bV,List.map_drop]]
 exact this
def eU.front{a:Option Addr}{c:Nat}(h:eU A (.slice a n c) bs)(q:Nat)(hq:q≤bs.length):eU A (.slice (sliceAt a c 0 1) q c) (bs.take q):=by
 obtain⟨hv,a',c',he,hc⟩:=h
 simp only[Value.slice.injEq]at he
 obtain⟨rfl,rfl,rfl⟩:=he
 have hl:(bs.take q).length=q:=by rw[List.length_take];omega
 refine⟨?_,_,_,by rw[hl],by rw[hl];omega⟩
 have:=hv.adQ (s:=1) q
 rw[hl,show bV (bs.take q)=(bV bs).take (q*1)from by simp[bV,List.map_take]]
 exact this
def eU.mono{B:HP}{v:Value}(h:eU A v bs)(O':∀h,B h→∃h',sub h' h∧A h'):eU B v bs:=⟨h.1.mono O',h.2⟩
theorem eU.piece{a:Option Addr}{c:Nat}(h:eU A (.slice a n c) bs)(p q:Nat)(hp:p≤q)(hq:q≤bs.length):eU A (.slice (sliceAt a c p 1) (q-p) (c-p)) ((bs.drop p).take (q-p)):=by
 have h1:=h.cut p aj
 obtain⟨hv,a',c',he,hc⟩:=h1
 have hlen:((bs.drop p).take (q-p)).length=q-p:=by rw[List.length_take,List.length_drop];omega
 refine⟨?_,_,_,by rw[hlen],by rw[hlen];obtain⟨_,_,_,Hu,qu⟩:=h;simp only[Value.slice.injEq]at Hu;omega⟩
 obtain⟨a2,oB,Hu,h0|⟨b,o,ha,qu⟩⟩:=hv
 ·simp only[Value.slice.injEq]at Hu
  have:(bs.drop p)=[]:=by simpa[bV]using h0
  refine⟨_,_,by rw[hlen],.inl ?_⟩
  grind
 ·simp only[Value.slice.injEq]at Hu
  refine⟨_,_,by rw[hlen],.inr ⟨b,o,by rw[Hu.1,ha],fun h' hA j x hj=>?_⟩⟩
  grind [bV]
def gn(A:HP)(v:Value)(bs:List UInt8)(hv:eU A v bs)(hl:bs.length≤9223372036854775807) :
  aH Tryz.prog 191 [v] [A] (fun r H=>r=(match cH bs with
   | some n => .tuple #[.int .u64 (n:Int),.int .i64 0]
   | none => .tuple #[.int .u64 0,.int .i64 2])∧H=[A]):=by
 refine aH.aC Tryz.func191 Tryz.ntmps191 fun G F R hE=>?_
 refine go ?_
 refine ao (zM A v bs hv.1 hv.2 hl) ?_
 rintro _ _⟨rv,rfl,⟨Hg,a,c,rfl,_⟩,rfl⟩
 cases k8:(db bs).2.2 with
 | false =>
  have hn:cH bs=none:=by unfold cH;rw[if_neg (by rw[k8];simp)]
  rw[hn]at hE
  refine go ?_
  refine ah hE Tryz.func191 zr zr ⟨rfl,rfl⟩
 | true =>
  repeat'(first|(with_reducible intro k9)|refine g9 ?_|refine aB zr zr ?_ ?_)
  ·have hn:cH bs=none:=by unfold cH;rw[if_neg (fun h=>by rw[h.2]at k9;simp at k9)]
   rw[hn]at hE
   refine ah hE Tryz.func191 zr zr ⟨rfl,rfl⟩
  ·have hn:cH bs=some (db bs).1:=by unfold cH;rw[if_pos ⟨k8,List.eq_nil_of_length_eq_zero aj⟩]
   rw[hn]at hE
   refine ah hE Tryz.func191 zr zr ⟨rfl,rfl⟩
def bB(bs:List UInt8):List UInt8:=uv bs.length++bs
end Go.Proofs.YtlionahpheehaaaGreatDoor
namespace Go.Proofs.YtlionahpheehaaaGreatDoor
open Go Go.SL
theorem Lm{e:TypeId}{v:Value}{bs:List UInt8}(h0:∃h,aK e 1 v bs.length (bV bs) h):eU (aK e 1 v bs.length (bV bs)) v bs:=by
 refine⟨Vw.lj e 1 v bs.length (bV bs) h0,?_⟩
 obtain⟨h,hl,⟨a,rfl,hn,_⟩|⟨b,o,cap,pre,junk,rfl,hp,hn,hc,_⟩⟩:=h0
 ·simp_all
 grind
section
variable{P:Program}{f:FuncId}{n:Nat}{R:Ending→World→Prop}{G:cL}{k:List Item}{L:gh}{H:List HP}{S:World→Prop}{all:Array Oper}{rest:Pl}
def fY{e:TypeId}{v:Value}{bs:List UInt8}(i:Nat)(hi:cD H i=some (aK e 1 v bs.length (bV bs)))(h:eU (aK e 1 v bs.length (bV bs)) v bs→J P f n R G S all rest k L H):J P f n R G S all rest k L H :=
 zg fun w hw=>by
  obtain⟨h1,_,hA⟩:=hw.kp hi
  exact h (Lm ⟨h1,hA⟩)
def qG{e:TypeId}{v:Value}{bs:List UInt8}(i:Nat)(hi:cD H i=some (aK e 1 v bs.length (bV bs)))(h:eU (aK e 1 v bs.length (bV bs)) v bs→K P f n R G k L H):K P f n R G k L H :=
 pH fun⟨w,hw⟩=>by
  obtain⟨h1,_,hA⟩:=hw.kp hi
  exact h (Lm ⟨h1,hA⟩)
end
theorem aX{H:List HP}{i:Nat}{A:HP}(hi:cD H i=some A):∀h,Sep H h→∃h',sub h' h∧A h':=fun h hs=>by
 rw[ed]at hi
 obtain⟨h',VF,hA⟩:=aq.perm (dN hi) h hs
 obtain⟨h1,h2,ha,_,hd,hj⟩:=hA
 refine⟨h1,fun b o hb=>?_,ha⟩
 refine VF b o ?_
 grind
end Go.Proofs.YtlionahpheehaaaGreatDoor
namespace Go.Proofs.YtlionahpheehaaaGreatDoor
open Go Go.SL
def ig(x:Int × List UInt8):List UInt8:=UInt8.ofNat x.1.toNat::(uv x.2.length++x.2)
def cU(l:List (Int × List UInt8)):List UInt8:=l.flatMap ig
def rA:Nat→List UInt8→List (Int × List UInt8)
 | 0,_=>[]
 | f+1,b=>match b with
  | []=>[]
  | c::r=>if(db r).2.2=true∧(db r).1≤(db r).2.1.length then((c.toNat:Int),(db r).2.1.take (db r).1)::rA f ((db r).2.1.drop (db r).1)else [(0,[])]
def fA:Int→List (Int × List UInt8)→Bool
 | _,[]=>true
 | last,x::l=>decide (last<x.1) && decide (x.1≤63) && fA x.1 l
def nJ(b:List UInt8):Option (List (Int × List UInt8)):=if 65536<b.length then none else if fA 0 (rA b.length b)then some (rA b.length b)else none
structure It where
 n:Int
 v:Value
 b:List UInt8
instance:Inhabited It:=⟨⟨0,.slice none 0 0,[]⟩⟩
def kq(x:It):List Value:=[.int .i64 x.n,x.v]
theorem iy(x:It):(kq x).length=2:=rfl
def It.p(x:It):Int × List UInt8:=(x.n,x.b)
def qM(X:HP)(v:Value)(l:List It):Prop:=Vw X v l.length (l.flatMap kq)∧∀x∈l,eU X x.v x.b
theorem Gx(a b:List (Int × List UInt8)):cU (a++b)=cU a++cU b:=by simp[cU]
theorem C4(l:List (Int × List UInt8))(i:Nat):(cU (l.take i)).length≤(cU l).length:=by
 conv=>rhs;rw[← List.take_append_drop i l]
 grind [Gx]
def nU(l:List (Int × List UInt8))(i:Nat):Int:=match (l.take i).getLast? with
 | some x=>x.1
 | none=>0
theorem PX:∀(l:List (Int × List UInt8)) (last:Int) (i:Nat) (x:Int × List UInt8),fA last l=true→l[i]?=some x→(match (l.take i).getLast? with|some y=>y.1|none=>last)<x.1∧x.1≤63:=by
 intro l
 induction l with
 | nil=>intro last i x h hx;simp at hx
 | cons y l ih =>
  grind [fA]
theorem AZ{l:List (Int × List UInt8)}{i:Nat}{x:Int × List UInt8}(h:l[i]?=some x):nU l (i+1)=x.1:=by
 grind [nU]
theorem PW:∀(l:List (Int × List UInt8)) (last:Int),fA last l=true→0≤last→∀x∈l,0<x.1:=by
 intro l
 induction l with
 | nil=>intro last h h0 x hx;cases hx
 | cons y l ih =>
  grind [fA]
theorem RR:∀(bs:List UInt8) (i acc n:Nat) (r:List UInt8) (ok:Bool),nz i acc bs=some (n,r,ok)→r.length<bs.length:=by
 intro bs
 induction bs with
 | nil=>intro i acc n r ok h;simp[nz]at h
 | cons c bs ih =>
  grind [nz]
theorem px(bs:List UInt8):(db bs).2.1.length≤bs.length:=by
 unfold db
 cases h:nz 0 0 bs with
 | none=>simp
 | some x =>
  have:=RR bs 0 0 _ _ _ h
  grind
theorem CT:∀(f g:Nat) (b:List UInt8),b.length≤f→b.length≤g→rA f b=rA g b
 | 0,0,_,_,_=>rfl
 | 0,g+1,b,hf,_=>by
  have:b=[]:=List.eq_nil_of_length_eq_zero aj
  subst this;rfl
 | f+1,0,b,_,hg=>by
  have:b=[]:=List.eq_nil_of_length_eq_zero aj
  subst this;rfl
 | f+1,g+1,[],_,_=>rfl
 | f+1,g+1,c::r,hf,hg=>by
  rw[rA,rA]
  have:=px r
  rw[List.length_cons]at hf hg
  split
  ·rw[CT f g _ (by grind) (by grind)]
  ·rfl
def eP(b:List UInt8):List (Int × List UInt8):=rA b.length b
theorem rB:eP []=[]:=rfl
theorem sL{c:UInt8}{r:List UInt8}(h:(db r).2.2=true∧(db r).1≤(db r).2.1.length):eP (c::r)=((c.toNat:Int),(db r).2.1.take (db r).1)::eP ((db r).2.1.drop (db r).1):=by
 grind [px,eP,rA,CT]
theorem Ac{c:UInt8}{r:List UInt8}(h:¬((db r).2.2=true∧(db r).1≤(db r).2.1.length)):eP (c::r)=[(0,[])]:=by
 grind [eP,rA]
theorem vD:∀(f:Nat) (b:List UInt8),b.length≤f→(eP b).length≤b.length
 | 0,b,h=>by
  grind [rB]
 | f+1,[],_=>by simp[rB]
 | f+1,c::r,h=>by
  have h1:=px r
  rw[List.length_cons]at h
  by_cases hk:(db r).2.2=true∧(db r).1≤(db r).2.1.length
  ·have h2:=vD f ((db r).2.1.drop (db r).1) (by grind)
   grind [sL]
  grind [Ac]
def wx(xs:List (Int × List UInt8))(i:Nat):Bool:=match xs[i]? with
 | some x=>decide (nU xs i<x.1) && decide (x.1≤63)
 | none=>true
def Bn{xs:List (Int × List UInt8)}{i:Nat}{x:Int × List UInt8}(h:xs[i]?=some x):wx xs i=(decide (nU xs i<x.1) && decide (x.1≤63)):=by unfold wx;rw[h]
theorem PY:∀(l:List (Int × List UInt8)) (last:Int),(fA last l=true↔∀i x,l[i]?=some x→(match (l.take i).getLast? with|some y=>y.1|none=>last)<x.1∧x.1≤63):=by
 intro l
 induction l with
 | nil=>intro last;simp[fA]
 | cons y l ih =>
  intro last
  simp only[fA,Bool.and_eq_true,ih]
  constructor
  ·grind
  ·intro h
   refine⟨by simpa using h 0 y rfl,fun i x hx=>?_⟩
   have:=h (i+1) x (by grind)
   grind
def C2(xs:List (Int × List UInt8)):fA 0 xs=true↔∀i,i<xs.length→wx xs i=true:=by
 rw[PY]
 constructor
 ·intro h i hi
  have hx:xs[i]?=some xs[i]:=by simp
  rw[Bn hx,Bool.and_eq_true,decide_eq_true_eq,decide_eq_true_eq]
  exact h i _ hx
 ·intro h i x hx
  have:=h i (List.getElem?_eq_some_iff.1 hx).1
  rw[Bn hx,Bool.and_eq_true,decide_eq_true_eq,decide_eq_true_eq]at this
  exact this
def fG(b:List UInt8):Dg:=cY 0 [b]
def kE(l r:Dg):Dg:=cY 1 [l.bs,r.bs]
def cP:List Dg→List Dg
 | a::b::r=>kE a b::cP r
 | l=>l
theorem du:∀l:List Dg,(cP l).length=(l.length+1)/2
 | []=>rfl
 | [a]=>by simp[cP]
 | a::b::r=>by simp only[cP,List.length_cons,du r];omega
theorem qC:∀(l:List Dg) (i:Nat),(cP l)[i]?=match l[2*i]?,l[2*i+1]? with
  | some a,some b=>some (kE a b)
  | x,_=>x
 | [],i=>by simp[cP]
 | [a],i=>by
  cases i with
  | zero=>rfl
  | succ i=>simp[cP,show 2*(i+1)=2*i+1+1 from by omega]
 | a::b::r,i=>by
  cases i with
  | zero=>rfl
  | succ i =>
   simp only[cP,List.getElem?_cons_succ,show 2*(i+1)=2*i+1+1 from by omega]
   exact qC r i
def Vj:Nat→List Dg→List Dg
 | 0,l=>l
 | f+1,l=>if l.length≤1 then l else Vj f (cP l)
def yD(l:List Dg):Dg:=if l=[]then cY 2 []else((Vj l.length l).head?).getD Dg.zero
structure Bl where
 d:Dg
 size:Int
 piece:Int
 root:Dg
deriving DecidableEq
instance:Inhabited Bl:=⟨⟨Dg.zero,0,0,Dg.zero⟩⟩
def Bl.zero:Bl:=⟨Dg.zero,0,0,Dg.zero⟩
def ck(x:Bl):List Value:=dC x.d++[.int .i64 x.size,.int .i64 x.piece]++dC x.root
def Fq(x:Bl):(ck x).length=66:=rfl
def bP(x:Bl):Bool:=decide (1≤x.size∧x.size≤1048576∧16≤x.piece∧x.piece≤16384∧(x.size+x.piece-1)/x.piece≤1024)
def cT(x:Bl):Int:=if bP x then(x.size+x.piece-1)/x.piece else 0
def dX(x:Bl)(i:Int):Option (Int × Int):=if i<0∨cT x≤i then none else some (i*x.piece,min x.piece (x.size-i*x.piece))
def iU(k:Nat):Nat→List UInt8→List (List UInt8)
 | 0,_=>[]
 | f+1,b=>if b=[]then []else b.take k::iU k f (b.drop k)
def er(b:List UInt8)(piece:Int):Option (List Dg):=if bP ⟨Dg.zero,b.length,piece,Dg.zero⟩then some ((iU piece.toNat b.length b).map fG)else none
def jF(b:List UInt8)(piece:Int):Option Bl:=(er b piece).map fun l=>⟨fz b,b.length,piece,yD l⟩
def eo(x:Bl)(b:List UInt8):Bool:=decide (jF b x.piece=some x)
def ry:List Bl→Bool
 | []=>false
 | x::l=>l.any (fun y=>decide (y.d=x.d)) || ry l
def hG(l:List Bl):Nat:=if l.length<1∨16<l.length∨l.any (fun x => !bP x)=true then 1 else if ry l then 5 else 0
def ew(x:Bl):List (Int × List UInt8):=[(1,x.d.bs),(2,uv x.size.toNat),(3,uv x.piece.toNat),(4,x.root.bs)]
def jS:Nat→List Bl→List (Int × List UInt8)
 | _,[]=>[]
 | i,x::l=>((i:Int)+1,cU (ew x))::jS (i+1) l
def wH(l:List Bl):List UInt8:=cU (jS 0 l)
def AN(l:List Bl):Dg:=fz (wH l)
def wI(b:List UInt8):Dg:=if h:b.length=32 then⟨b,h⟩else Dg.zero
def n7(b:List UInt8):Option Bl:=match nJ b with
 | some [(_,a),(_,s),(_,p),(n,r)]=>if n≠4∨a.length≠32∨r.length≠32 then none else match cH s,cH p with
  | some s,some p=>if 1048576<max s p then none else some ⟨wI a,s,p,wI r⟩
  | _,_=>none
 | _=>none
def jM:Nat→List (Int × List UInt8)→Option (List Bl)
 | _,[]=>some []
 | i,(n,b)::l=>match n7 b with
  | some x=>if n≠(i:Int)+1 then none else(jM (i+1) l).map (x::·)
  | none=>none
def By(b:List UInt8):Option (List Bl):=match nJ b with
 | some l=>match jM 0 l with
  | some x=>if hG x=0 then some x else none
  | none=>none
 | none=>none
def Le{n:Nat}(h:n≤1048576):(uv n).length≤3:=xl 2 n aj
def A8(x:Bl)(h:bP x=true):(cU (ew x)).length≤78:=by
 simp only[bP,decide_eq_true_eq]at h
 have h1:=Le (n:=x.size.toNat) aj
 have h2:=Le (n:=x.piece.toNat) aj
 have h3:uv 32=[32]:=by rw[gi aj];rfl
 have h4:(uv (uv x.size.toNat).length).length=1:=by rw[gi aj];rfl
 have h5:(uv (uv x.piece.toNat).length).length=1:=by rw[gi aj];rfl
 simp only[cU,ew,ig,List.flatMap_cons,List.flatMap_nil,List.length_append,List.length_cons,List.length_nil,x.d.len,x.root.len,h3,h4,h5]
 omega
theorem yU:∀(l:List Bl) (i:Nat),i+l.length≤63→fA (i:Int) (jS i l)=true
 | [],i,_=>rfl
 | x::l,i,h=>by
  rw[List.length_cons]at h
  simp only[jS,fA,Bool.and_eq_true,decide_eq_true_eq]
  refine⟨⟨aj,aj⟩,?_⟩
  have:=yU l (i+1) aj
  grind
theorem A6:∀(l:List Bl) (i:Nat),(∀x∈l,bP x=true)→(cU (jS i l)).length≤80*l.length
 | [],i,_=>by simp[jS,cU]
 | x::l,i,h=>by
  have h1:=A8 x (h x (List.mem_cons_self ..))
  have h2:=A6 l (i+1) fun y hy=>h y (List.mem_cons_of_mem _ hy)
  have h3:(uv (cU (ew x)).length).length=1:=by rw[gi aj];rfl
  grind [cU,jS,ig]
theorem qs{l:List Bl}(h:hG l=0):l.length≤16∧1≤l.length∧∀x∈l,bP x=true:=by
 grind [hG]
theorem HQ{l:List Bl}(h:hG l=0):(wH l).length≤1280:=by
 grind [qs,A6,wH]
theorem Ku{b:List UInt8}{l:List Bl}(h:By b=some l):hG l=0:=by
 grind [By]
end Go.Proofs.YtlionahpheehaaaGreatDoor
namespace Go.SL
open Go
def Cn(n:Nat):UInt8:=UInt8.ofNat (if n<10 then 48+n else 87+n)
def mi(c:UInt8):Option Nat:=if 48≤c.toNat∧c.toNat≤57 then some (c.toNat-48)else if 97≤c.toNat∧c.toNat≤102 then some (c.toNat-87)else none
def kX(s:List UInt8)(i:Nat):Nat:=(mi (s.getD i 0)).getD 0
def yB(d:Dg)(i:Nat):UInt8:=Cn (if i%2=0 then(d.at (i/2)).toNat/16 else(d.at (i/2)).toNat%16)
def ib(d:Dg):List UInt8:=(List.range 64).map (yB d)
theorem jX(d:Dg):(ib d).length=64:=by simp[ib]
def oK(d:Dg){i:Nat}(h:i<64):(ib d)[i]?=some (yB d i):=by simp[ib,h]
def IW(s:List UInt8)(i:Nat):List UInt8:=(List.range 32).map fun j=>UInt8.ofNat (if 2*j+1<i then 16*kX s (2*j)+kX s (2*j+1)else if 2*j<i then kX s (2*j)else 0)
theorem nR(s:List UInt8)(i:Nat):(IW s i).length=32:=by simp[IW]
theorem vR(s:List UInt8)(i:Nat){j:Nat}(h:j<32):(IW s i)[j]?=some (UInt8.ofNat (if 2*j+1<i then 16*kX s (2*j)+kX s (2*j+1)else if 2*j<i then kX s (2*j)else 0)):=by simp[IW,h]
theorem Qi(s:List UInt8):IW s 0=List.replicate 32 0:=by
 apply List.ext_getElem?
 grind [vR,nR]
theorem Ul{c:UInt8}{v:Nat}(h:mi c=some v):v<16:=by
 grind [mi]
theorem EV(s:List UInt8)(i:Nat):kX s i<16:=by
 grind [kX,mi,Ul]
def Rw{n:Nat}(h:n<16):mi (Cn n)=some n:=by
 have:∀n:Nat,n<16→mi (Cn n)=some n:=by decide
 exact this n h
theorem PG{c:UInt8}{v:Nat}(h:mi c=some v):Cn v=c:=by
 apply UInt8.toNat.inj
 unfold mi at h
 unfold Cn
 simp only[UInt8.toNat_ofNat']
 grind
def kD(s:List UInt8):Option Dg:=if s.length=64∧∀c∈s,mi c≠none then some ⟨IW s 64,nR s 64⟩else none
theorem zJ{s:List UInt8}{i:Nat}{c:UInt8}(h:s[i]?=some c):s.getD i 0=c:=by rw[List.getD_eq_getElem?_getD,h];rfl
theorem vJ(d:Dg)(i:Nat):mi (yB d i)=some (if i%2=0 then(d.at (i/2)).toNat/16 else(d.at (i/2)).toNat%16):=by
 have:=(d.at (i/2)).toNat_lt
 exact Rw (by split <;> omega)
def Dg.R3(d:Dg){j:Nat}(h:j<32):d.bs[j]?=some (d.at j):=by
 unfold Dg.at
 rw[List.getD_eq_getElem?_getD,List.getElem?_eq_getElem (by rw[d.len];exact h)];rfl
theorem JL(d:Dg):kD (ib d)=some d:=by
  unfold kD
  rw[if_pos ⟨jX d,fun c hc=>by
    obtain⟨i,hi,rfl⟩:=List.mem_map.1 hc
    rw[vJ];simp⟩]
  congr 1
  obtain⟨bs,hl⟩:=d
  simp only[Dg.mk.injEq]
  apply List.ext_getElem?
  intro j
  rcases Nat.lt_or_ge j 32 with h|h
  · rw[vR _ _ h,if_pos aj,(⟨bs,hl⟩:Dg).R3 h]
    unfold kX
    rw[zJ (oK _ (show 2*j<64 by omega)),zJ (oK _ (show 2*j+1<64 by omega)),vJ,vJ]
    simp only[Option.getD_some,Option.some.injEq]
    rw[if_pos aj,if_neg aj,show 2*j/2=j from by omega,show(2*j+1)/2=j from by omega]
    apply UInt8.toNat.inj
    simp only[UInt8.toNat_ofNat']
    have:=((⟨bs,hl⟩:Dg).at j).toNat_lt
    omega
  grind [nR]
theorem Jh{s:List UInt8}{d:Dg}(h:kD s=some d):s=ib d:=by
 unfold kD at h
 split at h
 ·rename_i hs
  cases h
  apply List.ext_getElem?
  intro i
  rcases Nat.lt_or_ge i 64 with hi|hi
  ·rw[oK _ hi]
   obtain⟨c,hc⟩:∃c,s[i]?=some c:=⟨s[i],List.getElem?_eq_getElem aj⟩
   rw[hc]
   congr 1
   obtain⟨v,hv⟩:=Option.ne_none_iff_exists'.1 (hs.2 c (List.mem_of_getElem? hc))
   rw[← PG hv]
   unfold yB
   congr 1
   have S8:(Dg.at ⟨IW s 64,nR s 64⟩ (i/2))=UInt8.ofNat (16*kX s (2*(i/2))+kX s (2*(i/2)+1)):=by
    grind [Dg.at,zJ,vR]
   rw[S8]
   have h1:=EV s (2*(i/2))
   have h2:=EV s (2*(i/2)+1)
   have h3:kX s i=v:=by unfold kX;rw[zJ hc,hv];rfl
   simp only[UInt8.toNat_ofNat']
   grind
  grind [jX]
 ·cases h
def cX(kind:List UInt8)(d:Dg):ByteArray:=strOf (kind++ib d)
def kf(kind:List UInt8)(name:ByteArray):Option Dg:=if kind.isPrefixOf name.data.toList then kD (name.data.toList.drop kind.length)else none
theorem uI(l:List UInt8):(strOf l).data.toList=l:=by simp[strOf]
theorem tr{kind:List UInt8}{name:ByteArray}{d:Dg}:kf kind name=some d↔name=cX kind d:=by
 unfold kf cX
 constructor
 ·intro h
  split at h
  ·rename_i hp
   have h2:=Jh h
   obtain⟨t,ht⟩:=List.isPrefixOf_iff_prefix.1 hp
   grind [Aj]
  ·cases h
 grind [uI,JL]
theorem Kk(kind:List UInt8)(d:Dg):kf kind (cX kind d)=some d:=tr.2 rfl
theorem DR{k:List UInt8}{a b:Dg}(h:cX k a=cX k b):a=b:=by
 grind [Kk]
def Bt{j k:List UInt8}{a b:Dg}(hl:j.length=k.length)(h:cX j a=cX k b):j=k:=by
 unfold cX at h
 have:=CU.1 h
 exact(List.append_inj this hl).1
end Go.SL
namespace Go.Proofs.YtlionahpheehaaaGreatDoor
open Go Go.SL
variable{A:Ab}{k s:ByteArray}{files:List (Nat × Value × Value)}{H:List HP}{f i:Nat}{v v1 v2:Value}{w:World}{G:cL}
attribute [local irreducible] J K aH Ends ak aK aV bX bj
theorem iR(A:HP)(v:Value)(bs:List UInt8)(hv:Vw A v bs.length (bV bs))(hlen:bs.length≤1000000000) :
  aH Tryz.prog 139 [v] [A] (fun r H=>H=[aK 5 1 r bs.length (bV bs),A]):=by
 obtain⟨a,c0,rfl⟩:=hv.shape
 cases a with
 | none =>
  have hb:bs=[]:=by
   obtain⟨a,cap,h1,h2|⟨b,o,h2,_⟩⟩:=hv
   ·simpa[bV]using h2
   grind
  subst hb
  refine aH.enter Tryz.func139 aw rfl Tryz.ntmps139 zr zr ?_
  intro G F R hR
  refine go ?_
  have he:c0=c0:=rfl
  refine al (bS 5 1 none _) ?_
  refine aG hR Tryz.func139 rfl _ zr zr (aq.fin [0,1] 0 zr zr)
 | some a =>
  refine aH.enter Tryz.func139 aw rfl Tryz.ntmps139 zr zr ?_
  intro G F R hR
  refine go ?_
  refine az zr zr zr zr zr zr zr zr zr bO ?_
  intro b0
  refine go ?_
  refine aT (fp 5 1 b0 0 0 [] [] _ rfl (Nat.le_refl _) (by simp)) ?_
  refine bg (mm:=bs.length) (news:=bV bs) 0 1 zr zr zr zr zr zr zr zr zr zr zr zr hv (by show _=_*1;rw[bN];omega) (dR bs) aj (by show _*1≤_;omega) (fun _=>rfl) bO ?_
  intro v'
  have e1:(0:Nat)+bs.length=bs.length:=by omega
  rw[e1,List.nil_append]
  refine go ?_
  refine aG hR Tryz.func139 rfl _ zr zr (aq.fin [0,1] 0 zr zr)
def zu(A X:HP)(v:Value)(bs:List UInt8)(hv:Vw A v bs.length (bV bs))(hlen:bs.length≤9223372036854775807)(g:FuncId)(cap:List Value)(p:UInt8→Bool)(hf:∀x∈bs,aH Tryz.prog g (u8 x::cap) [X] (fun v H=>v = .bool (p x)∧H=[X])) :
  aH Tryz.prog 252 [v,.func (.func g) #[] cap.toArray] [A,X] (fun r H=>r = .int .i64 (jt p bs)∧H=[A,X]):=by
 obtain⟨a,c0,rfl⟩:=hv.shape
 refine aH.enter Tryz.func252 aw rfl Tryz.ntmps252 zr zr ?_
 intro G F R hR
 refine go ?_
 refine bF (fun i:Nat=>i≤bs.length∧∀y∈bs.take i,p y=false) (fun i=>bs.length-i) (fun i=>[(0,.slice a bs.length c0),(1,.func (.func g) #[] cap.toArray),(7,.int .i64 bs.length),(8,.int .i64 i)]) (fun _=>[A,X]++F) 0 ⟨by simp,by simp⟩ rfl cF (aq.refl _) ?_
 rintro i⟨hi,hb⟩ ih
 refine go ?_
 refine aB zr zr ?_ ?_
 ·intro dk
  refine go ?_
  have e9:i<bs.length:=by omega
  obtain⟨b,o,gV,ez⟩:=hv.some (by rw[← List.length_pos_iff,bN];omega)
  simp only[Value.slice.injEq]at ez
  obtain⟨rfl,_,rfl⟩:=ez
  refine bW i zr zr zr zr zr zr zr zr e9 ?_
  have hx:bs[i]?=some bs[i]:=by simp[e9]
  refine wY (U:=bh) 0 zr zr zr (hv.cell (yn hx)) zr zr ?_
  refine bM [1] zr zr zr zr (hf bs[i] (List.getElem_mem e9)) rfl bI ?_
  rintro _ _⟨rfl,rfl⟩
  refine go ?_
  refine eX zr zr ?_ ?_
  ·intro hp
   refine go ?_
   refine aG hR Tryz.func252 rfl _ rfl ⟨by rw[iY hx hp hb];rfl,rfl⟩ (aq.fin [1,0] 0 zr zr)
  ·intro hp
   refine go ?_
   refine aQ ih (i+1) rfl ⟨aj,n8 hb hx hp⟩ aj cF (aq.pick [1,0] rfl)
 ·intro fO
  refine go ?_
  have:i=bs.length:=by omega
  subst this
  refine aG hR Tryz.func252 rfl _ rfl ⟨by rw[j9 (fun x hx=>hb x (by simpa using hx))];rfl,rfl⟩ (aq.fin [0,1] 0 zr zr)
def ZY(x:UInt8):Bool:=decide (97≤x.toNat∧x.toNat≤122∨48≤x.toNat∧x.toNat≤57∨x.toNat=45∨x.toNat=46)
def MU(X:HP)(x:UInt8):aH Tryz.prog 227 [u8 x] [X] (fun v H=>v = .bool (!ZY x)∧H=[X]):=by
 refine aH.enter Tryz.func227 aw rfl Tryz.ntmps227 zr zr ?_
 intro G F R hR
 have hx:=abg x
 repeat'(first|(with_reducible intro k9)|refine g9 ?_|refine dA zr zr zr zr ?_ ?_|fail)
 all_goals refine aG hR Tryz.func227 rfl _ rfl ⟨congrArg Value.bool (by rw[Bool.eq_iff_iff];simp[ZY];omega),rfl⟩ (aq.fin [0] 0 zr zr)
theorem vo(A X:HP)(v:Value)(bs:List UInt8)(hv:Vw A v bs.length (bV bs))(hlen:bs.length≤9223372036854775807)(g:FuncId)(cap:List Value)(p:UInt8→Bool)(hf:∀x∈bs,aH Tryz.prog g (u8 x::cap) [X] (fun v H=>v = .bool (p x)∧H=[X])) :
  aH Tryz.prog 228 [v,.func (.func g) #[] cap.toArray] [A,X] (fun r H=>r = .bool (bs.any p)∧H=[A,X]):=by
 refine aH.enter Tryz.func228 aw rfl Tryz.ntmps228 zr zr ?_
 intro G F R hR
 refine go ?_
 refine bM [0,1] zr zr zr zr (zu A X v bs hv hlen g cap p hf) rfl bI ?_
 rintro _ _⟨rfl,rfl⟩
 refine go ?_
 have hb:decide (0≤jt p bs)=bs.any p:=by
  have := @nk _ p bs
  cases h:bs.any p with
  | false=>rw[h]at this;exact decide_eq_false (by have:=this.2 rfl;omega)
  | true =>
   grind
 refine aG hR Tryz.func228 rfl _ rfl ⟨congrArg Value.bool hb,rfl⟩ (aq.fin [0,1] 0 zr zr)
def isName(s:ByteArray):Bool:=decide (1≤s.size∧s.size≤80) && s.data.toList.all ZY
theorem NC(h1:1≤s.size)(h2:s.size≤80):isName s = !(s.data.toList.any fun x => !ZY x):=by
 grind [isName]
theorem ES(h1:s.size<1):isName s=false:=by simp[isName];omega
theorem Ha(h1:80<s.size):isName s=false:=by simp[isName];omega
theorem j0(A:HP)(v:Value)(l:List ByteArray)(hv:Vw A v l.length (l.map Value.string))(hlen:l.length≤1000000) :
  aH Tryz.prog 169 [v] [A] (fun r H=>r = .bool (l.all isName)∧H=[A]):=by
 obtain⟨a,c0,rfl⟩:=hv.shape
 refine aH.enter Tryz.func169 aw rfl Tryz.ntmps169 zr zr ?_
 intro G F R hR
 refine al (aq.sm _) (go ?_)
 refine bF (fun i:Nat=>i≤l.length∧∀y∈l.take i,isName y=true) (fun i=>l.length-i) (fun i=>[(3,.func (.func 227) #[] #[]),(6,.slice a l.length c0),(7,.int .i64 l.length),(8,.int .i64 i)]) (fun _=>emp::([A]++F)) 0 ⟨by simp,by simp⟩ rfl cF (aq.refl _) ?_
 rintro i⟨hi,hb⟩ ih
 refine go ?_
 refine aB zr zr ?_ ?_
 ·intro dk
  refine go ?_
  have e9:i<l.length:=by omega
  obtain⟨b,o,gV,ez⟩:=hv.some (by rw[← List.length_pos_iff,List.length_map];omega)
  simp only[Value.slice.injEq]at ez
  obtain⟨rfl,_,rfl⟩:=ez
  refine bW i zr zr zr zr zr zr zr zr e9 ?_
  obtain⟨s,hs⟩:∃s,l[i]?=some s:=⟨l[i],by simp[e9]⟩
  refine wY (U:=bh) 1 zr zr zr (hv.cell (c := .string s) (by simp[hs])) zr zr ?_
  have fk:s∈l:=List.mem_of_getElem? hs
  repeat'(first|(with_reducible intro k9)|refine g9 ?_|refine dA zr zr zr zr ?_ ?_|fail)
  ·have hn:l.all isName=false:=by
    grind [ES]
   refine aG hR Tryz.func169 rfl _ rfl ⟨congrArg Value.bool hn.symm,rfl⟩ (aq.fin [1] 1 zr zr)
  ·have hn:l.all isName=false:=by
    grind [Ha]
   refine aG hR Tryz.func169 rfl _ rfl ⟨congrArg Value.bool hn.symm,rfl⟩ (aq.fin [1] 1 zr zr)
  ·have nr:=NC (s:=s) aj aj
   refine OG (U:=bh) zr zr zr zr zr zr zr zr (fun _ _ _ _=>trivial) ?_
   intro bb cc
   refine go ?_
   refine bM [0,1] zr zr zr zr (vo (bj bb s _ cc) emp _ s.data.toList (by simpa using Jt bb s _ cc cc) (by simp;omega) _ [] _ (fun x _=>MU emp x)) rfl bI ?_
   rintro _ _⟨rfl,rfl⟩
   refine go ?_
   refine eX zr zr ?_ ?_
   ·intro ht
    refine go ?_
    have hn:l.all isName=false:=by
     grind
    refine aG hR Tryz.func169 rfl _ rfl ⟨congrArg Value.bool hn.symm,rfl⟩ (aq.fin [2] 2 zr zr)
   ·intro hf
    refine go ?_
    refine aQ ih (i+1) rfl ⟨aj,n8 hb hs (by rw[nr,hf];rfl)⟩ aj cF (aq.to [1,2] 1 zr zr zr)
 ·intro fO
  refine go ?_
  have:i=l.length:=by omega
  subst this
  refine aG hR Tryz.func169 rfl _ rfl ⟨congrArg Value.bool (by rw[eq_comm,List.all_eq_true];intro x hx;exact hb x (by simpa using hx)),rfl⟩ (aq.fin [1] 1 rfl rfl)
theorem xi(A:HP)(v1 v2:Value)(old b:List UInt8)(at_:Nat)(h1:Vw A v1 old.length (bV old))(h2:Vw A v2 b.length (bV b))(hb:old.length+at_+b.length≤1000000000) :
  aH Tryz.prog 80 [v1,.int .i64 at_,v2] [A] (fun r H=>∃bl cap,r = .slice (some ⟨bl,0,none⟩) (bY old at_ b).length cap∧(bY old at_ b).length≤cap∧H=[ak bl (cl (bV (bY old at_ b)) 5),A]):=by
 obtain⟨a1,c1,rfl⟩:=h1.shape
 obtain⟨a2,c2,rfl⟩:=h2.shape
 refine aH.enter Tryz.func80 aw rfl Tryz.ntmps80 zr zr ?_
 intro G F R hR
 refine go ?_
 have hN:(max old.length (at_+b.length):Nat)=max old.length (at_+b.length):=rfl
 generalize hM:max old.length (at_+b.length)=M at *
 refine au 14 (.int .i64 (M:Int)) rfl (congrArg (Value.int .i64) aj) ?_
 refine od (U:=bh) (p:=M) (q:=M) zr zr zr zr zr zr zr zr zr (Nat.le_refl _) aj (by show 1*M≤_;omega) bO ?_
 intro bl
 refine go ?_
 refine sF (src:=bV old) (mm:=old.length) (l':=bV (old++List.replicate (M-old.length) 0)) 0 1 zr zr zr zr zr zr zr zr h1 (by show _=_*1;rw[bN];omega) (dR old) (by show 0+_*1≤_;simp;omega) ?_ rfl eH ?_
 ·show bV (old++List.replicate (M-old.length) 0)=List.take 0 (List.replicate M (Value.int .u8 0))++List.take (min old.length M*1) (bV old)++List.drop (0+min old.length M*1) (List.replicate M (Value.int .u8 0))
  have e:min old.length M*1=old.length:=by omega
  rw[e,List.take_of_length_le (l:=bV old) (by rw[bN];omega)]
  simp[bV,u8]
 refine go ?_
 refine mS zr zr zr zr zr zr zr aj aj (.inl rfl) ?_
 intro o' J' ho2
 have hA:at_≠M→o'=at_:=fun h=>by have:=J' (by simpa using h);rw[this];show 0+(at_:Int).toNat*1=at_;simp
 have hB:at_=M→o'=0:=fun h=>ho2 (by simpa using h)
 clear J' ho2
 have aao:(min b.length ((M:Int).toNat-(at_:Int).toNat))*1=b.length:=by simp;omega
 refine go ?_
 refine sF (src:=bV b) (mm:=b.length) (l':=bV (bY old at_ b)) 0 1 zr zr zr zr zr zr zr zr h2 (by show _=_*1;rw[bN];omega) (dR b) ?_ ?_ rfl eH ?_
 ·show o'+(min b.length ((M:Int).toNat-(at_:Int).toNat))*1≤_
  grind [bN]
 ·show bV (bY old at_ b)=List.take o' _++List.take (min b.length ((M:Int).toNat-(at_:Int).toNat)*1) (bV b)++List.drop (o'+min b.length ((M:Int).toNat-(at_:Int).toNat)*1) _
  rw[aao,List.take_of_length_le (l:=bV b) (by rw[bN];omega)]
  have aad:at_+b.length-old.length=M-old.length:=by omega
  unfold bY
  rw[aad]
  by_cases h:at_=M
  ·have h3:=hB h
   have h4:b=[]:=List.eq_nil_of_length_eq_zero aj
   grind [bV]
  ·rw[hA h]
   simp[bV]
 ·have hl:(bY old at_ b).length=M:=by unfold bY;simp;omega
  rw[← hl]
  refine go ?_
  refine aG hR Tryz.func80 rfl _ rfl ⟨bl,_,rfl,Nat.le_refl _,rfl⟩ (aq.fin [0,1] 0 zr zr)
attribute [local irreducible] aS bp
def fj(l:List (ByteArray × Nat)):List (ByteArray × Value):=l.map fun x=>(x.1,ptr x.2)
structure Dk where
 room:Nat
 bm:Nat
 lO:Value
 pT:Value
 oP:Value
 off:Bool
 maps:List (Nat × List (ByteArray × Value))
 eC:gw
 files:List (Nat × Value × Value)
 gO:List Nat
 wl:List (Nat × Nat × Value)
def lS(x:Nat × List (ByteArray × Value)):HP:=aV Value.string x.1 x.2
def fJ(x:Nat × Value × Value):HP:=ak x.1 (cl [x.2.1,x.2.2] 151)
def fQ(l:List (Nat × Nat × Value)):List Value:=l.flatMap fun x=>[ptr x.1,.int .i64 x.2.1,x.2.2]
def V'(bd:Nat)(D:Dk):List HP :=
  [ak bd (cl [.int .i64 D.room,.map (some D.bm),D.lO,D.pT,D.oP,.bool D.off] 75),aS lS D.maps,bp 5 D.eC,aS fJ D.files,
   aK 71 1 D.lO D.gO.length (D.gO.map fun b => .map (some b)),aK 148 3 D.pT D.wl.length (fQ D.wl)]
def im(bd:Nat)(D:Dk):HP:=Sep (V' bd D)
def ju(bd room bm:Nat)(lO pT oP:Value)(off:Bool)(maps:List (Nat × List (ByteArray × Value)))(eC:gw)(files:List (Nat × Value × Value))(gO:List Nat)(wl:List (Nat × Nat × Value))(H:List HP) :
  aq (im bd ⟨room,bm,lO,pT,oP,off,maps,eC,files,gO,wl⟩::H)
   (ak bd (cl [.int .i64 room,.map (some bm),lO,pT,oP,.bool off] 75)::aS lS maps::bp 5 eC::aS fJ files::aK 71 1 lO gO.length (gO.map fun b => .map (some b))::aK 148 3 pT wl.length (fQ wl)::H):=aq.cR _ _
def eK(bd room bm:Nat)(lO pT oP:Value)(off:Bool)(maps:List (Nat × List (ByteArray × Value)))(eC:gw)(files:List (Nat × Value × Value))(gO:List Nat)(wl:List (Nat × Nat × Value))(H:List HP) :
  aq (ak bd (cl [.int .i64 room,.map (some bm),lO,pT,oP,.bool off] 75)::aS lS maps::bp 5 eC::aS fJ files::aK 71 1 lO gO.length (gO.map fun b => .map (some b))::aK 148 3 pT wl.length (fQ wl)::H)
   (im bd ⟨room,bm,lO,pT,oP,off,maps,eC,files,gO,wl⟩::H):=aq.cg (V' bd ⟨room,bm,lO,pT,oP,off,maps,eC,files,gO,wl⟩) H
structure Rel(D:Dk)(A:Ab):Prop where
 room:D.room=A.room
 off:D.off=A.off
 names:(D.bm,fj A.names)∈D.maps
 aF:fM (fun b es=>(b,fj es)∈D.maps) D.gO A.aF
 fs:fM (fun x y=>x.1=y.1∧lC D.eC x.2.1 y.2.1∧lC D.eC x.2.2 y.2.2) D.files A.fs
 writes:fM (fun x y=>x.1=y.1∧x.2.1=y.2.1∧lC D.eC x.2.2 y.2.2) D.wl A.writes
 ei:lC D.eC D.oP A.ei
 ids:(A.fs.map (·.1)).Nodup
 known:∀st∈A.names::A.aF,∀x∈st,x.2∈A.fs.map (·.1)
 g':∀x∈A.writes,x.1∈A.fs.map (·.1)
 nodup:∀st∈A.names::A.aF,(st.map (·.1)).Nodup
 gP:∀x∈A.fs,x.2.1.length≤1048576∧x.2.2.length≤1048576
 iv:∀x∈A.writes,x.2.1+x.2.2.length≤1048576
 gk:∀st∈A.names::A.aF,st.length≤200
 iw:A.room≤1073741824
 lg:A.ei.length≤1000000000
 full:A.aF≠[]
def Rel.Tt{D:Dk}(h:Rel D A){p:List UInt8}(o:Bool)(hp:lC D.eC v p)(hl:p.length≤1000000000):Rel { D with oP:=v,off:=o } { A with ei:=p,off:=o } :=
 ⟨h.room,rfl,h.names,h.aF,h.fs,h.writes,hp,h.ids,h.known,h.g',h.nodup,h.gP,h.iv,h.gk,h.iw,hl,h.full⟩
def Rel.PH{D:Dk}(h:Rel D A){p:List UInt8}(hp:lC D.eC v p)(hl:p.length≤1000000000):Rel { D with oP:=v } { A with ei:=p } :=
 ⟨h.room,h.off,h.names,h.aF,h.fs,h.writes,hp,h.ids,h.known,h.g',h.nodup,h.gP,h.iv,h.gk,h.iw,hl,h.full⟩
def AR(bd:Nat)(D:Dk)(A:Ab)(hR:Rel D A)(may:Bool) :
  aH Tryz.prog 105 [ptr bd,.bool may] [im bd D] (fun v H=>∃D',Rel D' (A.meet may).2∧H=[im bd D']∧v = .int .i64 (A.meet may).1):=by
 obtain⟨room,bm,lO,pT,oP,off,maps,eC,files,gO,wl⟩:=D
 obtain⟨a,cap,qO,jE⟩:=hR.ei.shape
 simp only at qO
 subst qO
 have mh:=hR.off
 simp only at mh
 refine aH.aC Tryz.func105 Tryz.ntmps105 fun G F R hE=>?_
 refine al (ju _ _ _ _ _ _ _ _ _ _ _ _ _) ?_
 cases may with
 | false =>
  refine go ?_
  refine aG hE Tryz.func105 rfl _ rfl ⟨_,hR,rfl,rfl⟩ ((aq.pick [0,1,2,3,4,5] rfl).trans (eK _ _ _ _ _ _ _ _ _ _ _ _ _))
 | true =>
  cases off with
  | true =>
   have hm:A.meet true=(7,A):=by simp[Ab.meet,← mh]
   rw[hm]at hE
   refine go ?_
   refine aG hE Tryz.func105 rfl _ rfl ⟨_,hR,rfl,rfl⟩ ((aq.pick [0,1,2,3,4,5] rfl).trans (eK _ _ _ _ _ _ _ _ _ _ _ _ _))
  | false =>
   refine go ?_
   refine eX zr zr ?_ ?_
   ·intro h0
    have rp:A.ei=[]:=List.eq_nil_of_length_eq_zero (by have:=of_decide_eq_true h0;omega)
    have hm:A.meet true=(0,A):=by simp[Ab.meet,← mh,rp]
    rw[hm]at hE
    refine go ?_
    refine aG hE Tryz.func105 rfl _ rfl ⟨_,hR,rfl,rfl⟩ ((aq.pick [0,1,2,3,4,5] rfl).trans (eK _ _ _ _ _ _ _ _ _ _ _ _ _))
   ·intro h0
    obtain⟨x,p,O1⟩:∃x p,A.ei=x::p:=by
     cases h:A.ei with
     | nil=>rw[h]at h0;simp at h0
     | cons x p=>exact⟨x,p,rfl⟩
    have hm:A.meet true=if x=1 then(6,{ A with ei:=p })else if x=2 then(7,{ A with ei:=p,off:=true })else(0,{ A with ei:=p }):=by simp[Ab.meet,← mh,O1]
    have aaH:lC eC (.slice a A.ei.length cap) (x::p):=by have:=hR.ei;rw[O1]at this;rw[O1];exact this
    have hlen:A.ei.length=p.length+1:=by rw[O1];rfl
    have Du:=hR.lg
    obtain⟨b,o,gV,ez⟩:=(aaH.view 5).some (by simp[bV])
    simp only[Value.slice.injEq]at ez
    obtain⟨rfl,_,rfl⟩:=ez
    refine go ?_
    refine bW 0 zr zr zr zr zr zr zr zr aj ?_
    refine wY (U:=bh) 2 zr zr zr (Vw.cell (cap:=cap) (n:=(x::p).length) (cs:=bV (x::p)) (by rw[← O1];exact hR.ei.view _) (c:=u8 x) (by simp[bV])) zr zr ?_
    refine go ?_
    refine mS zr zr zr zr zr zr zr aj aj (.inl rfl) ?_
    intro o' J' _
    have hn:(A.ei.length:Int).toNat-(1:Int).toNat=p.length:=by omega
    rw[hn]
    have hp:lC eC (.slice (some ⟨b,o',none⟩) p.length (cap-(1:Int).toNat)) p:=aaH.tail o' _ (fun dw=>J' (by
     have:0<p.length:=List.length_pos_iff.2 dw
     omega)) aj
    have hoA:A.off=false:=mh.symm
    have hR1:=hR.PH hp aj
    have RF:=hR.Tt true hp aj
    clear aaH hp J'
    refine go ?_
    refine aB zr zr ?_ ?_
    ·intro hx
     have hx1:x=1:=Pp hx
     rw[hm,if_pos hx1]at hE
     refine go ?_
     refine aG hE Tryz.func105 rfl _ rfl ⟨_,hR1,rfl,rfl⟩ ((aq.pick [0,1,2,3,4,5] rfl).trans (eK _ _ _ _ _ _ _ _ _ _ _ _ _))
    ·intro hx
     have hx1:x≠1:=fun h=>hx (by rw[h];rfl)
     refine go ?_
     refine aB zr zr ?_ ?_
     ·intro hy
      have Hc:x=2:=Pp hy
      rw[hm,if_neg hx1,if_pos Hc]at hE
      refine go ?_
      refine aG hE Tryz.func105 rfl _ rfl ⟨_,RF,rfl,rfl⟩ ((aq.pick [0,1,2,3,4,5] rfl).trans (eK _ _ _ _ _ _ _ _ _ _ _ _ _))
     ·intro hy
      have Hc:x≠2:=fun h=>hy (by rw[h];rfl)
      rw[hm,if_neg hx1,if_neg Hc]at hE
      refine go ?_
      refine aG hE Tryz.func105 rfl _ rfl ⟨_,hR1,rfl,rfl⟩ ((aq.pick [0,1,2,3,4,5] rfl).trans (eK _ _ _ _ _ _ _ _ _ _ _ _ _))
theorem qB(l:List (ByteArray × Nat))(name:ByteArray):fh (fj l) name=(Ab.cW l name).map ptr:=by
 unfold fh Ab.cW fj
 induction l with
 | nil=>rfl
 | cons x l ih =>
  grind
def kF{maps:List (Nat × List (ByteArray × Value))}{b:Nat}{es:List (ByteArray × Value)}(hs:Sat G w H)(hi:cD H i=some (aS lS maps))(hm:(b,es)∈maps) :
  ∃o,rO Value.string o es∧w.heap[b]?=some o:=by
 obtain⟨h,hh,hA⟩:=hs.kp hi
 obtain⟨h',s,hb⟩:=sN hm hA
 unfold lS aV at hb
 obtain⟨o,ho,hp⟩:=hb
 unfold ak at hp
 exact⟨o,ho,hh b o (s b o (by rw[hp b];simp))⟩
def zo:nF Tryz.prog 9 Value.string:=QP Tryz.underlying9
def ZX:Option Nat→Value
 | none => .pointer none
 | some f=>ptr f
def kM(bd:Nat)(D:Dk)(A:Ab)(hR:Rel D A)(name:ByteArray)(may:Bool) :
  aH Tryz.prog 168 [ptr bd,.string name,.bool may] [im bd D] (fun v H=>∃D',Rel D' (A.find name may).2.2∧H=[im bd D']∧v = .tuple #[ZX (A.find name may).2.1,.int .i64 (A.find name may).1]):=by
 refine aH.aC Tryz.func168 Tryz.ntmps168 fun G F R hE=>?_
 refine go ?_
 refine bM [0] zr zr zr zr (AR bd D A hR may) rfl bI ?_
 rintro _ _⟨D',gE,rfl,rfl⟩
 refine go ?_
 refine eX zr zr ?_ ?_
 ·intro h0
  have rp:¬(A.meet may).1=0:=by have:=of_decide_eq_true h0;omega
  have hf:A.find name may=((A.meet may).1,none,(A.meet may).2):=by simp[Ab.find,rp]
  rw[hf]at hE
  refine go ?_
  refine aG hE Tryz.func168 rfl _ rfl ⟨D',gE,rfl,rfl⟩ (aq.pick [0] rfl)
 ·intro h0
  have rp:(A.meet may).1=0:=by have:=of_decide_eq_false h0;omega
  obtain⟨room,bm,lO,pT,oP,off,maps,eC,files,gO,wl⟩:=D'
  refine al (ju _ _ _ _ _ _ _ _ _ _ _ _ _) (go ?_)
  refine sE (U:=bh) rfl zo zr zr zr zr zr zr zr (fun w hw=>kF (i:=1) hw rfl gE.names) ?_
  rw[qB]
  cases hl:Ab.cW (A.meet may).2.names name with
  | none =>
   have hf:A.find name may=(4,none,(A.meet may).2):=by simp[Ab.find,rp,Ab.look,hl]
   rw[hf]at hE
   refine go ?_
   refine aG hE Tryz.func168 rfl _ rfl ⟨_,gE,rfl,rfl⟩ ((aq.pick [0,1,2,3,4,5] rfl).trans (eK _ _ _ _ _ _ _ _ _ _ _ _ _))
  | some fl =>
   have hf:A.find name may=(0,some fl,(A.meet may).2):=by simp[Ab.find,rp,Ab.look,hl]
   rw[hf]at hE
   refine go ?_
   refine aG hE Tryz.func168 rfl _ rfl ⟨_,gE,rfl,rfl⟩ ((aq.pick [0,1,2,3,4,5] rfl).trans (eK _ _ _ _ _ _ _ _ _ _ _ _ _))
theorem u7{α:Type}{l:List (Nat × α)}(hn:(l.map (·.1)).Nodup){x:α}(hi:l[i]?=some (f,x)):(l.find? fun x=>decide (x.1=f))=some (f,x):=by
 induction l generalizing i with
 | nil=>simp at hi
 | cons y l ih =>
  grind
def Rel.file{D:Dk}(h:Rel D A)(hf:f∈A.fs.map (·.1)):∃(i:Nat) (v1 v2:Value),D.files[i]?=some (f,v1,v2)∧A.fs[i]?=some (f,A.now f,A.sure f)∧lC D.eC v1 (A.now f)∧lC D.eC v2 (A.sure f):=by
 obtain⟨⟨f',n,s⟩,hm,rfl⟩:=List.mem_map.1 hf
 obtain⟨i,hi⟩:=List.getElem?_of_mem hm
 obtain⟨⟨f2,v1,v2⟩,hx,h1,h2,h3⟩:=h.fs.right hi
 simp only at h1 h2 h3
 subst h1
 have ph:A.file f2=(n,s):=by unfold Ab.file;rw[u7 h.ids hi];rfl
 refine⟨i,v1,v2,hx,?_,?_,?_⟩
 ·rw[hi];simp[Ab.now,Ab.sure,ph]
 ·simpa[Ab.now,ph]using h2
 ·simpa[Ab.sure,ph]using h3
def Rel.small{D:Dk}(h:Rel D A)(f:Nat):(A.now f).length≤1048576∧(A.sure f).length≤1048576:=by
 unfold Ab.now Ab.sure Ab.file
 cases hf:A.fs.find? fun x=>decide (x.1=f)with
 | none=>simp
 | some x=>simpa using h.gP x (List.mem_of_find?_eq_some hf)
def Bs{j:Nat}(hs:Sat G w H)(hi:cD H i=some (aS fJ files))(hm:files[j]?=some (f,v1,v2)) :
  w.heap[f]?=some (cl [v1,v2] 151):=by
 obtain⟨h,hh,hA⟩:=hs.kp hi
 obtain⟨h',s,hb⟩:=sN (List.mem_of_getElem? hm) hA
 unfold fJ ak at hb
 exact hh f _ (s f _ (by rw[hb f];simp))
def wA{j:Nat}(hs:Sat G w H)(hi:cD H i=some (aS fJ files))(hm:files[j]?=some (f,v1,v2)) :
  w.cell? ⟨f,0,none⟩=some v1:=by rw[dD (Bs hs hi hm)];rfl
theorem qn{l:List (ByteArray × Nat)}(hn:(l.map (·.1)).Nodup)(h:(k,f)∈l):Ab.cW l k=some f:=by
  obtain⟨i,hi⟩:=List.getElem?_of_mem h
  have:fh (l.map fun x=>(x.1,Value.int .i64 x.2)) k=some (.int .i64 f):=DZ (i:=i) (by simp[hi]) (fun j hj he=>by
    rw[List.map_map]at he
    have h1:(l.map (·.1))[j]?=(l.map (·.1))[i]? := by
      grind
    have:=(List.getElem?_inj (by
      rcases Nat.lt_or_ge j (l.map (·.1)).length with h|h
      · exact h
      · rw[List.getElem?_eq_none h]at h1;simp[hi]at h1) hn).1 h1
    omega)
  unfold fh at this
  unfold Ab.cW
  rw[List.find?_map]at this
  simp only[Option.map_map]at this
  cases hx:l.find? fun x=>decide (x.1=k)with
  | none => have e : (l.find? ((fun x => decide (x.1 = k)) ∘ fun x => (x.1, Value.int IntKind.i64 (x.2 : Nat)))) = none := hx
            rw[e]at this;cases this
  | some y => 
    have e:(l.find? ((fun x=>decide (x.1=k)) ∘ fun x=>(x.1,Value.int IntKind.i64 (x.2:Nat))))=some y:=hx
    grind
theorem rP{l:List (ByteArray × Nat)}(h:Ab.cW l k=some f):(k,f)∈l:=by
 unfold Ab.cW at h
 cases hx:l.find? fun x=>decide (x.1=k)with
 | none=>rw[hx]at h;cases h
 | some y =>
  grind
def lenOf(A:Ab)(k:ByteArray):Nat:=(A.look k).elim 0 fun f=>(A.now f).length
def sumOf(A:Ab)(l:List ByteArray):Nat:=(l.map (lenOf A)).sum
theorem Ga(h:∀f,(A.now f).length≤1048576)(l:List ByteArray):sumOf A l≤l.length*1048576:=by
 induction l with
 | nil=>simp[sumOf]
 | cons k l ih =>
  have h1:lenOf A k≤1048576:=by unfold lenOf;cases A.look k with|none=>simp|some f=>exact h f
  grind [sumOf]
def JR{α:Type}[DecidableEq α]{l r:List α}(h1:l.Nodup)(h2:r.Nodup)(h:∀x,x∈l↔x∈r):l.Perm r:=(List.perm_ext_iff_of_nodup h1 h2).2 h
theorem xP{α:Type}[DecidableEq α]{l r:List α}(h1:l.Nodup)(h:∀x∈l,x∈r):l.length≤r.length:=by
 induction l generalizing r with
 | nil=>simp
 | cons x l ih =>
  simp only[List.nodup_cons]at h1
  have:=ih (r:=r.erase x) h1.2 (fun y hy=>(List.mem_erase_of_ne (by rintro rfl;exact h1.1 hy)).2 (h y (by simp[hy])))
  grind
def Ai(hn:(A.names.map (·.1)).Nodup):sumOf A (A.names.map (·.1))=A.used:=by
 unfold sumOf Ab.used
 rw[List.map_map]
 congr 1
 apply List.map_congr_left
 rintro⟨k,f⟩ hx
 have:A.look k=some f:=qn hn hx
 simp[lenOf,this]
theorem R8(bd:Nat)(D:Dk)(A:Ab)(hR:Rel D A) :
  aH Tryz.prog 215 [ptr bd] [im bd D] (fun v H=>H=[im bd D]∧v = .int .i64 A.used):=by
 obtain⟨room,bm,lO,pT,oP,off,maps,eC,files,gO,wl⟩:=D
 refine aH.aC Tryz.func215 Tryz.ntmps215 fun G F R hE=>?_
 refine al (ju _ _ _ _ _ _ _ _ _ _ _ _ _) (go ?_)
 obtain⟨j,hj⟩:=List.getElem?_of_mem hR.names
 simp only at hj
 refine aT (aq.pick [1] rfl) ?_
 refine aT (gN lS hj _) ?_
 refine zS (kv:=Value.string) (es:=fj A.names) (U:=bh) 0 zr zr zr zr zr (fun _=>rfl) bO ?_
 intro it
 refine go ?_
 have lq:=hR.nodup _ (List.mem_cons_self ..)
 have Hm:(fj A.names).map (·.1)=A.names.map (·.1):=by simp[fj,Function.comp_def]
 refine bF (fun dn:List ByteArray=>dn.Nodup∧∀x∈dn,x∈A.names.map (·.1)) (fun dn=>A.names.length-dn.length)
  (fun dn=>[(3,.int .i64 (sumOf A dn)),(10,.pointer (some ⟨it,0,none⟩))])
  (fun dn=>bX Value.string bm it (fj A.names) dn::aS lS (maps.eraseIdx j)::ak bd (cl [.int .i64 room,.map (some bm),lO,pT,oP,.bool off] 75)::bp 5 eC::aS fJ files::aK 71 1 lO gO.length (gO.map fun b => .map (some b))::aK 148 3 pT wl.length (fQ wl)::F)
  [] ⟨List.nodup_nil,by simp⟩ rfl cF (aq.refl _) ?_
 rintro dn⟨u3,eg⟩ ih
 have hlen:=xP u3 eg
 have hb:=Ga (fun f=>(hR.small f).1) dn
 have hN:=hR.gk _ (List.mem_cons_self ..)
 rw[List.length_map]at hlen
 refine go ?_
 refine FI (kv:=Value.string) (es:=fj A.names) 0 rfl zo.inj zr zr (fun _=>rfl) eH bO ?_ ?_
 ·intro fH
  refine go ?_
  have hp:sumOf A dn=A.used:=by
   rw[← Ai lq]
   refine List.Perm.sum_nat ((JR u3 lq fun x=>⟨eg x,fun hx=>?_⟩).map _)
   grind
  refine al ((aq.head (B:=[lS (bm,fj A.names)]) (fun h hs=>by obtain⟨h',s,hm⟩:=sZ h hs;exact⟨h',s,fL hm⟩)).trans (oM lS hj _)) ?_
  rw[hp]
  refine aG hE Tryz.func215 rfl _ rfl ⟨rfl,rfl⟩ ((aq.pick [1,0] rfl).trans ((aq.pick [0,1,2,3,4,5] rfl).trans (eK _ _ _ _ _ _ _ _ _ _ _ _ _)))
 ·intro key v fk tO
  obtain⟨⟨k',f⟩,hx,SS⟩:=List.mem_map.1 fk
  simp only[Prod.mk.injEq]at SS
  obtain⟨rfl,rfl⟩:=SS
  refine go ?_
  refine zW (kv:=Value.string) (es:=fj A.names) 0 rfl zo.inj zr zr fk (go ?_)
  obtain⟨i,v1,v2,hi,ot,ko,rl⟩:=hR.file (hR.known _ (List.mem_cons_self ..) _ hx)
  obtain⟨a,cap,rfl,jE⟩:=ko.shape
  refine zV (U:=bh) zr zr (fun w hw=>wA (i:=4) hw rfl hi) zr zr ?_
  have qY:A.look k'=some f:=qn lq hx
  have hl:lenOf A k'=(A.now f).length:=by simp[lenOf,qY]
  have Du:=(hR.small f).1
  have hmk:k'∈A.names.map (·.1):=List.mem_map.2 ⟨_,hx,rfl⟩
  have NZ:(k'::dn).Nodup:=List.nodup_cons.2 ⟨tO,u3⟩
  have vt:∀x∈k'::dn,x∈A.names.map (·.1):=fun x hx=>by
   grind
  have Be:=xP NZ vt
  rw[List.length_map,List.length_cons]at Be
  refine go ?_
  refine aE 3 (.int .i64 (sumOf A (k'::dn))) rfl (congrArg (Value.int .i64) (by simp only[sumOf,List.map_cons,List.sum_cons,hl];omega)) ?_
  refine aQ ih (k'::dn) rfl ⟨NZ,vt⟩ (by show _-(_+1)<_;omega) cF (aq.refl _)
def Cs(b:Nat)(es:List (ByteArray × Value)) :
  aH Tryz.prog 229 [.map (some b)] [aV Value.string b es] (fun v H=>∃b',v = .map (some b')∧H=[aV Value.string b' es,aV Value.string b es]):=by
 refine aH.enter Tryz.func229 aw rfl Tryz.ntmps229 zr zr ?_
 intro G F R hR
 refine go ?_
 refine OJ (U:=bh) zr zr zr zr ?_
 refine Iw (kv:=Value.string) (es:=es) 0 rfl Tryz.func253 aw aw aw aw zr zr bO ?_
 intro b'
 refine SA (U:=bh) zr zr zr zr (go ?_)
 refine aG hR Tryz.func229 rfl _ rfl ⟨b',rfl,rfl⟩ (aq.fin [0,1] 0 zr zr)
def nA{α:Type}(bd:Nat)(D:Dk)(nm:List (ByteArray × Nat))(hm:(D.bm,fj nm)∈D.maps)(g:FuncId)(cap:Array Value)(E:HP)(nm':α→List (ByteArray × Nat))(E':α→HP)(q:α→Prop)(hc:∀b',aH Tryz.prog g (.map (some b')::cap.toList) [aV Value.string b' (fj nm),E] (fun _ H=>∃x,q x∧H=[aV Value.string b' (fj (nm' x)),E' x]))(hlen:D.gO.length≤1000000000) :
  aH Tryz.prog 170 [ptr bd,.func (.func g) #[] cap] [im bd D,E]
   (fun _ H=>∃x b' v,q x∧H=[im bd { D with bm:=b',maps:=(b',fj (nm' x))::D.maps,lO:=v,gO:=D.gO++[b'] },E' x]):=by
 obtain⟨room,bm,lO,pT,oP,off,maps,eC,files,gO,wl⟩:=D
 simp only at hm hlen ⊢
 refine aH.aC Tryz.func170 Tryz.ntmps170 fun G F R hE=>?_
 refine al (ju _ _ _ _ _ _ _ _ _ _ _ _ _) (go ?_)
 obtain⟨j,hj⟩:=List.getElem?_of_mem hm
 refine aT (aq.pick [1] rfl) ?_
 refine aT (gN lS hj _) ?_
 refine bM [0] zr zr zr zr (Cs bm (fj nm)) rfl bI ?_
 rintro _ _⟨b',rfl,rfl⟩
 refine aT (aq.pick [1,2] rfl) ?_
 refine aT (oM lS hj _) (go ?_)
 refine bM [1,7] zr zr zr zr (hc b') rfl bI ?_
 rintro _ _⟨x,hq,rfl⟩
 refine aT (aq.pick [0,2] rfl) ?_
 refine aT (oN lS (b',fj (nm' x)) maps _) (go ?_)
 refine aO (fun w=>Sat G w ([ak bd (cl [.int .i64 room,.map (some b'),lO,pT,oP,.bool off] 75)])) (dM 0 9 (.act 9 (.act 10 (.st 11 (.st 12 (.act 13 .nil)))))) rfl aw aw aw (fun w hw=>hw.cI (aq.aI ([2]) rfl)) ?_
 refine go ?_
 refine az zr zr zr zr zr zr zr zr zr (fun _ w hw=>hw.cI (aq.aI ([3]) rfl)) ?_
 intro b0
 refine bg (mm:=1) (news:=[.map (some b')]) 6 0 zr zr zr zr zr zr zr zr zr zr zr zr (Vw.ak rfl) rfl (by simp[Value.oneCell']) aj (by show _*8≤_;omega) (fun _=>rfl) (fun _ w hw=>hw.cI (aq.aI ([3]) rfl)) ?_
 intro v'
 have e1:(gO.map fun b=>Value.map (some b))++[.map (some b')]=(gO++[b']).map fun b=>Value.map (some b):=by simp
 have e2:gO.length+1=(gO++[b']).length:=by simp
 rw[e1,e2]
 refine aN 6 rfl ?_
 rintro av cv rfl
 refine go ?_
 refine al (aq.pick [3,1,4,5,6,7,2] rfl) ?_
 refine al (eK bd room b' _ pT oP off _ eC files (gO++[b']) wl _) ?_
 refine ag hE Tryz.func170 rfl _ rfl ⟨x,b',_,hq,rfl⟩ (aq.fin [0,1] 1 zr zr)
def Rel.new(room bm UT:Nat)(v:Value)(h:room≤1073741824):Rel ⟨room,bm,v,.slice none 0 0,.slice none 0 0,false,[(UT,[]),(bm,[])],[],[],[UT],[]⟩ (Ab.new room) where
 room:=rfl
 off:=rfl
 names:=by simp[Ab.new,fj]
 aF:=fM.one (by simp[fj])
 fs:=fM.nil
 writes:=fM.nil
 ei:=lC.nil _ _ _
 ids:=by simp[Ab.new]
 known:=by simp[Ab.new]
 g':=by simp[Ab.new]
 nodup:=by simp[Ab.new]
 gP:=by simp[Ab.new]
 iv:=by simp[Ab.new]
 gk:=by simp[Ab.new]
 iw:=h
 lg:=by simp[Ab.new]
 full:=by simp[Ab.new]
def Sh(room:Nat)(h1:1≤room)(h2:room≤1073741824) :
  aH Tryz.prog 4 [.int .i64 room] [] (fun v H=>∃bd D,Rel D (Ab.new room)∧v = .tuple #[ptr bd,.int .i64 0]∧H=[im bd D]):=by
 refine aH.aC Tryz.func4 Tryz.ntmps4 fun G F R hE=>?_
 repeat'(first|(with_reducible intro k9)|refine g9 ?_|refine dA zr zr zr zr ?_ ?_|refine aB zr zr ?_ ?_)
 ·omega
 ·omega
 refine pL rfl bO ?_
 intro bm
 refine aT (aq.head (B:=[lS (bm,[])]) (fun h hs=>⟨h,sub.refl h,fL (oW _ _ h hs)⟩)) ?_
 refine pL rfl bO ?_
 intro UT
 refine aT (aq.head (B:=[lS (UT,[])]) (fun h hs=>⟨h,sub.refl h,fL (oW _ _ h hs)⟩)) ?_
 refine az zr zr zr zr zr zr zr zr zr bO ?_
 intro b0
 refine go ?_
 refine bJ zr zr bO ?_
 intro bd
 refine go ?_
 refine al (xy lS _) ?_
 refine al (aq.pick [4,0] rfl) ?_
 refine al (oN lS (bm,[]) [] _) ?_
 refine al (aq.pick [3,0] rfl) ?_
 refine al (oN lS (UT,[]) [(bm,[])] _) ?_
 refine al (aq.pick [2] rfl) ?_
 refine al (fp 71 1 b0 1 1 [.map (some UT)] [] _ rfl (Nat.le_refl _) (by simp)) ?_
 refine al (bS 148 3 none _) ?_
 refine al (BM 5 _) ?_
 refine al (xy fJ _) ?_
 refine al (aq.pick [5,4,1,0,3,2] rfl) ?_
 refine al (eK bd room bm (.slice (some ⟨b0,0,none⟩) 1 1) (.slice none 0 0) (.slice none 0 0) false [(UT,[]),(bm,[])] [] [] [UT] [] _) ?_
 refine aG hE Tryz.func4 rfl _ rfl ⟨bd,_,Rel.new room bm UT _ h2,rfl,rfl⟩ (aq.fin [0] 0 zr zr)
theorem qo{l:List (ByteArray × Nat)}:(Ab.cW l k).isSome=true↔k∈l.map (·.1):=by
 unfold Ab.cW
 grind
def D1(l:List (ByteArray × Nat))(k:ByteArray):wO (fj l) k=fj (Ab.dW l k):=by
 unfold wO fj Ab.dW
 rw[List.filter_map]
 rfl
theorem DX(l:List (ByteArray × Nat))(k:ByteArray)(f:Nat):pC (fj l) k (ptr f)=fj (Ab.lh l k f):=by
 have hk:(fj l).map (·.1)=l.map (·.1):=by simp[fj,Function.comp_def]
 unfold pC Ab.lh
 rw[hk]
 by_cases h:(Ab.cW l k).isSome=true
 ·rw[if_pos (qo.1 h),if_pos h]
  simp only[fj,List.map_map]
  apply List.map_congr_left
  grind
 ·rw[if_neg (fun h'=>h (qo.2 h')),if_neg h]
  simp[fj]
def Im(b box:Nat)(l:List (ByteArray × Nat))(k:ByteArray) :
  aH Tryz.prog 171 [.map (some b),ptr box] [aV Value.string b (fj l),ak box (cl [.string k] 9)] (fun _ H=>H=[aV Value.string b (fj (Ab.dW l k)),ak box (cl [.string k] 9)]):=by
 refine aH.aC Tryz.func171 Tryz.ntmps171 fun G F R hE=>?_
 refine go ?_
 refine nH 0 zo eH zr zr zr zr zr zr zr ?_
 rw[D1]
 refine go ?_
 refine ag hE Tryz.func171 rfl _ zr zr (aq.fin [0,1] 0 zr zr)
def su(b BJ BI adU f:Nat)(l:List (ByteArray × Nat))(k k2:ByteArray) :
  aH Tryz.prog 235 [.map (some b),ptr BJ,ptr BI,ptr adU] [aV Value.string b (fj l),Sep [ak BJ (cl [.string k] 9),ak BI (cl [ptr f] 146),ak adU (cl [.string k2] 9)]]
   (fun _ H=>H=[aV Value.string b (fj (Ab.lh (Ab.dW l k) k2 f)),emp]):=by
 refine aH.aC Tryz.func235 Tryz.ntmps235 fun G F R hE=>?_
 refine al (aq.pick [1] rfl) ?_
 refine al (aq.cR _ _) (go ?_)
 refine nH 3 zo eH zr zr zr zr zr zr zr ?_
 rw[D1]
 refine go ?_
 refine jH 3 zo eH zr zr zr zr zr zr zr zr ?_
 rw[DX]
 refine go ?_
 refine al (aq.sm _) ?_
 refine ag hE Tryz.func235 rfl _ zr zr (aq.fin [4,0] 3 zr zr)
def IJ(b box:Nat)(l:List (ByteArray × Nat))(k:ByteArray) :
  aH Tryz.prog 193 [.map (some b),ptr box] [aV Value.string b (fj l),ak box (cl [.string k] 9)]
   (fun _ H=>∃f,True∧H=[aV Value.string b (fj (Ab.lh l k f)),fJ (f,.slice none 0 0,.slice none 0 0)]):=by
 refine aH.aC Tryz.func193 Tryz.ntmps193 fun G F R hE=>?_
 refine go ?_
 refine bJ zr zr bO ?_
 intro f
 refine go ?_
 refine jH (v:=ptr f) 1 zo eH zr zr zr zr zr zr zr zr ?_
 rw[DX]
 refine go ?_
 refine ag hE Tryz.func193 rfl _ rfl ⟨f,trivial,rfl⟩ (aq.fin [1,0] 1 zr zr)
theorem fresh(l:List Nat):∃n,n ∉ l:=by
  suffices h:∃n,∀x∈l,x<n from let ⟨n,hn⟩:=h;⟨n,fun hx=>Nat.lt_irrefl _ (hn n hx)⟩
  induction l with
  | nil=>exact⟨0,by simp⟩
  | cons a l ih =>
    obtain⟨n,hn⟩:=ih
    exact⟨max n (a+1),fun x hx=>by
      rcases List.mem_cons.1 hx with rfl|h
      · omega
      · have:=hn x h;omega⟩
def Kq{x:Nat × Value × Value}(hs:Sat G w (fJ x::aS fJ files::H)):x.1 ∉ files.map (·.1):=by
 intro hx
 obtain⟨y,hy,he⟩:=List.mem_map.1 hx
 obtain⟨i,hi⟩:=List.getElem?_of_mem hy
 have h1:=hs.cI ((aq.perm (List.Perm.swap _ _ _)).trans ((gN fJ hi _).trans (aq.pick [2,0] rfl)))
 unfold fJ at h1
 exact h1.ne he.symm
theorem LC(A:Ab)(may:Bool):(A.meet may).2.fs=A.fs∧(A.meet may).2.names=A.names∧(A.meet may).2.aF=A.aF∧(A.meet may).2.writes=A.writes∧(A.meet may).2.room=A.room:=by
 unfold Ab.meet
 grind
def Rel.oF{D:Dk}(h:Rel D A){b':Nat}{nm:List (ByteArray × Nat)}(hk:∀x∈nm,x.2∈A.fs.map (·.1))(hn:(nm.map (·.1)).Nodup)(hl:nm.length≤200) :
  Rel { D with bm:=b',maps:=(b',fj nm)::D.maps,lO:=v,gO:=D.gO++[b'] } (A.oF nm) where
 room:=h.room
 off:=h.off
 names:=by simp[Ab.oF]
 aF:=fM.snoc (h.aF.mono fun b es hb=>List.mem_cons_of_mem _ hb) (by simp)
 fs:=h.fs
 writes:=h.writes
 ei:=h.ei
 ids:=h.ids
 known:=by
  intro st cN
  simp only[Ab.oF,List.mem_cons,List.mem_append,List.not_mem_nil,or_false]at cN
  rcases cN with rfl|cN|rfl
  ·exact hk
  ·exact h.known _ (List.mem_cons_of_mem _ cN)
  ·exact hk
 g':=h.g'
 nodup:=by
  intro st cN
  simp only[Ab.oF,List.mem_cons,List.mem_append,List.not_mem_nil,or_false]at cN
  rcases cN with rfl|cN|rfl
  ·exact hn
  ·exact h.nodup _ (List.mem_cons_of_mem _ cN)
  ·exact hn
 gP:=h.gP
 iv:=h.iv
 gk:=by
  intro st cN
  simp only[Ab.oF,List.mem_cons,List.mem_append,List.not_mem_nil,or_false]at cN
  rcases cN with rfl|cN|rfl
  ·exact hl
  ·exact h.gk _ (List.mem_cons_of_mem _ cN)
  ·exact hl
 iw:=h.iw
 lg:=h.lg
 full:=by simp[Ab.oF]
def Rel.U0{D:Dk}(h:Rel D A)(hf:f ∉ A.fs.map (·.1)):Rel { D with files:=(f,.slice none 0 0,.slice none 0 0)::D.files } { A with fs:=(f,[],[])::A.fs } where
 room:=h.room
 off:=h.off
 names:=h.names
 aF:=h.aF
 fs:=h.fs.cons ⟨rfl,lC.nil _ _ _,lC.nil _ _ _⟩
 writes:=h.writes
 ei:=h.ei
 ids:=by simp only[List.map_cons,List.nodup_cons];exact⟨hf,h.ids⟩
 known:=fun st cN x hx=>List.mem_cons_of_mem _ (h.known st cN x hx)
 g':=fun x hx=>List.mem_cons_of_mem _ (h.g' x hx)
 nodup:=h.nodup
 gP:=fun x hx=>by
  rcases List.mem_cons.1 hx with rfl|hx
  ·simp
  ·exact h.gP x hx
 iv:=h.iv
 gk:=h.gk
 iw:=h.iw
 lg:=h.lg
 full:=h.full
theorem fM.ids{q:Nat × Value × Value→Nat × List UInt8 × List UInt8→Prop}{l:List (Nat × Value × Value)}{r:List (Nat × List UInt8 × List UInt8)}(h:fM q l r)(hq:∀x y,q x y→x.1=y.1):l.map (·.1)=r.map (·.1):=by
 apply List.ext_getElem?
 intro i
 simp only[List.getElem?_map]
 cases hx:l[i]? with
 | none =>
  have:r[i]?=none:=by rw[List.getElem?_eq_none_iff]at hx ⊢;rw[← h.1];exact hx
  grind
 | some x =>
  obtain⟨y,hy,EU⟩:=h.left hx
  grind
def Rel.adM{D:Dk}(h:Rel D A):D.files.map (·.1)=A.fs.map (·.1):=fM.ids h.fs fun x y EU=>EU.1
def PJ{l:List (ByteArray × Nat)}(h:Ab.cW l k=none):Ab.lh l k f=l++[(k,f)]:=by simp[Ab.lh,h]
theorem K5(bd:Nat)(D:Dk)(A:Ab)(hR:Rel D A)(name:ByteArray)(cN:A.aF.length≤1000000000) :
  aH Tryz.prog 120 [ptr bd,.string name] [im bd D]
   (fun v H=>∃f D',f ∉ A.fs.map (·.1)∧Rel D' (A.create (isName name) name f).2∧H=[im bd D']∧v = .int .i64 (A.create (isName name) name f).1):=by
 refine aH.aC Tryz.func120 Tryz.ntmps120 fun G F R hE=>?_
 refine go ?_
 refine bJ zr zr bO ?_
 intro box
 refine go ?_
 refine az zr zr zr zr zr zr zr zr zr bO ?_
 intro b0
 refine go ?_
 refine bM [0] zr zr zr zr (j0 _ _ [name] (Vw.ak rfl) (by simp)) rfl bI ?_
 rintro _ _⟨rfl,rfl⟩
 have e1:[name].all isName=isName name:=by simp
 rw[e1]
 refine go ?_
 refine bM [2] zr zr zr zr (AR bd D A hR (isName name)) rfl bI ?_
 rintro _ _⟨D',gE,rfl,rfl⟩
 obtain⟨f0,hf0⟩:=fresh (A.fs.map (·.1))
 have hmf:=LC A (isName name)
 refine go ?_
 refine eX zr zr ?_ ?_
 ·intro h0
  have rp:¬(A.meet (isName name)).1=0:=by have:=of_decide_eq_true h0;omega
  have hf:A.create (isName name) name f0=((A.meet (isName name)).1,(A.meet (isName name)).2):=by simp[Ab.create,rp]
  refine go ?_
  refine aG hE Tryz.func120 rfl _ rfl ⟨f0,D',hf0,by rw[hf];exact gE,rfl,by rw[hf];rfl⟩ (aq.fin [0] 2 zr zr)
 ·intro h0
  have rp:(A.meet (isName name)).1=0:=by have:=of_decide_eq_false h0;omega
  obtain⟨room,bm,lO,pT,oP,off,maps,eC,files,gO,wl⟩:=D'
  have Q0:gO.length≤1000000000:=by have:=gE.aF.1;simp only at this;rw[this,hmf.2.2.1];exact cN
  refine al (ju _ _ _ _ _ _ _ _ _ _ _ _ _) ?_
  refine aO (fun w=>Sat G w ([ak bd (cl [.int .i64 room,.map (some bm),lO,pT,oP,.bool off] 75),aS lS maps,ak box (cl [.string name] 9)])) (dM 0 11 .nil) rfl aw aw aw (fun w hw=>hw.cI (aq.aI ([0,1,7]) rfl)) ?_
  refine go ?_
  refine sD (U:=bh) rfl zo zr zr zr zr zr zr zr (fun w hw=>kF (i:=1) hw rfl gE.names) ?_
  rw[qB]
  cases hl:Ab.cW (A.meet (isName name)).2.names name with
  | some fl =>
   have hf:A.create (isName name) name f0=(5,(A.meet (isName name)).2):=by simp[Ab.create,rp,Ab.look,hl]
   refine go ?_
   refine al ((aq.pick [0,1,2,3,4,5] rfl).trans (eK _ _ _ _ _ _ _ _ _ _ _ _ _)) ?_
   refine aG hE Tryz.func120 rfl _ rfl ⟨f0,_,hf0,by rw[hf];exact gE,rfl,by rw[hf];rfl⟩ (aq.fin [0] 2 zr zr)
  | none =>
   refine go ?_
   refine OM (kv:=Value.string) (U:=bh) zr zr zr zr (fun w hw=>kF (i:=1) hw rfl gE.names) ?_
   have qO:(fj (A.meet (isName name)).2.names).length=(A.meet (isName name)).2.names.length:=by simp[fj]
   rw[qO]
   refine go ?_
   refine aB zr zr ?_ ?_
   ·intro Ho
    have hf:A.create (isName name) name f0=(3,(A.meet (isName name)).2):=by simp[Ab.create,rp,Ab.look,hl];omega
    refine go ?_
    refine al ((aq.pick [0,1,2,3,4,5] rfl).trans (eK _ _ _ _ _ _ _ _ _ _ _ _ _)) ?_
    refine aG hE Tryz.func120 rfl _ rfl ⟨f0,_,hf0,by rw[hf];exact gE,rfl,by rw[hf];rfl⟩ (aq.fin [0] 2 zr zr)
   ·intro Ho
    refine go ?_
    refine aT ((aq.pick [0,1,2,3,4,5] rfl).trans (eK _ _ _ _ _ _ _ _ _ _ _ _ _)) ?_
    refine bM [0,2] zr zr zr zr (nA (α:=Nat) bd _ _ gE.names 193 #[ptr box] (ak box (cl [.string name] 9)) (fun f=>Ab.lh (A.meet (isName name)).2.names name f) (fun f=>fJ (f,.slice none 0 0,.slice none 0 0)) (fun _=>True) (fun b'=>IJ b' box _ name) Q0) rfl bI ?_
    rintro _ _⟨f,b',v,_,rfl⟩
    refine go ?_
    refine al (ju _ _ _ _ _ _ _ _ _ _ _ _ _) ?_
    refine al (aq.pick [6,3] rfl) ?_
    refine pH fun⟨w,hw⟩=>?_
    have hff:f ∉ A.fs.map (·.1):=by have:=Kq hw;have h2:=gE.adM;simp only at h2;rw[h2,hmf.1]at this;exact this
    clear hw
    refine al (oN fJ (f,.slice none 0 0,.slice none 0 0) files _) ?_
    have qY:(A.meet (isName name)).2.look name=none:=hl
    have hf:A.create (isName name) name f=(0,{ (A.meet (isName name)).2.oF ((A.meet (isName name)).2.names++[(name,f)])with fs:=(f,[],[])::(A.meet (isName name)).2.fs }):=by
     simp only[Ab.create,rp,if_true,qY,Option.isSome_none,Bool.false_eq_true,if_false]
     grind
    have nM:Ab.lh (A.meet (isName name)).2.names name f=(A.meet (isName name)).2.names++[(name,f)]:=PJ hl
    have Ua:name ∉ (A.meet (isName name)).2.names.map (·.1):=fun h=>by have:=qo.2 h;rw[hl]at this;cases this
    have RF:=(gE.U0 (f:=f) (by rw[hmf.1];exact hff)).oF (b':=b') (v:=v) (nm:=(A.meet (isName name)).2.names++[(name,f)])
     (fun x hx=>by
      rcases List.mem_append.1 hx with hx|hx
      ·exact List.mem_cons_of_mem _ (gE.known _ (List.mem_cons_self ..) x hx)
      ·simp only[List.mem_singleton]at hx;subst hx;exact List.mem_cons_self ..)
     (by
      rw[List.map_append,List.nodup_append]
      exact⟨gE.nodup _ (List.mem_cons_self ..),by simp,fun a ha b hb=>by simp at hb;subst hb;rintro rfl;exact Ua ha⟩)
     (by rw[List.length_append];simp only[List.length_singleton];omega)
    rw[nM]
    refine al (aq.pick [1,2,3,0,4,5] rfl) ?_
    refine al (eK bd room b' _ pT oP off _ eC _ (gO++[b']) wl _) ?_
    refine aG hE Tryz.func120 rfl _ rfl ⟨f,_,hff,by rw[hf];exact RF,rfl,by rw[hf];rfl⟩ (aq.fin [0] 1 zr zr)
def Sa(bd:Nat)(D:Dk)(A:Ab)(hR:Rel D A)(name:ByteArray) :
  aH Tryz.prog 107 [ptr bd,.string name] [im bd D] (fun v H=>H=[im bd D]∧v = .tuple #[.int .i64 (A.size name).1,.int .i64 (A.size name).2]):=by
 obtain⟨room,bm,lO,pT,oP,off,maps,eC,files,gO,wl⟩:=D
 refine aH.aC Tryz.func107 Tryz.ntmps107 fun G F R hE=>?_
 refine al (ju _ _ _ _ _ _ _ _ _ _ _ _ _) (go ?_)
 refine sE (U:=bh) rfl zo zr zr zr zr zr zr zr (fun w hw=>kF (i:=1) hw rfl hR.names) ?_
 rw[qB]
 cases hl:Ab.cW A.names name with
 | none =>
  have hs:A.size name=(0,4):=by simp[Ab.size,Ab.look,hl]
  rw[hs]at hE
  refine go ?_
  refine al ((aq.pick [0,1,2,3,4,5] rfl).trans (eK _ _ _ _ _ _ _ _ _ _ _ _ _)) ?_
  refine aG hE Tryz.func107 rfl _ rfl ⟨rfl,rfl⟩ (aq.fin [0] 0 zr zr)
 | some fl =>
  have hs:A.size name=((A.now fl).length,0):=by simp[Ab.size,Ab.look,hl]
  rw[hs]at hE
  obtain⟨i,v1,v2,hi,ot,ko,rl⟩:=hR.file (f:=fl) (hR.known _ (List.mem_cons_self ..) _ (rP hl))
  obtain⟨a,cap,rfl,jE⟩:=ko.shape
  refine go ?_
  refine zV (U:=bh) zr zr (fun w hw=>wA (i:=3) hw rfl hi) zr zr ?_
  refine go ?_
  refine al ((aq.pick [0,1,2,3,4,5] rfl).trans (eK _ _ _ _ _ _ _ _ _ _ _ _ _)) ?_
  refine aG hE Tryz.func107 rfl _ rfl ⟨rfl,rfl⟩ (aq.fin [0] 0 zr zr)
def Sb(bd:Nat)(D:Dk)(A:Ab)(hR:Rel D A)(name:ByteArray)(at_ n:Int) :
  aH Tryz.prog 86 [ptr bd,.string name,.int .i64 at_,.int .i64 n] [im bd D]
   (fun v H=>∃r,H=[aK 5 1 r (A.read name at_ n).1.length (bV (A.read name at_ n).1),im bd D]∧v = .tuple #[r,.int .i64 (A.read name at_ n).2]):=by
 obtain⟨room,bm,lO,pT,oP,off,maps,eC,files,gO,wl⟩:=D
 have mh:=hR.off
 simp only at mh
 refine aH.aC Tryz.func86 Tryz.ntmps86 fun G F R hE=>?_
 refine al (ju _ _ _ _ _ _ _ _ _ _ _ _ _) ?_
 cases off with
 | true =>
  have hs:A.read name at_ n=([],7):=by simp[Ab.read,← mh]
  rw[hs]at hE
  refine go ?_
  refine al ((aq.pick [0,1,2,3,4,5] rfl).trans (eK _ _ _ _ _ _ _ _ _ _ _ _ _)) ?_
  refine al (bS 5 1 none _) ?_
  refine aG hE Tryz.func86 rfl _ rfl ⟨_,rfl,rfl⟩ (aq.fin [0,1] 0 zr zr)
 | false =>
  refine go ?_
  refine sE (U:=bh) rfl zo zr zr zr zr zr zr zr (fun w hw=>kF (i:=1) hw rfl hR.names) ?_
  rw[qB]
  cases hl:Ab.cW A.names name with
  | none =>
   have hs:A.read name at_ n=([],4):=by simp[Ab.read,Ab.look,hl,← mh]
   rw[hs]at hE
   refine go ?_
   refine al ((aq.pick [0,1,2,3,4,5] rfl).trans (eK _ _ _ _ _ _ _ _ _ _ _ _ _)) ?_
   refine al (bS 5 1 none _) ?_
   refine aG hE Tryz.func86 rfl _ rfl ⟨_,rfl,rfl⟩ (aq.fin [0,1] 0 zr zr)
  | some fl =>
   have hs:A.read name at_ n=if at_<0∨n<0∨((A.now fl).length:Int)<at_∨((A.now fl).length:Int)-at_<n then([],1)else(((A.now fl).drop at_.toNat).take n.toNat,0):=by simp[Ab.read,Ab.look,hl,← mh]
   obtain⟨i,v1,v2,hi,ot,ko,rl⟩:=hR.file (f:=fl) (hR.known _ (List.mem_cons_self ..) _ (rP hl))
   obtain⟨a,cap,rfl,jE⟩:=ko.shape
   have Du:=(hR.small fl).1
   have ml:∀(h:at_<0∨n<0∨((A.now fl).length:Int)<at_∨((A.now fl).length:Int)-at_<n),A.read name at_ n=([],1):=fun h=>by rw[hs,if_pos h]
   repeat'(first|(with_reducible intro k9)|refine g9 ?_|refine dA zr zr zr zr ?_ ?_|refine aB zr zr ?_ ?_|refine zV (U:=bh) zr zr (fun w hw=>wA (i:=3) hw rfl hi) zr zr ?_)
   any_goals (
    have vt:=ml aj
    rw[vt]at hE
    refine al ((aq.pick [0,1,2,3,4,5] rfl).trans (eK _ _ _ _ _ _ _ _ _ _ _ _ _)) ?_
    refine al (bS 5 1 none _) ?_
    refine aG hE Tryz.func86 rfl _ rfl ⟨_,rfl,rfl⟩ (aq.fin [0,1] 0 zr zr))
   refine aU zr zr zr zr zr zr zr aj aj (.inr aj) ?_
   have hr:A.read name at_ n=(((A.now fl).drop at_.toNat).take n.toNat,0):=by rw[hs,if_neg aj]
   have kH:=ko.cut at_.toNat n.toNat aj
   have hlen:(((A.now fl).drop at_.toNat).take n.toNat).length=n.toNat:=by rw[List.length_take,List.length_drop];omega
   refine au 61 (.slice (sliceAt a cap at_.toNat 1) (((A.now fl).drop at_.toNat).take n.toNat).length (cap-at_.toNat)) rfl (by rw[hlen];congr 1;omega) ?_
   have V0:lC eC (.slice (sliceAt a cap at_.toNat 1) (((A.now fl).drop at_.toNat).take n.toNat).length (cap-at_.toNat)) (((A.now fl).drop at_.toNat).take n.toNat):=by rw[hlen];exact kH
   rw[hr]at hE
   clear kH hr hs ml
   generalize N1:((A.now fl).drop at_.toNat).take n.toNat=bs at hE V0 hlen ⊢
   refine go ?_
   refine bM [2] zr zr zr zr (iR _ _ bs (V0.view _) aj) rfl bI ?_
   rintro r _ rfl
   refine go ?_
   refine al (aq.pick [2,3,1,4,5,6] rfl) ?_
   refine al (eK bd room bm lO pT oP false maps eC files gO wl _) ?_
   refine aG hE Tryz.func86 rfl _ rfl ⟨r,rfl,rfl⟩ (aq.fin [1,0] 0 zr zr)
def gG(name:ByteArray)(at_:Int)(b:List UInt8):Bool:=isName name && decide (0≤at_) && decide (at_≤1048576) && decide ((b.length:Int)≤1048576-at_)
def Bq(A:Ab)(name:ByteArray):A.find name false=(1,none,A):=by simp[Ab.find,Ab.meet]
def CG(A:Ab)(name:ByteArray)(at_:Nat)(b:List UInt8):A.write false name at_ b=(1,A):=by simp[Ab.write,Bq]
theorem Tf{fs:List (Nat × List UInt8 × List UInt8)}(hn:(fs.map (·.1)).Nodup){x:List UInt8 × List UInt8}(hi:fs[i]?=some (f,x))(n:List UInt8):Ab.Ej fs f n=fs.set i (f,n,x.2):=by
 induction fs generalizing i with
 | nil=>simp at hi
 | cons y l ih =>
  simp only[List.map_cons,List.nodup_cons]at hn
  cases i with
  | zero =>
   simp at hi
   subst hi
   simp only[Ab.Ej,List.map_cons,if_true,List.set_cons_zero,List.cons.injEq,true_and]
   rw[List.map_congr_left (g:=id) (fun z hz=>?_),List.map_id]
   grind
  | succ i =>
   simp at hi
   have dw:y.1≠f:=fun e=>hn.1 (List.mem_map.2 ⟨_,List.mem_of_getElem? hi,e.symm⟩)
   have:=ih hn.2 hi
   simp only[Ab.Ej]at this
   simp only[Ab.Ej,List.map_cons,dw,if_false,List.set_cons_succ,this]
theorem vz(fs:List (Nat × List UInt8 × List UInt8))(f:Nat)(n:List UInt8):(Ab.Ej fs f n).map (·.1)=fs.map (·.1):=by
 simp only[Ab.Ej,List.map_map]
 apply List.map_congr_left
 grind
theorem Rel.wrote{D:Dk}(h:Rel D A){at_:Nat}{v3 v4:Value}{n b:List UInt8}{arrs':gw}{w:Value}(hi:D.files[i]?=some (f,v1,v2))(ha:A.fs[i]?=some (f,A.now f,A.sure f))(eg:∀x∈D.eC,x∈arrs')(hn:lC arrs' v3 n)(hb:lC arrs' v4 b)(NN:n.length≤1048576)(jx:at_+b.length≤1048576) :
  Rel { D with files:=D.files.set i (f,v3,v2),eC:=arrs',pT:=w,wl:=D.wl++[(f,at_,v4)] } { A with fs:=Ab.Ej A.fs f n,writes:=A.writes++[(f,at_,b)] } where
 room:=h.room
 off:=h.off
 names:=h.names
 aF:=h.aF
 fs:=by
  rw[Tf h.ids ha]
  have h2:=h.fs.2 i _ _ hi ha
  exact fM.set (h.fs.mono fun x y EU=>⟨EU.1,EU.2.1.mono eg,EU.2.2.mono eg⟩) i ⟨rfl,hn,h2.2.2.mono eg⟩
 writes:=fM.snoc (h.writes.mono fun x y EU=>⟨EU.1,EU.2.1,EU.2.2.mono eg⟩) ⟨rfl,rfl,hb⟩
 ei:=h.ei.mono eg
 ids:=by simp only[vz];exact h.ids
 known:=by simp only[vz];exact h.known
 g':=by
  simp only[vz]
  intro x hx
  rcases List.mem_append.1 hx with hx|hx
  ·exact h.g' x hx
  grind
 nodup:=h.nodup
 gP:=by
  intro x hx
  simp only[Ab.Ej,List.mem_map]at hx
  obtain⟨y,hy,rfl⟩:=hx
  have:=h.gP y hy
  grind
 iv:=by
  intro x hx
  rcases List.mem_append.1 hx with hx|hx
  ·exact h.iv x hx
  grind
 gk:=h.gk
 iw:=h.iw
 lg:=h.lg
 full:=h.full
theorem iB(old:List UInt8)(at_:Nat)(b:List UInt8):(bY old at_ b).length=max old.length (at_+b.length):=by
 grind [bY]
theorem pt(A:Ab)(name:ByteArray)(ok:Bool):(A.find name ok).2.2.fs=A.fs∧(A.find name ok).2.2.names=A.names∧(A.find name ok).2.2.aF=A.aF∧(A.find name ok).2.2.writes=A.writes∧(A.find name ok).2.2.room=A.room:=by
 have:=LC A ok
 unfold Ab.find
 grind
theorem Rel.Lg{D:Dk}(h:Rel D A):A.used≤209715200:=by
 rw[← Ai (h.nodup _ (List.mem_cons_self ..))]
 have:=Ga (fun f=>(h.small f).1) (A.names.map (·.1))
 have h2:=h.gk _ (List.mem_cons_self ..)
 grind
theorem Oo(e:TypeId)(v:Value)(bs:List UInt8)(M:gw):∀h,star (aK e 1 v bs.length (bV bs)) (bp e M) h→∃M',(lC M' v bs∧∀x∈M,x∈M')∧Sep [bp e M'] h:=fun h hs=>by
 grind [R4,fL]
theorem nv{name:ByteArray}{ok:Bool}(h:(A.find name ok).1=0):ok=true∧∃fl,(A.find name ok).2.1=some fl∧(name,fl)∈(A.find name ok).2.2.names:=by
 unfold Ab.find at h ⊢
 split
 ·rename_i h0
  rw[if_pos h0]at h
  cases hl:(A.meet ok).2.look name with
  | none=>rw[hl]at h;cases h
  | some f =>
   refine⟨?_,f,rfl,rP hl⟩
   cases ok with
   | true=>rfl
   | false=>simp[Ab.meet]at h0
 grind
def Ov(bd:Nat)(D:Dk)(A:Ab)(hR:Rel D A)(name:ByteArray)(at_:Int)(X:HP)(bv:Value)(b:List UInt8)(hv:Vw X bv b.length (bV b))(fD:A.writes.length≤1000000000)(jx:b.length≤1000000000)(S8 : -9223372036854775808≤at_∧at_≤9223372036854775807) :
  aH Tryz.prog 152 [ptr bd,.string name,.int .i64 at_,bv] [im bd D,X]
   (fun v H=>∃D',Rel D' (A.write (gG name at_ b) name at_.toNat b).2∧H=[im bd D',X]∧v = .int .i64 (A.write (gG name at_ b) name at_.toNat b).1):=by
 obtain⟨a0,c0,rfl⟩:=hv.shape
 refine aH.aC Tryz.func152 Tryz.ntmps152 fun G F R hE=>?_
 refine go ?_
 refine az zr zr zr zr zr zr zr zr zr bO ?_
 intro b0
 refine go ?_
 refine bM [0] zr zr zr zr (j0 _ _ [name] (Vw.ak rfl) (by simp)) rfl bI ?_
 rintro _ _⟨rfl,rfl⟩
 have e1:[name].all isName=isName name:=by simp
 rw[e1]
 cases nr:isName name with
 | false =>
  have hm:gG name at_ b=false:=by simp[gG,nr]
  rw[hm,CG]at hE
  refine go ?_
  refine bM [1] zr zr zr zr (kM bd D A hR name false) rfl bI ?_
  rw[Bq]
  rintro _ _⟨D',gE,rfl,rfl⟩
  refine go ?_
  refine aG hE Tryz.func152 rfl _ rfl ⟨D',gE,rfl,rfl⟩ (aq.fin [0,2] 1 zr zr)
 | true =>
  repeat'(first|(with_reducible intro k9)|refine g9 ?_|refine dA zr zr zr zr ?_ ?_|fail)
  any_goals (
   have hm:gG name at_ b=false:=by simp[gG,nr, *]
   rw[hm,CG]at hE
   refine bM [1] zr zr zr zr (kM bd D A hR name false) rfl bI ?_
   rw[Bq]
   rintro _ _⟨D',gE,rfl,rfl⟩
   refine go ?_
   refine aG hE Tryz.func152 rfl _ rfl ⟨D',gE,rfl,rfl⟩ (aq.fin [0,2] 1 zr zr))
  rename_i h2
  obtain⟨at_,rfl⟩:=Int.eq_ofNat_of_zero_le h2
  simp only[Int.toNat_natCast]at hE
  have hm:gG name at_ b=decide ((b.length:Int)≤1048576-at_):=by simp[gG,nr, *]
  refine au 31 (.bool (gG name at_ b)) rfl (congrArg Value.bool hm.symm) ?_
  refine bM [1] zr zr zr zr (kM bd D A hR name (gG name at_ b)) rfl bI ?_
  generalize k8:gG name at_ b=ok at hE hm ⊢
  rintro _ _⟨D',gE,rfl,rfl⟩
  refine go ?_
  refine eX zr zr ?_ ?_
  ·intro h0
   have rp:¬(A.find name ok).1=0:=by have:=of_decide_eq_true h0;omega
   have hw:A.write ok name at_ b=((A.find name ok).1,(A.find name ok).2.2):=by simp[Ab.write,rp]
   rw[hw]at hE
   refine go ?_
   refine aG hE Tryz.func152 rfl _ rfl ⟨D',gE,rfl,rfl⟩ (aq.fin [0,2] 1 zr zr)
  ·intro h0
   have rp:(A.find name ok).1=0:=by have:=of_decide_eq_false h0;omega
   obtain⟨aai,fl,pQ,fk⟩:=nv rp
   rw[aai]at hm
   have hlen:=of_decide_eq_true hm.symm
   have hw:A.write ok name at_ b=if(A.find name ok).2.2.room<(A.find name ok).2.2.used+(at_+b.length-((A.find name ok).2.2.now fl).length)then(3,(A.find name ok).2.2)
    else(0,{ (A.find name ok).2.2 with fs:=Ab.Ej (A.find name ok).2.2.fs fl (bY ((A.find name ok).2.2.now fl) at_ b),writes:=(A.find name ok).2.2.writes++[(fl,at_,b)] }):=by simp[Ab.write,rp,pQ]
   rw[pQ]
   have aew:(A.find name ok).2.2.writes.length≤1000000000:=by rw[(pt A name ok).2.2.2.1];exact fD
   generalize (A.find name ok).2.2=A1 at *
   obtain⟨room,bm,lO,pT,oP,off,maps,eC,files,gO,wl⟩:=D'
   obtain⟨i,v1,v2,hi,ot,ko,rl⟩:=gE.file (f:=fl) (gE.known _ (List.mem_cons_self ..) _ fk)
   obtain⟨a,cap,rfl,jE⟩:=ko.shape
   have Du:=(gE.small fl).1
   have mz:=gE.room
   have SX:=gE.iw
   simp only at mz
   refine al (ju _ _ _ _ _ _ _ _ _ _ _ _ _) ?_
   refine aO (fun w=>Sat G w ([ak bd (cl [.int .i64 room,.map (some bm),lO,pT,oP,.bool off] 75),aS fJ files])) (.st 0 (dM 2 11 (dM 14 4 (.act 1 (.st 13 (.st 18 .nil)))))) rfl aw aw aw (fun w hw=>hw.cI (aq.aI ([0,3]) rfl)) ?_
   refine go ?_
   refine mT zr zr (fun w hw=>wA (i:=1) hw rfl hi) zr zr ?_
   refine go ?_
   refine aT ((aq.pick [0,1,2,3,4,5] rfl).trans (eK _ _ _ _ _ _ _ _ _ _ _ _ _)) ?_
   have hul:=gE.Lg
   refine bM [0] rfl rfl rfl rfl (R8 bd _ A1 gE) rfl (fun _ _ w hp hw=>by obtain⟨rfl,_⟩:=hp;exact hw.cI ((ju _ _ _ _ _ _ _ _ _ _ _ _ _).trans (aq.aI [0,3] rfl))) ?_
   rintro _ _⟨rfl,rfl⟩
   refine go ?_
   refine aB zr zr ?_ ?_
   ·intro Ho
    rw[if_pos aj]at hw
    rw[hw]at hE
    refine go ?_
    refine aG hE Tryz.func152 rfl _ rfl ⟨_,gE,rfl,rfl⟩ (aq.fin [0,2] 1 zr zr)
   ·intro Ho
    rw[if_neg aj]at hw
    rw[hw]at hE
    refine go ?_
    refine aT (ju _ _ _ _ _ _ _ _ _ _ _ _ _) (go ?_)
    refine aT (aq.pick [3] rfl) ?_
    refine aT (gN fJ hi _) (go ?_)
    refine aT (aq.pick [4,8] rfl) ?_
    refine aT (aq.join _ _ _) ?_
    refine bM [0] zr zr zr zr (xi (star (bp 5 eC) X) _ _ (A1.now fl) b at_ (ko.view _).left hv.right aj) rfl bI ?_
    rintro _ _⟨bl,oB,rfl,Hw,rfl⟩
    refine aT (aq.pick [1] rfl) ?_
    refine aT (aq.part _ _ _) ?_
    refine aT (aq.pick [2,0] rfl) ?_
    refine aT (BN 5 bl _ eC _) (go ?_)
    refine al (aq.pick [2,3] rfl) ?_
    refine al (oL fJ (y:=(fl,.slice (some ⟨bl,0,none⟩) (bY (A1.now fl) at_ b).length oB,v2)) hi _) ?_
    refine aO (fun w=>Sat G w ([ak bd (cl [.int .i64 room,.map (some bm),lO,pT,oP,.bool off] 75)])) (dM 0 8 (.act 8 (.st 9 (.act 10 (.act 11 (.st 12 (.st 13 (.act 14 .nil)))))))) rfl aw aw aw (fun w hw=>hw.cI (aq.aI ([3]) rfl)) ?_
    refine go ?_
    refine bM [2] rfl rfl rfl rfl (iR X _ b hv jx) rfl (fun _ _ w hp hw=>by subst hp;exact hw.cI (aq.aI [4] rfl)) ?_
    rintro r _ rfl
    refine aN 0 rfl ?_
    rintro ar cr rfl
    refine go ?_
    refine az zr zr zr zr zr zr zr zr zr (fun _ w hw=>hw.cI (aq.aI ([5]) rfl)) ?_
    intro b1
    refine bg (mm:=1) (news:=[ptr fl,.int .i64 at_,.slice ar b.length cr]) 8 0 zr zr zr zr zr zr zr zr zr zr zr zr (Vw.ak rfl) rfl (by simp[Value.oneCell',ptr]) (by have:=gE.writes.1;simp only at this;omega) (by have:=gE.writes.1;simp only at this;show _*40≤_;omega) (fun _=>rfl) (fun _ w hw=>hw.cI (aq.aI ([5]) rfl)) ?_
    intro v'
    have e2:fQ wl++[ptr fl,.int .i64 at_,.slice ar b.length cr]=fQ (wl++[(fl,at_,.slice ar b.length cr)]):=by simp[fQ]
    have e3:wl.length+1=(wl++[(fl,at_,Value.slice ar b.length cr)]).length:=by simp
    rw[e2,e3]
    refine aN 8 rfl ?_
    rintro av cv rfl
    refine go ?_
    refine bE ?_;refine aD 5 eH zr zr zr zr zr zr zr zr zr ?_
    refine go ?_
    refine al (aq.pick [1,4] rfl) ?_
    refine al (aq.join _ _ _) ?_
    refine dZ (Oo 5 _ b _) ?_
    rintro arrs'⟨L4,eg⟩
    have RF:=gE.wrote (w := .slice av (wl++[(fl,at_,Value.slice ar b.length cr)]).length cv) hi ot (fun x hx=>eg x (List.mem_cons_of_mem _ hx)) ((lC.row (cap:=oB) Hw).mono eg) L4 (by rw[iB];omega) (by omega:at_+b.length≤1048576)
    refine al (aq.pick [4,5,0,3,6,7] rfl) ?_
    refine al (eK bd room bm lO _ oP off maps arrs' _ gO _ _) ?_
    refine aG hE Tryz.func152 rfl _ rfl ⟨_,RF,rfl,rfl⟩ (aq.fin [0,2] 2 zr zr)
def HS{l:List (ByteArray × Nat)}{x:ByteArray × Nat}(h:x∈Ab.dW l k):x∈l∧x.1≠k:=by
 simpa[Ab.dW]using h
def RP(l:List (ByteArray × Nat))(k:ByteArray):(Ab.dW l k).length≤l.length:=List.length_filter_le _ _
def Bx{l:List (ByteArray × Nat)}(h:(l.map (·.1)).Nodup)(k:ByteArray):((Ab.dW l k).map (·.1)).Nodup:=(List.filter_sublist.map _).nodup h
theorem UN{l:List (ByteArray × Nat)}(h:(k,f)∈l):(Ab.dW l k).length+1≤l.length:=by
 have:(Ab.dW l k).length<l.length:=by
  unfold Ab.dW
  rw[List.length_filter_lt_length_iff_exists]
  grind
 omega
theorem PL(l:List (ByteArray × Nat))(k:ByteArray)(f:Nat):(Ab.lh l k f).length≤l.length+1:=by
 unfold Ab.lh
 grind
theorem PK{l:List (ByteArray × Nat)}{x:ByteArray × Nat}(h:x∈Ab.lh l k f):x=(k,f)∨x∈l:=by
 unfold Ab.lh at h
 grind
theorem Jp{l:List (ByteArray × Nat)}(h:(l.map (·.1)).Nodup)(k:ByteArray)(f:Nat):((Ab.lh l k f).map (·.1)).Nodup:=by
 unfold Ab.lh
 split
 ·grind
 ·rename_i hk
  rw[List.map_append,List.nodup_append]
  exact⟨h,by simp,fun a ha b hb=>by simp at hb;subst hb;rintro rfl;exact hk (qo.2 ha)⟩
theorem KQ(bd:Nat)(D:Dk)(A:Ab)(hR:Rel D A)(name:ByteArray)(cN:A.aF.length≤1000000000) :
  aH Tryz.prog 99 [ptr bd,.string name] [im bd D]
   (fun v H=>∃D',Rel D' (A.remove (isName name) name).2∧H=[im bd D']∧v = .int .i64 (A.remove (isName name) name).1):=by
 refine aH.aC Tryz.func99 Tryz.ntmps99 fun G F R hE=>?_
 refine go ?_
 refine bJ zr zr bO ?_
 intro box
 refine go ?_
 refine aO (fun w=>Sat G w ([ak box (cl [.string name] 9)])) (dM 0 3 (.act 3 (.act 4 (.act 5 (dM 6 5 .nil))))) rfl aw aw aw (fun w hw=>hw.cI (aq.aI ([0]) rfl)) ?_
 refine go ?_
 refine az zr zr zr zr zr zr zr zr zr (fun _ w hw=>hw.cI (aq.aI ([1]) rfl)) ?_
 intro b0
 refine bM [0] rfl rfl rfl rfl (j0 _ _ [name] (Vw.ak rfl) (by simp)) rfl (fun _ _ w hp hw=>by obtain⟨_,rfl⟩:=hp;exact hw.cI (aq.aI [1] rfl)) ?_
 rintro _ _⟨rfl,rfl⟩
 have e1:[name].all isName=isName name:=by simp
 rw[e1]
 refine bM [2] rfl rfl rfl rfl (kM bd D A hR name (isName name)) rfl (fun _ _ w hp hw=>by obtain⟨_,_,rfl,_⟩:=hp;exact hw.cI (aq.aI [2] rfl)) ?_
 generalize k8:isName name=ok at hE ⊢
 rintro _ _⟨D',gE,rfl,rfl⟩
 refine go ?_
 refine eX zr zr ?_ ?_
 ·intro h0
  have rp:¬(A.find name ok).1=0:=by have:=of_decide_eq_true h0;omega
  have hw:A.remove ok name=((A.find name ok).1,(A.find name ok).2.2):=by
   unfold Ab.remove
   grind
  rw[hw]at hE
  refine go ?_
  refine aG hE Tryz.func99 rfl _ rfl ⟨D',gE,rfl,rfl⟩ (aq.fin [0] 2 zr zr)
 ·intro h0
  have rp:(A.find name ok).1=0:=by have:=of_decide_eq_false h0;omega
  obtain⟨aai,fl,pQ,fk⟩:=nv rp
  have hw:A.remove ok name=(0,(A.find name ok).2.2.oF (Ab.dW (A.find name ok).2.2.names name)):=by
   unfold Ab.remove
   grind
  have Q0:(A.find name ok).2.2.aF.length≤1000000000:=by rw[(pt A name ok).2.2.1];exact cN
  rw[hw]at hE
  generalize (A.find name ok).2.2=A1 at *
  have QZ:D'.gO.length≤1000000000:=by rw[gE.aF.1];exact Q0
  refine go ?_
  refine bM [0,2] zr zr zr zr (nA (α:=Unit) bd D' A1.names gE.names 171 #[ptr box] (ak box (cl [.string name] 9)) (fun _=>Ab.dW A1.names name) (fun _=>ak box (cl [.string name] 9)) (fun _=>True) (fun b'=>aH.post (Im b' box A1.names name) (fun v H h=>⟨(),trivial,h⟩)) QZ) rfl bI ?_
  rintro _ _⟨_,b',v,_,rfl⟩
  have RF:=gE.oF (b':=b') (v:=v) (nm:=Ab.dW A1.names name) (fun x hx=>gE.known _ (List.mem_cons_self ..) x (HS hx).1) (Bx (gE.nodup _ (List.mem_cons_self ..)) name) (Nat.le_trans (RP _ _) (gE.gk _ (List.mem_cons_self ..)))
  refine go ?_
  refine aG hE Tryz.func99 rfl _ rfl ⟨_,RF,rfl,rfl⟩ (aq.fin [0] 2 zr zr)
abbrev Ir:=Nat × Nat × Value
def AW(x:Ir):List Value:=[ptr x.1,.int .i64 x.2.1,x.2.2]
def gM(l:List Ir):fQ l=l.flatMap AW:=rfl
theorem eT(x:Ir):(AW x).length=3:=rfl
theorem B9(A X:HP)(v:Value)(l:List Ir)(hv:Vw A v l.length (fQ l))(hlen:l.length≤1000000000)(g:FuncId)(cap:List Value)(p:Ir→Bool)(hf:∀x∈l,aH Tryz.prog g (.agg #[ptr x.1,.int .i64 x.2.1,x.2.2]::cap) [X] (fun v H=>v = .bool (p x)∧H=[X])) :
  aH Tryz.prog 240 [v,.func (.func g) #[] cap.toArray] [A,X] (fun r H=>r = .int .i64 (jt p l)∧H=[A,X]):=by
 obtain⟨a,c0,rfl⟩:=hv.shape
 refine aH.enter Tryz.func240 aw rfl Tryz.ntmps240 zr zr ?_
 intro G F R hR
 refine go ?_
 refine bF (fun i:Nat=>i≤l.length∧∀y∈l.take i,p y=false) (fun i=>l.length-i) (fun i=>[(0,.slice a l.length c0),(1,.func (.func g) #[] cap.toArray),(7,.int .i64 l.length),(8,.int .i64 i)]) (fun _=>[A,X]++F) 0 ⟨by simp,by simp⟩ rfl cF (aq.refl _) ?_
 rintro i⟨hi,hb⟩ ih
 refine go ?_
 refine aB zr zr ?_ ?_
 ·intro dk
  refine go ?_
  have e9:i<l.length:=by omega
  have hx:l[i]?=some l[i]:=by simp[e9]
  generalize hxx:l[i]=x at hx
  obtain⟨b,o,gV,ez⟩:=hv.some (by rw[← List.length_pos_iff,gM,bR eT];omega)
  simp only[Value.slice.injEq]at ez
  obtain⟨rfl,_,rfl⟩:=ez
  refine cu i 3 zr zr zr zr zr zr zr zr e9 ?_
  refine cK (U:=bh) (es:=AW x) 0 (i*3) zr zr zr hv rfl (fun j v hj=>?_) zr zr zr ?_
  ·have I3:j<3:=by
    grind [eT]
   rw[gM,cM eT hx j I3];exact hj
  refine bM [1] zr zr zr zr (hf x (List.mem_of_getElem? hx)) rfl bI ?_
  rintro _ _⟨rfl,rfl⟩
  refine go ?_
  refine eX zr zr ?_ ?_
  ·intro hp
   refine go ?_
   refine aG hR Tryz.func240 rfl _ rfl ⟨by rw[iY hx hp hb];rfl,rfl⟩ (aq.fin [1,0] 0 zr zr)
  ·intro hp
   refine go ?_
   refine aQ ih (i+1) rfl ⟨aj,n8 hb hx hp⟩ aj cF (aq.pick [1,0] rfl)
 ·intro fO
  refine go ?_
  have:i=l.length:=by omega
  subst this
  refine aG hR Tryz.func240 rfl _ rfl ⟨by rw[j9 (fun x hx=>hb x (by simpa using hx))];rfl,rfl⟩ (aq.fin [0,1] 0 zr zr)
def Oy(c5 f g at_:Nat)(bv:Value)(files:List (Nat × Value × Value))(hf:f∈files.map (·.1))(hg:g∈files.map (·.1))(gD:bv.oneCell'=true) :
  aH Tryz.prog 217 [.agg #[ptr g,.int .i64 at_,bv],ptr c5] [star (ak c5 (cl [ptr f] 146)) (aS fJ files)] (fun v H=>v = .bool (decide (g=f))∧H=[star (ak c5 (cl [ptr f] 146)) (aS fJ files)]):=by
 have row:∀ {G:cL} {w:World} {H:List HP} {i y:Nat},Sat G w H→cD H i=some (aS fJ files)→y∈files.map (·.1)→Row w y:=by
  intro G w H i y hs hi hy
  obtain⟨⟨y',v1,v2⟩,hm,rfl⟩:=List.mem_map.1 hy
  obtain⟨j,hj⟩:=List.getElem?_of_mem hm
  exact⟨_,_,Bs hs hi hj⟩
 refine aH.aC Tryz.func217 Tryz.ntmps217 fun G F R hE=>?_
 refine al (aq.part _ _ _) (go ?_)
 refine bJ zr zr bO ?_
 intro bx
 refine go ?_
 refine Vc (U:=bh) zr zr zr zr zr zr zr (fun w hw=>row (i:=2) hw rfl hg) (fun w hw=>row (i:=2) hw rfl hf) ?_
 refine go ?_
 refine al (aq.pick [1,2] rfl) ?_
 refine al (aq.join _ _ _) ?_
 refine aG hE Tryz.func217 rfl _ rfl ⟨congrArg Value.bool (by simp),rfl⟩ (aq.fin [0] 1 zr zr)
theorem zv(v:Value)(l:List Ir)(X:HP)(g:FuncId)(cap:List Value)(p:Ir→Bool)(hlen:l.length≤1000000000)(ez:∀x∈l,∃a n c,x.2.2 = .slice a n c)(hf:∀x∈l,aH Tryz.prog g (.agg #[ptr x.1,.int .i64 x.2.1,x.2.2]::cap) [X] (fun v H=>v = .bool (p x)∧H=[X])) :
  aH Tryz.prog 216 [v,.func (.func g) #[] cap.toArray] [aK 148 3 v l.length (fQ l),X]
   (fun r H=>H=[aK 148 3 r (l.filter fun x => !p x).length (fQ (l.filter fun x => !p x)),X]):=by
 refine aH.aC Tryz.func216 Tryz.ntmps216 fun G F R hE=>?_
 refine aM 0 rfl ?_
 rintro a0 c rfl
 refine go ?_
 refine eZ 0 rfl ?_
 intro hv
 refine bM [0,1] zr zr zr zr (B9 _ X _ l hv hlen g cap p hf) rfl bI ?_
 rintro _ _⟨rfl,rfl⟩
 refine go ?_
 refine aB zr zr ?_ ?_
 ·intro h0
  have mJ:l.any p=false:=nk.1 aj
  have pQ:(l.filter fun x => !p x)=l:=List.filter_eq_self.2 fun x hx=>by
   grind
  rw[pQ]at hE
  refine go ?_
  refine aG hE Tryz.func216 rfl _ zr zr (aq.fin [0,1] 0 zr zr)
 ·intro h0
  obtain⟨i0,x0,DC,Z',zq,u4⟩:=A9 h0
  have afb:i0<l.length:=by
   grind
  rw[DC]
  refine go ?_
  refine vh (fun a kX hn _=>by omega) ?_
  rintro b o c' pre junk rk mH hnc jE kJ
  simp only[Value.slice.injEq,true_and]at rk
  obtain⟨rfl,rfl⟩:=rk
  have h1:l.take (i0+1)=l.take i0++[x0]:=by rw[List.take_add_one,Z'];rfl
  have L2:(l.take i0).filter (fun x => !p x)=l.take i0:=List.filter_eq_self.2 fun x hx=>by simp[u4 x hx]
  refine bF (fun s:Nat × Nat × List Ir=>s.1<s.2.1∧s.2.1≤l.length∧s.2.2.length=l.length∧s.2.2.take s.1=(l.take s.2.1).filter (fun x => !p x)∧s.2.2.drop s.2.1=l.drop s.2.1) (fun s=>l.length-s.2.1)
   (fun s=>[(0,.slice (some ⟨b,o,none⟩) l.length c),(1,.func (.func g) #[] cap.toArray),(5,.int .i64 s.1),(6,.int .i64 s.2.1)])
   (fun s=>ak b (cl (pre++fQ s.2.2++junk) 148)::X::F) (i0,i0+1,l) ⟨by simp,by simp only;omega,rfl,by simp only[h1,List.filter_append,L2];simp[zq],rfl⟩ rfl cF (aq.refl _) ?_
  rintro⟨i,j,E⟩⟨L1,I2,Ta,HE,Uy⟩ ih
  simp only at L1 I2 Ta HE Uy
  have fD:(fQ E).length=l.length*3:=by rw[gM,bR eT,Ta]
  have hvE:Vw (ak b (cl (pre++fQ E++junk) 148)) (.slice (some ⟨b,o,none⟩) l.length c) l.length (fQ E):=Vw.ak (by rw[List.append_assoc,← mH,List.drop_left,List.take_left])
  refine go ?_
  refine aB zr zr ?_ ?_
  ·intro dk
   simp only at dk
   have tP:j<l.length:=by omega
   obtain⟨⟨fx,ax,bx⟩,hx⟩:∃x,l[j]?=some x:=⟨l[j],by simp[tP]⟩
   have hEx:E[j]?=some (fx,ax,bx):=by
    have:=congrArg (·[0]?) Uy
    grind
   have fk:=List.mem_of_getElem? hx
   obtain⟨ab,nb,cb,DF⟩:=ez _ fk
   simp only at DF
   subst DF
   have Rv:=hf _ fk
   refine go ?_
   refine cu j 3 zr zr zr zr zr zr zr zr tP ?_
   refine cK (U:=bh) (es:=AW (fx,ax,.slice ab nb cb)) 0 (j*3) zr zr zr hvE rfl (fun q v hq=>?_) zr zr zr ?_
   ·have I3:q<3:=by
     grind [eT]
    rw[gM,cM eT hEx q I3];exact hq
   refine aL zr zr zr bO ?_
   intro bv
   refine go ?_
   refine ct 0 zr zr zr zr zr zr ?_
   refine bM [2] zr zr zr zr (Rv) rfl bI ?_
   rintro _ _⟨rfl,rfl⟩
   refine go ?_
   refine eX zr zr ?_ ?_
   ·intro hp
    have yY:p (fx,ax,.slice ab nb cb)=false:=by simpa using hp
    refine go ?_
    refine ct 1 zr zr zr zr zr zr (go ?_)
    refine cu i 3 zr zr zr zr zr zr zr zr aj ?_
    refine lA (U:=bh) (l':=pre++fQ (E.set i (fx,ax,.slice ab nb cb))++junk) 2 eH zr zr zr zr zr zr zr ?_ ?_ rfl ?_
    ·show o+i*3+3≤_
     rw[List.length_append,List.length_append,fD];omega
    ·show _=List.take (o+i*3) (pre++fQ E++junk)++AW (fx,ax,.slice ab nb cb)++List.drop (o+i*3+(AW (fx,ax,.slice ab nb cb)).length) (pre++fQ E++junk)
     rw[← mH,p8 _ _ _ _ _ (by rw[eT,fD];omega),gM,yk eT aj]
     rfl
    refine go ?_
    refine aQ ih (i+1,j+1,E.set i (fx,ax,.slice ab nb cb)) rfl ⟨by simp only;omega,by simp only;omega,by simp only[List.length_set];exact Ta,?_,?_⟩ (by simp only;omega) cF (aq.to [2,0] 1 zr zr zr)
    ·simp only
     rw[List.take_add_one,List.take_set_of_le (Nat.le_refl i),HE,List.take_add_one (l:=l),hx,List.getElem?_set_self aj]
     simp[List.filter_append,yY]
    ·simp only
     rw[List.drop_set_of_lt aj,← List.drop_drop,Uy,List.drop_drop]
   ·intro hp
    have yY:p (fx,ax,.slice ab nb cb)=true:=by simpa using hp
    refine go ?_
    refine aQ ih (i,j+1,E) rfl ⟨by simp only;omega,by simp only;omega,Ta,by simp only;rw[HE,List.take_add_one,hx];simp[List.filter_append,yY],by simp only;rw[← List.drop_drop,Uy,List.drop_drop]⟩ (by simp only;omega) cF (aq.to [2,0] 1 zr zr zr)
  ·intro fO
   refine go ?_
   simp only at fO
   have I1:j=l.length:=by omega
   subst I1
   rw[List.take_length]at HE
   have Be:(l.filter fun x => !p x).length=i:=by rw[← HE,List.length_take];omega
   refine mS zr zr zr zr zr zr zr aj aj (.inl rfl) ?_
   intro o1 J' ho2
   simp only[Int.toNat_natCast]at J' ho2
   have Rb:i≠c→o1=o+i*3:=J'
   have hL:(pre++fQ E++junk).length=o+l.length*3+junk.length:=by rw[List.length_append,List.length_append,fD,mH]
   obtain⟨tZ,Ro,ae9⟩:∃tZ,(pre++fQ E++junk).take o1++(List.replicate (((l.length:Int).toNat-(i:Int).toNat)) [Value.pointer none,.int .i64 0,.slice none 0 0]).flatten++(pre++fQ E++junk).drop (o1+((l.length:Int).toNat-(i:Int).toNat)*3)=pre++fQ (E.take i)++tZ∧c*3≤i*3+tZ.length:=by
    have Uh:i≠c:=by omega
    rw[Rb Uh,← mH,List.append_assoc pre,List.take_length_add_append,List.take_append_of_le_length (by rw[fD];omega),gM,gM,Ky eT E i aj]
    refine⟨_,by rw[List.append_assoc],?_⟩
    rw[List.length_append,List.length_drop,kL]
    simp only[List.length_append,List.length_cons,List.length_nil,bR eT,Ta,Int.toNat_natCast]
    grind
   refine FM (U:=bh) (l':=pre++fQ (E.take i)++tZ) 0 eH zr zr zr zr zr zr zr zr ?_ ?_ rfl ?_
   ·have Uh:i≠c:=by omega
    show o1+((l.length:Int).toNat-(i:Int).toNat)*3≤_
    rw[Rb Uh,hL];omega
   ·rw[← Ro];rfl
   refine go ?_
   refine mS zr zr zr zr zr zr zr aj aj (.inr aj) ?_
   intro o2 ho3 ho4
   have aaj:o2=o:=by
    grind
   subst aaj
   refine go ?_
   refine al (jP (sz:=3) (nn:=i) (c:=c) mH aj (by rw[gM,bR eT,List.length_take];omega) (by rw[gM,bR eT,List.length_take];omega) _) ?_
   rw[← HE,HE,Be,← HE]at hE
   refine aG hE Tryz.func216 rfl _ zr zr (aq.fin [0,1] 0 zr zr)
end Go.Proofs.YtlionahpheehaaaGreatDoor
