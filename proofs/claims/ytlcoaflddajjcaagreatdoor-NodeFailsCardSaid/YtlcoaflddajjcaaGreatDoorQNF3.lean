import Derived.Test.YtlcoaflddajjcaaGreatDoorQNF2
import Derived.RangeFuncRecord
import Derived.RangeFuncIn
import Derived.Lib.MakeNoZero
import GoSem.Extern.SlicesOverlaps
set_option linter.unusedSectionVars false
set_option linter.unusedSimpArgs false
set_option linter.unusedVariables false
set_option linter.defProp false
namespace Go.SL
open Go
namespace Sha
def sH(x:iu)(n:Nat):iu:=x <<< (32-n) ||| x >>> n
theorem OK(x:iu)(n:Nat)(h1:1≤n)(h2:n≤31):x >>> n ^^^ x <<< (32-n)=sH x n:=by
 grind [sH]
def ks:List iu:=[
 0x428a2f98,0x71374491,0xb5c0fbcf,0xe9b5dba5,0x3956c25b,0x59f111f1,0x923f82a4,0xab1c5ed5,
 0xd807aa98,0x12835b01,0x243185be,0x550c7dc3,0x72be5d74,0x80deb1fe,0x9bdc06a7,0xc19bf174,
 0xe49b69c1,0xefbe4786,0x0fc19dc6,0x240ca1cc,0x2de92c6f,0x4a7484aa,0x5cb0a9dc,0x76f988da,
 0x983e5152,0xa831c66d,0xb00327c8,0xbf597fc7,0xc6e00bf3,0xd5a79147,0x06ca6351,0x14292967,
 0x27b70a85,0x2e1b2138,0x4d2c6dfc,0x53380d13,0x650a7354,0x766a0abb,0x81c2c92e,0x92722c85,
 0xa2bfe8a1,0xa81a664b,0xc24b8b70,0xc76c51a3,0xd192e819,0xd6990624,0xf40e3585,0x106aa070,
 0x19a4c116,0x1e376c08,0x2748774c,0x34b0bcb5,0x391c0cb3,0x4ed8aa4a,0x5b9cca4f,0x682e6ff3,
 0x748f82ee,0x78a5636f,0x84c87814,0x8cc70208,0x90befffa,0xa4506ceb,0xbef9a3f7,0xc67178f2]
def s0(x:iu):iu:=sH x 7 ^^^ sH x 18 ^^^ x >>> 3
def s1(x:iu):iu:=sH x 17 ^^^ sH x 19 ^^^ x >>> 10
def b0(x:iu):iu:=sH x 2 ^^^ sH x 13 ^^^ sH x 22
def b1(x:iu):iu:=sH x 6 ^^^ sH x 11 ^^^ sH x 25
def ch(e f g:iu):iu:=g ^^^ e &&& (f ^^^ g)
def maj(a b c:iu):iu:=a &&& b ||| c &&& (a ||| b)
theorem ZM(e f g:iu):e &&& f ||| ~~~e &&& g=ch e f g:=by
 grind [ch]
theorem O4(a b c:iu):a &&& b ||| a &&& c ||| b &&& c=maj a b c:=by
 grind [maj]
def word(b:List UInt8)(t:Nat):iu:=wB (b.getD (4*t) 0) <<< 24 ||| wB (b.getD (4*t+1) 0) <<< 16 ||| wB (b.getD (4*t+2) 0) <<< 8 ||| wB (b.getD (4*t+3) 0)
def sched(b:List UInt8):Nat→List iu
 | 0=>[]
 | t+1 =>
  let w:=sched b t
  if t<16 then w++[word b t]else w++[w.getD (t-16) 0+w.getD (t-7) 0+s1 (w.getD (t-2) 0)+s0 (w.getD (t-15) 0)]
theorem dR(b:List UInt8)(t:Nat):(sched b t).length=t:=by
 induction t with
 | zero=>rfl
 | succ t ih=>simp only[sched];split <;> simp[ih]
theorem Ir(b:List UInt8){t u:Nat}(h:t≤u)(i:Nat)(hi:i<t):(sched b u)[i]?=(sched b t)[i]? := by
 induction u with
 | zero=>omega
 | succ u ih =>
  grind [sched,dR]
structure St where
 a:iu
 b:iu
 c:iu
 d:iu
 e:iu
 f:iu
 g:iu
 h:iu
def round(s:St)(k w:iu):St :=
 let x:=s.h+b1 s.e+ch s.e s.f s.g+k+w
 let y:=b0 s.a+maj s.a s.b s.c
 ⟨x+y,s.a,s.b,s.c,s.d+x,s.e,s.f,s.g⟩
def rounds(s:St)(w:List iu):Nat→St
 | 0=>s
 | t+1=>round (rounds s w t) (ks.getD t 0) (w.getD t 0)
def plus(s t:St):St:=⟨s.a+t.a,s.b+t.b,s.c+t.c,s.d+t.d,s.e+t.e,s.f+t.f,s.g+t.g,s.h+t.h⟩
def chunk(s:St)(b:List UInt8):St:=plus s (rounds s (sched b 64) 64)
def start:St:=⟨0x6a09e667,0xbb67ae85,0x3c6ef372,0xa54ff53a,0x510e527f,0x9b05688c,0x1f83d9ab,0x5be0cd19⟩
def chunks(s:St)(b:List UInt8):Nat→St
 | 0=>s
 | n+1=>chunk (chunks s b n) (b.drop (64*n))
def St.l(s:St):List iu:=[s.a,s.b,s.c,s.d,s.e,s.f,s.g,s.h]
def nI(n:Nat):List UInt8:=(List.range 8).map fun i=>UInt8.ofNat (n/2 ^ (56-8*i))
def pad(n:Nat):List UInt8:=128::List.replicate ((119-n%64)%64) 0++nI (8*n)
def out(s:St):List UInt8:=(List.range 32).map fun i=>UInt8.ofNat ((s.l.getD (i/4) 0) >>> (24-8*(i%4))).toNat
def AJ(s:St):(out s).length=32:=by simp[out]
def msg(b:List UInt8):List UInt8:=b++pad b.length
end Sha
def ej(b:List UInt8):Dg:=⟨Sha.out (Sha.chunks Sha.start (Sha.msg b) ((Sha.msg b).length/64)),Sha.AJ _⟩
def kJ(n:Nat):List UInt8:=(List.range 8).map fun i=>UInt8.ofNat (n/2 ^ (8*i))
def cK(tag:UInt8)(ps:List (List UInt8)):List UInt8:=tag::ps.flatMap fun p=>kJ p.length++p
def cz(tag:UInt8)(ps:List (List UInt8)):Dg:=ej (cK tag ps)
namespace Sha
def part(b:List UInt8)(t:Nat):Nat→iu
 | 0=>0
 | j+1=>part b t j ||| wB (b.getD (4*t+j) 0) <<< (24-8*j)
def abB(b:List UInt8)(t:Nat):part b t 4=word b t:=by
 simp[part,word]
def lO(b:List UInt8)(i:Nat):List iu:=(List.range 64).map fun t=>part b t (min 4 (i-4*t))
theorem kK(b:List UInt8)(i:Nat):(lO b i).length=64:=by simp[lO]
theorem kL(b:List UInt8)(i t:Nat)(ht:t<64):(lO b i)[t]?=some (part b t (min 4 (i-4*t))):=by
 simp[lO,ht]
theorem FJ(b:List UInt8):lO b 0=List.replicate 64 0:=by
 apply List.ext_getElem?
 grind [kL,part,kK]
theorem FK(b:List UInt8)(i:Nat)(hi:i<64):(lO b i).set (i/4) (part b (i/4) (i%4) ||| wB (b.getD i 0) <<< (24-8*(i%4)))=lO b (i+1):=by
 apply List.ext_getElem?
 intro t
 rw[List.getElem?_set,kK]
 rcases Nat.lt_or_ge t 64 with h|h
 ·rw[kL b i t h,kL b (i+1) t h]
  by_cases ht:i/4=t
  ·subst ht
   rw[if_pos rfl,if_pos h]
   have e1:min 4 (i+1-4*(i/4))=i%4+1:=by omega
   grind [part]
  grind
 grind [kK,lO]
theorem Ex(b:List UInt8)(t u:Nat)(h:t<u)(hu:t<16):(sched b u)[t]?=some (word b t):=by
 rw[Ir b (t:=t+1) ai t ai]
 grind [sched,dR]
theorem JK(b:List UInt8):lO b 64=sched b 16++List.replicate 48 0:=by
 apply List.ext_getElem?
 intro t
 rcases Nat.lt_or_ge t 16 with h|h
 ·rw[kL b 64 t ai,List.getElem?_append_left (by rw[dR];exact h),Ex b t 16 h h,show min 4 (64-4*t)=4 from by omega,abB]
 ·rw[List.getElem?_append_right (by rw[dR];exact h),dR]
  rcases Nat.lt_or_ge t 64 with h2|h2
  ·rw[kL b 64 t h2,List.getElem?_replicate,if_pos ai,show min 4 (64-4*t)=0 from by omega];rfl
  grind [kK]
def dZ(b:List UInt8)(t:Nat):List iu:=sched b t++List.replicate (64-t) 0
def qs(b:List UInt8)(t:Nat)(h:t≤64):(dZ b t).length=64:=by simp[dZ,dR];omega
theorem gr(b:List UInt8)(t i:Nat)(h:i<t):(dZ b t)[i]?=some ((sched b t).getD i 0):=by
 grind [dZ,dR]
theorem ub(b:List UInt8)(t:Nat)(h1:16≤t)(h2:t<64):(dZ b t).set t ((sched b t).getD (t-16) 0+(sched b t).getD (t-7) 0+s1 ((sched b t).getD (t-2) 0)+s0 ((sched b t).getD (t-15) 0))=dZ b (t+1):=by
 unfold dZ
 rw[List.set_append_right _ _ (by rw[dR];exact Nat.le_refl _),dR,Nat.sub_self,show 64-t=(64-(t+1))+1 from by omega,List.replicate_succ,List.set_cons_zero]
 grind [sched]
def vS(b:List UInt8):dZ b 64=sched b 64:=by simp[dZ]
end Sha
namespace Sha
theorem BZ{b b':List UInt8}(h:∀i,i<64→b.getD i 0=b'.getD i 0)(t:Nat):sched b t=sched b' t:=by
 induction t with
 | zero=>rfl
 | succ t ih =>
  grind [sched,word]
theorem zM(s:St)(b r:List UInt8)(h:64≤b.length):chunk s (b++r)=chunk s b:=by
 grind [chunk,BZ]
theorem xe(s:St)(b r:List UInt8):∀q,64*q≤b.length→chunks s (b++r) q=chunks s b q
 | 0,_=>rfl
 | q+1,h=>by
  simp only[chunks]
  rw[xe s b r q ai,List.drop_append_of_le_length ai,zM _ _ _ (by rw[List.length_drop];omega)]
theorem xg(s:St)(b:List UInt8)(p:Nat):∀q,chunks s b (p+q)=chunks (chunks s b p) (b.drop (64*p)) q
 | 0=>rfl
 | q+1=>by
  rw[← Nat.add_assoc]
  simp only[chunks]
  rw[xg s b p q,List.drop_drop,show 64*p+64*q=64*(p+q)from by omega]
theorem Im(b:List UInt8):chunks start (msg b) ((msg b).length/64)=chunks (chunks start b (b.length/64)) (b.drop (64*(b.length/64))++pad b.length) ((b.drop (64*(b.length/64))++pad b.length).length/64):=by
 have h1:64*(b.length/64)≤b.length:=by omega
 have hl:(msg b).length/64=b.length/64+(b.drop (64*(b.length/64))++pad b.length).length/64:=by
  grind [msg]
 grind [xg,msg,xe]
end Sha
end Go.SL
namespace Go.SL
def GL(b:List UInt8):(ej b).bs=Sha.out (Sha.chunks Sha.start (Sha.msg b) ((Sha.msg b).length/64)):=rfl
theorem Cj{l:List UInt8}{i n:Nat}{x:UInt8}(hl:l.length=n)(h:l[i]?=some x):(bV (l.take i++List.replicate (n-i) (0:UInt8))).set i (u8 x)=bV (l.take (i+1)++List.replicate (n-(i+1)) (0:UInt8)):=by
 have hi:i<n:=by
  grind
 have e1:(l.take i).length=i:=by rw[List.length_take];omega
 show((l.take i++List.replicate (n-i) (0:UInt8)).map u8).set i (u8 x)=_
 rw[← List.map_set,List.set_append_right _ _ ai,e1,Nat.sub_self,show n-i=(n-(i+1))+1 from by omega,List.replicate_succ,List.set_cons_zero,List.take_add_one,h]
 simp[bV]
def kP(l:List UInt8):gF (bV l)=true:=by
 induction l with
 | nil=>rfl
 | cons x l ih =>
  show(Value.oneCell' (u8 x) && gF (bV l))=true
  rw[ih];rfl
section
variable{P:Program}{U:Tr}[hU:eT P U]{f:FuncId}{n:Nat}{R:Ending→World→Prop}{G:ct}{k:List Item}{L:eH}{H H':List HP}{S:World→Prop}{all:Array Oper}{rest:Pl}{ty:TypeId}{pos:String}{af:Array Edge}{gd:Option (Nat × Bool)}{m:Bool}{d:Tmp}
theorem eC{Hs:List HP}{t:TypeId}{x:Operand}{b o off nn cap:Nat}{bO:Ty}{es cs:List Value}{A:HP}(i idx:Nat)(hd:Nat.blt d n=true)(hx:ev L x=some (.pointer (some ⟨b,off,none⟩)))(hi:bZ Hs i=some A)(hv:Vw A (.slice (some ⟨b,o,none⟩) nn cap) nn cs)(jR:off=o+idx)(n9:∀j v,es[j]?=some v→cs[idx+j]?=some v)(ht:U.get t=some bO)(hg:bO.isAgg=true)(hl:Nat.beq es.length bO.info.size=true)(h:J P f n R G (fun w=>Sat G w Hs) all rest k ((d,.agg es.toArray)::L) H):J P f n R G (fun w=>Sat G w Hs) all (.cons true true ⟨some d,.load t x,ty,pos,af,gd⟩ rest) k L H :=
 kF hd (fun a w ha hw=>by
  have hc:∀j v,es[j]?=some v→w.cell? ⟨b,off+j,none⟩=some v:=fun j v hj=>by
   obtain⟨h,hh,hA⟩:=Sat.jF hw hi
   have:=hv.cell (n9 j v hj) h hA
   grind [dE]
  simp[execOp,ha.ev hx,gu (P:=P) ht hg (Nat.eq_of_beq_eq_true hl) hc]) h
end
end Go.SL
namespace Go.SL
open Go
def eF(l:List iu):gF (wV l)=true:=by
 induction l with
 | nil=>rfl
 | cons x l ih =>
  show(Value.oneCell' (u32 x) && gF (wV l))=true
  rw[ih];rfl
section
variable{P:Program}{U:Tr}[hU:eT P U]{f:FuncId}{n:Nat}{R:Ending→World→Prop}{G:ct}{k:List Item}{L:eH}{H H':List HP}{S:World→Prop}{all:Array Oper}{rest:Pl}{ty:TypeId}{pos:String}{af:Array Edge}{gd:Option (Nat × Bool)}{m:Bool}{d:Tmp}
def Z1{t:TypeId}{x:Operand}{j:IntKind}{p:Int}(hd:Nat.blt d n=true)(hx:ev L x=some (.int j p))(hr:fz j (-p))(h:J P f n R G S all rest k ((d,.int j (-p))::L) H):J P f n R G S all (.cons m true ⟨some d,.unOp .neg t x,ty,pos,af,gd⟩ rest) k L H :=
 cS hd (fun a ha w=>by
  have e:j.wrap (0-p) = -p:=by rw[Int.zero_sub];exact dx hr
  simp only[execOp,ha.ev hx,Sem.run_bind,Result.andThen_ok,Op.unary,Op.intArith]
  simp
  simpa using e) h
def aO{t:TypeId}{x:Operand}{b:Nat}{bO:Ty}{l:List Value}{e:TypeId}(i:Nat)(hd:Nat.blt d n=true)(hx:ev L x=some (.pointer (some ⟨b,0,none⟩)))(hi:bZ H i=some (ae b (cl l e)))(ht:U.get t=some bO)(hg:bO.isAgg=true)(hl:l.length=bO.info.size)(h:J P f n R G S all rest k ((d,.agg l.toArray)::L) H):J P f n R G S all (.cons false true ⟨some d,.load t x,ty,pos,af,gd⟩ rest) k L H :=
 xM (U:=U) hd hx ht hg (by rw[hl];exact Nat.beq_refl _) (fun w hw j v hj=>by rw[di (hw.qF hi),Nat.zero_add];exact hj) h
def bX{Hs:List HP}{t:TypeId}{x:Operand}{b:Nat}{bO:Ty}{l:List Value}{e:TypeId}(i:Nat)(hd:Nat.blt d n=true)(hx:ev L x=some (.pointer (some ⟨b,0,none⟩)))(hi:bZ Hs i=some (ae b (cl l e)))(ht:U.get t=some bO)(hg:bO.isAgg=true)(hl:l.length=bO.info.size)(h:J P f n R G (fun w=>Sat G w Hs) all rest k ((d,.agg l.toArray)::L) H):J P f n R G (fun w=>Sat G w Hs) all (.cons true true ⟨some d,.load t x,ty,pos,af,gd⟩ rest) k L H :=
 kF hd (fun a w ha hw=>by
  have hw:Sat G w Hs:=hw
  simp[execOp,ha.ev hx,gu (P:=P) ht hg hl (fun j v hj=>by rw[di (hw.qF hi),Nat.zero_add];exact hj)]) h
def cH{t:TypeId}{x y:Operand}{b:Nat}{bO:Ty}{l l':List Value}{e:TypeId}(i:Nat)(hS:∀w,Sat G w H'→Sx rest S w)(hx:ev L x=some (.pointer (some ⟨b,0,none⟩)))(hy:ev L y=some (.agg l'.toArray))(ht:U.get t=some bO)(iJ:l'.length=bO.info.size)(fu:l'≠[])(eM:gF l'=true)(hi:bZ H i=some (ae b (cl l e)))(hll:l.length=l'.length)(hp:jO i (ae b (cl l' e)) H [] = .mk H')(h:J P f n R G S all rest k L H'):J P f n R G S all (.cons false true ⟨none,.store t x y,ty,pos,af,gd⟩ rest) k L H:=by
 have hc:bt (.agg l'.toArray)=l':=by simp[bt]
 refine lr (U:=U) (l':=l') i hS hx hy ht (by rw[hc,iJ];exact Nat.beq_refl _) (by rw[hc];cases l' with|nil=>exact absurd rfl fu|cons _ _=>rfl) (by rw[hc];exact eM) hi (by rw[hc];omega) (by rw[hc];simp[hll]) hp h
def fO{t:TypeId}{x y:Operand}{b off:Nat}{bO:Ty}{l:List Value}{u:Value}{e:TypeId}(i:Nat)(hS:∀w,Sat G w H'→Sx rest S w)(hx:ev L x=some (.pointer (some ⟨b,off,none⟩)))(hy:ev L y=some u)(ht:U.get t=some bO)(iJ:Nat.beq bO.info.size 1=true)(hc:bt u=[u])(eM:gF [u]=true)(hi:bZ H i=some (ae b (cl l e)))(hq:off<l.length)(hp:jO i (ae b (cl (l.set off u) e)) H [] = .mk H')(h:J P f n R G S all rest k L H'):J P f n R G S all (.cons false true ⟨none,.store t x y,ty,pos,af,gd⟩ rest) k L H:=by
 refine lr (U:=U) (l':=l.set off u) i hS hx hy ht (by rw[hc,Nat.eq_of_beq_eq_true iJ];rfl) (by rw[hc];rfl) (by rw[hc];exact eM) hi (by rw[hc];simp;omega) ?_ hp h
 rw[hc,List.set_eq_take_append_cons_drop,if_pos hq]
 simp
def dI{t elem:TypeId}{bO te:Ty}{x y:Operand}{j:IntKind}{b o len:Nat}{p:Int}(q:Nat)(hd:Nat.blt d n=true)(ht:U.get t=some bO)(hu:bO.eV = .array len elem)(he:U.get elem=some te)(hs:Nat.beq te.info.size 1=true)(hx:ev L x=some (.pointer (some ⟨b,o,none⟩)))(hy:ev L y=some (.int j p))(hq:p=(q:Int))(cL:q<len)(h:J P f n R G S all rest k ((d,.pointer (some ⟨b,o+q,none⟩))::L) H):J P f n R G S all (.cons m true ⟨some d,.indexAddr t x y,ty,pos,af,gd⟩ rest) k L H:=by
 subst hq
 refine xN hd ht hu he hx hy ai ai ?_
 rw[Nat.eq_of_beq_eq_true hs,Int.toNat_natCast,Nat.mul_one]
 exact h
def lu{t:TypeId}{x:Operand}{b off:Nat}{bO:Ty}{l:List Value}{e:TypeId}{v:Value}(i q:Nat)(hd:Nat.blt d n=true)(hx:ev L x=some (.pointer (some ⟨b,off,none⟩)))(hi:bZ H i=some (ae b (cl l e)))(hq:off=q)(hv:l[q]?=some v)(ht:U.get t=some bO)(hg:bO.isAgg=false)(h:J P f n R G S all rest k ((d,v)::L) H):J P f n R G S all (.cons false true ⟨some d,.load t x,ty,pos,af,gd⟩ rest) k L H:=by
 subst hq
 exact eu (U:=U) i hd hx hi (by rw[dm];exact hv) ht hg h
def eb{Hs:List HP}{t:TypeId}{x:Operand}{b off:Nat}{bO:Ty}{l:List Value}{e:TypeId}{v:Value}(i q:Nat)(hd:Nat.blt d n=true)(hx:ev L x=some (.pointer (some ⟨b,off,none⟩)))(hi:bZ Hs i=some (ae b (cl l e)))(hq:off=q)(hv:l[q]?=some v)(ht:U.get t=some bO)(hg:bO.isAgg=false)(h:J P f n R G (fun w=>Sat G w Hs) all rest k ((d,v)::L) H):J P f n R G (fun w=>Sat G w Hs) all (.cons true true ⟨some d,.load t x,ty,pos,af,gd⟩ rest) k L H:=by
 subst hq
 exact gl (U:=U) i hd hx hi (by rw[dm];exact hv) ht hg h
def iC{t e:TypeId}{bO te:Ty}{nn:Nat}{z:Array Value}{parts:Array (Nat × Operand)}{cs:List Value}(hd:Nat.blt d n=true)(ht:U.get t=some bO)(hu:bO.eV = .array nn e)(he:U.get e=some te)(hz:bO.info.zero=some (.agg z))(hb:tK L te.info.size z.toList parts.toList = .mk cs)(h:J P f n R G S all rest k ((d,.agg cs.toArray)::L) H):J P f n R G S all (.cons m true ⟨some d,.build t parts,ty,pos,af,gd⟩ rest) k L H:=by
 have me:∀a w,Has n L a→(execOp a.eval ⟨some d,.build t parts,ty,pos,af,gd⟩).run P w = .ok (.value (.agg cs.toArray)) w:=fun a w ha=>by
  have hf:=uG ha te.info.size parts.toList z.toList cs hb
  rw[Array.toArray_toList]at hf
  simp only[execOp,Instr.build,Sem.run_bind,dD ht hz,run_underlying ht,Result.andThen_ok,hu,run_sizeOf he,Value.cells,Array.toList_map,hf,Sem.run_pure]
 cases m with
 | false=>exact jh hd (fun a w ha _=>me a w ha) h
 | true=>exact kF hd (fun a w ha _=>me a w ha) h
end
end Go.SL
namespace Go.SL
open Go
def ao.kW{H H' rest:List HP}{A:HP}(i:Nat)(h:L9 i H [] = .mk A rest)(hr:ao rest H'):ao H (A::H') :=
 (ao.perm (by simpa using zh i H [] A rest h)).trans (ao.cons A hr)
def ao.Qt(H:List HP):ao H []:=fun h hs=>⟨fun _=>none,⟨fun b o e=>(by cases e),fun _=>rfl⟩⟩
def ag{H H':List HP}(h:ao H H':=by(repeat'(first|exact ao.refl _|exact ao.Qt _|refine ao.kW 0 rfl ?_|refine ao.kW 1 rfl ?_|refine ao.kW 2 rfl ?_|refine ao.kW 3 rfl ?_|refine ao.kW 4 rfl ?_|refine ao.kW 5 rfl ?_|refine ao.kW 6 rfl ?_|refine ao.kW 7 rfl ?_|refine ao.kW 8 rfl ?_|refine ao.kW 9 rfl ?_|refine ao.kW 10 rfl ?_|refine ao.kW 11 rfl ?_|refine ao.kW 12 rfl ?_|refine ao.kW 13 rfl ?_|refine ao.kW 14 rfl ?_|refine(ao.drop _ _).trans ?_))):ao H H':=h
section
variable{P:Program}{f:FuncId}{n:Nat}{R:Ending→World→Prop}{G:ct}{k:List Item}{L:eH}{H:List HP}{S:World→Prop}{all:Array Oper}{rest:Pl}{d:Tmp}{ty:TypeId}{pos:String}{af:Array Edge}{gd:Option (Nat × Bool)}
def de{fo:Operand}{args:Array Operand}{vz:Array TypeId}{g:FuncId}{cap:Array Value}{vs:List Value}{Pre Fr:List HP}{Post:Value→List HP→Prop}(hd:Nat.blt d n=true)(hf:ev L fo=some (.func (.func g) #[] cap))(fN:Ee L args.toList [] = .mk vs){Bc:List Value}(has:Bc=vs++cap.toList)(c:au P g Bc Pre Post)(he:ao H (Pre++Fr))(h:∀v H',Post v H'→J P f n R G S all rest k ((d,v)::L) (H'++Fr))(hS:∀v H' w,Post v H'→Sat G w (H'++Fr)→Sx rest S w) :
  J P f n R G S all (.cons false true ⟨some d,.call { callee := .value fo,args:=args,argTypes:=vz },ty,pos,af,gd⟩ rest) k L H:=by
 intro a w ha hw _
 refine .inl ⟨.inl rfl,.inr ⟨rfl,?_⟩⟩
 have hr:(execOp a.eval ⟨some d,.call { callee := .value fo,args:=args,argTypes:=vz },ty,pos,af,gd⟩).run P w = .ok (.enter g Bc.toArray) w:=by
  simp only[execOp,resolve,Sem.run_bind,ha.ev hf,Deferred.ofValue,Sem.run_pure,Result.andThen_ok,invoke]
  rw[ku c.1,lQ ha.1 _ _ fN,has]
  congr 2
  simp
 refine sQ (fun c hc=>by cases hc) hr (Calls.mono (c.2 G w Fr (hw.cu he)) ?_)
 rintro e w'⟨v,H',rfl,eL,lM⟩
 exact⟨v,rfl,hS v H' w' eL lM,h v H' eL _ w' (ha.put hd v) lM (hS v H' w' eL lM)⟩
def tqg{p:Prop}(h:p:=by(intro _ _ w hp hw;(first|(obtain rfl:=hp;exact hw.cu ag)|(obtain⟨rfl,rfl⟩:=hp;exact hw.cu ag)|(obtain⟨_,_,rfl⟩:=hp;exact hw.cu ag)|(obtain⟨_,rfl⟩:=hp;exact hw.cu ag)|(obtain⟨_,_,rfl,_⟩:=hp;exact hw.cu ag)|(obtain⟨_,_,rfl,rfl⟩:=hp;exact hw.cu ag)|(obtain⟨_,_,rfl,rfl,_⟩:=hp;exact hw.cu ag)|(obtain⟨_,rfl,rfl⟩:=hp;exact hw.cu ag)|(obtain⟨_,_,_,rfl,rfl⟩:=hp;exact hw.cu ag)|(obtain⟨_,_,_,rfl,_,rfl⟩:=hp;exact hw.cu ag)|(obtain⟨_,_,_,_,_,rfl,rfl,_⟩:=hp;exact hw.cu ag)|(obtain⟨_,_,_,_,_,rfl,rfl⟩:=hp;exact hw.cu ag)))):p:=h
def cT{fo:Operand}{args:Array Operand}{vz:Array TypeId}{g:FuncId}{cap:Array Value}{vs:List Value}{Pre Fr:List HP}{Post:Value→List HP→Prop}{Bc:List Value}(c:au P g Bc Pre Post)(h:∀v H',Post v H'→J P f n R G S all rest k ((d,v)::L) (H'++Fr))(hd:Nat.blt d n=true:=by exact rfl)(hf:ev L fo=some (.func (.func g) #[] cap):=by exact rfl)(fN:Ee L args.toList [] = .mk vs:=by exact rfl)(has:Bc=vs++cap.toList:=by exact rfl)(he:ao H (Pre++Fr):=by exact ag)(hS:∀v H' w,Post v H'→Sat G w (H'++Fr)→Sx rest S w:=by exact tqg) :
    J P f n R G S all (.cons false true ⟨some d,.call { callee := .value fo,args:=args,argTypes:=vz },ty,pos,af,gd⟩ rest) k L H:=de hd hf fN has c he h hS
def aeC{p:Prop}[Decidable p](t:Nat)(h:J P f n R G S all rest k ((t,.bool true)::L) H)(hb:dz L t=some (.bool (decide p)):=by exact rfl)(hp:p:=by omega):J P f n R G S all rest k L H:=aG t _ hb (congrArg Value.bool (decide_eq_true hp)) h
def aeD{p:Prop}[Decidable p](t:Nat)(h:J P f n R G S all rest k ((t,.bool false)::L) H)(hb:dz L t=some (.bool (decide p)):=by exact rfl)(hp:¬p:=by omega):J P f n R G S all rest k L H:=aG t _ hb (congrArg Value.bool (decide_eq_false hp)) h
def aeA{p:Prop}[Decidable p](t:Nat)(h:K P f n R G k ((t,.bool true)::L) H)(hb:dz L t=some (.bool (decide p)):=by exact rfl)(hp:p:=by omega):K P f n R G k L H:=bq t _ hb (congrArg Value.bool (decide_eq_true hp)) h
def aeB{p:Prop}[Decidable p](t:Nat)(h:K P f n R G k ((t,.bool false)::L) H)(hb:dz L t=some (.bool (decide p)):=by exact rfl)(hp:¬p:=by omega):K P f n R G k L H:=bq t _ hb (congrArg Value.bool (decide_eq_false hp)) h
def ac2{k0:List Item}{id:Nat}{ops:Array Oper}(Hs:List HP)(dN:Pt)(h:J P f n R G (fun w=>Sat G w Hs) ops (dT ops dN) k L H)(hk:fZ 1000 k0 = .mk (.code (.region id ops true)::k):=by exact rfl)(hm:P.follows .mixedOrders=true:=by exact ah)(Om:Region.noSelect ops=true:=by exact ah)(hp:(zj ops && (Nat.ble dN.depth ops.size && dS ops true dN (Array.replicate ops.size false)))=true:=by exact ah)(hS:∀w,Sat G w H→Sat G w Hs:=by(intro w hw;exact hw.cu ag)):K P f n R G k0 L H:=aL _ dN hk hm Om hp hS h
def aF{fo:Operand}{args:Array Operand}{vz:Array TypeId}{g:FuncId}{cap:Array Value}{vs:List Value}{Pre Fr:List HP}{Post:Value→List HP→Prop}{Bc:List Value}(c:au P g Bc Pre Post)(h:∀v H',Post v H'→J P f n R G S all rest k ((d,v)::L) (H'++Fr))(hd:Nat.blt d n=true:=by exact rfl)(hf:ev L fo=some (.func (.func g) #[] cap):=by exact rfl)(fN:Ee L args.toList [] = .mk vs:=by exact rfl)(has:Bc=vs++cap.toList:=by exact rfl)(he:ao H (Pre++Fr):=by exact ag)(hS:∀v H' w,Post v H'→Sat G w (H'++Fr)→Sx rest S w:=by exact fun _ _ _ _ _=>trivial) :
    J P f n R G S all (.cons false true ⟨some d,.call { callee := .value fo,args:=args,argTypes:=vz },ty,pos,af,gd⟩ rest) k L H:=de hd hf fN has c he h hS
def aw{fo:Operand}{args:Array Operand}{vz:Array TypeId}{g:FuncId}{cap:Array Value}{vs:List Value}{Pre Fr Hx:List HP}{Post:Value→List HP→Prop}{v:Value}{Bc:List Value}(c:au P g Bc Pre Post)(h:J P f n R G S all rest k ((d,v)::L) (Hx++Fr))(hd:Nat.blt d n=true:=by exact rfl)(hf:ev L fo=some (.func (.func g) #[] cap):=by exact rfl)(fN:Ee L args.toList [] = .mk vs:=by exact rfl)(has:Bc=vs++cap.toList:=by exact rfl)(he:ao H (Pre++Fr):=by exact ag)(hq:∀r H,Post r H→r=v∧H=Hx:=by(intro _ _ q;obtain⟨rfl,rfl⟩:=q;exact⟨rfl,rfl⟩))(hS:∀v' H' w,Post v' H'→Sat G w (H'++Fr)→Sx rest S w:=by exact fun _ _ _ _ _=>trivial) :
    J P f n R G S all (.cons false true ⟨some d,.call { callee := .value fo,args:=args,argTypes:=vz },ty,pos,af,gd⟩ rest) k L H:=de hd hf fN has c he (fun _ _ q=>by obtain⟨rfl,rfl⟩:=hq _ _ q;exact h) hS
def bE{fo:Operand}{args:Array Operand}{vz:Array TypeId}{g:FuncId}{cap:Array Value}{vs:List Value}{Pre Fr Hx:List HP}{Post:Value→List HP→Prop}{v:Value}{Bc:List Value}(c:au P g Bc Pre Post)(h:J P f n R G S all rest k ((d,v)::L) (Hx++Fr))(hd:Nat.blt d n=true:=by exact rfl)(hf:ev L fo=some (.func (.func g) #[] cap):=by exact rfl)(fN:Ee L args.toList [] = .mk vs:=by exact rfl)(has:Bc=vs++cap.toList:=by exact rfl)(he:ao H (Pre++Fr):=by exact ag)(hq:∀r H,Post r H→r=v∧H=Hx:=by(intro _ _ q;obtain⟨rfl,rfl⟩:=q;exact⟨rfl,rfl⟩))(hS:∀w,Sat G w (Hx++Fr)→Sx rest S w:=by(intro w hw;exact hw.cu ag)) :
    J P f n R G S all (.cons false true ⟨some d,.call { callee := .value fo,args:=args,argTypes:=vz },ty,pos,af,gd⟩ rest) k L H:=de hd hf fN has c he (fun _ _ q=>by obtain⟨rfl,rfl⟩:=hq _ _ q;exact h) (fun _ _ w q hw=>by obtain⟨rfl,rfl⟩:=hq _ _ q;exact hS w hw)
def ad{k k0:List Item}{fn:Func}{F:List HP}{Post:Value→List HP→Prop}(hR:Ends R G F Post)(hf:P.funcs[f]?=some fn)(hk:fZ 1000 k0 = .mk (.code .ret::k)){vs:List Value}(hr:yc L fn.results.toList [] = .mk vs){Hq:List HP}(hp:Post (eo vs) Hq)(he:ao H (Hq++F):=by exact ag):K P f n R G k0 L H:=aK hR hf hk vs hr hp he
def au.ak{fn:Func}{c:Code}{args:List Value}{Pre:List HP}{Post:Value→List HP→Prop}(hf:P.funcs[f]?=some fn)(hn:fn.ntmps=n)(h:∀G F R,Ends R G F Post→K P f n R G [.code c] L (Pre++F))(hc:jf fn=true:=by exact ah)(hb:fn.body=some c:=by exact rfl)(hp:LZ 0 args [] = .mk L:=by exact rfl)(hlen:Nat.ble args.length n=true:=by exact rfl):au P f args Pre Post:=au.enter hf hc hb hn hp hlen h
def sl{k0 k':List Item}{α:Type}(m:Nat)(I:α→Prop)(Lf:α→eH)(Hf:α→List HP)(hk:fZ 1000 (k0.drop m) = .mk k')(tail:∀y,I y→K P f n R G k' (Lf y) (Hf y))(h:(∀y,I y→K P f n R G k' (Lf y) (Hf y))→K P f n R G k0 L H):K P f n R G k0 L H:=h tail
def mi{k0 k':List Item}{α:Type}{I:α→Prop}{Lf:α→eH}{Hf:α→List HP}(ih:∀y,I y→K P f n R G k' (Lf y) (Hf y))(y:α)(hk:fZ 1000 k0 = .mk k')(hI:I y)(hL:∀t v,dz (Lf y) t=some v→dz L t=some v)(hH:ao H (Hf y)):K P f n R G k0 L H:=fp 1000 hk (HX hL (al hH (ih y hI)))
def gG{k0 k':List Item}(hk:fZ 1000 k0 = .mk k')(h:K P f n R G k' L H):K P f n R G k0 L H:=fp 1000 hk h
end
def dv{p:Prop}(h:p:=by(intro w hw;exact hw.cu ag)):p:=h
def tqh{p:Prop}(h:p:=by(intro _ _ w hp hw;obtain⟨rfl,rfl⟩:=hp;exact hw.cu ag)):p:=h
end Go.SL
namespace Go.SL
open Go
def aX(l:Nat)(st:LoopState)(pd:Option Code)(f:FuncId)(n:Nat)(L:eH)(ps:Array Tmp)(assign body:Code)(r:Nat):HP:=fun h =>
 ∃tmps:Array Value,(tmps.size=n∧∀t v,dz L t=some v→tmps[t]?=some v)∧ae l (.loop { state:=st,pending:=pd,fn:=f,tmps:=tmps,params:=ps,assign:=assign,body:=body,defers:=r }) h
def bF(P:Program)(l:Nat)(args:List Value)(Pre:List HP)(Post:Value→List HP→Prop):Prop :=
 ∀G w F,Sat G w (Pre++F)→∃fn tmps assign body,(Instr.yield l args.toArray).run P w = .ok (.round l fn tmps assign body) w ∧
  ∀ro,RoundIn (fw ro) 0 P l fn tmps assign body w fun e w'=>∃v H,e = .returned v∧Post v H∧Sat G w' (H++F)
def LH:List Nat→List Value→eH→eH
 | p::ps,v::vs,L=>LH ps vs ((p,v)::L)
 | _,_,L=>L
def inB(n:Nat):List Nat→Bool
 | []=>true
 | p::ps=>Nat.blt p n && inB n ps
def Hz{n:Nat}:∀(ps:List Nat) (vs:List Value) (L:eH) (tmps:Array Value),inB n ps=true→tmps.size=n→(∀t v,dz L t=some v→tmps[t]?=some v) →
  Has n (LH ps vs L) { tmps:=(ps.zip vs).foldl (fun tmps (x:Nat × Value)=>tmps.setIfInBounds x.1 x.2) tmps,defers:=[] }
 | [],vs,L,tmps,_,hs,hg=>⟨hs,trivial,hg⟩
 | p::ps,[],L,tmps,_,hs,hg=>⟨by simpa using hs,trivial,by simpa[LH]using hg⟩
 | p::ps,v::vs,L,tmps,hb,hs,hg=>by
  simp only[inB,Bool.and_eq_true]at hb
  have h1:Has n L { tmps:=tmps,defers:=[] }:=⟨hs,trivial,hg⟩
  have h2:=h1.put hb.1 v
  exact Hz ps vs _ _ hb.2 h2.1 h2.2.2
def H7(R:Ending→World→Prop)(G:ct)(l:Nat)(F:List HP)(Post:Value→List HP→Prop):Prop :=
 (G.ro=some l∧G.ds=[])∧∀v H w,Post v H→Sat G w (H++F)→R (.returned v) w
section
variable{P:Program}{f:FuncId}{n:Nat}{R:Ending→World→Prop}{G:ct}{k:List Item}{L:eH}{H:List HP}{l r:Nat}{st:LoopState}{pd:Option Code}{n0:Nat}{f0:FuncId}{L0:eH}{ps:Array Tmp}{assign body:Code}
def pI{w:World}(hs:Sat G w (aX l st pd f0 n0 L0 ps assign body r::H)):∃tmps:Array Value,(tmps.size=n0∧∀t v,dz L0 t=some v→tmps[t]?=some v)∧Sat G w (ae l (.loop { state:=st,pending:=pd,fn:=f0,tmps:=tmps,params:=ps,assign:=assign,body:=body,defers:=r })::H):=by
 obtain⟨t,o,u,hp,BC,h1,h2,⟨tmps,ht,hA⟩,hH,hd,he⟩:=hs
 exact⟨tmps,ht,t,o,u,hp,BC,h1,h2,hA,hH,hd,he⟩
def pH{tmps:Array Value}(ht:tmps.size=n0∧∀t v,dz L0 t=some v→tmps[t]?=some v):ao (ae l (.loop { state:=st,pending:=pd,fn:=f0,tmps:=tmps,params:=ps,assign:=assign,body:=body,defers:=r })::H) (aX l st pd f0 n0 L0 ps assign body r::H) :=
 fun h hs=>⟨h,sub.refl h,e9 (fun h hp=>⟨tmps,ht,hp⟩) (fun _ h=>h) hs⟩
def bF.IN{args:List Value}{Pre:List HP}{Post:Value→List HP→Prop}(Y4:Nat.beq ps.toList.length args.length=true)(tB:inB n0 ps.toList=true)(h:∀G F R,H7 R G l F Post→K P f0 n0 R G [.code assign,.beginRound,.code body] (LH ps.toList args L0) (aX l .ready none f0 n0 L0 ps assign body r::(Pre++F))) :
  bF P l args (aX l .ready none f0 n0 L0 ps assign body r::Pre) Post:=by
 intro G w F hw
 obtain⟨tmps,ht,zp⟩:=pI (H:=Pre++F) hw
 have hg:=zp.get (i:=0) rfl
 have iJ:args.toArray.size=ps.size:=by have:=Nat.eq_of_beq_eq_true Y4;simpa using this.symm
 refine⟨_,_,_,_,run_yield hg iJ,fun ro=>⟨trivial,fun c cs _=>?_⟩⟩
 have hk:=h { G with ro:=some l,ds:=[] } F (fun e w'=>∃v H,e = .returned v∧Post v H∧Sat G w' (H++F)) ⟨⟨rfl,rfl⟩,fun v H w' hp hs=>⟨v,H,rfl,hp,hs⟩⟩
 have hz:(ps.zip args.toArray).foldl (fun(tmps:Array Value) (x:Tmp × Value)=>tmps.setIfInBounds x.1 x.2) tmps=(ps.toList.zip args).foldl (fun tmps (x:Nat × Value)=>tmps.setIfInBounds x.1 x.2) tmps:=by
  rw[← Array.foldl_toList,Array.toList_zip]
 have ha:qT { G with ro:=some l,ds:=[] } n0 (LH ps.toList args L0) { tmps:=(ps.zip args.toArray).foldl (fun(tmps:Array Value) (x:Tmp × Value)=>tmps.setIfInBounds x.1 x.2) tmps,defers:=[] }:=⟨by rw[hz];exact Hz ps.toList args L0 tmps tB ht.1 ht.2,rfl⟩
 obtain⟨v,w',⟨v',H',he,hp,hs⟩,dK⟩:=hk _ w ha (zp.cu (pH ht)) (c::cs) c cs rfl
 cases he
 exact⟨.returned v,w',⟨v,H',rfl,hp,hs⟩,(StepsIn.of_steps dK).mono fun m _=>tE P ro m⟩
def gN{k0:List Item}(hk:fZ 1000 k0 = .mk (.beginRound::k)){F:List HP}{Post:Value→List HP→Prop}(hR:H7 R G l F Post)(h:K P f n R G k L (aX l .busy pd f0 n0 L0 ps assign body r::H)):K P f n R G k0 L (aX l .ready pd f0 n0 L0 ps assign body r::H):=by
 refine fp 1000 hk ?_
 intro a w ha hw cs
 obtain⟨tmps,ht,zp⟩:=pI hw
 have hg:=zp.get (i:=0) rfl
 have hb:=run_beginRound (P:=P) hg rfl
 have YR:=(zp.Aq (o' := .loop { state := .busy,pending:=pd,fn:=f0,tmps:=tmps,params:=ps,assign:=assign,body:=body,defers:=r })).cu (pH ht)
 exact(h a _ ha YR cs).of_steps (.one (stepR_beginRound (b:=({ (default:Frame)with fn:=f,kind := .normal,roundOf:=G.ro }:Frame)) hR.1.1 hb))
def za{a:Act}{w w':World}{k1:List Item}{cs:List Frame}{v:Value}(Jc:G.ro=some l)(hR:R (.returned v) w')(hs:∀c yv,step P (lone (bf G.ro f a k1) (c::yv) w) = .next (lone (c.finish v) yv w')):Kf P f R cs (lone (bf G.ro f a k1) cs w) G.ro:=by
 rw[Jc]at hs ⊢
 intro c yv qh
 subst qh
 exact⟨v,w',hR,.one (hs c yv)⟩
def r7{w:World}(jump:Option Code)(hw:Sat G w (aX l st pd f0 n0 L0 ps assign body r::H)):∃w',(Instr.endRound l jump).run P w = .ok (.bool jump.isNone) w'∧Sat G w' (aX l (if jump.isNone then .ready else .done) jump f0 n0 L0 ps assign body r::H):=by
 obtain⟨tmps,ht,zp⟩:=pI hw
 have hg:=zp.get (i:=0) rfl
 exact⟨_,run_endRound (P:=P) jump hg,(zp.Aq (o' := .loop { state:=if jump.isNone then .ready else .done,pending:=jump,fn:=f0,tmps:=tmps,params:=ps,assign:=assign,body:=body,defers:=r })).cu (pH ht)⟩
def fV{k0:List Item}{F Hq:List HP}{Post:Value→List HP→Prop}(hR:H7 R G l F Post)(hk:fZ 1000 k0 = .mk [])(he:ao H (aX l st pd f0 n0 L0 ps assign body r::(Hq++F)))(hp:Post (.bool true) (aX l .ready none f0 n0 L0 ps assign body r::Hq)):K P f n R G k0 L H:=by
 refine fp 1000 hk ?_
 intro a w ha hw cs
 obtain⟨w',h1,h2⟩:=r7 (P:=P) none (hw.cu he)
 exact za hR.1.1 (hR.2 _ _ w' hp h2) fun c yv=>stepR_round_end (b:=({ (default:Frame)with fn:=f,kind := .normal,roundOf:=G.ro }:Frame)) hR.1.1 rfl h1
def xH{k0:List Item}{F Hq:List HP}{Post:Value→List HP→Prop}(hR:H7 R G l F Post)(hk:fZ 1000 k0 = .mk (.code .ret::k))(he:ao H (aX l st pd f0 n0 L0 ps assign body r::(Hq++F)))(hp:Post (.bool false) (aX l .done (some .ret) f0 n0 L0 ps assign body r::Hq)):K P f n R G k0 L H:=by
 refine fp 1000 hk ?_
 intro a w ha hw cs
 obtain⟨w',h1,h2⟩:=r7 (P:=P) (some .ret) (hw.cu he)
 exact za hR.1.1 (hR.2 _ _ w' hp h2) fun c yv=>stepR_round_ret (b:=({ (default:Frame)with fn:=f,kind := .normal,roundOf:=G.ro }:Frame)) hR.1.1 rfl h1
theorem vf{k0:List Item}{g:Operand}{gid:FuncId}{cap:Array Value}{Pre:Nat→Nat→List HP}{Fr:List HP}{Post:Nat→Nat→Value→List HP→Prop}(hk:fZ 1000 k0 = .mk (.code (.rangeFunc g ps assign body)::k))(Jc:G.ro=none)(hg:ev L g=some (.func (.func gid) #[] cap))(c:∀l r,au P gid (.func (.yield l) #[] #[]::cap.toList) (aX l .ready none f n L ps assign body r::Pre l r) (Post l r))(he:∀l r,ao H (Pre l r++Fr))(jq:∀l r v H',Post l r v H'→∃st pd Z6,H'=aX l st pd f n L ps assign body r::Z6∧st ≠ .busy ∧
   K P f n R { G with ds:=r::G.ds } ((pd.map Item.code).toList++k) L (Z6++(ae r (.deferred (some []))::Fr))):K P f n R G k0 L H:=by
 refine fp 1000 hk ?_
 intro a w ha hw cs
 let b:Frame:={ (default:Frame)with fn:=f,kind := .normal,roundOf:=G.ro }
 have KN:=run_enterLoop_outer (P:=P) (w:=w) f a.tmps ps assign body
 rw[← Jc]at KN
 have zp:Sat G ((w.alloc (.deferred (some []))).alloc (.loop { state := .ready,pending:=none,fn:=f,tmps:=a.tmps,params:=ps,assign,body,defers:=w.heap.size }))
   (aX (w.heap.size+1) .ready none f n L ps assign body w.heap.size::(Pre (w.heap.size+1) w.heap.size++(ae w.heap.size (.deferred (some []))::Fr))):=by
  have h1:=hw.alloc (.deferred (some []))
  have h2:=h1.alloc (.loop { state := .ready,pending:=none,fn:=f,tmps:=a.tmps,params:=ps,assign:=assign,body:=body,defers:=w.heap.size })
  have iJ:({ w with heap:=w.heap.push (.deferred (some [])) }:World).heap.size=w.heap.size+1:=by simp
  rw[iJ]at h2
  refine Sat.cu h2 ?_
  refine(pH ⟨ha.1.1,ha.1.2.2⟩).trans (ao.cons _ ?_)
  refine(ao.cons _ (he (w.heap.size+1) w.heap.size)).trans ?_
  exact ao.perm (List.perm_middle.symm)
 have ly:(resolve a.eval (rangeCall g (w.heap.size+1)) 0).run P ((w.alloc (.deferred (some []))).alloc (.loop { state := .ready,pending:=none,fn:=f,tmps:=a.tmps,params:=ps,assign,body,defers:=w.heap.size })) = .ok { target := .fn (.func gid) cap,args := #[.func (.yield (w.heap.size+1)) #[] #[]] } ((w.alloc (.deferred (some []))).alloc (.loop { state := .ready,pending:=none,fn:=f,tmps:=a.tmps,params:=ps,assign,body,defers:=w.heap.size })):=by
  simp only[resolve,rangeCall,Sem.run_bind,ha.ev hg,Deferred.ofValue,Sem.run_pure,Result.andThen_ok]
  simp[Act.eval]
 have hinv:(invoke (.fn (.func gid) cap) #[.func (.yield (w.heap.size+1)) #[] #[]]).run P ((w.alloc (.deferred (some []))).alloc (.loop { state := .ready,pending:=none,fn:=f,tmps:=a.tmps,params:=ps,assign,body,defers:=w.heap.size })) = .ok (.enter gid (Value.func (.yield (w.heap.size+1)) #[] #[]::cap.toList).toArray) ((w.alloc (.deferred (some []))).alloc (.loop { state := .ready,pending:=none,fn:=f,tmps:=a.tmps,params:=ps,assign,body,defers:=w.heap.size })):=by
  simp only[invoke]
  rw[ku (c (w.heap.size+1) w.heap.size).1]
  congr 2
  grind
 have FA:=stepR_rangeFunc (P:=P) (b:=b) (a:=a) (k:=k) (cs:=cs) (w:=w) (ps:=ps) (assign:=assign) (body:=body) (g:=g) KN ly hinv
 obtain⟨e,w3,fr,⟨v,H',rfl,eL,He⟩,Zp,hfn,Zb⟩:=(c (w.heap.size+1) w.heap.size).2 G _ (ae w.heap.size (.deferred (some []))::Fr) zp (b.atR { a with defers:=[{ target := .collected w.heap.size,args := #[] }]++a.defers } (.inRangeFunc (w.heap.size+1)::k)::cs)
 obtain⟨st,pd,Z6,rfl,dK,hK⟩:=jq _ _ _ _ eL
 obtain⟨tmps,ht,hs4⟩:=pI (H:=Z6++(ae w.heap.size (.deferred (some []))::Fr)) He
 have hg4:=hs4.get (i:=0) rfl
 have acn:=run_endLoop (P:=P) hg4 dK
 have hs5:=(hs4.Aq (o' := .loop { state := .exhausted,pending:=pd,fn:=f,tmps:=tmps,params:=ps,assign:=assign,body:=body,defers:=w.heap.size })).cu (ao.drop _ _)
 have mL:step P (lone fr (b.atR { a with defers:=[{ target := .collected w.heap.size,args := #[] }]++a.defers } (.inRangeFunc (w.heap.size+1)::k)::cs) w3) = .next (lone (b.atR { a with defers:=[{ target := .collected w.heap.size,args := #[] }]++a.defers } (.endRangeFunc (w.heap.size+1)::k)) cs w3):=by
  rw[← finish_atR_inRangeFunc (w.heap.size+1) v];exact step_leave_returned Zb
 have lN:=stepR_endRangeFunc (P:=P) (b:=b) (a:={ a with defers:=[{ target := .collected w.heap.size,args := #[] }]++a.defers }) (k:=k) (cs:=cs) acn
 have nD:=hK { a with defers:=[{ target := .collected w.heap.size,args := #[] }]++a.defers } _ ⟨⟨ha.1.1,trivial,ha.1.2.2⟩,by rw[show({ G with ds:=w.heap.size::G.ds }:ct).ds=w.heap.size::G.ds from rfl,List.map_cons,ha.2];rfl⟩ hs5 cs
 exact Kf.of_steps (Steps.trans (.one FA) (Steps.trans Zp (Steps.trans (.one mL) (.one lN)))) nD
variable{S:World→Prop}{all:Array Oper}{rest:Pl}{d:Tmp}{ty:TypeId}{pos:String}{af:Array Edge}{gd:Option (Nat × Bool)}
theorem kE{fo:Operand}{args:Array Operand}{vz:Array TypeId}{vs:List Value}{Pre Fr:List HP}{Post:Value→List HP→Prop}(hd:Nat.blt d n=true)(hf:ev L fo=some (.func (.yield l) #[] #[]))(fN:Ee L args.toList [] = .mk vs)(c:bF P l vs Pre Post)(he:ao H (Pre++Fr))(h:∀v H',Post v H'→J P f n R G S all rest k ((d,v)::L) (H'++Fr))(hS:∀v H' w,Post v H'→Sat G w (H'++Fr)→Sx rest S w) :
  J P f n R G S all (.cons false true ⟨some d,.call { callee := .value fo,args:=args,argTypes:=vz },ty,pos,af,gd⟩ rest) k L H:=by
 intro a w ha hw _
 refine .inl ⟨.inl rfl,.inr ⟨rfl,?_⟩⟩
 obtain⟨fn,tmps,asg,bdy,hy,hr⟩:=c G w Fr (hw.cu he)
 have uA:(execOp a.eval ⟨some d,.call { callee := .value fo,args:=args,argTypes:=vz },ty,pos,af,gd⟩).run P w = .ok (.round l fn tmps asg bdy) w:=by
  simp only[execOp,resolve,Sem.run_bind,ha.ev hf,Deferred.ofValue,Sem.run_pure,Result.andThen_ok,invoke]
  rw[lQ ha.1 _ _ fN]
  grind
 refine kR (fun c hc=>by cases hc) uA ⟨fun h=>by simp[fw]at h,RoundIn.mono (hr G.ro) ?_⟩
 rintro e w'⟨v,H',rfl,eL,lM⟩
 exact⟨hS v H' w' eL lM,h v H' eL _ w' (ha.put hd v) lM (hS v H' w' eL lM)⟩
end
end Go.SL
namespace Go.SL
open Go
def NU{P:Program}{f:FuncId}{n:Nat}{R:Ending→World→Prop}{G:ct}{ds:List Nat}{k k0:List Item}{L:eH}{H H':List HP}{fn:Func}{F:List HP}{Post:Value→List HP→Prop}{v:Value}{Hq:List HP}(hR:Ends R G F Post)(hf:P.funcs[f]?=some fn)(hk:fZ 1000 k0 = .mk (.code .ret::k))(he:ao H (ds.map (fun r=>ae r (.deferred (some [])))++H'))(ly:∀a w,Has n L a→Sat { G with ds:=ds } w H'→(results fn a.tmps).run P w = .ok v w)(eL:Post v Hq)(Hv:ao H' (Hq++F)):K P f n R { G with ds:=ds } k0 L H:=by
 refine fp 1000 hk ?_
 intro a w ha hw cs
 have Jc:({ G with ds:=ds }:ct).ro=none:=hR.1.1
 rw[Jc]
 obtain⟨w',lM,hs⟩:=oJ (P:=P) ds { bf none f a (.code .ret::k)with mode := .returning } cs w rfl ha.2 ⟨H',hw.cu he,rfl⟩
 exact⟨_,w',_,hR.2 _ _ w' eL (by have:=lM.cu Hv;exact this),Steps.trans (.one (stepR_ret rfl)) hs,rfl,rfl,rfl,rfl,fn,hf,ly a w' ha.1 lM⟩
def vW{P:Program}{U:Tr}[hU:eT P U]{n:Nat}{L:eH}{a:Act}{p b:Nat}{t e:TypeId}{bO:Ty}{u:Value}{G:ct}{w:World}{H:List HP}(i:Nat)(ha:Has n L a)(hw:Sat G w H)(hp:dz L p=some (.pointer (some ⟨b,0,none⟩)))(ht:U.get t=some bO)(hg:bO.isAgg=false)(hi:bZ H i=some (ae b (cl [u] e))):(Ax a.tmps (.cell p t)).run P w = .ok u w:=by
 have hc:w.cell? ⟨b,0,none⟩=some u:=by rw[di (hw.qF hi)];rfl
 have Pu:=nf (P:=P) (w:=w) ht hg hc
 have g1:a.tmps.getD p undef = .pointer (some ⟨b,0,none⟩):=by simp[Array.getD_eq_getD_getElem?,ha.2.2 p _ hp]
 simp only[Ax,g1,asAddr,Sem.run_bind,Sem.run_pure,Result.andThen_ok]
 simpa[Instr.loadAt,Instr.sureAddr]using Pu
def qQ{P:Program}{U:Tr}[hU:eT P U]{f:FuncId}{n:Nat}{R:Ending→World→Prop}{G:ct}{ds:List Nat}{k k0:List Item}{L:eH}{H H':List HP}{fn:Func}{F:List HP}{Post:Value→List HP→Prop}{p q b1 b2:Nat}{t1 t2 e1 e2:TypeId}{ty1 ty2:Ty}{u1 u2:Value}{Hq:List HP}(i j:Nat)(hR:Ends R G F Post)(hf:P.funcs[f]?=some fn)(hk:fZ 1000 k0 = .mk (.code .ret::k))(BF:fn.results.toList=[.cell p t1,.cell q t2])(hp:dz L p=some (.pointer (some ⟨b1,0,none⟩)))(hq:dz L q=some (.pointer (some ⟨b2,0,none⟩)))(AS:U.get t1=some ty1)(Jr:ty1.isAgg=false)(ht2:U.get t2=some ty2)(Hu:ty2.isAgg=false)(he:ao H (ds.map (fun r=>ae r (.deferred (some [])))++H'))(hi:bZ H' i=some (ae b1 (cl [u1] e1)))(hj:bZ H' j=some (ae b2 (cl [u2] e2)))(eL:Post (.tuple #[u1,u2]) Hq)(Hv:ao H' (Hq++F)):K P f n R { G with ds:=ds } k0 L H:=by
 refine NU hR hf hk he (fun a w ha hw=>?_) eL Hv
 have h1:=vW (P:=P) i ha hw hp AS Jr hi
 have h2:=vW (P:=P) j ha hw hq ht2 Hu hj
 rw[nj,Array.mapM_eq_mapM_toList,BF]
 simp_all
def a6{P:Program}{f:FuncId}{n:Nat}{R:Ending→World→Prop}{G:ct}{k:List Item}{L:eH}{H F:List HP}{Post:Value→List HP→Prop}(hE:Ends R G F Post)(h:K P f n R { G with ds:=[] } k L H):K P f n R G k L H:=by
 have:({ G with ds:=[] }:ct)=G:=by have:=hE.1.2;cases G;simp_all
 rw[this]at h
 exact h
def xI{P:Program}{f:FuncId}{n:Nat}{R:Ending→World→Prop}{G:ct}{k:List Item}{L:eH}{H:List HP}{ps:Array Tmp}{assign body:Code}{k0:List Item}{g:Operand}{gid:FuncId}{cap:Array Value}{Pre:Nat→Nat→List HP}{Fr:List HP}(Post:Nat→Nat→(LoopState→Option Code→HP)→Value→List HP→Prop)(hk:fZ 1000 k0 = .mk (.code (.rangeFunc g ps assign body)::k))(Jc:G.ro=none)(hg:ev L g=some (.func (.func gid) #[] cap))(c:∀l r,au P gid (.func (.yield l) #[] #[]::cap.toList) (aX l .ready none f n L ps assign body r::Pre l r) (Post l r (fun st pd=>aX l st pd f n L ps assign body r)))(he:∀l r,ao H (Pre l r++Fr))(jq:∀l r v H',Post l r (fun st pd=>aX l st pd f n L ps assign body r) v H'→∃st pd Z6,H'=aX l st pd f n L ps assign body r::Z6∧st ≠ .busy ∧
   K P f n R { G with ds:=r::G.ds } ((pd.map Item.code).toList++k) L (Z6++(ae r (.deferred (some []))::Fr))):K P f n R G k0 L H :=
 vf hk Jc hg c he jq
def eh{P:Program}{f:FuncId}{n:Nat}{R:Ending→World→Prop}{G:ct}{k:List Item}{L:eH}{H:List HP}{e:TypeId}{sz nn:Nat}{v:Value}{cs:List Value}(i:Nat)(hi:bZ H i=some (aB e sz v nn cs))(h:Vw (aB e sz v nn cs) v nn cs→K P f n R G k L H):K P f n R G k L H :=
 pn fun⟨w,hw⟩=>by
  obtain⟨h1,_,hA⟩:=hw.jF hi
  exact h (Vw.l7 e sz v nn cs ⟨h1,hA⟩)
theorem GN{e:TypeId}{sz nn c:Nat}{a:Option Addr}{cs:List Value}{h:Hp}(hs:aB e sz (.slice a nn c) nn cs h):nn≤c:=by
 obtain⟨_,⟨a',hv,hn,_⟩|⟨b,o,cap,pre,junk,hv,hp,hn,hc,_⟩⟩:=hs
 ·omega
 grind
def Bt{P:Program}{f:FuncId}{n:Nat}{R:Ending→World→Prop}{G:ct}{k:List Item}{L:eH}{H:List HP}{S:World→Prop}{all:Array Oper}{rest:Pl}{e:TypeId}{sz nn c:Nat}{a:Option Addr}{cs:List Value}(i:Nat)(hi:bZ H i=some (aB e sz (.slice a nn c) nn cs))(h:Vw (aB e sz (.slice a nn c) nn cs) (.slice a nn c) nn cs→nn≤c→J P f n R G S all rest k L H):J P f n R G S all rest k L H :=
 xL fun w hw=>by
  obtain⟨h1,_,hA⟩:=hw.jF hi
  exact h (Vw.l7 e sz _ nn cs ⟨h1,hA⟩) (GN hA)
def Iv{P:Program}{U:Tr}[hU:eT P U]{n:Nat}{G:ct}{L:eH}{H:List HP}{fn:Func}{p b:Nat}{t e:TypeId}{bO:Ty}{cs:List Value}{a:Act}{w:World}(i:Nat)(ha:qT G n L a)(hw:Sat G w H)(BF:fn.results.toList=[.cell p t])(hp:dz L p=some (.pointer (some ⟨b,0,none⟩)))(ht:U.get t=some bO)(hg:bO.isAgg=true)(hl:cs.length=bO.info.size)(hi:bZ H i=some (ae b (cl cs e))):(results fn a.tmps).run P w = .ok (.agg cs.toArray) w:=by
 have hc:∀j v,cs[j]?=some v→w.cell? ⟨b,0+j,none⟩=some v:=fun j v hj=>by rw[di (hw.qF hi),Nat.zero_add];exact hj
 have Pu:=gu (P:=P) (w:=w) ht hg hl hc
 have Zc:(loadVar t ⟨b,0,none⟩).run P w = .ok (.agg cs.toArray) w:=by simpa[Instr.loadAt,Instr.sureAddr]using Pu
 have g1:a.tmps.getD p undef = .pointer (some ⟨b,0,none⟩):=by simp[Array.getD_eq_getD_getElem?,ha.get hp]
 rw[nj,Array.mapM_eq_mapM_toList,BF]
 simp only[Sem.run_bind,Sem.run_map,List.mapM_cons,List.mapM_nil,Ax,g1,asAddr,Sem.run_pure,Result.andThen_ok,Zc]
 simp
def iA{P:Program}{U:Tr}[hU:eT P U]{f:FuncId}{n:Nat}{R:Ending→World→Prop}{G:ct}{k k0:List Item}{L:eH}{H:List HP}{fn:Func}{F:List HP}{Post:Value→List HP→Prop}{p b:Nat}{t e:TypeId}{bO:Ty}{cs:List Value}(i:Nat)(hR:Ends R G F Post)(hf:P.funcs[f]?=some fn)(hk:fZ 1000 k0 = .mk (.code .ret::k))(BF:fn.results.toList=[.cell p t])(hp:dz L p=some (.pointer (some ⟨b,0,none⟩)))(ht:U.get t=some bO)(hg:bO.isAgg=true)(hl:cs.length=bO.info.size)(hi:bZ H i=some (ae b (cl cs e))){Hq:List HP}(eL:Post (.agg cs.toArray) Hq)(he:ao H (Hq++F)):K P f n R G k0 L H:=by
 refine fp 1000 hk ?_
 intro a w ha hw yv
 have me:=Iv (P:=P) i ha hw BF hp ht hg hl hi
 rw[hR.1.1]
 exact⟨_,w,_,hR.2 _ _ w eL (hw.cu he),.one (stepR_ret rfl),rfl,rfl,by show a.defers=[];rw[ha.2,hR.1.2];rfl,rfl,fn,hf,me⟩
end Go.SL
namespace Go.SL
def ofInt64(x:Int):(BitVec.ofInt IntKind.i64.bits x).toNat=(x%18446744073709551616).toNat:=by
 rw[BitVec.toNat_ofInt];rfl
def mz:Nat→Nat→Pt→Pt
 | _,0,p=>p
 | i,n+1,p => .st i (mz (i+1) n p)
def kA(n:Nat):Value.int .u8 (IntKind.u8.wrap (n:Int))=u8 (UInt8.ofNat n):=by
 have h:IntKind.u8.wrap (n:Int)=(n:Int)%256:=by simp[IntKind.wrap,IntKind.bits,IntKind.signed]
 rw[h]
 simp only[u8,UInt8.toNat_ofNat']
 congr 1
theorem pG{a c k:Nat}(ha:a<2 ^ k):a ||| c*2 ^ k=a+c*2 ^ k:=by
 have:=Nat.shiftLeft_add_eq_or_of_lt ha c
 rw[Nat.shiftLeft_eq]at this
 grind
theorem AL{a:Nat}(h:a<18446744073709551616):(BitVec.ofInt IntKind.i64.bits (a:Int)).toNat=a:=by
 rw[ofInt64];omega
def rI{a:Nat}(h:a<18446744073709551616):(BitVec.ofInt IntKind.u64.bits (a:Int)).toNat=a:=by
 rw[BitVec.toNat_ofInt]
 show((a:Int)%18446744073709551616).toNat=a
 omega
theorem uZ{a:Nat}(h:a<256):(BitVec.ofInt IntKind.u8.bits (a:Int)).toNat=a:=by
 rw[BitVec.toNat_ofInt]
 show((a:Int)%256).toNat=a
 omega
theorem EU{a c k:Nat}(ha:a<2 ^ k)(h:a+c*2 ^ k<9223372036854775808) :
  IntKind.i64.wrap ((BitVec.ofInt IntKind.i64.bits (a:Int) ||| BitVec.ofInt IntKind.i64.bits ((c*2 ^ k:Nat):Int)).toNat:Int)=((a+c*2 ^ k:Nat):Int):=by
 rw[BitVec.toNat_or,AL ai,AL ai,pG ha]
 grind [dx,fz]
theorem YA{a c k:Nat}(ha:a<2 ^ k)(h:a+c*2 ^ k<18446744073709551616) :
  IntKind.u64.wrap ((BitVec.ofInt IntKind.u64.bits (a:Int) ||| BitVec.ofInt IntKind.u64.bits ((c*2 ^ k:Nat):Int)).toNat:Int)=((a+c*2 ^ k:Nat):Int):=by
 rw[BitVec.toNat_or,rI ai,rI ai,pG ha]
 grind [dx,fz]
set_option maxRecDepth 10000 in
theorem L2(x:Nat)(hx:x<256):IntKind.u8.wrap ((BitVec.ofInt IntKind.u8.bits (x:Int) ||| BitVec.ofInt IntKind.u8.bits 128).toNat:Int)=((x%128+128:Nat):Int):=by
 have e2:(BitVec.ofInt IntKind.u8.bits (128:Int)).toNat=128:=by decide
 have h:∀y,y<256→y ||| 128=y%128+128:=by decide
 grind [uZ,dx,fz]
theorem Be(x:Nat)(hx:x<256):IntKind.u8.wrap ((BitVec.ofInt IntKind.u8.bits (x:Int) &&& ~~~ BitVec.ofInt IntKind.u8.bits 128).toNat:Int)=((x%128:Nat):Int):=by
 have e2:(~~~ BitVec.ofInt IntKind.u8.bits (128:Int)).toNat=2 ^ 7-1:=by decide
 rw[BitVec.toNat_and,uZ hx,e2,Nat.and_two_pow_sub_one_eq_mod]
 grind [dx,fz]
theorem sd(x n:Nat)(hx:x<18446744073709551616)(hn:n<64):IntKind.u64.wrap ((BitVec.ofInt IntKind.u64.bits (x:Int) &&& BitVec.ofInt IntKind.u64.bits ((2 ^ n-1:Nat):Int)).toNat:Int)=((x%2 ^ n:Nat):Int):=by
 have hp:2 ^ n<2 ^ 64:=Nat.pow_lt_pow_right ai hn
 have oO:0<2 ^ n:=Nat.pow_pos ai
 rw[BitVec.toNat_and,rI hx,rI ai,Nat.and_two_pow_sub_one_eq_mod]
 have cL:x%2 ^ n<18446744073709551616:=Nat.lt_of_le_of_lt (Nat.mod_le _ _) hx
 grind [dx,fz]
def CB(n:Nat):List UInt8:=[UInt8.ofNat n,UInt8.ofNat (n/256),UInt8.ofNat (n/65536),UInt8.ofNat (n/16777216)]
def pK(b:List UInt8):Nat:=(b.getD 0 0).toNat+(b.getD 1 0).toNat*256+(b.getD 2 0).toNat*65536+(b.getD 3 0).toNat*16777216
def AO(n:Nat):(CB n).length=4:=rfl
theorem Mq(b:List UInt8):pK b<4294967296:=by
 unfold pK
 have h:∀x:UInt8,x.toNat<256:=fun x=>x.toNat_lt
 grind
end Go.SL
namespace Go.SL
open Go
section
variable{P:Program}{U:Tr}[hU:eT P U]{f:FuncId}{n:Nat}{R:Ending→World→Prop}{G:ct}{k:List Item}{L:eH}{H:List HP}{S:World→Prop}{all:Array Oper}{rest:Pl}{d:Tmp}{ty:TypeId}{pos:String}{af:Array Edge}{gd:Option (Nat × Bool)}{m:Bool}
theorem ji{fo:Operand}{args:Array Operand}{vz:Array TypeId}{g:FuncId}{fi cap:Array Value}{vs:List Value}{Pre Fr:List HP}{Post:Value→List HP→Prop}(hd:Nat.blt d n=true)(hf:ev L fo=some (.func (.func g) fi cap))(fN:Ee L args.toList [] = .mk vs){Bc:List Value}(has:Bc=fi.toList++vs++cap.toList)(c:au P g Bc Pre Post)(he:ao H (Pre++Fr))(h:∀v H',Post v H'→J P f n R G S all rest k ((d,v)::L) (H'++Fr))(hS:∀v H' w,Post v H'→Sat G w (H'++Fr)→Sx rest S w) :
  J P f n R G S all (.cons false true ⟨some d,.call { callee := .value fo,args:=args,argTypes:=vz },ty,pos,af,gd⟩ rest) k L H:=by
 intro a w ha hw _
 refine .inl ⟨.inl rfl,.inr ⟨rfl,?_⟩⟩
 have hr:(execOp a.eval ⟨some d,.call { callee := .value fo,args:=args,argTypes:=vz },ty,pos,af,gd⟩).run P w = .ok (.enter g Bc.toArray) w:=by
  simp only[execOp,resolve,Sem.run_bind,ha.ev hf,Deferred.ofValue,Sem.run_pure,Result.andThen_ok,invoke]
  rw[ku c.1,lQ ha.1 _ _ fN,has]
  congr 2
  grind
 refine sQ (fun c hc=>by cases hc) hr (Calls.mono (c.2 G w Fr (hw.cu he)) ?_)
 rintro e w'⟨v,H',rfl,eL,lM⟩
 exact⟨v,rfl,hS v H' w' eL lM,h v H' eL _ w' (ha.put hd v) lM (hS v H' w' eL lM)⟩
def xJ{t yt:TypeId}{x y:Operand}{p q:ByteArray}(hd:Nat.blt d n=true)(hx:ev L x=some (.string p))(hy:ev L y=some (.string q))(hr:p.size+q.size≤9223372036854775807)(h:J P f n R G S all rest k ((d,.string (p++q))::L) H):J P f n R G S all (.cons m true ⟨some d,.binOp .add t x y yt,ty,pos,af,gd⟩ rest) k L H :=
  cS hd (fun a ha w=>by
    have h0 : ¬ (((p.size + q.size : Nat) : Int) > IntKind.i64.max) := by have : IntKind.i64.max = 9223372036854775807 := by decide
                                                                          omega
    simp only[execOp,ha.ev hx,ha.ev hy,eqGuard,Sem.run_bind,Sem.run_pure,Result.andThen_ok,binOp_string_add,Op.stringOp]
    rw[if_neg h0]
    rfl) h
theorem Bu{g:FuncId}{fn:Func}{args:Array Operand}{vz:Array TypeId}{t elem:TypeId}{bO:Ty}{q:Nat}(hd:Nat.blt d n=true)(hf:P.funcs[g]?=some fn)(hb:fn.body=none)(hn:(fn.name == "runtime.NumGoroutine")=false)(u6:(Extern.findNext fn).isNone=true)(he:Extern.find fn=some (Extern.BytealgMakeNoZero.makeNoZero fn.params #[t]))(ht:U.get t=some bO)(hu:bO.eV = .slice elem)(fN:Ee L args.toList [] = .mk [.int .i64 (q:Int)])(hq:q≤281474976710656)(hS:∀b l w,Sat G w (ae b (cl l elem)::H)→Sx rest S w)(h:∀b c l,q≤c→List.length l=c→J P f n R G S all rest k ((d,.slice (some ⟨b,0,none⟩) q c)::L) (ae b (cl l elem)::H)) :
  J P f n R G S all (.cons false true ⟨some d,.call { callee := .value (.func g),args:=args,argTypes:=vz },ty,pos,af,gd⟩ rest) k L H:=by
 refine lV hd (fun u H1=>∃b c l,(q≤c∧List.length l=c)∧u = .slice (some ⟨b,0,none⟩) q c∧H1=ae b (cl l elem)::H) (fun a w ha hw=>?_) ?_ ?_
 ·have hav:=lQ ha _ _ fN
  obtain⟨cs,hr,h1,_⟩:=Lib.run_makeNoZero (P:=P) w fn.params t elem (by rw[← hu];exact iM ht) q hq
  have YR:Sat G w.drew.drew H:=(hw.draw _).draw _
  refine⟨_,w.drew.drew.alloc (.cells cs elem),_,?_,⟨w.heap.size,cs.size,cs.toList,⟨h1,by simp⟩,rfl,rfl⟩,?_⟩
  ·simp only[execOp,resolve,Sem.run_bind,Act.eval,Deferred.ofValue,Sem.run_pure,Result.andThen_ok,invoke]
   rw[show Array.map (fun x=>a.eval x) args = #[.int .i64 (q:Int)]from hav]
   simp only[Array.empty_append,Array.append_empty]
   rw[vV hf hb hn u6 he,hr]
   rfl
  ·have:=YR.alloc (cl cs.toList elem)
   have e:cl cs.toList elem = .cells cs elem:=by simp[cl]
   rw[e]at this ⊢
   exact this
 ·grind
 grind
theorem Kn{t elem:TypeId}{bO te:Ty}{x hi mx:Operand}{a0:Option Addr}{len cap:Nat}{q r:Int}{j2 j3:IntKind}(hd:Nat.blt d n=true)(ht:U.get t=some bO)(hu:bO.eV = .slice elem)(he:U.get elem=some te)(hx:ev L x=some (.slice a0 len cap))(Eb:ev L hi=some (.int j2 q))(hmx:ev L mx=some (.int j3 r))(h0:0≤q)(hqr:q≤r)(Oi:r≤(cap:Int))(h:J P f n R G S all rest k ((d,.slice (sliceAt a0 r.toNat 0 te.info.size) q.toNat r.toNat)::L) H) :
  J P f n R G S all (.cons m true ⟨some d,.slice t x none (some hi) (some mx),ty,pos,af,gd⟩ rest) k L H:=by
 refine cS hd (fun a ha w=>?_) h
 have hb:(Instr.sliceBounds true len cap none (some (a.eval hi)) (some (a.eval mx))).run P w = .ok (0,q.toNat,r.toNat) w:=by
  unfold Instr.sliceBounds
  have e1:0≤r∧r≤(cap:Int):=⟨ai,Oi⟩
  have e2:0≤q∧q≤((r.toNat:Nat):Int):=⟨ai,ai⟩
  have e4:q≤max r 0:=by omega
  simp[ha.ev Eb,ha.ev hmx,Instr.sliceBound,asIntOf,e1,e2,e4,h0]
 simp only[execOp,ha.ev hx,Instr.sliceAt,Sem.run_bind,run_underlying ht,Result.andThen_ok,hu,Instr.slice,Option.map_some,Option.map_none,hb,run_sizeOf he,Sem.run_pure,sliceAt]
 grind
end
end Go.SL
namespace Go.SL
def ao.bY(l H:List HP):ao (Sep l::H) (l++H):=fun h hs=>⟨h,sub.refl h,iG hs⟩
def ao.bK(l H:List HP):ao (l++H) (Sep l::H):=fun h hs=>⟨h,sub.refl h,lq hs⟩
abbrev fJ:=List (Nat × List Value)
def a7(e:TypeId)(M:fJ):HP:=Sep (M.map fun x=>ae x.1 (cl x.2 e))
def lX(M:fJ)(v:Value)(bs:List UInt8):Prop :=
 ∃a cap,v = .slice a bs.length cap∧bs.length≤cap∧(bs=[]∨∃b o cs,a=Option.some ⟨b,o,none⟩∧(b,cs)∈M∧(cs.drop o).take bs.length=bV bs)
def lX.mono{M M':fJ}{v:Value}{bs:List UInt8}(h:lX M v bs)(hs:∀x∈M,x∈M'):lX M' v bs:=by
 obtain⟨a,cap,hv,hc,h0|⟨b,o,cs,ha,hm,ht⟩⟩:=h
 ·exact⟨a,cap,hv,hc,.inl h0⟩
 ·exact⟨a,cap,hv,hc,.inr ⟨b,o,cs,ha,hs _ hm,ht⟩⟩
theorem lX.nil(M:fJ)(a:Option Addr)(cap:Nat):lX M (.slice a 0 cap) []:=⟨a,cap,rfl,Nat.zero_le _,.inl rfl⟩
def Bk{l:List HP}{A:HP}{h:Hp}(hA:A∈l)(hs:Sep l h):∃h',sub h' h∧A h':=by
 obtain⟨i,hi⟩:=List.getElem?_of_mem hA
 exact jz (sg (cN hi) h hs)
theorem lX.view{M:fJ}{v:Value}{bs:List UInt8}(h:lX M v bs)(e:TypeId):Vw (a7 e M) v bs.length (bV bs):=by
 obtain⟨a,cap,rfl,_,h0|⟨b,o,cs,ha,hm,ht⟩⟩:=h
 ·subst h0;exact⟨a,cap,rfl,.inl rfl⟩
 ·have h1:Vw (ae b (cl cs e)) (.slice a bs.length cap) bs.length (bV bs):=by
   grind [Vw.ae,bD]
  refine h1.mono fun h hs=>?_
  exact Bk (List.mem_map.2 ⟨(b,cs),hm,rfl⟩) hs
def lX.shape{M:fJ}{v:Value}{bs:List UInt8}(h:lX M v bs):∃a cap,v = .slice a bs.length cap∧bs.length≤cap:=by
 obtain⟨a,cap,hv,hc,_⟩:=h;exact⟨a,cap,hv,hc⟩
def Nw(e:TypeId)(b:Nat)(cs:List Value)(M:fJ)(H:List HP):ao (ae b (cl cs e)::a7 e M::H) (a7 e ((b,cs)::M)::H) :=
 ao.fold (B:=[_,_]) fun h hs=>⟨h,sub.refl h,e9 (fun _ h=>h) (fun _ h=>dp h) hs⟩
def lX.row{M:fJ}{b cap:Nat}{bs:List UInt8}(hc:bs.length≤cap):lX ((b,bV bs)::M) (.slice (Option.some ⟨b,0,none⟩) bs.length cap) bs :=
 ⟨_,cap,rfl,hc,.inr ⟨b,0,bV bs,rfl,by simp,by rw[← bD];simp⟩⟩
theorem Nv(e:TypeId)(v:Value)(bs:List UInt8)(M:fJ):∀h,star (aB e 1 v bs.length (bV bs)) (a7 e M) h→∃M',lX M' v bs∧(∀x∈M,x∈M')∧a7 e M' h:=by
 rintro h⟨h1,h2,⟨hl,⟨a,rfl,hn,he⟩|⟨b,o,cap,pre,junk,rfl,hp,hn,hc,u5⟩⟩,hM,hd,hj⟩
 ·have hb:bs=[]:=List.eq_nil_of_length_eq_zero hn
  subst hb
  exact⟨M,lX.nil M a 0,fun _ h=>h,w6 ⟨h1,h2,he,hM,hd,hj⟩⟩
 ·refine⟨(b,pre++bV bs++junk)::M,⟨_,cap,rfl,hn,.inr ⟨b,o,pre++bV bs++junk,rfl,by simp,?_⟩⟩,fun x hx=>by simp[hx],⟨h1,h2,u5,hM,hd,hj⟩⟩
  grind
theorem lX.tail{M:fJ}{b o n cap:Nat}{x:UInt8}{bs:List UInt8}(h:lX M (.slice (Option.some ⟨b,o,none⟩) n cap) (x::bs))(o' eY:Nat)(h1:bs≠[]→o'=o+1)(hc':bs.length≤eY):lX M (.slice (Option.some ⟨b,o',none⟩) bs.length eY) bs:=by
 by_cases h0:bs=[]
 ·grind [lX.nil]
 ·have:=h1 h0
  subst this
  obtain⟨a,A7,hv,_,h2|⟨b',o2,cs,ha,hm,ht⟩⟩:=h
  ·cases h2
  ·simp only[Value.slice.injEq]at hv
   obtain⟨rfl,_,rfl⟩:=hv
   simp only[Option.some.injEq,Addr.mk.injEq,and_true]at ha
   obtain⟨rfl,rfl⟩:=ha
   refine⟨_,eY,rfl,hc',.inr ⟨b,o+1,cs,rfl,hm,?_⟩⟩
   rw[List.length_cons]at ht
   rw[show o+1=1+o by omega,← List.drop_drop]
   have h3:=congrArg (List.drop 1) ht
   rw[List.drop_take]at h3
   simpa[bV,Nat.add_comm]using h3
theorem lX.piece{M:fJ}{b o n cap:Nat}{bs:List UInt8}(h:lX M (.slice (Option.some ⟨b,o,none⟩) n cap) bs)(o' eY p k:Nat)(Pm:p+k≤bs.length)(h1:k≠0→o'=o+p)(hc':k≤eY):lX M (.slice (Option.some ⟨b,o',none⟩) k eY) ((bs.drop p).take k):=by
 have hl:((bs.drop p).take k).length=k:=by rw[List.length_take,List.length_drop];omega
 by_cases h0:k=0
 ·grind [lX.nil]
 ·have:=h1 h0
  subst this
  obtain⟨a,A7,hv,_,h2|⟨b',o2,cs,ha,hm,ht⟩⟩:=h
  ·grind
  ·simp only[Value.slice.injEq]at hv
   obtain⟨rfl,_,rfl⟩:=hv
   simp only[Option.some.injEq,Addr.mk.injEq,and_true]at ha
   obtain⟨rfl,rfl⟩:=ha
   refine⟨_,eY,by rw[hl],by rw[hl];exact hc',.inr ⟨b,o+p,cs,rfl,hm,?_⟩⟩
   rw[hl,← List.drop_drop]
   have h3:=congrArg (fun l=>(l.drop p).take k) ht
   simp only[List.drop_take,List.take_take]at h3
   rw[show min k (bs.length-p)=k by omega]at h3
   rw[h3]
   simp only[bV,List.map_drop,List.map_take]
theorem lX.cut{M:fJ}{a:Option Addr}{n cap:Nat}{bs:List UInt8}(h:lX M (.slice a n cap) bs)(p k:Nat)(Pm:p+k≤bs.length):lX M (.slice (sliceAt a cap p 1) k (cap-p)) ((bs.drop p).take k):=by
 obtain⟨a',eY,hv,hc,h0⟩:=h
 simp only[Value.slice.injEq]at hv
 obtain⟨rfl,hn,rfl⟩:=hv
 by_cases hk:k=0
 ·grind [lX.nil]
 ·rcases h0 with h0|⟨b,o,cs,rfl,hm,ht⟩
  ·grind
  ·have e:sliceAt (Option.some ⟨b,o,none⟩) cap p 1=Option.some ⟨b,o+p,none⟩:=by
    grind [sliceAt,Addr.add_eq]
   rw[e]
   exact lX.piece (o:=o) (n:=bs.length) (cap:=cap) ⟨_,_,rfl,hc,.inr ⟨b,o,cs,rfl,hm,ht⟩⟩ _ _ p k Pm (fun _=>rfl) ai
def aS{α:Type}(g:α→HP)(l:List α):HP:=Sep (l.map g)
def kG{α:Type}(g:α→HP){l:List α}{i:Nat}{x:α}(hi:l[i]?=Option.some x)(H:List HP):ao (aS g l::H) (g x::aS g (l.eraseIdx i)::H):=fun h hs=>by
 refine⟨h,sub.refl h,jN (e9 (fun h hs=>?_) (fun _ h=>h) hs)⟩
 have h1:(l.map g)[i]?=Option.some (g x):=by simp[hi]
 have h2:=sg (cN h1) h hs
 rw[← l8]at h2
 exact h2
def rk{α:Type}(g:α→HP){l:List α}{i:Nat}{x:α}(hi:l[i]?=Option.some x)(H:List HP):ao (g x::aS g (l.eraseIdx i)::H) (aS g l::H):=fun h hs=>by
 refine⟨h,sub.refl h,e9 (fun h hs=>?_) (fun _ h=>h) (jA hs)⟩
 have h1:(l.map g)[i]?=Option.some (g x):=by simp[hi]
 refine sg (cN h1).symm h ?_
 rw[← l8]
 exact hs
theorem yT{α:Type}(g:α→HP){l:List α}{i:Nat}{x y:α}(hi:l[i]?=Option.some x)(H:List HP):ao (g y::aS g (l.eraseIdx i)::H) (aS g (l.set i y)::H):=by
 have cL:i<l.length:=by
  grind
 have h1:(l.set i y)[i]?=Option.some y:=by simp[cL]
 have h2:=rk g h1 H
 have h3:(l.set i y).eraseIdx i=l.eraseIdx i:=by
  grind
 rw[h3]at h2
 exact h2
def pC{α:Type}(g:α→HP)(x:α)(l:List α)(H:List HP):ao (g x::aS g l::H) (aS g (x::l)::H):=fun h hs=>⟨h,sub.refl h,jA hs⟩
def yV{α:Type}{g:α→HP}{l:List α}{x:α}(hx:x∈l){h:Hp}(hs:aS g l h):∃h',sub h' h∧g x h':=Bk (List.mem_map.2 ⟨x,hx,rfl⟩) hs
def xx(e:TypeId)(H:List HP):ao H (a7 e []::H):=ao.lj H
def yU{α:Type}(g:α→HP)(H:List HP):ao H (aS g []::H):=ao.lj H
structure Ab where
 room:Nat
 fs:List (Nat × List UInt8 × List UInt8)
 names:List (ByteArray × Nat)
 aV:List (List (ByteArray × Nat))
 writes:List (Nat × Nat × List UInt8)
 dN:List UInt8
 off:Bool
namespace Ab
def meet(A:Ab)(may:Bool):Nat × Ab :=
 if may=false then(1,A)else if A.off=true then(7,A)else match A.dN with
 | []=>(0,A)
 | x::p=>if x=1 then(6,{ A with dN:=p })else if x=2 then(7,{ A with dN:=p,off:=true })else(0,{ A with dN:=p })
def dy(l:List (ByteArray × Nat))(name:ByteArray):Option Nat:=(l.find? fun x=>decide (x.1=name)).map (·.2)
def look(A:Ab)(name:ByteArray):Option Nat:=dy A.names name
def file(A:Ab)(f:Nat):List UInt8 × List UInt8:=((A.fs.find? fun x=>decide (x.1=f)).map (·.2)).getD ([],[])
def now(A:Ab)(f:Nat):List UInt8:=(A.file f).1
def sure(A:Ab)(f:Nat):List UInt8:=(A.file f).2
def find(A:Ab)(name:ByteArray)(may:Bool):Nat × Option Nat × Ab :=
 if(A.meet may).1=0 then match (A.meet may).2.look name with
  | none=>(4,none,(A.meet may).2)
  | some f=>(0,some f,(A.meet may).2)
 else((A.meet may).1,none,(A.meet may).2)
def used(A:Ab):Nat:=(A.names.map fun x=>(A.now x.2).length).sum
def new(room:Nat):Ab:=⟨room,[],[],[[]],[],[],false⟩
def j0(l:List (ByteArray × Nat))(k:ByteArray)(f:Nat):List (ByteArray × Nat):=if(dy l k).isSome then l.map (fun x=>if x.1=k then(k,f)else x)else l++[(k,f)]
def ez(l:List (ByteArray × Nat))(k:ByteArray):List (ByteArray × Nat):=l.filter fun x => !decide (x.1=k)
def pV(A:Ab)(nm:List (ByteArray × Nat)):Ab:={ A with names:=nm,aV:=A.aV++[nm] }
def create(A:Ab)(ok:Bool)(name:ByteArray)(f:Nat):Nat × Ab :=
 if(A.meet ok).1=0 then
  if((A.meet ok).2.look name).isSome then(5,(A.meet ok).2)
  else if 200≤(A.meet ok).2.names.length then(3,(A.meet ok).2)
  else(0,{ (A.meet ok).2.pV ((A.meet ok).2.names++[(name,f)])with fs:=(f,[],[])::(A.meet ok).2.fs })
 else((A.meet ok).1,(A.meet ok).2)
def remove(A:Ab)(ok:Bool)(name:ByteArray):Nat × Ab:=match A.find name ok with
 | (0,some _,A1)=>(0,A1.pV (ez A1.names name))
 | (e,_,A1)=>(e,A1)
def rename(A:Ab)(ok:Bool)(old name:ByteArray):Nat × Ab:=match A.find old ok with
 | (0,some f,A1)=>(0,A1.pV (j0 (ez A1.names old) name f))
 | (e,_,A1)=>(e,A1)
def D8(fs:List (Nat × List UInt8 × List UInt8))(f:Nat)(n:List UInt8):List (Nat × List UInt8 × List UInt8):=fs.map fun x=>if x.1=f then(x.1,n,x.2.2)else x
def write(A:Ab)(ok:Bool)(name:ByteArray)(at_:Nat)(b:List UInt8):Nat × Ab :=
 if(A.find name ok).1=0 then match (A.find name ok).2.1 with
  | some f=>if(A.find name ok).2.2.room<(A.find name ok).2.2.used+(at_+b.length-((A.find name ok).2.2.now f).length)then(3,(A.find name ok).2.2)
   else(0,{ (A.find name ok).2.2 with fs:=D8 (A.find name ok).2.2.fs f (eU ((A.find name ok).2.2.now f) at_ b),writes:=(A.find name ok).2.2.writes++[(f,at_,b)] })
  | none=>(0,(A.find name ok).2.2)
 else((A.find name ok).1,(A.find name ok).2.2)
def size(A:Ab)(name:ByteArray):Nat × Nat:=match A.look name with
 | none=>(0,4)
 | some f=>((A.now f).length,0)
def read(A:Ab)(name:ByteArray)(at_ n:Int):List UInt8 × Nat :=
 if A.off=true then([],7)else match A.look name with
  | none=>([],4)
  | some f=>if at_<0∨n<0∨((A.now f).length:Int)<at_∨((A.now f).length:Int)-at_<n then([],1)else(((A.now f).drop at_.toNat).take n.toNat,0)
def cF(A:Ab):Nat × Ab:=if(A.meet true).1=0 then(0,{ (A.meet true).2 with aV:=[(A.meet true).2.names] })else((A.meet true).1,(A.meet true).2)
def oh(fs:List (Nat × List UInt8 × List UInt8))(f:Nat):List (Nat × List UInt8 × List UInt8):=fs.map fun x=>if x.1=f then(x.1,x.2.1,x.2.1)else x
def sync(A:Ab)(ok:Bool)(name:ByteArray):Nat × Ab :=
 if(A.find name ok).1=0 then match (A.find name ok).2.1 with
  | some f=>(0,{ (A.find name ok).2.2 with fs:=oh (A.find name ok).2.2.fs f,writes:=(A.find name ok).2.2.writes.filter fun x => !decide (x.1=f) })
  | none=>(0,(A.find name ok).2.2)
 else((A.find name ok).1,(A.find name ok).2.2)
def kept(stay:List UInt8)(ac3 cut:Int)(i:Nat)(b:List UInt8):Option (List UInt8) :=
 if(i:Int)=ac3 then(let c:=b.take (max 0 (min cut b.length)).toNat;if c=[]then none else some c)
 else if(i/8<stay.length∧((stay.getD (i/8) 0).toNat/2 ^ (i%8))%2=1)then some b else none
end Ab
section
variable{P:Program}{U:Tr}[hU:eT P U]{f:FuncId}{n:Nat}{R:Ending→World→Prop}{G:ct}{k:List Item}{L:eH}{H H':List HP}{S:World→Prop}{all:Array Oper}{rest:Pl}{ty:TypeId}{pos:String}{af:Array Edge}{gd:Option (Nat × Bool)}{m:Bool}{d:Tmp}
def Av{t t2 elem rty:TypeId}{bO uN te:Ty}{v2:Value}{b o kk cap mm:Nat}{l news l':List Value}{e:TypeId}{A:HP}{w:World}(i j:Nat)(ht:U.get t=some bO)(hu:bO.eV = .slice elem)(h2:U.get t2=some uN)(HC:∀q,uN.eV ≠ .int q)(he:U.get elem=some te)(hw:Sat G w H)(hi:bZ H i=some (ae b (cl l e)))(hj:bZ H j=some A)(pN:Vw A v2 mm news)(mW:news.length=mm*te.info.size)(eM:∀u∈news,u.oneCell'=true)(nR:kk+mm≤cap)(tC:o+(kk+mm)*te.info.size≤l.length)(Fw:l'=l.take (o+kk*te.info.size)++news++l.drop (o+(kk+mm)*te.info.size)) :
  (Builtin.append_ #[t,t2] rty #[.slice (some ⟨b,o,none⟩) kk cap,v2]).run P w = .ok (.slice (some ⟨b,o,none⟩) (kk+mm) cap) { w with heap:=w.heap.setIfInBounds b (cl l' e) }:=by
 have hf:=kH (P:=P) pN hw hj mW
 have QT:(uN.eV matches .int _)=false:=by
  cases hq:uN.eV <;> first|rfl|exact absurd hq (HC _)
 have oL:∀ {w:World},(underlying t2).run P w = .ok uN.eV w:=fun {w}=>run_underlying h2 w
 obtain⟨a2,c2,YT,_⟩:=pN
 subst YT
 have dK:=eK (P:=P) news 0 (o+kk*te.info.size) l w (hw.qF hi) (by rw[mW];rw[Nat.add_mul]at tC;omega) eM
 have e1:o+kk*te.info.size+news.length=o+(kk+mm)*te.info.size:=by rw[mW,Nat.add_mul];omega
 simp only[Nat.add_zero,e1,← Fw]at dK
 simp[Builtin.append_,run_underlying ht,hu,run_sizeOf he,oL,QT,Builtin.lenOf,nR,hf,Addr.add_eq,dK]
theorem Gq{x y:Operand}{t t2 elem:TypeId}{bO uN te:Ty}{v2:Value}{b o kk cap mm:Nat}{l news l':List Value}{e:TypeId}{A:HP}(i j:Nat)(hd:Nat.blt d n=true)(hx:ev L x=some (.slice (some ⟨b,o,none⟩) kk cap))(hy:ev L y=some v2)(ht:U.get t=some bO)(hu:bO.eV = .slice elem)(h2:U.get t2=some uN)(HC:(match uN.eV with | .int _=>false|_=>true)=true)(he:U.get elem=some te)(hi:bZ H i=some (ae b (cl l e)))(hj:bZ H j=some A)(pN:Vw A v2 mm news)(mW:news.length=mm*te.info.size)(eM:∀u∈news,u.oneCell'=true)(nR:kk+mm≤cap)(tC:o+(kk+mm)*te.info.size≤l.length)(Fw:l'=l.take (o+kk*te.info.size)++news++l.drop (o+(kk+mm)*te.info.size))(hp:jO i (ae b (cl l' e)) H [] = .mk H')(hS:∀w,Sat G w H'→Sx rest S w)(h:J P f n R G S all rest k ((d,.slice (some ⟨b,o,none⟩) (kk+mm) cap)::L) H') :
  J P f n R G S all (.cons false true ⟨some d,.call { callee := .builtin .append,args := #[x,y],argTypes := #[t,t2] },ty,pos,af,gd⟩ rest) k L H:=by
 refine lV hd (fun u H1=>u = .slice (some ⟨b,o,none⟩) (kk+mm) cap∧H1=H') (fun a w ha hw=>?_) ?_ ?_
 ·have hr:=Av (P:=P) (rty:=ty) i j ht hu h2 (fun q e=>by rw[e]at HC;cases HC) he hw hi hj pN mW eM nR tC Fw
  refine⟨_,_,H',?_,⟨rfl,rfl⟩,hw.put hi hp⟩
  simp[execOp,resolve,invoke,builtin,ha.ev hx,ha.ev hy,hr]
 ·grind
 grind
theorem vq(z:Value)(q:Nat):(Builtin.zeroCells z.cells q).toList=(List.replicate q (bt z)).flatten:=by
 have qh:z.cells.size=(bt z).length:=by rw[dw];simp
 unfold Builtin.zeroCells
 simp only[Array.toList_map,Array.toList_range,qh]
 rw[dw]
 induction q with
 | zero=>simp
 | succ q ih =>
  rw[List.replicate_succ',List.flatten_append,← ih,Nat.succ_mul,List.range_add,List.map_append]
  congr 1
  simp only[List.map_map,List.flatten_cons,List.flatten_nil,List.append_nil]
  apply List.ext_getElem?
  intro j
  by_cases hj:j<(bt z).length
  ·simp only[List.getElem?_map,List.getElem?_range hj,Option.map_some,Function.comp]
   rw[Nat.mul_comm,Nat.mul_add_mod,Nat.mod_eq_of_lt hj]
   simp[hj]
  grind
theorem B5{t t2 elem rty:TypeId}{bO uN te:Ty}{z:Value}{a0:Option Addr}{kk cap mm:Nat}{q:IntKind}{cs:List Value}{A:HP}{w:World}(i:Nat)(ht:U.get t=some bO)(hu:bO.eV = .slice elem)(h2:U.get t2=some uN)(HC:uN.eV = .int q)(he:U.get elem=some te)(hz:te.info.zero=some z)(KE:(bt z).length=te.info.size)(iJ:0<te.info.size)(hw:Sat G w H)(hi:bZ H i=some A)(hv:Vw A (.slice a0 kk cap) kk cs)(hl:cs.length=kk*te.info.size)(MZ:cap<kk+mm)(CP:0<mm)(Ji:kk+mm≤9223372036854775807)(hmm:mm*te.info.bytes≤140737488355328)(oR:(kk+mm)*te.info.bytes≤140737488355328) :
  (Builtin.append_ #[t,t2] rty #[.slice a0 kk cap,.int .i64 (mm:Int)]).run P w = .ok (.slice (some ⟨w.heap.size,0,none⟩) (kk+mm) (grownCap w (kk+mm) cap elem))
   (w.drew.alloc (cl (cs++(List.replicate mm (bt z)).flatten++(Builtin.zeroCells z.cells (grownCap w (kk+mm) cap elem-(kk+mm))).toList) elem)):=by
 have oL:∀ {w:World},(underlying t2).run P w = .ok uN.eV w:=fun {w}=>run_underlying h2 w
 have QT:(uN.eV matches .int _)=true:=by rw[HC]
 have MY:¬kk+mm≤cap:=by omega
 have hgs:=growslice_fits (need:=kk+mm) (old:=cap) (bytes:=te.info.bytes) ai oR
 have wH:=kH (P:=P) (G:=G) (w:=w.drew) hv (hw.draw _) hi hl
 have Fv:¬((9223372036854775807:Int)<(kk:Int)+(mm:Int)):=by omega
 have Zi:¬281474976710656<Builtin.nextslicecap (kk+mm) cap*te.info.bytes:=by omega
 have xV:IntKind.i64.wrap (mm:Int)=mm:=dx (by simp only[fz];omega)
 have adR:¬((mm:Int)<0):=by omega
 have rR:¬((281474976710656:Int)<(mm:Int)*(te.info.bytes:Int)):=by
  grind
 have fu:¬(mm*te.info.size=0):=Nat.ne_of_gt (Nat.mul_pos CP iJ)
 have hzc:=vq z mm
 simp[Builtin.append_,run_underlying ht,hu,run_sizeOf he,oL,QT,asInt,asIntOf,xV,adR,rR,MY,Fv,Zi,Question.forced,run_typeInfo he,dD he hz,newRow,wH,grownCap,cl,fu,HC]
 congr 2
 apply Array.ext'
 simp[hzc]
theorem Ks{x y:Operand}{t t2 elem:TypeId}{bO uN te:Ty}{z:Value}{a0:Option Addr}{kk cap mm:Nat}{q:IntKind}{cs:List Value}{A:HP}(i:Nat)(hd:Nat.blt d n=true)(hx:ev L x=some (.slice a0 kk cap))(hy:ev L y=some (.int .i64 (mm:Int)))(ht:U.get t=some bO)(hu:bO.eV = .slice elem)(h2:U.get t2=some uN)(HC:uN.eV = .int q)(he:U.get elem=some te)(hz:te.info.zero=some z)(KE:Nat.beq (bt z).length te.info.size=true)(iJ:Nat.blt 0 te.info.size=true)(hi:bZ H i=some A)(hv:Vw A (.slice a0 kk cap) kk cs)(hl:cs.length=kk*te.info.size)(MZ:cap<kk+mm)(CP:0<mm)(Ji:kk+mm≤9223372036854775807)(hmm:mm*te.info.bytes≤140737488355328)(oR:(kk+mm)*te.info.bytes≤140737488355328)(hS:∀v' w,Sat G w (aB elem te.info.size v' (kk+mm) (cs++(List.replicate mm (bt z)).flatten)::H)→Sx rest S w)(h:∀v',J P f n R G S all rest k ((d,v')::L) (aB elem te.info.size v' (kk+mm) (cs++(List.replicate mm (bt z)).flatten)::H)) :
  J P f n R G S all (.cons false true ⟨some d,.call { callee := .builtin .append,args := #[x,y],argTypes := #[t,t2] },ty,pos,af,gd⟩ rest) k L H:=by
 refine lV hd (fun u H1=>H1=aB elem te.info.size u (kk+mm) (cs++(List.replicate mm (bt z)).flatten)::H) (fun a w ha hw=>?_) ?_ ?_
 ·have hr:=B5 (P:=P) (rty:=ty) i ht hu h2 HC he hz (Nat.eq_of_beq_eq_true KE) (by simpa[Nat.blt_eq]using iJ) hw hi hv hl MZ CP Ji hmm oR
  refine⟨.slice (some ⟨w.heap.size,0,none⟩) (kk+mm) (grownCap w (kk+mm) cap elem),w.drew.alloc (cl (cs++(List.replicate mm (bt z)).flatten++(Builtin.zeroCells z.cells (grownCap w (kk+mm) cap elem-(kk+mm))).toList) elem),_,?_,rfl,?_⟩
  ·simp[execOp,resolve,invoke,builtin,ha.ev hx,ha.ev hy,hr]
  ·have h5:=Sat.alloc (w:=w.drew) (hw.draw _) (cl (cs++(List.replicate mm (bt z)).flatten++(Builtin.zeroCells z.cells (grownCap w (kk+mm) cap elem-(kk+mm))).toList) elem)
   refine h5.cu (ao.fold (B:=[_]) fun h hs=>⟨h,sub.refl h,?_⟩)
   have ep:=grownCap_ge w (kk+mm) cap elem
   have Z9:(List.replicate mm (bt z)).flatten.length=mm*te.info.size:=by rw[iZ,Nat.eq_of_beq_eq_true KE]
   refine⟨by simp only[List.length_append,hl,Z9,Nat.add_mul],.inr ⟨w.heap.size,0,_,[],_,rfl,rfl,ep,?_,by simpa using dp hs⟩⟩
   have h7:(Builtin.zeroCells z.cells (grownCap w (kk+mm) cap elem-(kk+mm))).size=(grownCap w (kk+mm) cap elem-(kk+mm))*te.info.size:=by rw[size_zeroCells,dw];simp[Nat.eq_of_beq_eq_true KE]
   rw[List.length_append,hl,Z9,Array.length_toList,h7,← Nat.add_mul,← Nat.add_mul]
   grind
 ·grind
 grind
theorem NY{t elem:TypeId}{bO te:Ty}{x lo hi mx:Operand}{a0:Option Addr}{len cap:Nat}{p q r:Int}{j1 j2 j3:IntKind}(hd:Nat.blt d n=true)(ht:U.get t=some bO)(hu:bO.eV = .slice elem)(he:U.get elem=some te)(hx:ev L x=some (.slice a0 len cap))(u7:ev L lo=some (.int j1 p))(Eb:ev L hi=some (.int j2 q))(hmx:ev L mx=some (.int j3 r))(h0:0≤p)(MJ:p≤q)(hqr:q≤r)(Oi:r≤(cap:Int))(h:J P f n R G S all rest k ((d,.slice (sliceAt a0 r.toNat p.toNat te.info.size) (q.toNat-p.toNat) (r.toNat-p.toNat))::L) H) :
  J P f n R G S all (.cons m true ⟨some d,.slice t x (some lo) (some hi) (some mx),ty,pos,af,gd⟩ rest) k L H:=by
 refine cS hd (fun a ha w=>?_) h
 have hb:(Instr.sliceBounds true len cap (some (a.eval lo)) (some (a.eval hi)) (some (a.eval mx))).run P w = .ok (p.toNat,q.toNat,r.toNat) w:=by
  unfold Instr.sliceBounds
  have e1:0≤r∧r≤(cap:Int):=⟨ai,Oi⟩
  have e2:0≤q∧q≤((r.toNat:Nat):Int):=⟨ai,ai⟩
  have e3:0≤p∧p≤((q.toNat:Nat):Int):=⟨h0,ai⟩
  have e4:q≤max r 0:=by omega
  have e5:p≤max q 0:=by omega
  have e6:0≤q:=by omega
  simp[ha.ev u7,ha.ev Eb,ha.ev hmx,Instr.sliceBound,asIntOf,e1,e2,e3,e4,e5,e6]
 simp only[execOp,ha.ev hx,Instr.sliceAt,Sem.run_bind,run_underlying ht,Result.andThen_ok,hu,Instr.slice,Option.map_some,hb,run_sizeOf he,Sem.run_pure,sliceAt]
 grind
def Rg{x:Operand}{t:TypeId}{bO:Ty}{e:TypeId}{a0:Option Addr}{len cap:Nat}(hd:Nat.blt d n=true)(hx:ev L x=some (.slice a0 len cap))(ht:U.get t=some bO)(hu:bO.eV = .slice e)(h:J P f n R G S all rest k ((d,.int .i64 (cap:Int))::L) H):J P f n R G S all (.cons m true ⟨some d,.call { callee := .builtin .cap,args := #[x],argTypes := #[t] },ty,pos,af,gd⟩ rest) k L H:=by
 refine cS hd (fun a ha w=>?_) h
 simp[execOp,resolve,invoke,builtin,ha.ev hx,Builtin.cap_,run_underlying ht,hu,goInt]
end
end Go.SL
namespace Go.SL
theorem Vw.front{A:HP}{b o n cap:Nat}{cs:List Value}(h:Vw A (.slice (Option.some ⟨b,o,none⟩) n cap) n cs)(i eY q:Nat):Vw A (.slice (Option.some ⟨b,o,none⟩) i eY) i (cs.take q):=by
 obtain⟨a,A7,hv,h0|⟨b',o',ha,hc⟩⟩:=h
 ·subst h0;exact⟨_,eY,rfl,.inl (by simp)⟩
 ·simp only[Value.slice.injEq,true_and]at hv
  obtain⟨rfl,_⟩:=hv
  simp only[Option.some.injEq,Addr.mk.injEq,and_true]at ha
  obtain⟨rfl,rfl⟩:=ha
  refine⟨_,eY,rfl,.inr ⟨b,o,rfl,fun h hA j c hj=>?_⟩⟩
  grind
theorem Vw.back{A:HP}{b o n cap:Nat}{cs:List Value}(h:Vw A (.slice (Option.some ⟨b,o,none⟩) n cap) n cs)(i eY q:Nat):Vw A (.slice (Option.some ⟨b,o+q,none⟩) i eY) i (cs.drop q):=by
 obtain⟨a,A7,hv,h0|⟨b',o',ha,hc⟩⟩:=h
 ·subst h0;exact⟨_,eY,rfl,.inl (by simp)⟩
 ·simp only[Value.slice.injEq,true_and]at hv
  obtain⟨rfl,_⟩:=hv
  simp only[Option.some.injEq,Addr.mk.injEq,and_true]at ha
  obtain⟨rfl,rfl⟩:=ha
  refine⟨_,eY,rfl,.inr ⟨b,o+q,rfl,fun h hA j c hj=>?_⟩⟩
  grind
theorem kq(b o cap p sz:Nat)(h:p≠cap):sliceAt (some ⟨b,o,none⟩) cap p sz=some ⟨b,o+p*sz,none⟩:=by
 grind [sliceAt,Addr.add_eq]
section
variable{P:Program}{U:Tr}[hU:eT P U]{f:FuncId}{n:Nat}{R:Ending→World→Prop}{G:ct}{k:List Item}{L:eH}{H H':List HP}{S:World→Prop}{all:Array Oper}{rest:Pl}{ty:TypeId}{pos:String}{af:Array Edge}{gd:Option (Nat × Bool)}{m:Bool}{d:Tmp}
def jJ{e:TypeId}{sz nn:Nat}{v:Value}{cs:List Value}(i:Nat)(hi:bZ H i=some (aB e sz v nn cs))(h0:0<nn)(h:∀b o c,v = .slice (some ⟨b,o,none⟩) nn c→nn≤c→cs.length=nn*sz→Vw (aB e sz v nn cs) v nn cs→K P f n R G k L H):K P f n R G k L H :=
 pn fun⟨w,hw⟩=>by
  obtain⟨h1,_,hA⟩:=hw.jF hi
  have hv:=Vw.l7 e sz v nn cs ⟨h1,hA⟩
  obtain⟨hl,⟨a,rfl,rfl,_⟩|⟨b,o,cap,pre,junk,rfl,_,hc,_⟩⟩:=hA
  ·omega
  ·exact h _ _ _ rfl hc hl hv
def y3{e:TypeId}{b o c nn sz:Nat}{cs:List Value}(h0:0<nn):∀h,aB e sz (.slice (some ⟨b,o,none⟩) nn c) nn cs h→∃x:List Value × List Value,(x.1.length=o∧nn≤c∧c*sz≤cs.length+x.2.length∧cs.length=nn*sz)∧Sep [ae b (cl (x.1++cs++x.2) e)] h:=by
 rintro h⟨hl,⟨a,hv,rfl,he⟩|⟨b',o',cap,pre,junk,hv,hp,hn,hc,u5⟩⟩
 ·omega
 ·simp only[Value.slice.injEq,Option.some.injEq,Addr.mk.injEq,and_true,true_and]at hv
  obtain⟨⟨rfl,rfl⟩,rfl⟩:=hv
  exact⟨(pre,junk),⟨hp,hn,hc,hl⟩,dG u5⟩
theorem kp(b o cap sz:Nat):sliceAt (some ⟨b,o,none⟩) cap 0 sz=some ⟨b,o,none⟩:=by
 grind [sliceAt,Addr.add_eq]
theorem H0{x y:Operand}{t t2 elem:TypeId}{bO te:Ty}{v2:Value}{b o dl dc mm:Nat}{l src l':List Value}{e:TypeId}{A:HP}(i j:Nat)(hd:Nat.blt d n=true)(hx:ev L x=some (.slice (some ⟨b,o,none⟩) dl dc))(hy:ev L y=some v2)(ht:U.get t=some bO)(hu:bO.eV = .slice elem)(he:U.get elem=some te)(hi:bZ H i=some (ae b (cl l e)))(hj:bZ H j=some A)(pN:Vw A v2 mm src)(mW:src.length=mm*te.info.size)(eM:∀u∈src.take (min mm dl*te.info.size),u.oneCell'=true)(tC:o+(min mm dl)*te.info.size≤l.length)(Fw:l'=l.take o++src.take (min mm dl*te.info.size)++l.drop (o+min mm dl*te.info.size))(hp:jO i (ae b (cl l' e)) H [] = .mk H')(hS:∀w,Sat G w H'→Sx rest S w)(h:J P f n R G S all rest k ((d,.int .i64 (min mm dl:Nat))::L) H') :
  J P f n R G S all (.cons false true ⟨some d,.call { callee := .builtin .copy,args := #[x,y],argTypes := #[t,t2] },ty,pos,af,gd⟩ rest) k L H:=by
 refine lV hd (fun u H1=>u = .int .i64 (min mm dl:Nat)∧H1=H') (fun a w ha hw=>?_) ?_ ?_
 ·have hf:=vU (P:=P) (q:=min mm dl) pN hw hj mW (Nat.min_le_left _ _)
  obtain⟨a2,c2,YT,_⟩:=pN
  subst YT
  have h3:(src.take (min mm dl*te.info.size)).length=min mm dl*te.info.size:=by rw[List.length_take,mW];exact Nat.min_eq_left (Nat.mul_le_mul_right _ (Nat.min_le_left _ _))
  have dK:=eK (P:=P) (src.take (min mm dl*te.info.size)) 0 o l w (hw.qF hi) (by rw[h3];simpa using tC) eM
  simp only[Nat.add_zero,h3,← Fw]at dK
  refine⟨_,_,H',?_,⟨rfl,rfl⟩,hw.put hi hp⟩
  simp only[execOp,resolve,invoke,builtin,Sem.run_bind,Sem.run_pure,Result.andThen_ok,List.map_toArray,List.map_cons,List.map_nil,ha.ev hx,ha.ev hy,Builtin.copy_,List.getElem?_toArray,List.getElem?_cons_zero,List.getElem?_cons_succ,
   run_underlying ht,hu,Builtin.lenOf,run_sizeOf he]
  rw[show Nat.min mm dl=min mm dl from rfl]
  simp only[hf,Result.andThen_ok,dK,goInt]
 ·grind
 grind
end
end Go.SL
namespace Go.SL
def Qj{P:Program}{f:FuncId}{n:Nat}{R:Ending→World→Prop}{G:ct}{k:List Item}{L:eH}{H:List HP}{e:TypeId}{sz nn c:Nat}{a:Option Addr}{cs:List Value}(i:Nat)(hi:bZ H i=some (aB e sz (.slice a nn c) nn cs))(h:nn≤c→cs.length=nn*sz→Vw (aB e sz (.slice a nn c) nn cs) (.slice a nn c) nn cs→K P f n R G k L H):K P f n R G k L H :=
 pn fun⟨w,hw⟩=>by
  obtain⟨h1,_,hA⟩:=hw.jF hi
  have hv:=Vw.l7 e sz _ nn cs ⟨h1,hA⟩
  obtain⟨hl,⟨a,mH,rfl,_⟩|⟨b,o,cap,pre,junk,mH,_,hc,_⟩⟩:=hA
  ·simp only[Value.slice.injEq]at mH;exact h ai hl hv
  ·simp only[Value.slice.injEq]at mH;exact h ai hl hv
def Vw.acG{A:HP}{a:Option Addr}{n cap s:Nat}{cs:List Value}(h:Vw A (.slice a n cap) n cs)(k:Nat):Vw A (.slice (sliceAt a cap 0 s) k cap) k (cs.take (k*s)):=by
 have h':=h
 obtain⟨a',A7,hv,h0|⟨b',o',ha,hc⟩⟩:=h
 ·subst h0;exact⟨_,cap,rfl,.inl (by simp)⟩
 ·simp only[Value.slice.injEq,true_and]at hv
  obtain⟨rfl,_⟩:=hv
  subst ha
  rw[kp]
  exact h'.front k cap (k*s)
def Vw.JM{A:HP}{a:Option Addr}{n cap s:Nat}{cs:List Value}(h:Vw A (.slice a n cap) n cs)(hl:cs.length=n*s)(hn:n≤cap)(k:Nat)(hk:k≤n):Vw A (.slice (sliceAt a cap k s) (n-k) (cap-k)) (n-k) (cs.drop (k*s)):=by
 have h':=h
 obtain⟨a',A7,hv,h0|⟨b',o',ha,hc⟩⟩:=h
 ·subst h0;exact⟨_,_,rfl,.inl (by simp)⟩
 ·simp only[Value.slice.injEq,true_and]at hv
  obtain⟨rfl,_⟩:=hv
  subst ha
  by_cases MU:k=cap
  ·have:cs.drop (k*s)=[]:=List.eq_nil_of_length_eq_zero (by rw[List.length_drop,hl,MU,show n=cap from by omega];omega)
   rw[this];exact⟨_,_,rfl,.inl rfl⟩
  ·rw[kq _ _ _ _ _ MU]
   exact h'.back (n-k) (cap-k) (k*s)
section
variable{P:Program}{U:Tr}[hU:eT P U]{f:FuncId}{n:Nat}{R:Ending→World→Prop}{G:ct}{k:List Item}{L:eH}{H H':List HP}{S:World→Prop}{all:Array Oper}{rest:Pl}{ty:TypeId}{pos:String}{af:Array Edge}{gd:Option (Nat × Bool)}{m:Bool}{d:Tmp}
theorem DG{t:TypeId}{x y:Operand}{b o q off c nn sz:Nat}{bO:Ty}{u:Value}{e:TypeId}{cs:List Value}(i:Nat)(hS:∀w,Sat G w H'→Sx rest S w)(hx:ev L x=some (.pointer (some ⟨b,off,none⟩)))(jR:off=o+q)(hy:ev L y=some u)(ht:U.get t=some bO)(iJ:Nat.beq bO.info.size 1=true)(hc:bt u=[u])(eM:gF [u]=true)(hi:bZ H i=some (aB e sz (.slice (some ⟨b,o,none⟩) nn c) nn cs))(h0:0<nn)(hq:q<nn*sz)(hp:jO i (aB e sz (.slice (some ⟨b,o,none⟩) nn c) nn (cs.set q u)) H [] = .mk H')(h:J P f n R G S all rest k L H'):J P f n R G S all (.cons false true ⟨none,.store t x y,ty,pos,af,gd⟩ rest) k L H:=by
 subst jR
 refine aN (ao.perm (cN (by rw[← dm];exact hi))) ?_
 refine NZ (B:=fun x:List Value × List Value=>[ae b (cl (x.1++cs++x.2) e)]) (fun h hs=>y3 h0 h hs) ?_
 rintro⟨pre,junk⟩⟨h1,h2,h3,h4⟩
 simp only at h1 h2 h3 h4
 have iW:(pre++cs++junk).set (o+q) u=pre++cs.set q u++junk:=by
  grind
 have hE:ao (ae b (cl (pre++cs.set q u++junk) e)::H.eraseIdx i) H':=by
  have h5:=np i _ _ H [] H' hp hi
  exact(gq h1 h2 (by rw[List.length_set];exact h3) (by rw[List.length_set];exact h4) _).trans (ao.perm (by simpa using h5.symm))
 refine ei (U:=U) (l':=pre++cs.set q u++junk) 0 (fun w hw=>hS w (hw.cu hE)) hx hy ht (by rw[hc,Nat.eq_of_beq_eq_true iJ];rfl) (by rw[hc];rfl) (by rw[hc];exact eM) rfl ?_ rfl (aN hE h)
 grind [GU]
end
end Go.SL
